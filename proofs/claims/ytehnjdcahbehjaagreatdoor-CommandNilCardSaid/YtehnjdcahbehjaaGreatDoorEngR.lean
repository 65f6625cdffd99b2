/- The engine, part R: new slices of zeros, appends. -/
import Derived.Test.YtehnjdcahbehjaaGreatDoorEngQ
namespace Go.Eng
open Go
set_option linter.unusedSimpArgs false
set_option linter.unusedVariables false

section
variable {P : Program} {E : TT} {o : Oper} {t : List (Nat × AV)} {h : List (Nat × Ent)} {nn : Nat} {K : Con → Prop}

theorem wrap_i64 {n : Int} (h0 : 0 ≤ n) (h1 : n ≤ maxLen) : IntKind.i64.wrap n = n := by
  simp only [maxLen] at h1
  simp [IntKind.wrap, IntKind.signed, IntKind.bits, Int.bmod]
  omega

theorem flatten_take {α : Type _} (z : List α) : ∀ (m n : Nat), n ≤ m → (List.replicate m z).flatten.take (n * z.length) = (List.replicate n z).flatten
  | m, 0, _ => by simp
  | 0, n + 1, h => by omega
  | m + 1, n + 1, h => by
    rw [List.replicate_succ, List.flatten_cons, List.replicate_succ, List.flatten_cons, Nat.succ_mul, Nat.add_comm (n * z.length), List.take_length_add_append, flatten_take z m n (by omega)]

theorem ok_makeSlice (hE : E.Ok P) (hb : ∀ i e, get h i = some e → i < nn) {T : Nat} {l c : Operand} (ho : o.op = .makeSlice T l c)
    (hv : withV t l fun l => withV t c fun c => makeSliceVC E T l c nn K) : ∃ c, Good P o t h nn c ∧ K c := by
  obtain ⟨lv, hlv, hv⟩ := withV_elim hv
  obtain ⟨cv, hcv, hv⟩ := withV_elim hv
  unfold makeSliceVC at hv
  split at hv
  · rename_i i k n _ k' m _ hl hi1 hi2
    have f := TI.facts (TT.look_ok hE hl)
    obtain ⟨d, hd, _, hu⟩ := f.und
    split at hv
    · rename_i elem hkk
      rw [hkk] at hd
      obtain ⟨elem', rfl⟩ : ∃ b, d = .slice b := by cases d <;> simp [TK.is] at hd; exact ⟨_, rfl⟩
      obtain rfl := Nat.eq_of_beq_eq_true (show Nat.beq elem elem' = true from hd)
      split at hv
      · rename_i ie hle
        have te := TI.facts (TT.look_ok hE hle)
        obtain ⟨z, hz, hzc, _⟩ := te.zero
        obtain ⟨ti, hti, hts, htb⟩ := te.info
        have hzl := zeroCells_length hzc
        rw [te.zlen] at hzl
        have hs : ie.size = z.cells.size := by simpa using hzl
        obtain ⟨⟨h0, hnm, hby, hmx, hpos⟩, α, enc, zs, ⟨hzlen, hzenc⟩, hv⟩ := hv
        refine ⟨_, good_fresh hb (fun _ _ he => by simp [get] at he) fun ρ F a w hop _ => ?_, hv⟩
        obtain ⟨ul, hul, el⟩ := hop l (by simp [ho, Op.operands]) _ hlv
        obtain ⟨uc, huc, ec⟩ := hop c (by simp [ho, Op.operands]) _ hcv
        obtain rfl := intOf?_conc hi1 hul
        obtain rfl := intOf?_conc hi2 huc
        have hcells : ∀ k, concL (fun _ => none) ((List.replicate k ie.zero).flatten) = some (List.replicate k z.cells.toList).flatten := by
          intro k
          induction k with
          | zero => rfl
          | succ k ih =>
            rw [List.replicate_succ, List.flatten_cons, List.replicate_succ, List.flatten_cons]
            exact concL_append.2 ⟨_, _, (zeroCells_conc _ hzc).1, ih, rfl⟩
        have hfm : normL (zs.flatMap enc) = normL (List.replicate n.toNat ie.zero).flatten := by
          rw [← hzlen]
          clear hzlen hv
          induction zs with
          | nil => rfl
          | cons y ys ih =>
            rw [List.flatMap_cons, normL_append, hzenc y List.mem_cons_self, ih (fun y' hy' => hzenc y' (List.mem_cons_of_mem _ hy')), List.length_cons, List.replicate_succ, List.flatten_cons, normL_append]
        have hlen : ∀ k, (List.replicate k z.cells.toList).flatten.length = k * ie.size := by
          intro k; rw [hs]; simp
        have hm0 : 0 ≤ m := by omega
        have w1 := wrap_i64 h0 (by omega)
        have w2 := wrap_i64 hm0 hmx
        have hmod : ((Array.range (m.toNat * ie.size)).map (fun i => z.cells[i % z.cells.size]!)).toList = (List.replicate m.toNat z.cells.toList).flatten := by
          rw [hs, Array.toList_map, Array.toList_range]
          exact map_mod _ (by omega)
        have harr : (Array.range (m.toNat * ie.size)).map (fun i => z.cells[i % z.cells.size]!) = (List.replicate m.toNat z.cells.toList).flatten.toArray := by
          apply Array.toList_inj.1; rw [hmod]
        refine ⟨w.alloc (.cells (List.replicate m.toNat z.cells.toList).flatten.toArray elem), .slice (some ⟨w.heap.size, 0, none⟩) zs.length m.toNat, fun b => b = w.heap.size, ?_, rfl,
          row_alloc ⟨by rw [like_concL hfm]; exact hcells _, fun y hy => by rw [like_length (hzenc y hy), te.zlen]⟩ (fun u hu => ?_) (by omega) (by omega) (hlen _) (by rw [hzlen, hs]; exact flatten_take z.cells.toList _ _ (by omega)), fun b hb' => ?_, rfl, rfl, rfl, by simp, fun b hb' => heap_alloc_old w _ hb'⟩
        · have hl1 : ¬ (m < 0) := by omega
          have hl2 : ¬ (281474976710656 < (ie.bytes : Int) * m) := by
            have : ((ie.bytes * m.toNat : Nat) : Int) = (ie.bytes : Int) * m := by rw [Int.natCast_mul, Int.toNat_of_nonneg hm0]
            omega
          have hl3 : ¬ (n < 0) := by omega
          have hl4 : ¬ (m < n) := by omega
          by_cases hz0 : m.toNat * ie.size = 0
          · have hm00 : m.toNat = 0 := by rcases Nat.mul_eq_zero.1 hz0 with h | h <;> omega
            have : m = 0 := by omega
            subst this
            have : n = 0 := by omega
            subst this
            have r0 : (Array.range 0 : Array Nat) = #[] := rfl
            simp [execOp, ho, el, ec, Instr.makeSlice, hu, asInt, asIntOf, typeInfo, hti, htb, w1, askRoom, te.size, newRow, hzlen, r0, roomBytes]
          · have hr : ∀ w', (askRoom (m.toNat * ie.bytes) : Sem Unit).run P w' = .ok () w' := by
              intro w'; unfold askRoom; split <;> rfl
            simp [execOp, ho, el, ec, Instr.makeSlice, hu, asInt, asIntOf, typeInfo, hti, htb, w1, w2, hl1, hl2, hl3, hl4, hr, te.size, hz0, hz, newRow, harr, hzlen]
        · simp only [List.mem_flatten, List.mem_replicate] at hu
          obtain ⟨x, ⟨_, rfl⟩, hx⟩ := hu
          exact (zeroCells_conc ρ hzc).2 u hx
        · subst hb'; exact ⟨by simp, .inl (Nat.le_refl _)⟩
      · exact hv.elim
    · exact hv.elim
  · exact hv.elim
end
end Go.Eng

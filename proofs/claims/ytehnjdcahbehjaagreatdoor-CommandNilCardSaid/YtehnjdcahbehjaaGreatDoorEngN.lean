/- The engine, part N: conversions. -/
import Derived.Test.YtehnjdcahbehjaaGreatDoorEngM
import Derived.Laws.IdiomStrings
import Derived.Laws.BytesArg
import Derived.Deep.AppendSrc
namespace Go.Eng
open Go
set_option linter.unusedSimpArgs false
set_option linter.unusedVariables false

section
variable {P : Program} {E : TT} {o : Oper} {t : List (Nat × AV)} {h : List (Nat × Ent)} {nn : Nat} {K : Con → Prop}

theorem bytes_conc (ρ : Names) : ∀ (l : List UInt8), concL ρ (l.flatMap byteAV) = some (l.map fun b => Value.int .u8 b.toNat)
  | [] => rfl
  | b :: l => by
    rw [List.flatMap_cons]
    exact concL_append.2 ⟨[.int .u8 b.toNat], _, rfl, bytes_conc ρ l, rfl⟩

theorem ok_convert (hE : E.Ok P) (hb : ∀ i e, get h i = some e → i < nn) {src dst : Nat} {x : Operand} (ho : o.op = .convert src dst x)
    (hv : withV t x fun a => convVC E src dst a h nn K) : ∃ c, Good P o t h nn c ∧ K c := by
  obtain ⟨v, hv, hk⟩ := withV_elim hv
  unfold convVC at hk
  split at hk
  · rename_i is id hls hld
    have fs := TI.facts (TT.look_ok hE hls)
    have fd := TI.facts (TT.look_ok hE hld)
    obtain ⟨ds, hds, hus', hus⟩ := fs.und
    obtain ⟨dd, hdd, hud', hud⟩ := fd.und
    split at hk
    · rename_i k hkk
      split at hk
      · rename_i k' n l hi
        rw [hkk] at hdd
        obtain rfl : dd = .int k := by cases dd <;> simp [TK.is] at hdd; rw [hdd]
        refine ⟨_, good_pure hb fun ρ a w hop => ?_, hk⟩
        obtain ⟨u, hu, he⟩ := hop x (by simp [ho, Op.operands]) _ hv
        obtain rfl := intOf?_conc hi hu
        refine ⟨_, mkInt_conc .., ?_⟩
        simp [execOp, ho, he, convert, hus, hud, Conv.intToInt]
      · exact hk.elim
    · rename_i b hkk
      rw [hkk] at hdd
      obtain rfl : dd = .string := by cases dd <;> simp [TK.is] at hdd; rfl
      refine ⟨_, good_pure hb fun ρ a w hop => ?_, hk⟩
      obtain ⟨u, hu, he⟩ := hop x (by simp [ho, Op.operands]) _ hv
      simp only [conc, Option.some.injEq] at hu
      subst hu
      refine ⟨_, rfl, ?_⟩
      simp [execOp, ho, he, convert, hus, hud]
    · rename_i i hkk
      rw [hkk] at hdd
      obtain rfl : dd = .string := by cases dd <;> simp [TK.is] at hdd; rfl
      split at hk
      · rename_i e wr T sz α enc l hsk hg
        rw [hsk] at hds
        obtain ⟨e', rfl⟩ : ∃ b, ds = .slice b := by cases ds <;> simp [TK.is] at hds; exact ⟨_, rfl⟩
        obtain rfl := Nat.eq_of_beq_eq_true (show Nat.beq e e' = true from hds)
        split at hk
        · rename_i ie hle
          have te := TI.facts (TT.look_ok hE hle)
          obtain ⟨de, hde, hue', hue⟩ := te.und
          split at hk
          · rename_i hke
            rw [hke] at hde
            obtain rfl : de = .int .u8 := by cases de <;> simp [TK.is] at hde; rw [hde]
            obtain ⟨bs, ⟨rfl, hbs⟩, hk⟩ := hk
            refine ⟨_, good_read hb (single_sub hg) fun ρ F a w hop hh => ?_, hk⟩
            obtain ⟨u, hu, he⟩ := hop x (by simp [ho, Op.operands]) _ hv
            obtain ⟨vr, hvr, hrow⟩ := hh.ents i _ (by rw [get_single, if_pos rfl])
            obtain ⟨_, ao, cap, cs, rfl, _, hr, _, hcell⟩ := row_at hrow
            simp only [conc, hvr, Value.oneCell', if_true, Option.some.injEq] at hu
            subst hu
            refine ⟨_, rfl, ?_⟩
            have hcs : cs = bs.map fun b => Value.int .u8 b.toNat := by
              have := hr.1
              rw [like_concL hbs, bytes_conc] at this
              exact (Option.some.inj this).symm
            have hlen : l.length = bs.length := by
              have := rowCells_length hr
              rw [hcs] at this
              simpa using this.symm
            have main : (convert src dst (.slice ao l.length cap)).run P w = .ok (.string ⟨bs.toArray⟩) w := by
              cases ao with
              | none =>
                have h0 : l.length = 0 := by
                  rcases Nat.eq_zero_or_pos l.length with h0 | h0
                  · exact h0
                  · obtain ⟨ad, h1, _⟩ := hcell h0; cases h1
                have : bs = [] := List.length_eq_zero_iff.1 (by omega)
                subst this
                rw [run_convert_bytes_nil w src e hus' hue' _ _ dst hud']; rfl
              | some ad =>
                rw [hlen]
                refine run_convert_bytes_back w src dst e ad cap bs hus' hue' hud' fun j hj => ?_
                obtain ⟨ad', h1, _, _, hc⟩ := hcell (by omega)
                cases h1
                exact hc j _ (by rw [hcs]; simp [hj])
            simp [execOp, ho, he, main]
          · exact hk.elim
        · exact hk.elim
      · exact hk.elim
    · rename_i e b hkk
      rw [hkk] at hdd
      obtain ⟨e', rfl⟩ : ∃ b, dd = .slice b := by cases dd <;> simp [TK.is] at hdd; exact ⟨_, rfl⟩
      obtain rfl := Nat.eq_of_beq_eq_true (show Nat.beq e e' = true from hdd)
      split at hk
      · rename_i ie hsk hle
        rw [hsk] at hds
        obtain rfl : ds = .string := by cases ds <;> simp [TK.is] at hds; rfl
        have te := TI.facts (TT.look_ok hE hle)
        obtain ⟨de, hde, hue', hue⟩ := te.und
        split at hk
        · rename_i hke
          rw [hke] at hde
          obtain rfl : de = .int .u8 := by cases de <;> simp [TK.is] at hde; rw [hde]
          obtain ⟨hmax, hk⟩ := hk
          refine ⟨_, good_fresh hb (fun _ _ he => by simp [get] at he) fun ρ F a w hop _ => ?_, hk⟩
          obtain ⟨u, hu, he⟩ := hop x (by simp [ho, Op.operands]) _ hv
          simp only [conc, Option.some.injEq] at hu
          subst hu
          have hrun := run_bytes_of_string (P := P) w src dst e b hus' hud' hue'
          have hge := grownCap_ge w b.size 0 e
          have hcm := grownCap_le_maxLen w b.size 0 e hmax
          have hbl : b.data.toList.length = b.size := by simp
          have hsz : (bytesRow b (grownCap w b.size 0 e)).size = grownCap w b.size 0 e := by
            simp [bytesRow]; omega
          refine ⟨w.drew.alloc (.cells (bytesRow b (grownCap w b.size 0 e)) e ((bytesRow b (grownCap w b.size 0 e)).size, (bytesRow b (grownCap w b.size 0 e)).size + 1)),
            .slice (some ⟨w.heap.size, 0, none⟩) b.size (grownCap w b.size 0 e), fun k => k = w.heap.size, by simp [execOp, ho, he, hrun], rfl, ?_, fun k hk' => ?_, rfl, rfl, rfl, by simp, fun k hk' => heap_alloc_old w.drew _ hk'⟩
          · refine (.inl ⟨_, ⟨bytes_conc _ _, fun _ _ => rfl⟩, fun u hu => ?_, ⟨?_, .inr ⟨w.heap.size, _, _, _, by rw [hbl], heap_alloc_new w.drew _, fun k hk' => ?_, by rw [hbl]; exact hge, hcm, ?_, ?_⟩⟩, fun k => ?_⟩)
            · obtain ⟨c, _, rfl⟩ := List.mem_map.1 hu; rfl
            · simp
            · simp only; omega
            · rw [hsz, Nat.mul_one]
            · rw [Nat.mul_one, bytesRow, Array.toList_append, List.take_append_of_le_length (by simp), Array.toList_map, List.take_of_length_le (by simp)]
            · show k = w.heap.size ↔ some w.heap.size = some k
              constructor
              · intro e; rw [e]
              · intro e; cases e; rfl
          · subst hk'; exact ⟨by simp, .inl (Nat.le_refl _)⟩
        · exact hk.elim
      · exact hk.elim
    · exact hk.elim
  · exact hk.elim
end
end Go.Eng

/- The engine, part M: new rows. -/
import Derived.Test.YtehnjdcahbehjaaGreatDoorEngK
namespace Go.Eng
open Go
set_option linter.unusedSimpArgs false
set_option linter.unusedVariables false

section
variable {P : Program} {E : TT} {o : Oper} {t : List (Nat × AV)} {h : List (Nat × Ent)} {nn : Nat} {K : Con → Prop}

theorem conc_addName {ρ : Names} {k : Nat} {v : Value} (h : v.oneCell' = true) : conc (addName ρ k v) (.ref k) = some v := by simp [conc, addName, h]

/-- an entry of its own for a new value -/
theorem good_fresh {pre : List (Nat × Ent)} {e : Ent} (hb : ∀ i e, get h i = some e → i < nn) (hpre : ∀ i e, get pre i = some e → get h i = some e)
    (hr : ∀ ρ F a w, Opnds o t ρ a → HeapOk ρ (get pre) F w → ∃ w' v G, (execOp a.eval o).run P w = .ok (.value v) w' ∧ v.oneCell' = true ∧ e.holds (addName ρ nn v) v w' G ∧
      (∀ b, G b → b < w'.heap.size ∧ (w.heap.size ≤ b ∨ (e.wr = false ∧ ∃ j ej, get pre j = some ej ∧ ej.wr = false ∧ F j b))) ∧
      w'.os = w.os ∧ w'.tape = w.tape ∧ w'.output = w.output ∧ w.heap.size ≤ w'.heap.size ∧ ∀ b, b < w.heap.size → w'.heap[b]? = w.heap[b]?) :
    Good P o t h nn ⟨pre, nn, nn + 1, .ref nn, [(nn, e)]⟩ := by
  refine good_of_run ⟨by simp, fun i ⟨hi, e2, he⟩ => ?_, fun i e2 he => ?_, fun i e2 he => hb i e2 (hpre i e2 he)⟩ hpre rfl fun ρ F a w ho hp => ?_
  · simp only [get_single] at he hi; split at he
    · omega
    · cases he
  · simp only [get_single] at he ⊢; split at he
    · omega
    · cases he
  · obtain ⟨w', v, G, hrun, h1, hh, hG, ho', ht, hout, hsz, hsame⟩ := hr ρ F a w ho hp.heap
    refine ⟨v, w', addName ρ nn v, fun _ => G, hrun, ⟨fun i hi => ?_, ho', ht, hout, hsz, fun b hb' _ => hsame b hb', ?_, fun i e2 he b hbb => ?_⟩, conc_addName h1⟩
    · unfold addName; rw [if_neg (by simp only at hi; omega)]
    · exact heapOk_single (by simp [addName]) hh fun b hbb => (hG b hbb).1
    · simp only [get_single] at he; split at he
      · cases he
        rcases (hG b hbb).2 with h2 | h2
        · exact .inl h2
        · exact .inr (.inr h2)
      · cases he

theorem get_pair {k k' : Nat} {a b : Ent} (i : Nat) : get [(k, a), (k', b)] i = if k = i then some a else if k' = i then some b else none := by rw [get_cons, get_single]

/-- an elder entry is turned, and there is a new one -/
theorem good_turnfresh {id : Nat} {pre : List (Nat × Ent)} {e0 e e' : Ent} (hb : ∀ i e, get h i = some e → i < nn) (hpre : ∀ i e, get pre i = some e → get h i = some e) (hg : get pre id = some e0) (hwr : e0.wr = true)
    (hr : ∀ ρ F a w, Opnds o t ρ a → HeapOk ρ (get pre) F w → ρ nn = none → ∃ w' v v0 G0 G, (execOp a.eval o).run P w = .ok (.value v) w' ∧ v.oneCell' = true ∧ ρ id = some v0 ∧ e'.holds (addName ρ nn v) v0 w' G0 ∧ e.holds (addName ρ nn v) v w' G ∧
      (∀ b, G0 b → F id b) ∧ (∀ b, G b → b < w'.heap.size ∧ (w.heap.size ≤ b ∨ F id b)) ∧ (e.wr = true ∨ e'.wr = true → ∀ b, G0 b → ¬ G b) ∧
      w'.os = w.os ∧ w'.tape = w.tape ∧ w'.output = w.output ∧ w.heap.size ≤ w'.heap.size ∧ ∀ b, b < w.heap.size → ¬ F id b → w'.heap[b]? = w.heap[b]?) :
    Good P o t h nn ⟨pre, nn, nn + 1, .ref nn, [(id, e'), (nn, e)]⟩ := by
  have hid := hb id e0 (hpre id e0 hg)
  refine good_of_run ⟨by simp, fun i ⟨hi, e2, he⟩ => ?_, fun i e2 he => ?_, fun i e2 he => hb i e2 (hpre i e2 he)⟩ hpre rfl fun ρ F a w ho hp => ?_
  · simp only [get_pair] at he hi; split at he
    · rename_i h2; subst h2; exact ⟨e0, hg, hwr⟩
    · split at he
      · omega
      · cases he
  · simp only [get_pair] at he ⊢; split at he
    · omega
    · split at he
      · omega
      · cases he
  · have hf := hp.fresh nn (by simp) (by simp)
    obtain ⟨w', v, v0, G0, G, hrun, h1, hv0, hh0, hh, hG0, hG, hap, ho', ht, hout, hsz, hsame⟩ := hr ρ F a w ho hp.heap hf
    have hw : ∀ b, F id b → b < w.heap.size := fun b hb' => hp.heap.low id e0 hg b hb'
    refine ⟨v, w', addName ρ nn v, fun i => if i = id then G0 else G, hrun, ⟨fun i hi => ?_, ho', ht, hout, hsz, fun b hb' hn => hsame b hb' (hn id ⟨hid, e', by simp [get_pair]⟩), ?_, fun i e2 he b hbb => ?_⟩, conc_addName h1⟩
    · unfold addName; rw [if_neg (by simp only at hi; omega)]
    · refine ⟨fun i e2 he => ?_, fun i j ei ej hij hi hj hwi b hbi hbj => ?_, fun i e2 he b hbb => ?_⟩
      · rw [get_pair] at he; split at he
        · rename_i h2; subst h2; cases he
          exact ⟨v0, addName_le hf _ _ hv0, by rw [if_pos rfl]; exact hh0⟩
        · rename_i hne
          split at he
          · rename_i h2; subst h2; cases he
            exact ⟨v, by simp [addName], by rw [if_neg (Ne.symm hne)]; exact hh⟩
          · cases he
      · rw [get_pair] at hi hj
        split at hi
        · rename_i h2; subst h2; cases hi
          rw [if_neg hij] at hj
          split at hj
          · rename_i h3; subst h3; cases hj
            rw [if_pos rfl] at hbi
            rw [if_neg (Ne.symm hij)] at hbj
            exact hap (.inr hwi) b hbi hbj
          · cases hj
        · split at hi
          · rename_i h3; subst h3; cases hi
            split at hj
            · rename_i h2; subst h2; cases hj
              rw [if_neg hij] at hbi
              rw [if_pos rfl] at hbj
              exact hap (.inl hwi) b hbj hbi
            · first | cases hj | (rw [if_neg hij] at hj; cases hj)
          · cases hi
      · rw [get_pair] at he
        split at hbb
        · have := hw b (hG0 b hbb); omega
        · exact (hG b hbb).1
    · have hid' : Con.wrs ⟨pre, nn, nn + 1, .ref nn, [(id, e'), (nn, e)]⟩ id := ⟨hid, e', by simp [get_pair]⟩
      split at hbb
      · exact .inr (.inl ⟨id, hid', hG0 b hbb⟩)
      · rcases (hG b hbb).2 with h2 | h2
        · exact .inl h2
        · exact .inr (.inl ⟨id, hid', h2⟩)

/-- zero cells, as many as are wanted -/
theorem map_mod {z : Array Value} : ∀ (n : Nat), 0 < z.size → (List.range (n * z.size)).map (fun i => z[i % z.size]!) = (List.replicate n z.toList).flatten := by
  intro n hz
  induction n with
  | zero => simp
  | succ n ih =>
    rw [show (n + 1) * z.size = z.size + n * z.size by rw [Nat.succ_mul, Nat.add_comm], List.range_add, List.map_append, List.map_map]
    rw [List.replicate_succ, List.flatten_cons, ← ih]
    congr 1
    · apply List.ext_getElem?
      intro i
      by_cases hi : i < z.size
      · simp [hi, Nat.mod_eq_of_lt hi]
      · simp [hi]
    · apply List.map_congr_left
      intro i _
      simp

theorem repE_conc {ρ : Names} {z : List AV} {cs : List Value} (hz : concL ρ z = some cs) : ∀ n, concL ρ (repE z n) = some (List.replicate n cs).flatten
  | 0 => by simp [repE, concL]
  | n + 1 => by
    rw [repE, List.replicate_succ, List.flatten_cons]
    exact concL_append.2 ⟨_, _, hz, repE_conc hz n, rfl⟩

theorem groups_ok {α : Type _} {sz : Nat} : ∀ {n : Nat} {C : List α} {g : List (List α)}, groups sz n C = some g → C.length = n * sz → g.flatten = C ∧ g.length = n ∧ ∀ x ∈ g, x.length = sz
  | 0, C, g, hg, hl => by
    simp only [groups, Option.some.injEq] at hg; subst hg
    have : C = [] := List.length_eq_zero_iff.1 (by omega)
    subst this
    simp
  | n + 1, C, g, hg, hl => by
    simp only [groups] at hg
    split at hg
    · rename_i a r ha hr
      split at hg
      · rename_i g' hg'
        cases hg
        obtain ⟨h1, h2⟩ := takeE_spec ha
        obtain ⟨h3, _⟩ := dropE_spec hr
        have hlr : r.length = n * sz := by rw [h3, List.length_drop, hl, Nat.succ_mul]; omega
        obtain ⟨h4, h5, h6⟩ := groups_ok hg' hlr
        refine ⟨?_, by simp [h5], fun x hx => ?_⟩
        · rw [List.flatten_cons, h4, h1, h3, List.take_append_drop]
        · rcases List.mem_cons.1 hx with rfl | hx
          · rw [h1, List.length_take]; omega
          · exact h6 x hx
      · cases hg
    · cases hg

theorem fillE_length {p : Nat → Option (Nat × Nat)} : ∀ {ps : List (Nat × AV)} {C C' : List AV}, fillE p C ps = some C' → C'.length = C.length
  | [], C, C', h => by simp only [fillE, Option.some.injEq] at h; subst h; rfl
  | (k, v) :: ps, C, C', h => by
    simp only [fillE] at h
    split at h
    · split at h
      · split at h
        · rename_i C2 hs
          have := fillE_length h
          obtain ⟨h1, h2⟩ := setE_spec hs
          rw [this, h1]; simp; omega
        · cases h
      · cases h
    · cases h

theorem repE_length (z : List AV) : ∀ n, (repE z n).length = n * z.length
  | 0 => by simp [repE]
  | n + 1 => by rw [repE, List.length_append, repE_length z n, Nat.succ_mul]; omega

theorem flatMap_raw : ∀ (g : List (List AV)), g.flatMap rawAV = g.flatten
  | [] => rfl
  | x :: g => by rw [List.flatMap_cons, List.flatten_cons, flatMap_raw g]; rfl

/-- the world with a new row in it -/
theorem row_alloc {ρ : Names} {w : World} {T sz : Nat} {α : Type} {enc : α → List AV} {l : List α} {cs all : List Value} {cap : Nat} (hr : rowCells sz enc l cs) (h1 : ∀ u ∈ cs, u.oneCell' = true)
    (hcap : l.length ≤ cap) (hm : cap ≤ maxLen) (hall : all.length = cap * sz) (htake : all.take (l.length * sz) = cs) :
    Ent.holds ρ (.row true T sz α enc l) (.slice (some ⟨w.heap.size, 0, none⟩) l.length cap) (w.alloc (.cells all.toArray T)) (fun b => b = w.heap.size) := by
  refine .inl ⟨cs, hr, h1, ⟨rowCells_length hr, .inr ⟨w.heap.size, cap, all.toArray, (0, 0), rfl, heap_alloc_new w _, by simp, hcap, hm, by simpa using hall, by simpa using htake⟩⟩, fun b => ?_⟩
  show b = w.heap.size ↔ some w.heap.size = some b
  constructor
  · intro e; rw [e]
  · intro e; cases e; rfl

theorem ok_buildSlice (hE : E.Ok P) (hb : ∀ i e, get h i = some e → i < nn) {T len : Nat} {ps : Array (Nat × Operand)} (ho : o.op = .buildSlice T len ps)
    (hv : buildSliceVC E T len ps.toList t nn K) : ∃ c, Good P o t h nn c ∧ K c := by
  unfold buildSliceVC at hv
  split at hv
  · rename_i i vs hl hvs
    have f := TI.facts (TT.look_ok hE hl)
    obtain ⟨d, hd, _, hu⟩ := f.und
    split at hv
    · rename_i elem hkk
      rw [hkk] at hd
      obtain ⟨elem', rfl⟩ : ∃ b, d = .slice b := by cases d <;> simp [TK.is] at hd; exact ⟨_, rfl⟩
      obtain rfl := Nat.eq_of_beq_eq_true (show Nat.beq elem elem' = true from hd)
      split at hv
      · rename_i ie hle
        have te := TI.facts (TT.look_ok hE hle)
        obtain ⟨z, hz, hzc, _⟩ := te.zero
        have hzl := zeroCells_length hzc
        rw [te.zlen] at hzl
        split at hv
        · rename_i C hf
          split at hv
          · rename_i hac hbl hble
            obtain ⟨α, enc, g, ⟨g1, g2, g3⟩, hv⟩ := hv
            have hle2 : len * (ie.size + 1) ≤ 16777216 := Nat.le_of_ble_eq_true hble
            rw [Nat.mul_succ] at hle2
            have hle' : len * ie.size ≤ 16777216 := by omega
            refine ⟨_, good_fresh hb (fun _ _ he => by simp [get] at he) fun ρ F a w hop _ => ?_, hv⟩
            obtain ⟨e1, e2⟩ := evParts_conc (ρ := ρ) (a := a) hvs fun x hx v hv => hop x.2 (by simp [ho, Op.operands]; exact ⟨x.1, Array.mem_toList_iff.1 hx⟩) v hv
            have hzero : ∀ zc : Array Value, (zc = if len * ie.size = 0 then #[] else z.cells) → ((Array.range (len * ie.size)).map (fun i => zc[i % zc.size]!)).toList = (List.replicate len z.cells.toList).flatten := by
              intro zc hzc'
              by_cases h0 : len * ie.size = 0
              · rw [h0]
                have : ∀ n, n * z.cells.toList.length = 0 → (List.replicate n z.cells.toList).flatten = [] := by
                  intro n hn
                  rcases Nat.mul_eq_zero.1 hn with hn | hn
                  · subst hn; rfl
                  · rw [List.length_eq_zero_iff.1 hn]; simp
                rw [this len (by rw [← hzl]; exact h0)]
                simp
              · rw [if_neg h0] at hzc'
                subst hzc'
                have hs : ie.size = z.cells.size := by simpa using hzl
                rw [hs] at h0 ⊢
                rw [Array.toList_map, Array.toList_range]
                exact map_mod len (Nat.pos_of_ne_zero fun e => h0 (by rw [e]; simp))
            have hzE := repE_conc (zeroCells_conc ρ hzc).1 len
            obtain ⟨cs', h1, h2⟩ := fillE_ok (q := fun i => some (i * ie.size, ie.size)) (fun k x hk => hk) hf
              (cs := (Array.range (len * ie.size)).map (fun i => (if len * ie.size = 0 then #[] else z.cells)[i % (if len * ie.size = 0 then #[] else z.cells).size]!)) (by rw [hzero _ rfl]; exact hzE) e1 e2
            have hCl : C.length = len * ie.size := by rw [fillE_length hf, repE_length, te.zlen]
            have h2' : concL (fun _ => none) (g.flatMap enc) = some cs'.toList := by
              rw [like_concL g1, concL_below (ρ' := ρ) (n := 0) (fun i hi => absurd hi (Nat.not_lt_zero i)) _ hbl]; exact h2
            have hcl := concL_length h2
            refine ⟨w.alloc (.cells cs'.toList.toArray elem), .slice (some ⟨w.heap.size, 0, none⟩) g.length len, fun b => b = w.heap.size, ?_, rfl,
              row_alloc ⟨h2', g3⟩ (allCell_conc hac h2) (by omega) ?_ (by rw [hcl, hCl]) (by rw [g2, List.take_of_length_le (by rw [hcl, hCl]; exact Nat.le_refl _)]), fun b hb' => ?_, rfl, rfl, rfl, by simp, fun b hb' => heap_alloc_old w _ hb'⟩
            · have hn : ¬ (16777216 < len * ie.size) := by omega
              by_cases h0 : len * ie.size = 0
              · have r0 : (Array.range 0 : Array Nat) = #[] := rfl
                rw [h0, r0, Array.map_empty] at h1
                have h1' := h1
                simp only [Array.toList_map] at h1'
                simp [execOp, ho, Instr.buildSlice, hu, te.size, h0, newRow, r0, h1, g2]
              · simp only [h0, if_false] at h1
                simp [execOp, ho, Instr.buildSlice, hu, te.size, hn, h0, hz, newRow, h1, g2]
            · simp only [maxLen]; omega
            · subst hb'; exact ⟨by simp, .inl (Nat.le_refl _)⟩
          · exact hv.elim
        · exact hv.elim
      · exact hv.elim
    · exact hv.elim
  · exact hv.elim
end
end Go.Eng

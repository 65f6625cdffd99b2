/- The engine, part H: the soundness of the operations on memory: new blocks, loads, stores. -/
import Derived.Test.YtehnjdcahbehjaaGreatDoorEngG
namespace Go.Eng
open Go
set_option linter.unusedSimpArgs false
set_option linter.unusedVariables false

theorem get_single {α : Type _} (k x : Nat) (v : α) : get [(k, v)] x = if k = x then some v else none := by rw [get_cons]; simp [get]

theorem heapOk_single {ρ : Names} {k : Nat} {e : Ent} {F : Nat → Nat → Prop} {w : World} {v : Value} (hv : ρ k = some v) (hh : e.holds ρ v w (F k)) (hl : ∀ b, F k b → b < w.heap.size) :
    HeapOk ρ (get [(k, e)]) F w := by
  refine ⟨fun i e' hi => ?_, fun i j ei ej hij hi hj _ => ?_, fun i e' hi b hb => ?_⟩
  · rw [get_single] at hi; split at hi
    · rename_i h; subst h; cases hi; exact ⟨v, hv, hh⟩
    · cases hi
  · rw [get_single] at hi hj
    split at hi
    · split at hj
      · rename_i h1 h2; exact absurd (h1.symm.trans h2) hij
      · cases hj
    · cases hi
  · rw [get_single] at hi; split at hi
    · rename_i h; subst h; exact hl b hb
    · cases hi

/-- a name more -/
def addName (ρ : Names) (k : Nat) (v : Value) : Names := fun i => if i = k then some v else ρ i
theorem addName_le {ρ : Names} {k : Nat} {v : Value} (h : ρ k = none) : ρ.le (addName ρ k v) := by
  intro i x hx
  unfold addName
  split
  · rename_i e; subst e; rw [h] at hx; cases hx
  · exact hx

theorem cells_lt {w : World} {b : Nat} {o : Obj} (h : w.heap[b]? = some o) : b < w.heap.size := by
  rcases Nat.lt_or_ge b w.heap.size with h' | h'
  · exact h'
  · simp [Array.getElem?_eq_none h'] at h

theorem post_alloc {ρ : Names} {F : Nat → Nat → Prop} {w : World} {nn T : Nat} {C : List AV} {cs : List Value} (hf : ρ nn = none) (hc : concL ρ C = some cs) (h1 : ∀ u ∈ cs, u.oneCell' = true) :
    PostOk (conNew nn C) ρ F w (addName ρ nn (.pointer (some ⟨w.heap.size, 0, none⟩))) (fun _ b => b = w.heap.size) (w.alloc (.cells cs.toArray T)) := by
  refine ⟨fun i hi => ?_, rfl, rfl, rfl, by simp, fun b hb _ => heap_alloc_old w _ hb, ?_, fun i e hi b hb => ?_⟩
  · unfold addName; rw [if_neg (by simp only [conNew] at hi; omega)]
  · refine heapOk_single (v := .pointer (some ⟨w.heap.size, 0, none⟩)) (by simp [addName]) ?_ (fun b hb => by rw [hb]; simp)
    exact ⟨w.heap.size, T, cs, rfl, concL_mono (addName_le hf) C cs hc, h1, heap_alloc_new w _, fun x => Iff.rfl⟩
  · left; rw [hb]; exact Nat.le_refl _

section
variable {P : Program} {E : TT} {o : Oper} {t : List (Nat × AV)} {h : List (Nat × Ent)} {nn : Nat} {K : Con → Prop}

theorem good_new {C : List AV} (hr : ∀ ρ a w, Opnds o t ρ a → ∃ cs T, concL ρ C = some cs ∧ (∀ u ∈ cs, u.oneCell' = true) ∧
    (execOp a.eval o).run P w = .ok (.value (.pointer (some ⟨w.heap.size, 0, none⟩))) (w.alloc (.cells cs.toArray T))) : Good P o t h nn (conNew nn C) := by
  refine good_of_run ⟨by simp [conNew], fun i ⟨hi, e, he⟩ => ?_, fun i e he => ?_, fun i e he => by simp [conNew, get] at he⟩ (fun i e he => by simp [conNew, get] at he) rfl fun ρ F a w ho hp => ?_
  · simp only [conNew, get_single] at he hi; split at he
    · omega
    · cases he
  · simp only [conNew, get_single] at he ⊢; split at he
    · omega
    · cases he
  · obtain ⟨cs, T, hc, h1, hrun⟩ := hr ρ a w ho
    have hf := hp.fresh nn (by simp [conNew]) (by simp [conNew])
    exact ⟨_, _, _, _, hrun, post_alloc hf hc h1, by simp [conNew, conc, addName, Addr.add]⟩

theorem zeroCells_conc (ρ : Names) : ∀ {C : List AV} {vs : List Value}, zeroCells C vs = true → concL ρ C = some vs ∧ ∀ u ∈ vs, u.oneCell' = true
  | [], [], _ => ⟨rfl, by simp⟩
  | [], _ :: _, hz => by simp [zeroCells] at hz
  | _ :: _, [], hz => by simp [zeroCells] at hz
  | a :: r, v :: s, hz => by
    simp only [zeroCells, Bool.and_eq_true] at hz
    obtain ⟨h1, h2⟩ := hz
    obtain ⟨h3, h4⟩ := zeroCells_conc ρ h2
    have h5 : conc ρ a = some v ∧ v.oneCell' = true := by
      unfold zeroCell at h1
      split at h1 <;> first
        | exact ⟨rfl, rfl⟩
        | cases h1
        | (simp only [Bool.and_eq_true, decide_eq_true_eq, beq_iff_eq] at h1; obtain ⟨rfl, rfl⟩ := h1; exact ⟨rfl, rfl⟩)
        | (simp only [Bool.and_eq_true, beq_iff_eq] at h1
           rename_i a b
           have : a = b := by
             obtain ⟨⟨x⟩⟩ := a; obtain ⟨⟨y⟩⟩ := b
             have hx : x = [] := by simpa [ByteArray.size] using h1.1
             have hy : y = [] := by simpa [ByteArray.size] using h1.2
             rw [hx, hy]
           subst this; exact ⟨rfl, rfl⟩)
    refine ⟨concL_cons.2 ⟨v, s, h5.1, h3, rfl⟩, fun u hu => ?_⟩
    rcases List.mem_cons.1 hu with rfl | hu
    · exact h5.2
    · exact h4 u hu

theorem ok_alloc (hE : E.Ok P) {T : Nat} (ho : o.op = .alloc T) (hv : match E.look T with | some i => K (conNew nn i.zero) | none => False) : ∃ c, Good P o t h nn c ∧ K c := by
  split at hv
  · rename_i i hl
    have f := TI.facts (TT.look_ok hE hl)
    obtain ⟨z, hz, hzc, _⟩ := f.zero
    refine ⟨_, good_new fun ρ a w _ => ?_, hv⟩
    obtain ⟨h1, h2⟩ := zeroCells_conc ρ hzc
    exact ⟨_, T, h1, h2, by simp [execOp, ho, Instr.alloc, hz, newVar, newRow]⟩
  · exact hv.elim

theorem ok_box {T : Nat} {x : Operand} (ho : o.op = .box T x) (hv : withV t x fun v => boxVC v nn K) : ∃ c, Good P o t h nn c ∧ K c := by
  obtain ⟨v, hv, hk⟩ := withV_elim hv
  unfold boxVC at hk
  split at hk
  · rename_i ha
    refine ⟨_, good_new fun ρ a w hop => ?_, hk⟩
    obtain ⟨u, hu, he⟩ := hop x (by simp [ho, Op.operands]) v hv
    have hc := vcells_conc ha hu
    exact ⟨_, T, hc, allCell_conc ha hc, by simp [execOp, ho, Instr.box, he, newVar, newRow]⟩
  · exact hk.elim

/-! ### addresses -/
theorem add_add (a : Addr) (hs : a.spot = none) (m n : Nat) : (a.add m).add n = a.add (m + n) := by
  obtain ⟨b, o, s⟩ := a
  subst hs
  unfold Addr.add
  by_cases hm : m = 0 <;> by_cases hn : n = 0 <;> simp [hm, hn, Nat.add_assoc]
theorem add_block (a : Addr) (n : Nat) : (a.add n).block = a.block := by unfold Addr.add; split <;> rfl
theorem add_off (a : Addr) (n : Nat) : (a.add n).off = a.off + n := by unfold Addr.add; split <;> simp_all
theorem add_spot (a : Addr) (hs : a.spot = none) (n : Nat) : (a.add n).spot = none := by unfold Addr.add; split <;> simp_all
theorem add_eq (a : Addr) (hs : a.spot = none) (n : Nat) : a.add n = ⟨a.block, a.off + n, none⟩ := by
  obtain ⟨b, o, s⟩ := a
  subst hs
  unfold Addr.add
  split <;> simp_all

/-- a pointer into a block of known cells -/
theorem cells_at {ρ : Names} {F : Nat → Nat → Prop} {w : World} {pre : List (Nat × Ent)} (hh : HeapOk ρ (get pre) F w) {id : Nat} {wr : Bool} {C : List AV} (hg : get pre id = some (.cells wr C)) :
    ∃ b T cs, ρ id = some (.pointer (some ⟨b, 0, none⟩)) ∧ concL ρ C = some cs ∧ (∀ u ∈ cs, u.oneCell' = true) ∧ w.heap[b]? = some (.cells cs.toArray T (0, 0)) ∧ ∀ x, F id x ↔ x = b := by
  obtain ⟨v, hv, b, T, cs, rfl, hc, h1, hg, hF⟩ := hh.ents id _ hg
  exact ⟨b, T, cs, hv, hc, h1, hg, hF⟩

/-- a load of a variable whose cells are known -/
theorem run_loadVar_at {T : Nat} {i : TI} (f : TFacts P T i) {w : World} {b off : Nat} {T' : Nat} {cs : List Value} {fz : Nat × Nat} (hg : w.heap[b]? = some (.cells cs.toArray T' fz)) (hl : off + i.size ≤ cs.length) :
    (loadVar T ⟨b, off, none⟩).run P w = .ok (wrapV i.kind.agg ((cs.drop off).take i.size)) w := by
  simp only [loadVar, Sem.run_bind, f.isAgg, Result.andThen_ok]
  have cell : ∀ j, j < i.size → w.cell? ((⟨b, off, none⟩ : Addr).add j) = some (cs.getD (off + j) undef) := by
    intro j hj
    rw [add_eq _ rfl]
    simp only [World.cell?, hg]
    have : off + j < cs.length := by omega
    simp [this]
  cases ha : i.kind.agg with
  | true =>
    have := run_loadCells_list (P := P) w ⟨b, off, none⟩ ((cs.drop off).take i.size) (fun j v hj => by
      have hj' : j < i.size := by have := (List.getElem?_eq_some_iff.1 hj).1; simp at this; omega
      rw [cell j hj']
      have : off + j < cs.length := by omega
      simp [List.getElem?_take, hj', this] at hj ⊢
      exact hj)
    have hlen : ((cs.drop off).take i.size).length = i.size := by simp; omega
    rw [hlen] at this
    simp [f.size, this, wrapV]
  | false =>
    have h1 := f.one ha
    have hc := cell 0 (by omega)
    have hlt : off < cs.length := by omega
    have e1 : (cs.drop off).take 1 = [cs[off]] := by rw [List.drop_eq_getElem_cons hlt]; rfl
    simp only [Addr.add, if_true] at hc
    simp [hc, wrapV, h1, e1, hlt]

theorem mkAV_wrap {ρ : Names} {agg : Bool} {p : List AV} {cs : List Value} {v : AV} (h : mkAV agg p = some v) (hc : concL ρ p = some cs) : conc ρ v = some (wrapV agg cs) := by
  obtain ⟨u, hu, hs⟩ := mkAV_conc h hc
  cases agg with
  | true => simp only at hs; subst hs; exact hu
  | false => simp only at hs; subst hs; simpa [wrapV] using hu

/-- the cells of an element of a row -/
theorem row_elem {α : Type} {sz : Nat} {enc : α → List AV} {ρ : Names} : ∀ {l : List α} {cs : List Value}, rowCells sz enc l cs → ∀ {k : Nat} {y : α}, l[k]? = some y →
    concL ρ (enc y) = some ((cs.drop (k * sz)).take sz) ∧ k * sz + sz ≤ cs.length
  | [], cs, _, k, y, hy => by simp at hy
  | x :: l, cs, ⟨hc, hl⟩, k, y, hy => by
    rw [List.flatMap_cons] at hc
    obtain ⟨a, b, ha, hb, rfl⟩ := concL_append.1 hc
    have la : a.length = sz := by rw [concL_length ha]; exact hl x List.mem_cons_self
    cases k with
    | zero =>
      simp at hy; subst hy
      refine ⟨?_, by simp; omega⟩
      rw [Nat.zero_mul, List.drop_zero, ← la, List.take_left]
      exact concL_mono (fun _ _ h => by cases h) _ _ ha
    | succ k =>
      simp at hy
      obtain ⟨h1, h2⟩ := row_elem (ρ := ρ) ⟨hb, fun z hz => hl z (List.mem_cons_of_mem _ hz)⟩ hy
      refine ⟨?_, ?_⟩
      · rw [h1, Nat.succ_mul, Nat.add_comm (k * sz) sz, ← la, List.drop_length_add_append]
      · rw [Nat.succ_mul, List.length_append]; omega
theorem rowCells_length {α : Type} {sz : Nat} {enc : α → List AV} : ∀ {l : List α} {cs : List Value}, rowCells sz enc l cs → cs.length = l.length * sz
  | [], cs, ⟨hc, _⟩ => by simp only [List.flatMap_nil, concL, Option.some.injEq] at hc; subst hc; simp
  | x :: l, cs, ⟨hc, hl⟩ => by
    rw [List.flatMap_cons] at hc
    obtain ⟨a, b, ha, hb, rfl⟩ := concL_append.1 hc
    have la : a.length = sz := by rw [concL_length ha]; exact hl x List.mem_cons_self
    have := rowCells_length ⟨hb, fun z hz => hl z (List.mem_cons_of_mem _ hz)⟩
    simp only [List.length_append, la, this, List.length_cons, Nat.succ_mul]
    omega

/-- a row with an element: where its cells lie -/
theorem row_at {ρ : Names} {v : Value} {w : World} {F : Nat → Prop} {wr : Bool} {T sz : Nat} {α : Type} {enc : α → List AV} {l : List α} (hh : Ent.holds ρ (.row wr T sz α enc l) v w F) :
    l.length ≤ maxLen ∧ ∃ ao cap cs, v = .slice ao l.length cap ∧ l.length ≤ cap ∧ rowCells sz enc l cs ∧ (∀ u ∈ cs, u.oneCell' = true) ∧
      (0 < l.length → ∃ ad, ao = some ad ∧ ad.spot = none ∧ F ad.block ∧ ∀ j u, cs[j]? = some u → w.cell? (ad.add j) = some u) := by
  cases wr with
  | false =>
    obtain ⟨cs, hr, h1, hm, ao, cap, hv, hnc, hF, hc⟩ := hh
    refine ⟨hm, ao, cap, cs, hv, hnc, hr, h1, fun hn => ?_⟩
    obtain ⟨ad, ha, hs, hcell⟩ := hc hn
    exact ⟨ad, ha, hs, (hF _).2 ⟨hn, ad, ha, rfl⟩, hcell⟩
  | true =>
    rcases Or.symm hh with ⟨⟨a0, rfl⟩, rfl, hF⟩ | ⟨cs, hr, h1, ⟨hlen, ho⟩, hF⟩
    · exact ⟨Nat.zero_le _, a0, 0, [], rfl, Nat.le_refl _, ⟨rfl, by simp⟩, by simp, fun hn => absurd hn (Nat.lt_irrefl 0)⟩
    rcases ho with ⟨rfl, h0⟩ | ⟨g, cap, cur, fz, rfl, hg, hfz, hnc, hcm, hcs, htake⟩
    · exact ⟨by omega, none, 0, cs, by rw [h0], by omega, hr, h1, fun hn => by omega⟩
    · refine ⟨by omega, some ⟨g, 0, none⟩, cap, cs, rfl, hnc, hr, h1, fun hn => ⟨⟨g, 0, none⟩, rfl, rfl, (hF g).2 rfl, fun j u hj => ?_⟩⟩
      rw [add_eq _ rfl]
      simp only [World.cell?, hg, Nat.zero_add]
      have hj' : j < cs.length := (List.getElem?_eq_some_iff.1 hj).1
      rw [← htake] at hj
      rw [List.getElem?_take] at hj
      split at hj
      · simpa using hj
      · cases hj

theorem run_loadVar_cells {T : Nat} {i : TI} (f : TFacts P T i) {w : World} {ad : Addr} {cs : List Value} (hc : ∀ j u, cs[j]? = some u → w.cell? (ad.add j) = some u) (hl : cs.length = i.size) (hs : ad.spot = none) :
    (loadVar T ad).run P w = .ok (wrapV i.kind.agg cs) w := by
  simp only [loadVar, Sem.run_bind, f.isAgg, Result.andThen_ok]
  cases ha : i.kind.agg with
  | true =>
    have := run_loadCells_list (P := P) w ad cs hc
    rw [hl] at this
    simp [f.size, this, wrapV]
  | false =>
    have h1 := f.one ha
    match cs, hl with
    | [u], _ =>
      have := hc 0 u rfl
      simp only [Addr.add, if_true] at this
      simp [this, wrapV]
    | [], hl => simp at hl; omega
    | _ :: _ :: _, hl => simp at hl; omega

theorem ok_load (hE : E.Ok P) (hb : ∀ i e, get h i = some e → i < nn) {T : Nat} {x : Operand} (ho : o.op = .load T x) (hv : withV t x fun v => loadVC E T v h nn K) : ∃ c, Good P o t h nn c ∧ K c := by
  obtain ⟨v, hv, hk⟩ := withV_elim hv
  unfold loadVC at hk
  split at hk
  · rename_i i hl
    have f := TI.facts (TT.look_ok hE hl)
    have one : ∀ {id : Nat} {e : Ent}, get h id = some e → ∀ k e', get [(id, e)] k = some e' → get h k = some e' := fun hg k e' hk => by
      rw [get_single] at hk; split at hk
      · rename_i h2; subst h2; cases hk; exact hg
      · cases hk
    split at hk
    · rename_i id off
      split at hk
      · rename_i wr C hg
        split at hk
        · rename_i p hp
          split at hk
          · rename_i r hm
            refine ⟨_, good_read hb (one hg) fun ρ F a w hop hh => ?_, hk⟩
            obtain ⟨u, hu, he⟩ := hop x (by simp [ho, Op.operands]) _ hv
            obtain ⟨b, T', cs, hn, hc, _, hblk, _⟩ := cells_at hh (id := id) (by rw [get_single, if_pos rfl])
            obtain ⟨hpc, hlen⟩ := part?_conc hc hp
            refine ⟨_, mkAV_wrap hm hpc, ?_⟩
            simp only [conc, hn, Option.some.injEq] at hu
            subst hu
            have := run_loadVar_at f (off := off) hblk hlen
            simp [execOp, ho, he, Instr.loadAt, Instr.sureAddr, add_eq, this]
          · exact hk.elim
        · exact hk.elim
      · exact hk.elim
    · rename_i id off idx sz
      split at hk
      · rename_i wr C hg
        obtain ⟨p, hp, hk⟩ := hk
        split at hk
        · rename_i r hm
          refine ⟨_, good_read hb (one hg) fun ρ F a w hop hh => ?_, hk⟩
          obtain ⟨u, hu, he⟩ := hop x (by simp [ho, Op.operands]) _ hv
          obtain ⟨b, T', cs, hn, hc, _, hblk, _⟩ := cells_at hh (id := id) (by rw [get_single, if_pos rfl])
          obtain ⟨hpc, hlen⟩ := part?_conc hc hp
          refine ⟨_, mkAV_wrap hm hpc, ?_⟩
          simp only [conc, hn, Option.some.injEq] at hu
          subst hu
          have := run_loadVar_at f (off := off + idx * sz) hblk hlen
          simp [execOp, ho, he, Instr.loadAt, Instr.sureAddr, add_eq, this]
        · exact hk.elim
      · exact hk.elim
    · rename_i id idx sz off
      split at hk
      · rename_i wr T' sz' α enc l hg
        obtain ⟨y, ⟨rfl, hy⟩, hk⟩ := hk
        split at hk
        · rename_i p hp
          split at hk
          · rename_i r hm
            refine ⟨_, good_read hb (one hg) fun ρ F a w hop hh => ?_, hk⟩
            obtain ⟨u, hu, he⟩ := hop x (by simp [ho, Op.operands]) _ hv
            obtain ⟨vr, hvr, hrow⟩ := hh.ents id _ (by rw [get_single, if_pos rfl])
            obtain ⟨_, ao, cap, cs, rfl, _, hr, _, hcell⟩ := row_at hrow
            have hlt : idx < l.length := (List.getElem?_eq_some_iff.1 hy).1
            obtain ⟨ad, rfl, hs, _, hcell⟩ := hcell (by omega)
            obtain ⟨hye, hyl⟩ := row_elem (ρ := ρ) hr hy
            obtain ⟨hpc, hlen⟩ := part?_conc hye hp
            refine ⟨_, mkAV_wrap hm hpc, ?_⟩
            obtain ⟨b0, o0, s0⟩ := ad
            simp only at hs
            subst hs
            simp only [conc, hvr, Option.some.injEq] at hu
            subst hu
            have hlen' : off + i.size ≤ sz := by simp at hlen; omega
            have hseg : (((cs.drop (idx * sz)).take sz).drop off).take i.size = (cs.drop (idx * sz + off)).take i.size := by
              rw [List.drop_take, List.take_take, List.drop_drop, Nat.min_eq_left (by omega)]
            have := run_loadVar_cells f (w := w) (ad := ⟨b0, o0 + (idx * sz + off), none⟩) (cs := (cs.drop (idx * sz + off)).take i.size) (fun j u hj => by
              rw [List.getElem?_take] at hj
              split at hj
              · rw [List.getElem?_drop] at hj
                have := hcell _ _ hj
                rw [add_eq _ rfl] at this ⊢
                rw [Nat.add_assoc]
                exact this
              · cases hj) (by simp; omega) rfl
            rw [hseg]
            simp [execOp, ho, he, Instr.loadAt, Instr.sureAddr, this]
          · exact hk.elim
        · exact hk.elim
      · exact hk.elim
    · exact hk.elim
  · exact hk.elim
end
end Go.Eng

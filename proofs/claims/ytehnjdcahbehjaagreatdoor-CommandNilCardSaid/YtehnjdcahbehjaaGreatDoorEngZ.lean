/- The engine, part Z: laws of one's own for nil slices and for maps that hold nothing. -/
import Derived.Test.YtehnjdcahbehjaaGreatDoorEngYg
import Derived.Maps.RangeRun
namespace Go.Eng
open Go
set_option linter.unusedSimpArgs false
set_option linter.unusedVariables false

/-- a part of the nil slice -/
theorem good_nilSlice {P : Program} {o : Oper} {t : List (Nat × AV)} {h : List (Nat × Ent)} {nn : Nat} {T e : Nat} {x : Operand} {lo hi : Option Operand} {l hb : Option (Int × Bool)} {lv hv : Option AV} {sz : Nat}
    (ho : o.op = .slice T x lo hi none) (hx : evS t x = some (.val (.slice none 0 0))) (hu : P.underlying T = some (.slice e)) (hsz : ∀ w, (sizeOf e).run P w = .ok sz w)
    (hl : optEv t lo = some lv) (hh : optEv t hi = some hv) (hl' : bnd? lv = some l) (hh' : bnd? hv = some hb) (h0 : bndI l 0 = 0 ∧ bndI hb 0 = 0) :
    Good P o t h nn (conPure nn (.val (.slice none 0 0))) := by
  refine good_pure0 fun ρ a w hop => ?_
  obtain ⟨u, hu', he⟩ := hop x (by simp [ho, Op.operands]) _ hx
  simp only [conc, Option.some.injEq] at hu'
  subst hu'
  have h1 := bnd_ok (ρ := ρ) (a := a) hl hl' (fun y hy v hv => hop y (by subst hy; simp [ho, Op.operands]) v hv)
  have h2 := bnd_ok (ρ := ρ) (a := a) hh hh' (fun y hy v hv => hop y (by subst hy; simp [ho, Op.operands]) v hv)
  refine ⟨_, rfl, ?_⟩
  have hr : ∀ w, (underlying T).run P w = .ok (.slice e) w := fun w => by simp [underlying, hu]
  have hb' := run_bounds (P := P) (s := true) (len := 0) (cap := 0) h1 h2 (Nat.le_refl _) (by rw [h0.1, h0.2]; omega) w
  rw [h0.1, h0.2] at hb'
  simp [execOp, ho, he, Instr.sliceAt, hu, Instr.slice, hr, hb', hsz]

/-! ### maps that hold nothing -/
/-- a map of one's own that holds nothing -/
def noMap : Ent := .asn
  { wr := true
    holds := fun v w F => ∃ r c, v = .map (some r) ∧ w.heap[r]? = some (.map #[] c) ∧ ∀ b, F b ↔ b = r
    loc := fun v w w' F ⟨r, c, h1, h2, h3⟩ hb => ⟨r, c, h1, (hb r ((h3 r).2 rfl)).trans h2, h3⟩ }
/-- a walk over a map that holds nothing -/
def noWalk : Ent := .asn
  { wr := true
    holds := fun v w F => ∃ i r c s, v = .pointer (some ⟨i, 0, none⟩) ∧ w.heap[i]? = some (.mapIter (some r) s #[] s) ∧ w.heap[r]? = some (.map #[] c) ∧ ∀ b, F b ↔ (b = i ∨ b = r)
    loc := fun v w w' F ⟨i, r, c, s, h1, h2, h3, h4⟩ hb => ⟨i, r, c, s, h1, (hb i ((h4 i).2 (.inl rfl))).trans h2, (hb r ((h4 r).2 (.inr rfl))).trans h3, h4⟩ }

theorem good_makeMap {P : Program} {o : Oper} {t : List (Nat × AV)} {h : List (Nat × Ent)} {nn : Nat} {T : Nat} (ho : o.op = .makeMap T none) :
    Good P o t h nn ⟨[], nn, nn + 1, .ref nn, [(nn, noMap)]⟩ := by
  refine good_of_run ⟨by simp, fun i ⟨hi, e, he⟩ => ?_, fun i e he => ?_, fun i e he => by simp [get] at he⟩ (fun i e he => by simp [get] at he) rfl fun ρ F a w hop hp => ?_
  · simp only [get_single] at he hi; split at he
    · omega
    · cases he
  · simp only [get_single] at he ⊢; split at he
    · omega
    · cases he
  · have hf := hp.fresh nn (by simp) (by simp)
    refine ⟨.map (some w.heap.size), w.alloc (.map #[] 0), addName ρ nn (.map (some w.heap.size)), fun _ b => b = w.heap.size, ?_, ?_, ?_⟩
    · simp [execOp, ho, Instr.makeMap]
    · refine ⟨fun i hi => ?_, rfl, rfl, rfl, by simp, fun b hb _ => heap_alloc_old w _ hb, ?_, fun i e hi b hb => ?_⟩
      · unfold addName; rw [if_neg (by simp only at hi; omega)]
      · refine heapOk_single (v := .map (some w.heap.size)) (by simp [addName]) ?_ (fun b hb => by rw [hb]; simp)
        exact ⟨w.heap.size, 0, rfl, heap_alloc_new w _, fun b => Iff.rfl⟩
      · left; rw [hb]; exact Nat.le_refl _
    · simp [conc, addName, Value.oneCell']

theorem good_range {P : Program} {o : Oper} {t : List (Nat × AV)} {h : List (Nat × Ent)} {nn : Nat} {T k e : Nat} {x : Operand} {i : Nat} (ho : o.op = .range T x) (hx : evS t x = some (.ref i)) (hi : get h i = some noMap)
    (hlt : i < nn) (hu : P.underlying T = some (.map k e)) : Good P o t h nn ⟨[(i, noMap)], nn, nn + 1, .ref nn, [(i, .gone), (nn, noWalk)]⟩ := by
  have gup : ∀ j f, get [(i, Ent.gone), (nn, noWalk)] j = some f → (j = i ∧ f = .gone) ∨ (j = nn ∧ f = noWalk) := fun j f hj => by
    rw [get_cons] at hj
    split at hj
    · rename_i he; cases hj; exact .inl ⟨he.symm, rfl⟩
    · rw [get_single] at hj
      split at hj
      · rename_i he; cases hj; exact .inr ⟨he.symm, rfl⟩
      · cases hj
  refine good_of_run ⟨by simp, fun j ⟨hj, f, hf⟩ => ?_, fun j f hf => ?_, fun j f hf => ?_⟩ (fun j f hf => ?_) rfl fun ρ F a w hop hp => ?_
  · rcases gup j f hf with ⟨rfl, _⟩ | ⟨rfl, _⟩
    · exact ⟨noMap, by rw [get_single, if_pos rfl], rfl⟩
    · exact absurd hj (Nat.lt_irrefl _)
  · rcases gup j f hf with ⟨rfl, _⟩ | ⟨rfl, _⟩
    · exact Nat.lt_succ_of_lt hlt
    · exact Nat.lt_succ_self _
  · rw [get_single] at hf; split at hf
    · rename_i he; subst he; exact hlt
    · cases hf
  · rw [get_single] at hf; split at hf
    · rename_i he; subst he; cases hf; exact hi
    · cases hf
  · obtain ⟨u, hu', he⟩ := hop x (by simp [ho, Op.operands]) _ hx
    obtain ⟨v, hv, r, c, rfl, hr, hF⟩ := hp.heap.ents i noMap (by rw [get_single, if_pos rfl])
    simp only [conc, hv, Value.oneCell', if_true, Option.some.injEq] at hu'
    subst hu'
    have hrl := cells_lt hr
    have hf := hp.fresh nn (Nat.le_refl _) (Nat.lt_succ_self _)
    refine ⟨.pointer (some ⟨w.heap.size, 0, none⟩), w.alloc (.mapIter (some r) c #[] c), addName ρ nn (.pointer (some ⟨w.heap.size, 0, none⟩)), fun j b => j = nn ∧ (b = w.heap.size ∨ b = r), ?_, ?_, ?_⟩
    · have := run_range_map (P := P) w T k e r #[] c hu hr
      simp [execOp, ho, he, this]
    · refine ⟨fun j hj => ?_, rfl, rfl, rfl, by simp, fun b hb _ => heap_alloc_old w _ hb, ⟨fun j f hj => ?_, fun j j' f f' hjj hj hj' _ b hb hb' => absurd (hb.1.trans hb'.1.symm) hjj, fun j f hj b hb => ?_⟩, fun j f hj b hb => ?_⟩
      · unfold addName; rw [if_neg (by simp only at hj; omega)]
      · rcases gup j f hj with ⟨rfl, rfl⟩ | ⟨rfl, rfl⟩
        · exact ⟨_, addName_le hf _ _ hv, fun b hb => absurd hb.1 (Nat.ne_of_lt hlt)⟩
        · exact ⟨.pointer (some ⟨w.heap.size, 0, none⟩), by simp [addName], w.heap.size, r, c, c, rfl, heap_alloc_new w _, (heap_alloc_old w _ hrl).trans hr, fun b => by simp⟩
      · rcases hb.2 with rfl | rfl
        · simp
        · simp; omega
      · rcases hb.2 with rfl | rfl
        · exact .inl (Nat.le_refl _)
        · refine .inr (.inl ⟨i, ⟨hlt, .gone, by rw [get_cons, if_pos rfl]⟩, (hF _).2 rfl⟩)
    · simp [conc, addName, Value.oneCell']

theorem good_next {P : Program} {o : Oper} {t : List (Nat × AV)} {h : List (Nat × Ent)} {nn : Nat} {x : Operand} {i : Nat} (ho : o.op = .next x false) (hx : evS t x = some (.ref i)) (hi : get h i = some noWalk)
    (hlt : i < nn) : Good P o t h nn ⟨[(i, noWalk)], nn, nn, .tup [.ff], []⟩ := by
  refine good_of_run (wf_read fun j f hf => ?_) (fun j f hf => ?_) rfl fun ρ F a w hop hp => ?_
  · rw [get_single] at hf; split at hf
    · rename_i he; subst he; exact hlt
    · cases hf
  · rw [get_single] at hf; split at hf
    · rename_i he; subst he; cases hf; exact hi
    · cases hf
  · obtain ⟨u, hu', he⟩ := hop x (by simp [ho, Op.operands]) _ hx
    obtain ⟨v, hv, ib, r, c, s, rfl, h1, h2, hF⟩ := hp.heap.ents i noWalk (by rw [get_single, if_pos rfl])
    simp only [conc, hv, Value.oneCell', if_true, Option.some.injEq] at hu'
    subst hu'
    refine ⟨.tuple #[.bool false], w, ρ, F, ?_, post_same ρ F w, by simp [conc, concL]⟩
    have := run_next_at (P := P) w o.type ib r s s #[] #[] c h1 h2 (by simp) (Nat.le_refl _)
    rcases this with ⟨_, hrun⟩ | ⟨e, he', _⟩
    · simp [execOp, ho, he, hrun]
    · simp [leftOf] at he'
end Go.Eng

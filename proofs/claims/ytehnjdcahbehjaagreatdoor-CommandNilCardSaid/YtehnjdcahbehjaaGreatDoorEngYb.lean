/- The engine, part Yb: what a region's log says of its order. -/
import Derived.Test.YtehnjdcahbehjaaGreatDoorEngY
namespace Go.Eng
open Go
set_option linter.unusedSimpArgs false
set_option linter.unusedVariables false

theorem edgesLow_spec : ∀ {l : List Oper} {k : Nat}, edgesLow k l = true → ∀ j o, l[j]? = some o → ∀ e ∈ o.after, Region.binds .any e = true → e.on < k + j
  | [], _, _, j, o, ho => by simp at ho
  | x :: r, k, h, j, o, ho => by
    simp only [edgesLow] at h
    split at h
    · rename_i hx
      cases j with
      | zero =>
        simp at ho; subst ho
        intro e he hb
        have := List.all_eq_true.1 hx e (Array.mem_toList_iff.2 he)
        simp only [Bool.or_eq_true, Bool.not_eq_true', hb] at this
        rcases this with h | h
        · cases h
        · have := Nat.le_of_ble_eq_true h; omega
      | succ j =>
        simp at ho
        intro e he hb
        have := edgesLow_spec h j o ho e he hb
        omega
    · cases h

theorem unionN_mem {x : Nat} : ∀ {a b : List Nat}, x ∈ unionN a b → x ∈ a ∨ x ∈ b
  | [], b, h => .inr h
  | y :: r, b, h => by
    simp only [unionN] at h
    split at h
    · rcases unionN_mem h with h | h
      · exact .inl (List.mem_cons_of_mem _ h)
      · exact .inr h
    · rcases unionN_mem h with h | h
      · exact .inl (List.mem_cons_of_mem _ h)
      · rcases List.mem_cons.1 h with rfl | h
        · exact .inl List.mem_cons_self
        · exact .inr h
theorem nthL_mem {x : Nat} : ∀ {l : List (List Nat)} {k : Nat}, x ∈ nthL l k → ∃ r, l[k]? = some r ∧ x ∈ r
  | [], k, h => by simp [nthL] at h
  | y :: r, 0, h => ⟨y, rfl, h⟩
  | y :: r, k + 1, h => by simpa using nthL_mem (l := r) (k := k) h

theorem Ahead.trans {ops : Array Oper} {i j k : Nat} (h1 : Ahead ops i j) (h2 : Ahead ops j k) : Ahead ops i k := fun S hS hk => h1 S hS (h2 S hS hk)

theorem predsOf_ahead {ops : Array Oper} {k : Nat} {o : Oper} (ho : ops[k]? = some o) {acc : List (List Nat)} (hacc : ∀ j r, acc[j]? = some r → ∀ i ∈ r, Ahead ops i j) :
    ∀ {es : List Edge}, (∀ e ∈ es, e ∈ o.after) → ∀ i ∈ predsOf acc es, Ahead ops i k
  | [], _, i, h => by simp [predsOf] at h
  | e :: es, hes, i, h => by
    simp only [predsOf] at h
    split at h
    · rename_i hb
      rcases unionN_mem h with h | h
      · have here : Ahead ops e.on k := fun S hS hk => hS k o ho hk e (hes e List.mem_cons_self) hb
        rcases List.mem_cons.1 h with rfl | h
        · exact here
        · obtain ⟨r, hr, hi⟩ := nthL_mem h
          exact (hacc _ r hr i hi).trans here
      · exact predsOf_ahead ho hacc (fun e he => hes e (List.mem_cons_of_mem _ he)) i h
    · exact predsOf_ahead ho hacc (fun e he => hes e (List.mem_cons_of_mem _ he)) i h

theorem allPreds_ahead {ops : List Oper} : ∀ {l : List Oper} {acc : List (List Nat)}, l = ops.drop acc.length → (∀ j r, acc[j]? = some r → ∀ i ∈ r, Ahead ops.toArray i j) →
    ∀ j r, (allPreds l acc)[j]? = some r → ∀ i ∈ r, Ahead ops.toArray i j
  | [], acc, _, hacc => hacc
  | o :: l, acc, hl, hacc => by
    have ho : ops[acc.length]? = some o := by
      have := congrArg (fun z => z[0]?) hl
      simpa using this.symm
    have hl2 : l = ops.drop (acc.length + 1) := by
      have := congrArg List.tail hl
      simpa [List.tail_drop] using this
    simp only [allPreds]
    refine allPreds_ahead (by simpa using hl2) fun j r hj => ?_
    rw [List.getElem?_append] at hj
    split at hj
    · exact hacc j r hj
    · rename_i hge
      have hj0 : j - acc.length = 0 := by
        rcases Nat.eq_zero_or_pos (j - acc.length) with h | h
        · exact h
        · rw [List.getElem?_eq_none (by simp; omega)] at hj; cases hj
      rw [hj0] at hj
      simp only [List.getElem?_cons_zero, Option.some.injEq] at hj
      subst hj
      have : j = acc.length := by omega
      subst this
      exact predsOf_ahead (by simpa using ho) hacc fun e he => Array.mem_toList_iff.1 he

theorem pairsOk_spec {ps : List (List Nat)} {b : Info} {k : Nat} : ∀ {l : List Info} {i : Nat}, pairsOk ps b k i l = true → ∀ j a, l[j]? = some a → i + j < k → (nthL ps k).elem (i + j) = true ∨ apartB a b = true
  | [], i, _, j, a, hj => by simp at hj
  | x :: r, i, h, j, a, hj => by
    intro hlt
    simp only [pairsOk] at h
    split at h
    · split at h
      · rename_i h1 h2
        cases j with
        | zero => simp at hj; subst hj; simpa using h2
        | succ j =>
          simp at hj
          have := pairsOk_spec h j a hj (by omega)
          rwa [show i + (j + 1) = i + 1 + j by omega]
      · cases h
    · rename_i h1
      exfalso
      have : Nat.blt i k = true := Nat.ble_eq_true_of_le (by omega)
      rw [this] at h1; cases h1
theorem allPairs_spec {ps : List (List Nat)} {all : List Info} : ∀ {l : List Info} {k : Nat}, allPairs ps all k l = true → ∀ j b, l[j]? = some b → pairsOk ps b (k + j) 0 all = true
  | [], k, _, j, b, hj => by simp at hj
  | x :: r, k, h, j, b, hj => by
    simp only [allPairs] at h
    split at h
    · rename_i h1
      cases j with
      | zero => simp at hj; subst hj; exact h1
      | succ j =>
        simp at hj
        have := allPairs_spec h j b hj
        rwa [show k + (j + 1) = k + 1 + j by omega]
    · cases h

theorem infos_get {all : List Oper} : ∀ {ops : List Oper} {L : Log} {k : Nat} {o : Oper} {p u : List Nat}, ops[k]? = some o → L[k]? = some (p, u) → (infos all ops L)[k]? = some ⟨o.dst, looksL all o, p, u⟩
  | [], _, _, _, _, _, h, _ => by simp at h
  | _ :: _, [], _, _, _, _, _, h => by simp at h
  | x :: ops, (p', u') :: L, k, o, p, u, h1, h2 => by
    simp only [infos]
    cases k with
    | zero => simp at h1 h2; obtain ⟨rfl, rfl⟩ := h2; subst h1; rfl
    | succ k => simp at h1 h2 ⊢; exact infos_get h1 h2

theorem keys_mem : ∀ {l : List (Nat × Ent)} {i : Nat} {e : Ent}, get l i = some e → i ∈ keys l
  | [], i, e, h => by simp [get] at h
  | (k, v) :: l, i, e, h => by
    rw [get_cons] at h
    simp only [keys]
    split at h
    · rename_i h2; subst h2; exact List.mem_cons_self
    · exact List.mem_cons_of_mem _ (keys_mem h)
theorem meets_spec {a b : List Nat} (h : meets a b = false) {x : Nat} (ha : x ∈ a) (hb : x ∈ b) : False := by
  unfold meets at h
  have : a.any (fun x => b.elem x) = true := List.any_eq_true.2 ⟨x, ha, by simpa using hb⟩
  rw [this] at h; cases h
theorem optIn_spec {d : Option Nat} {l : List Nat} (h : optIn d l = false) {x : Nat} (hd : d = some x) (hx : x ∈ l) : False := by
  subst hd
  unfold optIn at h
  simp only [List.elem_eq_mem] at h
  simp [hx] at h

theorem looks_in {all : List Oper} {o : Oper} {x : Nat} (h : x ∈ o.looksAt all.toArray) : x ∈ looksL all o := by
  unfold Oper.looksAt at h
  unfold looksL
  rcases List.mem_append.1 h with h | h
  · exact List.mem_append.2 (.inl h)
  · refine List.mem_append.2 (.inr ?_)
    unfold guardOf
    cases hg : o.guard with
    | none => rw [hg] at h; cases h
    | some p =>
      obtain ⟨j, w⟩ := p
      rw [hg] at h
      simp only [Option.mem_toList, Option.mem_def] at h
      have hd : dstL all j = some x := by rw [dstL_eq]; exact h
      simp only [hd]
      exact List.mem_singleton.2 rfl

theorem okLog_spec {ops : List Oper} {tl : List (Option Con × Nat)} (hlen : tl.length = ops.length) (n' : Nat) (h : okLog ops ((tl.map fun x => logOf x.1).reverse ++ []) = true) :
    (∀ k o, ops.toArray[k]? = some o → ∀ e ∈ o.after, Region.binds .any e = true → e.on < k) ∧
    ∀ i k, i < k → k < ops.toArray.size → Ahead ops.toArray i k ∨ Apart ops.toArray (traceOf tl n') i k := by
  unfold okLog at h
  rw [Bool.and_eq_true] at h
  obtain ⟨h1, h2⟩ := h
  refine ⟨fun k o ho e he hb => ?_, fun i k hik hk => ?_⟩
  · have := edgesLow_spec h1 k o (by simpa using ho) e he hb
    omega
  · simp only [List.append_nil, List.reverse_reverse] at h2
    simp only [List.size_toArray] at hk
    have oi : ops[i]? = some ops[i] := List.getElem?_eq_getElem (by omega)
    have ok' : ops[k]? = some ops[k] := List.getElem?_eq_getElem (by omega)
    have ti : (tl.map fun x => logOf x.1)[i]? = some ((logOf (tl[i]'(by omega)).1).1, (logOf (tl[i]'(by omega)).1).2) := by
      rw [List.getElem?_map, List.getElem?_eq_getElem (by omega)]; rfl
    have tk : (tl.map fun x => logOf x.1)[k]? = some ((logOf (tl[k]'(by omega)).1).1, (logOf (tl[k]'(by omega)).1).2) := by
      rw [List.getElem?_map, List.getElem?_eq_getElem (by omega)]; rfl
    have ii := infos_get (all := ops) oi ti
    have ik := infos_get (all := ops) ok' tk
    have hp := allPairs_spec h2 k _ ik
    rw [Nat.zero_add] at hp
    have hq := pairsOk_spec hp i _ ii (by omega)
    rw [Nat.zero_add] at hq
    rcases hq with hq | hq
    · left
      simp only [List.elem_eq_mem, decide_eq_true_eq] at hq
      obtain ⟨r, hr, hi⟩ := nthL_mem hq
      exact allPreds_ahead (ops := ops) (l := ops) (acc := []) (by simp) (by simp) k r hr i hi
    · right
      unfold apartB at hq
      simp only [Bool.and_eq_true, Bool.not_eq_true'] at hq
      obtain ⟨⟨⟨⟨⟨q1, q2⟩, q3⟩, q4⟩, q5⟩, q6⟩ := hq
      have ci : (traceOf tl n').con i = (tl[i]'(by omega)).1 := by show (tl[i]?).bind (·.1) = _; rw [List.getElem?_eq_getElem (by omega)]; rfl
      have ck : (traceOf tl n').con k = (tl[k]'(by omega)).1 := by show (tl[k]?).bind (·.1) = _; rw [List.getElem?_eq_getElem (by omega)]; rfl
      have di : dstOf ops.toArray i = ops[i].dst := by simp [dstOf, oi]
      have dk : dstOf ops.toArray k = ops[k].dst := by simp [dstOf, ok']
      have wT : ∀ j x, dstOf ops.toArray j ≠ some x → (traceOf tl n').wrT ops.toArray j x = none := fun j x hne => by unfold Trace.wrT; rw [if_neg hne]
      have wH : ∀ (j : Nat) (hj : j < tl.length) x, x ∉ (logOf tl[j].1).2 → (traceOf tl n').wrH j x = none := fun j hj x hne => by
        unfold Trace.wrH
        have cj : (traceOf tl n').con j = tl[j].1 := by show (tl[j]?).bind (·.1) = _; rw [List.getElem?_eq_getElem hj]; rfl
        rw [cj]
        cases hc : tl[j].1 with
        | none => rfl
        | some c =>
          rw [hc] at hne
          simp only [Option.bind_some]
          cases hg : get c.up x with
          | none => rfl
          | some e => exact absurd (keys_mem hg) hne
      refine ⟨fun o ho x hx => wT i x fun hd => ?_, fun o ho x hx => wT k x fun hd => ?_, fun x => ?_, fun c hc x e hx => wH i (by omega) x fun hm => ?_, fun c hc x e hx => wH k (by omega) x fun hm => ?_, fun x => ?_⟩
      · simp only [List.getElem?_toArray, ok', Option.some.injEq] at ho
        subst ho
        exact optIn_spec q1 (di.symm.trans hd) (looks_in hx)
      · simp only [List.getElem?_toArray, oi, Option.some.injEq] at ho
        subst ho
        exact optIn_spec q2 (dk.symm.trans hd) (looks_in hx)
      · by_cases hd : dstOf ops.toArray i = some x
        · right
          refine wT k x fun hd' => ?_
          rw [di] at hd
          rw [dk] at hd'
          simp only [hd, hd'] at q3
          simp at q3
        · exact .inl (wT i x hd)
      · rw [ck] at hc
        refine meets_spec q4 hm ?_
        simp only [hc, logOf]
        exact keys_mem hx
      · rw [ci] at hc
        refine meets_spec q5 hm ?_
        simp only [hc, logOf]
        exact keys_mem hx
      · by_cases hm : x ∈ (logOf (tl[i]'(by omega)).1).2
        · right
          exact wH k (by omega) x fun hm' => meets_spec q6 hm hm'
        · exact .inl (wH i (by omega) x hm)
end Go.Eng

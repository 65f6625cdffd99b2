/- The engine, part Y: a region's operations, one behind the other. -/
import Derived.Test.YtehnjdcahbehjaaGreatDoorEngX
namespace Go.Eng
open Go
set_option linter.unusedSimpArgs false
set_option linter.unusedVariables false

/-- what is known of the slots, in two forms that say the same -/
def Sim (T : Nat → Option AV) (t : List (Nat × AV)) : Prop := ∀ x v, get t x = some v → ∃ v', T x = some v' ∧ ∀ ρ, conc ρ v' = conc ρ v

theorem Sim.put {T : Nat → Option AV} {t : List (Nat × AV)} (h : Sim T t) (d : Option Nat) (v : AV) : Sim (putT T d v) (putS t d v) := by
  intro x u hx
  cases d with
  | none => obtain ⟨v', h1, h2⟩ := h x u hx; exact ⟨v', by simp [putT, h1], h2⟩
  | some y =>
    simp only [putS] at hx
    rw [get_cons] at hx
    unfold putT
    split at hx
    · rename_i e; subst e; cases hx; exact ⟨v, by simp, fun _ => rfl⟩
    · rename_i e
      obtain ⟨v', h1, h2⟩ := h x u hx
      exact ⟨v', by rw [if_neg (fun h' => e (Option.some.inj h'))]; exact h1, h2⟩
theorem Sim.fork {T : Nat → Option AV} {t : List (Nat × AV)} (h : Sim T t) {d : Nat} {b : Bool} (hd : get t d = some (.bool b)) (v : AV) (hv : ∀ ρ, conc ρ v = some (.bool b)) : Sim T ((d, v) :: t) := by
  intro x u hx
  rw [get_cons] at hx
  split at hx
  · rename_i e; subst e; cases hx
    obtain ⟨v', h1, h2⟩ := h d _ hd
    exact ⟨v', h1, fun ρ => by rw [h2, hv]; rfl⟩
  · exact h x u hx
theorem Sim.get {T : Nat → Option AV} {t : List (Nat × AV)} (h : Sim T t) {x : Nat} {v : AV} (hx : get t x = some v) : ∃ v', T x = some v' ∧ ∀ ρ, conc ρ v' = conc ρ v := h x v hx

theorem Sim.op {P : Program} {T : Nat → Option AV} {t : List (Nat × AV)} (h : Sim T t) {o : Oper} {c : Con} (ho : OpOk P o (evS t) c) : OpOk P o (evO T) c := by
  intro ρ F a w K Q hop hp hK
  refine ho ρ F a w K Q (fun x hx v hv => ?_) hp hK
  cases x with
  | tmp y =>
    obtain ⟨v', h1, h2⟩ := h y v hv
    obtain ⟨u, hu, he⟩ := hop (.tmp y) hx v' h1
    exact ⟨u, by rw [← h2]; exact hu, he⟩
  | const c => exact hop _ hx v hv
  | global g => exact hop _ hx v hv
  | func f => exact hop _ hx v hv

theorem Sim.rep {B : Base} {ρ : Names} {T : Nat → Option AV} {h : Nat → Option Ent} {F : Nat → Nat → Prop} {a : Act} {w : World} (r : Rep B ρ T h F a w) {t : List (Nat × AV)} (hs : Sim T t) : Rep B ρ (Go.Eng.get t) h F a w :=
  ⟨r.size, r.defers, fun x v hx => by
    obtain ⟨v', h1, h2⟩ := hs x v hx
    obtain ⟨u, hu, hg⟩ := r.tmps x v' h1
    exact ⟨u, by rw [← h2]; exact hu, hg⟩, r.heap, r.ctx, r.apart, r.os, r.tape, r.output, r.grown, r.keep, r.near⟩

def resOf : Option Con → AV
  | some c => c.res
  | none => .val undef
def logOf : Option Con → List Nat × List Nat
  | some c => (keys c.pre, keys c.up)
  | none => ([], [])

inductive Run (P : Program) (all : Array Oper) (N : Nat) : List Oper → (Nat → Option AV) → (Nat → Option Ent) → Nat → List (Option Con × Nat) → (Nat → Option AV) → (Nat → Option Ent) → Nat → Prop
  | nil (T H n) : Run P all N [] T H n [] T H n
  | cons (o ops T H n c n1 tl T' H' n') (hs : Step P all N o T H n n1 c) (r : Run P all N ops (putT T o.dst (resOf c)) (fun i => (c.bind fun c' => get c'.up i).or (H i)) n1 tl T' H' n') :
      Run P all N (o :: ops) T H n ((c, n) :: tl) T' H' n'

section
variable {P : Program} {E : TT}

theorem dstL_eq (all : List Oper) (j : Nat) : dstL all j = dstOf all.toArray j := by
  unfold dstL dstOf
  have : ∀ (l : List Oper) (j : Nat), (match dropE l j with | some (o :: _) => o.dst | _ => none) = (l[j]?).bind (·.dst) := by
    intro l
    induction l with
    | nil => intro j; cases j <;> rfl
    | cons o l ih =>
      intro j
      cases j with
      | zero => rfl
      | succ j => simpa [dropE] using ih j
  have h2 := this all j
  rw [List.getElem?_toArray]
  exact h2

theorem dstOk_spec {N : Nat} {d : Option Nat} (h : dstOk N d = true) : ∀ y, d = some y → y < N := by
  intro y hy
  subst hy
  exact Nat.le_of_ble_eq_true h

theorem ops_ok (hE : E.Ok P) {N : Nat} {all : List Oper} : ∀ (ops : List Oper) (T : Nat → Option AV) (t : List (Nat × AV)) (h : List (Nat × Ent)) (n : Nat) (L : Log) (K : List (Nat × AV) → List (Nat × Ent) → Nat → Log → Prop),
    denOps E P N all ops t h n L K → Sim T t → (∀ i e, get h i = some e → i < n) →
    ∃ tl T' n' t' h', Run P all.toArray N ops T (get h) n tl T' (get h') n' ∧ Sim T' t' ∧ (∀ i e, get h' i = some e → i < n') ∧ K t' h' n' ((tl.map fun x => logOf x.1).reverse ++ L)
  | [], T, t, h, n, L, K, hd, hs, hb => ⟨[], T, n, t, h, .nil _ _ _, hs, hb, hd⟩
  | o :: ops, T, t, h, n, L, K, hd, hs, hb => by
    simp only [denOps, consV] at hd
    split at hd
    · exact hd.elim
    · rename_i hdst
      have hdst' := dstOk_spec hdst
      -- it is done
      have did : ∀ (t : List (Nat × AV)), Sim T t → GuardYes all.toArray o T → didV E P o (denOps E P N all ops) t h n L K →
          ∃ tl T' n' t' h', Run P all.toArray N (o :: ops) T (get h) n tl T' (get h') n' ∧ Sim T' t' ∧ (∀ i e, get h' i = some e → i < n') ∧ K t' h' n' ((tl.map fun x => logOf x.1).reverse ++ L) := by
        intro t hs hg hd
        obtain ⟨c, hgood, hd⟩ := opVC_ok hE hb hd
        have hup : (fun i => (get c.up i).or (get h i)) = get (c.up ++ h) := by funext i; rw [get_append]
        have hb2 : ∀ i e, get (c.up ++ h) i = some e → i < c.n' := fun i e hi => by
          rw [get_append] at hi
          cases hu : get c.up i with
          | some e' => exact hgood.wf.news i e' hu
          | none => rw [hu] at hi; have := hb i e (by simpa using hi); have := hgood.wf.le; have := hgood.n; omega
        obtain ⟨tl, T', n', t', h', hrun, hs', hb', hk⟩ := ops_ok hE ops (putT T o.dst c.res) (putS t o.dst c.res) (c.up ++ h) c.n' ((keys c.pre, keys c.up) :: L) K hd (hs.put _ _) hb2
        refine ⟨(some c, n) :: tl, T', n', t', h', .cons o ops T (get h) n (some c) c.n' tl T' (get h') n' ⟨hdst', fun c' hc' => ?_, fun hc => by cases hc⟩ ?_, hs', hb', ?_⟩
        · cases hc'
          exact ⟨hs.op hgood.op, hgood.wf, hgood.pre, hgood.n, rfl, hg⟩
        · simp only [resOf, Option.bind_some, hup]; exact hrun
        · simpa [logOf] using hk
      -- it is left out
      have skip : ∀ (t : List (Nat × AV)), Sim T t → GuardNo all.toArray o T → skipV o (denOps E P N all ops) t h n L K →
          ∃ tl T' n' t' h', Run P all.toArray N (o :: ops) T (get h) n tl T' (get h') n' ∧ Sim T' t' ∧ (∀ i e, get h' i = some e → i < n') ∧ K t' h' n' ((tl.map fun x => logOf x.1).reverse ++ L) := by
        intro t hs hg hd
        obtain ⟨tl, T', n', t', h', hrun, hs', hb', hk⟩ := ops_ok hE ops (putT T o.dst (.val undef)) (putS t o.dst (.val undef)) h n (([], []) :: L) K hd (hs.put _ _) hb
        refine ⟨(none, n) :: tl, T', n', t', h', .cons o ops T (get h) n none n tl T' (get h') n' ⟨hdst', (fun c' hc' => by cases hc'), fun _ => ⟨hg, rfl⟩⟩ ?_, hs', hb', ?_⟩
        · simpa [resOf] using hrun
        · simpa [logOf] using hk
      split at hd
      · exact hd.elim
      · rename_i hg
        refine did t hs ?_ hd
        unfold guardOf at hg
        split at hg
        · rename_i hn; exact .free hn
        · split at hg <;> cases hg
      · rename_i d w hg
        obtain ⟨j, hgd, hdj⟩ : ∃ j, o.guard = some (j, w) ∧ dstOf all.toArray j = some d := by
          unfold guardOf at hg
          split at hg
          · cases hg
          · rename_i j w' hgd
            split at hg
            · rename_i d' hd'
              cases hg
              exact ⟨j, hgd, by rw [← dstL_eq]; exact hd'⟩
            · cases hg
        have yes : ∀ {v : AV} {b : Bool}, get t d = some v → (∀ ρ, conc ρ v = some (.bool b)) → b = w → GuardYes all.toArray o T := fun hv hc hbw => by
          obtain ⟨v', h1, h2⟩ := hs d _ hv
          exact .yes j d w hgd hdj v' h1 fun ρ => by rw [h2, hc, hbw]
        have no : ∀ {v : AV} {b : Bool}, get t d = some v → (∀ ρ, conc ρ v = some (.bool b)) → b ≠ w → GuardNo all.toArray o T := fun hv hc hbw => by
          obtain ⟨v', h1, h2⟩ := hs d _ hv
          exact .no j d w _ hgd hdj v' h1 (fun ρ => by rw [h2, hc]) hbw
        split at hd
        · rename_i hv
          split at hd
          · exact did t hs (yes hv (fun _ => rfl) rfl) hd
          · exact skip t hs (no hv (fun _ => rfl) (by simp)) hd
        · rename_i hv
          split at hd
          · exact skip t hs (no hv (fun _ => rfl) (by simp)) hd
          · exact did t hs (yes hv (fun _ => rfl) rfl) hd
        · rename_i b hv
          split at hd
          · obtain ⟨h1, h2⟩ := hd
            cases b with
            | true => exact did _ (hs.fork hv .tt fun _ => rfl) (yes hv (fun _ => rfl) rfl) (h1 rfl)
            | false => exact skip _ (hs.fork hv .ff fun _ => rfl) (no hv (fun _ => rfl) (by simp)) (h2 rfl)
          · obtain ⟨h1, h2⟩ := hd
            cases b with
            | true => exact skip _ (hs.fork hv .tt fun _ => rfl) (no hv (fun _ => rfl) (by simp)) (h1 rfl)
            | false => exact did _ (hs.fork hv .ff fun _ => rfl) (yes hv (fun _ => rfl) rfl) (h2 rfl)
        · rename_i x hv
          obtain ⟨v', h1, h2⟩ := hs d _ hv
          exact skip t hs (.undef j d w hgd hdj v' h1 x fun ρ => by rw [h2]; rfl) hd
        · exact hd.elim

/-- the trace of what was run -/
def traceOf (tl : List (Option Con × Nat)) (n' : Nat) : Trace := ⟨fun k => (tl[k]?).bind (·.1), fun k => match tl[k]? with | some x => x.2 | none => n'⟩

theorem run_length {N : Nat} {all : Array Oper} {ops : List Oper} {T T' : Nat → Option AV} {H H' : Nat → Option Ent} {n n' : Nat} {tl : List (Option Con × Nat)} (r : Run P all N ops T H n tl T' H' n') : tl.length = ops.length := by
  induction r with
  | nil => rfl
  | cons o ops T H n c n1 tl T' H' n' hs r ih => simp [ih]

theorem run_head {N : Nat} {all : Array Oper} {ops : List Oper} {T T' : Nat → Option AV} {H H' : Nat → Option Ent} {n n' : Nat} {tl : List (Option Con × Nat)} (r : Run P all N ops T H n tl T' H' n') : (traceOf tl n').ns 0 = n := by
  cases r <;> rfl

theorem run_at {N : Nat} {ops : List Oper} {T0 T' : Nat → Option AV} {h0 H' : Nat → Option Ent} {n0 n' : Nat} {tl : List (Option Con × Nat)} (r : Run P ops.toArray N ops T0 h0 n0 tl T' H' n') : ∀ k, k ≤ ops.length →
    Run P ops.toArray N (ops.drop k) (foldS (fun _ => true) ((traceOf tl n').wrT ops.toArray) T0 k) (foldS (fun _ => true) (traceOf tl n').wrH h0 k) ((traceOf tl n').ns k) (tl.drop k) T' H' n' := by
  intro k
  induction k with
  | zero =>
    intro _
    have e : (traceOf tl n').ns 0 = n0 := run_head r
    rw [e]
    simpa [foldS] using r
  | succ k ih =>
    intro hk
    have hr := ih (by omega)
    have hlen := run_length r
    have e1 : ops.drop k = ops[k] :: ops.drop (k + 1) := List.drop_eq_getElem_cons (by omega)
    have e2 : tl.drop k = tl[k] :: tl.drop (k + 1) := List.drop_eq_getElem_cons (by omega)
    rw [e1, e2] at hr
    generalize ho : ops[k] = ok at hr
    generalize ht : tl[k] = tk at hr
    have hok : ops[k]? = some ok := by rw [← ho]; exact List.getElem?_eq_getElem (by omega)
    have htk : tl[k]? = some tk := by rw [← ht]; exact List.getElem?_eq_getElem (by omega)
    cases hr with
    | cons _ _ _ _ _ c n1 _ _ _ _ hs r' =>
      have hc : (traceOf tl n').con k = c := by show (tl[k]?).bind (·.1) = c; rw [htk]; rfl
      have hn1 : (traceOf tl n').ns (k + 1) = n1 := by
        have := run_head r'
        simp only [traceOf, List.getElem?_drop] at this ⊢
        exact this
      have e3 : foldS (fun _ => true) ((traceOf tl n').wrT ops.toArray) T0 (k + 1) = putT (foldS (fun _ => true) ((traceOf tl n').wrT ops.toArray) T0 k) ok.dst (resOf c) := by
        funext x
        simp only [foldS, if_true, Trace.wrT, putT, dstOf, hc, List.getElem?_toArray, hok, Option.bind_some]
        cases c <;> simp only [resOf] <;> split <;> simp
      have e4 : foldS (fun _ => true) (traceOf tl n').wrH h0 (k + 1) = (fun i => (c.bind fun c' => get c'.up i).or (foldS (fun _ => true) (traceOf tl n').wrH h0 k i)) := by
        funext i
        simp only [foldS, if_true, Trace.wrH, hc]
      rw [e3, e4, hn1]
      exact r'

theorem run_ok {N : Nat} {ops : List Oper} {T0 T' : Nat → Option AV} {h0 H' : Nat → Option Ent} {n0 n' : Nat} {tl : List (Option Con × Nat)} (r : Run P ops.toArray N ops T0 h0 n0 tl T' H' n') :
    (traceOf tl n').Ok P ops.toArray N T0 h0 ∧ foldS (fun _ => true) ((traceOf tl n').wrT ops.toArray) T0 ops.toArray.size = T' ∧ foldS (fun _ => true) (traceOf tl n').wrH h0 ops.toArray.size = H' ∧
      (traceOf tl n').ns 0 = n0 ∧ (traceOf tl n').ns ops.toArray.size = n' := by
  have hlen := run_length r
  refine ⟨⟨fun k o ho => ?_⟩, ?_, ?_, run_head r, ?_⟩
  · simp only [List.getElem?_toArray] at ho
    have hk : k < ops.length := (List.getElem?_eq_some_iff.1 ho).1
    have hr := run_at r k (by omega)
    have e1 : ops.drop k = ops[k] :: ops.drop (k + 1) := List.drop_eq_getElem_cons (by omega)
    have e2 : tl.drop k = tl[k] :: tl.drop (k + 1) := List.drop_eq_getElem_cons (by omega)
    have ho' : ops[k] = o := (List.getElem?_eq_some_iff.1 ho).2
    rw [e1, e2, ho'] at hr
    generalize ht : tl[k] = tk at hr
    have htk : tl[k]? = some tk := by rw [← ht]; exact List.getElem?_eq_getElem (by omega)
    cases hr with
    | cons _ _ _ _ _ c n1 _ _ _ _ hs r' =>
      have hc : (traceOf tl n').con k = c := by show (tl[k]?).bind (·.1) = c; rw [htk]; rfl
      have hn1 : (traceOf tl n').ns (k + 1) = n1 := by
        have := run_head r'
        simp only [traceOf, List.getElem?_drop] at this ⊢
        exact this
      rw [hc, hn1]
      exact hs
  all_goals
    have hr := run_at r ops.length (Nat.le_refl _)
    simp only [List.drop_length] at hr
    generalize htl : List.drop ops.length tl = tr at hr
    simp only [List.size_toArray]
    generalize hA : foldS (fun _ => true) ((traceOf tl n').wrT ops.toArray) T0 ops.length = A at hr ⊢
    generalize hB : foldS (fun _ => true) (traceOf tl n').wrH h0 ops.length = B at hr ⊢
    generalize hC : (traceOf tl n').ns ops.length = C at hr ⊢
    cases hr
    rfl
end
end Go.Eng

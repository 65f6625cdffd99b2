/- The engine, part C: a region of operations, in the text's order and in whatever order is drawn. -/
import Derived.Test.YtehnjdcahbehjaaGreatDoorEngB
namespace Go.Eng
open Go
universe u

section
variable {P : Program} {ops : Array Oper} {Q : Exit → Act → World → Prop}

def dstOf (ops : Array Oper) (k : Nat) : Option Nat := (ops[k]?).bind (·.dst)

/-- What is known of a region's operations in the text's order: of each what it does (none: its guard says no), and the first new name of each. -/
structure Trace : Type 1 where
  con : Nat → Option Con
  ns : Nat → Nat

def Trace.wrT (tr : Trace) (ops : Array Oper) (k x : Nat) : Option AV :=
  if dstOf ops k = some x then some (match tr.con k with | some c => c.res | none => .val undef) else none
def Trace.wrH (tr : Trace) (k i : Nat) : Option Ent := (tr.con k).bind fun c => get c.up i

def guardSlot (ops : Array Oper) (o : Oper) : Option (Nat × Bool) :=
  match o.guard with
  | none => none
  | some (j, w) => match dstOf ops j with
    | some d => some (d, w)
    | none => none

inductive GuardYes (ops : Array Oper) (o : Oper) (T : Nat → Option AV) : Prop
  | free (h : o.guard = none)
  | yes (j d : Nat) (w : Bool) (h : o.guard = some (j, w)) (hd : dstOf ops j = some d) (v : AV) (ht : T d = some v) (hv : ∀ ρ, conc ρ v = some (.bool w))
inductive GuardNo (ops : Array Oper) (o : Oper) (T : Nat → Option AV) : Prop
  | no (j d : Nat) (w b : Bool) (h : o.guard = some (j, w)) (hd : dstOf ops j = some d) (v : AV) (ht : T d = some v) (hv : ∀ ρ, conc ρ v = some (.bool b)) (hb : b ≠ w)
  | undef (j d : Nat) (w : Bool) (h : o.guard = some (j, w)) (hd : dstOf ops j = some d) (v : AV) (ht : T d = some v) (x : Array Value) (hv : ∀ ρ, conc ρ v = some (.tuple x))

structure Step (P : Program) (ops : Array Oper) (N : Nat) (o : Oper) (T : Nat → Option AV) (h : Nat → Option Ent) (n n' : Nat) (c : Option Con) : Prop where
  dst : ∀ y, o.dst = some y → y < N
  done : ∀ c', c = some c' → OpOk P o (evO T) c' ∧ c'.Wf ∧ (∀ i e, get c'.pre i = some e → h i = some e) ∧ c'.n = n ∧ c'.n' = n' ∧ GuardYes ops o T
  skipped : c = none → GuardNo ops o T ∧ n' = n

structure Trace.Ok (tr : Trace) (P : Program) (ops : Array Oper) (N : Nat) (T0 : Nat → Option AV) (h0 : Nat → Option Ent) : Prop where
  steps : ∀ k o, ops[k]? = some o → Step P ops N o (foldS (fun _ => true) (tr.wrT ops) T0 k) (foldS (fun _ => true) tr.wrH h0 k) (tr.ns k) (tr.ns (k + 1)) (tr.con k)

theorem Trace.Ok.mono {tr : Trace} {N : Nat} {T0 : Nat → Option AV} {h0 : Nat → Option Ent} (h : tr.Ok P ops N T0 h0) : ∀ d k, k + d ≤ ops.size → tr.ns k ≤ tr.ns (k + d) := by
  intro d
  induction d with
  | zero => intro k _; exact Nat.le_refl _
  | succ d ih =>
    intro k hk
    have h1 := ih k (by omega)
    have hlt : k + d < ops.size := by omega
    have hs := h.steps (k + d) ops[k + d] (by simp [hlt])
    have : tr.ns (k + d) ≤ tr.ns (k + d + 1) := by
      cases hc : tr.con (k + d) with
      | none => have := (hs.skipped hc).2; omega
      | some c => obtain ⟨_, hw, _, h3, h4, _⟩ := hs.done c hc; have := hw.le; omega
    exact Nat.le_trans h1 this

theorem yielded_of {B : Base} {ρ : Names} {T : Nat → Option AV} {h : Nat → Option Ent} {F : Nat → Nat → Prop} {a : Act} {w : World} (r : Rep B ρ T h F a w)
    {j d : Nat} {v : AV} (hd : dstOf ops j = some d) (ht : T d = some v) : ∃ u, conc ρ v = some u ∧ yielded ops a.tmps j = match u with | .bool b => some b | _ => none := by
  obtain ⟨u, hu, hg⟩ := r.tmps d v ht
  refine ⟨u, hu, ?_⟩
  have hd' : (ops[j]?).bind (·.dst) = some d := hd
  unfold yielded
  rw [hd', Option.bind_some, hg]
  cases u <;> rfl

theorem wanted_yes {B : Base} {ρ : Names} {T : Nat → Option AV} {h : Nat → Option Ent} {F : Nat → Nat → Prop} {a : Act} {w : World} (r : Rep B ρ T h F a w)
    {o : Oper} (hg : GuardYes ops o T) : Region.wanted o (yielded ops a.tmps) = true := by
  cases hg with
  | free h => simp [Region.wanted, h]
  | yes j d w hgd hd v ht hv =>
    obtain ⟨u, hu, hy⟩ := yielded_of r hd ht
    rw [hv] at hu
    cases hu
    simp [Region.wanted, hgd, hy]

theorem wanted_no {B : Base} {ρ : Names} {T : Nat → Option AV} {h : Nat → Option Ent} {F : Nat → Nat → Prop} {a : Act} {w : World} (r : Rep B ρ T h F a w)
    {o : Oper} (hg : GuardNo ops o T) : Region.wanted o (yielded ops a.tmps) = false := by
  cases hg with
  | no j d w b hgd hd v ht hv hb =>
    obtain ⟨u, hu, hy⟩ := yielded_of r hd ht
    rw [hv] at hu
    cases hu
    simp [Region.wanted, hgd, hy, hb]
  | undef j d w hgd hd v ht x hv =>
    obtain ⟨u, hu, hy⟩ := yielded_of r hd ht
    rw [hv] at hu
    cases hu
    simp [Region.wanted, hgd, hy]

theorem GuardYes.congr {o : Oper} {T T' : Nat → Option AV} (h : ∀ x ∈ o.looksAt ops, T x = T' x) (hg : GuardYes ops o T) : GuardYes ops o T' := by
  cases hg with
  | free h => exact .free h
  | yes j d w hgd hd v ht hv =>
    refine .yes j d w hgd hd v ((h d ?_).symm.trans ht) hv
    unfold Oper.looksAt
    have hd' : (ops[j]?).bind (·.dst) = some d := hd
    simp [hgd, hd']
theorem GuardNo.congr {o : Oper} {T T' : Nat → Option AV} (h : ∀ x ∈ o.looksAt ops, T x = T' x) (hg : GuardNo ops o T) : GuardNo ops o T' := by
  have mem : ∀ j w d, o.guard = some (j, w) → dstOf ops j = some d → d ∈ o.looksAt ops := fun j w d hgd hd => by
    unfold Oper.looksAt
    have hd' : (ops[j]?).bind (·.dst) = some d := hd
    simp [hgd, hd']
  cases hg with
  | no j d w b hgd hd v ht hv hb => exact .no j d w b hgd hd v ((h d (mem j w d hgd hd)).symm.trans ht) hv hb
  | undef j d w hgd hd v ht x hv => exact .undef j d w hgd hd v ((h d (mem j w d hgd hd)).symm.trans ht) x hv

theorem HeapOk.sub {ρ : Names} {h h' : Nat → Option Ent} {F : Nat → Nat → Prop} {w : World} (hh : HeapOk ρ h F w) (hs : ∀ i e, h' i = some e → h i = some e) : HeapOk ρ h' F w :=
  ⟨fun i e hi => hh.ents i e (hs i e hi), fun i j ei ej hij hi hj => hh.apart i j ei ej hij (hs i ei hi) (hs j ej hj), fun i e hi => hh.low i e (hs i e hi)⟩

/-- One operation, wherever its operands, its guard and the entries that it looks at are as in the text's order. -/
theorem wpOp_of_step {B : Base} {ρ : Names} {T T' : Nat → Option AV} {h h' : Nat → Option Ent} {F : Nat → Nat → Prop} {a : Act} {w : World} (r : Rep B ρ T' h' F a w)
    {o : Oper} {k n n' : Nat} {c : Option Con} (ho : ops[k]? = some o) (hs : Step P ops B.N o T h n n' c)
    (hT : ∀ x ∈ o.looksAt ops, T x = T' x) (hH : ∀ c', c = some c' → ∀ i e, get c'.pre i = some e → h' i = some e) (hf : ∀ i, n ≤ i → i < n' → ρ i = none)
    {K : Act → World → Prop}
    (hK : ∀ ρ' F' a' w', Rep B ρ' (putT T' o.dst (match c with | some c' => c'.res | none => .val undef)) (fun i => (c.bind fun c' => get c'.up i).or (h' i)) F' a' w' →
      (∀ i, (i < n ∨ n' ≤ i) → ρ' i = ρ i) → K a' w') : wpOp P ops Q k K a w := by
  unfold wpOp
  rw [ho]
  simp only []
  cases c with
  | none =>
    obtain ⟨hg, hn⟩ := hs.skipped rfl
    rw [wanted_no r (hg.congr hT)]
    simp only [Bool.false_eq_true, if_false]
    refine hK ρ F _ w ?_ (fun _ _ => rfl)
    simpa using r.skip o.dst hs.dst
  | some c' =>
    obtain ⟨hop, hw, hpre, hn, hn', hg⟩ := hs.done c' rfl
    rw [wanted_yes r (hg.congr hT)]
    simp only [if_true]
    refine .inl (hop ρ F a w K Q (fun x hx v hv => ?_) ⟨r.heap.sub (hH c' rfl), fun i h1 h2 => hf i (by omega) (by omega)⟩ fun ρ' F' w' x hp hx => ?_)
    · refine eval_of_tmps r x v ?_
      cases x with
      | tmp t =>
        have : t ∈ o.looksAt ops := by
          unfold Oper.looksAt
          refine List.mem_append_left _ (List.mem_filterMap.2 ⟨.tmp t, by simpa using hx, rfl⟩)
        simp only [evO] at hv ⊢
        rw [← hT t this]; exact hv
      | const _ => exact hv
      | global _ => exact hv
      | func _ => exact hv
    · refine hK ρ' _ _ w' (r.step hw (hH c' rfl) (fun i h1 h2 => hf i (by omega) (by omega)) hp o.dst hs.dst x hx) fun i hi => hp.names i (by omega)

/-- The text's own order. -/
theorem region_text {B : Base} {tr : Trace} {T0 : Nat → Option AV} {h0 : Nat → Option Ent} (hok : tr.Ok P ops B.N T0 h0)
    (hQ : ∀ ρ F a w, Rep B ρ (foldS (fun _ => true) (tr.wrT ops) T0 ops.size) (foldS (fun _ => true) tr.wrH h0 ops.size) F a w → (∀ i, tr.ns ops.size ≤ i → ρ i = none) → Q .normal a w)
    {ρ : Names} {F : Nat → Nat → Prop} {a : Act} {w : World} (r : Rep B ρ T0 h0 F a w) (hf : ∀ i, tr.ns 0 ≤ i → ρ i = none) (id : Nat) : (Code.region id ops false).wp P Q a w := by
  refine wp_region ?_
  have key : ∀ d k, k + d = ops.size → ∀ ρ F a w, Rep B ρ (foldS (fun _ => true) (tr.wrT ops) T0 k) (foldS (fun _ => true) tr.wrH h0 k) F a w → (∀ i, tr.ns k ≤ i → ρ i = none) →
      wpOps P ops Q (List.range' k d) a w := by
    intro d
    induction d with
    | zero =>
      intro k hk ρ F a w r hf
      obtain rfl : k = ops.size := by omega
      simpa [wpOps] using hQ ρ F a w r hf
    | succ d ih =>
      intro k hk ρ F a w r hf
      have hlt : k < ops.size := by omega
      rw [List.range'_succ, wpOps_cons]
      have ho : ops[k]? = some ops[k] := by simp [hlt]
      have hs := hok.steps k ops[k] ho
      refine wpOp_of_step r ho hs (fun _ _ => rfl) (fun c' hc' => (hs.done c' hc').2.2.1) (fun i h1 _ => hf i h1) fun ρ' F' a' w' r' hn => ?_
      refine ih (k + 1) (by omega) ρ' F' a' w' ?_ fun i hi => ?_
      · have e1 : foldS (fun _ => true) (tr.wrT ops) T0 (k + 1) = putT (foldS (fun _ => true) (tr.wrT ops) T0 k) ops[k].dst (match tr.con k with | some c' => c'.res | none => .val undef) := by
          funext x
          simp only [foldS, if_true, Trace.wrT, putT, dstOf, ho, Option.bind_some]
          split <;> simp
        have e2 : foldS (fun _ => true) tr.wrH h0 (k + 1) = (fun i => ((tr.con k).bind fun c' => get c'.up i).or (foldS (fun _ => true) tr.wrH h0 k i)) := by
          funext i
          simp only [foldS, if_true, Trace.wrH]
        rw [e1, e2]
        exact r'
      · have := hok.mono 1 k (by omega)
        rw [hn i (.inr hi)]
        exact hf i (by omega)
  rw [List.range_eq_range']
  exact key ops.size 0 (by omega) ρ F a w (by simpa [foldS] using r) hf

/-- i stands ahead of k in whatever order -/
def Ahead (ops : Array Oper) (i k : Nat) : Prop :=
  ∀ S : Nat → Prop, (∀ j o, ops[j]? = some o → S j → ∀ e ∈ o.after, Region.binds .any e = true → S e.on) → S k → S i

/-- i and k have nothing to do with one another -/
structure Apart (ops : Array Oper) (tr : Trace) (i k : Nat) : Prop where
  looks : ∀ o, ops[k]? = some o → ∀ x ∈ o.looksAt ops, tr.wrT ops i x = none
  looks' : ∀ o, ops[i]? = some o → ∀ x ∈ o.looksAt ops, tr.wrT ops k x = none
  writes : ∀ x, tr.wrT ops i x = none ∨ tr.wrT ops k x = none
  pre : ∀ c, tr.con k = some c → ∀ x e, get c.pre x = some e → tr.wrH i x = none
  pre' : ∀ c, tr.con i = some c → ∀ x e, get c.pre x = some e → tr.wrH k x = none
  ups : ∀ x, tr.wrH i x = none ∨ tr.wrH k x = none

theorem region_any {B : Base} {tr : Trace} {T0 : Nat → Option AV} {h0 : Nat → Option Ent} (hm : P.follows .mixedOrders = true) (hok : tr.Ok P ops B.N T0 h0)
    (hlow : ∀ k o, ops[k]? = some o → ∀ e ∈ o.after, Region.binds .any e = true → e.on < k)
    (hord : ∀ i k, i < k → k < ops.size → Ahead ops i k ∨ Apart ops tr i k)
    (hQ : ∀ ρ F a w, Rep B ρ (foldS (fun _ => true) (tr.wrT ops) T0 ops.size) (foldS (fun _ => true) tr.wrH h0 ops.size) F a w → (∀ i, tr.ns ops.size ≤ i → ρ i = none) → Q .normal a w)
    {ρ : Names} {F : Nat → Nat → Prop} {a : Act} {w : World} (r : Rep B ρ T0 h0 F a w) (hf : ∀ i, tr.ns 0 ≤ i → ρ i = none) (id : Nat) : (Code.region id ops true).wp P Q a w := by
  refine wp_region_any hm ?_
  have key : ∀ fuel (listed : Array Bool) a w, listed.size = ops.size → (List.range ops.size).countP (fun k => !listed.getD k false) ≤ fuel →
      (∀ j o, ops[j]? = some o → listed.getD j false = true → ∀ e ∈ o.after, Region.binds .any e = true → listed.getD e.on false = true) →
      (∃ ρ F, Rep B ρ (foldS (fun k => listed.getD k false) (tr.wrT ops) T0 ops.size) (foldS (fun k => listed.getD k false) tr.wrH h0 ops.size) F a w ∧
        (∀ k, k < ops.size → listed.getD k false = false → ∀ i, tr.ns k ≤ i → i < tr.ns (k + 1) → ρ i = none) ∧ ∀ i, tr.ns ops.size ≤ i → ρ i = none) →
      wpAny P .any ops Q fuel listed a w := by
    have fin : ∀ (listed : Array Bool) a w, listed.size = ops.size → Region.ready .any ops listed = [] →
      (∃ ρ F, Rep B ρ (foldS (fun k => listed.getD k false) (tr.wrT ops) T0 ops.size) (foldS (fun k => listed.getD k false) tr.wrH h0 ops.size) F a w ∧
        (∀ k, k < ops.size → listed.getD k false = false → ∀ i, tr.ns k ≤ i → i < tr.ns (k + 1) → ρ i = none) ∧ ∀ i, tr.ns ops.size ≤ i → ρ i = none) → Q .normal a w := by
      intro listed a w hsz hr hinv
      have hall : ∀ n k, k < n → k < ops.size → listed.getD k false = true := by
        intro n
        induction n with
        | zero => intro k h; omega
        | succ n ih =>
          intro k hk hlt
          by_cases e : k < n
          · exact ih k e hlt
          · obtain rfl : k = n := by omega
            cases hl : listed.getD k false with
            | true => rfl
            | false =>
              have ho : ops[k]? = some ops[k] := by simp [hlt]
              have : k ∈ Region.ready .any ops listed := mem_ready.2 ⟨by simpa [Array.getD, hsz, hlt] using hl, ops[k], ho, fun e he hb => ih e.on (hlow k _ ho e he hb) (by have := hlow k _ ho e he hb; omega)⟩
              rw [hr] at this; cases this
      obtain ⟨ρ, F, r, _, hf⟩ := hinv
      refine hQ ρ F a w ?_ hf
      have e1 : foldS (fun k => listed.getD k false) (tr.wrT ops) T0 ops.size = foldS (fun _ => true) (tr.wrT ops) T0 ops.size := by
        funext x; exact foldS_same x _ fun j hj hne => absurd (hall (j + 1) j (by omega) hj) hne
      have e2 : foldS (fun k => listed.getD k false) tr.wrH h0 ops.size = foldS (fun _ => true) tr.wrH h0 ops.size := by
        funext x; exact foldS_same x _ fun j hj hne => absurd (hall (j + 1) j (by omega) hj) hne
      rw [e1, e2] at r
      exact r
    intro fuel
    induction fuel with
    | zero =>
      intro listed a w hsz hcount hcl hinv
      have hr : Region.ready .any ops listed = [] := by
        rw [List.eq_nil_iff_forall_not_mem]
        intro k hk
        obtain ⟨h1, o, ho, _⟩ := mem_ready.1 hk
        have hlt : k < ops.size := (Array.getElem?_eq_some_iff.1 ho).1
        have : 0 < (List.range ops.size).countP (fun k => !listed.getD k false) := List.countP_pos_iff.2 ⟨k, by simp [hlt], by
          have : listed.getD k false = false := by simpa [Array.getD, hsz, hlt] using h1
          simp [this]⟩
        omega
      exact ⟨hr, fin listed a w hsz hr hinv⟩
    | succ fuel ih =>
      intro listed a w hsz hcount hcl hinv
      refine ⟨fun hr => fin listed a w hsz hr hinv, fun k hk => ?_⟩
      obtain ⟨h1, o, ho, hedges⟩ := mem_ready.1 hk
      have hlt : k < ops.size := (Array.getElem?_eq_some_iff.1 ho).1
      have hkf : listed.getD k false = false := by simpa [Array.getD, hsz, hlt] using h1
      obtain ⟨ρ, F, r, hfr, hfe⟩ := hinv
      -- who writes what k looks at is in order with k
      have before : ∀ j, j < k → Ahead ops j k → listed.getD j false = true := fun j hj ha => by
        have := ha (fun x => x = k ∨ listed.getD x false = true) (fun x ox hox hx e he hb => by
          rcases hx with rfl | hx
          · rw [ho] at hox; cases hox; exact .inr (hedges e he hb)
          · exact .inr (hcl x ox hox hx e he hb)) (.inl rfl)
        rcases this with h | h
        · omega
        · exact h
      have behind : ∀ j, k < j → Ahead ops k j → listed.getD j false = false := fun j hj ha => by
        cases hl : listed.getD j false with
        | false => rfl
        | true =>
          have := ha (fun x => listed.getD x false = true) (fun x ox hox hx e he hb => hcl x ox hox hx e he hb) hl
          simp only [hkf] at this; cases this
      have stableT : ∀ x ∈ o.looksAt ops, foldS (fun _ => true) (tr.wrT ops) T0 k x = foldS (fun k => listed.getD k false) (tr.wrT ops) T0 ops.size x := by
        intro x hx
        refine (foldS_stable x k ops.size (by omega) fun j hj hne => ?_).symm
        by_cases e : j = k
        · subst e; simp [hkf]
        · by_cases hjk : j < k
          · rcases hord j k hjk hlt with ha | ha
            · simp [before j hjk ha, hjk]
            · exact absurd (ha.looks o ho x hx) hne
          · rcases hord k j (by omega) hj with ha | ha
            · simp [behind j (by omega) ha, hjk]
            · exact absurd (ha.looks' o ho x hx) hne
      have stableH : ∀ c, tr.con k = some c → ∀ i e, get c.pre i = some e → foldS (fun k => listed.getD k false) tr.wrH h0 ops.size i = foldS (fun _ => true) tr.wrH h0 k i := by
        intro c hc i e hi
        refine foldS_stable i k ops.size (by omega) fun j hj hne => ?_
        by_cases e : j = k
        · subst e; simp [hkf]
        · by_cases hjk : j < k
          · rcases hord j k hjk hlt with ha | ha
            · simp [before j hjk ha, hjk]
            · exact absurd (ha.pre c hc i _ hi) hne
          · rcases hord k j (by omega) hj with ha | ha
            · simp [behind j (by omega) ha, hjk]
            · exact absurd (ha.pre' c hc i _ hi) hne
      have hs := hok.steps k o ho
      refine wpOp_of_step r ho hs stableT (fun c' hc' i e hi => (stableH c' hc' i e hi).trans ((hs.done c' hc').2.2.1 i e hi)) (hfr k hlt hkf) fun ρ' F' a' w' r' hn => ?_
      have hS' : ∀ j, (listed.setIfInBounds k true).getD j false = if j = k then true else listed.getD j false := by
        intro j
        by_cases e : j = k
        · subst e; simp [Array.getD, hsz, hlt]
        · rw [if_neg e]; exact getD_set_ne false (Ne.symm e)
      refine ih (listed.setIfInBounds k true) a' w' (by simp [hsz]) ?_ ?_ ⟨ρ', F', ?_, ?_, ?_⟩
      · have hcnt : (List.range ops.size).countP (fun j => !(listed.setIfInBounds k true).getD j false) < (List.range ops.size).countP (fun j => !listed.getD j false) := by
          have hk' : k ∈ List.range ops.size := by simp [hlt]
          generalize List.range ops.size = L at hk'
          induction L with
          | nil => cases hk'
          | cons y L ihL =>
            have hle : L.countP (fun j => !(listed.setIfInBounds k true).getD j false) ≤ L.countP (fun j => !listed.getD j false) :=
              List.countP_mono_left fun j _ hj => by
                rw [hS' j] at hj
                split at hj
                · simp at hj
                · exact hj
            rw [List.countP_cons, List.countP_cons, hS' y]
            by_cases e : y = k
            · subst e; rw [if_pos rfl, if_neg (by simp), if_pos (by rw [hkf]; rfl)]; omega
            · rw [if_neg e]
              have := ihL (by cases hk' with
                | head => exact absurd rfl e
                | tail _ h => exact h)
              omega
        omega
      · intro j oj hoj hj e he hb
        rw [hS'] at hj ⊢
        split
        · rfl
        · split at hj
          · rename_i h2 h3; subst h3; rw [ho] at hoj; cases hoj; exact hedges e he hb
          · exact hcl j oj hoj hj e he hb
      · have e1 : foldS (fun j => (listed.setIfInBounds k true).getD j false) (tr.wrT ops) T0 ops.size =
            putT (foldS (fun j => listed.getD j false) (tr.wrT ops) T0 ops.size) o.dst (match tr.con k with | some c' => c'.res | none => .val undef) := by
          funext x
          rw [foldS_insert (S := fun j => listed.getD j false) x k ops.size hlt hkf hS' (fun hne j hj hjm hsj => ?_)]
          · simp only [Trace.wrT, putT, dstOf, ho, Option.bind_some]
            split <;> simp
          · rcases hord k j hj hjm with ha | ha
            · rw [behind j hj ha] at hsj; cases hsj
            · exact (ha.writes x).resolve_left hne
        have e2 : foldS (fun j => (listed.setIfInBounds k true).getD j false) tr.wrH h0 ops.size =
            (fun i => ((tr.con k).bind fun c' => get c'.up i).or (foldS (fun j => listed.getD j false) tr.wrH h0 ops.size i)) := by
          funext x
          rw [foldS_insert (S := fun j => listed.getD j false) x k ops.size hlt hkf hS' (fun hne j hj hjm hsj => ?_)]
          · simp only [Trace.wrH]
          · rcases hord k j hj hjm with ha | ha
            · rw [behind j hj ha] at hsj; cases hsj
            · exact (ha.ups x).resolve_left hne
        rw [e1, e2]
        exact r'
      · intro j hj hjf i h2 h3
        rw [hS'] at hjf
        split at hjf
        · cases hjf
        · rename_i hne
          have : i < tr.ns k ∨ tr.ns (k + 1) ≤ i := by
            by_cases hjk : j < k
            · left
              have := hok.mono (k - (j + 1)) (j + 1) (by omega)
              rw [show j + 1 + (k - (j + 1)) = k by omega] at this
              omega
            · right
              have := hok.mono (j - (k + 1)) (k + 1) (by omega)
              rw [show k + 1 + (j - (k + 1)) = j by omega] at this
              omega
          rw [hn i this]
          exact hfr j hj hjf i h2 h3
      · intro i hi
        have := hok.mono (ops.size - (k + 1)) (k + 1) (by omega)
        rw [show k + 1 + (ops.size - (k + 1)) = ops.size by omega] at this
        rw [hn i (.inr (by omega))]
        exact hfe i hi
  refine key ops.size (Array.replicate ops.size false) a _ (by simp) ?_ ?_ ⟨ρ, F, ?_, ?_, ?_⟩
  · exact Nat.le_trans List.countP_le_length (by simp)
  · intro j o ho hj
    simp [Array.getD] at hj
  · have z : ∀ j, (Array.replicate ops.size false).getD j false = false := by intro j; simp [Array.getD]
    have e1 : foldS (fun j => (Array.replicate ops.size false).getD j false) (tr.wrT ops) T0 ops.size = T0 := by
      funext x
      rw [foldS_up x 0 (fun j _ hj => by rw [z] at hj; cases hj) ops.size (Nat.zero_le _)]; rfl
    have e2 : foldS (fun j => (Array.replicate ops.size false).getD j false) tr.wrH h0 ops.size = h0 := by
      funext x
      rw [foldS_up x 0 (fun j _ hj => by rw [z] at hj; cases hj) ops.size (Nat.zero_le _)]; rfl
    rw [e1, e2]
    exact r.drew
  · intro k hk _ i h1 _
    have := hok.mono k 0 (by omega)
    rw [Nat.zero_add] at this
    exact hf i (by omega)
  · intro i hi
    have := hok.mono ops.size 0 (by omega)
    rw [Nat.zero_add] at this
    exact hf i (by omega)
end
end Go.Eng

/- The engine, part B: a frame's state against the model's, and the law of a region whose order is drawn. -/
import Derived.Test.YtehnjdcahbehjaaGreatDoorEngA
namespace Go.Eng
open Go
universe u

/-- What stays as it was through a whole call. -/
structure Base : Type where
  w0 : World
  C0 : Nat → Prop
  D0 : Nat → Prop
  N : Nat
  n0 : Nat
  ρ0 : Names

structure Rep (B : Base) (ρ : Names) (T : Nat → Option AV) (h : Nat → Option Ent) (F : Nat → Nat → Prop) (a : Act) (w : World) : Prop where
  size : a.tmps.size = B.N
  defers : a.defers = []
  tmps : ∀ x v, T x = some v → ∃ u, conc ρ v = some u ∧ a.tmps[x]? = some u
  heap : HeapOk ρ h F w
  ctx : ∀ b, B.C0 b → b < B.w0.heap.size ∧ w.heap[b]? = B.w0.heap[b]?
  apart : ∀ i e, h i = some e → e.wr = true → ∀ b, F i b → ¬ B.C0 b
  os : w.os = B.w0.os
  tape : w.tape = B.w0.tape
  output : w.output = B.w0.output
  grown : B.w0.heap.size ≤ w.heap.size
  keep : B.ρ0.le ρ
  near : ∀ i e, h i = some e → ∀ b, F i b → B.w0.heap.size ≤ b ∨ B.D0 b

theorem Rep.drew {B : Base} {ρ : Names} {T : Nat → Option AV} {h : Nat → Option Ent} {F : Nat → Nat → Prop} {a : Act} {w : World} (r : Rep B ρ T h F a w) : Rep B ρ T h F a { w with drawn := w.drawn + 1 } := by
  refine ⟨r.size, r.defers, r.tmps, ⟨fun i e hi => ?_, r.heap.apart, r.heap.low⟩, r.ctx, r.apart, r.os, r.tape, r.output, r.grown, r.keep, r.near⟩
  obtain ⟨v, hv, hh⟩ := r.heap.ents i e hi
  exact ⟨v, hv, Ent.holds_local (w := w) (fun _ _ => rfl) hh⟩

/-- a written slot -/
def putT (T : Nat → Option AV) (dst : Option Nat) (v : AV) : Nat → Option AV := fun x => if dst = some x then some v else T x

theorem put_size (a : Act) (d : Option Tmp) (v : Value) : (a.put d v).tmps.size = a.tmps.size := by
  cases d <;> simp [Act.put]
theorem put_defers (a : Act) (d : Option Tmp) (v : Value) : (a.put d v).defers = a.defers := by
  cases d <;> rfl
theorem put_get (a : Act) (d : Option Tmp) (v : Value) (x : Nat) (hd : ∀ y, d = some y → y < a.tmps.size) : (a.put d v).tmps[x]? = if d = some x then some v else a.tmps[x]? := by
  cases d with
  | none => simp [Act.put]
  | some y =>
    have := hd y rfl
    simp only [Act.put, Array.getElem?_setIfInBounds, Option.some.injEq]
    split
    · rename_i e; subst e; simp
    · rfl

theorem Rep.skip {B : Base} {ρ : Names} {T : Nat → Option AV} {h : Nat → Option Ent} {F : Nat → Nat → Prop} {a : Act} {w : World} (r : Rep B ρ T h F a w)
    (d : Option Tmp) (hd : ∀ y, d = some y → y < B.N) : Rep B ρ (putT T d (.val undef)) h F (a.put d undef) w := by
  refine ⟨by rw [put_size]; exact r.size, by rw [put_defers]; exact r.defers, fun x v hx => ?_, r.heap, r.ctx, r.apart, r.os, r.tape, r.output, r.grown, r.keep, r.near⟩
  rw [put_get a d undef x (by rw [r.size]; exact hd)]
  unfold putT at hx
  split at hx
  · rename_i e; cases hx; exact ⟨undef, rfl, by simp [e]⟩
  · rename_i e; rw [if_neg e]; exact r.tmps x v hx

theorem Rep.step {B : Base} {ρ : Names} {T : Nat → Option AV} {h : Nat → Option Ent} {F : Nat → Nat → Prop} {a : Act} {w : World} (r : Rep B ρ T h F a w)
    {c : Con} {ρ' : Names} {F' : Nat → Nat → Prop} {w' : World} (hw : c.Wf) (hpre : ∀ i e, get c.pre i = some e → h i = some e) (hf : ∀ i, c.n ≤ i → i < c.n' → ρ i = none)
    (hp : PostOk c ρ F w ρ' F' w') (d : Option Tmp) (hd : ∀ y, d = some y → y < B.N) (x : Value) (hx : conc ρ' c.res = some x) :
    Rep B ρ' (putT T d c.res) (fun i => (get c.up i).or (h i)) (fun i b => match get c.up i with | some _ => F' i b | none => F i b) (a.put d x) w' := by
  have ext := hp.ext hf
  have free : ∀ b, B.C0 b → ∀ i, c.wrs i → ¬ F i b := fun b hb i hi hib => by
    obtain ⟨e, he, hwr⟩ := hw.turns i hi
    exact r.apart i e (hpre i e he) hwr b hib hb
  refine ⟨by rw [put_size]; exact r.size, by rw [put_defers]; exact r.defers, fun y v hy => ?_, r.heap.step hw hpre hf hp, fun b hb => ?_, fun i e hi hwr b hb hc => ?_,
    hp.os.trans r.os, hp.tape.trans r.tape, hp.output.trans r.output, Nat.le_trans r.grown hp.size, r.keep.trans ext, fun i e hi b hb => ?_⟩
  · rw [put_get a d x y (by rw [r.size]; exact hd)]
    unfold putT at hy
    split at hy
    · rename_i e; cases hy; exact ⟨x, hx, by simp [e]⟩
    · rename_i e
      rw [if_neg e]
      obtain ⟨u, hu, hg⟩ := r.tmps y v hy
      exact ⟨u, conc_mono ext _ _ hu, hg⟩
  · have := r.ctx b hb
    exact ⟨this.1, (hp.same b (Nat.lt_of_lt_of_le this.1 r.grown) (free b hb)).trans this.2⟩
  · cases hu : get c.up i with
    | some eu =>
      simp only [hu] at hi hb
      cases hi
      rcases hp.foot i _ hu b hb with h1 | ⟨j, hj, hjb⟩ | ⟨h0, _⟩
      · have := (r.ctx b hc).1; have := r.grown; omega
      · exact free b hc j hj hjb
      · rw [hwr] at h0; cases h0
    | none =>
      simp only [hu, Option.none_or] at hi hb
      exact r.apart i e hi hwr b hb hc
  · cases hu : get c.up i with
    | some eu =>
      simp only [hu] at hi hb
      cases hi
      rcases hp.foot i _ hu b hb with h1 | ⟨j, hj, hjb⟩ | ⟨_, j, ej, hj, _, hjb⟩
      · have := r.grown; left; omega
      · obtain ⟨ej, hej, _⟩ := hw.turns j hj
        exact r.near j ej (hpre j ej hej) b hjb
      · exact r.near j ej (hpre j ej hj) b hjb
    | none =>
      simp only [hu, Option.none_or] at hi hb
      exact r.near i e hi b hb

def ofBool : Bool → AV
  | true => .tt
  | false => .ff
theorem conc_ofBool (ρ : Names) (b : Bool) : conc ρ (ofBool b) = some (.bool b) := by cases b <;> rfl
def ofConst : Value → AV
  | .bool b => ofBool b
  | .int k n => .lit k n
  | .string s => .str s
  | v => .val v
theorem conc_ofConst (ρ : Names) (v : Value) : conc ρ (ofConst v) = some v := by
  cases v <;> first | rfl | exact conc_ofBool ρ _

def evO (T : Nat → Option AV) : Operand → Option AV
  | .tmp t => T t
  | .const v => some (ofConst v)
  | .global g => some (.val (.pointer (some ⟨g, 0, none⟩)))
  | .func f => some (.fn f [])

/-- An operation does what c says, wherever its operands are these. -/
def OpOk (P : Program) (o : Oper) (E : Operand → Option AV) (c : Con) : Prop :=
  ∀ (ρ : Names) (F : Nat → Nat → Prop) (a : Act) (w : World) (K : Act → World → Prop) (Q : Exit → Act → World → Prop),
    (∀ x ∈ o.op.operands, ∀ v, E x = some v → ∃ u, conc ρ v = some u ∧ a.eval x = u) → PreOk c ρ F w →
    (∀ ρ' F' w' r, PostOk c ρ F w ρ' F' w' → conc ρ' c.res = some r → K (a.put o.dst r) w') → o.wp P a w K Q

theorem eval_of_tmps {B : Base} {ρ : Names} {T : Nat → Option AV} {h : Nat → Option Ent} {F : Nat → Nat → Prop} {a : Act} {w : World} (r : Rep B ρ T h F a w)
    (x : Operand) (v : AV) (hv : evO T x = some v) : ∃ u, conc ρ v = some u ∧ a.eval x = u := by
  cases x with
  | tmp t =>
    obtain ⟨u, hu, hg⟩ := r.tmps t v hv
    exact ⟨u, hu, by simp [Act.eval, hg]⟩
  | const c => simp only [evO, Option.some.injEq] at hv; subst hv; exact ⟨c, conc_ofConst ρ c, rfl⟩
  | global g => simp only [evO, Option.some.injEq] at hv; subst hv; exact ⟨_, rfl, rfl⟩
  | func f => simp only [evO, Option.some.injEq] at hv; subst hv; exact ⟨.func (.func f) #[] #[], by simp [conc, concL], rfl⟩

/-! ### writes in an order that is left open -/
def foldS {β : Type u} (S : Nat → Bool) (wr : Nat → Nat → Option β) (f0 : Nat → Option β) : Nat → Nat → Option β
  | 0, x => f0 x
  | k + 1, x => if S k then (wr k x).or (foldS S wr f0 k x) else foldS S wr f0 k x

section
variable {β : Type u} {S S' : Nat → Bool} {wr : Nat → Nat → Option β} {f0 : Nat → Option β}
theorem foldS_up (x k : Nat) (hk : ∀ j, k ≤ j → S j = true → wr j x = none) : ∀ m, k ≤ m → foldS S wr f0 m x = foldS S wr f0 k x := by
  intro m
  induction m with
  | zero => intro h; obtain rfl : k = 0 := by omega
            rfl
  | succ m ih =>
    intro h
    by_cases e : k = m + 1
    · rw [e]
    · simp only [foldS]
      split
      · rename_i hs; rw [hk m (by omega) hs, Option.none_or]; exact ih (by omega)
      · exact ih (by omega)
theorem foldS_same (x k : Nat) (hk : ∀ j, j < k → S j ≠ S' j → wr j x = none) : foldS S wr f0 k x = foldS S' wr f0 k x := by
  induction k with
  | zero => rfl
  | succ k ih =>
    have ih' := ih (fun j hj => hk j (by omega))
    simp only [foldS]
    by_cases e : S k = S' k
    · rw [e, ih']
    · rw [hk k (by omega) e]
      simp [ih']
/-- the last words before k are k's own view, where all others that speak of x are in order with k -/
theorem foldS_stable (x k m : Nat) (hkm : k ≤ m) (h : ∀ j, j < m → wr j x ≠ none → (S j = true ↔ j < k)) : foldS S wr f0 m x = foldS (fun _ => true) wr f0 k x := by
  rw [foldS_same (S' := fun j => S j && decide (j < k)) x m (fun j hj hne => ?_)]
  · rw [foldS_up x k (fun j hj hs => ?_) m hkm]
    · refine foldS_same x k fun j hj hne => ?_
      cases hw : wr j x with
      | none => rfl
      | some v => exact absurd ((h j (by omega) (by simp [hw])).2 hj) (by intro e; simp [e, hj] at hne)
    · simp at hs; omega
  · cases hw : wr j x with
    | none => rfl
    | some v =>
      have := h j hj (by simp [hw])
      exfalso; apply hne
      by_cases hjk : j < k
      · simp [hjk]
      · have : S j = false := by cases hs : S j with
          | false => rfl
          | true => exact absurd (this.1 hs) hjk
        simp [this]
theorem foldS_insert (x k m : Nat) (hkm : k < m) (hS : S k = false) (hS' : ∀ j, S' j = if j = k then true else S j)
    (h : wr k x ≠ none → ∀ j, k < j → j < m → S j = true → wr j x = none) : foldS S' wr f0 m x = (wr k x).or (foldS S wr f0 m x) := by
  have hlow : ∀ n, n ≤ k → foldS S' wr f0 n x = foldS S wr f0 n x := fun n hn => foldS_same x n fun j hj hne => absurd (by rw [hS' j, if_neg (by omega)]) hne
  have hkk : foldS S' wr f0 (k + 1) x = (wr k x).or (foldS S wr f0 (k + 1) x) := by
    simp only [foldS, hS' k, if_true, hS, hlow k (Nat.le_refl _)]
    simp
  have : ∀ d, k + 1 + d ≤ m → foldS S' wr f0 (k + 1 + d) x = (wr k x).or (foldS S wr f0 (k + 1 + d) x) := by
    intro d
    induction d with
    | zero => intro _; exact hkk
    | succ d ih =>
      intro hd
      have ih' := ih (by omega)
      rw [show k + 1 + (d + 1) = (k + 1 + d) + 1 from rfl]
      simp only [foldS, hS' (k + 1 + d), if_neg (show ¬ k + 1 + d = k by omega)]
      split
      · rename_i hs
        rw [ih']
        cases hw : wr k x with
        | none => simp
        | some v =>
          have := h (by simp [hw]) (k + 1 + d) (by omega) (by omega) hs
          simp [this]
      · exact ih'
  obtain ⟨d, rfl⟩ : ∃ d, m = k + 1 + d := ⟨m - (k + 1), by omega⟩
  exact this d (Nat.le_refl _)
end
end Go.Eng

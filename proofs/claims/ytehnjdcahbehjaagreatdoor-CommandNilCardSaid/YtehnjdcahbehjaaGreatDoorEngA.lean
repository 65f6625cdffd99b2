/- The engine, part A: abstract values, entries of an abstract heap with footprints, and how one step turns them. -/
import Derived.WalkKit
namespace Go.Eng
open Go
universe u

inductive AV where
  | tt
  | ff
  | bool (b : Bool)
  | int (k : IntKind) (n : Int)
  | lit (k : IntKind) (n : Int)
  | str (s : ByteArray)
  | ref (i : Nat)
  | ptr (i off : Nat)
  | ep (i idx sz off : Nat)
  | ip (i off idx sz : Nat)
  | sl (i off len cap : Nat)
  | rs (i lo n sz : Nat)
  | val (v : Value)
  | agg (cs : List AV)
  | tup (vs : List AV)
  | fn (f : FuncId) (caps : List AV)

abbrev Names := Nat → Option Value

mutual
def conc (ρ : Names) : AV → Option Value
  | .tt => some (.bool true)
  | .ff => some (.bool false)
  | .bool b => some (.bool b)
  | .int k n => some (.int k n)
  | .lit k n => some (.int k n)
  | .str s => some (.string s)
  | .ref i => match ρ i with
    | some v => if v.oneCell' then some v else none
    | none => none
  | .ptr i off => match ρ i with
    | some (.pointer (some ⟨b, o, none⟩)) => some (.pointer (some ⟨b, o + off, none⟩))
    | _ => none
  | .ep i idx sz off => match ρ i with
    | some (.slice (some ⟨b, o, none⟩) _ _) => some (.pointer (some ⟨b, o + (idx * sz + off), none⟩))
    | _ => none
  | .ip i off idx sz => match ρ i with
    | some (.pointer (some ⟨b, o, none⟩)) => some (.pointer (some ⟨b, o + (off + idx * sz), none⟩))
    | _ => none
  | .sl i off len cap => match ρ i with
    | some (.pointer (some ⟨b, o, none⟩)) => some (.slice (some ⟨b, o + off, none⟩) len cap)
    | _ => none
  | .rs i lo n sz => match ρ i with
    | some (.slice a _ cap) => some (.slice (if cap = lo then a else a.map (·.add (lo * sz))) n (cap - lo))
    | _ => none
  | .val v => some v
  | .agg cs => match concL ρ cs with
    | some l => some (.agg l.toArray)
    | none => none
  | .tup vs => match concL ρ vs with
    | some l => some (.tuple l.toArray)
    | none => none
  | .fn f caps => match concL ρ caps with
    | some l => some (.func (.func f) #[] l.toArray)
    | none => none
def concL (ρ : Names) : List AV → Option (List Value)
  | [] => some []
  | c :: cs => match conc ρ c with
    | some v => match concL ρ cs with
      | some vs => some (v :: vs)
      | none => none
    | none => none
end

def Names.le (ρ ρ' : Names) : Prop := ∀ i v, ρ i = some v → ρ' i = some v
theorem Names.le.refl (ρ : Names) : ρ.le ρ := fun _ _ h => h
theorem Names.le.trans {a b c : Names} (h : a.le b) (k : b.le c) : a.le c := fun i v hv => k i v (h i v hv)

mutual
theorem conc_mono {ρ ρ' : Names} (h : ρ.le ρ') : ∀ (c : AV) (v : Value), conc ρ c = some v → conc ρ' c = some v
  | .tt, _, e => e
  | .ff, _, e => e
  | .bool _, _, e => e
  | .int _ _, _, e => e
  | .lit _ _, _, e => e
  | .str _, _, e => e
  | .val _, _, e => e
  | .ref i, v, e => by
    simp only [conc] at e ⊢
    cases hi : ρ i with
    | none => simp [hi] at e
    | some x => rw [hi] at e; rw [h i x hi]; exact e
  | .ptr i off, v, e => by
    simp only [conc] at e ⊢
    cases hi : ρ i with
    | none => simp [hi] at e
    | some x => rw [hi] at e; rw [h i x hi]; exact e
  | .ep i idx sz off, v, e => by
    simp only [conc] at e ⊢
    cases hi : ρ i with
    | none => simp [hi] at e
    | some x => rw [hi] at e; rw [h i x hi]; exact e
  | .ip i off idx sz, v, e => by
    simp only [conc] at e ⊢
    cases hi : ρ i with
    | none => simp [hi] at e
    | some x => rw [hi] at e; rw [h i x hi]; exact e
  | .sl i off len cap, v, e => by
    simp only [conc] at e ⊢
    cases hi : ρ i with
    | none => simp [hi] at e
    | some x => rw [hi] at e; rw [h i x hi]; exact e
  | .rs i lo n sz, v, e => by
    simp only [conc] at e ⊢
    cases hi : ρ i with
    | none => simp [hi] at e
    | some x => rw [hi] at e; rw [h i x hi]; exact e
  | .agg cs, v, e => by
    simp only [conc] at e ⊢
    cases hc : concL ρ cs with
    | none => simp [hc] at e
    | some l => rw [hc] at e; rw [concL_mono h cs l hc]; exact e
  | .tup cs, v, e => by
    simp only [conc] at e ⊢
    cases hc : concL ρ cs with
    | none => simp [hc] at e
    | some l => rw [hc] at e; rw [concL_mono h cs l hc]; exact e
  | .fn f cs, v, e => by
    simp only [conc] at e ⊢
    cases hc : concL ρ cs with
    | none => simp [hc] at e
    | some l => rw [hc] at e; rw [concL_mono h cs l hc]; exact e
theorem concL_mono {ρ ρ' : Names} (h : ρ.le ρ') : ∀ (c : List AV) (v : List Value), concL ρ c = some v → concL ρ' c = some v
  | [], _, e => e
  | c :: cs, v, e => by
    simp only [concL] at e ⊢
    cases hc : conc ρ c with
    | none => simp [hc] at e
    | some x =>
      cases hl : concL ρ cs with
      | none => simp [hc, hl] at e
      | some l => rw [hc, hl] at e; rw [conc_mono h c x hc, concL_mono h cs l hl]; exact e
end

/-- An assertion of one's own on a value and the memory behind it, which hangs on its footprint alone. -/
structure Asn where
  wr : Bool
  holds : Value → World → (Nat → Prop) → Prop
  loc : ∀ v w w' F, holds v w F → (∀ b, F b → w'.heap[b]? = w.heap[b]?) → holds v w' F

inductive Ent : Type 1 where
  | gone
  | cells (wr : Bool) (C : List AV)
  | row (wr : Bool) (T : TypeId) (sz : Nat) (α : Type) (enc : α → List AV) (l : List α)
  | asn (A : Asn)

def Ent.wr : Ent → Bool
  | .gone => false
  | .cells w _ => w
  | .row w .. => w
  | .asn A => A.wr

/-- what a row's elements are, laid one behind the other -/
def rowCells {α : Type} (sz : Nat) (enc : α → List AV) (l : List α) (cs : List Value) : Prop :=
  concL (fun _ => none) (l.flatMap enc) = some cs ∧ ∀ x ∈ l, (enc x).length = sz

/-- a slice of one's own: nil, or at the head of a block that is none other's -/
def ownRow (w : World) (T : TypeId) (sz : Nat) (v : Value) (n : Nat) (cs : List Value) : Prop :=
  cs.length = n * sz ∧ ((v = .slice none 0 0 ∧ n = 0) ∨
    ∃ g cap cur fz, v = .slice (some ⟨g, 0, none⟩) n cap ∧ w.heap[g]? = some (.cells cur T fz) ∧ (∀ i, i < cur.size → ¬ (fz.1 ≤ i ∧ i < fz.2)) ∧
      n ≤ cap ∧ cap ≤ maxLen ∧ cur.size = cap * sz ∧ cur.toList.take (n * sz) = cs)

/-- a slice that is read -/
def readsRow (w : World) (v : Value) (n : Nat) (cs : List Value) (F : Nat → Prop) : Prop :=
  n ≤ maxLen ∧ ∃ ao cap, v = .slice ao n cap ∧ n ≤ cap ∧ (∀ b, F b ↔ 0 < n ∧ ∃ ad, ao = some ad ∧ b = ad.block) ∧
    (0 < n → ∃ ad, ao = some ad ∧ ad.spot = none ∧ ∀ j u, cs[j]? = some u → w.cell? (ad.add j) = some u)

def Ent.holds (ρ : Names) (e : Ent) (v : Value) (w : World) (F : Nat → Prop) : Prop :=
  match e with
  | .gone => ∀ b, ¬ F b
  | .cells _ C => ∃ b T cs, v = .pointer (some ⟨b, 0, none⟩) ∧ concL ρ C = some cs ∧ (∀ u ∈ cs, u.oneCell' = true) ∧ w.heap[b]? = some (.cells cs.toArray T (0, 0)) ∧ ∀ x, F x ↔ x = b
  | .row true T sz _ enc l => (∃ cs, rowCells sz enc l cs ∧ (∀ u ∈ cs, u.oneCell' = true) ∧ ownRow w T sz v l.length cs ∧ ∀ b, F b ↔ v.ownBlock = some b) ∨ ((∃ a, v = .slice a 0 0) ∧ l = [] ∧ ∀ b, ¬ F b)
  | .row false _ sz _ enc l => ∃ cs, rowCells sz enc l cs ∧ (∀ u ∈ cs, u.oneCell' = true) ∧ readsRow w v l.length cs F
  | .asn A => A.holds v w F

theorem Ent.holds_mono {ρ ρ' : Names} (h : ρ.le ρ') {e : Ent} {v : Value} {w : World} {F : Nat → Prop} (hh : e.holds ρ v w F) : e.holds ρ' v w F := by
  cases e with
  | gone => exact hh
  | cells wr C =>
    obtain ⟨b, T, cs, hv, hc, r⟩ := hh
    exact ⟨b, T, cs, hv, concL_mono h C cs hc, r⟩
  | row wr T sz α enc l => cases wr <;> exact hh
  | asn A => exact hh

theorem Ent.holds_local {ρ : Names} {e : Ent} {v : Value} {w w' : World} {F : Nat → Prop} (hb : ∀ b, F b → w'.heap[b]? = w.heap[b]?) (hh : e.holds ρ v w F) : e.holds ρ v w' F := by
  cases e with
  | gone => exact hh
  | cells wr C =>
    obtain ⟨b, T, cs, hv, hc, h1, hg, hF⟩ := hh
    exact ⟨b, T, cs, hv, hc, h1, (hb b ((hF b).2 rfl)).trans hg, hF⟩
  | row wr T sz α enc l =>
    cases wr with
    | true =>
      rcases Or.symm hh with hh | ⟨cs, hr, h1, ho, hF⟩
      · exact .inr hh
      refine .inl ⟨cs, hr, h1, ⟨ho.1, ?_⟩, hF⟩
      rcases ho.2 with h2 | ⟨g, cap, cur, fz, hv, hg, r⟩
      · exact .inl h2
      · exact .inr ⟨g, cap, cur, fz, hv, (hb g ((hF g).2 (by rw [hv]; rfl))).trans hg, r⟩
    | false =>
      obtain ⟨cs, hr, h1, hm, ao, cap, hv, hnc, hF, hc⟩ := hh
      refine ⟨cs, hr, h1, hm, ao, cap, hv, hnc, hF, fun hn => ?_⟩
      obtain ⟨ad, ha, hs, hcell⟩ := hc hn
      refine ⟨ad, ha, hs, fun j u hj => ?_⟩
      have hbk : (ad.add j).block = ad.block := by unfold Addr.add; split <;> rfl
      have := hb ad.block ((hF _).2 ⟨hn, ad, ha, rfl⟩)
      rw [World.cell?_of_block (w := w) (by rw [hbk]; exact this)]
      exact hcell j u hj
  | asn A => exact A.loc v w w' F hh hb

def get {α : Type u} : List (Nat × α) → Nat → Option α
  | [], _ => none
  | (k, v) :: r, x => match Nat.beq k x with
    | true => some v
    | false => get r x

theorem get_cons {α : Type u} (k x : Nat) (v : α) (r : List (Nat × α)) : get ((k, v) :: r) x = if k = x then some v else get r x := by
  simp only [get]
  by_cases h : k = x
  · subst h; simp
  · have : Nat.beq k x = false := by
      cases hb : Nat.beq k x with
      | false => rfl
      | true => exact absurd (Nat.eq_of_beq_eq_true hb) h
    simp [this, h]

theorem get_append {α : Type u} (a b : List (Nat × α)) (x : Nat) : get (a ++ b) x = (get a x).or (get b x) := by
  induction a with
  | nil => simp [get]
  | cons p r ih =>
    obtain ⟨k, v⟩ := p
    rw [List.cons_append, get_cons, get_cons, ih]
    split <;> simp

theorem get_mem {α : Type u} {a : List (Nat × α)} {x : Nat} {v : α} (h : get a x = some v) : (x, v) ∈ a := by
  induction a with
  | nil => simp [get] at h
  | cons p r ih =>
    obtain ⟨k, u⟩ := p
    rw [get_cons] at h
    split at h
    · rename_i e; subst e; cases h; exact List.mem_cons_self
    · exact List.mem_cons_of_mem _ (ih h)

/-- The heap stands: each entry holds on a footprint of its own; what may be written lies apart from all else. -/
structure HeapOk (ρ : Names) (h : Nat → Option Ent) (F : Nat → Nat → Prop) (w : World) : Prop where
  ents : ∀ i e, h i = some e → ∃ v, ρ i = some v ∧ e.holds ρ v w (F i)
  apart : ∀ i j ei ej, i ≠ j → h i = some ei → h j = some ej → ei.wr = true → ∀ b, F i b → ¬ F j b
  low : ∀ i e, h i = some e → ∀ b, F i b → b < w.heap.size

/-- What one operation, or one call, does. -/
structure Con : Type 1 where
  pre : List (Nat × Ent)
  n : Nat
  n' : Nat
  res : AV
  up : List (Nat × Ent)

/-- the elder names whose entries it turns -/
def Con.wrs (c : Con) (i : Nat) : Prop := i < c.n ∧ ∃ e, get c.up i = some e

structure Con.Wf (c : Con) : Prop where
  le : c.n ≤ c.n'
  turns : ∀ i, c.wrs i → ∃ e, get c.pre i = some e ∧ e.wr = true
  news : ∀ i e, get c.up i = some e → i < c.n'
  olds : ∀ i e, get c.pre i = some e → i < c.n

structure PreOk (c : Con) (ρ : Names) (F : Nat → Nat → Prop) (w : World) : Prop where
  heap : HeapOk ρ (get c.pre) F w
  fresh : ∀ i, c.n ≤ i → i < c.n' → ρ i = none

structure PostOk (c : Con) (ρ : Names) (F : Nat → Nat → Prop) (w : World) (ρ' : Names) (F' : Nat → Nat → Prop) (w' : World) : Prop where
  names : ∀ i, (i < c.n ∨ c.n' ≤ i) → ρ' i = ρ i
  os : w'.os = w.os
  tape : w'.tape = w.tape
  output : w'.output = w.output
  size : w.heap.size ≤ w'.heap.size
  same : ∀ b, b < w.heap.size → (∀ i, c.wrs i → ¬ F i b) → w'.heap[b]? = w.heap[b]?
  ups : HeapOk ρ' (get c.up) F' w'
  foot : ∀ i e, get c.up i = some e → ∀ b, F' i b → w.heap.size ≤ b ∨ (∃ j, c.wrs j ∧ F j b) ∨ (e.wr = false ∧ ∃ j ej, get c.pre j = some ej ∧ ej.wr = false ∧ F j b)

theorem PostOk.ext {c : Con} {ρ : Names} {F : Nat → Nat → Prop} {w : World} {ρ' : Names} {F' : Nat → Nat → Prop} {w' : World} (hf : ∀ i, c.n ≤ i → i < c.n' → ρ i = none) (h : PostOk c ρ F w ρ' F' w') : ρ.le ρ' := by
  intro i v hv
  by_cases hi : i < c.n ∨ c.n' ≤ i
  · rw [h.names i hi]; exact hv
  · have := hf i (by omega) (by omega)
    rw [this] at hv; cases hv

/-- THE LAW OF THE FRAME: a step turns the heap as it says, and nothing else. -/
theorem HeapOk.step {c : Con} {ρ : Names} {h : Nat → Option Ent} {F : Nat → Nat → Prop} {w : World} {ρ' : Names} {F' : Nat → Nat → Prop} {w' : World}
    (hh : HeapOk ρ h F w) (hw : c.Wf) (hpre : ∀ i e, get c.pre i = some e → h i = some e) (hf : ∀ i, c.n ≤ i → i < c.n' → ρ i = none) (hp : PostOk c ρ F w ρ' F' w') :
    HeapOk ρ' (fun i => (get c.up i).or (h i)) (fun i b => match get c.up i with | some _ => F' i b | none => F i b) w' := by
  have ext := hp.ext hf
  have old : ∀ i e, h i = some e → get c.up i = none → ∀ b, F i b → w'.heap[b]? = w.heap[b]? := by
    intro i e hi hn b hb
    refine hp.same b (hh.low i e hi b hb) fun k hk hkb => ?_
    obtain ⟨ek, hek, hwr⟩ := hw.turns k hk
    obtain ⟨_, eu, heu⟩ := hk
    have hne : k ≠ i := fun e => by subst e; rw [heu] at hn; cases hn
    exact hh.apart k i ek e hne (hpre k ek hek) hi hwr b hkb hb
  refine ⟨fun i e hi => ?_, fun i j ei ej hij hi hj hwr b hb hb' => ?_, fun i e hi b hb => ?_⟩
  · cases hu : get c.up i with
    | some eu =>
      simp only [hu] at hi
      cases hi
      exact hp.ups.ents i _ hu
    | none =>
      simp only [hu, Option.none_or] at hi
      obtain ⟨v, hv, hhold⟩ := hh.ents i e hi
      exact ⟨v, ext i v hv, Ent.holds_mono ext (Ent.holds_local (old i e hi hu) hhold)⟩
  · cases hui : get c.up i with
    | some eui =>
      simp only [hui] at hi
      cases hi
      simp only [hui] at hb
      cases huj : get c.up j with
      | some euj =>
        simp only [huj] at hj
        cases hj
        simp only [huj] at hb'
        exact hp.ups.apart i j ei ej hij hui huj hwr b hb hb'
      | none =>
        simp only [huj, Option.none_or] at hj
        simp only [huj] at hb'
        rcases hp.foot i ei hui b hb with h1 | ⟨k, hk, hkb⟩ | ⟨h0, _⟩
        · have := hh.low j ej hj b hb'; omega
        · obtain ⟨ek, hek, hwk⟩ := hw.turns k hk
          obtain ⟨_, eu, heu⟩ := hk
          have hne : k ≠ j := fun e => by subst e; rw [heu] at huj; cases huj
          exact hh.apart k j ek ej hne (hpre k ek hek) hj hwk b hkb hb'
        · rw [hwr] at h0; cases h0
    | none =>
      simp only [hui, Option.none_or] at hi
      simp only [hui] at hb
      cases huj : get c.up j with
      | some euj =>
        simp only [huj] at hj
        cases hj
        simp only [huj] at hb'
        rcases hp.foot j ej huj b hb' with h1 | ⟨k, hk, hkb⟩ | ⟨h0, k, ek, hek, hk0, hkb⟩
        · have := hh.low i ei hi b hb; omega
        · obtain ⟨ek, hek, hwk⟩ := hw.turns k hk
          obtain ⟨_, eu, heu⟩ := hk
          have hne : k ≠ i := fun e => by subst e; rw [heu] at hui; cases hui
          exact hh.apart k i ek ei hne (hpre k ek hek) hi hwk b hkb hb
        · have hne : i ≠ k := fun e => by
            subst e
            rw [hpre i ek hek] at hi
            cases hi
            rw [hwr] at hk0; cases hk0
          exact hh.apart i k ei ek hne hi (hpre k ek hek) hwr b hb hkb
      | none =>
        simp only [huj, Option.none_or] at hj
        simp only [huj] at hb'
        exact hh.apart i j ei ej hij hi hj hwr b hb hb'
  · cases hu : get c.up i with
    | some eu =>
      simp only [hu] at hi
      cases hi
      simp only [hu] at hb
      exact hp.ups.low i e hu b hb
    | none =>
      simp only [hu, Option.none_or] at hi
      simp only [hu] at hb
      exact Nat.lt_of_lt_of_le (hh.low i e hi b hb) hp.size
end Go.Eng

/- The engine, part Yd: from a body to a contract. -/
import Derived.Test.YtehnjdcahbehjaaGreatDoorEngYc
namespace Go.Eng
open Go
set_option linter.unusedSimpArgs false
set_option linter.unusedVariables false

def resultAV (E : TT) (t : List (Nat × AV)) (h : List (Nat × Ent)) : ResultVar → Option AV
  | .tmp x => get t x
  | .cell a T => match get t a with
    | some (.ptr id off) => match get h id, E.look T with
      | some (.cells _ C), some i => match part? C off i.size with
        | some p => mkAV i.kind.agg p
        | none => none
      | _, _ => none
    | _ => none
def resultsAV (E : TT) (t : List (Nat × AV)) (h : List (Nat × Ent)) : List ResultVar → Option (List AV)
  | [] => some []
  | r :: rs => match resultAV E t h r with
    | some v => match resultsAV E t h rs with
      | some vs => some (v :: vs)
      | none => none
    | none => none
def packRes : List AV → AV
  | [v] => v
  | vs => .tup vs
/-- the body's own names for a contract's -/
def back (m : Nat) (R : List Nat) (i : Nat) : Nat := match Nat.blt i m with
  | true => i
  | false => nthD R (i - m)
def allGe (m : Nat) : List Nat → Bool
  | [] => true
  | x :: r => match Nat.ble m x with
    | true => allGe m r
    | false => false
def upsIn (σ : Nat → Nat) (m : Nat) (h : List (Nat × Ent)) : List (Nat × Ent) → Prop
  | [] => True
  | (i, e) :: l => (match e with
    | .gone => Nat.blt i m = true
    | e => ∃ e', get h (σ i) = some e' ∧ (normE e' = normE (renE σ e) ∨ normE e'.ro = normE (renE σ e))) ∧ upsIn σ m h l
def doneVC (E : TT) (rs : List ResultVar) (c : Con) : Kont := fun k t h n => match k with
  | .exit _ => False
  | _ => Tag 14 (∃ R : List Nat, (lenIs R (c.n' - c.n) = true ∧ nodupN R = true ∧ allGe c.n R = true) ∧ (∃ vs, resultsAV E t h rs = some vs ∧ norm (packRes vs) = norm (ren (back c.n R) c.res)) ∧ upsIn (back c.n R) c.n h c.up)
def slots : Nat → List AV → List (Nat × AV)
  | _, [] => []
  | k, v :: vs => (k, v) :: slots (k + 1) vs
def isSomeE : Option Ent → Bool
  | some _ => true
  | none => false
def isWr : Option Ent → Bool
  | some e => e.wr
  | none => false
def turnsOk (n : Nat) (pre : List (Nat × Ent)) : List (Nat × Ent) → Bool
  | [] => true
  | (i, _) :: l => match Nat.blt i n with
    | true => match isWr (get pre i) with
      | true => turnsOk n pre l
      | false => false
    | false => turnsOk n pre l
def wrIn (up : List (Nat × Ent)) : List (Nat × Ent) → Bool
  | [] => true
  | (i, e) :: l => match e.wr with
    | true => match isSomeE (get up i) with
      | true => wrIn up l
      | false => false
    | false => wrIn up l
def covers (pre : List (Nat × Ent)) : Nat → Bool
  | 0 => true
  | n + 1 => match isSomeE (get pre n) with
    | true => covers pre n
    | false => false
def conOk (c : Con) (args : List AV) (N : Nat) : Bool :=
  Nat.ble c.n c.n' && belowL c.n args && belowH c.n c.pre && below c.n' c.res && belowH c.n' c.up && turnsOk c.n c.pre c.up && wrIn c.up c.pre && covers c.pre c.n && Nat.ble args.length N

section
variable {P : Program} {E : TT}

theorem turnsOk_spec {n : Nat} {pre : List (Nat × Ent)} : ∀ {l : List (Nat × Ent)}, turnsOk n pre l = true → ∀ {i : Nat} {e : Ent}, (i, e) ∈ l → i < n → ∃ e', get pre i = some e' ∧ e'.wr = true
  | (k, x) :: l, h, i, e, hm, hi => by
    simp only [turnsOk] at h
    split at h
    · split at h
      · rename_i h1 h2
        rcases List.mem_cons.1 hm with hm | hm
        · cases hm
          unfold isWr at h2
          split at h2
          · rename_i e' he'; exact ⟨e', he', h2⟩
          · cases h2
        · exact turnsOk_spec h hm hi
      · cases h
    · rename_i h1
      rcases List.mem_cons.1 hm with hm | hm
      · cases hm
        exact absurd (show Nat.blt _ n = true from Nat.ble_eq_true_of_le hi) (by rw [h1]; simp)
      · exact turnsOk_spec h hm hi
theorem wrIn_spec {up : List (Nat × Ent)} : ∀ {l : List (Nat × Ent)}, wrIn up l = true → ∀ {i : Nat} {e : Ent}, (i, e) ∈ l → e.wr = true → ∃ e', get up i = some e'
  | (k, x) :: l, h, i, e, hm, hw => by
    simp only [wrIn] at h
    split at h
    · split at h
      · rename_i h1 h2
        rcases List.mem_cons.1 hm with hm | hm
        · cases hm
          unfold isSomeE at h2
          split at h2
          · rename_i e' he'; exact ⟨e', he'⟩
          · cases h2
        · exact wrIn_spec h hm hw
      · cases h
    · rename_i h1
      rcases List.mem_cons.1 hm with hm | hm
      · cases hm
        rw [hw] at h1; cases h1
      · exact wrIn_spec h hm hw
theorem covers_spec {pre : List (Nat × Ent)} : ∀ {n : Nat}, covers pre n = true → ∀ i, i < n → ∃ e, get pre i = some e
  | n + 1, h, i, hi => by
    simp only [covers] at h
    split at h
    · rename_i h1
      by_cases e : i = n
      · subst e
        unfold isSomeE at h1
        split at h1
        · rename_i e' he'; exact ⟨e', he'⟩
        · cases h1
      · exact covers_spec h i (by omega)
    · cases h
theorem slots_get : ∀ {vs : List AV} {k x : Nat} {v : AV}, get (slots k vs) x = some v → k ≤ x ∧ vs[x - k]? = some v
  | [], k, x, v, h => by simp [slots, get] at h
  | u :: vs, k, x, v, h => by
    simp only [slots] at h
    rw [get_cons] at h
    split at h
    · rename_i e; subst e; cases h; simp
    · obtain ⟨h1, h2⟩ := slots_get h
      refine ⟨by omega, ?_⟩
      rw [show x - k = (x - (k + 1)) + 1 by omega]
      simpa using h2
theorem allGe_spec {m : Nat} : ∀ {R : List Nat}, allGe m R = true → ∀ x ∈ R, m ≤ x
  | [], _, x, hx => by cases hx
  | y :: r, h, x, hx => by
    simp only [allGe] at h
    split at h
    · rename_i hy
      rcases List.mem_cons.1 hx with rfl | hx
      · exact Nat.le_of_ble_eq_true hy
      · exact allGe_spec h x hx
    · cases h
theorem upsIn_get {σ : Nat → Nat} {m : Nat} {h : List (Nat × Ent)} : ∀ {l : List (Nat × Ent)}, upsIn σ m h l → ∀ {i : Nat} {e : Ent}, get l i = some e → (e = .gone ∧ i < m) ∨ ∃ e', get h (σ i) = some e' ∧ (normE e' = normE (renE σ e) ∨ normE e'.ro = normE (renE σ e))
  | [], _, i, e, hg => by simp [get] at hg
  | (k, x) :: l, hu, i, e, hg => by
    obtain ⟨h1, h2⟩ := hu
    rw [get_cons] at hg
    split at hg
    · rename_i he; subst he; cases hg
      cases x with
      | gone => exact .inl ⟨rfl, Nat.le_of_ble_eq_true h1⟩
      | _ => exact .inr h1
    · exact upsIn_get h2 hg

/-- a result variable's value -/
def readVar (a : Act) : ResultVar → Sem Value
  | .tmp t => pure (a.tmps.getD t undef)
  | .cell b t => do loadVar t (← asAddr (a.tmps.getD b undef))

theorem results_run (hE : E.Ok P) {B : Base} {ρ : Names} {t : List (Nat × AV)} {h : List (Nat × Ent)} {F : Nat → Nat → Prop} {a : Act} {w : World} (r : Rep B ρ (get t) (get h) F a w) :
    ∀ {rs : List ResultVar} {vs : List AV}, resultsAV E t h rs = some vs → ∃ us, concL ρ vs = some us ∧
      (List.mapM (readVar a) rs : Sem (List Value)).run P w = .ok us w
  | [], vs, hv => by
    simp only [resultsAV, Option.some.injEq] at hv; subst hv
    exact ⟨[], rfl, by simp⟩
  | x :: rs, vs, hv => by
    simp only [resultsAV] at hv
    split at hv
    · rename_i v hx
      split at hv
      · rename_i vs' hvs
        cases hv
        obtain ⟨us, h1, h2⟩ := results_run hE r hvs
        have hone : ∃ u, conc ρ v = some u ∧ (readVar a x).run P w = .ok u w := by
          cases x with
          | tmp y =>
            obtain ⟨u, hu, hg⟩ := r.tmps y v hx
            refine ⟨u, hu, ?_⟩
            have : a.tmps.getD y undef = u := by simp [Array.getD_eq_getD_getElem?, hg]
            simp [readVar, this]
          | cell b T =>
            simp only [resultAV] at hx
            split at hx
            · rename_i id off hb
              split at hx
              · rename_i wr C i hg hl
                split at hx
                · rename_i p hp
                  have f := TI.facts (TT.look_ok hE hl)
                  obtain ⟨u, hu, hga⟩ := r.tmps b _ hb
                  obtain ⟨v', hv', b', T', cs, rfl, hc, _, hblk, _⟩ := r.heap.ents id _ hg
                  simp only [conc, hv', Option.some.injEq] at hu
                  subst hu
                  obtain ⟨hpc, hlen⟩ := part?_conc hc hp
                  have := run_loadVar_at (P := P) f (off := off) hblk hlen
                  refine ⟨_, mkAV_wrap hx hpc, ?_⟩
                  have hgd : a.tmps.getD b undef = .pointer (some ⟨b', 0 + off, none⟩) := by simp [Array.getD_eq_getD_getElem?, hga]
                  simp only [readVar, hgd, asAddr, Nat.zero_add]
                  simp [this]
                · cases hx
              · cases hx
            · cases hx
        obtain ⟨u, hu, hr⟩ := hone
        refine ⟨u :: us, concL_cons.2 ⟨u, us, hu, h1, rfl⟩, ?_⟩
        rw [List.mapM_cons, Sem.run_bind, hr, Result.andThen_ok, Sem.run_bind, h2]
        rfl
      · cases hv
    · cases hv
end
end Go.Eng

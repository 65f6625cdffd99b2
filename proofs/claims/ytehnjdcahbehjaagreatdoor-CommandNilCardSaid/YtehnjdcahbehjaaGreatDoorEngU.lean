/- The engine, part U: calls. -/
import Derived.Test.YtehnjdcahbehjaaGreatDoorEngS
namespace Go.Eng
open Go
set_option linter.unusedSimpArgs false
set_option linter.unusedVariables false

mutual
theorem conc_ren (r : Nat → Nat) (ρ : Names) : ∀ c, conc ρ (ren r c) = conc (fun i => ρ (r i)) c
  | .tt => rfl
  | .ff => rfl
  | .bool _ => rfl
  | .int _ _ => rfl
  | .lit _ _ => rfl
  | .str _ => rfl
  | .val _ => rfl
  | .ref _ => rfl
  | .ptr _ _ => rfl
  | .ep _ _ _ _ => rfl
  | .ip _ _ _ _ => rfl
  | .sl _ _ _ _ => rfl
  | .rs _ _ _ _ => rfl
  | .agg cs => by simp only [ren, conc, concL_ren r ρ cs]
  | .tup cs => by simp only [ren, conc, concL_ren r ρ cs]
  | .fn _ cs => by simp only [ren, conc, concL_ren r ρ cs]
theorem concL_ren (r : Nat → Nat) (ρ : Names) : ∀ c, concL ρ (renL r c) = concL (fun i => ρ (r i)) c
  | [] => rfl
  | c :: cs => by simp only [renL, concL, conc_ren r ρ c, concL_ren r ρ cs]
end

theorem holds_ren {r : Nat → Nat} {ρ : Names} {e : Ent} {v : Value} {w : World} {F : Nat → Prop} : Ent.holds ρ (renE r e) v w F ↔ Ent.holds (fun i => ρ (r i)) e v w F := by
  cases e with
  | cells wr C => simp only [renE, Ent.holds, concL_ren]
  | gone => exact Iff.rfl
  | row wr T sz α enc l => cases wr <;> exact Iff.rfl
  | asn A => exact Iff.rfl

theorem holds_below {ρ ρ' : Names} {n : Nat} (h : ∀ i, i < n → ρ i = ρ' i) {e : Ent} (hb : e.below n = true) {v : Value} {w : World} {F : Nat → Prop} (hh : Ent.holds ρ e v w F) : Ent.holds ρ' e v w F := by
  cases e with
  | cells wr C =>
    obtain ⟨b, T, cs, hv, hc, r⟩ := hh
    exact ⟨b, T, cs, hv, by rw [← concL_below h C hb]; exact hc, r⟩
  | gone => exact hh
  | row wr T sz α enc l => cases wr <;> exact hh
  | asn A => exact hh

/-- an entry that is lent -/
theorem holds_ro {ρ : Names} {e : Ent} {v : Value} {w : World} {F : Nat → Prop} (hh : Ent.holds ρ e v w F) : ∃ G : Nat → Prop, Ent.holds ρ e.ro v w G ∧ ∀ b, G b → F b := by
  cases e with
  | cells wr C => exact ⟨F, hh, fun _ h => h⟩
  | gone => exact ⟨F, hh, fun _ h => h⟩
  | asn A => exact ⟨F, hh, fun _ h => h⟩
  | row wr T sz α enc l => exact row_ro hh

theorem renE_wr (r : Nat → Nat) (e : Ent) : (renE r e).wr = e.wr := by cases e <;> rfl
theorem ro_wr {e : Ent} (h : e.ro.wr = true) : e.wr = true := by cases e <;> simp_all [Ent.ro, Ent.wr]

theorem nthD_get : ∀ {R : List Nat} {i : Nat}, i < R.length → R[i]? = some (nthD R i)
  | [], i, h => by simp at h
  | x :: r, 0, _ => rfl
  | x :: r, i + 1, h => by
    simp only [List.getElem?_cons_succ, nthD]
    exact nthD_get (by simpa using h)
theorem nodupN_spec : ∀ {R : List Nat}, nodupN R = true → R.Nodup
  | [], _ => List.nodup_nil
  | x :: r, h => by
    simp only [nodupN] at h
    split at h
    · cases h
    · rename_i hx
      exact List.nodup_cons.2 ⟨fun hm => by
        rw [List.elem_eq_mem] at hx
        simp [hm] at hx, nodupN_spec h⟩
theorem allLt_spec {n : Nat} : ∀ {R : List Nat}, allLt n R = true → ∀ x ∈ R, x < n
  | [], _, x, hx => by cases hx
  | y :: r, h, x, hx => by
    simp only [allLt] at h
    split at h
    · rename_i hy
      rcases List.mem_cons.1 hx with rfl | hx
      · exact Nat.le_of_ble_eq_true hy
      · exact allLt_spec h x hx
    · cases h
theorem nthD_inj {R : List Nat} (hn : R.Nodup) {i j : Nat} (hi : i < R.length) (hj : j < R.length) (h : nthD R i = nthD R j) : i = j := by
  have h1 := nthD_get hi
  have h2 := nthD_get hj
  rw [← h] at h2
  exact (List.getElem?_inj hi hn).1 (h1.trans h2.symm)

/-- the caller's names for a contract's own: what they are like -/
structure NamesOk (σ : Nat → Nat) (m m' nn : Nat) : Prop where
  old : ∀ i, i < m → σ i < nn
  new : ∀ i, m ≤ i → σ i = nn + (i - m)
  inj : ∀ i j, σ i = σ j → i < m' → j < m' → i = j

theorem namesOk {R : List Nat} {m m' nn : Nat} (h1 : lenIs R m = true) (h2 : nodupN R = true) (h3 : allLt nn R = true) : NamesOk (names R m nn) m m' nn := by
  have hl := lenIs_spec h1
  have lo : ∀ i, i < m → names R m nn i = nthD R i := fun i hi => by
    unfold names
    have : Nat.blt i m = true := Nat.ble_eq_true_of_le hi
    rw [this]
  have hi' : ∀ i, m ≤ i → names R m nn i = nn + (i - m) := fun i hi => by
    unfold names
    have : Nat.blt i m = false := by
      cases hb : Nat.blt i m with
      | false => rfl
      | true => have : i < m := Nat.le_of_ble_eq_true hb; omega
    rw [this]
  have old : ∀ i, i < m → names R m nn i < nn := fun i hi => by
    rw [lo i hi]
    exact allLt_spec h3 _ (List.mem_of_getElem? (nthD_get (by omega)))
  refine ⟨old, hi', fun i j hij _ _ => ?_⟩
  by_cases hi : i < m <;> by_cases hj : j < m
  · rw [lo i hi, lo j hj] at hij
    exact nthD_inj (nodupN_spec h2) (by omega) (by omega) hij
  · have := old i hi; rw [hij, hi' j (by omega)] at this; omega
  · have := old j hj; rw [← hij, hi' i (by omega)] at this; omega
  · rw [hi' i (by omega), hi' j (by omega)] at hij; omega

/-- what stands under a new name -/
theorem get_renH {σ : Nat → Nat} {m : Nat} (hinj : ∀ i j, σ i = σ j → i < m → j < m → i = j) : ∀ {l : List (Nat × Ent)}, (∀ i e, (i, e) ∈ l → i < m) → ∀ i, i < m → get (renH σ l) (σ i) = (get l i).map (renE σ)
  | [], _, i, _ => rfl
  | (k, e) :: l, hl, i, hi => by
    have hk := hl k e List.mem_cons_self
    rw [renH, get_cons, get_cons]
    by_cases h : k = i
    · subst h; simp
    · rw [if_neg h, if_neg (fun h' => h (hinj k i h' hk hi))]
      exact get_renH hinj (fun j e' hm => hl j e' (List.mem_cons_of_mem _ hm)) i hi
theorem get_renH_some {σ : Nat → Nat} : ∀ {l : List (Nat × Ent)} {k : Nat} {e' : Ent}, get (renH σ l) k = some e' → ∃ i e, σ i = k ∧ (i, e) ∈ l
  | [], k, e', h => by simp [renH, get] at h
  | (i, e) :: l, k, e', h => by
    rw [renH, get_cons] at h
    split at h
    · rename_i h2; exact ⟨i, e, h2, List.mem_cons_self⟩
    · obtain ⟨j, e2, h3, h4⟩ := get_renH_some h
      exact ⟨j, e2, h3, List.mem_cons_of_mem _ h4⟩
theorem get_of_mem {α : Type _} : ∀ {l : List (Nat × α)} {i : Nat} {e : α}, (i, e) ∈ l → ∃ e', get l i = some e'
  | (k, v) :: l, i, e, h => by
    rw [get_cons]
    split
    · exact ⟨v, rfl⟩
    · rename_i hne
      rcases List.mem_cons.1 h with h | h
      · cases h; exact absurd rfl hne
      · exact get_of_mem h

theorem wants_get {lend : Bool} {h : List (Nat × Ent)} : ∀ {l L : List (Nat × Ent)}, wants lend h l L → (∀ k e, get l k = some e → ∃ e', get L k = some e' ∧ get h k = some e' ∧ (normE e' = normE e ∨ (lend = true ∧ normE e'.ro = normE e))) ∧
      ∀ k e', get L k = some e' → get h k = some e' ∧ ∃ e, get l k = some e
  | [], L, hw => by
    have : L = [] := hw
    subst this
    exact ⟨fun k e hk => by simp [get] at hk, fun k e hk => by simp [get] at hk⟩
  | (i, e) :: l, L, hw => by
    obtain ⟨e', L', ⟨rfl, hg, he⟩, hw⟩ := hw
    obtain ⟨ih1, ih2⟩ := wants_get hw
    refine ⟨fun k e2 hk => ?_, fun k e2 hk => ?_⟩
    · rw [get_cons] at hk ⊢
      split at hk
      · rename_i h2; subst h2; cases hk; exact ⟨e', by rw [if_pos rfl], hg, he⟩
      · rename_i h2; rw [if_neg h2]; exact ih1 k e2 hk
    · rw [get_cons] at hk ⊢
      split at hk
      · rename_i h2; subst h2; cases hk; exact ⟨hg, e, by rw [if_pos rfl]⟩
      · rename_i h2; rw [if_neg h2]; exact ih2 k e2 hk
theorem noRo_get : ∀ {l : List (Nat × Ent)}, noRo l = true → ∀ {i : Nat} {e : Ent}, get l i = some e → e.wr = true ∨ e = .gone
  | [], _, _, _, h => by simp [get] at h
  | (k, e') :: l, hn, i, e, hg => by
    rw [get_cons] at hg
    have key : noRo l = true ∧ (e'.wr = true ∨ e' = .gone) := by
      cases e' with
      | gone => exact ⟨hn, .inr rfl⟩
      | cells w C => simp only [noRo] at hn; split at hn
                     · rename_i h2; exact ⟨hn, .inl h2⟩
                     · cases hn
      | row w T sz α enc l' => simp only [noRo] at hn; split at hn
                               · rename_i h2; exact ⟨hn, .inl h2⟩
                               · cases hn
      | asn A => simp only [noRo] at hn; split at hn
                 · rename_i h2; exact ⟨hn, .inl h2⟩
                 · cases hn
    split at hg
    · cases hg; exact key.2
    · exact noRo_get key.1 hg
theorem belowH_spec {n : Nat} : ∀ {l : List (Nat × Ent)}, belowH n l = true → ∀ {i : Nat} {e : Ent}, (i, e) ∈ l → i < n ∧ e.below n = true
  | (k, e') :: l, hb, i, e, hm => by
    simp only [belowH] at hb
    split at hb
    · rename_i h1 h2
      rcases List.mem_cons.1 hm with h | h
      · cases h; exact ⟨Nat.le_of_ble_eq_true h1, h2⟩
      · exact belowH_spec hb h
    · cases hb
end Go.Eng

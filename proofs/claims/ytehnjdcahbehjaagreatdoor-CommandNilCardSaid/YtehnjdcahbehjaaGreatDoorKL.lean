import Derived.Test.YtehnjdcahbehjaaGreatDoorKK
import Derived.Test.YtehnjdcahbehjaaGreatDoorEngZ
namespace Go.Proofs.YtehnjdcahbehjaaGreatDoor
open Go Go.Eng Go.Proofs
set_option maxRecDepth 100000
set_option linter.unusedVariables false
set_option linter.unusedSimpArgs false
set_option maxHeartbeats 2000000
/-! ### what is parsed is planned alike -/
theorem takes_name {c : Call} {w : Int} {s : ByteArray} : (takesS c w s).1.name = c.name := by
  unfold takesS
  repeat' split
  all_goals rfl
theorem takes_field {c : Call} {w : Int} {s : ByteArray} (h : ¬ w = 102) : (takesS c w s).1.field = c.field := by
  unfold takesS
  rw [if_neg (c := w = 102) h]
  repeat' split
  all_goals rfl
theorem all_name : ∀ {Z : List (UInt8 × ByteArray)} {c : Call}, (takesAll c Z).2 = 0 → (takesAll c Z).1.name = c.name
  | [], c, _ => rfl
  | (w, s) :: r, c, h => by
    unfold takesAll at h ⊢
    split
    · rename_i h1
      rw [if_pos h1] at h
      rw [all_name h, takes_name]
    · rename_i h1
      rw [if_neg h1] at h
      exact absurd h h1
theorem all_field : ∀ {Z : List (UInt8 × ByteArray)} {c : Call}, (∀ p ∈ Z, ¬ p.1 = 102) → (takesAll c Z).2 = 0 → (takesAll c Z).1.field = c.field
  | [], c, _, _ => rfl
  | (w, s) :: r, c, hn, h => by
    unfold takesAll at h ⊢
    split
    · rename_i h1
      rw [if_pos h1] at h
      rw [all_field (fun p hp => hn p (List.mem_cons_of_mem _ hp)) h, takes_field]
      intro e
      refine hn _ (List.mem_cons_self) (UInt8.toNat_inj.1 ?_)
      show w.toNat = 102
      omega
    · rename_i h1
      rw [if_neg h1] at h
      exact absurd h h1
theorem all_err : ∀ {Z : List (UInt8 × ByteArray)} {c : Call}, ¬ (takesAll c Z).2 = 0 → (takesAll c Z).1 = Call.zero
  | [], c, h => absurd rfl h
  | (w, s) :: r, c, h => by
    unfold takesAll at h ⊢
    split
    · rename_i h1
      rw [if_pos h1] at h
      exact all_err h
    · rfl
theorem parse_err {l : List ByteArray} (h : ¬ (parseS l).2 = 0) : (parseS l).1 = Call.zero := by
  cases l with
  | nil => rfl
  | cons a r =>
    by_cases h1 : (formS ((L a).map up)).2.2 = false
    · rw [parse_unknown h1]
    · have h1' : (formS ((L a).map up)).2.2 = true := by simpa using h1
      by_cases h2 : r.length = (formS ((L a).map up)).1.size
      · rw [parse_all h1' h2] at h ⊢
        exact all_err h
      · rw [parse_arity h1' h2]
theorem parse_ok {l : List ByteArray} (h : (parseS l).2 = 0) : (formS (L (parseS l).1.name)).2.2 = true ∧ ((∀ b ∈ L (formS (L (parseS l).1.name)).1, ¬ b = 102) → (parseS l).1.field = bs []) := by
  cases l with
  | nil => exact absurd h (by decide)
  | cons a r =>
    by_cases h1 : (formS ((L a).map up)).2.2 = false
    · rw [parse_unknown h1] at h; exact absurd h (by decide)
    · have h1' : (formS ((L a).map up)).2.2 = true := by simpa using h1
      by_cases h2 : r.length = (formS ((L a).map up)).1.size
      · rw [parse_all h1' h2] at h ⊢
        rw [all_name h]
        refine ⟨h1', fun hb => ?_⟩
        rw [all_field (fun p hp => ?_) h]
        · rfl
        · exact hb _ (List.of_mem_zip hp).1
      · rw [parse_arity h1' h2] at h; exact absurd h (by decide)

theorem form_known {l : Bs} (h : (formS l).2.2 = true) : ∃ i, ∃ (hi : i < 25), l = L (formNames[i]'hi) := by
  apply Classical.byContradiction
  intro hn
  rw [form_none (fun i hi e => hn ⟨i, hi, e⟩)] at h
  cases h

theorem plan_eq {c : Call} (h1 : (formS (L c.name)).2.2 = true) (h2 : (∀ b ∈ L (formS (L c.name)).1, ¬ b = 102) → c.field = bs []) : plannedP c = refP c := by
  obtain ⟨i, hi, hn⟩ := form_known h1
  rw [hn] at h2
  match i, hi with
  | 0, _ =>
    replace hn : L c.name = L ⟨#[83, 69, 84]⟩ := hn
    have hf : c.field = bs [] := h2 (show ∀ b ∈ ([107, 118] : List UInt8), ¬ b = 102 from by decide)
    simp only [plannedP, refP, textP, tallyP, groupP, hashP, scoresP, itemsP, whateverP, fewR, hashR, scoresR, itemsR, pushP, pushR, hn, hf]
    rfl
  | 1, _ =>
    replace hn : L c.name = L ⟨#[71, 69, 84]⟩ := hn
    have hf : c.field = bs [] := h2 (show ∀ b ∈ ([107] : List UInt8), ¬ b = 102 from by decide)
    simp only [plannedP, refP, textP, tallyP, groupP, hashP, scoresP, itemsP, whateverP, fewR, hashR, scoresR, itemsR, pushP, pushR, hn, hf]
    rfl
  | 2, _ =>
    replace hn : L c.name = L ⟨#[73, 78, 67, 82, 66, 89]⟩ := hn
    have hf : c.field = bs [] := h2 (show ∀ b ∈ ([107, 110] : List UInt8), ¬ b = 102 from by decide)
    simp only [plannedP, refP, textP, tallyP, groupP, hashP, scoresP, itemsP, whateverP, fewR, hashR, scoresR, itemsR, pushP, pushR, hn, hf]
    rfl
  | 3, _ =>
    replace hn : L c.name = L ⟨#[67, 79, 85, 78, 84]⟩ := hn
    have hf : c.field = bs [] := h2 (show ∀ b ∈ ([107] : List UInt8), ¬ b = 102 from by decide)
    simp only [plannedP, refP, textP, tallyP, groupP, hashP, scoresP, itemsP, whateverP, fewR, hashR, scoresR, itemsR, pushP, pushR, hn, hf]
    rfl
  | 4, _ =>
    replace hn : L c.name = L ⟨#[83, 65, 68, 68]⟩ := hn
    simp only [plannedP, refP, textP, tallyP, groupP, hashP, scoresP, itemsP, whateverP, fewR, hashR, scoresR, itemsR, pushP, pushR, hn]
    rfl
  | 5, _ =>
    replace hn : L c.name = L ⟨#[83, 82, 69, 77]⟩ := hn
    simp only [plannedP, refP, textP, tallyP, groupP, hashP, scoresP, itemsP, whateverP, fewR, hashR, scoresR, itemsR, pushP, pushR, hn]
    rfl
  | 6, _ =>
    replace hn : L c.name = L ⟨#[83, 73, 83, 77, 69, 77, 66, 69, 82]⟩ := hn
    simp only [plannedP, refP, textP, tallyP, groupP, hashP, scoresP, itemsP, whateverP, fewR, hashR, scoresR, itemsR, pushP, pushR, hn]
    rfl
  | 7, _ =>
    replace hn : L c.name = L ⟨#[83, 77, 69, 77, 66, 69, 82, 83]⟩ := hn
    have hf : c.field = bs [] := h2 (show ∀ b ∈ ([107] : List UInt8), ¬ b = 102 from by decide)
    simp only [plannedP, refP, textP, tallyP, groupP, hashP, scoresP, itemsP, whateverP, fewR, hashR, scoresR, itemsR, pushP, pushR, hn, hf]
    rfl
  | 8, _ =>
    replace hn : L c.name = L ⟨#[72, 83, 69, 84]⟩ := hn
    simp only [plannedP, refP, textP, tallyP, groupP, hashP, scoresP, itemsP, whateverP, fewR, hashR, scoresR, itemsR, pushP, pushR, hn]
    rfl
  | 9, _ =>
    replace hn : L c.name = L ⟨#[72, 68, 69, 76]⟩ := hn
    simp only [plannedP, refP, textP, tallyP, groupP, hashP, scoresP, itemsP, whateverP, fewR, hashR, scoresR, itemsR, pushP, pushR, hn]
    rfl
  | 10, _ =>
    replace hn : L c.name = L ⟨#[72, 71, 69, 84]⟩ := hn
    simp only [plannedP, refP, textP, tallyP, groupP, hashP, scoresP, itemsP, whateverP, fewR, hashR, scoresR, itemsR, pushP, pushR, hn]
    rfl
  | 11, _ =>
    replace hn : L c.name = L ⟨#[72, 71, 69, 84, 65, 76, 76]⟩ := hn
    have hf : c.field = bs [] := h2 (show ∀ b ∈ ([107] : List UInt8), ¬ b = 102 from by decide)
    simp only [plannedP, refP, textP, tallyP, groupP, hashP, scoresP, itemsP, whateverP, fewR, hashR, scoresR, itemsR, pushP, pushR, hn, hf]
    rfl
  | 12, _ =>
    replace hn : L c.name = L ⟨#[90, 65, 68, 68]⟩ := hn
    simp only [plannedP, refP, textP, tallyP, groupP, hashP, scoresP, itemsP, whateverP, fewR, hashR, scoresR, itemsR, pushP, pushR, hn]
    rfl
  | 13, _ =>
    replace hn : L c.name = L ⟨#[90, 82, 69, 77]⟩ := hn
    simp only [plannedP, refP, textP, tallyP, groupP, hashP, scoresP, itemsP, whateverP, fewR, hashR, scoresR, itemsR, pushP, pushR, hn]
    rfl
  | 14, _ =>
    replace hn : L c.name = L ⟨#[90, 83, 67, 79, 82, 69]⟩ := hn
    simp only [plannedP, refP, textP, tallyP, groupP, hashP, scoresP, itemsP, whateverP, fewR, hashR, scoresR, itemsR, pushP, pushR, hn]
    rfl
  | 15, _ =>
    replace hn : L c.name = L ⟨#[90, 82, 65, 78, 75]⟩ := hn
    simp only [plannedP, refP, textP, tallyP, groupP, hashP, scoresP, itemsP, whateverP, fewR, hashR, scoresR, itemsR, pushP, pushR, hn]
    rfl
  | 16, _ =>
    replace hn : L c.name = L ⟨#[90, 82, 65, 78, 71, 69]⟩ := hn
    have hf : c.field = bs [] := h2 (show ∀ b ∈ ([107, 110, 109] : List UInt8), ¬ b = 102 from by decide)
    simp only [plannedP, refP, textP, tallyP, groupP, hashP, scoresP, itemsP, whateverP, fewR, hashR, scoresR, itemsR, pushP, pushR, hn, hf]
    rfl
  | 17, _ =>
    replace hn : L c.name = L ⟨#[76, 80, 85, 83, 72]⟩ := hn
    have hf : c.field = bs [] := h2 (show ∀ b ∈ ([107, 118] : List UInt8), ¬ b = 102 from by decide)
    simp only [plannedP, refP, textP, tallyP, groupP, hashP, scoresP, itemsP, whateverP, fewR, hashR, scoresR, itemsR, pushP, pushR, hn, hf]
    rfl
  | 18, _ =>
    replace hn : L c.name = L ⟨#[82, 80, 85, 83, 72]⟩ := hn
    have hf : c.field = bs [] := h2 (show ∀ b ∈ ([107, 118] : List UInt8), ¬ b = 102 from by decide)
    simp only [plannedP, refP, textP, tallyP, groupP, hashP, scoresP, itemsP, whateverP, fewR, hashR, scoresR, itemsR, pushP, pushR, hn, hf]
    rfl
  | 19, _ =>
    replace hn : L c.name = L ⟨#[76, 73, 78, 83, 69, 82, 84]⟩ := hn
    have hf : c.field = bs [] := h2 (show ∀ b ∈ ([107, 110, 118] : List UInt8), ¬ b = 102 from by decide)
    simp only [plannedP, refP, textP, tallyP, groupP, hashP, scoresP, itemsP, whateverP, fewR, hashR, scoresR, itemsR, pushP, pushR, hn, hf]
    rfl
  | 20, _ =>
    replace hn : L c.name = L ⟨#[76, 82, 69, 77]⟩ := hn
    have hf : c.field = bs [] := h2 (show ∀ b ∈ ([107, 110] : List UInt8), ¬ b = 102 from by decide)
    simp only [plannedP, refP, textP, tallyP, groupP, hashP, scoresP, itemsP, whateverP, fewR, hashR, scoresR, itemsR, pushP, pushR, hn, hf]
    rfl
  | 21, _ =>
    replace hn : L c.name = L ⟨#[76, 82, 65, 78, 71, 69]⟩ := hn
    have hf : c.field = bs [] := h2 (show ∀ b ∈ ([107, 110, 109] : List UInt8), ¬ b = 102 from by decide)
    simp only [plannedP, refP, textP, tallyP, groupP, hashP, scoresP, itemsP, whateverP, fewR, hashR, scoresR, itemsR, pushP, pushR, hn, hf]
    rfl
  | 22, _ =>
    replace hn : L c.name = L ⟨#[68, 69, 76]⟩ := hn
    have hf : c.field = bs [] := h2 (show ∀ b ∈ ([107] : List UInt8), ¬ b = 102 from by decide)
    simp only [plannedP, refP, textP, tallyP, groupP, hashP, scoresP, itemsP, whateverP, fewR, hashR, scoresR, itemsR, pushP, pushR, hn, hf]
    rfl
  | 23, _ =>
    replace hn : L c.name = L ⟨#[84, 89, 80, 69]⟩ := hn
    have hf : c.field = bs [] := h2 (show ∀ b ∈ ([107] : List UInt8), ¬ b = 102 from by decide)
    simp only [plannedP, refP, textP, tallyP, groupP, hashP, scoresP, itemsP, whateverP, fewR, hashR, scoresR, itemsR, pushP, pushR, hn, hf]
    rfl
  | 24, _ =>
    replace hn : L c.name = L ⟨#[75, 69, 89, 83]⟩ := hn
    have hf : c.field = bs [] := h2 (show ∀ b ∈ ([] : List UInt8), ¬ b = 102 from by decide)
    simp only [plannedP, refP, textP, tallyP, groupP, hashP, scoresP, itemsP, whateverP, fewR, hashR, scoresR, itemsR, pushP, pushR, hn, hf]
    rfl
  | n + 25, h => exact absurd h (by omega)
end Go.Proofs.YtehnjdcahbehjaaGreatDoor

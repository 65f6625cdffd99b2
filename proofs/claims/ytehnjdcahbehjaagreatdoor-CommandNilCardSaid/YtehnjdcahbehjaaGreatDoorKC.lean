import Derived.Test.YtehnjdcahbehjaaGreatDoorKB
import Derived.Test.YtehnjdcahbehjaaGreatDoorEngZ
namespace Go.Proofs.YtehnjdcahbehjaaGreatDoor
open Go Go.Eng Go.Proofs
set_option maxRecDepth 100000
set_option linter.unusedVariables false
set_option linter.unusedSimpArgs false
/-- is a text a number that is understood? -/
def numOk (l : Bs) : Bool := !(trimPrefixL l [45]).isEmpty && decide ((trimPrefixL l [45]).length ≤ 15) && !((trimPrefixL l [45]).head? == some 48 && !(l == [48])) && (trimPrefixL l [45]).all isDigit
def numL (l : Bs) : Int := match l with
  | 45 :: r => - digitsL r
  | r => digitsL r
theorem dropWhile_nil {p : UInt8 → Bool} : ∀ (l : Bs), l.dropWhile p = [] ↔ l.all p = true
  | [] => by simp
  | c :: l => by
    rw [List.dropWhile_cons]
    split
    · rename_i h; simp [dropWhile_nil l, h]
    · rename_i h; simp [h]
theorem trimL_nil {p : UInt8 → Bool} {l : Bs} : trimL p l = [] ↔ l.all p = true := by
  unfold trimL dropWhileEndL
  rw [dropWhile_nil, List.all_reverse]
  constructor
  · intro h
    have : ∀ (l : Bs), (l.dropWhile p).all p = true → l.all p = true := by
      intro l
      induction l with
      | nil => simp
      | cons c l ih =>
        intro h
        rw [List.dropWhile_cons] at h
        split at h
        · rename_i hc; simp [hc]; simpa using ih h
        · exact h
    simpa using this _ h
  · intro h
    have : l.reverse.dropWhile p = [] := (dropWhile_nil _).2 (by rw [List.all_reverse]; exact h)
    simp [this]
theorem numOk_eq (l : Bs) : numOk l = (!(trimPrefixL l [45]).isEmpty && decide ((trimPrefixL l [45]).length ≤ 15) && !((trimPrefixL l [45]).head? == some 48 && !(l == [48])) && (trimPrefixL l [45]).all isDigit) := rfl
def digitsSet : ByteArray := bs [48, 49, 50, 51, 52, 53, 54, 55, 56, 57]
theorem digitsSet_any (c : UInt8) : ((L digitsSet).any fun b => b.toNat == c.toNat) = isDigit c := by
  rw [Bool.eq_iff_iff, isDigit_iff]
  simp only [digitsSet, L_bs, List.any_cons, List.any_nil, Bool.or_false, Bool.or_eq_true, beq_iff_eq]
  show 48 = _ ∨ 49 = _ ∨ 50 = _ ∨ 51 = _ ∨ 52 = _ ∨ 53 = _ ∨ 54 = _ ∨ 55 = _ ∨ 56 = _ ∨ 57 = _ ↔ _
  omega
theorem strconv_Atoi_num (s : ByteArray) (h : numOk (L s) = true) : FnOk Tryz.prog 172 [.str s] (conPure 0 (.tup [.int .i64 (numL (L s)), .val .nilIface])) := by
  rw [numOk_eq] at h
  simp only [Bool.and_eq_true, decide_eq_true_eq, Bool.not_eq_true', List.isEmpty_eq_false_iff, List.all_eq_true] at h
  obtain ⟨⟨⟨q1, q2⟩, _⟩, q4⟩ := h
  have q0 : 0 < (trimPrefixL (L s) [45]).length := List.length_pos_iff.2 q1
  rcases sign_cases (L s) with ⟨d, e1, e2⟩ | ⟨e1, e2⟩
  · rw [e2] at q0 q2 q4
    have := strconv_Atoi_neg d q0 q2 q4
    rw [← bs_L s, e1]
    exact this
  · rw [e1] at q0 q2 q4
    have := strconv_Atoi_pos (L s) q0 q2 q4
    have e3 : numL (L s) = digitsL (L s) := by
      unfold numL
      split
      · rename_i r hr; exact absurd hr (e2 r)
      · rfl
    rw [e3]
    exact this
theorem command_number (s : ByteArray) (hs : s.size ≤ maxLen) : FnOk Tryz.prog 96 [.str s] (conPure 0 (.tup [.int .i64 (if numOk (L s) then numL (L s) else 0), .bool (numOk (L s))])) := by
  refine fnOk_of_den tab_ok mixed look96 rfl rfl (by kernel_rfl) fun hb => ?_
  simp only [den, denOps]
  have hN := numOk_eq (L s)
  have ht : (bs (trimPrefixL (L s) [45])).size ≤ maxLen := by
    simp only [bs_size, trimPrefixL]
    split <;> simp only [List.length_drop, L_length] <;> omega
  refine callVC_mk [] (strings_TrimPrefix _ _) ⟨rfl, rfl, rfl⟩ rfl trivial ?_
  refine Fork.mk (fun h1 => ?_) (fun h1 => ?_)
  · simp at h1
    refine doneVC_mk [] ⟨by kernel_rfl, by kernel_rfl, by kernel_rfl⟩ rfl (eqT (eqC (eqI ?_) (eqC (eqB ?_) (by kernel_rfl)))) trivial
    · (simp_all; done)
    · (simp_all; done)
  · simp at h1
    refine Fork.mk (fun h2 => ?_) (fun h2 => ?_)
    · simp at h2
      replace h2 := of_decide_eq_true h2
      refine doneVC_mk [] ⟨by kernel_rfl, by kernel_rfl, by kernel_rfl⟩ rfl (eqT (eqC (eqI ?_) (eqC (eqB ?_) (by kernel_rfl)))) trivial
      · (simp_all; omega)
      · (simp_all; omega)
    · simp at h2
      replace h2 := of_decide_eq_false h2
      obtain ⟨c, r, hd⟩ : ∃ c r, trimPrefixL (L s) [45] = c :: r := by
        cases h : trimPrefixL (L s) [45] with
        | nil => exact absurd h h1
        | cons c r => exact ⟨c, r, rfl⟩
      have ha : ((c :: r).all fun c => (L digitsSet).any fun b => b.toNat == c.toNat) = (c :: r).all isDigit := by
        congr 1; funext x; exact digitsSet_any x
      rw [hd] at hN
      have hq : (c :: r).length ≤ 15 := by rw [hd] at h2; omega
      have kA : c.toNat = 48 → ¬ L s = [48] → numOk (L s) = false := fun e1 e2 => by
        have : c = 48 := UInt8.toNat_inj.1 e1
        subst this
        rw [hN]; simp [e2]
      have kB : ¬ (c :: r).all isDigit = true → numOk (L s) = false := fun e => by rw [hN, Bool.not_eq_true _ |>.mp e, Bool.and_false]
      have kT : (c :: r).all isDigit = true → (c.toNat = 48 → L s = [48]) → numOk (L s) = true := fun e1 e2 => by
        rw [hN, e1, decide_eq_true hq]
        by_cases e : c = 48
        · subst e; simp [e2 rfl]
        · simp [e]
      have hb0 : bAt (bs (trimPrefixL (L s) [45])) 0 = c := by rw [bAt_L, L_bs, hd]; rfl
      refine ⟨⟨by simp, by rw [lit_minus, bs_size, hd]; simp⟩, ?_⟩
      have f3 : (((trimPrefixL (L s) [45])[0]?.getD 0).toNat : Int) = 48 ↔ c.toNat = 48 := by rw [hd]; simp only [List.getElem?_cons_zero, Option.getD_some]; omega
      have f5 : trimL (fun c => (L digitsSet).any fun b => b.toNat == c.toNat) (trimPrefixL (L s) [45]) = [] ↔ (c :: r).all isDigit = true := by rw [hd, trimL_nil, ha]
      refine Fork.mk (fun h3 => ?_) (fun h3 => ?_)
      · simp at h3
        refine Fork.mk (fun h4 => ?_) (fun h4 => ?_)
        · simp at h4
          refine doneVC_mk [] ⟨by kernel_rfl, by kernel_rfl, by kernel_rfl⟩ rfl (eqT (eqC (eqI ?_) (eqC (eqB ?_) (by kernel_rfl)))) trivial
          · rw [kA (f3.1 h3) h4]; rfl
          · (simp_all; done)
        · simp at h4
          refine callVC_mk [] (strings_Trim _ digitsSet ?_ (by decide) (by decide) (by decide)) ⟨rfl, rfl, rfl⟩ rfl trivial ?_
          · assumption
          refine Fork.mk (fun h5 => ?_) (fun h5 => ?_)
          · simp at h5
            refine doneVC_mk [] ⟨by kernel_rfl, by kernel_rfl, by kernel_rfl⟩ rfl (eqT (eqC (eqI ?_) (eqC (eqB ?_) (by kernel_rfl)))) trivial
            · rw [kB fun e => h5 (f5.2 e)]; rfl
            · (simp_all; done)
          · simp at h5
            refine callVC_mk [] (strconv_Atoi_num _ ?_) ⟨rfl, rfl, rfl⟩ rfl trivial ?_
            · (simp_all; done)
            refine law_mk (good_nilIface rfl rfl Tryz.underlying274 (.inl ⟨rfl, rfl⟩)) ?_
            refine ⟨rfl, ?_⟩
            refine doneVC_mk [] ⟨by kernel_rfl, by kernel_rfl, by kernel_rfl⟩ rfl (eqT (eqC (eqI ?_) (eqC (eqB ?_) (by kernel_rfl)))) trivial
            · (simp_all; done)
            · (simp_all; done)
      · simp at h3
        refine callVC_mk [] (strings_Trim _ digitsSet ?_ (by decide) (by decide) (by decide)) ⟨rfl, rfl, rfl⟩ rfl trivial ?_
        · assumption
        refine Fork.mk (fun h4 => ?_) (fun h4 => ?_)
        · simp at h4
          refine doneVC_mk [] ⟨by kernel_rfl, by kernel_rfl, by kernel_rfl⟩ rfl (eqT (eqC (eqI ?_) (eqC (eqB ?_) (by kernel_rfl)))) trivial
          · rw [kB fun e => h4 (f5.2 e)]; rfl
          · (simp_all; done)
        · simp at h4
          refine callVC_mk [] (strconv_Atoi_num _ ?_) ⟨rfl, rfl, rfl⟩ rfl trivial ?_
          · (simp_all; done)
          refine law_mk (good_nilIface rfl rfl Tryz.underlying274 (.inl ⟨rfl, rfl⟩)) ?_
          refine ⟨rfl, ?_⟩
          refine doneVC_mk [] ⟨by kernel_rfl, by kernel_rfl, by kernel_rfl⟩ rfl (eqT (eqC (eqI ?_) (eqC (eqB ?_) (by kernel_rfl)))) trivial
          · (simp_all; done)
          · (simp_all; done)

def up (c : UInt8) : UInt8 := if 97 ≤ c.toNat ∧ c.toNat ≤ 122 then c - 32 else c
def upTo (l : Bs) (i : Nat) : Bs := (l.take i).map up ++ l.drop i
theorem upTo_length (l : Bs) (i : Nat) : (upTo l i).length = l.length := by simp [upTo]; omega
theorem upTo_get {l : Bs} {i : Nat} (h : i < l.length) : (upTo l i)[i]'(by rw [upTo_length]; exact h) = l[i] := by
  simp only [upTo]
  rw [List.getElem_append_right (by simp; exact Nat.min_le_left _ _)]
  simp [Nat.min_eq_left (Nat.le_of_lt h)]
theorem upTo_set {l : Bs} {i : Nat} (h : i < l.length) : (upTo l i).set i (up l[i]) = upTo l (i + 1) := by
  have e : ((l.take i).map up).length = i := by simp [Nat.min_eq_left (Nat.le_of_lt h)]
  simp only [upTo]
  rw [List.set_append_right _ _ (by rw [e]; exact Nat.le_refl _), e, Nat.sub_self, take_snoc h, List.drop_eq_getElem_cons h, List.set_cons_zero, List.map_append, List.append_assoc]
  rfl
theorem upTo_same {l : Bs} {i : Nat} (h : i < l.length) (hu : up l[i] = l[i]) : upTo l i = upTo l (i + 1) := by
  rw [← upTo_set h, hu, ← upTo_get h, List.set_getElem_self]
theorem command_capitals (s : ByteArray) (hs : s.size ≤ maxLen) : FnOk Tryz.prog 33 [.str s] (conPure 0 (.str (bs ((L s).map up)))) := by
  refine fnOk_of_den tab_ok mixed look33 rfl rfl (by kernel_rfl) fun hb => ?_
  simp only [den, denOps]
  refine ⟨by omega, ?_⟩
  refine loop_mk (fun i => i ≤ s.size) (fun i => ⟨[(3, .ref 0), (8, .ref 0), (9, .int .i64 (s.size : Nat)), (10, .int .i64 (i : Nat))], [(0, .row true 5 1 UInt8 byteAV (upTo (L s) i))], 1⟩) (fun i => s.size - i) 0 (Nat.zero_le _) ?_ ?_
  · refine sub_mk [0] ⟨by kernel_rfl, by kernel_rfl, by kernel_rfl, by kernel_rfl, by kernel_rfl⟩ ⟨rfl, ⟨rfl, ⟨rfl, ⟨rfl, trivial⟩⟩⟩⟩ ⟨Or.inl (by kernel_rfl), trivial⟩
  intro i hi
  have hl := upTo_length (L s) i
  rw [L_length] at hl
  simp only [maxLen] at hs
  refine Fork.mk (fun h1 => ?_) (fun h1 => ?_)
  · simp at h1
    refine ⟨⟨by omega, by omega, rfl⟩, ?_⟩
    have g1 : i < (L s).length := h1
    have hg : (upTo (L s) i)[i]? = some (L s)[i] := by rw [List.getElem?_eq_getElem (by rw [upTo_length]; exact g1), upTo_get g1]
    refine ⟨_, ⟨rfl, hg⟩, ?_⟩
    refine Fork.mk (fun h2 => ?_) (fun h2 => ?_)
    · simp at h2
      refine Fork.mk (fun h3 => ?_) (fun h3 => ?_)
      · simp at h3
        refine ⟨⟨by omega, by omega, rfl⟩, ?_⟩
        have hn : (up (L s)[i]).toNat = (L s)[i].toNat - 32 := by
          have : (97 : UInt8) ≤ (L s)[i] := by rw [UInt8.le_iff_toNat_le]; show 97 ≤ _; omega
          simp only [up]
          rw [if_pos ⟨by omega, by omega⟩, UInt8.toNat_sub_of_le _ _ (by rw [UInt8.le_iff_toNat_le] at this ⊢; simp at *; omega)]
          rfl
        refine ⟨_, up (L s)[i], _, ⟨rfl, hg, rfl, eqC (eqI ?_) rfl, rfl⟩, ?_⟩
        · rw [hn, IntKind.wrap_u8, IntKind.wrap_u8]; omega
        · refine ⟨⟨i + 1, ?_⟩, ?_, ?_⟩
          · assumption
          · refine sub_mk [0] ⟨by kernel_rfl, by kernel_rfl, by kernel_rfl, by kernel_rfl, by kernel_rfl⟩ ⟨rfl, ⟨rfl, ⟨rfl, ⟨(eqI ?_), trivial⟩⟩⟩⟩ ⟨Or.inl (eqRow ?_), trivial⟩
            · (simp only [IntKind.wrap_i64]; omega)
            · exact upTo_set g1
          · (simp_all; omega)
      · simp at h3
        refine ⟨⟨i + 1, ?_⟩, ?_, ?_⟩
        · assumption
        · refine sub_mk [0] ⟨by kernel_rfl, by kernel_rfl, by kernel_rfl, by kernel_rfl, by kernel_rfl⟩ ⟨rfl, ⟨rfl, ⟨rfl, ⟨(eqI ?_), trivial⟩⟩⟩⟩ ⟨Or.inl (eqRow ?_), trivial⟩
          · (simp only [IntKind.wrap_i64]; omega)
          · rw [upTo_same g1]
            simp only [up]
            rw [if_neg (by omega)]
        · (simp_all; omega)
    · simp at h2
      refine ⟨⟨i + 1, ?_⟩, ?_, ?_⟩
      · assumption
      · refine sub_mk [0] ⟨by kernel_rfl, by kernel_rfl, by kernel_rfl, by kernel_rfl, by kernel_rfl⟩ ⟨rfl, ⟨rfl, ⟨rfl, ⟨(eqI ?_), trivial⟩⟩⟩⟩ ⟨Or.inl (eqRow ?_), trivial⟩
        · (simp only [IntKind.wrap_i64]; omega)
        · rw [upTo_same g1]
          simp only [up]
          rw [if_neg (by omega)]
      · (simp_all; omega)
  · simp at h1
    have he : upTo (L s) i = (L s).map up := by rw [upTo, List.take_of_length_le (by rw [L_length]; exact h1), List.drop_of_length_le (by rw [L_length]; exact h1), List.append_nil]
    refine ⟨(L s).map up, ⟨rfl, by rw [he]⟩, ?_⟩
    refine doneVC_mk [] ⟨by kernel_rfl, by kernel_rfl, by kernel_rfl⟩ rfl (by kernel_rfl) trivial

theorem command_fault (s : ByteArray) : FnOk Tryz.prog 95 [.str s] (⟨[], 0, 0, .agg [.lit .i64 2, .str s, .lit .i64 0, .val (.slice none 0 0)], []⟩) := by
  refine fnOk_of_den tab_ok mixed look95 rfl rfl (by kernel_rfl) fun hb => ?_
  simp only [den, denOps]
  refine doneVC_mk [] ⟨by kernel_rfl, by kernel_rfl, by kernel_rfl⟩ rfl (by kernel_rfl) trivial

end Go.Proofs.YtehnjdcahbehjaaGreatDoor

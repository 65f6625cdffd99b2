import Derived.Test.YtehnjdcahbehjaaGreatDoorKI
import Derived.Test.YtehnjdcahbehjaaGreatDoorEngZ
namespace Go.Proofs.YtehnjdcahbehjaaGreatDoor
open Go Go.Eng Go.Proofs
set_option maxRecDepth 100000
set_option linter.unusedVariables false
set_option linter.unusedSimpArgs false
/-! ### the reference, where there is nothing -/
theorem polyphonyref10_All  : FnOk Tryz.prog 46 [nilS] (conPure 0 nilS) := by
  refine fnOk_of_den tab_ok mixed look46 rfl rfl (by kernel_rfl) fun hb => ?_
  simp only [den, denOps]
  refine unroll_mk 1 ?_
  refine doneVC_mk [] ⟨by kernel_rfl, by kernel_rfl, by kernel_rfl⟩ rfl (by kernel_rfl) trivial
theorem polyphonyref10_Key (k : ByteArray) : FnOk Tryz.prog 50 [nilS, .str k] (conPure 0 (.lit .i64 0)) := by
  refine fnOk_of_den tab_ok mixed look50 rfl rfl (by kernel_rfl) fun hb => ?_
  simp only [den, denOps]
  refine unroll_mk 1 ?_
  refine doneVC_mk [] ⟨by kernel_rfl, by kernel_rfl, by kernel_rfl⟩ rfl (by kernel_rfl) trivial
theorem polyphonyref10_Of (k : ByteArray) : FnOk Tryz.prog 49 [nilS, .str k] (conPure 0 nilS) := by
  refine fnOk_of_den tab_ok mixed look49 rfl rfl (by kernel_rfl) fun hb => ?_
  simp only [den, denOps]
  refine callVC_mk [] (polyphonyref10_Key _) ⟨rfl, rfl, rfl⟩ rfl trivial ?_
  refine unroll_mk 1 ?_
  refine doneVC_mk [] ⟨by kernel_rfl, by kernel_rfl, by kernel_rfl⟩ rfl (by kernel_rfl) trivial
theorem polyphonyref10_Keys  : FnOk Tryz.prog 45 [nilS] (conPure 0 nilS) := by
  refine fnOk_of_den tab_ok mixed look45 rfl rfl (by kernel_rfl) fun hb => ?_
  simp only [den, denOps]
  refine unroll_mk 1 ?_
  refine doneVC_mk [] ⟨by kernel_rfl, by kernel_rfl, by kernel_rfl⟩ rfl (by kernel_rfl) trivial
theorem polyphonyref10_Texts  : FnOk Tryz.prog 48 [nilS, nilS] (conPure 0 .tt) := by
  refine fnOk_of_den tab_ok mixed look48 rfl rfl (by kernel_rfl) fun hb => ?_
  simp only [den, denOps]
  refine unroll_mk 1 ?_
  refine doneVC_mk [] ⟨by kernel_rfl, by kernel_rfl, by kernel_rfl⟩ rfl (by kernel_rfl) trivial
theorem polyphonyref17_Tell (k : ByteArray) : FnOk Tryz.prog 12 [nilS, .str k] (conPure 0 (.agg (zeroOf 47))) := by
  refine fnOk_of_den tab_ok mixed look12 rfl rfl (by kernel_rfl) fun hb => ?_
  simp only [den, denOps]
  refine callVC_mk [] polyphonyref10_All ⟨rfl, rfl, rfl⟩ rfl trivial ?_
  refine callVC_mk [] (polyphonyref10_Of _) ⟨rfl, rfl, rfl⟩ rfl trivial ?_
  refine callVC_mk [] (polyphonyref10_Key _) ⟨rfl, rfl, rfl⟩ rfl trivial ?_
  refine doneVC_mk [] ⟨by kernel_rfl, by kernel_rfl, by kernel_rfl⟩ rfl (by kernel_rfl) trivial
theorem polyphonyref12_Sum  : FnOk Tryz.prog 52 [nilS] (conPure 0 (.lit .i64 0)) := by
  refine fnOk_of_den tab_ok mixed look52 rfl rfl (by kernel_rfl) fun hb => ?_
  simp only [den, denOps]
  refine unroll_mk 1 ?_
  refine doneVC_mk [] ⟨by kernel_rfl, by kernel_rfl, by kernel_rfl⟩ rfl (by kernel_rfl) trivial
theorem polyphonyref12_Check (n : Int) : FnOk Tryz.prog 107 [nilS, .int .i64 n] (conPure 0 (.int .i64 (checkP n))) := by
  refine fnOk_of_den tab_ok mixed look107 rfl rfl (by kernel_rfl) fun hb => ?_
  simp only [den, denOps]
  refine Fork.mk (fun h1 => ?_) (fun h1 => ?_)
  · simp at h1
    refine doneVC_mk [] ⟨by kernel_rfl, by kernel_rfl, by kernel_rfl⟩ rfl (eqI ?_) trivial
    · (simp_all [checkP, sumP]; done)
  · simp at h1
    refine Fork.mk (fun h2 => ?_) (fun h2 => ?_)
    · simp at h2
      refine doneVC_mk [] ⟨by kernel_rfl, by kernel_rfl, by kernel_rfl⟩ rfl (eqI ?_) trivial
      · (simp_all [checkP, sumP]; done)
    · simp at h2
      refine callVC_mk [] polyphonyref12_Sum ⟨rfl, rfl, rfl⟩ rfl trivial ?_
      refine Fork.mk (fun h3 => ?_) (fun h3 => ?_)
      · simp at h3
        refine doneVC_mk [] ⟨by kernel_rfl, by kernel_rfl, by kernel_rfl⟩ rfl (eqI ?_) trivial
        · (simp_all [checkP, sumP]; done)
      · simp at h3
        refine Fork.mk (fun h4 => ?_) (fun h4 => ?_)
        · simp at h4
          refine doneVC_mk [] ⟨by kernel_rfl, by kernel_rfl, by kernel_rfl⟩ rfl (eqI ?_) trivial
          · (simp_all [checkP, sumP]; done)
        · simp at h4
          refine doneVC_mk [] ⟨by kernel_rfl, by kernel_rfl, by kernel_rfl⟩ rfl (eqI ?_) trivial
          · (simp_all [checkP, sumP]; omega)
theorem polyphonyref15_Span (a b : Int) : FnOk Tryz.prog 109 [.lit .i64 0, .int .i64 a, .int .i64 b] (conPure 0 (.tup [.lit .i64 0, .lit .i64 0])) := by
  refine fnOk_of_den tab_ok mixed look109 rfl rfl (by kernel_rfl) fun hb => ?_
  simp only [den, denOps]
  refine Fork.mk (fun h1 => ?_) (fun h1 => ?_)
  · simp at h1
    refine Fork.mk (fun h2 => ?_) (fun h2 => ?_)
    · simp at h2
      refine Fork.mk (fun h3 => ?_) (fun h3 => ?_)
      · simp at h3
        refine doneVC_mk [] ⟨by kernel_rfl, by kernel_rfl, by kernel_rfl⟩ rfl (by kernel_rfl) trivial
      · simp at h3
        refine doneVC_mk [] ⟨by kernel_rfl, by kernel_rfl, by kernel_rfl⟩ rfl (eqT (eqC (eqI ?_) (eqC (eqI ?_) (by kernel_rfl)))) trivial
        · (simp only [IntKind.wrap_i64] at *; omega)
        · (simp only [IntKind.wrap_i64] at *; omega)
    · simp at h2
      refine Fork.mk (fun h3 => ?_) (fun h3 => ?_)
      · simp at h3
        refine doneVC_mk [] ⟨by kernel_rfl, by kernel_rfl, by kernel_rfl⟩ rfl (by kernel_rfl) trivial
      · simp at h3
        refine doneVC_mk [] ⟨by kernel_rfl, by kernel_rfl, by kernel_rfl⟩ rfl (eqT (eqC (eqI ?_) (eqC (eqI ?_) (by kernel_rfl)))) trivial
        · (simp only [IntKind.wrap_i64] at *; omega)
        · (simp only [IntKind.wrap_i64]; omega)
  · simp at h1
    refine Fork.mk (fun h2 => ?_) (fun h2 => ?_)
    · simp at h2
      refine Fork.mk (fun h3 => ?_) (fun h3 => ?_)
      · simp at h3
        refine doneVC_mk [] ⟨by kernel_rfl, by kernel_rfl, by kernel_rfl⟩ rfl (by kernel_rfl) trivial
      · simp at h3
        refine doneVC_mk [] ⟨by kernel_rfl, by kernel_rfl, by kernel_rfl⟩ rfl (eqT (eqC (eqI ?_) (eqC (eqI ?_) (by kernel_rfl)))) trivial
        · (simp only [IntKind.wrap_i64] at *; omega)
        · (simp only [IntKind.wrap_i64] at *; omega)
    · simp at h2
      refine Fork.mk (fun h3 => ?_) (fun h3 => ?_)
      · simp at h3
        refine doneVC_mk [] ⟨by kernel_rfl, by kernel_rfl, by kernel_rfl⟩ rfl (by kernel_rfl) trivial
      · simp at h3
        refine doneVC_mk [] ⟨by kernel_rfl, by kernel_rfl, by kernel_rfl⟩ rfl (eqT (eqC (eqI ?_) (eqC (eqI ?_) (by kernel_rfl)))) trivial
        · (simp only [IntKind.wrap_i64] at *; omega)
        · (simp only [IntKind.wrap_i64]; omega)
theorem polyphonyref22_simple (s : ByteArray) : FnOk Tryz.prog 43 [.str s] (conPure 0 (.agg (repL 1 s 0))) := by
  refine fnOk_of_den tab_ok mixed look43 rfl rfl (by kernel_rfl) fun hb => ?_
  simp only [den, denOps]
  refine doneVC_mk [] ⟨by kernel_rfl, by kernel_rfl, by kernel_rfl⟩ rfl (by kernel_rfl) trivial
theorem polyphonyref22_num (n : Int) : FnOk Tryz.prog 47 [.int .i64 n] (conPure 0 (.agg (repL 3 emp n))) := by
  refine fnOk_of_den tab_ok mixed look47 rfl rfl (by kernel_rfl) fun hb => ?_
  simp only [den, denOps]
  refine doneVC_mk [] ⟨by kernel_rfl, by kernel_rfl, by kernel_rfl⟩ rfl (by kernel_rfl) trivial
theorem ref22_maybe_ff (s : ByteArray) : FnOk Tryz.prog 106 [.str s, .ff] (conPure 0 (.agg (repL 5 emp 0))) := by
  refine fnOk_of_den tab_ok mixed look106 rfl rfl (by kernel_rfl) fun hb => ?_
  simp only [den, denOps]
  refine doneVC_mk [] ⟨by kernel_rfl, by kernel_rfl, by kernel_rfl⟩ rfl (by kernel_rfl) trivial
theorem ref22_list_nil  : FnOk Tryz.prog 44 [nilS] (conPure 0 (.agg (repL 6 emp 0))) := by
  refine fnOk_of_den tab_ok mixed look44 rfl rfl (by kernel_rfl) fun hb => ?_
  simp only [den, denOps]
  refine doneVC_mk [] ⟨by kernel_rfl, by kernel_rfl, by kernel_rfl⟩ rfl (by kernel_rfl) trivial
theorem ref22_bit_tt  : FnOk Tryz.prog 108 [.tt] (conPure 0 (.lit .i64 1)) := by
  refine fnOk_of_den tab_ok mixed look108 rfl rfl (by kernel_rfl) fun hb => ?_
  simp only [den, denOps]
  refine doneVC_mk [] ⟨by kernel_rfl, by kernel_rfl, by kernel_rfl⟩ rfl (by kernel_rfl) trivial
theorem ref22_bit_ff  : FnOk Tryz.prog 108 [.ff] (conPure 0 (.lit .i64 0)) := by
  refine fnOk_of_den tab_ok mixed look108 rfl rfl (by kernel_rfl) fun hb => ?_
  simp only [den, denOps]
  refine doneVC_mk [] ⟨by kernel_rfl, by kernel_rfl, by kernel_rfl⟩ rfl (by kernel_rfl) trivial
def formNames : List ByteArray := [⟨#[83, 69, 84]⟩, ⟨#[71, 69, 84]⟩, ⟨#[73, 78, 67, 82, 66, 89]⟩, ⟨#[67, 79, 85, 78, 84]⟩, ⟨#[83, 65, 68, 68]⟩, ⟨#[83, 82, 69, 77]⟩, ⟨#[83, 73, 83, 77, 69, 77, 66, 69, 82]⟩, ⟨#[83, 77, 69, 77, 66, 69, 82, 83]⟩, ⟨#[72, 83, 69, 84]⟩, ⟨#[72, 68, 69, 76]⟩, ⟨#[72, 71, 69, 84]⟩, ⟨#[72, 71, 69, 84, 65, 76, 76]⟩, ⟨#[90, 65, 68, 68]⟩, ⟨#[90, 82, 69, 77]⟩, ⟨#[90, 83, 67, 79, 82, 69]⟩, ⟨#[90, 82, 65, 78, 75]⟩, ⟨#[90, 82, 65, 78, 71, 69]⟩, ⟨#[76, 80, 85, 83, 72]⟩, ⟨#[82, 80, 85, 83, 72]⟩, ⟨#[76, 73, 78, 83, 69, 82, 84]⟩, ⟨#[76, 82, 69, 77]⟩, ⟨#[76, 82, 65, 78, 71, 69]⟩, ⟨#[68, 69, 76]⟩, ⟨#[84, 89, 80, 69]⟩, ⟨#[75, 69, 89, 83]⟩]
def formArgs : List ByteArray := [⟨#[107, 118]⟩, ⟨#[107]⟩, ⟨#[107, 110]⟩, ⟨#[107]⟩, ⟨#[107, 102]⟩, ⟨#[107, 102]⟩, ⟨#[107, 102]⟩, ⟨#[107]⟩, ⟨#[107, 102, 118]⟩, ⟨#[107, 102]⟩, ⟨#[107, 102]⟩, ⟨#[107]⟩, ⟨#[107, 110, 102]⟩, ⟨#[107, 102]⟩, ⟨#[107, 102]⟩, ⟨#[107, 102]⟩, ⟨#[107, 110, 109]⟩, ⟨#[107, 118]⟩, ⟨#[107, 118]⟩, ⟨#[107, 110, 118]⟩, ⟨#[107, 110]⟩, ⟨#[107, 110, 109]⟩, ⟨#[107]⟩, ⟨#[107]⟩, ⟨#[]⟩]
def formKinds : List Int := [1, 1, 2, 2, 3, 3, 3, 3, 4, 4, 4, 4, 5, 5, 5, 5, 5, 6, 6, 6, 6, 6, -1, -1, -1]
theorem form_at : ∀ i (h : i < 25), formS (L (formNames[i]'h)) = (formArgs[i]'h, formKinds[i]'h, true) := by
  intro i h
  match i, h with
  | 0, _ => rfl
  | 1, _ => rfl
  | 2, _ => rfl
  | 3, _ => rfl
  | 4, _ => rfl
  | 5, _ => rfl
  | 6, _ => rfl
  | 7, _ => rfl
  | 8, _ => rfl
  | 9, _ => rfl
  | 10, _ => rfl
  | 11, _ => rfl
  | 12, _ => rfl
  | 13, _ => rfl
  | 14, _ => rfl
  | 15, _ => rfl
  | 16, _ => rfl
  | 17, _ => rfl
  | 18, _ => rfl
  | 19, _ => rfl
  | 20, _ => rfl
  | 21, _ => rfl
  | 22, _ => rfl
  | 23, _ => rfl
  | 24, _ => rfl
  | n + 25, h => exact absurd h (by omega)
theorem form_none {l : Bs} (h : ∀ i (h : i < 25), ¬ l = L (formNames[i]'h)) : formS l = (⟨#[]⟩, 0, false) := by
  unfold formS
  rw [if_neg (show ¬ l = L ⟨#[83, 69, 84]⟩ from h 0 (by omega))]
  rw [if_neg (show ¬ l = L ⟨#[71, 69, 84]⟩ from h 1 (by omega))]
  rw [if_neg (show ¬ l = L ⟨#[73, 78, 67, 82, 66, 89]⟩ from h 2 (by omega))]
  rw [if_neg (show ¬ l = L ⟨#[67, 79, 85, 78, 84]⟩ from h 3 (by omega))]
  rw [if_neg (show ¬ l = L ⟨#[83, 65, 68, 68]⟩ from h 4 (by omega))]
  rw [if_neg (show ¬ l = L ⟨#[83, 82, 69, 77]⟩ from h 5 (by omega))]
  rw [if_neg (show ¬ l = L ⟨#[83, 73, 83, 77, 69, 77, 66, 69, 82]⟩ from h 6 (by omega))]
  rw [if_neg (show ¬ l = L ⟨#[83, 77, 69, 77, 66, 69, 82, 83]⟩ from h 7 (by omega))]
  rw [if_neg (show ¬ l = L ⟨#[72, 83, 69, 84]⟩ from h 8 (by omega))]
  rw [if_neg (show ¬ l = L ⟨#[72, 68, 69, 76]⟩ from h 9 (by omega))]
  rw [if_neg (show ¬ l = L ⟨#[72, 71, 69, 84]⟩ from h 10 (by omega))]
  rw [if_neg (show ¬ l = L ⟨#[72, 71, 69, 84, 65, 76, 76]⟩ from h 11 (by omega))]
  rw [if_neg (show ¬ l = L ⟨#[90, 65, 68, 68]⟩ from h 12 (by omega))]
  rw [if_neg (show ¬ l = L ⟨#[90, 82, 69, 77]⟩ from h 13 (by omega))]
  rw [if_neg (show ¬ l = L ⟨#[90, 83, 67, 79, 82, 69]⟩ from h 14 (by omega))]
  rw [if_neg (show ¬ l = L ⟨#[90, 82, 65, 78, 75]⟩ from h 15 (by omega))]
  rw [if_neg (show ¬ l = L ⟨#[90, 82, 65, 78, 71, 69]⟩ from h 16 (by omega))]
  rw [if_neg (show ¬ l = L ⟨#[76, 80, 85, 83, 72]⟩ from h 17 (by omega))]
  rw [if_neg (show ¬ l = L ⟨#[82, 80, 85, 83, 72]⟩ from h 18 (by omega))]
  rw [if_neg (show ¬ l = L ⟨#[76, 73, 78, 83, 69, 82, 84]⟩ from h 19 (by omega))]
  rw [if_neg (show ¬ l = L ⟨#[76, 82, 69, 77]⟩ from h 20 (by omega))]
  rw [if_neg (show ¬ l = L ⟨#[76, 82, 65, 78, 71, 69]⟩ from h 21 (by omega))]
  rw [if_neg (show ¬ l = L ⟨#[68, 69, 76]⟩ from h 22 (by omega))]
  rw [if_neg (show ¬ l = L ⟨#[84, 89, 80, 69]⟩ from h 23 (by omega))]
  rw [if_neg (show ¬ l = L ⟨#[75, 69, 89, 83]⟩ from h 24 (by omega))]
theorem polyphonyref22_Form (s : ByteArray) : FnOk Tryz.prog 37 [.str s] (conPure 0 (.tup [.str (formS (L s)).1, .int .i64 (formS (L s)).2.1, .bool (formS (L s)).2.2])) := by
  refine fnOk_of_den tab_ok mixed look37 rfl rfl (by kernel_rfl) fun hb => ?_
  simp only [den, denOps]
  refine tag4_strs (by rfl) (by rfl) (by rfl) ?_
  refine tag4_strs (by rfl) (by rfl) (by rfl) ?_
  refine tag4_ints (by rfl) (by rfl) (by rfl) ?_
  refine loop_mk (fun i => i ≤ 25 ∧ ∀ j (h : j < 25), j < i → ¬ L s = L (formNames[j]'h)) (fun i => ⟨[(0, .str s), (5, .ref 0), (6, .ref 1), (7, .ref 2), (13, .int .i64 25), (14, .int .i64 (i : Nat))], [(0, .row true 9 1 ByteArray strAV formNames), (1, .row true 9 1 ByteArray strAV formArgs), (2, .row true 3 1 Int intAV formKinds)], 3⟩) (fun i => 25 - i) 0 ⟨by omega, fun j h h2 => absurd h2 (by omega)⟩ ?_ ?_
  · refine sub_mk [0, 1, 2] ⟨by kernel_rfl, by kernel_rfl, by kernel_rfl, by kernel_rfl, by kernel_rfl⟩ ⟨rfl, ⟨rfl, ⟨rfl, ⟨rfl, ⟨rfl, ⟨rfl, trivial⟩⟩⟩⟩⟩⟩ ⟨Or.inl (by kernel_rfl), ⟨Or.inl (by kernel_rfl), ⟨Or.inl (by kernel_rfl), trivial⟩⟩⟩
  intro i ⟨hi, hk⟩
  have hLa : formNames.length = 25 := rfl
  have hLb : formArgs.length = 25 := rfl
  have hLc : formKinds.length = 25 := rfl
  refine Fork.mk (fun h1 => ?_) (fun h1 => ?_)
  · simp at h1
    refine ⟨⟨by omega, by omega, rfl⟩, ?_⟩
    refine ⟨_, ⟨rfl, List.getElem?_eq_getElem (by first | omega | (simp; omega))⟩, ?_⟩
    refine Fork.mk (fun h2 => ?_) (fun h2 => ?_)
    · simp at h2
      refine ⟨⟨by omega, by omega, rfl⟩, ?_⟩
      refine ⟨_, ⟨rfl, List.getElem?_eq_getElem (by first | omega | (simp; omega))⟩, ?_⟩
      refine ⟨⟨by omega, by omega, rfl⟩, ?_⟩
      refine ⟨_, ⟨rfl, List.getElem?_eq_getElem (by first | omega | (simp; omega))⟩, ?_⟩
      refine ⟨rfl, ?_⟩
      refine doneVC_mk [] ⟨by kernel_rfl, by kernel_rfl, by kernel_rfl⟩ rfl (eqT (eqC (eqS ?_) (eqC (eqI ?_) (eqC (eqB ?_) (by kernel_rfl))))) trivial
      · exact congrArg (fun x => x.1) ((form_at i (by omega)).symm.trans (congrArg formS h2))
      · exact congrArg (fun x => x.2.1) ((form_at i (by omega)).symm.trans (congrArg formS h2))
      · exact congrArg (fun x => x.2.2) ((form_at i (by omega)).symm.trans (congrArg formS h2))
    · simp at h2
      refine ⟨⟨i + 1, ?_⟩, ?_, ?_⟩
      · exact ⟨by omega, fun j h hlt => (Nat.lt_succ_iff_lt_or_eq.1 hlt).elim (hk j h) fun e => by subst e; exact fun e2 => h2 e2.symm⟩
      · refine sub_mk [0, 1, 2] ⟨by kernel_rfl, by kernel_rfl, by kernel_rfl, by kernel_rfl, by kernel_rfl⟩ ⟨rfl, ⟨rfl, ⟨rfl, ⟨rfl, ⟨rfl, ⟨(eqI ?_), trivial⟩⟩⟩⟩⟩⟩ ⟨Or.inl (by kernel_rfl), ⟨Or.inl (by kernel_rfl), ⟨Or.inl (by kernel_rfl), trivial⟩⟩⟩
        · (simp only [IntKind.wrap_i64]; omega)
      · (simp_all; omega)
  · simp at h1
    refine doneVC_mk [] ⟨by kernel_rfl, by kernel_rfl, by kernel_rfl⟩ rfl (eqT (eqC (eqS ?_) (eqC (eqI ?_) (eqC (eqB ?_) (by kernel_rfl))))) trivial
    · (rw [form_none (fun j h => hk j h (by omega))])
    · (rw [form_none (fun j h => hk j h (by omega))])
    · (rw [form_none (fun j h => hk j h (by omega))])
end Go.Proofs.YtehnjdcahbehjaaGreatDoor

import Derived.Test.YtehnjdcahbehjaaGreatDoorKD
import Derived.Test.YtehnjdcahbehjaaGreatDoorEngZ
namespace Go.Proofs.YtehnjdcahbehjaaGreatDoor
open Go Go.Eng Go.Proofs
set_option maxRecDepth 100000
set_option linter.unusedVariables false
set_option linter.unusedSimpArgs false
/-- a call that takes arguments -/
def takesAll : Call → List (UInt8 × ByteArray) → Call × Int
  | c, [] => (c, 0)
  | c, (w, s) :: r => if (takesS c w.toNat s).2 = 0 then takesAll (takesS c w.toNat s).1 r else (Call.zero, (takesS c w.toNat s).2)
def parseS : List ByteArray → Call × Int
  | [] => (Call.zero, 12)
  | a :: r => if (formS ((L a).map up)).2.2 = false then (Call.zero, 14) else
    if r.length = (formS ((L a).map up)).1.size then takesAll { Call.zero with name := bs ((L a).map up) } ((L (formS ((L a).map up)).1).zip r)
    else (Call.zero, 12)
theorem ite_small {c : Prop} [Decidable c] {x y : ByteArray × Int × Bool} (hx : x.1.size ≤ 3) (hy : y.1.size ≤ 3) : (if c then x else y).1.size ≤ 3 := by split <;> assumption
theorem formS_small (l : Bs) : (formS l).1.size ≤ 3 := by
  unfold formS
  repeat refine ite_small (by decide) ?_
  decide
theorem parse_unknown {a : ByteArray} {r : List ByteArray} (h : (formS ((L a).map up)).2.2 = false) : parseS (a :: r) = (Call.zero, 14) := by simp [parseS, h]
theorem parse_arity {a : ByteArray} {r : List ByteArray} (h : (formS ((L a).map up)).2.2 = true) (h2 : ¬ r.length = (formS ((L a).map up)).1.size) : parseS (a :: r) = (Call.zero, 12) := by simp [parseS, h, h2]
theorem parse_all {a : ByteArray} {r : List ByteArray} (h : (formS ((L a).map up)).2.2 = true) (h2 : r.length = (formS ((L a).map up)).1.size) : parseS (a :: r) = takesAll { Call.zero with name := bs ((L a).map up) } ((L (formS ((L a).map up)).1).zip r) := by simp [parseS, h, h2]
theorem i64_small {n : Int} (h1 : -9223372036854775808 ≤ n) (h2 : n ≤ 9223372036854775807) : IntKind.i64.wrap n = n := by rw [IntKind.wrap_i64]; omega
theorem command_Parse (l : List ByteArray) (hs : ∀ s ∈ l, s.size ≤ maxLen) : FnOk Tryz.prog 8 [.ref 0] (⟨[(0, .row false 9 1 ByteArray strAV l)], 1, 1, .tup [.agg (callL (parseS l).1), .int .i64 (parseS l).2], []⟩) := by
  refine fnOk_of_den tab_ok mixed look8 rfl rfl (by kernel_rfl) fun hb => ?_
  simp only [den, denOps]
  have hl : l.length ≤ maxLen := hb 0 _ _ _ _ _ l rfl
  simp only [maxLen] at hl
  cases l with
  | nil =>
    refine Fork.mk (fun h1 => ?_) (fun h1 => ?_)
    · simp at h1
      refine doneVC_mk [] ⟨by kernel_rfl, by kernel_rfl, by kernel_rfl⟩ rfl (by kernel_rfl) trivial
    · exact absurd h1 (by simp)
  | cons a r =>
    have ha := hs a (by simp)
    have hf := formS_small ((L a).map up)
    have hw : IntKind.i64.wrap (1 + ((formS ((L a).map up)).1.size : Int)) = 1 + ((formS ((L a).map up)).1.size : Int) := i64_small (by omega) (by omega)
    refine Fork.mk (fun h1 => ?_) (fun h1 => ?_)
    · simp at h1
      (exfalso; omega)
    · simp at h1
      refine ⟨⟨by omega, by simp, rfl⟩, ?_⟩
      refine ⟨_, ⟨rfl, rfl⟩, ?_⟩
      refine callVC_mk [] (command_capitals _ ?_) ⟨rfl, rfl, rfl⟩ rfl trivial ?_
      · assumption
      refine callVC_mk [] (command_formOf _) ⟨rfl, rfl, rfl⟩ rfl trivial ?_
      refine Fork.mk (fun h2 => ?_) (fun h2 => ?_)
      · simp at h2
        refine doneVC_mk [] ⟨by kernel_rfl, by kernel_rfl, by kernel_rfl⟩ rfl (eqT (eqC (eqA (eqC (eqS ?_) (eqC (eqS ?_) (eqC (eqS ?_) (eqC (eqS ?_) (eqC (eqI ?_) (eqC (eqI ?_) (by kernel_rfl)))))))) (eqC (eqI ?_) (by kernel_rfl)))) trivial
        · (rw [parse_unknown (by assumption)]; rfl)
        · (rw [parse_unknown (by assumption)]; rfl)
        · (rw [parse_unknown (by assumption)]; rfl)
        · (rw [parse_unknown (by assumption)]; rfl)
        · (rw [parse_unknown (by assumption)]; rfl)
        · (rw [parse_unknown (by assumption)]; rfl)
        · (rw [parse_unknown (by assumption)]; done)
      · simp at h2
        refine Fork.mk (fun h3 => ?_) (fun h3 => ?_)
        · simp at h3
          refine doneVC_mk [] ⟨by kernel_rfl, by kernel_rfl, by kernel_rfl⟩ rfl (eqT (eqC (eqA (eqC (eqS ?_) (eqC (eqS ?_) (eqC (eqS ?_) (eqC (eqS ?_) (eqC (eqI ?_) (eqC (eqI ?_) (by kernel_rfl)))))))) (eqC (eqI ?_) (by kernel_rfl)))) trivial
          · rw [parse_arity h2 (by rw [hw] at h3; omega)]; rfl
          · rw [parse_arity h2 (by rw [hw] at h3; omega)]; rfl
          · rw [parse_arity h2 (by rw [hw] at h3; omega)]; rfl
          · rw [parse_arity h2 (by rw [hw] at h3; omega)]; rfl
          · rw [parse_arity h2 (by rw [hw] at h3; omega)]; rfl
          · rw [parse_arity h2 (by rw [hw] at h3; omega)]; rfl
          · rw [parse_arity h2 (by rw [hw] at h3; omega)]
        · simp at h3
          have hr : r.length = (formS ((L a).map up)).1.size := by rw [hw] at h3; omega
          have hp := parse_all h2 hr
          refine ⟨⟨by simp, by simp; omega, by simp⟩, .inr ?_⟩
          generalize hF : (formS ((L a).map up)).1 = F at *
          generalize hT : (formS ((L a).map up)).2.1 = T at *
          rw [hp]
          generalize hZ : (L F).zip r = Z at *
          generalize hC : ({ Call.zero with name := bs ((L a).map up) } : Call) = c0 at *
          have hZl : Z.length = r.length := by rw [← hZ, List.length_zip, L_length]; omega
          refine loop_mk (fun x : Nat × Call => x.1 ≤ r.length ∧ takesAll x.2 (Z.drop x.1) = takesAll c0 Z) (fun x => ⟨[(2, .ptr 1 0), (4, .ptr 2 0), (5, .ptr 3 0), (39, .ref 4), (40, .int .i64 (r.length : Nat)), (41, .int .i64 (x.1 : Nat))], [(1, .cells true (callL Call.zero)), (2, .cells true (callL x.2)), (3, .cells true [.str F, .int .i64 T]), (4, .row false 9 1 ByteArray strAV r)], 5⟩) (fun x => r.length - x.1) (0, c0) ⟨Nat.zero_le _, rfl⟩ ?_ ?_
          · refine sub_mk [0, 1, 2, 3, 4] ⟨by kernel_rfl, by kernel_rfl, by kernel_rfl, by kernel_rfl, by kernel_rfl⟩ ⟨rfl, ⟨rfl, ⟨rfl, ⟨rfl, ⟨(eqI ?_), ⟨rfl, trivial⟩⟩⟩⟩⟩⟩ ⟨Or.inl (by kernel_rfl), ⟨Or.inl (eqCells (eqC (eqS ?_) (eqC (eqS ?_) (eqC (eqS ?_) (eqC (eqS ?_) (eqC (eqI ?_) (eqC (eqI ?_) (by kernel_rfl)))))))), ⟨Or.inl (eqCells (eqC (eqS ?_) (eqC (eqI ?_) (by kernel_rfl)))), ⟨Or.inl (eqRow ?_), trivial⟩⟩⟩⟩
            · (simp [*]; done)
            · (subst hC; rfl)
            · (subst hC; rfl)
            · (subst hC; rfl)
            · (subst hC; rfl)
            · (subst hC; rfl)
            · (subst hC; rfl)
            · assumption
            · assumption
            · simp
          intro ⟨i, c⟩ ⟨hi, hk⟩
          have hd : ∀ (h : i < r.length), Z.drop i = ((L F).getD i 0, r[i]) :: Z.drop (i + 1) := fun h => by
            have h1 : i < Z.length := by omega
            rw [List.drop_eq_getElem_cons h1]
            congr 1
            subst hZ
            rw [List.getElem_zip, List.getD_eq_getElem?_getD, List.getElem?_eq_getElem (by rw [L_length]; omega)]
            rfl
          have he : ∀ (h : i < r.length), ¬ (takesS c (bAt F i).toNat r[i]).2 = 0 → takesAll c0 Z = (Call.zero, (takesS c (bAt F i).toNat r[i]).2) := fun h h5 => by
            rw [← hk, hd h]; exact if_neg h5
          have hgo : ∀ (h : i < r.length), (takesS c (bAt F i).toNat r[i]).2 = 0 → takesAll (takesS c (bAt F i).toNat r[i]).1 (Z.drop (i + 1)) = takesAll c0 Z := fun h h5 => by
            rw [← hk, hd h]; exact (if_pos h5).symm
          have hend : r.length ≤ i → takesAll c0 Z = (c, 0) := fun h => by
            rw [← hk, List.drop_of_length_le (by omega)]; rfl
          refine Fork.mk (fun h4 => ?_) (fun h4 => ?_)
          · simp at h4
            refine ⟨⟨by omega, by omega, rfl⟩, ?_⟩
            refine ⟨_, ⟨rfl, List.getElem?_eq_getElem (by first | omega | (simp; omega))⟩, ?_⟩
            refine ⟨by omega, ?_⟩
            refine callVC_mk [2] (command_Call_takes c _ _ ?_) ⟨rfl, rfl, rfl⟩ rfl ⟨Or.inl (by kernel_rfl), trivial⟩ ?_
            · (simp_all; done)
            refine Fork.mk (fun h5 => ?_) (fun h5 => ?_)
            · simp at h5
              refine doneVC_mk [] ⟨by kernel_rfl, by kernel_rfl, by kernel_rfl⟩ rfl (eqT (eqC (eqA (eqC (eqS ?_) (eqC (eqS ?_) (eqC (eqS ?_) (eqC (eqS ?_) (eqC (eqI ?_) (eqC (eqI ?_) (by kernel_rfl)))))))) (eqC (eqI ?_) (by kernel_rfl)))) trivial
              · (rw [he (by assumption) (by assumption)]; rfl)
              · (rw [he (by assumption) (by assumption)]; rfl)
              · (rw [he (by assumption) (by assumption)]; rfl)
              · (rw [he (by assumption) (by assumption)]; rfl)
              · (rw [he (by assumption) (by assumption)]; rfl)
              · (rw [he (by assumption) (by assumption)]; rfl)
              · (rw [he (by assumption) (by assumption)]; rfl)
            · simp at h5
              refine ⟨⟨(i + 1, (takesS c (bAt F i).toNat (r[i]'h4)).1), ?_⟩, ?_, ?_⟩
              · exact ⟨by assumption, hgo (by assumption) (by assumption)⟩
              · refine sub_mk [0, 1, 2, 3, 4] ⟨by kernel_rfl, by kernel_rfl, by kernel_rfl, by kernel_rfl, by kernel_rfl⟩ ⟨rfl, ⟨rfl, ⟨rfl, ⟨rfl, ⟨rfl, ⟨(eqI ?_), trivial⟩⟩⟩⟩⟩⟩ ⟨Or.inl (by kernel_rfl), ⟨Or.inl (by kernel_rfl), ⟨Or.inl (by kernel_rfl), ⟨Or.inl (by kernel_rfl), trivial⟩⟩⟩⟩
                · (simp only [IntKind.wrap_i64]; omega)
              · (simp_all; omega)
          · simp at h4
            refine doneVC_mk [] ⟨by kernel_rfl, by kernel_rfl, by kernel_rfl⟩ rfl (eqT (eqC (eqA (eqC (eqS ?_) (eqC (eqS ?_) (eqC (eqS ?_) (eqC (eqS ?_) (eqC (eqI ?_) (eqC (eqI ?_) (by kernel_rfl)))))))) (eqC (eqI ?_) (by kernel_rfl)))) trivial
            · (rw [hend (by assumption)]; done)
            · (rw [hend (by assumption)]; done)
            · (rw [hend (by assumption)]; done)
            · (rw [hend (by assumption)]; done)
            · (rw [hend (by assumption)]; done)
            · (rw [hend (by assumption)]; done)
            · (rw [hend (by assumption)]; done)

def errWords : List ByteArray := [⟨#[111, 107]⟩, ⟨#[97, 114, 103]⟩, ⟨#[115, 104, 111, 114, 116]⟩, ⟨#[102, 111, 114, 109]⟩, ⟨#[108, 111, 110, 103]⟩, ⟨#[115, 117, 109]⟩, ⟨#[111, 118, 101, 114]⟩, ⟨#[110, 111, 110, 101]⟩, ⟨#[116, 121, 112, 101]⟩, ⟨#[102, 117, 108, 108]⟩, ⟨#[108, 111, 115, 116]⟩, ⟨#[115, 116, 97, 116, 101]⟩, ⟨#[97, 114, 105, 116, 121]⟩, ⟨#[105, 110, 116]⟩, ⟨#[117, 110, 107, 110, 111, 119, 110]⟩, ⟨#[100, 111, 119, 110]⟩]
def refuseT (e : Int) : ByteArray := if 0 ≤ e ∧ e < 16 then (⟨#[69, 82, 82, 32]⟩ : ByteArray) ++ errWords.getD e.toNat ⟨#[]⟩ else ⟨#[69, 82, 82, 32, 63]⟩
theorem command_Refuse (e : Int) : FnOk Tryz.prog 32 [.int .i64 e] (⟨[], 0, 0, .agg [.lit .i64 2, .str (refuseT e), .lit .i64 0, .val (.slice none 0 0)], []⟩) := by
  refine fnOk_of_den tab_ok mixed look32 rfl rfl (by kernel_rfl) fun hb => ?_
  simp only [den, denOps]
  have hE : ∀ (h : e.toNat < errWords.length), errWords[e.toNat].size ≤ 7 := fun h => (by decide : ∀ s ∈ errWords, s.size ≤ 7) _ (List.getElem_mem _)
  refine tag4_strs (by rfl) (by rfl) (by rfl) ?_
  refine Fork.mk (fun h1 => ?_) (fun h1 => ?_)
  · simp at h1
    refine callVC_mk [] (command_fault _) ⟨rfl, rfl, rfl⟩ rfl trivial ?_
    refine doneVC_mk [] ⟨by kernel_rfl, by kernel_rfl, by kernel_rfl⟩ rfl (eqA (eqC (by kernel_rfl) (eqC (eqS ?_) (by kernel_rfl)))) trivial
    · rw [refuseT, if_neg (by omega)]
  · simp at h1
    refine Fork.mk (fun h2 => ?_) (fun h2 => ?_)
    · simp at h2
      refine callVC_mk [] (command_fault _) ⟨rfl, rfl, rfl⟩ rfl trivial ?_
      refine doneVC_mk [] ⟨by kernel_rfl, by kernel_rfl, by kernel_rfl⟩ rfl (eqA (eqC (by kernel_rfl) (eqC (eqS ?_) (by kernel_rfl)))) trivial
      · have g2 : (16 : Int) ≤ e := h2
        rw [refuseT, if_neg (by omega)]
    · simp at h2
      refine ⟨by simp; omega, ?_⟩
      refine ⟨_, ⟨rfl, List.getElem?_eq_getElem (by first | omega | (simp; omega))⟩, ?_⟩
      have g2 : ¬ (16 : Int) ≤ e := by first | exact h2 | exact Int.not_le.2 h2
      have h3 : e.toNat < errWords.length := by simp only [errWords, List.length_cons, List.length_nil]; omega
      refine ⟨(show 4 + (errWords[e.toNat]'h3).size ≤ 9223372036854775807 from by have := hE h3; omega), ?_⟩
      refine callVC_mk [] (command_fault _) ⟨rfl, rfl, rfl⟩ rfl trivial ?_
      refine doneVC_mk [] ⟨by kernel_rfl, by kernel_rfl, by kernel_rfl⟩ rfl (eqA (eqC (by kernel_rfl) (eqC (eqS ?_) (by kernel_rfl)))) trivial
      · rw [refuseT, if_pos (by omega), List.getD_eq_getElem?_getD, List.getElem?_eq_getElem h3]
        rfl

def smallS (l : List ByteArray) : Bool := decide (l.length ≤ 20) && l.all fun s => decide (s.size ≤ 1000)
theorem polyphonylaw22_small (l : List ByteArray) : FnOk Tryz.prog 7 [.ref 0] (⟨[(0, .row false 9 1 ByteArray strAV l)], 1, 1, .bool (smallS l), []⟩) := by
  refine fnOk_of_den tab_ok mixed look7 rfl rfl (by kernel_rfl) fun hb => ?_
  simp only [den, denOps]
  have hl : l.length ≤ maxLen := hb 0 _ _ _ _ _ l rfl
  simp only [maxLen] at hl
  refine Fork.mk (fun h1 => ?_) (fun h1 => ?_)
  · simp at h1
    refine doneVC_mk [] ⟨by kernel_rfl, by kernel_rfl, by kernel_rfl⟩ rfl (eqB ?_) trivial
    · simp [smallS, Nat.not_le.2 (Int.ofNat_lt.1 h1)]
  · simp at h1
    refine loop_mk (fun i => i ≤ l.length ∧ ∀ s ∈ l.take i, s.size ≤ 1000) (fun i => ⟨[(0, .ref 0), (8, .int .i64 (l.length : Nat)), (9, .int .i64 (i : Nat))], [(0, .row false 9 1 ByteArray strAV l)], 1⟩) (fun i => l.length - i) 0 ⟨Nat.zero_le _, by simp⟩ ?_ ?_
    · refine sub_mk [0] ⟨by kernel_rfl, by kernel_rfl, by kernel_rfl, by kernel_rfl, by kernel_rfl⟩ ⟨rfl, ⟨rfl, ⟨rfl, trivial⟩⟩⟩ ⟨Or.inl (by kernel_rfl), trivial⟩
    intro i ⟨hi, hk⟩
    refine Fork.mk (fun h2 => ?_) (fun h2 => ?_)
    · simp at h2
      refine ⟨⟨by omega, by omega, rfl⟩, ?_⟩
      refine ⟨_, ⟨rfl, List.getElem?_eq_getElem (by first | omega | (simp; omega))⟩, ?_⟩
      refine Fork.mk (fun h3 => ?_) (fun h3 => ?_)
      · simp at h3
        refine doneVC_mk [] ⟨by kernel_rfl, by kernel_rfl, by kernel_rfl⟩ rfl (eqB ?_) trivial
        · symm
          simp only [smallS, Bool.and_eq_false_iff]
          right
          rw [← Bool.not_eq_true, List.all_eq_true]
          intro hall
          have := hall _ (List.getElem_mem h2)
          simp only [decide_eq_true_eq] at this
          omega
      · simp at h3
        refine ⟨⟨i + 1, ?_⟩, ?_, ?_⟩
        · refine ⟨h2, fun s hs => ?_⟩
          rw [take_snoc h2, List.mem_append, List.mem_singleton] at hs
          rcases hs with hs | rfl
          · exact hk s hs
          · omega
        · refine sub_mk [0] ⟨by kernel_rfl, by kernel_rfl, by kernel_rfl, by kernel_rfl, by kernel_rfl⟩ ⟨rfl, ⟨rfl, ⟨(eqI ?_), trivial⟩⟩⟩ ⟨Or.inl (by kernel_rfl), trivial⟩
          · (simp only [IntKind.wrap_i64]; omega)
        · (simp_all; omega)
    · simp at h2
      refine doneVC_mk [] ⟨by kernel_rfl, by kernel_rfl, by kernel_rfl⟩ rfl (eqB ?_) trivial
      · have e : l.take i = l := List.take_of_length_le h2
        rw [e] at hk
        simp only [smallS]
        rw [decide_eq_true (by omega), Bool.true_and, eq_comm, List.all_eq_true]
        intro s hs
        exact decide_eq_true (hk s hs)

def awakeArgs : List ByteArray := [⟨#[105, 110, 99, 114, 98, 121]⟩, ⟨#[107]⟩, ⟨#[45, 53]⟩]
theorem parse_awake : parseS awakeArgs = (⟨⟨#[73, 78, 67, 82, 66, 89]⟩, ⟨#[107]⟩, bs [], bs [], -5, 0⟩, 0) := by rfl
theorem Parse_awake : FnOk Tryz.prog 8 [.ref 0] ⟨[(0, .row false 9 1 ByteArray strAV awakeArgs)], 1, 1, .tup [.agg [.str ⟨#[73, 78, 67, 82, 66, 89]⟩, .str ⟨#[107]⟩, .str (bs []), .str (bs []), .int .i64 (-5), .int .i64 0], .lit .i64 0], []⟩ := by
  have h := command_Parse awakeArgs (by decide)
  rw [parse_awake] at h
  exact FnOk.like h rfl
theorem refuse_awake : FnOk Tryz.prog 32 [.lit .i64 13] ⟨[], 0, 0, .agg [.lit .i64 2, .str ⟨#[69, 82, 82, 32, 105, 110, 116]⟩, .lit .i64 0, .val (.slice none 0 0)], []⟩ := FnOk.likeArgs (command_Refuse 13) rfl
theorem polyphonylaw22_awake  : FnOk Tryz.prog 6 [] (⟨[], 0, 0, .tt, []⟩) := by
  refine fnOk_of_den tab_ok mixed look6 rfl rfl (by kernel_rfl) fun hb => ?_
  simp only [den, denOps]
  refine tag4_strs (by rfl) (by rfl) (by rfl) ?_
  refine callVC_mk [0] Parse_awake ⟨rfl, rfl, rfl⟩ rfl ⟨Or.inr ⟨rfl, rfl⟩, trivial⟩ ?_
  refine Fork.mk (fun h1 => ?_) (fun h1 => ?_)
  · simp at h1
    refine callVC_mk [] refuse_awake ⟨rfl, rfl, rfl⟩ rfl trivial ?_
    refine doneVC_mk [] ⟨by kernel_rfl, by kernel_rfl, by kernel_rfl⟩ rfl (by kernel_rfl) trivial
  · simp at h1
    refine doneVC_mk [] ⟨by kernel_rfl, by kernel_rfl, by kernel_rfl⟩ rfl (eqB ?_) trivial
    · exact absurd (show L ByteArray.empty = [] from rfl) h1

end Go.Proofs.YtehnjdcahbehjaaGreatDoor

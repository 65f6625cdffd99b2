import Derived.Test.YtehnjdcahbehjaaGreatDoorKG
import Derived.Test.YtehnjdcahbehjaaGreatDoorEngZ
namespace Go.Proofs.YtehnjdcahbehjaaGreatDoor
open Go Go.Eng Go.Proofs
set_option maxRecDepth 100000
set_option linter.unusedVariables false
set_option linter.unusedSimpArgs false
/-! ### what the commands plan where there is nothing -/
/-- a plan: an answer, and an operation that is to be done or not -/
structure PlanS where
  (rk : Int) (rt : ByteArray) (rn : Int) (ok : Int) (okey ofield ovalue : ByteArray) (on : Int) (acts : Bool)
def repL (k : Int) (t : ByteArray) (n : Int) : List AV := [.int .i64 k, .str t, .int .i64 n, nilS]
def opL (k : Int) (key field value : ByteArray) (n : Int) : List AV := [.int .i64 k, .str key, .str field, .str value, .int .i64 n, .lit .i64 0, .lit .i64 0]
def planL (p : PlanS) : List AV := [.int .i64 p.rk, .str p.rt, .int .i64 p.rn, nilS, .int .i64 p.ok, .str p.okey, .str p.ofield, .str p.ovalue, .int .i64 p.on, .lit .i64 0, .lit .i64 0, .bool p.acts]
abbrev emp : ByteArray := ByteArray.empty
def saysP (k : Int) (t : ByteArray) (n : Int) : PlanS := ⟨k, t, n, 0, emp, emp, emp, 0, false⟩
def numP (n : Int) : PlanS := saysP 3 emp n
def faultP (t : ByteArray) : PlanS := saysP 2 t 0
theorem command_simple (s : ByteArray) : FnOk Tryz.prog 176 [.str s] (conPure 0 (.agg (repL 1 s 0))) := by
  refine fnOk_of_den tab_ok mixed look176 rfl rfl (by kernel_rfl) fun hb => ?_
  simp only [den, denOps]
  refine doneVC_mk [] ⟨by kernel_rfl, by kernel_rfl, by kernel_rfl⟩ rfl (by kernel_rfl) trivial
theorem command_num (n : Int) : FnOk Tryz.prog 179 [.int .i64 n] (conPure 0 (.agg (repL 3 emp n))) := by
  refine fnOk_of_den tab_ok mixed look179 rfl rfl (by kernel_rfl) fun hb => ?_
  simp only [den, denOps]
  refine doneVC_mk [] ⟨by kernel_rfl, by kernel_rfl, by kernel_rfl⟩ rfl (by kernel_rfl) trivial
theorem command_yes_tt  : FnOk Tryz.prog 185 [.tt] (conPure 0 (.agg (repL 3 emp 1))) := by
  refine fnOk_of_den tab_ok mixed look185 rfl rfl (by kernel_rfl) fun hb => ?_
  simp only [den, denOps]
  refine callVC_mk [] (command_num _) ⟨rfl, rfl, rfl⟩ rfl trivial ?_
  refine doneVC_mk [] ⟨by kernel_rfl, by kernel_rfl, by kernel_rfl⟩ rfl (by kernel_rfl) trivial
theorem command_yes_ff  : FnOk Tryz.prog 185 [.ff] (conPure 0 (.agg (repL 3 emp 0))) := by
  refine fnOk_of_den tab_ok mixed look185 rfl rfl (by kernel_rfl) fun hb => ?_
  simp only [den, denOps]
  refine callVC_mk [] (command_num _) ⟨rfl, rfl, rfl⟩ rfl trivial ?_
  refine doneVC_mk [] ⟨by kernel_rfl, by kernel_rfl, by kernel_rfl⟩ rfl (by kernel_rfl) trivial
theorem command_maybe_ff (s : ByteArray) : FnOk Tryz.prog 177 [.str s, .ff] (conPure 0 (.agg (repL 5 emp 0))) := by
  refine fnOk_of_den tab_ok mixed look177 rfl rfl (by kernel_rfl) fun hb => ?_
  simp only [den, denOps]
  refine doneVC_mk [] ⟨by kernel_rfl, by kernel_rfl, by kernel_rfl⟩ rfl (by kernel_rfl) trivial
theorem command_list_nil  : FnOk Tryz.prog 186 [nilS] (conPure 0 (.agg (repL 6 emp 0))) := by
  refine fnOk_of_den tab_ok mixed look186 rfl rfl (by kernel_rfl) fun hb => ?_
  simp only [den, denOps]
  refine doneVC_mk [] ⟨by kernel_rfl, by kernel_rfl, by kernel_rfl⟩ rfl (by kernel_rfl) trivial
theorem command_says (k : Int) (t : ByteArray) (n : Int) : FnOk Tryz.prog 97 [.agg (repL k t n)] (conPure 0 (.agg (planL (saysP k t n)))) := by
  refine fnOk_of_den tab_ok mixed look97 rfl rfl (by kernel_rfl) fun hb => ?_
  simp only [den, denOps]
  refine doneVC_mk [] ⟨by kernel_rfl, by kernel_rfl, by kernel_rfl⟩ rfl (by kernel_rfl) trivial
theorem command_does (k : Int) (t : ByteArray) (n : Int) (ok : Int) (a b c : ByteArray) (m : Int) : FnOk Tryz.prog 175 [.agg (repL k t n), .agg (opL ok a b c m)] (conPure 0 (.agg (planL ⟨k, t, n, ok, a, b, c, m, true⟩))) := by
  refine fnOk_of_den tab_ok mixed look175 rfl rfl (by kernel_rfl) fun hb => ?_
  simp only [den, denOps]
  refine doneVC_mk [] ⟨by kernel_rfl, by kernel_rfl, by kernel_rfl⟩ rfl (by kernel_rfl) trivial
theorem command_unless_tt (ok : Int) (a b c : ByteArray) (m : Int) : FnOk Tryz.prog 184 [.tt, .agg (opL ok a b c m)] (conPure 0 (.agg (planL (numP 0)))) := by
  refine fnOk_of_den tab_ok mixed look184 rfl rfl (by kernel_rfl) fun hb => ?_
  simp only [den, denOps]
  refine callVC_mk [] (command_num _) ⟨rfl, rfl, rfl⟩ rfl trivial ?_
  refine callVC_mk [] (command_says _ _ _) ⟨rfl, rfl, rfl⟩ rfl trivial ?_
  refine doneVC_mk [] ⟨by kernel_rfl, by kernel_rfl, by kernel_rfl⟩ rfl (by kernel_rfl) trivial
theorem command_unless_ff (ok : Int) (a b c : ByteArray) (m : Int) : FnOk Tryz.prog 184 [.ff, .agg (opL ok a b c m)] (conPure 0 (.agg (planL ⟨3, emp, 1, ok, a, b, c, m, true⟩))) := by
  refine fnOk_of_den tab_ok mixed look184 rfl rfl (by kernel_rfl) fun hb => ?_
  simp only [den, denOps]
  refine callVC_mk [] (command_num _) ⟨rfl, rfl, rfl⟩ rfl trivial ?_
  refine callVC_mk [] (command_does _ _ _ _ _ _ _ _) ⟨rfl, rfl, rfl⟩ rfl trivial ?_
  refine ⟨rfl, ?_⟩
  refine doneVC_mk [] ⟨by kernel_rfl, by kernel_rfl, by kernel_rfl⟩ rfl (by kernel_rfl) trivial
def textP (c : Call) : PlanS := if L c.name = L (⟨#[83, 69, 84]⟩ : ByteArray) then ⟨1, (⟨#[79, 75]⟩ : ByteArray), 0, 1, c.key, emp, c.value, 0, true⟩ else saysP 5 emp 0
theorem command_text (c : Call) : FnOk Tryz.prog 99 [nilP, .agg (callL c)] (conPure 0 (.agg (planL (textP c)))) := by
  refine fnOk_of_den tab_ok mixed look99 rfl rfl (by kernel_rfl) fun hb => ?_
  simp only [den, denOps]
  refine Fork.mk (fun h1 => ?_) (fun h1 => ?_)
  · simp at h1
    refine callVC_mk [] (command_simple _) ⟨rfl, rfl, rfl⟩ rfl trivial ?_
    refine callVC_mk [] (command_does _ _ _ _ _ _ _ _) ⟨rfl, rfl, rfl⟩ rfl trivial ?_
    refine ⟨rfl, ?_⟩
    refine doneVC_mk [] ⟨by kernel_rfl, by kernel_rfl, by kernel_rfl⟩ rfl (eqA (eqC (eqI ?_) (eqC (eqS ?_) (eqC (eqI ?_) (eqC (by kernel_rfl) (eqC (eqI ?_) (eqC (eqS ?_) (eqC (eqS ?_) (eqC (eqS ?_) (eqC (eqI ?_) (eqC (by kernel_rfl) (eqC (by kernel_rfl) (eqC (eqB ?_) (by kernel_rfl)))))))))))))) trivial
    · (simp [textP, saysP, *]; done)
    · (simp [textP, saysP, *]; done)
    · (simp [textP, saysP, *]; done)
    · (simp [textP, saysP, *]; done)
    · (simp [textP, saysP, *]; done)
    · (simp [textP, saysP, *]; done)
    · (simp [textP, saysP, *]; done)
    · (simp [textP, saysP, *]; done)
    · (simp [textP, saysP, *]; done)
  · simp at h1
    refine callVC_mk [] (space_Space_Text _) ⟨rfl, rfl, rfl⟩ rfl trivial ?_
    refine callVC_mk [] (command_maybe_ff _) ⟨rfl, rfl, rfl⟩ rfl trivial ?_
    refine callVC_mk [] (command_says _ _ _) ⟨rfl, rfl, rfl⟩ rfl trivial ?_
    refine doneVC_mk [] ⟨by kernel_rfl, by kernel_rfl, by kernel_rfl⟩ rfl (eqA (eqC (eqI ?_) (eqC (eqS ?_) (eqC (eqI ?_) (eqC (by kernel_rfl) (eqC (eqI ?_) (eqC (eqS ?_) (eqC (eqS ?_) (eqC (eqS ?_) (eqC (eqI ?_) (eqC (by kernel_rfl) (eqC (by kernel_rfl) (eqC (eqB ?_) (by kernel_rfl)))))))))))))) trivial
    · (simp [textP, saysP, *]; done)
    · (simp [textP, saysP, *]; done)
    · (simp [textP, saysP, *]; done)
    · (simp [textP, saysP, *]; done)
    · (simp [textP, saysP, *]; done)
    · (simp [textP, saysP, *]; done)
    · (simp [textP, saysP, *]; done)
    · (simp [textP, saysP, *]; done)
    · (simp [textP, saysP, *]; done)
def sumP (n : Int) : Int := IntKind.i64.wrap (0 + n)
def checkP (n : Int) : Int := if n < -1099511627776 then 6 else if n > 1099511627776 then 6 else if sumP n < -1125899906842624 then 6 else if sumP n > 1125899906842624 then 6 else 0
theorem tally_Check (n : Int) : FnOk Tryz.prog 254 [nilS, .int .i64 n] (conPure 0 (.int .i64 (checkP n))) := by
  refine fnOk_of_den tab_ok mixed look254 rfl rfl (by kernel_rfl) fun hb => ?_
  simp only [den, denOps]
  refine Fork.mk (fun h1 => ?_) (fun h1 => ?_)
  · simp at h1
    refine doneVC_mk [] ⟨by kernel_rfl, by kernel_rfl, by kernel_rfl⟩ rfl (eqI ?_) trivial
    · (simp_all [checkP, sumP]; done)
  · simp at h1
    refine Fork.mk (fun h2 => ?_) (fun h2 => ?_)
    · simp at h2
      refine doneVC_mk [] ⟨by kernel_rfl, by kernel_rfl, by kernel_rfl⟩ rfl (eqI ?_) trivial
      · (simp_all [checkP, sumP]; done)
    · simp at h2
      refine callVC_mk [] tally_Sum ⟨rfl, rfl, rfl⟩ rfl trivial ?_
      refine Fork.mk (fun h3 => ?_) (fun h3 => ?_)
      · simp at h3
        refine doneVC_mk [] ⟨by kernel_rfl, by kernel_rfl, by kernel_rfl⟩ rfl (eqI ?_) trivial
        · (simp_all [checkP, sumP]; done)
      · simp at h3
        refine Fork.mk (fun h4 => ?_) (fun h4 => ?_)
        · simp at h4
          refine doneVC_mk [] ⟨by kernel_rfl, by kernel_rfl, by kernel_rfl⟩ rfl (eqI ?_) trivial
          · (simp_all [checkP, sumP]; done)
        · simp at h4
          refine doneVC_mk [] ⟨by kernel_rfl, by kernel_rfl, by kernel_rfl⟩ rfl (eqI ?_) trivial
          · (simp_all [checkP, sumP]; omega)
theorem space_Space_Check (k : ByteArray) (n : Int) : FnOk Tryz.prog 181 [nilP, .str k, .int .i64 n] (conPure 0 (.int .i64 (checkP n))) := by
  refine fnOk_of_den tab_ok mixed look181 rfl rfl (by kernel_rfl) fun hb => ?_
  simp only [den, denOps]
  refine callVC_mk [] (space_of _ _ ?_) ⟨rfl, rfl, rfl⟩ rfl trivial ?_
  · omega
  refine callVC_mk [] (tally_Check _) ⟨rfl, rfl, rfl⟩ rfl trivial ?_
  refine doneVC_mk [] ⟨by kernel_rfl, by kernel_rfl, by kernel_rfl⟩ rfl (by kernel_rfl) trivial
def tallyP (c : Call) : PlanS := if L c.name = L (⟨#[67, 79, 85, 78, 84]⟩ : ByteArray) then numP 0 else if checkP c.n = 0 then ⟨3, emp, sumP c.n, 2, c.key, emp, emp, c.n, true⟩ else faultP (⟨#[79, 86, 69, 82, 70, 76, 79, 87]⟩ : ByteArray)
theorem command_tally (c : Call) : FnOk Tryz.prog 100 [nilP, .agg (callL c)] (conPure 0 (.agg (planL (tallyP c)))) := by
  refine fnOk_of_den tab_ok mixed look100 rfl rfl (by kernel_rfl) fun hb => ?_
  simp only [den, denOps]
  refine Fork.mk (fun h1 => ?_) (fun h1 => ?_)
  · simp at h1
    refine callVC_mk [] (space_Space_Sum _) ⟨rfl, rfl, rfl⟩ rfl trivial ?_
    refine callVC_mk [] (command_num _) ⟨rfl, rfl, rfl⟩ rfl trivial ?_
    refine callVC_mk [] (command_says _ _ _) ⟨rfl, rfl, rfl⟩ rfl trivial ?_
    refine doneVC_mk [] ⟨by kernel_rfl, by kernel_rfl, by kernel_rfl⟩ rfl (eqA (eqC (eqI ?_) (eqC (eqS ?_) (eqC (eqI ?_) (eqC (by kernel_rfl) (eqC (eqI ?_) (eqC (eqS ?_) (eqC (eqS ?_) (eqC (eqS ?_) (eqC (eqI ?_) (eqC (by kernel_rfl) (eqC (by kernel_rfl) (eqC (eqB ?_) (by kernel_rfl)))))))))))))) trivial
    · (unfold tallyP; (repeat first | rw [if_neg (by first | assumption | omega)] | rw [if_pos (by first | assumption | omega)]); first | done | rfl)
    · (unfold tallyP; (repeat first | rw [if_neg (by first | assumption | omega)] | rw [if_pos (by first | assumption | omega)]); first | done | rfl)
    · (unfold tallyP; (repeat first | rw [if_neg (by first | assumption | omega)] | rw [if_pos (by first | assumption | omega)]); first | done | rfl)
    · (unfold tallyP; (repeat first | rw [if_neg (by first | assumption | omega)] | rw [if_pos (by first | assumption | omega)]); first | done | rfl)
    · (unfold tallyP; (repeat first | rw [if_neg (by first | assumption | omega)] | rw [if_pos (by first | assumption | omega)]); first | done | rfl)
    · (unfold tallyP; (repeat first | rw [if_neg (by first | assumption | omega)] | rw [if_pos (by first | assumption | omega)]); first | done | rfl)
    · (unfold tallyP; (repeat first | rw [if_neg (by first | assumption | omega)] | rw [if_pos (by first | assumption | omega)]); first | done | rfl)
    · (unfold tallyP; (repeat first | rw [if_neg (by first | assumption | omega)] | rw [if_pos (by first | assumption | omega)]); first | done | rfl)
    · (unfold tallyP; (repeat first | rw [if_neg (by first | assumption | omega)] | rw [if_pos (by first | assumption | omega)]); first | done | rfl)
  · simp at h1
    refine callVC_mk [] (space_Space_Check _ _) ⟨rfl, rfl, rfl⟩ rfl trivial ?_
    refine Fork.mk (fun h2 => ?_) (fun h2 => ?_)
    · simp at h2
      refine callVC_mk [] (command_fault _) ⟨rfl, rfl, rfl⟩ rfl trivial ?_
      refine callVC_mk [] (command_says _ _ _) ⟨rfl, rfl, rfl⟩ rfl trivial ?_
      refine doneVC_mk [] ⟨by kernel_rfl, by kernel_rfl, by kernel_rfl⟩ rfl (eqA (eqC (eqI ?_) (eqC (eqS ?_) (eqC (eqI ?_) (eqC (by kernel_rfl) (eqC (eqI ?_) (eqC (eqS ?_) (eqC (eqS ?_) (eqC (eqS ?_) (eqC (eqI ?_) (eqC (by kernel_rfl) (eqC (by kernel_rfl) (eqC (eqB ?_) (by kernel_rfl)))))))))))))) trivial
      · (unfold tallyP; (repeat first | rw [if_neg (by first | assumption | omega)] | rw [if_pos (by first | assumption | omega)]); first | done | rfl)
      · (unfold tallyP; (repeat first | rw [if_neg (by first | assumption | omega)] | rw [if_pos (by first | assumption | omega)]); first | done | rfl)
      · (unfold tallyP; (repeat first | rw [if_neg (by first | assumption | omega)] | rw [if_pos (by first | assumption | omega)]); first | done | rfl)
      · (unfold tallyP; (repeat first | rw [if_neg (by first | assumption | omega)] | rw [if_pos (by first | assumption | omega)]); first | done | rfl)
      · (unfold tallyP; (repeat first | rw [if_neg (by first | assumption | omega)] | rw [if_pos (by first | assumption | omega)]); first | done | rfl)
      · (unfold tallyP; (repeat first | rw [if_neg (by first | assumption | omega)] | rw [if_pos (by first | assumption | omega)]); first | done | rfl)
      · (unfold tallyP; (repeat first | rw [if_neg (by first | assumption | omega)] | rw [if_pos (by first | assumption | omega)]); first | done | rfl)
      · (unfold tallyP; (repeat first | rw [if_neg (by first | assumption | omega)] | rw [if_pos (by first | assumption | omega)]); first | done | rfl)
      · (unfold tallyP; (repeat first | rw [if_neg (by first | assumption | omega)] | rw [if_pos (by first | assumption | omega)]); first | done | rfl)
    · simp at h2
      refine callVC_mk [] (space_Space_Sum _) ⟨rfl, rfl, rfl⟩ rfl trivial ?_
      refine callVC_mk [] (command_num _) ⟨rfl, rfl, rfl⟩ rfl trivial ?_
      refine callVC_mk [] (command_does _ _ _ _ _ _ _ _) ⟨rfl, rfl, rfl⟩ rfl trivial ?_
      refine ⟨rfl, ?_⟩
      refine doneVC_mk [] ⟨by kernel_rfl, by kernel_rfl, by kernel_rfl⟩ rfl (eqA (eqC (eqI ?_) (eqC (eqS ?_) (eqC (eqI ?_) (eqC (by kernel_rfl) (eqC (eqI ?_) (eqC (eqS ?_) (eqC (eqS ?_) (eqC (eqS ?_) (eqC (eqI ?_) (eqC (by kernel_rfl) (eqC (by kernel_rfl) (eqC (eqB ?_) (by kernel_rfl)))))))))))))) trivial
      · (unfold tallyP; (repeat first | rw [if_neg (by first | assumption | omega)] | rw [if_pos (by first | assumption | omega)]); first | done | rfl)
      · (unfold tallyP; (repeat first | rw [if_neg (by first | assumption | omega)] | rw [if_pos (by first | assumption | omega)]); first | done | rfl)
      · (unfold tallyP; (repeat first | rw [if_neg (by first | assumption | omega)] | rw [if_pos (by first | assumption | omega)]); first | done | rfl)
      · (unfold tallyP; (repeat first | rw [if_neg (by first | assumption | omega)] | rw [if_pos (by first | assumption | omega)]); first | done | rfl)
      · (unfold tallyP; (repeat first | rw [if_neg (by first | assumption | omega)] | rw [if_pos (by first | assumption | omega)]); first | done | rfl)
      · (unfold tallyP; (repeat first | rw [if_neg (by first | assumption | omega)] | rw [if_pos (by first | assumption | omega)]); first | done | rfl)
      · (unfold tallyP; (repeat first | rw [if_neg (by first | assumption | omega)] | rw [if_pos (by first | assumption | omega)]); first | done | rfl)
      · (unfold tallyP; (repeat first | rw [if_neg (by first | assumption | omega)] | rw [if_pos (by first | assumption | omega)]); first | done | rfl)
      · (unfold tallyP; (repeat first | rw [if_neg (by first | assumption | omega)] | rw [if_pos (by first | assumption | omega)]); first | done | rfl)
def groupP (c : Call) : PlanS := if L c.name = L (⟨#[83, 65, 68, 68]⟩ : ByteArray) then ⟨3, emp, 1, 3, c.key, c.field, emp, 0, true⟩ else if L c.name = L (⟨#[83, 82, 69, 77]⟩ : ByteArray) then numP 0 else if L c.name = L (⟨#[83, 73, 83, 77, 69, 77, 66, 69, 82]⟩ : ByteArray) then numP 0 else saysP 6 emp 0
theorem command_group (c : Call) : FnOk Tryz.prog 101 [nilP, .agg (callL c)] (conPure 0 (.agg (planL (groupP c)))) := by
  refine fnOk_of_den tab_ok mixed look101 rfl rfl (by kernel_rfl) fun hb => ?_
  simp only [den, denOps]
  refine callVC_mk [] (space_Space_Members _) ⟨rfl, rfl, rfl⟩ rfl trivial ?_
  refine callVC_mk [] (slices_Contains_string _) ⟨rfl, rfl, rfl⟩ rfl trivial ?_
  refine Fork.mk (fun h1 => ?_) (fun h1 => ?_)
  · simp at h1
    refine callVC_mk [] (command_unless_ff _ _ _ _ _) ⟨rfl, rfl, rfl⟩ rfl trivial ?_
    refine doneVC_mk [] ⟨by kernel_rfl, by kernel_rfl, by kernel_rfl⟩ rfl (eqA (eqC (eqI ?_) (eqC (eqS ?_) (eqC (eqI ?_) (eqC (by kernel_rfl) (eqC (eqI ?_) (eqC (eqS ?_) (eqC (eqS ?_) (eqC (eqS ?_) (eqC (eqI ?_) (eqC (by kernel_rfl) (eqC (by kernel_rfl) (eqC (eqB ?_) (by kernel_rfl)))))))))))))) trivial
    · (unfold groupP; (repeat first | rw [if_neg (by first | assumption | omega)] | rw [if_pos (by first | assumption | omega)]); first | done | rfl)
    · (unfold groupP; (repeat first | rw [if_neg (by first | assumption | omega)] | rw [if_pos (by first | assumption | omega)]); first | done | rfl)
    · (unfold groupP; (repeat first | rw [if_neg (by first | assumption | omega)] | rw [if_pos (by first | assumption | omega)]); first | done | rfl)
    · (unfold groupP; (repeat first | rw [if_neg (by first | assumption | omega)] | rw [if_pos (by first | assumption | omega)]); first | done | rfl)
    · (unfold groupP; (repeat first | rw [if_neg (by first | assumption | omega)] | rw [if_pos (by first | assumption | omega)]); first | done | rfl)
    · (unfold groupP; (repeat first | rw [if_neg (by first | assumption | omega)] | rw [if_pos (by first | assumption | omega)]); first | done | rfl)
    · (unfold groupP; (repeat first | rw [if_neg (by first | assumption | omega)] | rw [if_pos (by first | assumption | omega)]); first | done | rfl)
    · (unfold groupP; (repeat first | rw [if_neg (by first | assumption | omega)] | rw [if_pos (by first | assumption | omega)]); first | done | rfl)
    · (unfold groupP; (repeat first | rw [if_neg (by first | assumption | omega)] | rw [if_pos (by first | assumption | omega)]); first | done | rfl)
  · simp at h1
    refine Fork.mk (fun h2 => ?_) (fun h2 => ?_)
    · simp at h2
      refine callVC_mk [] (command_unless_tt _ _ _ _ _) ⟨rfl, rfl, rfl⟩ rfl trivial ?_
      refine doneVC_mk [] ⟨by kernel_rfl, by kernel_rfl, by kernel_rfl⟩ rfl (eqA (eqC (eqI ?_) (eqC (eqS ?_) (eqC (eqI ?_) (eqC (by kernel_rfl) (eqC (eqI ?_) (eqC (eqS ?_) (eqC (eqS ?_) (eqC (eqS ?_) (eqC (eqI ?_) (eqC (by kernel_rfl) (eqC (by kernel_rfl) (eqC (eqB ?_) (by kernel_rfl)))))))))))))) trivial
      · (unfold groupP; (repeat first | rw [if_neg (by first | assumption | omega)] | rw [if_pos (by first | assumption | omega)]); first | done | rfl)
      · (unfold groupP; (repeat first | rw [if_neg (by first | assumption | omega)] | rw [if_pos (by first | assumption | omega)]); first | done | rfl)
      · (unfold groupP; (repeat first | rw [if_neg (by first | assumption | omega)] | rw [if_pos (by first | assumption | omega)]); first | done | rfl)
      · (unfold groupP; (repeat first | rw [if_neg (by first | assumption | omega)] | rw [if_pos (by first | assumption | omega)]); first | done | rfl)
      · (unfold groupP; (repeat first | rw [if_neg (by first | assumption | omega)] | rw [if_pos (by first | assumption | omega)]); first | done | rfl)
      · (unfold groupP; (repeat first | rw [if_neg (by first | assumption | omega)] | rw [if_pos (by first | assumption | omega)]); first | done | rfl)
      · (unfold groupP; (repeat first | rw [if_neg (by first | assumption | omega)] | rw [if_pos (by first | assumption | omega)]); first | done | rfl)
      · (unfold groupP; (repeat first | rw [if_neg (by first | assumption | omega)] | rw [if_pos (by first | assumption | omega)]); first | done | rfl)
      · (unfold groupP; (repeat first | rw [if_neg (by first | assumption | omega)] | rw [if_pos (by first | assumption | omega)]); first | done | rfl)
    · simp at h2
      refine Fork.mk (fun h3 => ?_) (fun h3 => ?_)
      · simp at h3
        refine callVC_mk [] command_yes_ff ⟨rfl, rfl, rfl⟩ rfl trivial ?_
        refine callVC_mk [] (command_says _ _ _) ⟨rfl, rfl, rfl⟩ rfl trivial ?_
        refine doneVC_mk [] ⟨by kernel_rfl, by kernel_rfl, by kernel_rfl⟩ rfl (eqA (eqC (eqI ?_) (eqC (eqS ?_) (eqC (eqI ?_) (eqC (by kernel_rfl) (eqC (eqI ?_) (eqC (eqS ?_) (eqC (eqS ?_) (eqC (eqS ?_) (eqC (eqI ?_) (eqC (by kernel_rfl) (eqC (by kernel_rfl) (eqC (eqB ?_) (by kernel_rfl)))))))))))))) trivial
        · (unfold groupP; (repeat first | rw [if_neg (by first | assumption | omega)] | rw [if_pos (by first | assumption | omega)]); first | done | rfl)
        · (unfold groupP; (repeat first | rw [if_neg (by first | assumption | omega)] | rw [if_pos (by first | assumption | omega)]); first | done | rfl)
        · (unfold groupP; (repeat first | rw [if_neg (by first | assumption | omega)] | rw [if_pos (by first | assumption | omega)]); first | done | rfl)
        · (unfold groupP; (repeat first | rw [if_neg (by first | assumption | omega)] | rw [if_pos (by first | assumption | omega)]); first | done | rfl)
        · (unfold groupP; (repeat first | rw [if_neg (by first | assumption | omega)] | rw [if_pos (by first | assumption | omega)]); first | done | rfl)
        · (unfold groupP; (repeat first | rw [if_neg (by first | assumption | omega)] | rw [if_pos (by first | assumption | omega)]); first | done | rfl)
        · (unfold groupP; (repeat first | rw [if_neg (by first | assumption | omega)] | rw [if_pos (by first | assumption | omega)]); first | done | rfl)
        · (unfold groupP; (repeat first | rw [if_neg (by first | assumption | omega)] | rw [if_pos (by first | assumption | omega)]); first | done | rfl)
        · (unfold groupP; (repeat first | rw [if_neg (by first | assumption | omega)] | rw [if_pos (by first | assumption | omega)]); first | done | rfl)
      · simp at h3
        refine callVC_mk [] command_list_nil ⟨rfl, rfl, rfl⟩ rfl trivial ?_
        refine callVC_mk [] (command_says _ _ _) ⟨rfl, rfl, rfl⟩ rfl trivial ?_
        refine doneVC_mk [] ⟨by kernel_rfl, by kernel_rfl, by kernel_rfl⟩ rfl (eqA (eqC (eqI ?_) (eqC (eqS ?_) (eqC (eqI ?_) (eqC (by kernel_rfl) (eqC (eqI ?_) (eqC (eqS ?_) (eqC (eqS ?_) (eqC (eqS ?_) (eqC (eqI ?_) (eqC (by kernel_rfl) (eqC (by kernel_rfl) (eqC (eqB ?_) (by kernel_rfl)))))))))))))) trivial
        · (unfold groupP; (repeat first | rw [if_neg (by first | assumption | omega)] | rw [if_pos (by first | assumption | omega)]); first | done | rfl)
        · (unfold groupP; (repeat first | rw [if_neg (by first | assumption | omega)] | rw [if_pos (by first | assumption | omega)]); first | done | rfl)
        · (unfold groupP; (repeat first | rw [if_neg (by first | assumption | omega)] | rw [if_pos (by first | assumption | omega)]); first | done | rfl)
        · (unfold groupP; (repeat first | rw [if_neg (by first | assumption | omega)] | rw [if_pos (by first | assumption | omega)]); first | done | rfl)
        · (unfold groupP; (repeat first | rw [if_neg (by first | assumption | omega)] | rw [if_pos (by first | assumption | omega)]); first | done | rfl)
        · (unfold groupP; (repeat first | rw [if_neg (by first | assumption | omega)] | rw [if_pos (by first | assumption | omega)]); first | done | rfl)
        · (unfold groupP; (repeat first | rw [if_neg (by first | assumption | omega)] | rw [if_pos (by first | assumption | omega)]); first | done | rfl)
        · (unfold groupP; (repeat first | rw [if_neg (by first | assumption | omega)] | rw [if_pos (by first | assumption | omega)]); first | done | rfl)
        · (unfold groupP; (repeat first | rw [if_neg (by first | assumption | omega)] | rw [if_pos (by first | assumption | omega)]); first | done | rfl)
def hashP (c : Call) : PlanS := if L c.name = L (⟨#[72, 83, 69, 84]⟩ : ByteArray) then ⟨3, emp, 1, 5, c.key, c.field, c.value, 0, true⟩ else if L c.name = L (⟨#[72, 68, 69, 76]⟩ : ByteArray) then numP 0 else if L c.name = L (⟨#[72, 71, 69, 84]⟩ : ByteArray) then saysP 5 emp 0 else saysP 6 emp 0
theorem command_hash (c : Call) : FnOk Tryz.prog 102 [nilP, .agg (callL c)] (conPure 0 (.agg (planL (hashP c)))) := by
  refine fnOk_of_den tab_ok mixed look102 rfl rfl (by kernel_rfl) fun hb => ?_
  simp only [den, denOps]
  refine callVC_mk [] (space_Space_Fields _) ⟨rfl, rfl, rfl⟩ rfl trivial ?_
  refine callVC_mk [0] (slices_IndexFunc_field_Pair _ c) ⟨rfl, rfl, rfl⟩ rfl ⟨Or.inr ⟨rfl, rfl⟩, trivial⟩ ?_
  refine Fork.mk (fun h1 => ?_) (fun h1 => ?_)
  · simp at h1
    refine callVC_mk [] command_yes_tt ⟨rfl, rfl, rfl⟩ rfl trivial ?_
    refine callVC_mk [] (command_does _ _ _ _ _ _ _ _) ⟨rfl, rfl, rfl⟩ rfl trivial ?_
    refine ⟨rfl, ?_⟩
    refine doneVC_mk [] ⟨by kernel_rfl, by kernel_rfl, by kernel_rfl⟩ rfl (eqA (eqC (eqI ?_) (eqC (eqS ?_) (eqC (eqI ?_) (eqC (by kernel_rfl) (eqC (eqI ?_) (eqC (eqS ?_) (eqC (eqS ?_) (eqC (eqS ?_) (eqC (eqI ?_) (eqC (by kernel_rfl) (eqC (by kernel_rfl) (eqC (eqB ?_) (by kernel_rfl)))))))))))))) trivial
    · (unfold hashP; (repeat first | rw [if_neg (by first | assumption | omega)] | rw [if_pos (by first | assumption | omega)]); first | done | rfl)
    · (unfold hashP; (repeat first | rw [if_neg (by first | assumption | omega)] | rw [if_pos (by first | assumption | omega)]); first | done | rfl)
    · (unfold hashP; (repeat first | rw [if_neg (by first | assumption | omega)] | rw [if_pos (by first | assumption | omega)]); first | done | rfl)
    · (unfold hashP; (repeat first | rw [if_neg (by first | assumption | omega)] | rw [if_pos (by first | assumption | omega)]); first | done | rfl)
    · (unfold hashP; (repeat first | rw [if_neg (by first | assumption | omega)] | rw [if_pos (by first | assumption | omega)]); first | done | rfl)
    · (unfold hashP; (repeat first | rw [if_neg (by first | assumption | omega)] | rw [if_pos (by first | assumption | omega)]); first | done | rfl)
    · (unfold hashP; (repeat first | rw [if_neg (by first | assumption | omega)] | rw [if_pos (by first | assumption | omega)]); first | done | rfl)
    · (unfold hashP; (repeat first | rw [if_neg (by first | assumption | omega)] | rw [if_pos (by first | assumption | omega)]); first | done | rfl)
    · (unfold hashP; (repeat first | rw [if_neg (by first | assumption | omega)] | rw [if_pos (by first | assumption | omega)]); first | done | rfl)
  · simp at h1
    refine Fork.mk (fun h2 => ?_) (fun h2 => ?_)
    · simp at h2
      refine callVC_mk [] (command_unless_tt _ _ _ _ _) ⟨rfl, rfl, rfl⟩ rfl trivial ?_
      refine doneVC_mk [] ⟨by kernel_rfl, by kernel_rfl, by kernel_rfl⟩ rfl (eqA (eqC (eqI ?_) (eqC (eqS ?_) (eqC (eqI ?_) (eqC (by kernel_rfl) (eqC (eqI ?_) (eqC (eqS ?_) (eqC (eqS ?_) (eqC (eqS ?_) (eqC (eqI ?_) (eqC (by kernel_rfl) (eqC (by kernel_rfl) (eqC (eqB ?_) (by kernel_rfl)))))))))))))) trivial
      · (unfold hashP; (repeat first | rw [if_neg (by first | assumption | omega)] | rw [if_pos (by first | assumption | omega)]); first | done | rfl)
      · (unfold hashP; (repeat first | rw [if_neg (by first | assumption | omega)] | rw [if_pos (by first | assumption | omega)]); first | done | rfl)
      · (unfold hashP; (repeat first | rw [if_neg (by first | assumption | omega)] | rw [if_pos (by first | assumption | omega)]); first | done | rfl)
      · (unfold hashP; (repeat first | rw [if_neg (by first | assumption | omega)] | rw [if_pos (by first | assumption | omega)]); first | done | rfl)
      · (unfold hashP; (repeat first | rw [if_neg (by first | assumption | omega)] | rw [if_pos (by first | assumption | omega)]); first | done | rfl)
      · (unfold hashP; (repeat first | rw [if_neg (by first | assumption | omega)] | rw [if_pos (by first | assumption | omega)]); first | done | rfl)
      · (unfold hashP; (repeat first | rw [if_neg (by first | assumption | omega)] | rw [if_pos (by first | assumption | omega)]); first | done | rfl)
      · (unfold hashP; (repeat first | rw [if_neg (by first | assumption | omega)] | rw [if_pos (by first | assumption | omega)]); first | done | rfl)
      · (unfold hashP; (repeat first | rw [if_neg (by first | assumption | omega)] | rw [if_pos (by first | assumption | omega)]); first | done | rfl)
    · simp at h2
      refine Fork.mk (fun h3 => ?_) (fun h3 => ?_)
      · simp at h3
        refine callVC_mk [] (command_maybe_ff _) ⟨rfl, rfl, rfl⟩ rfl trivial ?_
        refine callVC_mk [] (command_says _ _ _) ⟨rfl, rfl, rfl⟩ rfl trivial ?_
        refine doneVC_mk [] ⟨by kernel_rfl, by kernel_rfl, by kernel_rfl⟩ rfl (eqA (eqC (eqI ?_) (eqC (eqS ?_) (eqC (eqI ?_) (eqC (by kernel_rfl) (eqC (eqI ?_) (eqC (eqS ?_) (eqC (eqS ?_) (eqC (eqS ?_) (eqC (eqI ?_) (eqC (by kernel_rfl) (eqC (by kernel_rfl) (eqC (eqB ?_) (by kernel_rfl)))))))))))))) trivial
        · (unfold hashP; (repeat first | rw [if_neg (by first | assumption | omega)] | rw [if_pos (by first | assumption | omega)]); first | done | rfl)
        · (unfold hashP; (repeat first | rw [if_neg (by first | assumption | omega)] | rw [if_pos (by first | assumption | omega)]); first | done | rfl)
        · (unfold hashP; (repeat first | rw [if_neg (by first | assumption | omega)] | rw [if_pos (by first | assumption | omega)]); first | done | rfl)
        · (unfold hashP; (repeat first | rw [if_neg (by first | assumption | omega)] | rw [if_pos (by first | assumption | omega)]); first | done | rfl)
        · (unfold hashP; (repeat first | rw [if_neg (by first | assumption | omega)] | rw [if_pos (by first | assumption | omega)]); first | done | rfl)
        · (unfold hashP; (repeat first | rw [if_neg (by first | assumption | omega)] | rw [if_pos (by first | assumption | omega)]); first | done | rfl)
        · (unfold hashP; (repeat first | rw [if_neg (by first | assumption | omega)] | rw [if_pos (by first | assumption | omega)]); first | done | rfl)
        · (unfold hashP; (repeat first | rw [if_neg (by first | assumption | omega)] | rw [if_pos (by first | assumption | omega)]); first | done | rfl)
        · (unfold hashP; (repeat first | rw [if_neg (by first | assumption | omega)] | rw [if_pos (by first | assumption | omega)]); first | done | rfl)
      · simp at h3
        refine unroll_mk 1 ?_
        refine callVC_mk [] command_list_nil ⟨rfl, rfl, rfl⟩ rfl trivial ?_
        refine callVC_mk [] (command_says _ _ _) ⟨rfl, rfl, rfl⟩ rfl trivial ?_
        refine doneVC_mk [] ⟨by kernel_rfl, by kernel_rfl, by kernel_rfl⟩ rfl (eqA (eqC (eqI ?_) (eqC (eqS ?_) (eqC (eqI ?_) (eqC (by kernel_rfl) (eqC (eqI ?_) (eqC (eqS ?_) (eqC (eqS ?_) (eqC (eqS ?_) (eqC (eqI ?_) (eqC (by kernel_rfl) (eqC (by kernel_rfl) (eqC (eqB ?_) (by kernel_rfl)))))))))))))) trivial
        · (unfold hashP; (repeat first | rw [if_neg (by first | assumption | omega)] | rw [if_pos (by first | assumption | omega)]); first | done | rfl)
        · (unfold hashP; (repeat first | rw [if_neg (by first | assumption | omega)] | rw [if_pos (by first | assumption | omega)]); first | done | rfl)
        · (unfold hashP; (repeat first | rw [if_neg (by first | assumption | omega)] | rw [if_pos (by first | assumption | omega)]); first | done | rfl)
        · (unfold hashP; (repeat first | rw [if_neg (by first | assumption | omega)] | rw [if_pos (by first | assumption | omega)]); first | done | rfl)
        · (unfold hashP; (repeat first | rw [if_neg (by first | assumption | omega)] | rw [if_pos (by first | assumption | omega)]); first | done | rfl)
        · (unfold hashP; (repeat first | rw [if_neg (by first | assumption | omega)] | rw [if_pos (by first | assumption | omega)]); first | done | rfl)
        · (unfold hashP; (repeat first | rw [if_neg (by first | assumption | omega)] | rw [if_pos (by first | assumption | omega)]); first | done | rfl)
        · (unfold hashP; (repeat first | rw [if_neg (by first | assumption | omega)] | rw [if_pos (by first | assumption | omega)]); first | done | rfl)
        · (unfold hashP; (repeat first | rw [if_neg (by first | assumption | omega)] | rw [if_pos (by first | assumption | omega)]); first | done | rfl)
def scoresP (c : Call) : PlanS := if L c.name = L (⟨#[90, 65, 68, 68]⟩ : ByteArray) then (if c.n < -1099511627776 then faultP (⟨#[79, 86, 69, 82, 70, 76, 79, 87]⟩ : ByteArray) else if c.n > 1099511627776 then faultP (⟨#[79, 86, 69, 82, 70, 76, 79, 87]⟩ : ByteArray) else ⟨3, emp, 1, 7, c.key, c.field, emp, c.n, true⟩)
  else if L c.name = L (⟨#[90, 82, 69, 77]⟩ : ByteArray) then numP 0 else if L c.name = L (⟨#[90, 82, 65, 78, 71, 69]⟩ : ByteArray) then saysP 6 emp 0 else saysP 5 emp 0
theorem command_scores (c : Call) : FnOk Tryz.prog 103 [nilP, .agg (callL c)] (conPure 0 (.agg (planL (scoresP c)))) := by
  refine fnOk_of_den tab_ok mixed look103 rfl rfl (by kernel_rfl) fun hb => ?_
  simp only [den, denOps]
  refine callVC_mk [] (space_Space_Scores _) ⟨rfl, rfl, rfl⟩ rfl trivial ?_
  refine callVC_mk [0] (slices_IndexFunc_score_Pair _ c) ⟨rfl, rfl, rfl⟩ rfl ⟨Or.inr ⟨rfl, rfl⟩, trivial⟩ ?_
  refine Fork.mk (fun h1 => ?_) (fun h1 => ?_)
  · simp at h1
    refine Fork.mk (fun h2 => ?_) (fun h2 => ?_)
    · simp at h2
      refine callVC_mk [] (command_fault _) ⟨rfl, rfl, rfl⟩ rfl trivial ?_
      refine callVC_mk [] (command_says _ _ _) ⟨rfl, rfl, rfl⟩ rfl trivial ?_
      refine doneVC_mk [] ⟨by kernel_rfl, by kernel_rfl, by kernel_rfl⟩ rfl (eqA (eqC (eqI ?_) (eqC (eqS ?_) (eqC (eqI ?_) (eqC (by kernel_rfl) (eqC (eqI ?_) (eqC (eqS ?_) (eqC (eqS ?_) (eqC (eqS ?_) (eqC (eqI ?_) (eqC (by kernel_rfl) (eqC (by kernel_rfl) (eqC (eqB ?_) (by kernel_rfl)))))))))))))) trivial
      · (unfold scoresP; (repeat first | rw [if_neg (by first | assumption | omega)] | rw [if_pos (by first | assumption | omega)]); first | done | rfl)
      · (unfold scoresP; (repeat first | rw [if_neg (by first | assumption | omega)] | rw [if_pos (by first | assumption | omega)]); first | done | rfl)
      · (unfold scoresP; (repeat first | rw [if_neg (by first | assumption | omega)] | rw [if_pos (by first | assumption | omega)]); first | done | rfl)
      · (unfold scoresP; (repeat first | rw [if_neg (by first | assumption | omega)] | rw [if_pos (by first | assumption | omega)]); first | done | rfl)
      · (unfold scoresP; (repeat first | rw [if_neg (by first | assumption | omega)] | rw [if_pos (by first | assumption | omega)]); first | done | rfl)
      · (unfold scoresP; (repeat first | rw [if_neg (by first | assumption | omega)] | rw [if_pos (by first | assumption | omega)]); first | done | rfl)
      · (unfold scoresP; (repeat first | rw [if_neg (by first | assumption | omega)] | rw [if_pos (by first | assumption | omega)]); first | done | rfl)
      · (unfold scoresP; (repeat first | rw [if_neg (by first | assumption | omega)] | rw [if_pos (by first | assumption | omega)]); first | done | rfl)
      · (unfold scoresP; (repeat first | rw [if_neg (by first | assumption | omega)] | rw [if_pos (by first | assumption | omega)]); first | done | rfl)
    · simp at h2
      refine Fork.mk (fun h3 => ?_) (fun h3 => ?_)
      · simp at h3
        refine callVC_mk [] (command_fault _) ⟨rfl, rfl, rfl⟩ rfl trivial ?_
        refine callVC_mk [] (command_says _ _ _) ⟨rfl, rfl, rfl⟩ rfl trivial ?_
        refine doneVC_mk [] ⟨by kernel_rfl, by kernel_rfl, by kernel_rfl⟩ rfl (eqA (eqC (eqI ?_) (eqC (eqS ?_) (eqC (eqI ?_) (eqC (by kernel_rfl) (eqC (eqI ?_) (eqC (eqS ?_) (eqC (eqS ?_) (eqC (eqS ?_) (eqC (eqI ?_) (eqC (by kernel_rfl) (eqC (by kernel_rfl) (eqC (eqB ?_) (by kernel_rfl)))))))))))))) trivial
        · (unfold scoresP; (repeat first | rw [if_neg (by first | assumption | omega)] | rw [if_pos (by first | assumption | omega)]); first | done | rfl)
        · (unfold scoresP; (repeat first | rw [if_neg (by first | assumption | omega)] | rw [if_pos (by first | assumption | omega)]); first | done | rfl)
        · (unfold scoresP; (repeat first | rw [if_neg (by first | assumption | omega)] | rw [if_pos (by first | assumption | omega)]); first | done | rfl)
        · (unfold scoresP; (repeat first | rw [if_neg (by first | assumption | omega)] | rw [if_pos (by first | assumption | omega)]); first | done | rfl)
        · (unfold scoresP; (repeat first | rw [if_neg (by first | assumption | omega)] | rw [if_pos (by first | assumption | omega)]); first | done | rfl)
        · (unfold scoresP; (repeat first | rw [if_neg (by first | assumption | omega)] | rw [if_pos (by first | assumption | omega)]); first | done | rfl)
        · (unfold scoresP; (repeat first | rw [if_neg (by first | assumption | omega)] | rw [if_pos (by first | assumption | omega)]); first | done | rfl)
        · (unfold scoresP; (repeat first | rw [if_neg (by first | assumption | omega)] | rw [if_pos (by first | assumption | omega)]); first | done | rfl)
        · (unfold scoresP; (repeat first | rw [if_neg (by first | assumption | omega)] | rw [if_pos (by first | assumption | omega)]); first | done | rfl)
      · simp at h3
        refine callVC_mk [] command_yes_tt ⟨rfl, rfl, rfl⟩ rfl trivial ?_
        refine callVC_mk [] (command_does _ _ _ _ _ _ _ _) ⟨rfl, rfl, rfl⟩ rfl trivial ?_
        refine ⟨rfl, ?_⟩
        refine doneVC_mk [] ⟨by kernel_rfl, by kernel_rfl, by kernel_rfl⟩ rfl (eqA (eqC (eqI ?_) (eqC (eqS ?_) (eqC (eqI ?_) (eqC (by kernel_rfl) (eqC (eqI ?_) (eqC (eqS ?_) (eqC (eqS ?_) (eqC (eqS ?_) (eqC (eqI ?_) (eqC (by kernel_rfl) (eqC (by kernel_rfl) (eqC (eqB ?_) (by kernel_rfl)))))))))))))) trivial
        · (unfold scoresP; (repeat first | rw [if_neg (by first | assumption | omega)] | rw [if_pos (by first | assumption | omega)]); first | done | rfl)
        · (unfold scoresP; (repeat first | rw [if_neg (by first | assumption | omega)] | rw [if_pos (by first | assumption | omega)]); first | done | rfl)
        · (unfold scoresP; (repeat first | rw [if_neg (by first | assumption | omega)] | rw [if_pos (by first | assumption | omega)]); first | done | rfl)
        · (unfold scoresP; (repeat first | rw [if_neg (by first | assumption | omega)] | rw [if_pos (by first | assumption | omega)]); first | done | rfl)
        · (unfold scoresP; (repeat first | rw [if_neg (by first | assumption | omega)] | rw [if_pos (by first | assumption | omega)]); first | done | rfl)
        · (unfold scoresP; (repeat first | rw [if_neg (by first | assumption | omega)] | rw [if_pos (by first | assumption | omega)]); first | done | rfl)
        · (unfold scoresP; (repeat first | rw [if_neg (by first | assumption | omega)] | rw [if_pos (by first | assumption | omega)]); first | done | rfl)
        · (unfold scoresP; (repeat first | rw [if_neg (by first | assumption | omega)] | rw [if_pos (by first | assumption | omega)]); first | done | rfl)
        · (unfold scoresP; (repeat first | rw [if_neg (by first | assumption | omega)] | rw [if_pos (by first | assumption | omega)]); first | done | rfl)
  · simp at h1
    refine Fork.mk (fun h2 => ?_) (fun h2 => ?_)
    · simp at h2
      refine callVC_mk [] (command_unless_tt _ _ _ _ _) ⟨rfl, rfl, rfl⟩ rfl trivial ?_
      refine doneVC_mk [] ⟨by kernel_rfl, by kernel_rfl, by kernel_rfl⟩ rfl (eqA (eqC (eqI ?_) (eqC (eqS ?_) (eqC (eqI ?_) (eqC (by kernel_rfl) (eqC (eqI ?_) (eqC (eqS ?_) (eqC (eqS ?_) (eqC (eqS ?_) (eqC (eqI ?_) (eqC (by kernel_rfl) (eqC (by kernel_rfl) (eqC (eqB ?_) (by kernel_rfl)))))))))))))) trivial
      · (unfold scoresP; (repeat first | rw [if_neg (by first | assumption | omega)] | rw [if_pos (by first | assumption | omega)]); first | done | rfl)
      · (unfold scoresP; (repeat first | rw [if_neg (by first | assumption | omega)] | rw [if_pos (by first | assumption | omega)]); first | done | rfl)
      · (unfold scoresP; (repeat first | rw [if_neg (by first | assumption | omega)] | rw [if_pos (by first | assumption | omega)]); first | done | rfl)
      · (unfold scoresP; (repeat first | rw [if_neg (by first | assumption | omega)] | rw [if_pos (by first | assumption | omega)]); first | done | rfl)
      · (unfold scoresP; (repeat first | rw [if_neg (by first | assumption | omega)] | rw [if_pos (by first | assumption | omega)]); first | done | rfl)
      · (unfold scoresP; (repeat first | rw [if_neg (by first | assumption | omega)] | rw [if_pos (by first | assumption | omega)]); first | done | rfl)
      · (unfold scoresP; (repeat first | rw [if_neg (by first | assumption | omega)] | rw [if_pos (by first | assumption | omega)]); first | done | rfl)
      · (unfold scoresP; (repeat first | rw [if_neg (by first | assumption | omega)] | rw [if_pos (by first | assumption | omega)]); first | done | rfl)
      · (unfold scoresP; (repeat first | rw [if_neg (by first | assumption | omega)] | rw [if_pos (by first | assumption | omega)]); first | done | rfl)
    · simp at h2
      refine Fork.mk (fun h3 => ?_) (fun h3 => ?_)
      · simp at h3
        refine callVC_mk [] (score_Span _ _) ⟨rfl, rfl, rfl⟩ rfl trivial ?_
        refine law_mk (good_nilSlice rfl rfl (by kernel_rfl : Tryz.prog.underlying 293 = some (.slice 296)) (sz := 2) (fun w => rfl) rfl rfl rfl rfl ⟨rfl, rfl⟩) ?_
        refine unroll_mk 1 ?_
        refine callVC_mk [] command_list_nil ⟨rfl, rfl, rfl⟩ rfl trivial ?_
        refine callVC_mk [] (command_says _ _ _) ⟨rfl, rfl, rfl⟩ rfl trivial ?_
        refine doneVC_mk [] ⟨by kernel_rfl, by kernel_rfl, by kernel_rfl⟩ rfl (eqA (eqC (eqI ?_) (eqC (eqS ?_) (eqC (eqI ?_) (eqC (by kernel_rfl) (eqC (eqI ?_) (eqC (eqS ?_) (eqC (eqS ?_) (eqC (eqS ?_) (eqC (eqI ?_) (eqC (by kernel_rfl) (eqC (by kernel_rfl) (eqC (eqB ?_) (by kernel_rfl)))))))))))))) trivial
        · (unfold scoresP; (repeat first | rw [if_neg (by first | assumption | omega)] | rw [if_pos (by first | assumption | omega)]); first | done | rfl)
        · (unfold scoresP; (repeat first | rw [if_neg (by first | assumption | omega)] | rw [if_pos (by first | assumption | omega)]); first | done | rfl)
        · (unfold scoresP; (repeat first | rw [if_neg (by first | assumption | omega)] | rw [if_pos (by first | assumption | omega)]); first | done | rfl)
        · (unfold scoresP; (repeat first | rw [if_neg (by first | assumption | omega)] | rw [if_pos (by first | assumption | omega)]); first | done | rfl)
        · (unfold scoresP; (repeat first | rw [if_neg (by first | assumption | omega)] | rw [if_pos (by first | assumption | omega)]); first | done | rfl)
        · (unfold scoresP; (repeat first | rw [if_neg (by first | assumption | omega)] | rw [if_pos (by first | assumption | omega)]); first | done | rfl)
        · (unfold scoresP; (repeat first | rw [if_neg (by first | assumption | omega)] | rw [if_pos (by first | assumption | omega)]); first | done | rfl)
        · (unfold scoresP; (repeat first | rw [if_neg (by first | assumption | omega)] | rw [if_pos (by first | assumption | omega)]); first | done | rfl)
        · (unfold scoresP; (repeat first | rw [if_neg (by first | assumption | omega)] | rw [if_pos (by first | assumption | omega)]); first | done | rfl)
      · simp at h3
        refine callVC_mk [] (command_maybe_ff _) ⟨rfl, rfl, rfl⟩ rfl trivial ?_
        refine callVC_mk [] (command_says _ _ _) ⟨rfl, rfl, rfl⟩ rfl trivial ?_
        refine doneVC_mk [] ⟨by kernel_rfl, by kernel_rfl, by kernel_rfl⟩ rfl (eqA (eqC (eqI ?_) (eqC (eqS ?_) (eqC (eqI ?_) (eqC (by kernel_rfl) (eqC (eqI ?_) (eqC (eqS ?_) (eqC (eqS ?_) (eqC (eqS ?_) (eqC (eqI ?_) (eqC (by kernel_rfl) (eqC (by kernel_rfl) (eqC (eqB ?_) (by kernel_rfl)))))))))))))) trivial
        · (unfold scoresP; (repeat first | rw [if_neg (by first | assumption | omega)] | rw [if_pos (by first | assumption | omega)]); first | done | rfl)
        · (unfold scoresP; (repeat first | rw [if_neg (by first | assumption | omega)] | rw [if_pos (by first | assumption | omega)]); first | done | rfl)
        · (unfold scoresP; (repeat first | rw [if_neg (by first | assumption | omega)] | rw [if_pos (by first | assumption | omega)]); first | done | rfl)
        · (unfold scoresP; (repeat first | rw [if_neg (by first | assumption | omega)] | rw [if_pos (by first | assumption | omega)]); first | done | rfl)
        · (unfold scoresP; (repeat first | rw [if_neg (by first | assumption | omega)] | rw [if_pos (by first | assumption | omega)]); first | done | rfl)
        · (unfold scoresP; (repeat first | rw [if_neg (by first | assumption | omega)] | rw [if_pos (by first | assumption | omega)]); first | done | rfl)
        · (unfold scoresP; (repeat first | rw [if_neg (by first | assumption | omega)] | rw [if_pos (by first | assumption | omega)]); first | done | rfl)
        · (unfold scoresP; (repeat first | rw [if_neg (by first | assumption | omega)] | rw [if_pos (by first | assumption | omega)]); first | done | rfl)
        · (unfold scoresP; (repeat first | rw [if_neg (by first | assumption | omega)] | rw [if_pos (by first | assumption | omega)]); first | done | rfl)
end Go.Proofs.YtehnjdcahbehjaaGreatDoor

/- The law CommandNil: its card. -/
import Derived.Test.YtehnjdcahbehjaaGreatDoorKR
namespace Go.Proofs.YtehnjdcahbehjaaGreatDoor
open Go Go.Eng Go.ChangeShapes Go.WideShapes Go.ChangeAt Go.RowKit
set_option maxRecDepth 100000
theorem cn_looks : true = Tryz.pinned.checked.prog.looks [] := by kernel_rfl
theorem cn_stand : Tryz.prog.wantsStandIn 22 = false := by kernel_rfl
theorem cn_text : Rows.commandNilRow.wfByText (OpenSpec.ofChange Rows.commandNilSpec) = true := by kernel_rfl
theorem cn_main : Tryz.pinned.checked.prog.mainIs = some (true, "781b49036127b626b0ecac5c744b72d24b6b1f5f081342a2804141a1a41e4415".toList) := by kernel_rfl
theorem cn_goes : false = Rows.commandNilRow.goesBy Tryz.pinned.checked.prog := by kernel_rfl
/-- No parameter wants a stand-in; the program's own looks are off. -/
theorem commandNil_plain (f : FuncId) (fn : Func) (hf : Tryz.pinned.checked.prog.funcNamed "polyphony/polyphonylaw22.CommandNil" = some f) (hfn : Tryz.pinned.checked.prog.funcs[f]? = some fn) :
    true = Tryz.pinned.checked.prog.looks [] ∧ ∀ (j : Nat) t, fn.params[j]? = some t → Tryz.pinned.checked.prog.wantsStandIn t = false := by
  obtain rfl : f = 3 := Option.some.inj (cn_func.symm.trans hf) |>.symm
  obtain rfl : fn = Tryz.f3 := (Option.some.inj (Tryz.func3.symm.trans hfn)).symm
  refine ⟨cn_looks, fun j t ht => ?_⟩
  rw [Tryz.params3] at ht
  obtain rfl : t = 22 := by simpa using Array.mem_of_getElem? ht
  exact cn_stand

/-- THE CARD. -/
theorem commandNil_card : Rows.CommandNilCardSaid :=
  Claim7.holds_tied_plain_at .later [] _ _ _ _ commandNil_said (fun _ h => by cases h) cn_text (fun _ h => by cases h) commandNil_row_tie rfl ⟨rfl, rfl⟩ cn_main rfl commandNil_plain cn_goes
end Go.Proofs.YtehnjdcahbehjaaGreatDoor

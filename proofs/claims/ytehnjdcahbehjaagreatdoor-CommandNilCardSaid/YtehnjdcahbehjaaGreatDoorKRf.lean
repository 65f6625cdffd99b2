/- The closed facts about the law CommandNil's call graph, each by itself. -/
import Derived.Test.YtehnjdcahbehjaaGreatDoorCards
import Derived.ProofKit
namespace Go.Proofs.YtehnjdcahbehjaaGreatDoor
open Go
set_option maxRecDepth 100000
theorem cn_inPlace : (Rows.commandNilRow.inPlace == Tryz.prog.inPlace 3) = true := by kernel_rfl
theorem cn_unfollowed : (Rows.commandNilRow.unfollowed == Tryz.prog.unfollowed 3) = true := by kernel_rfl
theorem cn_recurses : (Rows.commandNilRow.recurses == Tryz.prog.recurses 3) = true := by kernel_rfl
theorem cn_named : (Rows.commandNilRow.named == Tryz.prog.varsNamed 3) = true := by kernel_rfl
theorem cn_stopsHeard : Tryz.prog.stopsHeard = true := by kernel_rfl
theorem cn_mayEnter : Tryz.prog.mayEnter = true := by kernel_rfl
theorem cn_lifted : (Rows.commandNilRow.lifted == Tryz.prog.liftsFinal) = true := by kernel_rfl
theorem cn_make : (Tryz.prog.make == some Rows.commandNilRow.make) = true := by kernel_rfl
theorem cn_stops : (Tryz.prog.stops == []) = true := by kernel_rfl
theorem cn_knobs : (Tryz.prog.stopKnobs == []) = true := by kernel_rfl
theorem cn_plainKeys : (Rows.commandNilRow.plainKeys == Tryz.prog.plainKeys) = true := by kernel_rfl
theorem cn_mapsRowed : mapsRowed Tryz.prog = true := by kernel_rfl
end Go.Proofs.YtehnjdcahbehjaaGreatDoor

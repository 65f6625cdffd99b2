/-
  DERIVED. GIVEN WITH THE SEED: THE CARDS: each row of YtehnjdcahbehjaaGreatDoorRows.lean that lists a variable, with what it lists TIED to the program's text (the seventh form; the later family's looks); each row that meets fmt, with fmt's text TOLD by the authors' own Lean function (tested against real Go, not proved from fmt's source: count such statements apart). THE CARD IS WHAT COUNTS. Prove the row's statement (the work); the ties are given (YtehnjdcahbehjaaGreatDoorTie.lean); close each card by the builder's one call (the guide's Derived/Test/ToyasCard.lean, 'card_holds'). Laid BY PROGRAM, IN A SANDBOX (cutbox-door.mjs). By AI agents, Wed Nov 11 2026. No macro, syntax, notation, axiom, sorry.
-/
import Derived.Test.YtehnjdcahbehjaaGreatDoorRows
import GoSem.ClaimSeven
namespace Go.Proofs.YtehnjdcahbehjaaGreatDoor
namespace Rows

/-- THE TIED CARD OF 'polyphonylaw22.CommandNil'. -/
def commandNilCard : Claim7 := { stood := { row := commandNilRow, standIns := [], harness := (true, "781b49036127b626b0ecac5c744b72d24b6b1f5f081342a2804141a1a41e4415"), looks := true }, kinds := [], alts := [], laidByText := true, laidKinds := [.data, .data, .data, .data, .sentinel, .sentinel, .pinned], laidTests := true, laidLooks := .later }
def CommandNilCardSaid : Prop := Claim7.holds Tryz.pinned (.plain (OpenSpec.ofChange commandNilSpec)) commandNilCard

/-- THE TIED CARD OF 'polyphonylaw23.NodeNil'. -/
def nodeNilCard : Claim7 := { stood := { row := nodeNilRow, standIns := [], harness := (true, "781b49036127b626b0ecac5c744b72d24b6b1f5f081342a2804141a1a41e4415"), looks := true }, kinds := [], alts := [], laidByText := true, laidKinds := [.data, .data, .data, .data, .sentinel, .sentinel, .pinned], laidTests := true, laidLooks := .later }
def NodeNilCardSaid : Prop := Claim7.holds Tryz.pinned (.plain (OpenSpec.ofChange nodeNilSpec)) nodeNilCard

/-- THE TIED CARD OF 'polyphonylaw24.ClusterNil'. -/
def clusterNilCard : Claim7 := { stood := { row := clusterNilRow, standIns := [], harness := (true, "781b49036127b626b0ecac5c744b72d24b6b1f5f081342a2804141a1a41e4415"), looks := true }, kinds := [], alts := [], laidByText := true, laidKinds := [.data, .data, .data, .data, .sentinel, .sentinel, .pinned], laidTests := true, laidLooks := .later }
def ClusterNilCardSaid : Prop := Claim7.holds Tryz.pinned (.plain (OpenSpec.ofChange clusterNilSpec)) clusterNilCard

/-- THE SECOND FORM's CARD OF 'polyphonylaw22.CommandNil'. -/
def commandNilUptoCard : Claim7 := { stood := { row := commandNilUptoRow, standIns := [], harness := (true, "781b49036127b626b0ecac5c744b72d24b6b1f5f081342a2804141a1a41e4415"), looks := true }, kinds := [], alts := [], laidByText := true, laidKinds := [.data, .data, .data, .data, .sentinel, .sentinel, .pinned], laidTests := true, laidLooks := .later }
def CommandNilUptoCardSaid : Prop := Claim7.holds Tryz.pinned (.plain (OpenSpec.upto commandNilSpec)) commandNilUptoCard

/-- THE SECOND FORM's CARD OF 'polyphonylaw23.NodeNil'. -/
def nodeNilUptoCard : Claim7 := { stood := { row := nodeNilUptoRow, standIns := [], harness := (true, "781b49036127b626b0ecac5c744b72d24b6b1f5f081342a2804141a1a41e4415"), looks := true }, kinds := [], alts := [], laidByText := true, laidKinds := [.data, .data, .data, .data, .sentinel, .sentinel, .pinned], laidTests := true, laidLooks := .later }
def NodeNilUptoCardSaid : Prop := Claim7.holds Tryz.pinned (.plain (OpenSpec.upto nodeNilSpec)) nodeNilUptoCard

/-- THE SECOND FORM's CARD OF 'polyphonylaw24.ClusterNil'. -/
def clusterNilUptoCard : Claim7 := { stood := { row := clusterNilUptoRow, standIns := [], harness := (true, "781b49036127b626b0ecac5c744b72d24b6b1f5f081342a2804141a1a41e4415"), looks := true }, kinds := [], alts := [], laidByText := true, laidKinds := [.data, .data, .data, .data, .sentinel, .sentinel, .pinned], laidTests := true, laidLooks := .later }
def ClusterNilUptoCardSaid : Prop := Claim7.holds Tryz.pinned (.plain (OpenSpec.upto clusterNilSpec)) clusterNilUptoCard
end Rows
end Go.Proofs.YtehnjdcahbehjaaGreatDoor

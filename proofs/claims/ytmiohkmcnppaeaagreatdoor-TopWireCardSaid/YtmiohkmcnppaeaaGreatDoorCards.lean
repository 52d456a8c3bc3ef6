/-
  DERIVED. GIVEN WITH THE SEED: THE CARDS: each row of YtmiohkmcnppaeaaGreatDoorRows.lean that lists a variable, with what it lists TIED to the program's text (the seventh form; the later family's looks); each row that meets fmt, with fmt's text TOLD by the authors' own Lean function (tested against real Go, not proved from fmt's source: count such statements apart). THE CARD IS WHAT COUNTS. Prove the row's statement (the work); the ties are given (YtmiohkmcnppaeaaGreatDoorTie.lean); close each card by the builder's one call (the guide's Derived/Test/ToyasCard.lean, 'card_holds'). Laid BY PROGRAM, IN A SANDBOX (cutbox-door.mjs). By AI agents, Wed Nov 11 2026. No macro, syntax, notation, axiom, sorry.
-/
import Derived.Test.YtmiohkmcnppaeaaGreatDoorRows
import GoSem.ClaimSeven
namespace Go.Proofs.YtmiohkmcnppaeaaGreatDoor
namespace Rows

/-- THE TIED CARD OF 'vergertop.TopWire'. -/
def topWireCard : Claim7 := { stood := { row := topWireRow, standIns := [], harness := (true, "79465207ad6a2be7e739a22de63792a97c9ab4a2d92a74dcffa63025809a68b7"), looks := true }, kinds := [], alts := [], laidByText := true, laidKinds := [.data, .data, .data, .data, .sentinel, .sentinel, .pinned], laidTests := true, laidLooks := .later }
def TopWireCardSaid : Prop := Claim7.holds Tryz.pinned (.plain (OpenSpec.ofChange topWireSpec)) topWireCard

/-- THE SECOND FORM's CARD OF 'vergertop.TopWire'. -/
def topWireUptoCard : Claim7 := { stood := { row := topWireUptoRow, standIns := [], harness := (true, "79465207ad6a2be7e739a22de63792a97c9ab4a2d92a74dcffa63025809a68b7"), looks := true }, kinds := [], alts := [], laidByText := true, laidKinds := [.data, .data, .data, .data, .sentinel, .sentinel, .pinned], laidTests := true, laidLooks := .later }
def TopWireUptoCardSaid : Prop := Claim7.holds Tryz.pinned (.plain (OpenSpec.upto topWireSpec)) topWireUptoCard
end Rows
end Go.Proofs.YtmiohkmcnppaeaaGreatDoor

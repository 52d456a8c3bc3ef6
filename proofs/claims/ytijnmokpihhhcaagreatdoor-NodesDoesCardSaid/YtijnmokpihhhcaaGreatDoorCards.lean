/-
  DERIVED. GIVEN WITH THE SEED: THE CARDS: each row of YtijnmokpihhhcaaGreatDoorRows.lean that lists a variable, with what it lists TIED to the program's text (the seventh form; the later family's looks); each row that meets fmt, with fmt's text TOLD by the authors' own Lean function (tested against real Go, not proved from fmt's source: count such statements apart). THE CARD IS WHAT COUNTS. Prove the row's statement (the work); the ties are given (YtijnmokpihhhcaaGreatDoorTie.lean); close each card by the builder's one call (the guide's Derived/Test/ToyasCard.lean, 'card_holds'). Laid BY PROGRAM, IN A SANDBOX (cutbox-door.mjs). By AI agents, Wed Nov 11 2026. No macro, syntax, notation, axiom, sorry.
-/
import Derived.Test.YtijnmokpihhhcaaGreatDoorRows
import GoSem.ClaimSeven
namespace Go.Proofs.YtijnmokpihhhcaaGreatDoor
namespace Rows

/-- THE TIED CARD OF 'vergerlaw08.NodesAll'. -/
def nodesAllCard : Claim7 := { stood := { row := nodesAllRow, standIns := [], harness := (true, "86e2b089051144e831ca9b9dcc88dc32dc4a2c7b9d853ecf94911194e387bec4"), looks := false }, kinds := [], alts := [], laidByText := true, laidKinds := [.data, .pinned], laidTests := true, laidLooks := .later }
def NodesAllCardSaid : Prop := Claim7.holds Tryz.pinned (.plain (OpenSpec.ofChange nodesAllSpec)) nodesAllCard

/-- THE TIED CARD OF 'vergerlaw08.NodesDoes'. -/
def nodesDoesCard : Claim7 := { stood := { row := nodesDoesRow, standIns := [], harness := (true, "86e2b089051144e831ca9b9dcc88dc32dc4a2c7b9d853ecf94911194e387bec4"), looks := false }, kinds := [], alts := [], laidByText := true, laidKinds := [.data, .pinned], laidTests := true, laidLooks := .later }
def NodesDoesCardSaid : Prop := Claim7.holds Tryz.pinned (.plain (OpenSpec.ofChange nodesDoesSpec)) nodesDoesCard

/-- THE SECOND FORM's CARD OF 'vergerlaw08.NodesAll'. -/
def nodesAllUptoCard : Claim7 := { stood := { row := nodesAllUptoRow, standIns := [], harness := (true, "86e2b089051144e831ca9b9dcc88dc32dc4a2c7b9d853ecf94911194e387bec4"), looks := false }, kinds := [], alts := [], laidByText := true, laidKinds := [.data, .pinned], laidTests := true, laidLooks := .later }
def NodesAllUptoCardSaid : Prop := Claim7.holds Tryz.pinned (.plain (OpenSpec.upto nodesAllSpec)) nodesAllUptoCard

/-- THE SECOND FORM's CARD OF 'vergerlaw08.NodesDoes'. -/
def nodesDoesUptoCard : Claim7 := { stood := { row := nodesDoesUptoRow, standIns := [], harness := (true, "86e2b089051144e831ca9b9dcc88dc32dc4a2c7b9d853ecf94911194e387bec4"), looks := false }, kinds := [], alts := [], laidByText := true, laidKinds := [.data, .pinned], laidTests := true, laidLooks := .later }
def NodesDoesUptoCardSaid : Prop := Claim7.holds Tryz.pinned (.plain (OpenSpec.upto nodesDoesSpec)) nodesDoesUptoCard
end Rows
end Go.Proofs.YtijnmokpihhhcaaGreatDoor

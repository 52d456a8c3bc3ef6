/-
  DERIVED. GIVEN WITH THE SEED: THE CARDS: each row of YtijnmokpihhhcaaDoorRows.lean that lists a variable, with what it lists TIED to the program's text (the seventh form; the later family's looks); each row that meets fmt, with fmt's text TOLD by the authors' own Lean function (tested against real Go, not proved from fmt's source: count such statements apart). THE CARD IS WHAT COUNTS. Prove the row's statement (the work); the ties are given (YtijnmokpihhhcaaDoorTie.lean); close each card by the builder's one call (the guide's Derived/Test/ToyasCard.lean, 'card_holds'). Laid BY PROGRAM, IN A SANDBOX (cutbox-door.mjs). By AI agents, Wed Nov 11 2026. No macro, syntax, notation, axiom, sorry.
-/
import Derived.Test.YtijnmokpihhhcaaDoorRows
import GoSem.ClaimSeven
namespace Go.Proofs.YtijnmokpihhhcaaDoor
namespace Rows

/-- THE TIED CARD OF 'vergerlaw08.NodesNames'. -/
def nodesNamesCard : Claim7 := { stood := { row := nodesNamesRow, standIns := [], harness := (true, "66d1f36538062ea585267282a09c8e5371b93a57b8ebe2a91a95b79da9598c10"), looks := false }, kinds := [], alts := [], laidByText := true, laidKinds := [.data, .pinned], laidTests := true, laidLooks := .later }
def NodesNamesCardSaid : Prop := Claim7.holds Tryd.pinned (.plain (OpenSpec.ofChange nodesNamesSpec)) nodesNamesCard

/-- THE TIED CARD OF 'vergerlaw08.NodesMade'. -/
def nodesMadeCard : Claim7 := { stood := { row := nodesMadeRow, standIns := [], harness := (true, "66d1f36538062ea585267282a09c8e5371b93a57b8ebe2a91a95b79da9598c10"), looks := false }, kinds := [], alts := [], laidByText := true, laidKinds := [.data, .pinned], laidTests := true, laidLooks := .later }
def NodesMadeCardSaid : Prop := Claim7.holds Tryd.pinned (.plain (OpenSpec.ofChange nodesMadeSpec)) nodesMadeCard

/-- THE TIED CARD OF 'vergerlaw08.NodesBytes'. -/
def nodesBytesCard : Claim7 := { stood := { row := nodesBytesRow, standIns := [], harness := (true, "66d1f36538062ea585267282a09c8e5371b93a57b8ebe2a91a95b79da9598c10"), looks := false }, kinds := [], alts := [], laidByText := true, laidKinds := [.data, .pinned], laidTests := true, laidLooks := .later }
def NodesBytesCardSaid : Prop := Claim7.holds Tryd.pinned (.plain (OpenSpec.ofChange nodesBytesSpec)) nodesBytesCard

/-- THE TIED CARD OF 'vergerlaw08.NodesPaths'. -/
def nodesPathsCard : Claim7 := { stood := { row := nodesPathsRow, standIns := [], harness := (true, "66d1f36538062ea585267282a09c8e5371b93a57b8ebe2a91a95b79da9598c10"), looks := false }, kinds := [], alts := [], laidByText := true, laidKinds := [.data, .pinned], laidTests := true, laidLooks := .later }
def NodesPathsCardSaid : Prop := Claim7.holds Tryd.pinned (.plain (OpenSpec.ofChange nodesPathsSpec)) nodesPathsCard

/-- THE TIED CARD OF 'vergerlaw08.NodesTree'. -/
def nodesTreeCard : Claim7 := { stood := { row := nodesTreeRow, standIns := [], harness := (true, "66d1f36538062ea585267282a09c8e5371b93a57b8ebe2a91a95b79da9598c10"), looks := false }, kinds := [], alts := [], laidByText := true, laidKinds := [.data, .pinned], laidTests := true, laidLooks := .later }
def NodesTreeCardSaid : Prop := Claim7.holds Tryd.pinned (.plain (OpenSpec.ofChange nodesTreeSpec)) nodesTreeCard

/-- THE TIED CARD OF 'vergerlaw08.NodesStill'. -/
def nodesStillCard : Claim7 := { stood := { row := nodesStillRow, standIns := [], harness := (true, "66d1f36538062ea585267282a09c8e5371b93a57b8ebe2a91a95b79da9598c10"), looks := false }, kinds := [], alts := [], laidByText := true, laidKinds := [.data, .pinned], laidTests := true, laidLooks := .later }
def NodesStillCardSaid : Prop := Claim7.holds Tryd.pinned (.plain (OpenSpec.ofChange nodesStillSpec)) nodesStillCard

/-- THE TIED CARD OF 'vergerlaw08.NodesTurns'. -/
def nodesTurnsCard : Claim7 := { stood := { row := nodesTurnsRow, standIns := [], harness := (true, "66d1f36538062ea585267282a09c8e5371b93a57b8ebe2a91a95b79da9598c10"), looks := false }, kinds := [], alts := [], laidByText := true, laidKinds := [.data, .pinned], laidTests := true, laidLooks := .later }
def NodesTurnsCardSaid : Prop := Claim7.holds Tryd.pinned (.plain (OpenSpec.ofChange nodesTurnsSpec)) nodesTurnsCard

/-- THE TIED CARD OF 'vergerlaw08.NodesApart'. -/
def nodesApartCard : Claim7 := { stood := { row := nodesApartRow, standIns := [], harness := (true, "66d1f36538062ea585267282a09c8e5371b93a57b8ebe2a91a95b79da9598c10"), looks := false }, kinds := [], alts := [], laidByText := true, laidKinds := [.data, .pinned], laidTests := true, laidLooks := .later }
def NodesApartCardSaid : Prop := Claim7.holds Tryd.pinned (.plain (OpenSpec.ofChange nodesApartSpec)) nodesApartCard

/-- THE SECOND FORM's CARD OF 'vergerlaw08.NodesNames'. -/
def nodesNamesUptoCard : Claim7 := { stood := { row := nodesNamesUptoRow, standIns := [], harness := (true, "66d1f36538062ea585267282a09c8e5371b93a57b8ebe2a91a95b79da9598c10"), looks := false }, kinds := [], alts := [], laidByText := true, laidKinds := [.data, .pinned], laidTests := true, laidLooks := .later }
def NodesNamesUptoCardSaid : Prop := Claim7.holds Tryd.pinned (.plain (OpenSpec.upto nodesNamesSpec)) nodesNamesUptoCard

/-- THE SECOND FORM's CARD OF 'vergerlaw08.NodesMade'. -/
def nodesMadeUptoCard : Claim7 := { stood := { row := nodesMadeUptoRow, standIns := [], harness := (true, "66d1f36538062ea585267282a09c8e5371b93a57b8ebe2a91a95b79da9598c10"), looks := false }, kinds := [], alts := [], laidByText := true, laidKinds := [.data, .pinned], laidTests := true, laidLooks := .later }
def NodesMadeUptoCardSaid : Prop := Claim7.holds Tryd.pinned (.plain (OpenSpec.upto nodesMadeSpec)) nodesMadeUptoCard

/-- THE SECOND FORM's CARD OF 'vergerlaw08.NodesBytes'. -/
def nodesBytesUptoCard : Claim7 := { stood := { row := nodesBytesUptoRow, standIns := [], harness := (true, "66d1f36538062ea585267282a09c8e5371b93a57b8ebe2a91a95b79da9598c10"), looks := false }, kinds := [], alts := [], laidByText := true, laidKinds := [.data, .pinned], laidTests := true, laidLooks := .later }
def NodesBytesUptoCardSaid : Prop := Claim7.holds Tryd.pinned (.plain (OpenSpec.upto nodesBytesSpec)) nodesBytesUptoCard

/-- THE SECOND FORM's CARD OF 'vergerlaw08.NodesPaths'. -/
def nodesPathsUptoCard : Claim7 := { stood := { row := nodesPathsUptoRow, standIns := [], harness := (true, "66d1f36538062ea585267282a09c8e5371b93a57b8ebe2a91a95b79da9598c10"), looks := false }, kinds := [], alts := [], laidByText := true, laidKinds := [.data, .pinned], laidTests := true, laidLooks := .later }
def NodesPathsUptoCardSaid : Prop := Claim7.holds Tryd.pinned (.plain (OpenSpec.upto nodesPathsSpec)) nodesPathsUptoCard

/-- THE SECOND FORM's CARD OF 'vergerlaw08.NodesTree'. -/
def nodesTreeUptoCard : Claim7 := { stood := { row := nodesTreeUptoRow, standIns := [], harness := (true, "66d1f36538062ea585267282a09c8e5371b93a57b8ebe2a91a95b79da9598c10"), looks := false }, kinds := [], alts := [], laidByText := true, laidKinds := [.data, .pinned], laidTests := true, laidLooks := .later }
def NodesTreeUptoCardSaid : Prop := Claim7.holds Tryd.pinned (.plain (OpenSpec.upto nodesTreeSpec)) nodesTreeUptoCard

/-- THE SECOND FORM's CARD OF 'vergerlaw08.NodesStill'. -/
def nodesStillUptoCard : Claim7 := { stood := { row := nodesStillUptoRow, standIns := [], harness := (true, "66d1f36538062ea585267282a09c8e5371b93a57b8ebe2a91a95b79da9598c10"), looks := false }, kinds := [], alts := [], laidByText := true, laidKinds := [.data, .pinned], laidTests := true, laidLooks := .later }
def NodesStillUptoCardSaid : Prop := Claim7.holds Tryd.pinned (.plain (OpenSpec.upto nodesStillSpec)) nodesStillUptoCard

/-- THE SECOND FORM's CARD OF 'vergerlaw08.NodesTurns'. -/
def nodesTurnsUptoCard : Claim7 := { stood := { row := nodesTurnsUptoRow, standIns := [], harness := (true, "66d1f36538062ea585267282a09c8e5371b93a57b8ebe2a91a95b79da9598c10"), looks := false }, kinds := [], alts := [], laidByText := true, laidKinds := [.data, .pinned], laidTests := true, laidLooks := .later }
def NodesTurnsUptoCardSaid : Prop := Claim7.holds Tryd.pinned (.plain (OpenSpec.upto nodesTurnsSpec)) nodesTurnsUptoCard

/-- THE SECOND FORM's CARD OF 'vergerlaw08.NodesApart'. -/
def nodesApartUptoCard : Claim7 := { stood := { row := nodesApartUptoRow, standIns := [], harness := (true, "66d1f36538062ea585267282a09c8e5371b93a57b8ebe2a91a95b79da9598c10"), looks := false }, kinds := [], alts := [], laidByText := true, laidKinds := [.data, .pinned], laidTests := true, laidLooks := .later }
def NodesApartUptoCardSaid : Prop := Claim7.holds Tryd.pinned (.plain (OpenSpec.upto nodesApartSpec)) nodesApartUptoCard
end Rows
end Go.Proofs.YtijnmokpihhhcaaDoor

/-
  DERIVED. GIVEN WITH THE SEED: THE CARDS: each row of YtkijkoakloacoaaGreatDoorRows.lean that lists a variable, with what it lists TIED to the program's text (the seventh form; the later family's looks); each row that meets fmt, with fmt's text TOLD by the authors' own Lean function (tested against real Go, not proved from fmt's source: count such statements apart). THE CARD IS WHAT COUNTS. Prove the row's statement (the work); the ties are given (YtkijkoakloacoaaGreatDoorTie.lean); close each card by the builder's one call (the guide's Derived/Test/ToyasCard.lean, 'card_holds'). Laid BY PROGRAM, IN A SANDBOX (cutbox-door.mjs). By AI agents, Wed Nov 11 2026. No macro, syntax, notation, axiom, sorry.
-/
import Derived.Test.YtkijkoakloacoaaGreatDoorRows
import GoSem.ClaimSeven
namespace Go.Proofs.YtkijkoakloacoaaGreatDoor
namespace Rows

/-- THE TIED CARD OF 'vergerlaw06.UsersReads'. -/
def usersReadsCard : Claim7 := { stood := { row := usersReadsRow, standIns := [], harness := (true, "4c3ca00dc3fee41d5d54ca3d5fbee7aaf2a3f821407579f73e1b0c3097482c7a"), looks := true }, kinds := [], alts := [], laidByText := true, laidKinds := [.data, .pinned], laidTests := true, laidLooks := .later }
def UsersReadsCardSaid : Prop := Claim7.holds Tryz.pinned (.plain (OpenSpec.ofChange usersReadsSpec)) usersReadsCard

/-- THE TIED CARD OF 'vergerlaw06.UsersPrints'. -/
def usersPrintsCard : Claim7 := { stood := { row := usersPrintsRow, standIns := [], harness := (true, "4c3ca00dc3fee41d5d54ca3d5fbee7aaf2a3f821407579f73e1b0c3097482c7a"), looks := true }, kinds := [], alts := [], laidByText := true, laidKinds := [.data, .pinned], laidTests := true, laidLooks := .later }
def UsersPrintsCardSaid : Prop := Claim7.holds Tryz.pinned (.plain (OpenSpec.ofChange usersPrintsSpec)) usersPrintsCard

/-- THE TIED CARD OF 'vergerlaw06.UsersEdits'. -/
def usersEditsCard : Claim7 := { stood := { row := usersEditsRow, standIns := [], harness := (true, "4c3ca00dc3fee41d5d54ca3d5fbee7aaf2a3f821407579f73e1b0c3097482c7a"), looks := true }, kinds := [], alts := [], laidByText := true, laidKinds := [.data, .pinned], laidTests := true, laidLooks := .later }
def UsersEditsCardSaid : Prop := Claim7.holds Tryz.pinned (.plain (OpenSpec.ofChange usersEditsSpec)) usersEditsCard

/-- THE SECOND FORM's CARD OF 'vergerlaw06.UsersReads'. -/
def usersReadsUptoCard : Claim7 := { stood := { row := usersReadsUptoRow, standIns := [], harness := (true, "4c3ca00dc3fee41d5d54ca3d5fbee7aaf2a3f821407579f73e1b0c3097482c7a"), looks := true }, kinds := [], alts := [], laidByText := true, laidKinds := [.data, .pinned], laidTests := true, laidLooks := .later }
def UsersReadsUptoCardSaid : Prop := Claim7.holds Tryz.pinned (.plain (OpenSpec.upto usersReadsSpec)) usersReadsUptoCard

/-- THE SECOND FORM's CARD OF 'vergerlaw06.UsersPrints'. -/
def usersPrintsUptoCard : Claim7 := { stood := { row := usersPrintsUptoRow, standIns := [], harness := (true, "4c3ca00dc3fee41d5d54ca3d5fbee7aaf2a3f821407579f73e1b0c3097482c7a"), looks := true }, kinds := [], alts := [], laidByText := true, laidKinds := [.data, .pinned], laidTests := true, laidLooks := .later }
def UsersPrintsUptoCardSaid : Prop := Claim7.holds Tryz.pinned (.plain (OpenSpec.upto usersPrintsSpec)) usersPrintsUptoCard

/-- THE SECOND FORM's CARD OF 'vergerlaw06.UsersEdits'. -/
def usersEditsUptoCard : Claim7 := { stood := { row := usersEditsUptoRow, standIns := [], harness := (true, "4c3ca00dc3fee41d5d54ca3d5fbee7aaf2a3f821407579f73e1b0c3097482c7a"), looks := true }, kinds := [], alts := [], laidByText := true, laidKinds := [.data, .pinned], laidTests := true, laidLooks := .later }
def UsersEditsUptoCardSaid : Prop := Claim7.holds Tryz.pinned (.plain (OpenSpec.upto usersEditsSpec)) usersEditsUptoCard
end Rows
end Go.Proofs.YtkijkoakloacoaaGreatDoor

/-
  DERIVED. GIVEN WITH THE SEED: THE CARDS: each row of YtkijkoakloacoaaDoorRows.lean that lists a variable, with what it lists TIED to the program's text (the seventh form; the later family's looks); each row that meets fmt, with fmt's text TOLD by the authors' own Lean function (tested against real Go, not proved from fmt's source: count such statements apart). THE CARD IS WHAT COUNTS. Prove the row's statement (the work); the ties are given (YtkijkoakloacoaaDoorTie.lean); close each card by the builder's one call (the guide's Derived/Test/ToyasCard.lean, 'card_holds'). Laid BY PROGRAM, IN A SANDBOX (cutbox-door.mjs). By AI agents, Wed Nov 11 2026. No macro, syntax, notation, axiom, sorry.
-/
import Derived.Test.YtkijkoakloacoaaDoorRows
import GoSem.ClaimSeven
namespace Go.Proofs.YtkijkoakloacoaaDoor
namespace Rows

/-- THE TIED CARD OF 'vergerlaw06.UsersNames'. -/
def usersNamesCard : Claim7 := { stood := { row := usersNamesRow, standIns := [], harness := (true, "2b43d947e7741243319cf31464fa86ed7c07fa4aca1f45b40adccfb481e4c71f"), looks := true }, kinds := [], alts := [], laidByText := true, laidKinds := [.data, .pinned], laidTests := true, laidLooks := .later }
def UsersNamesCardSaid : Prop := Claim7.holds Tryd.pinned (.plain (OpenSpec.ofChange usersNamesSpec)) usersNamesCard

/-- THE TIED CARD OF 'vergerlaw06.UsersBack'. -/
def usersBackCard : Claim7 := { stood := { row := usersBackRow, standIns := [], harness := (true, "2b43d947e7741243319cf31464fa86ed7c07fa4aca1f45b40adccfb481e4c71f"), looks := true }, kinds := [], alts := [], laidByText := true, laidKinds := [.data, .pinned], laidTests := true, laidLooks := .later }
def UsersBackCardSaid : Prop := Claim7.holds Tryd.pinned (.plain (OpenSpec.ofChange usersBackSpec)) usersBackCard

/-- THE TIED CARD OF 'vergerlaw06.UsersWalks'. -/
def usersWalksCard : Claim7 := { stood := { row := usersWalksRow, standIns := [], harness := (true, "2b43d947e7741243319cf31464fa86ed7c07fa4aca1f45b40adccfb481e4c71f"), looks := true }, kinds := [], alts := [], laidByText := true, laidKinds := [.data, .pinned], laidTests := true, laidLooks := .later }
def UsersWalksCardSaid : Prop := Claim7.holds Tryd.pinned (.plain (OpenSpec.ofChange usersWalksSpec)) usersWalksCard

/-- THE TIED CARD OF 'vergerlaw06.UsersGroups'. -/
def usersGroupsCard : Claim7 := { stood := { row := usersGroupsRow, standIns := [], harness := (true, "2b43d947e7741243319cf31464fa86ed7c07fa4aca1f45b40adccfb481e4c71f"), looks := true }, kinds := [], alts := [], laidByText := true, laidKinds := [.data, .pinned], laidTests := true, laidLooks := .later }
def UsersGroupsCardSaid : Prop := Claim7.holds Tryd.pinned (.plain (OpenSpec.ofChange usersGroupsSpec)) usersGroupsCard

/-- THE TIED CARD OF 'vergerlaw06.UsersOrder'. -/
def usersOrderCard : Claim7 := { stood := { row := usersOrderRow, standIns := [], harness := (true, "2b43d947e7741243319cf31464fa86ed7c07fa4aca1f45b40adccfb481e4c71f"), looks := true }, kinds := [], alts := [], laidByText := true, laidKinds := [.data, .pinned], laidTests := true, laidLooks := .later }
def UsersOrderCardSaid : Prop := Claim7.holds Tryd.pinned (.plain (OpenSpec.ofChange usersOrderSpec)) usersOrderCard

/-- THE TIED CARD OF 'vergerlaw06.UsersSilent'. -/
def usersSilentCard : Claim7 := { stood := { row := usersSilentRow, standIns := [], harness := (true, "2b43d947e7741243319cf31464fa86ed7c07fa4aca1f45b40adccfb481e4c71f"), looks := true }, kinds := [], alts := [], laidByText := true, laidKinds := [.data, .pinned], laidTests := true, laidLooks := .later }
def UsersSilentCardSaid : Prop := Claim7.holds Tryd.pinned (.plain (OpenSpec.ofChange usersSilentSpec)) usersSilentCard

/-- THE TIED CARD OF 'vergerlaw06.UsersUndo'. -/
def usersUndoCard : Claim7 := { stood := { row := usersUndoRow, standIns := [], harness := (true, "2b43d947e7741243319cf31464fa86ed7c07fa4aca1f45b40adccfb481e4c71f"), looks := true }, kinds := [], alts := [], laidByText := true, laidKinds := [.data, .pinned], laidTests := true, laidLooks := .later }
def UsersUndoCardSaid : Prop := Claim7.holds Tryd.pinned (.plain (OpenSpec.ofChange usersUndoSpec)) usersUndoCard

/-- THE SECOND FORM's CARD OF 'vergerlaw06.UsersNames'. -/
def usersNamesUptoCard : Claim7 := { stood := { row := usersNamesUptoRow, standIns := [], harness := (true, "2b43d947e7741243319cf31464fa86ed7c07fa4aca1f45b40adccfb481e4c71f"), looks := true }, kinds := [], alts := [], laidByText := true, laidKinds := [.data, .pinned], laidTests := true, laidLooks := .later }
def UsersNamesUptoCardSaid : Prop := Claim7.holds Tryd.pinned (.plain (OpenSpec.upto usersNamesSpec)) usersNamesUptoCard

/-- THE SECOND FORM's CARD OF 'vergerlaw06.UsersBack'. -/
def usersBackUptoCard : Claim7 := { stood := { row := usersBackUptoRow, standIns := [], harness := (true, "2b43d947e7741243319cf31464fa86ed7c07fa4aca1f45b40adccfb481e4c71f"), looks := true }, kinds := [], alts := [], laidByText := true, laidKinds := [.data, .pinned], laidTests := true, laidLooks := .later }
def UsersBackUptoCardSaid : Prop := Claim7.holds Tryd.pinned (.plain (OpenSpec.upto usersBackSpec)) usersBackUptoCard

/-- THE SECOND FORM's CARD OF 'vergerlaw06.UsersWalks'. -/
def usersWalksUptoCard : Claim7 := { stood := { row := usersWalksUptoRow, standIns := [], harness := (true, "2b43d947e7741243319cf31464fa86ed7c07fa4aca1f45b40adccfb481e4c71f"), looks := true }, kinds := [], alts := [], laidByText := true, laidKinds := [.data, .pinned], laidTests := true, laidLooks := .later }
def UsersWalksUptoCardSaid : Prop := Claim7.holds Tryd.pinned (.plain (OpenSpec.upto usersWalksSpec)) usersWalksUptoCard

/-- THE SECOND FORM's CARD OF 'vergerlaw06.UsersGroups'. -/
def usersGroupsUptoCard : Claim7 := { stood := { row := usersGroupsUptoRow, standIns := [], harness := (true, "2b43d947e7741243319cf31464fa86ed7c07fa4aca1f45b40adccfb481e4c71f"), looks := true }, kinds := [], alts := [], laidByText := true, laidKinds := [.data, .pinned], laidTests := true, laidLooks := .later }
def UsersGroupsUptoCardSaid : Prop := Claim7.holds Tryd.pinned (.plain (OpenSpec.upto usersGroupsSpec)) usersGroupsUptoCard

/-- THE SECOND FORM's CARD OF 'vergerlaw06.UsersOrder'. -/
def usersOrderUptoCard : Claim7 := { stood := { row := usersOrderUptoRow, standIns := [], harness := (true, "2b43d947e7741243319cf31464fa86ed7c07fa4aca1f45b40adccfb481e4c71f"), looks := true }, kinds := [], alts := [], laidByText := true, laidKinds := [.data, .pinned], laidTests := true, laidLooks := .later }
def UsersOrderUptoCardSaid : Prop := Claim7.holds Tryd.pinned (.plain (OpenSpec.upto usersOrderSpec)) usersOrderUptoCard

/-- THE SECOND FORM's CARD OF 'vergerlaw06.UsersSilent'. -/
def usersSilentUptoCard : Claim7 := { stood := { row := usersSilentUptoRow, standIns := [], harness := (true, "2b43d947e7741243319cf31464fa86ed7c07fa4aca1f45b40adccfb481e4c71f"), looks := true }, kinds := [], alts := [], laidByText := true, laidKinds := [.data, .pinned], laidTests := true, laidLooks := .later }
def UsersSilentUptoCardSaid : Prop := Claim7.holds Tryd.pinned (.plain (OpenSpec.upto usersSilentSpec)) usersSilentUptoCard

/-- THE SECOND FORM's CARD OF 'vergerlaw06.UsersUndo'. -/
def usersUndoUptoCard : Claim7 := { stood := { row := usersUndoUptoRow, standIns := [], harness := (true, "2b43d947e7741243319cf31464fa86ed7c07fa4aca1f45b40adccfb481e4c71f"), looks := true }, kinds := [], alts := [], laidByText := true, laidKinds := [.data, .pinned], laidTests := true, laidLooks := .later }
def UsersUndoUptoCardSaid : Prop := Claim7.holds Tryd.pinned (.plain (OpenSpec.upto usersUndoSpec)) usersUndoUptoCard
end Rows
end Go.Proofs.YtkijkoakloacoaaDoor

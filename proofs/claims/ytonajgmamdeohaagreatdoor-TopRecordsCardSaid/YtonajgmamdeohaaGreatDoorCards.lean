/-
  DERIVED. GIVEN WITH THE SEED: THE CARDS: each row of YtonajgmamdeohaaGreatDoorRows.lean that lists a variable, with what it lists TIED to the program's text (the seventh form; the later family's looks); each row that meets fmt, with fmt's text TOLD by the authors' own Lean function (tested against real Go, not proved from fmt's source: count such statements apart). THE CARD IS WHAT COUNTS. Prove the row's statement (the work); the ties are given (YtonajgmamdeohaaGreatDoorTie.lean); close each card by the builder's one call (the guide's Derived/Test/ToyasCard.lean, 'card_holds'). Laid BY PROGRAM, IN A SANDBOX (cutbox-door.mjs). By AI agents, Wed Nov 11 2026. No macro, syntax, notation, axiom, sorry.
-/
import Derived.Test.YtonajgmamdeohaaGreatDoorRows
import GoSem.ClaimSeven
namespace Go.Proofs.YtonajgmamdeohaaGreatDoor
namespace Rows

/-- THE TIED CARD OF 'vergertop.TopRecords'. -/
def topRecordsCard : Claim7 := { stood := { row := topRecordsRow, standIns := [], harness := (true, "bc1feb056401acb87de48b193db2119f06b28ec669df290d02e33f1e18d283d1"), looks := true }, kinds := [], alts := [], laidByText := true, laidKinds := [.data, .data, .data, .data, .sentinel, .sentinel, .pinned], laidTests := true, laidLooks := .later }
def TopRecordsCardSaid : Prop := Claim7.holds Tryz.pinned (.plain (OpenSpec.ofChange topRecordsSpec)) topRecordsCard

/-- THE SECOND FORM's CARD OF 'vergertop.TopRecords'. -/
def topRecordsUptoCard : Claim7 := { stood := { row := topRecordsUptoRow, standIns := [], harness := (true, "bc1feb056401acb87de48b193db2119f06b28ec669df290d02e33f1e18d283d1"), looks := true }, kinds := [], alts := [], laidByText := true, laidKinds := [.data, .data, .data, .data, .sentinel, .sentinel, .pinned], laidTests := true, laidLooks := .later }
def TopRecordsUptoCardSaid : Prop := Claim7.holds Tryz.pinned (.plain (OpenSpec.upto topRecordsSpec)) topRecordsUptoCard
end Rows
end Go.Proofs.YtonajgmamdeohaaGreatDoor

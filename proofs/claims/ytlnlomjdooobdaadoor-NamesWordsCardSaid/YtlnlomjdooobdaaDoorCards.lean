/-
  DERIVED. GIVEN WITH THE SEED: THE CARDS: each row of YtlnlomjdooobdaaDoorRows.lean that lists a variable, with what it lists TIED to the program's text (the seventh form; the later family's looks); each row that meets fmt, with fmt's text TOLD by the authors' own Lean function (tested against real Go, not proved from fmt's source: count such statements apart). THE CARD IS WHAT COUNTS. Prove the row's statement (the work); the ties are given (YtlnlomjdooobdaaDoorTie.lean); close each card by the builder's one call (the guide's Derived/Test/ToyasCard.lean, 'card_holds'). Laid BY PROGRAM, IN A SANDBOX (cutbox-door.mjs). By AI agents, Wed Nov 11 2026. No macro, syntax, notation, axiom, sorry.
-/
import Derived.Test.YtlnlomjdooobdaaDoorRows
import GoSem.ClaimSeven
namespace Go.Proofs.YtlnlomjdooobdaaDoor
namespace Rows

/-- THE TIED CARD OF 'vergerlaw05.NamesNumbers'. -/
def namesNumbersCard : Claim7 := { stood := { row := namesNumbersRow, standIns := [], harness := (true, "d1928db7b35baa1986f4fe52c53f30b78f8a7e7ebca2661d9f35c55a24a53102"), looks := true }, kinds := [], alts := [], laidByText := true, laidKinds := [.data, .pinned], laidTests := true, laidLooks := .later }
def NamesNumbersCardSaid : Prop := Claim7.holds Tryd.pinned (.plain (OpenSpec.ofChange namesNumbersSpec)) namesNumbersCard

/-- THE TIED CARD OF 'vergerlaw05.NamesLead'. -/
def namesLeadCard : Claim7 := { stood := { row := namesLeadRow, standIns := [], harness := (true, "d1928db7b35baa1986f4fe52c53f30b78f8a7e7ebca2661d9f35c55a24a53102"), looks := true }, kinds := [], alts := [], laidByText := true, laidKinds := [.data, .pinned], laidTests := true, laidLooks := .later }
def NamesLeadCardSaid : Prop := Claim7.holds Tryd.pinned (.plain (OpenSpec.ofChange namesLeadSpec)) namesLeadCard

/-- THE TIED CARD OF 'vergerlaw05.NamesBehind'. -/
def namesBehindCard : Claim7 := { stood := { row := namesBehindRow, standIns := [], harness := (true, "d1928db7b35baa1986f4fe52c53f30b78f8a7e7ebca2661d9f35c55a24a53102"), looks := true }, kinds := [], alts := [], laidByText := true, laidKinds := [.data, .pinned], laidTests := true, laidLooks := .later }
def NamesBehindCardSaid : Prop := Claim7.holds Tryd.pinned (.plain (OpenSpec.ofChange namesBehindSpec)) namesBehindCard

/-- THE TIED CARD OF 'vergerlaw05.NamesPlain'. -/
def namesPlainCard : Claim7 := { stood := { row := namesPlainRow, standIns := [], harness := (true, "d1928db7b35baa1986f4fe52c53f30b78f8a7e7ebca2661d9f35c55a24a53102"), looks := true }, kinds := [], alts := [], laidByText := true, laidKinds := [.data, .pinned], laidTests := true, laidLooks := .later }
def NamesPlainCardSaid : Prop := Claim7.holds Tryd.pinned (.plain (OpenSpec.ofChange namesPlainSpec)) namesPlainCard

/-- THE TIED CARD OF 'vergerlaw05.NamesClean'. -/
def namesCleanCard : Claim7 := { stood := { row := namesCleanRow, standIns := [], harness := (true, "d1928db7b35baa1986f4fe52c53f30b78f8a7e7ebca2661d9f35c55a24a53102"), looks := true }, kinds := [], alts := [], laidByText := true, laidKinds := [.data, .pinned], laidTests := true, laidLooks := .later }
def NamesCleanCardSaid : Prop := Claim7.holds Tryd.pinned (.plain (OpenSpec.ofChange namesCleanSpec)) namesCleanCard

/-- THE TIED CARD OF 'vergerlaw05.NamesUnder'. -/
def namesUnderCard : Claim7 := { stood := { row := namesUnderRow, standIns := [], harness := (true, "d1928db7b35baa1986f4fe52c53f30b78f8a7e7ebca2661d9f35c55a24a53102"), looks := true }, kinds := [], alts := [], laidByText := true, laidKinds := [.data, .pinned], laidTests := true, laidLooks := .later }
def NamesUnderCardSaid : Prop := Claim7.holds Tryd.pinned (.plain (OpenSpec.ofChange namesUnderSpec)) namesUnderCard

/-- THE TIED CARD OF 'vergerlaw05.NamesWords'. -/
def namesWordsCard : Claim7 := { stood := { row := namesWordsRow, standIns := [], harness := (true, "d1928db7b35baa1986f4fe52c53f30b78f8a7e7ebca2661d9f35c55a24a53102"), looks := true }, kinds := [], alts := [], laidByText := true, laidKinds := [.data, .pinned], laidTests := true, laidLooks := .later }
def NamesWordsCardSaid : Prop := Claim7.holds Tryd.pinned (.plain (OpenSpec.ofChange namesWordsSpec)) namesWordsCard

/-- THE SECOND FORM's CARD OF 'vergerlaw05.NamesNumbers'. -/
def namesNumbersUptoCard : Claim7 := { stood := { row := namesNumbersUptoRow, standIns := [], harness := (true, "d1928db7b35baa1986f4fe52c53f30b78f8a7e7ebca2661d9f35c55a24a53102"), looks := true }, kinds := [], alts := [], laidByText := true, laidKinds := [.data, .pinned], laidTests := true, laidLooks := .later }
def NamesNumbersUptoCardSaid : Prop := Claim7.holds Tryd.pinned (.plain (OpenSpec.upto namesNumbersSpec)) namesNumbersUptoCard

/-- THE SECOND FORM's CARD OF 'vergerlaw05.NamesLead'. -/
def namesLeadUptoCard : Claim7 := { stood := { row := namesLeadUptoRow, standIns := [], harness := (true, "d1928db7b35baa1986f4fe52c53f30b78f8a7e7ebca2661d9f35c55a24a53102"), looks := true }, kinds := [], alts := [], laidByText := true, laidKinds := [.data, .pinned], laidTests := true, laidLooks := .later }
def NamesLeadUptoCardSaid : Prop := Claim7.holds Tryd.pinned (.plain (OpenSpec.upto namesLeadSpec)) namesLeadUptoCard

/-- THE SECOND FORM's CARD OF 'vergerlaw05.NamesBehind'. -/
def namesBehindUptoCard : Claim7 := { stood := { row := namesBehindUptoRow, standIns := [], harness := (true, "d1928db7b35baa1986f4fe52c53f30b78f8a7e7ebca2661d9f35c55a24a53102"), looks := true }, kinds := [], alts := [], laidByText := true, laidKinds := [.data, .pinned], laidTests := true, laidLooks := .later }
def NamesBehindUptoCardSaid : Prop := Claim7.holds Tryd.pinned (.plain (OpenSpec.upto namesBehindSpec)) namesBehindUptoCard

/-- THE SECOND FORM's CARD OF 'vergerlaw05.NamesPlain'. -/
def namesPlainUptoCard : Claim7 := { stood := { row := namesPlainUptoRow, standIns := [], harness := (true, "d1928db7b35baa1986f4fe52c53f30b78f8a7e7ebca2661d9f35c55a24a53102"), looks := true }, kinds := [], alts := [], laidByText := true, laidKinds := [.data, .pinned], laidTests := true, laidLooks := .later }
def NamesPlainUptoCardSaid : Prop := Claim7.holds Tryd.pinned (.plain (OpenSpec.upto namesPlainSpec)) namesPlainUptoCard

/-- THE SECOND FORM's CARD OF 'vergerlaw05.NamesClean'. -/
def namesCleanUptoCard : Claim7 := { stood := { row := namesCleanUptoRow, standIns := [], harness := (true, "d1928db7b35baa1986f4fe52c53f30b78f8a7e7ebca2661d9f35c55a24a53102"), looks := true }, kinds := [], alts := [], laidByText := true, laidKinds := [.data, .pinned], laidTests := true, laidLooks := .later }
def NamesCleanUptoCardSaid : Prop := Claim7.holds Tryd.pinned (.plain (OpenSpec.upto namesCleanSpec)) namesCleanUptoCard

/-- THE SECOND FORM's CARD OF 'vergerlaw05.NamesUnder'. -/
def namesUnderUptoCard : Claim7 := { stood := { row := namesUnderUptoRow, standIns := [], harness := (true, "d1928db7b35baa1986f4fe52c53f30b78f8a7e7ebca2661d9f35c55a24a53102"), looks := true }, kinds := [], alts := [], laidByText := true, laidKinds := [.data, .pinned], laidTests := true, laidLooks := .later }
def NamesUnderUptoCardSaid : Prop := Claim7.holds Tryd.pinned (.plain (OpenSpec.upto namesUnderSpec)) namesUnderUptoCard

/-- THE SECOND FORM's CARD OF 'vergerlaw05.NamesWords'. -/
def namesWordsUptoCard : Claim7 := { stood := { row := namesWordsUptoRow, standIns := [], harness := (true, "d1928db7b35baa1986f4fe52c53f30b78f8a7e7ebca2661d9f35c55a24a53102"), looks := true }, kinds := [], alts := [], laidByText := true, laidKinds := [.data, .pinned], laidTests := true, laidLooks := .later }
def NamesWordsUptoCardSaid : Prop := Claim7.holds Tryd.pinned (.plain (OpenSpec.upto namesWordsSpec)) namesWordsUptoCard
end Rows
end Go.Proofs.YtlnlomjdooobdaaDoor

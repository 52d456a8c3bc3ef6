/-
  NARROWER THAN 'FOR EVERY INPUT', by the rows' own cells (each row's printed sentence says how): NamesNumbers: laid · NamesLead: laid · NamesBehind: laid · NamesPlain: laid · NamesClean: laid · NamesUnder: laid · NamesWords: laid.
  DERIVED. THE GIVEN ROWS OF THIS SEAT. 7 by the template 'for every input the law returns true; each argument reads behind the call as it read before'; 0 by the template 'total and deterministic' (their statements: YtlnlomjdooobdaaDoorTotals.lean).
  GIVEN WITH THE SEED: the statements are not yours to turn. If you find one false, say at which input.
  Laid BY PROGRAM, IN A SANDBOX (cutbox-rows.mjs): the forced cells as the released guide's own fill.sh prints them over the translation f4258199fe241cd3… (all of the seat's roots in one cut). By AI agents, Wed Nov 11 2026. No macro, syntax, notation, axiom, sorry.
-/
import Derived.Test.YtlnlomjdooobdaaDoorChecked
import GoSem.PinnedTables
import GoSem.Claim
import GoSem.ClaimJoined
import GoSem.ClaimMapViews
import Derived.JoinedTies
import Derived.KernelRfl
namespace Go.Proofs.YtlnlomjdooobdaaDoor
/- THE CELL 'sum', in the pinned program and in every row, IS THE sha256 OF THE DUMP (.gsa) THAT YtlnlomjdooobdaaDoorProg.lean LOADS. Nothing in Lean hashes anything: it is a label: what it is worth is what the hold of that sum in a sandbox is worth. -/
noncomputable def Tryd.pinned : Pinned := { name := "ytlnlomjdooobdaadoor", sum := "f4258199fe241cd393799b4fd0e6852a1aeb40571fbc49e03541c1387dc608d8", checked := Tryd.checked }
namespace Rows
def none {H : Type} : Left H := { results := [], args := [] }

/- WHAT THE LISTED PACKAGE-LEVEL VARIABLES READ AS WHEN THE CALL BEGINS. Each datum BY PROGRAM (the guide's laid-datum.mjs) off the statement by which the dump's own 'gosem.cut.vars' lays the variable. In a bare row this is a premise. The card (YtlnlomjdooobdaaDoorCards.lean) ties it to the program's text. -/
def laid_unicode_utf8_acceptRanges {H : Type} : DataW H := .agg [.agg [.lit (.int .u8 128), .lit (.int .u8 191)], .agg [.lit (.int .u8 160), .lit (.int .u8 191)], .agg [.lit (.int .u8 128), .lit (.int .u8 159)], .agg [.lit (.int .u8 144), .lit (.int .u8 191)], .agg [.lit (.int .u8 128), .lit (.int .u8 143)], .agg [.lit (.int .u8 0), .lit (.int .u8 0)], .agg [.lit (.int .u8 0), .lit (.int .u8 0)], .agg [.lit (.int .u8 0), .lit (.int .u8 0)], .agg [.lit (.int .u8 0), .lit (.int .u8 0)], .agg [.lit (.int .u8 0), .lit (.int .u8 0)], .agg [.lit (.int .u8 0), .lit (.int .u8 0)], .agg [.lit (.int .u8 0), .lit (.int .u8 0)], .agg [.lit (.int .u8 0), .lit (.int .u8 0)], .agg [.lit (.int .u8 0), .lit (.int .u8 0)], .agg [.lit (.int .u8 0), .lit (.int .u8 0)], .agg [.lit (.int .u8 0), .lit (.int .u8 0)]]
/-- One of Go's own tables, pinned by name: the form's constant. -/
def laid_unicode_utf8_first : DataW Unit := Go.Pinned.utf8First

/-- 'vergerlaw05.NamesNumbers': WHATEVER THE INPUT: true; the input reads as it did. -/
def namesNumbersSpec : ChangeSpec := { name := "namesNumbers", fn := fun _ => fun
  | [] => { results := [.lit (.bool true)], args := [] }
  | _ => none }
def namesNumbersRow : OpenClaim := { program := "ytlnlomjdooobdaadoor", sum := "f4258199fe241cd393799b4fd0e6852a1aeb40571fbc49e03541c1387dc608d8", func := "verger/vergerlaw05.NamesNumbers", spec := "namesNumbers", inPlace := ["internal/bytealg.CountString", "internal/bytealg.IndexByteString", "internal/bytealg.IndexString", "internal/abi.NoEscape", "internal/bytealg.MakeNoZero"], unfollowed := true, recurses := true, named := ["unicode/utf8.first", "unicode/utf8.acceptRanges", "internal/bytealg.MaxLen"], apart := false, laid := [("unicode/utf8.acceptRanges", laid_unicode_utf8_acceptRanges), ("unicode/utf8.first", laid_unicode_utf8_first)] }
def NamesNumbersSaid : Prop := namesNumbersRow.holds Tryd.pinned (OpenSpec.ofChange namesNumbersSpec)

/-- ITS FALSE NEIGHBOUR: 'it returns false'. Refute it at one input. -/
def namesNumbersWrong : ChangeSpec := { name := "namesNumbers", fn := fun _ => fun
  | [] => { results := [.lit (.bool false)], args := [] }
  | _ => none }
def NamesNumbersWrongFalsely : Prop := namesNumbersRow.holds Tryd.pinned (OpenSpec.ofChange namesNumbersWrong)

/-- 'vergerlaw05.NamesLead': WHATEVER THE INPUT: true; the input reads as it did. -/
def namesLeadSpec : ChangeSpec := { name := "namesLead", fn := fun _ => fun
  | [d1, d2, d3] => { results := [.lit (.bool true)], args := [d1, d2, d3] }
  | _ => none }
def namesLeadRow : OpenClaim := { program := "ytlnlomjdooobdaadoor", sum := "f4258199fe241cd393799b4fd0e6852a1aeb40571fbc49e03541c1387dc608d8", func := "verger/vergerlaw05.NamesLead", spec := "namesLead", inPlace := ["internal/bytealg.CountString", "internal/bytealg.IndexByteString", "internal/bytealg.IndexString", "internal/abi.NoEscape", "internal/bytealg.MakeNoZero"], unfollowed := true, recurses := true, named := ["unicode/utf8.first", "unicode/utf8.acceptRanges", "internal/bytealg.MaxLen"], apart := false, laid := [("unicode/utf8.acceptRanges", laid_unicode_utf8_acceptRanges), ("unicode/utf8.first", laid_unicode_utf8_first)] }
def NamesLeadSaid : Prop := namesLeadRow.holds Tryd.pinned (OpenSpec.ofChange namesLeadSpec)

/-- ITS FALSE NEIGHBOUR: 'it returns false'. Refute it at one input. -/
def namesLeadWrong : ChangeSpec := { name := "namesLead", fn := fun _ => fun
  | [d1, d2, d3] => { results := [.lit (.bool false)], args := [d1, d2, d3] }
  | _ => none }
def NamesLeadWrongFalsely : Prop := namesLeadRow.holds Tryd.pinned (OpenSpec.ofChange namesLeadWrong)

/-- 'vergerlaw05.NamesBehind': WHATEVER THE INPUT: true; the input reads as it did. -/
def namesBehindSpec : ChangeSpec := { name := "namesBehind", fn := fun _ => fun
  | [d1, d2, d3, d4] => { results := [.lit (.bool true)], args := [d1, d2, d3, d4] }
  | _ => none }
def namesBehindRow : OpenClaim := { program := "ytlnlomjdooobdaadoor", sum := "f4258199fe241cd393799b4fd0e6852a1aeb40571fbc49e03541c1387dc608d8", func := "verger/vergerlaw05.NamesBehind", spec := "namesBehind", inPlace := ["internal/bytealg.CountString", "internal/bytealg.IndexByteString", "internal/bytealg.IndexString", "internal/abi.NoEscape", "internal/bytealg.MakeNoZero"], unfollowed := true, recurses := true, named := ["unicode/utf8.first", "unicode/utf8.acceptRanges", "internal/bytealg.MaxLen"], apart := false, laid := [("unicode/utf8.acceptRanges", laid_unicode_utf8_acceptRanges), ("unicode/utf8.first", laid_unicode_utf8_first)] }
def NamesBehindSaid : Prop := namesBehindRow.holds Tryd.pinned (OpenSpec.ofChange namesBehindSpec)

/-- ITS FALSE NEIGHBOUR: 'it returns false'. Refute it at one input. -/
def namesBehindWrong : ChangeSpec := { name := "namesBehind", fn := fun _ => fun
  | [d1, d2, d3, d4] => { results := [.lit (.bool false)], args := [d1, d2, d3, d4] }
  | _ => none }
def NamesBehindWrongFalsely : Prop := namesBehindRow.holds Tryd.pinned (OpenSpec.ofChange namesBehindWrong)

/-- 'vergerlaw05.NamesPlain': WHATEVER THE INPUT: true; the input reads as it did. -/
def namesPlainSpec : ChangeSpec := { name := "namesPlain", fn := fun _ => fun
  | [d1, d2] => { results := [.lit (.bool true)], args := [d1, d2] }
  | _ => none }
def namesPlainRow : OpenClaim := { program := "ytlnlomjdooobdaadoor", sum := "f4258199fe241cd393799b4fd0e6852a1aeb40571fbc49e03541c1387dc608d8", func := "verger/vergerlaw05.NamesPlain", spec := "namesPlain", inPlace := ["internal/bytealg.CountString", "internal/bytealg.IndexByteString", "internal/bytealg.IndexString", "internal/abi.NoEscape", "internal/bytealg.MakeNoZero"], unfollowed := true, recurses := true, named := ["unicode/utf8.first", "unicode/utf8.acceptRanges", "internal/bytealg.MaxLen"], apart := false, laid := [("unicode/utf8.acceptRanges", laid_unicode_utf8_acceptRanges), ("unicode/utf8.first", laid_unicode_utf8_first)] }
def NamesPlainSaid : Prop := namesPlainRow.holds Tryd.pinned (OpenSpec.ofChange namesPlainSpec)

/-- ITS FALSE NEIGHBOUR: 'it returns false'. Refute it at one input. -/
def namesPlainWrong : ChangeSpec := { name := "namesPlain", fn := fun _ => fun
  | [d1, d2] => { results := [.lit (.bool false)], args := [d1, d2] }
  | _ => none }
def NamesPlainWrongFalsely : Prop := namesPlainRow.holds Tryd.pinned (OpenSpec.ofChange namesPlainWrong)

/-- 'vergerlaw05.NamesClean': WHATEVER THE INPUT: true; the input reads as it did. -/
def namesCleanSpec : ChangeSpec := { name := "namesClean", fn := fun _ => fun
  | [d] => { results := [.lit (.bool true)], args := [d] }
  | _ => none }
def namesCleanRow : OpenClaim := { program := "ytlnlomjdooobdaadoor", sum := "f4258199fe241cd393799b4fd0e6852a1aeb40571fbc49e03541c1387dc608d8", func := "verger/vergerlaw05.NamesClean", spec := "namesClean", inPlace := ["internal/bytealg.CountString", "internal/bytealg.IndexByteString", "internal/bytealg.IndexString", "internal/abi.NoEscape", "internal/bytealg.MakeNoZero"], unfollowed := true, recurses := true, named := ["unicode/utf8.first", "unicode/utf8.acceptRanges", "internal/bytealg.MaxLen"], apart := false, laid := [("unicode/utf8.acceptRanges", laid_unicode_utf8_acceptRanges), ("unicode/utf8.first", laid_unicode_utf8_first)] }
def NamesCleanSaid : Prop := namesCleanRow.holds Tryd.pinned (OpenSpec.ofChange namesCleanSpec)

/-- ITS FALSE NEIGHBOUR: 'it returns false'. Refute it at one input. -/
def namesCleanWrong : ChangeSpec := { name := "namesClean", fn := fun _ => fun
  | [d] => { results := [.lit (.bool false)], args := [d] }
  | _ => none }
def NamesCleanWrongFalsely : Prop := namesCleanRow.holds Tryd.pinned (OpenSpec.ofChange namesCleanWrong)

/-- 'vergerlaw05.NamesUnder': WHATEVER THE INPUT: true; the input reads as it did. -/
def namesUnderSpec : ChangeSpec := { name := "namesUnder", fn := fun _ => fun
  | [d1, d2, d3] => { results := [.lit (.bool true)], args := [d1, d2, d3] }
  | _ => none }
def namesUnderRow : OpenClaim := { program := "ytlnlomjdooobdaadoor", sum := "f4258199fe241cd393799b4fd0e6852a1aeb40571fbc49e03541c1387dc608d8", func := "verger/vergerlaw05.NamesUnder", spec := "namesUnder", inPlace := ["internal/bytealg.CountString", "internal/bytealg.IndexByteString", "internal/bytealg.IndexString", "internal/abi.NoEscape", "internal/bytealg.MakeNoZero"], unfollowed := true, recurses := true, named := ["unicode/utf8.first", "unicode/utf8.acceptRanges", "internal/bytealg.MaxLen"], apart := false, laid := [("unicode/utf8.acceptRanges", laid_unicode_utf8_acceptRanges), ("unicode/utf8.first", laid_unicode_utf8_first)] }
def NamesUnderSaid : Prop := namesUnderRow.holds Tryd.pinned (OpenSpec.ofChange namesUnderSpec)

/-- ITS FALSE NEIGHBOUR: 'it returns false'. Refute it at one input. -/
def namesUnderWrong : ChangeSpec := { name := "namesUnder", fn := fun _ => fun
  | [d1, d2, d3] => { results := [.lit (.bool false)], args := [d1, d2, d3] }
  | _ => none }
def NamesUnderWrongFalsely : Prop := namesUnderRow.holds Tryd.pinned (OpenSpec.ofChange namesUnderWrong)

/-- 'vergerlaw05.NamesWords': WHATEVER THE INPUT: true; the input reads as it did. -/
def namesWordsSpec : ChangeSpec := { name := "namesWords", fn := fun _ => fun
  | [d1, d2] => { results := [.lit (.bool true)], args := [d1, d2] }
  | _ => none }
def namesWordsRow : OpenClaim := { program := "ytlnlomjdooobdaadoor", sum := "f4258199fe241cd393799b4fd0e6852a1aeb40571fbc49e03541c1387dc608d8", func := "verger/vergerlaw05.NamesWords", spec := "namesWords", inPlace := ["internal/bytealg.CountString", "internal/bytealg.IndexByteString", "internal/bytealg.IndexString", "internal/abi.NoEscape", "internal/bytealg.MakeNoZero"], unfollowed := true, recurses := true, named := ["unicode/utf8.first", "unicode/utf8.acceptRanges", "internal/bytealg.MaxLen"], apart := false, laid := [("unicode/utf8.acceptRanges", laid_unicode_utf8_acceptRanges), ("unicode/utf8.first", laid_unicode_utf8_first)] }
def NamesWordsSaid : Prop := namesWordsRow.holds Tryd.pinned (OpenSpec.ofChange namesWordsSpec)

/-- ITS FALSE NEIGHBOUR: 'it returns false'. Refute it at one input. -/
def namesWordsWrong : ChangeSpec := { name := "namesWords", fn := fun _ => fun
  | [d1, d2] => { results := [.lit (.bool false)], args := [d1, d2] }
  | _ => none }
def NamesWordsWrongFalsely : Prop := namesWordsRow.holds Tryd.pinned (OpenSpec.ofChange namesWordsWrong)

/- THE SECOND FORM. 'bulk': how many values and letters a reading holds, each counted each time it is reached (what is shared counts as often as it is met; a slice's spare places count too). A statement '..UptoSaid' is the law's where the arguments, and the package variables that the reading takes, are together of bulk at most 1048576: NARROWER than '..Said'. Prove '..Said' where nothing that the law and all that it calls make is longer than what came in: it says more and counts as full. Else prove '..UptoSaid'. A law counts once. -/
mutual
def uptoBulk {H : Type} : DataW H → Nat
  | .lit (.string bytes) => bytes.length + 1
  | .lit _ => 1
  | .nil => 1
  | .ptr d => uptoBulk d + 1
  | .slice elems spare => uptoBulkAll elems + uptoBulkAll spare + 1
  | .agg parts => uptoBulkAll parts + 1
  | .iface _ d => uptoBulk d + 1
  | .map entries => uptoBulkEntries entries + 1
  | .held _ => 1
def uptoBulkAll {H : Type} : List (DataW H) → Nat
  | [] => 0
  | d :: r => uptoBulk d + uptoBulkAll r
def uptoBulkEntries {H : Type} : List (Lit × DataW H) → Nat
  | [] => 0
  | x :: r => uptoBulkEntry x + uptoBulkEntries r
def uptoBulkEntry {H : Type} : Lit × DataW H → Nat
  | (.string bytes, d) => bytes.length + uptoBulk d + 1
  | (_, d) => uptoBulk d + 1
 end
def uptoSmall : (H : Type) → List (DataW H) → Bool := fun _ ds => decide (uptoBulkAll ds ≤ 1048576)
def OpenSpec.upto (s : _root_.Go.ChangeSpec) : _root_.Go.OpenSpec := { _root_.Go.OpenSpec.ofChange s with cond := some uptoSmall }

/-- 'vergerlaw05.NamesNumbers', WHERE WHAT IT READS IS OF BULK AT MOST 1048576: true; the input reads as it did. -/
def namesNumbersUptoRow : OpenClaim := { program := "ytlnlomjdooobdaadoor", sum := "f4258199fe241cd393799b4fd0e6852a1aeb40571fbc49e03541c1387dc608d8", func := "verger/vergerlaw05.NamesNumbers", spec := "namesNumbers", inPlace := ["internal/bytealg.CountString", "internal/bytealg.IndexByteString", "internal/bytealg.IndexString", "internal/abi.NoEscape", "internal/bytealg.MakeNoZero"], unfollowed := true, recurses := true, named := ["unicode/utf8.first", "unicode/utf8.acceptRanges", "internal/bytealg.MaxLen"], apart := false, laid := [("unicode/utf8.acceptRanges", laid_unicode_utf8_acceptRanges), ("unicode/utf8.first", laid_unicode_utf8_first)], narrowed := true }
def NamesNumbersUptoSaid : Prop := namesNumbersUptoRow.holds Tryd.pinned (OpenSpec.upto namesNumbersSpec)

/-- 'vergerlaw05.NamesLead', WHERE WHAT IT READS IS OF BULK AT MOST 1048576: true; the input reads as it did. -/
def namesLeadUptoRow : OpenClaim := { program := "ytlnlomjdooobdaadoor", sum := "f4258199fe241cd393799b4fd0e6852a1aeb40571fbc49e03541c1387dc608d8", func := "verger/vergerlaw05.NamesLead", spec := "namesLead", inPlace := ["internal/bytealg.CountString", "internal/bytealg.IndexByteString", "internal/bytealg.IndexString", "internal/abi.NoEscape", "internal/bytealg.MakeNoZero"], unfollowed := true, recurses := true, named := ["unicode/utf8.first", "unicode/utf8.acceptRanges", "internal/bytealg.MaxLen"], apart := false, laid := [("unicode/utf8.acceptRanges", laid_unicode_utf8_acceptRanges), ("unicode/utf8.first", laid_unicode_utf8_first)], narrowed := true }
def NamesLeadUptoSaid : Prop := namesLeadUptoRow.holds Tryd.pinned (OpenSpec.upto namesLeadSpec)

/-- 'vergerlaw05.NamesBehind', WHERE WHAT IT READS IS OF BULK AT MOST 1048576: true; the input reads as it did. -/
def namesBehindUptoRow : OpenClaim := { program := "ytlnlomjdooobdaadoor", sum := "f4258199fe241cd393799b4fd0e6852a1aeb40571fbc49e03541c1387dc608d8", func := "verger/vergerlaw05.NamesBehind", spec := "namesBehind", inPlace := ["internal/bytealg.CountString", "internal/bytealg.IndexByteString", "internal/bytealg.IndexString", "internal/abi.NoEscape", "internal/bytealg.MakeNoZero"], unfollowed := true, recurses := true, named := ["unicode/utf8.first", "unicode/utf8.acceptRanges", "internal/bytealg.MaxLen"], apart := false, laid := [("unicode/utf8.acceptRanges", laid_unicode_utf8_acceptRanges), ("unicode/utf8.first", laid_unicode_utf8_first)], narrowed := true }
def NamesBehindUptoSaid : Prop := namesBehindUptoRow.holds Tryd.pinned (OpenSpec.upto namesBehindSpec)

/-- 'vergerlaw05.NamesPlain', WHERE WHAT IT READS IS OF BULK AT MOST 1048576: true; the input reads as it did. -/
def namesPlainUptoRow : OpenClaim := { program := "ytlnlomjdooobdaadoor", sum := "f4258199fe241cd393799b4fd0e6852a1aeb40571fbc49e03541c1387dc608d8", func := "verger/vergerlaw05.NamesPlain", spec := "namesPlain", inPlace := ["internal/bytealg.CountString", "internal/bytealg.IndexByteString", "internal/bytealg.IndexString", "internal/abi.NoEscape", "internal/bytealg.MakeNoZero"], unfollowed := true, recurses := true, named := ["unicode/utf8.first", "unicode/utf8.acceptRanges", "internal/bytealg.MaxLen"], apart := false, laid := [("unicode/utf8.acceptRanges", laid_unicode_utf8_acceptRanges), ("unicode/utf8.first", laid_unicode_utf8_first)], narrowed := true }
def NamesPlainUptoSaid : Prop := namesPlainUptoRow.holds Tryd.pinned (OpenSpec.upto namesPlainSpec)

/-- 'vergerlaw05.NamesClean', WHERE WHAT IT READS IS OF BULK AT MOST 1048576: true; the input reads as it did. -/
def namesCleanUptoRow : OpenClaim := { program := "ytlnlomjdooobdaadoor", sum := "f4258199fe241cd393799b4fd0e6852a1aeb40571fbc49e03541c1387dc608d8", func := "verger/vergerlaw05.NamesClean", spec := "namesClean", inPlace := ["internal/bytealg.CountString", "internal/bytealg.IndexByteString", "internal/bytealg.IndexString", "internal/abi.NoEscape", "internal/bytealg.MakeNoZero"], unfollowed := true, recurses := true, named := ["unicode/utf8.first", "unicode/utf8.acceptRanges", "internal/bytealg.MaxLen"], apart := false, laid := [("unicode/utf8.acceptRanges", laid_unicode_utf8_acceptRanges), ("unicode/utf8.first", laid_unicode_utf8_first)], narrowed := true }
def NamesCleanUptoSaid : Prop := namesCleanUptoRow.holds Tryd.pinned (OpenSpec.upto namesCleanSpec)

/-- 'vergerlaw05.NamesUnder', WHERE WHAT IT READS IS OF BULK AT MOST 1048576: true; the input reads as it did. -/
def namesUnderUptoRow : OpenClaim := { program := "ytlnlomjdooobdaadoor", sum := "f4258199fe241cd393799b4fd0e6852a1aeb40571fbc49e03541c1387dc608d8", func := "verger/vergerlaw05.NamesUnder", spec := "namesUnder", inPlace := ["internal/bytealg.CountString", "internal/bytealg.IndexByteString", "internal/bytealg.IndexString", "internal/abi.NoEscape", "internal/bytealg.MakeNoZero"], unfollowed := true, recurses := true, named := ["unicode/utf8.first", "unicode/utf8.acceptRanges", "internal/bytealg.MaxLen"], apart := false, laid := [("unicode/utf8.acceptRanges", laid_unicode_utf8_acceptRanges), ("unicode/utf8.first", laid_unicode_utf8_first)], narrowed := true }
def NamesUnderUptoSaid : Prop := namesUnderUptoRow.holds Tryd.pinned (OpenSpec.upto namesUnderSpec)

/-- 'vergerlaw05.NamesWords', WHERE WHAT IT READS IS OF BULK AT MOST 1048576: true; the input reads as it did. -/
def namesWordsUptoRow : OpenClaim := { program := "ytlnlomjdooobdaadoor", sum := "f4258199fe241cd393799b4fd0e6852a1aeb40571fbc49e03541c1387dc608d8", func := "verger/vergerlaw05.NamesWords", spec := "namesWords", inPlace := ["internal/bytealg.CountString", "internal/bytealg.IndexByteString", "internal/bytealg.IndexString", "internal/abi.NoEscape", "internal/bytealg.MakeNoZero"], unfollowed := true, recurses := true, named := ["unicode/utf8.first", "unicode/utf8.acceptRanges", "internal/bytealg.MaxLen"], apart := false, laid := [("unicode/utf8.acceptRanges", laid_unicode_utf8_acceptRanges), ("unicode/utf8.first", laid_unicode_utf8_first)], narrowed := true }
def NamesWordsUptoSaid : Prop := namesWordsUptoRow.holds Tryd.pinned (OpenSpec.upto namesWordsSpec)

end Rows
end Go.Proofs.YtlnlomjdooobdaaDoor

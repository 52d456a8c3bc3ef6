/-
  NARROWER THAN 'FOR EVERY INPUT', by the rows' own cells (each row's printed sentence says how): UsersNames: laid · UsersBack: laid · UsersWalks: laid · UsersGroups: laid · UsersOrder: laid · UsersSilent: laid · UsersUndo: laid.
  DERIVED. THE GIVEN ROWS OF THIS SEAT. 7 by the template 'for every input the law returns true; each argument reads behind the call as it read before'; 0 by the template 'total and deterministic' (their statements: YtkijkoakloacoaaDoorTotals.lean).
  GIVEN WITH THE SEED: the statements are not yours to turn. If you find one false, say at which input.
  Laid BY PROGRAM, IN A SANDBOX (cutbox-rows.mjs): the forced cells as the released guide's own fill.sh prints them over the translation 3fd674caeaf9e318… (all of the seat's roots in one cut). By AI agents, Wed Nov 11 2026. No macro, syntax, notation, axiom, sorry.
-/
import Derived.Test.YtkijkoakloacoaaDoorChecked
import GoSem.PinnedTables
import GoSem.Claim
import GoSem.ClaimJoined
import GoSem.ClaimMapViews
import Derived.JoinedTies
import Derived.KernelRfl
namespace Go.Proofs.YtkijkoakloacoaaDoor
/- THE CELL 'sum', in the pinned program and in every row, IS THE sha256 OF THE DUMP (.gsa) THAT YtkijkoakloacoaaDoorProg.lean LOADS. Nothing in Lean hashes anything: it is a label: what it is worth is what the hold of that sum in a sandbox is worth. -/
noncomputable def Tryd.pinned : Pinned := { name := "ytkijkoakloacoaadoor", sum := "3fd674caeaf9e3181f91cfa6088eea74cd11fce9ce801ef844a06dacae3c9c37", checked := Tryd.checked }
namespace Rows
def none {H : Type} : Left H := { results := [], args := [] }

/- WHAT THE LISTED PACKAGE-LEVEL VARIABLES READ AS WHEN THE CALL BEGINS. Each datum BY PROGRAM (the guide's laid-datum.mjs) off the statement by which the dump's own 'gosem.cut.vars' lays the variable. In a bare row this is a premise. The card (YtkijkoakloacoaaDoorCards.lean) ties it to the program's text. -/
def laid_unicode_utf8_acceptRanges {H : Type} : DataW H := .agg [.agg [.lit (.int .u8 128), .lit (.int .u8 191)], .agg [.lit (.int .u8 160), .lit (.int .u8 191)], .agg [.lit (.int .u8 128), .lit (.int .u8 159)], .agg [.lit (.int .u8 144), .lit (.int .u8 191)], .agg [.lit (.int .u8 128), .lit (.int .u8 143)], .agg [.lit (.int .u8 0), .lit (.int .u8 0)], .agg [.lit (.int .u8 0), .lit (.int .u8 0)], .agg [.lit (.int .u8 0), .lit (.int .u8 0)], .agg [.lit (.int .u8 0), .lit (.int .u8 0)], .agg [.lit (.int .u8 0), .lit (.int .u8 0)], .agg [.lit (.int .u8 0), .lit (.int .u8 0)], .agg [.lit (.int .u8 0), .lit (.int .u8 0)], .agg [.lit (.int .u8 0), .lit (.int .u8 0)], .agg [.lit (.int .u8 0), .lit (.int .u8 0)], .agg [.lit (.int .u8 0), .lit (.int .u8 0)], .agg [.lit (.int .u8 0), .lit (.int .u8 0)]]
/-- One of Go's own tables, pinned by name: the form's constant. -/
def laid_unicode_utf8_first : DataW Unit := Go.Pinned.utf8First

/-- 'vergerlaw06.UsersNames': WHATEVER THE INPUT: true; the input reads as it did. -/
def usersNamesSpec : ChangeSpec := { name := "usersNames", fn := fun _ => fun
  | [] => { results := [.lit (.bool true)], args := [] }
  | _ => none }
def usersNamesRow : OpenClaim := { program := "ytkijkoakloacoaadoor", sum := "3fd674caeaf9e3181f91cfa6088eea74cd11fce9ce801ef844a06dacae3c9c37", func := "verger/vergerlaw06.UsersNames", spec := "usersNames", inPlace := ["internal/bytealg.CountString", "internal/bytealg.IndexByteString", "internal/bytealg.IndexString", "internal/abi.NoEscape", "internal/bytealg.MakeNoZero"], unfollowed := true, recurses := true, named := ["unicode/utf8.first", "unicode/utf8.acceptRanges", "internal/bytealg.MaxLen"], plainKeys := false, apart := false, laid := [("unicode/utf8.acceptRanges", laid_unicode_utf8_acceptRanges), ("unicode/utf8.first", laid_unicode_utf8_first)] }
def UsersNamesSaid : Prop := usersNamesRow.holds Tryd.pinned (OpenSpec.ofChange usersNamesSpec)

/-- ITS FALSE NEIGHBOUR: 'it returns false'. Refute it at one input. -/
def usersNamesWrong : ChangeSpec := { name := "usersNames", fn := fun _ => fun
  | [] => { results := [.lit (.bool false)], args := [] }
  | _ => none }
def UsersNamesWrongFalsely : Prop := usersNamesRow.holds Tryd.pinned (OpenSpec.ofChange usersNamesWrong)

/-- 'vergerlaw06.UsersBack': WHATEVER THE INPUT: true; the input reads as it did. -/
def usersBackSpec : ChangeSpec := { name := "usersBack", fn := fun _ => fun
  | [d] => { results := [.lit (.bool true)], args := [d] }
  | _ => none }
def usersBackRow : OpenClaim := { program := "ytkijkoakloacoaadoor", sum := "3fd674caeaf9e3181f91cfa6088eea74cd11fce9ce801ef844a06dacae3c9c37", func := "verger/vergerlaw06.UsersBack", spec := "usersBack", inPlace := ["internal/bytealg.CountString", "internal/bytealg.IndexByteString", "internal/bytealg.IndexString", "internal/abi.NoEscape", "internal/bytealg.MakeNoZero"], unfollowed := true, recurses := true, named := ["unicode/utf8.first", "unicode/utf8.acceptRanges", "internal/bytealg.MaxLen"], plainKeys := false, apart := false, laid := [("unicode/utf8.acceptRanges", laid_unicode_utf8_acceptRanges), ("unicode/utf8.first", laid_unicode_utf8_first)] }
def UsersBackSaid : Prop := usersBackRow.holds Tryd.pinned (OpenSpec.ofChange usersBackSpec)

/-- ITS FALSE NEIGHBOUR: 'it returns false'. Refute it at one input. -/
def usersBackWrong : ChangeSpec := { name := "usersBack", fn := fun _ => fun
  | [d] => { results := [.lit (.bool false)], args := [d] }
  | _ => none }
def UsersBackWrongFalsely : Prop := usersBackRow.holds Tryd.pinned (OpenSpec.ofChange usersBackWrong)

/-- 'vergerlaw06.UsersWalks': WHATEVER THE INPUT: true; the input reads as it did. -/
def usersWalksSpec : ChangeSpec := { name := "usersWalks", fn := fun _ => fun
  | [d1, d2] => { results := [.lit (.bool true)], args := [d1, d2] }
  | _ => none }
def usersWalksRow : OpenClaim := { program := "ytkijkoakloacoaadoor", sum := "3fd674caeaf9e3181f91cfa6088eea74cd11fce9ce801ef844a06dacae3c9c37", func := "verger/vergerlaw06.UsersWalks", spec := "usersWalks", inPlace := ["internal/bytealg.CountString", "internal/bytealg.IndexByteString", "internal/bytealg.IndexString", "internal/abi.NoEscape", "internal/bytealg.MakeNoZero"], unfollowed := true, recurses := true, named := ["unicode/utf8.first", "unicode/utf8.acceptRanges", "internal/bytealg.MaxLen"], plainKeys := false, apart := false, laid := [("unicode/utf8.acceptRanges", laid_unicode_utf8_acceptRanges), ("unicode/utf8.first", laid_unicode_utf8_first)] }
def UsersWalksSaid : Prop := usersWalksRow.holds Tryd.pinned (OpenSpec.ofChange usersWalksSpec)

/-- ITS FALSE NEIGHBOUR: 'it returns false'. Refute it at one input. -/
def usersWalksWrong : ChangeSpec := { name := "usersWalks", fn := fun _ => fun
  | [d1, d2] => { results := [.lit (.bool false)], args := [d1, d2] }
  | _ => none }
def UsersWalksWrongFalsely : Prop := usersWalksRow.holds Tryd.pinned (OpenSpec.ofChange usersWalksWrong)

/-- 'vergerlaw06.UsersGroups': WHATEVER THE INPUT: true; the input reads as it did. -/
def usersGroupsSpec : ChangeSpec := { name := "usersGroups", fn := fun _ => fun
  | [d] => { results := [.lit (.bool true)], args := [d] }
  | _ => none }
def usersGroupsRow : OpenClaim := { program := "ytkijkoakloacoaadoor", sum := "3fd674caeaf9e3181f91cfa6088eea74cd11fce9ce801ef844a06dacae3c9c37", func := "verger/vergerlaw06.UsersGroups", spec := "usersGroups", inPlace := ["internal/bytealg.CountString", "internal/bytealg.IndexByteString", "internal/bytealg.IndexString", "internal/abi.NoEscape", "internal/bytealg.MakeNoZero"], unfollowed := true, recurses := true, named := ["unicode/utf8.first", "unicode/utf8.acceptRanges", "internal/bytealg.MaxLen"], plainKeys := false, apart := false, laid := [("unicode/utf8.acceptRanges", laid_unicode_utf8_acceptRanges), ("unicode/utf8.first", laid_unicode_utf8_first)] }
def UsersGroupsSaid : Prop := usersGroupsRow.holds Tryd.pinned (OpenSpec.ofChange usersGroupsSpec)

/-- ITS FALSE NEIGHBOUR: 'it returns false'. Refute it at one input. -/
def usersGroupsWrong : ChangeSpec := { name := "usersGroups", fn := fun _ => fun
  | [d] => { results := [.lit (.bool false)], args := [d] }
  | _ => none }
def UsersGroupsWrongFalsely : Prop := usersGroupsRow.holds Tryd.pinned (OpenSpec.ofChange usersGroupsWrong)

/-- 'vergerlaw06.UsersOrder': WHATEVER THE INPUT: true; the input reads as it did. -/
def usersOrderSpec : ChangeSpec := { name := "usersOrder", fn := fun _ => fun
  | [d1, d2] => { results := [.lit (.bool true)], args := [d1, d2] }
  | _ => none }
def usersOrderRow : OpenClaim := { program := "ytkijkoakloacoaadoor", sum := "3fd674caeaf9e3181f91cfa6088eea74cd11fce9ce801ef844a06dacae3c9c37", func := "verger/vergerlaw06.UsersOrder", spec := "usersOrder", inPlace := ["internal/bytealg.CountString", "internal/bytealg.IndexByteString", "internal/bytealg.IndexString", "internal/abi.NoEscape", "internal/bytealg.MakeNoZero"], unfollowed := true, recurses := true, named := ["unicode/utf8.first", "unicode/utf8.acceptRanges", "internal/bytealg.MaxLen"], plainKeys := false, apart := false, laid := [("unicode/utf8.acceptRanges", laid_unicode_utf8_acceptRanges), ("unicode/utf8.first", laid_unicode_utf8_first)] }
def UsersOrderSaid : Prop := usersOrderRow.holds Tryd.pinned (OpenSpec.ofChange usersOrderSpec)

/-- ITS FALSE NEIGHBOUR: 'it returns false'. Refute it at one input. -/
def usersOrderWrong : ChangeSpec := { name := "usersOrder", fn := fun _ => fun
  | [d1, d2] => { results := [.lit (.bool false)], args := [d1, d2] }
  | _ => none }
def UsersOrderWrongFalsely : Prop := usersOrderRow.holds Tryd.pinned (OpenSpec.ofChange usersOrderWrong)

/-- 'vergerlaw06.UsersSilent': WHATEVER THE INPUT: true; the input reads as it did. -/
def usersSilentSpec : ChangeSpec := { name := "usersSilent", fn := fun _ => fun
  | [d1, d2, d3] => { results := [.lit (.bool true)], args := [d1, d2, d3] }
  | _ => none }
def usersSilentRow : OpenClaim := { program := "ytkijkoakloacoaadoor", sum := "3fd674caeaf9e3181f91cfa6088eea74cd11fce9ce801ef844a06dacae3c9c37", func := "verger/vergerlaw06.UsersSilent", spec := "usersSilent", inPlace := ["internal/bytealg.CountString", "internal/bytealg.IndexByteString", "internal/bytealg.IndexString", "internal/abi.NoEscape", "internal/bytealg.MakeNoZero"], unfollowed := true, recurses := true, named := ["unicode/utf8.first", "unicode/utf8.acceptRanges", "internal/bytealg.MaxLen"], plainKeys := false, apart := false, laid := [("unicode/utf8.acceptRanges", laid_unicode_utf8_acceptRanges), ("unicode/utf8.first", laid_unicode_utf8_first)] }
def UsersSilentSaid : Prop := usersSilentRow.holds Tryd.pinned (OpenSpec.ofChange usersSilentSpec)

/-- ITS FALSE NEIGHBOUR: 'it returns false'. Refute it at one input. -/
def usersSilentWrong : ChangeSpec := { name := "usersSilent", fn := fun _ => fun
  | [d1, d2, d3] => { results := [.lit (.bool false)], args := [d1, d2, d3] }
  | _ => none }
def UsersSilentWrongFalsely : Prop := usersSilentRow.holds Tryd.pinned (OpenSpec.ofChange usersSilentWrong)

/-- 'vergerlaw06.UsersUndo': WHATEVER THE INPUT: true; the input reads as it did. -/
def usersUndoSpec : ChangeSpec := { name := "usersUndo", fn := fun _ => fun
  | [d1, d2, d3] => { results := [.lit (.bool true)], args := [d1, d2, d3] }
  | _ => none }
def usersUndoRow : OpenClaim := { program := "ytkijkoakloacoaadoor", sum := "3fd674caeaf9e3181f91cfa6088eea74cd11fce9ce801ef844a06dacae3c9c37", func := "verger/vergerlaw06.UsersUndo", spec := "usersUndo", inPlace := ["internal/bytealg.CountString", "internal/bytealg.IndexByteString", "internal/bytealg.IndexString", "internal/abi.NoEscape", "internal/bytealg.MakeNoZero"], unfollowed := true, recurses := true, named := ["unicode/utf8.first", "unicode/utf8.acceptRanges", "internal/bytealg.MaxLen"], plainKeys := false, apart := false, laid := [("unicode/utf8.acceptRanges", laid_unicode_utf8_acceptRanges), ("unicode/utf8.first", laid_unicode_utf8_first)] }
def UsersUndoSaid : Prop := usersUndoRow.holds Tryd.pinned (OpenSpec.ofChange usersUndoSpec)

/-- ITS FALSE NEIGHBOUR: 'it returns false'. Refute it at one input. -/
def usersUndoWrong : ChangeSpec := { name := "usersUndo", fn := fun _ => fun
  | [d1, d2, d3] => { results := [.lit (.bool false)], args := [d1, d2, d3] }
  | _ => none }
def UsersUndoWrongFalsely : Prop := usersUndoRow.holds Tryd.pinned (OpenSpec.ofChange usersUndoWrong)

/- THE SECOND FORM. 'bulk': how many values and letters a reading holds, each counted each time it is reached (what is shared counts as often as it is met; a slice's spare places count too). A statement '..UptoSaid' is the law's where the arguments, and the package variables that the reading takes, are together of bulk at most 1048576: NARROWER than '..Said'. Prove '..Said' where nothing that the law and all that it calls make is longer than what came in: it says more and counts as full. Else prove '..UptoSaid'. A law counts once. -/
mutual
def uptoBulk {H : Type} : DataW H → Nat
  | .lit (.string bytes) => bytes.length + 1
  | .lit _ => 1
  | .nil => 1
  | .ptr d => uptoBulk d + 1
  | .slice elems spare => uptoBulkAll elems + uptoBulkAll spare + 1
  | .agg parts => uptoBulkAll parts + 1
  | .iface _ d => uptoBulk d + 1
  | .map entries => uptoBulkEntries entries + 1
  | .held _ => 1
def uptoBulkAll {H : Type} : List (DataW H) → Nat
  | [] => 0
  | d :: r => uptoBulk d + uptoBulkAll r
def uptoBulkEntries {H : Type} : List (Lit × DataW H) → Nat
  | [] => 0
  | x :: r => uptoBulkEntry x + uptoBulkEntries r
def uptoBulkEntry {H : Type} : Lit × DataW H → Nat
  | (.string bytes, d) => bytes.length + uptoBulk d + 1
  | (_, d) => uptoBulk d + 1
 end
def uptoSmall : (H : Type) → List (DataW H) → Bool := fun _ ds => decide (uptoBulkAll ds ≤ 1048576)
def OpenSpec.upto (s : _root_.Go.ChangeSpec) : _root_.Go.OpenSpec := { _root_.Go.OpenSpec.ofChange s with cond := some uptoSmall }

/-- 'vergerlaw06.UsersNames', WHERE WHAT IT READS IS OF BULK AT MOST 1048576: true; the input reads as it did. -/
def usersNamesUptoRow : OpenClaim := { program := "ytkijkoakloacoaadoor", sum := "3fd674caeaf9e3181f91cfa6088eea74cd11fce9ce801ef844a06dacae3c9c37", func := "verger/vergerlaw06.UsersNames", spec := "usersNames", inPlace := ["internal/bytealg.CountString", "internal/bytealg.IndexByteString", "internal/bytealg.IndexString", "internal/abi.NoEscape", "internal/bytealg.MakeNoZero"], unfollowed := true, recurses := true, named := ["unicode/utf8.first", "unicode/utf8.acceptRanges", "internal/bytealg.MaxLen"], plainKeys := false, apart := false, laid := [("unicode/utf8.acceptRanges", laid_unicode_utf8_acceptRanges), ("unicode/utf8.first", laid_unicode_utf8_first)], narrowed := true }
def UsersNamesUptoSaid : Prop := usersNamesUptoRow.holds Tryd.pinned (OpenSpec.upto usersNamesSpec)

/-- 'vergerlaw06.UsersBack', WHERE WHAT IT READS IS OF BULK AT MOST 1048576: true; the input reads as it did. -/
def usersBackUptoRow : OpenClaim := { program := "ytkijkoakloacoaadoor", sum := "3fd674caeaf9e3181f91cfa6088eea74cd11fce9ce801ef844a06dacae3c9c37", func := "verger/vergerlaw06.UsersBack", spec := "usersBack", inPlace := ["internal/bytealg.CountString", "internal/bytealg.IndexByteString", "internal/bytealg.IndexString", "internal/abi.NoEscape", "internal/bytealg.MakeNoZero"], unfollowed := true, recurses := true, named := ["unicode/utf8.first", "unicode/utf8.acceptRanges", "internal/bytealg.MaxLen"], plainKeys := false, apart := false, laid := [("unicode/utf8.acceptRanges", laid_unicode_utf8_acceptRanges), ("unicode/utf8.first", laid_unicode_utf8_first)], narrowed := true }
def UsersBackUptoSaid : Prop := usersBackUptoRow.holds Tryd.pinned (OpenSpec.upto usersBackSpec)

/-- 'vergerlaw06.UsersWalks', WHERE WHAT IT READS IS OF BULK AT MOST 1048576: true; the input reads as it did. -/
def usersWalksUptoRow : OpenClaim := { program := "ytkijkoakloacoaadoor", sum := "3fd674caeaf9e3181f91cfa6088eea74cd11fce9ce801ef844a06dacae3c9c37", func := "verger/vergerlaw06.UsersWalks", spec := "usersWalks", inPlace := ["internal/bytealg.CountString", "internal/bytealg.IndexByteString", "internal/bytealg.IndexString", "internal/abi.NoEscape", "internal/bytealg.MakeNoZero"], unfollowed := true, recurses := true, named := ["unicode/utf8.first", "unicode/utf8.acceptRanges", "internal/bytealg.MaxLen"], plainKeys := false, apart := false, laid := [("unicode/utf8.acceptRanges", laid_unicode_utf8_acceptRanges), ("unicode/utf8.first", laid_unicode_utf8_first)], narrowed := true }
def UsersWalksUptoSaid : Prop := usersWalksUptoRow.holds Tryd.pinned (OpenSpec.upto usersWalksSpec)

/-- 'vergerlaw06.UsersGroups', WHERE WHAT IT READS IS OF BULK AT MOST 1048576: true; the input reads as it did. -/
def usersGroupsUptoRow : OpenClaim := { program := "ytkijkoakloacoaadoor", sum := "3fd674caeaf9e3181f91cfa6088eea74cd11fce9ce801ef844a06dacae3c9c37", func := "verger/vergerlaw06.UsersGroups", spec := "usersGroups", inPlace := ["internal/bytealg.CountString", "internal/bytealg.IndexByteString", "internal/bytealg.IndexString", "internal/abi.NoEscape", "internal/bytealg.MakeNoZero"], unfollowed := true, recurses := true, named := ["unicode/utf8.first", "unicode/utf8.acceptRanges", "internal/bytealg.MaxLen"], plainKeys := false, apart := false, laid := [("unicode/utf8.acceptRanges", laid_unicode_utf8_acceptRanges), ("unicode/utf8.first", laid_unicode_utf8_first)], narrowed := true }
def UsersGroupsUptoSaid : Prop := usersGroupsUptoRow.holds Tryd.pinned (OpenSpec.upto usersGroupsSpec)

/-- 'vergerlaw06.UsersOrder', WHERE WHAT IT READS IS OF BULK AT MOST 1048576: true; the input reads as it did. -/
def usersOrderUptoRow : OpenClaim := { program := "ytkijkoakloacoaadoor", sum := "3fd674caeaf9e3181f91cfa6088eea74cd11fce9ce801ef844a06dacae3c9c37", func := "verger/vergerlaw06.UsersOrder", spec := "usersOrder", inPlace := ["internal/bytealg.CountString", "internal/bytealg.IndexByteString", "internal/bytealg.IndexString", "internal/abi.NoEscape", "internal/bytealg.MakeNoZero"], unfollowed := true, recurses := true, named := ["unicode/utf8.first", "unicode/utf8.acceptRanges", "internal/bytealg.MaxLen"], plainKeys := false, apart := false, laid := [("unicode/utf8.acceptRanges", laid_unicode_utf8_acceptRanges), ("unicode/utf8.first", laid_unicode_utf8_first)], narrowed := true }
def UsersOrderUptoSaid : Prop := usersOrderUptoRow.holds Tryd.pinned (OpenSpec.upto usersOrderSpec)

/-- 'vergerlaw06.UsersSilent', WHERE WHAT IT READS IS OF BULK AT MOST 1048576: true; the input reads as it did. -/
def usersSilentUptoRow : OpenClaim := { program := "ytkijkoakloacoaadoor", sum := "3fd674caeaf9e3181f91cfa6088eea74cd11fce9ce801ef844a06dacae3c9c37", func := "verger/vergerlaw06.UsersSilent", spec := "usersSilent", inPlace := ["internal/bytealg.CountString", "internal/bytealg.IndexByteString", "internal/bytealg.IndexString", "internal/abi.NoEscape", "internal/bytealg.MakeNoZero"], unfollowed := true, recurses := true, named := ["unicode/utf8.first", "unicode/utf8.acceptRanges", "internal/bytealg.MaxLen"], plainKeys := false, apart := false, laid := [("unicode/utf8.acceptRanges", laid_unicode_utf8_acceptRanges), ("unicode/utf8.first", laid_unicode_utf8_first)], narrowed := true }
def UsersSilentUptoSaid : Prop := usersSilentUptoRow.holds Tryd.pinned (OpenSpec.upto usersSilentSpec)

/-- 'vergerlaw06.UsersUndo', WHERE WHAT IT READS IS OF BULK AT MOST 1048576: true; the input reads as it did. -/
def usersUndoUptoRow : OpenClaim := { program := "ytkijkoakloacoaadoor", sum := "3fd674caeaf9e3181f91cfa6088eea74cd11fce9ce801ef844a06dacae3c9c37", func := "verger/vergerlaw06.UsersUndo", spec := "usersUndo", inPlace := ["internal/bytealg.CountString", "internal/bytealg.IndexByteString", "internal/bytealg.IndexString", "internal/abi.NoEscape", "internal/bytealg.MakeNoZero"], unfollowed := true, recurses := true, named := ["unicode/utf8.first", "unicode/utf8.acceptRanges", "internal/bytealg.MaxLen"], plainKeys := false, apart := false, laid := [("unicode/utf8.acceptRanges", laid_unicode_utf8_acceptRanges), ("unicode/utf8.first", laid_unicode_utf8_first)], narrowed := true }
def UsersUndoUptoSaid : Prop := usersUndoUptoRow.holds Tryd.pinned (OpenSpec.upto usersUndoSpec)

end Rows
end Go.Proofs.YtkijkoakloacoaaDoor

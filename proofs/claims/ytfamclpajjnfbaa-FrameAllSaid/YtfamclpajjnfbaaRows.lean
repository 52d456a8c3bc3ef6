/-
  No cell of these rows narrows 'for every input' (looked for: loops, veiled, ifaces, maps, wideKeys, modest, calm, conditions, laid).
  DERIVED. THE GIVEN ROWS OF THIS SEAT. 6 by the template 'for every input the law returns true; each argument reads behind the call as it read before'; 0 by the template 'total and deterministic' (their statements: YtfamclpajjnfbaaTotals.lean).
  GIVEN WITH THE SEED: the statements are not yours to turn. If you find one false, say at which input.
  Laid BY PROGRAM, IN A SANDBOX (cutbox-rows.mjs): the forced cells as the released guide's own fill.sh prints them over the translation 99ba08adabfcab17… (all of the seat's roots in one cut). By AI agents, Wed Nov 11 2026. No macro, syntax, notation, axiom, sorry.
-/
import Derived.Test.YtfamclpajjnfbaaChecked
import GoSem.Claim
import GoSem.ClaimJoined
import GoSem.ClaimMapViews
import Derived.JoinedTies
import Derived.KernelRfl
namespace Go.Proofs.Ytfamclpajjnfbaa
/- THE CELL 'sum', in the pinned program and in every row, IS THE sha256 OF THE DUMP (.gsa) THAT YtfamclpajjnfbaaProg.lean LOADS. Nothing in Lean hashes anything: it is a label: what it is worth is what the hold of that sum in a sandbox is worth. -/
noncomputable def Try.pinned : Pinned := { name := "ytfamclpajjnfbaa", sum := "99ba08adabfcab17a9325541c31bdcf0236958a6ade3c3c322c4f3e914ca7ef0", checked := Try.checked }
namespace Rows
def none {H : Type} : Left H := { results := [], args := [] }

/-- 'vergerlaw04.FrameNames': WHATEVER THE INPUT: true; the input reads as it did. -/
def frameNamesSpec : ChangeSpec := { name := "frameNames", fn := fun _ => fun
  | [] => { results := [.lit (.bool true)], args := [] }
  | _ => none }
def frameNamesRow : OpenClaim := { program := "ytfamclpajjnfbaa", sum := "99ba08adabfcab17a9325541c31bdcf0236958a6ade3c3c322c4f3e914ca7ef0", func := "verger/vergerlaw04.FrameNames", spec := "frameNames", apart := false }
def FrameNamesSaid : Prop := frameNamesRow.holds Try.pinned (OpenSpec.ofChange frameNamesSpec)

/-- ITS FALSE NEIGHBOUR: 'it returns false'. Refute it at one input. -/
def frameNamesWrong : ChangeSpec := { name := "frameNames", fn := fun _ => fun
  | [] => { results := [.lit (.bool false)], args := [] }
  | _ => none }
def FrameNamesWrongFalsely : Prop := frameNamesRow.holds Try.pinned (OpenSpec.ofChange frameNamesWrong)

/-- 'vergerlaw04.FrameCuts': WHATEVER THE INPUT: true; the input reads as it did. -/
def frameCutsSpec : ChangeSpec := { name := "frameCuts", fn := fun _ => fun
  | [d1, d2] => { results := [.lit (.bool true)], args := [d1, d2] }
  | _ => none }
def frameCutsRow : OpenClaim := { program := "ytfamclpajjnfbaa", sum := "99ba08adabfcab17a9325541c31bdcf0236958a6ade3c3c322c4f3e914ca7ef0", func := "verger/vergerlaw04.FrameCuts", spec := "frameCuts", apart := false }
def FrameCutsSaid : Prop := frameCutsRow.holds Try.pinned (OpenSpec.ofChange frameCutsSpec)

/-- ITS FALSE NEIGHBOUR: 'it returns false'. Refute it at one input. -/
def frameCutsWrong : ChangeSpec := { name := "frameCuts", fn := fun _ => fun
  | [d1, d2] => { results := [.lit (.bool false)], args := [d1, d2] }
  | _ => none }
def FrameCutsWrongFalsely : Prop := frameCutsRow.holds Try.pinned (OpenSpec.ofChange frameCutsWrong)

/-- 'vergerlaw04.FrameStays': WHATEVER THE INPUT: true; the input reads as it did. -/
def frameStaysSpec : ChangeSpec := { name := "frameStays", fn := fun _ => fun
  | [d] => { results := [.lit (.bool true)], args := [d] }
  | _ => none }
def frameStaysRow : OpenClaim := { program := "ytfamclpajjnfbaa", sum := "99ba08adabfcab17a9325541c31bdcf0236958a6ade3c3c322c4f3e914ca7ef0", func := "verger/vergerlaw04.FrameStays", spec := "frameStays", apart := false }
def FrameStaysSaid : Prop := frameStaysRow.holds Try.pinned (OpenSpec.ofChange frameStaysSpec)

/-- ITS FALSE NEIGHBOUR: 'it returns false'. Refute it at one input. -/
def frameStaysWrong : ChangeSpec := { name := "frameStays", fn := fun _ => fun
  | [d] => { results := [.lit (.bool false)], args := [d] }
  | _ => none }
def FrameStaysWrongFalsely : Prop := frameStaysRow.holds Try.pinned (OpenSpec.ofChange frameStaysWrong)

/-- 'vergerlaw04.FrameAll': WHATEVER THE INPUT: true; the input reads as it did. -/
def frameAllSpec : ChangeSpec := { name := "frameAll", fn := fun _ => fun
  | [d1, d2, d3] => { results := [.lit (.bool true)], args := [d1, d2, d3] }
  | _ => none }
def frameAllRow : OpenClaim := { program := "ytfamclpajjnfbaa", sum := "99ba08adabfcab17a9325541c31bdcf0236958a6ade3c3c322c4f3e914ca7ef0", func := "verger/vergerlaw04.FrameAll", spec := "frameAll", unfollowed := true, recurses := true, apart := false }
def FrameAllSaid : Prop := frameAllRow.holds Try.pinned (OpenSpec.ofChange frameAllSpec)

/-- ITS FALSE NEIGHBOUR: 'it returns false'. Refute it at one input. -/
def frameAllWrong : ChangeSpec := { name := "frameAll", fn := fun _ => fun
  | [d1, d2, d3] => { results := [.lit (.bool false)], args := [d1, d2, d3] }
  | _ => none }
def FrameAllWrongFalsely : Prop := frameAllRow.holds Try.pinned (OpenSpec.ofChange frameAllWrong)

/-- 'vergerlaw04.FrameBack': WHATEVER THE INPUT: true; the input reads as it did. -/
def frameBackSpec : ChangeSpec := { name := "frameBack", fn := fun _ => fun
  | [d1, d2, d3] => { results := [.lit (.bool true)], args := [d1, d2, d3] }
  | _ => none }
def frameBackRow : OpenClaim := { program := "ytfamclpajjnfbaa", sum := "99ba08adabfcab17a9325541c31bdcf0236958a6ade3c3c322c4f3e914ca7ef0", func := "verger/vergerlaw04.FrameBack", spec := "frameBack", unfollowed := true, recurses := true, apart := false }
def FrameBackSaid : Prop := frameBackRow.holds Try.pinned (OpenSpec.ofChange frameBackSpec)

/-- ITS FALSE NEIGHBOUR: 'it returns false'. Refute it at one input. -/
def frameBackWrong : ChangeSpec := { name := "frameBack", fn := fun _ => fun
  | [d1, d2, d3] => { results := [.lit (.bool false)], args := [d1, d2, d3] }
  | _ => none }
def FrameBackWrongFalsely : Prop := frameBackRow.holds Try.pinned (OpenSpec.ofChange frameBackWrong)

/-- 'vergerlaw04.FrameChunks': WHATEVER THE INPUT: true; the input reads as it did. -/
def frameChunksSpec : ChangeSpec := { name := "frameChunks", fn := fun _ => fun
  | [d1, d2, d3] => { results := [.lit (.bool true)], args := [d1, d2, d3] }
  | _ => none }
def frameChunksRow : OpenClaim := { program := "ytfamclpajjnfbaa", sum := "99ba08adabfcab17a9325541c31bdcf0236958a6ade3c3c322c4f3e914ca7ef0", func := "verger/vergerlaw04.FrameChunks", spec := "frameChunks", unfollowed := true, recurses := true, apart := false }
def FrameChunksSaid : Prop := frameChunksRow.holds Try.pinned (OpenSpec.ofChange frameChunksSpec)

/-- ITS FALSE NEIGHBOUR: 'it returns false'. Refute it at one input. -/
def frameChunksWrong : ChangeSpec := { name := "frameChunks", fn := fun _ => fun
  | [d1, d2, d3] => { results := [.lit (.bool false)], args := [d1, d2, d3] }
  | _ => none }
def FrameChunksWrongFalsely : Prop := frameChunksRow.holds Try.pinned (OpenSpec.ofChange frameChunksWrong)

/- THE SECOND FORM. 'bulk': how many values and letters a reading holds, each counted each time it is reached (what is shared counts as often as it is met; a slice's spare places count too). A statement '..UptoSaid' is the law's where the arguments, and the package variables that the reading takes, are together of bulk at most 1048576: NARROWER than '..Said'. Prove '..Said' where nothing that the law and all that it calls make is longer than what came in: it says more and counts as full. Else prove '..UptoSaid'. A law counts once. -/
mutual
def uptoBulk {H : Type} : DataW H → Nat
  | .lit (.string bytes) => bytes.length + 1
  | .lit _ => 1
  | .nil => 1
  | .ptr d => uptoBulk d + 1
  | .slice elems spare => uptoBulkAll elems + uptoBulkAll spare + 1
  | .agg parts => uptoBulkAll parts + 1
  | .iface _ d => uptoBulk d + 1
  | .map entries => uptoBulkEntries entries + 1
  | .held _ => 1
def uptoBulkAll {H : Type} : List (DataW H) → Nat
  | [] => 0
  | d :: r => uptoBulk d + uptoBulkAll r
def uptoBulkEntries {H : Type} : List (Lit × DataW H) → Nat
  | [] => 0
  | x :: r => uptoBulkEntry x + uptoBulkEntries r
def uptoBulkEntry {H : Type} : Lit × DataW H → Nat
  | (.string bytes, d) => bytes.length + uptoBulk d + 1
  | (_, d) => uptoBulk d + 1
 end
def uptoSmall : (H : Type) → List (DataW H) → Bool := fun _ ds => decide (uptoBulkAll ds ≤ 1048576)
def OpenSpec.upto (s : _root_.Go.ChangeSpec) : _root_.Go.OpenSpec := { _root_.Go.OpenSpec.ofChange s with cond := some uptoSmall }

/-- 'vergerlaw04.FrameNames', WHERE WHAT IT READS IS OF BULK AT MOST 1048576: true; the input reads as it did. -/
def frameNamesUptoRow : OpenClaim := { program := "ytfamclpajjnfbaa", sum := "99ba08adabfcab17a9325541c31bdcf0236958a6ade3c3c322c4f3e914ca7ef0", func := "verger/vergerlaw04.FrameNames", spec := "frameNames", apart := false, narrowed := true }
def FrameNamesUptoSaid : Prop := frameNamesUptoRow.holds Try.pinned (OpenSpec.upto frameNamesSpec)

/-- 'vergerlaw04.FrameCuts', WHERE WHAT IT READS IS OF BULK AT MOST 1048576: true; the input reads as it did. -/
def frameCutsUptoRow : OpenClaim := { program := "ytfamclpajjnfbaa", sum := "99ba08adabfcab17a9325541c31bdcf0236958a6ade3c3c322c4f3e914ca7ef0", func := "verger/vergerlaw04.FrameCuts", spec := "frameCuts", apart := false, narrowed := true }
def FrameCutsUptoSaid : Prop := frameCutsUptoRow.holds Try.pinned (OpenSpec.upto frameCutsSpec)

/-- 'vergerlaw04.FrameStays', WHERE WHAT IT READS IS OF BULK AT MOST 1048576: true; the input reads as it did. -/
def frameStaysUptoRow : OpenClaim := { program := "ytfamclpajjnfbaa", sum := "99ba08adabfcab17a9325541c31bdcf0236958a6ade3c3c322c4f3e914ca7ef0", func := "verger/vergerlaw04.FrameStays", spec := "frameStays", apart := false, narrowed := true }
def FrameStaysUptoSaid : Prop := frameStaysUptoRow.holds Try.pinned (OpenSpec.upto frameStaysSpec)

/-- 'vergerlaw04.FrameAll', WHERE WHAT IT READS IS OF BULK AT MOST 1048576: true; the input reads as it did. -/
def frameAllUptoRow : OpenClaim := { program := "ytfamclpajjnfbaa", sum := "99ba08adabfcab17a9325541c31bdcf0236958a6ade3c3c322c4f3e914ca7ef0", func := "verger/vergerlaw04.FrameAll", spec := "frameAll", unfollowed := true, recurses := true, apart := false, narrowed := true }
def FrameAllUptoSaid : Prop := frameAllUptoRow.holds Try.pinned (OpenSpec.upto frameAllSpec)

/-- 'vergerlaw04.FrameBack', WHERE WHAT IT READS IS OF BULK AT MOST 1048576: true; the input reads as it did. -/
def frameBackUptoRow : OpenClaim := { program := "ytfamclpajjnfbaa", sum := "99ba08adabfcab17a9325541c31bdcf0236958a6ade3c3c322c4f3e914ca7ef0", func := "verger/vergerlaw04.FrameBack", spec := "frameBack", unfollowed := true, recurses := true, apart := false, narrowed := true }
def FrameBackUptoSaid : Prop := frameBackUptoRow.holds Try.pinned (OpenSpec.upto frameBackSpec)

/-- 'vergerlaw04.FrameChunks', WHERE WHAT IT READS IS OF BULK AT MOST 1048576: true; the input reads as it did. -/
def frameChunksUptoRow : OpenClaim := { program := "ytfamclpajjnfbaa", sum := "99ba08adabfcab17a9325541c31bdcf0236958a6ade3c3c322c4f3e914ca7ef0", func := "verger/vergerlaw04.FrameChunks", spec := "frameChunks", unfollowed := true, recurses := true, apart := false, narrowed := true }
def FrameChunksUptoSaid : Prop := frameChunksUptoRow.holds Try.pinned (OpenSpec.upto frameChunksSpec)

end Rows
end Go.Proofs.Ytfamclpajjnfbaa

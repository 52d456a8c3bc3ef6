/-
  No cell of these rows narrows 'for every input' (looked for: loops, veiled, ifaces, maps, wideKeys, modest, calm, conditions, laid).
  DERIVED. THE GIVEN ROWS OF THIS SEAT. 6 by the template 'for every input the law returns true; each argument reads behind the call as it read before'; 0 by the template 'total and deterministic' (their statements: YtacmnfpgimgigaaTotals.lean).
  GIVEN WITH THE SEED: the statements are not yours to turn. If you find one false, say at which input.
  Laid BY PROGRAM, IN A SANDBOX (cutbox-rows.mjs): the forced cells as the released guide's own fill.sh prints them over the translation 3ab6057274dada89… (all of the seat's roots in one cut). By AI agents, Wed Nov 11 2026. No macro, syntax, notation, axiom, sorry.
-/
import Derived.Test.YtacmnfpgimgigaaChecked
import GoSem.Claim
import GoSem.ClaimJoined
import GoSem.ClaimMapViews
import Derived.JoinedTies
import Derived.KernelRfl
namespace Go.Proofs.Ytacmnfpgimgigaa
/- THE CELL 'sum', in the pinned program and in every row, IS THE sha256 OF THE DUMP (.gsa) THAT YtacmnfpgimgigaaProg.lean LOADS. Nothing in Lean hashes anything: it is a label: what it is worth is what the hold of that sum in a sandbox is worth. -/
noncomputable def Try.pinned : Pinned := { name := "ytacmnfpgimgigaa", sum := "3ab6057274dada899cf7046d7ef4a18243454bed31298c58e2e7bef6fd37fe28", checked := Try.checked }
namespace Rows
def none {H : Type} : Left H := { results := [], args := [] }

/-- 'vergerlaw13.LocksNames': WHATEVER THE INPUT: true; the input reads as it did. -/
def locksNamesSpec : ChangeSpec := { name := "locksNames", fn := fun _ => fun
  | [] => { results := [.lit (.bool true)], args := [] }
  | _ => none }
def locksNamesRow : OpenClaim := { program := "ytacmnfpgimgigaa", sum := "3ab6057274dada899cf7046d7ef4a18243454bed31298c58e2e7bef6fd37fe28", func := "verger/vergerlaw13.LocksNames", spec := "locksNames", unfollowed := true, recurses := true, plainKeys := false, apart := false }
def LocksNamesSaid : Prop := locksNamesRow.holds Try.pinned (OpenSpec.ofChange locksNamesSpec)

/-- ITS FALSE NEIGHBOUR: 'it returns false'. Refute it at one input. -/
def locksNamesWrong : ChangeSpec := { name := "locksNames", fn := fun _ => fun
  | [] => { results := [.lit (.bool false)], args := [] }
  | _ => none }
def LocksNamesWrongFalsely : Prop := locksNamesRow.holds Try.pinned (OpenSpec.ofChange locksNamesWrong)

/-- 'vergerlaw13.LocksCompares': WHATEVER THE INPUT: true; the input reads as it did. -/
def locksComparesSpec : ChangeSpec := { name := "locksCompares", fn := fun _ => fun
  | [d1, d2, d3] => { results := [.lit (.bool true)], args := [d1, d2, d3] }
  | _ => none }
def locksComparesRow : OpenClaim := { program := "ytacmnfpgimgigaa", sum := "3ab6057274dada899cf7046d7ef4a18243454bed31298c58e2e7bef6fd37fe28", func := "verger/vergerlaw13.LocksCompares", spec := "locksCompares", unfollowed := true, recurses := true, plainKeys := false, apart := false }
def LocksComparesSaid : Prop := locksComparesRow.holds Try.pinned (OpenSpec.ofChange locksComparesSpec)

/-- ITS FALSE NEIGHBOUR: 'it returns false'. Refute it at one input. -/
def locksComparesWrong : ChangeSpec := { name := "locksCompares", fn := fun _ => fun
  | [d1, d2, d3] => { results := [.lit (.bool false)], args := [d1, d2, d3] }
  | _ => none }
def LocksComparesWrongFalsely : Prop := locksComparesRow.holds Try.pinned (OpenSpec.ofChange locksComparesWrong)

/-- 'vergerlaw13.LocksFirst': WHATEVER THE INPUT: true; the input reads as it did. -/
def locksFirstSpec : ChangeSpec := { name := "locksFirst", fn := fun _ => fun
  | [d] => { results := [.lit (.bool true)], args := [d] }
  | _ => none }
def locksFirstRow : OpenClaim := { program := "ytacmnfpgimgigaa", sum := "3ab6057274dada899cf7046d7ef4a18243454bed31298c58e2e7bef6fd37fe28", func := "verger/vergerlaw13.LocksFirst", spec := "locksFirst", unfollowed := true, recurses := true, plainKeys := false, apart := false }
def LocksFirstSaid : Prop := locksFirstRow.holds Try.pinned (OpenSpec.ofChange locksFirstSpec)

/-- ITS FALSE NEIGHBOUR: 'it returns false'. Refute it at one input. -/
def locksFirstWrong : ChangeSpec := { name := "locksFirst", fn := fun _ => fun
  | [d] => { results := [.lit (.bool false)], args := [d] }
  | _ => none }
def LocksFirstWrongFalsely : Prop := locksFirstRow.holds Try.pinned (OpenSpec.ofChange locksFirstWrong)

/-- 'vergerlaw13.LocksSound': WHATEVER THE INPUT: true; the input reads as it did. -/
def locksSoundSpec : ChangeSpec := { name := "locksSound", fn := fun _ => fun
  | [d] => { results := [.lit (.bool true)], args := [d] }
  | _ => none }
def locksSoundRow : OpenClaim := { program := "ytacmnfpgimgigaa", sum := "3ab6057274dada899cf7046d7ef4a18243454bed31298c58e2e7bef6fd37fe28", func := "verger/vergerlaw13.LocksSound", spec := "locksSound", unfollowed := true, recurses := true, plainKeys := false, apart := false }
def LocksSoundSaid : Prop := locksSoundRow.holds Try.pinned (OpenSpec.ofChange locksSoundSpec)

/-- ITS FALSE NEIGHBOUR: 'it returns false'. Refute it at one input. -/
def locksSoundWrong : ChangeSpec := { name := "locksSound", fn := fun _ => fun
  | [d] => { results := [.lit (.bool false)], args := [d] }
  | _ => none }
def LocksSoundWrongFalsely : Prop := locksSoundRow.holds Try.pinned (OpenSpec.ofChange locksSoundWrong)

/-- 'vergerlaw13.LocksRising': WHATEVER THE INPUT: true; the input reads as it did. -/
def locksRisingSpec : ChangeSpec := { name := "locksRising", fn := fun _ => fun
  | [d] => { results := [.lit (.bool true)], args := [d] }
  | _ => none }
def locksRisingRow : OpenClaim := { program := "ytacmnfpgimgigaa", sum := "3ab6057274dada899cf7046d7ef4a18243454bed31298c58e2e7bef6fd37fe28", func := "verger/vergerlaw13.LocksRising", spec := "locksRising", inPlace := ["maps.clone"], unfollowed := true, recurses := true, plainKeys := false, apart := false }
def LocksRisingSaid : Prop := locksRisingRow.holds Try.pinned (OpenSpec.ofChange locksRisingSpec)

/-- ITS FALSE NEIGHBOUR: 'it returns false'. Refute it at one input. -/
def locksRisingWrong : ChangeSpec := { name := "locksRising", fn := fun _ => fun
  | [d] => { results := [.lit (.bool false)], args := [d] }
  | _ => none }
def LocksRisingWrongFalsely : Prop := locksRisingRow.holds Try.pinned (OpenSpec.ofChange locksRisingWrong)

/-- 'vergerlaw13.LocksStuck': WHATEVER THE INPUT: true; the input reads as it did. -/
def locksStuckSpec : ChangeSpec := { name := "locksStuck", fn := fun _ => fun
  | [d] => { results := [.lit (.bool true)], args := [d] }
  | _ => none }
def locksStuckRow : OpenClaim := { program := "ytacmnfpgimgigaa", sum := "3ab6057274dada899cf7046d7ef4a18243454bed31298c58e2e7bef6fd37fe28", func := "verger/vergerlaw13.LocksStuck", spec := "locksStuck", inPlace := ["maps.clone"], unfollowed := true, recurses := true, plainKeys := false, apart := false }
def LocksStuckSaid : Prop := locksStuckRow.holds Try.pinned (OpenSpec.ofChange locksStuckSpec)

/-- ITS FALSE NEIGHBOUR: 'it returns false'. Refute it at one input. -/
def locksStuckWrong : ChangeSpec := { name := "locksStuck", fn := fun _ => fun
  | [d] => { results := [.lit (.bool false)], args := [d] }
  | _ => none }
def LocksStuckWrongFalsely : Prop := locksStuckRow.holds Try.pinned (OpenSpec.ofChange locksStuckWrong)

/- THE SECOND FORM. 'bulk': how many values and letters a reading holds, each counted each time it is reached (what is shared counts as often as it is met; a slice's spare places count too). A statement '..UptoSaid' is the law's where the arguments, and the package variables that the reading takes, are together of bulk at most 1048576: NARROWER than '..Said'. Prove '..Said' where nothing that the law and all that it calls make is longer than what came in: it says more and counts as full. Else prove '..UptoSaid'. A law counts once. -/
mutual
def uptoBulk {H : Type} : DataW H → Nat
  | .lit (.string bytes) => bytes.length + 1
  | .lit _ => 1
  | .nil => 1
  | .ptr d => uptoBulk d + 1
  | .slice elems spare => uptoBulkAll elems + uptoBulkAll spare + 1
  | .agg parts => uptoBulkAll parts + 1
  | .iface _ d => uptoBulk d + 1
  | .map entries => uptoBulkEntries entries + 1
  | .held _ => 1
def uptoBulkAll {H : Type} : List (DataW H) → Nat
  | [] => 0
  | d :: r => uptoBulk d + uptoBulkAll r
def uptoBulkEntries {H : Type} : List (Lit × DataW H) → Nat
  | [] => 0
  | x :: r => uptoBulkEntry x + uptoBulkEntries r
def uptoBulkEntry {H : Type} : Lit × DataW H → Nat
  | (.string bytes, d) => bytes.length + uptoBulk d + 1
  | (_, d) => uptoBulk d + 1
 end
def uptoSmall : (H : Type) → List (DataW H) → Bool := fun _ ds => decide (uptoBulkAll ds ≤ 1048576)
def OpenSpec.upto (s : _root_.Go.ChangeSpec) : _root_.Go.OpenSpec := { _root_.Go.OpenSpec.ofChange s with cond := some uptoSmall }

/-- 'vergerlaw13.LocksNames', WHERE WHAT IT READS IS OF BULK AT MOST 1048576: true; the input reads as it did. -/
def locksNamesUptoRow : OpenClaim := { program := "ytacmnfpgimgigaa", sum := "3ab6057274dada899cf7046d7ef4a18243454bed31298c58e2e7bef6fd37fe28", func := "verger/vergerlaw13.LocksNames", spec := "locksNames", unfollowed := true, recurses := true, plainKeys := false, apart := false, narrowed := true }
def LocksNamesUptoSaid : Prop := locksNamesUptoRow.holds Try.pinned (OpenSpec.upto locksNamesSpec)

/-- 'vergerlaw13.LocksCompares', WHERE WHAT IT READS IS OF BULK AT MOST 1048576: true; the input reads as it did. -/
def locksComparesUptoRow : OpenClaim := { program := "ytacmnfpgimgigaa", sum := "3ab6057274dada899cf7046d7ef4a18243454bed31298c58e2e7bef6fd37fe28", func := "verger/vergerlaw13.LocksCompares", spec := "locksCompares", unfollowed := true, recurses := true, plainKeys := false, apart := false, narrowed := true }
def LocksComparesUptoSaid : Prop := locksComparesUptoRow.holds Try.pinned (OpenSpec.upto locksComparesSpec)

/-- 'vergerlaw13.LocksFirst', WHERE WHAT IT READS IS OF BULK AT MOST 1048576: true; the input reads as it did. -/
def locksFirstUptoRow : OpenClaim := { program := "ytacmnfpgimgigaa", sum := "3ab6057274dada899cf7046d7ef4a18243454bed31298c58e2e7bef6fd37fe28", func := "verger/vergerlaw13.LocksFirst", spec := "locksFirst", unfollowed := true, recurses := true, plainKeys := false, apart := false, narrowed := true }
def LocksFirstUptoSaid : Prop := locksFirstUptoRow.holds Try.pinned (OpenSpec.upto locksFirstSpec)

/-- 'vergerlaw13.LocksSound', WHERE WHAT IT READS IS OF BULK AT MOST 1048576: true; the input reads as it did. -/
def locksSoundUptoRow : OpenClaim := { program := "ytacmnfpgimgigaa", sum := "3ab6057274dada899cf7046d7ef4a18243454bed31298c58e2e7bef6fd37fe28", func := "verger/vergerlaw13.LocksSound", spec := "locksSound", unfollowed := true, recurses := true, plainKeys := false, apart := false, narrowed := true }
def LocksSoundUptoSaid : Prop := locksSoundUptoRow.holds Try.pinned (OpenSpec.upto locksSoundSpec)

/-- 'vergerlaw13.LocksRising', WHERE WHAT IT READS IS OF BULK AT MOST 1048576: true; the input reads as it did. -/
def locksRisingUptoRow : OpenClaim := { program := "ytacmnfpgimgigaa", sum := "3ab6057274dada899cf7046d7ef4a18243454bed31298c58e2e7bef6fd37fe28", func := "verger/vergerlaw13.LocksRising", spec := "locksRising", inPlace := ["maps.clone"], unfollowed := true, recurses := true, plainKeys := false, apart := false, narrowed := true }
def LocksRisingUptoSaid : Prop := locksRisingUptoRow.holds Try.pinned (OpenSpec.upto locksRisingSpec)

/-- 'vergerlaw13.LocksStuck', WHERE WHAT IT READS IS OF BULK AT MOST 1048576: true; the input reads as it did. -/
def locksStuckUptoRow : OpenClaim := { program := "ytacmnfpgimgigaa", sum := "3ab6057274dada899cf7046d7ef4a18243454bed31298c58e2e7bef6fd37fe28", func := "verger/vergerlaw13.LocksStuck", spec := "locksStuck", inPlace := ["maps.clone"], unfollowed := true, recurses := true, plainKeys := false, apart := false, narrowed := true }
def LocksStuckUptoSaid : Prop := locksStuckUptoRow.holds Try.pinned (OpenSpec.upto locksStuckSpec)

end Rows
end Go.Proofs.Ytacmnfpgimgigaa

/-
  No cell of these rows narrows 'for every input' (looked for: loops, veiled, ifaces, maps, wideKeys, modest, calm, conditions, laid).
  DERIVED. THE GIVEN ROWS OF THIS SEAT. 6 by the template 'for every input the law returns true; each argument reads behind the call as it read before'; 0 by the template 'total and deterministic' (their statements: YtljndiligbaljaaTotals.lean).
  GIVEN WITH THE SEED: the statements are not yours to turn. If you find one false, say at which input.
  Laid BY PROGRAM, IN A SANDBOX (cutbox-rows.mjs): the forced cells as the released guide's own fill.sh prints them over the translation 068e4cda01c74525… (all of the seat's roots in one cut). By AI agents, Wed Nov 11 2026. No macro, syntax, notation, axiom, sorry.
-/
import Derived.Test.YtljndiligbaljaaChecked
import GoSem.Claim
import GoSem.ClaimJoined
import GoSem.ClaimMapViews
import Derived.JoinedTies
import Derived.KernelRfl
namespace Go.Proofs.Ytljndiligbaljaa
/- THE CELL 'sum', in the pinned program and in every row, IS THE sha256 OF THE DUMP (.gsa) THAT YtljndiligbaljaaProg.lean LOADS. Nothing in Lean hashes anything: it is a label: what it is worth is what the hold of that sum in a sandbox is worth. -/
noncomputable def Try.pinned : Pinned := { name := "ytljndiligbaljaa", sum := "068e4cda01c7452543b54a34cc5c3fe95f1cdf4f64053f7964b70d3565615f22", checked := Try.checked }
namespace Rows
def none {H : Type} : Left H := { results := [], args := [] }

/-- 'vergerlaw10.FidsNumbers': WHATEVER THE INPUT: true; the input reads as it did. -/
def fidsNumbersSpec : ChangeSpec := { name := "fidsNumbers", fn := fun _ => fun
  | [] => { results := [.lit (.bool true)], args := [] }
  | _ => none }
def fidsNumbersRow : OpenClaim := { program := "ytljndiligbaljaa", sum := "068e4cda01c7452543b54a34cc5c3fe95f1cdf4f64053f7964b70d3565615f22", func := "verger/vergerlaw10.FidsNumbers", spec := "fidsNumbers", apart := false }
def FidsNumbersSaid : Prop := fidsNumbersRow.holds Try.pinned (OpenSpec.ofChange fidsNumbersSpec)

/-- ITS FALSE NEIGHBOUR: 'it returns false'. Refute it at one input. -/
def fidsNumbersWrong : ChangeSpec := { name := "fidsNumbers", fn := fun _ => fun
  | [] => { results := [.lit (.bool false)], args := [] }
  | _ => none }
def FidsNumbersWrongFalsely : Prop := fidsNumbersRow.holds Try.pinned (OpenSpec.ofChange fidsNumbersWrong)

/-- 'vergerlaw10.FidsKeep': WHATEVER THE INPUT: true; the input reads as it did. -/
def fidsKeepSpec : ChangeSpec := { name := "fidsKeep", fn := fun _ => fun
  | [d1, d2] => { results := [.lit (.bool true)], args := [d1, d2] }
  | _ => none }
def fidsKeepRow : OpenClaim := { program := "ytljndiligbaljaa", sum := "068e4cda01c7452543b54a34cc5c3fe95f1cdf4f64053f7964b70d3565615f22", func := "verger/vergerlaw10.FidsKeep", spec := "fidsKeep", unfollowed := true, recurses := true, apart := false }
def FidsKeepSaid : Prop := fidsKeepRow.holds Try.pinned (OpenSpec.ofChange fidsKeepSpec)

/-- ITS FALSE NEIGHBOUR: 'it returns false'. Refute it at one input. -/
def fidsKeepWrong : ChangeSpec := { name := "fidsKeep", fn := fun _ => fun
  | [d1, d2] => { results := [.lit (.bool false)], args := [d1, d2] }
  | _ => none }
def FidsKeepWrongFalsely : Prop := fidsKeepRow.holds Try.pinned (OpenSpec.ofChange fidsKeepWrong)

/-- 'vergerlaw10.FidsOpens': WHATEVER THE INPUT: true; the input reads as it did. -/
def fidsOpensSpec : ChangeSpec := { name := "fidsOpens", fn := fun _ => fun
  | [d1, d2] => { results := [.lit (.bool true)], args := [d1, d2] }
  | _ => none }
def fidsOpensRow : OpenClaim := { program := "ytljndiligbaljaa", sum := "068e4cda01c7452543b54a34cc5c3fe95f1cdf4f64053f7964b70d3565615f22", func := "verger/vergerlaw10.FidsOpens", spec := "fidsOpens", unfollowed := true, recurses := true, apart := false }
def FidsOpensSaid : Prop := fidsOpensRow.holds Try.pinned (OpenSpec.ofChange fidsOpensSpec)

/-- ITS FALSE NEIGHBOUR: 'it returns false'. Refute it at one input. -/
def fidsOpensWrong : ChangeSpec := { name := "fidsOpens", fn := fun _ => fun
  | [d1, d2] => { results := [.lit (.bool false)], args := [d1, d2] }
  | _ => none }
def FidsOpensWrongFalsely : Prop := fidsOpensRow.holds Try.pinned (OpenSpec.ofChange fidsOpensWrong)

/-- 'vergerlaw10.FidsMoved': WHATEVER THE INPUT: true; the input reads as it did. -/
def fidsMovedSpec : ChangeSpec := { name := "fidsMoved", fn := fun _ => fun
  | [d1, d2] => { results := [.lit (.bool true)], args := [d1, d2] }
  | _ => none }
def fidsMovedRow : OpenClaim := { program := "ytljndiligbaljaa", sum := "068e4cda01c7452543b54a34cc5c3fe95f1cdf4f64053f7964b70d3565615f22", func := "verger/vergerlaw10.FidsMoved", spec := "fidsMoved", unfollowed := true, recurses := true, apart := false }
def FidsMovedSaid : Prop := fidsMovedRow.holds Try.pinned (OpenSpec.ofChange fidsMovedSpec)

/-- ITS FALSE NEIGHBOUR: 'it returns false'. Refute it at one input. -/
def fidsMovedWrong : ChangeSpec := { name := "fidsMoved", fn := fun _ => fun
  | [d1, d2] => { results := [.lit (.bool false)], args := [d1, d2] }
  | _ => none }
def FidsMovedWrongFalsely : Prop := fidsMovedRow.holds Try.pinned (OpenSpec.ofChange fidsMovedWrong)

/-- 'vergerlaw10.FidsDoes': WHATEVER THE INPUT: true; the input reads as it did. -/
def fidsDoesSpec : ChangeSpec := { name := "fidsDoes", fn := fun _ => fun
  | [d1, d2] => { results := [.lit (.bool true)], args := [d1, d2] }
  | _ => none }
def fidsDoesRow : OpenClaim := { program := "ytljndiligbaljaa", sum := "068e4cda01c7452543b54a34cc5c3fe95f1cdf4f64053f7964b70d3565615f22", func := "verger/vergerlaw10.FidsDoes", spec := "fidsDoes", unfollowed := true, recurses := true, apart := false }
def FidsDoesSaid : Prop := fidsDoesRow.holds Try.pinned (OpenSpec.ofChange fidsDoesSpec)

/-- ITS FALSE NEIGHBOUR: 'it returns false'. Refute it at one input. -/
def fidsDoesWrong : ChangeSpec := { name := "fidsDoes", fn := fun _ => fun
  | [d1, d2] => { results := [.lit (.bool false)], args := [d1, d2] }
  | _ => none }
def FidsDoesWrongFalsely : Prop := fidsDoesRow.holds Try.pinned (OpenSpec.ofChange fidsDoesWrong)

/-- 'vergerlaw10.FidsApart': WHATEVER THE INPUT: true; the input reads as it did. -/
def fidsApartSpec : ChangeSpec := { name := "fidsApart", fn := fun _ => fun
  | [d1, d2, d3] => { results := [.lit (.bool true)], args := [d1, d2, d3] }
  | _ => none }
def fidsApartRow : OpenClaim := { program := "ytljndiligbaljaa", sum := "068e4cda01c7452543b54a34cc5c3fe95f1cdf4f64053f7964b70d3565615f22", func := "verger/vergerlaw10.FidsApart", spec := "fidsApart", unfollowed := true, recurses := true, apart := false }
def FidsApartSaid : Prop := fidsApartRow.holds Try.pinned (OpenSpec.ofChange fidsApartSpec)

/-- ITS FALSE NEIGHBOUR: 'it returns false'. Refute it at one input. -/
def fidsApartWrong : ChangeSpec := { name := "fidsApart", fn := fun _ => fun
  | [d1, d2, d3] => { results := [.lit (.bool false)], args := [d1, d2, d3] }
  | _ => none }
def FidsApartWrongFalsely : Prop := fidsApartRow.holds Try.pinned (OpenSpec.ofChange fidsApartWrong)

/- THE SECOND FORM. 'bulk': how many values and letters a reading holds, each counted each time it is reached (what is shared counts as often as it is met; a slice's spare places count too). A statement '..UptoSaid' is the law's where the arguments, and the package variables that the reading takes, are together of bulk at most 1048576: NARROWER than '..Said'. Prove '..Said' where nothing that the law and all that it calls make is longer than what came in: it says more and counts as full. Else prove '..UptoSaid'. A law counts once. -/
mutual
def uptoBulk {H : Type} : DataW H → Nat
  | .lit (.string bytes) => bytes.length + 1
  | .lit _ => 1
  | .nil => 1
  | .ptr d => uptoBulk d + 1
  | .slice elems spare => uptoBulkAll elems + uptoBulkAll spare + 1
  | .agg parts => uptoBulkAll parts + 1
  | .iface _ d => uptoBulk d + 1
  | .map entries => uptoBulkEntries entries + 1
  | .held _ => 1
def uptoBulkAll {H : Type} : List (DataW H) → Nat
  | [] => 0
  | d :: r => uptoBulk d + uptoBulkAll r
def uptoBulkEntries {H : Type} : List (Lit × DataW H) → Nat
  | [] => 0
  | x :: r => uptoBulkEntry x + uptoBulkEntries r
def uptoBulkEntry {H : Type} : Lit × DataW H → Nat
  | (.string bytes, d) => bytes.length + uptoBulk d + 1
  | (_, d) => uptoBulk d + 1
 end
def uptoSmall : (H : Type) → List (DataW H) → Bool := fun _ ds => decide (uptoBulkAll ds ≤ 1048576)
def OpenSpec.upto (s : _root_.Go.ChangeSpec) : _root_.Go.OpenSpec := { _root_.Go.OpenSpec.ofChange s with cond := some uptoSmall }

/-- 'vergerlaw10.FidsNumbers', WHERE WHAT IT READS IS OF BULK AT MOST 1048576: true; the input reads as it did. -/
def fidsNumbersUptoRow : OpenClaim := { program := "ytljndiligbaljaa", sum := "068e4cda01c7452543b54a34cc5c3fe95f1cdf4f64053f7964b70d3565615f22", func := "verger/vergerlaw10.FidsNumbers", spec := "fidsNumbers", apart := false, narrowed := true }
def FidsNumbersUptoSaid : Prop := fidsNumbersUptoRow.holds Try.pinned (OpenSpec.upto fidsNumbersSpec)

/-- 'vergerlaw10.FidsKeep', WHERE WHAT IT READS IS OF BULK AT MOST 1048576: true; the input reads as it did. -/
def fidsKeepUptoRow : OpenClaim := { program := "ytljndiligbaljaa", sum := "068e4cda01c7452543b54a34cc5c3fe95f1cdf4f64053f7964b70d3565615f22", func := "verger/vergerlaw10.FidsKeep", spec := "fidsKeep", unfollowed := true, recurses := true, apart := false, narrowed := true }
def FidsKeepUptoSaid : Prop := fidsKeepUptoRow.holds Try.pinned (OpenSpec.upto fidsKeepSpec)

/-- 'vergerlaw10.FidsOpens', WHERE WHAT IT READS IS OF BULK AT MOST 1048576: true; the input reads as it did. -/
def fidsOpensUptoRow : OpenClaim := { program := "ytljndiligbaljaa", sum := "068e4cda01c7452543b54a34cc5c3fe95f1cdf4f64053f7964b70d3565615f22", func := "verger/vergerlaw10.FidsOpens", spec := "fidsOpens", unfollowed := true, recurses := true, apart := false, narrowed := true }
def FidsOpensUptoSaid : Prop := fidsOpensUptoRow.holds Try.pinned (OpenSpec.upto fidsOpensSpec)

/-- 'vergerlaw10.FidsMoved', WHERE WHAT IT READS IS OF BULK AT MOST 1048576: true; the input reads as it did. -/
def fidsMovedUptoRow : OpenClaim := { program := "ytljndiligbaljaa", sum := "068e4cda01c7452543b54a34cc5c3fe95f1cdf4f64053f7964b70d3565615f22", func := "verger/vergerlaw10.FidsMoved", spec := "fidsMoved", unfollowed := true, recurses := true, apart := false, narrowed := true }
def FidsMovedUptoSaid : Prop := fidsMovedUptoRow.holds Try.pinned (OpenSpec.upto fidsMovedSpec)

/-- 'vergerlaw10.FidsDoes', WHERE WHAT IT READS IS OF BULK AT MOST 1048576: true; the input reads as it did. -/
def fidsDoesUptoRow : OpenClaim := { program := "ytljndiligbaljaa", sum := "068e4cda01c7452543b54a34cc5c3fe95f1cdf4f64053f7964b70d3565615f22", func := "verger/vergerlaw10.FidsDoes", spec := "fidsDoes", unfollowed := true, recurses := true, apart := false, narrowed := true }
def FidsDoesUptoSaid : Prop := fidsDoesUptoRow.holds Try.pinned (OpenSpec.upto fidsDoesSpec)

/-- 'vergerlaw10.FidsApart', WHERE WHAT IT READS IS OF BULK AT MOST 1048576: true; the input reads as it did. -/
def fidsApartUptoRow : OpenClaim := { program := "ytljndiligbaljaa", sum := "068e4cda01c7452543b54a34cc5c3fe95f1cdf4f64053f7964b70d3565615f22", func := "verger/vergerlaw10.FidsApart", spec := "fidsApart", unfollowed := true, recurses := true, apart := false, narrowed := true }
def FidsApartUptoSaid : Prop := fidsApartUptoRow.holds Try.pinned (OpenSpec.upto fidsApartSpec)

end Rows
end Go.Proofs.Ytljndiligbaljaa

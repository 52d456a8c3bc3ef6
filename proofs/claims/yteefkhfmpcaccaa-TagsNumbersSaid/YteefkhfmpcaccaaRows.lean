/-
  No cell of these rows narrows 'for every input' (looked for: loops, veiled, ifaces, maps, wideKeys, modest, calm, conditions, laid).
  DERIVED. THE GIVEN ROWS OF THIS SEAT. 4 by the template 'for every input the law returns true; each argument reads behind the call as it read before'; 0 by the template 'total and deterministic' (their statements: YteefkhfmpcaccaaTotals.lean).
  GIVEN WITH THE SEED: the statements are not yours to turn. If you find one false, say at which input.
  Laid BY PROGRAM, IN A SANDBOX (cutbox-rows.mjs): the forced cells as the released guide's own fill.sh prints them over the translation 547c7a2fbb34cac6… (all of the seat's roots in one cut). By AI agents, Wed Nov 11 2026. No macro, syntax, notation, axiom, sorry.
-/
import Derived.Test.YteefkhfmpcaccaaChecked
import GoSem.Claim
import GoSem.ClaimJoined
import GoSem.ClaimMapViews
import Derived.JoinedTies
import Derived.KernelRfl
namespace Go.Proofs.Yteefkhfmpcaccaa
/- THE CELL 'sum', in the pinned program and in every row, IS THE sha256 OF THE DUMP (.gsa) THAT YteefkhfmpcaccaaProg.lean LOADS. Nothing in Lean hashes anything: it is a label: what it is worth is what the hold of that sum in a sandbox is worth. -/
noncomputable def Try.pinned : Pinned := { name := "yteefkhfmpcaccaa", sum := "547c7a2fbb34cac6a30d0896e10adcc1df68d6801705671d61e96e7dabf868c1", checked := Try.checked }
namespace Rows
def none {H : Type} : Left H := { results := [], args := [] }

/-- 'vergerlaw14.TagsNumbers': WHATEVER THE INPUT: true; the input reads as it did. -/
def tagsNumbersSpec : ChangeSpec := { name := "tagsNumbers", fn := fun _ => fun
  | [] => { results := [.lit (.bool true)], args := [] }
  | _ => none }
def tagsNumbersRow : OpenClaim := { program := "yteefkhfmpcaccaa", sum := "547c7a2fbb34cac6a30d0896e10adcc1df68d6801705671d61e96e7dabf868c1", func := "verger/vergerlaw14.TagsNumbers", spec := "tagsNumbers", recurses := true, apart := false }
def TagsNumbersSaid : Prop := tagsNumbersRow.holds Try.pinned (OpenSpec.ofChange tagsNumbersSpec)

/-- ITS FALSE NEIGHBOUR: 'it returns false'. Refute it at one input. -/
def tagsNumbersWrong : ChangeSpec := { name := "tagsNumbers", fn := fun _ => fun
  | [] => { results := [.lit (.bool false)], args := [] }
  | _ => none }
def TagsNumbersWrongFalsely : Prop := tagsNumbersRow.holds Try.pinned (OpenSpec.ofChange tagsNumbersWrong)

/-- 'vergerlaw14.TagsFlush': WHATEVER THE INPUT: true; the input reads as it did. -/
def tagsFlushSpec : ChangeSpec := { name := "tagsFlush", fn := fun _ => fun
  | [d] => { results := [.lit (.bool true)], args := [d] }
  | _ => none }
def tagsFlushRow : OpenClaim := { program := "yteefkhfmpcaccaa", sum := "547c7a2fbb34cac6a30d0896e10adcc1df68d6801705671d61e96e7dabf868c1", func := "verger/vergerlaw14.TagsFlush", spec := "tagsFlush", unfollowed := true, recurses := true, apart := false }
def TagsFlushSaid : Prop := tagsFlushRow.holds Try.pinned (OpenSpec.ofChange tagsFlushSpec)

/-- ITS FALSE NEIGHBOUR: 'it returns false'. Refute it at one input. -/
def tagsFlushWrong : ChangeSpec := { name := "tagsFlush", fn := fun _ => fun
  | [d] => { results := [.lit (.bool false)], args := [d] }
  | _ => none }
def TagsFlushWrongFalsely : Prop := tagsFlushRow.holds Try.pinned (OpenSpec.ofChange tagsFlushWrong)

/-- 'vergerlaw14.TagsDoes': WHATEVER THE INPUT: true; the input reads as it did. -/
def tagsDoesSpec : ChangeSpec := { name := "tagsDoes", fn := fun _ => fun
  | [d1, d2] => { results := [.lit (.bool true)], args := [d1, d2] }
  | _ => none }
def tagsDoesRow : OpenClaim := { program := "yteefkhfmpcaccaa", sum := "547c7a2fbb34cac6a30d0896e10adcc1df68d6801705671d61e96e7dabf868c1", func := "verger/vergerlaw14.TagsDoes", spec := "tagsDoes", unfollowed := true, recurses := true, apart := false }
def TagsDoesSaid : Prop := tagsDoesRow.holds Try.pinned (OpenSpec.ofChange tagsDoesSpec)

/-- ITS FALSE NEIGHBOUR: 'it returns false'. Refute it at one input. -/
def tagsDoesWrong : ChangeSpec := { name := "tagsDoes", fn := fun _ => fun
  | [d1, d2] => { results := [.lit (.bool false)], args := [d1, d2] }
  | _ => none }
def TagsDoesWrongFalsely : Prop := tagsDoesRow.holds Try.pinned (OpenSpec.ofChange tagsDoesWrong)

/-- 'vergerlaw14.TagsReset': WHATEVER THE INPUT: true; the input reads as it did. -/
def tagsResetSpec : ChangeSpec := { name := "tagsReset", fn := fun _ => fun
  | [d] => { results := [.lit (.bool true)], args := [d] }
  | _ => none }
def tagsResetRow : OpenClaim := { program := "yteefkhfmpcaccaa", sum := "547c7a2fbb34cac6a30d0896e10adcc1df68d6801705671d61e96e7dabf868c1", func := "verger/vergerlaw14.TagsReset", spec := "tagsReset", unfollowed := true, recurses := true, apart := false }
def TagsResetSaid : Prop := tagsResetRow.holds Try.pinned (OpenSpec.ofChange tagsResetSpec)

/-- ITS FALSE NEIGHBOUR: 'it returns false'. Refute it at one input. -/
def tagsResetWrong : ChangeSpec := { name := "tagsReset", fn := fun _ => fun
  | [d] => { results := [.lit (.bool false)], args := [d] }
  | _ => none }
def TagsResetWrongFalsely : Prop := tagsResetRow.holds Try.pinned (OpenSpec.ofChange tagsResetWrong)

/- THE SECOND FORM. 'bulk': how many values and letters a reading holds, each counted each time it is reached (what is shared counts as often as it is met; a slice's spare places count too). A statement '..UptoSaid' is the law's where the arguments, and the package variables that the reading takes, are together of bulk at most 1048576: NARROWER than '..Said'. Prove '..Said' where nothing that the law and all that it calls make is longer than what came in: it says more and counts as full. Else prove '..UptoSaid'. A law counts once. -/
mutual
def uptoBulk {H : Type} : DataW H → Nat
  | .lit (.string bytes) => bytes.length + 1
  | .lit _ => 1
  | .nil => 1
  | .ptr d => uptoBulk d + 1
  | .slice elems spare => uptoBulkAll elems + uptoBulkAll spare + 1
  | .agg parts => uptoBulkAll parts + 1
  | .iface _ d => uptoBulk d + 1
  | .map entries => uptoBulkEntries entries + 1
  | .held _ => 1
def uptoBulkAll {H : Type} : List (DataW H) → Nat
  | [] => 0
  | d :: r => uptoBulk d + uptoBulkAll r
def uptoBulkEntries {H : Type} : List (Lit × DataW H) → Nat
  | [] => 0
  | x :: r => uptoBulkEntry x + uptoBulkEntries r
def uptoBulkEntry {H : Type} : Lit × DataW H → Nat
  | (.string bytes, d) => bytes.length + uptoBulk d + 1
  | (_, d) => uptoBulk d + 1
 end
def uptoSmall : (H : Type) → List (DataW H) → Bool := fun _ ds => decide (uptoBulkAll ds ≤ 1048576)
def OpenSpec.upto (s : _root_.Go.ChangeSpec) : _root_.Go.OpenSpec := { _root_.Go.OpenSpec.ofChange s with cond := some uptoSmall }

/-- 'vergerlaw14.TagsNumbers', WHERE WHAT IT READS IS OF BULK AT MOST 1048576: true; the input reads as it did. -/
def tagsNumbersUptoRow : OpenClaim := { program := "yteefkhfmpcaccaa", sum := "547c7a2fbb34cac6a30d0896e10adcc1df68d6801705671d61e96e7dabf868c1", func := "verger/vergerlaw14.TagsNumbers", spec := "tagsNumbers", recurses := true, apart := false, narrowed := true }
def TagsNumbersUptoSaid : Prop := tagsNumbersUptoRow.holds Try.pinned (OpenSpec.upto tagsNumbersSpec)

/-- 'vergerlaw14.TagsFlush', WHERE WHAT IT READS IS OF BULK AT MOST 1048576: true; the input reads as it did. -/
def tagsFlushUptoRow : OpenClaim := { program := "yteefkhfmpcaccaa", sum := "547c7a2fbb34cac6a30d0896e10adcc1df68d6801705671d61e96e7dabf868c1", func := "verger/vergerlaw14.TagsFlush", spec := "tagsFlush", unfollowed := true, recurses := true, apart := false, narrowed := true }
def TagsFlushUptoSaid : Prop := tagsFlushUptoRow.holds Try.pinned (OpenSpec.upto tagsFlushSpec)

/-- 'vergerlaw14.TagsDoes', WHERE WHAT IT READS IS OF BULK AT MOST 1048576: true; the input reads as it did. -/
def tagsDoesUptoRow : OpenClaim := { program := "yteefkhfmpcaccaa", sum := "547c7a2fbb34cac6a30d0896e10adcc1df68d6801705671d61e96e7dabf868c1", func := "verger/vergerlaw14.TagsDoes", spec := "tagsDoes", unfollowed := true, recurses := true, apart := false, narrowed := true }
def TagsDoesUptoSaid : Prop := tagsDoesUptoRow.holds Try.pinned (OpenSpec.upto tagsDoesSpec)

/-- 'vergerlaw14.TagsReset', WHERE WHAT IT READS IS OF BULK AT MOST 1048576: true; the input reads as it did. -/
def tagsResetUptoRow : OpenClaim := { program := "yteefkhfmpcaccaa", sum := "547c7a2fbb34cac6a30d0896e10adcc1df68d6801705671d61e96e7dabf868c1", func := "verger/vergerlaw14.TagsReset", spec := "tagsReset", unfollowed := true, recurses := true, apart := false, narrowed := true }
def TagsResetUptoSaid : Prop := tagsResetUptoRow.holds Try.pinned (OpenSpec.upto tagsResetSpec)

end Rows
end Go.Proofs.Yteefkhfmpcaccaa

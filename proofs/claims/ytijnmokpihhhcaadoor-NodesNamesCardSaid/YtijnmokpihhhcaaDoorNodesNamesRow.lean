/-
  The statement NodesNames: The numbers of operations, fields, errors and limits of the nodes layer are what the document says, and its examples are answered so. No conditions.
-/
import Derived.Test.YtijnmokpihhhcaaDoorRows
import Derived.Test.YtijnmokpihhhcaaDoorTie
import Derived.Test.YtijnmokpihhhcaaDoorCards
import Derived.Test.YtijnmokpihhhcaaDoorZ12
import Derived.SevenTiedAt
import Derived.Below
import Derived.WalkKit
import Derived.ProofKit
import Derived.OpenShut
import Derived.ShutString
import Derived.ChangeOld
import Derived.Carry
import Derived.SizedLaws
namespace Go.Proofs.YtijnmokpihhhcaaDoor.nodesNames
open Go.Proofs.YtijnmokpihhhcaaDoor
open Go.ChangeShapes Go.WideShapes Go.ChangeAt Go.RowKit
open Go.ChangeMaps (open_string shut_string)
set_option linter.unusedVariables false

theorem own : ownKnob Tryd.prog.godebug = none := by kernel_rfl
theorem laidOut : laidOutB Tryd.prog = true := by kernel_rfl


set_option maxRecDepth 100000 in
theorem lifted (os : Os) (started : os.Started) (H : Type) (enc : TypeId × Value → H) :
    ReturnsInHanded {} Tryd.checked os 3 .any (fun w args => (Rows.nodesNamesSpec.pre enc Tryd.prog Tryd.f3 Rows.nodesNamesRow.domain false w args ∧ laidMetH Tryd.prog Rows.nodesNamesRow.laid w) ∧ sizedMet enc Tryd.prog Tryd.f3 (OpenSpec.ofChange Rows.nodesNamesSpec) false w args) (Rows.nodesNamesSpec.post enc Tryd.prog Tryd.f3 false true false false) := by
  refine returns_laid (C := Tryd.checked) (laid := laidU8) own started (by kernel_rfl) Tryd.func3
    (ChangeSpec.witness_shaped (enc := enc) (C := Tryd.checked) (os := os) (X := fun w _ => laidMetH Tryd.prog laidU8 w) false (laidWorld os) #[] 8 (World.laidAll_os _ _ _)
      (laidWorld_shaped os _) (by kernel_rfl) (by kernel_rfl) (by kernel_rfl) (laidWorld_met os _)) ?_
  intro W base args ds gs before hval0 hW hcnd hsz0 hL hsh _
  have tabs : Ent (Old W) Tabs := tabs_old hL hsh
  haveI : Gives (Old W) Tabs := ⟨tabs⟩
  have hval : ∀ (j : Nat) t v, Tryd.f3.params[j]? = some t → args[j]? = some v → Value.okWide Tryd.prog W .any base t v := hval0
  have hW' := hW
  obtain ⟨p, q, hA0, hV, rfl, hfz, hnd⟩ := hW
  have hA : DataW.TrodAll enc Tryd.prog W 0 (fun _ => true) true Tryd.f3.params.toList args.toList ds p := hA0
  rw [Tryd.params3] at hA hval
  obtain ⟨rfl, rfl, rfl⟩ := trodAll_none hA
  obtain ⟨rfl, rfl⟩ := trodVars_none hV
  clear hA0 hval0
  simp only [List.append_nil] at hW'
  have walk := names_any (St.start W)
  refine walk.mono fun e W' ⟨hst, he⟩ => ?_
  have bel := hst.below0
  subst he
  exact ⟨_, rfl, _, _, _, [], _, [], hW', trodAll_mk1 (shut_bool Tryd.underlying4 _), trodAll_mk0, rfl, bel.frame _, fun h => by cases h⟩

theorem over : Rows.nodesNamesRow.holds Tryd.pinned (OpenSpec.ofChange Rows.nodesNamesSpec) :=
  OpenClaim.holds_of_wide 3 Tryd.f3 rfl rfl rfl rfl rfl rfl rfl ⟨rfl, rfl, rfl, rfl, rfl⟩ rfl rfl rfl rfl rfl (by kernel_rfl) Tryd.func3 (by kernel_rfl)
    (of_decide_eq_true (by kernel_rfl)) (by unfold Func.isWrapper; first | (rw [if_pos (by decide +kernel)]; kernel_rfl) | (rw [if_neg (by decide +kernel)]; exact ⟨rfl, rfl⟩))
    (fun os started H enc _ => lifted os started H enc)

theorem said : Rows.NodesNamesSaid :=
  over

theorem proved : Rows.NodesNamesCardSaid :=
  Claim7.holds_tied_plain_at .later [] [.data, .pinned] true (true, "66d1f36538062ea585267282a09c8e5371b93a57b8ebe2a91a95b79da9598c10") false
    said (fun _ h => by cases h) (by kernel_rfl) (fun _ h => by cases h) nodesNames_row_tie rfl ⟨rfl, rfl⟩ (by kernel_rfl) rfl
    (fun f fn hf hfn => by
      obtain rfl : f = 3 := Option.some.inj ((show Tryd.prog.funcNamed "verger/vergerlaw08.NodesNames" = some 3 by kernel_rfl).symm.trans hf) |>.symm
      obtain rfl : fn = Tryd.f3 := (Option.some.inj (Tryd.func3.symm.trans hfn)).symm
      exact ⟨by kernel_rfl, fun j t ht => by
        rw [Tryd.params3] at ht
        simp at ht⟩)
    (by kernel_rfl)
#print axioms proved
end Go.Proofs.YtijnmokpihhhcaaDoor.nodesNames


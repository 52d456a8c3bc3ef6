/-
  The statement TagsReset: behind Reset nothing that was begun ahead comes of it: the function returns true for every list of acts. No conditions.
-/
import Derived.Test.YteefkhfmpcaccaaRows
import Derived.Test.YteefkhfmpcaccaaTgM
import Derived.Test.YteefkhfmpcaccaaArgs
import Derived.Below
import Derived.WalkKit
import Derived.ProofKit
import Derived.OpenShut
import Derived.ShutString
import Derived.ChangeOld
import Derived.Carry
import Derived.SizedLaws
namespace Go.Proofs.Yteefkhfmpcaccaa.tagsReset
open Go.Proofs.Yteefkhfmpcaccaa
open Go.ChangeShapes Go.WideShapes Go.ChangeAt Go.RowKit
open Go.ChangeMaps (open_string shut_string)
set_option linter.unusedVariables false

theorem own : ownKnob Try.prog.godebug = none := by kernel_rfl
theorem laidOut : laidOutB Try.prog = true := by kernel_rfl

abbrev rdT3 := rInt .i64
theorem opT3 : Opens Try.prog 3 rdT3 := opens_int Try.underlying3
abbrev rdT28 := rCons 1 rdT3 (rCons 1 rdT3 (rCons 1 rdT3 (rEnd)))
theorem opT28 : Opens Try.prog 28 rdT28 := opens_struct Try.underlying28 (N := 3) (by kernel_rfl) (opensF_cons (N := 3) (off := 0) (s := 1) rfl (by kernel_rfl) (by decide) opT3 (opensF_cons (N := 3) (off := 1) (s := 1) rfl (by kernel_rfl) (by decide) opT3 (opensF_cons (N := 3) (off := 2) (s := 1) rfl (by kernel_rfl) (by decide) opT3 (opensF_nil))))
abbrev rdT25 := rSlice 3 24 rdT28
theorem opT25 : Opens Try.prog 25 rdT25 := opens_slice Try.underlying25 (by kernel_rfl) (by kernel_rfl) (by decide) opT28

set_option maxRecDepth 100000 in
theorem lifted (os : Os) (started : os.Started) (H : Type) (enc : TypeId × Value → H) :
    ReturnsInHanded {} Try.checked os 6 .any (Rows.tagsResetSpec.pre6 enc Try.prog Try.f6 Rows.tagsResetRow.domain false) (Rows.tagsResetSpec.post enc Try.prog Try.f6 false true false false) := by
  refine returnsInHanded_of_change_sized (C := Try.checked) own started (by kernel_rfl) Try.func6
    (ChangeSpec.witness6 (enc := enc) (C := Try.checked) false ⟨#[], #[.slice none 0 0], []⟩ 8 (by kernel_rfl) (by kernel_rfl) (by kernel_rfl) (by kernel_rfl)) ?_
  intro W base args ds gs before hval0 hW hcnd hsz0 _
  have hval : ∀ (j : Nat) t v, Try.f6.params[j]? = some t → args[j]? = some v → Value.okWide Try.prog W .any base t v := hval0
  have hsz : (DataW.weightsEach Try.prog (Try.f6.params.toList ++ Rows.tagsResetSpec.plain.varTypes Try.prog) (ds ++ gs)).all (· ≤ reachBytes) = true := hsz0
  have hW' := hW
  obtain ⟨p, q, hA0, hV, rfl, hfz, hnd⟩ := hW
  have hA : DataW.TrodAll enc Try.prog W 0 (fun _ => true) true Try.f6.params.toList args.toList ds p := hA0
  rw [Try.params6] at hA hval hsz
  obtain ⟨v0, vs0, d0, ds0, p0, q0, hargs, rfl, rfl, h0, r0⟩ := trodAll_cons hA
  obtain ⟨rfl, rfl, rfl⟩ := trodAll_nil r0
  obtain rfl : args = #[v0] := by cases args; simp_all
  obtain ⟨rfl, rfl⟩ := trodVars_none hV
  have k0 := h0
  have lt0 : ∀ x ∈ p0, x.block < W.heap.size := by obtain ⟨m, hm⟩ := k0; exact DataW.trod_lt m _ _ _ hm
  obtain ⟨x0, c0⟩ := Opens.arg opT25 h0 hsz 0 rfl rfl
  obtain ⟨a0, l0, cap0, rfl⟩ := okWide_slice Try.underlying25 (hval 0 25 v0 rfl rfl)
  replace c0 : (rdT25).rel x0 [.slice a0 l0 cap0] (heapOf W) := c0
  clear hA0 hval0
  obtain ⟨acs, ha, hr, hlen⟩ := act_arg c0
  have walk := tagsReset_any (St.start W) hr ha hlen
  refine walk.mono fun e W' ⟨hst, he⟩ => ?_
  have bel := hst.below0
  subst he
  exact ⟨_, rfl, _, _, _, [], _, [], hW', trodAll_mk1 (shut_bool Try.underlying4 _), (trodAll_cons_mk (Below.trod laidOut (by kernel_rfl) (of_decide_eq_true (by kernel_rfl)) k0 bel lt0) trodAll_mk0), rfl, bel.frame _, fun h => by cases h⟩

theorem over : Rows.tagsResetRow.holds Try.pinned (OpenSpec.ofChange Rows.tagsResetSpec) :=
  OpenClaim.holds_of_wide 6 Try.f6 rfl rfl rfl rfl rfl rfl rfl ⟨rfl, rfl, rfl, rfl, rfl⟩ rfl rfl rfl rfl rfl (by kernel_rfl) Try.func6 (by kernel_rfl)
    (of_decide_eq_true (by kernel_rfl)) (by unfold Func.isWrapper; first | (rw [if_pos (by decide +kernel)]; kernel_rfl) | (rw [if_neg (by decide +kernel)]; exact ⟨rfl, rfl⟩))
    (fun os started H enc _ => lifted os started H enc)

theorem proved : Rows.TagsResetSaid :=
  over
#print axioms proved
end Go.Proofs.Yteefkhfmpcaccaa.tagsReset

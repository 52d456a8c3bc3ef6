/-
  The statement LocksStuck: just those are told to be stuck who wait for ever, and for whom: the function returns true for every list of moves. No conditions.
-/
import Derived.Test.YtacmnfpgimgigaaRows
import Derived.Test.YtacmnfpgimgigaaZ12
import Derived.Below
import Derived.WalkKit
import Derived.ProofKit
import Derived.OpenShut
import Derived.ShutString
import Derived.ChangeOld
import Derived.Carry
import Derived.SizedLaws
namespace Go.Proofs.Ytacmnfpgimgigaa.locksStuck
open Go.Proofs.Ytacmnfpgimgigaa
open Go.ChangeShapes Go.WideShapes Go.ChangeAt Go.RowKit
open Go.ChangeMaps (open_string shut_string)
set_option linter.unusedVariables false

theorem own : ownKnob Try.prog.godebug = none := by kernel_rfl
theorem laidOut : laidOutB Try.prog = true := by kernel_rfl

abbrev rdT4 := rBool
theorem opT4 : Opens Try.prog 4 rdT4 := opens_bool Try.underlying4
abbrev rdT3 := rInt .i64
theorem opT3 : Opens Try.prog 3 rdT3 := opens_int Try.underlying3
abbrev rdT44 := rCons 1 rdT3 (rCons 1 rdT3 (rCons 1 rdT3 (rCons 1 rdT4 (rEnd))))
theorem opT44 : Opens Try.prog 44 rdT44 := opens_struct Try.underlying44 (N := 4) (by kernel_rfl) (opensF_cons (N := 4) (off := 0) (s := 1) rfl (by kernel_rfl) (by decide) opT3 (opensF_cons (N := 4) (off := 1) (s := 1) rfl (by kernel_rfl) (by decide) opT3 (opensF_cons (N := 4) (off := 2) (s := 1) rfl (by kernel_rfl) (by decide) opT3 (opensF_cons (N := 4) (off := 3) (s := 1) rfl (by kernel_rfl) (by decide) opT4 (opensF_nil)))))
abbrev rdT29 := rSlice 4 32 rdT44
theorem opT29 : Opens Try.prog 29 rdT29 := opens_slice Try.underlying29 (by kernel_rfl) (by kernel_rfl) (by decide) opT44

set_option maxRecDepth 100000 in
theorem lifted (os : Os) (started : os.Started) (H : Type) (enc : TypeId × Value → H) :
    ReturnsInHanded {} Try.checked os 8 .any (Rows.locksStuckSpec.pre6 enc Try.prog Try.f8 Rows.locksStuckRow.domain false) (Rows.locksStuckSpec.post enc Try.prog Try.f8 false true false false) := by
  refine returnsInHanded_of_change_sized (C := Try.checked) own started (by kernel_rfl) Try.func8
    (ChangeSpec.witness6 (enc := enc) (C := Try.checked) false ⟨#[], #[.slice none 0 0], []⟩ 8 (by kernel_rfl) (by kernel_rfl) (by kernel_rfl) (by kernel_rfl)) ?_
  intro W base args ds gs before hval0 hW hcnd hsz0 _
  have hval : ∀ (j : Nat) t v, Try.f8.params[j]? = some t → args[j]? = some v → Value.okWide Try.prog W .any base t v := hval0
  have hsz : (DataW.weightsEach Try.prog (Try.f8.params.toList ++ Rows.locksStuckSpec.plain.varTypes Try.prog) (ds ++ gs)).all (· ≤ reachBytes) = true := hsz0
  have hW' := hW
  obtain ⟨p, q, hA0, hV, rfl, hfz, hnd⟩ := hW
  have hA : DataW.TrodAll enc Try.prog W 0 (fun _ => true) true Try.f8.params.toList args.toList ds p := hA0
  rw [Try.params8] at hA hval hsz
  obtain ⟨v0, vs0, d0, ds0, p0, q0, hargs, rfl, rfl, h0, r0⟩ := trodAll_cons hA
  obtain ⟨rfl, rfl, rfl⟩ := trodAll_nil r0
  obtain rfl : args = #[v0] := by cases args; simp_all
  obtain ⟨rfl, rfl⟩ := trodVars_none hV
  have k0 := h0
  have lt0 : ∀ x ∈ p0, x.block < W.heap.size := by obtain ⟨m, hm⟩ := k0; exact DataW.trod_lt m _ _ _ hm
  obtain ⟨x0, c0⟩ := Opens.arg opT29 h0 hsz 0 rfl rfl
  obtain ⟨a0, l0, cap0, rfl⟩ := okWide_slice Try.underlying29 (hval 0 29 v0 rfl rfl)
  replace c0 : (rdT29).rel x0 [.slice a0 l0 cap0] (heapOf W) := c0
  clear hA0 hval0
  obtain ⟨ms, hms, hrd⟩ := mv_arg c0
  have walk := locksStuck_any (St.start W) hrd hms
  refine walk.mono fun e W' ⟨hst, he⟩ => ?_
  have bel := hst.below0
  subst he
  exact ⟨_, rfl, _, _, _, [], _, [], hW', trodAll_mk1 (shut_bool Try.underlying4 _), (trodAll_cons_mk (Below.trod laidOut (by kernel_rfl) (of_decide_eq_true (by kernel_rfl)) k0 bel lt0) trodAll_mk0), rfl, bel.frame _, fun h => by cases h⟩

theorem over : Rows.locksStuckRow.holds Try.pinned (OpenSpec.ofChange Rows.locksStuckSpec) :=
  OpenClaim.holds_of_wide 8 Try.f8 rfl rfl rfl rfl rfl rfl rfl ⟨rfl, rfl, rfl, rfl, rfl⟩ rfl rfl rfl rfl rfl (by kernel_rfl) Try.func8 (by kernel_rfl)
    (of_decide_eq_true (by kernel_rfl)) (by unfold Func.isWrapper; first | (rw [if_pos (by decide +kernel)]; kernel_rfl) | (rw [if_neg (by decide +kernel)]; exact ⟨rfl, rfl⟩))
    (fun os started H enc _ => lifted os started H enc)

theorem proved : Rows.LocksStuckSaid :=
  over
#print axioms proved
end Go.Proofs.Ytacmnfpgimgigaa.locksStuck

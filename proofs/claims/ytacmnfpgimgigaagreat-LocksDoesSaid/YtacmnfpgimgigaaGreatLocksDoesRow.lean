/-
  The statement LocksDoes: every table, three side by side, in every order of calls. No conditions.
-/
import Derived.Test.YtacmnfpgimgigaaGreatRows
import Derived.Test.YtacmnfpgimgigaaGreatZ13
import Derived.Below
import Derived.WalkKit
import Derived.ProofKit
import Derived.OpenShut
import Derived.ShutString
import Derived.ChangeOld
import Derived.Carry
import Derived.SizedLaws
namespace Go.Proofs.YtacmnfpgimgigaaGreat.locksDoes
open Go.Proofs.YtacmnfpgimgigaaGreat
open Go.ChangeShapes Go.WideShapes Go.ChangeAt Go.RowKit
open Go.ChangeMaps (open_string shut_string)
set_option linter.unusedVariables false

theorem own : ownKnob Tryz.prog.godebug = none := by kernel_rfl
theorem laidOut : laidOutB Tryz.prog = true := by kernel_rfl

abbrev rdT4 := rBool
theorem opT4 : Opens Tryz.prog 4 rdT4 := opens_bool Tryz.underlying4
abbrev rdT38 := rInt .u64
theorem opT38 : Opens Tryz.prog 38 rdT38 := opens_int Tryz.underlying38
abbrev rdT3 := rInt .i64
theorem opT3 : Opens Tryz.prog 3 rdT3 := opens_int Tryz.underlying3
abbrev rdT37 := rInt .u8
theorem opT37 : Opens Tryz.prog 37 rdT37 := opens_int Tryz.underlying37
abbrev rdT40 := rCons 1 rdT37 (rCons 1 rdT3 (rCons 1 rdT38 (rEnd)))
theorem opT40 : Opens Tryz.prog 40 rdT40 := opens_struct Tryz.underlying40 (N := 3) (by kernel_rfl) (opensF_cons (N := 3) (off := 0) (s := 1) rfl (by kernel_rfl) (by decide) opT37 (opensF_cons (N := 3) (off := 1) (s := 1) rfl (by kernel_rfl) (by decide) opT3 (opensF_cons (N := 3) (off := 2) (s := 1) rfl (by kernel_rfl) (by decide) opT38 (opensF_nil))))
abbrev rdT42 := rCons 3 rdT40 (rCons 1 rdT4 (rEnd))
theorem opT42 : Opens Tryz.prog 42 rdT42 := opens_struct Tryz.underlying42 (N := 4) (by kernel_rfl) (opensF_cons (N := 4) (off := 0) (s := 3) rfl (by kernel_rfl) (by decide) opT40 (opensF_cons (N := 4) (off := 3) (s := 1) rfl (by kernel_rfl) (by decide) opT4 (opensF_nil)))
abbrev rdT44 := rCons 1 rdT3 (rCons 1 rdT3 (rCons 1 rdT3 (rCons 4 rdT42 (rEnd))))
theorem opT44 : Opens Tryz.prog 44 rdT44 := opens_struct Tryz.underlying44 (N := 7) (by kernel_rfl) (opensF_cons (N := 7) (off := 0) (s := 1) rfl (by kernel_rfl) (by decide) opT3 (opensF_cons (N := 7) (off := 1) (s := 1) rfl (by kernel_rfl) (by decide) opT3 (opensF_cons (N := 7) (off := 2) (s := 1) rfl (by kernel_rfl) (by decide) opT3 (opensF_cons (N := 7) (off := 3) (s := 4) rfl (by kernel_rfl) (by decide) opT42 (opensF_nil)))))
abbrev rdT22 := rSlice 7 56 rdT44
theorem opT22 : Opens Tryz.prog 22 rdT22 := opens_slice Tryz.underlying22 (by kernel_rfl) (by kernel_rfl) (by decide) opT44

set_option maxRecDepth 100000 in
theorem lifted (os : Os) (started : os.Started) (H : Type) (enc : TypeId × Value → H) :
    ReturnsInHanded {} Tryz.checked os 3 .any (Rows.locksDoesSpec.pre6 enc Tryz.prog Tryz.f3 Rows.locksDoesRow.domain false) (Rows.locksDoesSpec.post enc Tryz.prog Tryz.f3 false true false false) := by
  refine returnsInHanded_of_change_sized (C := Tryz.checked) own started (by kernel_rfl) Tryz.func3
    (ChangeSpec.witness6 (enc := enc) (C := Tryz.checked) false ⟨#[], #[.slice none 0 0], []⟩ 8 (by kernel_rfl) (by kernel_rfl) (by kernel_rfl) (by kernel_rfl)) ?_
  intro W base args ds gs before hval0 hW hcnd hsz0 _
  have hval : ∀ (j : Nat) t v, Tryz.f3.params[j]? = some t → args[j]? = some v → Value.okWide Tryz.prog W .any base t v := hval0
  have hsz : (DataW.weightsEach Tryz.prog (Tryz.f3.params.toList ++ Rows.locksDoesSpec.plain.varTypes Tryz.prog) (ds ++ gs)).all (· ≤ reachBytes) = true := hsz0
  have hW' := hW
  obtain ⟨p, q, hA0, hV, rfl, hfz, hnd⟩ := hW
  have hA : DataW.TrodAll enc Tryz.prog W 0 (fun _ => true) true Tryz.f3.params.toList args.toList ds p := hA0
  rw [Tryz.params3] at hA hval hsz
  obtain ⟨v0, vs0, d0, ds0, p0, q0, hargs, rfl, rfl, h0, r0⟩ := trodAll_cons hA
  obtain ⟨rfl, rfl, rfl⟩ := trodAll_nil r0
  obtain rfl : args = #[v0] := by cases args; simp_all
  obtain ⟨rfl, rfl⟩ := trodVars_none hV
  have k0 := h0
  have lt0 : ∀ x ∈ p0, x.block < W.heap.size := by obtain ⟨m, hm⟩ := k0; exact DataW.trod_lt m _ _ _ hm
  obtain ⟨x0, c0⟩ := Opens.arg opT22 h0 hsz 0 rfl rfl
  obtain ⟨a0, l0, cap0, rfl⟩ := okWide_slice Tryz.underlying22 (hval 0 22 v0 rfl rfl)
  replace c0 : (rdT22).rel x0 [.slice a0 l0 cap0] (heapOf W) := c0
  clear hA0 hval0
  obtain ⟨os2, hos, hrd⟩ := op_arg c0
  have walk := locksDoes_any (St.start W) hrd hos
  refine walk.mono fun e W' ⟨hst, he⟩ => ?_
  have bel := hst.below0
  subst he
  exact ⟨_, rfl, _, _, _, [], _, [], hW', trodAll_mk1 (shut_bool Tryz.underlying4 _), (trodAll_cons_mk (Below.trod laidOut (by kernel_rfl) (of_decide_eq_true (by kernel_rfl)) k0 bel lt0) trodAll_mk0), rfl, bel.frame _, fun h => by cases h⟩

theorem over : Rows.locksDoesRow.holds Tryz.pinned (OpenSpec.ofChange Rows.locksDoesSpec) :=
  OpenClaim.holds_of_wide 3 Tryz.f3 rfl rfl rfl rfl rfl rfl rfl ⟨rfl, rfl, rfl, rfl, rfl⟩ rfl rfl rfl rfl rfl (by kernel_rfl) Tryz.func3 (by kernel_rfl)
    (of_decide_eq_true (by kernel_rfl)) (by unfold Func.isWrapper; first | (rw [if_pos (by decide +kernel)]; kernel_rfl) | (rw [if_neg (by decide +kernel)]; exact ⟨rfl, rfl⟩))
    (fun os started H enc _ => lifted os started H enc)

theorem proved : Rows.LocksDoesSaid :=
  over
#print axioms proved
end Go.Proofs.YtacmnfpgimgigaaGreat.locksDoes

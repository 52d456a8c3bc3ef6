/-
  The statement FrameCuts: whatever cutters are made and whatever is done to them, the package's cutter and the document's go alike, and every list that came out keeps its bytes No conditions.
-/
import Derived.Test.YtfamclpajjnfbaaRows
import Derived.Test.YtfamclpajjnfbaaFrZ
import Derived.Test.YtfamclpajjnfbaaArgs
import Derived.Test.YtfamclpajjnfbaaArgs
import Derived.Below
import Derived.WalkKit
import Derived.ProofKit
import Derived.OpenShut
import Derived.ShutString
import Derived.ChangeOld
import Derived.Carry
import Derived.SizedLaws
namespace Go.Proofs.Ytfamclpajjnfbaa.frameCuts
open Go.Proofs.Ytfamclpajjnfbaa
open Go.ChangeShapes Go.WideShapes Go.ChangeAt Go.RowKit
open Go.ChangeMaps (open_string shut_string)
set_option linter.unusedVariables false

theorem own : ownKnob Try.prog.godebug = none := by kernel_rfl
theorem laidOut : laidOutB Try.prog = true := by kernel_rfl

abbrev rdT30 := rInt .u32
theorem opT30 : Opens Try.prog 30 rdT30 := opens_int Try.underlying30
abbrev rdT23 := rSlice 1 4 rdT30
theorem opT23 : Opens Try.prog 23 rdT23 := opens_slice Try.underlying23 (by kernel_rfl) (by kernel_rfl) (by decide) opT30
abbrev rdT35 := rBytes
theorem opT35 : Opens Try.prog 35 rdT35 := opens_bytes Try.underlying35 Try.underlying5 (by kernel_rfl) (by kernel_rfl)
abbrev rdT3 := rInt .i64
theorem opT3 : Opens Try.prog 3 rdT3 := opens_int Try.underlying3
abbrev rdT40 := rCons 1 rdT3 (rCons 1 rdT3 (rCons 1 rdT35 (rCons 1 rdT30 (rEnd))))
theorem opT40 : Opens Try.prog 40 rdT40 := opens_struct Try.underlying40 (N := 4) (by kernel_rfl) (opensF_cons (N := 4) (off := 0) (s := 1) rfl (by kernel_rfl) (by decide) opT3 (opensF_cons (N := 4) (off := 1) (s := 1) rfl (by kernel_rfl) (by decide) opT3 (opensF_cons (N := 4) (off := 2) (s := 1) rfl (by kernel_rfl) (by decide) opT35 (opensF_cons (N := 4) (off := 3) (s := 1) rfl (by kernel_rfl) (by decide) opT30 (opensF_nil)))))
abbrev rdT24 := rSlice 4 48 rdT40
theorem opT24 : Opens Try.prog 24 rdT24 := opens_slice Try.underlying24 (by kernel_rfl) (by kernel_rfl) (by decide) opT40

set_option maxRecDepth 100000 in
theorem lifted (os : Os) (started : os.Started) (H : Type) (enc : TypeId × Value → H) :
    ReturnsInHanded {} Try.checked os 4 .any (Rows.frameCutsSpec.pre6 enc Try.prog Try.f4 Rows.frameCutsRow.domain false) (Rows.frameCutsSpec.post enc Try.prog Try.f4 false true false false) := by
  refine returnsInHanded_of_change_sized (C := Try.checked) own started (by kernel_rfl) Try.func4
    (ChangeSpec.witness6 (enc := enc) (C := Try.checked) false ⟨#[], #[.slice none 0 0, .slice none 0 0], []⟩ 8 (by kernel_rfl) (by kernel_rfl) (by kernel_rfl) (by kernel_rfl)) ?_
  intro W base args ds gs before hval0 hW hcnd hsz0 _
  have hval : ∀ (j : Nat) t v, Try.f4.params[j]? = some t → args[j]? = some v → Value.okWide Try.prog W .any base t v := hval0
  have hsz : (DataW.weightsEach Try.prog (Try.f4.params.toList ++ Rows.frameCutsSpec.plain.varTypes Try.prog) (ds ++ gs)).all (· ≤ reachBytes) = true := hsz0
  have hW' := hW
  obtain ⟨p, q, hA0, hV, rfl, hfz, hnd⟩ := hW
  have hA : DataW.TrodAll enc Try.prog W 0 (fun _ => true) true Try.f4.params.toList args.toList ds p := hA0
  rw [Try.params4] at hA hval hsz
  obtain ⟨v0, vs0, d0, ds0, p0, q0, hargs, rfl, rfl, h0, r0⟩ := trodAll_cons hA
  obtain ⟨v1, vs1, d1, ds1, p1, q1, rfl, rfl, rfl, h1, r1⟩ := trodAll_cons r0
  obtain ⟨rfl, rfl, rfl⟩ := trodAll_nil r1
  obtain rfl : args = #[v0, v1] := by cases args; simp_all
  obtain ⟨rfl, rfl⟩ := trodVars_none hV
  have k0 := h0
  have lt0 : ∀ x ∈ p0, x.block < W.heap.size := by obtain ⟨m, hm⟩ := k0; exact DataW.trod_lt m _ _ _ hm
  obtain ⟨x0, c0⟩ := Opens.arg opT23 h0 hsz 0 rfl rfl
  obtain ⟨a0, l0, cap0, rfl⟩ := okWide_slice Try.underlying23 (hval 0 23 v0 rfl rfl)
  replace c0 : (rdT23).rel x0 [.slice a0 l0 cap0] (heapOf W) := c0
  have k1 := h1
  have lt1 : ∀ x ∈ p1, x.block < W.heap.size := by obtain ⟨m, hm⟩ := k1; exact DataW.trod_lt m _ _ _ hm
  obtain ⟨x1, c1⟩ := Opens.arg opT24 h1 hsz 1 rfl rfl
  obtain ⟨a1, l1, cap1, rfl⟩ := okWide_slice Try.underlying24 (hval 1 24 v1 rfl rfl)
  replace c1 : (rdT24).rel x1 [.slice a1 l1 cap1] (heapOf W) := c1
  clear hA0 hval0
  have walk := cuts_any (St.start W) (Rdr.old c0) (Rdr.old c1)
  refine walk.mono fun e W' ⟨hst, he⟩ => ?_
  have bel := hst.below0
  subst he
  exact ⟨_, rfl, _, _, _, [], _, [], hW', trodAll_mk1 (shut_bool Try.underlying4 _), (trodAll_cons_mk (Below.trod laidOut (by kernel_rfl) (of_decide_eq_true (by kernel_rfl)) k0 bel lt0) (trodAll_cons_mk (Below.trod laidOut (by kernel_rfl) (of_decide_eq_true (by kernel_rfl)) k1 bel lt1) trodAll_mk0)), rfl, bel.frame _, fun h => by cases h⟩

theorem over : Rows.frameCutsRow.holds Try.pinned (OpenSpec.ofChange Rows.frameCutsSpec) :=
  OpenClaim.holds_of_wide 4 Try.f4 rfl rfl rfl rfl rfl rfl rfl ⟨rfl, rfl, rfl, rfl, rfl⟩ rfl rfl rfl rfl rfl (by kernel_rfl) Try.func4 (by kernel_rfl)
    (of_decide_eq_true (by kernel_rfl)) (by unfold Func.isWrapper; first | (rw [if_pos (by decide +kernel)]; kernel_rfl) | (rw [if_neg (by decide +kernel)]; exact ⟨rfl, rfl⟩))
    (fun os started H enc _ => lifted os started H enc)

theorem proved : Rows.FrameCutsSaid :=
  over
#print axioms proved
end Go.Proofs.Ytfamclpajjnfbaa.frameCuts

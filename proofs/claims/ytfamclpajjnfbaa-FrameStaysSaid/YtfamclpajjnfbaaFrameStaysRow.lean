/-
  The statement FrameStays: whatever came ahead, a cutter that died of a size takes nothing, gives nothing, and tells the same for ever. No conditions.
-/
import Derived.Test.YtfamclpajjnfbaaRows
import Derived.Test.YtfamclpajjnfbaaFrH
import Derived.Test.YtfamclpajjnfbaaArgs
import Derived.Below
import Derived.WalkKit
import Derived.ProofKit
import Derived.OpenShut
import Derived.ShutString
import Derived.ChangeOld
import Derived.Carry
import Derived.SizedLaws
namespace Go.Proofs.Ytfamclpajjnfbaa.frameStays
open Go.Proofs.Ytfamclpajjnfbaa
open Go.ChangeShapes Go.WideShapes Go.ChangeAt Go.RowKit
open Go.ChangeMaps (open_string shut_string)
set_option linter.unusedVariables false

theorem own : ownKnob Try.prog.godebug = none := by kernel_rfl
theorem laidOut : laidOutB Try.prog = true := by kernel_rfl

abbrev rdT30 := rInt .u32
theorem opT30 : Opens Try.prog 30 rdT30 := opens_int Try.underlying30
abbrev rdT35 := rBytes
theorem opT35 : Opens Try.prog 35 rdT35 := opens_bytes Try.underlying35 Try.underlying5 (by kernel_rfl) (by kernel_rfl)
abbrev rdT3 := rInt .i64
theorem opT3 : Opens Try.prog 3 rdT3 := opens_int Try.underlying3
abbrev rdT40 := rCons 1 rdT3 (rCons 1 rdT3 (rCons 1 rdT35 (rCons 1 rdT30 (rEnd))))
theorem opT40 : Opens Try.prog 40 rdT40 := opens_struct Try.underlying40 (N := 4) (by kernel_rfl) (opensF_cons (N := 4) (off := 0) (s := 1) rfl (by kernel_rfl) (by decide) opT3 (opensF_cons (N := 4) (off := 1) (s := 1) rfl (by kernel_rfl) (by decide) opT3 (opensF_cons (N := 4) (off := 2) (s := 1) rfl (by kernel_rfl) (by decide) opT35 (opensF_cons (N := 4) (off := 3) (s := 1) rfl (by kernel_rfl) (by decide) opT30 (opensF_nil)))))
abbrev rdT24 := rSlice 4 48 rdT40
theorem opT24 : Opens Try.prog 24 rdT24 := opens_slice Try.underlying24 (by kernel_rfl) (by kernel_rfl) (by decide) opT40
abbrev rdT34 := rSlice 1 24 rdT35
theorem opT34 : Opens Try.prog 34 rdT34 := opens_slice Try.underlying34 (by kernel_rfl) (by kernel_rfl) (by decide) opT35
abbrev rdT45 := rCons 1 rdT30 (rCons 1 rdT34 (rCons 1 rdT30 (rCons 1 rdT24 (rEnd))))
theorem opT45 : Opens Try.prog 45 rdT45 := opens_struct Try.underlying45 (N := 4) (by kernel_rfl) (opensF_cons (N := 4) (off := 0) (s := 1) rfl (by kernel_rfl) (by decide) opT30 (opensF_cons (N := 4) (off := 1) (s := 1) rfl (by kernel_rfl) (by decide) opT34 (opensF_cons (N := 4) (off := 2) (s := 1) rfl (by kernel_rfl) (by decide) opT30 (opensF_cons (N := 4) (off := 3) (s := 1) rfl (by kernel_rfl) (by decide) opT24 (opensF_nil)))))

set_option maxRecDepth 100000 in
theorem lifted (os : Os) (started : os.Started) (H : Type) (enc : TypeId × Value → H) :
    ReturnsInHanded {} Try.checked os 5 .any (Rows.frameStaysSpec.pre6 enc Try.prog Try.f5 Rows.frameStaysRow.domain false) (Rows.frameStaysSpec.post enc Try.prog Try.f5 false true false false) := by
  refine returnsInHanded_of_change_sized (C := Try.checked) own started (by kernel_rfl) Try.func5
    (ChangeSpec.witness6 (enc := enc) (C := Try.checked) false ⟨#[], #[.agg #[.int .u32 0, .slice none 0 0, .int .u32 0, .slice none 0 0]], []⟩ 8 (by kernel_rfl) (by kernel_rfl) (by kernel_rfl) (by kernel_rfl)) ?_
  intro W base args ds gs before hval0 hW hcnd hsz0 _
  have hval : ∀ (j : Nat) t v, Try.f5.params[j]? = some t → args[j]? = some v → Value.okWide Try.prog W .any base t v := hval0
  have hsz : (DataW.weightsEach Try.prog (Try.f5.params.toList ++ Rows.frameStaysSpec.plain.varTypes Try.prog) (ds ++ gs)).all (· ≤ reachBytes) = true := hsz0
  have hW' := hW
  obtain ⟨p, q, hA0, hV, rfl, hfz, hnd⟩ := hW
  have hA : DataW.TrodAll enc Try.prog W 0 (fun _ => true) true Try.f5.params.toList args.toList ds p := hA0
  rw [Try.params5] at hA hval hsz
  obtain ⟨v0, vs0, d0, ds0, p0, q0, hargs, rfl, rfl, h0, r0⟩ := trodAll_cons hA
  obtain ⟨rfl, rfl, rfl⟩ := trodAll_nil r0
  obtain rfl : args = #[v0] := by cases args; simp_all
  obtain ⟨rfl, rfl⟩ := trodVars_none hV
  have k0 := h0
  have lt0 : ∀ x ∈ p0, x.block < W.heap.size := by obtain ⟨m, hm⟩ := k0; exact DataW.trod_lt m _ _ _ hm
  obtain ⟨x0, c0⟩ := Opens.arg opT45 h0 hsz 0 rfl rfl
  obtain ⟨cs0, rfl, _⟩ : ∃ cs, v0 = .agg cs ∧ True := by
    have := hval 0 45 v0 rfl rfl
    unfold Value.okWide at this
    rw [Try.underlying45] at this
    obtain ⟨cs, h, _⟩ := this
    exact ⟨cs, h, trivial⟩
  replace c0 : (rdT45).rel x0 cs0.toList (heapOf W) := c0
  clear hA0 hval0
  obtain ⟨e1, e2, hcs, _, ⟨rfl, hw1⟩, d1, d2, rfl, _, hah, g1, g2, rfl, _, ⟨rfl, hw2⟩, f1, f2, rfl, _, hsc, rfl⟩ := c0
  have hah2 := hah
  obtain ⟨_, _, rfl, _⟩ := hah2
  have hsc2 := hsc
  obtain ⟨_, _, rfl, _⟩ := hsc2
  obtain ⟨lim, hlim⟩ := Int.eq_ofNat_of_zero_le (u32_nonneg hw1)
  obtain ⟨sz, hsz'⟩ := Int.eq_ofNat_of_zero_le (u32_nonneg hw2)
  have b1 := u32_lt hw1
  have b2 := u32_lt hw2
  rw [hlim] at b1 hcs
  rw [hsz'] at b2 hcs
  have walk := stays_any (St.start W) (by omega) (by omega) (Rdr.old hah) (Rdr.old hsc) (lim := lim) (sz := sz)
  have hcs' : cs0 = deathC lim _ sz _ := Array.ext' hcs
  rw [← hcs'] at walk
  refine walk.mono fun e W' ⟨hst, he⟩ => ?_
  have bel := hst.below0
  subst he
  exact ⟨_, rfl, _, _, _, [], _, [], hW', trodAll_mk1 (shut_bool Try.underlying4 _), (trodAll_cons_mk (Below.trod laidOut (by kernel_rfl) (of_decide_eq_true (by kernel_rfl)) k0 bel lt0) trodAll_mk0), rfl, bel.frame _, fun h => by cases h⟩

theorem over : Rows.frameStaysRow.holds Try.pinned (OpenSpec.ofChange Rows.frameStaysSpec) :=
  OpenClaim.holds_of_wide 5 Try.f5 rfl rfl rfl rfl rfl rfl rfl ⟨rfl, rfl, rfl, rfl, rfl⟩ rfl rfl rfl rfl rfl (by kernel_rfl) Try.func5 (by kernel_rfl)
    (of_decide_eq_true (by kernel_rfl)) (by unfold Func.isWrapper; first | (rw [if_pos (by decide +kernel)]; kernel_rfl) | (rw [if_neg (by decide +kernel)]; exact ⟨rfl, rfl⟩))
    (fun os started H enc _ => lifted os started H enc)

theorem proved : Rows.FrameStaysSaid :=
  over
#print axioms proved
end Go.Proofs.Ytfamclpajjnfbaa.frameStays

/-
  The statement LocksCompares: Compare is the document's, and an order. No conditions.
-/
import Derived.Test.YtacmnfpgimgigaaRows
import Derived.Test.YtacmnfpgimgigaaLkI
import Derived.Test.YtacmnfpgimgigaaArgs
import Derived.Below
import Derived.WalkKit
import Derived.ProofKit
import Derived.OpenShut
import Derived.ShutString
import Derived.ChangeOld
import Derived.Carry
import Derived.SizedLaws
namespace Go.Proofs.Ytacmnfpgimgigaa.locksCompares
open Go.Proofs.Ytacmnfpgimgigaa
open Go.ChangeShapes Go.WideShapes Go.ChangeAt Go.RowKit
open Go.ChangeMaps (open_string shut_string)
set_option linter.unusedVariables false

theorem own : ownKnob Try.prog.godebug = none := by kernel_rfl
theorem laidOut : laidOutB Try.prog = true := by kernel_rfl

abbrev rdT24 := rInt .u64
theorem opT24 : Opens Try.prog 24 rdT24 := opens_int Try.underlying24
abbrev rdT3 := rInt .i64
theorem opT3 : Opens Try.prog 3 rdT3 := opens_int Try.underlying3
abbrev rdT23 := rInt .u8
theorem opT23 : Opens Try.prog 23 rdT23 := opens_int Try.underlying23
abbrev rdT26 := rCons 1 rdT23 (rCons 1 rdT3 (rCons 1 rdT24 (rEnd)))
theorem opT26 : Opens Try.prog 26 rdT26 := opens_struct Try.underlying26 (N := 3) (by kernel_rfl) (opensF_cons (N := 3) (off := 0) (s := 1) rfl (by kernel_rfl) (by decide) opT23 (opensF_cons (N := 3) (off := 1) (s := 1) rfl (by kernel_rfl) (by decide) opT3 (opensF_cons (N := 3) (off := 2) (s := 1) rfl (by kernel_rfl) (by decide) opT24 (opensF_nil))))

set_option maxRecDepth 100000 in
theorem lifted (os : Os) (started : os.Started) (H : Type) (enc : TypeId × Value → H) :
    ReturnsInHanded {} Try.checked os 4 .any (Rows.locksComparesSpec.pre6 enc Try.prog Try.f4 Rows.locksComparesRow.domain false) (Rows.locksComparesSpec.post enc Try.prog Try.f4 false true false false) := by
  refine returnsInHanded_of_change_sized (C := Try.checked) own started (by kernel_rfl) Try.func4
    (ChangeSpec.witness6 (enc := enc) (C := Try.checked) false ⟨#[], #[.agg #[.int .u8 0, .int .i64 0, .int .u64 0], .agg #[.int .u8 0, .int .i64 0, .int .u64 0], .agg #[.int .u8 0, .int .i64 0, .int .u64 0]], []⟩ 8 (by kernel_rfl) (by kernel_rfl) (by kernel_rfl) (by kernel_rfl)) ?_
  intro W base args ds gs before hval0 hW hcnd hsz0 _
  have hval : ∀ (j : Nat) t v, Try.f4.params[j]? = some t → args[j]? = some v → Value.okWide Try.prog W .any base t v := hval0
  have hsz : (DataW.weightsEach Try.prog (Try.f4.params.toList ++ Rows.locksComparesSpec.plain.varTypes Try.prog) (ds ++ gs)).all (· ≤ reachBytes) = true := hsz0
  have hW' := hW
  obtain ⟨p, q, hA0, hV, rfl, hfz, hnd⟩ := hW
  have hA : DataW.TrodAll enc Try.prog W 0 (fun _ => true) true Try.f4.params.toList args.toList ds p := hA0
  rw [Try.params4] at hA hval hsz
  obtain ⟨v0, vs0, d0, ds0, p0, q0, hargs, rfl, rfl, h0, r0⟩ := trodAll_cons hA
  obtain ⟨v1, vs1, d1, ds1, p1, q1, rfl, rfl, rfl, h1, r1⟩ := trodAll_cons r0
  obtain ⟨v2, vs2, d2, ds2, p2, q2, rfl, rfl, rfl, h2, r2⟩ := trodAll_cons r1
  obtain ⟨rfl, rfl, rfl⟩ := trodAll_nil r2
  obtain rfl : args = #[v0, v1, v2] := by cases args; simp_all
  obtain ⟨rfl, rfl⟩ := trodVars_none hV
  have k0 := h0
  have lt0 : ∀ x ∈ p0, x.block < W.heap.size := by obtain ⟨m, hm⟩ := k0; exact DataW.trod_lt m _ _ _ hm
  obtain ⟨x0, c0⟩ := Opens.arg opT26 h0 hsz 0 rfl rfl
  obtain ⟨cs0, rfl, _⟩ : ∃ cs, v0 = .agg cs ∧ True := by
    have := hval 0 26 v0 rfl rfl
    unfold Value.okWide at this
    rw [Try.underlying26] at this
    obtain ⟨cs, h, _⟩ := this
    exact ⟨cs, h, trivial⟩
  replace c0 : (rdT26).rel x0 cs0.toList (heapOf W) := c0
  have k1 := h1
  have lt1 : ∀ x ∈ p1, x.block < W.heap.size := by obtain ⟨m, hm⟩ := k1; exact DataW.trod_lt m _ _ _ hm
  obtain ⟨x1, c1⟩ := Opens.arg opT26 h1 hsz 1 rfl rfl
  obtain ⟨cs1, rfl, _⟩ : ∃ cs, v1 = .agg cs ∧ True := by
    have := hval 1 26 v1 rfl rfl
    unfold Value.okWide at this
    rw [Try.underlying26] at this
    obtain ⟨cs, h, _⟩ := this
    exact ⟨cs, h, trivial⟩
  replace c1 : (rdT26).rel x1 cs1.toList (heapOf W) := c1
  have k2 := h2
  have lt2 : ∀ x ∈ p2, x.block < W.heap.size := by obtain ⟨m, hm⟩ := k2; exact DataW.trod_lt m _ _ _ hm
  obtain ⟨x2, c2⟩ := Opens.arg opT26 h2 hsz 2 rfl rfl
  obtain ⟨cs2, rfl, _⟩ : ∃ cs, v2 = .agg cs ∧ True := by
    have := hval 2 26 v2 rfl rfl
    unfold Value.okWide at this
    rw [Try.underlying26] at this
    obtain ⟨cs, h, _⟩ := this
    exact ⟨cs, h, trivial⟩
  replace c2 : (rdT26).rel x2 cs2.toList (heapOf W) := c2
  clear hA0 hval0
  obtain ⟨a1, a2, hcs0, _, ⟨rfl, hw1⟩, a3, a4, rfl, _, ⟨rfl, hw2⟩, a5, a6, rfl, _, ⟨rfl, hw3⟩, rfl⟩ := c0
  obtain ⟨b1, b2, hcs1, _, ⟨rfl, hw4⟩, b3, b4, rfl, _, ⟨rfl, hw5⟩, b5, b6, rfl, _, ⟨rfl, hw6⟩, rfl⟩ := c1
  obtain ⟨e1, e2, hcs2, _, ⟨rfl, hw7⟩, e3, e4, rfl, _, ⟨rfl, hw8⟩, e5, e6, rfl, _, ⟨rfl, hw9⟩, rfl⟩ := c2
  have walk := locksCompares_any (a := (x0.1, x0.2.1, x0.2.2.1)) (b := (x1.1, x1.2.1, x1.2.2.1)) (c := (x2.1, x2.2.1, x2.2.2.1)) (St.start W)
  have hc0 : cs0 = (namC (x0.1, x0.2.1, x0.2.2.1)).toArray := Array.ext' hcs0
  have hc1 : cs1 = (namC (x1.1, x1.2.1, x1.2.2.1)).toArray := Array.ext' hcs1
  have hc2 : cs2 = (namC (x2.1, x2.2.1, x2.2.2.1)).toArray := Array.ext' hcs2
  unfold namV at walk
  rw [← hc0, ← hc1, ← hc2] at walk
  refine walk.mono fun e W' ⟨hst, he⟩ => ?_
  have bel := hst.below0
  subst he
  exact ⟨_, rfl, _, _, _, [], _, [], hW', trodAll_mk1 (shut_bool Try.underlying4 _), (trodAll_cons_mk (Below.trod laidOut (by kernel_rfl) (of_decide_eq_true (by kernel_rfl)) k0 bel lt0) (trodAll_cons_mk (Below.trod laidOut (by kernel_rfl) (of_decide_eq_true (by kernel_rfl)) k1 bel lt1) (trodAll_cons_mk (Below.trod laidOut (by kernel_rfl) (of_decide_eq_true (by kernel_rfl)) k2 bel lt2) trodAll_mk0))), rfl, bel.frame _, fun h => by cases h⟩

theorem over : Rows.locksComparesRow.holds Try.pinned (OpenSpec.ofChange Rows.locksComparesSpec) :=
  OpenClaim.holds_of_wide 4 Try.f4 rfl rfl rfl rfl rfl rfl rfl ⟨rfl, rfl, rfl, rfl, rfl⟩ rfl rfl rfl rfl rfl (by kernel_rfl) Try.func4 (by kernel_rfl)
    (of_decide_eq_true (by kernel_rfl)) (by unfold Func.isWrapper; first | (rw [if_pos (by decide +kernel)]; kernel_rfl) | (rw [if_neg (by decide +kernel)]; exact ⟨rfl, rfl⟩))
    (fun os started H enc _ => lifted os started H enc)

theorem proved : Rows.LocksComparesSaid :=
  over
#print axioms proved
end Go.Proofs.Ytacmnfpgimgigaa.locksCompares

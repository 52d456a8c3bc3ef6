/-
  The statement FidsDoes: The statement FidsDoes: a table of fids and the reference's answer alike in every step of every script, with what they hand out kept, two tables that part, the end of both: the function returns true for every size and every script. No conditions. No conditions.
-/
import Derived.Test.YtljndiligbaljaaRows
import Derived.Test.YtljndiligbaljaaZ13
import Derived.Below
import Derived.WalkKit
import Derived.ProofKit
import Derived.OpenShut
import Derived.ShutString
import Derived.ChangeOld
import Derived.Carry
import Derived.SizedLaws
namespace Go.Proofs.Ytljndiligbaljaa.fidsDoes
open Go.Proofs.Ytljndiligbaljaa
open Go.ChangeShapes Go.WideShapes Go.ChangeAt Go.RowKit
open Go.ChangeMaps (open_string shut_string)
set_option linter.unusedVariables false

theorem own : ownKnob Try.prog.godebug = none := by kernel_rfl
theorem laidOut : laidOutB Try.prog = true := by kernel_rfl

abbrev rdT4 := rBool
theorem opT4 : Opens Try.prog 4 rdT4 := opens_bool Try.underlying4
abbrev rdT5 := rInt .u8
theorem opT5 : Opens Try.prog 5 rdT5 := opens_int Try.underlying5
abbrev rdT37 := rInt .u64
theorem opT37 : Opens Try.prog 37 rdT37 := opens_int Try.underlying37
abbrev rdT39 := rBytes
theorem opT39 : Opens Try.prog 39 rdT39 := opens_bytes Try.underlying39 Try.underlying5 (by kernel_rfl) (by kernel_rfl)
abbrev rdT3 := rInt .i64
theorem opT3 : Opens Try.prog 3 rdT3 := opens_int Try.underlying3
abbrev rdT38 := rInt .u8
theorem opT38 : Opens Try.prog 38 rdT38 := opens_int Try.underlying38
abbrev rdT9 := rStr
theorem opT9 : Opens Try.prog 9 rdT9 := opens_str Try.underlying9
abbrev rdT41 := rCons 1 rdT9 (rCons 1 rdT9 (rCons 1 rdT37 (rCons 1 rdT37 (rCons 1 rdT38 (rCons 1 rdT3 (rCons 1 rdT39 (rEnd)))))))
theorem opT41 : Opens Try.prog 41 rdT41 := opens_struct Try.underlying41 (N := 7) (by kernel_rfl) (opensF_cons (N := 7) (off := 0) (s := 1) rfl (by kernel_rfl) (by decide) opT9 (opensF_cons (N := 7) (off := 1) (s := 1) rfl (by kernel_rfl) (by decide) opT9 (opensF_cons (N := 7) (off := 2) (s := 1) rfl (by kernel_rfl) (by decide) opT37 (opensF_cons (N := 7) (off := 3) (s := 1) rfl (by kernel_rfl) (by decide) opT37 (opensF_cons (N := 7) (off := 4) (s := 1) rfl (by kernel_rfl) (by decide) opT38 (opensF_cons (N := 7) (off := 5) (s := 1) rfl (by kernel_rfl) (by decide) opT3 (opensF_cons (N := 7) (off := 6) (s := 1) rfl (by kernel_rfl) (by decide) opT39 (opensF_nil))))))))
abbrev rdT36 := rInt .u8
theorem opT36 : Opens Try.prog 36 rdT36 := opens_int Try.underlying36
abbrev rdT43 := rCons 1 rdT36 (rCons 1 rdT37 (rCons 1 rdT9 (rCons 1 rdT5 (rCons 1 rdT4 (rCons 1 rdT37 (rCons 1 rdT37 (rCons 7 rdT41 (rEnd))))))))
theorem opT43 : Opens Try.prog 43 rdT43 := opens_struct Try.underlying43 (N := 14) (by kernel_rfl) (opensF_cons (N := 14) (off := 0) (s := 1) rfl (by kernel_rfl) (by decide) opT36 (opensF_cons (N := 14) (off := 1) (s := 1) rfl (by kernel_rfl) (by decide) opT37 (opensF_cons (N := 14) (off := 2) (s := 1) rfl (by kernel_rfl) (by decide) opT9 (opensF_cons (N := 14) (off := 3) (s := 1) rfl (by kernel_rfl) (by decide) opT5 (opensF_cons (N := 14) (off := 4) (s := 1) rfl (by kernel_rfl) (by decide) opT4 (opensF_cons (N := 14) (off := 5) (s := 1) rfl (by kernel_rfl) (by decide) opT37 (opensF_cons (N := 14) (off := 6) (s := 1) rfl (by kernel_rfl) (by decide) opT37 (opensF_cons (N := 14) (off := 7) (s := 7) rfl (by kernel_rfl) (by decide) opT41 (opensF_nil)))))))))
abbrev rdT35 := rInt .u32
theorem opT35 : Opens Try.prog 35 rdT35 := opens_int Try.underlying35
abbrev rdT45 := rCons 1 rdT3 (rCons 1 rdT35 (rCons 1 rdT35 (rCons 14 rdT43 (rCons 1 rdT37 (rCons 1 rdT37 (rCons 1 rdT5 (rCons 1 rdT4 (rEnd))))))))
theorem opT45 : Opens Try.prog 45 rdT45 := opens_struct Try.underlying45 (N := 21) (by kernel_rfl) (opensF_cons (N := 21) (off := 0) (s := 1) rfl (by kernel_rfl) (by decide) opT3 (opensF_cons (N := 21) (off := 1) (s := 1) rfl (by kernel_rfl) (by decide) opT35 (opensF_cons (N := 21) (off := 2) (s := 1) rfl (by kernel_rfl) (by decide) opT35 (opensF_cons (N := 21) (off := 3) (s := 14) rfl (by kernel_rfl) (by decide) opT43 (opensF_cons (N := 21) (off := 17) (s := 1) rfl (by kernel_rfl) (by decide) opT37 (opensF_cons (N := 21) (off := 18) (s := 1) rfl (by kernel_rfl) (by decide) opT37 (opensF_cons (N := 21) (off := 19) (s := 1) rfl (by kernel_rfl) (by decide) opT5 (opensF_cons (N := 21) (off := 20) (s := 1) rfl (by kernel_rfl) (by decide) opT4 (opensF_nil)))))))))
abbrev rdT25 := rSlice 21 184 rdT45
theorem opT25 : Opens Try.prog 25 rdT25 := opens_slice Try.underlying25 (by kernel_rfl) (by kernel_rfl) (by decide) opT45

set_option maxRecDepth 100000 in
theorem lifted (os : Os) (started : os.Started) (H : Type) (enc : TypeId × Value → H) :
    ReturnsInHanded {} Try.checked os 7 .any (Rows.fidsDoesSpec.pre6 enc Try.prog Try.f7 Rows.fidsDoesRow.domain false) (Rows.fidsDoesSpec.post enc Try.prog Try.f7 false true false false) := by
  refine returnsInHanded_of_change_sized (C := Try.checked) own started (by kernel_rfl) Try.func7
    (ChangeSpec.witness6 (enc := enc) (C := Try.checked) false ⟨#[], #[.int .i64 0, .slice none 0 0], []⟩ 8 (by kernel_rfl) (by kernel_rfl) (by kernel_rfl) (by kernel_rfl)) ?_
  intro W base args ds gs before hval0 hW hcnd hsz0 _
  have hval : ∀ (j : Nat) t v, Try.f7.params[j]? = some t → args[j]? = some v → Value.okWide Try.prog W .any base t v := hval0
  have hsz : (DataW.weightsEach Try.prog (Try.f7.params.toList ++ Rows.fidsDoesSpec.plain.varTypes Try.prog) (ds ++ gs)).all (· ≤ reachBytes) = true := hsz0
  have hW' := hW
  obtain ⟨p, q, hA0, hV, rfl, hfz, hnd⟩ := hW
  have hA : DataW.TrodAll enc Try.prog W 0 (fun _ => true) true Try.f7.params.toList args.toList ds p := hA0
  rw [Try.params7] at hA hval hsz
  obtain ⟨v0, vs0, d0, ds0, p0, q0, hargs, rfl, rfl, h0, r0⟩ := trodAll_cons hA
  obtain ⟨v1, vs1, d1, ds1, p1, q1, rfl, rfl, rfl, h1, r1⟩ := trodAll_cons r0
  obtain ⟨rfl, rfl, rfl⟩ := trodAll_nil r1
  obtain rfl : args = #[v0, v1] := by cases args; simp_all
  obtain ⟨rfl, rfl⟩ := trodVars_none hV
  obtain ⟨n0, rfl, rfl, rfl, w0⟩ := open_int Try.underlying3 (hval 0 3 v0 rfl rfl) h0
  have k1 := h1
  have lt1 : ∀ x ∈ p1, x.block < W.heap.size := by obtain ⟨m, hm⟩ := k1; exact DataW.trod_lt m _ _ _ hm
  obtain ⟨x1, c1⟩ := Opens.arg opT25 h1 hsz 1 rfl rfl
  obtain ⟨a1, l1, cap1, rfl⟩ := okWide_slice Try.underlying25 (hval 1 25 v1 rfl rfl)
  replace c1 : (rdT25).rel x1 [.slice a1 l1 cap1] (heapOf W) := c1
  clear hA0 hval0
  obtain ⟨ops, hs, hmo⟩ := script_arg2 c1
  have walk := doesF_any (most := n0) (St.start W) hs hmo
  refine walk.mono fun e W' ⟨hst, he⟩ => ?_
  have bel := hst.below0
  subst he
  exact ⟨_, rfl, _, _, _, [], _, [], hW', trodAll_mk1 (shut_bool Try.underlying4 _), (trodAll_cons_mk (shut_int Try.underlying3 w0) (trodAll_cons_mk (Below.trod laidOut (by kernel_rfl) (of_decide_eq_true (by kernel_rfl)) k1 bel lt1) trodAll_mk0)), rfl, bel.frame _, fun h => by cases h⟩

theorem over : Rows.fidsDoesRow.holds Try.pinned (OpenSpec.ofChange Rows.fidsDoesSpec) :=
  OpenClaim.holds_of_wide 7 Try.f7 rfl rfl rfl rfl rfl rfl rfl ⟨rfl, rfl, rfl, rfl, rfl⟩ rfl rfl rfl rfl rfl (by kernel_rfl) Try.func7 (by kernel_rfl)
    (of_decide_eq_true (by kernel_rfl)) (by unfold Func.isWrapper; first | (rw [if_pos (by decide +kernel)]; kernel_rfl) | (rw [if_neg (by decide +kernel)]; exact ⟨rfl, rfl⟩))
    (fun os started H enc _ => lifted os started H enc)

theorem proved : Rows.FidsDoesSaid :=
  over
#print axioms proved
end Go.Proofs.Ytljndiligbaljaa.fidsDoes

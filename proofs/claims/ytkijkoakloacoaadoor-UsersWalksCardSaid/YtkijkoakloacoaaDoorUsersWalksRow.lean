/-
  The statement UsersWalks: What is printed is gone through: left early, gone through again, and within itself; what came out stays. No conditions but the limit in its first lines. No conditions.
-/
import Derived.Test.YtkijkoakloacoaaDoorRows
import Derived.Test.YtkijkoakloacoaaDoorTie
import Derived.Test.YtkijkoakloacoaaDoorCards
import Derived.Test.YtkijkoakloacoaaDoorDr
import Derived.SevenTiedAt
import Derived.Test.YtkijkoakloacoaaDoorUN
import Derived.Test.YtkijkoakloacoaaDoorDr
import Derived.Test.YtkijkoakloacoaaDoorArgs
import Derived.Test.YtkijkoakloacoaaDoorArgs
import Derived.Below
import Derived.WalkKit
import Derived.ProofKit
import Derived.OpenShut
import Derived.ShutString
import Derived.ChangeOld
import Derived.Carry
import Derived.SizedLaws
namespace Go.Proofs.YtkijkoakloacoaaDoor.usersWalks
open Go.Proofs.YtkijkoakloacoaaDoor
open Go.ChangeShapes Go.WideShapes Go.ChangeAt Go.RowKit
open Go.ChangeMaps (open_string shut_string)
set_option linter.unusedVariables false

theorem own : ownKnob Tryd.prog.godebug = none := by kernel_rfl
theorem laidOut : laidOutB Tryd.prog = true := by kernel_rfl

abbrev rdT9 := rStr
theorem opT9 : Opens Tryd.prog 9 rdT9 := opens_str Tryd.underlying9
abbrev rdT33 := rSlice 1 16 rdT9
theorem opT33 : Opens Tryd.prog 33 rdT33 := opens_slice Tryd.underlying33 (by kernel_rfl) (by kernel_rfl) (by decide) opT9
abbrev rdT46 := rCons 1 rdT9 (rCons 1 rdT9 (rCons 1 rdT33 (rCons 1 rdT9 (rEnd))))
theorem opT46 : Opens Tryd.prog 46 rdT46 := opens_struct Tryd.underlying46 (N := 4) (by kernel_rfl) (opensF_cons (N := 4) (off := 0) (s := 1) rfl (by kernel_rfl) (by decide) opT9 (opensF_cons (N := 4) (off := 1) (s := 1) rfl (by kernel_rfl) (by decide) opT9 (opensF_cons (N := 4) (off := 2) (s := 1) rfl (by kernel_rfl) (by decide) opT33 (opensF_cons (N := 4) (off := 3) (s := 1) rfl (by kernel_rfl) (by decide) opT9 (opensF_nil)))))
abbrev rdT23 := rSlice 4 72 rdT46
theorem opT23 : Opens Tryd.prog 23 rdT23 := opens_slice Tryd.underlying23 (by kernel_rfl) (by kernel_rfl) (by decide) opT46

set_option maxRecDepth 100000 in
theorem lifted (os : Os) (started : os.Started) (H : Type) (enc : TypeId × Value → H) :
    ReturnsInHanded {} Tryd.checked os 5 .any (fun w args => (Rows.usersWalksSpec.pre enc Tryd.prog Tryd.f5 Rows.usersWalksRow.domain false w args ∧ laidMetH Tryd.prog Rows.usersWalksRow.laid w) ∧ sizedMet enc Tryd.prog Tryd.f5 (OpenSpec.ofChange Rows.usersWalksSpec) false w args) (Rows.usersWalksSpec.post enc Tryd.prog Tryd.f5 false true false false) := by
  refine returns_laid (C := Tryd.checked) (laid := laidU8) own started (by kernel_rfl) Tryd.func5
    (ChangeSpec.witness_shaped (enc := enc) (C := Tryd.checked) (os := os) (X := fun w _ => laidMetH Tryd.prog laidU8 w) false (laidWorld os) #[.slice none 0 0, .int .i64 0] 8 (World.laidAll_os _ _ _)
      (laidWorld_shaped os _) (by kernel_rfl) (by kernel_rfl) (by kernel_rfl) (laidWorld_met os _)) ?_
  intro W base args ds gs before hval0 hW hcnd hsz0 hL hsh _
  have tabs : Ent (Old W) Tabs := tabs_old hL hsh
  haveI : Gives (Old W) Tabs := ⟨tabs⟩
  have hval : ∀ (j : Nat) t v, Tryd.f5.params[j]? = some t → args[j]? = some v → Value.okWide Tryd.prog W .any base t v := hval0
  have hsz : (DataW.weightsEach Tryd.prog (Tryd.f5.params.toList ++ Rows.usersWalksSpec.plain.varTypes Tryd.prog) (ds ++ gs)).all (· ≤ reachBytes) = true := hsz0
  have hW' := hW
  obtain ⟨p, q, hA0, hV, rfl, hfz, hnd⟩ := hW
  have hA : DataW.TrodAll enc Tryd.prog W 0 (fun _ => true) true Tryd.f5.params.toList args.toList ds p := hA0
  rw [Tryd.params5] at hA hval hsz
  obtain ⟨v0, vs0, d0, ds0, p0, q0, hargs, rfl, rfl, h0, r0⟩ := trodAll_cons hA
  obtain ⟨v1, vs1, d1, ds1, p1, q1, rfl, rfl, rfl, h1, r1⟩ := trodAll_cons r0
  obtain ⟨rfl, rfl, rfl⟩ := trodAll_nil r1
  obtain rfl : args = #[v0, v1] := by cases args; simp_all
  obtain ⟨rfl, rfl⟩ := trodVars_none hV
  have k0 := h0
  have lt0 : ∀ x ∈ p0, x.block < W.heap.size := by obtain ⟨m, hm⟩ := k0; exact DataW.trod_lt m _ _ _ hm
  obtain ⟨x0, c0⟩ := Opens.arg opT23 h0 hsz 0 rfl rfl
  obtain ⟨a0, l0, cap0, rfl⟩ := okWide_slice Tryd.underlying23 (hval 0 23 v0 rfl rfl)
  replace c0 : (rdT23).rel x0 [.slice a0 l0 cap0] (heapOf W) := c0
  obtain ⟨n1, rfl, rfl, rfl, w1⟩ := open_int Tryd.underlying3 (hval 1 3 v1 rfl rfl) h1
  clear hA0 hval0
  obtain ⟨L, ⟨a', c', e⟩, hL⟩ := accts_arg c0
  simp only [Value.slice.injEq] at e
  obtain ⟨rfl, rfl, rfl⟩ := e
  have walk := usersWalks_law (St.start W) hL (InI.of (wf_i64 w1))
  refine walk.mono fun e W' ⟨hst, he⟩ => ?_
  have bel := hst.below0
  subst he
  exact ⟨_, rfl, _, _, _, [], _, [], hW', trodAll_mk1 (shut_bool Tryd.underlying4 _), (trodAll_cons_mk (Below.trod laidOut (by kernel_rfl) (of_decide_eq_true (by kernel_rfl)) k0 bel lt0) (trodAll_cons_mk (shut_int Tryd.underlying3 w1) trodAll_mk0)), rfl, bel.frame _, fun h => by cases h⟩

theorem over : Rows.usersWalksRow.holds Tryd.pinned (OpenSpec.ofChange Rows.usersWalksSpec) :=
  OpenClaim.holds_of_wide 5 Tryd.f5 rfl rfl rfl rfl rfl rfl rfl ⟨rfl, rfl, rfl, rfl, rfl⟩ rfl rfl rfl rfl rfl (by kernel_rfl) Tryd.func5 (by kernel_rfl)
    (of_decide_eq_true (by kernel_rfl)) (by unfold Func.isWrapper; first | (rw [if_pos (by decide +kernel)]; kernel_rfl) | (rw [if_neg (by decide +kernel)]; exact ⟨rfl, rfl⟩))
    (fun os started H enc _ => lifted os started H enc)

theorem said : Rows.UsersWalksSaid :=
  over

theorem proved : Rows.UsersWalksCardSaid :=
  Claim7.holds_tied_plain_at .later [] [.data, .pinned] true (true, "2b43d947e7741243319cf31464fa86ed7c07fa4aca1f45b40adccfb481e4c71f") true
    said (fun _ h => by cases h) (by kernel_rfl) (fun _ h => by cases h) usersWalks_row_tie rfl ⟨rfl, rfl⟩ (by kernel_rfl) rfl
    (fun f fn hf hfn => by
      obtain rfl : f = 5 := Option.some.inj ((show Tryd.prog.funcNamed "verger/vergerlaw06.UsersWalks" = some 5 by kernel_rfl).symm.trans hf) |>.symm
      obtain rfl : fn = Tryd.f5 := (Option.some.inj (Tryd.func5.symm.trans hfn)).symm
      exact ⟨by kernel_rfl, fun j t ht => by
        rw [Tryd.params5] at ht
        have hm : t ∈ [23, 3] := by simpa using Array.mem_of_getElem? ht
        have hall : ([23, 3].all fun u => !Tryd.prog.wantsStandIn u) = true := by kernel_rfl
        exact (show Tryd.prog.wantsStandIn t = false by simpa using List.all_eq_true.1 hall t hm)⟩)
    (by kernel_rfl)
#print axioms proved
end Go.Proofs.YtkijkoakloacoaaDoor.usersWalks


/-
  The statement UsersEdits in its second form: Edit is as the document says, in chains, and tables stay as they are, where what is handed in is of bulk at most 1048576. No conditions.
-/
import Derived.Test.YtkijkoakloacoaaGreatDoorRows
import Derived.Test.YtkijkoakloacoaaGreatDoorTie
import Derived.Test.YtkijkoakloacoaaGreatDoorCards
import Derived.Test.YtkijkoakloacoaaGreatDoorDr
import Derived.SevenTiedAt
import Derived.JoinedCond
import Derived.Test.YtkijkoakloacoaaGreatDoorUY
import Derived.Test.YtkijkoakloacoaaGreatDoorDr
import Derived.Test.YtkijkoakloacoaaGreatDoorArgs
import Derived.Test.YtkijkoakloacoaaGreatDoorDrU
import Derived.Test.YtkijkoakloacoaaGreatDoorArgs
import Derived.Below
import Derived.WalkKit
import Derived.ProofKit
import Derived.OpenShut
import Derived.ShutString
import Derived.ChangeOld
import Derived.Carry
import Derived.SizedLaws
namespace Go.Proofs.YtkijkoakloacoaaGreatDoor.usersEdits
open Go.Proofs.YtkijkoakloacoaaGreatDoor
open Go.ChangeShapes Go.WideShapes Go.ChangeAt Go.RowKit
open Go.ChangeMaps (open_string shut_string)
set_option linter.unusedVariables false

theorem own : ownKnob Tryz.prog.godebug = none := by kernel_rfl
theorem laidOut : laidOutB Tryz.prog = true := by kernel_rfl

abbrev rdT9 := rStr
theorem opT9 : Opens Tryz.prog 9 rdT9 := opens_str Tryz.underlying9
abbrev rdT3 := rInt .i64
theorem opT3 : Opens Tryz.prog 3 rdT3 := opens_int Tryz.underlying3
abbrev rdT50 := rCons 1 rdT3 (rCons 1 rdT9 (rEnd))
theorem opT50 : Opens Tryz.prog 50 rdT50 := opens_struct Tryz.underlying50 (N := 2) (by kernel_rfl) (opensF_cons (N := 2) (off := 0) (s := 1) rfl (by kernel_rfl) (by decide) opT3 (opensF_cons (N := 2) (off := 1) (s := 1) rfl (by kernel_rfl) (by decide) opT9 (opensF_nil)))
abbrev rdT48 := rSlice 2 24 rdT50
theorem opT48 : Opens Tryz.prog 48 rdT48 := opens_slice Tryz.underlying48 (by kernel_rfl) (by kernel_rfl) (by decide) opT50
abbrev rdT22 := rSlice 1 16 rdT9
theorem opT22 : Opens Tryz.prog 22 rdT22 := opens_slice Tryz.underlying22 (by kernel_rfl) (by kernel_rfl) (by decide) opT9

set_option maxRecDepth 100000 in
theorem lifted (os : Os) (started : os.Started) (H : Type) (enc : TypeId × Value → H) :
    ReturnsInHanded {} Tryz.checked os 5 .any (fun w args => (OpenSpec.pre enc Tryz.prog Tryz.f5 (Rows.OpenSpec.upto Rows.usersEditsSpec) Rows.usersEditsUptoRow.domain false w args ∧ laidMetH Tryz.prog Rows.usersEditsUptoRow.laid w) ∧ sizedMet enc Tryz.prog Tryz.f5 (Rows.OpenSpec.upto Rows.usersEditsSpec) false w args) (Rows.usersEditsSpec.post enc Tryz.prog Tryz.f5 false true false false) := by
  refine returns_laidU (s := Rows.OpenSpec.upto Rows.usersEditsSpec) (k := Rows.uptoSmall) rfl (F := fun _ _ _ => 0) (C := Tryz.checked) (laid := laidU8) own started (by kernel_rfl) Tryz.func5
    (witness_laidU (enc := enc) (s := Rows.OpenSpec.upto Rows.usersEditsSpec) (k := Rows.uptoSmall) rfl (C := Tryz.checked) (os := os) (X := fun w _ => laidMetH Tryz.prog laidU8 w) (laidWorld os) #[.string ⟨#[]⟩, .slice none 0 0, .slice none 0 0] 8 (World.laidAll_os _ _ _)
      (laidWorld_shaped os _) (by kernel_rfl) (by kernel_rfl) (by kernel_rfl) (laidWorld_met os _)) ?_
  intro W base args ds gs before hval0 hW hcnd hsz0 hL hsh _
  have tabs : Ent (Old W) Tabs := tabs_old hL hsh
  haveI : Gives (Old W) Tabs := ⟨tabs⟩
  have hval : ∀ (j : Nat) t v, Tryz.f5.params[j]? = some t → args[j]? = some v → Value.okWide Tryz.prog W .any base t v := hval0
  have hsz : (DataW.weightsEach Tryz.prog (Tryz.f5.params.toList ++ Rows.usersEditsSpec.plain.varTypes Tryz.prog) (ds ++ gs)).all (· ≤ reachBytes) = true := hsz0
  have hW' := hW
  obtain ⟨p, q, hA0, hV, rfl, hfz, hnd⟩ := hW
  have hA : DataW.TrodAll enc Tryz.prog W 0 (fun _ => true) true Tryz.f5.params.toList args.toList ds p := hA0
  rw [Tryz.params5] at hA hval hsz
  obtain ⟨v0, vs0, d0, ds0, p0, q0, hargs, rfl, rfl, h0, r0⟩ := trodAll_cons hA
  obtain ⟨v1, vs1, d1, ds1, p1, q1, rfl, rfl, rfl, h1, r1⟩ := trodAll_cons r0
  obtain ⟨v2, vs2, d2, ds2, p2, q2, rfl, rfl, rfl, h2, r2⟩ := trodAll_cons r1
  obtain ⟨rfl, rfl, rfl⟩ := trodAll_nil r2
  obtain rfl : args = #[v0, v1, v2] := by cases args; simp_all
  obtain ⟨rfl, rfl⟩ := trodVars_none hV
  obtain ⟨s0, rfl, rfl, rfl, w0⟩ := open_string Tryz.underlying9 (hval 0 9 v0 rfl rfl) h0
  have len0 : s0.data.toList.length ≤ 9223372036854775807 := by have := w0; rw [Lib.size_eq] at this; exact Nat.le_trans this (by decide)
  have k1 := h1
  have lt1 : ∀ x ∈ p1, x.block < W.heap.size := by obtain ⟨m, hm⟩ := k1; exact DataW.trod_lt m _ _ _ hm
  obtain ⟨x1, c1⟩ := Opens.arg opT48 h1 hsz 1 rfl rfl
  obtain ⟨a1, l1, cap1, rfl⟩ := okWide_slice Tryz.underlying48 (hval 1 48 v1 rfl rfl)
  replace c1 : (rdT48).rel x1 [.slice a1 l1 cap1] (heapOf W) := c1
  have k2 := h2
  have lt2 : ∀ x ∈ p2, x.block < W.heap.size := by obtain ⟨m, hm⟩ := k2; exact DataW.trod_lt m _ _ _ hm
  obtain ⟨x2, c2⟩ := Opens.arg opT22 h2 hsz 2 rfl rfl
  obtain ⟨a2, l2, cap2, rfl⟩ := okWide_slice Tryz.underlying22 (hval 2 22 v2 rfl rfl)
  replace c2 : (rdT22).rel x2 [.slice a2 l2 cap2] (heapOf W) := c2
  clear hA0 hval0
  obtain ⟨L, ⟨a', c', e⟩, hL⟩ := steps_arg c1
  simp only [Value.slice.injEq] at e
  obtain ⟨rfl, rfl, rfl⟩ := e
  obtain ⟨t1, t2, t3⟩ := texts_arg c2
  have sizeT := sized_string hsz (j := 0) (t := 9) rfl rfl
  have q0 : s0.data.toList.length ≤ 140737488355328 := by first | exact Nat.le_trans sizeT (by decide) | (have := sizeT; simp at this; exact Nat.le_trans this (by decide))
  have walk := usersEdits_law (text := s0.data.toList) (St.start W) q0 hL t1 t3 t2
  rw [strOf_eta] at walk
  refine walk.mono fun e W' ⟨hst, he⟩ => ?_
  have bel := hst.below0
  subst he
  exact ⟨_, rfl, _, _, _, [], _, [], hW', trodAll_mk1 (shut_bool Tryz.underlying4 _), (trodAll_cons_mk (shut_string Tryz.underlying9 w0) (trodAll_cons_mk (Below.trod laidOut (by kernel_rfl) (of_decide_eq_true (by kernel_rfl)) k1 bel lt1) (trodAll_cons_mk (Below.trod laidOut (by kernel_rfl) (of_decide_eq_true (by kernel_rfl)) k2 bel lt2) trodAll_mk0))), rfl, bel.frame _, fun h => by cases h⟩

theorem over : Rows.usersEditsUptoRow.holds Tryz.pinned (Rows.OpenSpec.upto Rows.usersEditsSpec) :=
  OpenClaim.holds_of_cond 5 Tryz.f5 rfl rfl rfl rfl rfl rfl rfl ⟨rfl, rfl, rfl, rfl, rfl⟩ rfl rfl rfl rfl rfl (by kernel_rfl) Tryz.func5 (by kernel_rfl)
    (of_decide_eq_true (by kernel_rfl)) (by unfold Func.isWrapper; first | (rw [if_pos (by decide +kernel)]; kernel_rfl) | (rw [if_neg (by decide +kernel)]; exact ⟨rfl, rfl⟩))
    (fun os started H enc _ F => lifted os started H enc)

theorem said : Rows.UsersEditsUptoSaid :=
  over

theorem proved : Rows.UsersEditsUptoCardSaid :=
  Claim7.holds_tied_plain_at .later [] [.data, .pinned] true (true, "4c3ca00dc3fee41d5d54ca3d5fbee7aaf2a3f821407579f73e1b0c3097482c7a") true
    said (fun _ h => by cases h) (by kernel_rfl) (fun _ h => by cases h) usersEditsUpto_row_tie rfl ⟨rfl, rfl⟩ (by kernel_rfl) rfl
    (fun f fn hf hfn => by
      obtain rfl : f = 5 := Option.some.inj ((show Tryz.prog.funcNamed "verger/vergerlaw06.UsersEdits" = some 5 by kernel_rfl).symm.trans hf) |>.symm
      obtain rfl : fn = Tryz.f5 := (Option.some.inj (Tryz.func5.symm.trans hfn)).symm
      exact ⟨by kernel_rfl, fun j t ht => by
        rw [Tryz.params5] at ht
        have hm : t ∈ [9, 48, 22] := by simpa using Array.mem_of_getElem? ht
        have hall : ([9, 48, 22].all fun u => !Tryz.prog.wantsStandIn u) = true := by kernel_rfl
        exact (show Tryz.prog.wantsStandIn t = false by simpa using List.all_eq_true.1 hall t hm)⟩)
    (by kernel_rfl)
#print axioms proved
end Go.Proofs.YtkijkoakloacoaaGreatDoor.usersEdits


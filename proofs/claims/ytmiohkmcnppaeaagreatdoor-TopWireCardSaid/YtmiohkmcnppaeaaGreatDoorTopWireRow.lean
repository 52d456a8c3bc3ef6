/-
  The statement TopWire: The statement TopWire: messages written one behind the other come out again, in whatever chunks: the function returns true for every list of messages and of chunks. No conditions.
-/
import Derived.Test.YtmiohkmcnppaeaaGreatDoorRows
import Derived.Test.YtmiohkmcnppaeaaGreatDoorTie
import Derived.Test.YtmiohkmcnppaeaaGreatDoorCards
import Derived.Test.YtmiohkmcnppaeaaGreatDoorZ13
import Derived.SevenTiedAt
import Derived.Below
import Derived.WalkKit
import Derived.ProofKit
import Derived.OpenShut
import Derived.ShutString
import Derived.ChangeOld
import Derived.Carry
import Derived.SizedLaws
namespace Go.Proofs.YtmiohkmcnppaeaaGreatDoor.topWire
open Go.Proofs.YtmiohkmcnppaeaaGreatDoor
open Go.ChangeShapes Go.WideShapes Go.ChangeAt Go.RowKit
open Go.ChangeMaps (open_string shut_string)
set_option linter.unusedVariables false

theorem own : ownKnob Tryz.prog.godebug = none := by kernel_rfl
theorem laidOut : laidOutB Tryz.prog = true := by kernel_rfl

abbrev rdT9 := rStr
theorem opT9 : Opens Tryz.prog 9 rdT9 := opens_str Tryz.underlying9
abbrev rdT33 := rInt .u64
theorem opT33 : Opens Tryz.prog 33 rdT33 := opens_int Tryz.underlying33
abbrev rdT27 := rInt .u32
theorem opT27 : Opens Tryz.prog 27 rdT27 := opens_int Tryz.underlying27
abbrev rdT5 := rInt .u8
theorem opT5 : Opens Tryz.prog 5 rdT5 := opens_int Tryz.underlying5
abbrev rdT35 := rCons 1 rdT5 (rCons 1 rdT27 (rCons 1 rdT33 (rEnd)))
theorem opT35 : Opens Tryz.prog 35 rdT35 := opens_struct Tryz.underlying35 (N := 3) (by kernel_rfl) (opensF_cons (N := 3) (off := 0) (s := 1) rfl (by kernel_rfl) (by decide) opT5 (opensF_cons (N := 3) (off := 1) (s := 1) rfl (by kernel_rfl) (by decide) opT27 (opensF_cons (N := 3) (off := 2) (s := 1) rfl (by kernel_rfl) (by decide) opT33 (opensF_nil))))
abbrev rdT30 := rInt .u16
theorem opT30 : Opens Tryz.prog 30 rdT30 := opens_int Tryz.underlying30
abbrev rdT37 := rCons 1 rdT30 (rCons 1 rdT27 (rCons 3 rdT35 (rCons 1 rdT27 (rCons 1 rdT27 (rCons 1 rdT27 (rCons 1 rdT33 (rCons 1 rdT9 (rCons 1 rdT9 (rCons 1 rdT9 (rCons 1 rdT9 (rEnd)))))))))))
theorem opT37 : Opens Tryz.prog 37 rdT37 := opens_struct Tryz.underlying37 (N := 13) (by kernel_rfl) (opensF_cons (N := 13) (off := 0) (s := 1) rfl (by kernel_rfl) (by decide) opT30 (opensF_cons (N := 13) (off := 1) (s := 1) rfl (by kernel_rfl) (by decide) opT27 (opensF_cons (N := 13) (off := 2) (s := 3) rfl (by kernel_rfl) (by decide) opT35 (opensF_cons (N := 13) (off := 5) (s := 1) rfl (by kernel_rfl) (by decide) opT27 (opensF_cons (N := 13) (off := 6) (s := 1) rfl (by kernel_rfl) (by decide) opT27 (opensF_cons (N := 13) (off := 7) (s := 1) rfl (by kernel_rfl) (by decide) opT27 (opensF_cons (N := 13) (off := 8) (s := 1) rfl (by kernel_rfl) (by decide) opT33 (opensF_cons (N := 13) (off := 9) (s := 1) rfl (by kernel_rfl) (by decide) opT9 (opensF_cons (N := 13) (off := 10) (s := 1) rfl (by kernel_rfl) (by decide) opT9 (opensF_cons (N := 13) (off := 11) (s := 1) rfl (by kernel_rfl) (by decide) opT9 (opensF_cons (N := 13) (off := 12) (s := 1) rfl (by kernel_rfl) (by decide) opT9 (opensF_nil))))))))))))
abbrev rdT28 := rBytes
theorem opT28 : Opens Tryz.prog 28 rdT28 := opens_bytes Tryz.underlying28 Tryz.underlying5 (by kernel_rfl) (by kernel_rfl)
abbrev rdT32 := rSlice 3 16 rdT35
theorem opT32 : Opens Tryz.prog 32 rdT32 := opens_slice Tryz.underlying32 (by kernel_rfl) (by kernel_rfl) (by decide) opT35
abbrev rdT31 := rSlice 1 16 rdT9
theorem opT31 : Opens Tryz.prog 31 rdT31 := opens_slice Tryz.underlying31 (by kernel_rfl) (by kernel_rfl) (by decide) opT9
abbrev rdT29 := rInt .u8
theorem opT29 : Opens Tryz.prog 29 rdT29 := opens_int Tryz.underlying29
abbrev rdT39 := rCons 1 rdT29 (rCons 1 rdT30 (rCons 1 rdT27 (rCons 1 rdT9 (rCons 1 rdT27 (rCons 1 rdT9 (rCons 1 rdT9 (rCons 1 rdT9 (rCons 1 rdT30 (rCons 1 rdT27 (rCons 1 rdT27 (rCons 1 rdT31 (rCons 1 rdT32 (rCons 3 rdT35 (rCons 1 rdT5 (rCons 1 rdT27 (rCons 1 rdT9 (rCons 1 rdT27 (rCons 1 rdT33 (rCons 1 rdT27 (rCons 1 rdT28 (rCons 13 rdT37 (rEnd))))))))))))))))))))))
theorem opT39 : Opens Tryz.prog 39 rdT39 := opens_struct Tryz.underlying39 (N := 36) (by kernel_rfl) (opensF_cons (N := 36) (off := 0) (s := 1) rfl (by kernel_rfl) (by decide) opT29 (opensF_cons (N := 36) (off := 1) (s := 1) rfl (by kernel_rfl) (by decide) opT30 (opensF_cons (N := 36) (off := 2) (s := 1) rfl (by kernel_rfl) (by decide) opT27 (opensF_cons (N := 36) (off := 3) (s := 1) rfl (by kernel_rfl) (by decide) opT9 (opensF_cons (N := 36) (off := 4) (s := 1) rfl (by kernel_rfl) (by decide) opT27 (opensF_cons (N := 36) (off := 5) (s := 1) rfl (by kernel_rfl) (by decide) opT9 (opensF_cons (N := 36) (off := 6) (s := 1) rfl (by kernel_rfl) (by decide) opT9 (opensF_cons (N := 36) (off := 7) (s := 1) rfl (by kernel_rfl) (by decide) opT9 (opensF_cons (N := 36) (off := 8) (s := 1) rfl (by kernel_rfl) (by decide) opT30 (opensF_cons (N := 36) (off := 9) (s := 1) rfl (by kernel_rfl) (by decide) opT27 (opensF_cons (N := 36) (off := 10) (s := 1) rfl (by kernel_rfl) (by decide) opT27 (opensF_cons (N := 36) (off := 11) (s := 1) rfl (by kernel_rfl) (by decide) opT31 (opensF_cons (N := 36) (off := 12) (s := 1) rfl (by kernel_rfl) (by decide) opT32 (opensF_cons (N := 36) (off := 13) (s := 3) rfl (by kernel_rfl) (by decide) opT35 (opensF_cons (N := 36) (off := 16) (s := 1) rfl (by kernel_rfl) (by decide) opT5 (opensF_cons (N := 36) (off := 17) (s := 1) rfl (by kernel_rfl) (by decide) opT27 (opensF_cons (N := 36) (off := 18) (s := 1) rfl (by kernel_rfl) (by decide) opT9 (opensF_cons (N := 36) (off := 19) (s := 1) rfl (by kernel_rfl) (by decide) opT27 (opensF_cons (N := 36) (off := 20) (s := 1) rfl (by kernel_rfl) (by decide) opT33 (opensF_cons (N := 36) (off := 21) (s := 1) rfl (by kernel_rfl) (by decide) opT27 (opensF_cons (N := 36) (off := 22) (s := 1) rfl (by kernel_rfl) (by decide) opT28 (opensF_cons (N := 36) (off := 23) (s := 13) rfl (by kernel_rfl) (by decide) opT37 (opensF_nil)))))))))))))))))))))))
abbrev rdT22 := rSlice 36 344 rdT39
theorem opT22 : Opens Tryz.prog 22 rdT22 := opens_slice Tryz.underlying22 (by kernel_rfl) (by kernel_rfl) (by decide) opT39
abbrev rdT23 := rSlice 1 2 rdT30
theorem opT23 : Opens Tryz.prog 23 rdT23 := opens_slice Tryz.underlying23 (by kernel_rfl) (by kernel_rfl) (by decide) opT30

set_option maxRecDepth 100000 in
theorem lifted (os : Os) (started : os.Started) (H : Type) (enc : TypeId × Value → H) :
    ReturnsInHanded {} Tryz.checked os 3 .any (fun w args => (Rows.topWireSpec.pre enc Tryz.prog Tryz.f3 Rows.topWireRow.domain false w args ∧ laidMetH Tryz.prog Rows.topWireRow.laid w) ∧ sizedMet enc Tryz.prog Tryz.f3 (OpenSpec.ofChange Rows.topWireSpec) false w args) (Rows.topWireSpec.post enc Tryz.prog Tryz.f3 false true false false) := by
  refine returns_laid (C := Tryz.checked) (laid := laidU8) own started (by kernel_rfl) Tryz.func3
    (ChangeSpec.witness_shaped (enc := enc) (C := Tryz.checked) (os := os) (X := fun w _ => laidMetH Tryz.prog laidU8 w) false (laidWorld os) #[.slice none 0 0, .slice none 0 0] 8 (World.laidAll_os _ _ _)
      (laidWorld_shaped os _) (by kernel_rfl) (by kernel_rfl) (by kernel_rfl) (laidWorld_met os _)) ?_
  intro W base args ds gs before hval0 hW hcnd hsz0 hL hsh _
  have tabs : Ent (Old W) Tabs := tabs_old hL hsh
  haveI : Gives (Old W) Tabs := ⟨tabs⟩
  have hval : ∀ (j : Nat) t v, Tryz.f3.params[j]? = some t → args[j]? = some v → Value.okWide Tryz.prog W .any base t v := hval0
  have hsz : (DataW.weightsEach Tryz.prog (Tryz.f3.params.toList ++ Rows.topWireSpec.plain.varTypes Tryz.prog) (ds ++ gs)).all (· ≤ reachBytes) = true := hsz0
  have hW' := hW
  obtain ⟨p, q, hA0, hV, rfl, hfz, hnd⟩ := hW
  have hA : DataW.TrodAll enc Tryz.prog W 0 (fun _ => true) true Tryz.f3.params.toList args.toList ds p := hA0
  rw [Tryz.params3] at hA hval hsz
  obtain ⟨v0, vs0, d0, ds0, p0, q0, hargs, rfl, rfl, h0, r0⟩ := trodAll_cons hA
  obtain ⟨v1, vs1, d1, ds1, p1, q1, rfl, rfl, rfl, h1, r1⟩ := trodAll_cons r0
  obtain ⟨rfl, rfl, rfl⟩ := trodAll_nil r1
  obtain rfl : args = #[v0, v1] := by cases args; simp_all
  obtain ⟨rfl, rfl⟩ := trodVars_none hV
  have k0 := h0
  have lt0 : ∀ x ∈ p0, x.block < W.heap.size := by obtain ⟨m, hm⟩ := k0; exact DataW.trod_lt m _ _ _ hm
  obtain ⟨x0, c0⟩ := Opens.arg opT22 h0 hsz 0 rfl rfl
  obtain ⟨a0, l0, cap0, rfl⟩ := okWide_slice Tryz.underlying22 (hval 0 22 v0 rfl rfl)
  replace c0 : (rdT22).rel x0 [.slice a0 l0 cap0] (heapOf W) := c0
  have k1 := h1
  have lt1 : ∀ x ∈ p1, x.block < W.heap.size := by obtain ⟨m, hm⟩ := k1; exact DataW.trod_lt m _ _ _ hm
  obtain ⟨x1, c1⟩ := Opens.arg opT23 h1 hsz 1 rfl rfl
  obtain ⟨a1, l1, cap1, rfl⟩ := okWide_slice Tryz.underlying23 (hval 1 23 v1 rfl rfl)
  replace c1 : (rdT23).rel x1 [.slice a1 l1 cap1] (heapOf W) := c1
  clear hA0 hval0
  obtain ⟨xs, hi, hN, hLen⟩ := msgs_arg c0
  obtain ⟨cuts, hcl, hcu, hc⟩ := cuts_arg c1
  have walk := wire_any hLen hN hi hc hcu hcl (St.start W)
  refine walk.mono fun e W' ⟨hst, he⟩ => ?_
  have bel := hst.below0
  subst he
  exact ⟨_, rfl, _, _, _, [], _, [], hW', trodAll_mk1 (shut_bool Tryz.underlying4 _), (trodAll_cons_mk (Below.trod laidOut (by kernel_rfl) (of_decide_eq_true (by kernel_rfl)) k0 bel lt0) (trodAll_cons_mk (Below.trod laidOut (by kernel_rfl) (of_decide_eq_true (by kernel_rfl)) k1 bel lt1) trodAll_mk0)), rfl, bel.frame _, fun h => by cases h⟩

theorem over : Rows.topWireRow.holds Tryz.pinned (OpenSpec.ofChange Rows.topWireSpec) :=
  OpenClaim.holds_of_wide 3 Tryz.f3 rfl rfl rfl rfl rfl rfl rfl ⟨rfl, rfl, rfl, rfl, rfl⟩ rfl rfl rfl rfl rfl (by kernel_rfl) Tryz.func3 (by kernel_rfl)
    (of_decide_eq_true (by kernel_rfl)) (by unfold Func.isWrapper; first | (rw [if_pos (by decide +kernel)]; kernel_rfl) | (rw [if_neg (by decide +kernel)]; exact ⟨rfl, rfl⟩))
    (fun os started H enc _ => lifted os started H enc)

theorem said : Rows.TopWireSaid :=
  over

theorem proved : Rows.TopWireCardSaid :=
  Claim7.holds_tied_plain_at .later [] [.data, .data, .data, .data, .sentinel, .sentinel, .pinned] true (true, "79465207ad6a2be7e739a22de63792a97c9ab4a2d92a74dcffa63025809a68b7") true
    said (fun _ h => by cases h) (by kernel_rfl) (fun _ h => by cases h) topWire_row_tie rfl ⟨rfl, rfl⟩ (by kernel_rfl) rfl
    (fun f fn hf hfn => by
      obtain rfl : f = 3 := Option.some.inj ((show Tryz.prog.funcNamed "verger/vergertop.TopWire" = some 3 by kernel_rfl).symm.trans hf) |>.symm
      obtain rfl : fn = Tryz.f3 := (Option.some.inj (Tryz.func3.symm.trans hfn)).symm
      exact ⟨by kernel_rfl, fun j t ht => by
        rw [Tryz.params3] at ht
        have hm : t ∈ [22, 23] := by simpa using Array.mem_of_getElem? ht
        have hall : ([22, 23].all fun u => !Tryz.prog.wantsStandIn u) = true := by kernel_rfl
        exact (show Tryz.prog.wantsStandIn t = false by simpa using List.all_eq_true.1 hall t hm)⟩)
    (by kernel_rfl)
#print axioms proved
end Go.Proofs.YtmiohkmcnppaeaaGreatDoor.topWire


/-
  The statement TopRecords: The statement TopRecords: a record in an Rstat is the record alone behind its count, and its fields are read back number by number, text by text: the function returns true for every record. No conditions. No conditions.
-/
import Derived.Test.YtonajgmamdeohaaGreatDoorRows
import Derived.Test.YtonajgmamdeohaaGreatDoorTie
import Derived.Test.YtonajgmamdeohaaGreatDoorCards
import Derived.Test.YtonajgmamdeohaaGreatDoorDr
import Derived.SevenTiedAt
import Derived.Test.YtonajgmamdeohaaGreatDoorTrN
import Derived.Test.YtonajgmamdeohaaGreatDoorArgs
import Derived.Test.YtonajgmamdeohaaGreatDoorBel
import Derived.Test.YtonajgmamdeohaaGreatDoorDr
import Derived.Test.YtonajgmamdeohaaGreatDoorArgs
import Derived.Below
import Derived.WalkKit
import Derived.ProofKit
import Derived.OpenShut
import Derived.ShutString
import Derived.ChangeOld
import Derived.Carry
import Derived.SizedLaws
namespace Go.Proofs.YtonajgmamdeohaaGreatDoor.topRecords
open Go.Proofs.YtonajgmamdeohaaGreatDoor
open Go.ChangeShapes Go.WideShapes Go.ChangeAt Go.RowKit
open Go.ChangeMaps (open_string shut_string)
set_option linter.unusedVariables false

theorem own : ownKnob Tryz.prog.godebug = none := by kernel_rfl
theorem laidOut : laidOutB Tryz.prog = true := by kernel_rfl

abbrev rdT9 := rStr
theorem opT9 : Opens Tryz.prog 9 rdT9 := opens_str Tryz.underlying9
abbrev rdT24 := rInt .u64
theorem opT24 : Opens Tryz.prog 24 rdT24 := opens_int Tryz.underlying24
abbrev rdT23 := rInt .u32
theorem opT23 : Opens Tryz.prog 23 rdT23 := opens_int Tryz.underlying23
abbrev rdT5 := rInt .u8
theorem opT5 : Opens Tryz.prog 5 rdT5 := opens_int Tryz.underlying5
abbrev rdT26 := rCons 1 rdT5 (rCons 1 rdT23 (rCons 1 rdT24 (rEnd)))
theorem opT26 : Opens Tryz.prog 26 rdT26 := opens_struct Tryz.underlying26 (N := 3) (by kernel_rfl) (opensF_cons (N := 3) (off := 0) (s := 1) rfl (by kernel_rfl) (by decide) opT5 (opensF_cons (N := 3) (off := 1) (s := 1) rfl (by kernel_rfl) (by decide) opT23 (opensF_cons (N := 3) (off := 2) (s := 1) rfl (by kernel_rfl) (by decide) opT24 (opensF_nil))))
abbrev rdT22 := rInt .u16
theorem opT22 : Opens Tryz.prog 22 rdT22 := opens_int Tryz.underlying22
abbrev rdT28 := rCons 1 rdT22 (rCons 1 rdT23 (rCons 3 rdT26 (rCons 1 rdT23 (rCons 1 rdT23 (rCons 1 rdT23 (rCons 1 rdT24 (rCons 1 rdT9 (rCons 1 rdT9 (rCons 1 rdT9 (rCons 1 rdT9 (rEnd)))))))))))
theorem opT28 : Opens Tryz.prog 28 rdT28 := opens_struct Tryz.underlying28 (N := 13) (by kernel_rfl) (opensF_cons (N := 13) (off := 0) (s := 1) rfl (by kernel_rfl) (by decide) opT22 (opensF_cons (N := 13) (off := 1) (s := 1) rfl (by kernel_rfl) (by decide) opT23 (opensF_cons (N := 13) (off := 2) (s := 3) rfl (by kernel_rfl) (by decide) opT26 (opensF_cons (N := 13) (off := 5) (s := 1) rfl (by kernel_rfl) (by decide) opT23 (opensF_cons (N := 13) (off := 6) (s := 1) rfl (by kernel_rfl) (by decide) opT23 (opensF_cons (N := 13) (off := 7) (s := 1) rfl (by kernel_rfl) (by decide) opT23 (opensF_cons (N := 13) (off := 8) (s := 1) rfl (by kernel_rfl) (by decide) opT24 (opensF_cons (N := 13) (off := 9) (s := 1) rfl (by kernel_rfl) (by decide) opT9 (opensF_cons (N := 13) (off := 10) (s := 1) rfl (by kernel_rfl) (by decide) opT9 (opensF_cons (N := 13) (off := 11) (s := 1) rfl (by kernel_rfl) (by decide) opT9 (opensF_cons (N := 13) (off := 12) (s := 1) rfl (by kernel_rfl) (by decide) opT9 (opensF_nil))))))))))))

set_option maxRecDepth 100000 in
theorem lifted (os : Os) (started : os.Started) (H : Type) (enc : TypeId × Value → H) :
    ReturnsInHanded {} Tryz.checked os 3 .any (fun w args => (Rows.topRecordsSpec.pre enc Tryz.prog Tryz.f3 Rows.topRecordsRow.domain false w args ∧ laidMetH Tryz.prog Rows.topRecordsRow.laid w) ∧ sizedMet enc Tryz.prog Tryz.f3 (OpenSpec.ofChange Rows.topRecordsSpec) false w args) (Rows.topRecordsSpec.post enc Tryz.prog Tryz.f3 false true false false) := by
  refine returns_laid (C := Tryz.checked) (laid := laidU8) own started (by kernel_rfl) Tryz.func3
    (ChangeSpec.witness_shaped (enc := enc) (C := Tryz.checked) (os := os) (X := fun w _ => laidMetH Tryz.prog laidU8 w) false (laidWorld os) #[.agg #[.int .u16 0, .int .u32 0, .int .u8 0, .int .u32 0, .int .u64 0, .int .u32 0, .int .u32 0, .int .u32 0, .int .u64 0, .string ⟨#[]⟩, .string ⟨#[]⟩, .string ⟨#[]⟩, .string ⟨#[]⟩]] 8 (World.laidAll_os _ _ _)
      (laidWorld_shaped os _) (by kernel_rfl) (by kernel_rfl) (by kernel_rfl) (laidWorld_met os _)) ?_
  intro W base args ds gs before hval0 hW hcnd hsz0 hL hsh _
  have tabs : Ent (Old W) Tabs := tabs_old hL hsh
  haveI : Gives (Old W) Tabs := ⟨tabs⟩
  have hval : ∀ (j : Nat) t v, Tryz.f3.params[j]? = some t → args[j]? = some v → Value.okWide Tryz.prog W .any base t v := hval0
  have hsz : (DataW.weightsEach Tryz.prog (Tryz.f3.params.toList ++ Rows.topRecordsSpec.plain.varTypes Tryz.prog) (ds ++ gs)).all (· ≤ reachBytes) = true := hsz0
  have hW' := hW
  obtain ⟨p, q, hA0, hV, rfl, hfz, hnd⟩ := hW
  have hA : DataW.TrodAll enc Tryz.prog W 0 (fun _ => true) true Tryz.f3.params.toList args.toList ds p := hA0
  rw [Tryz.params3] at hA hval hsz
  obtain ⟨v0, vs0, d0, ds0, p0, q0, hargs, rfl, rfl, h0, r0⟩ := trodAll_cons hA
  obtain ⟨rfl, rfl, rfl⟩ := trodAll_nil r0
  obtain rfl : args = #[v0] := by cases args; simp_all
  obtain ⟨rfl, rfl⟩ := trodVars_none hV
  have k0 := h0
  have lt0 : ∀ x ∈ p0, x.block < W.heap.size := by obtain ⟨m, hm⟩ := k0; exact DataW.trod_lt m _ _ _ hm
  obtain ⟨x0, c0⟩ := Opens.arg opT28 h0 hsz 0 rfl rfl
  obtain ⟨cs0, rfl, _⟩ : ∃ cs, v0 = .agg cs ∧ True := by
    have := hval 0 28 v0 rfl rfl
    unfold Value.okWide at this
    rw [Tryz.underlying28] at this
    obtain ⟨cs, h, _⟩ := this
    exact ⟨cs, h, trivial⟩
  replace c0 : (rdT28).rel x0 cs0.toList (heapOf W) := c0
  clear hA0 hval0
  obtain ⟨d, hcs, hn, b1, b2, b3, b4⟩ := stat_arg c0
  obtain rfl : cs0 = (statC d).toArray := by rw [← hcs]
  have walk := records_any hn b1 b2 b3 b4 (St.start W)
  refine walk.mono fun e W' ⟨hst, he⟩ => ?_
  have bel := hst.below0
  subst he
  exact ⟨_, rfl, _, _, _, [], _, [], hW', trodAll_mk1 (shut_bool Tryz.underlying4 _), (trodAll_cons_mk (Below.trod laidOut (by kernel_rfl) (of_decide_eq_true (by kernel_rfl)) k0 bel lt0) trodAll_mk0), rfl, bel.frame _, fun h => by cases h⟩

theorem over : Rows.topRecordsRow.holds Tryz.pinned (OpenSpec.ofChange Rows.topRecordsSpec) :=
  OpenClaim.holds_of_wide 3 Tryz.f3 rfl rfl rfl rfl rfl rfl rfl ⟨rfl, rfl, rfl, rfl, rfl⟩ rfl rfl rfl rfl rfl (by kernel_rfl) Tryz.func3 (by kernel_rfl)
    (of_decide_eq_true (by kernel_rfl)) (by unfold Func.isWrapper; first | (rw [if_pos (by decide +kernel)]; kernel_rfl) | (rw [if_neg (by decide +kernel)]; exact ⟨rfl, rfl⟩))
    (fun os started H enc _ => lifted os started H enc)

theorem said : Rows.TopRecordsSaid :=
  over

theorem proved : Rows.TopRecordsCardSaid :=
  Claim7.holds_tied_plain_at .later [] [.data, .data, .data, .data, .sentinel, .sentinel, .pinned] true (true, "bc1feb056401acb87de48b193db2119f06b28ec669df290d02e33f1e18d283d1") true
    said (fun _ h => by cases h) (by kernel_rfl) (fun _ h => by cases h) topRecords_row_tie rfl ⟨rfl, rfl⟩ (by kernel_rfl) rfl
    (fun f fn hf hfn => by
      obtain rfl : f = 3 := Option.some.inj ((show Tryz.prog.funcNamed "verger/vergertop.TopRecords" = some 3 by kernel_rfl).symm.trans hf) |>.symm
      obtain rfl : fn = Tryz.f3 := (Option.some.inj (Tryz.func3.symm.trans hfn)).symm
      exact ⟨by kernel_rfl, fun j t ht => by
        rw [Tryz.params3] at ht
        have hm : t ∈ [28] := by simpa using Array.mem_of_getElem? ht
        have hall : ([28].all fun u => !Tryz.prog.wantsStandIn u) = true := by kernel_rfl
        exact (show Tryz.prog.wantsStandIn t = false by simpa using List.all_eq_true.1 hall t hm)⟩)
    (by kernel_rfl)
#print axioms proved
end Go.Proofs.YtonajgmamdeohaaGreatDoor.topRecords


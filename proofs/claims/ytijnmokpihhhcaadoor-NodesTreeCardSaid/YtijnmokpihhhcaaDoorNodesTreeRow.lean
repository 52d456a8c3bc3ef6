/-
  The statement NodesTree: It is a tree, whatever was done: each node but the root is a child of a directory made ahead of it, which counts it; names of a directory's children are unlike; every node is found; there are never more than may be. No conditions. No conditions.
-/
import Derived.Test.YtijnmokpihhhcaaDoorRows
import Derived.Test.YtijnmokpihhhcaaDoorTie
import Derived.Test.YtijnmokpihhhcaaDoorCards
import Derived.Test.YtijnmokpihhhcaaDoorZ12
import Derived.SevenTiedAt
import Derived.Below
import Derived.WalkKit
import Derived.ProofKit
import Derived.OpenShut
import Derived.ShutString
import Derived.ChangeOld
import Derived.Carry
import Derived.SizedLaws
namespace Go.Proofs.YtijnmokpihhhcaaDoor.nodesTree
open Go.Proofs.YtijnmokpihhhcaaDoor
open Go.ChangeShapes Go.WideShapes Go.ChangeAt Go.RowKit
open Go.ChangeMaps (open_string shut_string)
set_option linter.unusedVariables false

theorem own : ownKnob Tryd.prog.godebug = none := by kernel_rfl
theorem laidOut : laidOutB Tryd.prog = true := by kernel_rfl

abbrev rdT3 := rInt .i64
theorem opT3 : Opens Tryd.prog 3 rdT3 := opens_int Tryd.underlying3
abbrev rdT51 := rBytes
theorem opT51 : Opens Tryd.prog 51 rdT51 := opens_bytes Tryd.underlying51 Tryd.underlying5 (by kernel_rfl) (by kernel_rfl)
abbrev rdT30 := rInt .u64
theorem opT30 : Opens Tryd.prog 30 rdT30 := opens_int Tryd.underlying30
abbrev rdT29 := rInt .u32
theorem opT29 : Opens Tryd.prog 29 rdT29 := opens_int Tryd.underlying29
abbrev rdT9 := rStr
theorem opT9 : Opens Tryd.prog 9 rdT9 := opens_str Tryd.underlying9
abbrev rdT41 := rCons 1 rdT30 (rCons 1 rdT30 (rCons 1 rdT9 (rCons 1 rdT29 (rCons 1 rdT9 (rCons 1 rdT9 (rCons 1 rdT9 (rCons 1 rdT29 (rCons 1 rdT29 (rCons 1 rdT29 (rCons 1 rdT30 (rCons 1 rdT3 (rCons 1 rdT3 (rEnd)))))))))))))
theorem opT41 : Opens Tryd.prog 41 rdT41 := opens_struct Tryd.underlying41 (N := 13) (by kernel_rfl) (opensF_cons (N := 13) (off := 0) (s := 1) rfl (by kernel_rfl) (by decide) opT30 (opensF_cons (N := 13) (off := 1) (s := 1) rfl (by kernel_rfl) (by decide) opT30 (opensF_cons (N := 13) (off := 2) (s := 1) rfl (by kernel_rfl) (by decide) opT9 (opensF_cons (N := 13) (off := 3) (s := 1) rfl (by kernel_rfl) (by decide) opT29 (opensF_cons (N := 13) (off := 4) (s := 1) rfl (by kernel_rfl) (by decide) opT9 (opensF_cons (N := 13) (off := 5) (s := 1) rfl (by kernel_rfl) (by decide) opT9 (opensF_cons (N := 13) (off := 6) (s := 1) rfl (by kernel_rfl) (by decide) opT9 (opensF_cons (N := 13) (off := 7) (s := 1) rfl (by kernel_rfl) (by decide) opT29 (opensF_cons (N := 13) (off := 8) (s := 1) rfl (by kernel_rfl) (by decide) opT29 (opensF_cons (N := 13) (off := 9) (s := 1) rfl (by kernel_rfl) (by decide) opT29 (opensF_cons (N := 13) (off := 10) (s := 1) rfl (by kernel_rfl) (by decide) opT30 (opensF_cons (N := 13) (off := 11) (s := 1) rfl (by kernel_rfl) (by decide) opT3 (opensF_cons (N := 13) (off := 12) (s := 1) rfl (by kernel_rfl) (by decide) opT3 (opensF_nil))))))))))))))
abbrev rdT24 := rInt .u8
theorem opT24 : Opens Tryd.prog 24 rdT24 := opens_int Tryd.underlying24
abbrev rdT22 := rInt .u8
theorem opT22 : Opens Tryd.prog 22 rdT22 := opens_int Tryd.underlying22
abbrev rdT53 := rCons 1 rdT22 (rCons 1 rdT30 (rCons 1 rdT9 (rCons 1 rdT24 (rCons 13 rdT41 (rCons 1 rdT30 (rCons 1 rdT51 (rCons 1 rdT3 (rEnd))))))))
theorem opT53 : Opens Tryd.prog 53 rdT53 := opens_struct Tryd.underlying53 (N := 20) (by kernel_rfl) (opensF_cons (N := 20) (off := 0) (s := 1) rfl (by kernel_rfl) (by decide) opT22 (opensF_cons (N := 20) (off := 1) (s := 1) rfl (by kernel_rfl) (by decide) opT30 (opensF_cons (N := 20) (off := 2) (s := 1) rfl (by kernel_rfl) (by decide) opT9 (opensF_cons (N := 20) (off := 3) (s := 1) rfl (by kernel_rfl) (by decide) opT24 (opensF_cons (N := 20) (off := 4) (s := 13) rfl (by kernel_rfl) (by decide) opT41 (opensF_cons (N := 20) (off := 17) (s := 1) rfl (by kernel_rfl) (by decide) opT30 (opensF_cons (N := 20) (off := 18) (s := 1) rfl (by kernel_rfl) (by decide) opT51 (opensF_cons (N := 20) (off := 19) (s := 1) rfl (by kernel_rfl) (by decide) opT3 (opensF_nil)))))))))
abbrev rdT67 := rSlice 20 208 rdT53
theorem opT67 : Opens Tryd.prog 67 rdT67 := opens_slice Tryd.underlying67 (by kernel_rfl) (by kernel_rfl) (by decide) opT53

set_option maxRecDepth 100000 in
theorem lifted (os : Os) (started : os.Started) (H : Type) (enc : TypeId × Value → H) :
    ReturnsInHanded {} Tryd.checked os 7 .any (fun w args => (Rows.nodesTreeSpec.pre enc Tryd.prog Tryd.f7 Rows.nodesTreeRow.domain false w args ∧ laidMetH Tryd.prog Rows.nodesTreeRow.laid w) ∧ sizedMet enc Tryd.prog Tryd.f7 (OpenSpec.ofChange Rows.nodesTreeSpec) false w args) (Rows.nodesTreeSpec.post enc Tryd.prog Tryd.f7 false true false false) := by
  refine returns_laid (C := Tryd.checked) (laid := laidU8) own started (by kernel_rfl) Tryd.func7
    (ChangeSpec.witness_shaped (enc := enc) (C := Tryd.checked) (os := os) (X := fun w _ => laidMetH Tryd.prog laidU8 w) false (laidWorld os) #[.int .i64 0, .slice none 0 0] 8 (World.laidAll_os _ _ _)
      (laidWorld_shaped os _) (by kernel_rfl) (by kernel_rfl) (by kernel_rfl) (laidWorld_met os _)) ?_
  intro W base args ds gs before hval0 hW hcnd hsz0 hL hsh _
  have tabs : Ent (Old W) Tabs := tabs_old hL hsh
  haveI : Gives (Old W) Tabs := ⟨tabs⟩
  have hval : ∀ (j : Nat) t v, Tryd.f7.params[j]? = some t → args[j]? = some v → Value.okWide Tryd.prog W .any base t v := hval0
  have hsz : (DataW.weightsEach Tryd.prog (Tryd.f7.params.toList ++ Rows.nodesTreeSpec.plain.varTypes Tryd.prog) (ds ++ gs)).all (· ≤ reachBytes) = true := hsz0
  have hW' := hW
  obtain ⟨p, q, hA0, hV, rfl, hfz, hnd⟩ := hW
  have hA : DataW.TrodAll enc Tryd.prog W 0 (fun _ => true) true Tryd.f7.params.toList args.toList ds p := hA0
  rw [Tryd.params7] at hA hval hsz
  obtain ⟨v0, vs0, d0, ds0, p0, q0, hargs, rfl, rfl, h0, r0⟩ := trodAll_cons hA
  obtain ⟨v1, vs1, d1, ds1, p1, q1, rfl, rfl, rfl, h1, r1⟩ := trodAll_cons r0
  obtain ⟨rfl, rfl, rfl⟩ := trodAll_nil r1
  obtain rfl : args = #[v0, v1] := by cases args; simp_all
  obtain ⟨rfl, rfl⟩ := trodVars_none hV
  obtain ⟨n0, rfl, rfl, rfl, w0⟩ := open_int Tryd.underlying3 (hval 0 3 v0 rfl rfl) h0
  have k1 := h1
  have lt1 : ∀ x ∈ p1, x.block < W.heap.size := by obtain ⟨m, hm⟩ := k1; exact DataW.trod_lt m _ _ _ hm
  obtain ⟨x1, c1⟩ := Opens.arg opT67 h1 hsz 1 rfl rfl
  obtain ⟨a1, l1, cap1, rfl⟩ := okWide_slice Tryd.underlying67 (hval 1 67 v1 rfl rfl)
  replace c1 : (rdT67).rel x1 [.slice a1 l1 cap1] (heapOf W) := c1
  clear hA0 hval0
  obtain ⟨ops, ⟨a', c', e⟩, hP⟩ := ops_arq c1
  simp only [Value.slice.injEq] at e
  obtain ⟨rfl, rfl, rfl⟩ := e
  have walk := tree_any (wf_i64 w0) hP (St.start W)
  refine walk.mono fun e W' ⟨hst, he⟩ => ?_
  have bel := hst.below0
  subst he
  exact ⟨_, rfl, _, _, _, [], _, [], hW', trodAll_mk1 (shut_bool Tryd.underlying4 _), (trodAll_cons_mk (shut_int Tryd.underlying3 w0) (trodAll_cons_mk (Below.trod laidOut (by kernel_rfl) (of_decide_eq_true (by kernel_rfl)) k1 bel lt1) trodAll_mk0)), rfl, bel.frame _, fun h => by cases h⟩

theorem over : Rows.nodesTreeRow.holds Tryd.pinned (OpenSpec.ofChange Rows.nodesTreeSpec) :=
  OpenClaim.holds_of_wide 7 Tryd.f7 rfl rfl rfl rfl rfl rfl rfl ⟨rfl, rfl, rfl, rfl, rfl⟩ rfl rfl rfl rfl rfl (by kernel_rfl) Tryd.func7 (by kernel_rfl)
    (of_decide_eq_true (by kernel_rfl)) (by unfold Func.isWrapper; first | (rw [if_pos (by decide +kernel)]; kernel_rfl) | (rw [if_neg (by decide +kernel)]; exact ⟨rfl, rfl⟩))
    (fun os started H enc _ => lifted os started H enc)

theorem said : Rows.NodesTreeSaid :=
  over

theorem proved : Rows.NodesTreeCardSaid :=
  Claim7.holds_tied_plain_at .later [] [.data, .pinned] true (true, "66d1f36538062ea585267282a09c8e5371b93a57b8ebe2a91a95b79da9598c10") false
    said (fun _ h => by cases h) (by kernel_rfl) (fun _ h => by cases h) nodesTree_row_tie rfl ⟨rfl, rfl⟩ (by kernel_rfl) rfl
    (fun f fn hf hfn => by
      obtain rfl : f = 7 := Option.some.inj ((show Tryd.prog.funcNamed "verger/vergerlaw08.NodesTree" = some 7 by kernel_rfl).symm.trans hf) |>.symm
      obtain rfl : fn = Tryd.f7 := (Option.some.inj (Tryd.func7.symm.trans hfn)).symm
      exact ⟨by kernel_rfl, fun j t ht => by
        rw [Tryd.params7] at ht
        have hm : t ∈ [3, 67] := by simpa using Array.mem_of_getElem? ht
        have hall : ([3, 67].all fun u => !Tryd.prog.wantsStandIn u) = true := by kernel_rfl
        exact (show Tryd.prog.wantsStandIn t = false by simpa using List.all_eq_true.1 hall t hm)⟩)
    (by kernel_rfl)
#print axioms proved
end Go.Proofs.YtijnmokpihhhcaaDoor.nodesTree


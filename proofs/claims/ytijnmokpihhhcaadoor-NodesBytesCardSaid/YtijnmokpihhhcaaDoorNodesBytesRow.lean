/-
  The statement NodesBytes: Bytes stay: what is read was written there last, by data or by a cut; what nobody wrote is 00; the length is where the last byte ends, or what a cut says. No conditions. No conditions.
-/
import Derived.Test.YtijnmokpihhhcaaDoorRows
import Derived.Test.YtijnmokpihhhcaaDoorTie
import Derived.Test.YtijnmokpihhhcaaDoorCards
import Derived.Test.YtijnmokpihhhcaaDoorZ12
import Derived.SevenTiedAt
import Derived.Below
import Derived.WalkKit
import Derived.ProofKit
import Derived.OpenShut
import Derived.ShutString
import Derived.ChangeOld
import Derived.Carry
import Derived.SizedLaws
namespace Go.Proofs.YtijnmokpihhhcaaDoor.nodesBytes
open Go.Proofs.YtijnmokpihhhcaaDoor
open Go.ChangeShapes Go.WideShapes Go.ChangeAt Go.RowKit
open Go.ChangeMaps (open_string shut_string)
set_option linter.unusedVariables false

theorem own : ownKnob Tryd.prog.godebug = none := by kernel_rfl
theorem laidOut : laidOutB Tryd.prog = true := by kernel_rfl

abbrev rdT5 := rInt .u8
theorem opT5 : Opens Tryd.prog 5 rdT5 := opens_int Tryd.underlying5
abbrev rdT3 := rInt .i64
theorem opT3 : Opens Tryd.prog 3 rdT3 := opens_int Tryd.underlying3
abbrev rdT59 := rCons 1 rdT3 (rCons 1 rdT3 (rCons 1 rdT3 (rCons 1 rdT3 (rCons 1 rdT5 (rEnd)))))
theorem opT59 : Opens Tryd.prog 59 rdT59 := opens_struct Tryd.underlying59 (N := 5) (by kernel_rfl) (opensF_cons (N := 5) (off := 0) (s := 1) rfl (by kernel_rfl) (by decide) opT3 (opensF_cons (N := 5) (off := 1) (s := 1) rfl (by kernel_rfl) (by decide) opT3 (opensF_cons (N := 5) (off := 2) (s := 1) rfl (by kernel_rfl) (by decide) opT3 (opensF_cons (N := 5) (off := 3) (s := 1) rfl (by kernel_rfl) (by decide) opT3 (opensF_cons (N := 5) (off := 4) (s := 1) rfl (by kernel_rfl) (by decide) opT5 (opensF_nil))))))
abbrev rdT47 := rSlice 5 40 rdT59
theorem opT47 : Opens Tryd.prog 47 rdT47 := opens_slice Tryd.underlying47 (by kernel_rfl) (by kernel_rfl) (by decide) opT59

set_option maxRecDepth 100000 in
theorem lifted (os : Os) (started : os.Started) (H : Type) (enc : TypeId × Value → H) :
    ReturnsInHanded {} Tryd.checked os 5 .any (fun w args => (Rows.nodesBytesSpec.pre enc Tryd.prog Tryd.f5 Rows.nodesBytesRow.domain false w args ∧ laidMetH Tryd.prog Rows.nodesBytesRow.laid w) ∧ sizedMet enc Tryd.prog Tryd.f5 (OpenSpec.ofChange Rows.nodesBytesSpec) false w args) (Rows.nodesBytesSpec.post enc Tryd.prog Tryd.f5 false true false false) := by
  refine returns_laid (C := Tryd.checked) (laid := laidU8) own started (by kernel_rfl) Tryd.func5
    (ChangeSpec.witness_shaped (enc := enc) (C := Tryd.checked) (os := os) (X := fun w _ => laidMetH Tryd.prog laidU8 w) false (laidWorld os) #[.slice none 0 0] 8 (World.laidAll_os _ _ _)
      (laidWorld_shaped os _) (by kernel_rfl) (by kernel_rfl) (by kernel_rfl) (laidWorld_met os _)) ?_
  intro W base args ds gs before hval0 hW hcnd hsz0 hL hsh _
  have tabs : Ent (Old W) Tabs := tabs_old hL hsh
  haveI : Gives (Old W) Tabs := ⟨tabs⟩
  have hval : ∀ (j : Nat) t v, Tryd.f5.params[j]? = some t → args[j]? = some v → Value.okWide Tryd.prog W .any base t v := hval0
  have hsz : (DataW.weightsEach Tryd.prog (Tryd.f5.params.toList ++ Rows.nodesBytesSpec.plain.varTypes Tryd.prog) (ds ++ gs)).all (· ≤ reachBytes) = true := hsz0
  have hW' := hW
  obtain ⟨p, q, hA0, hV, rfl, hfz, hnd⟩ := hW
  have hA : DataW.TrodAll enc Tryd.prog W 0 (fun _ => true) true Tryd.f5.params.toList args.toList ds p := hA0
  rw [Tryd.params5] at hA hval hsz
  obtain ⟨v0, vs0, d0, ds0, p0, q0, hargs, rfl, rfl, h0, r0⟩ := trodAll_cons hA
  obtain ⟨rfl, rfl, rfl⟩ := trodAll_nil r0
  obtain rfl : args = #[v0] := by cases args; simp_all
  obtain ⟨rfl, rfl⟩ := trodVars_none hV
  have k0 := h0
  have lt0 : ∀ x ∈ p0, x.block < W.heap.size := by obtain ⟨m, hm⟩ := k0; exact DataW.trod_lt m _ _ _ hm
  obtain ⟨x0, c0⟩ := Opens.arg opT47 h0 hsz 0 rfl rfl
  obtain ⟨a0, l0, cap0, rfl⟩ := okWide_slice Tryd.underlying47 (hval 0 47 v0 rfl rfl)
  replace c0 : (rdT47).rel x0 [.slice a0 l0 cap0] (heapOf W) := c0
  clear hA0 hval0
  obtain ⟨ls, ⟨a', c', e⟩, hr, hok, hl⟩ := puts_arg c0
  simp only [Value.slice.injEq] at e
  obtain ⟨rfl, rfl, rfl⟩ := e
  have walk := bytes_any hr hok hl (St.start W)
  refine walk.mono fun e W' ⟨hst, he⟩ => ?_
  have bel := hst.below0
  subst he
  exact ⟨_, rfl, _, _, _, [], _, [], hW', trodAll_mk1 (shut_bool Tryd.underlying4 _), (trodAll_cons_mk (Below.trod laidOut (by kernel_rfl) (of_decide_eq_true (by kernel_rfl)) k0 bel lt0) trodAll_mk0), rfl, bel.frame _, fun h => by cases h⟩

theorem over : Rows.nodesBytesRow.holds Tryd.pinned (OpenSpec.ofChange Rows.nodesBytesSpec) :=
  OpenClaim.holds_of_wide 5 Tryd.f5 rfl rfl rfl rfl rfl rfl rfl ⟨rfl, rfl, rfl, rfl, rfl⟩ rfl rfl rfl rfl rfl (by kernel_rfl) Tryd.func5 (by kernel_rfl)
    (of_decide_eq_true (by kernel_rfl)) (by unfold Func.isWrapper; first | (rw [if_pos (by decide +kernel)]; kernel_rfl) | (rw [if_neg (by decide +kernel)]; exact ⟨rfl, rfl⟩))
    (fun os started H enc _ => lifted os started H enc)

theorem said : Rows.NodesBytesSaid :=
  over

theorem proved : Rows.NodesBytesCardSaid :=
  Claim7.holds_tied_plain_at .later [] [.data, .pinned] true (true, "66d1f36538062ea585267282a09c8e5371b93a57b8ebe2a91a95b79da9598c10") false
    said (fun _ h => by cases h) (by kernel_rfl) (fun _ h => by cases h) nodesBytes_row_tie rfl ⟨rfl, rfl⟩ (by kernel_rfl) rfl
    (fun f fn hf hfn => by
      obtain rfl : f = 5 := Option.some.inj ((show Tryd.prog.funcNamed "verger/vergerlaw08.NodesBytes" = some 5 by kernel_rfl).symm.trans hf) |>.symm
      obtain rfl : fn = Tryd.f5 := (Option.some.inj (Tryd.func5.symm.trans hfn)).symm
      exact ⟨by kernel_rfl, fun j t ht => by
        rw [Tryd.params5] at ht
        have hm : t ∈ [47] := by simpa using Array.mem_of_getElem? ht
        have hall : ([47].all fun u => !Tryd.prog.wantsStandIn u) = true := by kernel_rfl
        exact (show Tryd.prog.wantsStandIn t = false by simpa using List.all_eq_true.1 hall t hm)⟩)
    (by kernel_rfl)
#print axioms proved
end Go.Proofs.YtijnmokpihhhcaaDoor.nodesBytes


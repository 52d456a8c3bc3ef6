/-
  The statement NodesMade: Every New: the error; a store of the root alone, as the configuration says. No conditions. No conditions.
-/
import Derived.Test.YtijnmokpihhhcaaDoorRows
import Derived.Test.YtijnmokpihhhcaaDoorTie
import Derived.Test.YtijnmokpihhhcaaDoorCards
import Derived.Test.YtijnmokpihhhcaaDoorZ12
import Derived.SevenTiedAt
import Derived.Below
import Derived.WalkKit
import Derived.ProofKit
import Derived.OpenShut
import Derived.ShutString
import Derived.ChangeOld
import Derived.Carry
import Derived.SizedLaws
namespace Go.Proofs.YtijnmokpihhhcaaDoor.nodesMade
open Go.Proofs.YtijnmokpihhhcaaDoor
open Go.ChangeShapes Go.WideShapes Go.ChangeAt Go.RowKit
open Go.ChangeMaps (open_string shut_string)
set_option linter.unusedVariables false

theorem own : ownKnob Tryd.prog.godebug = none := by kernel_rfl
theorem laidOut : laidOutB Tryd.prog = true := by kernel_rfl

abbrev rdT3 := rInt .i64
theorem opT3 : Opens Tryd.prog 3 rdT3 := opens_int Tryd.underlying3
abbrev rdT29 := rInt .u32
theorem opT29 : Opens Tryd.prog 29 rdT29 := opens_int Tryd.underlying29
abbrev rdT30 := rInt .u64
theorem opT30 : Opens Tryd.prog 30 rdT30 := opens_int Tryd.underlying30
abbrev rdT9 := rStr
theorem opT9 : Opens Tryd.prog 9 rdT9 := opens_str Tryd.underlying9
abbrev rdT32 := rCons 1 rdT9 (rCons 1 rdT9 (rCons 1 rdT9 (rCons 1 rdT29 (rCons 1 rdT30 (rCons 1 rdT29 (rCons 1 rdT3 (rCons 1 rdT3 (rCons 1 rdT3 (rCons 1 rdT3 (rEnd))))))))))
theorem opT32 : Opens Tryd.prog 32 rdT32 := opens_struct Tryd.underlying32 (N := 10) (by kernel_rfl) (opensF_cons (N := 10) (off := 0) (s := 1) rfl (by kernel_rfl) (by decide) opT9 (opensF_cons (N := 10) (off := 1) (s := 1) rfl (by kernel_rfl) (by decide) opT9 (opensF_cons (N := 10) (off := 2) (s := 1) rfl (by kernel_rfl) (by decide) opT9 (opensF_cons (N := 10) (off := 3) (s := 1) rfl (by kernel_rfl) (by decide) opT29 (opensF_cons (N := 10) (off := 4) (s := 1) rfl (by kernel_rfl) (by decide) opT30 (opensF_cons (N := 10) (off := 5) (s := 1) rfl (by kernel_rfl) (by decide) opT29 (opensF_cons (N := 10) (off := 6) (s := 1) rfl (by kernel_rfl) (by decide) opT3 (opensF_cons (N := 10) (off := 7) (s := 1) rfl (by kernel_rfl) (by decide) opT3 (opensF_cons (N := 10) (off := 8) (s := 1) rfl (by kernel_rfl) (by decide) opT3 (opensF_cons (N := 10) (off := 9) (s := 1) rfl (by kernel_rfl) (by decide) opT3 (opensF_nil)))))))))))

set_option maxRecDepth 100000 in
theorem lifted (os : Os) (started : os.Started) (H : Type) (enc : TypeId × Value → H) :
    ReturnsInHanded {} Tryd.checked os 4 .any (fun w args => (Rows.nodesMadeSpec.pre enc Tryd.prog Tryd.f4 Rows.nodesMadeRow.domain false w args ∧ laidMetH Tryd.prog Rows.nodesMadeRow.laid w) ∧ sizedMet enc Tryd.prog Tryd.f4 (OpenSpec.ofChange Rows.nodesMadeSpec) false w args) (Rows.nodesMadeSpec.post enc Tryd.prog Tryd.f4 false true false false) := by
  refine returns_laid (C := Tryd.checked) (laid := laidU8) own started (by kernel_rfl) Tryd.func4
    (ChangeSpec.witness_shaped (enc := enc) (C := Tryd.checked) (os := os) (X := fun w _ => laidMetH Tryd.prog laidU8 w) false (laidWorld os) #[.agg #[.string ⟨#[]⟩, .string ⟨#[]⟩, .string ⟨#[]⟩, .int .u32 0, .int .u64 0, .int .u32 0, .int .i64 0, .int .i64 0, .int .i64 0, .int .i64 0]] 8 (World.laidAll_os _ _ _)
      (laidWorld_shaped os _) (by kernel_rfl) (by kernel_rfl) (by kernel_rfl) (laidWorld_met os _)) ?_
  intro W base args ds gs before hval0 hW hcnd hsz0 hL hsh _
  have tabs : Ent (Old W) Tabs := tabs_old hL hsh
  haveI : Gives (Old W) Tabs := ⟨tabs⟩
  have hval : ∀ (j : Nat) t v, Tryd.f4.params[j]? = some t → args[j]? = some v → Value.okWide Tryd.prog W .any base t v := hval0
  have hsz : (DataW.weightsEach Tryd.prog (Tryd.f4.params.toList ++ Rows.nodesMadeSpec.plain.varTypes Tryd.prog) (ds ++ gs)).all (· ≤ reachBytes) = true := hsz0
  have hW' := hW
  obtain ⟨p, q, hA0, hV, rfl, hfz, hnd⟩ := hW
  have hA : DataW.TrodAll enc Tryd.prog W 0 (fun _ => true) true Tryd.f4.params.toList args.toList ds p := hA0
  rw [Tryd.params4] at hA hval hsz
  obtain ⟨v0, vs0, d0, ds0, p0, q0, hargs, rfl, rfl, h0, r0⟩ := trodAll_cons hA
  obtain ⟨rfl, rfl, rfl⟩ := trodAll_nil r0
  obtain rfl : args = #[v0] := by cases args; simp_all
  obtain ⟨rfl, rfl⟩ := trodVars_none hV
  have k0 := h0
  have lt0 : ∀ x ∈ p0, x.block < W.heap.size := by obtain ⟨m, hm⟩ := k0; exact DataW.trod_lt m _ _ _ hm
  obtain ⟨x0, c0⟩ := Opens.arg opT32 h0 hsz 0 rfl rfl
  obtain ⟨cs0, rfl, _⟩ : ∃ cs, v0 = .agg cs ∧ True := by
    have := hval 0 32 v0 rfl rfl
    unfold Value.okWide at this
    rw [Tryd.underlying32] at this
    obtain ⟨cs, h, _⟩ := this
    exact ⟨cs, h, trivial⟩
  replace c0 : (rdT32).rel x0 cs0.toList (heapOf W) := c0
  clear hA0 hval0
  obtain ⟨y, e1, hp, hn, l1, l2, l3⟩ := rCfg_cells c0
  have ecs : cs0 = (cfgL y).toArray := by rw [← e1]
  subst ecs
  have walk := made_any hp hn l1 l2 l3 (St.start W)
  refine walk.mono fun e W' ⟨hst, he⟩ => ?_
  have bel := hst.below0
  subst he
  exact ⟨_, rfl, _, _, _, [], _, [], hW', trodAll_mk1 (shut_bool Tryd.underlying4 _), (trodAll_cons_mk (Below.trod laidOut (by kernel_rfl) (of_decide_eq_true (by kernel_rfl)) k0 bel lt0) trodAll_mk0), rfl, bel.frame _, fun h => by cases h⟩

theorem over : Rows.nodesMadeRow.holds Tryd.pinned (OpenSpec.ofChange Rows.nodesMadeSpec) :=
  OpenClaim.holds_of_wide 4 Tryd.f4 rfl rfl rfl rfl rfl rfl rfl ⟨rfl, rfl, rfl, rfl, rfl⟩ rfl rfl rfl rfl rfl (by kernel_rfl) Tryd.func4 (by kernel_rfl)
    (of_decide_eq_true (by kernel_rfl)) (by unfold Func.isWrapper; first | (rw [if_pos (by decide +kernel)]; kernel_rfl) | (rw [if_neg (by decide +kernel)]; exact ⟨rfl, rfl⟩))
    (fun os started H enc _ => lifted os started H enc)

theorem said : Rows.NodesMadeSaid :=
  over

theorem proved : Rows.NodesMadeCardSaid :=
  Claim7.holds_tied_plain_at .later [] [.data, .pinned] true (true, "66d1f36538062ea585267282a09c8e5371b93a57b8ebe2a91a95b79da9598c10") false
    said (fun _ h => by cases h) (by kernel_rfl) (fun _ h => by cases h) nodesMade_row_tie rfl ⟨rfl, rfl⟩ (by kernel_rfl) rfl
    (fun f fn hf hfn => by
      obtain rfl : f = 4 := Option.some.inj ((show Tryd.prog.funcNamed "verger/vergerlaw08.NodesMade" = some 4 by kernel_rfl).symm.trans hf) |>.symm
      obtain rfl : fn = Tryd.f4 := (Option.some.inj (Tryd.func4.symm.trans hfn)).symm
      exact ⟨by kernel_rfl, fun j t ht => by
        rw [Tryd.params4] at ht
        have hm : t ∈ [32] := by simpa using Array.mem_of_getElem? ht
        have hall : ([32].all fun u => !Tryd.prog.wantsStandIn u) = true := by kernel_rfl
        exact (show Tryd.prog.wantsStandIn t = false by simpa using List.all_eq_true.1 hall t hm)⟩)
    (by kernel_rfl)
#print axioms proved
end Go.Proofs.YtijnmokpihhhcaaDoor.nodesMade


/-
  The statement NodesDoes: Every script of operations and looks, on two stores in turns, of which one may become a clone of the other: every answer; what is lent stays, what comes out is its owner's. No conditions.
-/
import Derived.Test.YtijnmokpihhhcaaGreatDoorRows
import Derived.Test.YtijnmokpihhhcaaGreatDoorTie
import Derived.Test.YtijnmokpihhhcaaGreatDoorCards
import Derived.Test.YtijnmokpihhhcaaGreatDoorZ13
import Derived.SevenTiedAt
import Derived.Below
import Derived.WalkKit
import Derived.ProofKit
import Derived.OpenShut
import Derived.ShutString
import Derived.ChangeOld
import Derived.Carry
import Derived.SizedLaws
namespace Go.Proofs.YtijnmokpihhhcaaGreatDoor.nodesDoes
open Go.Proofs.YtijnmokpihhhcaaGreatDoor
open Go.ChangeShapes Go.WideShapes Go.ChangeAt Go.RowKit
open Go.ChangeMaps (open_string shut_string)
set_option linter.unusedVariables false

theorem own : ownKnob Tryz.prog.godebug = none := by kernel_rfl
theorem laidOut : laidOutB Tryz.prog = true := by kernel_rfl

abbrev rdT3 := rInt .i64
theorem opT3 : Opens Tryz.prog 3 rdT3 := opens_int Tryz.underlying3
abbrev rdT33 := rInt .u32
theorem opT33 : Opens Tryz.prog 33 rdT33 := opens_int Tryz.underlying33
abbrev rdT34 := rInt .u64
theorem opT34 : Opens Tryz.prog 34 rdT34 := opens_int Tryz.underlying34
abbrev rdT9 := rStr
theorem opT9 : Opens Tryz.prog 9 rdT9 := opens_str Tryz.underlying9
abbrev rdT36 := rCons 1 rdT9 (rCons 1 rdT9 (rCons 1 rdT9 (rCons 1 rdT33 (rCons 1 rdT34 (rCons 1 rdT33 (rCons 1 rdT3 (rCons 1 rdT3 (rCons 1 rdT3 (rCons 1 rdT3 (rEnd))))))))))
theorem opT36 : Opens Tryz.prog 36 rdT36 := opens_struct Tryz.underlying36 (N := 10) (by kernel_rfl) (opensF_cons (N := 10) (off := 0) (s := 1) rfl (by kernel_rfl) (by decide) opT9 (opensF_cons (N := 10) (off := 1) (s := 1) rfl (by kernel_rfl) (by decide) opT9 (opensF_cons (N := 10) (off := 2) (s := 1) rfl (by kernel_rfl) (by decide) opT9 (opensF_cons (N := 10) (off := 3) (s := 1) rfl (by kernel_rfl) (by decide) opT33 (opensF_cons (N := 10) (off := 4) (s := 1) rfl (by kernel_rfl) (by decide) opT34 (opensF_cons (N := 10) (off := 5) (s := 1) rfl (by kernel_rfl) (by decide) opT33 (opensF_cons (N := 10) (off := 6) (s := 1) rfl (by kernel_rfl) (by decide) opT3 (opensF_cons (N := 10) (off := 7) (s := 1) rfl (by kernel_rfl) (by decide) opT3 (opensF_cons (N := 10) (off := 8) (s := 1) rfl (by kernel_rfl) (by decide) opT3 (opensF_cons (N := 10) (off := 9) (s := 1) rfl (by kernel_rfl) (by decide) opT3 (opensF_nil)))))))))))
abbrev rdT4 := rBool
theorem opT4 : Opens Tryz.prog 4 rdT4 := opens_bool Tryz.underlying4
abbrev rdT43 := rBytes
theorem opT43 : Opens Tryz.prog 43 rdT43 := opens_bytes Tryz.underlying43 Tryz.underlying5 (by kernel_rfl) (by kernel_rfl)
abbrev rdT42 := rCons 1 rdT34 (rCons 1 rdT34 (rCons 1 rdT9 (rCons 1 rdT33 (rCons 1 rdT9 (rCons 1 rdT9 (rCons 1 rdT9 (rCons 1 rdT33 (rCons 1 rdT33 (rCons 1 rdT33 (rCons 1 rdT34 (rCons 1 rdT3 (rCons 1 rdT3 (rEnd)))))))))))))
theorem opT42 : Opens Tryz.prog 42 rdT42 := opens_struct Tryz.underlying42 (N := 13) (by kernel_rfl) (opensF_cons (N := 13) (off := 0) (s := 1) rfl (by kernel_rfl) (by decide) opT34 (opensF_cons (N := 13) (off := 1) (s := 1) rfl (by kernel_rfl) (by decide) opT34 (opensF_cons (N := 13) (off := 2) (s := 1) rfl (by kernel_rfl) (by decide) opT9 (opensF_cons (N := 13) (off := 3) (s := 1) rfl (by kernel_rfl) (by decide) opT33 (opensF_cons (N := 13) (off := 4) (s := 1) rfl (by kernel_rfl) (by decide) opT9 (opensF_cons (N := 13) (off := 5) (s := 1) rfl (by kernel_rfl) (by decide) opT9 (opensF_cons (N := 13) (off := 6) (s := 1) rfl (by kernel_rfl) (by decide) opT9 (opensF_cons (N := 13) (off := 7) (s := 1) rfl (by kernel_rfl) (by decide) opT33 (opensF_cons (N := 13) (off := 8) (s := 1) rfl (by kernel_rfl) (by decide) opT33 (opensF_cons (N := 13) (off := 9) (s := 1) rfl (by kernel_rfl) (by decide) opT33 (opensF_cons (N := 13) (off := 10) (s := 1) rfl (by kernel_rfl) (by decide) opT34 (opensF_cons (N := 13) (off := 11) (s := 1) rfl (by kernel_rfl) (by decide) opT3 (opensF_cons (N := 13) (off := 12) (s := 1) rfl (by kernel_rfl) (by decide) opT3 (opensF_nil))))))))))))))
abbrev rdT40 := rInt .u8
theorem opT40 : Opens Tryz.prog 40 rdT40 := opens_int Tryz.underlying40
abbrev rdT39 := rInt .u8
theorem opT39 : Opens Tryz.prog 39 rdT39 := opens_int Tryz.underlying39
abbrev rdT45 := rCons 1 rdT39 (rCons 1 rdT34 (rCons 1 rdT9 (rCons 1 rdT40 (rCons 13 rdT42 (rCons 1 rdT34 (rCons 1 rdT43 (rCons 1 rdT3 (rEnd))))))))
theorem opT45 : Opens Tryz.prog 45 rdT45 := opens_struct Tryz.underlying45 (N := 20) (by kernel_rfl) (opensF_cons (N := 20) (off := 0) (s := 1) rfl (by kernel_rfl) (by decide) opT39 (opensF_cons (N := 20) (off := 1) (s := 1) rfl (by kernel_rfl) (by decide) opT34 (opensF_cons (N := 20) (off := 2) (s := 1) rfl (by kernel_rfl) (by decide) opT9 (opensF_cons (N := 20) (off := 3) (s := 1) rfl (by kernel_rfl) (by decide) opT40 (opensF_cons (N := 20) (off := 4) (s := 13) rfl (by kernel_rfl) (by decide) opT42 (opensF_cons (N := 20) (off := 17) (s := 1) rfl (by kernel_rfl) (by decide) opT34 (opensF_cons (N := 20) (off := 18) (s := 1) rfl (by kernel_rfl) (by decide) opT43 (opensF_cons (N := 20) (off := 19) (s := 1) rfl (by kernel_rfl) (by decide) opT3 (opensF_nil)))))))))
abbrev rdT69 := rCons 1 rdT3 (rCons 20 rdT45 (rCons 1 rdT34 (rCons 1 rdT34 (rCons 1 rdT9 (rCons 1 rdT3 (rCons 1 rdT4 (rEnd)))))))
theorem opT69 : Opens Tryz.prog 69 rdT69 := opens_struct Tryz.underlying69 (N := 26) (by kernel_rfl) (opensF_cons (N := 26) (off := 0) (s := 1) rfl (by kernel_rfl) (by decide) opT3 (opensF_cons (N := 26) (off := 1) (s := 20) rfl (by kernel_rfl) (by decide) opT45 (opensF_cons (N := 26) (off := 21) (s := 1) rfl (by kernel_rfl) (by decide) opT34 (opensF_cons (N := 26) (off := 22) (s := 1) rfl (by kernel_rfl) (by decide) opT34 (opensF_cons (N := 26) (off := 23) (s := 1) rfl (by kernel_rfl) (by decide) opT9 (opensF_cons (N := 26) (off := 24) (s := 1) rfl (by kernel_rfl) (by decide) opT3 (opensF_cons (N := 26) (off := 25) (s := 1) rfl (by kernel_rfl) (by decide) opT4 (opensF_nil))))))))
abbrev rdT56 := rSlice 26 264 rdT69
theorem opT56 : Opens Tryz.prog 56 rdT56 := opens_slice Tryz.underlying56 (by kernel_rfl) (by kernel_rfl) (by decide) opT69

set_option maxRecDepth 100000 in
theorem lifted (os : Os) (started : os.Started) (H : Type) (enc : TypeId × Value → H) :
    ReturnsInHanded {} Tryz.checked os 4 .any (fun w args => (Rows.nodesDoesSpec.pre enc Tryz.prog Tryz.f4 Rows.nodesDoesRow.domain false w args ∧ laidMetH Tryz.prog Rows.nodesDoesRow.laid w) ∧ sizedMet enc Tryz.prog Tryz.f4 (OpenSpec.ofChange Rows.nodesDoesSpec) false w args) (Rows.nodesDoesSpec.post enc Tryz.prog Tryz.f4 false true false false) := by
  refine returns_laid (C := Tryz.checked) (laid := laidU8) own started (by kernel_rfl) Tryz.func4
    (ChangeSpec.witness_shaped (enc := enc) (C := Tryz.checked) (os := os) (X := fun w _ => laidMetH Tryz.prog laidU8 w) false (laidWorld os) #[.agg #[.string ⟨#[]⟩, .string ⟨#[]⟩, .string ⟨#[]⟩, .int .u32 0, .int .u64 0, .int .u32 0, .int .i64 0, .int .i64 0, .int .i64 0, .int .i64 0], .agg #[.string ⟨#[]⟩, .string ⟨#[]⟩, .string ⟨#[]⟩, .int .u32 0, .int .u64 0, .int .u32 0, .int .i64 0, .int .i64 0, .int .i64 0, .int .i64 0], .slice none 0 0] 8 (World.laidAll_os _ _ _)
      (laidWorld_shaped os _) (by kernel_rfl) (by kernel_rfl) (by kernel_rfl) (laidWorld_met os _)) ?_
  intro W base args ds gs before hval0 hW hcnd hsz0 hL hsh _
  have tabs : Ent (Old W) Tabs := tabs_old hL hsh
  haveI : Gives (Old W) Tabs := ⟨tabs⟩
  have hval : ∀ (j : Nat) t v, Tryz.f4.params[j]? = some t → args[j]? = some v → Value.okWide Tryz.prog W .any base t v := hval0
  have hsz : (DataW.weightsEach Tryz.prog (Tryz.f4.params.toList ++ Rows.nodesDoesSpec.plain.varTypes Tryz.prog) (ds ++ gs)).all (· ≤ reachBytes) = true := hsz0
  have hW' := hW
  obtain ⟨p, q, hA0, hV, rfl, hfz, hnd⟩ := hW
  have hA : DataW.TrodAll enc Tryz.prog W 0 (fun _ => true) true Tryz.f4.params.toList args.toList ds p := hA0
  rw [Tryz.params4] at hA hval hsz
  obtain ⟨v0, vs0, d0, ds0, p0, q0, hargs, rfl, rfl, h0, r0⟩ := trodAll_cons hA
  obtain ⟨v1, vs1, d1, ds1, p1, q1, rfl, rfl, rfl, h1, r1⟩ := trodAll_cons r0
  obtain ⟨v2, vs2, d2, ds2, p2, q2, rfl, rfl, rfl, h2, r2⟩ := trodAll_cons r1
  obtain ⟨rfl, rfl, rfl⟩ := trodAll_nil r2
  obtain rfl : args = #[v0, v1, v2] := by cases args; simp_all
  obtain ⟨rfl, rfl⟩ := trodVars_none hV
  have k0 := h0
  have lt0 : ∀ x ∈ p0, x.block < W.heap.size := by obtain ⟨m, hm⟩ := k0; exact DataW.trod_lt m _ _ _ hm
  obtain ⟨x0, c0⟩ := Opens.arg opT36 h0 hsz 0 rfl rfl
  obtain ⟨cs0, rfl, _⟩ : ∃ cs, v0 = .agg cs ∧ True := by
    have := hval 0 36 v0 rfl rfl
    unfold Value.okWide at this
    rw [Tryz.underlying36] at this
    obtain ⟨cs, h, _⟩ := this
    exact ⟨cs, h, trivial⟩
  replace c0 : (rdT36).rel x0 cs0.toList (heapOf W) := c0
  have k1 := h1
  have lt1 : ∀ x ∈ p1, x.block < W.heap.size := by obtain ⟨m, hm⟩ := k1; exact DataW.trod_lt m _ _ _ hm
  obtain ⟨x1, c1⟩ := Opens.arg opT36 h1 hsz 1 rfl rfl
  obtain ⟨cs1, rfl, _⟩ : ∃ cs, v1 = .agg cs ∧ True := by
    have := hval 1 36 v1 rfl rfl
    unfold Value.okWide at this
    rw [Tryz.underlying36] at this
    obtain ⟨cs, h, _⟩ := this
    exact ⟨cs, h, trivial⟩
  replace c1 : (rdT36).rel x1 cs1.toList (heapOf W) := c1
  have k2 := h2
  have lt2 : ∀ x ∈ p2, x.block < W.heap.size := by obtain ⟨m, hm⟩ := k2; exact DataW.trod_lt m _ _ _ hm
  obtain ⟨x2, c2⟩ := Opens.arg opT56 h2 hsz 2 rfl rfl
  obtain ⟨a2, l2, cap2, rfl⟩ := okWide_slice Tryz.underlying56 (hval 2 56 v2 rfl rfl)
  replace c2 : (rdT56).rel x2 [.slice a2 l2 cap2] (heapOf W) := c2
  clear hA0 hval0
  obtain ⟨y, e1, hy⟩ := cfg_arq c0
  have ecs : cs0 = (cfgL y).toArray := by rw [← e1]
  subst ecs
  obtain ⟨z, e2, hz⟩ := cfg_arq c1
  have ecs : cs1 = (cfgL z).toArray := by rw [← e2]
  subst ecs
  obtain ⟨l, ⟨a', c', e⟩, hP⟩ := steps_arq c2
  simp only [Value.slice.injEq] at e
  obtain ⟨rfl, rfl, rfl⟩ := e
  have walk := nodesDoes_any hy hz hP (St.start W)
  refine walk.mono fun e W' ⟨hst, he⟩ => ?_
  have bel := hst.below0
  subst he
  exact ⟨_, rfl, _, _, _, [], _, [], hW', trodAll_mk1 (shut_bool Tryz.underlying4 _), (trodAll_cons_mk (Below.trod laidOut (by kernel_rfl) (of_decide_eq_true (by kernel_rfl)) k0 bel lt0) (trodAll_cons_mk (Below.trod laidOut (by kernel_rfl) (of_decide_eq_true (by kernel_rfl)) k1 bel lt1) (trodAll_cons_mk (Below.trod laidOut (by kernel_rfl) (of_decide_eq_true (by kernel_rfl)) k2 bel lt2) trodAll_mk0))), rfl, bel.frame _, fun h => by cases h⟩

theorem over : Rows.nodesDoesRow.holds Tryz.pinned (OpenSpec.ofChange Rows.nodesDoesSpec) :=
  OpenClaim.holds_of_wide 4 Tryz.f4 rfl rfl rfl rfl rfl rfl rfl ⟨rfl, rfl, rfl, rfl, rfl⟩ rfl rfl rfl rfl rfl (by kernel_rfl) Tryz.func4 (by kernel_rfl)
    (of_decide_eq_true (by kernel_rfl)) (by unfold Func.isWrapper; first | (rw [if_pos (by decide +kernel)]; kernel_rfl) | (rw [if_neg (by decide +kernel)]; exact ⟨rfl, rfl⟩))
    (fun os started H enc _ => lifted os started H enc)

theorem said : Rows.NodesDoesSaid :=
  over

theorem proved : Rows.NodesDoesCardSaid :=
  Claim7.holds_tied_plain_at .later [] [.data, .pinned] true (true, "86e2b089051144e831ca9b9dcc88dc32dc4a2c7b9d853ecf94911194e387bec4") false
    said (fun _ h => by cases h) (by kernel_rfl) (fun _ h => by cases h) nodesDoes_row_tie rfl ⟨rfl, rfl⟩ (by kernel_rfl) rfl
    (fun f fn hf hfn => by
      obtain rfl : f = 4 := Option.some.inj ((show Tryz.prog.funcNamed "verger/vergerlaw08.NodesDoes" = some 4 by kernel_rfl).symm.trans hf) |>.symm
      obtain rfl : fn = Tryz.f4 := (Option.some.inj (Tryz.func4.symm.trans hfn)).symm
      exact ⟨by kernel_rfl, fun j t ht => by
        rw [Tryz.params4] at ht
        have hm : t ∈ [36, 36, 56] := by simpa using Array.mem_of_getElem? ht
        have hall : ([36, 36, 56].all fun u => !Tryz.prog.wantsStandIn u) = true := by kernel_rfl
        exact (show Tryz.prog.wantsStandIn t = false by simpa using List.all_eq_true.1 hall t hm)⟩)
    (by kernel_rfl)
#print axioms proved
end Go.Proofs.YtijnmokpihhhcaaGreatDoor.nodesDoes


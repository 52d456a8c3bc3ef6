/-
  The statement NamesWords: Words quoted and laid one behind the other, with whatever gaps, are read again as they were; a quoted word has only bytes that can be printed, and two quoted words are alike just where the words are. No conditions.
-/
import Derived.Test.YtlnlomjdooobdaaDoorRows
import Derived.Test.YtlnlomjdooobdaaDoorTie
import Derived.Test.YtlnlomjdooobdaaDoorCards
import Derived.Test.YtlnlomjdooobdaaDoorDr
import Derived.SevenTiedAt
import Derived.Test.YtlnlomjdooobdaaDoorNaZc
import Derived.Test.YtlnlomjdooobdaaDoorDr
import Derived.Test.YtlnlomjdooobdaaDoorDr2
import Derived.Test.YtlnlomjdooobdaaDoorArgs
import Derived.Below
import Derived.WalkKit
import Derived.ProofKit
import Derived.OpenShut
import Derived.ShutString
import Derived.ChangeOld
import Derived.Carry
import Derived.SizedLaws
namespace Go.Proofs.YtlnlomjdooobdaaDoor.namesWords
open Go.Proofs.YtlnlomjdooobdaaDoor
open Go.ChangeShapes Go.WideShapes Go.ChangeAt Go.RowKit
open Go.ChangeMaps (open_string shut_string)
set_option linter.unusedVariables false

theorem own : ownKnob Tryd.prog.godebug = none := by kernel_rfl
theorem laidOut : laidOutB Tryd.prog = true := by kernel_rfl

abbrev rdT9 := rStr
theorem opT9 : Opens Tryd.prog 9 rdT9 := opens_str Tryd.underlying9
abbrev rdT24 := rSlice 1 16 rdT9
theorem opT24 : Opens Tryd.prog 24 rdT24 := opens_slice Tryd.underlying24 (by kernel_rfl) (by kernel_rfl) (by decide) opT9
abbrev rdT3 := rInt .i64
theorem opT3 : Opens Tryd.prog 3 rdT3 := opens_int Tryd.underlying3
abbrev rdT23 := rSlice 1 8 rdT3
theorem opT23 : Opens Tryd.prog 23 rdT23 := opens_slice Tryd.underlying23 (by kernel_rfl) (by kernel_rfl) (by decide) opT3

set_option maxRecDepth 100000 in
theorem lifted (os : Os) (started : os.Started) (H : Type) (enc : TypeId × Value → H) :
    ReturnsInHanded {} Tryd.checked os 9 .any (fun w args => (Rows.namesWordsSpec.pre enc Tryd.prog Tryd.f9 Rows.namesWordsRow.domain false w args ∧ laidMetH Tryd.prog Rows.namesWordsRow.laid w) ∧ sizedMet enc Tryd.prog Tryd.f9 (OpenSpec.ofChange Rows.namesWordsSpec) false w args) (Rows.namesWordsSpec.post enc Tryd.prog Tryd.f9 false true false false) := by
  refine returns_laid (C := Tryd.checked) (laid := laidU8) own started (by kernel_rfl) Tryd.func9
    (ChangeSpec.witness_shaped (enc := enc) (C := Tryd.checked) (os := os) (X := fun w _ => laidMetH Tryd.prog laidU8 w) false (laidWorld os) #[.slice none 0 0, .slice none 0 0] 8 (World.laidAll_os _ _ _)
      (laidWorld_shaped os _) (by kernel_rfl) (by kernel_rfl) (by kernel_rfl) (laidWorld_met os _)) ?_
  intro W base args ds gs before hval0 hW hcnd hsz0 hL hsh _
  have tabs : Ent (Old W) Tabs := tabs_old hL hsh
  haveI : Gives (Old W) Tabs := ⟨tabs⟩
  have hval : ∀ (j : Nat) t v, Tryd.f9.params[j]? = some t → args[j]? = some v → Value.okWide Tryd.prog W .any base t v := hval0
  have hsz : (DataW.weightsEach Tryd.prog (Tryd.f9.params.toList ++ Rows.namesWordsSpec.plain.varTypes Tryd.prog) (ds ++ gs)).all (· ≤ reachBytes) = true := hsz0
  have hW' := hW
  obtain ⟨p, q, hA0, hV, rfl, hfz, hnd⟩ := hW
  have hA : DataW.TrodAll enc Tryd.prog W 0 (fun _ => true) true Tryd.f9.params.toList args.toList ds p := hA0
  rw [Tryd.params9] at hA hval hsz
  obtain ⟨v0, vs0, d0, ds0, p0, q0, hargs, rfl, rfl, h0, r0⟩ := trodAll_cons hA
  obtain ⟨v1, vs1, d1, ds1, p1, q1, rfl, rfl, rfl, h1, r1⟩ := trodAll_cons r0
  obtain ⟨rfl, rfl, rfl⟩ := trodAll_nil r1
  obtain rfl : args = #[v0, v1] := by cases args; simp_all
  obtain ⟨rfl, rfl⟩ := trodVars_none hV
  have k0 := h0
  have lt0 : ∀ x ∈ p0, x.block < W.heap.size := by obtain ⟨m, hm⟩ := k0; exact DataW.trod_lt m _ _ _ hm
  obtain ⟨x0, c0⟩ := Opens.arg opT24 h0 hsz 0 rfl rfl
  obtain ⟨a0, l0, cap0, rfl⟩ := okWide_slice Tryd.underlying24 (hval 0 24 v0 rfl rfl)
  replace c0 : (rdT24).rel x0 [.slice a0 l0 cap0] (heapOf W) := c0
  have k1 := h1
  have lt1 : ∀ x ∈ p1, x.block < W.heap.size := by obtain ⟨m, hm⟩ := k1; exact DataW.trod_lt m _ _ _ hm
  obtain ⟨x1, c1⟩ := Opens.arg opT23 h1 hsz 1 rfl rfl
  obtain ⟨a1, l1, cap1, rfl⟩ := okWide_slice Tryd.underlying23 (hval 1 23 v1 rfl rfl)
  replace c1 : (rdT23).rel x1 [.slice a1 l1 cap1] (heapOf W) := c1
  clear hA0 hval0
  obtain ⟨t1, t2, t3⟩ := texts_arg c0
  obtain ⟨u1, u2, u3⟩ := ints_arg c1
  have hl0 : x0.length = l0 := by obtain ⟨_, _, e, _⟩ := c0; simp at e; exact e.2.1.symm
  have hl1 : x1.length = l1 := by obtain ⟨_, _, e, _⟩ := c1; simp at e; exact e.2.1.symm
  have walk := namesWords_any (St.start W) t1 t2 t3 u1 u2 u3
  refine walk.mono fun e W' ⟨hst, he⟩ => ?_
  have bel := hst.below0
  subst he
  exact ⟨_, rfl, _, _, _, [], _, [], hW', trodAll_mk1 (shut_bool Tryd.underlying4 _), (trodAll_cons_mk (Below.trod laidOut (by kernel_rfl) (of_decide_eq_true (by kernel_rfl)) k0 bel lt0) (trodAll_cons_mk (Below.trod laidOut (by kernel_rfl) (of_decide_eq_true (by kernel_rfl)) k1 bel lt1) trodAll_mk0)), rfl, bel.frame _, fun h => by cases h⟩

theorem over : Rows.namesWordsRow.holds Tryd.pinned (OpenSpec.ofChange Rows.namesWordsSpec) :=
  OpenClaim.holds_of_wide 9 Tryd.f9 rfl rfl rfl rfl rfl rfl rfl ⟨rfl, rfl, rfl, rfl, rfl⟩ rfl rfl rfl rfl rfl (by kernel_rfl) Tryd.func9 (by kernel_rfl)
    (of_decide_eq_true (by kernel_rfl)) (by unfold Func.isWrapper; first | (rw [if_pos (by decide +kernel)]; kernel_rfl) | (rw [if_neg (by decide +kernel)]; exact ⟨rfl, rfl⟩))
    (fun os started H enc _ => lifted os started H enc)

theorem said : Rows.NamesWordsSaid :=
  over

theorem proved : Rows.NamesWordsCardSaid :=
  Claim7.holds_tied_plain_at .later [] [.data, .pinned] true (true, "d1928db7b35baa1986f4fe52c53f30b78f8a7e7ebca2661d9f35c55a24a53102") true
    said (fun _ h => by cases h) (by kernel_rfl) (fun _ h => by cases h) namesWords_row_tie rfl ⟨rfl, rfl⟩ (by kernel_rfl) rfl
    (fun f fn hf hfn => by
      obtain rfl : f = 9 := Option.some.inj ((show Tryd.prog.funcNamed "verger/vergerlaw05.NamesWords" = some 9 by kernel_rfl).symm.trans hf) |>.symm
      obtain rfl : fn = Tryd.f9 := (Option.some.inj (Tryd.func9.symm.trans hfn)).symm
      exact ⟨by kernel_rfl, fun j t ht => by
        rw [Tryd.params9] at ht
        have hm : t ∈ [24, 23] := by simpa using Array.mem_of_getElem? ht
        have hall : ([24, 23].all fun u => !Tryd.prog.wantsStandIn u) = true := by kernel_rfl
        exact (show Tryd.prog.wantsStandIn t = false by simpa using List.all_eq_true.1 hall t hm)⟩)
    (by kernel_rfl)
#print axioms proved
end Go.Proofs.YtlnlomjdooobdaaDoor.namesWords


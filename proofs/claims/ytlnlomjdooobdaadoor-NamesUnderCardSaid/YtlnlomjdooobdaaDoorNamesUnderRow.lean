/-
  The statement NamesUnder: What is built of good names below a clean path name lies under it, and the rest that Under tells is the path name of those names; and for any path name that lies under it, the clean one and the rest, joined, are it again. No conditions.
-/
import Derived.Test.YtlnlomjdooobdaaDoorRows
import Derived.Test.YtlnlomjdooobdaaDoorTie
import Derived.Test.YtlnlomjdooobdaaDoorCards
import Derived.Test.YtlnlomjdooobdaaDoorDr
import Derived.SevenTiedAt
import Derived.Test.YtlnlomjdooobdaaDoorNaW
import Derived.Test.YtlnlomjdooobdaaDoorDr
import Derived.Test.YtlnlomjdooobdaaDoorDr2
import Derived.Test.YtlnlomjdooobdaaDoorArgs
import Derived.Below
import Derived.WalkKit
import Derived.ProofKit
import Derived.OpenShut
import Derived.ShutString
import Derived.ChangeOld
import Derived.Carry
import Derived.SizedLaws
namespace Go.Proofs.YtlnlomjdooobdaaDoor.namesUnder
open Go.Proofs.YtlnlomjdooobdaaDoor
open Go.ChangeShapes Go.WideShapes Go.ChangeAt Go.RowKit
open Go.ChangeMaps (open_string shut_string)
set_option linter.unusedVariables false

theorem own : ownKnob Tryd.prog.godebug = none := by kernel_rfl
theorem laidOut : laidOutB Tryd.prog = true := by kernel_rfl

abbrev rdT9 := rStr
theorem opT9 : Opens Tryd.prog 9 rdT9 := opens_str Tryd.underlying9
abbrev rdT24 := rSlice 1 16 rdT9
theorem opT24 : Opens Tryd.prog 24 rdT24 := opens_slice Tryd.underlying24 (by kernel_rfl) (by kernel_rfl) (by decide) opT9

set_option maxRecDepth 100000 in
theorem lifted (os : Os) (started : os.Started) (H : Type) (enc : TypeId × Value → H) :
    ReturnsInHanded {} Tryd.checked os 8 .any (fun w args => (Rows.namesUnderSpec.pre enc Tryd.prog Tryd.f8 Rows.namesUnderRow.domain false w args ∧ laidMetH Tryd.prog Rows.namesUnderRow.laid w) ∧ sizedMet enc Tryd.prog Tryd.f8 (OpenSpec.ofChange Rows.namesUnderSpec) false w args) (Rows.namesUnderSpec.post enc Tryd.prog Tryd.f8 false true false false) := by
  refine returns_laid (C := Tryd.checked) (laid := laidU8) own started (by kernel_rfl) Tryd.func8
    (ChangeSpec.witness_shaped (enc := enc) (C := Tryd.checked) (os := os) (X := fun w _ => laidMetH Tryd.prog laidU8 w) false (laidWorld os) #[.string ⟨#[]⟩, .slice none 0 0, .string ⟨#[]⟩] 8 (World.laidAll_os _ _ _)
      (laidWorld_shaped os _) (by kernel_rfl) (by kernel_rfl) (by kernel_rfl) (laidWorld_met os _)) ?_
  intro W base args ds gs before hval0 hW hcnd hsz0 hL hsh _
  have tabs : Ent (Old W) Tabs := tabs_old hL hsh
  haveI : Gives (Old W) Tabs := ⟨tabs⟩
  have hval : ∀ (j : Nat) t v, Tryd.f8.params[j]? = some t → args[j]? = some v → Value.okWide Tryd.prog W .any base t v := hval0
  have hsz : (DataW.weightsEach Tryd.prog (Tryd.f8.params.toList ++ Rows.namesUnderSpec.plain.varTypes Tryd.prog) (ds ++ gs)).all (· ≤ reachBytes) = true := hsz0
  have hW' := hW
  obtain ⟨p, q, hA0, hV, rfl, hfz, hnd⟩ := hW
  have hA : DataW.TrodAll enc Tryd.prog W 0 (fun _ => true) true Tryd.f8.params.toList args.toList ds p := hA0
  rw [Tryd.params8] at hA hval hsz
  obtain ⟨v0, vs0, d0, ds0, p0, q0, hargs, rfl, rfl, h0, r0⟩ := trodAll_cons hA
  obtain ⟨v1, vs1, d1, ds1, p1, q1, rfl, rfl, rfl, h1, r1⟩ := trodAll_cons r0
  obtain ⟨v2, vs2, d2, ds2, p2, q2, rfl, rfl, rfl, h2, r2⟩ := trodAll_cons r1
  obtain ⟨rfl, rfl, rfl⟩ := trodAll_nil r2
  obtain rfl : args = #[v0, v1, v2] := by cases args; simp_all
  obtain ⟨rfl, rfl⟩ := trodVars_none hV
  obtain ⟨s0, rfl, rfl, rfl, w0⟩ := open_string Tryd.underlying9 (hval 0 9 v0 rfl rfl) h0
  have len0 : s0.data.toList.length ≤ 9223372036854775807 := by have := w0; rw [Lib.size_eq] at this; exact Nat.le_trans this (by decide)
  have k1 := h1
  have lt1 : ∀ x ∈ p1, x.block < W.heap.size := by obtain ⟨m, hm⟩ := k1; exact DataW.trod_lt m _ _ _ hm
  obtain ⟨x1, c1⟩ := Opens.arg opT24 h1 hsz 1 rfl rfl
  obtain ⟨a1, l1, cap1, rfl⟩ := okWide_slice Tryd.underlying24 (hval 1 24 v1 rfl rfl)
  replace c1 : (rdT24).rel x1 [.slice a1 l1 cap1] (heapOf W) := c1
  obtain ⟨s2, rfl, rfl, rfl, w2⟩ := open_string Tryd.underlying9 (hval 2 9 v2 rfl rfl) h2
  have len2 : s2.data.toList.length ≤ 9223372036854775807 := by have := w2; rw [Lib.size_eq] at this; exact Nat.le_trans this (by decide)
  clear hA0 hval0
  obtain ⟨t1, t2, t3⟩ := texts_arg c1
  have walk := namesUnder_any (St.start W) s0.data.toList s2.data.toList len0 len2 t1 t2 t3
  rw [strOf_eta, strOf_eta] at walk
  refine walk.mono fun e W' ⟨hst, he⟩ => ?_
  have bel := hst.below0
  subst he
  exact ⟨_, rfl, _, _, _, [], _, [], hW', trodAll_mk1 (shut_bool Tryd.underlying4 _), (trodAll_cons_mk (shut_string Tryd.underlying9 w0) (trodAll_cons_mk (Below.trod laidOut (by kernel_rfl) (of_decide_eq_true (by kernel_rfl)) k1 bel lt1) (trodAll_cons_mk (shut_string Tryd.underlying9 w2) trodAll_mk0))), rfl, bel.frame _, fun h => by cases h⟩

theorem over : Rows.namesUnderRow.holds Tryd.pinned (OpenSpec.ofChange Rows.namesUnderSpec) :=
  OpenClaim.holds_of_wide 8 Tryd.f8 rfl rfl rfl rfl rfl rfl rfl ⟨rfl, rfl, rfl, rfl, rfl⟩ rfl rfl rfl rfl rfl (by kernel_rfl) Tryd.func8 (by kernel_rfl)
    (of_decide_eq_true (by kernel_rfl)) (by unfold Func.isWrapper; first | (rw [if_pos (by decide +kernel)]; kernel_rfl) | (rw [if_neg (by decide +kernel)]; exact ⟨rfl, rfl⟩))
    (fun os started H enc _ => lifted os started H enc)

theorem said : Rows.NamesUnderSaid :=
  over

theorem proved : Rows.NamesUnderCardSaid :=
  Claim7.holds_tied_plain_at .later [] [.data, .pinned] true (true, "d1928db7b35baa1986f4fe52c53f30b78f8a7e7ebca2661d9f35c55a24a53102") true
    said (fun _ h => by cases h) (by kernel_rfl) (fun _ h => by cases h) namesUnder_row_tie rfl ⟨rfl, rfl⟩ (by kernel_rfl) rfl
    (fun f fn hf hfn => by
      obtain rfl : f = 8 := Option.some.inj ((show Tryd.prog.funcNamed "verger/vergerlaw05.NamesUnder" = some 8 by kernel_rfl).symm.trans hf) |>.symm
      obtain rfl : fn = Tryd.f8 := (Option.some.inj (Tryd.func8.symm.trans hfn)).symm
      exact ⟨by kernel_rfl, fun j t ht => by
        rw [Tryd.params8] at ht
        have hm : t ∈ [9, 24, 9] := by simpa using Array.mem_of_getElem? ht
        have hall : ([9, 24, 9].all fun u => !Tryd.prog.wantsStandIn u) = true := by kernel_rfl
        exact (show Tryd.prog.wantsStandIn t = false by simpa using List.all_eq_true.1 hall t hm)⟩)
    (by kernel_rfl)
#print axioms proved
end Go.Proofs.YtlnlomjdooobdaaDoor.namesUnder


/-
  The statement UsersUndo: What Edit adds, Edit takes away again, and nothing has changed; what somebody names cannot be taken away. No conditions. No conditions.
-/
import Derived.Test.YtkijkoakloacoaaDoorRows
import Derived.Test.YtkijkoakloacoaaDoorTie
import Derived.Test.YtkijkoakloacoaaDoorCards
import Derived.Test.YtkijkoakloacoaaDoorDr
import Derived.SevenTiedAt
import Derived.Test.YtkijkoakloacoaaDoorUQ
import Derived.Test.YtkijkoakloacoaaDoorDr
import Derived.Test.YtkijkoakloacoaaDoorArgs
import Derived.Test.YtkijkoakloacoaaDoorArgs
import Derived.Below
import Derived.WalkKit
import Derived.ProofKit
import Derived.OpenShut
import Derived.ShutString
import Derived.ChangeOld
import Derived.Carry
import Derived.SizedLaws
namespace Go.Proofs.YtkijkoakloacoaaDoor.usersUndo
open Go.Proofs.YtkijkoakloacoaaDoor
open Go.ChangeShapes Go.WideShapes Go.ChangeAt Go.RowKit
open Go.ChangeMaps (open_string shut_string)
set_option linter.unusedVariables false

theorem own : ownKnob Tryd.prog.godebug = none := by kernel_rfl
theorem laidOut : laidOutB Tryd.prog = true := by kernel_rfl

abbrev rdT9 := rStr
theorem opT9 : Opens Tryd.prog 9 rdT9 := opens_str Tryd.underlying9
abbrev rdT3 := rInt .i64
theorem opT3 : Opens Tryd.prog 3 rdT3 := opens_int Tryd.underlying3
abbrev rdT61 := rSlice 1 8 rdT3
theorem opT61 : Opens Tryd.prog 61 rdT61 := opens_slice Tryd.underlying61 (by kernel_rfl) (by kernel_rfl) (by decide) opT3
abbrev rdT63 := rCons 1 rdT3 (rCons 1 rdT61 (rCons 1 rdT9 (rEnd)))
theorem opT63 : Opens Tryd.prog 63 rdT63 := opens_struct Tryd.underlying63 (N := 3) (by kernel_rfl) (opensF_cons (N := 3) (off := 0) (s := 1) rfl (by kernel_rfl) (by decide) opT3 (opensF_cons (N := 3) (off := 1) (s := 1) rfl (by kernel_rfl) (by decide) opT61 (opensF_cons (N := 3) (off := 2) (s := 1) rfl (by kernel_rfl) (by decide) opT9 (opensF_nil))))
abbrev rdT49 := rSlice 3 48 rdT63
theorem opT49 : Opens Tryd.prog 49 rdT49 := opens_slice Tryd.underlying49 (by kernel_rfl) (by kernel_rfl) (by decide) opT63

set_option maxRecDepth 100000 in
theorem lifted (os : Os) (started : os.Started) (H : Type) (enc : TypeId × Value → H) :
    ReturnsInHanded {} Tryd.checked os 9 .any (fun w args => (Rows.usersUndoSpec.pre enc Tryd.prog Tryd.f9 Rows.usersUndoRow.domain false w args ∧ laidMetH Tryd.prog Rows.usersUndoRow.laid w) ∧ sizedMet enc Tryd.prog Tryd.f9 (OpenSpec.ofChange Rows.usersUndoSpec) false w args) (Rows.usersUndoSpec.post enc Tryd.prog Tryd.f9 false true false false) := by
  refine returns_laid (C := Tryd.checked) (laid := laidU8) own started (by kernel_rfl) Tryd.func9
    (ChangeSpec.witness_shaped (enc := enc) (C := Tryd.checked) (os := os) (X := fun w _ => laidMetH Tryd.prog laidU8 w) false (laidWorld os) #[.slice none 0 0, .agg #[.int .i64 0, .slice none 0 0, .string ⟨#[]⟩], .int .i64 0] 8 (World.laidAll_os _ _ _)
      (laidWorld_shaped os _) (by kernel_rfl) (by kernel_rfl) (by kernel_rfl) (laidWorld_met os _)) ?_
  intro W base args ds gs before hval0 hW hcnd hsz0 hL hsh _
  have tabs : Ent (Old W) Tabs := tabs_old hL hsh
  haveI : Gives (Old W) Tabs := ⟨tabs⟩
  have hval : ∀ (j : Nat) t v, Tryd.f9.params[j]? = some t → args[j]? = some v → Value.okWide Tryd.prog W .any base t v := hval0
  have hsz : (DataW.weightsEach Tryd.prog (Tryd.f9.params.toList ++ Rows.usersUndoSpec.plain.varTypes Tryd.prog) (ds ++ gs)).all (· ≤ reachBytes) = true := hsz0
  have hW' := hW
  obtain ⟨p, q, hA0, hV, rfl, hfz, hnd⟩ := hW
  have hA : DataW.TrodAll enc Tryd.prog W 0 (fun _ => true) true Tryd.f9.params.toList args.toList ds p := hA0
  rw [Tryd.params9] at hA hval hsz
  obtain ⟨v0, vs0, d0, ds0, p0, q0, hargs, rfl, rfl, h0, r0⟩ := trodAll_cons hA
  obtain ⟨v1, vs1, d1, ds1, p1, q1, rfl, rfl, rfl, h1, r1⟩ := trodAll_cons r0
  obtain ⟨v2, vs2, d2, ds2, p2, q2, rfl, rfl, rfl, h2, r2⟩ := trodAll_cons r1
  obtain ⟨rfl, rfl, rfl⟩ := trodAll_nil r2
  obtain rfl : args = #[v0, v1, v2] := by cases args; simp_all
  obtain ⟨rfl, rfl⟩ := trodVars_none hV
  have k0 := h0
  have lt0 : ∀ x ∈ p0, x.block < W.heap.size := by obtain ⟨m, hm⟩ := k0; exact DataW.trod_lt m _ _ _ hm
  obtain ⟨x0, c0⟩ := Opens.arg opT49 h0 hsz 0 rfl rfl
  obtain ⟨a0, l0, cap0, rfl⟩ := okWide_slice Tryd.underlying49 (hval 0 49 v0 rfl rfl)
  replace c0 : (rdT49).rel x0 [.slice a0 l0 cap0] (heapOf W) := c0
  have k1 := h1
  have lt1 : ∀ x ∈ p1, x.block < W.heap.size := by obtain ⟨m, hm⟩ := k1; exact DataW.trod_lt m _ _ _ hm
  obtain ⟨x1, c1⟩ := Opens.arg opT63 h1 hsz 1 rfl rfl
  obtain ⟨cs1, rfl, _⟩ : ∃ cs, v1 = .agg cs ∧ True := by
    have := hval 1 63 v1 rfl rfl
    unfold Value.okWide at this
    rw [Tryd.underlying63] at this
    obtain ⟨cs, h, _⟩ := this
    exact ⟨cs, h, trivial⟩
  replace c1 : (rdT63).rel x1 cs1.toList (heapOf W) := c1
  obtain ⟨n2, rfl, rfl, rfl, w2⟩ := open_int Tryd.underlying3 (hval 2 3 v2 rfl rfl) h2
  clear hA0 hval0
  obtain ⟨ws, ⟨a', c', e⟩, hw⟩ := whos_arg c0
  simp only [Value.slice.injEq] at e
  obtain ⟨rfl, rfl, rfl⟩ := e
  obtain ⟨y, e1, hy1, hy2, hy3⟩ := rWho_cells c1
  obtain ⟨t1, t2, t3⟩ := ints_arg hy2
  obtain ⟨av, cv, ev, _⟩ := Rdr.slice hy2
  have ecs : cs1 = (whoC y).toArray := by rw [← e1]
  subst ecs
  have walk := usersUndo_law (key := y.key) (St.start W) hw hy1 (InI.of (wf_i64 w2)) t1 (fun z hz => InI.of (t2 z hz)) (by rw [ev]; rfl)
  refine walk.mono fun e W' ⟨hst, he⟩ => ?_
  have bel := hst.below0
  subst he
  exact ⟨_, rfl, _, _, _, [], _, [], hW', trodAll_mk1 (shut_bool Tryd.underlying4 _), (trodAll_cons_mk (Below.trod laidOut (by kernel_rfl) (of_decide_eq_true (by kernel_rfl)) k0 bel lt0) (trodAll_cons_mk (Below.trod laidOut (by kernel_rfl) (of_decide_eq_true (by kernel_rfl)) k1 bel lt1) (trodAll_cons_mk (shut_int Tryd.underlying3 w2) trodAll_mk0))), rfl, bel.frame _, fun h => by cases h⟩

theorem over : Rows.usersUndoRow.holds Tryd.pinned (OpenSpec.ofChange Rows.usersUndoSpec) :=
  OpenClaim.holds_of_wide 9 Tryd.f9 rfl rfl rfl rfl rfl rfl rfl ⟨rfl, rfl, rfl, rfl, rfl⟩ rfl rfl rfl rfl rfl (by kernel_rfl) Tryd.func9 (by kernel_rfl)
    (of_decide_eq_true (by kernel_rfl)) (by unfold Func.isWrapper; first | (rw [if_pos (by decide +kernel)]; kernel_rfl) | (rw [if_neg (by decide +kernel)]; exact ⟨rfl, rfl⟩))
    (fun os started H enc _ => lifted os started H enc)

theorem said : Rows.UsersUndoSaid :=
  over

theorem proved : Rows.UsersUndoCardSaid :=
  Claim7.holds_tied_plain_at .later [] [.data, .pinned] true (true, "2b43d947e7741243319cf31464fa86ed7c07fa4aca1f45b40adccfb481e4c71f") true
    said (fun _ h => by cases h) (by kernel_rfl) (fun _ h => by cases h) usersUndo_row_tie rfl ⟨rfl, rfl⟩ (by kernel_rfl) rfl
    (fun f fn hf hfn => by
      obtain rfl : f = 9 := Option.some.inj ((show Tryd.prog.funcNamed "verger/vergerlaw06.UsersUndo" = some 9 by kernel_rfl).symm.trans hf) |>.symm
      obtain rfl : fn = Tryd.f9 := (Option.some.inj (Tryd.func9.symm.trans hfn)).symm
      exact ⟨by kernel_rfl, fun j t ht => by
        rw [Tryd.params9] at ht
        have hm : t ∈ [49, 63, 3] := by simpa using Array.mem_of_getElem? ht
        have hall : ([49, 63, 3].all fun u => !Tryd.prog.wantsStandIn u) = true := by kernel_rfl
        exact (show Tryd.prog.wantsStandIn t = false by simpa using List.all_eq_true.1 hall t hm)⟩)
    (by kernel_rfl)
#print axioms proved
end Go.Proofs.YtkijkoakloacoaaDoor.usersUndo


/- The rows of this seat list unicode/utf8's two tables: what the walks ask of the world's start follows from the lists and the world's shape; the world of the witness; the wrap that hands both. -/
import Derived.Test.YtonajgmamdeohaaGreatDoorTrA
import Derived.Test.YtonajgmamdeohaaGreatDoorBel
import Derived.Test.YtonajgmamdeohaaGreatDoorRows
import Derived.Lib.LaidU8
import Derived.PinnedBridge
import Derived.SizedLaws
import Derived.Lay
import Derived.Shelf.Vars
import Derived.LaidMore
import Derived.Stop.Joined
import Derived.ProofKit
namespace Go.Proofs.YtonajgmamdeohaaGreatDoor
open Go
open Go.RowKit
set_option linter.unusedVariables false
set_option linter.unusedSimpArgs false

section
variable {H : Type} {enc : TypeId × Value → H}
theorem returns_laid {a : Assume} {C : Checked} {os : Os} {f : FuncId} {fn : Func} {s : ChangeSpec} {conds : List PathCond} {apart fresh handsOn again : Bool} {laid : List (String × DataW Unit)}
    (own : ownKnob C.prog.godebug = none) (started : os.Started) (noInit : C.prog.inits.idxOf? f = none) (hfn : C.prog.funcs[f]? = some fn)
    (witness : ∃ (w : World) (tape : Tape) (i : Input), w.os = os ∧ (w.forCall tape i).Shaped C.prog ∧ i.vars = [] ∧ Input.okWide C.prog (w.forCall tape i) .any w.heap.size f i ∧
      ((s.pre enc C.prog fn conds apart (w.forCall tape i).memory i.args ∧ laidMetH C.prog laid (w.forCall tape i).memory) ∧ sizedMet enc C.prog fn (OpenSpec.ofChange s) apart (w.forCall tape i).memory i.args) ∧ a.holds C.prog (lone (Frame.enter C.prog f i.args .normal) [] (w.forCall tape i)))
    (contract : ∀ (W : World) (base : Nat) (args : Array Value) (ds gs : List (DataW H)) (before : List MemPlace),
      (∀ (j : Nat) t v, fn.params[j]? = some t → args[j]? = some v → Value.okWide C.prog W .any base t v) →
      DataW.Whole enc C.prog fn.params.toList s.vars apart W args.toList ds gs before →
      conds.all (PathCond.test C.prog ⟨fn.params.toList, ds, s.plain.varTypes C.prog, gs⟩) = true →
      (DataW.weightsEach C.prog (fn.params.toList ++ s.plain.varTypes C.prog) (ds ++ gs)).all (· ≤ reachBytes) = true →
      laidMetH C.prog laid W → W.ShapedOpen C.prog →
      a.holds C.prog (lone (Frame.enter C.prog f args .normal) [] W) →
      Calls C.prog f args W fun e W' => ∃ v, e = .returned v ∧ s.post enc C.prog fn apart fresh handsOn again W args v W') :
    ReturnsInHanded a C os f .any (fun w args => (s.pre enc C.prog fn conds apart w args ∧ laidMetH C.prog laid w) ∧ sizedMet enc C.prog fn (OpenSpec.ofChange s) apart w args) (s.post enc C.prog fn apart fresh handsOn again) := by
  refine returnsInHanded_of_calls own started noInit witness ?_
  intro w tape i _ hsh _ hok hpre hholds
  obtain ⟨_, _, _, fn', hfn', _, _, _, _, hval⟩ := hok
  have e : fn' = fn := Option.some.inj (hfn'.symm.trans hfn)
  subst e
  obtain ⟨⟨⟨ds, gs, before, hw, hc⟩, hx⟩, hz⟩ := hpre
  have hw' := DataW.Whole.of_heap (w' := w.forCall tape i) (by rfl) hw
  refine (contract (w.forCall tape i) w.heap.size i.args ds gs before hval hw' hc (hz.weights hw) (hx.of_heap (by rfl)) hsh hholds).mono fun e W' ⟨v, he, hp⟩ => ?_
  subst he
  exact ChangeSpec.post_blind hp
end

abbrev laidU8 : List (String × DataW Unit) := [("math/bits.deBruijn32tab", Rows.laid_math_bits_deBruijn32tab), ("math/bits.deBruijn64tab", Rows.laid_math_bits_deBruijn64tab), ("internal/strconv.uint64pow10", Rows.laid_internal_strconv_uint64pow10), ("unicode/utf8.acceptRanges", Rows.laid_unicode_utf8_acceptRanges), ("strconv.ErrRange", Rows.laid_strconv_ErrRange), ("strconv.ErrSyntax", Rows.laid_strconv_ErrSyntax), ("unicode/utf8.first", Rows.laid_unicode_utf8_first)]
theorem accept_eq : (Rows.laid_unicode_utf8_acceptRanges : DataW Unit) = Lib.acceptData := by kernel_rfl
theorem first_eq : Rows.laid_unicode_utf8_first = Lib.firstData := Pinned.utf8First_eq

theorem block_of_cell {w : World} {b i : Nat} {v : Value} (h : w.cell? ⟨b, i, none⟩ = some v) : ∃ cur T fr, heapOf w b = some (.cells cur T fr) := by
  unfold heapOf
  simp only [World.cell?] at h
  split at h
  · rename_i cs t f e; exact ⟨_, _, _, e⟩
  · cases h
theorem cell_at {w : World} {b i : Nat} {v : Value} {cur : Array Value} {T : TypeId} {fr : Nat × Nat} (h : w.cell? ⟨b, i, none⟩ = some v) (k : heapOf w b = some (.cells cur T fr)) : cur[i]? = some v := by
  rw [cell_of k] at h; exact h

theorem tabs_old {W : World} (hL : laidMetH Tryz.prog laidU8 W) (hs : W.ShapedOpen Tryz.prog) : Ent (Old W) Tabs := by
  have hM : laidMet Tryz.prog laidU8 W := by rwa [MakeChecks.laidMetH_plain _ _ _ (by kernel_rfl)] at hL
  have h4 : Lib.VarReads Tryz.prog W "unicode/utf8.acceptRanges" Lib.acceptData := accept_eq ▸ Lib.laidMet.reads hM (by simp [laidU8])
  have h3 : Lib.VarReads Tryz.prog W "unicode/utf8.first" Lib.firstData := first_eq ▸ Lib.laidMet.reads hM (by simp [laidU8])
  have ht : Lib.Utf8Tabs 0 1 W := utf8Tabs_of_reads (ρ := layDecode_ren) { layDecode with } ⟨by kernel_rfl, by kernel_rfl, by kernel_rfl, by kernel_rfl, by kernel_rfl, by kernel_rfl, by kernel_rfl⟩ h3 h4
  obtain ⟨c1, T1, f1, k1⟩ := block_of_cell (ht.1 0 (by omega))
  obtain ⟨c2, T2, f2, k2⟩ := block_of_cell (ht.2 0 (by omega)).1
  refine Ent.of fun h a => ⟨⟨c1, T1, f1, a _ _ k1, fun c hc => cell_at (ht.1 c hc) k1⟩, ⟨c2, T2, f2, a _ _ k2, fun i hi => ⟨cell_at (ht.2 i hi).1 k2, cell_at (ht.2 i hi).2 k2⟩⟩⟩

noncomputable abbrev laidWorld (os : Os) : World := World.laidAll Tryz.prog os laidU8
theorem laidWorld_met (os : Os) (args : Array Value) : laidMetH Tryz.prog laidU8 ((laidWorld os).forCall (fun _ _ => 0) ⟨#[], args, []⟩).memory := by
  rw [MakeChecks.laidMetH_plain _ _ _ (by kernel_rfl)]
  exact laidMet_laidAll _ (by kernel_rfl) (by kernel_rfl)
theorem laidWorld_shaped (os : Os) (args : Array Value) : ((laidWorld os).forCall (fun _ _ => 0) ⟨#[], args, []⟩).Shaped Tryz.prog :=
  World.shaped_of_ZipB (by kernel_rfl) (by kernel_rfl)
end Go.Proofs.YtonajgmamdeohaaGreatDoor

/- The table of locks: Waits, Held; the law's small functions. -/
import Derived.Test.YtacmnfpgimgigaaLkI
import Derived.Test.YtacmnfpgimgigaaFx
import Derived.Test.YtacmnfpgimgigaaMx
import Derived.Test.YtacmnfpgimgigaaSrt
import Derived.Test.YtacmnfpgimgigaaLay
namespace Go.Proofs.Ytacmnfpgimgigaa
open Go
set_option linter.unusedSimpArgs false
set_option linter.unusedVariables false
set_option maxRecDepth 100000


theorem oneN_any {w0 w : World} {F : HP} {n : Int} (h : St w0 F w) (h0 : 0 ≤ n) (h1 : n < 9223372036854775808) : Calls Try.prog 14 #[.int .i64 n] w fun e w' => St w0 F w' ∧ e = .returned (namV (3, 0, n)) := by
  refine F14.calls (by simp) ?_
  unfold F14.code
  simp -dsimp -implicitDefEqProofs (disch := omega) only [go_sem, reqD_of, dec_t, dec_f, wrap_i64, wrap_u32, wrap_u64, wrap_u8]
  refine h.new fun B w1 h1 => ?_
  simp -dsimp -implicitDefEqProofs (disch := omega) only [go_sem, reqD_of, dec_t, dec_f, wrap_i64, wrap_u32, wrap_u64, wrap_u8]
  refine onV_of (v := namV (3, 0, n)) rfl ?_
  simp -dsimp -implicitDefEqProofs (disch := omega) only [go_sem, reqD_of, dec_t, dec_f, wrap_i64, wrap_u32, wrap_u64, wrap_u8]
  refine h1.stoAll (cs := namC (3, 0, n)) rfl rfl (namC_cells _) fun w2 h2 => ?_
  have hrow := h2.rowH B 3 rfl
  simp -dsimp -implicitDefEqProofs (disch := omega) only [go_sem, reqD_of, dec_t, dec_f, wrap_i64, wrap_u32, wrap_u64, wrap_u8]
  refine resC_1 (a := ⟨B, 0, none⟩) (v := namV (3, 0, n)) (by simp -dsimp -implicitDefEqProofs only [go_sem]) (run_loadVar_row fact_aggSz_26 (by rw [hrow])) ?_
  exact ⟨h2.right, rfl⟩

section
attribute [local go_sem] F17.t3_eq
theorem pick_any {w0 w : World} {F : HP} {c n : Int} (h : St w0 F w) (hc : -9223372036854775808 ≤ c ∧ c < 9223372036854775808) (hn : 0 < n) : Calls Try.prog 17 #[.int .i64 c, .int .i64 n] w fun e w' => St w0 F w' ∧ e = .returned (.int .i64 (pickI c n)) := by
  refine F17.calls (by simp) ?_
  unfold F17.code
  have hn0 : n ≠ 0 := by omega
  by_cases hneg : c < 0
  · simp -dsimp -implicitDefEqProofs (disch := omega) only [go_sem, reqD_of, dec_t, dec_f, wrap_i64, wrap_u32, wrap_u64, wrap_u8, hneg, hn0]
    exact ⟨h, by simp [pickI, hneg]⟩
  · simp -dsimp -implicitDefEqProofs (disch := omega) only [go_sem, reqD_of, dec_t, dec_f, wrap_i64, wrap_u32, wrap_u64, wrap_u8, hneg, hn0]
    exact ⟨h, by simp [pickI, hneg]⟩

def noNeed : Nee := ((0, 0, 0), false)

end

theorem waits_any {w0 w : World} {F : HP} {B : Nat} {ls : List (Nam × LkS)} {ws : List (Int × Nee)} {who : Int} (h : St w0 (TabP B ls ws * F) w) :
    Calls Try.prog 15 #[.pointer (some ⟨B, 0, none⟩), .int .i64 who] w fun e w' => St w0 (TabP B ls ws * F) w' ∧ e = .returned (.tuple #[needV ((agt who ws).getD noNeed), .bool (agt who ws).isSome]) := by
  obtain ⟨m1, m2, ps, hps, h1⟩ := TabP.open h
  have hT := h1
  unfold TabQ at h1
  refine F15.calls (by simp) ?_
  unfold F15.code
  simp -dsimp -implicitDefEqProofs (disch := omega) only [go_sem, reqD_of, dec_t, dec_f, wrap_i64, wrap_u32, wrap_u64, wrap_u8]
  refine h1.new fun R w1 h2 => ?_
  simp -dsimp -implicitDefEqProofs (disch := omega) only [go_sem, reqD_of, dec_t, dec_f, wrap_i64, wrap_u32, wrap_u64, wrap_u8, h2.cl]
  refine h2.lkH (b := m2) Try.underlying64 lawI zeroV38 ?_
  rw [lk_amap, lkV_get]
  simp -dsimp -implicitDefEqProofs (disch := omega) only [go_sem, reqD_of, dec_t, dec_f, wrap_i64, wrap_u32, wrap_u64, wrap_u8]
  refine h2.new fun N w2 h3 => ?_
  simp -dsimp -implicitDefEqProofs (disch := omega) only [go_sem, reqD_of, dec_t, dec_f, wrap_i64, wrap_u32, wrap_u64, wrap_u8]
  refine h3.stoAll (cs := needC ((agt who ws).getD noNeed)) rfl rfl (needC_cells _) fun w3 h4 => ?_
  have hN := h4.rowH N 4 rfl
  simp -dsimp -implicitDefEqProofs (disch := omega) only [go_sem, reqD_of, dec_t, dec_f, wrap_i64, wrap_u32, wrap_u64, wrap_u8, hN]
  refine h4.stoAll (b := R) (cs := needC ((agt who ws).getD noNeed)) rfl rfl (needC_cells _) fun w4 h5 => ?_
  have hR := h5.rowH R 4 rfl
  simp -dsimp -implicitDefEqProofs (disch := omega) only [go_sem, reqD_of, dec_t, dec_f, wrap_i64, wrap_u32, wrap_u64, wrap_u8]
  refine resC_2 (a := ⟨R, 0, none⟩) (v := needV ((agt who ws).getD noNeed)) (by simp -dsimp -implicitDefEqProofs only [go_sem]) (run_loadVar_row fact_aggSz_38 (by rw [hR])) ?_
  refine ⟨?_, by simp -dsimp -implicitDefEqProofs only [go_sem]⟩
  refine St.ent (A := TabQ B m1 m2 ps ws * F) ?_ (Ent.sep (TabQ.shut B m1 m2 ps ws hps) (Ent.rfl' F))
  unfold TabQ
  exact h5.right.right

end Go.Proofs.Ytacmnfpgimgigaa

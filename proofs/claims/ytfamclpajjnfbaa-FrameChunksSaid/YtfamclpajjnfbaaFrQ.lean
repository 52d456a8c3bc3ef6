/- FrameChunks' end. -/
import Derived.Test.YtfamclpajjnfbaaFrP
namespace Go.Proofs.Ytfamclpajjnfbaa
open Go
set_option linter.unusedSimpArgs false
set_option linter.unusedVariables false
set_option maxRecDepth 100000

abbrev ChunkP (D c WB : Nat) (r : RC) (vg vw : Value) (got : List (List UInt8)) (M : HP) : HP := Blk D (.deferred (some [])) * (CutR c r * (ListP vg got * (Blk WB (.cells #[vw] 34 (0, 0)) * (ListP vw got * M))))

section
attribute [local go_sem] F8.t27_eq F8.t24_eq F8.t22_eq F8.t19_eq F8.t13_eq F8.t14_eq F8.t39_eq F8.t40_eq F8.t47_eq F8.t44_eq F8.t41_eq F8.t35_eq F8.t31_eq F8.t28_eq F8.t9_eq F8.t3_eq
theorem chunk_last {w0 w : World} {e : FA} {pb : Option Addr} {b : List UInt8} {cb D c WB at_ L : Nat} {vg vw vr : Value} {got : List (List UInt8)} {r : RC} {M : HP} (hbb : b.length ≤ 33554432) (hb : Ent M (RdB (.slice pb b.length cb) b)) (hcap : b.length ≤ cb) (hold : Ent M (Old w0))
    (h : St w0 (Row 5 1 vr got.flatten.length (got.flatten.map bv) * ChunkP D c WB r vg vw got M) w) (hi : CInv L b got at_ r) (hw : r.whole = false) (he : at_ = b.length ∨ r.over = true)
    (hd : e.ds = [{ target := .collected D, args := #[] }]) (e0 : e.ρ 0 = .slice pb b.length cb) (e8 : e.ρ 8 = .pointer (some ⟨c, 0, none⟩)) (e10 : e.ρ 10 = vg) (e11 : e.ρ 11 = .int .i64 at_) (e22 : e.ρ 22 = .bool true) (e23 : e.ρ 23 = vr) :
    cwE Try.prog F8.t41 (fnP Try.prog #[.tmp 6] fun e w' => St w0 (Old w0) w' ∧ e = .returned (.bool true)) e w := by
  rw [F8.t41_eq]
  have hlen := hi.len
  have hgiven := hi.given
  obtain ⟨ar, cr, rfl, _⟩ := Row.form h
  obtain ⟨_, ag, cg, rfl, _, _, _⟩ := ListP.open (h.ac (show _ = ListP vg got * (Row 5 1 (.slice ar got.flatten.length cr) got.flatten.length (got.flatten.map bv) * (Blk D (.deferred (some [])) * (CutR c r * (Blk WB (.cells #[vw] 34 (0, 0)) * (ListP vw got * M))))) by unfold ChunkP; ac_rfl))
  obtain ⟨N, hN⟩ : ∃ N, N = Blk D (.deferred (some [])) * (Row 5 1 (.slice ar got.flatten.length cr) got.flatten.length (got.flatten.map bv) * (ListP (.slice ag got.length cg) got * (Blk WB (.cells #[vw] 34 (0, 0)) * (ListP vw got * M)))) := ⟨_, rfl⟩
  have h0 : St w0 (CutR c r * N) w := h.ac (by rw [hN]; unfold ChunkP; ac_rfl)
  have hNr : Ent N (RdB (.slice ar got.flatten.length cr) got.flatten) := by rw [hN]; exact (Ent.right _ _).trans (Row.rdB rfl)
  have hNM : Ent N M := by rw [hN]; exact (Ent.right _ _).trans ((Ent.right _ _).trans ((Ent.right _ _).trans ((Ent.right _ _).trans (Ent.right _ _))))
  have hND : N = Blk D (.deferred (some [])) * (Row 5 1 (.slice ar got.flatten.length cr) got.flatten.length (got.flatten.map bv) * (ListP (.slice ag got.length cg) got * (Blk WB (.cells #[vw] 34 (0, 0)) * (ListP vw got * M)))) := hN
  clear hN h
  have fin : ∀ w' : World, St w0 (CutR c r * N) w' → retD Try.prog [{ target := .collected D, args := #[] }] (fun w => St w0 (Old w0) w) w' := fun w' h' => by
    rw [hND] at h'
    refine St.mark1 h'.sw2 fun w'' h'' => ?_
    exact (h''.ent ((Ent.right _ _).trans ((Ent.right _ _).trans ((Ent.right _ _).trans ((Ent.right _ _).trans ((Ent.right _ _).trans (Ent.right _ _))))))).ent hold
  have hpre : b.take got.flatten.length = got.flatten := by
    have hle := hi.le
    have := congrArg (List.take got.flatten.length) hi.split
    rw [List.take_take, Nat.min_eq_left (by omega), List.take_left] at this
    exact this
  have hsub := (hNM.trans hb).trans (RdB.sub (lo := 0) (k := got.flatten.length) (by have := hi.le; omega))
  have hadd : (if cb = 0 then pb else pb.map (·.add 0)) = pb := by
    split
    · rfl
    · cases pb <;> rfl
  rw [List.drop_zero, hpre, hadd, Nat.sub_zero] at hsub
  have hle := hi.le
  simp -dsimp -implicitDefEqProofs (disch := omega) only [go_sem, reqD_of, dec_t, dec_f, wrap_i64, wrap_u32, wrap_u64, wrap_u8, hd, e0, e8, e10, e11, e22, e23]
  refine (deadR h0).mono ?_
  rintro e' w1 ⟨h1, rfl⟩
  simp -dsimp -implicitDefEqProofs (disch := omega) only [go_sem, reqD_of, dec_t, dec_f, wrap_i64, wrap_u32, wrap_u64, wrap_u8, hd, e0, e8, e10, e11, e22, e23]
  refine (takenR h1).mono ?_
  rintro e' w2 ⟨h2, rfl⟩
  rw [hgiven]
  simp -dsimp -implicitDefEqProofs (disch := omega) only [go_sem, reqD_of, dec_t, dec_f, wrap_i64, wrap_u32, wrap_u64, wrap_u8, hd, e0, e8, e10, e11, e22, e23]
  refine (same_any h2 (xs := got.flatten) (ys := got.flatten) ((Ent.right _ _).trans hNr) ((Ent.right _ _).trans ?_) (by omega)).mono ?_
  · have hx : (if cb = 0 then pb else Option.map (fun x => x) pb) = pb := by
      split
      · rfl
      · cases pb <;> rfl
    rw [hx, Nat.sub_zero, Nat.sub_zero]
    exact hsub
  rintro e' w3 ⟨h3, rfl⟩
  cases ho : r.over with
  | false =>
    have hat : at_ = b.length := by rcases he with he | he; exact he; rw [ho] at he; cases he
    have hwant : (0 : Int) < (r.want : Int) := by
      unfold RC.want
      rw [ho]
      simp only [Bool.false_eq_true, if_false]
      split
      · omega
      · rename_i h4
        obtain ⟨g1, g2, g3⟩ := hi.live ho (by omega)
        have hne : r.hand.length ≠ sizeL r.hand := fun hx => by
          have : r.whole = true := by unfold RC.whole; rw [ho, decide_eq_true (by omega : 4 ≤ r.hand.length), decide_eq_true hx]; rfl
          rw [this] at hw; cases hw
        omega
    simp -dsimp -implicitDefEqProofs (disch := omega) only [go_sem, reqD_of, dec_t, dec_f, wrap_i64, wrap_u32, wrap_u64, wrap_u8, hd, e0, e8, e10, e11, e22, e23, ho]
    refine (wantR h3 hi.ok).mono ?_
    rintro e' w4 ⟨h4, rfl⟩
    simp -dsimp -implicitDefEqProofs (disch := omega) only [go_sem, reqD_of, dec_t, dec_f, wrap_i64, wrap_u32, wrap_u64, wrap_u8, hd, e0, e8, e10, e11, e22, e23, ho, hwant]
    refine (wholeR h4 hi.ok).mono ?_
    rintro e' w5 ⟨h5, rfl⟩
    rw [hw]
    simp -dsimp -implicitDefEqProofs (disch := omega) only [go_sem, reqD_of, dec_t, dec_f, wrap_i64, wrap_u32, wrap_u64, wrap_u8, hd, e0, e8, e10, e11, e22, e23, ho, hwant, beq_self_eq_true]
    exact fin _ h5
  | true =>
    obtain ⟨d1, d2, d3⟩ := hi.dead ho
    have hwant : r.want = 0 := by unfold RC.want; rw [ho]; rfl
    simp -dsimp -implicitDefEqProofs (disch := omega) only [go_sem, reqD_of, dec_t, dec_f, wrap_i64, wrap_u32, wrap_u64, wrap_u8, hd, e0, e8, e10, e11, e22, e23, ho, d3]
    refine (wantR h3 hi.ok).mono ?_
    rintro e' w4 ⟨h4, rfl⟩
    rw [hwant]
    simp -dsimp -implicitDefEqProofs (disch := omega) only [go_sem, reqD_of, dec_t, dec_f, wrap_i64, wrap_u32, wrap_u64, wrap_u8, hd, e0, e8, e10, e11, e22, e23, ho, d3]
    refine (wholeR h4 hi.ok).mono ?_
    rintro e' w5 ⟨h5, rfl⟩
    rw [hw]
    simp -dsimp -implicitDefEqProofs (disch := omega) only [go_sem, reqD_of, dec_t, dec_f, wrap_i64, wrap_u32, wrap_u64, wrap_u8, hd, e0, e8, e10, e11, e22, e23, ho, d3]
    exact fin _ h5

end
section
attribute [local go_sem] F8.t27_eq F8.t24_eq F8.t22_eq F8.t19_eq F8.t13_eq F8.t14_eq F8.t39_eq F8.t40_eq F8.t47_eq F8.t44_eq F8.t35_eq F8.t31_eq F8.t28_eq F8.t9_eq F8.t3_eq
theorem chunk_end {w0 w : World} {e : FA} {pb : Option Addr} {b : List UInt8} {cb D c WB at_ L : Nat} {vg vw : Value} {got : List (List UInt8)} {r : RC} {M : HP} (hbb : b.length ≤ 33554432) (hb : Ent M (RdB (.slice pb b.length cb) b)) (hcap : b.length ≤ cb) (hold : Ent M (Old w0))
    (h : St w0 (ChunkP D c WB r vg vw got M) w) (hi : CInv L b got at_ r) (hw : r.whole = false) (he : at_ = b.length ∨ r.over = true)
    (hd : e.ds = [{ target := .collected D, args := #[] }]) (e0 : e.ρ 0 = .slice pb b.length cb) (e8 : e.ρ 8 = .pointer (some ⟨c, 0, none⟩)) (e10 : e.ρ 10 = vg) (e11 : e.ρ 11 = .int .i64 at_) (e20 : e.ρ 20 = .pointer (some ⟨WB, 0, none⟩)) :
    cwE Try.prog F8.t35 (fnP Try.prog #[.tmp 6] fun e w' => St w0 (Old w0) w' ∧ e = .returned (.bool true)) e w := by
  rw [F8.t35_eq]
  have hcnt := frames_count got hi.frames
  have hlen := hi.len
  have hle := hi.le
  have hcw := (h.ac (show _ = Blk WB (.cells #[vw] 34 (0, 0)) * (Blk D (.deferred (some [])) * (CutR c r * (ListP vg got * (ListP vw got * M)))) by unfold ChunkP; ac_rfl)).cells
  obtain ⟨_, ag, cg, rfl, _, _, _⟩ := ListP.open (h.ac (show _ = ListP vg got * (Blk D (.deferred (some [])) * (CutR c r * (Blk WB (.cells #[vw] 34 (0, 0)) * (ListP vw got * M)))) by unfold ChunkP; ac_rfl))
  simp -dsimp -implicitDefEqProofs (disch := omega) only [go_sem, reqD_of, dec_t, dec_f, wrap_i64, wrap_u32, wrap_u64, wrap_u8, hd, e0, e8, e10, e11, e20, hcw]
  refine (alike_any h (fs := got) ((Ent.right _ _).trans ((Ent.right _ _).trans ((Ent.left _ _).trans (ListP.lr _ _)))) ((Ent.right _ _).trans ((Ent.right _ _).trans ((Ent.right _ _).trans ((Ent.right _ _).trans ((Ent.left _ _).trans (ListP.lr _ _)))))) (by omega) (fun f hf => ?_)).mono ?_
  · obtain ⟨i, hi', rfl⟩ := List.getElem_of_mem hf
    obtain ⟨_, d2, d3⟩ := flat_drop got i hi'
    omega
  rintro e' w1 ⟨h1, rfl⟩
  simp -dsimp -implicitDefEqProofs (disch := omega) only [go_sem, reqD_of, dec_t, dec_f, wrap_i64, wrap_u32, wrap_u64, wrap_u8, hd, e0, e8, e10, e11, e20]
  refine loop_intro (fun e w' => e.ds = [{ target := .collected D, args := #[] }] ∧ e.ρ 0 = .slice pb b.length cb ∧ e.ρ 8 = .pointer (some ⟨c, 0, none⟩) ∧ e.ρ 10 = .slice ag got.length cg ∧ e.ρ 11 = .int .i64 at_ ∧ e.ρ 22 = .bool true ∧
      ∃ (i : Nat) (vr : Value), i ≤ got.length ∧ e.ρ 24 = .int .i64 i ∧ e.ρ 23 = vr ∧ St w0 (Row 5 1 vr (got.take i).flatten.length ((got.take i).flatten.map bv) * ChunkP D c WB r (.slice ag got.length cg) vw got M) w')
    (fun e _ => match e.ρ 24 with | .int _ k => (got.length - k).toNat | _ => 0) ?_ ?_
  · exact ⟨by simp -dsimp -implicitDefEqProofs only [go_sem, hd], by simp -dsimp -implicitDefEqProofs only [go_sem, e0], by simp -dsimp -implicitDefEqProofs only [go_sem, e8], by simp -dsimp -implicitDefEqProofs only [go_sem, e10], by simp -dsimp -implicitDefEqProofs only [go_sem, e11], by simp -dsimp -implicitDefEqProofs only [go_sem], 0, .slice none 0 0, by omega, by simp -dsimp -implicitDefEqProofs only [go_sem], by simp -dsimp -implicitDefEqProofs only [go_sem], h1.ent (Ent.nilRow _ _ _)⟩
  clear h h1 hcw hd e0 e8 e10 e11 e20
  rintro e w ⟨hd, e0, e8, e10, e11, e22, i, vr, hi', e24, e23, h⟩
  by_cases hlt : (i : Int) < got.length
  case neg =>
    have : i = got.length := by omega
    subst this
    rw [List.take_length] at h
    simp -dsimp -implicitDefEqProofs (disch := omega) only [go_sem, reqD_of, dec_t, dec_f, wrap_i64, wrap_u32, wrap_u64, wrap_u8, hd, e0, e8, e10, e11, e22, e23, e24, hlt]
    exact chunk_last (vr := vr) hbb hb hcap hold h hi hw he (by simp -dsimp -implicitDefEqProofs only [go_sem, hd]) (by simp -dsimp -implicitDefEqProofs only [go_sem, e0]) (by simp -dsimp -implicitDefEqProofs only [go_sem, e8]) (by simp -dsimp -implicitDefEqProofs only [go_sem, e10]) (by simp -dsimp -implicitDefEqProofs only [go_sem, e11]) (by simp -dsimp -implicitDefEqProofs only [go_sem, e22]) (by simp -dsimp -implicitDefEqProofs only [go_sem, e23])
  have hil : i < got.length := by omega
  obtain ⟨_, d2, d3⟩ := flat_drop got i hil
  have hl := h.ac (show _ = ListP (.slice ag got.length cg) got * (Row 5 1 vr (got.take i).flatten.length ((got.take i).flatten.map bv) * (Blk D (.deferred (some [])) * (CutR c r * (Blk WB (.cells #[vw] 34 (0, 0)) * (ListP vw got * M))))) by unfold ChunkP; ac_rfl)
  obtain ⟨gg, cap, u, hv, hcell, hu⟩ := ListP.elem hl hil
  simp only [Value.slice.injEq, true_and] at hv
  obtain ⟨rfl, rfl⟩ := hv
  obtain ⟨au, cu, rfl, _⟩ := hu.bytes
  simp -dsimp -implicitDefEqProofs (disch := omega) only [go_sem, reqD_of, dec_t, dec_f, wrap_i64, wrap_u32, wrap_u64, wrap_u8, hd, e0, e8, e10, e11, e22, e23, e24, hlt, hcell]
  refine h.append fact_rowTy_35 (hu.rd.src Try.underlying35 (bv_isCell _) (fun h => by simpa using h)) (show _ ≤ 9223372036854775807 by omega) (by omega) fun v2 w2 h2 => ?_
  have hts : (got.take (i + 1)).flatten = (got.take i).flatten ++ got[i] := by
    rw [List.take_succ_eq_append_getElem hil, List.flatten_append]; simp
  simp -dsimp -implicitDefEqProofs (disch := omega) only [go_sem, reqD_of, dec_t, dec_f, wrap_i64, wrap_u32, wrap_u64, wrap_u8, hd, e0, e8, e10, e11, e22, e23, e24]
  refine ⟨⟨i + 1, v2, by omega, by omega, rfl, ?_⟩, by omega⟩
  rw [hts, List.length_append, List.map_append]
  exact h2

end
end Go.Proofs.Ytfamclpajjnfbaa

/- FrameChunks: the frames of All are collected; the whole walk. -/
import Derived.Test.YtfamclpajjnfbaaFrQ
namespace Go.Proofs.Ytfamclpajjnfbaa
open Go
set_option linter.unusedSimpArgs false
set_option linter.unusedVariables false
set_option maxRecDepth 100000

section
attribute [local go_sem] F8.t27_eq F8.t24_eq F8.t22_eq F8.t19_eq F8.t13_eq F8.t14_eq F8.t39_eq F8.t40_eq F8.t47_eq F8.t44_eq F8.t41_eq F8.t31_eq F8.t28_eq F8.t9_eq F8.t3_eq
theorem chunk_loop {w0 w : World} {e : FA} {pb : Option Addr} {b : List UInt8} {cb c WB B3 B5 at_ L : Nat} {vg vv : Value} {got : List (List UInt8)} {r : RC} {M : HP} (hbb : b.length ≤ 33554432) (hL : okLimit L = true) (hb : Ent M (RdB (.slice pb b.length cb) b)) (hcap : b.length ≤ cb) (hold : Ent M (Old w0))
    (h : St w0 (Blk WB (.cells #[.slice none 0 0] 34 (0, 0)) * (CutR c r * (AllB B3 B5 L vv b * (ListP vg got * M)))) w) (hi : CInv L b got at_ r) (hw : r.whole = false) (he : at_ = b.length ∨ r.over = true)
    (hd : e.ds = []) (e0 : e.ρ 0 = .slice pb b.length cb) (e8 : e.ρ 8 = .pointer (some ⟨c, 0, none⟩)) (e10 : e.ρ 10 = vg) (e11 : e.ρ 11 = .int .i64 at_) (e20 : e.ρ 20 = .pointer (some ⟨WB, 0, none⟩))
    (e132 : e.ρ 132 = .func (.func 47) #[] #[.pointer (some ⟨B3, 0, none⟩), .pointer (some ⟨B5, 0, none⟩)]) :
    cwE Try.prog (.rangeFunc (.tmp 132) #[133] F8.a0 F8.b0) (blockP 2 (thenP (cwD Try.prog none F8.t35 (fnP Try.prog #[.tmp 6] fun e w' => St w0 (Old w0) w' ∧ e = .returned (.bool true))) (fnP Try.prog #[.tmp 6] fun e w' => St w0 (Old w0) w' ∧ e = .returned (.bool true)))) e w := by
  have hall : allFrames L b = got := by unfold allFrames; rw [if_pos hL]; exact hi.done hw he
  have hcnt := frames_count got hi.frames
  have hlen := hi.len
  have hle := hi.le
  refine range_intro (F := Blk WB (.cells #[.slice none 0 0] 34 (0, 0)) * (CutR c r * (AllB B3 B5 L vv b * (ListP vg got * M)))) h
    (gf := 47) (lb := #[.pointer (some ⟨B3, 0, none⟩), .pointer (some ⟨B5, 0, none⟩)]) (by simp -dsimp -implicitDefEqProofs only [go_sem, e132]) fact_fnOk_47 (Pass := PassB)
    (fun pre => HP.ex fun vw => Blk WB (.cells #[vw] 34 (0, 0)) * ListP vw pre)
    (fun cd _ => HP.fact False Emp)
    ?_ ?_ (iter_all (n := L) (v := vv) (b := b) (R := CutR c r * (ListP vg got * M)) (by omega)) ?_ ?_
  · refine Ent.trans (Ent.sep (Ent.rfl' _) ((Ent.emp _).trans (Ent.sep (Ent.rfl' _) ListP.nil))) ?_
    refine Ent.trans (Ent.of_eq ?_) (Ent.sep (Ent.ex (fun vw => Blk WB (.cells #[vw] 34 (0, 0)) * ListP vw []) (.slice none 0 0)) (Ent.rfl' _))
    ac_rfl
  · intro l pre x args G W1 hok h1
    have hargs : ∃ v, args = #[v] := by
      obtain ⟨v, h2⟩ := (h1.right.left).ex
      obtain ⟨_, _, hx, _⟩ := h2.sat
      exact ⟨v, hx⟩
    obtain ⟨v, rfl⟩ := hargs
    refine ⟨rfl, ?_⟩
    unfold F8.a0
    simp -dsimp -implicitDefEqProofs only [go_sem]
    refine ⟨h1, fun G2 W2 hl h2 => ?_⟩
    obtain ⟨vw, h3⟩ := St.exF h2
    obtain ⟨v', h4⟩ := (h3.ac (show _ = PassB x #[v] * ((Blk WB (.cells #[vw] 34 (0, 0)) * ListP vw pre) * G2) by ac_rfl)).exF
    obtain ⟨hv, h4⟩ := h4.factF
    simp only [Array.mk.injEq, List.cons.injEq, and_true] at hv
    subst hv
    obtain ⟨post, hpost⟩ := hok
    rw [hall] at hpost
    have hpl : pre.length < 1000000000000 := by
      have := congrArg List.length hpost
      simp at this; omega
    have hcw := (h4.ac (show _ = Blk WB (.cells #[vw] 34 (0, 0)) * (Row 5 1 v x.length (x.map bv) * (ListP vw pre * G2)) by ac_rfl)).cells
    obtain ⟨av, cv, rfl, _⟩ := Row.form h4
    unfold F8.b0
    simp -dsimp -implicitDefEqProofs (disch := omega) only [go_sem, reqD_of, dec_t, dec_f, wrap_i64, wrap_u32, wrap_u64, wrap_u8, List.toList_toArray, e20, hcw]
    refine h4.buildSlice (s := 1) fact_rowTy_34 (cells := [.slice av x.length cv]) rfl (by decide) (by decide) fun v3 w3 h5 => ?_
    simp -dsimp -implicitDefEqProofs (disch := omega) only [go_sem, reqD_of, dec_t, dec_f, wrap_i64, wrap_u32, wrap_u64, wrap_u8, List.toList_toArray, e20]
    refine ListP.append (u := .slice av x.length cv) (v3 := v3) (f := x) (fs := pre) (F := Blk WB (.cells #[vw] 34 (0, 0)) * G2) (h5.ac (by ac_rfl)) rfl hpl fun a4 c4 w4 h6 => ?_
    simp -dsimp -implicitDefEqProofs (disch := omega) only [go_sem, reqD_of, dec_t, dec_f, wrap_i64, wrap_u32, wrap_u64, wrap_u8, List.toList_toArray, e20]
    refine h6.sw2.store (arr' := #[.slice a4 (pre.length + 1) c4]) rfl (by simp) rfl fun w5 h7 => ?_
    simp -dsimp -implicitDefEqProofs (disch := omega) only [go_sem, reqD_of, dec_t, dec_f, wrap_i64, wrap_u32, wrap_u64, wrap_u8]
    refine (h7.ac (show _ = (Blk WB (.cells #[.slice a4 (pre.length + 1) c4] 34 (0, 0)) * ListP (.slice a4 (pre.length + 1) c4) (pre ++ [x])) * G2 by ac_rfl)).ent (Ent.sep (Ent.ex (fun vw => Blk WB (.cells #[vw] 34 (0, 0)) * ListP vw (pre ++ [x])) _) (Ent.rfl' _))
  · intro D xs w' hS h1
    rw [hS, hall] at h1
    obtain ⟨vw, h2⟩ := (h1.ac (show _ = (HP.ex fun vw => Blk WB (.cells #[vw] 34 (0, 0)) * ListP vw got) * (Blk D (.deferred (some [])) * (AllB B3 B5 L vv b * (CutR c r * (ListP vg got * M)))) by ac_rfl)).exF
    exact chunk_end (D := D) (c := c) (WB := WB) (vg := vg) (vw := vw) (M := AllB B3 B5 L vv b * M) hbb ((Ent.right _ _).trans hb) hcap ((Ent.right _ _).trans hold) (h2.ac (by unfold ChunkP; ac_rfl)) hi hw he (by simp only [hd]) e0 e8 e10 e11 e20
  · intro D cd pre w' h1
    obtain ⟨hf, _⟩ := (h1.ac (show _ = HP.fact False Emp * (Blk D (.deferred (some [])) * (AllB B3 B5 L vv b * (CutR c r * (ListP vg got * M)))) by ac_rfl)).factF
    exact hf.elim

end
section
attribute [local go_sem] F8.t27_eq F8.t24_eq F8.t22_eq F8.t19_eq F8.t13_eq F8.t14_eq F8.t39_eq F8.t40_eq F8.t47_eq F8.t44_eq F8.t41_eq F8.t35_eq F8.t31_eq F8.t28_eq F8.t9_eq F8.t3_eq
theorem chunk_mid {w0 w : World} {e : FA} {pb : Option Addr} {b : List UInt8} {cb c B3 B5 at_ L : Nat} {vg vv : Value} {got : List (List UInt8)} {r : RC} {M : HP} (hbb : b.length ≤ 33554432) (hL : okLimit L = true) (hb : Ent M (RdB (.slice pb b.length cb) b)) (hcap : b.length ≤ cb) (hold : Ent M (Old w0))
    (h : St w0 (CutR c r * (ListP vg got * (AllB B3 B5 L vv b * M))) w) (hi : CInv L b got at_ r) (he : at_ = b.length ∨ r.over = true)
    (hd : e.ds = []) (e0 : e.ρ 0 = .slice pb b.length cb) (e8 : e.ρ 8 = .pointer (some ⟨c, 0, none⟩)) (e9 : e.ρ 9 = .func (.func 47) #[] #[.pointer (some ⟨B3, 0, none⟩), .pointer (some ⟨B5, 0, none⟩)]) (e10 : e.ρ 10 = vg) (e11 : e.ρ 11 = .int .i64 at_) :
    cwE Try.prog F8.t28 (fnP Try.prog #[.tmp 6] fun e w' => St w0 (Old w0) w' ∧ e = .returned (.bool true)) e w := by
  rw [F8.t28_eq]
  by_cases hw : r.whole = true
  · have hgl : got.length < 1000000000000 := by
      have := frames_count got hi.frames
      have := hi.len
      have := hi.le
      omega
    have ho : r.over = false := by simp only [RC.whole, Bool.and_eq_true, Bool.not_eq_true'] at hw; exact hw.1.1
    simp -dsimp -implicitDefEqProofs (disch := omega) only [go_sem, reqD_of, dec_t, dec_f, wrap_i64, wrap_u32, wrap_u64, wrap_u8, hd, e0, e8, e9, e10, e11]
    refine (nextR_yes h hi.ok hw).mono ?_
    rintro e' w2 ⟨v2, h2, rfl⟩
    obtain ⟨a2, c2, rfl, _⟩ := Row.form (h2.sw2)
    simp -dsimp -implicitDefEqProofs (disch := omega) only [go_sem, reqD_of, dec_t, dec_f, wrap_i64, wrap_u32, wrap_u64, wrap_u8, hd, e0, e8, e9, e10, e11]
    refine h2.buildSlice (s := 1) fact_rowTy_34 (cells := [.slice a2 r.hand.length c2]) rfl (by decide) (by decide) fun v3 w3 h3 => ?_
    simp -dsimp -implicitDefEqProofs (disch := omega) only [go_sem, reqD_of, dec_t, dec_f, wrap_i64, wrap_u32, wrap_u64, wrap_u8, hd, e0, e8, e9, e10, e11]
    refine ListP.append (u := .slice a2 r.hand.length c2) (v3 := v3) (f := r.hand) (fs := got) (F := CutR c r.next * (AllB B3 B5 L vv b * M)) (h3.ac (by ac_rfl)) rfl hgl fun a4 c4 w4 h4 => ?_
    simp -dsimp -implicitDefEqProofs (disch := omega) only [go_sem, reqD_of, dec_t, dec_f, wrap_i64, wrap_u32, wrap_u64, wrap_u8, hd, e0, e8, e9, e10, e11]
    refine h4.new fun WB w5 h5 => ?_
    simp -dsimp -implicitDefEqProofs (disch := omega) only [go_sem, reqD_of, dec_t, dec_f, wrap_i64, wrap_u32, wrap_u64, wrap_u8, hd, e0, e8, e9, e10, e11]
    have hw2 : r.next.whole = false := by unfold RC.whole RC.next; simp
    exact chunk_loop (c := c) (B3 := B3) (B5 := B5) (vv := vv) hbb hL hb hcap hold (h5.ac (by ac_rfl)) (hi.next hw) hw2 (by rcases he with he | he; exact .inl he; rw [ho] at he; cases he) (by simp -dsimp -implicitDefEqProofs only [go_sem, hd]) (by simp -dsimp -implicitDefEqProofs only [go_sem, e0]) (by simp -dsimp -implicitDefEqProofs only [go_sem, e8]) (by simp -dsimp -implicitDefEqProofs only [go_sem]) (by simp -dsimp -implicitDefEqProofs only [go_sem, e11]) (by simp -dsimp -implicitDefEqProofs only [go_sem]) (by simp -dsimp -implicitDefEqProofs only [go_sem, e9])
  · have hw : r.whole = false := by simpa using hw
    simp -dsimp -implicitDefEqProofs (disch := omega) only [go_sem, reqD_of, dec_t, dec_f, wrap_i64, wrap_u32, wrap_u64, wrap_u8, hd, e0, e8, e9, e10, e11]
    refine (nextR_no h hi.ok hw).mono ?_
    rintro e' w2 ⟨h2, rfl⟩
    simp -dsimp -implicitDefEqProofs (disch := omega) only [go_sem, reqD_of, dec_t, dec_f, wrap_i64, wrap_u32, wrap_u64, wrap_u8, hd, e0, e8, e9, e10, e11]
    refine h2.new fun WB w5 h5 => ?_
    simp -dsimp -implicitDefEqProofs (disch := omega) only [go_sem, reqD_of, dec_t, dec_f, wrap_i64, wrap_u32, wrap_u64, wrap_u8, hd, e0, e8, e9, e10, e11]
    exact chunk_loop (c := c) (B3 := B3) (B5 := B5) (vv := vv) hbb hL hb hcap hold (h5.ac (by ac_rfl)) hi hw he (by simp -dsimp -implicitDefEqProofs only [go_sem, hd]) (by simp -dsimp -implicitDefEqProofs only [go_sem, e0]) (by simp -dsimp -implicitDefEqProofs only [go_sem, e8]) (by simp -dsimp -implicitDefEqProofs only [go_sem, e10]) (by simp -dsimp -implicitDefEqProofs only [go_sem, e11]) (by simp -dsimp -implicitDefEqProofs only [go_sem]) (by simp -dsimp -implicitDefEqProofs only [go_sem, e9])

end
end Go.Proofs.Ytfamclpajjnfbaa

/- The walk of FrameAll. -/
import Derived.Test.YtfamclpajjnfbaaFrAe
namespace Go.Proofs.Ytfamclpajjnfbaa
open Go
set_option linter.unusedSimpArgs false
set_option linter.unusedVariables false
set_option maxRecDepth 100000

theorem LP_lr {v : Value} {fs : List (List UInt8)} {A : HP} : Ent (ListP v fs * A) (LR v fs) := (Ent.left _ _).trans (ListP.lr v fs)

section
attribute [local go_sem] F6.t3_eq
theorem frameAll_any {w0 w : World} {F : HP} {v : Value} {b : List UInt8} {ms : Nat} {n : Int} (h : St w0 F w) (hr : Ent F (RdB v b)) (hms : ms < 4294967296) (hn : -9223372036854775808 ≤ n ∧ n < 9223372036854775808) :
    Calls Try.prog 6 #[v, .int .u32 ms, .int .i64 n] w fun e w' => St w0 F w' ∧ e = .returned (.bool true) := by
  obtain ⟨pb, cb, rfl, hcb, _⟩ := (h.ent hr).bytes
  refine F6.calls (by simp) ?_
  unfold F6.code
  by_cases hbig : (33554432 : Int) < (b.length : Int)
  · simp -dsimp -implicitDefEqProofs (disch := omega) only [go_sem, reqD_of, dec_t, dec_f, wrap_i64, wrap_u32, wrap_u64, wrap_u8, hbig]
    exact h
  obtain ⟨fl, fc⟩ := allFrames_facts ms b
  simp -dsimp -implicitDefEqProofs (disch := omega) only [go_sem, reqD_of, dec_t, dec_f, wrap_i64, wrap_u32, wrap_u64, wrap_u8, hbig]
  refine (known_any h).mono ?_
  rintro e w1 ⟨h1, rfl⟩
  simp -dsimp -implicitDefEqProofs (disch := omega) only [go_sem, reqD_of, dec_t, dec_f, wrap_i64, wrap_u32, wrap_u64, wrap_u8]
  refine onV_of (v := .agg #[nilS, nilS, nilS, nilS, nilS, nilS]) (by kernel_rfl) ?_
  simp -dsimp -implicitDefEqProofs (disch := omega) only [go_sem, reqD_of, dec_t, dec_f, wrap_i64, wrap_u32, wrap_u64, wrap_u8]
  refine h1.new fun B w2 h2 => ?_
  have h2 := BookP.new h2
  simp -dsimp -implicitDefEqProofs (disch := omega) only [go_sem, reqD_of, dec_t, dec_f, wrap_i64, wrap_u32, wrap_u64, wrap_u8]
  refine (allRef_any (n := ms) h2 ((Ent.right _ _).trans hr) (by omega) hms).mono ?_
  rintro e w3 ⟨a3, c3, h3, rfl⟩
  simp -dsimp -implicitDefEqProofs (disch := omega) only [go_sem, reqD_of, dec_t, dec_f, wrap_i64, wrap_u32, wrap_u64, wrap_u8]
  refine (goes_any (n := 0) (most := 0) (k := ms) (b := b) (F := ListP (.slice a3 (allFrames ms b).length c3) (allFrames ms b) * F) (h3.ac (by ac_rfl)) ((Ent.right _ _).trans hr) (by omega) hms (by omega) (by omega)).mono ?_
  rintro e w4 ⟨a4, c4, n4, hn4, h4, rfl⟩
  simp only [goesL, Nat.lt_irrefl, if_false] at h4
  simp only [goesL, Nat.lt_irrefl, if_false]
  simp -dsimp -implicitDefEqProofs (disch := omega) only [go_sem, reqD_of, dec_t, dec_f, wrap_i64, wrap_u32, wrap_u64, wrap_u8]
  refine (turn_any (n := n4) (by omega) h4.sw2).mono ?_
  rintro e w5 ⟨h5, rfl⟩
  have hl1 : ((allFrames ms b).length : Int) + 1 = (((allFrames ms b).length + 1 : Nat) : Int) := by omega
  simp -dsimp -implicitDefEqProofs (disch := omega) only [go_sem, reqD_of, dec_t, dec_f, wrap_i64, wrap_u32, wrap_u64, wrap_u8, hl1]
  refine (pick_any (w := w5) hn (n := (allFrames ms b).length + 1) (by omega) (by omega)).mono ?_
  rintro e w6 ⟨hw6, rfl⟩
  rw [hw6]
  clear hw6
  have hpk := pickN_lt n (show 0 < (allFrames ms b).length + 1 by omega)
  obtain ⟨k, hk⟩ : ∃ k, k = 1 + pickN n ((allFrames ms b).length + 1) := ⟨_, rfl⟩
  have hki : (1 : Int) + (pickN n ((allFrames ms b).length + 1) : Nat) = (k : Int) := by omega
  simp -dsimp -implicitDefEqProofs (disch := omega) only [go_sem, reqD_of, dec_t, dec_f, wrap_i64, wrap_u32, wrap_u64, wrap_u8, hki]
  refine (goes_any (n := n4) (most := k) (k := ms) (b := b) h5 ((Ent.right _ _).trans ((Ent.right _ _).trans hr)) (by omega) hms (by omega) (by omega)).mono ?_
  rintro e w7 ⟨a7, c7, n7, hn7, h7, rfl⟩
  have hgk : goesL k (allFrames ms b) = (allFrames ms b).take k := by unfold goesL; rw [if_pos (by omega)]
  rw [hgk] at h7 ⊢
  simp -dsimp -implicitDefEqProofs (disch := omega) only [go_sem, reqD_of, dec_t, dec_f, wrap_i64, wrap_u32, wrap_u64, wrap_u8]
  refine (turn_any (n := n7) (by omega) h7.sw2).mono ?_
  rintro e w8 ⟨h8, rfl⟩
  simp -dsimp -implicitDefEqProofs (disch := omega) only [go_sem, reqD_of, dec_t, dec_f, wrap_i64, wrap_u32, wrap_u64, wrap_u8]
  refine (goes_any (n := n7) (most := 0) (k := ms) (b := b) h8 ((Ent.right _ _).trans ((Ent.right _ _).trans ((Ent.right _ _).trans hr))) (by omega) hms (by omega) (by omega)).mono ?_
  rintro e w9 ⟨a9, c9, n9, hn9, h9, rfl⟩
  simp only [goesL, Nat.lt_irrefl, if_false] at h9
  simp only [goesL, Nat.lt_irrefl, if_false]
  simp -dsimp -implicitDefEqProofs (disch := omega) only [go_sem, reqD_of, dec_t, dec_f, wrap_i64, wrap_u32, wrap_u64, wrap_u8]
  refine (ends_any (n := n9) (by omega) h9.sw2).mono ?_
  rintro e w10 ⟨h10, rfl⟩
  simp -dsimp -implicitDefEqProofs (disch := omega) only [go_sem, reqD_of, dec_t, dec_f, wrap_i64, wrap_u32, wrap_u64, wrap_u8]
  obtain ⟨fs, hfs⟩ : ∃ fs, fs = allFrames ms b := ⟨_, rfl⟩
  rw [← hfs] at h10 fl fc hl1 hpk hk hki
  rw [← hfs]
  have r1 : Ent (BookP B n9 * (ListP (.slice a9 fs.length c9) fs * (ListP (.slice a7 (fs.take k).length c7) (fs.take k) * (ListP (.slice a4 fs.length c4) fs * (ListP (.slice a3 fs.length c3) fs * F))))) (LR (.slice a9 fs.length c9) fs) := (Ent.right _ _).trans LP_lr
  have r2 : Ent (BookP B n9 * (ListP (.slice a9 fs.length c9) fs * (ListP (.slice a7 (fs.take k).length c7) (fs.take k) * (ListP (.slice a4 fs.length c4) fs * (ListP (.slice a3 fs.length c3) fs * F))))) (LR (.slice a7 (fs.take k).length c7) (fs.take k)) := (Ent.right _ _).trans ((Ent.right _ _).trans LP_lr)
  have r3 : Ent (BookP B n9 * (ListP (.slice a9 fs.length c9) fs * (ListP (.slice a7 (fs.take k).length c7) (fs.take k) * (ListP (.slice a4 fs.length c4) fs * (ListP (.slice a3 fs.length c3) fs * F))))) (LR (.slice a4 fs.length c4) fs) := (Ent.right _ _).trans ((Ent.right _ _).trans ((Ent.right _ _).trans LP_lr))
  have r4 : Ent (BookP B n9 * (ListP (.slice a9 fs.length c9) fs * (ListP (.slice a7 (fs.take k).length c7) (fs.take k) * (ListP (.slice a4 fs.length c4) fs * (ListP (.slice a3 fs.length c3) fs * F))))) (LR (.slice a3 fs.length c3) fs) := (Ent.right _ _).trans ((Ent.right _ _).trans ((Ent.right _ _).trans ((Ent.right _ _).trans LP_lr)))
  have b1 : fs.length < 1000000000000 := by omega
  have b2 : ∀ f ∈ fs, f.length < 9223372036854775807 := fun f hf => by have := fl f hf; omega
  have hle : fs.length ≤ c3 := by
    obtain ⟨_, _, vals, hvl, ⟨hh, a', c', hv, hc', _⟩, _⟩ := (h10.ent r4).sat
    simp only [Value.slice.injEq, true_and] at hv
    omega
  have fin : ∀ (e2 : FA) (w2 : World), e2.ds = [] → e2.ρ 10 = .slice a4 fs.length c4 → e2.ρ 9 = .slice a3 fs.length c3 → e2.ρ 17 = .slice a9 fs.length c9 → e2.ρ 7 = .bool true → e2.ρ 11 = .bool true → e2.ρ 15 = .bool true → e2.ρ 18 = .bool true → e2.ρ 12 = .bool true → e2.ρ 16 = .bool true → e2.ρ 19 = .bool true →
      St w0 (BookP B n9 * (ListP (.slice a9 fs.length c9) fs * (ListP (.slice a7 (fs.take k).length c7) (fs.take k) * (ListP (.slice a4 fs.length c4) fs * (ListP (.slice a3 fs.length c3) fs * F))))) w2 →
      cwE Try.prog F6.t20 (fnP Try.prog #[.tmp 6] fun e w' => St w0 F w' ∧ e = .returned (.bool true)) e2 w2 := by
    intro e2 w2 hd e10 e9 e17 e7 e11 e15 e18 e12 e16 e19 h2
    rw [F6.t20_eq]
    simp -dsimp -implicitDefEqProofs (disch := omega) only [go_sem, reqD_of, dec_t, dec_f, wrap_i64, wrap_u32, wrap_u64, wrap_u8, hd, e10, e9, e17, e7, e11, e15, e18, e12, e16, e19]
    refine (alike_any h2 r3 r4 b1 b2).mono ?_
    rintro e w3 ⟨h3, rfl⟩
    simp -dsimp -implicitDefEqProofs (disch := omega) only [go_sem, reqD_of, dec_t, dec_f, wrap_i64, wrap_u32, wrap_u64, wrap_u8, hd, e10, e9, e17, e7, e11, e15, e18, e12, e16, e19]
    refine (alike_any h3 r1 r4 b1 b2).mono ?_
    rintro e w4 ⟨h4, rfl⟩
    simp -dsimp -implicitDefEqProofs (disch := omega) only [go_sem, reqD_of, dec_t, dec_f, wrap_i64, wrap_u32, wrap_u64, wrap_u8, hd, e10, e9, e17, e7, e11, e15, e18, e12, e16, e19]
    exact h4.right.right.right.right.right
  by_cases hlt : (k : Int) < (fs.length : Int)
  · have hck : (k : Int) ≤ c3 := by omega
    have hft : (fs.take k).length = k := by rw [List.length_take]; omega
    simp -dsimp -implicitDefEqProofs (disch := omega) only [go_sem, reqD_of, dec_t, dec_f, wrap_i64, wrap_u32, wrap_u64, wrap_u8, hlt, hck]
    have hz : (if c3 = 0 then a3 else Option.map (fun x : Addr => x) a3) = a3 := by
      split
      · rfl
      · cases a3 <;> rfl
    have r5 := r4.trans (LR.take (k := k) rfl (by omega))
    refine (alike_any h10 r2 (by simpa [hft, hz] using r5) (by omega) (fun f hf => b2 f (List.mem_of_mem_take hf))).mono ?_
    rintro e w11 ⟨h11, rfl⟩
    simp -dsimp -implicitDefEqProofs (disch := omega) only [go_sem, reqD_of, dec_t, dec_f, wrap_i64, wrap_u32, wrap_u64, wrap_u8]
    refine fin _ _ rfl ?_ ?_ ?_ ?_ ?_ ?_ ?_ ?_ ?_ ?_ h11 <;> simp -dsimp -implicitDefEqProofs only [go_sem]
  · have hft : fs.take k = fs := List.take_of_length_le (by omega)
    simp -dsimp -implicitDefEqProofs (disch := omega) only [go_sem, reqD_of, dec_t, dec_f, wrap_i64, wrap_u32, wrap_u64, wrap_u8, hlt]
    refine (alike_any h10 r2 (by rw [hft] at r4 ⊢; exact r4) (by rw [hft]; exact b1) (by rw [hft]; exact b2)).mono ?_
    rintro e w11 ⟨h11, rfl⟩
    simp -dsimp -implicitDefEqProofs (disch := omega) only [go_sem, reqD_of, dec_t, dec_f, wrap_i64, wrap_u32, wrap_u64, wrap_u8]
    refine fin _ _ rfl ?_ ?_ ?_ ?_ ?_ ?_ ?_ ?_ ?_ ?_ h11 <;> simp -dsimp -implicitDefEqProofs only [go_sem]

end
end Go.Proofs.Ytfamclpajjnfbaa

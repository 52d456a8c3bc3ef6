/- goes, as a whole.  -/
import Derived.Test.YtfamclpajjnfbaaFrAd
namespace Go.Proofs.Ytfamclpajjnfbaa
open Go
set_option linter.unusedSimpArgs false
set_option linter.unusedVariables false
set_option maxRecDepth 100000

section
attribute [local go_sem] F28.t23_eq
theorem goes_any {w0 w : World} {F : HP} {B n most k : Nat} {v : Value} {b : List UInt8} (h : St w0 (BookP B n * F) w) (hr : Ent F (RdB v b)) (hb : b.length ≤ 33554432) (hk : k < 4294967296) (hm : most < 9223372036854775808) (hn : n + 2 * b.length < 100000000) :
    Calls Try.prog 28 #[v, .int .u32 k, .int .i64 most, .pointer (some ⟨B, 0, none⟩)] w fun e w' => ∃ a c n', n' ≤ n + 2 * (allFrames k b).length ∧ St w0 (ListP (.slice a (goesL most (allFrames k b)).length c) (goesL most (allFrames k b)) * (BookP B n' * F)) w' ∧ e = .returned (.tuple #[.slice a (goesL most (allFrames k b)).length c, .bool true]) := by
  obtain ⟨pb, cb, rfl, hcb, _⟩ := (h.ent ((Ent.right _ _).trans hr)).bytes
  refine F28.calls (by simp) ?_
  unfold F28.code
  simp -dsimp -implicitDefEqProofs (disch := omega) only [go_sem, reqD_of, dec_t, dec_f, wrap_i64, wrap_u32, wrap_u64, wrap_u8]
  refine h.new fun P6 w1 h1 => ?_
  simp -dsimp -implicitDefEqProofs (disch := omega) only [go_sem, reqD_of, dec_t, dec_f, wrap_i64, wrap_u32, wrap_u64, wrap_u8]
  refine h1.new fun P7 w2 h2 => ?_
  simp -dsimp -implicitDefEqProofs (disch := omega) only [go_sem, reqD_of, dec_t, dec_f, wrap_i64, wrap_u32, wrap_u64, wrap_u8]
  refine h2.new fun P8 w3 h3 => ?_
  simp -dsimp -implicitDefEqProofs (disch := omega) only [go_sem, reqD_of, dec_t, dec_f, wrap_i64, wrap_u32, wrap_u64, wrap_u8]
  refine h3.new fun P9 w4 h4 => ?_
  simp -dsimp -implicitDefEqProofs (disch := omega) only [go_sem, reqD_of, dec_t, dec_f, wrap_i64, wrap_u32, wrap_u64, wrap_u8]
  refine h4.new fun P10 w5 h5 => ?_
  simp -dsimp -implicitDefEqProofs (disch := omega) only [go_sem, reqD_of, dec_t, dec_f, wrap_i64, wrap_u32, wrap_u64, wrap_u8]
  refine (lent_any h5 ((Ent.right _ _).trans ((Ent.right _ _).trans ((Ent.right _ _).trans ((Ent.right _ _).trans ((Ent.right _ _).trans ((Ent.right _ _).trans hr)))))) (by omega)).mono ?_
  rintro e w6 ⟨a6, c6, h6, hc6, rfl⟩
  have hlen : (b ++ tail3).length = b.length + 3 := by simp
  have hcc : (b.length : Int) ≤ c6 := by omega
  simp -dsimp -implicitDefEqProofs (disch := omega) only [go_sem, reqD_of, dec_t, dec_f, wrap_i64, wrap_u32, wrap_u64, wrap_u8, hcc]
  rw [hlen] at h6
  refine (all_any (n := k) (b := b) h6 ((Ent.left _ _).trans ((RowO.reads _ _ _ _ _).trans ((Reads.takeK (k := b.length) (by omega)).trans (by rw [takeN_rd]; exact Ent.rfl' _)))) (by omega)).mono ?_
  rintro e w7 ⟨B3, B5, vv, h7, rfl⟩
  simp -dsimp -implicitDefEqProofs (disch := omega) only [go_sem, reqD_of, dec_t, dec_f, wrap_i64, wrap_u32, wrap_u64, wrap_u8]
  refine h7.new fun P12 w8 h8 => ?_
  simp -dsimp -implicitDefEqProofs (disch := omega) only [go_sem, reqD_of, dec_t, dec_f, wrap_i64, wrap_u32, wrap_u64, wrap_u8]
  refine h8.sto (b := P12) (off := 0) (by simp) rfl fun w9 h9 => ?_
  simp only [List.setIfInBounds_toArray, List.set_cons_zero] at h9
  have c12 := h9.cl P12
  simp -dsimp -implicitDefEqProofs (disch := omega) only [go_sem, reqD_of, dec_t, dec_f, wrap_i64, wrap_u32, wrap_u64, wrap_u8, c12]
  have hrest : Ent (Blk P12 (.cells #[fnV B3 B5] 63 (0, 0)) * (AllB B3 B5 k vv b * (Blk P10 (.cells #[.slice none 0 0] 34 (0, 0)) * (Blk P9 (.cells #[.bool false] 4 (0, 0)) * (Blk P8 (.cells #[.slice none 0 0] 34 (0, 0)) * (Blk P7 (.cells #[.pointer (some ⟨B, 0, none⟩)] 33 (0, 0)) * (Blk P6 (.cells #[.int .i64 most] 3 (0, 0)) * (BookP B n * F)))))))) (RdB (.slice pb b.length cb) b) :=
    (Ent.right _ _).trans ((Ent.right _ _).trans ((Ent.right _ _).trans ((Ent.right _ _).trans ((Ent.right _ _).trans ((Ent.right _ _).trans ((Ent.right _ _).trans ((Ent.right _ _).trans hr)))))))
  have h10 : St w0 (RowO 5 1 (.slice a6 (b.length + 3) c6) (b ++ tail3).length ((b ++ tail3).map bv) * (Blk P12 (.cells #[fnV B3 B5] 63 (0, 0)) * (AllB B3 B5 k vv b * (Blk P10 (.cells #[.slice none 0 0] 34 (0, 0)) * (Blk P9 (.cells #[.bool false] 4 (0, 0)) * (Blk P8 (.cells #[.slice none 0 0] 34 (0, 0)) * (Blk P7 (.cells #[.pointer (some ⟨B, 0, none⟩)] 33 (0, 0)) * (Blk P6 (.cells #[.int .i64 most] 3 (0, 0)) * (BookP B n * F))))))))) w9 := by
    rw [hlen]; exact h9.ac (by ac_rfl)
  rw [F28.t6_eq]
  simp -dsimp -implicitDefEqProofs (disch := omega) only [go_sem, reqD_of, dec_t, dec_f, wrap_i64, wrap_u32, wrap_u64, wrap_u8]
  refine (kept_any h10 hc6 hrest (by omega)).mono ?_
  rintro e w11 ⟨h11, rfl⟩
  have c12 := h11.cl P12
  simp -dsimp -implicitDefEqProofs (disch := omega) only [go_sem, reqD_of, dec_t, dec_f, wrap_i64, wrap_u32, wrap_u64, wrap_u8, c12]
  obtain ⟨fl, fc⟩ := allFrames_facts k b
  have h12 := h11.ent (Ent.sep (Ent.rfl' _) (Ent.sep (Ent.rfl' _) (Ent.sep (Ent.rfl' _) (Ent.sep (Ent.rfl' _) (Ent.sep (Ent.rfl' _) (Ent.sep (Ent.rfl' _) (Ent.sep (Ent.rfl' _) ((Ent.emp _).trans (Ent.sep (Ent.rfl' _) ListP.nil)))))))))
  refine range_intro h12 (gf := 47) (lb := #[.pointer (some ⟨B3, 0, none⟩), .pointer (some ⟨B5, 0, none⟩)]) (by simp -dsimp -implicitDefEqProofs only [go_sem]) fact_fnOk_47 (Pass := PassB)
    (GoJ P6 P7 P10 B n most) (fun cd _ => GoX P6 P7 P10 B n most (allFrames k b) cd) ?_ (goes_round hb hn hm (by simp -dsimp -implicitDefEqProofs only [go_sem]) (by simp -dsimp -implicitDefEqProofs only [go_sem]) (by simp -dsimp -implicitDefEqProofs only [go_sem]))
    (iter_all (n := k) (v := vv) (b := b) (R := Blk P12 (.cells #[fnV B3 B5] 63 (0, 0)) * (Blk P8 (.cells #[.slice none 0 0] 34 (0, 0)) * (Blk P9 (.cells #[.bool false] 4 (0, 0)) * F))) (by omega)) ?_ ?_
  · refine Ent.trans (Ent.of_eq ?_) (Ent.sep ((Ent.fact (show most = 0 ∨ ([] : List (List UInt8)).length < most by simp only [List.length_nil]; omega) _).trans (Ent.ex (fun vw => HP.fact (most = 0 ∨ ([] : List (List UInt8)).length < most) (GoB P6 P7 P10 B (n + ([] : List (List UInt8)).length) most vw [])) (.slice none 0 0))) (Ent.rfl' _))
    simp only [GoB, List.length_nil, Nat.add_zero]
    ac_rfl
  · rintro D xs w13 rfl h13
    obtain ⟨vw, h14⟩ := St.exF (h13.ac (show _ = GoJ P6 P7 P10 B n most (allFrames k b) * (Blk D (.deferred (some [])) * (AllB B3 B5 k vv b * (Blk P12 (.cells #[fnV B3 B5] 63 (0, 0)) * (Blk P8 (.cells #[.slice none 0 0] 34 (0, 0)) * (Blk P9 (.cells #[.bool false] 4 (0, 0)) * F))))) by ac_rfl))
    obtain ⟨hor, h15⟩ := h14.factF
    have hl : goesL most (allFrames k b) = allFrames k b := by
      unfold goesL
      split
      · exact List.take_of_length_le (by omega)
      · rfl
    rw [hl]
    refine goes_14 (θ := ⟨⟩) (P7 := P7) (P8 := P8) (P9 := P9) (P10 := P10) (P12 := P12) (B := B) (B3 := B3) (B5 := B5) (D := D) (n := n + (allFrames k b).length) (k := k) (vv := vv) (vw := vw) (b := b) (l := allFrames k b) (F := Blk P6 (.cells #[.int .i64 most] 3 (0, 0)) * F) hb (by omega) (by simp -dsimp -implicitDefEqProofs only [go_sem]) (by simp -dsimp -implicitDefEqProofs only [go_sem]) (by simp -dsimp -implicitDefEqProofs only [go_sem]) (by simp -dsimp -implicitDefEqProofs only [go_sem]) (by simp -dsimp -implicitDefEqProofs only [go_sem]) (by simp -dsimp -implicitDefEqProofs only [go_sem]) (by simp -dsimp -implicitDefEqProofs only [go_sem]) (h15.ac (by simp only [GoB]; ac_rfl)) ?_
    intro a c n' w16 hn' h16
    exact ⟨a, c, n', by omega, h16.sub, rfl⟩
  · intro D cd pre w13 h13
    obtain ⟨vw, h14⟩ := St.exF (h13.ac (show _ = GoX P6 P7 P10 B n most (allFrames k b) cd * (Blk D (.deferred (some [])) * (AllB B3 B5 k vv b * (Blk P12 (.cells #[fnV B3 B5] 63 (0, 0)) * (Blk P8 (.cells #[.slice none 0 0] 34 (0, 0)) * (Blk P9 (.cells #[.bool false] 4 (0, 0)) * F))))) by ac_rfl))
    obtain ⟨⟨rfl, hm0, hml⟩, h15⟩ := h14.factF
    have hl : goesL most (allFrames k b) = (allFrames k b).take most := by
      unfold goesL
      rw [if_pos hm0]
    rw [hl]
    simp -dsimp -implicitDefEqProofs only [go_sem]
    refine goes_14 (θ := ⟨⟩) (P7 := P7) (P8 := P8) (P9 := P9) (P10 := P10) (P12 := P12) (B := B) (B3 := B3) (B5 := B5) (D := D) (n := n + most) (k := k) (vv := vv) (vw := vw) (b := b) (l := (allFrames k b).take most) (F := Blk P6 (.cells #[.int .i64 most] 3 (0, 0)) * F) hb (by omega) (by simp -dsimp -implicitDefEqProofs only [go_sem]) (by simp -dsimp -implicitDefEqProofs only [go_sem]) (by simp -dsimp -implicitDefEqProofs only [go_sem]) (by simp -dsimp -implicitDefEqProofs only [go_sem]) (by simp -dsimp -implicitDefEqProofs only [go_sem]) (by simp -dsimp -implicitDefEqProofs only [go_sem]) (by simp -dsimp -implicitDefEqProofs only [go_sem]) (h15.ac (by simp only [GoB]; ac_rfl)) ?_
    intro a c n' w16 hn' h16
    exact ⟨a, c, n', by omega, h16.sub, rfl⟩

end
end Go.Proofs.Ytfamclpajjnfbaa

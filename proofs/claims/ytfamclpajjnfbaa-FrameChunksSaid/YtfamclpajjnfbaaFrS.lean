/- The walk of FrameChunks. -/
import Derived.Test.YtfamclpajjnfbaaFrR
namespace Go.Proofs.Ytfamclpajjnfbaa
open Go
set_option linter.unusedSimpArgs false
set_option linter.unusedVariables false
set_option maxRecDepth 100000

section
attribute [local go_sem] F8.t27_eq F8.t24_eq F8.t22_eq F8.t13_eq F8.t14_eq F8.t39_eq F8.t40_eq F8.t47_eq F8.t44_eq F8.t41_eq F8.t35_eq F8.t31_eq F8.t9_eq F8.t3_eq
theorem chunks_any {w0 w : World} (h : St w0 (Old w0) w) {ms : Nat} {vb vc : Value} {b : List UInt8} {cuts : List Int} (hms : ms < 4294967296)
    (hb : Ent (Old w0) (RdB vb b)) (hbl : b.length ≤ 140737488351232) (hc : Ent (Old w0) (rInts.at cuts [vc])) :
    Calls Try.prog 8 #[vb, .int .u32 ms, vc] w fun e w' => St w0 (Old w0) w' ∧ e = .returned (.bool true) := by
  obtain ⟨pc, cc, rfl, hlc, hcm, hlb⟩ := Rdr.slice ((St.start w0).reader hc)
  have hlb : cuts.length * 8 ≤ 140737488351232 := hlb
  obtain ⟨pb, cb, rfl, hcap, _⟩ := (h.ent hb).bytes
  refine F8.calls (by simp) ?_
  unfold F8.code
  by_cases hbig1 : (33554432 : Int) < (b.length : Int)
  · simp -dsimp -implicitDefEqProofs (disch := omega) only [go_sem, reqD_of, dec_t, dec_f, wrap_i64, wrap_u32, wrap_u64, wrap_u8, hbig1]
    exact h
  by_cases hbig2 : (33554432 : Int) < (cuts.length : Int)
  · simp -dsimp -implicitDefEqProofs (disch := omega) only [go_sem, reqD_of, dec_t, dec_f, wrap_i64, wrap_u32, wrap_u64, wrap_u8, hbig1, hbig2]
    exact h
  obtain ⟨L, hL⟩ : ∃ L, L = 7 + ms % 65530 := ⟨_, rfl⟩
  have hLi : (7 : Int) + ((ms % 65530 : Nat) : Int) = (L : Int) := by omega
  have hlim : okLimit L = true := by simp [okLimit]; omega
  simp -dsimp -implicitDefEqProofs (disch := omega) only [go_sem, reqD_of, dec_t, dec_f, wrap_i64, wrap_u32, wrap_u64, wrap_u8, hbig1, hbig2]
  refine (known_any h).mono ?_
  rintro e w1 ⟨h1, rfl⟩
  simp -dsimp -implicitDefEqProofs (disch := omega) only [go_sem, reqD_of, dec_t, dec_f, wrap_i64, wrap_u32, wrap_u64, wrap_u8, tmod65530, hLi]
  refine (newR_yes h1 (n := L) hlim).mono ?_
  rintro e w2 ⟨c, h2, rfl⟩
  simp -dsimp -implicitDefEqProofs (disch := omega) only [go_sem, reqD_of, dec_t, dec_f, wrap_i64, wrap_u32, wrap_u64, wrap_u8, tmod65530, hLi]
  refine (all_any (n := L) h2 ((Ent.right _ _).trans hb) (by omega)).mono ?_
  rintro e w3 ⟨B3, B5, vv, h3, rfl⟩
  simp -dsimp -implicitDefEqProofs (disch := omega) only [go_sem, reqD_of, dec_t, dec_f, wrap_i64, wrap_u32, wrap_u64, wrap_u8]
  have h4 : St w0 (CutR c (RC.new L) * (ListP (.slice none 0 0) [] * (Old w0 * AllB B3 B5 L vv b))) w3 := by
    have := (h3.ent ((Ent.emp _).trans (Ent.sep (Ent.rfl' _) ListP.nil)))
    exact this.ac (by ac_rfl)
  refine loop_intro (fun e w' => ∃ (i at_ : Nat) (vg : Value) (got : List (List UInt8)) (r : RC), ChF e pb b.length cb pc cuts.length cc c (.func (.func 47) #[] #[.pointer (some ⟨B3, 0, none⟩), .pointer (some ⟨B5, 0, none⟩)]) i ∧
      e.ρ 10 = vg ∧ e.ρ 11 = .int .i64 at_ ∧ i + (cuts.length - i) + (b.length - at_) + (b.length - got.length) ≤ cuts.length + 2 * b.length ∧ St w0 (CutR c r * (ListP vg got * (Old w0 * AllB B3 B5 L vv b))) w' ∧ CInv L b got at_ r)
    (fun e _ => match e.ρ 12, e.ρ 11, e.ρ 10 with | .int _ i, .int _ a, .slice _ g _ => (cuts.length - i).toNat + (b.length - a).toNat + (b.length - g) | _, _, _ => 0) ?_ ?_
  · exact ⟨0, 0, .slice none 0 0, [], RC.new L, ⟨rfl, by simp -dsimp -implicitDefEqProofs only [go_sem], by simp -dsimp -implicitDefEqProofs only [go_sem], by simp -dsimp -implicitDefEqProofs only [go_sem], by simp -dsimp -implicitDefEqProofs only [go_sem], by simp -dsimp -implicitDefEqProofs only [go_sem]⟩, by simp -dsimp -implicitDefEqProofs only [go_sem], by simp -dsimp -implicitDefEqProofs only [go_sem], by simp; omega, h4, CInv.new hlim b⟩
  clear h4 h3 h2 h1 h
  rintro e w ⟨i, at_, vg, got, r, ⟨hd, e0, e2, e8, e9, e12⟩, e10, e11, hpot, h, hi⟩
  have hgl := frames_count got hi.frames
  have hlen := hi.len
  have hle := hi.le
  obtain ⟨_, ag, cg, rfl, _, _, _⟩ := ListP.open (h.sw2)
  by_cases hlt : (at_ : Int) < (b.length : Int)
  case neg =>
    simp -dsimp -implicitDefEqProofs (disch := omega) only [go_sem, reqD_of, dec_t, dec_f, wrap_i64, wrap_u32, wrap_u64, wrap_u8, hd, e0, e2, e8, e9, e10, e11, e12, hlt]
    exact chunk_mid (B3 := B3) (B5 := B5) (vv := vv) (vg := .slice ag got.length cg) (M := Old w0) (by omega) hlim hb hcap (Ent.rfl' _) (h.ac (by ac_rfl)) hi (.inl (by omega)) (by simp -dsimp -implicitDefEqProofs only [go_sem, hd]) (by simp -dsimp -implicitDefEqProofs only [go_sem, e0]) (by simp -dsimp -implicitDefEqProofs only [go_sem, e8]) (by simp -dsimp -implicitDefEqProofs only [go_sem, e9]) (by simp -dsimp -implicitDefEqProofs only [go_sem, e10]) (by simp -dsimp -implicitDefEqProofs only [go_sem, e11])
  by_cases hic : (i : Int) < (cuts.length : Int)
  · have hil : i < cuts.length := by omega
    obtain ⟨g, o, rfl, hcb, hcell⟩ := intElem hc hil
    have k0 := hcell _ w (h.ac (show _ = Old w0 * (CutR c r * (ListP (.slice ag got.length cg) got * AllB B3 B5 L vv b)) by ac_rfl))
    have hn1 : (b.length : Int) - (at_ : Int) + 1 = ((b.length - at_ + 1 : Nat) : Int) := by omega
    simp -dsimp -implicitDefEqProofs (disch := omega) only [go_sem, reqD_of, dec_t, dec_f, wrap_i64, wrap_u32, wrap_u64, wrap_u8, hd, e0, e2, e8, e9, e10, e11, e12, hlt, hic, k0, hn1]
    refine (pick_any (w := w) hcb (n := b.length - at_ + 1) (by omega) (by omega)).mono ?_
    rintro e' w' ⟨rfl, rfl⟩
    have hpn := pickN_lt cuts[i] (show 0 < b.length - at_ + 1 by omega)
    simp -dsimp -implicitDefEqProofs (disch := omega) only [go_sem, reqD_of, dec_t, dec_f, wrap_i64, wrap_u32, wrap_u64, wrap_u8, hd, e0, e2, e8, e9, e10, e11, e12, k0]
    refine chunk_step (pc := some ⟨g, o, none⟩) (nc := cuts.length) (cc := cc) (fv := .func (.func 47) #[] #[.pointer (some ⟨B3, 0, none⟩), .pointer (some ⟨B5, 0, none⟩)]) (c := c) (i := i) (n := pickN cuts[i] (b.length - at_ + 1)) (at_ := at_) (late := decide (cuts[i].tmod 3 = 0)) (vg := .slice ag got.length cg) (M := Old w0 * AllB B3 B5 L vv b) (by omega) ((Ent.left _ _).trans hb) hcap ⟨by simp -dsimp -implicitDefEqProofs only [go_sem, hd], by simp -dsimp -implicitDefEqProofs only [go_sem, e0], by simp -dsimp -implicitDefEqProofs only [go_sem, e2], by simp -dsimp -implicitDefEqProofs only [go_sem, e8], by simp -dsimp -implicitDefEqProofs only [go_sem, e9], by simp -dsimp -implicitDefEqProofs only [go_sem, e12]⟩ (by simp -dsimp -implicitDefEqProofs only [go_sem, e10]) (by simp -dsimp -implicitDefEqProofs only [go_sem, e11]) (by simp -dsimp -implicitDefEqProofs only [go_sem]) (by simp -dsimp -implicitDefEqProofs only [go_sem]) (by omega) h hi ?_ ?_
    · intro e' w' got' r' at' vg' hf' g10 g11 hst hi' hle1 hle2 hpr
      obtain ⟨kd, q0, k2, k8, k9, k12⟩ := hf'
      have hgl' := frames_count got' hi'.frames
      have hlen' := hi'.len
      have hle' := hi'.le
      obtain ⟨_, ag', cg', rfl, _, _, _⟩ := ListP.open (hst.sw2)
      constructor
      · simp -dsimp -implicitDefEqProofs (disch := omega) only [go_sem, reqD_of, dec_t, dec_f, wrap_i64, wrap_u32, wrap_u64, wrap_u8, kd, q0, k2, k8, k9, k12, g10, g11, e12, e11, e10]
        exact ⟨⟨i + 1, at', .slice ag' got'.length cg', got', r', ⟨by simp -dsimp -implicitDefEqProofs only [go_sem, kd], by simp -dsimp -implicitDefEqProofs only [go_sem, q0], by simp -dsimp -implicitDefEqProofs only [go_sem, k2], by simp -dsimp -implicitDefEqProofs only [go_sem, k8], by simp -dsimp -implicitDefEqProofs only [go_sem, k9], by simp -dsimp -implicitDefEqProofs only [go_sem]; omega⟩, by simp -dsimp -implicitDefEqProofs only [go_sem, g10], by simp -dsimp -implicitDefEqProofs only [go_sem, g11], by omega, hst, hi'⟩, by omega⟩
      · simp -dsimp -implicitDefEqProofs (disch := omega) only [go_sem, reqD_of, dec_t, dec_f, wrap_i64, wrap_u32, wrap_u64, wrap_u8, kd, q0, k2, k8, k9, k12, g10, g11, e12, e11, e10]
        exact ⟨⟨i + 1, at', .slice ag' got'.length cg', got', r', ⟨by simp -dsimp -implicitDefEqProofs only [go_sem, kd], by simp -dsimp -implicitDefEqProofs only [go_sem, q0], by simp -dsimp -implicitDefEqProofs only [go_sem, k2], by simp -dsimp -implicitDefEqProofs only [go_sem, k8], by simp -dsimp -implicitDefEqProofs only [go_sem, k9], by simp -dsimp -implicitDefEqProofs only [go_sem]; omega⟩, by simp -dsimp -implicitDefEqProofs only [go_sem, g10], by simp -dsimp -implicitDefEqProofs only [go_sem, g11], by omega, hst, hi'⟩, by omega⟩
    · intro e' w' r' at' hf' g10 g11 hst hi' hov
      obtain ⟨kd, q0, k2, k8, k9, k12⟩ := hf'
      simp -dsimp -implicitDefEqProofs (disch := omega) only [go_sem, reqD_of, dec_t, dec_f, wrap_i64, wrap_u32, wrap_u64, wrap_u8, kd, q0, k2, k8, k9, k12, g10, g11]
      exact chunk_mid (B3 := B3) (B5 := B5) (vv := vv) (vg := .slice ag got.length cg) (M := Old w0) (by omega) hlim hb hcap (Ent.rfl' _) (hst.ac (by ac_rfl)) hi' (.inr hov) (by simp -dsimp -implicitDefEqProofs only [go_sem, kd]) (by simp -dsimp -implicitDefEqProofs only [go_sem, q0]) (by simp -dsimp -implicitDefEqProofs only [go_sem, k8]) (by simp -dsimp -implicitDefEqProofs only [go_sem, k9]) (by simp -dsimp -implicitDefEqProofs only [go_sem, g10]) (by simp -dsimp -implicitDefEqProofs only [go_sem, g11])
  · have hn0 : (b.length : Int) - (at_ : Int) = ((b.length - at_ : Nat) : Int) := by omega
    simp -dsimp -implicitDefEqProofs (disch := omega) only [go_sem, reqD_of, dec_t, dec_f, wrap_i64, wrap_u32, wrap_u64, wrap_u8, hd, e0, e2, e8, e9, e10, e11, e12, hlt, hic, hn0]
    refine chunk_step (pc := pc) (nc := cuts.length) (cc := cc) (fv := .func (.func 47) #[] #[.pointer (some ⟨B3, 0, none⟩), .pointer (some ⟨B5, 0, none⟩)]) (c := c) (i := i) (n := b.length - at_) (at_ := at_) (late := false) (vg := .slice ag got.length cg) (M := Old w0 * AllB B3 B5 L vv b) (by omega) ((Ent.left _ _).trans hb) hcap ⟨by simp -dsimp -implicitDefEqProofs only [go_sem, hd], by simp -dsimp -implicitDefEqProofs only [go_sem, e0], by simp -dsimp -implicitDefEqProofs only [go_sem, e2], by simp -dsimp -implicitDefEqProofs only [go_sem, e8], by simp -dsimp -implicitDefEqProofs only [go_sem, e9], by simp -dsimp -implicitDefEqProofs only [go_sem, e12]⟩ (by simp -dsimp -implicitDefEqProofs only [go_sem, e10]) (by simp -dsimp -implicitDefEqProofs only [go_sem, e11]) (by simp -dsimp -implicitDefEqProofs only [go_sem]) (by simp -dsimp -implicitDefEqProofs only [go_sem]) (by omega) h hi ?_ ?_
    · intro e' w' got' r' at' vg' hf' g10 g11 hst hi' hle1 hle2 hpr
      obtain ⟨kd, q0, k2, k8, k9, k12⟩ := hf'
      have hgl' := frames_count got' hi'.frames
      have hlen' := hi'.len
      have hle' := hi'.le
      obtain ⟨_, ag', cg', rfl, _, _, _⟩ := ListP.open (hst.sw2)
      constructor
      · simp -dsimp -implicitDefEqProofs (disch := omega) only [go_sem, reqD_of, dec_t, dec_f, wrap_i64, wrap_u32, wrap_u64, wrap_u8, kd, q0, k2, k8, k9, k12, g10, g11, e12, e11, e10]
        exact ⟨⟨i + 1, at', .slice ag' got'.length cg', got', r', ⟨by simp -dsimp -implicitDefEqProofs only [go_sem, kd], by simp -dsimp -implicitDefEqProofs only [go_sem, q0], by simp -dsimp -implicitDefEqProofs only [go_sem, k2], by simp -dsimp -implicitDefEqProofs only [go_sem, k8], by simp -dsimp -implicitDefEqProofs only [go_sem, k9], by simp -dsimp -implicitDefEqProofs only [go_sem]; omega⟩, by simp -dsimp -implicitDefEqProofs only [go_sem, g10], by simp -dsimp -implicitDefEqProofs only [go_sem, g11], by omega, hst, hi'⟩, by omega⟩
      · simp -dsimp -implicitDefEqProofs (disch := omega) only [go_sem, reqD_of, dec_t, dec_f, wrap_i64, wrap_u32, wrap_u64, wrap_u8, kd, q0, k2, k8, k9, k12, g10, g11, e12, e11, e10]
        exact ⟨⟨i + 1, at', .slice ag' got'.length cg', got', r', ⟨by simp -dsimp -implicitDefEqProofs only [go_sem, kd], by simp -dsimp -implicitDefEqProofs only [go_sem, q0], by simp -dsimp -implicitDefEqProofs only [go_sem, k2], by simp -dsimp -implicitDefEqProofs only [go_sem, k8], by simp -dsimp -implicitDefEqProofs only [go_sem, k9], by simp -dsimp -implicitDefEqProofs only [go_sem]; omega⟩, by simp -dsimp -implicitDefEqProofs only [go_sem, g10], by simp -dsimp -implicitDefEqProofs only [go_sem, g11], by omega, hst, hi'⟩, by omega⟩
    · intro e' w' r' at' hf' g10 g11 hst hi' hov
      obtain ⟨kd, q0, k2, k8, k9, k12⟩ := hf'
      simp -dsimp -implicitDefEqProofs (disch := omega) only [go_sem, reqD_of, dec_t, dec_f, wrap_i64, wrap_u32, wrap_u64, wrap_u8, kd, q0, k2, k8, k9, k12, g10, g11]
      exact chunk_mid (B3 := B3) (B5 := B5) (vv := vv) (vg := .slice ag got.length cg) (M := Old w0) (by omega) hlim hb hcap (Ent.rfl' _) (hst.ac (by ac_rfl)) hi' (.inr hov) (by simp -dsimp -implicitDefEqProofs only [go_sem, kd]) (by simp -dsimp -implicitDefEqProofs only [go_sem, q0]) (by simp -dsimp -implicitDefEqProofs only [go_sem, k8]) (by simp -dsimp -implicitDefEqProofs only [go_sem, k9]) (by simp -dsimp -implicitDefEqProofs only [go_sem, g10]) (by simp -dsimp -implicitDefEqProofs only [go_sem, g11])

end
end Go.Proofs.Ytfamclpajjnfbaa

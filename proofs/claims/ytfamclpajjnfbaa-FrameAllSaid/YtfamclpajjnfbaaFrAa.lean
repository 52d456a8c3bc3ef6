/- The reference's All: the frames of a buffer. -/
import Derived.Test.YtfamclpajjnfbaaFrZ
namespace Go.Proofs.Ytfamclpajjnfbaa
open Go
set_option linter.unusedSimpArgs false
set_option linter.unusedVariables false
set_option maxRecDepth 100000

theorem framesOf_yes {L : Nat} {r : List UInt8} (h : 4 ≤ r.length ∧ 7 ≤ sizeL r ∧ sizeL r ≤ L ∧ sizeL r ≤ r.length) : framesOf L r = r.take (sizeL r) :: framesOf L (r.drop (sizeL r)) := by
  rw [framesOf, dif_pos h]
theorem framesOf_no {L : Nat} {r : List UInt8} (h : ¬ (4 ≤ r.length ∧ 7 ≤ sizeL r ∧ sizeL r ≤ L ∧ sizeL r ≤ r.length)) : framesOf L r = [] := by
  rw [framesOf, dif_neg h]

section
attribute [local go_sem] F27.t8_eq F27.t6_eq F27.t12_eq F27.t4_eq
theorem allRef_any {w0 w : World} {F : HP} {v : Value} {b : List UInt8} {n : Nat} (h : St w0 F w) (ha : Ent F (RdB v b)) (hb : b.length ≤ 33554432) (hn32 : n < 4294967296) :
    Calls Try.prog 27 #[v, .int .u32 n] w fun e w' => ∃ a c, St w0 (ListP (.slice a (allFrames n b).length c) (allFrames n b) * F) w' ∧ e = .returned (.slice a (allFrames n b).length c) := by
  obtain ⟨pb, cb, rfl, hcb, _⟩ := (h.ent ha).bytes
  refine F27.calls (by simp) ?_
  unfold F27.code
  simp -dsimp -implicitDefEqProofs (disch := omega) only [go_sem, reqD_of, dec_t, dec_f, wrap_i64, wrap_u32, wrap_u64, wrap_u8]
  refine (right_any h n).mono ?_
  rintro e w1 ⟨h1, rfl⟩
  have h2 : St w0 (ListP (.slice none 0 0) [] * F) w1 := (h1.ent (Ent.emp _)).ent ((Ent.of_eq (sep_comm _ _)).trans (Ent.sep ListP.nil (Ent.rfl' _)))
  cases hol : okLimit n with
  | false =>
    have e0 : allFrames n b = [] := by unfold allFrames; rw [hol]; rfl
    simp -dsimp -implicitDefEqProofs (disch := omega) only [go_sem, reqD_of, dec_t, dec_f, wrap_i64, wrap_u32, wrap_u64, wrap_u8, hol]
    rw [e0]
    exact ⟨none, 0, h2, rfl, rfl, rfl⟩
  | true =>
    have e0 : allFrames n b = framesOf n b := by unfold allFrames; rw [hol]; rfl
    rw [e0]
    simp -dsimp -implicitDefEqProofs (disch := omega) only [go_sem, reqD_of, dec_t, dec_f, wrap_i64, wrap_u32, wrap_u64, wrap_u8, hol]
    refine loop_intro (fun e w' => e.ds = [] ∧ e.ρ 0 = .slice pb b.length cb ∧ e.ρ 1 = .int .u32 n ∧ ∃ (at_ : Nat) (got : List (List UInt8)) (a : Option Addr) (c : Nat), at_ ≤ b.length ∧ e.ρ 6 = .int .i64 at_ ∧ e.ρ 5 = .slice a got.length c ∧ got.length ≤ at_ ∧ framesOf n b = got ++ framesOf n (b.drop at_) ∧ St w0 (ListP (.slice a got.length c) got * F) w')
      (fun e _ => match e.ρ 6 with | .int _ k => (b.length - k).toNat | _ => 0) ?_ ?_
    · exact ⟨rfl, by simp -dsimp -implicitDefEqProofs only [go_sem], by simp -dsimp -implicitDefEqProofs only [go_sem], 0, [], none, 0, by omega, rfl, by simp -dsimp -implicitDefEqProofs only [go_sem, List.length_nil], by simp, by simp, h2⟩
    · clear h h1 h2
      rintro e w2 ⟨hd, e0', e1, at_, got, a, c, hat, e6, e5, hgot, hfr, h2⟩
      have hdl : (b.drop at_).length = b.length - at_ := by simp
      by_cases h4 : (4 : Int) ≤ (b.length : Int) - at_
      · have hc4 : (at_ : Int) + 4 ≤ cb := by omega
        simp -dsimp -implicitDefEqProofs (disch := omega) only [go_sem, reqD_of, dec_t, dec_f, wrap_i64, wrap_u32, wrap_u64, wrap_u8, hd, e0', e1, e5, e6, h4, hc4]
        have hn4 : ((at_ : Int) + 4).toNat - at_ = 4 := by omega
        rw [hn4]
        have hsub := ha.trans (RdB.sub (a := pb) (c := cb) (lo := at_) (k := 4) (bs := b) (by omega))
        have ht4 : ((b.drop at_).take 4).length = 4 := by simp; omega
        obtain ⟨S, hS⟩ : ∃ S, S = sizeL (b.drop at_) := ⟨_, rfl⟩
        refine (sizeRef_any (bs := (b.drop at_).take 4) h2 ((Ent.right _ _).trans (by rw [← ht4] at hsub; simpa only [ht4] using hsub)) (by omega)).mono ?_
        rintro e' w3 ⟨h3, rfl⟩
        rw [sizeL_take _ (by omega), ← hS]
        have hu1 : IntKind.u64.wrap (n : Int) = n := wrap_u64 (by omega) (by omega)
        have hu2 : IntKind.u64.wrap ((b.length : Int) - at_) = (b.length : Int) - at_ := wrap_u64 (by omega) (by omega)
        have stop : ¬ (4 ≤ (b.drop at_).length ∧ 7 ≤ S ∧ S ≤ n ∧ S ≤ (b.drop at_).length) → St w0 (ListP (.slice a (framesOf n b).length c) (framesOf n b) * F) w3 ∧ got.length = (framesOf n b).length := fun hx => by
          rw [hfr, framesOf_no (L := n) (r := b.drop at_) (by rw [← hS]; exact hx), List.append_nil]
          exact ⟨h3, rfl⟩
        by_cases hS1 : (S : Int) < 7
        · obtain ⟨s1, s2⟩ := stop (by omega)
          simp -dsimp -implicitDefEqProofs (disch := omega) only [go_sem, reqD_of, dec_t, dec_f, wrap_i64, wrap_u32, wrap_u64, wrap_u8, hd, e0', e1, e5, e6, hS1, hu1, hu2, hcb]
          exact ⟨a, c, s1, rfl, s2, rfl⟩
        by_cases hS2 : (n : Int) < S
        · obtain ⟨s1, s2⟩ := stop (by omega)
          simp -dsimp -implicitDefEqProofs (disch := omega) only [go_sem, reqD_of, dec_t, dec_f, wrap_i64, wrap_u32, wrap_u64, wrap_u8, hd, e0', e1, e5, e6, hS1, hS2, hu1, hu2]
          exact ⟨a, c, s1, rfl, s2, rfl⟩
        by_cases hS3 : (b.length : Int) - at_ < S
        · obtain ⟨s1, s2⟩ := stop (by omega)
          simp -dsimp -implicitDefEqProofs (disch := omega) only [go_sem, reqD_of, dec_t, dec_f, wrap_i64, wrap_u32, wrap_u64, wrap_u8, hd, e0', e1, e5, e6, hS1, hS2, hS3, hu1, hu2]
          exact ⟨a, c, s1, rfl, s2, rfl⟩
        have hi64 : IntKind.i64.wrap (S : Int) = S := wrap_i64 (by omega) (by omega)
        have hcS : (at_ : Int) + S ≤ cb := by omega
        simp -dsimp -implicitDefEqProofs (disch := omega) only [go_sem, reqD_of, dec_t, dec_f, wrap_i64, wrap_u32, wrap_u64, wrap_u8, hd, e0', e1, e5, e6, hS1, hS2, hS3, hu1, hu2, hi64, hcS, F27.t8_eq]
        have hnS : ((at_ : Int) + (S : Int)).toNat - at_ = S := by omega
        rw [hnS]
        obtain ⟨fr, hfrr⟩ : ∃ fr, fr = (b.drop at_).take S := ⟨_, rfl⟩
        have hfl : fr.length = S := by rw [hfrr]; simp; omega
        have hsS := ha.trans (RdB.sub (a := pb) (c := cb) (lo := at_) (k := S) (bs := b) (by omega))
        rw [← hfrr] at hsS
        have hstep : framesOf n b = (got ++ [fr]) ++ framesOf n (b.drop (at_ + S)) := by
          rw [hfr, framesOf_yes (L := n) (r := b.drop at_) (by rw [← hS]; omega), ← hS, ← hfrr, List.drop_drop, List.append_assoc]
          rfl
        have h4' := h3.ent (Ent.nilRow 5 1 _)
        refine h4'.append (m := fr.length) (news := fr.map bv) fact_rowTy_35 ((((h4'.right.right).ent hsS).rd).src Try.underlying35 (bv_isCell _) (fun h => by simpa using h)) (show _ ≤ 9223372036854775807 by omega) (by omega) fun v4 w4 h5 => ?_
        simp only [Nat.zero_add, List.nil_append] at h5
        obtain ⟨a4, c4, rfl, _⟩ := Row.form h5
        simp -dsimp -implicitDefEqProofs (disch := omega) only [go_sem, reqD_of, dec_t, dec_f, wrap_i64, wrap_u32, wrap_u64, wrap_u8, hd, e0', e1, e5, e6, hi64]
        refine h5.buildSlice (s := 1) fact_rowTy_34 (cells := [.slice a4 fr.length c4]) rfl (by decide) (by decide) fun v5 w5 h6 => ?_
        simp -dsimp -implicitDefEqProofs (disch := omega) only [go_sem, reqD_of, dec_t, dec_f, wrap_i64, wrap_u32, wrap_u64, wrap_u8, hd, e0', e1, e5, e6, hi64]
        have h7 : St w0 (ListP (.slice a got.length c) got * (Row 35 1 v5 1 [.slice a4 fr.length c4] * (Row 5 1 (.slice a4 fr.length c4) fr.length (fr.map bv) * F))) w5 := h6.sub
        refine ListP.append h7 rfl (by omega) fun a8 c8 w8 h8 => ?_
        simp -dsimp -implicitDefEqProofs (disch := omega) only [go_sem, reqD_of, dec_t, dec_f, wrap_i64, wrap_u32, wrap_u64, wrap_u8, hd, e0', e1, e5, e6, hi64]
        have e3 : (got ++ [fr]).length = got.length + 1 := by simp
        exact ⟨⟨at_ + S, got ++ [fr], a8, c8, by omega, by omega, ⟨rfl, e3.symm, rfl⟩, by omega, hstep, by rw [e3]; exact h8⟩, by omega⟩
      · simp -dsimp -implicitDefEqProofs (disch := omega) only [go_sem, reqD_of, dec_t, dec_f, wrap_i64, wrap_u32, wrap_u64, wrap_u8, hd, e0', e1, e5, e6, h4]
        rw [framesOf_no (L := n) (r := b.drop at_) (by omega), List.append_nil] at hfr
        rw [hfr]
        exact ⟨a, c, h2, rfl, rfl, rfl⟩

end
end Go.Proofs.Ytfamclpajjnfbaa

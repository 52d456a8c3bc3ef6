/- FidsMoved: the whole. -/
import Derived.Test.YtljndiligbaljaaFiQ
namespace Go.Proofs.Ytljndiligbaljaa
open Go
set_option linter.unusedSimpArgs false
set_option linter.unusedVariables false
set_option maxRecDepth 100000

section
attribute [local go_sem] F6.t10_eq F6.t11_eq F6.t18_eq F6.t19_eq F6.t27_eq F6.t28_eq F6.t31_eq F6.t22_eq F6.t12_eq F6.t8_eq F6.t5_eq
theorem moved_12 {w0 w : World} {F : HP} {most : Int} {B U : Nat} {l : TL} {v1 : Value} {R : Ending → World → Prop} {e : FA} {θ : Tag (F6.t12, fnP Try.prog #[.tmp 4] R, e, w)}
    (ht : Tab (sizeN most) l) (hs : K6 e most v1 B U) (h : St w0 (TabP U (sizeN most) [] * (TabP B (sizeN most) l * F)) w)
    (hQ : ∀ w', St w0 F w' → R (.returned (.bool true)) w') :
    cwE Try.prog F6.t12 (fnP Try.prog #[.tmp 4] R) e w θ := by
  have hsz := sizeN_range most
  have hll := sortK_len_le ht hsz.2
  obtain ⟨hd, e0, e1, e5, e7⟩ := hs
  rw [F6.t12_eq]
  have h1 : St w0 (TabP B (sizeN most) l * (TabP U (sizeN most) [] * F)) w := h.ac (by ac_rfl)
  simp -dsimp -implicitDefEqProofs (disch := omega) only [go_sem, reqD_of, dec_t, dec_f, wrap_i64, wrap_u32, wrap_u64, wrap_u8, hd, e0, e1, e5, e7]
  refine (listed_any h1 hll).mono ?_
  rintro e' w1 ⟨va, qa, hqa, h2, rfl⟩
  have h2' : St w0 (TabP B (sizeN most) l * (AtP va qa * (TabP U (sizeN most) [] * F))) w1 := h2.ac (by ac_rfl)
  simp -dsimp -implicitDefEqProofs (disch := omega) only [go_sem, reqD_of, dec_t, dec_f, wrap_i64, wrap_u32, wrap_u64, wrap_u8, hd, e0, e1, e5, e7]
  refine (clear_any h2' hll).mono ?_
  rintro e' w3 ⟨vl, ql, hql, h3, rfl⟩
  have h3' : St w0 (TabP B (sizeN most) [] * (AtP vl ql * (AtP va qa * (TabP U (sizeN most) [] * F)))) w3 := h3.ac (by ac_rfl)
  have la : qa.length = l.length := by rw [← amap_length (fun p : HF => p.2) qa, hqa, sortK_length]
  have ll : ql.length = l.length := by rw [← amap_length (fun p : HF => p.2) ql, hql, sortK_length]
  obtain ⟨a1, c1, rfl⟩ := AtP.form h3
  obtain ⟨a2, c2, rfl⟩ := AtP.form (h3'.right.right)
  simp -dsimp -implicitDefEqProofs (disch := omega) only [go_sem, reqD_of, dec_t, dec_f, wrap_i64, wrap_u32, wrap_u64, wrap_u8, hd, e0, e1, e5, e7]
  refine (count_any h3').mono ?_
  rintro e' w4 ⟨h4, rfl⟩
  have hne : (ql.length : Int) = qa.length := by omega
  have hz : ((([] : TL).length : Nat) : Int) = 0 := rfl
  have h5 : St w0 (TabP U (sizeN most) [] * (AtP (.slice a1 ql.length c1) ql * (AtP (.slice a2 qa.length c2) qa * (TabP B (sizeN most) [] * F)))) w4 := h4.ac (by ac_rfl)
  have Rl := AtP.listR h5.right (by omega)
  simp -dsimp -implicitDefEqProofs (disch := omega) only [go_sem, reqD_of, dec_t, dec_f, wrap_i64, wrap_u32, wrap_u64, wrap_u8, hd, e0, e1, e5, e7, hne, hz]
  refine moved_16 (B := B) (U := U) (most0 := most) (v1 := v1) ht hsz.2 hql Rl ⟨by simp -dsimp -implicitDefEqProofs only [go_sem, hd], by simp -dsimp -implicitDefEqProofs only [go_sem, e0], by simp -dsimp -implicitDefEqProofs only [go_sem, e1], by simp -dsimp -implicitDefEqProofs only [go_sem, e5], by simp -dsimp -implicitDefEqProofs only [go_sem, e7]⟩ (by simp -dsimp -implicitDefEqProofs only [go_sem]; rfl) (by simp -dsimp -implicitDefEqProofs only [go_sem]) h5 ?_
  rintro e w6 θ ⟨hd, e0, e1, e5, e7⟩ e10 e12 h6
  have hsn : (sortK (sortK l)).length = l.length := by rw [sortK_length, sortK_length]
  have hss : sortK (sortK l) = sortK l := sortK_of_perm (sortK_perm ht.nd) ht.nd
  rw [F6.t22_eq]
  simp -dsimp -implicitDefEqProofs (disch := omega) only [go_sem, reqD_of, dec_t, dec_f, wrap_i64, wrap_u32, wrap_u64, wrap_u8, hd, e0, e1, e5, e7, e10, e12]
  refine (listed_any h6 (by rw [sortK_length]; exact hll)).mono ?_
  rintro e' w7 ⟨vb, qb, hqb, h7, rfl⟩
  rw [hss] at hqb
  have lb : qb.length = l.length := by rw [← amap_length (fun p : HF => p.2) qb, hqb, sortK_length]
  obtain ⟨a3, c3, rfl⟩ := AtP.form h7
  have hne2 : (qa.length : Int) = qb.length := by omega
  simp -dsimp -implicitDefEqProofs (disch := omega) only [go_sem, reqD_of, dec_t, dec_f, wrap_i64, wrap_u32, wrap_u64, wrap_u8, hd, e0, e1, e5, e7, e10, e12, hne2]
  have Rb := AtP.listR h7 (by omega)
  have k1 : AtP (.slice a3 qb.length c3) qb * (TabP U (sizeN most) (sortK l) * (AtP (.slice a1 ql.length c1) ql * (AtP (.slice a2 qa.length c2) qa * (TabP B (sizeN most) [] * F)))) = AtP (.slice a1 ql.length c1) ql * (AtP (.slice a3 qb.length c3) qb * (TabP U (sizeN most) (sortK l) * (AtP (.slice a2 qa.length c2) qa * (TabP B (sizeN most) [] * F)))) := by ac_rfl
  have k2 : AtP (.slice a3 qb.length c3) qb * (TabP U (sizeN most) (sortK l) * (AtP (.slice a1 ql.length c1) ql * (AtP (.slice a2 qa.length c2) qa * (TabP B (sizeN most) [] * F)))) = AtP (.slice a2 qa.length c2) qa * (AtP (.slice a1 ql.length c1) ql * (AtP (.slice a3 qb.length c3) qb * (TabP U (sizeN most) (sortK l) * (TabP B (sizeN most) [] * F)))) := by ac_rfl
  have Rl := (AtP.listR (h7.ac k1) (by omega)).under (A := _) (by rw [← k1]; exact Ent.rfl' _)
  have Ra := (AtP.listR (h7.ac k2) (by omega)).under (A := _) (by rw [← k2]; exact Ent.rfl' _)
  refine moved_25 (B := B) (U := U) (most := most) (v1 := v1) Ra Rb Rl (hqa.trans hqb.symm) (hqa.trans hql.symm) ⟨by simp -dsimp -implicitDefEqProofs only [go_sem, hd], by simp -dsimp -implicitDefEqProofs only [go_sem, e0], by simp -dsimp -implicitDefEqProofs only [go_sem, e1], by simp -dsimp -implicitDefEqProofs only [go_sem, e5], by simp -dsimp -implicitDefEqProofs only [go_sem, e7]⟩ (by simp -dsimp -implicitDefEqProofs only [go_sem, e10, hne2]) (by simp -dsimp -implicitDefEqProofs only [go_sem]) (by simp -dsimp -implicitDefEqProofs only [go_sem, e12]) h7 ?_
  intro e' w' hd' e4 h'
  simp -dsimp -implicitDefEqProofs (disch := omega) only [go_sem, reqD_of, dec_t, dec_f, wrap_i64, wrap_u32, wrap_u64, wrap_u8, hd', e4]
  exact hQ _ h'.sub

end
section
attribute [local go_sem] F6.t10_eq F6.t11_eq F6.t18_eq F6.t19_eq F6.t27_eq F6.t28_eq F6.t31_eq F6.t25_eq F6.t22_eq F6.t16_eq F6.t8_eq F6.t5_eq
theorem moved_any {w0 w : World} {F : HP} {most : Int} {v : Value} {ops : List HOp} (h : St w0 F w) (s : ScriptP F v ops) (hm : -9223372036854775808 ≤ most ∧ most < 9223372036854775808) :
    Calls Try.prog 6 #[.int .i64 most, v] w fun e w' => St w0 F w' ∧ e = .returned (.bool true) := by
  have hsz := sizeN_range most
  refine F6.calls (by simp) ?_
  unfold F6.code
  simp -dsimp -implicitDefEqProofs (disch := omega) only [go_sem, reqD_of, dec_t, dec_f, wrap_i64, wrap_u32, wrap_u64, wrap_u8]
  refine (size_any h hm).mono ?_
  rintro e w1 ⟨h1, rfl⟩
  simp -dsimp -implicitDefEqProofs (disch := omega) only [go_sem, reqD_of, dec_t, dec_f, wrap_i64, wrap_u32, wrap_u64, wrap_u8]
  refine (made_any h1 hsz).mono ?_
  rintro e w2 ⟨B, h2, rfl⟩
  simp -dsimp -implicitDefEqProofs (disch := omega) only [go_sem, reqD_of, dec_t, dec_f, wrap_i64, wrap_u32, wrap_u64, wrap_u8]
  refine (beyond_any h2 (s.under (Ent.right _ _))).mono ?_
  rintro e w3 ⟨b, h3, rfl, hfar⟩
  cases b with
  | true =>
    simp -dsimp -implicitDefEqProofs (disch := omega) only [go_sem, reqD_of, dec_t, dec_f, wrap_i64, wrap_u32, wrap_u64, wrap_u8]
    exact h3.right
  | false =>
  have hfar := hfar rfl
  obtain ⟨aS, cs, rfl⟩ := s.form h
  simp -dsimp -implicitDefEqProofs (disch := omega) only [go_sem, reqD_of, dec_t, dec_f, wrap_i64, wrap_u32, wrap_u64, wrap_u8]
  refine (size_any h3 hm).mono ?_
  rintro e w4 ⟨h4, rfl⟩
  simp -dsimp -implicitDefEqProofs (disch := omega) only [go_sem, reqD_of, dec_t, dec_f, wrap_i64, wrap_u32, wrap_u64, wrap_u8]
  refine (new_ok h4 hsz).mono ?_
  rintro e w5 ⟨U, h5, rfl⟩
  simp -dsimp -implicitDefEqProofs (disch := omega) only [go_sem, reqD_of, dec_t, dec_f, wrap_i64, wrap_u32, wrap_u64, wrap_u8]
  refine loop_intro (fun e w' => ∃ (i : Nat) (l : TL), K6 e most (.slice aS ops.length cs) B U ∧ e.ρ 9 = .int .i64 i ∧ i ≤ ops.length ∧ Tab (sizeN most) l ∧ St w0 (TabP U (sizeN most) [] * (TabP B (sizeN most) l * F)) w')
    (fun e _ => match e.ρ 9 with | .int _ n => (ops.length - n).toNat | _ => 0) ?_ ?_
  · exact ⟨0, _, ⟨rfl, by simp -dsimp -implicitDefEqProofs only [go_sem], by simp -dsimp -implicitDefEqProofs only [go_sem], by simp -dsimp -implicitDefEqProofs only [go_sem], by simp -dsimp -implicitDefEqProofs only [go_sem]⟩, by simp -dsimp -implicitDefEqProofs only [go_sem], by omega, tab9 hsz.1, h5⟩
  rintro e w6 ⟨i, l, hs, e9, hi, ht, h6⟩
  have hs' := hs
  obtain ⟨hd, e0, e1, e5, e7⟩ := hs
  have hfew := s.few
  by_cases hlt : (i : Int) < ops.length
  case neg =>
    simp -dsimp -implicitDefEqProofs (disch := omega) only [go_sem, reqD_of, dec_t, dec_f, wrap_i64, wrap_u32, wrap_u64, wrap_u8, hd, e0, e1, e5, e7, e9, hlt]
    exact moved_12 (B := B) (U := U) (v1 := .slice aS ops.length cs) ht ⟨by simp -dsimp -implicitDefEqProofs only [go_sem, hd], by simp -dsimp -implicitDefEqProofs only [go_sem, e0], by simp -dsimp -implicitDefEqProofs only [go_sem, e1], by simp -dsimp -implicitDefEqProofs only [go_sem, e5], by simp -dsimp -implicitDefEqProofs only [go_sem, e7]⟩ h6 fun w' h' => ⟨h', rfl⟩
  by_cases hle : (i : Int) < 300
  case neg =>
    simp -dsimp -implicitDefEqProofs (disch := omega) only [go_sem, reqD_of, dec_t, dec_f, wrap_i64, wrap_u32, wrap_u64, wrap_u8, hd, e0, e1, e5, e7, e9, hlt, hle]
    exact moved_12 (B := B) (U := U) (v1 := .slice aS ops.length cs) ht ⟨by simp -dsimp -implicitDefEqProofs only [go_sem, hd], by simp -dsimp -implicitDefEqProofs only [go_sem, e0], by simp -dsimp -implicitDefEqProofs only [go_sem, e1], by simp -dsimp -implicitDefEqProofs only [go_sem, e5], by simp -dsimp -implicitDefEqProofs only [go_sem, e7]⟩ h6 fun w' h' => ⟨h', rfl⟩
  have hil : i < ops.length := by omega
  have hll := sortK_len_le ht hsz.2
  have h7 : St w0 (TabP B (sizeN most) l * (TabP U (sizeN most) [] * F)) w6 := h6.ac (by ac_rfl)
  obtain ⟨b, o, rfl, hrow⟩ := (s.under ((Ent.right (TabP B (sizeN most) l) _).trans (Ent.right (TabP U (sizeN most) []) _))).at h7 hil
  obtain ⟨x, hx⟩ : ∃ x, x = ops[i] := ⟨_, rfl⟩
  have hmem : x ∈ ops := by rw [hx]; exact List.getElem_mem hil
  rw [← hx] at hrow
  obtain ⟨vo, op⟩ := x
  simp -dsimp -implicitDefEqProofs (disch := omega) only [go_sem, reqD_of, dec_t, dec_f, wrap_i64, wrap_u32, wrap_u64, wrap_u8, hd, e0, e1, e5, e7, e9, hlt, hle, hrow]
  refine (does_any (v := vo) (o := op) h7 (hfar _ hmem) ((Ent.right _ _).trans (s.el _ hmem).2) hll).mono ?_
  rintro e' w8 ⟨u, h8, rfl⟩
  have h9 : St w0 (TabP U (sizeN most) [] * (TabP B (sizeN most) (doesS op (sizeN most) l) * (MayP u (mayL op) * F))) w8 := h8.ac (by ac_rfl)
  have h10 : St w0 (TabP U (sizeN most) [] * (TabP B (sizeN most) (doesS op (sizeN most) l) * F)) w8 := h8.right.ac (by ac_rfl)
  simp -dsimp -implicitDefEqProofs (disch := omega) only [go_sem, reqD_of, dec_t, dec_f, wrap_i64, wrap_u32, wrap_u64, wrap_u8, hd, e0, e1, e5, e7, e9, hlt, hle]
  exact ⟨⟨i + 1, _, ⟨by simp -dsimp -implicitDefEqProofs only [go_sem, hd], by simp -dsimp -implicitDefEqProofs only [go_sem, e0], by simp -dsimp -implicitDefEqProofs only [go_sem, e1], by simp -dsimp -implicitDefEqProofs only [go_sem, e5], by simp -dsimp -implicitDefEqProofs only [go_sem, e7]⟩, rfl, by omega, does_tab ht op, h10⟩, by omega⟩

end
end Go.Proofs.Ytljndiligbaljaa

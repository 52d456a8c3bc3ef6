/- FidsApart: a clone and its origin know nothing of one another. -/
import Derived.Test.YtljndiligbaljaaFiR
namespace Go.Proofs.Ytljndiligbaljaa
open Go
set_option linter.unusedSimpArgs false
set_option linter.unusedVariables false
set_option maxRecDepth 100000

structure K8 (e : FA) (v1 v2 : Value) (B : Nat) : Prop where
  hd : e.ds = []
  e1 : e.ρ 1 = v1
  e2 : e.ρ 2 = v2
  e7 : e.ρ 7 = .pointer (some ⟨B, 0, none⟩)

section
attribute [local go_sem] F8.t10_eq F8.t11_eq F8.t18_eq F8.t19_eq F8.t26_eq F8.t27_eq F8.t30_eq F8.t20_eq F8.t15_eq F8.t12_eq F8.t8_eq F8.t6_eq
theorem apart_24 {w0 w : World} {F : HP} {B : Nat} {qa qb : FPs} {v1 v2 va vb : Value} {Q : Post} {e : FA} {θ : Tag (F8.t24, Q, e, w)}
    (ha : ListR F va qa) (hb : ListR F vb qb) (h1 : amap (·.2) qa = amap (·.2) qb)
    (hs : K8 e v1 v2 B) (e12 : e.ρ 12 = va) (e15 : e.ρ 15 = vb) (h : St w0 F w)
    (hQ : ∀ e' w', e'.ds = [] → e'.ρ 6 = .bool true → St w0 F w' → Q .ret e' w') :
    cwE Try.prog F8.t24 Q e w θ := by
  obtain ⟨hd, e1, e2, e7⟩ := hs
  have lb : qa.length = qb.length := by rw [← amap_length (fun p : HF => p.2) qa, h1, amap_length]
  have hla := ha.len
  obtain ⟨_, a, c, rfl, _, _⟩ := St.rowsAt (k := 15) atC_length (by decide) (h.ent ha.rd)
  obtain ⟨_, a2, c2, rfl, _, _⟩ := St.rowsAt (k := 15) atC_length (by decide) (h.ent hb.rd)
  rw [F8.t24_eq]
  simp -dsimp -implicitDefEqProofs (disch := omega) only [go_sem, reqD_of, dec_t, dec_f, wrap_i64, wrap_u32, wrap_u64, wrap_u8, hd, e1, e2, e7, e12, e15]
  refine loop_intro (fun e w' => K8 e v1 v2 B ∧ e.ρ 12 = .slice a qa.length c ∧ e.ρ 15 = .slice a2 qb.length c2 ∧ ∃ k : Nat, k ≤ qa.length ∧ e.ρ 17 = .int .i64 k ∧ St w0 F w')
    (fun e _ => match e.ρ 17 with | .int _ n => (qa.length - n).toNat | _ => 0) ?_ ?_
  · exact ⟨⟨by simp -dsimp -implicitDefEqProofs only [go_sem, hd], by simp -dsimp -implicitDefEqProofs only [go_sem, e1], by simp -dsimp -implicitDefEqProofs only [go_sem, e2], by simp -dsimp -implicitDefEqProofs only [go_sem, e7]⟩, by simp -dsimp -implicitDefEqProofs only [go_sem, e12], by simp -dsimp -implicitDefEqProofs only [go_sem, e15], 0, by omega, by simp -dsimp -implicitDefEqProofs only [go_sem], h⟩
  rintro e w2 ⟨⟨hd, e1, e2, e7⟩, e12, e15, k, hk, e17, h2'⟩
  by_cases hlt : (k : Int) < qa.length
  case neg =>
    simp -dsimp -implicitDefEqProofs (disch := omega) only [go_sem, reqD_of, dec_t, dec_f, wrap_i64, wrap_u32, wrap_u64, wrap_u8, hd, e1, e2, e7, e12, e15, e17, hlt]
    exact hQ _ _ (by simp -dsimp -implicitDefEqProofs only [go_sem, hd]) (by simp -dsimp -implicitDefEqProofs only [go_sem]) h2'
  have hkl : k < qa.length := by omega
  obtain ⟨n1, n2⟩ := amap_at h1 hkl (by omega)
  have h3 := h2'.drew
  obtain ⟨b1, o1, rfl, r1, c1⟩ := ha.at h3 hkl
  obtain ⟨b2, o2, rfl, r2, c2⟩ := hb.at h3 (k := k) (by omega)
  have hlb : (k : Int) < qb.length := by omega
  simp -dsimp -implicitDefEqProofs (disch := omega) only [go_sem, reqD_of, dec_t, dec_f, wrap_i64, wrap_u32, wrap_u64, wrap_u8, hd, e1, e2, e7, e12, e15, e17, hlt, hlb, r1, r2]
  refine (same_any (p := qa[k].2) (q := qb[k].2) h3 (ha.ok _ (List.getElem_mem _)).1.1 (hb.ok _ (List.getElem_mem _)).1.1 (ha.ok _ (List.getElem_mem _)).2 (hb.ok _ (List.getElem_mem _)).2).mono ?_
  rintro e' w4 ⟨h4, rfl⟩
  have hsame : sameB qa[k].2.2 qb[k].2.2 = true := by rw [n2]; exact sameB_self _
  have h5 := h4.drew
  obtain ⟨b1', o1', hv1, _, c1⟩ := ha.at h5 hkl
  obtain ⟨b2', o2', hv2, _, c2⟩ := hb.at h5 (k := k) (by omega)
  simp only [Option.some.injEq, Addr.mk.injEq, and_true] at hv1 hv2
  obtain ⟨rfl, rfl⟩ := hv1
  obtain ⟨rfl, rfl⟩ := hv2
  rw [← n1] at c2
  simp -dsimp -implicitDefEqProofs (disch := omega) only [go_sem, reqD_of, dec_t, dec_f, wrap_i64, wrap_u32, wrap_u64, wrap_u8, hd, e1, e2, e7, e12, e15, e17, hlt, hlb, hsame, c1, c2]
  exact ⟨⟨⟨by simp -dsimp -implicitDefEqProofs only [go_sem, hd], by simp -dsimp -implicitDefEqProofs only [go_sem, e1], by simp -dsimp -implicitDefEqProofs only [go_sem, e2], by simp -dsimp -implicitDefEqProofs only [go_sem, e7]⟩, k + 1, by omega, rfl, h5⟩, by omega⟩

end
section
attribute [local go_sem] F8.t10_eq F8.t11_eq F8.t18_eq F8.t19_eq F8.t26_eq F8.t27_eq F8.t30_eq F8.t20_eq F8.t15_eq F8.t12_eq F8.t8_eq F8.t6_eq
theorem apart_20 {w0 w : World} {F : HP} {most : Int} {B U : Nat} {l lu : TL} {qa : FPs} {v1 v2 va : Value} {R : Ending → World → Prop} {e : FA} {θ : Tag (F8.t20, fnP Try.prog #[.tmp 6] R, e, w)}
    (ht : Tab most l) (htu : Tab most lu) (hm : most ≤ 256) (hqa : amap (·.2) qa = sortK l) (hs : K8 e v1 v2 B) (e11 : e.ρ 11 = .pointer (some ⟨U, 0, none⟩)) (e12 : e.ρ 12 = va) (e13 : e.ρ 13 = .bool true)
    (h : St w0 (TabP U most lu * (AtP va qa * (TabP B most l * F))) w)
    (hQ : ∀ w', St w0 F w' → R (.returned (.bool true)) w') :
    cwE Try.prog F8.t20 (fnP Try.prog #[.tmp 6] R) e w θ := by
  have hll := sortK_len_le ht hm
  have hllu := sortK_len_le htu hm
  obtain ⟨hd, e1, e2, e7⟩ := hs
  have la : qa.length = l.length := by rw [← amap_length (fun p : HF => p.2) qa, hqa, sortK_length]
  obtain ⟨a2, c2, rfl⟩ := AtP.form h.right
  rw [F8.t20_eq]
  simp -dsimp -implicitDefEqProofs (disch := omega) only [go_sem, reqD_of, dec_t, dec_f, wrap_i64, wrap_u32, wrap_u64, wrap_u8, hd, e1, e2, e7, e11, e12, e13]
  refine (clear_any h hllu).mono ?_
  rintro e' w3 ⟨vl, ql, hql, h3, rfl⟩
  have h4 : St w0 (TabP B most l * (AtP (.slice a2 qa.length c2) qa * (AtP vl ql * (TabP U most [] * F)))) w3 := h3.ac (by ac_rfl)
  simp -dsimp -implicitDefEqProofs (disch := omega) only [go_sem, reqD_of, dec_t, dec_f, wrap_i64, wrap_u32, wrap_u64, wrap_u8, hd, e1, e2, e7, e11, e12, e13]
  refine (listed_any h4 hll).mono ?_
  rintro e' w7 ⟨vb, qb, hqb, h7, rfl⟩
  have lb : qb.length = l.length := by rw [← amap_length (fun p : HF => p.2) qb, hqb, sortK_length]
  obtain ⟨a3, c3, rfl⟩ := AtP.form h7
  have hne2 : (qa.length : Int) = qb.length := by omega
  simp -dsimp -implicitDefEqProofs (disch := omega) only [go_sem, reqD_of, dec_t, dec_f, wrap_i64, wrap_u32, wrap_u64, wrap_u8, hd, e1, e2, e7, e11, e12, e13, hne2]
  have Rb := AtP.listR h7 (by omega)
  have k2 : AtP (.slice a3 qb.length c3) qb * (TabP B most l * (AtP (.slice a2 qa.length c2) qa * (AtP vl ql * (TabP U most [] * F)))) = AtP (.slice a2 qa.length c2) qa * (AtP (.slice a3 qb.length c3) qb * (TabP B most l * (AtP vl ql * (TabP U most [] * F)))) := by ac_rfl
  have Ra := (AtP.listR (h7.ac k2) (by omega)).under (A := _) (by rw [← k2]; exact Ent.rfl' _)
  refine apart_24 (B := B) (v1 := v1) (v2 := v2) Ra Rb (hqa.trans hqb.symm) ⟨by simp -dsimp -implicitDefEqProofs only [go_sem, hd], by simp -dsimp -implicitDefEqProofs only [go_sem, e1], by simp -dsimp -implicitDefEqProofs only [go_sem, e2], by simp -dsimp -implicitDefEqProofs only [go_sem, e7]⟩ (by simp -dsimp -implicitDefEqProofs only [go_sem, e12, hne2]) (by simp -dsimp -implicitDefEqProofs only [go_sem]) h7 ?_
  intro e' w' hd' e6 h'
  simp -dsimp -implicitDefEqProofs (disch := omega) only [go_sem, reqD_of, dec_t, dec_f, wrap_i64, wrap_u32, wrap_u64, wrap_u8, hd', e6]
  exact hQ _ h'.sub

end
section
attribute [local go_sem] F8.t10_eq F8.t11_eq F8.t18_eq F8.t19_eq F8.t26_eq F8.t27_eq F8.t30_eq F8.t24_eq F8.t15_eq F8.t12_eq F8.t8_eq F8.t6_eq
theorem apart_12 {w0 w : World} {F : HP} {most : Int} {B : Nat} {l : TL} {v1 v2 : Value} {ops : List HOp} {R : Ending → World → Prop} {e : FA} {θ : Tag (F8.t12, fnP Try.prog #[.tmp 6] R, e, w)}
    (ht : Tab most l) (hm : most ≤ 256) (s : ScriptP F v2 ops) (hfar : ∀ x ∈ ops, Okf (x.1, x.2.f)) (hs : K8 e v1 v2 B)
    (h : St w0 (TabP B most l * F) w)
    (hQ : ∀ w', St w0 F w' → R (.returned (.bool true)) w') :
    cwE Try.prog F8.t12 (fnP Try.prog #[.tmp 6] R) e w θ := by
  have hll := sortK_len_le ht hm
  obtain ⟨hd, e1, e2, e7⟩ := hs
  obtain ⟨aS, cs, rfl⟩ := s.form h.right
  rw [F8.t12_eq]
  simp -dsimp -implicitDefEqProofs (disch := omega) only [go_sem, reqD_of, dec_t, dec_f, wrap_i64, wrap_u32, wrap_u64, wrap_u8, hd, e1, e2, e7]
  refine (clone_any h).mono ?_
  rintro e' w1 ⟨U, lu, hp, h1, rfl⟩
  have htu := ht.perm hp
  have h2 : St w0 (TabP B most l * (TabP U most lu * F)) w1 := h1.ac (by ac_rfl)
  simp -dsimp -implicitDefEqProofs (disch := omega) only [go_sem, reqD_of, dec_t, dec_f, wrap_i64, wrap_u32, wrap_u64, wrap_u8, hd, e1, e2, e7]
  refine (listed_any h2 hll).mono ?_
  rintro e' w3 ⟨va, qa, hqa, h3, rfl⟩
  have h4 : St w0 (TabP U most lu * (AtP va qa * (TabP B most l * F))) w3 := h3.ac (by ac_rfl)
  simp -dsimp -implicitDefEqProofs (disch := omega) only [go_sem, reqD_of, dec_t, dec_f, wrap_i64, wrap_u32, wrap_u64, wrap_u8, hd, e1, e2, e7]
  refine loop_intro (fun e w' => ∃ (i : Nat) (lu : TL), K8 e v1 (.slice aS ops.length cs) B ∧ e.ρ 11 = .pointer (some ⟨U, 0, none⟩) ∧ e.ρ 12 = va ∧ e.ρ 13 = .bool true ∧ e.ρ 14 = .int .i64 i ∧ i ≤ ops.length ∧ Tab most lu ∧ St w0 (TabP U most lu * (AtP va qa * (TabP B most l * F))) w')
    (fun e _ => match e.ρ 14 with | .int _ n => (ops.length - n).toNat | _ => 0) ?_ ?_
  · exact ⟨0, _, ⟨by simp -dsimp -implicitDefEqProofs only [go_sem, hd], by simp -dsimp -implicitDefEqProofs only [go_sem, e1], by simp -dsimp -implicitDefEqProofs only [go_sem, e2], by simp -dsimp -implicitDefEqProofs only [go_sem, e7]⟩, by simp -dsimp -implicitDefEqProofs only [go_sem], by simp -dsimp -implicitDefEqProofs only [go_sem], by simp -dsimp -implicitDefEqProofs only [go_sem], by simp -dsimp -implicitDefEqProofs only [go_sem], by omega, htu, h4⟩
  clear htu hp h1 h2 h3 h4
  rintro e w6 ⟨i, lu, ⟨hd, e1, e2, e7⟩, e11, e12, e13, e14, hi, htu, h6⟩
  have hfew := s.few
  by_cases hlt : (i : Int) < ops.length
  case neg =>
    simp -dsimp -implicitDefEqProofs (disch := omega) only [go_sem, reqD_of, dec_t, dec_f, wrap_i64, wrap_u32, wrap_u64, wrap_u8, hd, e1, e2, e7, e14, hlt]
    exact apart_20 (B := B) (U := U) (v1 := v1) (v2 := .slice aS ops.length cs) ht htu hm hqa ⟨by simp -dsimp -implicitDefEqProofs only [go_sem, hd], by simp -dsimp -implicitDefEqProofs only [go_sem, e1], by simp -dsimp -implicitDefEqProofs only [go_sem, e2], by simp -dsimp -implicitDefEqProofs only [go_sem, e7]⟩ (by simp -dsimp -implicitDefEqProofs only [go_sem, e11]) (by simp -dsimp -implicitDefEqProofs only [go_sem, e12]) (by simp -dsimp -implicitDefEqProofs only [go_sem, e13]) h6 hQ
  by_cases hle : (i : Int) < 300
  case neg =>
    simp -dsimp -implicitDefEqProofs (disch := omega) only [go_sem, reqD_of, dec_t, dec_f, wrap_i64, wrap_u32, wrap_u64, wrap_u8, hd, e1, e2, e7, e14, hlt, hle]
    exact apart_20 (B := B) (U := U) (v1 := v1) (v2 := .slice aS ops.length cs) ht htu hm hqa ⟨by simp -dsimp -implicitDefEqProofs only [go_sem, hd], by simp -dsimp -implicitDefEqProofs only [go_sem, e1], by simp -dsimp -implicitDefEqProofs only [go_sem, e2], by simp -dsimp -implicitDefEqProofs only [go_sem, e7]⟩ (by simp -dsimp -implicitDefEqProofs only [go_sem, e11]) (by simp -dsimp -implicitDefEqProofs only [go_sem, e12]) (by simp -dsimp -implicitDefEqProofs only [go_sem, e13]) h6 hQ
  have hil : i < ops.length := by omega
  have hllu := sortK_len_le htu hm
  have toF : Ent (AtP va qa * (TabP B most l * F)) F := (Ent.right _ _).trans (Ent.right _ _)
  obtain ⟨b, o, rfl, hrow⟩ := (s.under ((Ent.right (TabP U most lu) _).trans toF)).at h6 hil
  obtain ⟨x, hx⟩ : ∃ x, x = ops[i] := ⟨_, rfl⟩
  have hmem : x ∈ ops := by rw [hx]; exact List.getElem_mem hil
  rw [← hx] at hrow
  obtain ⟨vo, op⟩ := x
  simp -dsimp -implicitDefEqProofs (disch := omega) only [go_sem, reqD_of, dec_t, dec_f, wrap_i64, wrap_u32, wrap_u64, wrap_u8, hd, e1, e2, e7, e11, e14, hlt, hle, hrow]
  refine (does_any (v := vo) (o := op) h6 (hfar _ hmem) (toF.trans (s.el _ hmem).2) hllu).mono ?_
  rintro e' w8 ⟨u, h8, rfl⟩
  simp -dsimp -implicitDefEqProofs (disch := omega) only [go_sem, reqD_of, dec_t, dec_f, wrap_i64, wrap_u32, wrap_u64, wrap_u8, hd, e1, e2, e7, e11, e12, e13, e14, hlt, hle]
  exact ⟨⟨i + 1, _, ⟨by simp -dsimp -implicitDefEqProofs only [go_sem, hd], by simp -dsimp -implicitDefEqProofs only [go_sem, e1], by simp -dsimp -implicitDefEqProofs only [go_sem, e2], by simp -dsimp -implicitDefEqProofs only [go_sem, e7]⟩, rfl, by omega, does_tab htu op, h8.right⟩, by omega⟩

end
section
attribute [local go_sem] F8.t10_eq F8.t11_eq F8.t18_eq F8.t19_eq F8.t26_eq F8.t27_eq F8.t30_eq F8.t24_eq F8.t20_eq F8.t15_eq F8.t8_eq F8.t6_eq
theorem apart_any {w0 w : World} {F : HP} {most : Int} {v v2 : Value} {ops ops2 : List HOp} (h : St w0 F w) (s : ScriptP F v ops) (s2 : ScriptP F v2 ops2) (hm : -9223372036854775808 ≤ most ∧ most < 9223372036854775808) :
    Calls Try.prog 8 #[.int .i64 most, v, v2] w fun e w' => St w0 F w' ∧ e = .returned (.bool true) := by
  have hsz := sizeN_range most
  refine F8.calls (by simp) ?_
  unfold F8.code
  simp -dsimp -implicitDefEqProofs (disch := omega) only [go_sem, reqD_of, dec_t, dec_f, wrap_i64, wrap_u32, wrap_u64, wrap_u8]
  refine (size_any h hm).mono ?_
  rintro e w1 ⟨h1, rfl⟩
  simp -dsimp -implicitDefEqProofs (disch := omega) only [go_sem, reqD_of, dec_t, dec_f, wrap_i64, wrap_u32, wrap_u64, wrap_u8]
  refine (made_any h1 hsz).mono ?_
  rintro e w2 ⟨B, h2, rfl⟩
  simp -dsimp -implicitDefEqProofs (disch := omega) only [go_sem, reqD_of, dec_t, dec_f, wrap_i64, wrap_u32, wrap_u64, wrap_u8]
  refine (beyond_any h2 (s.under (Ent.right _ _))).mono ?_
  rintro e w3 ⟨b, h3, rfl, hfar⟩
  simp -dsimp -implicitDefEqProofs (disch := omega) only [go_sem, reqD_of, dec_t, dec_f, wrap_i64, wrap_u32, wrap_u64, wrap_u8]
  refine (beyond_any h3 (s2.under (Ent.right _ _))).mono ?_
  rintro e w4 ⟨b2, h4, rfl, hfar2⟩
  cases b with
  | true =>
    simp -dsimp -implicitDefEqProofs (disch := omega) only [go_sem, reqD_of, dec_t, dec_f, wrap_i64, wrap_u32, wrap_u64, wrap_u8]
    exact h4.right
  | false =>
  cases b2 with
  | true =>
    simp -dsimp -implicitDefEqProofs (disch := omega) only [go_sem, reqD_of, dec_t, dec_f, wrap_i64, wrap_u32, wrap_u64, wrap_u8]
    exact h4.right
  | false =>
  have hfar := hfar rfl
  have hfar2 := hfar2 rfl
  obtain ⟨aS, cs, rfl⟩ := s.form h
  simp -dsimp -implicitDefEqProofs (disch := omega) only [go_sem, reqD_of, dec_t, dec_f, wrap_i64, wrap_u32, wrap_u64, wrap_u8]
  refine loop_intro (fun e w' => ∃ (i : Nat) (l : TL), K8 e (.slice aS ops.length cs) v2 B ∧ e.ρ 10 = .int .i64 i ∧ i ≤ ops.length ∧ Tab (sizeN most) l ∧ St w0 (TabP B (sizeN most) l * F) w')
    (fun e _ => match e.ρ 10 with | .int _ n => (ops.length - n).toNat | _ => 0) ?_ ?_
  · exact ⟨0, _, ⟨rfl, by simp -dsimp -implicitDefEqProofs only [go_sem], by simp -dsimp -implicitDefEqProofs only [go_sem], by simp -dsimp -implicitDefEqProofs only [go_sem]⟩, by simp -dsimp -implicitDefEqProofs only [go_sem], by omega, tab9 hsz.1, h4⟩
  rintro e w6 ⟨i, l, ⟨hd, e1, e2, e7⟩, e10, hi, ht, h6⟩
  have hfew := s.few
  by_cases hlt : (i : Int) < ops.length
  case neg =>
    simp -dsimp -implicitDefEqProofs (disch := omega) only [go_sem, reqD_of, dec_t, dec_f, wrap_i64, wrap_u32, wrap_u64, wrap_u8, hd, e1, e2, e7, e10, hlt]
    exact apart_12 (B := B) (v1 := .slice aS ops.length cs) ht hsz.2 s2 hfar2 ⟨by simp -dsimp -implicitDefEqProofs only [go_sem, hd], by simp -dsimp -implicitDefEqProofs only [go_sem, e1], by simp -dsimp -implicitDefEqProofs only [go_sem, e2], by simp -dsimp -implicitDefEqProofs only [go_sem, e7]⟩ h6 fun w' h' => ⟨h', rfl⟩
  by_cases hle : (i : Int) < 300
  case neg =>
    simp -dsimp -implicitDefEqProofs (disch := omega) only [go_sem, reqD_of, dec_t, dec_f, wrap_i64, wrap_u32, wrap_u64, wrap_u8, hd, e1, e2, e7, e10, hlt, hle]
    exact apart_12 (B := B) (v1 := .slice aS ops.length cs) ht hsz.2 s2 hfar2 ⟨by simp -dsimp -implicitDefEqProofs only [go_sem, hd], by simp -dsimp -implicitDefEqProofs only [go_sem, e1], by simp -dsimp -implicitDefEqProofs only [go_sem, e2], by simp -dsimp -implicitDefEqProofs only [go_sem, e7]⟩ h6 fun w' h' => ⟨h', rfl⟩
  have hil : i < ops.length := by omega
  have hll := sortK_len_le ht hsz.2
  obtain ⟨b, o, rfl, hrow⟩ := (s.under (Ent.right (TabP B (sizeN most) l) _)).at h6 hil
  obtain ⟨x, hx⟩ : ∃ x, x = ops[i] := ⟨_, rfl⟩
  have hmem : x ∈ ops := by rw [hx]; exact List.getElem_mem hil
  rw [← hx] at hrow
  obtain ⟨vo, op⟩ := x
  simp -dsimp -implicitDefEqProofs (disch := omega) only [go_sem, reqD_of, dec_t, dec_f, wrap_i64, wrap_u32, wrap_u64, wrap_u8, hd, e1, e2, e7, e10, hlt, hle, hrow]
  refine (does_any (v := vo) (o := op) h6 (hfar _ hmem) (s.el _ hmem).2 hll).mono ?_
  rintro e' w8 ⟨u, h8, rfl⟩
  simp -dsimp -implicitDefEqProofs (disch := omega) only [go_sem, reqD_of, dec_t, dec_f, wrap_i64, wrap_u32, wrap_u64, wrap_u8, hd, e1, e2, e7, e10, hlt, hle]
  exact ⟨⟨i + 1, _, ⟨by simp -dsimp -implicitDefEqProofs only [go_sem, hd], by simp -dsimp -implicitDefEqProofs only [go_sem, e1], by simp -dsimp -implicitDefEqProofs only [go_sem, e2], by simp -dsimp -implicitDefEqProofs only [go_sem, e7]⟩, rfl, by omega, does_tab ht op, h8.right⟩, by omega⟩

end
end Go.Proofs.Ytljndiligbaljaa

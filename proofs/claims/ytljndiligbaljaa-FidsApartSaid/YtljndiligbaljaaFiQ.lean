/- FidsMoved: what Clear gives makes another table the same. -/
import Derived.Test.YtljndiligbaljaaFiO
namespace Go.Proofs.Ytljndiligbaljaa
open Go
set_option linter.unusedSimpArgs false
set_option linter.unusedVariables false
set_option maxRecDepth 100000

theorem ListR.at {w0 w : World} {F : HP} {a : Option Addr} {n c : Nat} {qs : FPs} (s : ListR F (.slice a n c) qs) (h : St w0 F w) {k : Nat} (hk : k < qs.length) :
    ∃ b o, a = some ⟨b, o, none⟩ ∧ rowV w ⟨b, o + k * 15 + 1, none⟩ 14 = some (fdV (qs[k]'hk).2) ∧ w.cell? ⟨b, o + k * 15, none⟩ = some (encU (qs[k]'hk).1) := by
  obtain ⟨_, a', c', hv, _, hcl⟩ := St.rowsAt (k := 15) atC_length (by decide) (h.ent s.rd)
  simp only [Value.slice.injEq, true_and] at hv
  obtain ⟨rfl, rfl, rfl⟩ := hv
  obtain ⟨b, o, rfl, _, hcell⟩ := hcl k hk
  refine ⟨b, o, rfl, at_row hcell, ?_⟩
  have c0 := hcell 0 (by decide)
  simpa [atC] using c0

structure K6 (e : FA) (most : Int) (v1 : Value) (B U : Nat) : Prop where
  hd : e.ds = []
  e0 : e.ρ 0 = .int .i64 most
  e1 : e.ρ 1 = v1
  e5 : e.ρ 5 = .pointer (some ⟨B, 0, none⟩)
  e7 : e.ρ 7 = .pointer (some ⟨U, 0, none⟩)

theorem amap_at {qs qb : FPs} (h : amap (fun p : HF => p.2) qs = amap (fun p : HF => p.2) qb) {k : Nat} (hk : k < qs.length) (hb : k < qb.length) : (qs[k]'hk).1 = (qb[k]'hb).1 ∧ (qs[k]'hk).2.2 = (qb[k]'hb).2.2 := by
  have h1 : (amap (fun p : HF => p.2) qs)[k]? = (amap (fun p : HF => p.2) qb)[k]? := by rw [h]
  simp only [amap, List.getElem?_map, List.getElem?_eq_getElem hk, List.getElem?_eq_getElem hb, Option.map_some, Option.some.injEq, Prod.mk.injEq] at h1
  exact h1

section
attribute [local go_sem] F6.t10_eq F6.t11_eq F6.t18_eq F6.t19_eq F6.t27_eq F6.t28_eq F6.t31_eq F6.t22_eq F6.t16_eq F6.t12_eq F6.t8_eq F6.t5_eq
theorem moved_25 {w0 w : World} {F : HP} {most : Int} {B U : Nat} {qa qb ql : FPs} {v1 va vb vl : Value} {Q : Post} {e : FA} {θ : Tag (F6.t25, Q, e, w)}
    (ha : ListR F va qa) (hb : ListR F vb qb) (hl : ListR F vl ql) (h1 : amap (·.2) qa = amap (·.2) qb) (h2 : amap (·.2) qa = amap (·.2) ql)
    (hs : K6 e most v1 B U) (e10 : e.ρ 10 = va) (e14 : e.ρ 14 = vb) (e12 : e.ρ 12 = vl) (h : St w0 F w)
    (hQ : ∀ e' w', e'.ds = [] → e'.ρ 4 = .bool true → St w0 F w' → Q .ret e' w') :
    cwE Try.prog F6.t25 Q e w θ := by
  obtain ⟨hd, e0, e1, e5, e7⟩ := hs
  have lb : qa.length = qb.length := by rw [← amap_length (fun p : HF => p.2) qa, h1, amap_length]
  have ll : qa.length = ql.length := by rw [← amap_length (fun p : HF => p.2) qa, h2, amap_length]
  have hla := ha.len
  obtain ⟨_, a, c, rfl, _, _⟩ := St.rowsAt (k := 15) atC_length (by decide) (h.ent ha.rd)
  obtain ⟨_, a2, c2, rfl, _, _⟩ := St.rowsAt (k := 15) atC_length (by decide) (h.ent hb.rd)
  obtain ⟨_, a3, c3, rfl, _, _⟩ := St.rowsAt (k := 15) atC_length (by decide) (h.ent hl.rd)
  rw [F6.t25_eq]
  simp -dsimp -implicitDefEqProofs (disch := omega) only [go_sem, reqD_of, dec_t, dec_f, wrap_i64, wrap_u32, wrap_u64, wrap_u8, hd, e0, e1, e5, e7, e10, e12, e14]
  refine loop_intro (fun e w' => K6 e most v1 B U ∧ e.ρ 10 = .slice a qa.length c ∧ e.ρ 14 = .slice a2 qb.length c2 ∧ e.ρ 12 = .slice a3 ql.length c3 ∧ ∃ k : Nat, k ≤ qa.length ∧ e.ρ 15 = .int .i64 k ∧ St w0 F w')
    (fun e _ => match e.ρ 15 with | .int _ n => (qa.length - n).toNat | _ => 0) ?_ ?_
  · exact ⟨⟨by simp -dsimp -implicitDefEqProofs only [go_sem, hd], by simp -dsimp -implicitDefEqProofs only [go_sem, e0], by simp -dsimp -implicitDefEqProofs only [go_sem, e1], by simp -dsimp -implicitDefEqProofs only [go_sem, e5], by simp -dsimp -implicitDefEqProofs only [go_sem, e7]⟩, by simp -dsimp -implicitDefEqProofs only [go_sem, e10], by simp -dsimp -implicitDefEqProofs only [go_sem, e14], by simp -dsimp -implicitDefEqProofs only [go_sem, e12], 0, by omega, by simp -dsimp -implicitDefEqProofs only [go_sem], h⟩
  rintro e w2 ⟨⟨hd, e0, e1, e5, e7⟩, e10, e14, e12, k, hk, e15, h2'⟩
  by_cases hlt : (k : Int) < qa.length
  case neg =>
    simp -dsimp -implicitDefEqProofs (disch := omega) only [go_sem, reqD_of, dec_t, dec_f, wrap_i64, wrap_u32, wrap_u64, wrap_u8, hd, e0, e1, e5, e7, e10, e12, e14, e15, hlt]
    exact hQ _ _ (by simp -dsimp -implicitDefEqProofs only [go_sem, hd]) (by simp -dsimp -implicitDefEqProofs only [go_sem]) h2'
  have hkl : k < qa.length := by omega
  obtain ⟨n1, n2⟩ := amap_at h1 hkl (by omega)
  obtain ⟨n3, n4⟩ := amap_at h2 hkl (by omega)
  have h3 := h2'.drew
  obtain ⟨b1, o1, rfl, r1, c1⟩ := ha.at h3 hkl
  obtain ⟨b2, o2, rfl, r2, c2⟩ := hb.at h3 (k := k) (by omega)
  have hlb : (k : Int) < qb.length := by omega
  have hll : (k : Int) < ql.length := by omega
  simp -dsimp -implicitDefEqProofs (disch := omega) only [go_sem, reqD_of, dec_t, dec_f, wrap_i64, wrap_u32, wrap_u64, wrap_u8, hd, e0, e1, e5, e7, e10, e12, e14, e15, hlt, hlb, hll, r1, r2]
  refine (same_any (p := qa[k].2) (q := qb[k].2) h3 (ha.ok _ (List.getElem_mem _)).1.1 (hb.ok _ (List.getElem_mem _)).1.1 (ha.ok _ (List.getElem_mem _)).2 (hb.ok _ (List.getElem_mem _)).2).mono ?_
  rintro e' w4 ⟨h4, rfl⟩
  have hsame : sameB qa[k].2.2 qb[k].2.2 = true := by rw [n2]; exact sameB_self _
  have h5 := h4.drew
  obtain ⟨b1', o1', hv1, _, c1⟩ := ha.at h5 hkl
  obtain ⟨b2', o2', hv2, _, c2⟩ := hb.at h5 (k := k) (by omega)
  obtain ⟨b3, o3, rfl, _, c3⟩ := hl.at h5 (k := k) (by omega)
  simp only [Option.some.injEq, Addr.mk.injEq, and_true] at hv1 hv2
  obtain ⟨rfl, rfl⟩ := hv1
  obtain ⟨rfl, rfl⟩ := hv2
  rw [← n1] at c2
  rw [← n3] at c3
  simp -dsimp -implicitDefEqProofs (disch := omega) only [go_sem, reqD_of, dec_t, dec_f, wrap_i64, wrap_u32, wrap_u64, wrap_u8, hd, e0, e1, e5, e7, e10, e12, e14, e15, hlt, hlb, hll, hsame, c1, c2, c3]
  exact ⟨⟨⟨by simp -dsimp -implicitDefEqProofs only [go_sem, hd], by simp -dsimp -implicitDefEqProofs only [go_sem, e0], by simp -dsimp -implicitDefEqProofs only [go_sem, e1], by simp -dsimp -implicitDefEqProofs only [go_sem, e5], by simp -dsimp -implicitDefEqProofs only [go_sem, e7]⟩, k + 1, by omega, rfl, h5⟩, by omega⟩

end
section
attribute [local go_sem] F6.t10_eq F6.t11_eq F6.t18_eq F6.t19_eq F6.t27_eq F6.t28_eq F6.t31_eq F6.t25_eq F6.t16_eq F6.t12_eq F6.t8_eq F6.t5_eq
theorem moved_16 {w0 w : World} {F : HP} {most most0 : Int} {B U : Nat} {l : TL} {ql : FPs} {v1 va vl : Value} {Q : Post} {e : FA} {θ : Tag (F6.t16, Q, e, w)}
    (ht : Tab most l) (hm : most ≤ 256) (hql : amap (·.2) ql = sortK l) (hl : ListR F vl ql)
    (hs : K6 e most0 v1 B U) (e10 : e.ρ 10 = va) (e12 : e.ρ 12 = vl) (h : St w0 (TabP U most [] * F) w)
    (hQ : ∀ e' w' θ, K6 e' most0 v1 B U → e'.ρ 10 = va → e'.ρ 12 = vl → St w0 (TabP U most (sortK l) * F) w' → cwE Try.prog F6.t22 Q e' w' θ) :
    cwE Try.prog F6.t16 Q e w θ := by
  obtain ⟨hd, e0, e1, e5, e7⟩ := hs
  have ll : ql.length = l.length := by rw [← amap_length (fun p : HF => p.2) ql, hql, sortK_length]
  have hla := hl.len
  obtain ⟨_, a, c, rfl, _, _⟩ := St.rowsAt (k := 15) atC_length (by decide) (h.right.ent hl.rd)
  rw [F6.t16_eq]
  simp -dsimp -implicitDefEqProofs (disch := omega) only [go_sem, reqD_of, dec_t, dec_f, wrap_i64, wrap_u32, wrap_u64, wrap_u8, hd, e0, e1, e5, e7, e10, e12]
  refine loop_intro (fun e w' => K6 e most0 v1 B U ∧ e.ρ 10 = va ∧ e.ρ 12 = .slice a ql.length c ∧ ∃ k : Nat, k ≤ ql.length ∧ e.ρ 13 = .int .i64 k ∧ St w0 (TabP U most ((sortK l).take k) * F) w')
    (fun e _ => match e.ρ 13 with | .int _ n => (ql.length - n).toNat | _ => 0) ?_ ?_
  · exact ⟨⟨by simp -dsimp -implicitDefEqProofs only [go_sem, hd], by simp -dsimp -implicitDefEqProofs only [go_sem, e0], by simp -dsimp -implicitDefEqProofs only [go_sem, e1], by simp -dsimp -implicitDefEqProofs only [go_sem, e5], by simp -dsimp -implicitDefEqProofs only [go_sem, e7]⟩, by simp -dsimp -implicitDefEqProofs only [go_sem, e10], by simp -dsimp -implicitDefEqProofs only [go_sem, e12], 0, by omega, by simp -dsimp -implicitDefEqProofs only [go_sem], h⟩
  rintro e w2 ⟨⟨hd, e0, e1, e5, e7⟩, e10, e12, k, hk, e13, h2⟩
  by_cases hlt : (k : Int) < ql.length
  case neg =>
    have : k = ql.length := by omega
    subst this
    rw [List.take_of_length_le (by rw [sortK_length]; omega)] at h2
    simp -dsimp -implicitDefEqProofs (disch := omega) only [go_sem, reqD_of, dec_t, dec_f, wrap_i64, wrap_u32, wrap_u64, wrap_u8, hd, e0, e1, e5, e7, e10, e12, e13, hlt]
    exact hQ _ _ _ ⟨by simp -dsimp -implicitDefEqProofs only [go_sem, hd], by simp -dsimp -implicitDefEqProofs only [go_sem, e0], by simp -dsimp -implicitDefEqProofs only [go_sem, e1], by simp -dsimp -implicitDefEqProofs only [go_sem, e5], by simp -dsimp -implicitDefEqProofs only [go_sem, e7]⟩ (by simp -dsimp -implicitDefEqProofs only [go_sem, e10]) (by simp -dsimp -implicitDefEqProofs only [go_sem, e12]) h2
  have hkl : k < ql.length := by omega
  have hks : k < (sortK l).length := by rw [sortK_length]; omega
  obtain ⟨g1, g2⟩ := add_take ht hks
  have h3 := h2.drew
  obtain ⟨b1, o1, rfl, r1, c1⟩ := hl.at h3.right hkl
  have hx : (ql[k].1, ql[k].2.2) = (sortK l)[k] := by
    have h1 : (amap (fun p : HF => p.2) ql)[k]? = (sortK l)[k]? := by rw [hql]
    rw [List.getElem?_eq_getElem hks] at h1
    simp only [amap, List.getElem?_map, List.getElem?_eq_getElem hkl, Option.map_some, Option.some.injEq] at h1
    exact h1
  rw [← hx] at g1 g2
  simp only at g1 g2
  simp -dsimp -implicitDefEqProofs (disch := omega) only [go_sem, reqD_of, dec_t, dec_f, wrap_i64, wrap_u32, wrap_u64, wrap_u8, hd, e0, e1, e5, e7, e10, e12, e13, hlt, r1, c1]
  refine (add_any (n := ql[k].1) (p := ql[k].2) h3 (hl.ok _ (List.getElem_mem _)).1 (hl.ok _ (List.getElem_mem _)).2).mono ?_
  rintro e' w4 ⟨h4, rfl⟩
  rw [g2] at h4
  simp -dsimp -implicitDefEqProofs (disch := omega) only [go_sem, reqD_of, dec_t, dec_f, wrap_i64, wrap_u32, wrap_u64, wrap_u8, hd, e0, e1, e5, e7, e10, e12, e13, hlt, g1]
  exact ⟨⟨⟨by simp -dsimp -implicitDefEqProofs only [go_sem, hd], by simp -dsimp -implicitDefEqProofs only [go_sem, e0], by simp -dsimp -implicitDefEqProofs only [go_sem, e1], by simp -dsimp -implicitDefEqProofs only [go_sem, e5], by simp -dsimp -implicitDefEqProofs only [go_sem, e7]⟩, k + 1, by omega, rfl, h4⟩, by omega⟩

end
end Go.Proofs.Ytljndiligbaljaa

/- NamesUnder. -/
import Derived.Test.YtlnlomjdooobdaaDoorNaV
import Derived.Test.YtlnlomjdooobdaaDoorNaR
import Derived.Test.YtlnlomjdooobdaaDoorNlC
namespace Go.Proofs.YtlnlomjdooobdaaDoor
open Go
set_option linter.unusedVariables false
set_option linter.unusedSimpArgs false
set_option maxRecDepth 100000

theorem len_tot : ∀ (ps : List (List UInt8)), ps.length ≤ tot ps
  | [] => by simp [tot]
  | p :: ps => by have := len_tot ps; simp only [tot, List.length_cons]; omega
theorem joinP_len (r : Bool) (ps : List (List UInt8)) : (joinP r ps).length ≤ tot ps + 1 := by
  have := joinL_len ps
  unfold joinP
  split
  · simp; omega
  · split
    · simp
    · omega
theorem tot_filter (f : List UInt8 → Bool) : ∀ (ps : List (List UInt8)), tot (ps.filter f) ≤ (ps.map (·.length)).sum + ps.length
  | [] => by simp [tot]
  | p :: ps => by
    have := tot_filter f ps
    rw [List.filter_cons]
    split
    · simp only [tot, List.map_cons, List.sum_cons, List.length_cons]; omega
    · simp only [List.map_cons, List.sum_cons, List.length_cons]; omega

section
attribute [local go_sem] F8.t13_eq F8.t14_eq F8.t26_eq F8.t23_eq F8.t7_eq F8.t4_eq
theorem namesUnder_tail {w0 w : World} {A : HP} [Gives A Tabs] {c other : List UInt8} {q b : List (List UInt8)} {r : Bool} {u v vq : Value} {P10 : Nat} {e : FA} {R : Ending → World → Prop} {θ : Tag (F8.t18, fnP Tryd.prog #[.tmp 6] R, e, w)}
    (hd : e.ds = []) (e2 : e.ρ 2 = .string (strOf other)) (e8 : e.ρ 8 = .string (strOf c)) (e10 : e.ρ 10 = .pointer (some ⟨P10, 0, none⟩)) (e12 : e.ρ 12 = u) (e13 : e.ρ 13 = v)
    (hok : okC r q) (hc : c = joinP r q) (hb : ∀ p ∈ b, okName p = true) (hT : tot (q ++ b) ≤ 1000000000) (ho : other.length ≤ 268435456)
    (h : St w0 (RowO 9 1 v b.length (b.map sv) * (RowO 9 1 u (q ++ b).length ((q ++ b).map sv) * (Blk P10 (.cells #[.bool r, vq] 26 (0, 0)) * (RowO 9 1 vq q.length (q.map sv) * A)))) w)
    (hQ : ∀ w', St w0 A w' → R (.returned (.bool true)) w') :
    cwE Tryd.prog F8.t18 (fnP Tryd.prog #[.tmp 6] R) e w θ := by
  obtain ⟨au, cu, rfl, _, huc, _⟩ := h.rowForm u
  obtain ⟨av, cv, rfl, _, hvc, _⟩ := h.rowForm v
  obtain ⟨aq, cq, rfl, _, hqc, _⟩ := h.rowForm vq
  have t1 := tot_append q b
  have l1 := len_tot (q ++ b)
  have l2 := len_tot b
  have j1 := joinL_len (q ++ b)
  have j2 := joinL_len b
  have j3 := joinP_len r (q ++ b)
  have j4 := joinP_len r q
  have hcl : c.length ≤ tot q + 1 := hc ▸ j4
  rw [F8.t18_eq]
  have c10 := h.cl P10
  simp -dsimp -implicitDefEqProofs (disch := omega) only [go_sem, reqD_of, dec_t, dec_f, wrap_i64, wrap_u32, wrap_u64, wrap_u8, hd, e2, e8, e10, e12, e13, c10]
  refine onV_of (v := pathV r (.slice au (q ++ b).length cu)) (by kernel_rfl) ?_
  simp -dsimp -implicitDefEqProofs (disch := omega) only [go_sem, reqD_of, dec_t, dec_f, wrap_i64, wrap_u32, wrap_u64, wrap_u8, hd, e2, e8, e10, e12, e13]
  refine (joinP_any h (ps := q ++ b) (v := .slice au (q ++ b).length cu) Gives.ent (by omega) (by omega)).mono ?_
  rintro e' w1 ⟨h1, rfl⟩
  simp -dsimp -implicitDefEqProofs (disch := omega) only [go_sem, reqD_of, dec_t, dec_f, wrap_i64, wrap_u32, wrap_u64, wrap_u8, hd, e2, e8, e10, e12, e13]
  refine (under_any h1 (top := c) (path := joinP r (q ++ b)) (by rw [hc]; omega) (by omega)).mono ?_
  have ub := under_below hok hb
  rw [← hc] at ub
  rintro e' w2 ⟨h2, ⟨s, hs, rfl⟩ | ⟨hs, rfl⟩⟩
  case inr => rw [ub] at hs; cases hs
  rw [ub] at hs
  obtain rfl := Option.some.inj hs
  simp -dsimp -implicitDefEqProofs (disch := omega) only [go_sem, reqD_of, dec_t, dec_f, wrap_i64, wrap_u32, wrap_u64, wrap_u8, hd, e2, e8, e10, e12, e13]
  refine onV_of (v := pathV false (.slice av b.length cv)) (by kernel_rfl) ?_
  simp -dsimp -implicitDefEqProofs (disch := omega) only [go_sem, reqD_of, dec_t, dec_f, wrap_i64, wrap_u32, wrap_u64, wrap_u8, hd, e2, e8, e10, e12, e13]
  refine (joinP_any h2 (ps := b) (v := .slice av b.length cv) Gives.ent (by omega) (by omega)).mono ?_
  rintro e' w3 ⟨h3, rfl⟩
  have dd : decide (joinP false b = joinP false b) = true := decide_eq_true rfl
  simp -dsimp -implicitDefEqProofs (disch := omega) only [go_sem, reqD_of, dec_t, dec_f, wrap_i64, wrap_u32, wrap_u64, wrap_u8, hd, e2, e8, e10, e12, e13, dd]
  refine (under_any h3 (top := c) (path := other) (by rw [hc]; omega) (by omega)).mono ?_
  rintro e' w4 ⟨h4, ⟨t, ht, rfl⟩ | ⟨ht, rfl⟩⟩
  case inr =>
    simp -dsimp -implicitDefEqProofs (disch := omega) only [go_sem, reqD_of, dec_t, dec_f, wrap_i64, wrap_u32, wrap_u64, wrap_u8, hd, e2, e8]
    exact hQ _ h4.right.right.right.right
  rw [hc] at ht
  obtain ⟨k1, k2⟩ := under_back hok ht
  rw [← hc] at k1
  have a1 := binV_sadd (P := Tryd.prog) (T := 9) (a := c) (b := [47]) (by simp; omega)
  have a2 := binV_sadd (P := Tryd.prog) (T := 9) (a := c ++ [47]) (b := t) (by simp; omega)
  have e5 : c ++ [47] ++ t = c ++ 47 :: t := by simp
  simp -dsimp -implicitDefEqProofs (disch := omega) only [go_sem, reqD_of, dec_t, dec_f, wrap_i64, wrap_u32, wrap_u64, wrap_u8, hd, e2, e8, a1, a2, e5]
  refine (clean_any h4 (l := c ++ 47 :: t) (by simp; rw [hc]; omega)).mono ?_
  rintro e' w5 (⟨s, hs, h5, rfl⟩ | ⟨hs, h5, rfl⟩)
  case inr => rw [k1] at hs; cases hs
  rw [k1] at hs
  obtain rfl := Option.some.inj hs
  simp -dsimp -implicitDefEqProofs (disch := omega) only [go_sem, reqD_of, dec_t, dec_f, wrap_i64, wrap_u32, wrap_u64, wrap_u8, hd, e2, e8]
  exact hQ _ h5.right.right.right.right

theorem namesUnder_any {w0 w : World} {A : HP} (h : St w0 A w) [Gives A Tabs] (top other : List UInt8) (ht : top.length ≤ 9223372036854775807) (ho : other.length ≤ 9223372036854775807)
    {r0 : Value} {ls : List (List UInt8)} (hr : Ent A (Reads 1 r0 ls.length (ls.map sv))) (hn : ls.length ≤ 4611686018427387904) (hsl : ∀ s ∈ ls, s.length ≤ 140737488355328) :
    Calls Tryd.prog 8 #[.string (strOf top), r0, .string (strOf other)] w fun e w' => St w0 A w' ∧ e = .returned (.bool true) := by
  obtain ⟨a0, cc0, rfl, _⟩ := readForm h hr
  haveI i0 : Gives A (Reads 1 (.slice a0 ls.length cc0) ls.length (ls.map sv)) := ⟨hr⟩
  refine F8.calls (by simp) ?_
  unfold F8.code
  simp -dsimp -implicitDefEqProofs (disch := omega) only [go_sem, reqD_of, dec_t, dec_f, wrap_i64, wrap_u32, wrap_u64, wrap_u8]
  refine (awake_any h).mono ?_
  rintro e w1 ⟨h1, rfl⟩
  by_cases hb1 : (268435456 : Int) < top.length
  · simp -dsimp -implicitDefEqProofs (disch := omega) only [go_sem, reqD_of, dec_t, dec_f, wrap_i64, wrap_u32, wrap_u64, wrap_u8, hb1]
    exact h1
  by_cases hb2 : (268435456 : Int) < other.length
  · simp -dsimp -implicitDefEqProofs (disch := omega) only [go_sem, reqD_of, dec_t, dec_f, wrap_i64, wrap_u32, wrap_u64, wrap_u8, hb1, hb2]
    exact h1
  simp -dsimp -implicitDefEqProofs (disch := omega) only [go_sem, reqD_of, dec_t, dec_f, wrap_i64, wrap_u32, wrap_u64, wrap_u8, hb1, hb2]
  refine (weight_any h1 hr hn hsl).mono ?_
  rintro e w2 ⟨h2, k, rfl, hk⟩
  by_cases hb3 : (268435456 : Int) < k
  · simp -dsimp -implicitDefEqProofs (disch := omega) only [go_sem, reqD_of, dec_t, dec_f, wrap_i64, wrap_u32, wrap_u64, wrap_u8, hb3]
    exact h2
  have hk := hk (by omega)
  simp -dsimp -implicitDefEqProofs (disch := omega) only [go_sem, reqD_of, dec_t, dec_f, wrap_i64, wrap_u32, wrap_u64, wrap_u8, hb3]
  refine (clean_any h2 (l := top) (by omega)).mono ?_
  rintro e w3 (⟨c, hcs, h3, rfl⟩ | ⟨hcs, h3, rfl⟩)
  case inr =>
    simp -dsimp -implicitDefEqProofs (disch := omega) only [go_sem, reqD_of, dec_t, dec_f, wrap_i64, wrap_u32, wrap_u64, wrap_u8]
    exact h3
  obtain ⟨ps, q, hps, hq, hsj, hok, hsp, hro, hcc⟩ := clean_law hcs
  have sl := (clean_len hcs).1
  have hqs := split_small hsp
  simp -dsimp -implicitDefEqProofs (disch := omega) only [go_sem, reqD_of, dec_t, dec_f, wrap_i64, wrap_u32, wrap_u64, wrap_u8]
  refine (split_any h3 (l := c) (by omega)).mono ?_
  rintro e w4 (⟨q', vq, hx7, h4, rfl⟩ | ⟨hx7, h4, rfl⟩)
  case inr => rw [hsp] at hx7; cases hx7
  obtain rfl : q = q' := Option.some.inj (hsp.symm.trans hx7)
  simp -dsimp -implicitDefEqProofs (disch := omega) only [go_sem, reqD_of, dec_t, dec_f, wrap_i64, wrap_u32, wrap_u64, wrap_u8]
  refine h4.new fun P10 w5 h5 => ?_
  simp -dsimp -implicitDefEqProofs (disch := omega) only [go_sem, reqD_of, dec_t, dec_f, wrap_i64, wrap_u32, wrap_u64, wrap_u8]
  refine h5.stoAll (b := P10) (n := 2) (cs := [.bool (rooted c), vq]) rfl rfl (fun u hu => ?_) fun w6 h6 => ?_
  · obtain ⟨a, c, rfl, _⟩ := h4.rowForm vq
    simp at hu; rcases hu with rfl | rfl <;> rfl
  rw [hro] at h6
  have c10 := h6.cl P10
  obtain ⟨aq, cq, rfl, _, hqc, _⟩ := h6.rowForm vq
  have h6' := h6.nilR 9 1
  simp -dsimp -implicitDefEqProofs (disch := omega) only [go_sem, reqD_of, dec_t, dec_f, wrap_i64, wrap_u32, wrap_u64, wrap_u8, c10]
  refine h6'.appR (v := .slice none 0 0) (x := .slice aq q.length cq) fact_rowTy_24 Tryd.underlying24 (fun u hu => by simp at hu; obtain ⟨x, _, rfl⟩ := hu; rfl) (by intro e; simp at e; simp [e]) (show _ ≤ 9223372036854775807 by omega) (by omega) fun v9 w9 h9 => ?_
  have h9' := h9.nilR 9 1
  simp -dsimp -implicitDefEqProofs (disch := omega) only [go_sem, reqD_of, dec_t, dec_f, wrap_i64, wrap_u32, wrap_u64, wrap_u8]
  refine loop_intro (fun e w' => e.ds = [] ∧ e.ρ 1 = .slice a0 ls.length cc0 ∧ e.ρ 2 = .string (strOf other) ∧ e.ρ 8 = .string (strOf c) ∧ e.ρ 10 = .pointer (some ⟨P10, 0, none⟩) ∧
      ∃ (i : Nat) (u v : Value) (b : List (List UInt8)), i ≤ ls.length ∧ e.ρ 14 = .int .i64 i ∧ e.ρ 12 = u ∧ e.ρ 13 = v ∧ b = (ls.take i).filter okName ∧
        St w0 (RowO 9 1 v b.length (b.map sv) * (RowO 9 1 u (q ++ b).length ((q ++ b).map sv) * (Blk P10 (.cells #[.bool (rooted top), .slice aq q.length cq] 26 (0, 0)) * (RowO 9 1 (.slice aq q.length cq) q.length (q.map sv) * A)))) w')
    (fun e _ => match e.ρ 14 with | .int _ n => (ls.length - n).toNat | _ => 0) ?_ ?_
  · refine ⟨by simp -dsimp -implicitDefEqProofs only [go_sem], by simp -dsimp -implicitDefEqProofs only [go_sem], by simp -dsimp -implicitDefEqProofs only [go_sem], by simp -dsimp -implicitDefEqProofs only [go_sem], by simp -dsimp -implicitDefEqProofs only [go_sem], 0, v9, .slice none 0 0, [], by omega, by simp -dsimp -implicitDefEqProofs only [go_sem], by simp -dsimp -implicitDefEqProofs only [go_sem], by simp -dsimp -implicitDefEqProofs only [go_sem], by simp, ?_⟩
    simp only [Nat.zero_add, List.nil_append] at h9'
    rw [List.append_nil]
    exact h9'
  clear h h1 h2 h3 h4 h5 h6 h6' h9 h9' c10
  rintro e w3 ⟨hd, e1, e2, e8, e10, i, u, v, b, hi, e14, e12, e13, hb, h3⟩
  have hbl : b.length ≤ i := by rw [hb]; exact Nat.le_trans (List.length_filter_le _ _) (by simp; omega)
  obtain ⟨au, cu, rfl, _, huc, _⟩ := h3.rowForm u
  obtain ⟨av, cv, rfl, _, hvc, _⟩ := h3.rowForm v
  by_cases hlt : (i : Int) < ls.length
  case neg =>
    rw [List.take_of_length_le (by omega)] at hb
    have tf := tot_filter okName ls
    rw [← hb] at tf
    have ta := tot_append q b
    simp -dsimp -implicitDefEqProofs (disch := omega) only [go_sem, reqD_of, dec_t, dec_f, wrap_i64, wrap_u32, wrap_u64, wrap_u8, hd, e1, e14, hlt]
    exact namesUnder_tail (other := other) (c := c) (q := q) (b := b) (r := rooted top) (by simp -dsimp -implicitDefEqProofs only [go_sem, hd]) (by simp -dsimp -implicitDefEqProofs only [go_sem, e2]) (by simp -dsimp -implicitDefEqProofs only [go_sem, e8]) (by simp -dsimp -implicitDefEqProofs only [go_sem, e10]) (by simp -dsimp -implicitDefEqProofs only [go_sem, e12]) (by simp -dsimp -implicitDefEqProofs only [go_sem, e13]) hok hsj (fun p hp => by rw [hb] at hp; exact (List.mem_filter.1 hp).2) (by omega) (by omega) h3 fun w' h' => ⟨h', rfl⟩
  have hil : i < ls.length := by omega
  obtain ⟨b0, o0, rfl, c0⟩ := h3.atS (a := a0) (n := ls.length) (c := cc0) (xs := ls.map sv) (k := i) (by simpa using hil)
  simp only [List.getElem_map] at c0
  have hsi := hsl ls[i] (List.getElem_mem hil)
  obtain ⟨s, hs⟩ : ∃ s, s = ls[i] := ⟨_, rfl⟩
  have hnext : (ls.take (i + 1)).filter okName = b ++ (if okName s then [s] else []) := by
    rw [List.take_add_one, List.getElem?_eq_getElem hil, List.filter_append, ← hb, hs]
    simp only [Option.toList_some, List.filter_cons, List.filter_nil]
  rw [← hs] at c0 hsi
  simp -dsimp -implicitDefEqProofs (disch := omega) only [go_sem, reqD_of, dec_t, dec_f, wrap_i64, wrap_u32, wrap_u64, wrap_u8, hd, e1, e14, hlt, c0]
  refine (refCheck_any h3 s (by omega)).mono ?_
  rintro e' w4 ⟨h4, rfl⟩
  obtain ⟨b0', o0', hab, c0'⟩ := h4.atS (a := some ⟨b0, o0, none⟩) (n := ls.length) (c := cc0) (xs := ls.map sv) (k := i) (by simpa using hil)
  obtain ⟨rfl, rfl⟩ : b0 = b0' ∧ o0 = o0' := by cases hab; exact ⟨rfl, rfl⟩
  simp only [List.getElem_map] at c0'
  rw [← hs] at c0'
  cases hok' : okName s
  · rw [hok'] at hnext
    simp -dsimp -implicitDefEqProofs (disch := omega) only [go_sem, reqD_of, dec_t, dec_f, wrap_i64, wrap_u32, wrap_u64, wrap_u8, hd, e1, e2, e8, e10, e14, e12, e13, hlt]
    exact ⟨⟨i + 1, _, _, b, by omega, by omega, rfl, rfl, by simpa using hnext.symm, h4⟩, by omega⟩
  rw [hok'] at hnext
  simp -dsimp -implicitDefEqProofs (disch := omega) only [go_sem, reqD_of, dec_t, dec_f, wrap_i64, wrap_u32, wrap_u64, wrap_u8, hd, e1, e2, e8, e10, e14, e12, e13, hlt, c0']
  have hqb : (q ++ b).length = q.length + b.length := by simp
  refine h4.lit (t := 24) (cells := [sv s]) fact_rowTy_24 rfl (by decide) (by decide) fun v10 w10 h10 => ?_
  obtain ⟨a10, c10, rfl, _⟩ := h10.rowForm v10
  simp -dsimp -implicitDefEqProofs (disch := omega) only [go_sem, reqD_of, dec_t, dec_f, wrap_i64, wrap_u32, wrap_u64, wrap_u8, hd, e1, e2, e8, e10, e14, e12, e13]
  refine h10.appR (v := .slice au (q ++ b).length cu) (x := .slice a10 1 c10) fact_rowTy_24 Tryd.underlying24 (fun u hu => by simp at hu; subst hu; rfl) (by simp) (show _ ≤ 9223372036854775807 by omega) (by omega) fun v11 w11 h11 => ?_
  obtain ⟨a11, c11, rfl, _⟩ := h11.rowForm v11
  obtain ⟨b2, o2, hab2, c2⟩ := h11.atS (a := some ⟨b0, o0, none⟩) (n := ls.length) (c := cc0) (xs := ls.map sv) (k := i) (by simpa using hil)
  obtain ⟨rfl, rfl⟩ : b0 = b2 ∧ o0 = o2 := by cases hab2; exact ⟨rfl, rfl⟩
  simp only [List.getElem_map] at c2
  rw [← hs] at c2
  simp -dsimp -implicitDefEqProofs (disch := omega) only [go_sem, reqD_of, dec_t, dec_f, wrap_i64, wrap_u32, wrap_u64, wrap_u8, hd, e1, e2, e8, e10, e14, e12, e13, c2]
  refine h11.lit (t := 24) (cells := [sv s]) fact_rowTy_24 rfl (by decide) (by decide) fun v12 w12 h12 => ?_
  obtain ⟨a12, c12, rfl, _⟩ := h12.rowForm v12
  simp -dsimp -implicitDefEqProofs (disch := omega) only [go_sem, reqD_of, dec_t, dec_f, wrap_i64, wrap_u32, wrap_u64, wrap_u8, hd, e1, e2, e8, e10, e14, e12, e13]
  refine h12.appR (v := .slice av b.length cv) (x := .slice a12 1 c12) fact_rowTy_24 Tryd.underlying24 (fun u hu => by simp at hu; subst hu; rfl) (by simp) (show _ ≤ 9223372036854775807 by omega) (by omega) fun v13 w13 h13 => ?_
  simp -dsimp -implicitDefEqProofs (disch := omega) only [go_sem, reqD_of, dec_t, dec_f, wrap_i64, wrap_u32, wrap_u64, wrap_u8, hd, e1, e2, e8, e10, e14, e12, e13]
  refine ⟨⟨i + 1, .slice a11 ((q ++ b).length + 1) c11, v13, b ++ [s], by omega, by omega, (by first | rfl | exact ⟨rfl, rfl, rfl⟩ | simp), rfl, by simpa using hnext.symm, ?_⟩, by omega⟩
  rw [← List.append_assoc, show (b ++ [s]).length = b.length + 1 by simp, show (q ++ b ++ [s]).length = (q ++ b).length + 1 by simp; omega, List.map_append, List.map_append (l₁ := q ++ b)]
  exact h13.right.right
end
end Go.Proofs.YtlnlomjdooobdaaDoor

/- TagsNumbers; TagsFlush. -/
import Derived.Test.YteefkhfmpcaccaaTgJ
import Derived.Test.YteefkhfmpcaccaaBel
namespace Go.Proofs.Yteefkhfmpcaccaa
open Go
set_option linter.unusedSimpArgs false
set_option linter.unusedVariables false
set_option maxRecDepth 100000


theorem numbers_any {w0 w : World} {F : HP} (h : St w0 F w) : Calls Try.prog 3 #[] w fun e w' => St w0 F w' ∧ e = .returned (.bool true) := by
  refine F3.calls (by simp) ?_
  unfold F3.code
  simp -dsimp -implicitDefEqProofs (disch := omega) only [go_sem, reqD_of, dec_t, dec_f, wrap_i64, wrap_u32, wrap_u64, wrap_u8]
  refine (begun_any h).mono ?_
  rintro e w1 ⟨W, B, h1, rfl⟩
  simp -dsimp -implicitDefEqProofs (disch := omega) only [go_sem, reqD_of, dec_t, dec_f, wrap_i64, wrap_u32, wrap_u64, wrap_u8]
  exact h1.right

/-- Nothing is open or only decided, of the first k. -/
def Shut (f : Nat → Ab) (k : Nat) : Prop := ∀ j, j < k → (f j).ph ≠ .op ∧ (f j).ph ≠ .de

section
attribute [local go_sem] F4.t6_eq F4.t7_eq F4.t12_eq F4.t13_eq F4.t21_eq F4.t22_eq F4.t30_eq F4.t31_eq F4.t28_eq F4.t26_eq F4.t17_eq F4.t10_eq F4.t4_eq
theorem flush_28 {w0 w : World} {F : HP} {W B n : Nat} {t : TbD} {l : List Thing} {h : List Int} {sd : Int} {f : Nat → Ab} {B' : List Nat} {e : FA} {R : Ending → World → Prop} {θ : Tag (F4.t28, fnP Try.prog #[.tmp 2] R, e, w)}
    (r : RunP t l h sd n f B') (hlt : n < 1000) (hrow : t.row = []) (hs : Shut f n) (hd : e.ds = []) (e3 : e.ρ 3 = .pointer (some ⟨W, 0, none⟩)) (z : St w0 (RnP W B t l h sd * F) w) (hQ : ∀ w', St w0 F w' → R (.returned (.bool true)) w') :
    cwE Try.prog F4.t28 (fnP Try.prog #[.tmp 2] R) e w θ := by
  obtain ⟨hl, hh, hlast⟩ := r.bounds
  obtain ⟨hids, hsd, hwr⟩ := r.atEnd hrow hs
  rw [F4.t28_eq]
  simp -dsimp -implicitDefEqProofs (disch := omega) only [go_sem, reqD_of, dec_t, dec_f, wrap_i64, wrap_u32, wrap_u64, wrap_u8, hd, e3]
  refine loop_intro (fun e w' => e.ds = [] ∧ e.ρ 3 = .pointer (some ⟨W, 0, none⟩) ∧ ∃ k : Nat, k ≤ l.length ∧ e.ρ 13 = .int .i64 k ∧ St w0 (RnP W B t l h sd * F) w') (fun e _ => match e.ρ 13 with | .int _ n => (l.length - n).toNat | _ => 0) ?_ ?_
  · exact ⟨by simp -dsimp -implicitDefEqProofs only [go_sem, hd], by simp -dsimp -implicitDefEqProofs only [go_sem, e3], 0, by omega, by simp -dsimp -implicitDefEqProofs only [go_sem], z⟩
  rintro e w2 ⟨hd, e3, k, hk, e13, z2⟩
  obtain ⟨a1, c1, a2, c2, z3⟩ := RnP.open z2
  have cW := z3.cl W
  by_cases hlt2 : (k : Int) < l.length
  case neg =>
    simp -dsimp -implicitDefEqProofs (disch := omega) only [go_sem, reqD_of, dec_t, dec_f, wrap_i64, wrap_u32, wrap_u64, wrap_u8, hd, e3, e13, cW, hlt2]
    rw [F4.t33_eq]
    simp -dsimp -implicitDefEqProofs (disch := omega) only [go_sem, reqD_of, dec_t, dec_f, wrap_i64, wrap_u32, wrap_u64, wrap_u8, hd, e3, cW]
    refine (rows_none hids (z3.take (.obj B))).mono ?_
    rintro e' w4 ⟨z4, rfl⟩
    have cW := z4.cl W
    simp -dsimp -implicitDefEqProofs (disch := omega) only [go_sem, reqD_of, dec_t, dec_f, wrap_i64, wrap_u32, wrap_u64, wrap_u8, hd, e3, cW]
    refine (waiting_none hrow z4).mono ?_
    rintro e' w5 ⟨z5, rfl⟩
    simp -dsimp -implicitDefEqProofs (disch := omega) only [go_sem, reqD_of, dec_t, dec_f, wrap_i64, wrap_u32, wrap_u64, wrap_u8, hd, e3]
    exact hQ _ z5.sub
  have hkl : k < l.length := by omega
  have z4 := z3.drew
  have cW4 := z4.cl W
  obtain ⟨b, o, rfl, _, ct⟩ := thAt (a := a1) (c := c1) (l := l) z4 hkl
  have hx := hwr k l[k] (List.getElem?_eq_getElem hkl)
  generalize l[k] = X at ct hx
  have ct6 := ct 6 (by decide)
  have ct3 := ct 3 (by decide)
  simp only [thC, List.getElem?_cons_succ, List.getElem?_cons_zero] at ct6 ct3
  have tf : (true == false) = false := rfl
  have ft : (false == true) = false := rfl
  cases hcn : X.cn <;> rw [hcn] at hx ct3 <;> simp only [Bool.not_true, Bool.not_false] at hx <;> rw [hx] at ct6
  all_goals
    simp -dsimp -implicitDefEqProofs (disch := omega) only [go_sem, reqD_of, dec_t, dec_f, wrap_i64, wrap_u32, wrap_u64, wrap_u8, hd, e3, e13, cW, hlt2, cW4, ct6, ct3, tf, ft]
    exact ⟨⟨k + 1, by omega, rfl, z2.drew⟩, by omega⟩

end
section
attribute [local go_sem] F4.t6_eq F4.t7_eq F4.t12_eq F4.t13_eq F4.t21_eq F4.t22_eq F4.t30_eq F4.t31_eq F4.t33_eq F4.t26_eq F4.t17_eq F4.t10_eq F4.t4_eq
theorem flush_17 {w0 w : World} {F : HP} {W B n : Nat} {t : TbD} {l : List Thing} {h : List Int} {sd : Int} {f : Nat → Ab} {B' : List Nat} {e : FA} {R : Ending → World → Prop} {θ : Tag (F4.t17, fnP Try.prog #[.tmp 2] R, e, w)}
    (r : RunP t l h sd n f B') (hlt : n < 900) (hs0 : 0 ≤ sd) (hs1 : sd ≤ 50) (hs : Shut f n) (hd : e.ds = []) (e3 : e.ρ 3 = .pointer (some ⟨W, 0, none⟩)) (z : St w0 (RnP W B t l h sd * F) w) (hQ : ∀ w', St w0 F w' → R (.returned (.bool true)) w') :
    cwE Try.prog F4.t17 (fnP Try.prog #[.tmp 2] R) e w θ := by
  obtain ⟨hl, hh, hlast⟩ := r.bounds
  have hrl := r.row_len
  obtain ⟨a1, c1, a2, c2, z1⟩ := RnP.open z.drew
  have cW := z1.cl W
  rw [F4.t17_eq]
  obtain ⟨most, hmost⟩ : ∃ most : Int, most = l.length + sd + 1 := ⟨_, rfl⟩
  have hmb : most ≤ 2000 := by omega
  simp -dsimp -implicitDefEqProofs (disch := omega) only [go_sem, reqD_of, dec_t, dec_f, wrap_i64, wrap_u32, wrap_u64, wrap_u8, hd, e3, cW]
  rw [← hmost]
  refine loop_intro (fun e w' => e.ds = [] ∧ e.ρ 3 = .pointer (some ⟨W, 0, none⟩) ∧ e.ρ 9 = .int .i64 most ∧ ∃ (i : Nat) (more : Bool) (t : TbD) (l : List Thing) (h : List Int) (sd : Int) (f : Nat → Ab) (B' : List Nat), e.ρ 11 = .int .i64 i ∧ e.ρ 10 = .bool more ∧ RunP t l h sd n f B' ∧ 0 ≤ sd ∧ sd ≤ 50 ∧ Shut f n ∧ (more = true → (i : Int) + t.row.length + 1 ≤ most) ∧ (more = false → t.row = []) ∧ (i : Int) ≤ most ∧ St w0 (RnP W B t l h sd * F) w')
    (fun e _ => match e.ρ 11 with | .int _ n => (most - n).toNat | _ => 0) ?_ ?_
  · exact ⟨by simp -dsimp -implicitDefEqProofs only [go_sem, hd], by simp -dsimp -implicitDefEqProofs only [go_sem, e3], by simp -dsimp -implicitDefEqProofs only [go_sem], 0, true, t, l, h, sd, f, B', by simp -dsimp -implicitDefEqProofs only [go_sem], by simp -dsimp -implicitDefEqProofs only [go_sem], r, hs0, hs1, hs, fun _ => by omega, fun h => (by cases h), by omega, z.drew⟩
  clear hs hs0 hs1 hrl z z1 cW
  rintro e w2 ⟨hd, e3, e9, i, more, t, l, h, sd, f, B', e11, e10, r, hs0, hs1, hs, hm1, hm2, him, z⟩
  cases more with
  | false =>
    have hrow := hm2 rfl
    obtain ⟨hids, hsd, hwr⟩ := r.atEnd hrow hs
    subst hsd
    obtain ⟨a1, c1, a2, c2, z1⟩ := RnP.open z
    have cW := z1.cl W
    by_cases hlt2 : (i : Int) < most
    · simp -dsimp -implicitDefEqProofs (disch := omega) only [go_sem, reqD_of, dec_t, dec_f, wrap_i64, wrap_u32, wrap_u64, wrap_u8, hd, e3, e9, e11, e10, hlt2, cW]
      exact flush_28 (W := W) (B := B) r (by omega) hrow hs (by simp -dsimp -implicitDefEqProofs only [go_sem, hd]) (by simp -dsimp -implicitDefEqProofs only [go_sem, e3]) z hQ
    · simp -dsimp -implicitDefEqProofs (disch := omega) only [go_sem, reqD_of, dec_t, dec_f, wrap_i64, wrap_u32, wrap_u64, wrap_u8, hd, e3, e9, e11, e10, hlt2, cW]
      exact flush_28 (W := W) (B := B) r (by omega) hrow hs (by simp -dsimp -implicitDefEqProofs only [go_sem, hd]) (by simp -dsimp -implicitDefEqProofs only [go_sem, e3]) z hQ
  | true =>
    have hm := hm1 rfl
    have hlt2 : (i : Int) < most := by omega
    simp -dsimp -implicitDefEqProofs (disch := omega) only [go_sem, reqD_of, dec_t, dec_f, wrap_i64, wrap_u32, wrap_u64, wrap_u8, hd, e3, e9, e11, e10, hlt2]
    refine (writes_any r (by omega) hs1 z).mono ?_
    rintro e' w3 (⟨hrow, z3, rfl⟩ | ⟨x, rest, t', l', h', sd', f', B2, hrow, hrow', r', q2, q3, q4, z3, rfl⟩)
    · simp -dsimp -implicitDefEqProofs (disch := omega) only [go_sem, reqD_of, dec_t, dec_f, wrap_i64, wrap_u32, wrap_u64, wrap_u8, hd, e3, e9, e11, e10]
      exact ⟨⟨i + 1, false, t, l, h, sd, f, B', rfl, rfl, r, hs0, hs1, hs, fun h => (by cases h), fun _ => hrow, by omega, z3⟩, by omega⟩
    · have hln : (t.row.length : Int) = rest.length + 1 := by rw [hrow]; simp
      simp -dsimp -implicitDefEqProofs (disch := omega) only [go_sem, reqD_of, dec_t, dec_f, wrap_i64, wrap_u32, wrap_u64, wrap_u8, hd, e3, e9, e11, e10]
      refine ⟨⟨i + 1, true, t', l', h', sd', f', B2, rfl, rfl, r', q2, q3, fun j hj => ?_, fun _ => by rw [hrow']; omega, fun h => (by cases h), by omega, z3⟩, by omega⟩
      refine ⟨fun e => ?_, fun e => ?_⟩
      · rcases q4 j (.inl e) with h | h
        · exact (hs j hj).1 h
        · exact (hs j hj).2 h
      · rcases q4 j (.inr e) with h | h
        · exact (hs j hj).1 h
        · exact (hs j hj).2 h

end
section
attribute [local go_sem] F4.t6_eq F4.t7_eq F4.t12_eq F4.t13_eq F4.t21_eq F4.t22_eq F4.t30_eq F4.t31_eq F4.t33_eq F4.t28_eq F4.t26_eq F4.t10_eq F4.t4_eq
theorem flush_10 {w0 w : World} {F : HP} {W B n : Nat} {e : FA} {R : Ending → World → Prop} {θ : Tag (F4.t10, fnP Try.prog #[.tmp 2] R, e, w)}
    (g : Good w0 F W B n w) (hlt : n < 800) (hd : e.ds = []) (e3 : e.ρ 3 = .pointer (some ⟨W, 0, none⟩)) (hQ : ∀ w', St w0 F w' → R (.returned (.bool true)) w') :
    cwE Try.prog F4.t10 (fnP Try.prog #[.tmp 2] R) e w θ := by
  obtain ⟨t, l, h, sd, m, f, B', r, hm, hs0, hs1, z⟩ := g
  rw [F4.t10_eq]
  simp -dsimp -implicitDefEqProofs (disch := omega) only [go_sem, reqD_of, dec_t, dec_f, wrap_i64, wrap_u32, wrap_u64, wrap_u8, hd, e3]
  refine loop_intro (fun e w' => e.ds = [] ∧ e.ρ 3 = .pointer (some ⟨W, 0, none⟩) ∧ ∃ (k : Nat) (t : TbD) (l : List Thing) (h : List Int) (f : Nat → Ab) (B' : List Nat), k ≤ m ∧ e.ρ 6 = .int .i64 k ∧ RunP t l h sd m f B' ∧ Shut f k ∧ St w0 (RnP W B t l h sd * F) w')
    (fun e _ => match e.ρ 6 with | .int _ n => (m - n).toNat | _ => 0) ?_ ?_
  · exact ⟨by simp -dsimp -implicitDefEqProofs only [go_sem, hd], by simp -dsimp -implicitDefEqProofs only [go_sem, e3], 0, t, l, h, f, B', by omega, by simp -dsimp -implicitDefEqProofs only [go_sem], r, fun j hj => (by omega), z⟩
  clear z
  rintro e w2 ⟨hd, e3, k, t, l, h, f, B', hk, e6, r, hs, z⟩
  obtain ⟨hl, hh, hlast⟩ := r.bounds
  obtain ⟨a1, c1, a2, c2, z1⟩ := RnP.open z
  have cW := z1.cl W
  rw [hl] at cW
  by_cases hlt2 : (k : Int) < m
  case neg =>
    have : k = m := by omega
    subst this
    simp -dsimp -implicitDefEqProofs (disch := omega) only [go_sem, reqD_of, dec_t, dec_f, wrap_i64, wrap_u32, wrap_u64, wrap_u8, hd, e3, e6, cW, hlt2]
    exact flush_17 (W := W) (B := B) r (by omega) hs0 hs1 hs (by simp -dsimp -implicitDefEqProofs only [go_sem, hd]) (by simp -dsimp -implicitDefEqProofs only [go_sem, e3]) z hQ
  simp -dsimp -implicitDefEqProofs (disch := omega) only [go_sem, reqD_of, dec_t, dec_f, wrap_i64, wrap_u32, wrap_u64, wrap_u8, hd, e3, e6, cW, hlt2]
  refine (decides_any (k := k) r (by omega) (by omega) z).mono ?_
  rintro e' w3 ⟨t', l', f', r', p1, p2, z3, rfl⟩
  simp -dsimp -implicitDefEqProofs (disch := omega) only [go_sem, reqD_of, dec_t, dec_f, wrap_i64, wrap_u32, wrap_u64, wrap_u8, hd, e3, e6]
  refine (answers_any (k := k) r' (by omega) (by omega) (by omega) z3).mono ?_
  rintro e' w4 ⟨t2, l2, f2, B2, r2, p3, p4, z4, rfl⟩
  simp -dsimp -implicitDefEqProofs (disch := omega) only [go_sem, reqD_of, dec_t, dec_f, wrap_i64, wrap_u32, wrap_u64, wrap_u8, hd, e3, e6]
  refine ⟨⟨k + 1, t2, l2, h, f2, B2, by omega, rfl, r2, fun j hj => ?_, z4⟩, by omega⟩
  by_cases e : j = k
  · subst e
    refine ⟨fun q => p2 ?_, p4⟩
    rw [← p3 j (.inl q)]; exact q
  · have hjk : j < k := by omega
    refine ⟨fun q => ?_, fun q => ?_⟩
    · have q' := p3 j (.inl q)
      rw [q'] at q
      rcases p1 j (.inl q) with h | h
      · exact (hs j hjk).1 h
      · exact (hs j hjk).2 h
    · have q' := p3 j (.inr q)
      rw [q'] at q
      rcases p1 j (.inr q) with h | h
      · exact (hs j hjk).1 h
      · exact (hs j hjk).2 h

end
section
attribute [local go_sem] F4.t6_eq F4.t7_eq F4.t12_eq F4.t13_eq F4.t21_eq F4.t22_eq F4.t30_eq F4.t31_eq F4.t33_eq F4.t28_eq F4.t26_eq F4.t17_eq F4.t4_eq
theorem tagsFlush_any {w0 w : World} {F : HP} {v : Value} {acs : List ActD} (h : St w0 F w) (hr : Ent F (Reads 3 v acs.length (acs.flatMap acC))) (ha : ∀ a ∈ acs, AcOk a) (hlen : acs.length ≤ 140737488351232) :
    Calls Try.prog 4 #[v] w fun e w' => St w0 F w' ∧ e = .returned (.bool true) := by
  obtain ⟨_, a, c, rfl, _, _⟩ := St.rowsAt (k := 3) acC_length (by decide) (h.ent hr)
  refine F4.calls (by simp) ?_
  unfold F4.code
  simp -dsimp -implicitDefEqProofs (disch := omega) only [go_sem, reqD_of, dec_t, dec_f, wrap_i64, wrap_u32, wrap_u64, wrap_u8]
  refine (begun_any h).mono ?_
  rintro e w1 ⟨W, B, h1, rfl⟩
  simp -dsimp -implicitDefEqProofs (disch := omega) only [go_sem, reqD_of, dec_t, dec_f, wrap_i64, wrap_u32, wrap_u64, wrap_u8]
  refine loop_intro (fun e w' => e.ds = [] ∧ e.ρ 0 = .slice a acs.length c ∧ e.ρ 3 = .pointer (some ⟨W, 0, none⟩) ∧ ∃ i : Nat, i ≤ acs.length ∧ i ≤ 300 ∧ e.ρ 4 = .int .i64 i ∧ Good w0 F W B (i + 1) w')
    (fun e _ => match e.ρ 4 with | .int _ n => (acs.length - n).toNat | _ => 0) ?_ ?_
  · exact ⟨rfl, by simp -dsimp -implicitDefEqProofs only [go_sem], by simp -dsimp -implicitDefEqProofs only [go_sem], 0, by omega, by omega, by simp -dsimp -implicitDefEqProofs only [go_sem], t15, [th15], h15, 0, 1, f15, [0], run15, by omega, by decide, by decide, h1⟩
  rintro e w2 ⟨hd, e0, e3, i, hi, hi3, e4, g⟩
  by_cases hlt : (i : Int) < acs.length
  case neg =>
    simp -dsimp -implicitDefEqProofs (disch := omega) only [go_sem, reqD_of, dec_t, dec_f, wrap_i64, wrap_u32, wrap_u64, wrap_u8, hd, e0, e3, e4, hlt]
    exact flush_10 g (by omega) (by simp -dsimp -implicitDefEqProofs only [go_sem, hd]) (by simp -dsimp -implicitDefEqProofs only [go_sem, e3]) fun w' h' => ⟨h', rfl⟩
  by_cases hle : (i : Int) < 300
  case neg =>
    simp -dsimp -implicitDefEqProofs (disch := omega) only [go_sem, reqD_of, dec_t, dec_f, wrap_i64, wrap_u32, wrap_u64, wrap_u8, hd, e0, e3, e4, hlt, hle]
    exact flush_10 g (by omega) (by simp -dsimp -implicitDefEqProofs only [go_sem, hd]) (by simp -dsimp -implicitDefEqProofs only [go_sem, e3]) fun w' h' => ⟨h', rfl⟩
  have hil : i < acs.length := by omega
  have g0 := g
  obtain ⟨t, l, h', sd, m, f, B', r, hm, hs0, hs1, z⟩ := g0
  obtain ⟨_, a', c', hv, _, hcl⟩ := St.rowsAt (k := 3) acC_length (by decide) (z.right.ent hr)
  simp only [Value.slice.injEq, true_and] at hv
  obtain ⟨rfl, rfl⟩ := hv
  obtain ⟨b, o, rfl, hrow, _⟩ := hcl i hil
  simp -dsimp -implicitDefEqProofs (disch := omega) only [go_sem, reqD_of, dec_t, dec_f, wrap_i64, wrap_u32, wrap_u64, wrap_u8, hd, e0, e3, e4, hlt, hle, hrow]
  refine (act_any (a := acs[i]) (by omega) (ha _ (List.getElem_mem hil)) g).mono ?_
  rintro e' w3 ⟨g3, rfl⟩
  simp -dsimp -implicitDefEqProofs (disch := omega) only [go_sem, reqD_of, dec_t, dec_f, wrap_i64, wrap_u32, wrap_u64, wrap_u8, hd, e0, e3, e4]
  exact ⟨⟨i + 1, by omega, by omega, rfl, g3⟩, by omega⟩

end
end Go.Proofs.Yteefkhfmpcaccaa

/- The tags statements: pick, act. -/
import Derived.Test.YteefkhfmpcaccaaTgH
namespace Go.Proofs.Yteefkhfmpcaccaa
open Go
set_option linter.unusedSimpArgs false
set_option linter.unusedVariables false
set_option maxRecDepth 100000

section
attribute [local go_sem] F26.t3_eq
theorem pick_any {w0 w : World} {F : HP} {c n : Int} (h : St w0 F w) (hc : -9223372036854775808 ≤ c ∧ c < 9223372036854775808) (hn : 0 < n) (hn2 : n < 1000000) : Calls Try.prog 26 #[.int .i64 c, .int .i64 n] w fun e w' => St w0 F w' ∧ e = .returned (.int .i64 (pickI c n)) := by
  refine F26.calls (by simp) ?_
  unfold F26.code
  have hn0 : ¬ n = 0 := by omega
  by_cases hneg : c < 0
  · have e : pickI c n = (-(c + 1)).tmod n := by unfold pickI; rw [if_pos hneg]
    rw [e]
    simp -dsimp -implicitDefEqProofs (disch := omega) only [go_sem, reqD_of, dec_t, dec_f, wrap_i64, wrap_u32, wrap_u64, wrap_u8, hneg, hn0]
    exact ⟨h, by rw [Int.zero_sub]⟩
  · have e : pickI c n = c.tmod n := by unfold pickI; rw [if_neg hneg]
    rw [e]
    simp -dsimp -implicitDefEqProofs (disch := omega) only [go_sem, reqD_of, dec_t, dec_f, wrap_i64, wrap_u32, wrap_u64, wrap_u8, hneg, hn0]
    exact h

structure ActD where
  what : Int
  tag : Int
  which : Int
def acC (a : ActD) : List Value := [.int .i64 a.what, .int .i64 a.tag, .int .i64 a.which]
theorem acC_length (a : ActD) : (acC a).length = 3 := rfl
def InI (c : Int) : Prop := -9223372036854775808 ≤ c ∧ c < 9223372036854775808
structure AcOk (a : ActD) : Prop where
  h1 : InI a.what
  h2 : InI a.tag
  h3 : InI a.which
/-- A run, as it must be, in memory. -/
def Good (w0 : World) (F : HP) (W B : Nat) (n : Nat) (w : World) : Prop := ∃ t l h sd m f B', RunP t l h sd m f B' ∧ m ≤ n ∧ 0 ≤ sd ∧ sd ≤ 50 ∧ St w0 (RnP W B t l h sd * F) w

theorem writes_any {w0 w : World} {F : HP} {W B : Nat} {t : TbD} {l : List Thing} {h : List Int} {sd : Int} {n : Nat} {f : Nat → Ab} {B' : List Nat} (r : RunP t l h sd n f B') (hlt : n < 1000) (hsd : sd ≤ 50) (z : St w0 (RnP W B t l h sd * F) w) :
    Calls Try.prog 11 #[.pointer (some ⟨W, 0, none⟩)] w fun e w' => (t.row = [] ∧ St w0 (RnP W B t l h sd * F) w' ∧ e = .returned (.tuple #[.bool false, .bool true])) ∨
      (∃ x rest t' l' h' sd' f' B'', t.row = x :: rest ∧ t'.row = rest ∧ RunP t' l' h' sd' n f' B'' ∧ 0 ≤ sd' ∧ sd' ≤ 50 ∧ (∀ j, (f' j).ph = .op ∨ (f' j).ph = .de → (f j).ph = .op ∨ (f j).ph = .de) ∧ St w0 (RnP W B t' l' h' sd' * F) w' ∧ e = .returned (.tuple #[.bool true, .bool true])) := by
  have hrl := r.row_len
  have hs0 : 0 ≤ sd := by rw [r.sd]; exact Int.natCast_nonneg _
  cases hr : t.row with
  | nil => exact (writes_none hr z).mono fun e w' ⟨a, b⟩ => .inl ⟨rfl, a, b⟩
  | cons x rest =>
    cases hx : x.fr with
    | false =>
      obtain ⟨rfl, r2⟩ := r.said hr hx
      have hs2 : 0 ≤ sd - 1 := by rw [r2.sd]; exact Int.natCast_nonneg _
      exact (writes_said (by omega) ⟨by omega, by omega⟩ hr z).mono fun e w' ⟨a, b⟩ => .inr ⟨_, rest, _, _, _, _, f, B', rfl, popS_row _ _ _, r2, hs2, by omega, fun _ h => h, a, b⟩
    | true =>
      exact (writes_thing r hlt (by omega) hr hx z).mono fun e w' ⟨t', l', h', f', B2, a, b, c, d, e'⟩ => .inr ⟨x, rest, t', l', h', sd, f', B2, rfl, b, a, hs0, hsd, c, d, e'⟩

theorem RunP.says {t : TbD} {l : List Thing} {h : List Int} {sd : Int} {n : Nat} {f : Nat → Ab} {B' : List Nat} (r : RunP t l h sd n f B') : RunP { t with row := t.row ++ [⟨saidM, 1001, false⟩] } l h (sd + 1) n f B' := by
  have h1 := r.rl.push (x := ⟨saidM, 1001, false⟩) ⟨fun h => (by cases h), fun _ => rfl⟩
  have e : (repIx ⟨saidM, 1001, false⟩).toList = [] := rfl
  rw [e, List.append_nil] at h1
  refine ⟨r.ai, h1, r.lr, ?_, r.n1, r.few⟩
  rw [r.sd]
  simp [List.filter_append]

end
section
attribute [local go_sem] F8.t19_eq F8.t16_eq F8.t13_eq F8.t10_eq F8.t7_eq F8.t24_eq
theorem act_21 {w0 w : World} {F : HP} {W B n m : Nat} {t : TbD} {l : List Thing} {h : List Int} {sd : Int} {f : Nat → Ab} {B' : List Nat} {e : FA} {R : Ending → World → Prop} {θ : Tag (F8.t21, fnP Try.prog #[.tmp 4] R, e, w)}
    (hlt : n < 1000) (r : RunP t l h sd m f B') (hm : m ≤ n) (hs0 : 0 ≤ sd) (hs1 : sd ≤ 50) (hd : e.ds = []) (e0 : e.ρ 0 = .pointer (some ⟨W, 0, none⟩)) (z : St w0 (RnP W B t l h sd * F) w) (hQ : ∀ w', Good w0 F W B n w' → R (.returned (.bool true)) w') :
    cwE Try.prog F8.t21 (fnP Try.prog #[.tmp 4] R) e w θ := by
  have hrl := r.row_len
  obtain ⟨a1, c1, a2, c2, z1⟩ := RnP.open z
  have cW := z1.cl W
  rw [F8.t21_eq]
  by_cases hlt2 : sd < 50
  case neg =>
    simp -dsimp -implicitDefEqProofs (disch := omega) only [go_sem, reqD_of, dec_t, dec_f, wrap_i64, wrap_u32, wrap_u64, wrap_u8, hd, e0, cW, hlt2]
    exact hQ _ ⟨t, l, h, sd, m, f, B', r, hm, hs0, hs1, z⟩
  simp -dsimp -implicitDefEqProofs (disch := omega) only [go_sem, reqD_of, dec_t, dec_f, wrap_i64, wrap_u32, wrap_u64, wrap_u8, hd, e0, cW, hlt2]
  refine onV_of (v := msgV saidM) rfl ?_
  simp -dsimp -implicitDefEqProofs (disch := omega) only [go_sem, reqD_of, dec_t, dec_f, wrap_i64, wrap_u32, wrap_u64, wrap_u8]
  refine (say_any (m := saidM) (by omega) (z1.take (.obj B))).mono ?_
  rintro e' w2 ⟨z2, rfl⟩
  have cW := z2.cl W
  simp -dsimp -implicitDefEqProofs (disch := omega) only [go_sem, reqD_of, dec_t, dec_f, wrap_i64, wrap_u32, wrap_u64, wrap_u8, hd, e0, cW]
  refine z2.sto (b := W) (off := 3) (by simp) rfl fun w3 z3 => ?_
  simp -dsimp -implicitDefEqProofs (disch := omega) only [go_sem, reqD_of, dec_t, dec_f, wrap_i64, wrap_u32, wrap_u64, wrap_u8, hd, e0]
  have z4 : St w0 (Blk W (rnB B (.slice a1 l.length c1) (.slice a2 h.length c2) (sd + 1)) * (RowO 39 7 (.slice a1 l.length c1) l.length (l.flatMap thC) * (RowO 3 1 (.slice a2 h.length c2) h.length (intR h) * (TbP B { t with row := t.row ++ [⟨saidM, 1001, false⟩] } * F)))) w3 := by
    simp only [List.setIfInBounds_toArray, List.set_cons_succ, List.set_cons_zero] at z3
    exact z3.sub
  have z5 := RnP.col (W := W) (B := B) (l := l) (h := h) (sd := sd + 1) (t := { t with row := t.row ++ [⟨saidM, 1001, false⟩] }) (n1 := l.length) (n2 := h.length) (v1 := .slice a1 l.length c1) (v2 := .slice a2 h.length c2) z4 rfl rfl
  exact hQ _ ⟨_, l, h, sd + 1, m, f, B', r.says, hm, by omega, by omega, z5⟩

end
section
attribute [local go_sem] F8.t19_eq F8.t16_eq F8.t13_eq F8.t10_eq F8.t7_eq F8.t24_eq
theorem act_any {w0 w : World} {F : HP} {W B n : Nat} {a : ActD} (hlt : n < 900) (ha : AcOk a) (g : Good w0 F W B n w) :
    Calls Try.prog 8 #[.pointer (some ⟨W, 0, none⟩), .agg (acC a).toArray] w fun e w' => Good w0 F W B (n + 1) w' ∧ e = .returned (.bool true) := by
  obtain ⟨t, l, h, sd, m, f, B', r, hm, hs0, hs1, z⟩ := g
  obtain ⟨hl, hh, hlast⟩ := r.bounds
  have hn1 := r.n1
  have hrl := r.row_len
  have p1 := pickI_range (c := a.tag) (n := 12) (by decide)
  have p2 := pickI_range (c := a.which) (n := (l.length : Int)) (by omega)
  have p3 := pickI_range (c := a.what) (n := 12) (by decide)
  have p4 := pickI_range (c := a.which) (n := 16) (by decide)
  refine F8.calls (by simp) ?_
  unfold F8.code
  unfold acC
  simp -dsimp -implicitDefEqProofs (disch := omega) only [go_sem, reqD_of, dec_t, dec_f, wrap_i64, wrap_u32, wrap_u64, wrap_u8]
  refine z.new fun X w2 z2 => ?_
  have cX := z2.cl X
  simp -dsimp -implicitDefEqProofs (disch := omega) only [go_sem, reqD_of, dec_t, dec_f, wrap_i64, wrap_u32, wrap_u64, wrap_u8, cX]
  refine (pick_any z2 ha.h2 (by decide) (by decide)).mono ?_
  rintro e w3 ⟨z3, rfl⟩
  obtain ⟨a1, c1, a2, c2, z4⟩ := RnP.open (F := Blk X (.cells #[.int .i64 a.what, .int .i64 a.tag, .int .i64 a.which] 28 (0, 0)) * F) (z3.drew.ac (by ac_rfl))
  have cX := z4.cl X
  have cW := z4.cl W
  simp -dsimp -implicitDefEqProofs (disch := omega) only [go_sem, reqD_of, dec_t, dec_f, wrap_i64, wrap_u32, wrap_u64, wrap_u8, cX, cW]
  refine (pick_any z3.drew ha.h3 (by omega) (by omega)).mono ?_
  rintro e w5 ⟨z5, rfl⟩
  have cX := z5.cl X
  simp -dsimp -implicitDefEqProofs (disch := omega) only [go_sem, reqD_of, dec_t, dec_f, wrap_i64, wrap_u32, wrap_u64, wrap_u8, cX]
  refine (pick_any z5 ha.h1 (by decide) (by decide)).mono ?_
  rintro e w6 ⟨z6, rfl⟩
  have z7 : St w0 (RnP W B t l h sd * F) w6 := z6.right
  have cX := z6.cl X
  obtain ⟨gt, hgt⟩ := Int.eq_ofNat_of_zero_le p1.1
  obtain ⟨k, hk⟩ := Int.eq_ofNat_of_zero_le p2.1
  obtain ⟨o, ho⟩ := Int.eq_ofNat_of_zero_le p4.1
  rw [hgt, hk]
  rw [hgt] at p1
  rw [hk] at p2
  rw [ho] at p4
  have beg : ∀ w' e', (∃ t' l' h' n' f' B', RunP t' l' h' sd n' f' B' ∧ n' ≤ m + 1 ∧ St w0 (RnP W B t' l' h' sd * F) w' ∧ e' = Ending.returned (.bool true)) → Good w0 F W B (n + 1) w' ∧ e' = .returned (.bool true) := fun w' e' ⟨t', l', h', n', f', B2, q1, q2, q3, q4⟩ => ⟨⟨t', l', h', sd, n', f', B2, q1, by omega, hs0, hs1, q3⟩, q4⟩
  have hmm : pickI a.what 12 = 0 ∨ pickI a.what 12 = 1 ∨ pickI a.what 12 = 2 ∨ pickI a.what 12 = 3 ∨ pickI a.what 12 = 4 ∨ pickI a.what 12 = 5 ∨ pickI a.what 12 = 6 ∨ pickI a.what 12 = 7 ∨ pickI a.what 12 = 8 ∨ pickI a.what 12 = 9 ∨ pickI a.what 12 = 10 ∨ pickI a.what 12 = 11 := by omega
  rcases hmm with q | q | q | q | q | q | q | q | q | q | q | q <;> rw [q]
  iterate 3
    · simp -dsimp -implicitDefEqProofs (disch := omega) only [go_sem, reqD_of, dec_t, dec_f, wrap_i64, wrap_u32, wrap_u64, wrap_u8]
      refine (begins_req (g := gt) r (by omega) (by omega) z7).mono ?_
      intro e w8 q
      obtain ⟨g8, rfl⟩ := beg w8 e q
      simp -dsimp -implicitDefEqProofs (disch := omega) only [go_sem, reqD_of, dec_t, dec_f, wrap_i64, wrap_u32, wrap_u64, wrap_u8]
      exact g8
  iterate 2
    · simp -dsimp -implicitDefEqProofs (disch := omega) only [go_sem, reqD_of, dec_t, dec_f, wrap_i64, wrap_u32, wrap_u64, wrap_u8, cX]
      refine (pick_any z6 ha.h3 (by decide) (by decide)).mono ?_
      rintro e w7 ⟨z8, rfl⟩
      rw [ho]
      simp -dsimp -implicitDefEqProofs (disch := omega) only [go_sem, reqD_of, dec_t, dec_f, wrap_i64, wrap_u32, wrap_u64, wrap_u8]
      refine (begins_flush (g := gt) (o := o) r (by omega) (by omega) (by omega) (by omega) z8.right).mono ?_
      intro e w8 q
      obtain ⟨g8, rfl⟩ := beg w8 e q
      simp -dsimp -implicitDefEqProofs (disch := omega) only [go_sem, reqD_of, dec_t, dec_f, wrap_i64, wrap_u32, wrap_u64, wrap_u8]
      exact g8
  iterate 2
    · simp -dsimp -implicitDefEqProofs (disch := omega) only [go_sem, reqD_of, dec_t, dec_f, wrap_i64, wrap_u32, wrap_u64, wrap_u8]
      refine (decides_any (k := k) r (by omega) (by omega) z7).mono ?_
      rintro e w8 ⟨t', l', f', q1, _, _, q4, rfl⟩
      simp -dsimp -implicitDefEqProofs (disch := omega) only [go_sem, reqD_of, dec_t, dec_f, wrap_i64, wrap_u32, wrap_u64, wrap_u8]
      exact ⟨t', l', h, sd, m, f', B', q1, by omega, hs0, hs1, q4⟩
  iterate 2
    · simp -dsimp -implicitDefEqProofs (disch := omega) only [go_sem, reqD_of, dec_t, dec_f, wrap_i64, wrap_u32, wrap_u64, wrap_u8]
      refine (answers_any (k := k) r (by omega) (by omega) (by omega) z7).mono ?_
      rintro e w8 ⟨t', l', f', B2, q1, _, _, q4, rfl⟩
      simp -dsimp -implicitDefEqProofs (disch := omega) only [go_sem, reqD_of, dec_t, dec_f, wrap_i64, wrap_u32, wrap_u64, wrap_u8]
      exact ⟨t', l', h, sd, m, f', B2, q1, by omega, hs0, hs1, q4⟩
  iterate 2
    · simp -dsimp -implicitDefEqProofs (disch := omega) only [go_sem, reqD_of, dec_t, dec_f, wrap_i64, wrap_u32, wrap_u64, wrap_u8]
      refine (writes_any r (by omega) hs1 z7).mono ?_
      rintro e w8 (⟨_, q4, rfl⟩ | ⟨x, rest, t', l', h', sd', f', B2, _, _, q1, q2, q3, _, q4, rfl⟩)
      · simp -dsimp -implicitDefEqProofs (disch := omega) only [go_sem, reqD_of, dec_t, dec_f, wrap_i64, wrap_u32, wrap_u64, wrap_u8]
        exact ⟨t, l, h, sd, m, f, B', r, by omega, hs0, hs1, q4⟩
      · simp -dsimp -implicitDefEqProofs (disch := omega) only [go_sem, reqD_of, dec_t, dec_f, wrap_i64, wrap_u32, wrap_u64, wrap_u8]
        exact ⟨t', l', h', sd', m, f', B2, q1, by omega, q2, q3, q4⟩
  · simp -dsimp -implicitDefEqProofs (disch := omega) only [go_sem, reqD_of, dec_t, dec_f, wrap_i64, wrap_u32, wrap_u64, wrap_u8]
    exact act_21 (n := n + 1) (W := W) (B := B) (by omega) r (by omega) hs0 hs1 rfl (by simp -dsimp -implicitDefEqProofs only [go_sem]) z7 fun w' g' => ⟨g', rfl⟩

end
end Go.Proofs.Yteefkhfmpcaccaa

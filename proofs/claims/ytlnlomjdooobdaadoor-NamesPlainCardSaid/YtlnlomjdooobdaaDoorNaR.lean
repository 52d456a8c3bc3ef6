/- NamesClean. -/
import Derived.Test.YtlnlomjdooobdaaDoorNaP
import Derived.Test.YtlnlomjdooobdaaDoorNlA
namespace Go.Proofs.YtlnlomjdooobdaaDoor
open Go
set_option linter.unusedVariables false
set_option linter.unusedSimpArgs false
set_option maxRecDepth 100000

theorem clean_len {l s : List UInt8} (h : cleanF l = some s) : s.length ≤ l.length + 2 ∧ ∃ q, splitF s = some q ∧ (joinL q).length ≤ l.length + 1 := by
  obtain ⟨ps, q, h1, h2, h3, h4, h5, h6, h7⟩ := clean_law h
  have a := (split_small h1).1
  have b := tot_fold (rooted l) ps []
  have c := joinL_len (redF (rooted l) ps)
  simp only [tot] at b
  have d : (joinL q).length ≤ l.length + 1 := by rw [h2]; unfold redF at *; omega
  refine ⟨?_, q, h5, d⟩
  rw [h3]
  unfold joinP
  split
  · simp; omega
  · split
    · simp
    · omega
theorem beqF : (false == false) = true := rfl
theorem beqT : (true == true) = true := rfl
theorem rooted_at {l : List UInt8} (h : l ≠ []) : rooted l = decide (((l.getD 0 0).toNat : Int) = 47) := by
  cases l with
  | nil => exact absurd rfl h
  | cons c l =>
    simp only [rooted, List.isPrefixOf, List.getD_cons_zero, Bool.and_true]
    by_cases e : c = 47
    · subst e; rfl
    · have : ¬ ((c.toNat : Int) = 47) := fun k => e (UInt8.toNat_inj.1 (by simp; omega))
      have e' : ¬ ((47 : UInt8) = c) := fun k => e k.symm
      simp [this, e']

section
attribute [local go_sem] F7.t21_eq F7.t17_eq F7.t18_eq F7.t22_eq F7.t10_eq F7.t8_eq F7.t4_eq
theorem namesClean_tail {w0 w : World} {A : HP} [Gives A Tabs] {s : List UInt8} {q : List (List UInt8)} {r : Bool} {v : Value} {P9 : Nat} {e : FA} {R : Ending → World → Prop} {θ : Tag (F7.t14, fnP Tryd.prog #[.tmp 2] R, e, w)}
    (hd : e.ds = []) (e9 : e.ρ 9 = .pointer (some ⟨P9, 0, none⟩)) (e4 : e.ρ 4 = .string (strOf s)) (hq : okC r q) (hs : s = joinP r q) (hsl : s.length < 4294967280) (hcl : cleanF s = some s) (hql : q.length ≤ 4294967280) (hj : (joinL q).length ≤ 140737488355328)
    (h : St w0 (Blk P9 (.cells #[.bool r, v] 26 (0, 0)) * (RowO 9 1 v q.length (q.map sv) * A)) w)
    (hQ : ∀ w', St w0 A w' → R (.returned (.bool true)) w') :
    cwE Tryd.prog F7.t14 (fnP Tryd.prog #[.tmp 2] R) e w θ := by
  obtain ⟨a, c, rfl, _⟩ := h.rowForm v
  rw [F7.t14_eq]
  have c9 := h.cl P9
  simp -dsimp -implicitDefEqProofs (disch := omega) only [go_sem, reqD_of, dec_t, dec_f, wrap_i64, wrap_u32, wrap_u64, wrap_u8, hd, e9, c9]
  refine loop_intro (fun e w' => w' = w ∧ e.ds = [] ∧ e.ρ 9 = .pointer (some ⟨P9, 0, none⟩) ∧ e.ρ 4 = .string (strOf s) ∧
      ∃ (i : Nat) (b : Bool), i ≤ q.length ∧ e.ρ 11 = .int .i64 i ∧ e.ρ 10 = .bool b ∧ okC (b || r) (q.drop i))
    (fun e _ => match e.ρ 11 with | .int _ n => (q.length - n).toNat | _ => 0) ?_ ?_
  · exact ⟨by simp -dsimp -implicitDefEqProofs only [go_sem], by simp -dsimp -implicitDefEqProofs only [go_sem, hd], by simp -dsimp -implicitDefEqProofs only [go_sem, e9], by simp -dsimp -implicitDefEqProofs only [go_sem, e4], 0, false, by omega, by simp -dsimp -implicitDefEqProofs only [go_sem], by simp -dsimp -implicitDefEqProofs only [go_sem], by simpa using hq⟩
  clear hd e9 e4
  rintro e w2 ⟨rfl, hd, e9, e4, i, b, hi, e11, e10, hk⟩
  by_cases hlt : (i : Int) < (q.length : Int)
  case neg =>
    have h1 := h.rowH P9 2 rfl
    simp -dsimp -implicitDefEqProofs (disch := omega) only [go_sem, reqD_of, dec_t, dec_f, wrap_i64, wrap_u32, wrap_u64, wrap_u8, hd, e9, e11, e10, e4, hlt, c9, h1]
    refine (joinP_any h (ps := q) ((Ent.right _ _).trans ((Ent.left _ _).trans (RowO.reads _ _ _ _ _))) (by omega) hj).mono ?_
    rintro e' w3 ⟨h3, rfl⟩
    simp -dsimp -implicitDefEqProofs (disch := omega) only [go_sem, reqD_of, dec_t, dec_f, wrap_i64, wrap_u32, wrap_u64, wrap_u8, hd, e4]
    refine (under_any h3 hsl hsl).mono ?_
    rintro e' w4 ⟨h4, ⟨t, ht, rfl⟩ | ⟨ht, rfl⟩⟩
    · rw [under_self hcl] at ht
      obtain rfl := Option.some.inj ht
      have d1 : decide (joinP r q = s) = true := by simp [hs]
      simp -dsimp -implicitDefEqProofs (disch := omega) only [go_sem, reqD_of, dec_t, dec_f, wrap_i64, wrap_u32, wrap_u64, wrap_u8, hd, e4, d1]
      exact hQ _ h4.right.right
    · rw [under_self hcl] at ht; cases ht
  have hil : i < q.length := by omega
  have hdr : q.drop i = q[i] :: q.drop (i + 1) := List.drop_eq_getElem_cons hil
  rw [hdr] at hk
  obtain ⟨b0, o0, rfl, c0⟩ := h.atS (a := a) (n := q.length) (c := c) (xs := q.map sv) (k := i) (by simpa using hil)
  simp only [List.getElem_map] at c0
  obtain ⟨p, hp⟩ : ∃ p, p = q[i] := ⟨_, rfl⟩
  rw [← hp] at c0 hk
  obtain ⟨k1, k2, k3⟩ := hk
  obtain ⟨f1, f2, _⟩ := k1.facts
  have d1 : decide (p = []) = false := by simp [f1]
  have d2 : decide (p = [46]) = false := by simp [f2]
  by_cases e0 : p = [46, 46]
  · have hb : b = false ∧ r = false := by
      cases b <;> cases r <;> simp [e0] at k2 ⊢
    obtain ⟨rfl, rfl⟩ := hb
    have d3 : decide (p = [46, 46]) = true := by simp [e0]
    simp -dsimp -implicitDefEqProofs (disch := omega) only [go_sem, reqD_of, dec_t, dec_f, wrap_i64, wrap_u32, wrap_u64, wrap_u8, hd, e9, e4, e11, e10, hlt, c9, c0, d1, d2, d3]
    exact ⟨⟨i + 1, false, by omega, by omega, rfl, by simpa [e0] using k3⟩, by omega⟩
  · have d3 : decide (p = [46, 46]) = false := by simp [e0]
    have k4 : okC true (q.drop (i + 1)) := by simpa [e0] using k3
    cases b with
    | true =>
      simp -dsimp -implicitDefEqProofs (disch := omega) only [go_sem, reqD_of, dec_t, dec_f, wrap_i64, wrap_u32, wrap_u64, wrap_u8, hd, e9, e4, e11, e10, hlt, c9, c0, d1, d2, d3]
      exact ⟨⟨i + 1, true, by omega, by omega, rfl, k4⟩, by omega⟩
    | false =>
      simp -dsimp -implicitDefEqProofs (disch := omega) only [go_sem, reqD_of, dec_t, dec_f, wrap_i64, wrap_u32, wrap_u64, wrap_u8, hd, e9, e4, e11, e10, hlt, c9, c0, d1, d2, d3]
      exact ⟨⟨i + 1, true, by omega, by omega, rfl, k4⟩, by omega⟩

theorem namesClean_any {w0 w : World} {A : HP} (h : St w0 A w) [Gives A Tabs] (l : List UInt8) (hm : l.length ≤ 9223372036854775807) :
    Calls Tryd.prog 7 #[.string (strOf l)] w fun e w' => St w0 A w' ∧ e = .returned (.bool true) := by
  refine F7.calls (by simp) ?_
  unfold F7.code
  simp -dsimp -implicitDefEqProofs (disch := omega) only [go_sem, reqD_of, dec_t, dec_f, wrap_i64, wrap_u32, wrap_u64, wrap_u8]
  refine (awake_any h).mono ?_
  rintro e w1 ⟨h1, rfl⟩
  simp -dsimp -implicitDefEqProofs (disch := omega) only [go_sem, reqD_of, dec_t, dec_f, wrap_i64, wrap_u32, wrap_u64, wrap_u8]
  by_cases hb : (268435456 : Int) < l.length
  · simp -dsimp -implicitDefEqProofs (disch := omega) only [go_sem, reqD_of, dec_t, dec_f, wrap_i64, wrap_u32, wrap_u64, wrap_u8, hb]
    exact h1
  have hl : l.length ≤ 268435456 := by omega
  simp -dsimp -implicitDefEqProofs (disch := omega) only [go_sem, reqD_of, dec_t, dec_f, wrap_i64, wrap_u32, wrap_u64, wrap_u8, hb]
  refine (clean_any h1 (l := l) (by omega)).mono ?_
  rintro e w2 (⟨s, hs, h2, rfl⟩ | ⟨hs, h2, rfl⟩)
  · obtain ⟨ps, q, hps, hq, hsj, hok, hsp, hro, hcs⟩ := clean_law hs
    obtain ⟨sl, q', hq', hj⟩ := clean_len hs
    obtain rfl : q' = q := Option.some.inj (hq'.symm.trans hsp)
    have hql := (split_small hsp).2
    simp -dsimp -implicitDefEqProofs (disch := omega) only [go_sem, reqD_of, dec_t, dec_f, wrap_i64, wrap_u32, wrap_u64, wrap_u8]
    refine (split_any h2 (l := l) (by omega)).mono ?_
    rintro e w3 (⟨ps', v, hx, h3, rfl⟩ | ⟨hx, h3, rfl⟩)
    case inr => rw [hps] at hx; cases hx
    simp -dsimp -implicitDefEqProofs (disch := omega) only [go_sem, reqD_of, dec_t, dec_f, wrap_i64, wrap_u32, wrap_u64, wrap_u8]
    refine h3.new fun P6 w4 h4 => ?_
    simp -dsimp -implicitDefEqProofs (disch := omega) only [go_sem, reqD_of, dec_t, dec_f, wrap_i64, wrap_u32, wrap_u64, wrap_u8]
    refine h4.stoAll (b := P6) (n := 2) (cs := [.bool (rooted l), v]) rfl rfl (fun u hu => ?_) fun w5 h5 => ?_
    · obtain ⟨a, c, rfl, _⟩ := h3.rowForm v
      simp at hu; rcases hu with rfl | rfl <;> rfl
    simp -dsimp -implicitDefEqProofs (disch := omega) only [go_sem, reqD_of, dec_t, dec_f, wrap_i64, wrap_u32, wrap_u64, wrap_u8]
    refine (clean_any h5 (l := s) (by omega)).mono ?_
    rintro e w6 (⟨s', hs', h6, rfl⟩ | ⟨hs', h6, rfl⟩)
    case inr => rw [hcs] at hs'; cases hs'
    obtain rfl : s = s' := Option.some.inj (hcs.symm.trans hs')
    simp -dsimp -implicitDefEqProofs (disch := omega) only [go_sem, reqD_of, dec_t, dec_f, wrap_i64, wrap_u32, wrap_u64, wrap_u8]
    refine (split_any h6 (l := s) (by omega)).mono ?_
    rintro e w7 (⟨q'', v7, hx7, h7, rfl⟩ | ⟨hx7, h7, rfl⟩)
    case inr => rw [hsp] at hx7; cases hx7
    obtain rfl : q' = q'' := Option.some.inj (hsp.symm.trans hx7)
    simp -dsimp -implicitDefEqProofs (disch := omega) only [go_sem, reqD_of, dec_t, dec_f, wrap_i64, wrap_u32, wrap_u64, wrap_u8]
    refine h7.new fun P9 w8 h8 => ?_
    simp -dsimp -implicitDefEqProofs (disch := omega) only [go_sem, reqD_of, dec_t, dec_f, wrap_i64, wrap_u32, wrap_u64, wrap_u8]
    refine h8.stoAll (b := P9) (n := 2) (cs := [.bool (rooted s), v7]) rfl rfl (fun u hu => ?_) fun w9 h9 => ?_
    · obtain ⟨a, c, rfl, _⟩ := h7.rowForm v7
      simp at hu; rcases hu with rfl | rfl <;> rfl
    have c9 := h9.drew.cl P9
    have c6 := h9.drew.cl P6
    have fin : ∀ {e' : FA} {θ}, e'.ds = [] → e'.ρ 9 = .pointer (some ⟨P9, 0, none⟩) → e'.ρ 4 = .string (strOf s) → cwE Tryd.prog F7.t14 (fnP Tryd.prog #[.tmp 2] fun e w' => St w0 A w' ∧ e = .returned (.bool true)) e' w9.drew θ := by
      intro e' θ hd e9 e4
      refine namesClean_tail (q := q') (r := rooted s) (v := v7) hd e9 e4 (by rw [hro]; exact hok) (by rw [hro]; exact hsj) (by omega) hcs (by omega) (by omega) h9.drew fun w' h' => ⟨h'.right.right, rfl⟩
    by_cases h0 : l = []
    · have rl : rooted l = false := by rw [h0]; rfl
      rw [rl] at c6 hro
      rw [hro] at c9
      have d0 : decide (l = []) = true := by simp [h0]
      simp -dsimp -implicitDefEqProofs (disch := omega) only [go_sem, reqD_of, dec_t, dec_f, wrap_i64, wrap_u32, wrap_u64, wrap_u8, c9, c6, d0, Bool.not_false, Bool.not_true, beqF, beqT]
      exact fin (by simp -dsimp -implicitDefEqProofs only [go_sem]) (by simp -dsimp -implicitDefEqProofs only [go_sem]) (by simp -dsimp -implicitDefEqProofs only [go_sem])
    · have rl := rooted_at h0
      have d0 : decide (l = []) = false := by simp [h0]
      have hp : (0 : Int) < l.length := by have := List.length_pos_iff.2 h0; omega
      by_cases k47 : ((l.getD 0 0).toNat : Int) = 47
      · have d1 : decide (((l.getD 0 0).toNat : Int) = 47) = true := decide_eq_true k47
        rw [d1] at rl
        rw [rl] at c6 hro
        rw [hro] at c9
        simp -dsimp -implicitDefEqProofs (disch := omega) only [go_sem, reqD_of, dec_t, dec_f, wrap_i64, wrap_u32, wrap_u64, wrap_u8, c9, c6, d0, hp, k47, Bool.not_false, Bool.not_true, beqF, beqT]
        exact fin (by simp -dsimp -implicitDefEqProofs only [go_sem]) (by simp -dsimp -implicitDefEqProofs only [go_sem]) (by simp -dsimp -implicitDefEqProofs only [go_sem])
      · have d1 : decide (((l.getD 0 0).toNat : Int) = 47) = false := decide_eq_false k47
        rw [d1] at rl
        rw [rl] at c6 hro
        rw [hro] at c9
        simp -dsimp -implicitDefEqProofs (disch := omega) only [go_sem, reqD_of, dec_t, dec_f, wrap_i64, wrap_u32, wrap_u64, wrap_u8, c9, c6, d0, hp, k47, Bool.not_false, Bool.not_true, beqF, beqT]
        exact fin (by simp -dsimp -implicitDefEqProofs only [go_sem]) (by simp -dsimp -implicitDefEqProofs only [go_sem]) (by simp -dsimp -implicitDefEqProofs only [go_sem])
  · have hns : splitF l = none := by
      cases hq : splitF l with
      | none => rfl
      | some ps => rw [cleanF, hq] at hs; cases hs
    simp -dsimp -implicitDefEqProofs (disch := omega) only [go_sem, reqD_of, dec_t, dec_f, wrap_i64, wrap_u32, wrap_u64, wrap_u8]
    refine (split_any h2 (l := l) (by omega)).mono ?_
    rintro e w3 (⟨ps', v, hx, h3, rfl⟩ | ⟨hx, h3, rfl⟩)
    case inl => rw [hns] at hx; cases hx
    simp -dsimp -implicitDefEqProofs (disch := omega) only [go_sem, reqD_of, dec_t, dec_f, wrap_i64, wrap_u32, wrap_u64, wrap_u8]
    refine h3.new fun P6 w4 h4 => ?_
    simp -dsimp -implicitDefEqProofs (disch := omega) only [go_sem, reqD_of, dec_t, dec_f, wrap_i64, wrap_u32, wrap_u64, wrap_u8]
    refine h4.stoAll (b := P6) (n := 2) (cs := [.bool false, .slice none 0 0]) rfl rfl (fun u hu => by simp at hu; rcases hu with rfl | rfl <;> rfl) fun w5 h5 => ?_
    have c6 := h5.cl P6
    simp -dsimp -implicitDefEqProofs (disch := omega) only [go_sem, reqD_of, dec_t, dec_f, wrap_i64, wrap_u32, wrap_u64, wrap_u8, c6]
    exact h5.right
end
end Go.Proofs.YtlnlomjdooobdaaDoor

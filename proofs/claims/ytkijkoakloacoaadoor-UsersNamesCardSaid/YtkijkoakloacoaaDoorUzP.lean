/- law06: sameTexts; the chapter's example. -/
import Derived.Test.YtkijkoakloacoaaDoorUzO
import Derived.Test.YtkijkoakloacoaaDoorUpB
namespace Go.Proofs.YtkijkoakloacoaaDoor
open Go
set_option linter.unusedVariables false
set_option linter.unusedSimpArgs false
set_option maxRecDepth 100000

section
attribute [local go_sem] F30.t5_eq F30.t6_eq F30.t8_eq F30.t3_eq
theorem sameTexts_any {w0 w : World} {A : HP} (h : St w0 A w) {u v : Value} {xs ys : List (List UInt8)} (hu : Ent A (ReadsT u xs)) (hv : Ent A (ReadsT v ys)) (hx : xs.length ≤ 1099511627776) (hy : ys.length ≤ 1099511627776) :
    Calls Tryd.prog 30 #[u, v] w fun e w' => St w0 A w' ∧ e = .returned (.bool (decide (xs = ys))) := by
  obtain ⟨a1, c1, rfl, hc1, hk1⟩ := h.texts hu
  obtain ⟨a2, c2, rfl, hc2, hk2⟩ := h.texts hv
  refine F30.calls (by simp) ?_
  unfold F30.code
  by_cases hl : (xs.length : Int) = ys.length
  case neg =>
    have hne : ¬ xs = ys := fun e => hl (by rw [e])
    simp -dsimp -implicitDefEqProofs (disch := omega) only [go_sem, reqD_of, dec_t, dec_f, wrap_i64, wrap_u32, wrap_u64, wrap_u8, hl, hne]
    exact h
  have hl' : xs.length = ys.length := by omega
  simp -dsimp -implicitDefEqProofs (disch := omega) only [go_sem, reqD_of, dec_t, dec_f, wrap_i64, wrap_u32, wrap_u64, wrap_u8, hl]
  refine loop_intro (fun e w' => e.ds = [] ∧ St w0 A w' ∧ e.ρ 0 = .slice a1 xs.length c1 ∧ e.ρ 1 = .slice a2 ys.length c2 ∧ ∃ i : Nat, i ≤ xs.length ∧ e.ρ 5 = .int .i64 i ∧ xs.take i = ys.take i)
    (fun e _ => match e.ρ 5 with | .int _ n => (xs.length - n).toNat | _ => 0) ?_ ?_
  · exact ⟨rfl, h, by simp -dsimp -implicitDefEqProofs only [go_sem], by simp -dsimp -implicitDefEqProofs only [go_sem], 0, by omega, by simp -dsimp -implicitDefEqProofs only [go_sem], by simp⟩
  clear hk1 hk2
  rintro e w2 ⟨hd, h2, e0, e1, i, hi, e5, hk⟩
  by_cases hlt : (i : Int) < (xs.length : Int)
  case neg =>
    rw [List.take_of_length_le (by omega), List.take_of_length_le (by omega)] at hk
    have hd1 : decide (xs = ys) = true := decide_eq_true hk
    rw [hd1]
    simp -dsimp -implicitDefEqProofs (disch := omega) only [go_sem, reqD_of, dec_t, dec_f, wrap_i64, wrap_u32, wrap_u64, wrap_u8, hd, e0, e1, e5, hlt]
    exact h2
  have hi1 : i < xs.length := by omega
  have hi2 : i < ys.length := by omega
  have hlt2 : (i : Int) < (ys.length : Int) := by omega
  obtain ⟨b1, o1, rfl, k1⟩ := (h2.ent hu).atS (a := a1) (n := xs.length) (c := c1) (xs := xs.map sv) (k := i) (by simpa using hi1)
  obtain ⟨b2, o2, rfl, k2⟩ := (h2.ent hv).atS (a := a2) (n := ys.length) (c := c2) (xs := ys.map sv) (k := i) (by simpa using hi2)
  obtain ⟨b1', o1', q1, k3⟩ := (h2.drew.ent hu).atS (a := some ⟨b1, o1, none⟩) (n := xs.length) (c := c1) (xs := xs.map sv) (k := i) (by simpa using hi1)
  obtain ⟨b2', o2', q2, k4⟩ := (h2.drew.ent hv).atS (a := some ⟨b2, o2, none⟩) (n := ys.length) (c := c2) (xs := ys.map sv) (k := i) (by simpa using hi2)
  simp only [Option.some.injEq, Addr.mk.injEq, and_true] at q1 q2
  obtain ⟨rfl, rfl⟩ := q1
  obtain ⟨rfl, rfl⟩ := q2
  rw [List.getElem_map] at k1 k2 k3 k4
  obtain ⟨p, hp⟩ : ∃ p, p = xs[i] := ⟨_, rfl⟩
  obtain ⟨q, hq⟩ : ∃ q, q = ys[i] := ⟨_, rfl⟩
  rw [← hp] at k1 k3
  rw [← hq] at k2 k4
  by_cases hpq : p = q
  · have hd2 : decide (p = q) = true := decide_eq_true hpq
    simp -dsimp -implicitDefEqProofs (disch := omega) only [go_sem, reqD_of, dec_t, dec_f, wrap_i64, wrap_u32, wrap_u64, wrap_u8, hd, e0, e1, e5, hlt, hlt2, k1, k2, k3, k4, hd2]
    refine ⟨⟨h2.drew, i + 1, by omega, by omega, ?_⟩, by omega⟩
    rw [List.take_succ_eq_append_getElem hi1, List.take_succ_eq_append_getElem hi2, hk, ← hp, ← hq, hpq]
  · have hne : ¬ xs = ys := fun e => hpq (by rw [hp, hq]; simp [e])
    simp -dsimp -implicitDefEqProofs (disch := omega) only [go_sem, reqD_of, dec_t, dec_f, wrap_i64, wrap_u32, wrap_u64, wrap_u8, hd, e0, e1, e5, hlt, hlt2, k1, k2, k3, k4, hpq, hne]
    exact h2.drew

/-! ### The example -/

def exText : List UInt8 := [97, 100, 109, 58, 58, 103, 108, 101, 110, 100, 97, 58, 10, 103, 108, 101, 110, 100, 97, 58, 58, 58, 107, 101, 121, 49, 10, 115, 121, 115, 58, 103, 108, 101, 110, 100, 97, 58, 97, 100, 109, 44, 103, 108, 101, 110, 100, 97, 58, 10]
def adm : List UInt8 := [97, 100, 109]
def glenda : List UInt8 := [103, 108, 101, 110, 100, 97]
def sys : List UInt8 := [115, 121, 115]
def key1 : List UInt8 := [107, 101, 121, 49]
def exL : List Acc := [⟨adm, [], [glenda], []⟩, ⟨glenda, [], [], key1⟩, ⟨sys, glenda, [adm, glenda], []⟩]
theorem ex_parse : parseF exText = .ok exL := by kernel_rfl
theorem ex_groups : groupsF exL glenda = [adm, glenda, sys] := by
  have e : ((exL.map (·.name)).filter fun g => memberF exL glenda g) = [adm, glenda, sys] := by decide +kernel
  unfold groupsF
  rw [e]
  exact List.mergeSort_of_pairwise (by decide +kernel)
theorem ex_facts : memberF exL glenda adm = true ∧ memberF exL adm glenda = false ∧ leadsF exL glenda sys = true ∧ leadsF exL adm sys = false ∧ keyOf exL glenda = key1 ∧ known exL adm = true ∧ known exL key1 = false := by decide +kernel

end
section
attribute [local go_sem] F10.t4_eq
theorem example_any {w0 w : World} {A : HP} (h : St w0 A w) [Gives A Tabs] :
    Calls Tryd.prog 10 #[] w fun e w' => St w0 A w' ∧ e = .returned (.bool true) := by
  refine F10.calls (by simp) ?_
  unfold F10.code
  simp -dsimp -implicitDefEqProofs (disch := omega) only [go_sem, reqD_of, dec_t, dec_f, wrap_i64, wrap_u32, wrap_u64, wrap_u8]
  refine (parse_any h exText).mono ?_
  rintro e w1 (⟨T, m, x, hr, ok, h1, rfl⟩ | ⟨k, n, hr, _, _⟩)
  case inr => rw [ex_parse] at hr; cases hr
  rw [ex_parse] at hr
  have hL : accs x.L = exL := by simpa using hr.symm
  have hn : x.L.length ≤ 16777216 := by have := congrArg List.length hL; simp at this; rw [this]; decide
  obtain ⟨f1, f2, f3, f4, f5, f6, f7⟩ := ex_facts
  simp -dsimp -implicitDefEqProofs (disch := omega) only [go_sem, reqD_of, dec_t, dec_f, wrap_i64, wrap_u32, wrap_u64, wrap_u8]
  refine (groups_any ok hn h1 glenda).mono ?_
  rintro e w2 ⟨vg, h2, rfl⟩
  rw [hL, ex_groups] at h2
  obtain ⟨ag, cg, rfl, _⟩ := h2.rowForm vg
  simp -dsimp -implicitDefEqProofs (disch := omega) only [go_sem, reqD_of, dec_t, dec_f, wrap_i64, wrap_u32, wrap_u64, wrap_u8]
  refine h2.lit (t := 33) (n := 3) (cells := [sv adm, sv glenda, sv sys]) fact_rowTy_33 rfl (by decide) (by decide) fun v3 w3 h3 => ?_
  simp -dsimp -implicitDefEqProofs (disch := omega) only [go_sem, reqD_of, dec_t, dec_f, wrap_i64, wrap_u32, wrap_u64, wrap_u8]
  refine (sameTexts_any (xs := [adm, glenda, sys]) (ys := [adm, glenda, sys]) h3 ((Gives.ent (B := rowT (.slice ag [adm, glenda, sys].length cg) [adm, glenda, sys])).trans (RowO.reads _ _ _ _ _)) ((Ent.left _ _).trans (RowO.reads _ _ _ _ _)) (by decide) (by decide)).mono ?_
  rintro e w4 ⟨h4, rfl⟩
  rw [decide_eq_true rfl]
  have h4 : St w0 (TabW T m x * A) w4 := h4.right.right
  simp -dsimp -implicitDefEqProofs (disch := omega) only [go_sem, reqD_of, dec_t, dec_f, wrap_i64, wrap_u32, wrap_u64, wrap_u8]
  refine (member_any ok h4 glenda adm).mono ?_
  rintro e w5 ⟨h5, rfl⟩
  rw [hL, f1]
  simp -dsimp -implicitDefEqProofs (disch := omega) only [go_sem, reqD_of, dec_t, dec_f, wrap_i64, wrap_u32, wrap_u64, wrap_u8]
  refine (member_any ok h5 adm glenda).mono ?_
  rintro e w6 ⟨h6, rfl⟩
  rw [hL, f2]
  simp -dsimp -implicitDefEqProofs (disch := omega) only [go_sem, reqD_of, dec_t, dec_f, wrap_i64, wrap_u32, wrap_u64, wrap_u8]
  refine (leads_any ok h6 glenda sys).mono ?_
  rintro e w7 ⟨h7, rfl⟩
  rw [hL, f3]
  simp -dsimp -implicitDefEqProofs (disch := omega) only [go_sem, reqD_of, dec_t, dec_f, wrap_i64, wrap_u32, wrap_u64, wrap_u8]
  refine (leads_any ok h7 adm sys).mono ?_
  rintro e w8 ⟨h8, rfl⟩
  rw [hL, f4]
  simp -dsimp -implicitDefEqProofs (disch := omega) only [go_sem, reqD_of, dec_t, dec_f, wrap_i64, wrap_u32, wrap_u64, wrap_u8]
  refine (keyT_any h8 glenda).mono ?_
  rintro e w9 ⟨h9, rfl⟩
  have hk : decide (key1 = ([107, 101, 121, 49] : List UInt8)) = true := by decide
  rw [hL, f5]
  simp -dsimp -implicitDefEqProofs (disch := omega) only [go_sem, reqD_of, dec_t, dec_f, wrap_i64, wrap_u32, wrap_u64, wrap_u8, hk]
  refine (known_any h9 adm).mono ?_
  rintro e w10 ⟨h10, rfl⟩
  rw [hL, f6]
  simp -dsimp -implicitDefEqProofs (disch := omega) only [go_sem, reqD_of, dec_t, dec_f, wrap_i64, wrap_u32, wrap_u64, wrap_u8]
  refine (known_any h10 key1).mono ?_
  rintro e w11 ⟨h11, rfl⟩
  rw [hL, f7]
  simp -dsimp -implicitDefEqProofs (disch := omega) only [go_sem, reqD_of, dec_t, dec_f, wrap_i64, wrap_u32, wrap_u64, wrap_u8]
  exact h11.right

end
section
attribute [local go_sem] F3.t2_eq
theorem usersNames_law {w0 w : World} {A : HP} (h : St w0 A w) [Gives A Tabs] :
    Calls Tryd.prog 3 #[] w fun e w' => St w0 A w' ∧ e = .returned (.bool true) := by
  refine F3.calls (by simp) ?_
  unfold F3.code
  simp -dsimp -implicitDefEqProofs (disch := omega) only [go_sem, reqD_of, dec_t, dec_f, wrap_i64, wrap_u32, wrap_u64, wrap_u8]
  refine (example_any h).mono ?_
  rintro e w1 ⟨h1, rfl⟩
  simp -dsimp -implicitDefEqProofs (disch := omega) only [go_sem, reqD_of, dec_t, dec_f, wrap_i64, wrap_u32, wrap_u64, wrap_u8]
  exact h1
end
end Go.Proofs.YtkijkoakloacoaaDoor

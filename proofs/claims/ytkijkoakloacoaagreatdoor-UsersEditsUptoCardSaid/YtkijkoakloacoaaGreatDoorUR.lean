/- The reference's Groups and Accounts. law06: asks, tells. -/
import Derived.Test.YtkijkoakloacoaaGreatDoorUQ
import Derived.Test.YtkijkoakloacoaaGreatDoorUM
namespace Go.Proofs.YtkijkoakloacoaaGreatDoor
open Go
set_option linter.unusedVariables false
set_option linter.unusedSimpArgs false
set_option maxRecDepth 100000

theorem binV_sgtr {P : Program} {T : TypeId} {a b : List UInt8} : binV P .gtr T (.string (strOf a)) (.string (strOf b)) = some (.bool (decide (b < a))) := by
  have : (decide (b < a)) = !(decide (a < b) || a == b) := by
    by_cases h1 : a < b
    · have h2 : ¬ b < a := fun h => absurd (List.lt_trans h1 h) (List.lt_irrefl a)
      simp [h1, h2]
    · by_cases h2 : a = b
      · subst h2; simp [List.lt_irrefl]
      · have h3 : b < a := by
          rcases List.le_total a b with h | h
          · by_cases h4 : b < a
            · exact h4
            · exact absurd (List.le_antisymm (List.not_lt.1 h4) (List.not_lt.1 h1)) h2
          · by_cases h4 : b < a
            · exact h4
            · exact absurd (List.le_antisymm (List.not_lt.1 h4) h) h2
        simp [h1, h2, h3]
  rw [this]
  simp [binV, strV, strOf_toList, bytesLess_eq]

abbrev LeP (l : List (List UInt8)) : Prop := l.Pairwise fun x y => x ≤ y

/-- The names of a user's groups among the first ones, as they stand. -/
def inN (L M : List Acc) (u : List UInt8) : List (List UInt8) := (M.map (·.name)).filter fun g => memberF L u g
theorem groups_unique {L : List Acc} {u : List UInt8} {out : List (List UInt8)} (hp : out.Perm (inN L L u)) (hs : LeP out) : out = groupsF L u := by
  refine perm_sorted_unique (r := fun x y => x ≤ y) (fun x _ y _ h1 h2 => List.le_antisymm h1 h2) ?_ hs (groups_sorted L u) (fun x _ => List.le_refl x)
  exact hp.trans (List.mergeSort_perm _ _).symm

section
attribute [local go_sem] F73.t12_eq F73.t13_eq F73.t9_eq F73.t6_eq F73.t7_eq F73.t16_eq F73.t3_eq
theorem rgroups_any {w0 w : World} {A : HP} {U : Nat} {y : RT} (ok : y.Ok) (h : St w0 (RefW U y * A) w) (u : List UInt8) :
    Calls Tryz.prog 73 #[.pointer (some ⟨U, 0, none⟩), .string (strOf u)] w fun e w' => ∃ v, St w0 (rowT v (groupsF (accs y.L) u) * (RefW U y * A)) w' ∧ e = .returned v := by
  have hf := ok.few
  obtain ⟨_, _, hnd, _⟩ := allF_facts ok.all
  obtain ⟨a1, c1, hvl, _⟩ := h.rowForm y.vl
  refine F73.calls (by simp) ?_
  unfold F73.code
  have cU := h.cl U
  rw [hvl] at cU
  simp -dsimp -implicitDefEqProofs (disch := omega) only [go_sem, reqD_of, dec_t, dec_f, wrap_i64, wrap_u32, wrap_u64, wrap_u8, cU]
  refine (find_any h (by rw [← hvl]; exact RefW.rd U y A) (by omega) u).mono ?_
  rintro e w1 ⟨h1, k, hk, rfl⟩
  have hn := hk.neg
  cases hku : known (accs y.L) u
  · rw [hku] at hn
    have hn : k < 0 := of_decide_eq_true hn
    rw [groupsF_no ok.all hku]
    simp -dsimp -implicitDefEqProofs (disch := omega) only [go_sem, reqD_of, dec_t, dec_f, wrap_i64, wrap_u32, wrap_u64, wrap_u8, hn]
    exact ⟨_, h1.nilR 9 1, rfl⟩
  rw [hku] at hn
  have hn : ¬ k < 0 := of_decide_eq_false hn
  simp -dsimp -implicitDefEqProofs (disch := omega) only [go_sem, reqD_of, dec_t, dec_f, wrap_i64, wrap_u32, wrap_u64, wrap_u8, hn]
  refine loop_intro (fun e w' => e.ds = [] ∧ e.ρ 0 = .pointer (some ⟨U, 0, none⟩) ∧ e.ρ 1 = .string (strOf u) ∧ ∃ (i : Nat) (vo : Value) (out : List (List UInt8)), i ≤ y.L.length ∧ e.ρ 6 = .int .i64 i ∧ e.ρ 5 = vo ∧ out.Perm (inN (accs y.L) ((accs y.L).take i) u) ∧ LeP out ∧ out.length ≤ i ∧ St w0 (rowT vo out * (RefW U y * A)) w')
    (fun e _ => match e.ρ 6 with | .int _ n => (y.L.length - n).toNat | _ => 0) ?_ ?_
  · exact ⟨rfl, by simp -dsimp -implicitDefEqProofs only [go_sem], by simp -dsimp -implicitDefEqProofs only [go_sem], 0, .slice none 0 0, [], by omega, by simp -dsimp -implicitDefEqProofs only [go_sem], by simp -dsimp -implicitDefEqProofs only [go_sem], by simp [inN], List.Pairwise.nil, by simp, h1.nilR 9 1⟩
  clear h h1
  rintro e w ⟨hd, e0, e1, i, vo, out, hi, e6, e5, hpm, hle, hol, h⟩
  obtain ⟨ao, co, rfl, _⟩ := h.rowForm vo
  have cU := h.cl U
  rw [hvl] at cU
  by_cases hlt : (i : Int) < (y.L.length : Int)
  case neg =>
    rw [List.take_of_length_le (by simp; omega)] at hpm
    have := groups_unique hpm hle
    subst this
    simp -dsimp -implicitDefEqProofs (disch := omega) only [go_sem, reqD_of, dec_t, dec_f, wrap_i64, wrap_u32, wrap_u64, wrap_u8, hd, e0, e1, e5, e6, hlt, cU]
    exact ⟨_, h, rfl⟩
  have hi1 : i < y.L.length := by omega
  have hrd : ∀ {B : HP}, Ent B (RefW U y * A) → Ent B (ReadsA (.slice a1 y.L.length c1) y.L) := fun hB => hB.trans (by rw [← hvl]; exact RefW.rd U y A)
  obtain ⟨_, _, e9, hoa⟩ := rdA_form h (hrd (Ent.right _ _))
  simp only [Value.slice.injEq, true_and] at e9
  obtain ⟨rfl, rfl⟩ := e9
  obtain ⟨b, o, rfl⟩ := hoa i hi1
  obtain ⟨⟨f1, f2, f3, f4⟩, _⟩ := rdA_cells h (hrd (Ent.right _ _)) hi1
  have hx := RefW.ms (U := U) ok A _ (List.getElem_mem hi1)
  have hge : (accs y.L)[i]'(by simpa using hi1) = y.L[i].1 := by simp
  have hmem : memberF (accs y.L) u y.L[i].1.name = (u == y.L[i].1.name || y.L[i].1.members.contains u) := by
    have := memberF_of hnd (List.getElem_mem (l := accs y.L) (by simpa using hi1)) u
    rw [hge] at this
    exact this
  have hin : inN (accs y.L) ((accs y.L).take (i + 1)) u = inN (accs y.L) ((accs y.L).take i) u ++ (if memberF (accs y.L) u y.L[i].1.name then [y.L[i].1.name] else []) := by
    rw [List.take_succ_eq_append_getElem (by simpa using hi1), hge]
    simp only [inN, List.map_append, List.map_cons, List.map_nil, List.filter_append, List.filter_cons, List.filter_nil]
  obtain ⟨z, hz⟩ : ∃ z, z = y.L[i] := ⟨_, rfl⟩
  rw [← hz] at f1 f2 f3 f4 hx hmem hin
  obtain ⟨a, va⟩ := z
  obtain ⟨x1, x2, x3⟩ := hx
  simp only at f1 f2 f3 f4 x1 x2 x3 hmem hin
  have skip : memberF (accs y.L) u a.name = false → inN (accs y.L) ((accs y.L).take (i + 1)) u = inN (accs y.L) ((accs y.L).take i) u := fun hm => by rw [hin, hm]; simp
  have take : memberF (accs y.L) u a.name = true → inN (accs y.L) ((accs y.L).take (i + 1)) u = inN (accs y.L) ((accs y.L).take i) u ++ [a.name] := fun hm => by rw [hin, hm]; simp
  have hlen : out.length ≤ 65536 := by omega
  by_cases hgu : a.name = u
  case' pos =>
    have d0 : decide (a.name = u) = true := decide_eq_true hgu
    have hm : memberF (accs y.L) u a.name = true := by rw [hmem, hgu]; simp
    simp -dsimp -implicitDefEqProofs (disch := omega) only [go_sem, reqD_of, dec_t, dec_f, wrap_i64, wrap_u32, wrap_u64, wrap_u8, hd, e0, e1, e5, e6, hlt, cU, f1, f3, d0]
  case' neg =>
    have d0 : decide (a.name = u) = false := decide_eq_false hgu
    have hne : (u == a.name) = false := by rw [beq_eq_false_iff_ne]; exact fun e => hgu e.symm
    have hcd : a.members.contains u = decide (u ∈ a.members) := by rw [Bool.eq_iff_iff]; simp
    rw [hne, Bool.false_or, hcd] at hmem
    simp -dsimp -implicitDefEqProofs (disch := omega) only [go_sem, reqD_of, dec_t, dec_f, wrap_i64, wrap_u32, wrap_u64, wrap_u8, hd, e0, e1, e5, e6, hlt, cU, f1, f3, d0]
    refine (has_any h ((Ent.right _ _).trans x1) x2.c u).mono ?_
    clear h
    rintro e' w ⟨h, rfl⟩
    rw [← hmem]
    cases hm : memberF (accs y.L) u a.name
    case' false =>
      simp -dsimp -implicitDefEqProofs (disch := omega) only [go_sem, reqD_of, dec_t, dec_f, wrap_i64, wrap_u32, wrap_u64, wrap_u8, hd, e0, e1, e5, e6]
      exact ⟨⟨i + 1, _, out, by omega, by omega, rfl, by rw [skip hm]; exact hpm, hle, by omega, h⟩, by omega⟩
    case' true =>
      simp -dsimp -implicitDefEqProofs (disch := omega) only [go_sem, reqD_of, dec_t, dec_f, wrap_i64, wrap_u32, wrap_u64, wrap_u8, hd, e0, e1, e5, e6]
  all_goals
    refine h.lit (t := 22) (n := 1) (cells := [sv a.name]) fact_rowTy_22 rfl (by decide) (by decide) fun v2 w2 h2 => ?_
    obtain ⟨a2, c2, rfl, _⟩ := h2.rowForm v2
    simp -dsimp -implicitDefEqProofs (disch := omega) only [go_sem, reqD_of, dec_t, dec_f, wrap_i64, wrap_u32, wrap_u64, wrap_u8, hd, e0, e1, e5, e6]
    refine h2.appR (v := .slice ao out.length co) (x := .slice a2 1 c2) fact_rowTy_22 Tryz.underlying22 (fun u hu => by simp at hu; subst hu; rfl) (by simp) (show _ ≤ 9223372036854775807 by omega) (by omega) fun v3 w3 h3 => ?_
    obtain ⟨a3, c3, rfl, _⟩ := h3.rowForm v3
    have h4 : St w0 (RowO 9 1 (.slice a3 (out.length + 1) c3) (out.length + 1) (out.map sv ++ [sv a.name]) * (RefW U y * A)) w3 := h3.sub
    obtain ⟨b3, o3, rfl, _⟩ := h4.atS (a := a3) (n := out.length + 1) (c := c3) (xs := out.map sv ++ [sv a.name]) (k := 0) (by simp)
    simp -dsimp -implicitDefEqProofs (disch := omega) only [go_sem, reqD_of, dec_t, dec_f, wrap_i64, wrap_u32, wrap_u64, wrap_u8, hd, e0, e1, e5, e6]
    refine loop_intro (fun e w' => e.ds = [] ∧ e.ρ 0 = .pointer (some ⟨U, 0, none⟩) ∧ e.ρ 1 = .string (strOf u) ∧ e.ρ 5 = .slice (some ⟨b3, o3, none⟩) (out.length + 1) c3 ∧ e.ρ 6 = .int .i64 i ∧ ∃ (P R : List (List UInt8)), e.ρ 8 = .int .i64 P.length ∧ out = P ++ R ∧ (∀ r ∈ R, a.name < r) ∧ St w0 (RowO 9 1 (.slice (some ⟨b3, o3, none⟩) (out.length + 1) c3) (out.length + 1) ((P ++ a.name :: R).map sv) * (RefW U y * A)) w')
      (fun e _ => match e.ρ 8 with | .int _ n => n.toNat | _ => 0) ?_ ?_
    · refine ⟨by simp -dsimp -implicitDefEqProofs only [go_sem, hd], by simp -dsimp -implicitDefEqProofs only [go_sem, e0], by simp -dsimp -implicitDefEqProofs only [go_sem, e1], by simp -dsimp -implicitDefEqProofs only [go_sem], by simp -dsimp -implicitDefEqProofs only [go_sem, e6], out, [], ?_, by simp, by simp, by simpa using h4⟩
      simp -dsimp -implicitDefEqProofs (disch := omega) only [go_sem, reqD_of, dec_t, dec_f, wrap_i64, wrap_u32, wrap_u64, wrap_u8]
      try (congr 1; omega)
    clear h h2 h3 h4 cU f1 f2 f3 f4
    rintro e2 w4 ⟨hd2, e0', e1', e5', e6', P, R, e8, hPR, hR, h⟩
    have hPl : out.length = P.length + R.length := by rw [hPR, List.length_append]
    have hpm2 : (a.name :: out).Perm (inN (accs y.L) ((accs y.L).take (i + 1)) u) := by rw [take hm]; exact (hpm.cons a.name).trans (List.perm_append_comm (l₁ := [a.name]))
    have fin : LeP (P ++ a.name :: R) → ∀ {w' : World}, St w0 (RowO 9 1 (.slice (some ⟨b3, o3, none⟩) (out.length + 1) c3) (out.length + 1) ((P ++ a.name :: R).map sv) * (RefW U y * A)) w' → (P ++ a.name :: R).Perm (inN (accs y.L) ((accs y.L).take (i + 1)) u) ∧ (P ++ a.name :: R).length ≤ i + 1 ∧ St w0 (rowT (.slice (some ⟨b3, o3, none⟩) (out.length + 1) c3) (P ++ a.name :: R) * (RefW U y * A)) w' := fun _ _ hh => by
      refine ⟨(List.perm_middle (a := a.name) (l₁ := P) (l₂ := R)).trans (hPR ▸ hpm2), by simp; omega, ?_⟩
      have : (P ++ a.name :: R).length = out.length + 1 := by simp; omega
      unfold rowT
      rw [this]
      exact hh
    by_cases hk0 : (P.length : Int) > 0
    case neg =>
      have hP : P = [] := List.eq_nil_of_length_eq_zero (by omega)
      subst hP
      have hle2 : LeP ([] ++ a.name :: R) := by
        rw [List.nil_append] at hPR ⊢
        exact List.Pairwise.cons (fun r hr => List.le_of_lt (hR r hr)) (hPR ▸ hle)
      obtain ⟨q1, q2, q3⟩ := fin hle2 h.drew
      simp -dsimp -implicitDefEqProofs (disch := omega) only [go_sem, reqD_of, dec_t, dec_f, wrap_i64, wrap_u32, wrap_u64, wrap_u8, hd2, e0', e1', e5', e6', e6, e8, hk0]
      exact ⟨⟨i + 1, _, [] ++ a.name :: R, by omega, by omega, rfl, q1, hle2, q2, q3⟩, by omega⟩
    obtain ⟨P', p, rfl⟩ : ∃ P' p, P = P' ++ [p] := by
      rcases List.eq_nil_or_concat P with h | ⟨P', p, h⟩
      · subst h; simp at hk0
      · exact ⟨P', p, by simpa using h⟩
    have hxs : ((P' ++ [p]) ++ a.name :: R).map sv = P'.map sv ++ sv p :: sv a.name :: R.map sv := by simp
    have hl2 : (P' ++ [p]).length = P'.length + 1 := by simp
    rw [hl2] at e8 hk0 hPl
    have g1 : ∀ {w' : World}, St w0 (RowO 9 1 (.slice (some ⟨b3, o3, none⟩) (out.length + 1) c3) (out.length + 1) (P'.map sv ++ sv p :: sv a.name :: R.map sv) * (RefW U y * A)) w' → w'.cell? ⟨b3, o3 + P'.length, none⟩ = some (sv p) ∧ w'.cell? ⟨b3, o3 + (P'.length + 1), none⟩ = some (sv a.name) := fun hh => by
      have c1 := hh.atG (g := b3) (o := o3) (n := out.length + 1) (c := c3) (xs := P'.map sv ++ sv p :: sv a.name :: R.map sv) (k := P'.length) (by simp)
      have c2 := hh.atG (g := b3) (o := o3) (n := out.length + 1) (c := c3) (xs := P'.map sv ++ sv p :: sv a.name :: R.map sv) (k := P'.length + 1) (by simp)
      rw [List.getElem_append_right (by simp)] at c1 c2
      simp only [List.length_map, Nat.sub_self, List.getElem_cons_zero, Nat.add_sub_cancel_left, List.getElem_cons_succ] at c1 c2
      exact ⟨c1, c2⟩
    have h9 := h
    rw [hxs] at h9
    obtain ⟨c1, c2⟩ := g1 h9
    obtain ⟨d1, d2⟩ := g1 h9.drew
    have hw1 : ((((P'.length + 1 : Nat) : Int)) - 1).toNat = P'.length := by omega
    have hw2 : (((P'.length + 1 : Nat) : Int)).toNat = P'.length + 1 := by omega
    by_cases hpx : a.name < p
    case neg =>
      have d0 : decide (a.name < p) = false := decide_eq_false hpx
      have hle2 : LeP ((P' ++ [p]) ++ a.name :: R) := by
        have hpa : p ≤ a.name := List.not_lt.1 hpx
        rw [hPR] at hle
        obtain ⟨l1, l2, l3⟩ := List.pairwise_append.1 hle
        refine List.pairwise_append.2 ⟨l1, List.Pairwise.cons (fun r hr => List.le_of_lt (hR r hr)) l2, fun x hx r hr => ?_⟩
        rcases List.mem_cons.1 hr with rfl | hr
        · obtain ⟨_, _, l4⟩ := List.pairwise_append.1 l1
          rcases List.mem_append.1 hx with hx | hx
          · exact List.le_trans (l4 x hx p (by simp)) hpa
          · simp only [List.mem_singleton] at hx; subst hx; exact hpa
        · exact l3 x hx r hr
      obtain ⟨q1, q2, q3⟩ := fin hle2 h.drew
      simp -dsimp -implicitDefEqProofs (disch := omega) only [go_sem, reqD_of, dec_t, dec_f, wrap_i64, wrap_u32, wrap_u64, wrap_u8, hd2, e0', e1', e5', e6', e6, e8, hk0, c1, c2, d1, d2, hw1, hw2, binV_sgtr, d0]
      exact ⟨⟨i + 1, _, (P' ++ [p]) ++ a.name :: R, by omega, by omega, rfl, q1, hle2, q2, q3⟩, by omega⟩
    have d0 : decide (a.name < p) = true := decide_eq_true hpx
    have h10 := h9.drew
    simp -dsimp -implicitDefEqProofs (disch := omega) only [go_sem, reqD_of, dec_t, dec_f, wrap_i64, wrap_u32, wrap_u64, wrap_u8, hd2, e0', e1', e5', e6', e8, hk0, c1, c2, d1, d2, hw1, hw2, binV_sgtr, d0]
    refine h10.rowSet1 (T := 9) (g := b3) (o := o3) (n := out.length + 1) (c := c3) (k := P'.length) (xs := P'.map sv ++ sv p :: sv a.name :: R.map sv) (v := sv a.name) (by simp) rfl fun w5 h11 => ?_
    simp -dsimp -implicitDefEqProofs (disch := omega) only [go_sem, reqD_of, dec_t, dec_f, wrap_i64, wrap_u32, wrap_u64, wrap_u8, hd2, e0', e1', e5', e6', e8, hw1, hw2]
    refine h11.rowSet1 (T := 9) (g := b3) (o := o3) (n := out.length + 1) (c := c3) (k := P'.length + 1) (v := sv p) (by simp) rfl fun w6 h12 => ?_
    simp -dsimp -implicitDefEqProofs (disch := omega) only [go_sem, reqD_of, dec_t, dec_f, wrap_i64, wrap_u32, wrap_u64, wrap_u8, hd2, e0', e1', e5', e6', e8]
    refine ⟨⟨P', p :: R, by omega, by rw [hPR]; simp, ?_, ?_⟩, by omega⟩
    · intro r hr
      rcases List.mem_cons.1 hr with rfl | hr
      · exact hpx
      · exact hR r hr
    · have hst : ((P'.map sv ++ sv p :: sv a.name :: R.map sv).set P'.length (sv a.name)).set (P'.length + 1) (sv p) = (P' ++ a.name :: p :: R).map sv := by
        have e1 : P'.length = (P'.map sv).length := by simp
        rw [e1, List.set_append_right _ _ (by simp), List.set_append_right _ _ (by simp)]
        simp
      rw [hst] at h12
      exact h12
end
end Go.Proofs.YtkijkoakloacoaaGreatDoor

namespace Go.Proofs.YtkijkoakloacoaaGreatDoor
open Go
set_option linter.unusedVariables false
set_option linter.unusedSimpArgs false
set_option maxRecDepth 100000

theorem BookP.mono {B n m : Nat} (h : n ≤ m) : Ent (BookP B n) (BookP B m) := Ent.of fun hp ⟨x, ok, hx⟩ => ⟨x, ⟨ok.e, ok.h, ok.f, by have := ok.few; omega⟩, hx⟩
theorem join_cnt (d : UInt8) : ∀ ms : List (List UInt8), ms.length ≤ (joinD d ms).length + 1
  | [] => by simp
  | [m] => by simp
  | m :: m2 :: ms => by
    have := join_cnt d (m2 :: ms)
    rw [joinD_two]
    simp only [List.length_cons, List.length_append] at this ⊢
    omega
theorem text_mem : ∀ {L : List Acc} {a : Acc}, a ∈ L → (lineF a).length ≤ (textF L).length
  | b :: L, a, h => by
    simp only [textF, List.flatMap_cons, List.length_append]
    rcases List.mem_cons.1 h with rfl | h
    · omega
    · have := text_mem h
      unfold textF at this
      omega
theorem members_text {L : List Acc} {a : Acc} (h : a ∈ L) : a.members.length ≤ (textF L).length := by
  have h1 := text_mem h
  have h2 := rowLen_eq a
  have h3 := join_cnt 44 a.members
  have h4 : (lineF a).length = (rowF a).length + 1 := by simp [lineF]
  omega

section
attribute [local go_sem] F43.t4_eq F43.t5_eq F43.t6_eq
theorem raccounts_any {w0 w : World} {A : HP} {U : Nat} {y : RT} (ok : y.Ok) (h : St w0 (RefW U y * A) w) :
    Calls Tryz.prog 43 #[.pointer (some ⟨U, 0, none⟩)] w fun e w' => ∃ (vo : Value) (L' : List AV) (B : HP), accs L' = accs y.L ∧ MsS B L' ∧ St w0 (rowA vo L' * (B * (RefW U y * A))) w' ∧ e = .returned vo := by
  have hf := ok.few
  obtain ⟨a1, c1, hvl, _⟩ := h.rowForm y.vl
  refine F43.calls (by simp) ?_
  unfold F43.code
  simp -dsimp -implicitDefEqProofs (disch := omega) only [go_sem, reqD_of, dec_t, dec_f, wrap_i64, wrap_u32, wrap_u64, wrap_u8]
  refine loop_intro (fun e w' => e.ds = [] ∧ e.ρ 0 = .pointer (some ⟨U, 0, none⟩) ∧ ∃ (i : Nat) (vo : Value) (L' : List AV) (B : HP), i ≤ y.L.length ∧ e.ρ 3 = vo ∧ e.ρ 4 = .int .i64 i ∧ accs L' = (accs y.L).take i ∧ MsS B L' ∧ St w0 (rowA vo L' * (B * (RefW U y * A))) w')
    (fun e _ => match e.ρ 4 with | .int _ n => (y.L.length - n).toNat | _ => 0) ?_ ?_
  · exact ⟨rfl, by simp -dsimp -implicitDefEqProofs only [go_sem], 0, .slice none 0 0, [], EmpH, by omega, by simp -dsimp -implicitDefEqProofs only [go_sem], by simp -dsimp -implicitDefEqProofs only [go_sem], by simp, (fun x hx => by simp at hx), (h.ent (empL' _)).nilR 72 4⟩
  clear h
  rintro e w2 ⟨hd, e0, i, vo, L', B, hi, e3, e4, hL, hB, h2⟩
  have hll : L'.length = i := by have := congrArg List.length hL; simp at this; omega
  obtain ⟨ao, co, rfl, _⟩ := h2.rowForm vo
  have hR : Ent (rowA (.slice ao L'.length co) L' * (B * (RefW U y * A))) (RefW U y * A) := (Ent.right _ _).trans (Ent.right _ _)
  have cU := h2.cl U
  rw [hvl] at cU
  by_cases hlt : (i : Int) < (y.L.length : Int)
  case neg =>
    rw [List.take_of_length_le (by simp; omega)] at hL
    simp -dsimp -implicitDefEqProofs (disch := omega) only [go_sem, reqD_of, dec_t, dec_f, wrap_i64, wrap_u32, wrap_u64, wrap_u8, hd, e0, e3, e4, hlt, cU]
    exact ⟨_, L', B, hL, hB, h2, rfl⟩
  have hi1 : i < y.L.length := by omega
  have hrd : Ent (RefW U y * A) (ReadsA (.slice a1 y.L.length c1) y.L) := by rw [← hvl]; exact RefW.rd U y A
  obtain ⟨_, _, e9, hoa⟩ := rdA_form h2 (hR.trans hrd)
  simp only [Value.slice.injEq, true_and] at e9
  obtain ⟨rfl, rfl⟩ := e9
  obtain ⟨b, o, rfl⟩ := hoa i hi1
  have r2 := (rdA_cells h2 (hR.trans hrd) hi1).2
  have hx := RefW.ms (U := U) ok A _ (List.getElem_mem hi1)
  have hmt := members_text (L := accs y.L) (List.mem_map_of_mem (f := (·.1)) (List.getElem_mem hi1))
  have htx := ok.txt
  have hst : (accs y.L).take (i + 1) = (accs y.L).take i ++ [y.L[i].1] := by rw [List.take_succ_eq_append_getElem (by simpa using hi1)]; simp
  obtain ⟨z, hz⟩ : ∃ z, z = y.L[i] := ⟨_, rfl⟩
  simp only [← hz] at r2 hx hst hmt
  obtain ⟨a, va⟩ := z
  obtain ⟨x1, x2, x3⟩ := hx
  simp only at x1 x2 x3 r2 hst hmt
  simp -dsimp -implicitDefEqProofs (disch := omega) only [go_sem, reqD_of, dec_t, dec_f, wrap_i64, wrap_u32, wrap_u64, wrap_u8, hd, e0, e3, e4, hlt, cU, r2]
  refine (rown_any h2 (hR.trans x1) (by omega)).mono ?_
  rintro e' w3 ⟨v3, h3, rfl⟩
  obtain ⟨a3, c3, rfl, _⟩ := h3.rowForm v3
  simp -dsimp -implicitDefEqProofs (disch := omega) only [go_sem, reqD_of, dec_t, dec_f, wrap_i64, wrap_u32, wrap_u64, wrap_u8, hd, e0, e3, e4]
  refine h3.lit (t := 38) (n := 1) (cells := accL a (.slice a3 a.members.length c3)) fact_rowTy_38 rfl (by decide) (by decide) fun v8 w8 h8 => ?_
  obtain ⟨a8, c8, rfl, _⟩ := h8.rowForm v8
  simp -dsimp -implicitDefEqProofs (disch := omega) only [go_sem, reqD_of, dec_t, dec_f, wrap_i64, wrap_u32, wrap_u64, wrap_u8, hd, e0, e3, e4]
  refine h8.appR (v := .slice ao L'.length co) (x := .slice a8 1 c8) fact_rowTy_38 Tryz.underlying38 (fun u hu => by simp at hu; rcases hu with rfl | rfl | rfl | rfl <;> rfl) (by simp) (show _ ≤ 9223372036854775807 by omega) (by omega) fun v9 w9 h9 => ?_
  obtain ⟨a9, c9, rfl, _⟩ := h9.rowForm v9
  simp -dsimp -implicitDefEqProofs (disch := omega) only [go_sem, reqD_of, dec_t, dec_f, wrap_i64, wrap_u32, wrap_u64, wrap_u8, hd, e0, e4]
  have q1 : (L' ++ [(a, Value.slice a3 a.members.length c3)]).length = L'.length + 1 := by simp
  have q2 : (L' ++ [(a, Value.slice a3 a.members.length c3)]).flatMap accC = L'.flatMap accC ++ accL a (.slice a3 a.members.length c3) := by simp
  refine ⟨⟨i + 1, .slice a9 (L'.length + 1) c9, L' ++ [(a, Value.slice a3 a.members.length c3)], rowT (.slice a3 a.members.length c3) a.members * B, by omega, by first | rfl | (simp -dsimp -implicitDefEqProofs only [go_sem]; done), by omega, by rw [accs, List.map_append, ← accs, hL, hst]; rfl, ?_, ?_⟩, by omega⟩
  · intro x hx
    rcases List.mem_append.1 hx with hx | hx
    · exact ⟨(Ent.right _ _).trans (hB x hx).1, (hB x hx).2⟩
    · simp only [List.mem_singleton] at hx
      subst hx
      exact ⟨(Ent.left _ _).trans (RowO.reads _ _ _ _ _), x2, rfl⟩
  · unfold rowA
    rw [q1, q2]
    have h10 : St w0 (RowO 72 4 (.slice a9 (L'.length + 1) c9) (L'.length + 1) (L'.flatMap accC ++ accL a (.slice a3 a.members.length c3)) * (rowT (.slice a3 a.members.length c3) a.members * (B * (RefW U y * A)))) w9 := h9.sub
    exact h10.ac (by unfold RefW rowA; ac_rfl)

/-! ### asks -/

end
section
attribute [local go_sem] F47.t6_eq
theorem asks_any {w0 w : World} {A : HP} {T m U Bk n : Nat} {x : UT} {y : RT} (ok : x.Ok) (oky : y.Ok) (he : accs x.L = accs y.L) (hn : n < 100000000) (a b : List UInt8) (h : St w0 (BookP Bk n * (TabW T m x * (RefW U y * A))) w) :
    Calls Tryz.prog 47 #[.pointer (some ⟨T, 0, none⟩), .pointer (some ⟨U, 0, none⟩), .string (strOf a), .string (strOf b), .pointer (some ⟨Bk, 0, none⟩)] w fun e w' => St w0 (BookP Bk (n + 1) * (TabW T m x * (RefW U y * A))) w' ∧ e = .returned (.bool true) := by
  have hf := oky.few
  have hxl : x.L.length = y.L.length := by have := congrArg List.length he; simpa using this
  refine F47.calls (by simp) ?_
  unfold F47.code
  simp -dsimp -implicitDefEqProofs (disch := omega) only [go_sem, reqD_of, dec_t, dec_f, wrap_i64, wrap_u32, wrap_u64, wrap_u8]
  refine (groups_any ok (by omega) h.sw2 a).mono ?_
  rintro e w1 ⟨v, h1, rfl⟩
  have hgl : (groupsF (accs x.L) a).length ≤ x.L.length := by
    rw [groups_length]
    refine Nat.le_trans (List.length_filter_le _ _) ?_
    simp
  obtain ⟨a1, c1, rfl, _⟩ := h1.rowForm v
  simp -dsimp -implicitDefEqProofs (disch := omega) only [go_sem, reqD_of, dec_t, dec_f, wrap_i64, wrap_u32, wrap_u64, wrap_u8]
  have h2 : St w0 (RefW U y * (rowT (.slice a1 (groupsF (accs x.L) a).length c1) (groupsF (accs x.L) a) * (TabW T m x * (BookP Bk n * A)))) w1 := h1.ac (by ac_rfl)
  refine (rgroups_any oky h2 a).mono ?_
  rw [← he]
  rintro e w2 ⟨v', h3, rfl⟩
  obtain ⟨a3, c3, rfl, _⟩ := h3.rowForm v'
  simp -dsimp -implicitDefEqProofs (disch := omega) only [go_sem, reqD_of, dec_t, dec_f, wrap_i64, wrap_u32, wrap_u64, wrap_u8]
  refine (sameTexts_any (xs := groupsF (accs x.L) a) (ys := groupsF (accs x.L) a) h3 ((Ent.right _ _).trans ((Ent.right _ _).trans ((Ent.left _ _).trans (RowO.reads _ _ _ _ _)))) ((Ent.left _ _).trans (RowO.reads _ _ _ _ _)) (by omega) (by omega)).mono ?_
  rintro e w3 ⟨h4, rfl⟩
  have q1 : decide (groupsF (accs x.L) a = groupsF (accs x.L) a) = true := decide_eq_true rfl
  rw [q1]
  simp -dsimp -implicitDefEqProofs (disch := omega) only [go_sem, reqD_of, dec_t, dec_f, wrap_i64, wrap_u32, wrap_u64, wrap_u8]
  have h5 : St w0 (BookP Bk n * (rowT (.slice a1 (groupsF (accs x.L) a).length c1) (groupsF (accs x.L) a) * (rowT (.slice a3 (groupsF (accs x.L) a).length c3) (groupsF (accs x.L) a) * (TabW T m x * (RefW U y * A))))) w3 := h4.ac (by ac_rfl)
  refine (owns_any hn (by omega) h5).mono ?_
  rintro e w4 ⟨h6, rfl⟩
  have h7 : St w0 (TabW T m x * (RefW U y * (BookP Bk (n + 1) * A))) w4 := (h6.ac (by ac_rfl : _ = rowT (.slice a3 (groupsF (accs x.L) a).length c3) (groupsF (accs x.L) a) * (TabW T m x * (RefW U y * (BookP Bk (n + 1) * A))))).right
  simp -dsimp -implicitDefEqProofs (disch := omega) only [go_sem, reqD_of, dec_t, dec_f, wrap_i64, wrap_u32, wrap_u64, wrap_u8]
  refine (known_any h7 a).mono ?_
  rintro e w5 ⟨h8, rfl⟩
  simp -dsimp -implicitDefEqProofs (disch := omega) only [go_sem, reqD_of, dec_t, dec_f, wrap_i64, wrap_u32, wrap_u64, wrap_u8]
  refine (rknown_any oky h8.sw2 a).mono ?_
  rw [← he]
  rintro e w6 ⟨h9, rfl⟩
  have bb : ∀ q : Bool, (q == q) = true := fun q => beq_self_eq_true q
  simp -dsimp -implicitDefEqProofs (disch := omega) only [go_sem, reqD_of, dec_t, dec_f, wrap_i64, wrap_u32, wrap_u64, wrap_u8, bb]
  refine (keyT_any h9.sw2 a).mono ?_
  rintro e w7 ⟨h10, rfl⟩
  simp -dsimp -implicitDefEqProofs (disch := omega) only [go_sem, reqD_of, dec_t, dec_f, wrap_i64, wrap_u32, wrap_u64, wrap_u8]
  refine (rkey_any oky h10.sw2 a).mono ?_
  rw [← he]
  rintro e w8 ⟨h11, rfl⟩
  have q2 : decide (keyOf (accs x.L) a = keyOf (accs x.L) a) = true := decide_eq_true rfl
  simp -dsimp -implicitDefEqProofs (disch := omega) only [go_sem, reqD_of, dec_t, dec_f, wrap_i64, wrap_u32, wrap_u64, wrap_u8, q2]
  refine (member_any ok h11.sw2 a b).mono ?_
  rintro e w9 ⟨h12, rfl⟩
  simp -dsimp -implicitDefEqProofs (disch := omega) only [go_sem, reqD_of, dec_t, dec_f, wrap_i64, wrap_u32, wrap_u64, wrap_u8]
  refine (rmember_any oky h12.sw2 a b).mono ?_
  rw [← he]
  rintro e w10 ⟨h13, rfl⟩
  simp -dsimp -implicitDefEqProofs (disch := omega) only [go_sem, reqD_of, dec_t, dec_f, wrap_i64, wrap_u32, wrap_u64, wrap_u8, bb]
  refine (member_any ok h13.sw2 b a).mono ?_
  rintro e w11 ⟨h14, rfl⟩
  simp -dsimp -implicitDefEqProofs (disch := omega) only [go_sem, reqD_of, dec_t, dec_f, wrap_i64, wrap_u32, wrap_u64, wrap_u8]
  refine (rmember_any oky h14.sw2 b a).mono ?_
  rw [← he]
  rintro e w12 ⟨h15, rfl⟩
  simp -dsimp -implicitDefEqProofs (disch := omega) only [go_sem, reqD_of, dec_t, dec_f, wrap_i64, wrap_u32, wrap_u64, wrap_u8, bb]
  refine (leads_any ok h15.sw2 a b).mono ?_
  rintro e w13 ⟨h16, rfl⟩
  simp -dsimp -implicitDefEqProofs (disch := omega) only [go_sem, reqD_of, dec_t, dec_f, wrap_i64, wrap_u32, wrap_u64, wrap_u8]
  refine (rleads_any oky h16.sw2 a b).mono ?_
  rw [← he]
  rintro e w14 ⟨h17, rfl⟩
  simp -dsimp -implicitDefEqProofs (disch := omega) only [go_sem, reqD_of, dec_t, dec_f, wrap_i64, wrap_u32, wrap_u64, wrap_u8, bb]
  refine (leads_any ok h17.sw2 b a).mono ?_
  rintro e w15 ⟨h18, rfl⟩
  simp -dsimp -implicitDefEqProofs (disch := omega) only [go_sem, reqD_of, dec_t, dec_f, wrap_i64, wrap_u32, wrap_u64, wrap_u8]
  refine (rleads_any oky h18.sw2 b a).mono ?_
  rw [← he]
  rintro e w16 ⟨h19, rfl⟩
  simp -dsimp -implicitDefEqProofs (disch := omega) only [go_sem, reqD_of, dec_t, dec_f, wrap_i64, wrap_u32, wrap_u64, wrap_u8, bb]
  exact h19.ac (by ac_rfl)
end
end Go.Proofs.YtkijkoakloacoaaGreatDoor

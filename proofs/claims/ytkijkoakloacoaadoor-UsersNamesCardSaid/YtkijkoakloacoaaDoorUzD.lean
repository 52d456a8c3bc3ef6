/- users: name, key, formed, once: how an account is checked. -/
import Derived.Test.YtkijkoakloacoaaDoorUzC
import Derived.Test.YtkijkoakloacoaaDoorAx
namespace Go.Proofs.YtkijkoakloacoaaDoor
open Go
set_option linter.unusedVariables false
set_option linter.unusedSimpArgs false
set_option maxRecDepth 100000

section
attribute [local go_sem] F57.t5_eq F57.t8_eq F57.t3_eq
theorem name_any {w0 w : World} {A : HP} (h : St w0 A w) [Gives A Tabs] {l : List UInt8} :
    Calls Tryd.prog 57 #[.string (strOf l)] w fun e w' => St w0 A w' ∧ e = .returned (.bool (nameF l)) := by
  refine F57.calls (by simp) ?_
  unfold F57.code
  by_cases h0 : l = []
  · have hn : nameF l = false := by simp [nameF, h0]
    have e0 : decide (l = []) = true := by simp [h0]
    rw [hn]
    simp -dsimp -implicitDefEqProofs (disch := omega) only [go_sem, reqD_of, dec_t, dec_f, wrap_i64, wrap_u32, wrap_u64, wrap_u8, e0]
    exact h
  by_cases h1 : (32 : Int) < l.length
  · have hn : nameF l = false := by
      have : ¬ l.length ≤ 32 := by omega
      simp [nameF, this]
    rw [hn]
    simp -dsimp -implicitDefEqProofs (disch := omega) only [go_sem, reqD_of, dec_t, dec_f, wrap_i64, wrap_u32, wrap_u64, wrap_u8, h0, h1]
    exact h
  simp -dsimp -implicitDefEqProofs (disch := omega) only [go_sem, reqD_of, dec_t, dec_f, wrap_i64, wrap_u32, wrap_u64, wrap_u8, h0, h1]
  refine (good_any h (by omega)).mono ?_
  rintro e w1 ⟨k1, rfl⟩
  cases hg : good l
  · have hn : nameF l = false := by simp [nameF, hg]
    rw [hn]
    simp -dsimp -implicitDefEqProofs (disch := omega) only [go_sem, reqD_of, dec_t, dec_f, wrap_i64, wrap_u32, wrap_u64, wrap_u8]
    exact k1
  have hl : l.length ≤ 32 := by omega
  have hn : nameF l = (runes l).all fun r => !badR r := by
    have e0 : (l == []) = false := by simpa using h0
    simp [nameF, hg, hl, e0]
  rw [hn]
  simp -dsimp -implicitDefEqProofs (disch := omega) only [go_sem, reqD_of, dec_t, dec_f, wrap_i64, wrap_u32, wrap_u64, wrap_u8]
  refine k1.rangeS (by kernel_rfl) fun r w2 k2 => ?_
  simp -dsimp -implicitDefEqProofs (disch := omega) only [go_sem, reqD_of, dec_t, dec_f, wrap_i64, wrap_u32, wrap_u64, wrap_u8]
  refine loop_intro (fun e w' => e.ds = [] ∧ e.ρ 18 = .pointer (some ⟨r, 0, none⟩) ∧ ∃ pos : Nat, pos ≤ l.length ∧ ((runes l).all fun r => !badR r) = ((runes (l.drop pos)).all fun r => !badR r) ∧ St w0 (Blk r (.stringIter (strOf l) pos) * A) w')
    (fun e w' => match w'.heap[r]? with | some (.stringIter _ p) => l.length - p | _ => 0) ?_ ?_
  · exact ⟨rfl, by simp -dsimp -implicitDefEqProofs only [go_sem], 0, by omega, by simp, k2⟩
  clear k2 k1 h
  rintro e w2 ⟨hd, e8, pos, hpos, hq, h2⟩
  simp -dsimp -implicitDefEqProofs (disch := omega) only [go_sem, reqD_of, dec_t, dec_f, wrap_i64, wrap_u32, wrap_u64, wrap_u8, hd, e8]
  refine h2.nextS (fun hn => ?_) fun hm w3 h3 => ?_
  · have : l.drop pos = [] := List.drop_of_length_le (by omega)
    rw [this, runes_nil] at hq
    simp -dsimp -implicitDefEqProofs (disch := omega) only [go_sem, reqD_of, dec_t, dec_f, wrap_i64, wrap_u32, wrap_u64, wrap_u8, hd, e8]
    exact ⟨h2.right, by rw [hq]; rfl⟩
  · have hne : l.drop pos ≠ [] := fun e => by have := congrArg List.length e; simp at this; omega
    have hw := decL_width _ hne
    have hle := decL_le (l.drop pos)
    have hdl : (l.drop pos).length = l.length - pos := by simp
    rw [runes_cons hne, List.all_cons, List.drop_drop] at hq
    obtain ⟨c, hc⟩ : ∃ c, c = (decL (l.drop pos)).1 := ⟨_, rfl⟩
    obtain ⟨n, hn⟩ : ∃ n, n = (decL (l.drop pos)).2 := ⟨_, rfl⟩
    rw [← hc] at hle hq
    rw [← hn] at hq hw h3
    rw [← hc]
    have m2 := h2.blk
    have m3 := h3.blk
    by_cases c0 : (c : Int) < 33
    · have hb : badR c = true := by
        have : c < 33 := by omega
        simp [badR, this]
      simp -dsimp -implicitDefEqProofs (disch := omega) only [go_sem, reqD_of, dec_t, dec_f, wrap_i64, wrap_u32, wrap_u64, wrap_u8, hd, e8, c0]
      exact ⟨h3.right, by rw [hq, hb]; rfl⟩
    by_cases c1 : (c : Int) = 127
    · have hb : badR c = true := by
        have : c = 127 := by omega
        simp [badR, this]
      simp -dsimp -implicitDefEqProofs (disch := omega) only [go_sem, reqD_of, dec_t, dec_f, wrap_i64, wrap_u32, wrap_u64, wrap_u8, hd, e8, c0, c1]
      exact ⟨h3.right, by rw [hq, hb]; rfl⟩
    simp -dsimp -implicitDefEqProofs (disch := omega) only [go_sem, reqD_of, dec_t, dec_f, wrap_i64, wrap_u32, wrap_u64, wrap_u8, hd, e8, c0, c1]
    refine (sep_any h3 c hle).mono ?_
    rintro e' w4 ⟨h4, rfl⟩
    have m4 := h4.blk
    have hb : badR c = sepR c := by
      have i0 : ¬ c < 33 := by omega
      have i1 : (c == 127) = false := by rw [beq_eq_false_iff_ne]; omega
      simp [badR, sepR, i0, i1]
    cases hs : sepR c
    · simp -dsimp -implicitDefEqProofs (disch := omega) only [go_sem, reqD_of, dec_t, dec_f, wrap_i64, wrap_u32, wrap_u64, wrap_u8, hd, e8, m2, m4]
      exact ⟨⟨pos + n, by omega, by rw [hq, hb, hs]; rfl, h4⟩, by omega⟩
    · simp -dsimp -implicitDefEqProofs (disch := omega) only [go_sem, reqD_of, dec_t, dec_f, wrap_i64, wrap_u32, wrap_u64, wrap_u8, hd, e8]
      exact ⟨h4.right, by rw [hq, hb, hs]; rfl⟩

end
section
attribute [local go_sem] F60.t6_eq F60.t3_eq F60.t7_eq
theorem key_any {l : List UInt8} (hl : l.length ≤ 9223372036854775806) (w : World) :
    Calls Tryd.prog 60 #[.string (strOf l)] w fun e w' => w' = w ∧ e = .returned (.bool (keyF l)) := by
  refine F60.calls (by simp) ?_
  unfold F60.code
  simp -dsimp -implicitDefEqProofs (disch := omega) only [go_sem, reqD_of, dec_t, dec_f, wrap_i64, wrap_u32, wrap_u64, wrap_u8]
  refine loop_intro (fun e w' => e.ds = [] ∧ w' = w ∧ e.ρ 0 = .string (strOf l) ∧ e.ρ 5 = .int .i64 l.length ∧ ∃ i : Nat, i ≤ l.length ∧ e.ρ 6 = .int .i64 i ∧ keyF l = keyF' l i)
    (fun e _ => match e.ρ 6 with | .int _ n => (l.length - n).toNat | _ => 0) ?_ ?_
  · exact ⟨rfl, rfl, by simp -dsimp -implicitDefEqProofs only [go_sem], by simp -dsimp -implicitDefEqProofs only [go_sem], 0, by omega, by simp -dsimp -implicitDefEqProofs only [go_sem], rfl⟩
  rintro e w2 ⟨hd, rfl, e0, e5, i, hi, e6, hk⟩
  by_cases hlt : (i : Int) < (l.length : Int)
  case neg =>
    have : l.drop i = [] := List.drop_of_length_le (by omega)
    rw [keyF', this] at hk
    simp -dsimp -implicitDefEqProofs (disch := omega) only [go_sem, reqD_of, dec_t, dec_f, wrap_i64, wrap_u32, wrap_u64, wrap_u8, hd, e0, e5, e6, hlt]
    rw [hk]
    simp only [List.all_nil, Bool.true_and]
    exact decide_eq_decide.2 (by omega)
  have hlt' : i < l.length := by omega
  have hgd : l.getD i 0 = l[i] := by simp [hlt']
  have hdr : l.drop i = l[i] :: l.drop (i + 1) := List.drop_eq_getElem_cons hlt'
  obtain ⟨c, hc⟩ : ∃ c, c = l[i] := ⟨_, rfl⟩
  rw [← hc] at hgd hdr
  rw [keyF', hdr, List.all_cons] at hk
  obtain ⟨n, hn⟩ : ∃ n, n = c.toNat := ⟨_, rfl⟩
  rw [← hn] at hk
  by_cases c0 : (n : Int) < 33
  · have : ¬ 33 ≤ n := by omega
    simp -dsimp -implicitDefEqProofs (disch := omega) only [go_sem, reqD_of, dec_t, dec_f, wrap_i64, wrap_u32, wrap_u64, wrap_u8, hd, e0, e5, e6, hlt, hgd, ← hn, c0]
    rw [hk]; simp [this]
  by_cases c1 : (126 : Int) < n
  · have : ¬ n ≤ 126 := by omega
    simp -dsimp -implicitDefEqProofs (disch := omega) only [go_sem, reqD_of, dec_t, dec_f, wrap_i64, wrap_u32, wrap_u64, wrap_u8, hd, e0, e5, e6, hlt, hgd, ← hn, c0, c1]
    rw [hk]; simp [this]
  by_cases c2 : (n : Int) = 58
  · have : n = 58 := by omega
    simp -dsimp -implicitDefEqProofs (disch := omega) only [go_sem, reqD_of, dec_t, dec_f, wrap_i64, wrap_u32, wrap_u64, wrap_u8, hd, e0, e5, e6, hlt, hgd, ← hn, c0, c1, c2]
    rw [hk]; simp [this]
  have i0 : 33 ≤ n := by omega
  have i1 : n ≤ 126 := by omega
  have i2 : (n == 58) = false := by rw [beq_eq_false_iff_ne]; omega
  simp -dsimp -implicitDefEqProofs (disch := omega) only [go_sem, reqD_of, dec_t, dec_f, wrap_i64, wrap_u32, wrap_u64, wrap_u8, hd, e0, e5, e6, hlt, hgd, ← hn, c0, c1, c2]
  exact ⟨⟨i + 1, by omega, by omega, by rw [hk, keyF']; simp [i0, i1, i2]⟩, by omega⟩

/-! ### A list of texts is looked through -/

end
section
attribute [local go_sem] F71.t6_eq F71.t3_eq F71.t7_eq
theorem index_any {w0 w : World} {A : HP} (h : St w0 A w) {v : Value} {ls : List (List UInt8)} (hv : Ent A (Reads 1 v ls.length (ls.map sv))) (hl : ls.length ≤ 4294967296) (x : List UInt8) :
    Calls Tryd.prog 71 #[v, .string (strOf x)] w fun e w' => St w0 A w' ∧ ∃ k : Int, e = .returned (.int .i64 k) ∧ decide (0 ≤ k) = decide (x ∈ ls) := by
  obtain ⟨a, c, rfl, hc, hx⟩ := h.texts hv
  refine F71.calls (by simp) ?_
  unfold F71.code
  simp -dsimp -implicitDefEqProofs (disch := omega) only [go_sem, reqD_of, dec_t, dec_f, wrap_i64, wrap_u32, wrap_u64, wrap_u8]
  refine loop_intro (fun e w' => e.ds = [] ∧ w' = w ∧ e.ρ 0 = .slice a ls.length c ∧ e.ρ 1 = .string (strOf x) ∧ e.ρ 7 = .int .i64 ls.length ∧ ∃ i : Nat, i ≤ ls.length ∧ e.ρ 8 = .int .i64 i ∧ x ∉ ls.take i)
    (fun e _ => match e.ρ 8 with | .int _ n => (ls.length - n).toNat | _ => 0) ?_ ?_
  · exact ⟨rfl, rfl, by simp -dsimp -implicitDefEqProofs only [go_sem], by simp -dsimp -implicitDefEqProofs only [go_sem], by simp -dsimp -implicitDefEqProofs only [go_sem], 0, by omega, by simp -dsimp -implicitDefEqProofs only [go_sem], by simp⟩
  rintro e w2 ⟨hd, rfl, e0, e1, e7, i, hi, e8, hk⟩
  by_cases hlt : (i : Int) < (ls.length : Int)
  case neg =>
    rw [List.take_of_length_le (by omega)] at hk
    simp -dsimp -implicitDefEqProofs (disch := omega) only [go_sem, reqD_of, dec_t, dec_f, wrap_i64, wrap_u32, wrap_u64, wrap_u8, hd, e0, e1, e7, e8, hlt]
    exact ⟨h, _, rfl, by simp [hk]⟩
  have hlt' : i < ls.length := by omega
  rcases hx with rfl | ⟨b, o, rfl, _, hcell⟩
  · simp at hlt'
  have c0 := hcell i _ (List.getElem?_eq_getElem hlt')
  obtain ⟨q, hq⟩ : ∃ q, q = ls[i] := ⟨_, rfl⟩
  rw [← hq] at c0
  by_cases hxq : x = q
  · have e9 : decide (x = q) = true := by simp [hxq]
    simp -dsimp -implicitDefEqProofs (disch := omega) only [go_sem, reqD_of, dec_t, dec_f, wrap_i64, wrap_u32, wrap_u64, wrap_u8, hd, e0, e1, e7, e8, hlt, c0, e9]
    refine ⟨h, _, rfl, ?_⟩
    have : x ∈ ls := by rw [hxq, hq]; exact List.getElem_mem hlt'
    simp [this]
  · simp -dsimp -implicitDefEqProofs (disch := omega) only [go_sem, reqD_of, dec_t, dec_f, wrap_i64, wrap_u32, wrap_u64, wrap_u8, hd, e0, e1, e7, e8, hlt, c0, hxq]
    refine ⟨⟨i + 1, by omega, by omega, ?_⟩, by omega⟩
    rw [List.take_succ_eq_append_getElem hlt', ← hq]
    simp only [List.mem_append, List.mem_singleton, not_or]
    exact ⟨hk, hxq⟩

end

theorem contains_any {w0 w : World} {A : HP} (h : St w0 A w) {v : Value} {ls : List (List UInt8)} (hv : Ent A (Reads 1 v ls.length (ls.map sv))) (hl : ls.length ≤ 4294967296) (x : List UInt8) :
    Calls Tryd.prog 61 #[v, .string (strOf x)] w fun e w' => St w0 A w' ∧ e = .returned (.bool (decide (x ∈ ls))) := by
  refine F61.calls (by simp) ?_
  unfold F61.code
  simp -dsimp -implicitDefEqProofs (disch := omega) only [go_sem, reqD_of, dec_t, dec_f, wrap_i64, wrap_u32, wrap_u64, wrap_u8]
  refine (index_any h hv hl x).mono ?_
  rintro e w1 ⟨h1, k, rfl, hk⟩
  simp -dsimp -implicitDefEqProofs (disch := omega) only [go_sem, reqD_of, dec_t, dec_f, wrap_i64, wrap_u32, wrap_u64, wrap_u8, hk]
  exact h1

/-! ### An account -/

abbrev accL (a : Acc) (v : Value) : List Value := [sv a.name, sv a.leader, v, sv a.key]
abbrev accV (a : Acc) (v : Value) : Value := .agg (accL a v).toArray
abbrev ReadsT (v : Value) (ls : List (List UInt8)) : HP := Reads 1 v ls.length (ls.map sv)
/-- No text or list of it is beyond all bounds. -/
def Fit (a : Acc) : Prop := a.key.length ≤ 16777216 ∧ a.members.length ≤ 16777216
/-- What stands under "need" is so, or it is given up. -/
theorem need_st {w0 w : World} {A : HP} (h : St w0 A w) (b : Bool) (e : Int) : Calls Tryd.prog 38 #[.bool b, .int .i64 e] w fun x w' => St w0 A w' ∧ ((b = true ∧ x = .returned (.tuple #[])) ∨ (b = false ∧ x = .panicked (trouble e))) :=
  (need_any b e w).mono fun x w' ⟨hw, hx⟩ => ⟨hw ▸ h, hx⟩

section
attribute [local go_sem] F37.t7_eq F37.t5_eq F37.t8_eq
theorem formed_any {w0 w : World} {A : HP} (h : St w0 A w) [Gives A Tabs] {a : Acc} {v : Value} (hv : Ent A (ReadsT v a.members)) (hf : Fit a) :
    Calls Tryd.prog 37 #[accV a v] w fun e w' => St w0 A w' ∧ ((formF a = true ∧ e = .returned (.tuple #[])) ∨ (formF a = false ∧ e = .panicked (trouble 60))) := by
  obtain ⟨av, cv, rfl, hcv, hx⟩ := h.texts hv
  refine F37.calls (by simp) ?_
  unfold F37.code
  simp -dsimp -implicitDefEqProofs (disch := omega) only [go_sem, reqD_of, dec_t, dec_f, wrap_i64, wrap_u32, wrap_u64, wrap_u8]
  refine h.new fun P w1 h1 => ?_
  simp -dsimp -implicitDefEqProofs (disch := omega) only [go_sem, reqD_of, dec_t, dec_f, wrap_i64, wrap_u32, wrap_u64, wrap_u8, h1.cl P]
  refine (name_any h1).mono ?_
  rintro e w2 ⟨h2, rfl⟩
  simp -dsimp -implicitDefEqProofs (disch := omega) only [go_sem, reqD_of, dec_t, dec_f, wrap_i64, wrap_u32, wrap_u64, wrap_u8]
  refine (need_st h2 _ _).mono ?_
  rintro e w3 ⟨h3, ⟨n1, rfl⟩ | ⟨n1, rfl⟩⟩
  case inr =>
    have hn : formF a = false := by simp [formF, n1]
    simp -dsimp -implicitDefEqProofs (disch := omega) only [go_sem, reqD_of, dec_t, dec_f, wrap_i64, wrap_u32, wrap_u64, wrap_u8, hn]
    exact h3.right
  have hlist : (a.leader == ([] : List UInt8)) = decide (a.leader = []) := strEq_beq _ _
  by_cases hl : a.leader = []
  have e0 : decide (a.leader = []) = true := by simp [hl]
  simp -dsimp -implicitDefEqProofs (disch := omega) only [go_sem, reqD_of, dec_t, dec_f, wrap_i64, wrap_u32, wrap_u64, wrap_u8, h3.cl P, e0]
  refine (need_st h3 _ _).mono ?_
  rintro e w5 ⟨h5, ⟨_, rfl⟩ | ⟨n2, rfl⟩⟩
  case inr => cases n2
  have n2 : (a.leader == [] || nameF a.leader) = true := by simp [hl]
  simp -dsimp -implicitDefEqProofs (disch := omega) only [go_sem, reqD_of, dec_t, dec_f, wrap_i64, wrap_u32, wrap_u64, wrap_u8, h5.cl P]
  rotate_left
  simp -dsimp -implicitDefEqProofs (disch := omega) only [go_sem, reqD_of, dec_t, dec_f, wrap_i64, wrap_u32, wrap_u64, wrap_u8, h3.cl P, hl]
  refine (name_any h3).mono ?_
  rintro e w4 ⟨h4, rfl⟩
  simp -dsimp -implicitDefEqProofs (disch := omega) only [go_sem, reqD_of, dec_t, dec_f, wrap_i64, wrap_u32, wrap_u64, wrap_u8]
  refine (need_st h4 _ _).mono ?_
  rintro e w5 ⟨h5, ⟨n2, rfl⟩ | ⟨n2, rfl⟩⟩
  case inr =>
    have hn : formF a = false := by simp [formF, n2, hl]
    simp -dsimp -implicitDefEqProofs (disch := omega) only [go_sem, reqD_of, dec_t, dec_f, wrap_i64, wrap_u32, wrap_u64, wrap_u8, hn]
    exact h5.right
  replace n2 : (a.leader == [] || nameF a.leader) = true := by simp [n2]
  simp -dsimp -implicitDefEqProofs (disch := omega) only [go_sem, reqD_of, dec_t, dec_f, wrap_i64, wrap_u32, wrap_u64, wrap_u8, h5.cl P]
  all_goals
    refine loop_intro (fun e w' => e.ds = [] ∧ e.ρ 1 = .pointer (some ⟨P, 0, none⟩) ∧ e.ρ 18 = .slice av a.members.length cv ∧ e.ρ 19 = .int .i64 a.members.length ∧
        St w0 (Blk P (.cells #[sv a.name, sv a.leader, .slice av a.members.length cv, sv a.key] 46 (0, 0)) * A) w' ∧ ∃ i : Nat, i ≤ a.members.length ∧ e.ρ 20 = .int .i64 i ∧ a.members.all nameF = (a.members.drop i).all nameF)
      (fun e _ => match e.ρ 20 with | .int _ n => (a.members.length - n).toNat | _ => 0) ?_ ?_
    · exact ⟨rfl, by simp -dsimp -implicitDefEqProofs only [go_sem], by simp -dsimp -implicitDefEqProofs only [go_sem], by simp -dsimp -implicitDefEqProofs only [go_sem], h5, 0, by omega, by simp -dsimp -implicitDefEqProofs only [go_sem], rfl⟩
    clear h5 h3 h2 h1 hx
    rintro e w6 ⟨hd, e1, e18, e19, h6, i, hi, e20, hk⟩
    obtain ⟨hf1, hf2⟩ := hf
    by_cases hlt : (i : Int) < (a.members.length : Int)
    case neg =>
      have : a.members.drop i = [] := List.drop_of_length_le (by omega)
      rw [this, List.all_nil] at hk
      simp -dsimp -implicitDefEqProofs (disch := omega) only [go_sem, reqD_of, dec_t, dec_f, wrap_i64, wrap_u32, wrap_u64, wrap_u8, hd, e1, e18, e19, e20, hlt, h6.cl P]
      refine (key_any (by omega) w6).mono ?_
      rintro e w7 ⟨rfl, rfl⟩
      simp -dsimp -implicitDefEqProofs (disch := omega) only [go_sem, reqD_of, dec_t, dec_f, wrap_i64, wrap_u32, wrap_u64, wrap_u8]
      refine (need_st h6 _ _).mono ?_
      rintro e w8 ⟨h8, ⟨n3, rfl⟩ | ⟨n3, rfl⟩⟩
      · have hn : formF a = true := by simp only [formF, n1, n2, hk, n3, Bool.and_self]
        simp -dsimp -implicitDefEqProofs (disch := omega) only [go_sem, reqD_of, dec_t, dec_f, wrap_i64, wrap_u32, wrap_u64, wrap_u8, hd, hn]
        exact h8.right
      · have hn : formF a = false := by simp only [formF, n3, Bool.and_false]
        simp -dsimp -implicitDefEqProofs (disch := omega) only [go_sem, reqD_of, dec_t, dec_f, wrap_i64, wrap_u32, wrap_u64, wrap_u8, hd, hn]
        exact h8.right
    have hlt' : i < a.members.length := by omega
    obtain ⟨b, o, rfl, hcell⟩ := (h6.ent ((Ent.right _ _).trans hv)).atS (a := av) (n := a.members.length) (c := cv) (xs := a.members.map sv) (k := i) (by simpa using hlt')
    rw [List.getElem_map] at hcell
    have hdr : a.members.drop i = a.members[i] :: a.members.drop (i + 1) := List.drop_eq_getElem_cons hlt'
    obtain ⟨q, hq⟩ : ∃ q, q = a.members[i] := ⟨_, rfl⟩
    rw [← hq] at hdr hcell
    rw [hdr, List.all_cons] at hk
    simp -dsimp -implicitDefEqProofs (disch := omega) only [go_sem, reqD_of, dec_t, dec_f, wrap_i64, wrap_u32, wrap_u64, wrap_u8, hd, e1, e18, e19, e20, hlt, hcell]
    refine (name_any h6).mono ?_
    rintro e' w7 ⟨h7, rfl⟩
    simp -dsimp -implicitDefEqProofs (disch := omega) only [go_sem, reqD_of, dec_t, dec_f, wrap_i64, wrap_u32, wrap_u64, wrap_u8]
    refine (need_st h7 _ _).mono ?_
    rintro e' w8 ⟨h8, ⟨n3, rfl⟩ | ⟨n3, rfl⟩⟩
    · rw [n3, Bool.true_and] at hk
      simp -dsimp -implicitDefEqProofs (disch := omega) only [go_sem, reqD_of, dec_t, dec_f, wrap_i64, wrap_u32, wrap_u64, wrap_u8, hd, e1, e18, e19, e20]
      exact ⟨⟨h8, i + 1, by omega, by omega, hk⟩, by omega⟩
    · have hn : formF a = false := by rw [n3, Bool.false_and] at hk; simp only [formF, hk, Bool.and_false, Bool.false_and]
      simp -dsimp -implicitDefEqProofs (disch := omega) only [go_sem, reqD_of, dec_t, dec_f, wrap_i64, wrap_u32, wrap_u64, wrap_u8, hd, hn]
      exact h8.right
end
end Go.Proofs.YtkijkoakloacoaaDoor

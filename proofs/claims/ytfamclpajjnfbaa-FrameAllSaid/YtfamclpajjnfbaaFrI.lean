/- All: the frames of some bytes, gone through. -/
import Derived.Test.YtfamclpajjnfbaaFrM
import Derived.Test.YtfamclpajjnfbaaRf
namespace Go.Proofs.Ytfamclpajjnfbaa
open Go
set_option linter.unusedSimpArgs false
set_option linter.unusedVariables false
set_option maxRecDepth 100000

/-! ### The plain law -/

def framesOf (L : Nat) (r : List UInt8) : List (List UInt8) :=
  if h : 4 ≤ r.length ∧ 7 ≤ sizeL r ∧ sizeL r ≤ L ∧ sizeL r ≤ r.length then r.take (sizeL r) :: framesOf L (r.drop (sizeL r)) else []
termination_by r.length
decreasing_by simp; omega

def allFrames (n : Nat) (b : List UInt8) : List (List UInt8) := if okLimit n = true then framesOf n b else []

theorem idle_feed {r : RC} (hh : r.hand = []) (ho : r.over = false) (ok : r.ok) {l : List UInt8} (hl : l ≠ []) :
    0 < (r.feed l).1 ∧ (r.feed l).1 ≤ l.length ∧
      (((r.feed l).2.whole = true ∧ (r.feed l).2.hand = l.take (r.feed l).1 ∧ (r.feed l).2.over = false ∧ framesOf r.most l = l.take (r.feed l).1 :: framesOf r.most (l.drop (r.feed l).1)) ∨
       ((r.feed l).2.whole = false ∧ ((r.feed l).2.feed (l.drop (r.feed l).1)).1 = 0 ∧ framesOf r.most l = [])) := by
  have hpos : 0 < l.length := List.length_pos_iff.2 hl
  obtain ⟨ov, pl, e, hle, hor⟩ := RC.feed_gen l r ho (by rw [hh]; simp)
  rw [hh] at e hle hor
  simp only [List.nil_append, List.length_nil, Nat.sub_zero] at e hle hor
  rw [e]
  simp only
  have hsl := stop_le r.most l
  rcases hor with ⟨h1, h2, h3, _, _⟩ | ⟨h1, _, h3⟩
  · subst h1
    have hst : stop r.most l = 4 := by unfold stop; rw [if_neg (by omega), if_pos h3]
    refine ⟨by omega, by omega, .inr ⟨by simp [RC.whole], ?_, ?_⟩⟩
    · cases l.drop (stop r.most l) <;> simp [RC.feed]
    · rw [framesOf, dif_neg (by omega)]
  · subst h1
    rcases h3 with h3 | ⟨h3, h4⟩
    · have hst : stop r.most l = l.length := by unfold stop; rw [if_pos h3]
      rw [hst]
      refine ⟨by omega, by omega, .inr ⟨?_, ?_, ?_⟩⟩
      · simp [RC.whole]; intro h; omega
      · simp [RC.feed]
      · rw [framesOf, dif_neg (by omega)]
    · by_cases h5 : l.length < 4
      · have hst : stop r.most l = l.length := by unfold stop; rw [if_pos h5]
        rw [hst]
        refine ⟨by omega, by omega, .inr ⟨?_, ?_, ?_⟩⟩
        · simp [RC.whole]; intro h; omega
        · simp [RC.feed]
        · rw [framesOf, dif_neg (by omega)]
      · have hst : stop r.most l = min l.length (sizeL l) := by unfold stop; rw [if_neg h5, if_neg (by omega)]
        have hzt : ∀ k, 4 ≤ k → sizeL (l.take k) = sizeL l := fun k hk => by
          have := sizeL_app (l.take k) (by simp; omega) (l.drop k)
          rw [List.take_append_drop] at this
          exact this.symm
        rw [hst]
        refine ⟨by omega, by omega, ?_⟩
        by_cases h6 : sizeL l ≤ l.length
        · rw [Nat.min_eq_right h6]
          refine .inl ⟨?_, trivial, rfl, ?_⟩
          · unfold RC.whole
            simp only [hzt _ (show 4 ≤ sizeL l by omega)]
            simp; omega
          · rw [framesOf, dif_pos (by omega)]
        · rw [Nat.min_eq_left (by omega)]
          refine .inr ⟨?_, ?_, ?_⟩
          · rw [List.take_of_length_le (Nat.le_refl _)]
            unfold RC.whole
            simp; intro _; omega
          · simp [RC.feed]
          · rw [framesOf, dif_neg (by omega)]

/-! ### The walks -/

/-- What All's function holds on to. -/
def AllB (B3 B5 n : Nat) (v : Value) (b : List UInt8) : HP := Blk B3 (.cells #[.int .u32 n] 30 (0, 0)) * (Blk B5 (.cells #[v] 35 (0, 0)) * Row 5 1 v b.length (b.map bv))


theorem all_any {w0 w : World} {F : HP} {v : Value} {b : List UInt8} {n : Nat} (h : St w0 F w) (ha : Ent F (RdB v b)) (hb : b.length ≤ 140737488351232) :
    Calls Try.prog 30 #[v, .int .u32 n] w fun e w' => ∃ B3 B5 v', St w0 (AllB B3 B5 n v' b * F) w' ∧ e = .returned (.func (.func 47) #[] #[.pointer (some ⟨B3, 0, none⟩), .pointer (some ⟨B5, 0, none⟩)]) := by
  obtain ⟨pa, ca, rfl, hca, hra⟩ := (h.ent ha).bytes
  refine F30.calls (by simp) ?_
  unfold F30.code
  simp -dsimp -implicitDefEqProofs (disch := omega) only [go_sem, reqD_of, dec_t, dec_f, wrap_i64, wrap_u32, wrap_u64, wrap_u8]
  refine h.new fun B3 w1 h1 => ?_
  simp -dsimp -implicitDefEqProofs (disch := omega) only [go_sem, reqD_of, dec_t, dec_f, wrap_i64, wrap_u32, wrap_u64, wrap_u8]
  have h2 := h1.ent (Ent.nilRow 5 1 _)
  refine h2.append fact_rowTy_35 ((((h2.right.right).ent ha).rd).src Try.underlying35 (bv_isCell _) (fun h => by simpa using h)) (by simp [maxLen]; omega) (by omega) fun v1 w2 h3 => ?_
  simp -dsimp -implicitDefEqProofs (disch := omega) only [go_sem, reqD_of, dec_t, dec_f, wrap_i64, wrap_u32, wrap_u64, wrap_u8]
  refine h3.new fun B5 w3 h4 => ?_
  simp -dsimp -implicitDefEqProofs (disch := omega) only [go_sem, reqD_of, dec_t, dec_f, wrap_i64, wrap_u32, wrap_u64, wrap_u8]
  refine h4.store (arr' := #[v1]) rfl (by simp) ?_ fun w4 h5 => ?_
  · obtain ⟨a, c, rfl, _⟩ := Row.form h3; rfl
  simp -dsimp -implicitDefEqProofs (disch := omega) only [go_sem, reqD_of, dec_t, dec_f, wrap_i64, wrap_u32, wrap_u64, wrap_u8]
  have hz : 0 + b.length = b.length := by omega
  rw [hz] at h5
  refine ⟨B3, B5, v1, h5.ac (by unfold AllB; simp only [List.nil_append]; ac_rfl), rfl⟩

def PassB (x : List UInt8) (args : Array Value) : HP := HP.ex fun v => HP.fact (args = #[v]) (Row 5 1 v x.length (x.map bv))

theorem PassB.mk {v : Value} {x : List UInt8} {n : Nat} (hn : n = x.length) : Ent (Row 5 1 v n (x.map bv)) (PassB x #[v]) := by
  subst hn
  exact (Ent.fact rfl _).trans (Ent.ex (fun v' => HP.fact (#[v] = #[v']) (Row 5 1 v' x.length (x.map bv))) v)

section
attribute [local go_sem] F47.t7_eq F47.t5_eq F47.t8_eq F47.t4_eq F47.t3_eq F47.t2_eq
theorem iter_all {w0 : World} {B3 B5 n : Nat} {v : Value} {b : List UInt8} {R : HP} (hb : b.length ≤ 140737488351232) :
    IterOk Try.prog w0 47 #[.pointer (some ⟨B3, 0, none⟩), .pointer (some ⟨B5, 0, none⟩)] PassB (fun pre => ∃ post, allFrames n b = pre ++ post) (fun xs => xs = allFrames n b) (AllB B3 B5 n v b * R) (AllB B3 B5 n v b * R) := by
  intro l w1 J X hy h
  show Calls _ 47 #[.func (.yield l) #[] #[], .pointer (some ⟨B3, 0, none⟩), .pointer (some ⟨B5, 0, none⟩)] w1 _
  have h1 : St w0 (Blk B3 (.cells #[.int .u32 n] 30 (0, 0)) * (Blk B5 (.cells #[v] 35 (0, 0)) * (Row 5 1 v b.length (b.map bv) * (J [] * R)))) w1 := h.ac (by unfold AllB; ac_rfl)
  have hc3 := h1.cells
  refine F47.calls (by simp) ?_
  unfold F47.code
  simp -dsimp -implicitDefEqProofs (disch := omega) only [go_sem, reqD_of, dec_t, dec_f, wrap_i64, wrap_u32, wrap_u64, wrap_u8, hc3]
  by_cases hn : okLimit n = true
  case neg =>
    have hn' : okLimit n = false := by simpa using hn
    refine (new_no h hn').mono ?_
    rintro e w2 ⟨h2, rfl⟩
    simp -dsimp -implicitDefEqProofs (disch := omega) only [go_sem, reqD_of, dec_t, dec_f, wrap_i64, wrap_u32, wrap_u64, wrap_u8]
    exact ⟨⟨_, rfl⟩, .inl ⟨[], by simp [allFrames, hn'], h2⟩⟩
  refine (newR_yes h1 hn).mono ?_
  rintro e w2 ⟨c, h2, rfl⟩
  have hc5 := h2.sw3.cells
  have hlim := hn
  simp [okLimit] at hlim
  have hall : allFrames n b = framesOf n b := by unfold allFrames; rw [if_pos hn]
  rw [hall]
  obtain ⟨M, hM⟩ : ∃ M, M = AllB B3 B5 n v b * R := ⟨_, rfl⟩
  have hrow : Ent M (RdB v b) := by
    rw [hM]; unfold AllB
    exact (Ent.left _ _).trans ((Ent.right _ _).trans ((Ent.right _ _).trans (Row.reads _ _ _ _ _)))
  have h3 : St w0 (CutR c (RC.new n) * (J [] * M)) w2 := h2.ac (by rw [hM]; unfold AllB; ac_rfl)
  rw [← hM]
  clear h2 hc3 h1 h hM
  simp -dsimp -implicitDefEqProofs (disch := omega) only [go_sem, reqD_of, dec_t, dec_f, wrap_i64, wrap_u32, wrap_u64, wrap_u8, hc5]
  refine loop_intro (fun e w' => e.ds = [] ∧ e.ρ 0 = .func (.yield l) #[] #[] ∧ e.ρ 4 = .pointer (some ⟨c, 0, none⟩) ∧
      ∃ (r : RC) (rest : List UInt8) (pre : List (List UInt8)) (a : Option Addr) (cp : Nat), e.ρ 5 = .slice a rest.length cp ∧ Ent M (RdB (.slice a rest.length cp) rest) ∧ rest.length ≤ b.length ∧ r.hand = [] ∧ r.over = false ∧ r.most = n ∧ r.ok ∧ r.bytes + rest.length ≤ b.length ∧
        framesOf n b = pre ++ framesOf n rest ∧ St w0 (CutR c r * (J pre * M)) w')
    (fun e _ => match e.ρ 5 with | .slice _ k _ => k | _ => 0) ?_ ?_
  · obtain ⟨a, cp, hv, _⟩ := (h3.ent ((Ent.right _ _).trans ((Ent.right _ _).trans hrow))).bytes
    subst hv
    exact ⟨rfl, by simp -dsimp -implicitDefEqProofs only [go_sem], by simp -dsimp -implicitDefEqProofs only [go_sem], RC.new n, b, [], a, cp, by simp -dsimp -implicitDefEqProofs only [go_sem], hrow, Nat.le_refl _, rfl, rfl, rfl, RC.ok_new hn, by simp [RC.new], rfl, h3⟩
  clear h3 hc5
  rintro e w3 ⟨hd, e0, e4, r, rest, pre, a, cp, e5, hrd, hlen, hh, ho, hmost, ok, hby, hfr, h3⟩
  by_cases hpos : (0 : Int) < (rest.length : Int)
  case neg =>
    simp -dsimp -implicitDefEqProofs (disch := omega) only [go_sem, reqD_of, dec_t, dec_f, wrap_i64, wrap_u32, wrap_u64, wrap_u8, hd, e0, e4, e5, hpos]
    refine ⟨⟨_, rfl⟩, .inl ⟨pre, ?_, h3.right⟩⟩
    have : rest = [] := List.eq_nil_of_length_eq_zero (by omega)
    rw [this] at hfr
    rw [hfr]
    rw [framesOf]; simp
  simp -dsimp -implicitDefEqProofs (disch := omega) only [go_sem, reqD_of, dec_t, dec_f, wrap_i64, wrap_u32, wrap_u64, wrap_u8, hd, e0, e4, e5, hpos]
  have hne : rest ≠ [] := fun h => by rw [h] at hpos; simp at hpos
  obtain ⟨f1, f2, hor⟩ := idle_feed hh ho ok hne
  refine loop_intro (fun e w' => e.ds = [] ∧ e.ρ 0 = .func (.yield l) #[] #[] ∧ e.ρ 4 = .pointer (some ⟨c, 0, none⟩) ∧
      ((e.ρ 5 = .slice a rest.length cp ∧ St w0 (CutR c r * (J pre * M)) w') ∨
       (∃ a2 cp2, e.ρ 5 = .slice a2 (rest.drop (r.feed rest).1).length cp2 ∧ Ent M (RdB (.slice a2 (rest.drop (r.feed rest).1).length cp2) (rest.drop (r.feed rest).1)) ∧ St w0 (CutR c (r.feed rest).2 * (J pre * M)) w')))
    (fun e _ => match e.ρ 5 with | .slice _ k _ => k | _ => 0) ?_ ?_
  · exact ⟨by simp -dsimp -implicitDefEqProofs only [go_sem, hd], by simp -dsimp -implicitDefEqProofs only [go_sem, e0], by simp -dsimp -implicitDefEqProofs only [go_sem, e4], .inl ⟨by simp -dsimp -implicitDefEqProofs only [go_sem, e5], h3⟩⟩
  have ok1 := RC.ok_feed rest r ok (by omega)
  have hnot : r.whole = false := by unfold RC.whole; rw [hh]; simp
  rintro e1 w4 ⟨hd1, g0, g4, ⟨g5, h4⟩ | ⟨a2, cp2, g5, hrd2, h4⟩⟩
  · -- nothing is fed yet
    simp -dsimp -implicitDefEqProofs (disch := omega) only [go_sem, reqD_of, dec_t, dec_f, wrap_i64, wrap_u32, wrap_u64, wrap_u8, hd1, g0, g4, g5]
    refine (wholeR h4 ok).mono ?_
    rintro e' w5 ⟨h5, rfl⟩
    rw [hnot]
    simp -dsimp -implicitDefEqProofs (disch := omega) only [go_sem, reqD_of, dec_t, dec_f, wrap_i64, wrap_u32, wrap_u64, wrap_u8, hd1, g0, g4, g5]
    refine (feedR h5 ((Ent.right _ _).trans hrd) ok (by omega)).mono ?_
    rintro e' w6 ⟨h6, rfl⟩
    obtain ⟨a', cp', hv, hca, _⟩ := ((h6.ent ((Ent.right _ _).trans ((Ent.right _ _).trans hrd)))).bytes
    simp only [Value.slice.injEq, true_and] at hv
    obtain ⟨rfl, rfl⟩ := hv
    have hsub := hrd.trans (RdB.sub (lo := (r.feed rest).1) (k := rest.length - (r.feed rest).1) (by omega))
    have hdl : (rest.drop (r.feed rest).1).take (rest.length - (r.feed rest).1) = rest.drop (r.feed rest).1 := List.take_of_length_le (by simp)
    rw [hdl] at hsub
    have hl2 : (rest.drop (r.feed rest).1).length = rest.length - (r.feed rest).1 := by simp
    simp -dsimp -implicitDefEqProofs (disch := omega) only [go_sem, reqD_of, dec_t, dec_f, wrap_i64, wrap_u32, wrap_u64, wrap_u8, hd1, g0, g4, g5]
    exact ⟨.inr ⟨_, _, ⟨rfl, hl2.symm, rfl⟩, by rw [hl2]; exact hsub, h6⟩, by omega⟩
  · -- the frame is whole, or nothing goes on
    rcases hor with ⟨k1, k2, k3, k4⟩ | ⟨k1, k2, k3⟩
    · simp -dsimp -implicitDefEqProofs (disch := omega) only [go_sem, reqD_of, dec_t, dec_f, wrap_i64, wrap_u32, wrap_u64, wrap_u8, hd1, g0, g4, g5]
      refine (wholeR h4 ok1).mono ?_
      rintro e' w5 ⟨h5, rfl⟩
      rw [k1]
      simp -dsimp -implicitDefEqProofs (disch := omega) only [go_sem, reqD_of, dec_t, dec_f, wrap_i64, wrap_u32, wrap_u64, wrap_u8, hd1, g0, g4, g5]
      refine (nextR_yes h5 ok1 k1).mono ?_
      rintro e' w6 ⟨v6, h6, rfl⟩
      simp -dsimp -implicitDefEqProofs (disch := omega) only [go_sem, reqD_of, dec_t, dec_f, wrap_i64, wrap_u32, wrap_u64, wrap_u8, hd1, g0, g4, g5]
      have hsz : (rest.take (r.feed rest).1).length = (r.feed rest).2.hand.length := by rw [k2]
      have h7 : St w0 (J pre * (PassB (rest.take (r.feed rest).1) #[v6] * (CutR c (r.feed rest).2.next * M))) w6 := by
        have := h6.ent (Ent.sep (Ent.rfl' _) (Ent.sep (by rw [k2]; exact PassB.mk rfl) (Ent.rfl' _)))
        exact this.ac (by ac_rfl)
      refine (hy _ _ _ _ _ ⟨framesOf n (rest.drop (r.feed rest).1), ?_⟩ h7).mono ?_
      · rw [hall, hfr, ← hmost, k4]; simp
      rintro e' w7 (⟨rfl, h8⟩ | ⟨rfl, h8⟩)
      · simp -dsimp -implicitDefEqProofs only [go_sem, hd1, g0, g4, g5, e5]
        obtain ⟨q1, q2, q3, q4⟩ := RC.feed_le rest r
        refine ⟨⟨(r.feed rest).2.next, rest.drop (r.feed rest).1, pre ++ [rest.take (r.feed rest).1], a2, cp2, ⟨rfl, rfl, rfl⟩, hrd2, by simp; omega, rfl, k3, by simp only [RC.next]; omega, RC.ok_next ok1 k1, by simp only [RC.next]; simp; omega, ?_, h8.ac (by ac_rfl)⟩, by simp; omega⟩
        rw [hfr, ← hmost, k4]; simp
      · simp -dsimp -implicitDefEqProofs only [go_sem, hd1, g0, g4, g5]
        exact ⟨⟨_, rfl⟩, .inr ⟨_, h8.ac (by ac_rfl : _ = CutR c (r.feed rest).2.next * (X (pre ++ [rest.take (r.feed rest).1]) * M)) |>.right⟩⟩
    · simp -dsimp -implicitDefEqProofs (disch := omega) only [go_sem, reqD_of, dec_t, dec_f, wrap_i64, wrap_u32, wrap_u64, wrap_u8, hd1, g0, g4, g5]
      refine (wholeR h4 ok1).mono ?_
      rintro e' w5 ⟨h5, rfl⟩
      rw [k1]
      simp -dsimp -implicitDefEqProofs (disch := omega) only [go_sem, reqD_of, dec_t, dec_f, wrap_i64, wrap_u32, wrap_u64, wrap_u8, hd1, g0, g4, g5]
      refine (feedR h5 ((Ent.right _ _).trans hrd2) ok1 (by simp; omega)).mono ?_
      rintro e' w6 ⟨h6, rfl⟩
      rw [k2]
      simp -dsimp -implicitDefEqProofs (disch := omega) only [go_sem, reqD_of, dec_t, dec_f, wrap_i64, wrap_u32, wrap_u64, wrap_u8, hd1, g0, g4, g5]
      exact ⟨⟨_, rfl⟩, .inl ⟨pre, by rw [hfr, ← hmost, k3]; simp, h6.right⟩⟩

end
end Go.Proofs.Ytfamclpajjnfbaa

/- The package's All as an iterator whose memory lies in the loop's state. -/
import Derived.Test.YtfamclpajjnfbaaFrAb
import Derived.Test.YtfamclpajjnfbaaRf3
namespace Go.Proofs.Ytfamclpajjnfbaa
open Go
set_option linter.unusedSimpArgs false
set_option linter.unusedVariables false
set_option maxRecDepth 100000

section
attribute [local go_sem] F47.t7_eq F47.t5_eq F47.t8_eq F47.t4_eq F47.t3_eq F47.t2_eq
theorem iter_allJ {w0 : World} {B3 B5 n : Nat} {v : Value} {b : List UInt8} {R : HP} {J' : List (List UInt8) → HP} (hb : b.length ≤ 140737488351232) :
    IterOkJ Try.prog w0 47 #[.pointer (some ⟨B3, 0, none⟩), .pointer (some ⟨B5, 0, none⟩)] PassB (fun pre => ∃ post, allFrames n b = pre ++ post) (fun xs => xs = allFrames n b) (fun pre => AllB B3 B5 n v b * J' pre) R R := by
  rintro l w1 J X ⟨K, hK⟩ hy h
  show Calls _ 47 #[.func (.yield l) #[] #[], .pointer (some ⟨B3, 0, none⟩), .pointer (some ⟨B5, 0, none⟩)] w1 _
  have h1 : St w0 (Blk B3 (.cells #[.int .u32 n] 30 (0, 0)) * (Blk B5 (.cells #[v] 35 (0, 0)) * (Row 5 1 v b.length (b.map bv) * (K * (J' [] * R))))) w1 := h.ac (by rw [hK]; unfold AllB; ac_rfl)
  have hc3 := h1.cells
  refine F47.calls (by simp) ?_
  unfold F47.code
  simp -dsimp -implicitDefEqProofs (disch := omega) only [go_sem, reqD_of, dec_t, dec_f, wrap_i64, wrap_u32, wrap_u64, wrap_u8, hc3]
  by_cases hn : okLimit n = true
  case neg =>
    have hn' : okLimit n = false := by simpa using hn
    refine (new_no h hn').mono ?_
    rintro e w2 ⟨h2, rfl⟩
    simp -dsimp -implicitDefEqProofs (disch := omega) only [go_sem, reqD_of, dec_t, dec_f, wrap_i64, wrap_u32, wrap_u64, wrap_u8]
    exact ⟨⟨_, rfl⟩, .inl ⟨[], by simp [allFrames, hn'], h2⟩⟩
  refine (newR_yes h1 hn).mono ?_
  rintro e w2 ⟨c, h2, rfl⟩
  have hc5 := h2.sw3.cells
  have hlim := hn
  simp [okLimit] at hlim
  have hall : allFrames n b = framesOf n b := by unfold allFrames; rw [if_pos hn]
  rw [hall]
  obtain ⟨M, hM⟩ : ∃ M, M = R := ⟨_, rfl⟩
  have hrow : ∀ p, Ent (J p) (RdB v b) := fun p => by
    rw [hK]; unfold AllB
    exact (Ent.right _ _).trans ((Ent.left _ _).trans ((Ent.right _ _).trans ((Ent.right _ _).trans (Row.reads _ _ _ _ _))))
  have h3 : St w0 (CutR c (RC.new n) * (J [] * M)) w2 := h2.ac (by rw [hM, hK []]; simp only [AllB]; ac_rfl)
  rw [← hM]
  clear h2 hc3 h1 h hM
  simp -dsimp -implicitDefEqProofs (disch := omega) only [go_sem, reqD_of, dec_t, dec_f, wrap_i64, wrap_u32, wrap_u64, wrap_u8, hc5]
  refine loop_intro (fun e w' => e.ds = [] ∧ e.ρ 0 = .func (.yield l) #[] #[] ∧ e.ρ 4 = .pointer (some ⟨c, 0, none⟩) ∧
      ∃ (r : RC) (rest : List UInt8) (pre : List (List UInt8)) (a : Option Addr) (cp : Nat), e.ρ 5 = .slice a rest.length cp ∧ (∀ p, Ent (J p) (RdB (.slice a rest.length cp) rest)) ∧ rest.length ≤ b.length ∧ r.hand = [] ∧ r.over = false ∧ r.most = n ∧ r.ok ∧ r.bytes + rest.length ≤ b.length ∧
        framesOf n b = pre ++ framesOf n rest ∧ St w0 (CutR c r * (J pre * M)) w')
    (fun e _ => match e.ρ 5 with | .slice _ k _ => k | _ => 0) ?_ ?_
  · obtain ⟨a, cp, hv, _⟩ := (h3.ent ((Ent.right _ _).trans ((Ent.left _ _).trans (hrow _)))).bytes
    subst hv
    exact ⟨rfl, by simp -dsimp -implicitDefEqProofs only [go_sem], by simp -dsimp -implicitDefEqProofs only [go_sem], RC.new n, b, [], a, cp, by simp -dsimp -implicitDefEqProofs only [go_sem], hrow, Nat.le_refl _, rfl, rfl, rfl, RC.ok_new hn, by simp [RC.new], rfl, h3⟩
  clear h3 hc5
  rintro e w3 ⟨hd, e0, e4, r, rest, pre, a, cp, e5, hrd, hlen, hh, ho, hmost, ok, hby, hfr, h3⟩
  by_cases hpos : (0 : Int) < (rest.length : Int)
  case neg =>
    simp -dsimp -implicitDefEqProofs (disch := omega) only [go_sem, reqD_of, dec_t, dec_f, wrap_i64, wrap_u32, wrap_u64, wrap_u8, hd, e0, e4, e5, hpos]
    refine ⟨⟨_, rfl⟩, .inl ⟨pre, ?_, h3.right⟩⟩
    have : rest = [] := List.eq_nil_of_length_eq_zero (by omega)
    rw [this] at hfr
    rw [hfr]
    rw [framesOf]; simp
  simp -dsimp -implicitDefEqProofs (disch := omega) only [go_sem, reqD_of, dec_t, dec_f, wrap_i64, wrap_u32, wrap_u64, wrap_u8, hd, e0, e4, e5, hpos]
  have hne : rest ≠ [] := fun h => by rw [h] at hpos; simp at hpos
  obtain ⟨f1, f2, hor⟩ := idle_feed hh ho ok hne
  refine loop_intro (fun e w' => e.ds = [] ∧ e.ρ 0 = .func (.yield l) #[] #[] ∧ e.ρ 4 = .pointer (some ⟨c, 0, none⟩) ∧
      ((e.ρ 5 = .slice a rest.length cp ∧ St w0 (CutR c r * (J pre * M)) w') ∨
       (∃ a2 cp2, e.ρ 5 = .slice a2 (rest.drop (r.feed rest).1).length cp2 ∧ (∀ p, Ent (J p) (RdB (.slice a2 (rest.drop (r.feed rest).1).length cp2) (rest.drop (r.feed rest).1))) ∧ St w0 (CutR c (r.feed rest).2 * (J pre * M)) w')))
    (fun e _ => match e.ρ 5 with | .slice _ k _ => k | _ => 0) ?_ ?_
  · exact ⟨by simp -dsimp -implicitDefEqProofs only [go_sem, hd], by simp -dsimp -implicitDefEqProofs only [go_sem, e0], by simp -dsimp -implicitDefEqProofs only [go_sem, e4], .inl ⟨by simp -dsimp -implicitDefEqProofs only [go_sem, e5], h3⟩⟩
  have ok1 := RC.ok_feed rest r ok (by omega)
  have hnot : r.whole = false := by unfold RC.whole; rw [hh]; simp
  rintro e1 w4 ⟨hd1, g0, g4, ⟨g5, h4⟩ | ⟨a2, cp2, g5, hrd2, h4⟩⟩
  · -- nothing is fed yet
    simp -dsimp -implicitDefEqProofs (disch := omega) only [go_sem, reqD_of, dec_t, dec_f, wrap_i64, wrap_u32, wrap_u64, wrap_u8, hd1, g0, g4, g5]
    refine (wholeR h4 ok).mono ?_
    rintro e' w5 ⟨h5, rfl⟩
    rw [hnot]
    simp -dsimp -implicitDefEqProofs (disch := omega) only [go_sem, reqD_of, dec_t, dec_f, wrap_i64, wrap_u32, wrap_u64, wrap_u8, hd1, g0, g4, g5]
    refine (feedR h5 ((Ent.left _ _).trans (hrd _)) ok (by omega)).mono ?_
    rintro e' w6 ⟨h6, rfl⟩
    obtain ⟨a', cp', hv, hca, _⟩ := ((h6.ent ((Ent.right _ _).trans ((Ent.left _ _).trans (hrd _))))).bytes
    simp only [Value.slice.injEq, true_and] at hv
    obtain ⟨rfl, rfl⟩ := hv
    have hsub := fun p => (hrd p).trans (RdB.sub (lo := (r.feed rest).1) (k := rest.length - (r.feed rest).1) (by omega))
    have hdl : (rest.drop (r.feed rest).1).take (rest.length - (r.feed rest).1) = rest.drop (r.feed rest).1 := List.take_of_length_le (by simp)
    simp only [hdl] at hsub
    have hl2 : (rest.drop (r.feed rest).1).length = rest.length - (r.feed rest).1 := by simp
    simp -dsimp -implicitDefEqProofs (disch := omega) only [go_sem, reqD_of, dec_t, dec_f, wrap_i64, wrap_u32, wrap_u64, wrap_u8, hd1, g0, g4, g5]
    exact ⟨.inr ⟨_, _, ⟨rfl, hl2.symm, rfl⟩, by rw [hl2]; exact hsub, h6⟩, by omega⟩
  · -- the frame is whole, or nothing goes on
    rcases hor with ⟨k1, k2, k3, k4⟩ | ⟨k1, k2, k3⟩
    · simp -dsimp -implicitDefEqProofs (disch := omega) only [go_sem, reqD_of, dec_t, dec_f, wrap_i64, wrap_u32, wrap_u64, wrap_u8, hd1, g0, g4, g5]
      refine (wholeR h4 ok1).mono ?_
      rintro e' w5 ⟨h5, rfl⟩
      rw [k1]
      simp -dsimp -implicitDefEqProofs (disch := omega) only [go_sem, reqD_of, dec_t, dec_f, wrap_i64, wrap_u32, wrap_u64, wrap_u8, hd1, g0, g4, g5]
      refine (nextR_yes h5 ok1 k1).mono ?_
      rintro e' w6 ⟨v6, h6, rfl⟩
      simp -dsimp -implicitDefEqProofs (disch := omega) only [go_sem, reqD_of, dec_t, dec_f, wrap_i64, wrap_u32, wrap_u64, wrap_u8, hd1, g0, g4, g5]
      have hsz : (rest.take (r.feed rest).1).length = (r.feed rest).2.hand.length := by rw [k2]
      have h7 : St w0 (J pre * (PassB (rest.take (r.feed rest).1) #[v6] * (CutR c (r.feed rest).2.next * M))) w6 := by
        have := h6.ent (Ent.sep (Ent.rfl' _) (Ent.sep (by rw [k2]; exact PassB.mk rfl) (Ent.rfl' _)))
        exact this.ac (by ac_rfl)
      refine (hy _ _ _ _ _ ⟨framesOf n (rest.drop (r.feed rest).1), ?_⟩ h7).mono ?_
      · rw [hall, hfr, ← hmost, k4]; simp
      rintro e' w7 (⟨rfl, h8⟩ | ⟨rfl, h8⟩)
      · simp -dsimp -implicitDefEqProofs only [go_sem, hd1, g0, g4, g5, e5]
        obtain ⟨q1, q2, q3, q4⟩ := RC.feed_le rest r
        refine ⟨⟨(r.feed rest).2.next, rest.drop (r.feed rest).1, pre ++ [rest.take (r.feed rest).1], a2, cp2, ⟨rfl, rfl, rfl⟩, hrd2, by simp; omega, rfl, k3, by simp only [RC.next]; omega, RC.ok_next ok1 k1, by simp only [RC.next]; simp; omega, ?_, h8.ac (by ac_rfl)⟩, by simp; omega⟩
        rw [hfr, ← hmost, k4]; simp
      · simp -dsimp -implicitDefEqProofs only [go_sem, hd1, g0, g4, g5]
        exact ⟨⟨_, rfl⟩, .inr ⟨_, h8.ac (by ac_rfl : _ = CutR c (r.feed rest).2.next * (X (pre ++ [rest.take (r.feed rest).1]) * M)) |>.right⟩⟩
    · simp -dsimp -implicitDefEqProofs (disch := omega) only [go_sem, reqD_of, dec_t, dec_f, wrap_i64, wrap_u32, wrap_u64, wrap_u8, hd1, g0, g4, g5]
      refine (wholeR h4 ok1).mono ?_
      rintro e' w5 ⟨h5, rfl⟩
      rw [k1]
      simp -dsimp -implicitDefEqProofs (disch := omega) only [go_sem, reqD_of, dec_t, dec_f, wrap_i64, wrap_u32, wrap_u64, wrap_u8, hd1, g0, g4, g5]
      refine (feedR h5 ((Ent.left _ _).trans (hrd2 _)) ok1 (by simp; omega)).mono ?_
      rintro e' w6 ⟨h6, rfl⟩
      rw [k2]
      simp -dsimp -implicitDefEqProofs (disch := omega) only [go_sem, reqD_of, dec_t, dec_f, wrap_i64, wrap_u32, wrap_u64, wrap_u8, hd1, g0, g4, g5]
      exact ⟨⟨_, rfl⟩, .inl ⟨pre, by rw [hfr, ← hmost, k3]; simp, h6.right⟩⟩

abbrev G3 (P7 B n : Nat) (A : HP) (m : Nat) : HP := A * (Blk P7 (.cells #[.pointer (some ⟨B, 0, none⟩)] 33 (0, 0)) * BookP B (n + m))

end
section
attribute [local go_sem] F28.t23_eq F28.t14_eq F28.t6_eq
theorem goes_round3 {w0 : World} {e : FA} {P7 B n k : Nat} {b : List UInt8} {A : HP} (hb : b.length ≤ 33554432) (hn : n + b.length < 100000000) (e7 : e.ρ 7 = .pointer (some ⟨P7, 0, none⟩)) :
    RoundOk Try.prog w0 e #[54] F28.a1 F28.b1 PassB (fun pre => ∃ post, allFrames k b = pre ++ post) (fun pre => G3 P7 B n A pre.length) (fun _ _ => HP.fact False Emp) := by
  intro l pre x args G W1 hok h1
  have hargs : ∃ v, args = #[v] := by
    obtain ⟨v, h2⟩ := (h1.right.left).ex
    obtain ⟨_, _, hx, _⟩ := h2.sat
    exact ⟨v, hx⟩
  obtain ⟨v, rfl⟩ := hargs
  refine ⟨rfl, ?_⟩
  unfold F28.a1
  simp -dsimp -implicitDefEqProofs only [go_sem]
  refine ⟨h1, fun G2 W2 hl h2 => ?_⟩
  obtain ⟨v', h4⟩ := (h2.ac (show _ = PassB x #[v] * (G3 P7 B n A pre.length * G2) by ac_rfl)).exF
  obtain ⟨hv, h4⟩ := h4.factF
  simp only [Array.mk.injEq, List.cons.injEq, and_true] at hv
  subst hv
  obtain ⟨post, hpost⟩ := hok
  obtain ⟨fl, fc⟩ := allFrames_facts k b
  have hxl := fl x (by rw [hpost]; simp)
  have hpl : pre.length + 1 ≤ (allFrames k b).length := by rw [hpost]; simp
  have h5 : St w0 (RowO 5 1 v x.length (x.map bv) * (Blk P7 (.cells #[.pointer (some ⟨B, 0, none⟩)] 33 (0, 0)) * (A * (BookP B (n + pre.length) * G2)))) W2 := (h4.ent (Ent.sep (Row.rowO _ _ _ _ _) (Ent.rfl' _))).ac (by simp only [G3]; ac_rfl)
  obtain ⟨av, cv, rfl, _⟩ := h5.rowForm v
  have c7 := h5.cl P7
  unfold F28.b1
  simp -dsimp -implicitDefEqProofs (disch := omega) only [go_sem, reqD_of, dec_t, dec_f, wrap_i64, wrap_u32, wrap_u64, wrap_u8, List.toList_toArray, e7, c7]
  have h6 : St w0 (BookP B (n + pre.length) * (RowO 5 1 (.slice av x.length cv) x.length (x.map bv) * (Blk P7 (.cells #[.pointer (some ⟨B, 0, none⟩)] 33 (0, 0)) * (A * G2)))) W2 := h5.ac (by ac_rfl)
  refine (owns_any (by omega) (by omega) h6).mono ?_
  rintro e' w7 ⟨h7, rfl⟩
  have hx7 : ¬ (x.length : Int) < 7 := by omega
  simp -dsimp -implicitDefEqProofs (disch := omega) only [go_sem, reqD_of, dec_t, dec_f, wrap_i64, wrap_u32, wrap_u64, wrap_u8, List.toList_toArray, e7, hx7]
  have e3 : (pre ++ [x]).length = pre.length + 1 := by simp
  rw [e3]
  exact h7.ac (by rw [Nat.add_assoc]; simp only [G3]; ac_rfl)

abbrev fnV (B3 B5 : Nat) : Value := .func (.func 47) #[] #[.pointer (some ⟨B3, 0, none⟩), .pointer (some ⟨B5, 0, none⟩)]
abbrev J2 (P7 P12 P16 B B3 B5 n k : Nat) (vv : Value) (b : List UInt8) (pre : List (List UInt8)) : HP := AllB B3 B5 k vv b * HP.fact (pre.length < 2) (Blk P16 (.cells #[.int .i64 pre.length] 3 (0, 0)) * (Blk P12 (.cells #[fnV B3 B5] 63 (0, 0)) * (Blk P7 (.cells #[.pointer (some ⟨B, 0, none⟩)] 33 (0, 0)) * BookP B n)))
abbrev X2 (P7 P12 P16 B B3 B5 n k : Nat) (vv : Value) (b : List UInt8) (cd : Code) : HP := HP.fact (cd = .exit 2) (Blk P16 (.cells #[.int .i64 2] 3 (0, 0)) * (Blk P12 (.cells #[fnV B3 B5] 63 (0, 0)) * G3 P7 B n (AllB B3 B5 k vv b) (allFrames k b).length))

end
section
attribute [local go_sem] F28.t23_eq F28.t14_eq F28.t6_eq
theorem goes_round2 {w0 : World} {e : FA} {P7 P12 P16 B B3 B5 n k : Nat} {vv : Value} {b : List UInt8} (hb : b.length ≤ 33554432) (hn : n + b.length < 100000000) (e7 : e.ρ 7 = .pointer (some ⟨P7, 0, none⟩)) (e12 : e.ρ 12 = .pointer (some ⟨P12, 0, none⟩)) (e16 : e.ρ 16 = .pointer (some ⟨P16, 0, none⟩)) :
    RoundOk Try.prog w0 e #[48] F28.a2 F28.b2 PassB (fun pre => ∃ post, allFrames k b = pre ++ post) (J2 P7 P12 P16 B B3 B5 n k vv b) (fun cd _ => X2 P7 P12 P16 B B3 B5 n k vv b cd) := by
  intro l pre x args G W1 hok h1
  have hargs : ∃ v, args = #[v] := by
    obtain ⟨v, h2⟩ := (h1.right.left).ex
    obtain ⟨_, _, hx, _⟩ := h2.sat
    exact ⟨v, hx⟩
  obtain ⟨v, rfl⟩ := hargs
  refine ⟨rfl, ?_⟩
  unfold F28.a2
  simp -dsimp -implicitDefEqProofs only [go_sem]
  refine ⟨h1, fun G2 W2 hl h2 => ?_⟩
  obtain ⟨hp2, h3⟩ := (h2.ac (show _ = HP.fact (pre.length < 2) (Blk P16 (.cells #[.int .i64 pre.length] 3 (0, 0)) * (Blk P12 (.cells #[fnV B3 B5] 63 (0, 0)) * (Blk P7 (.cells #[.pointer (some ⟨B, 0, none⟩)] 33 (0, 0)) * BookP B n))) * (AllB B3 B5 k vv b * (PassB x #[v] * G2)) by simp only [J2]; ac_rfl)).factF
  have h4 : St w0 (Blk P16 (.cells #[.int .i64 pre.length] 3 (0, 0)) * (Blk P12 (.cells #[fnV B3 B5] 63 (0, 0)) * (Blk P7 (.cells #[.pointer (some ⟨B, 0, none⟩)] 33 (0, 0)) * (BookP B n * (AllB B3 B5 k vv b * G2))))) W2 := (h3.ac (show _ = PassB x #[v] * (Blk P16 (.cells #[.int .i64 pre.length] 3 (0, 0)) * (Blk P12 (.cells #[fnV B3 B5] 63 (0, 0)) * (Blk P7 (.cells #[.pointer (some ⟨B, 0, none⟩)] 33 (0, 0)) * (BookP B n * (AllB B3 B5 k vv b * G2))))) by ac_rfl)).right
  have c16 := h4.cl P16
  unfold F28.b2
  simp -dsimp -implicitDefEqProofs (disch := omega) only [go_sem, reqD_of, dec_t, dec_f, wrap_i64, wrap_u32, wrap_u64, wrap_u8, List.toList_toArray, e16, e12, e7, c16]
  refine h4.sto (b := P16) (off := 0) (by simp) rfl fun w5 h5 => ?_
  simp only [List.setIfInBounds_toArray, List.set_cons_zero] at h5
  have c16 := h5.cl P16
  have c12 := h5.cl P12
  by_cases hx : (pre.length : Int) + 1 = 2
  · simp -dsimp -implicitDefEqProofs (disch := omega) only [go_sem, reqD_of, dec_t, dec_f, wrap_i64, wrap_u32, wrap_u64, wrap_u8, List.toList_toArray, e16, e12, e7, c16, c12, hx]
    have h7 : St w0 (G3 P7 B n (AllB B3 B5 k vv b) ([] : List (List UInt8)).length * (Blk P16 (.cells #[.int .i64 2] 3 (0, 0)) * (Blk P12 (.cells #[fnV B3 B5] 63 (0, 0)) * G2))) w5 := by
      rw [hx] at h5
      exact h5.ac (by simp only [G3, List.length_nil, Nat.add_zero]; ac_rfl)
    refine range_introRJ h7 ((Ent.right _ _).trans ((Ent.right _ _).trans ((Ent.right _ _).trans hl))) (gf := 47) (lb := #[.pointer (some ⟨B3, 0, none⟩), .pointer (some ⟨B5, 0, none⟩)]) (by simp -dsimp -implicitDefEqProofs only [go_sem]) fact_fnOk_47 (Pass := PassB)
      (fun pre => G3 P7 B n (AllB B3 B5 k vv b) pre.length) (fun _ _ => HP.fact False Emp) (Ent.rfl' _) (goes_round3 (k := k) hb hn (by simp -dsimp -implicitDefEqProofs only [go_sem, e7]))
      (iter_allJ (n := k) (v := vv) (b := b) (J' := fun pre => Blk P7 (.cells #[.pointer (some ⟨B, 0, none⟩)] 33 (0, 0)) * BookP B (n + pre.length)) (R := Blk P16 (.cells #[.int .i64 2] 3 (0, 0)) * (Blk P12 (.cells #[fnV B3 B5] 63 (0, 0)) * G2)) (by omega)) ?_ ?_
    · rintro xs w8 rfl h8
      simp -dsimp -implicitDefEqProofs only [go_sem]
      have h9 : St w0 ((Blk P16 (.cells #[.int .i64 2] 3 (0, 0)) * (Blk P12 (.cells #[fnV B3 B5] 63 (0, 0)) * G3 P7 B n (AllB B3 B5 k vv b) (allFrames k b).length)) * G2) w8 := h8.ac (by ac_rfl)
      exact h9.ent (Ent.sep (Ent.fact rfl _) (Ent.rfl' _))
    · intro c pre' w8 h8
      obtain ⟨hf, _⟩ := h8.factF
      exact hf.elim
  · simp -dsimp -implicitDefEqProofs (disch := omega) only [go_sem, reqD_of, dec_t, dec_f, wrap_i64, wrap_u32, wrap_u64, wrap_u8, List.toList_toArray, e16, e12, e7, c16, c12, hx]
    have e3 : (pre ++ [x]).length = pre.length + 1 := by simp
    have h6 : St w0 ((Blk P16 (.cells #[.int .i64 (pre ++ [x]).length] 3 (0, 0)) * (Blk P12 (.cells #[fnV B3 B5] 63 (0, 0)) * (Blk P7 (.cells #[.pointer (some ⟨B, 0, none⟩)] 33 (0, 0)) * BookP B n))) * (AllB B3 B5 k vv b * G2)) w5 := by rw [e3]; exact h5.ac (by rw [Int.natCast_add]; simp only [Int.cast_ofNat_Int]; ac_rfl)
    exact (h6.ent (Ent.sep (Ent.fact (show (pre ++ [x]).length < 2 by omega) _) (Ent.rfl' _))).ac (by simp only [J2]; ac_rfl)

end
end Go.Proofs.Ytfamclpajjnfbaa

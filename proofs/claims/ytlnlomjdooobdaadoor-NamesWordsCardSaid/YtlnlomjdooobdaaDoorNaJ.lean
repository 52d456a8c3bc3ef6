/- The reader of a pattern's characters: class. -/
import Derived.Test.YtlnlomjdooobdaaDoorNaI
namespace Go.Proofs.YtlnlomjdooobdaaDoor
open Go
set_option linter.unusedVariables false
set_option linter.unusedSimpArgs false
set_option maxRecDepth 100000

/-- One span, with what is left. -/
def spanL (l : List Nat) : Option ((Nat × Nat) × List Nat) :=
  match oneL l with
  | none => none
  | some (a, []) => none
  | some (a, c :: l2) => if c = 45 then match oneL l2 with
      | none => none
      | some (b, l3) => if b < a then none else some ((a, b), l3)
    else some ((a, a), c :: l2)
/-- The spans of a class up to its end (fuel). -/
def spansF : Nat → List (Nat × Nat) → List Nat → Option (List (Nat × Nat) × List Nat)
  | 0, _, _ => none
  | n + 1, acc, l => match spanL l with
    | none => none
    | some (s, []) => none
    | some (s, d :: l4) => if d = 93 then some (acc ++ [s], l4) else spansF n (acc ++ [s]) (d :: l4)

theorem oneL_len {l l' : List Nat} {c : Nat} (h : oneL l = some (c, l')) : l'.length < l.length := by
  cases l with
  | nil => cases h
  | cons d l =>
    by_cases h1 : d = 92
    · cases l with
      | nil => rw [oneL_e0 h1] at h; cases h
      | cons x l =>
        rw [oneL_e h1] at h
        simp only [Option.some.injEq, Prod.mk.injEq] at h
        rw [← h.2]; simp; omega
    · by_cases h2 : d = 93 ∨ d = 45
      · rw [oneL_b h2] at h; cases h
      · rw [oneL_p h1 h2] at h
        simp only [Option.some.injEq, Prod.mk.injEq] at h
        rw [← h.2]; simp
theorem spanL_len {l l' : List Nat} {s : Nat × Nat} (h : spanL l = some (s, l')) : l'.length < l.length := by
  unfold spanL at h
  split at h
  · cases h
  · cases h
  · rename_i a c l2 ho
    have h1 := oneL_len ho
    split at h
    · split at h
      · cases h
      · rename_i b l3 ho2
        have h2 := oneL_len ho2
        split at h
        · cases h
        · simp only [Option.some.injEq, Prod.mk.injEq] at h
          rw [← h.2]; simp at h1; omega
    · simp only [Option.some.injEq, Prod.mk.injEq] at h
      rw [← h.2]; exact h1
theorem spansF_more : ∀ (n m : Nat) (acc : List (Nat × Nat)) (l : List Nat), l.length ≤ n → l.length ≤ m → spansF n acc l = spansF m acc l
  | 0, 0, _, _, _, _ => rfl
  | 0, m + 1, acc, l, h, _ => by have : l = [] := List.eq_nil_of_length_eq_zero (by omega); subst this; rfl
  | n + 1, 0, acc, l, _, h => by have : l = [] := List.eq_nil_of_length_eq_zero (by omega); subst this; rfl
  | n + 1, m + 1, acc, l, h1, h2 => by
    unfold spansF
    cases hs : spanL l with
    | none => rfl
    | some x =>
      obtain ⟨s, l3⟩ := x
      have hl := spanL_len hs
      cases l3 with
      | nil => rfl
      | cons d l4 =>
        simp only
        split
        · rfl
        · exact spansF_more n m _ _ (by omega) (by omega)
def spans (acc : List (Nat × Nat)) (l : List Nat) : Option (List (Nat × Nat) × List Nat) := spansF l.length acc l
theorem spans_none {acc : List (Nat × Nat)} {l : List Nat} (h : spanL l = none) : spans acc l = none := by
  unfold spans
  cases l with
  | nil => rfl
  | cons c l => simp only [List.length_cons, spansF, h]
theorem spans_cut {acc : List (Nat × Nat)} {l : List Nat} {s : Nat × Nat} (h : spanL l = some (s, [])) : spans acc l = none := by
  unfold spans
  cases l with
  | nil => rfl
  | cons c l => simp only [List.length_cons, spansF, h]
theorem spans_end {acc : List (Nat × Nat)} {l l4 : List Nat} {s : Nat × Nat} {d : Nat} (h : spanL l = some (s, d :: l4)) (hd : d = 93) : spans acc l = some (acc ++ [s], l4) := by
  have hl := spanL_len h
  unfold spans
  cases l with
  | nil => simp at hl
  | cons c l => simp only [List.length_cons, spansF, h, hd, if_true]
theorem spans_step {acc : List (Nat × Nat)} {l l4 : List Nat} {s : Nat × Nat} {d : Nat} (h : spanL l = some (s, d :: l4)) (hd : d ≠ 93) : spans acc l = spans (acc ++ [s]) (d :: l4) := by
  have hl := spanL_len h
  unfold spans
  cases l with
  | nil => simp at hl
  | cons c l =>
    simp only [List.length_cons] at hl
    show spansF (l.length + 1) acc (c :: l) = _
    unfold spansF
    rw [h]
    simp only
    rw [if_neg hd]
    exact spansF_more _ _ _ _ (by simp only [List.length_cons] at hl ⊢; omega) (Nat.le_refl _)
/-- A class, behind its first bracket. -/
def classL (l : List Nat) : Option (Bool × List (Nat × Nat) × List Nat) :=
  match l with
  | [] => none
  | c :: l' => if c = 94 then (spans [] l').map fun x => (true, x.1, x.2) else (spans [] (c :: l')).map fun x => (false, x.1, x.2)

abbrev spV (s : Nat × Nat) : List Value := [rv s.1, rv s.2]

theorem RdP.blk {w0 w : World} {R at_ : Nat} {v : Value} {rs : List Nat} {F : HP} (h : St w0 (RdP R v rs at_ * F) w) : w.heap[R]? = some (.cells #[v, .int .i64 at_] 90 (0, 0)) :=
  (h.ac (sep_assoc _ _ _)).blk

def atOf (w : World) (R : Nat) : Nat := match w.cell? ⟨R, 1, none⟩ with
  | some (.int _ n) => n.toNat
  | _ => 0
theorem RdP.atOf {w0 w : World} {R at_ : Nat} {v : Value} {rs : List Nat} {F : HP} (h : St w0 (RdP R v rs at_ * F) w) : atOf w R = at_ := by
  have c := h.cl R 1
  unfold Proofs.YtlnlomjdooobdaaDoor.atOf
  rw [c]
  simp

section
attribute [local go_sem] F49.t5_eq
theorem class_5 {w0 w : World} {A : HP} {R at_ P2 P3 : Nat} {v : Value} {rs : List Nat} {tn : Bool} {e : FA} {R' : Ending → World → Prop} {θ : Tag (F49.t5, fnP Tryd.prog #[.cell 2 62] R', e, w)} (hs : rs.length ≤ 4294967296) (hat : at_ ≤ rs.length)
    (hd : e.ds = []) (e0 : e.ρ 0 = .pointer (some ⟨R, 0, none⟩)) (e2 : e.ρ 2 = .pointer (some ⟨P2, 0, none⟩)) (e3 : e.ρ 3 = .pointer (some ⟨P3, 0, none⟩))
    (h : St w0 (RdP R v rs at_ * (Blk P3 (.cells #[.bool false, .bool tn, .slice none 0 0] 62 (0, 0)) * (Blk P2 (.cells #[.bool false, .bool false, .slice none 0 0] 62 (0, 0)) * A))) w)
    (hyes : ∀ ss u at' w', spans [] (rs.drop at_) = some (ss, rs.drop at') → at_ < at' → at' ≤ rs.length → St w0 (RdP R v rs at' * (RowO 94 2 u ss.length (ss.flatMap spV) * A)) w' → R' (.returned (.agg #[.bool false, .bool tn, u])) w')
    (hno : ∀ w', spans [] (rs.drop at_) = none → St w0 A w' → R' (.panicked patP) w') :
    cwE Tryd.prog F49.t5 (fnP Tryd.prog #[.cell 2 62] R') e w θ := by
  rw [F49.t5_eq]
  simp -dsimp -implicitDefEqProofs (disch := omega) only [go_sem, reqD_of, dec_t, dec_f, wrap_i64, wrap_u32, wrap_u64, wrap_u8, hd, e0, e2, e3]
  refine loop_intro (fun e w' => e.ds = [] ∧ e.ρ 0 = .pointer (some ⟨R, 0, none⟩) ∧ e.ρ 2 = .pointer (some ⟨P2, 0, none⟩) ∧ e.ρ 3 = .pointer (some ⟨P3, 0, none⟩) ∧
      ∃ (k : Nat) (acc : List (Nat × Nat)) (u : Value), at_ ≤ k ∧ k ≤ rs.length ∧ acc.length + at_ ≤ k ∧ spans [] (rs.drop at_) = spans acc (rs.drop k) ∧
        St w0 (RdP R v rs k * (RowO 94 2 u acc.length (acc.flatMap spV) * (Blk P3 (.cells #[.bool false, .bool tn, u] 62 (0, 0)) * (Blk P2 (.cells #[.bool false, .bool false, .slice none 0 0] 62 (0, 0)) * A)))) w')
    (fun e w' => rs.length - atOf w' R) ?_ ?_
  · exact ⟨hd, e0, e2, e3, at_, [], .slice none 0 0, by omega, hat, by simp, rfl, (h.nilR 94 2).ac (by ac_rfl)⟩
  clear h hd e0 e2 e3
  rintro e w2 ⟨hd, e0, e2, e3, k, acc, u, hk1, hk2, hal, hsp, h2⟩
  have m2 := RdP.atOf h2
  obtain ⟨au, cu, rfl, _⟩ := h2.rowForm u
  simp -dsimp -implicitDefEqProofs (disch := omega) only [go_sem, reqD_of, dec_t, dec_f, wrap_i64, wrap_u32, wrap_u64, wrap_u8, hd, e0, e2, e3]
  refine (one_any h2 hs).mono ?_
  rintro e' w3 (⟨a, k1, ho, hkk, hk3, h3, rfl⟩ | ⟨ho, h3, rfl⟩)
  case inr =>
    have hn : spanL (rs.drop k) = none := by unfold spanL; rw [ho]
    rw [spans_none hn] at hsp
    simp -dsimp -implicitDefEqProofs (disch := omega) only [go_sem, reqD_of, dec_t, dec_f, wrap_i64, wrap_u32, wrap_u64, wrap_u8, hd]
    exact hno _ hsp h3.right.right.right
  simp -dsimp -implicitDefEqProofs (disch := omega) only [go_sem, reqD_of, dec_t, dec_f, wrap_i64, wrap_u32, wrap_u64, wrap_u8, hd, e0, e2, e3]
  refine onV_of (v := .agg #[rv a, rv 0]) (by kernel_rfl) ?_
  simp -dsimp -implicitDefEqProofs (disch := omega) only [go_sem, reqD_of, dec_t, dec_f, wrap_i64, wrap_u32, wrap_u64, wrap_u8, hd, e0, e2, e3]
  refine h3.new fun P4 w4 h4 => ?_
  simp -dsimp -implicitDefEqProofs (disch := omega) only [go_sem, reqD_of, dec_t, dec_f, wrap_i64, wrap_u32, wrap_u64, wrap_u8, hd, e0, e2, e3]
  refine h4.stoAll (b := P4) (n := 2) (cs := [rv a, rv 0]) rfl rfl (fun u hu => by simp at hu; rcases hu with rfl | rfl <;> rfl) fun w5 h5 => ?_
  have c4 := h5.cl P4
  simp -dsimp -implicitDefEqProofs (disch := omega) only [go_sem, reqD_of, dec_t, dec_f, wrap_i64, wrap_u32, wrap_u64, wrap_u8, hd, e0, e2, e3, c4]
  refine h5.sto (b := P4) (off := 1) (by simp) rfl fun w6 h6 => ?_
  simp only [List.setIfInBounds_toArray, List.set_cons_succ, List.set_cons_zero] at h6
  have h6 := h6.ac (show _ = RdP R v rs k1 * (Blk P4 (.cells #[rv a, rv a] 94 (0, 0)) * (RowO 94 2 (.slice au acc.length cu) acc.length (acc.flatMap spV) * (Blk P3 (.cells #[.bool false, .bool tn, .slice au acc.length cu] 62 (0, 0)) * (Blk P2 (.cells #[.bool false, .bool false, .slice none 0 0] 62 (0, 0)) * A)))) by ac_rfl)
  simp -dsimp -implicitDefEqProofs (disch := omega) only [go_sem, reqD_of, dec_t, dec_f, wrap_i64, wrap_u32, wrap_u64, wrap_u8, hd, e0, e2, e3]
  refine (peek_any h6).mono ?_
  rintro e' w7 ⟨h7, ⟨c, l, hl, rfl⟩ | ⟨hl, rfl⟩⟩
  case inr =>
    have hn : spanL (rs.drop k) = none := by unfold spanL; rw [ho, hl]
    rw [spans_none hn] at hsp
    simp -dsimp -implicitDefEqProofs (disch := omega) only [go_sem, reqD_of, dec_t, dec_f, wrap_i64, wrap_u32, wrap_u64, wrap_u8, hd]
    exact hno _ hsp h7.right.right.right.right.right
  have hlt : k1 < rs.length := by
    rcases Nat.lt_or_ge k1 rs.length with q | q
    · exact q
    · rw [List.drop_of_length_le q] at hl; cases hl
  by_cases c1 : (c : Int) = 45
  · simp -dsimp -implicitDefEqProofs (disch := omega) only [go_sem, reqD_of, dec_t, dec_f, wrap_i64, wrap_u32, wrap_u64, wrap_u8, hd, e0, e2, e3, c1]
    have c0 := h7.cl R
    simp -dsimp -implicitDefEqProofs (disch := omega) only [go_sem, reqD_of, dec_t, dec_f, wrap_i64, wrap_u32, wrap_u64, wrap_u8, hd, e0, e2, e3, c1, c0]
    refine h7.sto (b := R) (off := 1) (by simp) rfl fun w14 h14 => ?_
    simp only [List.setIfInBounds_toArray, List.set_cons_succ, List.set_cons_zero] at h14
    simp -dsimp -implicitDefEqProofs (disch := omega) only [go_sem, reqD_of, dec_t, dec_f, wrap_i64, wrap_u32, wrap_u64, wrap_u8, hd, e0, e2, e3]
    have hd1 : rs.drop (k1 + 1) = l := by
      have := congrArg List.tail hl
      simpa using this
    refine (one_any (h14.ac (show _ = RdP R v rs (k1 + 1) * (Blk P4 (.cells #[rv a, rv a] 94 (0, 0)) * (RowO 94 2 (.slice au acc.length cu) acc.length (acc.flatMap spV) * (Blk P3 (.cells #[.bool false, .bool tn, .slice au acc.length cu] 62 (0, 0)) * (Blk P2 (.cells #[.bool false, .bool false, .slice none 0 0] 62 (0, 0)) * A)))) by simp only [RdP]; ac_rfl)) hs).mono ?_
    rintro e' w15 (⟨b, k3, ho2, hkk3, hkl3, h15, rfl⟩ | ⟨ho2, h15, rfl⟩)
    case inr =>
      have hn : spanL (rs.drop k) = none := by unfold spanL; rw [ho, hl]; simp only; rw [if_pos (by omega), ← hd1, ho2]
      rw [spans_none hn] at hsp
      simp -dsimp -implicitDefEqProofs (disch := omega) only [go_sem, reqD_of, dec_t, dec_f, wrap_i64, wrap_u32, wrap_u64, wrap_u8, hd]
      exact hno _ hsp h15.right.right.right.right
    simp -dsimp -implicitDefEqProofs (disch := omega) only [go_sem, reqD_of, dec_t, dec_f, wrap_i64, wrap_u32, wrap_u64, wrap_u8, hd, e0, e2, e3]
    refine h15.sto (b := P4) (off := 1) (by simp) rfl fun w17 h17 => ?_
    simp only [List.setIfInBounds_toArray, List.set_cons_succ, List.set_cons_zero] at h17
    have c4 := h17.cl P4
    by_cases b1 : (b : Int) < a
    · have hn : spanL (rs.drop k) = none := by unfold spanL; rw [ho, hl]; simp only; rw [if_pos (by omega), ← hd1, ho2]; simp only; rw [if_pos (by omega)]
      rw [spans_none hn] at hsp
      simp -dsimp -implicitDefEqProofs (disch := omega) only [go_sem, reqD_of, dec_t, dec_f, wrap_i64, wrap_u32, wrap_u64, wrap_u8, hd, e0, e2, e3, c4, b1]
      refine onV_of (v := .agg #[]) (by kernel_rfl) ?_
      simp -dsimp -implicitDefEqProofs (disch := omega) only [go_sem, reqD_of, dec_t, dec_f, wrap_i64, wrap_u32, wrap_u64, wrap_u8]
      refine mkI_of (by kernel_rfl) ?_
      simp -dsimp -implicitDefEqProofs (disch := omega) only [go_sem, reqD_of, dec_t, dec_f, wrap_i64, wrap_u32, wrap_u64, wrap_u8]
      refine panic_of ?_
      simp -dsimp -implicitDefEqProofs (disch := omega) only [go_sem, reqD_of, dec_t, dec_f, wrap_i64, wrap_u32, wrap_u64, wrap_u8, hd]
      exact hno _ hsp h17.right.right.right.right.right
    have hsl : spanL (rs.drop k) = some ((a, b), rs.drop k3) := by
      unfold spanL; rw [ho, hl]; simp only; rw [if_pos (by omega), ← hd1, ho2]; simp only; rw [if_neg (by omega)]
    simp -dsimp -implicitDefEqProofs (disch := omega) only [go_sem, reqD_of, dec_t, dec_f, wrap_i64, wrap_u32, wrap_u64, wrap_u8, hd, e0, e2, e3, c4, b1]
    have r4 := h17.rowH P4 2 rfl
    have c3 := h17.cl P3
    simp -dsimp -implicitDefEqProofs (disch := omega) only [go_sem, reqD_of, dec_t, dec_f, wrap_i64, wrap_u32, wrap_u64, wrap_u8, hd, e0, e2, e3, r4, c3, F49.t12_eq]
    refine h17.lit (t := 60) (cells := [rv a, rv b]) fact_rowTy_60 rfl (by decide) (by decide) fun v8 w8 h8 => ?_
    obtain ⟨a8, c8, rfl, _⟩ := h8.rowForm v8
    simp -dsimp -implicitDefEqProofs (disch := omega) only [go_sem, reqD_of, dec_t, dec_f, wrap_i64, wrap_u32, wrap_u64, wrap_u8, hd, e0, e2, e3]
    refine h8.appR (v := .slice au acc.length cu) (x := .slice a8 1 c8) fact_rowTy_60 Tryd.underlying60 (fun u hu => by simp at hu; rcases hu with rfl | rfl <;> rfl) (by simp) (show _ ≤ 9223372036854775807 by omega) (by omega) fun v9 w9 h9 => ?_
    obtain ⟨a9, c9, rfl, _⟩ := h9.rowForm v9
    simp -dsimp -implicitDefEqProofs (disch := omega) only [go_sem, reqD_of, dec_t, dec_f, wrap_i64, wrap_u32, wrap_u64, wrap_u8, hd, e0, e2, e3]
    refine h9.sto (b := P3) (off := 2) (by simp) rfl fun w10 h10 => ?_
    simp only [List.setIfInBounds_toArray, List.set_cons_succ, List.set_cons_zero] at h10
    simp -dsimp -implicitDefEqProofs (disch := omega) only [go_sem, reqD_of, dec_t, dec_f, wrap_i64, wrap_u32, wrap_u64, wrap_u8, hd, e0, e2, e3]
    have h11 : St w0 (RdP R v rs k3 * (RowO 94 2 (.slice a9 (acc.length + 1) c9) (acc ++ [(a, b)]).length ((acc ++ [(a, b)]).flatMap spV) * (Blk P3 (.cells #[.bool false, .bool tn, .slice a9 (acc.length + 1) c9] 62 (0, 0)) * (Blk P2 (.cells #[.bool false, .bool false, .slice none 0 0] 62 (0, 0)) * A)))) w10 := by
      rw [show (acc ++ [(a, b)]).length = acc.length + 1 by simp, show (acc ++ [(a, b)]).flatMap spV = acc.flatMap spV ++ [rv a, rv b] by simp]
      exact (h10.ac (show _ = RdP R v rs k3 * (RowO 94 2 (.slice a9 (acc.length + 1) c9) (acc.length + 1) (acc.flatMap spV ++ [rv a, rv b]) * (Blk P3 (.cells #[.bool false, .bool tn, .slice a9 (acc.length + 1) c9] 62 (0, 0)) * (Blk P2 (.cells #[.bool false, .bool false, .slice none 0 0] 62 (0, 0)) * (A * (RowO 94 2 (.slice a8 1 c8) 1 [rv a, rv b] * Blk P4 (.cells #[rv a, rv b] 94 (0, 0))))))) by simp only [RdP]; ac_rfl)).sub
    refine (peek_any h11).mono ?_
    rintro e' w12 ⟨h12, ⟨d, l4, hl4, rfl⟩ | ⟨hl4, rfl⟩⟩
    case inr =>
      rw [hl4] at hsl
      rw [spans_cut hsl] at hsp
      simp -dsimp -implicitDefEqProofs (disch := omega) only [go_sem, reqD_of, dec_t, dec_f, wrap_i64, wrap_u32, wrap_u64, wrap_u8, hd]
      exact hno _ hsp h12.right.right.right.right
    have hlt4 : k3 < rs.length := by
      rcases Nat.lt_or_ge k3 rs.length with q | q
      · exact q
      · rw [List.drop_of_length_le q] at hl4; cases hl4
    have hd4 : rs.drop (k3 + 1) = l4 := by
      have := congrArg List.tail hl4
      simpa using this
    rw [hl4] at hsl
    have c0 := h12.cl R
    have m12 := RdP.atOf h12
    by_cases d1 : (d : Int) = 93
    · rw [spans_end hsl (by omega), ← hd4] at hsp
      simp -dsimp -implicitDefEqProofs (disch := omega) only [go_sem, reqD_of, dec_t, dec_f, wrap_i64, wrap_u32, wrap_u64, wrap_u8, hd, e0, e2, e3, d1, c0]
      refine h12.sto (b := R) (off := 1) (by simp) rfl fun w13 h13 => ?_
      simp only [List.setIfInBounds_toArray, List.set_cons_succ, List.set_cons_zero] at h13
      have r3 := h13.rowH P3 3 rfl
      simp -dsimp -implicitDefEqProofs (disch := omega) only [go_sem, reqD_of, dec_t, dec_f, wrap_i64, wrap_u32, wrap_u64, wrap_u8, hd, e0, e2, e3, r3]
      refine h13.stoAll (b := P2) (n := 3) (cs := [.bool false, .bool tn, .slice a9 (acc.length + 1) c9]) rfl rfl (fun u hu => by simp at hu; rcases hu with rfl | rfl | rfl <;> rfl) fun w14 h14 => ?_
      have r2 := h14.rowH P2 3 rfl
      simp -dsimp -implicitDefEqProofs (disch := omega) only [go_sem, reqD_of, dec_t, dec_f, wrap_i64, wrap_u32, wrap_u64, wrap_u8, hd, e0, e2, e3]
      refine resC_1 (a := ⟨P2, 0, none⟩) (v := .agg #[.bool false, .bool tn, .slice a9 (acc.length + 1) c9]) (by simp -dsimp -implicitDefEqProofs only [go_sem, e2]) (run_loadVar_row (by kernel_rfl) r2) ?_
      exact hyes (acc ++ [(a, b)]) _ (k3 + 1) _ hsp (by omega) (by omega) ((h14.ac (show _ = RdP R v rs (k3 + 1) * (RowO 94 2 (.slice a9 (acc.length + 1) c9) (acc ++ [(a, b)]).length ((acc ++ [(a, b)]).flatMap spV) * (A * (Blk P3 (.cells #[.bool false, .bool tn, .slice a9 (acc.length + 1) c9] 62 (0, 0)) * Blk P2 (.cells #[.bool false, .bool tn, .slice a9 (acc.length + 1) c9] 62 (0, 0))))) by simp only [RdP]; ac_rfl)).sub)
    · rw [spans_step hsl (by omega), ← hl4] at hsp
      simp -dsimp -implicitDefEqProofs (disch := omega) only [go_sem, reqD_of, dec_t, dec_f, wrap_i64, wrap_u32, wrap_u64, wrap_u8, hd, e0, e2, e3, d1, m2, m12]
      exact ⟨⟨k3, acc ++ [(a, b)], .slice a9 (acc.length + 1) c9, by omega, by omega, by simp; omega, hsp, h12⟩, by omega⟩
  · have hsl : spanL (rs.drop k) = some ((a, a), rs.drop k1) := by
      unfold spanL; rw [ho, hl]; simp only; rw [if_neg (by omega)]
    simp -dsimp -implicitDefEqProofs (disch := omega) only [go_sem, reqD_of, dec_t, dec_f, wrap_i64, wrap_u32, wrap_u64, wrap_u8, hd, e0, e2, e3, c1]
    have r4 := h7.rowH P4 2 rfl
    have c3 := h7.cl P3
    simp -dsimp -implicitDefEqProofs (disch := omega) only [go_sem, reqD_of, dec_t, dec_f, wrap_i64, wrap_u32, wrap_u64, wrap_u8, hd, e0, e2, e3, r4, c3, F49.t12_eq]
    refine h7.lit (t := 60) (cells := [rv a, rv a]) fact_rowTy_60 rfl (by decide) (by decide) fun v8 w8 h8 => ?_
    obtain ⟨a8, c8, rfl, _⟩ := h8.rowForm v8
    simp -dsimp -implicitDefEqProofs (disch := omega) only [go_sem, reqD_of, dec_t, dec_f, wrap_i64, wrap_u32, wrap_u64, wrap_u8, hd, e0, e2, e3]
    refine h8.appR (v := .slice au acc.length cu) (x := .slice a8 1 c8) fact_rowTy_60 Tryd.underlying60 (fun u hu => by simp at hu; rcases hu with rfl | rfl <;> rfl) (by simp) (show _ ≤ 9223372036854775807 by omega) (by omega) fun v9 w9 h9 => ?_
    obtain ⟨a9, c9, rfl, _⟩ := h9.rowForm v9
    simp -dsimp -implicitDefEqProofs (disch := omega) only [go_sem, reqD_of, dec_t, dec_f, wrap_i64, wrap_u32, wrap_u64, wrap_u8, hd, e0, e2, e3]
    refine h9.sto (b := P3) (off := 2) (by simp) rfl fun w10 h10 => ?_
    simp only [List.setIfInBounds_toArray, List.set_cons_succ, List.set_cons_zero] at h10
    simp -dsimp -implicitDefEqProofs (disch := omega) only [go_sem, reqD_of, dec_t, dec_f, wrap_i64, wrap_u32, wrap_u64, wrap_u8, hd, e0, e2, e3]
    have h11 : St w0 (RdP R v rs k1 * (RowO 94 2 (.slice a9 (acc.length + 1) c9) (acc ++ [(a, a)]).length ((acc ++ [(a, a)]).flatMap spV) * (Blk P3 (.cells #[.bool false, .bool tn, .slice a9 (acc.length + 1) c9] 62 (0, 0)) * (Blk P2 (.cells #[.bool false, .bool false, .slice none 0 0] 62 (0, 0)) * A)))) w10 := by
      rw [show (acc ++ [(a, a)]).length = acc.length + 1 by simp, show (acc ++ [(a, a)]).flatMap spV = acc.flatMap spV ++ [rv a, rv a] by simp]
      exact (h10.ac (show _ = RdP R v rs k1 * (RowO 94 2 (.slice a9 (acc.length + 1) c9) (acc.length + 1) (acc.flatMap spV ++ [rv a, rv a]) * (Blk P3 (.cells #[.bool false, .bool tn, .slice a9 (acc.length + 1) c9] 62 (0, 0)) * (Blk P2 (.cells #[.bool false, .bool false, .slice none 0 0] 62 (0, 0)) * (A * (RowO 94 2 (.slice a8 1 c8) 1 [rv a, rv a] * Blk P4 (.cells #[rv a, rv a] 94 (0, 0))))))) by simp only [RdP]; ac_rfl)).sub
    refine (peek_any h11).mono ?_
    rintro e' w12 ⟨h12, ⟨d, l4, hl4, rfl⟩ | ⟨hl4, rfl⟩⟩
    case inr =>
      rw [hl4] at hsl
      rw [spans_cut hsl] at hsp
      simp -dsimp -implicitDefEqProofs (disch := omega) only [go_sem, reqD_of, dec_t, dec_f, wrap_i64, wrap_u32, wrap_u64, wrap_u8, hd]
      exact hno _ hsp h12.right.right.right.right
    have hlt4 : k1 < rs.length := by
      rcases Nat.lt_or_ge k1 rs.length with q | q
      · exact q
      · rw [List.drop_of_length_le q] at hl4; cases hl4
    have hd4 : rs.drop (k1 + 1) = l4 := by
      have := congrArg List.tail hl4
      simpa using this
    rw [hl4] at hsl
    have c0 := h12.cl R
    have m12 := RdP.atOf h12
    by_cases d1 : (d : Int) = 93
    · rw [spans_end hsl (by omega), ← hd4] at hsp
      simp -dsimp -implicitDefEqProofs (disch := omega) only [go_sem, reqD_of, dec_t, dec_f, wrap_i64, wrap_u32, wrap_u64, wrap_u8, hd, e0, e2, e3, d1, c0]
      refine h12.sto (b := R) (off := 1) (by simp) rfl fun w13 h13 => ?_
      simp only [List.setIfInBounds_toArray, List.set_cons_succ, List.set_cons_zero] at h13
      have r3 := h13.rowH P3 3 rfl
      simp -dsimp -implicitDefEqProofs (disch := omega) only [go_sem, reqD_of, dec_t, dec_f, wrap_i64, wrap_u32, wrap_u64, wrap_u8, hd, e0, e2, e3, r3]
      refine h13.stoAll (b := P2) (n := 3) (cs := [.bool false, .bool tn, .slice a9 (acc.length + 1) c9]) rfl rfl (fun u hu => by simp at hu; rcases hu with rfl | rfl | rfl <;> rfl) fun w14 h14 => ?_
      have r2 := h14.rowH P2 3 rfl
      simp -dsimp -implicitDefEqProofs (disch := omega) only [go_sem, reqD_of, dec_t, dec_f, wrap_i64, wrap_u32, wrap_u64, wrap_u8, hd, e0, e2, e3]
      refine resC_1 (a := ⟨P2, 0, none⟩) (v := .agg #[.bool false, .bool tn, .slice a9 (acc.length + 1) c9]) (by simp -dsimp -implicitDefEqProofs only [go_sem, e2]) (run_loadVar_row (by kernel_rfl) r2) ?_
      exact hyes (acc ++ [(a, a)]) _ (k1 + 1) _ hsp (by omega) (by omega) ((h14.ac (show _ = RdP R v rs (k1 + 1) * (RowO 94 2 (.slice a9 (acc.length + 1) c9) (acc ++ [(a, a)]).length ((acc ++ [(a, a)]).flatMap spV) * (A * (Blk P3 (.cells #[.bool false, .bool tn, .slice a9 (acc.length + 1) c9] 62 (0, 0)) * Blk P2 (.cells #[.bool false, .bool tn, .slice a9 (acc.length + 1) c9] 62 (0, 0))))) by simp only [RdP]; ac_rfl)).sub)
    · rw [spans_step hsl (by omega), ← hl4] at hsp
      simp -dsimp -implicitDefEqProofs (disch := omega) only [go_sem, reqD_of, dec_t, dec_f, wrap_i64, wrap_u32, wrap_u64, wrap_u8, hd, e0, e2, e3, d1, m2, m12]
      exact ⟨⟨k1, acc ++ [(a, a)], .slice a9 (acc.length + 1) c9, by omega, by omega, by simp; omega, hsp, h12⟩, by omega⟩

end
section
attribute [local go_sem] F49.t12_eq
theorem class_any {w0 w : World} {A : HP} {R at_ : Nat} {v : Value} {rs : List Nat} (h : St w0 (RdP R v rs at_ * A) w) (hs : rs.length ≤ 4294967296) (hat : at_ ≤ rs.length) :
    Calls Tryd.prog 49 #[.pointer (some ⟨R, 0, none⟩)] w fun e w' =>
      (∃ tn ss u at', classL (rs.drop at_) = some (tn, ss, rs.drop at') ∧ at_ < at' ∧ at' ≤ rs.length ∧ St w0 (RdP R v rs at' * (RowO 94 2 u ss.length (ss.flatMap spV) * A)) w' ∧ e = .returned (.agg #[.bool false, .bool tn, u])) ∨
      (classL (rs.drop at_) = none ∧ St w0 A w' ∧ e = .panicked patP) := by
  obtain ⟨av, cv, rfl, _⟩ := h.rowForm v
  refine F49.calls (by simp) ?_
  unfold F49.code
  simp -dsimp -implicitDefEqProofs (disch := omega) only [go_sem, reqD_of, dec_t, dec_f, wrap_i64, wrap_u32, wrap_u64, wrap_u8]
  refine h.new fun P2 w1 h1 => ?_
  simp -dsimp -implicitDefEqProofs (disch := omega) only [go_sem, reqD_of, dec_t, dec_f, wrap_i64, wrap_u32, wrap_u64, wrap_u8]
  refine h1.new fun P3 w2 h2 => ?_
  simp -dsimp -implicitDefEqProofs (disch := omega) only [go_sem, reqD_of, dec_t, dec_f, wrap_i64, wrap_u32, wrap_u64, wrap_u8]
  have h2 := h2.ac (show _ = RdP R (.slice av rs.length cv) rs at_ * (Blk P3 (.cells #[.bool false, .bool false, .slice none 0 0] 62 (0, 0)) * (Blk P2 (.cells #[.bool false, .bool false, .slice none 0 0] 62 (0, 0)) * A)) by ac_rfl)
  refine (peek_any h2).mono ?_
  rintro e w3 ⟨h3, ⟨c, l, hl, rfl⟩ | ⟨hl, rfl⟩⟩
  case inr =>
    have hn : classL (rs.drop at_) = none := by rw [hl]; rfl
    simp -dsimp -implicitDefEqProofs (disch := omega) only [go_sem, reqD_of, dec_t, dec_f, wrap_i64, wrap_u32, wrap_u64, wrap_u8, hn]
    exact .inr h3.right.right.right
  have hlt : at_ < rs.length := by
    rcases Nat.lt_or_ge at_ rs.length with q | q
    · exact q
    · rw [List.drop_of_length_le q] at hl; cases hl
  have hd1 : rs.drop (at_ + 1) = l := by
    have := congrArg List.tail hl
    simpa using this
  by_cases c1 : (c : Int) = 94
  · have hcl : classL (rs.drop at_) = (spans [] (rs.drop (at_ + 1))).map fun x => (true, x.1, x.2) := by
      rw [hl, hd1]; show (if c = 94 then _ else _) = _; rw [if_pos (by omega)]
    simp -dsimp -implicitDefEqProofs (disch := omega) only [go_sem, reqD_of, dec_t, dec_f, wrap_i64, wrap_u32, wrap_u64, wrap_u8, c1]
    refine h3.sto (b := P3) (off := 1) (by simp) rfl fun w4 h4 => ?_
    simp only [List.setIfInBounds_toArray, List.set_cons_succ, List.set_cons_zero] at h4
    have c0 := h4.cl R
    simp -dsimp -implicitDefEqProofs (disch := omega) only [go_sem, reqD_of, dec_t, dec_f, wrap_i64, wrap_u32, wrap_u64, wrap_u8, c0]
    refine h4.sto (b := R) (off := 1) (by simp) rfl fun w5 h5 => ?_
    simp only [List.setIfInBounds_toArray, List.set_cons_succ, List.set_cons_zero] at h5
    simp -dsimp -implicitDefEqProofs (disch := omega) only [go_sem, reqD_of, dec_t, dec_f, wrap_i64, wrap_u32, wrap_u64, wrap_u8]
    refine class_5 (θ := ⟨⟩) (v := .slice av rs.length cv) (rs := rs) (R := R) (P2 := P2) (P3 := P3) (tn := true) (at_ := at_ + 1) (A := A) hs (by omega) rfl (by simp -dsimp -implicitDefEqProofs only [go_sem]) (by simp -dsimp -implicitDefEqProofs only [go_sem]) (by simp -dsimp -implicitDefEqProofs only [go_sem]) (h5.ac (by simp only [RdP]; ac_rfl)) ?_ ?_
    · intro ss u at' w' hsp h1 h2 h'
      exact .inl ⟨true, ss, u, at', by rw [hcl, hsp]; rfl, by omega, h2, h', rfl⟩
    · intro w' hsp h'
      exact .inr ⟨by rw [hcl, hsp]; rfl, h', rfl⟩
  · have hcl : classL (rs.drop at_) = (spans [] (rs.drop at_)).map fun x => (false, x.1, x.2) := by
      rw [hl]; show (if c = 94 then _ else _) = _; rw [if_neg (by omega)]
    simp -dsimp -implicitDefEqProofs (disch := omega) only [go_sem, reqD_of, dec_t, dec_f, wrap_i64, wrap_u32, wrap_u64, wrap_u8, c1]
    refine class_5 (θ := ⟨⟩) (v := .slice av rs.length cv) (rs := rs) (R := R) (P2 := P2) (P3 := P3) (tn := false) (at_ := at_) (A := A) hs (by omega) rfl (by simp -dsimp -implicitDefEqProofs only [go_sem]) (by simp -dsimp -implicitDefEqProofs only [go_sem]) (by simp -dsimp -implicitDefEqProofs only [go_sem]) h3 ?_ ?_
    · intro ss u at' w' hsp h1 h2 h'
      exact .inl ⟨false, ss, u, at', by rw [hcl, hsp]; rfl, by omega, h2, h', rfl⟩
    · intro w' hsp h'
      exact .inr ⟨by rw [hcl, hsp]; rfl, h', rfl⟩

end
end Go.Proofs.YtlnlomjdooobdaaDoor

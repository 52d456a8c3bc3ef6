/- The reader of a pattern's characters: more, peek, next, one. -/
import Derived.Test.YtlnlomjdooobdaaDoorNaH
namespace Go.Proofs.YtlnlomjdooobdaaDoor
open Go
set_option linter.unusedVariables false
set_option linter.unusedSimpArgs false
set_option maxRecDepth 100000

abbrev rv (r : Nat) : Value := .int .i32 r
abbrev patP : List PanicEntry := [{ v := .iface 86 (.agg #[]), recovered := false }]
/-- The reader R over these characters, at a place. -/
abbrev RdP (R : Nat) (v : Value) (rs : List Nat) (at_ : Nat) : HP := Blk R (.cells #[v, .int .i64 at_] 90 (0, 0)) * RowO 21 1 v rs.length (rs.map rv)


theorem more_any {w0 w : World} {A : HP} {R at_ : Nat} {v : Value} {rs : List Nat} (h : St w0 (RdP R v rs at_ * A) w) :
    Calls Tryd.prog 47 #[.pointer (some ⟨R, 0, none⟩)] w fun e w' => St w0 (RdP R v rs at_ * A) w' ∧ e = .returned (.bool (decide (at_ < rs.length))) := by
  obtain ⟨a, c, rfl, _⟩ := h.rowForm v
  have c0 := h.cl R
  have d0 := h.drew.cl R
  refine F47.calls (by simp) ?_
  unfold F47.code
  have e0 : decide ((at_ : Int) < rs.length) = decide (at_ < rs.length) := by simp
  simp -dsimp -implicitDefEqProofs (disch := omega) only [go_sem, reqD_of, dec_t, dec_f, wrap_i64, wrap_u32, wrap_u64, wrap_u8, c0, d0, e0]
  exact h.drew

section
attribute [local go_sem] F59.t3_eq
theorem peek_any {w0 w : World} {A : HP} {R at_ : Nat} {v : Value} {rs : List Nat} (h : St w0 (RdP R v rs at_ * A) w) :
    Calls Tryd.prog 59 #[.pointer (some ⟨R, 0, none⟩)] w fun e w' => St w0 (RdP R v rs at_ * A) w' ∧
      ((∃ c l, rs.drop at_ = c :: l ∧ e = .returned (rv c)) ∨ (rs.drop at_ = [] ∧ e = .panicked patP)) := by
  obtain ⟨a, c, rfl, _⟩ := h.rowForm v
  refine F59.calls (by simp) ?_
  unfold F59.code
  simp -dsimp -implicitDefEqProofs (disch := omega) only [go_sem, reqD_of, dec_t, dec_f, wrap_i64, wrap_u32, wrap_u64, wrap_u8]
  refine (more_any h).mono ?_
  rintro e w1 ⟨h1, rfl⟩
  by_cases hlt : at_ < rs.length
  · have hdr : rs.drop at_ = rs[at_] :: rs.drop (at_ + 1) := List.drop_eq_getElem_cons hlt
    obtain ⟨b, o, rfl, c1⟩ := h1.atS (a := a) (n := rs.length) (c := c) (xs := rs.map rv) (k := at_) (by simpa using hlt)
    obtain ⟨b2, o2, hb2, d1⟩ := h1.drew.atS (a := some ⟨b, o, none⟩) (n := rs.length) (c := c) (xs := rs.map rv) (k := at_) (by simpa using hlt)
    simp only [Option.some.injEq, Addr.mk.injEq, and_true] at hb2
    obtain ⟨rfl, rfl⟩ := hb2
    simp only [List.getElem_map] at c1 d1
    have c0 := h1.cl R
    have d0 := h1.drew.cl R
    have hlt' : (at_ : Int) < rs.length := by omega
    have dt : decide (at_ < rs.length) = true := by simpa using hlt
    rw [dt]
    simp -dsimp -implicitDefEqProofs (disch := omega) only [go_sem, reqD_of, dec_t, dec_f, wrap_i64, wrap_u32, wrap_u64, wrap_u8, c0, d0, c1, d1, hlt']
    exact ⟨h1.drew, _, _, hdr, rfl⟩
  · have dt : decide (at_ < rs.length) = false := by simpa using hlt
    have hdr : rs.drop at_ = [] := List.drop_of_length_le (by omega)
    rw [dt]
    simp -dsimp -implicitDefEqProofs (disch := omega) only [go_sem, reqD_of, dec_t, dec_f, wrap_i64, wrap_u32, wrap_u64, wrap_u8]
    refine onV_of (v := .agg #[]) (by kernel_rfl) ?_
    simp -dsimp -implicitDefEqProofs (disch := omega) only [go_sem, reqD_of, dec_t, dec_f, wrap_i64, wrap_u32, wrap_u64, wrap_u8]
    refine mkI_of (by kernel_rfl) ?_
    simp -dsimp -implicitDefEqProofs (disch := omega) only [go_sem, reqD_of, dec_t, dec_f, wrap_i64, wrap_u32, wrap_u64, wrap_u8]
    refine panic_of ?_
    simp -dsimp -implicitDefEqProofs (disch := omega) only [go_sem, reqD_of, dec_t, dec_f, wrap_i64, wrap_u32, wrap_u64, wrap_u8, hdr]
    exact h1

end

theorem next_any {w0 w : World} {A : HP} {R at_ : Nat} {v : Value} {rs : List Nat} (h : St w0 (RdP R v rs at_ * A) w) (hs : rs.length ≤ 4294967296) :
    Calls Tryd.prog 48 #[.pointer (some ⟨R, 0, none⟩)] w fun e w' =>
      (∃ c l, rs.drop at_ = c :: l ∧ rs.drop (at_ + 1) = l ∧ St w0 (RdP R v rs (at_ + 1) * A) w' ∧ e = .returned (rv c)) ∨ (rs.drop at_ = [] ∧ St w0 A w' ∧ e = .panicked patP) := by
  obtain ⟨a, cc, rfl, _⟩ := h.rowForm v
  refine F48.calls (by simp) ?_
  unfold F48.code
  simp -dsimp -implicitDefEqProofs (disch := omega) only [go_sem, reqD_of, dec_t, dec_f, wrap_i64, wrap_u32, wrap_u64, wrap_u8]
  refine (peek_any h).mono ?_
  rintro e w1 ⟨h1, ⟨c, l, hl, rfl⟩ | ⟨hl, rfl⟩⟩
  · have hlt : at_ < rs.length := by
      rcases Nat.lt_or_ge at_ rs.length with k | k
      · exact k
      · rw [List.drop_of_length_le k] at hl; cases hl
    have hd1 : rs.drop (at_ + 1) = l := by
      have := congrArg List.tail hl
      simpa using this
    have c0 := h1.cl R
    simp -dsimp -implicitDefEqProofs (disch := omega) only [go_sem, reqD_of, dec_t, dec_f, wrap_i64, wrap_u32, wrap_u64, wrap_u8, c0]
    refine h1.sto (b := R) (off := 1) (by simp) rfl fun w2 h2 => ?_
    simp only [List.setIfInBounds_toArray, List.set_cons_succ, List.set_cons_zero] at h2
    simp -dsimp -implicitDefEqProofs (disch := omega) only [go_sem, reqD_of, dec_t, dec_f, wrap_i64, wrap_u32, wrap_u64, wrap_u8]
    exact ⟨c, l, hl, hd1, h2.ac (by simp only [RdP]; ac_rfl), rfl⟩
  · simp -dsimp -implicitDefEqProofs (disch := omega) only [go_sem, reqD_of, dec_t, dec_f, wrap_i64, wrap_u32, wrap_u64, wrap_u8, hl]
    exact .inr h1.right

/-- One character of a class, with what is left. -/
def oneL : List Nat → Option (Nat × List Nat)
  | [] => none
  | c :: l => if c = 92 then match l with
      | [] => none
      | d :: l' => some (d, l')
    else if c = 93 ∨ c = 45 then none else some (c, l)

theorem oneL_e {c d : Nat} {l : List Nat} (h : c = 92) : oneL (c :: d :: l) = some (d, l) := by subst h; rfl
theorem oneL_e0 {c : Nat} (h : c = 92) : oneL [c] = none := by subst h; rfl
theorem oneL_b {c : Nat} {l : List Nat} (h : c = 93 ∨ c = 45) : oneL (c :: l) = none := by rcases h with rfl | rfl <;> rfl
theorem oneL_p {c : Nat} {l : List Nat} (h : c ≠ 92) (h' : ¬ (c = 93 ∨ c = 45)) : oneL (c :: l) = some (c, l) := by
  show (if c = 92 then _ else if c = 93 ∨ c = 45 then none else some (c, l)) = _
  rw [if_neg h, if_neg h']

section
attribute [local go_sem] F60.t7_eq F60.t8_eq
theorem one_any {w0 w : World} {A : HP} {R at_ : Nat} {v : Value} {rs : List Nat} (h : St w0 (RdP R v rs at_ * A) w) (hs : rs.length ≤ 4294967296) :
    Calls Tryd.prog 60 #[.pointer (some ⟨R, 0, none⟩)] w fun e w' =>
      (∃ c at', oneL (rs.drop at_) = some (c, rs.drop at') ∧ at_ < at' ∧ at' ≤ rs.length ∧ St w0 (RdP R v rs at' * A) w' ∧ e = .returned (rv c)) ∨ (oneL (rs.drop at_) = none ∧ St w0 A w' ∧ e = .panicked patP) := by
  obtain ⟨a, cc, rfl, _⟩ := h.rowForm v
  have lenlt : ∀ {k c : Nat} {l : List Nat}, rs.drop k = c :: l → k < rs.length := fun {k c l} hl => by
    rcases Nat.lt_or_ge k rs.length with q | q
    · exact q
    · rw [List.drop_of_length_le q] at hl; cases hl
  refine F60.calls (by simp) ?_
  unfold F60.code
  simp -dsimp -implicitDefEqProofs (disch := omega) only [go_sem, reqD_of, dec_t, dec_f, wrap_i64, wrap_u32, wrap_u64, wrap_u8]
  refine (next_any h hs).mono ?_
  rintro e w1 (⟨c, l, hl, hl1, h1, rfl⟩ | ⟨hl, h1, rfl⟩)
  · have hlt := lenlt hl
    by_cases c1 : (c : Int) = 92
    · simp -dsimp -implicitDefEqProofs (disch := omega) only [go_sem, reqD_of, dec_t, dec_f, wrap_i64, wrap_u32, wrap_u64, wrap_u8, c1]
      refine (next_any h1 hs).mono ?_
      rintro e w2 (⟨d, l', hk, hk1, h2, rfl⟩ | ⟨hk, h2, rfl⟩)
      · have hlt2 := lenlt hk
        have ho : oneL (rs.drop at_) = some (d, rs.drop (at_ + 1 + 1)) := by
          rw [hl, ← hl1, hk, oneL_e (by omega), hk1]
        simp -dsimp -implicitDefEqProofs (disch := omega) only [go_sem, reqD_of, dec_t, dec_f, wrap_i64, wrap_u32, wrap_u64, wrap_u8, ho]
        exact ⟨d, at_ + 1 + 1, rfl, by omega, by omega, h2, rfl⟩
      · have ho : oneL (rs.drop at_) = none := by rw [hl, ← hl1, hk, oneL_e0 (by omega)]
        simp -dsimp -implicitDefEqProofs (disch := omega) only [go_sem, reqD_of, dec_t, dec_f, wrap_i64, wrap_u32, wrap_u64, wrap_u8, ho]
        exact .inr h2
    by_cases c2 : (c : Int) = 93
    · have ho : oneL (rs.drop at_) = none := by rw [hl, oneL_b (by omega)]
      simp -dsimp -implicitDefEqProofs (disch := omega) only [go_sem, reqD_of, dec_t, dec_f, wrap_i64, wrap_u32, wrap_u64, wrap_u8, c1, c2]
      refine onV_of (v := .agg #[]) (by kernel_rfl) ?_
      simp -dsimp -implicitDefEqProofs (disch := omega) only [go_sem, reqD_of, dec_t, dec_f, wrap_i64, wrap_u32, wrap_u64, wrap_u8]
      refine mkI_of (by kernel_rfl) ?_
      simp -dsimp -implicitDefEqProofs (disch := omega) only [go_sem, reqD_of, dec_t, dec_f, wrap_i64, wrap_u32, wrap_u64, wrap_u8]
      refine panic_of ?_
      simp -dsimp -implicitDefEqProofs (disch := omega) only [go_sem, reqD_of, dec_t, dec_f, wrap_i64, wrap_u32, wrap_u64, wrap_u8, ho]
      exact .inr h1.right
    by_cases c3 : (c : Int) = 45
    · have ho : oneL (rs.drop at_) = none := by rw [hl, oneL_b (by omega)]
      simp -dsimp -implicitDefEqProofs (disch := omega) only [go_sem, reqD_of, dec_t, dec_f, wrap_i64, wrap_u32, wrap_u64, wrap_u8, c1, c2, c3]
      refine onV_of (v := .agg #[]) (by kernel_rfl) ?_
      simp -dsimp -implicitDefEqProofs (disch := omega) only [go_sem, reqD_of, dec_t, dec_f, wrap_i64, wrap_u32, wrap_u64, wrap_u8]
      refine mkI_of (by kernel_rfl) ?_
      simp -dsimp -implicitDefEqProofs (disch := omega) only [go_sem, reqD_of, dec_t, dec_f, wrap_i64, wrap_u32, wrap_u64, wrap_u8]
      refine panic_of ?_
      simp -dsimp -implicitDefEqProofs (disch := omega) only [go_sem, reqD_of, dec_t, dec_f, wrap_i64, wrap_u32, wrap_u64, wrap_u8, ho]
      exact .inr h1.right
    · have ho : oneL (rs.drop at_) = some (c, rs.drop (at_ + 1)) := by rw [hl, oneL_p (by omega) (by omega), hl1]
      simp -dsimp -implicitDefEqProofs (disch := omega) only [go_sem, reqD_of, dec_t, dec_f, wrap_i64, wrap_u32, wrap_u64, wrap_u8, c1, c2, c3, ho]
      exact ⟨c, at_ + 1, rfl, by omega, by omega, h1, rfl⟩
  · have ho : oneL (rs.drop at_) = none := by rw [hl]; rfl
    simp -dsimp -implicitDefEqProofs (disch := omega) only [go_sem, reqD_of, dec_t, dec_f, wrap_i64, wrap_u32, wrap_u64, wrap_u8, ho]
    exact .inr h1

end
end Go.Proofs.YtlnlomjdooobdaaDoor

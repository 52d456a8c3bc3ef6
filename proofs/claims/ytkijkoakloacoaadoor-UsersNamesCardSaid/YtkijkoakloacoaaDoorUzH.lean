/- users: named, join. -/
import Derived.Test.YtkijkoakloacoaaDoorUzG
namespace Go.Proofs.YtkijkoakloacoaaDoor
open Go
set_option linter.unusedVariables false
set_option linter.unusedSimpArgs false
set_option maxRecDepth 100000

/-- A look-up of a name, as its being known. -/
theorem lk_at_cases (L : List Acc) (n : List UInt8) : (known L n = false ∧ lk n (atF L) = none) ∨ (known L n = true ∧ ∃ i, lk n (atF L) = some (.int .i64 (i : Nat))) := by
  cases h : known L n
  · exact .inl ⟨rfl, lk_at_none h⟩
  · obtain ⟨i, _, h1, _⟩ := lk_at_some h
    exact .inr ⟨rfl, i, h1⟩
theorem lkV_at (L : List Acc) (n : List UInt8) : ∃ z : Int, lkV (.int .i64 0) true (lk n (atF L)) = .tuple #[.int .i64 z, .bool (known L n)] := by
  rcases lk_at_cases L n with ⟨h1, h2⟩ | ⟨h1, i, h2⟩
  · exact ⟨0, by rw [h1, h2]; rfl⟩
  · exact ⟨i, by rw [h1, h2]; rfl⟩

section
attribute [local go_sem] F41.t8_eq F41.t5_eq
theorem named_any {w0 w : World} {A : HP} {T m : Nat} {vl vi : Value} {L : List AV} {a : Acc} {v : Value} (h : St w0 (TabQ T m vl vi L * A) w) (hv : Ent A (ReadsT v a.members)) (hf : Fit a) :
    Calls Tryd.prog 41 #[.pointer (some ⟨T, 0, none⟩), accV a v] w fun e w' => St w0 (TabQ T m vl vi L * A) w' ∧ ((namedF (accs L) a = true ∧ e = .returned (.tuple #[])) ∨ (namedF (accs L) a = false ∧ e = .panicked (trouble 62))) := by
  obtain ⟨av, cv, rfl, hcv, hx⟩ := h.right.texts hv
  refine F41.calls (by simp) ?_
  unfold F41.code
  simp -dsimp -implicitDefEqProofs (disch := omega) only [go_sem, reqD_of, dec_t, dec_f, wrap_i64, wrap_u32, wrap_u64, wrap_u8]
  refine h.new fun P w1 h1 => ?_
  simp -dsimp -implicitDefEqProofs (disch := omega) only [go_sem, reqD_of, dec_t, dec_f, wrap_i64, wrap_u32, wrap_u64, wrap_u8, h1.cl T, h1.cl P, h1.drew.cl T, h1.drew.cl P]
  refine h1.drew.lkH (b := m) (x := a.leader) Tryd.underlying69 lawS zero_int ?_
  obtain ⟨z, hz⟩ := lkV_at (accs L) a.leader
  rw [hz]
  have hlist : (a.leader == ([] : List UInt8)) = decide (a.leader = []) := strEq_beq _ _
  cases hkl : known (accs L) a.leader
  case' false =>
    by_cases hl : a.leader = []
    case' pos =>
      have e0 : decide (a.leader = []) = true := by simp [hl]
      simp -dsimp -implicitDefEqProofs (disch := omega) only [go_sem, reqD_of, dec_t, dec_f, wrap_i64, wrap_u32, wrap_u64, wrap_u8, h1.cl T, h1.cl P, h1.drew.cl T, h1.drew.cl P, e0]
      refine (need_st h1.drew _ _).mono ?_
      rintro e w5 ⟨h5, ⟨_, rfl⟩ | ⟨n2, rfl⟩⟩
      case inr => cases n2
      have n2 : (a.leader == [] || known (accs L) a.leader) = true := by simp [hl]
      simp -dsimp -implicitDefEqProofs (disch := omega) only [go_sem, reqD_of, dec_t, dec_f, wrap_i64, wrap_u32, wrap_u64, wrap_u8, h5.cl P]
    case' neg =>
      simp -dsimp -implicitDefEqProofs (disch := omega) only [go_sem, reqD_of, dec_t, dec_f, wrap_i64, wrap_u32, wrap_u64, wrap_u8, h1.cl T, h1.cl P, h1.drew.cl T, h1.drew.cl P, hl]
      refine (need_st h1.drew _ _).mono ?_
      rintro e w5 ⟨h5, ⟨n2, rfl⟩ | ⟨_, rfl⟩⟩
      case inl => cases n2
      have hn : namedF (accs L) a = false := by simp [namedF, hkl, hl]
      simp -dsimp -implicitDefEqProofs (disch := omega) only [go_sem, reqD_of, dec_t, dec_f, wrap_i64, wrap_u32, wrap_u64, wrap_u8, hn]
      exact h5.right
  case' true =>
    simp -dsimp -implicitDefEqProofs (disch := omega) only [go_sem, reqD_of, dec_t, dec_f, wrap_i64, wrap_u32, wrap_u64, wrap_u8, h1.cl T, h1.cl P, h1.drew.cl T, h1.drew.cl P]
    refine (need_st h1.drew _ _).mono ?_
    rintro e w5 ⟨h5, ⟨_, rfl⟩ | ⟨n2, rfl⟩⟩
    case inr => cases n2
    have n2 : (a.leader == [] || known (accs L) a.leader) = true := by simp [hkl]
    simp -dsimp -implicitDefEqProofs (disch := omega) only [go_sem, reqD_of, dec_t, dec_f, wrap_i64, wrap_u32, wrap_u64, wrap_u8, h5.cl P]
  all_goals
    refine loop_intro (fun e w' => e.ds = [] ∧ e.ρ 0 = .pointer (some ⟨T, 0, none⟩) ∧ e.ρ 28 = .slice av a.members.length cv ∧ e.ρ 29 = .int .i64 a.members.length ∧
        St w0 (TabQ T m vl vi L * A) w' ∧ ∃ i : Nat, i ≤ a.members.length ∧ e.ρ 30 = .int .i64 i ∧ a.members.all (known (accs L)) = (a.members.drop i).all (known (accs L)))
      (fun e _ => match e.ρ 30 with | .int _ n => (a.members.length - n).toNat | _ => 0) ?_ ?_
    · exact ⟨rfl, by simp -dsimp -implicitDefEqProofs only [go_sem], by simp -dsimp -implicitDefEqProofs only [go_sem], by simp -dsimp -implicitDefEqProofs only [go_sem], h5.right, 0, by omega, by simp -dsimp -implicitDefEqProofs only [go_sem], rfl⟩
    clear h5 h1 hx
    rintro e w6 ⟨hd, e0, e28, e29, h6, i, hi, e30, hk⟩
    obtain ⟨hf1, hf2⟩ := hf
    by_cases hlt : (i : Int) < (a.members.length : Int)
    case neg =>
      have : a.members.drop i = [] := List.drop_of_length_le (by omega)
      rw [this, List.all_nil] at hk
      have hn : namedF (accs L) a = true := by rw [namedF, n2, hk]; rfl
      simp -dsimp -implicitDefEqProofs (disch := omega) only [go_sem, reqD_of, dec_t, dec_f, wrap_i64, wrap_u32, wrap_u64, wrap_u8, hd, e0, e28, e29, e30, hlt, hn]
      exact h6
    have hlt' : i < a.members.length := by omega
    obtain ⟨b, o, rfl, hcell⟩ := (h6.ent ((Ent.right _ _).trans hv)).atS (a := av) (n := a.members.length) (c := cv) (xs := a.members.map sv) (k := i) (by simpa using hlt')
    rw [List.getElem_map] at hcell
    have hdr : a.members.drop i = a.members[i] :: a.members.drop (i + 1) := List.drop_eq_getElem_cons hlt'
    obtain ⟨q, hq⟩ : ∃ q, q = a.members[i] := ⟨_, rfl⟩
    rw [← hq] at hdr hcell
    rw [hdr, List.all_cons] at hk
    simp -dsimp -implicitDefEqProofs (disch := omega) only [go_sem, reqD_of, dec_t, dec_f, wrap_i64, wrap_u32, wrap_u64, wrap_u8, hd, e0, e28, e29, e30, hlt, hcell, h6.cl T]
    refine h6.lkH (b := m) (x := q) Tryd.underlying69 lawS zero_int ?_
    obtain ⟨z, hz⟩ := lkV_at (accs L) q
    rw [hz]
    simp -dsimp -implicitDefEqProofs (disch := omega) only [go_sem, reqD_of, dec_t, dec_f, wrap_i64, wrap_u32, wrap_u64, wrap_u8, hd, e0, e28, e29, e30]
    refine (need_st h6 _ _).mono ?_
    rintro e' w8 ⟨h8, ⟨n3, rfl⟩ | ⟨n3, rfl⟩⟩
    · rw [n3, Bool.true_and] at hk
      simp -dsimp -implicitDefEqProofs (disch := omega) only [go_sem, reqD_of, dec_t, dec_f, wrap_i64, wrap_u32, wrap_u64, wrap_u8, hd, e0, e28, e29, e30]
      exact ⟨⟨h8, i + 1, by omega, by omega, hk⟩, by omega⟩
    · have hn : namedF (accs L) a = false := by rw [n3, Bool.false_and] at hk; rw [namedF, hk, Bool.and_false]
      simp -dsimp -implicitDefEqProofs (disch := omega) only [go_sem, reqD_of, dec_t, dec_f, wrap_i64, wrap_u32, wrap_u64, wrap_u8, hd, hn]
      exact h8
end
end Go.Proofs.YtkijkoakloacoaaDoor

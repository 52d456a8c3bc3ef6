/- users: what a table tells: Known, Member, Leads, Key. -/
import Derived.Test.YtkijkoakloacoaaDoorUzL
namespace Go.Proofs.YtkijkoakloacoaaDoor
open Go
set_option linter.unusedVariables false
set_option linter.unusedSimpArgs false
set_option maxRecDepth 100000


theorem known_any {w0 w : World} {A : HP} {T m : Nat} {x : UT} (h : St w0 (TabW T m x * A) w) (n : List UInt8) :
    Calls Tryd.prog 29 #[.pointer (some ⟨T, 0, none⟩), .string (strOf n)] w fun e w' => St w0 (TabW T m x * A) w' ∧ e = .returned (.bool (known (accs x.L) n)) := by
  refine F29.calls (by simp) ?_
  unfold F29.code
  simp -dsimp -implicitDefEqProofs (disch := omega) only [go_sem, reqD_of, dec_t, dec_f, wrap_i64, wrap_u32, wrap_u64, wrap_u8, h.cl T]
  refine h.lkH (b := m) (x := n) Tryd.underlying69 lawS zero_int ?_
  obtain ⟨z, hz⟩ := lkV_at (accs x.L) n
  rw [hz]
  simp -dsimp -implicitDefEqProofs (disch := omega) only [go_sem, reqD_of, dec_t, dec_f, wrap_i64, wrap_u32, wrap_u64, wrap_u8]
  exact h


theorem member_any {w0 w : World} {A : HP} {T m : Nat} {x : UT} (ok : x.Ok) (h : St w0 (TabW T m x * A) w) (u g : List UInt8) :
    Calls Tryd.prog 26 #[.pointer (some ⟨T, 0, none⟩), .string (strOf u), .string (strOf g)] w fun e w' => St w0 (TabW T m x * A) w' ∧ e = .returned (.bool (memberF (accs x.L) u g)) := by
  refine F26.calls (by simp) ?_
  unfold F26.code
  simp -dsimp -implicitDefEqProofs (disch := omega) only [go_sem, reqD_of, dec_t, dec_f, wrap_i64, wrap_u32, wrap_u64, wrap_u8, h.cl T]
  refine onV_of (v := encPr (u, g)) (by kernel_rfl) ?_
  simp -dsimp -implicitDefEqProofs (disch := omega) only [go_sem, reqD_of, dec_t, dec_f, wrap_i64, wrap_u32, wrap_u64, wrap_u8]
  refine h.lkH (b := x.mi) (x := (u, g)) Tryd.underlying70 lawPr zero_int ?_
  have hin := ok.inl u g
  rw [← hin]
  have hz : ∃ z, lkV (.int .i64 0) true (lk (u, g) x.inl) = .tuple #[z, .bool (lk (u, g) x.inl).isSome] := by
    cases lk (u, g) x.inl with
    | none => exact ⟨_, rfl⟩
    | some v => exact ⟨_, rfl⟩
  obtain ⟨z, hz⟩ := hz
  rw [hz]
  simp -dsimp -implicitDefEqProofs (disch := omega) only [go_sem, reqD_of, dec_t, dec_f, wrap_i64, wrap_u32, wrap_u64, wrap_u8]
  exact h

section
attribute [local go_sem] F27.t7_eq
theorem leads_any {w0 w : World} {A : HP} {T m : Nat} {x : UT} (ok : x.Ok) (h : St w0 (TabW T m x * A) w) (u g : List UInt8) :
    Calls Tryd.prog 27 #[.pointer (some ⟨T, 0, none⟩), .string (strOf u), .string (strOf g)] w fun e w' => St w0 (TabW T m x * A) w' ∧ e = .returned (.bool (leadsF (accs x.L) u g)) := by
  refine F27.calls (by simp) ?_
  unfold F27.code
  simp -dsimp -implicitDefEqProofs (disch := omega) only [go_sem, reqD_of, dec_t, dec_f, wrap_i64, wrap_u32, wrap_u64, wrap_u8, h.cl T]
  refine h.lkH (b := m) (x := g) Tryd.underlying69 lawS zero_int ?_
  cases hg : known (accs x.L) g
  · have hl : leadsF (accs x.L) u g = false := by
      rw [known_find] at hg
      unfold leadsF
      cases hf : findF (accs x.L) g
      · rfl
      · rw [hf] at hg; cases hg
    rw [lk_at_none hg, hl]
    simp -dsimp -implicitDefEqProofs (disch := omega) only [go_sem, reqD_of, dec_t, dec_f, wrap_i64, wrap_u32, wrap_u64, wrap_u8, lkV]
    exact h
  obtain ⟨i, hi, hlk, hfind⟩ := lk_at_some hg
  rw [hlk]
  simp -dsimp -implicitDefEqProofs (disch := omega) only [go_sem, reqD_of, dec_t, dec_f, wrap_i64, wrap_u32, wrap_u64, wrap_u8, lkV]
  refine (known_any h u).mono ?_
  rintro e w1 ⟨h1, rfl⟩
  have hi' : i < x.L.length := by simpa using hi
  have ha : (accs x.L)[i] = x.L[i].1 := by simp
  rw [ha] at hfind
  cases hu : known (accs x.L) u
  · have hl : leadsF (accs x.L) u g = false := by unfold leadsF; rw [hfind]; simp [hu]
    rw [hl]
    simp -dsimp -implicitDefEqProofs (disch := omega) only [go_sem, reqD_of, dec_t, dec_f, wrap_i64, wrap_u32, wrap_u64, wrap_u8]
    exact h1
  have hl : leadsF (accs x.L) u g = if x.L[i].1.leader = [] then memberF (accs x.L) u g else x.L[i].1.leader == u := by unfold leadsF; rw [hfind]; simp [hu]
  rw [hl]
  obtain ⟨⟨av, cv, hvl, _⟩, _⟩ : (∃ a c, x.vl = .slice a x.L.length c ∧ True) ∧ True := by
    obtain ⟨a, c, e, _⟩ := h1.rowForm x.vl
    exact ⟨⟨a, c, e, trivial⟩, trivial⟩
  obtain ⟨_, a', c', hv', _, hrow⟩ := St.rowsAt accC_len (by decide) (h1.gives (B := Reads 4 x.vl x.L.length (x.L.flatMap accC)))
  obtain ⟨b, o, rfl, _, hc⟩ := hrow i hi'
  have hc1 := hc 1 (by decide)
  have hil : (i : Int) < x.L.length := by omega
  have hc2 : w1.cell? ⟨b, o + i * 4 + 1, none⟩ = some (sv x.L[i].1.leader) := hc1
  simp -dsimp -implicitDefEqProofs (disch := omega) only [go_sem, reqD_of, dec_t, dec_f, wrap_i64, wrap_u32, wrap_u64, wrap_u8, F27.t4_eq, h1.cl T, hv', hil, hc2]
  by_cases hld : x.L[i].1.leader = []
  · have d0 : decide (x.L[i].1.leader = []) = true := by simp [hld]
    rw [if_pos hld]
    simp -dsimp -implicitDefEqProofs (disch := omega) only [go_sem, reqD_of, dec_t, dec_f, wrap_i64, wrap_u32, wrap_u64, wrap_u8, d0]
    refine (member_any ok h1 u g).mono ?_
    rintro e w2 ⟨h2, rfl⟩
    simp -dsimp -implicitDefEqProofs (disch := omega) only [go_sem, reqD_of, dec_t, dec_f, wrap_i64, wrap_u32, wrap_u64, wrap_u8]
    exact h2
  · rw [if_neg hld, strEq_beq]
    simp -dsimp -implicitDefEqProofs (disch := omega) only [go_sem, reqD_of, dec_t, dec_f, wrap_i64, wrap_u32, wrap_u64, wrap_u8, hld]
    exact h1

end
section
attribute [local go_sem] F28.t4_eq
theorem keyT_any {w0 w : World} {A : HP} {T m : Nat} {x : UT} (h : St w0 (TabW T m x * A) w) (u : List UInt8) :
    Calls Tryd.prog 28 #[.pointer (some ⟨T, 0, none⟩), .string (strOf u)] w fun e w' => St w0 (TabW T m x * A) w' ∧ e = .returned (.string (strOf (keyOf (accs x.L) u))) := by
  refine F28.calls (by simp) ?_
  unfold F28.code
  simp -dsimp -implicitDefEqProofs (disch := omega) only [go_sem, reqD_of, dec_t, dec_f, wrap_i64, wrap_u32, wrap_u64, wrap_u8, h.cl T]
  refine h.lkH (b := m) (x := u) Tryd.underlying69 lawS zero_int ?_
  cases hg : known (accs x.L) u
  · have hl : keyOf (accs x.L) u = [] := by
      rw [known_find] at hg
      unfold keyOf
      cases hf : findF (accs x.L) u
      · rfl
      · rw [hf] at hg; cases hg
    rw [lk_at_none hg, hl]
    simp -dsimp -implicitDefEqProofs (disch := omega) only [go_sem, reqD_of, dec_t, dec_f, wrap_i64, wrap_u32, wrap_u64, wrap_u8, lkV]
    exact h
  obtain ⟨i, hi, hlk, hfind⟩ := lk_at_some hg
  rw [hlk]
  have hi' : i < x.L.length := by simpa using hi
  have ha : (accs x.L)[i] = x.L[i].1 := by simp
  rw [ha] at hfind
  have hl : keyOf (accs x.L) u = x.L[i].1.key := by unfold keyOf; rw [hfind]
  rw [hl]
  obtain ⟨_, a', c', hv', _, hrow⟩ := St.rowsAt accC_len (by decide) (h.gives (B := Reads 4 x.vl x.L.length (x.L.flatMap accC)))
  obtain ⟨b, o, rfl, _, hc⟩ := hrow i hi'
  have hil : (i : Int) < x.L.length := by omega
  have hc2 : w.cell? ⟨b, o + i * 4 + 3, none⟩ = some (sv x.L[i].1.key) := hc 3 (by decide)
  simp -dsimp -implicitDefEqProofs (disch := omega) only [go_sem, reqD_of, dec_t, dec_f, wrap_i64, wrap_u32, wrap_u64, wrap_u8, lkV, h.cl T, hv', hil, hc2]
  exact h
end
end Go.Proofs.YtkijkoakloacoaaDoor

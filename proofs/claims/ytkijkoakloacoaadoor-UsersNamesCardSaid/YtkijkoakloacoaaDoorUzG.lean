/- users: accounts are put into a table; who is named there. -/
import Derived.Test.YtkijkoakloacoaaDoorUzF
namespace Go.Proofs.YtkijkoakloacoaaDoor
open Go
set_option linter.unusedVariables false
set_option linter.unusedSimpArgs false
set_option maxRecDepth 100000

theorem lawS : KeyLaw Tryd.prog 9 sv := KeyLaw.txt Tryd.underlying9
theorem lawPr : KeyLaw Tryd.prog 95 encPr := KeyLaw.pair (by kernel_rfl)
theorem zero_int : zeroV Tryd.prog 3 = some (.int .i64 0) := by kernel_rfl

theorem atF_keys (L : List Acc) : (atF L).map (·.1) = L.map (·.name) := by
  unfold atF
  rw [List.map_map]
  have : ∀ (L : List Acc) (k : Nat), (L.zipIdx k).map ((fun x : List UInt8 × Value => x.1) ∘ fun x => (x.1.name, (.int .i64 (x.2 : Nat) : Value))) = L.map (·.name) := by
    intro L
    induction L with
    | nil => intro k; rfl
    | cons a L ih => intro k; rw [List.zipIdx_cons, List.map_cons, ih]; rfl
  exact this L 0
theorem lk_at_isSome (L : List Acc) (n : List UInt8) : (lk n (atF L)).isSome = known L n := by
  rw [Bool.eq_iff_iff, lk_isSome, atF_keys, known_iff]
theorem lk_at_none {L : List Acc} {n : List UInt8} (h : known L n = false) : lk n (atF L) = none := by
  have := lk_at_isSome L n
  rw [h] at this
  cases hl : lk n (atF L)
  · rfl
  · rw [hl] at this; cases this
/-- Where a name stands. -/
theorem lk_at_some : ∀ {L : List Acc} {n : List UInt8}, known L n = true → ∃ i, ∃ hi : i < L.length, lk n (atF L) = some (.int .i64 (i : Nat)) ∧ findF L n = some L[i] := by
  have gen : ∀ (L : List Acc) (k : Nat) (n : List UInt8), known L n = true → ∃ i, ∃ hi : i < L.length, lk n ((L.zipIdx k).map fun x => (x.1.name, (.int .i64 (x.2 : Nat) : Value))) = some (.int .i64 ((k + i : Nat) : Int)) ∧ findF L n = some L[i] := by
    intro L
    induction L with
    | nil => intro k n h; simp [known] at h
    | cons a L ih =>
      intro k n h
      rw [List.zipIdx_cons, List.map_cons]
      simp only [lk]
      by_cases e : n = a.name
      · exact ⟨0, by simp, by rw [if_pos e]; rfl, by simp [findF, e]⟩
      · have h2 : known L n = true := by
          simp only [known, List.any_cons, Bool.or_eq_true, beq_iff_eq] at h
          rcases h with h | h
          · exact absurd h.symm e
          · exact h
        obtain ⟨i, hi, h3, h4⟩ := ih (k + 1) n h2
        refine ⟨i + 1, by simpa using hi, ?_, ?_⟩
        · rw [if_neg e, h3, show k + 1 + i = k + (i + 1) by omega]
        · have : (a.name == n) = false := by rw [beq_eq_false_iff_ne]; exact fun x => e x.symm
          simp only [findF, List.find?_cons, this] at h4 ⊢
          simpa using h4
  intro L n h
  obtain ⟨i, hi, h3, h4⟩ := gen L 0 n h
  rw [Nat.zero_add] at h3
  exact ⟨i, hi, h3, h4⟩

section
attribute [local go_sem] F40.t4_eq
theorem add_new {w0 w : World} {A : HP} {T m : Nat} {vl vi : Value} {L : List AV} {a : Acc} {v : Value} (h : St w0 (TabQ T m vl vi L * A) w) (hk : known (accs L) a.name = false) (hv : isCell v = true) (hn : L.length ≤ 1099511627776) :
    Calls Tryd.prog 40 #[.pointer (some ⟨T, 0, none⟩), accV a v] w fun e w' => ∃ vl', St w0 (TabQ T m vl' vi (L ++ [(a, v)]) * A) w' ∧ e = .returned (.tuple #[]) := by
  obtain ⟨av, cv, rfl, _⟩ := h.rowForm vl
  refine F40.calls (by simp) ?_
  unfold F40.code
  simp -dsimp -implicitDefEqProofs (disch := omega) only [go_sem, reqD_of, dec_t, dec_f, wrap_i64, wrap_u32, wrap_u64, wrap_u8]
  refine h.new fun P w1 h1 => ?_
  simp -dsimp -implicitDefEqProofs (disch := omega) only [go_sem, reqD_of, dec_t, dec_f, wrap_i64, wrap_u32, wrap_u64, wrap_u8, h1.cl T, h1.cl P, h1.drew.cl T, h1.drew.cl P]
  refine h1.drew.lkH (b := m) (x := a.name) Tryd.underlying69 lawS zero_int ?_
  rw [lk_at_none hk]
  simp -dsimp -implicitDefEqProofs (disch := omega) only [go_sem, reqD_of, dec_t, dec_f, wrap_i64, wrap_u32, wrap_u64, wrap_u8, lkV, h1.cl T, h1.cl P, h1.drew.cl T, h1.drew.cl P, h1.drew.drew.cl T, h1.drew.drew.cl P]
  refine h1.drew.drew.updH (b := m) (x := a.name) Tryd.underlying69 lawS fun w2 h2 => ?_
  rw [(ixOf_none a.name (atF (accs L)) 0 _ (by
    have := ixOf_lk a.name (atF (accs L)) 0
    rw [lk_at_none hk] at this
    exact Option.map_eq_none_iff.1 this)).1] at h2
  simp -dsimp -implicitDefEqProofs (disch := omega) only [go_sem, reqD_of, dec_t, dec_f, wrap_i64, wrap_u32, wrap_u64, wrap_u8, h2.cl T, h2.cl P, h2.drew.cl T, h2.drew.cl P, h2.rowH P 4 rfl, h2.drew.rowH P 4 rfl]
  refine h2.drew.lit (n := 1) (cells := accL a v) fact_rowTy_23 rfl (by decide) (by decide) fun v3 w3 h3 => ?_
  obtain ⟨a3, c3, rfl, _⟩ := h3.rowForm v3
  simp -dsimp -implicitDefEqProofs (disch := omega) only [go_sem, reqD_of, dec_t, dec_f, wrap_i64, wrap_u32, wrap_u64, wrap_u8, h3.cl T, h3.cl P, h3.rowH P 4 rfl]
  refine h3.appR (v := .slice av L.length cv) (x := .slice a3 1 c3) fact_rowTy_23 Tryd.underlying23 (fun u hu => by simp at hu; rcases hu with rfl | rfl | rfl | rfl <;> first | rfl | exact hv) (by simp) (show _ ≤ 9223372036854775807 by omega) (by omega) fun v4 w4 h4 => ?_
  obtain ⟨a4, c4, rfl, _⟩ := h4.rowForm v4
  simp -dsimp -implicitDefEqProofs (disch := omega) only [go_sem, reqD_of, dec_t, dec_f, wrap_i64, wrap_u32, wrap_u64, wrap_u8, h4.cl T, h4.cl P, h4.rowH P 4 rfl]
  refine h4.sto (b := T) (off := 0) (by simp) rfl fun w5 h5 => ?_
  simp only [List.setIfInBounds_toArray, List.set_cons_zero] at h5
  simp -dsimp -implicitDefEqProofs (disch := omega) only [go_sem, reqD_of, dec_t, dec_f, wrap_i64, wrap_u32, wrap_u64, wrap_u8]
  refine ⟨.slice a4 (L.length + 1) c4, ?_⟩
  have e1 : (L ++ [(a, v)]).length = L.length + 1 := by simp
  have e2 : (L ++ [(a, v)]).flatMap accC = L.flatMap accC ++ accL a v := by simp
  have e3 : atF (accs (L ++ [(a, v)])) = atF (accs L) ++ [(a.name, .int .i64 (L.length : Nat))] := by
    rw [show accs (L ++ [(a, v)]) = accs L ++ [a] by simp, atF_snoc]; simp
  unfold TabQ
  rw [e1, e2, e3]
  exact h5.sub
end
end Go.Proofs.YtkijkoakloacoaaDoor

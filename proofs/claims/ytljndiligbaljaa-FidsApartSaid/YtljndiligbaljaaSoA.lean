/- slices.Sort at uint32: rows of numbers; Less; insertion sort. -/
import Derived.Test.YtljndiligbaljaaAx
import Derived.Test.YtljndiligbaljaaIr
import Derived.Sort.AssemblyPlain
namespace Go.Proofs.Ytljndiligbaljaa
open Go Go.Sort
set_option linter.unusedSimpArgs false
set_option linter.unusedVariables false
set_option maxRecDepth 100000

abbrev encW : Int → Value := fun n => .int .u32 n
/-- The numbers that are sorted, in their row. -/
def SoP (g o n c : Nat) (d : Array Int) : HP := RowO 35 1 (.slice (some ⟨g, o, none⟩) n c) n (d.toList.map encW)
abbrev soV (g o n c : Nat) : Value := .slice (some ⟨g, o, none⟩) n c

section
variable {w0 w : World} {F : HP} {g o n c : Nat} {d : Array Int}
theorem SoP.size (h : St w0 (SoP g o n c d * F) w) : d.size = n := by
  have := (h.left.ent (RowO.reads _ _ _ _ _)).rd.length
  simpa using this
theorem SoP.get (h : St w0 (SoP g o n c d * F) w) {i : Nat} (hi : i < n) : w.cell? ⟨g, o + i, none⟩ = some (encW d[i]!) := by
  have hs := SoP.size h
  have r := (h.left.ent (RowO.reads _ _ _ _ _)).rd
  obtain ⟨a, c', hv, _, hr⟩ := r.form
  simp only [Value.slice.injEq, true_and] at hv
  obtain ⟨rfl, rfl⟩ := hv
  have hg : (d.toList.map encW)[i]? = some (encW d[i]!) := by
    rw [List.getElem?_map, Array.getElem?_toList, Array.getElem?_eq_getElem (by omega), getElem!_pos d i (by omega)]; rfl
  rcases hr with hr | ⟨b, o', hb, hr⟩
  · rw [hr] at hg; cases hg
  · simp only [Option.some.injEq, Addr.mk.injEq, and_true] at hb
    obtain ⟨rfl, rfl⟩ := hb
    rw [hr i (by simp; omega)]
    exact hg
theorem SoP.set {K : World → Prop} {θ : Tag K} (h : St w0 (SoP g o n c d * F) w) {i : Nat} {x : Int} (hi : i < n) (hK : ∀ w', St w0 (SoP g o n c (d.setIfInBounds i x) * F) w' → K w') : storeD (some 1) (.pointer (some ⟨g, o + i, none⟩)) (encW x) w K θ := by
  have hs := SoP.size h
  have h' : St w0 (RowO 35 1 (.slice (some ⟨g, o, none⟩) n c) n (d.toList.map encW) * F) w := h
  refine h'.rowSet1 (g := g) (o := o) (n := n) (c := c) (s := 1) (T := 35) (k := i) (xs := d.toList.map encW) (by rw [List.length_map, Array.length_toList]; omega) rfl fun w' hw => hK w' ?_
  unfold SoP
  rw [Array.toList_setIfInBounds, List.map_set]
  exact hw
end


theorem nanW_any {w : World} {x : Int} : Calls Try.prog 93 #[encW x] w fun e w' => w' = w ∧ e = .returned (.bool false) := by
  refine F93.calls (by simp) ?_
  unfold F93.code
  simp -dsimp -implicitDefEqProofs (disch := omega) only [go_sem, reqD_of, dec_t, dec_f, wrap_i64, wrap_u32, wrap_u64, wrap_u8]


theorem lessW_any {w0 w : World} {F : HP} {x y : Int} (h : St w0 F w) : Calls Try.prog 83 #[encW x, encW y] w fun e w' => St w0 F w' ∧ e = .returned (.bool (ltInt x y)) := by
  refine F83.calls (by simp) ?_
  unfold F83.code
  simp -dsimp -implicitDefEqProofs (disch := omega) only [go_sem, reqD_of, dec_t, dec_f, wrap_i64, wrap_u32, wrap_u64, wrap_u8]
  refine nanW_any.mono ?_
  rintro e w1 ⟨rfl, rfl⟩
  simp -dsimp -implicitDefEqProofs (disch := omega) only [go_sem, reqD_of, dec_t, dec_f, wrap_i64, wrap_u32, wrap_u64, wrap_u8]
  exact ⟨h, rfl⟩

theorem insInner_go {lt : Int → Int → Bool} {a j : Nat} {d : Array Int} (h1 : a < j + 1) (h2 : lt d[j + 1]! d[j]! = true) : insInner lt a (j + 1) d = insInner lt a j (swp d (j + 1) j) := by
  rw [insInner, if_pos (by simp [h2]; omega)]
theorem insInner_no {lt : Int → Int → Bool} {a j : Nat} {d : Array Int} (h2 : lt d[j + 1]! d[j]! = false) : insInner lt a (j + 1) d = d := by
  rw [insInner, if_neg (by simp [h2])]
theorem insInner_low {lt : Int → Int → Bool} {a j : Nat} {d : Array Int} (h1 : ¬ a < j) : insInner lt a j d = d := by
  cases j with
  | zero => rfl
  | succ j => rw [insInner, if_neg (by simp; omega)]
theorem insOuter_go {lt : Int → Int → Bool} {a b i : Nat} {d : Array Int} (h : i < b) : insOuter lt a b i d = insOuter lt a b (i + 1) (insInner lt a i d) := by rw [insOuter, if_pos h]
theorem insOuter_no {lt : Int → Int → Bool} {a b i : Nat} {d : Array Int} (h : ¬ i < b) : insOuter lt a b i d = d := by rw [insOuter, if_neg h]

section
attribute [local go_sem] F77.t5_eq F77.t6_eq F77.t2_eq F77.t3_eq
theorem insertion_any {w0 w : World} {F : HP} {g o n c a b : Nat} {d : Array Int} (h : St w0 (SoP g o n c d * F) w) (hb : b ≤ n) (hab : a ≤ b) (hn : n < 4611686018427387904) :
    Calls Try.prog 77 #[soV g o n c, .int .i64 a, .int .i64 b] w fun e w' => St w0 (SoP g o n c (insertionSort ltInt d a b) * F) w' ∧ e = .returned (.tuple #[]) := by
  refine F77.calls (by simp) ?_
  unfold F77.code
  simp -dsimp -implicitDefEqProofs (disch := omega) only [go_sem, reqD_of, dec_t, dec_f, wrap_i64, wrap_u32, wrap_u64, wrap_u8]
  refine loop_intro (fun e w' => e.ds = [] ∧ e.ρ 0 = soV g o n c ∧ e.ρ 1 = .int .i64 a ∧ e.ρ 2 = .int .i64 b ∧ ∃ (i : Nat) (d' : Array Int), i ≤ b + 1 ∧ e.ρ 6 = .int .i64 i ∧ insOuter ltInt a b i d' = insertionSort ltInt d a b ∧ St w0 (SoP g o n c d' * F) w')
    (fun e _ => match e.ρ 6 with | .int _ k => (b + 1 - k).toNat | _ => 0) ?_ ?_
  · exact ⟨rfl, by simp -dsimp -implicitDefEqProofs only [go_sem], by simp -dsimp -implicitDefEqProofs only [go_sem], by simp -dsimp -implicitDefEqProofs only [go_sem], a + 1, d, by omega, by simp -dsimp -implicitDefEqProofs only [go_sem]; omega, rfl, h⟩
  rintro eo w1 ⟨hdo, e0o, e1o, e2o, i, d1, hi, e6o, hd1, h1⟩
  by_cases hlt : (i : Int) < b
  case neg =>
    simp -dsimp -implicitDefEqProofs (disch := omega) only [go_sem, reqD_of, dec_t, dec_f, wrap_i64, wrap_u32, wrap_u64, wrap_u8, hdo, e0o, e1o, e2o, e6o, hlt]
    rw [insOuter_no (by omega)] at hd1
    rw [← hd1]
    exact h1
  have hib : i < b := by omega
  rw [insOuter_go hib] at hd1
  simp -dsimp -implicitDefEqProofs (disch := omega) only [go_sem, reqD_of, dec_t, dec_f, wrap_i64, wrap_u32, wrap_u64, wrap_u8, hdo, e0o, e1o, e2o, e6o, hlt]
  refine loop_intro (fun e w' => e.ds = [] ∧ e.ρ 0 = soV g o n c ∧ e.ρ 1 = .int .i64 a ∧ e.ρ 2 = .int .i64 b ∧ e.ρ 6 = .int .i64 i ∧ ∃ (j : Nat) (d' : Array Int), j ≤ i ∧ e.ρ 7 = .int .i64 j ∧ insInner ltInt a j d' = insInner ltInt a i d1 ∧ St w0 (SoP g o n c d' * F) w')
    (fun e _ => match e.ρ 7 with | .int _ k => k.toNat | _ => 0) ?_ ?_
  · exact ⟨by simp -dsimp -implicitDefEqProofs only [go_sem, hdo], by simp -dsimp -implicitDefEqProofs only [go_sem, e0o], by simp -dsimp -implicitDefEqProofs only [go_sem, e1o], by simp -dsimp -implicitDefEqProofs only [go_sem, e2o], by simp -dsimp -implicitDefEqProofs only [go_sem, e6o], i, d1, by omega, by simp -dsimp -implicitDefEqProofs only [go_sem], rfl, h1⟩
  rintro e w2 ⟨hd, e0, e1, e2, e6, j, d2, hj, e7, hd2, h2⟩
  have fin : ∀ {w' : World}, insInner ltInt a j d2 = d2 → St w0 (SoP g o n c d2 * F) w' → St w0 (SoP g o n c (insInner ltInt a i d1) * F) w' := fun hx hw => by rw [← hd2, hx]; exact hw
  by_cases hja : (a : Int) < j
  case neg =>
    simp -dsimp -implicitDefEqProofs (disch := omega) only [go_sem, reqD_of, dec_t, dec_f, wrap_i64, wrap_u32, wrap_u64, wrap_u8, hd, e0, e1, e2, e6, e7, hja, e6o]
    exact ⟨⟨i + 1, insInner ltInt a i d1, by omega, by omega, hd1, fin (insInner_low (by omega)) h2.drew⟩, by omega⟩
  obtain ⟨k, rfl⟩ : ∃ k, j = k + 1 := ⟨j - 1, by omega⟩
  have h3 := h2.drew
  have c1 := SoP.get h3 (i := k + 1) (by omega)
  have c0 := SoP.get h3 (i := k) (by omega)
  have hk1 : ((k + 1 : Nat) : Int) - 1 = k := by omega
  simp -dsimp -implicitDefEqProofs (disch := omega) only [go_sem, reqD_of, dec_t, dec_f, wrap_i64, wrap_u32, wrap_u64, wrap_u8, hd, e0, e1, e2, e6, e7, hja, hk1, c1, c0]
  refine (lessW_any h3).mono ?_
  rintro e' w3 ⟨h4, rfl⟩
  cases hl : ltInt d2[k + 1]! d2[k]!
  · simp -dsimp -implicitDefEqProofs (disch := omega) only [go_sem, reqD_of, dec_t, dec_f, wrap_i64, wrap_u32, wrap_u64, wrap_u8, hd, e0, e1, e2, e6, e7, hja, hk1, e6o]
    exact ⟨⟨i + 1, insInner ltInt a i d1, by omega, by omega, hd1, fin (insInner_no hl) h4⟩, by omega⟩
  · have h5 := h4.drew
    have c1 := SoP.get h5 (i := k + 1) (by omega)
    have c0 := SoP.get h5 (i := k) (by omega)
    simp -dsimp -implicitDefEqProofs (disch := omega) only [go_sem, reqD_of, dec_t, dec_f, wrap_i64, wrap_u32, wrap_u64, wrap_u8, hd, e0, e1, e2, e6, e7, hja, hk1, c1, c0]
    refine SoP.set h5 (i := k + 1) (by omega) fun w4 h6 => ?_
    simp -dsimp -implicitDefEqProofs (disch := omega) only [go_sem, reqD_of, dec_t, dec_f, wrap_i64, wrap_u32, wrap_u64, wrap_u8, hd, e0, e1, e2, e6, e7, hja, hk1]
    refine SoP.set h6 (i := k) (by omega) fun w5 h7 => ?_
    simp -dsimp -implicitDefEqProofs (disch := omega) only [go_sem, reqD_of, dec_t, dec_f, wrap_i64, wrap_u32, wrap_u64, wrap_u8, hd, e0, e1, e2, e6, e7, hja, hk1]
    exact ⟨⟨k, swp d2 (k + 1) k, by omega, by omega, by rw [← hd2, insInner_go (by omega) hl], h7⟩, by omega⟩

end
end Go.Proofs.Ytljndiligbaljaa

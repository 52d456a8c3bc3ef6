/- The tags statements: decides, answers, ahead. -/
import Derived.Test.YteefkhfmpcaccaaTgF
namespace Go.Proofs.Yteefkhfmpcaccaa
open Go
set_option linter.unusedSimpArgs false
set_option linter.unusedVariables false
set_option maxRecDepth 100000

section
attribute [local go_sem] F9.t5_eq
theorem decides_any {w0 w : World} {F : HP} {W B k : Nat} {t : TbD} {l : List Thing} {h : List Int} {sd : Int} {n : Nat} {f : Nat → Ab} {B' : List Nat} (r : RunP t l h sd n f B') (hlt : n < 1000) (hk : k < n) (x : St w0 (RnP W B t l h sd * F) w) :
    Calls Try.prog 9 #[.pointer (some ⟨W, 0, none⟩), .int .i64 k] w fun e w' => ∃ t' l' f', RunP t' l' h sd n f' B' ∧ (∀ j, (f' j).ph = .op ∨ (f' j).ph = .de → (f j).ph = .op ∨ (f j).ph = .de) ∧ (f' k).ph ≠ .op ∧ St w0 (RnP W B t' l' h sd * F) w' ∧ e = .returned (.bool true) := by
  obtain ⟨hl, hh, hlast⟩ := r.bounds
  have hkl : k < l.length := by omega
  have hkl' : (k : Int) < l.length := by omega
  obtain ⟨X, hX⟩ : ∃ X, l[k]? = some X := ⟨_, List.getElem?_eq_getElem hkl⟩
  have hXe : l[k] = X := by rw [List.getElem?_eq_getElem hkl, Option.some.injEq] at hX; exact hX
  obtain ⟨hdb, f', r', hph, hop⟩ := r.decides hk hX
  obtain ⟨a1, c1, a2, c2, x1⟩ := RnP.open x
  have cW := x1.cl W
  refine F9.calls (by simp) ?_
  unfold F9.code
  simp -dsimp -implicitDefEqProofs (disch := omega) only [go_sem, reqD_of, dec_t, dec_f, wrap_i64, wrap_u32, wrap_u64, wrap_u8, cW]
  refine (decide_any (x1.take (.obj B))).mono ?_
  rintro e w2 ⟨x2, rfl⟩
  have cW := x2.cl W
  obtain ⟨b, o, rfl, hrow, _⟩ := thAt (a := a1) (c := c1) (l := l) x2 hkl
  rw [hXe] at hrow
  simp -dsimp -implicitDefEqProofs (disch := omega) only [go_sem, reqD_of, dec_t, dec_f, wrap_i64, wrap_u32, wrap_u64, wrap_u8, cW, hkl', hrow]
  refine x2.new fun Y w3 x3 => ?_
  simp -dsimp -implicitDefEqProofs (disch := omega) only [go_sem, reqD_of, dec_t, dec_f, wrap_i64, wrap_u32, wrap_u64, wrap_u8]
  refine x3.stoAll (b := Y) (cs := thC X) rfl rfl (thC_cells X) fun w4 x4 => ?_
  have cY := x4.cl Y
  simp only [thC] at cY
  have x5 := x4.drew
  have cW := x5.cl W
  obtain ⟨b', o', hbo, _, ct⟩ := thAt (a := some ⟨b, o, none⟩) (c := c1) (l := l) x5 hkl
  simp only [Option.some.injEq, Addr.mk.injEq, and_true] at hbo
  obtain ⟨rfl, rfl⟩ := hbo
  rw [hXe] at ct
  have ct4 := ct 4 (by decide)
  simp only [thC, List.getElem?_cons_succ, List.getElem?_cons_zero] at ct4
  generalize decB t ((k : Int) + 1) = is at hdb r' x5
  have fin : ∀ w6, St w0 (RowO 39 7 (.slice (some ⟨b, o, none⟩) l.length c1) l.length ((l.set k { X with dc := X.dc || is }).flatMap thC) * (Blk Y (.cells (thC X).toArray 39 (0, 0)) * (TbP B (decS t ((k : Int) + 1)) * (Blk W (rnB B (.slice (some ⟨b, o, none⟩) l.length c1) (.slice a2 h.length c2) sd) * (RowO 3 1 (.slice a2 h.length c2) h.length (intR h) * F))))) w6 → ∃ t' l' f', RunP t' l' h sd n f' B' ∧ (∀ j, (f' j).ph = .op ∨ (f' j).ph = .de → (f j).ph = .op ∨ (f j).ph = .de) ∧ (f' k).ph ≠ .op ∧ St w0 (RnP W B t' l' h sd * F) w6 := by
    intro w6 x6
    have x7 := RnP.col (W := W) (B := B) (l := l.set k { X with dc := X.dc || is }) (h := h) (sd := sd) (t := decS t ((k : Int) + 1)) (n1 := l.length) (n2 := h.length) (v1 := .slice (some ⟨b, o, none⟩) l.length c1) (v2 := .slice a2 h.length c2) x6 (by simp) rfl
    exact ⟨_, _, f', r', hph, hop, x7.sub⟩
  cases hfl : X.fl <;> cases hcn : X.cn <;> cases hdc : X.dc <;> rw [hfl, hcn, hdc] at hdb <;> simp only [Bool.not_true, Bool.not_false, Bool.and_true, Bool.and_false, Bool.true_and, Bool.false_and, Bool.and_self] at hdb
  all_goals
    rw [hfl, hcn, hdc] at cY
    rw [hdc] at ct4
    simp -dsimp -implicitDefEqProofs (disch := omega) only [go_sem, reqD_of, dec_t, dec_f, wrap_i64, wrap_u32, wrap_u64, wrap_u8, cY, cW, ct4, hkl', hdb, beq_self_eq_true, Bool.false_beq, Bool.not_true, Bool.not_false]
    refine x5.rowSetF (n := l.length) (c := c1) (enc := thC) (l := l) (k := k) (j := 4) thC_length hkl (by decide) { X with dc := X.dc || is } (by rw [hXe]; simp only [thC, hdc, hdb]; rfl) (Nat.add_assoc _ _ _) rfl fun w6 x6 => ?_
    simp -dsimp -implicitDefEqProofs (disch := omega) only [go_sem, reqD_of, dec_t, dec_f, wrap_i64, wrap_u32, wrap_u64, wrap_u8]
    exact fin _ (x6.ac (by ac_rfl))

end
section
attribute [local go_sem] F10.t5_eq
theorem answers_any {w0 w : World} {F : HP} {W B k : Nat} {t : TbD} {l : List Thing} {h : List Int} {sd : Int} {n : Nat} {f : Nat → Ab} {B' : List Nat} (r : RunP t l h sd n f B') (hlt : n < 1000) (hsd : sd < 1000) (hk : k < n) (x : St w0 (RnP W B t l h sd * F) w) :
    Calls Try.prog 10 #[.pointer (some ⟨W, 0, none⟩), .int .i64 k] w fun e w' => ∃ t' l' f' B'', RunP t' l' h sd n f' B'' ∧ (∀ j, (f' j).ph = .op ∨ (f' j).ph = .de → f' j = f j) ∧ (f' k).ph ≠ .de ∧ St w0 (RnP W B t' l' h sd * F) w' ∧ e = .returned (.bool true) := by
  obtain ⟨hl, hh, hlast⟩ := r.bounds
  have hrl := r.row_len
  have hid := r.ids_len
  have hkl : k < l.length := by omega
  have hkl' : (k : Int) < l.length := by omega
  obtain ⟨X, hX⟩ : ∃ X, l[k]? = some X := ⟨_, List.getElem?_eq_getElem hkl⟩
  have hXe : l[k] = X := by rw [List.getElem?_eq_getElem hkl, Option.some.injEq] at hX; exact hX
  obtain ⟨a1, c1, a2, c2, x1⟩ := RnP.open x
  have cW := x1.cl W
  refine F10.calls (by simp) ?_
  unfold F10.code
  simp -dsimp -implicitDefEqProofs (disch := omega) only [go_sem, reqD_of, dec_t, dec_f, wrap_i64, wrap_u32, wrap_u64, wrap_u8, cW]
  refine onV_of (v := msgV ⟨121, 77, noS⟩) rfl ?_
  simp -dsimp -implicitDefEqProofs (disch := omega) only [go_sem, reqD_of, dec_t, dec_f, wrap_i64, wrap_u32, wrap_u64, wrap_u8]
  refine (reply_any (m := ⟨121, 77, noS⟩) (by omega) (by omega) (x1.take (.obj B))).mono ?_
  rintro e w2 ⟨ks, hp, hs, x2, rfl⟩
  obtain ⟨hdb, f', B2, r', hph, hop⟩ := r.answers (mt := 77) hk hX hp hs
  have cW := x2.cl W
  obtain ⟨b, o, rfl, hrow, _⟩ := thAt (a := a1) (c := c1) (l := l) x2 hkl
  rw [hXe] at hrow
  simp -dsimp -implicitDefEqProofs (disch := omega) only [go_sem, reqD_of, dec_t, dec_f, wrap_i64, wrap_u32, wrap_u64, wrap_u8, cW, hkl', hrow]
  refine x2.new fun Y w3 x3 => ?_
  simp -dsimp -implicitDefEqProofs (disch := omega) only [go_sem, reqD_of, dec_t, dec_f, wrap_i64, wrap_u32, wrap_u64, wrap_u8]
  refine x3.stoAll (b := Y) (cs := thC X) rfl rfl (thC_cells X) fun w4 x4 => ?_
  have cY := x4.cl Y
  simp only [thC] at cY
  have x5 := x4.drew
  have cW := x5.cl W
  obtain ⟨b', o', hbo, _, ct⟩ := thAt (a := some ⟨b, o, none⟩) (c := c1) (l := l) x5 hkl
  simp only [Option.some.injEq, Addr.mk.injEq, and_true] at hbo
  obtain ⟨rfl, rfl⟩ := hbo
  rw [hXe] at ct
  have ct5 := ct 5 (by decide)
  simp only [thC, List.getElem?_cons_succ, List.getElem?_cons_zero] at ct5
  generalize repB t ((k : Int) + 1) = is at hdb r' ⊢
  have fin : ∀ w6, St w0 (RowO 39 7 (.slice (some ⟨b, o, none⟩) l.length c1) l.length ((l.set k { X with an := X.an || is }).flatMap thC) * (Blk Y (.cells (thC X).toArray 39 (0, 0)) * (TbP B (repS t ((k : Int) + 1) ⟨121, 77, noS⟩ ks) * (Blk W (rnB B (.slice (some ⟨b, o, none⟩) l.length c1) (.slice a2 h.length c2) sd) * (RowO 3 1 (.slice a2 h.length c2) h.length (intR h) * F))))) w6 → ∃ t' l' f' B'', RunP t' l' h sd n f' B'' ∧ (∀ j, (f' j).ph = .op ∨ (f' j).ph = .de → f' j = f j) ∧ (f' k).ph ≠ .de ∧ St w0 (RnP W B t' l' h sd * F) w6 := by
    intro w6 x6
    have x7 := RnP.col (W := W) (B := B) (l := l.set k { X with an := X.an || is }) (h := h) (sd := sd) (t := repS t ((k : Int) + 1) ⟨121, 77, noS⟩ ks) (n1 := l.length) (n2 := h.length) (v1 := .slice (some ⟨b, o, none⟩) l.length c1) (v2 := .slice a2 h.length c2) x6 (by simp) rfl
    exact ⟨_, _, f', B2, r', hph, hop, x7.sub⟩
  have n142 : ¬ ((142 : Int) = 0) := by decide
  cases hdc : X.dc <;> cases han : X.an <;> rw [hdc, han] at hdb <;> simp only [Bool.not_true, Bool.not_false, Bool.and_true, Bool.and_false, Bool.true_and, Bool.false_and, Bool.and_self] at hdb
  all_goals
    rw [hdc, han] at cY
    rw [han] at ct5
    simp -dsimp -implicitDefEqProofs (disch := omega) only [go_sem, reqD_of, dec_t, dec_f, wrap_i64, wrap_u32, wrap_u64, wrap_u8, cY, cW, ct5, hkl', hdb, n142, beq_self_eq_true, Bool.false_beq, Bool.not_true, Bool.not_false, Bool.false_eq_true]
    refine x5.rowSetF (n := l.length) (c := c1) (enc := thC) (l := l) (k := k) (j := 5) thC_length hkl (by decide) { X with an := X.an || is } (by rw [hXe]; simp only [thC, han, hdb]; rfl) (Nat.add_assoc _ _ _) rfl fun w6 x6 => ?_
    simp -dsimp -implicitDefEqProofs (disch := omega) only [go_sem, reqD_of, dec_t, dec_f, wrap_i64, wrap_u32, wrap_u64, wrap_u8, hdb, n142, Bool.false_eq_true]
    exact fin _ (x6.ac (by ac_rfl))

end
section
attribute [local go_sem] F29.t3_eq F29.t4_eq F29.t6_eq
theorem ahead_any {w0 w : World} {F : HP} {W B k : Nat} {X : Thing} {t : TbD} {l : List Thing} {h : List Int} {sd : Int} (hlt : l.length < 1000) (hX : l[k]? = some X)
    (hall : ∀ (j : Nat) (Z : Thing), j < k → l[j]? = some Z → Z.fl = true → Z.nm = X.nm → Z.wr = true) (x : St w0 (RnP W B t l h sd * F) w) :
    Calls Try.prog 29 #[.pointer (some ⟨W, 0, none⟩), .int .i64 k] w fun e w' => St w0 (RnP W B t l h sd * F) w' ∧ e = .returned (.bool true) := by
  have hkl : k < l.length := (List.getElem?_eq_some_iff.1 hX).1
  have hXe : l[k] = X := (List.getElem?_eq_some_iff.1 hX).2
  refine F29.calls (by simp) ?_
  unfold F29.code
  simp -dsimp -implicitDefEqProofs (disch := omega) only [go_sem, reqD_of, dec_t, dec_f, wrap_i64, wrap_u32, wrap_u64, wrap_u8]
  refine loop_intro (fun e w' => e.ds = [] ∧ e.ρ 0 = .pointer (some ⟨W, 0, none⟩) ∧ e.ρ 1 = .int .i64 k ∧ ∃ i : Nat, i ≤ k ∧ e.ρ 5 = .int .i64 i ∧ St w0 (RnP W B t l h sd * F) w') (fun e _ => match e.ρ 5 with | .int _ n => (k - n).toNat | _ => 0) ?_ ?_
  · exact ⟨rfl, by simp -dsimp -implicitDefEqProofs only [go_sem], by simp -dsimp -implicitDefEqProofs only [go_sem], 0, by omega, by simp -dsimp -implicitDefEqProofs only [go_sem], x⟩
  rintro e w2 ⟨hd, e0, e1, i, hi, e5, x2⟩
  by_cases hlt2 : (i : Int) < k
  case neg =>
    simp -dsimp -implicitDefEqProofs (disch := omega) only [go_sem, reqD_of, dec_t, dec_f, wrap_i64, wrap_u32, wrap_u64, wrap_u8, hd, e0, e1, e5, hlt2]
    exact x2
  have hik : i < k := by omega
  have hil : i < l.length := by omega
  have hil' : (i : Int) < l.length := by omega
  have hkl' : (k : Int) < l.length := by omega
  obtain ⟨a1, c1, a2, c2, x3⟩ := RnP.open x2.drew
  have cW := x3.cl W
  obtain ⟨b, o, rfl, _, ct⟩ := thAt (a := a1) (c := c1) (l := l) x3 hil
  obtain ⟨b', o', hbo, _, ck⟩ := thAt (a := some ⟨b, o, none⟩) (c := c1) (l := l) x3 hkl
  simp only [Option.some.injEq, Addr.mk.injEq, and_true] at hbo
  obtain ⟨rfl, rfl⟩ := hbo
  have hz := hall i l[i] hik (List.getElem?_eq_getElem hil)
  rw [hXe] at ck
  generalize l[i] = Z at ct hz
  have ct1 := ct 1 (by decide)
  have ct2 := ct 2 (by decide)
  have ct6 := ct 6 (by decide)
  have ck2 := ck 2 (by decide)
  simp only [thC, List.getElem?_cons_succ, List.getElem?_cons_zero] at ct1 ct2 ct6 ck2
  have x4 := x2.drew
  cases hfl : Z.fl with
  | false =>
    rw [hfl] at ct1
    simp -dsimp -implicitDefEqProofs (disch := omega) only [go_sem, reqD_of, dec_t, dec_f, wrap_i64, wrap_u32, wrap_u64, wrap_u8, hd, e0, e1, e5, hlt2, cW, ct1, hil', hkl']
    exact ⟨⟨i + 1, by omega, rfl, x4⟩, by omega⟩
  | true =>
    rw [hfl] at ct1
    by_cases q : Z.nm = X.nm
    · have hw := hz hfl q
      rw [hw] at ct6
      simp -dsimp -implicitDefEqProofs (disch := omega) only [go_sem, reqD_of, dec_t, dec_f, wrap_i64, wrap_u32, wrap_u64, wrap_u8, hd, e0, e1, e5, hlt2, cW, ct1, ct2, ct6, ck2, hil', hkl', q]
      exact ⟨⟨i + 1, by omega, rfl, x4⟩, by omega⟩
    · simp -dsimp -implicitDefEqProofs (disch := omega) only [go_sem, reqD_of, dec_t, dec_f, wrap_i64, wrap_u32, wrap_u64, wrap_u8, hd, e0, e1, e5, hlt2, cW, ct1, ct2, ct6, ck2, hil', hkl', q]
      exact ⟨⟨i + 1, by omega, rfl, x4⟩, by omega⟩

end
end Go.Proofs.Yteefkhfmpcaccaa

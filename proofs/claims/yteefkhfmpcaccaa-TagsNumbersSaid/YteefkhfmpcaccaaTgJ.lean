/- The tags statements: begun. -/
import Derived.Test.YteefkhfmpcaccaaTgI
namespace Go.Proofs.Yteefkhfmpcaccaa
open Go
set_option linter.unusedSimpArgs false
set_option linter.unusedVariables false
set_option maxRecDepth 100000

def f15 : Nat → Ab := fun _ => ⟨15, none, .an⟩
def t15 : TbD := ⟨1, [(1, ⟨15, 4, false, 0, 0⟩)], [(15, 1)], [⟨⟨121, 15, noS⟩, 1, true⟩]⟩
def th15 : Thing := ⟨15, false, -1, false, true, true, false⟩
def h15 : List Int := (List.replicate 16 (-1 : Int)).set 15 0
theorem run15 : RunP t15 [th15] h15 0 1 f15 [0] := by
  have k0 : ∀ k, k < 1 → k = 0 := fun k h => by omega
  refine ⟨⟨?_, ?_, ?_, ?_, ?_, ?_, ?_, by simp, ?_⟩, ⟨rfl, by simp [t15], by simp [t15], ?_, ?_, ?_, rfl, ?_⟩, ⟨rfl, ?_, by simp [h15], ?_⟩, rfl, by omega, by simp [t15]⟩
  · intro k hk; exact ⟨by simp [f15], by simp [f15]⟩
  · intro k y hk h; simp [f15] at h
  · intro j k hj hk _ _ _; omega
  · intro k hk h; simp [f15] at h
  · intro y hy h; simp [f15] at h
  · intro k hk
    simp only [List.mem_singleton] at hk
    exact ⟨by omega, .inl rfl⟩
  · intro k hk _; simp; omega
  · intro i k y hi h; simp [f15] at h
  · intro i o h
    simp only [t15, agt] at h
    split at h
    · rename_i e; exact ⟨0, by omega, by omega, rfl⟩
    · cases h
  · intro k hk _
    obtain rfl := k0 k hk
    exact ⟨⟨15, 4, false, 0, 0⟩, rfl, rfl, rfl, fun h => by simp [f15] at h, rfl⟩
  · intro g v
    simp only [t15, agt]
    constructor
    · intro h
      split at h
      · rename_i e
        simp only [Option.some.injEq] at h
        exact ⟨0, by omega, rfl, by simp [f15, e], by omega⟩
      · cases h
    · rintro ⟨k, hk, _, e, rfl⟩
      obtain rfl := k0 k hk
      simp only [f15] at e
      rw [if_pos e.symm]
      rfl
  · intro r hr
    simp only [t15, List.mem_singleton] at hr
    subst hr
    exact ⟨fun _ => ⟨0, by omega, rfl, rfl⟩, fun h => by cases h⟩
  · intro k hk
    obtain rfl := k0 k hk
    rfl
  · intro g hg
    by_cases e : g = 15
    · subst e
      exact .inr ⟨0, by omega, rfl, rfl, rfl⟩
    · refine .inl ⟨?_, fun k hk _ => by simp only [f15]; omega⟩
      unfold h15
      rw [getElem?_set_int _ _ _ _ (by simp), if_neg e, List.getElem?_replicate, if_pos hg]

theorem perm_one {ks : List Int} (h : ks.Perm [1]) : ks = [1] := List.perm_singleton.1 h

section
attribute [local go_sem] F7.t7_eq F7.t8_eq F7.t17_eq F7.t9_eq F7.t4_eq
theorem begun_any {w0 w : World} {F : HP} (h : St w0 F w) : Calls Try.prog 7 #[] w fun e w' => ∃ W B, St w0 (RnP W B t15 [th15] h15 0 * F) w' ∧ e = .returned (.pointer (some ⟨W, 0, none⟩)) := by
  refine F7.calls (by simp) ?_
  unfold F7.code
  simp -dsimp -implicitDefEqProofs (disch := omega) only [go_sem, reqD_of, dec_t, dec_f, wrap_i64, wrap_u32, wrap_u64, wrap_u8]
  refine (new_any h).mono ?_
  rintro e w1 ⟨B, h1, rfl⟩
  simp -dsimp -implicitDefEqProofs (disch := omega) only [go_sem, reqD_of, dec_t, dec_f, wrap_i64, wrap_u32, wrap_u64, wrap_u8]
  refine onV_of (v := .agg #[.pointer (some ⟨B, 0, none⟩), .slice none 0 0, .slice none 0 0, .int .i64 0]) rfl ?_
  simp -dsimp -implicitDefEqProofs (disch := omega) only [go_sem, reqD_of, dec_t, dec_f, wrap_i64, wrap_u32, wrap_u64, wrap_u8]
  refine h1.new fun W w2 h2 => ?_
  simp -dsimp -implicitDefEqProofs (disch := omega) only [go_sem, reqD_of, dec_t, dec_f, wrap_i64, wrap_u32, wrap_u64, wrap_u8]
  have h3 := h2.nilR 3 1
  refine loop_intro (fun e w' => e.ds = [] ∧ e.ρ 1 = .pointer (some ⟨B, 0, none⟩) ∧ e.ρ 3 = .pointer (some ⟨W, 0, none⟩) ∧ ∃ (k : Nat) (a : Option Addr) (c : Nat), k ≤ 16 ∧ e.ρ 4 = .int .i64 k ∧ St w0 (RowO 3 1 (.slice a k c) k (intR (List.replicate k (-1 : Int))) * (Blk W (rnB B (.slice none 0 0) (.slice a k c) 0) * (TbP B ⟨0, [], [], []⟩ * F))) w') (fun e _ => match e.ρ 4 with | .int _ n => (16 - n).toNat | _ => 0) ?_ ?_
  · exact ⟨rfl, by simp -dsimp -implicitDefEqProofs only [go_sem], by simp -dsimp -implicitDefEqProofs only [go_sem], 0, none, 0, by omega, by simp -dsimp -implicitDefEqProofs only [go_sem], h3⟩
  rintro e w4 ⟨hd, e1, e3, k, a, c, hk, e4, h4⟩
  by_cases hlt : (k : Int) < 16
  case pos =>
    have cW := h4.cl W
    simp -dsimp -implicitDefEqProofs (disch := omega) only [go_sem, reqD_of, dec_t, dec_f, wrap_i64, wrap_u32, wrap_u64, wrap_u8, hd, e1, e3, e4, hlt, cW]
    refine h4.lit (n := 1) (cells := [encI (-1)]) fact_rowTy_31 rfl (by decide) (by decide) fun v1 w5 h5 => ?_
    simp -dsimp -implicitDefEqProofs (disch := omega) only [go_sem, reqD_of, dec_t, dec_f, wrap_i64, wrap_u32, wrap_u64, wrap_u8]
    refine h5.appR (v := .slice a k c) (x := v1) fact_rowTy_31 Try.underlying31 (intR_cells [-1]) (fun h => by simp at h) (show _ ≤ 9223372036854775807 by omega) (by omega) fun v2 w6 h6 => ?_
    obtain ⟨a2, c2, rfl, _⟩ := h6.rowForm v2
    simp -dsimp -implicitDefEqProofs (disch := omega) only [go_sem, reqD_of, dec_t, dec_f, wrap_i64, wrap_u32, wrap_u64, wrap_u8]
    refine h6.sto (b := W) (off := 2) (by simp) rfl fun w7 h7 => ?_
    simp -dsimp -implicitDefEqProofs (disch := omega) only [go_sem, reqD_of, dec_t, dec_f, wrap_i64, wrap_u32, wrap_u64, wrap_u8, hd, e1, e3, e4]
    refine ⟨⟨k + 1, a2, c2, by omega, rfl, ?_⟩, by omega⟩
    have er : intR (List.replicate (k + 1) (-1 : Int)) = intR (List.replicate k (-1 : Int)) ++ [encI (-1)] := by
      simp only [intR]
      rw [List.replicate_succ', List.map_append]
      rfl
    rw [er]
    simp only [List.setIfInBounds_toArray, List.set_cons_succ, List.set_cons_zero] at h7
    exact h7.right.ac (by ac_rfl)
  have : k = 16 := by omega
  subst this
  simp -dsimp -implicitDefEqProofs (disch := omega) only [go_sem, reqD_of, dec_t, dec_f, wrap_i64, wrap_u32, wrap_u64, wrap_u8, hd, e1, e3, e4, hlt]
  refine (Begin_any (g := 15) (id := 1) (fun _ => rfl) (h4.take (.obj B))).mono ?_
  rintro e' w5 ⟨h5, rfl⟩
  have E1 : begE ⟨0, [], [], []⟩ 15 1 = 0 := by decide
  rw [if_pos E1] at h5
  have cW := h5.cl W
  simp -dsimp -implicitDefEqProofs (disch := omega) only [go_sem, reqD_of, dec_t, dec_f, wrap_i64, wrap_u32, wrap_u64, wrap_u8, hd, e1, e3, e4, E1, cW]
  refine onV_of (v := .agg (thC th15).toArray) rfl ?_
  simp -dsimp -implicitDefEqProofs (disch := omega) only [go_sem, reqD_of, dec_t, dec_f, wrap_i64, wrap_u32, wrap_u64, wrap_u8]
  refine h5.lit (n := 1) (cells := thC th15) fact_rowTy_30 rfl (by decide) (by decide) fun v1 w6 h6 => ?_
  obtain ⟨a1, c1, rfl, _⟩ := h6.rowForm v1
  have h7 := h6.nilR 39 7
  simp -dsimp -implicitDefEqProofs (disch := omega) only [go_sem, reqD_of, dec_t, dec_f, wrap_i64, wrap_u32, wrap_u64, wrap_u8]
  refine h7.app (v := .slice none 0 0) fact_rowTy_30 ((Ent.right _ _).trans ((Ent.left _ _).trans (RowO.reads _ _ _ _ _))) Try.underlying30 (thC_cells th15) (fun h => by simp [thC] at h) (by decide) (by decide) fun v2 w8 h8 => ?_
  obtain ⟨a2, c2, rfl, _⟩ := h8.rowForm v2
  simp -dsimp -implicitDefEqProofs (disch := omega) only [go_sem, reqD_of, dec_t, dec_f, wrap_i64, wrap_u32, wrap_u64, wrap_u8, hd, e1, e3]
  refine h8.sto (b := W) (off := 1) (by simp) rfl fun w9 h9 => ?_
  have cW := h9.cl W
  simp only [List.setIfInBounds_toArray, List.set_cons_succ, List.set_cons_zero] at cW
  obtain ⟨b, o, rfl⟩ : ∃ b o, a = some ⟨b, o, none⟩ := by
    obtain ⟨a', c', hv, _, hz⟩ := (h9.gives (B := Reads 1 (.slice a 16 c) 16 (intR (List.replicate 16 (-1 : Int))))).rd.form
    simp only [Value.slice.injEq, true_and] at hv
    rcases hz with hz | ⟨b, o, e, _⟩
    · cases hz
    · exact ⟨b, o, by rw [hv.1, e]⟩
  simp -dsimp -implicitDefEqProofs (disch := omega) only [go_sem, reqD_of, dec_t, dec_f, wrap_i64, wrap_u32, wrap_u64, wrap_u8, hd, e1, e3, cW]
  refine h9.rowSet1 (n := 16) (c := c) (xs := intR (List.replicate 16 (-1 : Int))) (k := 15) (by simp [intR]) rfl fun w10 h10 => ?_
  simp -dsimp -implicitDefEqProofs (disch := omega) only [go_sem, reqD_of, dec_t, dec_f, wrap_i64, wrap_u32, wrap_u64, wrap_u8, hd, e1, e3]
  refine (decide_any (id := 1) (h10.take (.obj B))).mono ?_
  rintro e' w11 ⟨h11, rfl⟩
  have D1 : decB (begS ⟨0, [], [], []⟩ 1 ⟨15, 1, false, 0, 0⟩) 1 = true := by decide
  have D2 : decS (begS ⟨0, [], [], []⟩ 1 ⟨15, 1, false, 0, 0⟩) 1 = ⟨1, [(1, ⟨15, 3, false, 0, 0⟩)], [(15, 1)], []⟩ := rfl
  rw [D2] at h11
  simp -dsimp -implicitDefEqProofs (disch := omega) only [go_sem, reqD_of, dec_t, dec_f, wrap_i64, wrap_u32, wrap_u64, wrap_u8, hd, e1, e3, D1]
  refine onV_of (v := msgV ⟨121, 0, noS⟩) rfl ?_
  simp -dsimp -implicitDefEqProofs (disch := omega) only [go_sem, reqD_of, dec_t, dec_f, wrap_i64, wrap_u32, wrap_u64, wrap_u8]
  refine (reply_any (id := 1) (m := ⟨121, 0, noS⟩) (by decide) (by decide) h11).mono ?_
  rintro e' w12 ⟨ks, hp, _, h12, rfl⟩
  obtain rfl := perm_one hp
  have R1 : repB ⟨1, [(1, ⟨15, 3, false, 0, 0⟩)], [(15, 1)], []⟩ 1 = true := by decide
  have R2 : repS ⟨1, [(1, ⟨15, 3, false, 0, 0⟩)], [(15, 1)], []⟩ 1 ⟨121, 0, noS⟩ [1] = t15 := rfl
  rw [R2] at h12
  simp -dsimp -implicitDefEqProofs (disch := omega) only [go_sem, reqD_of, dec_t, dec_f, wrap_i64, wrap_u32, wrap_u64, wrap_u8, hd, e1, e3, R1]
  refine (Begin_any (g := 15) (id := 2) (fun _ => rfl) h12).mono ?_
  rintro e' w13 ⟨h13, rfl⟩
  have E2 : begE t15 15 2 = 140 := by decide
  rw [E2, if_neg (by decide)] at h13
  simp -dsimp -implicitDefEqProofs (disch := omega) only [go_sem, reqD_of, dec_t, dec_f, wrap_i64, wrap_u32, wrap_u64, wrap_u8, hd, e1, e3, E1, D1, R1, E2]
  refine ⟨W, B, ?_, rfl⟩
  have eh : (intR (List.replicate 16 (-1 : Int))).set 15 (encI 0) = intR h15 := rfl
  rw [eh] at h13
  simp only [List.setIfInBounds_toArray, List.set_cons_succ, List.set_cons_zero, Nat.zero_add, List.nil_append] at h13
  have ef : [th15].flatMap thC = thC th15 := by simp
  rw [← ef] at h13
  have h14 : St w0 (Blk W (rnB B (.slice a2 1 c2) (.slice (some ⟨b, o, none⟩) 16 c) 0) * (RowO 39 7 (.slice a2 1 c2) 1 ([th15].flatMap thC) * (RowO 3 1 (.slice (some ⟨b, o, none⟩) 16 c) 16 (intR h15) * (TbP B t15 * F)))) w13 := h13.sub
  exact RnP.col (W := W) (B := B) (l := [th15]) (h := h15) (sd := 0) (t := t15) (n1 := 1) (n2 := 16) (v1 := .slice a2 1 c2) (v2 := .slice (some ⟨b, o, none⟩) 16 c) h14 rfl rfl

end
end Go.Proofs.Yteefkhfmpcaccaa

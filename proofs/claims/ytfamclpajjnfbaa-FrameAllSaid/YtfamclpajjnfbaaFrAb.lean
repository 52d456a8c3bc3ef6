/- goes: the frames of a buffer, some of them taken, all of them gone through again. UNDER WAY. -/
import Derived.Test.YtfamclpajjnfbaaFrAa
namespace Go.Proofs.Ytfamclpajjnfbaa
open Go
set_option linter.unusedSimpArgs false
set_option linter.unusedVariables false
set_option maxRecDepth 100000

/-- What goes takes. -/
def goesL (most : Nat) (fs : List (List UInt8)) : List (List UInt8) := if 0 < most then fs.take most else fs

theorem framesOf_facts (L : Nat) : ∀ (m : Nat) (r : List UInt8), r.length ≤ m → (∀ f ∈ framesOf L r, 7 ≤ f.length ∧ f.length ≤ r.length) ∧ 7 * (framesOf L r).length ≤ r.length := by
  intro m
  induction m with
  | zero =>
    intro r hr
    rw [framesOf_no (L := L) (r := r) (fun h => by have := h.1; omega)]
    exact ⟨fun f hf => absurd hf (by simp), by simp⟩
  | succ m ih =>
    intro r hr
    obtain ⟨S, hS⟩ : ∃ S, sizeL r = S := ⟨_, rfl⟩
    by_cases h : 4 ≤ r.length ∧ 7 ≤ sizeL r ∧ sizeL r ≤ L ∧ sizeL r ≤ r.length
    · rw [framesOf_yes h]
      rw [hS] at h ⊢
      clear hS
      have hd : (r.drop S).length = r.length - S := List.length_drop
      have ht : (r.take S).length = S := by rw [List.length_take]; omega
      obtain ⟨i1, i2⟩ := ih (r.drop S) (by omega)
      refine ⟨fun f hf => ?_, by rw [List.length_cons]; omega⟩
      rcases List.mem_cons.1 hf with hf | hf
      · rw [hf]; omega
      · have := i1 f hf
        omega
    · rw [framesOf_no h]
      exact ⟨fun f hf => absurd hf (by simp), by simp⟩
theorem allFrames_facts (L : Nat) (b : List UInt8) : (∀ f ∈ allFrames L b, 7 ≤ f.length ∧ f.length ≤ b.length) ∧ 7 * (allFrames L b).length ≤ b.length := by
  unfold allFrames
  split
  · exact framesOf_facts L b.length b (by omega)
  · simp

abbrev GoB (P6 P7 P10 B n most : Nat) (vw : Value) (l : List (List UInt8)) : HP := Blk P6 (.cells #[.int .i64 most] 3 (0, 0)) * (Blk P7 (.cells #[.pointer (some ⟨B, 0, none⟩)] 33 (0, 0)) * (Blk P10 (.cells #[vw] 34 (0, 0)) * (ListP vw l * BookP B n)))
abbrev GoX (P6 P7 P10 B n most : Nat) (fs : List (List UInt8)) (cd : Code) : HP := HP.ex fun vw => HP.fact (cd = .exit 0 ∧ 0 < most ∧ most ≤ fs.length) (GoB P6 P7 P10 B (n + most) most vw (fs.take most))
abbrev GoJ (P6 P7 P10 B n most : Nat) (pre : List (List UInt8)) : HP := HP.ex fun vw => HP.fact (most = 0 ∨ pre.length < most) (GoB P6 P7 P10 B (n + pre.length) most vw pre)

section
attribute [local go_sem] F28.t23_eq F28.t14_eq
theorem goes_round {w0 : World} {e : FA} {P6 P7 P10 B n most k : Nat} {b : List UInt8} (hb : b.length ≤ 33554432) (hn : n + 2 * b.length < 100000000) (hm : most < 9223372036854775808)
    (e6 : e.ρ 6 = .pointer (some ⟨P6, 0, none⟩)) (e7 : e.ρ 7 = .pointer (some ⟨P7, 0, none⟩)) (e10 : e.ρ 10 = .pointer (some ⟨P10, 0, none⟩)) :
    RoundOk Try.prog w0 e #[32] F28.a0 F28.b0 PassB (fun pre => ∃ post, allFrames k b = pre ++ post) (GoJ P6 P7 P10 B n most) (fun cd _ => GoX P6 P7 P10 B n most (allFrames k b) cd) := by
  intro l pre x args G W1 hok h1
  have hargs : ∃ v, args = #[v] := by
    obtain ⟨v, h2⟩ := (h1.right.left).ex
    obtain ⟨_, _, hx, _⟩ := h2.sat
    exact ⟨v, hx⟩
  obtain ⟨v, rfl⟩ := hargs
  refine ⟨rfl, ?_⟩
  unfold F28.a0
  simp -dsimp -implicitDefEqProofs only [go_sem]
  refine ⟨h1, fun G2 W2 hl h2 => ?_⟩
  obtain ⟨vw, h3⟩ := St.exF h2
  obtain ⟨hpre, h3⟩ := h3.factF
  obtain ⟨v', h4⟩ := (h3.ac (show _ = PassB x #[v] * (GoB P6 P7 P10 B (n + pre.length) most vw pre * G2) by ac_rfl)).exF
  obtain ⟨hv, h4⟩ := h4.factF
  simp only [Array.mk.injEq, List.cons.injEq, and_true] at hv
  subst hv
  obtain ⟨post, hpost⟩ := hok
  obtain ⟨fl, fc⟩ := allFrames_facts k b
  have hxl := fl x (by rw [hpost]; simp)
  have hpl : pre.length + 1 ≤ (allFrames k b).length := by rw [hpost]; simp
  have h5 : St w0 (RowO 5 1 v x.length (x.map bv) * (Blk P6 (.cells #[.int .i64 most] 3 (0, 0)) * (Blk P7 (.cells #[.pointer (some ⟨B, 0, none⟩)] 33 (0, 0)) * (Blk P10 (.cells #[vw] 34 (0, 0)) * (ListP vw pre * (BookP B (n + pre.length) * G2)))))) W2 := (h4.ent (Ent.sep (Row.rowO _ _ _ _ _) (Ent.rfl' _))).ac (by simp only [GoB]; ac_rfl)
  obtain ⟨av, cv, rfl, _⟩ := h5.rowForm v
  unfold F28.b0
  simp -dsimp -implicitDefEqProofs (disch := omega) only [go_sem, reqD_of, dec_t, dec_f, wrap_i64, wrap_u32, wrap_u64, wrap_u8, List.toList_toArray, e6, e7, e10]
  have h6 := h5.ent (Ent.nilRow 5 1 _)
  refine h6.append (m := x.length) (news := x.map bv) fact_rowTy_35 ((((h6.right.left).ent (RowO.reads _ _ _ _ _)).rd).src Try.underlying35 (bv_isCell _) (fun h => by simpa using h)) (show _ ≤ 9223372036854775807 by omega) (by omega) fun v7 w7 h7 => ?_
  simp only [Nat.zero_add, List.nil_append] at h7
  obtain ⟨a7, c7, rfl, _⟩ := Row.form h7
  have c10 := h7.cl P10
  simp -dsimp -implicitDefEqProofs (disch := omega) only [go_sem, reqD_of, dec_t, dec_f, wrap_i64, wrap_u32, wrap_u64, wrap_u8, List.toList_toArray, e6, e7, e10, c10]
  refine h7.buildSlice (s := 1) fact_rowTy_34 (cells := [.slice a7 x.length c7]) rfl (by decide) (by decide) fun v8 w8 h8 => ?_
  simp -dsimp -implicitDefEqProofs (disch := omega) only [go_sem, reqD_of, dec_t, dec_f, wrap_i64, wrap_u32, wrap_u64, wrap_u8, List.toList_toArray, e6, e7, e10]
  have h9 : St w0 (ListP vw pre * (Row 35 1 v8 1 [.slice a7 x.length c7] * (Row 5 1 (.slice a7 x.length c7) x.length (x.map bv) * (RowO 5 1 (.slice av x.length cv) x.length (x.map bv) * (Blk P6 (.cells #[.int .i64 most] 3 (0, 0)) * (Blk P7 (.cells #[.pointer (some ⟨B, 0, none⟩)] 33 (0, 0)) * (Blk P10 (.cells #[vw] 34 (0, 0)) * (BookP B (n + pre.length) * G2)))))))) w8 := h8.sub
  refine ListP.append h9 rfl (by omega) fun a4 c4 w10 h10 => ?_
  simp -dsimp -implicitDefEqProofs (disch := omega) only [go_sem, reqD_of, dec_t, dec_f, wrap_i64, wrap_u32, wrap_u64, wrap_u8, List.toList_toArray, e6, e7, e10]
  refine h10.sto (b := P10) (off := 0) (by simp) rfl fun w11 h11 => ?_
  simp only [List.setIfInBounds_toArray, List.set_cons_zero] at h11
  have c7' := h11.cl P7
  simp -dsimp -implicitDefEqProofs (disch := omega) only [go_sem, reqD_of, dec_t, dec_f, wrap_i64, wrap_u32, wrap_u64, wrap_u8, List.toList_toArray, e6, e7, e10, c7']
  have h12 : St w0 (BookP B (n + pre.length) * (RowO 5 1 (.slice av x.length cv) x.length (x.map bv) * (ListP (.slice a4 (pre.length + 1) c4) (pre ++ [x]) * (Blk P6 (.cells #[.int .i64 most] 3 (0, 0)) * (Blk P7 (.cells #[.pointer (some ⟨B, 0, none⟩)] 33 (0, 0)) * (Blk P10 (.cells #[.slice a4 (pre.length + 1) c4] 34 (0, 0)) * G2)))))) w11 := h11.ac (by ac_rfl)
  refine (owns_any (by omega) (by omega) h12).mono ?_
  rintro e' w13 ⟨h13, rfl⟩
  have c10' := h13.cl P10
  have c6' := h13.cl P6
  have h14 : St w0 (GoB P6 P7 P10 B (n + (pre.length + 1)) most (.slice a4 (pre.length + 1) c4) (pre ++ [x]) * G2) w13 := h13.ac (by rw [Nat.add_assoc]; simp only [GoB]; ac_rfl)
  by_cases hx : ((pre.length + 1 : Nat) : Int) = most
  · simp -dsimp -implicitDefEqProofs (disch := omega) only [go_sem, reqD_of, dec_t, dec_f, wrap_i64, wrap_u32, wrap_u64, wrap_u8, List.toList_toArray, e6, e7, e10, c10', c6', hx]
    have hmx : most = pre.length + 1 := by omega
    subst hmx
    have htk : (allFrames k b).take (pre.length + 1) = pre ++ [x] := by
      rw [hpost, List.take_left' (by simp)]
    rw [← htk] at h14
    exact h14.ent (Ent.sep ((Ent.fact ⟨rfl, by omega, hpl⟩ _).trans (Ent.ex (fun vw => HP.fact ((Code.exit 0) = .exit 0 ∧ 0 < pre.length + 1 ∧ pre.length + 1 ≤ (allFrames k b).length) (GoB P6 P7 P10 B (n + (pre.length + 1)) (pre.length + 1) vw ((allFrames k b).take (pre.length + 1)))) _)) (Ent.rfl' _))
  · simp -dsimp -implicitDefEqProofs (disch := omega) only [go_sem, reqD_of, dec_t, dec_f, wrap_i64, wrap_u32, wrap_u64, wrap_u8, List.toList_toArray, e6, e7, e10, c10', c6', hx]
    have e3 : (pre ++ [x]).length = pre.length + 1 := by simp
    have h15 : St w0 (GoB P6 P7 P10 B (n + (pre ++ [x]).length) most (.slice a4 (pre.length + 1) c4) (pre ++ [x]) * G2) w13 := by rw [e3]; exact h14
    exact h15.ent (Ent.sep ((Ent.fact (by rw [e3]; omega) _).trans (Ent.ex (fun vw => HP.fact (most = 0 ∨ (pre ++ [x]).length < most) (GoB P6 P7 P10 B (n + (pre ++ [x]).length) most vw (pre ++ [x]))) _)) (Ent.rfl' _))

end
end Go.Proofs.Ytfamclpajjnfbaa

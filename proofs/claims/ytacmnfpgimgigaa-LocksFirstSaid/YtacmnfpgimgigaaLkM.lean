/- The table of locks: Leave. -/
import Derived.Test.YtacmnfpgimgigaaLkL
namespace Go.Proofs.Ytacmnfpgimgigaa
open Go
set_option linter.unusedSimpArgs false
set_option linter.unusedVariables false
set_option maxRecDepth 100000


theorem isWho43_any {w0 w : World} {F : HP} {p : Nat} {T : TypeId} {who x : Int} {y : Bool} (h : St w0 F w) (hp : Ent F (Blk p (.cells #[.int .i64 who] T (0, 0)))) :
    Calls Try.prog 43 #[.agg #[.int .i64 x, .bool y], .pointer (some ⟨p, 0, none⟩)] w fun e w' => St w0 F w' ∧ e = .returned (.bool (decide (x = who))) := by
  refine F43.calls (by simp) ?_
  unfold F43.code
  simp -dsimp -implicitDefEqProofs (disch := omega) only [go_sem, reqD_of, dec_t, dec_f, wrap_i64, wrap_u32, wrap_u64, wrap_u8]
  refine h.new fun B w1 h1 => ?_
  have hc := h1.cl B
  have hq := (((h1.right.ent (Ent.trans hp (Ent.rfl' _))).ent (Ent.blkE _ _))).blk
  have hq0 := cell_of_heap hq 0
  simp -dsimp -implicitDefEqProofs (disch := omega) only [go_sem, reqD_of, dec_t, dec_f, wrap_i64, wrap_u32, wrap_u64, wrap_u8, hc, hq0]
  exact h1.right

theorem clR_set : ∀ (i : Nat) (m : List Claim) (x : Claim), i < m.length → setRowL (clR m) (i * 2) (clC x) = clR (m.set i x)
  | 0, c :: m, x, _ => rfl
  | i + 1, c :: m, x, h => by
    have ih := clR_set i m x (by simpa using h)
    simp only [clC, setRowL] at ih ⊢
    rw [show (i + 1) * 2 = i * 2 + 1 + 1 by omega]
    simp only [clR, List.set_cons_succ]
    rw [ih]

def notWho (who : Int) (l : List Claim) : List Claim := l.filter fun c => !decide (c.1 = who)
theorem notWho_none {who : Int} : ∀ {l : List Claim} {k : Nat}, posC who l k = -1 → notWho who l = l
  | [], _, _ => rfl
  | c :: l, k, h => by
    simp only [posC] at h
    split at h
    · omega
    · rename_i hc
      have := notWho_none h
      simp only [notWho] at this
      simp [notWho, hc, this]
theorem notWho_pos {who : Int} : ∀ {l : List Claim} {k i : Nat}, posC who l k = ((k + i : Nat) : Int) → i < l.length → notWho who (l.take (i + 1)) = l.take i
  | [], _, _, _, hi => by simp at hi
  | c :: l, k, i, h, hi => by
    simp only [posC] at h
    split at h
    · rename_i hc
      have : i = 0 := by omega
      subst this
      simp [notWho, hc]
    · rename_i hc
      cases i with
      | zero =>
        rcases posC_spec who l (k + 1) with h' | ⟨m, _, h'⟩ <;> omega
      | succ i =>
        have := notWho_pos (l := l) (k := k + 1) (i := i) (by rw [h]; omega) (by simpa using hi)
        simp only [notWho] at this
        simp [notWho, hc, this]

section
attribute [local go_sem] F42.t6_eq F42.t7_eq F42.t11_eq F42.t4_eq
theorem deleteFunc_any {w0 w : World} {F : HP} {p : Nat} {T : TypeId} {who : Int} {v : Value} {l : List Claim} (h : St w0 (RowO 74 2 v l.length (clR l) * F) w) (hp : Ent F (Blk p (.cells #[.int .i64 who] T (0, 0)))) (hl : l.length < 1099511627776) :
    Calls Try.prog 42 #[v, .func (.func 43) #[] #[.pointer (some ⟨p, 0, none⟩)]] w fun e w' => ∃ v', St w0 (RowO 74 2 v' (notWho who l).length (clR (notWho who l)) * F) w' ∧ e = .returned v' := by
  refine F42.calls (by simp) ?_
  unfold F42.code
  simp -dsimp -implicitDefEqProofs (disch := omega) only [go_sem, reqD_of, dec_t, dec_f, wrap_i64, wrap_u32, wrap_u64, wrap_u8]
  refine (index_gen (p := p) (who := who) fact_fnOk_43 (fun h => isWho43_any h ((Ent.right _ _).trans hp)) h (Gives.ent (B := Reads 2 v l.length (clR l))) hl).mono ?_
  rintro e w1 ⟨h1, rfl⟩
  rcases posC_spec who l 0 with hp1 | ⟨i0, hi0, hp1⟩
  · simp -dsimp -implicitDefEqProofs (disch := omega) only [go_sem, reqD_of, dec_t, dec_f, wrap_i64, wrap_u32, wrap_u64, wrap_u8, hp1]
    refine ⟨v, ?_, rfl⟩
    rw [notWho_none hp1]
    exact h1
  rw [Nat.zero_add] at hp1
  obtain ⟨a, c, rfl, _, hnc, hcm⟩ := RowO.form h
  obtain ⟨_, a', c', hv, _, hcl⟩ := claimAt (h1.gives (B := Reads 2 (.slice a l.length c) l.length (clR l)))
  simp only [Value.slice.injEq, true_and] at hv
  obtain ⟨rfl, rfl⟩ := hv
  obtain ⟨g, o, rfl, _⟩ := hcl i0 hi0
  have hne : ¬ (i0 : Int) = -1 := by omega
  simp -dsimp -implicitDefEqProofs (disch := omega) only [go_sem, reqD_of, dec_t, dec_f, wrap_i64, wrap_u32, wrap_u64, wrap_u8, hp1, hne]
  refine loop_intro (fun e w' => e.ds = [] ∧ e.ρ 0 = .slice (some ⟨g, o, none⟩) l.length c ∧ e.ρ 1 = .func (.func 43) #[] #[.pointer (some ⟨p, 0, none⟩)] ∧ ∃ (i j : Nat) (m : List Claim), i < j ∧ j ≤ l.length ∧ e.ρ 5 = .int .i64 i ∧ e.ρ 6 = .int .i64 j ∧ m.length = l.length ∧ m.take i = notWho who (l.take j) ∧ m.drop j = l.drop j ∧
      St w0 (RowO 74 2 (.slice (some ⟨g, o, none⟩) l.length c) l.length (clR m) * F) w')
    (fun e _ => match e.ρ 6 with | .int _ n => (l.length - n).toNat | _ => 0) ?_ ?_
  · exact ⟨rfl, by simp -dsimp -implicitDefEqProofs only [go_sem], by simp -dsimp -implicitDefEqProofs only [go_sem], i0, i0 + 1, l, by omega, by omega, by simp -dsimp -implicitDefEqProofs only [go_sem], (by simp -dsimp -implicitDefEqProofs (disch := omega) only [go_sem, reqD_of, dec_t, dec_f, wrap_i64, wrap_u32, wrap_u64, wrap_u8]; omega), rfl, (notWho_pos (k := 0) (by simpa using hp1) hi0).symm, rfl, h1⟩
  rintro e w2 ⟨hd, e0, e1, i, j, m, hij, hj, e5, e6, hml, htk, hdr, h2⟩
  by_cases hlt : (j : Int) < l.length
  case neg =>
    have hjl : j = l.length := by omega
    subst hjl
    rw [List.take_length] at htk
    have hil : i = (notWho who l).length := by rw [← htk, List.length_take]; omega
    have hne2 : ¬ c = i := by omega
    have hcut := h2.ent (Ent.sep (RowO.cut (lo := 0) (k := i) (m := c) (by omega) (by omega) (Nat.le_refl _)) (Ent.rfl' _))
    simp only [Nat.zero_mul, Option.map_some, add_lit, Nat.add_zero, ite_self, Nat.sub_zero, List.drop_zero, clR_take] at hcut
    simp -dsimp -implicitDefEqProofs (disch := omega) only [go_sem, reqD_of, dec_t, dec_f, wrap_i64, wrap_u32, wrap_u64, wrap_u8, hd, e0, e1, e5, e6, hlt]
    rw [if_neg hne2]
    refine hcut.clearTail fact_rowTy_69 (by intro v hv; simp only [List.mem_cons, List.not_mem_nil, or_false] at hv; rcases hv with rfl | rfl <;> rfl) (Nat.le_refl _) (by omega) (by omega) fun w3 h3 => ?_
    simp -dsimp -implicitDefEqProofs (disch := omega) only [go_sem, reqD_of, dec_t, dec_f, wrap_i64, wrap_u32, wrap_u64, wrap_u8, hd, e0, e1, e5, e6]
    refine ⟨_, ?_, rfl⟩
    rw [htk] at h3
    rw [← hil]
    simpa using h3
  have hjl : j < l.length := by omega
  have hjm : j < m.length := by omega
  have hmj : m[j] = l[j] := by
    have e1 := List.drop_eq_getElem_cons hjm
    have e2 := List.drop_eq_getElem_cons hjl
    rw [hdr, e2] at e1
    exact (List.cons.inj e1).1.symm
  obtain ⟨_, a', c', hv, _, hcl⟩ := claimAt (h2.gives (B := Reads 2 (.slice (some ⟨g, o, none⟩) l.length c) l.length (clR m)))
  simp only [Value.slice.injEq, true_and] at hv
  obtain ⟨rfl, rfl⟩ := hv
  obtain ⟨g', o', hv, hrow, _, _⟩ := hcl j hjm
  simp only [Option.some.injEq, Addr.mk.injEq, and_true] at hv
  obtain ⟨rfl, rfl⟩ := hv
  rw [hmj] at hrow
  have hfil : notWho who (l.take (j + 1)) = notWho who (l.take j) ++ notWho who [l[j]] := by
    unfold notWho; rw [List.take_succ_eq_append_getElem hjl, List.filter_append]
  simp -dsimp -implicitDefEqProofs (disch := omega) only [go_sem, reqD_of, dec_t, dec_f, wrap_i64, wrap_u32, wrap_u64, wrap_u8, hd, e0, e1, e5, e6, hlt, hrow]
  refine h2.new fun X w3 h3 => ?_
  simp -dsimp -implicitDefEqProofs (disch := omega) only [go_sem, reqD_of, dec_t, dec_f, wrap_i64, wrap_u32, wrap_u64, wrap_u8]
  refine h3.stoAll (cs := clC l[j]) rfl rfl (by intro v hv; simp only [clC, List.mem_cons, List.not_mem_nil, or_false] at hv; rcases hv with rfl | rfl <;> rfl) fun w4 h4 => ?_
  have hX := h4.rowH X 2 rfl
  unfold clC at hX
  simp -dsimp -implicitDefEqProofs (disch := omega) only [go_sem, reqD_of, dec_t, dec_f, wrap_i64, wrap_u32, wrap_u64, wrap_u8, hd, e0, e1, e5, e6, hX, callY_clos]
  refine (isWho43_any h4 ((Ent.right _ _).trans ((Ent.right _ _).trans hp))).mono ?_
  rintro e' w5 ⟨h5, rfl⟩
  by_cases hw : (l[j]).1 = who
  · simp -dsimp -implicitDefEqProofs (disch := omega) only [go_sem, reqD_of, dec_t, dec_f, wrap_i64, wrap_u32, wrap_u64, wrap_u8, hd, e0, e1, e5, e6, hw]
    refine ⟨⟨i, j + 1, m, by omega, by omega, rfl, by omega, hml, ?_, ?_, ?_⟩, by omega⟩
    · rw [hfil, ← htk]; simp [notWho, hw]
    · rw [← List.drop_drop, hdr, List.drop_drop]
    · exact h5.right
  · have hX5 := h5.rowH X 2 rfl
    unfold clC at hX5
    simp -dsimp -implicitDefEqProofs (disch := omega) only [go_sem, reqD_of, dec_t, dec_f, wrap_i64, wrap_u32, wrap_u64, wrap_u8, hd, e0, e1, e5, e6, hw, hX5]
    refine h5.rowSet (n := l.length) (c := c) (xs := clR m) (k := i * 2) (cs := clC l[j]) rfl (by rw [clR_length]; omega) (by intro v hv; simp only [clC, List.mem_cons, List.not_mem_nil, or_false] at hv; rcases hv with rfl | rfl <;> rfl) fun w6 h6 => ?_
    rw [clR_set i m _ (by omega)] at h6
    simp -dsimp -implicitDefEqProofs (disch := omega) only [go_sem, reqD_of, dec_t, dec_f, wrap_i64, wrap_u32, wrap_u64, wrap_u8, hd, e0, e1, e5, e6]
    have hil : i < (m.set i l[j]).length := by simp; omega
    have htk2 : (m.set i l[j]).take (i + 1) = m.take i ++ [l[j]] := by
      rw [List.take_succ_eq_append_getElem hil, List.take_set_of_le (Nat.le_refl i)]
      simp
    refine ⟨⟨i + 1, j + 1, m.set i l[j], by omega, by omega, by omega, by omega, by simpa using hml, ?_, ?_, ?_⟩, by omega⟩
    · rw [htk2, hfil, htk]
      simp [notWho, hw]
    · rw [List.drop_set_of_lt (by omega), ← List.drop_drop, hdr, List.drop_drop]
    · exact h6.right

end
end Go.Proofs.Ytacmnfpgimgigaa

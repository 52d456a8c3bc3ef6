/- names.Split. -/
import Derived.Test.YtlnlomjdooobdaaDoorNaB
namespace Go.Proofs.YtlnlomjdooobdaaDoor
open Go
set_option linter.unusedVariables false
set_option linter.unusedSimpArgs false
set_option maxRecDepth 100000

/-- The parts out of the pieces. -/
def partsF : List (List UInt8) → Option (List (List UInt8))
  | [] => some []
  | p :: ps => if p = [] ∨ p = [46] then partsF ps else if p = [46, 46] ∨ okName p = true then (partsF ps).map (p :: ·) else none
def splitF (l : List UInt8) : Option (List (List UInt8)) := partsF (pcs l)
def rooted (l : List UInt8) : Bool := [47].isPrefixOf l

theorem partsF_skip {p : List UInt8} {ps : List (List UInt8)} (h : p = [] ∨ p = [46]) : partsF (p :: ps) = partsF ps := by rw [partsF, if_pos h]
theorem partsF_take {p : List UInt8} {ps : List (List UInt8)} (h : ¬ (p = [] ∨ p = [46])) (k : p = [46, 46] ∨ okName p = true) : partsF (p :: ps) = (partsF ps).map (p :: ·) := by rw [partsF, if_neg h, if_pos k]
theorem partsF_bad {p : List UInt8} {ps : List (List UInt8)} (h : ¬ (p = [] ∨ p = [46])) (k : ¬ (p = [46, 46] ∨ okName p = true)) : partsF (p :: ps) = none := by rw [partsF, if_neg h, if_neg k]

theorem pcs_total (l : List UInt8) : ∀ p ∈ pcs l, p.length ≤ l.length := by
  induction l with
  | nil => simp [pcs]
  | cons c l ih =>
    unfold pcs
    split
    · intro p hp
      rcases List.mem_cons.1 hp with rfl | hp
      · simp
      · have := ih p hp; simp; omega
    · split
      · rename_i q qs hq
        rw [hq] at ih
        intro p hp
        rcases List.mem_cons.1 hp with rfl | hp
        · have := ih q (by simp); simp; omega
        · have := ih p (by simp [hp]); simp; omega
      · intro p hp; simp at hp; subst hp; simp

abbrev pathV (r : Bool) (v : Value) : Value := .agg #[.bool r, v]

section
attribute [local go_sem] F11.t10_eq F11.t8_eq F11.t11_eq F11.t4_eq F11.t12_eq
theorem split_any {w0 w : World} {A : HP} (h : St w0 A w) [Gives A Tabs] {l : List UInt8} (hl : l.length < 4294967281) :
    Calls Tryd.prog 11 #[.string (strOf l)] w fun e w' =>
      (∃ ps v, splitF l = some ps ∧ St w0 (RowO 9 1 v ps.length (ps.map sv) * A) w' ∧ e = .returned (.tuple #[pathV (rooted l) v, .int .i64 0])) ∨
      (splitF l = none ∧ St w0 A w' ∧ e = .returned (.tuple #[pathV false (.slice none 0 0), .int .i64 51])) := by
  refine F11.calls (by simp) ?_
  unfold F11.code
  simp -dsimp -implicitDefEqProofs (disch := omega) only [go_sem, reqD_of, dec_t, dec_f, wrap_i64, wrap_u32, wrap_u64, wrap_u8]
  refine h.new fun P2 w1 h1 => ?_
  simp -dsimp -implicitDefEqProofs (disch := omega) only [go_sem, reqD_of, dec_t, dec_f, wrap_i64, wrap_u32, wrap_u64, wrap_u8]
  refine (prefix_lib h1).mono ?_
  rintro e w2 ⟨h2, rfl⟩
  simp -dsimp -implicitDefEqProofs (disch := omega) only [go_sem, reqD_of, dec_t, dec_f, wrap_i64, wrap_u32, wrap_u64, wrap_u8]
  refine onV_of (v := pathV (rooted l) (.slice none 0 0)) (by kernel_rfl) ?_
  simp -dsimp -implicitDefEqProofs (disch := omega) only [go_sem, reqD_of, dec_t, dec_f, wrap_i64, wrap_u32, wrap_u64, wrap_u8]
  refine h2.new fun P4 w3 h3 => ?_
  simp -dsimp -implicitDefEqProofs (disch := omega) only [go_sem, reqD_of, dec_t, dec_f, wrap_i64, wrap_u32, wrap_u64, wrap_u8]
  refine h3.stoAll (b := P4) (n := 2) (cs := [.bool (rooted l), .slice none 0 0]) rfl rfl (fun v hv => by simp at hv; rcases hv with rfl | rfl <;> rfl) fun w4 h4 => ?_
  simp -dsimp -implicitDefEqProofs (disch := omega) only [go_sem, reqD_of, dec_t, dec_f, wrap_i64, wrap_u32, wrap_u64, wrap_u8]
  refine (split_lib h4 hl).mono ?_
  rintro e w5 ⟨g, h5, rfl⟩
  simp -dsimp -implicitDefEqProofs (disch := omega) only [go_sem, reqD_of, dec_t, dec_f, wrap_i64, wrap_u32, wrap_u64, wrap_u8]
  have hpl := pcs_length l
  obtain ⟨qs, hqs⟩ : ∃ qs, qs = pcs l := ⟨_, rfl⟩
  have htot := pcs_total l
  have hsp : splitF l = partsF qs := by rw [splitF, hqs]
  rw [← hqs] at h5 hpl htot
  rw [hsp, ← hqs]
  have h6 := h5.nilR 9 1
  refine loop_intro (fun e w' => e.ds = [] ∧ e.ρ 2 = .pointer (some ⟨P2, 0, none⟩) ∧ e.ρ 4 = .pointer (some ⟨P4, 0, none⟩) ∧ e.ρ 11 = .slice (some ⟨g, 0, none⟩) qs.length qs.length ∧ e.ρ 12 = .int .i64 qs.length ∧
      ∃ (i : Nat) (got : List (List UInt8)) (v : Value), i ≤ qs.length ∧ e.ρ 13 = .int .i64 i ∧ got.length ≤ i ∧ partsF qs = (partsF (qs.drop i)).map (got ++ ·) ∧
        St w0 (RowO 9 1 v got.length (got.map sv) * (RowO 9 1 (.slice (some ⟨g, 0, none⟩) qs.length qs.length) qs.length (qs.map sv) * (Blk P4 (.cells #[.bool (rooted l), v] 26 (0, 0)) * (Blk P2 (.cells #[.bool false, .slice none 0 0] 26 (0, 0)) * A)))) w')
    (fun e _ => match e.ρ 13 with | .int _ n => (qs.length - n).toNat | _ => 0) ?_ ?_
  · exact ⟨rfl, by simp -dsimp -implicitDefEqProofs only [go_sem], by simp -dsimp -implicitDefEqProofs only [go_sem], by simp -dsimp -implicitDefEqProofs only [go_sem], by simp -dsimp -implicitDefEqProofs only [go_sem], 0, [], .slice none 0 0, by omega, rfl, by simp, by rw [List.drop_zero]; cases partsF qs <;> rfl, h6⟩
  clear h h1 h2 h3 h4 h5 h6
  rintro e w6 ⟨hd, e2, e4, e11, e12, i, got, v, hi, e13, hgl, hpf, h6⟩
  obtain ⟨av, cv, rfl, _⟩ := h6.rowForm v
  by_cases hlt : (i : Int) < (qs.length : Int)
  case neg =>
    have hdn : qs.drop i = [] := List.drop_of_length_le (by omega)
    rw [hdn, partsF] at hpf
    have r4 := h6.rowH P4 2 rfl
    simp -dsimp -implicitDefEqProofs (disch := omega) only [go_sem, reqD_of, dec_t, dec_f, wrap_i64, wrap_u32, wrap_u64, wrap_u8, hd, e2, e4, e11, e12, e13, hlt, r4]
    refine h6.stoAll (b := P2) (n := 2) (cs := [.bool (rooted l), .slice av got.length cv]) rfl rfl (fun v hv => by simp at hv; rcases hv with rfl | rfl <;> rfl) fun w7 h7 => ?_
    have r2 := h7.rowH P2 2 rfl
    simp -dsimp -implicitDefEqProofs (disch := omega) only [go_sem, reqD_of, dec_t, dec_f, wrap_i64, wrap_u32, wrap_u64, wrap_u8, hd, e2, e4, e11, e12, e13, r2]
    refine resC_2 (a := ⟨P2, 0, none⟩) (v := pathV (rooted l) (.slice av got.length cv)) (by simp -dsimp -implicitDefEqProofs only [go_sem, e2]) (run_loadVar_row (by kernel_rfl) r2) ?_
    left
    exact ⟨got, .slice av got.length cv, by rw [hpf]; simp, h7.sub, by simp -dsimp -implicitDefEqProofs only [go_sem]⟩
  have hil : i < qs.length := by omega
  obtain ⟨b0, o0, hb0, c0⟩ := h6.atS (a := some ⟨g, 0, none⟩) (n := qs.length) (c := qs.length) (xs := qs.map sv) (k := i) (by simpa using hil)
  simp only [Option.some.injEq, Addr.mk.injEq, and_true] at hb0
  obtain ⟨rfl, rfl⟩ := hb0
  simp only [List.getElem_map, Nat.zero_add] at c0
  have hql := htot qs[i] (List.getElem_mem hil)
  have hdr : qs.drop i = qs[i] :: qs.drop (i + 1) := List.drop_eq_getElem_cons hil
  obtain ⟨q, hq⟩ : ∃ q, q = qs[i] := ⟨_, rfl⟩
  rw [← hq] at c0 hql hdr
  rw [hdr] at hpf
  simp -dsimp -implicitDefEqProofs (disch := omega) only [go_sem, reqD_of, dec_t, dec_f, wrap_i64, wrap_u32, wrap_u64, wrap_u8, hd, e2, e4, e11, e12, e13, hlt, c0]
  by_cases q0 : q = []
  · have d0 : decide (q = []) = true := by simp [q0]
    rw [partsF_skip (.inl q0)] at hpf
    simp -dsimp -implicitDefEqProofs (disch := omega) only [go_sem, reqD_of, dec_t, dec_f, wrap_i64, wrap_u32, wrap_u64, wrap_u8, hd, e2, e4, e11, e12, e13, d0]
    exact ⟨⟨i + 1, got, .slice av got.length cv, by omega, by omega, by omega, hpf, h6⟩, by omega⟩
  by_cases q1 : q = [46]
  · have d1 : decide (q = [46]) = true := by simp [q1]
    rw [partsF_skip (.inr q1)] at hpf
    simp -dsimp -implicitDefEqProofs (disch := omega) only [go_sem, reqD_of, dec_t, dec_f, wrap_i64, wrap_u32, wrap_u64, wrap_u8, hd, e2, e4, e11, e12, e13, q0, d1]
    exact ⟨⟨i + 1, got, .slice av got.length cv, by omega, by omega, by omega, hpf, h6⟩, by omega⟩
  have hn : ¬ (q = [] ∨ q = [46]) := by simp [q0, q1]
  have c4 := h6.cl P4
  by_cases q2 : q = [46, 46]
  · have d2 : decide (q = [46, 46]) = true := by simp [q2]
    rw [partsF_take hn (.inl q2)] at hpf
    simp -dsimp -implicitDefEqProofs (disch := omega) only [go_sem, reqD_of, dec_t, dec_f, wrap_i64, wrap_u32, wrap_u64, wrap_u8, hd, e2, e4, e11, e12, e13, q0, q1, d2, c4]
    refine h6.lit (t := 24) (cells := [sv q]) fact_rowTy_24 rfl (by decide) (by decide) fun v8 w8 h8 => ?_
    obtain ⟨a8, c8, rfl, _⟩ := h8.rowForm v8
    simp -dsimp -implicitDefEqProofs (disch := omega) only [go_sem, reqD_of, dec_t, dec_f, wrap_i64, wrap_u32, wrap_u64, wrap_u8, hd, e2, e4, e11, e12, e13]
    refine h8.appR (v := .slice av got.length cv) (x := .slice a8 1 c8) fact_rowTy_24 Tryd.underlying24 (fun u hu => by simp at hu; subst hu; rfl) (by simp) (show _ ≤ 9223372036854775807 by omega) (by omega) fun v9 w9 h9 => ?_
    obtain ⟨a9, c9, rfl, _⟩ := h9.rowForm v9
    simp -dsimp -implicitDefEqProofs (disch := omega) only [go_sem, reqD_of, dec_t, dec_f, wrap_i64, wrap_u32, wrap_u64, wrap_u8, hd, e2, e4, e11, e12, e13]
    refine h9.sto (b := P4) (off := 1) (by simp) rfl fun w10 h10 => ?_
    simp only [List.setIfInBounds_toArray, List.set_cons_succ, List.set_cons_zero] at h10
    simp -dsimp -implicitDefEqProofs (disch := omega) only [go_sem, reqD_of, dec_t, dec_f, wrap_i64, wrap_u32, wrap_u64, wrap_u8, hd, e2, e4, e11, e12, e13]
    have h11 : St w0 (RowO 9 1 (.slice a9 (got.length + 1) c9) (got ++ [q]).length ((got ++ [q]).map sv) * (RowO 9 1 (.slice (some ⟨g, 0, none⟩) qs.length qs.length) qs.length (qs.map sv) * (Blk P4 (.cells #[.bool (rooted l), .slice a9 (got.length + 1) c9] 26 (0, 0)) * (Blk P2 (.cells #[.bool false, .slice none 0 0] 26 (0, 0)) * A)))) w10 := by
      rw [show (got ++ [q]).length = got.length + 1 by simp, show (got ++ [q]).map sv = got.map sv ++ [sv q] by simp]; exact h10.sub
    exact ⟨⟨i + 1, got ++ [q], .slice a9 (got.length + 1) c9, by omega, by omega, by simp; omega, by rw [hpf]; cases partsF (qs.drop (i + 1)) <;> simp, h11⟩, by omega⟩
  simp -dsimp -implicitDefEqProofs (disch := omega) only [go_sem, reqD_of, dec_t, dec_f, wrap_i64, wrap_u32, wrap_u64, wrap_u8, hd, e2, e4, e11, e12, e13, q0, q1, q2]
  refine (check_any h6 (by omega)).mono ?_
  rintro e' w7 ⟨h7, rfl⟩
  have c4 := h7.cl P4
  cases hk : okName q with
  | true =>
    rw [partsF_take hn (.inr hk)] at hpf
    simp -dsimp -implicitDefEqProofs (disch := omega) only [go_sem, reqD_of, dec_t, dec_f, wrap_i64, wrap_u32, wrap_u64, wrap_u8, hd, e2, e4, e11, e12, e13, q0, q1, q2, c4]
    refine h7.lit (t := 24) (cells := [sv q]) fact_rowTy_24 rfl (by decide) (by decide) fun v8 w8 h8 => ?_
    obtain ⟨a8, c8, rfl, _⟩ := h8.rowForm v8
    simp -dsimp -implicitDefEqProofs (disch := omega) only [go_sem, reqD_of, dec_t, dec_f, wrap_i64, wrap_u32, wrap_u64, wrap_u8, hd, e2, e4, e11, e12, e13]
    refine h8.appR (v := .slice av got.length cv) (x := .slice a8 1 c8) fact_rowTy_24 Tryd.underlying24 (fun u hu => by simp at hu; subst hu; rfl) (by simp) (show _ ≤ 9223372036854775807 by omega) (by omega) fun v9 w9 h9 => ?_
    obtain ⟨a9, c9, rfl, _⟩ := h9.rowForm v9
    simp -dsimp -implicitDefEqProofs (disch := omega) only [go_sem, reqD_of, dec_t, dec_f, wrap_i64, wrap_u32, wrap_u64, wrap_u8, hd, e2, e4, e11, e12, e13]
    refine h9.sto (b := P4) (off := 1) (by simp) rfl fun w10 h10 => ?_
    simp only [List.setIfInBounds_toArray, List.set_cons_succ, List.set_cons_zero] at h10
    simp -dsimp -implicitDefEqProofs (disch := omega) only [go_sem, reqD_of, dec_t, dec_f, wrap_i64, wrap_u32, wrap_u64, wrap_u8, hd, e2, e4, e11, e12, e13]
    have h11 : St w0 (RowO 9 1 (.slice a9 (got.length + 1) c9) (got ++ [q]).length ((got ++ [q]).map sv) * (RowO 9 1 (.slice (some ⟨g, 0, none⟩) qs.length qs.length) qs.length (qs.map sv) * (Blk P4 (.cells #[.bool (rooted l), .slice a9 (got.length + 1) c9] 26 (0, 0)) * (Blk P2 (.cells #[.bool false, .slice none 0 0] 26 (0, 0)) * A)))) w10 := by
      rw [show (got ++ [q]).length = got.length + 1 by simp, show (got ++ [q]).map sv = got.map sv ++ [sv q] by simp]; exact h10.sub
    exact ⟨⟨i + 1, got ++ [q], .slice a9 (got.length + 1) c9, by omega, by omega, by simp; omega, by rw [hpf]; cases partsF (qs.drop (i + 1)) <;> simp, h11⟩, by omega⟩
  | false =>
    rw [partsF_bad hn (by simp [q2, hk])] at hpf
    simp -dsimp -implicitDefEqProofs (disch := omega) only [go_sem, reqD_of, dec_t, dec_f, wrap_i64, wrap_u32, wrap_u64, wrap_u8, hd, e2, e4, e11, e12, e13, q0, q1, q2, c4]
    refine onV_of (v := pathV false (.slice none 0 0)) (by kernel_rfl) ?_
    simp -dsimp -implicitDefEqProofs (disch := omega) only [go_sem, reqD_of, dec_t, dec_f, wrap_i64, wrap_u32, wrap_u64, wrap_u8, hd, e2, e4, e11, e12, e13]
    refine h7.stoAll (b := P2) (n := 2) (cs := [.bool false, .slice none 0 0]) rfl rfl (fun v hv => by simp at hv; rcases hv with rfl | rfl <;> rfl) fun w8 h8 => ?_
    have r2 := h8.rowH P2 2 rfl
    simp -dsimp -implicitDefEqProofs (disch := omega) only [go_sem, reqD_of, dec_t, dec_f, wrap_i64, wrap_u32, wrap_u64, wrap_u8, hd, e2, e4, e11, e12, e13, r2]
    refine resC_2 (a := ⟨P2, 0, none⟩) (v := pathV false (.slice none 0 0)) (by simp -dsimp -implicitDefEqProofs only [go_sem, e2]) (run_loadVar_row (by kernel_rfl) r2) ?_
    right
    exact ⟨by rw [hpf]; rfl, h8.sub, by simp -dsimp -implicitDefEqProofs only [go_sem]⟩

end
end Go.Proofs.YtlnlomjdooobdaaDoor

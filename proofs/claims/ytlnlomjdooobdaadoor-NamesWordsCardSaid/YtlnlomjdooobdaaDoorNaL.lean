/- names.pieces, as a whole. -/
import Derived.Test.YtlnlomjdooobdaaDoorNaK
namespace Go.Proofs.YtlnlomjdooobdaaDoor
open Go
set_option linter.unusedVariables false
set_option linter.unusedSimpArgs false
set_option maxRecDepth 100000

abbrev pcsD (P2 P3 : Nat) : Deferred := { target := .fn (.func 46) #[.pointer (some ⟨P2, 0, none⟩), .pointer (some ⟨P3, 0, none⟩)], args := #[] }
abbrev PcsR (w0 : World) (A : HP) (l : List UInt8) : Ending → World → Prop := fun e w' =>
      (∃ ps v, piecesF l = some (ps.map Prod.fst) ∧ St w0 (PcsP v ps * A) w' ∧ e = .returned (.tuple #[v, .bool true])) ∨
      (piecesF l = none ∧ St w0 A w' ∧ e = .returned (.tuple #[.slice none 0 0, .bool false]))

theorem pieces_bad {w0 w : World} {A : HP} {P2 P3 : Nat} {e : FA} {u x : Value} {l : List UInt8} (e2 : e.ρ 2 = .pointer (some ⟨P2, 0, none⟩)) (e3 : e.ρ 3 = .pointer (some ⟨P3, 0, none⟩)) (hn : piecesF l = none)
    (h : St w0 (Blk P2 (.cells #[u] 56 (0, 0)) * (Blk P3 (.cells #[x] 4 (0, 0)) * A)) w) :
    leaveD Tryd.prog [pcsD P2 P3] (.panicking patP) w (endM Tryd.prog #[.cell 2 56, .cell 3 4] e (PcsR w0 A l)) := by
  refine leave1 (by simp) (by kernel_rfl) (CallsDIn.mono' (piecesD_pan h) ?_)
  rintro e' u' w' ⟨rfl, rfl, h'⟩
  show endM _ _ _ _ .returning w'
  have c2 := h'.cl P2
  have c3 := h'.cl P3
  refine resC_CC e2 (run_loadVar_cell fact_aggSz_56 (by rw [c2]; rfl)) e3 (run_loadVar_cell fact_aggSz_4 (by rw [c3]; rfl)) ?_
  exact .inr ⟨hn, h'.right.right, rfl⟩

theorem pieces_end {w0 w : World} {A : HP} {P2 P3 : Nat} {e : FA} {u : Value} {b : Bool} {l : List UInt8} {R : Ending → World → Prop} (e2 : e.ρ 2 = .pointer (some ⟨P2, 0, none⟩)) (e3 : e.ρ 3 = .pointer (some ⟨P3, 0, none⟩))
    (h : St w0 (Blk P2 (.cells #[u] 56 (0, 0)) * (Blk P3 (.cells #[.bool b] 4 (0, 0)) * A)) w) (hR : R (.returned (.tuple #[u, .bool b])) w) :
    leaveD Tryd.prog [pcsD P2 P3] .returning w (endM Tryd.prog #[.cell 2 56, .cell 3 4] e R) := by
  refine leave1 (by simp) (by kernel_rfl) (CallsDIn.mono' piecesD_ret ?_)
  rintro e' u' w' ⟨rfl, rfl, rfl⟩
  show endM _ _ _ _ .returning w'
  have c2 := h.cl P2
  have c3 := h.cl P3
  exact resC_CC e2 (run_loadVar_cell fact_aggSz_56 (by rw [c2]; rfl)) e3 (run_loadVar_cell fact_aggSz_4 (by rw [c3]; rfl)) hR

section
attribute [local go_sem] F29.t7_eq F29.t15_eq F29.t14_eq F29.t13_eq F29.t16_eq F29.t17_eq F29.t18_eq F29.t19_eq F29.t20_eq F29.t10_eq F29.t21_eq F29.t9_eq F29.t4_eq
theorem pieces_9 {w0 w : World} {A : HP} {P2 P3 R : Nat} {e : FA} {l : List UInt8} {rs : List Nat} {v : Value} {θ : Tag (F29.t9, fnM Tryd.prog #[.cell 2 56, .cell 3 4] (PcsR w0 A l), e, w)} (hs : rs.length ≤ 4294967)
    (hd : e.ds = [pcsD P2 P3]) (e2 : e.ρ 2 = .pointer (some ⟨P2, 0, none⟩)) (e3 : e.ρ 3 = .pointer (some ⟨P3, 0, none⟩)) (e4 : e.ρ 4 = .pointer (some ⟨R, 0, none⟩)) (hpf : piecesF l = pcs2 [] rs)
    (h : St w0 (RdP R v rs 0 * (Blk P2 (.cells #[.slice none 0 0] 56 (0, 0)) * (Blk P3 (.cells #[.bool false] 4 (0, 0)) * A))) w) :
    cwE Tryd.prog F29.t9 (fnM Tryd.prog #[.cell 2 56, .cell 3 4] (PcsR w0 A l)) e w θ := by
  obtain ⟨ar, cr, rfl, _⟩ := h.rowForm v
  rw [F29.t9_eq]
  simp -dsimp -implicitDefEqProofs (disch := omega) only [go_sem, reqD_of, dec_t, dec_f, wrap_i64, wrap_u32, wrap_u64, wrap_u8, hd, e2, e3, e4]
  refine loop_intro (fun e w' => e.ds = [pcsD P2 P3] ∧ e.ρ 2 = .pointer (some ⟨P2, 0, none⟩) ∧ e.ρ 3 = .pointer (some ⟨P3, 0, none⟩) ∧ e.ρ 4 = .pointer (some ⟨R, 0, none⟩) ∧
      ∃ (k : Nat) (ps : List (Pc × Value)) (u : Value), k ≤ rs.length ∧ ps.length ≤ k ∧ pcs2 [] rs = pcs2 (ps.map Prod.fst) (rs.drop k) ∧
        St w0 (RdP R (.slice ar rs.length cr) rs k * (PcsP u ps * (Blk P2 (.cells #[u] 56 (0, 0)) * (Blk P3 (.cells #[.bool false] 4 (0, 0)) * A)))) w')
    (fun e w' => rs.length - atOf w' R) ?_ ?_
  · refine ⟨hd, e2, e3, e4, 0, [], .slice none 0 0, by omega, by simp, rfl, ?_⟩
    have h1 := (h.nilR 62 3).ent (Ent.embL _)
    exact h1.ac (by show _ = RdP R (.slice ar rs.length cr) rs 0 * (RowO 62 3 (.slice none 0 0) 0 [] * EmpH * (Blk P2 (.cells #[.slice none 0 0] 56 (0, 0)) * (Blk P3 (.cells #[.bool false] 4 (0, 0)) * A))); ac_rfl)
  clear h hd e2 e3 e4
  rintro e w2 ⟨hd, e2, e3, e4, k, ps, u, hk, hpl, hp, h2⟩
  have m2 := RdP.atOf h2
  have hu : ∃ a c, u = .slice a ps.length c := by
    obtain ⟨a, c, h, _⟩ := h2.rowForm u
    exact ⟨a, c, h⟩
  obtain ⟨ap, cp, rfl⟩ := hu
  simp -dsimp -implicitDefEqProofs (disch := omega) only [go_sem, reqD_of, dec_t, dec_f, wrap_i64, wrap_u32, wrap_u64, wrap_u8, hd, e2, e3, e4]
  refine (more_any h2).mono ?_
  rintro e' w3 ⟨h3, rfl⟩
  have c2 := h3.cl P2
  by_cases hlt : k < rs.length
  case neg =>
    have dt : decide (k < rs.length) = false := by simpa using hlt
    have hdn : rs.drop k = [] := List.drop_of_length_le (by omega)
    rw [hdn, pcs2_nil] at hp
    rw [dt]
    simp -dsimp -implicitDefEqProofs (disch := omega) only [go_sem, reqD_of, dec_t, dec_f, wrap_i64, wrap_u32, wrap_u64, wrap_u8, hd, e2, e3, e4, c2]
    refine h3.sto (b := P2) (off := 0) (by simp) rfl fun w4 h4 => ?_
    simp only [List.setIfInBounds_toArray, List.set_cons_zero] at h4
    simp -dsimp -implicitDefEqProofs (disch := omega) only [go_sem, reqD_of, dec_t, dec_f, wrap_i64, wrap_u32, wrap_u64, wrap_u8, hd, e2, e3, e4]
    refine h4.sto (b := P3) (off := 0) (by simp) rfl fun w5 h5 => ?_
    simp only [List.setIfInBounds_toArray, List.set_cons_zero] at h5
    simp -dsimp -implicitDefEqProofs (disch := omega) only [go_sem, reqD_of, dec_t, dec_f, wrap_i64, wrap_u32, wrap_u64, wrap_u8, hd, e2, e3, e4]
    refine pieces_end (l := l) (A := PcsP (.slice ap ps.length cp) ps * (A * RdP R (.slice ar rs.length cr) rs k)) (by simp -dsimp -implicitDefEqProofs only [go_sem, e2]) (by simp -dsimp -implicitDefEqProofs only [go_sem, e3]) (h5.ac (by simp only [PcsP, RdP]; ac_rfl)) ?_
    exact .inl ⟨ps, .slice ap ps.length cp, by rw [hpf, hp], (h5.ac (show _ = PcsP (.slice ap ps.length cp) ps * (A * (RdP R (.slice ar rs.length cr) rs k * (Blk P2 (.cells #[.slice ap ps.length cp] 56 (0, 0)) * Blk P3 (.cells #[.bool true] 4 (0, 0))))) by simp only [PcsP, RdP]; ac_rfl)).ent (Ent.sep (Ent.rfl' _) (Ent.left _ _)), rfl⟩
  have dt : decide (k < rs.length) = true := by simpa using hlt
  rw [dt]
  simp -dsimp -implicitDefEqProofs (disch := omega) only [go_sem, reqD_of, dec_t, dec_f, wrap_i64, wrap_u32, wrap_u64, wrap_u8, hd, e2, e3, e4]
  refine (next_any h3 (by omega)).mono ?_
  rintro e' w4 (⟨c, l1, hl, hl1, h4, rfl⟩ | ⟨hl, h4, rfl⟩)
  case inr =>
    have : (rs.drop k).length = 0 := by rw [hl]; rfl
    simp at this
    omega
  rw [hl, ← hl1] at hp
  have c2 := h4.cl P2
  by_cases s1 : (c : Int) = 42
  · rw [pcs2_row (by omega)] at hp
    simp -dsimp -implicitDefEqProofs (disch := omega) only [go_sem, reqD_of, dec_t, dec_f, wrap_i64, wrap_u32, wrap_u64, wrap_u8, hd, e2, e3, e4, s1, c2]
    refine onV_of (v := .agg #[.bool true, .bool false, Value.slice none 0 0]) (by kernel_rfl) ?_
    simp -dsimp -implicitDefEqProofs (disch := omega) only [go_sem, reqD_of, dec_t, dec_f, wrap_i64, wrap_u32, wrap_u64, wrap_u8, hd, e2, e3, e4]
    have h5 : St w0 (SpR ((true, false, []), Value.slice none 0 0) * _) w4 := h4.nilR 94 2
    refine h5.lit (t := 56) (cells := [.bool true, .bool false, Value.slice none 0 0]) fact_rowTy_56 rfl (by decide) (by decide) fun v8 w8 h8 => ?_
    obtain ⟨a8, c8, rfl, _⟩ := h8.rowForm v8
    simp -dsimp -implicitDefEqProofs (disch := omega) only [go_sem, reqD_of, dec_t, dec_f, wrap_i64, wrap_u32, wrap_u64, wrap_u8, hd, e2, e3, e4]
    refine h8.appR (v := .slice ap ps.length cp) (x := .slice a8 1 c8) fact_rowTy_56 Tryd.underlying56 (fun u hu => by simp at hu; rcases hu with rfl | rfl | rfl <;> rfl) (by simp) (show _ ≤ 9223372036854775807 by omega) (by omega) fun v9 w9 h9 => ?_
    obtain ⟨a9, c9, rfl, _⟩ := h9.rowForm v9
    simp -dsimp -implicitDefEqProofs (disch := omega) only [go_sem, reqD_of, dec_t, dec_f, wrap_i64, wrap_u32, wrap_u64, wrap_u8, hd, e2, e3, e4]
    refine h9.sto (b := P2) (off := 0) (by simp) rfl fun w10 h10 => ?_
    simp only [List.setIfInBounds_toArray, List.set_cons_succ, List.set_cons_zero] at h10
    simp -dsimp -implicitDefEqProofs (disch := omega) only [go_sem, reqD_of, dec_t, dec_f, wrap_i64, wrap_u32, wrap_u64, wrap_u8, hd, e2, e3, e4]
    have el : (ps ++ [((true, false, []), Value.slice none 0 0)]).length = ps.length + 1 := by simp
    have em : (ps ++ [((true, false, []), Value.slice none 0 0)]).flatMap pcV = ps.flatMap pcV ++ [.bool true, .bool false, Value.slice none 0 0] := by simp
    have h11 := (h10.ac (show _ = RdP R (.slice ar rs.length cr) rs (k + 1) * (RowO 62 3 (.slice a9 (ps.length + 1) c9) (ps.length + 1) (ps.flatMap pcV ++ [.bool true, .bool false, Value.slice none 0 0]) * (SpR ((true, false, []), Value.slice none 0 0) * SpP ps) * (Blk P2 (.cells #[.slice a9 (ps.length + 1) c9] 56 (0, 0)) * (Blk P3 (.cells #[.bool false] 4 (0, 0)) * (A * RowO 62 3 (.slice a8 1 c8) 1 [.bool true, .bool false, Value.slice none 0 0])))) by simp only [RdP, PcsP]; ac_rfl)).ent (Ent.sep (Ent.rfl' _) (Ent.sep (Ent.rfl' _) (Ent.sep (Ent.rfl' _) (Ent.sep (Ent.rfl' _) (Ent.left _ _)))))
    have h12 : St w0 (RdP R (.slice ar rs.length cr) rs (k + 1) * (PcsP (.slice a9 (ps.length + 1) c9) (ps ++ [((true, false, []), Value.slice none 0 0)]) * (Blk P2 (.cells #[.slice a9 (ps.length + 1) c9] 56 (0, 0)) * (Blk P3 (.cells #[.bool false] 4 (0, 0)) * A)))) w10 := by
      show St w0 (RdP R (.slice ar rs.length cr) rs (k + 1) * ((RowO 62 3 (.slice a9 (ps.length + 1) c9) (ps ++ [((true, false, []), Value.slice none 0 0)]).length ((ps ++ [((true, false, []), Value.slice none 0 0)]).flatMap pcV) * SpP (ps ++ [((true, false, []), Value.slice none 0 0)])) * _)) w10
      rw [el, em, SpP_snoc]
      exact h11
    have m12 := RdP.atOf h12
    have hfst : (ps ++ [((true, false, []), Value.slice none 0 0)]).map Prod.fst = ps.map Prod.fst ++ [(true, false, [])] := by simp
    simp -dsimp -implicitDefEqProofs (disch := omega) only [go_sem, reqD_of, dec_t, dec_f, wrap_i64, wrap_u32, wrap_u64, wrap_u8, hd, e2, e3, e4, m2, m12]
    exact ⟨⟨(k + 1), ps ++ [((true, false, []), Value.slice none 0 0)], .slice a9 (ps.length + 1) c9, by omega, by omega, by rw [hfst]; exact hp, h12⟩, by omega⟩
  by_cases s2 : (c : Int) = 63
  · rw [pcs2_any (by omega)] at hp
    simp -dsimp -implicitDefEqProofs (disch := omega) only [go_sem, reqD_of, dec_t, dec_f, wrap_i64, wrap_u32, wrap_u64, wrap_u8, hd, e2, e3, e4, s1, s2, c2]
    refine onV_of (v := .agg #[.bool false, .bool true, Value.slice none 0 0]) (by kernel_rfl) ?_
    simp -dsimp -implicitDefEqProofs (disch := omega) only [go_sem, reqD_of, dec_t, dec_f, wrap_i64, wrap_u32, wrap_u64, wrap_u8, hd, e2, e3, e4]
    have h5 : St w0 (SpR ((false, true, []), Value.slice none 0 0) * _) w4 := h4.nilR 94 2
    refine h5.lit (t := 56) (cells := [.bool false, .bool true, Value.slice none 0 0]) fact_rowTy_56 rfl (by decide) (by decide) fun v8 w8 h8 => ?_
    obtain ⟨a8, c8, rfl, _⟩ := h8.rowForm v8
    simp -dsimp -implicitDefEqProofs (disch := omega) only [go_sem, reqD_of, dec_t, dec_f, wrap_i64, wrap_u32, wrap_u64, wrap_u8, hd, e2, e3, e4]
    refine h8.appR (v := .slice ap ps.length cp) (x := .slice a8 1 c8) fact_rowTy_56 Tryd.underlying56 (fun u hu => by simp at hu; rcases hu with rfl | rfl | rfl <;> rfl) (by simp) (show _ ≤ 9223372036854775807 by omega) (by omega) fun v9 w9 h9 => ?_
    obtain ⟨a9, c9, rfl, _⟩ := h9.rowForm v9
    simp -dsimp -implicitDefEqProofs (disch := omega) only [go_sem, reqD_of, dec_t, dec_f, wrap_i64, wrap_u32, wrap_u64, wrap_u8, hd, e2, e3, e4]
    refine h9.sto (b := P2) (off := 0) (by simp) rfl fun w10 h10 => ?_
    simp only [List.setIfInBounds_toArray, List.set_cons_succ, List.set_cons_zero] at h10
    simp -dsimp -implicitDefEqProofs (disch := omega) only [go_sem, reqD_of, dec_t, dec_f, wrap_i64, wrap_u32, wrap_u64, wrap_u8, hd, e2, e3, e4]
    have el : (ps ++ [((false, true, []), Value.slice none 0 0)]).length = ps.length + 1 := by simp
    have em : (ps ++ [((false, true, []), Value.slice none 0 0)]).flatMap pcV = ps.flatMap pcV ++ [.bool false, .bool true, Value.slice none 0 0] := by simp
    have h11 := (h10.ac (show _ = RdP R (.slice ar rs.length cr) rs (k + 1) * (RowO 62 3 (.slice a9 (ps.length + 1) c9) (ps.length + 1) (ps.flatMap pcV ++ [.bool false, .bool true, Value.slice none 0 0]) * (SpR ((false, true, []), Value.slice none 0 0) * SpP ps) * (Blk P2 (.cells #[.slice a9 (ps.length + 1) c9] 56 (0, 0)) * (Blk P3 (.cells #[.bool false] 4 (0, 0)) * (A * RowO 62 3 (.slice a8 1 c8) 1 [.bool false, .bool true, Value.slice none 0 0])))) by simp only [RdP, PcsP]; ac_rfl)).ent (Ent.sep (Ent.rfl' _) (Ent.sep (Ent.rfl' _) (Ent.sep (Ent.rfl' _) (Ent.sep (Ent.rfl' _) (Ent.left _ _)))))
    have h12 : St w0 (RdP R (.slice ar rs.length cr) rs (k + 1) * (PcsP (.slice a9 (ps.length + 1) c9) (ps ++ [((false, true, []), Value.slice none 0 0)]) * (Blk P2 (.cells #[.slice a9 (ps.length + 1) c9] 56 (0, 0)) * (Blk P3 (.cells #[.bool false] 4 (0, 0)) * A)))) w10 := by
      show St w0 (RdP R (.slice ar rs.length cr) rs (k + 1) * ((RowO 62 3 (.slice a9 (ps.length + 1) c9) (ps ++ [((false, true, []), Value.slice none 0 0)]).length ((ps ++ [((false, true, []), Value.slice none 0 0)]).flatMap pcV) * SpP (ps ++ [((false, true, []), Value.slice none 0 0)])) * _)) w10
      rw [el, em, SpP_snoc]
      exact h11
    have m12 := RdP.atOf h12
    have hfst : (ps ++ [((false, true, []), Value.slice none 0 0)]).map Prod.fst = ps.map Prod.fst ++ [(false, true, [])] := by simp
    simp -dsimp -implicitDefEqProofs (disch := omega) only [go_sem, reqD_of, dec_t, dec_f, wrap_i64, wrap_u32, wrap_u64, wrap_u8, hd, e2, e3, e4, m2, m12]
    exact ⟨⟨(k + 1), ps ++ [((false, true, []), Value.slice none 0 0)], .slice a9 (ps.length + 1) c9, by omega, by omega, by rw [hfst]; exact hp, h12⟩, by omega⟩
  by_cases s3 : (c : Int) = 91
  · have d2 := h4.drew.cl P2
    simp -dsimp -implicitDefEqProofs (disch := omega) only [go_sem, reqD_of, dec_t, dec_f, wrap_i64, wrap_u32, wrap_u64, wrap_u8, hd, e2, e3, e4, s1, s2, s3, c2, d2]
    refine (class_any h4.drew (by omega) (by omega)).mono ?_
    rintro e' w5 (⟨tn, ss, u, k2, hc, hk2, hk3, h5, rfl⟩ | ⟨hc, h5, rfl⟩)
    · rw [pcs2_cls (by omega) hc] at hp
      obtain ⟨a6, c6, rfl, _⟩ := h5.rowForm u
      have h6 : St w0 (RdP R (.slice ar rs.length cr) rs k2 * (SpR ((false, tn, ss), .slice a6 ss.length c6) * _)) w5 := h5
      have c2 := h6.cl P2
      simp -dsimp -implicitDefEqProofs (disch := omega) only [go_sem, reqD_of, dec_t, dec_f, wrap_i64, wrap_u32, wrap_u64, wrap_u8, hd, e2, e3, e4, c2]
      refine h6.lit (t := 56) (cells := [.bool false, .bool tn, .slice a6 ss.length c6]) fact_rowTy_56 rfl (by decide) (by decide) fun v8 w8 h8 => ?_
      obtain ⟨a8, c8, rfl, _⟩ := h8.rowForm v8
      have k8 := h8.cl P2
      simp -dsimp -implicitDefEqProofs (disch := omega) only [go_sem, reqD_of, dec_t, dec_f, wrap_i64, wrap_u32, wrap_u64, wrap_u8, hd, e2, e3, e4, k8]
      refine h8.appR (v := .slice ap ps.length cp) (x := .slice a8 1 c8) fact_rowTy_56 Tryd.underlying56 (fun u hu => by simp at hu; rcases hu with rfl | rfl | rfl <;> rfl) (by simp) (show _ ≤ 9223372036854775807 by omega) (by omega) fun v9 w9 h9 => ?_
      obtain ⟨a9, c9, rfl, _⟩ := h9.rowForm v9
      have k9 := h9.cl P2
      simp -dsimp -implicitDefEqProofs (disch := omega) only [go_sem, reqD_of, dec_t, dec_f, wrap_i64, wrap_u32, wrap_u64, wrap_u8, hd, e2, e3, e4, k9]
      refine h9.sto (b := P2) (off := 0) (by simp) rfl fun w10 h10 => ?_
      simp only [List.setIfInBounds_toArray, List.set_cons_succ, List.set_cons_zero] at h10
      simp -dsimp -implicitDefEqProofs (disch := omega) only [go_sem, reqD_of, dec_t, dec_f, wrap_i64, wrap_u32, wrap_u64, wrap_u8, hd, e2, e3, e4]
      have el : (ps ++ [((false, tn, ss), Value.slice a6 ss.length c6)]).length = ps.length + 1 := by simp
      have em : (ps ++ [((false, tn, ss), Value.slice a6 ss.length c6)]).flatMap pcV = ps.flatMap pcV ++ [.bool false, .bool tn, .slice a6 ss.length c6] := by simp
      have h11 := (h10.ac (show _ = RdP R (.slice ar rs.length cr) rs k2 * (RowO 62 3 (.slice a9 (ps.length + 1) c9) (ps.length + 1) (ps.flatMap pcV ++ [.bool false, .bool tn, .slice a6 ss.length c6]) * (SpR ((false, tn, ss), Value.slice a6 ss.length c6) * SpP ps) * (Blk P2 (.cells #[.slice a9 (ps.length + 1) c9] 56 (0, 0)) * (Blk P3 (.cells #[.bool false] 4 (0, 0)) * (A * RowO 62 3 (.slice a8 1 c8) 1 [.bool false, .bool tn, .slice a6 ss.length c6])))) by simp only [RdP, PcsP]; ac_rfl)).ent (Ent.sep (Ent.rfl' _) (Ent.sep (Ent.rfl' _) (Ent.sep (Ent.rfl' _) (Ent.sep (Ent.rfl' _) (Ent.left _ _)))))
      have h12 : St w0 (RdP R (.slice ar rs.length cr) rs k2 * (PcsP (.slice a9 (ps.length + 1) c9) (ps ++ [((false, tn, ss), Value.slice a6 ss.length c6)]) * (Blk P2 (.cells #[.slice a9 (ps.length + 1) c9] 56 (0, 0)) * (Blk P3 (.cells #[.bool false] 4 (0, 0)) * A)))) w10 := by
        show St w0 (RdP R (.slice ar rs.length cr) rs k2 * ((RowO 62 3 (.slice a9 (ps.length + 1) c9) (ps ++ [((false, tn, ss), Value.slice a6 ss.length c6)]).length ((ps ++ [((false, tn, ss), Value.slice a6 ss.length c6)]).flatMap pcV) * SpP (ps ++ [((false, tn, ss), Value.slice a6 ss.length c6)])) * _)) w10
        rw [el, em, SpP_snoc]
        exact h11
      have m12 := RdP.atOf h12
      have hfst : (ps ++ [((false, tn, ss), Value.slice a6 ss.length c6)]).map Prod.fst = ps.map Prod.fst ++ [(false, tn, ss)] := by simp
      simp -dsimp -implicitDefEqProofs (disch := omega) only [go_sem, reqD_of, dec_t, dec_f, wrap_i64, wrap_u32, wrap_u64, wrap_u8, hd, e2, e3, e4, m2, m12]
      exact ⟨⟨k2, ps ++ [((false, tn, ss), Value.slice a6 ss.length c6)], .slice a9 (ps.length + 1) c9, by omega, by omega, by rw [hfst]; exact hp, h12⟩, by omega⟩
    · rw [pcs2_cls0 (by omega) hc] at hp
      have c2 := h5.cl P2
      simp -dsimp -implicitDefEqProofs (disch := omega) only [go_sem, reqD_of, dec_t, dec_f, wrap_i64, wrap_u32, wrap_u64, wrap_u8, hd, e2, e3, e4, c2]
      intro e' hd' ht'
      have hd1 := hd'.trans (show _ = [pcsD P2 P3] by simp -dsimp -implicitDefEqProofs only [go_sem, hd])
      have e21 := (ht' 2 (by kernel_rfl)).trans (show _ = Value.pointer (some ⟨P2, 0, none⟩) by simp -dsimp -implicitDefEqProofs only [go_sem, e2])
      have e31 := (ht' 3 (by kernel_rfl)).trans (show _ = Value.pointer (some ⟨P3, 0, none⟩) by simp -dsimp -implicitDefEqProofs only [go_sem, e3])
      simp -dsimp -implicitDefEqProofs (disch := omega) only [go_sem, reqD_of, dec_t, dec_f, wrap_i64, wrap_u32, wrap_u64, wrap_u8, hd1]
      exact pieces_bad (l := l) e21 e31 (by rw [hpf, hp]) h5.right
  by_cases s4 : (c : Int) = 92
  · simp -dsimp -implicitDefEqProofs (disch := omega) only [go_sem, reqD_of, dec_t, dec_f, wrap_i64, wrap_u32, wrap_u64, wrap_u8, hd, e2, e3, e4, s1, s2, s3, s4]
    refine (next_any h4 (by omega)).mono ?_
    rintro e' w5 (⟨d, l2, hk, hk1, h5, rfl⟩ | ⟨hk, h5, rfl⟩)
    · rw [hk, pcs2_esc (by omega), ← hk1] at hp
      have c2 := h5.cl P2
      have hlt5 : k + 1 < rs.length := by
        rcases Nat.lt_or_ge (k + 1) rs.length with q | q
        · exact q
        · rw [List.drop_of_length_le q] at hk; cases hk
      simp -dsimp -implicitDefEqProofs (disch := omega) only [go_sem, reqD_of, dec_t, dec_f, wrap_i64, wrap_u32, wrap_u64, wrap_u8, hd, e2, e3, e4, s1, s2, s3, s4, c2]
      refine onV_of (v := .agg #[rv d, rv d]) (by kernel_rfl) ?_
      simp -dsimp -implicitDefEqProofs (disch := omega) only [go_sem, reqD_of, dec_t, dec_f, wrap_i64, wrap_u32, wrap_u64, wrap_u8, hd, e2, e3, e4]
      refine h5.lit (t := 60) (cells := [rv d, rv d]) fact_rowTy_60 rfl (by decide) (by decide) fun v6 w6 h6 => ?_
      obtain ⟨a6, c6, rfl, _⟩ := h6.rowForm v6
      have h6 : St w0 (SpR ((false, false, [(d, d)]), Value.slice a6 1 c6) * _) w6 := h6
      simp -dsimp -implicitDefEqProofs (disch := omega) only [go_sem, reqD_of, dec_t, dec_f, wrap_i64, wrap_u32, wrap_u64, wrap_u8, hd, e2, e3, e4]
      refine onV_of (v := .agg #[.bool false, .bool false, .slice a6 1 c6]) (by kernel_rfl) ?_
      simp -dsimp -implicitDefEqProofs (disch := omega) only [go_sem, reqD_of, dec_t, dec_f, wrap_i64, wrap_u32, wrap_u64, wrap_u8, hd, e2, e3, e4]
      refine h6.lit (t := 56) (cells := [.bool false, .bool false, .slice a6 1 c6]) fact_rowTy_56 rfl (by decide) (by decide) fun v8 w8 h8 => ?_
      obtain ⟨a8, c8, rfl, _⟩ := h8.rowForm v8
      simp -dsimp -implicitDefEqProofs (disch := omega) only [go_sem, reqD_of, dec_t, dec_f, wrap_i64, wrap_u32, wrap_u64, wrap_u8, hd, e2, e3, e4]
      refine h8.appR (v := .slice ap ps.length cp) (x := .slice a8 1 c8) fact_rowTy_56 Tryd.underlying56 (fun u hu => by simp at hu; rcases hu with rfl | rfl | rfl <;> rfl) (by simp) (show _ ≤ 9223372036854775807 by omega) (by omega) fun v9 w9 h9 => ?_
      obtain ⟨a9, c9, rfl, _⟩ := h9.rowForm v9
      simp -dsimp -implicitDefEqProofs (disch := omega) only [go_sem, reqD_of, dec_t, dec_f, wrap_i64, wrap_u32, wrap_u64, wrap_u8, hd, e2, e3, e4]
      refine h9.sto (b := P2) (off := 0) (by simp) rfl fun w10 h10 => ?_
      simp only [List.setIfInBounds_toArray, List.set_cons_succ, List.set_cons_zero] at h10
      simp -dsimp -implicitDefEqProofs (disch := omega) only [go_sem, reqD_of, dec_t, dec_f, wrap_i64, wrap_u32, wrap_u64, wrap_u8, hd, e2, e3, e4]
      have el : (ps ++ [((false, false, [(d, d)]), Value.slice a6 1 c6)]).length = ps.length + 1 := by simp
      have em : (ps ++ [((false, false, [(d, d)]), Value.slice a6 1 c6)]).flatMap pcV = ps.flatMap pcV ++ [.bool false, .bool false, .slice a6 1 c6] := by simp
      have h11 := (h10.ac (show _ = RdP R (.slice ar rs.length cr) rs (k + 1 + 1) * (RowO 62 3 (.slice a9 (ps.length + 1) c9) (ps.length + 1) (ps.flatMap pcV ++ [.bool false, .bool false, .slice a6 1 c6]) * (SpR ((false, false, [(d, d)]), Value.slice a6 1 c6) * SpP ps) * (Blk P2 (.cells #[.slice a9 (ps.length + 1) c9] 56 (0, 0)) * (Blk P3 (.cells #[.bool false] 4 (0, 0)) * (A * RowO 62 3 (.slice a8 1 c8) 1 [.bool false, .bool false, .slice a6 1 c6])))) by simp only [RdP, PcsP]; ac_rfl)).ent (Ent.sep (Ent.rfl' _) (Ent.sep (Ent.rfl' _) (Ent.sep (Ent.rfl' _) (Ent.sep (Ent.rfl' _) (Ent.left _ _)))))
      have h12 : St w0 (RdP R (.slice ar rs.length cr) rs (k + 1 + 1) * (PcsP (.slice a9 (ps.length + 1) c9) (ps ++ [((false, false, [(d, d)]), Value.slice a6 1 c6)]) * (Blk P2 (.cells #[.slice a9 (ps.length + 1) c9] 56 (0, 0)) * (Blk P3 (.cells #[.bool false] 4 (0, 0)) * A)))) w10 := by
        show St w0 (RdP R (.slice ar rs.length cr) rs (k + 1 + 1) * ((RowO 62 3 (.slice a9 (ps.length + 1) c9) (ps ++ [((false, false, [(d, d)]), Value.slice a6 1 c6)]).length ((ps ++ [((false, false, [(d, d)]), Value.slice a6 1 c6)]).flatMap pcV) * SpP (ps ++ [((false, false, [(d, d)]), Value.slice a6 1 c6)])) * _)) w10
        rw [el, em, SpP_snoc]
        exact h11
      have m12 := RdP.atOf h12
      have hfst : (ps ++ [((false, false, [(d, d)]), Value.slice a6 1 c6)]).map Prod.fst = ps.map Prod.fst ++ [(false, false, [(d, d)])] := by simp
      simp -dsimp -implicitDefEqProofs (disch := omega) only [go_sem, reqD_of, dec_t, dec_f, wrap_i64, wrap_u32, wrap_u64, wrap_u8, hd, e2, e3, e4, m2, m12]
      exact ⟨⟨(k + 1 + 1), ps ++ [((false, false, [(d, d)]), Value.slice a6 1 c6)], .slice a9 (ps.length + 1) c9, by omega, by omega, by rw [hfst]; exact hp, h12⟩, by omega⟩
    · rw [hk, pcs2_esc0 (by omega)] at hp
      simp -dsimp -implicitDefEqProofs (disch := omega) only [go_sem, reqD_of, dec_t, dec_f, wrap_i64, wrap_u32, wrap_u64, wrap_u8, hd, e2, e3, e4]
      refine pieces_bad (l := l) ?_ ?_ (by rw [hpf, hp]) h5.right <;> simp -dsimp -implicitDefEqProofs only [go_sem, e2, e3]
  · rw [pcs2_lit (by omega) (by omega) (by omega) (by omega)] at hp
    simp -dsimp -implicitDefEqProofs (disch := omega) only [go_sem, reqD_of, dec_t, dec_f, wrap_i64, wrap_u32, wrap_u64, wrap_u8, hd, e2, e3, e4, s1, s2, s3, s4, c2]
    refine onV_of (v := .agg #[rv c, rv c]) (by kernel_rfl) ?_
    simp -dsimp -implicitDefEqProofs (disch := omega) only [go_sem, reqD_of, dec_t, dec_f, wrap_i64, wrap_u32, wrap_u64, wrap_u8, hd, e2, e3, e4]
    refine h4.lit (t := 60) (cells := [rv c, rv c]) fact_rowTy_60 rfl (by decide) (by decide) fun v6 w6 h6 => ?_
    obtain ⟨a6, c6, rfl, _⟩ := h6.rowForm v6
    have h6 : St w0 (SpR ((false, false, [(c, c)]), Value.slice a6 1 c6) * _) w6 := h6
    simp -dsimp -implicitDefEqProofs (disch := omega) only [go_sem, reqD_of, dec_t, dec_f, wrap_i64, wrap_u32, wrap_u64, wrap_u8, hd, e2, e3, e4]
    refine onV_of (v := .agg #[.bool false, .bool false, .slice a6 1 c6]) (by kernel_rfl) ?_
    simp -dsimp -implicitDefEqProofs (disch := omega) only [go_sem, reqD_of, dec_t, dec_f, wrap_i64, wrap_u32, wrap_u64, wrap_u8, hd, e2, e3, e4]
    refine h6.lit (t := 56) (cells := [.bool false, .bool false, .slice a6 1 c6]) fact_rowTy_56 rfl (by decide) (by decide) fun v8 w8 h8 => ?_
    obtain ⟨a8, c8, rfl, _⟩ := h8.rowForm v8
    simp -dsimp -implicitDefEqProofs (disch := omega) only [go_sem, reqD_of, dec_t, dec_f, wrap_i64, wrap_u32, wrap_u64, wrap_u8, hd, e2, e3, e4]
    refine h8.appR (v := .slice ap ps.length cp) (x := .slice a8 1 c8) fact_rowTy_56 Tryd.underlying56 (fun u hu => by simp at hu; rcases hu with rfl | rfl | rfl <;> rfl) (by simp) (show _ ≤ 9223372036854775807 by omega) (by omega) fun v9 w9 h9 => ?_
    obtain ⟨a9, c9, rfl, _⟩ := h9.rowForm v9
    simp -dsimp -implicitDefEqProofs (disch := omega) only [go_sem, reqD_of, dec_t, dec_f, wrap_i64, wrap_u32, wrap_u64, wrap_u8, hd, e2, e3, e4]
    refine h9.sto (b := P2) (off := 0) (by simp) rfl fun w10 h10 => ?_
    simp only [List.setIfInBounds_toArray, List.set_cons_succ, List.set_cons_zero] at h10
    simp -dsimp -implicitDefEqProofs (disch := omega) only [go_sem, reqD_of, dec_t, dec_f, wrap_i64, wrap_u32, wrap_u64, wrap_u8, hd, e2, e3, e4]
    have el : (ps ++ [((false, false, [(c, c)]), Value.slice a6 1 c6)]).length = ps.length + 1 := by simp
    have em : (ps ++ [((false, false, [(c, c)]), Value.slice a6 1 c6)]).flatMap pcV = ps.flatMap pcV ++ [.bool false, .bool false, .slice a6 1 c6] := by simp
    have h11 := (h10.ac (show _ = RdP R (.slice ar rs.length cr) rs (k + 1) * (RowO 62 3 (.slice a9 (ps.length + 1) c9) (ps.length + 1) (ps.flatMap pcV ++ [.bool false, .bool false, .slice a6 1 c6]) * (SpR ((false, false, [(c, c)]), Value.slice a6 1 c6) * SpP ps) * (Blk P2 (.cells #[.slice a9 (ps.length + 1) c9] 56 (0, 0)) * (Blk P3 (.cells #[.bool false] 4 (0, 0)) * (A * RowO 62 3 (.slice a8 1 c8) 1 [.bool false, .bool false, .slice a6 1 c6])))) by simp only [RdP, PcsP]; ac_rfl)).ent (Ent.sep (Ent.rfl' _) (Ent.sep (Ent.rfl' _) (Ent.sep (Ent.rfl' _) (Ent.sep (Ent.rfl' _) (Ent.left _ _)))))
    have h12 : St w0 (RdP R (.slice ar rs.length cr) rs (k + 1) * (PcsP (.slice a9 (ps.length + 1) c9) (ps ++ [((false, false, [(c, c)]), Value.slice a6 1 c6)]) * (Blk P2 (.cells #[.slice a9 (ps.length + 1) c9] 56 (0, 0)) * (Blk P3 (.cells #[.bool false] 4 (0, 0)) * A)))) w10 := by
      show St w0 (RdP R (.slice ar rs.length cr) rs (k + 1) * ((RowO 62 3 (.slice a9 (ps.length + 1) c9) (ps ++ [((false, false, [(c, c)]), Value.slice a6 1 c6)]).length ((ps ++ [((false, false, [(c, c)]), Value.slice a6 1 c6)]).flatMap pcV) * SpP (ps ++ [((false, false, [(c, c)]), Value.slice a6 1 c6)])) * _)) w10
      rw [el, em, SpP_snoc]
      exact h11
    have m12 := RdP.atOf h12
    have hfst : (ps ++ [((false, false, [(c, c)]), Value.slice a6 1 c6)]).map Prod.fst = ps.map Prod.fst ++ [(false, false, [(c, c)])] := by simp
    simp -dsimp -implicitDefEqProofs (disch := omega) only [go_sem, reqD_of, dec_t, dec_f, wrap_i64, wrap_u32, wrap_u64, wrap_u8, hd, e2, e3, e4, m2, m12]
    exact ⟨⟨(k + 1), ps ++ [((false, false, [(c, c)]), Value.slice a6 1 c6)], .slice a9 (ps.length + 1) c9, by omega, by omega, by rw [hfst]; exact hp, h12⟩, by omega⟩

end
section
attribute [local go_sem] F29.t7_eq F29.t15_eq F29.t14_eq F29.t13_eq F29.t16_eq F29.t17_eq F29.t18_eq F29.t19_eq F29.t20_eq F29.t10_eq F29.t21_eq
theorem pieces_any {w0 w : World} {A : HP} (h : St w0 A w) [Gives A Tabs] {l : List UInt8} (hl : l.length ≤ 4294967296) :
    Calls Tryd.prog 29 #[.string (strOf l)] w (PcsR w0 A l) := by
  refine calls_of_cwM (types := Tryd.prog.types) follows Tryd.func29 F29.code rfl (by kernel_rfl) (by show 1 ≤ 71; decide) ?_
  show cwE _ _ (fnM _ #[.cell 2 56, .cell 3 4] _) _ _
  unfold F29.code
  simp -dsimp -implicitDefEqProofs (disch := omega) only [go_sem, reqD_of, dec_t, dec_f, wrap_i64, wrap_u32, wrap_u64, wrap_u8]
  refine h.new fun P2 w1 h1 => ?_
  simp -dsimp -implicitDefEqProofs (disch := omega) only [go_sem, reqD_of, dec_t, dec_f, wrap_i64, wrap_u32, wrap_u64, wrap_u8]
  refine h1.new fun P3 w2 h2 => ?_
  simp -dsimp -implicitDefEqProofs (disch := omega) only [go_sem, reqD_of, dec_t, dec_f, wrap_i64, wrap_u32, wrap_u64, wrap_u8]
  refine defer_of (f := 46) (cap := #[.pointer (some ⟨P2, 0, none⟩), .pointer (some ⟨P3, 0, none⟩)]) (by simp -dsimp -implicitDefEqProofs only [go_sem]) ?_
  simp -dsimp -implicitDefEqProofs (disch := omega) only [go_sem, reqD_of, dec_t, dec_f, wrap_i64, wrap_u32, wrap_u64, wrap_u8]
  have h2 := h2.ac (show _ = Blk P2 (.cells #[.slice none 0 0] 56 (0, 0)) * (Blk P3 (.cells #[.bool false] 4 (0, 0)) * A) by ac_rfl)
  by_cases hbig : (255 : Int) < l.length
  · have hn : piecesF l = none := by rw [piecesF, if_pos (.inl (by omega))]
    simp -dsimp -implicitDefEqProofs (disch := omega) only [go_sem, reqD_of, dec_t, dec_f, wrap_i64, wrap_u32, wrap_u64, wrap_u8, hbig]
    refine h2.sto (b := P2) (off := 0) (by simp) rfl fun w3 h3 => ?_
    simp only [List.setIfInBounds_toArray, List.set_cons_zero] at h3
    simp -dsimp -implicitDefEqProofs (disch := omega) only [go_sem, reqD_of, dec_t, dec_f, wrap_i64, wrap_u32, wrap_u64, wrap_u8]
    refine h3.sto (b := P3) (off := 0) (by simp) rfl fun w4 h4 => ?_
    simp only [List.setIfInBounds_toArray, List.set_cons_zero] at h4
    simp -dsimp -implicitDefEqProofs (disch := omega) only [go_sem, reqD_of, dec_t, dec_f, wrap_i64, wrap_u32, wrap_u64, wrap_u8]
    refine pieces_end (l := l) (by simp -dsimp -implicitDefEqProofs only [go_sem]) (by simp -dsimp -implicitDefEqProofs only [go_sem]) h4 ?_
    exact .inr ⟨hn, h4.right.right, rfl⟩
  simp -dsimp -implicitDefEqProofs (disch := omega) only [go_sem, reqD_of, dec_t, dec_f, wrap_i64, wrap_u32, wrap_u64, wrap_u8, hbig]
  refine (good_any h2 (by omega)).mono ?_
  rintro e w3 ⟨h3, rfl⟩
  cases hg : good l with
  | false =>
    have hn : piecesF l = none := by rw [piecesF, if_pos (.inr hg)]
    simp -dsimp -implicitDefEqProofs (disch := omega) only [go_sem, reqD_of, dec_t, dec_f, wrap_i64, wrap_u32, wrap_u64, wrap_u8, hg]
    refine h3.sto (b := P2) (off := 0) (by simp) rfl fun w3 h3 => ?_
    simp only [List.setIfInBounds_toArray, List.set_cons_zero] at h3
    simp -dsimp -implicitDefEqProofs (disch := omega) only [go_sem, reqD_of, dec_t, dec_f, wrap_i64, wrap_u32, wrap_u64, wrap_u8]
    refine h3.sto (b := P3) (off := 0) (by simp) rfl fun w4 h4 => ?_
    simp only [List.setIfInBounds_toArray, List.set_cons_zero] at h4
    simp -dsimp -implicitDefEqProofs (disch := omega) only [go_sem, reqD_of, dec_t, dec_f, wrap_i64, wrap_u32, wrap_u64, wrap_u8]
    refine pieces_end (l := l) (by simp -dsimp -implicitDefEqProofs only [go_sem]) (by simp -dsimp -implicitDefEqProofs only [go_sem]) h4 ?_
    exact .inr ⟨hn, h4.right.right, rfl⟩
  | true =>
  have hpf : piecesF l = pcs2 [] (runes l) := by rw [piecesF, if_neg (by rw [hg]; simp; omega)]
  simp -dsimp -implicitDefEqProofs (disch := omega) only [go_sem, reqD_of, dec_t, dec_f, wrap_i64, wrap_u32, wrap_u64, wrap_u8, hg, F29.t4_eq]
  refine onV_of (v := .agg #[.slice none 0 0, .int .i64 0]) (by kernel_rfl) ?_
  simp -dsimp -implicitDefEqProofs (disch := omega) only [go_sem, reqD_of, dec_t, dec_f, wrap_i64, wrap_u32, wrap_u64, wrap_u8]
  refine h3.new fun R w4 h4 => ?_
  simp -dsimp -implicitDefEqProofs (disch := omega) only [go_sem, reqD_of, dec_t, dec_f, wrap_i64, wrap_u32, wrap_u64, wrap_u8]
  refine h4.rangeS (by kernel_rfl) fun I w5 h5 => ?_
  simp -dsimp -implicitDefEqProofs (disch := omega) only [go_sem, reqD_of, dec_t, dec_f, wrap_i64, wrap_u32, wrap_u64, wrap_u8]
  have h6 : St w0 (Blk I (.stringIter (strOf l) 0) * (RdP R (.slice none 0 0) [] 0 * (Blk P2 (.cells #[.slice none 0 0] 56 (0, 0)) * (Blk P3 (.cells #[.bool false] 4 (0, 0)) * A)))) w5 := (h5.nilR 21 1).ac (by show _ = Blk I _ * ((Blk R _ * RowO 21 1 (.slice none 0 0) 0 []) * _); ac_rfl)
  refine loop_intro (fun e w' => e.ds = [pcsD P2 P3] ∧ e.ρ 2 = .pointer (some ⟨P2, 0, none⟩) ∧ e.ρ 3 = .pointer (some ⟨P3, 0, none⟩) ∧ e.ρ 4 = .pointer (some ⟨R, 0, none⟩) ∧ e.ρ 20 = .pointer (some ⟨I, 0, none⟩) ∧
      ∃ (pos : Nat) (got : List Nat) (v : Value), pos ≤ l.length ∧ got.length ≤ pos ∧ runes l = got ++ runes (l.drop pos) ∧
        St w0 (Blk I (.stringIter (strOf l) pos) * (RdP R v got 0 * (Blk P2 (.cells #[.slice none 0 0] 56 (0, 0)) * (Blk P3 (.cells #[.bool false] 4 (0, 0)) * A)))) w')
    (fun e w' => match w'.heap[I]? with | some (.stringIter _ p) => l.length - p | _ => 0) ?_ ?_
  · exact ⟨by simp -dsimp -implicitDefEqProofs only [go_sem], by simp -dsimp -implicitDefEqProofs only [go_sem], by simp -dsimp -implicitDefEqProofs only [go_sem], by simp -dsimp -implicitDefEqProofs only [go_sem], by simp -dsimp -implicitDefEqProofs only [go_sem], 0, [], .slice none 0 0, by omega, by simp, rfl, h6⟩
  clear h h1 h2 h3 h4 h5 h6
  rintro e w6 ⟨hd, e2, e3, e4, e20, pos, got, v, hpos, hgl, hrn, h6⟩
  obtain ⟨av, cv, rfl, _⟩ := h6.rowForm v
  simp -dsimp -implicitDefEqProofs (disch := omega) only [go_sem, reqD_of, dec_t, dec_f, wrap_i64, wrap_u32, wrap_u64, wrap_u8, hd, e2, e3, e4, e20]
  refine h6.nextS (fun hn => ?_) fun hm w7 h7 => ?_
  · have hdn : l.drop pos = [] := List.drop_of_length_le (by omega)
    rw [hdn, runes_nil, List.append_nil] at hrn
    have hgr := runes_length l
    rw [hrn] at hpf hgr
    simp -dsimp -implicitDefEqProofs (disch := omega) only [go_sem, reqD_of, dec_t, dec_f, wrap_i64, wrap_u32, wrap_u64, wrap_u8, hd, e2, e3, e4, e20]
    exact pieces_9 (θ := ⟨⟩) (v := .slice av got.length cv) (rs := got) (R := R) (by omega) (by simp -dsimp -implicitDefEqProofs only [go_sem, hd]) (by simp -dsimp -implicitDefEqProofs only [go_sem, e2]) (by simp -dsimp -implicitDefEqProofs only [go_sem, e3]) (by simp -dsimp -implicitDefEqProofs only [go_sem, e4]) hpf h6.right
  · have hne : l.drop pos ≠ [] := fun e => by have := congrArg List.length e; simp at this; omega
    have hw := decL_width _ hne
    have hdl : (l.drop pos).length = l.length - pos := by simp
    rw [runes_cons hne, List.drop_drop] at hrn
    have m6 := h6.blk
    have m7 := h7.blk
    obtain ⟨c, hc⟩ : ∃ c, c = (decL (l.drop pos)).1 := ⟨_, rfl⟩
    rw [← hc] at hrn ⊢
    have c0 := h7.cl R
    simp -dsimp -implicitDefEqProofs (disch := omega) only [go_sem, reqD_of, dec_t, dec_f, wrap_i64, wrap_u32, wrap_u64, wrap_u8, hd, e2, e3, e4, e20, c0]
    refine h7.lit (t := 88) (cells := [rv c]) fact_rowTy_88 rfl (by decide) (by decide) fun v8 w8 h8 => ?_
    obtain ⟨a8, c8, rfl, _⟩ := h8.rowForm v8
    simp -dsimp -implicitDefEqProofs (disch := omega) only [go_sem, reqD_of, dec_t, dec_f, wrap_i64, wrap_u32, wrap_u64, wrap_u8, hd, e2, e3, e4, e20]
    refine h8.appR (v := .slice av got.length cv) (x := .slice a8 1 c8) fact_rowTy_88 Tryd.underlying88 (fun u hu => by simp at hu; subst hu; rfl) (by simp) (show _ ≤ 9223372036854775807 by omega) (by omega) fun v9 w9 h9 => ?_
    obtain ⟨a9, c9, rfl, _⟩ := h9.rowForm v9
    simp -dsimp -implicitDefEqProofs (disch := omega) only [go_sem, reqD_of, dec_t, dec_f, wrap_i64, wrap_u32, wrap_u64, wrap_u8, hd, e2, e3, e4, e20]
    refine h9.sto (b := R) (off := 0) (by simp) rfl fun w10 h10 => ?_
    simp only [List.setIfInBounds_toArray, List.set_cons_zero] at h10
    have h11 := h10.right
    have h12 : St w0 (Blk I (.stringIter (strOf l) (pos + (decL (l.drop pos)).2)) * (RdP R (.slice a9 (got.length + 1) c9) (got ++ [c]) 0 * (Blk P2 (.cells #[.slice none 0 0] 56 (0, 0)) * (Blk P3 (.cells #[.bool false] 4 (0, 0)) * A)))) w10 := by
      simp only [RdP, show (got ++ [c]).length = got.length + 1 by simp, show (got ++ [c]).map rv = got.map rv ++ [rv c] by simp]
      exact h11
    have m12 := h12.blk
    simp -dsimp -implicitDefEqProofs (disch := omega) only [go_sem, reqD_of, dec_t, dec_f, wrap_i64, wrap_u32, wrap_u64, wrap_u8, hd, e2, e3, e4, e20, m6, m12]
    exact ⟨⟨pos + (decL (l.drop pos)).2, got ++ [c], .slice a9 (got.length + 1) c9, by omega, by simp; omega, by rw [hrn]; simp, h12⟩, by omega⟩

end
end Go.Proofs.YtlnlomjdooobdaaDoor

/- names.Words, as a whole. -/
import Derived.Test.YtlnlomjdooobdaaDoorNaG
namespace Go.Proofs.YtlnlomjdooobdaaDoor
open Go
set_option linter.unusedVariables false
set_option linter.unusedSimpArgs false
set_option maxRecDepth 100000

abbrev wdsD (P2 P3 : Nat) : Deferred := { target := .fn (.func 41) #[.pointer (some ⟨P2, 0, none⟩), .pointer (some ⟨P3, 0, none⟩)], args := #[] }
abbrev WdsR (w0 : World) (A : HP) (l : List UInt8) : Ending → World → Prop := fun e w' =>
      (∃ ws v, wordsF l = some ws ∧ St w0 (RowO 9 1 v ws.length (ws.map sv) * A) w' ∧ e = .returned (.tuple #[v, .int .i64 0])) ∨
      (wordsF l = none ∧ St w0 A w' ∧ e = .returned (.tuple #[.slice none 0 0, .int .i64 53]))

theorem quoF_le : ∀ (n : Nat) (b l r : List UInt8) (k : Nat), quoF n b l = some (r, k) → 1 ≤ k ∧ k ≤ l.length
  | 0, _, _, _, _, h => by cases h
  | n + 1, _, [], _, _, h => by cases h
  | n + 1, b, c :: l, r, k, h => by
    unfold quoF at h
    split at h
    · simp only [Option.some.injEq, Prod.mk.injEq] at h
      simp; omega
    · split at h
      · cases he : escF l with
        | none => rw [he] at h; cases h
        | some x =>
          obtain ⟨d, j⟩ := x
          rw [he] at h
          simp only at h
          have hj := escF_k he
          cases hq : quoF n (b ++ [d]) (l.drop j) with
          | none => rw [hq] at h; cases h
          | some y =>
            obtain ⟨y1, y2⟩ := y
            rw [hq] at h
            simp only [Option.map_some, Option.some.injEq, Prod.mk.injEq] at h
            have := quoF_le n _ _ _ _ hq
            simp at this ⊢
            omega
      · cases hq : quoF n (b ++ [c]) l with
        | none => rw [hq] at h; cases h
        | some y =>
          obtain ⟨y1, y2⟩ := y
          rw [hq] at h
          simp only [Option.map_some, Option.some.injEq, Prod.mk.injEq] at h
          have := quoF_le n _ _ _ _ hq
          simp at this ⊢
          omega
theorem quo_le {b l r : List UInt8} {k : Nat} (h : quo b l = some (r, k)) : 1 ≤ k ∧ k ≤ l.length := quoF_le _ _ _ _ _ h

/-- The end, where a quote was wrong. -/
theorem words_bad {w0 w : World} {A : HP} {P2 P3 : Nat} {e : FA} {u x : Value} {l : List UInt8} (e2 : e.ρ 2 = .pointer (some ⟨P2, 0, none⟩)) (e3 : e.ρ 3 = .pointer (some ⟨P3, 0, none⟩)) (hn : wordsF l = none)
    (h : St w0 (Blk P2 (.cells #[u] 24 (0, 0)) * (Blk P3 (.cells #[x] 27 (0, 0)) * A)) w) :
    leaveD Tryd.prog [wdsD P2 P3] (.panicking wordsP) w (endM Tryd.prog #[.cell 2 24, .cell 3 27] e (WdsR w0 A l)) := by
  refine leave1 (by simp) (by kernel_rfl) (CallsDIn.mono' (wordsD_pan h) ?_)
  rintro e' u' w' ⟨rfl, rfl, h'⟩
  show endM _ _ _ _ .returning w'
  have c2 := h'.cl P2
  have c3 := h'.cl P3
  refine resC_CC e2 (run_loadVar_cell fact_aggSz_24 (by rw [c2]; rfl)) e3 (run_loadVar_cell fact_aggSz_27 (by rw [c3]; rfl)) ?_
  exact .inr ⟨hn, h'.right.right, rfl⟩

section
attribute [local go_sem] F23.t15_eq F23.t13_eq F23.t6_eq F23.t7_eq
theorem words_any {w0 w : World} {A : HP} (h : St w0 A w) {l : List UInt8} (hl : l.length ≤ 4294967296) :
    Calls Tryd.prog 23 #[.string (strOf l)] w (WdsR w0 A l) := by
  refine calls_of_cwM (types := Tryd.prog.types) follows Tryd.func23 F23.code rfl (by kernel_rfl) (by show 1 ≤ 54; decide) ?_
  show cwE _ _ (fnM _ #[.cell 2 24, .cell 3 27] _) _ _
  unfold F23.code
  simp -dsimp -implicitDefEqProofs (disch := omega) only [go_sem, reqD_of, dec_t, dec_f, wrap_i64, wrap_u32, wrap_u64, wrap_u8]
  refine h.new fun P2 w1 h1 => ?_
  simp -dsimp -implicitDefEqProofs (disch := omega) only [go_sem, reqD_of, dec_t, dec_f, wrap_i64, wrap_u32, wrap_u64, wrap_u8]
  refine h1.new fun P3 w2 h2 => ?_
  simp -dsimp -implicitDefEqProofs (disch := omega) only [go_sem, reqD_of, dec_t, dec_f, wrap_i64, wrap_u32, wrap_u64, wrap_u8]
  refine defer_of (f := 41) (cap := #[.pointer (some ⟨P2, 0, none⟩), .pointer (some ⟨P3, 0, none⟩)]) (by simp -dsimp -implicitDefEqProofs only [go_sem]) ?_
  simp -dsimp -implicitDefEqProofs (disch := omega) only [go_sem, reqD_of, dec_t, dec_f, wrap_i64, wrap_u32, wrap_u64, wrap_u8]
  refine loop_intro (fun e w' => e.ds = [wdsD P2 P3] ∧ e.ρ 0 = .string (strOf l) ∧ e.ρ 2 = .pointer (some ⟨P2, 0, none⟩) ∧ e.ρ 3 = .pointer (some ⟨P3, 0, none⟩) ∧
      ∃ (i : Nat) (ws : List (List UInt8)) (b : List UInt8) (wi : Bool) (u v : Value), i ≤ l.length ∧ e.ρ 6 = .int .i64 i ∧ e.ρ 5 = .bool wi ∧ e.ρ 4 = u ∧ b.length ≤ i ∧ ws.length ≤ i ∧ wordsF l = wrd ws b wi (l.drop i) ∧
        St w0 (RowO 5 1 u b.length (b.map bv) * (RowO 9 1 v ws.length (ws.map sv) * (Blk P2 (.cells #[v] 24 (0, 0)) * (Blk P3 (.cells #[.int .i64 0] 27 (0, 0)) * A)))) w')
    (fun e _ => match e.ρ 6 with | .int _ n => (l.length - n).toNat | _ => 0) ?_ ?_
  · exact ⟨by simp -dsimp -implicitDefEqProofs only [go_sem], by simp -dsimp -implicitDefEqProofs only [go_sem], by simp -dsimp -implicitDefEqProofs only [go_sem], by simp -dsimp -implicitDefEqProofs only [go_sem], 0, [], [], false, .slice none 0 0, .slice none 0 0, by omega, by simp -dsimp -implicitDefEqProofs only [go_sem], by simp -dsimp -implicitDefEqProofs only [go_sem], by simp -dsimp -implicitDefEqProofs only [go_sem], by simp, by simp, rfl, ((h2.ac (by ac_rfl)).nilR 9 1).nilR 5 1⟩
  clear h h1 h2
  rintro e w3 ⟨hd, e0, e2, e3, i, ws, b, wi, u, v, hi, e6, e5, e4, hbl, hwl, hw, h3⟩
  obtain ⟨au, cu, rfl, _⟩ := h3.rowForm u
  obtain ⟨av, cv, rfl, _⟩ := h3.rowForm v
  have c2 := h3.cl P2
  have c3 := h3.cl P3
  -- the end
  have fin : ∀ (ws' : List (List UInt8)) (av : Option Addr) (cv : Nat) (e' : FA) (w' : World), e'.ds = [wdsD P2 P3] → e'.ρ 2 = .pointer (some ⟨P2, 0, none⟩) → e'.ρ 3 = .pointer (some ⟨P3, 0, none⟩) → wordsF l = some ws' →
      St w0 (RowO 9 1 (.slice av ws'.length cv) ws'.length (ws'.map sv) * (Blk P2 (.cells #[.slice av ws'.length cv] 24 (0, 0)) * (Blk P3 (.cells #[.int .i64 0] 27 (0, 0)) * A))) w' →
      cwE Tryd.prog F23.t23 (fnM Tryd.prog #[.cell 2 24, .cell 3 27] (WdsR w0 A l)) e' w' := by
    intro ws' av cv e' w' hd e2 e3 hw h'
    have c2 := h'.cl P2
    rw [F23.t23_eq]
    simp -dsimp -implicitDefEqProofs (disch := omega) only [go_sem, reqD_of, dec_t, dec_f, wrap_i64, wrap_u32, wrap_u64, wrap_u8, hd, e2, e3, c2]
    refine h'.sto (b := P2) (off := 0) (by simp) rfl fun w5 h5 => ?_
    simp only [List.setIfInBounds_toArray, List.set_cons_zero] at h5
    simp -dsimp -implicitDefEqProofs (disch := omega) only [go_sem, reqD_of, dec_t, dec_f, wrap_i64, wrap_u32, wrap_u64, wrap_u8, hd, e2, e3, c2]
    refine h5.sto (b := P3) (off := 0) (by simp) rfl fun w6 h6 => ?_
    simp only [List.setIfInBounds_toArray, List.set_cons_zero] at h6
    simp -dsimp -implicitDefEqProofs (disch := omega) only [go_sem, reqD_of, dec_t, dec_f, wrap_i64, wrap_u32, wrap_u64, wrap_u8, hd, e2, e3, c2]
    refine leave1 (by simp) (by kernel_rfl) (CallsDIn.mono' wordsD_ret ?_)
    rintro e'' u' w'' ⟨rfl, rfl, rfl⟩
    show endM _ _ _ _ .returning w''
    have c2 := h6.cl P2
    have c3 := h6.cl P3
    refine resC_CC (a := ⟨P2, 0, none⟩) (b := ⟨P3, 0, none⟩) (by simp -dsimp -implicitDefEqProofs only [go_sem, e2]) (run_loadVar_cell fact_aggSz_24 (by rw [c2]; rfl)) (by simp -dsimp -implicitDefEqProofs only [go_sem, e3]) (run_loadVar_cell fact_aggSz_27 (by rw [c3]; rfl)) ?_
    exact .inl ⟨ws', .slice av ws'.length cv, hw, h6.sub, rfl⟩
  by_cases hlt : (i : Int) < (l.length : Int)
  case neg =>
    have hdn : l.drop i = [] := List.drop_of_length_le (by omega)
    rw [hdn, wrd_nil] at hw
    simp -dsimp -implicitDefEqProofs (disch := omega) only [go_sem, reqD_of, dec_t, dec_f, wrap_i64, wrap_u32, wrap_u64, wrap_u8, hd, e0, e2, e3, e4, e5, e6, hlt]
    rw [F23.t21_eq]
    cases wi with
    | false =>
      simp only [Bool.false_eq_true, if_false] at hw
      simp -dsimp -implicitDefEqProofs (disch := omega) only [go_sem, reqD_of, dec_t, dec_f, wrap_i64, wrap_u32, wrap_u64, wrap_u8, hd, e0, e2, e3, e4, e5, e6]
      refine fin ws av cv _ _ ?_ ?_ ?_ hw h3.right <;> simp -dsimp -implicitDefEqProofs only [go_sem, hd, e2, e3]
    | true =>
      simp only [if_true] at hw
      simp -dsimp -implicitDefEqProofs (disch := omega) only [go_sem, reqD_of, dec_t, dec_f, wrap_i64, wrap_u32, wrap_u64, wrap_u8, hd, e0, e2, e3, e4, e5, e6, c2]
      refine h3.str (src := 70) (e := 5) (dst := 9) (bs := b) ?_ Tryd.underlying70 Tryd.underlying5 Tryd.underlying9 ?_
      · exact (Ent.left _ _).trans (RowO.reads _ _ _ _ _)
      simp -dsimp -implicitDefEqProofs (disch := omega) only [go_sem, reqD_of, dec_t, dec_f, wrap_i64, wrap_u32, wrap_u64, wrap_u8, hd, e0, e2, e3, e4, e5, e6]
      refine h3.lit (t := 24) (cells := [sv b]) fact_rowTy_24 rfl (by decide) (by decide) fun v8 w8 h8 => ?_
      obtain ⟨a8, c8, rfl, _⟩ := h8.rowForm v8
      simp -dsimp -implicitDefEqProofs (disch := omega) only [go_sem, reqD_of, dec_t, dec_f, wrap_i64, wrap_u32, wrap_u64, wrap_u8, hd, e0, e2, e3, e4, e5, e6]
      refine h8.appR (v := .slice av ws.length cv) (x := .slice a8 1 c8) fact_rowTy_24 Tryd.underlying24 (fun u hu => by simp at hu; subst hu; rfl) (by simp) (show _ ≤ 9223372036854775807 by omega) (by omega) fun v9 w9 h9 => ?_
      obtain ⟨a9, c9, rfl, _⟩ := h9.rowForm v9
      simp -dsimp -implicitDefEqProofs (disch := omega) only [go_sem, reqD_of, dec_t, dec_f, wrap_i64, wrap_u32, wrap_u64, wrap_u8, hd, e0, e2, e3, e4, e5, e6]
      refine h9.sto (b := P2) (off := 0) (by simp) rfl fun w10 h10 => ?_
      simp only [List.setIfInBounds_toArray, List.set_cons_zero] at h10
      have el : (ws ++ [b]).length = ws.length + 1 := by simp
      have em : (ws ++ [b]).map sv = ws.map sv ++ [sv b] := by simp
      simp -dsimp -implicitDefEqProofs (disch := omega) only [go_sem, reqD_of, dec_t, dec_f, wrap_i64, wrap_u32, wrap_u64, wrap_u8, hd, e0, e2, e3, e4, e5, e6]
      have h11 : St w0 (RowO 9 1 (.slice a9 (ws ++ [b]).length c9) (ws ++ [b]).length ((ws ++ [b]).map sv) * (Blk P2 (.cells #[.slice a9 (ws ++ [b]).length c9] 24 (0, 0)) * (Blk P3 (.cells #[.int .i64 0] 27 (0, 0)) * A))) w10 := by rw [el, em]; exact h10.sub
      refine fin (ws ++ [b]) a9 c9 _ _ ?_ ?_ ?_ hw h11 <;> simp -dsimp -implicitDefEqProofs only [go_sem, hd, e2, e3]
  have hlt' : i < l.length := by omega
  have hdr : l.drop i = l[i] :: l.drop (i + 1) := List.drop_eq_getElem_cons hlt'
  have hgd : l.getD i 0 = l[i] := by simp [hlt']
  obtain ⟨c, hc⟩ : ∃ c, c = l[i] := ⟨_, rfl⟩
  rw [← hc] at hdr hgd
  rw [hdr] at hw
  obtain ⟨n, hn⟩ : ∃ n, n = c.toNat := ⟨_, rfl⟩
  by_cases s1 : (n : Int) = 32
  · rw [wrd_gap (.inl (by omega))] at hw
    cases wi with
    | false =>
      simp only [Bool.false_eq_true, if_false] at hw
      simp -dsimp -implicitDefEqProofs (disch := omega) only [go_sem, reqD_of, dec_t, dec_f, wrap_i64, wrap_u32, wrap_u64, wrap_u8, hd, e0, e2, e3, e4, e5, e6, hlt, hgd, ← hn, s1]
      have h11 : St w0 (RowO 5 1 (.slice none 0 0) ([] : List UInt8).length (([] : List UInt8).map bv) * (RowO 9 1 (.slice av ws.length cv) ws.length (ws.map sv) * (Blk P2 (.cells #[.slice av ws.length cv] 24 (0, 0)) * (Blk P3 (.cells #[.int .i64 0] 27 (0, 0)) * A)))) w3 := St.nilR (by exact h3.sub) 5 1
      exact ⟨⟨i + 1, ws, [], false, .slice none 0 0, .slice av ws.length cv, by omega, by omega, rfl, (by first | rfl | exact ⟨rfl, rfl, rfl⟩), by simp, by omega, hw, h11⟩, by omega⟩
    | true =>
      simp only [if_true] at hw
      simp -dsimp -implicitDefEqProofs (disch := omega) only [go_sem, reqD_of, dec_t, dec_f, wrap_i64, wrap_u32, wrap_u64, wrap_u8, hd, e0, e2, e3, e4, e5, e6, hlt, hgd, ← hn, s1, c2]
      refine h3.str (src := 70) (e := 5) (dst := 9) (bs := b) ?_ Tryd.underlying70 Tryd.underlying5 Tryd.underlying9 ?_
      · exact (Ent.left _ _).trans (RowO.reads _ _ _ _ _)
      simp -dsimp -implicitDefEqProofs (disch := omega) only [go_sem, reqD_of, dec_t, dec_f, wrap_i64, wrap_u32, wrap_u64, wrap_u8, hd, e0, e2, e3, e4, e5, e6]
      refine h3.lit (t := 24) (cells := [sv b]) fact_rowTy_24 rfl (by decide) (by decide) fun v8 w8 h8 => ?_
      obtain ⟨a8, c8, rfl, _⟩ := h8.rowForm v8
      simp -dsimp -implicitDefEqProofs (disch := omega) only [go_sem, reqD_of, dec_t, dec_f, wrap_i64, wrap_u32, wrap_u64, wrap_u8, hd, e0, e2, e3, e4, e5, e6]
      refine h8.appR (v := .slice av ws.length cv) (x := .slice a8 1 c8) fact_rowTy_24 Tryd.underlying24 (fun u hu => by simp at hu; subst hu; rfl) (by simp) (show _ ≤ 9223372036854775807 by omega) (by omega) fun v9 w9 h9 => ?_
      obtain ⟨a9, c9, rfl, _⟩ := h9.rowForm v9
      simp -dsimp -implicitDefEqProofs (disch := omega) only [go_sem, reqD_of, dec_t, dec_f, wrap_i64, wrap_u32, wrap_u64, wrap_u8, hd, e0, e2, e3, e4, e5, e6]
      refine h9.sto (b := P2) (off := 0) (by simp) rfl fun w10 h10 => ?_
      simp only [List.setIfInBounds_toArray, List.set_cons_zero] at h10
      have el : (ws ++ [b]).length = ws.length + 1 := by simp
      have em : (ws ++ [b]).map sv = ws.map sv ++ [sv b] := by simp
      simp -dsimp -implicitDefEqProofs (disch := omega) only [go_sem, reqD_of, dec_t, dec_f, wrap_i64, wrap_u32, wrap_u64, wrap_u8, hd, e0, e2, e3, e4, e5, e6]
      have h11 : St w0 (RowO 5 1 (.slice none 0 0) ([] : List UInt8).length (([] : List UInt8).map bv) * (RowO 9 1 (.slice a9 (ws ++ [b]).length c9) (ws ++ [b]).length ((ws ++ [b]).map sv) * (Blk P2 (.cells #[.slice a9 (ws ++ [b]).length c9] 24 (0, 0)) * (Blk P3 (.cells #[.int .i64 0] 27 (0, 0)) * A)))) w10 := St.nilR (by rw [el, em]; exact h10.sub) 5 1
      exact ⟨⟨i + 1, (ws ++ [b]), [], false, .slice none 0 0, .slice a9 (ws ++ [b]).length c9, by omega, by omega, rfl, (by first | rfl | exact ⟨rfl, rfl, rfl⟩), by simp, by simp; omega, hw, h11⟩, by omega⟩
  by_cases s2 : (n : Int) = 9
  · rw [wrd_gap (.inr (by omega))] at hw
    cases wi with
    | false =>
      simp only [Bool.false_eq_true, if_false] at hw
      simp -dsimp -implicitDefEqProofs (disch := omega) only [go_sem, reqD_of, dec_t, dec_f, wrap_i64, wrap_u32, wrap_u64, wrap_u8, hd, e0, e2, e3, e4, e5, e6, hlt, hgd, ← hn, s1, s2]
      have h11 : St w0 (RowO 5 1 (.slice none 0 0) ([] : List UInt8).length (([] : List UInt8).map bv) * (RowO 9 1 (.slice av ws.length cv) ws.length (ws.map sv) * (Blk P2 (.cells #[.slice av ws.length cv] 24 (0, 0)) * (Blk P3 (.cells #[.int .i64 0] 27 (0, 0)) * A)))) w3 := St.nilR (by exact h3.sub) 5 1
      exact ⟨⟨i + 1, ws, [], false, .slice none 0 0, .slice av ws.length cv, by omega, by omega, rfl, (by first | rfl | exact ⟨rfl, rfl, rfl⟩), by simp, by omega, hw, h11⟩, by omega⟩
    | true =>
      simp only [if_true] at hw
      simp -dsimp -implicitDefEqProofs (disch := omega) only [go_sem, reqD_of, dec_t, dec_f, wrap_i64, wrap_u32, wrap_u64, wrap_u8, hd, e0, e2, e3, e4, e5, e6, hlt, hgd, ← hn, s1, s2, c2]
      refine h3.str (src := 70) (e := 5) (dst := 9) (bs := b) ?_ Tryd.underlying70 Tryd.underlying5 Tryd.underlying9 ?_
      · exact (Ent.left _ _).trans (RowO.reads _ _ _ _ _)
      simp -dsimp -implicitDefEqProofs (disch := omega) only [go_sem, reqD_of, dec_t, dec_f, wrap_i64, wrap_u32, wrap_u64, wrap_u8, hd, e0, e2, e3, e4, e5, e6]
      refine h3.lit (t := 24) (cells := [sv b]) fact_rowTy_24 rfl (by decide) (by decide) fun v8 w8 h8 => ?_
      obtain ⟨a8, c8, rfl, _⟩ := h8.rowForm v8
      simp -dsimp -implicitDefEqProofs (disch := omega) only [go_sem, reqD_of, dec_t, dec_f, wrap_i64, wrap_u32, wrap_u64, wrap_u8, hd, e0, e2, e3, e4, e5, e6]
      refine h8.appR (v := .slice av ws.length cv) (x := .slice a8 1 c8) fact_rowTy_24 Tryd.underlying24 (fun u hu => by simp at hu; subst hu; rfl) (by simp) (show _ ≤ 9223372036854775807 by omega) (by omega) fun v9 w9 h9 => ?_
      obtain ⟨a9, c9, rfl, _⟩ := h9.rowForm v9
      simp -dsimp -implicitDefEqProofs (disch := omega) only [go_sem, reqD_of, dec_t, dec_f, wrap_i64, wrap_u32, wrap_u64, wrap_u8, hd, e0, e2, e3, e4, e5, e6]
      refine h9.sto (b := P2) (off := 0) (by simp) rfl fun w10 h10 => ?_
      simp only [List.setIfInBounds_toArray, List.set_cons_zero] at h10
      have el : (ws ++ [b]).length = ws.length + 1 := by simp
      have em : (ws ++ [b]).map sv = ws.map sv ++ [sv b] := by simp
      simp -dsimp -implicitDefEqProofs (disch := omega) only [go_sem, reqD_of, dec_t, dec_f, wrap_i64, wrap_u32, wrap_u64, wrap_u8, hd, e0, e2, e3, e4, e5, e6]
      have h11 : St w0 (RowO 5 1 (.slice none 0 0) ([] : List UInt8).length (([] : List UInt8).map bv) * (RowO 9 1 (.slice a9 (ws ++ [b]).length c9) (ws ++ [b]).length ((ws ++ [b]).map sv) * (Blk P2 (.cells #[.slice a9 (ws ++ [b]).length c9] 24 (0, 0)) * (Blk P3 (.cells #[.int .i64 0] 27 (0, 0)) * A)))) w10 := St.nilR (by rw [el, em]; exact h10.sub) 5 1
      exact ⟨⟨i + 1, (ws ++ [b]), [], false, .slice none 0 0, .slice a9 (ws ++ [b]).length c9, by omega, by omega, rfl, (by first | rfl | exact ⟨rfl, rfl, rfl⟩), by simp, by simp; omega, hw, h11⟩, by omega⟩
  by_cases s3 : (n : Int) = 39
  · simp -dsimp -implicitDefEqProofs (disch := omega) only [go_sem, reqD_of, dec_t, dec_f, wrap_i64, wrap_u32, wrap_u64, wrap_u8, hd, e0, e2, e3, e4, e5, e6, hlt, hgd, ← hn, s1, s2, s3]
    have hdl : (l.drop i).length = l.length - i := by simp
    have hd1 : (l.drop i).drop 1 = l.drop (i + 1) := by rw [List.drop_drop]
    refine (quotes_any (b := b) (l := l.drop i) h3 (by omega) (by omega)).mono ?_
    rw [hd1]
    rintro e' w4 (⟨r, k, u', hq, hr, hk, h4, rfl⟩ | ⟨hq, h4, rfl⟩)
    · rw [wrd_quo (by omega) hq, List.drop_drop] at hw
      obtain ⟨a4, c4, rfl, _⟩ := h4.rowForm u'
      rw [hdl] at hk
      have hkk := quo_le hq
      have hl1 : (l.drop (i + 1)).length = l.length - (i + 1) := by simp
      have hk1 : (i : Int) + (((k + 1 : Nat) : Int) - 1) = ((i + k : Nat) : Int) := by omega
      simp -dsimp -implicitDefEqProofs (disch := omega) only [go_sem, reqD_of, dec_t, dec_f, wrap_i64, wrap_u32, wrap_u64, wrap_u8, hd, e0, e2, e3, e4, e5, e6]
      exact ⟨⟨i + 1 + k, ws, r, true, .slice a4 r.length c4, .slice av ws.length cv, by omega, by omega, rfl, (by first | rfl | exact ⟨rfl, rfl, rfl⟩), by omega, by omega, hw, h4⟩, by omega⟩
    · rw [wrd_bad (by omega) hq] at hw
      simp -dsimp -implicitDefEqProofs (disch := omega) only [go_sem, reqD_of, dec_t, dec_f, wrap_i64, wrap_u32, wrap_u64, wrap_u8, hd, e0, e2, e3, e4, e5, e6]
      refine words_bad ?_ ?_ hw h4.right <;> simp -dsimp -implicitDefEqProofs only [go_sem, e2, e3]
  · rw [wrd_plain (by omega) (by omega)] at hw
    simp -dsimp -implicitDefEqProofs (disch := omega) only [go_sem, reqD_of, dec_t, dec_f, wrap_i64, wrap_u32, wrap_u64, wrap_u8, hd, e0, e2, e3, e4, e5, e6, hlt, hgd, ← hn, s1, s2, s3]
    refine h3.lit (t := 70) (cells := [.int .u8 (n : Int)]) fact_rowTy_70 rfl (by decide) (by decide) fun v8 w8 h8 => ?_
    obtain ⟨a8, c8, rfl, _⟩ := h8.rowForm v8
    simp -dsimp -implicitDefEqProofs (disch := omega) only [go_sem, reqD_of, dec_t, dec_f, wrap_i64, wrap_u32, wrap_u64, wrap_u8, hd, e0, e2, e3, e4, e5, e6]
    refine h8.appR (v := .slice au b.length cu) (x := .slice a8 1 c8) fact_rowTy_70 Tryd.underlying70 (fun u hu => by simp at hu; subst hu; rfl) (by simp) (show _ ≤ 9223372036854775807 by omega) (by omega) fun v9 w9 h9 => ?_
    obtain ⟨a9, c9, rfl, _⟩ := h9.rowForm v9
    simp -dsimp -implicitDefEqProofs (disch := omega) only [go_sem, reqD_of, dec_t, dec_f, wrap_i64, wrap_u32, wrap_u64, wrap_u8, hd, e0, e2, e3, e4, e5, e6]
    have h11 : St w0 (RowO 5 1 (.slice a9 (b.length + 1) c9) (b ++ [c]).length ((b ++ [c]).map bv) * (RowO 9 1 (.slice av ws.length cv) ws.length (ws.map sv) * (Blk P2 (.cells #[.slice av ws.length cv] 24 (0, 0)) * (Blk P3 (.cells #[.int .i64 0] 27 (0, 0)) * A)))) w9 := by
      rw [show (b ++ [c]).length = b.length + 1 by simp, show (b ++ [c]).map bv = b.map bv ++ [.int .u8 (n : Int)] by rw [hn]; simp; rfl]; exact h9.sub
    exact ⟨⟨i + 1, ws, b ++ [c], true, .slice a9 (b.length + 1) c9, .slice av ws.length cv, by omega, by omega, rfl, (by first | rfl | exact ⟨rfl, rfl, rfl⟩), by simp; omega, by omega, hw, h11⟩, by omega⟩

end
end Go.Proofs.YtlnlomjdooobdaaDoor

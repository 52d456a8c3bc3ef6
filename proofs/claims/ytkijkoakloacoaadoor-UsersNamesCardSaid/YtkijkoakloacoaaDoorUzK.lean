/- users.Parse: how it ends, behind the last line. -/
import Derived.Test.YtkijkoakloacoaaDoorUzJ
namespace Go.Proofs.YtkijkoakloacoaaDoor
open Go
set_option linter.unusedVariables false
set_option linter.unusedSimpArgs false
set_option maxRecDepth 100000

abbrev nV (n : Nat) : Value := .int .i64 (n : Nat)
abbrev NumR (v : Value) (P : List Nat) : HP := RowO 3 1 v P.length (P.map nV)
/-- What a table has, when it is whole. -/
structure UT where
  vl : Value
  mi : Nat
  inl : InL
  L : List AV
  B : HP
abbrev TabW (T m : Nat) (x : UT) : HP := TabQ T m x.vl (.map (some x.mi)) x.L * (MapP encPr x.mi x.inl * x.B)
theorem TabW.of {w0 w : World} {X Y A : HP} {T m : Nat} {x : UT} (h : St w0 (TabQ T m x.vl (.map (some x.mi)) x.L * (MapP encPr x.mi x.inl * (X * (Y * (x.B * A))))) w) : St w0 (X * (Y * (TabW T m x * A))) w := h.ac (by unfold TabW TabQ; ac_rfl)
structure UT.Ok (x : UT) : Prop where
  ms : MsOk x.B x.L
  inl : InOk (accs x.L) x.inl
abbrev cellI (b : Nat) (n : Nat) : HP := Blk b (.cells #[nV n] 3 (0, 0))
abbrev cellT (b T : Nat) : HP := Blk b (.cells #[.pointer (some ⟨T, 0, none⟩)] 28 (0, 0))
/-- How Parse's function ends. -/
def ParseR (w0 : World) (C1 C2 T m : Nat) (A : HP) (r : Except (Nat × Nat) (List Acc)) (e : Ending) (w' : World) : Prop :=
  (e = .returned (.tuple #[]) ∧ ∃ x : UT, (r = .ok (accs x.L) ∧ x.Ok) ∧ St w0 (cellI C1 0 * (cellT C2 T * (TabW T m x * A))) w') ∨
  (∃ k n : Nat, e = .panicked (trouble k) ∧ r = .error (k, n) ∧ St w0 (cellI C1 n * A) w')

section
attribute [local go_sem] F42.t5_eq F42.t11_eq F42.t2_eq F42.t17_eq F42.t14_eq F42.t18_eq F42.t12_eq
theorem parse_end {w0 w : World} {A A' B : HP} (he : Ent A A') {C1 C2 C3 T m n : Nat} {vl vp : Value} {L : List AV} {P : List Nat} {e : FA} (hd : e.ds = []) (e1 : e.ρ 1 = .pointer (some ⟨C1, 0, none⟩)) (e2 : e.ρ 2 = .pointer (some ⟨C2, 0, none⟩)) (e3 : e.ρ 3 = .pointer (some ⟨C3, 0, none⟩))
    (hm : MsOk B L) (hP : P.length = L.length) (hn : L.length ≤ 16777216) (hl : (textF (accs L)).length ≤ 1099511627776)
    (h : St w0 (cellI C1 n * (cellT C2 T * (Blk C3 (.cells #[vp] 61 (0, 0)) * (NumR vp P * (TabQ T m vl (.map none) L * (B * A)))))) w) :
    cwE Tryd.prog F42.t12 (fnP Tryd.prog #[] (ParseR w0 C1 C2 T m A' (endF (accs L) P))) e w := by
  rw [F42.t12_eq]
  obtain ⟨av, cv, rfl, _⟩ := h.rowForm vl
  obtain ⟨ap, cp, rfl, _⟩ := h.rowForm vp
  simp -dsimp -implicitDefEqProofs (disch := omega) only [go_sem, reqD_of, dec_t, dec_f, wrap_i64, wrap_u32, wrap_u64, wrap_u8, hd, e1, e2, e3, h.cl C2, h.cl T]
  refine loop_intro (fun e w' => e.ds = [] ∧ e.ρ 1 = .pointer (some ⟨C1, 0, none⟩) ∧ e.ρ 2 = .pointer (some ⟨C2, 0, none⟩) ∧ e.ρ 3 = .pointer (some ⟨C3, 0, none⟩) ∧ e.ρ 56 = .slice av L.length cv ∧ e.ρ 57 = .int .i64 L.length ∧
      ∃ i n : Nat, i ≤ L.length ∧ e.ρ 58 = .int .i64 i ∧ checkF (accs L) ((accs L).zip P) = checkF (accs L) (((accs L).zip P).drop i) ∧
        St w0 (cellI C1 n * (cellT C2 T * (Blk C3 (.cells #[.slice ap P.length cp] 61 (0, 0)) * (NumR (.slice ap P.length cp) P * (TabQ T m (.slice av L.length cv) (.map none) L * (B * A)))))) w')
    (fun e _ => match e.ρ 58 with | .int _ n => (L.length - n).toNat | _ => 0) ?_ ?_
  · exact ⟨by simp -dsimp -implicitDefEqProofs only [go_sem, hd], by simp -dsimp -implicitDefEqProofs only [go_sem, e1], by simp -dsimp -implicitDefEqProofs only [go_sem, e2], by simp -dsimp -implicitDefEqProofs only [go_sem, e3], by simp -dsimp -implicitDefEqProofs only [go_sem], by simp -dsimp -implicitDefEqProofs only [go_sem], 0, n, by omega, by simp -dsimp -implicitDefEqProofs only [go_sem], rfl, h⟩
  clear h hd e1 e2 e3 e w n
  rintro e w ⟨hd, e1, e2, e3, e56, e57, i, n, hi, e58, hk, h⟩
  by_cases hlt : (i : Int) < (L.length : Int)
  case neg =>
    have hz : ((accs L).zip P).drop i = [] := List.drop_of_length_le (by simp; omega)
    rw [hz] at hk
    have hend : endF (accs L) P = if joinF (accs L) then .ok (accs L) else .error (1, 0) := by
      unfold endF; rw [hk]; rfl
    rw [hend]
    simp -dsimp -implicitDefEqProofs (disch := omega) only [go_sem, reqD_of, dec_t, dec_f, wrap_i64, wrap_u32, wrap_u64, wrap_u8, hd, e1, e2, e3, e56, e57, e58, hlt]
    refine h.sto (b := C1) (off := 0) (by simp) rfl fun w1 h1 => ?_
    simp only [List.setIfInBounds_toArray, List.set_cons_zero] at h1
    simp -dsimp -implicitDefEqProofs (disch := omega) only [go_sem, reqD_of, dec_t, dec_f, wrap_i64, wrap_u32, wrap_u64, wrap_u8, hd, e1, e2, e3, h1.cl C2]
    refine (join_any (T := T) (m := m) (A := cellI C1 0 * (cellT C2 T * (B * A))) (vl := .slice av L.length cv) (vi := .map none) (L := L) h1.sub (hm.weak (inferInstance : Gives (cellI C1 0 * (cellT C2 T * (B * A))) B).ent) (by omega) (by omega)).mono ?_
    rintro e' w2 (⟨hj, ⟨mi, inl, hin, h2⟩, rfl⟩ | ⟨hj, h2, rfl⟩)
    · rw [hj, if_pos rfl]
      simp -dsimp -implicitDefEqProofs (disch := omega) only [go_sem, reqD_of, dec_t, dec_f, wrap_i64, wrap_u32, wrap_u64, wrap_u8, hd]
      exact .inl ⟨rfl, ⟨.slice av L.length cv, mi, inl, L, B⟩, ⟨rfl, hm, hin⟩, (TabW.of (x := ⟨.slice av L.length cv, mi, inl, L, B⟩) h2).ent (Ent.sep (Ent.rfl' _) (Ent.sep (Ent.rfl' _) (Ent.sep (Ent.rfl' _) he)))⟩
    · rw [hj]
      simp -dsimp -implicitDefEqProofs (disch := omega) only [go_sem, reqD_of, dec_t, dec_f, wrap_i64, wrap_u32, wrap_u64, wrap_u8, hd]
      exact .inr ⟨1, 0, rfl, rfl, (show St w0 (cellI C1 0 * A) _ from h2.sub).ent (Ent.sep (Ent.rfl' _) he)⟩
  have hlt' : i < L.length := by omega
  obtain ⟨_, a', c', hv', _, hrow⟩ := St.rowsAt accC_len (by decide) (h.gives (B := Reads 4 (.slice av L.length cv) L.length (L.flatMap accC)))
  simp only [Value.slice.injEq, true_and] at hv'
  obtain ⟨rfl, rfl⟩ := hv'
  obtain ⟨b, o, rfl, hr, _⟩ := hrow i hlt'
  obtain ⟨bp, op, rfl, _⟩ := h.atS (a := ap) (n := P.length) (c := cp) (xs := P.map nV) (k := i) (by simp; omega)
  have hx := hm _ (List.getElem_mem hlt')
  have hzd : ((accs L).zip P).drop i = (L[i].1, P[i]'(by omega)) :: ((accs L).zip P).drop (i + 1) := by
    rw [List.drop_eq_getElem_cons (by simp; omega)]; simp
  rw [hzd] at hk
  obtain ⟨x, hxe⟩ : ∃ x, x = L[i] := ⟨_, rfl⟩
  obtain ⟨p, hp⟩ : ∃ p, p = P[i]'(by omega) := ⟨_, rfl⟩
  rw [← hxe] at hr hx hk
  rw [← hp] at hk
  obtain ⟨a, v⟩ := x
  obtain ⟨hx1, hx2, hx3⟩ := hx
  simp only at hx1 hx2 hx3 hk
  obtain ⟨cm, am, rfl⟩ : ∃ c x, v = .slice x a.members.length c := by
    obtain ⟨x, c, e, hc, _⟩ := h.right.right.right.right.right.left.texts hx1
    exact ⟨c, x, e⟩
  simp -dsimp -implicitDefEqProofs (disch := omega) only [go_sem, reqD_of, dec_t, dec_f, wrap_i64, wrap_u32, wrap_u64, wrap_u8, hd, e1, e2, e3, e56, e57, e58, hlt, hr]
  refine h.new fun Q w1 h1 => ?_
  simp -dsimp -implicitDefEqProofs (disch := omega) only [go_sem, reqD_of, dec_t, dec_f, wrap_i64, wrap_u32, wrap_u64, wrap_u8, hd, e1, e2, e3]
  refine h1.stoAll (b := Q) (n := 4) (cs := accL a (.slice am a.members.length cm)) rfl rfl (fun v hv => by simp at hv; rcases hv with rfl | rfl | rfl | rfl <;> rfl) fun w2 h2 => ?_
  have hcp := h2.atG (g := bp) (o := op) (n := P.length) (c := cp) (xs := P.map nV) (k := i) (by simp; omega)
  rw [List.getElem_map, ← hp] at hcp
  simp -dsimp -implicitDefEqProofs (disch := omega) only [go_sem, reqD_of, dec_t, dec_f, wrap_i64, wrap_u32, wrap_u64, wrap_u8, hd, e1, e2, e3, e58, h2.cl C3, hcp]
  refine h2.sto (b := C1) (off := 0) (by simp) rfl fun w3 h3 => ?_
  simp only [List.setIfInBounds_toArray, List.set_cons_zero] at h3
  simp -dsimp -implicitDefEqProofs (disch := omega) only [go_sem, reqD_of, dec_t, dec_f, wrap_i64, wrap_u32, wrap_u64, wrap_u8, hd, e1, e2, e3, h3.cl C2, h3.rowH Q 4 rfl]
  have g3 : Gives (cellI C1 p * (cellT C2 T * (Blk C3 (.cells #[.slice (some ⟨bp, op, none⟩) P.length cp] 61 (0, 0)) * (NumR (.slice (some ⟨bp, op, none⟩) P.length cp) P * (B * A))))) B := inferInstance
  refine (named_any (T := T) (m := m) (A := cellI C1 p * (cellT C2 T * (Blk C3 (.cells #[.slice (some ⟨bp, op, none⟩) P.length cp] 61 (0, 0)) * (NumR (.slice (some ⟨bp, op, none⟩) P.length cp) P * (B * A))))) (vl := .slice (some ⟨b, o, none⟩) L.length cv) (vi := .map none) (L := L) h3.sub (g3.ent.trans hx1) hx2).mono ?_
  rintro e' w4 ⟨h4, ⟨hy, rfl⟩ | ⟨hy, rfl⟩⟩
  · rw [checkF, if_pos hy] at hk
    simp -dsimp -implicitDefEqProofs (disch := omega) only [go_sem, reqD_of, dec_t, dec_f, wrap_i64, wrap_u32, wrap_u64, wrap_u8, hd, e1, e2, e3, e56, e57, e58]
    exact ⟨⟨i + 1, p, by omega, by omega, hk, h4.sub⟩, by omega⟩
  · rw [checkF, if_neg (by rw [hy]; simp)] at hk
    have hend : endF (accs L) P = .error (62, p) := by unfold endF; rw [hk]
    simp -dsimp -implicitDefEqProofs (disch := omega) only [go_sem, reqD_of, dec_t, dec_f, wrap_i64, wrap_u32, wrap_u64, wrap_u8, hd]
    exact .inr ⟨62, p, rfl, hend, (show St w0 (cellI C1 p * A) _ from h4.sub).ent (Ent.sep (Ent.rfl' _) he)⟩
end
end Go.Proofs.YtkijkoakloacoaaDoor

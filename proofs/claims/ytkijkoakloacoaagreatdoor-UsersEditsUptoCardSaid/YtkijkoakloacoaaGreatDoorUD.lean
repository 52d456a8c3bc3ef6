/- users: guard. users.Parse: how it ends, behind the last line. users.Parse. -/
import Derived.Test.YtkijkoakloacoaaGreatDoorUC
import Derived.Test.YtkijkoakloacoaaGreatDoorPn2
namespace Go.Proofs.YtkijkoakloacoaaGreatDoor
open Go
set_option linter.unusedVariables false
set_option linter.unusedSimpArgs false
set_option maxRecDepth 100000

theorem endM_ret {P : Program} {rs : Array ResultVar} {e : FA} {R : Ending → World → Prop} {w : World} : endM P rs e R .returning w = resC P rs e R w := rfl
def F59c : Cd := (.seq (.region 1 F62.r1.toArray false) (.cond (.tmp 6) (.seq (.region 2 F62.r2.toArray false) (.seq (.seq (.region 3 F62.r3.toArray false) (.cond (.tmp 13) (.region 4 F62.r4.toArray false) .skip)) F62.t5)) .skip))

section
attribute [local go_sem] F62.t5_eq
theorem guardD {P2 : Nat} {u : FrameMode} {w : World} {R : Ending → FrameMode → World → Prop}
    (h : cwE Tryz.prog F59c (fnR Tryz.prog #[] (recM u).2 R) (((entry #[.pointer (some ⟨P2, 0, none⟩)]).put (some 4) (recM u).1).put (some 1) (recM u).1) w) :
    CallsDIn (Fr none) 0 Tryz.prog 62 #[.pointer (some ⟨P2, 0, none⟩)] u w R :=
  callsD_recover2 (types := Tryz.prog.types) (x := .region 0 F62.r0.toArray false) (c' := F59c) follows Tryz.func62 rfl rfl rfl rfl rfl rfl (by decide) rfl rfl rfl rfl (by decide) (by kernel_rfl) (by show 1 ≤ 17; decide) (by kernel_rfl) h

theorem guardD_ret {P2 : Nat} {w : World} : CallsDIn (Fr none) 0 Tryz.prog 62 #[.pointer (some ⟨P2, 0, none⟩)] .returning w fun e u' w' => e = .returned (.tuple #[]) ∧ u' = .returning ∧ w' = w := by
  refine guardD ?_
  have e1 : recM .returning = (.nilIface, .returning) := rfl
  rw [e1]
  unfold F59c
  simp -dsimp -implicitDefEqProofs (disch := omega) only [go_sem, reqD_of, dec_t, dec_f, wrap_i64, wrap_u32, wrap_u64, wrap_u8]
  exact ⟨_, fin0, rfl, rfl⟩

theorem guardD_pan {w0 w : World} {A : HP} {P2 : Nat} {u : Value} {x : Int} (h : St w0 (Blk P2 (.cells #[u] 26 (0, 0)) * A) w) :
    CallsDIn (Fr none) 0 Tryz.prog 62 #[.pointer (some ⟨P2, 0, none⟩)] (.panicking (trouble x)) w fun e u' w' =>
      e = .returned (.tuple #[]) ∧ u' = .panicking [{ v := .iface 104 (.agg #[.int .i64 x]), recovered := true }] ∧ St w0 (Blk P2 (.cells #[.int .i64 x] 26 (0, 0)) * A) w' := by
  refine guardD ?_
  have e1 : recM (.panicking (trouble x)) = (.iface 104 (.agg #[.int .i64 x]), .panicking [{ v := .iface 104 (.agg #[.int .i64 x]), recovered := true }]) := rfl
  rw [e1]
  unfold F59c
  simp -dsimp -implicitDefEqProofs (disch := omega) only [go_sem, reqD_of, dec_t, dec_f, wrap_i64, wrap_u32, wrap_u64, wrap_u8]
  refine assert_of Tryz.underlying104 (by intro m; simp) ?_
  simp -dsimp -implicitDefEqProofs (disch := omega) only [go_sem, reqD_of, dec_t, dec_f, wrap_i64, wrap_u32, wrap_u64, wrap_u8]
  refine h.new fun P4 w1 h1 => ?_
  simp -dsimp -implicitDefEqProofs (disch := omega) only [go_sem, reqD_of, dec_t, dec_f, wrap_i64, wrap_u32, wrap_u64, wrap_u8]
  refine h1.stoAll (b := P4) (n := 1) (cs := [.int .i64 x]) rfl rfl (fun v hv => by simp at hv; subst hv; rfl) fun w2 h2 => ?_
  simp -dsimp -implicitDefEqProofs (disch := omega) only [go_sem, reqD_of, dec_t, dec_f, wrap_i64, wrap_u32, wrap_u64, wrap_u8, h2.cl P4]
  refine h2.sto (b := P2) (off := 0) (by simp) rfl fun w3 h3 => ?_
  simp only [List.setIfInBounds_toArray, List.set_cons_zero] at h3
  simp -dsimp -implicitDefEqProofs (disch := omega) only [go_sem, reqD_of, dec_t, dec_f, wrap_i64, wrap_u32, wrap_u64, wrap_u8]
  exact ⟨_, fin0, rfl, h3.right⟩

abbrev grdD (P2 : Nat) : Deferred := { target := .fn (.func 62) #[.pointer (some ⟨P2, 0, none⟩)], args := #[] }
abbrev errB (P2 : Nat) (x : Int) : HP := Blk P2 (.cells #[.int .i64 x] 26 (0, 0))

end

/-- A function is run under guard: it ends well, or it is given up, and it is told why. -/
theorem guard_any {α : Type} {w0 w : World} {A : HP} {f : Nat} {cap : Array Value} {B : α → HP} {p : α → Prop} {C : Int → HP} {q : Int → Prop} (h : St w0 A w) (hf : fnOk Tryz.prog f = true)
    (hc : ∀ P2 w1, St w0 (errB P2 0 * A) w1 → Calls Tryz.prog f cap w1 fun e w' => (e = .returned (.tuple #[]) ∧ ∃ x, p x ∧ St w0 (errB P2 0 * B x) w') ∨ (∃ x, e = .panicked (trouble x) ∧ q x ∧ St w0 (errB P2 0 * C x) w')) :
    Calls Tryz.prog 27 #[.func (.func f) #[] cap] w fun e w' => (e = .returned (.int .i64 0) ∧ ∃ x, p x ∧ St w0 (B x) w') ∨ (∃ x, e = .returned (.int .i64 x) ∧ q x ∧ St w0 (C x) w') := by
  refine calls_of_cwM (types := Tryz.prog.types) follows Tryz.func27 F27.code rfl (by kernel_rfl) (by show 1 ≤ 6; decide) ?_
  show cwE _ _ (fnM _ #[.cell 2 26] _) _ _
  unfold F27.code
  simp -dsimp -implicitDefEqProofs (disch := omega) only [go_sem, reqD_of, dec_t, dec_f, wrap_i64, wrap_u32, wrap_u64, wrap_u8]
  refine h.new fun P2 w1 h1 => ?_
  simp -dsimp -implicitDefEqProofs (disch := omega) only [go_sem, reqD_of, dec_t, dec_f, wrap_i64, wrap_u32, wrap_u64, wrap_u8]
  refine defer_of (f := 62) (cap := #[.pointer (some ⟨P2, 0, none⟩)]) (by simp -dsimp -implicitDefEqProofs only [go_sem]) ?_
  simp -dsimp -implicitDefEqProofs (disch := omega) only [go_sem, reqD_of, dec_t, dec_f, wrap_i64, wrap_u32, wrap_u64, wrap_u8, callY_clos, hf, Array.append_empty, Array.empty_append]
  refine (hc P2 w1 h1).mono ?_
  rintro e w2 (⟨rfl, x, hx, h2⟩ | ⟨x, rfl, hx, h2⟩)
  · simp -dsimp -implicitDefEqProofs (disch := omega) only [go_sem, reqD_of, dec_t, dec_f, wrap_i64, wrap_u32, wrap_u64, wrap_u8]
    refine h2.sto (b := P2) (off := 0) (by simp) rfl fun w3 h3 => ?_
    simp only [List.setIfInBounds_toArray, List.set_cons_zero] at h3
    simp -dsimp -implicitDefEqProofs (disch := omega) only [go_sem, reqD_of, dec_t, dec_f, wrap_i64, wrap_u32, wrap_u64, wrap_u8]
    refine leave1 (by simp) (by kernel_rfl) (CallsDIn.mono' guardD_ret ?_)
    rintro e'' u' w'' ⟨rfl, rfl, rfl⟩
    show endM _ _ _ _ .returning _
    rw [endM_ret]
    refine resC_1 (a := ⟨P2, 0, none⟩) (v := .int .i64 0) (by simp -dsimp -implicitDefEqProofs only [go_sem]) (run_loadVar_cell fact_aggSz_26 (by rw [h3.cl P2]; rfl)) ?_
    exact .inl ⟨rfl, x, hx, h3.right⟩
  · simp -dsimp -implicitDefEqProofs (disch := omega) only [go_sem, reqD_of, dec_t, dec_f, wrap_i64, wrap_u32, wrap_u64, wrap_u8]
    refine leave1 (by simp) (by kernel_rfl) (CallsDIn.mono' (guardD_pan h2) ?_)
    rintro e' u' w' ⟨rfl, rfl, h'⟩
    show endM _ _ _ _ .returning _
    rw [endM_ret]
    refine resC_1 (a := ⟨P2, 0, none⟩) (v := .int .i64 x) (by simp -dsimp -implicitDefEqProofs only [go_sem]) (run_loadVar_cell fact_aggSz_26 (by rw [h'.cl P2]; rfl)) ?_
    exact .inr ⟨x, rfl, hx, h'.right⟩
end Go.Proofs.YtkijkoakloacoaaGreatDoor

namespace Go.Proofs.YtkijkoakloacoaaGreatDoor
open Go
set_option linter.unusedVariables false
set_option linter.unusedSimpArgs false
set_option maxRecDepth 100000

abbrev nV (n : Nat) : Value := .int .i64 (n : Nat)
abbrev NumR (v : Value) (P : List Nat) : HP := RowO 3 1 v P.length (P.map nV)
/-- What a table has, when it is whole. -/
structure UT where
  vl : Value
  mi : Nat
  inl : InL
  L : List AV
  B : HP
abbrev TabW (T m : Nat) (x : UT) : HP := TabQ T m x.vl (.map (some x.mi)) x.L * (MapP encPr x.mi x.inl * x.B)
theorem TabW.of {w0 w : World} {X Y A : HP} {T m : Nat} {x : UT} (h : St w0 (TabQ T m x.vl (.map (some x.mi)) x.L * (MapP encPr x.mi x.inl * (X * (Y * (x.B * A))))) w) : St w0 (X * (Y * (TabW T m x * A))) w := h.ac (by unfold TabW TabQ; ac_rfl)
structure UT.Ok (x : UT) : Prop where
  ms : MsOk x.B x.L
  inl : InOk (accs x.L) x.inl
abbrev cellI (b : Nat) (n : Nat) : HP := Blk b (.cells #[nV n] 3 (0, 0))
abbrev cellT (b T : Nat) : HP := Blk b (.cells #[.pointer (some ⟨T, 0, none⟩)] 25 (0, 0))
/-- How Parse's function ends. -/
def ParseR (w0 : World) (C1 C2 T m : Nat) (A : HP) (r : Except (Nat × Nat) (List Acc)) (e : Ending) (w' : World) : Prop :=
  (e = .returned (.tuple #[]) ∧ ∃ x : UT, (r = .ok (accs x.L) ∧ x.Ok) ∧ St w0 (cellI C1 0 * (cellT C2 T * (TabW T m x * A))) w') ∨
  (∃ k n : Nat, e = .panicked (trouble k) ∧ r = .error (k, n) ∧ St w0 (cellI C1 n * A) w')

section
attribute [local go_sem] F28.t5_eq F28.t11_eq F28.t2_eq F28.t17_eq F28.t14_eq F28.t18_eq F28.t12_eq
theorem parse_end {w0 w : World} {A A' B : HP} (he : Ent A A') {C1 C2 C3 T m n : Nat} {vl vp : Value} {L : List AV} {P : List Nat} {e : FA} (hd : e.ds = []) (e1 : e.ρ 1 = .pointer (some ⟨C1, 0, none⟩)) (e2 : e.ρ 2 = .pointer (some ⟨C2, 0, none⟩)) (e3 : e.ρ 3 = .pointer (some ⟨C3, 0, none⟩))
    (hm : MsOk B L) (hP : P.length = L.length) (hn : L.length ≤ 16777216) (hl : (textF (accs L)).length ≤ 1099511627776)
    (h : St w0 (cellI C1 n * (cellT C2 T * (Blk C3 (.cells #[vp] 68 (0, 0)) * (NumR vp P * (TabQ T m vl (.map none) L * (B * A)))))) w) :
    cwE Tryz.prog F28.t12 (fnP Tryz.prog #[] (ParseR w0 C1 C2 T m A' (endF (accs L) P))) e w := by
  rw [F28.t12_eq]
  obtain ⟨av, cv, rfl, _⟩ := h.rowForm vl
  obtain ⟨ap, cp, rfl, _⟩ := h.rowForm vp
  simp -dsimp -implicitDefEqProofs (disch := omega) only [go_sem, reqD_of, dec_t, dec_f, wrap_i64, wrap_u32, wrap_u64, wrap_u8, hd, e1, e2, e3, h.cl C2, h.cl T]
  refine loop_intro (fun e w' => e.ds = [] ∧ e.ρ 1 = .pointer (some ⟨C1, 0, none⟩) ∧ e.ρ 2 = .pointer (some ⟨C2, 0, none⟩) ∧ e.ρ 3 = .pointer (some ⟨C3, 0, none⟩) ∧ e.ρ 56 = .slice av L.length cv ∧ e.ρ 57 = .int .i64 L.length ∧
      ∃ i n : Nat, i ≤ L.length ∧ e.ρ 58 = .int .i64 i ∧ checkF (accs L) ((accs L).zip P) = checkF (accs L) (((accs L).zip P).drop i) ∧
        St w0 (cellI C1 n * (cellT C2 T * (Blk C3 (.cells #[.slice ap P.length cp] 68 (0, 0)) * (NumR (.slice ap P.length cp) P * (TabQ T m (.slice av L.length cv) (.map none) L * (B * A)))))) w')
    (fun e _ => match e.ρ 58 with | .int _ n => (L.length - n).toNat | _ => 0) ?_ ?_
  · exact ⟨by simp -dsimp -implicitDefEqProofs only [go_sem, hd], by simp -dsimp -implicitDefEqProofs only [go_sem, e1], by simp -dsimp -implicitDefEqProofs only [go_sem, e2], by simp -dsimp -implicitDefEqProofs only [go_sem, e3], by simp -dsimp -implicitDefEqProofs only [go_sem], by simp -dsimp -implicitDefEqProofs only [go_sem], 0, n, by omega, by simp -dsimp -implicitDefEqProofs only [go_sem], rfl, h⟩
  clear h hd e1 e2 e3 e w n
  rintro e w ⟨hd, e1, e2, e3, e56, e57, i, n, hi, e58, hk, h⟩
  by_cases hlt : (i : Int) < (L.length : Int)
  case neg =>
    have hz : ((accs L).zip P).drop i = [] := List.drop_of_length_le (by simp; omega)
    rw [hz] at hk
    have hend : endF (accs L) P = if joinF (accs L) then .ok (accs L) else .error (1, 0) := by
      unfold endF; rw [hk]; rfl
    rw [hend]
    simp -dsimp -implicitDefEqProofs (disch := omega) only [go_sem, reqD_of, dec_t, dec_f, wrap_i64, wrap_u32, wrap_u64, wrap_u8, hd, e1, e2, e3, e56, e57, e58, hlt]
    refine h.sto (b := C1) (off := 0) (by simp) rfl fun w1 h1 => ?_
    simp only [List.setIfInBounds_toArray, List.set_cons_zero] at h1
    simp -dsimp -implicitDefEqProofs (disch := omega) only [go_sem, reqD_of, dec_t, dec_f, wrap_i64, wrap_u32, wrap_u64, wrap_u8, hd, e1, e2, e3, h1.cl C2]
    refine (join_any (T := T) (m := m) (A := cellI C1 0 * (cellT C2 T * (B * A))) (vl := .slice av L.length cv) (vi := .map none) (L := L) h1.sub (hm.weak (inferInstance : Gives (cellI C1 0 * (cellT C2 T * (B * A))) B).ent) (by omega) (by omega)).mono ?_
    rintro e' w2 (⟨hj, ⟨mi, inl, hin, h2⟩, rfl⟩ | ⟨hj, h2, rfl⟩)
    · rw [hj, if_pos rfl]
      simp -dsimp -implicitDefEqProofs (disch := omega) only [go_sem, reqD_of, dec_t, dec_f, wrap_i64, wrap_u32, wrap_u64, wrap_u8, hd]
      exact .inl ⟨rfl, ⟨.slice av L.length cv, mi, inl, L, B⟩, ⟨rfl, hm, hin⟩, (TabW.of (x := ⟨.slice av L.length cv, mi, inl, L, B⟩) h2).ent (Ent.sep (Ent.rfl' _) (Ent.sep (Ent.rfl' _) (Ent.sep (Ent.rfl' _) he)))⟩
    · rw [hj]
      simp -dsimp -implicitDefEqProofs (disch := omega) only [go_sem, reqD_of, dec_t, dec_f, wrap_i64, wrap_u32, wrap_u64, wrap_u8, hd]
      exact .inr ⟨1, 0, rfl, rfl, (show St w0 (cellI C1 0 * A) _ from h2.sub).ent (Ent.sep (Ent.rfl' _) he)⟩
  have hlt' : i < L.length := by omega
  obtain ⟨_, a', c', hv', _, hrow⟩ := St.rowsAt accC_len (by decide) (h.gives (B := Reads 4 (.slice av L.length cv) L.length (L.flatMap accC)))
  simp only [Value.slice.injEq, true_and] at hv'
  obtain ⟨rfl, rfl⟩ := hv'
  obtain ⟨b, o, rfl, hr, _⟩ := hrow i hlt'
  obtain ⟨bp, op, rfl, _⟩ := h.atS (a := ap) (n := P.length) (c := cp) (xs := P.map nV) (k := i) (by simp; omega)
  have hx := hm _ (List.getElem_mem hlt')
  have hzd : ((accs L).zip P).drop i = (L[i].1, P[i]'(by omega)) :: ((accs L).zip P).drop (i + 1) := by
    rw [List.drop_eq_getElem_cons (by simp; omega)]; simp
  rw [hzd] at hk
  obtain ⟨x, hxe⟩ : ∃ x, x = L[i] := ⟨_, rfl⟩
  obtain ⟨p, hp⟩ : ∃ p, p = P[i]'(by omega) := ⟨_, rfl⟩
  rw [← hxe] at hr hx hk
  rw [← hp] at hk
  obtain ⟨a, v⟩ := x
  obtain ⟨hx1, hx2, hx3⟩ := hx
  simp only at hx1 hx2 hx3 hk
  obtain ⟨cm, am, rfl⟩ : ∃ c x, v = .slice x a.members.length c := by
    obtain ⟨x, c, e, hc, _⟩ := h.right.right.right.right.right.left.texts hx1
    exact ⟨c, x, e⟩
  simp -dsimp -implicitDefEqProofs (disch := omega) only [go_sem, reqD_of, dec_t, dec_f, wrap_i64, wrap_u32, wrap_u64, wrap_u8, hd, e1, e2, e3, e56, e57, e58, hlt, hr]
  refine h.new fun Q w1 h1 => ?_
  simp -dsimp -implicitDefEqProofs (disch := omega) only [go_sem, reqD_of, dec_t, dec_f, wrap_i64, wrap_u32, wrap_u64, wrap_u8, hd, e1, e2, e3]
  refine h1.stoAll (b := Q) (n := 4) (cs := accL a (.slice am a.members.length cm)) rfl rfl (fun v hv => by simp at hv; rcases hv with rfl | rfl | rfl | rfl <;> rfl) fun w2 h2 => ?_
  have hcp := h2.atG (g := bp) (o := op) (n := P.length) (c := cp) (xs := P.map nV) (k := i) (by simp; omega)
  rw [List.getElem_map, ← hp] at hcp
  simp -dsimp -implicitDefEqProofs (disch := omega) only [go_sem, reqD_of, dec_t, dec_f, wrap_i64, wrap_u32, wrap_u64, wrap_u8, hd, e1, e2, e3, e58, h2.cl C3, hcp]
  refine h2.sto (b := C1) (off := 0) (by simp) rfl fun w3 h3 => ?_
  simp only [List.setIfInBounds_toArray, List.set_cons_zero] at h3
  simp -dsimp -implicitDefEqProofs (disch := omega) only [go_sem, reqD_of, dec_t, dec_f, wrap_i64, wrap_u32, wrap_u64, wrap_u8, hd, e1, e2, e3, h3.cl C2, h3.rowH Q 4 rfl]
  have g3 : Gives (cellI C1 p * (cellT C2 T * (Blk C3 (.cells #[.slice (some ⟨bp, op, none⟩) P.length cp] 68 (0, 0)) * (NumR (.slice (some ⟨bp, op, none⟩) P.length cp) P * (B * A))))) B := inferInstance
  refine (named_any (T := T) (m := m) (A := cellI C1 p * (cellT C2 T * (Blk C3 (.cells #[.slice (some ⟨bp, op, none⟩) P.length cp] 68 (0, 0)) * (NumR (.slice (some ⟨bp, op, none⟩) P.length cp) P * (B * A))))) (vl := .slice (some ⟨b, o, none⟩) L.length cv) (vi := .map none) (L := L) h3.sub (g3.ent.trans hx1) hx2).mono ?_
  rintro e' w4 ⟨h4, ⟨hy, rfl⟩ | ⟨hy, rfl⟩⟩
  · rw [checkF, if_pos hy] at hk
    simp -dsimp -implicitDefEqProofs (disch := omega) only [go_sem, reqD_of, dec_t, dec_f, wrap_i64, wrap_u32, wrap_u64, wrap_u8, hd, e1, e2, e3, e56, e57, e58]
    exact ⟨⟨i + 1, p, by omega, by omega, hk, h4.sub⟩, by omega⟩
  · rw [checkF, if_neg (by rw [hy]; simp)] at hk
    have hend : endF (accs L) P = .error (62, p) := by unfold endF; rw [hk]
    simp -dsimp -implicitDefEqProofs (disch := omega) only [go_sem, reqD_of, dec_t, dec_f, wrap_i64, wrap_u32, wrap_u64, wrap_u8, hd]
    exact .inr ⟨62, p, rfl, hend, (show St w0 (cellI C1 p * A) _ from h4.sub).ent (Ent.sep (Ent.rfl' _) he)⟩
end
end Go.Proofs.YtkijkoakloacoaaGreatDoor

namespace Go.Proofs.YtkijkoakloacoaaGreatDoor
open Go
set_option linter.unusedVariables false
set_option linter.unusedSimpArgs false
set_option maxRecDepth 100000

theorem join_pcs (d : UInt8) : ∀ l : List UInt8, joinD d (pcs d l) = l
  | [] => rfl
  | c :: l => by
    have ih := join_pcs d l
    unfold pcs
    by_cases e : c = d
    · rw [if_pos e]
      cases hp : pcs d l with
      | nil => exact absurd hp (pcs_ne d l)
      | cons q qs => rw [joinD_two, ← hp, ih, e]; rfl
    · rw [if_neg e]
      cases hp : pcs d l with
      | nil => exact absurd hp (pcs_ne d l)
      | cons q qs =>
        rw [hp] at ih
        simp only
        cases qs with
        | nil => rw [joinD, Lib.join_one] at ih ⊢; rw [ih]
        | cons r rs => rw [joinD_two] at ih ⊢; rw [List.cons_append, ih]
theorem row_of {l : List UInt8} {a : Acc} (h : accF l = some a) : rowF a = l := by
  unfold accF at h
  split at h
  case isFalse => cases h
  rename_i hc
  obtain ⟨h4, _⟩ := hc
  cases h
  obtain ⟨f0, f1, f2, f3, hf⟩ : ∃ f0 f1 f2 f3, pcs 58 l = [f0, f1, f2, f3] := by
    match hm : pcs 58 l, h4 with
    | [a, b, c, d], _ => exact ⟨a, b, c, d, rfl⟩
  have hj : joinD 44 (membersF f2) = f2 := by
    unfold membersF
    split
    · rename_i e; rw [e]; rfl
    · exact join_pcs 44 f2
  have hraw : rawF l = ⟨f0, f1, membersF f2, f3⟩ := by simp [rawF, hf]
  rw [hraw]
  unfold rowF
  simp only
  rw [hj, ← hf, join_pcs]
theorem endOf {text : List UInt8} {ls : List (List UInt8)} {L : List Acc} {P : List Nat} (h : readF ls 1 [] [] = .ok (L, P)) (hl : ls = pcs 10 text) (ht : ¬ 65536 < text.length) : parseF text = endF L P := by
  subst hl; rw [parseF, if_neg ht, h]
theorem badOf {text : List UInt8} {ls : List (List UInt8)} {k n : Nat} (h : readF ls 1 [] [] = .error (k, n)) (hl : ls = pcs 10 text) (ht : ¬ 65536 < text.length) : parseF text = .error (k, n) := by
  subst hl; rw [parseF, if_neg ht, h]

theorem empL' (F : HP) : Ent F (EmpH * F) := fun h hf => ⟨h, hle.rfl' h, fun _ => none, h, fun _ => .inl rfl, (fun _ _ e => by cases e), hle.rfl' h, trivial, hf⟩
abbrev cellS (b : Nat) (l : List UInt8) : HP := Blk b (.cells #[sv l] 9 (0, 0))
abbrev rowT (v : Value) (ls : List (List UInt8)) : HP := RowO 9 1 v ls.length (ls.map sv)
theorem MsOk.snoc {A B : HP} {L : List AV} {a : Acc} {v : Value} (h : MsOk B L) (e : Ent A B) (hv : Ent A (ReadsT v a.members)) (hf : Fit a) (hc : isCell v = true) : MsOk A (L ++ [(a, v)]) := by
  intro x hx
  rcases List.mem_append.1 hx with hx | hx
  · exact ⟨e.trans (h x hx).1, (h x hx).2⟩
  · simp only [List.mem_singleton] at hx
    subst hx
    exact ⟨hv, hf, hc⟩

section
attribute [local go_sem] F28.t5_eq F28.t11_eq F28.t2_eq F28.t17_eq F28.t14_eq F28.t18_eq
theorem parse_loop {w0 w : World} {A : HP} {C0 C1 C2 C3 T m : Nat} {text : List UInt8} (ht : ¬ 65536 < text.length) [gt : Gives A Tabs]
    (h : St w0 (cellS C0 text * (cellI C1 0 * (cellT C2 T * (Blk C3 (.cells #[.slice none 0 0] 68 (0, 0)) * (Blk T (tabB (.slice none 0 0) m (.map none)) * (MapP sv m [] * A)))))) w) :
    Calls Tryz.prog 28 #[.pointer (some ⟨C0, 0, none⟩), .pointer (some ⟨C1, 0, none⟩), .pointer (some ⟨C2, 0, none⟩), .pointer (some ⟨C3, 0, none⟩)] w (ParseR w0 C1 C2 T m A (parseF text)) := by
  refine F28.calls (by simp) ?_
  unfold F28.code
  simp -dsimp -implicitDefEqProofs (disch := omega) only [go_sem, reqD_of, dec_t, dec_f, wrap_i64, wrap_u32, wrap_u64, wrap_u8, h.cl C0]
  refine (split_lib 10 h (by omega)).mono ?_
  rintro e w1 ⟨g, h1, rfl⟩
  simp -dsimp -implicitDefEqProofs (disch := omega) only [go_sem, reqD_of, dec_t, dec_f, wrap_i64, wrap_u32, wrap_u64, wrap_u8]
  obtain ⟨ls, hls⟩ : ∃ ls, ls = pcs 10 text := ⟨_, rfl⟩
  have hlen := pcs_length 10 text
  have hmem : ∀ l ∈ ls, l.length ≤ 65536 := fun l hl => by
    have h2 := pcs_total 10 text
    rw [← hls] at h2
    have h3 : l.length ≤ (ls.map List.length).sum := by
      obtain ⟨s, t, rfl⟩ := List.append_of_mem hl
      simp; omega
    omega
  rw [← hls] at hlen h1
  rw [← hls]
  have h2 : St w0 (RowO 3 1 (.slice none 0 0) 0 [] * (RowO 72 4 (.slice none 0 0) 0 [] * (rowT (.slice (some ⟨g, 0, none⟩) ls.length ls.length) ls * (cellS C0 text * (cellI C1 0 * (cellT C2 T * (Blk C3 (.cells #[.slice none 0 0] 68 (0, 0)) * (Blk T (tabB (.slice none 0 0) m (.map none)) * (MapP sv m [] * A))))))))) w1 := (h1.nilR 72 4).nilR 3 1
  have h2' : St w0 (RowO 3 1 (.slice none 0 0) 0 [] * (RowO 72 4 (.slice none 0 0) 0 [] * (rowT (.slice (some ⟨g, 0, none⟩) ls.length ls.length) ls * (cellI C1 0 * (cellT C2 T * (Blk C3 (.cells #[.slice none 0 0] 68 (0, 0)) * (Blk T (tabB (.slice none 0 0) m (.map none)) * (MapP sv m [] * A)))))))) w1 := h2.sub
  have h3 : St w0 (cellI C1 0 * (cellT C2 T * (Blk C3 (.cells #[.slice none 0 0] 68 (0, 0)) * (RowO 3 1 (.slice none 0 0) 0 [] * ((Blk T (tabB (.slice none 0 0) m (.map none)) * (RowO 72 4 (.slice none 0 0) 0 [] * MapP sv m [])) * (EmpH * (rowT (.slice (some ⟨g, 0, none⟩) ls.length ls.length) ls * A))))))) w1 :=
    (h2'.ent (empL' _)).ac (by ac_rfl)
  refine loop_intro (fun e w' => e.ds = [] ∧ e.ρ 1 = .pointer (some ⟨C1, 0, none⟩) ∧ e.ρ 2 = .pointer (some ⟨C2, 0, none⟩) ∧ e.ρ 3 = .pointer (some ⟨C3, 0, none⟩) ∧ e.ρ 12 = .slice (some ⟨g, 0, none⟩) ls.length ls.length ∧ e.ρ 13 = .int .i64 ls.length ∧
      ∃ (j n : Nat) (L : List AV) (P : List Nat) (vl vp : Value) (B : HP), j ≤ ls.length ∧ e.ρ 14 = .int .i64 j ∧ readF ls 1 [] [] = readF (ls.drop j) (j + 1) (accs L) P ∧ MsOk B L ∧ P.length = L.length ∧ L.length ≤ j ∧ (textF (accs L)).length ≤ 65537 * j ∧
        St w0 (cellI C1 n * (cellT C2 T * (Blk C3 (.cells #[vp] 68 (0, 0)) * (NumR vp P * (TabQ T m vl (.map none) L * (B * (rowT (.slice (some ⟨g, 0, none⟩) ls.length ls.length) ls * A))))))) w')
    (fun e _ => match e.ρ 14 with | .int _ n => (ls.length - n).toNat | _ => 0) ?_ ?_
  · exact ⟨by simp -dsimp -implicitDefEqProofs only [go_sem], by simp -dsimp -implicitDefEqProofs only [go_sem], by simp -dsimp -implicitDefEqProofs only [go_sem], by simp -dsimp -implicitDefEqProofs only [go_sem], by simp -dsimp -implicitDefEqProofs only [go_sem], by simp -dsimp -implicitDefEqProofs only [go_sem], 0, 0, [], [], .slice none 0 0, .slice none 0 0, EmpH, by omega, by simp -dsimp -implicitDefEqProofs only [go_sem], rfl, fun x hx => (by cases hx), rfl, by simp, by simp [textF], h3⟩
  clear h h1 h2
  rintro e w ⟨hd, e1, e2, e3, e12, e13, j, n, L, P, vl, vp, B, hj, e14, hrd, hm, hP, hLj, htx, h⟩
  obtain ⟨av, cv, rfl, _⟩ := h.rowForm vl
  obtain ⟨ap, cp, rfl, _⟩ := h.rowForm vp
  by_cases hlt : (j : Int) < (ls.length : Int)
  case neg =>
    have hz : ls.drop j = [] := List.drop_of_length_le (by omega)
    rw [hz, readF] at hrd
    rw [endOf hrd hls ht]
    simp -dsimp -implicitDefEqProofs (disch := omega) only [go_sem, reqD_of, dec_t, dec_f, wrap_i64, wrap_u32, wrap_u64, wrap_u8, hd, e1, e2, e3, e12, e13, e14, hlt]
    exact parse_end (Ent.right _ _) hd e1 e2 e3 hm hP (by omega) (by omega) h
  have hlt' : j < ls.length := by omega
  have hc := h.atG (g := g) (o := 0) (n := ls.length) (c := ls.length) (xs := ls.map sv) (k := j) (by simpa using hlt')
  rw [List.getElem_map, Nat.zero_add] at hc
  have hdr : ls.drop j = ls[j] :: ls.drop (j + 1) := List.drop_eq_getElem_cons hlt'
  have hl := hmem _ (List.getElem_mem hlt')
  obtain ⟨l, hle⟩ : ∃ l, l = ls[j] := ⟨_, rfl⟩
  rw [← hle] at hc hdr hl
  rw [hdr, readF] at hrd
  simp -dsimp -implicitDefEqProofs (disch := omega) only [go_sem, reqD_of, dec_t, dec_f, wrap_i64, wrap_u32, wrap_u64, wrap_u8, hd, e1, e2, e3, e12, e13, e14, hlt, hc]
  refine h.sto (b := C1) (off := 0) (by simp) rfl fun w1 h1 => ?_
  simp only [List.setIfInBounds_toArray, List.set_cons_zero] at h1
  clear h
  have hn1 : ((j : Int) + 1) = ((j + 1 : Nat) : Int) := by omega
  rw [hn1] at h1
  by_cases l0 : l = []
  · have d0 : decide (l = []) = true := by simp [l0]
    rw [if_pos (.inl l0)] at hrd
    simp -dsimp -implicitDefEqProofs (disch := omega) only [go_sem, reqD_of, dec_t, dec_f, wrap_i64, wrap_u32, wrap_u64, wrap_u8, hd, e1, e2, e3, e12, e13, e14, d0]
    exact ⟨⟨j + 1, j + 1, L, P, _, _, B, by omega, by omega, hrd, hm, hP, by omega, by omega, h1⟩, by omega⟩
  have hp : 0 < l.length := List.length_pos_iff.2 l0
  have hp' : (0 : Int) < l.length := by omega
  obtain ⟨c0, hc0⟩ : ∃ c0, c0 = (l.getD 0 0).toNat := ⟨_, rfl⟩
  rw [← hc0] at hrd
  by_cases l1 : (c0 : Int) = 35
  · rw [if_pos (.inr (by omega))] at hrd
    simp -dsimp -implicitDefEqProofs (disch := omega) only [go_sem, reqD_of, dec_t, dec_f, wrap_i64, wrap_u32, wrap_u64, wrap_u8, hd, e1, e2, e3, e12, e13, e14, l0, hp', ← hc0, l1]
    exact ⟨⟨j + 1, j + 1, L, P, _, _, B, by omega, by omega, hrd, hm, hP, by omega, by omega, h1⟩, by omega⟩
  rw [if_neg (by simp only [l0, false_or]; omega)] at hrd
  simp -dsimp -implicitDefEqProofs (disch := omega) only [go_sem, reqD_of, dec_t, dec_f, wrap_i64, wrap_u32, wrap_u64, wrap_u8, hd, e1, e2, e3, e12, e13, e14, l0, hp', ← hc0, l1]
  refine (account_any h1 (by omega)).mono ?_
  rintro e' w2 (⟨a, v, ha, hf, h2, rfl⟩ | ⟨ha, h2, rfl⟩)
  case inr =>
    rw [ha] at hrd
    rw [badOf hrd hls ht]
    simp -dsimp -implicitDefEqProofs (disch := omega) only [go_sem, reqD_of, dec_t, dec_f, wrap_i64, wrap_u32, wrap_u64, wrap_u8, hd]
    exact .inr ⟨60, j + 1, rfl, rfl, h2.sub⟩
  rw [ha] at hrd
  simp only at hrd
  obtain ⟨am, cm, rfl, _⟩ := h2.rowForm v
  simp -dsimp -implicitDefEqProofs (disch := omega) only [go_sem, reqD_of, dec_t, dec_f, wrap_i64, wrap_u32, wrap_u64, wrap_u8, hd, e1, e2, e3]
  refine h2.new fun Q w3 h3 => ?_
  simp -dsimp -implicitDefEqProofs (disch := omega) only [go_sem, reqD_of, dec_t, dec_f, wrap_i64, wrap_u32, wrap_u64, wrap_u8, hd, e1, e2, e3]
  refine h3.stoAll (b := Q) (n := 4) (cs := accL a (.slice am a.members.length cm)) rfl rfl (fun v hv => by simp at hv; rcases hv with rfl | rfl | rfl | rfl <;> rfl) fun w4 h4 => ?_
  simp -dsimp -implicitDefEqProofs (disch := omega) only [go_sem, reqD_of, dec_t, dec_f, wrap_i64, wrap_u32, wrap_u64, wrap_u8, hd, e1, e2, e3, h4.cl C2, h4.cl T, h4.cl Q, h4.drew.cl C2, h4.drew.cl T, h4.drew.cl Q]
  refine h4.drew.lkH (b := m) (x := a.name) Tryz.underlying64 lawS zero_int ?_
  obtain ⟨z, hz⟩ := lkV_at (accs L) a.name
  rw [hz]
  simp -dsimp -implicitDefEqProofs (disch := omega) only [go_sem, reqD_of, dec_t, dec_f, wrap_i64, wrap_u32, wrap_u64, wrap_u8, hd, e1, e2, e3, h4.cl C2, h4.cl T, h4.cl Q, h4.drew.cl C2, h4.drew.cl T, h4.drew.cl Q]
  refine (need_st h4.drew _ _).mono ?_
  rintro e' w5 ⟨h5, ⟨hk, rfl⟩ | ⟨hk, rfl⟩⟩
  case inr =>
    have hk' : known (accs L) a.name = true := by simpa using hk
    rw [hk', Bool.true_or, if_pos rfl] at hrd
    rw [badOf hrd hls ht]
    simp -dsimp -implicitDefEqProofs (disch := omega) only [go_sem, reqD_of, dec_t, dec_f, wrap_i64, wrap_u32, wrap_u64, wrap_u8, hd]
    exact .inr ⟨61, j + 1, rfl, rfl, h5.sub⟩
  have hk' : known (accs L) a.name = false := by simpa using hk
  rw [hk', Bool.false_or] at hrd
  simp -dsimp -implicitDefEqProofs (disch := omega) only [go_sem, reqD_of, dec_t, dec_f, wrap_i64, wrap_u32, wrap_u64, wrap_u8, hd, e1, e2, e3, h5.rowH Q 4 rfl, h5.cl Q]
  refine (once_any h5 (a := a) (v := .slice am a.members.length cm) ((Gives.ent (B := RowO 9 1 (.slice am a.members.length cm) a.members.length (a.members.map sv))).trans (RowO.reads _ _ _ _ _)) hf).mono ?_
  rintro e' w6 ⟨h6, ⟨ho, rfl⟩ | ⟨ho, rfl⟩⟩
  case inr =>
    rw [ho, Bool.not_false, if_pos rfl] at hrd
    rw [badOf hrd hls ht]
    simp -dsimp -implicitDefEqProofs (disch := omega) only [go_sem, reqD_of, dec_t, dec_f, wrap_i64, wrap_u32, wrap_u64, wrap_u8, hd]
    exact .inr ⟨61, j + 1, rfl, rfl, h6.sub⟩
  rw [ho, Bool.not_true, if_neg (by simp)] at hrd
  simp -dsimp -implicitDefEqProofs (disch := omega) only [go_sem, reqD_of, dec_t, dec_f, wrap_i64, wrap_u32, wrap_u64, wrap_u8, hd, e1, e2, e3, h6.cl C2, h6.rowH Q 4 rfl, h6.cl Q]
  refine (add_new (T := T) (m := m) (L := L) (vl := .slice av L.length cv) (vi := .map none) (a := a) (v := .slice am a.members.length cm) (A := cellI C1 (j + 1) * (cellT C2 T * (Blk C3 (.cells #[.slice ap P.length cp] 68 (0, 0)) * (NumR (.slice ap P.length cp) P * (RowO 9 1 (.slice am a.members.length cm) a.members.length (a.members.map sv) * (B * (rowT (.slice (some ⟨g, 0, none⟩) ls.length ls.length) ls * A))))))) h6.sub hk' rfl (by omega)).mono ?_
  rintro e' w7 ⟨vl', h7, rfl⟩
  simp -dsimp -implicitDefEqProofs (disch := omega) only [go_sem, reqD_of, dec_t, dec_f, wrap_i64, wrap_u32, wrap_u64, wrap_u8, hd, e1, e2, e3, h7.cl C1, h7.cl C3]
  refine h7.lit (t := 68) (cells := [nV (j + 1)]) fact_rowTy_68 rfl (by decide) (by decide) fun v8 w8 h8 => ?_
  obtain ⟨a8, c8, rfl, _⟩ := h8.rowForm v8
  simp -dsimp -implicitDefEqProofs (disch := omega) only [go_sem, reqD_of, dec_t, dec_f, wrap_i64, wrap_u32, wrap_u64, wrap_u8, hd, e1, e2, e3]
  refine h8.appR (v := .slice ap P.length cp) (x := .slice a8 1 c8) fact_rowTy_68 Tryz.underlying68 (fun u hu => by simp at hu; subst hu; rfl) (by simp) (show _ ≤ 9223372036854775807 by omega) (by omega) fun v9 w9 h9 => ?_
  obtain ⟨a9, c9, rfl, _⟩ := h9.rowForm v9
  simp -dsimp -implicitDefEqProofs (disch := omega) only [go_sem, reqD_of, dec_t, dec_f, wrap_i64, wrap_u32, wrap_u64, wrap_u8, hd, e1, e2, e3]
  refine h9.sto (b := C3) (off := 0) (by simp) rfl fun w10 h10 => ?_
  simp only [List.setIfInBounds_toArray, List.set_cons_zero] at h10
  simp -dsimp -implicitDefEqProofs (disch := omega) only [go_sem, reqD_of, dec_t, dec_f, wrap_i64, wrap_u32, wrap_u64, wrap_u8, hd, e1, e2, e3, e12, e13, e14]
  have e4 : accs (L ++ [(a, Value.slice am a.members.length cm)]) = accs L ++ [a] := by simp
  have hrow := row_of ha
  have hll : (lineF a).length ≤ 65537 := by simp [lineF, hrow]; omega
  refine ⟨⟨j + 1, j + 1, L ++ [(a, .slice am a.members.length cm)], P ++ [j + 1], vl', .slice a9 (P.length + 1) c9, RowO 9 1 (.slice am a.members.length cm) a.members.length (a.members.map sv) * B, by omega, by omega, ?_, hm.snoc (Ent.right _ _) ((Ent.left _ _).trans (RowO.reads _ _ _ _ _)) hf rfl, by simp [hP], by simp; omega, ?_, ?_⟩, by omega⟩
  · rw [e4]; exact hrd
  · rw [e4]
    simp only [textF, List.flatMap_append, List.flatMap_cons, List.flatMap_nil, List.append_nil, List.length_append] at htx ⊢
    omega
  · have e5 : (P ++ [j + 1]).length = P.length + 1 := by simp
    have e6 : (P ++ [j + 1]).map nV = P.map nV ++ [nV (j + 1)] := by simp
    unfold NumR
    rw [e5, e6]
    exact h10.right.ac (by ac_rfl)

theorem readF_bad : ∀ (ls : List (List UInt8)) (n : Nat) (L : List Acc) (P : List Nat) (k m : Nat), readF ls n L P = .error (k, m) → k = 60 ∨ k = 61
  | [], n, L, P, k, m, h => by simp [readF] at h
  | l :: ls, n, L, P, k, m, h => by
    rw [readF] at h
    split at h
    · exact readF_bad ls _ _ _ _ _ h
    · cases ha : accF l with
      | none => rw [ha] at h; simp only [Except.error.injEq, Prod.mk.injEq] at h; exact .inl h.1.symm
      | some a =>
        rw [ha] at h
        simp only at h
        split at h
        · simp only [Except.error.injEq, Prod.mk.injEq] at h; exact .inr h.1.symm
        · exact readF_bad ls _ _ _ _ _ h
theorem endF_bad {L : List Acc} {P : List Nat} {k m : Nat} (h : endF L P = .error (k, m)) : k = 62 ∨ k = 1 := by
  unfold endF at h
  split at h
  · simp only [Except.error.injEq, Prod.mk.injEq] at h; exact .inl h.1.symm
  · split at h
    · cases h
    · simp only [Except.error.injEq, Prod.mk.injEq] at h; exact .inr h.1.symm
theorem parseF_bad {s : List UInt8} {k m : Nat} (h : parseF s = .error (k, m)) : k = 60 ∨ k = 61 ∨ k = 62 ∨ k = 1 := by
  unfold parseF at h
  split at h
  · simp only [Except.error.injEq, Prod.mk.injEq] at h; omega
  · split at h
    · rename_i e he
      obtain ⟨a, b⟩ := e
      simp only [Except.error.injEq, Prod.mk.injEq] at h
      have := readF_bad _ _ _ _ _ _ he
      omega
    · have := endF_bad h
      omega

/-- What Parse tells. -/
def ParsedR (w0 : World) (A : HP) (r : Except (Nat × Nat) (List Acc)) (e : Ending) (w' : World) : Prop :=
  (∃ (T m : Nat) (x : UT), r = .ok (accs x.L) ∧ x.Ok ∧ St w0 (TabW T m x * A) w' ∧ e = .returned (.tuple #[.pointer (some ⟨T, 0, none⟩), .int .i64 0, .int .i64 0])) ∨
  (∃ k n : Nat, r = .error (k, n) ∧ St w0 A w' ∧ e = .returned (.tuple #[.pointer none, nV k, nV n]))

end
section
attribute [local go_sem] F8.t9_eq F8.t3_eq
theorem parse_any {w0 w : World} {A : HP} (h : St w0 A w) [Gives A Tabs] (text : List UInt8) :
    Calls Tryz.prog 8 #[.string (strOf text)] w (ParsedR w0 A (parseF text)) := by
  refine F8.calls (by simp) ?_
  unfold F8.code
  simp -dsimp -implicitDefEqProofs (disch := omega) only [go_sem, reqD_of, dec_t, dec_f, wrap_i64, wrap_u32, wrap_u64, wrap_u8]
  refine h.new fun C0 w1 h1 => ?_
  simp -dsimp -implicitDefEqProofs (disch := omega) only [go_sem, reqD_of, dec_t, dec_f, wrap_i64, wrap_u32, wrap_u64, wrap_u8, h1.cl C0]
  by_cases ht : (65536 : Int) < text.length
  · have hp : parseF text = .error (1, 0) := by rw [parseF, if_pos (by omega)]
    rw [hp]
    simp -dsimp -implicitDefEqProofs (disch := omega) only [go_sem, reqD_of, dec_t, dec_f, wrap_i64, wrap_u32, wrap_u64, wrap_u8, ht]
    exact .inr ⟨1, 0, rfl, h1.right, rfl⟩
  have ht' : ¬ 65536 < text.length := by omega
  simp -dsimp -implicitDefEqProofs (disch := omega) only [go_sem, reqD_of, dec_t, dec_f, wrap_i64, wrap_u32, wrap_u64, wrap_u8, ht]
  refine St.makeMap (enc := sv) h1 fun m w2 h2 => ?_
  simp -dsimp -implicitDefEqProofs (disch := omega) only [go_sem, reqD_of, dec_t, dec_f, wrap_i64, wrap_u32, wrap_u64, wrap_u8]
  refine onV_of (v := .agg #[.slice none 0 0, .map (some m), .map none]) (by kernel_rfl) ?_
  simp -dsimp -implicitDefEqProofs (disch := omega) only [go_sem, reqD_of, dec_t, dec_f, wrap_i64, wrap_u32, wrap_u64, wrap_u8]
  refine h2.new fun T w3 h3 => ?_
  simp -dsimp -implicitDefEqProofs (disch := omega) only [go_sem, reqD_of, dec_t, dec_f, wrap_i64, wrap_u32, wrap_u64, wrap_u8]
  refine h3.new fun C2 w4 h4 => ?_
  simp -dsimp -implicitDefEqProofs (disch := omega) only [go_sem, reqD_of, dec_t, dec_f, wrap_i64, wrap_u32, wrap_u64, wrap_u8]
  refine h4.sto (b := C2) (off := 0) (by simp) rfl fun w5 h5 => ?_
  simp only [List.setIfInBounds_toArray, List.set_cons_zero] at h5
  simp -dsimp -implicitDefEqProofs (disch := omega) only [go_sem, reqD_of, dec_t, dec_f, wrap_i64, wrap_u32, wrap_u64, wrap_u8]
  refine h5.new fun C1 w6 h6 => ?_
  simp -dsimp -implicitDefEqProofs (disch := omega) only [go_sem, reqD_of, dec_t, dec_f, wrap_i64, wrap_u32, wrap_u64, wrap_u8]
  refine h6.sto (b := C1) (off := 0) (by simp) rfl fun w7 h7 => ?_
  simp only [List.setIfInBounds_toArray, List.set_cons_zero] at h7
  simp -dsimp -implicitDefEqProofs (disch := omega) only [go_sem, reqD_of, dec_t, dec_f, wrap_i64, wrap_u32, wrap_u64, wrap_u8]
  refine h7.new fun C3 w8 h8 => ?_
  simp -dsimp -implicitDefEqProofs (disch := omega) only [go_sem, reqD_of, dec_t, dec_f, wrap_i64, wrap_u32, wrap_u64, wrap_u8]
  refine (guard_any (α := UT) (p := fun x => parseF text = .ok (accs x.L) ∧ x.Ok) (B := fun x => cellI C1 0 * (cellT C2 T * (TabW T m x * A))) (q := fun _ => True)
    (C := fun k => HP.ex fun p : Nat × Nat => HP.fact (k = (p.1 : Nat) ∧ parseF text = .error p) (cellI C1 p.2 * A)) h8 fact_fnOk_28 fun P2 w9 h9 => ?_).mono ?_
  · have g9 : Gives (errB P2 0 * A) Tabs := inferInstance
    have h9 : St w0 (errB P2 0 * (Blk C3 (.cells #[.slice none 0 0] 68 (0, 0)) * (cellI C1 0 * (cellT C2 T * (Blk T (tabB (.slice none 0 0) m (.map none)) * (MapP sv m [] * (cellS C0 text * A))))))) w9 := h9
    refine (parse_loop (C0 := C0) (C1 := C1) (C2 := C2) (C3 := C3) (T := T) (m := m) (gt := g9) ht' (h9.ac (by ac_rfl))).mono ?_
    rintro e' w10 (⟨rfl, x, hx, h10⟩ | ⟨k, n, rfl, hr, h10⟩)
    · exact .inl ⟨rfl, x, hx, h10.ac (by ac_rfl)⟩
    · refine .inr ⟨k, rfl, trivial, ?_⟩
      have h11 : St w0 (errB P2 0 * (cellI C1 n * A)) w10 := h10.ac (by ac_rfl)
      exact h11.ent (Ent.sep (Ent.rfl' _) ((Ent.fact (p := ((k : Nat) : Int) = ((k, n) : Nat × Nat).1 ∧ parseF text = .error (k, n)) ⟨rfl, hr⟩ _).trans (Ent.ex (fun p : Nat × Nat => HP.fact (((k : Nat) : Int) = (p.1 : Nat) ∧ parseF text = .error p) (cellI C1 p.2 * A)) (k, n))))
  · rintro e' w9 (⟨rfl, x, ⟨hx, hok⟩, h9⟩ | ⟨k, rfl, _, h9⟩)
    · rw [hx]
      simp -dsimp -implicitDefEqProofs (disch := omega) only [go_sem, reqD_of, dec_t, dec_f, wrap_i64, wrap_u32, wrap_u64, wrap_u8, h9.cl C2]
      exact .inl ⟨T, m, x, rfl, hok, h9.right.right, rfl⟩
    · obtain ⟨⟨k', n⟩, h10⟩ := h9.ex
      obtain ⟨⟨e1, e2⟩, h11⟩ := St.factF (F := EmpH) ((h10.ent (empL' _)).ac (by ac_rfl))
      simp only at e1 h11
      subst e1
      have hk0 : ¬ ((k' : Nat) : Int) = 0 := by have := parseF_bad e2; omega
      rw [e2]
      simp -dsimp -implicitDefEqProofs (disch := omega) only [go_sem, reqD_of, dec_t, dec_f, wrap_i64, wrap_u32, wrap_u64, wrap_u8, hk0, h11.cl C1, h11.drew.cl C1]
      exact .inr ⟨k', n, rfl, (h11.drew.gives (B := A)), rfl⟩
end
end Go.Proofs.YtkijkoakloacoaaGreatDoor

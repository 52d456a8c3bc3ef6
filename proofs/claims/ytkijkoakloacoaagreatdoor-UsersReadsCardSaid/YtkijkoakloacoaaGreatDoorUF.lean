/- users.Print. users.Print, whole. (pick) law06: pick, name, among, table. law06: rows of accounts. -/
import Derived.Test.YtkijkoakloacoaaGreatDoorUE
import Derived.Test.YtkijkoakloacoaaGreatDoorUA
namespace Go.Proofs.YtkijkoakloacoaaGreatDoor
open Go
set_option linter.unusedVariables false
set_option linter.unusedSimpArgs false
set_option maxRecDepth 100000

abbrev ReadsA (v : Value) (L : List AV) : HP := Reads 4 v L.length (L.flatMap accC)
abbrev cellA (b : Nat) (v : Value) : HP := Blk b (.cells #[v] 38 (0, 0))
def PrintR (w0 : World) (C1 T m : Nat) (A : HP) (L : List AV) (e : Ending) (w' : World) : Prop :=
  (e = .returned (.tuple #[]) ∧ ∃ vl : Value, printF (accs L) = .ok (textF (accs L)) ∧ St w0 (cellT C1 T * (TabQ T m vl (.map none) L * A)) w') ∨
  (∃ k : Nat, e = .panicked (trouble k) ∧ (k ≠ 0 ∧ printF (accs L) = .error k) ∧ St w0 A w')

theorem accs_take (L : List AV) (i : Nat) : accs (L.take i) = (accs L).take i := by simp
/-- What row i of accounts holds. -/
theorem row_acc {w0 w : World} {B : HP} (h : St w0 B w) {av : Option Addr} {cv : Nat} {L : List AV} (hv : Ent B (ReadsA (.slice av L.length cv) L)) {i : Nat} (hi : i < L.length) :
    ∃ b o, av = some ⟨b, o, none⟩ ∧ rowV w ⟨b, o + i * 4, none⟩ 4 = some (.agg (accL L[i].1 L[i].2).toArray) := by
  obtain ⟨_, a', c', hv', _, hrow⟩ := St.rowsAt accC_len (by decide) (h.ent hv)
  simp only [Value.slice.injEq, true_and] at hv'
  obtain ⟨rfl, rfl⟩ := hv'
  obtain ⟨b, o, rfl, hr, _⟩ := hrow i hi
  exact ⟨b, o, rfl, hr⟩
/-- .. and its members. -/
theorem ms_slice {w0 w : World} {B : HP} (h : St w0 B w) {a : Acc} {v : Value} (hv : Ent B (ReadsT v a.members)) : ∃ x c, v = .slice x a.members.length c := by
  obtain ⟨x, c, e, _⟩ := h.texts hv
  exact ⟨x, c, e⟩

section
attribute [local go_sem] F49.t4_eq F49.t2_eq F49.t12_eq F49.t7_eq F49.t17_eq F49.t15_eq F49.t18_eq F49.t13_eq F49.t5_eq
theorem print_end {w0 w : World} {A : HP} {C0 C1 T m : Nat} {v vl : Value} {L : List AV} {e : FA} (hd : e.ds = []) (e0 : e.ρ 0 = .pointer (some ⟨C0, 0, none⟩)) (e1 : e.ρ 1 = .pointer (some ⟨C1, 0, none⟩))
    (hv : Ent A (ReadsA v L)) (hm : MsOk A L) (hn : L.length ≤ 16777216) (hl : (textF (accs L)).length ≤ 1099511627776) (g1 : (accs L).all formF = true) (g2 : ((accs L).all onceF && decide ((accs L).map (·.name)).Nodup) = true)
    (h : St w0 (TabQ T m vl (.map none) L * (cellA C0 v * (cellT C1 T * A))) w) :
    cwE Tryz.prog F49.t13 (fnP Tryz.prog #[] (PrintR w0 C1 T m A L)) e w := by
  rw [F49.t13_eq]
  obtain ⟨av, cv, rfl, _⟩ : ∃ a c, v = .slice a L.length c ∧ True := by
    obtain ⟨_, a, c, e, _⟩ := St.rowsAt accC_len (by decide) (h.right.right.right.ent hv)
    exact ⟨a, c, e, trivial⟩
  simp -dsimp -implicitDefEqProofs (disch := omega) only [go_sem, reqD_of, dec_t, dec_f, wrap_i64, wrap_u32, wrap_u64, wrap_u8, hd, e0, e1, h.cl C0]
  refine loop_intro (fun e w' => e.ds = [] ∧ e.ρ 0 = .pointer (some ⟨C0, 0, none⟩) ∧ e.ρ 1 = .pointer (some ⟨C1, 0, none⟩) ∧ e.ρ 44 = .slice av L.length cv ∧ e.ρ 45 = .int .i64 L.length ∧
      ∃ i : Nat, i ≤ L.length ∧ e.ρ 46 = .int .i64 i ∧ (accs L).all (namedF (accs L)) = ((accs L).drop i).all (namedF (accs L)) ∧
        St w0 (TabQ T m vl (.map none) L * (cellA C0 (.slice av L.length cv) * (cellT C1 T * A))) w')
    (fun e _ => match e.ρ 46 with | .int _ n => (L.length - n).toNat | _ => 0) ?_ ?_
  · exact ⟨by simp -dsimp -implicitDefEqProofs only [go_sem, hd], by simp -dsimp -implicitDefEqProofs only [go_sem, e0], by simp -dsimp -implicitDefEqProofs only [go_sem, e1], by simp -dsimp -implicitDefEqProofs only [go_sem], by simp -dsimp -implicitDefEqProofs only [go_sem], 0, by omega, by simp -dsimp -implicitDefEqProofs only [go_sem], rfl, h⟩
  clear h hd e0 e1 e w
  rintro e w ⟨hd, e0, e1, e44, e45, i, hi, e46, hk, h⟩
  by_cases hlt : (i : Int) < (L.length : Int)
  case neg =>
    have hz : (accs L).drop i = [] := List.drop_of_length_le (by simp; omega)
    rw [hz, List.all_nil] at hk
    have hpr : printF (accs L) = if joinF (accs L) then .ok (textF (accs L)) else .error 1 := by
      unfold printF
      rw [g1, g2, hk]
      rfl
    simp -dsimp -implicitDefEqProofs (disch := omega) only [go_sem, reqD_of, dec_t, dec_f, wrap_i64, wrap_u32, wrap_u64, wrap_u8, hd, e0, e1, e44, e45, e46, hlt, h.cl C1]
    have gA : Gives (cellA C0 (.slice av L.length cv) * (cellT C1 T * A)) A := inferInstance
    refine (text_any h (hm.weak gA.ent) (by omega) (by omega)).mono ?_
    rintro e' w1 ⟨h1, rfl⟩
    simp -dsimp -implicitDefEqProofs (disch := omega) only [go_sem, reqD_of, dec_t, dec_f, wrap_i64, wrap_u32, wrap_u64, wrap_u8]
    have hj : decide (((textF (accs L)).length : Int) ≤ 65536) = joinF (accs L) := decide_eq_decide.2 (by omega)
    refine (need_st h1 _ _).mono ?_
    rintro e' w2 ⟨h2, ⟨n1, rfl⟩ | ⟨n1, rfl⟩⟩
    · rw [hj] at n1
      rw [n1] at hpr
      simp -dsimp -implicitDefEqProofs (disch := omega) only [go_sem, reqD_of, dec_t, dec_f, wrap_i64, wrap_u32, wrap_u64, wrap_u8, hd]
      exact .inl ⟨rfl, vl, hpr, (h2.ac (by ac_rfl : _ = cellA C0 (.slice av L.length cv) * (cellT C1 T * (TabQ T m vl (.map none) L * A)))).right⟩
    · rw [hj] at n1
      rw [n1] at hpr
      simp -dsimp -implicitDefEqProofs (disch := omega) only [go_sem, reqD_of, dec_t, dec_f, wrap_i64, wrap_u32, wrap_u64, wrap_u8, hd]
      exact .inr ⟨1, rfl, ⟨by decide, hpr⟩, h2.right.right.right⟩
  have hlt' : i < L.length := by omega
  have gA : Gives (TabQ T m vl (.map none) L * (cellA C0 (.slice av L.length cv) * (cellT C1 T * A))) A := inferInstance
  have gB : Gives (cellA C0 (.slice av L.length cv) * (cellT C1 T * A)) A := inferInstance
  obtain ⟨b, o, rfl, hr⟩ := row_acc h (gA.ent.trans hv) hlt'
  have hx := hm _ (List.getElem_mem hlt')
  have hzd : (accs L).drop i = L[i].1 :: (accs L).drop (i + 1) := by
    rw [List.drop_eq_getElem_cons (by simp; omega)]; simp
  rw [hzd, List.all_cons] at hk
  obtain ⟨x, hxe⟩ : ∃ x, x = L[i] := ⟨_, rfl⟩
  rw [← hxe] at hr hx hk
  obtain ⟨a, va⟩ := x
  obtain ⟨hx1, hx2, hx3⟩ := hx
  simp only at hx1 hx2 hx3 hk hr
  obtain ⟨am, cm, rfl⟩ := ms_slice h (gA.ent.trans hx1)
  simp -dsimp -implicitDefEqProofs (disch := omega) only [go_sem, reqD_of, dec_t, dec_f, wrap_i64, wrap_u32, wrap_u64, wrap_u8, hd, e0, e1, e44, e45, e46, hlt, hr]
  refine h.new fun Q w1 h1 => ?_
  simp -dsimp -implicitDefEqProofs (disch := omega) only [go_sem, reqD_of, dec_t, dec_f, wrap_i64, wrap_u32, wrap_u64, wrap_u8, hd, e0, e1]
  refine h1.stoAll (b := Q) (n := 4) (cs := accL a (.slice am a.members.length cm)) rfl rfl (fun v hv => by simp at hv; rcases hv with rfl | rfl | rfl | rfl <;> rfl) fun w2 h2 => ?_
  simp -dsimp -implicitDefEqProofs (disch := omega) only [go_sem, reqD_of, dec_t, dec_f, wrap_i64, wrap_u32, wrap_u64, wrap_u8, hd, e0, e1, h2.cl C1, h2.rowH Q 4 rfl, h2.cl Q]
  refine (named_any (T := T) (m := m) (vl := vl) (vi := .map none) (L := L) (A := cellA C0 (.slice (some ⟨b, o, none⟩) L.length cv) * (cellT C1 T * A)) h2.right (gB.ent.trans hx1) hx2).mono ?_
  rintro e' w4 ⟨h4, ⟨hy, rfl⟩ | ⟨hy, rfl⟩⟩
  · rw [hy, Bool.true_and] at hk
    simp -dsimp -implicitDefEqProofs (disch := omega) only [go_sem, reqD_of, dec_t, dec_f, wrap_i64, wrap_u32, wrap_u64, wrap_u8, hd, e0, e1, e44, e45, e46]
    exact ⟨⟨i + 1, by omega, by omega, hk, h4⟩, by omega⟩
  · rw [hy, Bool.false_and] at hk
    have hpr : printF (accs L) = .error 62 := by
      unfold printF
      rw [g1, g2, hk]
      rfl
    simp -dsimp -implicitDefEqProofs (disch := omega) only [go_sem, reqD_of, dec_t, dec_f, wrap_i64, wrap_u32, wrap_u64, wrap_u8, hd]
    exact .inr ⟨62, rfl, ⟨by decide, hpr⟩, h4.right.right.right⟩
end
end Go.Proofs.YtkijkoakloacoaaGreatDoor

namespace Go.Proofs.YtkijkoakloacoaaGreatDoor
open Go
set_option linter.unusedVariables false
set_option linter.unusedSimpArgs false
set_option maxRecDepth 100000

theorem print61 {L : List Acc} (g1 : L.all formF = true) (g2 : (L.all onceF && decide (L.map (·.name)).Nodup) = false) : printF L = .error 61 := by
  unfold printF
  rw [g1, g2]
  rfl
theorem nodup_known {L : List Acc} {i : Nat} (hi : i < L.length) (hk : known (L.take i) L[i].name = true) : ¬ (L.map (·.name)).Nodup := by
  intro hn
  have h1 : ((L.take (i + 1)).map (·.name)).Nodup := hn.sublist ((List.take_sublist _ _).map _)
  rw [List.take_succ_eq_append_getElem hi, List.map_append, List.nodup_append] at h1
  exact h1.2.2 _ (known_iff.1 hk) _ (by simp) rfl
theorem nodup_next {L : List Acc} {i : Nat} (hi : i < L.length) (hk : known (L.take i) L[i].name = false) (hn : ((L.take i).map (·.name)).Nodup) : ((L.take (i + 1)).map (·.name)).Nodup := by
  rw [List.take_succ_eq_append_getElem hi, List.map_append, List.nodup_append]
  refine ⟨hn, by simp, fun x hx y hy => ?_⟩
  simp only [List.map_cons, List.map_nil, List.mem_singleton] at hy
  subst hy
  rintro rfl
  exact known_false.1 hk hx

section
attribute [local go_sem] F49.t4_eq F49.t2_eq F49.t12_eq F49.t7_eq F49.t17_eq F49.t15_eq F49.t18_eq F49.t5_eq
theorem print_mid {w0 w : World} {A : HP} {C0 C1 T m : Nat} {v : Value} {L : List AV} {e : FA} (hd : e.ds = []) (e0 : e.ρ 0 = .pointer (some ⟨C0, 0, none⟩)) (e1 : e.ρ 1 = .pointer (some ⟨C1, 0, none⟩))
    (hv : Ent A (ReadsA v L)) (hm : MsOk A L) (hn : L.length ≤ 16777216) (hl : (textF (accs L)).length ≤ 1099511627776) (g1 : (accs L).all formF = true)
    (h : St w0 (TabQ T m (.slice none 0 0) (.map none) [] * (cellA C0 v * (cellT C1 T * A))) w) :
    cwE Tryz.prog F49.t5 (fnP Tryz.prog #[] (PrintR w0 C1 T m A L)) e w := by
  rw [F49.t5_eq]
  obtain ⟨av, cv, rfl, _⟩ : ∃ a c, v = .slice a L.length c ∧ True := by
    obtain ⟨_, a, c, e, _⟩ := St.rowsAt accC_len (by decide) (h.right.right.right.ent hv)
    exact ⟨a, c, e, trivial⟩
  simp -dsimp -implicitDefEqProofs (disch := omega) only [go_sem, reqD_of, dec_t, dec_f, wrap_i64, wrap_u32, wrap_u64, wrap_u8, hd, e0, e1, h.cl C0]
  refine loop_intro (fun e w' => e.ds = [] ∧ e.ρ 0 = .pointer (some ⟨C0, 0, none⟩) ∧ e.ρ 1 = .pointer (some ⟨C1, 0, none⟩) ∧ e.ρ 19 = .slice av L.length cv ∧ e.ρ 20 = .int .i64 L.length ∧
      ∃ (i : Nat) (vl : Value), i ≤ L.length ∧ e.ρ 21 = .int .i64 i ∧ (accs L).all onceF = ((accs L).drop i).all onceF ∧ (((accs L).take i).map (·.name)).Nodup ∧
        St w0 (TabQ T m vl (.map none) (L.take i) * (cellA C0 (.slice av L.length cv) * (cellT C1 T * A))) w')
    (fun e _ => match e.ρ 21 with | .int _ n => (L.length - n).toNat | _ => 0) ?_ ?_
  · exact ⟨by simp -dsimp -implicitDefEqProofs only [go_sem, hd], by simp -dsimp -implicitDefEqProofs only [go_sem, e0], by simp -dsimp -implicitDefEqProofs only [go_sem, e1], by simp -dsimp -implicitDefEqProofs only [go_sem], by simp -dsimp -implicitDefEqProofs only [go_sem], 0, _, by omega, by simp -dsimp -implicitDefEqProofs only [go_sem], rfl, by simp, h⟩
  clear h hd e0 e1 e w
  rintro e w ⟨hd, e0, e1, e19, e20, i, vl, hi, e21, hk, hnd, h⟩
  by_cases hlt : (i : Int) < (L.length : Int)
  case neg =>
    have hz : (accs L).drop i = [] := List.drop_of_length_le (by simp; omega)
    rw [hz, List.all_nil] at hk
    rw [List.take_of_length_le (by simp; omega)] at hnd
    rw [List.take_of_length_le (by omega)] at h
    simp -dsimp -implicitDefEqProofs (disch := omega) only [go_sem, reqD_of, dec_t, dec_f, wrap_i64, wrap_u32, wrap_u64, wrap_u8, hd, e0, e1, e19, e20, e21, hlt]
    exact print_end hd e0 e1 hv hm hn hl g1 (by rw [hk, Bool.true_and]; exact decide_eq_true hnd) h
  have hlt' : i < L.length := by omega
  have gA : Gives (TabQ T m vl (.map none) (L.take i) * (cellA C0 (.slice av L.length cv) * (cellT C1 T * A))) A := inferInstance
  have gB : Gives (cellA C0 (.slice av L.length cv) * (cellT C1 T * A)) A := inferInstance
  obtain ⟨b, o, rfl, hr⟩ := row_acc h (gA.ent.trans hv) hlt'
  have hx := hm _ (List.getElem_mem hlt')
  have hla : i < (accs L).length := by simpa using hlt'
  have hge : (accs L)[i] = L[i].1 := by simp
  have hzd : (accs L).drop i = L[i].1 :: (accs L).drop (i + 1) := by rw [List.drop_eq_getElem_cons hla, hge]
  rw [hzd, List.all_cons] at hk
  have hten : L.take (i + 1) = L.take i ++ [L[i]] := List.take_succ_eq_append_getElem hlt'
  obtain ⟨x, hxe⟩ : ∃ x, x = L[i] := ⟨_, rfl⟩
  rw [← hxe] at hr hx hk hge hten
  obtain ⟨a, va⟩ := x
  obtain ⟨hx1, hx2, hx3⟩ := hx
  simp only at hx1 hx2 hx3 hk hr hge
  obtain ⟨am, cm, rfl⟩ := ms_slice h (gA.ent.trans hx1)
  simp -dsimp -implicitDefEqProofs (disch := omega) only [go_sem, reqD_of, dec_t, dec_f, wrap_i64, wrap_u32, wrap_u64, wrap_u8, hd, e0, e1, e19, e20, e21, hlt, hr]
  refine h.new fun Q w1 h1 => ?_
  simp -dsimp -implicitDefEqProofs (disch := omega) only [go_sem, reqD_of, dec_t, dec_f, wrap_i64, wrap_u32, wrap_u64, wrap_u8, hd, e0, e1]
  refine h1.stoAll (b := Q) (n := 4) (cs := accL a (.slice am a.members.length cm)) rfl rfl (fun v hv => by simp at hv; rcases hv with rfl | rfl | rfl | rfl <;> rfl) fun w2 h2 => ?_
  simp -dsimp -implicitDefEqProofs (disch := omega) only [go_sem, reqD_of, dec_t, dec_f, wrap_i64, wrap_u32, wrap_u64, wrap_u8, hd, e0, e1, h2.cl C1, h2.cl T, h2.cl Q, h2.drew.cl C1, h2.drew.cl T, h2.drew.cl Q]
  refine h2.drew.lkH (b := m) (x := a.name) Tryz.underlying64 lawS zero_int ?_
  obtain ⟨z, hz⟩ := lkV_at (accs (L.take i)) a.name
  rw [hz]
  simp -dsimp -implicitDefEqProofs (disch := omega) only [go_sem, reqD_of, dec_t, dec_f, wrap_i64, wrap_u32, wrap_u64, wrap_u8, hd, e0, e1, h2.cl C1, h2.cl T, h2.cl Q, h2.drew.cl C1, h2.drew.cl T, h2.drew.cl Q]
  have h3 : St w0 (TabQ T m vl (.map none) (L.take i) * (cellA C0 (.slice (some ⟨b, o, none⟩) L.length cv) * (cellT C1 T * A))) w2.drew := h2.drew.right
  refine (need_st h2.drew _ _).mono ?_
  rintro e' w5 ⟨h5, ⟨hkn, rfl⟩ | ⟨hkn, rfl⟩⟩
  case inr =>
    have hk' : known (accs (L.take i)) a.name = true := by simpa using hkn
    rw [accs_take, ← hge] at hk'
    have hpr := print61 g1 (by rw [decide_eq_false (nodup_known hla hk'), Bool.and_false])
    simp -dsimp -implicitDefEqProofs (disch := omega) only [go_sem, reqD_of, dec_t, dec_f, wrap_i64, wrap_u32, wrap_u64, wrap_u8, hd]
    exact .inr ⟨61, rfl, ⟨by decide, hpr⟩, h5.right.right.right.right⟩
  have hk' : known (accs (L.take i)) a.name = false := by simpa using hkn
  have hnd' : (((accs L).take (i + 1)).map (·.name)).Nodup := nodup_next hla (by rw [hge, ← accs_take]; exact hk') hnd
  simp -dsimp -implicitDefEqProofs (disch := omega) only [go_sem, reqD_of, dec_t, dec_f, wrap_i64, wrap_u32, wrap_u64, wrap_u8, hd, e0, e1, h5.rowH Q 4 rfl, h5.cl Q]
  have gC : Gives (Blk Q (.cells (accL a (.slice am a.members.length cm)).toArray 72 (0, 0)) * (TabQ T m vl (.map none) (L.take i) * (cellA C0 (.slice (some ⟨b, o, none⟩) L.length cv) * (cellT C1 T * A)))) A := inferInstance
  refine (once_any h5 (a := a) (v := .slice am a.members.length cm) (gC.ent.trans hx1) hx2).mono ?_
  rintro e' w6 ⟨h6, ⟨ho, rfl⟩ | ⟨ho, rfl⟩⟩
  case inr =>
    rw [ho, Bool.false_and] at hk
    have hpr := print61 g1 (by rw [hk, Bool.false_and])
    simp -dsimp -implicitDefEqProofs (disch := omega) only [go_sem, reqD_of, dec_t, dec_f, wrap_i64, wrap_u32, wrap_u64, wrap_u8, hd]
    exact .inr ⟨61, rfl, ⟨by decide, hpr⟩, h6.right.right.right.right⟩
  rw [ho, Bool.true_and] at hk
  simp -dsimp -implicitDefEqProofs (disch := omega) only [go_sem, reqD_of, dec_t, dec_f, wrap_i64, wrap_u32, wrap_u64, wrap_u8, hd, e0, e1, h6.cl C1, h6.rowH Q 4 rfl, h6.cl Q]
  refine (add_new (T := T) (m := m) (L := L.take i) (vl := vl) (vi := .map none) (a := a) (v := .slice am a.members.length cm) (A := cellA C0 (.slice (some ⟨b, o, none⟩) L.length cv) * (cellT C1 T * A)) h6.right hk' rfl (by simp; omega)).mono ?_
  rintro e' w7 ⟨vl', h7, rfl⟩
  rw [← hten] at h7
  simp -dsimp -implicitDefEqProofs (disch := omega) only [go_sem, reqD_of, dec_t, dec_f, wrap_i64, wrap_u32, wrap_u64, wrap_u8, hd, e0, e1, e19, e20, e21]
  exact ⟨⟨i + 1, vl', by omega, by omega, hk, hnd', h7⟩, by omega⟩

end
section
attribute [local go_sem] F49.t4_eq F49.t2_eq F49.t12_eq F49.t7_eq F49.t17_eq F49.t15_eq F49.t18_eq F49.t13_eq
theorem print_loop {w0 w : World} {A : HP} {C0 C1 T m : Nat} {v : Value} {L : List AV} [gt : Gives A Tabs] (hv : Ent A (ReadsA v L)) (hm : MsOk A L) (hn : L.length ≤ 16777216) (hl : (textF (accs L)).length ≤ 1099511627776)
    (h : St w0 (TabQ T m (.slice none 0 0) (.map none) [] * (cellA C0 v * (cellT C1 T * A))) w) :
    Calls Tryz.prog 49 #[.pointer (some ⟨C0, 0, none⟩), .pointer (some ⟨C1, 0, none⟩)] w (PrintR w0 C1 T m A L) := by
  obtain ⟨av, cv, rfl, _⟩ : ∃ a c, v = .slice a L.length c ∧ True := by
    obtain ⟨_, a, c, e, _⟩ := St.rowsAt accC_len (by decide) (h.right.right.right.ent hv)
    exact ⟨a, c, e, trivial⟩
  refine F49.calls (by simp) ?_
  unfold F49.code
  simp -dsimp -implicitDefEqProofs (disch := omega) only [go_sem, reqD_of, dec_t, dec_f, wrap_i64, wrap_u32, wrap_u64, wrap_u8, h.cl C0]
  refine loop_intro (fun e w' => e.ds = [] ∧ e.ρ 0 = .pointer (some ⟨C0, 0, none⟩) ∧ e.ρ 1 = .pointer (some ⟨C1, 0, none⟩) ∧ e.ρ 10 = .slice av L.length cv ∧ e.ρ 11 = .int .i64 L.length ∧
      ∃ i : Nat, i ≤ L.length ∧ e.ρ 12 = .int .i64 i ∧ (accs L).all formF = ((accs L).drop i).all formF ∧
        St w0 (TabQ T m (.slice none 0 0) (.map none) [] * (cellA C0 (.slice av L.length cv) * (cellT C1 T * A))) w')
    (fun e _ => match e.ρ 12 with | .int _ n => (L.length - n).toNat | _ => 0) ?_ ?_
  · exact ⟨rfl, by simp -dsimp -implicitDefEqProofs only [go_sem], by simp -dsimp -implicitDefEqProofs only [go_sem], by simp -dsimp -implicitDefEqProofs only [go_sem], by simp -dsimp -implicitDefEqProofs only [go_sem], 0, by omega, by simp -dsimp -implicitDefEqProofs only [go_sem], rfl, h⟩
  clear h w
  rintro e w ⟨hd, e0, e1, e10, e11, i, hi, e12, hk, h⟩
  by_cases hlt : (i : Int) < (L.length : Int)
  case neg =>
    have hz : (accs L).drop i = [] := List.drop_of_length_le (by simp; omega)
    rw [hz, List.all_nil] at hk
    simp -dsimp -implicitDefEqProofs (disch := omega) only [go_sem, reqD_of, dec_t, dec_f, wrap_i64, wrap_u32, wrap_u64, wrap_u8, hd, e0, e1, e10, e11, e12, hlt]
    exact print_mid hd e0 e1 hv hm hn hl hk h
  have hlt' : i < L.length := by omega
  have gA : Gives (TabQ T m (.slice none 0 0) (.map none) [] * (cellA C0 (.slice av L.length cv) * (cellT C1 T * A))) A := inferInstance
  obtain ⟨b, o, rfl, hr⟩ := row_acc h (gA.ent.trans hv) hlt'
  have hx := hm _ (List.getElem_mem hlt')
  have hzd : (accs L).drop i = L[i].1 :: (accs L).drop (i + 1) := by
    rw [List.drop_eq_getElem_cons (by simp; omega)]; simp
  rw [hzd, List.all_cons] at hk
  obtain ⟨x, hxe⟩ : ∃ x, x = L[i] := ⟨_, rfl⟩
  rw [← hxe] at hr hx hk
  obtain ⟨a, va⟩ := x
  obtain ⟨hx1, hx2, hx3⟩ := hx
  simp only at hx1 hx2 hx3 hk hr
  obtain ⟨am, cm, rfl⟩ := ms_slice h (gA.ent.trans hx1)
  simp -dsimp -implicitDefEqProofs (disch := omega) only [go_sem, reqD_of, dec_t, dec_f, wrap_i64, wrap_u32, wrap_u64, wrap_u8, hd, e0, e1, e10, e11, e12, hlt, hr]
  refine h.new fun Q w1 h1 => ?_
  simp -dsimp -implicitDefEqProofs (disch := omega) only [go_sem, reqD_of, dec_t, dec_f, wrap_i64, wrap_u32, wrap_u64, wrap_u8, hd, e0, e1]
  refine h1.stoAll (b := Q) (n := 4) (cs := accL a (.slice am a.members.length cm)) rfl rfl (fun v hv => by simp at hv; rcases hv with rfl | rfl | rfl | rfl <;> rfl) fun w2 h2 => ?_
  simp -dsimp -implicitDefEqProofs (disch := omega) only [go_sem, reqD_of, dec_t, dec_f, wrap_i64, wrap_u32, wrap_u64, wrap_u8, hd, e0, e1, h2.rowH Q 4 rfl, h2.cl Q]
  have gT : Gives (TabQ T m (.slice none 0 0) (.map none) [] * (cellA C0 (.slice (some ⟨b, o, none⟩) L.length cv) * (cellT C1 T * A))) Tabs := inferInstance
  refine (formed_any h2.right (a := a) (v := .slice am a.members.length cm) (gA.ent.trans hx1) hx2).mono ?_
  rintro e' w4 ⟨h4, ⟨hy, rfl⟩ | ⟨hy, rfl⟩⟩
  · rw [hy, Bool.true_and] at hk
    simp -dsimp -implicitDefEqProofs (disch := omega) only [go_sem, reqD_of, dec_t, dec_f, wrap_i64, wrap_u32, wrap_u64, wrap_u8, hd, e0, e1, e10, e11, e12]
    exact ⟨⟨i + 1, by omega, by omega, hk, h4⟩, by omega⟩
  · rw [hy, Bool.false_and] at hk
    have hpr : printF (accs L) = .error 60 := by
      unfold printF
      rw [hk]
      rfl
    simp -dsimp -implicitDefEqProofs (disch := omega) only [go_sem, reqD_of, dec_t, dec_f, wrap_i64, wrap_u32, wrap_u64, wrap_u8, hd]
    exact .inr ⟨60, rfl, ⟨by decide, hpr⟩, h4.right.right.right⟩

/-- What Print tells. -/
def PrintedR (w0 : World) (A : HP) (L : List Acc) (e : Ending) (w' : World) : Prop :=
  St w0 A w' ∧ ((printF L = .ok (textF L) ∧ e = .returned (.tuple #[sv (textF L), .int .i64 0])) ∨ (∃ k : Nat, k ≠ 0 ∧ printF L = .error k ∧ e = .returned (.tuple #[sv [], .int .i64 (k : Nat)])))

end
section
attribute [local go_sem] F14.t5_eq
theorem print_any {w0 w : World} {A : HP} (h : St w0 A w) [Gives A Tabs] {v : Value} {L : List AV} (hv : Ent A (ReadsA v L)) (hm : MsOk A L) (hn : L.length ≤ 16777216) (hl : (textF (accs L)).length ≤ 1099511627776) :
    Calls Tryz.prog 14 #[v] w (PrintedR w0 A (accs L)) := by
  obtain ⟨av, cv, rfl, _⟩ : ∃ a c, v = .slice a L.length c ∧ True := by
    obtain ⟨_, a, c, e, _⟩ := St.rowsAt accC_len (by decide) (h.ent hv)
    exact ⟨a, c, e, trivial⟩
  refine F14.calls (by simp) ?_
  unfold F14.code
  simp -dsimp -implicitDefEqProofs (disch := omega) only [go_sem, reqD_of, dec_t, dec_f, wrap_i64, wrap_u32, wrap_u64, wrap_u8]
  refine h.new fun C0 w1 h1 => ?_
  simp -dsimp -implicitDefEqProofs (disch := omega) only [go_sem, reqD_of, dec_t, dec_f, wrap_i64, wrap_u32, wrap_u64, wrap_u8]
  refine St.makeMap (enc := sv) h1 fun m w2 h2 => ?_
  simp -dsimp -implicitDefEqProofs (disch := omega) only [go_sem, reqD_of, dec_t, dec_f, wrap_i64, wrap_u32, wrap_u64, wrap_u8]
  refine onV_of (v := .agg #[.slice none 0 0, .map (some m), .map none]) (by kernel_rfl) ?_
  simp -dsimp -implicitDefEqProofs (disch := omega) only [go_sem, reqD_of, dec_t, dec_f, wrap_i64, wrap_u32, wrap_u64, wrap_u8]
  refine h2.new fun T w3 h3 => ?_
  simp -dsimp -implicitDefEqProofs (disch := omega) only [go_sem, reqD_of, dec_t, dec_f, wrap_i64, wrap_u32, wrap_u64, wrap_u8]
  refine h3.new fun C1 w4 h4 => ?_
  simp -dsimp -implicitDefEqProofs (disch := omega) only [go_sem, reqD_of, dec_t, dec_f, wrap_i64, wrap_u32, wrap_u64, wrap_u8]
  refine h4.sto (b := C1) (off := 0) (by simp) rfl fun w5 h5 => ?_
  simp only [List.setIfInBounds_toArray, List.set_cons_zero] at h5
  simp -dsimp -implicitDefEqProofs (disch := omega) only [go_sem, reqD_of, dec_t, dec_f, wrap_i64, wrap_u32, wrap_u64, wrap_u8]
  refine (guard_any (α := Value) (p := fun _ => printF (accs L) = .ok (textF (accs L))) (B := fun vl => cellT C1 T * (TabQ T m vl (.map none) L * A)) (q := fun _ => True)
    (C := fun k => HP.ex fun p : Nat => HP.fact (k = (p : Nat) ∧ p ≠ 0 ∧ printF (accs L) = .error p) A) h5 fact_fnOk_49 fun P2 w9 h9 => ?_).mono ?_
  · have h9 : St w0 (errB P2 0 * (cellT C1 T * (Blk T (tabB (.slice none 0 0) m (.map none)) * (MapP sv m [] * (cellA C0 (.slice av L.length cv) * A))))) w9 := h9
    have h10 : St w0 (RowO 72 4 (.slice none 0 0) 0 [] * (errB P2 0 * (cellT C1 T * (Blk T (tabB (.slice none 0 0) m (.map none)) * (MapP sv m [] * (cellA C0 (.slice av L.length cv) * A)))))) w9 := h9.nilR 72 4
    have h11 : St w0 (TabQ T m (.slice none 0 0) (.map none) [] * (cellA C0 (.slice av L.length cv) * (cellT C1 T * (errB P2 0 * A)))) w9 := h10.ac (by show _ = (Blk T (tabB (.slice none 0 0) m (.map none)) * (RowO 72 4 (.slice none 0 0) 0 [] * MapP sv m [])) * (cellA C0 (.slice av L.length cv) * (cellT C1 T * (errB P2 0 * A))); ac_rfl)
    have g9 : Gives (errB P2 0 * A) Tabs := inferInstance
    refine (print_loop (gt := g9) (C0 := C0) (C1 := C1) (T := T) (m := m) (v := .slice av L.length cv) (A := errB P2 0 * A) ((Ent.right _ _).trans hv) (hm.weak (Ent.right _ _)) hn hl h11).mono ?_
    rintro e' w10 (⟨rfl, vl, hx, h12⟩ | ⟨k, rfl, ⟨hk0, hr⟩, h12⟩)
    · exact .inl ⟨rfl, vl, hx, h12.ac (by ac_rfl)⟩
    · refine .inr ⟨k, rfl, trivial, ?_⟩
      exact h12.ent (Ent.sep (Ent.rfl' _) ((Ent.fact (p := ((k : Nat) : Int) = (k : Nat) ∧ k ≠ 0 ∧ printF (accs L) = .error k) ⟨rfl, hk0, hr⟩ _).trans (Ent.ex (fun p : Nat => HP.fact (((k : Nat) : Int) = (p : Nat) ∧ p ≠ 0 ∧ printF (accs L) = .error p) A) k)))
  · rintro e' w9 (⟨rfl, vl, hx, h9⟩ | ⟨k, rfl, _, h9⟩)
    · simp -dsimp -implicitDefEqProofs (disch := omega) only [go_sem, reqD_of, dec_t, dec_f, wrap_i64, wrap_u32, wrap_u64, wrap_u8, h9.cl C1]
      have h10 : St w0 (TabQ T m vl (.map none) L * (cellT C1 T * A)) w9 := h9.ac (by ac_rfl)
      refine (text_any h10 (hm.weak (Ent.right _ _)) (by omega) (by omega)).mono ?_
      rintro e' w10 ⟨h11, rfl⟩
      simp -dsimp -implicitDefEqProofs (disch := omega) only [go_sem, reqD_of, dec_t, dec_f, wrap_i64, wrap_u32, wrap_u64, wrap_u8]
      exact ⟨h11.right.right, .inl ⟨hx, rfl⟩⟩
    · obtain ⟨k', h10⟩ := h9.ex
      obtain ⟨⟨e1, e2, e3⟩, h11⟩ := St.factF (F := EmpH) ((h10.ent (empL' _)).ac (by ac_rfl))
      subst e1
      have hk0 : ¬ ((k' : Nat) : Int) = 0 := by omega
      simp -dsimp -implicitDefEqProofs (disch := omega) only [go_sem, reqD_of, dec_t, dec_f, wrap_i64, wrap_u32, wrap_u64, wrap_u8, hk0]
      exact ⟨h11.gives, .inr ⟨k', by first | exact e2 | exact e3, by first | exact e3 | exact e2, rfl⟩⟩
end
end Go.Proofs.YtkijkoakloacoaaGreatDoor

namespace Go.Proofs.YtkijkoakloacoaaGreatDoor
open Go
set_option linter.unusedVariables false
set_option linter.unusedSimpArgs false
set_option maxRecDepth 100000

def InI (c : Int) : Prop := -9223372036854775808 ≤ c ∧ c < 9223372036854775808
section
attribute [local go_sem] F18.t3_eq
theorem pick_any {w0 w : World} {F : HP} {c n : Int} (h : St w0 F w) (hc : InI c) (hn : 0 < n) (hn2 : n < 1000000000000) : Calls Tryz.prog 18 #[.int .i64 c, .int .i64 n] w fun e w' => St w0 F w' ∧ e = .returned (.int .i64 (pickI c n)) := by
  obtain ⟨hc1, hc2⟩ := hc
  refine F18.calls (by simp) ?_
  unfold F18.code
  have hn0 : ¬ n = 0 := by omega
  by_cases hneg : c < 0
  · have e : pickI c n = (-(c + 1)).tmod n := by unfold pickI; rw [if_pos hneg]
    rw [e]
    simp -dsimp -implicitDefEqProofs (disch := omega) only [go_sem, reqD_of, dec_t, dec_f, wrap_i64, wrap_u32, wrap_u64, wrap_u8, hneg, hn0]
    exact ⟨h, by rw [Int.zero_sub]⟩
  · have e : pickI c n = c.tmod n := by unfold pickI; rw [if_neg hneg]
    rw [e]
    simp -dsimp -implicitDefEqProofs (disch := omega) only [go_sem, reqD_of, dec_t, dec_f, wrap_i64, wrap_u32, wrap_u64, wrap_u8, hneg, hn0]
    exact h
theorem pick_nat {c : Int} {n : Nat} (hn : 0 < n) : ∃ k : Nat, k < n ∧ pickI c n = (k : Int) := by
  obtain ⟨h1, h2⟩ := pickI_range (c := c) (n := n) (by omega)
  exact ⟨(pickI c n).toNat, by omega, by omega⟩
end
end Go.Proofs.YtkijkoakloacoaaGreatDoor

namespace Go.Proofs.YtkijkoakloacoaaGreatDoor
open Go
set_option linter.unusedVariables false
set_option linter.unusedSimpArgs false
set_option maxRecDepth 100000

abbrev rowA (v : Value) (L : List AV) : HP := RowO 72 4 v L.length (L.flatMap accC)
abbrev bkA (P : Nat) (a : Acc) (v : Value) : HP := Blk P (.cells (accL a v).toArray 72 (0, 0))
end Go.Proofs.YtkijkoakloacoaaGreatDoor

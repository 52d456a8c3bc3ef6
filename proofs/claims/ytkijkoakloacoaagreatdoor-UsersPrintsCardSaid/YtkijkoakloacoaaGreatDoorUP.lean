/- law06: accounts that are lent. law06: what was lent is as it was; it is written over. law06: UsersPrints. -/
import Derived.Test.YtkijkoakloacoaaGreatDoorUO
import Derived.Test.YtkijkoakloacoaaGreatDoorUM
namespace Go.Proofs.YtkijkoakloacoaaGreatDoor
open Go
set_option linter.unusedVariables false
set_option linter.unusedSimpArgs false
set_option maxRecDepth 100000

/-- An account that is lent: its members' list, with two marks behind it. -/
abbrev YD := Acc × Option Addr × Nat
abbrev fullV (y : YD) : Value := .slice y.2.1 (y.1.members.length + 2) y.2.2
abbrev viewV (y : YD) : Value := .slice y.2.1 y.1.members.length y.2.2
abbrev viewY (y : YD) : AV := (y.1, viewV y)
def rowY (y : YD) : HP := RowO 9 1 (fullV y) (y.1.members.length + 2) (y.1.members.map sv ++ [sv [63], sv [33]])
def marksY : List AV := [(⟨[63], [], [], []⟩, .slice none 0 0), (⟨[33], [], [], []⟩, .slice none 0 0)]
abbrev loanB (X : Nat) (va vm : Value) : HP := Blk X (.cells #[va, vm] 90 (0, 0))
abbrev LoanQ (X : Nat) (va vm : Value) (Y : List YD) : HP := loanB X va vm * (rowA va (Y.map viewY ++ marksY) * (rowV' vm (Y.map fullV) * starL rowY Y))

theorem rowY_view (y : YD) : Ent (rowY y) (ReadsT (viewV y) y.1.members) := by
  have h1 := RowO.reads 9 1 (fullV y) (y.1.members.length + 2) (y.1.members.map sv ++ [sv [63], sv [33]])
  have h2 := Reads.takeK (s := 1) (a := y.2.1) (c := y.2.2) (k := y.1.members.length) (xs := y.1.members.map sv ++ [sv [63], sv [33]]) (show y.1.members.length ≤ y.1.members.length + 2 by omega)
  rw [slice_ite, Nat.sub_zero, Nat.mul_one, List.take_left' (by simp)] at h2
  exact h1.trans h2
theorem loan_ms {Y : List YD} {A : HP} (hA : Ent A (starL rowY Y)) (hf : ∀ y ∈ Y, Fit y.1) : MsOk A (Y.map viewY) := fun x hx => by
  obtain ⟨y, hy, rfl⟩ := List.mem_map.1 hx
  exact ⟨hA.trans ((starL_mem (A := rowY) hy).trans (rowY_view y)), hf y hy, rfl⟩

section
attribute [local go_sem] F13.t4_eq F13.t5_eq F13.t12_eq
theorem lent_any {w0 w : World} {A : HP} (h : St w0 A w) {v : Value} {L : List AV} (hv : Ent A (ReadsA v L)) (hm : MsOk A L) (hn : L.length ≤ 16777216) :
    Calls Tryz.prog 13 #[v] w fun e w' => ∃ (X : Nat) (va vm : Value) (Y : List YD), Y.map (·.1) = accs L ∧ St w0 (LoanQ X va vm Y * A) w' ∧ e = .returned (.pointer (some ⟨X, 0, none⟩)) := by
  obtain ⟨a1, c1, rfl, hao⟩ := rdA_form h hv
  refine F13.calls (by simp) ?_
  unfold F13.code
  simp -dsimp -implicitDefEqProofs (disch := omega) only [go_sem, reqD_of, dec_t, dec_f, wrap_i64, wrap_u32, wrap_u64, wrap_u8]
  refine onV_of (v := .agg #[.slice none 0 0, .slice none 0 0]) (by kernel_rfl) ?_
  simp -dsimp -implicitDefEqProofs (disch := omega) only [go_sem, reqD_of, dec_t, dec_f, wrap_i64, wrap_u32, wrap_u64, wrap_u8]
  refine h.new fun X w1 h1 => ?_
  simp -dsimp -implicitDefEqProofs (disch := omega) only [go_sem, reqD_of, dec_t, dec_f, wrap_i64, wrap_u32, wrap_u64, wrap_u8]
  refine loop_intro (fun e w' => e.ds = [] ∧ e.ρ 0 = .slice a1 L.length c1 ∧ e.ρ 3 = .pointer (some ⟨X, 0, none⟩) ∧ ∃ (i : Nat) (va vm : Value) (Y : List YD), i ≤ L.length ∧ e.ρ 4 = .int .i64 i ∧ Y.map (·.1) = (accs L).take i ∧ St w0 (loanB X va vm * (rowA va (Y.map viewY) * (rowV' vm (Y.map fullV) * (starL rowY Y * A)))) w')
    (fun e _ => match e.ρ 4 with | .int _ n => (L.length - n).toNat | _ => 0) ?_ ?_
  · refine ⟨rfl, by simp -dsimp -implicitDefEqProofs only [go_sem], by simp -dsimp -implicitDefEqProofs only [go_sem], 0, .slice none 0 0, .slice none 0 0, [], by omega, by simp -dsimp -implicitDefEqProofs only [go_sem], by simp, ?_⟩
    have h2 := ((h1.ent (empL' _)).nilR 22 1).nilR 72 4
    exact h2.ac (by simp only [rowA, rowV', starL, List.map_nil, List.flatMap_nil, List.length_nil]; ac_rfl)
  clear h h1
  rintro e w2 ⟨hd, e0, e3, i, va, vm, Y, hi, e4, hY, h2⟩
  have hYl : Y.length = i := by have := congrArg List.length hY; simp at this; omega
  obtain ⟨aa, ca, rfl, _⟩ := h2.rowForm va
  obtain ⟨am, cm, rfl, _⟩ := h2.rowForm vm
  by_cases hlt : (i : Int) < (L.length : Int)
  case neg =>
    rw [List.take_of_length_le (by simp; omega)] at hY
    simp -dsimp -implicitDefEqProofs (disch := omega) only [go_sem, reqD_of, dec_t, dec_f, wrap_i64, wrap_u32, wrap_u64, wrap_u8, hd, e0, e3, e4, hlt, h2.cl X, h2.drew.cl X]
    refine onV_of (v := accV ⟨[63], [], [], []⟩ (.slice none 0 0)) (by kernel_rfl) ?_
    simp -dsimp -implicitDefEqProofs (disch := omega) only [go_sem, reqD_of, dec_t, dec_f, wrap_i64, wrap_u32, wrap_u64, wrap_u8, hd, e0, e3]
    refine onV_of (v := accV ⟨[33], [], [], []⟩ (.slice none 0 0)) (by kernel_rfl) ?_
    simp -dsimp -implicitDefEqProofs (disch := omega) only [go_sem, reqD_of, dec_t, dec_f, wrap_i64, wrap_u32, wrap_u64, wrap_u8, hd, e0, e3]
    refine h2.lit (t := 38) (n := 2) (cells := accL ⟨[63], [], [], []⟩ (.slice none 0 0) ++ accL ⟨[33], [], [], []⟩ (.slice none 0 0)) fact_rowTy_38 rfl (by decide) (by decide) fun v3 w3 h3 => ?_
    obtain ⟨a3, c3, rfl, _⟩ := h3.rowForm v3
    simp -dsimp -implicitDefEqProofs (disch := omega) only [go_sem, reqD_of, dec_t, dec_f, wrap_i64, wrap_u32, wrap_u64, wrap_u8, hd, e0, e3]
    refine h3.appR (v := .slice aa (Y.map viewY).length ca) (x := .slice a3 2 c3) fact_rowTy_38 Tryz.underlying38 (fun u hu => by simp at hu; rcases hu with rfl | rfl | rfl | rfl | rfl | rfl | rfl | rfl <;> rfl) (by simp) (show _ ≤ 9223372036854775807 by simp; omega) (by simp; omega) fun v4 w4 h4 => ?_
    obtain ⟨a4, c4, rfl, _⟩ := h4.rowForm v4
    simp -dsimp -implicitDefEqProofs (disch := omega) only [go_sem, reqD_of, dec_t, dec_f, wrap_i64, wrap_u32, wrap_u64, wrap_u8, hd, e0, e3]
    refine h4.sto (b := X) (off := 0) (by simp) rfl fun w5 h5 => ?_
    simp only [List.setIfInBounds_toArray, List.set_cons_succ, List.set_cons_zero] at h5
    simp -dsimp -implicitDefEqProofs (disch := omega) only [go_sem, reqD_of, dec_t, dec_f, wrap_i64, wrap_u32, wrap_u64, wrap_u8, hd, e0, e3]
    refine ⟨X, .slice a4 ((Y.map viewY).length + 2) c4, .slice am (Y.map fullV).length cm, Y, hY, ?_, rfl⟩
    have q1 : (Y.map viewY ++ marksY).length = (Y.map viewY).length + 2 := by simp [marksY]
    have q2 : (Y.map viewY ++ marksY).flatMap accC = (Y.map viewY).flatMap accC ++ (accL ⟨[63], [], [], []⟩ (.slice none 0 0) ++ accL ⟨[33], [], [], []⟩ (.slice none 0 0)) := by simp [marksY]
    unfold LoanQ rowA
    rw [q1, q2, sep_assoc, sep_assoc, sep_assoc]
    exact h5.sub
  have hi1 : i < L.length := by omega
  obtain ⟨b, o, rfl⟩ := hao i hi1
  have cells : ∀ {C : HP} {w : World}, St w0 C w → Gives C A → _ := fun h g => rdA_cells h (g.ent.trans hv) hi1
  have hx := hm _ (List.getElem_mem hi1)
  have hst : (accs L).take (i + 1) = (accs L).take i ++ [L[i].1] := by rw [List.take_succ_eq_append_getElem (by simpa using hi1)]; simp
  obtain ⟨y, hy⟩ : ∃ y, y = L[i] := ⟨_, rfl⟩
  simp only [← hy] at cells hst hx
  obtain ⟨a, va⟩ := y
  obtain ⟨x1, x2, x3⟩ := hx
  simp only at x1 x2 x3 cells hst
  obtain ⟨xm, xc, rfl⟩ := ms_slice h2 ((Gives.ent (B := A)).trans x1)
  obtain ⟨⟨f1, f2, f3, f4⟩, _⟩ := cells h2 inferInstance
  simp -dsimp -implicitDefEqProofs (disch := omega) only [go_sem, reqD_of, dec_t, dec_f, wrap_i64, wrap_u32, wrap_u64, wrap_u8, hd, e0, e3, e4, hlt, f3]
  have h3 := h2.nilR 9 1
  refine h3.app (v := .slice none 0 0) (x := .slice xm a.members.length xc) (m := a.members.length) (news := a.members.map sv) fact_rowTy_22 ((Ent.right _ _).trans ((Gives.ent (B := A)).trans x1)) Tryz.underlying22 (fun u hu => by obtain ⟨x, _, rfl⟩ := List.mem_map.1 hu; rfl) (fun h => by simpa using h) (show _ ≤ 9223372036854775807 by have := x2.2; omega) (by have := x2.2; omega) fun v4 w4 h4 => ?_
  simp only [Nat.zero_add, List.nil_append] at h4
  obtain ⟨a4, c4, rfl, _⟩ := h4.rowForm v4
  simp -dsimp -implicitDefEqProofs (disch := omega) only [go_sem, reqD_of, dec_t, dec_f, wrap_i64, wrap_u32, wrap_u64, wrap_u8, hd, e0, e3, e4]
  refine h4.lit (t := 22) (n := 2) (cells := [sv [63], sv [33]]) fact_rowTy_22 rfl (by decide) (by decide) fun v5 w5 h5 => ?_
  obtain ⟨a5, c5, rfl, _⟩ := h5.rowForm v5
  simp -dsimp -implicitDefEqProofs (disch := omega) only [go_sem, reqD_of, dec_t, dec_f, wrap_i64, wrap_u32, wrap_u64, wrap_u8, hd, e0, e3, e4]
  refine h5.appR (v := .slice a4 (a.members.length) c4) (x := .slice a5 2 c5) fact_rowTy_22 Tryz.underlying22 (fun u hu => by simp at hu; rcases hu with rfl | rfl <;> rfl) (by simp) (show _ ≤ 9223372036854775807 by have := x2.2; omega) (by have := x2.2; omega) fun v6 w6 h6 => ?_
  obtain ⟨a6, c6, rfl, _, hc6, _⟩ := h6.rowForm v6
  simp -dsimp -implicitDefEqProofs (disch := omega) only [go_sem, reqD_of, dec_t, dec_f, wrap_i64, wrap_u32, wrap_u64, wrap_u8, hd, e0, e3, e4, h6.cl X]
  refine h6.lit (t := 33) (n := 1) (cells := [.slice a6 (a.members.length + 2) c6]) fact_rowTy_33 rfl (by decide) (by decide) fun v7 w7 h7 => ?_
  obtain ⟨a7, c7, rfl, _⟩ := h7.rowForm v7
  simp -dsimp -implicitDefEqProofs (disch := omega) only [go_sem, reqD_of, dec_t, dec_f, wrap_i64, wrap_u32, wrap_u64, wrap_u8, hd, e0, e3, e4, h7.cl X]
  refine h7.appR (v := .slice am (Y.map fullV).length cm) (x := .slice a7 1 c7) fact_rowTy_33 Tryz.underlying33 (fun u hu => by simp at hu; subst hu; rfl) (by simp) (show _ ≤ 9223372036854775807 by simp; omega) (by simp; omega) fun v8 w8 h8 => ?_
  obtain ⟨a8, c8, rfl, _⟩ := h8.rowForm v8
  simp -dsimp -implicitDefEqProofs (disch := omega) only [go_sem, reqD_of, dec_t, dec_f, wrap_i64, wrap_u32, wrap_u64, wrap_u8, hd, e0, e3, e4]
  refine h8.sto (b := X) (off := 1) (by simp) rfl fun w9 h9 => ?_
  simp only [List.setIfInBounds_toArray, List.set_cons_succ, List.set_cons_zero] at h9
  simp -dsimp -implicitDefEqProofs (disch := omega) only [go_sem, reqD_of, dec_t, dec_f, wrap_i64, wrap_u32, wrap_u64, wrap_u8, hd, e0, e3, e4, (cells h9 inferInstance).2]
  refine h9.new fun P w10 h10 => ?_
  simp -dsimp -implicitDefEqProofs (disch := omega) only [go_sem, reqD_of, dec_t, dec_f, wrap_i64, wrap_u32, wrap_u64, wrap_u8, hd, e0, e3, e4]
  refine h10.stoAll (b := P) (n := 4) (cs := accL a (.slice xm a.members.length xc)) rfl rfl (fun v hv => by simp at hv; rcases hv with rfl | rfl | rfl | rfl <;> rfl) fun w11 h11 => ?_
  have hw : IntKind.i64.wrap (((a.members.length + 2 : Nat) : Int) - 2) = ((a.members.length : Nat) : Int) := by
    have := x2.2
    rw [wrap_i64 (by omega) (by omega)]; omega
  simp -dsimp -implicitDefEqProofs (disch := omega) only [go_sem, reqD_of, dec_t, dec_f, wrap_i64, wrap_u32, wrap_u64, wrap_u8, hd, e0, e3, e4, hw]
  refine h11.sto (b := P) (off := 2) (by simp) rfl fun w12 h12 => ?_
  simp only [List.setIfInBounds_toArray, List.set_cons_succ, List.set_cons_zero] at h12
  have r12 := h12.rowH P 4 rfl
  have h13 := h12.drew
  have r13 := h13.rowH P 4 rfl
  simp -dsimp -implicitDefEqProofs (disch := omega) only [go_sem, reqD_of, dec_t, dec_f, wrap_i64, wrap_u32, wrap_u64, wrap_u8, hd, e0, e3, e4, h12.cl X, h13.cl X, r12, r13]
  refine h13.lit (t := 38) (n := 1) (cells := accL a (.slice a6 a.members.length c6)) fact_rowTy_38 rfl (by decide) (by decide) fun v14 w14 h14 => ?_
  obtain ⟨a14, c14, rfl, _⟩ := h14.rowForm v14
  have r14 := h14.rowH P 4 rfl
  simp -dsimp -implicitDefEqProofs (disch := omega) only [go_sem, reqD_of, dec_t, dec_f, wrap_i64, wrap_u32, wrap_u64, wrap_u8, hd, e0, e3, e4, h14.cl X, r14]
  refine h14.appR (v := .slice aa (Y.map viewY).length ca) (x := .slice a14 1 c14) fact_rowTy_38 Tryz.underlying38 (fun u hu => by simp at hu; rcases hu with rfl | rfl | rfl | rfl <;> rfl) (by simp) (show _ ≤ 9223372036854775807 by simp; omega) (by simp; omega) fun v15 w15 h15 => ?_
  obtain ⟨a15, c15, rfl, _⟩ := h15.rowForm v15
  have r15 := h15.rowH P 4 rfl
  simp -dsimp -implicitDefEqProofs (disch := omega) only [go_sem, reqD_of, dec_t, dec_f, wrap_i64, wrap_u32, wrap_u64, wrap_u8, hd, e0, e3, e4, h15.cl X, r15]
  refine h15.sto (b := X) (off := 0) (by simp) rfl fun w16 h16 => ?_
  simp only [List.setIfInBounds_toArray, List.set_cons_succ, List.set_cons_zero] at h16
  simp -dsimp -implicitDefEqProofs (disch := omega) only [go_sem, reqD_of, dec_t, dec_f, wrap_i64, wrap_u32, wrap_u64, wrap_u8, hd, e0, e3, e4]
  have q0 : (Y.map viewY).length = Y.length := by simp
  have q1 : ((Y ++ [(a, a6, c6)]).map viewY).length = (Y.map viewY).length + 1 := by simp
  have q2 : ((Y ++ [(a, a6, c6)]).map viewY).flatMap accC = (Y.map viewY).flatMap accC ++ accL a (.slice a6 a.members.length c6) := by simp
  have q3 : (Y ++ [(a, a6, c6)]).map fullV = Y.map fullV ++ [.slice a6 (a.members.length + 2) c6] := by simp
  have q4 : ((Y ++ [(a, a6, c6)]).map fullV).length = (Y.map fullV).length + 1 := by simp
  refine ⟨⟨i + 1, .slice a15 ((Y.map viewY).length + 1) c15, .slice a8 ((Y.map fullV).length + 1) c8, Y ++ [(a, a6, c6)], by omega, by omega, by rw [List.map_append, hY, hst]; rfl, ?_⟩, by omega⟩
  have h17 : St w0 (loanB X (.slice a15 ((Y.map viewY).length + 1) c15) (.slice a8 ((Y.map fullV).length + 1) c8) * (RowO 72 4 (.slice a15 ((Y.map viewY).length + 1) c15) ((Y.map viewY).length + 1) ((Y.map viewY).flatMap accC ++ accL a (.slice a6 a.members.length c6)) * (RowO 22 1 (.slice a8 ((Y.map fullV).length + 1) c8) ((Y.map fullV).length + 1) (Y.map fullV ++ [.slice a6 (a.members.length + 2) c6]) * (starL rowY Y * (RowO 9 1 (.slice a6 (a.members.length + 2) c6) (a.members.length + 2) (a.members.map sv ++ [sv [63], sv [33]]) * A))))) w16 := h16.sub
  unfold rowA rowV'
  rw [q1, q2, q4, q3]
  refine h17.ent (Ent.sep (Ent.rfl' _) (Ent.sep (Ent.rfl' _) (Ent.sep (Ent.rfl' _) ?_)))
  rw [← sep_assoc]
  refine Ent.sep ?_ (Ent.rfl' _)
  refine Ent.trans (Ent.sep (Ent.rfl' _) ?_) (starL_join rowY Y [(a, a6, c6)])
  show Ent _ (rowY (a, a6, c6) * EmpH)
  rw [sep_comm]
  exact Ent.embL _
end
end Go.Proofs.YtkijkoakloacoaaGreatDoor

namespace Go.Proofs.YtkijkoakloacoaaGreatDoor
open Go
set_option linter.unusedVariables false
set_option linter.unusedSimpArgs false
set_option maxRecDepth 100000


theorem given_any {w0 w : World} {F : HP} {X n ca : Nat} {aa : Option Addr} {vm : Value} (h : St w0 (loanB X (.slice aa (n + 2) ca) vm * F) w) (hc : n + 2 ≤ ca) (hn : n ≤ 16777216) :
    Calls Tryz.prog 15 #[.pointer (some ⟨X, 0, none⟩)] w fun e w' => St w0 (loanB X (.slice aa (n + 2) ca) vm * F) w' ∧ e = .returned (.slice aa n ca) := by
  refine F15.calls (by simp) ?_
  unfold F15.code
  have hw : IntKind.i64.wrap (((n + 2 : Nat) : Int) - 2) = ((n : Nat) : Int) := by rw [wrap_i64 (by omega) (by omega)]; omega
  simp -dsimp -implicitDefEqProofs (disch := omega) only [go_sem, reqD_of, dec_t, dec_f, wrap_i64, wrap_u32, wrap_u64, wrap_u8, h.cl X, h.drew.cl X, hw]
  exact h.drew

def rowZ (y : YD) : HP := HP.ex fun ys : List Value => HP.fact (ys.length = y.1.members.length + 2) (RowO 9 1 (fullV y) (y.1.members.length + 2) ys)
theorem rowZ_of (y : YD) : Ent (rowY y) (rowZ y) :=
  (Ent.fact (show (y.1.members.map sv ++ [sv [63], sv [33]]).length = y.1.members.length + 2 by simp) _).trans (Ent.ex (fun ys : List Value => HP.fact (ys.length = y.1.members.length + 2) (RowO 9 1 (fullV y) (y.1.members.length + 2) ys)) _)
theorem starL_mono {α : Type} {A B : α → HP} (h : ∀ x, Ent (A x) (B x)) : ∀ l : List α, Ent (starL A l) (starL B l)
  | [] => Ent.rfl' _
  | x :: l => Ent.sep (h x) (starL_mono h l)

section
attribute [local go_sem] F17.t5_eq F17.t6_eq F17.t15_eq F17.t16_eq F17.t17_eq F17.t12_eq F17.t13_eq F17.t18_eq
theorem back_t10 {w0 w : World} {A : HP} {X : Nat} {va vm : Value} {Y : List YD} {zs : List Value} {e : FA} (hd : e.ds = []) (e0 : e.ρ 0 = .pointer (some ⟨X, 0, none⟩)) (e6 : e.ρ 6 = .bool true) (hzs : zs.length = (Y.length + 2) * 4) (hn : Y.length ≤ 16777216) (hf : ∀ y ∈ Y, Fit y.1)
    (h : St w0 (loanB X va vm * (RowO 72 4 va (Y.length + 2) zs * (rowV' vm (Y.map fullV) * (starL rowZ Y * A)))) w) :
    cwE Tryz.prog F17.t10 (fnP Tryz.prog #[.tmp 4] fun e w' => St w0 A w' ∧ e = .returned (.bool true)) e w := by
  rw [F17.t10_eq]
  obtain ⟨aa, ca, rfl, _⟩ := h.rowForm va
  obtain ⟨am, cm, rfl, _⟩ := h.rowForm vm
  simp -dsimp -implicitDefEqProofs (disch := omega) only [go_sem, reqD_of, dec_t, dec_f, wrap_i64, wrap_u32, wrap_u64, wrap_u8, hd, e0]
  refine loop_intro (fun e w' => e.ds = [] ∧ e.ρ 0 = .pointer (some ⟨X, 0, none⟩) ∧ e.ρ 6 = .bool true ∧ ∃ (i : Nat) (zs : List Value), i ≤ Y.length ∧ e.ρ 11 = .int .i64 i ∧ zs.length = (Y.length + 2) * 4 ∧ St w0 (loanB X (.slice aa (Y.length + 2) ca) (.slice am (Y.map fullV).length cm) * (RowO 72 4 (.slice aa (Y.length + 2) ca) (Y.length + 2) zs * (rowV' (.slice am (Y.map fullV).length cm) (Y.map fullV) * (starL rowZ Y * A)))) w')
    (fun e _ => match e.ρ 11 with | .int _ n => (Y.length - n).toNat | _ => 0) ?_ ?_
  · exact ⟨by simp -dsimp -implicitDefEqProofs only [go_sem, hd], by simp -dsimp -implicitDefEqProofs only [go_sem, e0], by simp -dsimp -implicitDefEqProofs only [go_sem, e6], 0, zs, by omega, by simp -dsimp -implicitDefEqProofs only [go_sem], hzs, h⟩
  clear h hd e0 e6 e w hzs
  rintro e w ⟨hd, e0, e6, i, zs, hi, e11, hzs, h⟩
  have hml : (Y.map fullV).length = Y.length := by simp
  by_cases hlt : (i : Int) < (Y.length : Int)
  case neg =>
    simp -dsimp -implicitDefEqProofs (disch := omega) only [go_sem, reqD_of, dec_t, dec_f, wrap_i64, wrap_u32, wrap_u64, wrap_u8, hd, e0, e6, e11, h.cl X, hml, hlt]
    exact h.right.right.right.right
  have hi1 : i < Y.length := by omega
  obtain ⟨bm, om, rfl, hcm⟩ := h.at1 (a := am) (n := (Y.map fullV).length) (c := cm) (xs := Y.map fullV) (k := i) (by simpa using hi1)
  obtain ⟨ba, oa, rfl⟩ : ∃ b o, aa = some ⟨b, o, none⟩ := by
    obtain ⟨_, _, e9, _, hz | ⟨b, o, rfl, _⟩⟩ := (h.gives (B := Reads 4 (.slice aa (Y.length + 2) ca) (Y.length + 2) zs)).rd.form
    · rw [hz] at hzs; simp at hzs
    · simp only [Value.slice.injEq] at e9
      exact ⟨b, o, e9.1⟩
  rw [List.getElem_map] at hcm
  have hyf := hf _ (List.getElem_mem hi1)
  have hdec : Y = Y.take i ++ Y[i] :: Y.drop (i + 1) := by rw [← List.drop_eq_getElem_cons hi1, List.take_append_drop]
  obtain ⟨y, hy⟩ : ∃ y, y = Y[i] := ⟨_, rfl⟩
  rw [← hy] at hcm hdec hyf
  have hsl : starL rowZ Y = rowZ y * starL rowZ (Y.take i ++ Y.drop (i + 1)) := by
    conv => lhs; rw [hdec]
    exact starL_mid rowZ y _ _
  have h1 : St w0 (rowZ y * (starL rowZ (Y.take i ++ Y.drop (i + 1)) * (loanB X (.slice (some ⟨ba, oa, none⟩) (Y.length + 2) ca) (.slice (some ⟨bm, om, none⟩) (Y.map fullV).length cm) * (RowO 72 4 (.slice (some ⟨ba, oa, none⟩) (Y.length + 2) ca) (Y.length + 2) zs * (rowV' (.slice (some ⟨bm, om, none⟩) (Y.map fullV).length cm) (Y.map fullV) * A))))) w := h.ac (by rw [hsl]; ac_rfl)
  obtain ⟨ys, h1⟩ := h1.exF
  obtain ⟨hys, h1⟩ := h1.factF
  simp -dsimp -implicitDefEqProofs (disch := omega) only [go_sem, reqD_of, dec_t, dec_f, wrap_i64, wrap_u32, wrap_u64, wrap_u8, hd, e0, e6, e11, h.cl X, hml, hlt, hcm]
  refine loop_intro (fun e w' => e.ds = [] ∧ e.ρ 0 = .pointer (some ⟨X, 0, none⟩) ∧ e.ρ 6 = .bool true ∧ e.ρ 11 = .int .i64 i ∧ ∃ (k : Nat) (ys : List Value), k ≤ y.1.members.length + 2 ∧ e.ρ 12 = .int .i64 k ∧ ys.length = y.1.members.length + 2 ∧ St w0 (RowO 9 1 (fullV y) (y.1.members.length + 2) ys * (starL rowZ (Y.take i ++ Y.drop (i + 1)) * (loanB X (.slice (some ⟨ba, oa, none⟩) (Y.length + 2) ca) (.slice (some ⟨bm, om, none⟩) (Y.map fullV).length cm) * (RowO 72 4 (.slice (some ⟨ba, oa, none⟩) (Y.length + 2) ca) (Y.length + 2) zs * (rowV' (.slice (some ⟨bm, om, none⟩) (Y.map fullV).length cm) (Y.map fullV) * A))))) w')
    (fun e _ => match e.ρ 12 with | .int _ n => (y.1.members.length + 2 - n).toNat | _ => 0) ?_ ?_
  · exact ⟨by simp -dsimp -implicitDefEqProofs only [go_sem, hd], by simp -dsimp -implicitDefEqProofs only [go_sem, e0], by simp -dsimp -implicitDefEqProofs only [go_sem, e6], by simp -dsimp -implicitDefEqProofs only [go_sem, e11], 0, ys, by omega, by simp -dsimp -implicitDefEqProofs only [go_sem], hys, h1⟩
  clear h h1 hys
  rintro e2 w2 ⟨hd2, e0', e6', e11', k, ys, hk, e12, hys, h2⟩
  obtain ⟨_, _, hq, hcm2⟩ := h2.at1 (a := some ⟨bm, om, none⟩) (n := (Y.map fullV).length) (c := cm) (xs := Y.map fullV) (k := i) (by simpa using hi1)
  simp only [Option.some.injEq, Addr.mk.injEq, and_true] at hq
  obtain ⟨rfl, rfl⟩ := hq
  rw [List.getElem_map, ← hy] at hcm2
  have hyl := hyf.2
  obtain ⟨a, ax, ac⟩ := y
  simp only [fullV] at hk hys h2 hcm2 hyl
  by_cases hkl : (k : Int) < ((a.members.length + 2 : Nat) : Int)
  · have hkl' : k < ys.length := by omega
    obtain ⟨bx, ox, rfl, hcx⟩ := h2.at1 (a := ax) (n := a.members.length + 2) (c := ac) (xs := ys) (k := k) hkl'
    simp -dsimp -implicitDefEqProofs (disch := omega) only [go_sem, reqD_of, dec_t, dec_f, wrap_i64, wrap_u32, wrap_u64, wrap_u8, hd2, e0', e6', e11', e12, h2.cl X, hml, hlt, hcm2, hkl]
    refine h2.rowSet1 (T := 9) (g := bx) (o := ox) (n := a.members.length + 2) (c := ac) (k := k) (xs := ys) (v := sv [111, 118, 101, 114]) hkl' rfl fun w3 h3 => ?_
    simp -dsimp -implicitDefEqProofs (disch := omega) only [go_sem, reqD_of, dec_t, dec_f, wrap_i64, wrap_u32, wrap_u64, wrap_u8, hd2, e0', e6', e11', e12]
    exact ⟨⟨k + 1, _, by omega, by omega, by rw [List.length_set]; exact hys, h3⟩, by omega⟩
  · simp -dsimp -implicitDefEqProofs (disch := omega) only [go_sem, reqD_of, dec_t, dec_f, wrap_i64, wrap_u32, wrap_u64, wrap_u8, hd2, e0', e6', e11', e12, h2.cl X, hml, hlt, hcm2, hkl]
    refine onV_of (v := accV ⟨[111, 118, 101, 114], [], [], []⟩ (.slice none 0 0)) (by kernel_rfl) ?_
    simp -dsimp -implicitDefEqProofs (disch := omega) only [go_sem, reqD_of, dec_t, dec_f, wrap_i64, wrap_u32, wrap_u64, wrap_u8, hd2, e0', e6', e11', e12, h2.cl X, hml, hlt, hcm2, hkl]
    refine h2.rowSet (T := 72) (s := 4) (g := ba) (o := oa) (n := Y.length + 2) (c := ca) (k := i * 4) (m := 4) (cs := accL ⟨[111, 118, 101, 114], [], [], []⟩ (.slice none 0 0)) (xs := zs) rfl (by omega) (fun v hv => by simp at hv; rcases hv with rfl | rfl | rfl | rfl <;> rfl) fun w3 h3 => ?_
    simp -dsimp -implicitDefEqProofs (disch := omega) only [go_sem, reqD_of, dec_t, dec_f, wrap_i64, wrap_u32, wrap_u64, wrap_u8, hd2, e0', e6', e11', e11, e12]
    refine ⟨⟨i + 1, setRowL zs (i * 4) (accL ⟨[111, 118, 101, 114], [], [], []⟩ (.slice none 0 0)), by omega, by omega, by rw [length_setRowL]; exact hzs, ?_⟩, by omega⟩
    rw [hsl]
    have h4 := h3.ent (Ent.sep ((Ent.fact hys _).trans (Ent.ex (fun ys : List Value => HP.fact (ys.length = a.members.length + 2) (RowO 9 1 (.slice ax (a.members.length + 2) ac) (a.members.length + 2) ys)) ys)) (Ent.rfl' _))
    exact h4.ac (by unfold rowZ; ac_rfl)

end
section
attribute [local go_sem] F17.t5_eq F17.t6_eq F17.t15_eq F17.t16_eq F17.t17_eq F17.t12_eq F17.t13_eq F17.t18_eq
theorem back_any {w0 w : World} {A : HP} {X : Nat} {va vm v : Value} {Y : List YD} {L : List AV} (h : St w0 (LoanQ X va vm Y * A) w) (hY : Y.map (·.1) = accs L) (hv : Ent A (ReadsA v L)) (hm : MsOk A L) (hn : L.length ≤ 16777216) :
    Calls Tryz.prog 17 #[.pointer (some ⟨X, 0, none⟩), v] w fun e w' => St w0 A w' ∧ e = .returned (.bool true) := by
  have hYl : Y.length = L.length := by have := congrArg List.length hY; simpa using this
  have hf : ∀ y ∈ Y, Fit y.1 := fun y hy => by
    have : y.1 ∈ accs L := by rw [← hY]; exact List.mem_map_of_mem (f := (·.1)) hy
    obtain ⟨x, hx, e⟩ := List.mem_map.1 this
    rw [← e]; exact (hm x hx).2.1
  obtain ⟨a1, c1, rfl, hao⟩ := rdA_form h.right hv
  obtain ⟨aa, ca, rfl, _⟩ := h.rowForm va
  obtain ⟨am, cm, rfl, _⟩ := h.rowForm vm
  have gA : Gives (LoanQ X (.slice aa (Y.map viewY ++ marksY).length ca) (.slice am (Y.map fullV).length cm) Y * A) A := ⟨Ent.right _ _⟩
  have hml : (Y.map viewY ++ marksY).length = L.length + 2 := by simp [marksY, hYl]
  have hal : Ent (LoanQ X (.slice aa (Y.map viewY ++ marksY).length ca) (.slice am (Y.map fullV).length cm) Y * A) (ReadsA (.slice aa (Y.map viewY ++ marksY).length ca) (Y.map viewY ++ marksY)) := (Ent.left _ _).trans ((Ent.right _ _).trans ((Ent.left _ _).trans (RowO.reads _ _ _ _ _)))
  obtain ⟨_, _, e9, hoa⟩ := rdA_form h hal
  simp only [Value.slice.injEq, true_and] at e9
  obtain ⟨rfl, rfl⟩ := e9
  obtain ⟨ba, oa, rfl⟩ := hoa L.length (by omega)
  have m0 := (rdA_cells h hal (k := L.length) (by omega)).1.1
  have m1 := (rdA_cells h hal (k := L.length + 1) (by omega)).1.1
  have g0 : (Y.map viewY ++ marksY)[L.length]'(by omega) = (⟨[63], [], [], []⟩, .slice none 0 0) := by
    rw [List.getElem_append_right (by simp; omega)]
    simp [marksY, hYl]
  have g1 : (Y.map viewY ++ marksY)[L.length + 1]'(by omega) = (⟨[33], [], [], []⟩, .slice none 0 0) := by
    rw [List.getElem_append_right (by simp; omega)]
    simp [marksY, hYl]
  rw [g0] at m0
  rw [g1] at m1
  simp only at m0 m1
  refine F17.calls (by simp) ?_
  unfold F17.code
  have hw : IntKind.i64.wrap (((L.length + 2 : Nat) : Int) - 2) = ((L.length : Nat) : Int) := by rw [wrap_i64 (by omega) (by omega)]; omega
  have ht : ((L.length : Int) + 1).toNat = L.length + 1 := by omega
  simp -dsimp -implicitDefEqProofs (disch := omega) only [go_sem, reqD_of, dec_t, dec_f, wrap_i64, wrap_u32, wrap_u64, wrap_u8, h.cl X, hml, hw, m0, m1, ht]
  refine loop_intro (fun e w' => e.ds = [] ∧ e.ρ 0 = .pointer (some ⟨X, 0, none⟩) ∧ e.ρ 1 = .slice a1 L.length c1 ∧ e.ρ 6 = .bool true ∧ St w0 (LoanQ X (.slice (some ⟨ba, oa, none⟩) (Y.map viewY ++ marksY).length ca) (.slice am (Y.map fullV).length cm) Y * A) w' ∧ ∃ i : Nat, i ≤ L.length ∧ e.ρ 7 = .int .i64 i)
    (fun e _ => match e.ρ 7 with | .int _ n => (L.length - n).toNat | _ => 0) ?_ ?_
  · exact ⟨rfl, by simp -dsimp -implicitDefEqProofs only [go_sem], by simp -dsimp -implicitDefEqProofs only [go_sem], by simp -dsimp -implicitDefEqProofs only [go_sem], h, 0, by omega, by simp -dsimp -implicitDefEqProofs only [go_sem]⟩
  clear h m0 m1
  rintro e w2 ⟨hd, e0, e1, e6, h, i, hi, e7⟩
  by_cases hlt : (i : Int) < (L.length : Int)
  case neg =>
    simp -dsimp -implicitDefEqProofs (disch := omega) only [go_sem, reqD_of, dec_t, dec_f, wrap_i64, wrap_u32, wrap_u64, wrap_u8, hd, e0, e1, e6, e7, hlt]
    refine back_t10 (X := X) (va := .slice (some ⟨ba, oa, none⟩) (Y.map viewY ++ marksY).length ca) (vm := .slice am (Y.map fullV).length cm) (zs := (Y.map viewY ++ marksY).flatMap accC) hd e0 e6 (by rw [flatMap_length accC_len, hml, hYl]) (by omega) hf ?_
    have h1 : St w0 (loanB X (.slice (some ⟨ba, oa, none⟩) (Y.map viewY ++ marksY).length ca) (.slice am (Y.map fullV).length cm) * (rowA (.slice (some ⟨ba, oa, none⟩) (Y.map viewY ++ marksY).length ca) (Y.map viewY ++ marksY) * (rowV' (.slice am (Y.map fullV).length cm) (Y.map fullV) * (starL rowY Y * A)))) w2 := h.ac (by unfold LoanQ; ac_rfl)
    have h2 := h1.ent (Ent.sep (Ent.rfl' _) (Ent.sep (Ent.rfl' _) (Ent.sep (Ent.rfl' _) (Ent.sep (starL_mono rowZ_of Y) (Ent.rfl' _)))))
    unfold rowA at h2
    have e9 : (Y.map viewY ++ marksY).length = Y.length + 2 := by omega
    rw [e9] at h2 ⊢
    exact h2
  have hi1 : i < L.length := by omega
  have hiy : i < Y.length := by omega
  obtain ⟨b, o, rfl⟩ := hao i hi1
  have p1 := (rdA_cells h (gA.ent.trans hv) hi1).2
  have p2 := (rdA_cells h.drew (gA.ent.trans hv) hi1).2
  have q1 := (rdA_cells h hal (k := i) (by omega)).2
  have q2 := (rdA_cells h.drew hal (k := i) (by omega)).2
  have g2 : (Y.map viewY ++ marksY)[i]'(by omega) = viewY Y[i] := by
    rw [List.getElem_append_left (by simp; omega)]
    simp
  rw [g2] at q1 q2
  have hcm : ∀ {w' : World}, St w0 (LoanQ X (.slice (some ⟨ba, oa, none⟩) (Y.map viewY ++ marksY).length ca) (.slice am (Y.map fullV).length cm) Y * A) w' → ∃ bm om, am = some ⟨bm, om, none⟩ ∧ w'.cell? ⟨bm, om + i, none⟩ = some (fullV Y[i]) := fun hh => by
    obtain ⟨bm, om, e, hc⟩ := hh.at1 (a := am) (n := (Y.map fullV).length) (c := cm) (xs := Y.map fullV) (k := i) (by simpa using hiy)
    rw [List.getElem_map] at hc
    exact ⟨bm, om, e, hc⟩
  have hyr : ∀ {w' : World}, St w0 (LoanQ X (.slice (some ⟨ba, oa, none⟩) (Y.map viewY ++ marksY).length ca) (.slice am (Y.map fullV).length cm) Y * A) w' → St w0 (Reads 1 (fullV Y[i]) (Y[i].1.members.length + 2) (Y[i].1.members.map sv ++ [sv [63], sv [33]])) w' := fun hh =>
    hh.ent ((Ent.left _ _).trans ((Ent.right _ _).trans ((Ent.right _ _).trans ((Ent.right _ _).trans ((starL_mem (A := rowY) (List.getElem_mem hiy)).trans (RowO.reads _ _ _ _ _))))))
  have hvw := (rowY_view Y[i])
  have hvy : Ent (LoanQ X (.slice (some ⟨ba, oa, none⟩) (Y.map viewY ++ marksY).length ca) (.slice am (Y.map fullV).length cm) Y * A) (ReadsT (viewV Y[i]) Y[i].1.members) := (Ent.left _ _).trans ((Ent.right _ _).trans ((Ent.right _ _).trans ((Ent.right _ _).trans ((starL_mem (A := rowY) (List.getElem_mem hiy)).trans (rowY_view _)))))
  have hx := hm _ (List.getElem_mem hi1)
  have hxy : Y[i].1 = L[i].1 := by
    have : (Y.map (·.1))[i]'(by simpa using hiy) = (accs L)[i]'(by simpa using hi1) := by simp only [hY]
    simpa using this
  obtain ⟨z, hz⟩ : ∃ z, z = L[i] := ⟨_, rfl⟩
  obtain ⟨y, hy⟩ : ∃ y, y = Y[i] := ⟨_, rfl⟩
  simp only [← hz, ← hy] at p1 p2 q1 q2 hcm hyr hvy hx hxy
  obtain ⟨a, av⟩ := z
  obtain ⟨a', ax, ac⟩ := y
  obtain ⟨x1, x2, x3⟩ := hx
  simp only [viewY, viewV, fullV] at p1 p2 q1 q2 hcm hyr hvy x1 x2 x3 hxy
  subst hxy
  obtain ⟨xm, xc, rfl⟩ := ms_slice h (gA.ent.trans x1)
  simp -dsimp -implicitDefEqProofs (disch := omega) only [go_sem, reqD_of, dec_t, dec_f, wrap_i64, wrap_u32, wrap_u64, wrap_u8, hd, e0, e1, e6, e7, hlt, h.cl X, h.drew.cl X, p1, p2, q1, q2, hml]
  refine (sameAccount_any h.drew hvy (gA.ent.trans x1) x2.2).mono ?_
  rintro e' w3 ⟨h3, rfl⟩
  have p3 := (rdA_cells h3 (gA.ent.trans hv) hi1).2
  have q3 := (rdA_cells h3 hal (k := i) (by omega)).2
  rw [← hz] at p3
  rw [g2, ← hy] at q3
  simp only [viewY, viewV] at p3 q3
  obtain ⟨bm, om, rfl, hcm3⟩ := hcm h3
  have r3 := hyr h3
  obtain ⟨bx, ox, rfl, k0⟩ := r3.atS (i := ⟨Ent.rfl' _⟩) (k := a'.members.length) (by simp)
  obtain ⟨_, _, eq, k1⟩ := r3.atS (i := ⟨Ent.rfl' _⟩) (k := a'.members.length + 1) (by simp)
  simp only [Option.some.injEq, Addr.mk.injEq, and_true] at eq
  obtain ⟨rfl, rfl⟩ := eq
  have k0' : (a'.members.map sv ++ [sv [63], sv [33]])[a'.members.length]'(by simp) = sv [63] := by
    rw [List.getElem_append_right (by simp)]; simp
  have k1' : (a'.members.map sv ++ [sv [63], sv [33]])[a'.members.length + 1]'(by simp) = sv [33] := by
    rw [List.getElem_append_right (by simp)]; simp
  rw [k0'] at k0
  rw [k1'] at k1
  have hml2 : (Y.map fullV).length = Y.length := by simp
  have hiyI : (i : Int) < Y.length := by omega
  have hw2 : IntKind.i64.wrap (((a'.members.length + 2 : Nat) : Int) - 2) = ((a'.members.length : Nat) : Int) := by
    have := x2.2
    rw [wrap_i64 (by omega) (by omega)]; omega
  have ht2 : ((a'.members.length : Int) + 1).toNat = a'.members.length + 1 := by omega
  have hb2 := x2.2
  simp -dsimp -implicitDefEqProofs (disch := omega) only [go_sem, reqD_of, dec_t, dec_f, wrap_i64, wrap_u32, wrap_u64, wrap_u8, hd, e0, e1, e6, e7, hlt, h3.cl X, p3, q3, hml, hml2, hcm3, hiyI, hw2, ht2, k0, k1]
  rw [hml, hml2] at h3
  exact ⟨⟨h3, i + 1, by omega, by omega⟩, by omega⟩
end
end Go.Proofs.YtkijkoakloacoaaGreatDoor

namespace Go.Proofs.YtkijkoakloacoaaGreatDoor
open Go
set_option linter.unusedVariables false
set_option linter.unusedSimpArgs false
set_option maxRecDepth 100000

section
attribute [local go_sem] F4.t7_eq F4.t8_eq F4.t14_eq F4.t3_eq
theorem usersPrints_law {w0 w : World} {A : HP} (h : St w0 A w) [Gives A Tabs] {v u : Value} {L M : List AV} (hl : ArgL A v L) (ho : ArgL A u M) :
    Calls Tryz.prog 4 #[v, u] w fun e w' => St w0 A w' ∧ e = .returned (.bool true) := by
  obtain ⟨a1, c1, rfl, _⟩ := rdA_form h hl.rd
  obtain ⟨a2, c2, rfl, _⟩ := rdA_form h ho.rd
  refine F4.calls (by simp) ?_
  unfold F4.code
  simp -dsimp -implicitDefEqProofs (disch := omega) only [go_sem, reqD_of, dec_t, dec_f, wrap_i64, wrap_u32, wrap_u64, wrap_u8]
  refine (much_big h hl).mono ?_
  rintro e w1 ⟨h1, m1, rfl, q1, q2, q3⟩
  simp -dsimp -implicitDefEqProofs (disch := omega) only [go_sem, reqD_of, dec_t, dec_f, wrap_i64, wrap_u32, wrap_u64, wrap_u8]
  refine (much_big h1 ho).mono ?_
  rintro e w2 ⟨h2, m2, rfl, q4, q5, q6⟩
  by_cases hbig : m1 + m2 > 8388608
  · simp -dsimp -implicitDefEqProofs (disch := omega) only [go_sem, reqD_of, dec_t, dec_f, wrap_i64, wrap_u32, wrap_u64, wrap_u8, hbig]
    exact h2
  have hm1 : muchF (accs L) ≤ 8388608 := by have := q1 (by omega); omega
  have hm2 : muchF (accs M) ≤ 8388608 := by have := q4 (by omega); omega
  have hall : ∀ i (hi : i < 3), ∃ (a : Option Addr) (c : Nat) (L' : List AV), [(.slice a1 L.length c1 : Value), .slice a2 M.length c2, .slice a1 L.length c1][i]'(by simpa using hi) = .slice a L'.length c ∧ ArgL A (.slice a L'.length c) L' ∧ muchF (accs L') ≤ 8388608 := fun i hi => by
    have : i = 0 ∨ i = 1 ∨ i = 2 := by omega
    rcases this with rfl | rfl | rfl
    · exact ⟨a1, c1, L, rfl, hl, hm1⟩
    · exact ⟨a2, c2, M, rfl, ho, hm2⟩
    · exact ⟨a1, c1, L, rfl, hl, hm1⟩
  simp -dsimp -implicitDefEqProofs (disch := omega) only [go_sem, reqD_of, dec_t, dec_f, wrap_i64, wrap_u32, wrap_u64, wrap_u8, hbig]
  refine (example_any h2).mono ?_
  rintro e w3 ⟨h3, rfl⟩
  simp -dsimp -implicitDefEqProofs (disch := omega) only [go_sem, reqD_of, dec_t, dec_f, wrap_i64, wrap_u32, wrap_u64, wrap_u8]
  refine h3.lit (t := 40) (n := 3) (cells := [.slice a1 L.length c1, .slice a2 M.length c2, .slice a1 L.length c1]) fact_rowTy_40 rfl (by decide) (by decide) fun v6 w4 h4 => ?_
  obtain ⟨a6, c6, rfl, _⟩ := h4.rowForm v6
  obtain ⟨b6, o6, rfl, _⟩ := h4.atS (a := a6) (n := 3) (c := c6) (xs := [.slice a1 L.length c1, .slice a2 M.length c2, .slice a1 L.length c1]) (k := 0) (by simp)
  simp -dsimp -implicitDefEqProofs (disch := omega) only [go_sem, reqD_of, dec_t, dec_f, wrap_i64, wrap_u32, wrap_u64, wrap_u8]
  refine loop_intro (fun e w' => e.ds = [] ∧ e.ρ 5 = .bool true ∧ e.ρ 6 = .slice (some ⟨b6, o6, none⟩) 3 c6 ∧ St w0 (RowO 38 1 (.slice (some ⟨b6, o6, none⟩) 3 c6) 3 [.slice a1 L.length c1, .slice a2 M.length c2, .slice a1 L.length c1] * A) w' ∧ ∃ i : Nat, i ≤ 3 ∧ e.ρ 7 = .int .i64 i)
    (fun e _ => match e.ρ 7 with | .int _ n => (3 - n).toNat | _ => 0) ?_ ?_
  · exact ⟨rfl, by simp -dsimp -implicitDefEqProofs only [go_sem], by simp -dsimp -implicitDefEqProofs only [go_sem], h4, 0, by omega, by simp -dsimp -implicitDefEqProofs only [go_sem]⟩
  clear h h1 h2 h3 h4
  rintro e w2 ⟨hd, e5, e6, h, i, hi, e7⟩
  by_cases hlt : (i : Int) < 3
  case neg =>
    simp -dsimp -implicitDefEqProofs (disch := omega) only [go_sem, reqD_of, dec_t, dec_f, wrap_i64, wrap_u32, wrap_u64, wrap_u8, hd, e5, e6, e7, hlt]
    exact h.right
  have hi3 : i < 3 := by omega
  obtain ⟨al, cl, L', hel, ha, hmu⟩ := hall i hi3
  have hms := ha.msOk hmu
  have hL1 := much_len (accs L')
  have hL2 := text_much (accs L')
  rw [List.length_map] at hL1
  have hcell : ∀ {C : HP} {w' : World}, St w0 C w' → Gives C (RowO 38 1 (.slice (some ⟨b6, o6, none⟩) 3 c6) 3 [.slice a1 L.length c1, .slice a2 M.length c2, .slice a1 L.length c1]) → w'.cell? ⟨b6, o6 + i, none⟩ = some (.slice al L'.length cl) := fun hh g => by
    have i2 := Gives.mk (g.ent.trans (RowO.reads 38 1 (.slice (some ⟨b6, o6, none⟩) 3 c6) 3 [.slice a1 L.length c1, .slice a2 M.length c2, .slice a1 L.length c1]))
    obtain ⟨_, _, e9, hc⟩ := hh.atS (i := i2) (k := i) (by simpa using hi3)
    simp only [Option.some.injEq, Addr.mk.injEq, and_true] at e9
    obtain ⟨rfl, rfl⟩ := e9
    rw [hel] at hc
    exact hc
  obtain ⟨RW, hRW⟩ : ∃ RW, RW = RowO 38 1 (.slice (some ⟨b6, o6, none⟩) 3 c6) 3 [.slice a1 L.length c1, .slice a2 M.length c2, .slice a1 L.length c1] := ⟨_, rfl⟩
  simp only [← hRW] at h hcell ⊢
  simp -dsimp -implicitDefEqProofs (disch := omega) only [go_sem, reqD_of, dec_t, dec_f, wrap_i64, wrap_u32, wrap_u64, wrap_u8, hd, e5, e6, e7, hlt, hcell h inferInstance]
  refine (lent_any h ((Ent.right _ _).trans ha.rd) (hms.weak (Ent.right _ _)) (by omega)).mono ?_
  rintro e' w3 ⟨X, va, vm, Y, hY, h3, rfl⟩
  have hYl : Y.length = L'.length := by have := congrArg List.length hY; simpa using this
  obtain ⟨aa, ca, rfl, _, hca, _⟩ := h3.rowForm va
  have hml : (Y.map viewY ++ marksY).length = L'.length + 2 := by simp [marksY, hYl]
  have hacc : accs (Y.map viewY) = accs L' := by rw [← hY]; simp
  have hf : ∀ y ∈ Y, Fit y.1 := fun y hy => by
    have : y.1 ∈ accs L' := by rw [← hY]; exact List.mem_map_of_mem (f := (·.1)) hy
    exact fit_of_much hmu this
  rw [hml] at h3 hca
  simp -dsimp -implicitDefEqProofs (disch := omega) only [go_sem, reqD_of, dec_t, dec_f, wrap_i64, wrap_u32, wrap_u64, wrap_u8, hd, e5, e6, e7]
  have h3' : St w0 (loanB X (.slice aa (L'.length + 2) ca) vm * (rowA (.slice aa (L'.length + 2) ca) (Y.map viewY ++ marksY) * (rowV' vm (Y.map fullV) * (starL rowY Y * (RW * A))))) w3 := h3.ac (by unfold LoanQ; ac_rfl)
  refine (given_any h3' hca (by omega)).mono ?_
  rintro e' w4 ⟨h4, rfl⟩
  simp -dsimp -implicitDefEqProofs (disch := omega) only [go_sem, reqD_of, dec_t, dec_f, wrap_i64, wrap_u32, wrap_u64, wrap_u8, hd, e5, e6, e7]
  have gA : Gives (loanB X (.slice aa (L'.length + 2) ca) vm * (rowA (.slice aa (L'.length + 2) ca) (Y.map viewY ++ marksY) * (rowV' vm (Y.map fullV) * (starL rowY Y * (RW * A))))) A := inferInstance
  have gT : Gives (loanB X (.slice aa (L'.length + 2) ca) vm * (rowA (.slice aa (L'.length + 2) ca) (Y.map viewY ++ marksY) * (rowV' vm (Y.map fullV) * (starL rowY Y * (RW * A))))) Tabs := ⟨gA.ent.trans Gives.ent⟩
  have hvl : (Y.map viewY).length = L'.length := by simp [hYl]
  have hrd : Ent (loanB X (.slice aa (L'.length + 2) ca) vm * (rowA (.slice aa (L'.length + 2) ca) (Y.map viewY ++ marksY) * (rowV' vm (Y.map fullV) * (starL rowY Y * (RW * A))))) (ReadsA (.slice aa L'.length ca) (Y.map viewY)) := by
    have h1 := RowO.reads 72 4 (.slice aa (L'.length + 2) ca) (Y.map viewY ++ marksY).length ((Y.map viewY ++ marksY).flatMap accC)
    have h2 := ReadsA.take (a := aa) (c := ca) (k := L'.length) (L := Y.map viewY ++ marksY) (by rw [hml]; omega)
    rw [List.take_left' hvl, hml] at h2
    rw [hml] at h1
    exact (Ent.right _ _).trans ((Ent.left _ _).trans ((by rw [rowA, hml]; exact h1 : Ent (rowA (.slice aa (L'.length + 2) ca) (Y.map viewY ++ marksY)) (Reads 4 (.slice aa (L'.length + 2) ca) (L'.length + 2) ((Y.map viewY ++ marksY).flatMap accC))).trans (by unfold ReadsA at h2; rw [hml] at h2; exact h2)))
  have hst : Ent (loanB X (.slice aa (L'.length + 2) ca) vm * (rowA (.slice aa (L'.length + 2) ca) (Y.map viewY ++ marksY) * (rowV' vm (Y.map fullV) * (starL rowY Y * (RW * A))))) (starL rowY Y) := (Ent.right _ _).trans ((Ent.right _ _).trans ((Ent.right _ _).trans (Ent.left _ _)))
  refine (print_any (L := Y.map viewY) h4 hrd (loan_ms hst hf) (by omega) (by rw [hacc]; omega)).mono ?_
  rw [hacc]
  rintro e w5 ⟨h5, hres⟩
  have goon : ∀ {w' : World}, St w0 (loanB X (.slice aa (L'.length + 2) ca) vm * (rowA (.slice aa (L'.length + 2) ca) (Y.map viewY ++ marksY) * (rowV' vm (Y.map fullV) * (starL rowY Y * (RW * A))))) w' → St w0 (LoanQ X (.slice aa (L'.length + 2) ca) vm Y * (RW * A)) w' := fun hh => hh.ac (by unfold LoanQ; ac_rfl)
  rcases hres with ⟨hp, rfl⟩ | ⟨k, hk0, hk, rfl⟩
  · simp -dsimp -implicitDefEqProofs (disch := omega) only [go_sem, reqD_of, dec_t, dec_f, wrap_i64, wrap_u32, wrap_u64, wrap_u8, hd, e5, e6, e7, hcell h5 inferInstance]
    refine (rprint_any h5 (gA.ent.trans ha.rd) (ha.msS.weak gA.ent) (by omega) (by omega)).mono ?_
    rintro e w6 ⟨h6, ⟨_, rfl⟩ | ⟨k', _, hk', _⟩⟩
    case inr => rw [hp] at hk'; cases hk'
    simp -dsimp -implicitDefEqProofs (disch := omega) only [go_sem, reqD_of, dec_t, dec_f, wrap_i64, wrap_u32, wrap_u64, wrap_u8, hd, e5, e6, e7, hcell h6 inferInstance]
    refine (back_any (goon h6) hY ((Ent.right _ _).trans ha.rd) (hms.weak (Ent.right _ _)) (by omega)).mono ?_
    rintro e w7 ⟨h7, rfl⟩
    have hde : decide (textF (accs L') = textF (accs L')) = true := decide_eq_true rfl
    simp -dsimp -implicitDefEqProofs (disch := omega) only [go_sem, reqD_of, dec_t, dec_f, wrap_i64, wrap_u32, wrap_u64, wrap_u8, hd, e5, e6, e7, hde]
    exact ⟨⟨hRW ▸ h7, i + 1, by omega, by omega⟩, by omega⟩
  · simp -dsimp -implicitDefEqProofs (disch := omega) only [go_sem, reqD_of, dec_t, dec_f, wrap_i64, wrap_u32, wrap_u64, wrap_u8, hd, e5, e6, e7, hcell h5 inferInstance]
    refine (rprint_any h5 (gA.ent.trans ha.rd) (ha.msS.weak gA.ent) (by omega) (by omega)).mono ?_
    rintro e w6 ⟨h6, ⟨hp, _⟩ | ⟨k', _, hk', rfl⟩⟩
    case inl => rw [hk] at hp; cases hp
    rw [hk] at hk'
    cases hk'
    simp -dsimp -implicitDefEqProofs (disch := omega) only [go_sem, reqD_of, dec_t, dec_f, wrap_i64, wrap_u32, wrap_u64, wrap_u8, hd, e5, e6, e7, hcell h6 inferInstance]
    refine (back_any (goon h6) hY ((Ent.right _ _).trans ha.rd) (hms.weak (Ent.right _ _)) (by omega)).mono ?_
    rintro e w7 ⟨h7, rfl⟩
    simp -dsimp -implicitDefEqProofs (disch := omega) only [go_sem, reqD_of, dec_t, dec_f, wrap_i64, wrap_u32, wrap_u64, wrap_u8, hd, e5, e6, e7]
    exact ⟨⟨hRW ▸ h7, i + 1, by omega, by omega⟩, by omega⟩
end
end Go.Proofs.YtkijkoakloacoaaGreatDoor

/- users: once, account, written. -/
import Derived.Test.YtkijkoakloacoaaDoorUzD
namespace Go.Proofs.YtkijkoakloacoaaDoor
open Go
set_option linter.unusedVariables false
set_option linter.unusedSimpArgs false
set_option maxRecDepth 100000

theorem ReadsT.take {a : Option Addr} {c k : Nat} {ls : List (List UInt8)} (hk : k ≤ ls.length) : Ent (ReadsT (.slice a ls.length c) ls) (ReadsT (.slice a k c) (ls.take k)) := by
  have h := Reads.takeK (s := 1) (a := a) (c := c) (xs := ls.map sv) hk
  rw [slice_ite, Nat.sub_zero, Nat.mul_one, ← List.map_take] at h
  have hl : (ls.take k).length = k := by simp; omega
  unfold ReadsT
  rw [hl]
  exact h

theorem St.atG {w0 w : World} {A : HP} (h : St w0 A w) {g o n c : Nat} {xs : List Value} [i : Gives A (Reads 1 (.slice (some ⟨g, o, none⟩) n c) n xs)] {k : Nat} (hk : k < xs.length) : w.cell? ⟨g, o + k, none⟩ = some xs[k] := by
  obtain ⟨b, o', e, hc⟩ := h.atS (i := i) hk
  simp only [Option.some.injEq, Addr.mk.injEq, and_true] at e
  obtain ⟨rfl, rfl⟩ := e
  exact hc

section
attribute [local go_sem] F39.t5_eq F39.t3_eq
theorem once_any {w0 w : World} {A : HP} (h : St w0 A w) {a : Acc} {v : Value} (hv : Ent A (ReadsT v a.members)) (hf : Fit a) :
    Calls Tryd.prog 39 #[accV a v] w fun e w' => St w0 A w' ∧ ((onceF a = true ∧ e = .returned (.tuple #[])) ∨ (onceF a = false ∧ e = .panicked (trouble 61))) := by
  obtain ⟨av, cv, rfl, hcv, hx⟩ := h.texts hv
  refine F39.calls (by simp) ?_
  unfold F39.code
  simp -dsimp -implicitDefEqProofs (disch := omega) only [go_sem, reqD_of, dec_t, dec_f, wrap_i64, wrap_u32, wrap_u64, wrap_u8]
  refine h.new fun P w1 h1 => ?_
  simp -dsimp -implicitDefEqProofs (disch := omega) only [go_sem, reqD_of, dec_t, dec_f, wrap_i64, wrap_u32, wrap_u64, wrap_u8, h1.cl P]
  refine loop_intro (fun e w' => e.ds = [] ∧ e.ρ 1 = .pointer (some ⟨P, 0, none⟩) ∧ e.ρ 5 = .slice av a.members.length cv ∧ e.ρ 6 = .int .i64 a.members.length ∧
      St w0 (Blk P (.cells #[sv a.name, sv a.leader, .slice av a.members.length cv, sv a.key] 46 (0, 0)) * A) w' ∧ ∃ i : Nat, i ≤ a.members.length ∧ e.ρ 7 = .int .i64 i ∧ (a.members.take i).Nodup)
    (fun e _ => match e.ρ 7 with | .int _ n => (a.members.length - n).toNat | _ => 0) ?_ ?_
  · exact ⟨rfl, by simp -dsimp -implicitDefEqProofs only [go_sem], by simp -dsimp -implicitDefEqProofs only [go_sem], by simp -dsimp -implicitDefEqProofs only [go_sem], h1, 0, by omega, by simp -dsimp -implicitDefEqProofs only [go_sem], by simp⟩
  clear h1 hx
  rintro e w6 ⟨hd, e1, e5, e6, h6, i, hi, e7, hk⟩
  obtain ⟨hf1, hf2⟩ := hf
  by_cases hlt : (i : Int) < (a.members.length : Int)
  case neg =>
    rw [List.take_of_length_le (by omega)] at hk
    have hn : onceF a = true := decide_eq_true hk
    simp -dsimp -implicitDefEqProofs (disch := omega) only [go_sem, reqD_of, dec_t, dec_f, wrap_i64, wrap_u32, wrap_u64, wrap_u8, hd, e1, e5, e6, e7, hlt, hn]
    exact h6.right
  have hlt' : i < a.members.length := by omega
  obtain ⟨b, o, rfl, hcell⟩ := (h6.ent ((Ent.right _ _).trans hv)).atS (a := av) (n := a.members.length) (c := cv) (xs := a.members.map sv) (k := i) (by simpa using hlt')
  rw [List.getElem_map] at hcell
  obtain ⟨q, hq⟩ : ∃ q, q = a.members[i] := ⟨_, rfl⟩
  rw [← hq] at hcell
  simp -dsimp -implicitDefEqProofs (disch := omega) only [go_sem, reqD_of, dec_t, dec_f, wrap_i64, wrap_u32, wrap_u64, wrap_u8, hd, e1, e5, e6, e7, hlt, hcell, h6.cl P]
  rw [show (if cv = 0 then some (⟨b, o, none⟩ : Addr) else some ⟨b, o, none⟩) = some ⟨b, o, none⟩ from ite_self _]
  refine (contains_any (ls := a.members.take i) h6 ((Ent.right _ _).trans (hv.trans (ReadsT.take (by omega)))) (by simp; omega) q).mono ?_
  rintro e' w7 ⟨h7, rfl⟩
  simp -dsimp -implicitDefEqProofs (disch := omega) only [go_sem, reqD_of, dec_t, dec_f, wrap_i64, wrap_u32, wrap_u64, wrap_u8]
  refine (need_st h7 _ _).mono ?_
  rintro e' w8 ⟨h8, ⟨n3, rfl⟩ | ⟨n3, rfl⟩⟩
  · simp -dsimp -implicitDefEqProofs (disch := omega) only [go_sem, reqD_of, dec_t, dec_f, wrap_i64, wrap_u32, wrap_u64, wrap_u8, hd, e1, e5, e6, e7]
    refine ⟨⟨h8, i + 1, by omega, by omega, ?_⟩, by omega⟩
    rw [List.take_succ_eq_append_getElem hlt', ← hq, List.nodup_append]
    refine ⟨hk, by simp, fun x hx y hy => ?_⟩
    simp only [List.mem_singleton] at hy
    subst hy
    rintro rfl
    simp [hx] at n3
  · have hn : onceF a = false := by
      refine decide_eq_false fun hnd => ?_
      have hsub : (a.members.take (i + 1)).Nodup := hnd.sublist (List.take_sublist _ _)
      rw [List.take_succ_eq_append_getElem hlt', ← hq, List.nodup_append] at hsub
      have : q ∈ a.members.take i := by simpa using n3
      exact hsub.2.2 q this q (by simp) rfl
    simp -dsimp -implicitDefEqProofs (disch := omega) only [go_sem, reqD_of, dec_t, dec_f, wrap_i64, wrap_u32, wrap_u64, wrap_u8, hd, hn]
    exact h8.right

end

theorem account_end {w0 w : World} {A : HP} {P2 P4 : Nat} {z : Array Value} {a : Acc} {v : Value} {e : FA} {l : List UInt8} (hz : z.size = 4) (hd : e.ds = []) (e2 : e.ρ 2 = .pointer (some ⟨P2, 0, none⟩)) (e4 : e.ρ 4 = .pointer (some ⟨P4, 0, none⟩)) (hf : Fit a)
    (h : St w0 (RowO 9 1 v a.members.length (a.members.map sv) * (Blk P4 (.cells (accL a v).toArray 46 (0, 0)) * (Blk P2 (.cells z 46 (0, 0)) * A))) w) [Gives A Tabs] (ha : accF l = if formF a = true then some a else none) :
    cwE Tryd.prog F44.t6 (fnP Tryd.prog #[.cell 2 46] fun e w' => (∃ a v, accF l = some a ∧ Fit a ∧ St w0 (RowO 9 1 v a.members.length (a.members.map sv) * A) w' ∧ e = .returned (accV a v)) ∨ (accF l = none ∧ St w0 A w' ∧ e = .panicked (trouble 60))) e w := by
  rw [F44.t6_eq]
  have r4 := h.rowH P4 4 rfl
  obtain ⟨av, cv, rfl, _⟩ := h.rowForm v
  simp -dsimp -implicitDefEqProofs (disch := omega) only [go_sem, reqD_of, dec_t, dec_f, wrap_i64, wrap_u32, wrap_u64, wrap_u8, hd, e2, e4, r4]
  refine (formed_any (a := a) (v := .slice av a.members.length cv) h ((Ent.left _ _).trans (RowO.reads _ _ _ _ _)) hf).mono ?_
  rintro e' w1 ⟨h1, ⟨n1, rfl⟩ | ⟨n1, rfl⟩⟩
  case inr =>
    rw [n1, if_neg (by simp)] at ha
    simp -dsimp -implicitDefEqProofs (disch := omega) only [go_sem, reqD_of, dec_t, dec_f, wrap_i64, wrap_u32, wrap_u64, wrap_u8, hd, ha]
    exact .inr h1.right.right.right
  rw [n1, if_pos rfl] at ha
  have r4 := h1.rowH P4 4 rfl
  simp -dsimp -implicitDefEqProofs (disch := omega) only [go_sem, reqD_of, dec_t, dec_f, wrap_i64, wrap_u32, wrap_u64, wrap_u8, hd, e2, e4, r4, h1.cl P4]
  refine h1.stoAll (b := P2) (n := 4) (cs := accL a (.slice av a.members.length cv)) rfl hz (fun v hv => by simp at hv; rcases hv with rfl | rfl | rfl | rfl <;> rfl) fun w2 h2 => ?_
  have r2 := h2.rowH P2 4 rfl
  simp -dsimp -implicitDefEqProofs (disch := omega) only [go_sem, reqD_of, dec_t, dec_f, wrap_i64, wrap_u32, wrap_u64, wrap_u8, hd, e2, e4, r2]
  refine resC_1 (a := ⟨P2, 0, none⟩) (v := accV a (.slice av a.members.length cv)) (by simp -dsimp -implicitDefEqProofs only [go_sem, e2]) (run_loadVar_row (by kernel_rfl) r2) ?_
  exact .inl ⟨a, _, ha, hf, h2.sub, rfl⟩


theorem account_any {w0 w : World} {A : HP} (h : St w0 A w) [Gives A Tabs] {l : List UInt8} (hl : l.length ≤ 16777215) :
    Calls Tryd.prog 44 #[.string (strOf l)] w fun e w' =>
      (∃ a v, accF l = some a ∧ Fit a ∧ St w0 (RowO 9 1 v a.members.length (a.members.map sv) * A) w' ∧ e = .returned (accV a v)) ∨ (accF l = none ∧ St w0 A w' ∧ e = .panicked (trouble 60)) := by
  refine F44.calls (by simp) ?_
  unfold F44.code
  simp -dsimp -implicitDefEqProofs (disch := omega) only [go_sem, reqD_of, dec_t, dec_f, wrap_i64, wrap_u32, wrap_u64, wrap_u8]
  refine h.new fun P2 w1 h1 => ?_
  simp -dsimp -implicitDefEqProofs (disch := omega) only [go_sem, reqD_of, dec_t, dec_f, wrap_i64, wrap_u32, wrap_u64, wrap_u8]
  refine (split_lib 58 h1 (by omega)).mono ?_
  rintro e w2 ⟨g, h2, rfl⟩
  simp -dsimp -implicitDefEqProofs (disch := omega) only [go_sem, reqD_of, dec_t, dec_f, wrap_i64, wrap_u32, wrap_u64, wrap_u8]
  refine (need_st h2 _ _).mono ?_
  rintro e w3 ⟨h3, ⟨n1, rfl⟩ | ⟨n1, rfl⟩⟩
  case inr =>
    have hn : accF l = none := by
      have : ¬ (pcs 58 l).length = 4 := by have := of_decide_eq_false n1; omega
      rw [accF, if_neg (fun x => this x.1)]
    simp -dsimp -implicitDefEqProofs (disch := omega) only [go_sem, reqD_of, dec_t, dec_f, wrap_i64, wrap_u32, wrap_u64, wrap_u8, hn]
    exact .inr (h3.right.right)
  have n2 : (pcs 58 l).length = 4 := by have := of_decide_eq_true n1; omega
  have htot := pcs_total 58 l
  obtain ⟨f0, f1, f2, f3, hf⟩ : ∃ f0 f1 f2 f3, pcs 58 l = [f0, f1, f2, f3] := by
    match hm : pcs 58 l, n2 with
    | [a, b, c, d], _ => exact ⟨a, b, c, d, rfl⟩
  have hraw : rawF l = ⟨f0, f1, membersF f2, f3⟩ := by simp [rawF, hf]
  rw [hf] at h3 htot
  simp only [List.map_cons, List.map_nil, List.sum_cons, List.sum_nil, List.length_cons, List.length_nil, Nat.zero_add, Nat.reduceAdd] at h3 htot
  rw [hf]
  simp only [List.length_cons, List.length_nil, Nat.zero_add, Nat.reduceAdd]
  have cc : ∀ {B : HP} {w' : World}, St w0 B w' → Gives B (RowO 9 1 (.slice (some ⟨g, 0, none⟩) 4 4) 4 [sv f0, sv f1, sv f2, sv f3]) →
      w'.cell? ⟨g, 0, none⟩ = some (sv f0) ∧ w'.cell? ⟨g, 1, none⟩ = some (sv f1) ∧ w'.cell? ⟨g, 2, none⟩ = some (sv f2) ∧ w'.cell? ⟨g, 3, none⟩ = some (sv f3) := fun {B w'} hw gi => by
    have i2 : Gives B (Reads 1 (.slice (some ⟨g, 0, none⟩) 4 4) 4 [sv f0, sv f1, sv f2, sv f3]) := ⟨gi.ent.trans (RowO.reads _ _ _ _ _)⟩
    have c0 := hw.atG (i := i2) (k := 0) (by simp)
    have c1 := hw.atG (i := i2) (k := 1) (by simp)
    have c2 := hw.atG (i := i2) (k := 2) (by simp)
    have c3 := hw.atG (i := i2) (k := 3) (by simp)
    simpa using ⟨c0, c1, c2, c3⟩
  obtain ⟨c0, c1, c2, c3⟩ := cc h3.drew inferInstance
  simp -dsimp -implicitDefEqProofs (disch := omega) only [go_sem, reqD_of, dec_t, dec_f, wrap_i64, wrap_u32, wrap_u64, wrap_u8, c0, c1, c2, c3]
  refine onV_of (v := accV ⟨f0, f1, [], f3⟩ (.slice none 0 0)) (by kernel_rfl) ?_
  simp -dsimp -implicitDefEqProofs (disch := omega) only [go_sem, reqD_of, dec_t, dec_f, wrap_i64, wrap_u32, wrap_u64, wrap_u8]
  refine h3.drew.new fun P4 w4 h4 => ?_
  obtain ⟨d0, d1, d2, d3⟩ := cc h4 inferInstance
  simp -dsimp -implicitDefEqProofs (disch := omega) only [go_sem, reqD_of, dec_t, dec_f, wrap_i64, wrap_u32, wrap_u64, wrap_u8, d0, d1, d2, d3]
  refine h4.stoAll (b := P4) (n := 4) (cs := accL ⟨f0, f1, [], f3⟩ (.slice none 0 0)) rfl rfl (fun v hv => by simp at hv; rcases hv with rfl | rfl | rfl | rfl <;> rfl) fun w5 h5 => ?_
  clear c0 c1 c2 c3 d0 d1 d2 d3 h1 h2 h3 h4
  obtain ⟨c0, c1, c2, c3⟩ := cc h5 inferInstance
  have haf : ∀ ms, membersF f2 = ms → accF l = if formF ⟨f0, f1, ms, f3⟩ = true then some ⟨f0, f1, ms, f3⟩ else none := fun ms hm => by
    unfold accF
    rw [hraw, hm, n2]
    simp
  by_cases hf2 : f2 = []
  · have e0 : decide (f2 = []) = true := by simp [hf2]
    have hm : membersF f2 = [] := by rw [membersF, if_pos hf2]
    simp -dsimp -implicitDefEqProofs (disch := omega) only [go_sem, reqD_of, dec_t, dec_f, wrap_i64, wrap_u32, wrap_u64, wrap_u8, c0, c1, c2, c3, e0]
    have h6 : St w0 (Blk P4 (.cells (accL ⟨f0, f1, [], f3⟩ (.slice none 0 0)).toArray 46 (0, 0)) * (Blk P2 (.cells #[sv [], sv [], .slice none 0 0, sv []] 46 (0, 0)) * A)) w5 := h5.sub
    exact account_end (P2 := P2) (P4 := P4) (a := ⟨f0, f1, [], f3⟩) (v := .slice none 0 0) rfl rfl (by simp -dsimp -implicitDefEqProofs only [go_sem]) (by simp -dsimp -implicitDefEqProofs only [go_sem]) ⟨by simp; omega, by simp⟩ (h6.nilR 9 1) (haf _ hm)
  · have hm : membersF f2 = pcs 44 f2 := by rw [membersF, if_neg hf2]
    have hpl := pcs_length 44 f2
    simp -dsimp -implicitDefEqProofs (disch := omega) only [go_sem, reqD_of, dec_t, dec_f, wrap_i64, wrap_u32, wrap_u64, wrap_u8, c0, c1, c2, c3, hf2]
    refine (split_lib 44 h5 (by omega)).mono ?_
    rintro e w6 ⟨g2, h6, rfl⟩
    obtain ⟨ms, hms⟩ : ∃ ms, ms = pcs 44 f2 := ⟨_, rfl⟩
    rw [← hms] at h6 hm hpl
    rw [← hms]
    simp -dsimp -implicitDefEqProofs (disch := omega) only [go_sem, reqD_of, dec_t, dec_f, wrap_i64, wrap_u32, wrap_u64, wrap_u8]
    refine h6.sto (b := P4) (off := 2) (by simp) rfl fun w7 h7 => ?_
    simp only [List.setIfInBounds_toArray, List.set_cons_succ, List.set_cons_zero] at h7
    simp -dsimp -implicitDefEqProofs (disch := omega) only [go_sem, reqD_of, dec_t, dec_f, wrap_i64, wrap_u32, wrap_u64, wrap_u8]
    have h8 : St w0 (RowO 9 1 (.slice (some ⟨g2, 0, none⟩) ms.length ms.length) ms.length (ms.map sv) * (Blk P4 (.cells (accL ⟨f0, f1, ms, f3⟩ (.slice (some ⟨g2, 0, none⟩) ms.length ms.length)).toArray 46 (0, 0)) * (Blk P2 (.cells #[sv [], sv [], .slice none 0 0, sv []] 46 (0, 0)) * A))) w7 := h7.sub
    exact account_end (P2 := P2) (P4 := P4) (a := ⟨f0, f1, ms, f3⟩) (v := .slice (some ⟨g2, 0, none⟩) ms.length ms.length) rfl rfl (by simp -dsimp -implicitDefEqProofs only [go_sem]) (by simp -dsimp -implicitDefEqProofs only [go_sem]) ⟨by simp; omega, by simp; omega⟩ h8 (haf _ hm)

/-- All that an account's line has. -/
def rowLen (a : Acc) : Nat := (rowF a).length
theorem rowLen_eq (a : Acc) : (rowF a).length = a.name.length + a.leader.length + (joinD 44 a.members).length + a.key.length + 3 := by
  unfold rowF
  have e : joinD 58 [a.key] = a.key := by rw [joinD, Lib.join_one]
  rw [joinD_two, joinD_two, joinD_two, e]
  simp
  omega


theorem written_any {w0 w : World} {A : HP} (h : St w0 A w) {a : Acc} {v : Value} (hv : Ent A (ReadsT v a.members)) (hf : Fit a) (hl : (rowF a).length ≤ 70368744177664) :
    Calls Tryd.prog 49 #[accV a v] w fun e w' => St w0 A w' ∧ e = .returned (.string (strOf (lineF a))) := by
  obtain ⟨av, cv, rfl, hcv, hx⟩ := h.texts hv
  obtain ⟨hf1, hf2⟩ := hf
  have hlen := rowLen_eq a
  refine F49.calls (by simp) ?_
  unfold F49.code
  simp -dsimp -implicitDefEqProofs (disch := omega) only [go_sem, reqD_of, dec_t, dec_f, wrap_i64, wrap_u32, wrap_u64, wrap_u8]
  refine h.new fun P w1 h1 => ?_
  simp -dsimp -implicitDefEqProofs (disch := omega) only [go_sem, reqD_of, dec_t, dec_f, wrap_i64, wrap_u32, wrap_u64, wrap_u8, h1.cl P, h1.drew.cl P]
  refine (join_lib 44 h1.drew ((Ent.right _ _).trans hv) (by omega) (by omega)).mono ?_
  rintro e w2 ⟨h2, rfl⟩
  simp -dsimp -implicitDefEqProofs (disch := omega) only [go_sem, reqD_of, dec_t, dec_f, wrap_i64, wrap_u32, wrap_u64, wrap_u8, h2.cl P]
  refine h2.lit (t := 33) (cells := [sv a.name, sv a.leader, sv (joinD 44 a.members), sv a.key]) fact_rowTy_33 rfl (by decide) (by decide) fun v3 w3 h3 => ?_
  obtain ⟨a3, c3, rfl, _⟩ := h3.rowForm v3
  simp -dsimp -implicitDefEqProofs (disch := omega) only [go_sem, reqD_of, dec_t, dec_f, wrap_i64, wrap_u32, wrap_u64, wrap_u8, h3.cl P]
  refine (join_lib 58 (ls := [a.name, a.leader, joinD 44 a.members, a.key]) h3 ((Ent.left _ _).trans (RowO.reads _ _ _ _ _)) (by simp) (by show (rowF a).length ≤ _; omega)).mono ?_
  rintro e w4 ⟨h4, rfl⟩
  simp -dsimp -implicitDefEqProofs (disch := omega) only [go_sem, reqD_of, dec_t, dec_f, wrap_i64, wrap_u32, wrap_u64, wrap_u8, h4.cl P, binV_sadd (P := Tryd.prog) (T := 9) (a := joinD 58 [a.name, a.leader, joinD 44 a.members, a.key]) (b := [10]) (by show (rowF a).length + 1 ≤ _; omega)]
  exact ⟨h4.right.right, rfl⟩
end Go.Proofs.YtkijkoakloacoaaDoor

/- Walks of the locks package: a lock's rows. -/
import Derived.Test.YtacmnfpgimgigaaIr
import Derived.Test.YtacmnfpgimgigaaMaps
import Derived.Test.YtacmnfpgimgigaaSl3
import Derived.Test.YtacmnfpgimgigaaRf
namespace Go.Proofs.Ytacmnfpgimgigaa
open Go
set_option linter.unusedSimpArgs false
set_option linter.unusedVariables false
set_option maxRecDepth 100000

/-- Who, and whether alone. -/
abbrev Claim := Int × Bool
def clC (c : Claim) : List Value := [.int .i64 c.1, .bool c.2]
def clR : List Claim → List Value
  | [] => []
  | c :: l => .int .i64 c.1 :: .bool c.2 :: clR l
theorem clR_length : ∀ l : List Claim, (clR l).length = l.length * 2
  | [] => rfl
  | c :: l => by simp only [clR, List.length_cons, clR_length l]; omega
theorem clR_app : ∀ l m : List Claim, clR (l ++ m) = clR l ++ clR m
  | [], m => rfl
  | c :: l, m => by simp [clR, clR_app l m]
theorem clR_drop : ∀ (i : Nat) (l : List Claim), (clR l).drop (i * 2) = clR (l.drop i)
  | 0, l => by simp
  | i + 1, [] => by simp [clR]
  | i + 1, c :: l => by rw [show (i + 1) * 2 = i * 2 + 1 + 1 by omega]; simp [clR, clR_drop i l]
theorem clR_take : ∀ (i : Nat) (l : List Claim), (clR l).take (i * 2) = clR (l.take i)
  | 0, l => by simp [clR]
  | i + 1, [] => by simp [clR]
  | i + 1, c :: l => by rw [show (i + 1) * 2 = i * 2 + 1 + 1 by omega]; simp [clR, clR_take i l]
theorem clR_cells (l : List Claim) : ∀ v ∈ clR l, isCell v = true := by
  induction l with
  | nil => simp [clR]
  | cons c l ih => simp only [clR, List.mem_cons]; rintro v (rfl | rfl | h); (· rfl); (· rfl); exact ih v h
theorem clR_at {l : List Claim} {i : Nat} (h : i < l.length) : (clR l)[i * 2]? = some (.int .i64 (l[i]).1) ∧ (clR l)[i * 2 + 1]? = some (.bool (l[i]).2) := by
  have e : clR l = clR (l.take i) ++ clR (l.drop i) := by rw [← clR_app, List.take_append_drop]
  have hl : (clR (l.take i)).length = i * 2 := by rw [clR_length, List.length_take]; omega
  rw [e, List.getElem?_append_right (by omega), List.getElem?_append_right (by omega), hl, Nat.sub_self, show i * 2 + 1 - i * 2 = 1 by omega, List.drop_eq_getElem_cons h]
  exact ⟨rfl, rfl⟩

theorem addr_row {w : World} {b o : Nat} {x y : Value} (h0 : w.cell? ⟨b, o, none⟩ = some x) (h1 : w.cell? ⟨b, o + 1, none⟩ = some y) : rowV w ⟨b, o, none⟩ 2 = some (.agg #[x, y]) := by
  simp only [rowV, cellsFrom, add_lit, Nat.add_zero, h0, h1, Option.map_some]

/-- A claim of a row is read. -/
theorem claimAt {w0 w : World} {v : Value} {n : Nat} {l : List Claim} (h : St w0 (Reads 2 v n (clR l)) w) : n = l.length ∧ ∃ a c, v = .slice a n c ∧ n ≤ c ∧ ∀ i (hi : i < l.length), ∃ b o, a = some ⟨b, o, none⟩ ∧
    rowV w ⟨b, o + i * 2, none⟩ 2 = some (.agg #[.int .i64 (l[i]).1, .bool (l[i]).2]) ∧ w.cell? ⟨b, o + i * 2, none⟩ = some (.int .i64 (l[i]).1) ∧ w.cell? ⟨b, o + i * 2 + 1, none⟩ = some (.bool (l[i]).2) := by
  have r := h.rd
  have hn : n = l.length := by have := r.length; rw [clR_length] at this; omega
  obtain ⟨a, c, rfl, hnc, hr⟩ := r.form
  refine ⟨hn, a, c, rfl, hnc, fun i hi => ?_⟩
  rcases hr with hr | ⟨b, o, rfl, hr⟩
  · have := congrArg List.length hr
    rw [clR_length, List.length_nil] at this
    omega
  · obtain ⟨q0, q1⟩ := clR_at hi
    have h0 := hr (i * 2) (by rw [clR_length]; omega)
    have h1 := hr (i * 2 + 1) (by rw [clR_length]; omega)
    rw [q0] at h0
    rw [q1, ← Nat.add_assoc] at h1
    exact ⟨b, o, rfl, addr_row h0 h1, h0, h1⟩

/-- Where somebody's claim is. -/
def posC (who : Int) : List Claim → Nat → Int
  | [], _ => -1
  | c :: l, i => if c.1 = who then i else posC who l (i + 1)

theorem Ent.blkE (b : Nat) (o : Obj) : Ent (Blk b o) (Blk b o * EmpH) := fun h hb => ⟨h, hle.rfl' h, h, fun _ => none, fun _ => .inr rfl, hle.rfl' h, (fun _ _ e => by cases e), hb, trivial⟩


theorem isWho_any {w0 w : World} {F : HP} {p : Nat} {T : TypeId} {who x : Int} {y : Bool} (h : St w0 F w) (hp : Ent F (Blk p (.cells #[.int .i64 who] T (0, 0)))) :
    Calls Try.prog 52 #[.agg #[.int .i64 x, .bool y], .pointer (some ⟨p, 0, none⟩)] w fun e w' => St w0 F w' ∧ e = .returned (.bool (decide (x = who))) := by
  refine F52.calls (by simp) ?_
  unfold F52.code
  simp -dsimp -implicitDefEqProofs (disch := omega) only [go_sem, ↓reduceIte, Nat.reduceEqDiff, reduceCtorEq, Nat.reduceAdd, Int.reduceMul, Int.reduceAdd, Int.reduceSub, Int.reduceLT, Int.reduceLE, Int.reduceEq, Int.reduceToNat, Int.reduceNeg, Nat.reduceLT, Nat.reduceDiv, Nat.reduceMod, Nat.reduceMul, Nat.reduceSub, Nat.reduceLeDiff, Nat.reduceBEq, Nat.reduceLeDiff, Nat.reducePow, Int.reducePow, reqD_of, dec_t, dec_f, wrap_i64, wrap_u32, wrap_u64, wrap_u8]
  refine h.new fun B w1 h1 => ?_
  have hc := h1.cells
  have hq := (((h1.right.ent (Ent.trans hp (Ent.rfl' _))).ent (Ent.blkE _ _))).blk
  have hq0 := cell_of_heap hq 0
  simp -dsimp -implicitDefEqProofs (disch := omega) only [go_sem, ↓reduceIte, Nat.reduceEqDiff, reduceCtorEq, Nat.reduceAdd, Int.reduceMul, Int.reduceAdd, Int.reduceSub, Int.reduceLT, Int.reduceLE, Int.reduceEq, Int.reduceToNat, Int.reduceNeg, Nat.reduceLT, Nat.reduceDiv, Nat.reduceMod, Nat.reduceMul, Nat.reduceSub, Nat.reduceLeDiff, Nat.reduceBEq, Nat.reduceLeDiff, Nat.reducePow, Int.reducePow, reqD_of, dec_t, dec_f, wrap_i64, wrap_u32, wrap_u64, wrap_u8, hc, hq0]
  exact h1.right


theorem index_any {w0 w : World} {F : HP} {p : Nat} {T : TypeId} {who : Int} {v : Value} {n : Nat} {l : List Claim} (h : St w0 F w) (hp : Ent F (Blk p (.cells #[.int .i64 who] T (0, 0)))) (hr : Ent F (Reads 2 v n (clR l))) (hl : l.length < 1099511627776) :
    Calls Try.prog 51 #[v, .func (.func 52) #[] #[.pointer (some ⟨p, 0, none⟩)]] w fun e w' => St w0 F w' ∧ e = .returned (.int .i64 (posC who l 0)) := by
  obtain ⟨rfl, a, c, rfl, hnc, _⟩ := claimAt (h.ent hr)
  refine F51.calls (by simp) ?_
  unfold F51.code
  simp -dsimp -implicitDefEqProofs (disch := omega) only [go_sem, ↓reduceIte, Nat.reduceEqDiff, reduceCtorEq, Nat.reduceAdd, Int.reduceMul, Int.reduceAdd, Int.reduceSub, Int.reduceLT, Int.reduceLE, Int.reduceEq, Int.reduceToNat, Int.reduceNeg, Nat.reduceLT, Nat.reduceDiv, Nat.reduceMod, Nat.reduceMul, Nat.reduceSub, Nat.reduceLeDiff, Nat.reduceBEq, Nat.reduceLeDiff, Nat.reducePow, Int.reducePow, reqD_of, dec_t, dec_f, wrap_i64, wrap_u32, wrap_u64, wrap_u8, F51.t6_eq, F51.t3_eq, F51.t7_eq]
  refine loop_intro (fun e w' => St w0 F w' ∧ e.ds = [] ∧ e.ρ 0 = .slice a l.length c ∧ e.ρ 1 = .func (.func 52) #[] #[.pointer (some ⟨p, 0, none⟩)] ∧ e.ρ 7 = .int .i64 l.length ∧ ∃ i : Nat, i ≤ l.length ∧ e.ρ 8 = .int .i64 i ∧ posC who l 0 = posC who (l.drop i) i)
    (fun e _ => match e.ρ 8 with | .int _ n => (l.length - n).toNat | _ => 0) ?_ ?_
  · exact ⟨h, rfl, by simp -dsimp -implicitDefEqProofs only [go_sem, ↓reduceIte, Nat.reduceEqDiff, reduceCtorEq, Nat.reduceAdd, Int.reduceMul, Int.reduceAdd, Int.reduceSub, Int.reduceLT, Int.reduceLE, Int.reduceEq, Int.reduceToNat, Int.reduceNeg, Nat.reduceLT, Nat.reduceDiv, Nat.reduceMod, Nat.reduceMul, Nat.reduceSub, Nat.reduceLeDiff, Nat.reduceBEq, Nat.reduceLeDiff, Nat.reducePow, Int.reducePow, F51.t6_eq, F51.t3_eq, F51.t7_eq], by simp -dsimp -implicitDefEqProofs only [go_sem, ↓reduceIte, Nat.reduceEqDiff, reduceCtorEq, Nat.reduceAdd, Int.reduceMul, Int.reduceAdd, Int.reduceSub, Int.reduceLT, Int.reduceLE, Int.reduceEq, Int.reduceToNat, Int.reduceNeg, Nat.reduceLT, Nat.reduceDiv, Nat.reduceMod, Nat.reduceMul, Nat.reduceSub, Nat.reduceLeDiff, Nat.reduceBEq, Nat.reduceLeDiff, Nat.reducePow, Int.reducePow, F51.t6_eq, F51.t3_eq, F51.t7_eq], by simp -dsimp -implicitDefEqProofs only [go_sem, ↓reduceIte, Nat.reduceEqDiff, reduceCtorEq, Nat.reduceAdd, Int.reduceMul, Int.reduceAdd, Int.reduceSub, Int.reduceLT, Int.reduceLE, Int.reduceEq, Int.reduceToNat, Int.reduceNeg, Nat.reduceLT, Nat.reduceDiv, Nat.reduceMod, Nat.reduceMul, Nat.reduceSub, Nat.reduceLeDiff, Nat.reduceBEq, Nat.reduceLeDiff, Nat.reducePow, Int.reducePow, F51.t6_eq, F51.t3_eq, F51.t7_eq], 0, by omega, rfl, rfl⟩
  rintro e w1 ⟨h1, hd, e0, e1, e7, i, hi, e8, hpos⟩
  by_cases hlt : (i : Int) < l.length
  case neg =>
    have : i = l.length := by omega
    subst this
    simp -dsimp -implicitDefEqProofs (disch := omega) only [go_sem, ↓reduceIte, Nat.reduceEqDiff, reduceCtorEq, Nat.reduceAdd, Int.reduceMul, Int.reduceAdd, Int.reduceSub, Int.reduceLT, Int.reduceLE, Int.reduceEq, Int.reduceToNat, Int.reduceNeg, Nat.reduceLT, Nat.reduceDiv, Nat.reduceMod, Nat.reduceMul, Nat.reduceSub, Nat.reduceLeDiff, Nat.reduceBEq, Nat.reduceLeDiff, Nat.reducePow, Int.reducePow, reqD_of, dec_t, dec_f, wrap_i64, wrap_u32, wrap_u64, wrap_u8, F51.t6_eq, F51.t3_eq, F51.t7_eq, hd, e0, e1, e7, e8, hlt]
    exact ⟨h1, by rw [hpos, List.drop_length]; rfl⟩
  have hil : i < l.length := by omega
  obtain ⟨_, a', c', hv, _, hcl⟩ := claimAt (h1.ent hr)
  simp only [Value.slice.injEq, true_and] at hv
  obtain ⟨rfl, rfl⟩ := hv
  obtain ⟨b, o, rfl, hrow, _, _⟩ := hcl i hil
  rw [List.drop_eq_getElem_cons hil] at hpos
  simp -dsimp -implicitDefEqProofs (disch := omega) only [go_sem, ↓reduceIte, Nat.reduceEqDiff, reduceCtorEq, Nat.reduceAdd, Int.reduceMul, Int.reduceAdd, Int.reduceSub, Int.reduceLT, Int.reduceLE, Int.reduceEq, Int.reduceToNat, Int.reduceNeg, Nat.reduceLT, Nat.reduceDiv, Nat.reduceMod, Nat.reduceMul, Nat.reduceSub, Nat.reduceLeDiff, Nat.reduceBEq, Nat.reduceLeDiff, Nat.reducePow, Int.reducePow, reqD_of, dec_t, dec_f, wrap_i64, wrap_u32, wrap_u64, wrap_u8, F51.t6_eq, F51.t3_eq, F51.t7_eq, hd, e0, e1, e7, e8, hlt, hrow, callY_clos]
  refine (isWho_any h1 hp).mono ?_
  rintro e' w2 ⟨h2, rfl⟩
  by_cases hw : (l[i]).1 = who
  · simp -dsimp -implicitDefEqProofs (disch := omega) only [go_sem, ↓reduceIte, Nat.reduceEqDiff, reduceCtorEq, Nat.reduceAdd, Int.reduceMul, Int.reduceAdd, Int.reduceSub, Int.reduceLT, Int.reduceLE, Int.reduceEq, Int.reduceToNat, Int.reduceNeg, Nat.reduceLT, Nat.reduceDiv, Nat.reduceMod, Nat.reduceMul, Nat.reduceSub, Nat.reduceLeDiff, Nat.reduceBEq, Nat.reduceLeDiff, Nat.reducePow, Int.reducePow, reqD_of, dec_t, dec_f, wrap_i64, wrap_u32, wrap_u64, wrap_u8, F51.t6_eq, F51.t3_eq, F51.t7_eq, hd, e0, e1, e7, e8, hw]
    exact ⟨h2, by rw [hpos]; simp [posC, hw]⟩
  · simp -dsimp -implicitDefEqProofs (disch := omega) only [go_sem, ↓reduceIte, Nat.reduceEqDiff, reduceCtorEq, Nat.reduceAdd, Int.reduceMul, Int.reduceAdd, Int.reduceSub, Int.reduceLT, Int.reduceLE, Int.reduceEq, Int.reduceToNat, Int.reduceNeg, Nat.reduceLT, Nat.reduceDiv, Nat.reduceMod, Nat.reduceMul, Nat.reduceSub, Nat.reduceLeDiff, Nat.reduceBEq, Nat.reduceLeDiff, Nat.reducePow, Int.reducePow, reqD_of, dec_t, dec_f, wrap_i64, wrap_u32, wrap_u64, wrap_u8, F51.t6_eq, F51.t3_eq, F51.t7_eq, hd, e0, e1, e7, e8, hw]
    refine ⟨⟨h2, i + 1, by omega, by simp, ?_⟩, by omega⟩
    rw [hpos]; simp [posC, hw]

end Go.Proofs.Ytacmnfpgimgigaa

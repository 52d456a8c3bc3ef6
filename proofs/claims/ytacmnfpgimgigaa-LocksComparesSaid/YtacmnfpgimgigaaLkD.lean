/- The table of locks: New, Idle, Ask. -/
import Derived.Test.YtacmnfpgimgigaaLkC
namespace Go.Proofs.Ytacmnfpgimgigaa
open Go
set_option linter.unusedSimpArgs false
set_option linter.unusedVariables false
set_option maxRecDepth 100000

theorem Ent.empL (F : HP) : Ent F (EmpH * F) := fun h hf => ⟨h, hle.rfl' h, fun _ => none, h, fun _ => .inl rfl, (fun _ _ e => by cases e), hle.rfl' h, trivial, hf⟩


theorem new_any {w0 w : World} {F : HP} (h : St w0 F w) : Calls Try.prog 12 #[] w fun e w' => ∃ B, St w0 (TabP B [] [] * F) w' ∧ e = .returned (.pointer (some ⟨B, 0, none⟩)) := by
  refine F12.calls (by simp) ?_
  unfold F12.code
  simp -dsimp -implicitDefEqProofs (disch := omega) only [go_sem, ↓reduceIte, Nat.reduceEqDiff, reduceCtorEq, Nat.reduceAdd, Int.reduceMul, Int.reduceAdd, Int.reduceSub, Int.reduceLT, Int.reduceLE, Int.reduceEq, Int.reduceToNat, Int.reduceNeg, Nat.reduceLT, Nat.reduceDiv, Nat.reduceMod, Nat.reduceMul, Nat.reduceSub, Nat.reduceLeDiff, Nat.reduceBEq, Nat.reduceLeDiff, Nat.reducePow, Int.reducePow, reqD_of, dec_t, dec_f, wrap_i64, wrap_u32, wrap_u64, wrap_u8]
  refine St.makeMap (enc := namV) h fun b1 w1 h1 => ?_
  simp -dsimp -implicitDefEqProofs (disch := omega) only [go_sem, ↓reduceIte, Nat.reduceEqDiff, reduceCtorEq, Nat.reduceAdd, Int.reduceMul, Int.reduceAdd, Int.reduceSub, Int.reduceLT, Int.reduceLE, Int.reduceEq, Int.reduceToNat, Int.reduceNeg, Nat.reduceLT, Nat.reduceDiv, Nat.reduceMod, Nat.reduceMul, Nat.reduceSub, Nat.reduceLeDiff, Nat.reduceBEq, Nat.reduceLeDiff, Nat.reducePow, Int.reducePow, reqD_of, dec_t, dec_f, wrap_i64, wrap_u32, wrap_u64, wrap_u8]
  refine St.makeMap (enc := encI) h1 fun b2 w2 h2 => ?_
  simp -dsimp -implicitDefEqProofs (disch := omega) only [go_sem, ↓reduceIte, Nat.reduceEqDiff, reduceCtorEq, Nat.reduceAdd, Int.reduceMul, Int.reduceAdd, Int.reduceSub, Int.reduceLT, Int.reduceLE, Int.reduceEq, Int.reduceToNat, Int.reduceNeg, Nat.reduceLT, Nat.reduceDiv, Nat.reduceMod, Nat.reduceMul, Nat.reduceSub, Nat.reduceLeDiff, Nat.reduceBEq, Nat.reduceLeDiff, Nat.reducePow, Int.reducePow, reqD_of, dec_t, dec_f, wrap_i64, wrap_u32, wrap_u64, wrap_u8]
  refine onV_of (v := .agg #[.map (some b1), .map (some b2)]) rfl ?_
  simp -dsimp -implicitDefEqProofs (disch := omega) only [go_sem, ↓reduceIte, Nat.reduceEqDiff, reduceCtorEq, Nat.reduceAdd, Int.reduceMul, Int.reduceAdd, Int.reduceSub, Int.reduceLT, Int.reduceLE, Int.reduceEq, Int.reduceToNat, Int.reduceNeg, Nat.reduceLT, Nat.reduceDiv, Nat.reduceMod, Nat.reduceMul, Nat.reduceSub, Nat.reduceLeDiff, Nat.reduceBEq, Nat.reduceLeDiff, Nat.reducePow, Int.reducePow, reqD_of, dec_t, dec_f, wrap_i64, wrap_u32, wrap_u64, wrap_u8]
  refine h2.new fun B w3 h3 => ?_
  simp -dsimp -implicitDefEqProofs (disch := omega) only [go_sem, ↓reduceIte, Nat.reduceEqDiff, reduceCtorEq, Nat.reduceAdd, Int.reduceMul, Int.reduceAdd, Int.reduceSub, Int.reduceLT, Int.reduceLE, Int.reduceEq, Int.reduceToNat, Int.reduceNeg, Nat.reduceLT, Nat.reduceDiv, Nat.reduceMod, Nat.reduceMul, Nat.reduceSub, Nat.reduceLeDiff, Nat.reduceBEq, Nat.reduceLeDiff, Nat.reducePow, Int.reducePow, reqD_of, dec_t, dec_f, wrap_i64, wrap_u32, wrap_u64, wrap_u8]
  refine ⟨B, ?_, rfl⟩
  refine (h3.ac (show _ = Blk B (.cells #[.map (some b1), .map (some b2)] 66 (0, 0)) * (MapP namV b1 [] * (MapP encI b2 [] * F)) by ac_rfl)).ent ?_
  refine Ent.trans ?_ (Ent.sep (TabQ.shut B b1 b2 [] [] rfl) (Ent.rfl' F))
  unfold TabQ
  have : ∀ A B' C F : HP, Ent (A * (B' * (C * F))) ((A * (B' * (C * EmpH))) * F) := fun A B' C F => by
    rw [show A * (B' * (C * EmpH)) * F = A * (B' * (C * (EmpH * F))) by ac_rfl]
    exact Ent.sep (Ent.rfl' _) (Ent.sep (Ent.rfl' _) (Ent.sep (Ent.rfl' _) (Ent.empL F)))
  exact this _ _ _ _


theorem idle_any {w0 w : World} {F : HP} {B : Nat} {ls : List (Nam × LkS)} {ws : List (Int × Nee)} (h : St w0 (TabP B ls ws * F) w) :
    Calls Try.prog 25 #[.pointer (some ⟨B, 0, none⟩)] w fun e w' => St w0 (TabP B ls ws * F) w' ∧ e = .returned (.bool (decide (ls = []))) := by
  obtain ⟨m1, m2, ps, hps, h1⟩ := TabP.open h
  have hc := TabQ.root h1
  refine F25.calls (by simp) ?_
  unfold F25.code
  simp -dsimp -implicitDefEqProofs (disch := omega) only [go_sem, ↓reduceIte, Nat.reduceEqDiff, reduceCtorEq, Nat.reduceAdd, Int.reduceMul, Int.reduceAdd, Int.reduceSub, Int.reduceLT, Int.reduceLE, Int.reduceEq, Int.reduceToNat, Int.reduceNeg, Nat.reduceLT, Nat.reduceDiv, Nat.reduceMod, Nat.reduceMul, Nat.reduceSub, Nat.reduceLeDiff, Nat.reduceBEq, Nat.reduceLeDiff, Nat.reducePow, Int.reducePow, reqD_of, dec_t, dec_f, wrap_i64, wrap_u32, wrap_u64, wrap_u8, hc]
  refine (h1.ac TabQ.map1).lenMap Try.underlying63 ?_
  simp -dsimp -implicitDefEqProofs (disch := omega) only [go_sem, ↓reduceIte, Nat.reduceEqDiff, reduceCtorEq, Nat.reduceAdd, Int.reduceMul, Int.reduceAdd, Int.reduceSub, Int.reduceLT, Int.reduceLE, Int.reduceEq, Int.reduceToNat, Int.reduceNeg, Nat.reduceLT, Nat.reduceDiv, Nat.reduceMod, Nat.reduceMul, Nat.reduceSub, Nat.reduceLeDiff, Nat.reduceBEq, Nat.reduceLeDiff, Nat.reducePow, Int.reducePow, reqD_of, dec_t, dec_f, wrap_i64, wrap_u32, wrap_u64, wrap_u8]
  refine ⟨h, ?_⟩
  subst hps
  rcases ps with _ | ⟨p, ps⟩
  · rfl
  · simp only [amap, List.map_cons, List.length_cons]
    rw [dec_f (by omega), dec_f (by simp)]

/-- What Ask does with a lock: what it tells; the lock; whether one waits. -/
def askT (who : Int) (al : Bool) (s : LkS) : (Bool × Int) × LkS × Bool :=
  if 0 ≤ posC who s.1 0 then ((false, 130), s, false)
  else if s.2 = [] ∧ letsB s.1 al = true then ((true, 0), (s.1 ++ [(who, al)], s.2), false)
  else ((false, 0), (s.1, s.2 ++ [(who, al)]), true)

def askS (who : Int) (n : Nee) (ls : List (Nam × LkS)) (ws : List (Int × Nee)) : (Bool × Int) × List (Nam × LkS) × List (Int × Nee) :=
  match agt who ws with
  | some _ => ((false, 131), ls, ws)
  | none => ((askT who n.2 ((agt n.1 ls).getD ([], []))).1, aset n.1 (askT who n.2 ((agt n.1 ls).getD ([], []))).2.1 ls, if (askT who n.2 ((agt n.1 ls).getD ([], []))).2.2 = true then aset who n ws else ws)

theorem TabQ.done {B m1 m2 b : Nat} {ps : Ptrs} {ws : List (Int × Nee)} {x : Nam} {s s' : LkS} {v1 v2 : Value} {A F : HP} (hk : agt x ps = some (b, s)) :
    Ent (LkQ b v1 v2 s'.1 s'.2 * (TabR B m1 m2 ps ws x * (A * F))) (TabP B (aset x s' (amap (·.2) ps)) ws * F) := by
  refine (Ent.sep (LkQ.shut b v1 v2 s'.1 s'.2) (Ent.rfl' _)).trans ?_
  rw [TabQ.unlock hk]
  refine Ent.trans ?_ (Ent.sep (TabQ.shut B m1 m2 (aset x (b, s') ps) ws (by rw [← aset_amap])) (Ent.rfl' F))
  exact Ent.sep (Ent.rfl' _) (Ent.right A F)

/-- A lock's block goes back to its table. -/
theorem TabQ.ins {B m1 m2 b : Nat} {ps : Ptrs} {ws : List (Int × Nee)} {x : Nam} {s s' : LkS} {v1 v2 : Value} {F : HP} (hk : agt x ps = some (b, s)) :
    Ent (LkQ b v1 v2 s'.1 s'.2 * (TabR B m1 m2 ps ws x * F)) (TabQ B m1 m2 (aset x (b, s') ps) ws * F) := by
  refine (Ent.sep (LkQ.shut b v1 v2 s'.1 s'.2) (Ent.rfl' _)).trans ?_
  rw [TabQ.unlock hk]
  exact Ent.rfl' _


theorem ask_wait {w0 w : World} {F : HP} {B m1 m2 N C b : Nat} {ps : Ptrs} {ws : List (Int × Nee)} {n : Nee} {hs q : List Claim} {s : LkS} {v1 v2 : Value} {who : Int} {e : FA}
    (h : St w0 (Blk C (.cells (clC (who, n.2)).toArray 74 (0, 0)) * (LkQ b v1 v2 hs q * (TabR B m1 m2 ps ws n.1 * (Blk N (.cells (needC n).toArray 38 (0, 0)) * F)))) w) (hk : agt n.1 ps = some (b, s))
    (hd : e.ds = []) (e0 : e.ρ 0 = .pointer (some ⟨B, 0, none⟩)) (e1 : e.ρ 1 = .int .i64 who) (e5 : e.ρ 5 = .pointer (some ⟨N, 0, none⟩)) (e10 : e.ρ 10 = .pointer (some ⟨b, 0, none⟩)) (e11 : e.ρ 11 = .pointer (some ⟨C, 0, none⟩)) (hl2 : q.length < 1099511627776) :
    cwE Try.prog F27.t14 (fnP Try.prog #[.tmp 6, .tmp 7] fun e w' => St w0 (TabP B (aset n.1 (hs, q ++ [(who, n.2)]) (amap (·.2) ps)) (aset who n ws) * F) w' ∧
      e = .returned (.tuple #[.bool false, .int .i64 0])) e w := by
  obtain ⟨a2, c2, rfl, _, _, _⟩ := RowO.form (h.ac (show _ = RowO 74 2 v2 q.length (clR q) * (Blk b (.cells #[v1, v2] 71 (0, 0)) * (RowO 74 2 v1 hs.length (clR hs) * (Blk C (.cells (clC (who, n.2)).toArray 74 (0, 0)) * (TabR B m1 m2 ps ws n.1 * (Blk N (.cells (needC n).toArray 38 (0, 0)) * F))))) by unfold LkQ; ac_rfl))
  have hb := LkQ.blk h.drew.right
  have hC : rowV w.drew ⟨C, 0, none⟩ 2 = some (.agg #[.int .i64 who, .bool n.2]) := h.drew.row (n := 2) rfl
  rw [F27.t14_eq]
  simp -dsimp -implicitDefEqProofs (disch := omega) only [go_sem, ↓reduceIte, Nat.reduceEqDiff, reduceCtorEq, Nat.reduceAdd, Int.reduceMul, Int.reduceAdd, Int.reduceSub, Int.reduceLT, Int.reduceLE, Int.reduceEq, Int.reduceToNat, Int.reduceNeg, Nat.reduceLT, Nat.reduceDiv, Nat.reduceMod, Nat.reduceMul, Nat.reduceSub, Nat.reduceLeDiff, Nat.reduceBEq, Nat.reduceLeDiff, Nat.reducePow, Int.reducePow, reqD_of, dec_t, dec_f, wrap_i64, wrap_u32, wrap_u64, wrap_u8, F27.t14_eq, F27.t10_eq, F27.t8_eq, F27.t4_eq, hd, e0, e1, e5, e10, e11, hb, hC]
  refine h.drew.buildSlice (s := 2) fact_rowTy_69 (cells := clR [(who, n.2)]) rfl (by decide) (by decide) fun v3 w1 h1 => ?_
  have hb1 := LkQ.blk h1.right.right
  simp -dsimp -implicitDefEqProofs (disch := omega) only [go_sem, ↓reduceIte, Nat.reduceEqDiff, reduceCtorEq, Nat.reduceAdd, Int.reduceMul, Int.reduceAdd, Int.reduceSub, Int.reduceLT, Int.reduceLE, Int.reduceEq, Int.reduceToNat, Int.reduceNeg, Nat.reduceLT, Nat.reduceDiv, Nat.reduceMod, Nat.reduceMul, Nat.reduceSub, Nat.reduceLeDiff, Nat.reduceBEq, Nat.reduceLeDiff, Nat.reducePow, Int.reducePow, reqD_of, dec_t, dec_f, wrap_i64, wrap_u32, wrap_u64, wrap_u8, F27.t14_eq, F27.t10_eq, F27.t8_eq, F27.t4_eq, hb1]
  have h2 := h1.ac (show _ = RowO 74 2 (.slice a2 q.length c2) q.length (clR q) * (Row 74 2 v3 1 (clR [(who, n.2)]) * (Blk b (.cells #[v1, .slice a2 q.length c2] 71 (0, 0)) * (RowO 74 2 v1 hs.length (clR hs) * (Blk C (.cells (clC (who, n.2)).toArray 74 (0, 0)) * (TabR B m1 m2 ps ws n.1 * (Blk N (.cells (needC n).toArray 38 (0, 0)) * F)))))) by unfold LkQ; ac_rfl)
  refine h2.appendO fact_rowTy_69 (((h2.right.left.ent (Row.reads _ _ _ _ _)).rd).src Try.underlying69 (clR_cells _) (by simp [clR])) (by simp [maxLen]; omega) (by omega) fun v4 w2 h3 => ?_
  rw [← clR_app] at h3
  have h4 := h3.ac (show _ = Blk b (.cells #[v1, .slice a2 q.length c2] 71 (0, 0)) * (RowO 74 2 v4 (q.length + 1) (clR (q ++ [(who, n.2)])) * (Row 74 2 v3 1 (clR [(who, n.2)]) * (RowO 74 2 v1 hs.length (clR hs) * (Blk C (.cells (clC (who, n.2)).toArray 74 (0, 0)) * (TabR B m1 m2 ps ws n.1 * (Blk N (.cells (needC n).toArray 38 (0, 0)) * F)))))) by ac_rfl)
  obtain ⟨a4, c4, rfl, _⟩ := RowO.form h3
  have hb4 := h4.cells
  simp -dsimp -implicitDefEqProofs (disch := omega) only [go_sem, ↓reduceIte, Nat.reduceEqDiff, reduceCtorEq, Nat.reduceAdd, Int.reduceMul, Int.reduceAdd, Int.reduceSub, Int.reduceLT, Int.reduceLE, Int.reduceEq, Int.reduceToNat, Int.reduceNeg, Nat.reduceLT, Nat.reduceDiv, Nat.reduceMod, Nat.reduceMul, Nat.reduceSub, Nat.reduceLeDiff, Nat.reduceBEq, Nat.reduceLeDiff, Nat.reducePow, Int.reducePow, reqD_of, dec_t, dec_f, wrap_i64, wrap_u32, wrap_u64, wrap_u8, F27.t14_eq, F27.t10_eq, F27.t8_eq, F27.t4_eq, hb4]
  refine h4.store (arr' := #[v1, .slice a4 (q.length + 1) c4]) rfl (by simp) rfl fun w3 h5 => ?_
  simp -dsimp -implicitDefEqProofs (disch := omega) only [go_sem, ↓reduceIte, Nat.reduceEqDiff, reduceCtorEq, Nat.reduceAdd, Int.reduceMul, Int.reduceAdd, Int.reduceSub, Int.reduceLT, Int.reduceLE, Int.reduceEq, Int.reduceToNat, Int.reduceNeg, Nat.reduceLT, Nat.reduceDiv, Nat.reduceMod, Nat.reduceMul, Nat.reduceSub, Nat.reduceLeDiff, Nat.reduceBEq, Nat.reduceLeDiff, Nat.reducePow, Int.reducePow, reqD_of, dec_t, dec_f, wrap_i64, wrap_u32, wrap_u64, wrap_u8, F27.t14_eq, F27.t10_eq, F27.t8_eq, F27.t4_eq, hd, e0, e1, e5, e10, e11]
  have h6 := h5.drew.ac (show _ = LkQ b v1 (.slice a4 (q.length + 1) c4) hs (q ++ [(who, n.2)]) * (TabR B m1 m2 ps ws n.1 * (Blk N (.cells (needC n).toArray 38 (0, 0)) * (Row 74 2 v3 1 (clR [(who, n.2)]) * (Blk C (.cells (clC (who, n.2)).toArray 74 (0, 0)) * F)))) by unfold LkQ; rw [List.length_append]; simp only [List.length_cons, List.length_nil, Nat.zero_add]; ac_rfl)
  have h7 := h6.ent (TabQ.ins (s' := (hs, q ++ [(who, n.2)])) hk)
  have hr := TabQ.root h7
  have hNw : rowV w3.drew ⟨N, 0, none⟩ 4 = some (.agg (needC n).toArray) := (h7.sw2).row (n := 4) rfl
  simp -dsimp -implicitDefEqProofs (disch := omega) only [go_sem, ↓reduceIte, Nat.reduceEqDiff, reduceCtorEq, Nat.reduceAdd, Int.reduceMul, Int.reduceAdd, Int.reduceSub, Int.reduceLT, Int.reduceLE, Int.reduceEq, Int.reduceToNat, Int.reduceNeg, Nat.reduceLT, Nat.reduceDiv, Nat.reduceMod, Nat.reduceMul, Nat.reduceSub, Nat.reduceLeDiff, Nat.reduceBEq, Nat.reduceLeDiff, Nat.reducePow, Int.reducePow, reqD_of, dec_t, dec_f, wrap_i64, wrap_u32, wrap_u64, wrap_u8, F27.t14_eq, F27.t10_eq, F27.t8_eq, F27.t4_eq, hd, e0, e1, e5, hr, hNw]
  refine St.update (h7.ac TabQ.map2) Try.underlying64 lawI fun w4 h8 => ?_
  rw [show upd who (Value.agg (needC n).toArray) (amap needV ws) = amap needV (aset who n ws) from upd_amap needV who n ws] at h8
  simp -dsimp -implicitDefEqProofs (disch := omega) only [go_sem, ↓reduceIte, Nat.reduceEqDiff, reduceCtorEq, Nat.reduceAdd, Int.reduceMul, Int.reduceAdd, Int.reduceSub, Int.reduceLT, Int.reduceLE, Int.reduceEq, Int.reduceToNat, Int.reduceNeg, Nat.reduceLT, Nat.reduceDiv, Nat.reduceMod, Nat.reduceMul, Nat.reduceSub, Nat.reduceLeDiff, Nat.reduceBEq, Nat.reduceLeDiff, Nat.reducePow, Int.reducePow, reqD_of, dec_t, dec_f, wrap_i64, wrap_u32, wrap_u64, wrap_u8, F27.t14_eq, F27.t10_eq, F27.t8_eq, F27.t4_eq, hd]
  refine (h8.ac TabQ.map2.symm).ent ?_
  refine (Ent.sep (TabQ.shut B m1 m2 (aset n.1 (b, (hs, q ++ [(who, n.2)])) ps) (aset who n ws) (by rw [← aset_amap])) (Ent.rfl' _)).trans ?_
  exact Ent.sep (Ent.rfl' _) ((Ent.right _ _).trans ((Ent.right _ _).trans (Ent.right _ _)))


theorem ask_tail {w0 w : World} {F : HP} {B m1 m2 N b : Nat} {ps : Ptrs} {ws : List (Int × Nee)} {n : Nee} {s : LkS} {who : Int} {r1 wt : Bool} {r2 : Int} {s' : LkS} {e : FA} (hRR : askT who n.2 s = ((r1, r2), s', wt)) (h : St w0 (TabQ B m1 m2 ps ws * (Blk N (.cells (needC n).toArray 38 (0, 0)) * F)) w) (hk : agt n.1 ps = some (b, s))
    (hd : e.ds = []) (e0 : e.ρ 0 = .pointer (some ⟨B, 0, none⟩)) (e1 : e.ρ 1 = .int .i64 who) (e5 : e.ρ 5 = .pointer (some ⟨N, 0, none⟩)) (e10 : e.ρ 10 = .pointer (some ⟨b, 0, none⟩)) (hl1 : s.1.length < 1099511627776) (hl2 : s.2.length < 1099511627776) :
    cwE Try.prog F27.t8 (fnP Try.prog #[.tmp 6, .tmp 7] fun e w' => St w0 (TabP B (aset n.1 s' (amap (·.2) ps)) (if wt = true then aset who n ws else ws) * F) w' ∧
      e = .returned (.tuple #[.bool r1, .int .i64 r2])) e w := by
  rw [TabQ.lock hk] at h
  unfold LkP at h
  obtain ⟨⟨v1, v2⟩, h⟩ := h.exF
  simp only at h
  rw [F27.t8_eq]
  simp -dsimp -implicitDefEqProofs (disch := omega) only [go_sem, ↓reduceIte, Nat.reduceEqDiff, reduceCtorEq, Nat.reduceAdd, Int.reduceMul, Int.reduceAdd, Int.reduceSub, Int.reduceLT, Int.reduceLE, Int.reduceEq, Int.reduceToNat, Int.reduceNeg, Nat.reduceLT, Nat.reduceDiv, Nat.reduceMod, Nat.reduceMul, Nat.reduceSub, Nat.reduceLeDiff, Nat.reduceBEq, Nat.reduceLeDiff, Nat.reducePow, Int.reducePow, reqD_of, dec_t, dec_f, wrap_i64, wrap_u32, wrap_u64, wrap_u8, F27.t10_eq, F27.t8_eq, F27.t4_eq, hd, e0, e1, e5, e10]
  refine (holds_any h hl1).mono ?_
  rintro e' w1 ⟨h1, rfl⟩
  by_cases hp : 0 ≤ posC who s.1 0
  · obtain ⟨⟨rfl, rfl⟩, rfl, rfl⟩ : (r1 = false ∧ r2 = 130) ∧ s' = s ∧ wt = false := by have := hRR.symm; simpa [askT, hp] using this
    simp -dsimp -implicitDefEqProofs (disch := omega) only [go_sem, ↓reduceIte, Nat.reduceEqDiff, reduceCtorEq, Nat.reduceAdd, Int.reduceMul, Int.reduceAdd, Int.reduceSub, Int.reduceLT, Int.reduceLE, Int.reduceEq, Int.reduceToNat, Int.reduceNeg, Nat.reduceLT, Nat.reduceDiv, Nat.reduceMod, Nat.reduceMul, Nat.reduceSub, Nat.reduceLeDiff, Nat.reduceBEq, Nat.reduceLeDiff, Nat.reducePow, Int.reducePow, reqD_of, dec_t, dec_f, wrap_i64, wrap_u32, wrap_u64, wrap_u8, F27.t10_eq, F27.t8_eq, F27.t4_eq, hd, e0, e1, e5, e10, hp]
    exact h1.ent (TabQ.done hk)
  obtain ⟨a1, c1, rfl, _, _, _⟩ := RowO.form (h1.ac (show _ = RowO 74 2 v1 s.1.length (clR s.1) * (Blk b (.cells #[v1, v2] 71 (0, 0)) * (RowO 74 2 v2 s.2.length (clR s.2) * (TabR B m1 m2 ps ws n.1 * (Blk N (.cells (needC n).toArray 38 (0, 0)) * F)))) by unfold LkQ; ac_rfl))
  obtain ⟨a2, c2, rfl, _, _, _⟩ := RowO.form (h1.ac (show _ = RowO 74 2 v2 s.2.length (clR s.2) * (Blk b (.cells #[.slice a1 s.1.length c1, v2] 71 (0, 0)) * (RowO 74 2 (.slice a1 s.1.length c1) s.1.length (clR s.1) * (TabR B m1 m2 ps ws n.1 * (Blk N (.cells (needC n).toArray 38 (0, 0)) * F)))) by unfold LkQ; ac_rfl))
  have hN := (h1.ac (show _ = Blk N (.cells (needC n).toArray 38 (0, 0)) * (LkQ b (.slice a1 s.1.length c1) (.slice a2 s.2.length c2) s.1 s.2 * (TabR B m1 m2 ps ws n.1 * F)) by ac_rfl)).cells
  unfold needC at hN
  simp -dsimp -implicitDefEqProofs (disch := omega) only [go_sem, ↓reduceIte, Nat.reduceEqDiff, reduceCtorEq, Nat.reduceAdd, Int.reduceMul, Int.reduceAdd, Int.reduceSub, Int.reduceLT, Int.reduceLE, Int.reduceEq, Int.reduceToNat, Int.reduceNeg, Nat.reduceLT, Nat.reduceDiv, Nat.reduceMod, Nat.reduceMul, Nat.reduceSub, Nat.reduceLeDiff, Nat.reduceBEq, Nat.reduceLeDiff, Nat.reducePow, Int.reducePow, reqD_of, dec_t, dec_f, wrap_i64, wrap_u32, wrap_u64, wrap_u8, F27.t10_eq, F27.t8_eq, F27.t4_eq, hd, e0, e1, e5, e10, hp, hN]
  refine onV_of (v := .agg (clC (who, n.2)).toArray) rfl ?_
  simp -dsimp -implicitDefEqProofs (disch := omega) only [go_sem, ↓reduceIte, Nat.reduceEqDiff, reduceCtorEq, Nat.reduceAdd, Int.reduceMul, Int.reduceAdd, Int.reduceSub, Int.reduceLT, Int.reduceLE, Int.reduceEq, Int.reduceToNat, Int.reduceNeg, Nat.reduceLT, Nat.reduceDiv, Nat.reduceMod, Nat.reduceMul, Nat.reduceSub, Nat.reduceLeDiff, Nat.reduceBEq, Nat.reduceLeDiff, Nat.reducePow, Int.reducePow, reqD_of, dec_t, dec_f, wrap_i64, wrap_u32, wrap_u64, wrap_u8, F27.t10_eq, F27.t8_eq, F27.t4_eq]
  refine h1.new fun C w2 h2 => ?_
  simp -dsimp -implicitDefEqProofs (disch := omega) only [go_sem, ↓reduceIte, Nat.reduceEqDiff, reduceCtorEq, Nat.reduceAdd, Int.reduceMul, Int.reduceAdd, Int.reduceSub, Int.reduceLT, Int.reduceLE, Int.reduceEq, Int.reduceToNat, Int.reduceNeg, Nat.reduceLT, Nat.reduceDiv, Nat.reduceMod, Nat.reduceMul, Nat.reduceSub, Nat.reduceLeDiff, Nat.reduceBEq, Nat.reduceLeDiff, Nat.reducePow, Int.reducePow, reqD_of, dec_t, dec_f, wrap_i64, wrap_u32, wrap_u64, wrap_u8, F27.t10_eq, F27.t8_eq, F27.t4_eq]
  refine h2.storeAll (cs := clC (who, n.2)) rfl rfl (by intro v hv; simp only [clC, List.mem_cons, List.not_mem_nil, or_false] at hv; rcases hv with rfl | rfl <;> rfl) fun w3 h3 => ?_
  have hb := LkQ.blk h3.right
  have hN3 := (h3.ac (show _ = Blk N (.cells (needC n).toArray 38 (0, 0)) * (Blk C (.cells (clC (who, n.2)).toArray 74 (0, 0)) * (LkQ b (.slice a1 s.1.length c1) (.slice a2 s.2.length c2) s.1 s.2 * (TabR B m1 m2 ps ws n.1 * F))) by ac_rfl)).cells
  unfold needC at hN3
  have hR : (¬ s.2 = [] ∨ letsB s.1 n.2 = false) → askT who n.2 s = ((false, 0), (s.1, s.2 ++ [(who, n.2)]), true) := by
    intro hx
    rcases hx with hx | hx <;> simp [askT, hp, hx]
  by_cases hq : (s.2.length : Int) = 0
  · have hq' : s.2 = [] := List.eq_nil_of_length_eq_zero (by omega)
    cases hlet : letsB s.1 n.2
    · obtain ⟨⟨rfl, rfl⟩, rfl, rfl⟩ : (r1 = false ∧ r2 = 0) ∧ s' = (s.1, s.2 ++ [(who, n.2)]) ∧ wt = true := by have := hRR.symm.trans (hR (Or.inr hlet)); simpa using this
      simp -dsimp -implicitDefEqProofs (disch := omega) only [go_sem, ↓reduceIte, Nat.reduceEqDiff, reduceCtorEq, Nat.reduceAdd, Int.reduceMul, Int.reduceAdd, Int.reduceSub, Int.reduceLT, Int.reduceLE, Int.reduceEq, Int.reduceToNat, Int.reduceNeg, Nat.reduceLT, Nat.reduceDiv, Nat.reduceMod, Nat.reduceMul, Nat.reduceSub, Nat.reduceLeDiff, Nat.reduceBEq, Nat.reduceLeDiff, Nat.reducePow, Int.reducePow, reqD_of, dec_t, dec_f, wrap_i64, wrap_u32, wrap_u64, wrap_u8, F27.t10_eq, F27.t8_eq, F27.t4_eq, hd, e0, e1, e5, e10, hb, hN3, hq]
      refine (lets_any h3.sw2).mono ?_
      rintro e' w4 ⟨h4, rfl⟩
      simp -dsimp -implicitDefEqProofs (disch := omega) only [go_sem, ↓reduceIte, Nat.reduceEqDiff, reduceCtorEq, Nat.reduceAdd, Int.reduceMul, Int.reduceAdd, Int.reduceSub, Int.reduceLT, Int.reduceLE, Int.reduceEq, Int.reduceToNat, Int.reduceNeg, Nat.reduceLT, Nat.reduceDiv, Nat.reduceMod, Nat.reduceMul, Nat.reduceSub, Nat.reduceLeDiff, Nat.reduceBEq, Nat.reduceLeDiff, Nat.reducePow, Int.reducePow, reqD_of, dec_t, dec_f, wrap_i64, wrap_u32, wrap_u64, wrap_u8, F27.t10_eq, F27.t8_eq, F27.t4_eq, hd, e0, e1, e5, e10, hlet]
      exact ask_wait h4.sw2 hk (by simp -dsimp -implicitDefEqProofs only [go_sem, ↓reduceIte, Nat.reduceEqDiff, reduceCtorEq, Nat.reduceAdd, Int.reduceMul, Int.reduceAdd, Int.reduceSub, Int.reduceLT, Int.reduceLE, Int.reduceEq, Int.reduceToNat, Int.reduceNeg, Nat.reduceLT, Nat.reduceDiv, Nat.reduceMod, Nat.reduceMul, Nat.reduceSub, Nat.reduceLeDiff, Nat.reduceBEq, Nat.reduceLeDiff, Nat.reducePow, Int.reducePow, F27.t10_eq, F27.t8_eq, F27.t4_eq, hd]) (by simp -dsimp -implicitDefEqProofs only [go_sem, ↓reduceIte, Nat.reduceEqDiff, reduceCtorEq, Nat.reduceAdd, Int.reduceMul, Int.reduceAdd, Int.reduceSub, Int.reduceLT, Int.reduceLE, Int.reduceEq, Int.reduceToNat, Int.reduceNeg, Nat.reduceLT, Nat.reduceDiv, Nat.reduceMod, Nat.reduceMul, Nat.reduceSub, Nat.reduceLeDiff, Nat.reduceBEq, Nat.reduceLeDiff, Nat.reducePow, Int.reducePow, F27.t10_eq, F27.t8_eq, F27.t4_eq, e0]) (by simp -dsimp -implicitDefEqProofs only [go_sem, ↓reduceIte, Nat.reduceEqDiff, reduceCtorEq, Nat.reduceAdd, Int.reduceMul, Int.reduceAdd, Int.reduceSub, Int.reduceLT, Int.reduceLE, Int.reduceEq, Int.reduceToNat, Int.reduceNeg, Nat.reduceLT, Nat.reduceDiv, Nat.reduceMod, Nat.reduceMul, Nat.reduceSub, Nat.reduceLeDiff, Nat.reduceBEq, Nat.reduceLeDiff, Nat.reducePow, Int.reducePow, F27.t10_eq, F27.t8_eq, F27.t4_eq, e1]) (by simp -dsimp -implicitDefEqProofs only [go_sem, ↓reduceIte, Nat.reduceEqDiff, reduceCtorEq, Nat.reduceAdd, Int.reduceMul, Int.reduceAdd, Int.reduceSub, Int.reduceLT, Int.reduceLE, Int.reduceEq, Int.reduceToNat, Int.reduceNeg, Nat.reduceLT, Nat.reduceDiv, Nat.reduceMod, Nat.reduceMul, Nat.reduceSub, Nat.reduceLeDiff, Nat.reduceBEq, Nat.reduceLeDiff, Nat.reducePow, Int.reducePow, F27.t10_eq, F27.t8_eq, F27.t4_eq, e5]) (by simp -dsimp -implicitDefEqProofs only [go_sem, ↓reduceIte, Nat.reduceEqDiff, reduceCtorEq, Nat.reduceAdd, Int.reduceMul, Int.reduceAdd, Int.reduceSub, Int.reduceLT, Int.reduceLE, Int.reduceEq, Int.reduceToNat, Int.reduceNeg, Nat.reduceLT, Nat.reduceDiv, Nat.reduceMod, Nat.reduceMul, Nat.reduceSub, Nat.reduceLeDiff, Nat.reduceBEq, Nat.reduceLeDiff, Nat.reducePow, Int.reducePow, F27.t10_eq, F27.t8_eq, F27.t4_eq, e10]) (by simp -dsimp -implicitDefEqProofs only [go_sem, ↓reduceIte, Nat.reduceEqDiff, reduceCtorEq, Nat.reduceAdd, Int.reduceMul, Int.reduceAdd, Int.reduceSub, Int.reduceLT, Int.reduceLE, Int.reduceEq, Int.reduceToNat, Int.reduceNeg, Nat.reduceLT, Nat.reduceDiv, Nat.reduceMod, Nat.reduceMul, Nat.reduceSub, Nat.reduceLeDiff, Nat.reduceBEq, Nat.reduceLeDiff, Nat.reducePow, Int.reducePow, F27.t10_eq, F27.t8_eq, F27.t4_eq]) hl2
    · obtain ⟨⟨rfl, rfl⟩, rfl, rfl⟩ : (r1 = true ∧ r2 = 0) ∧ s' = (s.1 ++ [(who, n.2)], s.2) ∧ wt = false := by have := hRR.symm; simpa [askT, hp, hq', hlet] using this
      simp -dsimp -implicitDefEqProofs (disch := omega) only [go_sem, ↓reduceIte, Nat.reduceEqDiff, reduceCtorEq, Nat.reduceAdd, Int.reduceMul, Int.reduceAdd, Int.reduceSub, Int.reduceLT, Int.reduceLE, Int.reduceEq, Int.reduceToNat, Int.reduceNeg, Nat.reduceLT, Nat.reduceDiv, Nat.reduceMod, Nat.reduceMul, Nat.reduceSub, Nat.reduceLeDiff, Nat.reduceBEq, Nat.reduceLeDiff, Nat.reducePow, Int.reducePow, reqD_of, dec_t, dec_f, wrap_i64, wrap_u32, wrap_u64, wrap_u8, F27.t10_eq, F27.t8_eq, F27.t4_eq, hd, e0, e1, e5, e10, hb, hN3, hq]
      refine (lets_any h3.sw2).mono ?_
      rintro e' w4 ⟨h4, rfl⟩
      have hb4 := LkQ.blk h4.drew
      have hC : rowV w4.drew ⟨C, 0, none⟩ 2 = some (.agg #[.int .i64 who, .bool n.2]) := h4.drew.sw2.row (n := 2) rfl
      simp -dsimp -implicitDefEqProofs (disch := omega) only [go_sem, ↓reduceIte, Nat.reduceEqDiff, reduceCtorEq, Nat.reduceAdd, Int.reduceMul, Int.reduceAdd, Int.reduceSub, Int.reduceLT, Int.reduceLE, Int.reduceEq, Int.reduceToNat, Int.reduceNeg, Nat.reduceLT, Nat.reduceDiv, Nat.reduceMod, Nat.reduceMul, Nat.reduceSub, Nat.reduceLeDiff, Nat.reduceBEq, Nat.reduceLeDiff, Nat.reducePow, Int.reducePow, reqD_of, dec_t, dec_f, wrap_i64, wrap_u32, wrap_u64, wrap_u8, F27.t10_eq, F27.t8_eq, F27.t4_eq, hd, e0, e1, e5, e10, hlet, hb4, hC]
      refine h4.drew.buildSlice (s := 2) fact_rowTy_69 (cells := clR [(who, n.2)]) rfl (by decide) (by decide) fun v3 w5 h5 => ?_
      have hb5 := LkQ.blk h5.right
      simp -dsimp -implicitDefEqProofs (disch := omega) only [go_sem, ↓reduceIte, Nat.reduceEqDiff, reduceCtorEq, Nat.reduceAdd, Int.reduceMul, Int.reduceAdd, Int.reduceSub, Int.reduceLT, Int.reduceLE, Int.reduceEq, Int.reduceToNat, Int.reduceNeg, Nat.reduceLT, Nat.reduceDiv, Nat.reduceMod, Nat.reduceMul, Nat.reduceSub, Nat.reduceLeDiff, Nat.reduceBEq, Nat.reduceLeDiff, Nat.reducePow, Int.reducePow, reqD_of, dec_t, dec_f, wrap_i64, wrap_u32, wrap_u64, wrap_u8, F27.t10_eq, F27.t8_eq, F27.t4_eq, hb5]
      have h6 := h5.ac (show _ = RowO 74 2 (.slice a1 s.1.length c1) s.1.length (clR s.1) * (Row 74 2 v3 1 (clR [(who, n.2)]) * (Blk b (.cells #[.slice a1 s.1.length c1, .slice a2 s.2.length c2] 71 (0, 0)) * (RowO 74 2 (.slice a2 s.2.length c2) s.2.length (clR s.2) * (Blk C (.cells (clC (who, n.2)).toArray 74 (0, 0)) * (TabR B m1 m2 ps ws n.1 * (Blk N (.cells (needC n).toArray 38 (0, 0)) * F)))))) by unfold LkQ; ac_rfl)
      refine h6.appendO fact_rowTy_69 (((h6.right.left.ent (Row.reads _ _ _ _ _)).rd).src Try.underlying69 (clR_cells _) (by simp [clR])) (by simp [maxLen]; omega) (by omega) fun v4 w6 h7 => ?_
      rw [← clR_app] at h7
      have h8 := h7.ac (show _ = Blk b (.cells #[.slice a1 s.1.length c1, .slice a2 s.2.length c2] 71 (0, 0)) * (RowO 74 2 v4 (s.1.length + 1) (clR (s.1 ++ [(who, n.2)])) * (RowO 74 2 (.slice a2 s.2.length c2) s.2.length (clR s.2) * (TabR B m1 m2 ps ws n.1 * (Blk N (.cells (needC n).toArray 38 (0, 0)) * (Row 74 2 v3 1 (clR [(who, n.2)]) * (Blk C (.cells (clC (who, n.2)).toArray 74 (0, 0)) * F)))))) by ac_rfl)
      obtain ⟨a4, c4, rfl, _⟩ := RowO.form h7
      have hb8 := h8.cells
      simp -dsimp -implicitDefEqProofs (disch := omega) only [go_sem, ↓reduceIte, Nat.reduceEqDiff, reduceCtorEq, Nat.reduceAdd, Int.reduceMul, Int.reduceAdd, Int.reduceSub, Int.reduceLT, Int.reduceLE, Int.reduceEq, Int.reduceToNat, Int.reduceNeg, Nat.reduceLT, Nat.reduceDiv, Nat.reduceMod, Nat.reduceMul, Nat.reduceSub, Nat.reduceLeDiff, Nat.reduceBEq, Nat.reduceLeDiff, Nat.reducePow, Int.reducePow, reqD_of, dec_t, dec_f, wrap_i64, wrap_u32, wrap_u64, wrap_u8, F27.t10_eq, F27.t8_eq, F27.t4_eq, hb8]
      refine h8.store (arr' := #[.slice a4 (s.1.length + 1) c4, .slice a2 s.2.length c2]) rfl (by simp) rfl fun w7 h9 => ?_
      simp -dsimp -implicitDefEqProofs (disch := omega) only [go_sem, ↓reduceIte, Nat.reduceEqDiff, reduceCtorEq, Nat.reduceAdd, Int.reduceMul, Int.reduceAdd, Int.reduceSub, Int.reduceLT, Int.reduceLE, Int.reduceEq, Int.reduceToNat, Int.reduceNeg, Nat.reduceLT, Nat.reduceDiv, Nat.reduceMod, Nat.reduceMul, Nat.reduceSub, Nat.reduceLeDiff, Nat.reduceBEq, Nat.reduceLeDiff, Nat.reducePow, Int.reducePow, reqD_of, dec_t, dec_f, wrap_i64, wrap_u32, wrap_u64, wrap_u8, F27.t10_eq, F27.t8_eq, F27.t4_eq, hd]
      have h10 := h9.ac (show _ = LkQ b (.slice a4 (s.1.length + 1) c4) (.slice a2 s.2.length c2) (s.1 ++ [(who, n.2)]) s.2 * (TabR B m1 m2 ps ws n.1 * ((Blk N (.cells (needC n).toArray 38 (0, 0)) * (Row 74 2 v3 1 (clR [(who, n.2)]) * Blk C (.cells (clC (who, n.2)).toArray 74 (0, 0)))) * F)) by unfold LkQ; rw [List.length_append]; simp only [List.length_cons, List.length_nil, Nat.zero_add]; ac_rfl)
      exact h10.ent (TabQ.done (s' := (s.1 ++ [(who, n.2)], s.2)) hk)
  · obtain ⟨⟨rfl, rfl⟩, rfl, rfl⟩ : (r1 = false ∧ r2 = 0) ∧ s' = (s.1, s.2 ++ [(who, n.2)]) ∧ wt = true := by have := hRR.symm.trans (hR (Or.inl (fun hx => hq (by rw [hx]; rfl)))); simpa using this
    simp -dsimp -implicitDefEqProofs (disch := omega) only [go_sem, ↓reduceIte, Nat.reduceEqDiff, reduceCtorEq, Nat.reduceAdd, Int.reduceMul, Int.reduceAdd, Int.reduceSub, Int.reduceLT, Int.reduceLE, Int.reduceEq, Int.reduceToNat, Int.reduceNeg, Nat.reduceLT, Nat.reduceDiv, Nat.reduceMod, Nat.reduceMul, Nat.reduceSub, Nat.reduceLeDiff, Nat.reduceBEq, Nat.reduceLeDiff, Nat.reducePow, Int.reducePow, reqD_of, dec_t, dec_f, wrap_i64, wrap_u32, wrap_u64, wrap_u8, F27.t10_eq, F27.t8_eq, F27.t4_eq, hd, e0, e1, e5, e10, hb, hN3, hq]
    exact ask_wait h3 hk (by simp -dsimp -implicitDefEqProofs only [go_sem, ↓reduceIte, Nat.reduceEqDiff, reduceCtorEq, Nat.reduceAdd, Int.reduceMul, Int.reduceAdd, Int.reduceSub, Int.reduceLT, Int.reduceLE, Int.reduceEq, Int.reduceToNat, Int.reduceNeg, Nat.reduceLT, Nat.reduceDiv, Nat.reduceMod, Nat.reduceMul, Nat.reduceSub, Nat.reduceLeDiff, Nat.reduceBEq, Nat.reduceLeDiff, Nat.reducePow, Int.reducePow, F27.t10_eq, F27.t8_eq, F27.t4_eq, hd]) (by simp -dsimp -implicitDefEqProofs only [go_sem, ↓reduceIte, Nat.reduceEqDiff, reduceCtorEq, Nat.reduceAdd, Int.reduceMul, Int.reduceAdd, Int.reduceSub, Int.reduceLT, Int.reduceLE, Int.reduceEq, Int.reduceToNat, Int.reduceNeg, Nat.reduceLT, Nat.reduceDiv, Nat.reduceMod, Nat.reduceMul, Nat.reduceSub, Nat.reduceLeDiff, Nat.reduceBEq, Nat.reduceLeDiff, Nat.reducePow, Int.reducePow, F27.t10_eq, F27.t8_eq, F27.t4_eq, e0]) (by simp -dsimp -implicitDefEqProofs only [go_sem, ↓reduceIte, Nat.reduceEqDiff, reduceCtorEq, Nat.reduceAdd, Int.reduceMul, Int.reduceAdd, Int.reduceSub, Int.reduceLT, Int.reduceLE, Int.reduceEq, Int.reduceToNat, Int.reduceNeg, Nat.reduceLT, Nat.reduceDiv, Nat.reduceMod, Nat.reduceMul, Nat.reduceSub, Nat.reduceLeDiff, Nat.reduceBEq, Nat.reduceLeDiff, Nat.reducePow, Int.reducePow, F27.t10_eq, F27.t8_eq, F27.t4_eq, e1]) (by simp -dsimp -implicitDefEqProofs only [go_sem, ↓reduceIte, Nat.reduceEqDiff, reduceCtorEq, Nat.reduceAdd, Int.reduceMul, Int.reduceAdd, Int.reduceSub, Int.reduceLT, Int.reduceLE, Int.reduceEq, Int.reduceToNat, Int.reduceNeg, Nat.reduceLT, Nat.reduceDiv, Nat.reduceMod, Nat.reduceMul, Nat.reduceSub, Nat.reduceLeDiff, Nat.reduceBEq, Nat.reduceLeDiff, Nat.reducePow, Int.reducePow, F27.t10_eq, F27.t8_eq, F27.t4_eq, e5]) (by simp -dsimp -implicitDefEqProofs only [go_sem, ↓reduceIte, Nat.reduceEqDiff, reduceCtorEq, Nat.reduceAdd, Int.reduceMul, Int.reduceAdd, Int.reduceSub, Int.reduceLT, Int.reduceLE, Int.reduceEq, Int.reduceToNat, Int.reduceNeg, Nat.reduceLT, Nat.reduceDiv, Nat.reduceMod, Nat.reduceMul, Nat.reduceSub, Nat.reduceLeDiff, Nat.reduceBEq, Nat.reduceLeDiff, Nat.reducePow, Int.reducePow, F27.t10_eq, F27.t8_eq, F27.t4_eq, e10]) (by simp -dsimp -implicitDefEqProofs only [go_sem, ↓reduceIte, Nat.reduceEqDiff, reduceCtorEq, Nat.reduceAdd, Int.reduceMul, Int.reduceAdd, Int.reduceSub, Int.reduceLT, Int.reduceLE, Int.reduceEq, Int.reduceToNat, Int.reduceNeg, Nat.reduceLT, Nat.reduceDiv, Nat.reduceMod, Nat.reduceMul, Nat.reduceSub, Nat.reduceLeDiff, Nat.reduceBEq, Nat.reduceLeDiff, Nat.reducePow, Int.reducePow, F27.t10_eq, F27.t8_eq, F27.t4_eq]) hl2

theorem zeroV67 : zeroV Try.prog 67 = some (.pointer none) := by kernel_rfl
theorem zeroV38 : zeroV Try.prog 38 = some (needV ((0, 0, 0), false)) := by kernel_rfl

/-- A new lock comes into the table. -/
theorem TabQ.new {B m1 m2 b : Nat} {ps : Ptrs} {ws : List (Int × Nee)} {x : Nam} {F : HP} (hk : agt x ps = none) :
    Ent (MapP namV m1 (amap ptrV (aset x (b, ([], [])) ps)) * (Blk B (.cells #[.map (some m1), .map (some m2)] 66 (0, 0)) * (MapP encI m2 (amap needV ws) * (stars (fun p => LkP p.2.1 p.2.2) ps * (Blk b (.cells #[.slice none 0 0, .slice none 0 0] 71 (0, 0)) * F)))))
      (TabQ B m1 m2 (aset x (b, ([], [])) ps) ws * F) := by
  unfold TabQ
  rw [stars_new _ x (b, ([], [])) ps hk]
  have : Ent (Blk b (.cells #[.slice none 0 0, .slice none 0 0] 71 (0, 0))) (LkP b ([], [])) := by
    refine Ent.trans ?_ (LkQ.shut b (.slice none 0 0) (.slice none 0 0) [] [])
    refine (Ent.nilRowO 74 2 _).trans ?_
    refine (Ent.nilRowO 74 2 _).trans ?_
    unfold LkQ
    exact Ent.of_eq (by simp only [List.length_nil, clR]; ac_rfl)
  refine Ent.trans (Ent.sep (Ent.rfl' _) (Ent.sep (Ent.rfl' _) (Ent.sep (Ent.rfl' _) (Ent.sep (Ent.rfl' _) (Ent.sep this (Ent.rfl' _)))))) ?_
  exact Ent.of_eq (by ac_rfl)


theorem ask_any {w0 w : World} {F : HP} {B : Nat} {ls : List (Nam × LkS)} {ws : List (Int × Nee)} {n : Nee} {who : Int} {r1 : Bool} {r2 : Int} {ls' : List (Nam × LkS)} {ws' : List (Int × Nee)} (h : St w0 (TabP B ls ws * F) w) (hR : askS who n ls ws = ((r1, r2), ls', ws'))
    (hl1 : ((agt n.1 ls).getD ([], [])).1.length < 1099511627776) (hl2 : ((agt n.1 ls).getD ([], [])).2.length < 1099511627776) :
    Calls Try.prog 27 #[.pointer (some ⟨B, 0, none⟩), .int .i64 who, needV n] w fun e w' => St w0 (TabP B ls' ws' * F) w' ∧ e = .returned (.tuple #[.bool r1, .int .i64 r2]) := by
  refine F27.calls (by simp) ?_
  unfold F27.code
  simp -dsimp -implicitDefEqProofs (disch := omega) only [go_sem, ↓reduceIte, Nat.reduceEqDiff, reduceCtorEq, Nat.reduceAdd, Int.reduceMul, Int.reduceAdd, Int.reduceSub, Int.reduceLT, Int.reduceLE, Int.reduceEq, Int.reduceToNat, Int.reduceNeg, Nat.reduceLT, Nat.reduceDiv, Nat.reduceMod, Nat.reduceMul, Nat.reduceSub, Nat.reduceLeDiff, Nat.reduceBEq, Nat.reduceLeDiff, Nat.reducePow, Int.reducePow, reqD_of, dec_t, dec_f, wrap_i64, wrap_u32, wrap_u64, wrap_u8, F27.t10_eq, F27.t4_eq]
  refine h.new fun N w1 h1 => ?_
  obtain ⟨m1, m2, ps, hps, h2⟩ := TabP.open h1.sw2
  have hr := TabQ.root h2
  simp -dsimp -implicitDefEqProofs (disch := omega) only [go_sem, ↓reduceIte, Nat.reduceEqDiff, reduceCtorEq, Nat.reduceAdd, Int.reduceMul, Int.reduceAdd, Int.reduceSub, Int.reduceLT, Int.reduceLE, Int.reduceEq, Int.reduceToNat, Int.reduceNeg, Nat.reduceLT, Nat.reduceDiv, Nat.reduceMod, Nat.reduceMul, Nat.reduceSub, Nat.reduceLeDiff, Nat.reduceBEq, Nat.reduceLeDiff, Nat.reducePow, Int.reducePow, reqD_of, dec_t, dec_f, wrap_i64, wrap_u32, wrap_u64, wrap_u8, F27.t10_eq, F27.t4_eq, hr]
  refine (h2.ac TabQ.map2).lookup Try.underlying64 lawI zeroV38 ?_
  rw [lk_amap]
  cases hw : agt who ws with
  | some v =>
    obtain ⟨⟨rfl, rfl⟩, rfl, rfl⟩ : (r1 = false ∧ r2 = 131) ∧ ls' = ls ∧ ws' = ws := by have := hR.symm; simpa [askS, hw] using this
    rw [Option.map_some]
    simp -dsimp -implicitDefEqProofs (disch := omega) only [go_sem, ↓reduceIte, Nat.reduceEqDiff, reduceCtorEq, Nat.reduceAdd, Int.reduceMul, Int.reduceAdd, Int.reduceSub, Int.reduceLT, Int.reduceLE, Int.reduceEq, Int.reduceToNat, Int.reduceNeg, Nat.reduceLT, Nat.reduceDiv, Nat.reduceMod, Nat.reduceMul, Nat.reduceSub, Nat.reduceLeDiff, Nat.reduceBEq, Nat.reduceLeDiff, Nat.reducePow, Int.reducePow, reqD_of, dec_t, dec_f, wrap_i64, wrap_u32, wrap_u64, wrap_u8, F27.t10_eq, F27.t4_eq, lkV_someOk]
    refine h2.new fun C w2 h3 => ?_
    simp -dsimp -implicitDefEqProofs (disch := omega) only [go_sem, ↓reduceIte, Nat.reduceEqDiff, reduceCtorEq, Nat.reduceAdd, Int.reduceMul, Int.reduceAdd, Int.reduceSub, Int.reduceLT, Int.reduceLE, Int.reduceEq, Int.reduceToNat, Int.reduceNeg, Nat.reduceLT, Nat.reduceDiv, Nat.reduceMod, Nat.reduceMul, Nat.reduceSub, Nat.reduceLeDiff, Nat.reduceBEq, Nat.reduceLeDiff, Nat.reducePow, Int.reducePow, reqD_of, dec_t, dec_f, wrap_i64, wrap_u32, wrap_u64, wrap_u8, F27.t10_eq, F27.t4_eq]
    refine h3.storeAll (cs := needC v) rfl rfl (needC_cells v) fun w3 h4 => ?_
    simp -dsimp -implicitDefEqProofs (disch := omega) only [go_sem, ↓reduceIte, Nat.reduceEqDiff, reduceCtorEq, Nat.reduceAdd, Int.reduceMul, Int.reduceAdd, Int.reduceSub, Int.reduceLT, Int.reduceLE, Int.reduceEq, Int.reduceToNat, Int.reduceNeg, Nat.reduceLT, Nat.reduceDiv, Nat.reduceMod, Nat.reduceMul, Nat.reduceSub, Nat.reduceLeDiff, Nat.reduceBEq, Nat.reduceLeDiff, Nat.reducePow, Int.reducePow, reqD_of, dec_t, dec_f, wrap_i64, wrap_u32, wrap_u64, wrap_u8, F27.t10_eq, F27.t4_eq]
    refine (h4.right).ent ?_
    exact Ent.sep (TabQ.shut B m1 m2 ps _ hps) (Ent.right _ _)
  | none =>
    rw [Option.map_none]
    simp -dsimp -implicitDefEqProofs (disch := omega) only [go_sem, ↓reduceIte, Nat.reduceEqDiff, reduceCtorEq, Nat.reduceAdd, Int.reduceMul, Int.reduceAdd, Int.reduceSub, Int.reduceLT, Int.reduceLE, Int.reduceEq, Int.reduceToNat, Int.reduceNeg, Nat.reduceLT, Nat.reduceDiv, Nat.reduceMod, Nat.reduceMul, Nat.reduceSub, Nat.reduceLeDiff, Nat.reduceBEq, Nat.reduceLeDiff, Nat.reducePow, Int.reducePow, reqD_of, dec_t, dec_f, wrap_i64, wrap_u32, wrap_u64, wrap_u8, F27.t10_eq, F27.t4_eq, lkV_noneOk]
    refine h2.new fun C w2 h3 => ?_
    simp -dsimp -implicitDefEqProofs (disch := omega) only [go_sem, ↓reduceIte, Nat.reduceEqDiff, reduceCtorEq, Nat.reduceAdd, Int.reduceMul, Int.reduceAdd, Int.reduceSub, Int.reduceLT, Int.reduceLE, Int.reduceEq, Int.reduceToNat, Int.reduceNeg, Nat.reduceLT, Nat.reduceDiv, Nat.reduceMod, Nat.reduceMul, Nat.reduceSub, Nat.reduceLeDiff, Nat.reduceBEq, Nat.reduceLeDiff, Nat.reducePow, Int.reducePow, reqD_of, dec_t, dec_f, wrap_i64, wrap_u32, wrap_u64, wrap_u8, F27.t10_eq, F27.t4_eq]
    refine h3.storeAll (cs := needC ((0, 0, 0), false)) rfl rfl (needC_cells _) fun w3 h4 => ?_
    have h5 := h4.right.drew
    have hr5 := TabQ.root h5
    have hN : rowV w3.drew ⟨N, 0, none⟩ 3 = some (namV n.1) := (h5.sw2).rowAt (n := 3) (o := 0) (by simp [needC])
    simp -dsimp -implicitDefEqProofs (disch := omega) only [go_sem, ↓reduceIte, Nat.reduceEqDiff, reduceCtorEq, Nat.reduceAdd, Int.reduceMul, Int.reduceAdd, Int.reduceSub, Int.reduceLT, Int.reduceLE, Int.reduceEq, Int.reduceToNat, Int.reduceNeg, Nat.reduceLT, Nat.reduceDiv, Nat.reduceMod, Nat.reduceMul, Nat.reduceSub, Nat.reduceLeDiff, Nat.reduceBEq, Nat.reduceLeDiff, Nat.reducePow, Int.reducePow, reqD_of, dec_t, dec_f, wrap_i64, wrap_u32, wrap_u64, wrap_u8, F27.t10_eq, F27.t4_eq, hr5, hN]
    refine (h5.ac TabQ.map1).lookup Try.underlying63 lawN zeroV67 ?_
    rw [lk_amap]
    cases hk : agt n.1 ps with
    | some bs =>
      obtain ⟨b, s⟩ := bs
      have hls : agt n.1 ls = some s := by rw [← hps, agt_amap, hk]; rfl
      rw [hls] at hl1 hl2
      simp only [Option.getD_some] at hl1 hl2
      obtain ⟨⟨⟨a1, a2⟩, s', wt⟩, hT⟩ : ∃ x, askT who n.2 s = x := ⟨_, rfl⟩
      obtain ⟨⟨rfl, rfl⟩, rfl, rfl⟩ : (r1 = a1 ∧ r2 = a2) ∧ ls' = aset n.1 s' ls ∧ ws' = (if wt = true then aset who n ws else ws) := by have := hR.symm; simpa [askS, hw, hls, hT] using this
      rw [Option.map_some]
      simp -dsimp -implicitDefEqProofs (disch := omega) only [go_sem, ↓reduceIte, Nat.reduceEqDiff, reduceCtorEq, Nat.reduceAdd, Int.reduceMul, Int.reduceAdd, Int.reduceSub, Int.reduceLT, Int.reduceLE, Int.reduceEq, Int.reduceToNat, Int.reduceNeg, Nat.reduceLT, Nat.reduceDiv, Nat.reduceMod, Nat.reduceMul, Nat.reduceSub, Nat.reduceLeDiff, Nat.reduceBEq, Nat.reduceLeDiff, Nat.reducePow, Int.reducePow, reqD_of, dec_t, dec_f, wrap_i64, wrap_u32, wrap_u64, wrap_u8, F27.t10_eq, F27.t4_eq, lkV_some, ptrV, hr5, hN]
      subst hps
      exact ask_tail hT h5 hk (by simp -dsimp -implicitDefEqProofs only [go_sem, ↓reduceIte, Nat.reduceEqDiff, reduceCtorEq, Nat.reduceAdd, Int.reduceMul, Int.reduceAdd, Int.reduceSub, Int.reduceLT, Int.reduceLE, Int.reduceEq, Int.reduceToNat, Int.reduceNeg, Nat.reduceLT, Nat.reduceDiv, Nat.reduceMod, Nat.reduceMul, Nat.reduceSub, Nat.reduceLeDiff, Nat.reduceBEq, Nat.reduceLeDiff, Nat.reducePow, Int.reducePow, F27.t10_eq, F27.t4_eq]) (by simp -dsimp -implicitDefEqProofs only [go_sem, ↓reduceIte, Nat.reduceEqDiff, reduceCtorEq, Nat.reduceAdd, Int.reduceMul, Int.reduceAdd, Int.reduceSub, Int.reduceLT, Int.reduceLE, Int.reduceEq, Int.reduceToNat, Int.reduceNeg, Nat.reduceLT, Nat.reduceDiv, Nat.reduceMod, Nat.reduceMul, Nat.reduceSub, Nat.reduceLeDiff, Nat.reduceBEq, Nat.reduceLeDiff, Nat.reducePow, Int.reducePow, F27.t10_eq, F27.t4_eq]) (by simp -dsimp -implicitDefEqProofs only [go_sem, ↓reduceIte, Nat.reduceEqDiff, reduceCtorEq, Nat.reduceAdd, Int.reduceMul, Int.reduceAdd, Int.reduceSub, Int.reduceLT, Int.reduceLE, Int.reduceEq, Int.reduceToNat, Int.reduceNeg, Nat.reduceLT, Nat.reduceDiv, Nat.reduceMod, Nat.reduceMul, Nat.reduceSub, Nat.reduceLeDiff, Nat.reduceBEq, Nat.reduceLeDiff, Nat.reducePow, Int.reducePow, F27.t10_eq, F27.t4_eq]) (by simp -dsimp -implicitDefEqProofs only [go_sem, ↓reduceIte, Nat.reduceEqDiff, reduceCtorEq, Nat.reduceAdd, Int.reduceMul, Int.reduceAdd, Int.reduceSub, Int.reduceLT, Int.reduceLE, Int.reduceEq, Int.reduceToNat, Int.reduceNeg, Nat.reduceLT, Nat.reduceDiv, Nat.reduceMod, Nat.reduceMul, Nat.reduceSub, Nat.reduceLeDiff, Nat.reduceBEq, Nat.reduceLeDiff, Nat.reducePow, Int.reducePow, F27.t10_eq, F27.t4_eq]) (by simp -dsimp -implicitDefEqProofs only [go_sem, ↓reduceIte, Nat.reduceEqDiff, reduceCtorEq, Nat.reduceAdd, Int.reduceMul, Int.reduceAdd, Int.reduceSub, Int.reduceLT, Int.reduceLE, Int.reduceEq, Int.reduceToNat, Int.reduceNeg, Nat.reduceLT, Nat.reduceDiv, Nat.reduceMod, Nat.reduceMul, Nat.reduceSub, Nat.reduceLeDiff, Nat.reduceBEq, Nat.reduceLeDiff, Nat.reducePow, Int.reducePow, F27.t10_eq, F27.t4_eq]) hl1 hl2
    | none =>
      have hls : agt n.1 ls = none := by rw [← hps, agt_amap, hk]; rfl
      obtain ⟨⟨⟨a1, a2⟩, s', wt⟩, hT⟩ : ∃ x, askT who n.2 ([], []) = x := ⟨_, rfl⟩
      obtain ⟨⟨rfl, rfl⟩, rfl, rfl⟩ : (r1 = a1 ∧ r2 = a2) ∧ ls' = aset n.1 s' ls ∧ ws' = (if wt = true then aset who n ws else ws) := by have := hR.symm; simpa [askS, hw, hls, hT] using this
      rw [Option.map_none]
      simp -dsimp -implicitDefEqProofs (disch := omega) only [go_sem, ↓reduceIte, Nat.reduceEqDiff, reduceCtorEq, Nat.reduceAdd, Int.reduceMul, Int.reduceAdd, Int.reduceSub, Int.reduceLT, Int.reduceLE, Int.reduceEq, Int.reduceToNat, Int.reduceNeg, Nat.reduceLT, Nat.reduceDiv, Nat.reduceMod, Nat.reduceMul, Nat.reduceSub, Nat.reduceLeDiff, Nat.reduceBEq, Nat.reduceLeDiff, Nat.reducePow, Int.reducePow, reqD_of, dec_t, dec_f, wrap_i64, wrap_u32, wrap_u64, wrap_u8, F27.t10_eq, F27.t4_eq, lkV_none, hr5, hN]
      refine onV_of (v := .agg #[.slice none 0 0, .slice none 0 0]) rfl ?_
      simp -dsimp -implicitDefEqProofs (disch := omega) only [go_sem, ↓reduceIte, Nat.reduceEqDiff, reduceCtorEq, Nat.reduceAdd, Int.reduceMul, Int.reduceAdd, Int.reduceSub, Int.reduceLT, Int.reduceLE, Int.reduceEq, Int.reduceToNat, Int.reduceNeg, Nat.reduceLT, Nat.reduceDiv, Nat.reduceMod, Nat.reduceMul, Nat.reduceSub, Nat.reduceLeDiff, Nat.reduceBEq, Nat.reduceLeDiff, Nat.reducePow, Int.reducePow, reqD_of, dec_t, dec_f, wrap_i64, wrap_u32, wrap_u64, wrap_u8, F27.t10_eq, F27.t4_eq]
      refine h5.new fun b w4 h6 => ?_
      have h7 := h6.drew.sw2
      have hr7 := TabQ.root h7
      have hN7 : rowV w4.drew ⟨N, 0, none⟩ 3 = some (namV n.1) := (h7.ac (show _ = Blk N (.cells (needC n).toArray 38 (0, 0)) * (TabQ B m1 m2 ps ws * (Blk b (.cells #[.slice none 0 0, .slice none 0 0] 71 (0, 0)) * F)) by ac_rfl)).rowAt (n := 3) (o := 0) (by simp [needC])
      simp -dsimp -implicitDefEqProofs (disch := omega) only [go_sem, ↓reduceIte, Nat.reduceEqDiff, reduceCtorEq, Nat.reduceAdd, Int.reduceMul, Int.reduceAdd, Int.reduceSub, Int.reduceLT, Int.reduceLE, Int.reduceEq, Int.reduceToNat, Int.reduceNeg, Nat.reduceLT, Nat.reduceDiv, Nat.reduceMod, Nat.reduceMul, Nat.reduceSub, Nat.reduceLeDiff, Nat.reduceBEq, Nat.reduceLeDiff, Nat.reducePow, Int.reducePow, reqD_of, dec_t, dec_f, wrap_i64, wrap_u32, wrap_u64, wrap_u8, F27.t10_eq, F27.t4_eq, hr7, hN7]
      refine St.update (h7.ac TabQ.map1) Try.underlying63 lawN fun w5 h8 => ?_
      rw [show upd n.1 (.pointer (some ⟨b, 0, none⟩)) (amap ptrV ps) = amap ptrV (aset n.1 (b, ([], [])) ps) from upd_amap ptrV n.1 (b, ([], [])) ps] at h8
      have h9 := h8.ent (TabQ.new hk)
      have hr9 := TabQ.root h9
      have hN9 : rowV w5 ⟨N, 0, none⟩ 3 = some (namV n.1) := (h9.sw2).rowAt (n := 3) (o := 0) (by simp [needC])
      simp -dsimp -implicitDefEqProofs (disch := omega) only [go_sem, ↓reduceIte, Nat.reduceEqDiff, reduceCtorEq, Nat.reduceAdd, Int.reduceMul, Int.reduceAdd, Int.reduceSub, Int.reduceLT, Int.reduceLE, Int.reduceEq, Int.reduceToNat, Int.reduceNeg, Nat.reduceLT, Nat.reduceDiv, Nat.reduceMod, Nat.reduceMul, Nat.reduceSub, Nat.reduceLeDiff, Nat.reduceBEq, Nat.reduceLeDiff, Nat.reducePow, Int.reducePow, reqD_of, dec_t, dec_f, wrap_i64, wrap_u32, wrap_u64, wrap_u8, F27.t10_eq, F27.t4_eq, hr9, hN9]
      subst hps
      have e9 : aset n.1 s' (amap (·.2) ps) = aset n.1 s' (amap (·.2) (aset n.1 (b, ([], [])) ps)) := by rw [← aset_amap, aset_aset]
      rw [e9]
      exact ask_tail hT h9 (agt_aset _ _ _) (by simp -dsimp -implicitDefEqProofs only [go_sem, ↓reduceIte, Nat.reduceEqDiff, reduceCtorEq, Nat.reduceAdd, Int.reduceMul, Int.reduceAdd, Int.reduceSub, Int.reduceLT, Int.reduceLE, Int.reduceEq, Int.reduceToNat, Int.reduceNeg, Nat.reduceLT, Nat.reduceDiv, Nat.reduceMod, Nat.reduceMul, Nat.reduceSub, Nat.reduceLeDiff, Nat.reduceBEq, Nat.reduceLeDiff, Nat.reducePow, Int.reducePow, F27.t10_eq, F27.t4_eq]) (by simp -dsimp -implicitDefEqProofs only [go_sem, ↓reduceIte, Nat.reduceEqDiff, reduceCtorEq, Nat.reduceAdd, Int.reduceMul, Int.reduceAdd, Int.reduceSub, Int.reduceLT, Int.reduceLE, Int.reduceEq, Int.reduceToNat, Int.reduceNeg, Nat.reduceLT, Nat.reduceDiv, Nat.reduceMod, Nat.reduceMul, Nat.reduceSub, Nat.reduceLeDiff, Nat.reduceBEq, Nat.reduceLeDiff, Nat.reducePow, Int.reducePow, F27.t10_eq, F27.t4_eq]) (by simp -dsimp -implicitDefEqProofs only [go_sem, ↓reduceIte, Nat.reduceEqDiff, reduceCtorEq, Nat.reduceAdd, Int.reduceMul, Int.reduceAdd, Int.reduceSub, Int.reduceLT, Int.reduceLE, Int.reduceEq, Int.reduceToNat, Int.reduceNeg, Nat.reduceLT, Nat.reduceDiv, Nat.reduceMod, Nat.reduceMul, Nat.reduceSub, Nat.reduceLeDiff, Nat.reduceBEq, Nat.reduceLeDiff, Nat.reducePow, Int.reducePow, F27.t10_eq, F27.t4_eq]) (by simp -dsimp -implicitDefEqProofs only [go_sem, ↓reduceIte, Nat.reduceEqDiff, reduceCtorEq, Nat.reduceAdd, Int.reduceMul, Int.reduceAdd, Int.reduceSub, Int.reduceLT, Int.reduceLE, Int.reduceEq, Int.reduceToNat, Int.reduceNeg, Nat.reduceLT, Nat.reduceDiv, Nat.reduceMod, Nat.reduceMul, Nat.reduceSub, Nat.reduceLeDiff, Nat.reduceBEq, Nat.reduceLeDiff, Nat.reducePow, Int.reducePow, F27.t10_eq, F27.t4_eq]) (by simp -dsimp -implicitDefEqProofs only [go_sem, ↓reduceIte, Nat.reduceEqDiff, reduceCtorEq, Nat.reduceAdd, Int.reduceMul, Int.reduceAdd, Int.reduceSub, Int.reduceLT, Int.reduceLE, Int.reduceEq, Int.reduceToNat, Int.reduceNeg, Nat.reduceLT, Nat.reduceDiv, Nat.reduceMod, Nat.reduceMul, Nat.reduceSub, Nat.reduceLeDiff, Nat.reduceBEq, Nat.reduceLeDiff, Nat.reducePow, Int.reducePow, F27.t10_eq, F27.t4_eq]) (by simp) (by simp)

end Go.Proofs.Ytacmnfpgimgigaa

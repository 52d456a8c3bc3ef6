/- The table of locks: Queue, admit, Free. -/
import Derived.Test.YtacmnfpgimgigaaLkD
namespace Go.Proofs.Ytacmnfpgimgigaa
open Go
set_option linter.unusedSimpArgs false
set_option linter.unusedVariables false
set_option maxRecDepth 100000


theorem queue_any {w0 w : World} {F : HP} {B : Nat} {ls : List (Nam × LkS)} {ws : List (Int × Nee)} {x : Nam} {q : List Claim} (h : St w0 (TabP B ls ws * F) w) (hq : ((agt x ls).getD ([], [])).2 = q) (hl : q.length < 1099511627776) :
    Calls Try.prog 13 #[.pointer (some ⟨B, 0, none⟩), namV x] w fun e w' => ∃ v, St w0 (RowO 3 1 v q.length (intR (q.map (·.1))) * (TabP B ls ws * F)) w' ∧ e = .returned v := by
  refine F13.calls (by simp) ?_
  unfold F13.code
  simp -dsimp -implicitDefEqProofs (disch := omega) only [go_sem, ↓reduceIte, Nat.reduceEqDiff, reduceCtorEq, Nat.reduceAdd, Int.reduceMul, Int.reduceAdd, Int.reduceSub, Int.reduceLT, Int.reduceLE, Int.reduceEq, Int.reduceToNat, Int.reduceNeg, Nat.reduceLT, Nat.reduceDiv, Nat.reduceMod, Nat.reduceMul, Nat.reduceSub, Nat.reduceLeDiff, Nat.reduceBEq, Nat.reduceLeDiff, Nat.reducePow, Int.reducePow, reqD_of, dec_t, dec_f, wrap_i64, wrap_u32, wrap_u64, wrap_u8, F13.t4_eq]
  refine h.new fun N w1 h1 => ?_
  obtain ⟨m1, m2, ps, hps, h2⟩ := TabP.open h1.drew.sw2
  have hr := TabQ.root h2
  have hN : rowV w1.drew ⟨N, 0, none⟩ 3 = some (namV x) := (h2.sw2).row (n := 3) (arr := (namC x).toArray) rfl
  simp -dsimp -implicitDefEqProofs (disch := omega) only [go_sem, ↓reduceIte, Nat.reduceEqDiff, reduceCtorEq, Nat.reduceAdd, Int.reduceMul, Int.reduceAdd, Int.reduceSub, Int.reduceLT, Int.reduceLE, Int.reduceEq, Int.reduceToNat, Int.reduceNeg, Nat.reduceLT, Nat.reduceDiv, Nat.reduceMod, Nat.reduceMul, Nat.reduceSub, Nat.reduceLeDiff, Nat.reduceBEq, Nat.reduceLeDiff, Nat.reducePow, Int.reducePow, reqD_of, dec_t, dec_f, wrap_i64, wrap_u32, wrap_u64, wrap_u8, F13.t4_eq, hr, hN]
  refine (h2.ac TabQ.map1).lookup Try.underlying63 lawN zeroV67 ?_
  rw [lk_amap]
  cases hk : agt x ps with
  | none =>
    have hls : agt x ls = none := by rw [← hps, agt_amap, hk]; rfl
    rw [hls] at hq
    simp only [Option.getD_none] at hq
    subst hq
    rw [Option.map_none]
    simp -dsimp -implicitDefEqProofs (disch := omega) only [go_sem, ↓reduceIte, Nat.reduceEqDiff, reduceCtorEq, Nat.reduceAdd, Int.reduceMul, Int.reduceAdd, Int.reduceSub, Int.reduceLT, Int.reduceLE, Int.reduceEq, Int.reduceToNat, Int.reduceNeg, Nat.reduceLT, Nat.reduceDiv, Nat.reduceMod, Nat.reduceMul, Nat.reduceSub, Nat.reduceLeDiff, Nat.reduceBEq, Nat.reduceLeDiff, Nat.reducePow, Int.reducePow, reqD_of, dec_t, dec_f, wrap_i64, wrap_u32, wrap_u64, wrap_u8, F13.t4_eq, lkV_none, hr, hN]
    refine ⟨_, ?_, rfl⟩
    refine (h2.ent (Ent.sep (TabQ.shut B m1 m2 ps ws hps) (Ent.right _ _))).ent ?_
    exact Ent.nilRowO 3 1 _
  | some bs =>
    obtain ⟨b, s⟩ := bs
    have hls : agt x ls = some s := by rw [← hps, agt_amap, hk]; rfl
    rw [hls] at hq
    simp only [Option.getD_some] at hq
    subst hq
    rw [Option.map_some]
    have h3 := h2
    rw [TabQ.lock hk] at h3
    unfold LkP at h3
    obtain ⟨⟨v1, v2⟩, h3⟩ := h3.exF
    simp only at h3
    have hb := LkQ.blk h3
    simp -dsimp -implicitDefEqProofs (disch := omega) only [go_sem, ↓reduceIte, Nat.reduceEqDiff, reduceCtorEq, Nat.reduceAdd, Int.reduceMul, Int.reduceAdd, Int.reduceSub, Int.reduceLT, Int.reduceLE, Int.reduceEq, Int.reduceToNat, Int.reduceNeg, Nat.reduceLT, Nat.reduceDiv, Nat.reduceMod, Nat.reduceMul, Nat.reduceSub, Nat.reduceLeDiff, Nat.reduceBEq, Nat.reduceLeDiff, Nat.reducePow, Int.reducePow, reqD_of, dec_t, dec_f, wrap_i64, wrap_u32, wrap_u64, wrap_u8, F13.t4_eq, lkV_some, ptrV, hr, hN, hb]
    refine (whose_any h3 (LkQ.queue _ _ _ _ _ _) hl).mono ?_
    rintro e w2 ⟨v, h4, rfl⟩
    simp -dsimp -implicitDefEqProofs (disch := omega) only [go_sem, ↓reduceIte, Nat.reduceEqDiff, reduceCtorEq, Nat.reduceAdd, Int.reduceMul, Int.reduceAdd, Int.reduceSub, Int.reduceLT, Int.reduceLE, Int.reduceEq, Int.reduceToNat, Int.reduceNeg, Nat.reduceLT, Nat.reduceDiv, Nat.reduceMod, Nat.reduceMul, Nat.reduceSub, Nat.reduceLeDiff, Nat.reduceBEq, Nat.reduceLeDiff, Nat.reducePow, Int.reducePow, reqD_of, dec_t, dec_f, wrap_i64, wrap_u32, wrap_u64, wrap_u8, F13.t4_eq]
    refine ⟨_, ?_, rfl⟩
    refine h4.ent (Ent.sep (Ent.rfl' _) ((TabQ.ins hk).trans (Ent.sep (TabQ.shut B m1 m2 _ ws ?_) (Ent.right _ _))))
    rw [← aset_amap, aset_same x s _ (by rw [hps]; exact hls), hps]

/-- Whom a lock lets in: who holds it then, who waits still, who came in. -/
def adm : List Claim → List Claim → List Claim × List Claim × List Claim
  | h, [] => (h, [], [])
  | h, c :: q => if letsB h c.2 = true then ((adm (h ++ [c]) q).1, (adm (h ++ [c]) q).2.1, c :: (adm (h ++ [c]) q).2.2) else (h, c :: q, [])

def delAll (l : List Claim) (ws : List (Int × Nee)) : List (Int × Nee) := l.foldl (fun ws c => adel c.1 ws) ws

def admS (x : Nam) (s : LkS) (ls : List (Nam × LkS)) (ws : List (Int × Nee)) : List (Nam × LkS) × List (Int × Nee) :=
  (if (adm s.1 s.2).1 = [] then adel x ls else aset x ((adm s.1 s.2).1, (adm s.1 s.2).2.1) ls, delAll (adm s.1 s.2).2.2 ws)


theorem admit_end {w0 w : World} {F : HP} {B m1 m2 N b : Nat} {ps : Ptrs} {ws : List (Int × Nee)} {x : Nam} {s : LkS} {hs q l : List Claim} {v1 v2 v : Value} {e : FA}
    (h : St w0 (RowO 3 1 v l.length (intR (l.map (·.1))) * (LkQ b v1 v2 hs q * (TabR B m1 m2 ps ws x * (Blk N (.cells (namC x).toArray 26 (0, 0)) * F)))) w) (hk : agt x ps = some (b, s))
    (hd : e.ds = []) (e0 : e.ρ 0 = .pointer (some ⟨B, 0, none⟩)) (e3 : e.ρ 3 = .pointer (some ⟨N, 0, none⟩)) (e5 : e.ρ 5 = .pointer (some ⟨b, 0, none⟩)) (e6 : e.ρ 6 = v) :
    cwE Try.prog F44.t9 (fnP Try.prog #[.tmp 4] fun e w' => ∃ v, St w0 (RowO 3 1 v l.length (intR (l.map (·.1))) * (TabP B (if hs = [] then adel x (amap (·.2) ps) else aset x (hs, q) (amap (·.2) ps)) ws * F)) w' ∧ e = .returned v) e w := by
  have hb := LkQ.blk h.sw2
  obtain ⟨a1, c1, rfl, _, _, _⟩ := RowO.form (h.ac (show _ = RowO 74 2 v1 hs.length (clR hs) * (Blk b (.cells #[v1, v2] 71 (0, 0)) * (RowO 74 2 v2 q.length (clR q) * (RowO 3 1 v l.length (intR (l.map (·.1))) * (TabR B m1 m2 ps ws x * (Blk N (.cells (namC x).toArray 26 (0, 0)) * F))))) by unfold LkQ; ac_rfl))
  rw [F44.t9_eq]
  by_cases hh : (hs.length : Int) = 0
  · have hh' : hs = [] := List.eq_nil_of_length_eq_zero (by omega)
    rw [if_pos hh']
    have h2 := h.drew.ac (show _ = MapP namV m1 (amap ptrV ps) * (Blk B (.cells #[.map (some m1), .map (some m2)] 66 (0, 0)) * (MapP encI m2 (amap needV ws) * (stars (fun p => LkP p.2.1 p.2.2) (adel x ps) * (RowO 3 1 v l.length (intR (l.map (·.1))) * (LkQ b (.slice a1 hs.length c1) v2 hs q * (Blk N (.cells (namC x).toArray 26 (0, 0)) * F)))))) by unfold TabR; ac_rfl)
    have hr := h2.sw2.cells
    have hN : rowV w.drew ⟨N, 0, none⟩ 3 = some (namV x) := (h2.ac (show _ = Blk N (.cells (namC x).toArray 26 (0, 0)) * (MapP namV m1 (amap ptrV ps) * (Blk B (.cells #[.map (some m1), .map (some m2)] 66 (0, 0)) * (MapP encI m2 (amap needV ws) * (stars (fun p => LkP p.2.1 p.2.2) (adel x ps) * (RowO 3 1 v l.length (intR (l.map (·.1))) * (LkQ b (.slice a1 hs.length c1) v2 hs q * F)))))) by ac_rfl)).row (n := 3) rfl
    simp -dsimp -implicitDefEqProofs (disch := omega) only [go_sem, ↓reduceIte, Nat.reduceEqDiff, reduceCtorEq, Nat.reduceAdd, Int.reduceMul, Int.reduceAdd, Int.reduceSub, Int.reduceLT, Int.reduceLE, Int.reduceEq, Int.reduceToNat, Int.reduceNeg, Nat.reduceLT, Nat.reduceDiv, Nat.reduceMod, Nat.reduceMul, Nat.reduceSub, Nat.reduceLeDiff, Nat.reduceBEq, Nat.reduceLeDiff, Nat.reducePow, Int.reducePow, reqD_of, dec_t, dec_f, wrap_i64, wrap_u32, wrap_u64, wrap_u8, F44.t4_eq, F44.t11_eq, F44.t9_eq, hd, e0, e3, e5, e6, hb, hh, hr, hN]
    refine h2.delete Try.underlying63 lawN fun w1 h3 => ?_
    rw [del_amap] at h3
    have hr3 := h3.sw2.cells
    have hN3 : rowV w1 ⟨N, 0, none⟩ 3 = some (namV x) := (h3.ac (show _ = Blk N (.cells (namC x).toArray 26 (0, 0)) * (MapP namV m1 (amap ptrV (adel x ps)) * (Blk B (.cells #[.map (some m1), .map (some m2)] 66 (0, 0)) * (MapP encI m2 (amap needV ws) * (stars (fun p => LkP p.2.1 p.2.2) (adel x ps) * (RowO 3 1 v l.length (intR (l.map (·.1))) * (LkQ b (.slice a1 hs.length c1) v2 hs q * F)))))) by ac_rfl)).row (n := 3) rfl
    simp -dsimp -implicitDefEqProofs (disch := omega) only [go_sem, ↓reduceIte, Nat.reduceEqDiff, reduceCtorEq, Nat.reduceAdd, Int.reduceMul, Int.reduceAdd, Int.reduceSub, Int.reduceLT, Int.reduceLE, Int.reduceEq, Int.reduceToNat, Int.reduceNeg, Nat.reduceLT, Nat.reduceDiv, Nat.reduceMod, Nat.reduceMul, Nat.reduceSub, Nat.reduceLeDiff, Nat.reduceBEq, Nat.reduceLeDiff, Nat.reducePow, Int.reducePow, reqD_of, dec_t, dec_f, wrap_i64, wrap_u32, wrap_u64, wrap_u8, F44.t4_eq, F44.t11_eq, F44.t9_eq, hd, e0, e3, e5, e6, hr3, hN3]
    refine ⟨_, ?_, rfl⟩
    refine (h3.ac (show _ = RowO 3 1 v l.length (intR (l.map (·.1))) * (TabQ B m1 m2 (adel x ps) ws * (LkQ b (.slice a1 hs.length c1) v2 hs q * (Blk N (.cells (namC x).toArray 26 (0, 0)) * F))) by unfold TabQ; ac_rfl)).ent ?_
    exact Ent.sep (Ent.rfl' _) (Ent.sep (TabQ.shut B m1 m2 _ ws (by rw [← adel_amap])) ((Ent.right _ _).trans (Ent.right _ _)))
  · rw [if_neg (by intro hx; exact hh (by rw [hx]; rfl))]
    simp -dsimp -implicitDefEqProofs (disch := omega) only [go_sem, ↓reduceIte, Nat.reduceEqDiff, reduceCtorEq, Nat.reduceAdd, Int.reduceMul, Int.reduceAdd, Int.reduceSub, Int.reduceLT, Int.reduceLE, Int.reduceEq, Int.reduceToNat, Int.reduceNeg, Nat.reduceLT, Nat.reduceDiv, Nat.reduceMod, Nat.reduceMul, Nat.reduceSub, Nat.reduceLeDiff, Nat.reduceBEq, Nat.reduceLeDiff, Nat.reducePow, Int.reducePow, reqD_of, dec_t, dec_f, wrap_i64, wrap_u32, wrap_u64, wrap_u8, F44.t4_eq, F44.t11_eq, F44.t9_eq, hd, e0, e3, e5, e6, hb, hh]
    refine ⟨_, ?_, rfl⟩
    refine h.ent (Ent.sep (Ent.rfl' _) ?_)
    refine ((TabQ.ins (s' := (hs, q)) hk).trans (Ent.sep (TabQ.shut B m1 m2 _ ws ?_) (Ent.right _ _)))
    rw [← aset_amap]

end Go.Proofs.Ytacmnfpgimgigaa

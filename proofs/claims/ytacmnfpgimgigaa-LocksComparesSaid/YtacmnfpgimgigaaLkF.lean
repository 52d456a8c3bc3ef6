/- The table of locks: who is let in; Free. -/
import Derived.Test.YtacmnfpgimgigaaLkE
namespace Go.Proofs.Ytacmnfpgimgigaa
open Go
set_option linter.unusedSimpArgs false
set_option linter.unusedVariables false
set_option maxRecDepth 100000

theorem adm_stop {h : List Claim} {c : Claim} {q : List Claim} (hx : letsB h c.2 = false) : adm h (c :: q) = (h, c :: q, []) := by
  rw [adm, if_neg (by simp [hx])]
theorem adm_go {h : List Claim} {c : Claim} {q : List Claim} (hx : letsB h c.2 = true) : adm h (c :: q) = ((adm (h ++ [c]) q).1, (adm (h ++ [c]) q).2.1, c :: (adm (h ++ [c]) q).2.2) := by
  rw [adm, if_pos hx]

/-- Where the table stands in the midst of letting in. -/
def AdmI (B m1 m2 N b : Nat) (ps : Ptrs) (ws : List (Int × Nee)) (x : Nam) (v1 v2 v : Value) (hs q l : List Claim) (F : HP) : HP :=
  RowO 3 1 v l.length (intR (l.map (·.1))) * (LkQ b v1 v2 hs q * (TabR B m1 m2 ps ws x * (Blk N (.cells (namC x).toArray 26 (0, 0)) * F)))

theorem delAll_app (l : List Claim) (c : Claim) (ws : List (Int × Nee)) : delAll (l ++ [c]) ws = adel c.1 (delAll l ws) := by simp [delAll]


theorem admit_any {w0 w : World} {F : HP} {B : Nat} {ls : List (Nam × LkS)} {ws0 : List (Int × Nee)} {x : Nam} {s : LkS} {hs' q' l' : List Claim} (h : St w0 (TabP B ls ws0 * F) w) (hls : agt x ls = some s) (hA : adm s.1 s.2 = (hs', q', l')) (hl : s.1.length + s.2.length < 1099511627776) :
    Calls Try.prog 44 #[.pointer (some ⟨B, 0, none⟩), namV x] w fun e w' => ∃ v, St w0 (RowO 3 1 v l'.length (intR (l'.map (·.1))) * (TabP B (if hs' = [] then adel x ls else aset x (hs', q') ls) (delAll l' ws0) * F)) w' ∧ e = .returned v := by
  refine F44.calls (by simp) ?_
  unfold F44.code
  simp -dsimp -implicitDefEqProofs (disch := omega) only [go_sem, ↓reduceIte, Nat.reduceEqDiff, reduceCtorEq, Nat.reduceAdd, Int.reduceMul, Int.reduceAdd, Int.reduceSub, Int.reduceLT, Int.reduceLE, Int.reduceEq, Int.reduceToNat, Int.reduceNeg, Nat.reduceLT, Nat.reduceDiv, Nat.reduceMod, Nat.reduceMul, Nat.reduceSub, Nat.reduceLeDiff, Nat.reduceBEq, Nat.reduceLeDiff, Nat.reducePow, Int.reducePow, reqD_of, dec_t, dec_f, wrap_i64, wrap_u32, wrap_u64, wrap_u8, F44.t4_eq, F44.t11_eq]
  refine h.new fun N w1 h1 => ?_
  obtain ⟨m1, m2, ps, hps, h2⟩ := TabP.open h1.drew.sw2
  have hr := TabQ.root h2
  have hN : rowV w1.drew ⟨N, 0, none⟩ 3 = some (namV x) := (h2.sw2).row (n := 3) (arr := (namC x).toArray) rfl
  simp -dsimp -implicitDefEqProofs (disch := omega) only [go_sem, ↓reduceIte, Nat.reduceEqDiff, reduceCtorEq, Nat.reduceAdd, Int.reduceMul, Int.reduceAdd, Int.reduceSub, Int.reduceLT, Int.reduceLE, Int.reduceEq, Int.reduceToNat, Int.reduceNeg, Nat.reduceLT, Nat.reduceDiv, Nat.reduceMod, Nat.reduceMul, Nat.reduceSub, Nat.reduceLeDiff, Nat.reduceBEq, Nat.reduceLeDiff, Nat.reducePow, Int.reducePow, reqD_of, dec_t, dec_f, wrap_i64, wrap_u32, wrap_u64, wrap_u8, F44.t4_eq, F44.t11_eq, hr, hN]
  refine (h2.ac TabQ.map1).lookup Try.underlying63 lawN zeroV67 ?_
  rw [lk_amap]
  obtain ⟨⟨b, s0⟩, hk, rfl⟩ : ∃ bs, agt x ps = some bs ∧ bs.2 = s := by
    rw [← hps, agt_amap] at hls
    obtain ⟨bs, h1, h2⟩ := Option.map_eq_some_iff.1 hls
    exact ⟨bs, h1, h2⟩
  simp only at hA hl hls
  rw [hk, Option.map_some]
  subst hps
  have h3 := h2
  rw [TabQ.lock hk] at h3
  unfold LkP at h3
  obtain ⟨⟨v1, v2⟩, h3⟩ := h3.exF
  simp only at h3
  simp -dsimp -implicitDefEqProofs (disch := omega) only [go_sem, ↓reduceIte, Nat.reduceEqDiff, reduceCtorEq, Nat.reduceAdd, Int.reduceMul, Int.reduceAdd, Int.reduceSub, Int.reduceLT, Int.reduceLE, Int.reduceEq, Int.reduceToNat, Int.reduceNeg, Nat.reduceLT, Nat.reduceDiv, Nat.reduceMod, Nat.reduceMul, Nat.reduceSub, Nat.reduceLeDiff, Nat.reduceBEq, Nat.reduceLeDiff, Nat.reducePow, Int.reducePow, reqD_of, dec_t, dec_f, wrap_i64, wrap_u32, wrap_u64, wrap_u8, F44.t4_eq, F44.t11_eq, lkV_some, ptrV, hr, hN]
  refine loop_intro (fun e w' => e.ds = [] ∧ e.ρ 0 = .pointer (some ⟨B, 0, none⟩) ∧ e.ρ 3 = .pointer (some ⟨N, 0, none⟩) ∧ e.ρ 5 = .pointer (some ⟨b, 0, none⟩) ∧
      ∃ (v1 v2 v : Value) (hs q l : List Claim), e.ρ 6 = v ∧ St w0 (AdmI B m1 m2 N b ps (delAll l ws0) x v1 v2 v hs q l F) w' ∧ adm s0.1 s0.2 = ((adm hs q).1, (adm hs q).2.1, l ++ (adm hs q).2.2) ∧ hs.length + q.length < 1099511627776 ∧ l.length + q.length < 1099511627776)
    (fun _ w => match w.cell? ⟨b, 1, none⟩ with | some (.slice _ n _) => n | _ => 0) ?_ ?_
  · refine ⟨rfl, by simp -dsimp -implicitDefEqProofs only [go_sem, ↓reduceIte, Nat.reduceEqDiff, reduceCtorEq, Nat.reduceAdd, Int.reduceMul, Int.reduceAdd, Int.reduceSub, Int.reduceLT, Int.reduceLE, Int.reduceEq, Int.reduceToNat, Int.reduceNeg, Nat.reduceLT, Nat.reduceDiv, Nat.reduceMod, Nat.reduceMul, Nat.reduceSub, Nat.reduceLeDiff, Nat.reduceBEq, Nat.reduceLeDiff, Nat.reducePow, Int.reducePow, F44.t4_eq, F44.t11_eq], by simp -dsimp -implicitDefEqProofs only [go_sem, ↓reduceIte, Nat.reduceEqDiff, reduceCtorEq, Nat.reduceAdd, Int.reduceMul, Int.reduceAdd, Int.reduceSub, Int.reduceLT, Int.reduceLE, Int.reduceEq, Int.reduceToNat, Int.reduceNeg, Nat.reduceLT, Nat.reduceDiv, Nat.reduceMod, Nat.reduceMul, Nat.reduceSub, Nat.reduceLeDiff, Nat.reduceBEq, Nat.reduceLeDiff, Nat.reducePow, Int.reducePow, F44.t4_eq, F44.t11_eq], by simp -dsimp -implicitDefEqProofs only [go_sem, ↓reduceIte, Nat.reduceEqDiff, reduceCtorEq, Nat.reduceAdd, Int.reduceMul, Int.reduceAdd, Int.reduceSub, Int.reduceLT, Int.reduceLE, Int.reduceEq, Int.reduceToNat, Int.reduceNeg, Nat.reduceLT, Nat.reduceDiv, Nat.reduceMod, Nat.reduceMul, Nat.reduceSub, Nat.reduceLeDiff, Nat.reduceBEq, Nat.reduceLeDiff, Nat.reducePow, Int.reducePow, F44.t4_eq, F44.t11_eq], v1, v2, _, s0.1, s0.2, [], rfl, ?_, by simp, hl, by simp; omega⟩
    exact h3.ent (Ent.nilRowO 3 1 _)
  rintro e w ⟨hd, e0, e3, e5, v1, v2, v, hs, q, l, e6, h, hadm, hb1, hb2⟩
  unfold AdmI at h
  have hb := LkQ.blk h.sw2
  obtain ⟨a1, c1, rfl, _, _, _⟩ := RowO.form (h.ac (show _ = RowO 74 2 v1 hs.length (clR hs) * (Blk b (.cells #[v1, v2] 71 (0, 0)) * (RowO 74 2 v2 q.length (clR q) * (RowO 3 1 v l.length (intR (l.map (·.1))) * (TabR B m1 m2 ps (delAll l ws0) x * (Blk N (.cells (namC x).toArray 26 (0, 0)) * F))))) by unfold LkQ; ac_rfl))
  obtain ⟨a2, c2, rfl, _, hqc, _⟩ := RowO.form (h.ac (show _ = RowO 74 2 v2 q.length (clR q) * (Blk b (.cells #[.slice a1 hs.length c1, v2] 71 (0, 0)) * (RowO 74 2 (.slice a1 hs.length c1) hs.length (clR hs) * (RowO 3 1 v l.length (intR (l.map (·.1))) * (TabR B m1 m2 ps (delAll l ws0) x * (Blk N (.cells (namC x).toArray 26 (0, 0)) * F))))) by unfold LkQ; ac_rfl))
  obtain ⟨a3, c3, rfl, _, _, _⟩ := RowO.form h
  rcases q with _ | ⟨c, q⟩
  · simp only [adm, List.append_nil] at hadm
    have hx := hA.symm.trans hadm
    simp only [Prod.mk.injEq] at hx
    obtain ⟨rfl, rfl, rfl⟩ := hx
    simp -dsimp -implicitDefEqProofs (disch := omega) only [go_sem, ↓reduceIte, Nat.reduceEqDiff, reduceCtorEq, Nat.reduceAdd, Int.reduceMul, Int.reduceAdd, Int.reduceSub, Int.reduceLT, Int.reduceLE, Int.reduceEq, Int.reduceToNat, Int.reduceNeg, Nat.reduceLT, Nat.reduceDiv, Nat.reduceMod, Nat.reduceMul, Nat.reduceSub, Nat.reduceLeDiff, Nat.reduceBEq, Nat.reduceLeDiff, Nat.reducePow, Int.reducePow, reqD_of, dec_t, dec_f, wrap_i64, wrap_u32, wrap_u64, wrap_u8, F44.t4_eq, F44.t11_eq, hd, e0, e3, e5, e6, hb, List.length_nil]
    exact admit_end h hk (by simp -dsimp -implicitDefEqProofs only [go_sem, ↓reduceIte, Nat.reduceEqDiff, reduceCtorEq, Nat.reduceAdd, Int.reduceMul, Int.reduceAdd, Int.reduceSub, Int.reduceLT, Int.reduceLE, Int.reduceEq, Int.reduceToNat, Int.reduceNeg, Nat.reduceLT, Nat.reduceDiv, Nat.reduceMod, Nat.reduceMul, Nat.reduceSub, Nat.reduceLeDiff, Nat.reduceBEq, Nat.reduceLeDiff, Nat.reducePow, Int.reducePow, F44.t4_eq, F44.t11_eq, hd]) (by simp -dsimp -implicitDefEqProofs only [go_sem, ↓reduceIte, Nat.reduceEqDiff, reduceCtorEq, Nat.reduceAdd, Int.reduceMul, Int.reduceAdd, Int.reduceSub, Int.reduceLT, Int.reduceLE, Int.reduceEq, Int.reduceToNat, Int.reduceNeg, Nat.reduceLT, Nat.reduceDiv, Nat.reduceMod, Nat.reduceMul, Nat.reduceSub, Nat.reduceLeDiff, Nat.reduceBEq, Nat.reduceLeDiff, Nat.reducePow, Int.reducePow, F44.t4_eq, F44.t11_eq, e0]) (by simp -dsimp -implicitDefEqProofs only [go_sem, ↓reduceIte, Nat.reduceEqDiff, reduceCtorEq, Nat.reduceAdd, Int.reduceMul, Int.reduceAdd, Int.reduceSub, Int.reduceLT, Int.reduceLE, Int.reduceEq, Int.reduceToNat, Int.reduceNeg, Nat.reduceLT, Nat.reduceDiv, Nat.reduceMod, Nat.reduceMul, Nat.reduceSub, Nat.reduceLeDiff, Nat.reduceBEq, Nat.reduceLeDiff, Nat.reducePow, Int.reducePow, F44.t4_eq, F44.t11_eq, e3]) (by simp -dsimp -implicitDefEqProofs only [go_sem, ↓reduceIte, Nat.reduceEqDiff, reduceCtorEq, Nat.reduceAdd, Int.reduceMul, Int.reduceAdd, Int.reduceSub, Int.reduceLT, Int.reduceLE, Int.reduceEq, Int.reduceToNat, Int.reduceNeg, Nat.reduceLT, Nat.reduceDiv, Nat.reduceMod, Nat.reduceMul, Nat.reduceSub, Nat.reduceLeDiff, Nat.reduceBEq, Nat.reduceLeDiff, Nat.reducePow, Int.reducePow, F44.t4_eq, F44.t11_eq, e5]) (by simp -dsimp -implicitDefEqProofs only [go_sem, ↓reduceIte, Nat.reduceEqDiff, reduceCtorEq, Nat.reduceAdd, Int.reduceMul, Int.reduceAdd, Int.reduceSub, Int.reduceLT, Int.reduceLE, Int.reduceEq, Int.reduceToNat, Int.reduceNeg, Nat.reduceLT, Nat.reduceDiv, Nat.reduceMod, Nat.reduceMul, Nat.reduceSub, Nat.reduceLeDiff, Nat.reduceBEq, Nat.reduceLeDiff, Nat.reducePow, Int.reducePow, F44.t4_eq, F44.t11_eq, e6])
  obtain ⟨_, a2', c2', hv, _, hcl⟩ := claimAt (h.sw2.ent (LkQ.queue _ _ _ _ _ _))
  simp only [Value.slice.injEq, true_and] at hv
  obtain ⟨rfl, rfl⟩ := hv
  obtain ⟨g, o, rfl, hrow, hx0, hx1⟩ := hcl 0 (by simp)
  simp only [Nat.zero_mul, Nat.add_zero, List.getElem_cons_zero] at hrow hx0 hx1
  have hpos : (0 : Int) < ((c :: q).length : Int) := by simp only [List.length_cons]; omega
  cases hlet : letsB hs c.2
  · rw [adm_stop hlet] at hadm
    simp only [List.append_nil] at hadm
    have hx := hA.symm.trans hadm
    simp only [Prod.mk.injEq] at hx
    obtain ⟨rfl, rfl, rfl⟩ := hx
    simp -dsimp -implicitDefEqProofs (disch := omega) only [go_sem, ↓reduceIte, Nat.reduceEqDiff, reduceCtorEq, Nat.reduceAdd, Int.reduceMul, Int.reduceAdd, Int.reduceSub, Int.reduceLT, Int.reduceLE, Int.reduceEq, Int.reduceToNat, Int.reduceNeg, Nat.reduceLT, Nat.reduceDiv, Nat.reduceMod, Nat.reduceMul, Nat.reduceSub, Nat.reduceLeDiff, Nat.reduceBEq, Nat.reduceLeDiff, Nat.reducePow, Int.reducePow, reqD_of, dec_t, dec_f, wrap_i64, wrap_u32, wrap_u64, wrap_u8, F44.t4_eq, F44.t11_eq, hd, e0, e3, e5, e6, hb, hpos, hx1]
    refine (lets_any h.sw2).mono ?_
    rintro e' w1 ⟨h1, rfl⟩
    simp -dsimp -implicitDefEqProofs (disch := omega) only [go_sem, ↓reduceIte, Nat.reduceEqDiff, reduceCtorEq, Nat.reduceAdd, Int.reduceMul, Int.reduceAdd, Int.reduceSub, Int.reduceLT, Int.reduceLE, Int.reduceEq, Int.reduceToNat, Int.reduceNeg, Nat.reduceLT, Nat.reduceDiv, Nat.reduceMod, Nat.reduceMul, Nat.reduceSub, Nat.reduceLeDiff, Nat.reduceBEq, Nat.reduceLeDiff, Nat.reducePow, Int.reducePow, reqD_of, dec_t, dec_f, wrap_i64, wrap_u32, wrap_u64, wrap_u8, F44.t4_eq, F44.t11_eq, hd, e0, e3, e5, e6, hlet]
    exact admit_end h1.sw2 hk (by simp -dsimp -implicitDefEqProofs only [go_sem, ↓reduceIte, Nat.reduceEqDiff, reduceCtorEq, Nat.reduceAdd, Int.reduceMul, Int.reduceAdd, Int.reduceSub, Int.reduceLT, Int.reduceLE, Int.reduceEq, Int.reduceToNat, Int.reduceNeg, Nat.reduceLT, Nat.reduceDiv, Nat.reduceMod, Nat.reduceMul, Nat.reduceSub, Nat.reduceLeDiff, Nat.reduceBEq, Nat.reduceLeDiff, Nat.reducePow, Int.reducePow, F44.t4_eq, F44.t11_eq, hd]) (by simp -dsimp -implicitDefEqProofs only [go_sem, ↓reduceIte, Nat.reduceEqDiff, reduceCtorEq, Nat.reduceAdd, Int.reduceMul, Int.reduceAdd, Int.reduceSub, Int.reduceLT, Int.reduceLE, Int.reduceEq, Int.reduceToNat, Int.reduceNeg, Nat.reduceLT, Nat.reduceDiv, Nat.reduceMod, Nat.reduceMul, Nat.reduceSub, Nat.reduceLeDiff, Nat.reduceBEq, Nat.reduceLeDiff, Nat.reducePow, Int.reducePow, F44.t4_eq, F44.t11_eq, e0]) (by simp -dsimp -implicitDefEqProofs only [go_sem, ↓reduceIte, Nat.reduceEqDiff, reduceCtorEq, Nat.reduceAdd, Int.reduceMul, Int.reduceAdd, Int.reduceSub, Int.reduceLT, Int.reduceLE, Int.reduceEq, Int.reduceToNat, Int.reduceNeg, Nat.reduceLT, Nat.reduceDiv, Nat.reduceMod, Nat.reduceMul, Nat.reduceSub, Nat.reduceLeDiff, Nat.reduceBEq, Nat.reduceLeDiff, Nat.reducePow, Int.reducePow, F44.t4_eq, F44.t11_eq, e3]) (by simp -dsimp -implicitDefEqProofs only [go_sem, ↓reduceIte, Nat.reduceEqDiff, reduceCtorEq, Nat.reduceAdd, Int.reduceMul, Int.reduceAdd, Int.reduceSub, Int.reduceLT, Int.reduceLE, Int.reduceEq, Int.reduceToNat, Int.reduceNeg, Nat.reduceLT, Nat.reduceDiv, Nat.reduceMod, Nat.reduceMul, Nat.reduceSub, Nat.reduceLeDiff, Nat.reduceBEq, Nat.reduceLeDiff, Nat.reducePow, Int.reducePow, F44.t4_eq, F44.t11_eq, e5]) (by simp -dsimp -implicitDefEqProofs only [go_sem, ↓reduceIte, Nat.reduceEqDiff, reduceCtorEq, Nat.reduceAdd, Int.reduceMul, Int.reduceAdd, Int.reduceSub, Int.reduceLT, Int.reduceLE, Int.reduceEq, Int.reduceToNat, Int.reduceNeg, Nat.reduceLT, Nat.reduceDiv, Nat.reduceMod, Nat.reduceMul, Nat.reduceSub, Nat.reduceLeDiff, Nat.reduceBEq, Nat.reduceLeDiff, Nat.reducePow, Int.reducePow, F44.t4_eq, F44.t11_eq, e6])
  simp -dsimp -implicitDefEqProofs (disch := omega) only [go_sem, ↓reduceIte, Nat.reduceEqDiff, reduceCtorEq, Nat.reduceAdd, Int.reduceMul, Int.reduceAdd, Int.reduceSub, Int.reduceLT, Int.reduceLE, Int.reduceEq, Int.reduceToNat, Int.reduceNeg, Nat.reduceLT, Nat.reduceDiv, Nat.reduceMod, Nat.reduceMul, Nat.reduceSub, Nat.reduceLeDiff, Nat.reduceBEq, Nat.reduceLeDiff, Nat.reducePow, Int.reducePow, reqD_of, dec_t, dec_f, wrap_i64, wrap_u32, wrap_u64, wrap_u8, F44.t4_eq, F44.t11_eq, hd, e0, e3, e5, e6, hb, hpos, hx1]
  refine (lets_any h.sw2).mono ?_
  rintro e' w1 ⟨h1, rfl⟩
  have hb1' := LkQ.blk h1
  obtain ⟨_, a2', c2', hv, _, hcl⟩ := claimAt (h1.ent (LkQ.queue _ _ _ _ _ _))
  simp only [Value.slice.injEq, true_and] at hv
  obtain ⟨rfl, rfl⟩ := hv
  obtain ⟨g', o', hv, hrow, hx0, hx1⟩ := hcl 0 (by simp)
  simp only [Option.some.injEq, Addr.mk.injEq, and_true] at hv
  obtain ⟨rfl, rfl⟩ := hv
  simp only [Nat.zero_mul, Nat.add_zero, List.getElem_cons_zero] at hrow hx0 hx1
  simp -dsimp -implicitDefEqProofs (disch := omega) only [go_sem, ↓reduceIte, Nat.reduceEqDiff, reduceCtorEq, Nat.reduceAdd, Int.reduceMul, Int.reduceAdd, Int.reduceSub, Int.reduceLT, Int.reduceLE, Int.reduceEq, Int.reduceToNat, Int.reduceNeg, Nat.reduceLT, Nat.reduceDiv, Nat.reduceMod, Nat.reduceMul, Nat.reduceSub, Nat.reduceLeDiff, Nat.reduceBEq, Nat.reduceLeDiff, Nat.reducePow, Int.reducePow, reqD_of, dec_t, dec_f, wrap_i64, wrap_u32, wrap_u64, wrap_u8, F44.t4_eq, F44.t11_eq, hd, e0, e3, e5, e6, hlet, hb1', hpos, hrow]
  refine h1.new fun C w2 h2 => ?_
  simp -dsimp -implicitDefEqProofs (disch := omega) only [go_sem, ↓reduceIte, Nat.reduceEqDiff, reduceCtorEq, Nat.reduceAdd, Int.reduceMul, Int.reduceAdd, Int.reduceSub, Int.reduceLT, Int.reduceLE, Int.reduceEq, Int.reduceToNat, Int.reduceNeg, Nat.reduceLT, Nat.reduceDiv, Nat.reduceMod, Nat.reduceMul, Nat.reduceSub, Nat.reduceLeDiff, Nat.reduceBEq, Nat.reduceLeDiff, Nat.reducePow, Int.reducePow, reqD_of, dec_t, dec_f, wrap_i64, wrap_u32, wrap_u64, wrap_u8, F44.t4_eq, F44.t11_eq]
  refine h2.storeAll (cs := clC c) rfl rfl (by intro v hv; simp only [clC, List.mem_cons, List.not_mem_nil, or_false] at hv; rcases hv with rfl | rfl <;> rfl) fun w3 h3 => ?_
  have h4 := h3.drew
  have hb4 := LkQ.blk h4.right
  simp -dsimp -implicitDefEqProofs (disch := omega) only [go_sem, ↓reduceIte, Nat.reduceEqDiff, reduceCtorEq, Nat.reduceAdd, Int.reduceMul, Int.reduceAdd, Int.reduceSub, Int.reduceLT, Int.reduceLE, Int.reduceEq, Int.reduceToNat, Int.reduceNeg, Nat.reduceLT, Nat.reduceDiv, Nat.reduceMod, Nat.reduceMul, Nat.reduceSub, Nat.reduceLeDiff, Nat.reduceBEq, Nat.reduceLeDiff, Nat.reducePow, Int.reducePow, reqD_of, dec_t, dec_f, wrap_i64, wrap_u32, wrap_u64, wrap_u8, F44.t4_eq, F44.t11_eq, hd, e0, e3, e5, e6, hb4]
  obtain ⟨v2', hv2'⟩ : ∃ v, v = Value.slice (if (c :: q).length = 1 then some ⟨g, o, none⟩ else some ⟨g, o + 2, none⟩) ((c :: q).length - 1) ((c :: q).length - 1) := ⟨_, rfl⟩
  have hqq : (c :: q).length - 1 = q.length := rfl
  rw [← hv2']
  rw [hqq] at hv2'
  have h5 := h4.ac (show _ = Blk b (.cells #[.slice a1 hs.length c1, .slice (some ⟨g, o, none⟩) (c :: q).length c2] 71 (0, 0)) * (RowO 74 2 (.slice (some ⟨g, o, none⟩) (c :: q).length c2) (c :: q).length (clR (c :: q)) * (RowO 74 2 (.slice a1 hs.length c1) hs.length (clR hs) * (Blk C (.cells (clC c).toArray 74 (0, 0)) * (RowO 3 1 (.slice a3 l.length c3) l.length (intR (l.map (·.1))) * (TabR B m1 m2 ps (delAll l ws0) x * (Blk N (.cells (namC x).toArray 26 (0, 0)) * F)))))) by unfold LkQ; ac_rfl)
  refine h5.store (arr' := #[.slice a1 hs.length c1, v2']) rfl (by simp) (by rw [hv2']; rfl) fun w4 h6 => ?_
  have hcut := RowO.cut (T := 74) (s := 2) (n := (c :: q).length) (c := c2) (a := some ⟨g, o, none⟩) (xs := clR (c :: q)) (lo := 1) (k := q.length) (m := (c :: q).length) (by simp only [List.length_cons]; omega) (by simp only [List.length_cons]; omega) hqc
  rw [clR_drop, clR_take, List.drop_succ_cons, List.drop_zero, List.take_length, hqq] at hcut
  simp only [Option.map_some, add_lit, Nat.one_mul, ← hv2'] at hcut
  have h7 : St w0 (Blk b (.cells #[.slice a1 hs.length c1, v2'] 71 (0, 0)) * (RowO 74 2 v2' q.length (clR q) * (RowO 74 2 (.slice a1 hs.length c1) hs.length (clR hs) * (Blk C (.cells (clC c).toArray 74 (0, 0)) * (RowO 3 1 (.slice a3 l.length c3) l.length (intR (l.map (·.1))) * (TabR B m1 m2 ps (delAll l ws0) x * (Blk N (.cells (namC x).toArray 26 (0, 0)) * F))))))) w4 := h6.ent (Ent.sep (Ent.rfl' _) (Ent.sep hcut (Ent.rfl' _)))
  have h8 := h7.drew
  have hb8 := h8.cells
  have hC8 : rowV w4.drew ⟨C, 0, none⟩ 2 = some (.agg #[.int .i64 c.1, .bool c.2]) := (h8.ac (show _ = Blk C (.cells (clC c).toArray 74 (0, 0)) * (Blk b (.cells #[.slice a1 hs.length c1, v2'] 71 (0, 0)) * (RowO 74 2 v2' q.length (clR q) * (RowO 74 2 (.slice a1 hs.length c1) hs.length (clR hs) * (RowO 3 1 (.slice a3 l.length c3) l.length (intR (l.map (·.1))) * (TabR B m1 m2 ps (delAll l ws0) x * (Blk N (.cells (namC x).toArray 26 (0, 0)) * F)))))) by ac_rfl)).row (n := 2) rfl
  simp -dsimp -implicitDefEqProofs (disch := omega) only [go_sem, ↓reduceIte, Nat.reduceEqDiff, reduceCtorEq, Nat.reduceAdd, Int.reduceMul, Int.reduceAdd, Int.reduceSub, Int.reduceLT, Int.reduceLE, Int.reduceEq, Int.reduceToNat, Int.reduceNeg, Nat.reduceLT, Nat.reduceDiv, Nat.reduceMod, Nat.reduceMul, Nat.reduceSub, Nat.reduceLeDiff, Nat.reduceBEq, Nat.reduceLeDiff, Nat.reducePow, Int.reducePow, reqD_of, dec_t, dec_f, wrap_i64, wrap_u32, wrap_u64, wrap_u8, F44.t4_eq, F44.t11_eq, hd, e0, e3, e5, e6, hb8, hC8]
  refine h8.buildSlice (s := 2) fact_rowTy_69 (cells := clR [c]) rfl (by decide) (by decide) fun v3 w5 h9 => ?_
  have hb9 := h9.sw2.cells
  simp -dsimp -implicitDefEqProofs (disch := omega) only [go_sem, ↓reduceIte, Nat.reduceEqDiff, reduceCtorEq, Nat.reduceAdd, Int.reduceMul, Int.reduceAdd, Int.reduceSub, Int.reduceLT, Int.reduceLE, Int.reduceEq, Int.reduceToNat, Int.reduceNeg, Nat.reduceLT, Nat.reduceDiv, Nat.reduceMod, Nat.reduceMul, Nat.reduceSub, Nat.reduceLeDiff, Nat.reduceBEq, Nat.reduceLeDiff, Nat.reducePow, Int.reducePow, reqD_of, dec_t, dec_f, wrap_i64, wrap_u32, wrap_u64, wrap_u8, F44.t4_eq, F44.t11_eq, hb9]
  have h10 := h9.ac (show _ = RowO 74 2 (.slice a1 hs.length c1) hs.length (clR hs) * (Row 74 2 v3 1 (clR [c]) * (Blk b (.cells #[.slice a1 hs.length c1, v2'] 71 (0, 0)) * (RowO 74 2 v2' q.length (clR q) * (Blk C (.cells (clC c).toArray 74 (0, 0)) * (RowO 3 1 (.slice a3 l.length c3) l.length (intR (l.map (·.1))) * (TabR B m1 m2 ps (delAll l ws0) x * (Blk N (.cells (namC x).toArray 26 (0, 0)) * F))))))) by ac_rfl)
  simp only [List.length_cons] at hb1 hb2
  refine h10.appendO fact_rowTy_69 (((h10.right.left.ent (Row.reads _ _ _ _ _)).rd).src Try.underlying69 (clR_cells _) (by simp [clR])) (by simp [maxLen]; omega) (by omega) fun v4 w6 h11 => ?_
  rw [← clR_app] at h11
  obtain ⟨a4, c4, rfl, _⟩ := RowO.form h11
  have h12 := h11.ac (show _ = Blk b (.cells #[.slice a1 hs.length c1, v2'] 71 (0, 0)) * (RowO 74 2 (.slice a4 (hs.length + 1) c4) (hs.length + 1) (clR (hs ++ [c])) * (Row 74 2 v3 1 (clR [c]) * (RowO 74 2 v2' q.length (clR q) * (Blk C (.cells (clC c).toArray 74 (0, 0)) * (RowO 3 1 (.slice a3 l.length c3) l.length (intR (l.map (·.1))) * (TabR B m1 m2 ps (delAll l ws0) x * (Blk N (.cells (namC x).toArray 26 (0, 0)) * F))))))) by ac_rfl)
  have hb12 := h12.cells
  simp -dsimp -implicitDefEqProofs (disch := omega) only [go_sem, ↓reduceIte, Nat.reduceEqDiff, reduceCtorEq, Nat.reduceAdd, Int.reduceMul, Int.reduceAdd, Int.reduceSub, Int.reduceLT, Int.reduceLE, Int.reduceEq, Int.reduceToNat, Int.reduceNeg, Nat.reduceLT, Nat.reduceDiv, Nat.reduceMod, Nat.reduceMul, Nat.reduceSub, Nat.reduceLeDiff, Nat.reduceBEq, Nat.reduceLeDiff, Nat.reducePow, Int.reducePow, reqD_of, dec_t, dec_f, wrap_i64, wrap_u32, wrap_u64, wrap_u8, F44.t4_eq, F44.t11_eq, hb12]
  refine h12.store (arr' := #[.slice a4 (hs.length + 1) c4, v2']) rfl (by simp) rfl fun w7 h13 => ?_
  have h14 := h13.drew.ac (show _ = MapP encI m2 (amap needV (delAll l ws0)) * (Blk B (.cells #[.map (some m1), .map (some m2)] 66 (0, 0)) * (Blk C (.cells (clC c).toArray 74 (0, 0)) * (LkQ b (.slice a4 (hs.length + 1) c4) v2' (hs ++ [c]) q * (Row 74 2 v3 1 (clR [c]) * (RowO 3 1 (.slice a3 l.length c3) l.length (intR (l.map (·.1))) * (MapP namV m1 (amap ptrV ps) * (stars (fun p => LkP p.2.1 p.2.2) (adel x ps) * (Blk N (.cells (namC x).toArray 26 (0, 0)) * F)))))))) by
    unfold LkQ TabR; rw [List.length_append]; simp only [List.length_cons, List.length_nil, Nat.zero_add]; ac_rfl)
  have hr14 := h14.sw2.cells
  have hC14 := h14.sw3.cells
  unfold clC at hC14
  simp -dsimp -implicitDefEqProofs (disch := omega) only [go_sem, ↓reduceIte, Nat.reduceEqDiff, reduceCtorEq, Nat.reduceAdd, Int.reduceMul, Int.reduceAdd, Int.reduceSub, Int.reduceLT, Int.reduceLE, Int.reduceEq, Int.reduceToNat, Int.reduceNeg, Nat.reduceLT, Nat.reduceDiv, Nat.reduceMod, Nat.reduceMul, Nat.reduceSub, Nat.reduceLeDiff, Nat.reduceBEq, Nat.reduceLeDiff, Nat.reducePow, Int.reducePow, reqD_of, dec_t, dec_f, wrap_i64, wrap_u32, wrap_u64, wrap_u8, F44.t4_eq, F44.t11_eq, hd, e0, e3, e5, e6, hr14, hC14]
  refine h14.delete Try.underlying64 lawI fun w8 h15 => ?_
  rw [del_amap, ← delAll_app] at h15
  have hr15 := h15.sw2.cells
  have hC15 := h15.sw3.cells
  unfold clC at hC15
  simp -dsimp -implicitDefEqProofs (disch := omega) only [go_sem, ↓reduceIte, Nat.reduceEqDiff, reduceCtorEq, Nat.reduceAdd, Int.reduceMul, Int.reduceAdd, Int.reduceSub, Int.reduceLT, Int.reduceLE, Int.reduceEq, Int.reduceToNat, Int.reduceNeg, Nat.reduceLT, Nat.reduceDiv, Nat.reduceMod, Nat.reduceMul, Nat.reduceSub, Nat.reduceLeDiff, Nat.reduceBEq, Nat.reduceLeDiff, Nat.reducePow, Int.reducePow, reqD_of, dec_t, dec_f, wrap_i64, wrap_u32, wrap_u64, wrap_u8, F44.t4_eq, F44.t11_eq, hd, e0, e3, e5, e6, hr15, hC15]
  refine h15.buildSlice (s := 1) fact_rowTy_34 (cells := [.int .i64 c.1]) rfl (by decide) (by decide) fun v5 w9 h16 => ?_
  simp -dsimp -implicitDefEqProofs (disch := omega) only [go_sem, ↓reduceIte, Nat.reduceEqDiff, reduceCtorEq, Nat.reduceAdd, Int.reduceMul, Int.reduceAdd, Int.reduceSub, Int.reduceLT, Int.reduceLE, Int.reduceEq, Int.reduceToNat, Int.reduceNeg, Nat.reduceLT, Nat.reduceDiv, Nat.reduceMod, Nat.reduceMul, Nat.reduceSub, Nat.reduceLeDiff, Nat.reduceBEq, Nat.reduceLeDiff, Nat.reducePow, Int.reducePow, reqD_of, dec_t, dec_f, wrap_i64, wrap_u32, wrap_u64, wrap_u8, F44.t4_eq, F44.t11_eq, e6]
  have h17 := h16.ac (show _ = RowO 3 1 (.slice a3 l.length c3) l.length (intR (l.map (·.1))) * (Row 3 1 v5 1 [.int .i64 c.1] * (LkQ b (.slice a4 (hs.length + 1) c4) v2' (hs ++ [c]) q * (TabR B m1 m2 ps (delAll (l ++ [c]) ws0) x * (Blk N (.cells (namC x).toArray 26 (0, 0)) * (Row 74 2 v3 1 (clR [c]) * (Blk C (.cells (clC c).toArray 74 (0, 0)) * F)))))) by unfold TabR; ac_rfl)
  refine h17.appendO fact_rowTy_34 (((h17.right.left.ent (Row.reads _ _ _ _ _)).rd).src Try.underlying34 (intR_cells [c.1]) (by simp)) (by simp [maxLen]; omega) (by omega) fun v6 w10 h18 => ?_
  have hin : intR (l.map (·.1)) ++ [Value.int .i64 c.1] = intR ((l ++ [c]).map (·.1)) := by simp [intR]
  rw [hin] at h18
  have h19 : St w0 (AdmI B m1 m2 N b ps (delAll (l ++ [c]) ws0) x (.slice a4 (hs.length + 1) c4) v2' v6 (hs ++ [c]) q (l ++ [c]) F) w10 := by
    unfold AdmI
    rw [List.length_append]
    refine h18.ent (Ent.sep (Ent.rfl' _) ((Ent.right _ _).trans (Ent.sep (Ent.rfl' _) (Ent.sep (Ent.rfl' _) (Ent.sep (Ent.rfl' _) ((Ent.right _ _).trans (Ent.right _ _)))))))
  have hcell := LkQ.blk (show St w0 (LkQ b (.slice a4 (hs.length + 1) c4) v2' (hs ++ [c]) q * (RowO 3 1 v6 (l ++ [c]).length (intR ((l ++ [c]).map (·.1))) * (TabR B m1 m2 ps (delAll (l ++ [c]) ws0) x * (Blk N (.cells (namC x).toArray 26 (0, 0)) * F)))) w10 from h19.sw2)
  rw [adm_go hlet] at hadm
  simp -dsimp -implicitDefEqProofs (disch := omega) only [go_sem, ↓reduceIte, Nat.reduceEqDiff, reduceCtorEq, Nat.reduceAdd, Int.reduceMul, Int.reduceAdd, Int.reduceSub, Int.reduceLT, Int.reduceLE, Int.reduceEq, Int.reduceToNat, Int.reduceNeg, Nat.reduceLT, Nat.reduceDiv, Nat.reduceMod, Nat.reduceMul, Nat.reduceSub, Nat.reduceLeDiff, Nat.reduceBEq, Nat.reduceLeDiff, Nat.reducePow, Int.reducePow, reqD_of, dec_t, dec_f, wrap_i64, wrap_u32, wrap_u64, wrap_u8, F44.t4_eq, F44.t11_eq, hd, e0, e3, e5, e6]
  refine ⟨⟨_, v2', v6, hs ++ [c], q, l ++ [c], rfl, h19, by rw [hadm]; simp, by rw [List.length_append]; simp only [List.length_cons, List.length_nil]; omega, by rw [List.length_append]; simp only [List.length_cons, List.length_nil]; omega⟩, ?_⟩
  rw [hcell 1, hb 1, hv2']
  simp

/-- Where a claim is, as a place. -/
theorem posC_spec (who : Int) : ∀ (l : List Claim) (k : Nat), posC who l k = -1 ∨ ∃ i, i < l.length ∧ posC who l k = ((k + i : Nat) : Int)
  | [], k => .inl rfl
  | c :: l, k => by
    unfold posC
    split
    · exact .inr ⟨0, by simp, by simp⟩
    · rcases posC_spec who l (k + 1) with h | ⟨i, hi, h⟩
      · exact .inl h
      · exact .inr ⟨i + 1, by simpa using hi, by rw [h]; omega⟩

/-- What Free does: whom it let in, the error, the table. -/
def freeS (who : Int) (x : Nam) (ls : List (Nam × LkS)) (ws : List (Int × Nee)) : (List Claim × Int) × List (Nam × LkS) × List (Int × Nee) :=
  match agt x ls with
  | none => (([], 1), ls, ws)
  | some s =>
    if posC who s.1 0 < 0 then (([], 1), ls, ws)
    else (((adm (s.1.eraseIdx (posC who s.1 0).toNat) s.2).2.2, 0),
      if (adm (s.1.eraseIdx (posC who s.1 0).toNat) s.2).1 = [] then adel x (aset x (s.1.eraseIdx (posC who s.1 0).toNat, s.2) ls) else aset x ((adm (s.1.eraseIdx (posC who s.1 0).toNat) s.2).1, (adm (s.1.eraseIdx (posC who s.1 0).toNat) s.2).2.1) (aset x (s.1.eraseIdx (posC who s.1 0).toNat, s.2) ls),
      delAll (adm (s.1.eraseIdx (posC who s.1 0).toNat) s.2).2.2 ws)


theorem free_any {w0 w : World} {F : HP} {B : Nat} {ls : List (Nam × LkS)} {ws : List (Int × Nee)} {x : Nam} {who : Int} {l : List Claim} {er : Int} {ls' : List (Nam × LkS)} {ws' : List (Int × Nee)} (h : St w0 (TabP B ls ws * F) w) (hR : freeS who x ls ws = ((l, er), ls', ws'))
    (hl : ((agt x ls).getD ([], [])).1.length + ((agt x ls).getD ([], [])).2.length < 1099511627776) :
    Calls Try.prog 28 #[.pointer (some ⟨B, 0, none⟩), .int .i64 who, namV x] w fun e w' => ∃ v, St w0 (RowO 3 1 v l.length (intR (l.map (·.1))) * (TabP B ls' ws' * F)) w' ∧ e = .returned (.tuple #[v, .int .i64 er]) := by
  refine F28.calls (by simp) ?_
  unfold F28.code
  simp -dsimp -implicitDefEqProofs (disch := omega) only [go_sem, ↓reduceIte, Nat.reduceEqDiff, reduceCtorEq, Nat.reduceAdd, Int.reduceMul, Int.reduceAdd, Int.reduceSub, Int.reduceLT, Int.reduceLE, Int.reduceEq, Int.reduceToNat, Int.reduceNeg, Nat.reduceLT, Nat.reduceDiv, Nat.reduceMod, Nat.reduceMul, Nat.reduceSub, Nat.reduceLeDiff, Nat.reduceBEq, Nat.reduceLeDiff, Nat.reducePow, Int.reducePow, reqD_of, dec_t, dec_f, wrap_i64, wrap_u32, wrap_u64, wrap_u8, F28.t7_eq, F28.t4_eq]
  refine h.new fun N w1 h1 => ?_
  obtain ⟨m1, m2, ps, hps, h2⟩ := TabP.open h1.drew.sw2
  have hr := TabQ.root h2
  have hN : rowV w1.drew ⟨N, 0, none⟩ 3 = some (namV x) := (h2.sw2).row (n := 3) (arr := (namC x).toArray) rfl
  simp -dsimp -implicitDefEqProofs (disch := omega) only [go_sem, ↓reduceIte, Nat.reduceEqDiff, reduceCtorEq, Nat.reduceAdd, Int.reduceMul, Int.reduceAdd, Int.reduceSub, Int.reduceLT, Int.reduceLE, Int.reduceEq, Int.reduceToNat, Int.reduceNeg, Nat.reduceLT, Nat.reduceDiv, Nat.reduceMod, Nat.reduceMul, Nat.reduceSub, Nat.reduceLeDiff, Nat.reduceBEq, Nat.reduceLeDiff, Nat.reducePow, Int.reducePow, reqD_of, dec_t, dec_f, wrap_i64, wrap_u32, wrap_u64, wrap_u8, F28.t7_eq, F28.t4_eq, hr, hN]
  refine (h2.ac TabQ.map1).lookup Try.underlying63 lawN zeroV67 ?_
  rw [lk_amap]
  cases hk : agt x ps with
  | none =>
    have hls : agt x ls = none := by rw [← hps, agt_amap, hk]; rfl
    obtain ⟨⟨rfl, rfl⟩, rfl, rfl⟩ : (l = [] ∧ er = 1) ∧ ls' = ls ∧ ws' = ws := by have := hR.symm; simpa [freeS, hls] using this
    rw [Option.map_none]
    simp -dsimp -implicitDefEqProofs (disch := omega) only [go_sem, ↓reduceIte, Nat.reduceEqDiff, reduceCtorEq, Nat.reduceAdd, Int.reduceMul, Int.reduceAdd, Int.reduceSub, Int.reduceLT, Int.reduceLE, Int.reduceEq, Int.reduceToNat, Int.reduceNeg, Nat.reduceLT, Nat.reduceDiv, Nat.reduceMod, Nat.reduceMul, Nat.reduceSub, Nat.reduceLeDiff, Nat.reduceBEq, Nat.reduceLeDiff, Nat.reducePow, Int.reducePow, reqD_of, dec_t, dec_f, wrap_i64, wrap_u32, wrap_u64, wrap_u8, F28.t7_eq, F28.t4_eq, lkV_none, hr, hN]
    refine ⟨_, ?_, rfl⟩
    refine (h2.ent (Ent.sep (TabQ.shut B m1 m2 ps _ hps) (Ent.right _ _))).ent ?_
    exact Ent.nilRowO 3 1 _
  | some bs =>
    obtain ⟨b, s⟩ := bs
    have hls : agt x ls = some s := by rw [← hps, agt_amap, hk]; rfl
    rw [hls] at hl
    simp only [Option.getD_some] at hl
    rw [Option.map_some]
    have h3 := h2
    rw [TabQ.lock hk] at h3
    unfold LkP at h3
    obtain ⟨⟨v1, v2⟩, h3⟩ := h3.exF
    simp only at h3
    simp -dsimp -implicitDefEqProofs (disch := omega) only [go_sem, ↓reduceIte, Nat.reduceEqDiff, reduceCtorEq, Nat.reduceAdd, Int.reduceMul, Int.reduceAdd, Int.reduceSub, Int.reduceLT, Int.reduceLE, Int.reduceEq, Int.reduceToNat, Int.reduceNeg, Nat.reduceLT, Nat.reduceDiv, Nat.reduceMod, Nat.reduceMul, Nat.reduceSub, Nat.reduceLeDiff, Nat.reduceBEq, Nat.reduceLeDiff, Nat.reducePow, Int.reducePow, reqD_of, dec_t, dec_f, wrap_i64, wrap_u32, wrap_u64, wrap_u8, F28.t7_eq, F28.t4_eq, lkV_some, ptrV, hr, hN]
    refine (holds_any h3 (by omega)).mono ?_
    rintro e w2 ⟨h4, rfl⟩
    rcases posC_spec who s.1 0 with hp | ⟨i, hi, hp⟩
    · obtain ⟨⟨rfl, rfl⟩, rfl, rfl⟩ : (l = [] ∧ er = 1) ∧ ls' = ls ∧ ws' = ws := by have := hR.symm; simpa [freeS, hls, hp] using this
      simp -dsimp -implicitDefEqProofs (disch := omega) only [go_sem, ↓reduceIte, Nat.reduceEqDiff, reduceCtorEq, Nat.reduceAdd, Int.reduceMul, Int.reduceAdd, Int.reduceSub, Int.reduceLT, Int.reduceLE, Int.reduceEq, Int.reduceToNat, Int.reduceNeg, Nat.reduceLT, Nat.reduceDiv, Nat.reduceMod, Nat.reduceMul, Nat.reduceSub, Nat.reduceLeDiff, Nat.reduceBEq, Nat.reduceLeDiff, Nat.reducePow, Int.reducePow, reqD_of, dec_t, dec_f, wrap_i64, wrap_u32, wrap_u64, wrap_u8, F28.t7_eq, F28.t4_eq, hp]
      refine ⟨_, ?_, rfl⟩
      refine h4.ent (((TabQ.ins hk).trans (Ent.sep (TabQ.shut B m1 m2 _ _ ?_) (Ent.right _ _))).trans (Ent.nilRowO 3 1 _))
      rw [← aset_amap, aset_same x s _ (by rw [hps]; exact hls), hps]
    · rw [Nat.zero_add] at hp
      have hp2 : ¬ ((i : Int) < 0) := by omega
      have hb4 := LkQ.blk h4
      obtain ⟨⟨hs', q', l0⟩, hA⟩ : ∃ y, adm (s.1.eraseIdx i) s.2 = y := ⟨_, rfl⟩
      obtain ⟨⟨rfl, rfl⟩, rfl, rfl⟩ : (l = l0 ∧ er = 0) ∧ ls' = (if hs' = [] then adel x (aset x (s.1.eraseIdx i, s.2) ls) else aset x (hs', q') (aset x (s.1.eraseIdx i, s.2) ls)) ∧ ws' = delAll l0 ws := by
        have := hR.symm; simp only [freeS, hls, hp, if_neg hp2, Int.toNat_natCast, hA, Prod.mk.injEq] at this; exact this
      simp -dsimp -implicitDefEqProofs (disch := omega) only [go_sem, ↓reduceIte, Nat.reduceEqDiff, reduceCtorEq, Nat.reduceAdd, Int.reduceMul, Int.reduceAdd, Int.reduceSub, Int.reduceLT, Int.reduceLE, Int.reduceEq, Int.reduceToNat, Int.reduceNeg, Nat.reduceLT, Nat.reduceDiv, Nat.reduceMod, Nat.reduceMul, Nat.reduceSub, Nat.reduceLeDiff, Nat.reduceBEq, Nat.reduceLeDiff, Nat.reducePow, Int.reducePow, reqD_of, dec_t, dec_f, wrap_i64, wrap_u32, wrap_u64, wrap_u8, F28.t7_eq, F28.t4_eq, hp, hp2, hb4]
      refine (delete_any (h4.ac (show _ = RowO 74 2 v1 s.1.length (clR s.1) * (Blk b (.cells #[v1, v2] 71 (0, 0)) * (RowO 74 2 v2 s.2.length (clR s.2) * (TabR B m1 m2 ps ws x * (Blk N (.cells (namC x).toArray 26 (0, 0)) * F)))) by unfold LkQ; ac_rfl)) hi (by omega)).mono ?_
      rintro e w3 ⟨v1', h5, rfl⟩
      obtain ⟨a1, c1, rfl, _, _, _⟩ := RowO.form h5
      simp -dsimp -implicitDefEqProofs (disch := omega) only [go_sem, ↓reduceIte, Nat.reduceEqDiff, reduceCtorEq, Nat.reduceAdd, Int.reduceMul, Int.reduceAdd, Int.reduceSub, Int.reduceLT, Int.reduceLE, Int.reduceEq, Int.reduceToNat, Int.reduceNeg, Nat.reduceLT, Nat.reduceDiv, Nat.reduceMod, Nat.reduceMul, Nat.reduceSub, Nat.reduceLeDiff, Nat.reduceBEq, Nat.reduceLeDiff, Nat.reducePow, Int.reducePow, reqD_of, dec_t, dec_f, wrap_i64, wrap_u32, wrap_u64, wrap_u8, F28.t7_eq, F28.t4_eq]
      refine (h5.sw2).store (arr' := #[.slice a1 (s.1.eraseIdx i).length c1, v2]) rfl (by simp) rfl fun w4 h6 => ?_
      have h7 := h6.ac (show _ = LkQ b (.slice a1 (s.1.eraseIdx i).length c1) v2 (s.1.eraseIdx i) s.2 * (TabR B m1 m2 ps ws x * (Blk N (.cells (namC x).toArray 26 (0, 0)) * F)) by unfold LkQ; ac_rfl)
      have h8 := h7.ent (TabQ.ins (s' := (s.1.eraseIdx i, s.2)) hk)
      have hN8 : rowV w4 ⟨N, 0, none⟩ 3 = some (namV x) := (h8.sw2).row (n := 3) (arr := (namC x).toArray) rfl
      simp -dsimp -implicitDefEqProofs (disch := omega) only [go_sem, ↓reduceIte, Nat.reduceEqDiff, reduceCtorEq, Nat.reduceAdd, Int.reduceMul, Int.reduceAdd, Int.reduceSub, Int.reduceLT, Int.reduceLE, Int.reduceEq, Int.reduceToNat, Int.reduceNeg, Nat.reduceLT, Nat.reduceDiv, Nat.reduceMod, Nat.reduceMul, Nat.reduceSub, Nat.reduceLeDiff, Nat.reduceBEq, Nat.reduceLeDiff, Nat.reducePow, Int.reducePow, reqD_of, dec_t, dec_f, wrap_i64, wrap_u32, wrap_u64, wrap_u8, F28.t7_eq, F28.t4_eq, hN8]
      have h9 := h8.ent (Ent.sep (TabQ.shut B m1 m2 _ ws (ls := aset x (s.1.eraseIdx i, s.2) ls) (by rw [← aset_amap, hps])) (Ent.rfl' _))
      have hlen : (s.1.eraseIdx i).length ≤ s.1.length := by rw [List.length_eraseIdx]; split <;> omega
      refine (admit_any h9 (agt_aset _ _ _) hA (show (s.1.eraseIdx i).length + s.2.length < _ by omega)).mono ?_
      rintro e w5 ⟨v, h10, rfl⟩
      simp -dsimp -implicitDefEqProofs (disch := omega) only [go_sem, ↓reduceIte, Nat.reduceEqDiff, reduceCtorEq, Nat.reduceAdd, Int.reduceMul, Int.reduceAdd, Int.reduceSub, Int.reduceLT, Int.reduceLE, Int.reduceEq, Int.reduceToNat, Int.reduceNeg, Nat.reduceLT, Nat.reduceDiv, Nat.reduceMod, Nat.reduceMul, Nat.reduceSub, Nat.reduceLeDiff, Nat.reduceBEq, Nat.reduceLeDiff, Nat.reducePow, Int.reducePow, reqD_of, dec_t, dec_f, wrap_i64, wrap_u32, wrap_u64, wrap_u8, F28.t7_eq, F28.t4_eq]
      refine ⟨_, ?_, rfl⟩
      exact h10.ent (Ent.sep (Ent.rfl' _) (Ent.sep (Ent.rfl' _) (Ent.right _ _)))

end Go.Proofs.Ytacmnfpgimgigaa

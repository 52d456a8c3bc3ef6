/- Walks of the locks package: a lock's two rows: who is in them, whether one more is let in, one is taken out. -/
import Derived.Test.YtacmnfpgimgigaaLkA
namespace Go.Proofs.Ytacmnfpgimgigaa
open Go
set_option linter.unusedSimpArgs false
set_option linter.unusedVariables false
set_option maxRecDepth 100000

def LkQ (b : Nat) (v1 v2 : Value) (hs q : List Claim) : HP := Blk b (.cells #[v1, v2] 71 (0, 0)) * (RowO 74 2 v1 hs.length (clR hs) * RowO 74 2 v2 q.length (clR q))

theorem LkQ.blk {w0 w : World} {b : Nat} {v1 v2 : Value} {hs q : List Claim} {F : HP} (h : St w0 (LkQ b v1 v2 hs q * F) w) (i : Nat) : w.cell? ⟨b, i, none⟩ = (#[v1, v2] : Array Value)[i]? :=
  (h.ac (show LkQ b v1 v2 hs q * F = Blk b (.cells #[v1, v2] 71 (0, 0)) * (RowO 74 2 v1 hs.length (clR hs) * RowO 74 2 v2 q.length (clR q) * F) by unfold LkQ; ac_rfl)).cells i
theorem LkQ.held (b : Nat) (v1 v2 : Value) (hs q : List Claim) (F : HP) : Ent (LkQ b v1 v2 hs q * F) (Reads 2 v1 hs.length (clR hs)) :=
  (Ent.left _ _).trans ((Ent.right _ _).trans ((Ent.left _ _).trans (RowO.reads _ _ _ _ _)))
theorem LkQ.queue (b : Nat) (v1 v2 : Value) (hs q : List Claim) (F : HP) : Ent (LkQ b v1 v2 hs q * F) (Reads 2 v2 q.length (clR q)) :=
  (Ent.left _ _).trans ((Ent.right _ _).trans ((Ent.right _ _).trans (RowO.reads _ _ _ _ _)))


theorem holds_any {w0 w : World} {F : HP} {b : Nat} {v1 v2 : Value} {hs q : List Claim} {who : Int} (h : St w0 (LkQ b v1 v2 hs q * F) w) (hl : hs.length < 1099511627776) :
    Calls Try.prog 35 #[.pointer (some ⟨b, 0, none⟩), .int .i64 who] w fun e w' => St w0 (LkQ b v1 v2 hs q * F) w' ∧ e = .returned (.int .i64 (posC who hs 0)) := by
  refine F35.calls (by simp) ?_
  unfold F35.code
  simp -dsimp -implicitDefEqProofs (disch := omega) only [go_sem, ↓reduceIte, Nat.reduceEqDiff, reduceCtorEq, Nat.reduceAdd, Int.reduceMul, Int.reduceAdd, Int.reduceSub, Int.reduceLT, Int.reduceLE, Int.reduceEq, Int.reduceToNat, Int.reduceNeg, Nat.reduceLT, Nat.reduceDiv, Nat.reduceMod, Nat.reduceMul, Nat.reduceSub, Nat.reduceLeDiff, Nat.reduceBEq, Nat.reduceLeDiff, Nat.reducePow, Int.reducePow, reqD_of, dec_t, dec_f, wrap_i64, wrap_u32, wrap_u64, wrap_u8]
  refine h.new fun B w1 h1 => ?_
  have hc := LkQ.blk h1.right
  have hc0 := hc 0
  simp -dsimp -implicitDefEqProofs (disch := omega) only [go_sem, ↓reduceIte, Nat.reduceEqDiff, reduceCtorEq, Nat.reduceAdd, Int.reduceMul, Int.reduceAdd, Int.reduceSub, Int.reduceLT, Int.reduceLE, Int.reduceEq, Int.reduceToNat, Int.reduceNeg, Nat.reduceLT, Nat.reduceDiv, Nat.reduceMod, Nat.reduceMul, Nat.reduceSub, Nat.reduceLeDiff, Nat.reduceBEq, Nat.reduceLeDiff, Nat.reducePow, Int.reducePow, reqD_of, dec_t, dec_f, wrap_i64, wrap_u32, wrap_u64, wrap_u8, hc]
  refine (index_any h1 (T := 3) (Ent.left _ _) ((Ent.right _ _).trans (LkQ.held _ _ _ _ _ _)) hl).mono ?_
  rintro e w2 ⟨h2, rfl⟩
  simp -dsimp -implicitDefEqProofs (disch := omega) only [go_sem, ↓reduceIte, Nat.reduceEqDiff, reduceCtorEq, Nat.reduceAdd, Int.reduceMul, Int.reduceAdd, Int.reduceSub, Int.reduceLT, Int.reduceLE, Int.reduceEq, Int.reduceToNat, Int.reduceNeg, Nat.reduceLT, Nat.reduceDiv, Nat.reduceMod, Nat.reduceMul, Nat.reduceSub, Nat.reduceLeDiff, Nat.reduceBEq, Nat.reduceLeDiff, Nat.reducePow, Int.reducePow, reqD_of, dec_t, dec_f, wrap_i64, wrap_u32, wrap_u64, wrap_u8]
  exact h2.right

/-- Is one let in beside those who hold it? -/
def letsB : List Claim → Bool → Bool
  | [], _ => true
  | c :: _, a => !a && !c.2


theorem lets_any {w0 w : World} {F : HP} {b : Nat} {v1 v2 : Value} {hs q : List Claim} {al : Bool} (h : St w0 (LkQ b v1 v2 hs q * F) w) :
    Calls Try.prog 45 #[.pointer (some ⟨b, 0, none⟩), .bool al] w fun e w' => St w0 (LkQ b v1 v2 hs q * F) w' ∧ e = .returned (.bool (letsB hs al)) := by
  refine F45.calls (by simp) ?_
  unfold F45.code
  have hc := LkQ.blk h
  obtain ⟨_, a, c, rfl, hnc, hcl⟩ := claimAt (h.ent (LkQ.held _ _ _ _ _ _))
  rcases hs with _ | ⟨x, hs⟩
  · simp -dsimp -implicitDefEqProofs (disch := omega) only [go_sem, ↓reduceIte, Nat.reduceEqDiff, reduceCtorEq, Nat.reduceAdd, Int.reduceMul, Int.reduceAdd, Int.reduceSub, Int.reduceLT, Int.reduceLE, Int.reduceEq, Int.reduceToNat, Int.reduceNeg, Nat.reduceLT, Nat.reduceDiv, Nat.reduceMod, Nat.reduceMul, Nat.reduceSub, Nat.reduceLeDiff, Nat.reduceBEq, Nat.reduceLeDiff, Nat.reducePow, Int.reducePow, reqD_of, dec_t, dec_f, wrap_i64, wrap_u32, wrap_u64, wrap_u8, hc, List.length_nil]
    exact ⟨h, rfl⟩
  · obtain ⟨g, o, rfl, _, _, hx⟩ := hcl 0 (by simp)
    simp only [Nat.zero_mul, Nat.add_zero, List.getElem_cons_zero] at hx
    have hne : ¬ ((x :: hs).length : Int) = 0 := by simp only [List.length_cons]; omega
    have hlt : (0 : Int) < ((x :: hs).length : Int) := by simp only [List.length_cons]; omega
    cases al
    · simp -dsimp -implicitDefEqProofs (disch := omega) only [go_sem, ↓reduceIte, Nat.reduceEqDiff, reduceCtorEq, Nat.reduceAdd, Int.reduceMul, Int.reduceAdd, Int.reduceSub, Int.reduceLT, Int.reduceLE, Int.reduceEq, Int.reduceToNat, Int.reduceNeg, Nat.reduceLT, Nat.reduceDiv, Nat.reduceMod, Nat.reduceMul, Nat.reduceSub, Nat.reduceLeDiff, Nat.reduceBEq, Nat.reduceLeDiff, Nat.reducePow, Int.reducePow, reqD_of, dec_t, dec_f, wrap_i64, wrap_u32, wrap_u64, wrap_u8, hc, hx, hne, hlt]
      exact ⟨h, by simp [letsB]⟩
    · simp -dsimp -implicitDefEqProofs (disch := omega) only [go_sem, ↓reduceIte, Nat.reduceEqDiff, reduceCtorEq, Nat.reduceAdd, Int.reduceMul, Int.reduceAdd, Int.reduceSub, Int.reduceLT, Int.reduceLE, Int.reduceEq, Int.reduceToNat, Int.reduceNeg, Nat.reduceLT, Nat.reduceDiv, Nat.reduceMod, Nat.reduceMul, Nat.reduceSub, Nat.reduceLeDiff, Nat.reduceBEq, Nat.reduceLeDiff, Nat.reducePow, Int.reducePow, reqD_of, dec_t, dec_f, wrap_i64, wrap_u32, wrap_u64, wrap_u8, hc, hx, hne, hlt]
      exact ⟨h, by simp [letsB]⟩


theorem delete_any {w0 w : World} {F : HP} {v : Value} {l : List Claim} {i : Nat} (h : St w0 (RowO 74 2 v l.length (clR l) * F) w) (hi : i < l.length) (hl : l.length < 1099511627776) :
    Calls Try.prog 46 #[v, .int .i64 i, .int .i64 ((i : Int) + 1)] w fun e w' => ∃ v', St w0 (RowO 74 2 v' (l.eraseIdx i).length (clR (l.eraseIdx i)) * F) w' ∧ e = .returned v' := by
  obtain ⟨a, c, rfl, _, hnc, hcm⟩ := RowO.form h
  obtain ⟨_, a', c', hv, _, hcl⟩ := claimAt (h.left.ent (RowO.reads _ _ _ _ _))
  simp only [Value.slice.injEq, true_and] at hv
  obtain ⟨rfl, rfl⟩ := hv
  obtain ⟨g, o, rfl, _⟩ := hcl i hi
  refine F46.calls (by simp) ?_
  unfold F46.code
  have e1 : ((i : Int) + 1).toNat = i + 1 := by omega
  have r2 := (h.drew.left.ent (RowO.reads _ _ _ _ _)).ent (Reads.sub (lo := i + 1) (k := l.length - (i + 1)) (by omega))
  rw [clR_drop, clR_take, List.take_of_length_le (by simp)] at r2
  simp only [Option.map_some, add_lit] at r2
  have hcut := h.drew.ent (Ent.sep (RowO.cut (lo := 0) (k := i) (m := c) (by omega) (by omega) (Nat.le_refl _)) (Ent.rfl' _))
  simp only [Nat.zero_mul, Option.map_some, add_lit, Nat.add_zero, ite_self, Nat.sub_zero, List.drop_zero, clR_take] at hcut
  simp -dsimp -implicitDefEqProofs (disch := omega) only [go_sem, ↓reduceIte, Nat.reduceEqDiff, reduceCtorEq, Nat.reduceAdd, Int.reduceMul, Int.reduceAdd, Int.reduceSub, Int.reduceLT, Int.reduceLE, Int.reduceEq, Int.reduceToNat, Int.reduceNeg, Nat.reduceLT, Nat.reduceDiv, Nat.reduceMod, Nat.reduceMul, Nat.reduceSub, Nat.reduceLeDiff, Nat.reduceBEq, Nat.reduceLeDiff, Nat.reducePow, Int.reducePow, reqD_of, dec_t, dec_f, wrap_i64, wrap_u32, wrap_u64, wrap_u8, F46.t4_eq]
  simp only [ite_self, Nat.sub_zero, e1]
  refine hcut.appendIn fact_rowTy_69 (r2.rd.src Try.underlying69 (clR_cells _) (fun hh => ?_)) (by omega) fun w1 h1 => ?_
  · have := congrArg List.length hh
    rw [clR_length, List.length_drop, List.length_nil] at this
    omega
  rw [← clR_app, ← List.eraseIdx_eq_take_drop_succ] at h1
  have hn : i + (l.length - (i + 1)) = l.length - 1 := by omega
  have hel : (l.eraseIdx i).length = l.length - 1 := by rw [List.length_eraseIdx, if_pos hi]
  rw [hn] at h1 ⊢
  simp -dsimp -implicitDefEqProofs (disch := omega) only [go_sem, ↓reduceIte, Nat.reduceEqDiff, reduceCtorEq, Nat.reduceAdd, Int.reduceMul, Int.reduceAdd, Int.reduceSub, Int.reduceLT, Int.reduceLE, Int.reduceEq, Int.reduceToNat, Int.reduceNeg, Nat.reduceLT, Nat.reduceDiv, Nat.reduceMod, Nat.reduceMul, Nat.reduceSub, Nat.reduceLeDiff, Nat.reduceBEq, Nat.reduceLeDiff, Nat.reducePow, Int.reducePow, reqD_of, dec_t, dec_f, wrap_i64, wrap_u32, wrap_u64, wrap_u8, F46.t4_eq]
  rw [if_neg (by omega)]
  refine h1.clearTail fact_rowTy_69 (by intro v hv; simp only [List.mem_cons, List.not_mem_nil, or_false] at hv; rcases hv with rfl | rfl <;> rfl) (Nat.le_refl _) (by omega) (by omega) fun w2 h2 => ?_
  simp -dsimp -implicitDefEqProofs (disch := omega) only [go_sem, ↓reduceIte, Nat.reduceEqDiff, reduceCtorEq, Nat.reduceAdd, Int.reduceMul, Int.reduceAdd, Int.reduceSub, Int.reduceLT, Int.reduceLE, Int.reduceEq, Int.reduceToNat, Int.reduceNeg, Nat.reduceLT, Nat.reduceDiv, Nat.reduceMod, Nat.reduceMul, Nat.reduceSub, Nat.reduceLeDiff, Nat.reduceBEq, Nat.reduceLeDiff, Nat.reducePow, Int.reducePow, reqD_of, dec_t, dec_f, wrap_i64, wrap_u32, wrap_u64, wrap_u8, F46.t4_eq]
  rw [hel]
  exact ⟨_, h2, rfl⟩

/-- The numbers of those who have claims. -/
def whoR (l : List Claim) : List Value := l.map fun c => .int .i64 c.1
def intR (l : List Int) : List Value := l.map fun n => .int .i64 n
theorem intR_cells (l : List Int) : ∀ v ∈ intR l, isCell v = true := by
  intro v hv
  obtain ⟨n, _, rfl⟩ := List.mem_map.1 hv
  rfl


theorem whose_any {w0 w : World} {F : HP} {v : Value} {n : Nat} {l : List Claim} (h : St w0 F w) (hr : Ent F (Reads 2 v n (clR l))) (hl : l.length < 1099511627776) :
    Calls Try.prog 33 #[v] w fun e w' => ∃ v', St w0 (RowO 3 1 v' l.length (intR (l.map (·.1))) * F) w' ∧ e = .returned v' := by
  obtain ⟨rfl, a, c, rfl, hnc, _⟩ := claimAt (h.ent hr)
  refine F33.calls (by simp) ?_
  unfold F33.code
  simp -dsimp -implicitDefEqProofs (disch := omega) only [go_sem, ↓reduceIte, Nat.reduceEqDiff, reduceCtorEq, Nat.reduceAdd, Int.reduceMul, Int.reduceAdd, Int.reduceSub, Int.reduceLT, Int.reduceLE, Int.reduceEq, Int.reduceToNat, Int.reduceNeg, Nat.reduceLT, Nat.reduceDiv, Nat.reduceMod, Nat.reduceMul, Nat.reduceSub, Nat.reduceLeDiff, Nat.reduceBEq, Nat.reduceLeDiff, Nat.reducePow, Int.reducePow, reqD_of, dec_t, dec_f, wrap_i64, wrap_u32, wrap_u64, wrap_u8, F33.t6_eq, F33.t4_eq, F33.t7_eq]
  refine loop_intro (fun e w' => e.ds = [] ∧ e.ρ 6 = .slice a l.length c ∧ e.ρ 7 = .int .i64 l.length ∧ ∃ (i : Nat) (v : Value), i ≤ l.length ∧ e.ρ 8 = .int .i64 i ∧ e.ρ 3 = v ∧ St w0 (RowO 3 1 v i (intR ((l.take i).map (·.1))) * F) w')
    (fun e _ => match e.ρ 8 with | .int _ n => (l.length - n).toNat | _ => 0) ?_ ?_
  · exact ⟨rfl, by simp -dsimp -implicitDefEqProofs only [go_sem, ↓reduceIte, Nat.reduceEqDiff, reduceCtorEq, Nat.reduceAdd, Int.reduceMul, Int.reduceAdd, Int.reduceSub, Int.reduceLT, Int.reduceLE, Int.reduceEq, Int.reduceToNat, Int.reduceNeg, Nat.reduceLT, Nat.reduceDiv, Nat.reduceMod, Nat.reduceMul, Nat.reduceSub, Nat.reduceLeDiff, Nat.reduceBEq, Nat.reduceLeDiff, Nat.reducePow, Int.reducePow, F33.t6_eq, F33.t4_eq, F33.t7_eq], by simp -dsimp -implicitDefEqProofs only [go_sem, ↓reduceIte, Nat.reduceEqDiff, reduceCtorEq, Nat.reduceAdd, Int.reduceMul, Int.reduceAdd, Int.reduceSub, Int.reduceLT, Int.reduceLE, Int.reduceEq, Int.reduceToNat, Int.reduceNeg, Nat.reduceLT, Nat.reduceDiv, Nat.reduceMod, Nat.reduceMul, Nat.reduceSub, Nat.reduceLeDiff, Nat.reduceBEq, Nat.reduceLeDiff, Nat.reducePow, Int.reducePow, F33.t6_eq, F33.t4_eq, F33.t7_eq], 0, _, by omega, rfl, rfl, h.ent (Ent.nilRowO 3 1 F)⟩
  rintro e w1 ⟨hd, e6, e7, i, v, hi, e8, e3, h1⟩
  by_cases hlt : (i : Int) < l.length
  case neg =>
    have : i = l.length := by omega
    subst this
    simp -dsimp -implicitDefEqProofs (disch := omega) only [go_sem, ↓reduceIte, Nat.reduceEqDiff, reduceCtorEq, Nat.reduceAdd, Int.reduceMul, Int.reduceAdd, Int.reduceSub, Int.reduceLT, Int.reduceLE, Int.reduceEq, Int.reduceToNat, Int.reduceNeg, Nat.reduceLT, Nat.reduceDiv, Nat.reduceMod, Nat.reduceMul, Nat.reduceSub, Nat.reduceLeDiff, Nat.reduceBEq, Nat.reduceLeDiff, Nat.reducePow, Int.reducePow, reqD_of, dec_t, dec_f, wrap_i64, wrap_u32, wrap_u64, wrap_u8, F33.t6_eq, F33.t4_eq, F33.t7_eq, hd, e6, e7, e8, e3, hlt]
    rw [List.take_length] at h1
    exact ⟨_, h1, rfl⟩
  have hil : i < l.length := by omega
  obtain ⟨_, a', c', hv, _, hcl⟩ := claimAt (h1.right.ent hr)
  simp only [Value.slice.injEq, true_and] at hv
  obtain ⟨rfl, rfl⟩ := hv
  obtain ⟨b, o, rfl, hrow, _, _⟩ := hcl i hil
  simp -dsimp -implicitDefEqProofs (disch := omega) only [go_sem, ↓reduceIte, Nat.reduceEqDiff, reduceCtorEq, Nat.reduceAdd, Int.reduceMul, Int.reduceAdd, Int.reduceSub, Int.reduceLT, Int.reduceLE, Int.reduceEq, Int.reduceToNat, Int.reduceNeg, Nat.reduceLT, Nat.reduceDiv, Nat.reduceMod, Nat.reduceMul, Nat.reduceSub, Nat.reduceLeDiff, Nat.reduceBEq, Nat.reduceLeDiff, Nat.reducePow, Int.reducePow, reqD_of, dec_t, dec_f, wrap_i64, wrap_u32, wrap_u64, wrap_u8, F33.t6_eq, F33.t4_eq, F33.t7_eq, hd, e6, e7, e8, e3, hlt, hrow]
  refine h1.new fun B w2 h2 => ?_
  simp -dsimp -implicitDefEqProofs (disch := omega) only [go_sem, ↓reduceIte, Nat.reduceEqDiff, reduceCtorEq, Nat.reduceAdd, Int.reduceMul, Int.reduceAdd, Int.reduceSub, Int.reduceLT, Int.reduceLE, Int.reduceEq, Int.reduceToNat, Int.reduceNeg, Nat.reduceLT, Nat.reduceDiv, Nat.reduceMod, Nat.reduceMul, Nat.reduceSub, Nat.reduceLeDiff, Nat.reduceBEq, Nat.reduceLeDiff, Nat.reducePow, Int.reducePow, reqD_of, dec_t, dec_f, wrap_i64, wrap_u32, wrap_u64, wrap_u8, F33.t6_eq, F33.t4_eq, F33.t7_eq]
  refine h2.storeAll (cs := [.int .i64 (l[i]).1, .bool (l[i]).2]) rfl rfl (by intro v hv; simp only [List.mem_cons, List.not_mem_nil, or_false] at hv; rcases hv with rfl | rfl <;> rfl) fun w3 h3 => ?_
  have hc := h3.cells
  simp -dsimp -implicitDefEqProofs (disch := omega) only [go_sem, ↓reduceIte, Nat.reduceEqDiff, reduceCtorEq, Nat.reduceAdd, Int.reduceMul, Int.reduceAdd, Int.reduceSub, Int.reduceLT, Int.reduceLE, Int.reduceEq, Int.reduceToNat, Int.reduceNeg, Nat.reduceLT, Nat.reduceDiv, Nat.reduceMod, Nat.reduceMul, Nat.reduceSub, Nat.reduceLeDiff, Nat.reduceBEq, Nat.reduceLeDiff, Nat.reducePow, Int.reducePow, reqD_of, dec_t, dec_f, wrap_i64, wrap_u32, wrap_u64, wrap_u8, F33.t6_eq, F33.t4_eq, F33.t7_eq, hc, e3]
  refine h3.buildSlice (s := 1) fact_rowTy_34 (cells := [.int .i64 (l[i]).1]) rfl (by decide) (by decide) fun v1 w4 h4 => ?_
  simp -dsimp -implicitDefEqProofs (disch := omega) only [go_sem, ↓reduceIte, Nat.reduceEqDiff, reduceCtorEq, Nat.reduceAdd, Int.reduceMul, Int.reduceAdd, Int.reduceSub, Int.reduceLT, Int.reduceLE, Int.reduceEq, Int.reduceToNat, Int.reduceNeg, Nat.reduceLT, Nat.reduceDiv, Nat.reduceMod, Nat.reduceMul, Nat.reduceSub, Nat.reduceLeDiff, Nat.reduceBEq, Nat.reduceLeDiff, Nat.reducePow, Int.reducePow, reqD_of, dec_t, dec_f, wrap_i64, wrap_u32, wrap_u64, wrap_u8, F33.t6_eq, F33.t4_eq, F33.t7_eq, e3]
  have h5 := h4.ac (show _ = RowO 3 1 v i (intR ((l.take i).map (·.1))) * (Row 3 1 v1 1 [.int .i64 (l[i]).1] * (Blk B (.cells #[.int .i64 (l[i]).1, .bool (l[i]).2] 74 (0, 0)) * F)) by ac_rfl)
  refine h5.appendO fact_rowTy_34 (((h5.right.left.ent (Row.reads _ _ _ _ _)).rd).src Try.underlying34 (intR_cells [(l[i]).1]) (by simp)) (by simp [maxLen]; omega) (by omega) fun v2 w5 h6 => ?_
  simp -dsimp -implicitDefEqProofs (disch := omega) only [go_sem, ↓reduceIte, Nat.reduceEqDiff, reduceCtorEq, Nat.reduceAdd, Int.reduceMul, Int.reduceAdd, Int.reduceSub, Int.reduceLT, Int.reduceLE, Int.reduceEq, Int.reduceToNat, Int.reduceNeg, Nat.reduceLT, Nat.reduceDiv, Nat.reduceMod, Nat.reduceMul, Nat.reduceSub, Nat.reduceLeDiff, Nat.reduceBEq, Nat.reduceLeDiff, Nat.reducePow, Int.reducePow, reqD_of, dec_t, dec_f, wrap_i64, wrap_u32, wrap_u64, wrap_u8, F33.t6_eq, F33.t4_eq, F33.t7_eq, hd, e6, e7, e8, e3]
  refine ⟨⟨i + 1, by omega, by omega, ?_⟩, by omega⟩
  have : intR ((l.take i).map (·.1)) ++ [Value.int .i64 (l[i]).1] = intR ((l.take (i + 1)).map (·.1)) := by
    rw [List.take_succ_eq_append_getElem hil]
    simp only [intR, List.map_append, List.map_cons, List.map_nil]
  rw [this] at h6
  exact ⟨by omega, rfl, h6.drop2.drop2⟩

theorem intAt {w0 w : World} {v : Value} {n : Nat} {l : List Int} (h : St w0 (Reads 1 v n (intR l)) w) : n = l.length ∧ ∃ a c, v = .slice a n c ∧ n ≤ c ∧ ∀ i (hi : i < l.length), ∃ b o, a = some ⟨b, o, none⟩ ∧ w.cell? ⟨b, o + i, none⟩ = some (.int .i64 l[i]) := by
  have r := h.rd
  have hn : n = l.length := by have := r.length; simp [intR] at this; omega
  obtain ⟨a, c, rfl, hnc, hr⟩ := r.form
  refine ⟨hn, a, c, rfl, hnc, fun i hi => ?_⟩
  rcases hr with hr | ⟨b, o, rfl, hr⟩
  · have := congrArg List.length hr
    simp [intR] at this
    subst this
    simp at hi
  · have h0 := hr i (by simpa [intR] using hi)
    rw [show (intR l)[i]? = some (.int .i64 l[i]) by simp [intR, hi]] at h0
    exact ⟨b, o, rfl, h0⟩


theorem sameInts_any {w0 w : World} {F : HP} {va vb : Value} {na nb : Nat} {xs ys : List Int} (h : St w0 F w) (ha : Ent F (Reads 1 va na (intR xs))) (hb : Ent F (Reads 1 vb nb (intR ys))) (hl : xs.length < 9223372036854775807) :
    Calls Try.prog 20 #[va, vb] w fun e w' => St w0 F w' ∧ e = .returned (.bool (decide (xs = ys))) := by
  obtain ⟨rfl, pa, ca, rfl, _, _⟩ := intAt (h.ent ha)
  obtain ⟨rfl, pb, cb, rfl, _, _⟩ := intAt (h.ent hb)
  refine F20.calls (by simp) ?_
  unfold F20.code
  by_cases hlen : (xs.length : Int) = ys.length
  case neg =>
    simp -dsimp -implicitDefEqProofs only [go_sem, ↓reduceIte, Nat.reduceEqDiff, reduceCtorEq, Nat.reduceAdd, Int.reduceMul, Int.reduceAdd, Int.reduceSub, Int.reduceLT, Int.reduceLE, Int.reduceEq, Int.reduceToNat, Int.reduceNeg, Nat.reduceLT, Nat.reduceDiv, Nat.reduceMod, Nat.reduceMul, Nat.reduceSub, Nat.reduceLeDiff, Nat.reduceBEq, Nat.reduceLeDiff, Nat.reducePow, Int.reducePow, F20.t5_eq, F20.t6_eq, F20.t8_eq, F20.t3_eq, hlen]
    exact ⟨h, by rw [dec_f]; intro hx; exact hlen (by rw [hx])⟩
  simp -dsimp -implicitDefEqProofs only [go_sem, ↓reduceIte, Nat.reduceEqDiff, reduceCtorEq, Nat.reduceAdd, Int.reduceMul, Int.reduceAdd, Int.reduceSub, Int.reduceLT, Int.reduceLE, Int.reduceEq, Int.reduceToNat, Int.reduceNeg, Nat.reduceLT, Nat.reduceDiv, Nat.reduceMod, Nat.reduceMul, Nat.reduceSub, Nat.reduceLeDiff, Nat.reduceBEq, Nat.reduceLeDiff, Nat.reducePow, Int.reducePow, F20.t5_eq, F20.t6_eq, F20.t8_eq, F20.t3_eq, hlen]
  refine loop_intro (fun e w' => St w0 F w' ∧ e.ds = [] ∧ e.ρ 0 = .slice pa xs.length ca ∧ e.ρ 1 = .slice pb ys.length cb ∧ ∃ k : Nat, k ≤ xs.length ∧ e.ρ 5 = .int .i64 k ∧ xs.take k = ys.take k)
    (fun e _ => match e.ρ 5 with | .int _ n => (xs.length - n).toNat | _ => 0) ?_ ?_
  · exact ⟨h, rfl, by simp -dsimp -implicitDefEqProofs only [go_sem, ↓reduceIte, Nat.reduceEqDiff, reduceCtorEq, Nat.reduceAdd, Int.reduceMul, Int.reduceAdd, Int.reduceSub, Int.reduceLT, Int.reduceLE, Int.reduceEq, Int.reduceToNat, Int.reduceNeg, Nat.reduceLT, Nat.reduceDiv, Nat.reduceMod, Nat.reduceMul, Nat.reduceSub, Nat.reduceLeDiff, Nat.reduceBEq, Nat.reduceLeDiff, Nat.reducePow, Int.reducePow, F20.t5_eq, F20.t6_eq, F20.t8_eq, F20.t3_eq, hlen], by simp -dsimp -implicitDefEqProofs only [go_sem, ↓reduceIte, Nat.reduceEqDiff, reduceCtorEq, Nat.reduceAdd, Int.reduceMul, Int.reduceAdd, Int.reduceSub, Int.reduceLT, Int.reduceLE, Int.reduceEq, Int.reduceToNat, Int.reduceNeg, Nat.reduceLT, Nat.reduceDiv, Nat.reduceMod, Nat.reduceMul, Nat.reduceSub, Nat.reduceLeDiff, Nat.reduceBEq, Nat.reduceLeDiff, Nat.reducePow, Int.reducePow, F20.t5_eq, F20.t6_eq, F20.t8_eq, F20.t3_eq, hlen], 0, by omega, rfl, rfl⟩
  rintro e w1 ⟨h1, hd, e0, e1, k, hk, e5, hpre⟩
  have hlen' : xs.length = ys.length := by omega
  by_cases hlt : (k : Int) < xs.length
  case neg =>
    have : k = xs.length := by omega
    subst this
    simp -dsimp -implicitDefEqProofs only [go_sem, ↓reduceIte, Nat.reduceEqDiff, reduceCtorEq, Nat.reduceAdd, Int.reduceMul, Int.reduceAdd, Int.reduceSub, Int.reduceLT, Int.reduceLE, Int.reduceEq, Int.reduceToNat, Int.reduceNeg, Nat.reduceLT, Nat.reduceDiv, Nat.reduceMod, Nat.reduceMul, Nat.reduceSub, Nat.reduceLeDiff, Nat.reduceBEq, Nat.reduceLeDiff, Nat.reducePow, Int.reducePow, F20.t5_eq, F20.t6_eq, F20.t8_eq, F20.t3_eq, hlt, e0, e1, e5, hd]
    rw [List.take_length, hlen', List.take_length] at hpre
    exact ⟨h1, by rw [dec_t hpre]⟩
  have hka : k < xs.length := by omega
  have hkb : k < ys.length := by omega
  have h1' := h1.drew
  obtain ⟨_, qa, _, hv, _, hra1⟩ := intAt (h1'.ent ha)
  obtain ⟨_, qb, _, hv', _, hrb1⟩ := intAt (h1'.ent hb)
  simp only [Value.slice.injEq, true_and] at hv hv'
  obtain ⟨rfl, rfl⟩ := hv
  obtain ⟨rfl, rfl⟩ := hv'
  obtain ⟨ba, oa, rfl, hra⟩ := hra1 k hka
  obtain ⟨bb, ob, rfl, hrb⟩ := hrb1 k hkb
  by_cases hab : xs[k] = ys[k]
  · simp -dsimp -implicitDefEqProofs (disch := omega) only [go_sem, ↓reduceIte, Nat.reduceEqDiff, reduceCtorEq, Nat.reduceAdd, Int.reduceMul, Int.reduceAdd, Int.reduceSub, Int.reduceLT, Int.reduceLE, Int.reduceEq, Int.reduceToNat, Int.reduceNeg, Nat.reduceLT, Nat.reduceDiv, Nat.reduceMod, Nat.reduceMul, Nat.reduceSub, Nat.reduceLeDiff, Nat.reduceBEq, Nat.reduceLeDiff, Nat.reducePow, Int.reducePow, reqD_of, dec_t, dec_f, wrap_i64, wrap_u32, wrap_u64, wrap_u8, F20.t5_eq, F20.t6_eq, F20.t8_eq, F20.t3_eq, hlt, e0, e1, e5, hd, hra, hrb, hab]
    refine ⟨⟨h1', ⟨k + 1, by omega, by omega, ?_⟩⟩, by omega⟩
    rw [List.take_succ_eq_append_getElem hka, List.take_succ_eq_append_getElem hkb, hpre, hab]
  · simp -dsimp -implicitDefEqProofs (disch := omega) only [go_sem, ↓reduceIte, Nat.reduceEqDiff, reduceCtorEq, Nat.reduceAdd, Int.reduceMul, Int.reduceAdd, Int.reduceSub, Int.reduceLT, Int.reduceLE, Int.reduceEq, Int.reduceToNat, Int.reduceNeg, Nat.reduceLT, Nat.reduceDiv, Nat.reduceMod, Nat.reduceMul, Nat.reduceSub, Nat.reduceLeDiff, Nat.reduceBEq, Nat.reduceLeDiff, Nat.reducePow, Int.reducePow, reqD_of, dec_t, dec_f, wrap_i64, wrap_u32, wrap_u64, wrap_u8, F20.t5_eq, F20.t6_eq, F20.t8_eq, F20.t3_eq, hlt, e0, e1, e5, hd, hra, hrb, hab]
    refine ⟨h1', ?_⟩
    rw [dec_f]
    rintro rfl
    exact hab rfl

end Go.Proofs.Ytacmnfpgimgigaa

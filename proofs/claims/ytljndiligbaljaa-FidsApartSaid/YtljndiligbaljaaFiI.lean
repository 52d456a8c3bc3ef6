/- The fids package: what the statements ask of fids: same, find, among, size, made, beyond. -/
import Derived.Test.YtljndiligbaljaaFiH
namespace Go.Proofs.Ytljndiligbaljaa
open Go
set_option linter.unusedSimpArgs false
set_option linter.unusedVariables false
set_option maxRecDepth 100000

theorem seq_dec (a b : ByteArray) : (a.toList == b.toList) = decide (a = b) := by
  rw [ByteArray.toList_eq, ByteArray.toList_eq]
  by_cases h : a = b
  · subst h; simp
  · have h2 : ¬ a.data = b.data := fun e => h (by cases a; cases b; simp only at e; rw [e])
    simp [h, h2]

theorem beq_dec (a b : Bool) : (a == b) = decide (a = b) := by cases a <;> cases b <;> rfl

section
attribute [local go_sem] F16.t3_eq
theorem same_any {w0 w : World} {F : HP} {p q : HF} (h : St w0 F w) (hv : isCell p.1 = true) (hu : isCell q.1 = true) (hp : Ent F (HeardR p)) (hq : Ent F (HeardR q)) :
    Calls Try.prog 16 #[fdV p, fdV q] w fun e w' => St w0 F w' ∧ e = .returned (.bool (sameB p.2 q.2)) := by
  obtain ⟨v, f⟩ := p
  obtain ⟨u, g⟩ := q
  show Calls Try.prog _ #[.agg (fdC v f).toArray, .agg (fdC u g).toArray] w _
  unfold fdC
  refine F16.calls (by simp) ?_
  unfold F16.code
  simp -dsimp -implicitDefEqProofs (disch := omega) only [go_sem, reqD_of, dec_t, dec_f, wrap_i64, wrap_u32, wrap_u64, wrap_u8]
  refine h.new fun B2 w1 h1 => ?_
  simp -dsimp -implicitDefEqProofs (disch := omega) only [go_sem, reqD_of, dec_t, dec_f, wrap_i64, wrap_u32, wrap_u64, wrap_u8]
  refine h1.new fun B3 w2 h2 => ?_
  have h2' : St w0 (Blk B3 (fidB u g) * (Blk B2 (fidB v f) * F)) w2 := h2
  clear h2
  have c2 := h2'.cl B2
  have c3 := h2'.cl B3
  have r2 := h2'.rowAtH B2 7 7 (by simp [fdC])
  have r3 := h2'.rowAtH B3 7 7 (by simp [fdC])
  simp only [fdC, List.drop_succ_cons, List.drop_zero, List.take_succ_cons, List.take_zero] at c2 c3 r2 r3
  simp -dsimp -implicitDefEqProofs (disch := omega) only [go_sem, reqD_of, dec_t, dec_f, wrap_i64, wrap_u32, wrap_u64, wrap_u8, c2, c3]
  refine h2'.str (bs := f.heard) ((Ent.right _ _).trans ((Ent.right _ _).trans hp)) Try.underlying39 Try.underlying5 Try.underlying9 ?_
  simp -dsimp -implicitDefEqProofs (disch := omega) only [go_sem, reqD_of, dec_t, dec_f, wrap_i64, wrap_u32, wrap_u64, wrap_u8, c2, c3]
  refine h2'.str (bs := g.heard) ((Ent.right _ _).trans ((Ent.right _ _).trans hq)) Try.underlying39 Try.underlying5 Try.underlying9 ?_
  by_cases q0 : f.heard = g.heard
  case neg =>
    have q0' : ¬ strOf f.heard = strOf g.heard := fun e => q0 (strOf_inj.1 e)
    simp -dsimp -implicitDefEqProofs (disch := omega) only [go_sem, reqD_of, dec_t, dec_f, wrap_i64, wrap_u32, wrap_u64, wrap_u8, seq_dec, q0']
    exact ⟨h2'.right.right, by simp [sameB, q0]⟩
  have q0' : strOf f.heard = strOf g.heard := by rw [q0]
  simp -dsimp -implicitDefEqProofs (disch := omega) only [go_sem, reqD_of, dec_t, dec_f, wrap_i64, wrap_u32, wrap_u64, wrap_u8, seq_dec, q0', r2]
  refine h2'.new fun B5 w5 h5 => ?_
  simp -dsimp -implicitDefEqProofs (disch := omega) only [go_sem, reqD_of, dec_t, dec_f, wrap_i64, wrap_u32, wrap_u64, wrap_u8]
  refine h5.stoAll (b := B5) (cs := [.string f.tu, .string f.tt, .int .u64 f.ours, .int .u64 f.theirs, .int .u8 f.step, .int .i64 f.said, v]) rfl rfl (fun x hx => fdC_cells (f := f) hv x (List.mem_of_mem_drop (i := 7) hx)) fun w6 h6 => ?_
  have r3 := h6.rowAtH B3 7 7 (by simp [fdC])
  simp only [fdC, List.drop_succ_cons, List.drop_zero, List.take_succ_cons, List.take_zero] at r3
  simp -dsimp -implicitDefEqProofs (disch := omega) only [go_sem, reqD_of, dec_t, dec_f, wrap_i64, wrap_u32, wrap_u64, wrap_u8, r3]
  refine h6.new fun B6 w7 h7 => ?_
  simp -dsimp -implicitDefEqProofs (disch := omega) only [go_sem, reqD_of, dec_t, dec_f, wrap_i64, wrap_u32, wrap_u64, wrap_u8]
  refine h7.stoAll (b := B6) (cs := [.string g.tu, .string g.tt, .int .u64 g.ours, .int .u64 g.theirs, .int .u8 g.step, .int .i64 g.said, u]) rfl rfl (fun x hx => fdC_cells (f := g) hu x (List.mem_of_mem_drop (i := 7) hx)) fun w8 h8 => ?_
  have c2 := h8.cl B2
  have c3 := h8.cl B3
  have c5 := h8.cl B5
  have c6 := h8.cl B6
  simp only [fdC] at c2 c3
  have hF := h8.right.right.right.right
  by_cases q1 : f.st = g.st
  case neg =>
    simp -dsimp -implicitDefEqProofs (disch := omega) only [go_sem, reqD_of, dec_t, dec_f, wrap_i64, wrap_u32, wrap_u64, wrap_u8, seq_dec, beq_dec, c2, c3, c5, c6, q1]
    exact ⟨hF, by simp [sameB, q1]⟩
  by_cases q2 : f.nd = g.nd
  case neg =>
    simp -dsimp -implicitDefEqProofs (disch := omega) only [go_sem, reqD_of, dec_t, dec_f, wrap_i64, wrap_u32, wrap_u64, wrap_u8, seq_dec, beq_dec, c2, c3, c5, c6, q1, q2]
    exact ⟨hF, by simp [sameB, q2]⟩
  by_cases q3 : f.user = g.user
  case neg =>
    simp -dsimp -implicitDefEqProofs (disch := omega) only [go_sem, reqD_of, dec_t, dec_f, wrap_i64, wrap_u32, wrap_u64, wrap_u8, seq_dec, beq_dec, c2, c3, c5, c6, q1, q2, q3]
    exact ⟨hF, by simp [sameB, q3]⟩
  by_cases q4 : f.mode = g.mode
  case neg =>
    simp -dsimp -implicitDefEqProofs (disch := omega) only [go_sem, reqD_of, dec_t, dec_f, wrap_i64, wrap_u32, wrap_u64, wrap_u8, seq_dec, beq_dec, c2, c3, c5, c6, q1, q2, q3, q4]
    exact ⟨hF, by simp [sameB, q4]⟩
  by_cases q5 : f.rm = g.rm
  case neg =>
    simp -dsimp -implicitDefEqProofs (disch := omega) only [go_sem, reqD_of, dec_t, dec_f, wrap_i64, wrap_u32, wrap_u64, wrap_u8, seq_dec, beq_dec, c2, c3, c5, c6, q1, q2, q3, q4, q5]
    exact ⟨hF, by simp [sameB, q5]⟩
  by_cases q6 : f.last = g.last
  case neg =>
    simp -dsimp -implicitDefEqProofs (disch := omega) only [go_sem, reqD_of, dec_t, dec_f, wrap_i64, wrap_u32, wrap_u64, wrap_u8, seq_dec, beq_dec, c2, c3, c5, c6, q1, q2, q3, q4, q5, q6]
    exact ⟨hF, by simp [sameB, q6]⟩
  by_cases q7 : f.told = g.told
  case neg =>
    simp -dsimp -implicitDefEqProofs (disch := omega) only [go_sem, reqD_of, dec_t, dec_f, wrap_i64, wrap_u32, wrap_u64, wrap_u8, seq_dec, beq_dec, c2, c3, c5, c6, q1, q2, q3, q4, q5, q6, q7]
    exact ⟨hF, by simp [sameB, q7]⟩
  by_cases q8 : f.tu = g.tu
  case neg =>
    simp -dsimp -implicitDefEqProofs (disch := omega) only [go_sem, reqD_of, dec_t, dec_f, wrap_i64, wrap_u32, wrap_u64, wrap_u8, seq_dec, beq_dec, c2, c3, c5, c6, q1, q2, q3, q4, q5, q6, q7, q8]
    exact ⟨hF, by simp [sameB, q8]⟩
  by_cases q9 : f.tt = g.tt
  case neg =>
    simp -dsimp -implicitDefEqProofs (disch := omega) only [go_sem, reqD_of, dec_t, dec_f, wrap_i64, wrap_u32, wrap_u64, wrap_u8, seq_dec, beq_dec, c2, c3, c5, c6, q1, q2, q3, q4, q5, q6, q7, q8, q9]
    exact ⟨hF, by simp [sameB, q9]⟩
  by_cases q10 : f.ours = g.ours
  case neg =>
    simp -dsimp -implicitDefEqProofs (disch := omega) only [go_sem, reqD_of, dec_t, dec_f, wrap_i64, wrap_u32, wrap_u64, wrap_u8, seq_dec, beq_dec, c2, c3, c5, c6, q1, q2, q3, q4, q5, q6, q7, q8, q9, q10]
    exact ⟨hF, by simp [sameB, q10]⟩
  by_cases q11 : f.theirs = g.theirs
  case neg =>
    simp -dsimp -implicitDefEqProofs (disch := omega) only [go_sem, reqD_of, dec_t, dec_f, wrap_i64, wrap_u32, wrap_u64, wrap_u8, seq_dec, beq_dec, c2, c3, c5, c6, q1, q2, q3, q4, q5, q6, q7, q8, q9, q10, q11]
    exact ⟨hF, by simp [sameB, q11]⟩
  by_cases q12 : f.step = g.step
  case neg =>
    simp -dsimp -implicitDefEqProofs (disch := omega) only [go_sem, reqD_of, dec_t, dec_f, wrap_i64, wrap_u32, wrap_u64, wrap_u8, seq_dec, beq_dec, c2, c3, c5, c6, q1, q2, q3, q4, q5, q6, q7, q8, q9, q10, q11, q12]
    exact ⟨hF, by simp [sameB, q12]⟩
  by_cases q13 : f.said = g.said
  case neg =>
    simp -dsimp -implicitDefEqProofs (disch := omega) only [go_sem, reqD_of, dec_t, dec_f, wrap_i64, wrap_u32, wrap_u64, wrap_u8, seq_dec, beq_dec, c2, c3, c5, c6, q1, q2, q3, q4, q5, q6, q7, q8, q9, q10, q11, q12, q13]
    exact ⟨hF, by simp [sameB, q13]⟩
  simp -dsimp -implicitDefEqProofs (disch := omega) only [go_sem, reqD_of, dec_t, dec_f, wrap_i64, wrap_u32, wrap_u64, wrap_u8, seq_dec, beq_dec, c2, c3, c5, c6, q1, q2, q3, q4, q5, q6, q7, q8, q9, q10, q11, q12, q13]
  exact ⟨hF, by simp [sameB, q0, q1, q2, q3, q4, q5, q6, q7, q8, q9, q10, q11, q12, q13]⟩

end
end Go.Proofs.Ytljndiligbaljaa

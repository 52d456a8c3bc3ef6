/- The fids package: a step of a script, done. (Printed by genfik.py.) -/
import Derived.Test.YtljndiligbaljaaFiJ
namespace Go.Proofs.Ytljndiligbaljaa
open Go
set_option linter.unusedSimpArgs false
set_option linter.unusedVariables false
set_option maxRecDepth 100000

abbrev HOp := Value × OpD
def opC (x : HOp) : List Value := .int .i64 x.2.kind :: .int .u32 x.2.n :: .int .u32 x.2.m :: (fdC x.1 x.2.f ++ [.int .u64 x.2.nd, .int .u64 x.2.last, .int .u8 x.2.mode, .bool x.2.yes])
theorem opC_length (x : HOp) : (opC x).length = 21 := rfl
abbrev opV (x : HOp) : Value := .agg (opC x).toArray
abbrev opB (x : HOp) : Obj := .cells (opC x).toArray 45 (0, 0)
def MayP (v : Value) (l : List Int) : HP := RowO 35 1 v l.length (l.map encU)
theorem MayP.nil {w0 w : World} {F : HP} (h : St w0 F w) : St w0 (MayP zF [] * F) w := h.nilR 35 1

section
attribute [local go_sem] F13.t23_eq
theorem does_2 {w0 w : World} {F : HP} {B : Nat} {most : Int} {l : TL} {v : Value} {o : OpD} (h : St w0 (TabP B most l * F) w) (hx : Okf (v, o.f)) (hr : Ent F (HeardR (v, o.f))) (hl : l.length ≤ 1048576) (hk : o.kind = 2) :
    Calls Try.prog 13 #[.pointer (some ⟨B, 0, none⟩), opV (v, o)] w fun e w' => ∃ u, St w0 (MayP u [o.n] * (TabP B most (addS o.n most l o.f) * F)) w' ∧ e = .returned (.tuple #[.int .i64 (addE o.n most l o.f), u]) := by
  refine F13.calls (by simp) ?_
  unfold F13.code
  simp -dsimp -implicitDefEqProofs (disch := omega) only [go_sem, reqD_of, dec_t, dec_f, wrap_i64, wrap_u32, wrap_u64, wrap_u8]
  refine h.new fun X w1 h1 => ?_
  have h1 : St w0 (TabP B most l * (Blk X (opB (v, o)) * F)) w1 := h1.sw2
  have c1 := h1.cl X
  simp only [opC, fdC, List.cons_append, List.nil_append, List.drop_succ_cons, List.drop_zero, List.take_succ_cons, List.take_zero] at c1
  have h2 := h1.drew
  have c2 := h2.cl X
  have r2 := h2.rowAtH X 3 14 (by simp [opC, fdC])
  simp only [opC, fdC, List.cons_append, List.nil_append, List.drop_succ_cons, List.drop_zero, List.take_succ_cons, List.take_zero] at c2 r2
  simp -dsimp -implicitDefEqProofs (disch := omega) only [go_sem, reqD_of, dec_t, dec_f, wrap_i64, wrap_u32, wrap_u64, wrap_u8, c1, hk, c2, r2]
  refine ⟨?_, ?_⟩
  · refine (add_any (p := (v, o.f)) h2 hx ((Ent.right _ _).trans hr)).mono ?_
    rintro e w3 ⟨h3, rfl⟩
    have c3 := h3.cl X
    have r3 := h3.rowAtH X 3 14 (by simp [opC, fdC])
    simp only [opC, fdC, List.cons_append, List.nil_append, List.drop_succ_cons, List.drop_zero, List.take_succ_cons, List.take_zero] at c3 r3
    simp -dsimp -implicitDefEqProofs (disch := omega) only [go_sem, reqD_of, dec_t, dec_f, wrap_i64, wrap_u32, wrap_u64, wrap_u8, c3, r3]
    refine h3.lit (n := 1) (cells := [encU o.n]) fact_rowTy_32 rfl (by decide) (by decide) fun v1 w4 h4 => ?_
    have c4 := h4.cl X
    have r4 := h4.rowAtH X 3 14 (by simp [opC, fdC])
    simp only [opC, fdC, List.cons_append, List.nil_append, List.drop_succ_cons, List.drop_zero, List.take_succ_cons, List.take_zero] at c4 r4
    simp -dsimp -implicitDefEqProofs (disch := omega) only [go_sem, reqD_of, dec_t, dec_f, wrap_i64, wrap_u32, wrap_u64, wrap_u8, c4, r4]
    exact ⟨_, show St w0 (RowO 35 1 v1 1 [encU o.n] * (TabP B most (addS o.n most l o.f) * F)) _ from h4.sub, rfl⟩
  · refine h2.lit (n := 1) (cells := [encU o.n]) fact_rowTy_32 rfl (by decide) (by decide) fun v1 w3 h3 => ?_
    have h3 : St w0 (TabP B most l * (RowO 35 1 v1 1 [encU o.n] * (Blk X (opB (v, o)) * F))) w3 := h3.sw2
    have c3 := h3.cl X
    have r3 := h3.rowAtH X 3 14 (by simp [opC, fdC])
    simp only [opC, fdC, List.cons_append, List.nil_append, List.drop_succ_cons, List.drop_zero, List.take_succ_cons, List.take_zero] at c3 r3
    simp -dsimp -implicitDefEqProofs (disch := omega) only [go_sem, reqD_of, dec_t, dec_f, wrap_i64, wrap_u32, wrap_u64, wrap_u8, c3, r3]
    refine (add_any (p := (v, o.f)) h3 hx ((Ent.right _ _).trans ((Ent.right _ _).trans hr))).mono ?_
    rintro e w4 ⟨h4, rfl⟩
    have c4 := h4.cl X
    have r4 := h4.rowAtH X 3 14 (by simp [opC, fdC])
    simp only [opC, fdC, List.cons_append, List.nil_append, List.drop_succ_cons, List.drop_zero, List.take_succ_cons, List.take_zero] at c4 r4
    simp -dsimp -implicitDefEqProofs (disch := omega) only [go_sem, reqD_of, dec_t, dec_f, wrap_i64, wrap_u32, wrap_u64, wrap_u8, c4, r4]
    exact ⟨_, show St w0 (RowO 35 1 v1 1 [encU o.n] * (TabP B most (addS o.n most l o.f) * F)) _ from h4.sub, rfl⟩

end
section
attribute [local go_sem] F13.t23_eq
theorem does_3 {w0 w : World} {F : HP} {B : Nat} {most : Int} {l : TL} {v : Value} {o : OpD} (h : St w0 (TabP B most l * F) w) (hx : Okf (v, o.f)) (hr : Ent F (HeardR (v, o.f))) (hl : l.length ≤ 1048576) (hk : o.kind = 3) :
    Calls Try.prog 13 #[.pointer (some ⟨B, 0, none⟩), opV (v, o)] w fun e w' => ∃ u, St w0 (MayP u [o.n] * (TabP B most (setS o.n l o.f) * F)) w' ∧ e = .returned (.tuple #[.int .i64 (setE o.n l o.f), u]) := by
  refine F13.calls (by simp) ?_
  unfold F13.code
  simp -dsimp -implicitDefEqProofs (disch := omega) only [go_sem, reqD_of, dec_t, dec_f, wrap_i64, wrap_u32, wrap_u64, wrap_u8]
  refine h.new fun X w1 h1 => ?_
  have h1 : St w0 (TabP B most l * (Blk X (opB (v, o)) * F)) w1 := h1.sw2
  have c1 := h1.cl X
  simp only [opC, fdC, List.cons_append, List.nil_append, List.drop_succ_cons, List.drop_zero, List.take_succ_cons, List.take_zero] at c1
  have h2 := h1.drew
  have c2 := h2.cl X
  have r2 := h2.rowAtH X 3 14 (by simp [opC, fdC])
  simp only [opC, fdC, List.cons_append, List.nil_append, List.drop_succ_cons, List.drop_zero, List.take_succ_cons, List.take_zero] at c2 r2
  simp -dsimp -implicitDefEqProofs (disch := omega) only [go_sem, reqD_of, dec_t, dec_f, wrap_i64, wrap_u32, wrap_u64, wrap_u8, c1, hk, c2, r2]
  refine ⟨?_, ?_⟩
  · refine (set_any (p := (v, o.f)) h2 hx ((Ent.right _ _).trans hr)).mono ?_
    rintro e w3 ⟨h3, rfl⟩
    have c3 := h3.cl X
    have r3 := h3.rowAtH X 3 14 (by simp [opC, fdC])
    simp only [opC, fdC, List.cons_append, List.nil_append, List.drop_succ_cons, List.drop_zero, List.take_succ_cons, List.take_zero] at c3 r3
    simp -dsimp -implicitDefEqProofs (disch := omega) only [go_sem, reqD_of, dec_t, dec_f, wrap_i64, wrap_u32, wrap_u64, wrap_u8, c3, r3]
    refine h3.lit (n := 1) (cells := [encU o.n]) fact_rowTy_32 rfl (by decide) (by decide) fun v1 w4 h4 => ?_
    have c4 := h4.cl X
    have r4 := h4.rowAtH X 3 14 (by simp [opC, fdC])
    simp only [opC, fdC, List.cons_append, List.nil_append, List.drop_succ_cons, List.drop_zero, List.take_succ_cons, List.take_zero] at c4 r4
    simp -dsimp -implicitDefEqProofs (disch := omega) only [go_sem, reqD_of, dec_t, dec_f, wrap_i64, wrap_u32, wrap_u64, wrap_u8, c4, r4]
    exact ⟨_, show St w0 (RowO 35 1 v1 1 [encU o.n] * (TabP B most (setS o.n l o.f) * F)) _ from h4.sub, rfl⟩
  · refine h2.lit (n := 1) (cells := [encU o.n]) fact_rowTy_32 rfl (by decide) (by decide) fun v1 w3 h3 => ?_
    have h3 : St w0 (TabP B most l * (RowO 35 1 v1 1 [encU o.n] * (Blk X (opB (v, o)) * F))) w3 := h3.sw2
    have c3 := h3.cl X
    have r3 := h3.rowAtH X 3 14 (by simp [opC, fdC])
    simp only [opC, fdC, List.cons_append, List.nil_append, List.drop_succ_cons, List.drop_zero, List.take_succ_cons, List.take_zero] at c3 r3
    simp -dsimp -implicitDefEqProofs (disch := omega) only [go_sem, reqD_of, dec_t, dec_f, wrap_i64, wrap_u32, wrap_u64, wrap_u8, c3, r3]
    refine (set_any (p := (v, o.f)) h3 hx ((Ent.right _ _).trans ((Ent.right _ _).trans hr))).mono ?_
    rintro e w4 ⟨h4, rfl⟩
    have c4 := h4.cl X
    have r4 := h4.rowAtH X 3 14 (by simp [opC, fdC])
    simp only [opC, fdC, List.cons_append, List.nil_append, List.drop_succ_cons, List.drop_zero, List.take_succ_cons, List.take_zero] at c4 r4
    simp -dsimp -implicitDefEqProofs (disch := omega) only [go_sem, reqD_of, dec_t, dec_f, wrap_i64, wrap_u32, wrap_u64, wrap_u8, c4, r4]
    exact ⟨_, show St w0 (RowO 35 1 v1 1 [encU o.n] * (TabP B most (setS o.n l o.f) * F)) _ from h4.sub, rfl⟩

end
section
attribute [local go_sem] F13.t23_eq
theorem does_6 {w0 w : World} {F : HP} {B : Nat} {most : Int} {l : TL} {v : Value} {o : OpD} (h : St w0 (TabP B most l * F) w) (hx : Okf (v, o.f)) (hr : Ent F (HeardR (v, o.f))) (hl : l.length ≤ 1048576) (hk : o.kind = 6) :
    Calls Try.prog 13 #[.pointer (some ⟨B, 0, none⟩), opV (v, o)] w fun e w' => ∃ u, St w0 (MayP u [o.m] * (TabP B most (walkS o.n o.m o.nd most l) * F)) w' ∧ e = .returned (.tuple #[.int .i64 (walkE o.n o.m most l), u]) := by
  refine F13.calls (by simp) ?_
  unfold F13.code
  simp -dsimp -implicitDefEqProofs (disch := omega) only [go_sem, reqD_of, dec_t, dec_f, wrap_i64, wrap_u32, wrap_u64, wrap_u8]
  refine h.new fun X w1 h1 => ?_
  have h1 : St w0 (TabP B most l * (Blk X (opB (v, o)) * F)) w1 := h1.sw2
  have c1 := h1.cl X
  simp only [opC, fdC, List.cons_append, List.nil_append, List.drop_succ_cons, List.drop_zero, List.take_succ_cons, List.take_zero] at c1
  have h2 := h1.drew
  have c2 := h2.cl X
  have r2 := h2.rowAtH X 3 14 (by simp [opC, fdC])
  simp only [opC, fdC, List.cons_append, List.nil_append, List.drop_succ_cons, List.drop_zero, List.take_succ_cons, List.take_zero] at c2 r2
  simp -dsimp -implicitDefEqProofs (disch := omega) only [go_sem, reqD_of, dec_t, dec_f, wrap_i64, wrap_u32, wrap_u64, wrap_u8, c1, hk, c2, r2]
  refine ⟨?_, ?_⟩
  · refine (walk_any (a := o.n) (n := o.m) (nd := o.nd) h2).mono ?_
    rintro e w3 ⟨h3, rfl⟩
    have c3 := h3.cl X
    have r3 := h3.rowAtH X 3 14 (by simp [opC, fdC])
    simp only [opC, fdC, List.cons_append, List.nil_append, List.drop_succ_cons, List.drop_zero, List.take_succ_cons, List.take_zero] at c3 r3
    simp -dsimp -implicitDefEqProofs (disch := omega) only [go_sem, reqD_of, dec_t, dec_f, wrap_i64, wrap_u32, wrap_u64, wrap_u8, c3, r3]
    refine h3.lit (n := 1) (cells := [encU o.m]) fact_rowTy_32 rfl (by decide) (by decide) fun v1 w4 h4 => ?_
    have c4 := h4.cl X
    have r4 := h4.rowAtH X 3 14 (by simp [opC, fdC])
    simp only [opC, fdC, List.cons_append, List.nil_append, List.drop_succ_cons, List.drop_zero, List.take_succ_cons, List.take_zero] at c4 r4
    simp -dsimp -implicitDefEqProofs (disch := omega) only [go_sem, reqD_of, dec_t, dec_f, wrap_i64, wrap_u32, wrap_u64, wrap_u8, c4, r4]
    exact ⟨_, show St w0 (RowO 35 1 v1 1 [encU o.m] * (TabP B most (walkS o.n o.m o.nd most l) * F)) _ from h4.sub, rfl⟩
  · refine h2.lit (n := 1) (cells := [encU o.m]) fact_rowTy_32 rfl (by decide) (by decide) fun v1 w3 h3 => ?_
    have h3 : St w0 (TabP B most l * (RowO 35 1 v1 1 [encU o.m] * (Blk X (opB (v, o)) * F))) w3 := h3.sw2
    have c3 := h3.cl X
    have r3 := h3.rowAtH X 3 14 (by simp [opC, fdC])
    simp only [opC, fdC, List.cons_append, List.nil_append, List.drop_succ_cons, List.drop_zero, List.take_succ_cons, List.take_zero] at c3 r3
    simp -dsimp -implicitDefEqProofs (disch := omega) only [go_sem, reqD_of, dec_t, dec_f, wrap_i64, wrap_u32, wrap_u64, wrap_u8, c3, r3]
    refine (walk_any (a := o.n) (n := o.m) (nd := o.nd) h3).mono ?_
    rintro e w4 ⟨h4, rfl⟩
    have c4 := h4.cl X
    have r4 := h4.rowAtH X 3 14 (by simp [opC, fdC])
    simp only [opC, fdC, List.cons_append, List.nil_append, List.drop_succ_cons, List.drop_zero, List.take_succ_cons, List.take_zero] at c4 r4
    simp -dsimp -implicitDefEqProofs (disch := omega) only [go_sem, reqD_of, dec_t, dec_f, wrap_i64, wrap_u32, wrap_u64, wrap_u8, c4, r4]
    exact ⟨_, show St w0 (RowO 35 1 v1 1 [encU o.m] * (TabP B most (walkS o.n o.m o.nd most l) * F)) _ from h4.sub, rfl⟩

end
section
attribute [local go_sem] F13.t23_eq
theorem does_7 {w0 w : World} {F : HP} {B : Nat} {most : Int} {l : TL} {v : Value} {o : OpD} (h : St w0 (TabP B most l * F) w) (hx : Okf (v, o.f)) (hr : Ent F (HeardR (v, o.f))) (hl : l.length ≤ 1048576) (hk : o.kind = 7) :
    Calls Try.prog 13 #[.pointer (some ⟨B, 0, none⟩), opV (v, o)] w fun e w' => ∃ u, St w0 (MayP u [o.n] * (TabP B most (openS o.n o.nd (and3 o.mode) o.yes l) * F)) w' ∧ e = .returned (.tuple #[.int .i64 (openE o.n l), u]) := by
  refine F13.calls (by simp) ?_
  unfold F13.code
  simp -dsimp -implicitDefEqProofs (disch := omega) only [go_sem, reqD_of, dec_t, dec_f, wrap_i64, wrap_u32, wrap_u64, wrap_u8]
  refine h.new fun X w1 h1 => ?_
  have h1 : St w0 (TabP B most l * (Blk X (opB (v, o)) * F)) w1 := h1.sw2
  have c1 := h1.cl X
  simp only [opC, fdC, List.cons_append, List.nil_append, List.drop_succ_cons, List.drop_zero, List.take_succ_cons, List.take_zero] at c1
  have h2 := h1.drew
  have c2 := h2.cl X
  have r2 := h2.rowAtH X 3 14 (by simp [opC, fdC])
  simp only [opC, fdC, List.cons_append, List.nil_append, List.drop_succ_cons, List.drop_zero, List.take_succ_cons, List.take_zero] at c2 r2
  simp -dsimp -implicitDefEqProofs (disch := omega) only [go_sem, reqD_of, dec_t, dec_f, wrap_i64, wrap_u32, wrap_u64, wrap_u8, c1, hk, c2, r2]
  refine ⟨?_, ?_⟩
  · refine (open_any (n := o.n) (nd := o.nd) (md := o.mode) (rm := o.yes) h2).mono ?_
    rintro e w3 ⟨h3, rfl⟩
    have c3 := h3.cl X
    have r3 := h3.rowAtH X 3 14 (by simp [opC, fdC])
    simp only [opC, fdC, List.cons_append, List.nil_append, List.drop_succ_cons, List.drop_zero, List.take_succ_cons, List.take_zero] at c3 r3
    simp -dsimp -implicitDefEqProofs (disch := omega) only [go_sem, reqD_of, dec_t, dec_f, wrap_i64, wrap_u32, wrap_u64, wrap_u8, c3, r3]
    refine h3.lit (n := 1) (cells := [encU o.n]) fact_rowTy_32 rfl (by decide) (by decide) fun v1 w4 h4 => ?_
    have c4 := h4.cl X
    have r4 := h4.rowAtH X 3 14 (by simp [opC, fdC])
    simp only [opC, fdC, List.cons_append, List.nil_append, List.drop_succ_cons, List.drop_zero, List.take_succ_cons, List.take_zero] at c4 r4
    simp -dsimp -implicitDefEqProofs (disch := omega) only [go_sem, reqD_of, dec_t, dec_f, wrap_i64, wrap_u32, wrap_u64, wrap_u8, c4, r4]
    exact ⟨_, show St w0 (RowO 35 1 v1 1 [encU o.n] * (TabP B most (openS o.n o.nd (and3 o.mode) o.yes l) * F)) _ from h4.sub, rfl⟩
  · refine h2.lit (n := 1) (cells := [encU o.n]) fact_rowTy_32 rfl (by decide) (by decide) fun v1 w3 h3 => ?_
    have h3 : St w0 (TabP B most l * (RowO 35 1 v1 1 [encU o.n] * (Blk X (opB (v, o)) * F))) w3 := h3.sw2
    have c3 := h3.cl X
    have r3 := h3.rowAtH X 3 14 (by simp [opC, fdC])
    simp only [opC, fdC, List.cons_append, List.nil_append, List.drop_succ_cons, List.drop_zero, List.take_succ_cons, List.take_zero] at c3 r3
    simp -dsimp -implicitDefEqProofs (disch := omega) only [go_sem, reqD_of, dec_t, dec_f, wrap_i64, wrap_u32, wrap_u64, wrap_u8, c3, r3]
    refine (open_any (n := o.n) (nd := o.nd) (md := o.mode) (rm := o.yes) h3).mono ?_
    rintro e w4 ⟨h4, rfl⟩
    have c4 := h4.cl X
    have r4 := h4.rowAtH X 3 14 (by simp [opC, fdC])
    simp only [opC, fdC, List.cons_append, List.nil_append, List.drop_succ_cons, List.drop_zero, List.take_succ_cons, List.take_zero] at c4 r4
    simp -dsimp -implicitDefEqProofs (disch := omega) only [go_sem, reqD_of, dec_t, dec_f, wrap_i64, wrap_u32, wrap_u64, wrap_u8, c4, r4]
    exact ⟨_, show St w0 (RowO 35 1 v1 1 [encU o.n] * (TabP B most (openS o.n o.nd (and3 o.mode) o.yes l) * F)) _ from h4.sub, rfl⟩

end
section
attribute [local go_sem] F13.t23_eq
theorem does_8 {w0 w : World} {F : HP} {B : Nat} {most : Int} {l : TL} {v : Value} {o : OpD} (h : St w0 (TabP B most l * F) w) (hx : Okf (v, o.f)) (hr : Ent F (HeardR (v, o.f))) (hl : l.length ≤ 1048576) (hk : o.kind = 8) :
    Calls Try.prog 13 #[.pointer (some ⟨B, 0, none⟩), opV (v, o)] w fun e w' => ∃ u, St w0 (MayP u [o.n] * (TabP B most (toldS o.n o.nd o.last l) * F)) w' ∧ e = .returned (.tuple #[.int .i64 (toldE o.n l), u]) := by
  refine F13.calls (by simp) ?_
  unfold F13.code
  simp -dsimp -implicitDefEqProofs (disch := omega) only [go_sem, reqD_of, dec_t, dec_f, wrap_i64, wrap_u32, wrap_u64, wrap_u8]
  refine h.new fun X w1 h1 => ?_
  have h1 : St w0 (TabP B most l * (Blk X (opB (v, o)) * F)) w1 := h1.sw2
  have c1 := h1.cl X
  simp only [opC, fdC, List.cons_append, List.nil_append, List.drop_succ_cons, List.drop_zero, List.take_succ_cons, List.take_zero] at c1
  have h2 := h1.drew
  have c2 := h2.cl X
  have r2 := h2.rowAtH X 3 14 (by simp [opC, fdC])
  simp only [opC, fdC, List.cons_append, List.nil_append, List.drop_succ_cons, List.drop_zero, List.take_succ_cons, List.take_zero] at c2 r2
  simp -dsimp -implicitDefEqProofs (disch := omega) only [go_sem, reqD_of, dec_t, dec_f, wrap_i64, wrap_u32, wrap_u64, wrap_u8, c1, hk, c2, r2]
  refine ⟨?_, ?_⟩
  · refine (toldF_any (n := o.n) (last := o.nd) (told := o.last) h2).mono ?_
    rintro e w3 ⟨h3, rfl⟩
    have c3 := h3.cl X
    have r3 := h3.rowAtH X 3 14 (by simp [opC, fdC])
    simp only [opC, fdC, List.cons_append, List.nil_append, List.drop_succ_cons, List.drop_zero, List.take_succ_cons, List.take_zero] at c3 r3
    simp -dsimp -implicitDefEqProofs (disch := omega) only [go_sem, reqD_of, dec_t, dec_f, wrap_i64, wrap_u32, wrap_u64, wrap_u8, c3, r3]
    refine h3.lit (n := 1) (cells := [encU o.n]) fact_rowTy_32 rfl (by decide) (by decide) fun v1 w4 h4 => ?_
    have c4 := h4.cl X
    have r4 := h4.rowAtH X 3 14 (by simp [opC, fdC])
    simp only [opC, fdC, List.cons_append, List.nil_append, List.drop_succ_cons, List.drop_zero, List.take_succ_cons, List.take_zero] at c4 r4
    simp -dsimp -implicitDefEqProofs (disch := omega) only [go_sem, reqD_of, dec_t, dec_f, wrap_i64, wrap_u32, wrap_u64, wrap_u8, c4, r4]
    exact ⟨_, show St w0 (RowO 35 1 v1 1 [encU o.n] * (TabP B most (toldS o.n o.nd o.last l) * F)) _ from h4.sub, rfl⟩
  · refine h2.lit (n := 1) (cells := [encU o.n]) fact_rowTy_32 rfl (by decide) (by decide) fun v1 w3 h3 => ?_
    have h3 : St w0 (TabP B most l * (RowO 35 1 v1 1 [encU o.n] * (Blk X (opB (v, o)) * F))) w3 := h3.sw2
    have c3 := h3.cl X
    have r3 := h3.rowAtH X 3 14 (by simp [opC, fdC])
    simp only [opC, fdC, List.cons_append, List.nil_append, List.drop_succ_cons, List.drop_zero, List.take_succ_cons, List.take_zero] at c3 r3
    simp -dsimp -implicitDefEqProofs (disch := omega) only [go_sem, reqD_of, dec_t, dec_f, wrap_i64, wrap_u32, wrap_u64, wrap_u8, c3, r3]
    refine (toldF_any (n := o.n) (last := o.nd) (told := o.last) h3).mono ?_
    rintro e w4 ⟨h4, rfl⟩
    have c4 := h4.cl X
    have r4 := h4.rowAtH X 3 14 (by simp [opC, fdC])
    simp only [opC, fdC, List.cons_append, List.nil_append, List.drop_succ_cons, List.drop_zero, List.take_succ_cons, List.take_zero] at c4 r4
    simp -dsimp -implicitDefEqProofs (disch := omega) only [go_sem, reqD_of, dec_t, dec_f, wrap_i64, wrap_u32, wrap_u64, wrap_u8, c4, r4]
    exact ⟨_, show St w0 (RowO 35 1 v1 1 [encU o.n] * (TabP B most (toldS o.n o.nd o.last l) * F)) _ from h4.sub, rfl⟩

end
section
attribute [local go_sem] F13.t23_eq
theorem does_4 {w0 w : World} {F : HP} {B : Nat} {most : Int} {l : TL} {v : Value} {o : OpD} (h : St w0 (TabP B most l * F) w) (hx : Okf (v, o.f)) (hr : Ent F (HeardR (v, o.f))) (hl : l.length ≤ 1048576) (hk : o.kind = 4) :
    Calls Try.prog 13 #[.pointer (some ⟨B, 0, none⟩), opV (v, o)] w fun e w' => ∃ u, St w0 (MayP u [o.n] * (TabP B most (adel o.n l) * F)) w' ∧ e = .returned (.tuple #[.int .i64 (isE o.n l), u]) := by
  refine F13.calls (by simp) ?_
  unfold F13.code
  simp -dsimp -implicitDefEqProofs (disch := omega) only [go_sem, reqD_of, dec_t, dec_f, wrap_i64, wrap_u32, wrap_u64, wrap_u8]
  refine h.new fun X w1 h1 => ?_
  have h1 : St w0 (TabP B most l * (Blk X (opB (v, o)) * F)) w1 := h1.sw2
  have c1 := h1.cl X
  simp only [opC, fdC, List.cons_append, List.nil_append, List.drop_succ_cons, List.drop_zero, List.take_succ_cons, List.take_zero] at c1
  simp -dsimp -implicitDefEqProofs (disch := omega) only [go_sem, reqD_of, dec_t, dec_f, wrap_i64, wrap_u32, wrap_u64, wrap_u8, c1, hk]
  refine (take_any h1).mono ?_
  rintro e w3 ⟨⟨u, g⟩, hu, h3, rfl⟩
  simp -dsimp -implicitDefEqProofs (disch := omega) only [go_sem, reqD_of, dec_t, dec_f, wrap_i64, wrap_u32, wrap_u64, wrap_u8]
  refine h3.new fun Y w4 h4 => ?_
  simp -dsimp -implicitDefEqProofs (disch := omega) only [go_sem, reqD_of, dec_t, dec_f, wrap_i64, wrap_u32, wrap_u64, wrap_u8]
  refine h4.stoAll (b := Y) (cs := fdC u g) rfl rfl (fdC_cells hu) fun w5 h5 => ?_
  have h6 := h5.drew
  have c5 := h5.cl X
  have c6 := h6.cl X
  simp only [opC, fdC, List.cons_append, List.nil_append, List.drop_succ_cons, List.drop_zero, List.take_succ_cons, List.take_zero] at c5 c6
  simp -dsimp -implicitDefEqProofs (disch := omega) only [go_sem, reqD_of, dec_t, dec_f, wrap_i64, wrap_u32, wrap_u64, wrap_u8, c5, c6]
  refine h6.lit (n := 1) (cells := [encU o.n]) fact_rowTy_32 rfl (by decide) (by decide) fun v1 w7 h7 => ?_
  have c7 := h7.cl X
  simp only [opC, fdC, List.cons_append, List.nil_append, List.drop_succ_cons, List.drop_zero, List.take_succ_cons, List.take_zero] at c7
  simp -dsimp -implicitDefEqProofs (disch := omega) only [go_sem, reqD_of, dec_t, dec_f, wrap_i64, wrap_u32, wrap_u64, wrap_u8, c7]
  exact ⟨_, show St w0 (RowO 35 1 v1 1 [encU o.n] * (TabP B most (adel o.n l) * F)) _ from h7.sub, rfl⟩

end
section
attribute [local go_sem] F13.t23_eq
theorem does_5 {w0 w : World} {F : HP} {B : Nat} {most : Int} {l : TL} {v : Value} {o : OpD} (h : St w0 (TabP B most l * F) w) (hx : Okf (v, o.f)) (hr : Ent F (HeardR (v, o.f))) (hl : l.length ≤ 1048576) (hk : o.kind = 5) :
    Calls Try.prog 13 #[.pointer (some ⟨B, 0, none⟩), opV (v, o)] w fun e w' => ∃ u, St w0 (MayP u [] * (TabP B most (l) * F)) w' ∧ e = .returned (.tuple #[.int .i64 (roomE o.n o.m most l), u]) := by
  refine F13.calls (by simp) ?_
  unfold F13.code
  simp -dsimp -implicitDefEqProofs (disch := omega) only [go_sem, reqD_of, dec_t, dec_f, wrap_i64, wrap_u32, wrap_u64, wrap_u8]
  refine h.new fun X w1 h1 => ?_
  have h1 : St w0 (TabP B most l * (Blk X (opB (v, o)) * F)) w1 := h1.sw2
  have c1 := h1.cl X
  simp only [opC, fdC, List.cons_append, List.nil_append, List.drop_succ_cons, List.drop_zero, List.take_succ_cons, List.take_zero] at c1
  simp -dsimp -implicitDefEqProofs (disch := omega) only [go_sem, reqD_of, dec_t, dec_f, wrap_i64, wrap_u32, wrap_u64, wrap_u8, c1, hk]
  refine (room_any (a := o.n) (n := o.m) h1).mono ?_
  rintro e w3 ⟨h3, rfl⟩
  simp -dsimp -implicitDefEqProofs (disch := omega) only [go_sem, reqD_of, dec_t, dec_f, wrap_i64, wrap_u32, wrap_u64, wrap_u8]
  exact ⟨_, MayP.nil h3.sub, rfl⟩

end
section
attribute [local go_sem] F13.t23_eq
theorem does_1 {w0 w : World} {F : HP} {B : Nat} {most : Int} {l : TL} {v : Value} {o : OpD} (h : St w0 (TabP B most l * F) w) (hx : Okf (v, o.f)) (hr : Ent F (HeardR (v, o.f))) (hl : l.length ≤ 1048576) (hk : o.kind = 1) :
    Calls Try.prog 13 #[.pointer (some ⟨B, 0, none⟩), opV (v, o)] w fun e w' => ∃ u, St w0 (MayP u [] * (TabP B most (l) * F)) w' ∧ e = .returned (.tuple #[.int .i64 (isE o.n l), u]) := by
  refine F13.calls (by simp) ?_
  unfold F13.code
  simp -dsimp -implicitDefEqProofs (disch := omega) only [go_sem, reqD_of, dec_t, dec_f, wrap_i64, wrap_u32, wrap_u64, wrap_u8]
  refine h.new fun X w1 h1 => ?_
  have h1 : St w0 (TabP B most l * (Blk X (opB (v, o)) * F)) w1 := h1.sw2
  have c1 := h1.cl X
  simp only [opC, fdC, List.cons_append, List.nil_append, List.drop_succ_cons, List.drop_zero, List.take_succ_cons, List.take_zero] at c1
  simp -dsimp -implicitDefEqProofs (disch := omega) only [go_sem, reqD_of, dec_t, dec_f, wrap_i64, wrap_u32, wrap_u64, wrap_u8, c1, hk]
  cases hg : agt o.n l with
  | none =>
    refine (get_none h1 hg).mono ?_
    rintro e w3 ⟨h3, rfl⟩
    simp -dsimp -implicitDefEqProofs (disch := omega) only [go_sem, reqD_of, dec_t, dec_f, wrap_i64, wrap_u32, wrap_u64, wrap_u8]
    refine h3.new fun Y w4 h4 => ?_
    simp -dsimp -implicitDefEqProofs (disch := omega) only [go_sem, reqD_of, dec_t, dec_f, wrap_i64, wrap_u32, wrap_u64, wrap_u8]
    refine h4.stoAll (b := Y) (cs := fdC zF zFid) rfl rfl (fdC_cells rfl) fun w5 h5 => ?_
    simp -dsimp -implicitDefEqProofs (disch := omega) only [go_sem, reqD_of, dec_t, dec_f, wrap_i64, wrap_u32, wrap_u64, wrap_u8]
    exact ⟨_, MayP.nil h5.sub, by simp [isE, hg]⟩
  | some g =>
    refine (get_some h1 hg).mono ?_
    rintro e w3 ⟨u, hu, h3, rfl⟩
    simp -dsimp -implicitDefEqProofs (disch := omega) only [go_sem, reqD_of, dec_t, dec_f, wrap_i64, wrap_u32, wrap_u64, wrap_u8]
    refine h3.new fun Y w4 h4 => ?_
    simp -dsimp -implicitDefEqProofs (disch := omega) only [go_sem, reqD_of, dec_t, dec_f, wrap_i64, wrap_u32, wrap_u64, wrap_u8]
    refine h4.stoAll (b := Y) (cs := fdC u g) rfl rfl (fdC_cells hu.1) fun w5 h5 => ?_
    simp -dsimp -implicitDefEqProofs (disch := omega) only [go_sem, reqD_of, dec_t, dec_f, wrap_i64, wrap_u32, wrap_u64, wrap_u8]
    exact ⟨_, MayP.nil h5.sub, by simp [isE, hg]⟩

end
section
attribute [local go_sem] F13.t23_eq
theorem does_11 {w0 w : World} {F : HP} {B : Nat} {most : Int} {l : TL} {v : Value} {o : OpD} (h : St w0 (TabP B most l * F) w) (hx : Okf (v, o.f)) (hr : Ent F (HeardR (v, o.f))) (hl : l.length ≤ 1048576) (hk : o.kind = 11) :
    Calls Try.prog 13 #[.pointer (some ⟨B, 0, none⟩), opV (v, o)] w fun e w' => ∃ u, St w0 (MayP u [] * (TabP B most (l) * F)) w' ∧ e = .returned (.tuple #[.int .i64 (0), u]) := by
  refine F13.calls (by simp) ?_
  unfold F13.code
  simp -dsimp -implicitDefEqProofs (disch := omega) only [go_sem, reqD_of, dec_t, dec_f, wrap_i64, wrap_u32, wrap_u64, wrap_u8]
  refine h.new fun X w1 h1 => ?_
  have h1 : St w0 (TabP B most l * (Blk X (opB (v, o)) * F)) w1 := h1.sw2
  have c1 := h1.cl X
  simp only [opC, fdC, List.cons_append, List.nil_append, List.drop_succ_cons, List.drop_zero, List.take_succ_cons, List.take_zero] at c1
  simp -dsimp -implicitDefEqProofs (disch := omega) only [go_sem, reqD_of, dec_t, dec_f, wrap_i64, wrap_u32, wrap_u64, wrap_u8, c1, hk]
  refine (count_any h1).mono ?_
  rintro e w3 ⟨h3, rfl⟩
  have c3 := h3.cl X
  simp only [opC, fdC, List.cons_append, List.nil_append, List.drop_succ_cons, List.drop_zero, List.take_succ_cons, List.take_zero] at c3
  simp -dsimp -implicitDefEqProofs (disch := omega) only [go_sem, reqD_of, dec_t, dec_f, wrap_i64, wrap_u32, wrap_u64, wrap_u8, c3]
  refine (opens_any h3 (by omega)).mono ?_
  rintro e w4 ⟨h4, rfl⟩
  simp -dsimp -implicitDefEqProofs (disch := omega) only [go_sem, reqD_of, dec_t, dec_f, wrap_i64, wrap_u32, wrap_u64, wrap_u8]
  exact ⟨_, MayP.nil h4.sub, rfl⟩

end
section
attribute [local go_sem] F13.t23_eq
theorem does_no {w0 w : World} {F : HP} {B : Nat} {most : Int} {l : TL} {v : Value} {o : OpD} (h : St w0 (TabP B most l * F) w) (hx : Okf (v, o.f)) (hr : Ent F (HeardR (v, o.f))) (hl : l.length ≤ 1048576) (k2 : o.kind ≠ 2) (k3 : o.kind ≠ 3) (k4 : o.kind ≠ 4) (k6 : o.kind ≠ 6) (k7 : o.kind ≠ 7) (k8 : o.kind ≠ 8) (k5 : o.kind ≠ 5) (k1 : o.kind ≠ 1) (k11 : o.kind ≠ 11) :
    Calls Try.prog 13 #[.pointer (some ⟨B, 0, none⟩), opV (v, o)] w fun e w' => ∃ u, St w0 (MayP u [] * (TabP B most (l) * F)) w' ∧ e = .returned (.tuple #[.int .i64 (0), u]) := by
  refine F13.calls (by simp) ?_
  unfold F13.code
  simp -dsimp -implicitDefEqProofs (disch := omega) only [go_sem, reqD_of, dec_t, dec_f, wrap_i64, wrap_u32, wrap_u64, wrap_u8]
  refine h.new fun X w1 h1 => ?_
  have h1 : St w0 (TabP B most l * (Blk X (opB (v, o)) * F)) w1 := h1.sw2
  have c1 := h1.cl X
  simp only [opC, fdC, List.cons_append, List.nil_append, List.drop_succ_cons, List.drop_zero, List.take_succ_cons, List.take_zero] at c1
  simp -dsimp -implicitDefEqProofs (disch := omega) only [go_sem, reqD_of, dec_t, dec_f, wrap_i64, wrap_u32, wrap_u64, wrap_u8, c1, k2, k3, k4, k6, k7, k8, k5, k1, k11]
  exact ⟨_, MayP.nil h1.sub, rfl⟩

/-- A step. -/
theorem does_any {w0 w : World} {F : HP} {B : Nat} {most : Int} {l : TL} {v : Value} {o : OpD} (h : St w0 (TabP B most l * F) w) (hx : Okf (v, o.f)) (hr : Ent F (HeardR (v, o.f))) (hl : l.length ≤ 1048576) :
    Calls Try.prog 13 #[.pointer (some ⟨B, 0, none⟩), opV (v, o)] w fun e w' => ∃ u, St w0 (MayP u (mayL o) * (TabP B most (doesS o most l) * F)) w' ∧ e = .returned (.tuple #[.int .i64 (doesE o most l), u]) := by
  by_cases k2 : o.kind = 2
  · rw [show doesS o most l = addS o.n most l o.f by simp [doesS, k2], show doesE o most l = addE o.n most l o.f by simp [doesE, k2], show mayL o = [o.n] by simp [mayL, k2]]
    exact does_2 h hx hr hl k2
  by_cases k3 : o.kind = 3
  · rw [show doesS o most l = setS o.n l o.f by simp [doesS, k3], show doesE o most l = setE o.n l o.f by simp [doesE, k3], show mayL o = [o.n] by simp [mayL, k3]]
    exact does_3 h hx hr hl k3
  by_cases k4 : o.kind = 4
  · rw [show doesS o most l = adel o.n l by simp [doesS, k4], show doesE o most l = isE o.n l by simp [doesE, k4], show mayL o = [o.n] by simp [mayL, k4]]
    exact does_4 h hx hr hl k4
  by_cases k6 : o.kind = 6
  · rw [show doesS o most l = walkS o.n o.m o.nd most l by simp [doesS, k6], show doesE o most l = walkE o.n o.m most l by simp [doesE, k6], show mayL o = [o.m] by simp [mayL, k6]]
    exact does_6 h hx hr hl k6
  by_cases k7 : o.kind = 7
  · rw [show doesS o most l = openS o.n o.nd (and3 o.mode) o.yes l by simp [doesS, k7], show doesE o most l = openE o.n l by simp [doesE, k7], show mayL o = [o.n] by simp [mayL, k7]]
    exact does_7 h hx hr hl k7
  by_cases k8 : o.kind = 8
  · rw [show doesS o most l = toldS o.n o.nd o.last l by simp [doesS, k8], show doesE o most l = toldE o.n l by simp [doesE, k8], show mayL o = [o.n] by simp [mayL, k8]]
    exact does_8 h hx hr hl k8
  by_cases k5 : o.kind = 5
  · rw [show doesS o most l = l by simp [doesS, k5], show doesE o most l = roomE o.n o.m most l by simp [doesE, k5], show mayL o = [] by simp [mayL, k5]]
    exact does_5 h hx hr hl k5
  by_cases k1 : o.kind = 1
  · rw [show doesS o most l = l by simp [doesS, k1], show doesE o most l = isE o.n l by simp [doesE, k1], show mayL o = [] by simp [mayL, k1]]
    exact does_1 h hx hr hl k1
  by_cases k11 : o.kind = 11
  · rw [show doesS o most l = l by simp [doesS, k11], show doesE o most l = 0 by simp [doesE, k11], show mayL o = [] by simp [mayL, k11]]
    exact does_11 h hx hr hl k11
  rw [show doesS o most l = l by simp [doesS, k2, k3, k4, k6, k7, k8, k5, k1, k11], show doesE o most l = 0 by simp [doesE, k2, k3, k4, k6, k7, k8, k5, k1, k11], show mayL o = [] by simp [mayL, k2, k3, k4, k6, k7, k8, k5, k1, k11]]
  exact does_no h hx hr hl k2 k3 k4 k6 k7 k8 k5 k1 k11

end
end Go.Proofs.Ytljndiligbaljaa

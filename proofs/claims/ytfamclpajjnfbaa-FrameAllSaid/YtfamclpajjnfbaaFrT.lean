/- The frame statements' book of lists that came out: data; owns; what was held is marked. -/
import Derived.Test.YtfamclpajjnfbaaFrF
import Derived.Test.YtfamclpajjnfbaaGr
import Derived.Test.YtfamclpajjnfbaaAx
import Derived.Test.YtfamclpajjnfbaaAs
namespace Go.Proofs.Ytfamclpajjnfbaa
open Go
set_option linter.unusedSimpArgs false
set_option linter.unusedVariables false
set_option maxRecDepth 100000

/-- A star over a list. -/
def starL {α : Type} (A : α → HP) : List α → HP
  | [] => EmpH
  | x :: l => A x * starL A l
theorem Ent.embL (F : HP) : Ent F (EmpH * F) := fun h hf => ⟨h, hle.rfl' h, fun _ => none, h, fun _ => .inl rfl, (fun _ _ e => by cases e), hle.rfl' h, trivial, hf⟩
theorem starL_app {α : Type} (A : α → HP) : ∀ (l1 l2 : List α), Ent (starL A (l1 ++ l2)) (starL A l1 * starL A l2)
  | [], l2 => Ent.embL _
  | x :: l1, l2 => by
    show Ent (A x * starL A (l1 ++ l2)) (A x * starL A l1 * starL A l2)
    rw [sep_assoc]
    exact Ent.sep (Ent.rfl' _) (starL_app A l1 l2)
theorem starL_join {α : Type} (A : α → HP) : ∀ (l1 l2 : List α), Ent (starL A l1 * starL A l2) (starL A (l1 ++ l2))
  | [], l2 => Ent.right _ _
  | x :: l1, l2 => by
    show Ent (A x * starL A l1 * starL A l2) (A x * starL A (l1 ++ l2))
    rw [sep_assoc]
    exact Ent.sep (Ent.rfl' _) (starL_join A l1 l2)
theorem starL_mem {α : Type} {A : α → HP} {x : α} : ∀ {l : List α}, x ∈ l → Ent (starL A l) (A x)
  | y :: l, h => by
    rcases List.mem_cons.1 h with rfl | h
    · exact Ent.left _ _
    · exact (Ent.right _ _).trans (starL_mem h)

/-- An entry: a slice, how long, its mark. -/
abbrev EL := List (Value × Nat × UInt8)
abbrev GL := List (UInt8 × List (Value × Nat))
def grps (Gs : GL) : HP := starL (fun g : UInt8 × List (Value × Nat) => GroupP 5 (bv g.1) g.2) Gs
/-- A list that came out, its copy, its bytes. -/
abbrev OL := List (Value × Value × List UInt8)
def ownR (x : Value × Value × List UInt8) : HP := RowO 5 1 x.1 x.2.2.length (x.2.2.map bv) * RowO 5 1 x.2.1 x.2.2.length (x.2.2.map bv)
def lists (xs : OL) : HP := starL ownR xs
structure EOk (E : EL) (Gs : GL) : Prop where
  gr : ∀ x ∈ E, ∃ g ∈ Gs, g.1 = x.2.2 ∧ (x.1, x.2.1) ∈ g.2
  ce : ∀ x ∈ E, isCell x.1 = true ∧ x.2.1 ≤ 2147483648
def OOk (xs : OL) : Prop := ∀ x ∈ xs, isCell x.1 = true ∧ isCell x.2.1 = true ∧ x.2.2.length ≤ 1073741824

abbrev eV (E : EL) : List Value := E.map (·.1)
abbrev eM (E : EL) : List Value := E.map fun x => bv x.2.2
abbrev bkB (vl vm vh vt vf vw : Value) : Obj := .cells #[vl, vm, vh, vt, vf, vw] 37 (0, 0)
abbrev rowV' (v : Value) (xs : List Value) : HP := RowO 35 1 v xs.length xs
def BkQ (B : Nat) (vl vm vh vt vf vw : Value) (E : EL) (hs fs : OL) (Gs : GL) : HP :=
  Blk B (bkB vl vm vh vt vf vw) * (RowO 35 1 vl E.length (eV E) * (RowO 5 1 vm E.length (eM E) * (rowV' vh (hs.map (·.1)) * (rowV' vt (hs.map (·.2.1)) * (rowV' vf (fs.map (·.1)) * (rowV' vw (fs.map (·.2.1)) * (lists hs * (lists fs * grps Gs))))))))
structure BkX where
  vl : Value
  vm : Value
  vh : Value
  vt : Value
  vf : Value
  vw : Value
  E : EL
  hs : OL
  fs : OL
  Gs : GL
structure BkOk (n : Nat) (x : BkX) : Prop where
  e : EOk x.E x.Gs
  h : OOk x.hs
  f : OOk x.fs
  few : x.E.length + 71 * x.hs.length + 71 * x.fs.length ≤ 71 * n
/-- The book: at most n lists came out. -/
def BookP (B n : Nat) : HP := HP.ex fun x : BkX => HP.fact (BkOk n x) (BkQ B x.vl x.vm x.vh x.vt x.vf x.vw x.E x.hs x.fs x.Gs)
instance (B n : Nat) : Face (.obj B) (BookP B n) := ⟨⟩
theorem BookP.open {w0 w : World} {B n : Nat} {F : HP} (h : St w0 (BookP B n * F) w) : ∃ x : BkX, BkOk n x ∧ St w0 (Blk B (bkB x.vl x.vm x.vh x.vt x.vf x.vw) * (RowO 35 1 x.vl x.E.length (eV x.E) * (RowO 5 1 x.vm x.E.length (eM x.E) * (rowV' x.vh (x.hs.map (·.1)) * (rowV' x.vt (x.hs.map (·.2.1)) * (rowV' x.vf (x.fs.map (·.1)) * (rowV' x.vw (x.fs.map (·.2.1)) * (lists x.hs * (lists x.fs * (grps x.Gs * F)))))))))) w := by
  obtain ⟨x, h⟩ := h.exF
  obtain ⟨e, h⟩ := h.factF
  exact ⟨x, e, h.ac (by unfold BkQ; ac_rfl)⟩
theorem BookP.col {w0 w : World} {A R1 R2 R3 R4 R5 R6 R7 R8 R9 R10 : HP} {B n : Nat} (vl vm vh vt vf vw : Value) (E : EL) (hs fs : OL) (Gs : GL) (h : St w0 A w) (ok : BkOk n ⟨vl, vm, vh, vt, vf, vw, E, hs, fs, Gs⟩)
    [i1 : Pull A (Blk B (bkB vl vm vh vt vf vw)) R1] [i2 : Pull R1 (RowO 35 1 vl E.length (eV E)) R2] [i3 : Pull R2 (RowO 5 1 vm E.length (eM E)) R3] [i4 : Pull R3 (rowV' vh (hs.map (·.1))) R4] [i5 : Pull R4 (rowV' vt (hs.map (·.2.1))) R5]
    [i6 : Pull R5 (rowV' vf (fs.map (·.1))) R6] [i7 : Pull R6 (rowV' vw (fs.map (·.2.1))) R7] [i8 : Pull R7 (lists hs) R8] [i9 : Pull R8 (lists fs) R9] [i10 : Pull R9 (grps Gs) R10] : St w0 (BookP B n * R10) w := by
  have h1 : St w0 (BkQ B vl vm vh vt vf vw E hs fs Gs * R10) w := h.ac (by rw [i1.eq, i2.eq, i3.eq, i4.eq, i5.eq, i6.eq, i7.eq, i8.eq, i9.eq, i10.eq]; unfold BkQ; ac_rfl)
  exact h1.ent (Ent.sep ((Ent.fact ok _).trans (Ent.ex (fun x : BkX => HP.fact (BkOk n x) (BkQ B x.vl x.vm x.vh x.vt x.vf x.vw x.E x.hs x.fs x.Gs)) ⟨vl, vm, vh, vt, vf, vw, E, hs, fs, Gs⟩)) (Ent.rfl' R10))

theorem lists_snoc {w0 w : World} {A R1 R2 R3 : HP} (xs : OL) (v v2 : Value) (bs : List UInt8) (h : St w0 A w) [i1 : Pull A (lists xs) R1] [i2 : Pull R1 (RowO 5 1 v bs.length (bs.map bv)) R2] [i3 : Pull R2 (RowO 5 1 v2 bs.length (bs.map bv)) R3] : St w0 (lists (xs ++ [(v, v2, bs)]) * R3) w := by
  have h1 : St w0 (lists xs * ownR (v, v2, bs) * R3) w := h.ac (by rw [i1.eq, i2.eq, i3.eq]; simp only [ownR]; ac_rfl)
  refine h1.ent (Ent.sep ((Ent.sep (Ent.rfl' _) ?_).trans (starL_join ownR xs [(v, v2, bs)])) (Ent.rfl' _))
  show Ent _ (ownR (v, v2, bs) * EmpH)
  rw [sep_comm]
  exact Ent.embL _

theorem bytes_cells (l : List UInt8) : ∀ x ∈ l.map bv, isCell x = true := by
  intro x hx
  obtain ⟨b, _, rfl⟩ := List.mem_map.1 hx
  rfl


theorem owns_any {w0 w : World} {F : HP} {B n : Nat} {v : Value} {bs : List UInt8} (hn : n < 100000000) (hl : bs.length ≤ 1073741824) (h : St w0 (BookP B n * (RowO 5 1 v bs.length (bs.map bv) * F)) w) :
    Calls Try.prog 46 #[.pointer (some ⟨B, 0, none⟩), v] w fun e w' => St w0 (BookP B (n + 1) * F) w' ∧ e = .returned (.tuple #[]) := by
  obtain ⟨x, ok, h1⟩ := BookP.open h
  obtain ⟨vl, vm, vh, vt, vf, vw, E, hs, fs, Gs⟩ := x
  obtain ⟨a, c, rfl, _⟩ := h1.rowForm v
  have hfew := ok.few
  simp only at hfew h1
  refine F46.calls (by simp) ?_
  unfold F46.code
  simp -dsimp -implicitDefEqProofs (disch := omega) only [go_sem, reqD_of, dec_t, dec_f, wrap_i64, wrap_u32, wrap_u64, wrap_u8]
  have h2 := h1.nilR 5 1
  refine h2.app (v := .slice none 0 0) (m := bs.length) (news := bs.map bv) fact_rowTy_35 (Gives.ent) Try.underlying35 (bytes_cells bs) (fun h => by simpa using h) (by simp only [maxLen]; omega) (by omega) fun v2 w3 h3 => ?_
  obtain ⟨a2, c2, rfl, _⟩ := h3.rowForm v2
  have cB := h3.cl B
  simp -dsimp -implicitDefEqProofs (disch := omega) only [go_sem, reqD_of, dec_t, dec_f, wrap_i64, wrap_u32, wrap_u64, wrap_u8, cB]
  refine h3.lit (n := 1) (cells := [.slice a bs.length c]) fact_rowTy_34 rfl (by decide) (by decide) fun v4 w4 h4 => ?_
  simp -dsimp -implicitDefEqProofs (disch := omega) only [go_sem, reqD_of, dec_t, dec_f, wrap_i64, wrap_u32, wrap_u64, wrap_u8]
  refine h4.app (v := vf) fact_rowTy_34 ((Ent.left _ _).trans (RowO.reads _ _ _ _ _)) Try.underlying34 (by intro u hu; simp only [List.mem_singleton] at hu; subst hu; rfl) (fun h => by simp at h) (by simp only [maxLen, List.length_map]; omega) (by simp only [List.length_map]; omega) fun v5 w5 h5 => ?_
  obtain ⟨a5, c5, rfl, _⟩ := h5.rowForm v5
  simp -dsimp -implicitDefEqProofs (disch := omega) only [go_sem, reqD_of, dec_t, dec_f, wrap_i64, wrap_u32, wrap_u64, wrap_u8]
  refine h5.sto (b := B) (off := 4) (by simp) rfl fun w6 h6 => ?_
  have cB := h6.cl B
  simp only [List.setIfInBounds_toArray, List.set_cons_succ, List.set_cons_zero] at cB
  simp -dsimp -implicitDefEqProofs (disch := omega) only [go_sem, reqD_of, dec_t, dec_f, wrap_i64, wrap_u32, wrap_u64, wrap_u8, cB]
  refine h6.lit (n := 1) (cells := [.slice a2 (0 + bs.length) c2]) fact_rowTy_34 (by simp only [Nat.zero_add]; rfl) (by decide) (by decide) fun v7 w7 h7 => ?_
  simp -dsimp -implicitDefEqProofs (disch := omega) only [go_sem, reqD_of, dec_t, dec_f, wrap_i64, wrap_u32, wrap_u64, wrap_u8]
  refine h7.app (v := vw) fact_rowTy_34 ((Ent.left _ _).trans (RowO.reads _ _ _ _ _)) Try.underlying34 (by intro u hu; simp only [List.mem_singleton] at hu; subst hu; rfl) (fun h => by simp at h) (by simp only [maxLen, List.length_map]; omega) (by simp only [List.length_map]; omega) fun v8 w8 h8 => ?_
  obtain ⟨a8, c8, rfl, _⟩ := h8.rowForm v8
  simp -dsimp -implicitDefEqProofs (disch := omega) only [go_sem, reqD_of, dec_t, dec_f, wrap_i64, wrap_u32, wrap_u64, wrap_u8]
  refine h8.sto (b := B) (off := 5) (by simp) rfl fun w9 h9 => ?_
  simp -dsimp -implicitDefEqProofs (disch := omega) only [go_sem, reqD_of, dec_t, dec_f, wrap_i64, wrap_u32, wrap_u64, wrap_u8]
  simp only [Nat.zero_add, List.nil_append] at h9
  have h10 := lists_snoc fs (.slice a bs.length c) (.slice a2 bs.length c2) bs h9
  have e1 : RowO 35 1 (.slice a5 ((List.map (fun x => x.fst) fs).length + 1) c5) ((List.map (fun x => x.fst) fs).length + 1) (List.map (fun x => x.fst) fs ++ [Value.slice a bs.length c]) = rowV' (.slice a5 ((List.map (fun x => x.fst) fs).length + 1) c5) ((fs ++ [((.slice a bs.length c : Value), (.slice a2 bs.length c2 : Value), bs)]).map (·.1)) := by simp [rowV']
  have e2 : RowO 35 1 (.slice a8 ((List.map (fun x => x.snd.fst) fs).length + 1) c8) ((List.map (fun x => x.snd.fst) fs).length + 1) (List.map (fun x => x.snd.fst) fs ++ [Value.slice a2 bs.length c2]) = rowV' (.slice a8 ((List.map (fun x => x.snd.fst) fs).length + 1) c8) ((fs ++ [((.slice a bs.length c : Value), (.slice a2 bs.length c2 : Value), bs)]).map (·.2.1)) := by simp [rowV']
  rw [e1, e2] at h10
  simp only [List.setIfInBounds_toArray, List.set_cons_succ, List.set_cons_zero] at h10
  have h11 := BookP.col (B := B) (n := n + 1) vl vm vh vt (.slice a5 ((List.map (fun x => x.fst) fs).length + 1) c5) (.slice a8 ((List.map (fun x => x.snd.fst) fs).length + 1) c8) E hs (fs ++ [((.slice a bs.length c : Value), (.slice a2 bs.length c2 : Value), bs)]) Gs h10 ⟨ok.e, ok.h, fun y hy => by
    rcases List.mem_append.1 hy with hy | hy
    · exact ok.f y hy
    · simp only [List.mem_singleton] at hy
      subst hy
      exact ⟨rfl, rfl, hl⟩, by simp only [List.length_append, List.length_cons, List.length_nil]; omega⟩
  exact h11.sub

end Go.Proofs.Ytfamclpajjnfbaa

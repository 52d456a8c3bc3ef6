/- law06's book of lists that came out: data; owns. law06's book: what was held is marked, grown, and read again. law06's book: a turn as a whole. -/
import Derived.Test.YtkijkoakloacoaaGreatDoorUE
import Derived.Test.YtkijkoakloacoaaGreatDoorGr
import Derived.Test.YtkijkoakloacoaaGreatDoorAx
import Derived.Test.YtkijkoakloacoaaGreatDoorAs
import Derived.Test.YtkijkoakloacoaaGreatDoorTx
namespace Go.Proofs.YtkijkoakloacoaaGreatDoor
open Go
set_option linter.unusedSimpArgs false
set_option linter.unusedVariables false
set_option maxRecDepth 100000

/-- A star over a list. -/
def starL {α : Type} (A : α → HP) : List α → HP
  | [] => EmpH
  | x :: l => A x * starL A l
theorem Ent.embL (F : HP) : Ent F (EmpH * F) := fun h hf => ⟨h, hle.rfl' h, fun _ => none, h, fun _ => .inl rfl, (fun _ _ e => by cases e), hle.rfl' h, trivial, hf⟩
theorem starL_app {α : Type} (A : α → HP) : ∀ (l1 l2 : List α), Ent (starL A (l1 ++ l2)) (starL A l1 * starL A l2)
  | [], l2 => Ent.embL _
  | x :: l1, l2 => by
    show Ent (A x * starL A (l1 ++ l2)) (A x * starL A l1 * starL A l2)
    rw [sep_assoc]
    exact Ent.sep (Ent.rfl' _) (starL_app A l1 l2)
theorem starL_join {α : Type} (A : α → HP) : ∀ (l1 l2 : List α), Ent (starL A l1 * starL A l2) (starL A (l1 ++ l2))
  | [], l2 => Ent.right _ _
  | x :: l1, l2 => by
    show Ent (A x * starL A l1 * starL A l2) (A x * starL A (l1 ++ l2))
    rw [sep_assoc]
    exact Ent.sep (Ent.rfl' _) (starL_join A l1 l2)
theorem starL_mem {α : Type} {A : α → HP} {x : α} : ∀ {l : List α}, x ∈ l → Ent (starL A l) (A x)
  | y :: l, h => by
    rcases List.mem_cons.1 h with rfl | h
    · exact Ent.left _ _
    · exact (Ent.right _ _).trans (starL_mem h)

/-- An entry: a slice, how long, its mark. -/
abbrev EL := List (Value × Nat × List UInt8)
abbrev GL := List (List UInt8 × List (Value × Nat))
def grps (Gs : GL) : HP := starL (fun g : List UInt8 × List (Value × Nat) => GroupP 9 (sv g.1) g.2) Gs
/-- A list that came out, its copy, its bytes. -/
abbrev OL := List (Value × Value × List (List UInt8))
def ownR (x : Value × Value × List (List UInt8)) : HP := RowO 9 1 x.1 x.2.2.length (x.2.2.map sv) * RowO 9 1 x.2.1 x.2.2.length (x.2.2.map sv)
def lists (xs : OL) : HP := starL ownR xs
structure EOk (E : EL) (Gs : GL) : Prop where
  gr : ∀ x ∈ E, ∃ g ∈ Gs, g.1 = x.2.2 ∧ (x.1, x.2.1) ∈ g.2
  ce : ∀ x ∈ E, isCell x.1 = true ∧ x.2.1 ≤ 33554432
def OOk (xs : OL) : Prop := ∀ x ∈ xs, isCell x.1 = true ∧ isCell x.2.1 = true ∧ x.2.2.length ≤ 16777216

abbrev eV (E : EL) : List Value := E.map (·.1)
abbrev eM (E : EL) : List Value := E.map fun x => sv x.2.2
abbrev bkB (vl vm vh vt vf vw : Value) : Obj := .cells #[vl, vm, vh, vt, vf, vw] 35 (0, 0)
abbrev rowV' (v : Value) (xs : List Value) : HP := RowO 22 1 v xs.length xs
def BkQ (B : Nat) (vl vm vh vt vf vw : Value) (E : EL) (hs fs : OL) (Gs : GL) : HP :=
  Blk B (bkB vl vm vh vt vf vw) * (RowO 22 1 vl E.length (eV E) * (RowO 9 1 vm E.length (eM E) * (rowV' vh (hs.map (·.1)) * (rowV' vt (hs.map (·.2.1)) * (rowV' vf (fs.map (·.1)) * (rowV' vw (fs.map (·.2.1)) * (lists hs * (lists fs * grps Gs))))))))
structure BkX where
  vl : Value
  vm : Value
  vh : Value
  vt : Value
  vf : Value
  vw : Value
  E : EL
  hs : OL
  fs : OL
  Gs : GL
structure BkOk (n : Nat) (x : BkX) : Prop where
  e : EOk x.E x.Gs
  h : OOk x.hs
  f : OOk x.fs
  few : x.E.length + 41 * x.hs.length + 41 * x.fs.length ≤ 41 * n
/-- The book: at most n lists came out. -/
def BookP (B n : Nat) : HP := HP.ex fun x : BkX => HP.fact (BkOk n x) (BkQ B x.vl x.vm x.vh x.vt x.vf x.vw x.E x.hs x.fs x.Gs)
instance (B n : Nat) : Face (.obj B) (BookP B n) := ⟨⟩
theorem BookP.open {w0 w : World} {B n : Nat} {F : HP} (h : St w0 (BookP B n * F) w) : ∃ x : BkX, BkOk n x ∧ St w0 (Blk B (bkB x.vl x.vm x.vh x.vt x.vf x.vw) * (RowO 22 1 x.vl x.E.length (eV x.E) * (RowO 9 1 x.vm x.E.length (eM x.E) * (rowV' x.vh (x.hs.map (·.1)) * (rowV' x.vt (x.hs.map (·.2.1)) * (rowV' x.vf (x.fs.map (·.1)) * (rowV' x.vw (x.fs.map (·.2.1)) * (lists x.hs * (lists x.fs * (grps x.Gs * F)))))))))) w := by
  obtain ⟨x, h⟩ := h.exF
  obtain ⟨e, h⟩ := h.factF
  exact ⟨x, e, h.ac (by unfold BkQ; ac_rfl)⟩
theorem BookP.col {w0 w : World} {A R1 R2 R3 R4 R5 R6 R7 R8 R9 R10 : HP} {B n : Nat} (vl vm vh vt vf vw : Value) (E : EL) (hs fs : OL) (Gs : GL) (h : St w0 A w) (ok : BkOk n ⟨vl, vm, vh, vt, vf, vw, E, hs, fs, Gs⟩)
    [i1 : Pull A (Blk B (bkB vl vm vh vt vf vw)) R1] [i2 : Pull R1 (RowO 22 1 vl E.length (eV E)) R2] [i3 : Pull R2 (RowO 9 1 vm E.length (eM E)) R3] [i4 : Pull R3 (rowV' vh (hs.map (·.1))) R4] [i5 : Pull R4 (rowV' vt (hs.map (·.2.1))) R5]
    [i6 : Pull R5 (rowV' vf (fs.map (·.1))) R6] [i7 : Pull R6 (rowV' vw (fs.map (·.2.1))) R7] [i8 : Pull R7 (lists hs) R8] [i9 : Pull R8 (lists fs) R9] [i10 : Pull R9 (grps Gs) R10] : St w0 (BookP B n * R10) w := by
  have h1 : St w0 (BkQ B vl vm vh vt vf vw E hs fs Gs * R10) w := h.ac (by rw [i1.eq, i2.eq, i3.eq, i4.eq, i5.eq, i6.eq, i7.eq, i8.eq, i9.eq, i10.eq]; unfold BkQ; ac_rfl)
  exact h1.ent (Ent.sep ((Ent.fact ok _).trans (Ent.ex (fun x : BkX => HP.fact (BkOk n x) (BkQ B x.vl x.vm x.vh x.vt x.vf x.vw x.E x.hs x.fs x.Gs)) ⟨vl, vm, vh, vt, vf, vw, E, hs, fs, Gs⟩)) (Ent.rfl' R10))

theorem lists_snoc {w0 w : World} {A R1 R2 R3 : HP} (xs : OL) (v v2 : Value) (bs : List (List UInt8)) (h : St w0 A w) [i1 : Pull A (lists xs) R1] [i2 : Pull R1 (RowO 9 1 v bs.length (bs.map sv)) R2] [i3 : Pull R2 (RowO 9 1 v2 bs.length (bs.map sv)) R3] : St w0 (lists (xs ++ [(v, v2, bs)]) * R3) w := by
  have h1 : St w0 (lists xs * ownR (v, v2, bs) * R3) w := h.ac (by rw [i1.eq, i2.eq, i3.eq]; simp only [ownR]; ac_rfl)
  refine h1.ent (Ent.sep ((Ent.sep (Ent.rfl' _) ?_).trans (starL_join ownR xs [(v, v2, bs)])) (Ent.rfl' _))
  show Ent _ (ownR (v, v2, bs) * EmpH)
  rw [sep_comm]
  exact Ent.embL _

theorem texts_cells (l : List (List UInt8)) : ∀ x ∈ l.map sv, isCell x = true := by
  intro x hx
  obtain ⟨b, _, rfl⟩ := List.mem_map.1 hx
  rfl


theorem owns_any {w0 w : World} {F : HP} {B n : Nat} {v : Value} {bs : List (List UInt8)} (hn : n < 100000000) (hl : bs.length ≤ 16777216) (h : St w0 (BookP B n * (RowO 9 1 v bs.length (bs.map sv) * F)) w) :
    Calls Tryz.prog 68 #[.pointer (some ⟨B, 0, none⟩), v] w fun e w' => St w0 (BookP B (n + 1) * F) w' ∧ e = .returned (.tuple #[]) := by
  obtain ⟨x, ok, h1⟩ := BookP.open h
  obtain ⟨vl, vm, vh, vt, vf, vw, E, hs, fs, Gs⟩ := x
  obtain ⟨a, c, rfl, _⟩ := h1.rowForm v
  have hfew := ok.few
  simp only at hfew h1
  refine F68.calls (by simp) ?_
  unfold F68.code
  simp -dsimp -implicitDefEqProofs (disch := omega) only [go_sem, reqD_of, dec_t, dec_f, wrap_i64, wrap_u32, wrap_u64, wrap_u8]
  have h2 := h1.nilR 9 1
  refine h2.app (v := .slice none 0 0) (m := bs.length) (news := bs.map sv) fact_rowTy_22 (Gives.ent) Tryz.underlying22 (texts_cells bs) (fun h => by simpa using h) (by simp only [Go.maxLen]; omega) (by omega) fun v2 w3 h3 => ?_
  obtain ⟨a2, c2, rfl, _⟩ := h3.rowForm v2
  have cB := h3.cl B
  simp -dsimp -implicitDefEqProofs (disch := omega) only [go_sem, reqD_of, dec_t, dec_f, wrap_i64, wrap_u32, wrap_u64, wrap_u8, cB]
  refine h3.lit (n := 1) (cells := [.slice a bs.length c]) fact_rowTy_33 rfl (by decide) (by decide) fun v4 w4 h4 => ?_
  simp -dsimp -implicitDefEqProofs (disch := omega) only [go_sem, reqD_of, dec_t, dec_f, wrap_i64, wrap_u32, wrap_u64, wrap_u8]
  refine h4.app (v := vf) fact_rowTy_33 ((Ent.left _ _).trans (RowO.reads _ _ _ _ _)) Tryz.underlying33 (by intro u hu; simp only [List.mem_singleton] at hu; subst hu; rfl) (fun h => by simp at h) (by simp only [Go.maxLen, List.length_map]; omega) (by simp only [List.length_map]; omega) fun v5 w5 h5 => ?_
  obtain ⟨a5, c5, rfl, _⟩ := h5.rowForm v5
  simp -dsimp -implicitDefEqProofs (disch := omega) only [go_sem, reqD_of, dec_t, dec_f, wrap_i64, wrap_u32, wrap_u64, wrap_u8]
  refine h5.sto (b := B) (off := 4) (by simp) rfl fun w6 h6 => ?_
  have cB := h6.cl B
  simp only [List.setIfInBounds_toArray, List.set_cons_succ, List.set_cons_zero] at cB
  simp -dsimp -implicitDefEqProofs (disch := omega) only [go_sem, reqD_of, dec_t, dec_f, wrap_i64, wrap_u32, wrap_u64, wrap_u8, cB]
  refine h6.lit (n := 1) (cells := [.slice a2 (0 + bs.length) c2]) fact_rowTy_33 (by simp only [Nat.zero_add]; rfl) (by decide) (by decide) fun v7 w7 h7 => ?_
  simp -dsimp -implicitDefEqProofs (disch := omega) only [go_sem, reqD_of, dec_t, dec_f, wrap_i64, wrap_u32, wrap_u64, wrap_u8]
  refine h7.app (v := vw) fact_rowTy_33 ((Ent.left _ _).trans (RowO.reads _ _ _ _ _)) Tryz.underlying33 (by intro u hu; simp only [List.mem_singleton] at hu; subst hu; rfl) (fun h => by simp at h) (by simp only [Go.maxLen, List.length_map]; omega) (by simp only [List.length_map]; omega) fun v8 w8 h8 => ?_
  obtain ⟨a8, c8, rfl, _⟩ := h8.rowForm v8
  simp -dsimp -implicitDefEqProofs (disch := omega) only [go_sem, reqD_of, dec_t, dec_f, wrap_i64, wrap_u32, wrap_u64, wrap_u8]
  refine h8.sto (b := B) (off := 5) (by simp) rfl fun w9 h9 => ?_
  simp -dsimp -implicitDefEqProofs (disch := omega) only [go_sem, reqD_of, dec_t, dec_f, wrap_i64, wrap_u32, wrap_u64, wrap_u8]
  simp only [Nat.zero_add, List.nil_append] at h9
  have h10 := lists_snoc fs (.slice a bs.length c) (.slice a2 bs.length c2) bs h9
  have e1 : RowO 22 1 (.slice a5 ((List.map (fun x => x.fst) fs).length + 1) c5) ((List.map (fun x => x.fst) fs).length + 1) (List.map (fun x => x.fst) fs ++ [Value.slice a bs.length c]) = rowV' (.slice a5 ((List.map (fun x => x.fst) fs).length + 1) c5) ((fs ++ [((.slice a bs.length c : Value), (.slice a2 bs.length c2 : Value), bs)]).map (·.1)) := by simp [rowV']
  have e2 : RowO 22 1 (.slice a8 ((List.map (fun x => x.snd.fst) fs).length + 1) c8) ((List.map (fun x => x.snd.fst) fs).length + 1) (List.map (fun x => x.snd.fst) fs ++ [Value.slice a2 bs.length c2]) = rowV' (.slice a8 ((List.map (fun x => x.snd.fst) fs).length + 1) c8) ((fs ++ [((.slice a bs.length c : Value), (.slice a2 bs.length c2 : Value), bs)]).map (·.2.1)) := by simp [rowV']
  rw [e1, e2] at h10
  simp only [List.setIfInBounds_toArray, List.set_cons_succ, List.set_cons_zero] at h10
  have h11 := BookP.col (B := B) (n := n + 1) vl vm vh vt (.slice a5 ((List.map (fun x => x.fst) fs).length + 1) c5) (.slice a8 ((List.map (fun x => x.snd.fst) fs).length + 1) c8) E hs (fs ++ [((.slice a bs.length c : Value), (.slice a2 bs.length c2 : Value), bs)]) Gs h10 ⟨ok.e, ok.h, fun y hy => by
    rcases List.mem_append.1 hy with hy | hy
    · exact ok.f y hy
    · simp only [List.mem_singleton] at hy
      subst hy
      exact ⟨rfl, rfl, hl⟩, by simp only [List.length_append, List.length_cons, List.length_nil]; omega⟩
  exact h11.sub

end Go.Proofs.YtkijkoakloacoaaGreatDoor

namespace Go.Proofs.YtkijkoakloacoaaGreatDoor
open Go
set_option linter.unusedSimpArgs false
set_option linter.unusedVariables false
set_option maxRecDepth 100000

theorem St.cell1 {w0 w : World} {v : Value} {n : Nat} {xs : List Value} (h : St w0 (Reads 1 v n xs) w) : n = xs.length ∧ ∃ a c, v = .slice a n c ∧ n ≤ c ∧ ∀ i (hi : i < xs.length), ∃ b o, a = some ⟨b, o, none⟩ ∧ w.cell? ⟨b, o + i, none⟩ = some xs[i] := by
  have hl := h.rd.length
  obtain ⟨a, c, hv, hnc, hr⟩ := h.rd.form
  refine ⟨by omega, a, c, hv, hnc, fun i hi => ?_⟩
  rcases hr with rfl | ⟨b, o, rfl, hr⟩
  · simp at hi
  · exact ⟨b, o, rfl, by rw [hr i hi]; simp [hi]⟩

theorem St.at1 {w0 w : World} {A : HP} {a : Option Addr} {n c : Nat} {xs : List Value} (h : St w0 A w) [i : Gives A (Reads 1 (.slice a n c) n xs)] {k : Nat} (hk : k < xs.length) : ∃ b o, a = some ⟨b, o, none⟩ ∧ w.cell? ⟨b, o + k, none⟩ = some xs[k] := by
  obtain ⟨_, a', c', hv, _, hr⟩ := (h.ent i.ent).cell1
  simp only [Value.slice.injEq, true_and] at hv
  obtain ⟨rfl, rfl⟩ := hv
  exact hr k hk

theorem starL_mid {α : Type} (A : α → HP) (x : α) : ∀ (l1 l2 : List α), starL A (l1 ++ x :: l2) = A x * starL A (l1 ++ l2)
  | [], l2 => rfl
  | y :: l1, l2 => by
    show A y * starL A (l1 ++ x :: l2) = A x * (A y * starL A (l1 ++ l2))
    rw [starL_mid A x l1 l2]
    ac_rfl

def GLe (Gs Gs' : GL) : Prop := ∀ y ∈ Gs, ∃ y' ∈ Gs', y'.1 = y.1 ∧ ∀ p ∈ y.2, p ∈ y'.2
theorem GLe.rfl' (Gs : GL) : GLe Gs Gs := fun y hy => ⟨y, hy, rfl, fun _ h => h⟩
theorem EOk.mono {E : EL} {Gs Gs' : GL} (ok : EOk E Gs) (l : GLe Gs Gs') : EOk E Gs' :=
  ⟨fun x hx => by
    obtain ⟨g, hg, h1, h2⟩ := ok.gr x hx
    obtain ⟨g', hg', h3, h4⟩ := l g hg
    exact ⟨g', hg', h3.trans h1, h4 _ h2⟩, ok.ce⟩
theorem EOk.snoc {E : EL} {Gs : GL} {v : Value} {n : Nat} {m : List UInt8} (ok : EOk E Gs) (hg : ∃ y ∈ Gs, y.1 = m ∧ (v, n) ∈ y.2) (hc : isCell v = true) (hn : n ≤ 33554432) : EOk (E ++ [(v, n, m)]) Gs :=
  ⟨fun x hx => by
    rcases List.mem_append.1 hx with hx | hx
    · exact ok.gr x hx
    · simp only [List.mem_singleton] at hx
      subst hx
      exact hg, fun x hx => by
    rcases List.mem_append.1 hx with hx | hx
    · exact ok.ce x hx
    · simp only [List.mem_singleton] at hx
      subst hx
      exact ⟨hc, hn⟩⟩

theorem grp_reads {w0 w : World} {A R : HP} {Gs : GL} {g : List UInt8 × List (Value × Nat)} {v : Value} {n : Nat} (hg : g ∈ Gs) (hp : (v, n) ∈ g.2) (h : St w0 A w) [i : Pull A (grps Gs) R] : St w0 (Reads 1 v n (List.replicate n (sv g.1))) w := by
  have h1 : St w0 (grps Gs * R) w := h.ac i.eq
  exact h1.ent ((Ent.left _ _).trans ((starL_mem (A := fun g : List UInt8 × List (Value × Nat) => GroupP 9 (sv g.1) g.2) hg).trans (GroupP.reads hp)))

theorem St.appMarkG {w0 w : World} {A R : HP} {Gs : GL} {g : List UInt8 × List (Value × Nat)} {t tx ty e' bs : Nat} {zs : List Value} {v x : Value} {n : Nat} {K : Value → World → Prop} {θ : Tag K}
    (h : St w0 A w) [i : Pull A (grps Gs) R] (hg : g ∈ Gs) (hp : (v, n) ∈ g.2) (ht : rowTy Tryz.prog t = some (9, 1, bs, zs)) (hx : Ent A (Reads 1 x 1 [sv g.1])) (hu : Tryz.prog.underlying tx = some (.slice e')) (h63 : n + 1 ≤ Go.maxLen) (hb : (n + 1) * bs ≤ 140737488355328)
    (hK : ∀ v' w' Gs', GLe Gs Gs' → (∃ y ∈ Gs', y.1 = g.1 ∧ (v', n + 1) ∈ y.2) → (∃ a c, v' = .slice a (n + 1) c) → St w0 (grps Gs' * R) w' → K v' w') : semD Tryz.prog (kAppend #[t, tx] ty #[v, x]) w K θ := by
  have hs : Src Tryz.prog 1 tx x 1 [sv g.1] w := ((h.ent hx).rd).src hu (by intro u hu; simp only [List.mem_singleton] at hu; subst hu; rfl) (fun h => by cases h)
  obtain ⟨G1, G2, rfl⟩ := List.append_of_mem hg
  have h1 : St w0 (GroupP 9 (sv g.1) g.2 * (grps (G1 ++ G2) * R)) w := h.ac (by rw [i.eq]; unfold grps; rw [starL_mid]; ac_rfl)
  refine h1.appMark hp ht hs h63 hb fun v' w' h2 => ?_
  have hin : (v', n + 1) ∈ (v', n + 1) :: g.2 := List.mem_cons_self
  refine hK v' w' (G1 ++ (g.1, (v', n + 1) :: g.2) :: G2) ?_ ⟨(g.1, (v', n + 1) :: g.2), by simp, rfl, hin⟩ ?_ ?_
  · intro y hy
    rcases List.mem_append.1 hy with hy | hy
    · exact ⟨y, by simp [hy], rfl, fun _ h => h⟩
    · rcases List.mem_cons.1 hy with rfl | hy
      · exact ⟨(y.1, (v', n + 1) :: y.2), by simp, rfl, fun p hp => List.mem_cons_of_mem _ hp⟩
      · exact ⟨y, by simp [hy], rfl, fun _ h => h⟩
  · obtain ⟨_, a, c, hv, _⟩ := (h2.ent ((Ent.left _ _).trans (GroupP.reads hin))).cell1
    exact ⟨a, c, hv⟩
  · exact h2.ac (by unfold grps; rw [starL_mid]; ac_rfl)

abbrev BB (B : Nat) (vl vm vh vt vf vw : Value) (E : EL) (hV tV fV wV : List Value) (R : HP) : HP :=
  Blk B (bkB vl vm vh vt vf vw) * (RowO 22 1 vl E.length (eV E) * (RowO 9 1 vm E.length (eM E) * (rowV' vh hV * (rowV' vt tV * (rowV' vf fV * (rowV' vw wV * R))))))

section
attribute [local go_sem] F48.t5_eq F48.t6_eq F48.t15_eq F48.t16_eq F48.t17_eq F48.t10_eq F48.t11_eq F48.t26_eq F48.t27_eq F48.t22_eq F48.t23_eq F48.t40_eq F48.t41_eq F48.t37_eq F48.t38_eq F48.t43_eq F48.t19_eq F48.t8_eq
theorem turn_31 {w0 w : World} {F : HP} {B : Nat} {vl vm vh vt vf vw : Value} {E : EL} {hV tV fV wV : List Value} {Gs : GL} {R : Ending → World → Prop} {e : FA} {θ : Tag (F48.t31, fnP Tryz.prog #[.tmp 2] R, e, w)}
    (ok : EOk E Gs) (hE : E.length ≤ 10000000000) (hd : e.ds = []) (e0 : e.ρ 0 = .pointer (some ⟨B, 0, none⟩)) (e3 : e.ρ 3 = .bool true)
    (h : St w0 (BB B vl vm vh vt vf vw E hV tV fV wV (grps Gs * F)) w)
    (hQ : ∀ w', St w0 (BB B vl vm vf vw (.slice none 0 0) (.slice none 0 0) E fV wV [] [] (grps Gs * F)) w' → R (.returned (.bool true)) w') :
    cwE Tryz.prog F48.t31 (fnP Tryz.prog #[.tmp 2] R) e w θ := by
  obtain ⟨af, cf, rfl, _⟩ := h.rowForm vf
  obtain ⟨aw, cw, rfl, _⟩ := h.rowForm vw
  obtain ⟨al, cl, rfl, _⟩ := h.rowForm vl
  obtain ⟨am, cm, rfl, _⟩ := h.rowForm vm
  have cB := h.cl B
  rw [F48.t31_eq]
  simp -dsimp -implicitDefEqProofs (disch := omega) only [go_sem, reqD_of, dec_t, dec_f, wrap_i64, wrap_u32, wrap_u64, wrap_u8, hd, e0, cB]
  refine h.sto (b := B) (off := 2) (by simp) rfl fun w1 h1 => ?_
  have cB := h1.cl B
  simp only [List.setIfInBounds_toArray, List.set_cons_succ, List.set_cons_zero] at cB
  simp -dsimp -implicitDefEqProofs (disch := omega) only [go_sem, reqD_of, dec_t, dec_f, wrap_i64, wrap_u32, wrap_u64, wrap_u8, hd, e0, cB]
  refine h1.sto (b := B) (off := 3) (by simp) rfl fun w2 h2 => ?_
  simp -dsimp -implicitDefEqProofs (disch := omega) only [go_sem, reqD_of, dec_t, dec_f, wrap_i64, wrap_u32, wrap_u64, wrap_u8, hd, e0]
  refine h2.sto (b := B) (off := 4) (by simp) rfl fun w3 h3 => ?_
  simp -dsimp -implicitDefEqProofs (disch := omega) only [go_sem, reqD_of, dec_t, dec_f, wrap_i64, wrap_u32, wrap_u64, wrap_u8, hd, e0]
  refine h3.sto (b := B) (off := 5) (by simp) rfl fun w4 h4 => ?_
  simp only [List.setIfInBounds_toArray, List.set_cons_succ, List.set_cons_zero] at h4
  simp -dsimp -implicitDefEqProofs (disch := omega) only [go_sem, reqD_of, dec_t, dec_f, wrap_i64, wrap_u32, wrap_u64, wrap_u8, hd, e0]
  have hlen : (eV E).length = E.length := by simp
  have hlenM : (eM E).length = E.length := by simp
  have h5 : St w0 (BB B (.slice al E.length cl) (.slice am E.length cm) (.slice af fV.length cf) (.slice aw wV.length cw) (.slice none 0 0) (.slice none 0 0) E fV wV [] [] (grps Gs * F)) w4 := ((h4.nilR 22 1).nilR 22 1).sub
  refine loop_intro (fun e w' => St w0 (BB B (.slice al E.length cl) (.slice am E.length cm) (.slice af fV.length cf) (.slice aw wV.length cw) (.slice none 0 0) (.slice none 0 0) E fV wV [] [] (grps Gs * F)) w' ∧ e.ds = [] ∧ e.ρ 0 = .pointer (some ⟨B, 0, none⟩) ∧ e.ρ 3 = .bool true ∧ ∃ i : Nat, i ≤ E.length ∧ e.ρ 15 = .int .i64 i)
    (fun e _ => match e.ρ 15 with | .int _ n => (E.length - n).toNat | _ => 0) ?_ ?_
  · exact ⟨h5, by simp -dsimp -implicitDefEqProofs only [go_sem, hd], by simp -dsimp -implicitDefEqProofs only [go_sem, e0], by simp -dsimp -implicitDefEqProofs only [go_sem, e3], 0, by omega, rfl⟩
  · clear h5
    rintro e1 w5 ⟨h5, hd, e0, e3, i, hi, e15⟩
    have cB := h5.cl B
    by_cases hlt : (i : Int) < E.length
    · have hiE : i < E.length := by omega
      obtain ⟨bl, ol, rfl, hl⟩ := h5.at1 (a := al) (n := E.length) (c := cl) (xs := eV E) (k := i) (by omega)
      obtain ⟨bm, om, rfl, hm⟩ := h5.at1 (a := am) (n := E.length) (c := cm) (xs := eM E) (k := i) (by omega)
      simp only [eV, eM, List.getElem_map] at hl hm
      obtain ⟨g, hg, hgm, hgx⟩ := ok.gr E[i] (List.getElem_mem hiE)
      obtain ⟨hxc, hxl⟩ := ok.ce E[i] (List.getElem_mem hiE)
      rcases hx : E[i] with ⟨xv, xn, xm⟩
      rw [hx] at hl hm hgm hgx hxc hxl
      simp only at hl hm hgm hgx hxc hxl
      subst hgm
      obtain ⟨_, ax, cx, rfl, _, _⟩ := (grp_reads (g := g) (v := xv) (n := xn) hg hgx h5).cell1
      simp -dsimp -implicitDefEqProofs (disch := omega) only [go_sem, reqD_of, dec_t, dec_f, wrap_i64, wrap_u32, wrap_u64, wrap_u8, hd, e0, e15, hlt, hlen, F48.t38_eq, cB]
      refine loop_intro (fun e w' => St w0 (BB B (.slice (some ⟨bl, ol, none⟩) E.length cl) (.slice (some ⟨bm, om, none⟩) E.length cm) (.slice af fV.length cf) (.slice aw wV.length cw) (.slice none 0 0) (.slice none 0 0) E fV wV [] [] (grps Gs * F)) w' ∧ e.ds = [] ∧ e.ρ 0 = .pointer (some ⟨B, 0, none⟩) ∧ e.ρ 3 = .bool true ∧ e.ρ 15 = .int .i64 i ∧ ∃ k : Nat, k ≤ xn ∧ e.ρ 16 = .int .i64 k)
        (fun e _ => match e.ρ 16 with | .int _ n => (xn - n).toNat | _ => 0) ?_ ?_
      · exact ⟨h5, by simp -dsimp -implicitDefEqProofs only [go_sem, hd], by simp -dsimp -implicitDefEqProofs only [go_sem, e0], by simp -dsimp -implicitDefEqProofs only [go_sem, e3], by simp -dsimp -implicitDefEqProofs only [go_sem, e15], 0, by omega, rfl⟩
      · clear cB hl hm
        rintro e2 w6 ⟨h6, hd2, e0', e3', e15', k, hk, e16⟩
        have cB := h6.cl B
        have h7 := h6.drew
        have cB7 : ∀ i, w6.drew.cell? ⟨B, i, none⟩ = _ := cB
        obtain ⟨_, _, hq, hl⟩ := h6.at1 (a := some ⟨bl, ol, none⟩) (n := E.length) (c := cl) (xs := eV E) (k := i) (by omega)
        simp only [Option.some.injEq, Addr.mk.injEq] at hq
        obtain ⟨rfl, rfl, _⟩ := hq
        obtain ⟨_, _, hq, hm⟩ := h6.at1 (a := some ⟨bm, om, none⟩) (n := E.length) (c := cm) (xs := eM E) (k := i) (by omega)
        simp only [Option.some.injEq, Addr.mk.injEq] at hq
        obtain ⟨rfl, rfl, _⟩ := hq
        simp only [eV, eM, List.getElem_map, hx] at hl hm
        by_cases hkl : (k : Int) < xn
        · obtain ⟨_, ax', cx', hv, _, hcA⟩ := (grp_reads (g := g) (v := .slice ax xn cx) (n := xn) hg hgx h6).cell1
          simp only [Value.slice.injEq, true_and] at hv
          obtain ⟨rfl, rfl⟩ := hv
          obtain ⟨bx, ox, rfl, hc⟩ := hcA k (by simp only [List.length_replicate]; omega)
          simp only [List.getElem_replicate] at hc
          have hl7 : w6.drew.cell? _ = _ := hl
          have hm7 : w6.drew.cell? _ = _ := hm
          have hc7 : w6.drew.cell? _ = _ := hc
          simp -dsimp -implicitDefEqProofs (disch := omega) only [go_sem, reqD_of, dec_t, dec_f, wrap_i64, wrap_u32, wrap_u64, wrap_u8, hd2, e0', e3', e15', e15, e16, hkl, hlt, cB, cB7, hl, hm, hc, hl7, hm7, hc7, F48.t41_eq, sv]
          exact ⟨⟨h7, k + 1, by omega, by omega⟩, by omega⟩
        · have : k = xn := by omega
          subst this
          simp -dsimp -implicitDefEqProofs (disch := omega) only [go_sem, reqD_of, dec_t, dec_f, wrap_i64, wrap_u32, wrap_u64, wrap_u8, hd2, e0', e3', e15', e15, e16, hkl, hlt, cB, hl, hm]
          exact ⟨⟨h6, i + 1, by omega, by omega⟩, by omega⟩
    · have : i = E.length := by omega
      subst this
      simp -dsimp -implicitDefEqProofs (disch := omega) only [go_sem, reqD_of, dec_t, dec_f, wrap_i64, wrap_u32, wrap_u64, wrap_u8, hd, e0, e15, hlt, cB, hlen, e3]
      exact hQ _ h5

theorem EL.rows (E M : EL) (x : Value) (n : Nat) (m : List UInt8) (v : Value) (T : TypeId) : RowO T 1 v ((E ++ M).length + 1) (eV (E ++ M) ++ [x]) = RowO T 1 v (E ++ (M ++ [(x, n, m)])).length (eV (E ++ (M ++ [(x, n, m)]))) ∧ RowO T 1 v ((E ++ M).length + 1) (eM (E ++ M) ++ [sv m]) = RowO T 1 v (E ++ (M ++ [(x, n, m)])).length (eM (E ++ (M ++ [(x, n, m)]))) := by
  rw [← List.append_assoc]
  constructor <;> simp only [eV, eM, List.map_append, List.length_append, List.map_cons, List.map_nil, List.length_cons, List.length_nil, Nat.zero_add]

end
section
attribute [local go_sem] F48.t5_eq F48.t6_eq F48.t15_eq F48.t16_eq F48.t17_eq F48.t10_eq F48.t11_eq F48.t26_eq F48.t27_eq F48.t22_eq F48.t23_eq F48.t40_eq F48.t41_eq F48.t37_eq F48.t38_eq F48.t43_eq F48.t8_eq
theorem turn_19 {w0 w : World} {F : HP} {B f : Nat} {vl vm vh vt vf vw : Value} {E1 : EL} {hV tV fV wV : List Value} {Gs : GL} {R : Ending → World → Prop} {e : FA} {θ : Tag (F48.t19, fnP Tryz.prog #[.tmp 2] R, e, w)}
    (ok : EOk E1 Gs) (hf : f ≤ E1.length) (hE : E1.length + 40 * E1.length ≤ 10000000000 + 40 * f) (hN : ∀ j (hj : j < E1.length), f ≤ j → E1[j].2.1 ≤ 16777216)
    (hd : e.ds = []) (e0 : e.ρ 0 = .pointer (some ⟨B, 0, none⟩)) (e3 : e.ρ 3 = .bool true) (e4 : e.ρ 4 = .int .i64 f)
    (h : St w0 (BB B vl vm vh vt vf vw E1 hV tV fV wV (grps Gs * F)) w)
    (hQ : ∀ w' vl vm E' Gs', EOk E' Gs' → E'.length + 40 * f ≤ E1.length + 40 * E1.length → St w0 (BB B vl vm vf vw (.slice none 0 0) (.slice none 0 0) E' fV wV [] [] (grps Gs' * F)) w' → R (.returned (.bool true)) w') :
    cwE Tryz.prog F48.t19 (fnP Tryz.prog #[.tmp 2] R) e w θ := by
  obtain ⟨al, cl, rfl, _⟩ := h.rowForm vl
  have cB := h.cl B
  rw [F48.t19_eq]
  simp -dsimp -implicitDefEqProofs (disch := omega) only [go_sem, reqD_of, dec_t, dec_f, wrap_i64, wrap_u32, wrap_u64, wrap_u8, hd, e0, e4, cB]
  refine loop_intro (fun e w' => e.ds = [] ∧ e.ρ 0 = .pointer (some ⟨B, 0, none⟩) ∧ e.ρ 3 = .bool true ∧ e.ρ 11 = .int .i64 E1.length ∧ ∃ (i : Nat) (vl vm : Value) (M : EL) (Gs' : GL), f ≤ i ∧ i ≤ E1.length ∧ e.ρ 12 = .int .i64 i ∧ EOk (E1 ++ M) Gs' ∧ M.length + 40 * f ≤ 40 * i ∧ St w0 (BB B vl vm vh vt vf vw (E1 ++ M) hV tV fV wV (grps Gs' * F)) w')
    (fun e _ => match e.ρ 12 with | .int _ n => (E1.length - n).toNat | _ => 0) ?_ ?_
  · exact ⟨by simp -dsimp -implicitDefEqProofs only [go_sem, hd], by simp -dsimp -implicitDefEqProofs only [go_sem, e0], by simp -dsimp -implicitDefEqProofs only [go_sem, e3], rfl, f, _, _, [], Gs, by omega, hf, rfl, by rw [List.append_nil]; exact ok, by simp, by rw [List.append_nil]; exact h⟩
  · clear cB h
    rintro e1 w1 ⟨hd, e0, e3, e11, i, vl, vm, M, Gs', hfi, hi, e12, okM, hM, h1⟩
    have hL : (E1 ++ M).length = E1.length + M.length := by simp
    by_cases hlt : (i : Int) < E1.length
    · have hiE : i < E1.length := by omega
      have hiL : (i : Int) < ((E1 ++ M).length : Nat) := by omega
      obtain ⟨al, cl, rfl, _⟩ := h1.rowForm vl
      obtain ⟨bl, ol, rfl, hl⟩ := h1.at1 (a := al) (n := (E1 ++ M).length) (c := cl) (xs := eV (E1 ++ M)) (k := i) (by simp; omega)
      have hxi : (E1 ++ M)[i]'(by omega) = E1[i] := List.getElem_append_left hiE
      simp only [eV, List.getElem_map, hxi] at hl
      obtain ⟨g, hg, hgm, hgx⟩ := okM.gr E1[i] (by rw [← hxi]; exact List.getElem_mem _)
      obtain ⟨hxc, _⟩ := okM.ce E1[i] (by rw [← hxi]; exact List.getElem_mem _)
      have hxl := hN i hiE hfi
      rcases hx : E1[i] with ⟨xv, xn, xm⟩
      rw [hx] at hl hgm hgx hxc hxl
      simp only at hl hgm hgx hxc hxl
      have cB := h1.cl B
      simp -dsimp -implicitDefEqProofs (disch := omega) only [go_sem, reqD_of, dec_t, dec_f, wrap_i64, wrap_u32, wrap_u64, wrap_u8, hd, e0, e11, e12, hlt, F48.t23_eq, cB, hiL, hl]
      refine loop_intro (fun e w' => e.ds = [] ∧ e.ρ 0 = .pointer (some ⟨B, 0, none⟩) ∧ e.ρ 3 = .bool true ∧ e.ρ 11 = .int .i64 E1.length ∧ e.ρ 12 = .int .i64 i ∧ ∃ (k : Nat) (vl vm gv : Value) (M : EL) (Gs' : GL) (g : List UInt8 × List (Value × Nat)), k ≤ 40 ∧ e.ρ 14 = .int .i64 k ∧ e.ρ 13 = gv ∧ g ∈ Gs' ∧ g.1 = xm ∧ (gv, xn + k) ∈ g.2 ∧ EOk (E1 ++ M) Gs' ∧ M.length + 40 * f ≤ 40 * i + k ∧ St w0 (BB B vl vm vh vt vf vw (E1 ++ M) hV tV fV wV (grps Gs' * F)) w')
        (fun e _ => match e.ρ 14 with | .int _ n => (40 - n).toNat | _ => 0) ?_ ?_
      · exact ⟨by simp -dsimp -implicitDefEqProofs only [go_sem, hd], by simp -dsimp -implicitDefEqProofs only [go_sem, e0], by simp -dsimp -implicitDefEqProofs only [go_sem, e3], by simp -dsimp -implicitDefEqProofs only [go_sem, e11], by simp -dsimp -implicitDefEqProofs only [go_sem, e12], 0, _, _, _, M, Gs', g, by omega, rfl, rfl, hg, hgm, hgx, okM, by omega, h1⟩
      · clear cB hl hg hgm hgx h1 okM hM hxi hiL hL
        rintro e2 w2 ⟨hd2, e0', e3', e11', e12', k, vl, vm, gv, M, Gs', g, hk, e14, e13, hg, hgm, hgx, okM, hM, h2⟩
        have hL : (E1 ++ M).length = E1.length + M.length := by simp
        have hiL : (i : Int) < ((E1 ++ M).length : Nat) := by omega
        by_cases hk40 : (k : Int) < 40
        · obtain ⟨am, cm, rfl, _⟩ := h2.rowForm vm
          obtain ⟨bm, om, rfl, hm⟩ := h2.at1 (a := am) (n := (E1 ++ M).length) (c := cm) (xs := eM (E1 ++ M)) (k := i) (by simp; omega)
          have hxi : (E1 ++ M)[i]'(by omega) = E1[i] := List.getElem_append_left hiE
          simp only [eM, List.getElem_map, hxi, hx] at hm
          have cB := h2.cl B
          simp -dsimp -implicitDefEqProofs (disch := omega) only [go_sem, reqD_of, dec_t, dec_f, wrap_i64, wrap_u32, wrap_u64, wrap_u8, hd2, e0', e11', e12', e13, e14, hk40, F48.t27_eq, cB, hiL, hm]
          refine h2.lit (n := 1) (cells := [sv xm]) fact_rowTy_22 rfl (by decide) (by decide) fun v3 w3 h3 => ?_
          simp -dsimp -implicitDefEqProofs (disch := omega) only [go_sem, reqD_of, dec_t, dec_f, wrap_i64, wrap_u32, wrap_u64, wrap_u8, hd2, e0', e11', e12', e13, e14]
          subst hgm
          refine h3.appMarkG (g := g) (v := gv) (n := xn + k) hg hgx fact_rowTy_22 ((Ent.left _ _).trans (RowO.reads _ _ _ _ _)) Tryz.underlying22 (by simp only [Go.maxLen]; omega) (by omega) fun v4 w4 Gs4 hG hg4 hc4 h4 => ?_
          obtain ⟨a4, c4, rfl⟩ := hc4
          have okM4 := okM.mono hG
          have h4' : St w0 (BB B vl (.slice (some ⟨bm, om, none⟩) (E1 ++ M).length cm) vh vt vf vw (E1 ++ M) hV tV fV wV (grps Gs4 * F)) w4 := h4.sub
          by_cases hkc : (k : Int) = 0 ∨ (k : Int) = 3 ∨ (k : Int) = 15 ∨ (k : Int) = 39
          · obtain ⟨g4, hg4, hgm4, hgx4⟩ := hg4
            have okX := okM4.snoc (m := g.1) ⟨g4, hg4, hgm4, hgx4⟩ rfl (by omega)
            obtain ⟨al, cl, rfl, _⟩ := h4'.rowForm vl
            have fin : ∀ w9 v6 v8, St w0 (BB B v6 v8 vh vt vf vw (E1 ++ (M ++ [((.slice a4 (xn + k + 1) c4 : Value), xn + k + 1, g.1)])) hV tV fV wV (grps Gs4 * F)) w9 → ∃ (k' : Nat) (vl vm gv : Value) (M' : EL) (Gs' : GL) (g_1 : List UInt8 × List (Value × Nat)), k' ≤ 40 ∧ (k : Int) + 1 = k' ∧ (.slice a4 (xn + k + 1) c4 : Value) = gv ∧ g_1 ∈ Gs' ∧ g_1.1 = g.1 ∧ (gv, xn + k') ∈ g_1.2 ∧ EOk (E1 ++ M') Gs' ∧ M'.length + 40 * f ≤ 40 * i + k' ∧ St w0 (BB B vl vm vh vt vf vw (E1 ++ M') hV tV fV wV (grps Gs' * F)) w9 := fun w9 v6 v8 h9 =>
              ⟨k + 1, v6, v8, .slice a4 (xn + k + 1) c4, M ++ [((.slice a4 (xn + k + 1) c4 : Value), xn + k + 1, g.1)], Gs4, g4, by omega, by omega, rfl, hg4, hgm4, hgx4, by rw [← List.append_assoc]; exact okX, by simp only [List.length_append, List.length_cons, List.length_nil]; omega, h9⟩
            have cB4 := h4'.cl B
            rcases hkc with hkc | hkc | hkc | hkc
            all_goals
              simp -dsimp -implicitDefEqProofs (disch := omega) only [go_sem, reqD_of, dec_t, dec_f, wrap_i64, wrap_u32, wrap_u64, wrap_u8, hd2, e0', e11', e12', e13, e14, hkc, cB4]
              refine h4'.lit (n := 1) (cells := [.slice a4 (xn + k + 1) c4]) fact_rowTy_33 rfl (by decide) (by decide) fun v5 w5 h5 => ?_
              simp -dsimp -implicitDefEqProofs (disch := omega) only [go_sem, reqD_of, dec_t, dec_f, wrap_i64, wrap_u32, wrap_u64, wrap_u8, hd2, e0', e11', e12', e13, e14]
              refine h5.app (v := .slice al (E1 ++ M).length cl) fact_rowTy_33 ((Ent.left _ _).trans (RowO.reads _ _ _ _ _)) Tryz.underlying33 (by intro u hu; simp only [List.mem_singleton] at hu; subst hu; rfl) (fun h => by simp at h) (by simp only [Go.maxLen]; omega) (by omega) fun v6 w6 h6 => ?_
              obtain ⟨a6, c6, rfl, _⟩ := h6.rowForm v6
              simp -dsimp -implicitDefEqProofs (disch := omega) only [go_sem, reqD_of, dec_t, dec_f, wrap_i64, wrap_u32, wrap_u64, wrap_u8, hd2, e0', e11', e12', e13, e14]
              refine h6.sto (b := B) (off := 0) (by simp) rfl fun w7 h7 => ?_
              simp only [List.setIfInBounds_toArray, List.set_cons_succ, List.set_cons_zero] at h7
              have cB7 := h7.cl B
              have h7' := h7.drew
              have cB7' : ∀ i, w7.drew.cell? ⟨B, i, none⟩ = _ := cB7
              obtain ⟨_, _, hq, hm7⟩ := h7.at1 (a := some ⟨bm, om, none⟩) (n := (E1 ++ M).length) (c := cm) (xs := eM (E1 ++ M)) (k := i) (by simp; omega)
              simp only [Option.some.injEq, Addr.mk.injEq] at hq
              obtain ⟨rfl, rfl, _⟩ := hq
              simp only [eM, List.getElem_map, hxi, hx] at hm7
              have hm7' : w7.drew.cell? _ = _ := hm7
              simp -dsimp -implicitDefEqProofs (disch := omega) only [go_sem, reqD_of, dec_t, dec_f, wrap_i64, wrap_u32, wrap_u64, wrap_u8, hd2, e0', e11', e12', e13, e14, cB7, cB7', hiL, hm7, hm7']
              refine h7'.lit (n := 1) (cells := [sv g.1]) fact_rowTy_22 rfl (by decide) (by decide) fun v8 w8 h8 => ?_
              have cB8 := h8.cl B
              obtain ⟨_, _, hq, hm8⟩ := h8.at1 (a := some ⟨bm, om, none⟩) (n := (E1 ++ M).length) (c := cm) (xs := eM (E1 ++ M)) (k := i) (by simp; omega)
              simp only [Option.some.injEq, Addr.mk.injEq] at hq
              obtain ⟨rfl, rfl, _⟩ := hq
              simp only [eM, List.getElem_map, hxi, hx] at hm8
              simp -dsimp -implicitDefEqProofs (disch := omega) only [go_sem, reqD_of, dec_t, dec_f, wrap_i64, wrap_u32, wrap_u64, wrap_u8, hd2, e0', e11', e12', e13, e14, cB8, hiL, hm8]
              refine h8.app (v := .slice (some ⟨bm, om, none⟩) (E1 ++ M).length cm) fact_rowTy_22 ((Ent.left _ _).trans (RowO.reads _ _ _ _ _)) Tryz.underlying22 (by intro u hu; simp only [List.mem_singleton] at hu; subst hu; rfl) (fun h => by simp at h) (by simp only [Go.maxLen]; omega) (by omega) fun v9 w9 h9 => ?_
              obtain ⟨a9, c9, rfl, _⟩ := h9.rowForm v9
              have cB9 := h9.cl B
              simp -dsimp -implicitDefEqProofs (disch := omega) only [go_sem, reqD_of, dec_t, dec_f, wrap_i64, wrap_u32, wrap_u64, wrap_u8, hd2, e0', e11', e12', e13, e14, cB9]
              refine h9.sto (b := B) (off := 1) (by simp) rfl fun w10 h10 => ?_
              simp only [List.setIfInBounds_toArray, List.set_cons_succ, List.set_cons_zero] at h10
              simp -dsimp -implicitDefEqProofs (disch := omega) only [go_sem, reqD_of, dec_t, dec_f, wrap_i64, wrap_u32, wrap_u64, wrap_u8, hd2, e0', e3', e11', e12', e13, e14]
              rw [(EL.rows E1 M (.slice a4 (xn + k + 1) c4) (xn + k + 1) g.1 (.slice a6 ((E1 ++ M).length + 1) c6) _).1, (EL.rows E1 M (.slice a4 (xn + k + 1) c4) (xn + k + 1) g.1 (.slice a9 ((E1 ++ M).length + 1) c9) _).2] at h10
              exact ⟨fin w10 (.slice a6 ((E1 ++ M).length + 1) c6) (.slice a9 ((E1 ++ M).length + 1) c9) h10.sub, by omega⟩
          · simp only [not_or] at hkc
            obtain ⟨hk0, hk3, hk15, hk39⟩ := hkc
            obtain ⟨g4, hg4, hgm4, hgx4⟩ := hg4
            simp -dsimp -implicitDefEqProofs (disch := omega) only [go_sem, reqD_of, dec_t, dec_f, wrap_i64, wrap_u32, wrap_u64, wrap_u8, hd2, e0', e3', e11', e12', e13, e14, hk0, hk3, hk15, hk39]
            exact ⟨⟨k + 1, vl, _, .slice a4 (xn + k + 1) c4, M, Gs4, g4, by omega, by omega, rfl, hg4, hgm4, hgx4, okM4, by omega, h4'⟩, by omega⟩
        · have : k = 40 := by omega
          subst this
          simp -dsimp -implicitDefEqProofs (disch := omega) only [go_sem, reqD_of, dec_t, dec_f, wrap_i64, wrap_u32, wrap_u64, wrap_u8, hd2, e0', e11', e12', e12, e13, e14, e3']
          exact ⟨⟨i + 1, vl, vm, M, Gs', by omega, by omega, by omega, okM, by omega, h2⟩, by omega⟩
    · have : i = E1.length := by omega
      subst this
      simp -dsimp -implicitDefEqProofs (disch := omega) only [go_sem, reqD_of, dec_t, dec_f, wrap_i64, wrap_u32, wrap_u64, wrap_u8, hd, e0, e11, e12, hlt]
      refine turn_31 okM (by omega) (by simp -dsimp -implicitDefEqProofs only [go_sem, hd]) (by simp -dsimp -implicitDefEqProofs only [go_sem, e0]) (by simp -dsimp -implicitDefEqProofs only [go_sem, e3]) h1 fun w' hw => hQ _ _ _ _ _ okM (by omega) hw

end
end Go.Proofs.YtkijkoakloacoaaGreatDoor

namespace Go.Proofs.YtkijkoakloacoaaGreatDoor
open Go
set_option linter.unusedSimpArgs false
set_option linter.unusedVariables false
set_option maxRecDepth 100000

def mkOf (n : Nat) : List UInt8 := [35, UInt8.ofNat n, UInt8.ofNat (n / 256), UInt8.ofNat (n / 65536)]
theorem u8wrap (n : Nat) : IntKind.u8.wrap (n : Int) = ((UInt8.ofNat n).toNat : Int) := by
  have : IntKind.u8.bits = 8 := rfl
  have hs : IntKind.u8.signed = false := rfl
  simp only [IntKind.wrap, this, hs]
  simp only [Bool.false_and, Bool.false_eq_true, if_false]
  simp
theorem tdiv256 (n : Nat) : ((n : Int)).tdiv 256 = ((n / 256 : Nat) : Int) := (Int.ofNat_tdiv n 256).symm
theorem tdiv65536 (n : Nat) : ((n : Int)).tdiv 65536 = ((n / 65536 : Nat) : Int) := (Int.ofNat_tdiv n 65536).symm

theorem grps_cons (m : List UInt8) (l : List (Value × Nat)) (Gs : GL) : grps ((m, l) :: Gs) = GroupP 9 (sv m) l * grps Gs := rfl
theorem GLe.cons (g : List UInt8 × List (Value × Nat)) (Gs : GL) : GLe Gs (g :: Gs) := fun y hy => ⟨y, List.mem_cons_of_mem _ hy, rfl, fun _ h => h⟩

theorem lists_next {w0 w : World} {A R : HP} {hs : OL} {k : Nat} (h : St w0 A w) (hk : k < hs.length) [i : Pull A (lists (hs.drop k)) R] :
    St w0 (RowO 9 1 hs[k].1 hs[k].2.2.length (hs[k].2.2.map sv) * (lists (hs.drop (k + 1)) * R)) w := by
  have h1 : St w0 (lists (hs.drop k) * R) w := h.ac i.eq
  rw [List.drop_eq_getElem_cons hk] at h1
  have h2 : St w0 (RowO 9 1 hs[k].2.1 hs[k].2.2.length (hs[k].2.2.map sv) * (RowO 9 1 hs[k].1 hs[k].2.2.length (hs[k].2.2.map sv) * (lists (hs.drop (k + 1)) * R))) w := h1.ac (by
    show ownR hs[k] * lists (hs.drop (k + 1)) * R = _
    unfold ownR
    ac_rfl)
  exact h2.right

section
attribute [local go_sem] F48.t5_eq F48.t6_eq F48.t15_eq F48.t16_eq F48.t17_eq F48.t10_eq F48.t11_eq F48.t26_eq F48.t27_eq F48.t22_eq F48.t23_eq F48.t40_eq F48.t41_eq F48.t37_eq F48.t38_eq F48.t43_eq F48.t31_eq
theorem turn_8 {w0 w : World} {F : HP} {B : Nat} {vl vm vh vt vf vw : Value} {E : EL} {hs : OL} {tV fV wV : List Value} {Gs : GL} {R : Ending → World → Prop} {e : FA} {θ : Tag (F48.t8, fnP Tryz.prog #[.tmp 2] R, e, w)}
    (ok : EOk E Gs) (hh : OOk hs) (hE : E.length + 41 * hs.length ≤ 10000000000)
    (hd : e.ds = []) (e0 : e.ρ 0 = .pointer (some ⟨B, 0, none⟩)) (e3 : e.ρ 3 = .bool true) (e4 : e.ρ 4 = .int .i64 E.length)
    (h : St w0 (BB B vl vm vh vt vf vw E (hs.map (·.1)) tV fV wV (lists hs * (grps Gs * F))) w)
    (hQ : ∀ w' vl vm E' Gs', EOk E' Gs' → E'.length ≤ E.length + 41 * hs.length → St w0 (BB B vl vm vf vw (.slice none 0 0) (.slice none 0 0) E' fV wV [] [] (grps Gs' * F)) w' → R (.returned (.bool true)) w') :
    cwE Tryz.prog F48.t8 (fnP Tryz.prog #[.tmp 2] R) e w θ := by
  obtain ⟨ah, ch, rfl, _⟩ := h.rowForm vh
  have hhl : (List.map (fun x => x.1) hs).length = hs.length := by simp
  rw [F48.t8_eq]
  simp -dsimp -implicitDefEqProofs (disch := omega) only [go_sem, reqD_of, dec_t, dec_f, wrap_i64, wrap_u32, wrap_u64, wrap_u8, hd, e0, e4]
  refine loop_intro (fun e w' => e.ds = [] ∧ e.ρ 0 = .pointer (some ⟨B, 0, none⟩) ∧ e.ρ 3 = .bool true ∧ e.ρ 4 = .int .i64 E.length ∧ ∃ (k : Nat) (vl vm : Value) (N : EL) (Gs' : GL), k ≤ hs.length ∧ e.ρ 7 = .int .i64 k ∧ N.length = k ∧ EOk (E ++ N) Gs' ∧ (∀ x ∈ N, x.2.1 ≤ 16777216) ∧ St w0 (BB B vl vm (.slice ah (List.map (fun x => x.1) hs).length ch) vt vf vw (E ++ N) (hs.map (·.1)) tV fV wV (lists (hs.drop k) * (grps Gs' * F))) w')
    (fun e _ => match e.ρ 7 with | .int _ n => (hs.length - n).toNat | _ => 0) ?_ ?_
  · exact ⟨by simp -dsimp -implicitDefEqProofs only [go_sem, hd], by simp -dsimp -implicitDefEqProofs only [go_sem, e0], by simp -dsimp -implicitDefEqProofs only [go_sem, e3], by simp -dsimp -implicitDefEqProofs only [go_sem, e4], 0, _, _, [], Gs, by omega, rfl, rfl, by rw [List.append_nil]; exact ok, by simp, by rw [List.append_nil, List.drop_zero]; exact h⟩
  · clear h
    rintro e1 w1 ⟨hd, e0, e3, e4, k, vl, vm, N, Gs', hk, e7, hNk, okN, hN, h1⟩
    have hL : (E ++ N).length = E.length + N.length := by simp
    have cB := h1.cl B
    by_cases hlt : (k : Int) < hs.length
    · have hkh : k < hs.length := by omega
      have hkl : (k : Int) < ((List.map (fun x => x.1) hs).length : Nat) := by omega
      obtain ⟨al, cl, rfl, _⟩ := h1.rowForm vl
      obtain ⟨am, cm, rfl, _⟩ := h1.rowForm vm
      obtain ⟨bh, oh, rfl, hH⟩ := h1.at1 (a := ah) (n := (List.map (fun x => x.1) hs).length) (c := ch) (xs := hs.map (·.1)) (k := k) (by simp; omega)
      simp only [List.getElem_map] at hH
      have h2 := lists_next h1 hkh
      obtain ⟨hxc, _, hxl⟩ := hh hs[k] (List.getElem_mem hkh)
      rcases hx : hs[k] with ⟨xv, x2, bs⟩
      rw [hx] at h2 hH hxc hxl
      simp only at h2 hH hxc hxl
      obtain ⟨ax, cx, rfl, _⟩ := h2.rowForm xv
      have cB := h2.cl B
      simp -dsimp -implicitDefEqProofs (disch := omega) only [go_sem, reqD_of, dec_t, dec_f, wrap_i64, wrap_u32, wrap_u64, wrap_u8, hd, e0, e7, hkl, F48.t11_eq, cB]
      refine h2.lit (t := 112) (n := 3) (cells := [bv (UInt8.ofNat (E ++ N).length), bv (UInt8.ofNat ((E ++ N).length / 256)), bv (UInt8.ofNat ((E ++ N).length / 65536))]) fact_rowTy_112 ?_ (by decide) (by decide) fun v2b w2b h2b => ?_
      · have hLb : (E ++ N).length ≤ 10000000000 := by omega
        rw [tdiv256, tdiv65536, wrap_i64 (by omega) (by omega), wrap_i64 (by omega) (by omega), u8wrap, u8wrap, u8wrap]
        rfl
      simp -dsimp -implicitDefEqProofs (disch := omega) only [go_sem, reqD_of, dec_t, dec_f, wrap_i64, wrap_u32, wrap_u64, wrap_u8, hd]
      refine h2b.str (bs := [UInt8.ofNat (E ++ N).length, UInt8.ofNat ((E ++ N).length / 256), UInt8.ofNat ((E ++ N).length / 65536)]) ((Ent.left _ _).trans (RowO.reads _ _ _ _ _)) Tryz.underlying112 Tryz.underlying5 Tryz.underlying9 ?_
      have h2 := h2b.right
      simp -dsimp -implicitDefEqProofs (disch := omega) only [go_sem, reqD_of, dec_t, dec_f, wrap_i64, wrap_u32, wrap_u64, wrap_u8, hd, e0, e7, binV_sadd (P := Tryz.prog) (T := 9) (a := [35]) (b := [UInt8.ofNat (E ++ N).length, UInt8.ofNat ((E ++ N).length / 256), UInt8.ofNat ((E ++ N).length / 65536)]) (by simp)]
      refine loop_intro (fun e w' => e.ds = [] ∧ e.ρ 0 = .pointer (some ⟨B, 0, none⟩) ∧ e.ρ 3 = .bool true ∧ e.ρ 4 = .int .i64 E.length ∧ e.ρ 7 = .int .i64 k ∧ e.ρ 9 = sv (mkOf (E ++ N).length) ∧ ∃ (j : Nat) (ys : List Value), j ≤ bs.length ∧ e.ρ 10 = .int .i64 j ∧ ys.length = bs.length ∧ (∀ i, i < j → ys[i]? = some (sv (mkOf (E ++ N).length))) ∧ St w0 (RowO 9 1 (.slice ax bs.length cx) bs.length ys * (lists (hs.drop (k + 1)) * (BB B (.slice al (E ++ N).length cl) (.slice am (E ++ N).length cm) (.slice (some ⟨bh, oh, none⟩) (List.map (fun x => x.1) hs).length ch) vt vf vw (E ++ N) (hs.map (·.1)) tV fV wV (grps Gs' * F)))) w')
        (fun e _ => match e.ρ 10 with | .int _ n => (bs.length - n).toNat | _ => 0) ?_ ?_
      · refine ⟨by simp -dsimp -implicitDefEqProofs only [go_sem, hd], by simp -dsimp -implicitDefEqProofs only [go_sem, e0], by simp -dsimp -implicitDefEqProofs only [go_sem, e3], by simp -dsimp -implicitDefEqProofs only [go_sem, e4], by simp -dsimp -implicitDefEqProofs only [go_sem, e7], ?_, 0, bs.map sv, by omega, rfl, by simp, fun i hi => by omega, h2.sub⟩
        simp -dsimp -implicitDefEqProofs (disch := omega) only [go_sem, reqD_of, dec_t, dec_f, wrap_i64, wrap_u32, wrap_u64, wrap_u8]
        rfl
      · clear cB hH h2 h1
        rintro e2 w2 ⟨hd2, e0', e3', e4', e7', e9, j, ys, hj, e10, hys, hpre, h2⟩
        have cB := h2.cl B
        obtain ⟨_, _, hq, hH⟩ := h2.at1 (a := some ⟨bh, oh, none⟩) (n := (List.map (fun x => x.1) hs).length) (c := ch) (xs := hs.map (·.1)) (k := k) (by simp; omega)
        simp only [Option.some.injEq, Addr.mk.injEq] at hq
        obtain ⟨rfl, rfl, _⟩ := hq
        simp only [List.getElem_map, hx] at hH
        by_cases hjl : (j : Int) < bs.length
        · obtain ⟨bx, ox, rfl, _⟩ := h2.at1 (a := ax) (n := bs.length) (c := cx) (xs := ys) (k := j) (by omega)
          simp -dsimp -implicitDefEqProofs (disch := omega) only [go_sem, reqD_of, dec_t, dec_f, wrap_i64, wrap_u32, wrap_u64, wrap_u8, hd2, e0', e7', e9, e10, hkl, hjl, F48.t16_eq, cB, hH]
          refine h2.rowSet1 (T := 9) (g := bx) (o := ox) (n := bs.length) (c := cx) (k := j) (xs := ys) (by omega) rfl fun w3 h3 => ?_
          simp -dsimp -implicitDefEqProofs (disch := omega) only [go_sem, reqD_of, dec_t, dec_f, wrap_i64, wrap_u32, wrap_u64, wrap_u8, hd2, e0', e3', e4', e7', e9, e10]
          refine ⟨⟨j + 1, ys.set j (sv (mkOf (E ++ N).length)), by omega, by omega, by simp [hys], ?_, h3⟩, by omega⟩
          intro i hi
          by_cases hij : i = j
          · subst hij; rw [List.getElem?_set_self (by omega)]
          · rw [List.getElem?_set_ne (by omega)]; exact hpre i (by omega)
        · have : j = bs.length := by omega
          subst this
          have hrep : ys = List.replicate bs.length (sv (mkOf (E ++ N).length)) := by
            apply List.ext_getElem?
            intro i
            by_cases hi : i < bs.length
            · rw [hpre i hi, List.getElem?_replicate, if_pos hi]
            · rw [List.getElem?_eq_none (by omega), List.getElem?_eq_none (by simp; omega)]
          subst hrep
          have h4 := (h2.ent (Ent.sep (GroupP.one 9 (sv (mkOf (E ++ N).length)) (.slice ax bs.length cx) bs.length) (Ent.rfl' _))).drew
          have cB4 := h4.cl B
          obtain ⟨_, _, hq, hH4⟩ := h4.at1 (a := some ⟨bh, oh, none⟩) (n := (List.map (fun x => x.1) hs).length) (c := ch) (xs := hs.map (·.1)) (k := k) (by simp; omega)
          simp only [Option.some.injEq, Addr.mk.injEq] at hq
          obtain ⟨rfl, rfl, _⟩ := hq
          simp only [List.getElem_map, hx] at hH4
          simp -dsimp -implicitDefEqProofs (disch := omega) only [go_sem, reqD_of, dec_t, dec_f, wrap_i64, wrap_u32, wrap_u64, wrap_u8, hd2, e0', e7', e9, e10, hkl, hjl, F48.t17_eq, cB, cB4, hH, hH4]
          refine h4.lit (n := 1) (cells := [.slice ax bs.length cx]) fact_rowTy_33 rfl (by decide) (by decide) fun v5 w5 h5 => ?_
          have cB5 := h5.cl B
          obtain ⟨_, _, hq, hH5⟩ := h5.at1 (a := some ⟨bh, oh, none⟩) (n := (List.map (fun x => x.1) hs).length) (c := ch) (xs := hs.map (·.1)) (k := k) (by simp; omega)
          simp only [Option.some.injEq, Addr.mk.injEq] at hq
          obtain ⟨rfl, rfl, _⟩ := hq
          simp only [List.getElem_map, hx] at hH5
          simp -dsimp -implicitDefEqProofs (disch := omega) only [go_sem, reqD_of, dec_t, dec_f, wrap_i64, wrap_u32, wrap_u64, wrap_u8, hd2, e0', e7', e9, e10, hkl, cB5, hH5]
          refine h5.app (v := .slice al (E ++ N).length cl) fact_rowTy_33 ((Ent.left _ _).trans (RowO.reads _ _ _ _ _)) Tryz.underlying33 (by intro u hu; simp only [List.mem_singleton] at hu; subst hu; rfl) (fun h => by simp at h) (by simp only [Go.maxLen]; omega) (by omega) fun v6 w6 h6 => ?_
          obtain ⟨a6, c6, rfl, _⟩ := h6.rowForm v6
          have cB6 := h6.cl B
          obtain ⟨_, _, hq, hH6⟩ := h6.at1 (a := some ⟨bh, oh, none⟩) (n := (List.map (fun x => x.1) hs).length) (c := ch) (xs := hs.map (·.1)) (k := k) (by simp; omega)
          simp only [Option.some.injEq, Addr.mk.injEq] at hq
          obtain ⟨rfl, rfl, _⟩ := hq
          simp only [List.getElem_map, hx] at hH6
          simp -dsimp -implicitDefEqProofs (disch := omega) only [go_sem, reqD_of, dec_t, dec_f, wrap_i64, wrap_u32, wrap_u64, wrap_u8, hd2, e0', e7', e9, e10, hkl, cB6, hH6]
          refine h6.sto (b := B) (off := 0) (by simp) rfl fun w7 h7 => ?_
          simp only [List.setIfInBounds_toArray, List.set_cons_succ, List.set_cons_zero] at h7
          have cB7 := h7.cl B
          simp -dsimp -implicitDefEqProofs (disch := omega) only [go_sem, reqD_of, dec_t, dec_f, wrap_i64, wrap_u32, wrap_u64, wrap_u8, hd2, e0', e7', e9, e10, cB7]
          refine h7.lit (n := 1) (cells := [sv (mkOf (E ++ N).length)]) fact_rowTy_22 rfl (by decide) (by decide) fun v8 w8 h8 => ?_
          simp -dsimp -implicitDefEqProofs (disch := omega) only [go_sem, reqD_of, dec_t, dec_f, wrap_i64, wrap_u32, wrap_u64, wrap_u8, hd2, e0', e7', e9, e10]
          refine h8.app (v := .slice am (E ++ N).length cm) fact_rowTy_22 ((Ent.left _ _).trans (RowO.reads _ _ _ _ _)) Tryz.underlying22 (by intro u hu; simp only [List.mem_singleton] at hu; subst hu; rfl) (fun h => by simp at h) (by simp only [Go.maxLen]; omega) (by omega) fun v9 w9 h9 => ?_
          obtain ⟨a9, c9, rfl, _⟩ := h9.rowForm v9
          simp -dsimp -implicitDefEqProofs (disch := omega) only [go_sem, reqD_of, dec_t, dec_f, wrap_i64, wrap_u32, wrap_u64, wrap_u8, hd2, e0', e7', e9, e10]
          refine h9.sto (b := B) (off := 1) (by simp) rfl fun w10 h10 => ?_
          simp only [List.setIfInBounds_toArray, List.set_cons_succ, List.set_cons_zero] at h10
          simp -dsimp -implicitDefEqProofs (disch := omega) only [go_sem, reqD_of, dec_t, dec_f, wrap_i64, wrap_u32, wrap_u64, wrap_u8, hd2, e0', e3', e4', e7', e7, e9, e10]
          rw [(EL.rows E N (.slice ax bs.length cx) bs.length (mkOf (E ++ N).length) (.slice a6 ((E ++ N).length + 1) c6) _).1, (EL.rows E N (.slice ax bs.length cx) bs.length (mkOf (E ++ N).length) (.slice a9 ((E ++ N).length + 1) c9) _).2] at h10
          have h11 : St w0 (BB B (.slice a6 ((E ++ N).length + 1) c6) (.slice a9 ((E ++ N).length + 1) c9) (.slice (some ⟨bh, oh, none⟩) (List.map (fun x => x.1) hs).length ch) vt vf vw (E ++ (N ++ [((.slice ax bs.length cx : Value), bs.length, mkOf (E ++ N).length)])) (hs.map (·.1)) tV fV wV (lists (hs.drop (k + 1)) * (GroupP 9 (sv (mkOf (E ++ N).length)) [((.slice ax bs.length cx : Value), bs.length)] * (grps Gs' * F)))) w10 := h10.sub
          refine ⟨⟨k + 1, _, _, N ++ [((.slice ax bs.length cx : Value), bs.length, mkOf (E ++ N).length)], (mkOf (E ++ N).length, [((.slice ax bs.length cx : Value), bs.length)]) :: Gs', by omega, by omega, by simp [hNk], ?_, ?_, h11.ac (by simp only [BB, grps_cons]; ac_rfl)⟩, by omega⟩
          · rw [← List.append_assoc]
            exact (okN.mono (GLe.cons _ _)).snoc ⟨_, List.mem_cons_self, rfl, List.mem_cons_self⟩ rfl (by omega)
          · intro x hx'
            rcases List.mem_append.1 hx' with hx' | hx'
            · exact hN x hx'
            · simp only [List.mem_singleton] at hx'
              subst hx'
              exact hxl
    · have : k = hs.length := by omega
      subst this
      have hkl : ¬ (hs.length : Int) < ((List.map (fun x => x.1) hs).length : Nat) := by omega
      simp -dsimp -implicitDefEqProofs (disch := omega) only [go_sem, reqD_of, dec_t, dec_f, wrap_i64, wrap_u32, wrap_u64, wrap_u8, hd, e0, e7, hkl, cB, hhl]
      refine turn_19 okN (f := E.length) (by omega) (by omega) ?_ (by simp -dsimp -implicitDefEqProofs only [go_sem, hd]) (by simp -dsimp -implicitDefEqProofs only [go_sem, e0]) (by simp -dsimp -implicitDefEqProofs only [go_sem, e3]) (by simp -dsimp -implicitDefEqProofs only [go_sem, e4]) (h1.sub (B := BB B vl vm (.slice ah (List.map (fun x => x.1) hs).length ch) vt vf vw (E ++ N) (hs.map (·.1)) tV fV wV (grps Gs' * F))) fun w' vl vm E' Gs' ok' hE' hw => hQ _ _ _ _ _ ok' (by omega) hw
      intro j hj hf
      rw [List.getElem_append_right hf]
      exact hN _ (List.getElem_mem _)

theorem lists_rd {A R : HP} {hs : OL} {x : Value × Value × List (List UInt8)} (hx : x ∈ hs) [i : Pull A (lists hs) R] : Ent A (ReadsT x.1 x.2.2) ∧ Ent A (ReadsT x.2.1 x.2.2) := by
  rw [i.eq]
  have h := (Ent.left (lists hs) R).trans (starL_mem (A := ownR) hx)
  exact ⟨h.trans ((Ent.left _ _).trans (RowO.reads _ _ _ _ _)), h.trans ((Ent.right _ _).trans (RowO.reads _ _ _ _ _))⟩

end
section
attribute [local go_sem] F48.t5_eq F48.t6_eq F48.t15_eq F48.t16_eq F48.t17_eq F48.t10_eq F48.t11_eq F48.t26_eq F48.t27_eq F48.t22_eq F48.t23_eq F48.t40_eq F48.t41_eq F48.t37_eq F48.t38_eq F48.t43_eq F48.t31_eq F48.t19_eq
theorem turn_any {w0 w : World} {F : HP} {B n : Nat} (hn : n ≤ 100000000) (h : St w0 (BookP B n * F) w) :
    Calls Tryz.prog 48 #[.pointer (some ⟨B, 0, none⟩)] w fun e w' => St w0 (BookP B n * F) w' ∧ e = .returned (.bool true) := by
  obtain ⟨x, ok, h1⟩ := BookP.open h
  obtain ⟨vl, vm, vh, vt, vf, vw, E, hs, fs, Gs⟩ := x
  have hfew := ok.few
  have okE := ok.e
  have okH := ok.h
  have okF := ok.f
  clear ok h
  simp only at hfew h1 okE okH okF
  obtain ⟨al, cl, rfl, _⟩ := h1.rowForm vl
  obtain ⟨ah, ch, rfl, _⟩ := h1.rowForm vh
  obtain ⟨at', ct, rfl, _⟩ := h1.rowForm vt
  have cB := h1.cl B
  refine F48.calls (by simp) ?_
  unfold F48.code
  simp -dsimp -implicitDefEqProofs (disch := omega) only [go_sem, reqD_of, dec_t, dec_f, wrap_i64, wrap_u32, wrap_u64, wrap_u8, cB]
  refine loop_intro (fun e w' => e.ds = [] ∧ e.ρ 0 = .pointer (some ⟨B, 0, none⟩) ∧ e.ρ 3 = .bool true ∧ e.ρ 4 = .int .i64 E.length ∧ (∃ k : Nat, k ≤ hs.length ∧ e.ρ 5 = .int .i64 k) ∧ St w0 (BB B (.slice al E.length cl) vm (.slice ah (List.map (fun x => x.1) hs).length ch) (.slice at' (List.map (fun x => x.2.1) hs).length ct) vf vw E (hs.map (·.1)) (hs.map (·.2.1)) (fs.map (·.1)) (fs.map (·.2.1)) (lists hs * (lists fs * (grps Gs * F)))) w')
    (fun e _ => match e.ρ 5 with | .int _ n => (hs.length - n).toNat | _ => 0) ?_ ?_
  · exact ⟨rfl, by simp -dsimp -implicitDefEqProofs only [go_sem], by simp -dsimp -implicitDefEqProofs only [go_sem], by simp -dsimp -implicitDefEqProofs only [go_sem], ⟨0, by omega, rfl⟩, h1⟩
  · clear h1 cB
    rintro e w1 ⟨hd, e0, e3, e4, ⟨k, hk, e5⟩, h1⟩
    have hhl : (List.map (fun x => x.1) hs).length = hs.length := by simp
    have hhl2 : (List.map (fun x => x.2.1) hs).length = hs.length := by simp
    by_cases hlt : (k : Int) < hs.length
    · have hkh : k < hs.length := by omega
      have hkl : (k : Int) < ((List.map (fun x => x.1) hs).length : Nat) := by omega
      have hkl2 : (k : Int) < ((List.map (fun x => x.2.1) hs).length : Nat) := by omega
      obtain ⟨bh, oh, rfl, hH⟩ := h1.at1 (a := ah) (n := (List.map (fun x => x.1) hs).length) (c := ch) (xs := hs.map (·.1)) (k := k) (by simp; omega)
      obtain ⟨bt, ot, rfl, hT⟩ := h1.at1 (a := at') (n := (List.map (fun x => x.2.1) hs).length) (c := ct) (xs := hs.map (·.2.1)) (k := k) (by simp; omega)
      simp only [List.getElem_map] at hH hT
      have cB := h1.cl B
      have h2 := h1.drew
      have cB' : ∀ i, w1.drew.cell? ⟨B, i, none⟩ = _ := cB
      have hH' : w1.drew.cell? _ = _ := hH
      have hT' : w1.drew.cell? _ = _ := hT
      obtain ⟨_, _, hxl⟩ := okH hs[k] (List.getElem_mem hkh)
      simp -dsimp -implicitDefEqProofs (disch := omega) only [go_sem, reqD_of, dec_t, dec_f, wrap_i64, wrap_u32, wrap_u64, wrap_u8, hd, e0, e5, hkl, hkl2, cB, cB', hH, hH', hT, hT']
      refine (sameTexts_any h2 (lists_rd (List.getElem_mem hkh)).1 (lists_rd (List.getElem_mem hkh)).2 (by omega) (by omega)).mono ?_
      rintro e' w3 ⟨h3, rfl⟩
      simp -dsimp -implicitDefEqProofs (disch := omega) only [go_sem, reqD_of, dec_t, dec_f, wrap_i64, wrap_u32, wrap_u64, wrap_u8, hd, e0, e3, e4, e5]
      exact ⟨⟨⟨k + 1, by omega, by omega⟩, h3⟩, by omega⟩
    · have : k = hs.length := by omega
      subst this
      have hkl : ¬ (hs.length : Int) < ((List.map (fun x => x.1) hs).length : Nat) := by omega
      have cB := h1.cl B
      simp -dsimp -implicitDefEqProofs (disch := omega) only [go_sem, reqD_of, dec_t, dec_f, wrap_i64, wrap_u32, wrap_u64, wrap_u8, hd, e0, e5, hkl, cB]
      refine turn_8 (B := B) (F := lists fs * F) (vl := .slice al E.length cl) (vm := vm) (vh := .slice ah (List.map (fun x => x.1) hs).length ch) (vt := .slice at' (List.map (fun x => x.2.1) hs).length ct) (vf := vf) (vw := vw) (tV := hs.map (·.2.1)) (fV := fs.map (·.1)) (wV := fs.map (·.2.1)) (Gs := Gs) okE okH (by omega) (by simp -dsimp -implicitDefEqProofs only [go_sem, hd]) (by simp -dsimp -implicitDefEqProofs only [go_sem, e0]) (by simp -dsimp -implicitDefEqProofs only [go_sem, e3]) (by simp -dsimp -implicitDefEqProofs only [go_sem, e4]) (h1.ac (by simp only [BB]; ac_rfl)) fun w' vl' vm' E' Gs' okE' hE' hw => ?_
      refine ⟨?_, rfl⟩
      have hw2 : St w0 (lists [] * (BB B vl' vm' vf vw (.slice none 0 0) (.slice none 0 0) E' (fs.map (·.1)) (fs.map (·.2.1)) (([] : OL).map (·.1)) (([] : OL).map (·.2.1)) (grps Gs' * (lists fs * F)))) w' := hw.ent (Ent.embL _)
      exact BookP.col (B := B) (n := n) vl' vm' vf vw (.slice none 0 0) (.slice none 0 0) E' fs [] Gs' hw2 ⟨okE', okF, (fun x hx => absurd hx (by simp)), by simp only [List.length_nil]; omega⟩

end

theorem ends_any {w0 w : World} {F : HP} {B n : Nat} (hn : n ≤ 100000000) (h : St w0 (BookP B n * F) w) :
    Calls Tryz.prog 11 #[.pointer (some ⟨B, 0, none⟩)] w fun e w' => St w0 (BookP B n * F) w' ∧ e = .returned (.bool true) := by
  refine F11.calls (by simp) ?_
  unfold F11.code
  simp -dsimp -implicitDefEqProofs (disch := omega) only [go_sem, reqD_of, dec_t, dec_f, wrap_i64, wrap_u32, wrap_u64, wrap_u8]
  refine (turn_any hn h).mono ?_
  rintro e w1 ⟨h1, rfl⟩
  simp -dsimp -implicitDefEqProofs (disch := omega) only [go_sem, reqD_of, dec_t, dec_f, wrap_i64, wrap_u32, wrap_u64, wrap_u8]
  refine (turn_any hn h1).mono ?_
  rintro e w2 ⟨h2, rfl⟩
  simp -dsimp -implicitDefEqProofs (disch := omega) only [go_sem, reqD_of, dec_t, dec_f, wrap_i64, wrap_u32, wrap_u64, wrap_u8]
  exact h2

end Go.Proofs.YtkijkoakloacoaaGreatDoor

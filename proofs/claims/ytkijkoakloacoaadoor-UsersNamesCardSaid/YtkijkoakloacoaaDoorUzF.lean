/- users: a table in memory; its text. -/
import Derived.Test.YtkijkoakloacoaaDoorUzE
import Derived.Test.YtkijkoakloacoaaDoorUpB
import Derived.Test.YtkijkoakloacoaaDoorUpC
import Derived.Test.YtkijkoakloacoaaDoorBel
import Derived.Shelf.Strings.Builder1
namespace Go.Proofs.YtkijkoakloacoaaDoor
open Go
open Go.RowKit (Below)
set_option linter.unusedVariables false
set_option linter.unusedSimpArgs false
set_option maxRecDepth 100000

/-! ### A strings.Builder of one's own -/

theorem extraWS : Builder.Extra Tryd.prog layWriteString_ren where
  sizeBuilder := by kernel_rfl
  liesBuilder := by kernel_rfl
  t5 := Tryd.underlying5
  a5 := Tryd.isAgg5
  z5 := Tryd.sizeOf5
  v5 := Tryd.zeroValue5
  infoByte := by kernel_rfl
  cellsByte := by kernel_rfl
  sizeByte := by kernel_rfl
  neB5 := by decide
theorem extraSt : Builder.Extra Tryd.prog layString_ren where
  sizeBuilder := by kernel_rfl
  liesBuilder := by kernel_rfl
  t5 := Tryd.underlying5
  a5 := Tryd.isAgg5
  z5 := Tryd.sizeOf5
  v5 := Tryd.zeroValue5
  infoByte := by kernel_rfl
  cellsByte := by kernel_rfl
  sizeByte := by kernel_rfl
  neB5 := by decide

structure Qb (W w : World) (P : Nat) (l : List UInt8) : Prop where
  bel : Below W.heap.size W w
  bld : Lib.IsBuilder 84 5 W.heap.size P (Lib.byteCells l) w
theorem Qb.size {W w : World} {P : Nat} {l : List UInt8} (h : Qb W w P l) : W.heap.size ≤ w.heap.size := h.bel.size
theorem ws_lib {W w : World} {P : Nat} {l : List UInt8} (h : Qb W w P l) (s : List UInt8) (hl : l.length + s.length ≤ 140737488355328) :
    Calls Tryd.prog 48 #[.pointer (some ⟨P, 0, none⟩), .string (strOf s)] w fun e w' => Qb W w' P (l ++ s) ∧ ∃ n, e = .returned (.tuple #[n, .nilIface]) := by
  refine (Any.Builder_WriteString layWriteString extraWS W.heap.size P (Lib.byteCells l) (strOf s) w h.bld (by rw [strOf_size]; simpa [Lib.byteCells] using hl) h.size).mono ?_
  rintro e w' ⟨rfl, h1, h2⟩
  refine ⟨⟨h.bel.trans h2, .inr ?_⟩, _, rfl⟩
  have : Lib.byteCells (l ++ s) = Lib.byteCells l ++ Lib.strCells (strOf s) := by simp [Lib.byteCells, Lib.strCells, strOf_data]
  rw [this]; exact h1
theorem str_lib {W w : World} {P : Nat} {l : List UInt8} (h : Qb W w P l) :
    Calls Tryd.prog 50 #[.pointer (some ⟨P, 0, none⟩)] w fun e w' => Below W.heap.size W w' ∧ e = .returned (.string (strOf l)) := by
  refine (Any.Builder_String_any layString extraSt W.heap.size P l w h.bld h.size).mono ?_
  rintro e w' ⟨rfl, h2⟩
  exact ⟨h.bel.trans h2, rfl⟩
theorem qb_new {W w : World} {P : Nat} (h : St W (Blk P (.cells #[.pointer none, .slice none 0 0] 84 (0, 0)) * Old W) w) : Qb W w P [] := by
  have hb := h.comm.below
  refine ⟨hb, .inl ⟨?_, .slice none 0 0, h.blk, World.ownsRow_nil _ _ _ _, by simp [Value.ownBlock]⟩⟩
  obtain ⟨x, lx, h1, h2, hdis, l1, l2, a, b⟩ := h.sat
  rcases Nat.lt_or_ge P W.heap.size with hlt | hge
  · have o2 := b P _ (Array.getElem?_eq_getElem hlt)
    have o1 : h1 P = some _ := a
    rcases hdis P with e | e
    · rw [e] at o1; cases o1
    · rw [e] at o2; cases o2
  · exact hge
/-- Whatever is done that leaves all as it was, leaves the builder. -/
theorem Qb.old {W w w' : World} {P : Nat} {l : List UInt8} (q : Qb W w P l) (h : St w (Old w) w') : Qb W w' P l := by
  have hb := h.below0
  have same : ∀ k o, w.heap[k]? = some o → w'.heap[k]? = some o := fun k o e => by rw [hb.block k (Array.getElem?_eq_some_iff.1 e).1]; exact e
  refine ⟨q.bel.trans ⟨hb.os, hb.tape, hb.output, hb.size, fun k hk => hb.block k (Nat.lt_of_lt_of_le hk q.size)⟩, ?_⟩
  have one : ∀ p, Lib.BuilderAt 84 5 W.heap.size P p (Lib.byteCells l) w → Lib.BuilderAt 84 5 W.heap.size P p (Lib.byteCells l) w' := by
    rintro p ⟨h1, v, h2, ⟨h3, h4⟩, h5⟩
    refine ⟨h1, v, same _ _ h2, ⟨h3, ?_⟩, h5⟩
    rcases h4 with h4 | ⟨g, cap, cur, a, b, c, d⟩
    · exact .inl h4
    · exact .inr ⟨g, cap, cur, a, b, same _ _ c, d⟩
  exact q.bld.imp (one _) (one _)
theorem St.oldEnt {w0 w : World} {X : HP} (h : St w0 X w) : Ent (Old w) X := fun x hx => by
  obtain ⟨y, ly, ay⟩ := h.sat
  exact ⟨y, fun b o e => hx b o (ly b o e), ay⟩

/-! ### A table -/

abbrev AV := Acc × Value
abbrev accC (x : AV) : List Value := accL x.1 x.2
theorem accC_len (x : AV) : (accC x).length = 4 := rfl
abbrev tabB (vl : Value) (m : Nat) (vi : Value) : Obj := .cells #[vl, .map (some m), vi] 72 (0, 0)
abbrev accs (L : List AV) : List Acc := L.map (·.1)
abbrev TabQ (T m : Nat) (vl vi : Value) (L : List AV) : HP := Blk T (tabB vl m vi) * (RowO 46 4 vl L.length (L.flatMap accC) * MapP sv m (atF (accs L)))
/-- Each account's members can be read. -/
def MsOk (A : HP) (L : List AV) : Prop := ∀ x ∈ L, Ent A (ReadsT x.2 x.1.members) ∧ Fit x.1 ∧ isCell x.2 = true
theorem MsOk.weak {A B : HP} {L : List AV} (h : MsOk A L) (e : Ent B A) : MsOk B L := fun x hx => ⟨e.trans (h x hx).1, (h x hx).2⟩

theorem textF_take {L : List Acc} {i : Nat} (h : i < L.length) : textF (L.take (i + 1)) = textF (L.take i) ++ lineF L[i] := by
  rw [List.take_succ_eq_append_getElem h, textF, textF, List.flatMap_append, List.flatMap_cons, List.flatMap_nil, List.append_nil]
theorem textF_part (L : List Acc) (i : Nat) : (textF (L.take i)).length ≤ (textF L).length := by
  conv => rhs; rw [← List.take_append_drop i L]
  simp only [textF, List.flatMap_append, List.length_append]
  omega

section
attribute [local go_sem] F17.t6_eq F17.t4_eq F17.t7_eq
theorem text_any {w0 w : World} {A : HP} {T m : Nat} {vl vi : Value} {L : List AV} (h : St w0 (TabQ T m vl vi L * A) w) (hm : MsOk A L) (hl : (textF (accs L)).length ≤ 70368744177664) (hn : L.length ≤ 70368744177664) :
    Calls Tryd.prog 17 #[.pointer (some ⟨T, 0, none⟩)] w fun e w' => St w0 (TabQ T m vl vi L * A) w' ∧ e = .returned (.string (strOf (textF (accs L)))) := by
  obtain ⟨av, cv, rfl, _⟩ := h.rowForm vl
  refine F17.calls (by simp) ?_
  unfold F17.code
  simp -dsimp -implicitDefEqProofs (disch := omega) only [go_sem, reqD_of, dec_t, dec_f, wrap_i64, wrap_u32, wrap_u64, wrap_u8]
  refine (St.start w).new fun P w1 h1 => ?_
  have q1 := qb_new h1
  simp -dsimp -implicitDefEqProofs (disch := omega) only [go_sem, reqD_of, dec_t, dec_f, wrap_i64, wrap_u32, wrap_u64, wrap_u8, (h.of_below q1.bel).cl T]
  refine loop_intro (fun e w' => e.ds = [] ∧ e.ρ 3 = .pointer (some ⟨P, 0, none⟩) ∧ e.ρ 9 = .slice av L.length cv ∧ e.ρ 10 = .int .i64 L.length ∧ ∃ i : Nat, i ≤ L.length ∧ e.ρ 11 = .int .i64 i ∧ Qb w w' P (textF ((accs L).take i)))
    (fun e _ => match e.ρ 11 with | .int _ n => (L.length - n).toNat | _ => 0) ?_ ?_
  · exact ⟨rfl, by simp -dsimp -implicitDefEqProofs only [go_sem], by simp -dsimp -implicitDefEqProofs only [go_sem], by simp -dsimp -implicitDefEqProofs only [go_sem], 0, by omega, by simp -dsimp -implicitDefEqProofs only [go_sem], by simpa [textF] using q1⟩
  clear h1 q1
  rintro e w2 ⟨hd, e3, e9, e10, i, hi, e11, q2⟩
  by_cases hlt : (i : Int) < (L.length : Int)
  case neg =>
    rw [List.take_of_length_le (by simp; omega)] at q2
    simp -dsimp -implicitDefEqProofs (disch := omega) only [go_sem, reqD_of, dec_t, dec_f, wrap_i64, wrap_u32, wrap_u64, wrap_u8, hd, e3, e9, e10, e11, hlt]
    refine (str_lib q2).mono ?_
    rintro e' w3 ⟨b3, rfl⟩
    simp -dsimp -implicitDefEqProofs (disch := omega) only [go_sem, reqD_of, dec_t, dec_f, wrap_i64, wrap_u32, wrap_u64, wrap_u8, hd]
    exact h.of_below b3
  have hlt' : i < L.length := by omega
  have h2 := h.of_below q2.bel
  obtain ⟨_, a', c', hv', _, hrow⟩ := St.rowsAt accC_len (by decide) (h2.gives (B := Reads 4 (.slice av L.length cv) L.length (L.flatMap accC)))
  simp only [Value.slice.injEq, true_and] at hv'
  obtain ⟨rfl, rfl⟩ := hv'
  obtain ⟨b, o, rfl, hr, _⟩ := hrow i hlt'
  have hx := hm _ (List.getElem_mem hlt')
  have hten : textF ((accs L).take (i + 1)) = textF ((accs L).take i) ++ lineF L[i].1 := by
    rw [textF_take (by simpa using hlt')]; simp
  have htl := textF_part (accs L) (i + 1)
  rw [hten, List.length_append] at htl
  obtain ⟨x, hxe⟩ : ∃ x, x = L[i] := ⟨_, rfl⟩
  rw [← hxe] at hr hx hten htl
  obtain ⟨a, v⟩ := x
  obtain ⟨hx1, hx2, hx3⟩ := hx
  simp only at hx1 hx2 hx3 hten htl
  have hll : (lineF a).length = (rowF a).length + 1 := by simp [lineF]
  simp -dsimp -implicitDefEqProofs (disch := omega) only [go_sem, reqD_of, dec_t, dec_f, wrap_i64, wrap_u32, wrap_u64, wrap_u8, hd, e3, e9, e10, e11, hlt, hr]
  refine (St.start w2).new fun P5 w3 h3 => ?_
  simp -dsimp -implicitDefEqProofs (disch := omega) only [go_sem, reqD_of, dec_t, dec_f, wrap_i64, wrap_u32, wrap_u64, wrap_u8, hd, e3, e9, e10, e11]
  refine h3.stoAll (b := P5) (n := 4) (cs := accL a v) rfl rfl (fun v hv => by simp at hv; rcases hv with rfl | rfl | rfl | rfl <;> first | rfl | exact hx3) fun w4 h4 => ?_
  have r5 := h4.rowH P5 4 rfl
  simp -dsimp -implicitDefEqProofs (disch := omega) only [go_sem, reqD_of, dec_t, dec_f, wrap_i64, wrap_u32, wrap_u64, wrap_u8, hd, e3, e9, e10, e11, r5]
  refine (written_any h4 ((Ent.right _ _).trans (h2.right.oldEnt.trans hx1)) hx2 (by omega)).mono ?_
  rintro e' w5 ⟨h5, rfl⟩
  simp -dsimp -implicitDefEqProofs (disch := omega) only [go_sem, reqD_of, dec_t, dec_f, wrap_i64, wrap_u32, wrap_u64, wrap_u8, hd, e3, e9, e10, e11]
  refine (ws_lib (q2.old h5.right) (lineF a) (by omega)).mono ?_
  rintro e' w6 ⟨q6, n, rfl⟩
  simp -dsimp -implicitDefEqProofs (disch := omega) only [go_sem, reqD_of, dec_t, dec_f, wrap_i64, wrap_u32, wrap_u64, wrap_u8, hd, e3, e9, e10, e11]
  exact ⟨⟨i + 1, by omega, by omega, by rw [hten]; exact q6⟩, by omega⟩
end
end Go.Proofs.YtkijkoakloacoaaDoor

/- users: a table in memory; its text. users: accounts are put into a table; who is named there. users: named, join. users: join: who belongs to whom. -/
import Derived.Test.YtkijkoakloacoaaGreatDoorUB
import Derived.Test.YtkijkoakloacoaaGreatDoorUA
import Derived.Test.YtkijkoakloacoaaGreatDoorBel
import Derived.Shelf.Strings.Builder1
namespace Go.Proofs.YtkijkoakloacoaaGreatDoor
open Go
open Go.RowKit (Below)
set_option linter.unusedVariables false
set_option linter.unusedSimpArgs false
set_option maxRecDepth 100000

/-! ### A strings.Builder of one's own -/

theorem extraWS : Builder.Extra Tryz.prog layWriteString_ren where
  sizeBuilder := by kernel_rfl
  liesBuilder := by kernel_rfl
  t5 := Tryz.underlying5
  a5 := Tryz.isAgg5
  z5 := Tryz.sizeOf5
  v5 := Tryz.zeroValue5
  infoByte := by kernel_rfl
  cellsByte := by kernel_rfl
  sizeByte := by kernel_rfl
  neB5 := by decide
theorem extraSt : Builder.Extra Tryz.prog layString_ren where
  sizeBuilder := by kernel_rfl
  liesBuilder := by kernel_rfl
  t5 := Tryz.underlying5
  a5 := Tryz.isAgg5
  z5 := Tryz.sizeOf5
  v5 := Tryz.zeroValue5
  infoByte := by kernel_rfl
  cellsByte := by kernel_rfl
  sizeByte := by kernel_rfl
  neB5 := by decide

structure Qb (W w : World) (P : Nat) (l : List UInt8) : Prop where
  bel : Below W.heap.size W w
  bld : Lib.IsBuilder 114 5 W.heap.size P (Lib.byteCells l) w
theorem Qb.size {W w : World} {P : Nat} {l : List UInt8} (h : Qb W w P l) : W.heap.size ≤ w.heap.size := h.bel.size
theorem ws_lib {W w : World} {P : Nat} {l : List UInt8} (h : Qb W w P l) (s : List UInt8) (hl : l.length + s.length ≤ 140737488355328) :
    Calls Tryz.prog 70 #[.pointer (some ⟨P, 0, none⟩), .string (strOf s)] w fun e w' => Qb W w' P (l ++ s) ∧ ∃ n, e = .returned (.tuple #[n, .nilIface]) := by
  refine (Any.Builder_WriteString layWriteString extraWS W.heap.size P (Lib.byteCells l) (strOf s) w h.bld (by rw [strOf_size]; simpa [Lib.byteCells] using hl) h.size).mono ?_
  rintro e w' ⟨rfl, h1, h2⟩
  refine ⟨⟨h.bel.trans h2, .inr ?_⟩, _, rfl⟩
  have : Lib.byteCells (l ++ s) = Lib.byteCells l ++ Lib.strCells (strOf s) := by simp [Lib.byteCells, Lib.strCells, strOf_data]
  rw [this]; exact h1
theorem str_lib {W w : World} {P : Nat} {l : List UInt8} (h : Qb W w P l) :
    Calls Tryz.prog 72 #[.pointer (some ⟨P, 0, none⟩)] w fun e w' => Below W.heap.size W w' ∧ e = .returned (.string (strOf l)) := by
  refine (Any.Builder_String_any layString extraSt W.heap.size P l w h.bld h.size).mono ?_
  rintro e w' ⟨rfl, h2⟩
  exact ⟨h.bel.trans h2, rfl⟩
theorem qb_new {W w : World} {P : Nat} (h : St W (Blk P (.cells #[.pointer none, .slice none 0 0] 114 (0, 0)) * Old W) w) : Qb W w P [] := by
  have hb := h.comm.below
  refine ⟨hb, .inl ⟨?_, .slice none 0 0, h.blk, World.ownsRow_nil _ _ _ _, by simp [Value.ownBlock]⟩⟩
  obtain ⟨x, lx, h1, h2, hdis, l1, l2, a, b⟩ := h.sat
  rcases Nat.lt_or_ge P W.heap.size with hlt | hge
  · have o2 := b P _ (Array.getElem?_eq_getElem hlt)
    have o1 : h1 P = some _ := a
    rcases hdis P with e | e
    · rw [e] at o1; cases o1
    · rw [e] at o2; cases o2
  · exact hge
/-- Whatever is done that leaves all as it was, leaves the builder. -/
theorem Qb.old {W w w' : World} {P : Nat} {l : List UInt8} (q : Qb W w P l) (h : St w (Old w) w') : Qb W w' P l := by
  have hb := h.below0
  have same : ∀ k o, w.heap[k]? = some o → w'.heap[k]? = some o := fun k o e => by rw [hb.block k (Array.getElem?_eq_some_iff.1 e).1]; exact e
  refine ⟨q.bel.trans ⟨hb.os, hb.tape, hb.output, hb.size, fun k hk => hb.block k (Nat.lt_of_lt_of_le hk q.size)⟩, ?_⟩
  have one : ∀ p, Lib.BuilderAt 114 5 W.heap.size P p (Lib.byteCells l) w → Lib.BuilderAt 114 5 W.heap.size P p (Lib.byteCells l) w' := by
    rintro p ⟨h1, v, h2, ⟨h3, h4⟩, h5⟩
    refine ⟨h1, v, same _ _ h2, ⟨h3, ?_⟩, h5⟩
    rcases h4 with h4 | ⟨g, cap, cur, a, b, c, d⟩
    · exact .inl h4
    · exact .inr ⟨g, cap, cur, a, b, same _ _ c, d⟩
  exact q.bld.imp (one _) (one _)
theorem St.oldEnt {w0 w : World} {X : HP} (h : St w0 X w) : Ent (Old w) X := fun x hx => by
  obtain ⟨y, ly, ay⟩ := h.sat
  exact ⟨y, fun b o e => hx b o (ly b o e), ay⟩

/-! ### A table -/

abbrev AV := Acc × Value
abbrev accC (x : AV) : List Value := accL x.1 x.2
theorem accC_len (x : AV) : (accC x).length = 4 := rfl
abbrev tabB (vl : Value) (m : Nat) (vi : Value) : Obj := .cells #[vl, .map (some m), vi] 67 (0, 0)
abbrev accs (L : List AV) : List Acc := L.map (·.1)
abbrev TabQ (T m : Nat) (vl vi : Value) (L : List AV) : HP := Blk T (tabB vl m vi) * (RowO 72 4 vl L.length (L.flatMap accC) * MapP sv m (atF (accs L)))
/-- Each account's members can be read. -/
def MsOk (A : HP) (L : List AV) : Prop := ∀ x ∈ L, Ent A (ReadsT x.2 x.1.members) ∧ Fit x.1 ∧ isCell x.2 = true
theorem MsOk.weak {A B : HP} {L : List AV} (h : MsOk A L) (e : Ent B A) : MsOk B L := fun x hx => ⟨e.trans (h x hx).1, (h x hx).2⟩

theorem textF_take {L : List Acc} {i : Nat} (h : i < L.length) : textF (L.take (i + 1)) = textF (L.take i) ++ lineF L[i] := by
  rw [List.take_succ_eq_append_getElem h, textF, textF, List.flatMap_append, List.flatMap_cons, List.flatMap_nil, List.append_nil]
theorem textF_part (L : List Acc) (i : Nat) : (textF (L.take i)).length ≤ (textF L).length := by
  conv => rhs; rw [← List.take_append_drop i L]
  simp only [textF, List.flatMap_append, List.length_append]
  omega

section
attribute [local go_sem] F45.t6_eq F45.t4_eq F45.t7_eq
theorem text_any {w0 w : World} {A : HP} {T m : Nat} {vl vi : Value} {L : List AV} (h : St w0 (TabQ T m vl vi L * A) w) (hm : MsOk A L) (hl : (textF (accs L)).length ≤ 70368744177664) (hn : L.length ≤ 70368744177664) :
    Calls Tryz.prog 45 #[.pointer (some ⟨T, 0, none⟩)] w fun e w' => St w0 (TabQ T m vl vi L * A) w' ∧ e = .returned (.string (strOf (textF (accs L)))) := by
  obtain ⟨av, cv, rfl, _⟩ := h.rowForm vl
  refine F45.calls (by simp) ?_
  unfold F45.code
  simp -dsimp -implicitDefEqProofs (disch := omega) only [go_sem, reqD_of, dec_t, dec_f, wrap_i64, wrap_u32, wrap_u64, wrap_u8]
  refine (St.start w).new fun P w1 h1 => ?_
  have q1 := qb_new h1
  simp -dsimp -implicitDefEqProofs (disch := omega) only [go_sem, reqD_of, dec_t, dec_f, wrap_i64, wrap_u32, wrap_u64, wrap_u8, (h.of_below q1.bel).cl T]
  refine loop_intro (fun e w' => e.ds = [] ∧ e.ρ 3 = .pointer (some ⟨P, 0, none⟩) ∧ e.ρ 9 = .slice av L.length cv ∧ e.ρ 10 = .int .i64 L.length ∧ ∃ i : Nat, i ≤ L.length ∧ e.ρ 11 = .int .i64 i ∧ Qb w w' P (textF ((accs L).take i)))
    (fun e _ => match e.ρ 11 with | .int _ n => (L.length - n).toNat | _ => 0) ?_ ?_
  · exact ⟨rfl, by simp -dsimp -implicitDefEqProofs only [go_sem], by simp -dsimp -implicitDefEqProofs only [go_sem], by simp -dsimp -implicitDefEqProofs only [go_sem], 0, by omega, by simp -dsimp -implicitDefEqProofs only [go_sem], by simpa [textF] using q1⟩
  clear h1 q1
  rintro e w2 ⟨hd, e3, e9, e10, i, hi, e11, q2⟩
  by_cases hlt : (i : Int) < (L.length : Int)
  case neg =>
    rw [List.take_of_length_le (by simp; omega)] at q2
    simp -dsimp -implicitDefEqProofs (disch := omega) only [go_sem, reqD_of, dec_t, dec_f, wrap_i64, wrap_u32, wrap_u64, wrap_u8, hd, e3, e9, e10, e11, hlt]
    refine (str_lib q2).mono ?_
    rintro e' w3 ⟨b3, rfl⟩
    simp -dsimp -implicitDefEqProofs (disch := omega) only [go_sem, reqD_of, dec_t, dec_f, wrap_i64, wrap_u32, wrap_u64, wrap_u8, hd]
    exact h.of_below b3
  have hlt' : i < L.length := by omega
  have h2 := h.of_below q2.bel
  obtain ⟨_, a', c', hv', _, hrow⟩ := St.rowsAt accC_len (by decide) (h2.gives (B := Reads 4 (.slice av L.length cv) L.length (L.flatMap accC)))
  simp only [Value.slice.injEq, true_and] at hv'
  obtain ⟨rfl, rfl⟩ := hv'
  obtain ⟨b, o, rfl, hr, _⟩ := hrow i hlt'
  have hx := hm _ (List.getElem_mem hlt')
  have hten : textF ((accs L).take (i + 1)) = textF ((accs L).take i) ++ lineF L[i].1 := by
    rw [textF_take (by simpa using hlt')]; simp
  have htl := textF_part (accs L) (i + 1)
  rw [hten, List.length_append] at htl
  obtain ⟨x, hxe⟩ : ∃ x, x = L[i] := ⟨_, rfl⟩
  rw [← hxe] at hr hx hten htl
  obtain ⟨a, v⟩ := x
  obtain ⟨hx1, hx2, hx3⟩ := hx
  simp only at hx1 hx2 hx3 hten htl
  have hll : (lineF a).length = (rowF a).length + 1 := by simp [lineF]
  simp -dsimp -implicitDefEqProofs (disch := omega) only [go_sem, reqD_of, dec_t, dec_f, wrap_i64, wrap_u32, wrap_u64, wrap_u8, hd, e3, e9, e10, e11, hlt, hr]
  refine (St.start w2).new fun P5 w3 h3 => ?_
  simp -dsimp -implicitDefEqProofs (disch := omega) only [go_sem, reqD_of, dec_t, dec_f, wrap_i64, wrap_u32, wrap_u64, wrap_u8, hd, e3, e9, e10, e11]
  refine h3.stoAll (b := P5) (n := 4) (cs := accL a v) rfl rfl (fun v hv => by simp at hv; rcases hv with rfl | rfl | rfl | rfl <;> first | rfl | exact hx3) fun w4 h4 => ?_
  have r5 := h4.rowH P5 4 rfl
  simp -dsimp -implicitDefEqProofs (disch := omega) only [go_sem, reqD_of, dec_t, dec_f, wrap_i64, wrap_u32, wrap_u64, wrap_u8, hd, e3, e9, e10, e11, r5]
  refine (written_any h4 ((Ent.right _ _).trans (h2.right.oldEnt.trans hx1)) hx2 (by omega)).mono ?_
  rintro e' w5 ⟨h5, rfl⟩
  simp -dsimp -implicitDefEqProofs (disch := omega) only [go_sem, reqD_of, dec_t, dec_f, wrap_i64, wrap_u32, wrap_u64, wrap_u8, hd, e3, e9, e10, e11]
  refine (ws_lib (q2.old h5.right) (lineF a) (by omega)).mono ?_
  rintro e' w6 ⟨q6, n, rfl⟩
  simp -dsimp -implicitDefEqProofs (disch := omega) only [go_sem, reqD_of, dec_t, dec_f, wrap_i64, wrap_u32, wrap_u64, wrap_u8, hd, e3, e9, e10, e11]
  exact ⟨⟨i + 1, by omega, by omega, by rw [hten]; exact q6⟩, by omega⟩
end
end Go.Proofs.YtkijkoakloacoaaGreatDoor

namespace Go.Proofs.YtkijkoakloacoaaGreatDoor
open Go
set_option linter.unusedVariables false
set_option linter.unusedSimpArgs false
set_option maxRecDepth 100000

theorem lawS : KeyLaw Tryz.prog 9 sv := KeyLaw.txt Tryz.underlying9
theorem lawPr : KeyLaw Tryz.prog 102 encPr := KeyLaw.pair (by kernel_rfl)
theorem zero_int : zeroV Tryz.prog 3 = some (.int .i64 0) := by kernel_rfl

theorem atF_keys (L : List Acc) : (atF L).map (·.1) = L.map (·.name) := by
  unfold atF
  rw [List.map_map]
  have : ∀ (L : List Acc) (k : Nat), (L.zipIdx k).map ((fun x : List UInt8 × Value => x.1) ∘ fun x => (x.1.name, (.int .i64 (x.2 : Nat) : Value))) = L.map (·.name) := by
    intro L
    induction L with
    | nil => intro k; rfl
    | cons a L ih => intro k; rw [List.zipIdx_cons, List.map_cons, ih]; rfl
  exact this L 0
theorem lk_at_isSome (L : List Acc) (n : List UInt8) : (lk n (atF L)).isSome = known L n := by
  rw [Bool.eq_iff_iff, lk_isSome, atF_keys, known_iff]
theorem lk_at_none {L : List Acc} {n : List UInt8} (h : known L n = false) : lk n (atF L) = none := by
  have := lk_at_isSome L n
  rw [h] at this
  cases hl : lk n (atF L)
  · rfl
  · rw [hl] at this; cases this
/-- Where a name stands. -/
theorem lk_at_some : ∀ {L : List Acc} {n : List UInt8}, known L n = true → ∃ i, ∃ hi : i < L.length, lk n (atF L) = some (.int .i64 (i : Nat)) ∧ findF L n = some L[i] := by
  have gen : ∀ (L : List Acc) (k : Nat) (n : List UInt8), known L n = true → ∃ i, ∃ hi : i < L.length, lk n ((L.zipIdx k).map fun x => (x.1.name, (.int .i64 (x.2 : Nat) : Value))) = some (.int .i64 ((k + i : Nat) : Int)) ∧ findF L n = some L[i] := by
    intro L
    induction L with
    | nil => intro k n h; simp [known] at h
    | cons a L ih =>
      intro k n h
      rw [List.zipIdx_cons, List.map_cons]
      simp only [lk]
      by_cases e : n = a.name
      · exact ⟨0, by simp, by rw [if_pos e]; rfl, by simp [findF, e]⟩
      · have h2 : known L n = true := by
          simp only [known, List.any_cons, Bool.or_eq_true, beq_iff_eq] at h
          rcases h with h | h
          · exact absurd h.symm e
          · exact h
        obtain ⟨i, hi, h3, h4⟩ := ih (k + 1) n h2
        refine ⟨i + 1, by simpa using hi, ?_, ?_⟩
        · rw [if_neg e, h3, show k + 1 + i = k + (i + 1) by omega]
        · have : (a.name == n) = false := by rw [beq_eq_false_iff_ne]; exact fun x => e x.symm
          simp only [findF, List.find?_cons, this] at h4 ⊢
          simpa using h4
  intro L n h
  obtain ⟨i, hi, h3, h4⟩ := gen L 0 n h
  rw [Nat.zero_add] at h3
  exact ⟨i, hi, h3, h4⟩

section
attribute [local go_sem] F33.t4_eq
theorem add_new {w0 w : World} {A : HP} {T m : Nat} {vl vi : Value} {L : List AV} {a : Acc} {v : Value} (h : St w0 (TabQ T m vl vi L * A) w) (hk : known (accs L) a.name = false) (hv : isCell v = true) (hn : L.length ≤ 1099511627776) :
    Calls Tryz.prog 33 #[.pointer (some ⟨T, 0, none⟩), accV a v] w fun e w' => ∃ vl', St w0 (TabQ T m vl' vi (L ++ [(a, v)]) * A) w' ∧ e = .returned (.tuple #[]) := by
  obtain ⟨av, cv, rfl, _⟩ := h.rowForm vl
  refine F33.calls (by simp) ?_
  unfold F33.code
  simp -dsimp -implicitDefEqProofs (disch := omega) only [go_sem, reqD_of, dec_t, dec_f, wrap_i64, wrap_u32, wrap_u64, wrap_u8]
  refine h.new fun P w1 h1 => ?_
  simp -dsimp -implicitDefEqProofs (disch := omega) only [go_sem, reqD_of, dec_t, dec_f, wrap_i64, wrap_u32, wrap_u64, wrap_u8, h1.cl T, h1.cl P, h1.drew.cl T, h1.drew.cl P]
  refine h1.drew.lkH (b := m) (x := a.name) Tryz.underlying64 lawS zero_int ?_
  rw [lk_at_none hk]
  simp -dsimp -implicitDefEqProofs (disch := omega) only [go_sem, reqD_of, dec_t, dec_f, wrap_i64, wrap_u32, wrap_u64, wrap_u8, lkV, h1.cl T, h1.cl P, h1.drew.cl T, h1.drew.cl P, h1.drew.drew.cl T, h1.drew.drew.cl P]
  refine h1.drew.drew.updH (b := m) (x := a.name) Tryz.underlying64 lawS fun w2 h2 => ?_
  rw [(ixOf_none a.name (atF (accs L)) 0 _ (by
    have := ixOf_lk a.name (atF (accs L)) 0
    rw [lk_at_none hk] at this
    exact Option.map_eq_none_iff.1 this)).1] at h2
  simp -dsimp -implicitDefEqProofs (disch := omega) only [go_sem, reqD_of, dec_t, dec_f, wrap_i64, wrap_u32, wrap_u64, wrap_u8, h2.cl T, h2.cl P, h2.drew.cl T, h2.drew.cl P, h2.rowH P 4 rfl, h2.drew.rowH P 4 rfl]
  refine h2.drew.lit (n := 1) (cells := accL a v) fact_rowTy_38 rfl (by decide) (by decide) fun v3 w3 h3 => ?_
  obtain ⟨a3, c3, rfl, _⟩ := h3.rowForm v3
  simp -dsimp -implicitDefEqProofs (disch := omega) only [go_sem, reqD_of, dec_t, dec_f, wrap_i64, wrap_u32, wrap_u64, wrap_u8, h3.cl T, h3.cl P, h3.rowH P 4 rfl]
  refine h3.appR (v := .slice av L.length cv) (x := .slice a3 1 c3) fact_rowTy_38 Tryz.underlying38 (fun u hu => by simp at hu; rcases hu with rfl | rfl | rfl | rfl <;> first | rfl | exact hv) (by simp) (show _ ≤ 9223372036854775807 by omega) (by omega) fun v4 w4 h4 => ?_
  obtain ⟨a4, c4, rfl, _⟩ := h4.rowForm v4
  simp -dsimp -implicitDefEqProofs (disch := omega) only [go_sem, reqD_of, dec_t, dec_f, wrap_i64, wrap_u32, wrap_u64, wrap_u8, h4.cl T, h4.cl P, h4.rowH P 4 rfl]
  refine h4.sto (b := T) (off := 0) (by simp) rfl fun w5 h5 => ?_
  simp only [List.setIfInBounds_toArray, List.set_cons_zero] at h5
  simp -dsimp -implicitDefEqProofs (disch := omega) only [go_sem, reqD_of, dec_t, dec_f, wrap_i64, wrap_u32, wrap_u64, wrap_u8]
  refine ⟨.slice a4 (L.length + 1) c4, ?_⟩
  have e1 : (L ++ [(a, v)]).length = L.length + 1 := by simp
  have e2 : (L ++ [(a, v)]).flatMap accC = L.flatMap accC ++ accL a v := by simp
  have e3 : atF (accs (L ++ [(a, v)])) = atF (accs L) ++ [(a.name, .int .i64 (L.length : Nat))] := by
    rw [show accs (L ++ [(a, v)]) = accs L ++ [a] by simp, atF_snoc]; simp
  unfold TabQ
  rw [e1, e2, e3]
  exact h5.sub
end
end Go.Proofs.YtkijkoakloacoaaGreatDoor

namespace Go.Proofs.YtkijkoakloacoaaGreatDoor
open Go
set_option linter.unusedVariables false
set_option linter.unusedSimpArgs false
set_option maxRecDepth 100000

/-- A look-up of a name, as its being known. -/
theorem lk_at_cases (L : List Acc) (n : List UInt8) : (known L n = false ∧ lk n (atF L) = none) ∨ (known L n = true ∧ ∃ i, lk n (atF L) = some (.int .i64 (i : Nat))) := by
  cases h : known L n
  · exact .inl ⟨rfl, lk_at_none h⟩
  · obtain ⟨i, _, h1, _⟩ := lk_at_some h
    exact .inr ⟨rfl, i, h1⟩
theorem lkV_at (L : List Acc) (n : List UInt8) : ∃ z : Int, lkV (.int .i64 0) true (lk n (atF L)) = .tuple #[.int .i64 z, .bool (known L n)] := by
  rcases lk_at_cases L n with ⟨h1, h2⟩ | ⟨h1, i, h2⟩
  · exact ⟨0, by rw [h1, h2]; rfl⟩
  · exact ⟨i, by rw [h1, h2]; rfl⟩

section
attribute [local go_sem] F34.t8_eq F34.t5_eq
theorem named_any {w0 w : World} {A : HP} {T m : Nat} {vl vi : Value} {L : List AV} {a : Acc} {v : Value} (h : St w0 (TabQ T m vl vi L * A) w) (hv : Ent A (ReadsT v a.members)) (hf : Fit a) :
    Calls Tryz.prog 34 #[.pointer (some ⟨T, 0, none⟩), accV a v] w fun e w' => St w0 (TabQ T m vl vi L * A) w' ∧ ((namedF (accs L) a = true ∧ e = .returned (.tuple #[])) ∨ (namedF (accs L) a = false ∧ e = .panicked (trouble 62))) := by
  obtain ⟨av, cv, rfl, hcv, hx⟩ := h.right.texts hv
  refine F34.calls (by simp) ?_
  unfold F34.code
  simp -dsimp -implicitDefEqProofs (disch := omega) only [go_sem, reqD_of, dec_t, dec_f, wrap_i64, wrap_u32, wrap_u64, wrap_u8]
  refine h.new fun P w1 h1 => ?_
  simp -dsimp -implicitDefEqProofs (disch := omega) only [go_sem, reqD_of, dec_t, dec_f, wrap_i64, wrap_u32, wrap_u64, wrap_u8, h1.cl T, h1.cl P, h1.drew.cl T, h1.drew.cl P]
  refine h1.drew.lkH (b := m) (x := a.leader) Tryz.underlying64 lawS zero_int ?_
  obtain ⟨z, hz⟩ := lkV_at (accs L) a.leader
  rw [hz]
  have hlist : (a.leader == ([] : List UInt8)) = decide (a.leader = []) := strEq_beq _ _
  cases hkl : known (accs L) a.leader
  case' false =>
    by_cases hl : a.leader = []
    case' pos =>
      have e0 : decide (a.leader = []) = true := by simp [hl]
      simp -dsimp -implicitDefEqProofs (disch := omega) only [go_sem, reqD_of, dec_t, dec_f, wrap_i64, wrap_u32, wrap_u64, wrap_u8, h1.cl T, h1.cl P, h1.drew.cl T, h1.drew.cl P, e0]
      refine (need_st h1.drew _ _).mono ?_
      rintro e w5 ⟨h5, ⟨_, rfl⟩ | ⟨n2, rfl⟩⟩
      case inr => cases n2
      have n2 : (a.leader == [] || known (accs L) a.leader) = true := by simp [hl]
      simp -dsimp -implicitDefEqProofs (disch := omega) only [go_sem, reqD_of, dec_t, dec_f, wrap_i64, wrap_u32, wrap_u64, wrap_u8, h5.cl P]
    case' neg =>
      simp -dsimp -implicitDefEqProofs (disch := omega) only [go_sem, reqD_of, dec_t, dec_f, wrap_i64, wrap_u32, wrap_u64, wrap_u8, h1.cl T, h1.cl P, h1.drew.cl T, h1.drew.cl P, hl]
      refine (need_st h1.drew _ _).mono ?_
      rintro e w5 ⟨h5, ⟨n2, rfl⟩ | ⟨_, rfl⟩⟩
      case inl => cases n2
      have hn : namedF (accs L) a = false := by simp [namedF, hkl, hl]
      simp -dsimp -implicitDefEqProofs (disch := omega) only [go_sem, reqD_of, dec_t, dec_f, wrap_i64, wrap_u32, wrap_u64, wrap_u8, hn]
      exact h5.right
  case' true =>
    simp -dsimp -implicitDefEqProofs (disch := omega) only [go_sem, reqD_of, dec_t, dec_f, wrap_i64, wrap_u32, wrap_u64, wrap_u8, h1.cl T, h1.cl P, h1.drew.cl T, h1.drew.cl P]
    refine (need_st h1.drew _ _).mono ?_
    rintro e w5 ⟨h5, ⟨_, rfl⟩ | ⟨n2, rfl⟩⟩
    case inr => cases n2
    have n2 : (a.leader == [] || known (accs L) a.leader) = true := by simp [hkl]
    simp -dsimp -implicitDefEqProofs (disch := omega) only [go_sem, reqD_of, dec_t, dec_f, wrap_i64, wrap_u32, wrap_u64, wrap_u8, h5.cl P]
  all_goals
    refine loop_intro (fun e w' => e.ds = [] ∧ e.ρ 0 = .pointer (some ⟨T, 0, none⟩) ∧ e.ρ 28 = .slice av a.members.length cv ∧ e.ρ 29 = .int .i64 a.members.length ∧
        St w0 (TabQ T m vl vi L * A) w' ∧ ∃ i : Nat, i ≤ a.members.length ∧ e.ρ 30 = .int .i64 i ∧ a.members.all (known (accs L)) = (a.members.drop i).all (known (accs L)))
      (fun e _ => match e.ρ 30 with | .int _ n => (a.members.length - n).toNat | _ => 0) ?_ ?_
    · exact ⟨rfl, by simp -dsimp -implicitDefEqProofs only [go_sem], by simp -dsimp -implicitDefEqProofs only [go_sem], by simp -dsimp -implicitDefEqProofs only [go_sem], h5.right, 0, by omega, by simp -dsimp -implicitDefEqProofs only [go_sem], rfl⟩
    clear h5 h1 hx
    rintro e w6 ⟨hd, e0, e28, e29, h6, i, hi, e30, hk⟩
    obtain ⟨hf1, hf2⟩ := hf
    by_cases hlt : (i : Int) < (a.members.length : Int)
    case neg =>
      have : a.members.drop i = [] := List.drop_of_length_le (by omega)
      rw [this, List.all_nil] at hk
      have hn : namedF (accs L) a = true := by rw [namedF, n2, hk]; rfl
      simp -dsimp -implicitDefEqProofs (disch := omega) only [go_sem, reqD_of, dec_t, dec_f, wrap_i64, wrap_u32, wrap_u64, wrap_u8, hd, e0, e28, e29, e30, hlt, hn]
      exact h6
    have hlt' : i < a.members.length := by omega
    obtain ⟨b, o, rfl, hcell⟩ := (h6.ent ((Ent.right _ _).trans hv)).atS (a := av) (n := a.members.length) (c := cv) (xs := a.members.map sv) (k := i) (by simpa using hlt')
    rw [List.getElem_map] at hcell
    have hdr : a.members.drop i = a.members[i] :: a.members.drop (i + 1) := List.drop_eq_getElem_cons hlt'
    obtain ⟨q, hq⟩ : ∃ q, q = a.members[i] := ⟨_, rfl⟩
    rw [← hq] at hdr hcell
    rw [hdr, List.all_cons] at hk
    simp -dsimp -implicitDefEqProofs (disch := omega) only [go_sem, reqD_of, dec_t, dec_f, wrap_i64, wrap_u32, wrap_u64, wrap_u8, hd, e0, e28, e29, e30, hlt, hcell, h6.cl T]
    refine h6.lkH (b := m) (x := q) Tryz.underlying64 lawS zero_int ?_
    obtain ⟨z, hz⟩ := lkV_at (accs L) q
    rw [hz]
    simp -dsimp -implicitDefEqProofs (disch := omega) only [go_sem, reqD_of, dec_t, dec_f, wrap_i64, wrap_u32, wrap_u64, wrap_u8, hd, e0, e28, e29, e30]
    refine (need_st h6 _ _).mono ?_
    rintro e' w8 ⟨h8, ⟨n3, rfl⟩ | ⟨n3, rfl⟩⟩
    · rw [n3, Bool.true_and] at hk
      simp -dsimp -implicitDefEqProofs (disch := omega) only [go_sem, reqD_of, dec_t, dec_f, wrap_i64, wrap_u32, wrap_u64, wrap_u8, hd, e0, e28, e29, e30]
      exact ⟨⟨h8, i + 1, by omega, by omega, hk⟩, by omega⟩
    · have hn : namedF (accs L) a = false := by rw [n3, Bool.false_and] at hk; rw [namedF, hk, Bool.and_false]
      simp -dsimp -implicitDefEqProofs (disch := omega) only [go_sem, reqD_of, dec_t, dec_f, wrap_i64, wrap_u32, wrap_u64, wrap_u8, hd, hn]
      exact h8
end
end Go.Proofs.YtkijkoakloacoaaGreatDoor

namespace Go.Proofs.YtkijkoakloacoaaGreatDoor
open Go
set_option linter.unusedVariables false
set_option linter.unusedSimpArgs false
set_option maxRecDepth 100000

abbrev InL := List (Pr × Value)
def InOk (L : List Acc) (inl : InL) : Prop := ∀ u g, (lk (u, g) inl).isSome = memberF L u g
/-- .. and of the first k members of a. -/
def InPart (L : List Acc) (a : Acc) (k : Nat) (inl : InL) : Prop := ∀ u g, (lk (u, g) inl).isSome = true ↔ (memberF L u g = true ∨ (a.name = g ∧ (u = a.name ∨ u ∈ a.members.take k)))
theorem lk_upd_some {x y : Pr} {v : Value} {l : InL} : (lk x (upd y v l)).isSome = true ↔ (x = y ∨ (lk x l).isSome = true) := by
  rw [lk_upd]
  by_cases h : x = y
  · simp [h]
  · simp [h]
theorem memberF_iff {L : List Acc} {u g : List UInt8} : memberF L u g = true ↔ ∃ a ∈ L, a.name = g ∧ (u = a.name ∨ u ∈ a.members) := by
  simp [memberF, List.any_eq_true]
theorem InPart.first {L : List Acc} {a : Acc} {inl : InL} {v : Value} (h : InOk L inl) : InPart L a 0 (upd (a.name, a.name) v inl) := by
  intro u g
  rw [lk_upd_some, h]
  simp only [List.take_zero, List.not_mem_nil, or_false, Prod.mk.injEq]
  constructor
  · rintro (⟨rfl, rfl⟩ | h)
    · exact .inr ⟨rfl, rfl⟩
    · exact .inl h
  · rintro (h | ⟨rfl, rfl⟩)
    · exact .inr h
    · exact .inl ⟨rfl, rfl⟩
theorem InPart.next {L : List Acc} {a : Acc} {inl : InL} {v : Value} {k : Nat} (h : InPart L a k inl) (hk : k < a.members.length) : InPart L a (k + 1) (upd (a.members[k], a.name) v inl) := by
  intro u g
  rw [lk_upd_some, h, List.take_succ_eq_append_getElem hk]
  simp only [Prod.mk.injEq, List.mem_append, List.mem_singleton]
  constructor
  · rintro (⟨rfl, rfl⟩ | h | ⟨h1, h2⟩)
    · exact .inr ⟨rfl, .inr (.inr rfl)⟩
    · exact .inl h
    · exact .inr ⟨h1, h2.imp id .inl⟩
  · rintro (h | ⟨h1, h2 | h2 | h2⟩)
    · exact .inr (.inl h)
    · exact .inr (.inr ⟨h1, .inl h2⟩)
    · exact .inr (.inr ⟨h1, .inr h2⟩)
    · exact .inl ⟨h2, h1.symm⟩
theorem InPart.last {L : List Acc} {i : Nat} {inl : InL} {k : Nat} (hi : i < L.length) (h : InPart (L.take i) L[i] k inl) (hk : L[i].members.length ≤ k) : InOk (L.take (i + 1)) inl := by
  intro u g
  rw [Bool.eq_iff_iff, h, List.take_of_length_le hk, memberF_iff, memberF_iff, List.take_succ_eq_append_getElem hi]
  constructor
  · rintro (⟨a, h1, h2⟩ | h)
    · exact ⟨a, List.mem_append_left _ h1, h2⟩
    · exact ⟨L[i], List.mem_append_right _ (List.mem_singleton.2 rfl), h⟩
  · rintro ⟨a, h1, h2⟩
    rcases List.mem_append.1 h1 with h1 | h1
    · exact .inl ⟨a, h1, h2⟩
    · simp only [List.mem_singleton] at h1
      subst h1
      exact .inr h2

section
attribute [local go_sem] F35.t10_eq F35.t8_eq F35.t11_eq F35.t4_eq
theorem join_any {w0 w : World} {A : HP} {T m : Nat} {vl vi : Value} {L : List AV} (h : St w0 (TabQ T m vl vi L * A) w) (hm : MsOk A L) (hl : (textF (accs L)).length ≤ 70368744177664) (hn : L.length ≤ 70368744177664) :
    Calls Tryz.prog 35 #[.pointer (some ⟨T, 0, none⟩)] w fun e w' =>
      (joinF (accs L) = true ∧ (∃ mi inl, InOk (accs L) inl ∧ St w0 (TabQ T m vl (.map (some mi)) L * (MapP encPr mi inl * A)) w') ∧ e = .returned (.tuple #[])) ∨
      (joinF (accs L) = false ∧ St w0 (TabQ T m vl vi L * A) w' ∧ e = .panicked (trouble 1)) := by
  obtain ⟨av, cv, rfl, _⟩ := h.rowForm vl
  refine F35.calls (by simp) ?_
  unfold F35.code
  simp -dsimp -implicitDefEqProofs (disch := omega) only [go_sem, reqD_of, dec_t, dec_f, wrap_i64, wrap_u32, wrap_u64, wrap_u8]
  refine (text_any h hm hl hn).mono ?_
  rintro e w1 ⟨h1, rfl⟩
  simp -dsimp -implicitDefEqProofs (disch := omega) only [go_sem, reqD_of, dec_t, dec_f, wrap_i64, wrap_u32, wrap_u64, wrap_u8]
  refine (need_st h1 _ _).mono ?_
  have hj : decide (((textF (accs L)).length : Int) ≤ 65536) = joinF (accs L) := decide_eq_decide.2 (by omega)
  rintro e w2 ⟨h2, ⟨n1, rfl⟩ | ⟨n1, rfl⟩⟩
  case inr =>
    rw [hj] at n1
    simp -dsimp -implicitDefEqProofs (disch := omega) only [go_sem, reqD_of, dec_t, dec_f, wrap_i64, wrap_u32, wrap_u64, wrap_u8, n1]
    exact h2
  rw [hj] at n1
  simp -dsimp -implicitDefEqProofs (disch := omega) only [go_sem, reqD_of, dec_t, dec_f, wrap_i64, wrap_u32, wrap_u64, wrap_u8, n1]
  refine St.makeMap (enc := encPr) h2 fun mi w3 h3 => ?_
  simp -dsimp -implicitDefEqProofs (disch := omega) only [go_sem, reqD_of, dec_t, dec_f, wrap_i64, wrap_u32, wrap_u64, wrap_u8]
  refine h3.sto (b := T) (off := 2) (by simp) rfl fun w4 h4 => ?_
  simp only [List.setIfInBounds_toArray, List.set_cons_succ, List.set_cons_zero] at h4
  simp -dsimp -implicitDefEqProofs (disch := omega) only [go_sem, reqD_of, dec_t, dec_f, wrap_i64, wrap_u32, wrap_u64, wrap_u8, h4.cl T]
  refine loop_intro (fun e w' => e.ds = [] ∧ e.ρ 0 = .pointer (some ⟨T, 0, none⟩) ∧ e.ρ 18 = .slice av L.length cv ∧ e.ρ 19 = .int .i64 L.length ∧
      ∃ (i : Nat) (inl : InL), i ≤ L.length ∧ e.ρ 20 = .int .i64 i ∧ InOk ((accs L).take i) inl ∧ St w0 (TabQ T m (.slice av L.length cv) (.map (some mi)) L * (MapP encPr mi inl * A)) w')
    (fun e _ => match e.ρ 20 with | .int _ n => (L.length - n).toNat | _ => 0) ?_ ?_
  · exact ⟨rfl, by simp -dsimp -implicitDefEqProofs only [go_sem], by simp -dsimp -implicitDefEqProofs only [go_sem], by simp -dsimp -implicitDefEqProofs only [go_sem], 0, [], by omega, by simp -dsimp -implicitDefEqProofs only [go_sem], fun u g => by simp [memberF, lk], h4.sub⟩
  clear h h1 h2 h3 h4
  rintro e w5 ⟨hd, e0, e18, e19, i, inl, hi, e20, hin, h5⟩
  by_cases hlt : (i : Int) < (L.length : Int)
  case neg =>
    rw [List.take_of_length_le (by simp; omega)] at hin
    simp -dsimp -implicitDefEqProofs (disch := omega) only [go_sem, reqD_of, dec_t, dec_f, wrap_i64, wrap_u32, wrap_u64, wrap_u8, hd, e0, e18, e19, e20, hlt]
    exact ⟨n1, mi, inl, hin, h5⟩
  have hlt' : i < L.length := by omega
  obtain ⟨_, a', c', hv', _, hrow⟩ := St.rowsAt accC_len (by decide) (h5.gives (B := Reads 4 (.slice av L.length cv) L.length (L.flatMap accC)))
  simp only [Value.slice.injEq, true_and] at hv'
  obtain ⟨rfl, rfl⟩ := hv'
  obtain ⟨b, o, rfl, hr, _⟩ := hrow i hlt'
  have hx := hm _ (List.getElem_mem hlt')
  have hgi : (accs L)[i]'(by simpa using hlt') = L[i].1 := by simp
  obtain ⟨x, hxe⟩ : ∃ x, x = L[i] := ⟨_, rfl⟩
  rw [← hxe] at hr hx hgi
  obtain ⟨a, v⟩ := x
  obtain ⟨hx1, hx2, hx3⟩ := hx
  simp only at hx1 hx2 hx3 hgi
  simp -dsimp -implicitDefEqProofs (disch := omega) only [go_sem, reqD_of, dec_t, dec_f, wrap_i64, wrap_u32, wrap_u64, wrap_u8, hd, e0, e18, e19, e20, hlt, hr]
  refine h5.new fun P w6 h6 => ?_
  simp -dsimp -implicitDefEqProofs (disch := omega) only [go_sem, reqD_of, dec_t, dec_f, wrap_i64, wrap_u32, wrap_u64, wrap_u8, hd, e0, e18, e19, e20]
  refine h6.stoAll (b := P) (n := 4) (cs := accL a v) rfl rfl (fun v hv => by simp at hv; rcases hv with rfl | rfl | rfl | rfl <;> first | rfl | exact hx3) fun w7 h7 => ?_
  simp -dsimp -implicitDefEqProofs (disch := omega) only [go_sem, reqD_of, dec_t, dec_f, wrap_i64, wrap_u32, wrap_u64, wrap_u8, hd, e0, e18, e19, e20, h7.cl T, h7.cl P, h7.drew.cl T, h7.drew.cl P]
  refine onV_of (v := encPr (a.name, a.name)) (by kernel_rfl) ?_
  simp -dsimp -implicitDefEqProofs (disch := omega) only [go_sem, reqD_of, dec_t, dec_f, wrap_i64, wrap_u32, wrap_u64, wrap_u8, h7.cl T, h7.cl P, h7.drew.cl T, h7.drew.cl P]
  refine h7.drew.updH (b := mi) (x := (a.name, a.name)) Tryz.underlying65 lawPr fun w8 h8 => ?_
  obtain ⟨cvm, avm, rfl, hcvm⟩ : ∃ c x, v = .slice x a.members.length c ∧ a.members.length ≤ c := by
    obtain ⟨x, c, e, hc, _⟩ := h5.right.right.texts hx1
    exact ⟨c, x, e, hc⟩
  simp -dsimp -implicitDefEqProofs (disch := omega) only [go_sem, reqD_of, dec_t, dec_f, wrap_i64, wrap_u32, wrap_u64, wrap_u8, hd, e0, e18, e19, e20, h8.cl T, h8.cl P, h8.drew.cl P]
  obtain ⟨hf1, hf2⟩ := hx2
  have hp0 : InPart ((accs L).take i) a 0 (upd (a.name, a.name) (.int .i64 (i : Nat)) inl) := InPart.first hin
  refine loop_intro (fun e w' => e.ds = [] ∧ e.ρ 0 = .pointer (some ⟨T, 0, none⟩) ∧ e.ρ 2 = .int .i64 i ∧ e.ρ 3 = .pointer (some ⟨P, 0, none⟩) ∧ e.ρ 18 = .slice (some ⟨b, o, none⟩) L.length cv ∧ e.ρ 19 = .int .i64 L.length ∧ e.ρ 20 = .int .i64 i ∧
      e.ρ 36 = .slice avm a.members.length cvm ∧ e.ρ 37 = .int .i64 a.members.length ∧
      ∃ (k : Nat) (inl : InL), k ≤ a.members.length ∧ e.ρ 38 = .int .i64 k ∧ InPart ((accs L).take i) a k inl ∧ St w0 (TabQ T m (.slice (some ⟨b, o, none⟩) L.length cv) (.map (some mi)) L * (MapP encPr mi inl * (Blk P (.cells (accL a (.slice avm a.members.length cvm)).toArray 72 (0, 0)) * A))) w')
    (fun e _ => match e.ρ 38 with | .int _ n => (a.members.length - n).toNat | _ => 0) ?_ ?_
  · exact ⟨by simp -dsimp -implicitDefEqProofs only [go_sem, hd], by simp -dsimp -implicitDefEqProofs only [go_sem, e0], by simp -dsimp -implicitDefEqProofs only [go_sem], by simp -dsimp -implicitDefEqProofs only [go_sem], by simp -dsimp -implicitDefEqProofs only [go_sem, e18], by simp -dsimp -implicitDefEqProofs only [go_sem, e19], by simp -dsimp -implicitDefEqProofs only [go_sem, e20], by simp -dsimp -implicitDefEqProofs only [go_sem], by simp -dsimp -implicitDefEqProofs only [go_sem], 0, _, by omega, by simp -dsimp -implicitDefEqProofs only [go_sem], hp0, h8.sub⟩
  clear h8 h7 h6 h5 hin hp0 hr inl
  rintro e2 w9 ⟨hd2, f0, f2, f3, f18, f19, f20, f36, f37, k, inl, hk, f38, hp, h9⟩
  by_cases hlk : (k : Int) < (a.members.length : Int)
  case neg =>
    have hin : InOk ((accs L).take (i + 1)) inl := InPart.last (by simpa using hlt') (hgi ▸ hp) (by rw [hgi]; omega)
    simp -dsimp -implicitDefEqProofs (disch := omega) only [go_sem, reqD_of, dec_t, dec_f, wrap_i64, wrap_u32, wrap_u64, wrap_u8, hd2, f0, f2, f3, f18, f19, f20, f36, f37, f38, hlk, hd, e0, e18, e19, e20]
    exact ⟨⟨i + 1, inl, by omega, by omega, hin, h9.sub⟩, by omega⟩
  have hlk' : k < a.members.length := by omega
  obtain ⟨bm, om, rfl, hcell⟩ := (h9.ent ((Ent.right _ _).trans ((Ent.right _ _).trans ((Ent.right _ _).trans hx1)))).atS (a := avm) (n := a.members.length) (c := cvm) (xs := a.members.map sv) (k := k) (by simpa using hlk')
  rw [List.getElem_map] at hcell
  have hp1 := InPart.next (v := .int .i64 (i : Nat)) hp hlk'
  obtain ⟨q, hq⟩ : ∃ q, q = a.members[k] := ⟨_, rfl⟩
  rw [← hq] at hcell hp1
  simp -dsimp -implicitDefEqProofs (disch := omega) only [go_sem, reqD_of, dec_t, dec_f, wrap_i64, wrap_u32, wrap_u64, wrap_u8, hd2, f0, f2, f3, f18, f19, f20, f36, f37, f38, hlk, hcell, h9.cl T, h9.cl P, h9.drew.cl T, h9.drew.cl P]
  refine onV_of (v := encPr (q, a.name)) (by kernel_rfl) ?_
  simp -dsimp -implicitDefEqProofs (disch := omega) only [go_sem, reqD_of, dec_t, dec_f, wrap_i64, wrap_u32, wrap_u64, wrap_u8, h9.cl T, h9.cl P, h9.drew.cl T, h9.drew.cl P]
  refine h9.drew.updH (b := mi) (x := (q, a.name)) Tryz.underlying65 lawPr fun w10 h10 => ?_
  simp -dsimp -implicitDefEqProofs (disch := omega) only [go_sem, reqD_of, dec_t, dec_f, wrap_i64, wrap_u32, wrap_u64, wrap_u8, hd2, f0, f2, f3, f18, f19, f20, f36, f37, f38, h10.cl T, h10.cl P]
  exact ⟨⟨k + 1, _, by omega, by omega, hp1, h10⟩, by omega⟩
end
end Go.Proofs.YtkijkoakloacoaaGreatDoor

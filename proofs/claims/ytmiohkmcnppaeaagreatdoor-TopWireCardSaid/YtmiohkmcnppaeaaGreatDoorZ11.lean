/- A list of qids is put. · Arguments, read out of memory as they came: readers by the type's shape. · Arguments that are rows of plain structs, as rows that are read. · Copies of lists. · A field is moved (printed by gentw2.py). · The other fields are moved. · A field is taken: numbers and texts (printed by gentw3.py). · The other fields are taken: qid, data, names, qids. · Lists of names and of qids are taken. · A list of qids and a record are taken. · A record is taken. · A record is taken, field by field. · The fields' functions (printed by gentw4.py). · Which functions a field has (printed by gentw5.py). -/
import Derived.Test.YtmiohkmcnppaeaaGreatDoorZ1
import Derived.Test.YtmiohkmcnppaeaaGreatDoorZ2
import Derived.Test.YtmiohkmcnppaeaaGreatDoorZ3
import Derived.Test.YtmiohkmcnppaeaaGreatDoorZ4
import Derived.Test.YtmiohkmcnppaeaaGreatDoorZ5
import Derived.Test.YtmiohkmcnppaeaaGreatDoorZ6
import Derived.Test.YtmiohkmcnppaeaaGreatDoorZ7
import Derived.Test.YtmiohkmcnppaeaaGreatDoorZ8
import Derived.Test.YtmiohkmcnppaeaaGreatDoorZ9
import Derived.Test.YtmiohkmcnppaeaaGreatDoorZ10
import Derived.ChangeArms
import Derived.SizedLaws
import Derived.Laws.MakeOwn
namespace Go.Proofs.YtmiohkmcnppaeaaGreatDoor
open Go
set_option linter.unusedVariables false
set_option linter.unusedSimpArgs false
set_option maxRecDepth 100000

abbrev wPB (W : Nat) : Obj := .cells #[.pointer (some ⟨W, 0, none⟩)] 74 (0, 0)
section
variable {w0 w : World} {F : HP} {W M K B : Nat} {s : WS} {m : MsgD} {vn vq vd : Value} {qs : List QidD} {a : Option Addr} {c : Nat}
theorem St.qidAt (h : St w0 F w) (hv : Ent F (Reads 3 (.slice a qs.length c) qs.length (qs.flatMap qidC))) {i : Nat} (hi : i < qs.length) : ∃ g o, a = some ⟨g, o, none⟩ ∧ w.cell? ⟨g, o + i * 3, none⟩ = some (.int .u8 qs[i].k) ∧ w.cell? ⟨g, o + i * 3 + 1, none⟩ = some (.int .u32 qs[i].v) ∧ w.cell? ⟨g, o + i * 3 + 2, none⟩ = some (.int .u64 qs[i].p) := by
  obtain ⟨_, a', c', hv', _, hcl⟩ := St.rowsAt (k := 3) (l := qs) (enc := qidC) (fun _ => rfl) (by decide) (h.ent hv)
  simp only [Value.slice.injEq, true_and] at hv'
  obtain ⟨rfl, rfl⟩ := hv'
  obtain ⟨g, o, rfl, _, hc⟩ := hcl i hi
  exact ⟨g, o, rfl, hc 0 (by decide), hc 1 (by decide), hc 2 (by decide)⟩
theorem St.qidsForm {v : Value} (h : St w0 F w) (hv : Ent F (Reads 3 v qs.length (qs.flatMap qidC))) : ∃ a c, v = .slice a qs.length c := by
  obtain ⟨_, a, c, rfl, _, _⟩ := St.rowsAt (k := 3) (l := qs) (enc := qidC) (fun _ => rfl) (by decide) (h.ent hv)
  exact ⟨a, c, rfl⟩
theorem okQ1 : fnOk Tryz.prog 146 = true := by kernel_rfl

theorem putQ1_any {q : QidD} (ok : WOk s) (hq : QidOk q) (h : St w0 (WP W s * (Blk B (wPB W) * F)) w) :
    Calls Tryz.prog 146 #[.agg (qidC q).toArray, .pointer (some ⟨B, 0, none⟩)] w fun e w' => St w0 (WP W (pcsS (qidPcs q) s) * (Blk B (wPB W) * F)) w' ∧ e = .returned (.tuple #[]) := by
  refine F146.calls (by simp) ?_
  unfold F146.code
  simp -dsimp -implicitDefEqProofs (disch := omega) only [go_sem, reqD_of, dec_t, dec_f, wrap_i64, wrap_u32, wrap_u64, wrap_u8]
  refine h.new fun X w1 h1 => ?_
  simp -dsimp -implicitDefEqProofs (disch := omega) only [go_sem, reqD_of, dec_t, dec_f, wrap_i64, wrap_u32, wrap_u64, wrap_u8, h1.cl X, h1.cl B]
  refine (putQid_any ok hq.1 hq.2.1 hq.2.2 (h1.ac (show _ = WP W s * (Blk X (.cells #[.int .u8 q.k, .int .u32 q.v, .int .u64 q.p] 35 (0, 0)) * (Blk B (wPB W) * F)) by ac_rfl))).mono ?_
  rintro e w2 ⟨h2, rfl⟩
  simp -dsimp -implicitDefEqProofs (disch := omega) only [go_sem, reqD_of, dec_t, dec_f, wrap_i64, wrap_u32, wrap_u64, wrap_u8]
  exact h2.ent (Ent.sep (Ent.rfl' _) (Ent.right _ _))
section
attribute [local go_sem] F145.t5_eq F145.t3_eq
theorem putQids_any (ok : WOk s) (hn : qs.length ≤ 16) (hb : ∀ q ∈ qs, QidOk q) (hv : Ent F (Reads 3 (.slice a qs.length c) qs.length (qs.flatMap qidC))) (h : St w0 (WP W s * (Blk B (wPB W) * F)) w) :
    Calls Tryz.prog 145 #[.pointer (some ⟨W, 0, none⟩), .slice a qs.length c, .func (.func 146) #[] #[.pointer (some ⟨B, 0, none⟩)]] w fun e w' => St w0 (WP W (pcsS (.raw (leN 2 qs.length) :: qs.flatMap qidPcs) s) * (Blk B (wPB W) * F)) w' ∧ e = .returned (.tuple #[]) := by
  refine F145.calls (by simp) ?_
  unfold F145.code
  have hw : IntKind.u16.wrap ((qs.length : Nat) : Int) = (qs.length : Nat) := w16 (by omega)
  simp -dsimp -implicitDefEqProofs (disch := omega) only [go_sem, reqD_of, dec_t, dec_f, wrap_i64, wrap_u32, wrap_u64, wrap_u8, hw]
  refine (U16_any (n := qs.length) ok (by omega) h).mono ?_
  rintro e w1 ⟨h1, rfl⟩
  simp -dsimp -implicitDefEqProofs (disch := omega) only [go_sem, reqD_of, dec_t, dec_f, wrap_i64, wrap_u32, wrap_u64, wrap_u8]
  refine loop_intro (fun e w' => e.ds = [] ∧ e.ρ 2 = .func (.func 146) #[] #[.pointer (some ⟨B, 0, none⟩)] ∧ e.ρ 13 = .slice a qs.length c ∧ e.ρ 14 = .int .i64 qs.length ∧ ∃ i : Nat, i ≤ qs.length ∧ e.ρ 15 = .int .i64 i ∧ St w0 (WP W (pcsS (.raw (leN 2 qs.length) :: (qs.take i).flatMap qidPcs) s) * (Blk B (wPB W) * F)) w')
    (fun e _ => match e.ρ 15 with | .int _ i => (qs.length - i).toNat | _ => 0) ?_ ?_
  · exact ⟨rfl, by simp -dsimp -implicitDefEqProofs only [go_sem], by simp -dsimp -implicitDefEqProofs only [go_sem], by simp -dsimp -implicitDefEqProofs only [go_sem], 0, by omega, by simp -dsimp -implicitDefEqProofs only [go_sem], h1⟩
  clear h h1
  rintro e w ⟨hds, e2, e13, e14, i, hi, e15, h⟩
  have o2 : WOk (pcsS (.raw (leN 2 qs.length) :: (qs.take i).flatMap qidPcs) s) := ok.pcs
  by_cases hlt : (i : Int) < qs.length
  · have hil : i < qs.length := by omega
    obtain ⟨g, o, rfl, c0, c1, c2⟩ := h.qidAt ((Ent.right _ _).trans ((Ent.right _ _).trans hv)) hil
    have hqo := hb _ (List.getElem_mem hil)
    obtain ⟨q, hq⟩ : ∃ q, q = qs[i] := ⟨_, rfl⟩
    rw [← hq] at c0 c1 c2 hqo
    simp -dsimp -implicitDefEqProofs (disch := omega) only [go_sem, reqD_of, dec_t, dec_f, wrap_i64, wrap_u32, wrap_u64, wrap_u8, hds, e2, e13, e14, e15, hlt, c0, c1, c2]
    refine h.new fun X w1 h1 => ?_
    simp -dsimp -implicitDefEqProofs (disch := omega) only [go_sem, reqD_of, dec_t, dec_f, wrap_i64, wrap_u32, wrap_u64, wrap_u8]
    refine h1.stoAll (b := X) (n := 3) (cs := qidC q) rfl rfl (fun y hy => by simp only [qidC, List.mem_cons, List.not_mem_nil, or_false] at hy; rcases hy with rfl | rfl | rfl <;> rfl) fun w2 h2 => ?_
    simp -dsimp -implicitDefEqProofs (disch := omega) only [go_sem, reqD_of, dec_t, dec_f, wrap_i64, wrap_u32, wrap_u64, wrap_u8, hds, e2, e13, e14, e15, h2.cl X, okQ1, callY_clos]
    refine (putQ1_any (q := q) o2 hqo (h2.ac (show _ = WP W (pcsS (.raw (leN 2 qs.length) :: (qs.take i).flatMap qidPcs) s) * (Blk B (wPB W) * (F * Blk X (.cells (qidC q).toArray 35 (0, 0)))) by ac_rfl))).mono ?_
    rintro e' w3 ⟨h3, rfl⟩
    simp -dsimp -implicitDefEqProofs (disch := omega) only [go_sem, reqD_of, dec_t, dec_f, wrap_i64, wrap_u32, wrap_u64, wrap_u8, hds, e2, e13, e14, e15]
    refine ⟨⟨i + 1, by omega, by omega, ?_⟩, by omega⟩
    have e1 : pcsS (.raw (leN 2 qs.length) :: (qs.take (i + 1)).flatMap qidPcs) s = pcsS (qidPcs q) (pcsS (.raw (leN 2 qs.length) :: (qs.take i).flatMap qidPcs) s) := by
      rw [List.take_succ_eq_append_getElem hil, ← hq]
      simp only [List.flatMap_append, List.flatMap_cons, List.flatMap_nil, List.append_nil, pcsS, List.foldl_append, List.foldl_cons, List.foldl_nil]
    rw [e1]
    exact h3.ent (Ent.sep (Ent.rfl' _) (Ent.sep (Ent.rfl' _) (Ent.left _ _)))
  · obtain rfl : i = qs.length := by omega
    rw [List.take_of_length_le (by omega)] at h
    simp -dsimp -implicitDefEqProofs (disch := omega) only [go_sem, reqD_of, dec_t, dec_f, wrap_i64, wrap_u32, wrap_u64, wrap_u8, hds, e2, e13, e14, e15, hlt]
    exact h
end

theorem put10 (ok : WOk s) (hm : MOk m) (hg : goodF 10 m = true) (hi : MsgI F m vn vq vd) (h : St w0 (WP W s * (Blk M (msgB m vn vq vd) * F)) w) :
    Calls Tryz.prog 144 #[.pointer (some ⟨W, 0, none⟩), .pointer (some ⟨M, 0, none⟩)] w fun e w' => St w0 (WP W (putF 10 m s) * (Blk M (msgB m vn vq vd) * F)) w' ∧ e = .returned (.tuple #[]) := by
  obtain ⟨a, c, rfl⟩ := h.qidsForm ((Ent.right _ _).trans ((Ent.right _ _).trans hi.qids))
  have hg2 : m.qids.length ≤ 16 := by simpa [goodF] using hg
  refine F144.calls (by simp) ?_
  unfold F144.code
  simp -dsimp -implicitDefEqProofs (disch := omega) only [go_sem, reqD_of, dec_t, dec_f, wrap_i64, wrap_u32, wrap_u64, wrap_u8]
  refine h.new fun B w1 h1 => ?_
  have hD := h1.drew
  simp -dsimp -implicitDefEqProofs (disch := omega) only [go_sem, reqD_of, dec_t, dec_f, wrap_i64, wrap_u32, wrap_u64, wrap_u8, h1.cl M, h1.cl B, hD.cl M, hD.cl B]
  refine (putQids_any (qs := m.qids) ok hg2 hm.qids1 ((Ent.right _ _).trans hi.qids) (hD.ac (show _ = WP W s * (Blk B (wPB W) * (Blk M (msgB m vn (.slice a m.qids.length c) vd) * F)) by ac_rfl))).mono ?_
  rintro e w2 ⟨h2, rfl⟩
  simp -dsimp -implicitDefEqProofs (disch := omega) only [go_sem, reqD_of, dec_t, dec_f, wrap_i64, wrap_u32, wrap_u64, wrap_u8]
  exact h2.ent (Ent.sep (Ent.rfl' _) (Ent.right _ _))
end
end Go.Proofs.YtmiohkmcnppaeaaGreatDoor

namespace Go.Proofs.YtmiohkmcnppaeaaGreatDoor
open Go

/-- A way to read a row of cells, in a memory, as something; it stays in a greater memory. -/
structure Rdr (α : Type) where
  rel : α → List Value → Heap → Prop
  mono : ∀ {x cs h h'}, hle h h' → rel x cs h → rel x cs h'

def rInt (k : IntKind) : Rdr Int := ⟨fun n cs _ => cs = [.int k n] ∧ (Lit.int k n).wf = true, fun _ h => h⟩
def rBool : Rdr Bool := ⟨fun b cs _ => cs = [.bool b], fun _ h => h⟩
def rStr : Rdr ByteArray := ⟨fun s cs _ => cs = [.string s] ∧ s.size ≤ reachBytes, fun _ h => h⟩
def rEnd : Rdr Unit := ⟨fun _ cs _ => cs = [], fun _ h => h⟩
def rCons {α β : Type} (n : Nat) (R : Rdr α) (S : Rdr β) : Rdr (α × β) :=
  ⟨fun x cs h => ∃ c1 c2, cs = c1 ++ c2 ∧ c1.length = n ∧ R.rel x.1 c1 h ∧ S.rel x.2 c2 h, fun hl ⟨c1, c2, e, l, a, b⟩ => ⟨c1, c2, e, l, R.mono hl a, S.mono hl b⟩⟩
def rSlice {α : Type} (s b : Nat) (R : Rdr α) : Rdr (List α) :=
  ⟨fun xs cs h => ∃ a cap, cs = [.slice a xs.length cap] ∧ xs.length ≤ cap ∧ cap ≤ maxLen ∧ xs.length * b ≤ reachBytes ∧
    (xs = [] ∨ ∃ g o cur T fr, a = some ⟨g, o, none⟩ ∧ h g = some (.cells cur T fr) ∧ ∀ j (hj : j < xs.length), ((cur.toList.drop (o + j * s)).take s).length = s ∧ R.rel xs[j] ((cur.toList.drop (o + j * s)).take s) h),
   by
    rintro xs cs h h' hl ⟨a, cap, e, l, m, r, k⟩
    refine ⟨a, cap, e, l, m, r, ?_⟩
    rcases k with k | ⟨g, o, cur, T, fr, ea, hg, hj⟩
    · exact .inl k
    · exact .inr ⟨g, o, cur, T, fr, ea, hl _ _ hg, fun j hj' => ⟨(hj j hj').1, R.mono hl (hj j hj').2⟩⟩⟩
theorem Reads.mono {s n : Nat} {v : Value} {xs : List Value} {h h' : Heap} (hl : hle h h') (k : Reads s v n xs h) : Reads s v n xs h' := by
  obtain ⟨l, a, c, hv, hnc, hr⟩ := k
  exact ⟨l, a, c, hv, hnc, hr.imp id fun ⟨b, o, cur, T, fr, ha, hg, hj⟩ => ⟨b, o, cur, T, fr, ha, hl _ _ hg, hj⟩⟩
def rBytes : Rdr (List UInt8) :=
  ⟨fun bs cs h => ∃ v, cs = [v] ∧ RdB v bs h ∧ bs.length ≤ reachBytes, fun hl ⟨v, e, k, hb⟩ => ⟨v, e, Reads.mono hl k, hb⟩⟩

/-- What the reader says of these cells, as a part of memory. -/
def Rdr.at {α : Type} (R : Rdr α) (x : α) (cs : List Value) : HP := fun h => R.rel x cs h

theorem Rdr.old {α : Type} {R : Rdr α} {x : α} {cs : List Value} {w0 : World} (h : R.rel x cs (heapOf w0)) : Ent (Old w0) (R.at x cs) :=
  Ent.of fun _ ho => R.mono (fun b o e => ho b o e) h

theorem St.sat' {w0 w : World} {A : HP} (h : St w0 A w) : ∃ x, hle x (heapOf w) ∧ A x := h.sat

/-- What a reader says, said of the world at hand. -/
theorem St.reader {α : Type} {R : Rdr α} {x : α} {cs : List Value} {w0 w : World} {F : HP} (h : St w0 F w) (k : Ent F (R.at x cs)) : R.rel x cs (heapOf w) := by
  obtain ⟨y, l, hy⟩ := (h.ent k).sat
  exact R.mono l hy

/-- A slice that came in: its form, and its elements' cells. -/
theorem Rdr.slice {α : Type} {s b : Nat} {R : Rdr α} {xs : List α} {v : Value} {h : Heap} (k : (rSlice s b R).rel xs [v] h) :
    ∃ a cap, v = .slice a xs.length cap ∧ xs.length ≤ cap ∧ cap ≤ maxLen ∧ xs.length * b ≤ reachBytes := by
  obtain ⟨a, cap, e, l, m, r, _⟩ := k
  simp only [List.cons.injEq, and_true] at e
  exact ⟨a, cap, e, l, m, r⟩

/-- An element of a slice that came in: where its cells lie, and that they read so, whatever turned since. -/
theorem Rdr.elem {α : Type} {s b : Nat} {R : Rdr α} {xs : List α} {a : Option Addr} {n cap j : Nat} {F : HP} (k : Ent F ((rSlice s b R).at xs [.slice a n cap])) {w0 w : World} (hw : St w0 F w) (hj : j < xs.length) :
    ∃ g o cs, a = some ⟨g, o, none⟩ ∧ cs.length = s ∧ (∀ i, i < s → w.cell? ⟨g, o + j * s + i, none⟩ = cs[i]?) ∧ R.rel xs[j] cs (heapOf w) := by
  obtain ⟨a', cap', e, _, _, _, hr⟩ := hw.reader k
  simp only [List.cons.injEq, Value.slice.injEq, and_true] at e
  obtain ⟨rfl, rfl, rfl⟩ := e
  rcases hr with rfl | ⟨g, o, cur, T, fr, rfl, hg, hr⟩
  · simp at hj
  · obtain ⟨hl, hx⟩ := hr j hj
    refine ⟨g, o, _, rfl, hl, fun i hi => ?_, hx⟩
    rw [cell_of_heap hg, List.getElem?_take, if_pos hi, List.getElem?_drop]
    simp

/-- An element read as a part of memory that stays. -/
theorem Rdr.elemEnt {α : Type} {s b : Nat} {R : Rdr α} {xs : List α} {a : Option Addr} {n cap j : Nat} {w0 : World} (k : Ent (Old w0) ((rSlice s b R).at xs [.slice a n cap])) (hj : j < xs.length) :
    ∃ g o cs, a = some ⟨g, o, none⟩ ∧ cs.length = s ∧ Ent (Old w0) (R.at xs[j] cs) ∧ ∀ (F : HP) (u : World), St w0 (Old w0 * F) u → ∀ i, i < s → u.cell? ⟨g, o + j * s + i, none⟩ = cs[i]? := by
  obtain ⟨a', cap', e, _, _, _, hr⟩ := (St.start w0).reader k
  simp only [List.cons.injEq, Value.slice.injEq, and_true] at e
  obtain ⟨rfl, rfl, rfl⟩ := e
  rcases hr with rfl | ⟨g, o, cur, T, fr, rfl, hg, hr⟩
  · simp at hj
  · obtain ⟨hl, hx⟩ := hr j hj
    refine ⟨g, o, _, rfl, hl, Rdr.old hx, fun F w hw i hi => ?_⟩
    obtain ⟨y, l, h1, h2, hd, l1, l2, ho, _⟩ := hw.sat
    have hgw : w.heap[g]? = some (.cells cur T fr) := l _ _ (l1 _ _ (ho _ _ hg))
    rw [cell_of_heap hgw, List.getElem?_take, if_pos hi, List.getElem?_drop]
    simp

/-! ### From what the row says of an argument to its reader -/

def Opens {α : Type} (P : Program) (t : TypeId) (R : Rdr α) : Prop :=
  ∀ {H : Type} (enc : TypeId × Value → H) (W : World) (sp : Nat → Bool) (fuel : Nat) (cs : List Value) (y : DataW H × List MemPlace),
    DataW.trod enc P W 0 sp true fuel t cs = some y → (∀ n ∈ y.1.weights P t, n ≤ reachBytes) → ∃ x, R.rel x cs (heapOf W)

theorem opens_int {P : Program} {t : TypeId} {k : IntKind} (hu : P.underlying t = some (.int k)) : Opens P t (rInt k) := by
  intro H enc W sp fuel cs y h _
  obtain ⟨n, hc, _, hw⟩ := DataW.trod_int hu h
  exact ⟨n, hc, hw⟩

theorem opens_bool {P : Program} {t : TypeId} (hu : P.underlying t = some .bool) : Opens P t rBool := by
  intro H enc W sp fuel cs y h _
  obtain ⟨b, hc, _⟩ := DataW.trod_bool hu h
  exact ⟨b, hc⟩

theorem opens_str {P : Program} {t : TypeId} (hu : P.underlying t = some .string) : Opens P t rStr := by
  intro H enc W sp fuel cs y h hz
  obtain ⟨s, hc, rfl, _⟩ := DataW.trod_string hu h
  refine ⟨s, hc, ?_⟩
  have := hz s.data.toList.length (by simp [DataW.weights])
  simpa using this

theorem weightsAll_mem {H : Type} {P : Program} {e : TypeId} {d : DataW H} {n : Nat} (hn : n ∈ d.weights P e) : ∀ {l : List (DataW H)}, d ∈ l → n ∈ DataW.weightsAll P e l
  | x :: l, hd => by
    simp only [DataW.weightsAll, List.mem_append]
    rcases List.mem_cons.1 hd with rfl | hd
    · exact .inl hn
    · exact .inr (weightsAll_mem hn hd)

theorem cellsAt {W : World} {a : Addr} {n : Nat} {cs : List Value} (h : W.cells? 0 a n = some cs) (hn : 0 < n) :
    ∃ g o cur T fr, a = ⟨g, o, none⟩ ∧ W.heap[g]? = some (.cells cur T fr) ∧ cs = (cur.toList.drop o).take n ∧ cs.length = n := by
  unfold World.cells? at h
  rw [if_pos (Nat.zero_le _)] at h
  have hl := mapM_some_length h
  have hg := fun i (hi : i < n) => mapM_some_get h i i (by simp [hi])
  simp only [List.length_range] at hl
  obtain ⟨g, o, sp⟩ := a
  have h0 := hg 0 hn
  have hsome : cs[0]? = some cs[0] := List.getElem?_eq_getElem (by omega)
  rw [hsome] at h0
  have hsp : sp = none := by simpa [Addr.add] using World.cell?_spot h0
  subst hsp
  rw [add_lit] at h0
  have hb : ∃ cur T fr, W.heap[g]? = some (.cells cur T fr) := by
    unfold World.cell? at h0
    simp only at h0
    split at h0
    · rename_i cur T fr hx; exact ⟨cur, T, fr, hx⟩
    · cases h0
  obtain ⟨cur, T, fr, hx⟩ := hb
  refine ⟨g, o, cur, T, fr, rfl, hx, ?_, hl⟩
  apply List.ext_getElem?
  intro i
  rw [List.getElem?_take]
  split
  · rename_i hi
    have := hg i hi
    rw [add_lit, cell_of_heap hx] at this
    rw [← this, List.getElem?_drop]
    simp
  · rw [List.getElem?_eq_none]; omega

/-- What each of a row may be, as a row. -/
theorem choose_list {α : Type} {n : Nat} {p : Nat → α → Prop} (h : ∀ i, i < n → ∃ x, p i x) : ∃ xs : List α, xs.length = n ∧ ∀ i (hi : i < xs.length), p i xs[i] := by
  induction n with
  | zero => exact ⟨[], rfl, fun i hi => by simp at hi⟩
  | succ n ih =>
    obtain ⟨xs, hl, hx⟩ := ih fun i hi => h i (by omega)
    obtain ⟨x, hp⟩ := h n (by omega)
    refine ⟨xs ++ [x], by simp [hl], fun i hi => ?_⟩
    rw [List.getElem_append]
    split
    · rename_i h'; exact hx i h'
    · rename_i h'
      have : i = n := by simp at hi; omega
      subst this
      simpa using hp

theorem opens_slice {α : Type} {P : Program} {t e : TypeId} {s b : Nat} {R : Rdr α} (hu : P.underlying t = some (.slice e)) (hs : P.cellsOf e = s) (hb : P.bytesOf e = b) (h0 : 0 < s) (hR : Opens P e R) : Opens P t (rSlice s b R) := by
  intro H enc W sp fuel cs y h hz
  subst hs hb
  rcases DataW.trod_slice hu h with ⟨rfl, rfl⟩ | ⟨a, len, cap, elems, rest, n, rfl, rfl, rfl, _, hlc, hcm, hel, hel2, _, _⟩
  · exact ⟨[], none, 0, rfl, Nat.le_refl _, by simp, by simp, .inl rfl⟩
  · simp only [DataW.weights, hu, List.mem_cons, List.mem_append, List.length_map] at hz
    have hsz : len * P.bytesOf e ≤ reachBytes := by
      have := hz _ (.inl rfl)
      rw [hel] at this
      exact Nat.le_trans (Nat.mul_le_mul_right _ (Nat.le_add_right _ _)) this
    have hel3 : ∀ i, i < len → ∃ x, ∃ cs, W.cells? 0 (a.add (i * P.cellsOf e)) (P.cellsOf e) = some cs ∧ R.rel x cs (heapOf W) := by
      intro i hi
      have h1 := hel2 i hi
      have hi' : i < elems.length := by omega
      rw [List.getElem?_eq_getElem hi'] at h1
      obtain ⟨cs, hcs, htr⟩ := Option.bind_eq_some_iff.1 h1
      obtain ⟨x, hx⟩ := hR enc W sp n cs _ htr fun m hm => hz m (.inr (.inl (weightsAll_mem hm (List.mem_map.2 ⟨_, List.getElem_mem hi', rfl⟩))))
      exact ⟨x, cs, hcs, hx⟩
    obtain ⟨xs, hxl, hxs⟩ := choose_list hel3
    subst hxl
    refine ⟨xs, some a, cap, rfl, hlc, hcm, hsz, ?_⟩
    by_cases hx : xs = []
    · exact .inl hx
    · right
      obtain ⟨cs0, hc0, _⟩ := hxs 0 (List.length_pos_iff.2 hx)
      obtain ⟨g, o, cur, T, fr, ha, hg, _, _⟩ := cellsAt hc0 h0
      have ha : a = ⟨g, o, none⟩ := by
        obtain ⟨g', o', sp'⟩ := a
        simp only [Nat.zero_mul] at ha
        have : (⟨g', o', sp'⟩ : Addr).add 0 = ⟨g', o', sp'⟩ := rfl
        rw [this] at ha; exact ha
      subst ha
      refine ⟨g, o, cur, T, fr, rfl, hg, fun j hj => ?_⟩
      obtain ⟨csj, hcj, hrj⟩ := hxs j hj
      rw [add_lit] at hcj
      obtain ⟨g', o', cur', T', fr', ha', hg', hcs', hl'⟩ := cellsAt hcj h0
      simp only [Addr.mk.injEq, and_true] at ha'
      obtain ⟨rfl, rfl⟩ := ha'
      rw [hg] at hg'
      simp only [Option.some.injEq, Obj.cells.injEq] at hg'
      obtain ⟨rfl, _, _⟩ := hg'
      rw [← hcs']
      exact ⟨hl', hrj⟩

theorem opens_bytes {P : Program} {t e : TypeId} (hu : P.underlying t = some (.slice e)) (he : P.underlying e = some (.int .u8)) (hs : P.cellsOf e = 1) (hb : P.bytesOf e = 1) : Opens P t rBytes := by
  intro H enc W sp fuel cs y h hz
  obtain ⟨xs, a, cap, rfl, hlc, hcm, hsz, hr⟩ := opens_slice hu hs hb (by omega) (opens_int he) enc W sp fuel cs y h hz
  have hbs : ∃ bs : List UInt8, bs.length = xs.length ∧ ((xs = [] ∨ ∃ g o cur T fr, a = some ⟨g, o, none⟩ ∧ heapOf W g = some (.cells cur T fr) ∧ ∀ j, j < xs.length → cur[o + j]? = (bs.map bv)[j]?)) := by
    rcases hr with rfl | ⟨g, o, cur, T, fr, rfl, hg, hr⟩
    · exact ⟨[], rfl, .inl rfl⟩
    · refine ⟨xs.map fun n => UInt8.ofNat n.toNat, by simp, .inr ⟨g, o, cur, T, fr, rfl, hg, fun j hj => ?_⟩⟩
      obtain ⟨_, hc, hw⟩ := hr j hj
      have h1 : cur[o + j]? = some (.int .u8 xs[j]) := by
        have := congrArg (fun l => l[0]?) hc
        simpa [List.getElem?_take, List.getElem?_drop] using this
      rw [h1]
      simp only [List.map_map, List.getElem?_map, List.getElem?_eq_getElem hj, Option.map_some, Function.comp, bv]
      have hb2 : 0 ≤ xs[j] ∧ xs[j] < 256 := by
        have h1 : IntKind.u8.min = 0 := rfl
        have h2 : IntKind.u8.max = 255 := rfl
        simp [Lit.wf] at hw
        omega
      congr 2
      have : (UInt8.ofNat (xs[j]).toNat).toNat = (xs[j]).toNat % 256 := by simp
      omega
  obtain ⟨bs, hbl, hr⟩ := hbs
  refine ⟨bs, _, rfl, ⟨by simp, a, cap, by rw [hbl], by omega, ?_⟩, by omega⟩
  rcases hr with rfl | ⟨g, o, cur, T, fr, ha, hg, hr⟩
  · left; simpa using hbl
  · exact .inr ⟨g, o, cur, T, fr, ha, hg, fun j hj => hr j (by simp at hj; omega)⟩

/-- The fields from one on, of a struct of N cells. -/
def OpensF {α : Type} (P : Program) (N : Nat) (fs : List Field) (off : Nat) (R : Rdr α) : Prop :=
  ∀ {H : Type} (enc : TypeId × Value → H) (W : World) (sp : Nat → Bool) (fuel : Nat) (cs : List Value) (xs : List (DataW H × List MemPlace)), cs.length = N → xs.length = fs.length →
    (∀ (i : Nat) (f : Field), fs[i]? = some f → DataW.trod enc P W 0 sp true fuel f.type ((cs.drop f.offset).take (P.cellsOf f.type)) = xs[i]?) →
    (∀ n ∈ DataW.weightsEach P (fs.map (·.type)) (xs.map (·.1)), n ≤ reachBytes) → ∃ x, R.rel x (cs.drop off) (heapOf W)

theorem opensF_nil {P : Program} {N : Nat} : OpensF P N [] N rEnd := by
  intro H enc W sp fuel cs xs hl _ _ _
  exact ⟨(), by show cs.drop N = []; simp; omega⟩

theorem opensF_cons {α β : Type} {P : Program} {N off s : Nat} {f : Field} {fs : List Field} {R : Rdr α} {S : Rdr β} (hoff : f.offset = off) (hs : P.cellsOf f.type = s) (hN : off + s ≤ N) (hR : Opens P f.type R) (hS : OpensF P N fs (off + s) S) : OpensF P N (f :: fs) off (rCons s R S) := by
  intro H enc W sp fuel cs xs hl hxl hx hz
  cases xs with
  | nil => simp at hxl
  | cons x0 xs =>
    have h0 := hx 0 f rfl
    rw [hoff, hs] at h0
    simp only [List.map_cons, DataW.weightsEach, List.mem_append] at hz
    obtain ⟨a, ha⟩ := hR enc W sp fuel _ _ h0 fun n hn => hz n (.inl hn)
    obtain ⟨b, hb⟩ := hS enc W sp fuel cs xs hl (by simpa using hxl) (fun i g hg => hx (i + 1) g (by simpa using hg)) fun n hn => hz n (.inr hn)
    refine ⟨(a, b), (cs.drop off).take s, cs.drop (off + s), ?_, by simp; omega, ha, hb⟩
    rw [← List.drop_drop, List.take_append_drop]

theorem opens_struct {α : Type} {P : Program} {t : TypeId} {fs : Array Field} {N : Nat} {R : Rdr α} (hu : P.underlying t = some (.struct fs)) (hN : P.cellsOf t = N) (hF : OpensF P N fs.toList 0 R) : Opens P t R := by
  intro H enc W sp fuel cs y h hz
  obtain ⟨xs, n, rfl, rfl, hl, hxl, hx⟩ := DataW.trod_struct hu h
  have := hF enc W sp n cs xs (by rw [hl, hN]) (by simpa using hxl) (fun i f hf => hx i f (by simpa using hf)) (by simpa [DataW.weights, hu] using hz)
  simpa using this

/-- An argument, opened. -/
theorem Opens.arg {α : Type} {P : Program} {t : TypeId} {R : Rdr α} (hR : Opens P t R) {H : Type} {enc : TypeId × Value → H} {W : World} {sp : Nat → Bool} {v : Value} {d : DataW H} {p : List MemPlace} (h : DataW.Trod enc P W 0 sp true t v d p)
    {ts : List TypeId} {ds : List (DataW H)} (hz : (DataW.weightsEach P ts ds).all (· ≤ reachBytes) = true) (j : Nat) (hj : ts[j]? = some t) (hd : ds[j]? = some d) : ∃ x, R.rel x v.cells.toList (heapOf W) := by
  obtain ⟨fuel, hf⟩ := h
  refine hR enc W sp fuel _ _ hf fun n hn => ?_
  have := List.all_eq_true.1 hz _ (DataW.weights_mem_each hj hd n hn)
  simpa using this

theorem u32_nonneg {n : Int} (h : (Lit.int .u32 n).wf = true) : 0 ≤ n := by
  have h1 : IntKind.u32.min = 0 := rfl
  have h2 : IntKind.u32.max = 4294967295 := rfl
  simp [Lit.wf, h1, h2] at h
  omega
theorem u32_lt {n : Int} (h : (Lit.int .u32 n).wf = true) : n < 4294967296 := by
  have h1 : IntKind.u32.min = 0 := rfl
  have h2 : IntKind.u32.max = 4294967295 := rfl
  simp [Lit.wf, h1, h2] at h
  omega
theorem i64_bounds {n : Int} (h : (Lit.int .i64 n).wf = true) : -9223372036854775808 ≤ n ∧ n < 9223372036854775808 := by
  have h1 : IntKind.i64.min = -9223372036854775808 := rfl
  have h2 : IntKind.i64.max = 9223372036854775807 := rfl
  simp [Lit.wf, h1, h2] at h
  omega

end Go.Proofs.YtmiohkmcnppaeaaGreatDoor

namespace Go.Proofs.YtmiohkmcnppaeaaGreatDoor
open Go
set_option linter.unusedVariables false

theorem rSlice_reads {α : Type} {s b : Nat} {R : Rdr α} {enc : α → List Value} (he : ∀ x cs h, R.rel x cs h → cs = enc x) (hk : ∀ x, (enc x).length = s) {xs : List α} {v : Value} :
    Ent ((rSlice s b R).at xs [v]) (Reads s v xs.length (xs.flatMap enc)) := by
  refine Ent.of fun h hr => ?_
  obtain ⟨a, cap, e, l, m, r, k⟩ := hr
  simp only [List.cons.injEq, and_true] at e
  subst e
  refine ⟨flatMap_length hk xs, a, cap, rfl, l, ?_⟩
  rcases k with k | ⟨g, o, cur, T, fr, ea, hg, hj⟩
  · left; subst k; rfl
  · right
    refine ⟨g, o, cur, T, fr, ea, hg, fun t ht => ?_⟩
    rw [flatMap_length hk] at ht
    obtain ⟨i, j, hi, hjs, e, hf⟩ := flatMap_at_all hk xs t ht
    obtain ⟨h1, h2⟩ := hj i hi
    have h3 := he _ _ _ h2
    rw [hf, ← h3, e, List.getElem?_take_of_lt hjs, List.getElem?_drop, Array.getElem?_toList]
    congr 1
    omega

/-- make, of elements of one cell. -/
theorem St.make1 {P : Program} {w0 w : World} {F : HP} {t e bs n c : Nat} {z : Value} {K : Value → World → Prop} {θ : Tag K} (h : St w0 F w) (ht : rowTy P t = some (e, 1, bs, [z])) (hn : n ≤ c) (hc : c ≤ 16777216) (hb : bs * c ≤ 281474976710656)
    (hK : ∀ b w', St w0 (RowO e 1 (.slice (some ⟨b, 0, none⟩) n c) n (List.replicate n z) * F) w' → K (.slice (some ⟨b, 0, none⟩) n c) w') : semD P (kMakeSlice t (.int .i64 n) (.int .i64 c)) w K θ := by
  show semD P (Instr.makeSlice t (.int .i64 n) (.int .i64 c)) w K θ
  obtain ⟨hu, i, zv, hi, hz, hsz, hbs, hzs, hzc⟩ := rowTy_some ht
  have hb2 : (bs : Int) * c ≤ 281474976710656 := by
    have : ((bs * c : Nat) : Int) ≤ 281474976710656 := by omega
    rwa [Int.natCast_mul] at this
  have hr := run_makeSlice (P := P) (w := w) t e i zv hu hi hz .i64 .i64 n c (by omega) (by omega) (by rw [hsz]; simp; omega) (by rw [hbs]; exact hb2) (by omega)
  simp only [Int.toNat_natCast, hsz, Nat.mul_one] at hr
  have hcells : madeCells zv.cells c = (List.replicate c z).toArray := by
    have hz1 : zv.cells = #[z] := Array.ext' (by rw [hzc])
    rw [hz1]
    apply Array.ext'
    simp only [madeCells]
    apply List.ext_getElem
    · simp
    · intro j h1 h2
      simp [Nat.mod_one]
  rw [hcells] at hr
  refine ⟨_, _, hr, hK _ _ ((h.alloc _).ent (Ent.sep (Ent.of fun k hk => .inr ⟨w.heap.size, 0, c, (List.replicate c z).toArray, rfl, hk, hn, by simp only [maxLen]; omega, by simp, ?_, by simp⟩) (Ent.rfl' F)))⟩
  simp only [List.drop_zero, Nat.mul_one, List.take_replicate, Nat.min_eq_left hn]

/-- The first k elements, as the evaluator spells 'x[:k]'. -/
theorem Reads.takeK {s n c k : Nat} {a : Option Addr} {xs : List Value} (hk : k ≤ n) : Ent (Reads s (.slice a n c) n xs) (Reads s (.slice (if c = 0 then a else Option.map (fun x => x) a) k (c - 0)) k (xs.take (k * s))) := by
  have h := Reads.sub (s := s) (n := n) (lo := 0) (k := k) (c := c) (a := a) (xs := xs) (by omega)
  rw [Nat.zero_mul, List.drop_zero] at h
  exact h
theorem flatMap_take {α : Type} {enc : α → List Value} {k : Nat} (hk : ∀ x, (enc x).length = k) : ∀ (l : List α) (n : Nat), (l.flatMap enc).take (n * k) = (l.take n).flatMap enc
  | [], n => by simp
  | x :: l, 0 => by simp
  | x :: l, n + 1 => by
    rw [List.flatMap_cons, List.take_succ_cons, List.flatMap_cons, Nat.add_mul, Nat.one_mul, Nat.add_comm, List.take_append, hk, List.take_of_length_le (by rw [hk]; omega), show k + n * k - k = n * k by omega, flatMap_take hk l n]

/-- A slice of no elements that is not nil. -/
theorem St.lit0 {P : Program} {t e s bs : Nat} {zs : List Value} {w0 w : World} {F : HP} {parts : Array (Nat × Value)} {K : Value → World → Prop} {θ : Tag K}
    (h : St w0 F w) (ht : rowTy P t = some (e, s, bs, zs)) (hp : parts = #[]) (hK : ∀ v w', St w0 (RowO e s v 0 [] * F) w' → K v w') : semD P (kBuildSlice t 0 parts) w K θ := by
  show semD P (Instr.buildSlice t 0 parts) w K θ
  subst hp
  obtain ⟨hu, i, z, hi, hz, rfl, rfl, hzs, rfl⟩ := rowTy_some ht
  refine ⟨.slice (some ⟨w.heap.size, 0, none⟩) 0 0, w.alloc (.cells #[] e), ?_, hK _ _ ((h.alloc _).ent (Ent.sep (Ent.of fun k hk => .inr ⟨w.heap.size, 0, 0, #[], rfl, hk, Nat.le_refl _, by simp [maxLen], by simp, by simp, by simp⟩) (Ent.rfl' F)))⟩
  unfold Instr.buildSlice
  simp only [Sem.run_bind, run_underlying' hu, Result.andThen_ok, run_sizeOf' hi, Nat.zero_mul, if_neg (show ¬ (0 > 2 ^ 24) by omega), if_true, Sem.run_pure]
  have hf : Instr.fill (fun i_1 => some (i_1 * i.size, i.size)) (Array.map (fun x => (#[] : Array Value)[x % (#[] : Array Value).size]!) (Array.range 0)) ([] : List (Nat × Value)) = some #[] := by simp [Instr.fill]
  rw [hf]
  rfl

/-- A map's copy. -/
theorem St.copyMap {κ : Type} {enc : κ → Value} {b : Nat} {l : List (κ × Value)} {w0 w : World} {A : HP} {C : HP → HP} (h : St w0 A w) [i : Hole (.map b) A (MapP enc b l) C] :
    ∃ es clock, w.heap[b]? = some (.map es clock) ∧ St w0 (MapP enc w.heap.size l * A) (w.alloc (.map es clock)) := by
  obtain ⟨R, hR, h'⟩ := h.out (.map b)
  obtain ⟨es, clock, h1⟩ := MapP.open h'
  obtain ⟨hb, hm⟩ := MapE.heap h1
  exact ⟨es, clock, hb, (h.alloc _).ent (Ent.sep (Ent.of fun k hk => ⟨es, clock, hk, hm⟩) (Ent.rfl' A))⟩

/-! ### Loops by a rank that is not read off the world -/
theorem least_nat {p : Nat → Prop} (h : ∃ n, p n) : ∃ n, p n ∧ ∀ m, p m → n ≤ m := by
  obtain ⟨n, hn⟩ := h
  induction n using Nat.strongRecOn with
  | _ n ih =>
    by_cases hx : ∃ m, m < n ∧ p m
    · obtain ⟨m, hm, hp⟩ := hx
      exact ih m hm hp
    · refine ⟨n, hn, fun m hm => ?_⟩
      have : ¬ m < n := fun hlt => hx ⟨m, hlt, hm⟩
      omega
open Classical in
noncomputable def rankOf (I : Nat → FA → World → Prop) (e : FA) (w : World) : Nat := if h : ∃ n, I n e w then Classical.choose (least_nat h) else 0
theorem rank_min {I : Nat → FA → World → Prop} {e : FA} {w : World} (h : ∃ n, I n e w) : I (rankOf I e w) e w ∧ ∀ m, I m e w → rankOf I e w ≤ m := by
  unfold rankOf
  rw [dif_pos h]
  exact Classical.choose_spec (least_nat h)
theorem rank_down {I : Nat → FA → World → Prop} {e e' : FA} {w w' : World} {m : Nat} (h : I m e' w') (hm : m < rankOf I e w) : (∃ n, I n e' w') ∧ rankOf I e' w' < rankOf I e w :=
  ⟨⟨m, h⟩, Nat.lt_of_le_of_lt ((rank_min ⟨m, h⟩).2 m h) hm⟩
theorem loop_rank {P : Program} {c : Cd} {Q : Post} {e : FA} {w : World} {θ : Tag ((.loop c : Cd), Q, e, w)} (I : Nat → FA → World → Prop) (n : Nat) (h0 : I n e w)
    (h1 : ∀ e w, I (rankOf I e w) e w → cwE P c (loopP (fun e w => ∃ n, I n e w) (rankOf I) e w Q) e w) : cwE P (.loop c) Q e w θ :=
  loop_intro (fun e w => ∃ n, I n e w) (rankOf I) ⟨n, h0⟩ fun e w h => h1 e w (rank_min h).1

/-- make, of no elements, with room. -/
theorem St.make0 {P : Program} {w0 w : World} {F : HP} {t e s bs c : Nat} {zs : List Value} {K : Value → World → Prop} {θ : Tag K} (h : St w0 F w) (ht : rowTy P t = some (e, s, bs, zs)) (hc : c * s ≤ 16777216) (hcm : c ≤ 16777216) (hb : bs * c ≤ 281474976710656)
    (hK : ∀ v w', St w0 (RowO e s v 0 [] * F) w' → K v w') : semD P (kMakeSlice t (.int .i64 0) (.int .i64 c)) w K θ := by
  show semD P (Instr.makeSlice t (.int .i64 0) (.int .i64 c)) w K θ
  obtain ⟨hu, i, zv, hi, hz, hsz, hbs, hzs, hzc⟩ := rowTy_some ht
  have hb2 : (bs : Int) * c ≤ 281474976710656 := by
    have : ((bs * c : Nat) : Int) ≤ 281474976710656 := by omega
    rwa [Int.natCast_mul] at this
  have hr := run_makeSlice (P := P) (w := w) t e i zv hu hi hz .i64 .i64 0 c (by omega) (by omega) (by rw [hsz]; simp; omega) (by rw [hbs]; exact hb2) (by omega)
  simp only [Int.toNat_natCast, Int.toNat_zero, hsz] at hr
  refine ⟨_, _, hr, hK _ _ ((h.alloc _).ent (Ent.sep (Ent.of fun k hk => .inr ⟨w.heap.size, 0, c, madeCells zv.cells (c * s), rfl, hk, Nat.zero_le _, by simp only [maxLen]; omega, by simp [madeCells], by simp, by simp⟩) (Ent.rfl' F)))⟩

end Go.Proofs.YtmiohkmcnppaeaaGreatDoor

namespace Go.Proofs.YtmiohkmcnppaeaaGreatDoor
open Go
set_option linter.unusedVariables false
set_option linter.unusedSimpArgs false
set_option maxRecDepth 100000

section
variable {w0 w : World} {F : HP}
section
attribute [local go_sem] F96.t3_eq
theorem cloneB_any {v : Value} {l : List UInt8} (h : St w0 F w) (hr : Ent F (Reads 1 v l.length (byR l))) (hl : l.length ≤ 2147483648) :
    Calls Tryz.prog 96 #[v] w fun e w' => ∃ v', isCell v' = true ∧ St w0 (RowO 5 1 v' l.length (byR l) * F) w' ∧ e = .returned v' := by
  have r := (h.ent hr).rd
  obtain ⟨a, c, rfl, hnc, hcl⟩ := r.form
  refine F96.calls (by simp) ?_
  unfold F96.code
  cases a with
  | none =>
    have hnil : byR l = [] := by
      rcases hcl with h | ⟨b, o, h, _⟩
      · exact h
      · cases h
    have hl0 : l = [] := by simpa using hnil
    simp -dsimp -implicitDefEqProofs (disch := omega) only [go_sem, reqD_of, dec_t, dec_f, wrap_i64, wrap_u32, wrap_u64, wrap_u8]
    refine ⟨.slice none 0 0, rfl, ?_, rfl⟩
    rw [hl0]
    exact h.nilR 5 1
  | some a =>
    simp -dsimp -implicitDefEqProofs (disch := omega) only [go_sem, reqD_of, dec_t, dec_f, wrap_i64, wrap_u32, wrap_u64, wrap_u8]
    refine h.lit0 fact_rowTy_28 rfl fun v1 w1 h1 => ?_
    simp -dsimp -implicitDefEqProofs (disch := omega) only [go_sem, reqD_of, dec_t, dec_f, wrap_i64, wrap_u32, wrap_u64, wrap_u8]
    refine h1.app (v := v1) fact_rowTy_28 ((Ent.right _ _).trans hr) Tryz.underlying28 byR_cells (fun h => by have := congrArg List.length h; simpa [byR] using this) (show 0 + l.length ≤ 9223372036854775807 by omega) (show (0 + l.length) * 1 ≤ 140737488355328 by omega) fun v2 w2 h2 => ?_
    simp -dsimp -implicitDefEqProofs (disch := omega) only [go_sem, reqD_of, dec_t, dec_f, wrap_i64, wrap_u32, wrap_u64, wrap_u8]
    rw [Nat.zero_add, List.nil_append] at h2
    obtain ⟨a2, c2, rfl, _⟩ := h2.rowForm v2
    exact ⟨_, rfl, h2, rfl⟩
end
section
attribute [local go_sem] F138.t3_eq
theorem cloneT_any {v : Value} {ls : List (List UInt8)} (h : St w0 F w) (hr : Ent F (Reads 1 v ls.length (ls.map sv))) (hl : ls.length ≤ 2147483648) :
    Calls Tryz.prog 138 #[v] w fun e w' => ∃ v', isCell v' = true ∧ St w0 (RowO 9 1 v' ls.length (ls.map sv) * F) w' ∧ e = .returned v' := by
  have r := (h.ent hr).rd
  obtain ⟨a, c, rfl, hnc, hcl⟩ := r.form
  refine F138.calls (by simp) ?_
  unfold F138.code
  cases a with
  | none =>
    have hnil : ls.map sv = [] := by
      rcases hcl with h | ⟨b, o, h, _⟩
      · exact h
      · cases h
    have hl0 : ls = [] := by simpa using hnil
    simp -dsimp -implicitDefEqProofs (disch := omega) only [go_sem, reqD_of, dec_t, dec_f, wrap_i64, wrap_u32, wrap_u64, wrap_u8]
    refine ⟨.slice none 0 0, rfl, ?_, rfl⟩
    rw [hl0]
    exact h.nilR 9 1
  | some a =>
    simp -dsimp -implicitDefEqProofs (disch := omega) only [go_sem, reqD_of, dec_t, dec_f, wrap_i64, wrap_u32, wrap_u64, wrap_u8]
    refine h.lit0 fact_rowTy_31 rfl fun v1 w1 h1 => ?_
    simp -dsimp -implicitDefEqProofs (disch := omega) only [go_sem, reqD_of, dec_t, dec_f, wrap_i64, wrap_u32, wrap_u64, wrap_u8]
    refine h1.app (v := v1) fact_rowTy_31 ((Ent.right _ _).trans hr) Tryz.underlying31 (fun x hx => by obtain ⟨b, _, rfl⟩ := List.mem_map.1 hx; rfl) (fun h => by have := congrArg List.length h; simpa using this) (show 0 + ls.length ≤ 9223372036854775807 by omega) (show (0 + ls.length) * 16 ≤ 140737488355328 by omega) fun v2 w2 h2 => ?_
    simp -dsimp -implicitDefEqProofs (disch := omega) only [go_sem, reqD_of, dec_t, dec_f, wrap_i64, wrap_u32, wrap_u64, wrap_u8]
    rw [Nat.zero_add, List.nil_append] at h2
    obtain ⟨a2, c2, rfl, _⟩ := h2.rowForm v2
    exact ⟨_, rfl, h2, rfl⟩
theorem qid_cells {qs : List QidD} : ∀ x ∈ qs.flatMap qidC, isCell x = true := by
  intro x hx
  obtain ⟨q, _, hx⟩ := List.mem_flatMap.1 hx
  simp only [qidC, List.mem_cons, List.not_mem_nil, or_false] at hx
  rcases hx with rfl | rfl | rfl <;> rfl
theorem qid_nil {qs : List QidD} (h : qs.flatMap qidC = []) : qs = [] := by
  cases qs with
  | nil => rfl
  | cons q qs => simp [List.flatMap_cons] at h
end
section
attribute [local go_sem] F151.t3_eq
theorem cloneQ_any {v : Value} {qs : List QidD} (h : St w0 F w) (hr : Ent F (Reads 3 v qs.length (qs.flatMap qidC))) (hl : qs.length ≤ 2147483648) :
    Calls Tryz.prog 151 #[v] w fun e w' => ∃ v', isCell v' = true ∧ St w0 (RowO 35 3 v' qs.length (qs.flatMap qidC) * F) w' ∧ e = .returned v' := by
  have r := (h.ent hr).rd
  obtain ⟨a, c, rfl, hnc, hcl⟩ := r.form
  refine F151.calls (by simp) ?_
  unfold F151.code
  cases a with
  | none =>
    have hnil : qs.flatMap qidC = [] := by
      rcases hcl with h | ⟨b, o, h, _⟩
      · exact h
      · cases h
    have hl0 : qs = [] := qid_nil hnil
    simp -dsimp -implicitDefEqProofs (disch := omega) only [go_sem, reqD_of, dec_t, dec_f, wrap_i64, wrap_u32, wrap_u64, wrap_u8]
    refine ⟨.slice none 0 0, rfl, ?_, rfl⟩
    rw [hl0]
    exact h.nilR 35 3
  | some a =>
    simp -dsimp -implicitDefEqProofs (disch := omega) only [go_sem, reqD_of, dec_t, dec_f, wrap_i64, wrap_u32, wrap_u64, wrap_u8]
    refine h.lit0 fact_rowTy_32 rfl fun v1 w1 h1 => ?_
    simp -dsimp -implicitDefEqProofs (disch := omega) only [go_sem, reqD_of, dec_t, dec_f, wrap_i64, wrap_u32, wrap_u64, wrap_u8]
    refine h1.app (v := v1) fact_rowTy_32 ((Ent.right _ _).trans hr) Tryz.underlying32 qid_cells (fun h => by rw [qid_nil h]; rfl) (show 0 + qs.length ≤ 9223372036854775807 by omega) (show (0 + qs.length) * 16 ≤ 140737488355328 by omega) fun v2 w2 h2 => ?_
    simp -dsimp -implicitDefEqProofs (disch := omega) only [go_sem, reqD_of, dec_t, dec_f, wrap_i64, wrap_u32, wrap_u64, wrap_u8]
    rw [Nat.zero_add, List.nil_append] at h2
    obtain ⟨a2, c2, rfl, _⟩ := h2.rowForm v2
    exact ⟨_, rfl, h2, rfl⟩
end
end
end Go.Proofs.YtmiohkmcnppaeaaGreatDoor

namespace Go.Proofs.YtmiohkmcnppaeaaGreatDoor
open Go
set_option linter.unusedVariables false
set_option linter.unusedSimpArgs false
set_option maxRecDepth 100000

/-- A message of one's own, with its lists. -/
def MsgP (C : Nat) (m : MsgD) : HP := HP.ex fun x : Value × Value × Value => Blk C (msgB m x.1 x.2.1 x.2.2) * MsgL m x.1 x.2.1 x.2.2
section
variable {w0 w : World} {F : HP} {C M K : Nat} {t f : MsgD} {tn tq td vn vq vd : Value}
theorem MsgP.open {m : MsgD} (h : St w0 (MsgP C m * F) w) : ∃ vn vq vd, St w0 (Blk C (msgB m vn vq vd) * (MsgL m vn vq vd * F)) w := by
  obtain ⟨⟨vn, vq, vd⟩, h⟩ := h.exF
  exact ⟨vn, vq, vd, h.ac (sep_assoc _ _ _)⟩
theorem MsgP.mk {m : MsgD} (h : St w0 (Blk C (msgB m vn vq vd) * (MsgL m vn vq vd * F)) w) : St w0 (MsgP C m * F) w :=
  (h.ac (sep_assoc _ _ _).symm).ent (Ent.sep (Ent.ex (fun x : Value × Value × Value => Blk C (msgB m x.1 x.2.1 x.2.2) * MsgL m x.1 x.2.1 x.2.2) (vn, vq, vd)) (Ent.rfl' _))

theorem move0 (h : St w0 (MsgP C t * (Blk K (atN 34) * (Blk M (msgB f vn vq vd) * F))) w) :
    Calls Tryz.prog 58 #[.pointer (some ⟨C, 0, none⟩), .pointer (some ⟨M, 0, none⟩), .pointer (some ⟨K, 0, none⟩)] w fun e w' => St w0 (MsgP C (moveF 0 t f) * (Blk K (atN 34) * (Blk M (msgB f vn vq vd) * F))) w' ∧ e = .returned (.tuple #[]) := by
  obtain ⟨tn, tq, td, h⟩ := MsgP.open h
  refine F58.calls (by simp) ?_
  unfold F58.code
  have hD := h.drew
  simp -dsimp -implicitDefEqProofs (disch := omega) only [go_sem, reqD_of, dec_t, dec_f, wrap_i64, wrap_u32, wrap_u64, wrap_u8, h.cl K, hD.cl K, okAt1]
  refine (at1 (M := C) hD).mono ?_
  rintro e w1 ⟨h1, rfl⟩
  simp -dsimp -implicitDefEqProofs (disch := omega) only [go_sem, reqD_of, dec_t, dec_f, wrap_i64, wrap_u32, wrap_u64, wrap_u8, h1.cl K, okAt1]
  refine (at1 (M := M) h1).mono ?_
  rintro e w2 ⟨h2, rfl⟩
  simp -dsimp -implicitDefEqProofs (disch := omega) only [go_sem, reqD_of, dec_t, dec_f, wrap_i64, wrap_u32, wrap_u64, wrap_u8, h2.cl K, h2.cl M, okAt1]
  refine h2.sto (b := C) (off := 2) (by simp) rfl fun w3 h3 => ?_
  simp only [List.setIfInBounds_toArray, List.set_cons_succ, List.set_cons_zero] at h3
  simp -dsimp -implicitDefEqProofs (disch := omega) only [go_sem, reqD_of, dec_t, dec_f, wrap_i64, wrap_u32, wrap_u64, wrap_u8, h3.cl K, h3.cl M]
  exact MsgP.mk (vn := tn) (vq := tq) (vd := td) h3

theorem move2 (h : St w0 (MsgP C t * (Blk K (atN 35) * (Blk M (msgB f vn vq vd) * F))) w) :
    Calls Tryz.prog 58 #[.pointer (some ⟨C, 0, none⟩), .pointer (some ⟨M, 0, none⟩), .pointer (some ⟨K, 0, none⟩)] w fun e w' => St w0 (MsgP C (moveF 2 t f) * (Blk K (atN 35) * (Blk M (msgB f vn vq vd) * F))) w' ∧ e = .returned (.tuple #[]) := by
  obtain ⟨tn, tq, td, h⟩ := MsgP.open h
  refine F58.calls (by simp) ?_
  unfold F58.code
  have hD := h.drew
  simp -dsimp -implicitDefEqProofs (disch := omega) only [go_sem, reqD_of, dec_t, dec_f, wrap_i64, wrap_u32, wrap_u64, wrap_u8, h.cl K, hD.cl K, okAt2]
  refine (at2 (M := C) hD).mono ?_
  rintro e w1 ⟨h1, rfl⟩
  simp -dsimp -implicitDefEqProofs (disch := omega) only [go_sem, reqD_of, dec_t, dec_f, wrap_i64, wrap_u32, wrap_u64, wrap_u8, h1.cl K, okAt2]
  refine (at2 (M := M) h1).mono ?_
  rintro e w2 ⟨h2, rfl⟩
  simp -dsimp -implicitDefEqProofs (disch := omega) only [go_sem, reqD_of, dec_t, dec_f, wrap_i64, wrap_u32, wrap_u64, wrap_u8, h2.cl K, h2.cl M, okAt2]
  refine h2.sto (b := C) (off := 4) (by simp) rfl fun w3 h3 => ?_
  simp only [List.setIfInBounds_toArray, List.set_cons_succ, List.set_cons_zero] at h3
  simp -dsimp -implicitDefEqProofs (disch := omega) only [go_sem, reqD_of, dec_t, dec_f, wrap_i64, wrap_u32, wrap_u64, wrap_u8, h3.cl K, h3.cl M]
  exact MsgP.mk (vn := tn) (vq := tq) (vd := td) h3

theorem move7 (h : St w0 (MsgP C t * (Blk K (atN 36) * (Blk M (msgB f vn vq vd) * F))) w) :
    Calls Tryz.prog 58 #[.pointer (some ⟨C, 0, none⟩), .pointer (some ⟨M, 0, none⟩), .pointer (some ⟨K, 0, none⟩)] w fun e w' => St w0 (MsgP C (moveF 7 t f) * (Blk K (atN 36) * (Blk M (msgB f vn vq vd) * F))) w' ∧ e = .returned (.tuple #[]) := by
  obtain ⟨tn, tq, td, h⟩ := MsgP.open h
  refine F58.calls (by simp) ?_
  unfold F58.code
  have hD := h.drew
  simp -dsimp -implicitDefEqProofs (disch := omega) only [go_sem, reqD_of, dec_t, dec_f, wrap_i64, wrap_u32, wrap_u64, wrap_u8, h.cl K, hD.cl K, okAt3]
  refine (at3 (M := C) hD).mono ?_
  rintro e w1 ⟨h1, rfl⟩
  simp -dsimp -implicitDefEqProofs (disch := omega) only [go_sem, reqD_of, dec_t, dec_f, wrap_i64, wrap_u32, wrap_u64, wrap_u8, h1.cl K, okAt3]
  refine (at3 (M := M) h1).mono ?_
  rintro e w2 ⟨h2, rfl⟩
  simp -dsimp -implicitDefEqProofs (disch := omega) only [go_sem, reqD_of, dec_t, dec_f, wrap_i64, wrap_u32, wrap_u64, wrap_u8, h2.cl K, h2.cl M, okAt3]
  refine h2.sto (b := C) (off := 9) (by simp) rfl fun w3 h3 => ?_
  simp only [List.setIfInBounds_toArray, List.set_cons_succ, List.set_cons_zero] at h3
  simp -dsimp -implicitDefEqProofs (disch := omega) only [go_sem, reqD_of, dec_t, dec_f, wrap_i64, wrap_u32, wrap_u64, wrap_u8, h3.cl K, h3.cl M]
  exact MsgP.mk (vn := tn) (vq := tq) (vd := td) h3

theorem move8 (h : St w0 (MsgP C t * (Blk K (atN 37) * (Blk M (msgB f vn vq vd) * F))) w) :
    Calls Tryz.prog 58 #[.pointer (some ⟨C, 0, none⟩), .pointer (some ⟨M, 0, none⟩), .pointer (some ⟨K, 0, none⟩)] w fun e w' => St w0 (MsgP C (moveF 8 t f) * (Blk K (atN 37) * (Blk M (msgB f vn vq vd) * F))) w' ∧ e = .returned (.tuple #[]) := by
  obtain ⟨tn, tq, td, h⟩ := MsgP.open h
  refine F58.calls (by simp) ?_
  unfold F58.code
  have hD := h.drew
  simp -dsimp -implicitDefEqProofs (disch := omega) only [go_sem, reqD_of, dec_t, dec_f, wrap_i64, wrap_u32, wrap_u64, wrap_u8, h.cl K, hD.cl K, okAt4]
  refine (at4 (M := C) hD).mono ?_
  rintro e w1 ⟨h1, rfl⟩
  simp -dsimp -implicitDefEqProofs (disch := omega) only [go_sem, reqD_of, dec_t, dec_f, wrap_i64, wrap_u32, wrap_u64, wrap_u8, h1.cl K, okAt4]
  refine (at4 (M := M) h1).mono ?_
  rintro e w2 ⟨h2, rfl⟩
  simp -dsimp -implicitDefEqProofs (disch := omega) only [go_sem, reqD_of, dec_t, dec_f, wrap_i64, wrap_u32, wrap_u64, wrap_u8, h2.cl K, h2.cl M, okAt4]
  refine h2.sto (b := C) (off := 10) (by simp) rfl fun w3 h3 => ?_
  simp only [List.setIfInBounds_toArray, List.set_cons_succ, List.set_cons_zero] at h3
  simp -dsimp -implicitDefEqProofs (disch := omega) only [go_sem, reqD_of, dec_t, dec_f, wrap_i64, wrap_u32, wrap_u64, wrap_u8, h3.cl K, h3.cl M]
  exact MsgP.mk (vn := tn) (vq := tq) (vd := td) h3

theorem move13 (h : St w0 (MsgP C t * (Blk K (atN 38) * (Blk M (msgB f vn vq vd) * F))) w) :
    Calls Tryz.prog 58 #[.pointer (some ⟨C, 0, none⟩), .pointer (some ⟨M, 0, none⟩), .pointer (some ⟨K, 0, none⟩)] w fun e w' => St w0 (MsgP C (moveF 13 t f) * (Blk K (atN 38) * (Blk M (msgB f vn vq vd) * F))) w' ∧ e = .returned (.tuple #[]) := by
  obtain ⟨tn, tq, td, h⟩ := MsgP.open h
  refine F58.calls (by simp) ?_
  unfold F58.code
  have hD := h.drew
  simp -dsimp -implicitDefEqProofs (disch := omega) only [go_sem, reqD_of, dec_t, dec_f, wrap_i64, wrap_u32, wrap_u64, wrap_u8, h.cl K, hD.cl K, okAt5]
  refine (at5 (M := C) hD).mono ?_
  rintro e w1 ⟨h1, rfl⟩
  simp -dsimp -implicitDefEqProofs (disch := omega) only [go_sem, reqD_of, dec_t, dec_f, wrap_i64, wrap_u32, wrap_u64, wrap_u8, h1.cl K, okAt5]
  refine (at5 (M := M) h1).mono ?_
  rintro e w2 ⟨h2, rfl⟩
  simp -dsimp -implicitDefEqProofs (disch := omega) only [go_sem, reqD_of, dec_t, dec_f, wrap_i64, wrap_u32, wrap_u64, wrap_u8, h2.cl K, h2.cl M, okAt5]
  refine h2.sto (b := C) (off := 17) (by simp) rfl fun w3 h3 => ?_
  simp only [List.setIfInBounds_toArray, List.set_cons_succ, List.set_cons_zero] at h3
  simp -dsimp -implicitDefEqProofs (disch := omega) only [go_sem, reqD_of, dec_t, dec_f, wrap_i64, wrap_u32, wrap_u64, wrap_u8, h3.cl K, h3.cl M]
  exact MsgP.mk (vn := tn) (vq := tq) (vd := td) h3

theorem move15 (h : St w0 (MsgP C t * (Blk K (atN 39) * (Blk M (msgB f vn vq vd) * F))) w) :
    Calls Tryz.prog 58 #[.pointer (some ⟨C, 0, none⟩), .pointer (some ⟨M, 0, none⟩), .pointer (some ⟨K, 0, none⟩)] w fun e w' => St w0 (MsgP C (moveF 15 t f) * (Blk K (atN 39) * (Blk M (msgB f vn vq vd) * F))) w' ∧ e = .returned (.tuple #[]) := by
  obtain ⟨tn, tq, td, h⟩ := MsgP.open h
  refine F58.calls (by simp) ?_
  unfold F58.code
  have hD := h.drew
  simp -dsimp -implicitDefEqProofs (disch := omega) only [go_sem, reqD_of, dec_t, dec_f, wrap_i64, wrap_u32, wrap_u64, wrap_u8, h.cl K, hD.cl K, okAt6]
  refine (at6 (M := C) hD).mono ?_
  rintro e w1 ⟨h1, rfl⟩
  simp -dsimp -implicitDefEqProofs (disch := omega) only [go_sem, reqD_of, dec_t, dec_f, wrap_i64, wrap_u32, wrap_u64, wrap_u8, h1.cl K, okAt6]
  refine (at6 (M := M) h1).mono ?_
  rintro e w2 ⟨h2, rfl⟩
  simp -dsimp -implicitDefEqProofs (disch := omega) only [go_sem, reqD_of, dec_t, dec_f, wrap_i64, wrap_u32, wrap_u64, wrap_u8, h2.cl K, h2.cl M, okAt6]
  refine h2.sto (b := C) (off := 19) (by simp) rfl fun w3 h3 => ?_
  simp only [List.setIfInBounds_toArray, List.set_cons_succ, List.set_cons_zero] at h3
  simp -dsimp -implicitDefEqProofs (disch := omega) only [go_sem, reqD_of, dec_t, dec_f, wrap_i64, wrap_u32, wrap_u64, wrap_u8, h3.cl K, h3.cl M]
  exact MsgP.mk (vn := tn) (vq := tq) (vd := td) h3

theorem move17 (h : St w0 (MsgP C t * (Blk K (atN 40) * (Blk M (msgB f vn vq vd) * F))) w) :
    Calls Tryz.prog 58 #[.pointer (some ⟨C, 0, none⟩), .pointer (some ⟨M, 0, none⟩), .pointer (some ⟨K, 0, none⟩)] w fun e w' => St w0 (MsgP C (moveF 17 t f) * (Blk K (atN 40) * (Blk M (msgB f vn vq vd) * F))) w' ∧ e = .returned (.tuple #[]) := by
  obtain ⟨tn, tq, td, h⟩ := MsgP.open h
  refine F58.calls (by simp) ?_
  unfold F58.code
  have hD := h.drew
  simp -dsimp -implicitDefEqProofs (disch := omega) only [go_sem, reqD_of, dec_t, dec_f, wrap_i64, wrap_u32, wrap_u64, wrap_u8, h.cl K, hD.cl K, okAt7]
  refine (at7 (M := C) hD).mono ?_
  rintro e w1 ⟨h1, rfl⟩
  simp -dsimp -implicitDefEqProofs (disch := omega) only [go_sem, reqD_of, dec_t, dec_f, wrap_i64, wrap_u32, wrap_u64, wrap_u8, h1.cl K, okAt7]
  refine (at7 (M := M) h1).mono ?_
  rintro e w2 ⟨h2, rfl⟩
  simp -dsimp -implicitDefEqProofs (disch := omega) only [go_sem, reqD_of, dec_t, dec_f, wrap_i64, wrap_u32, wrap_u64, wrap_u8, h2.cl K, h2.cl M, okAt7]
  refine h2.sto (b := C) (off := 21) (by simp) rfl fun w3 h3 => ?_
  simp only [List.setIfInBounds_toArray, List.set_cons_succ, List.set_cons_zero] at h3
  simp -dsimp -implicitDefEqProofs (disch := omega) only [go_sem, reqD_of, dec_t, dec_f, wrap_i64, wrap_u32, wrap_u64, wrap_u8, h3.cl K, h3.cl M]
  exact MsgP.mk (vn := tn) (vq := tq) (vd := td) h3

theorem move1 (h : St w0 (MsgP C t * (Blk K (atT 42) * (Blk M (msgB f vn vq vd) * F))) w) :
    Calls Tryz.prog 69 #[.pointer (some ⟨C, 0, none⟩), .pointer (some ⟨M, 0, none⟩), .pointer (some ⟨K, 0, none⟩)] w fun e w' => St w0 (MsgP C (moveF 1 t f) * (Blk K (atT 42) * (Blk M (msgB f vn vq vd) * F))) w' ∧ e = .returned (.tuple #[]) := by
  obtain ⟨tn, tq, td, h⟩ := MsgP.open h
  refine F69.calls (by simp) ?_
  unfold F69.code
  have hD := h.drew
  simp -dsimp -implicitDefEqProofs (disch := omega) only [go_sem, reqD_of, dec_t, dec_f, wrap_i64, wrap_u32, wrap_u64, wrap_u8, h.cl K, hD.cl K, okAt8]
  refine (at8 (M := C) hD).mono ?_
  rintro e w1 ⟨h1, rfl⟩
  simp -dsimp -implicitDefEqProofs (disch := omega) only [go_sem, reqD_of, dec_t, dec_f, wrap_i64, wrap_u32, wrap_u64, wrap_u8, h1.cl K, okAt8]
  refine (at8 (M := M) h1).mono ?_
  rintro e w2 ⟨h2, rfl⟩
  simp -dsimp -implicitDefEqProofs (disch := omega) only [go_sem, reqD_of, dec_t, dec_f, wrap_i64, wrap_u32, wrap_u64, wrap_u8, h2.cl K, h2.cl M, okAt8]
  refine h2.sto (b := C) (off := 3) (by simp) rfl fun w3 h3 => ?_
  simp only [List.setIfInBounds_toArray, List.set_cons_succ, List.set_cons_zero] at h3
  simp -dsimp -implicitDefEqProofs (disch := omega) only [go_sem, reqD_of, dec_t, dec_f, wrap_i64, wrap_u32, wrap_u64, wrap_u8, h3.cl K, h3.cl M]
  exact MsgP.mk (vn := tn) (vq := tq) (vd := td) h3

theorem move3 (h : St w0 (MsgP C t * (Blk K (atT 43) * (Blk M (msgB f vn vq vd) * F))) w) :
    Calls Tryz.prog 69 #[.pointer (some ⟨C, 0, none⟩), .pointer (some ⟨M, 0, none⟩), .pointer (some ⟨K, 0, none⟩)] w fun e w' => St w0 (MsgP C (moveF 3 t f) * (Blk K (atT 43) * (Blk M (msgB f vn vq vd) * F))) w' ∧ e = .returned (.tuple #[]) := by
  obtain ⟨tn, tq, td, h⟩ := MsgP.open h
  refine F69.calls (by simp) ?_
  unfold F69.code
  have hD := h.drew
  simp -dsimp -implicitDefEqProofs (disch := omega) only [go_sem, reqD_of, dec_t, dec_f, wrap_i64, wrap_u32, wrap_u64, wrap_u8, h.cl K, hD.cl K, okAt9]
  refine (at9 (M := C) hD).mono ?_
  rintro e w1 ⟨h1, rfl⟩
  simp -dsimp -implicitDefEqProofs (disch := omega) only [go_sem, reqD_of, dec_t, dec_f, wrap_i64, wrap_u32, wrap_u64, wrap_u8, h1.cl K, okAt9]
  refine (at9 (M := M) h1).mono ?_
  rintro e w2 ⟨h2, rfl⟩
  simp -dsimp -implicitDefEqProofs (disch := omega) only [go_sem, reqD_of, dec_t, dec_f, wrap_i64, wrap_u32, wrap_u64, wrap_u8, h2.cl K, h2.cl M, okAt9]
  refine h2.sto (b := C) (off := 5) (by simp) rfl fun w3 h3 => ?_
  simp only [List.setIfInBounds_toArray, List.set_cons_succ, List.set_cons_zero] at h3
  simp -dsimp -implicitDefEqProofs (disch := omega) only [go_sem, reqD_of, dec_t, dec_f, wrap_i64, wrap_u32, wrap_u64, wrap_u8, h3.cl K, h3.cl M]
  exact MsgP.mk (vn := tn) (vq := tq) (vd := td) h3

theorem move4 (h : St w0 (MsgP C t * (Blk K (atT 44) * (Blk M (msgB f vn vq vd) * F))) w) :
    Calls Tryz.prog 69 #[.pointer (some ⟨C, 0, none⟩), .pointer (some ⟨M, 0, none⟩), .pointer (some ⟨K, 0, none⟩)] w fun e w' => St w0 (MsgP C (moveF 4 t f) * (Blk K (atT 44) * (Blk M (msgB f vn vq vd) * F))) w' ∧ e = .returned (.tuple #[]) := by
  obtain ⟨tn, tq, td, h⟩ := MsgP.open h
  refine F69.calls (by simp) ?_
  unfold F69.code
  have hD := h.drew
  simp -dsimp -implicitDefEqProofs (disch := omega) only [go_sem, reqD_of, dec_t, dec_f, wrap_i64, wrap_u32, wrap_u64, wrap_u8, h.cl K, hD.cl K, okAt10]
  refine (at10 (M := C) hD).mono ?_
  rintro e w1 ⟨h1, rfl⟩
  simp -dsimp -implicitDefEqProofs (disch := omega) only [go_sem, reqD_of, dec_t, dec_f, wrap_i64, wrap_u32, wrap_u64, wrap_u8, h1.cl K, okAt10]
  refine (at10 (M := M) h1).mono ?_
  rintro e w2 ⟨h2, rfl⟩
  simp -dsimp -implicitDefEqProofs (disch := omega) only [go_sem, reqD_of, dec_t, dec_f, wrap_i64, wrap_u32, wrap_u64, wrap_u8, h2.cl K, h2.cl M, okAt10]
  refine h2.sto (b := C) (off := 6) (by simp) rfl fun w3 h3 => ?_
  simp only [List.setIfInBounds_toArray, List.set_cons_succ, List.set_cons_zero] at h3
  simp -dsimp -implicitDefEqProofs (disch := omega) only [go_sem, reqD_of, dec_t, dec_f, wrap_i64, wrap_u32, wrap_u64, wrap_u8, h3.cl K, h3.cl M]
  exact MsgP.mk (vn := tn) (vq := tq) (vd := td) h3

theorem move5 (h : St w0 (MsgP C t * (Blk K (atT 45) * (Blk M (msgB f vn vq vd) * F))) w) :
    Calls Tryz.prog 69 #[.pointer (some ⟨C, 0, none⟩), .pointer (some ⟨M, 0, none⟩), .pointer (some ⟨K, 0, none⟩)] w fun e w' => St w0 (MsgP C (moveF 5 t f) * (Blk K (atT 45) * (Blk M (msgB f vn vq vd) * F))) w' ∧ e = .returned (.tuple #[]) := by
  obtain ⟨tn, tq, td, h⟩ := MsgP.open h
  refine F69.calls (by simp) ?_
  unfold F69.code
  have hD := h.drew
  simp -dsimp -implicitDefEqProofs (disch := omega) only [go_sem, reqD_of, dec_t, dec_f, wrap_i64, wrap_u32, wrap_u64, wrap_u8, h.cl K, hD.cl K, okAt11]
  refine (at11 (M := C) hD).mono ?_
  rintro e w1 ⟨h1, rfl⟩
  simp -dsimp -implicitDefEqProofs (disch := omega) only [go_sem, reqD_of, dec_t, dec_f, wrap_i64, wrap_u32, wrap_u64, wrap_u8, h1.cl K, okAt11]
  refine (at11 (M := M) h1).mono ?_
  rintro e w2 ⟨h2, rfl⟩
  simp -dsimp -implicitDefEqProofs (disch := omega) only [go_sem, reqD_of, dec_t, dec_f, wrap_i64, wrap_u32, wrap_u64, wrap_u8, h2.cl K, h2.cl M, okAt11]
  refine h2.sto (b := C) (off := 7) (by simp) rfl fun w3 h3 => ?_
  simp only [List.setIfInBounds_toArray, List.set_cons_succ, List.set_cons_zero] at h3
  simp -dsimp -implicitDefEqProofs (disch := omega) only [go_sem, reqD_of, dec_t, dec_f, wrap_i64, wrap_u32, wrap_u64, wrap_u8, h3.cl K, h3.cl M]
  exact MsgP.mk (vn := tn) (vq := tq) (vd := td) h3

theorem move14 (h : St w0 (MsgP C t * (Blk K (atT 46) * (Blk M (msgB f vn vq vd) * F))) w) :
    Calls Tryz.prog 69 #[.pointer (some ⟨C, 0, none⟩), .pointer (some ⟨M, 0, none⟩), .pointer (some ⟨K, 0, none⟩)] w fun e w' => St w0 (MsgP C (moveF 14 t f) * (Blk K (atT 46) * (Blk M (msgB f vn vq vd) * F))) w' ∧ e = .returned (.tuple #[]) := by
  obtain ⟨tn, tq, td, h⟩ := MsgP.open h
  refine F69.calls (by simp) ?_
  unfold F69.code
  have hD := h.drew
  simp -dsimp -implicitDefEqProofs (disch := omega) only [go_sem, reqD_of, dec_t, dec_f, wrap_i64, wrap_u32, wrap_u64, wrap_u8, h.cl K, hD.cl K, okAt12]
  refine (at12 (M := C) hD).mono ?_
  rintro e w1 ⟨h1, rfl⟩
  simp -dsimp -implicitDefEqProofs (disch := omega) only [go_sem, reqD_of, dec_t, dec_f, wrap_i64, wrap_u32, wrap_u64, wrap_u8, h1.cl K, okAt12]
  refine (at12 (M := M) h1).mono ?_
  rintro e w2 ⟨h2, rfl⟩
  simp -dsimp -implicitDefEqProofs (disch := omega) only [go_sem, reqD_of, dec_t, dec_f, wrap_i64, wrap_u32, wrap_u64, wrap_u8, h2.cl K, h2.cl M, okAt12]
  refine h2.sto (b := C) (off := 18) (by simp) rfl fun w3 h3 => ?_
  simp only [List.setIfInBounds_toArray, List.set_cons_succ, List.set_cons_zero] at h3
  simp -dsimp -implicitDefEqProofs (disch := omega) only [go_sem, reqD_of, dec_t, dec_f, wrap_i64, wrap_u32, wrap_u64, wrap_u8, h3.cl K, h3.cl M]
  exact MsgP.mk (vn := tn) (vq := tq) (vd := td) h3

theorem move6 (h : St w0 (MsgP C t * (Blk M (msgB f vn vq vd) * F)) w) :
    Calls Tryz.prog 76 #[.pointer (some ⟨C, 0, none⟩), .pointer (some ⟨M, 0, none⟩)] w fun e w' => St w0 (MsgP C (moveF 6 t f) * (Blk M (msgB f vn vq vd) * F)) w' ∧ e = .returned (.tuple #[]) := by
  obtain ⟨tn, tq, td, h⟩ := MsgP.open h
  refine F76.calls (by simp) ?_
  unfold F76.code
  simp -dsimp -implicitDefEqProofs (disch := omega) only [go_sem, reqD_of, dec_t, dec_f, wrap_i64, wrap_u32, wrap_u64, wrap_u8, h.cl M]
  refine h.sto (b := C) (off := 8) (by simp) rfl fun w3 h3 => ?_
  simp only [List.setIfInBounds_toArray, List.set_cons_succ, List.set_cons_zero] at h3
  simp -dsimp -implicitDefEqProofs (disch := omega) only [go_sem, reqD_of, dec_t, dec_f, wrap_i64, wrap_u32, wrap_u64, wrap_u8]
  exact MsgP.mk (vn := tn) (vq := tq) (vd := td) h3

theorem move12 (h : St w0 (MsgP C t * (Blk M (msgB f vn vq vd) * F)) w) :
    Calls Tryz.prog 81 #[.pointer (some ⟨C, 0, none⟩), .pointer (some ⟨M, 0, none⟩)] w fun e w' => St w0 (MsgP C (moveF 12 t f) * (Blk M (msgB f vn vq vd) * F)) w' ∧ e = .returned (.tuple #[]) := by
  obtain ⟨tn, tq, td, h⟩ := MsgP.open h
  refine F81.calls (by simp) ?_
  unfold F81.code
  simp -dsimp -implicitDefEqProofs (disch := omega) only [go_sem, reqD_of, dec_t, dec_f, wrap_i64, wrap_u32, wrap_u64, wrap_u8, h.cl M]
  refine h.sto (b := C) (off := 16) (by simp) rfl fun w3 h3 => ?_
  simp only [List.setIfInBounds_toArray, List.set_cons_succ, List.set_cons_zero] at h3
  simp -dsimp -implicitDefEqProofs (disch := omega) only [go_sem, reqD_of, dec_t, dec_f, wrap_i64, wrap_u32, wrap_u64, wrap_u8]
  exact MsgP.mk (vn := tn) (vq := tq) (vd := td) h3

theorem move16 (h : St w0 (MsgP C t * (Blk M (msgB f vn vq vd) * F)) w) :
    Calls Tryz.prog 88 #[.pointer (some ⟨C, 0, none⟩), .pointer (some ⟨M, 0, none⟩)] w fun e w' => St w0 (MsgP C (moveF 16 t f) * (Blk M (msgB f vn vq vd) * F)) w' ∧ e = .returned (.tuple #[]) := by
  obtain ⟨tn, tq, td, h⟩ := MsgP.open h
  refine F88.calls (by simp) ?_
  unfold F88.code
  simp -dsimp -implicitDefEqProofs (disch := omega) only [go_sem, reqD_of, dec_t, dec_f, wrap_i64, wrap_u32, wrap_u64, wrap_u8, h.cl M]
  refine h.sto (b := C) (off := 20) (by simp) rfl fun w3 h3 => ?_
  simp only [List.setIfInBounds_toArray, List.set_cons_succ, List.set_cons_zero] at h3
  simp -dsimp -implicitDefEqProofs (disch := omega) only [go_sem, reqD_of, dec_t, dec_f, wrap_i64, wrap_u32, wrap_u64, wrap_u8]
  exact MsgP.mk (vn := tn) (vq := tq) (vd := td) h3
end
end Go.Proofs.YtmiohkmcnppaeaaGreatDoor

namespace Go.Proofs.YtmiohkmcnppaeaaGreatDoor
open Go
set_option linter.unusedVariables false
set_option linter.unusedSimpArgs false
set_option maxRecDepth 100000

section
variable {w0 w : World} {F : HP} {C M K : Nat} {t f : MsgD} {tn tq td vn vq vd : Value}

theorem move11 (h : St w0 (MsgP C t * (Blk M (msgB f vn vq vd) * F)) w) :
    Calls Tryz.prog 105 #[.pointer (some ⟨C, 0, none⟩), .pointer (some ⟨M, 0, none⟩)] w fun e w' => St w0 (MsgP C (moveF 11 t f) * (Blk M (msgB f vn vq vd) * F)) w' ∧ e = .returned (.tuple #[]) := by
  obtain ⟨tn, tq, td, h⟩ := MsgP.open h
  refine F105.calls (by simp) ?_
  unfold F105.code
  simp -dsimp -implicitDefEqProofs (disch := omega) only [go_sem, reqD_of, dec_t, dec_f, wrap_i64, wrap_u32, wrap_u64, wrap_u8, h.cl M]
  refine h.stoRow (b := C) (off := 13) (n := 3) (cs := qidC f.qid) rfl (by simp) (fun y hy => by simp only [qidC, List.mem_cons, List.not_mem_nil, or_false] at hy; rcases hy with rfl | rfl | rfl <;> rfl) fun w3 h3 => ?_
  simp -dsimp -implicitDefEqProofs (disch := omega) only [go_sem, reqD_of, dec_t, dec_f, wrap_i64, wrap_u32, wrap_u64, wrap_u8]
  exact MsgP.mk (vn := tn) (vq := tq) (vd := td) h3

theorem move19 (h : St w0 (MsgP C t * (Blk M (msgB f vn vq vd) * F)) w) :
    Calls Tryz.prog 161 #[.pointer (some ⟨C, 0, none⟩), .pointer (some ⟨M, 0, none⟩)] w fun e w' => St w0 (MsgP C (moveF 19 t f) * (Blk M (msgB f vn vq vd) * F)) w' ∧ e = .returned (.tuple #[]) := by
  obtain ⟨tn, tq, td, h⟩ := MsgP.open h
  refine F161.calls (by simp) ?_
  unfold F161.code
  simp -dsimp -implicitDefEqProofs (disch := omega) only [go_sem, reqD_of, dec_t, dec_f, wrap_i64, wrap_u32, wrap_u64, wrap_u8, h.cl M]
  refine h.stoRow (b := C) (off := 23) (n := 13) (cs := statC f.stat) rfl (by simp) (fun y hy => by simp only [statC, List.mem_cons, List.not_mem_nil, or_false] at hy; rcases hy with rfl | rfl | rfl | rfl | rfl | rfl | rfl | rfl | rfl | rfl | rfl | rfl | rfl <;> rfl) fun w3 h3 => ?_
  simp -dsimp -implicitDefEqProofs (disch := omega) only [go_sem, reqD_of, dec_t, dec_f, wrap_i64, wrap_u32, wrap_u64, wrap_u8]
  have e1 : setRowL (msgC t tn tq td).toArray.toList 23 (statC f.stat) = msgC (moveF 19 t f) tn tq td := by kernel_rfl
  rw [e1] at h3
  exact MsgP.mk (vn := tn) (vq := tq) (vd := td) h3

theorem move18 (hf : MOk f) (hi : MsgI F f vn vq vd) (h : St w0 (MsgP C t * (Blk M (msgB f vn vq vd) * F)) w) :
    Calls Tryz.prog 95 #[.pointer (some ⟨C, 0, none⟩), .pointer (some ⟨M, 0, none⟩)] w fun e w' => St w0 (MsgP C (moveF 18 t f) * (Blk M (msgB f vn vq vd) * F)) w' ∧ e = .returned (.tuple #[]) := by
  obtain ⟨tn, tq, td, h⟩ := MsgP.open h
  refine F95.calls (by simp) ?_
  unfold F95.code
  simp -dsimp -implicitDefEqProofs (disch := omega) only [go_sem, reqD_of, dec_t, dec_f, wrap_i64, wrap_u32, wrap_u64, wrap_u8, h.cl M]
  refine (cloneB_any (l := f.data) h ((Ent.right _ _).trans ((Ent.right _ _).trans ((Ent.right _ _).trans hi.data))) hf.data).mono ?_
  rintro e w1 ⟨v', hv', h1, rfl⟩
  obtain ⟨a', c', rfl, _⟩ := h1.rowForm v'
  simp -dsimp -implicitDefEqProofs (disch := omega) only [go_sem, reqD_of, dec_t, dec_f, wrap_i64, wrap_u32, wrap_u64, wrap_u8]
  refine h1.sto (b := C) (off := 22) (by simp) rfl fun w3 h3 => ?_
  simp only [List.setIfInBounds_toArray, List.set_cons_succ, List.set_cons_zero] at h3
  simp -dsimp -implicitDefEqProofs (disch := omega) only [go_sem, reqD_of, dec_t, dec_f, wrap_i64, wrap_u32, wrap_u64, wrap_u8]
  refine MsgP.mk (vn := tn) (vq := tq) (vd := .slice a' f.data.length c') ?_
  unfold MsgL at h3
  exact (h3.ac (show _ = RowO 5 1 td t.data.length (byR t.data) * (Blk C (msgB (moveF 18 t f) tn tq (.slice a' f.data.length c')) * (MsgL (moveF 18 t f) tn tq (.slice a' f.data.length c') * (Blk M (msgB f vn vq vd) * F))) by
    show _ = _ * (Blk C (.cells (msgC (moveF 18 t f) tn tq (.slice a' f.data.length c')).toArray _ _) * ((RowO 9 1 tn t.names.length (t.names.map sv) * (RowO 35 3 tq t.qids.length (t.qids.flatMap qidC) * RowO 5 1 (.slice a' f.data.length c') f.data.length (byR f.data))) * _))
    ac_rfl)).right

theorem move9 (hf : MOk f) (hi : MsgI F f vn vq vd) (h : St w0 (MsgP C t * (Blk M (msgB f vn vq vd) * F)) w) :
    Calls Tryz.prog 137 #[.pointer (some ⟨C, 0, none⟩), .pointer (some ⟨M, 0, none⟩)] w fun e w' => St w0 (MsgP C (moveF 9 t f) * (Blk M (msgB f vn vq vd) * F)) w' ∧ e = .returned (.tuple #[]) := by
  obtain ⟨tn, tq, td, h⟩ := MsgP.open h
  refine F137.calls (by simp) ?_
  unfold F137.code
  simp -dsimp -implicitDefEqProofs (disch := omega) only [go_sem, reqD_of, dec_t, dec_f, wrap_i64, wrap_u32, wrap_u64, wrap_u8, h.cl M]
  refine (cloneT_any (ls := f.names) h ((Ent.right _ _).trans ((Ent.right _ _).trans ((Ent.right _ _).trans hi.names))) hf.names).mono ?_
  rintro e w1 ⟨v', hv', h1, rfl⟩
  obtain ⟨a', c', rfl, _⟩ := h1.rowForm v'
  simp -dsimp -implicitDefEqProofs (disch := omega) only [go_sem, reqD_of, dec_t, dec_f, wrap_i64, wrap_u32, wrap_u64, wrap_u8]
  refine h1.sto (b := C) (off := 11) (by simp) rfl fun w3 h3 => ?_
  simp only [List.setIfInBounds_toArray, List.set_cons_succ, List.set_cons_zero] at h3
  simp -dsimp -implicitDefEqProofs (disch := omega) only [go_sem, reqD_of, dec_t, dec_f, wrap_i64, wrap_u32, wrap_u64, wrap_u8]
  refine MsgP.mk (vn := .slice a' f.names.length c') (vq := tq) (vd := td) ?_
  unfold MsgL at h3
  exact (h3.ac (show _ = RowO 9 1 tn t.names.length (t.names.map sv) * (Blk C (msgB (moveF 9 t f) (.slice a' f.names.length c') tq td) * (MsgL (moveF 9 t f) (.slice a' f.names.length c') tq td * (Blk M (msgB f vn vq vd) * F))) by
    show _ = _ * (Blk C (.cells (msgC (moveF 9 t f) (.slice a' f.names.length c') tq td).toArray _ _) * ((RowO 9 1 (.slice a' f.names.length c') f.names.length (f.names.map sv) * (RowO 35 3 tq t.qids.length (t.qids.flatMap qidC) * RowO 5 1 td t.data.length (byR t.data))) * _))
    ac_rfl)).right

theorem move10 (hf : MOk f) (hi : MsgI F f vn vq vd) (h : St w0 (MsgP C t * (Blk M (msgB f vn vq vd) * F)) w) :
    Calls Tryz.prog 150 #[.pointer (some ⟨C, 0, none⟩), .pointer (some ⟨M, 0, none⟩)] w fun e w' => St w0 (MsgP C (moveF 10 t f) * (Blk M (msgB f vn vq vd) * F)) w' ∧ e = .returned (.tuple #[]) := by
  obtain ⟨tn, tq, td, h⟩ := MsgP.open h
  refine F150.calls (by simp) ?_
  unfold F150.code
  simp -dsimp -implicitDefEqProofs (disch := omega) only [go_sem, reqD_of, dec_t, dec_f, wrap_i64, wrap_u32, wrap_u64, wrap_u8, h.cl M]
  refine (cloneQ_any (qs := f.qids) h ((Ent.right _ _).trans ((Ent.right _ _).trans ((Ent.right _ _).trans hi.qids))) hf.qids).mono ?_
  rintro e w1 ⟨v', hv', h1, rfl⟩
  obtain ⟨a', c', rfl, _⟩ := h1.rowForm v'
  simp -dsimp -implicitDefEqProofs (disch := omega) only [go_sem, reqD_of, dec_t, dec_f, wrap_i64, wrap_u32, wrap_u64, wrap_u8]
  refine h1.sto (b := C) (off := 12) (by simp) rfl fun w3 h3 => ?_
  simp only [List.setIfInBounds_toArray, List.set_cons_succ, List.set_cons_zero] at h3
  simp -dsimp -implicitDefEqProofs (disch := omega) only [go_sem, reqD_of, dec_t, dec_f, wrap_i64, wrap_u32, wrap_u64, wrap_u8]
  refine MsgP.mk (vn := tn) (vq := .slice a' f.qids.length c') (vd := td) ?_
  unfold MsgL at h3
  exact (h3.ac (show _ = RowO 35 3 tq t.qids.length (t.qids.flatMap qidC) * (Blk C (msgB (moveF 10 t f) tn (.slice a' f.qids.length c') td) * (MsgL (moveF 10 t f) tn (.slice a' f.qids.length c') td * (Blk M (msgB f vn vq vd) * F))) by
    show _ = _ * (Blk C (.cells (msgC (moveF 10 t f) tn (.slice a' f.qids.length c') td).toArray _ _) * ((RowO 9 1 tn t.names.length (t.names.map sv) * (RowO 35 3 (.slice a' f.qids.length c') f.qids.length (f.qids.flatMap qidC) * RowO 5 1 td t.data.length (byR t.data))) * _))
    ac_rfl)).right
end
end Go.Proofs.YtmiohkmcnppaeaaGreatDoor

namespace Go.Proofs.YtmiohkmcnppaeaaGreatDoor
open Go
set_option linter.unusedVariables false
set_option linter.unusedSimpArgs false
set_option maxRecDepth 100000

section
variable {w0 w : World} {F : HP} {R C K at' : Nat} {t m : MsgD} {b pre post : List UInt8} {v : Value} {ba wh : Int}

theorem take0 (hm : MOk m) (hb : b = pre ++ (bytesF 0 m ++ post)) (hat : at' = pre.length) (hbl : b.length ≤ 16777216) (hv : Ent F (RdB v b)) (h : St w0 (Blk R (rB v at' ba 0 wh) * (MsgP C t * (Blk K (atN 34) * F))) w) :
    Calls Tryz.prog 57 #[.pointer (some ⟨R, 0, none⟩), .pointer (some ⟨C, 0, none⟩), .pointer (some ⟨K, 0, none⟩)] w fun e w' => St w0 (Blk R (rB v (at' + (bytesF 0 m).length : Nat) ba 0 wh) * (MsgP C (moveF 0 t m) * (Blk K (atN 34) * F))) w' ∧ e = .returned (.tuple #[]) := by
  have e0 : bytesF 0 m = leN 4 m.msize := by simp [bytesF, pcsF, bytesL, Pc.bytes]
  rw [e0] at hb ⊢
  rw [leN_length]
  refine F57.calls (by simp) ?_
  unfold F57.code
  simp -dsimp -implicitDefEqProofs (disch := omega) only [go_sem, reqD_of, dec_t, dec_f, wrap_i64, wrap_u32, wrap_u64, wrap_u8, h.cl K, okAt1]
  refine (at1 (M := C) h).mono ?_
  rintro e w1 ⟨h1, rfl⟩
  simp -dsimp -implicitDefEqProofs (disch := omega) only [go_sem, reqD_of, dec_t, dec_f, wrap_i64, wrap_u32, wrap_u64, wrap_u8]
  refine (R32_any (n := m.msize) hm.msize hb hat hbl ((Ent.right _ _).trans ((Ent.right _ _).trans hv)) h1).mono ?_
  rintro e w2 ⟨h2, rfl⟩
  obtain ⟨tn, tq, td, h2⟩ := MsgP.open (h2.ac (show _ = MsgP C t * (Blk R (rB v (at' + 4) ba 0 wh) * (Blk K (atN 34) * F)) by ac_rfl))
  simp -dsimp -implicitDefEqProofs (disch := omega) only [go_sem, reqD_of, dec_t, dec_f, wrap_i64, wrap_u32, wrap_u64, wrap_u8]
  refine h2.sto (b := C) (off := 2) (by simp) rfl fun w3 h3 => ?_
  simp only [List.setIfInBounds_toArray, List.set_cons_succ, List.set_cons_zero] at h3
  simp -dsimp -implicitDefEqProofs (disch := omega) only [go_sem, reqD_of, dec_t, dec_f, wrap_i64, wrap_u32, wrap_u64, wrap_u8]
  exact (MsgP.mk (m := moveF 0 t m) (vn := tn) (vq := tq) (vd := td) h3).ac (by ac_rfl)

theorem take2 (hm : MOk m) (hb : b = pre ++ (bytesF 2 m ++ post)) (hat : at' = pre.length) (hbl : b.length ≤ 16777216) (hv : Ent F (RdB v b)) (h : St w0 (Blk R (rB v at' ba 0 wh) * (MsgP C t * (Blk K (atN 35) * F))) w) :
    Calls Tryz.prog 57 #[.pointer (some ⟨R, 0, none⟩), .pointer (some ⟨C, 0, none⟩), .pointer (some ⟨K, 0, none⟩)] w fun e w' => St w0 (Blk R (rB v (at' + (bytesF 2 m).length : Nat) ba 0 wh) * (MsgP C (moveF 2 t m) * (Blk K (atN 35) * F))) w' ∧ e = .returned (.tuple #[]) := by
  have e0 : bytesF 2 m = leN 4 m.afid := by simp [bytesF, pcsF, bytesL, Pc.bytes]
  rw [e0] at hb ⊢
  rw [leN_length]
  refine F57.calls (by simp) ?_
  unfold F57.code
  simp -dsimp -implicitDefEqProofs (disch := omega) only [go_sem, reqD_of, dec_t, dec_f, wrap_i64, wrap_u32, wrap_u64, wrap_u8, h.cl K, okAt2]
  refine (at2 (M := C) h).mono ?_
  rintro e w1 ⟨h1, rfl⟩
  simp -dsimp -implicitDefEqProofs (disch := omega) only [go_sem, reqD_of, dec_t, dec_f, wrap_i64, wrap_u32, wrap_u64, wrap_u8]
  refine (R32_any (n := m.afid) hm.afid hb hat hbl ((Ent.right _ _).trans ((Ent.right _ _).trans hv)) h1).mono ?_
  rintro e w2 ⟨h2, rfl⟩
  obtain ⟨tn, tq, td, h2⟩ := MsgP.open (h2.ac (show _ = MsgP C t * (Blk R (rB v (at' + 4) ba 0 wh) * (Blk K (atN 35) * F)) by ac_rfl))
  simp -dsimp -implicitDefEqProofs (disch := omega) only [go_sem, reqD_of, dec_t, dec_f, wrap_i64, wrap_u32, wrap_u64, wrap_u8]
  refine h2.sto (b := C) (off := 4) (by simp) rfl fun w3 h3 => ?_
  simp only [List.setIfInBounds_toArray, List.set_cons_succ, List.set_cons_zero] at h3
  simp -dsimp -implicitDefEqProofs (disch := omega) only [go_sem, reqD_of, dec_t, dec_f, wrap_i64, wrap_u32, wrap_u64, wrap_u8]
  exact (MsgP.mk (m := moveF 2 t m) (vn := tn) (vq := tq) (vd := td) h3).ac (by ac_rfl)

theorem take7 (hm : MOk m) (hb : b = pre ++ (bytesF 7 m ++ post)) (hat : at' = pre.length) (hbl : b.length ≤ 16777216) (hv : Ent F (RdB v b)) (h : St w0 (Blk R (rB v at' ba 0 wh) * (MsgP C t * (Blk K (atN 36) * F))) w) :
    Calls Tryz.prog 57 #[.pointer (some ⟨R, 0, none⟩), .pointer (some ⟨C, 0, none⟩), .pointer (some ⟨K, 0, none⟩)] w fun e w' => St w0 (Blk R (rB v (at' + (bytesF 7 m).length : Nat) ba 0 wh) * (MsgP C (moveF 7 t m) * (Blk K (atN 36) * F))) w' ∧ e = .returned (.tuple #[]) := by
  have e0 : bytesF 7 m = leN 4 m.fid := by simp [bytesF, pcsF, bytesL, Pc.bytes]
  rw [e0] at hb ⊢
  rw [leN_length]
  refine F57.calls (by simp) ?_
  unfold F57.code
  simp -dsimp -implicitDefEqProofs (disch := omega) only [go_sem, reqD_of, dec_t, dec_f, wrap_i64, wrap_u32, wrap_u64, wrap_u8, h.cl K, okAt3]
  refine (at3 (M := C) h).mono ?_
  rintro e w1 ⟨h1, rfl⟩
  simp -dsimp -implicitDefEqProofs (disch := omega) only [go_sem, reqD_of, dec_t, dec_f, wrap_i64, wrap_u32, wrap_u64, wrap_u8]
  refine (R32_any (n := m.fid) hm.fid hb hat hbl ((Ent.right _ _).trans ((Ent.right _ _).trans hv)) h1).mono ?_
  rintro e w2 ⟨h2, rfl⟩
  obtain ⟨tn, tq, td, h2⟩ := MsgP.open (h2.ac (show _ = MsgP C t * (Blk R (rB v (at' + 4) ba 0 wh) * (Blk K (atN 36) * F)) by ac_rfl))
  simp -dsimp -implicitDefEqProofs (disch := omega) only [go_sem, reqD_of, dec_t, dec_f, wrap_i64, wrap_u32, wrap_u64, wrap_u8]
  refine h2.sto (b := C) (off := 9) (by simp) rfl fun w3 h3 => ?_
  simp only [List.setIfInBounds_toArray, List.set_cons_succ, List.set_cons_zero] at h3
  simp -dsimp -implicitDefEqProofs (disch := omega) only [go_sem, reqD_of, dec_t, dec_f, wrap_i64, wrap_u32, wrap_u64, wrap_u8]
  exact (MsgP.mk (m := moveF 7 t m) (vn := tn) (vq := tq) (vd := td) h3).ac (by ac_rfl)

theorem take8 (hm : MOk m) (hb : b = pre ++ (bytesF 8 m ++ post)) (hat : at' = pre.length) (hbl : b.length ≤ 16777216) (hv : Ent F (RdB v b)) (h : St w0 (Blk R (rB v at' ba 0 wh) * (MsgP C t * (Blk K (atN 37) * F))) w) :
    Calls Tryz.prog 57 #[.pointer (some ⟨R, 0, none⟩), .pointer (some ⟨C, 0, none⟩), .pointer (some ⟨K, 0, none⟩)] w fun e w' => St w0 (Blk R (rB v (at' + (bytesF 8 m).length : Nat) ba 0 wh) * (MsgP C (moveF 8 t m) * (Blk K (atN 37) * F))) w' ∧ e = .returned (.tuple #[]) := by
  have e0 : bytesF 8 m = leN 4 m.newfid := by simp [bytesF, pcsF, bytesL, Pc.bytes]
  rw [e0] at hb ⊢
  rw [leN_length]
  refine F57.calls (by simp) ?_
  unfold F57.code
  simp -dsimp -implicitDefEqProofs (disch := omega) only [go_sem, reqD_of, dec_t, dec_f, wrap_i64, wrap_u32, wrap_u64, wrap_u8, h.cl K, okAt4]
  refine (at4 (M := C) h).mono ?_
  rintro e w1 ⟨h1, rfl⟩
  simp -dsimp -implicitDefEqProofs (disch := omega) only [go_sem, reqD_of, dec_t, dec_f, wrap_i64, wrap_u32, wrap_u64, wrap_u8]
  refine (R32_any (n := m.newfid) hm.newfid hb hat hbl ((Ent.right _ _).trans ((Ent.right _ _).trans hv)) h1).mono ?_
  rintro e w2 ⟨h2, rfl⟩
  obtain ⟨tn, tq, td, h2⟩ := MsgP.open (h2.ac (show _ = MsgP C t * (Blk R (rB v (at' + 4) ba 0 wh) * (Blk K (atN 37) * F)) by ac_rfl))
  simp -dsimp -implicitDefEqProofs (disch := omega) only [go_sem, reqD_of, dec_t, dec_f, wrap_i64, wrap_u32, wrap_u64, wrap_u8]
  refine h2.sto (b := C) (off := 10) (by simp) rfl fun w3 h3 => ?_
  simp only [List.setIfInBounds_toArray, List.set_cons_succ, List.set_cons_zero] at h3
  simp -dsimp -implicitDefEqProofs (disch := omega) only [go_sem, reqD_of, dec_t, dec_f, wrap_i64, wrap_u32, wrap_u64, wrap_u8]
  exact (MsgP.mk (m := moveF 8 t m) (vn := tn) (vq := tq) (vd := td) h3).ac (by ac_rfl)

theorem take13 (hm : MOk m) (hb : b = pre ++ (bytesF 13 m ++ post)) (hat : at' = pre.length) (hbl : b.length ≤ 16777216) (hv : Ent F (RdB v b)) (h : St w0 (Blk R (rB v at' ba 0 wh) * (MsgP C t * (Blk K (atN 38) * F))) w) :
    Calls Tryz.prog 57 #[.pointer (some ⟨R, 0, none⟩), .pointer (some ⟨C, 0, none⟩), .pointer (some ⟨K, 0, none⟩)] w fun e w' => St w0 (Blk R (rB v (at' + (bytesF 13 m).length : Nat) ba 0 wh) * (MsgP C (moveF 13 t m) * (Blk K (atN 38) * F))) w' ∧ e = .returned (.tuple #[]) := by
  have e0 : bytesF 13 m = leN 4 m.iounit := by simp [bytesF, pcsF, bytesL, Pc.bytes]
  rw [e0] at hb ⊢
  rw [leN_length]
  refine F57.calls (by simp) ?_
  unfold F57.code
  simp -dsimp -implicitDefEqProofs (disch := omega) only [go_sem, reqD_of, dec_t, dec_f, wrap_i64, wrap_u32, wrap_u64, wrap_u8, h.cl K, okAt5]
  refine (at5 (M := C) h).mono ?_
  rintro e w1 ⟨h1, rfl⟩
  simp -dsimp -implicitDefEqProofs (disch := omega) only [go_sem, reqD_of, dec_t, dec_f, wrap_i64, wrap_u32, wrap_u64, wrap_u8]
  refine (R32_any (n := m.iounit) hm.iounit hb hat hbl ((Ent.right _ _).trans ((Ent.right _ _).trans hv)) h1).mono ?_
  rintro e w2 ⟨h2, rfl⟩
  obtain ⟨tn, tq, td, h2⟩ := MsgP.open (h2.ac (show _ = MsgP C t * (Blk R (rB v (at' + 4) ba 0 wh) * (Blk K (atN 38) * F)) by ac_rfl))
  simp -dsimp -implicitDefEqProofs (disch := omega) only [go_sem, reqD_of, dec_t, dec_f, wrap_i64, wrap_u32, wrap_u64, wrap_u8]
  refine h2.sto (b := C) (off := 17) (by simp) rfl fun w3 h3 => ?_
  simp only [List.setIfInBounds_toArray, List.set_cons_succ, List.set_cons_zero] at h3
  simp -dsimp -implicitDefEqProofs (disch := omega) only [go_sem, reqD_of, dec_t, dec_f, wrap_i64, wrap_u32, wrap_u64, wrap_u8]
  exact (MsgP.mk (m := moveF 13 t m) (vn := tn) (vq := tq) (vd := td) h3).ac (by ac_rfl)

theorem take15 (hm : MOk m) (hb : b = pre ++ (bytesF 15 m ++ post)) (hat : at' = pre.length) (hbl : b.length ≤ 16777216) (hv : Ent F (RdB v b)) (h : St w0 (Blk R (rB v at' ba 0 wh) * (MsgP C t * (Blk K (atN 39) * F))) w) :
    Calls Tryz.prog 57 #[.pointer (some ⟨R, 0, none⟩), .pointer (some ⟨C, 0, none⟩), .pointer (some ⟨K, 0, none⟩)] w fun e w' => St w0 (Blk R (rB v (at' + (bytesF 15 m).length : Nat) ba 0 wh) * (MsgP C (moveF 15 t m) * (Blk K (atN 39) * F))) w' ∧ e = .returned (.tuple #[]) := by
  have e0 : bytesF 15 m = leN 4 m.perm := by simp [bytesF, pcsF, bytesL, Pc.bytes]
  rw [e0] at hb ⊢
  rw [leN_length]
  refine F57.calls (by simp) ?_
  unfold F57.code
  simp -dsimp -implicitDefEqProofs (disch := omega) only [go_sem, reqD_of, dec_t, dec_f, wrap_i64, wrap_u32, wrap_u64, wrap_u8, h.cl K, okAt6]
  refine (at6 (M := C) h).mono ?_
  rintro e w1 ⟨h1, rfl⟩
  simp -dsimp -implicitDefEqProofs (disch := omega) only [go_sem, reqD_of, dec_t, dec_f, wrap_i64, wrap_u32, wrap_u64, wrap_u8]
  refine (R32_any (n := m.perm) hm.perm hb hat hbl ((Ent.right _ _).trans ((Ent.right _ _).trans hv)) h1).mono ?_
  rintro e w2 ⟨h2, rfl⟩
  obtain ⟨tn, tq, td, h2⟩ := MsgP.open (h2.ac (show _ = MsgP C t * (Blk R (rB v (at' + 4) ba 0 wh) * (Blk K (atN 39) * F)) by ac_rfl))
  simp -dsimp -implicitDefEqProofs (disch := omega) only [go_sem, reqD_of, dec_t, dec_f, wrap_i64, wrap_u32, wrap_u64, wrap_u8]
  refine h2.sto (b := C) (off := 19) (by simp) rfl fun w3 h3 => ?_
  simp only [List.setIfInBounds_toArray, List.set_cons_succ, List.set_cons_zero] at h3
  simp -dsimp -implicitDefEqProofs (disch := omega) only [go_sem, reqD_of, dec_t, dec_f, wrap_i64, wrap_u32, wrap_u64, wrap_u8]
  exact (MsgP.mk (m := moveF 15 t m) (vn := tn) (vq := tq) (vd := td) h3).ac (by ac_rfl)

theorem take17 (hm : MOk m) (hb : b = pre ++ (bytesF 17 m ++ post)) (hat : at' = pre.length) (hbl : b.length ≤ 16777216) (hv : Ent F (RdB v b)) (h : St w0 (Blk R (rB v at' ba 0 wh) * (MsgP C t * (Blk K (atN 40) * F))) w) :
    Calls Tryz.prog 57 #[.pointer (some ⟨R, 0, none⟩), .pointer (some ⟨C, 0, none⟩), .pointer (some ⟨K, 0, none⟩)] w fun e w' => St w0 (Blk R (rB v (at' + (bytesF 17 m).length : Nat) ba 0 wh) * (MsgP C (moveF 17 t m) * (Blk K (atN 40) * F))) w' ∧ e = .returned (.tuple #[]) := by
  have e0 : bytesF 17 m = leN 4 m.count := by simp [bytesF, pcsF, bytesL, Pc.bytes]
  rw [e0] at hb ⊢
  rw [leN_length]
  refine F57.calls (by simp) ?_
  unfold F57.code
  simp -dsimp -implicitDefEqProofs (disch := omega) only [go_sem, reqD_of, dec_t, dec_f, wrap_i64, wrap_u32, wrap_u64, wrap_u8, h.cl K, okAt7]
  refine (at7 (M := C) h).mono ?_
  rintro e w1 ⟨h1, rfl⟩
  simp -dsimp -implicitDefEqProofs (disch := omega) only [go_sem, reqD_of, dec_t, dec_f, wrap_i64, wrap_u32, wrap_u64, wrap_u8]
  refine (R32_any (n := m.count) hm.count hb hat hbl ((Ent.right _ _).trans ((Ent.right _ _).trans hv)) h1).mono ?_
  rintro e w2 ⟨h2, rfl⟩
  obtain ⟨tn, tq, td, h2⟩ := MsgP.open (h2.ac (show _ = MsgP C t * (Blk R (rB v (at' + 4) ba 0 wh) * (Blk K (atN 40) * F)) by ac_rfl))
  simp -dsimp -implicitDefEqProofs (disch := omega) only [go_sem, reqD_of, dec_t, dec_f, wrap_i64, wrap_u32, wrap_u64, wrap_u8]
  refine h2.sto (b := C) (off := 21) (by simp) rfl fun w3 h3 => ?_
  simp only [List.setIfInBounds_toArray, List.set_cons_succ, List.set_cons_zero] at h3
  simp -dsimp -implicitDefEqProofs (disch := omega) only [go_sem, reqD_of, dec_t, dec_f, wrap_i64, wrap_u32, wrap_u64, wrap_u8]
  exact (MsgP.mk (m := moveF 17 t m) (vn := tn) (vq := tq) (vd := td) h3).ac (by ac_rfl)

theorem take1 [Gives F Tabs] (hm : MOk m) (hk : okF 1 m = true) (hb : b = pre ++ (bytesF 1 m ++ post)) (hat : at' = pre.length) (hbl : b.length ≤ 16777216) (hv : Ent F (RdB v b)) (h : St w0 (Blk R (rB v at' ba 0 wh) * (MsgP C t * (Blk K (atT 42) * F))) w) :
    Calls Tryz.prog 67 #[.pointer (some ⟨R, 0, none⟩), .pointer (some ⟨C, 0, none⟩), .pointer (some ⟨K, 0, none⟩)] w fun e w' => St w0 (Blk R (rB v (at' + (bytesF 1 m).length : Nat) ba 0 wh) * (MsgP C (moveF 1 t m) * (Blk K (atT 42) * F))) w' ∧ e = .returned (.tuple #[]) := by
  have e0 : bytesF 1 m = leN 2 m.version.length ++ m.version := by simp [bytesF, pcsF, bytesL, Pc.bytes]
  have hk2 : m.version.length ≤ 65535 ∧ good m.version = true := by simpa [okF, pcsF, Pc.ok] using hk
  have e1 : (bytesF 1 m).length = 2 + m.version.length := by rw [e0, List.length_append, leN_length]
  rw [e1]
  rw [e0, List.append_assoc] at hb
  refine F67.calls (by simp) ?_
  unfold F67.code
  simp -dsimp -implicitDefEqProofs (disch := omega) only [go_sem, reqD_of, dec_t, dec_f, wrap_i64, wrap_u32, wrap_u64, wrap_u8, h.cl K, okAt8]
  refine (at8 (M := C) h).mono ?_
  rintro e w1 ⟨h1, rfl⟩
  simp -dsimp -implicitDefEqProofs (disch := omega) only [go_sem, reqD_of, dec_t, dec_f, wrap_i64, wrap_u32, wrap_u64, wrap_u8]
  refine (rtext_any (l := m.version) (by omega) hk2.2 hb hat hbl ((Ent.right _ _).trans ((Ent.right _ _).trans hv)) h1).mono ?_
  rintro e w2 ⟨h2, rfl⟩
  obtain ⟨tn, tq, td, h2⟩ := MsgP.open (h2.ac (show _ = MsgP C t * (Blk R (rB v (at' + (2 + m.version.length)) ba 0 wh) * (Blk K (atT 42) * F)) by ac_rfl))
  simp -dsimp -implicitDefEqProofs (disch := omega) only [go_sem, reqD_of, dec_t, dec_f, wrap_i64, wrap_u32, wrap_u64, wrap_u8]
  refine h2.sto (b := C) (off := 3) (by simp) rfl fun w3 h3 => ?_
  simp only [List.setIfInBounds_toArray, List.set_cons_succ, List.set_cons_zero] at h3
  simp -dsimp -implicitDefEqProofs (disch := omega) only [go_sem, reqD_of, dec_t, dec_f, wrap_i64, wrap_u32, wrap_u64, wrap_u8]
  exact (MsgP.mk (m := moveF 1 t m) (vn := tn) (vq := tq) (vd := td) h3).ac (by ac_rfl)

theorem take3 [Gives F Tabs] (hm : MOk m) (hk : okF 3 m = true) (hb : b = pre ++ (bytesF 3 m ++ post)) (hat : at' = pre.length) (hbl : b.length ≤ 16777216) (hv : Ent F (RdB v b)) (h : St w0 (Blk R (rB v at' ba 0 wh) * (MsgP C t * (Blk K (atT 43) * F))) w) :
    Calls Tryz.prog 67 #[.pointer (some ⟨R, 0, none⟩), .pointer (some ⟨C, 0, none⟩), .pointer (some ⟨K, 0, none⟩)] w fun e w' => St w0 (Blk R (rB v (at' + (bytesF 3 m).length : Nat) ba 0 wh) * (MsgP C (moveF 3 t m) * (Blk K (atT 43) * F))) w' ∧ e = .returned (.tuple #[]) := by
  have e0 : bytesF 3 m = leN 2 m.uname.length ++ m.uname := by simp [bytesF, pcsF, bytesL, Pc.bytes]
  have hk2 : m.uname.length ≤ 65535 ∧ good m.uname = true := by simpa [okF, pcsF, Pc.ok] using hk
  have e1 : (bytesF 3 m).length = 2 + m.uname.length := by rw [e0, List.length_append, leN_length]
  rw [e1]
  rw [e0, List.append_assoc] at hb
  refine F67.calls (by simp) ?_
  unfold F67.code
  simp -dsimp -implicitDefEqProofs (disch := omega) only [go_sem, reqD_of, dec_t, dec_f, wrap_i64, wrap_u32, wrap_u64, wrap_u8, h.cl K, okAt9]
  refine (at9 (M := C) h).mono ?_
  rintro e w1 ⟨h1, rfl⟩
  simp -dsimp -implicitDefEqProofs (disch := omega) only [go_sem, reqD_of, dec_t, dec_f, wrap_i64, wrap_u32, wrap_u64, wrap_u8]
  refine (rtext_any (l := m.uname) (by omega) hk2.2 hb hat hbl ((Ent.right _ _).trans ((Ent.right _ _).trans hv)) h1).mono ?_
  rintro e w2 ⟨h2, rfl⟩
  obtain ⟨tn, tq, td, h2⟩ := MsgP.open (h2.ac (show _ = MsgP C t * (Blk R (rB v (at' + (2 + m.uname.length)) ba 0 wh) * (Blk K (atT 43) * F)) by ac_rfl))
  simp -dsimp -implicitDefEqProofs (disch := omega) only [go_sem, reqD_of, dec_t, dec_f, wrap_i64, wrap_u32, wrap_u64, wrap_u8]
  refine h2.sto (b := C) (off := 5) (by simp) rfl fun w3 h3 => ?_
  simp only [List.setIfInBounds_toArray, List.set_cons_succ, List.set_cons_zero] at h3
  simp -dsimp -implicitDefEqProofs (disch := omega) only [go_sem, reqD_of, dec_t, dec_f, wrap_i64, wrap_u32, wrap_u64, wrap_u8]
  exact (MsgP.mk (m := moveF 3 t m) (vn := tn) (vq := tq) (vd := td) h3).ac (by ac_rfl)

theorem take4 [Gives F Tabs] (hm : MOk m) (hk : okF 4 m = true) (hb : b = pre ++ (bytesF 4 m ++ post)) (hat : at' = pre.length) (hbl : b.length ≤ 16777216) (hv : Ent F (RdB v b)) (h : St w0 (Blk R (rB v at' ba 0 wh) * (MsgP C t * (Blk K (atT 44) * F))) w) :
    Calls Tryz.prog 67 #[.pointer (some ⟨R, 0, none⟩), .pointer (some ⟨C, 0, none⟩), .pointer (some ⟨K, 0, none⟩)] w fun e w' => St w0 (Blk R (rB v (at' + (bytesF 4 m).length : Nat) ba 0 wh) * (MsgP C (moveF 4 t m) * (Blk K (atT 44) * F))) w' ∧ e = .returned (.tuple #[]) := by
  have e0 : bytesF 4 m = leN 2 m.aname.length ++ m.aname := by simp [bytesF, pcsF, bytesL, Pc.bytes]
  have hk2 : m.aname.length ≤ 65535 ∧ good m.aname = true := by simpa [okF, pcsF, Pc.ok] using hk
  have e1 : (bytesF 4 m).length = 2 + m.aname.length := by rw [e0, List.length_append, leN_length]
  rw [e1]
  rw [e0, List.append_assoc] at hb
  refine F67.calls (by simp) ?_
  unfold F67.code
  simp -dsimp -implicitDefEqProofs (disch := omega) only [go_sem, reqD_of, dec_t, dec_f, wrap_i64, wrap_u32, wrap_u64, wrap_u8, h.cl K, okAt10]
  refine (at10 (M := C) h).mono ?_
  rintro e w1 ⟨h1, rfl⟩
  simp -dsimp -implicitDefEqProofs (disch := omega) only [go_sem, reqD_of, dec_t, dec_f, wrap_i64, wrap_u32, wrap_u64, wrap_u8]
  refine (rtext_any (l := m.aname) (by omega) hk2.2 hb hat hbl ((Ent.right _ _).trans ((Ent.right _ _).trans hv)) h1).mono ?_
  rintro e w2 ⟨h2, rfl⟩
  obtain ⟨tn, tq, td, h2⟩ := MsgP.open (h2.ac (show _ = MsgP C t * (Blk R (rB v (at' + (2 + m.aname.length)) ba 0 wh) * (Blk K (atT 44) * F)) by ac_rfl))
  simp -dsimp -implicitDefEqProofs (disch := omega) only [go_sem, reqD_of, dec_t, dec_f, wrap_i64, wrap_u32, wrap_u64, wrap_u8]
  refine h2.sto (b := C) (off := 6) (by simp) rfl fun w3 h3 => ?_
  simp only [List.setIfInBounds_toArray, List.set_cons_succ, List.set_cons_zero] at h3
  simp -dsimp -implicitDefEqProofs (disch := omega) only [go_sem, reqD_of, dec_t, dec_f, wrap_i64, wrap_u32, wrap_u64, wrap_u8]
  exact (MsgP.mk (m := moveF 4 t m) (vn := tn) (vq := tq) (vd := td) h3).ac (by ac_rfl)

theorem take5 [Gives F Tabs] (hm : MOk m) (hk : okF 5 m = true) (hb : b = pre ++ (bytesF 5 m ++ post)) (hat : at' = pre.length) (hbl : b.length ≤ 16777216) (hv : Ent F (RdB v b)) (h : St w0 (Blk R (rB v at' ba 0 wh) * (MsgP C t * (Blk K (atT 45) * F))) w) :
    Calls Tryz.prog 67 #[.pointer (some ⟨R, 0, none⟩), .pointer (some ⟨C, 0, none⟩), .pointer (some ⟨K, 0, none⟩)] w fun e w' => St w0 (Blk R (rB v (at' + (bytesF 5 m).length : Nat) ba 0 wh) * (MsgP C (moveF 5 t m) * (Blk K (atT 45) * F))) w' ∧ e = .returned (.tuple #[]) := by
  have e0 : bytesF 5 m = leN 2 m.ename.length ++ m.ename := by simp [bytesF, pcsF, bytesL, Pc.bytes]
  have hk2 : m.ename.length ≤ 65535 ∧ good m.ename = true := by simpa [okF, pcsF, Pc.ok] using hk
  have e1 : (bytesF 5 m).length = 2 + m.ename.length := by rw [e0, List.length_append, leN_length]
  rw [e1]
  rw [e0, List.append_assoc] at hb
  refine F67.calls (by simp) ?_
  unfold F67.code
  simp -dsimp -implicitDefEqProofs (disch := omega) only [go_sem, reqD_of, dec_t, dec_f, wrap_i64, wrap_u32, wrap_u64, wrap_u8, h.cl K, okAt11]
  refine (at11 (M := C) h).mono ?_
  rintro e w1 ⟨h1, rfl⟩
  simp -dsimp -implicitDefEqProofs (disch := omega) only [go_sem, reqD_of, dec_t, dec_f, wrap_i64, wrap_u32, wrap_u64, wrap_u8]
  refine (rtext_any (l := m.ename) (by omega) hk2.2 hb hat hbl ((Ent.right _ _).trans ((Ent.right _ _).trans hv)) h1).mono ?_
  rintro e w2 ⟨h2, rfl⟩
  obtain ⟨tn, tq, td, h2⟩ := MsgP.open (h2.ac (show _ = MsgP C t * (Blk R (rB v (at' + (2 + m.ename.length)) ba 0 wh) * (Blk K (atT 45) * F)) by ac_rfl))
  simp -dsimp -implicitDefEqProofs (disch := omega) only [go_sem, reqD_of, dec_t, dec_f, wrap_i64, wrap_u32, wrap_u64, wrap_u8]
  refine h2.sto (b := C) (off := 7) (by simp) rfl fun w3 h3 => ?_
  simp only [List.setIfInBounds_toArray, List.set_cons_succ, List.set_cons_zero] at h3
  simp -dsimp -implicitDefEqProofs (disch := omega) only [go_sem, reqD_of, dec_t, dec_f, wrap_i64, wrap_u32, wrap_u64, wrap_u8]
  exact (MsgP.mk (m := moveF 5 t m) (vn := tn) (vq := tq) (vd := td) h3).ac (by ac_rfl)

theorem take14 [Gives F Tabs] (hm : MOk m) (hk : okF 14 m = true) (hb : b = pre ++ (bytesF 14 m ++ post)) (hat : at' = pre.length) (hbl : b.length ≤ 16777216) (hv : Ent F (RdB v b)) (h : St w0 (Blk R (rB v at' ba 0 wh) * (MsgP C t * (Blk K (atT 46) * F))) w) :
    Calls Tryz.prog 67 #[.pointer (some ⟨R, 0, none⟩), .pointer (some ⟨C, 0, none⟩), .pointer (some ⟨K, 0, none⟩)] w fun e w' => St w0 (Blk R (rB v (at' + (bytesF 14 m).length : Nat) ba 0 wh) * (MsgP C (moveF 14 t m) * (Blk K (atT 46) * F))) w' ∧ e = .returned (.tuple #[]) := by
  have e0 : bytesF 14 m = leN 2 m.name.length ++ m.name := by simp [bytesF, pcsF, bytesL, Pc.bytes]
  have hk2 : m.name.length ≤ 65535 ∧ good m.name = true := by simpa [okF, pcsF, Pc.ok] using hk
  have e1 : (bytesF 14 m).length = 2 + m.name.length := by rw [e0, List.length_append, leN_length]
  rw [e1]
  rw [e0, List.append_assoc] at hb
  refine F67.calls (by simp) ?_
  unfold F67.code
  simp -dsimp -implicitDefEqProofs (disch := omega) only [go_sem, reqD_of, dec_t, dec_f, wrap_i64, wrap_u32, wrap_u64, wrap_u8, h.cl K, okAt12]
  refine (at12 (M := C) h).mono ?_
  rintro e w1 ⟨h1, rfl⟩
  simp -dsimp -implicitDefEqProofs (disch := omega) only [go_sem, reqD_of, dec_t, dec_f, wrap_i64, wrap_u32, wrap_u64, wrap_u8]
  refine (rtext_any (l := m.name) (by omega) hk2.2 hb hat hbl ((Ent.right _ _).trans ((Ent.right _ _).trans hv)) h1).mono ?_
  rintro e w2 ⟨h2, rfl⟩
  obtain ⟨tn, tq, td, h2⟩ := MsgP.open (h2.ac (show _ = MsgP C t * (Blk R (rB v (at' + (2 + m.name.length)) ba 0 wh) * (Blk K (atT 46) * F)) by ac_rfl))
  simp -dsimp -implicitDefEqProofs (disch := omega) only [go_sem, reqD_of, dec_t, dec_f, wrap_i64, wrap_u32, wrap_u64, wrap_u8]
  refine h2.sto (b := C) (off := 18) (by simp) rfl fun w3 h3 => ?_
  simp only [List.setIfInBounds_toArray, List.set_cons_succ, List.set_cons_zero] at h3
  simp -dsimp -implicitDefEqProofs (disch := omega) only [go_sem, reqD_of, dec_t, dec_f, wrap_i64, wrap_u32, wrap_u64, wrap_u8]
  exact (MsgP.mk (m := moveF 14 t m) (vn := tn) (vq := tq) (vd := td) h3).ac (by ac_rfl)

theorem take6 (hm : MOk m) (hb : b = pre ++ (bytesF 6 m ++ post)) (hat : at' = pre.length) (hbl : b.length ≤ 16777216) (hv : Ent F (RdB v b)) (h : St w0 (Blk R (rB v at' ba 0 wh) * (MsgP C t * F)) w) :
    Calls Tryz.prog 75 #[.pointer (some ⟨R, 0, none⟩), .pointer (some ⟨C, 0, none⟩)] w fun e w' => St w0 (Blk R (rB v (at' + (bytesF 6 m).length : Nat) ba 0 wh) * (MsgP C (moveF 6 t m) * F)) w' ∧ e = .returned (.tuple #[]) := by
  have e0 : bytesF 6 m = leN 2 m.oldtag := by simp [bytesF, pcsF, bytesL, Pc.bytes]
  rw [e0] at hb ⊢
  rw [leN_length]
  refine F75.calls (by simp) ?_
  unfold F75.code
  simp -dsimp -implicitDefEqProofs (disch := omega) only [go_sem, reqD_of, dec_t, dec_f, wrap_i64, wrap_u32, wrap_u64, wrap_u8]
  refine (R16_any (n := m.oldtag) hm.oldtag hb hat hbl ((Ent.right _ _).trans hv) h).mono ?_
  rintro e w2 ⟨h2, rfl⟩
  obtain ⟨tn, tq, td, h2⟩ := MsgP.open (h2.ac (show _ = MsgP C t * (Blk R (rB v (at' + 2) ba 0 wh) * F) by ac_rfl))
  simp -dsimp -implicitDefEqProofs (disch := omega) only [go_sem, reqD_of, dec_t, dec_f, wrap_i64, wrap_u32, wrap_u64, wrap_u8]
  refine h2.sto (b := C) (off := 8) (by simp) rfl fun w3 h3 => ?_
  simp only [List.setIfInBounds_toArray, List.set_cons_succ, List.set_cons_zero] at h3
  simp -dsimp -implicitDefEqProofs (disch := omega) only [go_sem, reqD_of, dec_t, dec_f, wrap_i64, wrap_u32, wrap_u64, wrap_u8]
  exact (MsgP.mk (m := moveF 6 t m) (vn := tn) (vq := tq) (vd := td) h3).ac (by ac_rfl)

theorem take12 (hm : MOk m) (hb : b = pre ++ (bytesF 12 m ++ post)) (hat : at' = pre.length) (hbl : b.length ≤ 16777216) (hv : Ent F (RdB v b)) (h : St w0 (Blk R (rB v at' ba 0 wh) * (MsgP C t * F)) w) :
    Calls Tryz.prog 80 #[.pointer (some ⟨R, 0, none⟩), .pointer (some ⟨C, 0, none⟩)] w fun e w' => St w0 (Blk R (rB v (at' + (bytesF 12 m).length : Nat) ba 0 wh) * (MsgP C (moveF 12 t m) * F)) w' ∧ e = .returned (.tuple #[]) := by
  have e0 : bytesF 12 m = leN 1 m.mode := by simp [bytesF, pcsF, bytesL, Pc.bytes]
  rw [e0] at hb ⊢
  rw [leN_length]
  refine F80.calls (by simp) ?_
  unfold F80.code
  simp -dsimp -implicitDefEqProofs (disch := omega) only [go_sem, reqD_of, dec_t, dec_f, wrap_i64, wrap_u32, wrap_u64, wrap_u8]
  refine (R8_any (n := m.mode) hm.mode hb hat hbl ((Ent.right _ _).trans hv) h).mono ?_
  rintro e w2 ⟨h2, rfl⟩
  obtain ⟨tn, tq, td, h2⟩ := MsgP.open (h2.ac (show _ = MsgP C t * (Blk R (rB v (at' + 1) ba 0 wh) * F) by ac_rfl))
  simp -dsimp -implicitDefEqProofs (disch := omega) only [go_sem, reqD_of, dec_t, dec_f, wrap_i64, wrap_u32, wrap_u64, wrap_u8]
  refine h2.sto (b := C) (off := 16) (by simp) rfl fun w3 h3 => ?_
  simp only [List.setIfInBounds_toArray, List.set_cons_succ, List.set_cons_zero] at h3
  simp -dsimp -implicitDefEqProofs (disch := omega) only [go_sem, reqD_of, dec_t, dec_f, wrap_i64, wrap_u32, wrap_u64, wrap_u8]
  exact (MsgP.mk (m := moveF 12 t m) (vn := tn) (vq := tq) (vd := td) h3).ac (by ac_rfl)

theorem take16 (hm : MOk m) (hb : b = pre ++ (bytesF 16 m ++ post)) (hat : at' = pre.length) (hbl : b.length ≤ 16777216) (hv : Ent F (RdB v b)) (h : St w0 (Blk R (rB v at' ba 0 wh) * (MsgP C t * F)) w) :
    Calls Tryz.prog 86 #[.pointer (some ⟨R, 0, none⟩), .pointer (some ⟨C, 0, none⟩)] w fun e w' => St w0 (Blk R (rB v (at' + (bytesF 16 m).length : Nat) ba 0 wh) * (MsgP C (moveF 16 t m) * F)) w' ∧ e = .returned (.tuple #[]) := by
  have e0 : bytesF 16 m = leN 8 m.offset := by simp [bytesF, pcsF, bytesL, Pc.bytes]
  rw [e0] at hb ⊢
  rw [leN_length]
  refine F86.calls (by simp) ?_
  unfold F86.code
  simp -dsimp -implicitDefEqProofs (disch := omega) only [go_sem, reqD_of, dec_t, dec_f, wrap_i64, wrap_u32, wrap_u64, wrap_u8]
  refine (R64_any (n := m.offset) hm.offset hb hat hbl ((Ent.right _ _).trans hv) h).mono ?_
  rintro e w2 ⟨h2, rfl⟩
  obtain ⟨tn, tq, td, h2⟩ := MsgP.open (h2.ac (show _ = MsgP C t * (Blk R (rB v (at' + 8) ba 0 wh) * F) by ac_rfl))
  simp -dsimp -implicitDefEqProofs (disch := omega) only [go_sem, reqD_of, dec_t, dec_f, wrap_i64, wrap_u32, wrap_u64, wrap_u8]
  refine h2.sto (b := C) (off := 20) (by simp) rfl fun w3 h3 => ?_
  simp only [List.setIfInBounds_toArray, List.set_cons_succ, List.set_cons_zero] at h3
  simp -dsimp -implicitDefEqProofs (disch := omega) only [go_sem, reqD_of, dec_t, dec_f, wrap_i64, wrap_u32, wrap_u64, wrap_u8]
  exact (MsgP.mk (m := moveF 16 t m) (vn := tn) (vq := tq) (vd := td) h3).ac (by ac_rfl)
end
end Go.Proofs.YtmiohkmcnppaeaaGreatDoor

namespace Go.Proofs.YtmiohkmcnppaeaaGreatDoor
open Go
set_option linter.unusedVariables false
set_option linter.unusedSimpArgs false
set_option maxRecDepth 100000

theorem nextB {b pre p rest : List UInt8} (h : b = pre ++ (p ++ rest)) : b = (pre ++ p) ++ rest := by rw [h, List.append_assoc]
def qidBy (q : QidD) : List UInt8 := leN 1 q.k ++ (leN 4 q.v ++ leN 8 q.p)
theorem qidBy_len (q : QidD) : (qidBy q).length = 13 := by simp [qidBy, leN_length]
theorem qidBy_eq (q : QidD) : bytesL (qidPcs q) = qidBy q := by simp [bytesL, qidPcs, Pc.bytes, qidBy]
section
variable {w0 w : World} {F : HP} {R C K at' : Nat} {t m : MsgD} {b pre post : List UInt8} {v : Value} {ba wh : Int}
section
attribute [local go_sem] F104.t9_eq F104.t3_eq
theorem takeQid_any {q : QidD} (hq : QidOk q) (hb : b = pre ++ (qidBy q ++ post)) (hat : at' = pre.length) (hbl : b.length ≤ 16777216) (hv : Ent F (RdB v b)) (h : St w0 (Blk R (rB v at' ba 0 wh) * F) w) :
    Calls Tryz.prog 104 #[.pointer (some ⟨R, 0, none⟩)] w fun e w' => St w0 (Blk R (rB v (at' + 13 : Nat) ba 0 wh) * F) w' ∧ e = .returned (.agg (qidC q).toArray) := by
  have hb1 : b = pre ++ (leN 1 q.k ++ (leN 4 q.v ++ (leN 8 q.p ++ post))) := by rw [hb, qidBy]; simp only [List.append_assoc]
  have hb2 := nextB hb1
  have hb3 := nextB hb2
  refine F104.calls (by simp) ?_
  unfold F104.code
  simp -dsimp -implicitDefEqProofs (disch := omega) only [go_sem, reqD_of, dec_t, dec_f, wrap_i64, wrap_u32, wrap_u64, wrap_u8]
  refine h.new fun X w1 h1 => ?_
  simp -dsimp -implicitDefEqProofs (disch := omega) only [go_sem, reqD_of, dec_t, dec_f, wrap_i64, wrap_u32, wrap_u64, wrap_u8]
  refine (R8_any (n := q.k) hq.1 hb1 hat hbl ((Ent.right _ _).trans hv) (h1.ac (show _ = Blk R (rB v at' ba 0 wh) * (Blk X (.cells #[.int .u8 0, .int .u32 0, .int .u64 0] 35 (0, 0)) * F) by ac_rfl))).mono ?_
  rintro e w2 ⟨h2, rfl⟩
  simp -dsimp -implicitDefEqProofs (disch := omega) only [go_sem, reqD_of, dec_t, dec_f, wrap_i64, wrap_u32, wrap_u64, wrap_u8]
  refine (R32_any (n := q.v) hq.2.1 hb2 (by simp [leN_length, hat]) hbl ((Ent.right _ _).trans hv) h2).mono ?_
  rintro e w3 ⟨h3, rfl⟩
  simp -dsimp -implicitDefEqProofs (disch := omega) only [go_sem, reqD_of, dec_t, dec_f, wrap_i64, wrap_u32, wrap_u64, wrap_u8]
  refine (R64_any (n := q.p) hq.2.2 hb3 (by simp [leN_length, hat]) hbl ((Ent.right _ _).trans hv) h3).mono ?_
  rintro e w4 ⟨h4, rfl⟩
  simp -dsimp -implicitDefEqProofs (disch := omega) only [go_sem, reqD_of, dec_t, dec_f, wrap_i64, wrap_u32, wrap_u64, wrap_u8]
  refine (err_any ((Ent.right _ _).trans hv) h4).mono ?_
  rintro e w5 ⟨h5, rfl⟩
  simp -dsimp -implicitDefEqProofs (disch := omega) only [go_sem, reqD_of, dec_t, dec_f, wrap_i64, wrap_u32, wrap_u64, wrap_u8]
  refine onV_of (v := .agg (qidC q).toArray) (by kernel_rfl) ?_
  simp -dsimp -implicitDefEqProofs (disch := omega) only [go_sem, reqD_of, dec_t, dec_f, wrap_i64, wrap_u32, wrap_u64, wrap_u8]
  refine h5.stoAll (b := X) (n := 3) (cs := qidC q) rfl rfl (fun y hy => by simp only [qidC, List.mem_cons, List.not_mem_nil, or_false] at hy; rcases hy with rfl | rfl | rfl <;> rfl) fun w6 h6 => ?_
  simp -dsimp -implicitDefEqProofs (disch := omega) only [go_sem, reqD_of, dec_t, dec_f, wrap_i64, wrap_u32, wrap_u64, wrap_u8]
  have hr : rowV w6 ⟨X, 0, none⟩ 3 = some (.agg (qidC q).toArray) := h6.rowH X 3 rfl
  refine resC_1 (a := ⟨X, 0, none⟩) (v := .agg (qidC q).toArray) (by simp -dsimp -implicitDefEqProofs only [go_sem]) (run_loadVar_row fact_aggSz_35 hr) ?_
  refine ⟨?_, rfl⟩
  have e1 : at' + 1 + 4 + 8 = at' + 13 := by omega
  rw [e1] at h6
  exact h6.ent (Ent.sep (Ent.rfl' _) (Ent.right _ _))
end

theorem take11 (hm : MOk m) (hb : b = pre ++ (bytesF 11 m ++ post)) (hat : at' = pre.length) (hbl : b.length ≤ 16777216) (hv : Ent F (RdB v b)) (h : St w0 (Blk R (rB v at' ba 0 wh) * (MsgP C t * F)) w) :
    Calls Tryz.prog 103 #[.pointer (some ⟨R, 0, none⟩), .pointer (some ⟨C, 0, none⟩)] w fun e w' => St w0 (Blk R (rB v (at' + (bytesF 11 m).length : Nat) ba 0 wh) * (MsgP C (moveF 11 t m) * F)) w' ∧ e = .returned (.tuple #[]) := by
  have e0 : bytesF 11 m = qidBy m.qid := qidBy_eq m.qid
  rw [e0] at hb ⊢
  rw [qidBy_len]
  refine F103.calls (by simp) ?_
  unfold F103.code
  simp -dsimp -implicitDefEqProofs (disch := omega) only [go_sem, reqD_of, dec_t, dec_f, wrap_i64, wrap_u32, wrap_u64, wrap_u8]
  refine (takeQid_any (q := m.qid) hm.qid hb hat hbl ((Ent.right _ _).trans hv) h).mono ?_
  rintro e w2 ⟨h2, rfl⟩
  obtain ⟨tn, tq, td, h2⟩ := MsgP.open (h2.ac (show _ = MsgP C t * (Blk R (rB v (at' + 13) ba 0 wh) * F) by ac_rfl))
  simp -dsimp -implicitDefEqProofs (disch := omega) only [go_sem, reqD_of, dec_t, dec_f, wrap_i64, wrap_u32, wrap_u64, wrap_u8]
  refine h2.stoRow (b := C) (off := 13) (n := 3) (cs := qidC m.qid) rfl (by simp) (fun y hy => by simp only [qidC, List.mem_cons, List.not_mem_nil, or_false] at hy; rcases hy with rfl | rfl | rfl <;> rfl) fun w3 h3 => ?_
  simp -dsimp -implicitDefEqProofs (disch := omega) only [go_sem, reqD_of, dec_t, dec_f, wrap_i64, wrap_u32, wrap_u64, wrap_u8]
  exact (MsgP.mk (m := moveF 11 t m) (vn := tn) (vq := tq) (vd := td) h3).ac (by ac_rfl)
section
attribute [local go_sem] F94.t6_eq F94.t4_eq
theorem rraw_any {l : List UInt8} (hb : b = pre ++ (l ++ post)) (hat : at' = pre.length) (hbl : b.length ≤ 16777216) (hv : Ent F (RdB v b)) (h : St w0 (Blk R (rB v at' ba 0 wh) * F) w) :
    Calls Tryz.prog 94 #[.pointer (some ⟨R, 0, none⟩), .int .i64 l.length] w fun e w' => ∃ v', isCell v' = true ∧ St w0 (RowO 5 1 v' l.length (byR l) * (Blk R (rB v (at' + l.length : Nat) ba 0 wh) * F)) w' ∧ e = .returned v' := by
  have hbw : at' + l.length ≤ b.length := by rw [hb, hat]; simp only [List.length_append]; omega
  refine F94.calls (by simp) ?_
  unfold F94.code
  have h0 : ¬ (l.length : Int) < 0 := by omega
  simp -dsimp -implicitDefEqProofs (disch := omega) only [go_sem, reqD_of, dec_t, dec_f, wrap_i64, wrap_u32, wrap_u64, wrap_u8, h0]
  refine (has_any (n := l.length) hbw hbl hv h).mono ?_
  rintro e w1 ⟨h1, rfl⟩
  obtain ⟨a, c, rfl, hbc, _⟩ := (h1.ent ((Ent.right _ _).trans hv)).bytes
  have hD := h1.drew
  have q1 : (at' : Int) ≤ b.length := by omega
  have q4 : ((at' : Int) + l.length).toNat = at' + l.length := by omega
  have q5 : (at' : Int) + l.length ≤ c := by omega
  have q6 : (at' : Int) ≤ (at' : Int) + l.length := by omega
  have e2 : ((byR b).drop (at' * 1)).take (l.length * 1) = byR l := by
    rw [Nat.mul_one, Nat.mul_one, byR, ← List.map_drop, ← List.map_take, hb, hat]
    congr 1
    rw [List.drop_append_of_le_length (Nat.le_refl _), List.drop_of_length_le (Nat.le_refl _), List.nil_append, List.take_append_of_le_length (Nat.le_refl _), List.take_of_length_le (Nat.le_refl _)]
  have e3 : at' + l.length - at' = l.length := by omega
  simp -dsimp -implicitDefEqProofs (disch := omega) only [go_sem, reqD_of, dec_t, dec_f, wrap_i64, wrap_u32, wrap_u64, wrap_u8, hD.cl R, q1, q4, q5, q6, e3]
  have hsub : Ent (Blk R (rB (.slice a b.length c) at' ba 0 wh) * F) (Reads 1 (.slice (if c = at' then a else Option.map (fun x => x.add at') a) l.length (c - at')) l.length (byR l)) := by
    have k := (Ent.right (Blk R (rB (.slice a b.length c) at' ba 0 wh)) F).trans (hv.trans (Reads.sub (lo := at') (k := l.length) (by omega)))
    rw [e2] at k
    simpa using k
  refine (hD.nilR 5 1).app (v := .slice none 0 0) (x := .slice (if c = at' then a else Option.map (fun x => x.add at') a) l.length (c - at')) fact_rowTy_28 ((Ent.right _ _).trans hsub) Tryz.underlying28 byR_cells (fun h => by have := congrArg List.length h; simpa [byR] using this) (show 0 + l.length ≤ 9223372036854775807 by omega) (show (0 + l.length) * 1 ≤ 140737488355328 by omega) fun v3 w3 h3 => ?_
  rw [Nat.zero_add, List.nil_append] at h3
  obtain ⟨a3, c3, rfl, _⟩ := h3.rowForm v3
  simp -dsimp -implicitDefEqProofs (disch := omega) only [go_sem, reqD_of, dec_t, dec_f, wrap_i64, wrap_u32, wrap_u64, wrap_u8, h3.cl R]
  refine h3.sto (b := R) (off := 1) (by simp) rfl fun w4 h4 => ?_
  simp only [List.setIfInBounds_toArray, List.set_cons_succ, List.set_cons_zero] at h4
  simp -dsimp -implicitDefEqProofs (disch := omega) only [go_sem, reqD_of, dec_t, dec_f, wrap_i64, wrap_u32, wrap_u64, wrap_u8]
  exact ⟨_, rfl, h4, rfl⟩
end

theorem take18 (hm : MOk m) (hb : b = pre ++ (bytesF 18 m ++ post)) (hat : at' = pre.length) (hbl : b.length ≤ 16777216) (hv : Ent F (RdB v b)) (h : St w0 (Blk R (rB v at' ba 0 wh) * (MsgP C t * F)) w) :
    Calls Tryz.prog 93 #[.pointer (some ⟨R, 0, none⟩), .pointer (some ⟨C, 0, none⟩)] w fun e w' => St w0 (Blk R (rB v (at' + (bytesF 18 m).length : Nat) ba 0 wh) * (MsgP C (moveF 18 t m) * F)) w' ∧ e = .returned (.tuple #[]) := by
  have e0 : bytesF 18 m = leN 4 m.data.length ++ m.data := by simp [bytesF, pcsF, bytesL, Pc.bytes]
  have e1 : (bytesF 18 m).length = 4 + m.data.length := by rw [e0, List.length_append, leN_length]
  have hd := hm.data
  rw [e1]
  rw [e0, List.append_assoc] at hb
  refine F93.calls (by simp) ?_
  unfold F93.code
  simp -dsimp -implicitDefEqProofs (disch := omega) only [go_sem, reqD_of, dec_t, dec_f, wrap_i64, wrap_u32, wrap_u64, wrap_u8]
  refine (R32_any (n := m.data.length) (by omega) hb hat hbl ((Ent.right _ _).trans hv) h).mono ?_
  rintro e w1 ⟨h1, rfl⟩
  simp -dsimp -implicitDefEqProofs (disch := omega) only [go_sem, reqD_of, dec_t, dec_f, wrap_i64, wrap_u32, wrap_u64, wrap_u8]
  refine (rraw_any (l := m.data) (nextB hb) (by simp [leN_length, hat]) hbl ((Ent.right _ _).trans hv) h1).mono ?_
  rintro e w2 ⟨v', hv', h2, rfl⟩
  obtain ⟨a', c', rfl, _⟩ := h2.rowForm v'
  obtain ⟨tn, tq, td, h2⟩ := MsgP.open (h2.ac (show _ = MsgP C t * (RowO 5 1 (.slice a' m.data.length c') m.data.length (byR m.data) * (Blk R (rB v (at' + 4 + m.data.length : Nat) ba 0 wh) * F)) by ac_rfl))
  simp -dsimp -implicitDefEqProofs (disch := omega) only [go_sem, reqD_of, dec_t, dec_f, wrap_i64, wrap_u32, wrap_u64, wrap_u8]
  refine h2.sto (b := C) (off := 22) (by simp) rfl fun w3 h3 => ?_
  simp only [List.setIfInBounds_toArray, List.set_cons_succ, List.set_cons_zero] at h3
  simp -dsimp -implicitDefEqProofs (disch := omega) only [go_sem, reqD_of, dec_t, dec_f, wrap_i64, wrap_u32, wrap_u64, wrap_u8]
  rw [show at' + 4 + m.data.length = at' + (4 + m.data.length) by omega] at h3
  unfold MsgL at h3
  have h4 := (h3.ac (show _ = RowO 5 1 td t.data.length (byR t.data) * (Blk C (msgB (moveF 18 t m) tn tq (.slice a' m.data.length c')) * (MsgL (moveF 18 t m) tn tq (.slice a' m.data.length c') * (Blk R (rB v (at' + (4 + m.data.length) : Nat) ba 0 wh) * F))) by
    show _ = _ * (Blk C (.cells (msgC (moveF 18 t m) tn tq (.slice a' m.data.length c')).toArray _ _) * ((RowO 9 1 tn t.names.length (t.names.map sv) * (RowO 35 3 tq t.qids.length (t.qids.flatMap qidC) * RowO 5 1 (.slice a' m.data.length c') m.data.length (byR m.data))) * _))
    ac_rfl)).right
  exact (MsgP.mk (m := moveF 18 t m) h4).ac (by ac_rfl)
end
end Go.Proofs.YtmiohkmcnppaeaaGreatDoor

namespace Go.Proofs.YtmiohkmcnppaeaaGreatDoor
open Go
set_option linter.unusedVariables false
set_option linter.unusedSimpArgs false
set_option maxRecDepth 100000

def txtsB (ls : List (List UInt8)) : List UInt8 := ls.flatMap fun l => leN 2 l.length ++ l
theorem txts_split {ls : List (List UInt8)} {i : Nat} (hi : i < ls.length) : txtsB ls = txtsB (ls.take i) ++ ((leN 2 ls[i].length ++ ls[i]) ++ txtsB (ls.drop (i + 1))) := by
  have e : ls = ls.take i ++ ls[i] :: ls.drop (i + 1) := by rw [List.getElem_cons_drop, List.take_append_drop]
  have e2 := congrArg txtsB e
  rw [e2]
  unfold txtsB
  rw [List.flatMap_append, List.flatMap_cons]
theorem txts_succ {ls : List (List UInt8)} {i : Nat} (hi : i < ls.length) : txtsB (ls.take (i + 1)) = txtsB (ls.take i) ++ (leN 2 ls[i].length ++ ls[i]) := by
  unfold txtsB
  rw [List.take_succ_eq_append_getElem hi, List.flatMap_append, List.flatMap_cons, List.flatMap_nil, List.append_nil]
def qidsB (qs : List QidD) : List UInt8 := qs.flatMap qidBy
theorem qids_split {qs : List QidD} {i : Nat} (hi : i < qs.length) : qidsB qs = qidsB (qs.take i) ++ (qidBy qs[i] ++ qidsB (qs.drop (i + 1))) := by
  have e : qs = qs.take i ++ qs[i] :: qs.drop (i + 1) := by rw [List.getElem_cons_drop, List.take_append_drop]
  have e2 := congrArg qidsB e
  rw [e2]
  unfold qidsB
  rw [List.flatMap_append, List.flatMap_cons]
theorem qids_succ {qs : List QidD} {i : Nat} (hi : i < qs.length) : qidsB (qs.take (i + 1)) = qidsB (qs.take i) ++ qidBy qs[i] := by
  unfold qidsB
  rw [List.take_succ_eq_append_getElem hi, List.flatMap_append, List.flatMap_cons, List.flatMap_nil, List.append_nil]
theorem bytes9 (m : MsgD) : bytesF 9 m = leN 2 m.names.length ++ txtsB m.names := by
  have : ∀ ls : List (List UInt8), bytesL (ls.map Pc.txt) = txtsB ls := fun ls => by
    induction ls with
    | nil => rfl
    | cons l ls ih => simp only [List.map_cons, bytesL, List.flatMap_cons, Pc.bytes, txtsB] at ih ⊢; rw [ih]
  show bytesL (.raw (leN 2 m.names.length) :: m.names.map Pc.txt) = _
  rw [show bytesL (.raw (leN 2 m.names.length) :: m.names.map Pc.txt) = leN 2 m.names.length ++ bytesL (m.names.map Pc.txt) from rfl, this]
theorem bytes10 (m : MsgD) : bytesF 10 m = leN 2 m.qids.length ++ qidsB m.qids := by
  have : ∀ qs : List QidD, bytesL (qs.flatMap qidPcs) = qidsB qs := fun qs => by
    induction qs with
    | nil => rfl
    | cons q qs ih =>
      rw [List.flatMap_cons, show bytesL (qidPcs q ++ qs.flatMap qidPcs) = bytesL (qidPcs q) ++ bytesL (qs.flatMap qidPcs) by simp [bytesL], qidBy_eq, ih]
      rfl
  show bytesL (.raw (leN 2 m.qids.length) :: m.qids.flatMap qidPcs) = _
  rw [show bytesL (.raw (leN 2 m.qids.length) :: m.qids.flatMap qidPcs) = leN 2 m.qids.length ++ bytesL (m.qids.flatMap qidPcs) from rfl, this]
theorem okRText : fnOk Tryz.prog 68 = true := by kernel_rfl
section
variable {w0 w : World} {F : HP} {R C K at' B : Nat} {t m : MsgD} {b pre post : List UInt8} {v : Value} {ba wh : Int}
section
attribute [local go_sem] F136.t9_eq F136.t8_eq F136.t10_eq F136.t5_eq
theorem takeNames_any [Gives F Tabs] {ls : List (List UInt8)} (hn : ls.length ≤ 16) (hls : ∀ l ∈ ls, l.length ≤ 65535 ∧ good l = true) (hb : b = pre ++ (leN 2 ls.length ++ (txtsB ls ++ post))) (hat : at' = pre.length) (hbl : b.length ≤ 16777216) (hv : Ent F (RdB v b)) (h : St w0 (Blk R (rB v at' ba 0 wh) * F) w) :
    Calls Tryz.prog 136 #[.pointer (some ⟨R, 0, none⟩), .func (.func 68) #[.pointer (some ⟨R, 0, none⟩)] #[]] w fun e w' => ∃ v', isCell v' = true ∧ St w0 (RowO 9 1 v' ls.length (ls.map sv) * (Blk R (rB v (at' + (2 + (txtsB ls).length) : Nat) ba 0 wh) * F)) w' ∧ e = .returned v' := by
  refine F136.calls (by simp) ?_
  unfold F136.code
  have h16 : ¬ (16 : Int) < ls.length := by omega
  simp -dsimp -implicitDefEqProofs (disch := omega) only [go_sem, reqD_of, dec_t, dec_f, wrap_i64, wrap_u32, wrap_u64, wrap_u8]
  refine (R16_any (n := ls.length) (by omega) hb hat hbl hv h).mono ?_
  rintro e w1 ⟨h1, rfl⟩
  simp -dsimp -implicitDefEqProofs (disch := omega) only [go_sem, reqD_of, dec_t, dec_f, wrap_i64, wrap_u32, wrap_u64, wrap_u8, h16]
  refine loop_intro (fun e w' => e.ds = [] ∧ e.ρ 1 = .func (.func 68) #[.pointer (some ⟨R, 0, none⟩)] #[] ∧ e.ρ 14 = .int .i64 ls.length ∧ ∃ (i : Nat) (vs : Value), i ≤ ls.length ∧ e.ρ 15 = .int .i64 i ∧ e.ρ 6 = vs ∧
      St w0 (RowO 9 1 vs i ((ls.take i).map sv) * (Blk R (rB v (at' + (2 + (txtsB (ls.take i)).length) : Nat) ba 0 wh) * F)) w')
    (fun e _ => match e.ρ 15 with | .int _ i => (ls.length - i).toNat | _ => 0) ?_ ?_
  · exact ⟨rfl, by simp -dsimp -implicitDefEqProofs only [go_sem], by simp -dsimp -implicitDefEqProofs only [go_sem], 0, .slice none 0 0, by omega, by simp -dsimp -implicitDefEqProofs only [go_sem], by simp -dsimp -implicitDefEqProofs only [go_sem], h1.nilR 9 1⟩
  clear h h1
  rintro e w ⟨hds, e1, e14, i, vs, hi, e15, e6, h⟩
  obtain ⟨a, c, rfl, _⟩ := h.rowForm vs
  by_cases hlt : (i : Int) < ls.length
  · have hil : i < ls.length := by omega
    obtain ⟨hl1, hl2⟩ := hls _ (List.getElem_mem hil)
    obtain ⟨l, hl⟩ : ∃ l, l = ls[i] := ⟨_, rfl⟩
    have hb2 : b = (pre ++ leN 2 ls.length ++ txtsB (ls.take i)) ++ (leN 2 l.length ++ (l ++ (txtsB (ls.drop (i + 1)) ++ post))) := by
      rw [hb, txts_split hil, hl]
      simp only [List.append_assoc]
    rw [← hl] at hl1 hl2
    simp -dsimp -implicitDefEqProofs (disch := omega) only [go_sem, reqD_of, dec_t, dec_f, wrap_i64, wrap_u32, wrap_u64, wrap_u8, hds, e1, e14, e15, e6, hlt, okRText, callY_clos]
    refine (rtext_any (l := l) (by omega) hl2 hb2 (by simp only [List.length_append, leN_length, hat]; omega) hbl ((Ent.right _ _).trans hv) (h.ac (show _ = Blk R (rB v (at' + (2 + (txtsB (ls.take i)).length) : Nat) ba 0 wh) * (RowO 9 1 (.slice a i c) i ((ls.take i).map sv) * F) by ac_rfl))).mono ?_
    rintro e' w1 ⟨h1, rfl⟩
    simp -dsimp -implicitDefEqProofs (disch := omega) only [go_sem, reqD_of, dec_t, dec_f, wrap_i64, wrap_u32, wrap_u64, wrap_u8, hds, e1, e14, e15, e6]
    refine h1.lit (n := 1) (cells := [sv l]) fact_rowTy_31 rfl (by decide) (by decide) fun v2 w2 h2 => ?_
    simp -dsimp -implicitDefEqProofs (disch := omega) only [go_sem, reqD_of, dec_t, dec_f, wrap_i64, wrap_u32, wrap_u64, wrap_u8]
    refine h2.appR (v := .slice a i c) (x := v2) fact_rowTy_31 Tryz.underlying31 (fun u hu => by simp at hu; subst hu; rfl) (fun h => by simp at h) (show i + 1 ≤ 9223372036854775807 by omega) (show (i + 1) * 16 ≤ 140737488355328 by omega) fun v3 w3 h3 => ?_
    simp -dsimp -implicitDefEqProofs (disch := omega) only [go_sem, reqD_of, dec_t, dec_f, wrap_i64, wrap_u32, wrap_u64, wrap_u8, hds, e1, e14, e15, e6]
    refine ⟨⟨i + 1, by omega, by omega, ?_⟩, by omega⟩
    have e2 : (ls.take (i + 1)).map sv = (ls.take i).map sv ++ [sv l] := by rw [List.take_succ_eq_append_getElem hil, hl, List.map_append]; rfl
    have e3 : at' + (2 + (txtsB (ls.take (i + 1))).length) = at' + (2 + (txtsB (ls.take i)).length) + (2 + l.length) := by
      rw [txts_succ hil, ← hl]
      simp only [List.length_append, leN_length]
      omega
    rw [e2, e3]
    exact ⟨by omega, rfl, (h3.ac (show _ = RowO 9 1 v2 1 [sv l] * (RowO 9 1 v3 (i + 1) ((ls.take i).map sv ++ [sv l]) * (Blk R (rB v (at' + (2 + (txtsB (ls.take i)).length) + (2 + l.length) : Nat) ba 0 wh) * F)) by ac_rfl)).right⟩
  · obtain rfl : i = ls.length := by omega
    rw [List.take_of_length_le (by omega)] at h
    simp -dsimp -implicitDefEqProofs (disch := omega) only [go_sem, reqD_of, dec_t, dec_f, wrap_i64, wrap_u32, wrap_u64, wrap_u8, hds, e1, e14, e15, e6, hlt]
    exact ⟨_, rfl, h, rfl⟩
end

theorem take9 [Gives F Tabs] (hm : MOk m) (hk : okF 9 m = true) (hg : goodF 9 m = true) (hb : b = pre ++ (bytesF 9 m ++ post)) (hat : at' = pre.length) (hbl : b.length ≤ 16777216) (hv : Ent F (RdB v b)) (h : St w0 (Blk R (rB v at' ba 0 wh) * (MsgP C t * F)) w) :
    Calls Tryz.prog 135 #[.pointer (some ⟨R, 0, none⟩), .pointer (some ⟨C, 0, none⟩)] w fun e w' => St w0 (Blk R (rB v (at' + (bytesF 9 m).length : Nat) ba 0 wh) * (MsgP C (moveF 9 t m) * F)) w' ∧ e = .returned (.tuple #[]) := by
  have e0 := bytes9 m
  have e1 : (bytesF 9 m).length = 2 + (txtsB m.names).length := by rw [e0, List.length_append, leN_length]
  have hg2 : m.names.length ≤ 16 := by
    simp only [goodF, Bool.and_eq_true, decide_eq_true_eq] at hg
    exact hg.1
  have hls : ∀ l ∈ m.names, l.length ≤ 65535 ∧ good l = true := by
    intro l hl
    have hk2 : (Pc.raw (leN 2 m.names.length) :: m.names.map Pc.txt).all Pc.ok = true := hk
    rw [List.all_eq_true] at hk2
    have := hk2 (.txt l) (by simp [hl])
    simpa [Pc.ok] using this
  rw [e1]
  rw [e0, List.append_assoc] at hb
  refine F135.calls (by simp) ?_
  unfold F135.code
  simp -dsimp -implicitDefEqProofs (disch := omega) only [go_sem, reqD_of, dec_t, dec_f, wrap_i64, wrap_u32, wrap_u64, wrap_u8]
  refine (takeNames_any (ls := m.names) hg2 hls hb hat hbl ((Ent.right _ _).trans hv) h).mono ?_
  rintro e w1 ⟨v', hv', h2, rfl⟩
  obtain ⟨a', c', rfl, _⟩ := h2.rowForm v'
  obtain ⟨tn, tq, td, h2⟩ := MsgP.open (h2.ac (show _ = MsgP C t * (RowO 9 1 (.slice a' m.names.length c') m.names.length (m.names.map sv) * (Blk R (rB v (at' + (2 + (txtsB m.names).length) : Nat) ba 0 wh) * F)) by ac_rfl))
  simp -dsimp -implicitDefEqProofs (disch := omega) only [go_sem, reqD_of, dec_t, dec_f, wrap_i64, wrap_u32, wrap_u64, wrap_u8]
  refine h2.sto (b := C) (off := 11) (by simp) rfl fun w3 h3 => ?_
  simp only [List.setIfInBounds_toArray, List.set_cons_succ, List.set_cons_zero] at h3
  simp -dsimp -implicitDefEqProofs (disch := omega) only [go_sem, reqD_of, dec_t, dec_f, wrap_i64, wrap_u32, wrap_u64, wrap_u8]
  unfold MsgL at h3
  have h4 := (h3.ac (show _ = RowO 9 1 tn t.names.length (t.names.map sv) * (Blk C (msgB (moveF 9 t m) (.slice a' m.names.length c') tq td) * (MsgL (moveF 9 t m) (.slice a' m.names.length c') tq td * (Blk R (rB v (at' + (2 + (txtsB m.names).length) : Nat) ba 0 wh) * F))) by
    show _ = _ * (Blk C (.cells (msgC (moveF 9 t m) (.slice a' m.names.length c') tq td).toArray _ _) * ((RowO 9 1 (.slice a' m.names.length c') m.names.length (m.names.map sv) * (RowO 35 3 tq t.qids.length (t.qids.flatMap qidC) * RowO 5 1 td t.data.length (byR t.data))) * _))
    ac_rfl)).right
  exact (MsgP.mk (m := moveF 9 t m) h4).ac (by ac_rfl)
end
end Go.Proofs.YtmiohkmcnppaeaaGreatDoor

namespace Go.Proofs.YtmiohkmcnppaeaaGreatDoor
open Go
set_option linter.unusedVariables false
set_option linter.unusedSimpArgs false
set_option maxRecDepth 100000

theorem RdB.sub3 {lo hi c : Nat} {a : Option Addr} {bs : List UInt8} (h1 : lo ≤ hi) (h2 : hi ≤ bs.length) :
    Ent (RdB (.slice a bs.length c) bs) (RdB (.slice (if hi = lo then a else a.map (·.add lo)) (hi - lo) (hi - lo)) ((bs.drop lo).take (hi - lo))) := by
  have hk : ((bs.drop lo).take (hi - lo)).length = hi - lo := by simp; omega
  refine Ent.of fun hp k => ?_
  obtain ⟨hl, a', c', hv, hnc, hr⟩ := k
  simp only [Value.slice.injEq, true_and] at hv
  obtain ⟨rfl, rfl⟩ := hv
  refine ⟨by simp, _, _, by rw [hk], by rw [hk]; exact Nat.le_refl _, ?_⟩
  by_cases hc : hi = lo
  · left
    subst hc
    simp
  · rcases hr with hr | ⟨b, o, cur, T, fr, rfl, hb, hr⟩
    · left
      have : bs = [] := by simpa using hr
      subst this; simp
    · rw [if_neg hc]
      refine .inr ⟨b, o + lo, cur, T, fr, by simp [add_lit], hb, fun j hj => ?_⟩
      have hj' : j < hi - lo := by simp at hj; omega
      have := hr (lo + j) (by simp; omega)
      simp only [List.getElem?_map, List.getElem?_take, List.getElem?_drop, if_pos hj'] at this ⊢
      rw [Nat.add_assoc]
      exact this
section
variable {w0 w : World} {F : HP} {R C K at' B : Nat} {t m : MsgD} {b pre post : List UInt8} {v : Value} {ba wh : Int}
abbrev rPB (R : Nat) : Obj := .cells #[.pointer (some ⟨R, 0, none⟩)] 83 (0, 0)
theorem okTQ : fnOk Tryz.prog 149 = true := by kernel_rfl

theorem takeQ1_any {q : QidD} (hq : QidOk q) (hb : b = pre ++ (qidBy q ++ post)) (hat : at' = pre.length) (hbl : b.length ≤ 16777216) (hv : Ent F (RdB v b)) (h : St w0 (Blk R (rB v at' ba 0 wh) * (Blk B (rPB R) * F)) w) :
    Calls Tryz.prog 149 #[.pointer (some ⟨B, 0, none⟩)] w fun e w' => St w0 (Blk R (rB v (at' + 13 : Nat) ba 0 wh) * (Blk B (rPB R) * F)) w' ∧ e = .returned (.agg (qidC q).toArray) := by
  refine F149.calls (by simp) ?_
  unfold F149.code
  simp -dsimp -implicitDefEqProofs (disch := omega) only [go_sem, reqD_of, dec_t, dec_f, wrap_i64, wrap_u32, wrap_u64, wrap_u8]
  refine h.new fun X w1 h1 => ?_
  simp -dsimp -implicitDefEqProofs (disch := omega) only [go_sem, reqD_of, dec_t, dec_f, wrap_i64, wrap_u32, wrap_u64, wrap_u8, h1.cl B]
  refine (takeQid_any (q := q) hq hb hat hbl ((Ent.right _ _).trans ((Ent.right _ _).trans hv)) (h1.ac (show _ = Blk R (rB v at' ba 0 wh) * (Blk X (.cells #[.int .u8 0, .int .u32 0, .int .u64 0] 35 (0, 0)) * (Blk B (rPB R) * F)) by ac_rfl))).mono ?_
  rintro e w2 ⟨h2, rfl⟩
  simp -dsimp -implicitDefEqProofs (disch := omega) only [go_sem, reqD_of, dec_t, dec_f, wrap_i64, wrap_u32, wrap_u64, wrap_u8]
  refine h2.stoAll (b := X) (n := 3) (cs := qidC q) rfl rfl (fun y hy => by simp only [qidC, List.mem_cons, List.not_mem_nil, or_false] at hy; rcases hy with rfl | rfl | rfl <;> rfl) fun w6 h6 => ?_
  simp -dsimp -implicitDefEqProofs (disch := omega) only [go_sem, reqD_of, dec_t, dec_f, wrap_i64, wrap_u32, wrap_u64, wrap_u8]
  have hr : rowV w6 ⟨X, 0, none⟩ 3 = some (.agg (qidC q).toArray) := h6.rowH X 3 rfl
  refine resC_1 (a := ⟨X, 0, none⟩) (v := .agg (qidC q).toArray) (by simp -dsimp -implicitDefEqProofs only [go_sem]) (run_loadVar_row fact_aggSz_35 hr) ?_
  exact ⟨h6.ent (Ent.sep (Ent.rfl' _) (Ent.right _ _)), rfl⟩
section
attribute [local go_sem] F148.t9_eq F148.t8_eq F148.t10_eq F148.t5_eq
theorem takeQids_any {qs : List QidD} (hn : qs.length ≤ 16) (hqs : ∀ q ∈ qs, QidOk q) (hb : b = pre ++ (leN 2 qs.length ++ (qidsB qs ++ post))) (hat : at' = pre.length) (hbl : b.length ≤ 16777216) (hv : Ent F (RdB v b)) (h : St w0 (Blk R (rB v at' ba 0 wh) * (Blk B (rPB R) * F)) w) :
    Calls Tryz.prog 148 #[.pointer (some ⟨R, 0, none⟩), .func (.func 149) #[] #[.pointer (some ⟨B, 0, none⟩)]] w fun e w' => ∃ v', isCell v' = true ∧ St w0 (RowO 35 3 v' qs.length (qs.flatMap qidC) * (Blk R (rB v (at' + (2 + (qidsB qs).length) : Nat) ba 0 wh) * (Blk B (rPB R) * F))) w' ∧ e = .returned v' := by
  refine F148.calls (by simp) ?_
  unfold F148.code
  have h16 : ¬ (16 : Int) < qs.length := by omega
  simp -dsimp -implicitDefEqProofs (disch := omega) only [go_sem, reqD_of, dec_t, dec_f, wrap_i64, wrap_u32, wrap_u64, wrap_u8]
  refine (R16_any (n := qs.length) (by omega) hb hat hbl ((Ent.right _ _).trans hv) h).mono ?_
  rintro e w1 ⟨h1, rfl⟩
  simp -dsimp -implicitDefEqProofs (disch := omega) only [go_sem, reqD_of, dec_t, dec_f, wrap_i64, wrap_u32, wrap_u64, wrap_u8, h16]
  refine loop_intro (fun e w' => e.ds = [] ∧ e.ρ 1 = .func (.func 149) #[] #[.pointer (some ⟨B, 0, none⟩)] ∧ e.ρ 14 = .int .i64 qs.length ∧ ∃ (i : Nat) (vs : Value), i ≤ qs.length ∧ e.ρ 15 = .int .i64 i ∧ e.ρ 6 = vs ∧
      St w0 (RowO 35 3 vs i ((qs.take i).flatMap qidC) * (Blk R (rB v (at' + (2 + (qidsB (qs.take i)).length) : Nat) ba 0 wh) * (Blk B (rPB R) * F))) w')
    (fun e _ => match e.ρ 15 with | .int _ i => (qs.length - i).toNat | _ => 0) ?_ ?_
  · exact ⟨rfl, by simp -dsimp -implicitDefEqProofs only [go_sem], by simp -dsimp -implicitDefEqProofs only [go_sem], 0, .slice none 0 0, by omega, by simp -dsimp -implicitDefEqProofs only [go_sem], by simp -dsimp -implicitDefEqProofs only [go_sem], h1.nilR 35 3⟩
  clear h h1
  rintro e w ⟨hds, e1, e14, i, vs, hi, e15, e6, h⟩
  obtain ⟨a, c, rfl, _⟩ := h.rowForm vs
  by_cases hlt : (i : Int) < qs.length
  · have hil : i < qs.length := by omega
    have hq1 := hqs _ (List.getElem_mem hil)
    obtain ⟨q, hq⟩ : ∃ q, q = qs[i] := ⟨_, rfl⟩
    have hb2 : b = (pre ++ leN 2 qs.length ++ qidsB (qs.take i)) ++ (qidBy q ++ (qidsB (qs.drop (i + 1)) ++ post)) := by
      rw [hb, qids_split hil, hq]
      simp only [List.append_assoc]
    rw [← hq] at hq1
    simp -dsimp -implicitDefEqProofs (disch := omega) only [go_sem, reqD_of, dec_t, dec_f, wrap_i64, wrap_u32, wrap_u64, wrap_u8, hds, e1, e14, e15, e6, hlt, okTQ, callY_clos]
    refine (takeQ1_any (q := q) hq1 hb2 (by simp only [List.length_append, leN_length, hat]; omega) hbl ((Ent.right _ _).trans hv) (h.ac (show _ = Blk R (rB v (at' + (2 + (qidsB (qs.take i)).length) : Nat) ba 0 wh) * (Blk B (rPB R) * (RowO 35 3 (.slice a i c) i ((qs.take i).flatMap qidC) * F)) by ac_rfl))).mono ?_
    rintro e' w1 ⟨h1, rfl⟩
    simp -dsimp -implicitDefEqProofs (disch := omega) only [go_sem, reqD_of, dec_t, dec_f, wrap_i64, wrap_u32, wrap_u64, wrap_u8, hds, e1, e14, e15, e6]
    refine h1.lit (n := 1) (cells := qidC q) fact_rowTy_32 rfl (by decide) (by decide) fun v2 w2 h2 => ?_
    simp -dsimp -implicitDefEqProofs (disch := omega) only [go_sem, reqD_of, dec_t, dec_f, wrap_i64, wrap_u32, wrap_u64, wrap_u8]
    refine h2.appR (v := .slice a i c) (x := v2) fact_rowTy_32 Tryz.underlying32 (fun u hu => by simp only [qidC, List.mem_cons, List.not_mem_nil, or_false] at hu; rcases hu with rfl | rfl | rfl <;> rfl) (fun h => by simp at h) (show i + 1 ≤ 9223372036854775807 by omega) (show (i + 1) * 16 ≤ 140737488355328 by omega) fun v3 w3 h3 => ?_
    simp -dsimp -implicitDefEqProofs (disch := omega) only [go_sem, reqD_of, dec_t, dec_f, wrap_i64, wrap_u32, wrap_u64, wrap_u8, hds, e1, e14, e15, e6]
    refine ⟨⟨i + 1, by omega, by omega, ?_⟩, by omega⟩
    have e2 : (qs.take (i + 1)).flatMap qidC = (qs.take i).flatMap qidC ++ qidC q := by rw [List.take_succ_eq_append_getElem hil, hq, List.flatMap_append, List.flatMap_cons, List.flatMap_nil, List.append_nil]
    have e3 : at' + (2 + (qidsB (qs.take (i + 1))).length) = at' + (2 + (qidsB (qs.take i)).length) + 13 := by
      rw [qids_succ hil, List.length_append, qidBy_len]
      omega
    rw [e2, e3]
    exact ⟨by omega, rfl, (h3.ac (show _ = RowO 35 3 v2 1 (qidC q) * (RowO 35 3 v3 (i + 1) ((qs.take i).flatMap qidC ++ qidC q) * (Blk R (rB v (at' + (2 + (qidsB (qs.take i)).length) + 13 : Nat) ba 0 wh) * (Blk B (rPB R) * F))) by ac_rfl)).right⟩
  · obtain rfl : i = qs.length := by omega
    rw [List.take_of_length_le (by omega)] at h
    simp -dsimp -implicitDefEqProofs (disch := omega) only [go_sem, reqD_of, dec_t, dec_f, wrap_i64, wrap_u32, wrap_u64, wrap_u8, hds, e1, e14, e15, e6, hlt]
    exact ⟨_, rfl, h, rfl⟩
end

theorem take10 (hm : MOk m) (hg : goodF 10 m = true) (hb : b = pre ++ (bytesF 10 m ++ post)) (hat : at' = pre.length) (hbl : b.length ≤ 16777216) (hv : Ent F (RdB v b)) (h : St w0 (Blk R (rB v at' ba 0 wh) * (MsgP C t * F)) w) :
    Calls Tryz.prog 147 #[.pointer (some ⟨R, 0, none⟩), .pointer (some ⟨C, 0, none⟩)] w fun e w' => St w0 (Blk R (rB v (at' + (bytesF 10 m).length : Nat) ba 0 wh) * (MsgP C (moveF 10 t m) * F)) w' ∧ e = .returned (.tuple #[]) := by
  have e0 := bytes10 m
  have e1 : (bytesF 10 m).length = 2 + (qidsB m.qids).length := by rw [e0, List.length_append, leN_length]
  have hg2 : m.qids.length ≤ 16 := by simpa [goodF] using hg
  rw [e1]
  rw [e0, List.append_assoc] at hb
  refine F147.calls (by simp) ?_
  unfold F147.code
  simp -dsimp -implicitDefEqProofs (disch := omega) only [go_sem, reqD_of, dec_t, dec_f, wrap_i64, wrap_u32, wrap_u64, wrap_u8]
  refine h.new fun B w1 h1 => ?_
  simp -dsimp -implicitDefEqProofs (disch := omega) only [go_sem, reqD_of, dec_t, dec_f, wrap_i64, wrap_u32, wrap_u64, wrap_u8, h1.cl B]
  refine (takeQids_any (B := B) (qs := m.qids) hg2 hm.qids1 hb hat hbl ((Ent.right _ _).trans hv) (h1.ac (show _ = Blk R (rB v at' ba 0 wh) * (Blk B (rPB R) * (MsgP C t * F)) by ac_rfl))).mono ?_
  rintro e w2 ⟨v', hv', h2, rfl⟩
  obtain ⟨a', c', rfl, _⟩ := h2.rowForm v'
  obtain ⟨tn, tq, td, h2⟩ := MsgP.open (h2.ac (show _ = MsgP C t * (RowO 35 3 (.slice a' m.qids.length c') m.qids.length (m.qids.flatMap qidC) * (Blk R (rB v (at' + (2 + (qidsB m.qids).length) : Nat) ba 0 wh) * (Blk B (rPB R) * F))) by ac_rfl))
  simp -dsimp -implicitDefEqProofs (disch := omega) only [go_sem, reqD_of, dec_t, dec_f, wrap_i64, wrap_u32, wrap_u64, wrap_u8]
  refine h2.sto (b := C) (off := 12) (by simp) rfl fun w3 h3 => ?_
  simp only [List.setIfInBounds_toArray, List.set_cons_succ, List.set_cons_zero] at h3
  simp -dsimp -implicitDefEqProofs (disch := omega) only [go_sem, reqD_of, dec_t, dec_f, wrap_i64, wrap_u32, wrap_u64, wrap_u8]
  unfold MsgL at h3
  have h4 := (h3.ac (show _ = (RowO 35 3 tq t.qids.length (t.qids.flatMap qidC) * Blk B (rPB R)) * (Blk C (msgB (moveF 10 t m) tn (.slice a' m.qids.length c') td) * (MsgL (moveF 10 t m) tn (.slice a' m.qids.length c') td * (Blk R (rB v (at' + (2 + (qidsB m.qids).length) : Nat) ba 0 wh) * F))) by
    show _ = _ * (Blk C (.cells (msgC (moveF 10 t m) tn (.slice a' m.qids.length c') td).toArray _ _) * ((RowO 9 1 tn t.names.length (t.names.map sv) * (RowO 35 3 (.slice a' m.qids.length c') m.qids.length (m.qids.flatMap qidC) * RowO 5 1 td t.data.length (byR t.data))) * _))
    ac_rfl)).right
  exact (MsgP.mk (m := moveF 10 t m) h4).ac (by ac_rfl)
end
end Go.Proofs.YtmiohkmcnppaeaaGreatDoor

namespace Go.Proofs.YtmiohkmcnppaeaaGreatDoor
open Go
set_option linter.unusedVariables false
set_option linter.unusedSimpArgs false
set_option maxRecDepth 100000

def txtBy (l : List UInt8) : List UInt8 := leN 2 l.length ++ l
theorem txtBy_len (l : List UInt8) : (txtBy l).length = 2 + l.length := by simp [txtBy, leN_length]
theorem StatD.body_eq (d : StatD) : d.body = leN 2 d.ty ++ (leN 4 d.dev ++ (qidBy ⟨d.qk, d.qv, d.qp⟩ ++ (leN 4 d.mode ++ (leN 4 d.at' ++ (leN 4 d.mt ++ (leN 8 d.len ++ (txtBy d.name ++ (txtBy d.uid ++ (txtBy d.gid ++ (txtBy d.muid ++ [])))))))))) := by
  simp [StatD.body, bytesL, StatD.pcs, Pc.bytes, qidBy, txtBy]
section
variable {w0 w : World} {F : HP} {R C K at' B : Nat} {t m : MsgD} {b pre post : List UInt8} {v : Value} {ba wh : Int}
section
attribute [local go_sem] F180.t3_eq
theorem left_any (hat : at' ≤ b.length) (hbl : b.length ≤ 16777216) (hv : Ent F (RdB v b)) (h : St w0 (Blk R (rB v at' ba 0 wh) * F) w) :
    Calls Tryz.prog 180 #[.pointer (some ⟨R, 0, none⟩)] w fun e w' => St w0 (Blk R (rB v at' ba 0 wh) * F) w' ∧ e = .returned (.int .i64 (b.length - at' : Nat)) := by
  refine F180.calls (by simp) ?_
  unfold F180.code
  obtain ⟨a, c, rfl, _⟩ := (h.ent ((Ent.right _ _).trans hv)).bytes
  have hD := h.drew
  simp -dsimp -implicitDefEqProofs (disch := omega) only [go_sem, reqD_of, dec_t, dec_f, wrap_i64, wrap_u32, wrap_u64, wrap_u8, h.cl R, hD.cl R]
  exact ⟨hD, by omega⟩
end
section
attribute [local go_sem] F198.t4_eq
theorem part_any {l : List UInt8} (hl : l.length < 65536) (hb : b = pre ++ (leN 2 l.length ++ (l ++ post))) (hat : at' = pre.length) (hbl : b.length ≤ 16777216) (hv : Ent F (RdB v b)) (h : St w0 (Blk R (rB v at' ba 0 wh) * F) w) :
    Calls Tryz.prog 198 #[.pointer (some ⟨R, 0, none⟩)] w fun e w' => ∃ P v' ba', Ent (RdB v b) (RdB v' l) ∧ St w0 (Blk P (rB v' 0 ba' 0 0) * (Blk R (rB v (at' + (2 + l.length) : Nat) ba 0 wh) * F)) w' ∧ e = .returned (.pointer (some ⟨P, 0, none⟩)) := by
  have hbw : at' + (2 + l.length) ≤ b.length := by rw [hb, hat]; simp only [List.length_append, leN_length]; omega
  refine F198.calls (by simp) ?_
  unfold F198.code
  simp -dsimp -implicitDefEqProofs (disch := omega) only [go_sem, reqD_of, dec_t, dec_f, wrap_i64, wrap_u32, wrap_u64, wrap_u8]
  refine (counted_any (n := l.length) hl hb hat (by simp only [List.length_append]; omega) hbl hv h).mono ?_
  rintro e w1 ⟨h1, rfl⟩
  simp -dsimp -implicitDefEqProofs (disch := omega) only [go_sem, reqD_of, dec_t, dec_f, wrap_i64, wrap_u32, wrap_u64, wrap_u8, h1.cl R]
  rw [show (at' : Int) + 2 + (l.length : Int) = ((at' + (2 + l.length) : Nat) : Int) by omega]
  refine h1.sto (b := R) (off := 1) (by simp) rfl fun w2 h2 => ?_
  simp only [List.setIfInBounds_toArray, List.set_cons_succ, List.set_cons_zero] at h2
  obtain ⟨a, c, rfl, hbc, _⟩ := (h2.ent ((Ent.right _ _).trans hv)).bytes
  have hD := h2.drew
  have p1 : (at' : Int) + 2 ≤ (at' + (2 + l.length) : Nat) := by omega
  have p2 : ((at' + (2 + l.length) : Nat) : Int) ≤ c := by omega
  have p3 : ((at' : Int) + 2).toNat = at' + 2 := by omega
  have e3 : at' + (2 + l.length) - (at' + 2) = l.length := by omega
  have e4 : (b.drop (at' + 2)).take (at' + (2 + l.length) - (at' + 2)) = l := by
    rw [e3, hb, hat, List.drop_append, List.drop_of_length_le (by omega), Nat.add_sub_cancel_left, List.nil_append, List.drop_append, List.drop_of_length_le (by simp [leN_length]), leN_length, Nat.sub_self, List.nil_append, List.drop_zero, List.take_append_of_le_length (Nat.le_refl _), List.take_of_length_le (Nat.le_refl _)]
  have hs : Ent (RdB (.slice a b.length c) b) (RdB (.slice (if at' + (2 + l.length) = at' + 2 then a else Option.map (fun x => { block := x.block, off := x.off + (at' + 1 + 1) }) a) l.length l.length) l) := by
    have k := RdB.sub3 (a := a) (c := c) (bs := b) (lo := at' + 2) (hi := at' + (2 + l.length)) (by omega) (by omega)
    rw [e4, e3] at k
    exact k
  simp -dsimp -implicitDefEqProofs (disch := omega) only [go_sem, reqD_of, dec_t, dec_f, wrap_i64, wrap_u32, wrap_u64, wrap_u8, hD.cl R, p1, p2, p3, e3]
  generalize (if at' + (2 + l.length) = at' + 2 then a else Option.map (fun x => { block := x.block, off := x.off + (at' + 1 + 1) }) a) = ax at hs ⊢
  refine onV_of (v := .agg #[.slice ax l.length l.length, .int .i64 0, .int .i64 (IntKind.i64.wrap (ba + (↑at' + 2))), .int .i64 0, .int .i64 0]) (by kernel_rfl) ?_
  simp -dsimp -implicitDefEqProofs (disch := omega) only [go_sem, reqD_of, dec_t, dec_f, wrap_i64, wrap_u32, wrap_u64, wrap_u8]
  refine hD.new fun P w4 h4 => ?_
  simp -dsimp -implicitDefEqProofs (disch := omega) only [go_sem, reqD_of, dec_t, dec_f, wrap_i64, wrap_u32, wrap_u64, wrap_u8]
  exact ⟨P, .slice ax l.length l.length, _, hs, h4, rfl⟩
end
end
end Go.Proofs.YtmiohkmcnppaeaaGreatDoor

namespace Go.Proofs.YtmiohkmcnppaeaaGreatDoor
open Go
set_option linter.unusedVariables false
set_option linter.unusedSimpArgs false
set_option maxRecDepth 100000

section
variable {w0 w : World} {F : HP} {R C K at' B : Nat} {t m : MsgD} {b pre post : List UInt8} {v : Value} {ba wh : Int}
theorem txtNext {b pre l rest : List UInt8} (h : b = pre ++ (txtBy l ++ rest)) : b = pre ++ (leN 2 l.length ++ (l ++ rest)) := by rw [h, txtBy, List.append_assoc]
theorem statCells (d : StatD) : ∀ y ∈ statC d, isCell y = true := fun y hy => by
  simp only [statC, List.mem_cons, List.not_mem_nil, or_false] at hy
  rcases hy with rfl | rfl | rfl | rfl | rfl | rfl | rfl | rfl | rfl | rfl | rfl | rfl | rfl <;> rfl
section
attribute [local go_sem] F181.t19_eq F181.t3_eq
theorem take_any [Gives F Tabs] {d : StatD} (hd : StatOk d) (hg : [d.name, d.uid, d.gid, d.muid].all good = true) (hk : d.ok = true) (hsz : d.size ≤ 65535) (hb : b = pre ++ (d.bytes ++ post)) (hat : at' = pre.length) (hbl : b.length ≤ 16777216) (hv : Ent F (RdB v b)) (h : St w0 (Blk R (rB v at' ba 0 wh) * F) w) :
    Calls Tryz.prog 181 #[.pointer (some ⟨R, 0, none⟩)] w fun e w' => St w0 (Blk R (rB v (at' + d.size : Nat) ba 0 wh) * F) w' ∧ e = .returned (.agg (statC d).toArray) := by
  obtain ⟨ty, dev, qk, qv, qp, mode, at9, mt, len, name, uid, gid, muid⟩ := d
  simp only [List.all_cons, List.all_nil, Bool.and_true, Bool.and_eq_true] at hg
  obtain ⟨g1, g2, g3, g4⟩ := hg
  have hk2 : name.length ≤ 65535 ∧ uid.length ≤ 65535 ∧ gid.length ≤ 65535 ∧ muid.length ≤ 65535 := by
    simp only [StatD.size] at hsz
    omega
  obtain ⟨l1, l2, l3, l4⟩ := hk2
  obtain ⟨D, hD⟩ : ∃ D : StatD, D = ⟨ty, dev, qk, qv, qp, mode, at9, mt, len, name, uid, gid, muid⟩ := ⟨_, rfl⟩
  rw [← hD] at hb hk hsz hd ⊢
  have hbl2 := D.body_len
  have hb1 : D.body = [] ++ (leN 2 ty ++ (leN 4 dev ++ (qidBy ⟨qk, qv, qp⟩ ++ (leN 4 mode ++ (leN 4 at9 ++ (leN 4 mt ++ (leN 8 len ++ (txtBy name ++ (txtBy uid ++ (txtBy gid ++ (txtBy muid ++ []))))))))))) := by rw [D.body_eq, hD]; rfl
  have hb2 := nextB hb1
  have hb3 := nextB hb2
  have hb4 := nextB hb3
  have hb5 := nextB hb4
  have hb6 := nextB hb5
  have hb7 := nextB hb6
  have hb8 := nextB hb7
  have hb9 := nextB hb8
  have hb10 := nextB hb9
  have hb11 := nextB hb10
  have hb12 := nextB hb11
  have hbo : b = pre ++ (leN 2 D.body.length ++ (D.body ++ post)) := by rw [hb, StatD.bytes, show D.size - 2 = D.body.length by omega, List.append_assoc]
  refine F181.calls (by simp) ?_
  unfold F181.code
  simp -dsimp -implicitDefEqProofs (disch := omega) only [go_sem, reqD_of, dec_t, dec_f, wrap_i64, wrap_u32, wrap_u64, wrap_u8]
  refine h.new fun X w1 h1 => ?_
  simp -dsimp -implicitDefEqProofs (disch := omega) only [go_sem, reqD_of, dec_t, dec_f, wrap_i64, wrap_u32, wrap_u64, wrap_u8]
  refine (part_any (l := D.body) (by omega) hbo hat hbl ((Ent.right _ _).trans hv) (h1.ac (show _ = Blk R (rB v at' ba 0 wh) * (Blk X (.cells (statC zeroStat).toArray 37 (0, 0)) * F) by
    show Blk X (.cells (statC zeroStat).toArray _ _) * _ = _
    ac_rfl))).mono ?_
  rintro e w2 ⟨P, dv, db, hs, h2, rfl⟩
  rw [show at' + (2 + D.body.length) = at' + D.size by omega] at h2
  have hsF : Ent F (RdB dv D.body) := hv.trans hs
  obtain ⟨q1, q2, q3, q4, q5, q6, q7, q8, q9⟩ : ty < 65536 ∧ dev < 4294967296 ∧ QidOk ⟨qk, qv, qp⟩ ∧ mode < 4294967296 ∧ at9 < 4294967296 ∧ mt < 4294967296 ∧ len < 18446744073709551616 ∧ D.body.length ≤ 16777216 ∧ True := by
    rw [hD] at hd
    exact ⟨hd.ty, hd.dev, ⟨hd.qk, hd.qv, hd.qp⟩, hd.mode, hd.at', hd.mt, hd.len, by rw [← hD] at hd; omega, trivial⟩
  simp -dsimp -implicitDefEqProofs (disch := omega) only [go_sem, reqD_of, dec_t, dec_f, wrap_i64, wrap_u32, wrap_u64, wrap_u8]
  refine (R16_any (n := ty) q1 hb1 (show 0 = ([] : List UInt8).length from rfl) q8 (((Ent.right _ _).trans ((Ent.right _ _).trans hsF))) h2).mono ?_
  rintro e w3 ⟨h3, rfl⟩
  simp -dsimp -implicitDefEqProofs (disch := omega) only [go_sem, reqD_of, dec_t, dec_f, wrap_i64, wrap_u32, wrap_u64, wrap_u8]
  refine (R32_any (n := dev) q2 hb2 (by simp only [leN_length, qidBy_len, txtBy_len, List.length_append, List.length_nil] <;> omega) q8 (((Ent.right _ _).trans ((Ent.right _ _).trans hsF))) h3).mono ?_
  rintro e w4 ⟨h4, rfl⟩
  simp -dsimp -implicitDefEqProofs (disch := omega) only [go_sem, reqD_of, dec_t, dec_f, wrap_i64, wrap_u32, wrap_u64, wrap_u8]
  refine onV_of (v := .agg (statC ⟨ty, dev, 0, 0, 0, 0, 0, 0, 0, [], [], [], []⟩).toArray) (by kernel_rfl) ?_
  simp -dsimp -implicitDefEqProofs (disch := omega) only [go_sem, reqD_of, dec_t, dec_f, wrap_i64, wrap_u32, wrap_u64, wrap_u8]
  refine h4.new fun Y w5 h5 => ?_
  simp -dsimp -implicitDefEqProofs (disch := omega) only [go_sem, reqD_of, dec_t, dec_f, wrap_i64, wrap_u32, wrap_u64, wrap_u8]
  refine h5.stoAll (b := Y) (n := 13) (cs := statC ⟨ty, dev, 0, 0, 0, 0, 0, 0, 0, [], [], [], []⟩) rfl rfl (statCells _) fun w6 h6 => ?_
  simp -dsimp -implicitDefEqProofs (disch := omega) only [go_sem, reqD_of, dec_t, dec_f, wrap_i64, wrap_u32, wrap_u64, wrap_u8]
  have h5 := h6.ac (show _ = Blk P (rB dv (0 + 2 + 4 : Nat) db 0 0) * (Blk Y (.cells (statC ⟨ty, dev, 0, 0, 0, 0, 0, 0, 0, [], [], [], []⟩).toArray 37 (0, 0)) * (Blk X (.cells (statC zeroStat).toArray 37 (0, 0)) * (Blk R (rB v (at' + D.size : Nat) ba 0 wh) * F))) by
    ac_rfl)
  refine (takeQid_any (q := ⟨qk, qv, qp⟩) q3 hb3 (by simp only [leN_length, qidBy_len, txtBy_len, List.length_append, List.length_nil] <;> omega) q8 ((Ent.right _ _).trans ((Ent.right _ _).trans ((Ent.right _ _).trans hsF))) h5).mono ?_
  rintro e w6 ⟨h6, rfl⟩
  simp -dsimp -implicitDefEqProofs (disch := omega) only [go_sem, reqD_of, dec_t, dec_f, wrap_i64, wrap_u32, wrap_u64, wrap_u8]
  refine h6.stoRow (b := Y) (off := 2) (n := 3) (cs := qidC ⟨qk, qv, qp⟩) rfl (by simp) (fun y hy => by simp only [qidC, List.mem_cons, List.not_mem_nil, or_false] at hy; rcases hy with rfl | rfl | rfl <;> rfl) fun w7 h7 => ?_
  simp -dsimp -implicitDefEqProofs (disch := omega) only [go_sem, reqD_of, dec_t, dec_f, wrap_i64, wrap_u32, wrap_u64, wrap_u8]
  have h7 : St w0 (Blk P (rB dv (0 + 2 + 4 + 13 : Nat) db 0 0) * (Blk Y (.cells (statC ⟨ty, dev, qk, qv, qp, 0, 0, 0, 0, [], [], [], []⟩).toArray 37 (0, 0)) * (Blk X (.cells (statC zeroStat).toArray 37 (0, 0)) * (Blk R (rB v (at' + D.size : Nat) ba 0 wh) * F)))) w7 := h7
  refine (R32_any (n := mode) q4 hb4 (by simp only [leN_length, qidBy_len, txtBy_len, List.length_append, List.length_nil] <;> omega) q8 ((Ent.right _ _).trans ((Ent.right _ _).trans ((Ent.right _ _).trans hsF))) h7).mono ?_
  rintro e w8 ⟨h8, rfl⟩
  simp -dsimp -implicitDefEqProofs (disch := omega) only [go_sem, reqD_of, dec_t, dec_f, wrap_i64, wrap_u32, wrap_u64, wrap_u8]
  refine h8.sto (b := Y) (off := 5) (by simp) rfl fun w9 h9 => ?_
  simp -dsimp -implicitDefEqProofs (disch := omega) only [go_sem, reqD_of, dec_t, dec_f, wrap_i64, wrap_u32, wrap_u64, wrap_u8]
  have h9 : St w0 (Blk P (rB dv (0 + 2 + 4 + 13 + 4 : Nat) db 0 0) * (Blk Y (.cells (statC ⟨ty, dev, qk, qv, qp, mode, 0, 0, 0, [], [], [], []⟩).toArray 37 (0, 0)) * (Blk X (.cells (statC zeroStat).toArray 37 (0, 0)) * (Blk R (rB v (at' + D.size : Nat) ba 0 wh) * F)))) w9 := h9
  refine (R32_any (n := at9) q5 hb5 (by simp only [leN_length, qidBy_len, txtBy_len, List.length_append, List.length_nil] <;> omega) q8 ((Ent.right _ _).trans ((Ent.right _ _).trans ((Ent.right _ _).trans hsF))) h9).mono ?_
  rintro e w10 ⟨h10, rfl⟩
  simp -dsimp -implicitDefEqProofs (disch := omega) only [go_sem, reqD_of, dec_t, dec_f, wrap_i64, wrap_u32, wrap_u64, wrap_u8]
  refine h10.sto (b := Y) (off := 6) (by simp) rfl fun w11 h11 => ?_
  simp -dsimp -implicitDefEqProofs (disch := omega) only [go_sem, reqD_of, dec_t, dec_f, wrap_i64, wrap_u32, wrap_u64, wrap_u8]
  have h11 : St w0 (Blk P (rB dv (0 + 2 + 4 + 13 + 4 + 4 : Nat) db 0 0) * (Blk Y (.cells (statC ⟨ty, dev, qk, qv, qp, mode, at9, 0, 0, [], [], [], []⟩).toArray 37 (0, 0)) * (Blk X (.cells (statC zeroStat).toArray 37 (0, 0)) * (Blk R (rB v (at' + D.size : Nat) ba 0 wh) * F)))) w11 := h11
  refine (R32_any (n := mt) q6 hb6 (by simp only [leN_length, qidBy_len, txtBy_len, List.length_append, List.length_nil] <;> omega) q8 ((Ent.right _ _).trans ((Ent.right _ _).trans ((Ent.right _ _).trans hsF))) h11).mono ?_
  rintro e w12 ⟨h12, rfl⟩
  simp -dsimp -implicitDefEqProofs (disch := omega) only [go_sem, reqD_of, dec_t, dec_f, wrap_i64, wrap_u32, wrap_u64, wrap_u8]
  refine h12.sto (b := Y) (off := 7) (by simp) rfl fun w13 h13 => ?_
  simp -dsimp -implicitDefEqProofs (disch := omega) only [go_sem, reqD_of, dec_t, dec_f, wrap_i64, wrap_u32, wrap_u64, wrap_u8]
  have h13 : St w0 (Blk P (rB dv (0 + 2 + 4 + 13 + 4 + 4 + 4 : Nat) db 0 0) * (Blk Y (.cells (statC ⟨ty, dev, qk, qv, qp, mode, at9, mt, 0, [], [], [], []⟩).toArray 37 (0, 0)) * (Blk X (.cells (statC zeroStat).toArray 37 (0, 0)) * (Blk R (rB v (at' + D.size : Nat) ba 0 wh) * F)))) w13 := h13
  refine (R64_any (n := len) q7 hb7 (by simp only [leN_length, qidBy_len, txtBy_len, List.length_append, List.length_nil] <;> omega) q8 ((Ent.right _ _).trans ((Ent.right _ _).trans ((Ent.right _ _).trans hsF))) h13).mono ?_
  rintro e w14 ⟨h14, rfl⟩
  simp -dsimp -implicitDefEqProofs (disch := omega) only [go_sem, reqD_of, dec_t, dec_f, wrap_i64, wrap_u32, wrap_u64, wrap_u8]
  refine h14.sto (b := Y) (off := 8) (by simp) rfl fun w15 h15 => ?_
  simp -dsimp -implicitDefEqProofs (disch := omega) only [go_sem, reqD_of, dec_t, dec_f, wrap_i64, wrap_u32, wrap_u64, wrap_u8]
  have h15 : St w0 (Blk P (rB dv (0 + 2 + 4 + 13 + 4 + 4 + 4 + 8 : Nat) db 0 0) * (Blk Y (.cells (statC ⟨ty, dev, qk, qv, qp, mode, at9, mt, len, [], [], [], []⟩).toArray 37 (0, 0)) * (Blk X (.cells (statC zeroStat).toArray 37 (0, 0)) * (Blk R (rB v (at' + D.size : Nat) ba 0 wh) * F)))) w15 := h15
  refine (rtext_any (l := name) (by omega) g1 (txtNext hb8) (by simp only [leN_length, qidBy_len, txtBy_len, List.length_append, List.length_nil] <;> omega) q8 ((Ent.right _ _).trans ((Ent.right _ _).trans ((Ent.right _ _).trans hsF))) h15).mono ?_
  rintro e w16 ⟨h16, rfl⟩
  simp -dsimp -implicitDefEqProofs (disch := omega) only [go_sem, reqD_of, dec_t, dec_f, wrap_i64, wrap_u32, wrap_u64, wrap_u8]
  refine h16.sto (b := Y) (off := 9) (by simp) rfl fun w17 h17 => ?_
  simp -dsimp -implicitDefEqProofs (disch := omega) only [go_sem, reqD_of, dec_t, dec_f, wrap_i64, wrap_u32, wrap_u64, wrap_u8]
  have h17 : St w0 (Blk P (rB dv (0 + 2 + 4 + 13 + 4 + 4 + 4 + 8 + (2 + name.length) : Nat) db 0 0) * (Blk Y (.cells (statC ⟨ty, dev, qk, qv, qp, mode, at9, mt, len, name, [], [], []⟩).toArray 37 (0, 0)) * (Blk X (.cells (statC zeroStat).toArray 37 (0, 0)) * (Blk R (rB v (at' + D.size : Nat) ba 0 wh) * F)))) w17 := h17
  refine (rtext_any (l := uid) (by omega) g2 (txtNext hb9) (by simp only [leN_length, qidBy_len, txtBy_len, List.length_append, List.length_nil] <;> omega) q8 ((Ent.right _ _).trans ((Ent.right _ _).trans ((Ent.right _ _).trans hsF))) h17).mono ?_
  rintro e w18 ⟨h18, rfl⟩
  simp -dsimp -implicitDefEqProofs (disch := omega) only [go_sem, reqD_of, dec_t, dec_f, wrap_i64, wrap_u32, wrap_u64, wrap_u8]
  refine h18.sto (b := Y) (off := 10) (by simp) rfl fun w19 h19 => ?_
  simp -dsimp -implicitDefEqProofs (disch := omega) only [go_sem, reqD_of, dec_t, dec_f, wrap_i64, wrap_u32, wrap_u64, wrap_u8]
  have h19 : St w0 (Blk P (rB dv (0 + 2 + 4 + 13 + 4 + 4 + 4 + 8 + (2 + name.length) + (2 + uid.length) : Nat) db 0 0) * (Blk Y (.cells (statC ⟨ty, dev, qk, qv, qp, mode, at9, mt, len, name, uid, [], []⟩).toArray 37 (0, 0)) * (Blk X (.cells (statC zeroStat).toArray 37 (0, 0)) * (Blk R (rB v (at' + D.size : Nat) ba 0 wh) * F)))) w19 := h19
  refine (rtext_any (l := gid) (by omega) g3 (txtNext hb10) (by simp only [leN_length, qidBy_len, txtBy_len, List.length_append, List.length_nil] <;> omega) q8 ((Ent.right _ _).trans ((Ent.right _ _).trans ((Ent.right _ _).trans hsF))) h19).mono ?_
  rintro e w20 ⟨h20, rfl⟩
  simp -dsimp -implicitDefEqProofs (disch := omega) only [go_sem, reqD_of, dec_t, dec_f, wrap_i64, wrap_u32, wrap_u64, wrap_u8]
  refine h20.sto (b := Y) (off := 11) (by simp) rfl fun w21 h21 => ?_
  simp -dsimp -implicitDefEqProofs (disch := omega) only [go_sem, reqD_of, dec_t, dec_f, wrap_i64, wrap_u32, wrap_u64, wrap_u8]
  have h21 : St w0 (Blk P (rB dv (0 + 2 + 4 + 13 + 4 + 4 + 4 + 8 + (2 + name.length) + (2 + uid.length) + (2 + gid.length) : Nat) db 0 0) * (Blk Y (.cells (statC ⟨ty, dev, qk, qv, qp, mode, at9, mt, len, name, uid, gid, []⟩).toArray 37 (0, 0)) * (Blk X (.cells (statC zeroStat).toArray 37 (0, 0)) * (Blk R (rB v (at' + D.size : Nat) ba 0 wh) * F)))) w21 := h21
  refine (rtext_any (l := muid) (by omega) g4 (txtNext hb11) (by simp only [leN_length, qidBy_len, txtBy_len, List.length_append, List.length_nil] <;> omega) q8 ((Ent.right _ _).trans ((Ent.right _ _).trans ((Ent.right _ _).trans hsF))) h21).mono ?_
  rintro e w22 ⟨h22, rfl⟩
  simp -dsimp -implicitDefEqProofs (disch := omega) only [go_sem, reqD_of, dec_t, dec_f, wrap_i64, wrap_u32, wrap_u64, wrap_u8]
  refine h22.sto (b := Y) (off := 12) (by simp) rfl fun w23 h23 => ?_
  simp -dsimp -implicitDefEqProofs (disch := omega) only [go_sem, reqD_of, dec_t, dec_f, wrap_i64, wrap_u32, wrap_u64, wrap_u8]
  have h23 : St w0 (Blk P (rB dv (0 + 2 + 4 + 13 + 4 + 4 + 4 + 8 + (2 + name.length) + (2 + uid.length) + (2 + gid.length) + (2 + muid.length) : Nat) db 0 0) * (Blk Y (.cells (statC ⟨ty, dev, qk, qv, qp, mode, at9, mt, len, name, uid, gid, muid⟩).toArray 37 (0, 0)) * (Blk X (.cells (statC zeroStat).toArray 37 (0, 0)) * (Blk R (rB v (at' + D.size : Nat) ba 0 wh) * F)))) w23 := h23
  refine (end_any (by rw [hb12]; simp only [leN_length, qidBy_len, txtBy_len, List.length_append, List.length_nil] <;> omega) q8 ((Ent.right _ _).trans ((Ent.right _ _).trans ((Ent.right _ _).trans hsF))) h23).mono ?_
  rintro e w24 ⟨h24, rfl⟩
  simp -dsimp -implicitDefEqProofs (disch := omega) only [go_sem, reqD_of, dec_t, dec_f, wrap_i64, wrap_u32, wrap_u64, wrap_u8]
  refine (err_any ((Ent.right _ _).trans ((Ent.right _ _).trans ((Ent.right _ _).trans hsF))) h24).mono ?_
  rintro e w25 ⟨h25, rfl⟩
  simp -dsimp -implicitDefEqProofs (disch := omega) only [go_sem, reqD_of, dec_t, dec_f, wrap_i64, wrap_u32, wrap_u64, wrap_u8, h25.cl Y]
  subst hD
  refine h25.stoAll (b := X) (n := 13) (cs := statC ⟨ty, dev, qk, qv, qp, mode, at9, mt, len, name, uid, gid, muid⟩) rfl rfl (statCells _) fun w26 h26 => ?_
  simp -dsimp -implicitDefEqProofs (disch := omega) only [go_sem, reqD_of, dec_t, dec_f, wrap_i64, wrap_u32, wrap_u64, wrap_u8]
  have hr : rowV w26 ⟨X, 0, none⟩ 13 = some (.agg (statC ⟨ty, dev, qk, qv, qp, mode, at9, mt, len, name, uid, gid, muid⟩).toArray) := h26.rowH X 13 rfl
  refine resC_1 (a := ⟨X, 0, none⟩) (by simp -dsimp -implicitDefEqProofs only [go_sem]) (run_loadVar_row fact_aggSz_37 hr) ?_
  exact ⟨h26.ent ((Ent.right _ _).trans ((Ent.right _ _).trans (Ent.right _ _))), rfl⟩
end
section
attribute [local go_sem] F160.t4_eq
theorem takeStat_any [Gives F Tabs] {d : StatD} (hd : StatOk d) (hg : [d.name, d.uid, d.gid, d.muid].all good = true) (hk : d.ok = true) (hsz : d.size ≤ 65535) (hb : b = pre ++ (leN 2 d.size ++ d.bytes)) (hat : at' = pre.length) (hbl : b.length ≤ 16777216) (hv : Ent F (RdB v b)) (h : St w0 (Blk R (rB v at' ba 0 wh) * F) w) :
    Calls Tryz.prog 160 #[.pointer (some ⟨R, 0, none⟩)] w fun e w' => St w0 (Blk R (rB v (at' + (2 + d.size) : Nat) ba 0 wh) * F) w' ∧ e = .returned (.agg (statC d).toArray) := by
  have hdl := d.bytes_len
  have hbn : b.length = pre.length + (2 + d.size) := by rw [hb, List.length_append, List.length_append, leN_length, hdl]
  have hb2 : b = (pre ++ leN 2 d.size) ++ (d.bytes ++ []) := by rw [hb, List.append_nil, List.append_assoc]
  refine F160.calls (by simp) ?_
  unfold F160.code
  simp -dsimp -implicitDefEqProofs (disch := omega) only [go_sem, reqD_of, dec_t, dec_f, wrap_i64, wrap_u32, wrap_u64, wrap_u8]
  refine h.new fun X w1 h1 => ?_
  simp -dsimp -implicitDefEqProofs (disch := omega) only [go_sem, reqD_of, dec_t, dec_f, wrap_i64, wrap_u32, wrap_u64, wrap_u8]
  refine (R16_any (n := d.size) (by omega) hb hat hbl ((Ent.right _ _).trans hv) (h1.ac (show _ = Blk R (rB v at' ba 0 wh) * (Blk X (.cells (statC zeroStat).toArray 37 (0, 0)) * F) by
    show Blk X (.cells (statC zeroStat).toArray _ _) * _ = _
    ac_rfl))).mono ?_
  rintro e w2 ⟨h2, rfl⟩
  simp -dsimp -implicitDefEqProofs (disch := omega) only [go_sem, reqD_of, dec_t, dec_f, wrap_i64, wrap_u32, wrap_u64, wrap_u8]
  refine (left_any (by omega) hbl ((Ent.right _ _).trans hv) h2).mono ?_
  rintro e w3 ⟨h3, rfl⟩
  rw [show b.length - (at' + 2) = d.size by omega]
  simp -dsimp -implicitDefEqProofs (disch := omega) only [go_sem, reqD_of, dec_t, dec_f, wrap_i64, wrap_u32, wrap_u64, wrap_u8]
  refine (take_any hd hg hk hsz hb2 (by rw [List.length_append, leN_length, hat]) hbl ((Ent.right _ _).trans hv) h3).mono ?_
  rintro e w4 ⟨h4, rfl⟩
  simp -dsimp -implicitDefEqProofs (disch := omega) only [go_sem, reqD_of, dec_t, dec_f, wrap_i64, wrap_u32, wrap_u64, wrap_u8]
  refine h4.stoAll (b := X) (n := 13) (cs := statC d) rfl rfl (statCells _) fun w26 h26 => ?_
  simp -dsimp -implicitDefEqProofs (disch := omega) only [go_sem, reqD_of, dec_t, dec_f, wrap_i64, wrap_u32, wrap_u64, wrap_u8]
  have hr : rowV w26 ⟨X, 0, none⟩ 13 = some (.agg (statC d).toArray) := h26.rowH X 13 rfl
  refine resC_1 (a := ⟨X, 0, none⟩) (by simp -dsimp -implicitDefEqProofs only [go_sem]) (run_loadVar_row fact_aggSz_37 hr) ?_
  rw [show at' + 2 + d.size = at' + (2 + d.size) by omega] at h26
  exact ⟨h26.ent (Ent.sep (Ent.rfl' _) (Ent.right _ _)), rfl⟩
end

theorem take19 [Gives F Tabs] (hm : MOk m) (hk : okF 19 m = true) (hg : goodF 19 m = true) (hb : b = pre ++ bytesF 19 m) (hat : at' = pre.length) (hbl : b.length ≤ 16777216) (hv : Ent F (RdB v b)) (h : St w0 (Blk R (rB v at' ba 0 wh) * (MsgP C t * F)) w) :
    Calls Tryz.prog 159 #[.pointer (some ⟨R, 0, none⟩), .pointer (some ⟨C, 0, none⟩)] w fun e w' => St w0 (Blk R (rB v (at' + (bytesF 19 m).length : Nat) ba 0 wh) * (MsgP C (moveF 19 t m) * F)) w' ∧ e = .returned (.tuple #[]) := by
  have e0 : bytesF 19 m = leN 2 m.stat.size ++ m.stat.bytes := rfl
  have e1 : (bytesF 19 m).length = 2 + m.stat.size := by rw [e0, List.length_append, leN_length, m.stat.bytes_len]
  have hk2 : m.stat.ok = true ∧ m.stat.size ≤ 65535 := by
    unfold okF at hk
    rw [if_pos rfl] at hk
    simpa using hk
  rw [e1]
  rw [e0] at hb
  refine F159.calls (by simp) ?_
  unfold F159.code
  simp -dsimp -implicitDefEqProofs (disch := omega) only [go_sem, reqD_of, dec_t, dec_f, wrap_i64, wrap_u32, wrap_u64, wrap_u8]
  refine (takeStat_any (d := m.stat) hm.stat hg hk2.1 hk2.2 hb hat hbl ((Ent.right _ _).trans hv) h).mono ?_
  rintro e w2 ⟨h2, rfl⟩
  obtain ⟨tn, tq, td, h2⟩ := MsgP.open (h2.ac (show _ = MsgP C t * (Blk R (rB v (at' + (2 + m.stat.size) : Nat) ba 0 wh) * F) by ac_rfl))
  simp -dsimp -implicitDefEqProofs (disch := omega) only [go_sem, reqD_of, dec_t, dec_f, wrap_i64, wrap_u32, wrap_u64, wrap_u8]
  refine h2.stoRow (b := C) (off := 23) (n := 13) (cs := statC m.stat) rfl (by simp) (statCells _) fun w3 h3 => ?_
  simp -dsimp -implicitDefEqProofs (disch := omega) only [go_sem, reqD_of, dec_t, dec_f, wrap_i64, wrap_u32, wrap_u64, wrap_u8]
  have e1 : setRowL (msgC t tn tq td).toArray.toList 23 (statC m.stat) = msgC (moveF 19 t m) tn tq td := by kernel_rfl
  rw [e1] at h3
  exact (MsgP.mk (vn := tn) (vq := tq) (vd := td) h3).ac (by ac_rfl)
end
end Go.Proofs.YtmiohkmcnppaeaaGreatDoor

namespace Go.Proofs.YtmiohkmcnppaeaaGreatDoor
open Go
set_option linter.unusedVariables false
set_option linter.unusedSimpArgs false
set_option maxRecDepth 100000

/-- What a field's functions do, beside the block that they know. -/
structure FldOk (n B : Nat) (o : Obj) (g p t mv : Value) : Prop where
  good : ∀ {w0 w : World} {F : HP} {M : Nat} {m : MsgD} {vn vq vd : Value} [Gives F Tabs], MOk m → MsgI F m vn vq vd → St w0 (Blk B o * (Blk M (msgB m vn vq vd) * F)) w →
    CallsV Tryz.prog g #[.pointer (some ⟨M, 0, none⟩)] w fun e w' => St w0 (Blk B o * (Blk M (msgB m vn vq vd) * F)) w' ∧ e = .returned (.bool (goodF n m))
  put : ∀ {w0 w : World} {F : HP} {W M : Nat} {s : WS} {m : MsgD} {vn vq vd : Value} [Gives F Tabs], WOk s → s.op = [] → MOk m → goodF n m = true → MsgI F m vn vq vd → St w0 (WP W s * (Blk B o * (Blk M (msgB m vn vq vd) * F))) w →
    CallsV Tryz.prog p #[.pointer (some ⟨W, 0, none⟩), .pointer (some ⟨M, 0, none⟩)] w fun e w' => St w0 (WP W (putF n m s) * (Blk B o * (Blk M (msgB m vn vq vd) * F))) w' ∧ e = .returned (.tuple #[])
  take : ∀ {w0 w : World} {F : HP} {R C at' : Nat} {t1 m : MsgD} {b pre post : List UInt8} {v : Value} {ba wh : Int} [Gives F Tabs], MOk m → okF n m = true → goodF n m = true → b = pre ++ (bytesF n m ++ post) → (n = 19 → post = []) → at' = pre.length → b.length ≤ 16777216 → Ent F (RdB v b) → St w0 (Blk R (rB v at' ba 0 wh) * (MsgP C t1 * (Blk B o * F))) w →
    CallsV Tryz.prog t #[.pointer (some ⟨R, 0, none⟩), .pointer (some ⟨C, 0, none⟩)] w fun e w' => St w0 (Blk R (rB v (at' + (bytesF n m).length : Nat) ba 0 wh) * (MsgP C (moveF n t1 m) * (Blk B o * F))) w' ∧ e = .returned (.tuple #[])
  move : ∀ {w0 w : World} {F : HP} {C M : Nat} {t1 f : MsgD} {vn vq vd : Value}, MOk f → MsgI F f vn vq vd → St w0 (MsgP C t1 * (Blk B o * (Blk M (msgB f vn vq vd) * F))) w →
    CallsV Tryz.prog mv #[.pointer (some ⟨C, 0, none⟩), .pointer (some ⟨M, 0, none⟩)] w fun e w' => St w0 (MsgP C (moveF n t1 f) * (Blk B o * (Blk M (msgB f vn vq vd) * F))) w' ∧ e = .returned (.tuple #[])
theorem CallsV.mk1 {P : Program} {f : Nat} {a : Value} {first cap : Array Value} {args : Array Value} {w : World} {Q : Ending → World → Prop} (hf : fnOk P f = true) (ha : first ++ #[a] ++ cap = args) (h : Calls P f args w Q) : CallsV P (.func (.func f) first cap) #[a] w Q := ⟨f, first, cap, rfl, hf, by rw [ha]; exact h⟩
theorem CallsV.mk2 {P : Program} {f : Nat} {a b : Value} {first cap : Array Value} {args : Array Value} {w : World} {Q : Ending → World → Prop} (hf : fnOk P f = true) (ha : first ++ #[a, b] ++ cap = args) (h : Calls P f args w Q) : CallsV P (.func (.func f) first cap) #[a, b] w Q := ⟨f, first, cap, rfl, hf, by rw [ha]; exact h⟩
theorem goodF_num {n : Nat} {m : MsgD} (h : n ∈ [0, 2, 6, 7, 8, 11, 12, 13, 15, 16, 17, 18]) : goodF n m = true := by
  simp only [List.mem_cons, List.not_mem_nil, or_false] at h
  rcases h with rfl | rfl | rfl | rfl | rfl | rfl | rfl | rfl | rfl | rfl | rfl | rfl <;> rfl
theorem fk0 : fnOk Tryz.prog 55 = true := by kernel_rfl
theorem fk1 : fnOk Tryz.prog 56 = true := by kernel_rfl
theorem fk2 : fnOk Tryz.prog 57 = true := by kernel_rfl
theorem fk3 : fnOk Tryz.prog 58 = true := by kernel_rfl
theorem fk4 : fnOk Tryz.prog 63 = true := by kernel_rfl
theorem fk5 : fnOk Tryz.prog 65 = true := by kernel_rfl
theorem fk6 : fnOk Tryz.prog 67 = true := by kernel_rfl
theorem fk7 : fnOk Tryz.prog 69 = true := by kernel_rfl
theorem fk8 : fnOk Tryz.prog 74 = true := by kernel_rfl
theorem fk9 : fnOk Tryz.prog 75 = true := by kernel_rfl
theorem fk10 : fnOk Tryz.prog 76 = true := by kernel_rfl
theorem fk11 : fnOk Tryz.prog 79 = true := by kernel_rfl
theorem fk12 : fnOk Tryz.prog 80 = true := by kernel_rfl
theorem fk13 : fnOk Tryz.prog 81 = true := by kernel_rfl
theorem fk14 : fnOk Tryz.prog 84 = true := by kernel_rfl
theorem fk15 : fnOk Tryz.prog 86 = true := by kernel_rfl
theorem fk16 : fnOk Tryz.prog 88 = true := by kernel_rfl
theorem fk17 : fnOk Tryz.prog 91 = true := by kernel_rfl
theorem fk18 : fnOk Tryz.prog 93 = true := by kernel_rfl
theorem fk19 : fnOk Tryz.prog 95 = true := by kernel_rfl
theorem fk20 : fnOk Tryz.prog 101 = true := by kernel_rfl
theorem fk21 : fnOk Tryz.prog 103 = true := by kernel_rfl
theorem fk22 : fnOk Tryz.prog 105 = true := by kernel_rfl
theorem fk23 : fnOk Tryz.prog 130 = true := by kernel_rfl
theorem fk24 : fnOk Tryz.prog 133 = true := by kernel_rfl
theorem fk25 : fnOk Tryz.prog 135 = true := by kernel_rfl
theorem fk26 : fnOk Tryz.prog 137 = true := by kernel_rfl
theorem fk27 : fnOk Tryz.prog 143 = true := by kernel_rfl
theorem fk28 : fnOk Tryz.prog 144 = true := by kernel_rfl
theorem fk29 : fnOk Tryz.prog 147 = true := by kernel_rfl
theorem fk30 : fnOk Tryz.prog 150 = true := by kernel_rfl
theorem fk31 : fnOk Tryz.prog 156 = true := by kernel_rfl
theorem fk32 : fnOk Tryz.prog 157 = true := by kernel_rfl
theorem fk33 : fnOk Tryz.prog 159 = true := by kernel_rfl
theorem fk34 : fnOk Tryz.prog 161 = true := by kernel_rfl
theorem fld0 {B : Nat} : FldOk 0 B (atN 34) (.func (.func 55) #[] #[]) (.func (.func 56) #[] #[.pointer (some ⟨B, 0, none⟩)]) (.func (.func 57) #[] #[.pointer (some ⟨B, 0, none⟩)]) (.func (.func 58) #[] #[.pointer (some ⟨B, 0, none⟩)]) where
  good := fun {w0 w F M m vn vq vd} _ hm hi h => .mk1 fk0 rfl ((always_any h).mono fun e w' k => ⟨k.1, by rw [goodF_num (by decide)]; exact k.2⟩)
  put := fun {w0 w F W M s m vn vq vd} _ ok hop hm hg hi h => .mk2 fk1 rfl (put0 ok hm h)
  take := fun {w0 w F R C at1 t1 m b pre post v ba wh} _ hm hk hg hb hp hat hbl hv h => .mk2 fk2 rfl (take0 hm hb hat hbl hv h)
  move := fun {w0 w F C M t1 f vn vq vd} hf hi h => .mk2 fk3 rfl (move0 h)
theorem fld2 {B : Nat} : FldOk 2 B (atN 35) (.func (.func 55) #[] #[]) (.func (.func 56) #[] #[.pointer (some ⟨B, 0, none⟩)]) (.func (.func 57) #[] #[.pointer (some ⟨B, 0, none⟩)]) (.func (.func 58) #[] #[.pointer (some ⟨B, 0, none⟩)]) where
  good := fun {w0 w F M m vn vq vd} _ hm hi h => .mk1 fk0 rfl ((always_any h).mono fun e w' k => ⟨k.1, by rw [goodF_num (by decide)]; exact k.2⟩)
  put := fun {w0 w F W M s m vn vq vd} _ ok hop hm hg hi h => .mk2 fk1 rfl (put2 ok hm h)
  take := fun {w0 w F R C at1 t1 m b pre post v ba wh} _ hm hk hg hb hp hat hbl hv h => .mk2 fk2 rfl (take2 hm hb hat hbl hv h)
  move := fun {w0 w F C M t1 f vn vq vd} hf hi h => .mk2 fk3 rfl (move2 h)
theorem fld7 {B : Nat} : FldOk 7 B (atN 36) (.func (.func 55) #[] #[]) (.func (.func 56) #[] #[.pointer (some ⟨B, 0, none⟩)]) (.func (.func 57) #[] #[.pointer (some ⟨B, 0, none⟩)]) (.func (.func 58) #[] #[.pointer (some ⟨B, 0, none⟩)]) where
  good := fun {w0 w F M m vn vq vd} _ hm hi h => .mk1 fk0 rfl ((always_any h).mono fun e w' k => ⟨k.1, by rw [goodF_num (by decide)]; exact k.2⟩)
  put := fun {w0 w F W M s m vn vq vd} _ ok hop hm hg hi h => .mk2 fk1 rfl (put7 ok hm h)
  take := fun {w0 w F R C at1 t1 m b pre post v ba wh} _ hm hk hg hb hp hat hbl hv h => .mk2 fk2 rfl (take7 hm hb hat hbl hv h)
  move := fun {w0 w F C M t1 f vn vq vd} hf hi h => .mk2 fk3 rfl (move7 h)
theorem fld8 {B : Nat} : FldOk 8 B (atN 37) (.func (.func 55) #[] #[]) (.func (.func 56) #[] #[.pointer (some ⟨B, 0, none⟩)]) (.func (.func 57) #[] #[.pointer (some ⟨B, 0, none⟩)]) (.func (.func 58) #[] #[.pointer (some ⟨B, 0, none⟩)]) where
  good := fun {w0 w F M m vn vq vd} _ hm hi h => .mk1 fk0 rfl ((always_any h).mono fun e w' k => ⟨k.1, by rw [goodF_num (by decide)]; exact k.2⟩)
  put := fun {w0 w F W M s m vn vq vd} _ ok hop hm hg hi h => .mk2 fk1 rfl (put8 ok hm h)
  take := fun {w0 w F R C at1 t1 m b pre post v ba wh} _ hm hk hg hb hp hat hbl hv h => .mk2 fk2 rfl (take8 hm hb hat hbl hv h)
  move := fun {w0 w F C M t1 f vn vq vd} hf hi h => .mk2 fk3 rfl (move8 h)
theorem fld13 {B : Nat} : FldOk 13 B (atN 38) (.func (.func 55) #[] #[]) (.func (.func 56) #[] #[.pointer (some ⟨B, 0, none⟩)]) (.func (.func 57) #[] #[.pointer (some ⟨B, 0, none⟩)]) (.func (.func 58) #[] #[.pointer (some ⟨B, 0, none⟩)]) where
  good := fun {w0 w F M m vn vq vd} _ hm hi h => .mk1 fk0 rfl ((always_any h).mono fun e w' k => ⟨k.1, by rw [goodF_num (by decide)]; exact k.2⟩)
  put := fun {w0 w F W M s m vn vq vd} _ ok hop hm hg hi h => .mk2 fk1 rfl (put13 ok hm h)
  take := fun {w0 w F R C at1 t1 m b pre post v ba wh} _ hm hk hg hb hp hat hbl hv h => .mk2 fk2 rfl (take13 hm hb hat hbl hv h)
  move := fun {w0 w F C M t1 f vn vq vd} hf hi h => .mk2 fk3 rfl (move13 h)
theorem fld15 {B : Nat} : FldOk 15 B (atN 39) (.func (.func 55) #[] #[]) (.func (.func 56) #[] #[.pointer (some ⟨B, 0, none⟩)]) (.func (.func 57) #[] #[.pointer (some ⟨B, 0, none⟩)]) (.func (.func 58) #[] #[.pointer (some ⟨B, 0, none⟩)]) where
  good := fun {w0 w F M m vn vq vd} _ hm hi h => .mk1 fk0 rfl ((always_any h).mono fun e w' k => ⟨k.1, by rw [goodF_num (by decide)]; exact k.2⟩)
  put := fun {w0 w F W M s m vn vq vd} _ ok hop hm hg hi h => .mk2 fk1 rfl (put15 ok hm h)
  take := fun {w0 w F R C at1 t1 m b pre post v ba wh} _ hm hk hg hb hp hat hbl hv h => .mk2 fk2 rfl (take15 hm hb hat hbl hv h)
  move := fun {w0 w F C M t1 f vn vq vd} hf hi h => .mk2 fk3 rfl (move15 h)
theorem fld17 {B : Nat} : FldOk 17 B (atN 40) (.func (.func 55) #[] #[]) (.func (.func 56) #[] #[.pointer (some ⟨B, 0, none⟩)]) (.func (.func 57) #[] #[.pointer (some ⟨B, 0, none⟩)]) (.func (.func 58) #[] #[.pointer (some ⟨B, 0, none⟩)]) where
  good := fun {w0 w F M m vn vq vd} _ hm hi h => .mk1 fk0 rfl ((always_any h).mono fun e w' k => ⟨k.1, by rw [goodF_num (by decide)]; exact k.2⟩)
  put := fun {w0 w F W M s m vn vq vd} _ ok hop hm hg hi h => .mk2 fk1 rfl (put17 ok hm h)
  take := fun {w0 w F R C at1 t1 m b pre post v ba wh} _ hm hk hg hb hp hat hbl hv h => .mk2 fk2 rfl (take17 hm hb hat hbl hv h)
  move := fun {w0 w F C M t1 f vn vq vd} hf hi h => .mk2 fk3 rfl (move17 h)
theorem fld1 {B : Nat} : FldOk 1 B (atT 42) (.func (.func 63) #[] #[.pointer (some ⟨B, 0, none⟩)]) (.func (.func 65) #[] #[.pointer (some ⟨B, 0, none⟩)]) (.func (.func 67) #[] #[.pointer (some ⟨B, 0, none⟩)]) (.func (.func 69) #[] #[.pointer (some ⟨B, 0, none⟩)]) where
  good := fun {w0 w F M m vn vq vd} _ hm hi h => .mk1 fk4 rfl (good1 hm h)
  put := fun {w0 w F W M s m vn vq vd} _ ok hop hm hg hi h => .mk2 fk5 rfl (put1 ok hm h)
  take := fun {w0 w F R C at1 t1 m b pre post v ba wh} _ hm hk hg hb hp hat hbl hv h => .mk2 fk6 rfl (take1 hm hk hb hat hbl hv h)
  move := fun {w0 w F C M t1 f vn vq vd} hf hi h => .mk2 fk7 rfl (move1 h)
theorem fld3 {B : Nat} : FldOk 3 B (atT 43) (.func (.func 63) #[] #[.pointer (some ⟨B, 0, none⟩)]) (.func (.func 65) #[] #[.pointer (some ⟨B, 0, none⟩)]) (.func (.func 67) #[] #[.pointer (some ⟨B, 0, none⟩)]) (.func (.func 69) #[] #[.pointer (some ⟨B, 0, none⟩)]) where
  good := fun {w0 w F M m vn vq vd} _ hm hi h => .mk1 fk4 rfl (good3 hm h)
  put := fun {w0 w F W M s m vn vq vd} _ ok hop hm hg hi h => .mk2 fk5 rfl (put3 ok hm h)
  take := fun {w0 w F R C at1 t1 m b pre post v ba wh} _ hm hk hg hb hp hat hbl hv h => .mk2 fk6 rfl (take3 hm hk hb hat hbl hv h)
  move := fun {w0 w F C M t1 f vn vq vd} hf hi h => .mk2 fk7 rfl (move3 h)
theorem fld4 {B : Nat} : FldOk 4 B (atT 44) (.func (.func 63) #[] #[.pointer (some ⟨B, 0, none⟩)]) (.func (.func 65) #[] #[.pointer (some ⟨B, 0, none⟩)]) (.func (.func 67) #[] #[.pointer (some ⟨B, 0, none⟩)]) (.func (.func 69) #[] #[.pointer (some ⟨B, 0, none⟩)]) where
  good := fun {w0 w F M m vn vq vd} _ hm hi h => .mk1 fk4 rfl (good4 hm h)
  put := fun {w0 w F W M s m vn vq vd} _ ok hop hm hg hi h => .mk2 fk5 rfl (put4 ok hm h)
  take := fun {w0 w F R C at1 t1 m b pre post v ba wh} _ hm hk hg hb hp hat hbl hv h => .mk2 fk6 rfl (take4 hm hk hb hat hbl hv h)
  move := fun {w0 w F C M t1 f vn vq vd} hf hi h => .mk2 fk7 rfl (move4 h)
theorem fld5 {B : Nat} : FldOk 5 B (atT 45) (.func (.func 63) #[] #[.pointer (some ⟨B, 0, none⟩)]) (.func (.func 65) #[] #[.pointer (some ⟨B, 0, none⟩)]) (.func (.func 67) #[] #[.pointer (some ⟨B, 0, none⟩)]) (.func (.func 69) #[] #[.pointer (some ⟨B, 0, none⟩)]) where
  good := fun {w0 w F M m vn vq vd} _ hm hi h => .mk1 fk4 rfl (good5 hm h)
  put := fun {w0 w F W M s m vn vq vd} _ ok hop hm hg hi h => .mk2 fk5 rfl (put5 ok hm h)
  take := fun {w0 w F R C at1 t1 m b pre post v ba wh} _ hm hk hg hb hp hat hbl hv h => .mk2 fk6 rfl (take5 hm hk hb hat hbl hv h)
  move := fun {w0 w F C M t1 f vn vq vd} hf hi h => .mk2 fk7 rfl (move5 h)
theorem fld14 {B : Nat} : FldOk 14 B (atT 46) (.func (.func 63) #[] #[.pointer (some ⟨B, 0, none⟩)]) (.func (.func 65) #[] #[.pointer (some ⟨B, 0, none⟩)]) (.func (.func 67) #[] #[.pointer (some ⟨B, 0, none⟩)]) (.func (.func 69) #[] #[.pointer (some ⟨B, 0, none⟩)]) where
  good := fun {w0 w F M m vn vq vd} _ hm hi h => .mk1 fk4 rfl (good14 hm h)
  put := fun {w0 w F W M s m vn vq vd} _ ok hop hm hg hi h => .mk2 fk5 rfl (put14 ok hm h)
  take := fun {w0 w F R C at1 t1 m b pre post v ba wh} _ hm hk hg hb hp hat hbl hv h => .mk2 fk6 rfl (take14 hm hk hb hat hbl hv h)
  move := fun {w0 w F C M t1 f vn vq vd} hf hi h => .mk2 fk7 rfl (move14 h)
theorem fld6 {B : Nat} {ob : Obj} : FldOk 6 B ob (.func (.func 55) #[] #[]) (.func (.func 74) #[] #[]) (.func (.func 75) #[] #[]) (.func (.func 76) #[] #[]) where
  good := fun {w0 w F M m vn vq vd} _ hm hi h => .mk1 fk0 rfl ((always_any h).mono fun e w' k => ⟨k.1, by rw [goodF_num (by decide)]; exact k.2⟩)
  put := fun {w0 w F W M s m vn vq vd} _ ok hop hm hg hi h => .mk2 fk8 rfl ((put6 (F := Blk B ob * F) ok hm (h.ac (by ac_rfl))).mono fun e w' k => ⟨k.1.ac (by ac_rfl), k.2⟩)
  take := fun {w0 w F R C at1 t1 m b pre post v ba wh} _ hm hk hg hb hp hat hbl hv h => .mk2 fk9 rfl (take6 (F := Blk B ob * F) hm hb hat hbl ((Ent.right _ _).trans hv) h)
  move := fun {w0 w F C M t1 f vn vq vd} hf hi h => .mk2 fk10 rfl ((move6 (F := Blk B ob * F)  (h.ac (by ac_rfl))).mono fun e w' k => ⟨k.1.ac (by ac_rfl), k.2⟩)
theorem fld12 {B : Nat} {ob : Obj} : FldOk 12 B ob (.func (.func 55) #[] #[]) (.func (.func 79) #[] #[]) (.func (.func 80) #[] #[]) (.func (.func 81) #[] #[]) where
  good := fun {w0 w F M m vn vq vd} _ hm hi h => .mk1 fk0 rfl ((always_any h).mono fun e w' k => ⟨k.1, by rw [goodF_num (by decide)]; exact k.2⟩)
  put := fun {w0 w F W M s m vn vq vd} _ ok hop hm hg hi h => .mk2 fk11 rfl ((put12 (F := Blk B ob * F) ok hm (h.ac (by ac_rfl))).mono fun e w' k => ⟨k.1.ac (by ac_rfl), k.2⟩)
  take := fun {w0 w F R C at1 t1 m b pre post v ba wh} _ hm hk hg hb hp hat hbl hv h => .mk2 fk12 rfl (take12 (F := Blk B ob * F) hm hb hat hbl ((Ent.right _ _).trans hv) h)
  move := fun {w0 w F C M t1 f vn vq vd} hf hi h => .mk2 fk13 rfl ((move12 (F := Blk B ob * F)  (h.ac (by ac_rfl))).mono fun e w' k => ⟨k.1.ac (by ac_rfl), k.2⟩)
theorem fld16 {B : Nat} {ob : Obj} : FldOk 16 B ob (.func (.func 55) #[] #[]) (.func (.func 84) #[] #[]) (.func (.func 86) #[] #[]) (.func (.func 88) #[] #[]) where
  good := fun {w0 w F M m vn vq vd} _ hm hi h => .mk1 fk0 rfl ((always_any h).mono fun e w' k => ⟨k.1, by rw [goodF_num (by decide)]; exact k.2⟩)
  put := fun {w0 w F W M s m vn vq vd} _ ok hop hm hg hi h => .mk2 fk14 rfl ((put16 (F := Blk B ob * F) ok hm (h.ac (by ac_rfl))).mono fun e w' k => ⟨k.1.ac (by ac_rfl), k.2⟩)
  take := fun {w0 w F R C at1 t1 m b pre post v ba wh} _ hm hk hg hb hp hat hbl hv h => .mk2 fk15 rfl (take16 (F := Blk B ob * F) hm hb hat hbl ((Ent.right _ _).trans hv) h)
  move := fun {w0 w F C M t1 f vn vq vd} hf hi h => .mk2 fk16 rfl ((move16 (F := Blk B ob * F)  (h.ac (by ac_rfl))).mono fun e w' k => ⟨k.1.ac (by ac_rfl), k.2⟩)
theorem fld18 {B : Nat} {ob : Obj} : FldOk 18 B ob (.func (.func 55) #[] #[]) (.func (.func 91) #[] #[]) (.func (.func 93) #[] #[]) (.func (.func 95) #[] #[]) where
  good := fun {w0 w F M m vn vq vd} _ hm hi h => .mk1 fk0 rfl ((always_any h).mono fun e w' k => ⟨k.1, by rw [goodF_num (by decide)]; exact k.2⟩)
  put := fun {w0 w F W M s m vn vq vd} _ ok hop hm hg hi h => .mk2 fk17 rfl ((put18 (F := Blk B ob * F) ok hm (hi.under (Ent.right _ _)) (h.ac (by ac_rfl))).mono fun e w' k => ⟨k.1.ac (by ac_rfl), k.2⟩)
  take := fun {w0 w F R C at1 t1 m b pre post v ba wh} _ hm hk hg hb hp hat hbl hv h => .mk2 fk18 rfl (take18 (F := Blk B ob * F) hm hb hat hbl ((Ent.right _ _).trans hv) h)
  move := fun {w0 w F C M t1 f vn vq vd} hf hi h => .mk2 fk19 rfl ((move18 (F := Blk B ob * F) hf (hi.under (Ent.right _ _)) (h.ac (by ac_rfl))).mono fun e w' k => ⟨k.1.ac (by ac_rfl), k.2⟩)
theorem fld11 {B : Nat} {ob : Obj} : FldOk 11 B ob (.func (.func 55) #[] #[]) (.func (.func 101) #[] #[]) (.func (.func 103) #[] #[]) (.func (.func 105) #[] #[]) where
  good := fun {w0 w F M m vn vq vd} _ hm hi h => .mk1 fk0 rfl ((always_any h).mono fun e w' k => ⟨k.1, by rw [goodF_num (by decide)]; exact k.2⟩)
  put := fun {w0 w F W M s m vn vq vd} _ ok hop hm hg hi h => .mk2 fk20 rfl ((put11 (F := Blk B ob * F) ok hm (h.ac (by ac_rfl))).mono fun e w' k => ⟨k.1.ac (by ac_rfl), k.2⟩)
  take := fun {w0 w F R C at1 t1 m b pre post v ba wh} _ hm hk hg hb hp hat hbl hv h => .mk2 fk21 rfl (take11 (F := Blk B ob * F) hm hb hat hbl ((Ent.right _ _).trans hv) h)
  move := fun {w0 w F C M t1 f vn vq vd} hf hi h => .mk2 fk22 rfl ((move11 (F := Blk B ob * F)  (h.ac (by ac_rfl))).mono fun e w' k => ⟨k.1.ac (by ac_rfl), k.2⟩)
theorem fld9 {B : Nat} {ob : Obj} : FldOk 9 B ob (.func (.func 130) #[] #[]) (.func (.func 133) #[] #[]) (.func (.func 135) #[] #[]) (.func (.func 137) #[] #[]) where
  good := fun {w0 w F M m vn vq vd} _ hm hi h => .mk1 fk23 rfl ((good9 (F := Blk B ob * F) hm (hi.under (Ent.right _ _)) (h.ac (by ac_rfl))).mono fun e w' k => ⟨k.1.ac (by ac_rfl), k.2⟩)
  put := fun {w0 w F W M s m vn vq vd} _ ok hop hm hg hi h => .mk2 fk24 rfl ((put9 (F := Blk B ob * F) ok hm hg (hi.under (Ent.right _ _)) (h.ac (by ac_rfl))).mono fun e w' k => ⟨k.1.ac (by ac_rfl), k.2⟩)
  take := fun {w0 w F R C at1 t1 m b pre post v ba wh} _ hm hk hg hb hp hat hbl hv h => .mk2 fk25 rfl (take9 (F := Blk B ob * F) hm hk hg hb hat hbl ((Ent.right _ _).trans hv) h)
  move := fun {w0 w F C M t1 f vn vq vd} hf hi h => .mk2 fk26 rfl ((move9 (F := Blk B ob * F) hf (hi.under (Ent.right _ _)) (h.ac (by ac_rfl))).mono fun e w' k => ⟨k.1.ac (by ac_rfl), k.2⟩)
theorem fld10 {B : Nat} {ob : Obj} : FldOk 10 B ob (.func (.func 143) #[] #[]) (.func (.func 144) #[] #[]) (.func (.func 147) #[] #[]) (.func (.func 150) #[] #[]) where
  good := fun {w0 w F M m vn vq vd} _ hm hi h => .mk1 fk27 rfl ((good10 (F := Blk B ob * F) hm (hi.under (Ent.right _ _)) (h.ac (by ac_rfl))).mono fun e w' k => ⟨k.1.ac (by ac_rfl), k.2⟩)
  put := fun {w0 w F W M s m vn vq vd} _ ok hop hm hg hi h => .mk2 fk28 rfl ((put10 (F := Blk B ob * F) ok hm hg (hi.under (Ent.right _ _)) (h.ac (by ac_rfl))).mono fun e w' k => ⟨k.1.ac (by ac_rfl), k.2⟩)
  take := fun {w0 w F R C at1 t1 m b pre post v ba wh} _ hm hk hg hb hp hat hbl hv h => .mk2 fk29 rfl (take10 (F := Blk B ob * F) hm hg hb hat hbl ((Ent.right _ _).trans hv) h)
  move := fun {w0 w F C M t1 f vn vq vd} hf hi h => .mk2 fk30 rfl ((move10 (F := Blk B ob * F) hf (hi.under (Ent.right _ _)) (h.ac (by ac_rfl))).mono fun e w' k => ⟨k.1.ac (by ac_rfl), k.2⟩)
theorem fld19 {B : Nat} {ob : Obj} : FldOk 19 B ob (.func (.func 156) #[] #[]) (.func (.func 157) #[] #[]) (.func (.func 159) #[] #[]) (.func (.func 161) #[] #[]) where
  good := fun {w0 w F M m vn vq vd} _ hm hi h => .mk1 fk31 rfl ((good19 (F := Blk B ob * F) hm (h.ac (by ac_rfl))).mono fun e w' k => ⟨k.1.ac (by ac_rfl), k.2⟩)
  put := fun {w0 w F W M s m vn vq vd} _ ok hop hm hg hi h => .mk2 fk32 rfl ((put19 (F := Blk B ob * F) ok hop hm (h.ac (by ac_rfl))).mono fun e w' k => ⟨k.1.ac (by ac_rfl), k.2⟩)
  take := fun {w0 w F R C at1 t1 m b pre post v ba wh} _ hm hk hg hb hp hat hbl hv h => .mk2 fk33 rfl (take19 (F := Blk B ob * F) hm hk hg (by rw [hb, hp rfl, List.append_nil]) hat hbl ((Ent.right _ _).trans hv) h)
  move := fun {w0 w F C M t1 f vn vq vd} hf hi h => .mk2 fk34 rfl ((move19 (F := Blk B ob * F)  (h.ac (by ac_rfl))).mono fun e w' k => ⟨k.1.ac (by ac_rfl), k.2⟩)
end Go.Proofs.YtmiohkmcnppaeaaGreatDoor

namespace Go.Proofs.YtmiohkmcnppaeaaGreatDoor
open Go
set_option linter.unusedVariables false
set_option linter.unusedSimpArgs false
set_option maxRecDepth 100000

/-- What fieldOf gives. -/
def FieldR (n : Nat) (F : HP) (w0 : World) (e : Ending) (w' : World) : Prop := ∃ (B : Nat) (ob : Obj) (nm g p t mv x y : Value), St w0 (Blk B ob * F) w' ∧ e = .returned (.agg #[nm, g, p, t, mv, x, y]) ∧ FldOk n B ob g p t mv ∧ ∀ z ∈ [nm, g, p, t, mv, x, y], isCell z = true
section
variable {w0 w : World} {F : HP}
abbrev numFV (s : ByteArray) (B : Nat) : List Value := [.string s, .func (.func 55) #[] #[], .func (.func 56) #[] #[.pointer (some ⟨B, 0, none⟩)], .func (.func 57) #[] #[.pointer (some ⟨B, 0, none⟩)], .func (.func 58) #[] #[.pointer (some ⟨B, 0, none⟩)], .func (.func 59) #[] #[.pointer (some ⟨B, 0, none⟩)], .func (.func 61) #[] #[.pointer (some ⟨B, 0, none⟩)]]

theorem numF_any {s : ByteArray} {f : Nat} (h : St w0 F w) : Calls Tryz.prog 33 #[.string s, .func (.func f) #[] #[]] w fun e w' => ∃ B, St w0 (Blk B (atN f) * F) w' ∧ e = .returned (.agg (numFV s B).toArray) := by
  refine F33.calls (by simp) ?_
  unfold F33.code
  simp -dsimp -implicitDefEqProofs (disch := omega) only [go_sem, reqD_of, dec_t, dec_f, wrap_i64, wrap_u32, wrap_u64, wrap_u8]
  refine h.new fun B w1 h1 => ?_
  simp -dsimp -implicitDefEqProofs (disch := omega) only [go_sem, reqD_of, dec_t, dec_f, wrap_i64, wrap_u32, wrap_u64, wrap_u8]
  refine h1.new fun T w2 h2 => ?_
  simp -dsimp -implicitDefEqProofs (disch := omega) only [go_sem, reqD_of, dec_t, dec_f, wrap_i64, wrap_u32, wrap_u64, wrap_u8]
  refine onV_of (v := .agg (numFV s B).toArray) (by kernel_rfl) ?_
  simp -dsimp -implicitDefEqProofs (disch := omega) only [go_sem, reqD_of, dec_t, dec_f, wrap_i64, wrap_u32, wrap_u64, wrap_u8]
  refine h2.stoAll (b := T) (n := 7) (cs := numFV s B) rfl rfl (fun y hy => by simp only [List.mem_cons, List.not_mem_nil, or_false] at hy; rcases hy with rfl | rfl | rfl | rfl | rfl | rfl | rfl <;> rfl) fun w3 h3 => ?_
  simp -dsimp -implicitDefEqProofs (disch := omega) only [go_sem, reqD_of, dec_t, dec_f, wrap_i64, wrap_u32, wrap_u64, wrap_u8]
  have hr : rowV w3 ⟨T, 0, none⟩ 7 = some (.agg (numFV s B).toArray) := h3.rowH T 7 rfl
  refine resC_1 (a := ⟨T, 0, none⟩) (by simp -dsimp -implicitDefEqProofs only [go_sem]) (run_loadVar_row fact_aggSz_71 hr) ?_
  exact ⟨B, h3.ent (Ent.right _ _), rfl⟩
abbrev txtFV (s : ByteArray) (B : Nat) : List Value := [.string s, .func (.func 63) #[] #[.pointer (some ⟨B, 0, none⟩)], .func (.func 65) #[] #[.pointer (some ⟨B, 0, none⟩)], .func (.func 67) #[] #[.pointer (some ⟨B, 0, none⟩)], .func (.func 69) #[] #[.pointer (some ⟨B, 0, none⟩)], .func (.func 70) #[] #[.pointer (some ⟨B, 0, none⟩)], .func (.func 72) #[] #[.pointer (some ⟨B, 0, none⟩)]]

theorem txtF_any {s : ByteArray} {f : Nat} (h : St w0 F w) : Calls Tryz.prog 41 #[.string s, .func (.func f) #[] #[]] w fun e w' => ∃ B, St w0 (Blk B (atT f) * F) w' ∧ e = .returned (.agg (txtFV s B).toArray) := by
  refine F41.calls (by simp) ?_
  unfold F41.code
  simp -dsimp -implicitDefEqProofs (disch := omega) only [go_sem, reqD_of, dec_t, dec_f, wrap_i64, wrap_u32, wrap_u64, wrap_u8]
  refine h.new fun B w1 h1 => ?_
  simp -dsimp -implicitDefEqProofs (disch := omega) only [go_sem, reqD_of, dec_t, dec_f, wrap_i64, wrap_u32, wrap_u64, wrap_u8]
  refine h1.new fun T w2 h2 => ?_
  simp -dsimp -implicitDefEqProofs (disch := omega) only [go_sem, reqD_of, dec_t, dec_f, wrap_i64, wrap_u32, wrap_u64, wrap_u8]
  refine onV_of (v := .agg (txtFV s B).toArray) (by kernel_rfl) ?_
  simp -dsimp -implicitDefEqProofs (disch := omega) only [go_sem, reqD_of, dec_t, dec_f, wrap_i64, wrap_u32, wrap_u64, wrap_u8]
  refine h2.stoAll (b := T) (n := 7) (cs := txtFV s B) rfl rfl (fun y hy => by simp only [List.mem_cons, List.not_mem_nil, or_false] at hy; rcases hy with rfl | rfl | rfl | rfl | rfl | rfl | rfl <;> rfl) fun w3 h3 => ?_
  simp -dsimp -implicitDefEqProofs (disch := omega) only [go_sem, reqD_of, dec_t, dec_f, wrap_i64, wrap_u32, wrap_u64, wrap_u8]
  have hr : rowV w3 ⟨T, 0, none⟩ 7 = some (.agg (txtFV s B).toArray) := h3.rowH T 7 rfl
  refine resC_1 (a := ⟨T, 0, none⟩) (by simp -dsimp -implicitDefEqProofs only [go_sem]) (run_loadVar_row fact_aggSz_71 hr) ?_
  exact ⟨B, h3.ent (Ent.right _ _), rfl⟩
section
attribute [local go_sem] F110.t6_eq
theorem list9_any (h : St w0 F w) : Calls Tryz.prog 110 #[.int .u8 9] w (FieldR 9 F w0) := by
  refine F110.calls (by simp) ?_
  unfold F110.code
  simp -dsimp -implicitDefEqProofs (disch := omega) only [go_sem, reqD_of, dec_t, dec_f, wrap_i64, wrap_u32, wrap_u64, wrap_u8]
  refine h.new fun T w1 h1 => ?_
  simp -dsimp -implicitDefEqProofs (disch := omega) only [go_sem, reqD_of, dec_t, dec_f, wrap_i64, wrap_u32, wrap_u64, wrap_u8]
  refine onV_of (v := .agg ([.string (strOf [110, 97, 109, 101, 115]), .func (.func 130) #[] #[], .func (.func 133) #[] #[], .func (.func 135) #[] #[], .func (.func 137) #[] #[], .func (.func 139) #[] #[], .func (.func 141) #[] #[]] : List Value).toArray) (by kernel_rfl) ?_
  simp -dsimp -implicitDefEqProofs (disch := omega) only [go_sem, reqD_of, dec_t, dec_f, wrap_i64, wrap_u32, wrap_u64, wrap_u8]
  refine h1.stoAll (b := T) (n := 7) (cs := [.string (strOf [110, 97, 109, 101, 115]), .func (.func 130) #[] #[], .func (.func 133) #[] #[], .func (.func 135) #[] #[], .func (.func 137) #[] #[], .func (.func 139) #[] #[], .func (.func 141) #[] #[]]) rfl rfl (fun y hy => by simp only [List.mem_cons, List.not_mem_nil, or_false] at hy; rcases hy with rfl | rfl | rfl | rfl | rfl | rfl | rfl <;> rfl) fun w2 h2 => ?_
  simp -dsimp -implicitDefEqProofs (disch := omega) only [go_sem, reqD_of, dec_t, dec_f, wrap_i64, wrap_u32, wrap_u64, wrap_u8]
  have hr : rowV w2 ⟨T, 0, none⟩ 7 = some (.agg ([.string (strOf [110, 97, 109, 101, 115]), .func (.func 130) #[] #[], .func (.func 133) #[] #[], .func (.func 135) #[] #[], .func (.func 137) #[] #[], .func (.func 139) #[] #[], .func (.func 141) #[] #[]] : List Value).toArray) := h2.rowH T 7 rfl
  refine resC_1 (a := ⟨T, 0, none⟩) (by simp -dsimp -implicitDefEqProofs only [go_sem]) (run_loadVar_row fact_aggSz_71 hr) ?_
  exact ⟨T, _, _, _, _, _, _, _, _, h2, rfl, fld9, (fun y hy => by simp only [List.mem_cons, List.not_mem_nil, or_false] at hy; rcases hy with rfl | rfl | rfl | rfl | rfl | rfl | rfl <;> rfl)⟩
theorem list10_any (h : St w0 F w) : Calls Tryz.prog 110 #[.int .u8 10] w (FieldR 10 F w0) := by
  refine F110.calls (by simp) ?_
  unfold F110.code
  simp -dsimp -implicitDefEqProofs (disch := omega) only [go_sem, reqD_of, dec_t, dec_f, wrap_i64, wrap_u32, wrap_u64, wrap_u8]
  refine h.new fun T w1 h1 => ?_
  simp -dsimp -implicitDefEqProofs (disch := omega) only [go_sem, reqD_of, dec_t, dec_f, wrap_i64, wrap_u32, wrap_u64, wrap_u8]
  refine onV_of (v := .agg ([.string (strOf [113, 105, 100, 115]), .func (.func 143) #[] #[], .func (.func 144) #[] #[], .func (.func 147) #[] #[], .func (.func 150) #[] #[], .func (.func 152) #[] #[], .func (.func 154) #[] #[]] : List Value).toArray) (by kernel_rfl) ?_
  simp -dsimp -implicitDefEqProofs (disch := omega) only [go_sem, reqD_of, dec_t, dec_f, wrap_i64, wrap_u32, wrap_u64, wrap_u8]
  refine h1.stoAll (b := T) (n := 7) (cs := [.string (strOf [113, 105, 100, 115]), .func (.func 143) #[] #[], .func (.func 144) #[] #[], .func (.func 147) #[] #[], .func (.func 150) #[] #[], .func (.func 152) #[] #[], .func (.func 154) #[] #[]]) rfl rfl (fun y hy => by simp only [List.mem_cons, List.not_mem_nil, or_false] at hy; rcases hy with rfl | rfl | rfl | rfl | rfl | rfl | rfl <;> rfl) fun w2 h2 => ?_
  simp -dsimp -implicitDefEqProofs (disch := omega) only [go_sem, reqD_of, dec_t, dec_f, wrap_i64, wrap_u32, wrap_u64, wrap_u8]
  have hr : rowV w2 ⟨T, 0, none⟩ 7 = some (.agg ([.string (strOf [113, 105, 100, 115]), .func (.func 143) #[] #[], .func (.func 144) #[] #[], .func (.func 147) #[] #[], .func (.func 150) #[] #[], .func (.func 152) #[] #[], .func (.func 154) #[] #[]] : List Value).toArray) := h2.rowH T 7 rfl
  refine resC_1 (a := ⟨T, 0, none⟩) (by simp -dsimp -implicitDefEqProofs only [go_sem]) (run_loadVar_row fact_aggSz_71 hr) ?_
  exact ⟨T, _, _, _, _, _, _, _, _, h2, rfl, fld10, (fun y hy => by simp only [List.mem_cons, List.not_mem_nil, or_false] at hy; rcases hy with rfl | rfl | rfl | rfl | rfl | rfl | rfl <;> rfl)⟩
theorem list19_any (h : St w0 F w) : Calls Tryz.prog 110 #[.int .u8 19] w (FieldR 19 F w0) := by
  refine F110.calls (by simp) ?_
  unfold F110.code
  simp -dsimp -implicitDefEqProofs (disch := omega) only [go_sem, reqD_of, dec_t, dec_f, wrap_i64, wrap_u32, wrap_u64, wrap_u8]
  refine h.new fun T w1 h1 => ?_
  simp -dsimp -implicitDefEqProofs (disch := omega) only [go_sem, reqD_of, dec_t, dec_f, wrap_i64, wrap_u32, wrap_u64, wrap_u8]
  refine onV_of (v := .agg ([.string (strOf [115, 116, 97, 116]), .func (.func 156) #[] #[], .func (.func 157) #[] #[], .func (.func 159) #[] #[], .func (.func 161) #[] #[], .func (.func 162) #[] #[], .func (.func 164) #[] #[]] : List Value).toArray) (by kernel_rfl) ?_
  simp -dsimp -implicitDefEqProofs (disch := omega) only [go_sem, reqD_of, dec_t, dec_f, wrap_i64, wrap_u32, wrap_u64, wrap_u8]
  refine h1.stoAll (b := T) (n := 7) (cs := [.string (strOf [115, 116, 97, 116]), .func (.func 156) #[] #[], .func (.func 157) #[] #[], .func (.func 159) #[] #[], .func (.func 161) #[] #[], .func (.func 162) #[] #[], .func (.func 164) #[] #[]]) rfl rfl (fun y hy => by simp only [List.mem_cons, List.not_mem_nil, or_false] at hy; rcases hy with rfl | rfl | rfl | rfl | rfl | rfl | rfl <;> rfl) fun w2 h2 => ?_
  simp -dsimp -implicitDefEqProofs (disch := omega) only [go_sem, reqD_of, dec_t, dec_f, wrap_i64, wrap_u32, wrap_u64, wrap_u8]
  have hr : rowV w2 ⟨T, 0, none⟩ 7 = some (.agg ([.string (strOf [115, 116, 97, 116]), .func (.func 156) #[] #[], .func (.func 157) #[] #[], .func (.func 159) #[] #[], .func (.func 161) #[] #[], .func (.func 162) #[] #[], .func (.func 164) #[] #[]] : List Value).toArray) := h2.rowH T 7 rfl
  refine resC_1 (a := ⟨T, 0, none⟩) (by simp -dsimp -implicitDefEqProofs only [go_sem]) (run_loadVar_row fact_aggSz_71 hr) ?_
  exact ⟨T, _, _, _, _, _, _, _, _, h2, rfl, fld19, (fun y hy => by simp only [List.mem_cons, List.not_mem_nil, or_false] at hy; rcases hy with rfl | rfl | rfl | rfl | rfl | rfl | rfl <;> rfl)⟩
end
section
attribute [local go_sem] F47.t12_eq
theorem othe6_any (h : St w0 F w) : Calls Tryz.prog 47 #[.int .u8 6] w (FieldR 6 F w0) := by
  refine F47.calls (by simp) ?_
  unfold F47.code
  simp -dsimp -implicitDefEqProofs (disch := omega) only [go_sem, reqD_of, dec_t, dec_f, wrap_i64, wrap_u32, wrap_u64, wrap_u8]
  refine h.new fun T w1 h1 => ?_
  simp -dsimp -implicitDefEqProofs (disch := omega) only [go_sem, reqD_of, dec_t, dec_f, wrap_i64, wrap_u32, wrap_u64, wrap_u8]
  refine onV_of (v := .agg ([.string (strOf [111, 108, 100, 116, 97, 103]), .func (.func 55) #[] #[], .func (.func 74) #[] #[], .func (.func 75) #[] #[], .func (.func 76) #[] #[], .func (.func 77) #[] #[], .func (.func 78) #[] #[]] : List Value).toArray) (by kernel_rfl) ?_
  simp -dsimp -implicitDefEqProofs (disch := omega) only [go_sem, reqD_of, dec_t, dec_f, wrap_i64, wrap_u32, wrap_u64, wrap_u8]
  refine h1.stoAll (b := T) (n := 7) (cs := [.string (strOf [111, 108, 100, 116, 97, 103]), .func (.func 55) #[] #[], .func (.func 74) #[] #[], .func (.func 75) #[] #[], .func (.func 76) #[] #[], .func (.func 77) #[] #[], .func (.func 78) #[] #[]]) rfl rfl (fun y hy => by simp only [List.mem_cons, List.not_mem_nil, or_false] at hy; rcases hy with rfl | rfl | rfl | rfl | rfl | rfl | rfl <;> rfl) fun w2 h2 => ?_
  simp -dsimp -implicitDefEqProofs (disch := omega) only [go_sem, reqD_of, dec_t, dec_f, wrap_i64, wrap_u32, wrap_u64, wrap_u8]
  have hr : rowV w2 ⟨T, 0, none⟩ 7 = some (.agg ([.string (strOf [111, 108, 100, 116, 97, 103]), .func (.func 55) #[] #[], .func (.func 74) #[] #[], .func (.func 75) #[] #[], .func (.func 76) #[] #[], .func (.func 77) #[] #[], .func (.func 78) #[] #[]] : List Value).toArray) := h2.rowH T 7 rfl
  refine resC_1 (a := ⟨T, 0, none⟩) (by simp -dsimp -implicitDefEqProofs only [go_sem]) (run_loadVar_row fact_aggSz_71 hr) ?_
  exact ⟨T, _, _, _, _, _, _, _, _, h2, rfl, fld6, (fun y hy => by simp only [List.mem_cons, List.not_mem_nil, or_false] at hy; rcases hy with rfl | rfl | rfl | rfl | rfl | rfl | rfl <;> rfl)⟩
theorem othe12_any (h : St w0 F w) : Calls Tryz.prog 47 #[.int .u8 12] w (FieldR 12 F w0) := by
  refine F47.calls (by simp) ?_
  unfold F47.code
  simp -dsimp -implicitDefEqProofs (disch := omega) only [go_sem, reqD_of, dec_t, dec_f, wrap_i64, wrap_u32, wrap_u64, wrap_u8]
  refine h.new fun T w1 h1 => ?_
  simp -dsimp -implicitDefEqProofs (disch := omega) only [go_sem, reqD_of, dec_t, dec_f, wrap_i64, wrap_u32, wrap_u64, wrap_u8]
  refine onV_of (v := .agg ([.string (strOf [109, 111, 100, 101]), .func (.func 55) #[] #[], .func (.func 79) #[] #[], .func (.func 80) #[] #[], .func (.func 81) #[] #[], .func (.func 82) #[] #[], .func (.func 83) #[] #[]] : List Value).toArray) (by kernel_rfl) ?_
  simp -dsimp -implicitDefEqProofs (disch := omega) only [go_sem, reqD_of, dec_t, dec_f, wrap_i64, wrap_u32, wrap_u64, wrap_u8]
  refine h1.stoAll (b := T) (n := 7) (cs := [.string (strOf [109, 111, 100, 101]), .func (.func 55) #[] #[], .func (.func 79) #[] #[], .func (.func 80) #[] #[], .func (.func 81) #[] #[], .func (.func 82) #[] #[], .func (.func 83) #[] #[]]) rfl rfl (fun y hy => by simp only [List.mem_cons, List.not_mem_nil, or_false] at hy; rcases hy with rfl | rfl | rfl | rfl | rfl | rfl | rfl <;> rfl) fun w2 h2 => ?_
  simp -dsimp -implicitDefEqProofs (disch := omega) only [go_sem, reqD_of, dec_t, dec_f, wrap_i64, wrap_u32, wrap_u64, wrap_u8]
  have hr : rowV w2 ⟨T, 0, none⟩ 7 = some (.agg ([.string (strOf [109, 111, 100, 101]), .func (.func 55) #[] #[], .func (.func 79) #[] #[], .func (.func 80) #[] #[], .func (.func 81) #[] #[], .func (.func 82) #[] #[], .func (.func 83) #[] #[]] : List Value).toArray) := h2.rowH T 7 rfl
  refine resC_1 (a := ⟨T, 0, none⟩) (by simp -dsimp -implicitDefEqProofs only [go_sem]) (run_loadVar_row fact_aggSz_71 hr) ?_
  exact ⟨T, _, _, _, _, _, _, _, _, h2, rfl, fld12, (fun y hy => by simp only [List.mem_cons, List.not_mem_nil, or_false] at hy; rcases hy with rfl | rfl | rfl | rfl | rfl | rfl | rfl <;> rfl)⟩
theorem othe16_any (h : St w0 F w) : Calls Tryz.prog 47 #[.int .u8 16] w (FieldR 16 F w0) := by
  refine F47.calls (by simp) ?_
  unfold F47.code
  simp -dsimp -implicitDefEqProofs (disch := omega) only [go_sem, reqD_of, dec_t, dec_f, wrap_i64, wrap_u32, wrap_u64, wrap_u8]
  refine h.new fun T w1 h1 => ?_
  simp -dsimp -implicitDefEqProofs (disch := omega) only [go_sem, reqD_of, dec_t, dec_f, wrap_i64, wrap_u32, wrap_u64, wrap_u8]
  refine onV_of (v := .agg ([.string (strOf [111, 102, 102, 115, 101, 116]), .func (.func 55) #[] #[], .func (.func 84) #[] #[], .func (.func 86) #[] #[], .func (.func 88) #[] #[], .func (.func 89) #[] #[], .func (.func 90) #[] #[]] : List Value).toArray) (by kernel_rfl) ?_
  simp -dsimp -implicitDefEqProofs (disch := omega) only [go_sem, reqD_of, dec_t, dec_f, wrap_i64, wrap_u32, wrap_u64, wrap_u8]
  refine h1.stoAll (b := T) (n := 7) (cs := [.string (strOf [111, 102, 102, 115, 101, 116]), .func (.func 55) #[] #[], .func (.func 84) #[] #[], .func (.func 86) #[] #[], .func (.func 88) #[] #[], .func (.func 89) #[] #[], .func (.func 90) #[] #[]]) rfl rfl (fun y hy => by simp only [List.mem_cons, List.not_mem_nil, or_false] at hy; rcases hy with rfl | rfl | rfl | rfl | rfl | rfl | rfl <;> rfl) fun w2 h2 => ?_
  simp -dsimp -implicitDefEqProofs (disch := omega) only [go_sem, reqD_of, dec_t, dec_f, wrap_i64, wrap_u32, wrap_u64, wrap_u8]
  have hr : rowV w2 ⟨T, 0, none⟩ 7 = some (.agg ([.string (strOf [111, 102, 102, 115, 101, 116]), .func (.func 55) #[] #[], .func (.func 84) #[] #[], .func (.func 86) #[] #[], .func (.func 88) #[] #[], .func (.func 89) #[] #[], .func (.func 90) #[] #[]] : List Value).toArray) := h2.rowH T 7 rfl
  refine resC_1 (a := ⟨T, 0, none⟩) (by simp -dsimp -implicitDefEqProofs only [go_sem]) (run_loadVar_row fact_aggSz_71 hr) ?_
  exact ⟨T, _, _, _, _, _, _, _, _, h2, rfl, fld16, (fun y hy => by simp only [List.mem_cons, List.not_mem_nil, or_false] at hy; rcases hy with rfl | rfl | rfl | rfl | rfl | rfl | rfl <;> rfl)⟩
theorem othe18_any (h : St w0 F w) : Calls Tryz.prog 47 #[.int .u8 18] w (FieldR 18 F w0) := by
  refine F47.calls (by simp) ?_
  unfold F47.code
  simp -dsimp -implicitDefEqProofs (disch := omega) only [go_sem, reqD_of, dec_t, dec_f, wrap_i64, wrap_u32, wrap_u64, wrap_u8]
  refine h.new fun T w1 h1 => ?_
  simp -dsimp -implicitDefEqProofs (disch := omega) only [go_sem, reqD_of, dec_t, dec_f, wrap_i64, wrap_u32, wrap_u64, wrap_u8]
  refine onV_of (v := .agg ([.string (strOf [100, 97, 116, 97]), .func (.func 55) #[] #[], .func (.func 91) #[] #[], .func (.func 93) #[] #[], .func (.func 95) #[] #[], .func (.func 97) #[] #[], .func (.func 99) #[] #[]] : List Value).toArray) (by kernel_rfl) ?_
  simp -dsimp -implicitDefEqProofs (disch := omega) only [go_sem, reqD_of, dec_t, dec_f, wrap_i64, wrap_u32, wrap_u64, wrap_u8]
  refine h1.stoAll (b := T) (n := 7) (cs := [.string (strOf [100, 97, 116, 97]), .func (.func 55) #[] #[], .func (.func 91) #[] #[], .func (.func 93) #[] #[], .func (.func 95) #[] #[], .func (.func 97) #[] #[], .func (.func 99) #[] #[]]) rfl rfl (fun y hy => by simp only [List.mem_cons, List.not_mem_nil, or_false] at hy; rcases hy with rfl | rfl | rfl | rfl | rfl | rfl | rfl <;> rfl) fun w2 h2 => ?_
  simp -dsimp -implicitDefEqProofs (disch := omega) only [go_sem, reqD_of, dec_t, dec_f, wrap_i64, wrap_u32, wrap_u64, wrap_u8]
  have hr : rowV w2 ⟨T, 0, none⟩ 7 = some (.agg ([.string (strOf [100, 97, 116, 97]), .func (.func 55) #[] #[], .func (.func 91) #[] #[], .func (.func 93) #[] #[], .func (.func 95) #[] #[], .func (.func 97) #[] #[], .func (.func 99) #[] #[]] : List Value).toArray) := h2.rowH T 7 rfl
  refine resC_1 (a := ⟨T, 0, none⟩) (by simp -dsimp -implicitDefEqProofs only [go_sem]) (run_loadVar_row fact_aggSz_71 hr) ?_
  exact ⟨T, _, _, _, _, _, _, _, _, h2, rfl, fld18, (fun y hy => by simp only [List.mem_cons, List.not_mem_nil, or_false] at hy; rcases hy with rfl | rfl | rfl | rfl | rfl | rfl | rfl <;> rfl)⟩
theorem othe11_any (h : St w0 F w) : Calls Tryz.prog 47 #[.int .u8 11] w (FieldR 11 F w0) := by
  refine F47.calls (by simp) ?_
  unfold F47.code
  simp -dsimp -implicitDefEqProofs (disch := omega) only [go_sem, reqD_of, dec_t, dec_f, wrap_i64, wrap_u32, wrap_u64, wrap_u8]
  refine h.new fun T w1 h1 => ?_
  simp -dsimp -implicitDefEqProofs (disch := omega) only [go_sem, reqD_of, dec_t, dec_f, wrap_i64, wrap_u32, wrap_u64, wrap_u8]
  refine onV_of (v := .agg ([.string (strOf [113, 105, 100]), .func (.func 55) #[] #[], .func (.func 101) #[] #[], .func (.func 103) #[] #[], .func (.func 105) #[] #[], .func (.func 106) #[] #[], .func (.func 108) #[] #[]] : List Value).toArray) (by kernel_rfl) ?_
  simp -dsimp -implicitDefEqProofs (disch := omega) only [go_sem, reqD_of, dec_t, dec_f, wrap_i64, wrap_u32, wrap_u64, wrap_u8]
  refine h1.stoAll (b := T) (n := 7) (cs := [.string (strOf [113, 105, 100]), .func (.func 55) #[] #[], .func (.func 101) #[] #[], .func (.func 103) #[] #[], .func (.func 105) #[] #[], .func (.func 106) #[] #[], .func (.func 108) #[] #[]]) rfl rfl (fun y hy => by simp only [List.mem_cons, List.not_mem_nil, or_false] at hy; rcases hy with rfl | rfl | rfl | rfl | rfl | rfl | rfl <;> rfl) fun w2 h2 => ?_
  simp -dsimp -implicitDefEqProofs (disch := omega) only [go_sem, reqD_of, dec_t, dec_f, wrap_i64, wrap_u32, wrap_u64, wrap_u8]
  have hr : rowV w2 ⟨T, 0, none⟩ 7 = some (.agg ([.string (strOf [113, 105, 100]), .func (.func 55) #[] #[], .func (.func 101) #[] #[], .func (.func 103) #[] #[], .func (.func 105) #[] #[], .func (.func 106) #[] #[], .func (.func 108) #[] #[]] : List Value).toArray) := h2.rowH T 7 rfl
  refine resC_1 (a := ⟨T, 0, none⟩) (by simp -dsimp -implicitDefEqProofs only [go_sem]) (run_loadVar_row fact_aggSz_71 hr) ?_
  exact ⟨T, _, _, _, _, _, _, _, _, h2, rfl, fld11, (fun y hy => by simp only [List.mem_cons, List.not_mem_nil, or_false] at hy; rcases hy with rfl | rfl | rfl | rfl | rfl | rfl | rfl <;> rfl)⟩
theorem othe9_any (h : St w0 F w) : Calls Tryz.prog 47 #[.int .u8 9] w (FieldR 9 F w0) := by
  refine F47.calls (by simp) ?_
  unfold F47.code
  simp -dsimp -implicitDefEqProofs (disch := omega) only [go_sem, reqD_of, dec_t, dec_f, wrap_i64, wrap_u32, wrap_u64, wrap_u8]
  refine h.new fun T w1 h1 => ?_
  simp -dsimp -implicitDefEqProofs (disch := omega) only [go_sem, reqD_of, dec_t, dec_f, wrap_i64, wrap_u32, wrap_u64, wrap_u8]
  refine (list9_any h1).mono ?_
  rintro e w2 ⟨B, ob, nm, g, p, t, mv, x, y, h2, rfl, hf, hc⟩
  simp -dsimp -implicitDefEqProofs (disch := omega) only [go_sem, reqD_of, dec_t, dec_f, wrap_i64, wrap_u32, wrap_u64, wrap_u8]
  refine h2.stoAll (b := T) (n := 7) (cs := [nm, g, p, t, mv, x, y]) rfl rfl hc fun w3 h3 => ?_
  simp -dsimp -implicitDefEqProofs (disch := omega) only [go_sem, reqD_of, dec_t, dec_f, wrap_i64, wrap_u32, wrap_u64, wrap_u8]
  have hr : rowV w3 ⟨T, 0, none⟩ 7 = some (.agg ([nm, g, p, t, mv, x, y] : List Value).toArray) := h3.rowH T 7 rfl
  refine resC_1 (a := ⟨T, 0, none⟩) (by simp -dsimp -implicitDefEqProofs only [go_sem]) (run_loadVar_row fact_aggSz_71 hr) ?_
  exact ⟨B, ob, nm, g, p, t, mv, x, y, h3.ent (Ent.sep (Ent.rfl' _) (Ent.right _ _)), rfl, hf, hc⟩
theorem othe10_any (h : St w0 F w) : Calls Tryz.prog 47 #[.int .u8 10] w (FieldR 10 F w0) := by
  refine F47.calls (by simp) ?_
  unfold F47.code
  simp -dsimp -implicitDefEqProofs (disch := omega) only [go_sem, reqD_of, dec_t, dec_f, wrap_i64, wrap_u32, wrap_u64, wrap_u8]
  refine h.new fun T w1 h1 => ?_
  simp -dsimp -implicitDefEqProofs (disch := omega) only [go_sem, reqD_of, dec_t, dec_f, wrap_i64, wrap_u32, wrap_u64, wrap_u8]
  refine (list10_any h1).mono ?_
  rintro e w2 ⟨B, ob, nm, g, p, t, mv, x, y, h2, rfl, hf, hc⟩
  simp -dsimp -implicitDefEqProofs (disch := omega) only [go_sem, reqD_of, dec_t, dec_f, wrap_i64, wrap_u32, wrap_u64, wrap_u8]
  refine h2.stoAll (b := T) (n := 7) (cs := [nm, g, p, t, mv, x, y]) rfl rfl hc fun w3 h3 => ?_
  simp -dsimp -implicitDefEqProofs (disch := omega) only [go_sem, reqD_of, dec_t, dec_f, wrap_i64, wrap_u32, wrap_u64, wrap_u8]
  have hr : rowV w3 ⟨T, 0, none⟩ 7 = some (.agg ([nm, g, p, t, mv, x, y] : List Value).toArray) := h3.rowH T 7 rfl
  refine resC_1 (a := ⟨T, 0, none⟩) (by simp -dsimp -implicitDefEqProofs only [go_sem]) (run_loadVar_row fact_aggSz_71 hr) ?_
  exact ⟨B, ob, nm, g, p, t, mv, x, y, h3.ent (Ent.sep (Ent.rfl' _) (Ent.right _ _)), rfl, hf, hc⟩
theorem othe19_any (h : St w0 F w) : Calls Tryz.prog 47 #[.int .u8 19] w (FieldR 19 F w0) := by
  refine F47.calls (by simp) ?_
  unfold F47.code
  simp -dsimp -implicitDefEqProofs (disch := omega) only [go_sem, reqD_of, dec_t, dec_f, wrap_i64, wrap_u32, wrap_u64, wrap_u8]
  refine h.new fun T w1 h1 => ?_
  simp -dsimp -implicitDefEqProofs (disch := omega) only [go_sem, reqD_of, dec_t, dec_f, wrap_i64, wrap_u32, wrap_u64, wrap_u8]
  refine (list19_any h1).mono ?_
  rintro e w2 ⟨B, ob, nm, g, p, t, mv, x, y, h2, rfl, hf, hc⟩
  simp -dsimp -implicitDefEqProofs (disch := omega) only [go_sem, reqD_of, dec_t, dec_f, wrap_i64, wrap_u32, wrap_u64, wrap_u8]
  refine h2.stoAll (b := T) (n := 7) (cs := [nm, g, p, t, mv, x, y]) rfl rfl hc fun w3 h3 => ?_
  simp -dsimp -implicitDefEqProofs (disch := omega) only [go_sem, reqD_of, dec_t, dec_f, wrap_i64, wrap_u32, wrap_u64, wrap_u8]
  have hr : rowV w3 ⟨T, 0, none⟩ 7 = some (.agg ([nm, g, p, t, mv, x, y] : List Value).toArray) := h3.rowH T 7 rfl
  refine resC_1 (a := ⟨T, 0, none⟩) (by simp -dsimp -implicitDefEqProofs only [go_sem]) (run_loadVar_row fact_aggSz_71 hr) ?_
  exact ⟨B, ob, nm, g, p, t, mv, x, y, h3.ent (Ent.sep (Ent.rfl' _) (Ent.right _ _)), rfl, hf, hc⟩
end
section
attribute [local go_sem] F18.t26_eq
theorem fiel0_any (h : St w0 F w) : Calls Tryz.prog 18 #[.int .u8 0] w (FieldR 0 F w0) := by
  refine F18.calls (by simp) ?_
  unfold F18.code
  simp -dsimp -implicitDefEqProofs (disch := omega) only [go_sem, reqD_of, dec_t, dec_f, wrap_i64, wrap_u32, wrap_u64, wrap_u8]
  refine h.new fun T w1 h1 => ?_
  simp -dsimp -implicitDefEqProofs (disch := omega) only [go_sem, reqD_of, dec_t, dec_f, wrap_i64, wrap_u32, wrap_u64, wrap_u8]
  refine (numF_any (s := (strOf [109, 115, 105, 122, 101])) (f := 34) h1).mono ?_
  rintro e w2 ⟨B, h2, rfl⟩
  simp -dsimp -implicitDefEqProofs (disch := omega) only [go_sem, reqD_of, dec_t, dec_f, wrap_i64, wrap_u32, wrap_u64, wrap_u8]
  refine h2.stoAll (b := T) (n := 7) (cs := (numFV (strOf [109, 115, 105, 122, 101]) B)) rfl rfl (fun y hy => by simp only [List.mem_cons, List.not_mem_nil, or_false] at hy; rcases hy with rfl | rfl | rfl | rfl | rfl | rfl | rfl <;> rfl) fun w3 h3 => ?_
  simp -dsimp -implicitDefEqProofs (disch := omega) only [go_sem, reqD_of, dec_t, dec_f, wrap_i64, wrap_u32, wrap_u64, wrap_u8]
  have hr : rowV w3 ⟨T, 0, none⟩ 7 = some (.agg ((numFV (strOf [109, 115, 105, 122, 101]) B) : List Value).toArray) := h3.rowH T 7 rfl
  refine resC_1 (a := ⟨T, 0, none⟩) (by simp -dsimp -implicitDefEqProofs only [go_sem]) (run_loadVar_row fact_aggSz_71 hr) ?_
  exact ⟨B, _, _, _, _, _, _, _, _, h3.ent (Ent.sep (Ent.rfl' _) (Ent.right _ _)), rfl, fld0, (fun y hy => by simp only [List.mem_cons, List.not_mem_nil, or_false] at hy; rcases hy with rfl | rfl | rfl | rfl | rfl | rfl | rfl <;> rfl)⟩
theorem fiel2_any (h : St w0 F w) : Calls Tryz.prog 18 #[.int .u8 2] w (FieldR 2 F w0) := by
  refine F18.calls (by simp) ?_
  unfold F18.code
  simp -dsimp -implicitDefEqProofs (disch := omega) only [go_sem, reqD_of, dec_t, dec_f, wrap_i64, wrap_u32, wrap_u64, wrap_u8]
  refine h.new fun T w1 h1 => ?_
  simp -dsimp -implicitDefEqProofs (disch := omega) only [go_sem, reqD_of, dec_t, dec_f, wrap_i64, wrap_u32, wrap_u64, wrap_u8]
  refine (numF_any (s := (strOf [97, 102, 105, 100])) (f := 35) h1).mono ?_
  rintro e w2 ⟨B, h2, rfl⟩
  simp -dsimp -implicitDefEqProofs (disch := omega) only [go_sem, reqD_of, dec_t, dec_f, wrap_i64, wrap_u32, wrap_u64, wrap_u8]
  refine h2.stoAll (b := T) (n := 7) (cs := (numFV (strOf [97, 102, 105, 100]) B)) rfl rfl (fun y hy => by simp only [List.mem_cons, List.not_mem_nil, or_false] at hy; rcases hy with rfl | rfl | rfl | rfl | rfl | rfl | rfl <;> rfl) fun w3 h3 => ?_
  simp -dsimp -implicitDefEqProofs (disch := omega) only [go_sem, reqD_of, dec_t, dec_f, wrap_i64, wrap_u32, wrap_u64, wrap_u8]
  have hr : rowV w3 ⟨T, 0, none⟩ 7 = some (.agg ((numFV (strOf [97, 102, 105, 100]) B) : List Value).toArray) := h3.rowH T 7 rfl
  refine resC_1 (a := ⟨T, 0, none⟩) (by simp -dsimp -implicitDefEqProofs only [go_sem]) (run_loadVar_row fact_aggSz_71 hr) ?_
  exact ⟨B, _, _, _, _, _, _, _, _, h3.ent (Ent.sep (Ent.rfl' _) (Ent.right _ _)), rfl, fld2, (fun y hy => by simp only [List.mem_cons, List.not_mem_nil, or_false] at hy; rcases hy with rfl | rfl | rfl | rfl | rfl | rfl | rfl <;> rfl)⟩
theorem fiel7_any (h : St w0 F w) : Calls Tryz.prog 18 #[.int .u8 7] w (FieldR 7 F w0) := by
  refine F18.calls (by simp) ?_
  unfold F18.code
  simp -dsimp -implicitDefEqProofs (disch := omega) only [go_sem, reqD_of, dec_t, dec_f, wrap_i64, wrap_u32, wrap_u64, wrap_u8]
  refine h.new fun T w1 h1 => ?_
  simp -dsimp -implicitDefEqProofs (disch := omega) only [go_sem, reqD_of, dec_t, dec_f, wrap_i64, wrap_u32, wrap_u64, wrap_u8]
  refine (numF_any (s := (strOf [102, 105, 100])) (f := 36) h1).mono ?_
  rintro e w2 ⟨B, h2, rfl⟩
  simp -dsimp -implicitDefEqProofs (disch := omega) only [go_sem, reqD_of, dec_t, dec_f, wrap_i64, wrap_u32, wrap_u64, wrap_u8]
  refine h2.stoAll (b := T) (n := 7) (cs := (numFV (strOf [102, 105, 100]) B)) rfl rfl (fun y hy => by simp only [List.mem_cons, List.not_mem_nil, or_false] at hy; rcases hy with rfl | rfl | rfl | rfl | rfl | rfl | rfl <;> rfl) fun w3 h3 => ?_
  simp -dsimp -implicitDefEqProofs (disch := omega) only [go_sem, reqD_of, dec_t, dec_f, wrap_i64, wrap_u32, wrap_u64, wrap_u8]
  have hr : rowV w3 ⟨T, 0, none⟩ 7 = some (.agg ((numFV (strOf [102, 105, 100]) B) : List Value).toArray) := h3.rowH T 7 rfl
  refine resC_1 (a := ⟨T, 0, none⟩) (by simp -dsimp -implicitDefEqProofs only [go_sem]) (run_loadVar_row fact_aggSz_71 hr) ?_
  exact ⟨B, _, _, _, _, _, _, _, _, h3.ent (Ent.sep (Ent.rfl' _) (Ent.right _ _)), rfl, fld7, (fun y hy => by simp only [List.mem_cons, List.not_mem_nil, or_false] at hy; rcases hy with rfl | rfl | rfl | rfl | rfl | rfl | rfl <;> rfl)⟩
theorem fiel8_any (h : St w0 F w) : Calls Tryz.prog 18 #[.int .u8 8] w (FieldR 8 F w0) := by
  refine F18.calls (by simp) ?_
  unfold F18.code
  simp -dsimp -implicitDefEqProofs (disch := omega) only [go_sem, reqD_of, dec_t, dec_f, wrap_i64, wrap_u32, wrap_u64, wrap_u8]
  refine h.new fun T w1 h1 => ?_
  simp -dsimp -implicitDefEqProofs (disch := omega) only [go_sem, reqD_of, dec_t, dec_f, wrap_i64, wrap_u32, wrap_u64, wrap_u8]
  refine (numF_any (s := (strOf [110, 101, 119, 102, 105, 100])) (f := 37) h1).mono ?_
  rintro e w2 ⟨B, h2, rfl⟩
  simp -dsimp -implicitDefEqProofs (disch := omega) only [go_sem, reqD_of, dec_t, dec_f, wrap_i64, wrap_u32, wrap_u64, wrap_u8]
  refine h2.stoAll (b := T) (n := 7) (cs := (numFV (strOf [110, 101, 119, 102, 105, 100]) B)) rfl rfl (fun y hy => by simp only [List.mem_cons, List.not_mem_nil, or_false] at hy; rcases hy with rfl | rfl | rfl | rfl | rfl | rfl | rfl <;> rfl) fun w3 h3 => ?_
  simp -dsimp -implicitDefEqProofs (disch := omega) only [go_sem, reqD_of, dec_t, dec_f, wrap_i64, wrap_u32, wrap_u64, wrap_u8]
  have hr : rowV w3 ⟨T, 0, none⟩ 7 = some (.agg ((numFV (strOf [110, 101, 119, 102, 105, 100]) B) : List Value).toArray) := h3.rowH T 7 rfl
  refine resC_1 (a := ⟨T, 0, none⟩) (by simp -dsimp -implicitDefEqProofs only [go_sem]) (run_loadVar_row fact_aggSz_71 hr) ?_
  exact ⟨B, _, _, _, _, _, _, _, _, h3.ent (Ent.sep (Ent.rfl' _) (Ent.right _ _)), rfl, fld8, (fun y hy => by simp only [List.mem_cons, List.not_mem_nil, or_false] at hy; rcases hy with rfl | rfl | rfl | rfl | rfl | rfl | rfl <;> rfl)⟩
theorem fiel13_any (h : St w0 F w) : Calls Tryz.prog 18 #[.int .u8 13] w (FieldR 13 F w0) := by
  refine F18.calls (by simp) ?_
  unfold F18.code
  simp -dsimp -implicitDefEqProofs (disch := omega) only [go_sem, reqD_of, dec_t, dec_f, wrap_i64, wrap_u32, wrap_u64, wrap_u8]
  refine h.new fun T w1 h1 => ?_
  simp -dsimp -implicitDefEqProofs (disch := omega) only [go_sem, reqD_of, dec_t, dec_f, wrap_i64, wrap_u32, wrap_u64, wrap_u8]
  refine (numF_any (s := (strOf [105, 111, 117, 110, 105, 116])) (f := 38) h1).mono ?_
  rintro e w2 ⟨B, h2, rfl⟩
  simp -dsimp -implicitDefEqProofs (disch := omega) only [go_sem, reqD_of, dec_t, dec_f, wrap_i64, wrap_u32, wrap_u64, wrap_u8]
  refine h2.stoAll (b := T) (n := 7) (cs := (numFV (strOf [105, 111, 117, 110, 105, 116]) B)) rfl rfl (fun y hy => by simp only [List.mem_cons, List.not_mem_nil, or_false] at hy; rcases hy with rfl | rfl | rfl | rfl | rfl | rfl | rfl <;> rfl) fun w3 h3 => ?_
  simp -dsimp -implicitDefEqProofs (disch := omega) only [go_sem, reqD_of, dec_t, dec_f, wrap_i64, wrap_u32, wrap_u64, wrap_u8]
  have hr : rowV w3 ⟨T, 0, none⟩ 7 = some (.agg ((numFV (strOf [105, 111, 117, 110, 105, 116]) B) : List Value).toArray) := h3.rowH T 7 rfl
  refine resC_1 (a := ⟨T, 0, none⟩) (by simp -dsimp -implicitDefEqProofs only [go_sem]) (run_loadVar_row fact_aggSz_71 hr) ?_
  exact ⟨B, _, _, _, _, _, _, _, _, h3.ent (Ent.sep (Ent.rfl' _) (Ent.right _ _)), rfl, fld13, (fun y hy => by simp only [List.mem_cons, List.not_mem_nil, or_false] at hy; rcases hy with rfl | rfl | rfl | rfl | rfl | rfl | rfl <;> rfl)⟩
theorem fiel15_any (h : St w0 F w) : Calls Tryz.prog 18 #[.int .u8 15] w (FieldR 15 F w0) := by
  refine F18.calls (by simp) ?_
  unfold F18.code
  simp -dsimp -implicitDefEqProofs (disch := omega) only [go_sem, reqD_of, dec_t, dec_f, wrap_i64, wrap_u32, wrap_u64, wrap_u8]
  refine h.new fun T w1 h1 => ?_
  simp -dsimp -implicitDefEqProofs (disch := omega) only [go_sem, reqD_of, dec_t, dec_f, wrap_i64, wrap_u32, wrap_u64, wrap_u8]
  refine (numF_any (s := (strOf [112, 101, 114, 109])) (f := 39) h1).mono ?_
  rintro e w2 ⟨B, h2, rfl⟩
  simp -dsimp -implicitDefEqProofs (disch := omega) only [go_sem, reqD_of, dec_t, dec_f, wrap_i64, wrap_u32, wrap_u64, wrap_u8]
  refine h2.stoAll (b := T) (n := 7) (cs := (numFV (strOf [112, 101, 114, 109]) B)) rfl rfl (fun y hy => by simp only [List.mem_cons, List.not_mem_nil, or_false] at hy; rcases hy with rfl | rfl | rfl | rfl | rfl | rfl | rfl <;> rfl) fun w3 h3 => ?_
  simp -dsimp -implicitDefEqProofs (disch := omega) only [go_sem, reqD_of, dec_t, dec_f, wrap_i64, wrap_u32, wrap_u64, wrap_u8]
  have hr : rowV w3 ⟨T, 0, none⟩ 7 = some (.agg ((numFV (strOf [112, 101, 114, 109]) B) : List Value).toArray) := h3.rowH T 7 rfl
  refine resC_1 (a := ⟨T, 0, none⟩) (by simp -dsimp -implicitDefEqProofs only [go_sem]) (run_loadVar_row fact_aggSz_71 hr) ?_
  exact ⟨B, _, _, _, _, _, _, _, _, h3.ent (Ent.sep (Ent.rfl' _) (Ent.right _ _)), rfl, fld15, (fun y hy => by simp only [List.mem_cons, List.not_mem_nil, or_false] at hy; rcases hy with rfl | rfl | rfl | rfl | rfl | rfl | rfl <;> rfl)⟩
theorem fiel17_any (h : St w0 F w) : Calls Tryz.prog 18 #[.int .u8 17] w (FieldR 17 F w0) := by
  refine F18.calls (by simp) ?_
  unfold F18.code
  simp -dsimp -implicitDefEqProofs (disch := omega) only [go_sem, reqD_of, dec_t, dec_f, wrap_i64, wrap_u32, wrap_u64, wrap_u8]
  refine h.new fun T w1 h1 => ?_
  simp -dsimp -implicitDefEqProofs (disch := omega) only [go_sem, reqD_of, dec_t, dec_f, wrap_i64, wrap_u32, wrap_u64, wrap_u8]
  refine (numF_any (s := (strOf [99, 111, 117, 110, 116])) (f := 40) h1).mono ?_
  rintro e w2 ⟨B, h2, rfl⟩
  simp -dsimp -implicitDefEqProofs (disch := omega) only [go_sem, reqD_of, dec_t, dec_f, wrap_i64, wrap_u32, wrap_u64, wrap_u8]
  refine h2.stoAll (b := T) (n := 7) (cs := (numFV (strOf [99, 111, 117, 110, 116]) B)) rfl rfl (fun y hy => by simp only [List.mem_cons, List.not_mem_nil, or_false] at hy; rcases hy with rfl | rfl | rfl | rfl | rfl | rfl | rfl <;> rfl) fun w3 h3 => ?_
  simp -dsimp -implicitDefEqProofs (disch := omega) only [go_sem, reqD_of, dec_t, dec_f, wrap_i64, wrap_u32, wrap_u64, wrap_u8]
  have hr : rowV w3 ⟨T, 0, none⟩ 7 = some (.agg ((numFV (strOf [99, 111, 117, 110, 116]) B) : List Value).toArray) := h3.rowH T 7 rfl
  refine resC_1 (a := ⟨T, 0, none⟩) (by simp -dsimp -implicitDefEqProofs only [go_sem]) (run_loadVar_row fact_aggSz_71 hr) ?_
  exact ⟨B, _, _, _, _, _, _, _, _, h3.ent (Ent.sep (Ent.rfl' _) (Ent.right _ _)), rfl, fld17, (fun y hy => by simp only [List.mem_cons, List.not_mem_nil, or_false] at hy; rcases hy with rfl | rfl | rfl | rfl | rfl | rfl | rfl <;> rfl)⟩
theorem fiel1_any (h : St w0 F w) : Calls Tryz.prog 18 #[.int .u8 1] w (FieldR 1 F w0) := by
  refine F18.calls (by simp) ?_
  unfold F18.code
  simp -dsimp -implicitDefEqProofs (disch := omega) only [go_sem, reqD_of, dec_t, dec_f, wrap_i64, wrap_u32, wrap_u64, wrap_u8]
  refine h.new fun T w1 h1 => ?_
  simp -dsimp -implicitDefEqProofs (disch := omega) only [go_sem, reqD_of, dec_t, dec_f, wrap_i64, wrap_u32, wrap_u64, wrap_u8]
  refine (txtF_any (s := (strOf [118, 101, 114, 115, 105, 111, 110])) (f := 42) h1).mono ?_
  rintro e w2 ⟨B, h2, rfl⟩
  simp -dsimp -implicitDefEqProofs (disch := omega) only [go_sem, reqD_of, dec_t, dec_f, wrap_i64, wrap_u32, wrap_u64, wrap_u8]
  refine h2.stoAll (b := T) (n := 7) (cs := (txtFV (strOf [118, 101, 114, 115, 105, 111, 110]) B)) rfl rfl (fun y hy => by simp only [List.mem_cons, List.not_mem_nil, or_false] at hy; rcases hy with rfl | rfl | rfl | rfl | rfl | rfl | rfl <;> rfl) fun w3 h3 => ?_
  simp -dsimp -implicitDefEqProofs (disch := omega) only [go_sem, reqD_of, dec_t, dec_f, wrap_i64, wrap_u32, wrap_u64, wrap_u8]
  have hr : rowV w3 ⟨T, 0, none⟩ 7 = some (.agg ((txtFV (strOf [118, 101, 114, 115, 105, 111, 110]) B) : List Value).toArray) := h3.rowH T 7 rfl
  refine resC_1 (a := ⟨T, 0, none⟩) (by simp -dsimp -implicitDefEqProofs only [go_sem]) (run_loadVar_row fact_aggSz_71 hr) ?_
  exact ⟨B, _, _, _, _, _, _, _, _, h3.ent (Ent.sep (Ent.rfl' _) (Ent.right _ _)), rfl, fld1, (fun y hy => by simp only [List.mem_cons, List.not_mem_nil, or_false] at hy; rcases hy with rfl | rfl | rfl | rfl | rfl | rfl | rfl <;> rfl)⟩
theorem fiel3_any (h : St w0 F w) : Calls Tryz.prog 18 #[.int .u8 3] w (FieldR 3 F w0) := by
  refine F18.calls (by simp) ?_
  unfold F18.code
  simp -dsimp -implicitDefEqProofs (disch := omega) only [go_sem, reqD_of, dec_t, dec_f, wrap_i64, wrap_u32, wrap_u64, wrap_u8]
  refine h.new fun T w1 h1 => ?_
  simp -dsimp -implicitDefEqProofs (disch := omega) only [go_sem, reqD_of, dec_t, dec_f, wrap_i64, wrap_u32, wrap_u64, wrap_u8]
  refine (txtF_any (s := (strOf [117, 110, 97, 109, 101])) (f := 43) h1).mono ?_
  rintro e w2 ⟨B, h2, rfl⟩
  simp -dsimp -implicitDefEqProofs (disch := omega) only [go_sem, reqD_of, dec_t, dec_f, wrap_i64, wrap_u32, wrap_u64, wrap_u8]
  refine h2.stoAll (b := T) (n := 7) (cs := (txtFV (strOf [117, 110, 97, 109, 101]) B)) rfl rfl (fun y hy => by simp only [List.mem_cons, List.not_mem_nil, or_false] at hy; rcases hy with rfl | rfl | rfl | rfl | rfl | rfl | rfl <;> rfl) fun w3 h3 => ?_
  simp -dsimp -implicitDefEqProofs (disch := omega) only [go_sem, reqD_of, dec_t, dec_f, wrap_i64, wrap_u32, wrap_u64, wrap_u8]
  have hr : rowV w3 ⟨T, 0, none⟩ 7 = some (.agg ((txtFV (strOf [117, 110, 97, 109, 101]) B) : List Value).toArray) := h3.rowH T 7 rfl
  refine resC_1 (a := ⟨T, 0, none⟩) (by simp -dsimp -implicitDefEqProofs only [go_sem]) (run_loadVar_row fact_aggSz_71 hr) ?_
  exact ⟨B, _, _, _, _, _, _, _, _, h3.ent (Ent.sep (Ent.rfl' _) (Ent.right _ _)), rfl, fld3, (fun y hy => by simp only [List.mem_cons, List.not_mem_nil, or_false] at hy; rcases hy with rfl | rfl | rfl | rfl | rfl | rfl | rfl <;> rfl)⟩
theorem fiel4_any (h : St w0 F w) : Calls Tryz.prog 18 #[.int .u8 4] w (FieldR 4 F w0) := by
  refine F18.calls (by simp) ?_
  unfold F18.code
  simp -dsimp -implicitDefEqProofs (disch := omega) only [go_sem, reqD_of, dec_t, dec_f, wrap_i64, wrap_u32, wrap_u64, wrap_u8]
  refine h.new fun T w1 h1 => ?_
  simp -dsimp -implicitDefEqProofs (disch := omega) only [go_sem, reqD_of, dec_t, dec_f, wrap_i64, wrap_u32, wrap_u64, wrap_u8]
  refine (txtF_any (s := (strOf [97, 110, 97, 109, 101])) (f := 44) h1).mono ?_
  rintro e w2 ⟨B, h2, rfl⟩
  simp -dsimp -implicitDefEqProofs (disch := omega) only [go_sem, reqD_of, dec_t, dec_f, wrap_i64, wrap_u32, wrap_u64, wrap_u8]
  refine h2.stoAll (b := T) (n := 7) (cs := (txtFV (strOf [97, 110, 97, 109, 101]) B)) rfl rfl (fun y hy => by simp only [List.mem_cons, List.not_mem_nil, or_false] at hy; rcases hy with rfl | rfl | rfl | rfl | rfl | rfl | rfl <;> rfl) fun w3 h3 => ?_
  simp -dsimp -implicitDefEqProofs (disch := omega) only [go_sem, reqD_of, dec_t, dec_f, wrap_i64, wrap_u32, wrap_u64, wrap_u8]
  have hr : rowV w3 ⟨T, 0, none⟩ 7 = some (.agg ((txtFV (strOf [97, 110, 97, 109, 101]) B) : List Value).toArray) := h3.rowH T 7 rfl
  refine resC_1 (a := ⟨T, 0, none⟩) (by simp -dsimp -implicitDefEqProofs only [go_sem]) (run_loadVar_row fact_aggSz_71 hr) ?_
  exact ⟨B, _, _, _, _, _, _, _, _, h3.ent (Ent.sep (Ent.rfl' _) (Ent.right _ _)), rfl, fld4, (fun y hy => by simp only [List.mem_cons, List.not_mem_nil, or_false] at hy; rcases hy with rfl | rfl | rfl | rfl | rfl | rfl | rfl <;> rfl)⟩
theorem fiel5_any (h : St w0 F w) : Calls Tryz.prog 18 #[.int .u8 5] w (FieldR 5 F w0) := by
  refine F18.calls (by simp) ?_
  unfold F18.code
  simp -dsimp -implicitDefEqProofs (disch := omega) only [go_sem, reqD_of, dec_t, dec_f, wrap_i64, wrap_u32, wrap_u64, wrap_u8]
  refine h.new fun T w1 h1 => ?_
  simp -dsimp -implicitDefEqProofs (disch := omega) only [go_sem, reqD_of, dec_t, dec_f, wrap_i64, wrap_u32, wrap_u64, wrap_u8]
  refine (txtF_any (s := (strOf [101, 110, 97, 109, 101])) (f := 45) h1).mono ?_
  rintro e w2 ⟨B, h2, rfl⟩
  simp -dsimp -implicitDefEqProofs (disch := omega) only [go_sem, reqD_of, dec_t, dec_f, wrap_i64, wrap_u32, wrap_u64, wrap_u8]
  refine h2.stoAll (b := T) (n := 7) (cs := (txtFV (strOf [101, 110, 97, 109, 101]) B)) rfl rfl (fun y hy => by simp only [List.mem_cons, List.not_mem_nil, or_false] at hy; rcases hy with rfl | rfl | rfl | rfl | rfl | rfl | rfl <;> rfl) fun w3 h3 => ?_
  simp -dsimp -implicitDefEqProofs (disch := omega) only [go_sem, reqD_of, dec_t, dec_f, wrap_i64, wrap_u32, wrap_u64, wrap_u8]
  have hr : rowV w3 ⟨T, 0, none⟩ 7 = some (.agg ((txtFV (strOf [101, 110, 97, 109, 101]) B) : List Value).toArray) := h3.rowH T 7 rfl
  refine resC_1 (a := ⟨T, 0, none⟩) (by simp -dsimp -implicitDefEqProofs only [go_sem]) (run_loadVar_row fact_aggSz_71 hr) ?_
  exact ⟨B, _, _, _, _, _, _, _, _, h3.ent (Ent.sep (Ent.rfl' _) (Ent.right _ _)), rfl, fld5, (fun y hy => by simp only [List.mem_cons, List.not_mem_nil, or_false] at hy; rcases hy with rfl | rfl | rfl | rfl | rfl | rfl | rfl <;> rfl)⟩
theorem fiel14_any (h : St w0 F w) : Calls Tryz.prog 18 #[.int .u8 14] w (FieldR 14 F w0) := by
  refine F18.calls (by simp) ?_
  unfold F18.code
  simp -dsimp -implicitDefEqProofs (disch := omega) only [go_sem, reqD_of, dec_t, dec_f, wrap_i64, wrap_u32, wrap_u64, wrap_u8]
  refine h.new fun T w1 h1 => ?_
  simp -dsimp -implicitDefEqProofs (disch := omega) only [go_sem, reqD_of, dec_t, dec_f, wrap_i64, wrap_u32, wrap_u64, wrap_u8]
  refine (txtF_any (s := (strOf [110, 97, 109, 101])) (f := 46) h1).mono ?_
  rintro e w2 ⟨B, h2, rfl⟩
  simp -dsimp -implicitDefEqProofs (disch := omega) only [go_sem, reqD_of, dec_t, dec_f, wrap_i64, wrap_u32, wrap_u64, wrap_u8]
  refine h2.stoAll (b := T) (n := 7) (cs := (txtFV (strOf [110, 97, 109, 101]) B)) rfl rfl (fun y hy => by simp only [List.mem_cons, List.not_mem_nil, or_false] at hy; rcases hy with rfl | rfl | rfl | rfl | rfl | rfl | rfl <;> rfl) fun w3 h3 => ?_
  simp -dsimp -implicitDefEqProofs (disch := omega) only [go_sem, reqD_of, dec_t, dec_f, wrap_i64, wrap_u32, wrap_u64, wrap_u8]
  have hr : rowV w3 ⟨T, 0, none⟩ 7 = some (.agg ((txtFV (strOf [110, 97, 109, 101]) B) : List Value).toArray) := h3.rowH T 7 rfl
  refine resC_1 (a := ⟨T, 0, none⟩) (by simp -dsimp -implicitDefEqProofs only [go_sem]) (run_loadVar_row fact_aggSz_71 hr) ?_
  exact ⟨B, _, _, _, _, _, _, _, _, h3.ent (Ent.sep (Ent.rfl' _) (Ent.right _ _)), rfl, fld14, (fun y hy => by simp only [List.mem_cons, List.not_mem_nil, or_false] at hy; rcases hy with rfl | rfl | rfl | rfl | rfl | rfl | rfl <;> rfl)⟩
theorem fiel6_any (h : St w0 F w) : Calls Tryz.prog 18 #[.int .u8 6] w (FieldR 6 F w0) := by
  refine F18.calls (by simp) ?_
  unfold F18.code
  simp -dsimp -implicitDefEqProofs (disch := omega) only [go_sem, reqD_of, dec_t, dec_f, wrap_i64, wrap_u32, wrap_u64, wrap_u8]
  refine h.new fun T w1 h1 => ?_
  simp -dsimp -implicitDefEqProofs (disch := omega) only [go_sem, reqD_of, dec_t, dec_f, wrap_i64, wrap_u32, wrap_u64, wrap_u8]
  refine (othe6_any h1).mono ?_
  rintro e w2 ⟨B, ob, nm, g, p, t, mv, x, y, h2, rfl, hf, hc⟩
  simp -dsimp -implicitDefEqProofs (disch := omega) only [go_sem, reqD_of, dec_t, dec_f, wrap_i64, wrap_u32, wrap_u64, wrap_u8]
  refine h2.stoAll (b := T) (n := 7) (cs := [nm, g, p, t, mv, x, y]) rfl rfl hc fun w3 h3 => ?_
  simp -dsimp -implicitDefEqProofs (disch := omega) only [go_sem, reqD_of, dec_t, dec_f, wrap_i64, wrap_u32, wrap_u64, wrap_u8]
  have hr : rowV w3 ⟨T, 0, none⟩ 7 = some (.agg ([nm, g, p, t, mv, x, y] : List Value).toArray) := h3.rowH T 7 rfl
  refine resC_1 (a := ⟨T, 0, none⟩) (by simp -dsimp -implicitDefEqProofs only [go_sem]) (run_loadVar_row fact_aggSz_71 hr) ?_
  exact ⟨B, ob, nm, g, p, t, mv, x, y, h3.ent (Ent.sep (Ent.rfl' _) (Ent.right _ _)), rfl, hf, hc⟩
theorem fiel12_any (h : St w0 F w) : Calls Tryz.prog 18 #[.int .u8 12] w (FieldR 12 F w0) := by
  refine F18.calls (by simp) ?_
  unfold F18.code
  simp -dsimp -implicitDefEqProofs (disch := omega) only [go_sem, reqD_of, dec_t, dec_f, wrap_i64, wrap_u32, wrap_u64, wrap_u8]
  refine h.new fun T w1 h1 => ?_
  simp -dsimp -implicitDefEqProofs (disch := omega) only [go_sem, reqD_of, dec_t, dec_f, wrap_i64, wrap_u32, wrap_u64, wrap_u8]
  refine (othe12_any h1).mono ?_
  rintro e w2 ⟨B, ob, nm, g, p, t, mv, x, y, h2, rfl, hf, hc⟩
  simp -dsimp -implicitDefEqProofs (disch := omega) only [go_sem, reqD_of, dec_t, dec_f, wrap_i64, wrap_u32, wrap_u64, wrap_u8]
  refine h2.stoAll (b := T) (n := 7) (cs := [nm, g, p, t, mv, x, y]) rfl rfl hc fun w3 h3 => ?_
  simp -dsimp -implicitDefEqProofs (disch := omega) only [go_sem, reqD_of, dec_t, dec_f, wrap_i64, wrap_u32, wrap_u64, wrap_u8]
  have hr : rowV w3 ⟨T, 0, none⟩ 7 = some (.agg ([nm, g, p, t, mv, x, y] : List Value).toArray) := h3.rowH T 7 rfl
  refine resC_1 (a := ⟨T, 0, none⟩) (by simp -dsimp -implicitDefEqProofs only [go_sem]) (run_loadVar_row fact_aggSz_71 hr) ?_
  exact ⟨B, ob, nm, g, p, t, mv, x, y, h3.ent (Ent.sep (Ent.rfl' _) (Ent.right _ _)), rfl, hf, hc⟩
theorem fiel16_any (h : St w0 F w) : Calls Tryz.prog 18 #[.int .u8 16] w (FieldR 16 F w0) := by
  refine F18.calls (by simp) ?_
  unfold F18.code
  simp -dsimp -implicitDefEqProofs (disch := omega) only [go_sem, reqD_of, dec_t, dec_f, wrap_i64, wrap_u32, wrap_u64, wrap_u8]
  refine h.new fun T w1 h1 => ?_
  simp -dsimp -implicitDefEqProofs (disch := omega) only [go_sem, reqD_of, dec_t, dec_f, wrap_i64, wrap_u32, wrap_u64, wrap_u8]
  refine (othe16_any h1).mono ?_
  rintro e w2 ⟨B, ob, nm, g, p, t, mv, x, y, h2, rfl, hf, hc⟩
  simp -dsimp -implicitDefEqProofs (disch := omega) only [go_sem, reqD_of, dec_t, dec_f, wrap_i64, wrap_u32, wrap_u64, wrap_u8]
  refine h2.stoAll (b := T) (n := 7) (cs := [nm, g, p, t, mv, x, y]) rfl rfl hc fun w3 h3 => ?_
  simp -dsimp -implicitDefEqProofs (disch := omega) only [go_sem, reqD_of, dec_t, dec_f, wrap_i64, wrap_u32, wrap_u64, wrap_u8]
  have hr : rowV w3 ⟨T, 0, none⟩ 7 = some (.agg ([nm, g, p, t, mv, x, y] : List Value).toArray) := h3.rowH T 7 rfl
  refine resC_1 (a := ⟨T, 0, none⟩) (by simp -dsimp -implicitDefEqProofs only [go_sem]) (run_loadVar_row fact_aggSz_71 hr) ?_
  exact ⟨B, ob, nm, g, p, t, mv, x, y, h3.ent (Ent.sep (Ent.rfl' _) (Ent.right _ _)), rfl, hf, hc⟩
theorem fiel18_any (h : St w0 F w) : Calls Tryz.prog 18 #[.int .u8 18] w (FieldR 18 F w0) := by
  refine F18.calls (by simp) ?_
  unfold F18.code
  simp -dsimp -implicitDefEqProofs (disch := omega) only [go_sem, reqD_of, dec_t, dec_f, wrap_i64, wrap_u32, wrap_u64, wrap_u8]
  refine h.new fun T w1 h1 => ?_
  simp -dsimp -implicitDefEqProofs (disch := omega) only [go_sem, reqD_of, dec_t, dec_f, wrap_i64, wrap_u32, wrap_u64, wrap_u8]
  refine (othe18_any h1).mono ?_
  rintro e w2 ⟨B, ob, nm, g, p, t, mv, x, y, h2, rfl, hf, hc⟩
  simp -dsimp -implicitDefEqProofs (disch := omega) only [go_sem, reqD_of, dec_t, dec_f, wrap_i64, wrap_u32, wrap_u64, wrap_u8]
  refine h2.stoAll (b := T) (n := 7) (cs := [nm, g, p, t, mv, x, y]) rfl rfl hc fun w3 h3 => ?_
  simp -dsimp -implicitDefEqProofs (disch := omega) only [go_sem, reqD_of, dec_t, dec_f, wrap_i64, wrap_u32, wrap_u64, wrap_u8]
  have hr : rowV w3 ⟨T, 0, none⟩ 7 = some (.agg ([nm, g, p, t, mv, x, y] : List Value).toArray) := h3.rowH T 7 rfl
  refine resC_1 (a := ⟨T, 0, none⟩) (by simp -dsimp -implicitDefEqProofs only [go_sem]) (run_loadVar_row fact_aggSz_71 hr) ?_
  exact ⟨B, ob, nm, g, p, t, mv, x, y, h3.ent (Ent.sep (Ent.rfl' _) (Ent.right _ _)), rfl, hf, hc⟩
theorem fiel11_any (h : St w0 F w) : Calls Tryz.prog 18 #[.int .u8 11] w (FieldR 11 F w0) := by
  refine F18.calls (by simp) ?_
  unfold F18.code
  simp -dsimp -implicitDefEqProofs (disch := omega) only [go_sem, reqD_of, dec_t, dec_f, wrap_i64, wrap_u32, wrap_u64, wrap_u8]
  refine h.new fun T w1 h1 => ?_
  simp -dsimp -implicitDefEqProofs (disch := omega) only [go_sem, reqD_of, dec_t, dec_f, wrap_i64, wrap_u32, wrap_u64, wrap_u8]
  refine (othe11_any h1).mono ?_
  rintro e w2 ⟨B, ob, nm, g, p, t, mv, x, y, h2, rfl, hf, hc⟩
  simp -dsimp -implicitDefEqProofs (disch := omega) only [go_sem, reqD_of, dec_t, dec_f, wrap_i64, wrap_u32, wrap_u64, wrap_u8]
  refine h2.stoAll (b := T) (n := 7) (cs := [nm, g, p, t, mv, x, y]) rfl rfl hc fun w3 h3 => ?_
  simp -dsimp -implicitDefEqProofs (disch := omega) only [go_sem, reqD_of, dec_t, dec_f, wrap_i64, wrap_u32, wrap_u64, wrap_u8]
  have hr : rowV w3 ⟨T, 0, none⟩ 7 = some (.agg ([nm, g, p, t, mv, x, y] : List Value).toArray) := h3.rowH T 7 rfl
  refine resC_1 (a := ⟨T, 0, none⟩) (by simp -dsimp -implicitDefEqProofs only [go_sem]) (run_loadVar_row fact_aggSz_71 hr) ?_
  exact ⟨B, ob, nm, g, p, t, mv, x, y, h3.ent (Ent.sep (Ent.rfl' _) (Ent.right _ _)), rfl, hf, hc⟩
theorem fiel9_any (h : St w0 F w) : Calls Tryz.prog 18 #[.int .u8 9] w (FieldR 9 F w0) := by
  refine F18.calls (by simp) ?_
  unfold F18.code
  simp -dsimp -implicitDefEqProofs (disch := omega) only [go_sem, reqD_of, dec_t, dec_f, wrap_i64, wrap_u32, wrap_u64, wrap_u8]
  refine h.new fun T w1 h1 => ?_
  simp -dsimp -implicitDefEqProofs (disch := omega) only [go_sem, reqD_of, dec_t, dec_f, wrap_i64, wrap_u32, wrap_u64, wrap_u8]
  refine (othe9_any h1).mono ?_
  rintro e w2 ⟨B, ob, nm, g, p, t, mv, x, y, h2, rfl, hf, hc⟩
  simp -dsimp -implicitDefEqProofs (disch := omega) only [go_sem, reqD_of, dec_t, dec_f, wrap_i64, wrap_u32, wrap_u64, wrap_u8]
  refine h2.stoAll (b := T) (n := 7) (cs := [nm, g, p, t, mv, x, y]) rfl rfl hc fun w3 h3 => ?_
  simp -dsimp -implicitDefEqProofs (disch := omega) only [go_sem, reqD_of, dec_t, dec_f, wrap_i64, wrap_u32, wrap_u64, wrap_u8]
  have hr : rowV w3 ⟨T, 0, none⟩ 7 = some (.agg ([nm, g, p, t, mv, x, y] : List Value).toArray) := h3.rowH T 7 rfl
  refine resC_1 (a := ⟨T, 0, none⟩) (by simp -dsimp -implicitDefEqProofs only [go_sem]) (run_loadVar_row fact_aggSz_71 hr) ?_
  exact ⟨B, ob, nm, g, p, t, mv, x, y, h3.ent (Ent.sep (Ent.rfl' _) (Ent.right _ _)), rfl, hf, hc⟩
theorem fiel10_any (h : St w0 F w) : Calls Tryz.prog 18 #[.int .u8 10] w (FieldR 10 F w0) := by
  refine F18.calls (by simp) ?_
  unfold F18.code
  simp -dsimp -implicitDefEqProofs (disch := omega) only [go_sem, reqD_of, dec_t, dec_f, wrap_i64, wrap_u32, wrap_u64, wrap_u8]
  refine h.new fun T w1 h1 => ?_
  simp -dsimp -implicitDefEqProofs (disch := omega) only [go_sem, reqD_of, dec_t, dec_f, wrap_i64, wrap_u32, wrap_u64, wrap_u8]
  refine (othe10_any h1).mono ?_
  rintro e w2 ⟨B, ob, nm, g, p, t, mv, x, y, h2, rfl, hf, hc⟩
  simp -dsimp -implicitDefEqProofs (disch := omega) only [go_sem, reqD_of, dec_t, dec_f, wrap_i64, wrap_u32, wrap_u64, wrap_u8]
  refine h2.stoAll (b := T) (n := 7) (cs := [nm, g, p, t, mv, x, y]) rfl rfl hc fun w3 h3 => ?_
  simp -dsimp -implicitDefEqProofs (disch := omega) only [go_sem, reqD_of, dec_t, dec_f, wrap_i64, wrap_u32, wrap_u64, wrap_u8]
  have hr : rowV w3 ⟨T, 0, none⟩ 7 = some (.agg ([nm, g, p, t, mv, x, y] : List Value).toArray) := h3.rowH T 7 rfl
  refine resC_1 (a := ⟨T, 0, none⟩) (by simp -dsimp -implicitDefEqProofs only [go_sem]) (run_loadVar_row fact_aggSz_71 hr) ?_
  exact ⟨B, ob, nm, g, p, t, mv, x, y, h3.ent (Ent.sep (Ent.rfl' _) (Ent.right _ _)), rfl, hf, hc⟩
theorem fiel19_any (h : St w0 F w) : Calls Tryz.prog 18 #[.int .u8 19] w (FieldR 19 F w0) := by
  refine F18.calls (by simp) ?_
  unfold F18.code
  simp -dsimp -implicitDefEqProofs (disch := omega) only [go_sem, reqD_of, dec_t, dec_f, wrap_i64, wrap_u32, wrap_u64, wrap_u8]
  refine h.new fun T w1 h1 => ?_
  simp -dsimp -implicitDefEqProofs (disch := omega) only [go_sem, reqD_of, dec_t, dec_f, wrap_i64, wrap_u32, wrap_u64, wrap_u8]
  refine (othe19_any h1).mono ?_
  rintro e w2 ⟨B, ob, nm, g, p, t, mv, x, y, h2, rfl, hf, hc⟩
  simp -dsimp -implicitDefEqProofs (disch := omega) only [go_sem, reqD_of, dec_t, dec_f, wrap_i64, wrap_u32, wrap_u64, wrap_u8]
  refine h2.stoAll (b := T) (n := 7) (cs := [nm, g, p, t, mv, x, y]) rfl rfl hc fun w3 h3 => ?_
  simp -dsimp -implicitDefEqProofs (disch := omega) only [go_sem, reqD_of, dec_t, dec_f, wrap_i64, wrap_u32, wrap_u64, wrap_u8]
  have hr : rowV w3 ⟨T, 0, none⟩ 7 = some (.agg ([nm, g, p, t, mv, x, y] : List Value).toArray) := h3.rowH T 7 rfl
  refine resC_1 (a := ⟨T, 0, none⟩) (by simp -dsimp -implicitDefEqProofs only [go_sem]) (run_loadVar_row fact_aggSz_71 hr) ?_
  exact ⟨B, ob, nm, g, p, t, mv, x, y, h3.ent (Ent.sep (Ent.rfl' _) (Ent.right _ _)), rfl, hf, hc⟩
theorem field_any {n : Nat} (hn : n < 20) (h : St w0 F w) : Calls Tryz.prog 18 #[.int .u8 n] w (FieldR n F w0) := by
  match n, hn with
  | 0, _ => exact fiel0_any h
  | 1, _ => exact fiel1_any h
  | 2, _ => exact fiel2_any h
  | 3, _ => exact fiel3_any h
  | 4, _ => exact fiel4_any h
  | 5, _ => exact fiel5_any h
  | 6, _ => exact fiel6_any h
  | 7, _ => exact fiel7_any h
  | 8, _ => exact fiel8_any h
  | 9, _ => exact fiel9_any h
  | 10, _ => exact fiel10_any h
  | 11, _ => exact fiel11_any h
  | 12, _ => exact fiel12_any h
  | 13, _ => exact fiel13_any h
  | 14, _ => exact fiel14_any h
  | 15, _ => exact fiel15_any h
  | 16, _ => exact fiel16_any h
  | 17, _ => exact fiel17_any h
  | 18, _ => exact fiel18_any h
  | 19, _ => exact fiel19_any h
  | n + 20, hn => exact absurd hn (by omega)
end
end
end Go.Proofs.YtmiohkmcnppaeaaGreatDoor

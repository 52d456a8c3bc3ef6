/- Arguments, read out of memory as they came: readers by the type's shape. -/
import Derived.Test.YtonajgmamdeohaaGreatDoorSl2
import Derived.ChangeArms
import Derived.SizedLaws
namespace Go.Proofs.YtonajgmamdeohaaGreatDoor
open Go

/-- A way to read a row of cells, in a memory, as something; it stays in a greater memory. -/
structure Rdr (α : Type) where
  rel : α → List Value → Heap → Prop
  mono : ∀ {x cs h h'}, hle h h' → rel x cs h → rel x cs h'

def rInt (k : IntKind) : Rdr Int := ⟨fun n cs _ => cs = [.int k n] ∧ (Lit.int k n).wf = true, fun _ h => h⟩
def rBool : Rdr Bool := ⟨fun b cs _ => cs = [.bool b], fun _ h => h⟩
def rStr : Rdr ByteArray := ⟨fun s cs _ => cs = [.string s] ∧ s.size ≤ reachBytes, fun _ h => h⟩
def rEnd : Rdr Unit := ⟨fun _ cs _ => cs = [], fun _ h => h⟩
def rCons {α β : Type} (n : Nat) (R : Rdr α) (S : Rdr β) : Rdr (α × β) :=
  ⟨fun x cs h => ∃ c1 c2, cs = c1 ++ c2 ∧ c1.length = n ∧ R.rel x.1 c1 h ∧ S.rel x.2 c2 h, fun hl ⟨c1, c2, e, l, a, b⟩ => ⟨c1, c2, e, l, R.mono hl a, S.mono hl b⟩⟩
def rSlice {α : Type} (s b : Nat) (R : Rdr α) : Rdr (List α) :=
  ⟨fun xs cs h => ∃ a cap, cs = [.slice a xs.length cap] ∧ xs.length ≤ cap ∧ cap ≤ maxLen ∧ xs.length * b ≤ reachBytes ∧
    (xs = [] ∨ ∃ g o cur T fr, a = some ⟨g, o, none⟩ ∧ h g = some (.cells cur T fr) ∧ ∀ j (hj : j < xs.length), ((cur.toList.drop (o + j * s)).take s).length = s ∧ R.rel xs[j] ((cur.toList.drop (o + j * s)).take s) h),
   by
    rintro xs cs h h' hl ⟨a, cap, e, l, m, r, k⟩
    refine ⟨a, cap, e, l, m, r, ?_⟩
    rcases k with k | ⟨g, o, cur, T, fr, ea, hg, hj⟩
    · exact .inl k
    · exact .inr ⟨g, o, cur, T, fr, ea, hl _ _ hg, fun j hj' => ⟨(hj j hj').1, R.mono hl (hj j hj').2⟩⟩⟩
theorem Reads.mono {s n : Nat} {v : Value} {xs : List Value} {h h' : Heap} (hl : hle h h') (k : Reads s v n xs h) : Reads s v n xs h' := by
  obtain ⟨l, a, c, hv, hnc, hr⟩ := k
  exact ⟨l, a, c, hv, hnc, hr.imp id fun ⟨b, o, cur, T, fr, ha, hg, hj⟩ => ⟨b, o, cur, T, fr, ha, hl _ _ hg, hj⟩⟩
def rBytes : Rdr (List UInt8) :=
  ⟨fun bs cs h => ∃ v, cs = [v] ∧ RdB v bs h ∧ bs.length ≤ reachBytes, fun hl ⟨v, e, k, hb⟩ => ⟨v, e, Reads.mono hl k, hb⟩⟩

/-- What the reader says of these cells, as a part of memory. -/
def Rdr.at {α : Type} (R : Rdr α) (x : α) (cs : List Value) : HP := fun h => R.rel x cs h

theorem Rdr.old {α : Type} {R : Rdr α} {x : α} {cs : List Value} {w0 : World} (h : R.rel x cs (heapOf w0)) : Ent (Old w0) (R.at x cs) :=
  Ent.of fun _ ho => R.mono (fun b o e => ho b o e) h

theorem St.sat' {w0 w : World} {A : HP} (h : St w0 A w) : ∃ x, hle x (heapOf w) ∧ A x := h.sat

/-- What a reader says, said of the world at hand. -/
theorem St.reader {α : Type} {R : Rdr α} {x : α} {cs : List Value} {w0 w : World} {F : HP} (h : St w0 F w) (k : Ent F (R.at x cs)) : R.rel x cs (heapOf w) := by
  obtain ⟨y, l, hy⟩ := (h.ent k).sat
  exact R.mono l hy

/-- A slice that came in: its form, and its elements' cells. -/
theorem Rdr.slice {α : Type} {s b : Nat} {R : Rdr α} {xs : List α} {v : Value} {h : Heap} (k : (rSlice s b R).rel xs [v] h) :
    ∃ a cap, v = .slice a xs.length cap ∧ xs.length ≤ cap ∧ cap ≤ maxLen ∧ xs.length * b ≤ reachBytes := by
  obtain ⟨a, cap, e, l, m, r, _⟩ := k
  simp only [List.cons.injEq, and_true] at e
  exact ⟨a, cap, e, l, m, r⟩

/-- An element of a slice that came in: where its cells lie, and that they read so, whatever turned since. -/
theorem Rdr.elem {α : Type} {s b : Nat} {R : Rdr α} {xs : List α} {a : Option Addr} {n cap j : Nat} {F : HP} (k : Ent F ((rSlice s b R).at xs [.slice a n cap])) {w0 w : World} (hw : St w0 F w) (hj : j < xs.length) :
    ∃ g o cs, a = some ⟨g, o, none⟩ ∧ cs.length = s ∧ (∀ i, i < s → w.cell? ⟨g, o + j * s + i, none⟩ = cs[i]?) ∧ R.rel xs[j] cs (heapOf w) := by
  obtain ⟨a', cap', e, _, _, _, hr⟩ := hw.reader k
  simp only [List.cons.injEq, Value.slice.injEq, and_true] at e
  obtain ⟨rfl, rfl, rfl⟩ := e
  rcases hr with rfl | ⟨g, o, cur, T, fr, rfl, hg, hr⟩
  · simp at hj
  · obtain ⟨hl, hx⟩ := hr j hj
    refine ⟨g, o, _, rfl, hl, fun i hi => ?_, hx⟩
    rw [cell_of_heap hg, List.getElem?_take, if_pos hi, List.getElem?_drop]
    simp

/-- An element read as a part of memory that stays. -/
theorem Rdr.elemEnt {α : Type} {s b : Nat} {R : Rdr α} {xs : List α} {a : Option Addr} {n cap j : Nat} {w0 : World} (k : Ent (Old w0) ((rSlice s b R).at xs [.slice a n cap])) (hj : j < xs.length) :
    ∃ g o cs, a = some ⟨g, o, none⟩ ∧ cs.length = s ∧ Ent (Old w0) (R.at xs[j] cs) ∧ ∀ (F : HP) (u : World), St w0 (Old w0 * F) u → ∀ i, i < s → u.cell? ⟨g, o + j * s + i, none⟩ = cs[i]? := by
  obtain ⟨a', cap', e, _, _, _, hr⟩ := (St.start w0).reader k
  simp only [List.cons.injEq, Value.slice.injEq, and_true] at e
  obtain ⟨rfl, rfl, rfl⟩ := e
  rcases hr with rfl | ⟨g, o, cur, T, fr, rfl, hg, hr⟩
  · simp at hj
  · obtain ⟨hl, hx⟩ := hr j hj
    refine ⟨g, o, _, rfl, hl, Rdr.old hx, fun F w hw i hi => ?_⟩
    obtain ⟨y, l, h1, h2, hd, l1, l2, ho, _⟩ := hw.sat
    have hgw : w.heap[g]? = some (.cells cur T fr) := l _ _ (l1 _ _ (ho _ _ hg))
    rw [cell_of_heap hgw, List.getElem?_take, if_pos hi, List.getElem?_drop]
    simp

/-! ### From what the row says of an argument to its reader -/

def Opens {α : Type} (P : Program) (t : TypeId) (R : Rdr α) : Prop :=
  ∀ {H : Type} (enc : TypeId × Value → H) (W : World) (sp : Nat → Bool) (fuel : Nat) (cs : List Value) (y : DataW H × List MemPlace),
    DataW.trod enc P W 0 sp true fuel t cs = some y → (∀ n ∈ y.1.weights P t, n ≤ reachBytes) → ∃ x, R.rel x cs (heapOf W)

theorem opens_int {P : Program} {t : TypeId} {k : IntKind} (hu : P.underlying t = some (.int k)) : Opens P t (rInt k) := by
  intro H enc W sp fuel cs y h _
  obtain ⟨n, hc, _, hw⟩ := DataW.trod_int hu h
  exact ⟨n, hc, hw⟩

theorem opens_bool {P : Program} {t : TypeId} (hu : P.underlying t = some .bool) : Opens P t rBool := by
  intro H enc W sp fuel cs y h _
  obtain ⟨b, hc, _⟩ := DataW.trod_bool hu h
  exact ⟨b, hc⟩

theorem opens_str {P : Program} {t : TypeId} (hu : P.underlying t = some .string) : Opens P t rStr := by
  intro H enc W sp fuel cs y h hz
  obtain ⟨s, hc, rfl, _⟩ := DataW.trod_string hu h
  refine ⟨s, hc, ?_⟩
  have := hz s.data.toList.length (by simp [DataW.weights])
  simpa using this

theorem weightsAll_mem {H : Type} {P : Program} {e : TypeId} {d : DataW H} {n : Nat} (hn : n ∈ d.weights P e) : ∀ {l : List (DataW H)}, d ∈ l → n ∈ DataW.weightsAll P e l
  | x :: l, hd => by
    simp only [DataW.weightsAll, List.mem_append]
    rcases List.mem_cons.1 hd with rfl | hd
    · exact .inl hn
    · exact .inr (weightsAll_mem hn hd)

theorem cellsAt {W : World} {a : Addr} {n : Nat} {cs : List Value} (h : W.cells? 0 a n = some cs) (hn : 0 < n) :
    ∃ g o cur T fr, a = ⟨g, o, none⟩ ∧ W.heap[g]? = some (.cells cur T fr) ∧ cs = (cur.toList.drop o).take n ∧ cs.length = n := by
  unfold World.cells? at h
  rw [if_pos (Nat.zero_le _)] at h
  have hl := mapM_some_length h
  have hg := fun i (hi : i < n) => mapM_some_get h i i (by simp [hi])
  simp only [List.length_range] at hl
  obtain ⟨g, o, sp⟩ := a
  have h0 := hg 0 hn
  have hsome : cs[0]? = some cs[0] := List.getElem?_eq_getElem (by omega)
  rw [hsome] at h0
  have hsp : sp = none := by simpa [Addr.add] using World.cell?_spot h0
  subst hsp
  rw [add_lit] at h0
  have hb : ∃ cur T fr, W.heap[g]? = some (.cells cur T fr) := by
    unfold World.cell? at h0
    simp only at h0
    split at h0
    · rename_i cur T fr hx; exact ⟨cur, T, fr, hx⟩
    · cases h0
  obtain ⟨cur, T, fr, hx⟩ := hb
  refine ⟨g, o, cur, T, fr, rfl, hx, ?_, hl⟩
  apply List.ext_getElem?
  intro i
  rw [List.getElem?_take]
  split
  · rename_i hi
    have := hg i hi
    rw [add_lit, cell_of_heap hx] at this
    rw [← this, List.getElem?_drop]
    simp
  · rw [List.getElem?_eq_none]; omega

/-- What each of a row may be, as a row. -/
theorem choose_list {α : Type} {n : Nat} {p : Nat → α → Prop} (h : ∀ i, i < n → ∃ x, p i x) : ∃ xs : List α, xs.length = n ∧ ∀ i (hi : i < xs.length), p i xs[i] := by
  induction n with
  | zero => exact ⟨[], rfl, fun i hi => by simp at hi⟩
  | succ n ih =>
    obtain ⟨xs, hl, hx⟩ := ih fun i hi => h i (by omega)
    obtain ⟨x, hp⟩ := h n (by omega)
    refine ⟨xs ++ [x], by simp [hl], fun i hi => ?_⟩
    rw [List.getElem_append]
    split
    · rename_i h'; exact hx i h'
    · rename_i h'
      have : i = n := by simp at hi; omega
      subst this
      simpa using hp

theorem opens_slice {α : Type} {P : Program} {t e : TypeId} {s b : Nat} {R : Rdr α} (hu : P.underlying t = some (.slice e)) (hs : P.cellsOf e = s) (hb : P.bytesOf e = b) (h0 : 0 < s) (hR : Opens P e R) : Opens P t (rSlice s b R) := by
  intro H enc W sp fuel cs y h hz
  subst hs hb
  rcases DataW.trod_slice hu h with ⟨rfl, rfl⟩ | ⟨a, len, cap, elems, rest, n, rfl, rfl, rfl, _, hlc, hcm, hel, hel2, _, _⟩
  · exact ⟨[], none, 0, rfl, Nat.le_refl _, by simp, by simp, .inl rfl⟩
  · simp only [DataW.weights, hu, List.mem_cons, List.mem_append, List.length_map] at hz
    have hsz : len * P.bytesOf e ≤ reachBytes := by
      have := hz _ (.inl rfl)
      rw [hel] at this
      exact Nat.le_trans (Nat.mul_le_mul_right _ (Nat.le_add_right _ _)) this
    have hel3 : ∀ i, i < len → ∃ x, ∃ cs, W.cells? 0 (a.add (i * P.cellsOf e)) (P.cellsOf e) = some cs ∧ R.rel x cs (heapOf W) := by
      intro i hi
      have h1 := hel2 i hi
      have hi' : i < elems.length := by omega
      rw [List.getElem?_eq_getElem hi'] at h1
      obtain ⟨cs, hcs, htr⟩ := Option.bind_eq_some_iff.1 h1
      obtain ⟨x, hx⟩ := hR enc W sp n cs _ htr fun m hm => hz m (.inr (.inl (weightsAll_mem hm (List.mem_map.2 ⟨_, List.getElem_mem hi', rfl⟩))))
      exact ⟨x, cs, hcs, hx⟩
    obtain ⟨xs, hxl, hxs⟩ := choose_list hel3
    subst hxl
    refine ⟨xs, some a, cap, rfl, hlc, hcm, hsz, ?_⟩
    by_cases hx : xs = []
    · exact .inl hx
    · right
      obtain ⟨cs0, hc0, _⟩ := hxs 0 (List.length_pos_iff.2 hx)
      obtain ⟨g, o, cur, T, fr, ha, hg, _, _⟩ := cellsAt hc0 h0
      have ha : a = ⟨g, o, none⟩ := by
        obtain ⟨g', o', sp'⟩ := a
        simp only [Nat.zero_mul] at ha
        have : (⟨g', o', sp'⟩ : Addr).add 0 = ⟨g', o', sp'⟩ := rfl
        rw [this] at ha; exact ha
      subst ha
      refine ⟨g, o, cur, T, fr, rfl, hg, fun j hj => ?_⟩
      obtain ⟨csj, hcj, hrj⟩ := hxs j hj
      rw [add_lit] at hcj
      obtain ⟨g', o', cur', T', fr', ha', hg', hcs', hl'⟩ := cellsAt hcj h0
      simp only [Addr.mk.injEq, and_true] at ha'
      obtain ⟨rfl, rfl⟩ := ha'
      rw [hg] at hg'
      simp only [Option.some.injEq, Obj.cells.injEq] at hg'
      obtain ⟨rfl, _, _⟩ := hg'
      rw [← hcs']
      exact ⟨hl', hrj⟩

theorem opens_bytes {P : Program} {t e : TypeId} (hu : P.underlying t = some (.slice e)) (he : P.underlying e = some (.int .u8)) (hs : P.cellsOf e = 1) (hb : P.bytesOf e = 1) : Opens P t rBytes := by
  intro H enc W sp fuel cs y h hz
  obtain ⟨xs, a, cap, rfl, hlc, hcm, hsz, hr⟩ := opens_slice hu hs hb (by omega) (opens_int he) enc W sp fuel cs y h hz
  have hbs : ∃ bs : List UInt8, bs.length = xs.length ∧ ((xs = [] ∨ ∃ g o cur T fr, a = some ⟨g, o, none⟩ ∧ heapOf W g = some (.cells cur T fr) ∧ ∀ j, j < xs.length → cur[o + j]? = (bs.map bv)[j]?)) := by
    rcases hr with rfl | ⟨g, o, cur, T, fr, rfl, hg, hr⟩
    · exact ⟨[], rfl, .inl rfl⟩
    · refine ⟨xs.map fun n => UInt8.ofNat n.toNat, by simp, .inr ⟨g, o, cur, T, fr, rfl, hg, fun j hj => ?_⟩⟩
      obtain ⟨_, hc, hw⟩ := hr j hj
      have h1 : cur[o + j]? = some (.int .u8 xs[j]) := by
        have := congrArg (fun l => l[0]?) hc
        simpa [List.getElem?_take, List.getElem?_drop] using this
      rw [h1]
      simp only [List.map_map, List.getElem?_map, List.getElem?_eq_getElem hj, Option.map_some, Function.comp, bv]
      have hb2 : 0 ≤ xs[j] ∧ xs[j] < 256 := by
        have h1 : IntKind.u8.min = 0 := rfl
        have h2 : IntKind.u8.max = 255 := rfl
        simp [Lit.wf] at hw
        omega
      congr 2
      have : (UInt8.ofNat (xs[j]).toNat).toNat = (xs[j]).toNat % 256 := by simp
      omega
  obtain ⟨bs, hbl, hr⟩ := hbs
  refine ⟨bs, _, rfl, ⟨by simp, a, cap, by rw [hbl], by omega, ?_⟩, by omega⟩
  rcases hr with rfl | ⟨g, o, cur, T, fr, ha, hg, hr⟩
  · left; simpa using hbl
  · exact .inr ⟨g, o, cur, T, fr, ha, hg, fun j hj => hr j (by simp at hj; omega)⟩

/-- The fields from one on, of a struct of N cells. -/
def OpensF {α : Type} (P : Program) (N : Nat) (fs : List Field) (off : Nat) (R : Rdr α) : Prop :=
  ∀ {H : Type} (enc : TypeId × Value → H) (W : World) (sp : Nat → Bool) (fuel : Nat) (cs : List Value) (xs : List (DataW H × List MemPlace)), cs.length = N → xs.length = fs.length →
    (∀ (i : Nat) (f : Field), fs[i]? = some f → DataW.trod enc P W 0 sp true fuel f.type ((cs.drop f.offset).take (P.cellsOf f.type)) = xs[i]?) →
    (∀ n ∈ DataW.weightsEach P (fs.map (·.type)) (xs.map (·.1)), n ≤ reachBytes) → ∃ x, R.rel x (cs.drop off) (heapOf W)

theorem opensF_nil {P : Program} {N : Nat} : OpensF P N [] N rEnd := by
  intro H enc W sp fuel cs xs hl _ _ _
  exact ⟨(), by show cs.drop N = []; simp; omega⟩

theorem opensF_cons {α β : Type} {P : Program} {N off s : Nat} {f : Field} {fs : List Field} {R : Rdr α} {S : Rdr β} (hoff : f.offset = off) (hs : P.cellsOf f.type = s) (hN : off + s ≤ N) (hR : Opens P f.type R) (hS : OpensF P N fs (off + s) S) : OpensF P N (f :: fs) off (rCons s R S) := by
  intro H enc W sp fuel cs xs hl hxl hx hz
  cases xs with
  | nil => simp at hxl
  | cons x0 xs =>
    have h0 := hx 0 f rfl
    rw [hoff, hs] at h0
    simp only [List.map_cons, DataW.weightsEach, List.mem_append] at hz
    obtain ⟨a, ha⟩ := hR enc W sp fuel _ _ h0 fun n hn => hz n (.inl hn)
    obtain ⟨b, hb⟩ := hS enc W sp fuel cs xs hl (by simpa using hxl) (fun i g hg => hx (i + 1) g (by simpa using hg)) fun n hn => hz n (.inr hn)
    refine ⟨(a, b), (cs.drop off).take s, cs.drop (off + s), ?_, by simp; omega, ha, hb⟩
    rw [← List.drop_drop, List.take_append_drop]

theorem opens_struct {α : Type} {P : Program} {t : TypeId} {fs : Array Field} {N : Nat} {R : Rdr α} (hu : P.underlying t = some (.struct fs)) (hN : P.cellsOf t = N) (hF : OpensF P N fs.toList 0 R) : Opens P t R := by
  intro H enc W sp fuel cs y h hz
  obtain ⟨xs, n, rfl, rfl, hl, hxl, hx⟩ := DataW.trod_struct hu h
  have := hF enc W sp n cs xs (by rw [hl, hN]) (by simpa using hxl) (fun i f hf => hx i f (by simpa using hf)) (by simpa [DataW.weights, hu] using hz)
  simpa using this

/-- An argument, opened. -/
theorem Opens.arg {α : Type} {P : Program} {t : TypeId} {R : Rdr α} (hR : Opens P t R) {H : Type} {enc : TypeId × Value → H} {W : World} {sp : Nat → Bool} {v : Value} {d : DataW H} {p : List MemPlace} (h : DataW.Trod enc P W 0 sp true t v d p)
    {ts : List TypeId} {ds : List (DataW H)} (hz : (DataW.weightsEach P ts ds).all (· ≤ reachBytes) = true) (j : Nat) (hj : ts[j]? = some t) (hd : ds[j]? = some d) : ∃ x, R.rel x v.cells.toList (heapOf W) := by
  obtain ⟨fuel, hf⟩ := h
  refine hR enc W sp fuel _ _ hf fun n hn => ?_
  have := List.all_eq_true.1 hz _ (DataW.weights_mem_each hj hd n hn)
  simpa using this

theorem u32_nonneg {n : Int} (h : (Lit.int .u32 n).wf = true) : 0 ≤ n := by
  have h1 : IntKind.u32.min = 0 := rfl
  have h2 : IntKind.u32.max = 4294967295 := rfl
  simp [Lit.wf, h1, h2] at h
  omega
theorem u32_lt {n : Int} (h : (Lit.int .u32 n).wf = true) : n < 4294967296 := by
  have h1 : IntKind.u32.min = 0 := rfl
  have h2 : IntKind.u32.max = 4294967295 := rfl
  simp [Lit.wf, h1, h2] at h
  omega
theorem i64_bounds {n : Int} (h : (Lit.int .i64 n).wf = true) : -9223372036854775808 ≤ n ∧ n < 9223372036854775808 := by
  have h1 : IntKind.i64.min = -9223372036854775808 := rfl
  have h2 : IntKind.i64.max = 9223372036854775807 := rfl
  simp [Lit.wf, h1, h2] at h
  omega

end Go.Proofs.YtonajgmamdeohaaGreatDoor

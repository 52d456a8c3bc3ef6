/- The tags package: a table in memory; New, free, begin, Begin, flushed, Decide. -/
import Derived.Test.YteefkhfmpcaccaaTgT
import Derived.Test.YteefkhfmpcaccaaIr
import Derived.Test.YteefkhfmpcaccaaMx
import Derived.Test.YteefkhfmpcaccaaTx
import Derived.Test.YteefkhfmpcaccaaAr
namespace Go.Proofs.Yteefkhfmpcaccaa
open Go
set_option linter.unusedSimpArgs false
set_option linter.unusedVariables false
set_option maxRecDepth 100000

theorem St.ne {w0 w : World} {a b : Nat} {x y : Obj} {F : HP} (h : St w0 (Blk a x * (Blk b y * F)) w) : a ≠ b := by
  obtain ⟨z, l, h1, h2, d, l1, l2, p, h3, h4, d2, l3, l4, q, _⟩ := h.sat
  rintro rfl
  have q' := l3 a y q
  rcases d a with e | e
  · rw [show h1 a = some x from p] at e; cases e
  · rw [q'] at e; cases e

theorem Ent.empL (F : HP) : Ent F (EmpH * F) := fun h hf => ⟨h, hle.rfl' h, fun _ => none, h, fun _ => .inl rfl, (fun _ _ e => by cases e), hle.rfl' h, trivial, hf⟩
theorem zeroV_one : zeroV Try.prog 95 = some (.pointer none) := by kernel_rfl
theorem zeroV_int : zeroV Try.prog 3 = some (.int .i64 0) := by kernel_rfl
theorem zeroV_bool : zeroV Try.prog 4 = some (.bool false) := by kernel_rfl
abbrev encI : Int → Value := fun n => .int .i64 n
abbrev encT : Int → Value := fun n => .int .u16 n
theorem lawI : KeyLaw Try.prog 3 encI := KeyLaw.int Try.underlying3
theorem lawT : KeyLaw Try.prog 37 encT := KeyLaw.int Try.underlying37

def msgC (m : MsgD) : List Value :=
  [.int .u8 m.kind, .int .u16 m.tag, .int .u32 0, .string ⟨#[]⟩, .int .u32 0, .string ⟨#[]⟩, .string ⟨#[]⟩, .string m.en, .int .u16 0, .int .u32 0, .int .u32 0, .slice none 0 0, .slice none 0 0, .int .u8 0, .int .u32 0, .int .u64 0, .int .u8 0, .int .u32 0, .string ⟨#[]⟩, .int .u32 0, .int .u64 0, .int .u32 0, .slice none 0 0, .int .u16 0, .int .u32 0, .int .u8 0, .int .u32 0, .int .u64 0, .int .u32 0, .int .u32 0, .int .u32 0, .int .u64 0, .string ⟨#[]⟩, .string ⟨#[]⟩, .string ⟨#[]⟩, .string ⟨#[]⟩]
def msgV (m : MsgD) : Value := .agg (msgC m).toArray
def repC (r : Rep) : List Value :=
  [.int .u8 r.m.kind, .int .u16 r.m.tag, .int .u32 0, .string ⟨#[]⟩, .int .u32 0, .string ⟨#[]⟩, .string ⟨#[]⟩, .string r.m.en, .int .u16 0, .int .u32 0, .int .u32 0, .slice none 0 0, .slice none 0 0, .int .u8 0, .int .u32 0, .int .u64 0, .int .u8 0, .int .u32 0, .string ⟨#[]⟩, .int .u32 0, .int .u64 0, .int .u32 0, .slice none 0 0, .int .u16 0, .int .u32 0, .int .u8 0, .int .u32 0, .int .u64 0, .int .u32 0, .int .u32 0, .int .u32 0, .int .u64 0, .string ⟨#[]⟩, .string ⟨#[]⟩, .string ⟨#[]⟩, .string ⟨#[]⟩, .int .i64 r.id, .bool r.fr]
theorem msgC_length (m : MsgD) : (msgC m).length = 36 := rfl
theorem repC_length (r : Rep) : (repC r).length = 38 := rfl
theorem cells_of {l : List Value} (h : l.all isCell = true) : ∀ x ∈ l, isCell x = true := fun x hx => List.all_eq_true.1 h x hx
theorem msgC_cells (m : MsgD) : ∀ x ∈ msgC m, isCell x = true := cells_of rfl
theorem repC_cells (r : Rep) : ∀ x ∈ repC r, isCell x = true := cells_of rfl
def oneC (id : Int) (o : One) : List Value := [.int .i64 id, .int .u16 o.tag, .int .u8 o.st, .bool o.fl, .int .i64 o.wt, .int .i64 o.fr]
def oneV (id : Int) (o : One) : Value := .agg (oneC id o).toArray
theorem oneC_cells (id : Int) (o : One) : ∀ x ∈ oneC id o, isCell x = true := cells_of rfl
abbrev oneB (id : Int) (o : One) : Obj := .cells (oneC id o).toArray 98 (0, 0)

abbrev BOs := List (Int × (Nat × One))
def ptrO : Nat × One → Value := fun p => .pointer (some ⟨p.1, 0, none⟩)
def ones (ps : BOs) : HP := stars (fun p : Int × (Nat × One) => Blk p.2.1 (oneB p.1 p.2.2)) ps
abbrev tbB (last : Int) (m1 m2 : Nat) (v : Value) : Obj := .cells #[.int .i64 8, .int .i64 last, .map (some m1), .map (some m2), v] 94 (0, 0)
def TbQ (B : Nat) (last : Int) (m1 m2 : Nat) (v : Value) (ps : BOs) (tags : List (Int × Int)) (row : List Rep) : HP :=
  Blk B (tbB last m1 m2 v) * (MapP encI m1 (amap ptrO ps) * (ones ps * (MapP encT m2 (amap encI tags) * RowO 104 38 v row.length (row.flatMap repC))))
def TbP (B : Nat) (t : TbD) : HP := HP.ex fun x : Nat × Nat × Value × BOs => HP.fact (amap (·.2) x.2.2.2 = t.ids) (TbQ B t.last x.1 x.2.1 x.2.2.1 x.2.2.2 t.tags t.row)
instance (B : Nat) (t : TbD) : Face (.obj B) (TbP B t) := ⟨⟩
theorem TbP.open {w0 w : World} {B : Nat} {t : TbD} {F : HP} (h : St w0 (TbP B t * F) w) : ∃ m1 m2 v ps, amap (·.2) ps = t.ids ∧
    St w0 (Blk B (tbB t.last m1 m2 v) * (MapP encI m1 (amap ptrO ps) * (ones ps * (MapP encT m2 (amap encI t.tags) * (RowO 104 38 v t.row.length (t.row.flatMap repC) * F))))) w := by
  obtain ⟨⟨m1, m2, v, ps⟩, h⟩ := h.exF
  obtain ⟨e, h⟩ := h.factF
  exact ⟨m1, m2, v, ps, e, h.ac (by unfold TbQ; ac_rfl)⟩
theorem TbP.col {w0 w : World} {A R1 R2 R3 R4 R5 : HP} {B m1 m2 : Nat} {last : Int} {v : Value} {ps : BOs} {tags : List (Int × Int)} {row : List Rep} {t : TbD} (h : St w0 A w) (hps : amap (·.2) ps = t.ids) (h1 : last = t.last) (h2 : tags = t.tags) (h3 : row = t.row)
    [i1 : Pull A (Blk B (tbB last m1 m2 v)) R1] [i2 : Pull R1 (MapP encI m1 (amap ptrO ps)) R2] [i3 : Pull R2 (ones ps) R3] [i4 : Pull R3 (MapP encT m2 (amap encI tags)) R4] [i5 : Pull R4 (RowO 104 38 v row.length (row.flatMap repC)) R5] :
    St w0 (TbP B t * R5) w := by
  subst h1 h2 h3
  have h1 : St w0 (TbQ B t.last m1 m2 v ps t.tags t.row * R5) w := h.ac (by rw [i1.eq, i2.eq, i3.eq, i4.eq, i5.eq]; unfold TbQ; ac_rfl)
  exact h1.ent (Ent.sep ((Ent.fact hps _).trans (Ent.ex (fun x : Nat × Nat × Value × BOs => HP.fact (amap (·.2) x.2.2.2 = t.ids) (TbQ B t.last x.1 x.2.1 x.2.2.1 x.2.2.2 t.tags t.row)) (m1, m2, v, ps))) (Ent.rfl' R5))
theorem ones_at {ps : BOs} {n : Int} {b : Nat} {o : One} (h : agt n ps = some (b, o)) : ones ps = Blk b (oneB n o) * ones (adel n ps) := stars_open _ n (b, o) ps h
theorem ones_set {ps : BOs} {n : Int} {b : Nat} {o o' : One} (h : agt n ps = some (b, o)) : Blk b (oneB n o') * ones (adel n ps) = ones (aset n (b, o') ps) := (stars_aset (fun p : Int × (Nat × One) => Blk p.2.1 (oneB p.1 p.2.2)) n (b, o) (b, o') ps h).symm
theorem ones_new {ps : BOs} {n : Int} {b : Nat} {o : One} (h : agt n ps = none) : Blk b (oneB n o) * ones ps = ones (aset n (b, o) ps) := (stars_new (fun p : Int × (Nat × One) => Blk p.2.1 (oneB p.1 p.2.2)) n (b, o) ps h).symm
theorem ptr_same {ps : BOs} {n : Int} {b : Nat} {o o' : One} (h : agt n ps = some (b, o)) : amap ptrO (aset n (b, o') ps) = amap ptrO ps := amap_aset_same ptrO n (b, o) (b, o') rfl ps h
theorem ids_at {ps : BOs} {l : List (Int × One)} {n : Int} (h : amap (·.2) ps = l) : agt n l = (agt n ps).map (·.2) := by rw [← h, agt_amap]
theorem ids_none {ps : BOs} {l : List (Int × One)} {n : Int} (h : amap (·.2) ps = l) (hn : agt n l = none) : agt n ps = none := by rw [ids_at h] at hn; simpa using hn
theorem ids_some {ps : BOs} {l : List (Int × One)} {n : Int} {o : One} (h : amap (·.2) ps = l) (hn : agt n l = some o) : ∃ b, agt n ps = some (b, o) := by
  rw [ids_at h] at hn
  obtain ⟨p, hp, e⟩ := Option.map_eq_some_iff.1 hn
  exact ⟨p.1, by rw [hp, ← e]⟩
theorem ids_set {ps : BOs} {l : List (Int × One)} {n : Int} {b : Nat} {o : One} (h : amap (·.2) ps = l) : amap (fun p : Nat × One => p.2) (aset n (b, o) ps) = aset n o l := by rw [← h]; exact (aset_amap (fun p : Nat × One => p.2) n (b, o) ps).symm
/-- One of the table's things, brought out. -/
theorem ones_out {w0 w : World} {ps : BOs} {n : Int} {b : Nat} {o : One} {A R : HP} (h : St w0 A w) (hn : agt n ps = some (b, o)) [i : Pull A (ones ps) R] : St w0 (Blk b (oneB n o) * (ones (adel n ps) * R)) w := h.ac (by rw [i.eq, ones_at hn]; ac_rfl)
/-- And put in again. -/
theorem ones_in {w0 w : World} {ps : BOs} {n : Int} {b : Nat} {o o' : One} {A R R' : HP} (h : St w0 A w) (hn : agt n ps = some (b, o)) [i : Pull A (Blk b (oneB n o')) R] [j : Pull R (ones (adel n ps)) R'] : St w0 (ones (aset n (b, o') ps) * R') w := h.ac (by rw [i.eq, j.eq, ← ones_set hn]; ac_rfl)

section
attribute [local go_sem] F15.t3_eq
theorem new_any {w0 w : World} {F : HP} (h : St w0 F w) : Calls Try.prog 15 #[.int .i64 8] w fun e w' => ∃ B, St w0 (TbP B ⟨0, [], [], []⟩ * F) w' ∧ e = .returned (.tuple #[.pointer (some ⟨B, 0, none⟩), .int .i64 0]) := by
  refine F15.calls (by simp) ?_
  unfold F15.code
  simp -dsimp -implicitDefEqProofs (disch := omega) only [go_sem, reqD_of, dec_t, dec_f, wrap_i64, wrap_u32, wrap_u64, wrap_u8]
  refine h.makeMap (enc := encI) fun m1 w1 h1 => ?_
  simp -dsimp -implicitDefEqProofs (disch := omega) only [go_sem, reqD_of, dec_t, dec_f, wrap_i64, wrap_u32, wrap_u64, wrap_u8]
  refine h1.makeMap (enc := encT) fun m2 w2 h2 => ?_
  simp -dsimp -implicitDefEqProofs (disch := omega) only [go_sem, reqD_of, dec_t, dec_f, wrap_i64, wrap_u32, wrap_u64, wrap_u8]
  refine onV_of (v := .agg #[.int .i64 8, .int .i64 0, .map (some m1), .map (some m2), .slice none 0 0]) rfl ?_
  simp -dsimp -implicitDefEqProofs (disch := omega) only [go_sem, reqD_of, dec_t, dec_f, wrap_i64, wrap_u32, wrap_u64, wrap_u8]
  refine h2.new fun B w3 h3 => ?_
  simp -dsimp -implicitDefEqProofs (disch := omega) only [go_sem, reqD_of, dec_t, dec_f, wrap_i64, wrap_u32, wrap_u64, wrap_u8]
  refine ⟨B, ?_, rfl⟩
  have h4 := (h3.ent (Ent.empL _)).nilR 104 38
  exact TbP.col (B := B) (m1 := m1) (m2 := m2) (ps := []) (tags := []) (row := []) (v := .slice none 0 0) (last := 0) (t := ⟨0, [], [], []⟩) (show St w0 (RowO 104 38 (.slice none 0 0) ([] : List Rep).length (([] : List Rep).flatMap repC) * (ones [] * (Blk B (tbB 0 m1 m2 (.slice none 0 0)) * (MapP encT m2 (amap encI []) * (MapP encI m1 (amap ptrO []) * F))))) w3 from h4) rfl rfl rfl rfl

end

theorem free_any {w0 w : World} {F : HP} {B : Nat} {t : TbD} {id : Int} (h : St w0 (TbP B t * F) w) :
    Calls Try.prog 53 #[.pointer (some ⟨B, 0, none⟩), .int .i64 id] w fun e w' => St w0 (TbP B (freeS t id) * F) w' ∧ e = .returned (.tuple #[]) := by
  obtain ⟨m1, m2, v, ps, hps, h1⟩ := TbP.open h
  refine F53.calls (by simp) ?_
  unfold F53.code
  simp -dsimp -implicitDefEqProofs (disch := omega) only [go_sem, reqD_of, dec_t, dec_f, wrap_i64, wrap_u32, wrap_u64, wrap_u8, h1.cl B]
  refine h1.lkH (b := m1) Try.underlying90 lawI zeroV_one ?_
  rw [lk_amap]
  cases hk : agt id t.ids with
  | none =>
    rw [ids_none hps hk]
    simp only [Option.map_none, lkV_none]
    simp -dsimp -implicitDefEqProofs (disch := omega) only [go_sem, reqD_of, dec_t, dec_f, wrap_i64, wrap_u32, wrap_u64, wrap_u8]
    have e : freeS t id = t := by unfold freeS; rw [hk]
    rw [e]
    exact TbP.col (B := B) (m1 := m1) (m2 := m2) (v := v) h1 hps rfl rfl rfl
  | some o =>
    obtain ⟨b, hb⟩ := ids_some hps hk
    rw [hb]
    simp only [Option.map_some, lkV_some, ptrO]
    have h2 := (ones_out h1.drew hb)
    have cB := h2.cl B
    have cb := h2.cl b
    simp only [oneC] at cb
    simp -dsimp -implicitDefEqProofs (disch := omega) only [go_sem, reqD_of, dec_t, dec_f, wrap_i64, wrap_u32, wrap_u64, wrap_u8, cB, cb]
    refine h2.delH (b := m2) Try.underlying91 lawT fun w3 h3 => ?_
    have cB := h3.cl B
    simp -dsimp -implicitDefEqProofs (disch := omega) only [go_sem, reqD_of, dec_t, dec_f, wrap_i64, wrap_u32, wrap_u64, wrap_u8, cB]
    refine h3.delH (b := m1) Try.underlying90 lawI fun w4 h4 => ?_
    simp -dsimp -implicitDefEqProofs (disch := omega) only [go_sem, reqD_of, dec_t, dec_f, wrap_i64, wrap_u32, wrap_u64, wrap_u8]
    have e : freeS t id = { t with tags := adel o.tag t.tags, ids := adel id t.ids } := by unfold freeS; rw [hk]
    rw [e]
    rw [del_amap, del_amap] at h4
    have h5 := h4.right
    exact TbP.col (B := B) (m1 := m1) (m2 := m2) (v := v) (ps := adel id ps) (tags := adel o.tag t.tags) (row := t.row) h5 (by rw [← hps, adel_amap]) rfl rfl rfl


theorem flushed_tail {w0 w : World} {F : HP} {B b m1 m2 : Nat} {v : Value} {last id : Int} {o : One} {row : List Rep} (hl : row.length < 1048576)
    (h : St w0 (Blk b (oneB id o) * (Blk B (tbB last m1 m2 v) * (RowO 104 38 v row.length (row.flatMap repC) * F))) w) :
    Calls Try.prog 54 #[.pointer (some ⟨B, 0, none⟩), .pointer (some ⟨b, 0, none⟩)] w fun e w' => ∃ v', St w0 (Blk b (oneB id { o with st := 6 }) * (Blk B (tbB last m1 m2 v') * (RowO 104 38 v' (row ++ [(⟨⟨109, o.tag, noS⟩, id, true⟩ : Rep)]).length ((row ++ [(⟨⟨109, o.tag, noS⟩, id, true⟩ : Rep)]).flatMap repC) * F))) w' ∧ e = .returned (.tuple #[]) := by
  refine F54.calls (by simp) ?_
  unfold F54.code
  simp -dsimp -implicitDefEqProofs (disch := omega) only [go_sem, reqD_of, dec_t, dec_f, wrap_i64, wrap_u32, wrap_u64, wrap_u8]
  refine h.sto (b := b) (off := 2) (by simp [oneC]) rfl fun w1 h1 => ?_
  have h1 : St w0 (Blk b (oneB id { o with st := 6 }) * (Blk B (tbB last m1 m2 v) * (RowO 104 38 v row.length (row.flatMap repC) * F))) w1 := h1
  have h2 := h1.drew
  have cB := h2.cl B
  have cb := h2.cl b
  simp only [oneC] at cb
  simp -dsimp -implicitDefEqProofs (disch := omega) only [go_sem, reqD_of, dec_t, dec_f, wrap_i64, wrap_u32, wrap_u64, wrap_u8, cB, cb]
  refine onV_of (v := msgV ⟨109, o.tag, ⟨#[]⟩⟩) rfl ?_
  simp -dsimp -implicitDefEqProofs (disch := omega) only [go_sem, reqD_of, dec_t, dec_f, wrap_i64, wrap_u32, wrap_u64, wrap_u8, cB, cb]
  refine onV_of (v := .agg (repC ⟨⟨109, o.tag, ⟨#[]⟩⟩, id, true⟩).toArray) (by kernel_rfl) ?_
  simp -dsimp -implicitDefEqProofs (disch := omega) only [go_sem, reqD_of, dec_t, dec_f, wrap_i64, wrap_u32, wrap_u64, wrap_u8, cB, cb]
  refine h2.lit (n := 1) (cells := repC ⟨⟨109, o.tag, ⟨#[]⟩⟩, id, true⟩) fact_rowTy_92 (by kernel_rfl) (by decide) (by decide) fun v1 w3 h3 => ?_
  have cB := h3.cl B
  simp -dsimp -implicitDefEqProofs (disch := omega) only [go_sem, reqD_of, dec_t, dec_f, wrap_i64, wrap_u32, wrap_u64, wrap_u8, cB]
  refine h3.app (v := v) fact_rowTy_92 ((Ent.left _ _).trans (RowO.reads _ _ _ _ _)) Try.underlying92 (repC_cells _) (fun h => by simp [repC] at h) (by simp only [maxLen]; omega) (by omega) fun v2 w4 h4 => ?_
  have cB := h4.cl B
  simp -dsimp -implicitDefEqProofs (disch := omega) only [go_sem, reqD_of, dec_t, dec_f, wrap_i64, wrap_u32, wrap_u64, wrap_u8, cB]
  have hv2 : isCell v2 = true := by obtain ⟨a, c, rfl, _⟩ := h4.rowForm v2; rfl
  refine h4.sto (b := B) (off := 4) (by simp) hv2 fun w5 h5 => ?_
  simp -dsimp -implicitDefEqProofs (disch := omega) only [go_sem, reqD_of, dec_t, dec_f, wrap_i64, wrap_u32, wrap_u64, wrap_u8]
  refine ⟨v2, ?_⟩
  have e1 : (row ++ [(⟨⟨109, o.tag, noS⟩, id, true⟩ : Rep)]).length = row.length + 1 := by simp
  have e2 : (row ++ [(⟨⟨109, o.tag, noS⟩, id, true⟩ : Rep)]).flatMap repC = row.flatMap repC ++ repC ⟨⟨109, o.tag, noS⟩, id, true⟩ := by simp
  rw [e1, e2]
  exact h5.right

/-- The table, its things' places known. -/
def TbR (B : Nat) (last : Int) (ps : BOs) (tags : List (Int × Int)) (row : List Rep) : HP := HP.ex fun x : Nat × Nat × Value => TbQ B last x.1 x.2.1 x.2.2 ps tags row
instance (B : Nat) (last : Int) (ps : BOs) (tags : List (Int × Int)) (row : List Rep) : Face (.obj B) (TbR B last ps tags row) := ⟨⟩
theorem TbP.places {w0 w : World} {B : Nat} {t : TbD} {F : HP} (h : St w0 (TbP B t * F) w) : ∃ ps, amap (·.2) ps = t.ids ∧ St w0 (TbR B t.last ps t.tags t.row * F) w := by
  obtain ⟨⟨m1, m2, v, ps⟩, h⟩ := h.exF
  obtain ⟨e, h⟩ := h.factF
  exact ⟨ps, e, h.ent (Ent.sep (Ent.ex (fun x : Nat × Nat × Value => TbQ B t.last x.1 x.2.1 x.2.2 ps t.tags t.row) (m1, m2, v)) (Ent.rfl' F))⟩
theorem TbR.shut {w0 w : World} {B : Nat} {last : Int} {ps : BOs} {tags : List (Int × Int)} {row : List Rep} {t : TbD} {F : HP} (h : St w0 (TbR B last ps tags row * F) w) (hps : amap (·.2) ps = t.ids) (h1 : last = t.last) (h2 : tags = t.tags) (h3 : row = t.row) : St w0 (TbP B t * F) w := by
  subst h1 h2 h3
  obtain ⟨⟨m1, m2, v⟩, h⟩ := h.exF
  exact h.ent (Ent.sep ((Ent.fact hps _).trans (Ent.ex (fun x : Nat × Nat × Value × BOs => HP.fact (amap (·.2) x.2.2.2 = t.ids) (TbQ B t.last x.1 x.2.1 x.2.2.1 x.2.2.2 t.tags t.row)) (m1, m2, v, ps))) (Ent.rfl' F))
theorem TbR.open {w0 w : World} {B : Nat} {last : Int} {ps : BOs} {tags : List (Int × Int)} {row : List Rep} {F : HP} (h : St w0 (TbR B last ps tags row * F) w) : ∃ m1 m2 v,
    St w0 (Blk B (tbB last m1 m2 v) * (MapP encI m1 (amap ptrO ps) * (ones ps * (MapP encT m2 (amap encI tags) * (RowO 104 38 v row.length (row.flatMap repC) * F))))) w := by
  obtain ⟨⟨m1, m2, v⟩, h⟩ := h.exF
  exact ⟨m1, m2, v, h.ac (by unfold TbQ; ac_rfl)⟩
theorem TbR.col {w0 w : World} {A R1 R2 R3 R4 R5 : HP} {B m1 m2 : Nat} {last : Int} {v : Value} {ps qs : BOs} {tags : List (Int × Int)} {row : List Rep} (h : St w0 A w) (hq : amap ptrO qs = amap ptrO ps)
    [i1 : Pull A (Blk B (tbB last m1 m2 v)) R1] [i2 : Pull R1 (MapP encI m1 (amap ptrO qs)) R2] [i3 : Pull R2 (ones ps) R3] [i4 : Pull R3 (MapP encT m2 (amap encI tags)) R4] [i5 : Pull R4 (RowO 104 38 v row.length (row.flatMap repC)) R5] :
    St w0 (TbR B last ps tags row * R5) w := by
  have h1 : St w0 (TbQ B last m1 m2 v ps tags row * R5) w := h.ac (by rw [i1.eq, i2.eq, i3.eq, i4.eq, i5.eq, hq]; unfold TbQ; ac_rfl)
  exact h1.ent (Ent.sep (Ent.ex (fun x : Nat × Nat × Value => TbQ B last x.1 x.2.1 x.2.2 ps tags row) (m1, m2, v)) (Ent.rfl' R5))

theorem flushed_any {w0 w : World} {F : HP} {B b : Nat} {last id : Int} {o : One} {ps : BOs} {tags : List (Int × Int)} {row : List Rep} (hl : row.length < 1048576) (hb : agt id ps = some (b, o)) (h : St w0 (TbR B last ps tags row * F) w) :
    Calls Try.prog 54 #[.pointer (some ⟨B, 0, none⟩), .pointer (some ⟨b, 0, none⟩)] w fun e w' => St w0 (TbR B last (aset id (b, { o with st := 6 }) ps) tags (row ++ [⟨⟨109, o.tag, noS⟩, id, true⟩]) * F) w' ∧ e = .returned (.tuple #[]) := by
  obtain ⟨m1, m2, v, h1⟩ := TbR.open h
  have h2 := ones_out h1 hb
  refine (flushed_tail (F := ones (adel id ps) * (MapP encI m1 (amap ptrO ps) * (MapP encT m2 (amap encI tags) * F))) hl (h2.ac (by ac_rfl))).mono ?_
  rintro e w3 ⟨v', h3, rfl⟩
  generalize hrow : row ++ [(⟨⟨109, o.tag, noS⟩, id, true⟩ : Rep)] = row' at h3 ⊢
  have h4 := ones_in (o' := { o with st := 6 }) h3 hb
  exact ⟨TbR.col (B := B) (m1 := m1) (m2 := m2) (v := v') (row := row') h4 (ptr_same hb).symm, rfl⟩

section
attribute [local go_sem] F55.t10_eq
theorem begin_any {w0 w : World} {F : HP} {B : Nat} {t : TbD} {id : Int} {o : One} (hn : begE t o.tag id = 0 → agt id t.ids = none) (h : St w0 (TbP B t * F) w) :
    Calls Try.prog 55 #[.pointer (some ⟨B, 0, none⟩), oneV id o] w fun e w' => St w0 (TbP B (if begE t o.tag id = 0 then begS t id o else t) * F) w' ∧ e = .returned (.int .i64 (begE t o.tag id)) := by
  obtain ⟨m1, m2, v, ps, hps, h1⟩ := TbP.open h
  have stay : ∀ w', St w0 (Blk B (tbB t.last m1 m2 v) * (MapP encI m1 (amap ptrO ps) * (ones ps * (MapP encT m2 (amap encI t.tags) * (RowO 104 38 v t.row.length (t.row.flatMap repC) * F))))) w' → St w0 (TbP B t * F) w' := fun w' h => TbP.col (B := B) (m1 := m1) (m2 := m2) (v := v) h hps rfl rfl rfl
  refine F55.calls (by simp) ?_
  unfold F55.code
  unfold oneV oneC
  simp -dsimp -implicitDefEqProofs (disch := omega) only [go_sem, reqD_of, dec_t, dec_f, wrap_i64, wrap_u32, wrap_u64, wrap_u8]
  refine h1.new fun X w2 h2 => ?_
  have h2 : St w0 (Blk X (oneB id o) * (Blk B (tbB t.last m1 m2 v) * (MapP encI m1 (amap ptrO ps) * (ones ps * (MapP encT m2 (amap encI t.tags) * (RowO 104 38 v t.row.length (t.row.flatMap repC) * F)))))) w2 := h2
  have h3 := h2.drew
  have cB := h3.cl B
  have cX := h3.cl X
  simp only [oneC] at cX
  simp -dsimp -implicitDefEqProofs (disch := omega) only [go_sem, reqD_of, dec_t, dec_f, wrap_i64, wrap_u32, wrap_u64, wrap_u8, cB, cX]
  refine h3.lkH (b := m2) Try.underlying91 lawT zeroV_int ?_
  rw [lk_amap, lkV_get (d := 0)]
  simp -dsimp -implicitDefEqProofs (disch := omega) only [go_sem, reqD_of, dec_t, dec_f, wrap_i64, wrap_u32, wrap_u64, wrap_u8, cB, cX]
  have h4 := h3.drew
  have cB := h4.cl B
  have cX := h4.cl X
  simp only [oneC] at cX
  by_cases q1 : id ≤ 0
  · have e : begE t o.tag id = 1 := by unfold begE; rw [if_pos (.inl q1)]
    rw [e]
    simp -dsimp -implicitDefEqProofs (disch := omega) only [go_sem, reqD_of, dec_t, dec_f, wrap_i64, wrap_u32, wrap_u64, wrap_u8, cB, cX, q1]
    exact stay _ h4.right
  by_cases q2 : id ≤ t.last
  · have e : begE t o.tag id = 1 := by unfold begE; rw [if_pos (.inr q2)]
    rw [e]
    simp -dsimp -implicitDefEqProofs (disch := omega) only [go_sem, reqD_of, dec_t, dec_f, wrap_i64, wrap_u32, wrap_u64, wrap_u8, cB, cX, q1, q2]
    exact stay _ h4.right
  by_cases q3 : o.tag = 65535
  · have e : begE t o.tag id = 120 := by unfold begE; rw [if_neg (by omega), if_pos q3]
    rw [e]
    simp -dsimp -implicitDefEqProofs (disch := omega) only [go_sem, reqD_of, dec_t, dec_f, wrap_i64, wrap_u32, wrap_u64, wrap_u8, cB, cX, q1, q2, q3]
    exact stay _ h4.right
  by_cases q4 : (agt o.tag t.tags).isSome = true
  · have e : begE t o.tag id = 140 := by unfold begE; rw [if_neg (by omega), if_neg q3, if_pos q4]
    rw [e]
    simp -dsimp -implicitDefEqProofs (disch := omega) only [go_sem, reqD_of, dec_t, dec_f, wrap_i64, wrap_u32, wrap_u64, wrap_u8, cB, cX, q1, q2, q3, q4]
    exact stay _ h4.right
  have q4' : (agt o.tag t.tags).isSome = false := by simpa using q4
  have h5 := h4.drew
  have cB5 := h5.cl B
  simp -dsimp -implicitDefEqProofs (disch := omega) only [go_sem, reqD_of, dec_t, dec_f, wrap_i64, wrap_u32, wrap_u64, wrap_u8, cB, cX, cB5, q1, q2, q3, q4']
  refine h5.lenH (b := m2) Try.underlying91 ?_
  have hl2 : (amap encI t.tags).length = t.tags.length := by simp [amap]
  rw [hl2]
  by_cases q5 : (8 : Int) ≤ t.tags.length
  · have e : begE t o.tag id = 141 := by unfold begE; rw [if_neg (by omega), if_neg q3, if_neg q4, if_pos q5]
    rw [e]
    simp -dsimp -implicitDefEqProofs (disch := omega) only [go_sem, reqD_of, dec_t, dec_f, wrap_i64, wrap_u32, wrap_u64, wrap_u8, cB5, q5]
    exact stay _ h5.right
  have e : begE t o.tag id = 0 := by unfold begE; rw [if_neg (by omega), if_neg q3, if_neg q4, if_neg q5]
  rw [e, if_pos rfl]
  have cX := h5.cl X
  simp only [oneC] at cX
  simp -dsimp -implicitDefEqProofs (disch := omega) only [go_sem, reqD_of, dec_t, dec_f, wrap_i64, wrap_u32, wrap_u64, wrap_u8, cB5, cX, q5]
  refine h5.sto (b := B) (off := 1) (by simp) rfl fun w6 h6 => ?_
  have h7 := h6.drew
  have cB := h7.cl B
  have cX := h7.cl X
  simp only [oneC, List.setIfInBounds_toArray, List.set_cons_succ, List.set_cons_zero] at cX cB
  simp -dsimp -implicitDefEqProofs (disch := omega) only [go_sem, reqD_of, dec_t, dec_f, wrap_i64, wrap_u32, wrap_u64, wrap_u8, cB, cX]
  refine h7.updH (b := m2) (v := encI id) Try.underlying91 lawT fun w8 h8 => ?_
  rw [upd_amap] at h8
  have h9 := h8.drew
  have cB := h9.cl B
  have cX := h9.cl X
  simp only [oneC, List.setIfInBounds_toArray, List.set_cons_succ, List.set_cons_zero] at cX cB
  simp -dsimp -implicitDefEqProofs (disch := omega) only [go_sem, reqD_of, dec_t, dec_f, wrap_i64, wrap_u32, wrap_u64, wrap_u8, cB, cX]
  refine h9.updH (b := m1) (v := ptrO (X, o)) Try.underlying90 lawI fun w10 h10 => ?_
  rw [upd_amap] at h10
  simp -dsimp -implicitDefEqProofs (disch := omega) only [go_sem, reqD_of, dec_t, dec_f, wrap_i64, wrap_u32, wrap_u64, wrap_u8]
  have hk := ids_none hps (hn e)
  have h11 : St w0 (ones (aset id (X, o) ps) * (Blk B (tbB id m1 m2 v) * (MapP encI m1 (amap ptrO (aset id (X, o) ps)) * (MapP encT m2 (amap encI (aset o.tag id t.tags)) * (RowO 104 38 v t.row.length (t.row.flatMap repC) * F))))) w10 := by
    rw [← ones_new hk]
    exact h10.ac (by ac_rfl)
  exact TbP.col (B := B) (m1 := m1) (m2 := m2) (v := v) (ps := aset id (X, o) ps) (last := id) (tags := aset o.tag id t.tags) (row := t.row) (t := begS t id o) h11 (ids_set hps) rfl rfl rfl

end

theorem Begin_any {w0 w : World} {F : HP} {B : Nat} {t : TbD} {id g : Int} (hn : begE t g id = 0 → agt id t.ids = none) (h : St w0 (TbP B t * F) w) :
    Calls Try.prog 25 #[.pointer (some ⟨B, 0, none⟩), .int .u16 g, .int .i64 id] w fun e w' => St w0 (TbP B (if begE t g id = 0 then begS t id ⟨g, 1, false, 0, 0⟩ else t) * F) w' ∧ e = .returned (.int .i64 (begE t g id)) := by
  refine F25.calls (by simp) ?_
  unfold F25.code
  simp -dsimp -implicitDefEqProofs (disch := omega) only [go_sem, reqD_of, dec_t, dec_f, wrap_i64, wrap_u32, wrap_u64, wrap_u8]
  refine onV_of (v := oneV id ⟨g, 1, false, 0, 0⟩) rfl ?_
  simp -dsimp -implicitDefEqProofs (disch := omega) only [go_sem, reqD_of, dec_t, dec_f, wrap_i64, wrap_u32, wrap_u64, wrap_u8]
  refine (begin_any (o := ⟨g, 1, false, 0, 0⟩) hn h).mono ?_
  rintro e w1 ⟨h1, rfl⟩
  simp -dsimp -implicitDefEqProofs (disch := omega) only [go_sem, reqD_of, dec_t, dec_f, wrap_i64, wrap_u32, wrap_u64, wrap_u8]
  exact h1

section
attribute [local go_sem] F23.t4_eq
theorem decide_any {w0 w : World} {F : HP} {B : Nat} {t : TbD} {id : Int} (h : St w0 (TbP B t * F) w) :
    Calls Try.prog 23 #[.pointer (some ⟨B, 0, none⟩), .int .i64 id] w fun e w' => St w0 (TbP B (decS t id) * F) w' ∧ e = .returned (.bool (decB t id)) := by
  obtain ⟨m1, m2, v, ps, hps, h1⟩ := TbP.open h
  refine F23.calls (by simp) ?_
  unfold F23.code
  simp -dsimp -implicitDefEqProofs (disch := omega) only [go_sem, reqD_of, dec_t, dec_f, wrap_i64, wrap_u32, wrap_u64, wrap_u8, h1.cl B]
  refine h1.lkH (b := m1) Try.underlying90 lawI zeroV_one ?_
  rw [lk_amap]
  cases hk : agt id t.ids with
  | none =>
    rw [ids_none hps hk]
    simp only [Option.map_none, lkV_none]
    simp -dsimp -implicitDefEqProofs (disch := omega) only [go_sem, reqD_of, dec_t, dec_f, wrap_i64, wrap_u32, wrap_u64, wrap_u8]
    have e1 : decS t id = t := by unfold decS; rw [hk]
    have e2 : decB t id = false := by unfold decB; rw [hk]
    rw [e1, e2]
    exact ⟨TbP.col (B := B) (m1 := m1) (m2 := m2) (v := v) h1 hps rfl rfl rfl, rfl⟩
  | some o =>
    obtain ⟨b, hb⟩ := ids_some hps hk
    rw [hb]
    simp only [Option.map_some, lkV_some, ptrO]
    have h2 := ones_out h1 hb
    have cb := h2.cl b
    simp only [oneC] at cb
    by_cases q : o.st = 1
    · have e1 : decS t id = { t with ids := aset id { o with st := 3 } t.ids } := by unfold decS; rw [hk]; simp [q]
      have e2 : decB t id = true := by unfold decB; rw [hk]; simp [q]
      rw [e1, e2]
      simp -dsimp -implicitDefEqProofs (disch := omega) only [go_sem, reqD_of, dec_t, dec_f, wrap_i64, wrap_u32, wrap_u64, wrap_u8, cb, q]
      refine h2.sto (b := b) (off := 2) (by simp [oneC]) rfl fun w3 h3 => ?_
      simp -dsimp -implicitDefEqProofs (disch := omega) only [go_sem, reqD_of, dec_t, dec_f, wrap_i64, wrap_u32, wrap_u64, wrap_u8]
      have h4 := ones_in (ps := ps) (n := id) (o' := { o with st := 3 }) (show St w0 (Blk b (oneB id { o with st := 3 }) * (ones (adel id ps) * (Blk B (tbB t.last m1 m2 v) * (MapP encI m1 (amap ptrO ps) * (MapP encT m2 (amap encI t.tags) * (RowO 104 38 v t.row.length (t.row.flatMap repC) * F)))))) w3 from h3) hb
      rw [← ptr_same (o' := { o with st := 3 }) hb] at h4
      exact TbP.col (B := B) (m1 := m1) (m2 := m2) (v := v) (ps := aset id (b, { o with st := 3 }) ps) (row := t.row) h4 (ids_set hps) rfl rfl rfl
    · have e1 : decS t id = t := by unfold decS; rw [hk]; simp [q]
      have e2 : decB t id = false := by unfold decB; rw [hk]; simp [q]
      rw [e1, e2]
      simp -dsimp -implicitDefEqProofs (disch := omega) only [go_sem, reqD_of, dec_t, dec_f, wrap_i64, wrap_u32, wrap_u64, wrap_u8, cb, q]
      exact TbP.col (B := B) (m1 := m1) (m2 := m2) (v := v) h1 hps rfl rfl rfl

end
end Go.Proofs.Yteefkhfmpcaccaa

/- The tags package: Flush. -/
import Derived.Test.YteefkhfmpcaccaaTgA
import Derived.Test.YteefkhfmpcaccaaPq
namespace Go.Proofs.Yteefkhfmpcaccaa
open Go
set_option linter.unusedSimpArgs false
set_option linter.unusedVariables false
set_option maxRecDepth 100000

theorem ps_nodup {w0 w : World} {A : HP} {C : HP → HP} {m : Nat} {ps : BOs} (h : St w0 A w) [i : Hole (.map m) A (MapP encI m (amap ptrO ps)) C] : (ps.map (·.1)).Nodup := by
  have := h.mapNodup m
  rwa [amap_keys] at this
theorem pset_ne {ps : BOs} {n m : Int} {p : Nat × One} (h : n ≠ m) : agt n (aset m p ps) = agt n ps := by rw [agt_aset_if, if_neg h]

section
attribute [local go_sem] F36.t4_eq
/-- The flush's own Rflush goes into the row. -/
theorem flush_16 {w0 w : World} {F : HP} {B bf : Nat} {last id told : Int} {f : One} {ps : BOs} {tags : List (Int × Int)} {row : List Rep} {R : Ending → World → Prop} {e : FA} {θ : Tag (F36.t16, fnP Try.prog #[.tmp 8, .tmp 9] R, e, w)}
    (hl : row.length < 1048576) (hb : agt id ps = some (bf, f)) (hd : e.ds = []) (e0 : e.ρ 0 = .pointer (some ⟨B, 0, none⟩)) (e11 : e.ρ 11 = .pointer (some ⟨bf, 0, none⟩)) (e13 : e.ρ 13 = .int .i64 told)
    (h : St w0 (TbR B last ps tags row * F) w)
    (hQ : ∀ w', St w0 (TbR B last (aset id (bf, { f with st := 6 }) ps) tags (row ++ [⟨⟨109, f.tag, noS⟩, id, true⟩]) * F) w' → R (.returned (.tuple #[.int .i64 told, .int .i64 0])) w') :
    cwE Try.prog F36.t16 (fnP Try.prog #[.tmp 8, .tmp 9] R) e w θ := by
  rw [F36.t16_eq]
  simp -dsimp -implicitDefEqProofs (disch := omega) only [go_sem, reqD_of, dec_t, dec_f, wrap_i64, wrap_u32, wrap_u64, wrap_u8, hd, e0, e11, e13]
  refine (flushed_any hl hb h).mono ?_
  rintro e' w1 ⟨h1, rfl⟩
  simp -dsimp -implicitDefEqProofs (disch := omega) only [go_sem, reqD_of, dec_t, dec_f, wrap_i64, wrap_u32, wrap_u64, wrap_u8, hd, e0, e11, e13]
  exact hQ _ h1

end
section
attribute [local go_sem] F36.t4_eq
theorem flush_any {w0 w : World} {F : HP} {B : Nat} {t : TbD} {g old id : Int} (hl : t.row.length < 1048576) (hn : begE t g id = 0 → agt id t.ids = none) (h : St w0 (TbP B t * F) w) :
    Calls Try.prog 36 #[.pointer (some ⟨B, 0, none⟩), .int .u16 g, .int .u16 old, .int .i64 id] w fun e w' => St w0 (TbP B (if begE t g id = 0 then (flS t g old id).1 else t) * F) w' ∧ e = .returned (.tuple #[.int .i64 (if begE t g id = 0 then (flS t g old id).2 else 0), .int .i64 (begE t g id)]) := by
  by_cases hE : begE t g id = 0
  case neg =>
    simp only [hE, if_false]
    refine F36.calls (by simp) ?_
    unfold F36.code
    simp -dsimp -implicitDefEqProofs (disch := omega) only [go_sem, reqD_of, dec_t, dec_f, wrap_i64, wrap_u32, wrap_u64, wrap_u8]
    refine onV_of (v := oneV id ⟨g, 5, true, 0, 0⟩) rfl ?_
    simp -dsimp -implicitDefEqProofs (disch := omega) only [go_sem, reqD_of, dec_t, dec_f, wrap_i64, wrap_u32, wrap_u64, wrap_u8]
    refine (begin_any (o := ⟨g, 5, true, 0, 0⟩) hn h).mono ?_
    rintro e w1 ⟨h1, rfl⟩
    simp -dsimp -implicitDefEqProofs (disch := omega) only [go_sem, reqD_of, dec_t, dec_f, wrap_i64, wrap_u32, wrap_u64, wrap_u8, hE]
    simp only [hE, if_false] at h1
    exact h1
  simp only [hE, if_true, eq_self]
  refine F36.calls (by simp) ?_
  unfold F36.code
  simp -dsimp -implicitDefEqProofs (disch := omega) only [go_sem, reqD_of, dec_t, dec_f, wrap_i64, wrap_u32, wrap_u64, wrap_u8]
  refine onV_of (v := oneV id ⟨g, 5, true, 0, 0⟩) rfl ?_
  simp -dsimp -implicitDefEqProofs (disch := omega) only [go_sem, reqD_of, dec_t, dec_f, wrap_i64, wrap_u32, wrap_u64, wrap_u8]
  refine (begin_any (o := ⟨g, 5, true, 0, 0⟩) hn h).mono ?_
  rintro e w1 ⟨h1, rfl⟩
  have hE' : begE t (One.tag ⟨g, 5, true, 0, 0⟩) id = 0 := hE
  rw [if_pos hE'] at h1
  obtain ⟨m1, m2, v, ps, hps, h2⟩ := TbP.open h1
  have hid : agt id (begS t id ⟨g, 5, true, 0, 0⟩).ids = some ⟨g, 5, true, 0, 0⟩ := by simp only [begS]; rw [agt_aset]
  have hrl : (begS t id ⟨g, 5, true, 0, 0⟩).row.length < 1048576 := hl
  have eF : flS t g old id = flS t g old id := rfl
  conv at eF => rhs; unfold flS
  generalize begS t id ⟨g, 5, true, 0, 0⟩ = t1 at h1 hps h2 hid hrl eF
  obtain ⟨bf, hbf⟩ := ids_some hps hid
  have h3 := h2.drew
  have cB := h3.cl B
  simp -dsimp -implicitDefEqProofs (disch := omega) only [go_sem, reqD_of, dec_t, dec_f, wrap_i64, wrap_u32, wrap_u64, wrap_u8, hE, hE', cB]
  refine h3.lkH (b := m1) Try.underlying90 lawI zeroV_one ?_
  rw [lk_amap, hbf]
  simp only [Option.map_some, lkV_some, ptrO]
  simp -dsimp -implicitDefEqProofs (disch := omega) only [go_sem, reqD_of, dec_t, dec_f, wrap_i64, wrap_u32, wrap_u64, wrap_u8, cB]
  refine h3.lkH (b := m2) Try.underlying91 lawT zeroV_int ?_
  rw [lk_amap, lkV_get1 (d := 0)]
  obtain ⟨xi, hxi0⟩ : ∃ xi, xi = (agt old t1.tags).getD 0 := ⟨_, rfl⟩
  rw [← hxi0]
  dsimp only at eF
  rw [← hxi0] at eF
  simp -dsimp -implicitDefEqProofs (disch := omega) only [go_sem, reqD_of, dec_t, dec_f, wrap_i64, wrap_u32, wrap_u64, wrap_u8, cB]
  refine h3.lkH (b := m1) Try.underlying90 lawI zeroV_one ?_
  rw [lk_amap]
  have hR : St w0 (TbR B t1.last ps t1.tags t1.row * F) w1.drew := TbR.col (B := B) (m1 := m1) (m2 := m2) (v := v) h3 rfl
  have shut : ∀ (qs : BOs) (l : List (Int × One)) (row : List Rep) (w' : World), St w0 (TbR B t1.last qs t1.tags row * F) w' → amap (fun p : Nat × One => p.2) qs = l → St w0 (TbP B { t1 with ids := l, row := row } * F) w' := fun qs l row w' h e => TbR.shut h e rfl rfl rfl
  cases hx : agt xi t1.ids with
  | none =>
    rw [ids_none hps hx]
    simp only [Option.map_none, lkV_none]
    rw [hx] at eF
    simp only at eF
    simp -dsimp -implicitDefEqProofs (disch := omega) only [go_sem, reqD_of, dec_t, dec_f, wrap_i64, wrap_u32, wrap_u64, wrap_u8]
    refine flush_16 (B := B) (bf := bf) (id := id) (told := 0) hrl hbf rfl (by simp -dsimp -implicitDefEqProofs only [go_sem]) (by simp -dsimp -implicitDefEqProofs only [go_sem]) (by simp -dsimp -implicitDefEqProofs only [go_sem]) hR fun w' h' => ?_
    rw [eF]
    exact ⟨shut _ _ _ _ h' (ids_set hps), rfl⟩
  | some x =>
    rw [hx] at eF
    simp only at eF
    obtain ⟨bx, hbx⟩ := ids_some hps hx
    rw [hbx]
    simp only [Option.map_some, lkV_some, ptrO]
    by_cases hxi : xi = id
    · subst hxi
      rw [hbf] at hbx
      simp only [Option.some.injEq, Prod.mk.injEq] at hbx
      obtain ⟨e1, e2⟩ := hbx
      rw [← e1]
      rw [if_pos rfl] at eF
      simp -dsimp -implicitDefEqProofs (disch := omega) only [go_sem, reqD_of, dec_t, dec_f, wrap_i64, wrap_u32, wrap_u64, wrap_u8]
      refine ptrSame (n := 6) Try.underlying95 (by kernel_rfl) ?_
      simp -dsimp -implicitDefEqProofs (disch := omega) only [go_sem, reqD_of, dec_t, dec_f, wrap_i64, wrap_u32, wrap_u64, wrap_u8]
      refine flush_16 (B := B) (bf := bf) (id := xi) (told := 0) hrl hbf rfl (by simp -dsimp -implicitDefEqProofs only [go_sem]) (by simp -dsimp -implicitDefEqProofs only [go_sem]) (by simp -dsimp -implicitDefEqProofs only [go_sem]) hR fun w' h' => ?_
      rw [eF]
      exact ⟨shut _ _ _ _ h' (ids_set hps), rfl⟩
    · have hnd := ps_nodup (m := m1) h3
      have hx2 : agt xi (adel id ps) = some (bx, x) := by rw [agt_adel_if hnd, if_neg hxi, hbx]
      have hf2 : agt id (adel xi ps) = some (bf, ⟨g, 5, true, 0, 0⟩) := by rw [agt_adel_if hnd, if_neg (fun h => hxi h.symm), hbf]
      have h4 := ones_out h3 hbx
      have h5 := ones_out h4 hf2
      rw [if_neg hxi] at eF
      simp -dsimp -implicitDefEqProofs (disch := omega) only [go_sem, reqD_of, dec_t, dec_f, wrap_i64, wrap_u32, wrap_u64, wrap_u8]
      refine St.ptrNe (n := 5) (a := bx) (b := bf) h5 Try.underlying95 (by kernel_rfl) ?_
      have kf : agt id (aset xi (bx, { x with st := 2 }) ps) = some (bf, ⟨g, 5, true, 0, 0⟩) := by rw [pset_ne (fun h => hxi h.symm), hbf]
      have cb := h4.cl bx
      simp only [oneC] at cb
      by_cases q1 : x.st = 1
      · rw [if_pos q1] at eF
        simp -dsimp -implicitDefEqProofs (disch := omega) only [go_sem, reqD_of, dec_t, dec_f, wrap_i64, wrap_u32, wrap_u64, wrap_u8, cb, q1]
        refine h4.sto (b := bx) (off := 2) (by simp [oneC]) rfl fun w5 h5 => ?_
        have h6 := ones_in (ps := ps) (n := xi) (o' := { x with st := 2 }) (show St w0 (Blk bx (oneB xi { x with st := 2 }) * (ones (adel xi ps) * (Blk B (tbB t1.last m1 m2 v) * (MapP encI m1 (amap ptrO ps) * (MapP encT m2 (amap encI t1.tags) * (RowO 104 38 v t1.row.length (t1.row.flatMap repC) * F)))))) w5 from h5) hbx
        have h7 := ones_out h6 kf
        have hx7 : agt xi (adel id (aset xi (bx, { x with st := 2 }) ps)) = some (bx, { x with st := 2 }) := by rw [agt_adel_if (aset_nodup hnd), if_neg hxi, agt_aset]
        have h8 := ones_out h7 hx7
        have cb := h8.cl bx
        simp only [oneC] at cb
        simp -dsimp -implicitDefEqProofs (disch := omega) only [go_sem, reqD_of, dec_t, dec_f, wrap_i64, wrap_u32, wrap_u64, wrap_u8, cb]
        refine h7.sto (b := bf) (off := 5) (by simp [oneC]) rfl fun w9 h9 => ?_
        have h10 := ones_in (ps := aset xi (bx, { x with st := 2 }) ps) (n := id) (o' := ⟨g, 5, true, 0, xi⟩) (show St w0 (Blk bf (oneB id ⟨g, 5, true, 0, xi⟩) * (ones (adel id (aset xi (bx, { x with st := 2 }) ps)) * (Blk B (tbB t1.last m1 m2 v) * (MapP encI m1 (amap ptrO ps) * (MapP encT m2 (amap encI t1.tags) * (RowO 104 38 v t1.row.length (t1.row.flatMap repC) * F)))))) w9 from h9) kf
        have hR := TbR.col (B := B) (m1 := m1) (m2 := m2) (v := v) (qs := ps) (ps := aset id (bf, ⟨g, 5, true, 0, xi⟩) (aset xi (bx, { x with st := 2 }) ps)) (last := t1.last) (tags := t1.tags) (row := t1.row) h10 (by rw [ptr_same kf, ptr_same hbx])
        simp -dsimp -implicitDefEqProofs (disch := omega) only [go_sem, reqD_of, dec_t, dec_f, wrap_i64, wrap_u32, wrap_u64, wrap_u8]
        refine flush_16 (B := B) (bf := bf) (id := id) (told := xi) (f := ⟨g, 5, true, 0, xi⟩) hrl (by rw [agt_aset]) rfl (by simp -dsimp -implicitDefEqProofs only [go_sem]) (by simp -dsimp -implicitDefEqProofs only [go_sem]) (by simp -dsimp -implicitDefEqProofs only [go_sem]) hR fun w' h' => ?_
        rw [eF]
        exact ⟨shut _ _ _ _ h' ((ids_set (ids_set (ids_set hps))).trans (aset_aset _ _ _ _)), rfl⟩
      by_cases q2 : x.st = 2
      · rw [if_neg q1, if_pos q2] at eF
        simp -dsimp -implicitDefEqProofs (disch := omega) only [go_sem, reqD_of, dec_t, dec_f, wrap_i64, wrap_u32, wrap_u64, wrap_u8, cb, q1, q2]
        have h6 := ones_out h3 hbf
        refine h6.sto (b := bf) (off := 5) (by simp [oneC]) rfl fun w9 h9 => ?_
        have h10 := ones_in (ps := ps) (n := id) (o' := ⟨g, 5, true, 0, xi⟩) (show St w0 (Blk bf (oneB id ⟨g, 5, true, 0, xi⟩) * (ones (adel id ps) * (Blk B (tbB t1.last m1 m2 v) * (MapP encI m1 (amap ptrO ps) * (MapP encT m2 (amap encI t1.tags) * (RowO 104 38 v t1.row.length (t1.row.flatMap repC) * F)))))) w9 from h9) hbf
        have hR := TbR.col (B := B) (m1 := m1) (m2 := m2) (v := v) (qs := ps) (ps := aset id (bf, ⟨g, 5, true, 0, xi⟩) ps) (last := t1.last) (tags := t1.tags) (row := t1.row) h10 (by rw [ptr_same hbf])
        simp -dsimp -implicitDefEqProofs (disch := omega) only [go_sem, reqD_of, dec_t, dec_f, wrap_i64, wrap_u32, wrap_u64, wrap_u8]
        refine flush_16 (B := B) (bf := bf) (id := id) (told := 0) (f := ⟨g, 5, true, 0, xi⟩) hrl (by rw [agt_aset]) rfl (by simp -dsimp -implicitDefEqProofs only [go_sem]) (by simp -dsimp -implicitDefEqProofs only [go_sem]) (by simp -dsimp -implicitDefEqProofs only [go_sem]) hR fun w' h' => ?_
        rw [eF]
        exact ⟨shut _ _ _ _ h' ((ids_set (ids_set hps)).trans (aset_aset _ _ _ _)), rfl⟩
      by_cases q3 : x.st = 3 ∨ x.st = 5
      · rw [if_neg q1, if_neg q2, if_pos q3] at eF
        have wait : ∀ w', St w0 (Blk bf (oneB id ⟨g, 5, true, xi, 0⟩) * (ones (adel id ps) * (Blk B (tbB t1.last m1 m2 v) * (MapP encI m1 (amap ptrO ps) * (MapP encT m2 (amap encI t1.tags) * (RowO 104 38 v t1.row.length (t1.row.flatMap repC) * F)))))) w' → St w0 (TbP B (flS t g old id).1 * F) w' ∧ Value.tuple #[.int .i64 0, .int .i64 0] = .tuple #[.int .i64 (flS t g old id).2, .int .i64 0] := by
          intro w' h9
          have h10 := ones_in (ps := ps) (n := id) (o' := ⟨g, 5, true, xi, 0⟩) h9 hbf
          have hR := TbR.col (B := B) (m1 := m1) (m2 := m2) (v := v) (qs := ps) (ps := aset id (bf, ⟨g, 5, true, xi, 0⟩) ps) (last := t1.last) (tags := t1.tags) (row := t1.row) h10 (by rw [ptr_same hbf])
          rw [eF]
          exact ⟨shut _ _ _ _ hR (ids_set hps), rfl⟩
        have h6 := ones_out h3 hbf
        have h7 := ones_out h6 hx2
        have cb7 := h7.cl bx
        simp only [oneC] at cb7
        rcases q3 with q3 | q3
        · simp -dsimp -implicitDefEqProofs (disch := omega) only [go_sem, reqD_of, dec_t, dec_f, wrap_i64, wrap_u32, wrap_u64, wrap_u8, cb7, q1, q2, q3]
          refine h6.sto (b := bf) (off := 4) (by simp [oneC]) rfl fun w9 h9 => ?_
          simp -dsimp -implicitDefEqProofs (disch := omega) only [go_sem, reqD_of, dec_t, dec_f, wrap_i64, wrap_u32, wrap_u64, wrap_u8]
          exact wait _ h9
        · have q3' : ¬ x.st = 3 := by omega
          simp -dsimp -implicitDefEqProofs (disch := omega) only [go_sem, reqD_of, dec_t, dec_f, wrap_i64, wrap_u32, wrap_u64, wrap_u8, cb7, q1, q2, q3, q3']
          refine h6.sto (b := bf) (off := 4) (by simp [oneC]) rfl fun w9 h9 => ?_
          simp -dsimp -implicitDefEqProofs (disch := omega) only [go_sem, reqD_of, dec_t, dec_f, wrap_i64, wrap_u32, wrap_u64, wrap_u8]
          exact wait _ h9
      · have q4 : ¬ x.st = 3 := fun h => q3 (.inl h)
        have q5 : ¬ x.st = 5 := fun h => q3 (.inr h)
        rw [if_neg q1, if_neg q2, if_neg q3] at eF
        simp -dsimp -implicitDefEqProofs (disch := omega) only [go_sem, reqD_of, dec_t, dec_f, wrap_i64, wrap_u32, wrap_u64, wrap_u8, cb, q1, q2, q4, q5]
        refine flush_16 (B := B) (bf := bf) (id := id) (told := 0) hrl hbf rfl (by simp -dsimp -implicitDefEqProofs only [go_sem]) (by simp -dsimp -implicitDefEqProofs only [go_sem]) (by simp -dsimp -implicitDefEqProofs only [go_sem]) hR fun w' h' => ?_
        rw [eF]
        exact ⟨shut _ _ _ _ h' (ids_set hps), rfl⟩

end
end Go.Proofs.Yteefkhfmpcaccaa

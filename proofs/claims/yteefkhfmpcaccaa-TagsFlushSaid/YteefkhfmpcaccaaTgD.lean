/- The tags package: Reply, Reset, Rows and Waiting of an empty table. -/
import Derived.Test.YteefkhfmpcaccaaTgC
namespace Go.Proofs.Yteefkhfmpcaccaa
open Go Go.Sort Go.RowKit Go.Shelf
set_option linter.unusedSimpArgs false
set_option linter.unusedVariables false
set_option maxRecDepth 100000

theorem intsAt {w0 w : World} {A : HP} {v : Value} {l : List Int} (h : St w0 A w) (hr : Ent A (Reads 1 v l.length (intR l))) : ∃ a c, v = .slice a l.length c ∧ ∀ i (hi : i < l.length), ∃ b o, a = some ⟨b, o, none⟩ ∧ w.cell? ⟨b, o + i, none⟩ = some (encI (l[i]'hi)) := by
  obtain ⟨a, c, hv, _, hz⟩ := ((h.ent hr).rd).form
  refine ⟨a, c, hv, fun i hi => ?_⟩
  rcases hz with hz | ⟨b, o, rfl, hz⟩
  · have := congrArg List.length hz
    simp only [intR, List.length_map, List.length_nil] at this
    omega
  · refine ⟨b, o, rfl, ?_⟩
    have := hz i (by simpa [intR] using hi)
    rw [this, intR, List.getElem?_map, List.getElem?_eq_getElem hi]
    rfl

abbrev TrueV : Unit → Value := fun _ => .bool true
/-- The loop over those who wait, so far. -/
theorem goR_step {k : Int} {ks : List Int} {th : List (Int × Unit)} {t : TbD} {o : One} (h : agt k t.ids = some o) : goR (k :: ks) th t = if o.st = 5 ∧ (agt o.wt th).isSome = true then goR ks (aset k () th) (fldS t k o) else goR ks th t := by
  simp only [goR, h]
theorem aset_keys_same {α : Type} {k : Int} {o o' : α} : ∀ {l : List (Int × α)}, agt k l = some o → (aset k o' l).map (·.1) = l.map (·.1)
  | [], h => by cases h
  | (y, u) :: l, h => by
    simp only [agt] at h
    simp only [aset]
    split
    · rename_i e; simp [e]
    · rename_i e
      rw [if_neg e] at h
      simp only [List.map_cons, aset_keys_same h]
theorem goR_ids : ∀ (ks : List Int) (th : List (Int × Unit)) (t : TbD), ((goR ks th t).ids.map (·.1)) = t.ids.map (·.1) := by
  intro ks
  induction ks with
  | nil => intro th t; rfl
  | cons k ks ih =>
    intro th t
    simp only [goR]
    cases hk : agt k t.ids with
    | none => exact ih th t
    | some o =>
      simp only
      split
      · rw [ih]
        simp only [fldS]
        exact aset_keys_same hk
      · exact ih th t

section
attribute [local go_sem] F24.t16_eq F24.t11_eq F24.t17_eq F24.t4_eq
theorem reply_any {w0 w : World} {F : HP} {B : Nat} {t : TbD} {id : Int} {m : MsgD} (hl : t.row.length < 500000) (hi : t.ids.length < 500000) (h : St w0 (TbP B t * F) w) :
    Calls Try.prog 24 #[.pointer (some ⟨B, 0, none⟩), .int .i64 id, msgV m] w fun e w' => ∃ ks, ks.Perm (t.ids.map (·.1)) ∧ ks.Pairwise (· ≤ ·) ∧ St w0 (TbP B (repS t id m ks) * F) w' ∧ e = .returned (.int .i64 (if repB t id = true then 0 else 142)) := by
  -- any list of keys will do where nothing is done
  have some_keys : ∃ ks : List Int, ks.Perm (t.ids.map (·.1)) ∧ ks.Pairwise (· ≤ ·) := by
    refine ⟨(t.ids.map (·.1)).mergeSort fun x y => decide (x ≤ y), List.mergeSort_perm _ _, ?_⟩
    have := List.pairwise_mergeSort (le := fun x y : Int => decide (x ≤ y)) (fun a b c h1 h2 => by simp at *; omega) (fun a b => by simp; omega) (t.ids.map (·.1))
    exact this.imp fun h => by simpa using h
  obtain ⟨m1, m2, v, ps, hps, h1⟩ := TbP.open h
  have back : ∀ w', St w0 (Blk B (tbB t.last m1 m2 v) * (MapP encI m1 (amap ptrO ps) * (ones ps * (MapP encT m2 (amap encI t.tags) * (RowO 104 38 v t.row.length (t.row.flatMap repC) * F))))) w' → St w0 (TbP B t * F) w' := fun w' h => TbP.col (B := B) (m1 := m1) (m2 := m2) (v := v) h hps rfl rfl rfl
  refine F24.calls (by simp) ?_
  unfold F24.code
  unfold msgV msgC
  simp -dsimp -implicitDefEqProofs (disch := omega) only [go_sem, reqD_of, dec_t, dec_f, wrap_i64, wrap_u32, wrap_u64, wrap_u8]
  refine h1.new fun X w2 h2 => ?_
  have h2 : St w0 (Blk X (.cells (msgC m).toArray 77 (0, 0)) * (Blk B (tbB t.last m1 m2 v) * (MapP encI m1 (amap ptrO ps) * (ones ps * (MapP encT m2 (amap encI t.tags) * (RowO 104 38 v t.row.length (t.row.flatMap repC) * F)))))) w2 := h2
  have cB := h2.cl B
  simp -dsimp -implicitDefEqProofs (disch := omega) only [go_sem, reqD_of, dec_t, dec_f, wrap_i64, wrap_u32, wrap_u64, wrap_u8, cB]
  refine h2.lkH (b := m1) Try.underlying90 lawI zeroV_one ?_
  rw [lk_amap]
  cases hk : agt id t.ids with
  | none =>
    rw [ids_none hps hk]
    simp only [Option.map_none, lkV_none]
    obtain ⟨ks, hk1, hk2⟩ := some_keys
    have e1 : repB t id = false := by unfold repB; rw [hk]
    have e2 : repS t id m ks = t := by unfold repS; rw [hk]
    simp -dsimp -implicitDefEqProofs (disch := omega) only [go_sem, reqD_of, dec_t, dec_f, wrap_i64, wrap_u32, wrap_u64, wrap_u8]
    exact ⟨ks, hk1, hk2, by rw [e2]; exact back _ h2.right, by rw [e1]; rfl⟩
  | some o =>
    obtain ⟨b, hb⟩ := ids_some hps hk
    rw [hb]
    simp only [Option.map_some, lkV_some, ptrO]
    have h3 := ones_out h2 hb
    have cb := h3.cl b
    simp only [oneC] at cb
    by_cases q : o.st = 3
    case neg =>
      obtain ⟨ks, hk1, hk2⟩ := some_keys
      have e1 : repB t id = false := by unfold repB; rw [hk]; simp [q]
      have e2 : repS t id m ks = t := by unfold repS; rw [hk]; simp [q]
      simp -dsimp -implicitDefEqProofs (disch := omega) only [go_sem, reqD_of, dec_t, dec_f, wrap_i64, wrap_u32, wrap_u64, wrap_u8, cb, q]
      exact ⟨ks, hk1, hk2, by rw [e2]; exact back _ h2.right, by rw [e1]; rfl⟩
    have e1 : repB t id = true := by unfold repB; rw [hk]; simp [q]
    simp -dsimp -implicitDefEqProofs (disch := omega) only [go_sem, reqD_of, dec_t, dec_f, wrap_i64, wrap_u32, wrap_u64, wrap_u8, cb, q]
    refine h3.sto (b := b) (off := 2) (by simp [oneC]) rfl fun w4 h4 => ?_
    have h4 : St w0 (Blk X (.cells (msgC m).toArray 77 (0, 0)) * (Blk b (oneB id { o with st := 4 }) * (ones (adel id ps) * (Blk B (tbB t.last m1 m2 v) * (MapP encI m1 (amap ptrO ps) * (MapP encT m2 (amap encI t.tags) * (RowO 104 38 v t.row.length (t.row.flatMap repC) * F))))))) w4 := h4.ac (by simp only [oneC, List.setIfInBounds_toArray, List.set_cons_succ, List.set_cons_zero]; ac_rfl)
    have rX := h4.rowH X 36 rfl
    simp -dsimp -implicitDefEqProofs (disch := omega) only [go_sem, reqD_of, dec_t, dec_f, wrap_i64, wrap_u32, wrap_u64, wrap_u8, rX]
    refine (own_any (m := m) h4).mono ?_
    rintro e w5 ⟨h5, rfl⟩
    simp -dsimp -implicitDefEqProofs (disch := omega) only [go_sem, reqD_of, dec_t, dec_f, wrap_i64, wrap_u32, wrap_u64, wrap_u8]
    refine h5.stoAll (b := X) (cs := msgC m) rfl rfl (msgC_cells m) fun w6 h6 => ?_
    have cb := h6.cl b
    simp only [oneC] at cb
    simp -dsimp -implicitDefEqProofs (disch := omega) only [go_sem, reqD_of, dec_t, dec_f, wrap_i64, wrap_u32, wrap_u64, wrap_u8, cb]
    refine h6.sto (b := X) (off := 1) (by simp [msgC]) rfl fun w7 h7 => ?_
    have h7 : St w0 (Blk X (.cells (msgC { m with tag := o.tag }).toArray 77 (0, 0)) * (Blk b (oneB id { o with st := 4 }) * (ones (adel id ps) * (Blk B (tbB t.last m1 m2 v) * (MapP encI m1 (amap ptrO ps) * (MapP encT m2 (amap encI t.tags) * (RowO 104 38 v t.row.length (t.row.flatMap repC) * F))))))) w7 := h7
    have h8 := h7.drew
    have cB := h8.cl B
    have rX := h8.rowH X 36 rfl
    simp -dsimp -implicitDefEqProofs (disch := omega) only [go_sem, reqD_of, dec_t, dec_f, wrap_i64, wrap_u32, wrap_u64, wrap_u8, cB, rX]
    refine onV_of (v := .agg (repC ⟨{ m with tag := o.tag }, id, true⟩).toArray) (by kernel_rfl) ?_
    simp -dsimp -implicitDefEqProofs (disch := omega) only [go_sem, reqD_of, dec_t, dec_f, wrap_i64, wrap_u32, wrap_u64, wrap_u8, cB, rX]
    refine h8.lit (n := 1) (cells := repC ⟨{ m with tag := o.tag }, id, true⟩) fact_rowTy_92 (by kernel_rfl) (by decide) (by decide) fun v1 w9 h9 => ?_
    have cB := h9.cl B
    have rX := h9.rowH X 36 rfl
    simp -dsimp -implicitDefEqProofs (disch := omega) only [go_sem, reqD_of, dec_t, dec_f, wrap_i64, wrap_u32, wrap_u64, wrap_u8, cB, rX]
    refine h9.app (v := v) fact_rowTy_92 ((Ent.left _ _).trans (RowO.reads _ _ _ _ _)) Try.underlying92 (repC_cells _) (fun h => by simp [repC] at h) (by simp only [maxLen]; omega) (by omega) fun v2 w10 h10 => ?_
    have cB := h10.cl B
    have rX := h10.rowH X 36 rfl
    simp -dsimp -implicitDefEqProofs (disch := omega) only [go_sem, reqD_of, dec_t, dec_f, wrap_i64, wrap_u32, wrap_u64, wrap_u8, cB, rX]
    have hv2 : isCell v2 = true := by obtain ⟨a, c, rfl, _⟩ := h10.rowForm v2; rfl
    refine h10.sto (b := B) (off := 4) (by simp) hv2 fun w11 h11 => ?_
    simp -dsimp -implicitDefEqProofs (disch := omega) only [go_sem, reqD_of, dec_t, dec_f, wrap_i64, wrap_u32, wrap_u64, wrap_u8]
    refine h11.makeMap (enc := encI) fun mt w12 h12 => ?_
    simp -dsimp -implicitDefEqProofs (disch := omega) only [go_sem, reqD_of, dec_t, dec_f, wrap_i64, wrap_u32, wrap_u64, wrap_u8]
    refine h12.updH (b := mt) (v := .bool true) Try.underlying122 lawI fun w13 h13 => ?_
    have e2 : (t.row ++ [(⟨{ m with tag := o.tag }, id, true⟩ : Rep)]).length = t.row.length + 1 := by simp
    have e3 : (t.row ++ [(⟨{ m with tag := o.tag }, id, true⟩ : Rep)]).flatMap repC = t.row.flatMap repC ++ repC ⟨{ m with tag := o.tag }, id, true⟩ := by simp
    obtain ⟨row', hrow⟩ : ∃ row', row' = t.row ++ [(⟨{ m with tag := o.tag }, id, true⟩ : Rep)] := ⟨_, rfl⟩
    rw [← hrow] at e2 e3
    have h14 : St w0 (Blk b (oneB id { o with st := 4 }) * (ones (adel id ps) * (Blk B (tbB t.last m1 m2 v2) * (MapP encI m1 (amap ptrO ps) * (MapP encT m2 (amap encI t.tags) * (RowO 104 38 v2 row'.length (row'.flatMap repC) * (MapP encI mt (amap TrueV [(id, ())]) * F))))))) w13 := by
      rw [e2, e3]
      have h := h13.ac (by ac_rfl : _ = RowO 104 38 v1 1 (repC ⟨{ m with tag := o.tag }, id, true⟩) * (Blk X (.cells (msgC { m with tag := o.tag }).toArray 77 (0, 0)) * (Blk b (oneB id { o with st := 4 }) * (ones (adel id ps) * (Blk B (tbB t.last m1 m2 v2) * (MapP encI m1 (amap ptrO ps) * (MapP encT m2 (amap encI t.tags) * (RowO 104 38 v2 (t.row.length + 1) (t.row.flatMap repC ++ repC ⟨{ m with tag := o.tag }, id, true⟩) * (MapP encI mt (upd id (.bool true) []) * F)))))))))
      exact h.right.right
    have h15 := ones_in (ps := ps) (n := id) (o' := { o with st := 4 }) h14 hb
    have e4 : repS t id m = fun ks => goR ks [(id, ())] (ansS t id o m) := by funext ks; unfold repS; rw [hk]; simp [q]
    have hT : St w0 (TbP B (ansS t id o m) * (MapP encI mt (amap TrueV [(id, ())]) * F)) w13 := by
      rw [← ptr_same (o' := { o with st := 4 }) hb] at h15
      exact TbP.col (B := B) (m1 := m1) (m2 := m2) (v := v2) (last := t.last) (tags := t.tags) (ps := aset id (b, { o with st := 4 }) ps) (row := row') (t := ansS t id o m) h15 (ids_set hps) rfl rfl hrow
    have hkeys : ((ansS t id o m).ids.map (·.1)) = t.ids.map (·.1) := by
      simp only [ansS]
      exact aset_keys_same hk
    have hil : (ansS t id o m).ids.length = t.ids.length := by
      have := congrArg List.length hkeys
      simpa using this
    have hrl : (ansS t id o m).row.length = t.row.length + 1 := by simp [ansS]
    generalize ansS t id o m = t4 at hT hkeys hil hrl e4
    simp -dsimp -implicitDefEqProofs (disch := omega) only [go_sem, reqD_of, dec_t, dec_f, wrap_i64, wrap_u32, wrap_u64, wrap_u8]
    refine (sorted_any (by omega) hT).mono ?_
    rintro e w16 ⟨v3, ks, hp, hs, h16, rfl⟩
    rw [hkeys] at hp
    have hkl : ks.length = t.ids.length := by have := hp.length_eq; simpa using this
    obtain ⟨a3, c3, rfl, _⟩ := h16.rowForm v3
    simp -dsimp -implicitDefEqProofs (disch := omega) only [go_sem, reqD_of, dec_t, dec_f, wrap_i64, wrap_u32, wrap_u64, wrap_u8]
    refine loop_intro (fun e w' => e.ds = [] ∧ e.ρ 0 = .pointer (some ⟨B, 0, none⟩) ∧ e.ρ 8 = .map (some mt) ∧ e.ρ 53 = .slice a3 ks.length c3 ∧ e.ρ 54 = .int .i64 ks.length ∧ ∃ (i : Nat) (th : List (Int × Unit)) (t' : TbD), i ≤ ks.length ∧ e.ρ 55 = .int .i64 i ∧ goR (ks.drop i) th t' = goR ks [(id, ())] t4 ∧ (t'.ids.map (·.1)) = t4.ids.map (·.1) ∧ t'.row.length ≤ t4.row.length + i ∧
        St w0 (RowO 3 1 (.slice a3 ks.length c3) ks.length (intR ks) * (TbP B t' * (MapP encI mt (amap TrueV th) * F))) w')
      (fun e _ => match e.ρ 55 with | .int _ n => (ks.length - n).toNat | _ => 0) ?_ ?_
    · exact ⟨rfl, by simp -dsimp -implicitDefEqProofs only [go_sem], by simp -dsimp -implicitDefEqProofs only [go_sem], by simp -dsimp -implicitDefEqProofs only [go_sem], by simp -dsimp -implicitDefEqProofs only [go_sem], 0, _, t4, by omega, by simp -dsimp -implicitDefEqProofs only [go_sem], rfl, rfl, by omega, h16⟩
    rintro e w17 ⟨hd, e0, e8, e53, e54, i, th, t', hik, e55, hgo, hky, hrw, h17⟩
    by_cases hlt : (i : Int) < ks.length
    case neg =>
      have : i = ks.length := by omega
      subst this
      rw [List.drop_length] at hgo
      simp -dsimp -implicitDefEqProofs (disch := omega) only [go_sem, reqD_of, dec_t, dec_f, wrap_i64, wrap_u32, wrap_u64, wrap_u8, hd, e0, e8, e53, e54, e55, hlt]
      refine ⟨ks, hp, hs, ?_, by rw [e1]; rfl⟩
      rw [show repS t id m ks = goR ks [(id, ())] t4 from congrFun e4 ks, ← hgo]
      exact h17.right.drop2
    have hil2 : i < ks.length := by omega
    obtain ⟨_, _, hv, hcl⟩ := intsAt h17 ((Ent.left _ _).trans (RowO.reads _ _ _ _ _))
    simp only [Value.slice.injEq, true_and] at hv
    obtain ⟨rfl, rfl⟩ := hv
    obtain ⟨b3, o3, rfl, hc⟩ := hcl i hil2
    have hmem : ks[i] ∈ t'.ids.map (·.1) := by
      rw [hky, hkeys]
      exact hp.mem_iff.1 (List.getElem_mem hil2)
    obtain ⟨x, hx⟩ := Option.isSome_iff_exists.1 (agt_isSome_iff.2 hmem)
    have hdr : ks.drop i = ks[i] :: ks.drop (i + 1) := List.drop_eq_getElem_cons hil2
    rw [hdr, goR_step hx] at hgo
    generalize ks[i] = k at hc hx hgo
    obtain ⟨ps', hps', h18⟩ := TbP.places (F := RowO 3 1 (.slice (some ⟨b3, o3, none⟩) ks.length c3) ks.length (intR ks) * (MapP encI mt (amap TrueV th) * F)) (h17.ac (by ac_rfl))
    obtain ⟨n1, n2, v5, h19⟩ := TbR.open h18
    obtain ⟨bx, hbx⟩ := ids_some hps' hx
    have cB := h19.cl B
    simp -dsimp -implicitDefEqProofs (disch := omega) only [go_sem, reqD_of, dec_t, dec_f, wrap_i64, wrap_u32, wrap_u64, wrap_u8, hd, e0, e8, e53, e54, e55, hlt, hc, cB]
    refine h19.lkH (b := n1) Try.underlying90 lawI zeroV_one ?_
    rw [lk_amap, hbx]
    simp only [Option.map_some, lkV_some, ptrO]
    have h20 := ones_out h19 hbx
    have cb := h20.cl bx
    simp only [oneC] at cb
    by_cases q5 : x.st = 5
    case neg =>
      rw [if_neg (fun h => q5 h.1)] at hgo
      simp -dsimp -implicitDefEqProofs (disch := omega) only [go_sem, reqD_of, dec_t, dec_f, wrap_i64, wrap_u32, wrap_u64, wrap_u8, hd, e0, e8, e53, e54, e55, cb, q5]
      exact ⟨⟨i + 1, th, t', by omega, rfl, hgo, hky, by omega, h17⟩, by omega⟩
    simp -dsimp -implicitDefEqProofs (disch := omega) only [go_sem, reqD_of, dec_t, dec_f, wrap_i64, wrap_u32, wrap_u64, wrap_u8, hd, e0, e8, e53, e54, e55, cb, q5]
    refine h19.lkH (b := mt) Try.underlying122 lawI zeroV_bool ?_
    rw [lk_amap]
    cases hth : agt x.wt th with
    | none =>
      rw [if_neg (fun h => by rw [hth] at h; simp at h)] at hgo
      simp only [Option.map_none, lkV_none]
      simp -dsimp -implicitDefEqProofs (disch := omega) only [go_sem, reqD_of, dec_t, dec_f, wrap_i64, wrap_u32, wrap_u64, wrap_u8, hd, e0, e8, e53, e54, e55]
      exact ⟨⟨i + 1, th, t', by omega, rfl, hgo, hky, by omega, h17⟩, by omega⟩
    | some u =>
      rw [if_pos ⟨q5, by rw [hth]; rfl⟩] at hgo
      simp only [Option.map_some, lkV_some]
      simp -dsimp -implicitDefEqProofs (disch := omega) only [go_sem, reqD_of, dec_t, dec_f, wrap_i64, wrap_u32, wrap_u64, wrap_u8, hd, e0, e8, e53, e54, e55]
      refine h18.updH (b := mt) (v := TrueV ()) Try.underlying122 lawI fun w21 h21 => ?_
      rw [upd_amap] at h21
      simp -dsimp -implicitDefEqProofs (disch := omega) only [go_sem, reqD_of, dec_t, dec_f, wrap_i64, wrap_u32, wrap_u64, wrap_u8, hd, e0, e8, e53, e54, e55]
      refine (flushed_any (B := B) (b := bx) (id := k) (o := x) (by omega) hbx h21).mono ?_
      rintro e' w22 ⟨h22, rfl⟩
      have h23 := TbR.shut (t := fldS t' k x) h22 (ids_set hps') rfl rfl rfl
      simp -dsimp -implicitDefEqProofs (disch := omega) only [go_sem, reqD_of, dec_t, dec_f, wrap_i64, wrap_u32, wrap_u64, wrap_u8, hd, e0, e8, e53, e54, e55]
      refine ⟨⟨i + 1, aset k () th, fldS t' k x, by omega, rfl, hgo, ?_, ?_, h23.ac (by ac_rfl)⟩, by omega⟩
      · have := goR_ids [k] [(x.wt, ())] t'
        simp only [goR, hx, q5, agt, if_true, Option.isSome_some, and_self] at this
        rw [this, hky]
      · simp only [fldS, List.length_append, List.length_cons, List.length_nil]
        omega

def opB (t : TbD) (k : Int) : Bool := match agt k t.ids with | some o => decide (o.st = 1) | none => false

end
section
attribute [local go_sem] F21.t7_eq F21.t4_eq F21.t8_eq
theorem reset_any {w0 w : World} {F : HP} {B : Nat} {t : TbD} (hi : t.ids.length < 500000) (h : St w0 (TbP B t * F) w) :
    Calls Try.prog 21 #[.pointer (some ⟨B, 0, none⟩)] w fun e w' => ∃ (v : Value) (ks : List Int), ks.Perm (t.ids.map (·.1)) ∧ ks.Pairwise (· ≤ ·) ∧ St w0 (RowO 3 1 v (ks.filter (opB t)).length (intR (ks.filter (opB t))) * (TbP B ⟨t.last, [], [], []⟩ * F)) w' ∧ e = .returned v := by
  refine F21.calls (by simp) ?_
  unfold F21.code
  simp -dsimp -implicitDefEqProofs (disch := omega) only [go_sem, reqD_of, dec_t, dec_f, wrap_i64, wrap_u32, wrap_u64, wrap_u8]
  refine (sorted_any (by omega) h).mono ?_
  rintro e w1 ⟨v3, ks, hp, hs, h1, rfl⟩
  have hkl : ks.length = t.ids.length := by have := hp.length_eq; simpa using this
  obtain ⟨a3, c3, rfl, _⟩ := h1.rowForm v3
  simp -dsimp -implicitDefEqProofs (disch := omega) only [go_sem, reqD_of, dec_t, dec_f, wrap_i64, wrap_u32, wrap_u64, wrap_u8]
  refine loop_intro (fun e w' => e.ds = [] ∧ e.ρ 0 = .pointer (some ⟨B, 0, none⟩) ∧ e.ρ 7 = .slice a3 ks.length c3 ∧ e.ρ 8 = .int .i64 ks.length ∧ ∃ (i : Nat) (v : Value), i ≤ ks.length ∧ e.ρ 9 = .int .i64 i ∧ e.ρ 3 = v ∧
      St w0 (RowO 3 1 v ((ks.take i).filter (opB t)).length (intR ((ks.take i).filter (opB t))) * (RowO 3 1 (.slice a3 ks.length c3) ks.length (intR ks) * (TbP B t * F))) w')
    (fun e _ => match e.ρ 9 with | .int _ n => (ks.length - n).toNat | _ => 0) ?_ ?_
  · exact ⟨rfl, by simp -dsimp -implicitDefEqProofs only [go_sem], by simp -dsimp -implicitDefEqProofs only [go_sem], by simp -dsimp -implicitDefEqProofs only [go_sem], 0, .slice none 0 0, by omega, by simp -dsimp -implicitDefEqProofs only [go_sem], by simp -dsimp -implicitDefEqProofs only [go_sem], h1.nilR 3 1⟩
  rintro e w2 ⟨hd, e0, e7, e8, i, v, hik, e9, e3, h2⟩
  by_cases hlt : (i : Int) < ks.length
  case neg =>
    have : i = ks.length := by omega
    subst this
    rw [List.take_length] at h2
    obtain ⟨m1, m2, v5, ps, hps, h3⟩ := TbP.open (F := RowO 3 1 v (ks.filter (opB t)).length (intR (ks.filter (opB t))) * F) (h2.drop2.ac (by ac_rfl))
    have cB := h3.cl B
    simp -dsimp -implicitDefEqProofs (disch := omega) only [go_sem, reqD_of, dec_t, dec_f, wrap_i64, wrap_u32, wrap_u64, wrap_u8, hd, e0, e7, e8, e9, e3, hlt, cB]
    refine h3.clearH (b := m1) Try.underlying90 fun w4 h4 => ?_
    have cB := h4.cl B
    simp -dsimp -implicitDefEqProofs (disch := omega) only [go_sem, reqD_of, dec_t, dec_f, wrap_i64, wrap_u32, wrap_u64, wrap_u8, hd, e0, e7, e8, e9, e3, hlt, cB]
    refine h4.clearH (b := m2) Try.underlying91 fun w5 h5 => ?_
    have cB := h5.cl B
    simp -dsimp -implicitDefEqProofs (disch := omega) only [go_sem, reqD_of, dec_t, dec_f, wrap_i64, wrap_u32, wrap_u64, wrap_u8, hd, e0, e7, e8, e9, e3, hlt, cB]
    refine h5.sto (b := B) (off := 4) (by simp) rfl fun w6 h6 => ?_
    simp -dsimp -implicitDefEqProofs (disch := omega) only [go_sem, reqD_of, dec_t, dec_f, wrap_i64, wrap_u32, wrap_u64, wrap_u8, hd, e0, e7, e8, e9, e3]
    refine ⟨v, ks, hp, hs, ?_, rfl⟩
    have h7 : St w0 (ones ps * (RowO 104 38 v5 t.row.length (t.row.flatMap repC) * (Blk B (tbB t.last m1 m2 (.slice none 0 0)) * (MapP encI m1 (amap ptrO []) * (MapP encT m2 (amap encI []) * (RowO 3 1 v (ks.filter (opB t)).length (intR (ks.filter (opB t))) * F)))))) w6 := h6.ac (by simp only [List.setIfInBounds_toArray, List.set_cons_succ, List.set_cons_zero]; ac_rfl)
    have h8 := (h7.right.right.nilR 104 38).ent (Ent.empL _)
    have h9 := TbP.col (B := B) (m1 := m1) (m2 := m2) (ps := []) (tags := []) (row := []) (v := .slice none 0 0) (last := t.last) (t := ⟨t.last, [], [], []⟩) (show St w0 (ones [] * (RowO 104 38 (.slice none 0 0) ([] : List Rep).length (([] : List Rep).flatMap repC) * (Blk B (tbB t.last m1 m2 (.slice none 0 0)) * (MapP encI m1 (amap ptrO []) * (MapP encT m2 (amap encI []) * (RowO 3 1 v (ks.filter (opB t)).length (intR (ks.filter (opB t))) * F)))))) w6 from h8) rfl rfl rfl rfl
    exact h9.ac (by ac_rfl)
  have hil2 : i < ks.length := by omega
  obtain ⟨_, _, hv, hcl⟩ := intsAt h2 ((Ent.right _ _).trans ((Ent.left _ _).trans (RowO.reads _ _ _ _ _)))
  simp only [Value.slice.injEq, true_and] at hv
  obtain ⟨rfl, rfl⟩ := hv
  obtain ⟨b3, o3, rfl, hc⟩ := hcl i hil2
  have hmem : ks[i] ∈ t.ids.map (·.1) := hp.mem_iff.1 (List.getElem_mem hil2)
  obtain ⟨x, hx⟩ := Option.isSome_iff_exists.1 (agt_isSome_iff.2 hmem)
  have htk : (ks.take (i + 1)).filter (opB t) = (ks.take i).filter (opB t) ++ if opB t ks[i] = true then [ks[i]] else [] := by
    rw [List.take_succ_eq_append_getElem hil2, List.filter_append]
    congr 1
    rw [List.filter_cons]
    split <;> rfl
  have hob : opB t ks[i] = decide (x.st = 1) := by unfold opB; rw [hx]
  rw [hob] at htk
  have hfl : ((ks.take i).filter (opB t)).length ≤ i := Nat.le_trans (List.length_filter_le _ _) (by rw [List.length_take]; omega)
  generalize ks[i] = k at hc hx htk
  obtain ⟨m1, m2, v5, ps, hps, h3⟩ := TbP.open (F := RowO 3 1 v ((ks.take i).filter (opB t)).length (intR ((ks.take i).filter (opB t))) * (RowO 3 1 (.slice (some ⟨b3, o3, none⟩) ks.length c3) ks.length (intR ks) * F)) (h2.ac (by ac_rfl))
  obtain ⟨bx, hbx⟩ := ids_some hps hx
  have cB := h3.cl B
  simp -dsimp -implicitDefEqProofs (disch := omega) only [go_sem, reqD_of, dec_t, dec_f, wrap_i64, wrap_u32, wrap_u64, wrap_u8, hd, e0, e7, e8, e9, e3, hlt, hc, cB]
  refine h3.lkH (b := m1) Try.underlying90 lawI zeroV_one ?_
  rw [lk_amap, hbx]
  simp only [Option.map_some, lkV_some, ptrO]
  have h4 := ones_out h3 hbx
  have cb := h4.cl bx
  simp only [oneC] at cb
  by_cases q : x.st = 1
  · rw [decide_eq_true q, if_pos rfl] at htk
    simp -dsimp -implicitDefEqProofs (disch := omega) only [go_sem, reqD_of, dec_t, dec_f, wrap_i64, wrap_u32, wrap_u64, wrap_u8, hd, e0, e7, e8, e9, e3, cb, q]
    refine h2.lit (n := 1) (cells := [encI k]) fact_rowTy_31 rfl (by decide) (by decide) fun v1 w7 h7 => ?_
    simp -dsimp -implicitDefEqProofs (disch := omega) only [go_sem, reqD_of, dec_t, dec_f, wrap_i64, wrap_u32, wrap_u64, wrap_u8, hd, e0, e7, e8, e9, e3]
    refine h7.appR (v := v) (x := v1) fact_rowTy_31 Try.underlying31 (intR_cells [k]) (fun h => by simp at h) (show _ ≤ 9223372036854775807 by omega) (by omega) fun v2 w8 h8 => ?_
    simp -dsimp -implicitDefEqProofs (disch := omega) only [go_sem, reqD_of, dec_t, dec_f, wrap_i64, wrap_u32, wrap_u64, wrap_u8, hd, e0, e7, e8, e9, e3]
    refine ⟨⟨i + 1, v2, by omega, rfl, rfl, ?_⟩, by omega⟩
    rw [htk, List.length_append, show intR ((ks.take i).filter (opB t) ++ [k]) = intR ((ks.take i).filter (opB t)) ++ [encI k] by simp [intR]]
    exact h8.right
  · rw [decide_eq_false q, if_neg (by decide), List.append_nil] at htk
    simp -dsimp -implicitDefEqProofs (disch := omega) only [go_sem, reqD_of, dec_t, dec_f, wrap_i64, wrap_u32, wrap_u64, wrap_u8, hd, e0, e7, e8, e9, e3, cb, q]
    refine ⟨⟨i + 1, v, by omega, rfl, rfl, ?_⟩, by omega⟩
    rw [htk]
    exact h2

end
section
attribute [local go_sem] F13.t6_eq F13.t4_eq F13.t7_eq
theorem waiting_none {w0 w : World} {F : HP} {B : Nat} {t : TbD} (hr : t.row = []) (h : St w0 (TbP B t * F) w) :
    Calls Try.prog 13 #[.pointer (some ⟨B, 0, none⟩)] w fun e w' => St w0 (TbP B t * F) w' ∧ e = .returned (.slice none 0 0) := by
  obtain ⟨m1, m2, v, ps, hps, h1⟩ := TbP.open h
  rw [hr] at h1
  obtain ⟨a, c, rfl, _⟩ := h1.rowForm v
  refine F13.calls (by simp) ?_
  unfold F13.code
  have cB := h1.cl B
  simp -dsimp -implicitDefEqProofs (disch := omega) only [go_sem, reqD_of, dec_t, dec_f, wrap_i64, wrap_u32, wrap_u64, wrap_u8, cB, List.length_nil]
  refine loop_intro (fun e w' => w' = w ∧ e.ds = [] ∧ e.ρ 3 = .slice none 0 0 ∧ e.ρ 10 = .int .i64 0 ∧ e.ρ 11 = .int .i64 0) (fun _ _ => 0) ?_ ?_
  · exact ⟨rfl, rfl, by simp -dsimp -implicitDefEqProofs only [go_sem], by simp -dsimp -implicitDefEqProofs only [go_sem, List.length_nil], by simp -dsimp -implicitDefEqProofs only [go_sem]⟩
  rintro e w2 ⟨rfl, hd, e3, e10, e11⟩
  simp -dsimp -implicitDefEqProofs (disch := omega) only [go_sem, reqD_of, dec_t, dec_f, wrap_i64, wrap_u32, wrap_u64, wrap_u8, hd, e3, e10, e11]
  exact TbP.col (B := B) (m1 := m1) (m2 := m2) (v := .slice a 0 c) (row := []) h1 hps rfl rfl hr.symm

end
section
attribute [local go_sem] F12.t4_eq F12.t6_eq
theorem rows_none {w0 w : World} {F : HP} {B : Nat} {t : TbD} (hr : t.ids = []) (h : St w0 (TbP B t * F) w) :
    Calls Try.prog 12 #[.pointer (some ⟨B, 0, none⟩)] w fun e w' => St w0 (TbP B t * F) w' ∧ e = .returned (.slice none 0 0) := by
  obtain ⟨m1, m2, v, ps, hps, h1⟩ := TbP.open h
  obtain rfl : ps = [] := by
    rw [hr] at hps
    simpa [amap] using hps
  refine F12.calls (by simp) ?_
  unfold F12.code
  have cB := h1.cl B
  simp -dsimp -implicitDefEqProofs (disch := omega) only [go_sem, reqD_of, dec_t, dec_f, wrap_i64, wrap_u32, wrap_u64, wrap_u8, cB]
  refine h1.rangeH (b := m1) Try.underlying90 fun r w2 h2 => ?_
  simp -dsimp -implicitDefEqProofs (disch := omega) only [go_sem, reqD_of, dec_t, dec_f, wrap_i64, wrap_u32, wrap_u64, wrap_u8]
  refine loop_intro (fun e w' => w' = w2 ∧ e.ds = [] ∧ e.ρ 3 = .slice none 0 0 ∧ e.ρ 10 = .pointer (some ⟨r, 0, none⟩)) (fun _ _ => 0) ?_ ?_
  · exact ⟨rfl, rfl, by simp -dsimp -implicitDefEqProofs only [go_sem], by simp -dsimp -implicitDefEqProofs only [go_sem]⟩
  rintro e w2 ⟨rfl, hd, e3, e10⟩
  simp -dsimp -implicitDefEqProofs (disch := omega) only [go_sem, reqD_of, dec_t, dec_f, wrap_i64, wrap_u32, wrap_u64, wrap_u8, hd, e3, e10]
  refine h2.nextP (lf := ([] : BOs)) m1 (fun _ => ?_) fun x rest w6 hxr _ => ?_
  · have h3 := h2.iterEnd m1
    simp -dsimp -implicitDefEqProofs (disch := omega) only [go_sem, reqD_of, dec_t, dec_f, wrap_i64, wrap_u32, wrap_u64, wrap_u8, hd, e3, e10]
    refine (AnyF.slices_SortFunc_none { sortRowL with } none 0 _ w2).mono ?_
    rintro e' w5 ⟨rfl, rfl⟩
    simp -dsimp -implicitDefEqProofs (disch := omega) only [go_sem, reqD_of, dec_t, dec_f, wrap_i64, wrap_u32, wrap_u64, wrap_u8, hd, e3, e10]
    exact TbP.col (B := B) (m1 := m1) (m2 := m2) (v := v) (ps := []) h3 hps rfl rfl rfl
  · have := hxr.length_eq
    simp at this

end
end Go.Proofs.Yteefkhfmpcaccaa

/- The tags package: sorted, own, Say, Next, Waiting, Rows (of an empty table). -/
import Derived.Test.YteefkhfmpcaccaaTgB
import Derived.Test.YteefkhfmpcaccaaSrt
import Derived.Test.YteefkhfmpcaccaaLay
namespace Go.Proofs.Yteefkhfmpcaccaa
open Go
set_option linter.unusedSimpArgs false
set_option linter.unusedVariables false
set_option maxRecDepth 100000

abbrev intR (l : List Int) : List Value := l.map encI
theorem intR_cells (l : List Int) : ∀ x ∈ intR l, isCell x = true := by
  intro x hx
  obtain ⟨b, _, rfl⟩ := List.mem_map.1 hx
  rfl

section
attribute [local go_sem] F52.t4_eq F52.t6_eq
theorem sorted_any {w0 w : World} {F : HP} {B : Nat} {t : TbD} (hl : t.ids.length < 1048576) (h : St w0 (TbP B t * F) w) :
    Calls Try.prog 52 #[.pointer (some ⟨B, 0, none⟩)] w fun e w' => ∃ v ks, ks.Perm (t.ids.map (·.1)) ∧ ks.Pairwise (· ≤ ·) ∧ St w0 (RowO 3 1 v ks.length (intR ks) * (TbP B t * F)) w' ∧ e = .returned v := by
  obtain ⟨m1, m2, v0, ps, hps, h1⟩ := TbP.open h
  have hpl : ps.length = t.ids.length := by rw [← hps]; simp [amap]
  refine F52.calls (by simp) ?_
  unfold F52.code
  simp -dsimp -implicitDefEqProofs (disch := omega) only [go_sem, reqD_of, dec_t, dec_f, wrap_i64, wrap_u32, wrap_u64, wrap_u8, h1.cl B]
  refine h1.rangeH (b := m1) Try.underlying90 fun r w2 h2 => ?_
  simp -dsimp -implicitDefEqProofs (disch := omega) only [go_sem, reqD_of, dec_t, dec_f, wrap_i64, wrap_u32, wrap_u64, wrap_u8]
  refine loop_intro (fun e w' => e.ds = [] ∧ e.ρ 9 = .pointer (some ⟨r, 0, none⟩) ∧ ∃ (done left : BOs) (v : Value), (done ++ left).Perm ps ∧ e.ρ 3 = v ∧ St w0 (RowO 3 1 v done.length (intR (done.map (·.1))) * (Blk B (tbB t.last m1 m2 v0) * (IterP encI m1 r (amap ptrO ps) (amap ptrO left) * (ones ps * (MapP encT m2 (amap encI t.tags) * (RowO 104 38 v0 t.row.length (t.row.flatMap repC) * F)))))) w')
    (fun _ w => iterLeft m1 r w) ?_ ?_
  · exact ⟨rfl, by simp -dsimp -implicitDefEqProofs only [go_sem], [], ps, .slice none 0 0, by simp, by simp -dsimp -implicitDefEqProofs only [go_sem], h2.nilR 3 1⟩
  rintro e w5 ⟨hd, e9, done, left, v, hp, e3, h5⟩
  have hleft := h5.iterLeft m1
  simp -dsimp -implicitDefEqProofs (disch := omega) only [go_sem, reqD_of, dec_t, dec_f, wrap_i64, wrap_u32, wrap_u64, wrap_u8, hd, e9, e3]
  refine h5.nextP (lf := left) m1 (fun hnil => ?_) fun x rest w6 hxr h6 => ?_
  · subst hnil
    simp -dsimp -implicitDefEqProofs (disch := omega) only [go_sem, reqD_of, dec_t, dec_f, wrap_i64, wrap_u32, wrap_u64, wrap_u8, hd, e9, e3]
    have h7 := h5.iterEnd m1
    have hpm : (done.map (·.1)).Perm (t.ids.map (·.1)) := by
      rw [← hps, amap_keys]
      exact (by simpa using hp : done.Perm ps).map _
    have hdl : (done.map (·.1)).length = done.length := by simp
    have hdn : done.length = ps.length := by have := hp.length_eq; simpa using this
    refine (St.sortInts (P := Try.prog) sortIntL (T := 3) (l := done.map (·.1)) (v := v) (by rw [hdl]; exact h7) (by rw [hdl]; omega)).mono ?_
    rintro e' w8 ⟨h8, rfl⟩
    simp -dsimp -implicitDefEqProofs (disch := omega) only [go_sem, reqD_of, dec_t, dec_f, wrap_i64, wrap_u32, wrap_u64, wrap_u8, hd, e9, e3]
    refine ⟨v, (done.map (·.1)).mergeSort fun x y => decide (x ≤ y), (List.mergeSort_perm _ _).trans hpm, ?_, ?_, rfl⟩
    · have := List.pairwise_mergeSort (le := fun x y : Int => decide (x ≤ y)) (fun a b c h1 h2 => by simp at *; omega) (fun a b => by simp; omega) (done.map (·.1))
      exact this.imp fun h => by simpa using h
    · rw [List.length_mergeSort]
      have h9 : St w0 (RowO 3 1 v (done.map (·.1)).length (intR ((done.map (·.1)).mergeSort fun x y => decide (x ≤ y))) * (Blk B (tbB t.last m1 m2 v0) * (MapP encI m1 (amap ptrO ps) * (ones ps * (MapP encT m2 (amap encI t.tags) * (RowO 104 38 v0 t.row.length (t.row.flatMap repC) * F)))))) w8 := h8
      have h10 := TbP.col (B := B) (m1 := m1) (m2 := m2) (v := v0) h9 hps rfl rfl rfl
      exact h10.ac (by ac_rfl)
  obtain ⟨k, b, o⟩ := x
  have hel : rest.length + 1 = left.length := by have := hxr.length_eq; simpa using this
  have hdl : done.length + left.length = ps.length := by have := hp.length_eq; simpa using this
  simp -dsimp -implicitDefEqProofs (disch := omega) only [go_sem, reqD_of, dec_t, dec_f, wrap_i64, wrap_u32, wrap_u64, wrap_u8, hd, e9, e3]
  refine h6.entryH m1 ?_
  simp -dsimp -implicitDefEqProofs (disch := omega) only [go_sem, reqD_of, dec_t, dec_f, wrap_i64, wrap_u32, wrap_u64, wrap_u8, hd, e9, e3]
  refine h6.lit (n := 1) (cells := [encI k]) fact_rowTy_31 rfl (by decide) (by decide) fun v1 w7 h7 => ?_
  simp -dsimp -implicitDefEqProofs (disch := omega) only [go_sem, reqD_of, dec_t, dec_f, wrap_i64, wrap_u32, wrap_u64, wrap_u8, hd, e9, e3]
  refine h7.appR (v := v) (x := v1) fact_rowTy_31 Try.underlying31 (intR_cells [k]) (fun h => by simp at h) (show _ ≤ 9223372036854775807 by omega) (by omega) fun v2 w8 h8 => ?_
  have h9 := h8.iterDone m1
  have hl5 := h9.iterLeft m1
  have hla : ∀ q : BOs, (amap ptrO q).length = q.length := fun q => by simp [amap]
  have hpm : (done ++ [(k, (b, o))] ++ rest).Perm ps := by
    refine List.Perm.trans ?_ hp
    rw [List.append_assoc]
    exact List.Perm.append_left done hxr
  simp -dsimp -implicitDefEqProofs (disch := omega) only [go_sem, reqD_of, dec_t, dec_f, wrap_i64, wrap_u32, wrap_u64, wrap_u8, hd, e9, e3]
  refine ⟨⟨done ++ [(k, (b, o))], rest, v2, hpm, rfl, ?_⟩, ?_⟩
  · have e1 : (done ++ [(k, (b, o))]).length = done.length + 1 := by simp
    have e2 : intR ((done ++ [(k, (b, o))]).map (·.1)) = intR (done.map (·.1)) ++ [encI k] := by simp [intR]
    rw [e1, e2]
    exact h9.right
  · rw [hl5, hleft, hla, hla]; omega

end
section
attribute [local go_sem] F59.t3_eq
theorem cloneS_nil {w0 w : World} {F : HP} (h : St w0 F w) : Calls Try.prog 59 #[.slice none 0 0] w fun e w' => St w0 F w' ∧ e = .returned (.slice none 0 0) := by
  refine F59.calls (by simp) ?_
  unfold F59.code
  simp -dsimp -implicitDefEqProofs (disch := omega) only [go_sem, reqD_of, dec_t, dec_f, wrap_i64, wrap_u32, wrap_u64, wrap_u8]
  exact h
end
section
attribute [local go_sem] F60.t3_eq
theorem cloneQ_nil {w0 w : World} {F : HP} (h : St w0 F w) : Calls Try.prog 60 #[.slice none 0 0] w fun e w' => St w0 F w' ∧ e = .returned (.slice none 0 0) := by
  refine F60.calls (by simp) ?_
  unfold F60.code
  simp -dsimp -implicitDefEqProofs (disch := omega) only [go_sem, reqD_of, dec_t, dec_f, wrap_i64, wrap_u32, wrap_u64, wrap_u8]
  exact h
end
section
attribute [local go_sem] F61.t3_eq
theorem cloneB_nil {w0 w : World} {F : HP} (h : St w0 F w) : Calls Try.prog 61 #[.slice none 0 0] w fun e w' => St w0 F w' ∧ e = .returned (.slice none 0 0) := by
  refine F61.calls (by simp) ?_
  unfold F61.code
  simp -dsimp -implicitDefEqProofs (disch := omega) only [go_sem, reqD_of, dec_t, dec_f, wrap_i64, wrap_u32, wrap_u64, wrap_u8]
  exact h

end

theorem own_any {w0 w : World} {F : HP} {m : MsgD} (h : St w0 F w) : Calls Try.prog 32 #[msgV m] w fun e w' => St w0 F w' ∧ e = .returned (msgV m) := by
  refine F32.calls (by simp) ?_
  unfold F32.code
  unfold msgV msgC
  simp -dsimp -implicitDefEqProofs (disch := omega) only [go_sem, reqD_of, dec_t, dec_f, wrap_i64, wrap_u32, wrap_u64, wrap_u8]
  refine h.new fun X w1 h1 => ?_
  simp -dsimp -implicitDefEqProofs (disch := omega) only [go_sem, reqD_of, dec_t, dec_f, wrap_i64, wrap_u32, wrap_u64, wrap_u8]
  refine h1.new fun Y w2 h2 => ?_
  have h2 : St w0 (Blk Y (.cells (msgC ⟨0, 0, ⟨#[]⟩⟩).toArray 77 (0, 0)) * (Blk X (.cells (msgC m).toArray 77 (0, 0)) * F)) w2 := h2
  have cX := h2.cl X
  simp only [msgC] at cX
  simp -dsimp -implicitDefEqProofs (disch := omega) only [go_sem, reqD_of, dec_t, dec_f, wrap_i64, wrap_u32, wrap_u64, wrap_u8, cX]
  refine (cloneS_nil h2).mono ?_
  rintro e w3 ⟨h3, rfl⟩
  have cX := h3.cl X
  simp only [msgC] at cX
  simp -dsimp -implicitDefEqProofs (disch := omega) only [go_sem, reqD_of, dec_t, dec_f, wrap_i64, wrap_u32, wrap_u64, wrap_u8, cX]
  refine h3.sto (b := X) (off := 11) (by simp [msgC]) rfl fun w4 h4 => ?_
  have h4 : St w0 (Blk Y (.cells (msgC ⟨0, 0, ⟨#[]⟩⟩).toArray 77 (0, 0)) * (Blk X (.cells (msgC m).toArray 77 (0, 0)) * F)) w4 := h4
  have cX := h4.cl X
  simp only [msgC] at cX
  simp -dsimp -implicitDefEqProofs (disch := omega) only [go_sem, reqD_of, dec_t, dec_f, wrap_i64, wrap_u32, wrap_u64, wrap_u8, cX]
  refine (cloneQ_nil h4).mono ?_
  rintro e w5 ⟨h5, rfl⟩
  simp -dsimp -implicitDefEqProofs (disch := omega) only [go_sem, reqD_of, dec_t, dec_f, wrap_i64, wrap_u32, wrap_u64, wrap_u8]
  refine h5.sto (b := X) (off := 12) (by simp [msgC]) rfl fun w6 h6 => ?_
  have h6 : St w0 (Blk Y (.cells (msgC ⟨0, 0, ⟨#[]⟩⟩).toArray 77 (0, 0)) * (Blk X (.cells (msgC m).toArray 77 (0, 0)) * F)) w6 := h6
  have cX := h6.cl X
  simp only [msgC] at cX
  simp -dsimp -implicitDefEqProofs (disch := omega) only [go_sem, reqD_of, dec_t, dec_f, wrap_i64, wrap_u32, wrap_u64, wrap_u8, cX]
  refine (cloneB_nil h6).mono ?_
  rintro e w7 ⟨h7, rfl⟩
  simp -dsimp -implicitDefEqProofs (disch := omega) only [go_sem, reqD_of, dec_t, dec_f, wrap_i64, wrap_u32, wrap_u64, wrap_u8]
  refine h7.sto (b := X) (off := 22) (by simp [msgC]) rfl fun w8 h8 => ?_
  have h8 : St w0 (Blk Y (.cells (msgC ⟨0, 0, ⟨#[]⟩⟩).toArray 77 (0, 0)) * (Blk X (.cells (msgC m).toArray 77 (0, 0)) * F)) w8 := h8
  have rX := h8.rowH X 36 rfl
  simp -dsimp -implicitDefEqProofs (disch := omega) only [go_sem, reqD_of, dec_t, dec_f, wrap_i64, wrap_u32, wrap_u64, wrap_u8, rX]
  refine h8.stoAll (b := Y) (cs := msgC m) rfl rfl (msgC_cells m) fun w9 h9 => ?_
  have rY := h9.rowH Y 36 rfl
  simp -dsimp -implicitDefEqProofs (disch := omega) only [go_sem, reqD_of, dec_t, dec_f, wrap_i64, wrap_u32, wrap_u64, wrap_u8]
  refine resC_1 (a := ⟨Y, 0, none⟩) (v := msgV m) (by simp -dsimp -implicitDefEqProofs only [go_sem]) (run_loadVar_row fact_aggSz_77 (by rw [rY]; rfl)) ?_
  exact ⟨h9.right.right, rfl⟩


theorem say_any {w0 w : World} {F : HP} {B : Nat} {t : TbD} {id : Int} {m : MsgD} (hl : t.row.length < 1048576) (h : St w0 (TbP B t * F) w) :
    Calls Try.prog 28 #[.pointer (some ⟨B, 0, none⟩), .int .i64 id, msgV m] w fun e w' => St w0 (TbP B { t with row := t.row ++ [⟨m, id, false⟩] } * F) w' ∧ e = .returned (.tuple #[]) := by
  obtain ⟨m1, m2, v, ps, hps, h1⟩ := TbP.open h
  refine F28.calls (by simp) ?_
  unfold F28.code
  unfold msgV msgC
  simp -dsimp -implicitDefEqProofs (disch := omega) only [go_sem, reqD_of, dec_t, dec_f, wrap_i64, wrap_u32, wrap_u64, wrap_u8]
  refine h1.new fun X w2 h2 => ?_
  have h2 : St w0 (Blk X (.cells (msgC m).toArray 77 (0, 0)) * (Blk B (tbB t.last m1 m2 v) * (MapP encI m1 (amap ptrO ps) * (ones ps * (MapP encT m2 (amap encI t.tags) * (RowO 104 38 v t.row.length (t.row.flatMap repC) * F)))))) w2 := h2
  have h3 := h2.drew
  have cB := h3.cl B
  have rX := h3.rowH X 36 rfl
  simp -dsimp -implicitDefEqProofs (disch := omega) only [go_sem, reqD_of, dec_t, dec_f, wrap_i64, wrap_u32, wrap_u64, wrap_u8, cB, rX]
  refine (own_any (m := m) h3).mono ?_
  rintro e w4 ⟨h4, rfl⟩
  have cB := h4.cl B
  have rX := h4.rowH X 36 rfl
  simp -dsimp -implicitDefEqProofs (disch := omega) only [go_sem, reqD_of, dec_t, dec_f, wrap_i64, wrap_u32, wrap_u64, wrap_u8, cB, rX]
  refine onV_of (v := .agg (repC ⟨m, id, false⟩).toArray) (by kernel_rfl) ?_
  simp -dsimp -implicitDefEqProofs (disch := omega) only [go_sem, reqD_of, dec_t, dec_f, wrap_i64, wrap_u32, wrap_u64, wrap_u8, cB, rX]
  refine h4.lit (n := 1) (cells := repC ⟨m, id, false⟩) fact_rowTy_92 (by kernel_rfl) (by decide) (by decide) fun v1 w5 h5 => ?_
  have cB := h5.cl B
  simp -dsimp -implicitDefEqProofs (disch := omega) only [go_sem, reqD_of, dec_t, dec_f, wrap_i64, wrap_u32, wrap_u64, wrap_u8, cB]
  refine h5.app (v := v) fact_rowTy_92 ((Ent.left _ _).trans (RowO.reads _ _ _ _ _)) Try.underlying92 (repC_cells _) (fun h => by simp [repC] at h) (by simp only [maxLen]; omega) (by omega) fun v2 w6 h6 => ?_
  have cB := h6.cl B
  simp -dsimp -implicitDefEqProofs (disch := omega) only [go_sem, reqD_of, dec_t, dec_f, wrap_i64, wrap_u32, wrap_u64, wrap_u8, cB]
  have hv2 : isCell v2 = true := by obtain ⟨a, c, rfl, _⟩ := h6.rowForm v2; rfl
  refine h6.sto (b := B) (off := 4) (by simp) hv2 fun w7 h7 => ?_
  simp -dsimp -implicitDefEqProofs (disch := omega) only [go_sem, reqD_of, dec_t, dec_f, wrap_i64, wrap_u32, wrap_u64, wrap_u8]
  have e1 : (t.row ++ [(⟨m, id, false⟩ : Rep)]).length = t.row.length + 1 := by simp
  have e2 : (t.row ++ [(⟨m, id, false⟩ : Rep)]).flatMap repC = t.row.flatMap repC ++ repC ⟨m, id, false⟩ := by simp
  have h8 : St w0 (Blk B (tbB t.last m1 m2 v2) * (MapP encI m1 (amap ptrO ps) * (ones ps * (MapP encT m2 (amap encI t.tags) * (RowO 104 38 v2 (t.row ++ [(⟨m, id, false⟩ : Rep)]).length ((t.row ++ [(⟨m, id, false⟩ : Rep)]).flatMap repC) * F))))) w7 := by
    rw [e1, e2]
    exact h7.right.right
  generalize hrow : t.row ++ [(⟨m, id, false⟩ : Rep)] = row' at h8 ⊢
  exact TbP.col (B := B) (m1 := m1) (m2 := m2) (v := v2) (row := row') h8 hps rfl rfl rfl

section
attribute [local go_sem] F22.t9_eq F22.t3_eq
theorem next_none {w0 w : World} {F : HP} {B : Nat} {t : TbD} (hr : t.row = []) (h : St w0 (TbP B t * F) w) :
    Calls Try.prog 22 #[.pointer (some ⟨B, 0, none⟩)] w fun e w' => St w0 (TbP B t * F) w' ∧ e = .returned (.tuple #[msgV ⟨0, 0, noS⟩, .int .i64 0, .bool false]) := by
  obtain ⟨m1, m2, v, ps, hps, h1⟩ := TbP.open h
  rw [hr] at h1
  obtain ⟨a, c, rfl, _⟩ := h1.rowForm v
  refine F22.calls (by simp) ?_
  unfold F22.code
  simp -dsimp -implicitDefEqProofs (disch := omega) only [go_sem, reqD_of, dec_t, dec_f, wrap_i64, wrap_u32, wrap_u64, wrap_u8]
  refine h1.new fun X w2 h2 => ?_
  have cB := h2.cl B
  simp -dsimp -implicitDefEqProofs (disch := omega) only [go_sem, reqD_of, dec_t, dec_f, wrap_i64, wrap_u32, wrap_u64, wrap_u8, cB, List.length_nil]
  refine onV_of (v := msgV ⟨0, 0, ⟨#[]⟩⟩) rfl ?_
  simp -dsimp -implicitDefEqProofs (disch := omega) only [go_sem, reqD_of, dec_t, dec_f, wrap_i64, wrap_u32, wrap_u64, wrap_u8]
  refine h2.stoAll (b := X) (cs := msgC ⟨0, 0, ⟨#[]⟩⟩) rfl rfl (msgC_cells _) fun w3 h3 => ?_
  have rX := h3.rowH X 36 rfl
  simp -dsimp -implicitDefEqProofs (disch := omega) only [go_sem, reqD_of, dec_t, dec_f, wrap_i64, wrap_u32, wrap_u64, wrap_u8]
  refine resC_3 (a := ⟨X, 0, none⟩) (v := msgV ⟨0, 0, noS⟩) (by simp -dsimp -implicitDefEqProofs only [go_sem]) (run_loadVar_row fact_aggSz_77 (by rw [rX]; rfl)) ?_
  simp -dsimp -implicitDefEqProofs (disch := omega) only [go_sem, reqD_of, dec_t, dec_f, wrap_i64, wrap_u32, wrap_u64, wrap_u8]
  exact TbP.col (B := B) (m1 := m1) (m2 := m2) (v := .slice a 0 c) (row := []) h3.right hps rfl rfl hr.symm

/-- A reply in the row. -/
theorem rep_at {w0 w : World} {A : HP} {v : Value} {row : List Rep} (h : St w0 (Reads 38 v row.length (row.flatMap repC)) w) {k : Nat} (hk : k < row.length) : ∃ a c b o, v = .slice a row.length c ∧ a = some ⟨b, o, none⟩ ∧ rowV w ⟨b, o + k * 38, none⟩ 38 = some (.agg (repC (row[k]'hk)).toArray) := by
  obtain ⟨_, a, c, rfl, _, hcl⟩ := St.rowsAt (k := 38) repC_length (by decide) h
  obtain ⟨b, o, rfl, hrow, _⟩ := hcl k hk
  exact ⟨_, _, b, o, rfl, rfl, hrow⟩

end
section
attribute [local go_sem] F22.t3_eq
theorem next_some {w0 w : World} {F : HP} {B : Nat} {t : TbD} {x : Rep} {rest : List Rep} (hr : t.row = x :: rest) (hl : t.row.length < 1048576) (h : St w0 (TbP B t * F) w) :
    Calls Try.prog 22 #[.pointer (some ⟨B, 0, none⟩)] w fun e w' => St w0 (TbP B (popS t x rest) * F) w' ∧ e = .returned (.tuple #[msgV x.m, .int .i64 x.id, .bool true]) := by
  obtain ⟨m1, m2, v, ps, hps, h1⟩ := TbP.open h
  rw [hr] at h1
  have hll : rest.length < 1048576 := by rw [hr] at hl; simp at hl; omega
  obtain ⟨a, c, b, o, rfl, rfl, hrow⟩ := rep_at (A := EmpH) (h1.gives (B := Reads 38 v (x :: rest).length ((x :: rest).flatMap repC))) (k := 0) (by simp)
  simp only [Nat.zero_mul, Nat.add_zero, List.getElem_cons_zero] at hrow
  have hne : ¬ ((x :: rest).length : Int) = 0 := by rw [List.length_cons]; omega
  have hlt : (0 : Int) < ((x :: rest).length : Int) := by rw [List.length_cons]; omega
  refine F22.calls (by simp) ?_
  unfold F22.code
  simp -dsimp -implicitDefEqProofs (disch := omega) only [go_sem, reqD_of, dec_t, dec_f, wrap_i64, wrap_u32, wrap_u64, wrap_u8]
  refine h1.new fun X w2 h2 => ?_
  have cB := h2.cl B
  obtain ⟨a', c', b', o', hv, ha, hrow⟩ := rep_at (A := EmpH) (h2.gives (B := Reads 38 (.slice (some ⟨b, o, none⟩) (x :: rest).length c) (x :: rest).length ((x :: rest).flatMap repC))) (k := 0) (by simp)
  simp only [Value.slice.injEq, true_and] at hv
  obtain ⟨rfl, rfl⟩ := hv
  simp only [Option.some.injEq, Addr.mk.injEq, and_true] at ha
  obtain ⟨rfl, rfl⟩ := ha
  simp only [Nat.zero_mul, Nat.add_zero, List.getElem_cons_zero] at hrow
  simp -dsimp -implicitDefEqProofs (disch := omega) only [go_sem, reqD_of, dec_t, dec_f, wrap_i64, wrap_u32, wrap_u64, wrap_u8, cB, hne, hlt, hrow]
  refine h2.new fun Y w3 h3 => ?_
  simp -dsimp -implicitDefEqProofs (disch := omega) only [go_sem, reqD_of, dec_t, dec_f, wrap_i64, wrap_u32, wrap_u64, wrap_u8]
  refine h3.stoAll (b := Y) (cs := repC x) rfl rfl (repC_cells x) fun w4 h4 => ?_
  have cB := h4.cl B
  have hn1 : (1 : Int) ≤ ((x :: rest).length : Int) := by omega
  obtain ⟨a2, c2, hv2, _, hnc, hcm⟩ := (h4.rowForm (.slice (some ⟨b, o, none⟩) (x :: rest).length c))
  simp only [Value.slice.injEq, true_and] at hv2
  obtain ⟨rfl, rfl⟩ := hv2
  have hnc' : ((x :: rest).length : Int) ≤ c := by omega
  simp -dsimp -implicitDefEqProofs (disch := omega) only [go_sem, reqD_of, dec_t, dec_f, wrap_i64, wrap_u32, wrap_u64, wrap_u8, cB, hne, hlt, hn1, hnc']
  obtain ⟨v2, hv2⟩ : ∃ v2, v2 = Value.slice (if c = 1 then some ⟨b, o, none⟩ else some ⟨b, o + 38, none⟩) rest.length (c - 1) := ⟨_, rfl⟩
  rw [show (x :: rest).length - 1 = rest.length from rfl, ← hv2]
  have hcut := RowO.cut (T := 104) (s := 38) (n := (x :: rest).length) (c := c) (a := some ⟨b, o, none⟩) (xs := (x :: rest).flatMap repC) (lo := 1) (k := rest.length) (m := c) (by simp only [List.length_cons]; omega) (by simp only [List.length_cons] at hnc; omega) (Nat.le_refl _)
  have hdr : (((x :: rest).flatMap repC).drop (1 * 38)).take (rest.length * 38) = rest.flatMap repC := by
    rw [List.flatMap_cons, Nat.one_mul, List.drop_append_of_le_length (by rw [repC_length]; exact Nat.le_refl _), List.drop_of_length_le (by rw [repC_length]; exact Nat.le_refl _), List.nil_append, List.take_of_length_le]
    rw [flatMap_length repC_length]
    exact Nat.le_refl _
  rw [hdr] at hcut
  simp only [Option.map_some, add_lit, Nat.one_mul, ← hv2] at hcut
  have hv2c : isCell v2 = true := by rw [hv2]; rfl
  refine h4.sto (b := B) (off := 4) (by simp) hv2c fun w5 h5 => ?_
  have h5 : St w0 (RowO 104 38 (.slice (some ⟨b, o, none⟩) (x :: rest).length c) (x :: rest).length ((x :: rest).flatMap repC) * (Blk Y (.cells (repC x).toArray 104 (0, 0)) * (Blk X (.cells (msgC ⟨0, 0, ⟨#[]⟩⟩).toArray 77 (0, 0)) * (Blk B (tbB t.last m1 m2 v2) * (MapP encI m1 (amap ptrO ps) * (ones ps * (MapP encT m2 (amap encI t.tags) * F))))))) w5 := h5.ac (by simp only [List.setIfInBounds_toArray, List.set_cons_succ, List.set_cons_zero]; simp only [msgC]; ac_rfl)
  have h6 := h5.ent (Ent.sep hcut (Ent.rfl' _))
  have h7 := h6.drew
  have cB := h7.cl B
  have cY := h7.cl Y
  simp only [repC] at cY
  simp -dsimp -implicitDefEqProofs (disch := omega) only [go_sem, reqD_of, dec_t, dec_f, wrap_i64, wrap_u32, wrap_u64, wrap_u8, cB, cY]
  refine h7.lkH (b := m1) Try.underlying90 lawI zeroV_one ?_
  rw [lk_amap]
  -- the end: what is written goes out
  have fin : ∀ (t' : TbD) (w8 : World) (e : FA), St w0 (TbP B t' * (Blk Y (.cells (repC x).toArray 104 (0, 0)) * (Blk X (.cells (msgC ⟨0, 0, ⟨#[]⟩⟩).toArray 77 (0, 0)) * F))) w8 → e.ds = [] → e.ρ 2 = .pointer (some ⟨X, 0, none⟩) → e.ρ 5 = .pointer (some ⟨Y, 0, none⟩) → t' = popS t x rest →
      cwE Try.prog F22.t9 (fnP Try.prog #[.cell 2 77, .tmp 3, .tmp 4] fun e w' => St w0 (TbP B (popS t x rest) * F) w' ∧ e = .returned (.tuple #[msgV x.m, .int .i64 x.id, .bool true])) e w8 := by
    intro t' w8 e h8 hd e2 e5 ht
    subst ht
    have h9 := h8.drew
    have cY := h9.cl Y
    have rY := h9.rowAtH Y 0 36 (by simp [repC])
    simp only [repC, List.drop_zero, List.take_succ_cons, List.take_zero] at cY rY
    rw [F22.t9_eq]
    simp -dsimp -implicitDefEqProofs (disch := omega) only [go_sem, reqD_of, dec_t, dec_f, wrap_i64, wrap_u32, wrap_u64, wrap_u8, hd, e2, e5, cY, rY]
    refine h9.stoAll (b := X) (cs := msgC x.m) rfl rfl (msgC_cells x.m) fun w10 h10 => ?_
    have rX := h10.rowH X 36 rfl
    have cY := h10.cl Y
    simp only [repC] at cY
    simp -dsimp -implicitDefEqProofs (disch := omega) only [go_sem, reqD_of, dec_t, dec_f, wrap_i64, wrap_u32, wrap_u64, wrap_u8, hd, e2, e5, cY]
    refine resC_3 (a := ⟨X, 0, none⟩) (v := msgV x.m) (by simp -dsimp -implicitDefEqProofs only [go_sem, e2]) (run_loadVar_row fact_aggSz_77 (by rw [rX]; rfl)) ?_
    simp -dsimp -implicitDefEqProofs (disch := omega) only [go_sem, reqD_of, dec_t, dec_f, wrap_i64, wrap_u32, wrap_u64, wrap_u8]
    exact h10.drop3.drop2
  have hcolT : ∀ w', St w0 (RowO 104 38 v2 rest.length (rest.flatMap repC) * (Blk Y (.cells (repC x).toArray 104 (0, 0)) * (Blk X (.cells (msgC ⟨0, 0, ⟨#[]⟩⟩).toArray 77 (0, 0)) * (Blk B (tbB t.last m1 m2 v2) * (MapP encI m1 (amap ptrO ps) * (ones ps * (MapP encT m2 (amap encI t.tags) * F))))))) w' → St w0 (TbP B { t with row := rest } * (Blk Y (.cells (repC x).toArray 104 (0, 0)) * (Blk X (.cells (msgC ⟨0, 0, ⟨#[]⟩⟩).toArray 77 (0, 0)) * F))) w' := fun w' h =>
    TbP.col (B := B) (m1 := m1) (m2 := m2) (v := v2) (row := rest) (t := { t with row := rest }) h hps rfl rfl rfl
  cases hfr : x.fr with
  | false =>
    have e1 : popS t x rest = { t with row := rest } := by unfold popS; simp [hfr]
    simp -dsimp -implicitDefEqProofs (disch := omega) only [go_sem, reqD_of, dec_t, dec_f, wrap_i64, wrap_u32, wrap_u64, wrap_u8, cY, hfr]
    exact fin _ _ _ (hcolT _ h7) (by simp -dsimp -implicitDefEqProofs only [go_sem]) (by simp -dsimp -implicitDefEqProofs only [go_sem]) (by simp -dsimp -implicitDefEqProofs only [go_sem]) e1.symm
  | true =>
    cases hk : agt x.id t.ids with
    | none =>
      have e1 : popS t x rest = { t with row := rest } := by unfold popS; simp [hfr, hk]
      rw [ids_none hps hk]
      simp only [Option.map_none, lkV_none]
      simp -dsimp -implicitDefEqProofs (disch := omega) only [go_sem, reqD_of, dec_t, dec_f, wrap_i64, wrap_u32, wrap_u64, wrap_u8, cY, hfr]
      exact fin _ _ _ (hcolT _ h7) (by simp -dsimp -implicitDefEqProofs only [go_sem]) (by simp -dsimp -implicitDefEqProofs only [go_sem]) (by simp -dsimp -implicitDefEqProofs only [go_sem]) e1.symm
    | some one =>
      have e1 : popS t x rest = freeS (freeS { t with row := rest } one.fr) x.id := by unfold popS; simp [hfr, hk]
      obtain ⟨bo, hbo⟩ := ids_some hps hk
      rw [hbo]
      simp only [Option.map_some, lkV_some, ptrO]
      have h8 := ones_out h7 hbo
      have cb := h8.cl bo
      simp only [oneC] at cb
      simp -dsimp -implicitDefEqProofs (disch := omega) only [go_sem, reqD_of, dec_t, dec_f, wrap_i64, wrap_u32, wrap_u64, wrap_u8, cY, hfr, cb]
      refine (free_any (id := one.fr) (hcolT _ h7)).mono ?_
      rintro e w9 ⟨h9, rfl⟩
      have cY := h9.cl Y
      simp only [repC] at cY
      simp -dsimp -implicitDefEqProofs (disch := omega) only [go_sem, reqD_of, dec_t, dec_f, wrap_i64, wrap_u32, wrap_u64, wrap_u8, cY]
      refine (free_any (id := x.id) h9).mono ?_
      rintro e w10 ⟨h10, rfl⟩
      simp -dsimp -implicitDefEqProofs (disch := omega) only [go_sem, reqD_of, dec_t, dec_f, wrap_i64, wrap_u32, wrap_u64, wrap_u8]
      exact fin _ _ _ h10 (by simp -dsimp -implicitDefEqProofs only [go_sem]) (by simp -dsimp -implicitDefEqProofs only [go_sem]) (by simp -dsimp -implicitDefEqProofs only [go_sem]) e1.symm

end
end Go.Proofs.Yteefkhfmpcaccaa

/- msg's row of Rstat, its field; a record is put behind its count. -/
import Derived.Test.YtonajgmamdeohaaGreatDoorTrF
namespace Go.Proofs.YtonajgmamdeohaaGreatDoor
open Go
set_option linter.unusedVariables false
set_option linter.unusedSimpArgs false
set_option maxRecDepth 100000

theorem kNums_no : ∀ i, i < 24 → kNums[i]? ≠ some 125 := by decide
abbrev rowV25 (vr : Value) : Value := .agg #[.int .u8 125, .string (strOf [82, 115, 116, 97, 116]), vr]
abbrev fld19 : Value := .agg #[.string (strOf [115, 116, 97, 116]), .func (.func 152) #[] #[], .func (.func 153) #[] #[], .func (.func 155) #[] #[], .func (.func 157) #[] #[], .func (.func 158) #[] #[], .func (.func 160) #[] #[]]
abbrev msgC (k t : Int) (d : StatD) : List Value := [.int .u8 k, .int .u16 t, .int .u32 0, .string (strOf []), .int .u32 0, .string (strOf []), .string (strOf []), .string (strOf []), .int .u16 0, .int .u32 0, .int .u32 0, .slice none 0 0, .slice none 0 0, .int .u8 0, .int .u32 0, .int .u64 0, .int .u8 0, .int .u32 0, .string (strOf []), .int .u32 0, .int .u64 0, .int .u32 0, .slice none 0 0, .int .u16 d.ty, .int .u32 d.dev, .int .u8 d.qk, .int .u32 d.qv, .int .u64 d.qp, .int .u32 d.mode, .int .u32 d.at', .int .u32 d.mt, .int .u64 d.len, sv d.name, sv d.uid, sv d.gid, sv d.muid]
abbrev msgB (k t : Int) (d : StatD) : Obj := .cells (msgC k t d).toArray 35 (0, 0)
section
variable {w0 w : World} {F : HP} {d : StatD} {W M : Nat} {s : WS}
section
attribute [local go_sem] F22.t6_eq F22.t3_eq F22.t7_eq
theorem rowOf_any (h : St w0 F w) :
    Calls Tryz.prog 22 #[.int .u8 125] w fun e w' => ∃ vr, isCell vr = true ∧ St w0 (RowO 64 1 vr 1 [.int .u8 19] * F) w' ∧ e = .returned (.tuple #[rowV25 vr, .bool true]) := by
  refine F22.calls (by simp) ?_
  unfold F22.code
  simp -dsimp -implicitDefEqProofs (disch := omega) only [go_sem, reqD_of, dec_t, dec_f, wrap_i64, wrap_u32, wrap_u64, wrap_u8]
  refine h.new fun T2 w1 h1 => ?_
  simp -dsimp -implicitDefEqProofs (disch := omega) only [go_sem, reqD_of, dec_t, dec_f, wrap_i64, wrap_u32, wrap_u64, wrap_u8]
  refine (kinds_any h1).mono ?_
  rintro e w2 ⟨v, vr, rows, hnum, h24, hcell, h2, rfl⟩
  obtain ⟨a, c, rfl, _⟩ := h2.rowForm v
  have hlen : rows.length = 27 := by have := congrArg List.length hnum; simpa [kNums] using this
  simp -dsimp -implicitDefEqProofs (disch := omega) only [go_sem, reqD_of, dec_t, dec_f, wrap_i64, wrap_u32, wrap_u64, wrap_u8]
  refine loop_intro (fun e w' => e.ds = [] ∧ e.ρ 0 = .int .u8 125 ∧ e.ρ 2 = .pointer (some ⟨T2, 0, none⟩) ∧ e.ρ 6 = .slice a 27 c ∧ e.ρ 7 = .int .i64 27 ∧ ∃ i : Nat, i ≤ 24 ∧ e.ρ 8 = .int .i64 i ∧
      St w0 (RowO 61 3 (.slice a 27 c) 27 (rows.flatMap kC) * (RowO 64 1 vr 1 [.int .u8 19] * (Blk T2 (.cells #[.int .u8 0, .string ⟨#[]⟩, .slice none 0 0] 61 (0, 0)) * F))) w')
    (fun e _ => match e.ρ 8 with | .int _ i => (27 - i).toNat | _ => 0) ?_ ?_
  · exact ⟨rfl, by simp -dsimp -implicitDefEqProofs only [go_sem], by simp -dsimp -implicitDefEqProofs only [go_sem], by simp -dsimp -implicitDefEqProofs only [go_sem], by simp -dsimp -implicitDefEqProofs only [go_sem], 0, by omega, by simp -dsimp -implicitDefEqProofs only [go_sem], h2⟩
  clear h h1 h2
  rintro e w ⟨hds, e0, e2, e6, e7, i, hi, e8, h⟩
  have hlt : (i : Int) < 27 := by omega
  have hil : i < rows.length := by omega
  obtain ⟨_, a', c', hv, _, hcl⟩ := St.rowsAt (k := 3) (l := rows) (fun _ => rfl) (by decide) (h.ent ((Ent.left _ _).trans (RowO.reads _ _ _ _ _)))
  simp only [Value.slice.injEq, true_and] at hv
  obtain ⟨rfl, rfl⟩ := hv
  obtain ⟨g, o, rfl, _, hc⟩ := hcl i hil
  obtain ⟨x, hx⟩ : ∃ x, x = rows[i] := ⟨_, rfl⟩
  have hxc := hcell x (by rw [hx]; exact List.getElem_mem hil)
  rw [← hx] at hc
  have c0 := hc 0 (by decide)
  have c1 := hc 1 (by decide)
  have c2 := hc 2 (by decide)
  simp only [kC, Nat.add_zero, List.getElem?_cons_zero, List.getElem?_cons_succ] at c0 c1 c2
  obtain ⟨xk, xn, xv⟩ := x
  simp only at c0 c1 c2 hxc
  have hk : kNums[i]? = some xk := by rw [← hnum, List.getElem?_map, List.getElem?_eq_getElem hil, ← hx]; rfl
  simp -dsimp -implicitDefEqProofs (disch := omega) only [go_sem, reqD_of, dec_t, dec_f, wrap_i64, wrap_u32, wrap_u64, wrap_u8, hds, e0, e2, e6, e7, e8, hlt, c0, c1, c2]
  refine h.new fun X w1 h1 => ?_
  simp -dsimp -implicitDefEqProofs (disch := omega) only [go_sem, reqD_of, dec_t, dec_f, wrap_i64, wrap_u32, wrap_u64, wrap_u8]
  refine h1.stoAll (b := X) (n := 3) (cs := [.int .u8 xk, .string xn, xv]) rfl rfl (fun y hy => by simp only [List.mem_cons, List.not_mem_nil, or_false] at hy; rcases hy with rfl | rfl | rfl <;> first | rfl | exact hxc) fun w2 h2 => ?_
  by_cases hi24 : i < 24
  · have hne : ¬ xk = 125 := fun e => kNums_no i hi24 (by rw [hk, e])
    simp -dsimp -implicitDefEqProofs (disch := omega) only [go_sem, reqD_of, dec_t, dec_f, wrap_i64, wrap_u32, wrap_u64, wrap_u8, hds, e0, e2, e6, e7, e8, hlt, h2.cl X, hne]
    exact ⟨⟨i + 1, by omega, by omega, h2.right⟩, by omega⟩
  · obtain rfl : i = 24 := by omega
    have hx2 : (xk, xn, xv) = ((125, ⟨#[82, 115, 116, 97, 116]⟩, vr) : KRow) := by
      rw [List.getElem?_eq_getElem hil, Option.some.injEq] at h24
      rw [hx, h24]
    simp only [Prod.mk.injEq] at hx2
    obtain ⟨rfl, rfl, rfl⟩ := hx2
    simp -dsimp -implicitDefEqProofs (disch := omega) only [go_sem, reqD_of, dec_t, dec_f, wrap_i64, wrap_u32, wrap_u64, wrap_u8, hds, e0, e2, e6, e7, e8, hlt, h2.cl X]
    refine h2.stoAll (b := T2) (n := 3) (cs := [.int .u8 125, .string (strOf [82, 115, 116, 97, 116]), xv]) rfl rfl (fun y hy => by simp only [List.mem_cons, List.not_mem_nil, or_false] at hy; rcases hy with rfl | rfl | rfl <;> first | rfl | exact hxc) fun w3 h3 => ?_
    simp -dsimp -implicitDefEqProofs (disch := omega) only [go_sem, reqD_of, dec_t, dec_f, wrap_i64, wrap_u32, wrap_u64, wrap_u8, hds]
    have hr : rowV w3 ⟨T2, 0, none⟩ 3 = some (rowV25 xv) := h3.rowH T2 3 rfl
    refine resC_2 (a := ⟨T2, 0, none⟩) (v := rowV25 xv) (by simp -dsimp -implicitDefEqProofs only [go_sem, e2]) (run_loadVar_row fact_aggSz_61 hr) ?_
    refine ⟨xv, hxc, ?_, by simp -dsimp -implicitDefEqProofs only [go_sem]⟩
    exact (h3.ac (show _ = RowO 64 1 xv 1 [.int .u8 19] * F * (RowO 61 3 (.slice (some ⟨g, o, none⟩) 27 c) 27 (rows.flatMap kC) * (Blk X (.cells #[.int .u8 125, .string ⟨#[82, 115, 116, 97, 116]⟩, xv] 61 (0, 0)) * Blk T2 (.cells #[.int .u8 125, .string (strOf [82, 115, 116, 97, 116]), xv] 61 (0, 0)))) by ac_rfl)).left
end
section
attribute [local go_sem] F111.t6_eq
theorem list19_any (h : St w0 F w) : Calls Tryz.prog 111 #[.int .u8 19] w fun e w' => St w0 F w' ∧ e = .returned fld19 := by
  refine F111.calls (by simp) ?_
  unfold F111.code
  simp -dsimp -implicitDefEqProofs (disch := omega) only [go_sem, reqD_of, dec_t, dec_f, wrap_i64, wrap_u32, wrap_u64, wrap_u8]
  refine h.new fun T2 w1 h1 => ?_
  simp -dsimp -implicitDefEqProofs (disch := omega) only [go_sem, reqD_of, dec_t, dec_f, wrap_i64, wrap_u32, wrap_u64, wrap_u8]
  refine onV_of (v := fld19) (by kernel_rfl) ?_
  simp -dsimp -implicitDefEqProofs (disch := omega) only [go_sem, reqD_of, dec_t, dec_f, wrap_i64, wrap_u32, wrap_u64, wrap_u8]
  refine h1.stoAll (b := T2) (n := 7) (cs := [.string (strOf [115, 116, 97, 116]), .func (.func 152) #[] #[], .func (.func 153) #[] #[], .func (.func 155) #[] #[], .func (.func 157) #[] #[], .func (.func 158) #[] #[], .func (.func 160) #[] #[]]) rfl rfl (fun y hy => by simp only [List.mem_cons, List.not_mem_nil, or_false] at hy; rcases hy with rfl | rfl | rfl | rfl | rfl | rfl | rfl <;> rfl) fun w3 h3 => ?_
  simp -dsimp -implicitDefEqProofs (disch := omega) only [go_sem, reqD_of, dec_t, dec_f, wrap_i64, wrap_u32, wrap_u64, wrap_u8]
  have hr : rowV w3 ⟨T2, 0, none⟩ 7 = some fld19 := h3.rowH T2 7 rfl
  refine resC_1 (a := ⟨T2, 0, none⟩) (v := fld19) (by simp -dsimp -implicitDefEqProofs only [go_sem]) (run_loadVar_row fact_aggSz_72 hr) ?_
  exact ⟨h3.right, rfl⟩
end
section
attribute [local go_sem] F54.t12_eq
theorem other19_any (h : St w0 F w) : Calls Tryz.prog 54 #[.int .u8 19] w fun e w' => St w0 F w' ∧ e = .returned fld19 := by
  refine F54.calls (by simp) ?_
  unfold F54.code
  simp -dsimp -implicitDefEqProofs (disch := omega) only [go_sem, reqD_of, dec_t, dec_f, wrap_i64, wrap_u32, wrap_u64, wrap_u8]
  refine h.new fun T2 w1 h1 => ?_
  simp -dsimp -implicitDefEqProofs (disch := omega) only [go_sem, reqD_of, dec_t, dec_f, wrap_i64, wrap_u32, wrap_u64, wrap_u8]
  refine (list19_any h1).mono ?_
  rintro e w2 ⟨h2, rfl⟩
  simp -dsimp -implicitDefEqProofs (disch := omega) only [go_sem, reqD_of, dec_t, dec_f, wrap_i64, wrap_u32, wrap_u64, wrap_u8]
  refine h2.stoAll (b := T2) (n := 7) (cs := [.string (strOf [115, 116, 97, 116]), .func (.func 152) #[] #[], .func (.func 153) #[] #[], .func (.func 155) #[] #[], .func (.func 157) #[] #[], .func (.func 158) #[] #[], .func (.func 160) #[] #[]]) rfl rfl (fun y hy => by simp only [List.mem_cons, List.not_mem_nil, or_false] at hy; rcases hy with rfl | rfl | rfl | rfl | rfl | rfl | rfl <;> rfl) fun w3 h3 => ?_
  simp -dsimp -implicitDefEqProofs (disch := omega) only [go_sem, reqD_of, dec_t, dec_f, wrap_i64, wrap_u32, wrap_u64, wrap_u8]
  have hr : rowV w3 ⟨T2, 0, none⟩ 7 = some fld19 := h3.rowH T2 7 rfl
  refine resC_1 (a := ⟨T2, 0, none⟩) (v := fld19) (by simp -dsimp -implicitDefEqProofs only [go_sem]) (run_loadVar_row fact_aggSz_72 hr) ?_
  exact ⟨h3.right, rfl⟩
end
section
attribute [local go_sem] F23.t26_eq
theorem field19_any (h : St w0 F w) : Calls Tryz.prog 23 #[.int .u8 19] w fun e w' => St w0 F w' ∧ e = .returned fld19 := by
  refine F23.calls (by simp) ?_
  unfold F23.code
  simp -dsimp -implicitDefEqProofs (disch := omega) only [go_sem, reqD_of, dec_t, dec_f, wrap_i64, wrap_u32, wrap_u64, wrap_u8]
  refine h.new fun T2 w1 h1 => ?_
  simp -dsimp -implicitDefEqProofs (disch := omega) only [go_sem, reqD_of, dec_t, dec_f, wrap_i64, wrap_u32, wrap_u64, wrap_u8]
  refine (other19_any h1).mono ?_
  rintro e w2 ⟨h2, rfl⟩
  simp -dsimp -implicitDefEqProofs (disch := omega) only [go_sem, reqD_of, dec_t, dec_f, wrap_i64, wrap_u32, wrap_u64, wrap_u8]
  refine h2.stoAll (b := T2) (n := 7) (cs := [.string (strOf [115, 116, 97, 116]), .func (.func 152) #[] #[], .func (.func 153) #[] #[], .func (.func 155) #[] #[], .func (.func 157) #[] #[], .func (.func 158) #[] #[], .func (.func 160) #[] #[]]) rfl rfl (fun y hy => by simp only [List.mem_cons, List.not_mem_nil, or_false] at hy; rcases hy with rfl | rfl | rfl | rfl | rfl | rfl | rfl <;> rfl) fun w3 h3 => ?_
  simp -dsimp -implicitDefEqProofs (disch := omega) only [go_sem, reqD_of, dec_t, dec_f, wrap_i64, wrap_u32, wrap_u64, wrap_u8]
  have hr : rowV w3 ⟨T2, 0, none⟩ 7 = some fld19 := h3.rowH T2 7 rfl
  refine resC_1 (a := ⟨T2, 0, none⟩) (v := fld19) (by simp -dsimp -implicitDefEqProofs only [go_sem]) (run_loadVar_row fact_aggSz_72 hr) ?_
  exact ⟨h3.right, rfl⟩
end

theorem goodStat_any [Gives F Tabs] {k t : Int} (hd : StatOk d) (h : St w0 (Blk M (msgB k t d) * F) w) :
    Calls Tryz.prog 152 #[.pointer (some ⟨M, 0, none⟩)] w fun e w' => St w0 (Blk M (msgB k t d) * F) w' ∧ e = .returned (.bool (d.texts.all good)) := by
  have b1 := hd.name
  have b2 := hd.uid
  have b3 := hd.gid
  have b4 := hd.muid
  have hall : d.texts.all good = (good d.name && (good d.uid && (good d.gid && good d.muid))) := by simp [StatD.texts]
  rw [hall]
  refine F152.calls (by simp) ?_
  unfold F152.code
  simp -dsimp -implicitDefEqProofs (disch := omega) only [go_sem, reqD_of, dec_t, dec_f, wrap_i64, wrap_u32, wrap_u64, wrap_u8, h.cl M]
  refine (good_any (l := d.name) h (by omega)).mono ?_
  rintro e w1 ⟨h1, rfl⟩
  cases g1 : good d.name with
  | false => simp -dsimp -implicitDefEqProofs (disch := omega) only [go_sem, reqD_of, dec_t, dec_f, wrap_i64, wrap_u32, wrap_u64, wrap_u8, h1.cl M]; exact h1
  | true =>
  simp -dsimp -implicitDefEqProofs (disch := omega) only [go_sem, reqD_of, dec_t, dec_f, wrap_i64, wrap_u32, wrap_u64, wrap_u8, h1.cl M]
  refine (good_any (l := d.uid) h1 (by omega)).mono ?_
  rintro e w2 ⟨h2, rfl⟩
  cases g2 : good d.uid with
  | false => simp -dsimp -implicitDefEqProofs (disch := omega) only [go_sem, reqD_of, dec_t, dec_f, wrap_i64, wrap_u32, wrap_u64, wrap_u8, h2.cl M]; exact h2
  | true =>
  simp -dsimp -implicitDefEqProofs (disch := omega) only [go_sem, reqD_of, dec_t, dec_f, wrap_i64, wrap_u32, wrap_u64, wrap_u8, h2.cl M]
  refine (good_any (l := d.gid) h2 (by omega)).mono ?_
  rintro e w3 ⟨h3, rfl⟩
  cases g3 : good d.gid with
  | false => simp -dsimp -implicitDefEqProofs (disch := omega) only [go_sem, reqD_of, dec_t, dec_f, wrap_i64, wrap_u32, wrap_u64, wrap_u8, h3.cl M]; exact h3
  | true =>
  simp -dsimp -implicitDefEqProofs (disch := omega) only [go_sem, reqD_of, dec_t, dec_f, wrap_i64, wrap_u32, wrap_u64, wrap_u8, h3.cl M]
  refine (good_any (l := d.muid) h3 (by omega)).mono ?_
  rintro e w4 ⟨h4, rfl⟩
  cases g4 : good d.muid with
  | false => simp -dsimp -implicitDefEqProofs (disch := omega) only [go_sem, reqD_of, dec_t, dec_f, wrap_i64, wrap_u32, wrap_u64, wrap_u8, h4.cl M]; exact h4
  | true => simp -dsimp -implicitDefEqProofs (disch := omega) only [go_sem, reqD_of, dec_t, dec_f, wrap_i64, wrap_u32, wrap_u64, wrap_u8, h4.cl M]; exact h4
/-- A record behind its count. -/
def statS2 (d : StatD) (s : WS) : WS := shutS (placeS s) (statS d (openS s))
theorem WOk.stat2 (h : WOk s) (hop : s.op.length ≤ 9) : WOk (statS2 d s) := by
  have h1 := h.open (by omega)
  have h2 : (openS s).op.length ≤ 10 := by
    unfold openS roomS
    split
    · simp only [List.length_append, List.length_cons, List.length_nil]; omega
    · split <;> (show s.op.length ≤ 10; omega)
  exact (h1.stat h2).shut
theorem openS_op (hop : s.op.length ≤ 9) : (openS s).op.length ≤ 10 := by
  unfold openS roomS
  split
  · simp only [List.length_append, List.length_cons, List.length_nil]; omega
  · split <;> (show s.op.length ≤ 10; omega)
theorem openS_0 (h0 : (openS s).err = 0) : hasRoom 2 s = true := by
  cases hr : hasRoom 2 s with
  | true => rfl
  | false =>
    unfold openS roomS at h0
    rw [if_neg (by rw [hr]; decide)] at h0
    simp only [hasRoom, decide_eq_false_iff_not] at hr
    by_cases hs : s.err = 0
    · have : s.lim < s.b.length + 2 := by
        rcases Nat.lt_or_ge s.lim (s.b.length + 2) with h | h
        · exact h
        · exact absurd ⟨hs, h⟩ hr
      rw [if_pos ⟨hs, this⟩] at h0
      exact absurd h0 (show ¬ (11 : Int) = 0 by decide)
    · rw [if_neg (fun k => hs k.1)] at h0
      exact absurd h0 hs
theorem statS2_pre (ok : WOk s) (hop : s.op.length ≤ 9) (he : (statS d (openS s)).err = 0) : (statS d (openS s)).op = s.op ++ [placeS s] ∧ placeS s + 2 ≤ (statS d (openS s)).b.length := by
  have h0 : (openS s).err = 0 := by
    rcases Decidable.em ((openS s).err = 0) with h | h
    · exact h
    · exact absurd he (statS_err h)
  have hr := openS_0 h0
  have e1 : openS s = { s with b := s.b ++ [0, 0], op := s.op ++ [s.b.length] } := by unfold openS; rw [if_pos hr]
  have e2 : placeS s = s.b.length := by unfold placeS; rw [if_pos hr]
  rcases statS_law (d := d) h0 (ok.open (by omega)).b with ⟨_, _, _, hl⟩ | ⟨_, hl⟩
  · rw [hl, e2, e1]
    exact ⟨rfl, by simp only [List.length_append, List.length_cons, List.length_nil]; omega⟩
  · exact absurd he hl

theorem putStat2_any [Gives F Tabs] (ok : WOk s) (hop : s.op.length ≤ 9) (hd : StatOk d) (h : St w0 (WP W s * F) w) :
    Calls Tryz.prog 154 #[.pointer (some ⟨W, 0, none⟩), .agg (statC d).toArray] w fun e w' => St w0 (WP W (statS2 d s) * F) w' ∧ e = .returned (.tuple #[]) := by
  refine F154.calls (by simp) ?_
  unfold F154.code
  simp -dsimp -implicitDefEqProofs (disch := omega) only [go_sem, reqD_of, dec_t, dec_f, wrap_i64, wrap_u32, wrap_u64, wrap_u8]
  refine h.new fun X w1 k1 => ?_
  have k1 : St w0 (Blk X (.cells (statC d).toArray 28 (0, 0)) * (WP W s * F)) w1 := k1
  simp -dsimp -implicitDefEqProofs (disch := omega) only [go_sem, reqD_of, dec_t, dec_f, wrap_i64, wrap_u32, wrap_u64, wrap_u8]
  refine (open_any ok (by omega) (k1.ac (show _ = WP W s * (Blk X (.cells (statC d).toArray 28 (0, 0)) * F) by ac_rfl))).mono ?_
  rintro e w2 ⟨k2, rfl⟩
  simp -dsimp -implicitDefEqProofs (disch := omega) only [go_sem, reqD_of, dec_t, dec_f, wrap_i64, wrap_u32, wrap_u64, wrap_u8, k2.cl X]
  refine (putStat_any (ok.open (by omega)) (openS_op hop) hd k2).mono ?_
  rintro e w3 ⟨k3, rfl⟩
  simp -dsimp -implicitDefEqProofs (disch := omega) only [go_sem, reqD_of, dec_t, dec_f, wrap_i64, wrap_u32, wrap_u64, wrap_u8]
  refine (shut_any (p := placeS s) (op' := s.op) ((ok.open (by omega)).stat (openS_op hop)) (statS2_pre ok hop) k3 (placeS_le ok)).mono ?_
  rintro e w4 ⟨k4, rfl⟩
  simp -dsimp -implicitDefEqProofs (disch := omega) only [go_sem, reqD_of, dec_t, dec_f, wrap_i64, wrap_u32, wrap_u64, wrap_u8]
  exact k4.ent (Ent.sep (Ent.rfl' _) (Ent.right _ _))

theorem put19_any [Gives F Tabs] {k t : Int} (ok : WOk s) (hop : s.op.length ≤ 9) (hd : StatOk d) (h : St w0 (WP W s * (Blk M (msgB k t d) * F)) w) :
    Calls Tryz.prog 153 #[.pointer (some ⟨W, 0, none⟩), .pointer (some ⟨M, 0, none⟩)] w fun e w' => St w0 (WP W (statS2 d s) * (Blk M (msgB k t d) * F)) w' ∧ e = .returned (.tuple #[]) := by
  refine F153.calls (by simp) ?_
  unfold F153.code
  simp -dsimp -implicitDefEqProofs (disch := omega) only [go_sem, reqD_of, dec_t, dec_f, wrap_i64, wrap_u32, wrap_u64, wrap_u8, h.cl M]
  refine (putStat2_any ok hop hd h).mono ?_
  rintro e w1 ⟨h1, rfl⟩
  simp -dsimp -implicitDefEqProofs (disch := omega) only [go_sem, reqD_of, dec_t, dec_f, wrap_i64, wrap_u32, wrap_u64, wrap_u8]
  exact h1
end
end Go.Proofs.YtonajgmamdeohaaGreatDoor

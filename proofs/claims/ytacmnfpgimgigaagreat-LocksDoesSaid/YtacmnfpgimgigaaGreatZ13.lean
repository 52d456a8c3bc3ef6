/- LocksDoes' book: what was held is written full and grown: marks. · LocksDoes' book: a turn as a whole; the end. · LocksDoes: a table and the document's side by side; an operation. · LocksDoes: what changes a table. · LocksDoes: what is told. · LocksDoes: the law, whole. · LocksDoes: the script, as an argument. -/
import Derived.Test.YtacmnfpgimgigaaGreatZ1
import Derived.Test.YtacmnfpgimgigaaGreatZ2
import Derived.Test.YtacmnfpgimgigaaGreatZ3
import Derived.Test.YtacmnfpgimgigaaGreatZ4
import Derived.Test.YtacmnfpgimgigaaGreatZ5
import Derived.Test.YtacmnfpgimgigaaGreatZ6
import Derived.Test.YtacmnfpgimgigaaGreatZ7
import Derived.Test.YtacmnfpgimgigaaGreatZ8
import Derived.Test.YtacmnfpgimgigaaGreatZ9
import Derived.Test.YtacmnfpgimgigaaGreatZ10
import Derived.Test.YtacmnfpgimgigaaGreatZ11
import Derived.Test.YtacmnfpgimgigaaGreatZ12
namespace Go.Proofs.YtacmnfpgimgigaaGreat
open Go
set_option linter.unusedSimpArgs false
set_option linter.unusedVariables false
set_option maxRecDepth 100000

section
variable {w0 w : World} {F : HP} {B : Nat} {vi vim vn vnm hI tI fI wI hN tN fN wN : Value} {EI : EL} {hVI tVI fVI wVI : List Value} {EN : EL} {hVN tVN fVN wVN : List Value} {R : Ending → World → Prop} {e : FA}

section
attribute [local go_sem] F35.t7_eq F35.t8_eq F35.t9_eq F35.t3_eq F35.t4_eq F35.t18_eq F35.t19_eq F35.t14_eq F35.t15_eq F35.t30_eq F35.t31_eq F35.t32_eq F35.t26_eq F35.t27_eq F35.t41_eq F35.t42_eq F35.t37_eq F35.t38_eq F35.t11_eq
theorem marks_23 {vl vm : Value} {hs : OLN} {Gs : GL} {θ : Tag (F35.t23, fnP Tryz.prog #[] R, e, w)}
    (ok : EOk EN Gs) (hh : OOk hs) (hE : EN.length + 41 * hs.length ≤ 10000000000)
    (hd : e.ds = []) (e0 : e.ρ 0 = .pointer (some ⟨B, 0, none⟩))
    (h : St w0 (BB B vi vim vl vm hI tI fI wI hN tN fN wN EI hVI tVI fVI wVI EN (hs.map (·.1)) tVN fVN wVN (listsN hs * (grpsN Gs * F))) w)
    (hQ : ∀ (w' : World) (vl vm : Value) (E' : EL) (Gs' : GL), EOk E' Gs' → E'.length ≤ EN.length + 41 * hs.length → St w0 (BB B vi vim vl vm hI tI fI wI hN tN fN wN EI hVI tVI fVI wVI E' (hs.map (·.1)) tVN fVN wVN (grpsN Gs' * F)) w' → R (.returned (.tuple #[])) w') :
    cwE Tryz.prog F35.t23 (fnP Tryz.prog #[] R) e w θ := by
  obtain ⟨ah, ch, rfl, _⟩ := h.rowForm hN
  obtain ⟨al, cl, rfl, _⟩ := h.rowForm vl
  have hhl : (List.map (fun x => x.1) hs).length = hs.length := by simp
  have hl0 : (eV EN).length = EN.length := by simp
  have cB := h.cl B
  rw [F35.t23_eq]
  simp -dsimp -implicitDefEqProofs (disch := omega) only [go_sem, reqD_of, dec_t, dec_f, wrap_i64, wrap_u32, wrap_u64, wrap_u8, hd, e0, cB]
  refine loop_intro (fun e w' => e.ds = [] ∧ e.ρ 0 = .pointer (some ⟨B, 0, none⟩) ∧ e.ρ 2 = .int .i64 EN.length ∧ ∃ (k : Nat) (vl vm : Value) (N : EL) (Gs' : GL), k ≤ hs.length ∧ e.ρ 10 = .int .i64 k ∧ N.length = k ∧ EOk (EN ++ N) Gs' ∧ (∀ x ∈ N, x.2.1 ≤ 1073741824) ∧ St w0 (BB B vi vim vl vm hI tI fI wI (.slice ah (List.map (fun x => x.1) hs).length ch) tN fN wN EI hVI tVI fVI wVI (EN ++ N) (hs.map (·.1)) tVN fVN wVN (listsN (hs.drop k) * (grpsN Gs' * F))) w')
    (fun e _ => match e.ρ 10 with | .int _ n => (hs.length - n).toNat | _ => 0) ?_ ?_
  · exact ⟨by simp -dsimp -implicitDefEqProofs only [go_sem, hd], by simp -dsimp -implicitDefEqProofs only [go_sem, e0], by simp -dsimp -implicitDefEqProofs only [go_sem, hl0], 0, _, _, [], Gs, by omega, rfl, rfl, by rw [List.append_nil]; exact ok, by simp, by rw [List.append_nil, List.drop_zero]; exact h⟩
  · clear h cB
    rintro e1 w1 ⟨hd, e0, e2, k, vl, vm, N, Gs', hk, e3, hNk, okN', hNl, h1⟩
    have hL : (EN ++ N).length = EN.length + N.length := by simp
    have hlN : (eV (EN ++ N)).length = (EN ++ N).length := by simp
    have hlM : (eM (EN ++ N)).length = (EN ++ N).length := by simp
    have cB := h1.cl B
    by_cases hlt : (k : Int) < hs.length
    · have hkh : k < hs.length := by omega
      have hkl : (k : Int) < ((List.map (fun x => x.1) hs).length : Nat) := by omega
      obtain ⟨al, cl, rfl, _⟩ := h1.rowForm vl
      obtain ⟨am, cm, rfl, _⟩ := h1.rowForm vm
      obtain ⟨bh, oh, rfl, hH⟩ := h1.at1 (a := ah) (n := (List.map (fun x => x.1) hs).length) (c := ch) (xs := hs.map (·.1)) (k := k) (by simp; omega)
      simp only [List.getElem_map] at hH
      have h2 := listsG_next (T := 42) (s := 4) (row := rowN) h1 hkh
      obtain ⟨hxc, _, hxl⟩ := hh hs[k] (List.getElem_mem hkh)
      rcases hx : hs[k] with ⟨xv, x2, bs⟩
      rw [hx] at h2 hH hxc hxl
      simp only at h2 hH hxc hxl
      obtain ⟨ax, cx, rfl, _⟩ := h2.rowForm xv
      have cB := h2.cl B
      generalize hm : (7000000 + ((EN ++ N).length : Int)) = m
      have hmb : -100000000000 ≤ m ∧ m ≤ 100000000000 := by omega
      simp -dsimp -implicitDefEqProofs (disch := omega) only [go_sem, reqD_of, dec_t, dec_f, wrap_i64, wrap_u32, wrap_u64, wrap_u8, hd, e0, e2, e3, hkl, cB]
      refine loop_intro (fun e w' => e.ds = [] ∧ e.ρ 0 = .pointer (some ⟨B, 0, none⟩) ∧ e.ρ 2 = .int .i64 EN.length ∧ e.ρ 10 = .int .i64 k ∧ e.ρ 11 = .int .i64 m ∧ ∃ (j : Nat) (ys : List Value), j ≤ bs.length ∧ e.ρ 12 = .int .i64 j ∧ ys.length = bs.length * 4 ∧ (∀ i, i < j * 4 → ys[i]? = (mkN m)[i % 4]?) ∧ St w0 (RowO 42 4 (.slice ax bs.length cx) bs.length ys * (listsN (hs.drop (k + 1)) * (BB B vi vim (.slice al (EN ++ N).length cl) (.slice am (EN ++ N).length cm) hI tI fI wI (.slice (some ⟨bh, oh, none⟩) (List.map (fun x => x.1) hs).length ch) tN fN wN EI hVI tVI fVI wVI (EN ++ N) (hs.map (·.1)) tVN fVN wVN (grpsN Gs' * F)))) w')
        (fun e _ => match e.ρ 12 with | .int _ n => (bs.length - n).toNat | _ => 0) ?_ ?_
      · exact ⟨by simp -dsimp -implicitDefEqProofs only [go_sem, hd], by simp -dsimp -implicitDefEqProofs only [go_sem, e0], by simp -dsimp -implicitDefEqProofs only [go_sem, e2], by simp -dsimp -implicitDefEqProofs only [go_sem, e3], by simp -dsimp -implicitDefEqProofs (disch := omega) only [go_sem, reqD_of, dec_t, dec_f, wrap_i64, wrap_u32, wrap_u64, wrap_u8, hm, hlN], 0, rowN bs, by omega, rfl, rowN_length bs, fun i hi => by omega, h2.sub⟩
      · clear cB hH h2 h1
        rintro e2 w2 ⟨hd2, e0', e2', e3', e4', j, ys, hj, e5, hys, hpre, h2⟩
        have cB := h2.cl B
        have hH := h2.at1' (b := bh) (o := oh) (n := (List.map (fun x => x.1) hs).length) (c := ch) (xs := hs.map (·.1)) (k := k) (by simp; omega)
        simp only [List.getElem_map, hx] at hH
        by_cases hjl : (j : Int) < bs.length
        · obtain ⟨bx, ox, rfl⟩ : ∃ bx ox, ax = some ⟨bx, ox, none⟩ := by
            obtain ⟨_, _, hv, _, hf2⟩ := (h2.ent ((Ent.left _ _).trans (RowO.reads _ _ _ _ _))).rd.form
            simp only [Value.slice.injEq, true_and] at hv
            obtain ⟨rfl, rfl⟩ := hv
            rcases hf2 with hf2 | ⟨b, o, rfl, _⟩
            · rw [hf2] at hys; simp only [List.length_nil] at hys; omega
            · exact ⟨b, o, rfl⟩
          have h2' := h2.drew
          have cB' := h2'.cl B
          have hH' : w2.drew.cell? _ = _ := hH
          simp -dsimp -implicitDefEqProofs (disch := omega) only [go_sem, reqD_of, dec_t, dec_f, wrap_i64, wrap_u32, wrap_u64, wrap_u8, hd2, e0', e3', e4', e5, hkl, hjl, cB, hH, cB', hH']
          refine (need_any h2').mono ?_
          rintro e' w3 ⟨h3, rfl⟩
          have cB3 := h3.cl B
          have hH3 := h3.at1' (b := bh) (o := oh) (n := (List.map (fun x => x.1) hs).length) (c := ch) (xs := hs.map (·.1)) (k := k) (by simp; omega)
          simp only [List.getElem_map, hx] at hH3
          simp -dsimp -implicitDefEqProofs (disch := omega) only [go_sem, reqD_of, dec_t, dec_f, wrap_i64, wrap_u32, wrap_u64, wrap_u8, hd2, e0', e3', e4', e5, hkl, hjl, cB3, hH3]
          have hwr : IntKind.i64.wrap (0 - m) = 0 - m := wrap_i64 (by omega) (by omega)
          have hmk : (Value.agg #[.int .u8 0, .int .i64 (0 - m), .int .u64 0, .bool false]) = .agg (mkN m).toArray := by simp only [mkN, hwr]
          rw [hmk]
          refine h3.rowSet (T := 42) (g := bx) (o := ox) (n := bs.length) (c := cx) (k := j * 4) (m := 4) (cs := mkN m) (xs := ys) rfl (by omega) (mkN_cells _) fun w4 h4 => ?_
          have cB4 := h4.cl B
          have hH4 := h4.at1' (b := bh) (o := oh) (n := (List.map (fun x => x.1) hs).length) (c := ch) (xs := hs.map (·.1)) (k := k) (by simp; omega)
          simp only [List.getElem_map, hx] at hH4
          simp -dsimp -implicitDefEqProofs (disch := omega) only [go_sem, reqD_of, dec_t, dec_f, wrap_i64, wrap_u32, wrap_u64, wrap_u8, hd2, e0', e2', e3', e4', e5, hkl, hjl, cB4, hH4]
          refine ⟨⟨j + 1, setRowL ys (j * 4) (mkN m), by omega, by omega, by rw [length_setRowL]; exact hys, ?_, h4⟩, by omega⟩
          intro i hi
          by_cases hij : i < j * 4
          · rw [getElem?_setRowL_lt _ _ _ _ hij]; exact hpre i hij
          · obtain ⟨r, rfl⟩ : ∃ r, i = j * 4 + r := ⟨i - j * 4, by omega⟩
            rw [getElem?_setRowL_in (mkN m) ys (j * 4) r (by rw [mkN_length]; omega) (by rw [mkN_length]; omega), show (j * 4 + r) % 4 = r by omega]
        · have : j = bs.length := by omega
          subst this
          have hrep : ys = repR bs.length (mkN m) := by
            apply List.ext_getElem?
            intro i
            by_cases hi : i < bs.length * 4
            · rw [hpre i hi, repR_get (mkN_length m) (by decide) _ _ hi]
            · rw [List.getElem?_eq_none (by omega), List.getElem?_eq_none (by rw [repR_length, mkN_length]; omega)]
          subst hrep
          have h4 := (h2.ent (Ent.sep (GroupS.one (T := 42) (mkN_length m) (by decide) (.slice ax bs.length cx) bs.length) (Ent.rfl' _))).drew
          have cB4 := h4.cl B
          have hH4 := h4.at1' (b := bh) (o := oh) (n := (List.map (fun x => x.1) hs).length) (c := ch) (xs := hs.map (·.1)) (k := k) (by simp; omega)
          simp only [List.getElem_map, hx] at hH4
          simp -dsimp -implicitDefEqProofs (disch := omega) only [go_sem, reqD_of, dec_t, dec_f, wrap_i64, wrap_u32, wrap_u64, wrap_u8, hd2, e0', e3', e4', e5, hkl, hjl, cB, cB4, hH, hH4]
          refine h4.lit (n := 1) (cells := [.slice ax bs.length cx]) fact_rowTy_33 rfl (by decide) (by decide) fun v5 w5 h5 => ?_
          have cB5 := h5.cl B
          have hH5 := h5.at1' (b := bh) (o := oh) (n := (List.map (fun x => x.1) hs).length) (c := ch) (xs := hs.map (·.1)) (k := k) (by simp; omega)
          simp only [List.getElem_map, hx] at hH5
          simp -dsimp -implicitDefEqProofs (disch := omega) only [go_sem, reqD_of, dec_t, dec_f, wrap_i64, wrap_u32, wrap_u64, wrap_u8, hd2, e0', e3', e4', e5, hkl, cB5, hH5]
          refine h5.app (v := .slice al (EN ++ N).length cl) fact_rowTy_33 ((Ent.left _ _).trans (RowO.reads _ _ _ _ _)) Tryz.underlying33 (by intro u hu; simp only [List.mem_singleton] at hu; subst hu; rfl) (fun h => by simp at h) (by simp only [Go.maxLen]; omega) (by omega) fun v6 w6 h6 => ?_
          obtain ⟨a6, c6, rfl, _⟩ := h6.rowForm v6
          have cB6 := h6.cl B
          have hH6 := h6.at1' (b := bh) (o := oh) (n := (List.map (fun x => x.1) hs).length) (c := ch) (xs := hs.map (·.1)) (k := k) (by simp; omega)
          simp only [List.getElem_map, hx] at hH6
          simp -dsimp -implicitDefEqProofs (disch := omega) only [go_sem, reqD_of, dec_t, dec_f, wrap_i64, wrap_u32, wrap_u64, wrap_u8, hd2, e0', e3', e4', e5, hkl, cB6, hH6]
          refine h6.sto (b := B) (off := 2) (by simp) rfl fun w7 h7 => ?_
          simp only [List.setIfInBounds_toArray, List.set_cons_succ, List.set_cons_zero] at h7
          have cB7 := h7.cl B
          simp -dsimp -implicitDefEqProofs (disch := omega) only [go_sem, reqD_of, dec_t, dec_f, wrap_i64, wrap_u32, wrap_u64, wrap_u8, hd2, e0', e3', e4', e5, cB7]
          refine h7.lit (n := 1) (cells := [.int .i64 m]) fact_rowTy_32 rfl (by decide) (by decide) fun v8 w8 h8 => ?_
          have cB8 := h8.cl B
          simp -dsimp -implicitDefEqProofs (disch := omega) only [go_sem, reqD_of, dec_t, dec_f, wrap_i64, wrap_u32, wrap_u64, wrap_u8, hd2, e0', e3', e4', e5, cB8]
          refine h8.app (v := .slice am (EN ++ N).length cm) fact_rowTy_32 ((Ent.left _ _).trans (RowO.reads _ _ _ _ _)) Tryz.underlying32 (by intro u hu; simp only [List.mem_singleton] at hu; subst hu; rfl) (fun h => by simp at h) (by simp only [Go.maxLen]; omega) (by omega) fun v9 w9 h9 => ?_
          obtain ⟨a9, c9, rfl, _⟩ := h9.rowForm v9
          have cB9 := h9.cl B
          simp -dsimp -implicitDefEqProofs (disch := omega) only [go_sem, reqD_of, dec_t, dec_f, wrap_i64, wrap_u32, wrap_u64, wrap_u8, hd2, e0', e3', e4', e5, cB9]
          refine h9.sto (b := B) (off := 3) (by simp) rfl fun w10 h10 => ?_
          simp only [List.setIfInBounds_toArray, List.set_cons_succ, List.set_cons_zero] at h10
          simp -dsimp -implicitDefEqProofs (disch := omega) only [go_sem, reqD_of, dec_t, dec_f, wrap_i64, wrap_u32, wrap_u64, wrap_u8, hd2, e0', e2', e3', e3, e4', e5]
          rw [(EL.rows EN N (.slice ax bs.length cx) bs.length m (.slice a6 ((EN ++ N).length + 1) c6) _).1, (EL.rows EN N (.slice ax bs.length cx) bs.length m (.slice a9 ((EN ++ N).length + 1) c9) _).2] at h10
          have h11 : St w0 (BB B vi vim (.slice a6 ((EN ++ N).length + 1) c6) (.slice a9 ((EN ++ N).length + 1) c9) hI tI fI wI (.slice (some ⟨bh, oh, none⟩) (List.map (fun x => x.1) hs).length ch) tN fN wN EI hVI tVI fVI wVI (EN ++ (N ++ [((.slice ax bs.length cx : Value), bs.length, m)])) (hs.map (·.1)) tVN fVN wVN (listsN (hs.drop (k + 1)) * (GroupS 42 4 (mkN m) [((.slice ax bs.length cx : Value), bs.length)] * (grpsN Gs' * F)))) w10 := h10.sub
          refine ⟨⟨k + 1, .slice a6 ((EN ++ N).length + 1) c6, .slice a9 ((EN ++ N).length + 1) c9, N ++ [((.slice ax bs.length cx : Value), bs.length, m)], (m, [((.slice ax bs.length cx : Value), bs.length)]) :: Gs', by omega, by omega, by simp [hNk], ?_, ?_, h11.ac (by simp only [BB, HB, grpsI, grpsN, grpsG_cons]; ac_rfl)⟩, by omega⟩
          · rw [← List.append_assoc]
            exact (okN'.mono (GLe.cons _ _)).snoc ⟨_, List.mem_cons_self, rfl, List.mem_cons_self⟩ rfl (by omega)
          · intro x hx'
            rcases List.mem_append.1 hx' with hx' | hx'
            · exact hNl x hx'
            · simp only [List.mem_singleton] at hx'
              subst hx'
              exact hxl
    · have : k = hs.length := by omega
      subst this
      have hkl : ¬ (hs.length : Int) < ((List.map (fun x => x.1) hs).length : Nat) := by omega
      simp -dsimp -implicitDefEqProofs (disch := omega) only [go_sem, reqD_of, dec_t, dec_f, wrap_i64, wrap_u32, wrap_u64, wrap_u8, hd, e0, e2, e3, hkl, cB, hhl]
      refine marks_34 okN' (f := EN.length) (by omega) (by omega) ?_ (by simp -dsimp -implicitDefEqProofs only [go_sem, hd]) (by simp -dsimp -implicitDefEqProofs only [go_sem, e0]) (by simp -dsimp -implicitDefEqProofs only [go_sem, e2]) (h1.sub (B := BB B vi vim vl vm hI tI fI wI (.slice ah (List.map (fun x => x.1) hs).length ch) tN fN wN EI hVI tVI fVI wVI (EN ++ N) (hs.map (·.1)) tVN fVN wVN (grpsN Gs' * (listsN (hs.drop hs.length) * F)))) fun w' vl vm E' Gs' ok' hE' hw => hQ w' vl vm E' Gs' ok' (by omega) hw.sub
      intro j hj hf
      rw [List.getElem_append_right hf]
      exact hNl _ (List.getElem_mem _)

end
section
attribute [local go_sem] F35.t7_eq F35.t8_eq F35.t9_eq F35.t3_eq F35.t4_eq F35.t18_eq F35.t19_eq F35.t14_eq F35.t15_eq F35.t30_eq F35.t31_eq F35.t32_eq F35.t26_eq F35.t27_eq F35.t41_eq F35.t42_eq F35.t37_eq F35.t38_eq F35.t34_eq
theorem marks_any {vl vm : Value} {hs : OLI} {Gs : GL} {hs2 : OLN} {GN : GL}
    (ok : EOk EI Gs) (hh : OOk hs) (hE : EI.length + 41 * hs.length ≤ 10000000000) (okN : EOk EN GN) (hh2 : OOk hs2) (hEN : EN.length + 41 * hs2.length ≤ 10000000000)
    (h : St w0 (BB B vl vm vn vnm hI tI fI wI hN tN fN wN EI (hs.map (·.1)) tVI fVI wVI EN (hs2.map (·.1)) tVN fVN wVN (listsI hs * (grpsI Gs * (listsN hs2 * (grpsN GN * F))))) w) :
    Calls Tryz.prog 35 #[.pointer (some ⟨B, 0, none⟩)] w fun e w' => ∃ (vl vm vn vnm : Value) (E' : EL) (Gs' : GL) (E2 : EL) (G2 : GL), EOk E' Gs' ∧ E'.length ≤ EI.length + 41 * hs.length ∧ EOk E2 G2 ∧ E2.length ≤ EN.length + 41 * hs2.length ∧ St w0 (BB B vl vm vn vnm hI tI fI wI hN tN fN wN E' (hs.map (·.1)) tVI fVI wVI E2 (hs2.map (·.1)) tVN fVN wVN (grpsI Gs' * (grpsN G2 * F))) w' ∧ e = .returned (.tuple #[]) := by
  obtain ⟨ah, ch, rfl, _⟩ := h.rowForm hI
  obtain ⟨al, cl, rfl, _⟩ := h.rowForm vl
  have hhl : (List.map (fun x => x.1) hs).length = hs.length := by simp
  have hl0 : (eV EI).length = EI.length := by simp
  have cB := h.cl B
  refine F35.calls (by simp) ?_
  unfold F35.code
  simp -dsimp -implicitDefEqProofs (disch := omega) only [go_sem, reqD_of, dec_t, dec_f, wrap_i64, wrap_u32, wrap_u64, wrap_u8, cB]
  refine loop_intro (fun e w' => e.ds = [] ∧ e.ρ 0 = .pointer (some ⟨B, 0, none⟩) ∧ e.ρ 2 = .int .i64 EI.length ∧ ∃ (k : Nat) (vl vm : Value) (N : EL) (Gs' : GL), k ≤ hs.length ∧ e.ρ 3 = .int .i64 k ∧ N.length = k ∧ EOk (EI ++ N) Gs' ∧ (∀ x ∈ N, x.2.1 ≤ 1073741824) ∧ St w0 (BB B vl vm vn vnm (.slice ah (List.map (fun x => x.1) hs).length ch) tI fI wI hN tN fN wN (EI ++ N) (hs.map (·.1)) tVI fVI wVI EN (hs2.map (·.1)) tVN fVN wVN (listsI (hs.drop k) * (grpsI Gs' * (listsN hs2 * (grpsN GN * F))))) w')
    (fun e _ => match e.ρ 3 with | .int _ n => (hs.length - n).toNat | _ => 0) ?_ ?_
  · exact ⟨rfl, by simp -dsimp -implicitDefEqProofs only [go_sem], by simp -dsimp -implicitDefEqProofs only [go_sem, hl0], 0, _, _, [], Gs, by omega, rfl, rfl, by rw [List.append_nil]; exact ok, by simp, by rw [List.append_nil, List.drop_zero]; exact h⟩
  · clear h cB
    rintro e1 w1 ⟨hd, e0, e2, k, vl, vm, N, Gs', hk, e3, hNk, okN', hNl, h1⟩
    have hL : (EI ++ N).length = EI.length + N.length := by simp
    have hlN : (eV (EI ++ N)).length = (EI ++ N).length := by simp
    have hlM : (eM (EI ++ N)).length = (EI ++ N).length := by simp
    have cB := h1.cl B
    by_cases hlt : (k : Int) < hs.length
    · have hkh : k < hs.length := by omega
      have hkl : (k : Int) < ((List.map (fun x => x.1) hs).length : Nat) := by omega
      obtain ⟨al, cl, rfl, _⟩ := h1.rowForm vl
      obtain ⟨am, cm, rfl, _⟩ := h1.rowForm vm
      obtain ⟨bh, oh, rfl, hH⟩ := h1.at1 (a := ah) (n := (List.map (fun x => x.1) hs).length) (c := ch) (xs := hs.map (·.1)) (k := k) (by simp; omega)
      simp only [List.getElem_map] at hH
      have h2 := listsG_next (T := 3) (s := 1) (row := intR) h1 hkh
      obtain ⟨hxc, _, hxl⟩ := hh hs[k] (List.getElem_mem hkh)
      rcases hx : hs[k] with ⟨xv, x2, bs⟩
      rw [hx] at h2 hH hxc hxl
      simp only at h2 hH hxc hxl
      obtain ⟨ax, cx, rfl, _⟩ := h2.rowForm xv
      have cB := h2.cl B
      generalize hm : (-7000000 - ((EI ++ N).length : Int)) = m
      have hmb : -100000000000 ≤ m ∧ m ≤ 100000000000 := by omega
      simp -dsimp -implicitDefEqProofs (disch := omega) only [go_sem, reqD_of, dec_t, dec_f, wrap_i64, wrap_u32, wrap_u64, wrap_u8, hd, e0, e2, e3, hkl, cB]
      refine loop_intro (fun e w' => e.ds = [] ∧ e.ρ 0 = .pointer (some ⟨B, 0, none⟩) ∧ e.ρ 2 = .int .i64 EI.length ∧ e.ρ 3 = .int .i64 k ∧ e.ρ 4 = .int .i64 m ∧ ∃ (j : Nat) (ys : List Value), j ≤ bs.length ∧ e.ρ 5 = .int .i64 j ∧ ys.length = bs.length * 1 ∧ (∀ i, i < j * 1 → ys[i]? = (mkI m)[i % 1]?) ∧ St w0 (RowO 3 1 (.slice ax bs.length cx) bs.length ys * (listsI (hs.drop (k + 1)) * (BB B (.slice al (EI ++ N).length cl) (.slice am (EI ++ N).length cm) vn vnm (.slice (some ⟨bh, oh, none⟩) (List.map (fun x => x.1) hs).length ch) tI fI wI hN tN fN wN (EI ++ N) (hs.map (·.1)) tVI fVI wVI EN (hs2.map (·.1)) tVN fVN wVN (grpsI Gs' * (listsN hs2 * (grpsN GN * F)))))) w')
        (fun e _ => match e.ρ 5 with | .int _ n => (bs.length - n).toNat | _ => 0) ?_ ?_
      · exact ⟨by simp -dsimp -implicitDefEqProofs only [go_sem, hd], by simp -dsimp -implicitDefEqProofs only [go_sem, e0], by simp -dsimp -implicitDefEqProofs only [go_sem, e2], by simp -dsimp -implicitDefEqProofs only [go_sem, e3], by simp -dsimp -implicitDefEqProofs (disch := omega) only [go_sem, reqD_of, dec_t, dec_f, wrap_i64, wrap_u32, wrap_u64, wrap_u8, hm, hlN], 0, intR bs, by omega, rfl, by simp [intR], fun i hi => by omega, h2.sub⟩
      · clear cB hH h2 h1
        rintro e2 w2 ⟨hd2, e0', e2', e3', e4', j, ys, hj, e5, hys, hpre, h2⟩
        have cB := h2.cl B
        have hH := h2.at1' (b := bh) (o := oh) (n := (List.map (fun x => x.1) hs).length) (c := ch) (xs := hs.map (·.1)) (k := k) (by simp; omega)
        simp only [List.getElem_map, hx] at hH
        by_cases hjl : (j : Int) < bs.length
        · obtain ⟨bx, ox, rfl, _⟩ := h2.at1 (a := ax) (n := bs.length) (c := cx) (xs := ys) (k := j) (by omega)
          simp -dsimp -implicitDefEqProofs (disch := omega) only [go_sem, reqD_of, dec_t, dec_f, wrap_i64, wrap_u32, wrap_u64, wrap_u8, hd2, e0', e3', e4', e5, hkl, hjl, cB, hH]
          refine h2.rowSet1 (T := 3) (g := bx) (o := ox) (n := bs.length) (c := cx) (k := j) (xs := ys) (by omega) rfl fun w3 h3 => ?_
          simp -dsimp -implicitDefEqProofs (disch := omega) only [go_sem, reqD_of, dec_t, dec_f, wrap_i64, wrap_u32, wrap_u64, wrap_u8, hd2, e0', e2', e3', e4', e5]
          refine ⟨⟨j + 1, ys.set j (.int .i64 m), by omega, by omega, by simp [hys], ?_, h3⟩, by omega⟩
          intro i hi
          by_cases hij : i = j
          · subst hij; rw [List.getElem?_set_self (by omega)]; simp [mkI, Nat.mod_one]
          · rw [List.getElem?_set_ne (by omega)]; exact hpre i (by omega)
        · have : j = bs.length := by omega
          subst this
          have hrep : ys = repR bs.length (mkI m) := by
            apply List.ext_getElem?
            intro i
            by_cases hi : i < bs.length * 1
            · rw [hpre i hi, repR_get (mkI_length m) (by decide) _ _ hi]
            · rw [List.getElem?_eq_none (by omega), List.getElem?_eq_none (by rw [repR_length, mkI_length]; omega)]
          subst hrep
          have h4 := (h2.ent (Ent.sep (GroupS.one (T := 3) (mkI_length m) (by decide) (.slice ax bs.length cx) bs.length) (Ent.rfl' _))).drew
          have cB4 := h4.cl B
          have hH4 := h4.at1' (b := bh) (o := oh) (n := (List.map (fun x => x.1) hs).length) (c := ch) (xs := hs.map (·.1)) (k := k) (by simp; omega)
          simp only [List.getElem_map, hx] at hH4
          simp -dsimp -implicitDefEqProofs (disch := omega) only [go_sem, reqD_of, dec_t, dec_f, wrap_i64, wrap_u32, wrap_u64, wrap_u8, hd2, e0', e3', e4', e5, hkl, hjl, cB, cB4, hH, hH4]
          refine h4.lit (n := 1) (cells := [.slice ax bs.length cx]) fact_rowTy_31 rfl (by decide) (by decide) fun v5 w5 h5 => ?_
          have cB5 := h5.cl B
          have hH5 := h5.at1' (b := bh) (o := oh) (n := (List.map (fun x => x.1) hs).length) (c := ch) (xs := hs.map (·.1)) (k := k) (by simp; omega)
          simp only [List.getElem_map, hx] at hH5
          simp -dsimp -implicitDefEqProofs (disch := omega) only [go_sem, reqD_of, dec_t, dec_f, wrap_i64, wrap_u32, wrap_u64, wrap_u8, hd2, e0', e3', e4', e5, hkl, cB5, hH5]
          refine h5.app (v := .slice al (EI ++ N).length cl) fact_rowTy_31 ((Ent.left _ _).trans (RowO.reads _ _ _ _ _)) Tryz.underlying31 (by intro u hu; simp only [List.mem_singleton] at hu; subst hu; rfl) (fun h => by simp at h) (by simp only [Go.maxLen]; omega) (by omega) fun v6 w6 h6 => ?_
          obtain ⟨a6, c6, rfl, _⟩ := h6.rowForm v6
          have cB6 := h6.cl B
          have hH6 := h6.at1' (b := bh) (o := oh) (n := (List.map (fun x => x.1) hs).length) (c := ch) (xs := hs.map (·.1)) (k := k) (by simp; omega)
          simp only [List.getElem_map, hx] at hH6
          simp -dsimp -implicitDefEqProofs (disch := omega) only [go_sem, reqD_of, dec_t, dec_f, wrap_i64, wrap_u32, wrap_u64, wrap_u8, hd2, e0', e3', e4', e5, hkl, cB6, hH6]
          refine h6.sto (b := B) (off := 0) (by simp) rfl fun w7 h7 => ?_
          simp only [List.setIfInBounds_toArray, List.set_cons_succ, List.set_cons_zero] at h7
          have cB7 := h7.cl B
          simp -dsimp -implicitDefEqProofs (disch := omega) only [go_sem, reqD_of, dec_t, dec_f, wrap_i64, wrap_u32, wrap_u64, wrap_u8, hd2, e0', e3', e4', e5, cB7]
          refine h7.lit (n := 1) (cells := [.int .i64 m]) fact_rowTy_32 rfl (by decide) (by decide) fun v8 w8 h8 => ?_
          have cB8 := h8.cl B
          simp -dsimp -implicitDefEqProofs (disch := omega) only [go_sem, reqD_of, dec_t, dec_f, wrap_i64, wrap_u32, wrap_u64, wrap_u8, hd2, e0', e3', e4', e5, cB8]
          refine h8.app (v := .slice am (EI ++ N).length cm) fact_rowTy_32 ((Ent.left _ _).trans (RowO.reads _ _ _ _ _)) Tryz.underlying32 (by intro u hu; simp only [List.mem_singleton] at hu; subst hu; rfl) (fun h => by simp at h) (by simp only [Go.maxLen]; omega) (by omega) fun v9 w9 h9 => ?_
          obtain ⟨a9, c9, rfl, _⟩ := h9.rowForm v9
          have cB9 := h9.cl B
          simp -dsimp -implicitDefEqProofs (disch := omega) only [go_sem, reqD_of, dec_t, dec_f, wrap_i64, wrap_u32, wrap_u64, wrap_u8, hd2, e0', e3', e4', e5, cB9]
          refine h9.sto (b := B) (off := 1) (by simp) rfl fun w10 h10 => ?_
          simp only [List.setIfInBounds_toArray, List.set_cons_succ, List.set_cons_zero] at h10
          simp -dsimp -implicitDefEqProofs (disch := omega) only [go_sem, reqD_of, dec_t, dec_f, wrap_i64, wrap_u32, wrap_u64, wrap_u8, hd2, e0', e2', e3', e3, e4', e5]
          rw [(EL.rows EI N (.slice ax bs.length cx) bs.length m (.slice a6 ((EI ++ N).length + 1) c6) _).1, (EL.rows EI N (.slice ax bs.length cx) bs.length m (.slice a9 ((EI ++ N).length + 1) c9) _).2] at h10
          have h11 : St w0 (BB B (.slice a6 ((EI ++ N).length + 1) c6) (.slice a9 ((EI ++ N).length + 1) c9) vn vnm (.slice (some ⟨bh, oh, none⟩) (List.map (fun x => x.1) hs).length ch) tI fI wI hN tN fN wN (EI ++ (N ++ [((.slice ax bs.length cx : Value), bs.length, m)])) (hs.map (·.1)) tVI fVI wVI EN (hs2.map (·.1)) tVN fVN wVN (listsI (hs.drop (k + 1)) * (GroupS 3 1 (mkI m) [((.slice ax bs.length cx : Value), bs.length)] * (grpsI Gs' * (listsN hs2 * (grpsN GN * F)))))) w10 := h10.sub
          refine ⟨⟨k + 1, .slice a6 ((EI ++ N).length + 1) c6, .slice a9 ((EI ++ N).length + 1) c9, N ++ [((.slice ax bs.length cx : Value), bs.length, m)], (m, [((.slice ax bs.length cx : Value), bs.length)]) :: Gs', by omega, by omega, by simp [hNk], ?_, ?_, h11.ac (by simp only [BB, HB, grpsI, grpsN, grpsG_cons]; ac_rfl)⟩, by omega⟩
          · rw [← List.append_assoc]
            exact (okN'.mono (GLe.cons _ _)).snoc ⟨_, List.mem_cons_self, rfl, List.mem_cons_self⟩ rfl (by omega)
          · intro x hx'
            rcases List.mem_append.1 hx' with hx' | hx'
            · exact hNl x hx'
            · simp only [List.mem_singleton] at hx'
              subst hx'
              exact hxl
    · have : k = hs.length := by omega
      subst this
      have hkl : ¬ (hs.length : Int) < ((List.map (fun x => x.1) hs).length : Nat) := by omega
      simp -dsimp -implicitDefEqProofs (disch := omega) only [go_sem, reqD_of, dec_t, dec_f, wrap_i64, wrap_u32, wrap_u64, wrap_u8, hd, e0, e2, e3, hkl, cB, hhl]
      refine marks_11 okN' (f := EI.length) (by omega) (by omega) ?_ (by simp -dsimp -implicitDefEqProofs only [go_sem, hd]) (by simp -dsimp -implicitDefEqProofs only [go_sem, e0]) (by simp -dsimp -implicitDefEqProofs only [go_sem, e2]) (h1.sub (B := BB B vl vm vn vnm (.slice ah (List.map (fun x => x.1) hs).length ch) tI fI wI hN tN fN wN (EI ++ N) (hs.map (·.1)) tVI fVI wVI EN (hs2.map (·.1)) tVN fVN wVN (grpsI Gs' * (listsI (hs.drop hs.length) * (listsN hs2 * (grpsN GN * F)))))) fun w2 e2 vl2 vm2 E2 G2 hd2 e02 ok2 hE2 h2 θ2 => ?_
      · intro j hj hf
        rw [List.getElem_append_right hf]
        exact hNl _ (List.getElem_mem _)
      · refine marks_23 okN hh2 hEN hd2 e02 (h2.sub (B := BB B vl2 vm2 vn vnm (.slice ah (List.map (fun x => x.1) hs).length ch) tI fI wI hN tN fN wN E2 (hs.map (·.1)) tVI fVI wVI EN (hs2.map (·.1)) tVN fVN wVN (listsN hs2 * (grpsN GN * (grpsI G2 * F))))) fun w3 vl3 vm3 E3 G3 ok3 hE3 h3 => ?_
        exact ⟨vl2, vm2, vl3, vm3, E2, G2, E3, G3, ok2, by omega, ok3, hE3, h3.sub, rfl⟩
end
end
end Go.Proofs.YtacmnfpgimgigaaGreat

namespace Go.Proofs.YtacmnfpgimgigaaGreat
open Go
set_option linter.unusedSimpArgs false
set_option linter.unusedVariables false
set_option maxRecDepth 100000

section
variable {w0 w : World} {F : HP} {B n : Nat}

section
attribute [local go_sem] F10.t4_eq F10.t5_eq F10.t9_eq F10.t10_eq
theorem turn_12 {x : BkX} {e : FA} {θ : Tag (F10.t12, fnP Tryz.prog #[.tmp 2] (fun e w' => St w0 (BookP B n * F) w' ∧ e = .returned (.bool true)), e, w)}
    (hn : n ≤ 10000000) (ok : BkOk n x) (hd : e.ds = []) (e0 : e.ρ 0 = .pointer (some ⟨B, 0, none⟩)) (e3 : e.ρ 3 = .bool true) (h : St w0 (BkQ B x F) w) :
    cwE Tryz.prog F10.t12 (fnP Tryz.prog #[.tmp 2] (fun e w' => St w0 (BookP B n * F) w' ∧ e = .returned (.bool true))) e w θ := by
  rw [BkQ.bb] at h
  obtain ⟨vi, vim, vn, vnm, hI, tI, fI, wI, hN, tN, fN, wN, EI, hsI, fsI, GI, EN, hsN, fsN, GN⟩ := x
  have fi := ok.fewI
  have fn := ok.fewN
  simp only at fi fn h
  rw [F10.t12_eq]
  simp -dsimp -implicitDefEqProofs (disch := omega) only [go_sem, reqD_of, dec_t, dec_f, wrap_i64, wrap_u32, wrap_u64, wrap_u8, hd, e0]
  have h0 : St w0 (BB B vi vim vn vnm hI tI fI wI hN tN fN wN EI (hsI.map (·.1)) (hsI.map (·.2.1)) (fsI.map (·.1)) (fsI.map (·.2.1)) EN (hsN.map (·.1)) (hsN.map (·.2.1)) (fsN.map (·.1)) (fsN.map (·.2.1)) (listsI hsI * (grpsI GI * (listsN hsN * (grpsN GN * (listsI fsI * (listsN fsN * F))))))) w := h.sub
  refine (marks_any ok.eI ok.h1 (by simp only; omega) ok.eN ok.h2 (by simp only; omega) h0).mono ?_
  rintro e' w1 ⟨vi', vim', vn', vnm', EI', GI', EN', GN', ok1, hE1, ok2, hE2, h1, rfl⟩
  simp only at hE1 hE2
  obtain ⟨a1, c1, rfl, _⟩ := h1.rowForm fI
  obtain ⟨a2, c2, rfl, _⟩ := h1.rowForm wI
  obtain ⟨a3, c3, rfl, _⟩ := h1.rowForm fN
  obtain ⟨a4, c4, rfl, _⟩ := h1.rowForm wN
  have cB := h1.cl B
  simp -dsimp -implicitDefEqProofs (disch := omega) only [go_sem, reqD_of, dec_t, dec_f, wrap_i64, wrap_u32, wrap_u64, wrap_u8, hd, e0, e3, cB]
  refine h1.sto (b := B) (off := 4) (by simp) rfl fun w2 h2 => ?_
  simp only [List.setIfInBounds_toArray, List.set_cons_succ, List.set_cons_zero] at h2
  have cB := h2.cl B
  simp -dsimp -implicitDefEqProofs (disch := omega) only [go_sem, reqD_of, dec_t, dec_f, wrap_i64, wrap_u32, wrap_u64, wrap_u8, hd, e0, e3, cB]
  refine h2.sto (b := B) (off := 5) (by simp) rfl fun w3 h3 => ?_
  simp only [List.setIfInBounds_toArray, List.set_cons_succ, List.set_cons_zero] at h3
  have cB := h3.cl B
  simp -dsimp -implicitDefEqProofs (disch := omega) only [go_sem, reqD_of, dec_t, dec_f, wrap_i64, wrap_u32, wrap_u64, wrap_u8, hd, e0, e3, cB]
  refine h3.sto (b := B) (off := 8) (by simp) rfl fun w4 h4 => ?_
  simp only [List.setIfInBounds_toArray, List.set_cons_succ, List.set_cons_zero] at h4
  have cB := h4.cl B
  simp -dsimp -implicitDefEqProofs (disch := omega) only [go_sem, reqD_of, dec_t, dec_f, wrap_i64, wrap_u32, wrap_u64, wrap_u8, hd, e0, e3, cB]
  refine h4.sto (b := B) (off := 9) (by simp) rfl fun w5 h5 => ?_
  simp only [List.setIfInBounds_toArray, List.set_cons_succ, List.set_cons_zero] at h5
  simp -dsimp -implicitDefEqProofs (disch := omega) only [go_sem, reqD_of, dec_t, dec_f, wrap_i64, wrap_u32, wrap_u64, wrap_u8, hd, e0, e3]
  refine h5.sto (b := B) (off := 6) (by simp) rfl fun w6 h6 => ?_
  simp -dsimp -implicitDefEqProofs (disch := omega) only [go_sem, reqD_of, dec_t, dec_f, wrap_i64, wrap_u32, wrap_u64, wrap_u8, hd, e0, e3]
  refine h6.sto (b := B) (off := 7) (by simp) rfl fun w7 h7 => ?_
  simp -dsimp -implicitDefEqProofs (disch := omega) only [go_sem, reqD_of, dec_t, dec_f, wrap_i64, wrap_u32, wrap_u64, wrap_u8, hd, e0, e3]
  refine h7.sto (b := B) (off := 10) (by simp) rfl fun w8 h8 => ?_
  simp -dsimp -implicitDefEqProofs (disch := omega) only [go_sem, reqD_of, dec_t, dec_f, wrap_i64, wrap_u32, wrap_u64, wrap_u8, hd, e0, e3]
  refine h8.sto (b := B) (off := 11) (by simp) rfl fun w9 h9 => ?_
  simp only [List.setIfInBounds_toArray, List.set_cons_succ, List.set_cons_zero] at h9
  simp -dsimp -implicitDefEqProofs (disch := omega) only [go_sem, reqD_of, dec_t, dec_f, wrap_i64, wrap_u32, wrap_u64, wrap_u8, hd, e0, e3]
  have h10 := (((h9.nilR 32 1).nilR 32 1).nilR 63 1).nilR 63 1
  have h11 : St w0 (BB B vi' vim' vn' vnm' (.slice a1 (List.map (fun x => x.1) fsI).length c1) (.slice a2 (List.map (fun x => x.2.1) fsI).length c2) (.slice none 0 0) (.slice none 0 0) (.slice a3 (List.map (fun x => x.1) fsN).length c3) (.slice a4 (List.map (fun x => x.2.1) fsN).length c4) (.slice none 0 0) (.slice none 0 0) EI' (fsI.map (·.1)) (fsI.map (·.2.1)) [] [] EN' (fsN.map (·.1)) (fsN.map (·.2.1)) [] [] (grpsI GI' * (grpsN GN' * (listsI fsI * (listsN fsN * F))))) w9 := h10.sub
  refine (looks_any ok1 ok2 (by omega) (by omega) h11).mono ?_
  rintro e' w10 ⟨h12, rfl⟩
  simp -dsimp -implicitDefEqProofs (disch := omega) only [go_sem, reqD_of, dec_t, dec_f, wrap_i64, wrap_u32, wrap_u64, wrap_u8, hd, e0, e3]
  refine BookP.mk ⟨vi', vim', vn', vnm', .slice a1 (List.map (fun x => x.1) fsI).length c1, .slice a2 (List.map (fun x => x.2.1) fsI).length c2, .slice none 0 0, .slice none 0 0, .slice a3 (List.map (fun x => x.1) fsN).length c3, .slice a4 (List.map (fun x => x.2.1) fsN).length c4, .slice none 0 0, .slice none 0 0, EI', fsI, [], GI', EN', fsN, [], GN'⟩ ⟨ok1, ok.f1, fun x hx => absurd hx (by simp), ok2, ok.f2, fun x hx => absurd hx (by simp), by simp only [List.length_nil]; omega, by simp only [List.length_nil]; omega⟩ ?_
  rw [BkQ.bb]
  simp only [List.map_nil]
  have h13 := h12.ent (Ent.embL _)
  have h14 := h13.ent (Ent.embL _)
  exact h14.ac (by simp only [BB, HB, listsI, listsN, listsG, starL]; ac_rfl)

end
section
attribute [local go_sem] F10.t4_eq F10.t5_eq F10.t9_eq F10.t10_eq
theorem turn_7 {x : BkX} {e : FA} {θ : Tag (F10.t7, fnP Tryz.prog #[.tmp 2] (fun e w' => St w0 (BookP B n * F) w' ∧ e = .returned (.bool true)), e, w)}
    (hn : n ≤ 10000000) (ok : BkOk n x) (hd : e.ds = []) (e0 : e.ρ 0 = .pointer (some ⟨B, 0, none⟩)) (e3 : e.ρ 3 = .bool true) (h : St w0 (BkQ B x F) w) :
    cwE Tryz.prog F10.t7 (fnP Tryz.prog #[.tmp 2] (fun e w' => St w0 (BookP B n * F) w' ∧ e = .returned (.bool true))) e w θ := by
  have hbN : x.hsN.length ≤ 10000000 := by have := ok.fewN; omega
  have hbI : x.hsI.length ≤ 10000000 := by have := ok.fewI; omega
  have h' := h
  rw [BkQ.bb] at h'
  obtain ⟨a1, c1, hh, _⟩ := h'.rowForm x.hN
  obtain ⟨a2, c2, ht, _⟩ := h'.rowForm x.tN
  have cB := h'.cl B
  rw [F10.t7_eq]
  simp -dsimp -implicitDefEqProofs (disch := omega) only [go_sem, reqD_of, dec_t, dec_f, wrap_i64, wrap_u32, wrap_u64, wrap_u8, hd, e0, cB]
  refine loop_intro (fun e w' => e.ds = [] ∧ e.ρ 0 = .pointer (some ⟨B, 0, none⟩) ∧ e.ρ 3 = .bool true ∧ (∃ k : Nat, k ≤ x.hsN.length ∧ e.ρ 6 = .int .i64 k) ∧ St w0 (BkQ B x F) w')
    (fun e _ => match e.ρ 6 with | .int _ n => (x.hsN.length - n).toNat | _ => 0) ?_ ?_
  · exact ⟨by simp -dsimp -implicitDefEqProofs only [go_sem, hd], by simp -dsimp -implicitDefEqProofs only [go_sem, e0], by simp -dsimp -implicitDefEqProofs only [go_sem, e3], ⟨0, by omega, rfl⟩, h⟩
  · clear h h' cB
    rintro e w1 ⟨hd, e0, e3, ⟨k, hk, e5⟩, h⟩
    have h1 := h
    rw [BkQ.bb, hh, ht] at h1
    have hhl : (List.map (fun x => x.1) x.hsN).length = x.hsN.length := by simp
    have hhl2 : (List.map (fun x => x.2.1) x.hsN).length = x.hsN.length := by simp
    have cB := h1.cl B
    by_cases hlt : (k : Int) < x.hsN.length
    · have hkh : k < x.hsN.length := by omega
      have hkl : (k : Int) < ((List.map (fun x => x.1) x.hsN).length : Nat) := by omega
      have hkl2 : (k : Int) < ((List.map (fun x => x.2.1) x.hsN).length : Nat) := by omega
      obtain ⟨bh, oh, ha1, hH⟩ := h1.at1 (a := a1) (n := (List.map (fun x => x.1) x.hsN).length) (c := c1) (xs := x.hsN.map (·.1)) (k := k) (by simp; omega)
      obtain ⟨bt, ot, ha2, hT⟩ := h1.at1 (a := a2) (n := (List.map (fun x => x.2.1) x.hsN).length) (c := c2) (xs := x.hsN.map (·.2.1)) (k := k) (by simp; omega)
      subst ha1 ha2
      simp only [List.getElem_map] at hH hT
      have h2 := h.drew
      have cB' : ∀ i, w1.drew.cell? ⟨B, i, none⟩ = _ := cB
      have hH' : w1.drew.cell? _ = _ := hH
      have hT' : w1.drew.cell? _ = _ := hT
      obtain ⟨_, _, hxl⟩ := ok.h2 x.hsN[k] (List.getElem_mem hkh)
      simp -dsimp -implicitDefEqProofs (disch := omega) only [go_sem, reqD_of, dec_t, dec_f, wrap_i64, wrap_u32, wrap_u64, wrap_u8, hd, e0, e5, hkl, hkl2, cB, cB', hH, hH', hT, hT']
      have hrd := listsG_rd (T := 42) (s := 4) (row := rowN) (A := BkQ B x F) (R := BB B x.vi x.vim x.vn x.vnm x.hI x.tI x.fI x.wI x.hN x.tN x.fN x.wN x.EI (x.hsI.map (·.1)) (x.hsI.map (·.2.1)) (x.fsI.map (·.1)) (x.fsI.map (·.2.1)) x.EN (x.hsN.map (·.1)) (x.hsN.map (·.2.1)) (x.fsN.map (·.1)) (x.fsN.map (·.2.1))
    (listsI x.hsI * (listsI x.fsI * (grpsI x.GI * (listsN x.fsN * (grpsN x.GN * F)))))) (List.getElem_mem hkh) (i := ⟨by rw [BkQ.bb]; simp only [BB, HB, listsI, listsN]; ac_rfl⟩)
      refine (sameNeeds_any h2 hrd.1 hrd.2 (by omega)).mono ?_
      rintro e' w3 ⟨h3, rfl⟩
      simp -dsimp -implicitDefEqProofs (disch := omega) only [go_sem, reqD_of, dec_t, dec_f, wrap_i64, wrap_u32, wrap_u64, wrap_u8, hd, e0, e3, e5]
      exact ⟨⟨⟨k + 1, by omega, by omega⟩, h3⟩, by omega⟩
    · have : k = x.hsN.length := by omega
      subst this
      have hkl : ¬ (x.hsN.length : Int) < ((List.map (fun x => x.1) x.hsN).length : Nat) := by omega
      simp -dsimp -implicitDefEqProofs (disch := omega) only [go_sem, reqD_of, dec_t, dec_f, wrap_i64, wrap_u32, wrap_u64, wrap_u8, hd, e0, e5, hkl, cB]
      exact turn_12 hn ok (by simp -dsimp -implicitDefEqProofs only [go_sem, hd]) (by simp -dsimp -implicitDefEqProofs only [go_sem, e0]) (by simp -dsimp -implicitDefEqProofs only [go_sem, e3]) h

end
section
attribute [local go_sem] F10.t4_eq F10.t5_eq F10.t9_eq F10.t10_eq
theorem turn_any (hn : n ≤ 10000000) (h : St w0 (BookP B n * F) w) :
    Calls Tryz.prog 10 #[.pointer (some ⟨B, 0, none⟩)] w fun e w' => St w0 (BookP B n * F) w' ∧ e = .returned (.bool true) := by
  obtain ⟨x, ok, h⟩ := BookP.open h
  have hbN : x.hsN.length ≤ 10000000 := by have := ok.fewN; omega
  have hbI : x.hsI.length ≤ 10000000 := by have := ok.fewI; omega
  have h' := h
  rw [BkQ.bb] at h'
  obtain ⟨a1, c1, hh, _⟩ := h'.rowForm x.hI
  obtain ⟨a2, c2, ht, _⟩ := h'.rowForm x.tI
  have cB := h'.cl B
  refine F10.calls (by simp) ?_
  unfold F10.code
  simp -dsimp -implicitDefEqProofs (disch := omega) only [go_sem, reqD_of, dec_t, dec_f, wrap_i64, wrap_u32, wrap_u64, wrap_u8, cB]
  refine loop_intro (fun e w' => e.ds = [] ∧ e.ρ 0 = .pointer (some ⟨B, 0, none⟩) ∧ e.ρ 3 = .bool true ∧ (∃ k : Nat, k ≤ x.hsI.length ∧ e.ρ 4 = .int .i64 k) ∧ St w0 (BkQ B x F) w')
    (fun e _ => match e.ρ 4 with | .int _ n => (x.hsI.length - n).toNat | _ => 0) ?_ ?_
  · exact ⟨rfl, by simp -dsimp -implicitDefEqProofs only [go_sem], by simp -dsimp -implicitDefEqProofs only [go_sem], ⟨0, by omega, rfl⟩, h⟩
  · clear h h' cB
    rintro e w1 ⟨hd, e0, e3, ⟨k, hk, e5⟩, h⟩
    have h1 := h
    rw [BkQ.bb, hh, ht] at h1
    have hhl : (List.map (fun x => x.1) x.hsI).length = x.hsI.length := by simp
    have hhl2 : (List.map (fun x => x.2.1) x.hsI).length = x.hsI.length := by simp
    have cB := h1.cl B
    by_cases hlt : (k : Int) < x.hsI.length
    · have hkh : k < x.hsI.length := by omega
      have hkl : (k : Int) < ((List.map (fun x => x.1) x.hsI).length : Nat) := by omega
      have hkl2 : (k : Int) < ((List.map (fun x => x.2.1) x.hsI).length : Nat) := by omega
      obtain ⟨bh, oh, ha1, hH⟩ := h1.at1 (a := a1) (n := (List.map (fun x => x.1) x.hsI).length) (c := c1) (xs := x.hsI.map (·.1)) (k := k) (by simp; omega)
      obtain ⟨bt, ot, ha2, hT⟩ := h1.at1 (a := a2) (n := (List.map (fun x => x.2.1) x.hsI).length) (c := c2) (xs := x.hsI.map (·.2.1)) (k := k) (by simp; omega)
      subst ha1 ha2
      simp only [List.getElem_map] at hH hT
      have h2 := h.drew
      have cB' : ∀ i, w1.drew.cell? ⟨B, i, none⟩ = _ := cB
      have hH' : w1.drew.cell? _ = _ := hH
      have hT' : w1.drew.cell? _ = _ := hT
      obtain ⟨_, _, hxl⟩ := ok.h1 x.hsI[k] (List.getElem_mem hkh)
      simp -dsimp -implicitDefEqProofs (disch := omega) only [go_sem, reqD_of, dec_t, dec_f, wrap_i64, wrap_u32, wrap_u64, wrap_u8, hd, e0, e5, hkl, hkl2, cB, cB', hH, hH', hT, hT']
      have hrd := listsG_rd (T := 3) (s := 1) (row := intR) (A := BkQ B x F) (R := BB B x.vi x.vim x.vn x.vnm x.hI x.tI x.fI x.wI x.hN x.tN x.fN x.wN x.EI (x.hsI.map (·.1)) (x.hsI.map (·.2.1)) (x.fsI.map (·.1)) (x.fsI.map (·.2.1)) x.EN (x.hsN.map (·.1)) (x.hsN.map (·.2.1)) (x.fsN.map (·.1)) (x.fsN.map (·.2.1))
    (listsI x.fsI * (grpsI x.GI * (listsN x.hsN * (listsN x.fsN * (grpsN x.GN * F)))))) (List.getElem_mem hkh) (i := ⟨by rw [BkQ.bb]; simp only [BB, HB, listsI, listsN]; ac_rfl⟩)
      refine (sameInts_any h2 hrd.1 hrd.2 (by omega)).mono ?_
      rintro e' w3 ⟨h3, rfl⟩
      simp -dsimp -implicitDefEqProofs (disch := omega) only [go_sem, reqD_of, dec_t, dec_f, wrap_i64, wrap_u32, wrap_u64, wrap_u8, hd, e0, e3, e5]
      exact ⟨⟨⟨k + 1, by omega, by omega⟩, h3⟩, by omega⟩
    · have : k = x.hsI.length := by omega
      subst this
      have hkl : ¬ (x.hsI.length : Int) < ((List.map (fun x => x.1) x.hsI).length : Nat) := by omega
      simp -dsimp -implicitDefEqProofs (disch := omega) only [go_sem, reqD_of, dec_t, dec_f, wrap_i64, wrap_u32, wrap_u64, wrap_u8, hd, e0, e5, hkl, cB]
      exact turn_7 hn ok (by simp -dsimp -implicitDefEqProofs only [go_sem, hd]) (by simp -dsimp -implicitDefEqProofs only [go_sem, e0]) (by simp -dsimp -implicitDefEqProofs only [go_sem, e3]) h

end

theorem ends_any (hn : n ≤ 10000000) (h : St w0 (BookP B n * F) w) :
    Calls Tryz.prog 11 #[.pointer (some ⟨B, 0, none⟩)] w fun e w' => St w0 (BookP B n * F) w' ∧ e = .returned (.bool true) := by
  refine F11.calls (by simp) ?_
  unfold F11.code
  simp -dsimp -implicitDefEqProofs (disch := omega) only [go_sem, reqD_of, dec_t, dec_f, wrap_i64, wrap_u32, wrap_u64, wrap_u8]
  refine (turn_any hn h).mono ?_
  rintro e w1 ⟨h1, rfl⟩
  simp -dsimp -implicitDefEqProofs (disch := omega) only [go_sem, reqD_of, dec_t, dec_f, wrap_i64, wrap_u32, wrap_u64, wrap_u8]
  refine (turn_any hn h1).mono ?_
  rintro e w2 ⟨h2, rfl⟩
  simp -dsimp -implicitDefEqProofs (disch := omega) only [go_sem, reqD_of, dec_t, dec_f, wrap_i64, wrap_u32, wrap_u64, wrap_u8]
  exact h2
end
end Go.Proofs.YtacmnfpgimgigaaGreat

namespace Go.Proofs.YtacmnfpgimgigaaGreat
open Go
set_option linter.unusedSimpArgs false
set_option linter.unusedVariables false
set_option maxRecDepth 100000

/-- A state, of which so much was asked. -/
structure Sz (m : Nat) (ls : List (Nam × LkS)) (ws : List (Int × Nee)) : Prop where
  v : Inv ls ws
  t : tot ls ≤ m
  l : ls.length ≤ m
  w : ws.length ≤ m
theorem Sz.start : Sz 0 [] [] := ⟨Inv.start, by simp [tot], by simp, by simp⟩
theorem aset_len {κ α : Type} [DecidableEq κ] (x : κ) (v : α) : ∀ l : List (κ × α), (aset x v l).length ≤ l.length + 1
  | [] => by simp [aset]
  | p :: l => by
    have := aset_len x v l
    simp only [aset]
    split
    · simp only [List.length_cons]; omega
    · simp only [List.length_cons]; omega
theorem ask_wlen (who : Int) (n : Nee) (ls : List (Nam × LkS)) (ws : List (Int × Nee)) : (askS who n ls ws).2.2.length ≤ ws.length + 1 := by
  unfold askS
  split
  · simp
  · simp only
    split
    · exact aset_len _ _ _
    · omega
section
variable {m : Nat} {ls : List (Nam × LkS)} {ws : List (Int × Nee)}
theorem Sz.up {k : Nat} (s : Sz m ls ws) (h : m ≤ k) : Sz k ls ws := ⟨s.v, Nat.le_trans s.t h, Nat.le_trans s.l h, Nat.le_trans s.w h⟩
theorem Sz.ask (s : Sz m ls ws) (who : Int) (n : Nee) : Sz (m + 1) (askS who n ls ws).2.1 (askS who n ls ws).2.2 := by
  have h1 := ask_tot who n ls ws
  have h2 := ask_wlen who n ls ws
  exact ⟨s.v.ask who n, by have := s.t; omega, by have := s.l; omega, by have := s.w; omega⟩
theorem Sz.free (s : Sz m ls ws) (who : Int) (x : Nam) : Sz m (freeS who x ls ws).2.1 (freeS who x ls ws).2.2 := by
  have h1 := freeS_tot who x ls ws
  have h2 := freeS_wlen who x ls ws
  exact ⟨s.v.free who x, by have := s.t; omega, by have := s.l; omega, by have := s.w; omega⟩
theorem Sz.leave (s : Sz m ls ws) (who : Int) : Sz m (leaveS who ls ws).2.1 (leaveS who ls ws).2.2 := by
  have h1 := leaveS_tot who ls ws
  have h2 := leaveS_wlen who ls ws
  exact ⟨s.v.leave who, by have := s.t; omega, by have := s.l; omega, by have := s.w; omega⟩
theorem Sz.freeLen (s : Sz m ls ws) (who : Int) (x : Nam) : (freeS who x ls ws).1.1.length ≤ m := by
  have h1 := freeS_tot who x ls ws
  have h2 := totQ_le_tot ls
  have := s.t
  omega
theorem Sz.leaveLen (s : Sz m ls ws) (who : Int) : (leaveS who ls ws).1.length ≤ m := by
  have h1 := leaveS_tot who ls ws
  have h2 := totQ_le_tot ls
  have := s.t
  omega
theorem Sz.heldLen (s : Sz m ls ws) (who : Int) : (heldS who ls).length ≤ m := Nat.le_trans (heldS_length who ls) s.l
theorem Sz.holdLen (s : Sz m ls ws) (x : Nam) : (holdersS x ls).length ≤ m := by
  rw [holdersS_length]
  have := tot_agt (x := x) (ls := ls)
  have := s.t
  omega
theorem Sz.queueLen (s : Sz m ls ws) (x : Nam) : (queueS x ls).length ≤ m := by
  rw [queueS_length]
  have := tot_agt (x := x) (ls := ls)
  have := s.t
  omega

variable {w0 w : World} {F : HP} {B : Nat}
theorem pask {who : Int} {n : Nee} (s : Sz m ls ws) (hM : m < 1000000) (h : St w0 (TabP B ls ws * F) w) :
    Calls Tryz.prog 13 #[.pointer (some ⟨B, 0, none⟩), .int .i64 who, needV n] w fun e w' => St w0 (TabP B (askS who n ls ws).2.1 (askS who n ls ws).2.2 * F) w' ∧ e = .returned (.tuple #[.bool (askS who n ls ws).1.1, .int .i64 (askS who n ls ws).1.2]) := by
  have := tot_agt (x := n.1) (ls := ls)
  have := s.t
  exact ask_any h rfl (by omega) (by omega)
theorem pfree {who : Int} {x : Nam} (s : Sz m ls ws) (hM : m < 1000000) (h : St w0 (TabP B ls ws * F) w) :
    Calls Tryz.prog 15 #[.pointer (some ⟨B, 0, none⟩), .int .i64 who, namV x] w fun e w' => ∃ va, St w0 (RowO 3 1 va (freeS who x ls ws).1.1.length (intR ((freeS who x ls ws).1.1.map (·.1))) * (TabP B (freeS who x ls ws).2.1 (freeS who x ls ws).2.2 * F)) w' ∧ e = .returned (.tuple #[va, .int .i64 (freeS who x ls ws).1.2]) := by
  have := tot_agt (x := x) (ls := ls)
  have := s.t
  exact free_any h rfl (by omega)
theorem pleave {who : Int} (s : Sz m ls ws) (hM : m < 1000000) (h : St w0 (TabP B ls ws * F) w) :
    Calls Tryz.prog 21 #[.pointer (some ⟨B, 0, none⟩), .int .i64 who] w fun e w' => ∃ va, St w0 (RowO 3 1 va (leaveS who ls ws).1.length (intR ((leaveS who ls ws).1.map (·.1))) * (TabP B (leaveS who ls ws).2.1 (leaveS who ls ws).2.2 * F)) w' ∧ e = .returned va :=
  leave_any h (fun n hn => by
    obtain ⟨t, ht, _⟩ := s.v.wq who n.1 n.2 hn
    exact ⟨t, ht⟩) (by have := s.t; omega) (by have := s.l; omega)
theorem pheld {who : Int} (s : Sz m ls ws) (hM : m < 1000000) (h : St w0 (TabP B ls ws * F) w) :
    Calls Tryz.prog 25 #[.pointer (some ⟨B, 0, none⟩), .int .i64 who] w fun e w' => ∃ va, St w0 (RowO 42 4 va (heldS who ls).length (rowN (heldS who ls)) * (TabP B ls ws * F)) w' ∧ e = .returned va :=
  held_any h (fun p hp => by have := tot_mem hp; have := s.t; omega) (by have := s.l; omega)
theorem pholders {x : Nam} (s : Sz m ls ws) (hM : m < 1000000) (h : St w0 (TabP B ls ws * F) w) :
    Calls Tryz.prog 30 #[.pointer (some ⟨B, 0, none⟩), namV x] w fun e w' => ∃ va, St w0 (RowO 3 1 va (holdersS x ls).length (intR (holdersS x ls)) * (TabP B ls ws * F)) w' ∧ e = .returned va :=
  holders_any h (by have := tot_agt (x := x) (ls := ls); have := s.t; omega)
theorem pqueue {x : Nam} (s : Sz m ls ws) (hM : m < 1000000) (h : St w0 (TabP B ls ws * F) w) :
    Calls Tryz.prog 14 #[.pointer (some ⟨B, 0, none⟩), namV x] w fun e w' => ∃ va, St w0 (RowO 3 1 va (queueS x ls).length (intR (queueS x ls)) * (TabP B ls ws * F)) w' ∧ e = .returned va :=
  queueN_any h (by have := s.t; omega)
theorem pstuck (s : Sz m ls ws) (hM : m < 1000000) (h : St w0 (TabP B ls ws * F) w) :
    Calls Tryz.prog 32 #[.pointer (some ⟨B, 0, none⟩)] w fun e w' => ∃ va l, StuckIs ls ws l ∧ St w0 (RowO 3 1 va l.length (intR l) * (TabP B ls ws * F)) w' ∧ e = .returned va :=
  stuck_any s.v h (by have := s.t; omega) (by have := s.l; omega) (by have := s.w; omega)
end

/-- An operation: on which, what kind, who, a need. -/
abbrev OpL := Int × Int × Int × Nee
def opC (o : OpL) : List Value := [.int .i64 o.1, .int .i64 o.2.1, .int .i64 o.2.2.1, .int .u8 o.2.2.2.1.1, .int .i64 o.2.2.2.1.2.1, .int .u64 o.2.2.2.1.2.2, .bool o.2.2.2.2]
abbrev opV (o : OpL) : Value := .agg (opC o).toArray
theorem opC_len (o : OpL) : (opC o).length = 7 := rfl
structure OpOk (o : OpL) : Prop where
  on : -9223372036854775808 ≤ o.1 ∧ o.1 < 9223372036854775808
  num : 0 ≤ o.2.2.2.1.2.2 ∧ o.2.2.2.1.2.2 < 18446744073709551616
theorem op_facts {w : World} {O : Nat} {o : OpL} (c : ∀ i, w.cell? ⟨O, i, none⟩ = (opC o).toArray[i]?) : w.cell? ⟨O, 1, none⟩ = some (.int .i64 o.2.1) ∧ w.cell? ⟨O, 2, none⟩ = some (.int .i64 o.2.2.1) ∧ rowV w ⟨O, 3, none⟩ 4 = some (needV o.2.2.2) ∧ rowV w ⟨O, 3, none⟩ 3 = some (namV o.2.2.2.1) ∧ w.cell? ⟨O, 5, none⟩ = some (.int .u64 o.2.2.2.1.2.2) := by
  have h1 := c 1
  have h2 := c 2
  have h3 := c 3
  have h4 := c 4
  have h5 := c 5
  have h6 := c 6
  simp only [opC] at h1 h2 h3 h4 h5 h6
  refine ⟨h1, h2, ?_, ?_, h5⟩
  · simp [rowV, cellsFrom, add_lit, h3, h4, h5, h6, needV, needC]
  · simp [rowV, cellsFrom, add_lit, h3, h4, h5, namV, namC]
abbrev opB (o : OpL) : Obj := .cells (opC o).toArray 44 (0, 0)
end Go.Proofs.YtacmnfpgimgigaaGreat

namespace Go.Proofs.YtacmnfpgimgigaaGreat
open Go
set_option linter.unusedSimpArgs false
set_option linter.unusedVariables false
set_option maxRecDepth 100000

abbrev Duo (tB rB B m n : Nat) (ls : List (Nam × LkS)) (ws : List (Int × Nee)) (F : HP) : HP := TabP tB ls ws * (RefT rB m ls * (BookP B n * F))
/-- A table and the document's, the book. -/
def DuoE (tB rB B m n : Nat) (w0 : World) (F : HP) (w : World) : Prop := ∃ ls ws, Sz m ls ws ∧ St w0 (Duo tB rB B m n ls ws F) w

section
variable {w0 w : World} {F : HP} {tB rB B m n : Nat} {ls : List (Nam × LkS)} {ws : List (Int × Nee)} {o : OpL}

theorem DuoE.up {k j : Nat} (hk : m ≤ k) (hj : n ≤ j) (h : DuoE tB rB B m n w0 F w) : DuoE tB rB B k j w0 F w := by
  obtain ⟨ls, ws, s, h⟩ := h
  have h1 : St w0 (RefT rB m ls * (TabP tB ls ws * (BookP B n * F))) w := h.sub
  have h2 := RefT.up hk h1
  have h3 : St w0 (BookP B n * (RefT rB k ls * (TabP tB ls ws * F))) w := h2.sub
  have h4 := BookP.up hj h3
  exact ⟨ls, ws, s.up hk, h4.sub⟩
theorem DuoE.of (s : Sz m ls ws) (h : St w0 (Duo tB rB B m n ls ws F) w) : DuoE tB rB B m n w0 F w := ⟨ls, ws, s, h⟩

section
attribute [local go_sem] F8.t18_eq F8.t36_eq F8.t38_eq
theorem acts_any (ho : OpOk o) (s : Sz m ls ws) (hM : m < 100000) (hn : n < 1000000) (h : St w0 (Duo tB rB B m n ls ws F) w) :
    Calls Tryz.prog 8 #[.pointer (some ⟨tB, 0, none⟩), .pointer (some ⟨rB, 0, none⟩), opV o, .pointer (some ⟨B, 0, none⟩)] w fun e w' => DuoE tB rB B (m + 1) (n + 1) w0 F w' ∧ e = .returned (.bool true) := by
  refine F8.calls (by simp) ?_
  unfold F8.code
  simp -dsimp -implicitDefEqProofs (disch := omega) only [go_sem, reqD_of, dec_t, dec_f, wrap_i64, wrap_u32, wrap_u64, wrap_u8]
  refine h.new fun O w1 h1 => ?_
  have h1 : St w0 (Duo tB rB B m n ls ws (Blk O (opB o) * F)) w1 := h1.sub
  obtain ⟨k1, k2, k3, k4, k5⟩ := op_facts (h1.cl O)
  have done : ∀ {m' n' : Nat} {ls' : List (Nam × LkS)} {ws' : List (Int × Nee)} {w' : World}, Sz m' ls' ws' → m' ≤ m + 1 → n' ≤ n + 1 → St w0 (Duo tB rB B m' n' ls' ws' (Blk O (opB o) * F)) w' → DuoE tB rB B (m + 1) (n + 1) w0 F w' := fun {m' n' ls' ws' w'} s' hm' hn' h' => by
    have h2 : St w0 (Duo tB rB B m' n' ls' ws' F) w' := h'.sub
    exact (DuoE.of s' h2).up hm' hn'
  by_cases hk1 : o.2.1 = 1
  · simp -dsimp -implicitDefEqProofs (disch := omega) only [go_sem, reqD_of, dec_t, dec_f, wrap_i64, wrap_u32, wrap_u64, wrap_u8, k1, k2, k3, hk1]
    refine (pask (who := o.2.2.1) (n := o.2.2.2) s (by omega) h1).mono ?_
    rintro e' w2 ⟨h2, rfl⟩
    obtain ⟨k1, k2, k3, k4, k5⟩ := op_facts (h2.cl O)
    simp -dsimp -implicitDefEqProofs (disch := omega) only [go_sem, reqD_of, dec_t, dec_f, wrap_i64, wrap_u32, wrap_u64, wrap_u8, k1, k2, k3, hk1]
    refine (ask_ref (who := o.2.2.1) (n := o.2.2.2) s.v (by omega) (St.sub (B := RefT rB m ls * (TabP tB (askS o.2.2.1 o.2.2.2 ls ws).2.1 (askS o.2.2.1 o.2.2.2 ls ws).2.2 * (BookP B n * (Blk O (opB o) * F)))) h2)).mono ?_
    rintro e' w3 ⟨h3, rfl⟩
    simp -dsimp -implicitDefEqProofs (disch := omega) only [go_sem, reqD_of, dec_t, dec_f, wrap_i64, wrap_u32, wrap_u64, wrap_u8, beq_self_eq_true, decide_true]
    exact done (s.ask _ _) (Nat.le_refl _) (by omega) h3.sw2
  by_cases hk2 : o.2.1 = 2
  · simp -dsimp -implicitDefEqProofs (disch := omega) only [go_sem, reqD_of, dec_t, dec_f, wrap_i64, wrap_u32, wrap_u64, wrap_u8, k1, k2, k3, k4, hk1, hk2]
    refine (pfree (who := o.2.2.1) (x := o.2.2.2.1) s (by omega) h1).mono ?_
    rintro e' w2 ⟨va, h2, rfl⟩
    obtain ⟨k1, k2, k3, k4, k5⟩ := op_facts (h2.cl O)
    simp -dsimp -implicitDefEqProofs (disch := omega) only [go_sem, reqD_of, dec_t, dec_f, wrap_i64, wrap_u32, wrap_u64, wrap_u8, k1, k2, k3, k4, hk1]
    refine (free_ref (who := o.2.2.1) (x := o.2.2.2.1) s.v (by omega) (St.sub (B := RefT rB m ls * (RowO 3 1 va (freeS o.2.2.1 o.2.2.2.1 ls ws).1.1.length (intR ((freeS o.2.2.1 o.2.2.2.1 ls ws).1.1.map (·.1))) * (TabP tB (freeS o.2.2.1 o.2.2.2.1 ls ws).2.1 (freeS o.2.2.1 o.2.2.2.1 ls ws).2.2 * (BookP B n * (Blk O (opB o) * F))))) h2)).mono ?_
    rintro e' w3 ⟨vb, hlb, h3, rfl⟩
    have sf := s.free o.2.2.1 o.2.2.2.1
    generalize hfr : freeS o.2.2.1 o.2.2.2.1 ls ws = fr at *
    obtain ⟨⟨lf, ef⟩, ls2, ws2⟩ := fr
    simp only at sf h3 hlb
    simp -dsimp -implicitDefEqProofs (disch := omega) only [go_sem, reqD_of, dec_t, dec_f, wrap_i64, wrap_u32, wrap_u64, wrap_u8]
    have h4 : St w0 (BookP B n * (RowO 3 1 va (lf.map (·.1)).length (intR (lf.map (·.1))) * (RowO 3 1 vb (lf.map (·.1)).length (intR (lf.map (·.1))) * (TabP tB ls2 ws2 * (RefT rB m ls2 * (Blk O (opB o) * F)))))) w3 := by
      rw [List.length_map]; exact h3.sub
    refine (alike_any (v := va) (u := vb) (by omega) (by rw [List.length_map]; omega) ((Ent.left _ _).trans (RowO.reads _ _ _ _ _)) h4).mono ?_
    rintro e' w4 ⟨h5, rfl⟩
    simp -dsimp -implicitDefEqProofs (disch := omega) only [go_sem, reqD_of, dec_t, dec_f, wrap_i64, wrap_u32, wrap_u64, wrap_u8, beq_self_eq_true, decide_true]
    refine done sf (by omega) (Nat.le_refl _) h5.sub
  by_cases hk3 : o.2.1 = 3
  · simp -dsimp -implicitDefEqProofs (disch := omega) only [go_sem, reqD_of, dec_t, dec_f, wrap_i64, wrap_u32, wrap_u64, wrap_u8, k1, k2, k3, hk1, hk2, hk3]
    refine (pleave (who := o.2.2.1) s (by omega) h1).mono ?_
    rintro e' w2 ⟨va, h2, rfl⟩
    obtain ⟨k1, k2, k3, k4, k5⟩ := op_facts (h2.cl O)
    simp -dsimp -implicitDefEqProofs (disch := omega) only [go_sem, reqD_of, dec_t, dec_f, wrap_i64, wrap_u32, wrap_u64, wrap_u8, k1, k2, k3, k4, hk1]
    refine (leave_ref (who := o.2.2.1) s.v (by omega) (by have := s.t; omega) (St.sub (B := RefT rB m ls * (RowO 3 1 va (leaveS o.2.2.1 ls ws).1.length (intR ((leaveS o.2.2.1 ls ws).1.map (·.1))) * (TabP tB (leaveS o.2.2.1 ls ws).2.1 (leaveS o.2.2.1 ls ws).2.2 * (BookP B n * (Blk O (opB o) * F))))) h2)).mono ?_
    rintro e' w3 ⟨vb, h3, rfl⟩
    have sf := s.leave o.2.2.1
    have hlb := s.leaveLen o.2.2.1
    generalize hfr : leaveS o.2.2.1 ls ws = fr at *
    obtain ⟨lf, ls2, ws2⟩ := fr
    simp only at sf h3 hlb
    simp -dsimp -implicitDefEqProofs (disch := omega) only [go_sem, reqD_of, dec_t, dec_f, wrap_i64, wrap_u32, wrap_u64, wrap_u8]
    have h4 : St w0 (BookP B n * (RowO 3 1 va (lf.map (·.1)).length (intR (lf.map (·.1))) * (RowO 3 1 vb (lf.map (·.1)).length (intR (lf.map (·.1))) * (TabP tB ls2 ws2 * (RefT rB m ls2 * (Blk O (opB o) * F)))))) w3 := by
      rw [List.length_map]; exact h3.sub
    refine (alike_any (v := va) (u := vb) (by omega) (by rw [List.length_map]; omega) ((Ent.left _ _).trans (RowO.reads _ _ _ _ _)) h4).mono ?_
    rintro e' w4 ⟨h5, rfl⟩
    simp -dsimp -implicitDefEqProofs (disch := omega) only [go_sem, reqD_of, dec_t, dec_f, wrap_i64, wrap_u32, wrap_u64, wrap_u8, beq_self_eq_true, decide_true]
    refine done sf (by omega) (Nat.le_refl _) h5.sub
  by_cases hk7 : o.2.1 = 7
  · simp -dsimp -implicitDefEqProofs (disch := omega) only [go_sem, reqD_of, dec_t, dec_f, wrap_i64, wrap_u32, wrap_u64, wrap_u8, k1, k2, k3, hk1, hk2, hk3, hk7]
    refine (held_ref (who := o.2.2.1) s.v (by omega) (St.sub (B := RefT rB m ls * (TabP tB ls ws * (BookP B n * (Blk O (opB o) * F)))) h1)).mono ?_
    rintro e' w2 ⟨vh, hl, h2, rfl⟩
    obtain ⟨k1, k2, k3, k4, k5⟩ := op_facts (h2.cl O)
    obtain ⟨_, al, cl, rfl, _, hcN⟩ := needAt (h2.ent ((Ent.left _ _).trans (RowO.reads _ _ _ _ _)))
    by_cases hz : ((heldS o.2.2.1 ls).length : Int) = 0
    · simp -dsimp -implicitDefEqProofs (disch := omega) only [go_sem, reqD_of, dec_t, dec_f, wrap_i64, wrap_u32, wrap_u64, wrap_u8, k1, k2, k3, hz]
      exact done s (by omega) (by omega) h2.right.sw2
    have hlen := s.heldLen o.2.2.1
    generalize hL : heldS o.2.2.1 ls = L at *
    have hj : o.2.2.2.1.2.2.toNat % L.length < L.length := Nat.mod_lt _ (by omega)
    obtain ⟨hu0, hu1⟩ := ho.num
    have e1 : IntKind.u64.wrap (L.length : Int) = L.length := by rw [wrap_u64 (by omega) (by omega)]
    have e2 : (o.2.2.2.1.2.2).tmod (L.length : Int) = ((o.2.2.2.1.2.2.toNat % L.length : Nat) : Int) := by
      rw [Int.natCast_emod, Int.toNat_of_nonneg hu0, Int.tmod_eq_emod_of_nonneg hu0]
    obtain ⟨bl, ol, rfl, c0, c1, c2, _, _, _⟩ := hcN _ hj
    generalize hjj : o.2.2.2.1.2.2.toNat % L.length = j at *
    have hjI : (j : Int) < (L.length : Int) := by omega
    simp -dsimp -implicitDefEqProofs (disch := omega) only [go_sem, reqD_of, dec_t, dec_f, wrap_i64, wrap_u32, wrap_u64, wrap_u8, k1, k2, k3, k4, k5, hz, e1, e2, c0, c1, c2]
    refine h2.new fun K w3 h3 => ?_
    simp -dsimp -implicitDefEqProofs (disch := omega) only [go_sem, reqD_of, dec_t, dec_f, wrap_i64, wrap_u32, wrap_u64, wrap_u8]
    refine h3.stoAll (b := K) (cs := namC L[j].1) rfl rfl (namC_cells _) fun w4 h4 => ?_
    have h4 : St w0 (Duo tB rB B m n ls ws (Blk K (.cells (namC L[j].1).toArray 40 (0, 0)) * (Blk O (opB o) * F))) w4 := h4.sub
    obtain ⟨k1, k2, k3, k4, k5⟩ := op_facts (h4.cl O)
    have rK := h4.rowH K 3 rfl
    simp -dsimp -implicitDefEqProofs (disch := omega) only [go_sem, reqD_of, dec_t, dec_f, wrap_i64, wrap_u32, wrap_u64, wrap_u8, k2, rK]
    refine (pfree (who := o.2.2.1) (x := L[j].1) s (by omega) h4).mono ?_
    rintro e' w5 ⟨va, h5, rfl⟩
    obtain ⟨k1, k2, k3, k4, k5⟩ := op_facts (h5.cl O)
    have rK := h5.rowH K 3 rfl
    simp -dsimp -implicitDefEqProofs (disch := omega) only [go_sem, reqD_of, dec_t, dec_f, wrap_i64, wrap_u32, wrap_u64, wrap_u8, k2, rK]
    refine (free_ref (who := o.2.2.1) (x := L[j].1) s.v (by omega) (St.sub (B := RefT rB m ls * (RowO 3 1 va (freeS o.2.2.1 L[j].1 ls ws).1.1.length (intR ((freeS o.2.2.1 L[j].1 ls ws).1.1.map (·.1))) * (TabP tB (freeS o.2.2.1 L[j].1 ls ws).2.1 (freeS o.2.2.1 L[j].1 ls ws).2.2 * (BookP B n * (Blk O (opB o) * F))))) h5)).mono ?_
    rintro e' w6 ⟨vb, hlb, h6, rfl⟩
    have sf := s.free o.2.2.1 L[j].1
    generalize hfr : freeS o.2.2.1 L[j].1 ls ws = fr at *
    obtain ⟨⟨lf, ef⟩, ls2, ws2⟩ := fr
    simp only at sf h6 hlb
    simp -dsimp -implicitDefEqProofs (disch := omega) only [go_sem, reqD_of, dec_t, dec_f, wrap_i64, wrap_u32, wrap_u64, wrap_u8]
    have h7 : St w0 (BookP B n * (RowO 3 1 va (lf.map (·.1)).length (intR (lf.map (·.1))) * (RowO 3 1 vb (lf.map (·.1)).length (intR (lf.map (·.1))) * (TabP tB ls2 ws2 * (RefT rB m ls2 * (Blk O (opB o) * F)))))) w6 := by
      rw [List.length_map]; exact h6.sub
    refine (alike_any (v := va) (u := vb) (by omega) (by rw [List.length_map]; omega) ((Ent.left _ _).trans (RowO.reads _ _ _ _ _)) h7).mono ?_
    rintro e' w8 ⟨h8, rfl⟩
    simp -dsimp -implicitDefEqProofs (disch := omega) only [go_sem, reqD_of, dec_t, dec_f, wrap_i64, wrap_u32, wrap_u64, wrap_u8, beq_self_eq_true, decide_true]
    refine done sf (by omega) (Nat.le_refl _) h8.sub
  by_cases hk8 : o.2.1 = 8
  · simp -dsimp -implicitDefEqProofs (disch := omega) only [go_sem, reqD_of, dec_t, dec_f, wrap_i64, wrap_u32, wrap_u64, wrap_u8, k1, k2, k3, hk1, hk2, hk3, hk7, hk8]
    refine (held_ref (who := o.2.2.1) s.v (by omega) (St.sub (B := RefT rB m ls * (TabP tB ls ws * (BookP B n * (Blk O (opB o) * F)))) h1)).mono ?_
    rintro e' w2 ⟨vh, hl, h2, rfl⟩
    obtain ⟨_, al, cl, rfl, _, _⟩ := needAt (h2.ent ((Ent.left _ _).trans (RowO.reads _ _ _ _ _)))
    obtain ⟨k1, k2, k3, k4, k5⟩ := op_facts (h2.cl O)
    have cO := h2.cl O
    simp only [opC] at cO
    simp -dsimp -implicitDefEqProofs (disch := omega) only [go_sem, reqD_of, dec_t, dec_f, wrap_i64, wrap_u32, wrap_u64, wrap_u8, cO]
    refine h2.new fun N w3 h3 => ?_
    simp -dsimp -implicitDefEqProofs (disch := omega) only [go_sem, reqD_of, dec_t, dec_f, wrap_i64, wrap_u32, wrap_u64, wrap_u8]
    refine h3.stoAll (b := N) (cs := needC o.2.2.2) rfl rfl (needC_cells _) fun w4 h4 => ?_
    have asks : ∀ {e : FA} {w4 : World} {n' : Nee} {Q : Post} {θ : Tag (F8.t29, Q, e, w4)}, (∀ (e' : FA) (w' : World), e'.ds = [] → e'.ρ 8 = .bool true → DuoE tB rB B (m + 1) (n + 1) w0 F w' → Q .ret e' w') → e.ds = [] → e.ρ 0 = .pointer (some ⟨tB, 0, none⟩) → e.ρ 1 = .pointer (some ⟨rB, 0, none⟩) → e.ρ 6 = .pointer (some ⟨O, 0, none⟩) → e.ρ 27 = .pointer (some ⟨N, 0, none⟩) →
        St w0 (Duo tB rB B m n ls ws (Blk N (.cells (needC n').toArray 42 (0, 0)) * (Blk O (opB o) * F))) w4 → cwE Tryz.prog F8.t29 Q e w4 θ := by
      intro e w4 n' Q θ hQ hd e0 e1 e6 e27 h4
      rw [F8.t29_eq]
      obtain ⟨k1, k2, k3, k4, k5⟩ := op_facts (h4.cl O)
      have rN := h4.rowH N 4 rfl
      simp -dsimp -implicitDefEqProofs (disch := omega) only [go_sem, reqD_of, dec_t, dec_f, wrap_i64, wrap_u32, wrap_u64, wrap_u8, hd, e0, e1, e6, e27, k2, rN]
      refine (pask (who := o.2.2.1) (n := n') s (by omega) h4).mono ?_
      rintro e' w2 ⟨h2, rfl⟩
      obtain ⟨k1, k2, k3, k4, k5⟩ := op_facts (h2.cl O)
      have rN := h2.rowH N 4 rfl
      simp -dsimp -implicitDefEqProofs (disch := omega) only [go_sem, reqD_of, dec_t, dec_f, wrap_i64, wrap_u32, wrap_u64, wrap_u8, hd, e0, e1, e6, e27, k2, rN]
      refine (ask_ref (who := o.2.2.1) (n := n') s.v (by omega) (St.sub (B := RefT rB m ls * (TabP tB (askS o.2.2.1 n' ls ws).2.1 (askS o.2.2.1 n' ls ws).2.2 * (BookP B n * (Blk O (opB o) * F)))) h2)).mono ?_
      rintro e' w3 ⟨h3, rfl⟩
      simp -dsimp -implicitDefEqProofs (disch := omega) only [go_sem, reqD_of, dec_t, dec_f, wrap_i64, wrap_u32, wrap_u64, wrap_u8, hd, e0, e1, e6, e27, beq_self_eq_true, decide_true]
      exact hQ _ _ (by simp -dsimp -implicitDefEqProofs only [go_sem, hd]) (by simp -dsimp -implicitDefEqProofs only [go_sem]) (done (s.ask _ _) (Nat.le_refl _) (by omega) h3.sw2)
    by_cases hz : 0 < ((heldS o.2.2.1 ls).length : Int)
    case neg =>
      simp -dsimp -implicitDefEqProofs (disch := omega) only [go_sem, reqD_of, dec_t, dec_f, wrap_i64, wrap_u32, wrap_u64, wrap_u8, hz]
      refine asks (n' := o.2.2.2) (fun e' w' hd h8 hD => ?_) (by simp -dsimp -implicitDefEqProofs only [go_sem]) (by simp -dsimp -implicitDefEqProofs only [go_sem]) (by simp -dsimp -implicitDefEqProofs only [go_sem]) (by simp -dsimp -implicitDefEqProofs only [go_sem]) (by simp -dsimp -implicitDefEqProofs only [go_sem]) h4.sub
      simp -dsimp -implicitDefEqProofs (disch := omega) only [go_sem, reqD_of, dec_t, dec_f, wrap_i64, wrap_u32, wrap_u64, wrap_u8, hd, h8]
      exact hD
    have hlen := s.heldLen o.2.2.1
    generalize hL : heldS o.2.2.1 ls = L at *
    have hjl : L.length - 1 < L.length := by omega
    have hjI : ((L.length : Int) - 1).toNat = L.length - 1 := by omega
    obtain ⟨_, _, _, hv, _, hcN⟩ := needAt (h4.ent ((Ent.right _ _).trans ((Ent.left _ _).trans (RowO.reads _ _ _ _ _))))
    simp only [Value.slice.injEq, true_and] at hv
    obtain ⟨rfl, rfl⟩ := hv
    obtain ⟨bl, ol, rfl, c0, c1, c2, _, r3, _⟩ := hcN _ hjl
    generalize hla : L[L.length - 1].1 = la at c0 c1 c2 r3
    have hlt : ((L.length : Int) - 1) < (L.length : Int) := by omega
    have hge : (0 : Int) ≤ ((L.length : Int) - 1) := by omega
    simp -dsimp -implicitDefEqProofs (disch := omega) only [go_sem, reqD_of, dec_t, dec_f, wrap_i64, wrap_u32, wrap_u64, wrap_u8, hz, hjI, hlt, hge, c0, c1, c2]
    refine h4.stoRow (b := N) (off := 0) (n := 3) (cs := namC la) rfl (by simp [needC]) (namC_cells _) fun w5 h5 => ?_
    have e9 : setRowL (needC o.2.2.2).toArray.toList 0 (namC la) = needC (la, o.2.2.2.2) := rfl
    rw [e9] at h5
    have cN := h5.cl N
    have cO := h5.cl O
    simp only [opC] at cO
    simp only [needC] at cN
    simp -dsimp -implicitDefEqProofs (disch := omega) only [go_sem, reqD_of, dec_t, dec_f, wrap_i64, wrap_u32, wrap_u64, wrap_u8, cN, cO]
    refine h5.sto (b := N) (off := 2) (by simp [needC]) rfl fun w6 h6 => ?_
    obtain ⟨X, hX⟩ : ∃ X : Int, X = IntKind.u64.wrap (IntKind.u64.wrap (la.2.2 + 1) + o.2.2.2.1.2.2.tmod 3) := ⟨_, rfl⟩
    simp -dsimp -implicitDefEqProofs (disch := omega) only [go_sem, reqD_of, dec_t, dec_f, wrap_i64, wrap_u32, wrap_u64, wrap_u8]
    refine asks (n' := ((la.1, la.2.1, X), o.2.2.2.2)) (fun e' w' hd h8 hD => ?_) (by simp -dsimp -implicitDefEqProofs only [go_sem]) (by simp -dsimp -implicitDefEqProofs only [go_sem]) (by simp -dsimp -implicitDefEqProofs only [go_sem]) (by simp -dsimp -implicitDefEqProofs only [go_sem]) (by simp -dsimp -implicitDefEqProofs only [go_sem]) ?_
    · simp -dsimp -implicitDefEqProofs (disch := omega) only [go_sem, reqD_of, dec_t, dec_f, wrap_i64, wrap_u32, wrap_u64, wrap_u8, hd, h8]
      exact hD
    · rw [hX]
      have h7 : St w0 (Blk N (.cells (needC ((la.1, la.2.1, IntKind.u64.wrap (IntKind.u64.wrap (la.2.2 + 1) + o.2.2.2.1.2.2.tmod 3)), o.2.2.2.2)).toArray 42 (0, 0)) * (RowO 42 4 (.slice (some ⟨bl, ol, none⟩) L.length cl) L.length (rowN L) * (RefT rB m ls * (TabP tB ls ws * (BookP B n * (Blk O (opB o) * F)))))) w6 := h6
      exact h7.sub
  by_cases hk9 : o.2.1 = 9
  · simp -dsimp -implicitDefEqProofs (disch := omega) only [go_sem, reqD_of, dec_t, dec_f, wrap_i64, wrap_u32, wrap_u64, wrap_u8, k1, k2, k3, k4, hk1, hk2, hk3, hk7, hk8, hk9]
    refine (holders_ref (x := o.2.2.2.1) s.v (by omega) (St.sub (B := RefT rB m ls * (TabP tB ls ws * (BookP B n * (Blk O (opB o) * F)))) h1)).mono ?_
    rintro e' w2 ⟨vh, hl, h2, rfl⟩
    obtain ⟨_, al, cl, rfl, _, hcN⟩ := intAt (h2.ent ((Ent.left _ _).trans (RowO.reads _ _ _ _ _)))
    by_cases hz : ((holdersS o.2.2.2.1 ls).length : Int) = 0
    · simp -dsimp -implicitDefEqProofs (disch := omega) only [go_sem, reqD_of, dec_t, dec_f, wrap_i64, wrap_u32, wrap_u64, wrap_u8, hz]
      exact done s (by omega) (by omega) h2.right.sw2
    have hlen := s.holdLen o.2.2.2.1
    generalize hL : holdersS o.2.2.2.1 ls = L at *
    have hj : 0 < L.length := by omega
    have hj0 : (0 : Int) < (L.length : Int) := by omega
    obtain ⟨bl, ol, rfl, c0⟩ := hcN 0 hj
    rw [Nat.add_zero] at c0
    generalize hla : L[0] = who at *
    simp -dsimp -implicitDefEqProofs (disch := omega) only [go_sem, reqD_of, dec_t, dec_f, wrap_i64, wrap_u32, wrap_u64, wrap_u8, hz, hj0, c0]
    refine (pleave (who := who) s (by omega) (St.sub (B := TabP tB ls ws * (RefT rB m ls * (BookP B n * (RowO 3 1 (.slice (some ⟨bl, ol, none⟩) L.length cl) L.length (intR L) * F)))) h2)).mono ?_
    rintro e' w3 ⟨va, h3, rfl⟩
    obtain ⟨_, _, _, hv, _, hcN3⟩ := intAt (h3.ent ((Ent.right _ _).trans ((Ent.right _ _).trans ((Ent.right _ _).trans ((Ent.right _ _).trans ((Ent.left _ _).trans (RowO.reads _ _ _ _ _)))))))
    simp only [Value.slice.injEq, true_and] at hv
    obtain ⟨rfl, rfl⟩ := hv
    obtain ⟨_, _, hq, c0⟩ := hcN3 0 hj
    simp only [Option.some.injEq, Addr.mk.injEq] at hq
    obtain ⟨rfl, rfl, _⟩ := hq
    rw [hla, Nat.add_zero] at c0
    simp -dsimp -implicitDefEqProofs (disch := omega) only [go_sem, reqD_of, dec_t, dec_f, wrap_i64, wrap_u32, wrap_u64, wrap_u8, hz, hj0, c0]
    refine (leave_ref (who := who) s.v (by omega) (by have := s.t; omega) (St.sub (B := RefT rB m ls * (RowO 3 1 va (leaveS who ls ws).1.length (intR ((leaveS who ls ws).1.map (·.1))) * (TabP tB (leaveS who ls ws).2.1 (leaveS who ls ws).2.2 * (BookP B n * F)))) h3)).mono ?_
    rintro e' w4 ⟨vb, h4, rfl⟩
    have sf := s.leave who
    have hlb := s.leaveLen who
    generalize hfr : leaveS who ls ws = fr at *
    obtain ⟨lf, ls2, ws2⟩ := fr
    simp only at sf h4 hlb
    simp -dsimp -implicitDefEqProofs (disch := omega) only [go_sem, reqD_of, dec_t, dec_f, wrap_i64, wrap_u32, wrap_u64, wrap_u8]
    have h5 : St w0 (BookP B n * (RowO 3 1 va (lf.map (·.1)).length (intR (lf.map (·.1))) * (RowO 3 1 vb (lf.map (·.1)).length (intR (lf.map (·.1))) * (TabP tB ls2 ws2 * (RefT rB m ls2 * F))))) w4 := by
      rw [List.length_map]; exact h4.sub
    refine (alike_any (v := va) (u := vb) (by omega) (by rw [List.length_map]; omega) ((Ent.left _ _).trans (RowO.reads _ _ _ _ _)) h5).mono ?_
    rintro e' w6 ⟨h6, rfl⟩
    simp -dsimp -implicitDefEqProofs (disch := omega) only [go_sem, reqD_of, dec_t, dec_f, wrap_i64, wrap_u32, wrap_u64, wrap_u8, beq_self_eq_true, decide_true]
    have h7 : St w0 (Duo tB rB B m (n + 1) ls2 ws2 F) w6 := h6.sub
    exact (DuoE.of sf h7).up (by omega) (Nat.le_refl _)
  simp -dsimp -implicitDefEqProofs (disch := omega) only [go_sem, reqD_of, dec_t, dec_f, wrap_i64, wrap_u32, wrap_u64, wrap_u8, k1, hk1, hk2, hk3, hk7, hk8, hk9]
  exact done s (by omega) (by omega) h1
end
end
end Go.Proofs.YtacmnfpgimgigaaGreat

namespace Go.Proofs.YtacmnfpgimgigaaGreat
open Go
set_option linter.unusedSimpArgs false
set_option linter.unusedVariables false
set_option maxRecDepth 100000

section
variable {w0 w : World} {F : HP} {tB rB B m n : Nat} {ls : List (Nam × LkS)} {ws : List (Int × Nee)} {o : OpL}

section
attribute [local go_sem] F9.t27_eq
theorem tells_any (s : Sz m ls ws) (hM : m < 100000) (hn : n < 1000000) (h : St w0 (Duo tB rB B m n ls ws F) w) :
    Calls Tryz.prog 9 #[.pointer (some ⟨tB, 0, none⟩), .pointer (some ⟨rB, 0, none⟩), opV o, .pointer (some ⟨B, 0, none⟩)] w fun e w' => DuoE tB rB B m (n + 4) w0 F w' ∧ e = .returned (.bool true) := by
  refine F9.calls (by simp) ?_
  unfold F9.code
  simp -dsimp -implicitDefEqProofs (disch := omega) only [go_sem, reqD_of, dec_t, dec_f, wrap_i64, wrap_u32, wrap_u64, wrap_u8]
  refine h.new fun O w1 h1 => ?_
  have h1 : St w0 (Duo tB rB B m n ls ws (Blk O (opB o) * F)) w1 := h1.sub
  obtain ⟨k1, k2, k3, k4, k5⟩ := op_facts (h1.cl O)
  by_cases hk4 : o.2.1 = 4
  · have hhl := s.heldLen o.2.2.1
    simp -dsimp -implicitDefEqProofs (disch := omega) only [go_sem, reqD_of, dec_t, dec_f, wrap_i64, wrap_u32, wrap_u64, wrap_u8, k1, k2, hk4]
    refine (pheld (who := o.2.2.1) s (by omega) h1).mono ?_
    rintro e' w2 ⟨va, h2, rfl⟩
    obtain ⟨k1, k2, k3, k4, k5⟩ := op_facts (h2.cl O)
    simp -dsimp -implicitDefEqProofs (disch := omega) only [go_sem, reqD_of, dec_t, dec_f, wrap_i64, wrap_u32, wrap_u64, wrap_u8, k1, k2, hk4]
    refine (pheld (who := o.2.2.1) s (by omega) (St.sub (B := TabP tB ls ws * (RefT rB m ls * (BookP B n * (RowO 42 4 va (heldS o.2.2.1 ls).length (rowN (heldS o.2.2.1 ls)) * (Blk O (opB o) * F))))) h2)).mono ?_
    rintro e' w3 ⟨vb, h3, rfl⟩
    obtain ⟨k1, k2, k3, k4, k5⟩ := op_facts (h3.cl O)
    simp -dsimp -implicitDefEqProofs (disch := omega) only [go_sem, reqD_of, dec_t, dec_f, wrap_i64, wrap_u32, wrap_u64, wrap_u8, k1, k2, hk4]
    refine (held_ref (who := o.2.2.1) s.v (by omega) (St.sub (B := RefT rB m ls * (TabP tB ls ws * (BookP B n * (RowO 42 4 va (heldS o.2.2.1 ls).length (rowN (heldS o.2.2.1 ls)) * (RowO 42 4 vb (heldS o.2.2.1 ls).length (rowN (heldS o.2.2.1 ls)) * (Blk O (opB o) * F)))))) h3)).mono ?_
    rintro e' w4 ⟨vc, _, h4, rfl⟩
    have h4 : St w0 (RowO 42 4 va (heldS o.2.2.1 ls).length (rowN (heldS o.2.2.1 ls)) * (RowO 42 4 vc (heldS o.2.2.1 ls).length (rowN (heldS o.2.2.1 ls)) * (RowO 42 4 vb (heldS o.2.2.1 ls).length (rowN (heldS o.2.2.1 ls)) * (Duo tB rB B m n ls ws (Blk O (opB o) * F))))) w4 := h4.sub
    simp -dsimp -implicitDefEqProofs (disch := omega) only [go_sem, reqD_of, dec_t, dec_f, wrap_i64, wrap_u32, wrap_u64, wrap_u8]
    refine (sameNeeds_any (xs := heldS o.2.2.1 ls) (ys := heldS o.2.2.1 ls) h4 ((Ent.left _ _).trans (RowO.reads _ _ _ _ _)) ((Ent.right _ _).trans ((Ent.left _ _).trans (RowO.reads _ _ _ _ _))) (by omega)).mono ?_
    rintro e' w5 ⟨h5, rfl⟩
    obtain ⟨k1, k2, k3, k4, k5⟩ := op_facts (h5.cl O)
    simp -dsimp -implicitDefEqProofs (disch := omega) only [go_sem, reqD_of, dec_t, dec_f, wrap_i64, wrap_u32, wrap_u64, wrap_u8, k1, k2, decide_true]
    refine (held_ref (who := o.2.2.1) s.v (by omega) (St.sub (B := RefT rB m ls * (TabP tB ls ws * (BookP B n * (RowO 42 4 va (heldS o.2.2.1 ls).length (rowN (heldS o.2.2.1 ls)) * (RowO 42 4 vb (heldS o.2.2.1 ls).length (rowN (heldS o.2.2.1 ls)) * (Blk O (opB o) * F)))))) h5)).mono ?_
    rintro e' w6 ⟨vd, _, h6, rfl⟩
    have h6 : St w0 (RowO 42 4 vb (heldS o.2.2.1 ls).length (rowN (heldS o.2.2.1 ls)) * (RowO 42 4 vd (heldS o.2.2.1 ls).length (rowN (heldS o.2.2.1 ls)) * (RowO 42 4 va (heldS o.2.2.1 ls).length (rowN (heldS o.2.2.1 ls)) * (Duo tB rB B m n ls ws (Blk O (opB o) * F))))) w6 := h6.sub
    simp -dsimp -implicitDefEqProofs (disch := omega) only [go_sem, reqD_of, dec_t, dec_f, wrap_i64, wrap_u32, wrap_u64, wrap_u8]
    refine (sameNeeds_any (xs := heldS o.2.2.1 ls) (ys := heldS o.2.2.1 ls) h6 ((Ent.left _ _).trans (RowO.reads _ _ _ _ _)) ((Ent.right _ _).trans ((Ent.left _ _).trans (RowO.reads _ _ _ _ _))) (by omega)).mono ?_
    rintro e' w7 ⟨h7, rfl⟩
    simp -dsimp -implicitDefEqProofs (disch := omega) only [go_sem, reqD_of, dec_t, dec_f, wrap_i64, wrap_u32, wrap_u64, wrap_u8, decide_true]
    refine (ownsNeeds_any (v := va) (bs := heldS o.2.2.1 ls) (by omega) (by omega) (St.sub (B := BookP B n * (RowO 42 4 va (heldS o.2.2.1 ls).length (rowN (heldS o.2.2.1 ls)) * (RowO 42 4 vb (heldS o.2.2.1 ls).length (rowN (heldS o.2.2.1 ls)) * (TabP tB ls ws * (RefT rB m ls * (Blk O (opB o) * F)))))) h7)).mono ?_
    rintro e' w8 ⟨h8, rfl⟩
    simp -dsimp -implicitDefEqProofs (disch := omega) only [go_sem, reqD_of, dec_t, dec_f, wrap_i64, wrap_u32, wrap_u64, wrap_u8]
    refine (ownsNeeds_any (v := vb) (bs := heldS o.2.2.1 ls) (by omega) (by omega) h8).mono ?_
    rintro e' w9 ⟨h9, rfl⟩
    obtain ⟨k1, k2, k3, k4, k5⟩ := op_facts (h9.cl O)
    simp -dsimp -implicitDefEqProofs (disch := omega) only [go_sem, reqD_of, dec_t, dec_f, wrap_i64, wrap_u32, wrap_u64, wrap_u8, k1, k2]
    refine (waits_any (who := o.2.2.1) (St.sub (B := TabP tB ls ws * (RefT rB m ls * (BookP B (n + 1 + 1) * (Blk O (opB o) * F)))) h9)).mono ?_
    rintro e' w10 ⟨h10, rfl⟩
    simp -dsimp -implicitDefEqProofs (disch := omega) only [go_sem, reqD_of, dec_t, dec_f, wrap_i64, wrap_u32, wrap_u64, wrap_u8]
    refine h10.new fun N w11 h11 => ?_
    simp -dsimp -implicitDefEqProofs (disch := omega) only [go_sem, reqD_of, dec_t, dec_f, wrap_i64, wrap_u32, wrap_u64, wrap_u8]
    refine h11.stoAll (b := N) (cs := needC ((agt o.2.2.1 ws).getD noNeed)) rfl rfl (needC_cells _) fun w12 h12 => ?_
    obtain ⟨k1, k2, k3, k4, k5⟩ := op_facts (h12.cl O)
    simp -dsimp -implicitDefEqProofs (disch := omega) only [go_sem, reqD_of, dec_t, dec_f, wrap_i64, wrap_u32, wrap_u64, wrap_u8, k1, k2]
    refine (waits_ref (who := o.2.2.1) s.v (by omega) (St.sub (B := RefT rB m ls * (TabP tB ls ws * (BookP B (n + 1 + 1) * (Blk N (.cells (needC ((agt o.2.2.1 ws).getD noNeed)).toArray 42 (0, 0)) * (Blk O (opB o) * F))))) h12)).mono ?_
    rintro e' w13 ⟨h13, rfl⟩
    simp -dsimp -implicitDefEqProofs (disch := omega) only [go_sem, reqD_of, dec_t, dec_f, wrap_i64, wrap_u32, wrap_u64, wrap_u8]
    refine h13.new fun M w14 h14 => ?_
    simp -dsimp -implicitDefEqProofs (disch := omega) only [go_sem, reqD_of, dec_t, dec_f, wrap_i64, wrap_u32, wrap_u64, wrap_u8]
    refine h14.stoAll (b := M) (cs := needC ((agt o.2.2.1 ws).getD noNeed)) rfl rfl (needC_cells _) fun w15 h15 => ?_
    have rN := h15.rowH N 4 rfl
    have rM := h15.rowH M 4 rfl
    have hD : St w0 (Duo tB rB B m (n + 1 + 1) ls ws F) w15 := h15.sub
    simp -dsimp -implicitDefEqProofs (disch := omega) only [go_sem, reqD_of, dec_t, dec_f, wrap_i64, wrap_u32, wrap_u64, wrap_u8, rN, rM, needC, needEq, decide_true, beq_self_eq_true]
    exact (DuoE.of s hD).up (Nat.le_refl _) (by omega)
  by_cases hk5 : o.2.1 = 5
  · have hq := s.queueLen o.2.2.2.1
    have hh := s.holdLen o.2.2.2.1
    simp -dsimp -implicitDefEqProofs (disch := omega) only [go_sem, reqD_of, dec_t, dec_f, wrap_i64, wrap_u32, wrap_u64, wrap_u8, k1, k4, hk4, hk5]
    refine (pqueue (x := o.2.2.2.1) s (by omega) h1).mono ?_
    rintro e' w2 ⟨va, h2, rfl⟩
    have cO := h2.cl O
    simp only [opC] at cO
    simp -dsimp -implicitDefEqProofs (disch := omega) only [go_sem, reqD_of, dec_t, dec_f, wrap_i64, wrap_u32, wrap_u64, wrap_u8, cO]
    refine (pholders (x := o.2.2.2.1) s (by omega) (St.sub (B := TabP tB ls ws * (RefT rB m ls * (BookP B n * (RowO 3 1 va (queueS o.2.2.2.1 ls).length (intR (queueS o.2.2.2.1 ls)) * (Blk O (opB o) * F))))) h2)).mono ?_
    rintro e' w3 ⟨vb, h3, rfl⟩
    have cO := h3.cl O
    simp only [opC] at cO
    simp -dsimp -implicitDefEqProofs (disch := omega) only [go_sem, reqD_of, dec_t, dec_f, wrap_i64, wrap_u32, wrap_u64, wrap_u8, cO]
    refine (pqueue (x := o.2.2.2.1) s (by omega) (St.sub (B := TabP tB ls ws * (RefT rB m ls * (BookP B n * (RowO 3 1 va (queueS o.2.2.2.1 ls).length (intR (queueS o.2.2.2.1 ls)) * (RowO 3 1 vb (holdersS o.2.2.2.1 ls).length (intR (holdersS o.2.2.2.1 ls)) * (Blk O (opB o) * F)))))) h3)).mono ?_
    rintro e' w4 ⟨vc, h4, rfl⟩
    have cO := h4.cl O
    simp only [opC] at cO
    simp -dsimp -implicitDefEqProofs (disch := omega) only [go_sem, reqD_of, dec_t, dec_f, wrap_i64, wrap_u32, wrap_u64, wrap_u8, cO]
    refine (pholders (x := o.2.2.2.1) s (by omega) (St.sub (B := TabP tB ls ws * (RefT rB m ls * (BookP B n * (RowO 3 1 va (queueS o.2.2.2.1 ls).length (intR (queueS o.2.2.2.1 ls)) * (RowO 3 1 vb (holdersS o.2.2.2.1 ls).length (intR (holdersS o.2.2.2.1 ls)) * (RowO 3 1 vc (queueS o.2.2.2.1 ls).length (intR (queueS o.2.2.2.1 ls)) * (Blk O (opB o) * F))))))) h4)).mono ?_
    rintro e' w5 ⟨vd, h5, rfl⟩
    have cO := h5.cl O
    simp only [opC] at cO
    simp -dsimp -implicitDefEqProofs (disch := omega) only [go_sem, reqD_of, dec_t, dec_f, wrap_i64, wrap_u32, wrap_u64, wrap_u8, cO]
    refine (queue_ref (x := o.2.2.2.1) s.v (by omega) (St.sub (B := RefT rB m ls * (TabP tB ls ws * (BookP B n * (RowO 3 1 va (queueS o.2.2.2.1 ls).length (intR (queueS o.2.2.2.1 ls)) * (RowO 3 1 vb (holdersS o.2.2.2.1 ls).length (intR (holdersS o.2.2.2.1 ls)) * (RowO 3 1 vc (queueS o.2.2.2.1 ls).length (intR (queueS o.2.2.2.1 ls)) * (RowO 3 1 vd (holdersS o.2.2.2.1 ls).length (intR (holdersS o.2.2.2.1 ls)) * (Blk O (opB o) * F)))))))) h5)).mono ?_
    rintro e' w6 ⟨ve, _, h6, rfl⟩
    simp -dsimp -implicitDefEqProofs (disch := omega) only [go_sem, reqD_of, dec_t, dec_f, wrap_i64, wrap_u32, wrap_u64, wrap_u8]
    refine (alike_any (n := n) (v := va) (u := ve) (bs := queueS o.2.2.2.1 ls) (cs := queueS o.2.2.2.1 ls) (F := RowO 3 1 ve (queueS o.2.2.2.1 ls).length (intR (queueS o.2.2.2.1 ls)) * (RefT rB m ls * (TabP tB ls ws * (RowO 3 1 vb (holdersS o.2.2.2.1 ls).length (intR (holdersS o.2.2.2.1 ls)) * (RowO 3 1 vc (queueS o.2.2.2.1 ls).length (intR (queueS o.2.2.2.1 ls)) * (RowO 3 1 vd (holdersS o.2.2.2.1 ls).length (intR (holdersS o.2.2.2.1 ls)) * (Blk O (opB o) * F))))))) (by omega) (by omega) ((Ent.left _ _).trans (RowO.reads _ _ _ _ _)) h6.sub).mono ?_
    rintro e' w7 ⟨h7, rfl⟩
    have cO := h7.cl O
    simp only [opC] at cO
    simp -dsimp -implicitDefEqProofs (disch := omega) only [go_sem, reqD_of, dec_t, dec_f, wrap_i64, wrap_u32, wrap_u64, wrap_u8, cO, decide_true]
    refine (holders_ref (x := o.2.2.2.1) s.v (by omega) (St.sub (B := RefT rB m ls * (TabP tB ls ws * (BookP B (n + 1) * (RowO 3 1 vb (holdersS o.2.2.2.1 ls).length (intR (holdersS o.2.2.2.1 ls)) * (RowO 3 1 vc (queueS o.2.2.2.1 ls).length (intR (queueS o.2.2.2.1 ls)) * (RowO 3 1 vd (holdersS o.2.2.2.1 ls).length (intR (holdersS o.2.2.2.1 ls)) * (Blk O (opB o) * F))))))) h7)).mono ?_
    rintro e' w8 ⟨vf, _, h8, rfl⟩
    simp -dsimp -implicitDefEqProofs (disch := omega) only [go_sem, reqD_of, dec_t, dec_f, wrap_i64, wrap_u32, wrap_u64, wrap_u8]
    refine (alike_any (n := n + 1) (v := vb) (u := vf) (bs := holdersS o.2.2.2.1 ls) (cs := holdersS o.2.2.2.1 ls) (F := RowO 3 1 vf (holdersS o.2.2.2.1 ls).length (intR (holdersS o.2.2.2.1 ls)) * (RefT rB m ls * (TabP tB ls ws * (RowO 3 1 vc (queueS o.2.2.2.1 ls).length (intR (queueS o.2.2.2.1 ls)) * (RowO 3 1 vd (holdersS o.2.2.2.1 ls).length (intR (holdersS o.2.2.2.1 ls)) * (Blk O (opB o) * F)))))) (by omega) (by omega) ((Ent.left _ _).trans (RowO.reads _ _ _ _ _)) h8.sub).mono ?_
    rintro e' w9 ⟨h9, rfl⟩
    have cO := h9.cl O
    simp only [opC] at cO
    simp -dsimp -implicitDefEqProofs (disch := omega) only [go_sem, reqD_of, dec_t, dec_f, wrap_i64, wrap_u32, wrap_u64, wrap_u8, cO, decide_true]
    refine (queue_ref (x := o.2.2.2.1) s.v (by omega) (St.sub (B := RefT rB m ls * (TabP tB ls ws * (BookP B (n + 1 + 1) * (RowO 3 1 vc (queueS o.2.2.2.1 ls).length (intR (queueS o.2.2.2.1 ls)) * (RowO 3 1 vd (holdersS o.2.2.2.1 ls).length (intR (holdersS o.2.2.2.1 ls)) * (Blk O (opB o) * F)))))) h9)).mono ?_
    rintro e' w10 ⟨vg, _, h10, rfl⟩
    simp -dsimp -implicitDefEqProofs (disch := omega) only [go_sem, reqD_of, dec_t, dec_f, wrap_i64, wrap_u32, wrap_u64, wrap_u8]
    refine (alike_any (n := n + 1 + 1) (v := vc) (u := vg) (bs := queueS o.2.2.2.1 ls) (cs := queueS o.2.2.2.1 ls) (F := RowO 3 1 vg (queueS o.2.2.2.1 ls).length (intR (queueS o.2.2.2.1 ls)) * (RefT rB m ls * (TabP tB ls ws * (RowO 3 1 vd (holdersS o.2.2.2.1 ls).length (intR (holdersS o.2.2.2.1 ls)) * (Blk O (opB o) * F))))) (by omega) (by omega) ((Ent.left _ _).trans (RowO.reads _ _ _ _ _)) h10.sub).mono ?_
    rintro e' w11 ⟨h11, rfl⟩
    have cO := h11.cl O
    simp only [opC] at cO
    simp -dsimp -implicitDefEqProofs (disch := omega) only [go_sem, reqD_of, dec_t, dec_f, wrap_i64, wrap_u32, wrap_u64, wrap_u8, cO, decide_true]
    refine (holders_ref (x := o.2.2.2.1) s.v (by omega) (St.sub (B := RefT rB m ls * (TabP tB ls ws * (BookP B (n + 1 + 1 + 1) * (RowO 3 1 vd (holdersS o.2.2.2.1 ls).length (intR (holdersS o.2.2.2.1 ls)) * (Blk O (opB o) * F))))) h11)).mono ?_
    rintro e' w12 ⟨vh, _, h12, rfl⟩
    simp -dsimp -implicitDefEqProofs (disch := omega) only [go_sem, reqD_of, dec_t, dec_f, wrap_i64, wrap_u32, wrap_u64, wrap_u8]
    refine (alike_any (n := n + 1 + 1 + 1) (v := vd) (u := vh) (bs := holdersS o.2.2.2.1 ls) (cs := holdersS o.2.2.2.1 ls) (F := RowO 3 1 vh (holdersS o.2.2.2.1 ls).length (intR (holdersS o.2.2.2.1 ls)) * (RefT rB m ls * (TabP tB ls ws * (Blk O (opB o) * F)))) (by omega) (by omega) ((Ent.left _ _).trans (RowO.reads _ _ _ _ _)) h12.sub).mono ?_
    rintro e' w13 ⟨h13, rfl⟩
    have hD : St w0 (Duo tB rB B m (n + 1 + 1 + 1 + 1) ls ws F) w13 := h13.sub
    simp -dsimp -implicitDefEqProofs (disch := omega) only [go_sem, reqD_of, dec_t, dec_f, wrap_i64, wrap_u32, wrap_u64, wrap_u8, decide_true]
    exact (DuoE.of s hD).up (Nat.le_refl _) (by omega)
  by_cases hk6 : o.2.1 = 6
  · simp -dsimp -implicitDefEqProofs (disch := omega) only [go_sem, reqD_of, dec_t, dec_f, wrap_i64, wrap_u32, wrap_u64, wrap_u8, k1, hk4, hk5, hk6]
    refine (pstuck s (by omega) h1).mono ?_
    rintro e' w2 ⟨va, la, sa, h2, rfl⟩
    simp -dsimp -implicitDefEqProofs (disch := omega) only [go_sem, reqD_of, dec_t, dec_f, wrap_i64, wrap_u32, wrap_u64, wrap_u8]
    refine (pstuck s (by omega) (St.sub (B := TabP tB ls ws * (RefT rB m ls * (BookP B n * (RowO 3 1 va la.length (intR la) * F)))) h2)).mono ?_
    rintro e' w3 ⟨vb, lb, sb, h3, rfl⟩
    obtain rfl := sa.eq sb
    simp -dsimp -implicitDefEqProofs (disch := omega) only [go_sem, reqD_of, dec_t, dec_f, wrap_i64, wrap_u32, wrap_u64, wrap_u8]
    refine (stuck_ref s.v (by omega) (by have := s.t; omega) (St.sub (B := RefT rB m ls * (TabP tB ls ws * (BookP B n * (RowO 3 1 va la.length (intR la) * (RowO 3 1 vb la.length (intR la) * F))))) h3)).mono ?_
    rintro e' w4 ⟨vc, lc, sc, hlc, h4, rfl⟩
    obtain rfl := sa.eq sc
    simp -dsimp -implicitDefEqProofs (disch := omega) only [go_sem, reqD_of, dec_t, dec_f, wrap_i64, wrap_u32, wrap_u64, wrap_u8]
    refine (alike_any (n := n) (v := va) (u := vc) (bs := la) (cs := la) (F := RowO 3 1 vc la.length (intR la) * (RefT rB m ls * (TabP tB ls ws * (RowO 3 1 vb la.length (intR la) * F)))) (by omega) (by omega) ((Ent.left _ _).trans (RowO.reads _ _ _ _ _)) h4.sub).mono ?_
    rintro e' w5 ⟨h5, rfl⟩
    simp -dsimp -implicitDefEqProofs (disch := omega) only [go_sem, reqD_of, dec_t, dec_f, wrap_i64, wrap_u32, wrap_u64, wrap_u8, decide_true]
    refine (stuck_ref s.v (by omega) (by have := s.t; omega) (St.sub (B := RefT rB m ls * (TabP tB ls ws * (BookP B (n + 1) * (RowO 3 1 vb la.length (intR la) * F)))) h5)).mono ?_
    rintro e' w6 ⟨vd, ld, sd, hld, h6, rfl⟩
    obtain rfl := sa.eq sd
    simp -dsimp -implicitDefEqProofs (disch := omega) only [go_sem, reqD_of, dec_t, dec_f, wrap_i64, wrap_u32, wrap_u64, wrap_u8]
    refine (alike_any (n := n + 1) (v := vb) (u := vd) (bs := la) (cs := la) (F := RowO 3 1 vd la.length (intR la) * (RefT rB m ls * (TabP tB ls ws * F))) (by omega) (by omega) ((Ent.left _ _).trans (RowO.reads _ _ _ _ _)) h6.sub).mono ?_
    rintro e' w7 ⟨h7, rfl⟩
    simp -dsimp -implicitDefEqProofs (disch := omega) only [go_sem, reqD_of, dec_t, dec_f, wrap_i64, wrap_u32, wrap_u64, wrap_u8, decide_true]
    refine (idle_any (St.sub (B := TabP tB ls ws * (RefT rB m ls * (BookP B (n + 1 + 1) * F))) h7)).mono ?_
    rintro e' w8 ⟨h8, rfl⟩
    simp -dsimp -implicitDefEqProofs (disch := omega) only [go_sem, reqD_of, dec_t, dec_f, wrap_i64, wrap_u32, wrap_u64, wrap_u8]
    refine (idle_ref s.v h8.sw2).mono ?_
    rintro e' w9 ⟨h9, rfl⟩
    have hD : St w0 (Duo tB rB B m (n + 1 + 1) ls ws F) w9 := h9.sw2
    simp -dsimp -implicitDefEqProofs (disch := omega) only [go_sem, reqD_of, dec_t, dec_f, wrap_i64, wrap_u32, wrap_u64, wrap_u8, beq_self_eq_true]
    exact (DuoE.of s hD).up (Nat.le_refl _) (by omega)
  simp -dsimp -implicitDefEqProofs (disch := omega) only [go_sem, reqD_of, dec_t, dec_f, wrap_i64, wrap_u32, wrap_u64, wrap_u8, k1, hk4, hk5, hk6]
  have hD : St w0 (Duo tB rB B m n ls ws F) w1 := h1.sub
  exact (DuoE.of s hD).up (Nat.le_refl _) (by omega)
end
end
end Go.Proofs.YtacmnfpgimgigaaGreat

namespace Go.Proofs.YtacmnfpgimgigaaGreat
open Go
set_option linter.unusedSimpArgs false
set_option linter.unusedVariables false
set_option maxRecDepth 100000

theorem starL_out {α : Type} (A : α → HP) : ∀ {l : List α} {i : Nat} (hi : i < l.length), starL A l = A l[i] * starL A (l.eraseIdx i)
  | x :: l, 0, _ => rfl
  | x :: l, i + 1, hi => by
    have hi' : i < l.length := by simpa using hi
    have := starL_out A hi'
    show A x * starL A l = A l[i] * (A x * starL A (l.eraseIdx i))
    rw [this]
    ac_rfl
theorem starL_put {α : Type} (A : α → HP) {l : List α} {i : Nat} (hi : i < l.length) (y : α) : starL A (l.set i y) = A y * starL A (l.eraseIdx i) := by
  rw [starL_out A (l := l.set i y) (i := i) (by simpa using hi), List.getElem_set_self]
  congr 2
  rw [List.eraseIdx_set_eq]

/-- A table, the document's, their state. -/
structure PR where
  t : Nat
  r : Nat
  m : Nat
  ls : List (Nam × LkS)
  ws : List (Int × Nee)
def prP (p : PR) : HP := TabP p.t p.ls p.ws * RefT p.r p.m p.ls
def prs (ps : List PR) : HP := starL prP ps
def PrOk (i : Nat) (ps : List PR) : Prop := ∀ p ∈ ps, Sz p.m p.ls p.ws ∧ p.m ≤ i
abbrev tV (ps : List PR) : List Value := ps.map fun p => .pointer (some ⟨p.t, 0, none⟩)
abbrev rV (ps : List PR) : List Value := ps.map fun p => .pointer (some ⟨p.r, 0, none⟩)
abbrev Rows (vt vu : Value) (ps : List PR) (G : HP) : HP := RowO 26 1 vt ps.length (tV ps) * (RowO 28 1 vu ps.length (rV ps) * G)

section
variable {w0 w : World} {F : HP} {B n : Nat} {vt vu : Value} {ps : List PR}

/-- One is taken out: the pair in hand. -/
theorem Rows.take {k : Nat} (hk : k < ps.length) (h : St w0 (BookP B n * Rows vt vu ps (prs ps * F)) w) : St w0 (Duo ps[k].t ps[k].r B ps[k].m n ps[k].ls ps[k].ws (Rows vt vu ps (prs (ps.eraseIdx k) * F))) w := by
  refine h.ac ?_
  unfold prs
  rw [starL_out prP hk]
  simp only [prP, Rows, Duo]
  ac_rfl
theorem Rows.back {k m' n' : Nat} {ls' : List (Nam × LkS)} {ws' : List (Int × Nee)} (hk : k < ps.length) (h : St w0 (Duo ps[k].t ps[k].r B m' n' ls' ws' (Rows vt vu ps (prs (ps.eraseIdx k) * F))) w) :
    St w0 (BookP B n' * Rows vt vu (ps.set k ⟨ps[k].t, ps[k].r, m', ls', ws'⟩) (prs (ps.set k ⟨ps[k].t, ps[k].r, m', ls', ws'⟩) * F)) w := by
  have e1 : tV (ps.set k ⟨ps[k].t, ps[k].r, m', ls', ws'⟩) = tV ps := by
    apply List.ext_getElem?
    intro i
    simp only [tV, List.getElem?_map, List.getElem?_set]
    split
    · rename_i h0; subst h0; simp [hk]
    · rfl
  have e2 : rV (ps.set k ⟨ps[k].t, ps[k].r, m', ls', ws'⟩) = rV ps := by
    apply List.ext_getElem?
    intro i
    simp only [rV, List.getElem?_map, List.getElem?_set]
    split
    · rename_i h0; subst h0; simp [hk]
    · rfl
  rw [Rows, e1, e2, List.length_set]
  refine h.ac ?_
  unfold prs
  rw [starL_put prP hk]
  simp only [prP, Rows, Duo]
  ac_rfl
theorem PrOk.set {i k m' : Nat} {ls' : List (Nam × LkS)} {ws' : List (Int × Nee)} (ok : PrOk i ps) (hk : k < ps.length) (s : Sz m' ls' ws') (hm : m' ≤ i + 1) : PrOk (i + 1) (ps.set k ⟨ps[k].t, ps[k].r, m', ls', ws'⟩) := by
  intro p hp
  rcases List.mem_or_eq_of_mem_set hp with hp | rfl
  · exact ⟨(ok p hp).1, by have := (ok p hp).2; omega⟩
  · exact ⟨s, hm⟩

section
attribute [local go_sem] F3.t14_eq F3.t10_eq F3.t11_eq F3.t19_eq F3.t20_eq F3.t28_eq F3.t29_eq F3.t32_eq F3.t16_eq F3.t6_eq F3.t3_eq
theorem does_26 {e : FA} {θ : Tag (F3.t26, fnP Tryz.prog #[.tmp 2] (fun e w' => St w0 F w' ∧ e = .returned (.bool true)), e, w)} (hd : e.ds = []) (e4 : e.ρ 4 = vt) (e5 : e.ρ 5 = vu) (e8 : e.ρ 8 = .pointer (some ⟨B, 0, none⟩)) (h3 : ps.length = 3) (ok : PrOk 1000 ps) (hn : n ≤ 6000)
    (h : St w0 (BookP B n * Rows vt vu ps (prs ps * F)) w) :
    cwE Tryz.prog F3.t26 (fnP Tryz.prog #[.tmp 2] (fun e w' => St w0 F w' ∧ e = .returned (.bool true))) e w θ := by
  obtain ⟨at', ct, rfl, _⟩ := h.rowForm vt
  obtain ⟨au, cu, rfl, _⟩ := h.rowForm vu
  rw [F3.t26_eq]
  simp -dsimp -implicitDefEqProofs (disch := omega) only [go_sem, reqD_of, dec_t, dec_f, wrap_i64, wrap_u32, wrap_u64, wrap_u8, hd, e4, e5, e8]
  refine loop_intro (fun e w' => e.ds = [] ∧ e.ρ 4 = .slice at' ps.length ct ∧ e.ρ 5 = .slice au ps.length cu ∧ e.ρ 8 = .pointer (some ⟨B, 0, none⟩) ∧ ∃ (i n' : Nat) (ps' : List PR), i ≤ 3 ∧ e.ρ 14 = .int .i64 i ∧ n' = n + 4 * i ∧ ps'.length = ps.length ∧ PrOk (1000 + i) ps' ∧ St w0 (BookP B n' * Rows (.slice at' ps.length ct) (.slice au ps.length cu) ps' (prs ps' * F)) w')
    (fun e _ => match e.ρ 14 with | .int _ n => (3 - n).toNat | _ => 0) ?_ ?_
  · exact ⟨by simp -dsimp -implicitDefEqProofs only [go_sem, hd], by simp -dsimp -implicitDefEqProofs only [go_sem, e4], by simp -dsimp -implicitDefEqProofs only [go_sem, e5], by simp -dsimp -implicitDefEqProofs only [go_sem, e8], 0, n, ps, by omega, rfl, by omega, rfl, ok, h⟩
  clear h ok
  rintro e w2 ⟨hd, e4, e5, e8, i, n', ps', hi, e14, hn', hl, ok, h⟩
  by_cases hlt : (i : Int) < 3
  case neg =>
    simp -dsimp -implicitDefEqProofs (disch := omega) only [go_sem, reqD_of, dec_t, dec_f, wrap_i64, wrap_u32, wrap_u64, wrap_u8, hd, e4, e5, e8, e14, hlt]
    refine (ends_any (by omega) h).mono ?_
    rintro e' w3 ⟨h4, rfl⟩
    simp -dsimp -implicitDefEqProofs (disch := omega) only [go_sem, reqD_of, dec_t, dec_f, wrap_i64, wrap_u32, wrap_u64, wrap_u8, hd]
    exact h4.sub
  have hil : i < ps'.length := by omega
  have hiL : (i : Int) < (ps.length : Int) := by omega
  have hk := Rows.take hil h
  obtain ⟨bt, ot, hat, cT⟩ := h.at1 (a := at') (n := ps.length) (c := ct) (xs := tV ps') (k := i) (i := by rw [← hl]; infer_instance) (by simpa using hil)
  obtain ⟨bu, ou, hau, cU⟩ := h.at1 (a := au) (n := ps.length) (c := cu) (xs := rV ps') (k := i) (i := by rw [← hl]; infer_instance) (by simpa using hil)
  subst hat hau
  simp only [tV, rV, List.getElem_map] at cT cU
  have hkd := hk.drew
  have dT : w2.drew.cell? _ = _ := cT
  have dU : w2.drew.cell? _ = _ := cU
  obtain ⟨s, hm⟩ := ok ps'[i] (List.getElem_mem hil)
  simp -dsimp -implicitDefEqProofs (disch := omega) only [go_sem, reqD_of, dec_t, dec_f, wrap_i64, wrap_u32, wrap_u64, wrap_u8, hd, e4, e5, e8, e14, hlt, hiL, cT, dT, cU, dU]
  refine onV_of (v := opV (0, 6, 0, ((0, 0, 0), false))) (by kernel_rfl) ?_
  simp -dsimp -implicitDefEqProofs (disch := omega) only [go_sem, reqD_of, dec_t, dec_f, wrap_i64, wrap_u32, wrap_u64, wrap_u8, hd, e4, e5, e8, e14, hlt, hiL, cT, dT, cU, dU]
  refine (tells_any (o := (0, 6, 0, ((0, 0, 0), false))) s (by omega) (by omega) hkd).mono ?_
  rintro e' w3 ⟨⟨ls2, ws2, s2, h4⟩, rfl⟩
  have cT := h4.at1' (b := bt) (o := ot) (n := ps.length) (c := ct) (xs := tV ps') (k := i) (i := by rw [← hl]; infer_instance) (by simpa using hil)
  have cU := h4.at1' (b := bu) (o := ou) (n := ps.length) (c := cu) (xs := rV ps') (k := i) (i := by rw [← hl]; infer_instance) (by simpa using hil)
  simp only [tV, rV, List.getElem_map] at cT cU
  simp -dsimp -implicitDefEqProofs (disch := omega) only [go_sem, reqD_of, dec_t, dec_f, wrap_i64, wrap_u32, wrap_u64, wrap_u8, hd, e4, e5, e8, e14, hlt, hiL, cT, cU]
  refine ⟨⟨i + 1, n' + 4, ps'.set i ⟨ps'[i].t, ps'[i].r, ps'[i].m, ls2, ws2⟩, by omega, by omega, by omega, by simpa using hl, ok.set hil s2 (by omega), Rows.back hil h4⟩, by omega⟩

theorem book_new {B : Nat} (h : St w0 (Blk B (bkB (.slice none 0 0) (.slice none 0 0) (.slice none 0 0) (.slice none 0 0) (.slice none 0 0) (.slice none 0 0) (.slice none 0 0) (.slice none 0 0) (.slice none 0 0) (.slice none 0 0) (.slice none 0 0) (.slice none 0 0)) * F) w) : St w0 (BookP B 0 * F) w := by
  have h1 := (((((h.nilR 32 1).nilR 3 1).nilR 32 1).nilR 32 1).nilR 32 1).nilR 32 1
  have h2 := (((((h1.nilR 63 1).nilR 3 1).nilR 63 1).nilR 63 1).nilR 63 1).nilR 63 1
  have h3 := (((((h2.ent (Ent.embL _)).ent (Ent.embL _)).ent (Ent.embL _)).ent (Ent.embL _)).ent (Ent.embL _)).ent (Ent.embL _)
  refine BookP.mk ⟨.slice none 0 0, .slice none 0 0, .slice none 0 0, .slice none 0 0, .slice none 0 0, .slice none 0 0, .slice none 0 0, .slice none 0 0, .slice none 0 0, .slice none 0 0, .slice none 0 0, .slice none 0 0, [], [], [], [], [], [], [], []⟩ ⟨⟨by simp, by simp⟩, by simp [OOk], by simp [OOk], ⟨by simp, by simp⟩, by simp [OOk], by simp [OOk], by simp, by simp⟩ ?_
  refine h3.ac ?_
  rw [BkQ.bb]
  simp only [BB, HB, eV, eM, List.map_nil, List.length_nil, listsI, listsN, listsG, grpsI, grpsN, grpsG, starL]
  ac_rfl

end
section
attribute [local go_sem] F3.t14_eq F3.t10_eq F3.t11_eq F3.t19_eq F3.t20_eq F3.t28_eq F3.t29_eq F3.t32_eq F3.t6_eq F3.t3_eq
theorem does_16 {os : List OpL} {v0 : Value} {e : FA} {θ : Tag (F3.t16, fnP Tryz.prog #[.tmp 2] (fun e w' => St w0 F w' ∧ e = .returned (.bool true)), e, w)} (hr : Ent F (Reads 7 v0 os.length (os.flatMap opC))) (ho : ∀ o ∈ os, OpOk o) (hlen : os.length ≤ 1000)
    (hd : e.ds = []) (e0 : e.ρ 0 = v0) (e4 : e.ρ 4 = vt) (e5 : e.ρ 5 = vu) (h3 : ps.length = 3) (ok : PrOk 0 ps) (h : St w0 (Rows vt vu ps (prs ps * F)) w) :
    cwE Tryz.prog F3.t16 (fnP Tryz.prog #[.tmp 2] (fun e w' => St w0 F w' ∧ e = .returned (.bool true))) e w θ := by
  obtain ⟨at', ct, rfl, _⟩ := h.rowForm vt
  obtain ⟨au, cu, rfl, _⟩ := h.rowForm vu
  obtain ⟨_, a, c, rfl, hnc, _⟩ := St.rowsAt (k := 7) opC_len (by decide) ((St.sub (B := F) h).ent hr)
  rw [F3.t16_eq]
  simp -dsimp -implicitDefEqProofs (disch := omega) only [go_sem, reqD_of, dec_t, dec_f, wrap_i64, wrap_u32, wrap_u64, wrap_u8, hd, e0, e4, e5]
  refine onV_of (v := .agg #[.slice none 0 0, .slice none 0 0, .slice none 0 0, .slice none 0 0, .slice none 0 0, .slice none 0 0, .slice none 0 0, .slice none 0 0, .slice none 0 0, .slice none 0 0, .slice none 0 0, .slice none 0 0]) (by kernel_rfl) ?_
  simp -dsimp -implicitDefEqProofs (disch := omega) only [go_sem, reqD_of, dec_t, dec_f, wrap_i64, wrap_u32, wrap_u64, wrap_u8, hd, e0, e4, e5]
  refine h.new fun B w1 h1 => ?_
  have h2 := book_new h1
  simp -dsimp -implicitDefEqProofs (disch := omega) only [go_sem, reqD_of, dec_t, dec_f, wrap_i64, wrap_u32, wrap_u64, wrap_u8, hd, e0, e4, e5]
  refine loop_intro (fun e w' => e.ds = [] ∧ e.ρ 0 = .slice a os.length c ∧ e.ρ 4 = .slice at' ps.length ct ∧ e.ρ 5 = .slice au ps.length cu ∧ e.ρ 8 = .pointer (some ⟨B, 0, none⟩) ∧ ∃ (i : Nat) (ps' : List PR), i ≤ os.length ∧ e.ρ 9 = .int .i64 i ∧ ps'.length = ps.length ∧ PrOk i ps' ∧ St w0 (BookP B (5 * i) * Rows (.slice at' ps.length ct) (.slice au ps.length cu) ps' (prs ps' * F)) w')
    (fun e _ => match e.ρ 9 with | .int _ n => (os.length - n).toNat | _ => 0) ?_ ?_
  · exact ⟨by simp -dsimp -implicitDefEqProofs only [go_sem, hd], by simp -dsimp -implicitDefEqProofs only [go_sem, e0], by simp -dsimp -implicitDefEqProofs only [go_sem, e4], by simp -dsimp -implicitDefEqProofs only [go_sem, e5], by simp -dsimp -implicitDefEqProofs only [go_sem], 0, ps, by omega, rfl, rfl, ok, h2⟩
  clear h h1 h2 ok
  rintro e w2 ⟨hd, e0, e4, e5, e8, i, ps', hi, e9, hl, ok, h⟩
  by_cases hlt : (i : Int) < os.length
  case neg =>
    simp -dsimp -implicitDefEqProofs (disch := omega) only [go_sem, reqD_of, dec_t, dec_f, wrap_i64, wrap_u32, wrap_u64, wrap_u8, hd, e0, e4, e5, e8, e9, hlt]
    refine does_26 (ps := ps') (n := 5 * i) (by simp -dsimp -implicitDefEqProofs only [go_sem, hd]) (by simp -dsimp -implicitDefEqProofs only [go_sem, e4]) (by simp -dsimp -implicitDefEqProofs only [go_sem, e5]) (by simp -dsimp -implicitDefEqProofs only [go_sem, e8]) (by omega) (fun p hp => ⟨(ok p hp).1, by have := (ok p hp).2; omega⟩) (by omega) h
  have hil : i < os.length := by omega
  obtain ⟨_, _, _, hv, _, hcl⟩ := St.rowsAt (k := 7) opC_len (by decide) ((St.sub (B := F) h).ent hr)
  simp only [Value.slice.injEq, true_and] at hv
  obtain ⟨rfl, rfl⟩ := hv
  obtain ⟨bs, so, rfl, hrow, hcell⟩ := hcl i hil
  have c0 := hcell 0 (by decide)
  have hoi := ho os[i] (List.getElem_mem hil)
  generalize hox : os[i] = o at c0 hrow hcell hoi
  simp only [opC, Nat.add_zero, List.getElem?_cons_zero] at c0
  simp -dsimp -implicitDefEqProofs (disch := omega) only [go_sem, reqD_of, dec_t, dec_f, wrap_i64, wrap_u32, wrap_u64, wrap_u8, hd, e0, e4, e5, e8, e9, hlt, c0]
  refine (pick_any h hoi.on (by decide)).mono ?_
  rintro e' w3 ⟨h3', rfl⟩
  obtain ⟨hk0, hk1⟩ := pickI_range (c := o.1) (n := 3) (by decide)
  obtain ⟨k, hkI⟩ : ∃ k : Nat, pickI o.1 3 = (k : Int) := ⟨(pickI o.1 3).toNat, by omega⟩
  rw [hkI] at hk0 hk1 ⊢
  have hkl : k < ps'.length := by omega
  have hkL : (k : Int) < (ps.length : Int) := by omega
  have hk := Rows.take hkl h3'
  obtain ⟨bt, ot, hat, cT⟩ := h3'.at1 (a := at') (n := ps.length) (c := ct) (xs := tV ps') (k := k) (i := by rw [← hl]; infer_instance) (by simpa using hkl)
  obtain ⟨bu, ou, hau, cU⟩ := h3'.at1 (a := au) (n := ps.length) (c := cu) (xs := rV ps') (k := k) (i := by rw [← hl]; infer_instance) (by simpa using hkl)
  subst hat hau
  simp only [tV, rV, List.getElem_map] at cT cU
  have rows : ∀ {wX : World}, St w0 F wX → rowV wX ⟨bs, so + i * 7, none⟩ 7 = some (opV o) ∧ ∀ j, j < 7 → wX.cell? ⟨bs, so + i * 7 + j, none⟩ = (opC o)[j]? := fun hX => by
    obtain ⟨_, _, _, hv, _, hcl⟩ := St.rowsAt (k := 7) opC_len (by decide) (hX.ent hr)
    simp only [Value.slice.injEq, true_and] at hv
    obtain ⟨rfl, rfl⟩ := hv
    obtain ⟨_, _, hq, hrow, hcell⟩ := hcl i hil
    simp only [Option.some.injEq, Addr.mk.injEq] at hq
    obtain ⟨rfl, rfl, _⟩ := hq
    rw [hox] at hrow hcell
    exact ⟨hrow, hcell⟩
  have hkd := hk.drew
  have dT : w3.drew.cell? _ = _ := cT
  have dU : w3.drew.cell? _ = _ := cU
  obtain ⟨r1, _⟩ := rows (St.sub (B := F) h3')
  obtain ⟨r2, _⟩ := rows (St.sub (B := F) h3'.drew)
  obtain ⟨s, hm⟩ := ok ps'[k] (List.getElem_mem hkl)
  simp -dsimp -implicitDefEqProofs (disch := omega) only [go_sem, reqD_of, dec_t, dec_f, wrap_i64, wrap_u32, wrap_u64, wrap_u8, hd, e0, e4, e5, e8, e9, hlt, hkL, cT, dT, cU, dU, r1, r2]
  refine (acts_any (o := o) hoi s (by omega) (by omega) hkd).mono ?_
  rintro e' w4 ⟨⟨ls2, ws2, s2, h4⟩, rfl⟩
  have cT := h4.at1' (b := bt) (o := ot) (n := ps.length) (c := ct) (xs := tV ps') (k := k) (i := by rw [← hl]; infer_instance) (by simpa using hkl)
  have cU := h4.at1' (b := bu) (o := ou) (n := ps.length) (c := cu) (xs := rV ps') (k := k) (i := by rw [← hl]; infer_instance) (by simpa using hkl)
  simp only [tV, rV, List.getElem_map] at cT cU
  have cells : ∀ {wX : World}, St w0 F wX → wX.cell? ⟨bs, so + i * 7, none⟩ = some (.int .i64 o.1) ∧ wX.cell? ⟨bs, so + i * 7 + 1, none⟩ = some (.int .i64 o.2.1) ∧ wX.cell? ⟨bs, so + i * 7 + 2, none⟩ = some (.int .i64 o.2.2.1) ∧ wX.cell? ⟨bs, so + i * 7 + 3, none⟩ = some (.int .u8 o.2.2.2.1.1) ∧ wX.cell? ⟨bs, so + i * 7 + 4, none⟩ = some (.int .i64 o.2.2.2.1.2.1) ∧ wX.cell? ⟨bs, so + i * 7 + 5, none⟩ = some (.int .u64 o.2.2.2.1.2.2) ∧ wX.cell? ⟨bs, so + i * 7 + 6, none⟩ = some (.bool o.2.2.2.2) := fun hX => by
    have hc := (rows hX).2
    exact ⟨hc 0 (by decide), hc 1 (by decide), hc 2 (by decide), hc 3 (by decide), hc 4 (by decide), hc 5 (by decide), hc 6 (by decide)⟩
  obtain ⟨z0, z1, z2, z3, z4, z5, z6⟩ := cells (St.sub (B := F) h4)
  simp -dsimp -implicitDefEqProofs (disch := omega) only [go_sem, reqD_of, dec_t, dec_f, wrap_i64, wrap_u32, wrap_u64, wrap_u8, hd, e0, e4, e5, e8, e9, hlt, hkL, cT, cU, z0, z1, z2, z3, z4, z5, z6]
  have dT : w4.drew.cell? _ = _ := cT
  have dU : w4.drew.cell? _ = _ := cU
  obtain ⟨r2, _⟩ := rows (St.sub (B := F) h4.drew)
  simp -dsimp -implicitDefEqProofs (disch := omega) only [go_sem, reqD_of, dec_t, dec_f, wrap_i64, wrap_u32, wrap_u64, wrap_u8, hd, e0, e4, e5, e8, e9, hlt, hkL, dT, dU, r2]
  refine (tells_any (o := o) s2 (by omega) (by omega) h4.drew).mono ?_
  rintro e' w5 ⟨⟨ls3, ws3, s3, h5⟩, rfl⟩
  have cT := h5.at1' (b := bt) (o := ot) (n := ps.length) (c := ct) (xs := tV ps') (k := k) (i := by rw [← hl]; infer_instance) (by simpa using hkl)
  have cU := h5.at1' (b := bu) (o := ou) (n := ps.length) (c := cu) (xs := rV ps') (k := k) (i := by rw [← hl]; infer_instance) (by simpa using hkl)
  simp only [tV, rV, List.getElem_map] at cT cU
  obtain ⟨z0, z1, z2, z3, z4, z5, z6⟩ := cells (St.sub (B := F) h5)
  simp -dsimp -implicitDefEqProofs (disch := omega) only [go_sem, reqD_of, dec_t, dec_f, wrap_i64, wrap_u32, wrap_u64, wrap_u8, hd, e0, e4, e5, e8, e9, hlt, hkL, cT, cU, z0, z1, z2, z3, z4, z5, z6]
  have h6 := Rows.back hkl h5
  refine (turn_any (by omega) h6).mono ?_
  rintro e' w7 ⟨h7, rfl⟩
  simp -dsimp -implicitDefEqProofs (disch := omega) only [go_sem, reqD_of, dec_t, dec_f, wrap_i64, wrap_u32, wrap_u64, wrap_u8, hd, e0, e4, e5, e8, e9]
  refine ⟨⟨i + 1, ps'.set k ⟨ps'[k].t, ps'[k].r, ps'[k].m + 1, ls3, ws3⟩, by omega, by omega, by simpa using hl, ok.set hkl s3 (by omega), ?_⟩, by omega⟩
  rw [show 5 * (i + 1) = 5 * i + 1 + 4 by omega]
  exact h7

theorem prs_snoc (ps : List PR) (p : PR) : prs (ps ++ [p]) = prP p * prs ps := by
  unfold prs
  rw [show ps ++ [p] = ps ++ p :: [] from rfl, starL_mid, List.append_nil]

end
section
attribute [local go_sem] F3.t14_eq F3.t10_eq F3.t11_eq F3.t19_eq F3.t20_eq F3.t28_eq F3.t29_eq F3.t32_eq F3.t26_eq F3.t6_eq
theorem does_3 {os : List OpL} {v0 : Value} {e : FA} {θ : Tag (F3.t3, fnP Tryz.prog #[.tmp 2] (fun e w' => St w0 F w' ∧ e = .returned (.bool true)), e, w)} (hr : Ent F (Reads 7 v0 os.length (os.flatMap opC))) (ho : ∀ o ∈ os, OpOk o) (hlen : os.length ≤ 1000)
    (hd : e.ds = []) (e0 : e.ρ 0 = v0) (h : St w0 F w) :
    cwE Tryz.prog F3.t3 (fnP Tryz.prog #[.tmp 2] (fun e w' => St w0 F w' ∧ e = .returned (.bool true))) e w θ := by
  rw [F3.t3_eq]
  simp -dsimp -implicitDefEqProofs (disch := omega) only [go_sem, reqD_of, dec_t, dec_f, wrap_i64, wrap_u32, wrap_u64, wrap_u8, hd, e0]
  refine (known_any h).mono ?_
  rintro e' w1 ⟨h1, rfl⟩
  simp -dsimp -implicitDefEqProofs (disch := omega) only [go_sem, reqD_of, dec_t, dec_f, wrap_i64, wrap_u32, wrap_u64, wrap_u8, hd, e0]
  have h2 := ((h1.nilR 28 1).nilR 26 1)
  have h3 : St w0 (Rows (.slice none 0 0) (.slice none 0 0) [] (prs [] * F)) w1 := by
    have h4 := h2.ent (Ent.embL _)
    refine h4.ac ?_
    simp only [Rows, prs, starL, tV, rV, List.map_nil, List.length_nil]
    ac_rfl
  refine loop_intro (fun e w' => e.ds = [] ∧ e.ρ 0 = v0 ∧ ∃ (i : Nat) (vt vu : Value) (ps : List PR), i ≤ 3 ∧ e.ρ 6 = .int .i64 i ∧ e.ρ 4 = vt ∧ e.ρ 5 = vu ∧ ps.length = i ∧ PrOk 0 ps ∧ St w0 (Rows vt vu ps (prs ps * F)) w')
    (fun e _ => match e.ρ 6 with | .int _ n => (3 - n).toNat | _ => 0) ?_ ?_
  · exact ⟨by simp -dsimp -implicitDefEqProofs only [go_sem, hd], by simp -dsimp -implicitDefEqProofs only [go_sem, e0], 0, .slice none 0 0, .slice none 0 0, [], by omega, rfl, by simp -dsimp -implicitDefEqProofs only [go_sem], by simp -dsimp -implicitDefEqProofs only [go_sem], rfl, by simp [PrOk], h3⟩
  clear h h1 h2 h3
  rintro e w2 ⟨hd, e0, i, vt, vu, ps, hi, e6, e4, e5, hl, ok, h⟩
  by_cases hlt : (i : Int) < 3
  case neg =>
    simp -dsimp -implicitDefEqProofs (disch := omega) only [go_sem, reqD_of, dec_t, dec_f, wrap_i64, wrap_u32, wrap_u64, wrap_u8, hd, e0, e4, e5, e6, hlt]
    exact does_16 hr ho hlen (by simp -dsimp -implicitDefEqProofs only [go_sem, hd]) (by simp -dsimp -implicitDefEqProofs only [go_sem, e0]) (by simp -dsimp -implicitDefEqProofs only [go_sem, e4]) (by simp -dsimp -implicitDefEqProofs only [go_sem, e5]) (by omega) ok h
  obtain ⟨at', ct, rfl, _⟩ := h.rowForm vt
  obtain ⟨au, cu, rfl, _⟩ := h.rowForm vu
  simp -dsimp -implicitDefEqProofs (disch := omega) only [go_sem, reqD_of, dec_t, dec_f, wrap_i64, wrap_u32, wrap_u64, wrap_u8, hd, e0, e4, e5, e6, hlt]
  refine (new_any h).mono ?_
  rintro e' w3 ⟨X, h3, rfl⟩
  simp -dsimp -implicitDefEqProofs (disch := omega) only [go_sem, reqD_of, dec_t, dec_f, wrap_i64, wrap_u32, wrap_u64, wrap_u8, hd, e0, e4, e5, e6]
  refine h3.lit (n := 1) (cells := [.pointer (some ⟨X, 0, none⟩)]) fact_rowTy_24 rfl (by decide) (by decide) fun v4 w4 h4 => ?_
  simp -dsimp -implicitDefEqProofs (disch := omega) only [go_sem, reqD_of, dec_t, dec_f, wrap_i64, wrap_u32, wrap_u64, wrap_u8, hd, e0, e4, e5, e6]
  refine h4.app (v := .slice at' ps.length ct) fact_rowTy_24 ((Ent.left _ _).trans (RowO.reads _ _ _ _ _)) Tryz.underlying24 (by intro u hu; simp only [List.mem_singleton] at hu; subst hu; rfl) (fun h => by simp at h) (by simp only [Go.maxLen]; omega) (by omega) fun v5 w5 h5 => ?_
  obtain ⟨a5, c5, rfl, _⟩ := h5.rowForm v5
  simp -dsimp -implicitDefEqProofs (disch := omega) only [go_sem, reqD_of, dec_t, dec_f, wrap_i64, wrap_u32, wrap_u64, wrap_u8, hd, e0, e4, e5, e6]
  refine (rnew_ref h5).mono ?_
  rintro e' w6 ⟨Y, h6, rfl⟩
  simp -dsimp -implicitDefEqProofs (disch := omega) only [go_sem, reqD_of, dec_t, dec_f, wrap_i64, wrap_u32, wrap_u64, wrap_u8, hd, e0, e4, e5, e6]
  refine h6.lit (n := 1) (cells := [.pointer (some ⟨Y, 0, none⟩)]) fact_rowTy_25 rfl (by decide) (by decide) fun v7 w7 h7 => ?_
  simp -dsimp -implicitDefEqProofs (disch := omega) only [go_sem, reqD_of, dec_t, dec_f, wrap_i64, wrap_u32, wrap_u64, wrap_u8, hd, e0, e4, e5, e6]
  refine h7.app (v := .slice au ps.length cu) fact_rowTy_25 ((Ent.left _ _).trans (RowO.reads _ _ _ _ _)) Tryz.underlying25 (by intro u hu; simp only [List.mem_singleton] at hu; subst hu; rfl) (fun h => by simp at h) (by simp only [Go.maxLen]; omega) (by omega) fun v8 w8 h8 => ?_
  obtain ⟨a8, c8, rfl, _⟩ := h8.rowForm v8
  simp -dsimp -implicitDefEqProofs (disch := omega) only [go_sem, reqD_of, dec_t, dec_f, wrap_i64, wrap_u32, wrap_u64, wrap_u8, hd, e0, e4, e5, e6]
  have h9 : St w0 (RowO 26 1 (.slice a5 (ps.length + 1) c5) (ps.length + 1) (tV ps ++ [.pointer (some ⟨X, 0, none⟩)]) * (RowO 28 1 (.slice a8 (ps.length + 1) c8) (ps.length + 1) (rV ps ++ [.pointer (some ⟨Y, 0, none⟩)]) * (TabP X [] [] * (RefT Y 0 [] * (prs ps * F))))) w8 := h8.sub
  refine ⟨⟨i + 1, .slice a5 (ps.length + 1) c5, .slice a8 (ps.length + 1) c8, ps ++ [⟨X, Y, 0, [], []⟩], by omega, by omega, by rw [hl], by rw [hl], by simp [hl], fun p hp => ?_, ?_⟩, by omega⟩
  · rcases List.mem_append.1 hp with hp | hp
    · exact ok p hp
    · simp only [List.mem_singleton] at hp
      subst hp
      exact ⟨Sz.start, Nat.le_refl _⟩
  · refine h9.ac ?_
    rw [prs_snoc]
    simp only [Rows, prP, tV, rV, List.map_append, List.map_cons, List.map_nil, List.length_append, List.length_cons, List.length_nil]
    ac_rfl

end
section
attribute [local go_sem] F3.t14_eq F3.t10_eq F3.t11_eq F3.t19_eq F3.t20_eq F3.t28_eq F3.t29_eq F3.t32_eq F3.t26_eq F3.t16_eq F3.t6_eq
theorem locksDoes_any {v0 : Value} {os : List OpL} (h : St w0 F w) (hr : Ent F (Reads 7 v0 os.length (os.flatMap opC))) (ho : ∀ o ∈ os, OpOk o) :
    Calls Tryz.prog 3 #[v0] w fun e w' => St w0 F w' ∧ e = .returned (.bool true) := by
  obtain ⟨_, a, c, rfl, hnc, _⟩ := St.rowsAt (k := 7) opC_len (by decide) (h.ent hr)
  refine F3.calls (by simp) ?_
  unfold F3.code
  by_cases hlt : (1000 : Int) < os.length
  · simp -dsimp -implicitDefEqProofs (disch := omega) only [go_sem, reqD_of, dec_t, dec_f, wrap_i64, wrap_u32, wrap_u64, wrap_u8, hlt]
    have h2 := hr.trans (Reads.takeK (k := 1000) (by omega))
    rw [flatMap_take opC_len] at h2
    have hl : (os.take 1000).length = 1000 := by rw [List.length_take]; omega
    exact does_3 (os := os.take 1000) (v0 := .slice (if c = 0 then a else Option.map (fun x => x) a) 1000 (c - 0)) (by rw [hl]; exact h2) (fun m hm' => ho m (List.mem_of_mem_take hm')) (by omega) (by simp -dsimp -implicitDefEqProofs only [go_sem]) (by simp -dsimp -implicitDefEqProofs only [go_sem]) h
  · simp -dsimp -implicitDefEqProofs (disch := omega) only [go_sem, reqD_of, dec_t, dec_f, wrap_i64, wrap_u32, wrap_u64, wrap_u8, hlt]
    exact does_3 hr ho (by omega) (by simp -dsimp -implicitDefEqProofs only [go_sem]) (by simp -dsimp -implicitDefEqProofs only [go_sem]) h
end
end
end Go.Proofs.YtacmnfpgimgigaaGreat

namespace Go.Proofs.YtacmnfpgimgigaaGreat
open Go
set_option linter.unusedSimpArgs false
set_option linter.unusedVariables false
set_option maxRecDepth 100000

abbrev OpX := Int × Int × Int × ((Int × Int × Int × Unit) × Bool × Unit) × Unit
def rOp : Rdr OpX := rCons 1 (rInt .i64) (rCons 1 (rInt .i64) (rCons 1 (rInt .i64) (rCons 4 (rCons 3 (rCons 1 (rInt .u8) (rCons 1 (rInt .i64) (rCons 1 (rInt .u64) rEnd))) (rCons 1 rBool rEnd)) rEnd)))
def opOf (x : OpX) : OpL := (x.1, x.2.1, x.2.2.1, ((x.2.2.2.1.1.1, x.2.2.2.1.1.2.1, x.2.2.2.1.1.2.2.1), x.2.2.2.1.2.1))
theorem u64b {n : Int} (w : (Lit.int .u64 n).wf = true) : 0 ≤ n ∧ n < 18446744073709551616 := by
  have h1 : IntKind.u64.min = 0 := rfl
  have h2 : IntKind.u64.max = 18446744073709551615 := rfl
  simp [Lit.wf, h1, h2] at w
  omega
theorem rOp_cells {x : OpX} {cs : List Value} {h : Heap} (r : rOp.rel x cs h) : cs = opC (opOf x) ∧ OpOk (opOf x) := by
  obtain ⟨_, _, rfl, _, ⟨rfl, w1⟩, _, _, rfl, _, ⟨rfl, w2⟩, _, _, rfl, _, ⟨rfl, w3⟩, _, _, rfl, _, ⟨_, _, rfl, _, ⟨_, _, rfl, _, ⟨rfl, w4⟩, _, _, rfl, _, ⟨rfl, w5⟩, _, _, rfl, _, ⟨rfl, w6⟩, rfl⟩, _, _, rfl, _, rfl, rfl⟩, rfl⟩ := r
  exact ⟨rfl, i64_bounds w1, u64b w6⟩
theorem op_arg {b : Nat} {xs : List OpX} {v : Value} {W : World} (c : (rSlice 7 b rOp).rel xs [v] (heapOf W)) : ∃ os : List OpL, (∀ o ∈ os, OpOk o) ∧ Ent (Old W) (Reads 7 v os.length (os.flatMap opC)) := by
  refine ⟨xs.map opOf, fun m hm => ?_, ?_⟩
  · obtain ⟨x, hx, rfl⟩ := List.mem_map.1 hm
    obtain ⟨a, cap, e, l, _, _, k⟩ := c
    rcases k with k | ⟨g, o, cur, T, fr, ea, hg, hj⟩
    · subst k; cases hx
    · obtain ⟨j, hj', rfl⟩ := List.getElem_of_mem hx
      exact (rOp_cells (hj j hj').2).2
  · have h1 := (Rdr.old (w0 := W) c).trans (rSlice_reads (s := 7) (R := rOp) (enc := fun x => opC (opOf x)) (fun x cs h r => (rOp_cells r).1) (fun x => rfl))
    rw [List.length_map, List.flatMap_map]
    exact h1
end Go.Proofs.YtacmnfpgimgigaaGreat

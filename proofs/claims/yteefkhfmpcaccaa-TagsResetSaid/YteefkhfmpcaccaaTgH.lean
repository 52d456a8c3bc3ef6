/- The tags statements: writes. -/
import Derived.Test.YteefkhfmpcaccaaTgG
namespace Go.Proofs.Yteefkhfmpcaccaa
open Go
set_option linter.unusedSimpArgs false
set_option linter.unusedVariables false
set_option maxRecDepth 100000

abbrev WrEnd (R : Ending → World → Prop) : Post := fnP Try.prog #[.tmp 2, .tmp 3] R
abbrev msgB (m : MsgD) : Obj := .cells (msgC m).toArray 77 (0, 0)
abbrev thB (x : Thing) : Obj := .cells (thC x).toArray 39 (0, 0)

section
attribute [local go_sem] F11.t27_eq F11.t25_eq F11.t22_eq F11.t20_eq F11.t18_eq F11.t16_eq F11.t13_eq F11.t9_eq F11.t7_eq
theorem writes_none {w0 w : World} {F : HP} {W B : Nat} {t : TbD} {l : List Thing} {h : List Int} {sd : Int} (hr : t.row = []) (x : St w0 (RnP W B t l h sd * F) w) :
    Calls Try.prog 11 #[.pointer (some ⟨W, 0, none⟩)] w fun e w' => St w0 (RnP W B t l h sd * F) w' ∧ e = .returned (.tuple #[.bool false, .bool true]) := by
  obtain ⟨a1, c1, a2, c2, x1⟩ := RnP.open x
  have cW := x1.cl W
  refine F11.calls (by simp) ?_
  unfold F11.code
  simp -dsimp -implicitDefEqProofs (disch := omega) only [go_sem, reqD_of, dec_t, dec_f, wrap_i64, wrap_u32, wrap_u64, wrap_u8, cW]
  refine (next_none hr (x1.take (.obj B))).mono ?_
  rintro e w2 ⟨x2, rfl⟩
  simp -dsimp -implicitDefEqProofs (disch := omega) only [go_sem, reqD_of, dec_t, dec_f, wrap_i64, wrap_u32, wrap_u64, wrap_u8]
  refine x2.new fun M w3 x3 => ?_
  simp -dsimp -implicitDefEqProofs (disch := omega) only [go_sem, reqD_of, dec_t, dec_f, wrap_i64, wrap_u32, wrap_u64, wrap_u8]
  refine x3.stoAll (b := M) (cs := msgC ⟨0, 0, noS⟩) rfl rfl (msgC_cells _) fun w4 x4 => ?_
  have x5 := x4.drew
  have cM := x5.cl M
  simp only [msgC] at cM
  simp -dsimp -implicitDefEqProofs (disch := omega) only [go_sem, reqD_of, dec_t, dec_f, wrap_i64, wrap_u32, wrap_u64, wrap_u8, cM]
  have x6 := RnP.col (W := W) (B := B) (l := l) (h := h) (sd := sd) (t := t) (n1 := l.length) (n2 := h.length) (v1 := .slice a1 l.length c1) (v2 := .slice a2 h.length c2) x5 rfl rfl
  exact x6.sub

end
section
attribute [local go_sem] F11.t27_eq F11.t25_eq F11.t22_eq F11.t20_eq F11.t18_eq F11.t16_eq F11.t13_eq F11.t9_eq F11.t4_eq
theorem writes_said {w0 w : World} {F : HP} {W B : Nat} {t : TbD} {l : List Thing} {h : List Int} {sd : Int} {rest : List Rep} (hl : t.row.length < 1048576) (hsd : -1000 < sd ∧ sd < 1000) (hr : t.row = ⟨saidM, 1001, false⟩ :: rest) (x : St w0 (RnP W B t l h sd * F) w) :
    Calls Try.prog 11 #[.pointer (some ⟨W, 0, none⟩)] w fun e w' => St w0 (RnP W B (popS t ⟨saidM, 1001, false⟩ rest) l h (sd - 1) * F) w' ∧ e = .returned (.tuple #[.bool true, .bool true]) := by
  obtain ⟨a1, c1, a2, c2, x1⟩ := RnP.open x
  have cW := x1.cl W
  refine F11.calls (by simp) ?_
  unfold F11.code
  simp -dsimp -implicitDefEqProofs (disch := omega) only [go_sem, reqD_of, dec_t, dec_f, wrap_i64, wrap_u32, wrap_u64, wrap_u8, cW]
  refine (next_some hr hl (x1.take (.obj B))).mono ?_
  rintro e w2 ⟨x2, rfl⟩
  simp -dsimp -implicitDefEqProofs (disch := omega) only [go_sem, reqD_of, dec_t, dec_f, wrap_i64, wrap_u32, wrap_u64, wrap_u8]
  refine x2.new fun M w3 x3 => ?_
  simp -dsimp -implicitDefEqProofs (disch := omega) only [go_sem, reqD_of, dec_t, dec_f, wrap_i64, wrap_u32, wrap_u64, wrap_u8]
  refine x3.stoAll (b := M) (cs := msgC saidM) rfl rfl (msgC_cells _) fun w4 x4 => ?_
  have cW := x4.cl W
  simp -dsimp -implicitDefEqProofs (disch := omega) only [go_sem, reqD_of, dec_t, dec_f, wrap_i64, wrap_u32, wrap_u64, wrap_u8, cW]
  refine x4.sto (b := W) (off := 3) (by simp) rfl fun w5 x5 => ?_
  have x6 := x5.drew
  have cM := x6.cl M
  simp only [msgC, saidM] at cM
  simp -dsimp -implicitDefEqProofs (disch := omega) only [go_sem, reqD_of, dec_t, dec_f, wrap_i64, wrap_u32, wrap_u64, wrap_u8, cM, beq_self_eq_true]
  have x7 : St w0 (Blk W (rnB B (.slice a1 l.length c1) (.slice a2 h.length c2) (sd - 1)) * (RowO 39 7 (.slice a1 l.length c1) l.length (l.flatMap thC) * (RowO 3 1 (.slice a2 h.length c2) h.length (intR h) * (TbP B (popS t ⟨saidM, 1001, false⟩ rest) * F)))) w5.drew := by
    simp only [List.setIfInBounds_toArray, List.set_cons_succ, List.set_cons_zero] at x6
    exact x6.sub
  exact RnP.col (W := W) (B := B) (l := l) (h := h) (sd := sd - 1) (t := popS t ⟨saidM, 1001, false⟩ rest) (n1 := l.length) (n2 := h.length) (v1 := .slice a1 l.length c1) (v2 := .slice a2 h.length c2) x7 rfl rfl

/-- What is true of a flush's thing. -/
def FlOk (l : List Thing) (k : Nat) (X : Thing) : Prop := X.nm = -1 ∨ ∃ (y : Nat) (Y : Thing), X.nm = y ∧ y < k ∧ l[y]? = some Y ∧ 0 ≤ Y.tag ∧ Y.tag < 16 ∧ (Y.fl = true → Y.wr = true) ∧ (Y.fl = false → (Y.cn = true ∨ (Y.dc = true ∧ Y.wr = true)) ∧ ∀ (j : Nat) (Z : Thing), j < k → l[j]? = some Z → Z.fl = true → Z.nm = X.nm → Z.wr = true)

end
section
attribute [local go_sem] F11.t27_eq F11.t22_eq F11.t20_eq F11.t18_eq F11.t16_eq F11.t13_eq F11.t9_eq F11.t7_eq F11.t4_eq
theorem writes_25 {w0 w : World} {F : HP} {W B k YB : Nat} {t : TbD} {l : List Thing} {h : List Int} {sd : Int} {X X' Y : Thing} {R : Ending → World → Prop} {e : FA} {θ : Tag (F11.t25, WrEnd R, e, w)}
    (hlen : l.length < 1000) (hX : l[k]? = some X') (hnm : X'.nm = X.nm) (hy1 : Y.fl = true → Y.wr = true) (hy2 : Y.fl = false → (Y.cn = true ∨ (Y.dc = true ∧ Y.wr = true)) ∧ ∀ (j : Nat) (Z : Thing), j < k → l[j]? = some Z → Z.fl = true → Z.nm = X.nm → Z.wr = true)
    (hd : e.ds = []) (e0 : e.ρ 0 = .pointer (some ⟨W, 0, none⟩)) (e7 : e.ρ 7 = .int .i64 k) (e9 : e.ρ 9 = .pointer (some ⟨YB, 0, none⟩))
    (x : St w0 (Blk YB (thB Y) * (RnP W B t l h sd * F)) w)
    (hQ : ∀ w', St w0 (RnP W B t l h sd * F) w' → R (.returned (.tuple #[.bool true, .bool true])) w') :
    cwE Try.prog F11.t25 (WrEnd R) e w θ := by
  have cY := x.cl YB
  simp only [thC] at cY
  rw [F11.t25_eq]
  cases hfl : Y.fl with
  | true =>
    have hw := hy1 hfl
    rw [hfl, hw] at cY
    have cY' : ∀ i, w.drew.cell? ⟨YB, i, none⟩ = _ := cY
    simp -dsimp -implicitDefEqProofs (disch := omega) only [go_sem, reqD_of, dec_t, dec_f, wrap_i64, wrap_u32, wrap_u64, wrap_u8, hd, e0, e7, e9, cY, cY']
    exact hQ _ x.right.drew
  | false =>
    obtain ⟨hc, hall⟩ := hy2 hfl
    rw [hfl] at cY
    simp -dsimp -implicitDefEqProofs (disch := omega) only [go_sem, reqD_of, dec_t, dec_f, wrap_i64, wrap_u32, wrap_u64, wrap_u8, hd, e0, e7, e9, cY]
    refine (ahead_any hlen hX (fun j Z hj hZ h1 h2 => hall j Z hj hZ h1 (h2.trans hnm)) (x.take (.obj W))).mono ?_
    rintro e' w2 ⟨x2, rfl⟩
    have x3 := x2.drew
    have cY := x3.cl YB
    simp only [thC] at cY
    rcases hc with hc | ⟨hc1, hc2⟩
    · rw [hc] at cY
      simp -dsimp -implicitDefEqProofs (disch := omega) only [go_sem, reqD_of, dec_t, dec_f, wrap_i64, wrap_u32, wrap_u64, wrap_u8, hd, e0, e7, e9, cY]
      exact hQ _ x3.sub
    · rw [hc1, hc2] at cY
      cases hcn : Y.cn with
      | true =>
        rw [hcn] at cY
        simp -dsimp -implicitDefEqProofs (disch := omega) only [go_sem, reqD_of, dec_t, dec_f, wrap_i64, wrap_u32, wrap_u64, wrap_u8, hd, e0, e7, e9, cY]
        exact hQ _ x3.sub
      | false =>
        rw [hcn] at cY
        simp -dsimp -implicitDefEqProofs (disch := omega) only [go_sem, reqD_of, dec_t, dec_f, wrap_i64, wrap_u32, wrap_u64, wrap_u8, hd, e0, e7, e9, cY]
        exact hQ _ x3.sub

end
section
attribute [local go_sem] F11.t27_eq F11.t22_eq F11.t20_eq F11.t18_eq F11.t16_eq F11.t13_eq F11.t9_eq F11.t7_eq F11.t4_eq
theorem writes_16 {w0 w : World} {F : HP} {W B k XB M : Nat} {t : TbD} {l : List Thing} {h : List Int} {sd : Int} {X : Thing} {m : MsgD} {R : Ending → World → Prop} {e : FA} {θ : Tag (F11.t16, WrEnd R, e, w)}
    (hlen : l.length < 1000) (hh : h.length = 16) (hX : l[k]? = some X) (hq : X.fl = false → m.kind = 121 ∧ X.an = true ∧ X.cn = false) (hf : X.fl = true → m.kind = 109 ∧ FlOk l k X)
    (hd : e.ds = []) (e0 : e.ρ 0 = .pointer (some ⟨W, 0, none⟩)) (e4 : e.ρ 4 = .pointer (some ⟨M, 0, none⟩)) (e7 : e.ρ 7 = .int .i64 k) (e8 : e.ρ 8 = .pointer (some ⟨XB, 0, none⟩))
    (x : St w0 (Blk XB (thB X) * (Blk M (msgB m) * (RnP W B t (l.set k { X with wr := true }) (h.set X.tag.toNat (-1)) sd * F))) w)
    (hQ : ∀ w', St w0 (RnP W B t (l.set k { X with wr := true }) (wrH l h k X) sd * F) w' → R (.returned (.tuple #[.bool true, .bool true])) w') :
    cwE Try.prog F11.t16 (WrEnd R) e w θ := by
  have hkl : k < l.length := (List.getElem?_eq_some_iff.1 hX).1
  have cX := x.cl XB
  simp only [thC] at cX
  rw [F11.t16_eq]
  cases hfl : X.fl with
  | false =>
    obtain ⟨q1, q2, q3⟩ := hq hfl
    have ew : wrH l h k X = h.set X.tag.toNat (-1) := by unfold wrH; simp [hfl]
    rw [ew] at hQ
    have x2 := x.drew
    have cX2 := x2.cl XB
    have cM2 := x2.cl M
    simp only [thC, msgC] at cX2 cM2
    rw [hfl] at cX
    rw [q2, q3] at cX2
    rw [q1] at cM2
    simp -dsimp -implicitDefEqProofs (disch := omega) only [go_sem, reqD_of, dec_t, dec_f, wrap_i64, wrap_u32, wrap_u64, wrap_u8, hd, e0, e4, e7, e8, cX, cX2, cM2]
    exact hQ _ x2.right.right
  | true =>
    obtain ⟨q1, q2⟩ := hf hfl
    have cM := x.cl M
    simp only [msgC] at cM
    rw [hfl] at cX
    rw [q1] at cM
    rcases q2 with q2 | ⟨y, Y, hy, hyk, hlY, ht0, ht1, hy1, hy2⟩
    · have ew : wrH l h k X = h.set X.tag.toNat (-1) := by unfold wrH; simp [hfl, q2]
      rw [ew] at hQ
      rw [q2] at cX
      simp -dsimp -implicitDefEqProofs (disch := omega) only [go_sem, reqD_of, dec_t, dec_f, wrap_i64, wrap_u32, wrap_u64, wrap_u8, hd, e0, e4, e7, e8, cX, cM]
      exact hQ _ x.right.right
    · have hyl : y < l.length := by omega
      have hyl' : (y : Int) < (l.set k { X with wr := true }).length := by rw [List.length_set]; omega
      have hyn : ¬ (y : Int) < 0 := by omega
      have hy0 : (0 : Int) ≤ y := by omega
      rw [hy] at cX
      have hY2 : (l.set k { X with wr := true })[y]'(by rw [List.length_set]; exact hyl) = Y := by
        rw [List.getElem_set, if_neg (by omega)]
        rw [List.getElem?_eq_getElem hyl, Option.some.injEq] at hlY
        exact hlY
      obtain ⟨a1, c1, a2, c2, x1⟩ := RnP.open (F := Blk XB (thB X) * (Blk M (msgB m) * F)) (x.ac (by ac_rfl))
      have x2 := x1.drew
      have cW := x2.cl W
      have cX2 := x2.cl XB
      simp only [thC] at cX2
      rw [hy] at cX2
      obtain ⟨b, o, rfl, hrow, _⟩ := thAt (a := a1) (c := c1) (l := l.set k { X with wr := true }) x2 (k := y) (by rw [List.length_set]; exact hyl)
      rw [hY2] at hrow
      simp -dsimp -implicitDefEqProofs (disch := omega) only [go_sem, reqD_of, dec_t, dec_f, wrap_i64, wrap_u32, wrap_u64, wrap_u8, hd, e0, e4, e7, e8, cX, cM, cW, cX2, hyn, hy0, hyl', hrow]
      refine x2.new fun YB w3 x3 => ?_
      have again : ∀ (w' : World) (cs : Array Value), St w0 (Blk YB (.cells cs 39 (0, 0)) * (Blk W (rnB B (.slice (some ⟨b, o, none⟩) (l.set k { X with wr := true }).length c1) (.slice a2 (h.set X.tag.toNat (-1)).length c2) sd) * (RowO 39 7 (.slice (some ⟨b, o, none⟩) (l.set k { X with wr := true }).length c1) (l.set k { X with wr := true }).length ((l.set k { X with wr := true }).flatMap thC) * (RowO 3 1 (.slice a2 (h.set X.tag.toNat (-1)).length c2) (h.set X.tag.toNat (-1)).length (intR (h.set X.tag.toNat (-1))) * (TbP B t * (Blk XB (thB X) * (Blk M (msgB m) * F))))))) w' →
          rowV w' ⟨b, o + y * 7, none⟩ 7 = some (.agg (thC Y).toArray) ∧ (∀ i, w'.cell? ⟨W, i, none⟩ = (#[.pointer (some ⟨B, 0, none⟩), .slice (some ⟨b, o, none⟩) (l.set k { X with wr := true }).length c1, .slice a2 (h.set X.tag.toNat (-1)).length c2, .int .i64 sd] : Array Value)[i]?) ∧ (∀ i, w'.cell? ⟨XB, i, none⟩ = (#[.int .u16 X.tag, .bool X.fl, .int .i64 y, .bool X.cn, .bool X.dc, .bool X.an, .bool X.wr] : Array Value)[i]?) := by
        intro w' cs z
        obtain ⟨b', o', hbo, hrow', _⟩ := thAt (a := some ⟨b, o, none⟩) (c := c1) (l := l.set k { X with wr := true }) z (k := y) (by rw [List.length_set]; exact hyl)
        simp only [Option.some.injEq, Addr.mk.injEq, and_true] at hbo
        obtain ⟨rfl, rfl⟩ := hbo
        rw [hY2] at hrow'
        have cX' := z.cl XB
        simp only [thC] at cX'
        rw [hy] at cX'
        exact ⟨hrow', z.cl W, cX'⟩
      obtain ⟨f1, f2, f3⟩ := again _ _ x3
      simp -dsimp -implicitDefEqProofs (disch := omega) only [go_sem, reqD_of, dec_t, dec_f, wrap_i64, wrap_u32, wrap_u64, wrap_u8, f1, f2, f3]
      refine x3.stoAll (b := YB) (cs := thC Y) rfl rfl (thC_cells Y) fun w4 x4 => ?_
      obtain ⟨g1, g2, g3⟩ := again _ _ x4
      have x5 := x4.drew
      have cY := x5.cl YB
      have cW := x5.cl W
      have cX5 := x5.cl XB
      simp only [thC] at cY cX5
      rw [hy] at cX5
      obtain ⟨gt, hgt⟩ : ∃ gt : Nat, Y.tag = gt := ⟨Y.tag.toNat, by omega⟩
      have hgl : (gt : Int) < (h.set X.tag.toNat (-1)).length := by rw [List.length_set]; omega
      have hgl2 : gt < (h.set X.tag.toNat (-1)).length := by rw [List.length_set]; omega
      have hg0 : (0 : Int) ≤ gt := by omega
      obtain ⟨b2, o2, rfl, hc⟩ := hoAt (a := a2) (c := c2) (l := h.set X.tag.toNat (-1)) x5 (k := gt) hgl2
      rw [hgt] at cY
      have hX' : (l.set k { X with wr := true })[k]? = some { X with wr := true } := by rw [getElem?_set_int _ _ _ _ hkl, if_pos rfl]
      have hy2' : Y.fl = false → (Y.cn = true ∨ (Y.dc = true ∧ Y.wr = true)) ∧ ∀ (j : Nat) (Z : Thing), j < k → (l.set k { X with wr := true })[j]? = some Z → Z.fl = true → Z.nm = X.nm → Z.wr = true := by
        intro hf
        obtain ⟨u, v⟩ := hy2 hf
        refine ⟨u, fun j Z hj hZ => v j Z hj ?_⟩
        rwa [getElem?_set_int _ _ _ _ hkl, if_neg (by omega)] at hZ
      have hh' : ∀ hx, wrH l h k X = hx → (∀ w', St w0 (RnP W B t (l.set k { X with wr := true }) hx sd * F) w' → R (.returned (.tuple #[.bool true, .bool true])) w') := fun hx e => by rw [← e]; exact hQ
      have xn : X.nm.toNat = y := by omega
      cases hcn : Y.cn with
      | false =>
        have ew : wrH l h k X = h.set X.tag.toNat (-1) := by unfold wrH; simp [hfl, hy, hlY, hcn]
        have x6 := RnP.col (W := W) (B := B) (l := l.set k { X with wr := true }) (h := h.set X.tag.toNat (-1)) (sd := sd) (t := t) (n1 := (l.set k { X with wr := true }).length) (n2 := (h.set X.tag.toNat (-1)).length) (v1 := .slice (some ⟨b, o, none⟩) (l.set k { X with wr := true }).length c1) (v2 := .slice (some ⟨b2, o2, none⟩) (h.set X.tag.toNat (-1)).length c2) x5 rfl rfl
        rw [hcn] at cY
        simp -dsimp -implicitDefEqProofs (disch := omega) only [go_sem, reqD_of, dec_t, dec_f, wrap_i64, wrap_u32, wrap_u64, wrap_u8, hd, e0, e4, e7, e8, g1, g2, g3, cX5, cY, cW]
        refine writes_25 (W := W) (B := B) (k := k) (YB := YB) (X := X) (Y := Y) (by rw [List.length_set]; exact hlen) hX' rfl hy1 hy2' (by simp -dsimp -implicitDefEqProofs only [go_sem, hd]) (by simp -dsimp -implicitDefEqProofs only [go_sem, e0]) (by simp -dsimp -implicitDefEqProofs only [go_sem, e7]) (by simp -dsimp -implicitDefEqProofs only [go_sem]) (F := F) ?_ (hh' _ ew)
        exact x6.sub
      | true =>
        rw [hcn] at cY
        by_cases hq : (h.set X.tag.toNat (-1))[gt] = (y : Int)
        · have ew : wrH l h k X = (h.set X.tag.toNat (-1)).set gt (-1) := by
            unfold wrH
            have hq' : (h.set X.tag.toNat (-1))[gt]? = some (y : Int) := by rw [List.getElem?_eq_getElem hgl2, hq]
            simp [hfl, hy, hlY, hcn, hgt, hq']
          have x7 := x5.drew
          have cY7 := x7.cl YB
          have cW7 := x7.cl W
          simp only [thC] at cY7
          rw [hgt, hcn] at cY7
          rw [hq] at hc
          simp -dsimp -implicitDefEqProofs (disch := omega) only [go_sem, reqD_of, dec_t, dec_f, wrap_i64, wrap_u32, wrap_u64, wrap_u8, hd, e0, e4, e7, e8, g1, g2, g3, cX5, cY, cW, hc, hgl, hg0, cY7, cW7]
          refine x7.rowSet1 (n := (h.set X.tag.toNat (-1)).length) (c := c2) (xs := intR (h.set X.tag.toNat (-1))) (k := gt) (by simp [intR]; omega) rfl fun w8 x8 => ?_
          simp -dsimp -implicitDefEqProofs (disch := omega) only [go_sem, reqD_of, dec_t, dec_f, wrap_i64, wrap_u32, wrap_u64, wrap_u8]
          have e6 : (intR (h.set X.tag.toNat (-1))).set gt (encI (-1)) = intR ((h.set X.tag.toNat (-1)).set gt (-1)) := by simp [intR, List.map_set]
          rw [e6] at x8
          have x9 := RnP.col (W := W) (B := B) (l := l.set k { X with wr := true }) (h := (h.set X.tag.toNat (-1)).set gt (-1)) (sd := sd) (t := t) (n1 := (l.set k { X with wr := true }).length) (n2 := (h.set X.tag.toNat (-1)).length) (v1 := .slice (some ⟨b, o, none⟩) (l.set k { X with wr := true }).length c1) (v2 := .slice (some ⟨b2, o2, none⟩) (h.set X.tag.toNat (-1)).length c2) x8 rfl (by simp)
          refine writes_25 (W := W) (B := B) (k := k) (YB := YB) (X := X) (Y := Y) (by rw [List.length_set]; exact hlen) hX' rfl hy1 hy2' (by simp -dsimp -implicitDefEqProofs only [go_sem, hd]) (by simp -dsimp -implicitDefEqProofs only [go_sem, e0]) (by simp -dsimp -implicitDefEqProofs only [go_sem, e7]) (by simp -dsimp -implicitDefEqProofs only [go_sem]) (F := F) ?_ (hh' _ ew)
          exact x9.sub
        · have ew : wrH l h k X = h.set X.tag.toNat (-1) := by
            unfold wrH
            have hq' : (h.set X.tag.toNat (-1))[gt]? ≠ some (y : Int) := by rw [List.getElem?_eq_getElem hgl2]; simpa using hq
            simp [hfl, hy, hlY, hcn, hgt, hq']
          have x6 := RnP.col (W := W) (B := B) (l := l.set k { X with wr := true }) (h := h.set X.tag.toNat (-1)) (sd := sd) (t := t) (n1 := (l.set k { X with wr := true }).length) (n2 := (h.set X.tag.toNat (-1)).length) (v1 := .slice (some ⟨b, o, none⟩) (l.set k { X with wr := true }).length c1) (v2 := .slice (some ⟨b2, o2, none⟩) (h.set X.tag.toNat (-1)).length c2) x5 rfl rfl
          simp -dsimp -implicitDefEqProofs (disch := omega) only [go_sem, reqD_of, dec_t, dec_f, wrap_i64, wrap_u32, wrap_u64, wrap_u8, hd, e0, e4, e7, e8, g1, g2, g3, cX5, cY, cW, hc, hgl, hg0, hq]
          refine writes_25 (W := W) (B := B) (k := k) (YB := YB) (X := X) (Y := Y) (by rw [List.length_set]; exact hlen) hX' rfl hy1 hy2' (by simp -dsimp -implicitDefEqProofs only [go_sem, hd]) (by simp -dsimp -implicitDefEqProofs only [go_sem, e0]) (by simp -dsimp -implicitDefEqProofs only [go_sem, e7]) (by simp -dsimp -implicitDefEqProofs only [go_sem]) (F := F) ?_ (hh' _ ew)
          exact x6.sub

end
section
attribute [local go_sem] F11.t27_eq F11.t25_eq F11.t22_eq F11.t20_eq F11.t18_eq F11.t13_eq F11.t9_eq F11.t7_eq F11.t4_eq
theorem writes_thing {w0 w : World} {F : HP} {W B : Nat} {t : TbD} {l : List Thing} {h : List Int} {sd : Int} {n : Nat} {f : Nat → Ab} {B' : List Nat} {x : Rep} {rest : List Rep} (r : RunP t l h sd n f B') (hlt : n < 1000) (hsd : sd < 1000) (hr : t.row = x :: rest) (hx : x.fr = true) (z : St w0 (RnP W B t l h sd * F) w) :
    Calls Try.prog 11 #[.pointer (some ⟨W, 0, none⟩)] w fun e w' => ∃ t' l' h' f' B'', RunP t' l' h' sd n f' B'' ∧ t'.row = rest ∧ (∀ j, (f' j).ph = .op ∨ (f' j).ph = .de → (f j).ph = .op ∨ (f j).ph = .de) ∧ St w0 (RnP W B t' l' h' sd * F) w' ∧ e = .returned (.tuple #[.bool true, .bool true]) := by
  obtain ⟨hl, hh, hlast⟩ := r.bounds
  have hrl := r.row_len
  obtain ⟨k, X, f', B2, hk, hid, hlX, hwr, ht0, ht1, hmt, hho, hq, hf, r', hph⟩ := r.wrote hr hx
  have hkl : k < l.length := by omega
  have hXe : l[k] = X := by rw [List.getElem?_eq_getElem hkl, Option.some.injEq] at hlX; exact hlX
  obtain ⟨gt, hgt⟩ : ∃ gt : Nat, X.tag = gt := ⟨X.tag.toNat, by omega⟩
  have hgn : X.tag.toNat = gt := by omega
  have hrow' : (popS t x rest).row = rest := popS_row _ _ _
  obtain ⟨a1, c1, a2, c2, z1⟩ := RnP.open z
  have cW := z1.cl W
  refine F11.calls (by simp) ?_
  unfold F11.code
  simp -dsimp -implicitDefEqProofs (disch := omega) only [go_sem, reqD_of, dec_t, dec_f, wrap_i64, wrap_u32, wrap_u64, wrap_u8, cW]
  refine (next_some hr (by omega) (z1.take (.obj B))).mono ?_
  rintro e w2 ⟨z2, rfl⟩
  rw [hid]
  simp -dsimp -implicitDefEqProofs (disch := omega) only [go_sem, reqD_of, dec_t, dec_f, wrap_i64, wrap_u32, wrap_u64, wrap_u8]
  refine z2.new fun M w3 z3 => ?_
  simp -dsimp -implicitDefEqProofs (disch := omega) only [go_sem, reqD_of, dec_t, dec_f, wrap_i64, wrap_u32, wrap_u64, wrap_u8]
  refine z3.stoAll (b := M) (cs := msgC x.m) rfl rfl (msgC_cells _) fun w4 z4 => ?_
  have cW := z4.cl W
  obtain ⟨b, o, rfl, hrow, _⟩ := thAt (a := a1) (c := c1) (l := l) z4 (k := k) hkl
  rw [hXe] at hrow
  have n1 : ¬ (1000 : Int) < (k : Int) + 1 := by omega
  have n2 : ¬ (k : Int) + 1 < 1 := by omega
  have n3 : ¬ (l.length : Int) < (k : Int) + 1 := by omega
  have n4 : ((k : Int) + 1 - 1) = k := by omega
  have hkl' : (k : Int) < l.length := by omega
  have hk0 : (0 : Int) ≤ k := by omega
  simp -dsimp -implicitDefEqProofs (disch := omega) only [go_sem, reqD_of, dec_t, dec_f, wrap_i64, wrap_u32, wrap_u64, wrap_u8, cW, n1, n2, n3, n4, hkl', hk0, hrow]
  refine z4.new fun XB w5 z5 => ?_
  simp -dsimp -implicitDefEqProofs (disch := omega) only [go_sem, reqD_of, dec_t, dec_f, wrap_i64, wrap_u32, wrap_u64, wrap_u8]
  refine z5.stoAll (b := XB) (cs := thC X) rfl rfl (thC_cells X) fun w6 z6 => ?_
  have cX := z6.cl XB
  have cM := z6.cl M
  have cW := z6.cl W
  simp only [thC, msgC] at cX cM
  rw [hwr, hgt] at cX
  rw [hmt, hgt] at cM
  simp -dsimp -implicitDefEqProofs (disch := omega) only [go_sem, reqD_of, dec_t, dec_f, wrap_i64, wrap_u32, wrap_u64, wrap_u8, cX, cM, cW, hkl', hk0]
  refine z6.rowSetF (n := l.length) (c := c1) (enc := thC) (l := l) (k := k) (j := 6) thC_length hkl (by decide) { X with wr := true } (by rw [hXe]; rfl) (Nat.add_assoc _ _ _) rfl fun w7 z7 => ?_
  have z8 := z7.drew
  have cX := z8.cl XB
  have cW := z8.cl W
  simp only [thC] at cX
  rw [hwr, hgt] at cX
  have hgl : (gt : Int) < h.length := by omega
  have hg0 : (0 : Int) ≤ gt := by omega
  obtain ⟨b2, o2, rfl, hc⟩ := hoAt (a := a2) (c := c2) (l := h) z8 (k := gt) (by omega)
  have hc' : w7.drew.cell? ⟨b2, o2 + gt, none⟩ = some (encI k) := by
    rw [hc]
    rw [hgn, List.getElem?_eq_getElem (by omega), Option.some.injEq] at hho
    rw [hho]
  have z9 := z8.drew
  have cX9 := z9.cl XB
  have cW9 := z9.cl W
  simp only [thC] at cX9
  rw [hwr, hgt] at cX9
  simp -dsimp -implicitDefEqProofs (disch := omega) only [go_sem, reqD_of, dec_t, dec_f, wrap_i64, wrap_u32, wrap_u64, wrap_u8, cX, cW, hgl, hg0, hc', cX9, cW9]
  refine z9.rowSet1 (n := h.length) (c := c2) (xs := intR h) (k := gt) (by simp [intR]; omega) rfl fun w10 z10 => ?_
  simp -dsimp -implicitDefEqProofs (disch := omega) only [go_sem, reqD_of, dec_t, dec_f, wrap_i64, wrap_u32, wrap_u64, wrap_u8]
  have e6 : (intR h).set gt (encI (-1)) = intR (h.set X.tag.toNat (-1)) := by simp [intR, List.map_set, hgn]
  rw [e6] at z10
  have z11 := RnP.col (W := W) (B := B) (l := l.set k { X with wr := true }) (h := h.set X.tag.toNat (-1)) (sd := sd) (t := popS t x rest) (n1 := l.length) (n2 := h.length) (v1 := .slice (some ⟨b, o, none⟩) l.length c1) (v2 := .slice (some ⟨b2, o2, none⟩) h.length c2) z10 (by simp) (by simp)
  refine writes_16 (W := W) (B := B) (k := k) (XB := XB) (M := M) (X := X) (m := x.m) (l := l) (h := h) (t := popS t x rest) (F := F) (by omega) hh hlX hq hf rfl (by simp -dsimp -implicitDefEqProofs only [go_sem]) (by simp -dsimp -implicitDefEqProofs only [go_sem]) (by simp -dsimp -implicitDefEqProofs only [go_sem, n4]) (by simp -dsimp -implicitDefEqProofs only [go_sem]) (z11.ac (by ac_rfl)) fun w' z12 => ?_
  exact ⟨_, _, _, f', B2, r', hrow', hph, z12, rfl⟩

end
end Go.Proofs.Yteefkhfmpcaccaa

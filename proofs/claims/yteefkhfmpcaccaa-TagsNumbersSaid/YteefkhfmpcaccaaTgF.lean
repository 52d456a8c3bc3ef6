/- The tags statements: begins. -/
import Derived.Test.YteefkhfmpcaccaaTgE
namespace Go.Proofs.Yteefkhfmpcaccaa
open Go
set_option linter.unusedSimpArgs false
set_option linter.unusedVariables false
set_option maxRecDepth 100000

section
variable {t : TbD} {l : List Thing} {h : List Int} {sd : Int} {n : Nat} {f : Nat → Ab} {B' : List Nat}
theorem RunP.bounds (r : RunP t l h sd n f B') : l.length = n ∧ h.length = 16 ∧ t.last = n := ⟨r.lr.len, r.lr.hl, r.rl.last⟩
theorem RunP.fresh (r : RunP t l h sd n f B') : agt ((n : Int) + 1) t.ids = none := r.rl.absent0 (.inr (by omega))
theorem RunP.ids_len (r : RunP t l h sd n f B') : t.ids.length ≤ n := by
  have hk := r.rl.keys (ks := (t.ids.map (·.1)).mergeSort fun x y => decide (x ≤ y)) (List.mergeSort_perm _ _) (by
    have := List.pairwise_mergeSort (le := fun x y : Int => decide (x ≤ y)) (fun a b c h1 h2 => by simp at *; omega) (fun a b => by simp; omega) (t.ids.map (·.1))
    exact this.imp fun h => by simpa using h)
  have h1 := congrArg List.length hk
  rw [List.length_mergeSort, List.length_map, List.length_map] at h1
  have h2 := List.length_filter_le (fun k => (f k).ph.inT) (List.range' 0 n)
  rw [List.length_range'] at h2
  omega
theorem filter_split (l : List Rep) : l.length = (l.filterMap repIx).length + (l.filter fun r => !r.fr).length := by
  induction l with
  | nil => rfl
  | cons x l ih =>
    rw [List.filterMap_cons, List.filter_cons]
    cases hq : x.fr <;> simp [repIx, hq, ih] <;> omega
theorem RunP.row_len (r : RunP t l h sd n f B') : (t.row.length : Int) ≤ n + sd := by
  have h1 := filter_split t.row
  rw [r.rl.row] at h1
  have h2 : B'.length ≤ n := by
    have hp : B'.Perm ((List.range n).filter fun k => decide (k ∈ B')) := (List.perm_ext_iff_of_nodup r.ai.nd (List.nodup_range.filter _)).2 fun k => by
      simp only [List.mem_filter, List.mem_range, decide_eq_true_eq]
      exact ⟨fun hk => ⟨(r.ai.r1 k hk).1, hk⟩, fun hk => hk.2⟩
    have h1 := hp.length_eq
    have h2 := List.length_filter_le (fun k => decide (k ∈ B')) (List.range n)
    rw [List.length_range] at h2
    omega
  rw [r.sd]
  omega
end

section
attribute [local go_sem] F27.t20_eq F27.t13_eq F27.t11_eq F27.t9_eq F27.t7_eq
/-- The thing is laid into the book. -/
theorem begins_22 {w0 w : World} {F : HP} {W B X n g : Nat} {t : TbD} {l : List Thing} {h : List Int} {sd : Int} {x : Thing} {R : Ending → World → Prop} {e : FA} {θ : Tag (F27.t22, fnP Try.prog #[.tmp 8] R, e, w)}
    (hn : l.length = n) (hlt : n < 1000000) (hh : h.length = 16) (hg : g < 16) (hd : e.ds = []) (e0 : e.ρ 0 = .pointer (some ⟨W, 0, none⟩)) (e1 : e.ρ 1 = .int .i64 g) (e9 : e.ρ 9 = .int .i64 (n + 1)) (e12 : e.ρ 12 = .pointer (some ⟨X, 0, none⟩))
    (y : St w0 (Blk X (.cells (thC x).toArray 39 (0, 0)) * (RnP W B t l h sd * F)) w)
    (hQ : ∀ w', St w0 (RnP W B t (l ++ [x]) (h.set g (n : Int)) sd * F) w' → R (.returned (.bool true)) w') :
    cwE Try.prog F27.t22 (fnP Try.prog #[.tmp 8] R) e w θ := by
  obtain ⟨a1, c1, a2, c2, y1⟩ := RnP.open (F := Blk X (.cells (thC x).toArray 39 (0, 0)) * F) (y.ac (by ac_rfl))
  have y2 := y1.drew
  have cW := y2.cl W
  have rX := y2.rowH X 7 rfl
  rw [F27.t22_eq]
  simp -dsimp -implicitDefEqProofs (disch := omega) only [go_sem, reqD_of, dec_t, dec_f, wrap_i64, wrap_u32, wrap_u64, wrap_u8, hd, e0, e1, e9, e12, cW, rX]
  refine y2.lit (n := 1) (cells := thC x) fact_rowTy_30 rfl (by decide) (by decide) fun v1 w3 y3 => ?_
  have cW := y3.cl W
  have rX := y3.rowH X 7 rfl
  simp -dsimp -implicitDefEqProofs (disch := omega) only [go_sem, reqD_of, dec_t, dec_f, wrap_i64, wrap_u32, wrap_u64, wrap_u8, hd, e0, e1, e9, e12, cW, rX]
  refine y3.app (v := .slice a1 l.length c1) fact_rowTy_30 ((Ent.left _ _).trans (RowO.reads _ _ _ _ _)) Try.underlying30 (thC_cells x) (fun h => by simp [thC] at h) (by simp only [maxLen]; omega) (by omega) fun v2 w4 y4 => ?_
  obtain ⟨a3, c3, rfl, _⟩ := y4.rowForm v2
  have cW := y4.cl W
  have rX := y4.rowH X 7 rfl
  simp -dsimp -implicitDefEqProofs (disch := omega) only [go_sem, reqD_of, dec_t, dec_f, wrap_i64, wrap_u32, wrap_u64, wrap_u8, hd, e0, e1, e9, e12, cW, rX]
  refine y4.sto (b := W) (off := 1) (by simp) rfl fun w5 y5 => ?_
  have cW := y5.cl W
  simp only [List.setIfInBounds_toArray, List.set_cons_succ, List.set_cons_zero] at cW
  obtain ⟨b, o, rfl, _⟩ := hoAt (a := a2) (c := c2) (l := h) y5 (k := g) (by omega)
  have hgl : (g : Int) < h.length := by omega
  simp -dsimp -implicitDefEqProofs (disch := omega) only [go_sem, reqD_of, dec_t, dec_f, wrap_i64, wrap_u32, wrap_u64, wrap_u8, hd, e0, e1, e9, e12, cW, hgl]
  refine y5.rowSet1 (n := h.length) (c := c2) (xs := intR h) (k := g) (by simp [intR]; omega) rfl fun w6 y6 => ?_
  simp -dsimp -implicitDefEqProofs (disch := omega) only [go_sem, reqD_of, dec_t, dec_f, wrap_i64, wrap_u32, wrap_u64, wrap_u8, hd, e0, e1, e9, e12]
  refine hQ _ ?_
  have e5 : (l ++ [x]).flatMap thC = l.flatMap thC ++ thC x := by simp
  have e6 : intR (h.set g (n : Int)) = (intR h).set g (encI n) := by simp [intR, List.map_set]
  have y7 : St w0 (Blk W (rnB B (.slice a3 (l.length + 1) c3) (.slice (some ⟨b, o, none⟩) h.length c2) sd) * (RowO 39 7 (.slice a3 (l.length + 1) c3) (l.length + 1) ((l ++ [x]).flatMap thC) * (RowO 3 1 (.slice (some ⟨b, o, none⟩) h.length c2) h.length (intR (h.set g (n : Int))) * (TbP B t * F)))) w6 := by
    rw [e5, e6]
    rw [show ((n : Int) + 1 - 1) = n by omega] at y6
    simp only [List.setIfInBounds_toArray, List.set_cons_succ, List.set_cons_zero] at y6
    exact y6.sub
  exact RnP.col (B := B) (t := t) (n1 := l.length + 1) (n2 := h.length) (v1 := .slice a3 (l.length + 1) c3) (v2 := .slice (some ⟨b, o, none⟩) h.length c2) (l := l ++ [x]) (h := h.set g (n : Int)) y7 (by simp) (by simp)

end
section
attribute [local go_sem] F27.t20_eq F27.t13_eq F27.t11_eq F27.t9_eq F27.t7_eq
theorem begins_req {w0 w : World} {F : HP} {W B g : Nat} {t : TbD} {l : List Thing} {h : List Int} {sd o : Int} {n : Nat} {f : Nat → Ab} {B' : List Nat} (r : RunP t l h sd n f B') (hlt : n < 1000) (hg : g < 12) (x : St w0 (RnP W B t l h sd * F) w) :
    Calls Try.prog 27 #[.pointer (some ⟨W, 0, none⟩), .int .i64 g, .bool false, .int .i64 o] w fun e w' => ∃ t' l' h' n' f' B', RunP t' l' h' sd n' f' B' ∧ n' ≤ n + 1 ∧ St w0 (RnP W B t' l' h' sd * F) w' ∧ e = .returned (.bool true) := by
  obtain ⟨hl, hh, hlast⟩ := r.bounds
  obtain ⟨a1, c1, a2, c2, x1⟩ := RnP.open x
  have cW := x1.cl W
  have wg : IntKind.u16.wrap (g : Int) = g := wrap_u16 (by omega) (by omega)
  refine F27.calls (by simp) ?_
  unfold F27.code
  simp -dsimp -implicitDefEqProofs (disch := omega) only [go_sem, reqD_of, dec_t, dec_f, wrap_i64, wrap_u32, wrap_u64, wrap_u8, cW, wg]
  rw [hl]
  refine (Begin_any (fun _ => r.fresh) (x1.take (.obj B))).mono ?_
  rintro e w2 ⟨x2, rfl⟩
  have hgl : (g : Int) < h.length := by omega
  have same : ∀ w', begE t g ((n : Int) + 1) ≠ 0 → St w0 (TbP B (if begE t g ((n : Int) + 1) = 0 then begS t ((n : Int) + 1) ⟨g, 1, false, 0, 0⟩ else t) * (Blk W (rnB B (.slice a1 l.length c1) (.slice a2 h.length c2) sd) * (RowO 39 7 (.slice a1 l.length c1) l.length (l.flatMap thC) * (RowO 3 1 (.slice a2 h.length c2) h.length (intR h) * F)))) w' → St w0 (RnP W B t l h sd * F) w' := by
    intro w' hE y
    rw [if_neg hE] at y
    exact RnP.col (B := B) (t := t) (v1 := .slice a1 l.length c1) (v2 := .slice a2 h.length c2) y rfl rfl
  rcases r.holder (g := g) (by omega) with ⟨hk, _, _⟩ | ⟨k, hk, hkk, _⟩
  case inr =>
    have hE := r.used hg hkk (by omega)
    have x3 := same _ (by rw [hE]; decide) x2
    have cW := x2.cl W
    obtain ⟨b, o2, rfl, hc⟩ := hoAt (a := a2) (c := c2) (l := h) x2 (k := g) (by omega)
    have hc' : w2.cell? ⟨b, o2 + g, none⟩ = some (encI k) := by
      rw [hc]
      rw [List.getElem?_eq_getElem (by omega), Option.some.injEq] at hkk
      rw [hkk]
    have hk0 : (0 : Int) ≤ k := by omega
    simp -dsimp -implicitDefEqProofs (disch := omega) only [go_sem, reqD_of, dec_t, dec_f, wrap_i64, wrap_u32, wrap_u64, wrap_u8, cW, hgl, hc', hE, hk0]
    exact ⟨t, l, h, n, f, B', r, by omega, x3⟩
  have hE := r.begE_free hg hk
  have cW := x2.cl W
  obtain ⟨b, o2, rfl, hc⟩ := hoAt (a := a2) (c := c2) (l := h) x2 (k := g) (by omega)
  have hc' : w2.cell? ⟨b, o2 + g, none⟩ = some (encI (-1)) := by
    rw [hc]
    rw [List.getElem?_eq_getElem (by omega), Option.some.injEq] at hk
    rw [hk]
  by_cases h8 : takenN h = 8
  · rw [if_pos h8] at hE
    have x3 := same _ (by rw [hE]; decide) x2
    simp -dsimp -implicitDefEqProofs (disch := omega) only [go_sem, reqD_of, dec_t, dec_f, wrap_i64, wrap_u32, wrap_u64, wrap_u8, cW, hgl, hc', hE]
    refine (taken_any hh x3).mono ?_
    rintro e w4 ⟨x4, rfl⟩
    rw [h8]
    simp -dsimp -implicitDefEqProofs (disch := omega) only [go_sem, reqD_of, dec_t, dec_f, wrap_i64, wrap_u32, wrap_u64, wrap_u8, hE]
    exact ⟨t, l, h, n, f, B', r, by omega, x4⟩
  · rw [if_neg h8] at hE
    rw [if_pos hE] at x2
    have x3 := RnP.col (W := W) (B := B) (l := l) (h := h) (sd := sd) (t := begS t ((n : Int) + 1) ⟨g, 1, false, 0, 0⟩) (v1 := .slice a1 l.length c1) (v2 := .slice (some ⟨b, o2, none⟩) h.length c2) x2 rfl rfl
    simp -dsimp -implicitDefEqProofs (disch := omega) only [go_sem, reqD_of, dec_t, dec_f, wrap_i64, wrap_u32, wrap_u64, wrap_u8, cW, hgl, hc', hE]
    refine (taken_any hh x3).mono ?_
    rintro e w4 ⟨x4, rfl⟩
    have h8' : ¬ (takenN h : Int) = 8 := by omega
    simp -dsimp -implicitDefEqProofs (disch := omega) only [go_sem, reqD_of, dec_t, dec_f, wrap_i64, wrap_u32, wrap_u64, wrap_u8, h8', hE, wg]
    refine onV_of (v := .agg (thC ⟨g, false, -1, false, false, false, false⟩).toArray) rfl ?_
    simp -dsimp -implicitDefEqProofs (disch := omega) only [go_sem, reqD_of, dec_t, dec_f, wrap_i64, wrap_u32, wrap_u64, wrap_u8]
    refine x4.new fun X w5 x5 => ?_
    simp -dsimp -implicitDefEqProofs (disch := omega) only [go_sem, reqD_of, dec_t, dec_f, wrap_i64, wrap_u32, wrap_u64, wrap_u8]
    refine x5.stoAll (b := X) (cs := thC ⟨g, false, -1, false, false, false, false⟩) rfl rfl (thC_cells _) fun w6 x6 => ?_
    simp -dsimp -implicitDefEqProofs (disch := omega) only [go_sem, reqD_of, dec_t, dec_f, wrap_i64, wrap_u32, wrap_u64, wrap_u8]
    refine begins_22 (W := W) (B := B) (X := X) (g := g) (n := n) (x := ⟨g, false, -1, false, false, false, false⟩) hl (by omega) hh (by omega) rfl (by simp -dsimp -implicitDefEqProofs only [go_sem]) (by simp -dsimp -implicitDefEqProofs only [go_sem]) (by simp -dsimp -implicitDefEqProofs only [go_sem]) (by simp -dsimp -implicitDefEqProofs only [go_sem]) x6 fun w' x7 => ?_
    exact ⟨_, _, _, n + 1, _, B', r.begin hg hk h8, by omega, x7, rfl⟩

end
section
attribute [local go_sem] F27.t20_eq F27.t13_eq F27.t11_eq F27.t9_eq F27.t7_eq
theorem begins_flush {w0 w : World} {F : HP} {W B g o : Nat} {t : TbD} {l : List Thing} {h : List Int} {sd : Int} {n : Nat} {f : Nat → Ab} {B' : List Nat} (r : RunP t l h sd n f B') (hlt : n < 1000) (hsd : sd < 1000) (hg : g < 12) (ho : o < 16) (x : St w0 (RnP W B t l h sd * F) w) :
    Calls Try.prog 27 #[.pointer (some ⟨W, 0, none⟩), .int .i64 g, .bool true, .int .i64 o] w fun e w' => ∃ t' l' h' n' f' B', RunP t' l' h' sd n' f' B' ∧ n' ≤ n + 1 ∧ St w0 (RnP W B t' l' h' sd * F) w' ∧ e = .returned (.bool true) := by
  obtain ⟨hl, hh, hlast⟩ := r.bounds
  have hrow := r.row_len
  obtain ⟨a1, c1, a2, c2, x1⟩ := RnP.open x
  have cW := x1.cl W
  have wg : IntKind.u16.wrap (g : Int) = g := wrap_u16 (by omega) (by omega)
  have wo : IntKind.u16.wrap (o : Int) = o := wrap_u16 (by omega) (by omega)
  refine F27.calls (by simp) ?_
  unfold F27.code
  simp -dsimp -implicitDefEqProofs (disch := omega) only [go_sem, reqD_of, dec_t, dec_f, wrap_i64, wrap_u32, wrap_u64, wrap_u8, cW, wg, wo]
  rw [hl]
  refine (flush_any (by omega) (fun _ => r.fresh) (x1.take (.obj B))).mono ?_
  rintro e w2 ⟨x2, rfl⟩
  have hgl : (g : Int) < h.length := by omega
  have hol : (o : Int) < h.length := by omega
  have same : ∀ w', begE t g ((n : Int) + 1) ≠ 0 → St w0 (TbP B (if begE t g ((n : Int) + 1) = 0 then (flS t g o ((n : Int) + 1)).1 else t) * (Blk W (rnB B (.slice a1 l.length c1) (.slice a2 h.length c2) sd) * (RowO 39 7 (.slice a1 l.length c1) l.length (l.flatMap thC) * (RowO 3 1 (.slice a2 h.length c2) h.length (intR h) * F)))) w' → St w0 (RnP W B t l h sd * F) w' := by
    intro w' hE y
    rw [if_neg hE] at y
    exact RnP.col (B := B) (t := t) (v1 := .slice a1 l.length c1) (v2 := .slice a2 h.length c2) y rfl rfl
  rcases r.holder (g := g) (by omega) with ⟨hk, _, _⟩ | ⟨k, hk, hkk, _⟩
  case inr =>
    have hE := r.used hg hkk (by omega)
    have x3 := same _ (by rw [hE]; decide) x2
    have cW := x2.cl W
    obtain ⟨b, o2, rfl, hc⟩ := hoAt (a := a2) (c := c2) (l := h) x2 (k := g) (by omega)
    have hc' : w2.cell? ⟨b, o2 + g, none⟩ = some (encI k) := by
      rw [hc]
      rw [List.getElem?_eq_getElem (by omega), Option.some.injEq] at hkk
      rw [hkk]
    have hk0 : (0 : Int) ≤ k := by omega
    have h140 : ¬ ((140 : Int) = 0) := by decide
    simp -dsimp -implicitDefEqProofs (disch := omega) only [go_sem, reqD_of, dec_t, dec_f, wrap_i64, wrap_u32, wrap_u64, wrap_u8, cW, hgl, hc', hE, hk0, h140]
    exact ⟨t, l, h, n, f, B', r, by omega, x3⟩
  have hE := r.begE_free hg hk
  have cW := x2.cl W
  obtain ⟨b, o2, rfl, hc⟩ := hoAt (a := a2) (c := c2) (l := h) x2 (k := g) (by omega)
  have hc' : w2.cell? ⟨b, o2 + g, none⟩ = some (encI (-1)) := by
    rw [hc]
    rw [List.getElem?_eq_getElem (by omega), Option.some.injEq] at hk
    rw [hk]
  by_cases h8 : takenN h = 8
  · rw [if_pos h8] at hE
    have x3 := same _ (by rw [hE]; decide) x2
    have h141 : ¬ ((141 : Int) = 0) := by decide
    simp -dsimp -implicitDefEqProofs (disch := omega) only [go_sem, reqD_of, dec_t, dec_f, wrap_i64, wrap_u32, wrap_u64, wrap_u8, cW, hgl, hc', hE, h141]
    refine (taken_any hh x3).mono ?_
    rintro e w4 ⟨x4, rfl⟩
    rw [h8]
    simp -dsimp -implicitDefEqProofs (disch := omega) only [go_sem, reqD_of, dec_t, dec_f, wrap_i64, wrap_u32, wrap_u64, wrap_u8, hE, h141]
    exact ⟨t, l, h, n, f, B', r, by omega, x4⟩
  rw [if_neg h8] at hE
  rw [if_pos hE] at x2
  obtain ⟨f', B2, hcase⟩ := r.flush hg ho hk h8
  generalize (flS t g o ((n : Int) + 1)).1 = t' at x2 hcase
  generalize (flS t g o ((n : Int) + 1)).2 = told at hcase ⊢
  have x3 := RnP.col (W := W) (B := B) (l := l) (h := h) (sd := sd) (t := t') (v1 := .slice a1 l.length c1) (v2 := .slice (some ⟨b, o2, none⟩) h.length c2) x2 rfl rfl
  simp -dsimp -implicitDefEqProofs (disch := omega) only [go_sem, reqD_of, dec_t, dec_f, wrap_i64, wrap_u32, wrap_u64, wrap_u8, cW, hgl, hc', hE]
  refine (taken_any hh x3).mono ?_
  rintro e w4 ⟨x4, rfl⟩
  have h8' : ¬ (takenN h : Int) = 8 := by omega
  simp -dsimp -implicitDefEqProofs (disch := omega) only [go_sem, reqD_of, dec_t, dec_f, wrap_i64, wrap_u32, wrap_u64, wrap_u8, h8', hE, wg]
  refine onV_of (v := .agg (thC ⟨g, true, -1, false, false, false, false⟩).toArray) rfl ?_
  simp -dsimp -implicitDefEqProofs (disch := omega) only [go_sem, reqD_of, dec_t, dec_f, wrap_i64, wrap_u32, wrap_u64, wrap_u8]
  refine x4.new fun X w5 x5 => ?_
  simp -dsimp -implicitDefEqProofs (disch := omega) only [go_sem, reqD_of, dec_t, dec_f, wrap_i64, wrap_u32, wrap_u64, wrap_u8]
  refine x5.stoAll (b := X) (cs := thC ⟨g, true, -1, false, false, false, false⟩) rfl rfl (thC_cells _) fun w6 x6 => ?_
  obtain ⟨a3, c3, a4, c4, x7⟩ := RnP.open (F := Blk X (.cells (thC ⟨g, true, -1, false, false, false, false⟩).toArray 39 (0, 0)) * F) (x6.ac (by ac_rfl))
  have cW := x7.cl W
  obtain ⟨b4, o4, rfl, hc4⟩ := hoAt (a := a4) (c := c4) (l := h) x7 (k := o) (by omega)
  have setX : ∀ (v : Int) (w' : World) (G : HP), St w0 (Blk X (.cells ((thC ⟨g, true, -1, false, false, false, false⟩).toArray.setIfInBounds 2 (.int .i64 v)) 39 (0, 0)) * G) w' → St w0 (Blk X (.cells (thC ⟨g, true, v, false, false, false, false⟩).toArray 39 (0, 0)) * G) w' := fun v w' G h => h
  rcases hcase with ⟨ho1, hto, hr⟩ | ⟨y, Y, hy, ho1, hlY, hcs⟩
  · have hc5 : w6.cell? ⟨b4, o4 + o, none⟩ = some (encI (-1)) := by
      rw [hc4]
      rw [List.getElem?_eq_getElem (by omega), Option.some.injEq] at ho1
      rw [ho1]
    subst hto
    simp -dsimp -implicitDefEqProofs (disch := omega) only [go_sem, reqD_of, dec_t, dec_f, wrap_i64, wrap_u32, wrap_u64, wrap_u8, cW, hol, hc5]
    refine x7.sto (b := X) (off := 2) (by simp [thC]) rfl fun w8 x8 => ?_
    have x9 : St w0 (Blk X (.cells (thC ⟨g, true, -1, false, false, false, false⟩).toArray 39 (0, 0)) * (Blk W (rnB B (.slice a3 l.length c3) (.slice (some ⟨b4, o4, none⟩) h.length c4) sd) * (RowO 39 7 (.slice a3 l.length c3) l.length (l.flatMap thC) * (RowO 3 1 (.slice (some ⟨b4, o4, none⟩) h.length c4) h.length (intR h) * (TbP B t' * F))))) w8 := x8.ac (by simp only [thC, List.setIfInBounds_toArray, List.set_cons_succ, List.set_cons_zero]; ac_rfl)
    have x10 := x9.drew
    have cX := x10.cl X
    simp only [thC] at cX
    simp -dsimp -implicitDefEqProofs (disch := omega) only [go_sem, reqD_of, dec_t, dec_f, wrap_i64, wrap_u32, wrap_u64, wrap_u8, cX]
    have x11 := RnP.col (W := W) (B := B) (l := l) (h := h) (sd := sd) (t := t') (v1 := .slice a3 l.length c3) (v2 := .slice (some ⟨b4, o4, none⟩) h.length c4) x10 rfl rfl
    refine begins_22 (W := W) (B := B) (X := X) (g := g) (n := n) (x := ⟨g, true, -1, false, false, false, false⟩) hl (by omega) hh (by omega) rfl (by simp -dsimp -implicitDefEqProofs only [go_sem]) (by simp -dsimp -implicitDefEqProofs only [go_sem]) (by simp -dsimp -implicitDefEqProofs only [go_sem]) (by simp -dsimp -implicitDefEqProofs only [go_sem]) (x11.ac (by ac_rfl)) fun w' x12 => ?_
    exact ⟨_, _, _, n + 1, _, _, hr, by omega, x12, rfl⟩
  · have hc5 : w6.cell? ⟨b4, o4 + o, none⟩ = some (encI y) := by
      rw [hc4]
      rw [List.getElem?_eq_getElem (by omega), Option.some.injEq] at ho1
      rw [ho1]
    have hyl : y < l.length := by omega
    have hyl' : (y : Int) < l.length := by omega
    have hy0 : (0 : Int) ≤ y := by omega
    have hY : l[y] = Y := by rw [List.getElem?_eq_getElem hyl, Option.some.injEq] at hlY; exact hlY
    simp -dsimp -implicitDefEqProofs (disch := omega) only [go_sem, reqD_of, dec_t, dec_f, wrap_i64, wrap_u32, wrap_u64, wrap_u8, cW, hol, hc5]
    refine x7.sto (b := X) (off := 2) (by simp [thC]) rfl fun w8 x8 => ?_
    have x9 : St w0 (Blk X (.cells (thC ⟨g, true, y, false, false, false, false⟩).toArray 39 (0, 0)) * (Blk W (rnB B (.slice a3 l.length c3) (.slice (some ⟨b4, o4, none⟩) h.length c4) sd) * (RowO 39 7 (.slice a3 l.length c3) l.length (l.flatMap thC) * (RowO 3 1 (.slice (some ⟨b4, o4, none⟩) h.length c4) h.length (intR h) * (TbP B t' * F))))) w8 := x8.ac (by simp only [thC, List.setIfInBounds_toArray, List.set_cons_succ, List.set_cons_zero]; ac_rfl)
    have x10 := x9.drew
    have cX := x10.cl X
    have cW := x10.cl W
    simp only [thC] at cX
    obtain ⟨b3, o3, rfl, _, ct⟩ := thAt (a := a3) (c := c3) (l := l) x10 hyl
    rw [hY] at ct
    have ct1 := ct 1 (by decide)
    have ct3 := ct 3 (by decide)
    have ct4 := ct 4 (by decide)
    simp only [thC, List.getElem?_cons_succ, List.getElem?_cons_zero] at ct1 ct3 ct4
    rcases hcs with ⟨q1, q2, q3, hto, hr⟩ | ⟨q, hto, hr⟩
    · subst hto
      simp -dsimp -implicitDefEqProofs (disch := omega) only [go_sem, reqD_of, dec_t, dec_f, wrap_i64, wrap_u32, wrap_u64, wrap_u8, cX, cW, ct1, ct3, ct4, hyl', hy0, q1, q2, q3]
      refine x10.rowSetF (n := l.length) (c := c3) (enc := thC) (l := l) (k := y) (j := 3) thC_length hyl (by decide) { Y with cn := true } (by rw [hY]; rfl) (Nat.add_assoc _ _ _) rfl fun w11 x11 => ?_
      simp -dsimp -implicitDefEqProofs (disch := omega) only [go_sem, reqD_of, dec_t, dec_f, wrap_i64, wrap_u32, wrap_u64, wrap_u8]
      have x12 := RnP.col (W := W) (B := B) (l := l.set y { Y with cn := true }) (h := h) (sd := sd) (t := t') (n1 := l.length) (n2 := h.length) (v1 := .slice (some ⟨b3, o3, none⟩) l.length c3) (v2 := .slice (some ⟨b4, o4, none⟩) h.length c4) x11 (by simp) rfl
      refine begins_22 (W := W) (B := B) (X := X) (g := g) (n := n) (l := l.set y { Y with cn := true }) (x := ⟨g, true, y, false, false, false, false⟩) (by simp [hl]) (by omega) hh (by omega) rfl (by simp -dsimp -implicitDefEqProofs only [go_sem]) (by simp -dsimp -implicitDefEqProofs only [go_sem]) (by simp -dsimp -implicitDefEqProofs only [go_sem]) (by simp -dsimp -implicitDefEqProofs only [go_sem]) (x12.ac (by ac_rfl)) fun w' x13 => ?_
      exact ⟨_, _, _, n + 1, _, _, hr, by omega, x13, rfl⟩
    · subst hto
      have x11 := RnP.col (W := W) (B := B) (l := l) (h := h) (sd := sd) (t := t') (n1 := l.length) (n2 := h.length) (v1 := .slice (some ⟨b3, o3, none⟩) l.length c3) (v2 := .slice (some ⟨b4, o4, none⟩) h.length c4) x10 rfl rfl
      have fin : ∀ e : FA, e.ds = [] → e.ρ 0 = .pointer (some ⟨W, 0, none⟩) → e.ρ 1 = .int .i64 g → e.ρ 9 = .int .i64 (n + 1) → e.ρ 12 = .pointer (some ⟨X, 0, none⟩) → cwE Try.prog F27.t22 (fnP Try.prog #[.tmp 8] fun e w' => ∃ t' l' h' n' f' B', RunP t' l' h' sd n' f' B' ∧ n' ≤ n + 1 ∧ St w0 (RnP W B t' l' h' sd * F) w' ∧ e = .returned (.bool true)) e w8.drew := fun e hd e0 e1 e9 e12 =>
        begins_22 (W := W) (B := B) (X := X) (g := g) (n := n) (x := ⟨g, true, y, false, false, false, false⟩) hl (by omega) hh (by omega) hd e0 e1 e9 e12 (x11.ac (by ac_rfl)) fun w' x13 => ⟨_, _, _, n + 1, _, _, hr, by omega, x13, rfl⟩
      by_cases q1 : Y.fl = true
      · simp -dsimp -implicitDefEqProofs (disch := omega) only [go_sem, reqD_of, dec_t, dec_f, wrap_i64, wrap_u32, wrap_u64, wrap_u8, cX, cW, ct1, ct3, ct4, hyl', hy0, q1]
        exact fin _ rfl (by simp -dsimp -implicitDefEqProofs only [go_sem]) (by simp -dsimp -implicitDefEqProofs only [go_sem]) (by simp -dsimp -implicitDefEqProofs only [go_sem]) (by simp -dsimp -implicitDefEqProofs only [go_sem])
      have q1 : Y.fl = false := by simpa using q1
      by_cases q2 : Y.dc = true
      · simp -dsimp -implicitDefEqProofs (disch := omega) only [go_sem, reqD_of, dec_t, dec_f, wrap_i64, wrap_u32, wrap_u64, wrap_u8, cX, cW, ct1, ct3, ct4, hyl', hy0, q1, q2]
        exact fin _ rfl (by simp -dsimp -implicitDefEqProofs only [go_sem]) (by simp -dsimp -implicitDefEqProofs only [go_sem]) (by simp -dsimp -implicitDefEqProofs only [go_sem]) (by simp -dsimp -implicitDefEqProofs only [go_sem])
      have q2 : Y.dc = false := by simpa using q2
      have q3 : Y.cn = true := by
        rcases q with q | q | q
        · rw [q1] at q; cases q
        · rw [q2] at q; cases q
        · exact q
      simp -dsimp -implicitDefEqProofs (disch := omega) only [go_sem, reqD_of, dec_t, dec_f, wrap_i64, wrap_u32, wrap_u64, wrap_u8, cX, cW, ct1, ct3, ct4, hyl', hy0, q1, q2, q3]
      exact fin _ rfl (by simp -dsimp -implicitDefEqProofs only [go_sem]) (by simp -dsimp -implicitDefEqProofs only [go_sem]) (by simp -dsimp -implicitDefEqProofs only [go_sem]) (by simp -dsimp -implicitDefEqProofs only [go_sem])

end
end Go.Proofs.Yteefkhfmpcaccaa

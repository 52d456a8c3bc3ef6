/- The walk of FrameBack. -/
import Derived.Test.YtfamclpajjnfbaaFrJ
namespace Go.Proofs.Ytfamclpajjnfbaa
open Go
set_option linter.unusedSimpArgs false
set_option linter.unusedVariables false
set_option maxRecDepth 100000

theorem flatten_total (L : Nat) : ∀ (l : List (List UInt8)), ((l.map fun b => mkFrame b L).flatten).length = total (lenF L) l
  | [] => rfl
  | b :: l => by
    have := flatten_total L l
    simp only [List.map_cons, List.flatten_cons, List.length_append, this]
    simp [total, lenF]

theorem take_succ_map {α β : Type} (f : α → β) (l : List α) {i : Nat} (hi : i < l.length) : (l.take (i + 1)).map f = (l.take i).map f ++ [f l[i]] := by
  rw [List.take_succ_eq_append_getElem hi, List.map_append]; rfl

/-- Memory of FrameBack while it lays the frames down. -/
abbrev BackP (w0 : World) (R6 W : Nat) (vw vb : Value) (fs : List (List UInt8)) (F : HP) : HP :=
  Old w0 * (Blk R6 (.cells #[.bool false] 4 (0, 0)) * (Blk W (.cells #[vw] 34 (0, 0)) * (Row 5 1 vb fs.flatten.length (fs.flatten.map bv) * (ListP vw fs * F))))

theorem flat_drop : ∀ (fs : List (List UInt8)) (i : Nat) (hi : i < fs.length), fs.flatten.drop (fs.take i).flatten.length = fs[i] ++ (fs.drop (i + 1)).flatten ∧ (fs.take (i + 1)).flatten.length = (fs.take i).flatten.length + fs[i].length ∧ (fs.take (i + 1)).flatten.length ≤ fs.flatten.length
  | f :: fs, 0, _ => by simp
  | f :: fs, i + 1, hi => by
    obtain ⟨a, b, c⟩ := flat_drop fs i (by simpa using hi)
    simp only [List.take_succ_cons, List.flatten_cons, List.length_append, List.getElem_cons_succ, List.drop_succ_cons]
    refine ⟨?_, by omega, by omega⟩
    rw [← List.drop_drop, List.drop_left]
    exact a

/-- Memory of FrameBack's last part. -/
abbrev LastP (D c : Nat) (r : RC) (R6 W : Nat) (b0 : Bool) (vw : Value) (fs : List (List UInt8)) (M : HP) : HP :=
  CutR c r * (Blk D (.deferred (some [])) * (Blk R6 (.cells #[.bool b0] 4 (0, 0)) * (Blk W (.cells #[vw] 34 (0, 0)) * (ListP vw fs * M))))

section
attribute [local go_sem] F7.t9_eq F7.t10_eq F7.t36_eq F7.t33_eq F7.t37_eq F7.t31_eq F7.t32_eq F7.t41_eq F7.t28_eq F7.t26_eq F7.t18_eq F7.t13_eq F7.t3_eq
theorem back_end {w0 w : World} {D c R6 W L : Nat} {r : RC} {vw : Value} {pb : Option Addr} {cb : Nat} {fs : List (List UInt8)} {M : HP} {e : FA} {b0 : Bool} (hfr : ∀ f ∈ fs, IsFrame L f) (hL : L ≤ 65536) (hb : Ent M (RdB (.slice pb fs.flatten.length cb) fs.flatten)) (hold : Ent M (Old w0)) (hbd : fs.flatten.length ≤ 33554432) (hcap : fs.flatten.length ≤ cb)
    (h : St w0 (LastP D c r R6 W b0 vw fs M) w) (hr0 : r.hand = []) (hr1 : r.over = false) (hr2 : r.most = L) (hr3 : r.given = 0) (hr4 : r.bytes = 0) (hok : r.ok)
    (hd : e.ds = [{ target := .collected D, args := #[] }]) (e6 : e.ρ 6 = .pointer (some ⟨R6, 0, none⟩)) (e9 : e.ρ 9 = .slice pb fs.flatten.length cb) (e10 : e.ρ 10 = .pointer (some ⟨W, 0, none⟩)) (e13 : e.ρ 13 = .int .i64 fs.flatten.length) (e15 : e.ρ 15 = .pointer (some ⟨c, 0, none⟩)) :
    cwE Try.prog F7.t28 (fnP Try.prog #[.cell 6 4] fun e w' => St w0 (Old w0) w' ∧ e = .returned (.bool true)) e w := by
  rw [F7.t28_eq]
  have hfl : ∀ fs : List (List UInt8), (∀ f ∈ fs, IsFrame L f) → fs.length ≤ fs.flatten.length := fun fs => by
    induction fs with
    | nil => intro _; simp
    | cons f fs ih =>
      intro h
      have h1 := ih fun g hg => h g (by simp [hg])
      have h2 := (h f (by simp)).low
      simp only [List.length_cons, List.flatten_cons, List.length_append]
      omega
  have hfl := hfl fs hfr
  simp -dsimp -implicitDefEqProofs (disch := omega) only [go_sem, reqD_of, dec_t, dec_f, wrap_i64, wrap_u32, wrap_u64, wrap_u8, hd, e6, e9, e10, e13, e15]
  refine loop_intro (fun e w' => e.ds = [{ target := .collected D, args := #[] }] ∧ e.ρ 6 = .pointer (some ⟨R6, 0, none⟩) ∧ e.ρ 9 = .slice pb fs.flatten.length cb ∧ e.ρ 10 = .pointer (some ⟨W, 0, none⟩) ∧ e.ρ 13 = .int .i64 fs.flatten.length ∧ e.ρ 15 = .pointer (some ⟨c, 0, none⟩) ∧
      ∃ (i : Nat) (r : RC), i ≤ fs.length ∧ e.ρ 20 = .int .i64 i ∧ e.ρ 19 = .int .i64 (fs.take i).flatten.length ∧ St w0 (LastP D c r R6 W b0 vw fs M) w' ∧ r.hand = [] ∧ r.over = false ∧ r.most = L ∧ r.given = i ∧ r.bytes = (fs.take i).flatten.length ∧ r.ok)
    (fun e _ => match e.ρ 20 with | .int _ k => (fs.length - k).toNat | _ => 0) ?_ ?_
  · exact ⟨by simp -dsimp -implicitDefEqProofs only [go_sem, hd], by simp -dsimp -implicitDefEqProofs only [go_sem, e6], by simp -dsimp -implicitDefEqProofs only [go_sem, e9], by simp -dsimp -implicitDefEqProofs only [go_sem, e10], by simp -dsimp -implicitDefEqProofs only [go_sem, e13], by simp -dsimp -implicitDefEqProofs only [go_sem, e15], 0, r, by omega, by simp -dsimp -implicitDefEqProofs only [go_sem], by simp -dsimp -implicitDefEqProofs only [go_sem]; simp, h, hr0, hr1, hr2, hr3, by simpa using hr4, hok⟩
  clear h hr0 hr1 hr2 hr3 hr4 hok hd e6 e9 e10 e13 e15
  rintro e w ⟨hd, e6, e9, e10, e13, e15, i, r, hi, e20, e19, h, hr0, hr1, hr2, hr3, hr4, hok⟩
  have hcw := (h.ac (show _ = Blk W (.cells #[vw] 34 (0, 0)) * (CutR c r * (Blk D (.deferred (some [])) * (Blk R6 (.cells #[.bool b0] 4 (0, 0)) * (ListP vw fs * M)))) by unfold LastP; ac_rfl)).cells
  obtain ⟨vals, aw, cw, rfl, _, _, _⟩ := ListP.open (h.ac (show _ = ListP vw fs * (CutR c r * (Blk D (.deferred (some [])) * (Blk R6 (.cells #[.bool b0] 4 (0, 0)) * (Blk W (.cells #[vw] 34 (0, 0)) * M)))) by unfold LastP; ac_rfl))
  by_cases hlt : (i : Int) < fs.length
  case neg =>
    have : i = fs.length := by omega
    subst this
    rw [List.take_length] at e19
    have hD := h.drew
    have hcw := (hD.ac (show _ = Blk W (.cells #[.slice aw fs.length cw] 34 (0, 0)) * (CutR c r * (Blk D (.deferred (some [])) * (Blk R6 (.cells #[.bool b0] 4 (0, 0)) * (ListP (.slice aw fs.length cw) fs * M)))) by unfold LastP; ac_rfl)).cells
    have hcw0 := (h.ac (show _ = Blk W (.cells #[.slice aw fs.length cw] 34 (0, 0)) * (CutR c r * (Blk D (.deferred (some [])) * (Blk R6 (.cells #[.bool b0] 4 (0, 0)) * (ListP (.slice aw fs.length cw) fs * M)))) by unfold LastP; ac_rfl)).cells
    simp -dsimp -implicitDefEqProofs (disch := omega) only [go_sem, reqD_of, dec_t, dec_f, wrap_i64, wrap_u32, wrap_u64, wrap_u8, hd, e6, e9, e10, e13, e15, e19, e20, hcw, hcw0, hlt]
    refine (takenR hD).mono ?_
    rintro e' w1 ⟨h1, rfl⟩
    have hcw1 := (h1.ac (show _ = Blk W (.cells #[.slice aw fs.length cw] 34 (0, 0)) * (CutR c r * (Blk D (.deferred (some [])) * (Blk R6 (.cells #[.bool b0] 4 (0, 0)) * (ListP (.slice aw fs.length cw) fs * M)))) by ac_rfl)).cells
    rw [hr3]
    simp -dsimp -implicitDefEqProofs (disch := omega) only [go_sem, reqD_of, dec_t, dec_f, wrap_i64, wrap_u32, wrap_u64, wrap_u8, hd, e6, e9, e10, e13, e15, e19, e20, hcw1, hlt]
    refine (h1.sw3).store (arr' := #[.bool true]) rfl (by simp) rfl fun w2 h2 => ?_
    simp -dsimp -implicitDefEqProofs (disch := omega) only [go_sem, reqD_of, dec_t, dec_f, wrap_i64, wrap_u32, wrap_u64, wrap_u8, hd, e6, e9, e10, e13, e15, e19, e20]
    refine St.mark1 (h2.sw3) fun w3 h3 => ?_
    refine resC_1 (a := ⟨R6, 0, none⟩) (v := .bool true) (by first | exact e6 | simp -dsimp -implicitDefEqProofs only [go_sem, e6]) (run_loadVar_cell fact_aggSz_4 (by rw [(h3.sw2).cells]; rfl)) ?_
    exact ⟨((h3.ent ((Ent.right _ _).trans ((Ent.right _ _).trans ((Ent.right _ _).trans ((Ent.right _ _).trans (Ent.right _ _)))))).ent hold), rfl⟩
  have hil : i < fs.length := by omega
  obtain ⟨d1, d2, d3⟩ := flat_drop fs i hil
  have hf := hfr _ (List.getElem_mem hil)
  simp -dsimp -implicitDefEqProofs (disch := omega) only [go_sem, reqD_of, dec_t, dec_f, wrap_i64, wrap_u32, wrap_u64, wrap_u8, hd, e6, e9, e10, e13, e15, e19, e20, hcw, hlt]
  refine loop_intro (fun e w' => e.ds = [{ target := .collected D, args := #[] }] ∧ e.ρ 6 = .pointer (some ⟨R6, 0, none⟩) ∧ e.ρ 9 = .slice pb fs.flatten.length cb ∧ e.ρ 10 = .pointer (some ⟨W, 0, none⟩) ∧ e.ρ 13 = .int .i64 fs.flatten.length ∧ e.ρ 15 = .pointer (some ⟨c, 0, none⟩) ∧ e.ρ 20 = .int .i64 i ∧
      ∃ (r : RC) (k : Nat), e.ρ 19 = .int .i64 ((fs.take i).flatten.length + k : Nat) ∧ St w0 (LastP D c r R6 W b0 (.slice aw fs.length cw) fs M) w' ∧ r.over = false ∧ r.most = L ∧ r.given = i ∧ r.bytes = (fs.take i).flatten.length + k ∧ r.ok ∧
        (r.hand = [] ∧ k = 0 ∨ r.hand = fs[i].take 4 ∧ k = 4 ∧ r.whole = false ∨ r.hand = fs[i] ∧ k = fs[i].length ∧ r.whole = true))
    (fun e _ => match e.ρ 19 with | .int _ k => (fs.flatten.length - k).toNat | _ => 0) ?_ ?_
  · exact ⟨by simp -dsimp -implicitDefEqProofs only [go_sem, hd], by simp -dsimp -implicitDefEqProofs only [go_sem, e6], by simp -dsimp -implicitDefEqProofs only [go_sem, e9], by simp -dsimp -implicitDefEqProofs only [go_sem, e10], by simp -dsimp -implicitDefEqProofs only [go_sem, e13], by simp -dsimp -implicitDefEqProofs only [go_sem, e15], by simp -dsimp -implicitDefEqProofs only [go_sem, e20], r, 0, by simp -dsimp -implicitDefEqProofs only [go_sem, e19], h, hr1, hr2, hr3, hr4, hok, .inl ⟨hr0, rfl⟩⟩
  clear h hr0 hr1 hr2 hr3 hr4 hok hd e6 e9 e10 e13 e15
  rintro e1 w ⟨hd, e6, e9, e10, e13, e15, g20, r, k, g19, h, hr1, hr2, hr3, hr4, hok, hor⟩
  have hlow := hf.low
  have hor' : (∃ (n : Nat) (l : List UInt8), l.length = n ∧ 0 < n ∧ r.whole = false ∧ r.want = n ∧ (fs.flatten.drop ((fs.take i).flatten.length + k)).take n = l ∧ (fs.take i).flatten.length + k + n ≤ fs.flatten.length ∧ (r.feed l).1 = n ∧ (r.feed l).2.over = false ∧
      ((r.feed l).2.hand = fs[i].take 4 ∧ k + n = 4 ∧ (r.feed l).2.whole = false ∨ (r.feed l).2.hand = fs[i] ∧ k + n = fs[i].length ∧ (r.feed l).2.whole = true)) ∨ (r.hand = fs[i] ∧ k = fs[i].length ∧ r.whole = true) := by
    rcases hor with ⟨q1, rfl⟩ | ⟨q1, rfl, q2⟩ | ⟨q1, rfl, q2⟩
    · left
      obtain ⟨f1, f2, f3, f4⟩ := feed_head q1 hr1 (by rw [hr2]; exact hf)
      refine ⟨4, fs[i].take 4, by simp; omega, by omega, by unfold RC.whole; rw [q1]; simp, by unfold RC.want; rw [hr1, q1]; simp, ?_, by omega, f1, f3, .inl ⟨f2, rfl, f4⟩⟩
      rw [Nat.add_zero, d1, List.take_append_of_le_length (by omega)]
    · left
      obtain ⟨f1, f2, f3, f4⟩ := feed_rest q1 hr1 (by rw [hr2]; exact hf)
      refine ⟨fs[i].length - 4, fs[i].drop 4, by simp, by omega, q2, ?_, ?_, by omega, f1, f3, .inr ⟨f2, by omega, f4⟩⟩
      · unfold RC.want
        have hz : sizeL (fs[i].take 4) = sizeL fs[i] := by
          have := sizeL_app (fs[i].take 4) (by simp; omega) (fs[i].drop 4)
          rw [List.take_append_drop] at this
          exact this.symm
        rw [hr1, q1, hz, hf.size]
        have : (fs[i].take 4).length = 4 := by simp; omega
        rw [this]; simp
      · rw [← List.drop_drop, d1, List.drop_append_of_le_length (by omega)]
        rw [List.take_append_of_le_length (by simp), List.take_of_length_le (by simp)]
    · exact .inr ⟨q1, rfl, q2⟩
  clear hor
  rcases hor' with ⟨n, l, p1, p2, p3, p4, p5, p6, p7, p8, p9⟩ | ⟨q1, rfl, q2⟩
  · obtain ⟨n1, n2, n3, n4⟩ := RC.feed_le l r
    have hok1 := RC.ok_feed l r hok (by omega)
    simp -dsimp -implicitDefEqProofs (disch := omega) only [go_sem, reqD_of, dec_t, dec_f, wrap_i64, wrap_u32, wrap_u64, wrap_u8, hd, e6, e9, e10, e13, e15, g19, g20]
    refine (wholeR h hok).mono ?_
    rintro e' w1 ⟨h1, rfl⟩
    rw [p3]
    simp -dsimp -implicitDefEqProofs (disch := omega) only [go_sem, reqD_of, dec_t, dec_f, wrap_i64, wrap_u32, wrap_u64, wrap_u8, hd, e6, e9, e10, e13, e15, g19, g20]
    refine (wantR h1 hok).mono ?_
    rintro e' w2 ⟨h2, rfl⟩
    rw [p4]
    simp -dsimp -implicitDefEqProofs (disch := omega) only [go_sem, reqD_of, dec_t, dec_f, wrap_i64, wrap_u32, wrap_u64, wrap_u8, hd, e6, e9, e10, e13, e15, g19, g20]
    have hsub := hb.trans (RdB.sub (lo := (fs.take i).flatten.length + k) (k := n) (by omega))
    rw [p5] at hsub
    have hm1 : ((((fs.take i).flatten.length + k : Nat) : Int) + (n : Int)).toNat - ((fs.take i).flatten.length + k) = n := by omega
    rw [hm1]
    have hsub2 : Ent (Blk D (.deferred (some [])) * (Blk R6 (.cells #[.bool b0] 4 (0, 0)) * (Blk W (.cells #[.slice aw fs.length cw] 34 (0, 0)) * (ListP (.slice aw fs.length cw) fs * M)))) (RdB (.slice (if cb = (fs.take i).flatten.length + k then pb else pb.map (·.add ((fs.take i).flatten.length + k))) n (cb - ((fs.take i).flatten.length + k))) l) :=
      (Ent.right _ _).trans ((Ent.right _ _).trans ((Ent.right _ _).trans ((Ent.right _ _).trans (by subst p1; exact hsub))))
    refine (feedR (bs := l) h2 hsub2 hok (by omega)).mono ?_
    rintro e' w3 ⟨h3, rfl⟩
    rw [p7]
    simp -dsimp -implicitDefEqProofs (disch := omega) only [go_sem, reqD_of, dec_t, dec_f, wrap_i64, wrap_u32, wrap_u64, wrap_u8, hd, e6, e9, e10, e13, e15, g19, g20]
    exact ⟨⟨(r.feed l).2, k + n, by omega, h3, p8, by rw [n4]; exact hr2, by rw [n3]; exact hr3, by omega, hok1, .inr p9⟩, by omega⟩
  · simp -dsimp -implicitDefEqProofs (disch := omega) only [go_sem, reqD_of, dec_t, dec_f, wrap_i64, wrap_u32, wrap_u64, wrap_u8, hd, e6, e9, e10, e13, e15, g19, g20]
    refine (wholeR h hok).mono ?_
    rintro e' w1 ⟨h1, rfl⟩
    rw [q2]
    simp -dsimp -implicitDefEqProofs (disch := omega) only [go_sem, reqD_of, dec_t, dec_f, wrap_i64, wrap_u32, wrap_u64, wrap_u8, hd, e6, e9, e10, e13, e15, g19, g20]
    refine (nextR_yes h1 hok q2).mono ?_
    rintro e' w2 ⟨v2, h2, rfl⟩
    rw [q1] at h2
    obtain ⟨vals, _, _, hv, hvl, hvc, h3⟩ := ListP.open (h2.ac (show _ = ListP (.slice aw fs.length cw) fs * (Row 5 1 v2 fs[i].length (fs[i].map bv) * (CutR c r.next * (Blk D (.deferred (some [])) * (Blk R6 (.cells #[.bool b0] 4 (0, 0)) * (Blk W (.cells #[.slice aw fs.length cw] 34 (0, 0)) * M))))) by ac_rfl))
    simp only [Value.slice.injEq, true_and] at hv
    obtain ⟨rfl, rfl⟩ := hv
    obtain ⟨⟨gw, rfl⟩, _⟩ := Row.pos h3 (by omega)
    have hivl : i < vals.length := by omega
    have hcell : w2.cell? ⟨gw, i, none⟩ = some vals[i] := by
      obtain ⟨a', c', hv, _, hr⟩ := ((h3.left.ent (Row.reads _ _ _ _ _)).rd).form
      simp only [Value.slice.injEq, Option.some.injEq, true_and] at hv
      obtain ⟨rfl, _⟩ := hv
      rcases hr with hr | ⟨b, o, hb, hr⟩
      · rw [hr] at hvl; simp at hvl; omega
      · simp only [Option.some.injEq, Addr.mk.injEq, and_true] at hb
        obtain ⟨rfl, rfl⟩ := hb
        have := hr i hivl
        rw [Nat.zero_add] at this
        rw [this, List.getElem?_eq_getElem hivl]
    have hcw2 := (h3.ac (show _ = Blk W (.cells #[.slice (some ⟨gw, 0, none⟩) fs.length cw] 34 (0, 0)) * (Row 35 1 (.slice (some ⟨gw, 0, none⟩) fs.length cw) fs.length vals * (Rows vals fs * (Row 5 1 v2 fs[i].length (fs[i].map bv) * (CutR c r.next * (Blk D (.deferred (some [])) * (Blk R6 (.cells #[.bool b0] 4 (0, 0)) * M)))))) by ac_rfl)).cells
    simp -dsimp -implicitDefEqProofs (disch := omega) only [go_sem, reqD_of, dec_t, dec_f, wrap_i64, wrap_u32, wrap_u64, wrap_u8, hd, e6, e9, e10, e13, e15, g19, g20, hcw2, hcell]
    refine (same_any h3 (xs := fs[i]) (ys := fs[i]) ((Ent.right _ _).trans ((Ent.right _ _).trans (Row.rdB rfl))) ((Ent.right _ _).trans ((Ent.left _ _).trans (Rows.get vals fs i hivl hil))) (by omega)).mono ?_
    rintro e' w3 ⟨h4, rfl⟩
    have h5 : St w0 (CutR c r.next * (Row 5 1 v2 fs[i].length (fs[i].map bv) * (Blk D (.deferred (some [])) * (Blk R6 (.cells #[.bool b0] 4 (0, 0)) * (Blk W (.cells #[.slice (some ⟨gw, 0, none⟩) fs.length cw] 34 (0, 0)) * (ListP (.slice (some ⟨gw, 0, none⟩) fs.length cw) fs * M)))))) w3 :=
      ((h4.ac (sep_assoc _ _ _).symm).ent (Ent.sep (ListP.shut hvl hvc) (Ent.rfl' _))).ac (by ac_rfl)
    simp -dsimp -implicitDefEqProofs (disch := omega) only [go_sem, reqD_of, dec_t, dec_f, wrap_i64, wrap_u32, wrap_u64, wrap_u8, hd, e6, e9, e10, e13, e15, g19, g20]
    refine (wantR h5 (RC.ok_next hok q2)).mono ?_
    rintro e' w4 ⟨h6, rfl⟩
    have hwt : r.next.want = 4 := by unfold RC.want RC.next; simp [hr1]
    rw [hwt]
    simp -dsimp -implicitDefEqProofs (disch := omega) only [go_sem, reqD_of, dec_t, dec_f, wrap_i64, wrap_u32, wrap_u64, wrap_u8, hd, e6, e9, e10, e13, e15, g19, g20, e20]
    exact ⟨⟨i + 1, r.next, by omega, by omega, by omega, h6.drop2, rfl, hr1, hr2, by simp only [RC.next]; omega, by simp only [RC.next]; omega, RC.ok_next hok q2⟩, by omega⟩

end
section
attribute [local go_sem] F7.t9_eq F7.t10_eq F7.t36_eq F7.t33_eq F7.t37_eq F7.t31_eq F7.t32_eq F7.t41_eq F7.t26_eq F7.t18_eq F7.t13_eq F7.t3_eq
theorem back_loop {w0 w : World} {R6 W K c B3 B5 L n0 : Nat} {vw vv : Value} {pb : Option Addr} {cb : Nat} {fs : List (List UInt8)} {behind : List UInt8} {M : HP} {e : FA} (hfr : ∀ f ∈ fs, IsFrame L f) (h7 : 7 ≤ L) (hL : L ≤ 65536)
    (hb : Ent M (RdB (.slice pb fs.flatten.length cb) fs.flatten)) (hold : Ent M (Old w0)) (hbd : fs.flatten.length + behind.length ≤ 67108864) (hbd2 : fs.flatten.length ≤ 33554432) (hcap : fs.flatten.length ≤ cb)
    (h : St w0 (Blk K (.cells #[.int .i64 0] 3 (0, 0)) * (CutR c (RC.new L) * (AllB B3 B5 L vv (fs.flatten ++ behind) * (Blk R6 (.cells #[.bool false] 4 (0, 0)) * (Blk W (.cells #[vw] 34 (0, 0)) * (ListP vw fs * M)))))) w)
    (hd : e.ds = []) (e6 : e.ρ 6 = .pointer (some ⟨R6, 0, none⟩)) (e9 : e.ρ 9 = .slice pb fs.flatten.length cb) (e10 : e.ρ 10 = .pointer (some ⟨W, 0, none⟩)) (e13 : e.ρ 13 = .int .i64 fs.flatten.length) (e15 : e.ρ 15 = .pointer (some ⟨c, 0, none⟩)) (e16 : e.ρ 16 = .pointer (some ⟨K, 0, none⟩))
    (e76 : e.ρ 76 = .func (.func 47) #[] #[.pointer (some ⟨B3, 0, none⟩), .pointer (some ⟨B5, 0, none⟩)]) :
    cwE Try.prog (.rangeFunc (.tmp 76) #[77] F7.a0 F7.b0) (blockP 2 (thenP (cwD Try.prog none F7.t26 (fnP Try.prog #[.cell 6 4] fun e w' => St w0 (Old w0) w' ∧ e = .returned (.bool true))) (fnP Try.prog #[.cell 6 4] fun e w' => St w0 (Old w0) w' ∧ e = .returned (.bool true)))) e w := by
  have hfl : ∀ fs : List (List UInt8), (∀ f ∈ fs, IsFrame L f) → fs.length ≤ fs.flatten.length := fun fs => by
    induction fs with
    | nil => intro _; simp
    | cons f fs ih =>
      intro h
      have h1 := ih fun g hg => h g (by simp [hg])
      have h2 := (h f (by simp)).low
      simp only [List.length_cons, List.flatten_cons, List.length_append]
      omega
  have hfl := hfl fs hfr
  have hlim : okLimit L = true := by simp [okLimit]; omega
  have hall : allFrames L (fs.flatten ++ behind) = fs ++ framesOf L behind := by unfold allFrames; rw [if_pos hlim]; exact framesOf_app fs behind hfr
  -- what stands behind the loop
  have fin : ∀ (D : Nat) (e' : FA) (w' : World), e' = { e with ds := { target := .collected D, args := #[] } :: e.ds } →
      St w0 (Blk D (.deferred (some [])) * ((Blk K (.cells #[.int .i64 fs.length] 3 (0, 0)) * (Blk W (.cells #[vw] 34 (0, 0)) * ListP vw fs)) * (AllB B3 B5 L vv (fs.flatten ++ behind) * (CutR c (RC.new L) * (Blk R6 (.cells #[.bool false] 4 (0, 0)) * M))))) w' →
      cwE Try.prog F7.t26 (fnP Try.prog #[.cell 6 4] fun e w' => St w0 (Old w0) w' ∧ e = .returned (.bool true)) e' w' := by
    intro D e' w' he h1
    rw [F7.t26_eq]
    have hk := (h1.ac (show _ = Blk K (.cells #[.int .i64 fs.length] 3 (0, 0)) * (Blk D (.deferred (some [])) * (Blk W (.cells #[vw] 34 (0, 0)) * (ListP vw fs * (AllB B3 B5 L vv (fs.flatten ++ behind) * (CutR c (RC.new L) * (Blk R6 (.cells #[.bool false] 4 (0, 0)) * M)))))) by ac_rfl)).cells
    have hw := (h1.ac (show _ = Blk W (.cells #[vw] 34 (0, 0)) * (Blk K (.cells #[.int .i64 fs.length] 3 (0, 0)) * (Blk D (.deferred (some [])) * (ListP vw fs * (AllB B3 B5 L vv (fs.flatten ++ behind) * (CutR c (RC.new L) * (Blk R6 (.cells #[.bool false] 4 (0, 0)) * M)))))) by ac_rfl)).cells
    obtain ⟨vals, aw, cw, rfl, _, _, _⟩ := ListP.open (h1.ac (show _ = ListP vw fs * (Blk W (.cells #[vw] 34 (0, 0)) * (Blk K (.cells #[.int .i64 fs.length] 3 (0, 0)) * (Blk D (.deferred (some [])) * (AllB B3 B5 L vv (fs.flatten ++ behind) * (CutR c (RC.new L) * (Blk R6 (.cells #[.bool false] 4 (0, 0)) * M)))))) by ac_rfl))
    have f16 : e'.ρ 16 = .pointer (some ⟨K, 0, none⟩) := by rw [he]; exact e16
    have f10 : e'.ρ 10 = .pointer (some ⟨W, 0, none⟩) := by rw [he]; exact e10
    have f6 : e'.ρ 6 = .pointer (some ⟨R6, 0, none⟩) := by rw [he]; exact e6
    have f9 : e'.ρ 9 = .slice pb fs.flatten.length cb := by rw [he]; exact e9
    have f13 : e'.ρ 13 = .int .i64 fs.flatten.length := by rw [he]; exact e13
    have f15 : e'.ρ 15 = .pointer (some ⟨c, 0, none⟩) := by rw [he]; exact e15
    have fd : e'.ds = [{ target := .collected D, args := #[] }] := by rw [he]; simp only [hd]
    simp -dsimp -implicitDefEqProofs (disch := omega) only [go_sem, reqD_of, dec_t, dec_f, wrap_i64, wrap_u32, wrap_u64, wrap_u8, f16, f10, hk, hw]
    refine back_end (D := D) (R6 := R6) (W := W) (c := c) (b0 := false) (vw := .slice aw fs.length cw) (r := RC.new L) (M := Blk K (.cells #[.int .i64 fs.length] 3 (0, 0)) * (AllB B3 B5 L vv (fs.flatten ++ behind) * M)) hfr hL ((Ent.right _ _).trans ((Ent.right _ _).trans hb)) ((Ent.right _ _).trans ((Ent.right _ _).trans hold)) hbd2 hcap (h1.ac (by unfold LastP; ac_rfl)) rfl rfl rfl rfl rfl (RC.ok_new hlim)
      (by simp -dsimp -implicitDefEqProofs only [go_sem, fd]) (by simp -dsimp -implicitDefEqProofs only [go_sem, f6]) (by simp -dsimp -implicitDefEqProofs only [go_sem, f9]) (by simp -dsimp -implicitDefEqProofs only [go_sem, f10]) (by simp -dsimp -implicitDefEqProofs only [go_sem, f13]) (by simp -dsimp -implicitDefEqProofs only [go_sem, f15])
  refine range_intro (F := Blk K (.cells #[.int .i64 0] 3 (0, 0)) * (CutR c (RC.new L) * (AllB B3 B5 L vv (fs.flatten ++ behind) * (Blk R6 (.cells #[.bool false] 4 (0, 0)) * (Blk W (.cells #[vw] 34 (0, 0)) * (ListP vw fs * M)))))) h
    (gf := 47) (lb := #[.pointer (some ⟨B3, 0, none⟩), .pointer (some ⟨B5, 0, none⟩)]) (by simp -dsimp -implicitDefEqProofs only [go_sem, e76]) fact_fnOk_47 (Pass := PassB)
    (fun pre => HP.fact (pre.length ≤ fs.length) (Blk K (.cells #[.int .i64 pre.length] 3 (0, 0)) * (Blk W (.cells #[vw] 34 (0, 0)) * ListP vw fs)))
    (fun cd _ => HP.fact (cd = .exit 2) (Blk K (.cells #[.int .i64 fs.length] 3 (0, 0)) * (Blk W (.cells #[vw] 34 (0, 0)) * ListP vw fs)))
    ?_ ?_ (iter_all (n := L) (v := vv) (b := fs.flatten ++ behind) (R := CutR c (RC.new L) * (Blk R6 (.cells #[.bool false] 4 (0, 0)) * M)) (by rw [List.length_append]; omega)) ?_ ?_
  · refine Ent.trans (Ent.of_eq ?_) (Ent.sep (Ent.fact (by simp) (Blk K (.cells #[.int .i64 0] 3 (0, 0)) * (Blk W (.cells #[vw] 34 (0, 0)) * ListP vw fs))) (Ent.rfl' _))
    ac_rfl
  · -- a round
    intro l pre x args G W1 hok h1
    have hargs : ∃ v, args = #[v] := by
      obtain ⟨v, h2⟩ := (h1.right.left).ex
      obtain ⟨_, _, hx, _⟩ := h2.sat
      exact ⟨v, hx⟩
    obtain ⟨v, rfl⟩ := hargs
    refine ⟨rfl, ?_⟩
    unfold F7.a0
    simp -dsimp -implicitDefEqProofs only [go_sem]
    refine ⟨h1, fun G2 W2 hl h2 => ?_⟩
    obtain ⟨hpre, h3⟩ := h2.factF
    obtain ⟨v', h4⟩ := (h3.ac (show _ = PassB x #[v] * ((Blk K (.cells #[.int .i64 pre.length] 3 (0, 0)) * (Blk W (.cells #[vw] 34 (0, 0)) * ListP vw fs)) * G2) by ac_rfl)).exF
    obtain ⟨hv, h4⟩ := h4.factF
    simp only [Array.mk.injEq, List.cons.injEq, and_true] at hv
    subst hv
    have hk := (h4.ac (show _ = Blk K (.cells #[.int .i64 pre.length] 3 (0, 0)) * (Row 5 1 v x.length (x.map bv) * (Blk W (.cells #[vw] 34 (0, 0)) * (ListP vw fs * G2))) by ac_rfl)).cells
    have hw := (h4.ac (show _ = Blk W (.cells #[vw] 34 (0, 0)) * (Row 5 1 v x.length (x.map bv) * (Blk K (.cells #[.int .i64 pre.length] 3 (0, 0)) * (ListP vw fs * G2))) by ac_rfl)).cells
    obtain ⟨post, hpost⟩ := hok
    rw [hall] at hpost
    unfold F7.b0
    by_cases hkn : (pre.length : Int) = fs.length
    · obtain ⟨vals, aw, cw, rfl, _, _, _⟩ := ListP.open (h4.ac (show _ = ListP vw fs * (Row 5 1 v x.length (x.map bv) * (Blk W (.cells #[vw] 34 (0, 0)) * (Blk K (.cells #[.int .i64 pre.length] 3 (0, 0)) * G2))) by ac_rfl))
      simp -dsimp -implicitDefEqProofs (disch := omega) only [go_sem, reqD_of, dec_t, dec_f, wrap_i64, wrap_u32, wrap_u64, wrap_u8, List.toList_toArray, e16, e10, hk, hw, hkn]
      have : (pre.length : Int) = (fs.length : Int) := hkn
      rw [this] at h4
      exact (h4.right).ent (Ent.sep (Ent.fact trivial _) (Ent.rfl' _))
    have hkl : pre.length < fs.length := by omega
    have hx : x = fs[pre.length] := by
      have q := congrArg (fun l => l[pre.length]?) hpost
      simp only [List.append_assoc, List.getElem?_append_left hkl] at q
      simpa [List.getElem?_eq_getElem hkl] using q.symm
    have hxf := hfr _ (List.getElem_mem hkl)
    have hxh := hxf.high
    obtain ⟨vals, aw, cw, rfl, hvl, hvc, h5⟩ := ListP.open (h4.ac (show _ = ListP vw fs * (Row 5 1 v x.length (x.map bv) * (Blk W (.cells #[vw] 34 (0, 0)) * (Blk K (.cells #[.int .i64 pre.length] 3 (0, 0)) * G2))) by ac_rfl))
    obtain ⟨⟨gw, rfl⟩, _⟩ := Row.pos h5 (by omega)
    have hivl : pre.length < vals.length := by omega
    have hcell : W2.cell? ⟨gw, pre.length, none⟩ = some vals[pre.length] := by
      obtain ⟨a', c', hv, _, hr⟩ := ((h5.left.ent (Row.reads _ _ _ _ _)).rd).form
      simp only [Value.slice.injEq, Option.some.injEq, true_and] at hv
      obtain ⟨rfl, _⟩ := hv
      rcases hr with hr | ⟨b, o, hb, hr⟩
      · rw [hr] at hvl; simp at hvl; omega
      · simp only [Option.some.injEq, Addr.mk.injEq, and_true] at hb
        obtain ⟨rfl, rfl⟩ := hb
        have := hr pre.length hivl
        rw [Nat.zero_add] at this
        rw [this, List.getElem?_eq_getElem hivl]
    simp -dsimp -implicitDefEqProofs (disch := omega) only [go_sem, reqD_of, dec_t, dec_f, wrap_i64, wrap_u32, wrap_u64, wrap_u8, List.toList_toArray, e16, e10, hk, hw, hkn, hcell]
    refine (same_any h5 (xs := x) (ys := x) ((Ent.right _ _).trans ((Ent.right _ _).trans (Row.rdB rfl))) ((Ent.right _ _).trans ((Ent.left _ _).trans (by rw [hx]; exact Rows.get vals fs pre.length hivl hkl))) (by rw [hx]; omega)).mono ?_
    rintro e' w3 ⟨h6, rfl⟩
    have h7 : St w0 (Blk K (.cells #[.int .i64 pre.length] 3 (0, 0)) * (Blk W (.cells #[.slice (some ⟨gw, 0, none⟩) fs.length cw] 34 (0, 0)) * (ListP (.slice (some ⟨gw, 0, none⟩) fs.length cw) fs * (Row 5 1 v x.length (x.map bv) * G2)))) w3 :=
      ((h6.ac (sep_assoc _ _ _).symm).ent (Ent.sep (ListP.shut hvl hvc) (Ent.rfl' _))).ac (by ac_rfl)
    have hk3 := h7.cells
    simp -dsimp -implicitDefEqProofs (disch := omega) only [go_sem, reqD_of, dec_t, dec_f, wrap_i64, wrap_u32, wrap_u64, wrap_u8, List.toList_toArray, e16, e10, hk3]
    refine h7.store (arr' := #[.int .i64 ((pre ++ [x]).length : Nat)]) (by simp) (by simp) rfl fun w4 h8 => ?_
    simp -dsimp -implicitDefEqProofs (disch := omega) only [go_sem, reqD_of, dec_t, dec_f, wrap_i64, wrap_u32, wrap_u64, wrap_u8]
    have h9 := h8.ac (show _ = Row 5 1 v x.length (x.map bv) * ((Blk K (.cells #[.int .i64 ((pre ++ [x]).length : Nat)] 3 (0, 0)) * (Blk W (.cells #[.slice (some ⟨gw, 0, none⟩) fs.length cw] 34 (0, 0)) * ListP (.slice (some ⟨gw, 0, none⟩) fs.length cw) fs)) * G2) by ac_rfl)
    exact (h9.right).ent (Ent.sep (Ent.fact (by simp; omega) _) (Ent.rfl' _))
  · intro D xs w' hS h1
    obtain ⟨hle, h2⟩ := (h1.ac (show _ = HP.fact (xs.length ≤ fs.length) (Blk K (.cells #[.int .i64 xs.length] 3 (0, 0)) * (Blk W (.cells #[vw] 34 (0, 0)) * ListP vw fs)) * (Blk D (.deferred (some [])) * (AllB B3 B5 L vv (fs.flatten ++ behind) * (CutR c (RC.new L) * (Blk R6 (.cells #[.bool false] 4 (0, 0)) * M)))) by ac_rfl)).factF
    have hlen0 : xs.length = fs.length + (framesOf L behind).length := by rw [hS, hall, List.length_append]
    have hlen : xs.length = fs.length := by omega
    rw [hlen] at h2
    exact fin D _ w' rfl (h2.ac (by ac_rfl))
  · intro D cd pre w' h1
    obtain ⟨rfl, h2⟩ := (h1.ac (show _ = HP.fact (cd = .exit 2) (Blk K (.cells #[.int .i64 fs.length] 3 (0, 0)) * (Blk W (.cells #[vw] 34 (0, 0)) * ListP vw fs)) * (Blk D (.deferred (some [])) * (AllB B3 B5 L vv (fs.flatten ++ behind) * (CutR c (RC.new L) * (Blk R6 (.cells #[.bool false] 4 (0, 0)) * M)))) by ac_rfl)).factF
    exact fin D _ w' rfl (h2.ac (by ac_rfl))

end
section
attribute [local go_sem] F7.t9_eq F7.t10_eq F7.t36_eq F7.t33_eq F7.t37_eq F7.t31_eq F7.t32_eq F7.t41_eq F7.t18_eq F7.t13_eq F7.t3_eq
theorem back_range {w0 w : World} {R6 W L : Nat} {vw vb : Value} {ph : Option Addr} {ch : Nat} {fs : List (List UInt8)} {behind : List UInt8} {e : FA} (hfr : ∀ f ∈ fs, IsFrame L f) (h7 : 7 ≤ L) (hL : L ≤ 65536) (hbh : Ent (Old w0) (RdB (.slice ph behind.length ch) behind)) (hbd : fs.flatten.length + behind.length ≤ 67108864)
    (hbd2 : fs.flatten.length ≤ 33554432) (h : St w0 (BackP w0 R6 W vw vb fs Emp) w)
    (hd : e.ds = []) (e2 : e.ρ 2 = .slice ph behind.length ch) (e6 : e.ρ 6 = .pointer (some ⟨R6, 0, none⟩)) (e7 : e.ρ 7 = .bool true) (e8 : e.ρ 8 = .int .i64 L) (e9 : e.ρ 9 = vb) (e10 : e.ρ 10 = .pointer (some ⟨W, 0, none⟩)) :
    cwE Try.prog F7.t13 (fnP Try.prog #[.cell 6 4] fun e w' => St w0 (Old w0) w' ∧ e = .returned (.bool true)) e w := by
  rw [F7.t13_eq]
  have hrow := h.ac (show _ = Row 5 1 vb fs.flatten.length (fs.flatten.map bv) * (Old w0 * (Blk R6 (.cells #[.bool false] 4 (0, 0)) * (Blk W (.cells #[vw] 34 (0, 0)) * (ListP vw fs * Emp)))) by unfold BackP; ac_rfl)
  obtain ⟨pb, cb, rfl, _⟩ := Row.form hrow
  simp -dsimp -implicitDefEqProofs (disch := omega) only [go_sem, reqD_of, dec_t, dec_f, wrap_i64, wrap_u32, wrap_u64, wrap_u8, hd, e2, e6, e7, e8, e9, e10]
  refine hrow.appendKeep fact_rowTy_35 ((((hrow.right.left).ent hbh).rd).src Try.underlying35 (bv_isCell _) (fun h => by simpa using h)) (show _ ≤ 9223372036854775807 by omega) (by omega) fun v1 w1 h1 => ?_
  rw [← List.map_append] at h1
  have hv1 : Ent (AppP 5 1 (.slice pb fs.flatten.length cb) fs.flatten.length (fs.flatten.map bv) v1 (fs.flatten.length + behind.length) ((fs.flatten ++ behind).map bv)) (RdB v1 (fs.flatten ++ behind)) := by
    refine (AppP.row _ _ _ _ _ _ _ _).trans ?_
    rw [← List.length_append]
    exact Row.reads _ _ _ _ _
  simp -dsimp -implicitDefEqProofs (disch := omega) only [go_sem, reqD_of, dec_t, dec_f, wrap_i64, wrap_u32, wrap_u64, wrap_u8, hd, e2, e6, e7, e8, e9, e10]
  refine (all_any (n := L) h1 ((Ent.left _ _).trans hv1) (by rw [List.length_append]; omega)).mono ?_
  rintro e' w2 ⟨B3, B5, v', h2, rfl⟩
  simp -dsimp -implicitDefEqProofs (disch := omega) only [go_sem, reqD_of, dec_t, dec_f, wrap_i64, wrap_u32, wrap_u64, wrap_u8, hd, e2, e6, e7, e8, e9, e10]
  refine (newR_yes h2 (n := L) (by simp [okLimit]; omega)).mono ?_
  rintro e' w3 ⟨c, h3, rfl⟩
  simp -dsimp -implicitDefEqProofs (disch := omega) only [go_sem, reqD_of, dec_t, dec_f, wrap_i64, wrap_u32, wrap_u64, wrap_u8, hd, e2, e6, e7, e8, e9, e10]
  refine h3.new fun K w4 h4 => ?_
  simp -dsimp -implicitDefEqProofs (disch := omega) only [go_sem, reqD_of, dec_t, dec_f, wrap_i64, wrap_u32, wrap_u64, wrap_u8, hd, e2, e6, e7, e8, e9, e10]
  refine h4.store (arr' := #[.int .i64 0]) rfl (by simp) rfl fun w5 h5 => ?_
  simp -dsimp -implicitDefEqProofs (disch := omega) only [go_sem, reqD_of, dec_t, dec_f, wrap_i64, wrap_u32, wrap_u64, wrap_u8, hd, e2, e6, e7, e8, e9, e10]
  have hcap : fs.flatten.length ≤ cb := by
    obtain ⟨_, _, hv, hc, _⟩ := ((h1.left).ent (AppP.old _ _ _ _ _ _ _ _)).rd.form
    simp only [Value.slice.injEq, true_and] at hv
    omega
  have hold : Ent (AppP 5 1 (.slice pb fs.flatten.length cb) fs.flatten.length (fs.flatten.map bv) v1 (fs.flatten.length + behind.length) ((fs.flatten ++ behind).map bv) * Old w0) (Old w0) := Ent.right _ _
  refine back_loop (M := AppP 5 1 (.slice pb fs.flatten.length cb) fs.flatten.length (fs.flatten.map bv) v1 (fs.flatten.length + behind.length) ((fs.flatten ++ behind).map bv) * Old w0) (R6 := R6) (W := W) (K := K) (c := c) (B3 := B3) (B5 := B5) (n0 := 0) (vw := vw) (vv := v') (pb := pb) (cb := cb) (behind := behind) hfr h7 hL
    ((Ent.left _ _).trans (AppP.old _ _ _ _ _ _ _ _)) hold hbd hbd2 hcap (h5.ent (Ent.trans (Ent.of_eq ?_) (Ent.left _ Emp))) (by simp -dsimp -implicitDefEqProofs only [go_sem, hd]) (by simp -dsimp -implicitDefEqProofs only [go_sem, e6]) (by simp -dsimp -implicitDefEqProofs only [go_sem, e9]) (by simp -dsimp -implicitDefEqProofs only [go_sem, e10]) (by simp -dsimp -implicitDefEqProofs only [go_sem]) (by simp -dsimp -implicitDefEqProofs only [go_sem]) (by simp -dsimp -implicitDefEqProofs only [go_sem]) (by simp -dsimp -implicitDefEqProofs only [go_sem])
  ac_rfl

end
section
attribute [local go_sem] F7.t9_eq F7.t10_eq F7.t36_eq F7.t33_eq F7.t37_eq F7.t31_eq F7.t32_eq F7.t41_eq F7.t28_eq F7.t26_eq F7.t18_eq F7.t3_eq
theorem back_any {w0 w : World} (h : St w0 (Old w0) w) {ms : Nat} {va vh : Value} {bodies : List (List UInt8)} {behind : List UInt8} (hms : ms < 4294967296)
    (ha : Ent (Old w0) (rFrames.at bodies [va])) (hbh : Ent (Old w0) (RdB vh behind)) (hbl : behind.length ≤ 140737488351232) :
    Calls Try.prog 7 #[va, .int .u32 ms, vh] w fun e w' => St w0 (Old w0) w' ∧ e = .returned (.bool true) := by
  obtain ⟨pa, ca, rfl, hlc, hcm, hlb⟩ := Rdr.slice ((St.start w0).reader ha)
  have hlb : bodies.length * 24 ≤ 140737488351232 := hlb
  obtain ⟨ph, ch, rfl, _, _⟩ := (h.ent hbh).bytes
  refine F7.calls (by simp) ?_
  unfold F7.code
  simp -dsimp -implicitDefEqProofs (disch := omega) only [go_sem, reqD_of, dec_t, dec_f, wrap_i64, wrap_u32, wrap_u64, wrap_u8]
  refine (h.ent (Ent.emp _)).new fun R6 w1 h1 => ?_
  have h1 := h1.sw2
  simp -dsimp -implicitDefEqProofs (disch := omega) only [go_sem, reqD_of, dec_t, dec_f, wrap_i64, wrap_u32, wrap_u64, wrap_u8]
  refine (many_any h1 ha).mono ?_
  rintro e w2 ⟨h2, k1, rfl, hk1, ht1⟩
  by_cases hbig : (33554432 : Int) < (k1 : Int) + behind.length
  · simp -dsimp -implicitDefEqProofs (disch := omega) only [go_sem, reqD_of, dec_t, dec_f, wrap_i64, wrap_u32, wrap_u64, wrap_u8, hbig]
    refine h2.sw2.store (arr' := #[.bool true]) rfl (by simp) rfl fun w3 h3 => ?_
    simp -dsimp -implicitDefEqProofs (disch := omega) only [go_sem, reqD_of, dec_t, dec_f, wrap_i64, wrap_u32, wrap_u64, wrap_u8]
    refine resC_1 (a := ⟨R6, 0, none⟩) (v := .bool true) (by simp -dsimp -implicitDefEqProofs only [go_sem]) (run_loadVar_cell fact_aggSz_4 (by rw [h3.cells]; rfl)) ?_
    exact ⟨h3.right.left, rfl⟩
  have ht1 := ht1 (by omega)
  obtain ⟨L, hL⟩ : ∃ L, L = 7 + ms % 65530 := ⟨_, rfl⟩
  have hLi : (7 : Int) + ((ms % 65530 : Nat) : Int) = (L : Int) := by omega
  simp -dsimp -implicitDefEqProofs (disch := omega) only [go_sem, reqD_of, dec_t, dec_f, wrap_i64, wrap_u32, wrap_u64, wrap_u8, hbig, tmod65530]
  refine (known_any h2).mono ?_
  rintro e w3 ⟨h3, rfl⟩
  simp -dsimp -implicitDefEqProofs (disch := omega) only [go_sem, reqD_of, dec_t, dec_f, wrap_i64, wrap_u32, wrap_u64, wrap_u8, hLi, tmod65530]
  refine h3.new fun W w4 h4 => ?_
  simp -dsimp -implicitDefEqProofs (disch := omega) only [go_sem, reqD_of, dec_t, dec_f, wrap_i64, wrap_u32, wrap_u64, wrap_u8]
  have h5 : St w0 (BackP w0 R6 W (.slice none 0 0) (.slice none 0 0) [] Emp) w4 := by
    have := (h4.ent (Ent.nilRow 5 1 _)).ac (show _ = (Old w0 * (Blk R6 (.cells #[.bool false] 4 (0, 0)) * (Blk W (.cells #[.slice none 0 0] 34 (0, 0)) * (Row 5 1 (.slice none 0 0) 0 [] * Emp)))) by ac_rfl)
    exact this.ent (Ent.sep (Ent.rfl' _) (Ent.sep (Ent.rfl' _) (Ent.sep (Ent.rfl' _) (Ent.sep (Ent.rfl' _) (ListP.nil.trans (Ent.emp _))))))
  refine loop_intro (fun e w' => e.ds = [] ∧ e.ρ 0 = .slice pa bodies.length ca ∧ e.ρ 2 = .slice ph behind.length ch ∧ e.ρ 6 = .pointer (some ⟨R6, 0, none⟩) ∧ e.ρ 7 = .bool true ∧ e.ρ 8 = .int .i64 L ∧ e.ρ 10 = .pointer (some ⟨W, 0, none⟩) ∧
      ∃ (i : Nat) (vw vb : Value), i ≤ bodies.length ∧ e.ρ 11 = .int .i64 i ∧ e.ρ 9 = vb ∧ St w0 (BackP w0 R6 W vw vb ((bodies.take i).map fun b => mkFrame b L) Emp) w')
    (fun e _ => match e.ρ 11 with | .int _ k => (bodies.length - k).toNat | _ => 0) ?_ ?_
  · exact ⟨rfl, rfl, rfl, rfl, rfl, rfl, rfl, 0, _, _, by omega, rfl, rfl, h5⟩
  clear h5 h4 h3 h2 h1 h
  rintro e w ⟨hd, e0, e2, e6, e7, e8, e10, i, vw, vb, hi, e11, e9, h⟩
  have hfl : ∀ j, ((((bodies.take j).map fun b => mkFrame b L).flatten).length : Int) ≤ 33554432 := fun j => by
    have q1 := flatten_total L (bodies.take j)
    have q2 := total_take_le (lenF L) bodies j
    have q3 := total_mono (lenF_le L) bodies
    omega
  by_cases hlt : (i : Int) < bodies.length
  case neg =>
    have : i = bodies.length := by omega
    subst this
    rw [List.take_length] at h
    have hq := hfl bodies.length
    rw [List.take_length] at hq
    simp -dsimp -implicitDefEqProofs (disch := omega) only [go_sem, reqD_of, dec_t, dec_f, wrap_i64, wrap_u32, wrap_u64, wrap_u8, hd, e0, e2, e6, e7, e8, e9, e10, e11, hlt]
    refine back_range (vw := vw) (vb := vb) (L := L) (ph := ph) (ch := ch) (behind := behind) (R6 := R6) (W := W) ?_ (by omega) (by omega) hbh (by omega) (by omega) h (by simp -dsimp -implicitDefEqProofs only [go_sem, hd]) (by simp -dsimp -implicitDefEqProofs only [go_sem, e2]) (by simp -dsimp -implicitDefEqProofs only [go_sem, e6]) (by simp -dsimp -implicitDefEqProofs only [go_sem, e7]) (by simp -dsimp -implicitDefEqProofs only [go_sem, e8]) (by simp -dsimp -implicitDefEqProofs only [go_sem, e9]) (by simp -dsimp -implicitDefEqProofs only [go_sem, e10])
    intro f hf
    obtain ⟨b, _, rfl⟩ := List.mem_map.1 hf
    obtain ⟨q1, q2, q3⟩ := mkFrame_sizeL b (show 7 ≤ L by omega) (by omega)
    exact ⟨q1, q2, q3⟩
  have hil : i < bodies.length := by omega
  obtain ⟨g, o, a', cap', rfl, hrb, hbl2, hcell⟩ := bytesElem ha hil
  have k0 := hcell _ w h
  simp -dsimp -implicitDefEqProofs (disch := omega) only [go_sem, reqD_of, dec_t, dec_f, wrap_i64, wrap_u32, wrap_u64, wrap_u8, hd, e0, e2, e6, e7, e8, e9, e10, e11, hlt, k0]
  refine (made_any h ((Ent.left _ _).trans hrb) (by omega) (by omega) (by omega)).mono ?_
  rintro e' w1 ⟨v1, h1, rfl⟩
  obtain ⟨a1, c1, rfl, _⟩ := Row.form h1
  simp -dsimp -implicitDefEqProofs (disch := omega) only [go_sem, reqD_of, dec_t, dec_f, wrap_i64, wrap_u32, wrap_u64, wrap_u8, hd, e0, e2, e6, e7, e8, e9, e10, e11]
  have hbnd := hfl i
  have hbnd2 := hfl (i + 1)
  have hsucc := take_succ_map (fun b => mkFrame b L) bodies hil
  obtain ⟨fs, hfs⟩ : ∃ fs, fs = (bodies.take i).map fun b => mkFrame b L := ⟨_, rfl⟩
  rw [← hfs] at h1 hsucc hbnd
  have hfl1 : (fs ++ [mkFrame bodies[i] L]).flatten = fs.flatten ++ mkFrame bodies[i] L := by simp
  have hfsl : fs.length = i := by rw [hfs]; simp; omega
  rw [hsucc, hfl1, List.length_append] at hbnd2
  have h2 : St w0 (Row 5 1 vb fs.flatten.length (fs.flatten.map bv) * (Row 5 1 (.slice a1 (mkFrame bodies[i] L).length c1) (mkFrame bodies[i] L).length ((mkFrame bodies[i] L).map bv) * (Old w0 * (Blk R6 (.cells #[.bool false] 4 (0, 0)) * (Blk W (.cells #[vw] 34 (0, 0)) * (ListP vw fs * Emp)))))) w1 := h1.ac (by unfold BackP; ac_rfl)
  refine h2.append fact_rowTy_35 ((((h2.right.left).ent (Row.reads _ _ _ _ _)).rd).src Try.underlying35 (bv_isCell _) (fun h => by simpa using h)) (show _ ≤ 9223372036854775807 by omega) (by omega) fun v2 w2 h3 => ?_
  have h4 := h3.ac (show _ = Blk W (.cells #[vw] 34 (0, 0)) * (Row 5 1 v2 (fs.flatten.length + (mkFrame bodies[i] L).length) (fs.flatten.map bv ++ (mkFrame bodies[i] L).map bv) * (Row 5 1 (.slice a1 (mkFrame bodies[i] L).length c1) (mkFrame bodies[i] L).length ((mkFrame bodies[i] L).map bv) * (Old w0 * (Blk R6 (.cells #[.bool false] 4 (0, 0)) * (ListP vw fs * Emp))))) by ac_rfl)
  have hcw := h4.cells
  simp -dsimp -implicitDefEqProofs (disch := omega) only [go_sem, reqD_of, dec_t, dec_f, wrap_i64, wrap_u32, wrap_u64, wrap_u8, hd, e0, e2, e6, e7, e8, e9, e10, e11, hcw]
  refine h4.buildSlice (s := 1) fact_rowTy_34 (cells := [.slice a1 (mkFrame bodies[i] L).length c1]) rfl (by decide) (by decide) fun v3 w3 h5 => ?_
  simp -dsimp -implicitDefEqProofs (disch := omega) only [go_sem, reqD_of, dec_t, dec_f, wrap_i64, wrap_u32, wrap_u64, wrap_u8, hd, e0, e2, e6, e7, e8, e9, e10, e11]
  have h6 := h5.ac (show _ = ListP vw fs * (Row 35 1 v3 1 [.slice a1 (mkFrame bodies[i] L).length c1] * (Blk W (.cells #[vw] 34 (0, 0)) * (Row 5 1 v2 (fs.flatten.length + (mkFrame bodies[i] L).length) (fs.flatten.map bv ++ (mkFrame bodies[i] L).map bv) * (Row 5 1 (.slice a1 (mkFrame bodies[i] L).length c1) (mkFrame bodies[i] L).length ((mkFrame bodies[i] L).map bv) * (Old w0 * (Blk R6 (.cells #[.bool false] 4 (0, 0)) * Emp)))))) by ac_rfl)
  obtain ⟨vals, aw, cw, rfl, hvl, hvc, h7⟩ := ListP.open h6
  refine h7.append fact_rowTy_34 ((((h7.right.right.left).ent (Row.reads _ _ _ _ _)).rd).src Try.underlying34 (by simp [isCell]) (by simp)) (show _ ≤ 9223372036854775807 by omega) (by omega) fun v4 w4 h8 => ?_
  have h9 := h8.ac (show _ = Blk W (.cells #[.slice aw fs.length cw] 34 (0, 0)) * ((Row 35 1 v4 (fs.length + 1) (vals ++ [.slice a1 (mkFrame bodies[i] L).length c1]) * (Row 5 1 (.slice a1 (mkFrame bodies[i] L).length c1) (mkFrame bodies[i] L).length ((mkFrame bodies[i] L).map bv) * Rows vals fs)) * (Row 35 1 v3 1 [.slice a1 (mkFrame bodies[i] L).length c1] * (Row 5 1 v2 (fs.flatten.length + (mkFrame bodies[i] L).length) (fs.flatten.map bv ++ (mkFrame bodies[i] L).map bv) * (Old w0 * (Blk R6 (.cells #[.bool false] 4 (0, 0)) * Emp))))) by ac_rfl)
  obtain ⟨a4, c4, rfl, _⟩ := Row.form h8
  simp -dsimp -implicitDefEqProofs (disch := omega) only [go_sem, reqD_of, dec_t, dec_f, wrap_i64, wrap_u32, wrap_u64, wrap_u8, hd, e0, e2, e6, e7, e8, e9, e10, e11]
  refine h9.store (arr' := #[.slice a4 (fs.length + 1) c4]) rfl (by simp) rfl fun w5 h10 => ?_
  simp -dsimp -implicitDefEqProofs (disch := omega) only [go_sem, reqD_of, dec_t, dec_f, wrap_i64, wrap_u32, wrap_u64, wrap_u8, hd, e0, e2, e6, e7, e8, e9, e10, e11]
  refine ⟨⟨i + 1, .slice a4 (fs.length + 1) c4, v2, by omega, by omega, rfl, ?_⟩, by omega⟩
  rw [hsucc]
  have hvl' : (vals ++ [Value.slice a1 (mkFrame bodies[i] L).length c1]).length = (fs ++ [mkFrame bodies[i] L]).length := by simp [hvl]
  have hsn : Ent (Row 35 1 (.slice a4 (fs.length + 1) c4) (fs.length + 1) (vals ++ [.slice a1 (mkFrame bodies[i] L).length c1]) * (Row 5 1 (.slice a1 (mkFrame bodies[i] L).length c1) (mkFrame bodies[i] L).length ((mkFrame bodies[i] L).map bv) * Rows vals fs)) (ListP (.slice a4 (fs.length + 1) c4) (fs ++ [mkFrame bodies[i] L])) := by
    have := ListP.shut (v := .slice a4 (fs.length + 1) c4) hvl' (by intro u hu; rcases List.mem_append.1 hu with hu | hu; exact hvc u hu; simp at hu; subst hu; rfl)
    refine Ent.trans (Ent.sep ?_ (Rows.snoc vals fs _ _ hvl)) this
    exact Ent.of_eq (by simp)
  have h11 := h10.ent (Ent.sep (Ent.rfl' _) (Ent.sep hsn (Ent.right _ _)))
  refine h11.ac ?_
  unfold BackP
  rw [hfl1, List.length_append, List.map_append]
  ac_rfl

end
end Go.Proofs.Ytfamclpajjnfbaa

/- The law LocksFirst. -/
import Derived.Test.YtacmnfpgimgigaaLkFf
namespace Go.Proofs.Ytacmnfpgimgigaa
open Go
set_option linter.unusedSimpArgs false
set_option linter.unusedVariables false
set_option maxRecDepth 100000

def RowsOk (ls : List (Nam × LkS)) (rs : List (Value × List Int)) (n : Nat) : Prop := rs.length = n ∧ ∀ k, k < n → ∃ v, rs.reverse[k]? = some (v, queueS (kN k) ls)
theorem RowsOk.push {ls : List (Nam × LkS)} {rs : List (Value × List Int)} {n : Nat} (h : RowsOk ls rs n) (v : Value) : RowsOk ls ((v, queueS (kN n) ls) :: rs) (n + 1) := by
  refine ⟨by simp [h.1], fun k hk => ?_⟩
  rw [List.reverse_cons]
  by_cases hkn : k = n
  · subst hkn
    exact ⟨v, by rw [List.getElem?_append_right (by simp [h.1])]; simp [h.1]⟩
  · obtain ⟨u, hu⟩ := h.2 k (by omega)
    exact ⟨u, by rw [List.getElem?_append_left (by simp [h.1]; omega)]; exact hu⟩
theorem wantsL_succ (ws : List (Int × Nee)) (n : Nat) : wantsL ws (n + 1) = wantsL ws n ++ [(agt (1 + (n : Int)) ws).getD noNeed] := by
  unfold wantsL; rw [List.range_succ, List.map_append]; rfl

theorem move_len (m : Mv) (ls : List (Nam × LkS)) (ws : List (Int × Nee)) : (moveS m ls ws).1.1.length ≤ tot ls := by
  have hq := totQ_le_tot ls
  unfold moveS
  split
  · simp
  · split
    · have := (freeS_tot (mvWho m) (mvLock m) ls ws).2.1
      simp only
      omega
    · have := (leaveS_tot (mvWho m) ls ws).2.1
      simp only
      omega

section
attribute [local go_sem] F5.t14_eq F5.t15_eq F5.t18_eq F5.t19_eq F5.t41_eq F5.t37_eq F5.t34_eq F5.t30_eq F5.t27_eq F5.t28_eq F5.t55_eq F5.t53_eq F5.t51_eq F5.t52_eq F5.t56_eq F5.t44_eq F5.t45_eq F5.t42_eq F5.t21_eq F5.t16_eq F5.t9_eq F5.t10_eq F5.t58_eq F5.t7_eq F5.t3_eq
theorem first_21 {w0 w : World} {F : HP} {B i : Nat} {ls : List (Nam × LkS)} {ws : List (Int × Nee)} {v0 vR vW : Value} {rs : List (Value × List Int)} {ms : List Mv} {m : Mv} {Q : Post} {e : FA} {θ : Tag (F5.t21, Q, e, w)}
    (v : Inv ls ws) (f : Few ls) (hT : tot ls < 536870912) (hL : ls.length < 536870912) (hr : Ent F (Reads 4 v0 ms.length (ms.flatMap mvC))) (hi : ms[i]? = some m) (hm : MvOk m) (hmi : i < 1073741824) (hrows : RowsOk ls rs 6)
    (hd : e.ds = []) (e0 : e.ρ 0 = v0) (e4 : e.ρ 4 = .pointer (some ⟨B, 0, none⟩)) (e5 : e.ρ 5 = .int .i64 i) (e6 : e.ρ 6 = vR) (e7 : e.ρ 7 = vW)
    (h : St w0 (RowO 38 4 vW 8 ((wantsL ws 8).flatMap needC) * (RowO 34 1 vR 6 (cellsV rs) * (TabP B ls ws * (rowsP rs * F)))) w)
    (hQ : ∀ (x : Exit) (e' : FA) (w' : World), (x = .normal ∨ x = .exit 1) → e'.ds = [] → e'.ρ 0 = v0 → e'.ρ 4 = .pointer (some ⟨B, 0, none⟩) → e'.ρ 5 = .int .i64 i → St w0 (TabP B (moveS m ls ws).2.1 (moveS m ls ws).2.2 * F) w' → Q x e' w') :
    cwE Try.prog F5.t21 Q e w θ := by
  obtain ⟨_, am, cm, rfl, _, hcm⟩ := St.rowsAt (k := 4) mvC_length (by decide) ((h.gives (B := F)).ent hr)
  obtain ⟨him, hmi2⟩ := List.getElem?_eq_some_iff.1 hi
  obtain ⟨bm, om, rfl, _, hcell⟩ := hcm i him
  have c0 := hcell 0 (by decide)
  have c1 := hcell 1 (by decide)
  have c2 := hcell 2 (by decide)
  have c3 := hcell 3 (by decide)
  rw [hmi2] at c0 c1 c2 c3
  simp only [mvC, Nat.add_zero, List.getElem?_cons_succ, List.getElem?_cons_zero] at c0 c1 c2 c3
  have hrow : rowV w ⟨bm, om + i * 4, none⟩ 4 = some (.agg (mvC m).toArray) := by
    obtain ⟨_, _, hg, hrr, _⟩ := hcm i him
    simp only [Option.some.injEq, Addr.mk.injEq, and_true] at hg
    obtain ⟨rfl, rfl⟩ := hg
    rw [hmi2] at hrr
    exact hrr
  rw [F5.t21_eq]
  obtain ⟨⟨⟨l, ok⟩, ls', ws'⟩, hR⟩ : ∃ y, moveS m ls ws = y := ⟨_, rfl⟩
  have v' := v.move m
  have ht' := move_tot m ls ws
  have hlen : l.length ≤ tot ls := by
    have h9 := move_len m ls ws
    rw [hR] at h9
    exact h9
  rw [hR] at v' ht' hQ
  simp only at v' ht' hQ
  simp -dsimp -implicitDefEqProofs (disch := omega) only [go_sem, reqD_of, dec_t, dec_f, wrap_i64, wrap_u32, wrap_u64, wrap_u8, hd, e0, e4, e5, e6, e7, c0, c1, c2, c3, hrow]
  refine (move_any hR hm (h.take (.obj B)) (fun n hn => by obtain ⟨s, hs, _⟩ := v.wq _ _ _ hn; exact ⟨s, hs⟩) (by omega) (by omega)).mono ?_
  rintro e' w1 ⟨v2, h1, rfl⟩
  cases ok
  · simp -dsimp -implicitDefEqProofs (disch := omega) only [go_sem, reqD_of, dec_t, dec_f, wrap_i64, wrap_u32, wrap_u64, wrap_u8, hd, e0, e4, e5, e6, e7]
    exact hQ _ _ _ (.inr rfl) (by simp -dsimp -implicitDefEqProofs only [go_sem, hd]) (by simp -dsimp -implicitDefEqProofs only [go_sem, e0]) (by simp -dsimp -implicitDefEqProofs only [go_sem, e4]) (by simp -dsimp -implicitDefEqProofs only [go_sem, e5]) h1.sub
  · simp -dsimp -implicitDefEqProofs (disch := omega) only [go_sem, reqD_of, dec_t, dec_f, wrap_i64, wrap_u32, wrap_u64, wrap_u8, hd, e0, e4, e5, e6, e7]
    refine first_23 (w0 := w0) (F := F) (B := B) (i := i) (v0 := .slice (some ⟨bm, om, none⟩) ms.length cm) (vR := vR) (vW := vW) (vIn := v2) (rs := rs) (m := m) (l := l) v f hR (by omega) (by omega) (by omega) hr hi hm hmi hrows.2 (by omega) (by simp -dsimp -implicitDefEqProofs only [go_sem, hd]) (by simp -dsimp -implicitDefEqProofs only [go_sem, e0]) (by simp -dsimp -implicitDefEqProofs only [go_sem, e4]) (by simp -dsimp -implicitDefEqProofs only [go_sem, e5]) (by simp -dsimp -implicitDefEqProofs only [go_sem, e6]) (by simp -dsimp -implicitDefEqProofs only [go_sem, e7]) (by simp -dsimp -implicitDefEqProofs only [go_sem]) ?_ ?_
    · show St w0 (TabP B ls' ws' * (RowO 34 1 vR 6 (cellsV rs) * (rowsP rs * (RowO 3 1 v2 l.length (intR (l.map (·.1))) * (RowO 38 4 vW 8 ((wantsL ws 8).flatMap needC) * F))))) w1
      exact h1.sub
    · intro e' w' f0 f1 f2 f3 h'
      exact hQ _ _ _ (.inl rfl) f0 f1 f2 f3 h'

end
section
attribute [local go_sem] F5.t14_eq F5.t15_eq F5.t18_eq F5.t19_eq F5.t41_eq F5.t37_eq F5.t34_eq F5.t30_eq F5.t27_eq F5.t28_eq F5.t55_eq F5.t53_eq F5.t51_eq F5.t52_eq F5.t56_eq F5.t44_eq F5.t45_eq F5.t42_eq F5.t23_eq F5.t16_eq F5.t9_eq F5.t10_eq F5.t58_eq F5.t7_eq F5.t3_eq
theorem first_16 {w0 w : World} {F : HP} {B i : Nat} {ls : List (Nam × LkS)} {ws : List (Int × Nee)} {v0 vR : Value} {rs : List (Value × List Int)} {ms : List Mv} {m : Mv} {Q : Post} {e : FA} {θ : Tag (F5.t16, Q, e, w)}
    (v : Inv ls ws) (f : Few ls) (hT : tot ls < 536870912) (hL : ls.length < 536870912) (hr : Ent F (Reads 4 v0 ms.length (ms.flatMap mvC))) (hi : ms[i]? = some m) (hm : MvOk m) (hmi : i < 1073741824) (hrows : RowsOk ls rs 6)
    (hd : e.ds = []) (e0 : e.ρ 0 = v0) (e4 : e.ρ 4 = .pointer (some ⟨B, 0, none⟩)) (e5 : e.ρ 5 = .int .i64 i) (e6 : e.ρ 6 = vR) (e7 : e.ρ 7 = .slice none 0 0)
    (h : St w0 (RowO 34 1 vR 6 (cellsV rs) * (TabP B ls ws * (rowsP rs * F))) w)
    (hQ : ∀ (x : Exit) (e' : FA) (w' : World), (x = .normal ∨ x = .exit 1) → e'.ds = [] → e'.ρ 0 = v0 → e'.ρ 4 = .pointer (some ⟨B, 0, none⟩) → e'.ρ 5 = .int .i64 i → St w0 (TabP B (moveS m ls ws).2.1 (moveS m ls ws).2.2 * F) w' → Q x e' w') :
    cwE Try.prog F5.t16 Q e w θ := by
  rw [F5.t16_eq]
  simp -dsimp -implicitDefEqProofs (disch := omega) only [go_sem, reqD_of, dec_t, dec_f, wrap_i64, wrap_u32, wrap_u64, wrap_u8, hd, e0, e4, e5, e6, e7]
  refine loop_intro (fun e w' => e.ds = [] ∧ e.ρ 0 = v0 ∧ e.ρ 4 = .pointer (some ⟨B, 0, none⟩) ∧ e.ρ 5 = .int .i64 i ∧ e.ρ 6 = vR ∧ ∃ (n : Nat) (vW : Value), n ≤ 8 ∧ e.ρ 9 = .int .i64 (1 + (n : Int)) ∧ e.ρ 7 = vW ∧
      St w0 (RowO 38 4 vW n ((wantsL ws n).flatMap needC) * (RowO 34 1 vR 6 (cellsV rs) * (TabP B ls ws * (rowsP rs * F)))) w')
    (fun e _ => match e.ρ 9 with | .int _ n => (9 - n).toNat | _ => 0) ?_ ?_
  · exact ⟨by simp -dsimp -implicitDefEqProofs only [go_sem, hd], by simp -dsimp -implicitDefEqProofs only [go_sem, e0], by simp -dsimp -implicitDefEqProofs only [go_sem, e4], by simp -dsimp -implicitDefEqProofs only [go_sem, e5], by simp -dsimp -implicitDefEqProofs only [go_sem, e6], 0, .slice none 0 0, by omega, by simp -dsimp -implicitDefEqProofs only [go_sem], by simp -dsimp -implicitDefEqProofs only [go_sem, e7], h.nilR 38 4⟩
  rintro e w1 ⟨hd, e0, e4, e5, e6, n, vW, hn, e9, e7, h1⟩
  by_cases hlt : 1 + (n : Int) ≤ 8
  case neg =>
    have : n = 8 := by omega
    subst this
    simp -dsimp -implicitDefEqProofs (disch := omega) only [go_sem, reqD_of, dec_t, dec_f, wrap_i64, wrap_u32, wrap_u64, wrap_u8, e9, hlt]
    exact first_21 v f hT hL hr hi hm hmi hrows (by simp -dsimp -implicitDefEqProofs only [go_sem, hd]) (by simp -dsimp -implicitDefEqProofs only [go_sem, e0]) (by simp -dsimp -implicitDefEqProofs only [go_sem, e4]) (by simp -dsimp -implicitDefEqProofs only [go_sem, e5]) (by simp -dsimp -implicitDefEqProofs only [go_sem, e6]) (by simp -dsimp -implicitDefEqProofs only [go_sem, e7]) h1 hQ
  simp -dsimp -implicitDefEqProofs (disch := omega) only [go_sem, reqD_of, dec_t, dec_f, wrap_i64, wrap_u32, wrap_u64, wrap_u8, hd, e0, e4, e5, e6, e7, e9, hlt]
  refine (waits_any (who := 1 + (n : Int)) (h1.take (.obj B))).mono ?_
  rintro e' w2 ⟨h2, rfl⟩
  generalize hN : (agt (1 + (n : Int)) ws).getD noNeed = N
  simp -dsimp -implicitDefEqProofs (disch := omega) only [go_sem, reqD_of, dec_t, dec_f, wrap_i64, wrap_u32, wrap_u64, wrap_u8, hd, e0, e4, e5, e6, e7, e9]
  refine h2.new fun b w3 h3 => ?_
  simp -dsimp -implicitDefEqProofs (disch := omega) only [go_sem, reqD_of, dec_t, dec_f, wrap_i64, wrap_u32, wrap_u64, wrap_u8]
  refine h3.stoAll (cs := needC N) rfl rfl (needC_cells _) fun w4 h4 => ?_
  have hrow : rowV w4 ⟨b, 0, none⟩ 4 = some (needV N) := h4.rowH b 4 rfl
  simp -dsimp -implicitDefEqProofs (disch := omega) only [go_sem, reqD_of, dec_t, dec_f, wrap_i64, wrap_u32, wrap_u64, wrap_u8, hd, e0, e4, e5, e6, e7, e9, hrow]
  refine h4.lit fact_rowTy_33 (cells := needC N) rfl (by decide) (by decide) fun v3 w5 h5 => ?_
  simp -dsimp -implicitDefEqProofs (disch := omega) only [go_sem, reqD_of, dec_t, dec_f, wrap_i64, wrap_u32, wrap_u64, wrap_u8, e7]
  refine h5.appR (v := vW) (x := v3) fact_rowTy_33 Try.underlying33 (needC_cells _) (by simp [needC]) (by simp only [maxLen]; omega) (by omega) fun v4 w6 h6 => ?_
  have hw : (wantsL ws (n + 1)).flatMap needC = (wantsL ws n).flatMap needC ++ needC N := by rw [wantsL_succ, List.flatMap_append, hN]; simp
  simp -dsimp -implicitDefEqProofs (disch := omega) only [go_sem, reqD_of, dec_t, dec_f, wrap_i64, wrap_u32, wrap_u64, wrap_u8, hd, e0, e4, e5, e6, e7, e9]
  refine ⟨⟨n + 1, v4, by omega, by omega, rfl, ?_⟩, by omega⟩
  rw [hw]
  exact h6.sub

end
section
attribute [local go_sem] F5.t14_eq F5.t15_eq F5.t18_eq F5.t19_eq F5.t41_eq F5.t37_eq F5.t34_eq F5.t30_eq F5.t27_eq F5.t28_eq F5.t55_eq F5.t53_eq F5.t51_eq F5.t52_eq F5.t56_eq F5.t44_eq F5.t45_eq F5.t42_eq F5.t23_eq F5.t21_eq F5.t9_eq F5.t10_eq F5.t58_eq F5.t7_eq F5.t3_eq
theorem first_10 {w0 w : World} {F : HP} {B i : Nat} {ls : List (Nam × LkS)} {ws : List (Int × Nee)} {v0 : Value} {ms : List Mv} {m : Mv} {Q : Post} {e : FA} {θ : Tag (F5.t10, Q, e, w)}
    (v : Inv ls ws) (f : Few ls) (hT : tot ls < 536870912) (hL : ls.length < 536870912) (hr : Ent F (Reads 4 v0 ms.length (ms.flatMap mvC))) (hi : ms[i]? = some m) (hm : MvOk m) (hmi : i < 1073741824)
    (hd : e.ds = []) (e0 : e.ρ 0 = v0) (e4 : e.ρ 4 = .pointer (some ⟨B, 0, none⟩)) (e5 : e.ρ 5 = .int .i64 i)
    (h : St w0 (TabP B ls ws * F) w)
    (hQ : ∀ (e' : FA) (w' : World), e'.ds = [] → e'.ρ 0 = v0 → e'.ρ 4 = .pointer (some ⟨B, 0, none⟩) → e'.ρ 5 = .int .i64 ((i : Int) + 1) → St w0 (TabP B (moveS m ls ws).2.1 (moveS m ls ws).2.2 * F) w' → Q .normal e' w') :
    cwE Try.prog F5.t10 Q e w θ := by
  rw [F5.t10_eq]
  simp -dsimp -implicitDefEqProofs (disch := omega) only [go_sem, reqD_of, dec_t, dec_f, wrap_i64, wrap_u32, wrap_u64, wrap_u8, hd, e0, e4, e5]
  refine loop_intro (fun e w' => e.ds = [] ∧ e.ρ 0 = v0 ∧ e.ρ 4 = .pointer (some ⟨B, 0, none⟩) ∧ e.ρ 5 = .int .i64 i ∧ e.ρ 7 = .slice none 0 0 ∧ ∃ (k : Nat) (vR : Value) (rs : List (Value × List Int)), k ≤ 6 ∧ e.ρ 8 = .int .i64 k ∧ e.ρ 6 = vR ∧ RowsOk ls rs k ∧
      St w0 (RowO 34 1 vR k (cellsV rs) * (TabP B ls ws * (rowsP rs * F))) w')
    (fun e _ => match e.ρ 8 with | .int _ n => (6 - n).toNat | _ => 0) ?_ ?_
  · exact ⟨by simp -dsimp -implicitDefEqProofs only [go_sem, hd], by simp -dsimp -implicitDefEqProofs only [go_sem, e0], by simp -dsimp -implicitDefEqProofs only [go_sem, e4], by simp -dsimp -implicitDefEqProofs only [go_sem, e5], by simp -dsimp -implicitDefEqProofs only [go_sem], 0, .slice none 0 0, [], by omega, by simp -dsimp -implicitDefEqProofs only [go_sem], by simp -dsimp -implicitDefEqProofs only [go_sem], ⟨rfl, fun k hk => absurd hk (by omega)⟩, (h.ent (Ent.sep (Ent.rfl' _) (Ent.empL F))).nilR 34 1⟩
  rintro e w1 ⟨hd, e0, e4, e5, e7, k, vR, rs, hk, e8, e6, hrs, h1⟩
  by_cases hlt : (k : Int) < 6
  case neg =>
    have : k = 6 := by omega
    subst this
    simp -dsimp -implicitDefEqProofs (disch := omega) only [go_sem, reqD_of, dec_t, dec_f, wrap_i64, wrap_u32, wrap_u64, wrap_u8, e8, hlt]
    refine first_16 v f hT hL hr hi hm hmi hrs (by simp -dsimp -implicitDefEqProofs only [go_sem, hd]) (by simp -dsimp -implicitDefEqProofs only [go_sem, e0]) (by simp -dsimp -implicitDefEqProofs only [go_sem, e4]) (by simp -dsimp -implicitDefEqProofs only [go_sem, e5]) (by simp -dsimp -implicitDefEqProofs only [go_sem, e6]) (by simp -dsimp -implicitDefEqProofs only [go_sem, e7]) h1 ?_
    intro x e' w' hx f0 f1 f2 f3 h'
    rcases hx with rfl | rfl
    · simp -dsimp -implicitDefEqProofs (disch := omega) only [go_sem, reqD_of, dec_t, dec_f, wrap_i64, wrap_u32, wrap_u64, wrap_u8, f0, f1, f2, f3]
      exact hQ _ _ (by simp -dsimp -implicitDefEqProofs only [go_sem, f0]) (by simp -dsimp -implicitDefEqProofs only [go_sem, f1]) (by simp -dsimp -implicitDefEqProofs only [go_sem, f2]) (by simp -dsimp -implicitDefEqProofs only [go_sem, f3]) h'
    · simp -dsimp -implicitDefEqProofs (disch := omega) only [go_sem, reqD_of, dec_t, dec_f, wrap_i64, wrap_u32, wrap_u64, wrap_u8, f0, f1, f2, f3]
      exact hQ _ _ (by simp -dsimp -implicitDefEqProofs only [go_sem, f0]) (by simp -dsimp -implicitDefEqProofs only [go_sem, f1]) (by simp -dsimp -implicitDefEqProofs only [go_sem, f2]) (by simp -dsimp -implicitDefEqProofs only [go_sem, f3]) h'
  simp -dsimp -implicitDefEqProofs (disch := omega) only [go_sem, reqD_of, dec_t, dec_f, wrap_i64, wrap_u32, wrap_u64, wrap_u8, hd, e0, e4, e5, e6, e7, e8, hlt]
  refine (oneN_any h1 (by omega) (by omega)).mono ?_
  rintro e' w2 ⟨h2, rfl⟩
  simp -dsimp -implicitDefEqProofs (disch := omega) only [go_sem, reqD_of, dec_t, dec_f, wrap_i64, wrap_u32, wrap_u64, wrap_u8, hd, e0, e4, e5, e6, e7, e8]
  refine (queueN_any (x := kN k) (h2.take (.obj B)) (by omega)).mono ?_
  rintro e' w3 ⟨vq, h3, rfl⟩
  simp -dsimp -implicitDefEqProofs (disch := omega) only [go_sem, reqD_of, dec_t, dec_f, wrap_i64, wrap_u32, wrap_u64, wrap_u8, hd, e0, e4, e5, e6, e7, e8]
  obtain ⟨aq, cq, rfl, _, _, _⟩ := h3.rowForm vq
  refine h3.lit fact_rowTy_32 (cells := [.slice aq (queueS (kN k) ls).length cq]) rfl (by decide) (by decide) fun v3 w4 h4 => ?_
  simp -dsimp -implicitDefEqProofs (disch := omega) only [go_sem, reqD_of, dec_t, dec_f, wrap_i64, wrap_u32, wrap_u64, wrap_u8, e6]
  refine h4.appR (v := vR) (x := v3) fact_rowTy_32 Try.underlying32 (by simp [isCell]) (by simp) (by simp only [maxLen]; omega) (by omega) fun v4 w5 h5 => ?_
  simp -dsimp -implicitDefEqProofs (disch := omega) only [go_sem, reqD_of, dec_t, dec_f, wrap_i64, wrap_u32, wrap_u64, wrap_u8, hd, e0, e4, e5, e6, e7, e8]
  refine ⟨⟨k + 1, v4, _, by omega, by omega, rfl, hrs.push (.slice aq (queueS (kN k) ls).length cq), ?_⟩, by omega⟩
  rw [cellsV_cons]
  unfold rowsP
  exact St.ac (St.sub (B := RowO 34 1 v4 (k + 1) (cellsV rs ++ [.slice aq (queueS (kN k) ls).length cq]) * (TabP B ls ws * (RowO 3 1 (.slice aq (queueS (kN k) ls).length cq) (queueS (kN k) ls).length (intR (queueS (kN k) ls)) * (rowsP rs * F)))) h5) (by ac_rfl)

end
section
attribute [local go_sem] F5.t14_eq F5.t15_eq F5.t18_eq F5.t19_eq F5.t41_eq F5.t37_eq F5.t34_eq F5.t30_eq F5.t27_eq F5.t28_eq F5.t55_eq F5.t53_eq F5.t51_eq F5.t52_eq F5.t56_eq F5.t44_eq F5.t45_eq F5.t42_eq F5.t23_eq F5.t21_eq F5.t16_eq F5.t9_eq F5.t58_eq F5.t7_eq F5.t3_eq
theorem first_main {w0 w : World} {F : HP} {v0 : Value} {ms : List Mv} {e : FA} (h : St w0 F w) (hr : Ent F (Reads 4 v0 ms.length (ms.flatMap mvC))) (hm : ∀ m ∈ ms, MvOk m) (hlen : ms.length ≤ 1048576) (hd : e.ds = []) (e0 : e.ρ 0 = v0) :
    cwE Try.prog F5.t3 (fnP Try.prog #[.tmp 2] fun e w' => St w0 F w' ∧ e = .returned (.bool true)) e w := by
  obtain ⟨_, a, c, rfl, hnc, _⟩ := St.rowsAt (k := 4) mvC_length (by decide) (h.ent hr)
  rw [F5.t3_eq]
  simp -dsimp -implicitDefEqProofs (disch := omega) only [go_sem, reqD_of, dec_t, dec_f, wrap_i64, wrap_u32, wrap_u64, wrap_u8, hd, e0]
  refine (known_any h).mono ?_
  rintro e' w1 ⟨h1, rfl⟩
  simp -dsimp -implicitDefEqProofs (disch := omega) only [go_sem, reqD_of, dec_t, dec_f, wrap_i64, wrap_u32, wrap_u64, wrap_u8, hd, e0]
  refine (new_any h1).mono ?_
  rintro e' w2 ⟨B, h2, rfl⟩
  simp -dsimp -implicitDefEqProofs (disch := omega) only [go_sem, reqD_of, dec_t, dec_f, wrap_i64, wrap_u32, wrap_u64, wrap_u8, hd, e0]
  refine loop_intro (fun e w' => e.ds = [] ∧ e.ρ 0 = .slice a ms.length c ∧ e.ρ 4 = .pointer (some ⟨B, 0, none⟩) ∧ ∃ (i : Nat) (ls : List (Nam × LkS)) (ws : List (Int × Nee)), i ≤ ms.length ∧ e.ρ 5 = .int .i64 i ∧ Inv ls ws ∧ Few ls ∧ tot ls ≤ i ∧ ls.length ≤ i ∧ St w0 (TabP B ls ws * F) w')
    (fun e _ => match e.ρ 5 with | .int _ n => (ms.length - n).toNat | _ => 0) ?_ ?_
  · exact ⟨by simp -dsimp -implicitDefEqProofs only [go_sem, hd], by simp -dsimp -implicitDefEqProofs only [go_sem, e0], by simp -dsimp -implicitDefEqProofs only [go_sem], 0, [], [], by omega, by simp -dsimp -implicitDefEqProofs only [go_sem], Inv.start, fun x s hx => (by cases hx), by simp [tot], by simp, h2⟩
  rintro e w3 ⟨hd, e0, e4, i, ls, ws, hi, e5, v, f, hT, hL, h3⟩
  by_cases hlt : (i : Int) < ms.length
  case neg =>
    have : i = ms.length := by omega
    subst this
    simp -dsimp -implicitDefEqProofs (disch := omega) only [go_sem, reqD_of, dec_t, dec_f, wrap_i64, wrap_u32, wrap_u64, wrap_u8, hd, e0, e4, e5, hlt]
    exact h3.right
  have hil : i < ms.length := by omega
  have ht' := move_tot ms[i] ls ws
  simp -dsimp -implicitDefEqProofs (disch := omega) only [go_sem, reqD_of, dec_t, dec_f, wrap_i64, wrap_u32, wrap_u64, wrap_u8, hd, e0, e4, e5, hlt]
  refine first_10 (i := i) (m := ms[i]) v f (by omega) (by omega) hr (List.getElem?_eq_getElem hil) (hm _ (List.getElem_mem hil)) (by omega) (by simp -dsimp -implicitDefEqProofs only [go_sem, hd]) (by simp -dsimp -implicitDefEqProofs only [go_sem, e0]) (by simp -dsimp -implicitDefEqProofs only [go_sem, e4]) (by simp -dsimp -implicitDefEqProofs only [go_sem, e5]) h3 ?_
  intro e' w4 f0 f1 f2 f3 h4
  simp -dsimp -implicitDefEqProofs (disch := omega) only [go_sem, reqD_of, dec_t, dec_f, wrap_i64, wrap_u32, wrap_u64, wrap_u8, f0, f1, f2, f3, e5]
  exact ⟨⟨i + 1, _, _, by omega, by omega, v.move _, Few.move v f _, by omega, by omega, h4⟩, by omega⟩

end
section
attribute [local go_sem] F5.t14_eq F5.t15_eq F5.t18_eq F5.t19_eq F5.t41_eq F5.t37_eq F5.t34_eq F5.t30_eq F5.t27_eq F5.t28_eq F5.t55_eq F5.t53_eq F5.t51_eq F5.t52_eq F5.t56_eq F5.t44_eq F5.t45_eq F5.t42_eq F5.t23_eq F5.t21_eq F5.t16_eq F5.t9_eq F5.t10_eq F5.t58_eq F5.t7_eq
theorem locksFirst_any {w0 w : World} {F : HP} {v0 : Value} {ms : List Mv} (h : St w0 F w) (hr : Ent F (Reads 4 v0 ms.length (ms.flatMap mvC))) (hm : ∀ m ∈ ms, MvOk m) :
    Calls Try.prog 5 #[v0] w fun e w' => St w0 F w' ∧ e = .returned (.bool true) := by
  obtain ⟨_, a, c, rfl, hnc, _⟩ := St.rowsAt (k := 4) mvC_length (by decide) (h.ent hr)
  refine F5.calls (by simp) ?_
  unfold F5.code
  by_cases hlt : (1048576 : Int) < ms.length
  · simp -dsimp -implicitDefEqProofs (disch := omega) only [go_sem, reqD_of, dec_t, dec_f, wrap_i64, wrap_u32, wrap_u64, wrap_u8, hlt]
    have h2 := hr.trans (Reads.takeK (k := 1048576) (by omega))
    rw [flatMap_take mvC_length] at h2
    have hl : (ms.take 1048576).length = 1048576 := by rw [List.length_take]; omega
    exact first_main (ms := ms.take 1048576) (v0 := .slice (if c = 0 then a else Option.map (fun x => x) a) 1048576 (c - 0)) h (by rw [hl]; exact h2) (fun m hm' => hm m (List.mem_of_mem_take hm')) (by omega) (by simp -dsimp -implicitDefEqProofs only [go_sem]) (by simp -dsimp -implicitDefEqProofs only [go_sem])
  · simp -dsimp -implicitDefEqProofs (disch := omega) only [go_sem, reqD_of, dec_t, dec_f, wrap_i64, wrap_u32, wrap_u64, wrap_u8, hlt]
    exact first_main h hr hm (by omega) (by simp -dsimp -implicitDefEqProofs only [go_sem]) (by simp -dsimp -implicitDefEqProofs only [go_sem])

end
end Go.Proofs.Ytacmnfpgimgigaa

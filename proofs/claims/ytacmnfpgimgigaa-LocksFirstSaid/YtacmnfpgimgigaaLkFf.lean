/- LocksFirst: one step that went through. -/
import Derived.Test.YtacmnfpgimgigaaLkFe
import Derived.Test.YtacmnfpgimgigaaLkX
namespace Go.Proofs.Ytacmnfpgimgigaa
open Go
set_option linter.unusedSimpArgs false
set_option linter.unusedVariables false
set_option maxRecDepth 100000

def wantsL (ws : List (Int × Nee)) (n : Nat) : List Nee := (List.range n).map fun u : Nat => (agt (1 + (u : Int)) ws).getD noNeed
theorem wantsL_length (ws : List (Int × Nee)) (n : Nat) : (wantsL ws n).length = n := by simp [wantsL]

section
attribute [local go_sem] F5.t14_eq F5.t15_eq F5.t18_eq F5.t19_eq F5.t41_eq F5.t37_eq F5.t34_eq F5.t30_eq F5.t27_eq F5.t28_eq F5.t55_eq F5.t53_eq F5.t51_eq F5.t52_eq F5.t56_eq F5.t44_eq F5.t42_eq F5.t23_eq F5.t21_eq F5.t16_eq F5.t9_eq F5.t10_eq F5.t58_eq F5.t7_eq F5.t3_eq
theorem first_42 {w0 w : World} {F : HP} {B i : Nat} {ls' : List (Nam × LkS)} {ws' : List (Int × Nee)} {v0 vR vA : Value} {gone : Int} {rs : List (Value × List Int)} {ats : List Int} {ms : List Mv} {m : Mv} {Q : Post} {e : FA} {θ : Tag (F5.t42, Q, e, w)}
    (hT : tot ls' < 1073741824) (hr : Ent F (Reads 4 v0 ms.length (ms.flatMap mvC))) (hi : ms[i]? = some m) (hm : MvOk m) (hmi : i < 1073741824)
    (hfin : ∀ k, k < 6 → ∃ v row a, rs.reverse[k]? = some (v, row) ∧ ats[k]? = some ((a : Nat) : Int) ∧ row.length < 1073741824 ∧ FinRow gone (pickI m.1 4) row a (queueS (kN k) ls'))
    (hs : S5 e v0 B i vR gone vA) (h : St w0 (G5 B ls' ws' vR vA rs ats F) w)
    (hQ : ∀ (e' : FA) (w' : World), S5 e' v0 B i vR gone vA → St w0 (G5 B ls' ws' vR vA rs ats F) w' → Q .normal e' w') :
    cwE Try.prog F5.t42 Q e w θ := by
  obtain ⟨hd, e0, e4, e5, e6, e14, e15⟩ := hs
  rw [F5.t42_eq]
  simp -dsimp -implicitDefEqProofs (disch := omega) only [go_sem, reqD_of, dec_t, dec_f, wrap_i64, wrap_u32, wrap_u64, wrap_u8, hd, e0, e4, e5, e6, e14, e15]
  refine loop_intro (fun e w' => S5 e v0 B i vR gone vA ∧ ∃ k : Nat, k ≤ 6 ∧ e.ρ 23 = .int .i64 k ∧ St w0 (G5 B ls' ws' vR vA rs ats F) w')
    (fun e _ => match e.ρ 23 with | .int _ n => (6 - n).toNat | _ => 0) ?_ ?_
  · exact ⟨⟨by simp -dsimp -implicitDefEqProofs only [go_sem, hd], by simp -dsimp -implicitDefEqProofs only [go_sem, e0], by simp -dsimp -implicitDefEqProofs only [go_sem, e4], by simp -dsimp -implicitDefEqProofs only [go_sem, e5], by simp -dsimp -implicitDefEqProofs only [go_sem, e6], by simp -dsimp -implicitDefEqProofs only [go_sem, e14], by simp -dsimp -implicitDefEqProofs only [go_sem, e15]⟩, 0, by omega, by simp -dsimp -implicitDefEqProofs only [go_sem], h⟩
  rintro e w1 ⟨hs, k, hk, e23, h1⟩
  by_cases hlt : (k : Int) < 6
  case neg =>
    obtain ⟨hd, e0, e4, e5, e6, e14, e15⟩ := hs
    simp -dsimp -implicitDefEqProofs (disch := omega) only [go_sem, reqD_of, dec_t, dec_f, wrap_i64, wrap_u32, wrap_u64, wrap_u8, e23, hlt]
    exact hQ _ _ ⟨by simp -dsimp -implicitDefEqProofs only [go_sem, hd], by simp -dsimp -implicitDefEqProofs only [go_sem, e0], by simp -dsimp -implicitDefEqProofs only [go_sem, e4], by simp -dsimp -implicitDefEqProofs only [go_sem, e5], by simp -dsimp -implicitDefEqProofs only [go_sem, e6], by simp -dsimp -implicitDefEqProofs only [go_sem, e14], by simp -dsimp -implicitDefEqProofs only [go_sem, e15]⟩ h1
  obtain⟨v, row, a, f1, f2, f3, f4⟩ := hfin k (by omega)
  obtain ⟨hd, e0, e4, e5, e6, e14, e15⟩ := hs
  simp -dsimp -implicitDefEqProofs (disch := omega) only [go_sem, reqD_of, dec_t, dec_f, wrap_i64, wrap_u32, wrap_u64, wrap_u8, e23, hlt]
  refine first_45 (B := B) (v0 := v0) (i := i) (vR := vR) (vA := vA) (gone := gone) (v := v) (row := row) (at' := a) hT hr hi hm (by omega) f1 f2 f3 hmi f4 ⟨by simp -dsimp -implicitDefEqProofs only [go_sem, hd], by simp -dsimp -implicitDefEqProofs only [go_sem, e0], by simp -dsimp -implicitDefEqProofs only [go_sem, e4], by simp -dsimp -implicitDefEqProofs only [go_sem, e5], by simp -dsimp -implicitDefEqProofs only [go_sem, e6], by simp -dsimp -implicitDefEqProofs only [go_sem, e14], by simp -dsimp -implicitDefEqProofs only [go_sem, e15]⟩ (by simp -dsimp -implicitDefEqProofs only [go_sem, e23]) h1 ?_
  intro e' w' hs' e23' h'
  simp -dsimp -implicitDefEqProofs (disch := omega) only [go_sem, reqD_of, dec_t, dec_f, wrap_i64, wrap_u32, wrap_u64, wrap_u8, e23, e23']
  exact ⟨⟨hs', k + 1, by omega, by omega, h'⟩, by omega⟩

end
section
attribute [local go_sem] F5.t14_eq F5.t15_eq F5.t18_eq F5.t19_eq F5.t41_eq F5.t37_eq F5.t34_eq F5.t30_eq F5.t27_eq F5.t55_eq F5.t53_eq F5.t51_eq F5.t52_eq F5.t56_eq F5.t44_eq F5.t45_eq F5.t23_eq F5.t21_eq F5.t16_eq F5.t9_eq F5.t10_eq F5.t58_eq F5.t7_eq F5.t3_eq
theorem first_23 {w0 w : World} {F : HP} {B i : Nat} {ls ls' : List (Nam × LkS)} {ws ws' : List (Int × Nee)} {v0 vR vW vIn : Value} {rs : List (Value × List Int)} {ms : List Mv} {m : Mv} {l : List Claim} {Q : Post} {e : FA} {θ : Tag (F5.t23, Q, e, w)}
    (v : Inv ls ws) (f : Few ls) (hR : moveS m ls ws = ((l, true), ls', ws')) (hT : tot ls < 1073741824) (hT' : tot ls' < 1073741824) (hL' : ls'.length < 1073741824) (hr : Ent F (Reads 4 v0 ms.length (ms.flatMap mvC))) (hi : ms[i]? = some m) (hm : MvOk m) (hmi : i < 1073741824)
    (hrows : ∀ k, k < 6 → ∃ v, rs.reverse[k]? = some (v, queueS (kN k) ls)) (hll : l.length ≤ 9223372036854775807)
    (hd : e.ds = []) (e0 : e.ρ 0 = v0) (e4 : e.ρ 4 = .pointer (some ⟨B, 0, none⟩)) (e5 : e.ρ 5 = .int .i64 i) (e6 : e.ρ 6 = vR) (e7 : e.ρ 7 = vW) (e12 : e.ρ 12 = vIn)
    (h : St w0 (TabP B ls' ws' * (RowO 34 1 vR 6 (cellsV rs) * (rowsP rs * F6 vIn l vW (wantsL ws 8) F))) w)
    (hQ : ∀ (e' : FA) (w' : World), e'.ds = [] → e'.ρ 0 = v0 → e'.ρ 4 = .pointer (some ⟨B, 0, none⟩) → e'.ρ 5 = .int .i64 i → St w0 (TabP B ls' ws' * F) w' → Q .normal e' w') :
    cwE Try.prog F5.t23 Q e w θ := by
  have hq : ∀ k, (queueS (kN k) ls).length < 1073741824 := fun k => by
    have := queueS_length (kN k) ls
    have := tot_agt (x := kN k) (ls := ls)
    omega
  have hF6 : Ent (F6 vIn l vW (wantsL ws 8) F) F := (Ent.right _ _).trans (Ent.right _ _)
  have hF6' : Ent (F6 vIn l vW (wantsL ws 8) F) (Reads 1 vIn l.length (intR (l.map (·.1)))) := (Ent.left _ _).trans (RowO.reads _ _ _ _ _)
  obtain ⟨_, am, cm, rfl, _, hcm⟩ := St.rowsAt (k := 4) mvC_length (by decide) ((h.right.right.right.ent hF6).ent hr)
  obtain ⟨him, hmi2⟩ := List.getElem?_eq_some_iff.1 hi
  obtain ⟨bm, om, rfl, _, hcell⟩ := hcm i him
  have c1 := hcell 1 (by decide)
  rw [hmi2] at c1
  simp only [mvC, Nat.add_zero, List.getElem?_cons_succ, List.getElem?_cons_zero] at c1
  obtain ⟨_, aI, cI, rfl, _, _⟩ := St.readAt (h.right.right.right.ent hF6')
  have hp8 := pickI_range (c := m.2.1) (n := 8) (by decide)
  rw [F5.t23_eq]
  simp -dsimp -implicitDefEqProofs (disch := omega) only [go_sem, reqD_of, dec_t, dec_f, wrap_i64, wrap_u32, wrap_u64, wrap_u8, hd, e0, e4, e5, e6, e7, e12, c1]
  refine (pick_any (c := m.2.1) (n := 8) h hm.2.1 (by decide)).mono ?_
  rintro e' w1 ⟨h1, rfl⟩
  simp -dsimp -implicitDefEqProofs (disch := omega) only [go_sem, reqD_of, dec_t, dec_f, wrap_i64, wrap_u32, wrap_u64, wrap_u8, hd, e0, e4, e5, e6, e7, e12]
  refine h1.make1 fact_rowTy_34 (n := 6) (c := 6) (by omega) (by omega) (by omega) fun b w2 h2 => ?_
  simp -dsimp -implicitDefEqProofs (disch := omega) only [go_sem, reqD_of, dec_t, dec_f, wrap_i64, wrap_u32, wrap_u64, wrap_u8, hd, e0, e4, e5, e6, e7, e12]
  refine loop_intro (fun e w' => S6 e (.slice (some ⟨bm, om, none⟩) ms.length cm) B i vR vW (.slice aI l.length cI) (mvWho m) (.slice (some ⟨b, 0, none⟩) 6 6) ∧ ∃ (j : Nat) (ats : List Int), j ≤ l.length ∧ e.ρ 16 = .int .i64 j ∧ ats.length = 6 ∧ (∀ k, k < 6 → ∃ a : Nat, ats[k]? = some (a : Int) ∧ PtrOk (mvWho m) ls ws (l.take j) k a) ∧
      St w0 (G5 B ls' ws' vR (.slice (some ⟨b, 0, none⟩) 6 6) rs ats (F6 (.slice aI l.length cI) l vW (wantsL ws 8) F)) w')
    (fun e _ => match e.ρ 16 with | .int _ n => (l.length - n).toNat | _ => 0) ?_ ?_
  · refine ⟨⟨⟨by simp -dsimp -implicitDefEqProofs only [go_sem, hd], by simp -dsimp -implicitDefEqProofs only [go_sem, e0], by simp -dsimp -implicitDefEqProofs only [go_sem, e4], by simp -dsimp -implicitDefEqProofs only [go_sem, e5], by simp -dsimp -implicitDefEqProofs only [go_sem, e6], by simp -dsimp -implicitDefEqProofs only [go_sem]; rfl, by simp -dsimp -implicitDefEqProofs only [go_sem]⟩, by simp -dsimp -implicitDefEqProofs only [go_sem, e7], by simp -dsimp -implicitDefEqProofs only [go_sem, e12]⟩, 0, List.replicate 6 0, by omega, by simp -dsimp -implicitDefEqProofs only [go_sem], rfl, fun k hk => ⟨0, ?_, ptr_start _ k⟩, ?_⟩
    · rw [List.getElem?_replicate, if_pos hk]; rfl
    · exact h2
  rintro e w3 ⟨⟨hs, e7, e12⟩, j, ats, hj, e16, hal, hptr, h3⟩
  by_cases hlt : (j : Int) < l.length
  case neg =>
    have : j = l.length := by omega
    subst this
    rw [List.take_length] at hptr
    obtain ⟨hd, e0, e4, e5, e6, e14, e15⟩ := hs
    simp -dsimp -implicitDefEqProofs (disch := omega) only [go_sem, reqD_of, dec_t, dec_f, wrap_i64, wrap_u32, wrap_u64, wrap_u8, e12, e16, hlt]
    refine first_42 (B := B) (i := i) (v0 := .slice (some ⟨bm, om, none⟩) ms.length cm) (vR := vR) (vA := .slice (some ⟨b, 0, none⟩) 6 6) (gone := mvWho m) hT' (hF6.trans hr) hi hm hmi ?_ ⟨by simp -dsimp -implicitDefEqProofs only [go_sem, hd], by simp -dsimp -implicitDefEqProofs only [go_sem, e0], by simp -dsimp -implicitDefEqProofs only [go_sem, e4], by simp -dsimp -implicitDefEqProofs only [go_sem, e5], by simp -dsimp -implicitDefEqProofs only [go_sem, e6], by simp -dsimp -implicitDefEqProofs only [go_sem, e14], by simp -dsimp -implicitDefEqProofs only [go_sem, e15]⟩ h3 ?_
    · intro k hk
      obtain ⟨v1, hv1⟩ := hrows k hk
      obtain ⟨a, ha, hp⟩ := hptr k hk
      exact ⟨v1, _, a, hv1, ha, hq k, fin_row v f hR hp⟩
    · rintro e' w' ⟨f0, f1, f2, f3, f4, f5, f6⟩ h'
      have h'' : St w0 (RowO 3 1 (.slice (some ⟨b, 0, none⟩) 6 6) 6 (intR ats) * (TabP B ls' ws' * (RowO 34 1 vR 6 (cellsV rs) * (rowsP rs * (RowO 3 1 (.slice aI l.length cI) l.length (intR (l.map (·.1))) * (RowO 38 4 vW 8 ((wantsL ws 8).flatMap needC) * F)))))) w' := h'
      exact hQ _ _ f0 f1 f2 f3 h''.sub
  have hjl : j < l.length := by omega
  have hc : l[j] ∈ l := List.getElem_mem hjl
  obtain ⟨u, k, hu, hk, hcu, hag, hne, hheld, hwt⟩ := step_in v f hR hc
  obtain ⟨v1, hv1⟩ := hrows k hk
  obtain ⟨a, ha, hp⟩ := hptr k hk
  have hsp : l = l.take j ++ l[j] :: l.drop (j + 1) := by rw [← List.drop_eq_getElem_cons hjl, List.take_append_drop]
  obtain ⟨q1, q2, q3⟩ := ptr_step v f hR hsp hag hp
  have hcell : l[j]? = some (1 + (u : Int), l[j].2) := by rw [List.getElem?_eq_getElem hjl, ← hcu]
  have htk : l.take (j + 1) = l.take j ++ [l[j]] := List.take_succ_eq_append_getElem hjl
  rw [hcu] at q1 q2 hag hne hheld hwt
  have hWu : (wantsL ws 8)[u]? = some (kN k, l[j].2) := by
    unfold wantsL
    rw [List.getElem?_map, List.getElem?_range hu]
    simp [hag]
  obtain ⟨hd, e0, e4, e5, e6, e14, e15⟩ := hs
  simp -dsimp -implicitDefEqProofs (disch := omega) only [go_sem, reqD_of, dec_t, dec_f, wrap_i64, wrap_u32, wrap_u64, wrap_u8, e12, e16, hlt]
  refine first_28 (B := B) (i := i) (v0 := .slice (some ⟨bm, om, none⟩) ms.length cm) (vR := vR) (bA := b) (oA := 0) (cA := 6) (vW := vW) (vIn := .slice aI l.length cI) (gone := mvWho m) (ls := ls') (ws := ws') (v := v1) (row := queueS (kN k) ls) (at' := a) (j := j) (u := u) (k := k) hT' hL' hcell hu (by omega) hk hv1 ha (hq k) ⟨q1, q2⟩ hne hWu (wantsL_length _ _) hheld hwt ⟨⟨by simp -dsimp -implicitDefEqProofs only [go_sem, hd], by simp -dsimp -implicitDefEqProofs only [go_sem, e0], by simp -dsimp -implicitDefEqProofs only [go_sem, e4], by simp -dsimp -implicitDefEqProofs only [go_sem, e5], by simp -dsimp -implicitDefEqProofs only [go_sem, e6], by simp -dsimp -implicitDefEqProofs only [go_sem, e14], by simp -dsimp -implicitDefEqProofs only [go_sem, e15]⟩, by simp -dsimp -implicitDefEqProofs only [go_sem, e7], by simp -dsimp -implicitDefEqProofs only [go_sem, e12]⟩ (by simp -dsimp -implicitDefEqProofs only [go_sem, e16]) hal h3 ?_
  intro e' w' hs' e16' h'
  simp -dsimp -implicitDefEqProofs (disch := omega) only [go_sem, reqD_of, dec_t, dec_f, wrap_i64, wrap_u32, wrap_u64, wrap_u8, e16, e16']
  refine ⟨⟨hs', j + 1, _, by omega, by omega, by rw [List.length_set]; exact hal, ?_, h'⟩, by omega⟩
  intro k' hk'
  by_cases hkk : k' = k
  · subst hkk
    refine ⟨_, by rw [List.getElem?_set_self (by omega)], ?_⟩
    rw [htk]; exact q3
  · obtain ⟨a', ha', hp'⟩ := hptr k' hk'
    refine ⟨a', by rw [List.getElem?_set_ne (fun e => hkk e.symm)]; exact ha', ?_⟩
    rw [htk]; exact ptr_other (by rw [hcu]; exact hag) hkk hp'

end
end Go.Proofs.Ytacmnfpgimgigaa

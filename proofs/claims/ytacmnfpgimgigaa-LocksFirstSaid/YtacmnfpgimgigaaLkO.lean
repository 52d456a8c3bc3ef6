/- The table of locks: Leave's walk. -/
import Derived.Test.YtacmnfpgimgigaaLkN
namespace Go.Proofs.Ytacmnfpgimgigaa
open Go
set_option linter.unusedSimpArgs false
set_option linter.unusedVariables false
set_option maxRecDepth 100000

theorem needC_length (n : Nee) : (needC n).length = 4 := rfl

theorem lkQ_q (b : Nat) (v1 v2 : Value) (hs q : List Claim) : LkQ b v1 v2 hs q = RowO 74 2 v2 q.length (clR q) * (Blk b (.cells #[v1, v2] 71 (0, 0)) * RowO 74 2 v1 hs.length (clR hs)) := by unfold LkQ; ac_rfl

instance (B : Nat) (ls : List (Nam × LkS)) (ws : List (Int × Nee)) : Face (.obj B) (TabP B ls ws) := ⟨⟩

section
attribute [local go_sem] F24.t13_eq F24.t10_eq F24.t14_eq
theorem leave_tail {w0 w : World} {F : HP} {B W : Nat} {ls : List (Nam × LkS)} {ws : List (Int × Nee)} {who : Int} {l : List Claim} {v : Value} {e : FA}
    (h : St w0 (RowO 3 1 v l.length (intR (l.map (·.1))) * (TabP B ls ws * (Blk W (.cells #[.int .i64 who] 3 (0, 0)) * F))) w) (hd : e.ds = []) (e0 : e.ρ 0 = .pointer (some ⟨B, 0, none⟩)) (e3 : e.ρ 3 = .pointer (some ⟨W, 0, none⟩)) (e5 : e.ρ 5 = v)
    (hT : tot ls < 1099511627776) (hL : ls.length < 1099511627776) (hQ : l.length + totQ ls < 1099511627776) :
    cwE Try.prog F24.t8 (fnP Try.prog #[.tmp 4] fun e w' => ∃ v', St w0 (RowO 3 1 v' (l ++ (leaveL who (heldS who ls) ls ws).1).length (intR ((l ++ (leaveL who (heldS who ls) ls ws).1).map (·.1))) * (TabP B (leaveL who (heldS who ls) ls ws).2.1 (leaveL who (heldS who ls) ls ws).2.2 * F)) w' ∧ e = .returned v') e w := by
  rw [F24.t8_eq]
  have hHl : (heldS who ls).length ≤ ls.length := by unfold heldS heldL; rw [List.length_mergeSort]; exact List.length_filterMap_le _ _
  have hW := h.cl W
  simp -dsimp -implicitDefEqProofs (disch := omega) only [go_sem, reqD_of, dec_t, dec_f, wrap_i64, wrap_u32, wrap_u64, wrap_u8, hd, e0, e3, e5, hW]
  refine (held_any h.sw2 (fun p hp => by have := tot_mem hp; omega) hL).mono ?_
  rintro e' w1 ⟨vL, h1, rfl⟩
  obtain ⟨_, aL, cL, hv, _, _⟩ := St.rowsAt (k := 4) needC_length (by decide) (h1.gives (B := Reads 4 vL (heldS who ls).length ((heldS who ls).flatMap needC)))
  subst hv
  simp -dsimp -implicitDefEqProofs (disch := omega) only [go_sem, reqD_of, dec_t, dec_f, wrap_i64, wrap_u32, wrap_u64, wrap_u8, hd, e0, e3, e5]
  refine loop_intro (fun e w' => e.ds = [] ∧ e.ρ 0 = .pointer (some ⟨B, 0, none⟩) ∧ e.ρ 3 = .pointer (some ⟨W, 0, none⟩) ∧ e.ρ 50 = .slice aL (heldS who ls).length cL ∧ e.ρ 51 = .int .i64 (heldS who ls).length ∧
      ∃ (k : Nat) (v : Value) (lk : List Claim) (lsk : List (Nam × LkS)) (wsk : List (Int × Nee)), k ≤ (heldS who ls).length ∧ e.ρ 52 = .int .i64 k ∧ e.ρ 5 = v ∧ l ++ (leaveL who (heldS who ls) ls ws).1 = lk ++ (leaveL who ((heldS who ls).drop k) lsk wsk).1 ∧ (leaveL who (heldS who ls) ls ws).2 = (leaveL who ((heldS who ls).drop k) lsk wsk).2 ∧
      tot lsk < 1099511627776 ∧ lsk.length < 1099511627776 ∧ lk.length + totQ lsk < 1099511627776 ∧
      St w0 (RowO 3 1 v lk.length (intR (lk.map (·.1))) * (TabP B lsk wsk * (RowO 38 4 (.slice aL (heldS who ls).length cL) (heldS who ls).length ((heldS who ls).flatMap needC) * (Blk W (.cells #[.int .i64 who] 3 (0, 0)) * F)))) w')
    (fun e _ => match e.ρ 52 with | .int _ n => ((heldS who ls).length - n).toNat | _ => 0) ?_ ?_
  · refine ⟨by simp -dsimp -implicitDefEqProofs only [go_sem, hd], by simp -dsimp -implicitDefEqProofs only [go_sem, e0], by simp -dsimp -implicitDefEqProofs only [go_sem, e3], by simp -dsimp -implicitDefEqProofs only [go_sem], by simp -dsimp -implicitDefEqProofs only [go_sem], 0, v, l, ls, ws, by omega, by simp -dsimp -implicitDefEqProofs only [go_sem], by simp -dsimp -implicitDefEqProofs only [go_sem, e5], rfl, rfl, hT, hL, hQ, ?_⟩
    exact h1.sub
  rintro e w2 ⟨hd, e0, e3, e50, e51, k, v, lk, lsk, wsk, hk, e52, e5, hr1, hr2, hTk, hLk, hQk, h2⟩
  by_cases hlt : (k : Int) < (heldS who ls).length
  case neg =>
    have : k = (heldS who ls).length := by omega
    subst this
    simp -dsimp -implicitDefEqProofs (disch := omega) only [go_sem, reqD_of, dec_t, dec_f, wrap_i64, wrap_u32, wrap_u64, wrap_u8, hd, e0, e3, e5, e50, e51, e52, hlt]
    rw [List.drop_length] at hr1 hr2
    simp only [leaveL, List.append_nil] at hr1 hr2
    refine ⟨v, ?_, rfl⟩
    rw [hr1, hr2]
    exact h2.sub
  have hkl : k < (heldS who ls).length := by omega
  obtain ⟨_, _, _, hv, _, hcl⟩ := St.rowsAt (k := 4) needC_length (by decide) (h2.gives (B := Reads 4 (.slice aL (heldS who ls).length cL) (heldS who ls).length ((heldS who ls).flatMap needC)))
  simp only [Value.slice.injEq, true_and] at hv
  obtain ⟨rfl, rfl⟩ := hv
  obtain ⟨g, o, rfl, hrow, _⟩ := hcl k hkl
  generalize hn : (heldS who ls)[k] = n at hrow
  simp -dsimp -implicitDefEqProofs (disch := omega) only [go_sem, reqD_of, dec_t, dec_f, wrap_i64, wrap_u32, wrap_u64, wrap_u8, hd, e0, e3, e5, e50, e51, e52, hlt, hrow]
  refine h2.new fun X w3 h3 => ?_
  simp -dsimp -implicitDefEqProofs (disch := omega) only [go_sem, reqD_of, dec_t, dec_f, wrap_i64, wrap_u32, wrap_u64, wrap_u8]
  refine h3.stoAll (cs := needC n) rfl rfl (needC_cells _) fun w4 h4 => ?_
  have hX : rowV w4 ⟨X, 0, none⟩ 3 = some (namV n.1) := h4.rowAtH X 0 3 (by simp [needC])
  have hW4 := h4.cl W
  simp -dsimp -implicitDefEqProofs (disch := omega) only [go_sem, reqD_of, dec_t, dec_f, wrap_i64, wrap_u32, wrap_u64, wrap_u8, hd, e0, e3, e5, e50, e51, e52, hX, hW4]
  have hft := freeS_tot who n.1 lsk wsk
  generalize hF : freeS who n.1 lsk wsk = R0 at hft
  obtain ⟨⟨l1, er⟩, ls1, ws1⟩ := R0
  simp only at hft
  have hlock := tot_agt (x := n.1) (ls := lsk)
  obtain ⟨R, hR, h5⟩ := h4.out (.obj B)
  refine (free_any h5 hF (by omega)).mono ?_
  rintro e' w5 ⟨v1, h6, rfl⟩
  rw [← hR] at h6
  simp -dsimp -implicitDefEqProofs (disch := omega) only [go_sem, reqD_of, dec_t, dec_f, wrap_i64, wrap_u32, wrap_u64, wrap_u8, hd, e0, e3, e5, e50, e51, e52]
  refine h6.appR (v := v) (x := v1) fact_rowTy_34 Try.underlying34 (intR_cells _) (by simp [intR]) (by simp only [maxLen]; omega) (by omega) fun v2 w6 h7 => ?_
  simp -dsimp -implicitDefEqProofs (disch := omega) only [go_sem, reqD_of, dec_t, dec_f, wrap_i64, wrap_u32, wrap_u64, wrap_u8, hd, e0, e3, e5, e50, e51, e52]
  rw [List.drop_eq_getElem_cons hkl, hn] at hr1 hr2
  simp only [leaveL, hF] at hr1 hr2
  refine ⟨⟨k + 1, v2, lk ++ l1, ls1, ws1, by omega, by omega, rfl, by rw [hr1, List.append_assoc], hr2, by omega, by omega, by rw [List.length_append]; omega, ?_⟩, by omega⟩
  have hin : intR (lk.map (·.1)) ++ intR (l1.map (·.1)) = intR ((lk ++ l1).map (·.1)) := by simp [intR]
  rw [hin, ← List.length_append] at h7
  exact h7.sub

theorem TabP.col {w0 w : World} {A R1 R2 R3 R4 : HP} {B m1 m2 : Nat} {ps : Ptrs} {ls : List (Nam × LkS)} {ws : List (Int × Nee)} (h : St w0 A w) (hps : amap (·.2) ps = ls) [i1 : Pull A (Blk B (.cells #[.map (some m1), .map (some m2)] 66 (0, 0))) R1] [i2 : Pull R1 (MapP namV m1 (amap ptrV ps)) R2] [i3 : Pull R2 (MapP encI m2 (amap needV ws)) R3] [i4 : Pull R3 (lksP ps) R4] :
    St w0 (TabP B ls ws * R4) w := by
  have h1 : St w0 (TabQ B m1 m2 ps ws * R4) w := h.ac (by rw [i1.eq, i2.eq, i3.eq, i4.eq, TabQ_eq]; ac_rfl)
  exact h1.ent (Ent.sep (TabQ.shut B m1 m2 ps ws hps) (Ent.rfl' R4))
theorem lks_shut {ps : Ptrs} {x : Nam} {b : Nat} {s s' : LkS} (hk : agt x ps = some (b, s)) : LkP b s' * lksP (adel x ps) = lksP (aset x (b, s') ps) := (stars_aset (fun p : Nam × (Nat × LkS) => LkP p.2.1 p.2.2) x (b, s) (b, s') ps hk).symm
theorem ptr_aset {ps : Ptrs} {x : Nam} {b : Nat} {s s' : LkS} (hk : agt x ps = some (b, s)) : amap ptrV ps = amap ptrV (aset x (b, s') ps) := (amap_aset_same ptrV x (b, s) (b, s') rfl ps hk).symm

end
section
attribute [local go_sem] F24.t13_eq F24.t10_eq F24.t14_eq
theorem leave_any {w0 w : World} {F : HP} {B : Nat} {ls : List (Nam × LkS)} {ws : List (Int × Nee)} {who : Int} (h : St w0 (TabP B ls ws * F) w) (hw : ∀ n, agt who ws = some n → ∃ s, agt n.1 ls = some s) (hT : tot ls < 1099511627776) (hL : ls.length < 1099511627776) :
    Calls Try.prog 24 #[.pointer (some ⟨B, 0, none⟩), .int .i64 who] w fun e w' => ∃ v', St w0 (RowO 3 1 v' (leaveS who ls ws).1.length (intR ((leaveS who ls ws).1.map (·.1))) * (TabP B (leaveS who ls ws).2.1 (leaveS who ls ws).2.2 * F)) w' ∧ e = .returned v' := by
  refine F24.calls (by simp) ?_
  unfold F24.code
  have hQ := totQ_le_tot ls
  have hlt1 := leave1_tot who ls ws
  simp -dsimp -implicitDefEqProofs (disch := omega) only [go_sem, reqD_of, dec_t, dec_f, wrap_i64, wrap_u32, wrap_u64, wrap_u8]
  refine h.new fun W w1 h1 => ?_
  obtain ⟨m1, m2, ps, hps, h2⟩ := TabP.open h1.drew.sw2
  rw [TabQ_eq] at h2
  have h2c := h2.cl
  simp -dsimp -implicitDefEqProofs (disch := omega) only [go_sem, reqD_of, dec_t, dec_f, wrap_i64, wrap_u32, wrap_u64, wrap_u8, h2.cl]
  refine h2.lkH (b := m2) Try.underlying64 lawI zeroV38 ?_
  have hlkv : lkV (needV ((0, 0, 0), false)) true (lk who (amap needV ws)) = .tuple #[needV ((agt who ws).getD ((0, 0, 0), false)), .bool (agt who ws).isSome] := by rw [lk_amap, lkV_get]
  generalize hnn : (agt who ws).getD ((0, 0, 0), false) = n at hlkv
  simp -dsimp -implicitDefEqProofs (disch := omega) only [go_sem, reqD_of, dec_t, dec_f, wrap_i64, wrap_u32, wrap_u64, wrap_u8, hlkv]
  refine h2.new fun N w2 h3 => ?_
  simp -dsimp -implicitDefEqProofs (disch := omega) only [go_sem, reqD_of, dec_t, dec_f, wrap_i64, wrap_u32, wrap_u64, wrap_u8, h3.cl]
  refine ⟨h3.lkH (b := m2) Try.underlying64 lawI zeroV38 hlkv, ?_⟩
  refine h3.stoAll (cs := needC n) rfl rfl (needC_cells _) fun w3 h4 => ?_
  cases hag : agt who ws with
  | none =>
    have hl1 : leave1 who ls ws = ([], ls, ws) := by simp [leave1, hag]
    simp -dsimp -implicitDefEqProofs (disch := omega) only [go_sem, reqD_of, dec_t, dec_f, wrap_i64, wrap_u32, wrap_u64, wrap_u8, Option.isSome_none]
    have h5 := (TabP.col (B := B) (m1 := m1) (m2 := m2) (ws := ws) h4 hps).nilR 3 1
    rw [show leaveS who ls ws = leaveL who (heldS who ls) ls ws by simp [leaveS, hl1]]
    exact leave_tail (W := W) (l := []) (v := .slice none 0 0) (show St w0 (RowO 3 1 (.slice none 0 0) 0 [] * (TabP B ls ws * (Blk W (.cells #[.int .i64 who] 3 (0, 0)) * F))) w3 from h5.sub) (by simp -dsimp -implicitDefEqProofs only [go_sem]) (by simp -dsimp -implicitDefEqProofs only [go_sem]) (by simp -dsimp -implicitDefEqProofs only [go_sem]) (by simp -dsimp -implicitDefEqProofs only [go_sem]) hT hL (by simp; omega)
  | some n' =>
    rw [hag] at hnn
    simp only [Option.getD_some] at hnn
    subst hnn
    have h4c := h4.drew
    have hN : rowV w3.drew ⟨N, 0, none⟩ 3 = some (namV n'.1) := h4c.rowAtH N 0 3 (by simp [needC])
    obtain ⟨s, hs⟩ := hw n' hag
    obtain ⟨b, hk⟩ : ∃ b, agt n'.1 ps = some (b, s) := by
      rw [← hps, agt_amap] at hs
      cases hk : agt n'.1 ps with
      | none => rw [hk] at hs; cases hs
      | some x => rw [hk] at hs; simp only [Option.map_some, Option.some.injEq] at hs; exact ⟨x.1, by rw [← hs]⟩
    have hsl := tot_mem (mem_of_agt hs)
    simp only at hsl
    simp -dsimp -implicitDefEqProofs (disch := omega) only [go_sem, reqD_of, dec_t, dec_f, wrap_i64, wrap_u32, wrap_u64, wrap_u8, Option.isSome_some, h4c.cl, hN]
    refine h4c.lkH (b := m1) Try.underlying63 lawN zeroV67 ?_
    rw [show lk n'.1 (amap ptrV ps) = some (ptrV (b, s)) by rw [lk_amap, hk]; rfl]
    rw [lks_open hk] at h4c
    obtain ⟨v1, v2, h5⟩ := LkP.openH (b := b) h4c
    unfold LkQ at h5
    simp -dsimp -implicitDefEqProofs (disch := omega) only [go_sem, reqD_of, dec_t, dec_f, wrap_i64, wrap_u32, wrap_u64, wrap_u8, lkV_some, ptrV, h5.cl]
    refine (deleteFunc_any (p := W) (T := 3) (who := who) (h5.take (.row v2)) Gives.ent (by omega)).mono ?_
    rintro e' w5 ⟨v2', h7, rfl⟩
    obtain ⟨a2, c2, rfl, _⟩ := h7.rowForm v2'
    simp -dsimp -implicitDefEqProofs (disch := omega) only [go_sem, reqD_of, dec_t, dec_f, wrap_i64, wrap_u32, wrap_u64, wrap_u8]
    refine h7.sto (by simp) rfl fun w6 h8 => ?_
    simp only [List.setIfInBounds_toArray, List.set_cons_succ, List.set_cons_zero] at h8
    have h9 := h8.drew
    simp -dsimp -implicitDefEqProofs (disch := omega) only [go_sem, reqD_of, dec_t, dec_f, wrap_i64, wrap_u32, wrap_u64, wrap_u8, h9.cl]
    refine h9.delH (b := m2) Try.underlying64 lawI fun w7 h10 => ?_
    rw [del_amap] at h10
    have hN7 : rowV w7 ⟨N, 0, none⟩ 3 = some (namV n'.1) := h10.rowAtH N 0 3 (by simp [needC])
    simp -dsimp -implicitDefEqProofs (disch := omega) only [go_sem, reqD_of, dec_t, dec_f, wrap_i64, wrap_u32, wrap_u64, wrap_u8, hN7]
    have h11 : St w0 (LkP b (s.1, notWho who s.2) * (lksP (adel n'.1 ps) * (Blk B (.cells #[.map (some m1), .map (some m2)] 66 (0, 0)) * (MapP namV m1 (amap ptrV ps) * (MapP encI m2 (amap needV (adel who ws)) * (Blk W (.cells #[.int .i64 who] 3 (0, 0)) * F)))))) w7 := by
      refine St.ent (A := LkQ b v1 (.slice a2 (notWho who s.2).length c2) s.1 (notWho who s.2) * (lksP (adel n'.1 ps) * (Blk B (.cells #[.map (some m1), .map (some m2)] 66 (0, 0)) * (MapP namV m1 (amap ptrV ps) * (MapP encI m2 (amap needV (adel who ws)) * (Blk W (.cells #[.int .i64 who] 3 (0, 0)) * F)))))) ?_ (Ent.sep (LkQ.shut _ _ _ _ _) (Ent.rfl' _))
      unfold LkQ
      have h12 : St w0 (Blk b (.cells #[v1, .slice a2 (notWho who s.2).length c2] 71 (0, 0)) * (RowO 74 2 v1 s.1.length (clR s.1) * (RowO 74 2 (.slice a2 (notWho who s.2).length c2) (notWho who s.2).length (clR (notWho who s.2)) * (lksP (adel n'.1 ps) * (Blk B (.cells #[.map (some m1), .map (some m2)] 66 (0, 0)) * (MapP namV m1 (amap ptrV ps) * (MapP encI m2 (amap needV (adel who ws)) * (Blk W (.cells #[.int .i64 who] 3 (0, 0)) * F)))))))) w7 := h10.sub
      exact h12.ac (by ac_rfl)
    rw [ptr_aset (s' := (s.1, notWho who s.2)) hk] at h11
    have h12 := h11.ac (show _ = (LkP b (s.1, notWho who s.2) * lksP (adel n'.1 ps)) * (Blk B (.cells #[.map (some m1), .map (some m2)] 66 (0, 0)) * (MapP namV m1 (amap ptrV (aset n'.1 (b, (s.1, notWho who s.2)) ps)) * (MapP encI m2 (amap needV (adel who ws)) * (Blk W (.cells #[.int .i64 who] 3 (0, 0)) * F)))) by ac_rfl)
    rw [lks_shut hk] at h12
    have h13 := TabP.col (B := B) (m1 := m1) (m2 := m2) (ws := adel who ws) (ls := aset n'.1 (s.1, notWho who s.2) ls) h12 (by have := aset_amap (fun q : Nat × LkS => q.2) n'.1 (b, (s.1, notWho who s.2)) ps; rw [hps] at this; exact this.symm)
    obtain ⟨⟨hs', q', l'⟩, hA⟩ : ∃ y, adm s.1 (notWho who s.2) = y := ⟨_, rfl⟩
    have hnl : (notWho who s.2).length ≤ s.2.length := List.length_filter_le _ _
    refine (admit_any h13 (agt_aset _ _ _) hA (show s.1.length + (notWho who s.2).length < _ by omega)).mono ?_
    rintro e' w8 ⟨v3, h14, rfl⟩
    have hl1 : leave1 who ls ws = (l', (if hs' = [] then adel n'.1 (aset n'.1 (s.1, notWho who s.2) ls) else aset n'.1 (hs', q') (aset n'.1 (s.1, notWho who s.2) ls)), delAll l' (adel who ws)) := by
      simp [leave1, hag, hs, turnS, hA]
    rw [hl1] at hlt1
    simp only at hlt1
    rw [show leaveS who ls ws = (l' ++ (leaveL who (heldS who (leave1 who ls ws).2.1) (leave1 who ls ws).2.1 (leave1 who ls ws).2.2).1, (leaveL who (heldS who (leave1 who ls ws).2.1) (leave1 who ls ws).2.1 (leave1 who ls ws).2.2).2) by unfold leaveS; rw [hl1], hl1]
    simp -dsimp -implicitDefEqProofs (disch := omega) only [go_sem, reqD_of, dec_t, dec_f, wrap_i64, wrap_u32, wrap_u64, wrap_u8]
    exact leave_tail (W := W) (l := l') (v := v3) h14.sub (by simp -dsimp -implicitDefEqProofs only [go_sem]) (by simp -dsimp -implicitDefEqProofs only [go_sem]) (by simp -dsimp -implicitDefEqProofs only [go_sem]) (by simp -dsimp -implicitDefEqProofs only [go_sem]) (by dsimp only; omega) (by dsimp only; omega) (by dsimp only; omega)

end
end Go.Proofs.Ytacmnfpgimgigaa

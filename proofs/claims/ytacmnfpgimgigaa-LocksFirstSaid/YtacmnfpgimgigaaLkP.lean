/- Holders; the laws' 'holds' and 'move'. -/
import Derived.Test.YtacmnfpgimgigaaLkO
namespace Go.Proofs.Ytacmnfpgimgigaa
open Go
set_option linter.unusedSimpArgs false
set_option linter.unusedVariables false
set_option maxRecDepth 100000

def holdersS (x : Nam) (ls : List (Nam × LkS)) : List Int := (((agt x ls).getD ([], [])).1.map (·.1)).mergeSort fun a b => decide (a ≤ b)

section
attribute [local go_sem] F34.t4_eq
theorem holders_any {w0 w : World} {F : HP} {B : Nat} {ls : List (Nam × LkS)} {ws : List (Int × Nee)} {x : Nam} (h : St w0 (TabP B ls ws * F) w) (hl : ((agt x ls).getD ([], [])).1.length < 1099511627776) :
    Calls Try.prog 34 #[.pointer (some ⟨B, 0, none⟩), namV x] w fun e w' => ∃ v, St w0 (RowO 3 1 v (holdersS x ls).length (intR (holdersS x ls)) * (TabP B ls ws * F)) w' ∧ e = .returned v := by
  refine F34.calls (by simp) ?_
  unfold F34.code
  simp -dsimp -implicitDefEqProofs (disch := omega) only [go_sem, reqD_of, dec_t, dec_f, wrap_i64, wrap_u32, wrap_u64, wrap_u8]
  refine h.new fun N w1 h1 => ?_
  obtain ⟨m1, m2, ps, hps, h2⟩ := TabP.open h1.drew.sw2
  rw [TabQ_eq] at h2
  have hN : rowV w1.drew ⟨N, 0, none⟩ 3 = some (namV x) := h2.rowH N 3 rfl
  simp -dsimp -implicitDefEqProofs (disch := omega) only [go_sem, reqD_of, dec_t, dec_f, wrap_i64, wrap_u32, wrap_u64, wrap_u8, h2.cl, hN]
  refine h2.lkH (b := m1) Try.underlying63 lawN zeroV67 ?_
  rw [lk_amap]
  cases hk : agt x ps with
  | none =>
    have hls : agt x ls = none := by rw [← hps, agt_amap, hk]; rfl
    have e0 : holdersS x ls = [] := by simp [holdersS, hls]
    rw [Option.map_none]
    simp -dsimp -implicitDefEqProofs (disch := omega) only [go_sem, reqD_of, dec_t, dec_f, wrap_i64, wrap_u32, wrap_u64, wrap_u8, lkV_none]
    refine ⟨_, ?_, rfl⟩
    rw [e0]
    exact ((TabP.col (B := B) (m1 := m1) (m2 := m2) (ws := ws) h2 hps).nilR 3 1).sub (B := RowO 3 1 (.slice none 0 0) 0 [] * (TabP B ls ws * F))
  | some bs =>
    obtain ⟨b, s⟩ := bs
    have hls : agt x ls = some s := by rw [← hps, agt_amap, hk]; rfl
    rw [hls] at hl
    simp only [Option.getD_some] at hl
    have e0 : holdersS x ls = (s.1.map (·.1)).mergeSort fun a b => decide (a ≤ b) := by simp [holdersS, hls]
    rw [Option.map_some]
    have h3 := h2
    rw [lks_open hk] at h3
    obtain ⟨v1, v2, h4⟩ := LkP.openH (b := b) h3
    have hb := LkQ.clH h4 b
    simp -dsimp -implicitDefEqProofs (disch := omega) only [go_sem, reqD_of, dec_t, dec_f, wrap_i64, wrap_u32, wrap_u64, wrap_u8, lkV_some, ptrV, hb]
    refine (whose_any (n := s.1.length) (l := s.1) h4 Gives.ent hl).mono ?_
    rintro e w2 ⟨v, h5, rfl⟩
    simp -dsimp -implicitDefEqProofs (disch := omega) only [go_sem, reqD_of, dec_t, dec_f, wrap_i64, wrap_u32, wrap_u64, wrap_u8]
    have h6 := LkQ.shutH h5 b
    rw [show LkP b (s.1, s.2) = LkP b s from rfl, ← lks_open hk] at h6
    have h7 := (TabP.col (B := B) (m1 := m1) (m2 := m2) (ws := ws) h6 hps).take (.row v)
    refine (St.sortInts (P := Try.prog) sortIntL (T := 3) (l := s.1.map (·.1)) (v := v) (by simpa [intR] using h7) (by simp; omega)).mono ?_
    rintro e w3 ⟨h8, rfl⟩
    simp -dsimp -implicitDefEqProofs (disch := omega) only [go_sem, reqD_of, dec_t, dec_f, wrap_i64, wrap_u32, wrap_u64, wrap_u8]
    refine ⟨v, ?_, rfl⟩
    rw [e0]
    change St w0 (RowO 3 1 v _ (intR _) * _) _ at h8
    rw [show (s.1.map (·.1)).length = ((s.1.map (·.1)).mergeSort fun a b => decide (a ≤ b)).length by rw [List.length_mergeSort]] at h8
    exact h8.sub

theorem needEq (x n : Nee) : (decide (x.1.1 = n.1.1) && (decide (x.1.2.1 = n.1.2.1) && (decide (x.1.2.2 = n.1.2.2) && x.2 == n.2))) = decide (x = n) := by
  obtain ⟨⟨a1, a2, a3⟩, a4⟩ := x
  obtain ⟨⟨b1, b2, b3⟩, b4⟩ := n
  rw [Bool.eq_iff_iff]
  simp
  exact ⟨fun ⟨h1, h2, h3, h4⟩ => ⟨⟨h1, h2, h3⟩, h4⟩, fun ⟨⟨h1, h2, h3⟩, h4⟩ => ⟨h1, h2, h3, h4⟩⟩

end
section
attribute [local go_sem] F18.t4_eq F18.t5_eq F18.t7_eq
theorem holdsLaw_any {w0 w : World} {F : HP} {B : Nat} {ls : List (Nam × LkS)} {ws : List (Int × Nee)} {who : Int} {n : Nee} (h : St w0 (TabP B ls ws * F) w) (hT : tot ls < 1099511627776) (hL : ls.length < 1099511627776) :
    Calls Try.prog 18 #[.pointer (some ⟨B, 0, none⟩), .int .i64 who, needV n] w fun e w' => St w0 (TabP B ls ws * F) w' ∧ e = .returned (.bool (decide (n ∈ heldS who ls))) := by
  have hHl : (heldS who ls).length ≤ ls.length := by unfold heldS heldL; rw [List.length_mergeSort]; exact List.length_filterMap_le _ _
  refine F18.calls (by simp) ?_
  unfold F18.code
  simp -dsimp -implicitDefEqProofs (disch := omega) only [go_sem, reqD_of, dec_t, dec_f, wrap_i64, wrap_u32, wrap_u64, wrap_u8]
  refine h.new fun N w1 h1 => ?_
  simp -dsimp -implicitDefEqProofs (disch := omega) only [go_sem, reqD_of, dec_t, dec_f, wrap_i64, wrap_u32, wrap_u64, wrap_u8]
  refine (held_any h1.sw2 (fun p hp => by have := tot_mem hp; omega) hL).mono ?_
  rintro e w2 ⟨v, h2, rfl⟩
  obtain ⟨_, a, c, rfl, hnc, _⟩ := St.rowsAt (k := 4) needC_length (by decide) (h2.gives (B := Reads 4 v (heldS who ls).length ((heldS who ls).flatMap needC)))
  simp -dsimp -implicitDefEqProofs (disch := omega) only [go_sem, reqD_of, dec_t, dec_f, wrap_i64, wrap_u32, wrap_u64, wrap_u8]
  refine loop_intro (fun e w' => e.ds = [] ∧ e.ρ 5 = .pointer (some ⟨N, 0, none⟩) ∧ e.ρ 7 = .slice a (heldS who ls).length c ∧ ∃ k : Nat, k ≤ (heldS who ls).length ∧ e.ρ 8 = .int .i64 k ∧ n ∉ (heldS who ls).take k ∧
      St w0 (RowO 38 4 (.slice a (heldS who ls).length c) (heldS who ls).length ((heldS who ls).flatMap needC) * (TabP B ls ws * (Blk N (.cells (needC n).toArray 38 (0, 0)) * F))) w')
    (fun e _ => match e.ρ 8 with | .int _ n => ((heldS who ls).length - n).toNat | _ => 0) ?_ ?_
  · exact ⟨rfl, by simp -dsimp -implicitDefEqProofs only [go_sem], by simp -dsimp -implicitDefEqProofs only [go_sem], 0, by omega, by simp -dsimp -implicitDefEqProofs only [go_sem], by simp, h2⟩
  rintro e w3 ⟨hd, e5, e7, k, hk, e8, hno, h3⟩
  by_cases hlt : (k : Int) < (heldS who ls).length
  case neg =>
    have : k = (heldS who ls).length := by omega
    subst this
    rw [List.take_length] at hno
    simp -dsimp -implicitDefEqProofs (disch := omega) only [go_sem, reqD_of, dec_t, dec_f, wrap_i64, wrap_u32, wrap_u64, wrap_u8, hd, e5, e7, e8, hlt]
    exact h3.sub
  have hkl : k < (heldS who ls).length := by omega
  have h3' := h3.drew
  obtain ⟨_, _, _, hv, _, hcl⟩ := St.rowsAt (k := 4) needC_length (by decide) (h3'.gives (B := Reads 4 (.slice a (heldS who ls).length c) (heldS who ls).length ((heldS who ls).flatMap needC)))
  simp only [Value.slice.injEq, true_and] at hv
  obtain ⟨rfl, rfl⟩ := hv
  obtain ⟨g, o, rfl, hrow, _⟩ := hcl k hkl
  have hN := h3'.rowH N 4 rfl
  generalize hx : (heldS who ls)[k] = x at hrow
  simp -dsimp -implicitDefEqProofs (disch := omega) only [go_sem, reqD_of, dec_t, dec_f, wrap_i64, wrap_u32, wrap_u64, wrap_u8, hd, e5, e7, e8, hlt, hrow, hN, needC]
  rw [needEq]
  by_cases hxn : x = n
  · have hin : n ∈ heldS who ls := hxn ▸ hx ▸ List.getElem_mem hkl
    simp -dsimp -implicitDefEqProofs (disch := omega) only [go_sem, reqD_of, dec_t, dec_f, wrap_i64, wrap_u32, wrap_u64, wrap_u8, hd, e5, e7, e8, hxn]
    exact h3'.sub
  · simp -dsimp -implicitDefEqProofs (disch := omega) only [go_sem, reqD_of, dec_t, dec_f, wrap_i64, wrap_u32, wrap_u64, wrap_u8, hd, e5, e7, e8, hxn]
    refine ⟨⟨k + 1, by omega, by omega, ?_, h3'⟩, by omega⟩
    rw [List.take_succ_eq_append_getElem hkl, hx]
    simp only [List.mem_append, List.mem_singleton]
    rintro (h | h)
    · exact hno h
    · exact hxn h.symm

/-- A step by raw numbers. -/
abbrev Mv := Int × Int × Int × Bool
def mvC (m : Mv) : List Value := [.int .i64 m.1, .int .i64 m.2.1, .int .i64 m.2.2.1, .bool m.2.2.2]
theorem mvC_length (m : Mv) : (mvC m).length = 4 := rfl
def mvWho (m : Mv) : Int := 1 + pickI m.2.1 8
def mvLock (m : Mv) : Nam := (3, 0, pickI m.2.2.1 6)
def moveS (m : Mv) (ls : List (Nam × LkS)) (ws : List (Int × Nee)) : (List Claim × Bool) × List (Nam × LkS) × List (Int × Nee) :=
  if pickI m.1 4 < 2 then (([], decide ((askS (mvWho m) (mvLock m, m.2.2.2) ls ws).1.2 = 0)), (askS (mvWho m) (mvLock m, m.2.2.2) ls ws).2)
  else if pickI m.1 4 = 2 then (((freeS (mvWho m) (mvLock m) ls ws).1.1, decide ((freeS (mvWho m) (mvLock m) ls ws).1.2 = 0)), (freeS (mvWho m) (mvLock m) ls ws).2)
  else (((leaveS (mvWho m) ls ws).1, true), (leaveS (mvWho m) ls ws).2)
def I64 (n : Int) : Prop := -9223372036854775808 ≤ n ∧ n < 9223372036854775808
def MvOk (m : Mv) : Prop := I64 m.1 ∧ I64 m.2.1 ∧ I64 m.2.2.1

end
section
attribute [local go_sem] F16.t6_eq F16.t11_eq F16.t3_eq
theorem move_tail {w0 w : World} {F : HP} {B M N : Nat} {ls : List (Nam × LkS)} {ws : List (Int × Nee)} {m : Mv} {l : List Claim} {ok : Bool} {ls' : List (Nam × LkS)} {ws' : List (Int × Nee)} {e : FA} (hR : moveS m ls ws = ((l, ok), ls', ws')) (hm : MvOk m)
    (h : St w0 (TabP B ls ws * (Blk M (.cells (mvC m).toArray 44 (0, 0)) * (Blk N (.cells (needC (mvLock m, m.2.2.2)).toArray 38 (0, 0)) * F))) w) (hd : e.ds = []) (e0 : e.ρ 0 = .pointer (some ⟨B, 0, none⟩)) (e3 : e.ρ 3 = .pointer (some ⟨M, 0, none⟩)) (e6 : e.ρ 6 = .int .i64 (mvWho m)) (e7 : e.ρ 7 = .pointer (some ⟨N, 0, none⟩))
    (hw : ∀ n, agt (mvWho m) ws = some n → ∃ s, agt n.1 ls = some s) (hT : tot ls < 1099511627776) (hL : ls.length < 1099511627776) :
    cwE Try.prog F16.t3 (fnP Try.prog #[.tmp 4, .tmp 5] fun e w' => ∃ v, St w0 (RowO 3 1 v l.length (intR (l.map (·.1))) * (TabP B ls' ws' * F)) w' ∧ e = .returned (.tuple #[v, .bool ok])) e w := by
  rw [F16.t3_eq]
  have hta := tot_agt (x := mvLock m) (ls := ls)
  have hM := h.cl M
  unfold mvC at hM
  simp -dsimp -implicitDefEqProofs (disch := omega) only [go_sem, reqD_of, dec_t, dec_f, wrap_i64, wrap_u32, wrap_u64, wrap_u8, hd, e0, e3, e6, e7, hM]
  refine (pick_any (c := m.1) (n := 4) h hm.1 (by decide)).mono ?_
  rintro e' w1 ⟨h1, rfl⟩
  have hp := pickI_range (c := m.1) (n := 4) (by decide)
  have hN := h1.rowH N 4 rfl
  by_cases q : pickI m.1 4 < 2
  · have hq : pickI m.1 4 = 0 ∨ ¬ pickI m.1 4 = 0 ∧ pickI m.1 4 = 1 := by omega
    obtain ⟨⟨⟨r1, r2⟩, ls1, ws1⟩, hA⟩ : ∃ y, askS (mvWho m) (mvLock m, m.2.2.2) ls ws = y := ⟨_, rfl⟩
    obtain ⟨⟨rfl, rfl⟩, rfl, rfl⟩ : (l = [] ∧ ok = decide (r2 = 0)) ∧ ls' = ls1 ∧ ws' = ws1 := by have := hR.symm; simpa [moveS, q, hA] using this
    have fin : ∀ {w : World} {e : FA}, St w0 (TabP B ls' ws' * (Blk M (.cells (mvC m).toArray 44 (0, 0)) * (Blk N (.cells (needC (mvLock m, m.2.2.2)).toArray 38 (0, 0)) * F))) w → St w0 (RowO 3 1 (.slice none 0 0) 0 [] * (TabP B ls' ws' * F)) w := fun h => (h.nilR 3 1).sub
    rcases hq with q0 | ⟨q0, q1⟩
    · simp -dsimp -implicitDefEqProofs (disch := omega) only [go_sem, reqD_of, dec_t, dec_f, wrap_i64, wrap_u32, wrap_u64, wrap_u8, hd, e0, e3, e6, e7, q0, hN]
      refine (ask_any (n := (mvLock m, m.2.2.2)) h1 hA (by dsimp only; omega) (by dsimp only; omega)).mono ?_
      rintro e' w2 ⟨h2, rfl⟩
      simp -dsimp -implicitDefEqProofs (disch := omega) only [go_sem, reqD_of, dec_t, dec_f, wrap_i64, wrap_u32, wrap_u64, wrap_u8, hd, e0, e3, e6, e7]
      exact ⟨_, fin h2 (e := e), rfl⟩
    · simp -dsimp -implicitDefEqProofs (disch := omega) only [go_sem, reqD_of, dec_t, dec_f, wrap_i64, wrap_u32, wrap_u64, wrap_u8, hd, e0, e3, e6, e7, q0, q1, hN]
      refine (ask_any (n := (mvLock m, m.2.2.2)) h1 hA (by dsimp only; omega) (by dsimp only; omega)).mono ?_
      rintro e' w2 ⟨h2, rfl⟩
      simp -dsimp -implicitDefEqProofs (disch := omega) only [go_sem, reqD_of, dec_t, dec_f, wrap_i64, wrap_u32, wrap_u64, wrap_u8, hd, e0, e3, e6, e7]
      exact ⟨_, fin h2 (e := e), rfl⟩
  · have q0 : ¬ pickI m.1 4 = 0 := by omega
    have q1 : ¬ pickI m.1 4 = 1 := by omega
    by_cases q2 : pickI m.1 4 = 2
    · obtain ⟨⟨⟨l1, r2⟩, ls1, ws1⟩, hA⟩ : ∃ y, freeS (mvWho m) (mvLock m) ls ws = y := ⟨_, rfl⟩
      obtain ⟨⟨rfl, rfl⟩, rfl, rfl⟩ : (l = l1 ∧ ok = decide (r2 = 0)) ∧ ls' = ls1 ∧ ws' = ws1 := by have := hR.symm; simpa [moveS, q, q2, hA] using this
      have hN3 : rowV w1 ⟨N, 0, none⟩ 3 = some (namV (mvLock m)) := h1.rowAtH N 0 3 (by simp [needC])
      simp -dsimp -implicitDefEqProofs (disch := omega) only [go_sem, reqD_of, dec_t, dec_f, wrap_i64, wrap_u32, wrap_u64, wrap_u8, hd, e0, e3, e6, e7, q0, q1, q2, hN3]
      refine (free_any (x := mvLock m) h1 hA (by omega)).mono ?_
      rintro e' w2 ⟨v, h2, rfl⟩
      simp -dsimp -implicitDefEqProofs (disch := omega) only [go_sem, reqD_of, dec_t, dec_f, wrap_i64, wrap_u32, wrap_u64, wrap_u8, hd, e0, e3, e6, e7]
      exact ⟨v, h2.sub, rfl⟩
    · obtain ⟨⟨l1, ls1, ws1⟩, hA⟩ : ∃ y, leaveS (mvWho m) ls ws = y := ⟨_, rfl⟩
      obtain ⟨⟨rfl, rfl⟩, rfl, rfl⟩ : (l = l1 ∧ ok = true) ∧ ls' = ls1 ∧ ws' = ws1 := by have := hR.symm; simpa [moveS, q, q2, hA] using this
      simp -dsimp -implicitDefEqProofs (disch := omega) only [go_sem, reqD_of, dec_t, dec_f, wrap_i64, wrap_u32, wrap_u64, wrap_u8, hd, e0, e3, e6, e7, q0, q1, q2]
      refine (leave_any h1 hw hT hL).mono ?_
      rintro e' w2 ⟨v, h2, rfl⟩
      rw [hA] at h2
      simp -dsimp -implicitDefEqProofs (disch := omega) only [go_sem, reqD_of, dec_t, dec_f, wrap_i64, wrap_u32, wrap_u64, wrap_u8, hd, e0, e3, e6, e7]
      exact ⟨v, h2.sub, rfl⟩

end
section
attribute [local go_sem] F16.t6_eq F16.t11_eq
theorem move_any {w0 w : World} {F : HP} {B : Nat} {ls : List (Nam × LkS)} {ws : List (Int × Nee)} {m : Mv} {l : List Claim} {ok : Bool} {ls' : List (Nam × LkS)} {ws' : List (Int × Nee)} (hR : moveS m ls ws = ((l, ok), ls', ws')) (hm : MvOk m) (h : St w0 (TabP B ls ws * F) w)
    (hw : ∀ n, agt (mvWho m) ws = some n → ∃ s, agt n.1 ls = some s) (hT : tot ls < 1099511627776) (hL : ls.length < 1099511627776) :
    Calls Try.prog 16 #[.pointer (some ⟨B, 0, none⟩), .agg (mvC m).toArray] w fun e w' => ∃ v, St w0 (RowO 3 1 v l.length (intR (l.map (·.1))) * (TabP B ls' ws' * F)) w' ∧ e = .returned (.tuple #[v, .bool ok]) := by
  have hp8 := pickI_range (c := m.2.1) (n := 8) (by decide)
  have hp6 := pickI_range (c := m.2.2.1) (n := 6) (by decide)
  refine F16.calls (by simp) ?_
  unfold F16.code
  simp -dsimp -implicitDefEqProofs (disch := omega) only [go_sem, reqD_of, dec_t, dec_f, wrap_i64, wrap_u32, wrap_u64, wrap_u8]
  refine h.new fun M w1 h1 => ?_
  have hM := h1.cl M
  have hMd := h1.drew.cl M
  unfold mvC at hM hMd
  simp -dsimp -implicitDefEqProofs (disch := omega) only [go_sem, reqD_of, dec_t, dec_f, wrap_i64, wrap_u32, wrap_u64, wrap_u8, hM]
  refine (pick_any (c := m.2.1) (n := 8) h1 hm.2.1 (by decide)).mono ?_
  rintro e' w2 ⟨h2, rfl⟩
  have hM2 := h2.drew.cl M
  unfold mvC at hM2
  simp -dsimp -implicitDefEqProofs (disch := omega) only [go_sem, reqD_of, dec_t, dec_f, wrap_i64, wrap_u32, wrap_u64, wrap_u8, hM2]
  refine ⟨?_, ?_⟩
  · refine (pick_any (c := m.2.2.1) (n := 6) h2.drew hm.2.2 (by decide)).mono ?_
    rintro e' w3 ⟨h3, rfl⟩
    have hM3 := h3.cl M
    unfold mvC at hM3
    simp -dsimp -implicitDefEqProofs (disch := omega) only [go_sem, reqD_of, dec_t, dec_f, wrap_i64, wrap_u32, wrap_u64, wrap_u8, hM3]
    refine ⟨?_, ?_⟩
    · refine (oneN_any h3 hp6.1 (by omega)).mono ?_
      rintro e' w4 ⟨h4, rfl⟩
      have hM4 := h4.cl M
      unfold mvC at hM4
      simp -dsimp -implicitDefEqProofs (disch := omega) only [go_sem, reqD_of, dec_t, dec_f, wrap_i64, wrap_u32, wrap_u64, wrap_u8, hM4]
      refine onV_of (v := needV (mvLock m, m.2.2.2)) rfl ?_
      simp -dsimp -implicitDefEqProofs (disch := omega) only [go_sem, reqD_of, dec_t, dec_f, wrap_i64, wrap_u32, wrap_u64, wrap_u8]
      refine h4.new fun N w5 h5 => ?_
      have hM5 := h5.cl M
      unfold mvC at hM5
      simp -dsimp -implicitDefEqProofs (disch := omega) only [go_sem, reqD_of, dec_t, dec_f, wrap_i64, wrap_u32, wrap_u64, wrap_u8, hM5]
      refine h5.stoAll (cs := needC (mvLock m, m.2.2.2)) rfl rfl (needC_cells _) fun w6 h6 => ?_
      have hM6 := h6.cl M
      unfold mvC at hM6
      simp -dsimp -implicitDefEqProofs (disch := omega) only [go_sem, reqD_of, dec_t, dec_f, wrap_i64, wrap_u32, wrap_u64, wrap_u8, hM6]
      exact move_tail (M := M) (N := N) hR hm h6.sub (by simp -dsimp -implicitDefEqProofs only [go_sem]) (by simp -dsimp -implicitDefEqProofs only [go_sem]) (by simp -dsimp -implicitDefEqProofs only [go_sem]) (by simp -dsimp -implicitDefEqProofs only [go_sem, mvWho]) (by simp -dsimp -implicitDefEqProofs only [go_sem]) hw hT hL
    · refine h3.new fun N w4 h4 => ?_
      have hM4 := h4.cl M
      unfold mvC at hM4
      simp -dsimp -implicitDefEqProofs (disch := omega) only [go_sem, reqD_of, dec_t, dec_f, wrap_i64, wrap_u32, wrap_u64, wrap_u8, hM4]
      refine (oneN_any h4 hp6.1 (by omega)).mono ?_
      rintro e' w5 ⟨h5, rfl⟩
      have hM5 := h5.cl M
      unfold mvC at hM5
      simp -dsimp -implicitDefEqProofs (disch := omega) only [go_sem, reqD_of, dec_t, dec_f, wrap_i64, wrap_u32, wrap_u64, wrap_u8, hM5]
      refine onV_of (v := needV (mvLock m, m.2.2.2)) rfl ?_
      simp -dsimp -implicitDefEqProofs (disch := omega) only [go_sem, reqD_of, dec_t, dec_f, wrap_i64, wrap_u32, wrap_u64, wrap_u8]
      refine h5.stoAll (cs := needC (mvLock m, m.2.2.2)) rfl rfl (needC_cells _) fun w6 h6 => ?_
      have hM6 := h6.cl M
      unfold mvC at hM6
      simp -dsimp -implicitDefEqProofs (disch := omega) only [go_sem, reqD_of, dec_t, dec_f, wrap_i64, wrap_u32, wrap_u64, wrap_u8, hM6]
      exact move_tail (M := M) (N := N) hR hm h6.sub (by simp -dsimp -implicitDefEqProofs only [go_sem]) (by simp -dsimp -implicitDefEqProofs only [go_sem]) (by simp -dsimp -implicitDefEqProofs only [go_sem]) (by simp -dsimp -implicitDefEqProofs only [go_sem, mvWho]) (by simp -dsimp -implicitDefEqProofs only [go_sem]) hw hT hL
  · refine h2.drew.new fun N w3 h3 => ?_
    have hM3 := h3.cl M
    unfold mvC at hM3
    simp -dsimp -implicitDefEqProofs (disch := omega) only [go_sem, reqD_of, dec_t, dec_f, wrap_i64, wrap_u32, wrap_u64, wrap_u8, hM3]
    refine (pick_any (c := m.2.2.1) (n := 6) h3 hm.2.2 (by decide)).mono ?_
    rintro e' w4 ⟨h4, rfl⟩
    have hM4 := h4.cl M
    unfold mvC at hM4
    simp -dsimp -implicitDefEqProofs (disch := omega) only [go_sem, reqD_of, dec_t, dec_f, wrap_i64, wrap_u32, wrap_u64, wrap_u8, hM4]
    refine (oneN_any h4 hp6.1 (by omega)).mono ?_
    rintro e' w5 ⟨h5, rfl⟩
    have hM5 := h5.cl M
    unfold mvC at hM5
    simp -dsimp -implicitDefEqProofs (disch := omega) only [go_sem, reqD_of, dec_t, dec_f, wrap_i64, wrap_u32, wrap_u64, wrap_u8, hM5]
    refine onV_of (v := needV (mvLock m, m.2.2.2)) rfl ?_
    simp -dsimp -implicitDefEqProofs (disch := omega) only [go_sem, reqD_of, dec_t, dec_f, wrap_i64, wrap_u32, wrap_u64, wrap_u8]
    refine h5.stoAll (cs := needC (mvLock m, m.2.2.2)) rfl rfl (needC_cells _) fun w6 h6 => ?_
    have hM6 := h6.cl M
    unfold mvC at hM6
    simp -dsimp -implicitDefEqProofs (disch := omega) only [go_sem, reqD_of, dec_t, dec_f, wrap_i64, wrap_u32, wrap_u64, wrap_u8, hM6]
    exact move_tail (M := M) (N := N) hR hm h6.sub (by simp -dsimp -implicitDefEqProofs only [go_sem]) (by simp -dsimp -implicitDefEqProofs only [go_sem]) (by simp -dsimp -implicitDefEqProofs only [go_sem]) (by simp -dsimp -implicitDefEqProofs only [go_sem, mvWho]) (by simp -dsimp -implicitDefEqProofs only [go_sem]) hw hT hL

end
end Go.Proofs.Ytacmnfpgimgigaa

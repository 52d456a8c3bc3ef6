/- part 13 -/
import Derived.Test.YtijnmokpihhhcaaGreatDoorZ1
import Derived.Test.YtijnmokpihhhcaaGreatDoorZ2
import Derived.Test.YtijnmokpihhhcaaGreatDoorZ3
import Derived.Test.YtijnmokpihhhcaaGreatDoorZ4
import Derived.Test.YtijnmokpihhhcaaGreatDoorZ5
import Derived.Test.YtijnmokpihhhcaaGreatDoorZ6
import Derived.Test.YtijnmokpihhhcaaGreatDoorZ7
import Derived.Test.YtijnmokpihhhcaaGreatDoorZ8
import Derived.Test.YtijnmokpihhhcaaGreatDoorZ9
import Derived.Test.YtijnmokpihhhcaaGreatDoorZ10
import Derived.Test.YtijnmokpihhhcaaGreatDoorZ11
import Derived.Test.YtijnmokpihhhcaaGreatDoorZ12
namespace Go.Proofs.YtijnmokpihhhcaaGreatDoor
open Go
set_option linter.unusedVariables false
set_option linter.unusedSimpArgs false
set_option maxRecDepth 100000
theorem fresh_kid {s : SD} {n : NodeD} (h : Wf s) (hn : n ∈ s.L) (t : Inf) (q : Nat) : isKid q (freshN s n.i.path t) = (n.i.path == q) := by
  have := (h.below _ hn).2
  unfold isKid freshN
  simp only
  have : (s.next == n.i.path) = false := by simp; omega
  rw [this]; simp
theorem kids_more {s : SD} {n : NodeD} (h : Wf s) (hn : n ∈ s.L) (t : Inf) (q : Nat) : (((kidsF (s.L ++ [freshN s n.i.path t]) q).length : Nat) : Int) = (kidsF s.L q).length + (if q = n.i.path then 1 else 0) := by
  rw [kids_app, fresh_kid h hn]
  by_cases hq : q = n.i.path
  · subst hq
    rw [if_pos (by simp), if_pos rfl, List.length_append]
    simp
  · rw [if_neg (by simp; exact fun e => hq e.symm), if_neg hq]
    simp
theorem kids_fresh {s : SD} {n : NodeD} (h : Wf s) (hn : n ∈ s.L) (t : Inf) : kidsF (s.L ++ [freshN s n.i.path t]) s.next = [] := by
  have := (h.below _ hn).2
  rw [kids_app, fresh_kid h hn, if_neg (by simp; omega)]
  unfold kidsF
  rw [List.filter_eq_nil_iff.2]
  · rfl
  · intro m hm hk
    have hk2 := (isKid_iff h hm).1 hk
    have := (h.up m hm hk2.2).1
    have := (h.below m hm).2
    omega
theorem pairs_make {s : SD} {X : List EV} (ok : RefOk s X) {i : Nat} (hi : i < s.L.length) (hX : i < X.length) (t : Inf) :
    ((X.map (prOf s.L)).set i ({ (tellF s.L s.L[i]) with kids := (tellF s.L s.L[i]).kids + 1 }, X[i].v)) ++ [((freshN s s.L[i].i.path t).i, .slice none 0 0)] = (X ++ [(⟨freshN s s.L[i].i.path t, .slice none 0 0⟩ : EV)]).map (prOf (s.L ++ [freshN s s.L[i].i.path t])) := by
  have hlen := ok.len
  rw [List.map_append]
  congr 1
  · refine List.ext_getElem (by simp) fun m h2 h3 => ?_
    have hm : m < X.length := by simpa using h2
    have hmL : m < s.L.length := by omega
    have hk := kids_more ok.wf (List.getElem_mem hi) t s.L[m].i.path
    rw [List.getElem_set]
    by_cases him : i = m
    · subst him
      rw [if_pos rfl, List.getElem_map]
      unfold prOf
      rw [ok.at_ hm]
      rw [if_pos rfl] at hk
      unfold tellF
      rw [hk]
    · rw [if_neg him, List.getElem_map, List.getElem_map]
      unfold prOf
      rw [ok.at_ hm]
      have hne : ¬ s.L[m].i.path = s.L[i].i.path := fun e => by
        rcases Nat.lt_trichotomy m i with h | h | h
        · have := List.pairwise_iff_getElem.1 ok.wf.rise m i hmL hi h; omega
        · exact him h.symm
        · have := List.pairwise_iff_getElem.1 ok.wf.rise i m hi hmL h; omega
      rw [if_neg hne] at hk
      unfold tellF
      rw [hk, Int.add_zero]
  · unfold prOf tellF
    have hk := kids_fresh ok.wf (List.getElem_mem hi) t
    simp only [List.map_cons, List.map_nil]
    rw [show (freshN s s.L[i].i.path t).i.path = s.next from rfl, hk]
    rfl
theorem RefOk.make {s : SD} {X : List EV} (ok : RefOk s X) {n : NodeD} {t : Inf} (hw : Wf { s with next := s.next + 1, L := s.L ++ [freshN s n.i.path t] }) : RefOk { s with next := s.next + 1, L := s.L ++ [freshN s n.i.path t] } (X ++ [(⟨freshN s n.i.path t, .slice none 0 0⟩ : EV)]) := by
  refine ⟨hw, ?_⟩
  show (X ++ [(⟨freshN s n.i.path t, .slice none 0 0⟩ : EV)]).map (·.d) = s.L ++ [freshN s n.i.path t]
  rw [List.map_append, ok.list]
  rfl
theorem four_swap {a b c d e : HP} : a * (b * (c * (d * e))) = b * (c * ((a * d) * e)) := by ac_rfl
section
variable {w0 w : World} {A : HP} {b i : Nat} {s : SD} {v vd : Value} {X : List EV} {o : OpD}
section
attribute [local go_sem] F39.t17_eq F39.t15_eq F39.t12_eq F39.t9_eq F39.t4_eq
theorem refMake_any (ok : RefOk s X) (hi : i < s.L.length) (hin : OpIn o) (hp : s.L[i].i.path = o.path) (hnext : s.next < 9223372036854775808) (hw : Wf (makeF s s.L[i] o.node).1) (h : St w0 (RefB b s v * (RefL s.L v X * (starL bytesP X * A))) w) :
    Calls Tryz.prog 39 #[.pointer (some ⟨b, 0, none⟩), .int .i64 i, .agg (opL o vd).toArray] w fun e w' => St w0 (RefP b (makeF s s.L[i] o.node).1 * A) w' ∧ e = .returned (.tuple #[.int .u64 (makeF s s.L[i] o.node).2.1, .int .i64 (makeF s s.L[i] o.node).2.2]) := by
  have hm := hin.mask
  have q1 := hin.uid
  have q2 := hin.gid
  have q3 := hin.muid
  have q4 := hin.nname
  have hlen := ok.len
  have hX : i < X.length := by rw [ok.len]; exact hi
  have hfw := ok.wf.few
  have hms := ok.wf.most
  have shut : ∀ {w} {B C : HP}, St w0 (RefB b s v * (RefL s.L v X * (B * (starL bytesP X * (C * A))))) w → St w0 (RefP b s * A) w := fun h => by
    have h2 := h.ent (Ent.sep (Ent.rfl' _) (Ent.sep (Ent.rfl' _) ((Ent.right _ _).trans (Ent.sep (Ent.rfl' _) (Ent.right _ _)))))
    rw [RefQ.as] at h2
    exact h2.ent (Ent.sep (RefP.shut ok) (Ent.rfl' _))
  refine F39.calls (by simp) ?_
  unfold F39.code
  simp -dsimp -implicitDefEqProofs (disch := omega) only [go_sem]
  refine h.new fun B w1 h1 => ?_
  have p1 : rowV w1 ⟨B, 4, none⟩ 13 = some (.agg (infL o.node).toArray) := h1.rowAtH B 4 13 (Nat.le_of_ble_eq_true rfl)
  simp -dsimp -implicitDefEqProofs (disch := omega) only [go_sem, p1]
  refine h1.new fun D w2 h2 => ?_
  simp -dsimp -implicitDefEqProofs (disch := omega) only [go_sem]
  refine h2.stoAll (b := D) (cs := infL o.node) rfl rfl (infL_cells _) fun w3 h3 => ?_
  have h4 : St w0 (RefB b s v * (RefL s.L v X * (infB D o.node * (starL bytesP X * (opB B o vd * A))))) w3 := h3.ac (by simp only [infB, opB]; ac_rfl)
  obtain ⟨g, q, c, hiS, hv, prow, hc, _⟩ := h4.entF ok hX
  subst hv
  simp -dsimp -implicitDefEqProofs (disch := omega) only [go_sem, h4.cl b, prow]
  refine (refDir_any h4).mono ?_
  rintro e w4 ⟨h5, rfl⟩
  rw [show (tellF s.L s.L[i]).mode = s.L[i].i.mode from rfl]
  cases hdir : dirF s.L[i].i.mode with
  | false =>
    have hr : makeF s s.L[i] o.node = (s, 0, 81) := by unfold makeF; rw [hdir]; rfl
    rw [hr]
    simp -dsimp -implicitDefEqProofs (disch := omega) only [go_sem]
    exact shut h5
  | true =>
    simp -dsimp -implicitDefEqProofs (disch := omega) only [go_sem, h5.cl D]
    refine (refUser_any h5 (l := o.node.uid) (by omega)).mono ?_
    rintro e w5 ⟨h6, rfl⟩
    simp -dsimp -implicitDefEqProofs (disch := omega) only [go_sem, h6.cl D]
    refine (refUser_any h6 (l := o.node.gid) (by omega)).mono ?_
    rintro e w6 ⟨h7, rfl⟩
    simp -dsimp -implicitDefEqProofs (disch := omega) only [go_sem, h7.cl D]
    refine (refUser_any h7 (l := o.node.muid) (by omega)).mono ?_
    rintro e w7 ⟨h8, rfl⟩
    simp -dsimp -implicitDefEqProofs (disch := omega) only [go_sem, h8.cl D]
    refine (refMode_any hin.ok.mode h8).mono ?_
    rintro e w8 ⟨h9, rfl⟩
    have bad : (modeF o.node.mode && userF o.node.uid && userF o.node.gid && userF o.node.muid) = false → makeF s s.L[i] o.node = (s, 0, 1) := fun hx => by unfold makeF; rw [hdir, hx]; rfl
    cases x0 : modeF o.node.mode
    · rw [bad (by rw [x0]; rfl)]
      simp -dsimp -implicitDefEqProofs (disch := omega) only [go_sem]
      exact shut h9
    cases x1 : userF o.node.uid
    · rw [bad (by rw [x1]; simp)]
      simp -dsimp -implicitDefEqProofs (disch := omega) only [go_sem]
      exact shut h9
    cases x2 : userF o.node.gid
    · rw [bad (by rw [x2]; simp)]
      simp -dsimp -implicitDefEqProofs (disch := omega) only [go_sem]
      exact shut h9
    cases x3 : userF o.node.muid
    · rw [bad (by rw [x3]; simp)]
      simp -dsimp -implicitDefEqProofs (disch := omega) only [go_sem]
      exact shut h9
    have gd : (modeF o.node.mode && userF o.node.uid && userF o.node.gid && userF o.node.muid) = true := by rw [x0, x1, x2, x3]; rfl
    simp -dsimp -implicitDefEqProofs (disch := omega) only [go_sem, h9.cl D]
    refine (refCheckN_any h9 o.node.name (by omega)).mono ?_
    rintro e w9 ⟨h10, rfl⟩
    cases hok : okName o.node.name with
    | false =>
      have hr : makeF s s.L[i] o.node = (s, 0, 50) := by unfold makeF; rw [hdir, gd, hok]; rfl
      rw [hr]
      simp only [Bool.false_eq_true, if_false]
      simp -dsimp -implicitDefEqProofs (disch := omega) only [go_sem]
      exact shut h10
    | true =>
      simp only [if_true]
      have b1 : w9.cell? ⟨B, 1, none⟩ = some (.int .u64 o.path) := (h10.cl B) 1
      have d2 : w9.cell? ⟨D, 2, none⟩ = some (.string (strOf o.node.name)) := (h10.cl D) 2
      simp -dsimp -implicitDefEqProofs (disch := omega) only [go_sem, b1, d2]
      refine (refChild_any (p := o.path) (nm := o.node.name) ok h10).mono ?_
      rintro e w10 ⟨h11, rfl⟩
      cases hch : childF s.L o.path o.node.name with
      | some z =>
        have hr : makeF s s.L[i] o.node = (s, 0, 82) := by unfold makeF; rw [hdir, gd, hok, hp, hch]; rfl
        rw [hr]
        simp only
        simp -dsimp -implicitDefEqProofs (disch := omega) only [go_sem]
        exact shut h11
      | none =>
        simp only
        by_cases hfull : (s.most : Int) ≤ (X.length : Nat)
        · have hr : makeF s s.L[i] o.node = (s, 0, 83) := by
            unfold makeF; rw [hdir, gd, hok, hp, hch]
            simp only [Bool.not_true, Bool.false_eq_true, if_false, Option.isSome_none]
            rw [if_pos (by omega)]
          rw [hr]
          simp -dsimp -implicitDefEqProofs (disch := omega) only [go_sem, h11.cl b, h11.drew.cl b, hfull]
          exact shut h11.drew
        have hr : makeF s s.L[i] o.node = ({ s with next := s.next + 1, L := s.L ++ [freshN s s.L[i].i.path o.node] }, s.next, 0) := by
            unfold makeF; rw [hdir, gd, hok, hp, hch]
            simp only [Bool.not_true, Bool.false_eq_true, if_false, Option.isSome_none]
            rw [if_neg (by omega)]
            rfl
        rw [hr] at hw ⊢
        simp -dsimp -implicitDefEqProofs (disch := omega) only [go_sem, h11.cl b, h11.drew.cl b, hfull]
        rw [show ((s.next : Int) + 1) = ((s.next + 1 : Nat) : Int) by omega]
        refine h11.drew.sto (by simp) rfl fun w11 h12 => ?_
        simp only [List.setIfInBounds_toArray, List.set_cons_succ, List.set_cons_zero] at h12
        have h13 : St w0 (RefB b { s with next := s.next + 1 } (.slice (some ⟨g, q, none⟩) X.length c) * (RefL s.L (.slice (some ⟨g, q, none⟩) X.length c) X * (infB D o.node * (starL bytesP X * (opB B o vd * A))))) w11 := h12
        obtain ⟨g', q', c', hv', _, hci⟩ := h13.entAt (s := { s with next := s.next + 1 }) hX
        simp only [Value.slice.injEq, Option.some.injEq, Addr.mk.injEq, and_true, true_and] at hv'
        obtain ⟨⟨rfl, rfl⟩, rfl⟩ := hv'
        have c12 : w11.cell? ⟨g, q + i * 14 + 12, none⟩ = some (.int .i64 ((kidsF s.L s.L[i].i.path).length : Nat)) := by
          have := hci 12 (by decide)
          rw [show entC s.L X[i] = infL (tellF s.L X[i].d) ++ [X[i].v] from rfl, ok.at_ hX] at this
          exact this
        have hkl : (kidsF s.L s.L[i].i.path).length ≤ 4096 := by
          have : (kidsF s.L s.L[i].i.path).length ≤ s.L.length := by unfold kidsF; rw [List.length_map]; exact List.length_filter_le _ _
          omega
        simp -dsimp -implicitDefEqProofs (disch := omega) only [go_sem, h13.cl b, c12]
        rw [Nat.add_assoc q]
        refine h13.rowSet1 (g := g) (o := q) (n := X.length) (c := c) (k := i * 14 + 12) (v := .int .i64 (((kidsF s.L s.L[i].i.path).length : Nat) + 1)) (by rw [flatMap_length (entC_len _)]; omega) rfl fun w12 h14 => ?_
        have hpi : (X.map (prOf s.L))[i]'(by simpa using hX) = (tellF s.L s.L[i], X[i].v) := by rw [List.getElem_map, prOf, ok.at_ hX]
        rw [ents_pairs, pair_set (i := i) (j := 12) (by simpa using hX) (by decide) (p' := ({ (tellF s.L s.L[i]) with kids := (tellF s.L s.L[i]).kids + 1 }, X[i].v)) (by rw [hpi]; rfl)] at h14
        have hpm := pairs_make ok hi hX o.node
        obtain ⟨ps, hps⟩ : ∃ ps, ps = (X.map (prOf s.L)).set i ({ (tellF s.L s.L[i]) with kids := (tellF s.L s.L[i]).kids + 1 }, X[i].v) := ⟨_, rfl⟩
        rw [← hps] at h14 hpm
        obtain ⟨nd, hnd⟩ : ∃ nd, nd = freshN s s.L[i].i.path o.node := ⟨_, rfl⟩
        rw [← hnd] at hw hpm ⊢
        have hD := h14.drew
        simp -dsimp -implicitDefEqProofs (disch := omega) only [go_sem, hD.cl b, hD.cl B, hD.cl D]
        refine onV_of (v := .agg (infL (freshN s o.path o.node).i).toArray) (by kernel_rfl) ?_
        rw [show freshN s o.path o.node = nd by rw [hnd, hp]]
        simp -dsimp -implicitDefEqProofs (disch := omega) only [go_sem, hD.cl b, hD.cl B, hD.cl D]
        refine onV_of (v := .agg (entL nd.i (.slice none 0 0)).toArray) (by kernel_rfl) ?_
        simp -dsimp -implicitDefEqProofs (disch := omega) only [go_sem, hD.cl b, hD.cl B, hD.cl D]
        refine hD.lit (t := 82) (n := 1) (cells := entL nd.i (.slice none 0 0)) rowTy_ent (by kernel_rfl) (by decide) (by decide) fun v2 w13 h15 => ?_
        simp -dsimp -implicitDefEqProofs (disch := omega) only [go_sem, h15.cl b, h15.cl B, h15.cl D]
        refine h15.appR (v := .slice (some ⟨g, q, none⟩) X.length c) (x := v2) rowTy_ent Tryz.underlying82 (enc2_cells [(nd.i, .slice none 0 0)] (by simp [isCell])) (by simp [entL]) (by simp [maxLen]; omega) (by omega) fun v3 w14 h16 => ?_
        obtain ⟨a6, c6, hv6, _⟩ := h16.rowForm v3
        simp -dsimp -implicitDefEqProofs (disch := omega) only [go_sem, h16.cl b, h16.cl B, h16.cl D]
        refine h16.sto (by simp) (by rw [hv6]; rfl) fun w15 h17 => ?_
        simp only [List.setIfInBounds_toArray, List.set_cons_succ, List.set_cons_zero] at h17
        simp -dsimp -implicitDefEqProofs (disch := omega) only [go_sem]
        have hfl : ps.flatMap enc2 ++ entL nd.i (.slice none 0 0) = (X ++ [(⟨nd, .slice none 0 0⟩ : EV)]).flatMap (entC (s.L ++ [nd])) := by
          rw [ents_pairs, ← hpm, List.flatMap_append]
          rfl
        have hst : starL bytesP (X ++ [(⟨nd, .slice none 0 0⟩ : EV)]) = RowO 5 1 (.slice none 0 0) 0 [] * starL bytesP X := by
          rw [starL_split, List.append_nil]
          have hb : nd.b = [] := by rw [hnd]; rfl
          unfold bytesP
          show RowO _ _ _ nd.b.length (nd.b.map bv) * _ = _
          rw [hb]; rfl
        have h18 : St w0 (RefB b { s with next := s.next + 1 } v3 * (RowO 81 14 v3 (X.length + 1) (ps.flatMap enc2 ++ entL nd.i (.slice none 0 0)) * (starL bytesP X * A))) w15 := h17.right.ent (Ent.sep (Ent.rfl' _) (Ent.sep (Ent.rfl' _) ((Ent.right _ _).trans (Ent.sep (Ent.rfl' _) (Ent.right _ _)))))
        rw [hfl] at h18
        have h19 := h18.nilR 5 1
        have h20 : St w0 (RefQ b { s with next := s.next + 1, L := s.L ++ [nd] } v3 (X ++ [(⟨nd, .slice none 0 0⟩ : EV)]) * A) w15 := by
          rw [← RefQ.as, hst]
          show St w0 (_ * (RowO _ _ _ (X ++ [_]).length _ * _)) w15
          rw [List.length_append, List.length_singleton]
          exact h19.ac four_swap
        have okn : RefOk { s with next := s.next + 1, L := s.L ++ [nd] } (X ++ [(⟨nd, .slice none 0 0⟩ : EV)]) := by
          rw [hnd] at hw ⊢
          exact ok.make hw
        exact h20.ent (Ent.sep (RefP.shut okn) (Ent.rfl' _))
end
end
theorem del_code (s : SD) (n : NodeD) : (delF s n).2.1 = if (delF s n).2.2 = 0 then n.i.path else 0 := by
  unfold delF
  split
  · rfl
  · split <;> rfl
theorem call_code (s : SD) (n : NodeD) (nm : List UInt8) : (callF s n nm).2.1 = if (callF s n nm).2.2 = 0 then n.i.path else 0 := by
  unfold callF
  split
  · rfl
  · split
    · rfl
    · split
      · split <;> rfl
      · rfl
theorem setF_err {m x : Nat} {t n : Inf} (h : setF m t n = .error x) : x ≠ 0 := by
  unfold setF at h
  split at h
  · cases h; decide
  · split at h
    · cases h; decide
    · cases h
theorem cutF_err {k x : Nat} {n : NodeD} (h : cutF k n = .error x) : x ≠ 0 := by
  unfold cutF at h
  split at h
  · cases h; decide
  · split at h
    · cases h; decide
    · cases h
theorem bytesF_err {k x : Nat} {d : List UInt8} {n : NodeD} (h : bytesF k d n = .error x) : x ≠ 0 := by
  unfold bytesF at h
  split at h
  · cases h; decide
  · split at h
    · cases h; decide
    · split at h
      · cases h; decide
      · cases h
theorem opensF_err {k : Int} {x : Nat} {n : Inf} (h : opensF k n = .error x) : x ≠ 0 := by
  unfold opensF at h
  split at h
  · cases h; decide
  · cases h
section
variable {w0 w : World} {A : HP} {b i B : Nat} {s : SD} {v vd : Value} {X : List EV} {o : OpD}
section
attribute [local go_sem] F11.t24_eq F11.t22_eq F11.t6_eq F11.t3_eq
theorem refdo_t22 {e : FA} {r : SD × Nat × Nat} (hr : doF s o = r) (hc : r.2.1 = if r.2.2 = 0 then o.path else 0) (hd : e.ds = []) (e3 : e.ρ 3 = .pointer (some ⟨B, 0, none⟩)) (e7 : e.ρ 7 = .int .i64 r.2.2)
    (h : St w0 (RefP b r.1 * (opB B o vd * A)) w) :
    cwE Tryz.prog F11.t22 (fnP Tryz.prog #[.tmp 4, .tmp 5] fun e w' => St w0 (RefP b (doF s o).1 * A) w' ∧ e = .returned (.tuple #[.int .u64 (doF s o).2.1, .int .i64 (doF s o).2.2])) e w := by
  have h' : St w0 (RefP b r.1 * A) w := h.ent (Ent.sep (Ent.rfl' _) (Ent.right _ _))
  rw [F11.t22_eq, hr, hc]
  by_cases c : r.2.2 = 0
  · rw [if_pos c]
    have c' : (r.2.2 : Int) = 0 := by omega
    rw [c'] at e7
    have b1 : w.cell? ⟨B, 1, none⟩ = some (.int .u64 o.path) := (h.cl B) 1
    simp -dsimp -implicitDefEqProofs (disch := omega) only [go_sem, hd, e3, e7, b1, c']
    exact h'
  · rw [if_neg c]
    have c' : ¬ (r.2.2 : Int) = 0 := by omega
    simp -dsimp -implicitDefEqProofs (disch := omega) only [go_sem, hd, e3, e7, c']
    exact h'
end
section
attribute [local go_sem] F11.t24_eq F11.t6_eq F11.t3_eq
set_option maxHeartbeats 1000000 in
theorem refDo_any [Gives A (RdB vd o.data)] (hin : OpIn o) (hkind : o.kind < 256) (hnext : s.next < 9223372036854775808) (h : St w0 (RefP b s * A) w) :
    Calls Tryz.prog 11 #[.pointer (some ⟨b, 0, none⟩), .agg (opL o vd).toArray] w fun e w' => St w0 (RefP b (doF s o).1 * A) w' ∧ e = .returned (.tuple #[.int .u64 (doF s o).2.1, .int .i64 (doF s o).2.2]) := by
  obtain ⟨v, X, ok, h⟩ := h.refO
  have hoff := hin.offset
  have hwf := do_wf ok.wf hin.ok
  have drop2 : ∀ {w} {s : SD} {Y : HP}, St w0 (RefP b s * (Y * A)) w → St w0 (RefP b s * A) w := fun h => h.ent (Ent.sep (Ent.rfl' _) (Ent.right _ _))
  refine F11.calls (by simp) ?_
  unfold F11.code
  simp -dsimp -implicitDefEqProofs (disch := omega) only [go_sem]
  refine h.new fun B w1 h1 => ?_
  have h2 : St w0 (RefB b s v * (RefL s.L v X * (starL bytesP X * (opB B o vd * A)))) w1 := h1.ac (by simp only [opB]; ac_rfl)
  have shut : ∀ {w}, St w0 (RefB b s v * (RefL s.L v X * (starL bytesP X * (opB B o vd * A)))) w → St w0 (RefP b s * A) w := fun h => by
    rw [RefQ.as] at h
    exact drop2 (h.ent (Ent.sep (RefP.shut ok) (Ent.rfl' _)))
  by_cases k0 : o.kind < 1 ∨ 7 < o.kind
  · have hr : doF s o = (s, 0, 1) := by unfold doF; rw [if_pos k0]
    rw [hr]
    by_cases ka : (o.kind : Int) < 1
    · simp -dsimp -implicitDefEqProofs (disch := omega) only [go_sem, h2.cl B, ka]
      exact shut h2
    · have kb : (7 : Int) < o.kind := by omega
      simp -dsimp -implicitDefEqProofs (disch := omega) only [go_sem, h2.cl B, ka, kb]
      exact shut h2
  have ka : ¬ (o.kind : Int) < 1 := by omega
  have kb : ¬ (7 : Int) < o.kind := by omega
  simp -dsimp -implicitDefEqProofs (disch := omega) only [go_sem, h2.cl B, ka, kb]
  refine (refAt_any (p := o.path) ok h2).mono ?_
  rintro e w3 ⟨h3, hq⟩
  rcases hq with ⟨hf, rfl⟩ | ⟨j, hj, hf, hp, rfl⟩
  · have hr : doF s o = (s, 0, 80) := by unfold doF; rw [if_neg k0, hf]
    rw [hr]
    simp -dsimp -implicitDefEqProofs (disch := omega) only [go_sem]
    exact shut h3
  have hjl : (j : Int) < 9223372036854775807 := by have := ok.wf.few; have := ok.wf.most; omega
  rcases (by omega : o.kind = 1 ∨ o.kind = 2 ∨ o.kind = 3 ∨ o.kind = 4 ∨ o.kind = 5 ∨ o.kind = 6 ∨ o.kind = 7) with k | k | k | k | k | k | k
  · have hr : doF s o = makeF s s.L[j] o.node := by unfold doF; rw [if_neg k0, hf]; simp only [k, if_true]
    have k1 : (o.kind : Int) = 1 := by omega
    rw [hr] at hwf ⊢
    have hrow := h3.rowH B 20 rfl
    simp -dsimp -implicitDefEqProofs (disch := omega) only [go_sem, h3.cl B, hrow, k1]
    refine (refMake_any (vd := vd) ok hj hin hp hnext hwf h3).mono ?_
    rintro e w4 ⟨h4, rfl⟩
    simp -dsimp -implicitDefEqProofs (disch := omega) only [go_sem]
    exact drop2 h4
  · have hr : doF s o = delF s s.L[j] := by unfold doF; rw [if_neg k0, hf]; simp (config := { decide := true }) only [k, if_true, if_false]
    have k1 : ¬ (o.kind : Int) = 1 := by omega
    have k2 : (o.kind : Int) = 2 := by omega
    have hc := del_code s s.L[j]
    rw [hp] at hc
    simp -dsimp -implicitDefEqProofs (disch := omega) only [go_sem, h3.cl B, k1, k2]
    refine (refDrop_any ok hj h3).mono ?_
    rintro e w4 ⟨h4, rfl⟩
    simp -dsimp -implicitDefEqProofs (disch := omega) only [go_sem]
    exact refdo_t22 hr hc (by simp -dsimp -implicitDefEqProofs only [go_sem]) (by simp -dsimp -implicitDefEqProofs only [go_sem]) (by simp -dsimp -implicitDefEqProofs only [go_sem]) h4
  · have hr : doF s o = callF s s.L[j] o.name := by unfold doF; rw [if_neg k0, hf]; simp (config := { decide := true }) only [k, if_true, if_false]
    have k1 : ¬ (o.kind : Int) = 1 := by omega
    have k2 : ¬ (o.kind : Int) = 2 := by omega
    have k3 : (o.kind : Int) = 3 := by omega
    have hc := call_code s s.L[j] o.name
    rw [hp] at hc
    have b2 : w3.cell? ⟨B, 2, none⟩ = some (.string (strOf o.name)) := (h3.cl B) 2
    simp -dsimp -implicitDefEqProofs (disch := omega) only [go_sem, h3.cl B, b2, k1, k2, k3]
    refine (refName_any ok hj hin.name (by rw [← hr]; exact hwf) h3).mono ?_
    rintro e w4 ⟨h4, rfl⟩
    simp -dsimp -implicitDefEqProofs (disch := omega) only [go_sem]
    exact refdo_t22 hr hc (by simp -dsimp -implicitDefEqProofs only [go_sem]) (by simp -dsimp -implicitDefEqProofs only [go_sem]) (by simp -dsimp -implicitDefEqProofs only [go_sem]) h4
  · have hr : doF s o = oneF s o.path (infoF s.L[j] (setF o.mask o.node s.L[j].i)) := by unfold doF; rw [if_neg k0, hf]; simp (config := { decide := true }) only [k, if_true, if_false]
    have k1 : ¬ (o.kind : Int) = 1 := by omega
    have k2 : ¬ (o.kind : Int) = 2 := by omega
    have k3 : ¬ (o.kind : Int) = 3 := by omega
    have k4 : (o.kind : Int) = 4 := by omega
    have hrow := h3.rowH B 20 rfl
    simp -dsimp -implicitDefEqProofs (disch := omega) only [go_sem, h3.cl B, hrow, k1, k2, k3, k4]
    refine (refSet_any (vd := vd) ok hj hin h3).mono ?_
    intro e w4 hq
    unfold SetR at hq
    cases hs : setF o.mask o.node s.L[j].i with
    | error x =>
      rw [hs] at hq hr
      obtain ⟨h4, rfl⟩ := hq
      simp -dsimp -implicitDefEqProofs (disch := omega) only [go_sem]
      exact refdo_t22 hr (by show 0 = if x = 0 then _ else 0; rw [if_neg (setF_err hs)]) (by simp -dsimp -implicitDefEqProofs only [go_sem]) (by simp -dsimp -implicitDefEqProofs only [go_sem]) (by simp -dsimp -implicitDefEqProofs only [go_sem]; rfl) h4
    | ok z =>
      rw [hs] at hq hr
      obtain ⟨h4, rfl⟩ := hq
      simp -dsimp -implicitDefEqProofs (disch := omega) only [go_sem]
      rw [hp] at h4
      exact refdo_t22 hr rfl (by simp -dsimp -implicitDefEqProofs only [go_sem]) (by simp -dsimp -implicitDefEqProofs only [go_sem]) (by simp -dsimp -implicitDefEqProofs only [go_sem]; rfl) h4
  · have hr : doF s o = oneF s o.path (cutF o.offset s.L[j]) := by unfold doF; rw [if_neg k0, hf]; simp (config := { decide := true }) only [k, if_true, if_false]
    have k1 : ¬ (o.kind : Int) = 1 := by omega
    have k2 : ¬ (o.kind : Int) = 2 := by omega
    have k3 : ¬ (o.kind : Int) = 3 := by omega
    have k4 : ¬ (o.kind : Int) = 4 := by omega
    have k5 : (o.kind : Int) = 5 := by omega
    have b5 : w3.cell? ⟨B, 17, none⟩ = some (.int .u64 o.offset) := (h3.cl B) 17
    simp -dsimp -implicitDefEqProofs (disch := omega) only [go_sem, h3.cl B, b5, k1, k2, k3, k4, k5]
    refine (refCut_any ok hj hoff h3).mono ?_
    intro e w4 hq
    cases hs : cutF o.offset s.L[j] with
    | error x =>
      rw [hs] at hq hr
      obtain ⟨h4, rfl⟩ := hq
      simp -dsimp -implicitDefEqProofs (disch := omega) only [go_sem]
      exact refdo_t22 hr (by show 0 = if x = 0 then _ else 0; rw [if_neg (cutF_err hs)]) (by simp -dsimp -implicitDefEqProofs only [go_sem]) (by simp -dsimp -implicitDefEqProofs only [go_sem]) (by simp -dsimp -implicitDefEqProofs only [go_sem]; rfl) h4
    | ok z =>
      rw [hs] at hq hr
      obtain ⟨h4, rfl⟩ := hq
      simp -dsimp -implicitDefEqProofs (disch := omega) only [go_sem]
      rw [hp] at h4
      exact refdo_t22 hr rfl (by simp -dsimp -implicitDefEqProofs only [go_sem]) (by simp -dsimp -implicitDefEqProofs only [go_sem]) (by simp -dsimp -implicitDefEqProofs only [go_sem]; rfl) h4
  · have hr : doF s o = oneF s o.path (bytesF o.offset o.data s.L[j]) := by unfold doF; rw [if_neg k0, hf]; simp (config := { decide := true }) only [k, if_true, if_false]
    have k1 : ¬ (o.kind : Int) = 1 := by omega
    have k2 : ¬ (o.kind : Int) = 2 := by omega
    have k3 : ¬ (o.kind : Int) = 3 := by omega
    have k4 : ¬ (o.kind : Int) = 4 := by omega
    have k5 : ¬ (o.kind : Int) = 5 := by omega
    have k6 : (o.kind : Int) = 6 := by omega
    have hrow := h3.rowH B 20 rfl
    simp -dsimp -implicitDefEqProofs (disch := omega) only [go_sem, h3.cl B, hrow, k1, k2, k3, k4, k5, k6]
    refine (refBytes_any (vd := vd) ok hj hin h3).mono ?_
    intro e w4 hq
    cases hs : bytesF o.offset o.data s.L[j] with
    | error x =>
      rw [hs] at hq hr
      obtain ⟨h4, rfl⟩ := hq
      simp -dsimp -implicitDefEqProofs (disch := omega) only [go_sem]
      exact refdo_t22 hr (by show 0 = if x = 0 then _ else 0; rw [if_neg (bytesF_err hs)]) (by simp -dsimp -implicitDefEqProofs only [go_sem]) (by simp -dsimp -implicitDefEqProofs only [go_sem]) (by simp -dsimp -implicitDefEqProofs only [go_sem]; rfl) h4
    | ok z =>
      rw [hs] at hq hr
      obtain ⟨h4, rfl⟩ := hq
      simp -dsimp -implicitDefEqProofs (disch := omega) only [go_sem]
      rw [hp] at h4
      exact refdo_t22 hr rfl (by simp -dsimp -implicitDefEqProofs only [go_sem]) (by simp -dsimp -implicitDefEqProofs only [go_sem]) (by simp -dsimp -implicitDefEqProofs only [go_sem]; rfl) h4
  · have hr : doF s o = oneF s o.path (infoF s.L[j] (opensF o.n s.L[j].i)) := by unfold doF; rw [if_neg k0, hf]; simp (config := { decide := true }) only [k, if_true, if_false]
    have k1 : ¬ (o.kind : Int) = 1 := by omega
    have k2 : ¬ (o.kind : Int) = 2 := by omega
    have k3 : ¬ (o.kind : Int) = 3 := by omega
    have k4 : ¬ (o.kind : Int) = 4 := by omega
    have k5 : ¬ (o.kind : Int) = 5 := by omega
    have k6 : ¬ (o.kind : Int) = 6 := by omega
    have k7 : (o.kind : Int) = 7 := by omega
    have b7 : w3.cell? ⟨B, 19, none⟩ = some (.int .i64 o.n) := (h3.cl B) 19
    simp -dsimp -implicitDefEqProofs (disch := omega) only [go_sem, h3.cl B, b7, k1, k2, k3, k4, k5, k6, k7]
    refine (refOpens_any ok hj ⟨hin.n0, hin.n1⟩ h3).mono ?_
    intro e w4 hq
    cases hs : opensF o.n s.L[j].i with
    | error x =>
      rw [hs] at hq hr
      obtain ⟨h4, rfl⟩ := hq
      simp -dsimp -implicitDefEqProofs (disch := omega) only [go_sem]
      exact refdo_t22 hr (by show 0 = if x = 0 then _ else 0; rw [if_neg (opensF_err hs)]) (by simp -dsimp -implicitDefEqProofs only [go_sem]) (by simp -dsimp -implicitDefEqProofs only [go_sem]) (by simp -dsimp -implicitDefEqProofs only [go_sem]; rfl) h4
    | ok z =>
      rw [hs] at hq hr
      obtain ⟨h4, rfl⟩ := hq
      simp -dsimp -implicitDefEqProofs (disch := omega) only [go_sem]
      rw [hp] at h4
      exact refdo_t22 hr rfl (by simp -dsimp -implicitDefEqProofs only [go_sem]) (by simp -dsimp -implicitDefEqProofs only [go_sem]) (by simp -dsimp -implicitDefEqProofs only [go_sem]; rfl) h4
end
end
def sel (i a b : Nat) : Nat := if i = 0 then a else b
def lentF (d : List UInt8) (j : Nat) : List UInt8 := d ++ List.replicate j 238 ++ List.replicate (8 - j) 0
theorem lent_len (d : List UInt8) {j : Nat} (h : j ≤ 8) : (lentF d j).length = d.length + 8 := by simp [lentF]; omega
theorem lent_0 (d : List UInt8) : padF d (d.length + 8) = lentF d 0 := by
  unfold padF lentF
  rw [show d.length + 8 - d.length = 8 by omega, List.take_of_length_le (by simp)]
  simp
theorem lent_set (d : List UInt8) {j : Nat} (h : j < 8) : ((lentF d j).map bv).set (d.length + j) (.int .u8 238) = (lentF d (j + 1)).map bv := by
  have e : (.int .u8 238 : Value) = bv 238 := rfl
  rw [e, ← List.map_set]
  congr 1
  unfold lentF
  rw [List.append_assoc, List.append_assoc, List.set_append, if_neg (by omega), List.set_append, if_neg (by simp)]
  congr 1
  simp only [List.length_replicate]
  rw [show d.length + j - d.length - j = 0 by omega, show 8 - j = (8 - (j + 1)) + 1 by omega, List.replicate_succ, List.set_cons_zero, List.replicate_succ', List.append_assoc]
  rfl
theorem lent_take (d : List UInt8) (j : Nat) : (lentF d j).take d.length = d := by
  unfold lentF
  rw [List.append_assoc, List.take_left]
theorem lent_drop (d : List UInt8) : (lentF d 8).drop d.length = List.replicate 8 238 := by
  unfold lentF
  rw [List.append_assoc, List.drop_left]
  simp
section
variable {w0 w : World} {A : HP} {W b0 b1 r0 r1 bs rs i : Nat} {s : SD} {o : OpD} {vd v : Value}
theorem St.wCell (h : St w0 (wB W b0 b1 r0 r1 v * A) w) (hi : i < 2) : w.cell? ⟨W, i, none⟩ = some (ptV (sel i b0 b1)) ∧ w.cell? ⟨W, 2 + i, none⟩ = some (ptV (sel i r0 r1)) := by
  have hc := h.cl W
  rcases (by omega : i = 0 ∨ i = 1) with rfl | rfl
  · exact ⟨hc 0, hc 2⟩
  · exact ⟨hc 1, hc 3⟩
abbrev lentV (g n : Nat) : Value := .slice (some ⟨g, 0, none⟩) (n + 8) (n + 8)
section
attribute [local go_sem] F49.t7_eq F49.t8_eq F49.t18_eq F49.t19_eq F49.t20_eq F49.t16_eq F49.t9_eq
theorem opL_all (o : OpD) {a : Option Addr} {n c : Nat} : ∀ v ∈ opL o (.slice a n c), isCell v = true := by
  intro v hv
  simp only [opL, infL, List.cons_append, List.nil_append, List.mem_cons, List.not_mem_nil, or_false] at hv
  rcases hv with rfl | rfl | rfl | rfl | rfl | rfl | rfl | rfl | rfl | rfl | rfl | rfl | rfl | rfl | rfl | rfl | rfl | rfl | rfl | rfl <;> rfl
theorem opL_data (o : OpD) (v u : Value) : (opL o v).toArray.setIfInBounds 18 u = (opL o u).toArray := rfl
theorem lent_rd (g : Nat) (d : List UInt8) : Ent (RowO 5 1 (lentV g d.length) (d.length + 8) ((lentF d 8).map bv)) (RdB (.slice (some ⟨g, 0, none⟩) d.length (d.length + 8)) d) := by
  have r := Reads.sub (s := 1) (n := d.length + 8) (lo := 0) (k := d.length) (c := d.length + 8) (a := some ⟨g, 0, none⟩) (xs := (lentF d 8).map bv) (by omega)
  rw [Nat.mul_one, Nat.mul_one, if_neg (show ¬ d.length + 8 = 0 by omega), List.drop_zero, ← List.map_take, lent_take] at r
  exact (RowO.reads _ _ _ _ _).trans r
theorem lent_rd2 (g : Nat) (d : List UInt8) : Ent (RowO 5 1 (lentV g d.length) (d.length + 8) ((lentF d 8).map bv)) (RdB (.slice (some ⟨g, d.length, none⟩) 8 8) (List.replicate 8 238)) := by
  have r := Reads.sub (s := 1) (n := d.length + 8) (lo := d.length) (k := 8) (c := d.length + 8) (a := some ⟨g, 0, none⟩) (xs := (lentF d 8).map bv) (by omega)
  rw [Nat.mul_one, Nat.mul_one, if_neg (show ¬ d.length + 8 = d.length by omega), ← List.map_drop, lent_drop, show d.length + 8 - d.length = 8 by omega] at r
  have e : (some (⟨g, 0, none⟩ : Addr)).map (fun x => x.add d.length) = some ⟨g, d.length, none⟩ := by simp only [Option.map_some, add_lit, Nat.zero_add]
  rw [e] at r
  exact (RowO.reads _ _ _ _ _).trans r
theorem does_t16 {g n : Nat} {xs : List Value} {e : FA} {R : Ending → World → Prop} (hn : n ≤ 8388608) (hx : xs.length = n + 8) (hd : e.ds = []) (e8 : e.ρ 8 = lentV g n)
    (h : St w0 (RowO 5 1 (lentV g n) (n + 8) xs * A) w) (hR : ∀ w', St w0 A w' → R (.returned (.bool true)) w') :
    cwE Tryz.prog F49.t16 (fnP Tryz.prog #[.tmp 6] R) e w := by
  rw [F49.t16_eq]
  have h0 : St w0 (RowO 5 1 (lentV g n) (n + 8) (List.replicate 0 (bv 85) ++ xs.drop 0) * A) w := h
  simp -dsimp -implicitDefEqProofs (disch := omega) only [go_sem, hd, e8]
  refine loop_intro (fun e w' => e.ds = [] ∧ e.ρ 8 = lentV g n ∧ ∃ k : Nat, k ≤ n + 8 ∧ e.ρ 15 = .int .i64 k ∧ St w0 (RowO 5 1 (lentV g n) (n + 8) (List.replicate k (bv 85) ++ xs.drop k) * A) w')
    (fun e _ => match e.ρ 15 with | .int _ x => (n + 8 - x).toNat | _ => 0) ?_ ?_
  · exact ⟨by simp -dsimp -implicitDefEqProofs only [go_sem, hd], by simp -dsimp -implicitDefEqProofs only [go_sem, e8], 0, by omega, by simp -dsimp -implicitDefEqProofs only [go_sem], h0⟩
  clear h h0 hd e8
  rintro e w ⟨hd, e8, k, hk, e15, h⟩
  by_cases hlt : (k : Int) < (n + 8 : Nat)
  case neg =>
    simp -dsimp -implicitDefEqProofs (disch := omega) only [go_sem, hd, e8, e15, hlt]
    exact hR _ h.right
  simp -dsimp -implicitDefEqProofs (disch := omega) only [go_sem, hd, e8, e15, hlt]
  rw [show (⟨g, k, none⟩ : Addr) = ⟨g, 0 + k, none⟩ by rw [Nat.zero_add]]
  refine h.rowSet1 (g := g) (o := 0) (n := n + 8) (c := n + 8) (k := k) (v := .int .u8 85) (by simp; omega) rfl fun w2 h2 => ?_
  rw [show (.int .u8 85 : Value) = bv 85 from rfl, fill_set _ (by omega)] at h2
  simp -dsimp -implicitDefEqProofs (disch := omega) only [go_sem, hd, e8, e15]
  exact ⟨⟨k + 1, by omega, by omega, h2⟩, by omega⟩
end
section
attribute [local go_sem] F49.t7_eq F49.t8_eq F49.t18_eq F49.t19_eq F49.t20_eq F49.t9_eq
theorem does_t9 [Gives A Tabs] {B g co : Nat} {ao : Option Addr} {e : FA} (hi : i < 2) (hb : sel i b0 b1 = bs) (hr : sel i r0 r1 = rs) (hin : OpIn o) (hdl : o.data.length ≤ 8388608) (hkind : o.kind < 256) (hs : Wf s) (hnext : s.next < 9223372036854775808) (hvd : ∃ a c, vd = .slice a o.data.length c)
    (hd : e.ds = []) (e0 : e.ρ 0 = .pointer (some ⟨W, 0, none⟩)) (e1 : e.ρ 1 = .int .i64 i) (e5 : e.ρ 5 = .pointer (some ⟨B, 0, none⟩)) (e7 : e.ρ 7 = .slice ao o.data.length co) (e8 : e.ρ 8 = lentV g o.data.length)
    (h : St w0 (RowO 5 1 (lentV g o.data.length) (o.data.length + 8) ((lentF o.data 8).map bv) * (RowBy (.slice ao o.data.length co) o.data * (opB B o vd * (wB W b0 b1 r0 r1 v * (StoreP bs 0 0 s * (RefP rs s * A)))))) w) :
    cwE Tryz.prog F49.t9 (fnP Tryz.prog #[.tmp 6] fun e w' => St w0 (wB W b0 b1 r0 r1 v * (StoreP bs 0 0 (doF s o).1 * (RefP rs (doF s o).1 * A))) w' ∧ e = .returned (.bool true)) e w := by
  rw [F49.t9_eq]
  simp -dsimp -implicitDefEqProofs (disch := omega) only [go_sem, hd, e0, e1, e5, e7, e8, h.rowH B 20 rfl]
  refine h.new fun C w1 h1 => ?_
  simp -dsimp -implicitDefEqProofs (disch := omega) only [go_sem, hd, e0, e1, e5, e7, e8]
  obtain ⟨ad, cd, hvd⟩ := hvd
  refine h1.stoAll (b := C) (cs := opL o vd) rfl rfl (by rw [hvd]; exact opL_all o) fun w2 h2 => ?_
  simp -dsimp -implicitDefEqProofs (disch := omega) only [go_sem, hd, e0, e1, e5, e7, e8]
  rw [if_neg (show ¬ o.data.length + 8 = Int.toNat 0 by simp), show (o.data.length : Int).toNat - Int.toNat 0 = o.data.length by simp, show o.data.length + 8 - Int.toNat 0 = o.data.length + 8 by simp, show Option.map (fun x : Addr => x.add (Int.toNat 0 * 1)) (some ⟨g, 0, none⟩) = some ⟨g, 0, none⟩ from rfl]
  refine h2.sto (b := C) (off := 18) (by simp [opL, infL]) rfl fun w3 h3 => ?_
  simp -dsimp -implicitDefEqProofs (disch := omega) only [go_sem, hd, e0, e1, e5, e7, e8]
  refine h3.sto (b := B) (off := 18) (by simp [opL, infL]) rfl fun w4 h4 => ?_
  rw [opL_data, opL_data] at h4
  have h5 : St w0 (opB C o (.slice (some ⟨g, 0, none⟩) o.data.length (o.data.length + 8)) * (RowO 5 1 (lentV g o.data.length) (o.data.length + 8) ((lentF o.data 8).map bv) * (RowBy (.slice ao o.data.length co) o.data * (opB B o (.slice ao o.data.length co) * (wB W b0 b1 r0 r1 v * (StoreP bs 0 0 s * (RefP rs s * A))))))) w4 := h4
  clear h h1 h2 h3 h4
  have hD := h5.drew
  obtain ⟨ws, wr⟩ := (h5.right.right.right.right).wCell hi
  obtain ⟨ds, dr⟩ := (hD.right.right.right.right).wCell hi
  rw [hb] at ws ds
  simp -dsimp -implicitDefEqProofs (disch := omega) only [go_sem, hd, e0, e1, e5, e7, e8, ws, ds, h5.rowH C 20 rfl, hD.rowH C 20 rfl]
  obtain ⟨X, hX⟩ : ∃ X, X = RowO 5 1 (lentV g o.data.length) (o.data.length + 8) ((lentF o.data 8).map bv) := ⟨_, rfl⟩
  obtain ⟨Y, hY⟩ : ∃ Y, Y = RowBy (.slice ao o.data.length co) o.data := ⟨_, rfl⟩
  have gX : Ent X (RdB (.slice (some ⟨g, 0, none⟩) o.data.length (o.data.length + 8)) o.data) := by rw [hX]; exact lent_rd g o.data
  have gX2 : Ent X (RdB (.slice (some ⟨g, o.data.length, none⟩) 8 8) (List.replicate 8 238)) := by rw [hX]; exact lent_rd2 g o.data
  have gY : Ent Y (RdB (.slice ao o.data.length co) o.data) := by rw [hY]; exact RowO.reads _ _ _ _ _
  rw [← hX, ← hY] at hD
  have h6 := hD.ac (show _ = StoreP bs 0 0 s * (opB C o (.slice (some ⟨g, 0, none⟩) o.data.length (o.data.length + 8)) * (X * (Y * (opB B o (.slice ao o.data.length co) * (wB W b0 b1 r0 r1 v * (RefP rs s * A)))))) by ac_rfl)
  haveI i1 : Gives X (RdB (.slice (some ⟨g, 0, none⟩) o.data.length (o.data.length + 8)) o.data) := ⟨gX⟩
  haveI i2 : Gives Y (RdB (.slice ao o.data.length co) o.data) := ⟨gY⟩
  refine (do_any (o := o) (vd := .slice (some ⟨g, 0, none⟩) o.data.length (o.data.length + 8)) hin hkind hnext h6).mono ?_
  rintro e' w6 ⟨h7, rfl⟩
  obtain ⟨r, hr2⟩ : ∃ r, r = doF s o := ⟨_, rfl⟩
  rw [← hr2] at h7 ⊢
  have wc : ∀ {w : World} {P Q R : HP}, St w0 (P * (opB C o (.slice (some ⟨g, 0, none⟩) o.data.length (o.data.length + 8)) * (X * (Y * (opB B o (.slice ao o.data.length co) * (wB W b0 b1 r0 r1 v * Q)))))) w → w.cell? ⟨W, i, none⟩ = some (ptV bs) ∧ w.cell? ⟨W, 2 + i, none⟩ = some (ptV rs) := fun h => by
    have := h.right.right.right.right.right.wCell hi
    rwa [hb, hr] at this
  have wc7 := wc (R := A) h7
  have wc7d := wc (R := A) h7.drew
  simp -dsimp -implicitDefEqProofs (disch := omega) only [go_sem, hd, e0, e1, e5, e7, e8, wc7.1, wc7.2, wc7d.1, wc7d.2, h7.rowH C 20 rfl, h7.drew.rowH C 20 rfl, h7.rowH B 20 rfl, h7.drew.rowH B 20 rfl]
  have h8 := h7.drew.ac (show _ = RefP rs s * (opB C o (.slice (some ⟨g, 0, none⟩) o.data.length (o.data.length + 8)) * (X * (Y * (opB B o (.slice ao o.data.length co) * (wB W b0 b1 r0 r1 v * (StoreP bs 0 0 r.1 * A)))))) by ac_rfl)
  refine (refDo_any (o := o) (vd := .slice ao o.data.length co) hin hkind hnext h8).mono ?_
  rintro e' w8 ⟨h9, rfl⟩
  rw [← hr2] at h9 ⊢
  have wc9 := wc (R := A) h9
  have wc9d := wc (R := A) h9.drew
  simp -dsimp -implicitDefEqProofs (disch := omega) only [go_sem, hd, e0, e1, e5, e7, e8, wc9.1, wc9.2, wc9d.1, wc9d.2, h9.rowH B 20 rfl, h9.drew.rowH B 20 rfl]
  have hE := h9.drew
  have tX : Ent (RefP rs r.1 * (opB C o (.slice (some ⟨g, 0, none⟩) o.data.length (o.data.length + 8)) * (X * (Y * (opB B o (.slice ao o.data.length co) * (wB W b0 b1 r0 r1 v * (StoreP bs 0 0 r.1 * A))))))) X := (Ent.right _ _).trans ((Ent.right _ _).trans (Ent.left _ _))
  have tY : Ent (RefP rs r.1 * (opB C o (.slice (some ⟨g, 0, none⟩) o.data.length (o.data.length + 8)) * (X * (Y * (opB B o (.slice ao o.data.length co) * (wB W b0 b1 r0 r1 v * (StoreP bs 0 0 r.1 * A))))))) Y := (Ent.right _ _).trans ((Ent.right _ _).trans ((Ent.right _ _).trans (Ent.left _ _)))
  refine St.str (bs := o.data) hE (tX.trans gX) Tryz.underlying43 Tryz.underlying5 Tryz.underlying9 ?_
  simp -dsimp -implicitDefEqProofs (disch := omega) only [go_sem, hd, e0, e1, e5, e7, e8]
  refine St.str (bs := o.data) hE (tY.trans gY) Tryz.underlying43 Tryz.underlying5 Tryz.underlying9 ?_
  simp -dsimp -implicitDefEqProofs (disch := omega) only [go_sem, hd, e0, e1, e5, e7, e8]
  rw [if_neg (show ¬ o.data.length + 8 = o.data.length by omega), show o.data.length + 8 - o.data.length = 8 by omega]
  refine St.str (bs := List.replicate 8 238) hE (tX.trans gX2) Tryz.underlying43 Tryz.underlying5 Tryz.underlying9 ?_
  have h88 : strOf (List.replicate 8 238) = { data := #[238, 238, 238, 238, 238, 238, 238, 238] } := rfl
  simp -dsimp -implicitDefEqProofs (disch := omega) only [go_sem, hd, e0, e1, e5, e7, e8, h88]
  refine does_t16 (n := o.data.length) (g := g) (xs := (lentF o.data 8).map bv) hdl (by rw [List.length_map, lent_len _ (Nat.le_refl _)]) (by simp -dsimp -implicitDefEqProofs only [go_sem, hd]) (by simp -dsimp -implicitDefEqProofs only [go_sem, e8]) (by rw [hX] at hE; exact hE.ac (show _ = _ * (wB W b0 b1 r0 r1 v * (StoreP bs 0 0 r.1 * (RefP rs r.1 * (A * (opB C o (.slice (some ⟨g, 0, none⟩) o.data.length (o.data.length + 8)) * (Y * opB B o (.slice ao o.data.length co))))))) by ac_rfl)) fun w' h' => ?_
  exact ⟨h'.ent (Ent.sep (Ent.rfl' _) (Ent.sep (Ent.rfl' _) (Ent.sep (Ent.rfl' _) (Ent.left _ _)))), rfl⟩
end
section
attribute [local go_sem] F49.t7_eq F49.t8_eq F49.t18_eq F49.t19_eq F49.t20_eq F49.t16_eq
theorem does_any [Gives A Tabs] [Gives A (RdB vd o.data)] (hi : i < 2) (hb : sel i b0 b1 = bs) (hr : sel i r0 r1 = rs) (hin : OpIn o) (hdl : o.data.length ≤ 8388608) (hkind : o.kind < 256) (hs : Wf s) (hnext : s.next < 9223372036854775808) (h : St w0 (wB W b0 b1 r0 r1 v * (StoreP bs 0 0 s * (RefP rs s * A))) w) :
    Calls Tryz.prog 49 #[.pointer (some ⟨W, 0, none⟩), .int .i64 i, .agg (opL o vd).toArray] w fun e w' => St w0 (wB W b0 b1 r0 r1 v * (StoreP bs 0 0 (doF s o).1 * (RefP rs (doF s o).1 * A))) w' ∧ e = .returned (.bool true) := by
  obtain ⟨ad, cd, hvd, _⟩ := (h.ent (Gives.ent (A := wB W b0 b1 r0 r1 v * (StoreP bs 0 0 s * (RefP rs s * A))) (B := RdB vd o.data))).bytes
  have hrd : Ent A (RdB vd o.data) := (‹Gives A (RdB vd o.data)›).ent
  refine F49.calls (by simp) ?_
  unfold F49.code
  simp -dsimp -implicitDefEqProofs (disch := omega) only [go_sem]
  refine h.new fun B w1 h1 => ?_
  have h1 : St w0 (opB B o vd * (wB W b0 b1 r0 r1 v * (StoreP bs 0 0 s * (RefP rs s * A)))) w1 := h1
  have b18 : w1.cell? ⟨B, 18, none⟩ = some (.slice ad o.data.length cd) := by rw [← hvd]; exact (h1.cl B) 18
  simp -dsimp -implicitDefEqProofs (disch := omega) only [go_sem, b18]
  refine (h1.nilR 5 1).app (v := .slice none 0 0) (m := o.data.length) (news := o.data.map bv) fact_rowTy_43 (by rw [← hvd]; exact (Ent.right _ _).trans ((Ent.right _ _).trans ((Ent.right _ _).trans ((Ent.right _ _).trans ((Ent.right _ _).trans hrd))))) Tryz.underlying43 (bytes_cells _) (fun hh => by simpa using hh) (by simp only [maxLen]; omega) (by omega) fun vo w2 h2 => ?_
  rw [Nat.zero_add, List.nil_append] at h2
  obtain ⟨ao, co, rfl, _⟩ := h2.rowForm vo
  simp -dsimp -implicitDefEqProofs (disch := omega) only [go_sem]
  rw [show (o.data.length : Int) + 8 = ((o.data.length + 8 : Nat) : Int) by omega]
  refine St.make1 h2 (n := o.data.length + 8) (c := o.data.length + 8) rowTy_bytes (Nat.le_refl _) (by omega) (by omega) fun g w3 h3 => ?_
  simp -dsimp -implicitDefEqProofs (disch := omega) only [go_sem]
  rw [show (⟨g, 0, none⟩ : Addr) = ⟨g, 0 + 0, none⟩ from rfl]
  refine h3.copyRow (g := g) (o := 0) (k := 0) (n := o.data.length + 8) (c := o.data.length + 8) (dl := o.data.length + 8) (m := o.data.length) (ys := o.data.map bv) Tryz.underlying43 (by kernel_rfl) (h3.right.left.ent (RowO.reads _ _ _ _ _)).rd (bv_isCell _) (by omega) fun w4 h4 => ?_
  rw [pad_row, lent_0] at h4
  simp -dsimp -implicitDefEqProofs (disch := omega) only [go_sem]
  refine loop_intro (fun e w' => e.ds = [] ∧ e.ρ 0 = .pointer (some ⟨W, 0, none⟩) ∧ e.ρ 1 = .int .i64 i ∧ e.ρ 5 = .pointer (some ⟨B, 0, none⟩) ∧ e.ρ 7 = .slice ao o.data.length co ∧ e.ρ 8 = lentV g o.data.length ∧ ∃ j : Nat, j ≤ 8 ∧ e.ρ 9 = .int .i64 (o.data.length + j : Nat) ∧
      St w0 (RowO 5 1 (lentV g o.data.length) (o.data.length + 8) ((lentF o.data j).map bv) * (RowBy (.slice ao o.data.length co) o.data * (opB B o vd * (wB W b0 b1 r0 r1 v * (StoreP bs 0 0 s * (RefP rs s * A)))))) w')
    (fun e _ => match e.ρ 9 with | .int _ x => (o.data.length + 8 - x).toNat | _ => 0) ?_ ?_
  · exact ⟨by simp -dsimp -implicitDefEqProofs only [go_sem], by simp -dsimp -implicitDefEqProofs only [go_sem], by simp -dsimp -implicitDefEqProofs only [go_sem], by simp -dsimp -implicitDefEqProofs only [go_sem], by simp -dsimp -implicitDefEqProofs only [go_sem], by simp -dsimp -implicitDefEqProofs only [go_sem], 0, by omega, by simp -dsimp -implicitDefEqProofs only [go_sem], h4⟩
  clear h h1 h2 h3 h4 b18
  rintro e w ⟨hd, e0, e1, e5, e7, e8, j, hj, e9, h⟩
  by_cases hlt : ((o.data.length + j : Nat) : Int) < (o.data.length + 8 : Nat)
  case neg =>
    have : j = 8 := by omega
    subst this
    simp -dsimp -implicitDefEqProofs (disch := omega) only [go_sem, hd, e0, e1, e5, e7, e8, e9, hlt]
    exact does_t9 hi hb hr hin hdl hkind hs hnext ⟨ad, cd, hvd⟩ (by simp -dsimp -implicitDefEqProofs only [go_sem, hd]) (by simp -dsimp -implicitDefEqProofs only [go_sem, e0]) (by simp -dsimp -implicitDefEqProofs only [go_sem, e1]) (by simp -dsimp -implicitDefEqProofs only [go_sem, e5]) (by simp -dsimp -implicitDefEqProofs only [go_sem, e7]) (by simp -dsimp -implicitDefEqProofs only [go_sem, e8]) h
  simp -dsimp -implicitDefEqProofs (disch := omega) only [go_sem, hd, e0, e1, e5, e7, e8, e9, hlt]
  rw [show (⟨g, o.data.length + j, none⟩ : Addr) = ⟨g, 0 + (o.data.length + j), none⟩ by rw [Nat.zero_add]]
  refine h.rowSet1 (g := g) (o := 0) (n := o.data.length + 8) (c := o.data.length + 8) (k := o.data.length + j) (v := .int .u8 238) (by rw [List.length_map, lent_len _ hj]; omega) rfl fun w2 h2 => ?_
  rw [lent_set _ (by omega)] at h2
  simp -dsimp -implicitDefEqProofs (disch := omega) only [go_sem, hd, e0, e1, e5, e7, e8, e9]
  exact ⟨⟨j + 1, by omega, by omega, h2⟩, by omega⟩
end
end
theorem read_few {s : SD} (h : Wf s) (p off : Nat) (k : Int) : (readS s p off k).length ≤ 65536 := by
  unfold readS
  cases hf : findN s.L p with
  | none => exact Nat.zero_le _
  | some n =>
    have := (h.ok n (find_some hf).1).few
    show (readF n off k).length ≤ _
    unfold readF
    split
    · exact Nat.zero_le _
    · simp only [List.length_take, List.length_drop]; omega
section
variable {w0 w : World} {A : HP} {W b0 b1 r0 r1 bs rs i p off : Nat} {s : SD} {k : Int}
theorem reads_any (hi : i < 2) (hb : sel i b0 b1 = bs) (hr : sel i r0 r1 = rs) (hs : Wf s) (hoff : off < 18446744073709551616) (hk : -9223372036854775808 ≤ k ∧ k ≤ 9223372036854775807) (h : St w0 (HeldP W b0 b1 r0 r1 * (StoreP bs 0 0 s * (RefP rs s * A))) w) :
    Calls Tryz.prog 55 #[.pointer (some ⟨W, 0, none⟩), .int .i64 i, .int .u64 p, .int .u64 off, .int .i64 k] w fun e w' => St w0 (HeldP W b0 b1 r0 r1 * (StoreP bs 0 0 s * (RefP rs s * A))) w' ∧ e = .returned (.bool true) := by
  obtain ⟨v, E, Gs, ok, h⟩ := h.heldO
  have hfew := read_few hs p off k
  refine F55.calls (by simp) ?_
  unfold F55.code
  have wc := h.wCell hi
  rw [hb, hr] at wc
  simp -dsimp -implicitDefEqProofs (disch := omega) only [go_sem, wc.1]
  have h1 := h.ac (show _ = StoreP bs 0 0 s * (wB W b0 b1 r0 r1 v * (heldR v E * (grps Gs * (RefP rs s * A)))) by ac_rfl)
  refine (sread_any (p := p) (off := off) (k := k) h1 hoff hk).mono ?_
  rintro e w1 ⟨v1, h2, rfl⟩
  have wc := h2.right.right.wCell hi
  rw [hb, hr] at wc
  simp -dsimp -implicitDefEqProofs (disch := omega) only [go_sem, wc.1]
  refine (sread_any (p := p) (off := off) (k := k) h2.sw2 hoff hk).mono ?_
  rintro e w2 ⟨v2, h3, rfl⟩
  have wc := h3.right.right.right.wCell hi
  rw [hb, hr] at wc
  simp -dsimp -implicitDefEqProofs (disch := omega) only [go_sem, wc.1, wc.2]
  have h4 := h3.ac (show _ = RefP rs s * (RowBy v1 (readS s p off k) * (RowBy v2 (readS s p off k) * (wB W b0 b1 r0 r1 v * (heldR v E * (grps Gs * (StoreP bs 0 0 s * A)))))) by ac_rfl)
  refine (refRead_any (p := p) (off := off) (k := k) hoff hk h4).mono ?_
  rintro e w3 ⟨v3, h5, rfl⟩
  obtain ⟨a1, c1, rfl, _⟩ := h5.rowForm v1
  obtain ⟨a2, c2, rfl, _⟩ := h5.rowForm v2
  have t3 : Ent (RowBy v3 (readS s p off k) * (RefP rs s * (RowBy (.slice a1 (readS s p off k).length c1) (readS s p off k) * (RowBy (.slice a2 (readS s p off k).length c2) (readS s p off k) * (wB W b0 b1 r0 r1 v * (heldR v E * (grps Gs * (StoreP bs 0 0 s * A)))))))) (RdB v3 (readS s p off k)) := (Ent.left _ _).trans (RowO.reads _ _ _ _ _)
  simp -dsimp -implicitDefEqProofs (disch := omega) only [go_sem]
  refine St.str (bs := readS s p off k) h5 ((Ent.right _ _).trans ((Ent.right _ _).trans ((Ent.left _ _).trans (RowO.reads _ _ _ _ _)))) Tryz.underlying43 Tryz.underlying5 Tryz.underlying9 ?_
  simp -dsimp -implicitDefEqProofs (disch := omega) only [go_sem]
  refine St.str (bs := readS s p off k) h5 t3 Tryz.underlying43 Tryz.underlying5 Tryz.underlying9 ?_
  simp -dsimp -implicitDefEqProofs (disch := omega) only [go_sem]
  refine St.str (bs := readS s p off k) h5 ((Ent.right _ _).trans ((Ent.right _ _).trans ((Ent.right _ _).trans ((Ent.left _ _).trans (RowO.reads _ _ _ _ _))))) Tryz.underlying43 Tryz.underlying5 Tryz.underlying9 ?_
  simp -dsimp -implicitDefEqProofs (disch := omega) only [go_sem]
  refine St.str (bs := readS s p off k) h5 t3 Tryz.underlying43 Tryz.underlying5 Tryz.underlying9 ?_
  simp -dsimp -implicitDefEqProofs (disch := omega) only [go_sem]
  refine h5.lit (t := 64) (n := 2) (cells := [.slice a1 (readS s p off k).length c1, .slice a2 (readS s p off k).length c2]) fact_rowTy_64 rfl (by decide) (by decide) fun v5 w5 h6 => ?_
  obtain ⟨a5, c5, rfl, _⟩ := h6.rowForm v5
  obtain ⟨gl, ol, rfl, _⟩ := (h6.left.ent (RowO.reads _ _ _ _ _)).atS (a := a5) (n := 2) (c := c5) (xs := [.slice a1 (readS s p off k).length c1, .slice a2 (readS s p off k).length c2]) (k := 0) (by simp)
  simp -dsimp -implicitDefEqProofs (disch := omega) only [go_sem]
  obtain ⟨X, hX⟩ : ∃ X, X = RowO 43 1 (.slice (some ⟨gl, ol, none⟩) 2 c5) 2 [.slice a1 (readS s p off k).length c1, .slice a2 (readS s p off k).length c2] := ⟨_, rfl⟩
  have gX : Ent X (Reads 1 (.slice (some ⟨gl, ol, none⟩) 2 c5) 2 [.slice a1 (readS s p off k).length c1, .slice a2 (readS s p off k).length c2]) := by rw [hX]; exact RowO.reads _ _ _ _ _
  rw [← hX] at h6
  haveI : Gives X (Reads 1 (.slice (some ⟨gl, ol, none⟩) 2 c5) 2 [.slice a1 (readS s p off k).length c1, .slice a2 (readS s p off k).length c2]) := ⟨gX⟩
  have h7 := St.heldS (A := RowBy (.slice a1 (readS s p off k).length c1) (readS s p off k) * (RowBy (.slice a2 (readS s p off k).length c2) (readS s p off k) * (X * (StoreP bs 0 0 s * (RefP rs s * (A * RowBy v3 (readS s p off k))))))) ok (h6.ac (by ac_rfl))
  refine (own_any (gl := gl) (ol := ol) (cl := c5) (by omega) (by omega) h7).mono ?_
  rintro e w6 ⟨h8, rfl⟩
  simp -dsimp -implicitDefEqProofs (disch := omega) only [go_sem]
  exact h8.ent (Ent.sep (Ent.rfl' _) ((Ent.right _ _).trans (Ent.sep (Ent.rfl' _) (Ent.sep (Ent.rfl' _) (Ent.left _ _)))))
end
theorem least_root {s : SD} (hw : Wf s) : ∃ x r, tellL s = x :: r ∧ x.path = 1 := by
  obtain ⟨n, hf, _, _⟩ := hw.root
  obtain ⟨hn, hp⟩ := find_some hf
  obtain ⟨j, hj, hjn⟩ := List.getElem_of_mem hn
  have h0 : 0 < s.L.length := by omega
  have hb := (hw.below _ (List.getElem_mem h0)).1
  have h1 : s.L[0].i.path = 1 := by
    rcases Nat.eq_zero_or_pos j with h | h
    · subst h; rw [hjn]; exact hp
    · have := List.pairwise_iff_getElem.1 hw.rise 0 j h0 hj h
      rw [hjn, hp] at this
      omega
  have hl : 0 < (tellL s).length := by rw [tell_len]; exact h0
  obtain ⟨x, r, ht⟩ : ∃ x r, tellL s = x :: r := by
    cases h : tellL s with
    | nil => rw [h] at hl; simp at hl
    | cons a b => exact ⟨a, b, rfl⟩
  refine ⟨x, r, ht, ?_⟩
  have h2 : (tellL s)[0]? = some x := by rw [ht]; rfl
  have h3 : (tellL s)[0]? = some (tellF s.L s.L[0]) := by unfold tellL; rw [List.getElem?_map, List.getElem?_eq_getElem h0]; rfl
  rw [h3] at h2
  cases h2
  exact h1
section
attribute [local go_sem] F46.t3_eq
end
abbrev NodeL (v : Value) (l : List Inf) : HP := RowO 42 13 v l.length (l.flatMap infL)
def ListJ (S : Nat) (l : List Inf) : HP := HP.ex fun v => Blk S (.cells #[v] 50 (0, 0)) * NodeL v l
theorem ListJ.open {w0 w : World} {S : Nat} {l : List Inf} {F : HP} (h : St w0 (ListJ S l * F) w) : ∃ v, St w0 (Blk S (.cells #[v] 50 (0, 0)) * (NodeL v l * F)) w := by
  obtain ⟨v, h1⟩ := h.exF
  exact ⟨v, h1.ac (by ac_rfl)⟩
theorem ListJ.mk {S : Nat} {l : List Inf} (v : Value) : Ent (Blk S (.cells #[v] 50 (0, 0)) * NodeL v l) (ListJ S l) := Ent.ex (fun v => Blk S (.cells #[v] 50 (0, 0)) * NodeL v l) v
theorem St.infA {w0 w : World} {A : HP} (h : St w0 A w) {g o c : Nat} {l : List Inf} (hr : Ent A (Reads 13 (.slice (some ⟨g, o, none⟩) l.length c) l.length (l.flatMap infL))) {i : Nat} (hi : i < l.length) :
    rowV w ⟨g, o + i * 13, none⟩ 13 = some (.agg (infL l[i]).toArray) ∧ ∀ j, j < 13 → w.cell? ⟨g, o + i * 13 + j, none⟩ = (infL l[i])[j]? := by
  obtain ⟨_, a', c', hv, _, hat⟩ := St.rowsAt (enc := infL) (l := l) (k := 13) (fun _ => rfl) (by decide) (h.ent hr)
  simp only [Value.slice.injEq, true_and] at hv
  obtain ⟨rfl, rfl⟩ := hv
  obtain ⟨g', o', e, h1, h2⟩ := hat i hi
  simp only [Option.some.injEq, Addr.mk.injEq, and_true] at e
  obtain ⟨rfl, rfl⟩ := e
  exact ⟨h1, h2⟩
abbrev intK (K : Nat) (z : Int) : HP := Blk K (.cells #[.int .i64 z] 3 (0, 0))
abbrev boolK (K : Nat) (z : Bool) : HP := Blk K (.cells #[.bool z] 4 (0, 0))
abbrev wantC (T5 : Nat) (v : Value) (l : List Inf) (A : HP) : HP := Blk T5 (.cells #[v] 50 (0, 0)) * (NodeL v l * A)
section
variable {w0 w : World} {A : HP}
section
attribute [local go_sem] F21.t15_eq F21.t17_eq F21.t8_eq F21.t21_eq F21.t22_eq F21.t25_eq F21.t19_eq F21.t5_eq
theorem wall_b0 {T5 T7 T8 P l m rd g o c : Nat} {L : List Inf} {e : FA} {AJ : HP} {BX : Code → HP} (hm : m < L.length) (hL : L.length ≤ 1000000) (hrd : rd ≤ 3)
    (hd : e.ds = []) (e5 : e.ρ 5 = .pointer (some ⟨T5, 0, none⟩)) (e7 : e.ρ 7 = .pointer (some ⟨T7, 0, none⟩)) (e8 : e.ρ 8 = .pointer (some ⟨T8, 0, none⟩)) (e9 : e.ρ 9 = .pointer (some ⟨P, 0, none⟩))
    (h : St w0 (infB P L[m] * (intK T8 m * (intK T7 rd * wantC T5 (.slice (some ⟨g, o, none⟩) L.length c) L A))) w)
    (hgo : ∀ w', St w0 (intK T8 (m + 1 : Nat) * (intK T7 rd * wantC T5 (.slice (some ⟨g, o, none⟩) L.length c) L A)) w' → St w0 AJ w')
    (hbr : rd = 1 → ∀ w', St w0 (intK T8 (m + 1 : Nat) * (intK T7 rd * wantC T5 (.slice (some ⟨g, o, none⟩) L.length c) L A)) w' → St w0 (BX (.exit 2)) w') :
    cwRE Tryz.prog l F21.b0 (roundQ w0 AJ BX) e w := by
  unfold F21.b0
  have hq : (L.length : Int).tdiv 2 = ((L.length / 2 : Nat) : Int) := quo2 _
  have hD := h.drew
  have r1 := (h.right.right.right.right.left.ent (RowO.reads _ _ _ _ _)).infA (l := L) (Ent.rfl' _) hm
  have r2 := (hD.right.right.right.right.left.ent (RowO.reads _ _ _ _ _)).infA (l := L) (Ent.rfl' _) hm
  have hml : ¬ (L.length : Int) ≤ m := by omega
  have hml2 : (m : Int) < L.length := by omega
  simp -dsimp -implicitDefEqProofs (disch := omega) only [go_sem, hd, e5, e7, e8, e9, h.cl T8, h.cl T5, hD.cl T8, hD.cl T5, r1.1, r2.1, hml, hml2, h.rowH P 13 rfl, hD.rowH P 13 rfl]
  refine hD.sto (b := T8) (off := 0) (by simp) rfl fun w2 h2 => ?_
  simp only [List.setIfInBounds_toArray, List.set_cons_zero] at h2
  rw [show ((m : Int) + 1) = ((m + 1 : Nat) : Int) by omega] at h2 ⊢
  clear h hD r1 r2
  by_cases h1 : (rd : Int) = 1
  · by_cases h3 : ((m + 1 : Nat) : Int) = ((L.length / 2 : Nat) : Int)
    · simp -dsimp -implicitDefEqProofs (disch := omega) only [go_sem, hd, e5, e7, e8, h2.cl T8, h2.cl T7, h2.cl T5, h1, hq, h3]
      exact hbr (by omega) _ h2.right
    · simp -dsimp -implicitDefEqProofs (disch := omega) only [go_sem, hd, e5, e7, e8, h2.cl T8, h2.cl T7, h2.cl T5, h1, hq, h3]
      exact hgo _ h2.right
  · simp -dsimp -implicitDefEqProofs (disch := omega) only [go_sem, hd, e5, e7, e8, h2.cl T8, h2.cl T7, h2.cl T5, h1, hq]
    exact hgo _ h2.right
theorem marks_ret {P : Program} {Ms : List Nat} {F : HP} {K : World → Prop} : ∀ {w : World}, St w0 (starL (fun M => Blk M (.deferred (some []))) Ms * F) w → (∀ w', St w0 F w' → K w') → retD P (Ms.map fun M => ({ target := .collected M, args := #[] } : Deferred)) K w := by
  induction Ms with
  | nil => intro w h hK; exact hK _ h.right
  | cons M Ms ih =>
    intro w h hK
    have h1 : St w0 (Blk M (.deferred (some [])) * (starL (fun M => Blk M (.deferred (some []))) Ms * F)) w := h.ac (sep_assoc _ _ _)
    exact St.mark h1 fun w' h2 => ih h2.right hK
abbrev mkD (M : Nat) : HP := Blk M (.deferred (some []))
abbrev mkF (Ms : List Nat) : List Deferred := Ms.map fun M => ({ target := .collected M, args := #[] } : Deferred)
abbrev itV (K : Nat) : Value := .func (.func 46) #[] #[.pointer (some ⟨K, 0, none⟩)]
structure WF (e : FA) (W i C4 T5 K T7 : Nat) (Ms : List Nat) : Prop where
  ds : e.ds = mkF Ms
  e0 : e.ρ 0 = .pointer (some ⟨W, 0, none⟩)
  e1 : e.ρ 1 = .int .i64 i
  e4 : e.ρ 4 = .pointer (some ⟨C4, 0, none⟩)
  e5 : e.ρ 5 = .pointer (some ⟨T5, 0, none⟩)
  e6 : e.ρ 6 = itV K
  e7 : e.ρ 7 = .pointer (some ⟨T7, 0, none⟩)
end
section
attribute [local go_sem] F21.t15_eq F21.t21_eq F21.t22_eq F21.t25_eq F21.t19_eq F21.t5_eq
theorem wall_t17 {W i C4 T5 K T7 rd : Nat} {Ms : List Nat} {e : FA} {Q : Post} (hrd : rd ≤ 3) (f : WF e W i C4 T5 K T7 Ms) (h : St w0 (intK T7 rd * A) w)
    (hQ : ∀ T7' e' w', WF e' W i C4 T5 K T7' Ms → St w0 (intK T7' (rd + 1 : Nat) * A) w' → Q .normal e' w') : cwE Tryz.prog F21.t17 Q e w := by
  rw [F21.t17_eq]
  obtain ⟨hd, e0, e1, e4, e5, e6, e7⟩ := f
  simp -dsimp -implicitDefEqProofs (disch := omega) only [go_sem, e7, h.cl T7]
  refine h.new fun T w1 h1 => ?_
  simp -dsimp -implicitDefEqProofs (disch := omega) only [go_sem, e7]
  refine h1.sto (b := T) (off := 0) (by simp) rfl fun w2 h2 => ?_
  simp only [List.setIfInBounds_toArray, List.set_cons_zero] at h2
  simp -dsimp -implicitDefEqProofs (disch := omega) only [go_sem, h2.cl T]
  refine h2.sto (b := T) (off := 0) (by simp) rfl fun w3 h3 => ?_
  simp only [List.setIfInBounds_toArray, List.set_cons_zero] at h3
  simp -dsimp -implicitDefEqProofs (disch := omega) only [go_sem]
  rw [show ((rd : Int) + 1) = ((rd + 1 : Nat) : Int) by omega] at h3
  exact hQ T _ _ ⟨by simp -dsimp -implicitDefEqProofs only [go_sem, hd], by simp -dsimp -implicitDefEqProofs only [go_sem, e0], by simp -dsimp -implicitDefEqProofs only [go_sem, e1], by simp -dsimp -implicitDefEqProofs only [go_sem, e4], by simp -dsimp -implicitDefEqProofs only [go_sem, e5], by simp -dsimp -implicitDefEqProofs only [go_sem, e6], by simp -dsimp -implicitDefEqProofs only [go_sem]⟩ (h3.ent (Ent.sep (Ent.rfl' _) (Ent.right _ _)))
def BrX (rd : Nat) (J : List Inf → HP) (c : Code) (pre : List Inf) : HP := HP.fact (c = .exit 2 ∧ rd = 1) (J pre)
theorem BrX.open {rd : Nat} {J : List Inf → HP} {c : Code} {pre : List Inf} {F : HP} (h : St w0 (BrX rd J c pre * F) w) : (c = .exit 2 ∧ rd = 1) ∧ St w0 (J pre * F) w := by
  unfold BrX at h
  exact h.factF
end
section
attribute [local go_sem] F21.t15_eq F21.t21_eq F21.t22_eq F21.t25_eq F21.t19_eq F21.t5_eq
theorem wall_t8 {W i C4 T5 K T7 rd b g o c : Nat} {s : SD} {Ms : List Nat} {e : FA} {Q : Post} (hs : Wf s) (hrd : rd < 3) (f : WF e W i C4 T5 K T7 Ms)
    (h : St w0 (intK T7 rd * (boolK C4 false * (StoreP b 0 0 s * (ptrS K b * wantC T5 (.slice (some ⟨g, o, none⟩) (tellL s).length c) (tellL s) (starL mkD Ms * A))))) w)
    (hQ : ∀ T7' M e' w', WF e' W i C4 T5 K T7' (M :: Ms) → St w0 (intK T7' (rd + 1 : Nat) * (boolK C4 false * (StoreP b 0 0 s * (ptrS K b * wantC T5 (.slice (some ⟨g, o, none⟩) (tellL s).length c) (tellL s) (starL mkD (M :: Ms) * A))))) w' → Q .normal e' w') :
    cwE Tryz.prog F21.t8 Q e w := by
  rw [F21.t8_eq]
  obtain ⟨hd, e0, e1, e4, e5, e6, e7⟩ := f
  have hlen := tell_len s
  have hf := hs.few
  have hm := hs.most
  simp -dsimp -implicitDefEqProofs (disch := omega) only [go_sem, e6]
  refine h.new fun T8 w1 h1 => ?_
  simp -dsimp -implicitDefEqProofs (disch := omega) only [go_sem, e6]
  refine h1.sto (b := T8) (off := 0) (by simp) rfl fun w2 h2 => ?_
  simp only [List.setIfInBounds_toArray, List.set_cons_zero] at h2
  simp -dsimp -implicitDefEqProofs (disch := omega) only [go_sem, e6]
  have h3 : St w0 ((intK T8 (([] : List Inf).length : Nat) * (intK T7 rd * wantC T5 (.slice (some ⟨g, o, none⟩) (tellL s).length c) (tellL s) (boolK C4 false))) * (StoreP b 0 0 s * (ptrS K b * (starL mkD Ms * A)))) w2 := h2.ac (by unfold wantC; show Blk T8 (.cells #[.int .i64 0] 3 (0, 0)) * _ = (Blk T8 (.cells #[.int .i64 0] 3 (0, 0)) * _) * _; ac_rfl)
  refine range_introA h3 (gf := 46) (lb := #[.pointer (some ⟨K, 0, none⟩)]) (by simp -dsimp -implicitDefEqProofs only [go_sem]) fact_fnOk_46 (Pass := PassI)
    (fun pre => intK T8 (pre.length : Nat) * (intK T7 rd * wantC T5 (.slice (some ⟨g, o, none⟩) (tellL s).length c) (tellL s) (boolK C4 false))) (BrX rd fun pre => intK T8 (pre.length : Nat) * (intK T7 rd * wantC T5 (.slice (some ⟨g, o, none⟩) (tellL s).length c) (tellL s) (boolK C4 false))) (Ent.rfl' _) ?_ (allIter (K := K) (R := starL mkD Ms * A) hs) ?_ ?_
  · intro q pre x args G W1 hpo h6
    have h6 : St w0 ((intK T8 (pre.length : Nat) * (intK T7 rd * wantC T5 (.slice (some ⟨g, o, none⟩) (tellL s).length c) (tellL s) (boolK C4 false))) * (PassI x args * G)) W1 := h6
    obtain ⟨rfl, h7⟩ := PassI.open (h6.ac (by ac_rfl : _ = PassI x args * ((intK T8 (pre.length : Nat) * (intK T7 rd * wantC T5 (.slice (some ⟨g, o, none⟩) (tellL s).length c) (tellL s) (boolK C4 false))) * G)))
    refine ⟨rfl, ?_⟩
    obtain ⟨post, hpo⟩ := hpo
    have hml : pre.length < (tellL s).length := by rw [← hpo]; simp
    have hx : (tellL s)[pre.length] = x := by simp only [← hpo]; simp
    unfold F21.a0
    simp -dsimp -implicitDefEqProofs (disch := omega) only [go_sem, List.toList_toArray]
    refine h6.new fun P w5 h8 => ?_
    simp -dsimp -implicitDefEqProofs (disch := omega) only [go_sem]
    refine h8.stoAll (b := P) (n := 13) (cs := infL x) rfl rfl (infL_cells x) fun w6 h9 => ?_
    simp -dsimp -implicitDefEqProofs (disch := omega) only [go_sem]
    refine ⟨infB P x, h9, fun G2 W2 hl2 h10 => ?_⟩
    have h10 : St w0 (infB P x * ((intK T8 (pre.length : Nat) * (intK T7 rd * wantC T5 (.slice (some ⟨g, o, none⟩) (tellL s).length c) (tellL s) (boolK C4 false))) * (PassI x #[.agg (infL x).toArray] * G2))) W2 := h10
    have h11 : St w0 (infB P (tellL s)[pre.length] * (intK T8 (pre.length : Nat) * (intK T7 rd * wantC T5 (.slice (some ⟨g, o, none⟩) (tellL s).length c) (tellL s) (boolK C4 false * G2)))) W2 := by
      rw [hx]
      exact (h10.ent (Ent.sep (Ent.rfl' _) (Ent.sep (Ent.rfl' _) (Ent.right _ _)))).ac (by unfold wantC; ac_rfl)
    have hfin : ∀ w', St w0 (intK T8 (pre.length + 1 : Nat) * (intK T7 rd * wantC T5 (.slice (some ⟨g, o, none⟩) (tellL s).length c) (tellL s) (boolK C4 false * G2))) w' → St w0 ((intK T8 ((pre ++ [x]).length : Nat) * (intK T7 rd * wantC T5 (.slice (some ⟨g, o, none⟩) (tellL s).length c) (tellL s) (boolK C4 false))) * G2) w' := fun w' h => by
      rw [show (pre ++ [x]).length = pre.length + 1 by simp]
      exact h.ac (by unfold wantC; ac_rfl)
    refine wall_b0 (P := P) hml (by omega) (by omega) (by simp -dsimp -implicitDefEqProofs only [go_sem]) (by simp -dsimp -implicitDefEqProofs only [go_sem, e5]) (by simp -dsimp -implicitDefEqProofs only [go_sem, e7]) (by simp -dsimp -implicitDefEqProofs only [go_sem]) (by simp -dsimp -implicitDefEqProofs only [go_sem]) h11 hfin fun h1 w' h => ?_
    exact (hfin w' h).ent (Ent.sep (Ent.fact (p := Code.exit 2 = .exit 2 ∧ rd = 1) ⟨rfl, h1⟩ _) (Ent.rfl' _))
  · intro M xs w' hS h6
    subst hS
    have h7 : St w0 (intK T7 rd * (intK T8 ((tellL s).length : Nat) * (boolK C4 false * (StoreP b 0 0 s * (ptrS K b * wantC T5 (.slice (some ⟨g, o, none⟩) (tellL s).length c) (tellL s) (starL mkD (M :: Ms) * A)))))) w' := h6.ac (by unfold wantC; show _ = _ * (_ * (_ * (_ * (_ * (_ * (_ * ((Blk M (.deferred (some [])) * starL mkD Ms) * A))))))); ac_rfl)
    have hz : ¬ ((tellL s).length : Int) ≠ (tellL s).length := fun h => h rfl
    have fin : ∀ {e' : FA}, WF e' W i C4 T5 K T7 (M :: Ms) → cwE Tryz.prog F21.t17 Q e' w' := fun f' => wall_t17 (by omega) f' h7 fun T7' e'' w'' f'' h'' => hQ T7' M e'' w'' f'' (h''.ent (Ent.sep (Ent.rfl' _) (Ent.right _ _)))
    by_cases h1 : (rd : Int) = 1
    · simp -dsimp -implicitDefEqProofs (disch := omega) only [go_sem, e5, e7, h7.cl T7, h7.cl T8, h7.cl T5, h1]
      exact fin ⟨by simp -dsimp -implicitDefEqProofs only [go_sem, hd], by simp -dsimp -implicitDefEqProofs only [go_sem, e0], by simp -dsimp -implicitDefEqProofs only [go_sem, e1], by simp -dsimp -implicitDefEqProofs only [go_sem, e4], by simp -dsimp -implicitDefEqProofs only [go_sem, e5], by simp -dsimp -implicitDefEqProofs only [go_sem, e6], by simp -dsimp -implicitDefEqProofs only [go_sem, e7]⟩
    · simp -dsimp -implicitDefEqProofs (disch := omega) only [go_sem, e5, e7, h7.cl T7, h7.cl T8, h7.cl T5, h1]
      exact fin ⟨by simp -dsimp -implicitDefEqProofs only [go_sem, hd], by simp -dsimp -implicitDefEqProofs only [go_sem, e0], by simp -dsimp -implicitDefEqProofs only [go_sem, e1], by simp -dsimp -implicitDefEqProofs only [go_sem, e4], by simp -dsimp -implicitDefEqProofs only [go_sem, e5], by simp -dsimp -implicitDefEqProofs only [go_sem, e6], by simp -dsimp -implicitDefEqProofs only [go_sem, e7]⟩
  · intro M cd pre w' h6
    obtain ⟨⟨rfl, h1⟩, h6b⟩ := BrX.open h6.sw2
    have h7 : St w0 (intK T7 rd * (intK T8 (pre.length : Nat) * (boolK C4 false * (StoreP b 0 0 s * (ptrS K b * wantC T5 (.slice (some ⟨g, o, none⟩) (tellL s).length c) (tellL s) (starL mkD (M :: Ms) * A)))))) w' := h6b.ac (by unfold wantC; show _ = _ * (_ * (_ * (_ * (_ * (_ * (_ * ((Blk M (.deferred (some [])) * starL mkD Ms) * A))))))); ac_rfl)
    have h1 : (rd : Int) = 1 := by omega
    simp -dsimp -implicitDefEqProofs (disch := omega) only [go_sem, e5, e7, h7.cl T7, h1]
    refine wall_t17 (by omega) (⟨by simp -dsimp -implicitDefEqProofs only [go_sem, hd], by simp -dsimp -implicitDefEqProofs only [go_sem, e0], by simp -dsimp -implicitDefEqProofs only [go_sem, e1], by simp -dsimp -implicitDefEqProofs only [go_sem, e4], by simp -dsimp -implicitDefEqProofs only [go_sem, e5], by simp -dsimp -implicitDefEqProofs only [go_sem, e6], by simp -dsimp -implicitDefEqProofs only [go_sem, e7]⟩ : WF _ W i C4 T5 K T7 (M :: Ms)) h7 fun T7' e'' w'' f'' h'' => hQ T7' M e'' w'' f'' (h''.ent (Ent.sep (Ent.rfl' _) (Ent.right _ _)))
end
end
theorem St.infSome {w0 w : World} {a : Option Addr} {c : Nat} {l : List Inf} (h : St w0 (Reads 13 (.slice a l.length c) l.length (l.flatMap infL)) w) (hl : 0 < l.length) : ∃ g o, a = some ⟨g, o, none⟩ := by
  obtain ⟨_, a', c', hv, _, hat⟩ := St.rowsAt (enc := infL) (l := l) (k := 13) (fun _ => rfl) (by decide) h
  simp only [Value.slice.injEq, true_and] at hv
  obtain ⟨rfl, rfl⟩ := hv
  obtain ⟨g', o', e, _⟩ := hat 0 hl
  exact ⟨g', o', e⟩
section
variable {w0 w : World} {A : HP} {W b0 b1 r0 r1 bs rs i : Nat} {s : SD}
theorem HeldP.cell {F : HP} (hi : i < 2) (h : St w0 (HeldP W b0 b1 r0 r1 * F) w) : w.cell? ⟨W, i, none⟩ = some (ptV (sel i b0 b1)) ∧ w.cell? ⟨W, 2 + i, none⟩ = some (ptV (sel i r0 r1)) := by
  obtain ⟨v, E, Gs, ok, h⟩ := h.heldO
  exact h.wCell hi
section
attribute [local go_sem] F21.t15_eq F21.t17_eq F21.t8_eq F21.t21_eq F21.t22_eq F21.t25_eq F21.t19_eq F21.t5_eq
theorem wall_t25 {C4 T5 g o c : Nat} {Ms : List Nat} {e : FA} (hd : e.ds = mkF Ms) (e4 : e.ρ 4 = .pointer (some ⟨C4, 0, none⟩))
    (h : St w0 (HeldP W b0 b1 r0 r1 * (StoreP bs 0 0 s * (RefP rs s * (boolK C4 false * wantC T5 (.slice (some ⟨g, o, none⟩) (tellL s).length c) (tellL s) (starL mkD Ms * A))))) w) :
    cwE Tryz.prog F21.t25 (fnP Tryz.prog #[.cell 4 4] fun e w' => St w0 (HeldP W b0 b1 r0 r1 * (StoreP bs 0 0 s * (RefP rs s * A))) w' ∧ e = .returned (.bool true)) e w := by
  rw [F21.t25_eq]
  simp -dsimp -implicitDefEqProofs (disch := omega) only [go_sem, hd, e4]
  refine h.sto (b := C4) (off := 0) (by simp) rfl fun w1 h1 => ?_
  simp only [List.setIfInBounds_toArray, List.set_cons_zero] at h1
  simp -dsimp -implicitDefEqProofs (disch := omega) only [go_sem, hd, e4]
  refine marks_ret (Ms := Ms) (h1.ac (show _ = starL mkD Ms * (Blk C4 (.cells #[.bool true] 4 (0, 0)) * (HeldP W b0 b1 r0 r1 * (StoreP bs 0 0 s * (RefP rs s * (A * (Blk T5 (.cells #[.slice (some ⟨g, o, none⟩) (tellL s).length c] 50 (0, 0)) * NodeL (.slice (some ⟨g, o, none⟩) (tellL s).length c) (tellL s))))))) by unfold wantC; ac_rfl)) fun w2 h2 => ?_
  refine resC_1 (a := ⟨C4, 0, none⟩) (v := .bool true) (by simp -dsimp -implicitDefEqProofs only [go_sem, e4]) (run_loadVar_cell fact_aggSz_4 (by rw [h2.cl C4]; rfl)) ?_
  exact ⟨h2.right.ent (Ent.sep (Ent.rfl' _) (Ent.sep (Ent.rfl' _) (Ent.sep (Ent.rfl' _) (Ent.left _ _)))), rfl⟩
end
section
attribute [local go_sem] F21.t15_eq F21.t17_eq F21.t8_eq F21.t21_eq F21.t22_eq F21.t19_eq F21.t5_eq
theorem wall_t19 {C4 T5 g o c : Nat} {Ms : List Nat} {e : FA} (hi : i < 2) (hb : sel i b0 b1 = bs) (hr : sel i r0 r1 = rs) (hs : Wf s)
    (hd : e.ds = mkF Ms) (e0 : e.ρ 0 = .pointer (some ⟨W, 0, none⟩)) (e1 : e.ρ 1 = .int .i64 i) (e4 : e.ρ 4 = .pointer (some ⟨C4, 0, none⟩)) (e5 : e.ρ 5 = .pointer (some ⟨T5, 0, none⟩))
    (h : St w0 (HeldP W b0 b1 r0 r1 * (StoreP bs 0 0 s * (RefP rs s * (boolK C4 false * wantC T5 (.slice (some ⟨g, o, none⟩) (tellL s).length c) (tellL s) (starL mkD Ms * A))))) w) :
    cwE Tryz.prog F21.t19 (fnP Tryz.prog #[.cell 4 4] fun e w' => St w0 (HeldP W b0 b1 r0 r1 * (StoreP bs 0 0 s * (RefP rs s * A))) w' ∧ e = .returned (.bool true)) e w := by
  rw [F21.t19_eq]
  have hlen := tell_len s
  have hf := hs.few
  have hm := hs.most
  simp -dsimp -implicitDefEqProofs (disch := omega) only [go_sem, hd, e0, e1, e4, e5]
  refine loop_intro (fun e w' => e.ds = mkF Ms ∧ e.ρ 0 = .pointer (some ⟨W, 0, none⟩) ∧ e.ρ 1 = .int .i64 i ∧ e.ρ 4 = .pointer (some ⟨C4, 0, none⟩) ∧ e.ρ 5 = .pointer (some ⟨T5, 0, none⟩) ∧ ∃ k : Nat, k ≤ (tellL s).length ∧ e.ρ 10 = .int .i64 k ∧
      St w0 (HeldP W b0 b1 r0 r1 * (StoreP bs 0 0 s * (RefP rs s * (boolK C4 false * wantC T5 (.slice (some ⟨g, o, none⟩) (tellL s).length c) (tellL s) (starL mkD Ms * A))))) w')
    (fun e _ => match e.ρ 10 with | .int _ x => ((tellL s).length - x).toNat | _ => 0) ?_ ?_
  · exact ⟨by simp -dsimp -implicitDefEqProofs only [go_sem, hd], by simp -dsimp -implicitDefEqProofs only [go_sem, e0], by simp -dsimp -implicitDefEqProofs only [go_sem, e1], by simp -dsimp -implicitDefEqProofs only [go_sem, e4], by simp -dsimp -implicitDefEqProofs only [go_sem, e5], 0, by omega, by simp -dsimp -implicitDefEqProofs only [go_sem], h⟩
  clear h hd e0 e1 e4 e5
  rintro e w ⟨hd, e0, e1, e4, e5, k, hk, e10, h⟩
  by_cases hlt : (k : Int) < (tellL s).length
  case neg =>
    simp -dsimp -implicitDefEqProofs (disch := omega) only [go_sem, hd, e0, e1, e4, e5, e10, h.cl T5, hlt]
    exact wall_t25 (by simp -dsimp -implicitDefEqProofs only [go_sem, hd]) (by simp -dsimp -implicitDefEqProofs only [go_sem, e4]) h
  by_cases h12 : (k : Int) < 12
  case neg =>
    simp -dsimp -implicitDefEqProofs (disch := omega) only [go_sem, hd, e0, e1, e4, e5, e10, h.cl T5, hlt, h12]
    exact wall_t25 (by simp -dsimp -implicitDefEqProofs only [go_sem, hd]) (by simp -dsimp -implicitDefEqProofs only [go_sem, e4]) h
  have hkl : k < (tellL s).length := by omega
  have r1 := (h.right.right.right.right.right.left.ent (RowO.reads _ _ _ _ _)).infA (l := tellL s) (Ent.rfl' _) hkl
  have c0 : w.cell? ⟨g, o + k * 13, none⟩ = some (.int .u64 (tellL s)[k].path) := r1.2 0 (by decide)
  simp -dsimp -implicitDefEqProofs (disch := omega) only [go_sem, hd, e0, e1, e4, e5, e10, h.cl T5, hlt, h12, c0]
  refine (reads_any (p := (tellL s)[k].path) (off := 0) (k := 65536) hi hb hr hs (by decide) (by decide) h).mono ?_
  rintro e' w2 ⟨h2, rfl⟩
  simp -dsimp -implicitDefEqProofs (disch := omega) only [go_sem, hd, e0, e1, e4, e5, e10]
  exact ⟨⟨k + 1, by omega, by omega, h2⟩, by omega⟩
end
section
attribute [local go_sem] F21.t15_eq F21.t21_eq F21.t22_eq F21.t25_eq F21.t5_eq
theorem wall_any (hi : i < 2) (hb : sel i b0 b1 = bs) (hr : sel i r0 r1 = rs) (hs : Wf s) (h : St w0 (HeldP W b0 b1 r0 r1 * (StoreP bs 0 0 s * (RefP rs s * A))) w) :
    Calls Tryz.prog 21 #[.pointer (some ⟨W, 0, none⟩), .int .i64 i] w fun e w' => St w0 (HeldP W b0 b1 r0 r1 * (StoreP bs 0 0 s * (RefP rs s * A))) w' ∧ e = .returned (.bool true) := by
  have hlen := tell_len s
  have hf := hs.few
  have hm := hs.most
  refine F21.calls (by simp) ?_
  unfold F21.code
  simp -dsimp -implicitDefEqProofs (disch := omega) only [go_sem]
  refine h.new fun C4 w1 h1 => ?_
  have wc := HeldP.cell hi h1.right
  rw [hb, hr] at wc
  simp -dsimp -implicitDefEqProofs (disch := omega) only [go_sem, wc.2]
  refine (refAll_any (h1.ac (show _ = RefP rs s * (Blk C4 (.cells #[.bool false] 4 (0, 0)) * (HeldP W b0 b1 r0 r1 * (StoreP bs 0 0 s * A))) by ac_rfl))).mono ?_
  rintro e w2 ⟨vl, h2, rfl⟩
  obtain ⟨al, cl, rfl, _⟩ := h2.rowForm vl
  have hl0 : 0 < (tellL s).length := by
    obtain ⟨x, r, ht, _⟩ := least_root hs
    rw [ht]; simp
  obtain ⟨g, o, rfl⟩ := St.infSome (h2.left.ent (RowO.reads _ _ _ _ _)) hl0
  simp -dsimp -implicitDefEqProofs (disch := omega) only [go_sem]
  refine h2.new fun T5 w3 h3 => ?_
  simp -dsimp -implicitDefEqProofs (disch := omega) only [go_sem]
  refine h3.sto (b := T5) (off := 0) (by simp) rfl fun w4 h4 => ?_
  simp only [List.setIfInBounds_toArray, List.set_cons_zero] at h4
  have wc := HeldP.cell hi h4.right.right.right.right
  rw [hb, hr] at wc
  simp -dsimp -implicitDefEqProofs (disch := omega) only [go_sem, wc.1]
  refine (all_any (b := bs) h4).mono ?_
  rintro e w5 ⟨K, h5, rfl⟩
  simp -dsimp -implicitDefEqProofs (disch := omega) only [go_sem]
  refine h5.new fun T7 w6 h6 => ?_
  simp -dsimp -implicitDefEqProofs (disch := omega) only [go_sem]
  refine h6.sto (b := T7) (off := 0) (by simp) rfl fun w7 h7 => ?_
  simp only [List.setIfInBounds_toArray, List.set_cons_zero] at h7
  simp -dsimp -implicitDefEqProofs (disch := omega) only [go_sem]
  have h8 : St w0 (intK T7 (0 : Nat) * (boolK C4 false * (StoreP bs 0 0 s * (ptrS K bs * wantC T5 (.slice (some ⟨g, o, none⟩) (tellL s).length cl) (tellL s) (starL mkD [] * (HeldP W b0 b1 r0 r1 * (RefP rs s * A))))))) w7 := (h7.ent (Ent.embL _)).ac (by unfold wantC NodeL; show EmpH * (Blk T7 (.cells #[.int .i64 0] 3 (0, 0)) * _) = Blk T7 (.cells #[.int .i64 0] 3 (0, 0)) * (Blk C4 (.cells #[.bool false] 4 (0, 0)) * (_ * (_ * (_ * (_ * (EmpH * _)))))); ac_rfl)
  refine loop_intro (fun e w' => ∃ (rd T7 : Nat) (Ms : List Nat), rd ≤ 3 ∧ WF e W i C4 T5 K T7 Ms ∧ St w0 (intK T7 rd * (boolK C4 false * (StoreP bs 0 0 s * (ptrS K bs * wantC T5 (.slice (some ⟨g, o, none⟩) (tellL s).length cl) (tellL s) (starL mkD Ms * (HeldP W b0 b1 r0 r1 * (RefP rs s * A))))))) w')
    (fun e w' => match e.ρ 7 with | .pointer (some a) => (match w'.cell? a with | some (.int _ x) => (3 - x).toNat | _ => 0) | _ => 0) ?_ ?_
  · exact ⟨0, T7, [], by omega, ⟨by simp -dsimp -implicitDefEqProofs only [go_sem], by simp -dsimp -implicitDefEqProofs only [go_sem], by simp -dsimp -implicitDefEqProofs only [go_sem], by simp -dsimp -implicitDefEqProofs only [go_sem], by simp -dsimp -implicitDefEqProofs only [go_sem], by simp -dsimp -implicitDefEqProofs only [go_sem], by simp -dsimp -implicitDefEqProofs only [go_sem]⟩, h8⟩
  clear h h1 h2 h3 h4 h5 h6 h7 h8 wc
  rintro e w ⟨rd, T7, Ms, hrd, f, h⟩
  have f' := f
  obtain ⟨hd, e0, e1, e4, e5, e6, e7⟩ := f'
  have c7 := h.cl T7 0
  by_cases hlt : (rd : Int) < 3
  · simp -dsimp -implicitDefEqProofs (disch := omega) only [go_sem, hd, e0, e1, e4, e5, e6, e7, h.cl T7, hlt]
    refine wall_t8 hs (by omega) (⟨by simp -dsimp -implicitDefEqProofs only [go_sem, hd], by simp -dsimp -implicitDefEqProofs only [go_sem, e0], by simp -dsimp -implicitDefEqProofs only [go_sem, e1], by simp -dsimp -implicitDefEqProofs only [go_sem, e4], by simp -dsimp -implicitDefEqProofs only [go_sem, e5], by simp -dsimp -implicitDefEqProofs only [go_sem, e6], by simp -dsimp -implicitDefEqProofs only [go_sem, e7]⟩ : WF _ W i C4 T5 K T7 Ms) h ?_
    intro T7' M e' w' f' h'
    have c7' := h'.cl T7' 0
    simp -dsimp -implicitDefEqProofs (disch := omega) only [go_sem]
    refine ⟨⟨rd + 1, T7', M :: Ms, by omega, f', h'⟩, ?_⟩
    rw [f'.e7, e7]
    dsimp only
    rw [c7, c7']
    show (3 - ((rd + 1 : Nat) : Int)).toNat < (3 - (rd : Int)).toNat
    omega
  · simp -dsimp -implicitDefEqProofs (disch := omega) only [go_sem, hd, e0, e1, e4, e5, e6, e7, h.cl T7, hlt]
    refine wall_t19 hi hb hr hs (g := g) (o := o) (c := cl) (Ms := Ms) (C4 := C4) (T5 := T5) (by simp -dsimp -implicitDefEqProofs only [go_sem, hd]) (by simp -dsimp -implicitDefEqProofs only [go_sem, e0]) (by simp -dsimp -implicitDefEqProofs only [go_sem, e1]) (by simp -dsimp -implicitDefEqProofs only [go_sem, e4]) (by simp -dsimp -implicitDefEqProofs only [go_sem, e5]) ?_
    exact (h.ac (show _ = HeldP W b0 b1 r0 r1 * (StoreP bs 0 0 s * (RefP rs s * (boolK C4 false * wantC T5 (.slice (some ⟨g, o, none⟩) (tellL s).length cl) (tellL s) (starL mkD Ms * (A * (intK T7 rd * ptrS K bs)))))) by unfold wantC; ac_rfl)).ent (Ent.sep (Ent.rfl' _) (Ent.sep (Ent.rfl' _) (Ent.sep (Ent.rfl' _) (Ent.sep (Ent.rfl' _) (Ent.sep (Ent.rfl' _) (Ent.sep (Ent.rfl' _) (Ent.sep (Ent.rfl' _) (Ent.left _ _))))))))
end
end
theorem entC_all (L : List NodeD) {x : EV} (h : isCell x.v = true) : ∀ v ∈ entC L x, isCell v = true := by
  intro v hv
  unfold entC at hv
  rcases List.mem_append.1 hv with h1 | h1
  · exact infL_cells _ v h1
  · simp only [List.mem_singleton] at h1; subst h1; exact h
theorem clone_swap {w0 w : World} {R B2 B1 L S V S2 A : HP} (h : St w0 (R * (B2 * (B1 * (L * (S * (V * (S2 * A))))))) w) : St w0 (B2 * (B1 * (L * (S * (V * (R * S2 * A)))))) w := h.ac (by ac_rfl)
section
variable {w0 w : World} {A : HP} {b : Nat} {s : SD}
section
attribute [local go_sem] F59.t4_eq F59.t5_eq F59.t8_eq
theorem refClone_any (h : St w0 (RefP b s * A) w) :
    Calls Tryz.prog 59 #[.pointer (some ⟨b, 0, none⟩)] w fun e w' => ∃ b2, St w0 (RefP b2 s * (RefP b s * A)) w' ∧ e = .returned (.pointer (some ⟨b2, 0, none⟩)) := by
  obtain ⟨v, X, ok, h⟩ := h.refO
  have hlen := ok.len
  have hf1 := ok.wf.few
  have hf2 := ok.wf.most
  obtain ⟨a, c, rfl, _⟩ := h.sw2.rowForm v
  refine F59.calls (by simp) ?_
  unfold F59.code
  simp -dsimp -implicitDefEqProofs (disch := omega) only [go_sem, h.cl b, h.drew.cl b]
  refine onV_of (v := .agg #[.int .i64 s.most, .int .u64 s.next, .slice none 0 0]) (by kernel_rfl) ?_
  simp -dsimp -implicitDefEqProofs (disch := omega) only [go_sem, h.cl b, h.drew.cl b]
  refine h.drew.new fun b2 w1 h1 => ?_
  simp -dsimp -implicitDefEqProofs (disch := omega) only [go_sem, h1.cl b]
  have h1 : St w0 (RefB b2 s (.slice none 0 0) * (RefB b s (.slice a X.length c) * (RefL s.L (.slice a X.length c) X * (starL bytesP X * A)))) w1 := h1
  have h2 : St w0 (RefB b2 s (.slice none 0 0) * (RefB b s (.slice a X.length c) * (RefL s.L (.slice a X.length c) X * (starL bytesP X * (RowO 81 14 (.slice none 0 0) 0 [] * (EmpH * A)))))) w1 := ((h1.ent (Ent.embL _)).nilR 81 14).ac (by ac_rfl)
  refine loop_intro (fun e w' => e.ds = [] ∧ e.ρ 0 = .pointer (some ⟨b, 0, none⟩) ∧ e.ρ 3 = .pointer (some ⟨b2, 0, none⟩) ∧ ∃ (i : Nat) (v2 : Value) (X2 : List EV), i ≤ X.length ∧ e.ρ 4 = .int .i64 i ∧ X2.map (·.d) = s.L.take i ∧
      St w0 (RefB b2 s v2 * (RefB b s (.slice a X.length c) * (RefL s.L (.slice a X.length c) X * (starL bytesP X * (RowO 81 14 v2 i (X2.flatMap (entC s.L)) * (starL bytesP X2 * A)))))) w')
    (fun e _ => match e.ρ 4 with | .int _ k => (X.length - k).toNat | _ => 0) ?_ ?_
  · exact ⟨by simp -dsimp -implicitDefEqProofs only [go_sem], by simp -dsimp -implicitDefEqProofs only [go_sem], by simp -dsimp -implicitDefEqProofs only [go_sem], 0, _, [], by omega, by simp -dsimp -implicitDefEqProofs only [go_sem], rfl, h2⟩
  clear h h1 h2
  rintro e w ⟨hd, e0, e3, i, v2, X2, hi, e4, hX2, h⟩
  have hl2 : X2.length = i := by have := congrArg List.length hX2; rw [List.length_map, List.length_take] at this; omega
  obtain ⟨al, cl, rfl, _⟩ := (h.ac (show _ = RowO 81 14 v2 i (X2.flatMap (entC s.L)) * (RefB b2 s v2 * (RefB b s (.slice a X.length c) * (RefL s.L (.slice a X.length c) X * (starL bytesP X * (starL bytesP X2 * A))))) by ac_rfl)).rowForm v2
  by_cases hlt : (i : Int) < X.length
  case neg =>
    have hi' : i = s.L.length := by omega
    subst hi'
    rw [List.take_length] at hX2
    have ok2 : RefOk s X2 := ⟨ok.wf, hX2⟩
    simp -dsimp -implicitDefEqProofs (disch := omega) only [go_sem, hd, e0, e3, e4, hlt, h.cl b]
    refine ⟨b2, ?_, rfl⟩
    have h3 : St w0 (RefQ b2 s (.slice al s.L.length cl) X2 * (RefQ b s (.slice a X.length c) X * A)) w := h.ac (by unfold RefQ RefL; rw [hl2]; ac_rfl)
    exact h3.ent (Ent.sep (RefP.shut ok2) (Ent.sep (RefP.shut ok) (Ent.rfl' _)))
  have hil : i < X.length := by omega
  obtain ⟨g, o, c', hiS, hv, prow, hc, c13⟩ := (h.right).entF ok hil
  simp only [Value.slice.injEq, true_and] at hv
  obtain ⟨rfl, rfl⟩ := hv
  have hvi : bytesP X[i] = RowBy X[i].v s.L[i].b := by unfold bytesP; rw [ok.at_ hil]
  have hby : Ent (starL bytesP X) (Reads 1 X[i].v s.L[i].b.length (s.L[i].b.map bv)) := (starL_mem (List.getElem_mem hil)).trans (by rw [hvi]; exact RowO.reads _ _ _ _ _)
  obtain ⟨_, au, cu, hvu, _, _⟩ := (h.right.right.right.left.ent hby).cell1
  have hfb := (ok.wf.ok _ (List.getElem_mem hiS)).few
  simp -dsimp -implicitDefEqProofs (disch := omega) only [go_sem, hd, e0, e3, e4, hlt, h.cl b, c13]
  refine (h.nilR 5 1).app (v := .slice none 0 0) (m := s.L[i].b.length) (news := s.L[i].b.map bv) fact_rowTy_43 ((Ent.right _ _).trans ((Ent.right _ _).trans ((Ent.right _ _).trans ((Ent.right _ _).trans ((Ent.left _ _).trans hby))))) Tryz.underlying43 (bytes_cells _) (fun hh => by simpa using hh) (by simp only [maxLen]; omega) (by omega) fun vb w3 h3 => ?_
  obtain ⟨ab, cb, rfl, _⟩ := h3.rowForm vb
  rw [Nat.zero_add, List.nil_append] at h3
  rw [Nat.zero_add]
  have hD := h3.drew
  obtain ⟨g', o', c', _, hv, prow, _, _⟩ := (hD.right.right).entF ok hil
  simp only [Value.slice.injEq, Option.some.injEq, Addr.mk.injEq, and_true, true_and] at hv
  obtain ⟨⟨rfl, rfl⟩, rfl⟩ := hv
  simp -dsimp -implicitDefEqProofs (disch := omega) only [go_sem, hd, e0, e3, e4, hlt, h3.cl b, h3.cl b2, hD.cl b, hD.cl b2, prow]
  refine onV_of (v := .agg (entC s.L ⟨s.L[i], .slice ab s.L[i].b.length cb⟩).toArray) (by kernel_rfl) ?_
  simp -dsimp -implicitDefEqProofs (disch := omega) only [go_sem, hd, e0, e3, e4, hlt, h3.cl b, h3.cl b2, hD.cl b, hD.cl b2, prow]
  refine hD.lit (t := 82) (n := 1) (cells := entC s.L ⟨s.L[i], .slice ab s.L[i].b.length cb⟩) rowTy_ent rfl (by decide) (by decide) fun v4 w4 h4 => ?_
  obtain ⟨g', o', c', _, hv, prow, _, _⟩ := (h4.right.right.right).entF ok hil
  simp only [Value.slice.injEq, Option.some.injEq, Addr.mk.injEq, and_true, true_and] at hv
  obtain ⟨⟨rfl, rfl⟩, rfl⟩ := hv
  simp -dsimp -implicitDefEqProofs (disch := omega) only [go_sem, hd, e0, e3, e4, hlt, h4.cl b, h4.cl b2, prow]
  refine h4.appR (v := .slice al i cl) (x := v4) rowTy_ent Tryz.underlying82 (entC_all _ rfl) (by simp [entC, infL]) (show _ ≤ 9223372036854775807 by omega) (by omega) fun v5 w5 h5 => ?_
  obtain ⟨g', o', c', _, hv, prow, _, _⟩ := (h5.right.right.right).entF ok hil
  simp only [Value.slice.injEq, Option.some.injEq, Addr.mk.injEq, and_true, true_and] at hv
  obtain ⟨⟨rfl, rfl⟩, rfl⟩ := hv
  simp -dsimp -implicitDefEqProofs (disch := omega) only [go_sem, hd, e0, e3, e4, hlt, h5.cl b, h5.cl b2, prow]
  obtain ⟨a5, c5, rfl, _⟩ := h5.rowForm v5
  refine h5.sto (b := b2) (off := 2) (by simp) rfl fun w6 h6 => ?_
  simp only [List.setIfInBounds_toArray, List.set_cons_succ, List.set_cons_zero] at h6
  simp -dsimp -implicitDefEqProofs (disch := omega) only [go_sem, hd, e0, e3, e4]
  refine ⟨⟨i + 1, .slice a5 (i + 1) c5, X2 ++ [⟨s.L[i], .slice ab s.L[i].b.length cb⟩], by omega, by omega, ?_, ?_⟩, by omega⟩
  · rw [List.map_append, hX2, List.take_succ_eq_append_getElem hiS]; rfl
  · rw [List.flatMap_append, List.flatMap_cons, List.flatMap_nil, List.append_nil, starL_split, List.append_nil]
    show St w0 (RefB b2 s (.slice a5 (i + 1) c5) * (RefB b s (.slice (some ⟨g, o, none⟩) X.length c) * (RefL s.L (.slice (some ⟨g, o, none⟩) X.length c) X * (starL bytesP X * (RowO 81 14 (.slice a5 (i + 1) c5) (i + 1) (X2.flatMap (entC s.L) ++ entC s.L ⟨s.L[i], .slice ab s.L[i].b.length cb⟩) * (RowO 5 1 (.slice ab s.L[i].b.length cb) s.L[i].b.length (s.L[i].b.map bv) * starL bytesP X2 * A)))))) w6
    have h7 : St w0 (RowO 5 1 (.slice ab s.L[i].b.length cb) s.L[i].b.length (s.L[i].b.map bv) * (RefB b2 s (.slice a5 (i + 1) c5) * (RefB b s (.slice (some ⟨g, o, none⟩) X.length c) * (RefL s.L (.slice (some ⟨g, o, none⟩) X.length c) X * (starL bytesP X * (RowO 81 14 (.slice a5 (i + 1) c5) (i + 1) (X2.flatMap (entC s.L) ++ entC s.L ⟨s.L[i], .slice ab s.L[i].b.length cb⟩) * (starL bytesP X2 * A))))))) w6 := h6.right
    exact clone_swap h7
end
end
section
variable {w0 w : World} {A : HP}
section
attribute [local go_sem] F87.t3_eq
theorem cloneU_any {v : Value} {l : List Nat} (hr : Ent A (Reads 1 v l.length (l.map u64V))) (hl : l.length ≤ 1000000) (h : St w0 A w) :
    Calls Tryz.prog 87 #[v] w fun e w' => ∃ v', St w0 (RowU v' l * A) w' ∧ e = .returned v' := by
  obtain ⟨a, c, rfl, _, hc⟩ := ((h.ent hr).rd).form
  refine F87.calls (by simp) ?_
  unfold F87.code
  cases a with
  | none =>
    have hl0 : l = [] := by
      rcases hc with hc | ⟨_, _, hc, _⟩
      · simpa using hc
      · cases hc
    subst hl0
    simp -dsimp -implicitDefEqProofs (disch := omega) only [go_sem]
    exact ⟨_, h.nilR 34 1, rfl⟩
  | some a =>
    simp -dsimp -implicitDefEqProofs (disch := omega) only [go_sem]
    refine h.lit0 rowTy_u64 rfl fun v1 w1 h1 => ?_
    simp -dsimp -implicitDefEqProofs (disch := omega) only [go_sem]
    refine h1.appendO rowTy_u64 (((h1.right.ent hr).rd).src Tryz.underlying97 (u64_cells _) (fun hh => by simpa using congrArg List.length hh)) (show _ ≤ 9223372036854775807 by omega) (by omega) fun v2 w2 h2 => ?_
    simp -dsimp -implicitDefEqProofs (disch := omega) only [go_sem]
    refine ⟨v2, ?_, rfl⟩
    rw [Nat.zero_add, List.nil_append] at h2
    exact h2
end
end
theorem lk_app {κ : Type} [DecidableEq κ] {x y : κ} {v : Value} : ∀ {l : List (κ × Value)}, y ∉ l.map (·.1) → lk x (l ++ [(y, v)]) = if x = y then some v else lk x l
  | [], _ => by simp [lk]
  | (z, u) :: l, h => by
    simp only [List.map_cons, List.mem_cons, not_or] at h
    simp only [List.cons_append, lk, lk_app (l := l) h.2]
    by_cases hxz : x = z
    · subst hxz
      rw [if_pos rfl, if_pos rfl, if_neg (fun e => h.1 e.symm)]
    · rw [if_neg hxz, if_neg hxz]
theorem lk_perm {κ : Type} [DecidableEq κ] {x : κ} {l l' : List (κ × Value)} (hn : (l.map (·.1)).Nodup) (hp : l'.Perm l) : lk x l' = lk x l := by
  have hn' := (hp.map (·.1)).nodup_iff.2 hn
  by_cases hm : x ∈ l.map (·.1)
  · obtain ⟨⟨y, v⟩, hy, rfl⟩ := List.mem_map.1 hm
    rw [lk_mem hn hy, lk_mem hn' (hp.mem_iff.2 hy)]
  · rw [lk_not hm, lk_not (fun h => hm ((hp.map (·.1)).mem_iff.1 h))]
section
variable {w0 w : World} {A B : HP} {b c N C r : Nat} {s : SD} {ov vC : Value} {cl : List (KD × Value)} {e : FA}
abbrev CloneC (c : Nat) (s : SD) (N : Nat) (ov : Value) (C : Nat) : HP := Blk c (.cells (storeC 0 0 s.most s.next (.map (some N)) ov (.map (some C))) 100 (0, 0))
section
attribute [local go_sem] F58.t6_eq F58.t18_eq F58.t19_eq F58.t14_eq F58.t20_eq F58.t10_eq F58.t21_eq F58.t8_eq F58.t4_eq
theorem clone_loop1 {Q : Post} {yC : Nat} {θ : Tag ((.loop ((Cd.region 5 F58.r5.toArray false).seq ((Cd.cond (.tmp 42) .skip (.exit 0)).seq F58.t6)) : Cd), Q, e, w)}
    (e0 : e.ρ 0 = .pointer (some ⟨b, 0, none⟩)) (e3 : e.ρ 3 = .pointer (some ⟨c, 0, none⟩)) (e40 : e.ρ 40 = .pointer (some ⟨r, 0, none⟩)) (hn : (cl.map (·.1)).Nodup)
    (h : St w0 (CloneC c s N ov C * (MapP encK C [] * (IterP encK yC r cl cl * B))) w)
    (hQ : ∀ e' w' cl', e'.ds = e.ds → e'.ρ 0 = .pointer (some ⟨b, 0, none⟩) → e'.ρ 3 = .pointer (some ⟨c, 0, none⟩) → (∀ k, lk k cl' = lk k cl) → St w0 (CloneC c s N ov C * (MapP encK C cl' * (MapP encK yC cl * B))) w' → Q (.exit 0) e' w') :
    cwE Tryz.prog (.loop ((Cd.region 5 F58.r5.toArray false).seq ((Cd.cond (.tmp 42) .skip (.exit 0)).seq F58.t6))) Q e w θ := by
  obtain ⟨ds, hds⟩ : ∃ ds, ds = e.ds := ⟨_, rfl⟩
  rw [← hds] at hQ
  refine loop_intro (fun e w' => e.ds = ds ∧ e.ρ 0 = .pointer (some ⟨b, 0, none⟩) ∧ e.ρ 3 = .pointer (some ⟨c, 0, none⟩) ∧ e.ρ 40 = .pointer (some ⟨r, 0, none⟩) ∧ ∃ (done left cl' : List (KD × Value)), (done ++ left).Perm cl ∧ (∀ k, lk k cl' = lk k done) ∧
      St w0 (CloneC c s N ov C * (MapP encK C cl' * (IterP encK yC r cl left * B))) w')
    (fun _ w => iterLeft yC r w) ?_ ?_
  · exact ⟨hds.symm, e0, e3, e40, [], cl, [], by simp, fun _ => rfl, h⟩
  clear h e0 e3 e40 hds
  rintro e w ⟨hd, e0, e3, e40, done, left, cl', hp, hlk, h⟩
  have hleft := h.iterLeft yC
  simp -dsimp -implicitDefEqProofs (disch := omega) only [go_sem, e0, e3, e40]
  refine h.nextH (r := r) (left := left) yC (fun hnil => ?_) fun j hj w6 h6 => ?_
  · subst hnil
    rw [List.append_nil] at hp
    simp -dsimp -implicitDefEqProofs (disch := omega) only [go_sem, hd, e0, e3, e40]
    refine hQ _ _ cl' (by simp -dsimp -implicitDefEqProofs only [go_sem, hd]) (by simp -dsimp -implicitDefEqProofs only [go_sem, e0]) (by simp -dsimp -implicitDefEqProofs only [go_sem, e3]) (fun k => by rw [hlk, lk_perm hn hp]) (h.iterEnd yC)
  · obtain ⟨⟨⟨kd, kn⟩, v⟩, hx⟩ : ∃ x, x = left[j] := ⟨_, rfl⟩
    rw [← hx] at h6
    have hpm : (((kd, kn), v) :: left.eraseIdx j).Perm left := by rw [hx]; exact perm_eraseIdx left j hj
    have hall : (done ++ [((kd, kn), v)] ++ left.eraseIdx j).Perm cl := by
      refine List.Perm.trans ?_ hp
      rw [List.append_assoc]
      exact List.Perm.append_left done hpm
    have hnew : ((kd, kn) : KD) ∉ done.map (·.1) := fun hm => by
      have h1 := (hall.map (·.1)).nodup_iff.2 hn
      rw [List.map_append, List.map_append] at h1
      have h2 := (List.nodup_append.1 h1).1
      have h3 := (List.nodup_append.1 h2).2.2 _ hm (kd, kn) (by simp)
      exact h3 rfl
    rw [← hx]
    simp -dsimp -implicitDefEqProofs (disch := omega) only [go_sem, hd, e0, e3, e40]
    refine h6.entryH yC ?_
    simp -dsimp -implicitDefEqProofs (disch := omega) only [go_sem, hd, e0, e3, e40]
    refine h6.new fun X w7 h7 => ?_
    simp -dsimp -implicitDefEqProofs (disch := omega) only [go_sem, hd, e0, e3, e40]
    refine h7.stoAll (b := X) (cs := [.int .u64 (kd : Int), .string (strOf kn)]) rfl rfl (fun v hv => by simp at hv; rcases hv with rfl | rfl <;> rfl) fun w8 h8 => ?_
    have h8d := h8.drew
    simp -dsimp -implicitDefEqProofs (disch := omega) only [go_sem, hd, e0, e3, e40, h8d.cl c, h8d.cl X]
    refine h8d.updH (b := C) (x := ((kd, kn) : KD)) Tryz.underlying98 lawK fun w9 h9 => ?_
    have h10 := h9.iterDone yC
    have hl5 := h10.iterLeft yC
    simp -dsimp -implicitDefEqProofs (disch := omega) only [go_sem, hd, e0, e3, e40, h9.cl c, h9.cl X]
    refine ⟨⟨done ++ [((kd, kn), v)], left.eraseIdx j, _, hall, fun k => ?_, h10.right⟩, ?_⟩
    · rw [lk_upd, lk_app hnew, hlk]
    · rw [hl5, hleft, List.length_eraseIdx, if_pos hj]; omega
end
end
def SameB (P P' : BL) : Prop := P'.map (Option.map Prod.snd) = P.map (Option.map Prod.snd)
theorem SameB.ok {P P' : BL} {b : List UInt8} (h : SameB P P') (ok : BlksOk P b) : BlksOk P' b := by
  have hl : P'.length = P.length := by have := congrArg List.length h; simpa [SameB] using this
  have hg : ∀ k, (P'[k]?).map (Option.map Prod.snd) = (P[k]?).map (Option.map Prod.snd) := fun k => by
    have h' : P'.map (Option.map Prod.snd) = P.map (Option.map Prod.snd) := h
    rw [← List.getElem?_map, ← List.getElem?_map, h']
  have hb : ∀ k, byteAt P' k = byteAt P k := fun k => by
    have := hg (k / 256)
    unfold byteAt
    cases h1 : P'[k / 256]? with
    | none =>
      cases h2 : P[k / 256]? with
      | none => rfl
      | some q => rw [h1, h2] at this; cases this
    | some p =>
      cases h2 : P[k / 256]? with
      | none => rw [h1, h2] at this; cases this
      | some q =>
        rw [h1, h2] at this
        simp only [Option.map_some, Option.some.injEq] at this
        cases p with
        | none => cases q with
          | none => rfl
          | some q => cases this
        | some p => cases q with
          | none => cases this
          | some q =>
            simp only [Option.map_some, Option.some.injEq] at this
            simp only [this]
  refine ⟨by rw [hl]; exact ok.few, fun p hp => ?_, fun k hk => by rw [hb]; exact ok.at_ k hk⟩
  have : (some p.2) ∈ P'.map (Option.map Prod.snd) := List.mem_map.2 ⟨some p, hp, rfl⟩
  rw [show P'.map (Option.map Prod.snd) = P.map (Option.map Prod.snd) from h] at this
  obtain ⟨q, hq, e⟩ := List.mem_map.1 this
  cases q with
  | none => cases e
  | some q =>
    simp only [Option.map_some, Option.some.injEq] at e
    rw [← e]
    exact ok.full q hq
theorem starL_app (P : BL) (p : Option (Nat × List UInt8)) : starL BlkP (P ++ [p]) = BlkP p * starL BlkP P := by
  have := starL_split BlkP p P []
  rw [List.append_nil] at this
  exact this
theorem RowB_app {v : Value} {P : BL} {p : Option (Nat × List UInt8)} : RowB v (P ++ [p]) = RowO 136 1 v (P.length + 1) (P.map ptrV ++ [ptrV p]) := by
  unfold RowB
  rw [List.length_append, List.map_append]
  rfl
section
variable {w0 w : World} {F : HP} {b c m n r : Nat} {i : Inf} {vk : Value} {ab : Option Addr} {cb : Nat} {P : BL} {e : FA}
section
attribute [local go_sem] F58.t6_eq F58.t18_eq F58.t19_eq F58.t14_eq F58.t20_eq F58.t10_eq F58.t21_eq F58.t8_eq F58.t4_eq
theorem clone_blks {Q : Post} {pv : Value} {θ : Tag ((.loop ((Cd.region 13 F58.r13.toArray false).seq ((Cd.cond (.tmp 79) .skip (.exit 4)).seq F58.t14)) : Cd), Q, e, w)}
    (e0 : e.ρ 0 = .pointer (some ⟨b, 0, none⟩)) (e3 : e.ρ 3 = .pointer (some ⟨c, 0, none⟩)) (e6 : e.ρ 6 = pv) (e8 : e.ρ 8 = .pointer (some ⟨m, 0, none⟩)) (e56 : e.ρ 56 = .pointer (some ⟨r, 0, none⟩)) (e76 : e.ρ 76 = .slice ab P.length cb) (e77 : e.ρ 77 = .int .i64 P.length) (e78 : e.ρ 78 = .int .i64 0)
    (hP : P.length ≤ 256) (hfull : ∀ p, some p ∈ P → p.2.length = 256)
    (h : St w0 (NodeB m 0 i vk (.slice none 0 0) * (RowB (.slice ab P.length cb) P * (starL BlkP P * F))) w)
    (hQ : ∀ e' w' vb' P', e'.ds = e.ds → e'.ρ 0 = .pointer (some ⟨b, 0, none⟩) → e'.ρ 3 = .pointer (some ⟨c, 0, none⟩) → e'.ρ 6 = pv → e'.ρ 8 = .pointer (some ⟨m, 0, none⟩) → e'.ρ 56 = .pointer (some ⟨r, 0, none⟩) → SameB P P' → St w0 (NodeB m 0 i vk vb' * (BlksP vb' P' * (RowB (.slice ab P.length cb) P * (starL BlkP P * F)))) w' → Q (.exit 4) e' w') :
    cwE Tryz.prog (.loop ((Cd.region 13 F58.r13.toArray false).seq ((Cd.cond (.tmp 79) .skip (.exit 4)).seq F58.t14))) Q e w θ := by
  obtain ⟨ds, hds⟩ : ∃ ds, ds = e.ds := ⟨_, rfl⟩
  rw [← hds] at hQ
  refine loop_intro (fun e w' => e.ds = ds ∧ e.ρ 0 = .pointer (some ⟨b, 0, none⟩) ∧ e.ρ 3 = .pointer (some ⟨c, 0, none⟩) ∧ e.ρ 6 = pv ∧ e.ρ 8 = .pointer (some ⟨m, 0, none⟩) ∧ e.ρ 56 = .pointer (some ⟨r, 0, none⟩) ∧ e.ρ 76 = .slice ab P.length cb ∧ e.ρ 77 = .int .i64 P.length ∧ ∃ (k : Nat) (vb' : Value) (P' : BL), k ≤ P.length ∧ P'.length = k ∧ e.ρ 78 = .int .i64 k ∧ SameB (P.take k) P' ∧
      St w0 (NodeB m 0 i vk vb' * (RowB vb' P' * (RowB (.slice ab P.length cb) P * (starL BlkP P * (starL BlkP P' * F))))) w')
    (fun e _ => match e.ρ 78 with | .int _ x => (P.length - x).toNat | _ => 0) ?_ ?_
  · refine ⟨hds.symm, e0, e3, e6, e8, e56, e76, e77, 0, .slice none 0 0, [], by omega, rfl, e78, rfl, ?_⟩
    have h1 := ((h.nilR 136 1).ent (Ent.embL _)).ac (show _ = NodeB m 0 i vk (.slice none 0 0) * (RowO 136 1 (.slice none 0 0) 0 [] * (RowB (.slice ab P.length cb) P * (starL BlkP P * (EmpH * F)))) by ac_rfl)
    exact h1
  clear h e0 e3 e6 e8 e56 e76 e77 e78 hds
  rintro e w ⟨hd, e0, e3, e6, e8, e56, e76, e77, k, vb', P', hk, hl', e78, hsame, h⟩
  by_cases hlt : (k : Int) < P.length
  case neg =>
    have : k = P.length := by omega
    rw [this, List.take_length] at hsame
    simp -dsimp -implicitDefEqProofs (disch := omega) only [go_sem, hd, e0, e3, e6, e8, e56, e76, e77, e78, hlt]
    exact hQ _ _ vb' P' (by simp -dsimp -implicitDefEqProofs only [go_sem, hd]) (by simp -dsimp -implicitDefEqProofs only [go_sem, e0]) (by simp -dsimp -implicitDefEqProofs only [go_sem, e3]) (by simp -dsimp -implicitDefEqProofs only [go_sem, e6]) (by simp -dsimp -implicitDefEqProofs only [go_sem, e8]) (by simp -dsimp -implicitDefEqProofs only [go_sem, e56]) hsame (h.ac (by unfold BlksP; ac_rfl))
  have hkl : k < P.length := by omega
  obtain ⟨g, o, rfl, hp⟩ := h.atS (a := ab) (n := P.length) (c := cb) (xs := P.map ptrV) (k := k) (by simpa using hkl)
  rw [List.getElem_map] at hp
  obtain ⟨av, cv, rfl, _, hcv⟩ := h.rowForm vb'
  have hstep : ∀ p' : Option (Nat × List UInt8), p'.map Prod.snd = (P[k]).map Prod.snd → SameB (P.take (k + 1)) (P' ++ [p']) := fun p' hp' => by
    unfold SameB at hsame ⊢
    rw [List.take_succ_eq_append_getElem hkl, List.map_append, List.map_append, hsame]
    simp [hp']
  cases hq : P[k] with
  | none =>
    rw [hq, ptrV] at hp
    simp -dsimp -implicitDefEqProofs (disch := omega) only [go_sem, hd, e0, e3, e6, e8, e56, e76, e77, e78, hlt, hp, h.cl m]
    refine h.lit (t := 102) (n := 1) (cells := [.pointer none]) rowTy_blks rfl (by decide) (by decide) fun v2 w2 k2 => ?_
    simp -dsimp -implicitDefEqProofs (disch := omega) only [go_sem, hd, e0, e3, e6, e8, e56, e76, e77, e78]
    refine k2.appR (v := .slice av P'.length cv) (x := v2) rowTy_blks Tryz.underlying102 (fun u hu => by simp at hu; subst hu; rfl) (by simp) (show _ ≤ 9223372036854775807 by omega) (by omega) fun v3 w3 k3 => ?_
    obtain ⟨a3, c3, rfl, _⟩ := k3.rowForm v3
    simp -dsimp -implicitDefEqProofs (disch := omega) only [go_sem, hd, e0, e3, e6, e8, e56, e76, e77, e78]
    refine k3.sto (b := m) (off := 16) (by simp) rfl fun w4 k4 => ?_
    simp only [List.setIfInBounds_toArray, List.set_cons_succ, List.set_cons_zero] at k4
    simp -dsimp -implicitDefEqProofs (disch := omega) only [go_sem, hd, e0, e3, e6, e8, e56, e76, e77, e78]
    have k5 : St w0 (NodeB m 0 i vk (.slice a3 (P'.length + 1) c3) * (RowO 136 1 (.slice a3 (P'.length + 1) c3) (P'.length + 1) (P'.map ptrV ++ [ptrV none]) * (RowB (.slice (some ⟨g, o, none⟩) P.length cb) P * (starL BlkP P * (starL BlkP P' * F))))) w4 := k4.right
    refine ⟨⟨k + 1, .slice a3 (P'.length + 1) c3, P' ++ [none], by omega, by simp; omega, by omega, hstep none (by rw [hq]), ?_⟩, by omega⟩
    rw [starL_app, RowB_app]
    show St w0 (_ * (_ * (_ * (_ * ((EmpH * _) * _))))) w4
    exact (k5.ent (Ent.embL _)).ac (by ac_rfl)
  | some q =>
    obtain ⟨ba, bs⟩ := q
    rw [hq, ptrV] at hp
    have hb := hfull (ba, bs) (by rw [← hq]; exact List.getElem_mem hkl)
    have hsp := starL_at (P := P) (q := k) (ba := ba) (bs := bs) (by rw [List.getElem?_eq_getElem hkl, hq])
    have h2 := h.ac (show _ = NodeB m 0 i vk (.slice av P'.length cv) * (RowB (.slice av P'.length cv) P' * (RowB (.slice (some ⟨g, o, none⟩) P.length cb) P * (Blk ba (.cells (bs.map bv).toArray 137 (0, 0)) * (starL BlkP (P.take k ++ P.drop (k + 1)) * (starL BlkP P' * F))))) by rw [hsp]; ac_rfl)
    simp -dsimp -implicitDefEqProofs (disch := omega) only [go_sem, hd, e0, e3, e6, e8, e56, e76, e77, e78, hlt, hp, h2.rowH ba 256 (by simp [hb])]
    refine h2.new fun X w5 k5 => ?_
    simp -dsimp -implicitDefEqProofs (disch := omega) only [go_sem, hd, e0, e3, e6, e8, e56, e76, e77, e78]
    refine k5.stoAll (b := X) (n := 256) (cs := bs.map bv) (by simp [hb]) rfl (by simp [isCell, bv]) fun w6 k6 => ?_
    simp -dsimp -implicitDefEqProofs (disch := omega) only [go_sem, hd, e0, e3, e6, e8, e56, e76, e77, e78, k6.cl m]
    refine k6.lit (t := 102) (n := 1) (cells := [.pointer (some ⟨X, 0, none⟩)]) rowTy_blks rfl (by decide) (by decide) fun v2 w2 k2 => ?_
    simp -dsimp -implicitDefEqProofs (disch := omega) only [go_sem, hd, e0, e3, e6, e8, e56, e76, e77, e78]
    refine k2.appR (v := .slice av P'.length cv) (x := v2) rowTy_blks Tryz.underlying102 (fun u hu => by simp at hu; subst hu; rfl) (by simp) (show _ ≤ 9223372036854775807 by omega) (by omega) fun v3 w3 k3 => ?_
    obtain ⟨a3, c3, rfl, _⟩ := k3.rowForm v3
    simp -dsimp -implicitDefEqProofs (disch := omega) only [go_sem, hd, e0, e3, e6, e8, e56, e76, e77, e78]
    refine k3.sto (b := m) (off := 16) (by simp) rfl fun w4 k4 => ?_
    simp only [List.setIfInBounds_toArray, List.set_cons_succ, List.set_cons_zero] at k4
    simp -dsimp -implicitDefEqProofs (disch := omega) only [go_sem, hd, e0, e3, e6, e8, e56, e76, e77, e78]
    have k7 : St w0 (BlkP (some (X, bs)) * (NodeB m 0 i vk (.slice a3 (P'.length + 1) c3) * (RowO 136 1 (.slice a3 (P'.length + 1) c3) (P'.length + 1) (P'.map ptrV ++ [ptrV (some (X, bs))]) * (RowB (.slice (some ⟨g, o, none⟩) P.length cb) P * (Blk ba (.cells (bs.map bv).toArray 137 (0, 0)) * (starL BlkP (P.take k ++ P.drop (k + 1)) * (starL BlkP P' * F))))))) w4 := k4.right
    refine ⟨⟨k + 1, .slice a3 (P'.length + 1) c3, P' ++ [some (X, bs)], by omega, by simp; omega, by omega, hstep (some (X, bs)) (by rw [hq]; rfl), ?_⟩, by omega⟩
    rw [starL_app, RowB_app, hsp]
    exact k7.ac (by ac_rfl)
end
end
section
variable {w0 w : World} {B : HP} {b c r N C : Nat} {s : SD} {ov : Value} {e : FA}
section
attribute [local go_sem] F58.t6_eq F58.t18_eq F58.t19_eq F58.t14_eq F58.t20_eq F58.t10_eq F58.t21_eq F58.t8_eq F58.t4_eq
theorem clone_loop2 {Q : Post} {yN : Nat} {X : List NN} {θ : Tag ((.loop ((Cd.region 9 F58.r9.toArray false).seq ((Cd.cond (.tmp 58) .skip (.exit 2)).seq F58.t10)) : Cd), Q, e, w)}
    (e0 : e.ρ 0 = .pointer (some ⟨b, 0, none⟩)) (e3 : e.ρ 3 = .pointer (some ⟨c, 0, none⟩)) (e56 : e.ρ 56 = .pointer (some ⟨r, 0, none⟩)) (hn : (X.map fun x => x.d.i.path).Nodup)
    (hks : ∀ x ∈ X, x.ks.length ≤ 1000000) (hb : ∀ x ∈ X, BlksOk x.P x.d.b)
    (h : St w0 (CloneC c s N ov C * (MapP encU N [] * (IterP encU yN r (X.map kv) (X.map kv) * (starL nodeP X * B)))) w)
    (hQ : ∀ e' w' X', e'.ds = e.ds → e'.ρ 3 = .pointer (some ⟨c, 0, none⟩) → (X'.map (·.d)).Perm (X.map (·.d)) → (∀ x' ∈ X', ∃ x ∈ X, x'.d = x.d ∧ x'.ks = x.ks ∧ SameB x.P x'.P) → St w0 (CloneC c s N ov C * (MapP encU N (X'.map kv) * (starL nodeP X' * (MapP encU yN (X.map kv) * (starL nodeP X * B))))) w' → Q (.exit 2) e' w') :
    cwE Tryz.prog (.loop ((Cd.region 9 F58.r9.toArray false).seq ((Cd.cond (.tmp 58) .skip (.exit 2)).seq F58.t10))) Q e w θ := by
  obtain ⟨ds, hds⟩ : ∃ ds, ds = e.ds := ⟨_, rfl⟩
  rw [← hds] at hQ
  refine loop_intro (fun e w' => e.ds = ds ∧ e.ρ 0 = .pointer (some ⟨b, 0, none⟩) ∧ e.ρ 3 = .pointer (some ⟨c, 0, none⟩) ∧ e.ρ 56 = .pointer (some ⟨r, 0, none⟩) ∧ ∃ (done left X' : List NN), (done ++ left).Perm X ∧ X'.map (·.d) = done.map (·.d) ∧ (∀ x' ∈ X', ∃ x ∈ X, x'.d = x.d ∧ x'.ks = x.ks ∧ SameB x.P x'.P) ∧
      St w0 (CloneC c s N ov C * (MapP encU N (X'.map kv) * (starL nodeP X' * (IterP encU yN r (X.map kv) (left.map kv) * (starL nodeP X * B))))) w')
    (fun _ w => iterLeft yN r w) ?_ ?_
  · exact ⟨hds.symm, e0, e3, e56, [], X, [], by simp, rfl, (fun _ hx => by cases hx), (h.ent (Ent.embL _)).ac (show _ = CloneC c s N ov C * (MapP encU N [] * (EmpH * (IterP encU yN r (X.map kv) (X.map kv) * (starL nodeP X * B)))) by ac_rfl)⟩
  clear h e0 e3 e56 hds
  rintro e w ⟨hd, e0, e3, e56, done, left, X', hp, hX', hall, h⟩
  have hleft := h.iterLeft yN
  simp -dsimp -implicitDefEqProofs (disch := omega) only [go_sem, e0, e3, e56]
  refine h.nextH (r := r) (left := left.map kv) yN (fun hnil => ?_) fun j hj w6 h6 => ?_
  · have hnil' : left = [] := by simpa using hnil
    subst hnil'
    rw [List.append_nil] at hp
    simp -dsimp -implicitDefEqProofs (disch := omega) only [go_sem, hd, e0, e3, e56]
    refine hQ _ _ X' (by simp -dsimp -implicitDefEqProofs only [go_sem, hd]) (by simp -dsimp -implicitDefEqProofs only [go_sem, e3]) (by rw [hX']; exact hp.map _) hall (h.iterEnd yN)
  have hj' : j < left.length := by simpa using hj
  obtain ⟨x, hx⟩ : ∃ x, x = left[j] := ⟨_, rfl⟩
  have e1 : (left.map kv)[j] = kv x := by rw [hx]; simp
  have e2 : (left.map kv).eraseIdx j = (left.eraseIdx j).map kv := by rw [List.eraseIdx_eq_take_drop_succ, List.eraseIdx_eq_take_drop_succ, List.map_append, List.map_take, List.map_drop]
  rw [e1, e2] at h6
  rw [e1]
  have hpm : (x :: left.eraseIdx j).Perm left := by rw [hx]; exact perm_eraseIdx left j hj'
  have hperm : (done ++ [x] ++ left.eraseIdx j).Perm X := by
    refine List.Perm.trans ?_ hp
    rw [List.append_assoc]
    exact List.Perm.append_left done hpm
  have hxX : x ∈ X := hperm.subset (by simp)
  obtain ⟨X1, X2, hs⟩ := List.append_of_mem hxX
  have hnew : ((x.d.i.path : Nat) : Int) ∉ (X'.map kv).map (·.1) := fun hm => by
    have hm2 : x.d.i.path ∈ done.map (fun z => z.d.i.path) := by
      rw [List.map_map] at hm
      obtain ⟨z, hz, he⟩ := List.mem_map.1 hm
      have he : z.d.i.path = x.d.i.path := by have h9 : ((z.d.i.path : Nat) : Int) = x.d.i.path := he; omega
      have : z.d ∈ done.map (·.d) := by rw [← hX']; exact List.mem_map_of_mem hz
      obtain ⟨y, hy, hyd⟩ := List.mem_map.1 this
      exact List.mem_map.2 ⟨y, hy, by rw [hyd, he]⟩
    have h1 := (hperm.map (fun z => z.d.i.path)).nodup_iff.2 hn
    rw [List.map_append, List.map_append] at h1
    have h2 := (List.nodup_append.1 h1).1
    exact (List.nodup_append.1 h2).2.2 _ hm2 x.d.i.path (by simp) rfl
  have hsp := starL_split nodeP x X1 X2
  rw [← hs] at hsp
  have hbx := hb x hxX
  have kv1 : (kv x).1 = ((x.d.i.path : Nat) : Int) := rfl
  have kv2 : (kv x).2 = .pointer (some ⟨x.n, 0, none⟩) := rfl
  simp -dsimp -implicitDefEqProofs (disch := omega) only [go_sem, hd, e0, e3, e56, kv1, kv2]
  refine h6.entryH yN ?_
  obtain ⟨It, hIt⟩ : ∃ It, It = IterAt encU yN r (X.map kv) ((left.eraseIdx j).map kv) (kv x).1 (kv x).2 := ⟨_, rfl⟩
  rw [← hIt] at h6
  have h7 := h6.ac (show _ = NodeB x.n 0 x.d.i x.vk x.vb * (RowU x.vk x.ks * (RowB x.vb x.P * (starL BlkP x.P * (CloneC c s N ov C * (MapP encU N (X'.map kv) * (It * (starL nodeP X' * (starL nodeP (X1 ++ X2) * B)))))))) by rw [hsp]; unfold nodeP BlksP; ac_rfl)
  have h7d := h7.drew
  obtain ⟨ab, cb, hvb, _⟩ := h7d.rowForm x.vb
  rw [hvb] at h7d
  have r7 : rowV _ ⟨x.n, 2, none⟩ 13 = some (.agg (infL x.d.i).toArray) := h7d.rowAtH x.n 2 13 (by show 15 ≤ 17; decide)
  simp -dsimp -implicitDefEqProofs (disch := omega) only [go_sem, hd, e0, e3, e56, kv1, kv2, h7d.cl x.n, r7]
  refine (cloneU_any (l := x.ks) ((Ent.right _ _).trans ((Ent.left _ _).trans (RowO.reads _ _ _ _ _))) (hks x hxX) h7d).mono ?_
  rintro e' w8 ⟨vk', h8, rfl⟩
  obtain ⟨ak, ck, rfl, _⟩ := h8.rowForm vk'
  have r8 : rowV _ ⟨x.n, 2, none⟩ 13 = some (.agg (infL x.d.i).toArray) := h8.rowAtH x.n 2 13 (by show 15 ≤ 17; decide)
  simp -dsimp -implicitDefEqProofs (disch := omega) only [go_sem, hd, e0, e3, e56, h8.cl x.n, r8]
  refine onV_of (v := .agg (nodeC 0 x.d.i (.slice ak x.ks.length ck) (.slice none 0 0))) (by kernel_rfl) ?_
  simp -dsimp -implicitDefEqProofs (disch := omega) only [go_sem, hd, e0, e3, e56, h8.cl x.n, r8]
  refine h8.new fun m w9 h9 => ?_
  have r9 : rowV _ ⟨x.n, 2, none⟩ 13 = some (.agg (infL x.d.i).toArray) := h9.rowAtH x.n 2 13 (by show 15 ≤ 17; decide)
  simp -dsimp -implicitDefEqProofs (disch := omega) only [go_sem, hd, e0, e3, e56, h9.cl x.n, r9]
  have h10 := h9.ac (show _ = NodeB m 0 x.d.i (.slice ak x.ks.length ck) (.slice none 0 0) * (RowB (.slice ab x.P.length cb) x.P * (starL BlkP x.P * (RowU (.slice ak x.ks.length ck) x.ks * (NodeB x.n 0 x.d.i x.vk (.slice ab x.P.length cb) * (RowU x.vk x.ks * (CloneC c s N ov C * (MapP encU N (X'.map kv) * (It * (starL nodeP X' * (starL nodeP (X1 ++ X2) * B)))))))))) by simp only [RowU, NodeB]; ac_rfl)
  refine clone_blks (b := b) (c := c) (r := r) (pv := .int .u64 (x.d.i.path : Int)) (P := x.P) (by simp -dsimp -implicitDefEqProofs only [go_sem, e0]) (by simp -dsimp -implicitDefEqProofs only [go_sem, e3]) (by simp -dsimp -implicitDefEqProofs only [go_sem]) (by simp -dsimp -implicitDefEqProofs only [go_sem]) (by simp -dsimp -implicitDefEqProofs only [go_sem, e56]) (by simp -dsimp -implicitDefEqProofs only [go_sem]) (by simp -dsimp -implicitDefEqProofs only [go_sem]) (by simp -dsimp -implicitDefEqProofs only [go_sem]) hbx.few (fun p hp => hbx.full p hp) h10 ?_
  rintro e' w11 vb' P' gd g0 g3 g6 g8 g56 hsame h11
  simp -dsimp -implicitDefEqProofs (disch := omega) only [go_sem, g0, g3, g6, g8, g56, h11.cl c]
  refine h11.updH (b := N) (x := ((x.d.i.path : Nat) : Int)) Tryz.underlying96 lawU fun w12 h12 => ?_
  rw [upd_new hnew] at h12
  simp -dsimp -implicitDefEqProofs (disch := omega) only [go_sem, g0, g3, g6, g8, g56, h12.cl c]
  obtain ⟨x', hx'⟩ : ∃ x' : NN, x' = ⟨x.d, m, .slice ak x.ks.length ck, vb', x.ks, P'⟩ := ⟨_, rfl⟩
  have q1 : (X' ++ [x']).map kv = X'.map kv ++ [(((x.d.i.path : Nat) : Int), .pointer (some ⟨m, 0, none⟩))] := by rw [List.map_append, hx']; rfl
  have q2 : starL nodeP (X' ++ [x']) = (NodeB m 0 x.d.i (.slice ak x.ks.length ck) vb' * (RowU (.slice ak x.ks.length ck) x.ks * BlksP vb' P')) * starL nodeP X' := by
    have := starL_split nodeP x' X' []
    rw [List.append_nil] at this
    rw [this, hx']
    rfl
  obtain ⟨Mn, hMn⟩ : ∃ Mn, Mn = MapP encU N (X'.map kv ++ [(((x.d.i.path : Nat) : Int), .pointer (some ⟨m, 0, none⟩))]) := ⟨_, rfl⟩
  have h13 : St w0 (CloneC c s N ov C * (Mn * (starL nodeP (X' ++ [x']) * (It * (starL nodeP X * B))))) w12 := by
    rw [← hMn] at h12
    rw [hsp, q2, show nodeP x = NodeB x.n 0 x.d.i x.vk x.vb * (RowU x.vk x.ks * (RowB x.vb x.P * starL BlkP x.P)) from rfl, hvb]
    exact h12.ac (by simp only [RowU, NodeB]; ac_rfl)
  rw [hMn, ← q1, hIt] at h13
  have h14 := h13.iterDone yN
  have hl5 := h14.iterLeft yN
  refine ⟨⟨by rw [gd]; simp -dsimp -implicitDefEqProofs only [go_sem, hd], done ++ [x], left.eraseIdx j, X' ++ [x'], hperm, ?_, ?_, h14⟩, ?_⟩
  · rw [List.map_append, List.map_append, hX', hx']; rfl
  · intro z hz
    rcases List.mem_append.1 hz with hz | hz
    · exact hall z hz
    · simp only [List.mem_singleton] at hz
      rw [hz, hx']
      exact ⟨x, hxX, rfl, rfl, hsame⟩
  · rw [hl5, hleft, List.length_map, List.length_map, List.length_eraseIdx, if_pos hj']; omega
end
end
section
variable {w0 w : World} {A : HP} {b c N C : Nat} {s : SD} {y : SX} {ov : Value} {cl : List (KD × Value)} {e : FA}
section
attribute [local go_sem] F58.t6_eq F58.t18_eq F58.t19_eq F58.t14_eq F58.t20_eq F58.t10_eq F58.t21_eq F58.t8_eq F58.t4_eq
theorem clone_t8 (ok : StoreOk s y) (hlk : ∀ k, lk k cl = lk k y.cl) (hd : e.ds = [{ target := .fn (.func 64) #[], args := #[.pointer (some ⟨b, 0, none⟩)] }]) (e0 : e.ρ 0 = .pointer (some ⟨b, 0, none⟩)) (e3 : e.ρ 3 = .pointer (some ⟨c, 0, none⟩))
    (h : St w0 (CloneC c s N ov C * (MapP encK C cl * (MapP encK y.C y.cl * (MapP encU N [] * (RowU ov (s.L.map (·.i.path)) * (StoreB b 1 (-1073741824) s y * (MapP encU y.N (y.X.map kv) * (RowU y.ov (s.L.map (·.i.path)) * (starL nodeP y.X * A))))))))) w) :
    cwE Tryz.prog F58.t8 (fnM Tryz.prog #[.tmp 2] fun e w' => ∃ b', St w0 (StoreP b' 0 0 s * (StoreP b 0 0 s * A)) w' ∧ e = .returned (.pointer (some ⟨b', 0, none⟩))) e w := by
  rw [F58.t8_eq]
  have hks : ∀ x ∈ y.X, x.ks.length ≤ 1000000 := fun x hx => by
    rw [ok.kids x hx]
    have h1 := kids_len s.L x.d.i.path
    have h2 := ok.wf.few
    have h3 := ok.wf.most
    omega
  obtain ⟨Mc, hMc⟩ : ∃ Mc, Mc = MapP encK C cl := ⟨_, rfl⟩
  obtain ⟨My, hMy⟩ : ∃ My, My = MapP encK y.C y.cl := ⟨_, rfl⟩
  rw [← hMc, ← hMy] at h
  simp -dsimp -implicitDefEqProofs (disch := omega) only [go_sem, e0, h.cl b]
  refine h.rangeH (b := y.N) Tryz.underlying96 fun r w1 h1 => ?_
  simp -dsimp -implicitDefEqProofs (disch := omega) only [go_sem]
  refine clone_loop2 (b := b) (c := c) (r := r) (N := N) (C := C) (s := s) (ov := ov) (yN := y.N) (X := y.X) (B := Mc * (My * (RowU ov (s.L.map (·.i.path)) * (StoreB b 1 (-1073741824) s y * (RowU y.ov (s.L.map (·.i.path)) * A))))) (by simp -dsimp -implicitDefEqProofs only [go_sem, e0]) (by simp -dsimp -implicitDefEqProofs only [go_sem, e3]) (by simp -dsimp -implicitDefEqProofs only [go_sem]) ok.paths hks ok.bytes (h1.ac (by simp only [RowU, CloneC]; ac_rfl)) ?_
  rintro e1 w2 X' gd g3 hperm hall h2
  have gd : e1.ds = [{ target := .fn (.func 64) #[], args := #[.pointer (some ⟨b, 0, none⟩)] }] := by rw [gd]; simp -dsimp -implicitDefEqProofs only [go_sem, hd]
  simp -dsimp -implicitDefEqProofs (disch := omega) only [go_sem, gd, g3]
  have ok' : StoreOk s ⟨N, C, ov, X', cl⟩ := by
    refine ⟨ok.wf, hperm.trans ok.perm, fun x hx => ?_, fun x hx => ?_, fun dir nm => ?_⟩
    · obtain ⟨z, hz, e1, e2, _⟩ := hall x hx
      rw [e2, e1]; exact ok.kids z hz
    · obtain ⟨z, hz, e1, _, e3⟩ := hall x hx
      rw [e1]; exact e3.ok (ok.bytes z hz)
    · rw [hlk]; exact ok.child dir nm
  obtain ⟨Mn, hMn⟩ : ∃ Mn, Mn = MapP encU N (X'.map kv) := ⟨_, rfl⟩
  obtain ⟨Mm, hMm⟩ : ∃ Mm, Mm = MapP encU y.N (y.X.map kv) := ⟨_, rfl⟩
  rw [← hMn, ← hMm] at h2
  have h3 : St w0 (StoreQ b 1 (-1073741824) s y * (StoreQ c 0 0 s ⟨N, C, ov, X', cl⟩ * A)) w2 := by
    show St w0 ((StoreB b 1 (-1073741824) s y * (MapP encU y.N (y.X.map kv) * (MapP encK y.C y.cl * (RowU y.ov (s.L.map (·.i.path)) * starL nodeP y.X)))) * ((CloneC c s N ov C * (MapP encU N (X'.map kv) * (MapP encK C cl * (RowU ov (s.L.map (·.i.path)) * starL nodeP X')))) * A)) w2
    rw [← hMn, ← hMm, ← hMc, ← hMy]
    exact h2.ac (by simp only [RowU]; ac_rfl)
  refine wunlockS h3 fun w3 h4 => ?_
  refine endT1 ⟨c, ?_, by simp -dsimp -implicitDefEqProofs only [go_sem]⟩
  exact (h4.sw2).ent (Ent.sep (StoreP.shut ok') (Ent.sep (StoreP.shut ok) (Ent.rfl' _)))
end
end
section
variable {w0 w : World} {A : HP} {b : Nat} {s : SD}
section
attribute [local go_sem] F58.t6_eq F58.t18_eq F58.t19_eq F58.t14_eq F58.t20_eq F58.t10_eq F58.t21_eq F58.t4_eq
set_option maxHeartbeats 4000000 in
theorem clone_any (h : St w0 (StoreP b 0 0 s * A) w) :
    Calls Tryz.prog 58 #[.pointer (some ⟨b, 0, none⟩)] w fun e w' => ∃ b', St w0 (StoreP b' 0 0 s * (StoreP b 0 0 s * A)) w' ∧ e = .returned (.pointer (some ⟨b', 0, none⟩)) := by
  obtain ⟨y, ok, h⟩ := h.storeO
  refine calls_of_cwM (types := Tryz.prog.types) follows Tryz.func58 F58.code rfl (by kernel_rfl) (by show 1 ≤ 105; decide) ?_
  show cwE _ _ (fnM _ #[.tmp 2] _) _ _
  unfold F58.code
  have hlen : (s.L.map (·.i.path)).length ≤ 1000000 := by rw [List.length_map]; have := ok.wf.few; have := ok.wf.most; omega
  simp -dsimp -implicitDefEqProofs (disch := omega) only [go_sem]
  refine (wlockS h).mono ?_
  rintro e w1 ⟨h1, rfl⟩
  have hnd := h1.mapNodup y.C
  simp -dsimp -implicitDefEqProofs (disch := omega) only [go_sem]
  refine deferF_of ?_
  have hd1 := h1.drew
  simp -dsimp -implicitDefEqProofs (disch := omega) only [go_sem, h1.cl b, hd1.cl b]
  refine ⟨?_, ?_⟩
  · skip
    refine St.makeMap (enc := encU) hd1 fun N w2 h2 => ?_
    simp -dsimp -implicitDefEqProofs (disch := omega) only [go_sem, h2.cl b]
    refine ⟨?_, ?_⟩
    · skip
      refine (cloneU_any (l := s.L.map (·.i.path)) ((Ent.right _ _).trans ((Ent.left _ _).trans ((Ent.right _ _).trans ((Ent.right _ _).trans ((Ent.right _ _).trans ((Ent.left _ _).trans (RowO.reads _ _ _ _ _))))))) hlen h2).mono ?_
      rintro e' w3 ⟨ov, h3, rfl⟩
      simp -dsimp -implicitDefEqProofs (disch := omega) only [go_sem, h3.cl b]
      refine St.makeMap (enc := encK) h3 fun C w4 h4 => ?_
      obtain ⟨ao, co, rfl, _⟩ := h4.rowForm ov
      simp -dsimp -implicitDefEqProofs (disch := omega) only [go_sem, h4.cl b]
      refine onV_of (v := .agg (storeC 0 0 s.most s.next (.map (some N)) (.slice ao (s.L.map (·.i.path)).length co) (.map (some C)))) (by kernel_rfl) ?_
      simp -dsimp -implicitDefEqProofs (disch := omega) only [go_sem, h4.cl b]
      refine h4.new fun c w5 h5 => ?_
      simp -dsimp -implicitDefEqProofs (disch := omega) only [go_sem, h5.cl b]
      refine h5.rangeH (b := y.C) Tryz.underlying98 fun r w6 h6 => ?_
      simp -dsimp -implicitDefEqProofs (disch := omega) only [go_sem]
      refine clone_loop1 (b := b) (c := c) (s := s) (N := N) (C := C) (r := r) (ov := .slice ao (s.L.map (·.i.path)).length co) (cl := y.cl) (yC := y.C) (B := MapP encU N [] * (RowU (.slice ao (s.L.map (·.i.path)).length co) (s.L.map (·.i.path)) * (StoreB b 1 (-1073741824) s y * (MapP encU y.N (y.X.map kv) * (RowU y.ov (s.L.map (·.i.path)) * (starL nodeP y.X * A)))))) (by simp -dsimp -implicitDefEqProofs only [go_sem]) (by simp -dsimp -implicitDefEqProofs only [go_sem]) (by simp -dsimp -implicitDefEqProofs only [go_sem]) hnd (h6.ac (by simp only [RowU, CloneC]; ac_rfl)) ?_
      rintro e1 w7 cl' gd g0 g3 hlk h7
      simp -dsimp -implicitDefEqProofs (disch := omega) only [go_sem]
      exact clone_t8 ok hlk (by rw [gd]; simp -dsimp -implicitDefEqProofs only [go_sem]) g0 g3 h7
    · skip
      refine St.makeMap (enc := encK) h2 fun C w3 h3 => ?_
      simp -dsimp -implicitDefEqProofs (disch := omega) only [go_sem, h3.cl b]
      refine (cloneU_any (l := s.L.map (·.i.path)) ((Ent.right _ _).trans ((Ent.right _ _).trans ((Ent.left _ _).trans ((Ent.right _ _).trans ((Ent.right _ _).trans ((Ent.right _ _).trans ((Ent.left _ _).trans (RowO.reads _ _ _ _ _)))))))) hlen h3).mono ?_
      rintro e' w4 ⟨ov, h4, rfl⟩
      obtain ⟨ao, co, rfl, _⟩ := h4.rowForm ov
      simp -dsimp -implicitDefEqProofs (disch := omega) only [go_sem, h4.cl b]
      refine onV_of (v := .agg (storeC 0 0 s.most s.next (.map (some N)) (.slice ao (s.L.map (·.i.path)).length co) (.map (some C)))) (by kernel_rfl) ?_
      simp -dsimp -implicitDefEqProofs (disch := omega) only [go_sem, h4.cl b]
      refine h4.new fun c w5 h5 => ?_
      simp -dsimp -implicitDefEqProofs (disch := omega) only [go_sem, h5.cl b]
      refine h5.rangeH (b := y.C) Tryz.underlying98 fun r w6 h6 => ?_
      simp -dsimp -implicitDefEqProofs (disch := omega) only [go_sem]
      refine clone_loop1 (b := b) (c := c) (s := s) (N := N) (C := C) (r := r) (ov := .slice ao (s.L.map (·.i.path)).length co) (cl := y.cl) (yC := y.C) (B := MapP encU N [] * (RowU (.slice ao (s.L.map (·.i.path)).length co) (s.L.map (·.i.path)) * (StoreB b 1 (-1073741824) s y * (MapP encU y.N (y.X.map kv) * (RowU y.ov (s.L.map (·.i.path)) * (starL nodeP y.X * A)))))) (by simp -dsimp -implicitDefEqProofs only [go_sem]) (by simp -dsimp -implicitDefEqProofs only [go_sem]) (by simp -dsimp -implicitDefEqProofs only [go_sem]) hnd (h6.ac (by simp only [RowU, CloneC]; ac_rfl)) ?_
      rintro e1 w7 cl' gd g0 g3 hlk h7
      simp -dsimp -implicitDefEqProofs (disch := omega) only [go_sem]
      exact clone_t8 ok hlk (by rw [gd]; simp -dsimp -implicitDefEqProofs only [go_sem]) g0 g3 h7
  · skip
    refine ⟨?_, ?_⟩
    · skip
      refine (cloneU_any (l := s.L.map (·.i.path)) ((Ent.left _ _).trans ((Ent.right _ _).trans ((Ent.right _ _).trans ((Ent.right _ _).trans ((Ent.left _ _).trans (RowO.reads _ _ _ _ _)))))) hlen hd1).mono ?_
      rintro e' w2 ⟨ov, h2, rfl⟩
      simp -dsimp -implicitDefEqProofs (disch := omega) only [go_sem, h2.cl b]
      refine ⟨?_, ?_⟩
      · skip
        refine St.makeMap (enc := encU) h2 fun N w3 h3 => ?_
        simp -dsimp -implicitDefEqProofs (disch := omega) only [go_sem, h3.cl b]
        refine St.makeMap (enc := encK) h3 fun C w4 h4 => ?_
        obtain ⟨ao, co, rfl, _⟩ := h4.rowForm ov
        simp -dsimp -implicitDefEqProofs (disch := omega) only [go_sem, h4.cl b]
        refine onV_of (v := .agg (storeC 0 0 s.most s.next (.map (some N)) (.slice ao (s.L.map (·.i.path)).length co) (.map (some C)))) (by kernel_rfl) ?_
        simp -dsimp -implicitDefEqProofs (disch := omega) only [go_sem, h4.cl b]
        refine h4.new fun c w5 h5 => ?_
        simp -dsimp -implicitDefEqProofs (disch := omega) only [go_sem, h5.cl b]
        refine h5.rangeH (b := y.C) Tryz.underlying98 fun r w6 h6 => ?_
        simp -dsimp -implicitDefEqProofs (disch := omega) only [go_sem]
        refine clone_loop1 (b := b) (c := c) (s := s) (N := N) (C := C) (r := r) (ov := .slice ao (s.L.map (·.i.path)).length co) (cl := y.cl) (yC := y.C) (B := MapP encU N [] * (RowU (.slice ao (s.L.map (·.i.path)).length co) (s.L.map (·.i.path)) * (StoreB b 1 (-1073741824) s y * (MapP encU y.N (y.X.map kv) * (RowU y.ov (s.L.map (·.i.path)) * (starL nodeP y.X * A)))))) (by simp -dsimp -implicitDefEqProofs only [go_sem]) (by simp -dsimp -implicitDefEqProofs only [go_sem]) (by simp -dsimp -implicitDefEqProofs only [go_sem]) hnd (h6.ac (by simp only [RowU, CloneC]; ac_rfl)) ?_
        rintro e1 w7 cl' gd g0 g3 hlk h7
        simp -dsimp -implicitDefEqProofs (disch := omega) only [go_sem]
        exact clone_t8 ok hlk (by rw [gd]; simp -dsimp -implicitDefEqProofs only [go_sem]) g0 g3 h7
      · skip
        refine St.makeMap (enc := encK) h2 fun C w3 h3 => ?_
        simp -dsimp -implicitDefEqProofs (disch := omega) only [go_sem, h3.cl b]
        refine St.makeMap (enc := encU) h3 fun N w4 h4 => ?_
        obtain ⟨ao, co, rfl, _⟩ := h4.rowForm ov
        simp -dsimp -implicitDefEqProofs (disch := omega) only [go_sem, h4.cl b]
        refine onV_of (v := .agg (storeC 0 0 s.most s.next (.map (some N)) (.slice ao (s.L.map (·.i.path)).length co) (.map (some C)))) (by kernel_rfl) ?_
        simp -dsimp -implicitDefEqProofs (disch := omega) only [go_sem, h4.cl b]
        refine h4.new fun c w5 h5 => ?_
        simp -dsimp -implicitDefEqProofs (disch := omega) only [go_sem, h5.cl b]
        refine h5.rangeH (b := y.C) Tryz.underlying98 fun r w6 h6 => ?_
        simp -dsimp -implicitDefEqProofs (disch := omega) only [go_sem]
        refine clone_loop1 (b := b) (c := c) (s := s) (N := N) (C := C) (r := r) (ov := .slice ao (s.L.map (·.i.path)).length co) (cl := y.cl) (yC := y.C) (B := MapP encU N [] * (RowU (.slice ao (s.L.map (·.i.path)).length co) (s.L.map (·.i.path)) * (StoreB b 1 (-1073741824) s y * (MapP encU y.N (y.X.map kv) * (RowU y.ov (s.L.map (·.i.path)) * (starL nodeP y.X * A)))))) (by simp -dsimp -implicitDefEqProofs only [go_sem]) (by simp -dsimp -implicitDefEqProofs only [go_sem]) (by simp -dsimp -implicitDefEqProofs only [go_sem]) hnd (h6.ac (by simp only [RowU, CloneC]; ac_rfl)) ?_
        rintro e1 w7 cl' gd g0 g3 hlk h7
        simp -dsimp -implicitDefEqProofs (disch := omega) only [go_sem]
        exact clone_t8 ok hlk (by rw [gd]; simp -dsimp -implicitDefEqProofs only [go_sem]) g0 g3 h7
    · skip
      refine St.makeMap (enc := encK) hd1 fun C w2 h2 => ?_
      simp -dsimp -implicitDefEqProofs (disch := omega) only [go_sem, h2.cl b]
      refine ⟨?_, ?_⟩
      · skip
        refine St.makeMap (enc := encU) h2 fun N w3 h3 => ?_
        simp -dsimp -implicitDefEqProofs (disch := omega) only [go_sem, h3.cl b]
        refine (cloneU_any (l := s.L.map (·.i.path)) ((Ent.right _ _).trans ((Ent.right _ _).trans ((Ent.left _ _).trans ((Ent.right _ _).trans ((Ent.right _ _).trans ((Ent.right _ _).trans ((Ent.left _ _).trans (RowO.reads _ _ _ _ _)))))))) hlen h3).mono ?_
        rintro e' w4 ⟨ov, h4, rfl⟩
        obtain ⟨ao, co, rfl, _⟩ := h4.rowForm ov
        simp -dsimp -implicitDefEqProofs (disch := omega) only [go_sem, h4.cl b]
        refine onV_of (v := .agg (storeC 0 0 s.most s.next (.map (some N)) (.slice ao (s.L.map (·.i.path)).length co) (.map (some C)))) (by kernel_rfl) ?_
        simp -dsimp -implicitDefEqProofs (disch := omega) only [go_sem, h4.cl b]
        refine h4.new fun c w5 h5 => ?_
        simp -dsimp -implicitDefEqProofs (disch := omega) only [go_sem, h5.cl b]
        refine h5.rangeH (b := y.C) Tryz.underlying98 fun r w6 h6 => ?_
        simp -dsimp -implicitDefEqProofs (disch := omega) only [go_sem]
        refine clone_loop1 (b := b) (c := c) (s := s) (N := N) (C := C) (r := r) (ov := .slice ao (s.L.map (·.i.path)).length co) (cl := y.cl) (yC := y.C) (B := MapP encU N [] * (RowU (.slice ao (s.L.map (·.i.path)).length co) (s.L.map (·.i.path)) * (StoreB b 1 (-1073741824) s y * (MapP encU y.N (y.X.map kv) * (RowU y.ov (s.L.map (·.i.path)) * (starL nodeP y.X * A)))))) (by simp -dsimp -implicitDefEqProofs only [go_sem]) (by simp -dsimp -implicitDefEqProofs only [go_sem]) (by simp -dsimp -implicitDefEqProofs only [go_sem]) hnd (h6.ac (by simp only [RowU, CloneC]; ac_rfl)) ?_
        rintro e1 w7 cl' gd g0 g3 hlk h7
        simp -dsimp -implicitDefEqProofs (disch := omega) only [go_sem]
        exact clone_t8 ok hlk (by rw [gd]; simp -dsimp -implicitDefEqProofs only [go_sem]) g0 g3 h7
      · skip
        refine (cloneU_any (l := s.L.map (·.i.path)) ((Ent.right _ _).trans ((Ent.left _ _).trans ((Ent.right _ _).trans ((Ent.right _ _).trans ((Ent.right _ _).trans ((Ent.left _ _).trans (RowO.reads _ _ _ _ _))))))) hlen h2).mono ?_
        rintro e' w3 ⟨ov, h3, rfl⟩
        simp -dsimp -implicitDefEqProofs (disch := omega) only [go_sem, h3.cl b]
        refine St.makeMap (enc := encU) h3 fun N w4 h4 => ?_
        obtain ⟨ao, co, rfl, _⟩ := h4.rowForm ov
        simp -dsimp -implicitDefEqProofs (disch := omega) only [go_sem, h4.cl b]
        refine onV_of (v := .agg (storeC 0 0 s.most s.next (.map (some N)) (.slice ao (s.L.map (·.i.path)).length co) (.map (some C)))) (by kernel_rfl) ?_
        simp -dsimp -implicitDefEqProofs (disch := omega) only [go_sem, h4.cl b]
        refine h4.new fun c w5 h5 => ?_
        simp -dsimp -implicitDefEqProofs (disch := omega) only [go_sem, h5.cl b]
        refine h5.rangeH (b := y.C) Tryz.underlying98 fun r w6 h6 => ?_
        simp -dsimp -implicitDefEqProofs (disch := omega) only [go_sem]
        refine clone_loop1 (b := b) (c := c) (s := s) (N := N) (C := C) (r := r) (ov := .slice ao (s.L.map (·.i.path)).length co) (cl := y.cl) (yC := y.C) (B := MapP encU N [] * (RowU (.slice ao (s.L.map (·.i.path)).length co) (s.L.map (·.i.path)) * (StoreB b 1 (-1073741824) s y * (MapP encU y.N (y.X.map kv) * (RowU y.ov (s.L.map (·.i.path)) * (starL nodeP y.X * A)))))) (by simp -dsimp -implicitDefEqProofs only [go_sem]) (by simp -dsimp -implicitDefEqProofs only [go_sem]) (by simp -dsimp -implicitDefEqProofs only [go_sem]) hnd (h6.ac (by simp only [RowU, CloneC]; ac_rfl)) ?_
        rintro e1 w7 cl' gd g0 g3 hlk h7
        simp -dsimp -implicitDefEqProofs (disch := omega) only [go_sem]
        exact clone_t8 ok hlk (by rw [gd]; simp -dsimp -implicitDefEqProofs only [go_sem]) g0 g3 h7
end
end
structure StepV where
  kind : Int
  x : OpV
  path : Nat
  last : Nat
  name : List UInt8
  n : Int
  second : Bool
def stL (y : StepV) : List Value := [.int .i64 y.kind] ++ opVL y.x ++ [.int .u64 y.path, .int .u64 y.last, .string (strOf y.name), .int .i64 y.n, .bool y.second]
theorem stL_len (y : StepV) : (stL y).length = 26 := rfl
structure StepA (A : HP) (y : StepV) : Prop where
  k0 : -9223372036854775808 ≤ y.kind
  k1 : y.kind ≤ 9223372036854775807
  op : OpA A y.x
  path : y.path < 18446744073709551616
  last : y.last < 18446744073709551616
  name : y.name.length ≤ 140737488355328
  n0 : -9223372036854775808 ≤ y.n
  n1 : y.n ≤ 9223372036854775807
abbrev stB (B : Nat) (y : StepV) : HP := Blk B (.cells (stL y).toArray 69 (0, 0))
section
variable {w0 w : World} {A : HP} {W b0 b1 r0 r1 bs rs bo ro i B : Nat} {s t : SD} {y : StepV}
theorem HeldP.at_ {X : HP} (hi : i < 2) (h : St w0 X w) [Gives X (HeldP W b0 b1 r0 r1)] : w.cell? ⟨W, i, none⟩ = some (ptV (sel i b0 b1)) ∧ w.cell? ⟨W, 2 + i, none⟩ = some (ptV (sel i r0 r1)) := by
  have h1 : St w0 (EmpH * HeldP W b0 b1 r0 r1) w := (h.gives (B := HeldP W b0 b1 r0 r1)).ent (Ent.embL _)
  exact HeldP.cell hi (h1.ac (by ac_rfl))
theorem stB_op {X : HP} (h : St w0 X w) [Gives X (stB B y)] : rowV w ⟨B, 1, none⟩ 20 = some (.agg (opVL y.x).toArray) := by
  have h1 : St w0 (stB B y * EmpH) w := (h.gives (B := stB B y)).ent (Ent.embL _) |>.ac (by ac_rfl)
  exact rowV_part (lo := 1) (k := 26) (n := 20) (cs := stL y) rfl (o := 0) (fun j hj => by rw [Nat.zero_add]; exact (h1.cl B j).trans (by simp)) (by decide)
theorem refChild_P {p : Nat} {nm : List UInt8} {b : Nat} (h : St w0 (RefP b s * A) w) :
    Calls Tryz.prog 52 #[.pointer (some ⟨b, 0, none⟩), .int .u64 p, .string (strOf nm)] w fun e w' => St w0 (RefP b s * A) w' ∧ e = .returned (match childF s.L p nm with | some q => .tuple #[.int .u64 q, .bool true] | none => .tuple #[.int .u64 0, .bool false]) := by
  obtain ⟨v, X, ok, h⟩ := h.refO
  refine (refChild_any ok h).mono ?_
  rintro e w1 ⟨h1, rfl⟩
  refine ⟨?_, rfl⟩
  rw [RefQ.as] at h1
  exact h1.ent (Ent.sep (RefP.shut ok) (Ent.rfl' _))
abbrev SW (W b0 b1 r0 r1 bs rs bo ro : Nat) (s t : SD) (A : HP) : HP := HeldP W b0 b1 r0 r1 * (StoreP bs 0 0 s * (RefP rs s * (StoreP bo 0 0 t * (RefP ro t * A))))
section
attribute [local go_sem] F19.t10_eq F19.t9_eq F19.t34_eq F19.t36_eq F19.t4_eq
theorem step_t10 {P Q : Nat} {x : Inf} {f : Bool} {e : FA} (hd : e.ds = []) (e6 : e.ρ 6 = .pointer (some ⟨P, 0, none⟩)) (e7 : e.ρ 7 = .bool f) (e8 : e.ρ 8 = .pointer (some ⟨Q, 0, none⟩)) (e9 : e.ρ 9 = .bool f)
    (h : St w0 (infB Q x * (infB P x * A)) w) {R : Ending → World → Prop} (hR : ∀ w', St w0 A w' → R (.returned (.bool true)) w') :
    cwE Tryz.prog F19.t10 (fnP Tryz.prog #[.tmp 4] R) e w := by
  rw [F19.t10_eq]
  simp -dsimp -implicitDefEqProofs (disch := omega) only [go_sem, hd, e6, e7, e8, e9, h.cl P, h.cl Q]
  rw [show (f == f) = true by cases f <;> rfl]
  exact hR _ h.right.right
end
section
attribute [local go_sem] F19.t9_eq F19.t34_eq F19.t36_eq F19.t4_eq
theorem step_t9 {P : Nat} {e : FA} (hi : i < 2) (hb : sel i b0 b1 = bs) (hr : sel i r0 r1 = rs) (hd : e.ds = []) (e0 : e.ρ 0 = .pointer (some ⟨W, 0, none⟩)) (e3 : e.ρ 3 = .pointer (some ⟨B, 0, none⟩)) (e5 : e.ρ 5 = .int .i64 i) (e6 : e.ρ 6 = .pointer (some ⟨P, 0, none⟩)) (e7 : e.ρ 7 = .bool (findN s.L y.path).isSome)
    (h : St w0 (infB P (toldI s y.path) * (stB B y * SW W b0 b1 r0 r1 bs rs bo ro s t A)) w) {R : Ending → World → Prop} (hR : ∀ w', St w0 (SW W b0 b1 r0 r1 bs rs bo ro s t A) w' → R (.returned (.bool true)) w') :
    cwE Tryz.prog F19.t9 (fnP Tryz.prog #[.tmp 4] R) e w := by
  rw [F19.t9_eq]
  have wc := HeldP.at_ (W := W) (b0 := b0) (b1 := b1) (r0 := r0) (r1 := r1) hi h
  have wd := HeldP.at_ (W := W) (b0 := b0) (b1 := b1) (r0 := r0) (r1 := r1) hi h.drew
  rw [hr] at wc wd
  have c21 : w.cell? ⟨B, 21, none⟩ = some (.int .u64 y.path) := h.cl B 21
  have d21 : w.drew.cell? ⟨B, 21, none⟩ = some (.int .u64 y.path) := h.drew.cl B 21
  simp -dsimp -implicitDefEqProofs (disch := omega) only [go_sem, hd, e0, e3, e5, e6, e7, wc.2, wd.2, c21, d21]
  refine ⟨?_, ?_⟩
  · refine (refNode_any (p := y.path) (h.drew.ac (show _ = RefP rs s * (infB P (toldI s y.path) * (stB B y * (HeldP W b0 b1 r0 r1 * (StoreP bs 0 0 s * (StoreP bo 0 0 t * (RefP ro t * A)))))) by unfold SW; ac_rfl))).mono ?_
    rintro e' w2 ⟨h2, rfl⟩
    have wc := HeldP.at_ (W := W) (b0 := b0) (b1 := b1) (r0 := r0) (r1 := r1) hi h2
    rw [hr] at wc
    have c21 : w2.cell? ⟨B, 21, none⟩ = some (.int .u64 y.path) := h2.cl B 21
    simp -dsimp -implicitDefEqProofs (disch := omega) only [go_sem, hd, e0, e3, e5, e6, e7, wc.2, c21]
    refine h2.new fun Q w3 h3 => ?_
    have wc := HeldP.at_ (W := W) (b0 := b0) (b1 := b1) (r0 := r0) (r1 := r1) hi h3
    rw [hr] at wc
    have c21 : w3.cell? ⟨B, 21, none⟩ = some (.int .u64 y.path) := h3.cl B 21
    simp -dsimp -implicitDefEqProofs (disch := omega) only [go_sem, hd, e0, e3, e5, e6, e7, wc.2, c21]
    refine h3.stoAll (b := Q) (cs := infL (toldI s y.path)) rfl rfl (infL_cells _) fun w4 h4 => ?_
    simp -dsimp -implicitDefEqProofs (disch := omega) only [go_sem, hd, e0, e3, e5, e6, e7]
    exact step_t10 (P := P) (Q := Q) (x := toldI s y.path) (f := (findN s.L y.path).isSome) (by simp -dsimp -implicitDefEqProofs only [go_sem, hd]) (by simp -dsimp -implicitDefEqProofs only [go_sem, e6]) (by simp -dsimp -implicitDefEqProofs only [go_sem, e7]) (by simp -dsimp -implicitDefEqProofs only [go_sem]) (by simp -dsimp -implicitDefEqProofs only [go_sem]) (h4.ac (show _ = Blk Q (.cells (infL (toldI s y.path)).toArray 42 (0, 0)) * (infB P (toldI s y.path) * (SW W b0 b1 r0 r1 bs rs bo ro s t A * stB B y)) by unfold SW; ac_rfl)) fun w' h' => hR w' h'.left
  · refine h.drew.new fun Q w3 h3 => ?_
    have wc := HeldP.at_ (W := W) (b0 := b0) (b1 := b1) (r0 := r0) (r1 := r1) hi h3
    rw [hr] at wc
    have c21 : w3.cell? ⟨B, 21, none⟩ = some (.int .u64 y.path) := h3.cl B 21
    simp -dsimp -implicitDefEqProofs (disch := omega) only [go_sem, hd, e0, e3, e5, e6, e7, wc.2, c21]
    refine (refNode_any (p := y.path) (h3.ac (show _ = RefP rs s * (Blk Q (.cells (infL infZ).toArray 42 (0, 0)) * (infB P (toldI s y.path) * (stB B y * (HeldP W b0 b1 r0 r1 * (StoreP bs 0 0 s * (StoreP bo 0 0 t * (RefP ro t * A))))))) by unfold SW; ac_rfl))).mono ?_
    rintro e' w2 ⟨h2, rfl⟩
    have wc := HeldP.at_ (W := W) (b0 := b0) (b1 := b1) (r0 := r0) (r1 := r1) hi h2
    rw [hr] at wc
    have c21 : w2.cell? ⟨B, 21, none⟩ = some (.int .u64 y.path) := h2.cl B 21
    simp -dsimp -implicitDefEqProofs (disch := omega) only [go_sem, hd, e0, e3, e5, e6, e7, wc.2, c21]
    refine h2.stoAll (b := Q) (cs := infL (toldI s y.path)) rfl rfl (infL_cells _) fun w4 h4 => ?_
    simp -dsimp -implicitDefEqProofs (disch := omega) only [go_sem, hd, e0, e3, e5, e6, e7]
    exact step_t10 (P := P) (Q := Q) (x := toldI s y.path) (f := (findN s.L y.path).isSome) (by simp -dsimp -implicitDefEqProofs only [go_sem, hd]) (by simp -dsimp -implicitDefEqProofs only [go_sem, e6]) (by simp -dsimp -implicitDefEqProofs only [go_sem, e7]) (by simp -dsimp -implicitDefEqProofs only [go_sem]) (by simp -dsimp -implicitDefEqProofs only [go_sem]) (h4.ac (show _ = Blk Q (.cells (infL (toldI s y.path)).toArray 42 (0, 0)) * (infB P (toldI s y.path) * (SW W b0 b1 r0 r1 bs rs bo ro s t A * stB B y)) by unfold SW; ac_rfl)) fun w' h' => hR w' h'.left
def StepQ (w0 : World) (W i n : Nat) (A : HP) (e : Ending) (w : World) : Prop :=
  ∃ b0 b1 r0 r1 s t, Wf s ∧ Wf t ∧ s.next ≤ n ∧ t.next ≤ n ∧ St w0 (SW W b0 b1 r0 r1 (sel i b0 b1) (sel i r0 r1) (sel (1 - i) b0 b1) (sel (1 - i) r0 r1) s t A) w ∧ e = .returned (.bool true)
end
section
attribute [local go_sem] F19.t10_eq F19.t34_eq F19.t36_eq F19.t4_eq
set_option maxHeartbeats 1000000 in
theorem step_t4 [Gives A Tabs] {n : Nat} {e : FA} (hi : i < 2) (hk : StepA A y) (hw : wtO y.x.o ≤ 8388608) (hs : Wf s) (ht : Wf t) (hsn : s.next ≤ n) (htn : t.next ≤ n) (hn : n ≤ 4611686018427387904)
    (hb : sel i b0 b1 = bs) (hr : sel i r0 r1 = rs) (hb2 : sel (1 - i) b0 b1 = bo) (hr2 : sel (1 - i) r0 r1 = ro)
    (hd : e.ds = []) (e0 : e.ρ 0 = .pointer (some ⟨W, 0, none⟩)) (e3 : e.ρ 3 = .pointer (some ⟨B, 0, none⟩)) (e5 : e.ρ 5 = .int .i64 i)
    (h : St w0 (stB B y * SW W b0 b1 r0 r1 bs rs bo ro s t A) w)
    {R : Ending → World → Prop} (hR : ∀ e w, StepQ w0 W i (n + 1) A e w → R e w) :
    cwE Tryz.prog F19.t4 (fnP Tryz.prog #[.tmp 4] R) e w := by
  rw [F19.t4_eq]
  have fin : ∀ {w : World}, St w0 (SW W b0 b1 r0 r1 bs rs bo ro s t A) w → R (.returned (.bool true)) w := fun h => hR _ _ ⟨b0, b1, r0, r1, s, t, hs, ht, by omega, by omega, by rw [hb, hr, hb2, hr2]; exact h, rfl⟩
  have ck : w.cell? ⟨B, 0, none⟩ = some (.int .i64 y.kind) := h.cl B 0
  have hD := h.drew
  have wc := HeldP.at_ (W := W) (b0 := b0) (b1 := b1) (r0 := r0) (r1 := r1) hi h
  have wd := HeldP.at_ (W := W) (b0 := b0) (b1 := b1) (r0 := r0) (r1 := r1) hi hD
  rw [hb, hr] at wc wd
  have cp : w.cell? ⟨B, 21, none⟩ = some (.int .u64 y.path) := h.cl B 21
  have dp : w.drew.cell? ⟨B, 21, none⟩ = some (.int .u64 y.path) := hD.cl B 21
  have cl_ : w.cell? ⟨B, 22, none⟩ = some (.int .u64 y.last) := h.cl B 22
  have dl : w.drew.cell? ⟨B, 22, none⟩ = some (.int .u64 y.last) := hD.cl B 22
  have cnm : w.cell? ⟨B, 23, none⟩ = some (.string (strOf y.name)) := h.cl B 23
  have dnm : w.drew.cell? ⟨B, 23, none⟩ = some (.string (strOf y.name)) := hD.cl B 23
  have cn : w.cell? ⟨B, 24, none⟩ = some (.int .i64 y.n) := h.cl B 24
  by_cases k1 : y.kind = 1
  · have hrow : rowV w ⟨B, 1, none⟩ 20 = some (.agg (opVL y.x).toArray) := stB_op h
    simp -dsimp -implicitDefEqProofs (disch := omega) only [go_sem, hd, e0, e3, e5, ck, k1, hrow]
    haveI : Gives A (RdB y.x.v y.x.o.data) := ⟨hk.op.data⟩
    obtain ⟨v, E, Gs, ok, h2⟩ := (h.ac (show _ = HeldP W b0 b1 r0 r1 * (StoreP bs 0 0 s * (RefP rs s * ((StoreP bo 0 0 t * (RefP ro t * A)) * stB B y))) by unfold SW; ac_rfl)).heldO
    refine (does_any (o := y.x.o) (vd := y.x.v) hi hb hr (hk.op.in_ hw) (by unfold wtO at hw; omega) hk.op.kind hs (by omega) (h2.ac (show _ = wB W b0 b1 r0 r1 v * (StoreP bs 0 0 s * (RefP rs s * ((StoreP bo 0 0 t * (RefP ro t * A)) * (stB B y * (heldR v E * grps Gs))))) by ac_rfl))).mono ?_
    rintro e' w2 ⟨h3, rfl⟩
    have hdn := do_next s y.x.o
    have h4 := St.heldS (A := StoreP bs 0 0 (doF s y.x.o).1 * (RefP rs (doF s y.x.o).1 * ((StoreP bo 0 0 t * (RefP ro t * A)) * stB B y))) ok (h3.ac (by ac_rfl))
    simp -dsimp -implicitDefEqProofs (disch := omega) only [go_sem, hd, e0, e3, e5]
    exact hR _ _ ⟨b0, b1, r0, r1, (doF s y.x.o).1, t, do_wf hs (hk.op.in_ hw).ok, ht, by omega, by omega, by rw [hb, hr, hb2, hr2]; exact h4.ent (Ent.sep (Ent.rfl' _) (Ent.sep (Ent.rfl' _) (Ent.sep (Ent.rfl' _) (Ent.left _ _)))), rfl⟩
  by_cases k2 : y.kind = 2
  · simp -dsimp -implicitDefEqProofs (disch := omega) only [go_sem, hd, e0, e3, e5, ck, k1, k2, wc.1, wd.1, cp, dp]
    refine ⟨?_, ?_⟩
    · refine (node_any (p := y.path) (hD.ac (show _ = StoreP bs 0 0 s * (stB B y * (HeldP W b0 b1 r0 r1 * (RefP rs s * (StoreP bo 0 0 t * (RefP ro t * A))))) by unfold SW; ac_rfl))).mono ?_
      rintro e' w2 ⟨h2, rfl⟩
      have wc := HeldP.at_ (W := W) (b0 := b0) (b1 := b1) (r0 := r0) (r1 := r1) hi h2
      rw [hb, hr] at wc
      have cp : w2.cell? ⟨B, 21, none⟩ = some (.int .u64 y.path) := h2.cl B 21
      simp -dsimp -implicitDefEqProofs (disch := omega) only [go_sem, hd, e0, e3, e5, wc.1, cp]
      refine h2.new fun P w3 h3 => ?_
      have wc := HeldP.at_ (W := W) (b0 := b0) (b1 := b1) (r0 := r0) (r1 := r1) hi h3
      rw [hb, hr] at wc
      have cp : w3.cell? ⟨B, 21, none⟩ = some (.int .u64 y.path) := h3.cl B 21
      simp -dsimp -implicitDefEqProofs (disch := omega) only [go_sem, hd, e0, e3, e5, wc.1, cp]
      refine h3.stoAll (b := P) (cs := infL (toldI s y.path)) rfl rfl (infL_cells _) fun w4 h4 => ?_
      simp -dsimp -implicitDefEqProofs (disch := omega) only [go_sem, hd, e0, e3, e5]
      exact step_t9 (P := P) (B := B) (y := y) hi hb hr (by simp -dsimp -implicitDefEqProofs only [go_sem, hd]) (by simp -dsimp -implicitDefEqProofs only [go_sem, e0]) (by simp -dsimp -implicitDefEqProofs only [go_sem, e3]) (by simp -dsimp -implicitDefEqProofs only [go_sem, e5]) (by simp -dsimp -implicitDefEqProofs only [go_sem]) (by simp -dsimp -implicitDefEqProofs only [go_sem]) (h4.ac (show _ = Blk P (.cells (infL (toldI s y.path)).toArray 42 (0, 0)) * (stB B y * SW W b0 b1 r0 r1 bs rs bo ro s t A) by unfold SW; ac_rfl)) fun w' h' => fin h'
    · refine hD.new fun P w3 h3 => ?_
      have wc := HeldP.at_ (W := W) (b0 := b0) (b1 := b1) (r0 := r0) (r1 := r1) hi h3
      rw [hb, hr] at wc
      have cp : w3.cell? ⟨B, 21, none⟩ = some (.int .u64 y.path) := h3.cl B 21
      simp -dsimp -implicitDefEqProofs (disch := omega) only [go_sem, hd, e0, e3, e5, wc.1, cp]
      refine (node_any (p := y.path) (h3.ac (show _ = StoreP bs 0 0 s * (Blk P (.cells (infL infZ).toArray 42 (0, 0)) * (stB B y * (HeldP W b0 b1 r0 r1 * (RefP rs s * (StoreP bo 0 0 t * (RefP ro t * A)))))) by unfold SW; ac_rfl))).mono ?_
      rintro e' w2 ⟨h2, rfl⟩
      have wc := HeldP.at_ (W := W) (b0 := b0) (b1 := b1) (r0 := r0) (r1 := r1) hi h2
      rw [hb, hr] at wc
      have cp : w2.cell? ⟨B, 21, none⟩ = some (.int .u64 y.path) := h2.cl B 21
      simp -dsimp -implicitDefEqProofs (disch := omega) only [go_sem, hd, e0, e3, e5, wc.1, cp]
      refine h2.stoAll (b := P) (cs := infL (toldI s y.path)) rfl rfl (infL_cells _) fun w4 h4 => ?_
      simp -dsimp -implicitDefEqProofs (disch := omega) only [go_sem, hd, e0, e3, e5]
      exact step_t9 (P := P) (B := B) (y := y) hi hb hr (by simp -dsimp -implicitDefEqProofs only [go_sem, hd]) (by simp -dsimp -implicitDefEqProofs only [go_sem, e0]) (by simp -dsimp -implicitDefEqProofs only [go_sem, e3]) (by simp -dsimp -implicitDefEqProofs only [go_sem, e5]) (by simp -dsimp -implicitDefEqProofs only [go_sem]) (by simp -dsimp -implicitDefEqProofs only [go_sem]) (h4.ac (show _ = Blk P (.cells (infL (toldI s y.path)).toArray 42 (0, 0)) * (stB B y * SW W b0 b1 r0 r1 bs rs bo ro s t A) by unfold SW; ac_rfl)) fun w' h' => fin h'
  by_cases k3 : y.kind = 3
  · simp -dsimp -implicitDefEqProofs (disch := omega) only [go_sem, hd, e0, e3, e5, ck, k1, k2, k3, wc.1, wd.1, cp, dp, cnm, dnm]
    refine (child_any (p := y.path) (nm := y.name) (hD.ac (show _ = StoreP bs 0 0 s * (stB B y * (HeldP W b0 b1 r0 r1 * (RefP rs s * (StoreP bo 0 0 t * (RefP ro t * A))))) by unfold SW; ac_rfl))).mono ?_
    rintro e' w2 ⟨h2, rfl⟩
    have hE := h2.drew
    have wc := HeldP.at_ (W := W) (b0 := b0) (b1 := b1) (r0 := r0) (r1 := r1) hi h2
    have wd := HeldP.at_ (W := W) (b0 := b0) (b1 := b1) (r0 := r0) (r1 := r1) hi hE
    rw [hb, hr] at wc wd
    have cp : w2.cell? ⟨B, 21, none⟩ = some (.int .u64 y.path) := h2.cl B 21
    have dp : w2.drew.cell? ⟨B, 21, none⟩ = some (.int .u64 y.path) := hE.cl B 21
    have c3 : w2.cell? ⟨B, 23, none⟩ = some (.string (strOf y.name)) := h2.cl B 23
    have d3 : w2.drew.cell? ⟨B, 23, none⟩ = some (.string (strOf y.name)) := hE.cl B 23
    cases hc : childF s.L y.path y.name with
    | none =>
      simp -dsimp -implicitDefEqProofs (disch := omega) only [go_sem, hd, e0, e3, e5, wc.1, wc.2, wd.1, wd.2, cp, dp, c3, d3]
      refine (refChild_P (p := y.path) (nm := y.name) (hE.ac (show _ = RefP rs s * (stB B y * (HeldP W b0 b1 r0 r1 * (StoreP bs 0 0 s * (StoreP bo 0 0 t * (RefP ro t * A))))) by ac_rfl))).mono ?_
      rintro e' w3 ⟨h3, rfl⟩
      rw [hc]
      have wc := HeldP.at_ (W := W) (b0 := b0) (b1 := b1) (r0 := r0) (r1 := r1) hi h3
      rw [hb, hr] at wc
      have cp : w3.cell? ⟨B, 21, none⟩ = some (.int .u64 y.path) := h3.cl B 21
      have c3 : w3.cell? ⟨B, 23, none⟩ = some (.string (strOf y.name)) := h3.cl B 23
      simp -dsimp -implicitDefEqProofs (disch := omega) only [go_sem, hd, e0, e3, e5, wc.2, cp, c3, beq_self_eq_true]
      exact fin (h3.ac (show _ = stB B y * SW W b0 b1 r0 r1 bs rs bo ro s t A by unfold SW; ac_rfl)).right
    | some q =>
      simp -dsimp -implicitDefEqProofs (disch := omega) only [go_sem, hd, e0, e3, e5, wc.1, wc.2, wd.1, wd.2, cp, dp, c3, d3]
      refine (refChild_P (p := y.path) (nm := y.name) (hE.ac (show _ = RefP rs s * (stB B y * (HeldP W b0 b1 r0 r1 * (StoreP bs 0 0 s * (StoreP bo 0 0 t * (RefP ro t * A))))) by ac_rfl))).mono ?_
      rintro e' w3 ⟨h3, rfl⟩
      rw [hc]
      have wc := HeldP.at_ (W := W) (b0 := b0) (b1 := b1) (r0 := r0) (r1 := r1) hi h3
      rw [hb, hr] at wc
      have cp : w3.cell? ⟨B, 21, none⟩ = some (.int .u64 y.path) := h3.cl B 21
      have c3 : w3.cell? ⟨B, 23, none⟩ = some (.string (strOf y.name)) := h3.cl B 23
      simp -dsimp -implicitDefEqProofs (disch := omega) only [go_sem, hd, e0, e3, e5, wc.2, cp, c3, beq_self_eq_true]
      exact fin (h3.ac (show _ = stB B y * SW W b0 b1 r0 r1 bs rs bo ro s t A by unfold SW; ac_rfl)).right
  by_cases k4 : y.kind = 4
  · simp -dsimp -implicitDefEqProofs (disch := omega) only [go_sem, hd, e0, e3, e5, ck, k1, k2, k3, k4, wc.1, wd.1, cp, dp, cl_, dl]
    refine (after_any (p := y.path) (last := y.last) (hD.ac (show _ = StoreP bs 0 0 s * (stB B y * (HeldP W b0 b1 r0 r1 * (RefP rs s * (StoreP bo 0 0 t * (RefP ro t * A))))) by unfold SW; ac_rfl))).mono ?_
    rintro e' w2 ⟨h2, rfl⟩
    have hE := h2.drew
    have wc := HeldP.at_ (W := W) (b0 := b0) (b1 := b1) (r0 := r0) (r1 := r1) hi h2
    have wd := HeldP.at_ (W := W) (b0 := b0) (b1 := b1) (r0 := r0) (r1 := r1) hi hE
    rw [hb, hr] at wc wd
    have cp : w2.cell? ⟨B, 21, none⟩ = some (.int .u64 y.path) := h2.cl B 21
    have dp : w2.drew.cell? ⟨B, 21, none⟩ = some (.int .u64 y.path) := hE.cl B 21
    have c3 : w2.cell? ⟨B, 22, none⟩ = some (.int .u64 y.last) := h2.cl B 22
    have d3 : w2.drew.cell? ⟨B, 22, none⟩ = some (.int .u64 y.last) := hE.cl B 22
    unfold aftV
    cases hc : afterS s y.path y.last with
    | none =>
      simp -dsimp -implicitDefEqProofs (disch := omega) only [go_sem, hd, e0, e3, e5, wc.1, wc.2, wd.1, wd.2, cp, dp, c3, d3]
      refine (refAfter_any (p := y.path) (last := y.last) (hE.ac (show _ = RefP rs s * (stB B y * (HeldP W b0 b1 r0 r1 * (StoreP bs 0 0 s * (StoreP bo 0 0 t * (RefP ro t * A))))) by ac_rfl))).mono ?_
      rintro e' w3 ⟨h3, rfl⟩
      rw [hc]; unfold aftV
      have wc := HeldP.at_ (W := W) (b0 := b0) (b1 := b1) (r0 := r0) (r1 := r1) hi h3
      rw [hb, hr] at wc
      have cp : w3.cell? ⟨B, 21, none⟩ = some (.int .u64 y.path) := h3.cl B 21
      have c3 : w3.cell? ⟨B, 22, none⟩ = some (.int .u64 y.last) := h3.cl B 22
      simp -dsimp -implicitDefEqProofs (disch := omega) only [go_sem, hd, e0, e3, e5, wc.2, cp, c3, beq_self_eq_true]
      exact fin (h3.ac (show _ = stB B y * SW W b0 b1 r0 r1 bs rs bo ro s t A by unfold SW; ac_rfl)).right
    | some q =>
      simp -dsimp -implicitDefEqProofs (disch := omega) only [go_sem, hd, e0, e3, e5, wc.1, wc.2, wd.1, wd.2, cp, dp, c3, d3]
      refine (refAfter_any (p := y.path) (last := y.last) (hE.ac (show _ = RefP rs s * (stB B y * (HeldP W b0 b1 r0 r1 * (StoreP bs 0 0 s * (StoreP bo 0 0 t * (RefP ro t * A))))) by ac_rfl))).mono ?_
      rintro e' w3 ⟨h3, rfl⟩
      rw [hc]; unfold aftV
      have wc := HeldP.at_ (W := W) (b0 := b0) (b1 := b1) (r0 := r0) (r1 := r1) hi h3
      rw [hb, hr] at wc
      have cp : w3.cell? ⟨B, 21, none⟩ = some (.int .u64 y.path) := h3.cl B 21
      have c3 : w3.cell? ⟨B, 22, none⟩ = some (.int .u64 y.last) := h3.cl B 22
      simp -dsimp -implicitDefEqProofs (disch := omega) only [go_sem, hd, e0, e3, e5, wc.2, cp, c3, beq_self_eq_true]
      exact fin (h3.ac (show _ = stB B y * SW W b0 b1 r0 r1 bs rs bo ro s t A by unfold SW; ac_rfl)).right
  by_cases k5 : y.kind = 5
  · simp -dsimp -implicitDefEqProofs (disch := omega) only [go_sem, hd, e0, e3, e5, ck, k1, k2, k3, k4, k5, cp, cl_, cn]
    refine (reads_any (p := y.path) (off := y.last) (k := y.n) hi hb hr hs hk.last ⟨hk.n0, hk.n1⟩ (h.ac (show _ = HeldP W b0 b1 r0 r1 * (StoreP bs 0 0 s * (RefP rs s * ((StoreP bo 0 0 t * (RefP ro t * A)) * stB B y))) by unfold SW; ac_rfl))).mono ?_
    rintro e' w2 ⟨h2, rfl⟩
    simp -dsimp -implicitDefEqProofs (disch := omega) only [go_sem, hd, e0, e3, e5]
    exact fin (h2.ent (Ent.sep (Ent.rfl' _) (Ent.sep (Ent.rfl' _) (Ent.sep (Ent.rfl' _) (Ent.left _ _)))))
  by_cases k6 : y.kind = 6
  · simp -dsimp -implicitDefEqProofs (disch := omega) only [go_sem, hd, e0, e3, e5, ck, k1, k2, k3, k4, k5, k6, wc.1]
    refine (next_any (h.ac (show _ = StoreP bs 0 0 s * (stB B y * (HeldP W b0 b1 r0 r1 * (RefP rs s * (StoreP bo 0 0 t * (RefP ro t * A))))) by unfold SW; ac_rfl))).mono ?_
    rintro e' w2 ⟨h2, rfl⟩
    have wc := HeldP.at_ (W := W) (b0 := b0) (b1 := b1) (r0 := r0) (r1 := r1) hi h2
    rw [hb, hr] at wc
    simp -dsimp -implicitDefEqProofs (disch := omega) only [go_sem, hd, e0, e3, e5, wc.1]
    refine (count_any h2).mono ?_
    rintro e' w3 ⟨h3, rfl⟩
    have wc := HeldP.at_ (W := W) (b0 := b0) (b1 := b1) (r0 := r0) (r1 := r1) hi h3
    rw [hb, hr] at wc
    simp -dsimp -implicitDefEqProofs (disch := omega) only [go_sem, hd, e0, e3, e5, wc.2]
    refine (refNext_any (h3.ac (show _ = RefP rs s * (stB B y * (HeldP W b0 b1 r0 r1 * (StoreP bs 0 0 s * (StoreP bo 0 0 t * (RefP ro t * A))))) by ac_rfl))).mono ?_
    rintro e' w4 ⟨h4, rfl⟩
    have wc := HeldP.at_ (W := W) (b0 := b0) (b1 := b1) (r0 := r0) (r1 := r1) hi h4
    rw [hb, hr] at wc
    simp -dsimp -implicitDefEqProofs (disch := omega) only [go_sem, hd, e0, e3, e5, wc.2]
    refine (refCount_any h4).mono ?_
    rintro e' w5 ⟨h5, rfl⟩
    simp -dsimp -implicitDefEqProofs (disch := omega) only [go_sem, hd, e0, e3, e5, beq_self_eq_true]
    exact fin (h5.ac (show _ = stB B y * SW W b0 b1 r0 r1 bs rs bo ro s t A by unfold SW; ac_rfl)).right
  by_cases k7 : y.kind = 7
  · simp -dsimp -implicitDefEqProofs (disch := omega) only [go_sem, hd, e0, e3, e5, ck, k1, k2, k3, k4, k5, k6, k7]
    refine (wall_any hi hb hr hs (h.ac (show _ = HeldP W b0 b1 r0 r1 * (StoreP bs 0 0 s * (RefP rs s * ((StoreP bo 0 0 t * (RefP ro t * A)) * stB B y))) by unfold SW; ac_rfl))).mono ?_
    rintro e' w2 ⟨h2, rfl⟩
    simp -dsimp -implicitDefEqProofs (disch := omega) only [go_sem, hd, e0, e3, e5]
    exact fin (h2.ent (Ent.sep (Ent.rfl' _) (Ent.sep (Ent.rfl' _) (Ent.sep (Ent.rfl' _) (Ent.left _ _)))))
  by_cases k8 : y.kind = 8
  · simp -dsimp -implicitDefEqProofs (disch := omega) only [go_sem, hd, e0, e3, e5, ck, k1, k2, k3, k4, k5, k6, k7, k8, wc.1]
    refine (clone_any (h.ac (show _ = StoreP bs 0 0 s * (stB B y * (HeldP W b0 b1 r0 r1 * (RefP rs s * (StoreP bo 0 0 t * (RefP ro t * A))))) by unfold SW; ac_rfl))).mono ?_
    rintro e' w2 ⟨b', h2, rfl⟩
    have wc := HeldP.at_ (W := W) (b0 := b0) (b1 := b1) (r0 := r0) (r1 := r1) hi h2
    rw [hb, hr] at wc
    simp -dsimp -implicitDefEqProofs (disch := omega) only [go_sem, hd, e0, e3, e5, wc.2]
    refine (refClone_any (h2.ac (show _ = RefP rs s * (StoreP b' 0 0 s * (StoreP bs 0 0 s * (stB B y * (HeldP W b0 b1 r0 r1 * (StoreP bo 0 0 t * (RefP ro t * A)))))) by ac_rfl))).mono ?_
    rintro e' w3 ⟨r', h3, rfl⟩
    simp -dsimp -implicitDefEqProofs (disch := omega) only [go_sem, hd, e0, e3, e5]
    obtain ⟨v, E, Gs, ok, h4⟩ := (h3.ac (show _ = HeldP W b0 b1 r0 r1 * (RefP r' s * (RefP rs s * (StoreP b' 0 0 s * (StoreP bs 0 0 s * (stB B y * (StoreP bo 0 0 t * (RefP ro t * A))))))) by ac_rfl)).heldO
    rcases (by omega : i = 0 ∨ i = 1) with rfl | rfl
    · have hb0 : b0 = bs := hb
      have hr0 : r0 = rs := hr
      subst hb0 hr0
      simp -dsimp -implicitDefEqProofs (disch := omega) only [go_sem, hd, e0, e3, e5]
      refine h4.sto (b := W) (off := 1) (by simp) rfl fun w5 h5 => ?_
      simp only [List.setIfInBounds_toArray, List.set_cons_succ, List.set_cons_zero] at h5
      simp -dsimp -implicitDefEqProofs (disch := omega) only [go_sem, hd, e0, e3, e5]
      refine h5.sto (b := W) (off := 3) (by simp) rfl fun w6 h6 => ?_
      simp only [List.setIfInBounds_toArray, List.set_cons_succ, List.set_cons_zero] at h6
      simp -dsimp -implicitDefEqProofs (disch := omega) only [go_sem, hd, e0, e3, e5]
      have h7 : St w0 (wB W b0 b' r0 r' v * (heldR v E * (grps Gs * (StoreP b0 0 0 s * (RefP r0 s * (StoreP b' 0 0 s * (RefP r' s * (A * (stB B y * (StoreP bo 0 0 t * RefP ro t)))))))))) w6 := h6.ac (by unfold wB ptV; ac_rfl)
      exact hR _ _ ⟨b0, b', r0, r', s, s, hs, hs, by omega, by omega, (St.heldS ok h7).ent (Ent.sep (Ent.rfl' _) (Ent.sep (Ent.rfl' _) (Ent.sep (Ent.rfl' _) (Ent.sep (Ent.rfl' _) (Ent.sep (Ent.rfl' _) (Ent.left _ _)))))), rfl⟩
    · have hb0 : b1 = bs := hb
      have hr0 : r1 = rs := hr
      subst hb0 hr0
      simp -dsimp -implicitDefEqProofs (disch := omega) only [go_sem, hd, e0, e3, e5]
      refine h4.sto (b := W) (off := 0) (by simp) rfl fun w5 h5 => ?_
      simp only [List.setIfInBounds_toArray, List.set_cons_succ, List.set_cons_zero] at h5
      simp -dsimp -implicitDefEqProofs (disch := omega) only [go_sem, hd, e0, e3, e5]
      refine h5.sto (b := W) (off := 2) (by simp) rfl fun w6 h6 => ?_
      simp only [List.setIfInBounds_toArray, List.set_cons_succ, List.set_cons_zero] at h6
      simp -dsimp -implicitDefEqProofs (disch := omega) only [go_sem, hd, e0, e3, e5]
      have h7 : St w0 (wB W b' b1 r' r1 v * (heldR v E * (grps Gs * (StoreP b1 0 0 s * (RefP r1 s * (StoreP b' 0 0 s * (RefP r' s * (A * (stB B y * (StoreP bo 0 0 t * RefP ro t)))))))))) w6 := h6.ac (by unfold wB ptV; ac_rfl)
      exact hR _ _ ⟨b', b1, r', r1, s, s, hs, hs, by omega, by omega, (St.heldS ok h7).ent (Ent.sep (Ent.rfl' _) (Ent.sep (Ent.rfl' _) (Ent.sep (Ent.rfl' _) (Ent.sep (Ent.rfl' _) (Ent.sep (Ent.rfl' _) (Ent.left _ _)))))), rfl⟩
  simp -dsimp -implicitDefEqProofs (disch := omega) only [go_sem, hd, e0, e3, e5, ck, k1, k2, k3, k4, k5, k6, k7, k8]
  exact fin h.right
end
end
section
variable {w0 w : World} {A : HP} {W b0 b1 r0 r1 i : Nat} {s t : SD} {y : StepV}
theorem StepQ.zero {n : Nat} {e : Ending} (h : StepQ w0 W 1 n A e w) : StepQ w0 W 0 n A e w := by
  obtain ⟨b0, b1, r0, r1, s, t, hs, ht, h1, h2, h3, h4⟩ := h
  exact ⟨b0, b1, r0, r1, t, s, ht, hs, h2, h1, h3.ac (by show SW W b0 b1 r0 r1 b1 r1 b0 r0 s t A = SW W b0 b1 r0 r1 b0 r0 b1 r1 t s A; unfold SW; ac_rfl), h4⟩
section
attribute [local go_sem] F19.t10_eq F19.t9_eq F19.t34_eq F19.t36_eq
theorem step_any [Gives A Tabs] {n : Nat} (hk : StepA A y) (hw : wtO y.x.o ≤ 8388608) (hs : Wf s) (ht : Wf t) (hsn : s.next ≤ n) (htn : t.next ≤ n) (hn : n ≤ 4611686018427387904)
    (h : St w0 (SW W b0 b1 r0 r1 b0 r0 b1 r1 s t A) w) :
    Calls Tryz.prog 19 #[.pointer (some ⟨W, 0, none⟩), .agg (stL y).toArray] w (StepQ w0 W 0 (n + 1) A) := by
  refine F19.calls (by simp) ?_
  unfold F19.code
  simp -dsimp -implicitDefEqProofs (disch := omega) only [go_sem]
  refine h.new fun B w1 h1 => ?_
  have h1 : St w0 (stB B y * SW W b0 b1 r0 r1 b0 r0 b1 r1 s t A) w1 := h1
  have c25 : w1.cell? ⟨B, 25, none⟩ = some (.bool y.second) := h1.cl B 25
  cases hsec : y.second with
  | false =>
    rw [hsec] at c25
    simp -dsimp -implicitDefEqProofs (disch := omega) only [go_sem, c25]
    exact step_t4 (B := B) (y := y) (W := W) (i := 0) (by decide) hk hw hs ht hsn htn hn rfl rfl rfl rfl (by simp -dsimp -implicitDefEqProofs only [go_sem]) (by simp -dsimp -implicitDefEqProofs only [go_sem]) (by simp -dsimp -implicitDefEqProofs only [go_sem]) (by simp -dsimp -implicitDefEqProofs only [go_sem]) h1 fun e w h => h
  | true =>
    rw [hsec] at c25
    simp -dsimp -implicitDefEqProofs (disch := omega) only [go_sem, c25]
    exact step_t4 (B := B) (y := y) (W := W) (i := 1) (bs := b1) (rs := r1) (bo := b0) (ro := r0) (by decide) hk hw ht hs htn hsn hn rfl rfl rfl rfl (by simp -dsimp -implicitDefEqProofs only [go_sem]) (by simp -dsimp -implicitDefEqProofs only [go_sem]) (by simp -dsimp -implicitDefEqProofs only [go_sem]) (by simp -dsimp -implicitDefEqProofs only [go_sem]) (h1.ac (by unfold SW; ac_rfl)) fun e w h => h.zero
structure StepsP (A : HP) (v : Value) (l : List StepV) : Prop where
  rd : Ent A (Reads 26 v l.length (l.flatMap stL))
  each : ∀ y ∈ l, StepA A y
  few : l.length ≤ 1000000000000000
theorem StepA.up {A A' : HP} {y : StepV} (e : Ent A' A) (h : StepA A y) : StepA A' y :=
  ⟨h.k0, h.k1, ⟨h.op.kind, h.op.mask, h.op.offset, h.op.mode, h.op.atime, h.op.mtime, h.op.n0, h.op.n1, e.trans h.op.data, h.op.form, h.op.wt⟩, h.path, h.last, h.name, h.n0, h.n1⟩
theorem StepsP.up {A A' : HP} {v : Value} {l : List StepV} (e : Ent A' A) (h : StepsP A v l) : StepsP A' v l := ⟨e.trans h.rd, fun y hy => (h.each y hy).up e, h.few⟩
def wtS (l : List StepV) : Nat := (l.map fun y => 50 + y.name.length + wtO y.x.o).sum
theorem wtS_take {l : List StepV} {i : Nat} (hi : i < l.length) : wtS (l.take (i + 1)) = wtS (l.take i) + (50 + l[i].name.length + wtO l[i].x.o) := by
  unfold wtS
  rw [List.take_succ_eq_append_getElem hi, List.map_append, List.sum_append]
  simp
theorem wtS_mem {l : List StepV} {y : StepV} (hy : y ∈ l) : wtO y.x.o ≤ wtS l := by
  induction l with
  | nil => simp at hy
  | cons z l ih =>
    unfold wtS at ih ⊢
    rw [List.map_cons, List.sum_cons]
    rcases List.mem_cons.1 hy with rfl | h
    · omega
    · have := ih h; omega
theorem wtS_len (l : List StepV) : l.length ≤ wtS l := by
  induction l with
  | nil => simp [wtS]
  | cons z l ih =>
    unfold wtS at ih ⊢
    rw [List.map_cons, List.sum_cons, List.length_cons]
    omega
end
section
attribute [local go_sem] F17.t4_eq F17.t5_eq F17.t6_eq
theorem ofSteps_any {a : Option Addr} {c : Nat} {l : List StepV} (hP : StepsP A (.slice a l.length c) l) (h : St w0 A w) :
    Calls Tryz.prog 17 #[.slice a l.length c] w fun e w' => St w0 A w' ∧ ∃ k : Nat, e = .returned (.int .i64 k) ∧ k ≤ 2000000000000000 ∧ (k ≤ 8388608 → k = wtS l) := by
  refine F17.calls (by simp) ?_
  unfold F17.code
  have hfew := hP.few
  simp -dsimp -implicitDefEqProofs (disch := omega) only [go_sem]
  refine loop_intro (fun e w' => e.ds = [] ∧ e.ρ 0 = .slice a l.length c ∧ ∃ i : Nat, i ≤ l.length ∧ e.ρ 4 = .int .i64 i ∧ e.ρ 3 = .int .i64 (wtS (l.take i)) ∧ wtS (l.take i) ≤ 2000000000000000 ∧ St w0 A w')
    (fun e _ => match e.ρ 4 with | .int _ k => (l.length - k).toNat | _ => 0) ?_ ?_
  · exact ⟨by simp -dsimp -implicitDefEqProofs only [go_sem], by simp -dsimp -implicitDefEqProofs only [go_sem], 0, by omega, by simp -dsimp -implicitDefEqProofs only [go_sem], by simp -dsimp -implicitDefEqProofs only [go_sem]; simp [wtS], by simp [wtS], h⟩
  clear h
  rintro e w ⟨hd, e0, i, hi, e4, e3, hb, h⟩
  by_cases hlt : (i : Int) < l.length
  case neg =>
    simp -dsimp -implicitDefEqProofs (disch := omega) only [go_sem, hd, e0, e4, e3, hlt]
    refine ⟨h, _, rfl, hb, fun hx => ?_⟩
    have : i = l.length := by omega
    rw [this, List.take_length]
  by_cases hroom : ((wtS (l.take i) : Nat) : Int) ≤ 8388608
  case neg =>
    simp -dsimp -implicitDefEqProofs (disch := omega) only [go_sem, hd, e0, e4, e3, hlt, hroom]
    exact ⟨h, _, rfl, hb, fun _ => by omega⟩
  have hil : i < l.length := by omega
  have at_ : ∀ {w : World}, St w0 A w → ∃ g o, a = some ⟨g, o, none⟩ ∧ ∀ j, j < 26 → w.cell? ⟨g, o + i * 26 + j, none⟩ = (stL l[i])[j]? := fun h => by
    obtain ⟨_, a', c', hv, _, hat⟩ := St.rowsAt stL_len (by decide) (h.ent hP.rd)
    simp only [Value.slice.injEq, true_and] at hv
    obtain ⟨rfl, rfl⟩ := hv
    obtain ⟨g, o, rfl, _, hcell⟩ := hat i hil
    exact ⟨g, o, rfl, hcell⟩
  obtain ⟨g, o, rfl, hcell⟩ := at_ h
  obtain ⟨_, _, hge, hcell2⟩ := at_ h.drew
  simp only [Option.some.injEq, Addr.mk.injEq, and_true] at hge
  obtain ⟨rfl, rfl⟩ := hge
  have hx := hP.each _ (List.getElem_mem hil)
  have hw := hx.op.wt
  have hnm := hx.name
  have ht := wtS_take hil
  have row : ∀ {w : World}, (∀ j, j < 26 → w.cell? ⟨g, o + i * 26 + j, none⟩ = (stL l[i])[j]?) → rowV w ⟨g, o + i * 26 + 1, none⟩ 20 = some (.agg (opVL l[i].x).toArray) := fun hc => rowV_part (lo := 1) (k := 26) (n := 20) (cs := stL l[i]) rfl (o := o + i * 26) hc (by decide)
  have hrow := row hcell
  have hrow2 := row hcell2
  have c23 : w.cell? ⟨g, o + i * 26 + 23, none⟩ = some (.string (strOf l[i].name)) := hcell 23 (by decide)
  have d23 : w.drew.cell? ⟨g, o + i * 26 + 23, none⟩ = some (.string (strOf l[i].name)) := hcell2 23 (by decide)
  simp -dsimp -implicitDefEqProofs (disch := omega) only [go_sem, hd, e0, e4, e3, hlt, hroom, hrow, hrow2, c23, d23]
  refine (ofOp_any hx.op h.drew).mono ?_
  rintro e' w1 ⟨h1, rfl⟩
  obtain ⟨_, _, hge, hcell3⟩ := at_ h1
  simp only [Option.some.injEq, Addr.mk.injEq, and_true] at hge
  obtain ⟨rfl, rfl⟩ := hge
  have hrow3 := row hcell3
  have c3 : w1.cell? ⟨g, o + i * 26 + 23, none⟩ = some (.string (strOf l[i].name)) := hcell3 23 (by decide)
  simp -dsimp -implicitDefEqProofs (disch := omega) only [go_sem, hd, e0, e4, e3, hrow3, c3]
  exact ⟨⟨i + 1, by omega, by omega, by omega, by omega, h1⟩, by omega⟩
end
end
structure CfgA (c : CfgD) : Prop where
  perm : c.perm < 4294967296
  n0 : -9223372036854775808 ≤ c.nodes
  n1 : c.nodes ≤ 9223372036854775807
  users : c.users.length ≤ 140737488355328
  owner : c.owner.length ≤ 140737488355328
  group : c.group.length ≤ 140737488355328
def newS (c : CfgD) : SD := ⟨c.nodes.toNat, 2, [rootD c]⟩
theorem newWf {c : CfgD} (hc : CfgIn c) (hok : newOk c = true) : Wf (newS c) := by
  obtain ⟨g1, g2, g3⟩ : userF c.owner = true ∧ userF c.group = true ∧ (¬ (c.nodes < 1 ∨ 4096 < c.nodes ∨ 511 < c.perm) ∧ c.owner ≠ [] ∧ c.group ≠ []) := by
    unfold newOk at hok
    simp only [Bool.and_eq_true, decide_eq_true_eq] at hok
    exact ⟨hok.1.1, hok.1.2, hok.2⟩
  exact root_wf hc (by intro hh; exact g3.1 (by omega)) g1 g2
section
variable {w0 w : World} {A : HP} {b : Nat} {s : SD} {c d : CfgD}
theorem lawNew_any [Gives A Tabs] (hc : CfgIn c) (h : St w0 A w) :
    Calls Tryz.prog 18 #[.agg (cfgL c).toArray] w fun e w' =>
      if newOk c then ∃ b, St w0 (StoreP b 0 0 (newS c) * A) w' ∧ e = .returned (.tuple #[.pointer (some ⟨b, 0, none⟩), .int .i64 0])
      else St w0 A w' ∧ e = .returned (.tuple #[.pointer none, .int .i64 1]) := by
  refine (new_any hc h).mono ?_
  intro e w1 hq
  rw [newF_eq hc] at hq
  cases hok : newOk c with
  | false => rw [hok] at hq; exact hq
  | true => rw [hok] at hq; exact hq
section
attribute [local go_sem] F4.t15_eq F4.t16_eq F4.t20_eq F4.t12_eq F4.t10_eq F4.t4_eq
theorem nodesDoes_t12 [Gives A Tabs] {a : Option Addr} {cp b0 b1 r0 r1 : Nat} {l : List StepV} {s t : SD} {F : HP} {e : FA} (hP : StepsP A (.slice a l.length cp) l) (hw : wtS l ≤ 8388608) (hs : Wf s) (ht : Wf t) (hsn0 : s.next = 2) (htn0 : t.next = 2)
    (hd : e.ds = []) (e2 : e.ρ 2 = .slice a l.length cp) (e7 : e.ρ 7 = .bool true) (e8 : e.ρ 8 = ptV b0) (e10 : e.ρ 10 = ptV b1) (e12 : e.ρ 12 = ptV r0) (e14 : e.ρ 14 = ptV r1)
    (h : St w0 (StoreP b0 0 0 s * (RefP r0 s * (StoreP b1 0 0 t * (RefP r1 t * (A * F))))) w) :
    cwE Tryz.prog F4.t12 (fnP Tryz.prog #[.tmp 6] fun e w' => St w0 A w' ∧ e = .returned (.bool true)) e w := by
  rw [F4.t12_eq]
  simp -dsimp -implicitDefEqProofs (disch := omega) only [go_sem, hd, e2, e7, e8, e10, e12, e14]
  refine onV_of (v := .agg #[ptV b0, ptV b1]) (by kernel_rfl) ?_
  simp -dsimp -implicitDefEqProofs (disch := omega) only [go_sem, hd, e2, e7, e8, e10, e12, e14]
  refine onV_of (v := .agg #[ptV r0, ptV r1]) (by kernel_rfl) ?_
  simp -dsimp -implicitDefEqProofs (disch := omega) only [go_sem, hd, e2, e7, e8, e10, e12, e14]
  refine onV_of (v := .agg #[ptV b0, ptV b1, ptV r0, ptV r1, .slice none 0 0]) (by kernel_rfl) ?_
  simp -dsimp -implicitDefEqProofs (disch := omega) only [go_sem, hd, e2, e7, e8, e10, e12, e14]
  refine h.new fun W w1 h1 => ?_
  simp -dsimp -implicitDefEqProofs (disch := omega) only [go_sem, hd, e2, e7, e8, e10, e12, e14]
  have ok0 : BkOk [] [] := ⟨⟨fun x hx => by simp at hx, fun x hx => by simp at hx⟩, fun i hi => by simp at hi, by decide, rfl⟩
  have h1 : St w0 (wB W b0 b1 r0 r1 (.slice none 0 0) * (StoreP b0 0 0 s * (RefP r0 s * (StoreP b1 0 0 t * (RefP r1 t * (A * F)))))) w1 := h1
  have h2 : St w0 (wB W b0 b1 r0 r1 (.slice none 0 0) * (heldR (.slice none 0 0) [] * (grps [] * (StoreP b0 0 0 s * (RefP r0 s * (StoreP b1 0 0 t * (RefP r1 t * (A * F)))))))) w1 := ((h1.ent (Ent.embL _)).nilR 43 1).ac (by show RowO 43 1 (.slice none 0 0) 0 [] * (EmpH * _) = _ * (RowO 43 1 (.slice none 0 0) 0 [] * (EmpH * _)); ac_rfl)
  have h3 : St w0 (SW W b0 b1 r0 r1 b0 r0 b1 r1 s t (A * F)) w1 := St.heldS ok0 h2
  have hfew := hP.few
  have hll := wtS_len l
  have hnn : ∀ i, i ≤ l.length → s.next + t.next + i ≤ 4611686018427387904 := fun i hi => by omega
  refine loop_intro (fun e w' => e.ds = [] ∧ e.ρ 2 = .slice a l.length cp ∧ e.ρ 7 = .bool true ∧ e.ρ 16 = .pointer (some ⟨W, 0, none⟩) ∧ ∃ (i b0 b1 r0 r1 : Nat) (s' t' : SD), i ≤ l.length ∧ e.ρ 17 = .int .i64 i ∧ Wf s' ∧ Wf t' ∧ s'.next ≤ s.next + t.next + i ∧ t'.next ≤ s.next + t.next + i ∧ St w0 (SW W b0 b1 r0 r1 b0 r0 b1 r1 s' t' (A * F)) w')
    (fun e _ => match e.ρ 17 with | .int _ x => (l.length - x).toNat | _ => 0) ?_ ?_
  · exact ⟨by simp -dsimp -implicitDefEqProofs only [go_sem, hd], by simp -dsimp -implicitDefEqProofs only [go_sem, e2], by simp -dsimp -implicitDefEqProofs only [go_sem, e7], by simp -dsimp -implicitDefEqProofs only [go_sem], 0, b0, b1, r0, r1, s, t, by omega, by simp -dsimp -implicitDefEqProofs only [go_sem], hs, ht, by omega, by omega, h3⟩
  clear h h1 h2 h3 hd e2 e7 e8 e10 e12 e14
  rintro e w ⟨hd, e2, e7, e16, i, b0, b1, r0, r1, s', t', hi, e17, hs', ht', hsn, htn, h⟩
  by_cases hlt : (i : Int) < l.length
  case neg =>
    simp -dsimp -implicitDefEqProofs (disch := omega) only [go_sem, hd, e2, e7, e16, e17, hlt]
    refine (wall_any (i := 0) (by decide) rfl rfl hs' h).mono ?_
    rintro e' w2 ⟨h2, rfl⟩
    simp -dsimp -implicitDefEqProofs (disch := omega) only [go_sem, hd, e2, e7, e16, e17]
    have h3 : St w0 (HeldP W b0 b1 r0 r1 * (StoreP b1 0 0 t' * (RefP r1 t' * (StoreP b0 0 0 s' * (RefP r0 s' * (A * F)))))) w2 := h2.ac (by show HeldP W b0 b1 r0 r1 * (StoreP b0 0 0 s' * (RefP r0 s' * _)) = _; ac_rfl)
    refine (wall_any (i := 1) (by decide) rfl rfl ht' h3).mono ?_
    rintro e' w3 ⟨h4, rfl⟩
    simp -dsimp -implicitDefEqProofs (disch := omega) only [go_sem, hd, e2, e7, e16, e17]
    exact h4.right.right.right.right.right.left
  have hil : i < l.length := by omega
  obtain ⟨_, a', c', hv, _, hat⟩ := St.rowsAt stL_len (by decide) ((h.right.right.right.right.right.left).ent hP.rd)
  simp only [Value.slice.injEq, true_and] at hv
  obtain ⟨rfl, rfl⟩ := hv
  obtain ⟨g, o, rfl, hrow, _⟩ := hat i hil
  have hy := hP.each _ (List.getElem_mem hil)
  have hwy := wtS_mem (List.getElem_mem hil)
  simp -dsimp -implicitDefEqProofs (disch := omega) only [go_sem, hd, e2, e7, e16, e17, hlt, hrow]
  refine (step_any (y := l[i]) (n := s.next + t.next + i) (hy.up (Ent.left _ _)) (by omega) hs' ht' hsn htn (hnn i hi) h).mono ?_
  rintro e' w2 ⟨b0', b1', r0', r1', s2, t2, hs2, ht2, hn1, hn2, h2, rfl⟩
  have h2 : St w0 (SW W b0' b1' r0' r1' b0' r0' b1' r1' s2 t2 (A * F)) w2 := h2
  simp -dsimp -implicitDefEqProofs (disch := omega) only [go_sem, hd, e2, e7, e16, e17]
  refine (looks_any h2).mono ?_
  rintro e' w3 ⟨h3, rfl⟩
  simp -dsimp -implicitDefEqProofs (disch := omega) only [go_sem, hd, e2, e7, e16, e17]
  exact ⟨⟨i + 1, b0', b1', r0', r1', s2, t2, by omega, by omega, hs2, ht2, by omega, by omega, h3⟩, by omega⟩
end
section
attribute [local go_sem] F4.t15_eq F4.t16_eq F4.t20_eq F4.t10_eq F4.t4_eq
theorem nodesDoes_any [Gives A Tabs] {a : Option Addr} {cp : Nat} {l : List StepV} (hc0 : CfgA c) (hd0 : CfgA d) (hP : StepsP A (.slice a l.length cp) l) (h : St w0 A w) :
    Calls Tryz.prog 4 #[.agg (cfgL c).toArray, .agg (cfgL d).toArray, .slice a l.length cp] w fun e w' => St w0 A w' ∧ e = .returned (.bool true) := by
  refine F4.calls (by simp) ?_
  unfold F4.code
  simp -dsimp -implicitDefEqProofs (disch := omega) only [go_sem]
  refine h.new fun B w1 h1 => ?_
  simp -dsimp -implicitDefEqProofs (disch := omega) only [go_sem]
  refine h1.new fun C w2 h2 => ?_
  simp -dsimp -implicitDefEqProofs (disch := omega) only [go_sem]
  refine (works_any h2).mono ?_
  rintro e w3 ⟨h3, rfl⟩
  simp -dsimp -implicitDefEqProofs (disch := omega) only [go_sem, h3.cl B, h3.cl C, h3.drew.cl B, h3.drew.cl C]
  have u1 := hc0.users
  have u2 := hc0.owner
  have u3 := hc0.group
  have u4 := hd0.users
  have u5 := hd0.owner
  have u6 := hd0.group
  refine (ofConfig_any (c := c) h3.drew hc0.users hc0.owner hc0.group).mono ?_
  rintro e w4 ⟨h4, rfl⟩
  simp -dsimp -implicitDefEqProofs (disch := omega) only [go_sem, h4.cl B, h4.cl C]
  refine (ofConfig_any (c := d) h4 hd0.users hd0.owner hd0.group).mono ?_
  rintro e w5 ⟨h5, rfl⟩
  have kA : ∀ {X Y : HP}, Ent (X * (Y * A)) A := (Ent.right _ _).trans (Ent.right _ _)
  simp -dsimp -implicitDefEqProofs (disch := omega) only [go_sem, h5.cl B, h5.cl C]
  refine (ofSteps_any (hP.up kA) h5).mono ?_
  rintro e w6 ⟨h6, k, rfl, hk1, hk2⟩
  by_cases hbig : (8388608 : Int) < ((100 + c.users.length + c.owner.length + c.group.length : Nat) : Int) + ((100 + d.users.length + d.owner.length + d.group.length : Nat) : Int) + (k : Int)
  · simp -dsimp -implicitDefEqProofs (disch := omega) only [go_sem, h6.cl B, h6.cl C, hbig]
    exact h6.right.right
  have hcin : CfgIn c := ⟨hc0.perm, hc0.n0, hc0.n1, by omega, by omega⟩
  have hdin : CfgIn d := ⟨hd0.perm, hd0.n0, hd0.n1, by omega, by omega⟩
  have hk := hk2 (by omega)
  have hw : wtS l ≤ 8388608 := by omega
  simp -dsimp -implicitDefEqProofs (disch := omega) only [go_sem, h6.cl B, h6.cl C, hbig]
  refine (lawNew_any hcin h6).mono ?_
  intro e w7 hq
  cases hok1 : newOk c with
  | false =>
    rw [hok1] at hq
    obtain ⟨h7, rfl⟩ := hq
    simp -dsimp -implicitDefEqProofs (disch := omega) only [go_sem, h7.cl B, h7.cl C]
    refine (lawNew_any hdin h7).mono ?_
    intro e w8 hq
    cases hok2 : newOk d with
    | false =>
      rw [hok2] at hq
      obtain ⟨h8, rfl⟩ := hq
      simp -dsimp -implicitDefEqProofs (disch := omega) only [go_sem, h8.cl B, h8.cl C]
      refine (refNew_full hcin h8).mono ?_
      intro e w9 hq
      rw [hok1] at hq
      obtain ⟨h9, rfl⟩ := hq
      simp -dsimp -implicitDefEqProofs (disch := omega) only [go_sem, h9.cl B, h9.cl C]
      refine (refNew_full hdin h9).mono ?_
      intro e w10 hq
      rw [hok2] at hq
      obtain ⟨h10, rfl⟩ := hq
      simp -dsimp -implicitDefEqProofs (disch := omega) only [go_sem, beq_self_eq_true]
      exact h10.right.right
    | true =>
      rw [hok2] at hq
      obtain ⟨b, h8, rfl⟩ := hq
      have h8 := h8
      simp -dsimp -implicitDefEqProofs (disch := omega) only [go_sem, h8.right.cl B, h8.right.cl C]
      refine (refNew_full hcin h8).mono ?_
      intro e w9 hq
      rw [hok1] at hq
      obtain ⟨h9, rfl⟩ := hq
      simp -dsimp -implicitDefEqProofs (disch := omega) only [go_sem, h9.right.cl B, h9.right.cl C]
      refine (refNew_full hdin h9).mono ?_
      intro e w10 hq
      rw [hok2] at hq
      obtain ⟨rb, h10, rfl⟩ := hq
      simp -dsimp -implicitDefEqProofs (disch := omega) only [go_sem, beq_self_eq_true]
      exact h10.right.right.right.right
  | true =>
    rw [hok1] at hq
    obtain ⟨b0, h7, rfl⟩ := hq
    have h7 := h7
    simp -dsimp -implicitDefEqProofs (disch := omega) only [go_sem, h7.right.cl B, h7.right.cl C]
    refine (lawNew_any hdin h7).mono ?_
    intro e w8 hq
    cases hok2 : newOk d with
    | false =>
      rw [hok2] at hq
      obtain ⟨h8, rfl⟩ := hq
      simp -dsimp -implicitDefEqProofs (disch := omega) only [go_sem, h8.right.cl B, h8.right.cl C]
      refine (refNew_full hcin h8).mono ?_
      intro e w9 hq
      rw [hok1] at hq
      obtain ⟨rb, h9, rfl⟩ := hq
      have h9 := h9
      simp -dsimp -implicitDefEqProofs (disch := omega) only [go_sem, h9.right.right.cl B, h9.right.right.cl C]
      refine (refNew_full hdin h9).mono ?_
      intro e w10 hq
      rw [hok2] at hq
      obtain ⟨h10, rfl⟩ := hq
      simp -dsimp -implicitDefEqProofs (disch := omega) only [go_sem, beq_self_eq_true]
      exact h10.right.right.right.right
    | true =>
      rw [hok2] at hq
      obtain ⟨b1, h8, rfl⟩ := hq
      have h8 := h8
      simp -dsimp -implicitDefEqProofs (disch := omega) only [go_sem, h8.right.right.cl B, h8.right.right.cl C]
      refine (refNew_full hcin h8).mono ?_
      intro e w9 hq
      rw [hok1] at hq
      obtain ⟨r0, h9, rfl⟩ := hq
      have h9 := h9
      simp -dsimp -implicitDefEqProofs (disch := omega) only [go_sem, h9.right.right.right.cl B, h9.right.right.right.cl C]
      refine (refNew_full hdin h9).mono ?_
      intro e w10 hq
      rw [hok2] at hq
      obtain ⟨r1, h10, rfl⟩ := hq
      simp -dsimp -implicitDefEqProofs (disch := omega) only [go_sem, beq_self_eq_true]
      exact nodesDoes_t12 hP hw (newWf hcin hok1) (newWf hdin hok2) rfl rfl (by simp -dsimp -implicitDefEqProofs only [go_sem]) (by simp -dsimp -implicitDefEqProofs only [go_sem]) (by simp -dsimp -implicitDefEqProofs only [go_sem]) (by simp -dsimp -implicitDefEqProofs only [go_sem]) (by simp -dsimp -implicitDefEqProofs only [go_sem]) (by simp -dsimp -implicitDefEqProofs only [go_sem]) (by simp -dsimp -implicitDefEqProofs only [go_sem]) (h10.ac (show _ = StoreP b0 0 0 (newS c) * (RefP r0 (newS c) * (StoreP b1 0 0 (newS d) * (RefP r1 (newS d) * (A * (Blk C (.cells (cfgL d).toArray 36 (0, 0)) * Blk B (.cells (cfgL c).toArray 36 (0, 0))))))) by ac_rfl))
end
end
abbrev rOq := rCons 1 (rInt .u8) (rCons 1 (rInt .u64) (rCons 1 rStr (rCons 1 (rInt .u8) (rCons 13 rInf (rCons 1 (rInt .u64) (rCons 1 rBytes (rCons 1 (rInt .i64) (rEnd))))))))
theorem rOq_cells {x} {cs : List Value} {h : Heap} (r : rOq.rel x cs h) : ∃ y : OpV, cs = opVL y ∧ OpIs y h := by
  obtain ⟨x1, x2, x3, x4, ⟨y1, y2, y3, y4, y5, y6, y7, y8, y9, y10, y11, y12, y13, _⟩, x6, bs, x8, _⟩ := x
  obtain ⟨_, _, rfl, _, ⟨rfl, w1⟩, _, _, rfl, _, ⟨rfl, w2⟩, _, _, rfl, _, ⟨rfl, w3⟩, _, _, rfl, _, ⟨rfl, w4⟩, ci, _, rfl, _, ri, _, _, rfl, _, ⟨rfl, w6⟩, cd, _, rfl, hl7, ⟨v, rfl, hb, hbl⟩, _, _, rfl, _, ⟨rfl, w8⟩, rfl⟩ := r
  obtain ⟨_, _, rfl, _, ⟨rfl, i1⟩, _, _, rfl, _, ⟨rfl, i2⟩, _, _, rfl, _, ⟨rfl, i3⟩, _, _, rfl, _, ⟨rfl, i4⟩, _, _, rfl, _, ⟨rfl, i5⟩, _, _, rfl, _, ⟨rfl, i6⟩, _, _, rfl, _, ⟨rfl, i7⟩, _, _, rfl, _, ⟨rfl, i8⟩, _, _, rfl, _, ⟨rfl, i9⟩, _, _, rfl, _, ⟨rfl, i10⟩, _, _, rfl, _, ⟨rfl, i11⟩, _, _, rfl, _, ⟨rfl, i12⟩, _, _, rfl, _, ⟨rfl, i13⟩, rfl⟩ := ri
  obtain ⟨a1, a2⟩ := wf_u8 w1
  obtain ⟨b1, b2⟩ := wf_u64 w2
  obtain ⟨c1, c2⟩ := wf_u8 w4
  obtain ⟨d1, d2⟩ := wf_u64 w6
  obtain ⟨e1, e2⟩ := wf_i64 w8
  obtain ⟨f1, f2⟩ := wf_u64 i1
  obtain ⟨g1, g2⟩ := wf_u64 i2
  obtain ⟨h1, h2⟩ := wf_u32 i4
  obtain ⟨k1, k2⟩ := wf_u32 i8
  obtain ⟨l1, l2⟩ := wf_u32 i9
  obtain ⟨m1, m2⟩ := wf_u32 i10
  obtain ⟨n1, n2⟩ := wf_u64 i11
  have hq : reachBytes = 140737488351232 := rfl
  have hbl : bs.length ≤ reachBytes := hbl
  refine ⟨⟨⟨x1.toNat, x2.toNat, x3.data.toList, x4.toNat, ⟨y1.toNat, y2.toNat, y3.data.toList, y4.toNat, y5.data.toList, y6.data.toList, y7.data.toList, y8.toNat, y9.toNat, y10.toNat, y11.toNat, y12, y13⟩, x6.toNat, bs, x8⟩, v⟩, ?_, ⟨a2, c2, d2, h2, k2, l2, e1, e2, hb, (by show bs.length ≤ 140737488355328; omega), str_reach w3, str_reach i3, str_reach i5, str_reach i6, str_reach i7⟩⟩
  simp only [opVL, opL, strOf_eta, a1, b1, c1, d1, f1, g1, h1, k1, l1, m1, n1, List.cons_append, List.nil_append]
abbrev rCfg := rCons 1 rStr (rCons 1 rStr (rCons 1 rStr (rCons 1 (rInt .u32) (rCons 1 (rInt .u64) (rCons 1 (rInt .u32) (rCons 1 (rInt .i64) (rCons 1 (rInt .i64) (rCons 1 (rInt .i64) (rCons 1 (rInt .i64) (rEnd))))))))))
theorem rCfg_cells {x} {cs : List Value} {h : Heap} (r : rCfg.rel x cs h) : ∃ y : CfgD, cs = cfgL y ∧ y.perm < 4294967296 ∧ (-9223372036854775808 ≤ y.nodes ∧ y.nodes ≤ 9223372036854775807) ∧ y.users.length ≤ 140737488355328 ∧ y.owner.length ≤ 140737488355328 ∧ y.group.length ≤ 140737488355328 := by
  obtain ⟨x1, x2, x3, x4, x5, x6, x7, x8, x9, x10, _⟩ := x
  obtain ⟨_, _, rfl, _, ⟨rfl, w1⟩, _, _, rfl, _, ⟨rfl, w2⟩, _, _, rfl, _, ⟨rfl, w3⟩, _, _, rfl, _, ⟨rfl, w4⟩, _, _, rfl, _, ⟨rfl, w5⟩, _, _, rfl, _, ⟨rfl, w6⟩, _, _, rfl, _, ⟨rfl, w7⟩, _, _, rfl, _, ⟨rfl, w8⟩, _, _, rfl, _, ⟨rfl, w9⟩, _, _, rfl, _, ⟨rfl, w10⟩, rfl⟩ := r
  obtain ⟨a1, a2⟩ := wf_u32 w4
  refine ⟨⟨x1.data.toList, x2.data.toList, x3.data.toList, x4.toNat, x5, x6, x7, x8, x9, x10⟩, ?_, a2, wf_i64 w9, str_reach w1, str_reach w2, str_reach w3⟩
  simp only [cfgL, strOf_eta, a1, List.cons_append, List.nil_append]
theorem cfg_arq {x} {cs : List Value} {h : Heap} (r : rCfg.rel x cs h) : ∃ y : CfgD, cs = cfgL y ∧ CfgA y := by
  obtain ⟨y, e1, hp, hn, l1, l2, l3⟩ := rCfg_cells r
  exact ⟨y, e1, ⟨hp, hn.1, hn.2, l1, l2, l3⟩⟩
abbrev rSt := rCons 1 (rInt .i64) (rCons 20 rOq (rCons 1 (rInt .u64) (rCons 1 (rInt .u64) (rCons 1 rStr (rCons 1 (rInt .i64) (rCons 1 rBool (rEnd)))))))
structure StIs (y : StepV) (h : Heap) : Prop where
  k0 : -9223372036854775808 ≤ y.kind
  k1 : y.kind ≤ 9223372036854775807
  op : OpIs y.x h
  path : y.path < 18446744073709551616
  last : y.last < 18446744073709551616
  name : y.name.length ≤ 140737488355328
  n0 : -9223372036854775808 ≤ y.n
  n1 : y.n ≤ 9223372036854775807
theorem StIs.a {W : World} {y : StepV} (h : StIs y (heapOf W)) : StepA (Old W) y := ⟨h.k0, h.k1, h.op.a, h.path, h.last, h.name, h.n0, h.n1⟩
theorem rSt_cells {x} {cs : List Value} {h : Heap} (r : rSt.rel x cs h) : ∃ y : StepV, cs = stL y ∧ StIs y h := by
  obtain ⟨x1, x2, x3, x4, x5, x6, x7, _⟩ := x
  obtain ⟨_, _, rfl, _, ⟨rfl, w1⟩, co, _, rfl, _, ro, _, _, rfl, _, ⟨rfl, w3⟩, _, _, rfl, _, ⟨rfl, w4⟩, _, _, rfl, _, ⟨rfl, w5⟩, _, _, rfl, _, ⟨rfl, w6⟩, _, _, rfl, _, rfl, rfl⟩ := r
  obtain ⟨y, rfl, hy⟩ := rOq_cells ro
  obtain ⟨a1, a2⟩ := wf_i64 w1
  obtain ⟨c1, c2⟩ := wf_u64 w3
  obtain ⟨d1, d2⟩ := wf_u64 w4
  obtain ⟨e1, e2⟩ := wf_i64 w6
  have hn := str_reach w5
  refine ⟨⟨x1, y, x3.toNat, x4.toNat, x5.data.toList, x6, x7⟩, ?_, ⟨a1, a2, hy, c2, d2, by omega, e1, e2⟩⟩
  simp only [stL, strOf_eta, c1, d1, List.cons_append, List.nil_append, List.append_assoc]
theorem steps_arq {W : World} {xs} {v : Value} (c : (rSlice 26 264 rSt).rel xs [v] (heapOf W)) : ∃ l : List StepV, (∃ a c, v = .slice a l.length c) ∧ StepsP (Old W) v l := by
  obtain ⟨l, hl, h1, h2⟩ := rSlice_choose (β := StepV) (enc := stL) (p := StIs) (fun x cs h r => rSt_cells r) stL_len c
  have hb := rSlice_len c
  have hq : reachBytes = 140737488351232 := rfl
  have hr : Ent (Old W) (Reads 26 v l.length (l.flatMap stL)) := Ent.of fun _ ho => Reads.mono (fun b o e => ho b o e) h2
  obtain ⟨_, a, c', e, _⟩ := St.rowsAt stL_len (by decide) ((St.start W).ent hr)
  exact ⟨l, ⟨a, c', e⟩, hr, fun y hy => (h1 y hy).a, by omega⟩
end Go.Proofs.YtijnmokpihhhcaaGreatDoor

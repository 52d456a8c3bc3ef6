/- part 12 -/
import Derived.Test.YtljndiligbaljaaZ1
import Derived.Test.YtljndiligbaljaaZ2
import Derived.Test.YtljndiligbaljaaZ3
import Derived.Test.YtljndiligbaljaaZ4
import Derived.Test.YtljndiligbaljaaZ5
import Derived.Test.YtljndiligbaljaaZ6
import Derived.Test.YtljndiligbaljaaZ7
import Derived.Test.YtljndiligbaljaaZ8
import Derived.Test.YtljndiligbaljaaZ9
import Derived.Test.YtljndiligbaljaaZ10
import Derived.Test.YtljndiligbaljaaZ11
import Derived.Laws.IdiomCopy
namespace Go.Proofs.Ytljndiligbaljaa
open Go
set_option linter.unusedSimpArgs false
set_option linter.unusedVariables false
set_option maxRecDepth 100000
def rwalkS (x n nd most : Int) (L : TL) : TL := if walkE x n most L = 0 then (if n = x then setS x L (walkF ((agt x L).getD zFid) nd) else raddS n most L (walkF ((agt x L).getD zFid) nd)) else L
theorem mayB_walk (f : FidD) (nd : Int) : mayB (walkF f nd) = true := rfl
section
attribute [local go_sem] F65.t11_eq F65.t8_eq F65.t4_eq
theorem rwalk_any {w0 w : World} {F : HP} {B : Nat} {most x n nd : Int} {L : TL} (h : St w0 (RefT B most L * F) w) (hl0 : L.length < 1048576) :
    Calls Try.prog 65 #[.pointer (some ⟨B, 0, none⟩), .int .u32 x, .int .u32 n, .int .u64 nd] w fun e w' => St w0 (RefT B most (rwalkS x n nd most L) * F) w' ∧ e = .returned (.int .i64 (walkE x n most L)) := by
  refine F65.calls (by simp) ?_
  unfold F65.code
  simp -dsimp -implicitDefEqProofs (disch := omega) only [go_sem]
  refine (rroom_any (x := x) (n := n) h).mono ?_
  rintro e w1 ⟨h1, rfl⟩
  by_cases k0 : roomE x n most L = 0
  case neg =>
    have hr1 : walkE x n most L = roomE x n most L := by unfold walkE; rw [if_neg k0]
    have hs1 : rwalkS x n nd most L = L := by unfold rwalkS; rw [hr1, if_neg k0]
    simp -dsimp -implicitDefEqProofs (disch := omega) only [go_sem, k0]
    exact ⟨by rw [hs1]; exact h1, by rw [hr1]⟩
  have hx : ∃ f, agt x L = some f := roomE_some k0
  obtain ⟨f, hf⟩ := hx
  have hr0 : walkE x n most L = shutE f := by unfold walkE; rw [if_pos k0, hf]; rfl
  simp -dsimp -implicitDefEqProofs (disch := omega) only [go_sem, k0]
  obtain ⟨v, qs, rfl, hl, h2⟩ := RefT.open h1
  refine (rat_any (n := x) hl h2).mono ?_
  rintro e w2 ⟨h3, z, hz, rfl⟩
  rcases hz with ⟨hx, rfl⟩ | ⟨i, hi, hin, hx, hb, rfl⟩
  · rw [hf] at hx; cases hx
  rw [hf] at hx
  have hii : (i : Int) < qs.length := by omega
  simp -dsimp -implicitDefEqProofs (disch := omega) only [go_sem]
  refine (rshut_any hl hi h3).mono ?_
  rintro e w3 ⟨h4, rfl⟩
  have hfe : qs[i].2.2 = f := (Option.some.inj hx).symm
  rw [hfe]
  by_cases k1 : shutE f = 0
  case neg =>
    have hs1 : rwalkS x n nd most (amap (·.2) qs) = amap (·.2) qs := by unfold rwalkS; rw [hr0, if_neg k1]
    simp -dsimp -implicitDefEqProofs (disch := omega) only [go_sem, k1]
    exact ⟨by rw [hs1]; exact RefT.mk rfl hl h4, by rw [hr0]⟩
  obtain ⟨g, o, c, rfl, hc, _⟩ := h4.refAt hi
  have c3 : w3.cell? ⟨g, o + i * 15 + 3, none⟩ = some (.string f.user) := by rw [← hfe]; exact hc 3 (by decide)
  simp -dsimp -implicitDefEqProofs (disch := omega) only [go_sem, k1, h4.cl B, hii, c3]
  refine onV_of (v := fdV (zF, walkF f nd)) (by kernel_rfl) ?_
  unfold fdV
  simp -dsimp -implicitDefEqProofs (disch := omega) only [go_sem, k1]
  refine h4.new fun D w4 h5 => ?_
  simp -dsimp -implicitDefEqProofs (disch := omega) only [go_sem]
  refine h5.stoAll (b := D) (cs := fdC zF (walkF f nd)) rfl rfl (fdC_cells rfl) fun w5 h6 => ?_
  have hrow := h6.rowH D 14 rfl
  have h7 : St w0 (RefT B most (amap (·.2) qs) * (Blk D (.cells (fdC zF (walkF f nd)).toArray 43 (0, 0)) * F)) w5 := RefT.mk rfl hl (h6.ac (by unfold RefU; ac_rfl))
  have okw : Okf (zF, walkF f nd) := ⟨rfl, by show (0 : Nat) < _; decide⟩
  have hnh : Ent (Blk D (.cells (fdC zF (walkF f nd)).toArray 43 (0, 0)) * F) (HeardR (zF, walkF f nd)) := Ent.nilHeard _ _ rfl
  by_cases k2 : n = x
  · simp -dsimp -implicitDefEqProofs (disch := omega) only [go_sem, k2, hrow]
    refine (rset_any (n := x) (p := (zF, walkF f nd)) h7 okw hnh).mono ?_
    rintro e w6 ⟨h8, rfl⟩
    have hs1 : rwalkS x n nd most (amap (·.2) qs) = setS x (amap (·.2) qs) (walkF f nd) := by unfold rwalkS; rw [hr0, if_pos k1, if_pos k2, hf]; rfl
    have he : setE x (amap (·.2) qs) (walkF f nd) = 0 := by unfold setE; rw [mayB_walk, hf]; rfl
    simp -dsimp -implicitDefEqProofs (disch := omega) only [go_sem]
    exact ⟨by rw [hs1]; exact h8.ent (Ent.sep (Ent.rfl' _) (Ent.right _ _)), by rw [he, hr0, k1]⟩
  · simp -dsimp -implicitDefEqProofs (disch := omega) only [go_sem, k2, hrow]
    refine (radd_any (n := n) (p := (zF, walkF f nd)) h7 hl0 okw hnh).mono ?_
    rintro e w6 ⟨h8, rfl⟩
    have hs1 : rwalkS x n nd most (amap (·.2) qs) = raddS n most (amap (·.2) qs) (walkF f nd) := by unfold rwalkS; rw [hr0, if_pos k1, if_neg k2, hf]; rfl
    have he : addE n most (amap (·.2) qs) (walkF f nd) = 0 := by
      unfold addE; rw [mayB_walk, if_pos rfl]
      unfold roomE at k0
      rw [hf, if_pos (by rfl), if_neg (fun e => k2 e.symm)] at k0
      exact k0
    simp -dsimp -implicitDefEqProofs (disch := omega) only [go_sem]
    exact ⟨by rw [hs1]; exact h8.ent (Ent.sep (Ent.rfl' _) (Ent.right _ _)), by rw [he, hr0, k1]⟩
end
theorem flat_set {α β : Type} {enc : α → List Value} {enc' : β → List Value} {k : Nat} (hk : ∀ x, (enc x).length = k) (hk' : ∀ x, (enc' x).length = k) {l : List α} {l' : List β} (hl : l'.length = l.length) {i j : Nat} (hi : i < l.length) (hj : j < k) {v : Value}
    (hne : ∀ m (hm : m < l.length), m ≠ i → enc' (l'[m]'(by omega)) = enc l[m]) (he : enc' (l'[i]'(by omega)) = (enc l[i]).set j v) : (l.flatMap enc).set (i * k + j) v = l'.flatMap enc' := by
  refine List.ext_getElem? fun t => ?_
  rw [List.getElem?_set]
  by_cases ht : t < l.length * k
  · obtain ⟨m, q, hm, hq, rfl, hf⟩ := flatMap_at_all hk l t ht
    have hf' := flatMap_at hk' l' m q (by omega) hq
    rw [hf', flatMap_length hk]
    by_cases hmi : m = i
    · subst hmi
      rw [he, List.getElem?_set]
      by_cases hqj : q = j
      · subst hqj
        rw [if_pos rfl, if_pos ht, if_pos rfl, if_pos (by rw [hk]; exact hj)]
      · rw [if_neg (by omega), if_neg (fun e => hqj e.symm)]
        exact flatMap_at hk l m q hm hq
    · rw [hne m hm hmi]
      have : ¬ i * k + j = m * k + q := fun e => by
        have h1 : (i * k + j) / k = i := by rw [Nat.mul_comm, Nat.mul_add_div (by omega), Nat.div_eq_of_lt hj]; omega
        have h2 : (m * k + q) / k = m := by rw [Nat.mul_comm, Nat.mul_add_div (by omega), Nat.div_eq_of_lt hq]; omega
        rw [e, h2] at h1
        exact hmi h1
      rw [if_neg this]
      exact flatMap_at hk l m q hm hq
  · have h1 : (l.flatMap enc).length = l.length * k := flatMap_length hk l
    have h2 : (l'.flatMap enc').length = l.length * k := by rw [flatMap_length hk' l', hl]
    have h3 : i * k + j < l.length * k := by
      have : (i + 1) * k ≤ l.length * k := Nat.mul_le_mul_right k hi
      rw [Nat.add_mul] at this; omega
    rw [if_neg (by omega), List.getElem?_eq_none (by omega), List.getElem?_eq_none (by omega)]
theorem hearts_keep {w0 w : World} {F : HP} {g : FidD} : ∀ {qs : FPs} {i : Nat} (hi : i < qs.length), g.heard = qs[i].2.2.heard → St w0 (hearts qs * F) w → St w0 (hearts (qs.set i (qs[i].1, (qs[i].2.1, g))) * F) w
  | [], i, hi, _, _ => by simp at hi
  | x :: qs, 0, hi, hg, h => by
    simp only [List.getElem_cons_zero] at hg
    obtain ⟨hx, h1⟩ := hearts_cons h
    have e : hearts ((x.1, (x.2.1, g)) :: qs) = HP.fact (Okf (x.2.1, g)) (HeardP (x.2.1, g)) * hearts qs := rfl
    have e2 : HeardP (x.2.1, g) = HeardP x.2 := by show RowO _ _ _ g.heard.length (byR g.heard) = RowO _ _ _ x.2.2.heard.length (byR x.2.2.heard); rw [hg]
    have ok : Okf (x.2.1, g) := ⟨hx.1, by show g.heard.length < _; rw [hg]; exact hx.2⟩
    simp only [List.set_cons_zero, List.getElem_cons_zero]
    rw [e, e2]
    exact (h1.ent (Ent.sep (Ent.fact ok _) (Ent.rfl' _))).ac (by ac_rfl)
  | x :: qs, i + 1, hi, hg, h => by
    have hi' : i < qs.length := by simpa using hi
    simp only [List.getElem_cons_succ] at hg
    obtain ⟨hx, h1⟩ := hearts_cons h
    have h3 := hearts_keep (g := g) hi' hg (h1.sw2)
    have e : hearts (x :: qs.set i (qs[i].1, (qs[i].2.1, g))) = HP.fact (Okf x.2) (HeardP x.2) * hearts (qs.set i (qs[i].1, (qs[i].2.1, g))) := rfl
    simp only [List.set_cons_succ, List.getElem_cons_succ]
    rw [e]
    exact ((h3.ac (show _ = HeardP x.2 * (hearts (qs.set i (qs[i].1, (qs[i].2.1, g))) * F) by ac_rfl)).ent (Ent.sep (Ent.fact hx _) (Ent.rfl' _))).ac (by ac_rfl)
theorem RefT.put {w0 w : World} {F : HP} {B : Nat} {most n : Int} {v : Value} {qs : FPs} {i : Nat} {p : HF} (hi : i < qs.length) (hin : qs[i].1 = n) (hb : ∀ k (hk : k < qs.length), k < i → qs[k].1 ≠ n) (hp : Okf p) (hl : qs.length ≤ 1048576)
    (h : St w0 (HeardP p * (Blk B (refTB most v) * (RowO 48 15 v qs.length ((qs.set i (qs[i].1, p)).flatMap atC) * (hearts qs * F)))) w) : St w0 (RefT B most (aset n p.2 (amap (·.2) qs)) * F) w := by
  have e1 : qs.set i (qs[i].1, p) = aset n p qs := by rw [hin]; exact aset_first hi hin hb
  have e2 : amap (·.2) (qs.set i (qs[i].1, p)) = aset n p.2 (amap (·.2) qs) := by rw [e1]; exact (aset_amap (·.2) n p qs).symm
  have hq : (qs.set i (qs[i].1, p)).length = qs.length := by simp
  refine RefT.mk (v := v) e2 (by omega) ?_
  have h8 := hearts_set_at (p := p) hp (n := qs[i].1) hi (h.ac (show _ = HeardP p * (hearts qs * (Blk B (refTB most v) * (RowO 48 15 v qs.length ((qs.set i (qs[i].1, p)).flatMap atC) * F))) by ac_rfl))
  unfold RefU
  rw [hq]
  exact h8.ac (by ac_rfl)
theorem RefT.keep {w0 w : World} {F : HP} {B : Nat} {most n : Int} {v : Value} {qs : FPs} {i : Nat} {g : FidD} (hi : i < qs.length) (hin : qs[i].1 = n) (hb : ∀ k (hk : k < qs.length), k < i → qs[k].1 ≠ n) (hg : g.heard = qs[i].2.2.heard) (hl : qs.length ≤ 1048576)
    (h : St w0 (Blk B (refTB most v) * (RowO 48 15 v qs.length ((qs.set i (qs[i].1, (qs[i].2.1, g))).flatMap atC) * (hearts qs * F))) w) : St w0 (RefT B most (aset n g (amap (·.2) qs)) * F) w := by
  have e1 : qs.set i (qs[i].1, (qs[i].2.1, g)) = aset n (qs[i].2.1, g) qs := by rw [hin]; exact aset_first hi hin hb
  have e2 : amap (·.2) (qs.set i (qs[i].1, (qs[i].2.1, g))) = aset n g (amap (·.2) qs) := by rw [e1]; exact (aset_amap (·.2) n ((qs[i].2.1, g) : HF) qs).symm
  have hq : (qs.set i (qs[i].1, (qs[i].2.1, g))).length = qs.length := by simp
  refine RefT.mk (v := v) e2 (by omega) ?_
  have h8 := hearts_keep (g := g) hi hg (h.ac (show _ = hearts qs * (Blk B (refTB most v) * (RowO 48 15 v qs.length ((qs.set i (qs[i].1, (qs[i].2.1, g))).flatMap atC) * F)) by ac_rfl))
  unfold RefU
  rw [hq]
  exact h8.ac (by ac_rfl)
def ropenS (n nd mode : Int) (rm : Bool) (L : TL) : TL := if openE n L = 0 then aset n (openF ((agt n L).getD zFid) nd mode rm) L else L
section
attribute [local go_sem] F66.t7_eq F66.t4_eq
theorem ropen_any {w0 w : World} {F : HP} {B : Nat} {most n nd md : Int} {rm : Bool} {L : TL} (hmd : 0 ≤ md ∧ md < 256) (h : St w0 (RefT B most L * F) w) :
    Calls Try.prog 66 #[.pointer (some ⟨B, 0, none⟩), .int .u32 n, .int .u64 nd, .int .u8 md, .bool rm] w fun e w' => St w0 (RefT B most (ropenS n nd (md.tmod 4) rm L) * F) w' ∧ e = .returned (.int .i64 (openE n L)) := by
  obtain ⟨v, qs, rfl, hl, h⟩ := RefT.open h
  refine F66.calls (by simp) ?_
  unfold F66.code
  simp -dsimp -implicitDefEqProofs (disch := omega) only [go_sem]
  refine (rat_any (n := n) hl h).mono ?_
  rintro e w2 ⟨h3, z, hz, rfl⟩
  rcases hz with ⟨hx, rfl⟩ | ⟨i, hi, hin, hx, hb, rfl⟩
  · have hr1 : openE n (amap (·.2) qs) = 100 := by unfold openE; rw [hx]; rfl
    have hs1 : ropenS n nd (md.tmod 4) rm (amap (·.2) qs) = amap (·.2) qs := by unfold ropenS; rw [hr1, if_neg (by decide)]
    simp -dsimp -implicitDefEqProofs (disch := omega) only [go_sem]
    exact ⟨by rw [hs1]; exact RefT.mk rfl hl h3, hr1.symm⟩
  have hii : (i : Int) < qs.length := by omega
  have hr0 : openE n (amap (·.2) qs) = shutE qs[i].2.2 := by unfold openE; rw [hx]; rfl
  simp -dsimp -implicitDefEqProofs (disch := omega) only [go_sem]
  refine (rshut_any hl hi h3).mono ?_
  rintro e w3 ⟨h4, rfl⟩
  by_cases k1 : shutE qs[i].2.2 = 0
  case neg =>
    have hs1 : ropenS n nd (md.tmod 4) rm (amap (·.2) qs) = amap (·.2) qs := by unfold ropenS; rw [hr0, if_neg k1]
    simp -dsimp -implicitDefEqProofs (disch := omega) only [go_sem, k1]
    exact ⟨by rw [hs1]; exact RefT.mk rfl hl h4, by rw [hr0]⟩
  have hs1 : ropenS n nd (md.tmod 4) rm (amap (·.2) qs) = aset n (openF qs[i].2.2 nd (md.tmod 4) rm) (amap (·.2) qs) := by unfold ropenS; rw [hr0, if_pos k1, hx]; rfl
  have h5 := h4.drew
  obtain ⟨g, o, c, rfl, hc, _⟩ := h4.refAt hi
  have c3 : w3.cell? ⟨g, o + i * 15 + 3, none⟩ = some (.string qs[i].2.2.user) := hc 3 (by decide)
  have d3 : w3.drew.cell? ⟨g, o + i * 15 + 3, none⟩ = some (.string qs[i].2.2.user) := c3
  have hmod : 0 ≤ md.tmod 4 ∧ md.tmod 4 < 4 := ⟨Int.tmod_nonneg _ hmd.1, Int.tmod_lt_of_pos _ (by decide)⟩
  simp -dsimp -implicitDefEqProofs (disch := omega) only [go_sem, k1, h4.cl B, h5.cl B, hii, c3, d3]
  refine onV_of (v := fdV (zF, openF qs[i].2.2 nd (md.tmod 4) rm)) (by kernel_rfl) ?_
  unfold fdV
  simp -dsimp -implicitDefEqProofs (disch := omega) only [go_sem, k1, h4.cl B, h5.cl B, hii, c3, d3]
  rw [Nat.add_assoc o]
  refine h5.rowSet (g := g) (o := o) (n := qs.length) (c := c) (k := i * 15 + 1) (m := 14) (cs := fdC zF (openF qs[i].2.2 nd (md.tmod 4) rm)) rfl (by rw [flatMap_length atC_length]; omega) (fdC_cells rfl) fun w6 h7 => ?_
  simp -dsimp -implicitDefEqProofs (disch := omega) only [go_sem]
  refine ⟨?_, by rw [hr0, k1]⟩
  rw [row_set hi] at h7
  rw [hs1]
  exact RefT.put (p := (zF, openF qs[i].2.2 nd (md.tmod 4) rm)) hi hin hb ⟨rfl, by show (0 : Nat) < _; decide⟩ hl (h7.nilHeard (f := openF qs[i].2.2 nd (md.tmod 4) rm) rfl)
theorem told_row {qs : FPs} {i : Nat} (hi : i < qs.length) {a b : Int} : ((qs.flatMap atC).set (i * 15 + 6) (.int .u64 a)).set (i * 15 + 7) (.int .u64 b) = (qs.set i (qs[i].1, (qs[i].2.1, toldF qs[i].2.2 a b))).flatMap atC := by
  have e1 : (qs.flatMap atC).set (i * 15 + 6) (.int .u64 a) = (qs.set i (qs[i].1, (qs[i].2.1, { qs[i].2.2 with last := a }))).flatMap atC :=
    flat_set atC_length atC_length (by simp) hi (by decide) (fun m hm hmi => by rw [List.getElem_set_ne (by omega)]) (by rw [List.getElem_set_self]; rfl)
  rw [e1]
  have hi2 : i < (qs.set i (qs[i].1, (qs[i].2.1, { qs[i].2.2 with last := a }))).length := by simpa using hi
  refine flat_set atC_length atC_length (by simp) hi2 (by decide) (fun m hm hmi => ?_) ?_
  · rw [List.getElem_set_ne (by omega), List.getElem_set_ne (by omega)]
  · rw [List.getElem_set_self, List.getElem_set_self]; rfl
end
section
attribute [local go_sem] F67.t6_eq F67.t4_eq
theorem rtold_any {w0 w : World} {F : HP} {B : Nat} {most n la tb : Int} {L : TL} (h : St w0 (RefT B most L * F) w) :
    Calls Try.prog 67 #[.pointer (some ⟨B, 0, none⟩), .int .u32 n, .int .u64 la, .int .u64 tb] w fun e w' => St w0 (RefT B most (toldS n la tb L) * F) w' ∧ e = .returned (.int .i64 (toldE n L)) := by
  obtain ⟨v, qs, rfl, hl, h⟩ := RefT.open h
  refine F67.calls (by simp) ?_
  unfold F67.code
  simp -dsimp -implicitDefEqProofs (disch := omega) only [go_sem]
  refine (rat_any (n := n) hl h).mono ?_
  rintro e w2 ⟨h3, z, hz, rfl⟩
  rcases hz with ⟨hx, rfl⟩ | ⟨i, hi, hin, hx, hb, rfl⟩
  · have hr1 : toldE n (amap (·.2) qs) = 100 := by unfold toldE; rw [hx]; rfl
    have hs1 : toldS n la tb (amap (·.2) qs) = amap (·.2) qs := by unfold toldS; rw [hr1, if_neg (by decide)]
    simp -dsimp -implicitDefEqProofs (disch := omega) only [go_sem]
    exact ⟨by rw [hs1]; exact RefT.mk rfl hl h3, hr1.symm⟩
  have hii : (i : Int) < qs.length := by omega
  obtain ⟨g, o, c, rfl, hc, _⟩ := h3.refAt hi
  have c1 : w2.cell? ⟨g, o + i * 15 + 1, none⟩ = some (.int .u8 qs[i].2.2.st) := hc 1 (by decide)
  by_cases k1 : qs[i].2.2.st = 2
  case neg =>
    have hr1 : toldE n (amap (·.2) qs) = 117 := by unfold toldE; rw [hx]; simp only [Option.isSome_some, if_true, Option.getD_some]; rw [if_neg k1]
    have hs1 : toldS n la tb (amap (·.2) qs) = amap (·.2) qs := by unfold toldS; rw [hr1, if_neg (by decide)]
    simp -dsimp -implicitDefEqProofs (disch := omega) only [go_sem, h3.cl B, hii, c1, k1]
    exact ⟨by rw [hs1]; exact RefT.mk rfl hl h3, hr1.symm⟩
  have hr1 : toldE n (amap (·.2) qs) = 0 := by unfold toldE; rw [hx]; simp only [Option.isSome_some, if_true, Option.getD_some]; rw [if_pos k1]
  have hs1 : toldS n la tb (amap (·.2) qs) = aset n (toldF qs[i].2.2 la tb) (amap (·.2) qs) := by unfold toldS; rw [hr1, if_pos rfl, hx]; rfl
  simp -dsimp -implicitDefEqProofs (disch := omega) only [go_sem, h3.cl B, hii, c1, k1]
  rw [Nat.add_assoc (o + i * 15), Nat.add_assoc o]
  refine h3.rowSet1 (g := g) (o := o) (n := qs.length) (c := c) (k := i * 15 + 6) (v := .int .u64 la) (by rw [flatMap_length atC_length]; omega) rfl fun w4 h4 => ?_
  simp -dsimp -implicitDefEqProofs (disch := omega) only [go_sem, h4.cl B, hii]
  rw [Nat.add_assoc (o + i * 15), Nat.add_assoc o]
  refine h4.rowSet1 (g := g) (o := o) (n := qs.length) (c := c) (k := i * 15 + 7) (v := .int .u64 tb) (by rw [List.length_set, flatMap_length atC_length]; omega) rfl fun w5 h5 => ?_
  rw [told_row hi] at h5
  simp -dsimp -implicitDefEqProofs (disch := omega) only [go_sem]
  refine ⟨?_, hr1.symm⟩
  rw [hs1]
  exact RefT.keep (g := toldF qs[i].2.2 la tb) hi hin hb rfl hl h5
end
theorem opensN_end (nd : Int) (l : TL) (x : Int × FidD) : opensN nd (l ++ [x]) = opensN nd l + if x.2.st = 2 ∧ x.2.nd = nd then 1 else 0 := by
  unfold opensN
  rw [List.countP_append]
  congr 1
  by_cases h1 : x.2.st = 2 <;> by_cases h2 : x.2.nd = nd <;> simp [h1, h2, List.countP_cons]
section
attribute [local go_sem] F68.t4_eq F68.t5_eq F68.t7_eq
theorem ropens_any {w0 w : World} {F : HP} {B : Nat} {most nd : Int} {L : TL} (h : St w0 (RefT B most L * F) w) :
    Calls Try.prog 68 #[.pointer (some ⟨B, 0, none⟩), .int .u64 nd] w fun e w' => St w0 (RefT B most L * F) w' ∧ e = .returned (.int .i64 (opensN nd L)) := by
  obtain ⟨v, qs, rfl, hl, h⟩ := RefT.open h
  refine F68.calls (by simp) ?_
  unfold F68.code
  obtain ⟨a, c, rfl, _⟩ := h.right.rowForm v
  simp -dsimp -implicitDefEqProofs (disch := omega) only [go_sem]
  refine loop_intro (fun e w' => e.ds = [] ∧ e.ρ 0 = .pointer (some ⟨B, 0, none⟩) ∧ e.ρ 1 = .int .u64 nd ∧ ∃ i : Nat, i ≤ qs.length ∧ e.ρ 6 = .int .i64 i ∧ e.ρ 5 = .int .i64 (opensN nd (amap (·.2) (qs.take i))) ∧ St w0 (RefU B most (.slice a qs.length c) qs F) w')
    (fun e _ => match e.ρ 6 with | .int _ k => (qs.length - k).toNat | _ => 0) ?_ ?_
  · exact ⟨by simp -dsimp -implicitDefEqProofs only [go_sem], by simp -dsimp -implicitDefEqProofs only [go_sem], by simp -dsimp -implicitDefEqProofs only [go_sem], 0, by omega, by simp -dsimp -implicitDefEqProofs only [go_sem], by (simp -dsimp -implicitDefEqProofs only [go_sem]); rfl, h⟩
  clear h
  rintro e w ⟨hd, e0, e1, i, hi, e6, e5, h⟩
  by_cases hlt : (i : Int) < qs.length
  case neg =>
    rw [List.take_of_length_le (by omega)] at e5
    simp -dsimp -implicitDefEqProofs (disch := omega) only [go_sem, hd, e0, e1, e6, e5, hlt, h.cl B]
    exact RefT.mk rfl hl h
  have hil : i < qs.length := by omega
  obtain ⟨g, o, c', hv, hc, _⟩ := h.refAt hil
  simp only [Value.slice.injEq, true_and] at hv
  obtain ⟨rfl, rfl⟩ := hv
  have c1 : w.cell? ⟨g, o + i * 15 + 1, none⟩ = some (.int .u8 qs[i].2.2.st) := hc 1 (by decide)
  have c2 : w.cell? ⟨g, o + i * 15 + 2, none⟩ = some (.int .u64 qs[i].2.2.nd) := hc 2 (by decide)
  have hbd : (opensN nd (amap (fun p : HF => p.2) (qs.take i)) : Int) ≤ i := by
    have h1 : opensN nd (amap (fun p : HF => p.2) (qs.take i)) ≤ (amap (fun p : HF => p.2) (qs.take i)).length := List.countP_le_length
    have h2 : (amap (fun p : HF => p.2) (qs.take i)).length = i := by unfold amap; rw [List.length_map, List.length_take]; omega
    omega
  have hsn : opensN nd (amap (fun p : HF => p.2) (qs.take (i + 1))) = opensN nd (amap (fun p : HF => p.2) (qs.take i)) + if qs[i].2.2.st = 2 ∧ qs[i].2.2.nd = nd then 1 else 0 := by
    rw [List.take_succ_eq_append_getElem hil]
    rw [show amap (fun p : HF => p.2) (qs.take i ++ [qs[i]]) = amap (fun p : HF => p.2) (qs.take i) ++ [(qs[i].1, qs[i].2.2)] by unfold amap; rw [List.map_append]; rfl, opensN_end]
  generalize opensN nd (amap (fun p : HF => p.2) (qs.take i)) = N at e5 hbd hsn
  by_cases k1 : qs[i].2.2.st = 2
  case neg =>
    rw [if_neg (fun e => k1 e.1)] at hsn
    simp -dsimp -implicitDefEqProofs (disch := omega) only [go_sem, hd, e0, e1, e6, e5, hlt, h.cl B, c1, k1]
    exact ⟨⟨i + 1, by omega, by omega, by rw [hsn]; simp, h⟩, by omega⟩
  by_cases k2 : qs[i].2.2.nd = nd
  case neg =>
    rw [if_neg (fun e => k2 e.2)] at hsn
    simp -dsimp -implicitDefEqProofs (disch := omega) only [go_sem, hd, e0, e1, e6, e5, hlt, h.cl B, c1, c2, k1, k2]
    exact ⟨⟨i + 1, by omega, by omega, by rw [hsn]; simp, h⟩, by omega⟩
  rw [if_pos ⟨k1, k2⟩] at hsn
  simp -dsimp -implicitDefEqProofs (disch := omega) only [go_sem, hd, e0, e1, e6, e5, hlt, h.cl B, c1, c2, k1, k2]
  exact ⟨⟨i + 1, by omega, by omega, by rw [hsn]; simp, h⟩, by omega⟩
end
section
attribute [local go_sem] F50.t4_eq F50.t5_eq F50.t6_eq
theorem rall_any {w0 w : World} {F : HP} {B : Nat} {most : Int} {L : TL} (h : St w0 (RefT B most L * F) w) :
    Calls Try.prog 50 #[.pointer (some ⟨B, 0, none⟩)] w fun e w' => ∃ v' qs', amap (·.2) qs' = L ∧ St w0 (AtP v' qs' * (RefT B most L * F)) w' ∧ e = .returned v' := by
  obtain ⟨v, qs, rfl, hl, h⟩ := RefT.open h
  refine F50.calls (by simp) ?_
  unfold F50.code
  obtain ⟨a, c, rfl, _⟩ := h.right.rowForm v
  simp -dsimp -implicitDefEqProofs (disch := omega) only [go_sem]
  have h0 : St w0 (RowO 48 15 (.slice none 0 0) 0 [] * (hearts [] * RefU B most (.slice a qs.length c) qs F)) w := by
    refine (EmpH.of (h.ent (Ent.nilRowO 48 15 _))).ac ?_
    show EmpH * _ = RowO _ _ _ _ _ * (EmpH * _)
    ac_rfl
  refine loop_intro (fun e w' => e.ds = [] ∧ e.ρ 0 = .pointer (some ⟨B, 0, none⟩) ∧ ∃ (i : Nat) (v' : Value) (qs' : FPs), i ≤ qs.length ∧ e.ρ 4 = .int .i64 i ∧ e.ρ 3 = v' ∧ qs'.length = i ∧ amap (·.2) qs' = amap (·.2) (qs.take i) ∧ St w0 (RowO 48 15 v' i (qs'.flatMap atC) * (hearts qs' * RefU B most (.slice a qs.length c) qs F)) w')
    (fun e _ => match e.ρ 4 with | .int _ k => (qs.length - k).toNat | _ => 0) ?_ ?_
  · exact ⟨by simp -dsimp -implicitDefEqProofs only [go_sem], by simp -dsimp -implicitDefEqProofs only [go_sem], 0, _, [], by omega, by simp -dsimp -implicitDefEqProofs only [go_sem], by simp -dsimp -implicitDefEqProofs only [go_sem], rfl, rfl, h0⟩
  clear h h0
  rintro e w ⟨hd, e0, i, v', qs', hi, e4, e3, hql, hqs, h⟩
  by_cases hlt : (i : Int) < qs.length
  case neg =>
    rw [List.take_of_length_le (by omega)] at hqs
    simp -dsimp -implicitDefEqProofs (disch := omega) only [go_sem, hd, e0, e4, e3, hlt, h.cl B]
    refine ⟨v', qs', hqs, ?_, rfl⟩
    have h2 : St w0 (RefU B most (.slice a qs.length c) qs (AtP v' qs' * F)) w := h.ac (by unfold RefU AtP; rw [hql]; ac_rfl)
    exact (RefT.mk rfl hl h2).sw2
  have hil : i < qs.length := by omega
  obtain ⟨g, o, c', hv, hc, hrow⟩ := (h.ac (show _ = RefU B most (.slice a qs.length c) qs (RowO 48 15 v' i (qs'.flatMap atC) * (hearts qs' * F)) by unfold RefU; ac_rfl)).refAt hil
  simp only [Value.slice.injEq, true_and] at hv
  obtain ⟨rfl, rfl⟩ := hv
  have c0 : w.cell? ⟨g, o + i * 15, none⟩ = some (.int .u32 qs[i].1) := hc 0 (by decide)
  have hr : Ent (RowO 48 15 v' i (qs'.flatMap atC) * (hearts qs' * RefU B most (.slice (some ⟨g, o, none⟩) qs.length c) qs F)) (HeardR qs[i].2) := (Ent.right _ _).trans ((Ent.right _ _).trans ((Ent.right _ _).trans ((Ent.right _ _).trans ((Ent.left _ _).trans (hearts_in hil)))))
  have hok : Okf qs[i].2 := hearts_ok (h.ac (show _ = hearts qs * (Blk B (refTB most (.slice (some ⟨g, o, none⟩) qs.length c)) * (RowO 48 15 (.slice (some ⟨g, o, none⟩) qs.length c) qs.length (qs.flatMap atC) * (RowO 48 15 v' i (qs'.flatMap atC) * (hearts qs' * F)))) by unfold RefU; ac_rfl)) _ (List.getElem_mem hil)
  obtain ⟨⟨n, vf, f⟩, hq⟩ : ∃ q, q = qs[i] := ⟨_, rfl⟩
  rw [← hq] at c0 hr hok hrow
  have d0 : w.drew.cell? ⟨g, o + i * 15, none⟩ = some (.int .u32 n) := c0
  have drow : rowV w.drew ⟨g, o + i * 15 + 1, none⟩ 14 = some (fdV (vf, f)) := hrow
  have fac : ∀ {w' : World} {G : HP}, St w0 (RefU B most (.slice (some ⟨g, o, none⟩) qs.length c) qs G) w' → w'.cell? ⟨g, o + i * 15, none⟩ = some (.int .u32 n) ∧ w'.cell? ⟨B, 1, none⟩ = some (.slice (some ⟨g, o, none⟩) qs.length c) := by
    intro w' G h'
    obtain ⟨g', o', c', hv, hc', _⟩ := h'.refAt hil
    injection hv with h1 _ h2
    injection h1 with h1
    injection h1 with h3 h4
    refine ⟨?_, h'.cl B 1⟩
    have := hc' 0 (by decide)
    rw [← h3, ← h4] at this
    rw [← hq] at this
    exact this
  have hB := h.cl B
  have h := h.drew
  simp -dsimp -implicitDefEqProofs (disch := omega) only [go_sem, hd, e0, e4, e3, hlt, hB, h.cl B, d0, drow]
  refine (rown_any (p := (vf, f)) h hok.1 hr hok.2).mono ?_
  rintro e' w8 ⟨v1, hv1, h8, rfl⟩
  obtain ⟨q1, q2⟩ := fac (h8.ac (show _ = RefU B most (.slice (some ⟨g, o, none⟩) qs.length c) qs (HeardP (v1, f) * (RowO 48 15 v' i (qs'.flatMap atC) * (hearts qs' * F))) by unfold RefU; ac_rfl))
  simp -dsimp -implicitDefEqProofs (disch := omega) only [go_sem, hd, e0, e4, e3, hlt, q1, q2]
  rw [show fdV (v1, f) = .agg (fdC v1 f).toArray from rfl]
  refine onV_of (v := .agg (atC (n, (v1, f))).toArray) rfl ?_
  simp -dsimp -implicitDefEqProofs (disch := omega) only [go_sem, q1, q2]
  refine h8.lit (n := 1) (cells := atC (n, (v1, f))) fact_rowTy_28 rfl (by decide) (by decide) fun v2 w9 h9 => ?_
  obtain ⟨q3, q4⟩ := fac (h9.ac (show _ = RefU B most (.slice (some ⟨g, o, none⟩) qs.length c) qs (RowO 48 15 v2 1 (atC (n, (v1, f))) * (HeardP (v1, f) * (RowO 48 15 v' i (qs'.flatMap atC) * (hearts qs' * F)))) by unfold RefU; ac_rfl))
  simp -dsimp -implicitDefEqProofs (disch := omega) only [go_sem, hd, e0, e4, e3, hlt, q3, q4]
  refine h9.appR (v := v') (x := v2) fact_rowTy_28 Try.underlying28 (atC_cells hv1) (fun h => by simp [atC] at h) (show _ ≤ 9223372036854775807 by omega) (by omega) fun v3 w10 h10 => ?_
  obtain ⟨a3, c3, rfl, _⟩ := h10.rowForm v3
  obtain ⟨q5, q6⟩ := fac (h10.ac (show _ = RefU B most (.slice (some ⟨g, o, none⟩) qs.length c) qs (RowO 48 15 v2 1 (atC (n, (v1, f))) * (HeardP (v1, f) * (RowO 48 15 (.slice a3 (i + 1) c3) (i + 1) (qs'.flatMap atC ++ atC (n, (v1, f))) * (hearts qs' * F)))) by unfold RefU; ac_rfl))
  simp -dsimp -implicitDefEqProofs (disch := omega) only [go_sem, hd, e0, e4, e3, hlt, q5, q6]
  refine ⟨⟨i + 1, _, qs' ++ [(n, (v1, f))], by omega, by omega, rfl, by simp [hql], ?_, ?_⟩, by omega⟩
  · rw [List.take_succ_eq_append_getElem hil, ← hq]
    simp only [amap, List.map_append] at hqs ⊢
    rw [hqs]; rfl
  · have h11 : St w0 (HeardP (n, (v1, f)).2 * (hearts qs' * (RowO 48 15 (.slice a3 (i + 1) c3) (i + 1) (qs'.flatMap atC ++ atC (n, (v1, f))) * RefU B most (.slice (some ⟨g, o, none⟩) qs.length c) qs F))) w10 :=
      (h10.ac (by show _ = RowO 48 15 v2 1 (atC (n, (v1, f))) * (HeardP (v1, f) * _); ac_rfl)).right
    have h12 := hearts_snoc (x := (n, (v1, f))) ⟨hv1, hok.2⟩ h11
    rw [List.flatMap_append, List.flatMap_cons, List.flatMap_nil, List.append_nil]
    exact h12.ac (by ac_rfl)
end
theorem RefT.of {w0 w : World} {B : Nat} {most : Int} {v : Value} {qs : FPs} {F : HP} (hl : qs.length ≤ 1048576) (h : St w0 (Blk B (refTB most v) * (AtP v qs * F)) w) : St w0 (RefT B most (amap (·.2) qs) * F) w := RefT.mk rfl hl (h.ac (by unfold RefU AtP; ac_rfl))
theorem rclear_any {w0 w : World} {F : HP} {B : Nat} {most : Int} {L : TL} (h : St w0 (RefT B most L * F) w) :
    Calls Try.prog 48 #[.pointer (some ⟨B, 0, none⟩)] w fun e w' => ∃ v' qs', amap (·.2) qs' = L ∧ St w0 (AtP v' qs' * (RefT B most [] * F)) w' ∧ e = .returned v' := by
  refine F48.calls (by simp) ?_
  unfold F48.code
  simp -dsimp -implicitDefEqProofs (disch := omega) only [go_sem]
  refine (rall_any h).mono ?_
  rintro e w1 ⟨v', qs', hq, h1, rfl⟩
  obtain ⟨v, qs, _, hl, h2⟩ := RefT.open h1.sw2
  simp -dsimp -implicitDefEqProofs (disch := omega) only [go_sem]
  refine h2.sto (b := B) (off := 1) (v := .slice none 0 0) (by simp) rfl fun w3 h3 => ?_
  simp only [List.setIfInBounds_toArray, List.set_cons_succ, List.set_cons_zero] at h3
  simp -dsimp -implicitDefEqProofs (disch := omega) only [go_sem]
  refine ⟨v', qs', hq, ?_, rfl⟩
  have h4 : St w0 (Blk B (refTB most (.slice none 0 0)) * (AtP v' qs' * F)) w3 := (h3.ac (show _ = RowO 48 15 v qs.length (qs.flatMap atC) * (hearts qs * (Blk B (refTB most (.slice none 0 0)) * (AtP v' qs' * F))) by ac_rfl)).right.right
  have h5 : St w0 (RowO 48 15 (.slice none 0 0) 0 [] * (hearts [] * (Blk B (refTB most (.slice none 0 0)) * (AtP v' qs' * F)))) w3 := (EmpH.of (h4.ent (Ent.nilRowO 48 15 _))).ac (by show EmpH * _ = RowO _ _ _ _ _ * (EmpH * _); ac_rfl)
  have h6 := RefT.of (v := .slice none 0 0) (qs := []) (by simp) (h5.ac (show _ = Blk B (refTB most (.slice none 0 0)) * (AtP (.slice none 0 0) [] * (AtP v' qs' * F)) by show RowO _ _ _ _ _ * (EmpH * _) = Blk _ _ * ((RowO _ _ _ _ _ * EmpH) * _); ac_rfl))
  exact h6.sw2
theorem rclone_any {w0 w : World} {F : HP} {B : Nat} {most : Int} {L : TL} (h : St w0 (RefT B most L * F) w) :
    Calls Try.prog 26 #[.pointer (some ⟨B, 0, none⟩)] w fun e w' => ∃ C, St w0 (RefT C most L * (RefT B most L * F)) w' ∧ e = .returned (.pointer (some ⟨C, 0, none⟩)) := by
  have hlen := RefT.len h
  obtain ⟨v, qs, hqs, hl, h1⟩ := RefT.open h
  refine F26.calls (by simp) ?_
  unfold F26.code
  simp -dsimp -implicitDefEqProofs (disch := omega) only [go_sem, h1.cl B, h1.drew.cl B]
  refine (rall_any h.drew).mono ?_
  rintro e w1 ⟨v', qs', hq, h2, rfl⟩
  obtain ⟨a', c', rfl, _⟩ := (h2.ac (show _ = RowO 48 15 v' qs'.length (qs'.flatMap atC) * (hearts qs' * (RefT B most L * F)) by unfold AtP; ac_rfl)).rowForm v'
  obtain ⟨v3, qs3, hqs3, hl3, h3⟩ := RefT.open h2.sw2
  simp -dsimp -implicitDefEqProofs (disch := omega) only [go_sem, h3.cl B]
  refine onV_of (v := .agg #[.int .i64 most, .slice a' qs'.length c']) rfl ?_
  simp -dsimp -implicitDefEqProofs (disch := omega) only [go_sem, h3.cl B]
  refine h3.new fun C w4 h4 => ?_
  simp -dsimp -implicitDefEqProofs (disch := omega) only [go_sem, h4.cl B]
  refine ⟨C, ?_, rfl⟩
  have hl' : qs'.length ≤ 1048576 := by have : qs'.length = L.length := by rw [← hq]; simp [amap]
                                        omega
  have h5 : St w0 (RefT B most L * (Blk C (refTB most (.slice a' qs'.length c')) * (AtP (.slice a' qs'.length c') qs' * F))) w4 := RefT.mk hqs3 hl3 (h4.ac (by show _ = RefU B most v3 qs3 (Blk C (refTB most (.slice a' qs'.length c')) * (AtP (.slice a' qs'.length c') qs' * F)); unfold RefU; ac_rfl))
  have h6 := RefT.of hl' (h5.ac (show _ = Blk C (refTB most (.slice a' qs'.length c')) * (AtP (.slice a' qs'.length c') qs' * (RefT B most L * F)) by ac_rfl))
  rw [hq] at h6
  exact h6
section
attribute [local go_sem] F23.t3_eq
theorem rnew_any {w0 w : World} {F : HP} {most : Int} (h : St w0 F w) :
    Calls Try.prog 23 #[.int .i64 most] w fun e w' => if most < 1 ∨ 256 < most then St w0 F w' ∧ e = .returned (.tuple #[.pointer none, .int .i64 1]) else ∃ B, St w0 (RefT B most [] * F) w' ∧ e = .returned (.tuple #[.pointer (some ⟨B, 0, none⟩), .int .i64 0]) := by
  refine F23.calls (by simp) ?_
  unfold F23.code
  by_cases k1 : most < 1
  · simp -dsimp -implicitDefEqProofs (disch := omega) only [go_sem, k1]; exact h
  by_cases k2 : 256 < most
  · simp -dsimp -implicitDefEqProofs (disch := omega) only [go_sem, k1, k2]; exact h
  simp -dsimp -implicitDefEqProofs (disch := omega) only [go_sem, k1, k2]
  refine onV_of (v := .agg #[.int .i64 most, .slice none 0 0]) rfl ?_
  simp -dsimp -implicitDefEqProofs (disch := omega) only [go_sem, k1, k2]
  refine h.new fun B w1 h1 => ?_
  simp -dsimp -implicitDefEqProofs (disch := omega) only [go_sem, k1, k2]
  refine ⟨B, ?_, rfl⟩
  have h5 : St w0 (RowO 48 15 (.slice none 0 0) 0 [] * (hearts [] * (Blk B (refTB most (.slice none 0 0)) * F))) w1 := (EmpH.of (h1.ent (Ent.nilRowO 48 15 _))).ac (by show EmpH * _ = RowO _ _ _ _ _ * (EmpH * _); ac_rfl)
  exact RefT.of (v := .slice none 0 0) (qs := []) (by simp) (h5.ac (show _ = Blk B (refTB most (.slice none 0 0)) * (AtP (.slice none 0 0) [] * F) by show RowO _ _ _ _ _ * (EmpH * _) = Blk _ _ * ((RowO _ _ _ _ _ * EmpH) * _); ac_rfl))
end
section
variable {P : Program} {w0 w : World} {A F : HP} {C : HP → HP}
theorem St.setCells {g : Nat} {cur : Array Value} {T : TypeId} {fr : Nat × Nat} (h : St w0 (Blk g (.cells cur T fr) * F) w) (o : Nat) (vs : List Value) :
    St w0 (Blk g (.cells (setRowL cur.toList o vs).toArray T fr) * F) (w.setCells g o vs) := by
  obtain ⟨a1, a2, a3, a4, a5, a6⟩ := heap_setCells g T fr vs o w cur h.blk
  exact h.blk_turn a4 a5 a6 (by omega) a1 fun k hk _ => a2 k hk
theorem St.copyH {g o dl dc n : Nat} {cur : Array Value} {T dT sT ty elem : TypeId} {v : Value} {xs : List Value} {K : Value → World → Prop} {θ : Tag K}
    (h : St w0 A w) [i : Hole (.blk g) A (Blk g (.cells cur T (0, 0))) C] (hu : P.underlying dT = some (.slice elem)) (hs : (P.info? elem).map (·.size) = some 1)
    (hr : Rd 1 v n xs w) (hc : ∀ u ∈ xs, isCell u = true) (hfit : o + min n dl ≤ cur.size)
    (hK : ∀ w', St w0 (C (Blk g (.cells (setRowL cur.toList o (xs.take dl)).toArray T (0, 0)))) w' → K (.int .i64 (min n dl : Nat)) w') :
    semD P (kCopy #[dT, sT] ty #[.slice (some ⟨g, o, none⟩) dl dc, v]) w K θ := by
  obtain ⟨R, hR, h'⟩ := h.out (.blk g)
  obtain ⟨hl, a, c, rfl, hnc, hx⟩ := hr
  have hn : xs.length = n := by omega
  have hgw := h'.blk
  show semD P (Builtin.copy_ #[dT, sT] ty #[.slice (some ⟨g, o, none⟩) dl dc, .slice a n c]) w K θ
  rcases hx with rfl | ⟨b, q, rfl, hj⟩
  · have h0 : n = 0 := by simpa using hn.symm
    subst h0
    refine ⟨.int .i64 0, w, run_copy_none w dT sT ty elem _ _ dl dc 0 c hu hs (by simp), ?_⟩
    have := hK w (by rw [hR]; simpa [setRowL] using h')
    simpa using this
  · have hlen : (xs.take dl).length = Nat.min n dl := by rw [List.length_take, hn]; exact Nat.min_comm _ _
    have hmin : Nat.min n dl = min n dl := rfl
    refine ⟨.int .i64 (min n dl : Nat), w.setCells g o (xs.take dl), ?_, hK _ (by rw [hR]; exact h'.setCells o _)⟩
    rw [run_copy_cells (P := P) w dT sT ty elem g o dl dc ⟨b, q, none⟩ n c (xs.take dl) hu hs hlen (fun j u hu' => ?_) (fun j hj' => ?_) (fun j hj' => frozen_of_heap hgw _) fun u hu' => by rw [← isCell_eq]; exact hc u (List.mem_of_mem_take hu')]
    · rw [hlen]; rfl
    · rw [List.getElem?_take] at hu'
      split at hu'
      · have hjl : j < xs.length := by
          rcases Nat.lt_or_ge j xs.length with h1 | h1
          · exact h1
          · rw [List.getElem?_eq_none h1] at hu'; cases hu'
        have : (⟨b, q, none⟩ : Addr).add j = ⟨b, q + j, none⟩ := by unfold Addr.add; split <;> simp_all
        rw [this, hj j hjl, hu']
      · cases hu'
    · rw [cell_of_heap hgw]
      have : o + j < cur.size := by omega
      simp [this]
end
section
variable {P : Program} {w0 w : World} {A F : HP} {C : HP → HP}
theorem St.copyRow {g o k n c dl dc m : Nat} {T dT sT ty elem : TypeId} {v : Value} {xs ys : List Value} {K : Value → World → Prop} {θ : Tag K}
    (h : St w0 A w) [i : Hole (.row (.slice (some ⟨g, o, none⟩) n c)) A (RowO T 1 (.slice (some ⟨g, o, none⟩) n c) n xs) C] (hu : P.underlying dT = some (.slice elem)) (hs : (P.info? elem).map (·.size) = some 1)
    (hr : Rd 1 v m ys w) (hc : ∀ u ∈ ys, isCell u = true) (hfit : k + min m dl ≤ n)
    (hK : ∀ w', St w0 (C (RowO T 1 (.slice (some ⟨g, o, none⟩) n c) n (setRowL xs k (ys.take dl)))) w' → K (.int .i64 (min m dl : Nat)) w') :
    semD P (kCopy #[dT, sT] ty #[.slice (some ⟨g, o + k, none⟩) dl dc, v]) w K θ := by
  obtain ⟨R, hR, h'⟩ := h.out (.row (.slice (some ⟨g, o, none⟩) n c))
  obtain ⟨cur, h'⟩ := (h'.ent (Ent.sep (RowO.openE T 1 g o n c xs) (Ent.rfl' R))).exF
  obtain ⟨⟨a1, a2, a3, a4, a5⟩, h'⟩ := h'.factF
  have hyl := hr.length
  have htl : (ys.take dl).length = min m dl := by rw [List.length_take]; omega
  refine h'.copyH hu hs hr hc (by omega) fun w' hw => hK w' ?_
  rw [hR]
  refine hw.ent (Ent.sep (RowO.shutE ⟨a1, a2, ?_, ?_, ?_⟩) (Ent.rfl' R))
  · simpa [length_setRowL] using a3
  · rw [List.toList_toArray, setRowL_part (by omega) (by simp only [Array.length_toList]; omega), a4]
  · rw [length_setRowL, a5]
end
theorem St.make1B {P : Program} {w0 w : World} {F : HP} {t e bs n c : Nat} {z : Value} {K : Value → World → Prop} {θ : Tag K} (h : St w0 F w) (ht : rowTy P t = some (e, 1, bs, [z])) (hn : n ≤ c) (hc : c ≤ 4611686018427387904) (hb : bs * c ≤ 281474976710656)
    (hK : ∀ b w', St w0 (RowO e 1 (.slice (some ⟨b, 0, none⟩) n c) n (List.replicate n z) * F) w' → K (.slice (some ⟨b, 0, none⟩) n c) w') : semD P (kMakeSlice t (.int .i64 n) (.int .i64 c)) w K θ := by
  show semD P (Instr.makeSlice t (.int .i64 n) (.int .i64 c)) w K θ
  obtain ⟨hu, i, zv, hi, hz, hsz, hbs, hzs, hzc⟩ := rowTy_some ht
  have hb2 : (bs : Int) * c ≤ 281474976710656 := by
    have : ((bs * c : Nat) : Int) ≤ 281474976710656 := by omega
    rwa [Int.natCast_mul] at this
  have hr := run_make (P := P) w t e i zv hu hi hz .i64 .i64 n c (by omega) (by omega) (by rw [hbs]; exact hb2) (by omega)
  simp only [Int.toNat_natCast, hsz, Nat.mul_one] at hr
  have hcells : madeCells zv.cells c = (List.replicate c z).toArray := by
    have hz1 : zv.cells = #[z] := Array.ext' (by rw [hzc])
    rw [hz1]
    apply Array.ext'
    simp only [madeCells]
    apply List.ext_getElem
    · simp
    · intro j h1 h2
      simp [Nat.mod_one]
  rw [hcells] at hr
  refine ⟨_, _, hr, hK _ _ ((h.alloc _).ent (Ent.sep (Ent.of fun k hk => .inr ⟨w.heap.size, 0, c, (List.replicate c z).toArray, rfl, hk, hn, by simp only [maxLen]; omega, by simp, ?_, by simp⟩) (Ent.rfl' F)))⟩
  simp only [List.drop_zero, Nat.mul_one, List.take_replicate, Nat.min_eq_left hn]
abbrev LentP (g c : Nat) (bs : List UInt8) (m : List Value) : HP := RowO 5 1 (.slice (some ⟨g, 0, none⟩) (bs.length + 3) c) (bs.length + 3) (byR bs ++ m)
abbrev m90 : List Value := [.int .u8 90, .int .u8 90, .int .u8 90]
theorem setRowL_front {z : Value} : ∀ (ys cs : List Value) (o : Nat), o + ys.length ≤ cs.length → setRowL cs o ys = cs.take o ++ (ys ++ cs.drop (o + ys.length))
  | [], cs, o, h => by simp [setRowL]
  | y :: ys, cs, o, h => by
    simp only [List.length_cons] at h
    rw [setRowL, setRowL_front (z := z) ys (cs.set o y) (o + 1) (by rw [List.length_set]; omega)]
    rw [List.take_set, List.drop_set_of_lt (by omega), List.length_cons, show o + (ys.length + 1) = o + 1 + ys.length by omega]
    rw [List.take_succ_eq_append_getElem (by omega), List.set_append_right _ _ (by rw [List.length_take]; omega), List.length_take, show o - min o cs.length = 0 by omega]
    simp
theorem setRowL_lent {z : Value} {ys : List Value} {n m : Nat} (h : ys.length = n) : setRowL (List.replicate (n + m) z) 0 (ys.take (n + m)) = ys ++ List.replicate m z := by
  subst h
  rw [List.take_of_length_le (by omega), setRowL_front (z := z) _ _ _ (by simp)]
  simp
theorem m90_set (bs : List Value) {k : Nat} (hk : k < 3) : (bs ++ (List.replicate k (Value.int .u8 90) ++ List.replicate (3 - k) (Value.int .u8 0))).set (bs.length + k) (.int .u8 90) = bs ++ (List.replicate (k + 1) (Value.int .u8 90) ++ List.replicate (3 - (k + 1)) (Value.int .u8 0)) := by
  rw [List.set_append_right _ _ (by omega), show bs.length + k - bs.length = k by omega]
  congr 1
  match k, hk with
  | 0, _ => rfl
  | 1, _ => rfl
  | 2, _ => rfl
section
attribute [local go_sem] F60.t5_eq F60.t6_eq F60.t7_eq
theorem lent_any {w0 w : World} {F : HP} {p : HF} (h : St w0 F w) (hv : isCell p.1 = true) (hr : Ent F (HeardR p)) (hl : p.2.heard.length < 1099511627776) :
    Calls Try.prog 60 #[fdV p] w fun e w' => ∃ g c : Nat, p.2.heard.length + 3 ≤ c ∧ St w0 (LentP g c p.2.heard m90 * F) w' ∧ e = .returned (fdV (Value.slice (some ⟨g, 0, none⟩) p.2.heard.length c, p.2)) := by
  obtain ⟨v, f⟩ := p
  have hr : Ent F (Reads 1 v f.heard.length (byR f.heard)) := hr
  have hl : f.heard.length < 1099511627776 := hl
  obtain ⟨_, av, cv, rfl, _, _⟩ := (h.ent hr).cell1'
  refine F60.calls (by simp) ?_
  unfold F60.code
  unfold fdV fdC
  simp -dsimp -implicitDefEqProofs (disch := omega) only [go_sem]
  refine h.new fun B1 w1 h1 => ?_
  simp -dsimp -implicitDefEqProofs (disch := omega) only [go_sem]
  refine h1.new fun B2 w2 h2 => ?_
  have h2' : St w0 (Blk B2 (.cells (fdC (.slice none 0 0) zFid).toArray 43 (0, 0)) * (Blk B1 (.cells (fdC (.slice av f.heard.length cv) f).toArray 43 (0, 0)) * F)) w2 := h2
  have c13 : w2.cell? ⟨B1, 13, none⟩ = some (.slice av f.heard.length cv) := h2'.cl B1 13
  simp -dsimp -implicitDefEqProofs (disch := omega) only [go_sem, c13]
  rw [show ((f.heard.length : Int) + 3) = ((f.heard.length + 3 : Nat) : Int) by omega]
  have hb1 : f.heard.length + 3 ≤ 4611686018427387904 := by omega
  have hb2 : 1 * (f.heard.length + 3) ≤ 281474976710656 := by omega
  refine h2'.make1B (n := f.heard.length + 3) (c := f.heard.length + 3) fact_rowTy_39 (Nat.le_refl _) hb1 hb2 fun g w3 h3 => ?_
  have c13 : w3.cell? ⟨B1, 13, none⟩ = some (.slice av f.heard.length cv) := h3.cl B1 13
  simp -dsimp -implicitDefEqProofs (disch := omega) only [go_sem, c13]
  rw [show (⟨g, 0, none⟩ : Addr) = ⟨g, 0 + 0, none⟩ from rfl]
  refine h3.copyRow (g := g) (o := 0) (k := 0) (n := f.heard.length + 3) (c := f.heard.length + 3) (dl := f.heard.length + 3) (m := f.heard.length) (ys := byR f.heard) Try.underlying39 (by kernel_rfl) ((h3.ent ((Ent.right _ _).trans ((Ent.right _ _).trans ((Ent.right _ _).trans hr)))).rd) (byR_cells _) (by omega) fun w4 h4 => ?_
  rw [setRowL_lent (by simp)] at h4
  have c13 : w4.cell? ⟨B1, 13, none⟩ = some (.slice av f.heard.length cv) := h4.cl B1 13
  simp -dsimp -implicitDefEqProofs (disch := omega) only [go_sem, c13]
  refine loop_intro (fun e w' => e.ds = [] ∧ e.ρ 1 = .pointer (some ⟨B1, 0, none⟩) ∧ e.ρ 2 = .pointer (some ⟨B2, 0, none⟩) ∧ e.ρ 3 = .slice (some ⟨g, 0, none⟩) (f.heard.length + 3) (f.heard.length + 3) ∧ ∃ k : Nat, k ≤ 3 ∧ e.ρ 4 = .int .i64 ((f.heard.length + k : Nat) : Int) ∧
      St w0 (RowO 5 1 (.slice (some ⟨g, 0, none⟩) (f.heard.length + 3) (f.heard.length + 3)) (f.heard.length + 3) (byR f.heard ++ (List.replicate k (.int .u8 90) ++ List.replicate (3 - k) (.int .u8 0))) * (Blk B2 (.cells (fdC (.slice none 0 0) zFid).toArray 43 (0, 0)) * (Blk B1 (.cells (fdC (.slice av f.heard.length cv) f).toArray 43 (0, 0)) * F))) w')
    (fun e _ => match e.ρ 4 with | .int _ n => (f.heard.length + 3 - n).toNat | _ => 0) ?_ ?_
  · exact ⟨by simp -dsimp -implicitDefEqProofs only [go_sem], by simp -dsimp -implicitDefEqProofs only [go_sem], by simp -dsimp -implicitDefEqProofs only [go_sem], by simp -dsimp -implicitDefEqProofs only [go_sem], 0, by omega, by simp -dsimp -implicitDefEqProofs only [go_sem], h4⟩
  clear h h1 h2 h2' h3 h4 c13
  rintro e w ⟨hd, e1, e2, e3, k, hk, e4, h⟩
  by_cases hlt : ((f.heard.length + k : Nat) : Int) < ((f.heard.length + 3 : Nat) : Int)
  · have hk3 : k < 3 := by omega
    simp -dsimp -implicitDefEqProofs (disch := omega) only [go_sem, hd, e1, e2, e3, e4, hlt]
    rw [show (⟨g, f.heard.length + k, none⟩ : Addr) = ⟨g, 0 + (f.heard.length + k), none⟩ by rw [Nat.zero_add]]
    refine h.rowSet1 (g := g) (o := 0) (n := f.heard.length + 3) (c := f.heard.length + 3) (k := f.heard.length + k) (v := .int .u8 90) (by simp; omega) rfl fun w2 h2 => ?_
    have e0 := m90_set (byR f.heard) hk3
    rw [show (byR f.heard).length = f.heard.length by simp] at e0
    rw [e0] at h2
    simp -dsimp -implicitDefEqProofs (disch := omega) only [go_sem, hd, e1, e2, e3, e4]
    exact ⟨⟨k + 1, by omega, by omega, h2⟩, by omega⟩
  · have : k = 3 := by omega
    subst this
    have c13 : w.cell? ⟨B1, 13, none⟩ = some (.slice av f.heard.length cv) := h.cl B1 13
    simp -dsimp -implicitDefEqProofs (disch := omega) only [go_sem, hd, e1, e2, e3, e4, hlt, c13]
    refine h.sto (b := B1) (off := 13) (by simp [fdC]) rfl fun w5 h5 => ?_
    have h5' : St w0 (LentP g (f.heard.length + 3) f.heard m90 * (Blk B2 (.cells (fdC (.slice none 0 0) zFid).toArray 43 (0, 0)) * (Blk B1 (.cells (fdC (.slice (some ⟨g, 0, none⟩) f.heard.length (f.heard.length + 3)) f).toArray 43 (0, 0)) * F))) w5 := h5
    have hrow := h5'.rowH B1 14 rfl
    simp -dsimp -implicitDefEqProofs (disch := omega) only [go_sem, hd, e1, e2, hrow]
    refine h5'.stoAll (b := B2) (cs := fdC (.slice (some ⟨g, 0, none⟩) f.heard.length (f.heard.length + 3)) f) rfl rfl (fdC_cells rfl) fun w6 h6 => ?_
    have hrow2 := h6.rowH B2 14 rfl
    simp -dsimp -implicitDefEqProofs (disch := omega) only [go_sem, hd, e1, e2]
    refine resC_1 (a := ⟨B2, 0, none⟩) (v := fdV (.slice (some ⟨g, 0, none⟩) f.heard.length (f.heard.length + 3), f)) (by simp -dsimp -implicitDefEqProofs only [go_sem, e2]) (run_loadVar_row fact_aggSz_43 (by rw [hrow2]; rfl)) ?_
    exact ⟨g, f.heard.length + 3, Nat.le_refl _, h6.ent (Ent.sep (Ent.rfl' _) ((Ent.right _ _).trans (Ent.right _ _))), rfl⟩
theorem LentP.reads {g c : Nat} {bs : List UInt8} {m : List Value} : Ent (LentP g c bs m) (Reads 1 (.slice (some ⟨g, 0, none⟩) bs.length c) bs.length (byR bs)) := by
  have h1 := (RowO.reads 5 1 (.slice (some ⟨g, 0, none⟩) (bs.length + 3) c) (bs.length + 3) (byR bs ++ m)).trans (Reads.takeK (k := bs.length) (by omega))
  rw [show (byR bs ++ m).take (bs.length * 1) = byR bs by rw [List.take_append_of_le_length (by simp), List.take_of_length_le (by simp)]] at h1
  have e : (if c = 0 then some (⟨g, 0, none⟩ : Addr) else Option.map (fun x => x) (some ⟨g, 0, none⟩)) = some ⟨g, 0, none⟩ := by split <;> rfl
  rwa [e, Nat.sub_zero] at h1
theorem LentP.cell {w0 w : World} {g c : Nat} {bs : List UInt8} {m : List Value} {F : HP} (h : St w0 (LentP g c bs m * F) w) {j : Nat} (hj : j < 3) : w.cell? ⟨g, bs.length + j, none⟩ = m[j]? := by
  obtain ⟨a', c', hv, _, hz⟩ := ((h.ent ((Ent.left _ _).trans (RowO.reads _ _ _ _ _))).rd).form
  simp only [Value.slice.injEq, true_and] at hv
  obtain ⟨rfl, rfl⟩ := hv
  have hlen := (h.ent ((Ent.left _ _).trans (RowO.reads _ _ _ _ _))).rd.length
  rcases hz with hz | ⟨b, o, hb, hz⟩
  · rw [hz] at hlen; simp at hlen
  · simp only [Option.some.injEq, Addr.mk.injEq] at hb
    obtain ⟨rfl, rfl, _⟩ := hb
    have h1 := hz (bs.length + j) (by omega)
    rw [Nat.zero_add] at h1
    rw [h1, List.getElem?_append_right (by simp), show bs.length + j - (byR bs).length = j by simp]
end
section
attribute [local go_sem] F63.t6_eq F63.t7_eq F63.t8_eq
theorem left_any {w0 w : World} {F : HP} {p : HF} {g c : Nat} (hc : p.2.heard.length + 3 ≤ c) (h : St w0 (LentP g c p.2.heard m90 * F) w) (hv : isCell p.1 = true) (hr : Ent F (HeardR p)) (hl : p.2.heard.length < 1099511627776) :
    Calls Try.prog 63 #[fdV (Value.slice (some ⟨g, 0, none⟩) p.2.heard.length c, p.2), fdV p] w fun e w' => St w0 F w' ∧ e = .returned (.bool true) := by
  obtain ⟨v, f⟩ := p
  have hr : Ent F (Reads 1 v f.heard.length (byR f.heard)) := hr
  have hl : f.heard.length < 1099511627776 := hl
  have hc : f.heard.length + 3 ≤ c := hc
  have h : St w0 (LentP g c f.heard m90 * F) w := h
  obtain ⟨_, av, cv, rfl, _, _⟩ := (h.right.ent hr).cell1'
  refine F63.calls (by simp) ?_
  unfold F63.code
  unfold fdV fdC
  simp -dsimp -implicitDefEqProofs (disch := omega) only [go_sem]
  refine h.new fun B1 w1 h1 => ?_
  simp -dsimp -implicitDefEqProofs (disch := omega) only [go_sem]
  refine h1.new fun B2 w2 h2 => ?_
  have h2' : St w0 (Blk B2 (.cells (fdC (.slice av f.heard.length cv) f).toArray 43 (0, 0)) * (Blk B1 (.cells (fdC (.slice (some ⟨g, 0, none⟩) f.heard.length c) f).toArray 43 (0, 0)) * (LentP g c f.heard m90 * F))) w2 := h2
  have c1 : w2.cell? ⟨B1, 13, none⟩ = some (.slice (some ⟨g, 0, none⟩) f.heard.length c) := h2'.cl B1 13
  have c2 : w2.cell? ⟨B2, 13, none⟩ = some (.slice av f.heard.length cv) := h2'.cl B2 13
  have d2 : w2.drew.cell? ⟨B2, 13, none⟩ = some (.slice av f.heard.length cv) := c2
  have hcc : (f.heard.length : Int) + 3 ≤ c := by omega
  simp -dsimp -implicitDefEqProofs (disch := omega) only [go_sem, c1, c2, d2, hcc, ite_self, Nat.sub_zero]
  have hD := h2'.drew
  refine St.str (bs := f.heard) hD ((Ent.right _ _).trans ((Ent.right _ _).trans ((Ent.left _ _).trans LentP.reads))) Try.underlying39 Try.underlying5 Try.underlying9 ?_
  simp -dsimp -implicitDefEqProofs (disch := omega) only [go_sem, c1, c2, d2, hcc, ite_self, Nat.sub_zero]
  refine St.str (bs := f.heard) hD ((Ent.right _ _).trans ((Ent.right _ _).trans ((Ent.right _ _).trans hr))) Try.underlying39 Try.underlying5 Try.underlying9 ?_
  have hL : St w0 (LentP g c f.heard m90 * (Blk B2 (.cells (fdC (.slice av f.heard.length cv) f).toArray 43 (0, 0)) * (Blk B1 (.cells (fdC (.slice (some ⟨g, 0, none⟩) f.heard.length c) f).toArray 43 (0, 0)) * F))) w2.drew := hD.ac (by ac_rfl)
  have x0 : w2.drew.cell? ⟨g, f.heard.length, none⟩ = some (.int .u8 90) := LentP.cell hL (j := 0) (by decide)
  have x1 : w2.drew.cell? ⟨g, f.heard.length + 1, none⟩ = some (.int .u8 90) := LentP.cell hL (j := 1) (by decide)
  have x2 : w2.drew.cell? ⟨g, f.heard.length + 2, none⟩ = some (.int .u8 90) := LentP.cell hL (j := 2) (by decide)
  have hb3 : (f.heard.length : Int) < ((f.heard.length + 3 : Nat) : Int) := by omega
  have hb4 : (f.heard.length : Int) + 1 < ((f.heard.length + 3 : Nat) : Int) := by omega
  have hb5 : (f.heard.length : Int) + 2 < ((f.heard.length + 3 : Nat) : Int) := by omega
  have t1 : ((f.heard.length : Int) + 1).toNat = f.heard.length + 1 := by omega
  have t2 : ((f.heard.length : Int) + 2).toNat = f.heard.length + 2 := by omega
  simp -dsimp -implicitDefEqProofs (disch := omega) only [go_sem, seq_dec, x0, x1, x2, hb3, hb4, hb5, t1, t2]
  refine loop_intro (fun e w' => e.ds = [] ∧ e.ρ 6 = .slice (some ⟨g, 0, none⟩) (f.heard.length + 3) c ∧ e.ρ 7 = .bool true ∧ ∃ (i : Nat) (ys : List Value), i ≤ f.heard.length + 3 ∧ e.ρ 8 = .int .i64 i ∧ ys.length = f.heard.length + 3 ∧ St w0 (RowO 5 1 (.slice (some ⟨g, 0, none⟩) (f.heard.length + 3) c) (f.heard.length + 3) ys * (Blk B2 (.cells (fdC (.slice av f.heard.length cv) f).toArray 43 (0, 0)) * (Blk B1 (.cells (fdC (.slice (some ⟨g, 0, none⟩) f.heard.length c) f).toArray 43 (0, 0)) * F))) w')
    (fun e _ => match e.ρ 8 with | .int _ n => (f.heard.length + 3 - n).toNat | _ => 0) ?_ ?_
  · exact ⟨by simp -dsimp -implicitDefEqProofs only [go_sem], by (simp -dsimp -implicitDefEqProofs only [go_sem]); omega, by simp -dsimp -implicitDefEqProofs only [go_sem], 0, _, by omega, by simp -dsimp -implicitDefEqProofs only [go_sem], by simp, hL⟩
  clear h h1 h2 h2' hD hL x0 x1 x2 c1 c2 d2
  rintro e w ⟨hd, e6, e7, i, ys, hi, e8, hy, h⟩
  by_cases hlt : (i : Int) < ((f.heard.length + 3 : Nat) : Int)
  · simp -dsimp -implicitDefEqProofs (disch := omega) only [go_sem, hd, e6, e7, e8, hlt]
    rw [show (⟨g, i, none⟩ : Addr) = ⟨g, 0 + i, none⟩ by rw [Nat.zero_add]]
    refine h.rowSet1 (g := g) (o := 0) (n := f.heard.length + 3) (c := c) (k := i) (v := .int .u8 238) (by omega) rfl fun w3 h3 => ?_
    simp -dsimp -implicitDefEqProofs (disch := omega) only [go_sem, hd, e6, e7, e8]
    exact ⟨⟨i + 1, ys.set i (.int .u8 238), by omega, by omega, by simp [hy], h3⟩, by omega⟩
  · simp -dsimp -implicitDefEqProofs (disch := omega) only [go_sem, hd, e6, e7, e8, hlt]
    exact h.right.right.right
end
theorem and3_mod {md : Int} (h : 0 ≤ md ∧ md < 256) : and3 md = md.tmod 4 := by
  obtain ⟨k, rfl⟩ : ∃ k : Nat, md = k := ⟨md.toNat, by omega⟩
  have hk : k < 256 := by omega
  have e1 : (BitVec.ofInt 8 (k : Int) &&& BitVec.ofInt 8 3).toNat = k % 4 := by
    rw [BitVec.toNat_and, BitVec.ofInt_natCast, BitVec.toNat_ofNat, show (BitVec.ofInt 8 3).toNat = 3 from rfl, Nat.mod_eq_of_lt (show k < 2 ^ 8 by omega)]
    exact Nat.and_two_pow_sub_one_eq_mod k 2
  unfold and3
  show IntKind.u8.wrap (((BitVec.ofInt 8 (k : Int) &&& BitVec.ofInt 8 3).toNat : Nat) : Int) = _
  rw [e1, wrap_u8 (by omega) (by omega)]
  exact (Int.ofNat_tmod k 4)
theorem roomE_is {a n most : Int} {l : TL} (he : roomE a n most l = 0) : (agt a l).isSome = true := by
  unfold roomE at he
  split at he
  · assumption
  · cases he
section
variable {l : TL} (h : (l.map (·.1)).Nodup)
include h
theorem freeE_K (n most : Int) : freeE n most (sortK l) = freeE n most l := by unfold freeE; rw [agt_sortK h, sortK_length]
theorem addE_K (n most : Int) (f : FidD) : addE n most (sortK l) f = addE n most l f := by unfold addE; rw [freeE_K h]
theorem setE_K (n : Int) (f : FidD) : setE n (sortK l) f = setE n l f := by unfold setE; rw [agt_sortK h]
theorem roomE_K (a n most : Int) : roomE a n most (sortK l) = roomE a n most l := by unfold roomE; rw [agt_sortK h, freeE_K h]
theorem walkE_K (a n most : Int) : walkE a n most (sortK l) = walkE a n most l := by unfold walkE; rw [agt_sortK h, roomE_K h]
theorem openE_K (n : Int) : openE n (sortK l) = openE n l := by unfold openE; rw [agt_sortK h]
theorem toldE_K (n : Int) : toldE n (sortK l) = toldE n l := by unfold toldE; rw [agt_sortK h]
theorem addS_K (n most : Int) (f : FidD) : sortK (addS n most l f) = raddS n most (sortK l) f := by
  unfold addS raddS
  rw [addE_K h]
  split
  · rename_i he
    refine sort_add h ?_
    unfold addE at he
    split at he
    · unfold freeE at he
      split at he
      · cases he
      · split at he
        · cases he
        · rename_i _ hs
          simpa using hs
    · cases he
  · rfl
theorem setS_K (n : Int) (f : FidD) : sortK (setS n l f) = setS n (sortK l) f := by
  unfold setS
  rw [setE_K h]
  split
  · rename_i he
    refine sort_set h ?_
    unfold setE at he
    split at he
    · split at he
      · assumption
      · cases he
    · cases he
  · rfl
theorem walkS_K (a n nd most : Int) : sortK (walkS a n nd most l) = rwalkS a n nd most (sortK l) := by
  unfold walkS rwalkS
  rw [walkE_K h, agt_sortK h]
  by_cases he : walkE a n most l = 0
  case neg => rw [if_neg he, if_neg he]
  rw [if_pos he, if_pos he]
  have hr : roomE a n most l = 0 := by
    unfold walkE at he
    split at he
    · assumption
    · rename_i h1; exact absurd he h1
  have hs := roomE_is hr
  by_cases hn : n = a
  · subst hn
    rw [if_pos rfl]
    unfold setS
    rw [if_pos (by unfold setE; rw [mayB_walk, if_pos rfl, agt_sortK h, if_pos hs])]
    exact sort_set h hs
  · rw [if_neg hn]
    unfold roomE at hr
    rw [if_pos hs, if_neg (fun e => hn e.symm)] at hr
    have ha : addE n most l (walkF ((agt a l).getD zFid) nd) = 0 := by unfold addE; rw [mayB_walk, if_pos rfl]; exact hr
    have := addS_K h n most (walkF ((agt a l).getD zFid) nd)
    unfold addS at this
    rw [if_pos ha] at this
    exact this
theorem openS_K (n nd mode : Int) (rm : Bool) : sortK (openS n nd mode rm l) = ropenS n nd mode rm (sortK l) := by
  unfold openS ropenS
  rw [openE_K h, agt_sortK h]
  split
  · rename_i he
    refine sort_set h ?_
    unfold openE at he
    split at he
    · assumption
    · cases he
  · rfl
theorem toldS_K (n la tb : Int) : sortK (toldS n la tb l) = toldS n la tb (sortK l) := by
  unfold toldS
  rw [toldE_K h, agt_sortK h]
  split
  · rename_i he
    refine sort_set h ?_
    unfold toldE at he
    split at he
    · assumption
    · cases he
  · rfl
end
theorem take_none {w0 w : World} {F : HP} {B : Nat} {most n : Int} {l : List (Int × FidD)} (h : St w0 (TabP B most l * F) w) (hg : agt n l = none) :
    Calls Try.prog 33 #[.pointer (some ⟨B, 0, none⟩), .int .u32 n] w fun e w' => St w0 (TabP B most l * F) w' ∧ e = .returned (.tuple #[fdV (zF, zFid), .int .i64 100]) := by
  refine F33.calls (by simp) ?_
  unfold F33.code
  simp -dsimp -implicitDefEqProofs (disch := omega) only [go_sem]
  refine h.new fun C w1 h1 => ?_
  have h1' : St w0 (TabP B most l * (Blk C (fidB zF zFid) * F)) w1 := h1.sw2
  simp -dsimp -implicitDefEqProofs (disch := omega) only [go_sem]
  refine (get_none h1' hg).mono ?_
  rintro e w2 ⟨h2, rfl⟩
  simp -dsimp -implicitDefEqProofs (disch := omega) only [go_sem]
  refine h2.new fun X w3 h3 => ?_
  simp -dsimp -implicitDefEqProofs (disch := omega) only [go_sem]
  refine h3.stoAll (cs := fdC zF zFid) rfl rfl (fdC_cells rfl) fun w4 h4 => ?_
  obtain ⟨m, ps, hps, h5⟩ := TabP.open h4.sw2
  simp -dsimp -implicitDefEqProofs (disch := omega) only [go_sem, h5.cl B]
  refine h5.delH (b := m) Try.underlying86 lawU fun w6 h6 => ?_
  have hrow6 := h6.rowH X 14 rfl
  simp -dsimp -implicitDefEqProofs (disch := omega) only [go_sem, hrow6]
  refine h6.stoAll (b := C) (cs := fdC zF zFid) rfl rfl (fdC_cells rfl) fun w7 h7 => ?_
  have hrow7 := h7.rowH C 14 rfl
  simp -dsimp -implicitDefEqProofs (disch := omega) only [go_sem]
  refine resC_2 (a := ⟨C, 0, none⟩) (v := fdV (zF, zFid)) (by simp -dsimp -implicitDefEqProofs only [go_sem]) (run_loadVar_row fact_aggSz_43 (by rw [hrow7]; rfl)) ?_
  have h8 := TabP.rem (B := B) (m := m) (most := most) (n := n) h7 hps
  rw [adel_none hg] at h8
  simp -dsimp -implicitDefEqProofs (disch := omega) only [go_sem]
  exact h8.sub
theorem take_some {w0 w : World} {F : HP} {B : Nat} {most n : Int} {l : List (Int × FidD)} {f : FidD} (h : St w0 (TabP B most l * F) w) (hg : agt n l = some f) :
    Calls Try.prog 33 #[.pointer (some ⟨B, 0, none⟩), .int .u32 n] w fun e w' => ∃ v', Okf (v', f) ∧ St w0 (HeardP (v', f) * (TabP B most (adel n l) * F)) w' ∧ e = .returned (.tuple #[fdV (v', f), .int .i64 0]) := by
  refine F33.calls (by simp) ?_
  unfold F33.code
  simp -dsimp -implicitDefEqProofs (disch := omega) only [go_sem]
  refine h.new fun C w1 h1 => ?_
  have h1' : St w0 (TabP B most l * (Blk C (fidB zF zFid) * F)) w1 := h1.sw2
  simp -dsimp -implicitDefEqProofs (disch := omega) only [go_sem]
  refine (get_some h1' hg).mono ?_
  rintro e w2 ⟨v', hv', h2, rfl⟩
  simp -dsimp -implicitDefEqProofs (disch := omega) only [go_sem]
  refine h2.new fun X w3 h3 => ?_
  simp -dsimp -implicitDefEqProofs (disch := omega) only [go_sem]
  refine h3.stoAll (cs := fdC v' f) rfl rfl (fdC_cells hv'.1) fun w4 h4 => ?_
  have h4' : St w0 (TabP B most l * (Blk X (fidB v' f) * (HeardP (v', f) * (Blk C (fidB zF zFid) * F)))) w4 := h4.ac (by ac_rfl)
  obtain ⟨m, ps, hps, h5⟩ := TabP.open h4'
  simp -dsimp -implicitDefEqProofs (disch := omega) only [go_sem, h5.cl B]
  refine h5.delH (b := m) Try.underlying86 lawU fun w6 h6 => ?_
  have hrow6 := h6.rowH X 14 rfl
  simp -dsimp -implicitDefEqProofs (disch := omega) only [go_sem, hrow6]
  refine h6.stoAll (b := C) (cs := fdC v' f) rfl rfl (fdC_cells hv'.1) fun w7 h7 => ?_
  have hrow7 := h7.rowH C 14 rfl
  simp -dsimp -implicitDefEqProofs (disch := omega) only [go_sem]
  refine resC_2 (a := ⟨C, 0, none⟩) (v := fdV (v', f)) (by simp -dsimp -implicitDefEqProofs only [go_sem]) (run_loadVar_row fact_aggSz_43 (by rw [hrow7]; rfl)) ?_
  refine ⟨v', hv', ?_, by simp -dsimp -implicitDefEqProofs only [go_sem]⟩
  have h8 := TabP.rem (B := B) (m := m) (most := most) (n := n) h7 hps
  exact h8.sub
abbrev HOp := Value × OpD
def opC (x : HOp) : List Value := .int .i64 x.2.kind :: .int .u32 x.2.n :: .int .u32 x.2.m :: (fdC x.1 x.2.f ++ [.int .u64 x.2.nd, .int .u64 x.2.last, .int .u8 x.2.mode, .bool x.2.yes])
theorem opC_length (x : HOp) : (opC x).length = 21 := rfl
abbrev opV (x : HOp) : Value := .agg (opC x).toArray
abbrev opB (x : HOp) : Obj := .cells (opC x).toArray 45 (0, 0)
def MayP (v : Value) (l : List Int) : HP := RowO 35 1 v l.length (l.map encU)
theorem MayP.nil {w0 w : World} {F : HP} (h : St w0 F w) : St w0 (MayP zF [] * F) w := h.nilR 35 1
section
attribute [local go_sem] F13.t23_eq
end
section
attribute [local go_sem] F13.t23_eq
end
section
attribute [local go_sem] F13.t23_eq
end
section
attribute [local go_sem] F13.t23_eq
end
section
attribute [local go_sem] F13.t23_eq
end
section
attribute [local go_sem] F13.t23_eq
end
section
attribute [local go_sem] F13.t23_eq
end
section
attribute [local go_sem] F13.t23_eq
end
section
attribute [local go_sem] F13.t23_eq
end
section
attribute [local go_sem] F13.t23_eq
end
abbrev pairB (tB rB : Nat) : Obj := .cells #[.pointer (some ⟨tB, 0, none⟩), .pointer (some ⟨rB, 0, none⟩)] 72 (0, 0)
abbrev PairP (P tB rB : Nat) (most : Int) (l : TL) (F : HP) : HP := Blk P (pairB tB rB) * (TabP tB most l * (RefT rB most (sortK l) * F))
def putS (o : OpD) (most : Int) (l : TL) : TL := if o.kind = 2 then addS o.n most l o.f else setS o.n l o.f
theorem op_facts {w0 w : World} {X : Nat} {v : Value} {o : OpD} {R : HP} (h : St w0 (Blk X (opB (v, o)) * R) w) : w.cell? ⟨X, 0, none⟩ = some (.int .i64 o.kind) ∧ w.cell? ⟨X, 1, none⟩ = some (.int .u32 o.n) ∧ w.cell? ⟨X, 2, none⟩ = some (.int .u32 o.m) ∧ rowV w ⟨X, 3, none⟩ 14 = some (fdV (v, o.f)) ∧
    w.cell? ⟨X, 17, none⟩ = some (.int .u64 o.nd) ∧ w.cell? ⟨X, 18, none⟩ = some (.int .u64 o.last) ∧ w.cell? ⟨X, 19, none⟩ = some (.int .u8 o.mode) ∧ w.cell? ⟨X, 20, none⟩ = some (.bool o.yes) := by
  have c := h.cl X
  exact ⟨c 0, c 1, c 2, h.rowAtH X 3 14 (by simp [opC, fdC]), c 17, c 18, c 19, c 20⟩
section
attribute [local go_sem] F44.t8_eq
theorem put_any {w0 w : World} {F : HP} {P tB rB : Nat} {most : Int} {l : TL} {v : Value} {o : OpD} (hT : Tab most l) (hm : most ≤ 256) (h : St w0 (PairP P tB rB most l F) w) (hx : Okf (v, o.f)) (hr : Ent F (HeardR (v, o.f))) :
    Calls Try.prog 44 #[.pointer (some ⟨P, 0, none⟩), opV (v, o)] w fun e w' => St w0 (PairP P tB rB most (putS o most l) F) w' ∧ e = .returned (.bool true) := by
  have hl : l.length < 1048576 := by have := hT.len; omega
  have hl' : (sortK l).length < 1048576 := by rw [sortK_length]; exact hl
  refine F44.calls (by simp) ?_
  unfold F44.code
  simp -dsimp -implicitDefEqProofs (disch := omega) only [go_sem]
  refine h.new fun X w1 h1 => ?_
  have h1 : St w0 (Blk X (opB (v, o)) * PairP P tB rB most l F) w1 := h1
  have r1 := h1.rowAtH X 3 14 (by simp [opC, fdC])
  simp only [opC, fdC, List.cons_append, List.nil_append, List.drop_succ_cons, List.drop_zero, List.take_succ_cons, List.take_zero] at r1
  simp -dsimp -implicitDefEqProofs (disch := omega) only [go_sem, r1]
  have hr1 : Ent (Blk X (opB (v, o)) * PairP P tB rB most l F) (HeardR (v, o.f)) := (Ent.right _ _).trans ((Ent.right _ _).trans ((Ent.right _ _).trans ((Ent.right _ _).trans hr)))
  refine (lent_any (p := (v, o.f)) h1 hx.1 hr1 hx.2).mono ?_
  rintro e w2 ⟨g, c, hc, h2, rfl⟩
  simp -dsimp -implicitDefEqProofs (disch := omega) only [go_sem]
  refine h2.new fun D w3 h3 => ?_
  simp -dsimp -implicitDefEqProofs (disch := omega) only [go_sem]
  refine h3.stoAll (b := D) (cs := fdC (Value.slice (some ⟨g, 0, none⟩) o.f.heard.length c) o.f) rfl rfl (fdC_cells rfl) fun w4 h4 => ?_
  have h4 : St w0 (Blk D (fidB (Value.slice (some ⟨g, 0, none⟩) o.f.heard.length c) o.f) * (LentP g c o.f.heard m90 * (Blk X (opB (v, o)) * (Blk P (pairB tB rB) * (TabP tB most l * (RefT rB most (sortK l) * F)))))) w4 := h4
  have h5 := h4.drew
  obtain ⟨x0, x1, _, x3, _⟩ := op_facts (h4.ac (show _ = Blk X (opB (v, o)) * (Blk D (fidB (Value.slice (some ⟨g, 0, none⟩) o.f.heard.length c) o.f) * (LentP g c o.f.heard m90 * (Blk P (pairB tB rB) * (TabP tB most l * (RefT rB most (sortK l) * F))))) by ac_rfl))
  obtain ⟨y0, y1, _, y3, _⟩ := op_facts (h5.ac (show _ = Blk X (opB (v, o)) * (Blk D (fidB (Value.slice (some ⟨g, 0, none⟩) o.f.heard.length c) o.f) * (LentP g c o.f.heard m90 * (Blk P (pairB tB rB) * (TabP tB most l * (RefT rB most (sortK l) * F))))) by ac_rfl))
  have hD5 : rowV w4.drew ⟨D, 0, none⟩ 14 = some (fdV (Value.slice (some ⟨g, 0, none⟩) o.f.heard.length c, o.f)) := h5.rowH D 14 rfl
  have okf : Okf (Value.slice (some ⟨g, 0, none⟩) o.f.heard.length c, o.f) := ⟨rfl, hx.2⟩
  have hR5 : Ent (Blk D (fidB (Value.slice (some ⟨g, 0, none⟩) o.f.heard.length c) o.f) * (LentP g c o.f.heard m90 * (Blk X (opB (v, o)) * (Blk P (pairB tB rB) * (RefT rB most (sortK l) * F))))) (HeardR (Value.slice (some ⟨g, 0, none⟩) o.f.heard.length c, o.f)) := (Ent.right _ _).trans ((Ent.left _ _).trans LentP.reads)
  have h6 : St w0 (TabP tB most l * (Blk D (fidB (Value.slice (some ⟨g, 0, none⟩) o.f.heard.length c) o.f) * (LentP g c o.f.heard m90 * (Blk X (opB (v, o)) * (Blk P (pairB tB rB) * (RefT rB most (sortK l) * F)))))) w4.drew := h5.ac (by ac_rfl)
  by_cases k2 : o.kind = 2
  · rw [k2] at x0 y0
    simp -dsimp -implicitDefEqProofs (disch := omega) only [go_sem, x0, y0, h4.cl P, h5.cl P, x1, y1, hD5]
    refine (add_any (p := (Value.slice (some ⟨g, 0, none⟩) o.f.heard.length c, o.f)) h6 okf hR5).mono ?_
    rintro e w5 ⟨h7, rfl⟩
    have hD7 : rowV w5 ⟨D, 0, none⟩ 14 = some (fdV (Value.slice (some ⟨g, 0, none⟩) o.f.heard.length c, o.f)) := h7.rowH D 14 rfl
    obtain ⟨x0, x1, _, x3, _⟩ := op_facts (h7.ac (show _ = Blk X (opB (v, o)) * (Blk D (fidB (Value.slice (some ⟨g, 0, none⟩) o.f.heard.length c) o.f) * (LentP g c o.f.heard m90 * (Blk P (pairB tB rB) * (TabP tB most (addS o.n most l o.f) * (RefT rB most (sortK l) * F))))) by ac_rfl))
    have h8 := h7.drew
    obtain ⟨y0, y1, _, y3, _⟩ := op_facts (h8.ac (show _ = Blk X (opB (v, o)) * (Blk D (fidB (Value.slice (some ⟨g, 0, none⟩) o.f.heard.length c) o.f) * (LentP g c o.f.heard m90 * (Blk P (pairB tB rB) * (TabP tB most (addS o.n most l o.f) * (RefT rB most (sortK l) * F))))) by ac_rfl))
    simp -dsimp -implicitDefEqProofs (disch := omega) only [go_sem, h7.cl P, h8.cl P, x1, y1, x3, y3, hD7]
    refine (radd_any (p := (v, o.f)) (h8.ac (show _ = RefT rB most (sortK l) * (Blk D (fidB (Value.slice (some ⟨g, 0, none⟩) o.f.heard.length c) o.f) * (LentP g c o.f.heard m90 * (Blk X (opB (v, o)) * (Blk P (pairB tB rB) * (TabP tB most (addS o.n most l o.f) * F))))) by ac_rfl)) hl' hx ((Ent.right _ _).trans ((Ent.right _ _).trans ((Ent.right _ _).trans ((Ent.right _ _).trans ((Ent.right _ _).trans hr)))))).mono ?_
    rintro e w6 ⟨h9, rfl⟩
    obtain ⟨z0, z1, _, z3, _⟩ := op_facts (h9.ac (show _ = Blk X (opB (v, o)) * (Blk D (fidB (Value.slice (some ⟨g, 0, none⟩) o.f.heard.length c) o.f) * (LentP g c o.f.heard m90 * (Blk P (pairB tB rB) * (RefT rB most (raddS o.n most (sortK l) o.f) * (TabP tB most (addS o.n most l o.f) * F))))) by ac_rfl))
    have dD9 := h9.cl D
    simp only [fdC] at dD9
    simp -dsimp -implicitDefEqProofs (disch := omega) only [go_sem, h9.cl P, z1, z3, dD9]
    refine (left_any (p := (v, o.f)) (g := g) (c := c) hc (h9.ac (show _ = LentP g c o.f.heard m90 * (Blk D (fidB (Value.slice (some ⟨g, 0, none⟩) o.f.heard.length c) o.f) * (Blk X (opB (v, o)) * (Blk P (pairB tB rB) * (RefT rB most (raddS o.n most (sortK l) o.f) * (TabP tB most (addS o.n most l o.f) * F))))) by ac_rfl)) hx.1 ((Ent.right _ _).trans ((Ent.right _ _).trans ((Ent.right _ _).trans ((Ent.right _ _).trans ((Ent.right _ _).trans hr))))) hx.2).mono ?_
    rintro e w7 ⟨h10, rfl⟩
    simp -dsimp -implicitDefEqProofs (disch := omega) only [go_sem, addE_K hT.nd]
    have hs : putS o most l = addS o.n most l o.f := by unfold putS; rw [if_pos k2]
    rw [← addS_K hT.nd] at h10
    rw [hs]
    exact h10.right.right.ac (by unfold PairP; ac_rfl)
  · simp -dsimp -implicitDefEqProofs (disch := omega) only [go_sem, x0, y0, k2, h4.cl P, h5.cl P, x1, y1, hD5]
    refine (set_any (p := (Value.slice (some ⟨g, 0, none⟩) o.f.heard.length c, o.f)) h6 okf hR5).mono ?_
    rintro e w5 ⟨h7, rfl⟩
    have hD7 : rowV w5 ⟨D, 0, none⟩ 14 = some (fdV (Value.slice (some ⟨g, 0, none⟩) o.f.heard.length c, o.f)) := h7.rowH D 14 rfl
    obtain ⟨x0, x1, _, x3, _⟩ := op_facts (h7.ac (show _ = Blk X (opB (v, o)) * (Blk D (fidB (Value.slice (some ⟨g, 0, none⟩) o.f.heard.length c) o.f) * (LentP g c o.f.heard m90 * (Blk P (pairB tB rB) * (TabP tB most (setS o.n l o.f) * (RefT rB most (sortK l) * F))))) by ac_rfl))
    have h8 := h7.drew
    obtain ⟨y0, y1, _, y3, _⟩ := op_facts (h8.ac (show _ = Blk X (opB (v, o)) * (Blk D (fidB (Value.slice (some ⟨g, 0, none⟩) o.f.heard.length c) o.f) * (LentP g c o.f.heard m90 * (Blk P (pairB tB rB) * (TabP tB most (setS o.n l o.f) * (RefT rB most (sortK l) * F))))) by ac_rfl))
    simp -dsimp -implicitDefEqProofs (disch := omega) only [go_sem, h7.cl P, h8.cl P, x1, y1, x3, y3, hD7]
    refine (rset_any (p := (v, o.f)) (h8.ac (show _ = RefT rB most (sortK l) * (Blk D (fidB (Value.slice (some ⟨g, 0, none⟩) o.f.heard.length c) o.f) * (LentP g c o.f.heard m90 * (Blk X (opB (v, o)) * (Blk P (pairB tB rB) * (TabP tB most (setS o.n l o.f) * F))))) by ac_rfl)) hx ((Ent.right _ _).trans ((Ent.right _ _).trans ((Ent.right _ _).trans ((Ent.right _ _).trans ((Ent.right _ _).trans hr)))))).mono ?_
    rintro e w6 ⟨h9, rfl⟩
    obtain ⟨z0, z1, _, z3, _⟩ := op_facts (h9.ac (show _ = Blk X (opB (v, o)) * (Blk D (fidB (Value.slice (some ⟨g, 0, none⟩) o.f.heard.length c) o.f) * (LentP g c o.f.heard m90 * (Blk P (pairB tB rB) * (RefT rB most (setS o.n (sortK l) o.f) * (TabP tB most (setS o.n l o.f) * F))))) by ac_rfl))
    have dD9 := h9.cl D
    simp only [fdC] at dD9
    simp -dsimp -implicitDefEqProofs (disch := omega) only [go_sem, h9.cl P, z1, z3, dD9]
    refine (left_any (p := (v, o.f)) (g := g) (c := c) hc (h9.ac (show _ = LentP g c o.f.heard m90 * (Blk D (fidB (Value.slice (some ⟨g, 0, none⟩) o.f.heard.length c) o.f) * (Blk X (opB (v, o)) * (Blk P (pairB tB rB) * (RefT rB most (setS o.n (sortK l) o.f) * (TabP tB most (setS o.n l o.f) * F))))) by ac_rfl)) hx.1 ((Ent.right _ _).trans ((Ent.right _ _).trans ((Ent.right _ _).trans ((Ent.right _ _).trans ((Ent.right _ _).trans hr))))) hx.2).mono ?_
    rintro e w7 ⟨h10, rfl⟩
    simp -dsimp -implicitDefEqProofs (disch := omega) only [go_sem, setE_K hT.nd]
    have hs : putS o most l = setS o.n l o.f := by unfold putS; rw [if_neg k2]
    rw [← setS_K hT.nd] at h10
    rw [hs]
    exact h10.right.right.ac (by unfold PairP; ac_rfl)
end
abbrev XE := Value × (Value × List UInt8)
abbrev LE := Value × FPs
def heap2 (x : XE) : HP := RowO 5 1 x.1 x.2.2.length (byR x.2.2) * RowO 5 1 x.2.1 x.2.2.length (byR x.2.2)
def heapL (y : LE) : HP := RowO 48 15 y.1 y.2.length (y.2.flatMap atC)
structure BookOk (N : Nat) (xs : List XE) (ls : List LE) : Prop where
  few : xs.length ≤ N
  fewL : ls.length ≤ N
  cells : ∀ x ∈ xs, isCell x.1 = true ∧ isCell x.2.1 = true ∧ x.2.2.length < 1099511627776 + N
  cellsL : ∀ y ∈ ls, isCell y.1 = true ∧ y.2.length ≤ 256 + N ∧ ∀ q ∈ y.2, isCell q.2.1 = true
theorem BookOk.up {N M : Nat} {xs : List XE} {ls : List LE} (ok : BookOk N xs ls) (h : N ≤ M) : BookOk M xs ls :=
  ⟨by have := ok.few; omega, by have := ok.fewL; omega, fun x hx => by have := ok.cells x hx; exact ⟨this.1, this.2.1, by omega⟩, fun y hy => by have := ok.cellsL y hy; exact ⟨this.1, by omega, this.2.2⟩⟩
abbrev bookB (vb vc vl vn : Value) : Obj := .cells #[vb, vc, vl, vn] 69 (0, 0)
abbrev BookU (K : Nat) (vb vc vl vn : Value) (xs : List XE) (ls : List LE) (ns : List Int) (F : HP) : HP :=
  Blk K (bookB vb vc vl vn) * (RowO 39 1 vb xs.length (xs.map (·.1)) * (RowO 39 1 vc xs.length (xs.map (·.2.1)) * (RowO 28 1 vl ls.length (ls.map (·.1)) * (RowO 3 1 vn ns.length (ns.map fun z => .int .i64 z) * (stars heap2 xs * (stars heapL ls * F))))))
def BookP (K N : Nat) : HP := HP.ex fun x : (Value × Value × Value × Value) × List XE × List LE × List Int => HP.fact (BookOk N x.2.1 x.2.2.1 ∧ x.2.2.2.length ≤ N)
  (Blk K (bookB x.1.1 x.1.2.1 x.1.2.2.1 x.1.2.2.2) * (RowO 39 1 x.1.1 x.2.1.length (x.2.1.map (·.1)) * (RowO 39 1 x.1.2.1 x.2.1.length (x.2.1.map (·.2.1)) * (RowO 28 1 x.1.2.2.1 x.2.2.1.length (x.2.2.1.map (·.1)) * (RowO 3 1 x.1.2.2.2 x.2.2.2.length (x.2.2.2.map fun z => .int .i64 z) * (stars heap2 x.2.1 * stars heapL x.2.2.1))))))
theorem BookP.open {w0 w : World} {K N : Nat} {F : HP} (h : St w0 (BookP K N * F) w) : ∃ vb vc vl vn xs ls ns, BookOk N xs ls ∧ ns.length ≤ N ∧ St w0 (BookU K vb vc vl vn xs ls ns F) w := by
  obtain ⟨x, h⟩ := h.exF
  obtain ⟨⟨ok, hn⟩, h⟩ := h.factF
  exact ⟨x.1.1, x.1.2.1, x.1.2.2.1, x.1.2.2.2, x.2.1, x.2.2.1, x.2.2.2, ok, hn, h.ac (by unfold BookU; ac_rfl)⟩
theorem BookP.mk {w0 w : World} {K N : Nat} {vb vc vl vn : Value} {xs : List XE} {ls : List LE} {ns : List Int} {F : HP} (ok : BookOk N xs ls) (hn : ns.length ≤ N) (h : St w0 (BookU K vb vc vl vn xs ls ns F) w) : St w0 (BookP K N * F) w := by
  have h1 : St w0 ((Blk K (bookB vb vc vl vn) * (RowO 39 1 vb xs.length (xs.map (·.1)) * (RowO 39 1 vc xs.length (xs.map (·.2.1)) * (RowO 28 1 vl ls.length (ls.map (·.1)) * (RowO 3 1 vn ns.length (ns.map fun z => .int .i64 z) * (stars heap2 xs * stars heapL ls)))))) * F) w := h.ac (by unfold BookU; ac_rfl)
  refine h1.ent (Ent.sep ((Ent.fact (p := BookOk N xs ls ∧ ns.length ≤ N) ⟨ok, hn⟩ _).trans (Ent.ex (fun x : (Value × Value × Value × Value) × List XE × List LE × List Int => HP.fact (BookOk N x.2.1 x.2.2.1 ∧ x.2.2.2.length ≤ N)
    (Blk K (bookB x.1.1 x.1.2.1 x.1.2.2.1 x.1.2.2.2) * (RowO 39 1 x.1.1 x.2.1.length (x.2.1.map (·.1)) * (RowO 39 1 x.1.2.1 x.2.1.length (x.2.1.map (·.2.1)) * (RowO 28 1 x.1.2.2.1 x.2.2.1.length (x.2.2.1.map (·.1)) * (RowO 3 1 x.1.2.2.2 x.2.2.2.length (x.2.2.2.map fun z => .int .i64 z) * (stars heap2 x.2.1 * stars heapL x.2.2.1))))))) ((vb, vc, vl, vn), xs, ls, ns))) (Ent.rfl' _))
theorem BookP.up {w0 w : World} {K N M : Nat} {F : HP} (hm : N ≤ M) (h : St w0 (BookP K N * F) w) : St w0 (BookP K M * F) w := by
  obtain ⟨vb, vc, vl, vn, xs, ls, ns, ok, hn, h⟩ := BookP.open h
  exact BookP.mk (ok.up hm) (by omega) h
theorem stars_snoc {κ α : Type} {w0 w : World} {A : κ × α → HP} {l : List (κ × α)} {x : κ × α} {F : HP} (h : St w0 (A x * (stars A l * F)) w) : St w0 (stars A (l ++ [x]) * F) w := by
  refine (stars_append A l [x]).2 ?_
  have h1 : St w0 (EmpH * (A x * (stars A l * F))) w := EmpH.of h
  exact h1.ac (by show _ = stars A l * ((A x * EmpH) * F); ac_rfl)
theorem keeps_any {w0 w : World} {F : HP} {K N : Nat} {p q : HF} (hN : N ≤ 1000000000000) (hp : Okf p) (hq : isCell q.1 = true) (hr : Ent F (HeardR q)) (h : St w0 (HeardP p * (BookP K N * F)) w) :
    Calls Try.prog 43 #[.pointer (some ⟨K, 0, none⟩), fdV p, fdV q] w fun e w' => St w0 (BookP K (N + 1) * F) w' ∧ e = .returned (.bool (sameB p.2 q.2)) := by
  obtain ⟨v, f⟩ := p
  obtain ⟨u, g⟩ := q
  have hlen : f.heard.length < 1099511627776 := hp.2
  obtain ⟨vb, vc, vl, vn, xs, ls, ns, ok, hn, h⟩ := BookP.open h.sw2
  have hfew := ok.few
  have h : St w0 (RowO 5 1 v f.heard.length (byR f.heard) * BookU K vb vc vl vn xs ls ns F) w := h.ac (by show _ = HeardP (v, f) * BookU K vb vc vl vn xs ls ns F; unfold BookU; ac_rfl)
  obtain ⟨av, cv, rfl, _⟩ := h.rowForm v
  obtain ⟨ab, cb, rfl, _⟩ := h.rowForm vb
  obtain ⟨ac, cc, rfl, _⟩ := h.rowForm vc
  refine F43.calls (by simp) ?_
  unfold F43.code
  unfold fdV fdC
  simp -dsimp -implicitDefEqProofs (disch := omega) only [go_sem]
  refine h.new fun X w1 h1 => ?_
  simp -dsimp -implicitDefEqProofs (disch := omega) only [go_sem]
  refine h1.new fun Y w2 h2 => ?_
  have h2 : St w0 (Blk Y (fidB u g) * (Blk X (fidB (.slice av f.heard.length cv) f) * (RowO 5 1 (.slice av f.heard.length cv) f.heard.length (byR f.heard) * BookU K (.slice ab xs.length cb) (.slice ac xs.length cc) vl vn xs ls ns F))) w2 := h2
  have x2 : w2.cell? ⟨X, 13, none⟩ = some (.slice av f.heard.length cv) := h2.cl X 13
  have y2 : w2.drew.cell? ⟨X, 13, none⟩ = some (.slice av f.heard.length cv) := x2
  simp -dsimp -implicitDefEqProofs (disch := omega) only [go_sem, x2, y2, h2.cl K, h2.drew.cl K]
  have hD := h2.drew
  refine hD.lit (n := 1) (cells := [.slice av f.heard.length cv]) fact_rowTy_65 rfl (by decide) (by decide) fun v3 w3 h3 => ?_
  have x3 : w3.cell? ⟨X, 13, none⟩ = some (.slice av f.heard.length cv) := h3.cl X 13
  simp -dsimp -implicitDefEqProofs (disch := omega) only [go_sem, x3, h3.cl K]
  refine h3.appR (v := .slice ab xs.length cb) (x := v3) fact_rowTy_65 Try.underlying65 (by intro z hz; simp only [List.mem_singleton] at hz; subst hz; rfl) (fun hh => by cases hh) (by simp only [maxLen]; omega) (by omega) fun v4 w4 h4 => ?_
  obtain ⟨a4, c4, rfl, _⟩ := h4.rowForm v4
  have x4 : w4.cell? ⟨X, 13, none⟩ = some (.slice av f.heard.length cv) := h4.cl X 13
  simp -dsimp -implicitDefEqProofs (disch := omega) only [go_sem, x4, h4.cl K]
  refine h4.sto (b := K) (off := 0) (by simp) rfl fun w5 h5 => ?_
  simp only [List.setIfInBounds_toArray, List.set_cons_zero] at h5
  have x5 : w5.cell? ⟨X, 13, none⟩ = some (.slice av f.heard.length cv) := h5.cl X 13
  have y5 : w5.drew.cell? ⟨X, 13, none⟩ = some (.slice av f.heard.length cv) := x5
  simp -dsimp -implicitDefEqProofs (disch := omega) only [go_sem, x5, y5, h5.cl K, h5.drew.cl K]
  refine (h5.drew.nilR 5 1).app (v := .slice none 0 0) (m := f.heard.length) (news := byR f.heard) fact_rowTy_39 (Gives.ent (B := Reads 1 (.slice av f.heard.length cv) f.heard.length (byR f.heard))) Try.underlying39 (byR_cells _) (fun hh => by simpa using hh) (by simp only [maxLen]; omega) (by omega) fun v6 w6 h6 => ?_
  rw [Nat.zero_add, List.nil_append] at h6
  obtain ⟨a6, c6, rfl, _⟩ := h6.rowForm v6
  have h6 : St w0 (RowO 5 1 (.slice a6 f.heard.length c6) f.heard.length (byR f.heard) * (RowO 39 1 v3 1 [.slice av f.heard.length cv] * (Blk Y (fidB u g) * (Blk X (fidB (.slice av f.heard.length cv) f) * (RowO 5 1 (.slice av f.heard.length cv) f.heard.length (byR f.heard) * (Blk K (bookB (.slice a4 (xs.length + 1) c4) (.slice ac xs.length cc) vl vn) * (RowO 39 1 (.slice a4 (xs.length + 1) c4) (xs.length + 1) (xs.map (·.1) ++ [.slice av f.heard.length cv]) * (RowO 39 1 (.slice ac xs.length cc) xs.length (xs.map (·.2.1)) * (RowO 28 1 vl ls.length (ls.map (·.1)) * (RowO 3 1 vn ns.length (ns.map fun z => .int .i64 z) * (stars heap2 xs * (stars heapL ls * F)))))))))))) w6 := h6
  have x6 : w6.cell? ⟨X, 13, none⟩ = some (.slice av f.heard.length cv) := h6.cl X 13
  simp -dsimp -implicitDefEqProofs (disch := omega) only [go_sem, x6, h6.cl K]
  refine h6.lit (n := 1) (cells := [.slice a6 f.heard.length c6]) fact_rowTy_65 rfl (by decide) (by decide) fun v7 w7 h7 => ?_
  have x7 : w7.cell? ⟨X, 13, none⟩ = some (.slice av f.heard.length cv) := h7.cl X 13
  simp -dsimp -implicitDefEqProofs (disch := omega) only [go_sem, x7, h7.cl K]
  refine h7.appR (v := .slice ac xs.length cc) (x := v7) fact_rowTy_65 Try.underlying65 (by intro z hz; simp only [List.mem_singleton] at hz; subst hz; rfl) (fun hh => by cases hh) (by simp only [maxLen]; omega) (by omega) fun v8 w8 h8 => ?_
  obtain ⟨a8, c8, rfl, _⟩ := h8.rowForm v8
  have x8 : w8.cell? ⟨X, 13, none⟩ = some (.slice av f.heard.length cv) := h8.cl X 13
  simp -dsimp -implicitDefEqProofs (disch := omega) only [go_sem, x8, h8.cl K]
  refine h8.sto (b := K) (off := 1) (by simp) rfl fun w9 h9 => ?_
  simp only [List.setIfInBounds_toArray, List.set_cons_succ, List.set_cons_zero] at h9
  have cX := h9.cl X
  have cY := h9.cl Y
  simp only [fdC] at cX cY
  simp -dsimp -implicitDefEqProofs (disch := omega) only [go_sem, cX, cY]
  obtain ⟨G, hG⟩ : ∃ G, G = Blk Y (fidB u g) * (Blk X (fidB (.slice av f.heard.length cv) f) * (RowO 39 1 v3 1 [.slice av f.heard.length cv] * (RowO 39 1 v7 1 [.slice a6 f.heard.length c6] * F))) := ⟨_, rfl⟩
  have h10 : St w0 (RowO 5 1 (.slice av f.heard.length cv) f.heard.length (byR f.heard) * (RowO 5 1 (.slice a6 f.heard.length c6) f.heard.length (byR f.heard) * (Blk K (bookB (.slice a4 (xs.length + 1) c4) (.slice a8 (xs.length + 1) c8) vl vn) * (RowO 39 1 (.slice a4 (xs.length + 1) c4) (xs.length + 1) (xs.map (·.1) ++ [.slice av f.heard.length cv]) * (RowO 39 1 (.slice a8 (xs.length + 1) c8) (xs.length + 1) (xs.map (·.2.1) ++ [.slice a6 f.heard.length c6]) * (RowO 28 1 vl ls.length (ls.map (·.1)) * (RowO 3 1 vn ns.length (ns.map fun z => .int .i64 z) * (stars heap2 xs * (stars heapL ls * G))))))))) w9 := h9.ac (by rw [hG]; unfold bookB; ac_rfl)
  have hf : Ent G F := by rw [hG]; exact (Ent.right _ _).trans ((Ent.right _ _).trans ((Ent.right _ _).trans (Ent.right _ _)))
  refine (same_any (p := (.slice av f.heard.length cv, f)) (q := (u, g)) h10 rfl hq ((Ent.left _ _).trans (RowO.reads _ _ _ _ _)) ((Ent.right _ _).trans ((Ent.right _ _).trans ((Ent.right _ _).trans ((Ent.right _ _).trans ((Ent.right _ _).trans ((Ent.right _ _).trans ((Ent.right _ _).trans ((Ent.right _ _).trans ((Ent.right _ _).trans (hf.trans hr))))))))))).mono ?_
  rintro e w11 ⟨h11, rfl⟩
  simp -dsimp -implicitDefEqProofs (disch := omega) only [go_sem]
  have h12 : St w0 (heap2 (.slice av f.heard.length cv, (.slice a6 f.heard.length c6, f.heard)) * (stars heap2 xs * (Blk K (bookB (.slice a4 (xs.length + 1) c4) (.slice a8 (xs.length + 1) c8) vl vn) * (RowO 39 1 (.slice a4 (xs.length + 1) c4) (xs.length + 1) (xs.map (·.1) ++ [.slice av f.heard.length cv]) * (RowO 39 1 (.slice a8 (xs.length + 1) c8) (xs.length + 1) (xs.map (·.2.1) ++ [.slice a6 f.heard.length c6]) * (RowO 28 1 vl ls.length (ls.map (·.1)) * (RowO 3 1 vn ns.length (ns.map fun z => .int .i64 z) * (stars heapL ls * G)))))))) w11 := h11.ac (by show _ = (RowO 5 1 (.slice av f.heard.length cv) f.heard.length (byR f.heard) * RowO 5 1 (.slice a6 f.heard.length c6) f.heard.length (byR f.heard)) * _; ac_rfl)
  have h13 := stars_snoc h12
  have hxl : (xs ++ [(.slice av f.heard.length cv, (.slice a6 f.heard.length c6, f.heard))] : List XE).length = xs.length + 1 := by simp
  refine BookP.mk (vb := .slice a4 (xs.length + 1) c4) (vc := .slice a8 (xs.length + 1) c8) (vl := vl) (vn := vn) (xs := xs ++ [(.slice av f.heard.length cv, (.slice a6 f.heard.length c6, f.heard))]) (ls := ls) (ns := ns) ⟨by rw [hxl]; omega, by have := ok.fewL; omega, fun x hx => ?_, (ok.up (Nat.le_succ N)).cellsL⟩ (by omega) ?_
  · rcases List.mem_append.1 hx with hx | hx
    · exact (ok.up (Nat.le_succ N)).cells x hx
    · simp only [List.mem_singleton] at hx; subst hx; exact ⟨rfl, rfl, by show f.heard.length < _; omega⟩
  · unfold BookU
    rw [hxl, List.map_append, List.map_append]
    exact (h13.ent (Ent.sep (Ent.rfl' _) (Ent.sep (Ent.rfl' _) (Ent.sep (Ent.rfl' _) (Ent.sep (Ent.rfl' _) (Ent.sep (Ent.rfl' _) (Ent.sep (Ent.rfl' _) (Ent.sep (Ent.rfl' _) hf)))))))).ac (by simp only [List.map_cons, List.map_nil]; ac_rfl)
theorem at_facts {w0 w : World} {A : HP} {a : Option Addr} {c : Nat} {qs : FPs} (h : St w0 A w) (hr : Ent A (Reads 15 (.slice a qs.length c) qs.length (qs.flatMap atC))) {i : Nat} (hi : i < qs.length) :
    ∃ b o, a = some ⟨b, o, none⟩ ∧ w.cell? ⟨b, o + i * 15, none⟩ = some (.int .u32 qs[i].1) ∧ rowV w ⟨b, o + i * 15 + 1, none⟩ 14 = some (fdV qs[i].2) := by
  obtain ⟨_, a', c', hv, _, hcl⟩ := St.rowsAt (k := 15) atC_length (by decide) (h.ent hr)
  simp only [Value.slice.injEq, true_and] at hv
  obtain ⟨rfl, rfl⟩ := hv
  obtain ⟨b, o, hb, _, hc⟩ := hcl i hi
  exact ⟨b, o, hb, hc 0 (by decide), at_row' hc⟩
theorem at_facts' {w0 w : World} {A : HP} {b o c : Nat} {qs : FPs} (h : St w0 A w) (hr : Ent A (Reads 15 (.slice (some ⟨b, o, none⟩) qs.length c) qs.length (qs.flatMap atC))) {i : Nat} (hi : i < qs.length) :
    w.cell? ⟨b, o + i * 15, none⟩ = some (.int .u32 qs[i].1) ∧ rowV w ⟨b, o + i * 15 + 1, none⟩ 14 = some (fdV qs[i].2) := by
  obtain ⟨b', o', hb, h1, h2⟩ := at_facts h hr hi
  simp only [Option.some.injEq, Addr.mk.injEq] at hb
  obtain ⟨rfl, rfl, _⟩ := hb
  exact ⟨h1, h2⟩
section
attribute [local go_sem] F47.t5_eq F47.t6_eq F47.t9_eq F47.t3_eq
theorem blist_any {w0 w : World} {F : HP} {K N : Nat} {v u : Value} {qs qw : FPs} (hN : N ≤ 999999999000) (hl : qs.length ≤ 256) (he : amap (·.2) qs = amap (·.2) qw) (hw : Ent F (Reads 15 u qw.length (qw.flatMap atC))) (hq : ∀ x ∈ qw, isCell x.2.1 = true ∧ Ent F (HeardR x.2))
    (h : St w0 (AtP v qs * (BookP K N * F)) w) :
    Calls Try.prog 47 #[.pointer (some ⟨K, 0, none⟩), v, u] w fun e w' => St w0 (BookP K (N + 257) * F) w' ∧ e = .returned (.bool true) := by
  have hlen : qw.length = qs.length := by have := congrArg List.length he; simpa [amap] using this.symm
  have hei : ∀ i (hi : i < qs.length), qw[i].1 = qs[i].1 ∧ (qw[i]'(by omega)).2.2 = qs[i].2.2 := by
    intro i hi
    have h1 : (amap (fun p : HF => p.2) qs)[i]? = (amap (fun p : HF => p.2) qw)[i]? := by rw [he]
    simp only [amap, List.getElem?_map, List.getElem?_eq_getElem hi, List.getElem?_eq_getElem (show i < qw.length by omega), Option.map_some, Option.some.injEq, Prod.mk.injEq] at h1
    exact ⟨h1.1.symm, h1.2.symm⟩
  have h : St w0 (RowO 48 15 v qs.length (qs.flatMap atC) * (hearts qs * (BookP K N * F))) w := h.ac (by unfold AtP; ac_rfl)
  have hcells : ∀ x ∈ qs, Okf x.2 := hearts_ok (h.right)
  obtain ⟨a, c, rfl, _⟩ := h.rowForm v
  have hF : Ent (RowO 48 15 (.slice a qs.length c) qs.length (qs.flatMap atC) * (hearts qs * (BookP K N * F))) F := (Ent.right _ _).trans ((Ent.right _ _).trans (Ent.right _ _))
  obtain ⟨_, au, cu, rfl, _, _⟩ := St.rowsAt (k := 15) (l := qw) atC_length (by decide) (h.ent (hF.trans hw))
  have hh : (qw.length : Int) = qs.length := by omega
  refine F47.calls (by simp) ?_
  unfold F47.code
  simp -dsimp -implicitDefEqProofs (disch := omega) only [go_sem, hh]
  refine loop_intro (fun e w' => e.ds = [] ∧ e.ρ 0 = .pointer (some ⟨K, 0, none⟩) ∧ e.ρ 1 = .slice a qs.length c ∧ e.ρ 2 = .slice au qw.length cu ∧ ∃ i : Nat, i ≤ qs.length ∧ e.ρ 7 = .int .i64 i ∧
      St w0 (RowO 48 15 (.slice a qs.length c) qs.length (qs.flatMap atC) * (hearts (qs.drop i) * (BookP K (N + i) * F))) w')
    (fun e _ => match e.ρ 7 with | .int _ n => (qs.length - n).toNat | _ => 0) ?_ ?_
  · exact ⟨by simp -dsimp -implicitDefEqProofs only [go_sem], by simp -dsimp -implicitDefEqProofs only [go_sem], by simp -dsimp -implicitDefEqProofs only [go_sem], by simp -dsimp -implicitDefEqProofs only [go_sem], 0, by omega, by simp -dsimp -implicitDefEqProofs only [go_sem], h⟩
  clear h hF
  rintro e w ⟨hd, e0, e1, e2, i, hi, e7, h⟩
  by_cases hlt : (i : Int) < qs.length
  case neg =>
    have : i = qs.length := by omega
    subst this
    obtain ⟨vb, vc, vl, vn, xs, ls, ns, ok, hn, h2⟩ := BookP.open ((h.ent (Ent.sep (Ent.rfl' _) (Ent.right _ _))).sw2)
    have hf1 := ok.fewL
    have h2 : St w0 (BookU K vb vc vl vn xs ls ns (RowO 48 15 (.slice a qs.length c) qs.length (qs.flatMap atC) * F)) w := h2
    obtain ⟨al, cl, rfl, _⟩ := h2.rowForm vl
    obtain ⟨an, cn, rfl, _⟩ := h2.rowForm vn
    simp -dsimp -implicitDefEqProofs (disch := omega) only [go_sem, hd, e0, e1, e2, e7, hlt, h2.cl K]
    refine h2.lit (n := 1) (cells := [.slice a qs.length c]) fact_rowTy_66 rfl (by decide) (by decide) fun v3 w3 h3 => ?_
    simp -dsimp -implicitDefEqProofs (disch := omega) only [go_sem, hd, e0, e1]
    refine h3.appR (v := .slice al ls.length cl) (x := v3) fact_rowTy_66 Try.underlying66 (by intro z hz; simp only [List.mem_singleton] at hz; subst hz; rfl) (fun hh => by cases hh) (by simp only [maxLen]; omega) (by omega) fun v4 w4 h4 => ?_
    obtain ⟨a4, c4, rfl, _⟩ := h4.rowForm v4
    simp -dsimp -implicitDefEqProofs (disch := omega) only [go_sem, hd, e0, e1]
    refine h4.sto (b := K) (off := 2) (by simp) rfl fun w5 h5 => ?_
    simp only [List.setIfInBounds_toArray, List.set_cons_succ, List.set_cons_zero] at h5
    simp -dsimp -implicitDefEqProofs (disch := omega) only [go_sem, hd, e0, e1, h5.cl K]
    refine h5.lit (n := 1) (cells := [.int .i64 qs.length]) fact_rowTy_67 rfl (by decide) (by decide) fun v6 w6 h6 => ?_
    simp -dsimp -implicitDefEqProofs (disch := omega) only [go_sem, hd, e0, e1]
    refine h6.appR (v := .slice an ns.length cn) (x := v6) fact_rowTy_67 Try.underlying67 (by intro z hz; simp only [List.mem_singleton] at hz; subst hz; rfl) (fun hh => by cases hh) (by simp only [maxLen]; omega) (by omega) fun v7 w7 h7 => ?_
    obtain ⟨a7, c7, rfl, _⟩ := h7.rowForm v7
    simp -dsimp -implicitDefEqProofs (disch := omega) only [go_sem, hd, e0, e1]
    refine h7.sto (b := K) (off := 3) (by simp) rfl fun w8 h8 => ?_
    simp only [List.setIfInBounds_toArray, List.set_cons_succ, List.set_cons_zero] at h8
    simp -dsimp -implicitDefEqProofs (disch := omega) only [go_sem, hd, e0, e1]
    have h9 : St w0 (RowO 3 1 v6 1 [.int .i64 qs.length] * (RowO 28 1 v3 1 [.slice a qs.length c] * (Blk K (bookB vb vc (.slice a4 (ls.length + 1) c4) (.slice a7 (ns.length + 1) c7)) * (RowO 39 1 vb xs.length (xs.map (·.1)) * (RowO 39 1 vc xs.length (xs.map (·.2.1)) * (RowO 28 1 (.slice a4 (ls.length + 1) c4) (ls.length + 1) (ls.map (·.1) ++ [.slice a qs.length c]) * (RowO 3 1 (.slice a7 (ns.length + 1) c7) (ns.length + 1) ((ns.map fun z => .int .i64 z) ++ [.int .i64 qs.length]) * (stars heap2 xs * (stars heapL ls * (RowO 48 15 (.slice a qs.length c) qs.length (qs.flatMap atC) * F)))))))))) w8 := h8
    have h10 : St w0 (heapL (.slice a qs.length c, qs) * (stars heapL ls * (Blk K (bookB vb vc (.slice a4 (ls.length + 1) c4) (.slice a7 (ns.length + 1) c7)) * (RowO 39 1 vb xs.length (xs.map (·.1)) * (RowO 39 1 vc xs.length (xs.map (·.2.1)) * (RowO 28 1 (.slice a4 (ls.length + 1) c4) (ls.length + 1) (ls.map (·.1) ++ [.slice a qs.length c]) * (RowO 3 1 (.slice a7 (ns.length + 1) c7) (ns.length + 1) ((ns.map fun z => .int .i64 z) ++ [.int .i64 qs.length]) * (stars heap2 xs * F)))))))) w8 := h9.right.right.ac (by show _ = RowO 48 15 (.slice a qs.length c) qs.length (qs.flatMap atC) * _; ac_rfl)
    have h11 := stars_snoc h10
    have hll : (ls ++ [(.slice a qs.length c, qs)] : List LE).length = ls.length + 1 := by simp
    have hnl : (ns ++ [(qs.length : Int)]).length = ns.length + 1 := by simp
    have hf2 := ok.few
    refine BookP.mk (vb := vb) (vc := vc) (vl := .slice a4 (ls.length + 1) c4) (vn := .slice a7 (ns.length + 1) c7) (xs := xs) (ls := ls ++ [(.slice a qs.length c, qs)]) (ns := ns ++ [(qs.length : Int)]) ⟨by omega, by rw [hll]; omega, (ok.up (show N + qs.length ≤ N + 257 by omega)).cells, fun y hy => ?_⟩ (by omega) ?_
    · rcases List.mem_append.1 hy with hy | hy
      · exact (ok.up (show N + qs.length ≤ N + 257 by omega)).cellsL y hy
      · simp only [List.mem_singleton] at hy; subst hy; exact ⟨rfl, by show qs.length ≤ _; omega, fun q hq => (hcells q hq).1⟩
    · unfold BookU
      rw [hll, hnl, List.map_append, List.map_append]
      exact h11.ac (by simp only [List.map_cons, List.map_nil]; ac_rfl)
  have hil : i < qs.length := by omega
  have hiw : i < qw.length := by omega
  obtain ⟨hn1, hf1⟩ := hei i hil
  obtain ⟨hqc, hqr⟩ := hq _ (List.getElem_mem hiw)
  have rd1 : ∀ {H : HP}, Ent (RowO 48 15 (.slice a qs.length c) qs.length (qs.flatMap atC) * H) (Reads 15 (.slice a qs.length c) qs.length (qs.flatMap atC)) := (Ent.left _ _).trans (RowO.reads _ _ _ _ _)
  have rd2 : ∀ {H M : HP} {S : HP}, Ent (H * (M * (S * F))) (Reads 15 (.slice au qw.length cu) qw.length (qw.flatMap atC)) := (Ent.right _ _).trans ((Ent.right _ _).trans ((Ent.right _ _).trans hw))
  obtain ⟨b, o, rfl, c0, r0⟩ := at_facts h.drew rd1 hil
  obtain ⟨bu, ou, rfl, d0, s0⟩ := at_facts h.drew rd2 hiw
  have hhw : (i : Int) < qw.length := by omega
  simp -dsimp -implicitDefEqProofs (disch := omega) only [go_sem, hd, e0, e1, e2, e7, hlt, hhw, r0, s0]
  have h1 : St w0 (hearts (qs[i] :: qs.drop (i + 1)) * (RowO 48 15 (.slice (some ⟨b, o, none⟩) qs.length c) qs.length (qs.flatMap atC) * (BookP K (N + i) * F))) w.drew := by
    rw [List.getElem_cons_drop]
    exact h.drew.ac (by ac_rfl)
  obtain ⟨hok, h2⟩ := hearts_cons h1
  have h3 : St w0 (HeardP qs[i].2 * (BookP K (N + i) * (RowO 48 15 (.slice (some ⟨b, o, none⟩) qs.length c) qs.length (qs.flatMap atC) * (hearts (qs.drop (i + 1)) * F)))) w.drew := h2.ac (by ac_rfl)
  refine (keeps_any (p := qs[i].2) (q := qw[i].2) (by omega) hok hqc ((Ent.right _ _).trans ((Ent.right _ _).trans hqr)) h3).mono ?_
  rintro e' w4 ⟨h4, rfl⟩
  rw [hf1, sameB_self]
  have h5 : St w0 (RowO 48 15 (.slice (some ⟨b, o, none⟩) qs.length c) qs.length (qs.flatMap atC) * (hearts (qs.drop (i + 1)) * (BookP K (N + (i + 1)) * F))) w4 := h4.ac (by rw [Nat.add_assoc]; ac_rfl)
  obtain ⟨c0, r0⟩ := at_facts' h5 rd1 hil
  obtain ⟨d0, s0⟩ := at_facts' h5 rd2 hiw
  obtain ⟨x0, y0⟩ := at_facts' h5.drew rd1 hil
  obtain ⟨z0, t0⟩ := at_facts' h5.drew rd2 hiw
  rw [hn1] at d0 z0
  simp -dsimp -implicitDefEqProofs (disch := omega) only [go_sem, hd, e0, e1, e2, e7, hlt, hhw, c0, r0, d0, s0, x0, y0, z0, t0]
  exact ⟨⟨i + 1, by omega, by omega, h5.drew⟩, by omega⟩
end
theorem stars_mem {κ α : Type} {A : κ × α → HP} : ∀ {l : List (κ × α)} {x : κ × α}, x ∈ l → Ent (stars A l) (A x)
  | [], x, h => by simp at h
  | y :: l, x, h => by
    rcases List.mem_cons.1 h with rfl | h
    · exact Ent.left _ _
    · exact (Ent.right _ _).trans (stars_mem h)
theorem row1_at {w0 w : World} {A : HP} {a : Option Addr} {n c : Nat} {xs : List Value} (h : St w0 A w) (hr : Ent A (Reads 1 (.slice a n c) n xs)) {i : Nat} (hi : i < xs.length) : ∃ b o, a = some ⟨b, o, none⟩ ∧ w.cell? ⟨b, o + i, none⟩ = some xs[i] := by
  obtain ⟨a', c', hv, _, hz⟩ := ((h.ent hr).rd).form
  simp only [Value.slice.injEq, true_and] at hv
  obtain ⟨rfl, rfl⟩ := hv
  rcases hz with hz | ⟨b, o, rfl, hz⟩
  · subst hz; simp at hi
  · exact ⟨b, o, rfl, by rw [hz i hi, List.getElem?_eq_getElem hi]⟩
theorem row1_at' {w0 w : World} {A : HP} {b o n c : Nat} {xs : List Value} (h : St w0 A w) (hr : Ent A (Reads 1 (.slice (some ⟨b, o, none⟩) n c) n xs)) {i : Nat} (hi : i < xs.length) : w.cell? ⟨b, o + i, none⟩ = some xs[i] := by
  obtain ⟨b', o', hb, h1⟩ := row1_at h hr hi
  simp only [Option.some.injEq, Addr.mk.injEq] at hb
  obtain ⟨rfl, rfl, _⟩ := hb
  exact h1
section
variable {w0 w : World} {F : HP} {K N : Nat} {vb vc vl vn : Value} {xs : List XE} {ls : List LE} {ns : List Int}
theorem BookU.rB : Ent (BookU K vb vc vl vn xs ls ns F) (Reads 1 vb xs.length (xs.map (·.1))) := (Ent.right _ _).trans ((Ent.left _ _).trans (RowO.reads _ _ _ _ _))
theorem BookU.rC : Ent (BookU K vb vc vl vn xs ls ns F) (Reads 1 vc xs.length (xs.map (·.2.1))) := (Ent.right _ _).trans ((Ent.right _ _).trans ((Ent.left _ _).trans (RowO.reads _ _ _ _ _)))
theorem BookU.rL : Ent (BookU K vb vc vl vn xs ls ns F) (Reads 1 vl ls.length (ls.map (·.1))) := (Ent.right _ _).trans ((Ent.right _ _).trans ((Ent.right _ _).trans ((Ent.left _ _).trans (RowO.reads _ _ _ _ _))))
theorem BookU.hX : Ent (BookU K vb vc vl vn xs ls ns F) (stars heap2 xs) := (Ent.right _ _).trans ((Ent.right _ _).trans ((Ent.right _ _).trans ((Ent.right _ _).trans ((Ent.right _ _).trans (Ent.left _ _)))))
theorem BookU.hL : Ent (BookU K vb vc vl vn xs ls ns F) (stars heapL ls) := (Ent.right _ _).trans ((Ent.right _ _).trans ((Ent.right _ _).trans ((Ent.right _ _).trans ((Ent.right _ _).trans ((Ent.right _ _).trans (Ent.left _ _))))))
theorem BookU.up : Ent (BookU K vb vc vl vn xs ls ns F) F := (Ent.right _ _).trans ((Ent.right _ _).trans ((Ent.right _ _).trans ((Ent.right _ _).trans ((Ent.right _ _).trans ((Ent.right _ _).trans (Ent.right _ _))))))
end
theorem heap2.rb {x : XE} : Ent (heap2 x) (Reads 1 x.1 x.2.2.length (byR x.2.2)) := (Ent.left _ _).trans (RowO.reads _ _ _ _ _)
theorem heap2.rc {x : XE} : Ent (heap2 x) (Reads 1 x.2.1 x.2.2.length (byR x.2.2)) := (Ent.right _ _).trans (RowO.reads _ _ _ _ _)
section
attribute [local go_sem] F53.t3_eq F53.t4_eq F53.t6_eq
theorem still_any {w0 w : World} {F : HP} {K N : Nat} (hN : N ≤ 1000000000000) (h : St w0 (BookP K N * F) w) :
    Calls Try.prog 53 #[.pointer (some ⟨K, 0, none⟩)] w fun e w' => St w0 (BookP K N * F) w' ∧ e = .returned (.bool true) := by
  obtain ⟨vb, vc, vl, vn, xs, ls, ns, ok, hn, h⟩ := BookP.open h
  have hfew := ok.few
  obtain ⟨ab, cb, rfl, _⟩ := h.rowForm vb
  obtain ⟨ac, cc, rfl, _⟩ := h.rowForm vc
  refine F53.calls (by simp) ?_
  unfold F53.code
  simp -dsimp -implicitDefEqProofs (disch := omega) only [go_sem]
  refine loop_intro (fun e w' => e.ds = [] ∧ e.ρ 0 = .pointer (some ⟨K, 0, none⟩) ∧ ∃ i : Nat, i ≤ xs.length ∧ e.ρ 3 = .int .i64 i ∧ St w0 (BookU K (.slice ab xs.length cb) (.slice ac xs.length cc) vl vn xs ls ns F) w')
    (fun e _ => match e.ρ 3 with | .int _ n => (xs.length - n).toNat | _ => 0) ?_ ?_
  · exact ⟨by simp -dsimp -implicitDefEqProofs only [go_sem], by simp -dsimp -implicitDefEqProofs only [go_sem], 0, by omega, by simp -dsimp -implicitDefEqProofs only [go_sem], h⟩
  clear h
  rintro e w ⟨hd, e0, i, hi, e3, h⟩
  by_cases hlt : (i : Int) < xs.length
  case neg =>
    simp -dsimp -implicitDefEqProofs (disch := omega) only [go_sem, hd, e0, e3, hlt, h.cl K]
    exact BookP.mk ok hn h
  have hil : i < xs.length := by omega
  obtain ⟨b1, o1, rfl, x1⟩ := row1_at h.drew BookU.rB (i := i) (by simpa using hil)
  obtain ⟨b2, o2, rfl, x2⟩ := row1_at h.drew BookU.rC (i := i) (by simpa using hil)
  simp only [List.getElem_map] at x1 x2
  simp -dsimp -implicitDefEqProofs (disch := omega) only [go_sem, hd, e0, e3, hlt, h.cl K, h.drew.cl K, x1, x2]
  refine St.str (bs := xs[i].2.2) h.drew (BookU.hX.trans ((stars_mem (List.getElem_mem hil)).trans heap2.rb)) Try.underlying39 Try.underlying5 Try.underlying9 ?_
  simp -dsimp -implicitDefEqProofs (disch := omega) only [go_sem, hd, e0, e3, hlt, h.cl K, h.drew.cl K, x1, x2]
  refine St.str (bs := xs[i].2.2) h.drew (BookU.hX.trans ((stars_mem (List.getElem_mem hil)).trans heap2.rc)) Try.underlying39 Try.underlying5 Try.underlying9 ?_
  simp -dsimp -implicitDefEqProofs (disch := omega) only [go_sem, hd, e0, e3, hlt, seq_dec]
  exact ⟨⟨i + 1, by omega, by omega, h.drew⟩, by omega⟩
end
theorem stars_out {κ α : Type} {A : κ × α → HP} : ∀ {l : List (κ × α)} {i : Nat} (hi : i < l.length), stars A l = A l[i] * stars A (l.eraseIdx i)
  | [], i, hi => by simp at hi
  | x :: l, 0, hi => rfl
  | x :: l, i + 1, hi => by
    have hi' : i < l.length := by simpa using hi
    show A x * stars A l = A (x :: l)[i + 1] * (A x * stars A (l.eraseIdx i))
    rw [stars_out hi', List.getElem_cons_succ]
    ac_rfl
theorem stars_set' {κ α : Type} {A : κ × α → HP} {l : List (κ × α)} {i : Nat} (hi : i < l.length) (y : κ × α) : stars A (l.set i y) = A y * stars A (l.eraseIdx i) := by
  rw [stars_out (i := i) (by simpa using hi), List.getElem_set_self, List.eraseIdx_set_eq]
abbrev BookV (K : Nat) (vb vc vl vn : Value) (xs : List XE) (n : Nat) (vs : List Value) (ns : List Int) (G : HP) : HP :=
  Blk K (bookB vb vc vl vn) * (RowO 39 1 vb xs.length (xs.map (·.1)) * (RowO 39 1 vc xs.length (xs.map (·.2.1)) * (RowO 28 1 vl n vs * (RowO 3 1 vn ns.length (ns.map fun z => .int .i64 z) * (stars heap2 xs * G)))))
section
variable {w0 w : World} {F : HP} {K N : Nat} {vb vc vl vn : Value} {xs : List XE} {ls : List LE} {ns : List Int}
theorem BookU.outL {i : Nat} (hi : i < ls.length) (h : St w0 (BookU K vb vc vl vn xs ls ns F) w) : St w0 (RowO 48 15 ls[i].1 ls[i].2.length (ls[i].2.flatMap atC) * BookV K vb vc vl vn xs ls.length (ls.map (·.1)) ns (stars heapL (ls.eraseIdx i) * F)) w := by
  have h1 := h
  unfold BookU at h1
  rw [stars_out (A := heapL) hi] at h1
  exact h1.ac (by unfold heapL BookV; ac_rfl)
theorem BookU.inL {i : Nat} (hi : i < ls.length) {y : LE} (h : St w0 (RowO 48 15 y.1 y.2.length (y.2.flatMap atC) * BookV K vb vc vl vn xs ls.length ((ls.map (·.1)).set i y.1) ns (stars heapL (ls.eraseIdx i) * F)) w) : St w0 (BookU K vb vc vl vn xs (ls.set i y) ns F) w := by
  unfold BookU
  rw [stars_set' (A := heapL) hi, List.length_set, List.map_set]
  exact h.ac (by unfold heapL BookV; ac_rfl)
theorem BookU.inL' {i : Nat} (hi : i < ls.length) {y : LE} (hy : y.1 = ls[i].1) (h : St w0 (RowO 48 15 y.1 y.2.length (y.2.flatMap atC) * BookV K vb vc vl vn xs ls.length (ls.map (·.1)) ns (stars heapL (ls.eraseIdx i) * F)) w) : St w0 (BookU K vb vc vl vn xs (ls.set i y) ns F) w := by
  refine BookU.inL hi ?_
  have e : (ls.map (fun x : LE => x.1)).set i y.1 = ls.map (fun x : LE => x.1) := by
    refine List.ext_getElem? fun j => ?_
    rw [List.getElem?_set]
    split
    · rename_i hj; subst hj
      simp [hi, hy]
    · rfl
  rw [e]
  exact h
end
theorem BookOk.setL {M : Nat} {xs : List XE} {ls : List LE} (ok : BookOk M xs ls) {i : Nat} {y : LE} (hc : isCell y.1 = true) (hl : y.2.length ≤ 256 + M) (hq : ∀ q ∈ y.2, isCell q.2.1 = true) : BookOk M xs (ls.set i y) :=
  ⟨ok.few, by rw [List.length_set]; exact ok.fewL, ok.cells, fun z hz => by
    rcases List.mem_or_eq_of_mem_set hz with hz | rfl
    · exact ok.cellsL z hz
    · exact ⟨hc, hl, hq⟩⟩
theorem row_whole {qs : FPs} {j : Nat} (hj : j < qs.length) (x : Int × HF) : setRowL (qs.flatMap atC) (j * 15) (atC x) = (qs.set j x).flatMap atC := by
  have hlen : (qs.flatMap atC).length = qs.length * 15 := flatMap_length atC_length qs
  have hmul : (j + 1) * 15 ≤ qs.length * 15 := Nat.mul_le_mul_right 15 hj
  rw [setRowL_front (z := .bool true) _ _ _ (by rw [atC_length]; omega), atC_take, atC_length, show j * 15 + 15 = (j + 1) * 15 by omega, atC_drop, List.set_eq_take_append_cons_drop, if_pos hj, List.flatMap_append, List.flatMap_cons]
def uI (i : Nat) : Int := IntKind.u32.wrap (i : Int)
def LM (i : Nat) (ls : List LE) : Prop := ∀ k (hk : k < ls.length), k < i → ∀ q ∈ ls[k].2, q = (uI k, zHF)
theorem LM.set {i : Nat} {ls : List LE} (h : LM i ls) (y : LE) : LM i (ls.set i y) := fun k hk hki => by
  rw [List.length_set] at hk
  rw [List.getElem_set_ne (by omega)]
  exact h k hk hki
section
variable {w0 w : World} {F : HP} {K M : Nat}
section
attribute [local go_sem] F29.t9_eq F29.t10_eq F29.t6_eq F29.t16_eq F29.t17_eq F29.t13_eq F29.t14_eq F29.t24_eq F29.t25_eq F29.t29_eq F29.t30_eq F29.t27_eq F29.t21_eq F29.t22_eq F29.t36_eq F29.t37_eq F29.t33_eq F29.t34_eq F29.t39_eq F29.t31_eq F29.t19_eq F29.t11_eq F29.t4_eq
theorem own_t7 {vb vc vl vn : Value} {xs : List XE} {ls : List LE} {ns : List Int} {e : FA} {Q : Post} {i : Nat} (hM : M ≤ 1000000000000) (ok : BookOk M xs ls) (hi : i < ls.length) (hm : LM i ls) (hd : e.ds = []) (e0 : e.ρ 0 = .pointer (some ⟨K, 0, none⟩)) (e4 : e.ρ 4 = .int .i64 i)
    (h : St w0 (BookU K vb vc vl vn xs ls ns F) w)
    (hQ : ∀ e' w' ls', BookOk M xs ls' → ls'.length = ls.length → LM (i + 1) ls' → e'.ds = [] → e'.ρ 0 = .pointer (some ⟨K, 0, none⟩) → e'.ρ 4 = .int .i64 ((i : Int) + 1) → St w0 (BookU K vb vc vl vn xs ls' ns F) w' → Q .normal e' w') :
    cwE Try.prog F29.t7 Q e w := by
  rw [F29.t7_eq]
  have hfl := ok.fewL
  obtain ⟨al, cl, rfl, _⟩ := h.rowForm vl
  simp -dsimp -implicitDefEqProofs (disch := omega) only [go_sem, hd, e0, e4]
  refine loop_intro (fun e w' => e.ds = [] ∧ e.ρ 0 = .pointer (some ⟨K, 0, none⟩) ∧ e.ρ 4 = .int .i64 i ∧ ∃ (j : Nat) (ls' : List LE), e.ρ 5 = .int .i64 j ∧ BookOk M xs ls' ∧ ls'.length = ls.length ∧ LM i ls' ∧ (∀ hi' : i < ls'.length, j ≤ ls'[i].2.length ∧ ls'[i].2.length = ls[i].2.length ∧ ∀ m (hm : m < ls'[i].2.length), m < j → ls'[i].2[m] = (uI i, zHF)) ∧
      St w0 (BookU K vb vc (.slice al ls'.length cl) vn xs ls' ns F) w')
    (fun e _ => match e.ρ 5 with | .int _ n => (ls[i].2.length - n).toNat | _ => 0) ?_ ?_
  · exact ⟨by simp -dsimp -implicitDefEqProofs only [go_sem, hd], by simp -dsimp -implicitDefEqProofs only [go_sem, e0], by simp -dsimp -implicitDefEqProofs only [go_sem, e4], 0, ls, by simp -dsimp -implicitDefEqProofs only [go_sem], ok, rfl, hm, fun _ => ⟨by omega, rfl, fun _ _ h => absurd h (by omega)⟩, h⟩
  clear h hd e0 e4 ok hm
  rintro e w ⟨hd, e0, e4, j, ls', e5, ok, hll, hm, hj, h⟩
  have hi' : i < ls'.length := by omega
  obtain ⟨hj1, hj2, hj3⟩ := hj hi'
  obtain ⟨b, o, rfl, c1⟩ := row1_at h BookU.rL (i := i) (by simpa using hi')
  simp only [List.getElem_map] at c1
  have h1 := BookU.outL hi' h
  obtain ⟨hcv, hcl, hcq⟩ := ok.cellsL _ (List.getElem_mem hi')
  obtain ⟨⟨vi, qs⟩, hy⟩ : ∃ y, y = ls'[i] := ⟨_, rfl⟩
  rw [← hy] at h1 c1 hcv hcl hcq hj1 hj2 hj3
  have h1 : St w0 (RowO 48 15 vi qs.length (qs.flatMap atC) * BookV K vb vc (.slice (some ⟨b, o, none⟩) ls'.length cl) vn xs ls'.length (ls'.map (·.1)) ns (stars heapL (ls'.eraseIdx i) * F)) w := h1
  obtain ⟨ai, ci, rfl, _⟩ := h1.rowForm vi
  have hlt2 : (i : Int) < ls'.length := by omega
  by_cases hlt : (j : Int) < qs.length
  case neg =>
    simp -dsimp -implicitDefEqProofs (disch := omega) only [go_sem, hd, e0, e4, e5, h.cl K, c1, hlt2, hlt]
    refine hQ _ _ ls' ok hll (fun k hk hki q hq => ?_) (by simp -dsimp -implicitDefEqProofs only [go_sem, hd]) (by simp -dsimp -implicitDefEqProofs only [go_sem, e0]) (by simp -dsimp -implicitDefEqProofs only [go_sem, e4]) (by rw [← hll]; exact h)
    rcases Nat.lt_or_ge k i with h2 | h2
    · exact hm k hk h2 q hq
    · have : k = i := by omega
      subst this
      rw [← hy] at hq
      obtain ⟨m, hm1, rfl⟩ := List.mem_iff_getElem.1 hq
      exact hj3 m hm1 (by simp only at hm1 hlt; omega)
  have hjl : j < qs.length := by omega
  obtain ⟨bi, oi, rfl, _⟩ := at_facts h1 ((Ent.left _ _).trans (RowO.reads _ _ _ _ _)) hjl
  simp -dsimp -implicitDefEqProofs (disch := omega) only [go_sem, hd, e0, e4, e5, h.cl K, c1, hlt2, hlt]
  refine onV_of (v := .agg (atC (uI i, zHF)).toArray) rfl ?_
  simp -dsimp -implicitDefEqProofs (disch := omega) only [go_sem, hd, e0, e4, e5]
  refine h1.rowSet (g := bi) (o := oi) (n := qs.length) (c := ci) (k := j * 15) (m := 15) (cs := atC (uI i, zHF)) rfl (by rw [flatMap_length atC_length]; omega) (atC_cells rfl) fun w6 h6 => ?_
  rw [row_whole hjl] at h6
  simp -dsimp -implicitDefEqProofs (disch := omega) only [go_sem, hd, e0, e4, e5]
  have h7 := BookU.inL' (y := (.slice (some ⟨bi, oi, none⟩) qs.length ci, qs.set j (uI i, zHF))) hi' (by rw [← hy]) (by rw [show ((.slice (some ⟨bi, oi, none⟩) qs.length ci, qs.set j (uI i, zHF)) : LE).2.length = qs.length by simp]; exact h6)
  refine ⟨⟨j + 1, ls'.set i (.slice (some ⟨bi, oi, none⟩) qs.length ci, qs.set j (uI i, zHF)), by omega, ok.setL rfl (by simpa using hcl) (fun q hq => ?_), by simpa using hll, hm.set _, fun hi2 => ?_, by rw [List.length_set]; exact h7⟩, by have hj2' : qs.length = ls[i].2.length := hj2; omega⟩
  · rcases List.mem_or_eq_of_mem_set hq with hq | rfl
    · exact hcq q hq
    · rfl
  · rw [List.getElem_set_self]
    refine ⟨by simp; omega, by simpa using hj2, fun m hm1 hmj => ?_⟩
    simp only [List.length_set] at hm1
    rw [List.getElem_set]
    split
    · rfl
    · exact hj3 m hm1 (by omega)
end
end
theorem u8_bv (z : Int) : ∃ x : UInt8, Value.int .u8 (IntKind.u8.wrap z) = bv x := by
  have e : IntKind.u8.wrap z = z % 256 := by simp [IntKind.wrap, IntKind.bits, IntKind.signed]
  refine ⟨UInt8.ofNat (z % 256).toNat, ?_⟩
  unfold bv
  rw [e, UInt8.toNat_ofNat']
  congr 1
  omega
abbrev BookX (K : Nat) (vb vc vl vn : Value) (n : Nat) (bs cs : List Value) (ls : List LE) (ns : List Int) (G : HP) : HP :=
  Blk K (bookB vb vc vl vn) * (RowO 39 1 vb n bs * (RowO 39 1 vc n cs * (RowO 28 1 vl ls.length (ls.map (·.1)) * (RowO 3 1 vn ns.length (ns.map fun z => .int .i64 z) * (stars heapL ls * G)))))
section
variable {w0 w : World} {F : HP} {K N : Nat} {vb vc vl vn : Value} {xs : List XE} {ls : List LE} {ns : List Int}
theorem BookU.outX {i : Nat} (hi : i < xs.length) (h : St w0 (BookU K vb vc vl vn xs ls ns F) w) : St w0 (RowO 5 1 xs[i].1 xs[i].2.2.length (byR xs[i].2.2) * (RowO 5 1 xs[i].2.1 xs[i].2.2.length (byR xs[i].2.2) * BookX K vb vc vl vn xs.length (xs.map (·.1)) (xs.map (·.2.1)) ls ns (stars heap2 (xs.eraseIdx i) * F))) w := by
  have h1 := h
  unfold BookU at h1
  rw [stars_out (A := heap2) hi] at h1
  exact h1.ac (by unfold heap2 BookX; ac_rfl)
theorem BookU.inX {i : Nat} (hi : i < xs.length) {y : XE} (h : St w0 (RowO 5 1 y.1 y.2.2.length (byR y.2.2) * (RowO 5 1 y.2.1 y.2.2.length (byR y.2.2) * BookX K vb vc vl vn xs.length ((xs.map (·.1)).set i y.1) ((xs.map (·.2.1)).set i y.2.1) ls ns (stars heap2 (xs.eraseIdx i) * F))) w) : St w0 (BookU K vb vc vl vn (xs.set i y) ls ns F) w := by
  unfold BookU
  rw [stars_set' (A := heap2) hi, List.length_set, List.map_set, List.map_set]
  exact h.ac (by unfold heap2 BookX; ac_rfl)
theorem map_set_self {α β : Type} {f : α → β} {l : List α} {i : Nat} {b : β} (hi : i < l.length) (hb : b = f l[i]) : (l.map f).set i b = l.map f := by
  subst hb
  refine List.ext_getElem? fun j => ?_
  rw [List.getElem?_set]
  split
  · rename_i hj; subst hj
    simp [hi]
  · rfl
end
theorem BookOk.setX {M : Nat} {xs : List XE} {ls : List LE} (ok : BookOk M xs ls) {i : Nat} {y : XE} (h1 : isCell y.1 = true) (h2 : isCell y.2.1 = true) (hl : y.2.2.length < 1099511627776 + M) : BookOk M (xs.set i y) ls :=
  ⟨by rw [List.length_set]; exact ok.few, ok.fewL, fun z hz => by
    rcases List.mem_or_eq_of_mem_set hz with hz | rfl
    · exact ok.cells z hz
    · exact ⟨h1, h2, hl⟩, ok.cellsL⟩
theorem byR_set (bs : List UInt8) (j : Nat) (x : UInt8) : (byR bs).set j (bv x) = byR (bs.set j x) := by rw [byR, byR, List.map_set]
section
variable {w0 w : World} {F : HP} {K M : Nat}
section
attribute [local go_sem] F29.t9_eq F29.t10_eq F29.t6_eq F29.t7_eq F29.t16_eq F29.t17_eq F29.t13_eq F29.t24_eq F29.t25_eq F29.t29_eq F29.t30_eq F29.t27_eq F29.t21_eq F29.t22_eq F29.t36_eq F29.t37_eq F29.t33_eq F29.t34_eq F29.t39_eq F29.t31_eq F29.t19_eq F29.t11_eq F29.t4_eq
theorem own_t14 {vb vc vl vn : Value} {xs : List XE} {ls : List LE} {ns : List Int} {e : FA} {Q : Post} {i : Nat} (hM : M ≤ 1000000000000) (ok : BookOk M xs ls) (hi : i < xs.length) (hd : e.ds = []) (e0 : e.ρ 0 = .pointer (some ⟨K, 0, none⟩)) (e6 : e.ρ 6 = .int .i64 i)
    (h : St w0 (BookU K vb vc vl vn xs ls ns F) w)
    (hQ : ∀ e' w' xs', BookOk M xs' ls → xs'.length = xs.length → e'.ds = [] → e'.ρ 0 = .pointer (some ⟨K, 0, none⟩) → e'.ρ 6 = .int .i64 ((i : Int) + 1) → St w0 (BookU K vb vc vl vn xs' ls ns F) w' → Q .normal e' w') :
    cwE Try.prog F29.t14 Q e w := by
  rw [F29.t14_eq]
  have hfl := ok.few
  obtain ⟨ab, cb, rfl, _⟩ := h.rowForm vb
  obtain ⟨ac, cc, rfl, _⟩ := h.rowForm vc
  simp -dsimp -implicitDefEqProofs (disch := omega) only [go_sem, hd, e0, e6]
  refine loop_intro (fun e w' => e.ds = [] ∧ e.ρ 0 = .pointer (some ⟨K, 0, none⟩) ∧ e.ρ 6 = .int .i64 i ∧ ∃ (j : Nat) (xs' : List XE), e.ρ 7 = .int .i64 j ∧ BookOk M xs' ls ∧ xs'.length = xs.length ∧ (∀ hi' : i < xs'.length, j ≤ xs'[i].2.2.length ∧ xs'[i].2.2.length = xs[i].2.2.length) ∧
      St w0 (BookU K (.slice ab xs'.length cb) (.slice ac xs'.length cc) vl vn xs' ls ns F) w')
    (fun e _ => match e.ρ 7 with | .int _ n => (xs[i].2.2.length - n).toNat | _ => 0) ?_ ?_
  · exact ⟨by simp -dsimp -implicitDefEqProofs only [go_sem, hd], by simp -dsimp -implicitDefEqProofs only [go_sem, e0], by simp -dsimp -implicitDefEqProofs only [go_sem, e6], 0, xs, by simp -dsimp -implicitDefEqProofs only [go_sem], ok, rfl, fun _ => ⟨by omega, rfl⟩, h⟩
  clear h hd e0 e6 ok
  rintro e w ⟨hd, e0, e6, j, xs', e7, ok, hll, hj, h⟩
  have hi' : i < xs'.length := by omega
  obtain ⟨hj1, hj2⟩ := hj hi'
  obtain ⟨b1, o1, rfl, x1⟩ := row1_at h BookU.rB (i := i) (by simpa using hi')
  obtain ⟨b2, o2, rfl, x2⟩ := row1_at h BookU.rC (i := i) (by simpa using hi')
  simp only [List.getElem_map] at x1 x2
  have h1 := BookU.outX hi' h
  obtain ⟨hc1, hc2, hc3⟩ := ok.cells _ (List.getElem_mem hi')
  obtain ⟨⟨vi, ui, bs⟩, hy⟩ : ∃ y, y = xs'[i] := ⟨_, rfl⟩
  rw [← hy] at h1 x1 x2 hc1 hc2 hc3 hj1 hj2
  have hj1 : j ≤ bs.length := hj1
  have hj2 : bs.length = xs[i].2.2.length := hj2
  have hc3 : bs.length < 1099511627776 + M := hc3
  have h1 : St w0 (RowO 5 1 vi bs.length (byR bs) * (RowO 5 1 ui bs.length (byR bs) * BookX K (.slice (some ⟨b1, o1, none⟩) xs'.length cb) (.slice (some ⟨b2, o2, none⟩) xs'.length cc) vl vn xs'.length (xs'.map (·.1)) (xs'.map (·.2.1)) ls ns (stars heap2 (xs'.eraseIdx i) * F))) w := h1
  obtain ⟨ai, ci, rfl, _⟩ := h1.rowForm vi
  obtain ⟨au, cu, rfl, _⟩ := h1.rowForm ui
  have hlt2 : (i : Int) < xs'.length := by omega
  by_cases hlt : (j : Int) < bs.length
  case neg =>
    simp -dsimp -implicitDefEqProofs (disch := omega) only [go_sem, hd, e0, e6, e7, h.cl K, x1, x2, hlt2, hlt]
    exact hQ _ _ xs' ok hll (by simp -dsimp -implicitDefEqProofs only [go_sem, hd]) (by simp -dsimp -implicitDefEqProofs only [go_sem, e0]) (by simp -dsimp -implicitDefEqProofs only [go_sem, e6]) (by rw [← hll]; exact h)
  have hjl : j < bs.length := by omega
  obtain ⟨bi, oi, rfl, _⟩ := row1_at h1 ((Ent.left _ _).trans (RowO.reads _ _ _ _ _)) (i := j) (by simpa using hjl)
  obtain ⟨bu, ou, rfl, _⟩ := row1_at h1 ((Ent.right _ _).trans ((Ent.left _ _).trans (RowO.reads _ _ _ _ _))) (i := j) (by simpa using hjl)
  obtain ⟨x, hx⟩ := u8_bv ((i : Int) + j)
  simp -dsimp -implicitDefEqProofs (disch := omega) only [go_sem, hd, e0, e6, e7, h.cl K, x1, x2, hlt2, hlt]
  rw [hx]
  refine h1.rowSet1 (g := bi) (o := oi) (n := bs.length) (c := ci) (k := j) (v := bv x) (by simpa using hjl) rfl fun w3 h3 => ?_
  rw [byR_set] at h3
  have x3 := row1_at' (h3.right.right) ((Ent.right _ _).trans ((Ent.right _ _).trans ((Ent.left _ _).trans (RowO.reads _ _ _ _ _)))) (i := i) (by simpa using hi')
  simp only [List.getElem_map] at x3
  rw [← hy] at x3
  simp -dsimp -implicitDefEqProofs (disch := omega) only [go_sem, hd, e0, e6, e7, h3.cl K, x3, hlt2, hlt]
  rw [hx]
  refine h3.rowSet1 (g := bu) (o := ou) (n := bs.length) (c := cu) (k := j) (v := bv x) (by simpa using hjl) rfl fun w4 h4 => ?_
  rw [byR_set] at h4
  simp -dsimp -implicitDefEqProofs (disch := omega) only [go_sem, hd, e0, e6, e7]
  have h7 := BookU.inX (y := (.slice (some ⟨bi, oi, none⟩) bs.length ci, (.slice (some ⟨bu, ou, none⟩) bs.length cu, bs.set j x))) hi' (by
    rw [show ((.slice (some ⟨bi, oi, none⟩) bs.length ci, (.slice (some ⟨bu, ou, none⟩) bs.length cu, bs.set j x)) : XE).2.2.length = bs.length by simp, map_set_self hi' (by rw [← hy]), map_set_self hi' (by rw [← hy])]; exact h4)
  refine ⟨⟨j + 1, xs'.set i (.slice (some ⟨bi, oi, none⟩) bs.length ci, (.slice (some ⟨bu, ou, none⟩) bs.length cu, bs.set j x)), by omega, ok.setX rfl rfl (by simpa using hc3), by simpa using hll, fun hi2 => ?_, by rw [List.length_set]; exact h7⟩, by omega⟩
  rw [List.getElem_set_self]
  exact ⟨by simp; omega, by simpa using hj2⟩
end
end
section
variable {w0 w : World} {F : HP} {K M : Nat}
section
attribute [local go_sem] F29.t9_eq F29.t10_eq F29.t6_eq F29.t7_eq F29.t16_eq F29.t17_eq F29.t13_eq F29.t14_eq F29.t24_eq F29.t29_eq F29.t30_eq F29.t27_eq F29.t21_eq F29.t22_eq F29.t36_eq F29.t37_eq F29.t33_eq F29.t34_eq F29.t39_eq F29.t31_eq F29.t19_eq F29.t11_eq F29.t4_eq
theorem own_t25 {vb vc vl vn : Value} {xs : List XE} {ls : List LE} {ns : List Int} {e : FA} {Q : Post} {i n : Nat} (hM : M ≤ 1000000000000) (ok : BookOk M xs ls) (hi : i < xs.length) (hlen : xs[i].2.2.length + 1 < 1099511627776 + M) (hn : n ≤ 40) (hd : e.ds = []) (e0 : e.ρ 0 = .pointer (some ⟨K, 0, none⟩)) (e8 : e.ρ 8 = .int .i64 n) (e9 : e.ρ 9 = .int .i64 i)
    (h : St w0 (BookU K vb vc vl vn xs ls ns F) w)
    (hQ : ∀ e' w' y, BookOk M (xs.set i y) ls → e'.ds = [] → e'.ρ 0 = .pointer (some ⟨K, 0, none⟩) → e'.ρ 8 = .int .i64 n → e'.ρ 9 = .int .i64 ((i : Int) + 1) → St w0 (BookU K vb vc vl vn (xs.set i y) ls ns F) w' → Q .normal e' w') :
    cwE Try.prog F29.t25 Q e w := by
  rw [F29.t25_eq]
  have hfl := ok.few
  obtain ⟨ab, cb, rfl, _⟩ := h.rowForm vb
  obtain ⟨ac, cc, rfl, _⟩ := h.rowForm vc
  have h := h.drew
  obtain ⟨b1, o1, rfl, x1⟩ := row1_at h BookU.rB (i := i) (by simpa using hi)
  obtain ⟨b2, o2, rfl, x2⟩ := row1_at h BookU.rC (i := i) (by simpa using hi)
  simp only [List.getElem_map] at x1 x2
  have h1 := BookU.outX hi h
  obtain ⟨hc1, hc2, hc3⟩ := ok.cells _ (List.getElem_mem hi)
  obtain ⟨⟨vi, ui, bs⟩, hy⟩ : ∃ y, y = xs[i] := ⟨_, rfl⟩
  rw [← hy] at h1 x1 x2 hc1 hc2 hc3 hlen
  have hlen : bs.length + 1 < 1099511627776 + M := hlen
  have h1 : St w0 (RowO 5 1 vi bs.length (byR bs) * (RowO 5 1 ui bs.length (byR bs) * BookX K (.slice (some ⟨b1, o1, none⟩) xs.length cb) (.slice (some ⟨b2, o2, none⟩) xs.length cc) vl vn xs.length (xs.map (·.1)) (xs.map (·.2.1)) ls ns (stars heap2 (xs.eraseIdx i) * F))) w.drew := h1
  obtain ⟨ai, ci, rfl, _⟩ := h1.rowForm vi
  obtain ⟨au, cu, rfl, _⟩ := h1.rowForm ui
  have hlt2 : (i : Int) < xs.length := by omega
  obtain ⟨x, hx⟩ := u8_bv (7 * (i : Int) + n)
  simp -dsimp -implicitDefEqProofs (disch := omega) only [go_sem, hd, e0, e8, e9, h1.cl K, x1, hlt2]
  rw [hx]
  refine h1.lit (n := 1) (cells := [bv x]) fact_rowTy_39 rfl (by decide) (by decide) fun v3 w3 h3 => ?_
  have x3 := row1_at' (h3.right.right.right) ((Ent.right _ _).trans ((Ent.left _ _).trans (RowO.reads _ _ _ _ _))) (i := i) (by simpa using hi)
  simp only [List.getElem_map] at x3
  rw [← hy] at x3
  simp -dsimp -implicitDefEqProofs (disch := omega) only [go_sem, hd, e0, e8, e9, h3.cl K, x3, hlt2]
  refine h3.appR (v := .slice ai bs.length ci) (x := v3) fact_rowTy_39 Try.underlying39 (by intro z hz; simp only [List.mem_singleton] at hz; subst hz; rfl) (fun hh => by cases hh) (by simp only [maxLen]; omega) (by omega) fun v4 w4 h4 => ?_
  obtain ⟨a4, c4, rfl, _⟩ := h4.rowForm v4
  have x4 := row1_at' (h4.right.right.right) ((Ent.right _ _).trans ((Ent.left _ _).trans (RowO.reads _ _ _ _ _))) (i := i) (by simpa using hi)
  simp only [List.getElem_map] at x4
  rw [← hy] at x4
  simp -dsimp -implicitDefEqProofs (disch := omega) only [go_sem, hd, e0, e8, e9, h4.cl K, x4, hlt2]
  refine h4.rowSet1 (g := b1) (o := o1) (n := xs.length) (c := cb) (k := i) (v := .slice a4 (bs.length + 1) c4) (by simpa using hi) rfl fun w5 h5 => ?_
  have h5' : St w0 (RowO 5 1 v3 1 [bv x] * (RowO 5 1 (.slice a4 (bs.length + 1) c4) (bs.length + 1) (byR bs ++ [bv x]) * (RowO 5 1 (.slice au bs.length cu) bs.length (byR bs) * BookX K (.slice (some ⟨b1, o1, none⟩) xs.length cb) (.slice (some ⟨b2, o2, none⟩) xs.length cc) vl vn xs.length ((xs.map (·.1)).set i (.slice a4 (bs.length + 1) c4)) (xs.map (·.2.1)) ls ns (stars heap2 (xs.eraseIdx i) * F)))) w5.drew := h5.drew
  have x5 := row1_at' (h5'.right.right.right) ((Ent.right _ _).trans ((Ent.right _ _).trans ((Ent.left _ _).trans (RowO.reads _ _ _ _ _)))) (i := i) (by simpa using hi)
  simp only [List.getElem_map] at x5
  rw [← hy] at x5
  simp -dsimp -implicitDefEqProofs (disch := omega) only [go_sem, hd, e0, e8, e9, h5'.cl K, x5, hlt2]
  rw [hx]
  refine h5'.lit (n := 1) (cells := [bv x]) fact_rowTy_39 rfl (by decide) (by decide) fun v6 w6 h6 => ?_
  have x6 := row1_at' (h6.right.right.right.right) ((Ent.right _ _).trans ((Ent.right _ _).trans ((Ent.left _ _).trans (RowO.reads _ _ _ _ _)))) (i := i) (by simpa using hi)
  simp only [List.getElem_map] at x6
  rw [← hy] at x6
  simp -dsimp -implicitDefEqProofs (disch := omega) only [go_sem, hd, e0, e8, e9, h6.cl K, x6, hlt2]
  refine h6.appR (v := .slice au bs.length cu) (x := v6) fact_rowTy_39 Try.underlying39 (by intro z hz; simp only [List.mem_singleton] at hz; subst hz; rfl) (fun hh => by cases hh) (by simp only [maxLen]; omega) (by omega) fun v7 w7 h7 => ?_
  obtain ⟨a7, c7, rfl, _⟩ := h7.rowForm v7
  have x7 := row1_at' (h7.right.right.right.right) ((Ent.right _ _).trans ((Ent.right _ _).trans ((Ent.left _ _).trans (RowO.reads _ _ _ _ _)))) (i := i) (by simpa using hi)
  simp only [List.getElem_map] at x7
  rw [← hy] at x7
  simp -dsimp -implicitDefEqProofs (disch := omega) only [go_sem, hd, e0, e8, e9, h7.cl K, x7, hlt2]
  refine h7.rowSet1 (g := b2) (o := o2) (n := xs.length) (c := cc) (k := i) (v := .slice a7 (bs.length + 1) c7) (by simpa using hi) rfl fun w8 h8 => ?_
  have h9 : St w0 (RowO 5 1 v6 1 [bv x] * (RowO 5 1 v3 1 [bv x] * (RowO 5 1 (.slice a4 (bs.length + 1) c4) (bs.length + 1) (byR bs ++ [bv x]) * (RowO 5 1 (.slice a7 (bs.length + 1) c7) (bs.length + 1) (byR bs ++ [bv x]) * BookX K (.slice (some ⟨b1, o1, none⟩) xs.length cb) (.slice (some ⟨b2, o2, none⟩) xs.length cc) vl vn xs.length ((xs.map (·.1)).set i (.slice a4 (bs.length + 1) c4)) ((xs.map (·.2.1)).set i (.slice a7 (bs.length + 1) c7)) ls ns (stars heap2 (xs.eraseIdx i) * F))))) w8 := h8
  simp -dsimp -implicitDefEqProofs (disch := omega) only [go_sem, hd, e0, e8, e9]
  have hbl : (bs ++ [x]).length = bs.length + 1 := by simp
  have hbr : byR (bs ++ [x]) = byR bs ++ [bv x] := by simp [byR]
  refine hQ _ _ (.slice a4 (bs.length + 1) c4, (.slice a7 (bs.length + 1) c7, bs ++ [x])) (ok.setX rfl rfl (by show (bs ++ [x]).length < _; rw [hbl]; exact hlen)) (by simp -dsimp -implicitDefEqProofs only [go_sem, hd]) (by simp -dsimp -implicitDefEqProofs only [go_sem, e0]) (by simp -dsimp -implicitDefEqProofs only [go_sem, e8]) (by simp -dsimp -implicitDefEqProofs only [go_sem, e9]) (BookU.inX (y := (.slice a4 (bs.length + 1) c4, (.slice a7 (bs.length + 1) c7, bs ++ [x]))) hi ?_)
  show St w0 (RowO 5 1 (.slice a4 (bs.length + 1) c4) (bs ++ [x]).length (byR (bs ++ [x])) * (RowO 5 1 (.slice a7 (bs.length + 1) c7) (bs ++ [x]).length (byR (bs ++ [x])) * BookX K (.slice (some ⟨b1, o1, none⟩) xs.length cb) (.slice (some ⟨b2, o2, none⟩) xs.length cc) vl vn xs.length ((xs.map (·.1)).set i (.slice a4 (bs.length + 1) c4)) ((xs.map (·.2.1)).set i (.slice a7 (bs.length + 1) c7)) ls ns (stars heap2 (xs.eraseIdx i) * F))) w8
  rw [hbl, hbr]
  exact h9.right.right
end
section
attribute [local go_sem] F29.t9_eq F29.t10_eq F29.t6_eq F29.t7_eq F29.t16_eq F29.t17_eq F29.t13_eq F29.t14_eq F29.t24_eq F29.t25_eq F29.t29_eq F29.t27_eq F29.t21_eq F29.t22_eq F29.t36_eq F29.t37_eq F29.t33_eq F29.t34_eq F29.t39_eq F29.t31_eq F29.t19_eq F29.t11_eq F29.t4_eq
theorem own_t30 {vb vc vl vn : Value} {xs : List XE} {ls : List LE} {ns : List Int} {e : FA} {Q : Post} {i n : Nat} (hM : M ≤ 900000000000) (ok : BookOk M xs ls) (hi : i < ls.length) (hm : LM ls.length ls) (hlen : ls[i].2.length + 1 ≤ 256 + M) (hd : e.ds = []) (e0 : e.ρ 0 = .pointer (some ⟨K, 0, none⟩)) (e8 : e.ρ 8 = .int .i64 n) (e10 : e.ρ 10 = .int .i64 i)
    (h : St w0 (BookU K vb vc vl vn xs ls ns F) w)
    (hQ : ∀ e' w' y, BookOk M xs (ls.set i y) → LM ls.length (ls.set i y) → e'.ds = [] → e'.ρ 0 = .pointer (some ⟨K, 0, none⟩) → e'.ρ 8 = .int .i64 n → e'.ρ 10 = .int .i64 ((i : Int) + 1) → St w0 (BookU K vb vc vl vn xs (ls.set i y) ns F) w' → Q .normal e' w') :
    cwE Try.prog F29.t30 Q e w := by
  rw [F29.t30_eq]
  have hfl := ok.fewL
  obtain ⟨al, cl, rfl, _⟩ := h.rowForm vl
  have h := h.drew
  obtain ⟨b1, o1, rfl, x1⟩ := row1_at h BookU.rL (i := i) (by simpa using hi)
  simp only [List.getElem_map] at x1
  have h1 := BookU.outL hi h
  obtain ⟨hcv, hcl, hcq⟩ := ok.cellsL _ (List.getElem_mem hi)
  have hmi := hm i hi hi
  obtain ⟨⟨vi, qs⟩, hy⟩ : ∃ y, y = ls[i] := ⟨_, rfl⟩
  rw [← hy] at h1 x1 hcv hcl hcq hlen hmi
  have hlen : qs.length + 1 ≤ 256 + M := hlen
  have h1 : St w0 (RowO 48 15 vi qs.length (qs.flatMap atC) * BookV K vb vc (.slice (some ⟨b1, o1, none⟩) ls.length cl) vn xs ls.length (ls.map (·.1)) ns (stars heapL (ls.eraseIdx i) * F)) w.drew := h1
  obtain ⟨ai, ci, rfl, _⟩ := h1.rowForm vi
  have hlt2 : (i : Int) < ls.length := by omega
  simp -dsimp -implicitDefEqProofs (disch := omega) only [go_sem, hd, e0, e8, e10, h1.cl K, x1, hlt2]
  refine onV_of (v := .agg (atC (uI i, zHF)).toArray) rfl ?_
  simp -dsimp -implicitDefEqProofs (disch := omega) only [go_sem, hd, e0, e8, e10, h1.cl K, x1, hlt2]
  refine h1.lit (n := 1) (cells := atC (uI i, zHF)) fact_rowTy_28 rfl (by decide) (by decide) fun v3 w3 h3 => ?_
  have x3 := row1_at' (h3.right.right) ((Ent.right _ _).trans ((Ent.right _ _).trans ((Ent.right _ _).trans ((Ent.left _ _).trans (RowO.reads _ _ _ _ _))))) (i := i) (by simpa using hi)
  simp only [List.getElem_map] at x3
  rw [← hy] at x3
  simp -dsimp -implicitDefEqProofs (disch := omega) only [go_sem, hd, e0, e8, e10, h3.cl K, x3, hlt2]
  refine h3.appR (v := .slice ai qs.length ci) (x := v3) fact_rowTy_28 Try.underlying28 (atC_cells rfl) (fun h => by simp [atC] at h) (show _ ≤ 9223372036854775807 by omega) (by omega) fun v4 w4 h4 => ?_
  obtain ⟨a4, c4, rfl, _⟩ := h4.rowForm v4
  have x4 := row1_at' (h4.right.right) ((Ent.right _ _).trans ((Ent.right _ _).trans ((Ent.right _ _).trans ((Ent.left _ _).trans (RowO.reads _ _ _ _ _))))) (i := i) (by simpa using hi)
  simp only [List.getElem_map] at x4
  rw [← hy] at x4
  simp -dsimp -implicitDefEqProofs (disch := omega) only [go_sem, hd, e0, e8, e10, h4.cl K, x4, hlt2]
  refine h4.rowSet1 (g := b1) (o := o1) (n := ls.length) (c := cl) (k := i) (v := .slice a4 (qs.length + 1) c4) (by simpa using hi) rfl fun w5 h5 => ?_
  have h9 : St w0 (RowO 48 15 v3 1 (atC (uI i, zHF)) * (RowO 48 15 (.slice a4 (qs.length + 1) c4) (qs.length + 1) (qs.flatMap atC ++ atC (uI i, zHF)) * BookV K vb vc (.slice (some ⟨b1, o1, none⟩) ls.length cl) vn xs ls.length ((ls.map (·.1)).set i (.slice a4 (qs.length + 1) c4)) ns (stars heapL (ls.eraseIdx i) * F))) w5 := h5
  simp -dsimp -implicitDefEqProofs (disch := omega) only [go_sem, hd, e0, e8, e10]
  have hbl : (qs ++ [(uI i, zHF)]).length = qs.length + 1 := by simp
  have hbr : (qs ++ [(uI i, zHF)]).flatMap atC = qs.flatMap atC ++ atC (uI i, zHF) := by simp
  refine hQ _ _ (.slice a4 (qs.length + 1) c4, qs ++ [(uI i, zHF)]) (ok.setL rfl (by show (qs ++ [(uI i, zHF)]).length ≤ _; rw [hbl]; exact hlen) (fun q hq => ?_)) (fun k hk hki q hq => ?_) (by simp -dsimp -implicitDefEqProofs only [go_sem, hd]) (by simp -dsimp -implicitDefEqProofs only [go_sem, e0]) (by simp -dsimp -implicitDefEqProofs only [go_sem, e8]) (by simp -dsimp -implicitDefEqProofs only [go_sem, e10]) (BookU.inL (y := (.slice a4 (qs.length + 1) c4, qs ++ [(uI i, zHF)])) hi ?_)
  · rcases List.mem_append.1 hq with hq | hq
    · exact hcq q hq
    · simp only [List.mem_singleton] at hq; subst hq; rfl
  · rw [List.length_set] at hk
    rw [List.getElem_set] at hq
    split at hq
    · rename_i hki2
      subst hki2
      rcases List.mem_append.1 hq with hq | hq
      · exact hmi q hq
      · simpa using hq
    · exact hm k hk hki q hq
  · show St w0 (RowO 48 15 (.slice a4 (qs.length + 1) c4) (qs ++ [(uI i, zHF)]).length ((qs ++ [(uI i, zHF)]).flatMap atC) * BookV K vb vc (.slice (some ⟨b1, o1, none⟩) ls.length cl) vn xs ls.length ((ls.map (·.1)).set i (.slice a4 (qs.length + 1) c4)) ns (stars heapL (ls.eraseIdx i) * F)) w5
    rw [hbl, hbr]
    exact h9.right
end
end
section
variable {w0 w : World} {F : HP} {K M : Nat}
section
attribute [local go_sem] F29.t9_eq F29.t10_eq F29.t6_eq F29.t7_eq F29.t16_eq F29.t17_eq F29.t13_eq F29.t14_eq F29.t24_eq F29.t25_eq F29.t29_eq F29.t21_eq F29.t22_eq F29.t36_eq F29.t37_eq F29.t33_eq F29.t34_eq F29.t39_eq F29.t31_eq F29.t19_eq F29.t11_eq F29.t4_eq
theorem own_t27 {vb vc vl vn : Value} {xs : List XE} {ls : List LE} {ns : List Int} {e : FA} {Q : Post} {n : Nat} (hM : M ≤ 800000000000) (ok : BookOk (M + 1) xs ls) (hlL : ∀ k (hk : k < ls.length), ls[k].2.length ≤ 256 + M) (hm : LM ls.length ls) (hd : e.ds = []) (e0 : e.ρ 0 = .pointer (some ⟨K, 0, none⟩)) (e8 : e.ρ 8 = .int .i64 n)
    (h : St w0 (BookU K vb vc vl vn xs ls ns F) w)
    (hQ : ∀ e' w' ls', BookOk (M + 1) xs ls' → LM ls'.length ls' → e'.ds = [] → e'.ρ 0 = .pointer (some ⟨K, 0, none⟩) → e'.ρ 8 = .int .i64 n → St w0 (BookU K vb vc vl vn xs ls' ns F) w' → Q .normal e' w') :
    cwE Try.prog F29.t27 Q e w := by
  rw [F29.t27_eq]
  have hfl := ok.fewL
  simp -dsimp -implicitDefEqProofs (disch := omega) only [go_sem, hd, e0, e8]
  refine loop_intro (fun e w' => e.ds = [] ∧ e.ρ 0 = .pointer (some ⟨K, 0, none⟩) ∧ e.ρ 8 = .int .i64 n ∧ ∃ (i : Nat) (ls' : List LE), e.ρ 10 = .int .i64 i ∧ i ≤ ls'.length ∧ ls'.length = ls.length ∧ BookOk (M + 1) xs ls' ∧ LM ls'.length ls' ∧ (∀ k (hk : k < ls'.length), i ≤ k → ls'[k].2.length ≤ 256 + M) ∧
      St w0 (BookU K vb vc vl vn xs ls' ns F) w')
    (fun e _ => match e.ρ 10 with | .int _ n => (ls.length - n).toNat | _ => 0) ?_ ?_
  · exact ⟨by simp -dsimp -implicitDefEqProofs only [go_sem, hd], by simp -dsimp -implicitDefEqProofs only [go_sem, e0], by simp -dsimp -implicitDefEqProofs only [go_sem, e8], 0, ls, by simp -dsimp -implicitDefEqProofs only [go_sem], by omega, rfl, ok, hm, fun k hk _ => hlL k hk, h⟩
  clear h hd e0 e8 ok hm
  rintro e w ⟨hd, e0, e8, i, ls', e10, hi, hll, ok, hm, hlen, h⟩
  obtain ⟨al, cl, rfl, _⟩ := h.rowForm vl
  by_cases hlt : (i : Int) < ls'.length
  case neg =>
    simp -dsimp -implicitDefEqProofs (disch := omega) only [go_sem, hd, e0, e8, e10, h.cl K, hlt]
    exact hQ _ _ ls' ok hm (by simp -dsimp -implicitDefEqProofs only [go_sem, hd]) (by simp -dsimp -implicitDefEqProofs only [go_sem, e0]) (by simp -dsimp -implicitDefEqProofs only [go_sem, e8]) h
  have hil : i < ls'.length := by omega
  simp -dsimp -implicitDefEqProofs (disch := omega) only [go_sem, hd, e0, e8, e10, h.cl K, hlt]
  refine own_t30 (n := n) (by omega) ok hil hm (by have := hlen i hil (Nat.le_refl _); omega) (by simp -dsimp -implicitDefEqProofs only [go_sem, hd]) (by simp -dsimp -implicitDefEqProofs only [go_sem, e0]) (by simp -dsimp -implicitDefEqProofs only [go_sem, e8]) (by simp -dsimp -implicitDefEqProofs only [go_sem, e10]) h fun e' w' y ok' hm' hd' e0' e8' e10' h' => ?_
  refine ⟨⟨hd', e0', e8', i + 1, ls'.set i y, by rw [e10']; rfl, by rw [List.length_set]; omega, by rw [List.length_set]; exact hll, ok', by rw [List.length_set]; exact hm', fun k hk hki => ?_, ?_⟩, ?_⟩
  · rw [List.length_set] at hk
    rw [List.getElem_set_ne (by omega)]
    exact hlen k hk (by omega)
  · exact h'
  · simp -dsimp -implicitDefEqProofs (disch := omega) only [go_sem, e10, e10']
    omega
end
section
attribute [local go_sem] F29.t9_eq F29.t10_eq F29.t6_eq F29.t7_eq F29.t16_eq F29.t17_eq F29.t13_eq F29.t14_eq F29.t24_eq F29.t29_eq F29.t30_eq F29.t21_eq F29.t36_eq F29.t37_eq F29.t33_eq F29.t34_eq F29.t39_eq F29.t31_eq F29.t19_eq F29.t11_eq F29.t4_eq
theorem own_t22 {vb vc vl vn : Value} {xs : List XE} {ls : List LE} {ns : List Int} {e : FA} {Q : Post} {n : Nat} (hM : M ≤ 800000000000) (ok : BookOk M xs ls) (hm : LM ls.length ls) (hn : n < 40) (hd : e.ds = []) (e0 : e.ρ 0 = .pointer (some ⟨K, 0, none⟩)) (e8 : e.ρ 8 = .int .i64 n)
    (h : St w0 (BookU K vb vc vl vn xs ls ns F) w)
    (hQ : ∀ e' w' xs' ls', BookOk (M + 1) xs' ls' → LM ls'.length ls' → e'.ds = [] → e'.ρ 0 = .pointer (some ⟨K, 0, none⟩) → e'.ρ 8 = .int .i64 ((n : Int) + 1) → St w0 (BookU K vb vc vl vn xs' ls' ns F) w' → Q .normal e' w') :
    cwE Try.prog F29.t22 Q e w := by
  rw [F29.t22_eq]
  have hfl := ok.few
  simp -dsimp -implicitDefEqProofs (disch := omega) only [go_sem, hd, e0, e8]
  refine loop_intro (fun e w' => e.ds = [] ∧ e.ρ 0 = .pointer (some ⟨K, 0, none⟩) ∧ e.ρ 8 = .int .i64 n ∧ ∃ (i : Nat) (xs' : List XE), e.ρ 9 = .int .i64 i ∧ i ≤ xs'.length ∧ xs'.length = xs.length ∧ BookOk (M + 1) xs' ls ∧ (∀ k (hk : k < xs'.length), i ≤ k → xs'[k].2.2.length < 1099511627776 + M) ∧
      St w0 (BookU K vb vc vl vn xs' ls ns F) w')
    (fun e _ => match e.ρ 9 with | .int _ n => (xs.length - n).toNat | _ => 0) ?_ ?_
  · exact ⟨by simp -dsimp -implicitDefEqProofs only [go_sem, hd], by simp -dsimp -implicitDefEqProofs only [go_sem, e0], by simp -dsimp -implicitDefEqProofs only [go_sem, e8], 0, xs, by simp -dsimp -implicitDefEqProofs only [go_sem], by omega, rfl, ok.up (by omega), fun k hk _ => (ok.cells _ (List.getElem_mem hk)).2.2, h⟩
  have okL := ok
  clear h hd e0 e8 ok
  rintro e w ⟨hd, e0, e8, i, xs', e9, hi, hll, ok, hlen, h⟩
  obtain ⟨ab, cb, rfl, _⟩ := h.rowForm vb
  by_cases hlt : (i : Int) < xs'.length
  case neg =>
    simp -dsimp -implicitDefEqProofs (disch := omega) only [go_sem, hd, e0, e8, e9, h.cl K, hlt]
    refine own_t27 (n := n) hM ok (fun k hk => (okL.cellsL _ (List.getElem_mem hk)).2.1) hm (by simp -dsimp -implicitDefEqProofs only [go_sem, hd]) (by simp -dsimp -implicitDefEqProofs only [go_sem, e0]) (by simp -dsimp -implicitDefEqProofs only [go_sem, e8]) h fun e' w' ls' ok' hm' hd' e0' e8' h' => ?_
    simp -dsimp -implicitDefEqProofs (disch := omega) only [go_sem, hd', e0', e8']
    exact hQ _ _ xs' ls' ok' hm' (by simp -dsimp -implicitDefEqProofs only [go_sem, hd']) (by simp -dsimp -implicitDefEqProofs only [go_sem, e0']) (by simp -dsimp -implicitDefEqProofs only [go_sem, e8']) h'
  have hil : i < xs'.length := by omega
  simp -dsimp -implicitDefEqProofs (disch := omega) only [go_sem, hd, e0, e8, e9, h.cl K, hlt]
  refine own_t25 (n := n) (by omega) ok hil (by have := hlen i hil (Nat.le_refl _); omega) (by omega) (by simp -dsimp -implicitDefEqProofs only [go_sem, hd]) (by simp -dsimp -implicitDefEqProofs only [go_sem, e0]) (by simp -dsimp -implicitDefEqProofs only [go_sem, e8]) (by simp -dsimp -implicitDefEqProofs only [go_sem, e9]) h fun e' w' y ok' hd' e0' e8' e9' h' => ?_
  refine ⟨⟨hd', e0', e8', i + 1, xs'.set i y, by rw [e9']; rfl, by rw [List.length_set]; omega, by rw [List.length_set]; exact hll, ok', fun k hk hki => ?_, ?_⟩, ?_⟩
  · rw [List.length_set] at hk
    rw [List.getElem_set_ne (by omega)]
    exact hlen k hk (by omega)
  · exact h'
  · simp -dsimp -implicitDefEqProofs (disch := omega) only [go_sem, e9, e9']
    omega
end
section
attribute [local go_sem] F29.t9_eq F29.t10_eq F29.t6_eq F29.t7_eq F29.t16_eq F29.t17_eq F29.t13_eq F29.t14_eq F29.t24_eq F29.t25_eq F29.t29_eq F29.t30_eq F29.t27_eq F29.t21_eq F29.t22_eq F29.t36_eq F29.t37_eq F29.t33_eq F29.t34_eq F29.t39_eq F29.t19_eq F29.t11_eq F29.t4_eq
theorem own_t31 {vb vc vl vn : Value} {xs : List XE} {ls : List LE} {ns : List Int} {e : FA} {N : Nat} (hN : N ≤ 800000000000) (ok : BookOk (N + 40) xs ls) (hm : LM ls.length ls) (hn : ns.length ≤ N) (hd : e.ds = []) (e0 : e.ρ 0 = .pointer (some ⟨K, 0, none⟩))
    (h : St w0 (BookU K vb vc vl vn xs ls ns F) w) : cwE Try.prog F29.t31 (fnP Try.prog #[.tmp 2] fun e w' => St w0 (BookP K (N + 40) * F) w' ∧ e = .returned (.bool true)) e w := by
  rw [F29.t31_eq]
  have hfl := ok.fewL
  obtain ⟨al, cl, rfl, _⟩ := h.rowForm vl
  simp -dsimp -implicitDefEqProofs (disch := omega) only [go_sem, hd, e0]
  refine loop_intro (fun e w' => e.ds = [] ∧ e.ρ 0 = .pointer (some ⟨K, 0, none⟩) ∧ ∃ i : Nat, e.ρ 11 = .int .i64 i ∧ i ≤ ls.length ∧ St w0 (BookU K vb vc (.slice al ls.length cl) vn xs ls ns F) w')
    (fun e _ => match e.ρ 11 with | .int _ n => (ls.length - n).toNat | _ => 0) ?_ ?_
  · exact ⟨by simp -dsimp -implicitDefEqProofs only [go_sem, hd], by simp -dsimp -implicitDefEqProofs only [go_sem, e0], 0, by simp -dsimp -implicitDefEqProofs only [go_sem], by omega, h⟩
  clear h hd e0
  rintro e w ⟨hd, e0, i, e11, hi, h⟩
  by_cases hlt : (i : Int) < ls.length
  case neg =>
    simp -dsimp -implicitDefEqProofs (disch := omega) only [go_sem, hd, e0, e11, h.cl K, hlt]
    refine (still_any (N := N + 40) (by omega) (BookP.mk ok (by omega) h)).mono ?_
    rintro e' w' ⟨h', rfl⟩
    simp -dsimp -implicitDefEqProofs (disch := omega) only [go_sem, hd, e0]
    exact h'
  have hil : i < ls.length := by omega
  simp -dsimp -implicitDefEqProofs (disch := omega) only [go_sem, hd, e0, e11, h.cl K, hlt]
  refine loop_intro (fun e w' => e.ds = [] ∧ e.ρ 0 = .pointer (some ⟨K, 0, none⟩) ∧ e.ρ 11 = .int .i64 i ∧ ∃ j : Nat, e.ρ 12 = .int .i64 j ∧ j ≤ ls[i].2.length ∧ St w0 (BookU K vb vc (.slice al ls.length cl) vn xs ls ns F) w')
    (fun e _ => match e.ρ 12 with | .int _ n => (ls[i].2.length - n).toNat | _ => 0) ?_ ?_
  · exact ⟨by simp -dsimp -implicitDefEqProofs only [go_sem, hd], by simp -dsimp -implicitDefEqProofs only [go_sem, e0], by simp -dsimp -implicitDefEqProofs only [go_sem, e11], 0, by simp -dsimp -implicitDefEqProofs only [go_sem], by omega, h⟩
  have E11 := e11
  clear h hd e0 e11
  rintro e w ⟨hd, e0, e11, j, e12, hj, h⟩
  obtain ⟨b1, o1, rfl, x1⟩ := row1_at h BookU.rL (i := i) (by simpa using hil)
  simp only [List.getElem_map] at x1
  have h1 := BookU.outL hil h
  have hmi := hm i hil hil
  obtain ⟨hcv, hcl, hcq⟩ := ok.cellsL _ (List.getElem_mem hil)
  obtain ⟨⟨vi, qs⟩, hy⟩ : ∃ y, y = ls[i] := ⟨_, rfl⟩
  rw [← hy] at h1 x1 hmi hj hcl
  have hj : j ≤ qs.length := hj
  have hcl : qs.length ≤ 256 + (N + 40) := hcl
  have h1 : St w0 (RowO 48 15 vi qs.length (qs.flatMap atC) * BookV K vb vc (.slice (some ⟨b1, o1, none⟩) ls.length cl) vn xs ls.length (ls.map (·.1)) ns (stars heapL (ls.eraseIdx i) * F)) w := h1
  obtain ⟨ai, ci, rfl, _⟩ := h1.rowForm vi
  by_cases hlt2 : (j : Int) < qs.length
  case neg =>
    simp -dsimp -implicitDefEqProofs (disch := omega) only [go_sem, hd, e0, e11, e12, h.cl K, x1, hlt, hlt2, E11]
    exact ⟨⟨i + 1, by omega, by omega, h⟩, by omega⟩
  have hjl : j < qs.length := by omega
  obtain ⟨_, _, _, hv, _, hcl⟩ := St.rowsAt (k := 15) atC_length (by decide) (h1.left.ent (RowO.reads _ _ _ _ _))
  obtain ⟨bi, oi, hb, _, hc⟩ := hcl j hjl
  simp only [Value.slice.injEq, true_and] at hv
  obtain ⟨rfl, rfl⟩ := hv
  subst hb
  rw [hmi _ (List.getElem_mem hjl)] at hc
  have c0 : w.cell? ⟨bi, oi + j * 15, none⟩ = some (.int .u32 (IntKind.u32.wrap (i : Int))) := hc 0 (by decide)
  have c1 : w.cell? ⟨bi, oi + j * 15 + 1, none⟩ = some (.int .u8 0) := hc 1 (by decide)
  simp -dsimp -implicitDefEqProofs (disch := omega) only [go_sem, hd, e0, e11, e12, h.cl K, x1, hlt, hlt2, c0, c1]
  have hy2 : ls[i].2.length = qs.length := by rw [← hy]
  exact ⟨⟨j + 1, by omega, by omega, h⟩, by omega⟩
end
section
attribute [local go_sem] F29.t9_eq F29.t10_eq F29.t6_eq F29.t7_eq F29.t16_eq F29.t17_eq F29.t13_eq F29.t14_eq F29.t24_eq F29.t25_eq F29.t29_eq F29.t30_eq F29.t27_eq F29.t21_eq F29.t36_eq F29.t37_eq F29.t33_eq F29.t34_eq F29.t39_eq F29.t11_eq F29.t4_eq
theorem own_t19 {vb vc vl vn : Value} {xs : List XE} {ls : List LE} {ns : List Int} {e : FA} {N : Nat} (hN : N ≤ 700000000000) (ok : BookOk N xs ls) (hm : LM ls.length ls) (hn : ns.length ≤ N) (hd : e.ds = []) (e0 : e.ρ 0 = .pointer (some ⟨K, 0, none⟩))
    (h : St w0 (BookU K vb vc vl vn xs ls ns F) w) : cwE Try.prog F29.t19 (fnP Try.prog #[.tmp 2] fun e w' => St w0 (BookP K (N + 40) * F) w' ∧ e = .returned (.bool true)) e w := by
  rw [F29.t19_eq]
  simp -dsimp -implicitDefEqProofs (disch := omega) only [go_sem, hd, e0]
  refine loop_intro (fun e w' => e.ds = [] ∧ e.ρ 0 = .pointer (some ⟨K, 0, none⟩) ∧ ∃ (n : Nat) (xs' : List XE) (ls' : List LE), e.ρ 8 = .int .i64 n ∧ n ≤ 40 ∧ BookOk (N + n) xs' ls' ∧ LM ls'.length ls' ∧ St w0 (BookU K vb vc vl vn xs' ls' ns F) w')
    (fun e _ => match e.ρ 8 with | .int _ n => (40 - n).toNat | _ => 0) ?_ ?_
  · exact ⟨by simp -dsimp -implicitDefEqProofs only [go_sem, hd], by simp -dsimp -implicitDefEqProofs only [go_sem, e0], 0, xs, ls, by simp -dsimp -implicitDefEqProofs only [go_sem], by omega, ok, hm, h⟩
  clear h hd e0 ok hm
  rintro e w ⟨hd, e0, n, xs', ls', e8, hn40, ok, hm, h⟩
  by_cases hlt : (n : Int) < 40
  case neg =>
    have : n = 40 := by omega
    subst this
    simp -dsimp -implicitDefEqProofs (disch := omega) only [go_sem, hd, e0, e8, hlt]
    exact own_t31 (by omega) ok hm hn (by simp -dsimp -implicitDefEqProofs only [go_sem, hd]) (by simp -dsimp -implicitDefEqProofs only [go_sem, e0]) h
  simp -dsimp -implicitDefEqProofs (disch := omega) only [go_sem, hd, e0, e8, hlt]
  refine own_t22 (n := n) (by omega) ok hm (by omega) (by simp -dsimp -implicitDefEqProofs only [go_sem, hd]) (by simp -dsimp -implicitDefEqProofs only [go_sem, e0]) (by simp -dsimp -implicitDefEqProofs only [go_sem, e8]) h fun e' w' xs2 ls2 ok' hm' hd' e0' e8' h' => ?_
  refine ⟨⟨hd', e0', n + 1, xs2, ls2, by rw [e8']; rfl, by omega, ok', hm', h'⟩, ?_⟩
  simp -dsimp -implicitDefEqProofs (disch := omega) only [go_sem, e8, e8']
  omega
end
section
attribute [local go_sem] F29.t9_eq F29.t10_eq F29.t6_eq F29.t7_eq F29.t16_eq F29.t17_eq F29.t13_eq F29.t24_eq F29.t25_eq F29.t29_eq F29.t30_eq F29.t27_eq F29.t21_eq F29.t22_eq F29.t36_eq F29.t37_eq F29.t33_eq F29.t34_eq F29.t39_eq F29.t31_eq F29.t4_eq
theorem own_t11 {vb vc vl vn : Value} {xs : List XE} {ls : List LE} {ns : List Int} {e : FA} {N : Nat} (hN : N ≤ 700000000000) (ok : BookOk N xs ls) (hm : LM ls.length ls) (hn : ns.length ≤ N) (hd : e.ds = []) (e0 : e.ρ 0 = .pointer (some ⟨K, 0, none⟩))
    (h : St w0 (BookU K vb vc vl vn xs ls ns F) w) : cwE Try.prog F29.t11 (fnP Try.prog #[.tmp 2] fun e w' => St w0 (BookP K (N + 40) * F) w' ∧ e = .returned (.bool true)) e w := by
  rw [F29.t11_eq]
  have hfl := ok.few
  simp -dsimp -implicitDefEqProofs (disch := omega) only [go_sem, hd, e0]
  refine loop_intro (fun e w' => e.ds = [] ∧ e.ρ 0 = .pointer (some ⟨K, 0, none⟩) ∧ ∃ (i : Nat) (xs' : List XE), e.ρ 6 = .int .i64 i ∧ i ≤ xs'.length ∧ xs'.length = xs.length ∧ BookOk N xs' ls ∧ St w0 (BookU K vb vc vl vn xs' ls ns F) w')
    (fun e _ => match e.ρ 6 with | .int _ n => (xs.length - n).toNat | _ => 0) ?_ ?_
  · exact ⟨by simp -dsimp -implicitDefEqProofs only [go_sem, hd], by simp -dsimp -implicitDefEqProofs only [go_sem, e0], 0, xs, by simp -dsimp -implicitDefEqProofs only [go_sem], by omega, rfl, ok, h⟩
  clear h hd e0 ok
  rintro e w ⟨hd, e0, i, xs', e6, hi, hll, ok, h⟩
  obtain ⟨ab, cb, rfl, _⟩ := h.rowForm vb
  by_cases hlt : (i : Int) < xs'.length
  case neg =>
    simp -dsimp -implicitDefEqProofs (disch := omega) only [go_sem, hd, e0, e6, h.cl K, hlt]
    exact own_t19 hN ok hm hn (by simp -dsimp -implicitDefEqProofs only [go_sem, hd]) (by simp -dsimp -implicitDefEqProofs only [go_sem, e0]) h
  have hil : i < xs'.length := by omega
  simp -dsimp -implicitDefEqProofs (disch := omega) only [go_sem, hd, e0, e6, h.cl K, hlt]
  refine own_t14 (by omega) ok hil (by simp -dsimp -implicitDefEqProofs only [go_sem, hd]) (by simp -dsimp -implicitDefEqProofs only [go_sem, e0]) (by simp -dsimp -implicitDefEqProofs only [go_sem, e6]) h fun e' w' xs2 ok' hl2 hd' e0' e6' h' => ?_
  refine ⟨⟨hd', e0', i + 1, xs2, by rw [e6']; rfl, by omega, by omega, ok', h'⟩, ?_⟩
  simp -dsimp -implicitDefEqProofs (disch := omega) only [go_sem, e6, e6']
  omega
end
section
attribute [local go_sem] F29.t9_eq F29.t10_eq F29.t6_eq F29.t16_eq F29.t17_eq F29.t13_eq F29.t14_eq F29.t24_eq F29.t25_eq F29.t29_eq F29.t30_eq F29.t27_eq F29.t21_eq F29.t22_eq F29.t36_eq F29.t37_eq F29.t33_eq F29.t34_eq F29.t39_eq F29.t31_eq F29.t19_eq
theorem own_t4 {vb vc vl vn : Value} {xs : List XE} {ls : List LE} {ns : List Int} {e : FA} {N : Nat} (hN : N ≤ 700000000000) (ok : BookOk N xs ls) (hn : ns.length ≤ N) (hd : e.ds = []) (e0 : e.ρ 0 = .pointer (some ⟨K, 0, none⟩))
    (h : St w0 (BookU K vb vc vl vn xs ls ns F) w) : cwE Try.prog F29.t4 (fnP Try.prog #[.tmp 2] fun e w' => St w0 (BookP K (N + 40) * F) w' ∧ e = .returned (.bool true)) e w := by
  rw [F29.t4_eq]
  have hfl := ok.fewL
  simp -dsimp -implicitDefEqProofs (disch := omega) only [go_sem, hd, e0]
  refine loop_intro (fun e w' => e.ds = [] ∧ e.ρ 0 = .pointer (some ⟨K, 0, none⟩) ∧ ∃ (i : Nat) (ls' : List LE), e.ρ 4 = .int .i64 i ∧ i ≤ ls'.length ∧ ls'.length = ls.length ∧ BookOk N xs ls' ∧ LM i ls' ∧ St w0 (BookU K vb vc vl vn xs ls' ns F) w')
    (fun e _ => match e.ρ 4 with | .int _ n => (ls.length - n).toNat | _ => 0) ?_ ?_
  · exact ⟨by simp -dsimp -implicitDefEqProofs only [go_sem, hd], by simp -dsimp -implicitDefEqProofs only [go_sem, e0], 0, ls, by simp -dsimp -implicitDefEqProofs only [go_sem], by omega, rfl, ok, fun k _ hk => absurd hk (by omega), h⟩
  clear h hd e0 ok
  rintro e w ⟨hd, e0, i, ls', e4, hi, hll, ok, hm, h⟩
  obtain ⟨al, cl, rfl, _⟩ := h.rowForm vl
  by_cases hlt : (i : Int) < ls'.length
  case neg =>
    have : i = ls'.length := by omega
    subst this
    simp -dsimp -implicitDefEqProofs (disch := omega) only [go_sem, hd, e0, e4, h.cl K, hlt]
    exact own_t11 hN ok hm hn (by simp -dsimp -implicitDefEqProofs only [go_sem, hd]) (by simp -dsimp -implicitDefEqProofs only [go_sem, e0]) h
  have hil : i < ls'.length := by omega
  simp -dsimp -implicitDefEqProofs (disch := omega) only [go_sem, hd, e0, e4, h.cl K, hlt]
  refine own_t7 (by omega) ok hil hm (by simp -dsimp -implicitDefEqProofs only [go_sem, hd]) (by simp -dsimp -implicitDefEqProofs only [go_sem, e0]) (by simp -dsimp -implicitDefEqProofs only [go_sem, e4]) h fun e' w' ls2 ok' hl2 hm' hd' e0' e4' h' => ?_
  refine ⟨⟨hd', e0', i + 1, ls2, by rw [e4']; rfl, by omega, by omega, ok', hm', h'⟩, ?_⟩
  simp -dsimp -implicitDefEqProofs (disch := omega) only [go_sem, e4, e4']
  omega
end
section
attribute [local go_sem] F29.t9_eq F29.t10_eq F29.t6_eq F29.t7_eq F29.t16_eq F29.t17_eq F29.t13_eq F29.t14_eq F29.t24_eq F29.t25_eq F29.t29_eq F29.t30_eq F29.t27_eq F29.t21_eq F29.t22_eq F29.t36_eq F29.t37_eq F29.t33_eq F29.t34_eq F29.t39_eq F29.t31_eq F29.t19_eq F29.t11_eq
theorem bown_any {N : Nat} (hN : N ≤ 700000000000) (h : St w0 (BookP K N * F) w) :
    Calls Try.prog 29 #[.pointer (some ⟨K, 0, none⟩)] w fun e w' => St w0 (BookP K (N + 40) * F) w' ∧ e = .returned (.bool true) := by
  refine F29.calls (by simp) ?_
  unfold F29.code
  simp -dsimp -implicitDefEqProofs (disch := omega) only [go_sem]
  refine (still_any (N := N) (by omega) h).mono ?_
  rintro e' w1 ⟨h1, rfl⟩
  simp -dsimp -implicitDefEqProofs (disch := omega) only [go_sem]
  obtain ⟨vb, vc, vl, vn, xs, ls, ns, ok, hn, h2⟩ := BookP.open h1
  exact own_t4 hN ok hn (by simp -dsimp -implicitDefEqProofs only [go_sem]) (by simp -dsimp -implicitDefEqProofs only [go_sem]) h2
end
end
def callS (o : OpD) (most : Int) (l : TL) : TL :=
  if o.kind = 6 then walkS o.n o.m o.nd most l else if o.kind = 7 then openS o.n o.nd (and3 o.mode) o.yes l else if o.kind = 8 then toldS o.n o.nd o.last l else l
section
variable {w0 w : World} {F : HP} {P tB rB : Nat} {most : Int} {l : TL} {v : Value} {o : OpD}
section
attribute [local go_sem] F49.t18_eq
theorem calls_5 (hT : Tab most l) (hm : most ≤ 256)  (h : St w0 (PairP P tB rB most l F) w) (hk : o.kind = 5) :
    Calls Try.prog 49 #[.pointer (some ⟨P, 0, none⟩), opV (v, o)] w fun e w' => St w0 (PairP P tB rB most (l) F) w' ∧ e = .returned (.bool true) := by
  have hl : l.length < 1048576 := by have := hT.len; omega
  have hl' : (sortK l).length < 1048576 := by rw [sortK_length]; exact hl
  refine F49.calls (by simp) ?_
  unfold F49.code
  simp -dsimp -implicitDefEqProofs (disch := omega) only [go_sem]
  refine h.new fun X w1 h1 => ?_
  have h1 : St w0 (Blk X (opB (v, o)) * (Blk P (pairB tB rB) * (TabP tB most l * (RefT rB most (sortK l) * F)))) w1 := h1
  obtain ⟨x0, x1, x2, _, x4, x5, x6, x7⟩ := op_facts h1
  obtain ⟨y0, y1, y2, _, y4, y5, y6, y7⟩ := op_facts h1.drew
  rw [hk] at x0 y0
  simp -dsimp -implicitDefEqProofs (disch := omega) only [go_sem, x0, x1, x2, x4, x5, x6, x7, h1.cl P, h1.drew.cl P, y0, y1, y2, y4, y5, y6, y7]
  have h2 : St w0 (TabP tB most l * (Blk X (opB (v, o)) * (Blk P (pairB tB rB) * (RefT rB most (sortK l) * F)))) w1.drew := h1.drew.ac (by ac_rfl)
  refine (room_any (a := o.n) (n := o.m) h2).mono ?_
  rintro e w3 ⟨h3, rfl⟩
  have h4 : St w0 (Blk X (opB (v, o)) * (Blk P (pairB tB rB) * (TabP tB most (l) * (RefT rB most (sortK l) * F)))) w3 := h3.ac (by ac_rfl)
  obtain ⟨x0, x1, x2, _, x4, x5, x6, x7⟩ := op_facts h4
  obtain ⟨y0, y1, y2, _, y4, y5, y6, y7⟩ := op_facts h4.drew
  simp -dsimp -implicitDefEqProofs (disch := omega) only [go_sem, x0, x1, x2, x4, x5, x6, x7, h4.cl P, h4.drew.cl P, y0, y1, y2, y4, y5, y6, y7]
  have h5 : St w0 (RefT rB most (sortK l) * (Blk X (opB (v, o)) * (Blk P (pairB tB rB) * (TabP tB most (l) * F)))) w3.drew := h4.drew.ac (by ac_rfl)
  refine (rroom_any (x := o.n) (n := o.m) h5).mono ?_
  rintro e w6 ⟨h6, rfl⟩
  have h7 : St w0 (Blk X (opB (v, o)) * (Blk P (pairB tB rB) * (TabP tB most (l) * (RefT rB most (sortK l) * F)))) w6 := h6.ac (by ac_rfl)
  obtain ⟨x0, x1, x2, _, x4, x5, x6, x7⟩ := op_facts h7
  simp -dsimp -implicitDefEqProofs (disch := omega) only [go_sem, x0, x1, x2, x4, x5, x6, x7, h7.cl P, roomE_K hT.nd]
  first | exact h7.right | exact ⟨h7.right, trivial⟩
end
section
attribute [local go_sem] F49.t18_eq
theorem calls_6 (hT : Tab most l) (hm : most ≤ 256)  (h : St w0 (PairP P tB rB most l F) w) (hk : o.kind = 6) :
    Calls Try.prog 49 #[.pointer (some ⟨P, 0, none⟩), opV (v, o)] w fun e w' => St w0 (PairP P tB rB most (walkS o.n o.m o.nd most l) F) w' ∧ e = .returned (.bool true) := by
  have hl : l.length < 1048576 := by have := hT.len; omega
  have hl' : (sortK l).length < 1048576 := by rw [sortK_length]; exact hl
  refine F49.calls (by simp) ?_
  unfold F49.code
  simp -dsimp -implicitDefEqProofs (disch := omega) only [go_sem]
  refine h.new fun X w1 h1 => ?_
  have h1 : St w0 (Blk X (opB (v, o)) * (Blk P (pairB tB rB) * (TabP tB most l * (RefT rB most (sortK l) * F)))) w1 := h1
  obtain ⟨x0, x1, x2, _, x4, x5, x6, x7⟩ := op_facts h1
  obtain ⟨y0, y1, y2, _, y4, y5, y6, y7⟩ := op_facts h1.drew
  rw [hk] at x0 y0
  simp -dsimp -implicitDefEqProofs (disch := omega) only [go_sem, x0, x1, x2, x4, x5, x6, x7, h1.cl P, h1.drew.cl P, y0, y1, y2, y4, y5, y6, y7]
  have h2 : St w0 (TabP tB most l * (Blk X (opB (v, o)) * (Blk P (pairB tB rB) * (RefT rB most (sortK l) * F)))) w1.drew := h1.drew.ac (by ac_rfl)
  refine (walk_any (a := o.n) (n := o.m) (nd := o.nd) h2).mono ?_
  rintro e w3 ⟨h3, rfl⟩
  have h4 : St w0 (Blk X (opB (v, o)) * (Blk P (pairB tB rB) * (TabP tB most (walkS o.n o.m o.nd most l) * (RefT rB most (sortK l) * F)))) w3 := h3.ac (by ac_rfl)
  obtain ⟨x0, x1, x2, _, x4, x5, x6, x7⟩ := op_facts h4
  obtain ⟨y0, y1, y2, _, y4, y5, y6, y7⟩ := op_facts h4.drew
  simp -dsimp -implicitDefEqProofs (disch := omega) only [go_sem, x0, x1, x2, x4, x5, x6, x7, h4.cl P, h4.drew.cl P, y0, y1, y2, y4, y5, y6, y7]
  have h5 : St w0 (RefT rB most (sortK l) * (Blk X (opB (v, o)) * (Blk P (pairB tB rB) * (TabP tB most (walkS o.n o.m o.nd most l) * F)))) w3.drew := h4.drew.ac (by ac_rfl)
  refine (rwalk_any (x := o.n) (n := o.m) (nd := o.nd) h5 hl').mono ?_
  rintro e w6 ⟨h6, rfl⟩
  have h7 : St w0 (Blk X (opB (v, o)) * (Blk P (pairB tB rB) * (TabP tB most (walkS o.n o.m o.nd most l) * (RefT rB most (rwalkS o.n o.m o.nd most (sortK l)) * F)))) w6 := h6.ac (by ac_rfl)
  obtain ⟨x0, x1, x2, _, x4, x5, x6, x7⟩ := op_facts h7
  simp -dsimp -implicitDefEqProofs (disch := omega) only [go_sem, x0, x1, x2, x4, x5, x6, x7, h7.cl P, walkE_K hT.nd]
  rw [← walkS_K hT.nd] at h7
  first | exact h7.right | exact ⟨h7.right, trivial⟩
end
section
attribute [local go_sem] F49.t18_eq
theorem calls_7 (hT : Tab most l) (hm : most ≤ 256) (hmd : 0 ≤ o.mode ∧ o.mode < 256) (h : St w0 (PairP P tB rB most l F) w) (hk : o.kind = 7) :
    Calls Try.prog 49 #[.pointer (some ⟨P, 0, none⟩), opV (v, o)] w fun e w' => St w0 (PairP P tB rB most (openS o.n o.nd (and3 o.mode) o.yes l) F) w' ∧ e = .returned (.bool true) := by
  have hl : l.length < 1048576 := by have := hT.len; omega
  have hl' : (sortK l).length < 1048576 := by rw [sortK_length]; exact hl
  refine F49.calls (by simp) ?_
  unfold F49.code
  simp -dsimp -implicitDefEqProofs (disch := omega) only [go_sem]
  refine h.new fun X w1 h1 => ?_
  have h1 : St w0 (Blk X (opB (v, o)) * (Blk P (pairB tB rB) * (TabP tB most l * (RefT rB most (sortK l) * F)))) w1 := h1
  obtain ⟨x0, x1, x2, _, x4, x5, x6, x7⟩ := op_facts h1
  obtain ⟨y0, y1, y2, _, y4, y5, y6, y7⟩ := op_facts h1.drew
  rw [hk] at x0 y0
  simp -dsimp -implicitDefEqProofs (disch := omega) only [go_sem, x0, x1, x2, x4, x5, x6, x7, h1.cl P, h1.drew.cl P, y0, y1, y2, y4, y5, y6, y7]
  have h2 : St w0 (TabP tB most l * (Blk X (opB (v, o)) * (Blk P (pairB tB rB) * (RefT rB most (sortK l) * F)))) w1.drew := h1.drew.ac (by ac_rfl)
  refine (open_any (n := o.n) (nd := o.nd) (md := o.mode) (rm := o.yes) h2).mono ?_
  rintro e w3 ⟨h3, rfl⟩
  have h4 : St w0 (Blk X (opB (v, o)) * (Blk P (pairB tB rB) * (TabP tB most (openS o.n o.nd (and3 o.mode) o.yes l) * (RefT rB most (sortK l) * F)))) w3 := h3.ac (by ac_rfl)
  obtain ⟨x0, x1, x2, _, x4, x5, x6, x7⟩ := op_facts h4
  obtain ⟨y0, y1, y2, _, y4, y5, y6, y7⟩ := op_facts h4.drew
  simp -dsimp -implicitDefEqProofs (disch := omega) only [go_sem, x0, x1, x2, x4, x5, x6, x7, h4.cl P, h4.drew.cl P, y0, y1, y2, y4, y5, y6, y7]
  have h5 : St w0 (RefT rB most (sortK l) * (Blk X (opB (v, o)) * (Blk P (pairB tB rB) * (TabP tB most (openS o.n o.nd (and3 o.mode) o.yes l) * F)))) w3.drew := h4.drew.ac (by ac_rfl)
  refine (ropen_any (n := o.n) (nd := o.nd) (md := o.mode) (rm := o.yes) hmd h5).mono ?_
  rintro e w6 ⟨h6, rfl⟩
  have h7 : St w0 (Blk X (opB (v, o)) * (Blk P (pairB tB rB) * (TabP tB most (openS o.n o.nd (and3 o.mode) o.yes l) * (RefT rB most (ropenS o.n o.nd (o.mode.tmod 4) o.yes (sortK l)) * F)))) w6 := h6.ac (by ac_rfl)
  obtain ⟨x0, x1, x2, _, x4, x5, x6, x7⟩ := op_facts h7
  simp -dsimp -implicitDefEqProofs (disch := omega) only [go_sem, x0, x1, x2, x4, x5, x6, x7, h7.cl P, openE_K hT.nd]
  rw [← and3_mod hmd, ← openS_K hT.nd] at h7
  first | exact h7.right | exact ⟨h7.right, trivial⟩
end
section
attribute [local go_sem] F49.t18_eq
theorem calls_8 (hT : Tab most l) (hm : most ≤ 256)  (h : St w0 (PairP P tB rB most l F) w) (hk : o.kind = 8) :
    Calls Try.prog 49 #[.pointer (some ⟨P, 0, none⟩), opV (v, o)] w fun e w' => St w0 (PairP P tB rB most (toldS o.n o.nd o.last l) F) w' ∧ e = .returned (.bool true) := by
  have hl : l.length < 1048576 := by have := hT.len; omega
  have hl' : (sortK l).length < 1048576 := by rw [sortK_length]; exact hl
  refine F49.calls (by simp) ?_
  unfold F49.code
  simp -dsimp -implicitDefEqProofs (disch := omega) only [go_sem]
  refine h.new fun X w1 h1 => ?_
  have h1 : St w0 (Blk X (opB (v, o)) * (Blk P (pairB tB rB) * (TabP tB most l * (RefT rB most (sortK l) * F)))) w1 := h1
  obtain ⟨x0, x1, x2, _, x4, x5, x6, x7⟩ := op_facts h1
  obtain ⟨y0, y1, y2, _, y4, y5, y6, y7⟩ := op_facts h1.drew
  rw [hk] at x0 y0
  simp -dsimp -implicitDefEqProofs (disch := omega) only [go_sem, x0, x1, x2, x4, x5, x6, x7, h1.cl P, h1.drew.cl P, y0, y1, y2, y4, y5, y6, y7]
  have h2 : St w0 (TabP tB most l * (Blk X (opB (v, o)) * (Blk P (pairB tB rB) * (RefT rB most (sortK l) * F)))) w1.drew := h1.drew.ac (by ac_rfl)
  refine (toldF_any (n := o.n) (last := o.nd) (told := o.last) h2).mono ?_
  rintro e w3 ⟨h3, rfl⟩
  have h4 : St w0 (Blk X (opB (v, o)) * (Blk P (pairB tB rB) * (TabP tB most (toldS o.n o.nd o.last l) * (RefT rB most (sortK l) * F)))) w3 := h3.ac (by ac_rfl)
  obtain ⟨x0, x1, x2, _, x4, x5, x6, x7⟩ := op_facts h4
  obtain ⟨y0, y1, y2, _, y4, y5, y6, y7⟩ := op_facts h4.drew
  simp -dsimp -implicitDefEqProofs (disch := omega) only [go_sem, x0, x1, x2, x4, x5, x6, x7, h4.cl P, h4.drew.cl P, y0, y1, y2, y4, y5, y6, y7]
  have h5 : St w0 (RefT rB most (sortK l) * (Blk X (opB (v, o)) * (Blk P (pairB tB rB) * (TabP tB most (toldS o.n o.nd o.last l) * F)))) w3.drew := h4.drew.ac (by ac_rfl)
  refine (rtold_any (n := o.n) (la := o.nd) (tb := o.last) h5).mono ?_
  rintro e w6 ⟨h6, rfl⟩
  have h7 : St w0 (Blk X (opB (v, o)) * (Blk P (pairB tB rB) * (TabP tB most (toldS o.n o.nd o.last l) * (RefT rB most (toldS o.n o.nd o.last (sortK l)) * F)))) w6 := h6.ac (by ac_rfl)
  obtain ⟨x0, x1, x2, _, x4, x5, x6, x7⟩ := op_facts h7
  simp -dsimp -implicitDefEqProofs (disch := omega) only [go_sem, x0, x1, x2, x4, x5, x6, x7, h7.cl P, toldE_K hT.nd]
  rw [← toldS_K hT.nd] at h7
  first | exact h7.right | exact ⟨h7.right, trivial⟩
end
section
attribute [local go_sem] F49.t18_eq
theorem calls_11 (hT : Tab most l) (hm : most ≤ 256) (h : St w0 (PairP P tB rB most l F) w) (hk : o.kind = 11) :
    Calls Try.prog 49 #[.pointer (some ⟨P, 0, none⟩), opV (v, o)] w fun e w' => St w0 (PairP P tB rB most l F) w' ∧ e = .returned (.bool true) := by
  have hl : l.length < 1048576 := by have := hT.len; omega
  refine F49.calls (by simp) ?_
  unfold F49.code
  simp -dsimp -implicitDefEqProofs (disch := omega) only [go_sem]
  refine h.new fun X w1 h1 => ?_
  have h1 : St w0 (Blk X (opB (v, o)) * (Blk P (pairB tB rB) * (TabP tB most l * (RefT rB most (sortK l) * F)))) w1 := h1
  obtain ⟨x0, x1, x2, _, x4, x5, x6, x7⟩ := op_facts h1
  rw [hk] at x0
  simp -dsimp -implicitDefEqProofs (disch := omega) only [go_sem, x0, h1.cl P]
  refine (count_any (h1.ac (show _ = TabP tB most l * (Blk X (opB (v, o)) * (Blk P (pairB tB rB) * (RefT rB most (sortK l) * F))) by ac_rfl))).mono ?_
  rintro e w3 ⟨h3, rfl⟩
  have h4 : St w0 (Blk X (opB (v, o)) * (Blk P (pairB tB rB) * (TabP tB most l * (RefT rB most (sortK l) * F)))) w3 := h3.ac (by ac_rfl)
  obtain ⟨x0, x1, x2, _, x4, x5, x6, x7⟩ := op_facts h4
  obtain ⟨y0, y1, y2, _, y4, y5, y6, y7⟩ := op_facts h4.drew
  simp -dsimp -implicitDefEqProofs (disch := omega) only [go_sem, x4, y4, h4.cl P, h4.drew.cl P]
  refine (opens_any (nd := o.nd) (h4.drew.ac (show _ = TabP tB most l * (Blk X (opB (v, o)) * (Blk P (pairB tB rB) * (RefT rB most (sortK l) * F))) by ac_rfl)) (by omega)).mono ?_
  rintro e w5 ⟨h5, rfl⟩
  have h6 : St w0 (Blk X (opB (v, o)) * (Blk P (pairB tB rB) * (TabP tB most l * (RefT rB most (sortK l) * F)))) w5 := h5.ac (by ac_rfl)
  obtain ⟨x0, x1, x2, _, x4, x5, x6, x7⟩ := op_facts h6
  obtain ⟨y0, y1, y2, _, y4, y5, y6, y7⟩ := op_facts h6.drew
  simp -dsimp -implicitDefEqProofs (disch := omega) only [go_sem, x4, y4, h6.cl P, h6.drew.cl P]
  refine (rcount_any (h6.drew.ac (show _ = RefT rB most (sortK l) * (Blk X (opB (v, o)) * (Blk P (pairB tB rB) * (TabP tB most l * F))) by ac_rfl))).mono ?_
  rintro e w7 ⟨h7, rfl⟩
  have h8 : St w0 (Blk X (opB (v, o)) * (Blk P (pairB tB rB) * (TabP tB most l * (RefT rB most (sortK l) * F)))) w7 := h7.ac (by ac_rfl)
  obtain ⟨x0, x1, x2, _, x4, x5, x6, x7⟩ := op_facts h8
  simp -dsimp -implicitDefEqProofs (disch := omega) only [go_sem, x4, h8.cl P, sortK_length]
  refine (ropens_any (nd := o.nd) (h8.ac (show _ = RefT rB most (sortK l) * (Blk X (opB (v, o)) * (Blk P (pairB tB rB) * (TabP tB most l * F))) by ac_rfl))).mono ?_
  rintro e w9 ⟨h9, rfl⟩
  have h10 : St w0 (Blk X (opB (v, o)) * (Blk P (pairB tB rB) * (TabP tB most l * (RefT rB most (sortK l) * F)))) w9 := h9.ac (by ac_rfl)
  obtain ⟨x0, x1, x2, _, x4, x5, x6, x7⟩ := op_facts h10
  simp -dsimp -implicitDefEqProofs (disch := omega) only [go_sem, x4, h10.cl P, sortK_length, opensN_sortK hT.nd]
  first | exact h10.right | exact ⟨h10.right, trivial⟩
end
section
attribute [local go_sem] F49.t18_eq
theorem calls_no (h : St w0 (PairP P tB rB most l F) w) (k5 : o.kind ≠ 5) (k6 : o.kind ≠ 6) (k7 : o.kind ≠ 7) (k8 : o.kind ≠ 8) (k11 : o.kind ≠ 11) :
    Calls Try.prog 49 #[.pointer (some ⟨P, 0, none⟩), opV (v, o)] w fun e w' => St w0 (PairP P tB rB most l F) w' ∧ e = .returned (.bool true) := by
  refine F49.calls (by simp) ?_
  unfold F49.code
  simp -dsimp -implicitDefEqProofs (disch := omega) only [go_sem]
  refine h.new fun X w1 h1 => ?_
  have h1 : St w0 (Blk X (opB (v, o)) * PairP P tB rB most l F) w1 := h1
  obtain ⟨x0, _⟩ := op_facts h1
  simp -dsimp -implicitDefEqProofs (disch := omega) only [go_sem, x0, k5, k6, k7, k8, k11]
  exact h1.right
theorem calls_any (hT : Tab most l) (hm : most ≤ 256) (hmd : 0 ≤ o.mode ∧ o.mode < 256) (h : St w0 (PairP P tB rB most l F) w) :
    Calls Try.prog 49 #[.pointer (some ⟨P, 0, none⟩), opV (v, o)] w fun e w' => St w0 (PairP P tB rB most (callS o most l) F) w' ∧ e = .returned (.bool true) := by
  unfold callS
  by_cases k6 : o.kind = 6
  · rw [if_pos k6]; exact calls_6 hT hm h k6
  rw [if_neg k6]
  by_cases k7 : o.kind = 7
  · rw [if_pos k7]; exact calls_7 hT hm hmd h k7
  rw [if_neg k7]
  by_cases k8 : o.kind = 8
  · rw [if_pos k8]; exact calls_8 hT hm h k8
  rw [if_neg k8]
  by_cases k5 : o.kind = 5
  · exact calls_5 hT hm h k5
  by_cases k11 : o.kind = 11
  · exact calls_11 hT hm h k11
  · exact calls_no h k5 k6 k7 k8 k11
end
end
theorem AtP.rows {v : Value} {qs : FPs} : Ent (AtP v qs) (Reads 15 v qs.length (qs.flatMap atC)) := by unfold AtP; exact (Ent.left _ _).trans (RowO.reads _ _ _ _ _)
theorem AtP.heard {v : Value} {qs : FPs} {x : Int × HF} (hx : x ∈ qs) : Ent (AtP v qs) (HeardR x.2) := by unfold AtP; exact (Ent.right _ _).trans (hearts_mem hx)
theorem AtP.ok {w0 w : World} {F : HP} {v : Value} {qs : FPs} (h : St w0 (AtP v qs * F) w) : ∀ x ∈ qs, Okf x.2 := hearts_ok (F := RowO 48 15 v qs.length (qs.flatMap atC) * F) (h.ac (by unfold AtP; ac_rfl))
theorem AtP.form {w0 w : World} {F : HP} {v : Value} {qs : FPs} (h : St w0 (AtP v qs * F) w) : ∃ a c, v = .slice a qs.length c := by
  obtain ⟨a, c, hv, _⟩ := (h.ac (show _ = RowO 48 15 v qs.length (qs.flatMap atC) * (hearts qs * F) by unfold AtP; ac_rfl)).rowForm v
  exact ⟨a, c, hv⟩
theorem amap_len {l : TL} {qs : FPs} (h : amap (·.2) qs = l) : qs.length = l.length := by rw [← h]; simp [amap]
section
variable {w0 w : World} {F : HP} {P tB rB K N : Nat} {most : Int} {l : TL}
section
attribute [local go_sem] F27.t4_eq
theorem whole_any (hT : Tab most l) (hm : most ≤ 256) (hN : N ≤ 999999990000) (h : St w0 (PairP P tB rB most l (BookP K N * F)) w) :
    Calls Try.prog 27 #[.pointer (some ⟨P, 0, none⟩), .pointer (some ⟨K, 0, none⟩)] w fun e w' => St w0 (PairP P tB rB most l (BookP K (N + 257) * F)) w' ∧ e = .returned (.bool true) := by
  have hl := hT.len
  refine F27.calls (by simp) ?_
  unfold F27.code
  simp -dsimp -implicitDefEqProofs (disch := omega) only [go_sem, h.cl P]
  refine (clone_any (h.ac (show _ = TabP tB most l * (Blk P (pairB tB rB) * (RefT rB most (sortK l) * (BookP K N * F))) by unfold PairP; ac_rfl))).mono ?_
  rintro e w1 ⟨C, l', hp, h1, rfl⟩
  simp -dsimp -implicitDefEqProofs (disch := omega) only [go_sem, h1.cl P]
  have hsk : sortK l' = sortK l := sortK_of_perm hp hT.nd
  have hll : l'.length = l.length := hp.length_eq
  refine (count_any (h1.ac (show _ = TabP tB most l * (Blk P (pairB tB rB) * (RefT rB most (sortK l) * (TabP C most l' * (BookP K N * F)))) by ac_rfl))).mono ?_
  rintro e w2 ⟨h2, rfl⟩
  simp -dsimp -implicitDefEqProofs (disch := omega) only [go_sem]
  refine (clear_any (h2.ac (show _ = TabP C most l' * (TabP tB most l * (Blk P (pairB tB rB) * (RefT rB most (sortK l) * (BookP K N * F)))) by ac_rfl)) (by omega)).mono ?_
  rintro e w3 ⟨v, qs, hqs, h3, rfl⟩
  simp -dsimp -implicitDefEqProofs (disch := omega) only [go_sem, h3.cl P]
  refine (rall_any (h3.ac (show _ = RefT rB most (sortK l) * (AtP v qs * (TabP C most [] * (TabP tB most l * (Blk P (pairB tB rB) * (BookP K N * F))))) by ac_rfl))).mono ?_
  rintro e w4 ⟨v', qs', hqs', h4, rfl⟩
  simp -dsimp -implicitDefEqProofs (disch := omega) only [go_sem]
  have hq1 := amap_len hqs
  have hq2 := amap_len hqs'
  rw [hsk, sortK_length] at hq1
  rw [sortK_length] at hq2
  have hok := AtP.ok h4
  refine (blist_any (K := K) (N := N) (v := v) (u := v') (qs := qs) (qw := qs') (F := AtP v' qs' * (TabP C most [] * (TabP tB most l * (Blk P (pairB tB rB) * (RefT rB most (sortK l) * F))))) (by omega) (by omega) (by rw [hqs, hqs', hsk]) ((Ent.left _ _).trans AtP.rows) (fun x hx => ⟨(hok x hx).1, (Ent.left _ _).trans (AtP.heard hx)⟩) (h4.ac (by ac_rfl))).mono ?_
  rintro e w5 ⟨h5, rfl⟩
  simp -dsimp -implicitDefEqProofs (disch := omega) only [go_sem, h5.cl P]
  refine (rcount_any (h5.ac (show _ = RefT rB most (sortK l) * (BookP K (N + 257) * (AtP v' qs' * (TabP C most [] * (TabP tB most l * (Blk P (pairB tB rB) * F))))) by ac_rfl))).mono ?_
  rintro e w6 ⟨h6, rfl⟩
  simp -dsimp -implicitDefEqProofs (disch := omega) only [go_sem, sortK_length]
  exact (h6.ac (show _ = AtP v' qs' * (TabP C most [] * (PairP P tB rB most l (BookP K (N + 257) * F))) by unfold PairP; ac_rfl)).right.right
end
end
def IterOkS {α : Type} (P : Program) (w0 : World) (gf : Nat) (lb : Array Value) (Pass : α → Array Value → HP) (Ok S : List α → Prop) (Tb : List α → HP) (G G' : HP) : Prop :=
  ∀ (l : Nat) (w1 : World) (J X : List α → HP), (∃ K : List α → HP, ∀ pre, J pre = K pre * Tb pre) → YieldsTo P w0 l Pass Ok J X → St w0 (J [] * G) w1 →
    Calls P gf (#[.func (.yield l) #[] #[]] ++ lb) w1 fun e w' => (∃ v, e = .returned v) ∧ ((∃ xs, S xs ∧ St w0 (J xs * G') w') ∨ ∃ pre, St w0 (X pre * G') w')
theorem range_introS {α : Type} {P : Program} {w0 w : World} {F G G' : HP} {e : FA} {g : Operand} {ps : Array Tmp} {asg body : Cd} {Q : Post} {θ : Tag ((.rangeFunc g ps asg body : Cd), Q, e, w)} (h : St w0 F w) {gf : Nat} {lb : Array Value}
    (hg : e.ev g = .func (.func gf) #[] lb) (hf : fnOk P gf = true) {Pass : α → Array Value → HP} {Ok S : List α → Prop} (J : List α → HP) (X : Code → List α → HP) (h0 : Ent F (J [] * G))
    (hround : RoundOkA P w0 e ps asg body Pass Ok J X) (K : List α → HP) (Tb : List α → HP) (hJ : ∀ pre, J pre = K pre * Tb pre) (hcall : IterOkS P w0 gf lb Pass Ok S Tb G G')
    (hdone : ∀ (D : Nat) (xs : List α) (w' : World), S xs → St w0 (Blk D (.deferred (some [])) * (J xs * G')) w' → Q .normal { e with ds := { target := .collected D, args := #[] } :: e.ds } w')
    (hstop : ∀ (D : Nat) (c : Code) (pre : List α) (w' : World), St w0 (Blk D (.deferred (some [])) * (X c pre * G')) w' → jumpP Q (some c) { e with ds := { target := .collected D, args := #[] } :: e.ds } w') :
    cwE P (.rangeFunc g ps asg body) Q e w θ := by
  refine ⟨fun l h => (by cases h), gf, lb, hg, hf, fun Rec hrec => ?_⟩
  have h1 := (h.ent h0).alloc (.deferred (some []))
  have h2 := h1.alloc (Rec .ready none)
  have hs : (w.alloc (.deferred (some []))).heap.size = w.heap.size + 1 := World.size_alloc _ _
  rw [hs] at h2
  have hy := mk_yieldsA (Dp := Blk w.heap.size (.deferred (some []))) hround hrec
  refine (hcall _ _ _ _ ⟨fun pre => Blk (loopAt none w Rec).1 (Rec .ready none) * (Blk w.heap.size (.deferred (some [])) * K pre), fun pre => by show Blk _ _ * (Blk _ _ * J pre) = (Blk _ _ * (Blk _ _ * K pre)) * Tb pre; rw [hJ]; ac_rfl⟩ hy (h2.ac ?_)).mono ?_
  · simp only [loopAt]; ac_rfl
  · rintro ex W ⟨⟨v, rfl⟩, hq⟩
    rcases hq with ⟨xs, hS, hq⟩ | ⟨pre, hq⟩
    · have h3 : St w0 (Blk (w.heap.size + 1) (Rec .ready none) * (Blk w.heap.size (.deferred (some [])) * (J xs * G'))) W := hq.ac (by simp only [loopAt]; ac_rfl)
      exact ⟨.ready, none, h3.blk, by simp, hdone _ xs _ hS (h3.putObj (Rec .exhausted none)).right⟩
    · have hq := hq
      obtain ⟨c, hq⟩ := St.exF hq
      have h3 : St w0 (Blk (w.heap.size + 1) (Rec .done (some c)) * (Blk w.heap.size (.deferred (some [])) * (X c pre * G'))) W := hq.ac (by simp only [loopAt]; ac_rfl)
      exact ⟨.done, some c, h3.blk, by simp, hstop _ c pre _ (h3.putObj (Rec .exhausted (some c))).right⟩
section
attribute [local go_sem] F54.t4_eq F54.t2_eq
theorem allIterT {w0 : World} {K B : Nat} {most : Int} {l : TL} {Tb : TL → HP} {R : HP} (hT0 : Tb [] = AllB K B most l) (hl : l.length ≤ 1048576) :
    IterOkS Try.prog w0 54 #[.pointer (some ⟨K, 0, none⟩)] PassA (fun pre => ∃ post, pre ++ post = sortK l) (fun xs => xs = sortK l) Tb R R := by
  rintro q w1 J X ⟨Kf, hJ⟩ hy h
  show Calls _ 54 #[.func (.yield q) #[] #[], .pointer (some ⟨K, 0, none⟩)] w1 _
  have h1 : St w0 (TabP B most l * (Blk K (.cells #[.pointer (some ⟨B, 0, none⟩)] 22 (0, 0)) * (Kf [] * R))) w1 := by
    rw [hJ, hT0] at h
    exact h.ac (by unfold AllB; ac_rfl)
  refine F54.calls (by simp) ?_
  unfold F54.code
  simp -dsimp -implicitDefEqProofs (disch := omega) only [go_sem, h1.cl K]
  refine (list_any h1 hl).mono ?_
  rintro e w2 ⟨v, qs, hqs, h2, rfl⟩
  have h3 : St w0 (RowO 48 15 v qs.length (qs.flatMap atC) * (hearts qs * (J [] * R))) w2 := h2.ac (by rw [hJ, hT0]; unfold AtP AllB; ac_rfl)
  obtain ⟨a, c, rfl, _⟩ := h3.rowForm v
  simp -dsimp -implicitDefEqProofs (disch := omega) only [go_sem]
  refine loop_intro (fun e w' => e.ds = [] ∧ e.ρ 0 = .func (.yield q) #[] #[] ∧ e.ρ 6 = .slice a qs.length c ∧ e.ρ 7 = .int .i64 qs.length ∧ ∃ (done left : FPs), done ++ left = qs ∧ e.ρ 8 = .int .i64 done.length ∧
      St w0 (RowO 48 15 (.slice a qs.length c) qs.length (qs.flatMap atC) * (hearts left * (J (amap (·.2) done) * R))) w')
    (fun e _ => match e.ρ 8 with | .int _ n => (qs.length - n).toNat | _ => 0) ?_ ?_
  · exact ⟨rfl, by simp -dsimp -implicitDefEqProofs only [go_sem], by simp -dsimp -implicitDefEqProofs only [go_sem], by simp -dsimp -implicitDefEqProofs only [go_sem], [], qs, rfl, by (simp -dsimp -implicitDefEqProofs only [go_sem]); rfl, h3⟩
  rintro e w4 ⟨hd, e0, e6, e7, done, left, hdl, e8, h4⟩
  cases left with
  | nil =>
    have hlt : ¬ (done.length : Int) < qs.length := by rw [← hdl]; simp
    simp -dsimp -implicitDefEqProofs (disch := omega) only [go_sem, hd, e0, e6, e7, e8, hlt]
    refine ⟨⟨_, rfl⟩, .inl ⟨amap (·.2) done, ?_, h4.right.right⟩⟩
    rw [← hqs, ← hdl, List.append_nil]
  | cons x left =>
    have hil : done.length < qs.length := by rw [← hdl]; simp
    have hlt : (done.length : Int) < qs.length := by omega
    have hx : qs[done.length] = x := by
      have : qs[done.length]? = some x := by rw [← hdl]; simp
      rw [List.getElem?_eq_getElem hil] at this
      simpa using this
    obtain ⟨_, a', c', hv, _, hcl⟩ := St.rowsAt (k := 15) atC_length (by decide) (h4.gives (B := Reads 15 (.slice a qs.length c) qs.length (qs.flatMap atC)))
    simp only [Value.slice.injEq, true_and] at hv
    obtain ⟨rfl, rfl⟩ := hv
    obtain ⟨b, o, rfl, hrow, _⟩ := hcl done.length hil
    rw [hx] at hrow
    have hbound : qs.length ≤ 1048576 := by
      have := congrArg List.length hqs
      rw [sortK_length] at this
      simp only [amap, List.length_map] at this
      omega
    obtain ⟨hok, h5⟩ := hearts_cons (h4.ac (by ac_rfl : _ = hearts (x :: left) * (RowO 48 15 (.slice (some ⟨b, o, none⟩) qs.length c) qs.length (qs.flatMap atC) * (J (amap (·.2) done) * R))))
    obtain ⟨n, v, f⟩ := x
    simp -dsimp -implicitDefEqProofs (disch := omega) only [go_sem, hd, e0, e6, e7, e8, hlt, hrow]
    refine h5.new fun X1 w5 h6 => ?_
    simp -dsimp -implicitDefEqProofs (disch := omega) only [go_sem]
    refine h6.stoAll (b := X1) (cs := atC (n, (v, f))) rfl rfl (atC_cells hok.1) fun w6 h7 => ?_
    have hc7 := h7.cl X1
    have hr7 := h7.rowAtH X1 1 14 (by simp [atC, fdC])
    simp only [atC, fdC, List.drop_succ_cons, List.drop_zero, List.take_succ_cons, List.take_zero] at hc7 hr7
    simp -dsimp -implicitDefEqProofs (disch := omega) only [go_sem, hd, e0, e6, e7, e8, hc7, hr7]
    have h8 : St w0 (HeardP (v, f) * (hearts left * (RowO 48 15 (.slice (some ⟨b, o, none⟩) qs.length c) qs.length (qs.flatMap atC) * (J (amap (·.2) done) * R)))) w6 := h7.right
    have h9 := h8.ent (Ent.sep ((Ent.fact (p := (#[encU n, fdV (v, f)] : Array Value) = #[encU n, fdV (v, f)] ∧ Okf (v, f)) ⟨rfl, hok⟩ (HeardP (v, f))).trans (Ent.ex (fun v' : Value => HP.fact ((#[encU n, fdV (v, f)] : Array Value) = #[encU n, fdV (v', f)] ∧ Okf (v', f)) (HeardP (v', f))) v)) (Ent.rfl' _))
    have h10 : St w0 (J (amap (·.2) done) * (PassA (n, f) #[encU n, fdV (v, f)] * (hearts left * (RowO 48 15 (.slice (some ⟨b, o, none⟩) qs.length c) qs.length (qs.flatMap atC) * R)))) w6 := h9.ac (by show PassA (n, f) #[encU n, fdV (v, f)] * _ = _; ac_rfl)
    have hpre : amap (fun x : HF => x.2) done ++ [(n, f)] = amap (fun x : HF => x.2) (done ++ [(n, (v, f))]) := by simp [amap]
    refine (hy _ _ (n, f) _ _ ⟨amap (·.2) left, by rw [← hqs, ← hdl]; simp [amap]⟩ h10).mono ?_
    rintro e' w7 (⟨rfl, h11⟩ | ⟨rfl, h11⟩)
    · simp -dsimp -implicitDefEqProofs (disch := omega) only [go_sem, hd, e0, e6, e7, e8]
      refine ⟨⟨done ++ [(n, (v, f))], left, by rw [← hdl]; simp, by simp, ?_⟩, by omega⟩
      rw [← hpre]
      exact h11.ac (by ac_rfl)
    · simp -dsimp -implicitDefEqProofs (disch := omega) only [go_sem, hd, e0, e6, e7, e8]
      refine ⟨⟨_, rfl⟩, .inr ⟨_, (h11.ac (by ac_rfl : _ = hearts left * (RowO 48 15 (.slice (some ⟨b, o, none⟩) qs.length c) qs.length (qs.flatMap atC) * (X (amap (fun x : HF => x.2) done ++ [(n, f)]) * R)))).right.right⟩⟩
def mkA : List Nat → HP
  | [] => EmpH
  | M :: Ms => Blk M (.deferred (some [])) * mkA Ms
abbrev mkF (Ms : List Nat) : List Deferred := Ms.map fun M => ({ target := .collected M, args := #[] } : Deferred)
theorem marks_ret {P : Program} {w0 : World} {Ms : List Nat} {F : HP} {K : World → Prop} : ∀ {w : World}, St w0 (mkA Ms * F) w → (∀ w', St w0 F w' → K w') → retD P (mkF Ms) K w := by
  induction Ms with
  | nil => intro w h hK; exact hK _ h.right
  | cons M Ms ih =>
    intro w h hK
    have h1 : St w0 (Blk M (.deferred (some [])) * (mkA Ms * F)) w := h.ac (sep_assoc _ _ _)
    exact St.mark h1 fun w' h2 => ih h2.right hK
end
abbrev intC (T : Nat) (z : Int) : HP := Blk T (.cells #[.int .i64 z] 3 (0, 0))
abbrev itA (KK : Nat) : Value := .func (.func 54) #[] #[.pointer (some ⟨KK, 0, none⟩)]
abbrev RC (T4 T5 T6 T7 T8 T9 P K KK tB rB : Nat) (mo m : Int) (A : HP) : HP :=
  Blk P (pairB tB rB) * (Blk T9 (.cells #[itA KK] 81 (0, 0)) * (Blk T4 (.cells #[.pointer (some ⟨P, 0, none⟩)] 70 (0, 0)) * (Blk T5 (.cells #[.pointer (some ⟨K, 0, none⟩)] 64 (0, 0)) * (Blk T6 (.cells #[.int .i64 mo] 3 (0, 0)) * (Blk T7 (.cells #[.int .u32 m] 35 (0, 0)) * (Blk T8 (.cells #[.bool false] 4 (0, 0)) * A))))))
abbrev RT (KK tB : Nat) (most : Int) (l : TL) : HP := TabP tB most l * Blk KK (.cells #[.pointer (some ⟨tB, 0, none⟩)] 22 (0, 0))
abbrev RW (T4 T5 T6 T7 T8 T9 T10 T11 T12 P K KK tB rB N r i : Nat) (mo m most : Int) (vw : Value) (qw : FPs) (l : TL) (A : HP) : HP :=
  intC T12 i * (intC T10 r * (Blk T11 (.cells #[vw] 28 (0, 0)) * (AtP vw qw * (BookP K N * (RefT rB most (sortK l) * (RT KK tB most l * RC T4 T5 T6 T7 T8 T9 P K KK tB rB mo m A))))))
theorem rtake_any {w0 w : World} {F : HP} {B : Nat} {most n : Int} {L : TL} (h : St w0 (RefT B most L * F) w) :
    Calls Try.prog 45 #[.pointer (some ⟨B, 0, none⟩), .int .u32 n] w fun e w' => ∃ q : Value, St w0 (RefT B most (adel n L) * F) w' ∧ e = .returned q := by
  cases hg : agt n L with
  | none =>
    refine (rtake_none h hg).mono ?_
    rintro e w1 ⟨h1, rfl⟩
    exact ⟨_, by rw [adel_none hg]; exact h1, rfl⟩
  | some f =>
    refine (rtake_some h hg).mono ?_
    rintro e w1 ⟨v', _, h1, rfl⟩
    exact ⟨_, h1.right, rfl⟩
def b1end : Cd := (.seq (.seq (.region 24 F46.r24.toArray false) (.cond (.tmp 90) (.exit 2) .skip)) (.seq (.region 25 F46.r25.toArray false) (.cond (.tmp 96) (.seq (.region 26 F46.r26.toArray true) (.region 27 F46.r27.toArray true)) .skip)))
def tabR (r i : Nat) (m : Int) (l : TL) : TL := if r = 2 ∧ i = 1 then adel m l else l
section
variable {w0 w : World} {A : HP} {T4 T5 T6 T7 T8 T9 T10 T11 T12 P K KK tB rB N r i : Nat} {mo m most : Int} {vw : Value} {qw : FPs} {l : TL}
section
attribute [local go_sem] F46.t28_eq F46.t30_eq F46.t7_eq F46.t32_eq F46.t4_eq
theorem b1end_any {lo : Nat} {e : FA} {AJ : HP} {BX : Code → HP} (hnd : (l.map (·.1)).Nodup) (hr : r ≤ 2) (hi : i ≤ 300)
    (hd : e.ds = []) (e4 : e.ρ 4 = .pointer (some ⟨T4, 0, none⟩)) (e6 : e.ρ 6 = .pointer (some ⟨T6, 0, none⟩)) (e7 : e.ρ 7 = .pointer (some ⟨T7, 0, none⟩)) (e10 : e.ρ 10 = .pointer (some ⟨T10, 0, none⟩)) (e12 : e.ρ 12 = .pointer (some ⟨T12, 0, none⟩))
    (h : St w0 (RW T4 T5 T6 T7 T8 T9 T10 T11 T12 P K KK tB rB N r i mo m most vw qw l A) w)
    (hJ : ∀ w', St w0 (RW T4 T5 T6 T7 T8 T9 T10 T11 T12 P K KK tB rB N r i mo m most vw qw (tabR r i m l) A) w' → St w0 AJ w')
    (hX : r = 0 → (i : Int) = mo → ∀ w', St w0 (RW T4 T5 T6 T7 T8 T9 T10 T11 T12 P K KK tB rB N r i mo m most vw qw l A) w' → St w0 (BX (.exit 2)) w') :
    cwRE Try.prog lo b1end (blockP 3 (roundQ w0 AJ BX)) e w := by
  unfold b1end
  by_cases k0 : r = 0
  · subst k0
    have ht : tabR 0 i m l = l := by unfold tabR; rw [if_neg (by omega)]
    by_cases k1 : (i : Int) = mo
    · simp -dsimp -implicitDefEqProofs (disch := omega) only [go_sem, hd, e4, e6, e7, e10, e12, h.cl T10, h.cl T12, h.cl T6, k1]
      exact hX rfl k1 _ h
    · simp -dsimp -implicitDefEqProofs (disch := omega) only [go_sem, hd, e4, e6, e7, e10, e12, h.cl T10, h.cl T12, h.cl T6, k1]
      rw [ht] at hJ
      exact hJ _ h
  have k0' : ¬ (r : Int) = 0 := by omega
  by_cases k2 : r = 2 ∧ i = 1
  case neg =>
    have ht : tabR r i m l = l := by unfold tabR; rw [if_neg k2]
    rw [ht] at hJ
    by_cases k3 : (r : Int) = 2
    · have k4 : ¬ (i : Int) = 1 := by omega
      simp -dsimp -implicitDefEqProofs (disch := omega) only [go_sem, hd, e4, e6, e7, e10, e12, h.cl T10, h.cl T12, h.cl T6, k0', k3, k4]
      exact hJ _ h
    · simp -dsimp -implicitDefEqProofs (disch := omega) only [go_sem, hd, e4, e6, e7, e10, e12, h.cl T10, h.cl T12, h.cl T6, k0', k3]
      exact hJ _ h
  obtain ⟨rfl, rfl⟩ := k2
  have ht : tabR 2 1 m l = adel m l := rfl
  rw [ht] at hJ
  have hD := h.drew
  simp -dsimp -implicitDefEqProofs (disch := omega) only [go_sem, hd, e4, e6, e7, e10, e12, h.cl T10, h.cl T12, h.cl T6, h.cl T4, h.cl T7, h.cl P, hD.cl T10, hD.cl T12, hD.cl T6, hD.cl T4, hD.cl T7, hD.cl P]
  have h1 : St w0 (TabP tB most l * (Blk KK (.cells #[.pointer (some ⟨tB, 0, none⟩)] 22 (0, 0)) * (intC T12 (1 : Nat) * (intC T10 (2 : Nat) * (Blk T11 (.cells #[vw] 28 (0, 0)) * (AtP vw qw * (BookP K N * (RefT rB most (sortK l) * RC T4 T5 T6 T7 T8 T9 P K KK tB rB mo m A)))))))) w.drew := hD.ac (by unfold RW RT; ac_rfl)
  refine (take_any (n := m) h1).mono ?_
  rintro e' w2 ⟨q, _, h2, rfl⟩
  have hE := h2.drew
  simp -dsimp -implicitDefEqProofs (disch := omega) only [go_sem, hd, e4, e6, e7, e10, e12, h2.cl T4, h2.cl T7, h2.cl P, hE.cl T4, hE.cl T7, hE.cl P]
  refine (rtake_any (n := m) (hE.ac (show _ = RefT rB most (sortK l) * (TabP tB most (adel m l) * (Blk KK (.cells #[.pointer (some ⟨tB, 0, none⟩)] 22 (0, 0)) * (intC T12 (1 : Nat) * (intC T10 (2 : Nat) * (Blk T11 (.cells #[vw] 28 (0, 0)) * (AtP vw qw * (BookP K N * RC T4 T5 T6 T7 T8 T9 P K KK tB rB mo m A))))))) by ac_rfl))).mono ?_
  rintro e' w3 ⟨q', h3, rfl⟩
  simp -dsimp -implicitDefEqProofs (disch := omega) only [go_sem, hd, e4, e6, e7, e10, e12, h3.cl T4, h3.cl T7, h3.cl P]
  rw [← sort_del hnd] at h3
  exact hJ _ (h3.ac (by unfold RW RT; ac_rfl))
end
end
theorem b1_eq : F46.b1 = (.block 3 (.seq (.seq (.region 12 F46.r12.toArray false) (.cond (.tmp 49) (.seq (.region 13 F46.r13.toArray false) .ret) .skip)) (.seq (.region 14 F46.r14.toArray true) (.seq (.seq (.region 15 F46.r15.toArray false) (.cond (.tmp 59) (.seq (.region 16 F46.r16.toArray false) .ret) .skip)) (.seq (.region 17 F46.r17.toArray false) (.seq (.region 18 F46.r18.toArray false) (.seq (.seq (.region 19 F46.r19.toArray false) (.block 4 (.rangeFunc (.tmp 62) #[63, 64] F46.a0 F46.b0))) b1end))))))) := rfl
def tbl (r i : Nat) (m : Int) (l : TL) : TL := if r = 2 ∧ 1 ≤ i then adel m l else l
theorem tbl_next {r i : Nat} {m : Int} {l : TL} : tabR r (i + 1) m (tbl r i m l) = tbl r (i + 1) m l := by
  unfold tabR tbl
  by_cases k : r = 2
  · subst k
    by_cases k1 : i = 0
    · subst k1; simp
    · have h1 : 1 ≤ i := by omega
      simp [k1, h1]
  · simp [k]
theorem tbl_nodup {r i : Nat} {m : Int} {l : TL} (h : (l.map (·.1)).Nodup) : ((tbl r i m l).map (·.1)).Nodup := by
  unfold tbl; split
  · exact adel_nodup h
  · exact h
theorem tbl_len (r i : Nat) (m : Int) (l : TL) : (tbl r i m l).length ≤ l.length := by
  unfold tbl; split
  · exact adel_len m l
  · exact Nat.le_refl _
section
variable {w0 w : World} {A : HP} {T4 T5 T6 T7 T8 T9 T10 T11 T12 P K KK tB rB N r i : Nat} {mo m most : Int} {vw : Value} {qw : FPs} {l : TL}
section
attribute [local go_sem] F46.t28_eq F46.t30_eq F46.t7_eq F46.t32_eq F46.t4_eq
theorem all_b1 {lo T14 : Nat} {x : Int × FidD} {v' : Value} {e : FA} {AJ : HP} {BX : Code → HP} (hlo : Ent A (LoopHere lo)) (hN : N ≤ 999999990000) (hnd : (l.map (·.1)).Nodup) (hl : l.length ≤ 256) (hr : r ≤ 2) (hqw : amap (·.2) qw = sortK l) (hi : i < (sortK l).length) (hx : x = (sortK l)[i]) (hok : Okf (v', x.2))
    (hd : e.ds = []) (e4 : e.ρ 4 = .pointer (some ⟨T4, 0, none⟩)) (e5 : e.ρ 5 = .pointer (some ⟨T5, 0, none⟩)) (e6 : e.ρ 6 = .pointer (some ⟨T6, 0, none⟩)) (e7 : e.ρ 7 = .pointer (some ⟨T7, 0, none⟩)) (e9 : e.ρ 9 = .pointer (some ⟨T9, 0, none⟩)) (e10 : e.ρ 10 = .pointer (some ⟨T10, 0, none⟩)) (e11 : e.ρ 11 = .pointer (some ⟨T11, 0, none⟩)) (e12 : e.ρ 12 = .pointer (some ⟨T12, 0, none⟩)) (e13 : e.ρ 13 = .int .u32 x.1) (e14 : e.ρ 14 = .pointer (some ⟨T14, 0, none⟩))
    (h : St w0 (Blk T14 (fidB v' x.2) * (HeardP (v', x.2) * RW T4 T5 T6 T7 T8 T9 T10 T11 T12 P K KK tB rB N r i mo m most vw qw (tbl r i m l) A)) w)
    (hJ : ∀ w', St w0 (RW T4 T5 T6 T7 T8 T9 T10 T11 T12 P K KK tB rB (N + 1) r (i + 1) mo m most vw qw (tbl r (i + 1) m l) A) w' → St w0 AJ w')
    (hX : r = 0 → ((i + 1 : Nat) : Int) = mo → ∀ w', St w0 (RW T4 T5 T6 T7 T8 T9 T10 T11 T12 P K KK tB rB (N + 1) r (i + 1) mo m most vw qw (tbl r i m l) A) w' → St w0 (BX (.exit 2)) w') :
    cwRE Try.prog lo F46.b1 (roundQ w0 AJ BX) e w := by
  rw [b1_eq]
  have hql := amap_len hqw
  have hsl := sortK_length l
  have hiq : i < qw.length := by omega
  have hqx : qw[i].1 = x.1 ∧ qw[i].2.2 = x.2 := by
    have h1 : (amap (fun p : HF => p.2) qw)[i]? = (sortK l)[i]? := by rw [hqw]
    simp only [amap, List.getElem?_map, List.getElem?_eq_getElem hiq, List.getElem?_eq_getElem hi, Option.map_some, Option.some.injEq] at h1
    rw [hx, ← h1]
    exact ⟨rfl, rfl⟩
  obtain ⟨av, cv, hav⟩ : ∃ a c, v' = .slice a x.2.heard.length c := by
    obtain ⟨a, c, h1, _⟩ := (h.right.ac (show _ = RowO 5 1 v' x.2.heard.length (byR x.2.heard) * RW T4 T5 T6 T7 T8 T9 T10 T11 T12 P K KK tB rB N r i mo m most vw qw (tbl r i m l) A from rfl)).rowForm v'
    exact ⟨a, c, h1⟩
  have rdW : ∀ {H : HP}, Ent (AtP vw qw * H) (Reads 15 vw qw.length (qw.flatMap atC)) := (Ent.left _ _).trans AtP.rows
  obtain ⟨aw, cw, rfl⟩ := AtP.form (h.ac (show _ = AtP vw qw * (Blk T14 (fidB v' x.2) * (HeardP (v', x.2) * (intC T12 i * (intC T10 r * (Blk T11 (.cells #[vw] 28 (0, 0)) * (BookP K N * (RefT rB most (sortK (tbl r i m l)) * (RT KK tB most (tbl r i m l) * RC T4 T5 T6 T7 T8 T9 P K KK tB rB mo m A)))))))) by unfold RW; ac_rfl))
  have hA := h.ac (show _ = AtP (.slice aw qw.length cw) qw * (Blk T14 (fidB v' x.2) * (HeardP (v', x.2) * (intC T12 i * (intC T10 r * (Blk T11 (.cells #[.slice aw qw.length cw] 28 (0, 0)) * (BookP K N * (RefT rB most (sortK (tbl r i m l)) * (RT KK tB most (tbl r i m l) * RC T4 T5 T6 T7 T8 T9 P K KK tB rB mo m A)))))))) by unfold RW; ac_rfl)
  obtain ⟨bw, ow, rfl, c0, _⟩ := at_facts hA rdW hiq
  obtain ⟨_, s0⟩ := at_facts' hA.drew rdW hiq
  have hokw := AtP.ok hA
  have hD := h.drew
  have cT := hD.cl T14
  have hii : ¬ (qw.length : Int) ≤ i := by omega
  have hii2 : (i : Int) < qw.length := by omega
  simp -dsimp -implicitDefEqProofs (disch := omega) only [go_sem, hd, e4, e5, e6, e7, e9, e10, e11, e12, e13, e14, h.cl T11, h.cl T12, hii, hii2, c0, hqx.1, hD.cl T5, hD.cl T11, hD.cl T12, s0, hD.rowH T14 14 rfl]
  have hK : St w0 (HeardP (v', x.2) * (BookP K N * (AtP (.slice (some ⟨bw, ow, none⟩) qw.length cw) qw * (Blk T14 (fidB v' x.2) * (intC T12 i * (intC T10 r * (Blk T11 (.cells #[.slice (some ⟨bw, ow, none⟩) qw.length cw] 28 (0, 0)) * (RefT rB most (sortK (tbl r i m l)) * (RT KK tB most (tbl r i m l) * RC T4 T5 T6 T7 T8 T9 P K KK tB rB mo m A))))))))) w.drew := hD.ac (by unfold RW; ac_rfl)
  refine (keeps_any (p := (v', x.2)) (q := qw[i].2) (by omega) hok (hokw _ (List.getElem_mem hiq)).1 ((Ent.left _ _).trans (AtP.heard (List.getElem_mem hiq))) hK).mono ?_
  rintro e' w3 ⟨h3, rfl⟩
  rw [hqx.2, sameB_self]
  have h3A := h3.ac (show _ = AtP (.slice (some ⟨bw, ow, none⟩) qw.length cw) qw * (BookP K (N + 1) * (Blk T14 (fidB v' x.2) * (intC T12 i * (intC T10 r * (Blk T11 (.cells #[.slice (some ⟨bw, ow, none⟩) qw.length cw] 28 (0, 0)) * (RefT rB most (sortK (tbl r i m l)) * (RT KK tB most (tbl r i m l) * RC T4 T5 T6 T7 T8 T9 P K KK tB rB mo m A))))))) by ac_rfl)
  obtain ⟨_, s1⟩ := at_facts' h3A rdW hiq
  simp -dsimp -implicitDefEqProofs (disch := omega) only [go_sem, hd, e4, e5, e6, e7, e9, e10, e11, e12, e13, e14, h3A.cl T5, h3A.cl T11, h3A.cl T12, s1, h3A.rowH T14 14 rfl, hii2]
  refine h3A.sto (b := T12) (off := 0) (by simp) rfl fun w4 h4 => ?_
  simp only [List.setIfInBounds_toArray, List.set_cons_zero] at h4
  rw [show ((i : Int) + 1) = ((i + 1 : Nat) : Int) by omega] at h4
  simp -dsimp -implicitDefEqProofs (disch := omega) only [go_sem, hd, e4, e5, e6, e7, e9, e10, e11, e12, e13, e14]
  refine h4.new fun T16 w5 h5 => ?_
  simp -dsimp -implicitDefEqProofs (disch := omega) only [go_sem, hd, e4, e5, e6, e7, e9, e10, e11, e12, e13, e14]
  refine h5.sto (b := T16) (off := 0) (by simp) rfl fun w6 h6 => ?_
  simp only [List.setIfInBounds_toArray, List.set_cons_zero] at h6
  simp -dsimp -implicitDefEqProofs (disch := omega) only [go_sem, hd, e4, e5, e6, e7, e9, e10, e11, e12, e13, e14, h6.cl T9]
  have hsl2 : (sortK (tbl r i m l)).length ≤ 256 := by rw [sortK_length]; exact Nat.le_trans (tbl_len r i m l) hl
  have h7 : St w0 ((intC T16 (([] : TL).length : Nat) * (intC T10 r * (Blk T11 (.cells #[.slice (some ⟨bw, ow, none⟩) qw.length cw] 28 (0, 0)) * AtP (.slice (some ⟨bw, ow, none⟩) qw.length cw) qw))) * (AllB KK tB most (tbl r i m l) * (BookP K (N + 1) * (Blk T14 (fidB v' x.2) * (intC T12 (i + 1 : Nat) * (RefT rB most (sortK (tbl r i m l)) * RC T4 T5 T6 T7 T8 T9 P K KK tB rB mo m A)))))) w6 := h6.ac (by unfold RT AllB; show _ = (Blk T16 (.cells #[.int .i64 0] 3 (0, 0)) * _) * (_ * (_ * (_ * (Blk T12 (.cells #[.int .i64 ((i + 1 : Nat) : Int)] 3 (0, 0)) * _)))); ac_rfl)
  refine range_introRA h7 ?_ (gf := 54) (lb := #[.pointer (some ⟨KK, 0, none⟩)]) (by simp -dsimp -implicitDefEqProofs only [go_sem]) fact_fnOk_54 (Pass := PassA)
    (fun pre => intC T16 (pre.length : Nat) * (intC T10 r * (Blk T11 (.cells #[.slice (some ⟨bw, ow, none⟩) qw.length cw] 28 (0, 0)) * AtP (.slice (some ⟨bw, ow, none⟩) qw.length cw) qw))) (fun _ _ => NoneH) (Ent.rfl' _) ?_
    (allIter (K := KK) (B := tB) (most := most) (R := BookP K (N + 1) * (Blk T14 (fidB v' x.2) * (intC T12 (i + 1 : Nat) * (RefT rB most (sortK (tbl r i m l)) * RC T4 T5 T6 T7 T8 T9 P K KK tB rB mo m A)))) (by rw [sortK_length] at hsl2; omega)) ?_ ?_
  · refine (Ent.right _ _).trans ((Ent.right _ _).trans ((Ent.right _ _).trans ((Ent.right _ _).trans ((Ent.right _ _).trans ((Ent.right _ _).trans ?_)))))
    unfold RC
    exact (Ent.right _ _).trans ((Ent.right _ _).trans ((Ent.right _ _).trans ((Ent.right _ _).trans ((Ent.right _ _).trans ((Ent.right _ _).trans ((Ent.right _ _).trans hlo))))))
  · intro q pre y args G W1 hpo h8
    have h8 : St w0 ((intC T16 (pre.length : Nat) * (intC T10 r * (Blk T11 (.cells #[.slice (some ⟨bw, ow, none⟩) qw.length cw] 28 (0, 0)) * AtP (.slice (some ⟨bw, ow, none⟩) qw.length cw) qw))) * (PassA y args * G)) W1 := h8
    obtain ⟨v9, rfl, _, _⟩ := PassA.open h8.sw2
    refine ⟨rfl, ?_⟩
    unfold F46.a0
    simp -dsimp -implicitDefEqProofs (disch := omega) only [go_sem, List.toList_toArray]
    refine ⟨EmpH, h8.ent (Ent.empL _), fun G2 W2 hl2 h9 => ?_⟩
    have h10 : St w0 (AtP (.slice (some ⟨bw, ow, none⟩) qw.length cw) qw * (intC T16 (pre.length : Nat) * (intC T10 r * (Blk T11 (.cells #[.slice (some ⟨bw, ow, none⟩) qw.length cw] 28 (0, 0)) * (PassA y #[encU y.1, fdV (v9, y.2)] * G2))))) W2 := h9.right.ac (by ac_rfl)
    have fin : ∀ {w'}, St w0 (Blk T16 (.cells #[.int .i64 ((pre.length : Int) + 1)] 3 (0, 0)) * (AtP (.slice (some ⟨bw, ow, none⟩) qw.length cw) qw * (intC T10 r * (Blk T11 (.cells #[.slice (some ⟨bw, ow, none⟩) qw.length cw] 28 (0, 0)) * (PassA y #[encU y.1, fdV (v9, y.2)] * G2))))) w' → St w0 ((intC T16 ((pre ++ [y]).length : Nat) * (intC T10 r * (Blk T11 (.cells #[.slice (some ⟨bw, ow, none⟩) qw.length cw] 28 (0, 0)) * AtP (.slice (some ⟨bw, ow, none⟩) qw.length cw) qw))) * G2) w' := fun h => by
      rw [show (((pre ++ [y]).length : Nat) : Int) = (pre.length : Int) + 1 by simp]
      exact (h.ent (Ent.sep (Ent.rfl' _) (Ent.sep (Ent.rfl' _) (Ent.sep (Ent.rfl' _) (Ent.sep (Ent.rfl' _) (Ent.right _ _)))))).ac (by show _ = (Blk T16 (.cells #[.int .i64 ((pre.length : Int) + 1)] 3 (0, 0)) * _) * _; ac_rfl)
    obtain ⟨post, hpo⟩ := hpo
    have hpl : pre.length < 256 := by
      have := congrArg List.length hpo
      simp only [List.length_append, List.length_cons, List.length_nil] at this
      omega
    unfold F46.b0
    by_cases k1 : r = 1
    · subst k1
      have hpo : (pre ++ [y]) ++ post = sortK l := by rw [hpo]; unfold tbl; rw [if_neg (by omega)]
      have hpq : pre.length < qw.length := by
        have := congrArg List.length hpo
        simp only [List.length_append, List.length_cons, List.length_nil] at this
        omega
      have hqy : qw[pre.length].1 = y.1 := by
        have h1 : (amap (fun p : HF => p.2) qw)[pre.length]? = some y := by rw [hqw, ← hpo]; simp
        simp only [amap, List.getElem?_map, List.getElem?_eq_getElem hpq, Option.map_some, Option.some.injEq] at h1
        rw [← h1]
      have hpn : ¬ (qw.length : Int) ≤ pre.length := by omega
      have hpn2 : (pre.length : Int) < qw.length := by omega
      obtain ⟨c9, _⟩ := at_facts' h10 rdW hpq
      rw [hqy] at c9
      simp -dsimp -implicitDefEqProofs (disch := omega) only [go_sem, hd, e9, e10, e11, h10.cl T10, h10.cl T16, h10.cl T11, c9, hpn, hpn2]
      refine h10.sto (b := T16) (off := 0) (by simp) rfl fun w7 h11 => ?_
      simp only [List.setIfInBounds_toArray, List.set_cons_zero] at h11
      simp -dsimp -implicitDefEqProofs (disch := omega) only [go_sem]
      exact fin (h11.ac (by ac_rfl))
    · have k1' : ¬ (r : Int) = 1 := by omega
      simp -dsimp -implicitDefEqProofs (disch := omega) only [go_sem, hd, e9, e10, e11, h10.cl T10, h10.cl T16, h10.cl T11, k1']
      refine h10.sto (b := T16) (off := 0) (by simp) rfl fun w7 h11 => ?_
      simp only [List.setIfInBounds_toArray, List.set_cons_zero] at h11
      simp -dsimp -implicitDefEqProofs (disch := omega) only [go_sem]
      exact fin (h11.ac (by ac_rfl))
  · intro xs w8 hS h8
    have h9 : St w0 (RW T4 T5 T6 T7 T8 T9 T10 T11 T12 P K KK tB rB (N + 1) r (i + 1) mo m most (.slice (some ⟨bw, ow, none⟩) qw.length cw) qw (tbl r i m l) A * (intC T16 (xs.length : Nat) * Blk T14 (fidB v' x.2))) w8 := h8.ac (by unfold RW RT AllB; ac_rfl)
    simp -dsimp -implicitDefEqProofs (disch := omega) only [go_sem]
    refine b1end_any (lo := lo) (tbl_nodup hnd) hr (by omega) (by simp -dsimp -implicitDefEqProofs only [go_sem, hd]) (by simp -dsimp -implicitDefEqProofs only [go_sem, e4]) (by simp -dsimp -implicitDefEqProofs only [go_sem, e6]) (by simp -dsimp -implicitDefEqProofs only [go_sem, e7]) (by simp -dsimp -implicitDefEqProofs only [go_sem, e10]) (by simp -dsimp -implicitDefEqProofs only [go_sem, e12]) h9.left ?_ hX
    rw [tbl_next]
    exact hJ
  · intro c pre w' h8
    have h9 : St w0 (HP.fact False EmpH * _) w' := h8
    exact h9.factF.1.elim
end
end
structure WA (e : FA) (T4 T5 T6 T7 T8 T9 T10 : Nat) (Ms : List Nat) : Prop where
  ds : e.ds = mkF Ms
  e4 : e.ρ 4 = .pointer (some ⟨T4, 0, none⟩)
  e5 : e.ρ 5 = .pointer (some ⟨T5, 0, none⟩)
  e6 : e.ρ 6 = .pointer (some ⟨T6, 0, none⟩)
  e7 : e.ρ 7 = .pointer (some ⟨T7, 0, none⟩)
  e8 : e.ρ 8 = .pointer (some ⟨T8, 0, none⟩)
  e9 : e.ρ 9 = .pointer (some ⟨T9, 0, none⟩)
  e10 : e.ρ 10 = .pointer (some ⟨T10, 0, none⟩)
abbrev RO (T4 T5 T6 T7 T8 T9 T10 P K KK tB rB N r : Nat) (mo m most : Int) (l : TL) (A : HP) : HP :=
  intC T10 r * (BookP K N * (RefT rB most (sortK l) * (RT KK tB most l * RC T4 T5 T6 T7 T8 T9 P K KK tB rB mo m A)))
theorem RW.entA {T4 T5 T6 T7 T8 T9 T10 T11 T12 P K KK tB rB N r i : Nat} {mo m most : Int} {vw : Value} {qw : FPs} {l : TL} {A A' : HP} (h : Ent A A') : Ent (RW T4 T5 T6 T7 T8 T9 T10 T11 T12 P K KK tB rB N r i mo m most vw qw l A) (RW T4 T5 T6 T7 T8 T9 T10 T11 T12 P K KK tB rB N r i mo m most vw qw l A') := by
  unfold RW RC
  iterate 14 refine Ent.sep (Ent.rfl' _) ?_
  exact h
theorem RW.up {T4 T5 T6 T7 T8 T9 T10 T11 T12 P K KK tB rB N N' r i : Nat} {mo m most : Int} {vw : Value} {qw : FPs} {l : TL} {A : HP} {w0 w : World} (hN : N ≤ N') (h : St w0 (RW T4 T5 T6 T7 T8 T9 T10 T11 T12 P K KK tB rB N r i mo m most vw qw l A) w) : St w0 (RW T4 T5 T6 T7 T8 T9 T10 T11 T12 P K KK tB rB N' r i mo m most vw qw l A) w := by
  have h1 := BookP.up hN (h.ac (show _ = BookP K N * (intC T12 i * (intC T10 r * (Blk T11 (.cells #[vw] 28 (0, 0)) * (AtP vw qw * (RefT rB most (sortK l) * (RT KK tB most l * RC T4 T5 T6 T7 T8 T9 P K KK tB rB mo m A)))))) by unfold RW; ac_rfl))
  exact h1.ac (by unfold RW; ac_rfl)
theorem tbl_all {r : Nat} {m : Int} {l : TL} : tbl r l.length m l = if r = 2 then adel m l else l := by
  unfold tbl
  cases l with
  | nil => simp [adel]
  | cons x l => simp
section
variable {w0 w : World} {A : HP} {T4 T5 T6 T7 T8 T9 T10 T11 T12 P K KK tB rB N r i : Nat} {mo m most : Int} {vw : Value} {qw : FPs} {l : TL} {Ms : List Nat}
section
attribute [local go_sem] F46.t28_eq F46.t30_eq F46.t7_eq F46.t32_eq F46.t4_eq
theorem all_t30 {e : FA} {Q : Post} (hr : r < 3) (f : WA e T4 T5 T6 T7 T8 T9 T10 Ms) (h : St w0 (RO T4 T5 T6 T7 T8 T9 T10 P K KK tB rB N r mo m most l A) w)
    (hQ : ∀ T10' e' w', WA e' T4 T5 T6 T7 T8 T9 T10' Ms → St w0 (RO T4 T5 T6 T7 T8 T9 T10' P K KK tB rB N (r + 1) mo m most l A) w' → Q .normal e' w') : cwE Try.prog F46.t30 Q e w := by
  rw [F46.t30_eq]
  obtain ⟨hd, e4, e5, e6, e7, e8, e9, e10⟩ := f
  simp -dsimp -implicitDefEqProofs (disch := omega) only [go_sem, e10, h.cl T10]
  refine h.new fun T w1 h1 => ?_
  simp -dsimp -implicitDefEqProofs (disch := omega) only [go_sem, e10]
  refine h1.sto (b := T) (off := 0) (by simp) rfl fun w2 h2 => ?_
  simp only [List.setIfInBounds_toArray, List.set_cons_zero] at h2
  simp -dsimp -implicitDefEqProofs (disch := omega) only [go_sem, h2.cl T]
  refine h2.sto (b := T) (off := 0) (by simp) rfl fun w3 h3 => ?_
  simp only [List.setIfInBounds_toArray, List.set_cons_zero] at h3
  simp -dsimp -implicitDefEqProofs (disch := omega) only [go_sem]
  rw [show ((r : Int) + 1) = ((r + 1 : Nat) : Int) by omega] at h3
  exact hQ T _ _ ⟨by simp -dsimp -implicitDefEqProofs only [go_sem, hd], by simp -dsimp -implicitDefEqProofs only [go_sem, e4], by simp -dsimp -implicitDefEqProofs only [go_sem, e5], by simp -dsimp -implicitDefEqProofs only [go_sem, e6], by simp -dsimp -implicitDefEqProofs only [go_sem, e7], by simp -dsimp -implicitDefEqProofs only [go_sem, e8], by simp -dsimp -implicitDefEqProofs only [go_sem, e9], by simp -dsimp -implicitDefEqProofs only [go_sem]⟩ (h3.ent (Ent.sep (Ent.rfl' _) (Ent.right _ _)))
end
section
attribute [local go_sem] F46.t28_eq F46.t7_eq F46.t32_eq F46.t4_eq
theorem all_t28 {e : FA} {Q : Post} (hr : r < 3) (hqn : qw.length ≤ 256) (f : WA e T4 T5 T6 T7 T8 T9 T10 Ms) (e11 : e.ρ 11 = .pointer (some ⟨T11, 0, none⟩)) (e12 : e.ρ 12 = .pointer (some ⟨T12, 0, none⟩)) (hc : i = qw.length ∨ r = 0 ∧ (i : Int) = mo)
    (h : St w0 (RW T4 T5 T6 T7 T8 T9 T10 T11 T12 P K KK tB rB N r i mo m most vw qw l A) w)
    (hQ : ∀ T10' e' w', WA e' T4 T5 T6 T7 T8 T9 T10' Ms → St w0 (RO T4 T5 T6 T7 T8 T9 T10' P K KK tB rB N (r + 1) mo m most l A) w' → Q .normal e' w') :
    cwE Try.prog F46.t28 (blockP 1 (thenP (cwD Try.prog none F46.t30 Q) Q)) e w := by
  rw [F46.t28_eq]
  obtain ⟨aw, cw, rfl⟩ := AtP.form (h.ac (show _ = AtP vw qw * (intC T12 i * (intC T10 r * (Blk T11 (.cells #[vw] 28 (0, 0)) * (BookP K N * (RefT rB most (sortK l) * (RT KK tB most l * RC T4 T5 T6 T7 T8 T9 P K KK tB rB mo m A)))))) by unfold RW; ac_rfl))
  have hR : St w0 (RO T4 T5 T6 T7 T8 T9 T10 P K KK tB rB N r mo m most l A) w := by
    have h1 := h.right
    exact (h1.ac (show _ = Blk T11 (.cells #[.slice aw qw.length cw] 28 (0, 0)) * (AtP (.slice aw qw.length cw) qw * (intC T10 r * (BookP K N * (RefT rB most (sortK l) * (RT KK tB most l * RC T4 T5 T6 T7 T8 T9 P K KK tB rB mo m A))))) by ac_rfl)).right.right
  have f' := f
  obtain ⟨hd, e4, e5, e6, e7, e8, e9, e10⟩ := f'
  have fin : ∀ {e' : FA}, WA e' T4 T5 T6 T7 T8 T9 T10 Ms → cwE Try.prog F46.t30 Q e' w := fun f' => all_t30 hr f' hR hQ
  by_cases hi : (i : Int) = qw.length
  · simp -dsimp -implicitDefEqProofs (disch := omega) only [go_sem, e6, e10, e11, e12, h.cl T10, h.cl T11, h.cl T12, h.cl T6, hi]
    exact fin ⟨by simp -dsimp -implicitDefEqProofs only [go_sem, hd], by simp -dsimp -implicitDefEqProofs only [go_sem, e4], by simp -dsimp -implicitDefEqProofs only [go_sem, e5], by simp -dsimp -implicitDefEqProofs only [go_sem, e6], by simp -dsimp -implicitDefEqProofs only [go_sem, e7], by simp -dsimp -implicitDefEqProofs only [go_sem, e8], by simp -dsimp -implicitDefEqProofs only [go_sem, e9], by simp -dsimp -implicitDefEqProofs only [go_sem, e10]⟩
  · obtain ⟨rfl, hm⟩ : r = 0 ∧ (i : Int) = mo := hc.resolve_left (by omega)
    simp -dsimp -implicitDefEqProofs (disch := omega) only [go_sem, e6, e10, e11, e12, h.cl T10, h.cl T11, h.cl T12, h.cl T6, hi, hm]
    exact fin ⟨by simp -dsimp -implicitDefEqProofs only [go_sem, hd], by simp -dsimp -implicitDefEqProofs only [go_sem, e4], by simp -dsimp -implicitDefEqProofs only [go_sem, e5], by simp -dsimp -implicitDefEqProofs only [go_sem, e6], by simp -dsimp -implicitDefEqProofs only [go_sem, e7], by simp -dsimp -implicitDefEqProofs only [go_sem, e8], by simp -dsimp -implicitDefEqProofs only [go_sem, e9], by simp -dsimp -implicitDefEqProofs only [go_sem, e10]⟩
def BrA (r : Nat) (mo : Int) (J : TL → HP) (c : Code) (pre : TL) : HP := HP.fact (c = .exit 2 ∧ r = 0 ∧ (pre.length : Int) = mo ∧ pre.length ≤ 256) (J pre)
theorem BrA.open {r : Nat} {mo : Int} {J : TL → HP} {c : Code} {pre : TL} {F : HP} (h : St w0 (BrA r mo J c pre * F) w) : (c = .exit 2 ∧ r = 0 ∧ (pre.length : Int) = mo ∧ pre.length ≤ 256) ∧ St w0 (J pre * F) w := by
  unfold BrA at h
  exact h.factF
theorem BrA.mk {r : Nat} {mo : Int} {J : TL → HP} {pre : TL} {F : HP} (h1 : r = 0) (h2 : (pre.length : Int) = mo) (h3 : pre.length ≤ 256) (h : St w0 (J pre * F) w) : St w0 (BrA r mo J (.exit 2) pre * F) w :=
  h.ent (Ent.sep (Ent.fact (p := Code.exit 2 = .exit 2 ∧ r = 0 ∧ (pre.length : Int) = mo ∧ pre.length ≤ 256) ⟨rfl, h1, h2, h3⟩ _) (Ent.rfl' _))
end
section
attribute [local go_sem] F46.t7_eq F46.t32_eq F46.t4_eq
theorem all_t7 {e : FA} {Q : Post} (hN : N ≤ 999999980000) (hnd : (l.map (·.1)).Nodup) (hl : l.length ≤ 256) (hr : r < 3) (f : WA e T4 T5 T6 T7 T8 T9 T10 Ms)
    (h : St w0 (RO T4 T5 T6 T7 T8 T9 T10 P K KK tB rB N r mo m most l (mkA Ms * A)) w)
    (hQ : ∀ T10' D e' w', WA e' T4 T5 T6 T7 T8 T9 T10' (D :: Ms) → St w0 (RO T4 T5 T6 T7 T8 T9 T10' P K KK tB rB (N + 256) (r + 1) mo m most (if r = 2 then adel m l else l) (mkA (D :: Ms) * A)) w' → Q .normal e' w') : cwE Try.prog F46.t7 Q e w := by
  rw [F46.t7_eq]
  have f' := f
  obtain ⟨hd, e4, e5, e6, e7, e8, e9, e10⟩ := f'
  simp -dsimp -implicitDefEqProofs (disch := omega) only [go_sem, e4, e5, e6, e7, e8, e9, e10, h.cl T4, h.cl P]
  have h1 : St w0 (RefT rB most (sortK l) * (intC T10 r * (BookP K N * (RT KK tB most l * RC T4 T5 T6 T7 T8 T9 P K KK tB rB mo m (mkA Ms * A))))) w := h.ac (by show intC T10 r * _ = _; ac_rfl)
  refine (rall_any h1).mono ?_
  rintro e' w2 ⟨vw, qw, hqw, h2, rfl⟩
  obtain ⟨aw, cw, rfl⟩ := AtP.form h2
  simp -dsimp -implicitDefEqProofs (disch := omega) only [go_sem]
  refine h2.new fun T11 w3 h3 => ?_
  simp -dsimp -implicitDefEqProofs (disch := omega) only [go_sem]
  refine h3.sto (b := T11) (off := 0) (by simp) rfl fun w4 h4 => ?_
  simp only [List.setIfInBounds_toArray, List.set_cons_zero] at h4
  simp -dsimp -implicitDefEqProofs (disch := omega) only [go_sem]
  refine h4.new fun T12 w5 h5 => ?_
  simp -dsimp -implicitDefEqProofs (disch := omega) only [go_sem]
  refine h5.sto (b := T12) (off := 0) (by simp) rfl fun w6 h6 => ?_
  simp only [List.setIfInBounds_toArray, List.set_cons_zero] at h6
  simp -dsimp -implicitDefEqProofs (disch := omega) only [go_sem, e9, h6.cl T9]
  have hql := amap_len hqw
  rw [sortK_length] at hql
  obtain ⟨Kf, hKf⟩ : ∃ Kf : TL → HP, Kf = fun pre => intC T12 (pre.length : Nat) * (intC T10 r * (Blk T11 (.cells #[.slice aw qw.length cw] 28 (0, 0)) * (AtP (.slice aw qw.length cw) qw * (BookP K (N + pre.length) * (RefT rB most (sortK (tbl r pre.length m l)) * RC T4 T5 T6 T7 T8 T9 P K KK tB rB mo m EmpH))))) := ⟨_, rfl⟩
  obtain ⟨Tb, hTb⟩ : ∃ Tb : TL → HP, Tb = fun pre => AllB KK tB most (tbl r pre.length m l) := ⟨_, rfl⟩
  have hRW : ∀ (pre : TL) (A : HP), RW T4 T5 T6 T7 T8 T9 T10 T11 T12 P K KK tB rB (N + pre.length) r pre.length mo m most (.slice aw qw.length cw) qw (tbl r pre.length m l) (EmpH * A) = (Kf pre * Tb pre) * A := fun pre A => by
    subst hKf hTb
    show intC T12 (pre.length : Nat) * _ = ((intC T12 (pre.length : Nat) * (intC T10 r * (Blk T11 (.cells #[.slice aw qw.length cw] 28 (0, 0)) * (AtP (.slice aw qw.length cw) qw * (BookP K (N + pre.length) * (RefT rB most (sortK (tbl r pre.length m l)) * RC T4 T5 T6 T7 T8 T9 P K KK tB rB mo m EmpH)))))) * AllB KK tB most (tbl r pre.length m l)) * A
    unfold RT AllB RC
    ac_rfl
  have upRW : ∀ (pre : TL) {A : HP} {w : World}, St w0 (RW T4 T5 T6 T7 T8 T9 T10 T11 T12 P K KK tB rB (N + pre.length) r pre.length mo m most (.slice aw qw.length cw) qw (tbl r pre.length m l) A) w → St w0 ((Kf pre * Tb pre) * A) w := fun pre A w h => by
    rw [← hRW]
    exact h.ent (RW.entA (Ent.empL _))
  have dnRW : ∀ (pre : TL) {A : HP} {w : World}, St w0 ((Kf pre * Tb pre) * A) w → St w0 (RW T4 T5 T6 T7 T8 T9 T10 T11 T12 P K KK tB rB (N + pre.length) r pre.length mo m most (.slice aw qw.length cw) qw (tbl r pre.length m l) A) w := fun pre A w h => by
    rw [← hRW] at h
    exact h.ent (RW.entA (Ent.right _ _))
  have ht0 : tbl r 0 m l = l := by unfold tbl; rw [if_neg (by omega)]
  have h7 : St w0 ((Kf [] * Tb []) * (mkA Ms * A)) w6 := by
    refine upRW [] ?_
    show St w0 (RW T4 T5 T6 T7 T8 T9 T10 T11 T12 P K KK tB rB N r 0 mo m most (.slice aw qw.length cw) qw (tbl r 0 m l) (mkA Ms * A)) w6
    rw [ht0]
    exact h6.ac (by show _ = Blk T12 (.cells #[.int .i64 0] 3 (0, 0)) * _; ac_rfl)
  refine range_introS h7 (gf := 54) (lb := #[.pointer (some ⟨KK, 0, none⟩)]) (by simp -dsimp -implicitDefEqProofs only [go_sem]) fact_fnOk_54 (Pass := PassA) (fun pre => Kf pre * Tb pre) (BrA r mo fun pre => Kf pre * Tb pre) (Ent.rfl' _) ?_ Kf Tb (fun pre => rfl)
    (allIterT (K := KK) (B := tB) (most := most) (l := l) (R := mkA Ms * A) (by subst hTb; show AllB KK tB most (tbl r 0 m l) = _; rw [ht0]) (by omega)) ?_ ?_
  · intro q pre x args G W1 hpo h8
    have h8 : St w0 ((Kf pre * Tb pre) * (PassA x args * G)) W1 := h8
    obtain ⟨v', rfl, hok, _⟩ := PassA.open h8.sw2
    refine ⟨rfl, ?_⟩
    obtain ⟨post, hpo⟩ := hpo
    have hpl : pre.length < (sortK l).length := by rw [← hpo]; simp
    have hpl2 := hpl
    rw [sortK_length] at hpl2
    have hx : x = (sortK l)[pre.length] := by simp only [← hpo]; simp
    unfold F46.a1
    simp -dsimp -implicitDefEqProofs (disch := omega) only [go_sem, List.toList_toArray]
    refine h8.new fun T14 w7 h9 => ?_
    simp -dsimp -implicitDefEqProofs (disch := omega) only [go_sem]
    refine h9.stoAll (b := T14) (cs := fdC v' x.2) rfl rfl (fdC_cells hok.1) fun w8 h10 => ?_
    simp -dsimp -implicitDefEqProofs (disch := omega) only [go_sem]
    refine ⟨Blk T14 (fidB v' x.2), h10, fun G2 W2 hl2 h11 => ?_⟩
    obtain ⟨v'', he, _, h12⟩ := PassA.open (h11.ac (by ac_rfl : _ = PassA x #[encU x.1, fdV (v', x.2)] * (Blk T14 (fidB v' x.2) * ((Kf pre * Tb pre) * G2))))
    obtain rfl := fdV_inj he
    have h13 := dnRW pre (h12.ac (by ac_rfl : _ = (Kf pre * Tb pre) * (G2 * (HeardP (v', x.2) * Blk T14 (fidB v' x.2)))))
    have hpx : (pre ++ [x]).length = pre.length + 1 := by simp
    have fin : ∀ w', St w0 (RW T4 T5 T6 T7 T8 T9 T10 T11 T12 P K KK tB rB (N + pre.length + 1) r (pre.length + 1) mo m most (.slice aw qw.length cw) qw (tbl r (pre.length + 1) m l) G2) w' → St w0 ((Kf (pre ++ [x]) * Tb (pre ++ [x])) * G2) w' := fun w' h => by
      refine upRW (pre ++ [x]) ?_
      rw [hpx]
      exact h
    refine all_b1 (lo := q) (T14 := T14) (v' := v') hl2 (by omega) hnd hl (by omega) hqw hpl hx hok (by simp -dsimp -implicitDefEqProofs only [go_sem]) (by simp -dsimp -implicitDefEqProofs only [go_sem, e4]) (by simp -dsimp -implicitDefEqProofs only [go_sem, e5]) (by simp -dsimp -implicitDefEqProofs only [go_sem, e6]) (by simp -dsimp -implicitDefEqProofs only [go_sem, e7]) (by simp -dsimp -implicitDefEqProofs only [go_sem, e9]) (by simp -dsimp -implicitDefEqProofs only [go_sem, e10]) (by simp -dsimp -implicitDefEqProofs only [go_sem]) (by simp -dsimp -implicitDefEqProofs only [go_sem]) (by simp -dsimp -implicitDefEqProofs only [go_sem]) (by simp -dsimp -implicitDefEqProofs only [go_sem]) (h13.ac (by unfold RW RC; ac_rfl)) fin ?_
    intro k0 k1 w' h
    refine BrA.mk k0 (by rw [hpx]; exact k1) (by omega) (fin w' ?_)
    have e1 : tbl r (pre.length + 1) m l = tbl r pre.length m l := by subst k0; rfl
    rw [e1]
    exact h
  · intro D xs w' hS h8
    subst hS
    have h9 := dnRW (sortK l) (h8.ac (show _ = (Kf (sortK l) * Tb (sortK l)) * ((Blk D (.deferred (some [])) * mkA Ms) * A) by ac_rfl))
    rw [sortK_length, tbl_all] at h9
    have h10 : St w0 (RW T4 T5 T6 T7 T8 T9 T10 T11 T12 P K KK tB rB (N + 256) r l.length mo m most (.slice aw qw.length cw) qw (if r = 2 then adel m l else l) (mkA (D :: Ms) * A)) w' := RW.up (by omega) h9
    simp -dsimp -implicitDefEqProofs (disch := omega) only [go_sem]
    exact all_t28 hr (by omega) (⟨by simp -dsimp -implicitDefEqProofs only [go_sem, hd], by simp -dsimp -implicitDefEqProofs only [go_sem, e4], by simp -dsimp -implicitDefEqProofs only [go_sem, e5], by simp -dsimp -implicitDefEqProofs only [go_sem, e6], by simp -dsimp -implicitDefEqProofs only [go_sem, e7], by simp -dsimp -implicitDefEqProofs only [go_sem, e8], by simp -dsimp -implicitDefEqProofs only [go_sem, e9], by simp -dsimp -implicitDefEqProofs only [go_sem, e10]⟩ : WA _ T4 T5 T6 T7 T8 T9 T10 (D :: Ms)) (by simp -dsimp -implicitDefEqProofs only [go_sem]) (by simp -dsimp -implicitDefEqProofs only [go_sem]) (.inl hql.symm) h10 fun T10' => hQ T10' D
  · intro D cd pre w' h8
    obtain ⟨⟨rfl, k0, k1, k2⟩, h9⟩ := BrA.open h8.sw2
    have h10 := dnRW pre (h9.ac (show _ = (Kf pre * Tb pre) * ((Blk D (.deferred (some [])) * mkA Ms) * A) by ac_rfl))
    have h11 : St w0 (RW T4 T5 T6 T7 T8 T9 T10 T11 T12 P K KK tB rB (N + 256) r pre.length mo m most (.slice aw qw.length cw) qw (if r = 2 then adel m l else l) (mkA (D :: Ms) * A)) w' := by
      have e1 : tbl r pre.length m l = (if r = 2 then adel m l else l) := by unfold tbl; rw [if_neg (by omega), if_neg (by omega)]
      rw [← e1]
      exact RW.up (by omega) h10
    simp -dsimp -implicitDefEqProofs (disch := omega) only [go_sem]
    exact all_t28 hr (by omega) (⟨by simp -dsimp -implicitDefEqProofs only [go_sem, hd], by simp -dsimp -implicitDefEqProofs only [go_sem, e4], by simp -dsimp -implicitDefEqProofs only [go_sem, e5], by simp -dsimp -implicitDefEqProofs only [go_sem, e6], by simp -dsimp -implicitDefEqProofs only [go_sem, e7], by simp -dsimp -implicitDefEqProofs only [go_sem, e8], by simp -dsimp -implicitDefEqProofs only [go_sem, e9], by simp -dsimp -implicitDefEqProofs only [go_sem, e10]⟩ : WA _ T4 T5 T6 T7 T8 T9 T10 (D :: Ms)) (by simp -dsimp -implicitDefEqProofs only [go_sem]) (by simp -dsimp -implicitDefEqProofs only [go_sem]) (.inr ⟨k0, k1⟩) h11 fun T10' => hQ T10' D
end
end
def tbR (r : Nat) (m : Int) (l : TL) : TL := if r = 3 then adel m l else l
section
variable {w0 w : World} {F : HP} {P K tB rB N : Nat} {most : Int} {l : TL}
section
attribute [local go_sem] F46.t28_eq F46.t30_eq F46.t32_eq F46.t4_eq
theorem pall_any {mo m : Int} (hN : N ≤ 999999900000) (hnd : (l.map (·.1)).Nodup) (hl : l.length ≤ 256) (h : St w0 (PairP P tB rB most l (BookP K N * F)) w) :
    Calls Try.prog 46 #[.pointer (some ⟨P, 0, none⟩), .pointer (some ⟨K, 0, none⟩), .int .i64 mo, .int .u32 m] w fun e w' => St w0 (PairP P tB rB most (adel m l) (BookP K (N + 768) * F)) w' ∧ e = .returned (.bool true) := by
  refine F46.calls (by simp) ?_
  unfold F46.code
  simp -dsimp -implicitDefEqProofs (disch := omega) only [go_sem]
  refine h.new fun T4 w1 h1 => ?_
  simp -dsimp -implicitDefEqProofs (disch := omega) only [go_sem]
  refine h1.new fun T5 w3 h3 => ?_
  simp -dsimp -implicitDefEqProofs (disch := omega) only [go_sem]
  refine h3.new fun T6 w5 h5 => ?_
  simp -dsimp -implicitDefEqProofs (disch := omega) only [go_sem]
  refine h5.new fun T7 w7 h7 => ?_
  simp -dsimp -implicitDefEqProofs (disch := omega) only [go_sem]
  refine h7.new fun T8 w9 h9 => ?_
  simp -dsimp -implicitDefEqProofs (disch := omega) only [go_sem, h9.cl T4, h9.cl P]
  refine (all_any (B := tB) h9).mono ?_
  rintro e' w10 ⟨KK, h10, rfl⟩
  simp -dsimp -implicitDefEqProofs (disch := omega) only [go_sem]
  refine h10.new fun T9 w11 h11 => ?_
  simp -dsimp -implicitDefEqProofs (disch := omega) only [go_sem]
  refine h11.sto (b := T9) (off := 0) (by simp) rfl fun w12 h12 => ?_
  simp only [List.setIfInBounds_toArray, List.set_cons_zero] at h12
  simp -dsimp -implicitDefEqProofs (disch := omega) only [go_sem, h12.cl T9]
  refine h12.new fun T10 w13 h13 => ?_
  simp -dsimp -implicitDefEqProofs (disch := omega) only [go_sem]
  refine h13.sto (b := T10) (off := 0) (by simp) rfl fun w14 h14 => ?_
  simp only [List.setIfInBounds_toArray, List.set_cons_zero] at h14
  simp -dsimp -implicitDefEqProofs (disch := omega) only [go_sem]
  refine loop_intro (fun e w' => ∃ (r T10 : Nat) (Ms : List Nat), r ≤ 3 ∧ WA e T4 T5 T6 T7 T8 T9 T10 Ms ∧ St w0 (RO T4 T5 T6 T7 T8 T9 T10 P K KK tB rB (N + 256 * r) r mo m most (tbR r m l) (mkA Ms * F)) w')
    (fun e w' => match e.ρ 10 with | .pointer (some a) => (match w'.cell? a with | some (.int _ x) => (3 - x).toNat | _ => 0) | _ => 0) ?_ ?_
  · refine ⟨0, T10, [], by omega, ⟨by simp -dsimp -implicitDefEqProofs only [go_sem], by simp -dsimp -implicitDefEqProofs only [go_sem], by simp -dsimp -implicitDefEqProofs only [go_sem], by simp -dsimp -implicitDefEqProofs only [go_sem], by simp -dsimp -implicitDefEqProofs only [go_sem], by simp -dsimp -implicitDefEqProofs only [go_sem], by simp -dsimp -implicitDefEqProofs only [go_sem], by simp -dsimp -implicitDefEqProofs only [go_sem]⟩, ?_⟩
    exact (h14.ent (Ent.empL _)).ac (by unfold RO RT RC PairP; show EmpH * _ = Blk T10 (.cells #[.int .i64 0] 3 (0, 0)) * (_ * (_ * (_ * (_ * (_ * (_ * (_ * (Blk T6 (.cells #[.int .i64 mo] 3 (0, 0)) * (_ * (_ * (EmpH * F))))))))))) ; ac_rfl)
  clear h h1 h3 h5 h7 h9 h10 h11 h12 h13 h14
  rintro e w ⟨r, T10, Ms, hr, f, h⟩
  have f' := f
  obtain ⟨hd, e4, e5, e6, e7, e8, e9, e10⟩ := f'
  have c10 := h.cl T10 0
  by_cases hlt : (r : Int) < 3
  · simp -dsimp -implicitDefEqProofs (disch := omega) only [go_sem, hd, e4, e5, e6, e7, e8, e9, e10, h.cl T10, hlt]
    have ht : tbR r m l = l := by unfold tbR; rw [if_neg (by omega)]
    rw [ht] at h
    refine all_t7 (N := N + 256 * r) (by omega) hnd hl (by omega) (⟨by simp -dsimp -implicitDefEqProofs only [go_sem, hd], by simp -dsimp -implicitDefEqProofs only [go_sem, e4], by simp -dsimp -implicitDefEqProofs only [go_sem, e5], by simp -dsimp -implicitDefEqProofs only [go_sem, e6], by simp -dsimp -implicitDefEqProofs only [go_sem, e7], by simp -dsimp -implicitDefEqProofs only [go_sem, e8], by simp -dsimp -implicitDefEqProofs only [go_sem, e9], by simp -dsimp -implicitDefEqProofs only [go_sem, e10]⟩ : WA _ T4 T5 T6 T7 T8 T9 T10 Ms) h ?_
    intro T10' D e' w' f' h'
    have c10' := h'.cl T10' 0
    simp -dsimp -implicitDefEqProofs (disch := omega) only [go_sem]
    refine ⟨⟨r + 1, T10', D :: Ms, by omega, f', ?_⟩, ?_⟩
    · have e2 : tbR (r + 1) m l = (if r = 2 then adel m l else l) := by unfold tbR; simp only [Nat.reduceEqDiff]
      rw [e2, show N + 256 * (r + 1) = N + 256 * r + 256 by omega]
      exact h'
    · rw [f'.e10, e10]
      dsimp only
      rw [c10, c10']
      show (3 - ((r + 1 : Nat) : Int)).toNat < (3 - (r : Int)).toNat
      omega
  · obtain rfl : r = 3 := by omega
    simp -dsimp -implicitDefEqProofs (disch := omega) only [go_sem, hd, e4, e5, e6, e7, e8, e9, e10, h.cl T10, hlt]
    have ht : tbR 3 m l = adel m l := rfl
    rw [ht] at h
    refine h.sto (b := T8) (off := 0) (by simp) rfl fun w1 h1 => ?_
    simp only [List.setIfInBounds_toArray, List.set_cons_zero] at h1
    simp -dsimp -implicitDefEqProofs (disch := omega) only [go_sem, hd, e8]
    have h1 : St w0 (Blk T8 (.cells #[.bool true] 4 (0, 0)) * (intC T10 (3 : Nat) * (BookP K (N + 256 * 3) * (RefT rB most (sortK (adel m l)) * ((TabP tB most (adel m l) * Blk KK (.cells #[.pointer (some ⟨tB, 0, none⟩)] 22 (0, 0))) * (Blk P (pairB tB rB) * (Blk T9 (.cells #[itA KK] 81 (0, 0)) * (Blk T4 (.cells #[.pointer (some ⟨P, 0, none⟩)] 70 (0, 0)) * (Blk T5 (.cells #[.pointer (some ⟨K, 0, none⟩)] 64 (0, 0)) * (Blk T6 (.cells #[.int .i64 mo] 3 (0, 0)) * (Blk T7 (.cells #[.int .u32 m] 35 (0, 0)) * (mkA Ms * F)))))))))))) w1 := h1.ac (by unfold RT; ac_rfl)
    refine marks_ret (Ms := Ms) (h1.ac (show _ = mkA Ms * (Blk T8 (.cells #[.bool true] 4 (0, 0)) * (PairP P tB rB most (adel m l) (BookP K (N + 256 * 3) * F) * (intC T10 (3 : Nat) * (Blk KK (.cells #[.pointer (some ⟨tB, 0, none⟩)] 22 (0, 0)) * (Blk T9 (.cells #[itA KK] 81 (0, 0)) * (Blk T4 (.cells #[.pointer (some ⟨P, 0, none⟩)] 70 (0, 0)) * (Blk T5 (.cells #[.pointer (some ⟨K, 0, none⟩)] 64 (0, 0)) * (Blk T6 (.cells #[.int .i64 mo] 3 (0, 0)) * Blk T7 (.cells #[.int .u32 m] 35 (0, 0)))))))))) by unfold PairP; ac_rfl)) fun w2 h2 => ?_
    refine resC_1 (a := ⟨T8, 0, none⟩) (v := .bool true) (by simp -dsimp -implicitDefEqProofs only [go_sem, e8]) (run_loadVar_cell fact_aggSz_4 (by rw [h2.cl T8]; rfl)) ?_
    exact ⟨h2.right.left, rfl⟩
end
end
end Go.Proofs.Ytljndiligbaljaa

/- The walk of FrameCuts. -/
import Derived.Test.YtfamclpajjnfbaaFrY
import Derived.Test.YtfamclpajjnfbaaFrN
namespace Go.Proofs.Ytfamclpajjnfbaa
open Go
set_option linter.unusedSimpArgs false
set_option linter.unusedVariables false
set_option maxRecDepth 100000

abbrev rLims := rSlice 1 4 (rInt .u32)
theorem limElem {w0 : World} {xs : List Int} {a : Option Addr} {n cap j : Nat} (k : Ent (Old w0) (rLims.at xs [.slice a n cap])) (hj : j < xs.length) :
    ∃ g o, a = some ⟨g, o, none⟩ ∧ (0 ≤ xs[j] ∧ xs[j] < 4294967296) ∧ ∀ (F : HP) (u : World), St w0 (Old w0 * F) u → u.cell? ⟨g, o + j, none⟩ = some (.int .u32 xs[j]) := by
  obtain ⟨g, o, cs, rfl, hcs, hel, hc⟩ := Rdr.elemEnt k hj
  obtain ⟨rfl, hw⟩ := (St.start w0).reader hel
  refine ⟨g, o, rfl, ⟨u32_nonneg hw, u32_lt hw⟩, fun F u hu => ?_⟩
  have := hc F u hu 0 (by omega)
  simpa using this
theorem opWho {w0 : World} {xs : List (Int × Int × List UInt8 × Int × Unit)} {a : Option Addr} {n cap j : Nat} (k : Ent (Old w0) (rOps.at xs [.slice a n cap])) (hj : j < xs.length) :
    -9223372036854775808 ≤ xs[j].1 ∧ xs[j].1 < 9223372036854775808 := by
  obtain ⟨g, o, cs, rfl, hcs, hel, hc⟩ := Rdr.elemEnt k hj
  obtain ⟨c1, c2, rfl, _, ⟨rfl, hw⟩, _⟩ := (St.start w0).reader hel
  have hmin : IntKind.i64.min = -9223372036854775808 := rfl
  have hmax : IntKind.i64.max = 9223372036854775807 := rfl
  simp [Lit.wf, hmin, hmax] at hw
  omega

abbrev CL := List (Nat × Nat × RC)
def pq (x : Nat × Nat × RC) : HP := CutR x.1 x.2.2 * RefP x.2.1 x.2.2
def pqs (l : CL) : HP := starL pq l
abbrev p1 (x : Nat × Nat × RC) : Value := .pointer (some ⟨x.1, 0, none⟩)
abbrev p2 (x : Nat × Nat × RC) : Value := .pointer (some ⟨x.2.1, 0, none⟩)
theorem pqs_at (l : CL) (k : Nat) (hk : k < l.length) : pqs l = pq l[k] * pqs (l.take k ++ l.drop (k + 1)) := by
  have e : l = l.take k ++ l[k] :: l.drop (k + 1) := by rw [← List.drop_eq_getElem_cons hk, List.take_append_drop]
  unfold pqs
  conv => lhs; rw [e]
  exact starL_mid pq l[k] _ _
theorem pqs_set (l : CL) (k : Nat) (hk : k < l.length) (y : Nat × Nat × RC) : pqs (l.set k y) = pq y * pqs (l.take k ++ l.drop (k + 1)) := by
  unfold pqs
  rw [List.set_eq_take_append_cons_drop, if_pos hk]
  exact starL_mid pq y _ _

abbrev CWP (w0 : World) (va vb : Value) (cs : CL) (F : HP) : HP := Old w0 * (RowO 28 1 va cs.length (cs.map p1) * (RowO 31 1 vb cs.length (cs.map p2) * (pqs cs * F)))

section
attribute [local go_sem] F4.t15_eq F4.t10_eq F4.t11_eq F4.t21_eq F4.t22_eq F4.t29_eq F4.t30_eq F4.t33_eq F4.t18_eq F4.t6_eq F4.t3_eq
theorem cuts_27 {w0 w : World} {B n : Nat} {cs : CL} {va vb : Value} {R : Ending → World → Prop} {e : FA} {θ : Tag (F4.t27, fnP Try.prog #[.tmp 4] R, e, w)}
    (hcs : ∀ x ∈ cs, x.2.2.ok) (hn : n ≤ 100000000) (hlen : cs.length ≤ 10000) (hd : e.ds = []) (e6 : e.ρ 6 = va) (e7 : e.ρ 7 = vb) (e11 : e.ρ 11 = .pointer (some ⟨B, 0, none⟩))
    (h : St w0 (CWP w0 va vb cs (BookP B n)) w) (hQ : ∀ w', St w0 (Old w0) w' → R (.returned (.bool true)) w') :
    cwE Try.prog F4.t27 (fnP Try.prog #[.tmp 4] R) e w θ := by
  obtain ⟨a, ca, rfl, _⟩ := h.rowForm va
  obtain ⟨b, cb, rfl, _⟩ := h.rowForm vb
  rw [F4.t27_eq]
  simp -dsimp -implicitDefEqProofs (disch := omega) only [go_sem, reqD_of, dec_t, dec_f, wrap_i64, wrap_u32, wrap_u64, wrap_u8, hd, e6, e7]
  refine loop_intro (fun e w' => e.ds = [] ∧ e.ρ 6 = .slice a cs.length ca ∧ e.ρ 7 = .slice b cs.length cb ∧ e.ρ 11 = .pointer (some ⟨B, 0, none⟩) ∧ (∃ i : Nat, i ≤ cs.length ∧ e.ρ 16 = .int .i64 i) ∧ St w0 (CWP w0 (.slice a cs.length ca) (.slice b cs.length cb) cs (BookP B n)) w')
    (fun e _ => match e.ρ 16 with | .int _ n => (cs.length - n).toNat | _ => 0) ?_ ?_
  · exact ⟨by simp -dsimp -implicitDefEqProofs only [go_sem, hd], by simp -dsimp -implicitDefEqProofs only [go_sem, e6], by simp -dsimp -implicitDefEqProofs only [go_sem, e7], by simp -dsimp -implicitDefEqProofs only [go_sem, e11], ⟨0, by omega, rfl⟩, h⟩
  · clear h
    rintro e1 w1 ⟨hd, e6, e7, e11, ⟨i, hi, e16⟩, h1⟩
    by_cases hlt : (i : Int) < cs.length
    · have hic : i < cs.length := by omega
      obtain ⟨ba, oa, rfl, xa⟩ := h1.at1 (a := a) (n := cs.length) (c := ca) (xs := cs.map p1) (k := i) (by simp; omega)
      obtain ⟨bb, ob, rfl, xb⟩ := h1.at1 (a := b) (n := cs.length) (c := cb) (xs := cs.map p2) (k := i) (by simp; omega)
      simp only [List.getElem_map] at xa xb
      have xa' : w1.drew.cell? _ = _ := xa
      have xb' : w1.drew.cell? _ = _ := xb
      simp -dsimp -implicitDefEqProofs (disch := omega) only [go_sem, reqD_of, dec_t, dec_f, wrap_i64, wrap_u32, wrap_u64, wrap_u8, hd, e6, e7, e11, e16, hlt, F4.t30_eq, xa, xb, xa', xb']
      have h2 : St w0 (CutR cs[i].1 cs[i].2.2 * (RefP cs[i].2.1 cs[i].2.2 * (pqs (cs.take i ++ cs.drop (i + 1)) * (Old w0 * (RowO 28 1 (.slice (some ⟨ba, oa, none⟩) cs.length ca) cs.length (cs.map p1) * (RowO 31 1 (.slice (some ⟨bb, ob, none⟩) cs.length cb) cs.length (cs.map p2) * BookP B n)))))) w1.drew := h1.drew.ac (by rw [CWP, pqs_at cs i hic]; simp only [pq]; ac_rfl)
      refine (asked_any h2 (hcs _ (List.getElem_mem hic))).mono ?_
      rintro e' w3 ⟨h3, rfl⟩
      simp -dsimp -implicitDefEqProofs (disch := omega) only [go_sem, reqD_of, dec_t, dec_f, wrap_i64, wrap_u32, wrap_u64, wrap_u8, hd, e6, e7, e11, e16]
      have h4 : St w0 (CWP w0 (.slice (some ⟨ba, oa, none⟩) cs.length ca) (.slice (some ⟨bb, ob, none⟩) cs.length cb) cs (BookP B n)) w3 := h3.ac (by rw [CWP, pqs_at cs i hic]; simp only [pq]; ac_rfl)
      exact ⟨⟨⟨i + 1, by omega, by omega⟩, h4⟩, by omega⟩
    · simp -dsimp -implicitDefEqProofs (disch := omega) only [go_sem, reqD_of, dec_t, dec_f, wrap_i64, wrap_u32, wrap_u64, wrap_u8, hd, e6, e7, e11, e16, hlt]
      refine (ends_any hn (h1.ac (show _ = BookP B n * (Old w0 * (RowO 28 1 (.slice a cs.length ca) cs.length (cs.map p1) * (RowO 31 1 (.slice b cs.length cb) cs.length (cs.map p2) * pqs cs))) by simp only [CWP]; ac_rfl))).mono ?_
      rintro e' w3 ⟨h3, rfl⟩
      simp -dsimp -implicitDefEqProofs (disch := omega) only [go_sem, reqD_of, dec_t, dec_f, wrap_i64, wrap_u32, wrap_u64, wrap_u8, hd]
      exact hQ _ (h3.right.ent (Ent.left _ _))

abbrev nilS : Value := .slice none 0 0
theorem BookP.new {w0 w : World} {B : Nat} {F : HP} (h : St w0 (Blk B (bkB nilS nilS nilS nilS nilS nilS) * F) w) : St w0 (BookP B 0 * F) w := by
  have h1 : St w0 (EmpH * (EmpH * (EmpH * (RowO 35 1 nilS 0 [] * (RowO 5 1 nilS 0 [] * (RowO 35 1 nilS 0 [] * (RowO 35 1 nilS 0 [] * (RowO 35 1 nilS 0 [] * (RowO 35 1 nilS 0 [] * (Blk B (bkB nilS nilS nilS nilS nilS nilS) * F)))))))))) w :=
    ((((((((h.nilR 35 1).nilR 35 1).nilR 35 1).nilR 35 1).nilR 5 1).nilR 35 1).ent (Ent.embL _)).ent (Ent.embL _)).ent (Ent.embL _)
  have h2 : St w0 (BkQ B nilS nilS nilS nilS nilS nilS [] [] [] [] * F) w := h1.ac (by
    show _ = (Blk B (bkB nilS nilS nilS nilS nilS nilS) * (RowO 35 1 nilS 0 [] * (RowO 5 1 nilS 0 [] * (RowO 35 1 nilS 0 [] * (RowO 35 1 nilS 0 [] * (RowO 35 1 nilS 0 [] * (RowO 35 1 nilS 0 [] * (EmpH * (EmpH * EmpH))))))))) * F
    ac_rfl)
  have ok : BkOk 0 ⟨nilS, nilS, nilS, nilS, nilS, nilS, [], [], [], []⟩ := ⟨⟨fun x hx => absurd hx (by simp), fun x hx => absurd hx (by simp)⟩, fun x hx => absurd hx (by simp), fun x hx => absurd hx (by simp), by simp⟩
  exact h2.ent (Ent.sep ((Ent.fact ok _).trans (Ent.ex (fun x : BkX => HP.fact (BkOk 0 x) (BkQ B x.vl x.vm x.vh x.vt x.vf x.vw x.E x.hs x.fs x.Gs)) ⟨nilS, nilS, nilS, nilS, nilS, nilS, [], [], [], []⟩)) (Ent.rfl' F))

theorem costS_le (x : Int × Int × List UInt8 × Int × Unit) : costO x = 16 + costS x.2.1 x.2.2.1 := by unfold costO costS; omega

end
section
attribute [local go_sem] F4.t15_eq F4.t10_eq F4.t11_eq F4.t21_eq F4.t22_eq F4.t29_eq F4.t30_eq F4.t33_eq F4.t6_eq F4.t3_eq
theorem cuts_18 {w0 w : World} {cs : CL} {va vb : Value} {l : List (Int × Int × List UInt8 × Int × Unit)} {ps : Option Addr} {cps : Nat} {R : Ending → World → Prop} {e : FA} {θ : Tag (F4.t18, fnP Try.prog #[.tmp 4] R, e, w)}
    (hs : Ent (Old w0) (rOps.at l [.slice ps l.length cps])) (htot : total costO l ≤ 33554432) (hsb : l.length * 48 ≤ 140737488351232)
    (hcs : ∀ x ∈ cs, x.2.2.ok ∧ x.2.2.bytes = 0) (hlen : cs.length ≤ 10000) (hd : e.ds = []) (e1 : e.ρ 1 = .slice ps l.length cps) (e6 : e.ρ 6 = va) (e7 : e.ρ 7 = vb)
    (h : St w0 (CWP w0 va vb cs EmpH) w) (hQ : ∀ w', St w0 (Old w0) w' → R (.returned (.bool true)) w') :
    cwE Try.prog F4.t18 (fnP Try.prog #[.tmp 4] R) e w θ := by
  obtain ⟨a, ca, rfl, _⟩ := h.rowForm va
  obtain ⟨b, cb, rfl, _⟩ := h.rowForm vb
  rw [F4.t18_eq]
  simp -dsimp -implicitDefEqProofs (disch := omega) only [go_sem, reqD_of, dec_t, dec_f, wrap_i64, wrap_u32, wrap_u64, wrap_u8, hd, e1, e6, e7]
  refine onV_of (v := .agg #[nilS, nilS, nilS, nilS, nilS, nilS]) (by kernel_rfl) ?_
  simp -dsimp -implicitDefEqProofs (disch := omega) only [go_sem, reqD_of, dec_t, dec_f, wrap_i64, wrap_u32, wrap_u64, wrap_u8, hd, e1, e6, e7]
  refine h.new fun B w1 h1 => ?_
  have h2 := BookP.new h1
  simp -dsimp -implicitDefEqProofs (disch := omega) only [go_sem, reqD_of, dec_t, dec_f, wrap_i64, wrap_u32, wrap_u64, wrap_u8, hd, e1, e6, e7]
  refine loop_intro (fun e w' => e.ds = [] ∧ e.ρ 1 = .slice ps l.length cps ∧ e.ρ 6 = .slice a cs.length ca ∧ e.ρ 7 = .slice b cs.length cb ∧ e.ρ 11 = .pointer (some ⟨B, 0, none⟩) ∧ ∃ (i n : Nat) (cs' : CL), i ≤ l.length ∧ e.ρ 12 = .int .i64 i ∧ n ≤ total costO (l.take i) ∧ cs'.map p1 = cs.map p1 ∧ cs'.map p2 = cs.map p2 ∧ (∀ x ∈ cs', x.2.2.ok ∧ x.2.2.bytes ≤ total costO (l.take i)) ∧ St w0 (Old w0 * (RowO 28 1 (.slice a cs.length ca) cs.length (cs.map p1) * (RowO 31 1 (.slice b cs.length cb) cs.length (cs.map p2) * (pqs cs' * BookP B n)))) w')
    (fun e _ => match e.ρ 12 with | .int _ n => (l.length - n).toNat | _ => 0) ?_ ?_
  · exact ⟨by simp -dsimp -implicitDefEqProofs only [go_sem, hd], by simp -dsimp -implicitDefEqProofs only [go_sem, e1], by simp -dsimp -implicitDefEqProofs only [go_sem, e6], by simp -dsimp -implicitDefEqProofs only [go_sem, e7], by simp -dsimp -implicitDefEqProofs only [go_sem], 0, 0, cs, by omega, rfl, by omega, rfl, rfl, fun x hx => ⟨(hcs x hx).1, by rw [(hcs x hx).2]; omega⟩, (h2.ac (show _ = EmpH * (Old w0 * (RowO 28 1 (.slice a cs.length ca) cs.length (cs.map p1) * (RowO 31 1 (.slice b cs.length cb) cs.length (cs.map p2) * (pqs cs * BookP B 0)))) by simp only [CWP]; ac_rfl)).right⟩
  · clear h h1 h2 e1 e6 e7 hd
    rintro e2 w2 ⟨hd, e1, e6, e7, e11, i, n, cs', hi, e12, hn, hm1, hm2, hok, h2⟩
    have hcl : cs'.length = cs.length := by have := congrArg List.length hm1; simpa using this
    have tle : total costO (l.take i) ≤ 33554432 := by have := total_take_le costO l i; omega
    have done : St w0 (CWP w0 (.slice a cs.length ca) (.slice b cs.length cb) cs' (BookP B n)) w2 := by
      rw [CWP, hm1, hm2, hcl]; exact h2
    by_cases hlt : (i : Int) < l.length
    · by_cases hN : (0 : Int) < cs.length
      · have hil : i < l.length := by omega
        obtain ⟨g, o, a', cap', rfl, hrd, hbl, harg, hc⟩ := opElem hs hil
        have hwho := opWho hs hil
        obtain ⟨c0, c1, c2, c3⟩ := hc _ w2 h2
        obtain ⟨d0, d1, d2, d3⟩ := hc _ w2.drew h2.drew
        have htk := total_take costO l hil
        have hcost := costS_le l[i]
        have hcl2 : l[i].2.2.1.length ≤ costS l[i].2.1 l[i].2.2.1 := by unfold costS; omega
        have tle2 : total costO (l.take (i + 1)) ≤ 33554432 := by
          have := total_mem costO l i hil
          omega
        simp -dsimp -implicitDefEqProofs (disch := omega) only [go_sem, reqD_of, dec_t, dec_f, wrap_i64, wrap_u32, wrap_u64, wrap_u8, hd, e1, e6, e7, e11, e12, hlt, hN, F4.t22_eq, c0]
        refine (pick_any hwho (n := cs.length) (by omega) (by omega)).mono ?_
        rintro e' w3 ⟨hw3, rfl⟩
        rw [hw3]
        clear hw3
        obtain ⟨k, hkd⟩ : ∃ k, k = pickN l[i].1 cs.length := ⟨_, rfl⟩
        rw [← hkd]
        have hk : k < cs.length := by rw [hkd]; exact pickN_lt _ (by omega)
        have hki : (k : Int) < cs.length := by omega
        have hk' : k < cs'.length := by omega
        obtain ⟨ba, oa, rfl, xa⟩ := h2.at1 (a := a) (n := cs.length) (c := ca) (xs := cs.map p1) (k := k) (by simp; omega)
        obtain ⟨bb, ob, rfl, xb⟩ := h2.at1 (a := b) (n := cs.length) (c := cb) (xs := cs.map p2) (k := k) (by simp; omega)
        have m1 : (cs.map p1)[k]'(by simp; omega) = p1 cs'[k] := by
          have := congrArg (fun l => l[k]?) hm1
          simp only [List.getElem?_map, List.getElem?_eq_getElem hk, List.getElem?_eq_getElem hk', Option.map_some, Option.some.injEq] at this
          simp only [List.getElem_map]
          exact this.symm
        have m2 : (cs.map p2)[k]'(by simp; omega) = p2 cs'[k] := by
          have := congrArg (fun l => l[k]?) hm2
          simp only [List.getElem?_map, List.getElem?_eq_getElem hk, List.getElem?_eq_getElem hk', Option.map_some, Option.some.injEq] at this
          simp only [List.getElem_map]
          exact this.symm
        rw [m1] at xa
        rw [m2] at xb
        have xa' : w2.drew.cell? _ = _ := xa
        have xb' : w2.drew.cell? _ = _ := xb
        obtain ⟨arg, har⟩ := Int.eq_ofNat_of_zero_le harg.1
        rw [har] at c3 d3 harg
        have hrow : rowV w2 ⟨g, o + i * 4, none⟩ 4 = some (.agg (stC l[i].1 l[i].2.1 (.slice a' l[i].2.2.1.length cap') arg).toArray) := rowV_part (lo := 0) (n := 4) (k := 4) (cs := stC l[i].1 l[i].2.1 (.slice a' l[i].2.2.1.length cap') arg) rfl (fun j hj => by
          rcases j with _ | _ | _ | _ | j
          · exact c0
          · exact c1
          · exact c2
          · exact c3
          · omega) (by omega)
        have hrow' : rowV w2.drew ⟨g, o + i * 4, none⟩ 4 = some (.agg (stC l[i].1 l[i].2.1 (.slice a' l[i].2.2.1.length cap') arg).toArray) := rowV_part (lo := 0) (n := 4) (k := 4) (cs := stC l[i].1 l[i].2.1 (.slice a' l[i].2.2.1.length cap') arg) rfl (fun j hj => by
          rcases j with _ | _ | _ | _ | j
          · exact d0
          · exact d1
          · exact d2
          · exact d3
          · omega) (by omega)
        obtain ⟨okk, byk⟩ := hok cs'[k] (List.getElem_mem hk')
        simp -dsimp -implicitDefEqProofs (disch := omega) only [go_sem, reqD_of, dec_t, dec_f, wrap_i64, wrap_u32, wrap_u64, wrap_u8, hd, e1, e6, e7, e11, e12, hlt, hki, xa, xa', xb, xb', hrow, hrow']
        have h3 : St w0 (CutR cs'[k].1 cs'[k].2.2 * (RefP cs'[k].2.1 cs'[k].2.2 * (BookP B n * (Old w0 * (RowO 28 1 (.slice (some ⟨ba, oa, none⟩) cs.length ca) cs.length (cs.map p1) * (RowO 31 1 (.slice (some ⟨bb, ob, none⟩) cs.length cb) cs.length (cs.map p2) * pqs (cs'.take k ++ cs'.drop (k + 1)))))))) w2.drew := h2.drew.ac (by rw [pqs_at cs' k hk']; simp only [pq]; ac_rfl)
        refine (does_any (bs := l[i].2.2.1) h3 ((Ent.left _ _).trans hrd) okk (by omega) (by omega) (by omega) (by omega)).mono ?_
        rintro e' w4 ⟨q, n', okq, hqb, hn', h4, rfl⟩
        simp -dsimp -implicitDefEqProofs (disch := omega) only [go_sem, reqD_of, dec_t, dec_f, wrap_i64, wrap_u32, wrap_u64, wrap_u8, hd, e1, e6, e7, e11, e12]
        refine (turn_any (B := B) (n := n') (by omega) (h4.ac (show _ = BookP B n' * (CutR cs'[k].1 q * (RefP cs'[k].2.1 q * (Old w0 * (RowO 28 1 (.slice (some ⟨ba, oa, none⟩) cs.length ca) cs.length (cs.map p1) * (RowO 31 1 (.slice (some ⟨bb, ob, none⟩) cs.length cb) cs.length (cs.map p2) * pqs (cs'.take k ++ cs'.drop (k + 1))))))) by ac_rfl))).mono ?_
        rintro e' w5 ⟨h5, rfl⟩
        simp -dsimp -implicitDefEqProofs (disch := omega) only [go_sem, reqD_of, dec_t, dec_f, wrap_i64, wrap_u32, wrap_u64, wrap_u8, hd, e1, e6, e7, e11, e12]
        refine ⟨⟨i + 1, n', cs'.set k (cs'[k].1, cs'[k].2.1, q), by omega, by omega, by omega, ?_, ?_, ?_, ?_⟩, by omega⟩
        · rw [List.map_set, ← hm1]
          have : p1 (cs'[k].1, cs'[k].2.1, q) = (cs'.map p1)[k]'(by simp; omega) := by simp
          rw [this, List.set_getElem_self]
        · rw [List.map_set, ← hm2]
          have : p2 (cs'[k].1, cs'[k].2.1, q) = (cs'.map p2)[k]'(by simp; omega) := by simp
          rw [this, List.set_getElem_self]
        · intro x hx
          rcases List.mem_or_eq_of_mem_set hx with hx | rfl
          · have := hok x hx
            exact ⟨this.1, by omega⟩
          · exact ⟨okq, by simp only; omega⟩
        · exact h5.ac (by rw [pqs_set cs' k hk']; simp only [pq]; ac_rfl)
      · simp -dsimp -implicitDefEqProofs (disch := omega) only [go_sem, reqD_of, dec_t, dec_f, wrap_i64, wrap_u32, wrap_u64, wrap_u8, hd, e1, e6, e7, e11, e12, hlt, hN]
        refine cuts_27 (va := .slice a cs.length ca) (vb := .slice b cs.length cb) (cs := cs') (B := B) (n := n) (fun x hx => (hok x hx).1) (by omega) (by omega) (by simp -dsimp -implicitDefEqProofs only [go_sem, hd]) (by simp -dsimp -implicitDefEqProofs only [go_sem, e6]) (by simp -dsimp -implicitDefEqProofs only [go_sem, e7]) (by simp -dsimp -implicitDefEqProofs only [go_sem, e11]) done hQ
    · simp -dsimp -implicitDefEqProofs (disch := omega) only [go_sem, reqD_of, dec_t, dec_f, wrap_i64, wrap_u32, wrap_u64, wrap_u8, hd, e1, e6, e7, e11, e12, hlt]
      refine cuts_27 (va := .slice a cs.length ca) (vb := .slice b cs.length cb) (cs := cs') (B := B) (n := n) (fun x hx => (hok x hx).1) (by omega) (by omega) (by simp -dsimp -implicitDefEqProofs only [go_sem, hd]) (by simp -dsimp -implicitDefEqProofs only [go_sem, e6]) (by simp -dsimp -implicitDefEqProofs only [go_sem, e7]) (by simp -dsimp -implicitDefEqProofs only [go_sem, e11]) done hQ

end
section
attribute [local go_sem] F4.t15_eq F4.t10_eq F4.t11_eq F4.t21_eq F4.t22_eq F4.t29_eq F4.t30_eq F4.t33_eq F4.t27_eq F4.t6_eq F4.t3_eq
theorem cuts_any {w0 : World} {ls : List Int} {vl vs : Value} {l : List (Int × Int × List UInt8 × Int × Unit)} (h : St w0 (Old w0) w0) (hl : Ent (Old w0) (rLims.at ls [vl])) (hs : Ent (Old w0) (rOps.at l [vs])) :
    Calls Try.prog 4 #[vl, vs] w0 fun e w' => St w0 (Old w0) w' ∧ e = .returned (.bool true) := by
  obtain ⟨pl, cpl, rfl, _, _, hlb⟩ := Rdr.slice ((St.start w0).reader hl)
  have hlb : ls.length * 4 ≤ 140737488351232 := hlb
  obtain ⟨ps, cps, rfl, _, _, hsb⟩ := Rdr.slice ((St.start w0).reader hs)
  have hsb : l.length * 48 ≤ 140737488351232 := hsb
  have h0 : St w0 (Old w0 * EmpH) w0 := (h.ent (Ent.embL _)).ac (by ac_rfl)
  refine F4.calls (by simp) ?_
  unfold F4.code
  by_cases hbig : (10000 : Int) < ls.length
  · simp -dsimp -implicitDefEqProofs (disch := omega) only [go_sem, reqD_of, dec_t, dec_f, wrap_i64, wrap_u32, wrap_u64, wrap_u8, hbig]
    exact h
  simp -dsimp -implicitDefEqProofs (disch := omega) only [go_sem, reqD_of, dec_t, dec_f, wrap_i64, wrap_u32, wrap_u64, wrap_u8, hbig]
  refine (much_any h0 hs).mono ?_
  rintro e w1 ⟨h1, m, rfl, hmb, hm⟩
  by_cases hbig2 : (33554432 : Int) < m
  · simp -dsimp -implicitDefEqProofs (disch := omega) only [go_sem, reqD_of, dec_t, dec_f, wrap_i64, wrap_u32, wrap_u64, wrap_u8, hbig2]
    exact h1.ent (Ent.left _ _)
  simp -dsimp -implicitDefEqProofs (disch := omega) only [go_sem, reqD_of, dec_t, dec_f, wrap_i64, wrap_u32, wrap_u64, wrap_u8, hbig2]
  have hm' := hm (by omega)
  refine (known_any h1).mono ?_
  rintro e w2 ⟨h2, rfl⟩
  have h3 : St w0 (CWP w0 (.slice none 0 0) (.slice none 0 0) ([] : CL) EmpH) w2 := ((((h2.nilR 28 1).nilR 31 1).ent (Ent.embL _)).ac (by
    show _ = Old w0 * (RowO 28 1 (.slice none 0 0) 0 [] * (RowO 31 1 (.slice none 0 0) 0 [] * (EmpH * EmpH)))
    ac_rfl))
  simp -dsimp -implicitDefEqProofs (disch := omega) only [go_sem, reqD_of, dec_t, dec_f, wrap_i64, wrap_u32, wrap_u64, wrap_u8]
  refine loop_intro (fun e w' => e.ds = [] ∧ e.ρ 0 = .slice pl ls.length cpl ∧ e.ρ 1 = .slice ps l.length cps ∧ ∃ (i : Nat) (cs : CL) (a : Option Addr) (ca : Nat) (b : Option Addr) (cb : Nat), i ≤ ls.length ∧ e.ρ 8 = .int .i64 i ∧ e.ρ 6 = .slice a cs.length ca ∧ e.ρ 7 = .slice b cs.length cb ∧ cs.length ≤ i ∧ (∀ x ∈ cs, x.2.2.ok ∧ x.2.2.bytes = 0) ∧ St w0 (CWP w0 (.slice a cs.length ca) (.slice b cs.length cb) cs EmpH) w')
    (fun e _ => match e.ρ 8 with | .int _ n => (ls.length - n).toNat | _ => 0) ?_ ?_
  · exact ⟨rfl, by simp -dsimp -implicitDefEqProofs only [go_sem], by simp -dsimp -implicitDefEqProofs only [go_sem], 0, [], none, 0, none, 0, by omega, rfl, by simp -dsimp -implicitDefEqProofs only [go_sem, List.length_nil], by simp -dsimp -implicitDefEqProofs only [go_sem, List.length_nil], by simp, fun x hx => absurd hx (by simp), h3⟩
  · clear h h0 h1 h2 h3
    rintro e w3 ⟨hd, e0, e1, i, cs, a, ca, b, cb, hi, e8, e6, e7, hcl, hok, h3⟩
    by_cases hlt : (i : Int) < ls.length
    · have hil : i < ls.length := by omega
      obtain ⟨g, o, rfl, hlim, hc⟩ := limElem hl hil
      have c0 := hc _ w3 h3
      obtain ⟨L, hL⟩ := Int.eq_ofNat_of_zero_le hlim.1
      rw [hL] at c0
      simp -dsimp -implicitDefEqProofs (disch := omega) only [go_sem, reqD_of, dec_t, dec_f, wrap_i64, wrap_u32, wrap_u64, wrap_u8, hd, e0, e1, e6, e7, e8, hlt, F4.t11_eq, c0]
      cases hol : okLimit L with
      | false =>
        refine (new_no h3 hol).mono ?_
        rintro e' w4 ⟨h4, rfl⟩
        have c1 := hc _ w4 h4
        rw [hL] at c1
        simp -dsimp -implicitDefEqProofs (disch := omega) only [go_sem, reqD_of, dec_t, dec_f, wrap_i64, wrap_u32, wrap_u64, wrap_u8, hd, e0, e1, e6, e7, e8, hlt, c1]
        refine (newRef_no h4 hol).mono ?_
        rintro e' w5 ⟨h5, rfl⟩
        simp -dsimp -implicitDefEqProofs (disch := omega) only [go_sem, reqD_of, dec_t, dec_f, wrap_i64, wrap_u32, wrap_u64, wrap_u8, hd, e0, e1, e6, e7, e8, F4.t15_eq, beq_self_eq_true, Bool.not_true]
        exact ⟨⟨i + 1, cs, a, ca, b, cb, by omega, by omega, ⟨rfl, rfl, rfl⟩, ⟨rfl, rfl, rfl⟩, by omega, hok, h5⟩, by omega⟩
      | true =>
        refine (newR_yes h3 hol).mono ?_
        rintro e' w4 ⟨c, h4, rfl⟩
        have h4' : St w0 (CWP w0 (.slice a cs.length ca) (.slice b cs.length cb) cs (CutR c (RC.new L))) w4 := (h4.ac (show _ = EmpH * (CWP w0 (.slice a cs.length ca) (.slice b cs.length cb) cs (CutR c (RC.new L))) by simp only [CWP]; ac_rfl)).right
        have c1 := hc _ w4 h4'
        rw [hL] at c1
        simp -dsimp -implicitDefEqProofs (disch := omega) only [go_sem, reqD_of, dec_t, dec_f, wrap_i64, wrap_u32, wrap_u64, wrap_u8, hd, e0, e1, e6, e7, e8, hlt, c1]
        refine (newRef_yes h4' hol).mono ?_
        rintro e' w5 ⟨d, h5, rfl⟩
        simp -dsimp -implicitDefEqProofs (disch := omega) only [go_sem, reqD_of, dec_t, dec_f, wrap_i64, wrap_u32, wrap_u64, wrap_u8, hd, e0, e1, e6, e7, e8, F4.t15_eq, beq_self_eq_true, Bool.not_true]
        have h6 : St w0 (RowO 28 1 (.slice a cs.length ca) cs.length (cs.map p1) * (RowO 31 1 (.slice b cs.length cb) cs.length (cs.map p2) * (CutR c (RC.new L) * (RefP d (RC.new L) * (pqs cs * Old w0))))) w5 := h5.ac (by simp only [CWP]; ac_rfl)
        refine h6.lit (n := 1) (cells := [.pointer (some ⟨c, 0, none⟩)]) fact_rowTy_26 rfl (by decide) (by decide) fun v7 w7 h7 => ?_
        simp -dsimp -implicitDefEqProofs (disch := omega) only [go_sem, reqD_of, dec_t, dec_f, wrap_i64, wrap_u32, wrap_u64, wrap_u8, hd, e0, e1, e6, e7, e8]
        refine h7.app (v := .slice a cs.length ca) fact_rowTy_26 ((Ent.left _ _).trans (RowO.reads _ _ _ _ _)) Try.underlying26 (by intro u hu; simp only [List.mem_singleton] at hu; subst hu; rfl) (fun h => by simp at h) (by simp only [maxLen]; omega) (by omega) fun v8 w8 h8 => ?_
        obtain ⟨a8, c8, rfl, _⟩ := h8.rowForm v8
        simp -dsimp -implicitDefEqProofs (disch := omega) only [go_sem, reqD_of, dec_t, dec_f, wrap_i64, wrap_u32, wrap_u64, wrap_u8, hd, e0, e1, e6, e7, e8]
        refine h8.lit (n := 1) (cells := [.pointer (some ⟨d, 0, none⟩)]) fact_rowTy_27 rfl (by decide) (by decide) fun v9 w9 h9 => ?_
        simp -dsimp -implicitDefEqProofs (disch := omega) only [go_sem, reqD_of, dec_t, dec_f, wrap_i64, wrap_u32, wrap_u64, wrap_u8, hd, e0, e1, e6, e7, e8]
        refine h9.app (v := .slice b cs.length cb) fact_rowTy_27 ((Ent.left _ _).trans (RowO.reads _ _ _ _ _)) Try.underlying27 (by intro u hu; simp only [List.mem_singleton] at hu; subst hu; rfl) (fun h => by simp at h) (by simp only [maxLen]; omega) (by omega) fun v10 w10 h10 => ?_
        obtain ⟨a10, c10, rfl, _⟩ := h10.rowForm v10
        simp -dsimp -implicitDefEqProofs (disch := omega) only [go_sem, reqD_of, dec_t, dec_f, wrap_i64, wrap_u32, wrap_u64, wrap_u8, hd, e0, e1, e6, e7, e8]
        have e3 : (cs ++ [(c, d, RC.new L)]).length = cs.length + 1 := by simp
        have e4 : pqs (cs ++ [(c, d, RC.new L)]) = pq (c, d, RC.new L) * pqs cs := by
          unfold pqs
          rw [starL_mid pq (c, d, RC.new L) cs [], List.append_nil]
        have e5 : (cs ++ [(c, d, RC.new L)]).map p1 = cs.map p1 ++ [.pointer (some ⟨c, 0, none⟩)] := by simp
        have e6' : (cs ++ [(c, d, RC.new L)]).map p2 = cs.map p2 ++ [.pointer (some ⟨d, 0, none⟩)] := by simp
        have h11 : St w0 (CWP w0 (.slice a8 (cs ++ [(c, d, RC.new L)]).length c8) (.slice a10 (cs ++ [(c, d, RC.new L)]).length c10) (cs ++ [(c, d, RC.new L)]) EmpH) w10 := (h10.right.right.ent (Ent.embL _)).ac (by rw [CWP, e3, e4, e5, e6']; simp only [pq]; ac_rfl)
        refine ⟨⟨i + 1, cs ++ [(c, d, RC.new L)], a8, c8, a10, c10, by omega, by omega, ⟨rfl, e3.symm, rfl⟩, ⟨rfl, e3.symm, rfl⟩, by omega, ?_, h11⟩, by omega⟩
        intro x hx
        rcases List.mem_append.1 hx with hx | hx
        · exact hok x hx
        · simp only [List.mem_singleton] at hx
          subst hx
          exact ⟨RC.ok_new hol, rfl⟩
    · simp -dsimp -implicitDefEqProofs (disch := omega) only [go_sem, reqD_of, dec_t, dec_f, wrap_i64, wrap_u32, wrap_u64, wrap_u8, hd, e0, e1, e6, e7, e8, hlt]
      refine cuts_18 (cs := cs) (va := .slice a cs.length ca) (vb := .slice b cs.length cb) hs (by omega) hsb hok (by omega) (by simp -dsimp -implicitDefEqProofs only [go_sem, hd]) (by simp -dsimp -implicitDefEqProofs only [go_sem, e1]) (by simp -dsimp -implicitDefEqProofs only [go_sem, e6]) (by simp -dsimp -implicitDefEqProofs only [go_sem, e7]) h3 fun w' hw => ?_
      exact ⟨hw, rfl⟩

end
end Go.Proofs.Ytfamclpajjnfbaa

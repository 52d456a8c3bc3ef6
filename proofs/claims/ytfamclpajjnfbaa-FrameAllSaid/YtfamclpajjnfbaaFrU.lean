/- The frame statements' book: what was held is marked, grown, and read again: a turn. -/
import Derived.Test.YtfamclpajjnfbaaFrT
import Derived.Test.YtfamclpajjnfbaaFrB
namespace Go.Proofs.Ytfamclpajjnfbaa
open Go
set_option linter.unusedSimpArgs false
set_option linter.unusedVariables false
set_option maxRecDepth 100000

theorem St.cell1 {w0 w : World} {v : Value} {n : Nat} {xs : List Value} (h : St w0 (Reads 1 v n xs) w) : n = xs.length ∧ ∃ a c, v = .slice a n c ∧ n ≤ c ∧ ∀ i (hi : i < xs.length), ∃ b o, a = some ⟨b, o, none⟩ ∧ w.cell? ⟨b, o + i, none⟩ = some xs[i] := by
  have hl := h.rd.length
  obtain ⟨a, c, hv, hnc, hr⟩ := h.rd.form
  refine ⟨by omega, a, c, hv, hnc, fun i hi => ?_⟩
  rcases hr with rfl | ⟨b, o, rfl, hr⟩
  · simp at hi
  · exact ⟨b, o, rfl, by rw [hr i hi]; simp [hi]⟩

theorem St.at1 {w0 w : World} {A : HP} {a : Option Addr} {n c : Nat} {xs : List Value} (h : St w0 A w) [i : Gives A (Reads 1 (.slice a n c) n xs)] {k : Nat} (hk : k < xs.length) : ∃ b o, a = some ⟨b, o, none⟩ ∧ w.cell? ⟨b, o + k, none⟩ = some xs[k] := by
  obtain ⟨_, a', c', hv, _, hr⟩ := (h.ent i.ent).cell1
  simp only [Value.slice.injEq, true_and] at hv
  obtain ⟨rfl, rfl⟩ := hv
  exact hr k hk

theorem starL_mid {α : Type} (A : α → HP) (x : α) : ∀ (l1 l2 : List α), starL A (l1 ++ x :: l2) = A x * starL A (l1 ++ l2)
  | [], l2 => rfl
  | y :: l1, l2 => by
    show A y * starL A (l1 ++ x :: l2) = A x * (A y * starL A (l1 ++ l2))
    rw [starL_mid A x l1 l2]
    ac_rfl

def GLe (Gs Gs' : GL) : Prop := ∀ y ∈ Gs, ∃ y' ∈ Gs', y'.1 = y.1 ∧ ∀ p ∈ y.2, p ∈ y'.2
theorem GLe.rfl' (Gs : GL) : GLe Gs Gs := fun y hy => ⟨y, hy, rfl, fun _ h => h⟩
theorem EOk.mono {E : EL} {Gs Gs' : GL} (ok : EOk E Gs) (l : GLe Gs Gs') : EOk E Gs' :=
  ⟨fun x hx => by
    obtain ⟨g, hg, h1, h2⟩ := ok.gr x hx
    obtain ⟨g', hg', h3, h4⟩ := l g hg
    exact ⟨g', hg', h3.trans h1, h4 _ h2⟩, ok.ce⟩
theorem EOk.snoc {E : EL} {Gs : GL} {v : Value} {n : Nat} {m : UInt8} (ok : EOk E Gs) (hg : ∃ y ∈ Gs, y.1 = m ∧ (v, n) ∈ y.2) (hc : isCell v = true) (hn : n ≤ 2147483648) : EOk (E ++ [(v, n, m)]) Gs :=
  ⟨fun x hx => by
    rcases List.mem_append.1 hx with hx | hx
    · exact ok.gr x hx
    · simp only [List.mem_singleton] at hx
      subst hx
      exact hg, fun x hx => by
    rcases List.mem_append.1 hx with hx | hx
    · exact ok.ce x hx
    · simp only [List.mem_singleton] at hx
      subst hx
      exact ⟨hc, hn⟩⟩

theorem grp_reads {w0 w : World} {A R : HP} {Gs : GL} {g : UInt8 × List (Value × Nat)} {v : Value} {n : Nat} (hg : g ∈ Gs) (hp : (v, n) ∈ g.2) (h : St w0 A w) [i : Pull A (grps Gs) R] : St w0 (Reads 1 v n (List.replicate n (bv g.1))) w := by
  have h1 : St w0 (grps Gs * R) w := h.ac i.eq
  exact h1.ent ((Ent.left _ _).trans ((starL_mem (A := fun g : UInt8 × List (Value × Nat) => GroupP 5 (bv g.1) g.2) hg).trans (GroupP.reads hp)))

theorem St.appMarkG {w0 w : World} {A R : HP} {Gs : GL} {g : UInt8 × List (Value × Nat)} {t tx ty e' bs : Nat} {zs : List Value} {v x : Value} {n : Nat} {K : Value → World → Prop} {θ : Tag K}
    (h : St w0 A w) [i : Pull A (grps Gs) R] (hg : g ∈ Gs) (hp : (v, n) ∈ g.2) (ht : rowTy Try.prog t = some (5, 1, bs, zs)) (hx : Ent A (Reads 1 x 1 [bv g.1])) (hu : Try.prog.underlying tx = some (.slice e')) (h63 : n + 1 ≤ maxLen) (hb : (n + 1) * bs ≤ 140737488355328)
    (hK : ∀ v' w' Gs', GLe Gs Gs' → (∃ y ∈ Gs', y.1 = g.1 ∧ (v', n + 1) ∈ y.2) → (∃ a c, v' = .slice a (n + 1) c) → St w0 (grps Gs' * R) w' → K v' w') : semD Try.prog (kAppend #[t, tx] ty #[v, x]) w K θ := by
  have hs : Src Try.prog 1 tx x 1 [bv g.1] w := ((h.ent hx).rd).src hu (by intro u hu; simp only [List.mem_singleton] at hu; subst hu; rfl) (fun h => by cases h)
  obtain ⟨G1, G2, rfl⟩ := List.append_of_mem hg
  have h1 : St w0 (GroupP 5 (bv g.1) g.2 * (grps (G1 ++ G2) * R)) w := h.ac (by rw [i.eq]; unfold grps; rw [starL_mid]; ac_rfl)
  refine h1.appMark hp ht hs h63 hb fun v' w' h2 => ?_
  have hin : (v', n + 1) ∈ (v', n + 1) :: g.2 := List.mem_cons_self
  refine hK v' w' (G1 ++ (g.1, (v', n + 1) :: g.2) :: G2) ?_ ⟨(g.1, (v', n + 1) :: g.2), by simp, rfl, hin⟩ ?_ ?_
  · intro y hy
    rcases List.mem_append.1 hy with hy | hy
    · exact ⟨y, by simp [hy], rfl, fun _ h => h⟩
    · rcases List.mem_cons.1 hy with rfl | hy
      · exact ⟨(y.1, (v', n + 1) :: y.2), by simp, rfl, fun p hp => List.mem_cons_of_mem _ hp⟩
      · exact ⟨y, by simp [hy], rfl, fun _ h => h⟩
  · obtain ⟨_, a, c, hv, _⟩ := (h2.ent ((Ent.left _ _).trans (GroupP.reads hin))).cell1
    exact ⟨a, c, hv⟩
  · exact h2.ac (by unfold grps; rw [starL_mid]; ac_rfl)

abbrev BB (B : Nat) (vl vm vh vt vf vw : Value) (E : EL) (hV tV fV wV : List Value) (R : HP) : HP :=
  Blk B (bkB vl vm vh vt vf vw) * (RowO 35 1 vl E.length (eV E) * (RowO 5 1 vm E.length (eM E) * (rowV' vh hV * (rowV' vt tV * (rowV' vf fV * (rowV' vw wV * R))))))

section
attribute [local go_sem] F15.t5_eq F15.t6_eq F15.t14_eq F15.t15_eq F15.t16_eq F15.t10_eq F15.t11_eq F15.t25_eq F15.t26_eq F15.t21_eq F15.t22_eq F15.t39_eq F15.t40_eq F15.t36_eq F15.t37_eq F15.t42_eq F15.t18_eq F15.t8_eq
theorem turn_30 {w0 w : World} {F : HP} {B : Nat} {vl vm vh vt vf vw : Value} {E : EL} {hV tV fV wV : List Value} {Gs : GL} {R : Ending → World → Prop} {e : FA} {θ : Tag (F15.t30, fnP Try.prog #[.tmp 2] R, e, w)}
    (ok : EOk E Gs) (hE : E.length ≤ 10000000000) (hd : e.ds = []) (e0 : e.ρ 0 = .pointer (some ⟨B, 0, none⟩)) (e3 : e.ρ 3 = .bool true)
    (h : St w0 (BB B vl vm vh vt vf vw E hV tV fV wV (grps Gs * F)) w)
    (hQ : ∀ w', St w0 (BB B vl vm vf vw (.slice none 0 0) (.slice none 0 0) E fV wV [] [] (grps Gs * F)) w' → R (.returned (.bool true)) w') :
    cwE Try.prog F15.t30 (fnP Try.prog #[.tmp 2] R) e w θ := by
  obtain ⟨af, cf, rfl, _⟩ := h.rowForm vf
  obtain ⟨aw, cw, rfl, _⟩ := h.rowForm vw
  obtain ⟨al, cl, rfl, _⟩ := h.rowForm vl
  obtain ⟨am, cm, rfl, _⟩ := h.rowForm vm
  have cB := h.cl B
  rw [F15.t30_eq]
  simp -dsimp -implicitDefEqProofs (disch := omega) only [go_sem, reqD_of, dec_t, dec_f, wrap_i64, wrap_u32, wrap_u64, wrap_u8, hd, e0, cB]
  refine h.sto (b := B) (off := 2) (by simp) rfl fun w1 h1 => ?_
  have cB := h1.cl B
  simp only [List.setIfInBounds_toArray, List.set_cons_succ, List.set_cons_zero] at cB
  simp -dsimp -implicitDefEqProofs (disch := omega) only [go_sem, reqD_of, dec_t, dec_f, wrap_i64, wrap_u32, wrap_u64, wrap_u8, hd, e0, cB]
  refine h1.sto (b := B) (off := 3) (by simp) rfl fun w2 h2 => ?_
  simp -dsimp -implicitDefEqProofs (disch := omega) only [go_sem, reqD_of, dec_t, dec_f, wrap_i64, wrap_u32, wrap_u64, wrap_u8, hd, e0]
  refine h2.sto (b := B) (off := 4) (by simp) rfl fun w3 h3 => ?_
  simp -dsimp -implicitDefEqProofs (disch := omega) only [go_sem, reqD_of, dec_t, dec_f, wrap_i64, wrap_u32, wrap_u64, wrap_u8, hd, e0]
  refine h3.sto (b := B) (off := 5) (by simp) rfl fun w4 h4 => ?_
  simp only [List.setIfInBounds_toArray, List.set_cons_succ, List.set_cons_zero] at h4
  simp -dsimp -implicitDefEqProofs (disch := omega) only [go_sem, reqD_of, dec_t, dec_f, wrap_i64, wrap_u32, wrap_u64, wrap_u8, hd, e0]
  have hlen : (eV E).length = E.length := by simp
  have hlenM : (eM E).length = E.length := by simp
  have h5 : St w0 (BB B (.slice al E.length cl) (.slice am E.length cm) (.slice af fV.length cf) (.slice aw wV.length cw) (.slice none 0 0) (.slice none 0 0) E fV wV [] [] (grps Gs * F)) w4 := ((h4.nilR 35 1).nilR 35 1).sub
  refine loop_intro (fun e w' => St w0 (BB B (.slice al E.length cl) (.slice am E.length cm) (.slice af fV.length cf) (.slice aw wV.length cw) (.slice none 0 0) (.slice none 0 0) E fV wV [] [] (grps Gs * F)) w' ∧ e.ds = [] ∧ e.ρ 0 = .pointer (some ⟨B, 0, none⟩) ∧ e.ρ 3 = .bool true ∧ ∃ i : Nat, i ≤ E.length ∧ e.ρ 14 = .int .i64 i)
    (fun e _ => match e.ρ 14 with | .int _ n => (E.length - n).toNat | _ => 0) ?_ ?_
  · exact ⟨h5, by simp -dsimp -implicitDefEqProofs only [go_sem, hd], by simp -dsimp -implicitDefEqProofs only [go_sem, e0], by simp -dsimp -implicitDefEqProofs only [go_sem, e3], 0, by omega, rfl⟩
  · clear h5
    rintro e1 w5 ⟨h5, hd, e0, e3, i, hi, e14⟩
    have cB := h5.cl B
    by_cases hlt : (i : Int) < E.length
    · have hiE : i < E.length := by omega
      obtain ⟨bl, ol, rfl, hl⟩ := h5.at1 (a := al) (n := E.length) (c := cl) (xs := eV E) (k := i) (by omega)
      obtain ⟨bm, om, rfl, hm⟩ := h5.at1 (a := am) (n := E.length) (c := cm) (xs := eM E) (k := i) (by omega)
      simp only [eV, eM, List.getElem_map] at hl hm
      obtain ⟨g, hg, hgm, hgx⟩ := ok.gr E[i] (List.getElem_mem hiE)
      obtain ⟨hxc, hxl⟩ := ok.ce E[i] (List.getElem_mem hiE)
      rcases hx : E[i] with ⟨xv, xn, xm⟩
      rw [hx] at hl hm hgm hgx hxc hxl
      simp only at hl hm hgm hgx hxc hxl
      subst hgm
      obtain ⟨_, ax, cx, rfl, _, _⟩ := (grp_reads (g := g) (v := xv) (n := xn) hg hgx h5).cell1
      simp -dsimp -implicitDefEqProofs (disch := omega) only [go_sem, reqD_of, dec_t, dec_f, wrap_i64, wrap_u32, wrap_u64, wrap_u8, hd, e0, e14, hlt, hlen, F15.t37_eq, cB]
      refine loop_intro (fun e w' => St w0 (BB B (.slice (some ⟨bl, ol, none⟩) E.length cl) (.slice (some ⟨bm, om, none⟩) E.length cm) (.slice af fV.length cf) (.slice aw wV.length cw) (.slice none 0 0) (.slice none 0 0) E fV wV [] [] (grps Gs * F)) w' ∧ e.ds = [] ∧ e.ρ 0 = .pointer (some ⟨B, 0, none⟩) ∧ e.ρ 3 = .bool true ∧ e.ρ 14 = .int .i64 i ∧ ∃ k : Nat, k ≤ xn ∧ e.ρ 15 = .int .i64 k)
        (fun e _ => match e.ρ 15 with | .int _ n => (xn - n).toNat | _ => 0) ?_ ?_
      · exact ⟨h5, by simp -dsimp -implicitDefEqProofs only [go_sem, hd], by simp -dsimp -implicitDefEqProofs only [go_sem, e0], by simp -dsimp -implicitDefEqProofs only [go_sem, e3], by simp -dsimp -implicitDefEqProofs only [go_sem, e14], 0, by omega, rfl⟩
      · clear cB hl hm
        rintro e2 w6 ⟨h6, hd2, e0', e3', e14', k, hk, e15⟩
        have cB := h6.cl B
        have h7 := h6.drew
        have cB7 : ∀ i, w6.drew.cell? ⟨B, i, none⟩ = _ := cB
        obtain ⟨_, _, hq, hl⟩ := h6.at1 (a := some ⟨bl, ol, none⟩) (n := E.length) (c := cl) (xs := eV E) (k := i) (by omega)
        simp only [Option.some.injEq, Addr.mk.injEq] at hq
        obtain ⟨rfl, rfl, _⟩ := hq
        obtain ⟨_, _, hq, hm⟩ := h6.at1 (a := some ⟨bm, om, none⟩) (n := E.length) (c := cm) (xs := eM E) (k := i) (by omega)
        simp only [Option.some.injEq, Addr.mk.injEq] at hq
        obtain ⟨rfl, rfl, _⟩ := hq
        simp only [eV, eM, List.getElem_map, hx] at hl hm
        by_cases hkl : (k : Int) < xn
        · obtain ⟨_, ax', cx', hv, _, hcA⟩ := (grp_reads (g := g) (v := .slice ax xn cx) (n := xn) hg hgx h6).cell1
          simp only [Value.slice.injEq, true_and] at hv
          obtain ⟨rfl, rfl⟩ := hv
          obtain ⟨bx, ox, rfl, hc⟩ := hcA k (by simp only [List.length_replicate]; omega)
          simp only [List.getElem_replicate] at hc
          have hl7 : w6.drew.cell? _ = _ := hl
          have hm7 : w6.drew.cell? _ = _ := hm
          have hc7 : w6.drew.cell? _ = _ := hc
          simp -dsimp -implicitDefEqProofs (disch := omega) only [go_sem, reqD_of, dec_t, dec_f, wrap_i64, wrap_u32, wrap_u64, wrap_u8, hd2, e0', e3', e14', e14, e15, hkl, hlt, cB, cB7, hl, hm, hc, hl7, hm7, hc7, F15.t40_eq, bv]
          exact ⟨⟨h7, k + 1, by omega, by omega⟩, by omega⟩
        · have : k = xn := by omega
          subst this
          simp -dsimp -implicitDefEqProofs (disch := omega) only [go_sem, reqD_of, dec_t, dec_f, wrap_i64, wrap_u32, wrap_u64, wrap_u8, hd2, e0', e3', e14', e14, e15, hkl, hlt, cB, hl, hm]
          exact ⟨⟨h6, i + 1, by omega, by omega⟩, by omega⟩
    · have : i = E.length := by omega
      subst this
      simp -dsimp -implicitDefEqProofs (disch := omega) only [go_sem, reqD_of, dec_t, dec_f, wrap_i64, wrap_u32, wrap_u64, wrap_u8, hd, e0, e14, hlt, cB, hlen, e3]
      exact hQ _ h5

theorem EL.rows (E M : EL) (x : Value) (n : Nat) (m : UInt8) (v : Value) (T : TypeId) : RowO T 1 v ((E ++ M).length + 1) (eV (E ++ M) ++ [x]) = RowO T 1 v (E ++ (M ++ [(x, n, m)])).length (eV (E ++ (M ++ [(x, n, m)]))) ∧ RowO T 1 v ((E ++ M).length + 1) (eM (E ++ M) ++ [bv m]) = RowO T 1 v (E ++ (M ++ [(x, n, m)])).length (eM (E ++ (M ++ [(x, n, m)]))) := by
  rw [← List.append_assoc]
  constructor <;> simp only [eV, eM, List.map_append, List.length_append, List.map_cons, List.map_nil, List.length_cons, List.length_nil, Nat.zero_add]

end
section
attribute [local go_sem] F15.t5_eq F15.t6_eq F15.t14_eq F15.t15_eq F15.t16_eq F15.t10_eq F15.t11_eq F15.t25_eq F15.t26_eq F15.t21_eq F15.t22_eq F15.t39_eq F15.t40_eq F15.t36_eq F15.t37_eq F15.t42_eq F15.t8_eq
theorem turn_18 {w0 w : World} {F : HP} {B f : Nat} {vl vm vh vt vf vw : Value} {E1 : EL} {hV tV fV wV : List Value} {Gs : GL} {R : Ending → World → Prop} {e : FA} {θ : Tag (F15.t18, fnP Try.prog #[.tmp 2] R, e, w)}
    (ok : EOk E1 Gs) (hf : f ≤ E1.length) (hE : E1.length + 70 * E1.length ≤ 10000000000 + 70 * f) (hN : ∀ j (hj : j < E1.length), f ≤ j → E1[j].2.1 ≤ 1073741824)
    (hd : e.ds = []) (e0 : e.ρ 0 = .pointer (some ⟨B, 0, none⟩)) (e3 : e.ρ 3 = .bool true) (e4 : e.ρ 4 = .int .i64 f)
    (h : St w0 (BB B vl vm vh vt vf vw E1 hV tV fV wV (grps Gs * F)) w)
    (hQ : ∀ w' vl vm E' Gs', EOk E' Gs' → E'.length + 70 * f ≤ E1.length + 70 * E1.length → St w0 (BB B vl vm vf vw (.slice none 0 0) (.slice none 0 0) E' fV wV [] [] (grps Gs' * F)) w' → R (.returned (.bool true)) w') :
    cwE Try.prog F15.t18 (fnP Try.prog #[.tmp 2] R) e w θ := by
  obtain ⟨al, cl, rfl, _⟩ := h.rowForm vl
  have cB := h.cl B
  rw [F15.t18_eq]
  simp -dsimp -implicitDefEqProofs (disch := omega) only [go_sem, reqD_of, dec_t, dec_f, wrap_i64, wrap_u32, wrap_u64, wrap_u8, hd, e0, e4, cB]
  refine loop_intro (fun e w' => e.ds = [] ∧ e.ρ 0 = .pointer (some ⟨B, 0, none⟩) ∧ e.ρ 3 = .bool true ∧ e.ρ 10 = .int .i64 E1.length ∧ ∃ (i : Nat) (vl vm : Value) (M : EL) (Gs' : GL), f ≤ i ∧ i ≤ E1.length ∧ e.ρ 11 = .int .i64 i ∧ EOk (E1 ++ M) Gs' ∧ M.length + 70 * f ≤ 70 * i ∧ St w0 (BB B vl vm vh vt vf vw (E1 ++ M) hV tV fV wV (grps Gs' * F)) w')
    (fun e _ => match e.ρ 11 with | .int _ n => (E1.length - n).toNat | _ => 0) ?_ ?_
  · exact ⟨by simp -dsimp -implicitDefEqProofs only [go_sem, hd], by simp -dsimp -implicitDefEqProofs only [go_sem, e0], by simp -dsimp -implicitDefEqProofs only [go_sem, e3], rfl, f, _, _, [], Gs, by omega, hf, rfl, by rw [List.append_nil]; exact ok, by simp, by rw [List.append_nil]; exact h⟩
  · clear cB h
    rintro e1 w1 ⟨hd, e0, e3, e10, i, vl, vm, M, Gs', hfi, hi, e11, okM, hM, h1⟩
    have hL : (E1 ++ M).length = E1.length + M.length := by simp
    by_cases hlt : (i : Int) < E1.length
    · have hiE : i < E1.length := by omega
      have hiL : (i : Int) < ((E1 ++ M).length : Nat) := by omega
      obtain ⟨al, cl, rfl, _⟩ := h1.rowForm vl
      obtain ⟨bl, ol, rfl, hl⟩ := h1.at1 (a := al) (n := (E1 ++ M).length) (c := cl) (xs := eV (E1 ++ M)) (k := i) (by simp; omega)
      have hxi : (E1 ++ M)[i]'(by omega) = E1[i] := List.getElem_append_left hiE
      simp only [eV, List.getElem_map, hxi] at hl
      obtain ⟨g, hg, hgm, hgx⟩ := okM.gr E1[i] (by rw [← hxi]; exact List.getElem_mem _)
      obtain ⟨hxc, _⟩ := okM.ce E1[i] (by rw [← hxi]; exact List.getElem_mem _)
      have hxl := hN i hiE hfi
      rcases hx : E1[i] with ⟨xv, xn, xm⟩
      rw [hx] at hl hgm hgx hxc hxl
      simp only at hl hgm hgx hxc hxl
      have cB := h1.cl B
      simp -dsimp -implicitDefEqProofs (disch := omega) only [go_sem, reqD_of, dec_t, dec_f, wrap_i64, wrap_u32, wrap_u64, wrap_u8, hd, e0, e10, e11, hlt, F15.t22_eq, cB, hiL, hl]
      refine loop_intro (fun e w' => e.ds = [] ∧ e.ρ 0 = .pointer (some ⟨B, 0, none⟩) ∧ e.ρ 3 = .bool true ∧ e.ρ 10 = .int .i64 E1.length ∧ e.ρ 11 = .int .i64 i ∧ ∃ (k : Nat) (vl vm gv : Value) (M : EL) (Gs' : GL) (g : UInt8 × List (Value × Nat)), k ≤ 70 ∧ e.ρ 13 = .int .i64 k ∧ e.ρ 12 = gv ∧ g ∈ Gs' ∧ g.1 = xm ∧ (gv, xn + k) ∈ g.2 ∧ EOk (E1 ++ M) Gs' ∧ M.length + 70 * f ≤ 70 * i + k ∧ St w0 (BB B vl vm vh vt vf vw (E1 ++ M) hV tV fV wV (grps Gs' * F)) w')
        (fun e _ => match e.ρ 13 with | .int _ n => (70 - n).toNat | _ => 0) ?_ ?_
      · exact ⟨by simp -dsimp -implicitDefEqProofs only [go_sem, hd], by simp -dsimp -implicitDefEqProofs only [go_sem, e0], by simp -dsimp -implicitDefEqProofs only [go_sem, e3], by simp -dsimp -implicitDefEqProofs only [go_sem, e10], by simp -dsimp -implicitDefEqProofs only [go_sem, e11], 0, _, _, _, M, Gs', g, by omega, rfl, rfl, hg, hgm, hgx, okM, by omega, h1⟩
      · clear cB hl hg hgm hgx h1 okM hM hxi hiL hL
        rintro e2 w2 ⟨hd2, e0', e3', e10', e11', k, vl, vm, gv, M, Gs', g, hk, e13, e12, hg, hgm, hgx, okM, hM, h2⟩
        have hL : (E1 ++ M).length = E1.length + M.length := by simp
        have hiL : (i : Int) < ((E1 ++ M).length : Nat) := by omega
        by_cases hk70 : (k : Int) < 70
        · obtain ⟨am, cm, rfl, _⟩ := h2.rowForm vm
          obtain ⟨bm, om, rfl, hm⟩ := h2.at1 (a := am) (n := (E1 ++ M).length) (c := cm) (xs := eM (E1 ++ M)) (k := i) (by simp; omega)
          have hxi : (E1 ++ M)[i]'(by omega) = E1[i] := List.getElem_append_left hiE
          simp only [eM, List.getElem_map, hxi, hx] at hm
          have cB := h2.cl B
          simp -dsimp -implicitDefEqProofs (disch := omega) only [go_sem, reqD_of, dec_t, dec_f, wrap_i64, wrap_u32, wrap_u64, wrap_u8, hd2, e0', e10', e11', e12, e13, hk70, F15.t26_eq, cB, hiL, hm]
          refine h2.lit (n := 1) (cells := [bv xm]) fact_rowTy_35 rfl (by decide) (by decide) fun v3 w3 h3 => ?_
          simp -dsimp -implicitDefEqProofs (disch := omega) only [go_sem, reqD_of, dec_t, dec_f, wrap_i64, wrap_u32, wrap_u64, wrap_u8, hd2, e0', e10', e11', e12, e13]
          subst hgm
          refine h3.appMarkG (g := g) (v := gv) (n := xn + k) hg hgx fact_rowTy_35 ((Ent.left _ _).trans (RowO.reads _ _ _ _ _)) Try.underlying35 (by simp only [maxLen]; omega) (by omega) fun v4 w4 Gs4 hG hg4 hc4 h4 => ?_
          obtain ⟨a4, c4, rfl⟩ := hc4
          have okM4 := okM.mono hG
          have h4' : St w0 (BB B vl (.slice (some ⟨bm, om, none⟩) (E1 ++ M).length cm) vh vt vf vw (E1 ++ M) hV tV fV wV (grps Gs4 * F)) w4 := h4.sub
          by_cases hkc : (k : Int) = 0 ∨ (k : Int) = 3 ∨ (k : Int) = 15 ∨ (k : Int) = 69
          · obtain ⟨g4, hg4, hgm4, hgx4⟩ := hg4
            have okX := okM4.snoc (m := g.1) ⟨g4, hg4, hgm4, hgx4⟩ rfl (by omega)
            obtain ⟨al, cl, rfl, _⟩ := h4'.rowForm vl
            have fin : ∀ w9 v6 v8, St w0 (BB B v6 v8 vh vt vf vw (E1 ++ (M ++ [((.slice a4 (xn + k + 1) c4 : Value), xn + k + 1, g.1)])) hV tV fV wV (grps Gs4 * F)) w9 → ∃ (k' : Nat) (vl vm gv : Value) (M' : EL) (Gs' : GL) (g_1 : UInt8 × List (Value × Nat)), k' ≤ 70 ∧ (k : Int) + 1 = k' ∧ (.slice a4 (xn + k + 1) c4 : Value) = gv ∧ g_1 ∈ Gs' ∧ g_1.1 = g.1 ∧ (gv, xn + k') ∈ g_1.2 ∧ EOk (E1 ++ M') Gs' ∧ M'.length + 70 * f ≤ 70 * i + k' ∧ St w0 (BB B vl vm vh vt vf vw (E1 ++ M') hV tV fV wV (grps Gs' * F)) w9 := fun w9 v6 v8 h9 =>
              ⟨k + 1, v6, v8, .slice a4 (xn + k + 1) c4, M ++ [((.slice a4 (xn + k + 1) c4 : Value), xn + k + 1, g.1)], Gs4, g4, by omega, by omega, rfl, hg4, hgm4, hgx4, by rw [← List.append_assoc]; exact okX, by simp only [List.length_append, List.length_cons, List.length_nil]; omega, h9⟩
            have cB4 := h4'.cl B
            rcases hkc with hkc | hkc | hkc | hkc
            all_goals
              simp -dsimp -implicitDefEqProofs (disch := omega) only [go_sem, reqD_of, dec_t, dec_f, wrap_i64, wrap_u32, wrap_u64, wrap_u8, hd2, e0', e10', e11', e12, e13, hkc, cB4]
              refine h4'.lit (n := 1) (cells := [.slice a4 (xn + k + 1) c4]) fact_rowTy_34 rfl (by decide) (by decide) fun v5 w5 h5 => ?_
              simp -dsimp -implicitDefEqProofs (disch := omega) only [go_sem, reqD_of, dec_t, dec_f, wrap_i64, wrap_u32, wrap_u64, wrap_u8, hd2, e0', e10', e11', e12, e13]
              refine h5.app (v := .slice al (E1 ++ M).length cl) fact_rowTy_34 ((Ent.left _ _).trans (RowO.reads _ _ _ _ _)) Try.underlying34 (by intro u hu; simp only [List.mem_singleton] at hu; subst hu; rfl) (fun h => by simp at h) (by simp only [maxLen]; omega) (by omega) fun v6 w6 h6 => ?_
              obtain ⟨a6, c6, rfl, _⟩ := h6.rowForm v6
              simp -dsimp -implicitDefEqProofs (disch := omega) only [go_sem, reqD_of, dec_t, dec_f, wrap_i64, wrap_u32, wrap_u64, wrap_u8, hd2, e0', e10', e11', e12, e13]
              refine h6.sto (b := B) (off := 0) (by simp) rfl fun w7 h7 => ?_
              simp only [List.setIfInBounds_toArray, List.set_cons_succ, List.set_cons_zero] at h7
              have cB7 := h7.cl B
              have h7' := h7.drew
              have cB7' : ∀ i, w7.drew.cell? ⟨B, i, none⟩ = _ := cB7
              obtain ⟨_, _, hq, hm7⟩ := h7.at1 (a := some ⟨bm, om, none⟩) (n := (E1 ++ M).length) (c := cm) (xs := eM (E1 ++ M)) (k := i) (by simp; omega)
              simp only [Option.some.injEq, Addr.mk.injEq] at hq
              obtain ⟨rfl, rfl, _⟩ := hq
              simp only [eM, List.getElem_map, hxi, hx] at hm7
              have hm7' : w7.drew.cell? _ = _ := hm7
              simp -dsimp -implicitDefEqProofs (disch := omega) only [go_sem, reqD_of, dec_t, dec_f, wrap_i64, wrap_u32, wrap_u64, wrap_u8, hd2, e0', e10', e11', e12, e13, cB7, cB7', hiL, hm7, hm7']
              refine h7'.lit (n := 1) (cells := [bv g.1]) fact_rowTy_35 rfl (by decide) (by decide) fun v8 w8 h8 => ?_
              have cB8 := h8.cl B
              obtain ⟨_, _, hq, hm8⟩ := h8.at1 (a := some ⟨bm, om, none⟩) (n := (E1 ++ M).length) (c := cm) (xs := eM (E1 ++ M)) (k := i) (by simp; omega)
              simp only [Option.some.injEq, Addr.mk.injEq] at hq
              obtain ⟨rfl, rfl, _⟩ := hq
              simp only [eM, List.getElem_map, hxi, hx] at hm8
              simp -dsimp -implicitDefEqProofs (disch := omega) only [go_sem, reqD_of, dec_t, dec_f, wrap_i64, wrap_u32, wrap_u64, wrap_u8, hd2, e0', e10', e11', e12, e13, cB8, hiL, hm8]
              refine h8.app (v := .slice (some ⟨bm, om, none⟩) (E1 ++ M).length cm) fact_rowTy_35 ((Ent.left _ _).trans (RowO.reads _ _ _ _ _)) Try.underlying35 (by intro u hu; simp only [List.mem_singleton] at hu; subst hu; rfl) (fun h => by simp at h) (by simp only [maxLen]; omega) (by omega) fun v9 w9 h9 => ?_
              obtain ⟨a9, c9, rfl, _⟩ := h9.rowForm v9
              have cB9 := h9.cl B
              simp -dsimp -implicitDefEqProofs (disch := omega) only [go_sem, reqD_of, dec_t, dec_f, wrap_i64, wrap_u32, wrap_u64, wrap_u8, hd2, e0', e10', e11', e12, e13, cB9]
              refine h9.sto (b := B) (off := 1) (by simp) rfl fun w10 h10 => ?_
              simp only [List.setIfInBounds_toArray, List.set_cons_succ, List.set_cons_zero] at h10
              simp -dsimp -implicitDefEqProofs (disch := omega) only [go_sem, reqD_of, dec_t, dec_f, wrap_i64, wrap_u32, wrap_u64, wrap_u8, hd2, e0', e3', e10', e11', e12, e13]
              rw [(EL.rows E1 M (.slice a4 (xn + k + 1) c4) (xn + k + 1) g.1 (.slice a6 ((E1 ++ M).length + 1) c6) _).1, (EL.rows E1 M (.slice a4 (xn + k + 1) c4) (xn + k + 1) g.1 (.slice a9 ((E1 ++ M).length + 1) c9) _).2] at h10
              exact ⟨fin w10 (.slice a6 ((E1 ++ M).length + 1) c6) (.slice a9 ((E1 ++ M).length + 1) c9) h10.sub, by omega⟩
          · simp only [not_or] at hkc
            obtain ⟨hk0, hk3, hk15, hk69⟩ := hkc
            obtain ⟨g4, hg4, hgm4, hgx4⟩ := hg4
            simp -dsimp -implicitDefEqProofs (disch := omega) only [go_sem, reqD_of, dec_t, dec_f, wrap_i64, wrap_u32, wrap_u64, wrap_u8, hd2, e0', e3', e10', e11', e12, e13, hk0, hk3, hk15, hk69]
            exact ⟨⟨k + 1, vl, _, .slice a4 (xn + k + 1) c4, M, Gs4, g4, by omega, by omega, rfl, hg4, hgm4, hgx4, okM4, by omega, h4'⟩, by omega⟩
        · have : k = 70 := by omega
          subst this
          simp -dsimp -implicitDefEqProofs (disch := omega) only [go_sem, reqD_of, dec_t, dec_f, wrap_i64, wrap_u32, wrap_u64, wrap_u8, hd2, e0', e10', e11', e11, e12, e13, e3']
          exact ⟨⟨i + 1, vl, vm, M, Gs', by omega, by omega, by omega, okM, by omega, h2⟩, by omega⟩
    · have : i = E1.length := by omega
      subst this
      simp -dsimp -implicitDefEqProofs (disch := omega) only [go_sem, reqD_of, dec_t, dec_f, wrap_i64, wrap_u32, wrap_u64, wrap_u8, hd, e0, e10, e11, hlt]
      refine turn_30 okM (by omega) (by simp -dsimp -implicitDefEqProofs only [go_sem, hd]) (by simp -dsimp -implicitDefEqProofs only [go_sem, e0]) (by simp -dsimp -implicitDefEqProofs only [go_sem, e3]) h1 fun w' hw => hQ _ _ _ _ _ okM (by omega) hw

end
end Go.Proofs.Ytfamclpajjnfbaa

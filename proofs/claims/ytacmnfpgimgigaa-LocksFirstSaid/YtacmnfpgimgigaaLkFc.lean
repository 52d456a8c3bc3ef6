/- LocksFirst: what is left of each queue. -/
import Derived.Test.YtacmnfpgimgigaaLkFb
namespace Go.Proofs.Ytacmnfpgimgigaa
open Go
set_option linter.unusedSimpArgs false
set_option linter.unusedVariables false
set_option maxRecDepth 100000

theorem filter_at {α : Type} {p : α → Bool} {l : List α} {j : Nat} {x : α} (h : l[j]? = some x) (hp : p x = true) : (l.filter p)[((l.take j).filter p).length]? = some x ∧ ((l.take (j + 1)).filter p).length = ((l.take j).filter p).length + 1 := by
  obtain ⟨hj, rfl⟩ := List.getElem?_eq_some_iff.1 h
  have e : l = l.take j ++ l[j] :: l.drop (j + 1) := by rw [← List.drop_eq_getElem_cons hj, List.take_append_drop]
  constructor
  · rw [show (l.filter p) = (l.take j).filter p ++ l[j] :: (l.drop (j + 1)).filter p by
      conv => lhs; rw [e]
      rw [List.filter_append, List.filter_cons, if_pos hp]]
    rw [List.getElem?_append_right (Nat.le_refl _), Nat.sub_self]; rfl
  · rw [List.take_succ_eq_append_getElem hj, List.filter_append, List.length_append]
    simp [hp]
theorem filter_not {α : Type} {p : α → Bool} {l : List α} {j : Nat} {x : α} (h : l[j]? = some x) (hp : p x = false) : ((l.take (j + 1)).filter p).length = ((l.take j).filter p).length := by
  obtain ⟨hj, rfl⟩ := List.getElem?_eq_some_iff.1 h
  rw [List.take_succ_eq_append_getElem hj, List.filter_append, List.length_append]
  simp [hp]

/-- The slots that count. -/
def S5 (e : FA) (v0 : Value) (B i : Nat) (vR : Value) (gone : Int) (vA : Value) : Prop :=
  e.ds = [] ∧ e.ρ 0 = v0 ∧ e.ρ 4 = .pointer (some ⟨B, 0, none⟩) ∧ e.ρ 5 = .int .i64 i ∧ e.ρ 6 = vR ∧ e.ρ 14 = .int .i64 gone ∧ e.ρ 15 = vA
def G5 (B : Nat) (ls : List (Nam × LkS)) (ws : List (Int × Nee)) (vR vA : Value) (rs : List (Value × List Int)) (ats : List Int) (F : HP) : HP :=
  RowO 3 1 vA 6 (intR ats) * (TabP B ls ws * (RowO 34 1 vR 6 (cellsV rs) * (rowsP rs * F)))
instance (B : Nat) (ls : List (Nam × LkS)) (ws : List (Int × Nee)) (vR vA : Value) (rs : List (Value × List Int)) (ats : List Int) (F : HP) : Face (.obj 0) (G5 B ls ws vR vA rs ats F) := ⟨⟩

theorem rows_at {rs : List (Value × List Int)} {k : Nat} {v : Value} {xs : List Int} (h : rs.reverse[k]? = some (v, xs)) : (v, xs) ∈ rs ∧ (cellsV rs)[k]? = some v := by
  refine ⟨by have := List.mem_of_getElem? h; simpa using this, ?_⟩
  unfold cellsV
  rw [List.getElem?_map, h]; rfl

section
attribute [local go_sem] F5.t14_eq F5.t15_eq F5.t18_eq F5.t19_eq F5.t41_eq F5.t37_eq F5.t34_eq F5.t30_eq F5.t27_eq F5.t28_eq F5.t55_eq F5.t53_eq F5.t51_eq F5.t52_eq F5.t56_eq F5.t44_eq F5.t45_eq F5.t42_eq F5.t23_eq F5.t21_eq F5.t16_eq F5.t9_eq F5.t10_eq F5.t58_eq F5.t7_eq F5.t3_eq
theorem first_53 {Q : Post} {e : FA} {w : World} {θ : Tag (F5.t53, Q, e, w)} {bq oq nq cq bl ol nl cl n j : Nat} {x : Int} (e25 : e.ρ 25 = .slice (some ⟨bq, oq, none⟩) nq cq) (e26 : e.ρ 26 = .slice (some ⟨bl, ol, none⟩) nl cl) (e27 : e.ρ 27 = .int .i64 n) (e28 : e.ρ 28 = .int .i64 j)
    (hn : n < nq) (hj : j < nl) (hq : w.drew.cell? ⟨bq, oq + n, none⟩ = some (.int .i64 x)) (hl : w.drew.cell? ⟨bl, ol + j, none⟩ = some (.int .i64 x)) (hn6 : n < 1099511627776)
    (hQ : ∀ e' : FA, e'.ds = e.ds → e'.ρ 0 = e.ρ 0 → e'.ρ 4 = e.ρ 4 → e'.ρ 5 = e.ρ 5 → e'.ρ 6 = e.ρ 6 → e'.ρ 14 = e.ρ 14 → e'.ρ 15 = e.ρ 15 → e'.ρ 23 = e.ρ 23 → e'.ρ 25 = e.ρ 25 → e'.ρ 26 = e.ρ 26 → e'.ρ 28 = e.ρ 28 → e'.ρ 27 = .int .i64 ((n : Int) + 1) → Q .normal e' w.drew) :
    cwE Try.prog F5.t53 Q e w θ := by
  rw [F5.t53_eq]
  have h1 : ¬ (nq : Int) ≤ n := by omega
  simp -dsimp -implicitDefEqProofs (disch := omega) only [go_sem, reqD_of, dec_t, dec_f, wrap_i64, wrap_u32, wrap_u64, wrap_u8, e25, e26, e27, e28, hq, hl, h1]
  exact hQ _ (by simp -dsimp -implicitDefEqProofs only [go_sem]) (by simp -dsimp -implicitDefEqProofs only [go_sem]) (by simp -dsimp -implicitDefEqProofs only [go_sem]) (by simp -dsimp -implicitDefEqProofs only [go_sem]) (by simp -dsimp -implicitDefEqProofs only [go_sem]) (by simp -dsimp -implicitDefEqProofs only [go_sem]) (by simp -dsimp -implicitDefEqProofs only [go_sem]) (by simp -dsimp -implicitDefEqProofs only [go_sem]) (by simp -dsimp -implicitDefEqProofs only [go_sem, e25]) (by simp -dsimp -implicitDefEqProofs only [go_sem, e26]) (by simp -dsimp -implicitDefEqProofs only [go_sem, e28]) (by simp -dsimp -implicitDefEqProofs only [go_sem])

end
section
attribute [local go_sem] F5.t14_eq F5.t15_eq F5.t18_eq F5.t19_eq F5.t41_eq F5.t37_eq F5.t34_eq F5.t30_eq F5.t27_eq F5.t28_eq F5.t55_eq F5.t51_eq F5.t52_eq F5.t56_eq F5.t44_eq F5.t45_eq F5.t42_eq F5.t23_eq F5.t21_eq F5.t16_eq F5.t9_eq F5.t10_eq F5.t58_eq F5.t7_eq F5.t3_eq
theorem first_45 {w0 w : World} {F : HP} {B i k : Nat} {ls : List (Nam × LkS)} {ws : List (Int × Nee)} {v0 vR vA : Value} {gone : Int} {rs : List (Value × List Int)} {ats : List Int} {ms : List Mv} {m : Mv} {v : Value} {row : List Int} {at' : Nat} {Q : Post} {e : FA} {θ : Tag (F5.t45, Q, e, w)}
    (hT : tot ls < 1073741824) (hr : Ent F (Reads 4 v0 ms.length (ms.flatMap mvC))) (hi : ms[i]? = some m) (hm : MvOk m) (hk : k < 6) (hrk : rs.reverse[k]? = some (v, row)) (hak : ats[k]? = some (at' : Int)) (hrl : row.length < 1073741824) (hmi : i < 1073741824)
    (hfin : FinRow gone (pickI m.1 4) row at' (queueS (kN k) ls)) (hs : S5 e v0 B i vR gone vA) (e23 : e.ρ 23 = .int .i64 k) (h : St w0 (G5 B ls ws vR vA rs ats F) w)
    (hQ : ∀ (e' : FA) (w' : World), S5 e' v0 B i vR gone vA → e'.ρ 23 = .int .i64 ((k : Int) + 1) → St w0 (G5 B ls ws vR vA rs ats F) w' → Q .normal e' w') :
    cwE Try.prog F5.t45 Q e w θ := by
  obtain ⟨hd, e0, e4, e5, e6, e14, e15⟩ := hs
  obtain ⟨hal, extra, hex, hex2⟩ := hfin
  obtain ⟨hmem, hcv⟩ := rows_at hrk
  have hG : ∀ {w : World}, St w0 (G5 B ls ws vR vA rs ats F) w → St w0 (RowO 3 1 vA 6 (intR ats) * (TabP B ls ws * (RowO 34 1 vR 6 (cellsV rs) * (rowsP rs * F)))) w := fun h => h
  have h0 := hG h
  obtain ⟨_, aR, cR, rfl, _, hRc⟩ := St.readAt (h0.gives (B := Reads 1 vR 6 (cellsV rs)))
  obtain ⟨bR, oR, rfl, hRk⟩ := hRc k v hcv
  rw [F5.t45_eq]
  simp -dsimp -implicitDefEqProofs (disch := omega) only [go_sem, reqD_of, dec_t, dec_f, wrap_i64, wrap_u32, wrap_u64, wrap_u8, hd, e0, e4, e5, e6, e14, e15, e23, hRk]
  refine (oneN_any h0 (by omega) (by omega)).mono ?_
  rintro e' w1 ⟨h1, rfl⟩
  simp -dsimp -implicitDefEqProofs (disch := omega) only [go_sem, reqD_of, dec_t, dec_f, wrap_i64, wrap_u32, wrap_u64, wrap_u8, hd, e0, e4, e5, e6, e14, e15, e23]
  refine (queueN_any (x := kN k) (h1.take (.obj B)) hT).mono ?_
  rintro e' w2 ⟨vq, h2, rfl⟩
  obtain ⟨_, aq, cq, rfl, hnq, _⟩ := intAt (h2.gives (B := Reads 1 vq (queueS (kN k) ls).length (intR (queueS (kN k) ls))))
  obtain ⟨_, aA, cA, rfl, _, hAc⟩ := St.readAt (h2.gives (B := Reads 1 vA 6 (intR ats)))
  obtain ⟨bA, oA, rfl, hAk⟩ := hAc k (.int .i64 at') (by simp [intR, hak])
  have hrd := (h2.gives (B := rowsP rs)).ent (rowsP_reads hmem)
  obtain ⟨_, ar, cr, rfl, hnr, _⟩ := intAt hrd
  simp -dsimp -implicitDefEqProofs (disch := omega) only [go_sem, reqD_of, dec_t, dec_f, wrap_i64, wrap_u32, wrap_u64, wrap_u8, hd, e0, e4, e5, e6, e14, e15, e23, hAk]
  have hsub : Ent (rowsP rs) (Reads 1 (.slice (if cr = at' then ar else Option.map (fun x => x.add at') ar) (row.length - at') (cr - at')) (row.drop at').length (intR (row.drop at'))) := by
    have h9 := (rowsP_reads hmem).trans (Reads.sub (lo := at') (k := row.length - at') (by omega))
    rw [Nat.mul_one, Nat.mul_one] at h9
    have e1 : ((intR row).drop at').take (row.length - at') = intR (row.drop at') := by
      unfold intR
      rw [← List.map_drop, List.take_of_length_le (by simp)]
    rw [e1] at h9
    rw [List.length_drop]
    exact h9
  have hll : (row.drop at').length = row.length - at' := List.length_drop
  rw [← hll] at hsub ⊢
  generalize (if cr = at' then ar else Option.map (fun x => x.add at') ar) = aL at hsub ⊢
  generalize cr - at' = cL at hsub ⊢
  have hlrow : (row.drop at').length ≤ row.length := by omega
  have hfl : ∀ j x, (row.drop at')[j]? = some x → sk gone (pickI m.1 4) x = true → (queueS (kN k) ls)[(((row.drop at').take j).filter (sk gone (pickI m.1 4))).length]? = some x := fun j x hj hp => by
    rw [← hex]
    have h1 := (filter_at hj hp).1
    rw [List.getElem?_append_left (List.getElem?_eq_some_iff.1 h1).1]
    exact h1
  generalize hlf : row.drop at' = left at hsub hlrow hfl hex hll ⊢
  have hqT := queueS_length (kN k) ls
  have hta := tot_agt (x := kN k) (ls := ls)
  refine loop_intro (fun e w' => S5 e v0 B i (.slice (some ⟨bR, oR, none⟩) 6 cR) gone (.slice (some ⟨bA, oA, none⟩) 6 cA) ∧ e.ρ 23 = .int .i64 k ∧ e.ρ 25 = .slice aq (queueS (kN k) ls).length cq ∧ e.ρ 26 = .slice aL left.length cL ∧ ∃ j : Nat, j ≤ left.length ∧ e.ρ 28 = .int .i64 j ∧ e.ρ 27 = .int .i64 ((left.take j).filter (sk gone (pickI m.1 4))).length ∧
      St w0 (RowO 3 1 (.slice aq (queueS (kN k) ls).length cq) (queueS (kN k) ls).length (intR (queueS (kN k) ls)) * (RowO 3 1 (.slice (some ⟨bA, oA, none⟩) 6 cA) 6 (intR ats) * (TabP B ls ws * (RowO 34 1 (.slice (some ⟨bR, oR, none⟩) 6 cR) 6 (cellsV rs) * (rowsP rs * F))))) w')
    (fun e _ => match e.ρ 28 with | .int _ n => (left.length - n).toNat | _ => 0) ?_ ?_
  · exact ⟨⟨by simp -dsimp -implicitDefEqProofs only [go_sem, hd], by simp -dsimp -implicitDefEqProofs only [go_sem, e0], by simp -dsimp -implicitDefEqProofs only [go_sem, e4], by simp -dsimp -implicitDefEqProofs only [go_sem, e5], by simp -dsimp -implicitDefEqProofs only [go_sem, e6], by simp -dsimp -implicitDefEqProofs only [go_sem, e14], by simp -dsimp -implicitDefEqProofs only [go_sem, e15]⟩, by simp -dsimp -implicitDefEqProofs only [go_sem, e23], by simp -dsimp -implicitDefEqProofs only [go_sem], by simp -dsimp -implicitDefEqProofs only [go_sem], 0, by omega, by simp -dsimp -implicitDefEqProofs only [go_sem], by simp -dsimp -implicitDefEqProofs only [go_sem]; simp, h2.sub⟩
  rintro e w3 ⟨⟨hd, e0, e4, e5, e6, e14, e15⟩, e23, e25, e26, j, hj, e28, e27, h3⟩
  have hfj : ((left.take j).filter (sk gone (pickI m.1 4))).length ≤ j := Nat.le_trans (List.length_filter_le _ _) (by rw [List.length_take]; exact Nat.min_le_left _ _)
  obtain ⟨_, am, cm, rfl, _, hcm⟩ := St.rowsAt (k := 4) mvC_length (by decide) ((h3.gives (B := F)).ent hr)
  obtain ⟨him, hmi2⟩ := List.getElem?_eq_some_iff.1 hi
  obtain ⟨bm, om, rfl, _, hcell⟩ := hcm i him
  have c0 := hcell 0 (by decide)
  rw [hmi2] at c0
  simp only [mvC, Nat.add_zero, List.getElem?_cons_zero] at c0
  have hp4 := pickI_range (c := m.1) (n := 4) (by decide)
  by_cases hlt : (j : Int) < left.length
  case neg =>
    have : j = left.length := by omega
    subst this
    rw [List.take_length] at e27
    simp -dsimp -implicitDefEqProofs (disch := omega) only [go_sem, reqD_of, dec_t, dec_f, wrap_i64, wrap_u32, wrap_u64, wrap_u8, hd, e0, e4, e5, e6, e14, e15, e23, e25, e26, e27, e28, hlt, c0]
    refine (pick_any (c := m.1) (n := 4) h3 hm.1 (by decide)).mono ?_
    rintro e' w4 ⟨h4, rfl⟩
    have hG4 : St w0 (G5 B ls ws (.slice (some ⟨bR, oR, none⟩) 6 cR) (.slice (some ⟨bA, oA, none⟩) 6 cA) rs ats F) w4 := h4.right
    by_cases hw : (1 : Int) < pickI m.1 4
    · have he := hex2 (by omega)
      subst he
      rw [List.append_nil] at hex
      have hqn : ((left.filter (sk gone (pickI m.1 4))).length : Int) = (queueS (kN k) ls).length := by rw [hex]
      simp -dsimp -implicitDefEqProofs (disch := omega) only [go_sem, reqD_of, dec_t, dec_f, wrap_i64, wrap_u32, wrap_u64, wrap_u8, hd, e0, e4, e5, e6, e14, e15, e23, e25, e26, e27, e28, hw, hqn]
      exact hQ _ _ ⟨by simp -dsimp -implicitDefEqProofs only [go_sem, hd], by simp -dsimp -implicitDefEqProofs only [go_sem, e0], by simp -dsimp -implicitDefEqProofs only [go_sem, e4], by simp -dsimp -implicitDefEqProofs only [go_sem, e5], by simp -dsimp -implicitDefEqProofs only [go_sem, e6], by simp -dsimp -implicitDefEqProofs only [go_sem, e14], by simp -dsimp -implicitDefEqProofs only [go_sem, e15]⟩ (by simp -dsimp -implicitDefEqProofs only [go_sem]) hG4
    · simp -dsimp -implicitDefEqProofs (disch := omega) only [go_sem, reqD_of, dec_t, dec_f, wrap_i64, wrap_u32, wrap_u64, wrap_u8, hd, e0, e4, e5, e6, e14, e15, e23, e25, e26, e27, e28, hw]
      exact hQ _ _ ⟨by simp -dsimp -implicitDefEqProofs only [go_sem, hd], by simp -dsimp -implicitDefEqProofs only [go_sem, e0], by simp -dsimp -implicitDefEqProofs only [go_sem, e4], by simp -dsimp -implicitDefEqProofs only [go_sem, e5], by simp -dsimp -implicitDefEqProofs only [go_sem, e6], by simp -dsimp -implicitDefEqProofs only [go_sem, e14], by simp -dsimp -implicitDefEqProofs only [go_sem, e15]⟩ (by simp -dsimp -implicitDefEqProofs only [go_sem]) hG4
  have hjl : j < left.length := by omega
  have hlR := fun {w : World} (h : St w0 (RowO 3 1 (.slice aq (queueS (kN k) ls).length cq) (queueS (kN k) ls).length (intR (queueS (kN k) ls)) * (RowO 3 1 (.slice (some ⟨bA, oA, none⟩) 6 cA) 6 (intR ats) * (TabP B ls ws * (RowO 34 1 (.slice (some ⟨bR, oR, none⟩) 6 cR) 6 (cellsV rs) * (rowsP rs * F))))) w) => intAt ((h.gives (B := rowsP rs)).ent hsub)
  obtain ⟨_, _, _, hv, _, hLc⟩ := hlR h3
  simp only [Value.slice.injEq, true_and] at hv
  obtain ⟨rfl, rfl⟩ := hv
  obtain ⟨bl, ol, rfl, hlx⟩ := hLc j hjl
  have hxj : left[j]? = some left[j] := List.getElem?_eq_getElem hjl
  generalize left[j] = x at hlx hxj
  by_cases hskip : sk gone (pickI m.1 4) x = true
  · have hqn := hfl j x hxj hskip
    have hnq' := (List.getElem?_eq_some_iff.1 hqn).1
    have hnx := (filter_at hxj hskip).2
    have go : ∀ {Q : Post} {e' : FA} {w : World} {θ : Tag (F5.t53, Q, e', w)}, e'.ρ 25 = e.ρ 25 → e'.ρ 26 = e.ρ 26 → e'.ρ 27 = e.ρ 27 → e'.ρ 28 = e.ρ 28 →
        St w0 (RowO 3 1 (.slice aq (queueS (kN k) ls).length cq) (queueS (kN k) ls).length (intR (queueS (kN k) ls)) * (RowO 3 1 (.slice (some ⟨bA, oA, none⟩) 6 cA) 6 (intR ats) * (TabP B ls ws * (RowO 34 1 (.slice (some ⟨bR, oR, none⟩) 6 cR) 6 (cellsV rs) * (rowsP rs * F))))) w →
        (∀ e'' : FA, e''.ds = e'.ds → e''.ρ 0 = e'.ρ 0 → e''.ρ 4 = e'.ρ 4 → e''.ρ 5 = e'.ρ 5 → e''.ρ 6 = e'.ρ 6 → e''.ρ 14 = e'.ρ 14 → e''.ρ 15 = e'.ρ 15 → e''.ρ 23 = e'.ρ 23 → e''.ρ 25 = e'.ρ 25 → e''.ρ 26 = e'.ρ 26 → e''.ρ 28 = e'.ρ 28 → e''.ρ 27 = .int .i64 (((((left.take j).filter (sk gone (pickI m.1 4))).length : Nat) : Int) + 1) → Q .normal e'' w.drew) →
        cwE Try.prog F5.t53 Q e' w θ := by
      intro Q e' w θ f25 f26 f27 f28 h5 hQ5
      obtain ⟨_, _, _, hv5, _, hL5⟩ := hlR h5.drew
      simp only [Value.slice.injEq, true_and] at hv5
      obtain ⟨rfl, rfl⟩ := hv5
      obtain ⟨bl', ol', hbl, hl5⟩ := hL5 j hjl
      simp only [Option.some.injEq, Addr.mk.injEq, and_true] at hbl
      obtain ⟨rfl, rfl⟩ := hbl
      obtain ⟨_, _, _, hv6, _, hq5⟩ := intAt (h5.drew.gives (B := Reads 1 (.slice aq (queueS (kN k) ls).length cq) (queueS (kN k) ls).length (intR (queueS (kN k) ls))))
      simp only [Value.slice.injEq, true_and] at hv6
      obtain ⟨rfl, rfl⟩ := hv6
      obtain ⟨bq, oq, rfl, hqx⟩ := hq5 _ hnq'
      rw [(List.getElem?_eq_some_iff.1 hqn).2] at hqx
      have hlj : left[j] = x := (List.getElem?_eq_some_iff.1 hxj).2
      rw [hlj] at hl5
      exact first_53 (by rw [f25, e25]) (by rw [f26, e26]) (by rw [f27, e27]) (by rw [f28, e28]) hnq' hjl hqx hl5 (by omega) hQ5
    by_cases hg : x = gone
    · simp -dsimp -implicitDefEqProofs (disch := omega) only [go_sem, reqD_of, dec_t, dec_f, wrap_i64, wrap_u32, wrap_u64, wrap_u8, hd, e0, e4, e5, e6, e14, e15, e23, e25, e26, e27, e28, hlt, hlx, hg, c0]
      refine (pick_any (c := m.1) (n := 4) h3 hm.1 (by decide)).mono ?_
      rintro e' w4 ⟨h4, rfl⟩
      have h33 : ¬ pickI m.1 4 = 3 := fun h => by simp [sk, hg, h] at hskip
      simp -dsimp -implicitDefEqProofs (disch := omega) only [go_sem, reqD_of, dec_t, dec_f, wrap_i64, wrap_u32, wrap_u64, wrap_u8, hd, e0, e4, e5, e6, e14, e15, e23, e25, e26, e27, e28, h33]
      refine go (by simp -dsimp -implicitDefEqProofs only [go_sem]) (by simp -dsimp -implicitDefEqProofs only [go_sem]) (by simp -dsimp -implicitDefEqProofs only [go_sem]) (by simp -dsimp -implicitDefEqProofs only [go_sem]) h4 ?_
      intro e'' g0 g1 g2 g3 g4 g5 g6 g7 g8 g9 g10 g11
      have k0 := g0.trans (show _ = ([] : List Deferred) by simp -dsimp -implicitDefEqProofs only [go_sem, hd])
      have k1 := g1.trans (show _ = Value.slice (some ⟨bm, om, none⟩) ms.length cm by simp -dsimp -implicitDefEqProofs only [go_sem, e0])
      have k2 := g2.trans (show _ = Value.pointer (some ⟨B, 0, none⟩) by simp -dsimp -implicitDefEqProofs only [go_sem, e4])
      have k3 := g3.trans (show _ = Value.int .i64 i by simp -dsimp -implicitDefEqProofs only [go_sem, e5])
      have k4 := g4.trans (show _ = Value.slice (some ⟨bR, oR, none⟩) 6 cR by simp -dsimp -implicitDefEqProofs only [go_sem, e6])
      have k5 := g5.trans (show _ = Value.int .i64 gone by simp -dsimp -implicitDefEqProofs only [go_sem, e14])
      have k6 := g6.trans (show _ = Value.slice (some ⟨bA, oA, none⟩) 6 cA by simp -dsimp -implicitDefEqProofs only [go_sem, e15])
      have k7 := g7.trans (show _ = Value.int .i64 k by simp -dsimp -implicitDefEqProofs only [go_sem, e23])
      have k8 := g8.trans (show _ = Value.slice aq (queueS (kN k) ls).length cq by simp -dsimp -implicitDefEqProofs only [go_sem, e25])
      have k9 := g9.trans (show _ = Value.slice (some ⟨bl, ol, none⟩) left.length cL by simp -dsimp -implicitDefEqProofs only [go_sem, e26])
      have k10 := g10.trans (show _ = Value.int .i64 j by simp -dsimp -implicitDefEqProofs only [go_sem, e28])
      simp -dsimp -implicitDefEqProofs (disch := omega) only [go_sem, reqD_of, dec_t, dec_f, wrap_i64, wrap_u32, wrap_u64, wrap_u8, k0, k1, k2, k3, k4, k5, k6, k7, k8, k9, k10, g11, e28]
      refine ⟨⟨⟨k0, k1, k2, k3, k4, k5, k6⟩, j + 1, by omega, by omega, by rw [hnx]; omega, h4.drew⟩, by omega⟩
    · simp -dsimp -implicitDefEqProofs (disch := omega) only [go_sem, reqD_of, dec_t, dec_f, wrap_i64, wrap_u32, wrap_u64, wrap_u8, hd, e0, e4, e5, e6, e14, e15, e23, e25, e26, e27, e28, hlt, hlx, hg, c0]
      refine go (by simp -dsimp -implicitDefEqProofs only [go_sem]) (by simp -dsimp -implicitDefEqProofs only [go_sem]) (by simp -dsimp -implicitDefEqProofs only [go_sem]) (by simp -dsimp -implicitDefEqProofs only [go_sem]) h3 ?_
      intro e'' g0 g1 g2 g3 g4 g5 g6 g7 g8 g9 g10 g11
      have k0 := g0.trans (show _ = ([] : List Deferred) by simp -dsimp -implicitDefEqProofs only [go_sem, hd])
      have k1 := g1.trans (show _ = Value.slice (some ⟨bm, om, none⟩) ms.length cm by simp -dsimp -implicitDefEqProofs only [go_sem, e0])
      have k2 := g2.trans (show _ = Value.pointer (some ⟨B, 0, none⟩) by simp -dsimp -implicitDefEqProofs only [go_sem, e4])
      have k3 := g3.trans (show _ = Value.int .i64 i by simp -dsimp -implicitDefEqProofs only [go_sem, e5])
      have k4 := g4.trans (show _ = Value.slice (some ⟨bR, oR, none⟩) 6 cR by simp -dsimp -implicitDefEqProofs only [go_sem, e6])
      have k5 := g5.trans (show _ = Value.int .i64 gone by simp -dsimp -implicitDefEqProofs only [go_sem, e14])
      have k6 := g6.trans (show _ = Value.slice (some ⟨bA, oA, none⟩) 6 cA by simp -dsimp -implicitDefEqProofs only [go_sem, e15])
      have k7 := g7.trans (show _ = Value.int .i64 k by simp -dsimp -implicitDefEqProofs only [go_sem, e23])
      have k8 := g8.trans (show _ = Value.slice aq (queueS (kN k) ls).length cq by simp -dsimp -implicitDefEqProofs only [go_sem, e25])
      have k9 := g9.trans (show _ = Value.slice (some ⟨bl, ol, none⟩) left.length cL by simp -dsimp -implicitDefEqProofs only [go_sem, e26])
      have k10 := g10.trans (show _ = Value.int .i64 j by simp -dsimp -implicitDefEqProofs only [go_sem, e28])
      simp -dsimp -implicitDefEqProofs (disch := omega) only [go_sem, reqD_of, dec_t, dec_f, wrap_i64, wrap_u32, wrap_u64, wrap_u8, k0, k1, k2, k3, k4, k5, k6, k7, k8, k9, k10, g11, e28]
      refine ⟨⟨⟨k0, k1, k2, k3, k4, k5, k6⟩, j + 1, by omega, by omega, by rw [hnx]; omega, h3.drew⟩, by omega⟩
  · have hx2 : x = gone ∧ pickI m.1 4 = 3 := by simpa [sk] using hskip
    obtain ⟨hg, h33⟩ := hx2
    have hnx := filter_not hxj (by simpa using hskip)
    simp -dsimp -implicitDefEqProofs (disch := omega) only [go_sem, reqD_of, dec_t, dec_f, wrap_i64, wrap_u32, wrap_u64, wrap_u8, hd, e0, e4, e5, e6, e14, e15, e23, e25, e26, e27, e28, hlt, hlx, hg, c0]
    refine (pick_any (c := m.1) (n := 4) h3 hm.1 (by decide)).mono ?_
    rintro e' w4 ⟨h4, rfl⟩
    simp -dsimp -implicitDefEqProofs (disch := omega) only [go_sem, reqD_of, dec_t, dec_f, wrap_i64, wrap_u32, wrap_u64, wrap_u8, hd, e0, e4, e5, e6, e14, e15, e23, e25, e26, e27, e28, h33]
    refine ⟨⟨⟨by simp -dsimp -implicitDefEqProofs only [go_sem, hd], by simp -dsimp -implicitDefEqProofs only [go_sem, e0], by simp -dsimp -implicitDefEqProofs only [go_sem, e4], by simp -dsimp -implicitDefEqProofs only [go_sem, e5], by simp -dsimp -implicitDefEqProofs only [go_sem, e6], by simp -dsimp -implicitDefEqProofs only [go_sem, e14], by simp -dsimp -implicitDefEqProofs only [go_sem, e15]⟩, j + 1, by omega, by omega, by rw [h33] at hnx; rw [hnx], h4⟩, by omega⟩

end
end Go.Proofs.Ytacmnfpgimgigaa

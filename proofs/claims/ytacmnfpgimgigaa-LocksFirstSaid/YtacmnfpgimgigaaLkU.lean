/- The laws' 'told'. -/
import Derived.Test.YtacmnfpgimgigaaLkT
namespace Go.Proofs.Ytacmnfpgimgigaa
open Go
set_option linter.unusedSimpArgs false
set_option linter.unusedVariables false
set_option maxRecDepth 100000

def kN (k : Nat) : Nam := (3, 0, k)
def queueS (x : Nam) (ls : List (Nam × LkS)) : List Int := ((agt x ls).getD ([], [])).2.map (·.1)
def toldK (ls : List (Nam × LkS)) (k : Nat) : List Int := -1 :: (holdersS (kN k) ls ++ -2 :: queueS (kN k) ls)
def toldN (n : Nee) : List Int := IntKind.i64.wrap n.1.2.2 :: (if n.2 = true then [-3] else [])
def toldW (ls : List (Nam × LkS)) (i : Nat) : List Int := (heldS (1 + i) ls).flatMap toldN ++ [-4]
def toldA (ls : List (Nam × LkS)) (k : Nat) : List Int := (List.range k).flatMap (toldK ls)
def toldB (ls : List (Nam × LkS)) (k : Nat) : List Int := (List.range k).flatMap (toldW ls)
def toldS (ls : List (Nam × LkS)) : List Int := toldA ls 6 ++ toldB ls 8
theorem toldA_succ (ls : List (Nam × LkS)) (k : Nat) : toldA ls (k + 1) = toldA ls k ++ toldK ls k := by unfold toldA; rw [List.range_succ, List.flatMap_append]; simp
theorem toldB_succ (ls : List (Nam × LkS)) (k : Nat) : toldB ls (k + 1) = toldB ls k ++ toldW ls k := by unfold toldB; rw [List.range_succ, List.flatMap_append]; simp

theorem intR_app (a b : List Int) : intR (a ++ b) = intR a ++ intR b := by simp [intR]
theorem intR_nil0 {l : List Int} (h : intR l = []) : l.length = 0 := by simpa [intR] using h
theorem range_flat {α : Type} (f : Nat → List α) (k : Nat) : (List.range (k + 1)).flatMap f = (List.range k).flatMap f ++ f k := by rw [List.range_succ, List.flatMap_append]; simp
theorem flat_bound {α : Type} (f : Nat → List α) {N : Nat} (h : ∀ k, (f k).length ≤ N) : ∀ k, ((List.range k).flatMap f).length ≤ k * N
  | 0 => by simp
  | k + 1 => by rw [range_flat, List.length_append, Nat.add_mul]; have := flat_bound f h k; have := h k; omega

theorem holdersS_length (x : Nam) (ls : List (Nam × LkS)) : (holdersS x ls).length = ((agt x ls).getD ([], [])).1.length := by unfold holdersS; rw [List.length_mergeSort, List.length_map]
theorem queueS_length (x : Nam) (ls : List (Nam × LkS)) : (queueS x ls).length = ((agt x ls).getD ([], [])).2.length := by unfold queueS; rw [List.length_map]
theorem heldS_length (who : Int) (ls : List (Nam × LkS)) : (heldS who ls).length ≤ ls.length := by unfold heldS heldL; rw [List.length_mergeSort]; exact List.length_filterMap_le _ _
theorem toldK_length (ls : List (Nam × LkS)) (k : Nat) : (toldK ls k).length ≤ tot ls + 2 := by
  have := tot_agt (x := kN k) (ls := ls)
  have h1 := holdersS_length (kN k) ls
  have h2 := queueS_length (kN k) ls
  simp only [toldK, List.length_cons, List.length_append]
  omega
theorem toldN_length : ∀ l : List Nee, (l.flatMap toldN).length ≤ 2 * l.length
  | [] => by simp
  | n :: l => by
    have := toldN_length l
    rw [List.flatMap_cons, List.length_append, List.length_cons]
    have : (toldN n).length ≤ 2 := by unfold toldN; split <;> simp
    omega

/-- A queue, told with its numbers. -/
theorem queueN_any {w0 w : World} {F : HP} {B : Nat} {ls : List (Nam × LkS)} {ws : List (Int × Nee)} {x : Nam} (h : St w0 (TabP B ls ws * F) w) (hT : tot ls < 1073741824) :
    Calls Try.prog 13 #[.pointer (some ⟨B, 0, none⟩), namV x] w fun e w' => ∃ v, St w0 (RowO 3 1 v (queueS x ls).length (intR (queueS x ls)) * (TabP B ls ws * F)) w' ∧ e = .returned v := by
  have := tot_agt (x := x) (ls := ls)
  refine (queue_any h rfl (by omega)).mono ?_
  rintro e w' ⟨v, h1, rfl⟩
  refine ⟨v, ?_, rfl⟩
  rw [queueS_length]
  exact h1

section
attribute [local go_sem] F19.t4_eq F19.t5_eq F19.t15_eq F19.t16_eq F19.t19_eq F19.t11_eq F19.t12_eq F19.t20_eq
theorem told_tail {w0 w : World} {F : HP} {B : Nat} {ls : List (Nam × LkS)} {ws : List (Int × Nee)} {v0 : Value} {e : FA} (hT : tot ls < 1073741824) (hL : ls.length < 1073741824)
    (h : St w0 (RowO 3 1 v0 (toldA ls 6).length (intR (toldA ls 6)) * (TabP B ls ws * F)) w) (hd : e.ds = []) (e0 : e.ρ 0 = .pointer (some ⟨B, 0, none⟩)) (e3 : e.ρ 3 = v0) :
    cwE Try.prog F19.t9 (fnP Try.prog #[.tmp 2] fun e w' => ∃ v, St w0 (RowO 3 1 v (toldS ls).length (intR (toldS ls)) * (TabP B ls ws * F)) w' ∧ e = .returned v) e w := by
  have hb1 : (toldA ls 6).length ≤ 6 * (tot ls + 2) := flat_bound (toldK ls) (toldK_length ls) 6
  have hbW : ∀ i, (toldW ls i).length ≤ 2 * ls.length + 1 := fun i => by
    have := toldN_length (heldS (1 + i) ls)
    have := heldS_length (1 + i) ls
    simp only [toldW, List.length_append, List.length_cons, List.length_nil]
    omega
  have hb2 : ∀ k, (toldB ls k).length ≤ k * (2 * ls.length + 1) := flat_bound (toldW ls) hbW
  rw [F19.t9_eq]
  simp -dsimp -implicitDefEqProofs (disch := omega) only [go_sem, reqD_of, dec_t, dec_f, wrap_i64, wrap_u32, wrap_u64, wrap_u8, hd, e0, e3]
  refine loop_intro (fun e w' => e.ds = [] ∧ e.ρ 0 = .pointer (some ⟨B, 0, none⟩) ∧ ∃ (k : Nat) (v : Value), k ≤ 8 ∧ e.ρ 5 = .int .i64 (1 + k) ∧ e.ρ 3 = v ∧
      St w0 (RowO 3 1 v (toldA ls 6 ++ toldB ls k).length (intR (toldA ls 6 ++ toldB ls k)) * (TabP B ls ws * F)) w')
    (fun e _ => match e.ρ 5 with | .int _ n => (9 - n).toNat | _ => 0) ?_ ?_
  · refine ⟨by simp -dsimp -implicitDefEqProofs only [go_sem, hd], by simp -dsimp -implicitDefEqProofs only [go_sem, e0], 0, v0, by omega, by simp -dsimp -implicitDefEqProofs only [go_sem], by simp -dsimp -implicitDefEqProofs only [go_sem, e3], ?_⟩
    simpa [toldB] using h
  rintro eo w1 ⟨hdo, e0o, k, v, hk, e5o, e3o, h1⟩
  by_cases hlt : 1 + (k : Int) ≤ 8
  case neg =>
    have : k = 8 := by omega
    subst this
    simp -dsimp -implicitDefEqProofs (disch := omega) only [go_sem, reqD_of, dec_t, dec_f, wrap_i64, wrap_u32, wrap_u64, wrap_u8, hdo, e0o, e3o, e5o, hlt]
    exact ⟨v, h1, rfl⟩
  have hbk := hb2 k
  have hkN : k * (2 * ls.length + 1) ≤ 8 * (2 * ls.length + 1) := Nat.mul_le_mul_right _ hk
  simp -dsimp -implicitDefEqProofs (disch := omega) only [go_sem, reqD_of, dec_t, dec_f, wrap_i64, wrap_u32, wrap_u64, wrap_u8, hdo, e0o, e3o, e5o, hlt]
  refine (held_any h1.sw2 (fun p hp => by have := tot_mem hp; omega) (by omega)).mono ?_
  rintro e' w2 ⟨vL, h2, rfl⟩
  obtain ⟨_, aL, cL, hv, _, _⟩ := St.rowsAt (k := 4) needC_length (by decide) (h2.gives (B := Reads 4 vL (heldS (1 + (k : Int)) ls).length ((heldS (1 + (k : Int)) ls).flatMap needC)))
  subst hv
  have hHl := heldS_length (1 + (k : Int)) ls
  generalize hH : heldS (1 + (k : Int)) ls = H at h2 hHl
  generalize hout : toldA ls 6 ++ toldB ls k = out at h1 h2
  have houtl : out.length ≤ 6 * (tot ls + 2) + 8 * (2 * ls.length + 1) := by rw [← hout, List.length_append]; omega
  simp -dsimp -implicitDefEqProofs (disch := omega) only [go_sem, reqD_of, dec_t, dec_f, wrap_i64, wrap_u32, wrap_u64, wrap_u8, hdo, e0o, e3o, e5o]
  refine loop_intro (fun e w' => e.ds = [] ∧ e.ρ 0 = .pointer (some ⟨B, 0, none⟩) ∧ e.ρ 5 = .int .i64 (1 + k) ∧ e.ρ 6 = .slice aL H.length cL ∧ ∃ (i : Nat) (v : Value), i ≤ H.length ∧ e.ρ 7 = .int .i64 i ∧ e.ρ 3 = v ∧
      St w0 (RowO 3 1 v (out ++ (H.take i).flatMap toldN).length (intR (out ++ (H.take i).flatMap toldN)) * (TabP B ls ws * (RowO 38 4 (.slice aL H.length cL) H.length (H.flatMap needC) * F))) w')
    (fun e _ => match e.ρ 7 with | .int _ n => (H.length - n).toNat | _ => 0) ?_ ?_
  · refine ⟨by simp -dsimp -implicitDefEqProofs only [go_sem, hdo], by simp -dsimp -implicitDefEqProofs only [go_sem, e0o], by simp -dsimp -implicitDefEqProofs only [go_sem, e5o], by simp -dsimp -implicitDefEqProofs only [go_sem], 0, v, by omega, by simp -dsimp -implicitDefEqProofs only [go_sem], by simp -dsimp -implicitDefEqProofs only [go_sem, e3o], ?_⟩
    rw [List.take_zero, List.flatMap_nil, List.append_nil]
    exact h2.sub
  rintro e w3 ⟨hd, e0, e5, e6, i, v, hi, e7, e3, h3⟩
  have htl := toldN_length (H.take i)
  have hti : (H.take i).length ≤ H.length := by rw [List.length_take]; exact Nat.min_le_right _ _
  by_cases hlt2 : (i : Int) < H.length
  case neg =>
    have : i = H.length := by omega
    subst this
    rw [List.take_length] at h3 htl
    have hlen : (out ++ H.flatMap toldN).length ≤ 100000000000 := by rw [List.length_append]; omega
    simp -dsimp -implicitDefEqProofs (disch := omega) only [go_sem, reqD_of, dec_t, dec_f, wrap_i64, wrap_u32, wrap_u64, wrap_u8, hd, e0, e3, e5, e6, e7, hlt2]
    refine h3.lit fact_rowTy_34 (cells := intR [-4]) rfl (by decide) (by decide) fun v3 w4 h4 => ?_
    simp -dsimp -implicitDefEqProofs (disch := omega) only [go_sem, reqD_of, dec_t, dec_f, wrap_i64, wrap_u32, wrap_u64, wrap_u8, e3]
    refine h4.appR (v := v) (x := v3) fact_rowTy_34 Try.underlying34 (intR_cells [-4]) (by simp [intR]) (by simp only [maxLen]; omega) (by omega) fun v4 w5 h5 => ?_
    simp -dsimp -implicitDefEqProofs (disch := omega) only [go_sem, reqD_of, dec_t, dec_f, wrap_i64, wrap_u32, wrap_u64, wrap_u8, hd, e0, e3, e5, e6, e7, e5o]
    refine ⟨⟨k + 1, v4, by omega, by omega, rfl, ?_⟩, by omega⟩
    have e1 : toldA ls 6 ++ toldB ls (k + 1) = out ++ H.flatMap toldN ++ [-4] := by
      rw [toldB_succ, ← List.append_assoc, hout, toldW, hH, List.append_assoc]
    have e2 : (out ++ H.flatMap toldN ++ [-4]).length = (out ++ H.flatMap toldN).length + 1 := List.length_append
    rw [e1, intR_app (out ++ H.flatMap toldN), e2]
    exact h5.sub
  have hil : i < H.length := by omega
  obtain ⟨_, _, _, hv, _, hcl⟩ := St.rowsAt (k := 4) needC_length (by decide) (h3.gives (B := Reads 4 (.slice aL H.length cL) H.length (H.flatMap needC)))
  simp only [Value.slice.injEq, true_and] at hv
  obtain ⟨rfl, rfl⟩ := hv
  obtain ⟨g, o, rfl, _, hcell⟩ := hcl i hil
  have c2 := hcell 2 (by decide)
  have c3 := hcell 3 (by decide)
  have hts : (H.take (i + 1)).flatMap toldN = (H.take i).flatMap toldN ++ toldN H[i] := by rw [List.take_succ_eq_append_getElem hil, List.flatMap_append]; simp
  generalize hn : H[i] = n at c2 c3 hts
  simp only [needC, List.getElem?_cons_succ, List.getElem?_cons_zero] at c2 c3
  simp -dsimp -implicitDefEqProofs (disch := omega) only [go_sem, reqD_of, dec_t, dec_f, wrap_i64, wrap_u32, wrap_u64, wrap_u8, hd, e0, e3, e5, e6, e7, hlt2, c2]
  refine h3.lit fact_rowTy_34 (cells := intR [IntKind.i64.wrap n.1.2.2]) rfl (by decide) (by decide) fun v3 w4 h4 => ?_
  simp -dsimp -implicitDefEqProofs (disch := omega) only [go_sem, reqD_of, dec_t, dec_f, wrap_i64, wrap_u32, wrap_u64, wrap_u8, e3]
  refine h4.appR (v := v) (x := v3) fact_rowTy_34 Try.underlying34 (intR_cells [IntKind.i64.wrap n.1.2.2]) (by simp [intR]) (by simp only [maxLen, List.length_append]; omega) (by simp only [List.length_append]; omega) fun v4 w5 h5 => ?_
  obtain ⟨_, _, _, hv5, _, hcl5⟩ := St.rowsAt (k := 4) needC_length (by decide) (h5.gives (B := Reads 4 (.slice (some ⟨g, o, none⟩) H.length cL) H.length (H.flatMap needC)))
  simp only [Value.slice.injEq, true_and] at hv5
  obtain ⟨rfl, rfl⟩ := hv5
  obtain ⟨g', o', hgo, _, hcell5⟩ := hcl5 i hil
  simp only [Option.some.injEq, Addr.mk.injEq, and_true] at hgo
  obtain ⟨rfl, rfl⟩ := hgo
  have c35 := hcell5 3 (by decide)
  rw [hn] at c35
  simp only [needC, List.getElem?_cons_succ, List.getElem?_cons_zero] at c35
  have e2 : ∀ x : Int, (out ++ (H.take i).flatMap toldN ++ [x]).length = (out ++ (H.take i).flatMap toldN).length + 1 := fun x => List.length_append
  cases hal : n.2
  · rw [hal] at c35
    simp -dsimp -implicitDefEqProofs (disch := omega) only [go_sem, reqD_of, dec_t, dec_f, wrap_i64, wrap_u32, wrap_u64, wrap_u8, hd, e0, e3, e5, e6, e7, hlt2, c35]
    refine ⟨⟨i + 1, v4, by omega, by omega, rfl, ?_⟩, by omega⟩
    have e1 : out ++ (H.take (i + 1)).flatMap toldN = out ++ (H.take i).flatMap toldN ++ [IntKind.i64.wrap n.1.2.2] := by rw [hts]; simp [toldN, hal]
    rw [e1, intR_app (out ++ (H.take i).flatMap toldN), e2]
    exact h5.sub
  · rw [hal] at c35
    simp -dsimp -implicitDefEqProofs (disch := omega) only [go_sem, reqD_of, dec_t, dec_f, wrap_i64, wrap_u32, wrap_u64, wrap_u8, hd, e0, e3, e5, e6, e7, hlt2, c35]
    refine h5.lit fact_rowTy_34 (cells := intR [-3]) rfl (by decide) (by decide) fun v5 w6 h6 => ?_
    simp -dsimp -implicitDefEqProofs (disch := omega) only [go_sem, reqD_of, dec_t, dec_f, wrap_i64, wrap_u32, wrap_u64, wrap_u8, e3]
    refine h6.appR (v := v4) (x := v5) fact_rowTy_34 Try.underlying34 (intR_cells [-3]) (by simp [intR]) (by simp only [maxLen, List.length_append]; omega) (by simp only [List.length_append]; omega) fun v6 w7 h7 => ?_
    simp -dsimp -implicitDefEqProofs (disch := omega) only [go_sem, reqD_of, dec_t, dec_f, wrap_i64, wrap_u32, wrap_u64, wrap_u8, hd, e0, e3, e5, e6, e7]
    refine ⟨⟨i + 1, v6, by omega, by omega, rfl, ?_⟩, by omega⟩
    have e1 : out ++ (H.take (i + 1)).flatMap toldN = out ++ (H.take i).flatMap toldN ++ [IntKind.i64.wrap n.1.2.2] ++ [-3] := by rw [hts]; simp [toldN, hal]
    rw [e1, intR_app (out ++ (H.take i).flatMap toldN ++ _), intR_app (out ++ (H.take i).flatMap toldN), List.length_append, e2]
    exact h7.sub

end
section
attribute [local go_sem] F19.t4_eq F19.t5_eq F19.t15_eq F19.t16_eq F19.t19_eq F19.t11_eq F19.t12_eq F19.t20_eq
theorem told_any {w0 w : World} {F : HP} {B : Nat} {ls : List (Nam × LkS)} {ws : List (Int × Nee)} (h : St w0 (TabP B ls ws * F) w) (hT : tot ls < 1073741824) (hL : ls.length < 1073741824) :
    Calls Try.prog 19 #[.pointer (some ⟨B, 0, none⟩)] w fun e w' => ∃ v, St w0 (RowO 3 1 v (toldS ls).length (intR (toldS ls)) * (TabP B ls ws * F)) w' ∧ e = .returned v := by
  have hb1 : ∀ k, (toldA ls k).length ≤ k * (tot ls + 2) := flat_bound (toldK ls) (toldK_length ls)
  refine F19.calls (by simp) ?_
  unfold F19.code
  simp -dsimp -implicitDefEqProofs (disch := omega) only [go_sem, reqD_of, dec_t, dec_f, wrap_i64, wrap_u32, wrap_u64, wrap_u8]
  refine loop_intro (fun e w' => e.ds = [] ∧ e.ρ 0 = .pointer (some ⟨B, 0, none⟩) ∧ ∃ (k : Nat) (v : Value), k ≤ 6 ∧ e.ρ 4 = .int .i64 k ∧ e.ρ 3 = v ∧
      St w0 (RowO 3 1 v (toldA ls k).length (intR (toldA ls k)) * (TabP B ls ws * F)) w')
    (fun e _ => match e.ρ 4 with | .int _ n => (6 - n).toNat | _ => 0) ?_ ?_
  · exact ⟨rfl, by simp -dsimp -implicitDefEqProofs only [go_sem], 0, _, by omega, by simp -dsimp -implicitDefEqProofs only [go_sem], rfl, h.nilR 3 1⟩
  rintro e w1 ⟨hd, e0, k, v, hk, e4, e3, h1⟩
  by_cases hlt : (k : Int) < 6
  case neg =>
    have : k = 6 := by omega
    subst this
    simp -dsimp -implicitDefEqProofs (disch := omega) only [go_sem, reqD_of, dec_t, dec_f, wrap_i64, wrap_u32, wrap_u64, wrap_u8, hd, e0, e3, e4, hlt]
    exact told_tail hT hL h1 hd e0 e3
  have hbk := hb1 k
  have hkN : k * (tot ls + 2) ≤ 6 * (tot ls + 2) := Nat.mul_le_mul_right _ hk
  have hq := queueS_length (kN k) ls
  have hh := holdersS_length (kN k) ls
  have hta := tot_agt (x := kN k) (ls := ls)
  have hsucc := toldA_succ ls k
  generalize toldA ls k = out at h1 hbk hsucc
  simp -dsimp -implicitDefEqProofs (disch := omega) only [go_sem, reqD_of, dec_t, dec_f, wrap_i64, wrap_u32, wrap_u64, wrap_u8, hd, e0, e3, e4, hlt]
  refine h1.lit fact_rowTy_34 (cells := intR [-1]) rfl (by decide) (by decide) fun v1 w2 h2 => ?_
  simp -dsimp -implicitDefEqProofs (disch := omega) only [go_sem, reqD_of, dec_t, dec_f, wrap_i64, wrap_u32, wrap_u64, wrap_u8, e3]
  refine h2.appR (v := v) (x := v1) fact_rowTy_34 Try.underlying34 (intR_cells [-1]) (by simp [intR]) (by simp only [maxLen]; omega) (by omega) fun v2 w3 h3 => ?_
  simp -dsimp -implicitDefEqProofs (disch := omega) only [go_sem, reqD_of, dec_t, dec_f, wrap_i64, wrap_u32, wrap_u64, wrap_u8, hd, e0, e3, e4]
  refine (oneN_any h3 (by omega) (by omega)).mono ?_
  rintro e' w4 ⟨h4, rfl⟩
  simp -dsimp -implicitDefEqProofs (disch := omega) only [go_sem, reqD_of, dec_t, dec_f, wrap_i64, wrap_u32, wrap_u64, wrap_u8, hd, e0, e3, e4]
  refine (holders_any (x := kN k) (h4.take (.obj B)) (by omega)).mono ?_
  rintro e' w5 ⟨v3, h5, rfl⟩
  simp -dsimp -implicitDefEqProofs (disch := omega) only [go_sem, reqD_of, dec_t, dec_f, wrap_i64, wrap_u32, wrap_u64, wrap_u8, hd, e0, e3, e4]
  refine h5.appR (v := v2) (x := v3) fact_rowTy_34 Try.underlying34 (intR_cells _) intR_nil0 (by simp only [maxLen]; omega) (by omega) fun v4 w6 h6 => ?_
  simp -dsimp -implicitDefEqProofs (disch := omega) only [go_sem, reqD_of, dec_t, dec_f, wrap_i64, wrap_u32, wrap_u64, wrap_u8, hd, e0, e3, e4]
  refine h6.lit fact_rowTy_34 (cells := intR [-2]) rfl (by decide) (by decide) fun v5 w7 h7 => ?_
  simp -dsimp -implicitDefEqProofs (disch := omega) only [go_sem, reqD_of, dec_t, dec_f, wrap_i64, wrap_u32, wrap_u64, wrap_u8, e3]
  refine h7.appR (v := v4) (x := v5) fact_rowTy_34 Try.underlying34 (intR_cells [-2]) (by simp [intR]) (by simp only [maxLen]; omega) (by omega) fun v6 w8 h8 => ?_
  simp -dsimp -implicitDefEqProofs (disch := omega) only [go_sem, reqD_of, dec_t, dec_f, wrap_i64, wrap_u32, wrap_u64, wrap_u8, hd, e0, e3, e4]
  refine (oneN_any h8 (by omega) (by omega)).mono ?_
  rintro e' w9 ⟨h9, rfl⟩
  simp -dsimp -implicitDefEqProofs (disch := omega) only [go_sem, reqD_of, dec_t, dec_f, wrap_i64, wrap_u32, wrap_u64, wrap_u8, hd, e0, e3, e4]
  refine (queueN_any (x := kN k) (h9.take (.obj B)) hT).mono ?_
  rintro e' w10 ⟨v7, h10, rfl⟩
  simp -dsimp -implicitDefEqProofs (disch := omega) only [go_sem, reqD_of, dec_t, dec_f, wrap_i64, wrap_u32, wrap_u64, wrap_u8, hd, e0, e3, e4]
  refine h10.appR (v := v6) (x := v7) fact_rowTy_34 Try.underlying34 (intR_cells _) intR_nil0 (by simp only [maxLen]; omega) (by omega) fun v8 w11 h11 => ?_
  simp -dsimp -implicitDefEqProofs (disch := omega) only [go_sem, reqD_of, dec_t, dec_f, wrap_i64, wrap_u32, wrap_u64, wrap_u8, hd, e0, e3, e4]
  refine ⟨⟨k + 1, v8, by omega, by omega, rfl, ?_⟩, by omega⟩
  have e1 : intR (toldA ls (k + 1)) = intR out ++ intR [-1] ++ intR (holdersS (kN k) ls) ++ intR [-2] ++ intR (queueS (kN k) ls) := by
    rw [hsucc]; simp [toldK, intR]
  have e2 : (toldA ls (k + 1)).length = out.length + 1 + (holdersS (kN k) ls).length + 1 + (queueS (kN k) ls).length := by
    rw [hsucc]; simp only [toldK, List.length_append, List.length_cons]; omega
  rw [e1, e2]
  exact h11.sub

end
end Go.Proofs.Ytacmnfpgimgigaa

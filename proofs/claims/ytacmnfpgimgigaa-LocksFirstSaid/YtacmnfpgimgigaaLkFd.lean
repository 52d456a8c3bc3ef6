/- LocksFirst: one who was let in. -/
import Derived.Test.YtacmnfpgimgigaaLkFc
namespace Go.Proofs.Ytacmnfpgimgigaa
open Go
set_option linter.unusedSimpArgs false
set_option linter.unusedVariables false
set_option maxRecDepth 100000

theorem intR_set (l : List Int) (k : Nat) (x : Int) : (intR l).set k (.int .i64 x) = intR (l.set k x) := by unfold intR; rw [List.map_set]
theorem intR_get {l : List Int} {k : Nat} {x : Int} (h : l[k]? = some x) : (intR l)[k]? = some (.int .i64 x) := by simp [intR, h]

def F6 (vIn : Value) (l : List Claim) (vW : Value) (W : List Nee) (F : HP) : HP := RowO 3 1 vIn l.length (intR (l.map (·.1))) * (RowO 38 4 vW 8 (W.flatMap needC) * F)
/-- The slots that count. -/
def S6 (e : FA) (v0 : Value) (B i : Nat) (vR vW vIn : Value) (gone : Int) (vA : Value) : Prop := S5 e v0 B i vR gone vA ∧ e.ρ 7 = vW ∧ e.ρ 12 = vIn

def atNext (row : List Int) (gone : Int) (at' : Nat) : Nat := if row[at']? = some gone then at' + 2 else at' + 1

section
attribute [local go_sem] F5.t14_eq F5.t15_eq F5.t18_eq F5.t19_eq F5.t41_eq F5.t37_eq F5.t34_eq F5.t30_eq F5.t27_eq F5.t28_eq F5.t55_eq F5.t53_eq F5.t51_eq F5.t52_eq F5.t56_eq F5.t44_eq F5.t45_eq F5.t42_eq F5.t23_eq F5.t21_eq F5.t16_eq F5.t9_eq F5.t10_eq F5.t58_eq F5.t7_eq F5.t3_eq
theorem first_37 {w0 w : World} {F : HP} {B i j k u : Nat} {ls : List (Nam × LkS)} {ws : List (Int × Nee)} {v0 vR vW vIn : Value} {bA oA cA N : Nat} {gone : Int} {rs : List (Value × List Int)} {ats : List Int} {l : List Claim} {W : List Nee} {a : Bool} {v : Value} {row : List Int} {at2 : Nat} {Q : Post} {e : FA} {θ : Tag (F5.t37, Q, e, w)}
    (hT : tot ls < 1073741824) (hL : ls.length < 1073741824) (hj : l[j]? = some (1 + (u : Int), a)) (hu : u < 8) (hjl : j < 9223372036854775807) (hk : k < 6) (hrk : rs.reverse[k]? = some (v, row)) (hak : ats[k]? = some (at2 : Int)) (hra : row[at2]? = some (1 + (u : Int))) (hrl : row.length < 1073741824)
    (hheld : (kN k, a) ∈ heldS (1 + (u : Int)) ls) (hwait : agt (1 + (u : Int)) ws = none)
    (hs : S6 e v0 B i vR vW vIn gone (.slice (some ⟨bA, oA, none⟩) 6 cA)) (e16 : e.ρ 16 = .int .i64 j) (e17 : e.ρ 17 = .pointer (some ⟨N, 0, none⟩)) (e18 : e.ρ 18 = .int .i64 k) (e19 : e.ρ 19 = v) (hal : ats.length = 6)
    (h : St w0 (Blk N (.cells (needC (kN k, a)).toArray 38 (0, 0)) * G5 B ls ws vR (.slice (some ⟨bA, oA, none⟩) 6 cA) rs ats (F6 vIn l vW W F)) w)
    (hQ : ∀ (e' : FA) (w' : World), S6 e' v0 B i vR vW vIn gone (.slice (some ⟨bA, oA, none⟩) 6 cA) → e'.ρ 16 = .int .i64 j → St w0 (G5 B ls ws vR (.slice (some ⟨bA, oA, none⟩) 6 cA) rs (ats.set k ((at2 : Int) + 1)) (F6 vIn l vW W F)) w' → Q .normal e' w') :
    cwE Try.prog F5.t37 Q e w θ := by
  obtain ⟨⟨hd, e0, e4, e5, e6, e14, e15⟩, e7, e12⟩ := hs
  obtain ⟨hmem, hcv⟩ := rows_at hrk
  have hat2 := (List.getElem?_eq_some_iff.1 hra).1
  unfold G5 F6 at h
  have h0 := h.drew
  obtain ⟨hjl2, hjx⟩ := List.getElem?_eq_some_iff.1 hj
  obtain ⟨_, aI, cI, rfl, hnI, hIc⟩ := St.readAt (h0.gives (B := Reads 1 vIn l.length (intR (l.map (·.1)))))
  obtain ⟨bI, oI, rfl, hIj⟩ := hIc j (.int .i64 (1 + (u : Int))) (by simp [intR, hj])
  have hN := h0.rowH N 4 rfl
  rw [F5.t37_eq]
  simp -dsimp -implicitDefEqProofs (disch := omega) only [go_sem, reqD_of, dec_t, dec_f, wrap_i64, wrap_u32, wrap_u64, wrap_u8, hd, e0, e4, e5, e6, e7, e12, e14, e15, e16, e17, e18, e19, hIj, hN]
  refine (holdsLaw_any (n := (kN k, a)) (who := 1 + (u : Int)) (h0.take (.obj B)) (by omega) (by omega)).mono ?_
  rintro e' w1 ⟨h1, rfl⟩
  rw [dec_t hheld]
  obtain ⟨_, _, _, hvI, _, hIc1⟩ := St.readAt (h1.gives (B := Reads 1 (.slice (some ⟨bI, oI, none⟩) l.length cI) l.length (intR (l.map (·.1)))))
  simp only [Value.slice.injEq, true_and] at hvI
  obtain ⟨rfl, rfl⟩ := hvI
  obtain ⟨_, _, hbI, hIj1⟩ := hIc1 j (.int .i64 (1 + (u : Int))) (by simp [intR, hj])
  simp only [Option.some.injEq, Addr.mk.injEq, and_true] at hbI
  obtain ⟨rfl, rfl⟩ := hbI
  simp -dsimp -implicitDefEqProofs (disch := omega) only [go_sem, reqD_of, dec_t, dec_f, wrap_i64, wrap_u32, wrap_u64, wrap_u8, hd, e0, e4, e5, e6, e7, e12, e14, e15, e16, e17, e18, e19, hIj1]
  refine (waits_any (who := 1 + (u : Int)) (h1.take (.obj B))).mono ?_
  rintro e' w2 ⟨h2, rfl⟩
  rw [hwait]
  simp -dsimp -implicitDefEqProofs (disch := omega) only [go_sem, reqD_of, dec_t, dec_f, wrap_i64, wrap_u32, wrap_u64, wrap_u8, hd, e0, e4, e5, e6, e7, e12, e14, e15, e16, e17, e18, e19, Option.isSome_none]
  refine h2.new fun M w3 h3 => ?_
  simp -dsimp -implicitDefEqProofs (disch := omega) only [go_sem, reqD_of, dec_t, dec_f, wrap_i64, wrap_u32, wrap_u64, wrap_u8]
  refine h3.stoAll (cs := needC ((none : Option Nee).getD noNeed)) rfl rfl (needC_cells _) fun w4 h4 => ?_
  have h5 := h4.drew
  obtain ⟨_, _, _, hvI, _, hIc1⟩ := St.readAt (h5.gives (B := Reads 1 (.slice (some ⟨bI, oI, none⟩) l.length cI) l.length (intR (l.map (·.1)))))
  simp only [Value.slice.injEq, true_and] at hvI
  obtain ⟨rfl, rfl⟩ := hvI
  obtain ⟨_, _, hbI, hIj5⟩ := hIc1 j (.int .i64 (1 + (u : Int))) (by simp [intR, hj])
  simp only [Option.some.injEq, Addr.mk.injEq, and_true] at hbI
  obtain ⟨rfl, rfl⟩ := hbI
  obtain ⟨_, _, _, hvA, _, hAc⟩ := St.readAt (h5.gives (B := Reads 1 (.slice (some ⟨bA, oA, none⟩) 6 cA) 6 (intR ats)))
  simp only [Value.slice.injEq, true_and] at hvA
  obtain ⟨rfl, rfl⟩ := hvA
  obtain ⟨_, _, hbA, hAk⟩ := hAc k (.int .i64 at2) (intR_get hak)
  simp only [Option.some.injEq, Addr.mk.injEq, and_true] at hbA
  obtain ⟨rfl, rfl⟩ := hbA
  obtain ⟨_, ar, cr, rfl, _, hrc⟩ := St.readAt ((h5.gives (B := rowsP rs)).ent (rowsP_reads hmem))
  obtain ⟨br, or, rfl, hrx⟩ := hrc at2 (.int .i64 (1 + (u : Int))) (intR_get hra)
  have hnr : ¬ (row.length : Int) ≤ at2 := by omega
  simp -dsimp -implicitDefEqProofs (disch := omega) only [go_sem, reqD_of, dec_t, dec_f, wrap_i64, wrap_u32, wrap_u64, wrap_u8, hd, e0, e4, e5, e6, e7, e12, e14, e15, e16, e17, e18, e19, hIj5, hAk, hrx, hnr]
  refine h5.rowSet1 (n := 6) (c := cA) (xs := intR ats) (by simp [intR]; omega) rfl fun w5 h6 => ?_
  rw [intR_set] at h6
  simp -dsimp -implicitDefEqProofs (disch := omega) only [go_sem, reqD_of, dec_t, dec_f, wrap_i64, wrap_u32, wrap_u64, wrap_u8]
  have h7 : St w0 (RowO 3 1 (.slice (some ⟨bA, oA, none⟩) 6 cA) 6 (intR (ats.set k ((at2 : Int) + 1))) * (TabP B ls ws * (RowO 34 1 vR 6 (cellsV rs) * (rowsP rs * (RowO 3 1 (.slice (some ⟨bI, oI, none⟩) l.length cI) l.length (intR (l.map (·.1))) * (RowO 38 4 vW 8 (W.flatMap needC) * F)))))) w5 := h6.sub
  exact hQ _ _ ⟨⟨by simp -dsimp -implicitDefEqProofs only [go_sem, hd], by simp -dsimp -implicitDefEqProofs only [go_sem, e0], by simp -dsimp -implicitDefEqProofs only [go_sem, e4], by simp -dsimp -implicitDefEqProofs only [go_sem, e5], by simp -dsimp -implicitDefEqProofs only [go_sem, e6], by simp -dsimp -implicitDefEqProofs only [go_sem, e14], by simp -dsimp -implicitDefEqProofs only [go_sem, e15]⟩, by simp -dsimp -implicitDefEqProofs only [go_sem, e7], by simp -dsimp -implicitDefEqProofs only [go_sem, e12]⟩ (by simp -dsimp -implicitDefEqProofs only [go_sem, e16]) h7

end
section
attribute [local go_sem] F5.t14_eq F5.t15_eq F5.t18_eq F5.t19_eq F5.t41_eq F5.t34_eq F5.t30_eq F5.t27_eq F5.t28_eq F5.t55_eq F5.t53_eq F5.t51_eq F5.t52_eq F5.t56_eq F5.t44_eq F5.t45_eq F5.t42_eq F5.t23_eq F5.t21_eq F5.t16_eq F5.t9_eq F5.t10_eq F5.t58_eq F5.t7_eq F5.t3_eq
theorem first_28 {w0 w : World} {F : HP} {B i j k u : Nat} {ls : List (Nam × LkS)} {ws : List (Int × Nee)} {v0 vR vW vIn : Value} {bA oA cA : Nat} {gone : Int} {rs : List (Value × List Int)} {ats : List Int} {l : List Claim} {W : List Nee} {a : Bool} {v : Value} {row : List Int} {at' : Nat} {Q : Post} {e : FA} {θ : Tag (F5.t28, Q, e, w)}
    (hT : tot ls < 1073741824) (hL : ls.length < 1073741824) (hj : l[j]? = some (1 + (u : Int), a)) (hu : u < 8) (hjl : j < 9223372036854775807) (hk : k < 6) (hrk : rs.reverse[k]? = some (v, row)) (hak : ats[k]? = some (at' : Int)) (hrl : row.length < 1073741824)
    (hskip : (row[at']? = some gone → row[at' + 1]? = some (1 + (u : Int))) ∧ (row[at']? ≠ some gone → row[at']? = some (1 + (u : Int)))) (hg : 1 + (u : Int) ≠ gone) (hWu : W[u]? = some (kN k, a)) (hWl : W.length = 8)
    (hheld : (kN k, a) ∈ heldS (1 + (u : Int)) ls) (hwait : agt (1 + (u : Int)) ws = none)
    (hs : S6 e v0 B i vR vW vIn gone (.slice (some ⟨bA, oA, none⟩) 6 cA)) (e16 : e.ρ 16 = .int .i64 j) (hal : ats.length = 6)
    (h : St w0 (G5 B ls ws vR (.slice (some ⟨bA, oA, none⟩) 6 cA) rs ats (F6 vIn l vW W F)) w)
    (hQ : ∀ (e' : FA) (w' : World), S6 e' v0 B i vR vW vIn gone (.slice (some ⟨bA, oA, none⟩) 6 cA) → e'.ρ 16 = .int .i64 ((j : Int) + 1) → St w0 (G5 B ls ws vR (.slice (some ⟨bA, oA, none⟩) 6 cA) rs (ats.set k ((atNext row gone at' : Nat) : Int)) (F6 vIn l vW W F)) w' → Q .normal e' w') :
    cwE Try.prog F5.t28 Q e w θ := by
  obtain ⟨⟨hd, e0, e4, e5, e6, e14, e15⟩, e7, e12⟩ := hs
  obtain ⟨hmem, hcv⟩ := rows_at hrk
  have hatl : at' < row.length := by
    by_cases hgo : row[at']? = some gone
    · exact (List.getElem?_eq_some_iff.1 hgo).1
    · exact (List.getElem?_eq_some_iff.1 (hskip.2 hgo)).1
  unfold G5 F6 at h
  obtain ⟨hjl2, hjx⟩ := List.getElem?_eq_some_iff.1 hj
  obtain ⟨_, aI, cI, rfl, hnI, hIc⟩ := St.readAt (h.gives (B := Reads 1 vIn l.length (intR (l.map (·.1)))))
  obtain ⟨bI, oI, rfl, hIj⟩ := hIc j (.int .i64 (1 + (u : Int))) (by simp [intR, hj])
  obtain ⟨_, aW, cW, rfl, _, hWc⟩ := St.rowsAt (k := 4) needC_length (by decide) (h.gives (B := Reads 4 vW 8 (W.flatMap needC)))
  obtain ⟨hul, hux⟩ := List.getElem?_eq_some_iff.1 hWu
  obtain ⟨bW, oW, rfl, _, hWcell⟩ := hWc u hul
  rw [hux] at hWcell
  have d0 := hWcell 0 (by decide)
  have d1 := hWcell 1 (by decide)
  have d2 := hWcell 2 (by decide)
  have d3 := hWcell 3 (by decide)
  simp only [needC, kN, Nat.add_zero, List.getElem?_cons_succ, List.getElem?_cons_zero] at d0 d1 d2 d3
  obtain ⟨_, aR, cR, rfl, _, hRc⟩ := St.readAt (h.gives (B := Reads 1 vR 6 (cellsV rs)))
  obtain ⟨bR, oR, rfl, hRk⟩ := hRc k v hcv
  have g1 : ¬ 1 + (u : Int) < 1 := by omega
  have g2 : ¬ (8 : Int) < 1 + (u : Int) := by omega
  have hu1 : 1 + (u : Int) - 1 = u := by omega
  rw [F5.t28_eq]
  simp -dsimp -implicitDefEqProofs (disch := omega) only [go_sem, reqD_of, dec_t, dec_f, wrap_i64, wrap_u32, wrap_u64, wrap_u8, hd, e0, e4, e5, e6, e7, e12, e14, e15, e16, hIj, g1, g2, hg, hu1, d0, d1, d2, d3]
  refine h.new fun N w1 h1 => ?_
  simp -dsimp -implicitDefEqProofs (disch := omega) only [go_sem, reqD_of, dec_t, dec_f, wrap_i64, wrap_u32, wrap_u64, wrap_u8]
  refine h1.stoAll (cs := needC (kN k, a)) rfl rfl (needC_cells _) fun w2 h2 => ?_
  have hNc := h2.cl N
  simp only [needC, kN] at hNc
  have k1 : ¬ (k : Int) < 0 := by omega
  have k2 : ¬ (6 : Int) ≤ k := by omega
  obtain ⟨_, _, _, hvR, _, hRc2⟩ := St.readAt (h2.gives (B := Reads 1 (.slice (some ⟨bR, oR, none⟩) 6 cR) 6 (cellsV rs)))
  simp only [Value.slice.injEq, true_and] at hvR
  obtain ⟨rfl, rfl⟩ := hvR
  obtain ⟨_, _, hbR, hRk2⟩ := hRc2 k v hcv
  simp only [Option.some.injEq, Addr.mk.injEq, and_true] at hbR
  obtain ⟨rfl, rfl⟩ := hbR
  obtain ⟨_, _, _, hvA, _, hAc⟩ := St.readAt (h2.gives (B := Reads 1 (.slice (some ⟨bA, oA, none⟩) 6 cA) 6 (intR ats)))
  simp only [Value.slice.injEq, true_and] at hvA
  obtain ⟨rfl, rfl⟩ := hvA
  obtain ⟨_, _, hbA, hAk⟩ := hAc k (.int .i64 at') (intR_get hak)
  simp only [Option.some.injEq, Addr.mk.injEq, and_true] at hbA
  obtain ⟨rfl, rfl⟩ := hbA
  obtain ⟨_, ar, cr, hvr, _, hrc⟩ := St.readAt ((h2.gives (B := rowsP rs)).ent (rowsP_reads hmem))
  subst hvr
  have hx : ∃ x, row[at']? = some x := ⟨_, List.getElem?_eq_getElem hatl⟩
  obtain ⟨x, hx⟩ := hx
  obtain ⟨br, or, rfl, hrx⟩ := hrc at' (.int .i64 x) (intR_get hx)
  have hlt : (at' : Int) < row.length := by omega
  have hend : ∀ {P2 : Nat}, St w0 (RowO 3 1 (.slice (some ⟨bA, oA, none⟩) 6 cA) 6 (intR (ats.set k (P2 : Int))) * (TabP B ls ws * (RowO 34 1 (.slice (some ⟨bR, oR, none⟩) 6 cR) 6 (cellsV rs) * (rowsP rs * (RowO 3 1 (.slice (some ⟨bI, oI, none⟩) l.length cI) l.length (intR (l.map (·.1))) * (RowO 38 4 (.slice (some ⟨bW, oW, none⟩) 8 cW) 8 (W.flatMap needC) * F)))))) w2 → True := fun _ => trivial
  by_cases hxg : x = gone
  · have hnext : atNext row gone at' = at' + 1 + 1 := by unfold atNext; rw [if_pos (by rw [hx, hxg])]
    have hra := hskip.1 (by rw [hx, hxg])
    simp -dsimp -implicitDefEqProofs (disch := omega) only [go_sem, reqD_of, dec_t, dec_f, wrap_i64, wrap_u32, wrap_u64, wrap_u8, hd, e0, e4, e5, e6, e7, e12, e14, e15, e16, hNc, k1, k2, hRk2, hAk, hlt, hrx, hxg]
    refine h2.rowSet1 (n := 6) (c := cA) (xs := intR ats) (by simp [intR]; omega) rfl fun w3 h3 => ?_
    rw [intR_set] at h3
    simp -dsimp -implicitDefEqProofs (disch := omega) only [go_sem, reqD_of, dec_t, dec_f, wrap_i64, wrap_u32, wrap_u64, wrap_u8, hd, e0, e4, e5, e6, e7, e12, e14, e15, e16]
    have h4 : St w0 (Blk N (.cells (needC (kN k, a)).toArray 38 (0, 0)) * G5 B ls ws (.slice (some ⟨bR, oR, none⟩) 6 cR) (.slice (some ⟨bA, oA, none⟩) 6 cA) rs (ats.set k ((at' : Int) + 1)) (F6 (.slice (some ⟨bI, oI, none⟩) l.length cI) l (.slice (some ⟨bW, oW, none⟩) 8 cW) W F)) w3 := by
      unfold G5 F6; exact h3.sub
    refine first_37 (v0 := v0) (i := i) (gone := gone) (N := N) hT hL hj hu hjl hk hrk (at2 := at' + 1) (by rw [List.getElem?_set_self (by omega)]; simp) hra hrl hheld hwait ⟨⟨by simp -dsimp -implicitDefEqProofs only [go_sem, hd], by simp -dsimp -implicitDefEqProofs only [go_sem, e0], by simp -dsimp -implicitDefEqProofs only [go_sem, e4], by simp -dsimp -implicitDefEqProofs only [go_sem, e5], by simp -dsimp -implicitDefEqProofs only [go_sem, e6], by simp -dsimp -implicitDefEqProofs only [go_sem, e14], by simp -dsimp -implicitDefEqProofs only [go_sem, e15]⟩, by simp -dsimp -implicitDefEqProofs only [go_sem, e7], by simp -dsimp -implicitDefEqProofs only [go_sem, e12]⟩ (by simp -dsimp -implicitDefEqProofs only [go_sem, e16]) (by simp -dsimp -implicitDefEqProofs only [go_sem]) (by simp -dsimp -implicitDefEqProofs (disch := omega) only [go_sem, reqD_of, dec_t, dec_f, wrap_i64, wrap_u32, wrap_u64, wrap_u8]) (by simp -dsimp -implicitDefEqProofs only [go_sem]) (by simpa using hal) h4 ?_
    intro e' w' hs' e16' h'
    obtain ⟨⟨f0, f1, f2, f3, f4, f5, f6⟩, f7, f8⟩ := hs'
    simp -dsimp -implicitDefEqProofs (disch := omega) only [go_sem, reqD_of, dec_t, dec_f, wrap_i64, wrap_u32, wrap_u64, wrap_u8, e16']
    refine hQ _ _ ⟨⟨by simp -dsimp -implicitDefEqProofs only [go_sem, f0], by simp -dsimp -implicitDefEqProofs only [go_sem, f1], by simp -dsimp -implicitDefEqProofs only [go_sem, f2], by simp -dsimp -implicitDefEqProofs only [go_sem, f3], by simp -dsimp -implicitDefEqProofs only [go_sem, f4], by simp -dsimp -implicitDefEqProofs only [go_sem, f5], by simp -dsimp -implicitDefEqProofs only [go_sem, f6]⟩, by simp -dsimp -implicitDefEqProofs only [go_sem, f7], by simp -dsimp -implicitDefEqProofs only [go_sem, f8]⟩ (by simp -dsimp -implicitDefEqProofs only [go_sem]) ?_
    rw [List.set_set] at h'
    rw [hnext]
    have : (((at' + 1 : Nat) : Int) + 1) = ((at' + 1 + 1 : Nat) : Int) := by omega
    rw [← this]
    exact h'
  · have hnext : atNext row gone at' = at' + 1 := by unfold atNext; rw [if_neg (by rw [hx]; simpa using hxg)]
    have hra := hskip.2 (by rw [hx]; simpa using hxg)
    simp -dsimp -implicitDefEqProofs (disch := omega) only [go_sem, reqD_of, dec_t, dec_f, wrap_i64, wrap_u32, wrap_u64, wrap_u8, hd, e0, e4, e5, e6, e7, e12, e14, e15, e16, hNc, k1, k2, hRk2, hAk, hlt, hrx, hxg]
    have h4 : St w0 (Blk N (.cells (needC (kN k, a)).toArray 38 (0, 0)) * G5 B ls ws (.slice (some ⟨bR, oR, none⟩) 6 cR) (.slice (some ⟨bA, oA, none⟩) 6 cA) rs ats (F6 (.slice (some ⟨bI, oI, none⟩) l.length cI) l (.slice (some ⟨bW, oW, none⟩) 8 cW) W F)) w2 := by
      unfold G5 F6; exact h2.sub
    refine first_37 (v0 := v0) (i := i) (gone := gone) (N := N) hT hL hj hu hjl hk hrk (at2 := at') hak hra hrl hheld hwait ⟨⟨by simp -dsimp -implicitDefEqProofs only [go_sem, hd], by simp -dsimp -implicitDefEqProofs only [go_sem, e0], by simp -dsimp -implicitDefEqProofs only [go_sem, e4], by simp -dsimp -implicitDefEqProofs only [go_sem, e5], by simp -dsimp -implicitDefEqProofs only [go_sem, e6], by simp -dsimp -implicitDefEqProofs only [go_sem, e14], by simp -dsimp -implicitDefEqProofs only [go_sem, e15]⟩, by simp -dsimp -implicitDefEqProofs only [go_sem, e7], by simp -dsimp -implicitDefEqProofs only [go_sem, e12]⟩ (by simp -dsimp -implicitDefEqProofs only [go_sem, e16]) (by simp -dsimp -implicitDefEqProofs only [go_sem]) (by simp -dsimp -implicitDefEqProofs (disch := omega) only [go_sem, reqD_of, dec_t, dec_f, wrap_i64, wrap_u32, wrap_u64, wrap_u8]) (by simp -dsimp -implicitDefEqProofs only [go_sem]) hal h4 ?_
    intro e' w' hs' e16' h'
    obtain ⟨⟨f0, f1, f2, f3, f4, f5, f6⟩, f7, f8⟩ := hs'
    simp -dsimp -implicitDefEqProofs (disch := omega) only [go_sem, reqD_of, dec_t, dec_f, wrap_i64, wrap_u32, wrap_u64, wrap_u8, e16']
    refine hQ _ _ ⟨⟨by simp -dsimp -implicitDefEqProofs only [go_sem, f0], by simp -dsimp -implicitDefEqProofs only [go_sem, f1], by simp -dsimp -implicitDefEqProofs only [go_sem, f2], by simp -dsimp -implicitDefEqProofs only [go_sem, f3], by simp -dsimp -implicitDefEqProofs only [go_sem, f4], by simp -dsimp -implicitDefEqProofs only [go_sem, f5], by simp -dsimp -implicitDefEqProofs only [go_sem, f6]⟩, by simp -dsimp -implicitDefEqProofs only [go_sem, f7], by simp -dsimp -implicitDefEqProofs only [go_sem, f8]⟩ (by simp -dsimp -implicitDefEqProofs only [go_sem]) ?_
    rw [hnext]
    have : ((at' : Int) + 1) = ((at' + 1 : Nat) : Int) := by omega
    rw [← this]
    exact h'

end
end Go.Proofs.Ytacmnfpgimgigaa

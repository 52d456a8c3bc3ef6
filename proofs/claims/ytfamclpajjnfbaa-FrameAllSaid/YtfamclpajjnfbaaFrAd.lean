/- goes: its last part. UNDER WAY. -/
import Derived.Test.YtfamclpajjnfbaaFrAc
namespace Go.Proofs.Ytfamclpajjnfbaa
open Go
set_option linter.unusedSimpArgs false
set_option linter.unusedVariables false
set_option maxRecDepth 100000

theorem resCC {P : Program} {x y : Nat} {T U : TypeId} {a b : Addr} {v u : Value} {R : Ending → World → Prop} {e : FA} {w : World} (hx : e.ρ x = .pointer (some a)) (hv : (loadVar T a).run P w = .ok v w) (hy : e.ρ y = .pointer (some b)) (hu : (loadVar U b).run P w = .ok u w) (h : R (.returned (.tuple #[v, u])) w) : resC P #[.cell x T, .cell y U] e R w :=
  ⟨.tuple #[v, u], by simp [resF, hx, hy, asAddr, hv, hu], h⟩

section
attribute [local go_sem] F28.t14_eq F28.t6_eq
theorem goes_14 {w0 w : World} {F : HP} {e : FA} {P7 P8 P9 P10 P12 B B3 B5 D n k : Nat} {vv vw : Value} {b : List UInt8} {l : List (List UInt8)} {R : Ending → World → Prop} {θ : Tag (F28.t14, fnP Try.prog #[.cell 8 34, .cell 9 4] R, e, w)} (hb : b.length ≤ 33554432) (hn : n + b.length < 100000000)
    (hd : e.ds = [{ target := .collected D, args := #[] }]) (e7 : e.ρ 7 = .pointer (some ⟨P7, 0, none⟩)) (e8 : e.ρ 8 = .pointer (some ⟨P8, 0, none⟩)) (e9 : e.ρ 9 = .pointer (some ⟨P9, 0, none⟩)) (e10 : e.ρ 10 = .pointer (some ⟨P10, 0, none⟩)) (e12 : e.ρ 12 = .pointer (some ⟨P12, 0, none⟩)) (e13 : e.ρ 13 = .bool true)
    (h : St w0 (AllB B3 B5 k vv b * (Blk P12 (.cells #[fnV B3 B5] 63 (0, 0)) * (Blk P7 (.cells #[.pointer (some ⟨B, 0, none⟩)] 33 (0, 0)) * (BookP B n * (Blk P10 (.cells #[vw] 34 (0, 0)) * (ListP vw l * (Blk P8 (.cells #[.slice none 0 0] 34 (0, 0)) * (Blk P9 (.cells #[.bool false] 4 (0, 0)) * (Blk D (.deferred (some [])) * F))))))))) w)
    (hQ : ∀ a c n' w', n' ≤ n + (allFrames k b).length → St w0 (ListP (.slice a l.length c) l * (BookP B n' * F)) w' → R (.returned (.tuple #[.slice a l.length c, .bool true])) w') :
    cwE Try.prog F28.t14 (fnP Try.prog #[.cell 8 34, .cell 9 4] R) e w θ := by
  obtain ⟨fl, fc⟩ := allFrames_facts k b
  rw [F28.t14_eq]
  simp -dsimp -implicitDefEqProofs (disch := omega) only [go_sem, reqD_of, dec_t, dec_f, wrap_i64, wrap_u32, wrap_u64, wrap_u8, hd, e7, e8, e9, e10, e12, e13]
  refine h.new fun P16 w1 h1 => ?_
  simp -dsimp -implicitDefEqProofs (disch := omega) only [go_sem, reqD_of, dec_t, dec_f, wrap_i64, wrap_u32, wrap_u64, wrap_u8, hd, e7, e8, e9, e10, e12, e13]
  refine h1.sto (b := P16) (off := 0) (by simp) rfl fun w2 h2 => ?_
  simp only [List.setIfInBounds_toArray, List.set_cons_zero] at h2
  have c12 := h2.cl P12
  simp -dsimp -implicitDefEqProofs (disch := omega) only [go_sem, reqD_of, dec_t, dec_f, wrap_i64, wrap_u32, wrap_u64, wrap_u8, hd, e7, e8, e9, e10, e12, e13, c12]
  have h3 : St w0 (J2 P7 P12 P16 B B3 B5 n k vv b [] * (Blk P10 (.cells #[vw] 34 (0, 0)) * (ListP vw l * (Blk P8 (.cells #[.slice none 0 0] 34 (0, 0)) * (Blk P9 (.cells #[.bool false] 4 (0, 0)) * (Blk D (.deferred (some [])) * F)))))) w2 := by
    have h4 := (h2.ac (show _ = (Blk P16 (.cells #[.int .i64 0] 3 (0, 0)) * (Blk P12 (.cells #[fnV B3 B5] 63 (0, 0)) * (Blk P7 (.cells #[.pointer (some ⟨B, 0, none⟩)] 33 (0, 0)) * BookP B n))) * (AllB B3 B5 k vv b * (Blk P10 (.cells #[vw] 34 (0, 0)) * (ListP vw l * (Blk P8 (.cells #[.slice none 0 0] 34 (0, 0)) * (Blk P9 (.cells #[.bool false] 4 (0, 0)) * (Blk D (.deferred (some [])) * F)))))) by ac_rfl)).ent (Ent.sep (Ent.fact (show ([] : List (List UInt8)).length < 2 by decide) _) (Ent.rfl' _))
    exact h4.ac (by simp only [J2, List.length_nil]; ac_rfl)
  have fin : ∀ (D2 n' : Nat) (w' : World) (e2 : FA), n' ≤ n + (allFrames k b).length → e2.ds = [{ target := .collected D2, args := #[] }, { target := .collected D, args := #[] }] → e2.ρ 8 = .pointer (some ⟨P8, 0, none⟩) → e2.ρ 9 = .pointer (some ⟨P9, 0, none⟩) → e2.ρ 10 = .pointer (some ⟨P10, 0, none⟩) → e2.ρ 13 = .bool true →
      St w0 (Blk P10 (.cells #[vw] 34 (0, 0)) * (ListP vw l * (Blk P8 (.cells #[.slice none 0 0] 34 (0, 0)) * (Blk P9 (.cells #[.bool false] 4 (0, 0)) * (Blk D2 (.deferred (some [])) * (Blk D (.deferred (some [])) * (BookP B n' * F))))))) w' →
      cwE Try.prog F28.t23 (fnP Try.prog #[.cell 8 34, .cell 9 4] R) e2 w' := by
    intro D2 n' w' e2 hn' hd e8 e9 e10 e13 h5
    obtain ⟨vals, a, c, rfl, hvl, hvc, _⟩ := ListP.open (h5.sw2)
    have c10 := h5.cl P10
    rw [F28.t23_eq]
    simp -dsimp -implicitDefEqProofs (disch := omega) only [go_sem, reqD_of, dec_t, dec_f, wrap_i64, wrap_u32, wrap_u64, wrap_u8, hd, e8, e9, e10, e13, c10]
    refine h5.sto (b := P8) (off := 0) (by simp) rfl fun w6 h6 => ?_
    simp only [List.setIfInBounds_toArray, List.set_cons_zero] at h6
    simp -dsimp -implicitDefEqProofs (disch := omega) only [go_sem, reqD_of, dec_t, dec_f, wrap_i64, wrap_u32, wrap_u64, wrap_u8, hd, e8, e9, e10, e13]
    refine h6.sto (b := P9) (off := 0) (by simp) rfl fun w7 h7 => ?_
    simp only [List.setIfInBounds_toArray, List.set_cons_zero] at h7
    simp -dsimp -implicitDefEqProofs (disch := omega) only [go_sem, reqD_of, dec_t, dec_f, wrap_i64, wrap_u32, wrap_u64, wrap_u8, hd, e8, e9, e10, e13]
    show retD Try.prog e2.ds (fun w => resC Try.prog #[.cell 8 34, .cell 9 4] _ R w) w7
    rw [hd]
    refine St.mark (F := Blk D (.deferred (some [])) * (Blk P8 (.cells #[.slice a l.length c] 34 (0, 0)) * (Blk P9 (.cells #[.bool true] 4 (0, 0)) * (ListP (.slice a l.length c) l * (BookP B n' * F))))) (h7.sub) fun w8 h8 => ?_
    refine St.mark1 (F := Blk P8 (.cells #[.slice a l.length c] 34 (0, 0)) * (Blk P9 (.cells #[.bool true] 4 (0, 0)) * (ListP (.slice a l.length c) l * (BookP B n' * F)))) (h8.right) fun w9 h9 => ?_
    have h10 := h9.right
    have c8 := h10.cl P8
    have c9 := h10.cl P9
    refine resCC (a := ⟨P8, 0, none⟩) (v := .slice a l.length c) (b := ⟨P9, 0, none⟩) (u := .bool true) (by first | exact e8 | simp -dsimp -implicitDefEqProofs only [go_sem, e8]) (run_loadVar_cell fact_aggSz_34 (by rw [c8]; rfl)) (by first | exact e9 | simp -dsimp -implicitDefEqProofs only [go_sem, e9]) (run_loadVar_cell fact_aggSz_4 (by rw [c9]; rfl)) ?_
    exact hQ a c n' w9 hn' h10.sub
  refine range_introJ h3 (gf := 47) (lb := #[.pointer (some ⟨B3, 0, none⟩), .pointer (some ⟨B5, 0, none⟩)]) (by simp -dsimp -implicitDefEqProofs only [go_sem]) fact_fnOk_47 (Pass := PassB)
    (J2 P7 P12 P16 B B3 B5 n k vv b) (fun cd _ => X2 P7 P12 P16 B B3 B5 n k vv b cd) (Ent.rfl' _) (goes_round2 hb hn (by simp -dsimp -implicitDefEqProofs only [go_sem, e7]) (by simp -dsimp -implicitDefEqProofs only [go_sem, e12]) (by simp -dsimp -implicitDefEqProofs only [go_sem]))
    (iter_allJ (n := k) (v := vv) (b := b) (J' := fun pre => HP.fact (pre.length < 2) (Blk P16 (.cells #[.int .i64 pre.length] 3 (0, 0)) * (Blk P12 (.cells #[fnV B3 B5] 63 (0, 0)) * (Blk P7 (.cells #[.pointer (some ⟨B, 0, none⟩)] 33 (0, 0)) * BookP B n)))) (by omega)) ?_ ?_
  · rintro D2 xs w4 hS h4
    obtain ⟨_, h6⟩ := (h4.ac (show _ = HP.fact (xs.length < 2) (Blk P16 (.cells #[.int .i64 xs.length] 3 (0, 0)) * (Blk P12 (.cells #[fnV B3 B5] 63 (0, 0)) * (Blk P7 (.cells #[.pointer (some ⟨B, 0, none⟩)] 33 (0, 0)) * BookP B n))) * (AllB B3 B5 k vv b * (Blk D2 (.deferred (some [])) * (Blk P10 (.cells #[vw] 34 (0, 0)) * (ListP vw l * (Blk P8 (.cells #[.slice none 0 0] 34 (0, 0)) * (Blk P9 (.cells #[.bool false] 4 (0, 0)) * (Blk D (.deferred (some [])) * F))))))) by simp only [J2]; ac_rfl)).factF
    exact fin D2 n w4 _ (by omega) (by show _ :: e.ds = _; rw [hd]) (by simp -dsimp -implicitDefEqProofs only [go_sem, e8]) (by simp -dsimp -implicitDefEqProofs only [go_sem, e9]) (by simp -dsimp -implicitDefEqProofs only [go_sem, e10]) (by simp -dsimp -implicitDefEqProofs only [go_sem, e13]) h6.sub
  · intro D2 cd pre w4 h4
    obtain ⟨rfl, h6⟩ := (h4.ac (show _ = HP.fact (cd = .exit 2) (Blk P16 (.cells #[.int .i64 2] 3 (0, 0)) * (Blk P12 (.cells #[fnV B3 B5] 63 (0, 0)) * G3 P7 B n (AllB B3 B5 k vv b) (allFrames k b).length)) * (Blk D2 (.deferred (some [])) * (Blk P10 (.cells #[vw] 34 (0, 0)) * (ListP vw l * (Blk P8 (.cells #[.slice none 0 0] 34 (0, 0)) * (Blk P9 (.cells #[.bool false] 4 (0, 0)) * (Blk D (.deferred (some [])) * F)))))) by simp only [X2]; ac_rfl)).factF
    have h6 := h6.ac (show _ = BookP B (n + (allFrames k b).length) * (Blk P16 (.cells #[.int .i64 2] 3 (0, 0)) * (Blk P12 (.cells #[fnV B3 B5] 63 (0, 0)) * (AllB B3 B5 k vv b * (Blk P7 (.cells #[.pointer (some ⟨B, 0, none⟩)] 33 (0, 0)) * (Blk D2 (.deferred (some [])) * (Blk P10 (.cells #[vw] 34 (0, 0)) * (ListP vw l * (Blk P8 (.cells #[.slice none 0 0] 34 (0, 0)) * (Blk P9 (.cells #[.bool false] 4 (0, 0)) * (Blk D (.deferred (some [])) * F)))))))))) by simp only [G3]; ac_rfl)
    exact fin D2 (n + (allFrames k b).length) w4 _ (by omega) (by show _ :: e.ds = _; rw [hd]) (by simp -dsimp -implicitDefEqProofs only [go_sem, e8]) (by simp -dsimp -implicitDefEqProofs only [go_sem, e9]) (by simp -dsimp -implicitDefEqProofs only [go_sem, e10]) (by simp -dsimp -implicitDefEqProofs only [go_sem, e13]) h6.sub

end
end Go.Proofs.Ytfamclpajjnfbaa

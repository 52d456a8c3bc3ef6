/- The reference: fields are set, whole. · The reference: a node is dropped. · The reference: a node is dropped, the walk. · The reference: a node is made. · The reference: one operation. · The reference: a new store; what stands there; one like it. · NodesAll: the range. · NodesAll: the walk. · Operations handed in, their data as bytes. · Operations on the way, handed in. -/
import Derived.Test.YtijnmokpihhhcaaGreatDoorZ1
import Derived.Test.YtijnmokpihhhcaaGreatDoorZ2
import Derived.Test.YtijnmokpihhhcaaGreatDoorZ3
import Derived.Test.YtijnmokpihhhcaaGreatDoorZ4
import Derived.Test.YtijnmokpihhhcaaGreatDoorZ5
import Derived.Test.YtijnmokpihhhcaaGreatDoorZ6
import Derived.Test.YtijnmokpihhhcaaGreatDoorZ7
import Derived.Test.YtijnmokpihhhcaaGreatDoorZ8
import Derived.Test.YtijnmokpihhhcaaGreatDoorZ9
import Derived.Test.YtijnmokpihhhcaaGreatDoorZ10
import Derived.Test.YtijnmokpihhhcaaGreatDoorZ11
import Derived.Test.YtijnmokpihhhcaaGreatDoorZ12
namespace Go.Proofs.YtijnmokpihhhcaaGreatDoor
open Go
set_option linter.unusedVariables false
set_option linter.unusedSimpArgs false
set_option maxRecDepth 100000
theorem bit7 {m : Nat} (hm : m < 256) : m.testBit 7 = decide (127 < m) := by
  rw [Nat.testBit_eq_decide_div_mod_eq, decide_eq_decide]
  omega
section
variable {w0 w : World} {A : HP} {b i : Nat} {s : SD} {v vd : Value} {X : List EV} {o : OpD}
section
attribute [local go_sem] F42.t25_eq F42.t23_eq F42.t21_eq F42.t19_eq F42.t17_eq F42.t15_eq F42.t13_eq F42.t11_eq
theorem refSet_any (ok : RefOk s X) (hi : i < s.L.length) (hin : OpIn o) (h : St w0 (RefB b s v * (RefL s.L v X * (starL bytesP X * A))) w) :
    Calls Tryz.prog 42 #[.pointer (some ⟨b, 0, none⟩), .int .i64 i, .agg (opL o vd).toArray] w fun e w' => SetR w0 b i o.mask o.node s hi A e w' := by
  have hm := hin.mask
  have q1 := hin.uid
  have q2 := hin.gid
  have q3 := hin.muid
  have k7 := bit7 hm
  refine F42.calls (by simp) ?_
  unfold F42.code
  simp -dsimp -implicitDefEqProofs (disch := omega) only [go_sem, reqD_of, dec_t, dec_f, wrap_i64, wrap_u32, wrap_u64, wrap_u8]
  refine h.new fun B w1 h1 => ?_
  have p1 : rowV w1 ⟨B, 4, none⟩ 13 = some (.agg (infL o.node).toArray) := h1.rowAtH B 4 13 (Nat.le_of_ble_eq_true rfl)
  simp -dsimp -implicitDefEqProofs (disch := omega) only [go_sem, reqD_of, dec_t, dec_f, wrap_i64, wrap_u32, wrap_u64, wrap_u8, p1]
  refine h1.new fun D w2 h2 => ?_
  simp -dsimp -implicitDefEqProofs (disch := omega) only [go_sem, reqD_of, dec_t, dec_f, wrap_i64, wrap_u32, wrap_u64, wrap_u8]
  refine h2.stoAll (b := D) (cs := infL o.node) rfl rfl (infL_cells _) fun w3 h3 => ?_
  have h4 : St w0 (infB D o.node * (RefB b s v * (RefL s.L v X * (starL bytesP X * (opB B o vd * A))))) w3 := h3.ac (by simp only [infB, opB]; ac_rfl)
  have b3 : w3.cell? ⟨B, 3, none⟩ = some (.int .u8 o.mask) := (h4.cl B) 3
  simp -dsimp -implicitDefEqProofs (disch := omega) only [go_sem, reqD_of, dec_t, dec_f, wrap_i64, wrap_u32, wrap_u64, wrap_u8, b3, h4.cl D]
  refine (refUser_any h4 (l := o.node.uid) (by omega)).mono ?_
  rintro e w4 ⟨h5, rfl⟩
  simp -dsimp -implicitDefEqProofs (disch := omega) only [go_sem, reqD_of, dec_t, dec_f, wrap_i64, wrap_u32, wrap_u64, wrap_u8, h5.cl D]
  refine (refUser_any h5 (l := o.node.gid) (by omega)).mono ?_
  rintro e w5 ⟨h6, rfl⟩
  simp -dsimp -implicitDefEqProofs (disch := omega) only [go_sem, reqD_of, dec_t, dec_f, wrap_i64, wrap_u32, wrap_u64, wrap_u8, h6.cl D]
  refine (refUser_any h6 (l := o.node.muid) (by omega)).mono ?_
  rintro e w6 ⟨h, rfl⟩
  have shut : ∀ {w}, St w0 (infB D o.node * (RefB b s v * (RefL s.L v X * (starL bytesP X * (opB B o vd * A))))) w → St w0 (RefP b s * (opB B o vd * A)) w := fun h => by
    have h := h.right
    rw [RefQ.as] at h
    exact h.ent (Ent.sep (RefP.shut ok) (Ent.rfl' _))
  have out : (o.mask.testBit 7 || o.mask.testBit 0 && !modeF o.node.mode || o.mask.testBit 1 && !userF o.node.uid || o.mask.testBit 2 && !userF o.node.gid || o.mask.testBit 3 && !userF o.node.muid) = true → setF o.mask o.node s.L[i].i = .error 1 := fun hx => by
    unfold setF
    rw [hx]
    rfl
  by_cases c7 : (127 : Int) < o.mask
  · have b7 : o.mask.testBit 7 = true := by rw [k7]; exact decide_eq_true (by omega)
    simp -dsimp -implicitDefEqProofs (disch := omega) only [go_sem, reqD_of, dec_t, dec_f, wrap_i64, wrap_u32, wrap_u64, wrap_u8, c7]
    exact SetR.drop (SetR.err (out (by simp only [b7, Bool.true_or])) (shut h))
  have b7 : o.mask.testBit 7 = false := by rw [k7]; exact decide_eq_false (by omega)
  simp -dsimp -implicitDefEqProofs (disch := omega) only [go_sem, reqD_of, dec_t, dec_f, wrap_i64, wrap_u32, wrap_u64, wrap_u8, c7]
  refine (refHas_any hm (k := 0) (by omega) (c := 1) rfl h).mono ?_
  rintro e' w ⟨h, rfl⟩
  cases x0 : o.mask.testBit 0
  · simp -dsimp -implicitDefEqProofs (disch := omega) only [go_sem, reqD_of, dec_t, dec_f, wrap_i64, wrap_u32, wrap_u64, wrap_u8]
    refine (refHas_any hm (k := 1) (by omega) (c := 2) rfl h).mono ?_
    rintro e' w ⟨h, rfl⟩
    cases x1 : o.mask.testBit 1
    · simp -dsimp -implicitDefEqProofs (disch := omega) only [go_sem, reqD_of, dec_t, dec_f, wrap_i64, wrap_u32, wrap_u64, wrap_u8]
      refine (refHas_any hm (k := 2) (by omega) (c := 4) rfl h).mono ?_
      rintro e' w ⟨h, rfl⟩
      cases x2 : o.mask.testBit 2
      · simp -dsimp -implicitDefEqProofs (disch := omega) only [go_sem, reqD_of, dec_t, dec_f, wrap_i64, wrap_u32, wrap_u64, wrap_u8]
        refine (refHas_any hm (k := 3) (by omega) (c := 8) rfl h).mono ?_
        rintro e' w ⟨h, rfl⟩
        cases x3 : o.mask.testBit 3
        · simp -dsimp -implicitDefEqProofs (disch := omega) only [go_sem, reqD_of, dec_t, dec_f, wrap_i64, wrap_u32, wrap_u64, wrap_u8]
          exact rset_t8 ok hi hm hin.ok.mode hin.ok.atime hin.ok.mtime (by simp only [b7, x0, Bool.false_and, Bool.or_false, Bool.false_or, x1, Bool.false_and, Bool.or_false, Bool.false_or, x2, Bool.false_and, Bool.or_false, Bool.false_or, x3, Bool.false_and, Bool.or_false, Bool.false_or]) (by simp -dsimp -implicitDefEqProofs only [go_sem]) (by simp -dsimp -implicitDefEqProofs only [go_sem]) (by simp -dsimp -implicitDefEqProofs only [go_sem]) (by simp -dsimp -implicitDefEqProofs only [go_sem]) (by simp -dsimp -implicitDefEqProofs only [go_sem]) h fun e w h => SetR.drop h
        · skip
          cases y3 : userF o.node.muid
          · simp -dsimp -implicitDefEqProofs (disch := omega) only [go_sem, reqD_of, dec_t, dec_f, wrap_i64, wrap_u32, wrap_u64, wrap_u8]
            exact SetR.drop (SetR.err (out (by simp only [b7, x0, Bool.false_and, Bool.or_false, Bool.false_or, x1, Bool.false_and, Bool.or_false, Bool.false_or, x2, Bool.false_and, Bool.or_false, Bool.false_or, x3, y3, Bool.not_false, Bool.true_and, Bool.or_true, Bool.true_or])) (shut h))
          · simp -dsimp -implicitDefEqProofs (disch := omega) only [go_sem, reqD_of, dec_t, dec_f, wrap_i64, wrap_u32, wrap_u64, wrap_u8]
            exact rset_t8 ok hi hm hin.ok.mode hin.ok.atime hin.ok.mtime (by simp only [b7, x0, Bool.false_and, Bool.or_false, Bool.false_or, x1, Bool.false_and, Bool.or_false, Bool.false_or, x2, Bool.false_and, Bool.or_false, Bool.false_or, x3, y3, Bool.not_true, Bool.and_false, Bool.or_false]) (by simp -dsimp -implicitDefEqProofs only [go_sem]) (by simp -dsimp -implicitDefEqProofs only [go_sem]) (by simp -dsimp -implicitDefEqProofs only [go_sem]) (by simp -dsimp -implicitDefEqProofs only [go_sem]) (by simp -dsimp -implicitDefEqProofs only [go_sem]) h fun e w h => SetR.drop h
      · skip
        cases y2 : userF o.node.gid
        · simp -dsimp -implicitDefEqProofs (disch := omega) only [go_sem, reqD_of, dec_t, dec_f, wrap_i64, wrap_u32, wrap_u64, wrap_u8]
          exact SetR.drop (SetR.err (out (by simp only [b7, x0, Bool.false_and, Bool.or_false, Bool.false_or, x1, Bool.false_and, Bool.or_false, Bool.false_or, x2, y2, Bool.not_false, Bool.true_and, Bool.or_true, Bool.true_or])) (shut h))
        · simp -dsimp -implicitDefEqProofs (disch := omega) only [go_sem, reqD_of, dec_t, dec_f, wrap_i64, wrap_u32, wrap_u64, wrap_u8]
          refine (refHas_any hm (k := 3) (by omega) (c := 8) rfl h).mono ?_
          rintro e' w ⟨h, rfl⟩
          cases x3 : o.mask.testBit 3
          · simp -dsimp -implicitDefEqProofs (disch := omega) only [go_sem, reqD_of, dec_t, dec_f, wrap_i64, wrap_u32, wrap_u64, wrap_u8]
            exact rset_t8 ok hi hm hin.ok.mode hin.ok.atime hin.ok.mtime (by simp only [b7, x0, Bool.false_and, Bool.or_false, Bool.false_or, x1, Bool.false_and, Bool.or_false, Bool.false_or, x2, y2, Bool.not_true, Bool.and_false, Bool.or_false, x3, Bool.false_and, Bool.or_false, Bool.false_or]) (by simp -dsimp -implicitDefEqProofs only [go_sem]) (by simp -dsimp -implicitDefEqProofs only [go_sem]) (by simp -dsimp -implicitDefEqProofs only [go_sem]) (by simp -dsimp -implicitDefEqProofs only [go_sem]) (by simp -dsimp -implicitDefEqProofs only [go_sem]) h fun e w h => SetR.drop h
          · skip
            cases y3 : userF o.node.muid
            · simp -dsimp -implicitDefEqProofs (disch := omega) only [go_sem, reqD_of, dec_t, dec_f, wrap_i64, wrap_u32, wrap_u64, wrap_u8]
              exact SetR.drop (SetR.err (out (by simp only [b7, x0, Bool.false_and, Bool.or_false, Bool.false_or, x1, Bool.false_and, Bool.or_false, Bool.false_or, x2, y2, Bool.not_true, Bool.and_false, Bool.or_false, x3, y3, Bool.not_false, Bool.true_and, Bool.or_true, Bool.true_or])) (shut h))
            · simp -dsimp -implicitDefEqProofs (disch := omega) only [go_sem, reqD_of, dec_t, dec_f, wrap_i64, wrap_u32, wrap_u64, wrap_u8]
              exact rset_t8 ok hi hm hin.ok.mode hin.ok.atime hin.ok.mtime (by simp only [b7, x0, Bool.false_and, Bool.or_false, Bool.false_or, x1, Bool.false_and, Bool.or_false, Bool.false_or, x2, y2, Bool.not_true, Bool.and_false, Bool.or_false, x3, y3, Bool.not_true, Bool.and_false, Bool.or_false]) (by simp -dsimp -implicitDefEqProofs only [go_sem]) (by simp -dsimp -implicitDefEqProofs only [go_sem]) (by simp -dsimp -implicitDefEqProofs only [go_sem]) (by simp -dsimp -implicitDefEqProofs only [go_sem]) (by simp -dsimp -implicitDefEqProofs only [go_sem]) h fun e w h => SetR.drop h
    · skip
      cases y1 : userF o.node.uid
      · simp -dsimp -implicitDefEqProofs (disch := omega) only [go_sem, reqD_of, dec_t, dec_f, wrap_i64, wrap_u32, wrap_u64, wrap_u8]
        exact SetR.drop (SetR.err (out (by simp only [b7, x0, Bool.false_and, Bool.or_false, Bool.false_or, x1, y1, Bool.not_false, Bool.true_and, Bool.or_true, Bool.true_or])) (shut h))
      · simp -dsimp -implicitDefEqProofs (disch := omega) only [go_sem, reqD_of, dec_t, dec_f, wrap_i64, wrap_u32, wrap_u64, wrap_u8]
        refine (refHas_any hm (k := 2) (by omega) (c := 4) rfl h).mono ?_
        rintro e' w ⟨h, rfl⟩
        cases x2 : o.mask.testBit 2
        · simp -dsimp -implicitDefEqProofs (disch := omega) only [go_sem, reqD_of, dec_t, dec_f, wrap_i64, wrap_u32, wrap_u64, wrap_u8]
          refine (refHas_any hm (k := 3) (by omega) (c := 8) rfl h).mono ?_
          rintro e' w ⟨h, rfl⟩
          cases x3 : o.mask.testBit 3
          · simp -dsimp -implicitDefEqProofs (disch := omega) only [go_sem, reqD_of, dec_t, dec_f, wrap_i64, wrap_u32, wrap_u64, wrap_u8]
            exact rset_t8 ok hi hm hin.ok.mode hin.ok.atime hin.ok.mtime (by simp only [b7, x0, Bool.false_and, Bool.or_false, Bool.false_or, x1, y1, Bool.not_true, Bool.and_false, Bool.or_false, x2, Bool.false_and, Bool.or_false, Bool.false_or, x3, Bool.false_and, Bool.or_false, Bool.false_or]) (by simp -dsimp -implicitDefEqProofs only [go_sem]) (by simp -dsimp -implicitDefEqProofs only [go_sem]) (by simp -dsimp -implicitDefEqProofs only [go_sem]) (by simp -dsimp -implicitDefEqProofs only [go_sem]) (by simp -dsimp -implicitDefEqProofs only [go_sem]) h fun e w h => SetR.drop h
          · skip
            cases y3 : userF o.node.muid
            · simp -dsimp -implicitDefEqProofs (disch := omega) only [go_sem, reqD_of, dec_t, dec_f, wrap_i64, wrap_u32, wrap_u64, wrap_u8]
              exact SetR.drop (SetR.err (out (by simp only [b7, x0, Bool.false_and, Bool.or_false, Bool.false_or, x1, y1, Bool.not_true, Bool.and_false, Bool.or_false, x2, Bool.false_and, Bool.or_false, Bool.false_or, x3, y3, Bool.not_false, Bool.true_and, Bool.or_true, Bool.true_or])) (shut h))
            · simp -dsimp -implicitDefEqProofs (disch := omega) only [go_sem, reqD_of, dec_t, dec_f, wrap_i64, wrap_u32, wrap_u64, wrap_u8]
              exact rset_t8 ok hi hm hin.ok.mode hin.ok.atime hin.ok.mtime (by simp only [b7, x0, Bool.false_and, Bool.or_false, Bool.false_or, x1, y1, Bool.not_true, Bool.and_false, Bool.or_false, x2, Bool.false_and, Bool.or_false, Bool.false_or, x3, y3, Bool.not_true, Bool.and_false, Bool.or_false]) (by simp -dsimp -implicitDefEqProofs only [go_sem]) (by simp -dsimp -implicitDefEqProofs only [go_sem]) (by simp -dsimp -implicitDefEqProofs only [go_sem]) (by simp -dsimp -implicitDefEqProofs only [go_sem]) (by simp -dsimp -implicitDefEqProofs only [go_sem]) h fun e w h => SetR.drop h
        · skip
          cases y2 : userF o.node.gid
          · simp -dsimp -implicitDefEqProofs (disch := omega) only [go_sem, reqD_of, dec_t, dec_f, wrap_i64, wrap_u32, wrap_u64, wrap_u8]
            exact SetR.drop (SetR.err (out (by simp only [b7, x0, Bool.false_and, Bool.or_false, Bool.false_or, x1, y1, Bool.not_true, Bool.and_false, Bool.or_false, x2, y2, Bool.not_false, Bool.true_and, Bool.or_true, Bool.true_or])) (shut h))
          · simp -dsimp -implicitDefEqProofs (disch := omega) only [go_sem, reqD_of, dec_t, dec_f, wrap_i64, wrap_u32, wrap_u64, wrap_u8]
            refine (refHas_any hm (k := 3) (by omega) (c := 8) rfl h).mono ?_
            rintro e' w ⟨h, rfl⟩
            cases x3 : o.mask.testBit 3
            · simp -dsimp -implicitDefEqProofs (disch := omega) only [go_sem, reqD_of, dec_t, dec_f, wrap_i64, wrap_u32, wrap_u64, wrap_u8]
              exact rset_t8 ok hi hm hin.ok.mode hin.ok.atime hin.ok.mtime (by simp only [b7, x0, Bool.false_and, Bool.or_false, Bool.false_or, x1, y1, Bool.not_true, Bool.and_false, Bool.or_false, x2, y2, Bool.not_true, Bool.and_false, Bool.or_false, x3, Bool.false_and, Bool.or_false, Bool.false_or]) (by simp -dsimp -implicitDefEqProofs only [go_sem]) (by simp -dsimp -implicitDefEqProofs only [go_sem]) (by simp -dsimp -implicitDefEqProofs only [go_sem]) (by simp -dsimp -implicitDefEqProofs only [go_sem]) (by simp -dsimp -implicitDefEqProofs only [go_sem]) h fun e w h => SetR.drop h
            · skip
              cases y3 : userF o.node.muid
              · simp -dsimp -implicitDefEqProofs (disch := omega) only [go_sem, reqD_of, dec_t, dec_f, wrap_i64, wrap_u32, wrap_u64, wrap_u8]
                exact SetR.drop (SetR.err (out (by simp only [b7, x0, Bool.false_and, Bool.or_false, Bool.false_or, x1, y1, Bool.not_true, Bool.and_false, Bool.or_false, x2, y2, Bool.not_true, Bool.and_false, Bool.or_false, x3, y3, Bool.not_false, Bool.true_and, Bool.or_true, Bool.true_or])) (shut h))
              · simp -dsimp -implicitDefEqProofs (disch := omega) only [go_sem, reqD_of, dec_t, dec_f, wrap_i64, wrap_u32, wrap_u64, wrap_u8]
                exact rset_t8 ok hi hm hin.ok.mode hin.ok.atime hin.ok.mtime (by simp only [b7, x0, Bool.false_and, Bool.or_false, Bool.false_or, x1, y1, Bool.not_true, Bool.and_false, Bool.or_false, x2, y2, Bool.not_true, Bool.and_false, Bool.or_false, x3, y3, Bool.not_true, Bool.and_false, Bool.or_false]) (by simp -dsimp -implicitDefEqProofs only [go_sem]) (by simp -dsimp -implicitDefEqProofs only [go_sem]) (by simp -dsimp -implicitDefEqProofs only [go_sem]) (by simp -dsimp -implicitDefEqProofs only [go_sem]) (by simp -dsimp -implicitDefEqProofs only [go_sem]) h fun e w h => SetR.drop h
  · skip
    simp -dsimp -implicitDefEqProofs (disch := omega) only [go_sem, reqD_of, dec_t, dec_f, wrap_i64, wrap_u32, wrap_u64, wrap_u8, h.cl D]
    refine (refMode_any hin.ok.mode h).mono ?_
    rintro e' w ⟨h, rfl⟩
    cases y0 : modeF o.node.mode
    · simp -dsimp -implicitDefEqProofs (disch := omega) only [go_sem, reqD_of, dec_t, dec_f, wrap_i64, wrap_u32, wrap_u64, wrap_u8]
      exact SetR.drop (SetR.err (out (by simp only [b7, x0, y0, Bool.not_false, Bool.true_and, Bool.or_true, Bool.true_or])) (shut h))
    · simp -dsimp -implicitDefEqProofs (disch := omega) only [go_sem, reqD_of, dec_t, dec_f, wrap_i64, wrap_u32, wrap_u64, wrap_u8]
      refine (refHas_any hm (k := 1) (by omega) (c := 2) rfl h).mono ?_
      rintro e' w ⟨h, rfl⟩
      cases x1 : o.mask.testBit 1
      · simp -dsimp -implicitDefEqProofs (disch := omega) only [go_sem, reqD_of, dec_t, dec_f, wrap_i64, wrap_u32, wrap_u64, wrap_u8]
        refine (refHas_any hm (k := 2) (by omega) (c := 4) rfl h).mono ?_
        rintro e' w ⟨h, rfl⟩
        cases x2 : o.mask.testBit 2
        · simp -dsimp -implicitDefEqProofs (disch := omega) only [go_sem, reqD_of, dec_t, dec_f, wrap_i64, wrap_u32, wrap_u64, wrap_u8]
          refine (refHas_any hm (k := 3) (by omega) (c := 8) rfl h).mono ?_
          rintro e' w ⟨h, rfl⟩
          cases x3 : o.mask.testBit 3
          · simp -dsimp -implicitDefEqProofs (disch := omega) only [go_sem, reqD_of, dec_t, dec_f, wrap_i64, wrap_u32, wrap_u64, wrap_u8]
            exact rset_t8 ok hi hm hin.ok.mode hin.ok.atime hin.ok.mtime (by simp only [b7, x0, y0, Bool.not_true, Bool.and_false, Bool.or_false, x1, Bool.false_and, Bool.or_false, Bool.false_or, x2, Bool.false_and, Bool.or_false, Bool.false_or, x3, Bool.false_and, Bool.or_false, Bool.false_or]) (by simp -dsimp -implicitDefEqProofs only [go_sem]) (by simp -dsimp -implicitDefEqProofs only [go_sem]) (by simp -dsimp -implicitDefEqProofs only [go_sem]) (by simp -dsimp -implicitDefEqProofs only [go_sem]) (by simp -dsimp -implicitDefEqProofs only [go_sem]) h fun e w h => SetR.drop h
          · skip
            cases y3 : userF o.node.muid
            · simp -dsimp -implicitDefEqProofs (disch := omega) only [go_sem, reqD_of, dec_t, dec_f, wrap_i64, wrap_u32, wrap_u64, wrap_u8]
              exact SetR.drop (SetR.err (out (by simp only [b7, x0, y0, Bool.not_true, Bool.and_false, Bool.or_false, x1, Bool.false_and, Bool.or_false, Bool.false_or, x2, Bool.false_and, Bool.or_false, Bool.false_or, x3, y3, Bool.not_false, Bool.true_and, Bool.or_true, Bool.true_or])) (shut h))
            · simp -dsimp -implicitDefEqProofs (disch := omega) only [go_sem, reqD_of, dec_t, dec_f, wrap_i64, wrap_u32, wrap_u64, wrap_u8]
              exact rset_t8 ok hi hm hin.ok.mode hin.ok.atime hin.ok.mtime (by simp only [b7, x0, y0, Bool.not_true, Bool.and_false, Bool.or_false, x1, Bool.false_and, Bool.or_false, Bool.false_or, x2, Bool.false_and, Bool.or_false, Bool.false_or, x3, y3, Bool.not_true, Bool.and_false, Bool.or_false]) (by simp -dsimp -implicitDefEqProofs only [go_sem]) (by simp -dsimp -implicitDefEqProofs only [go_sem]) (by simp -dsimp -implicitDefEqProofs only [go_sem]) (by simp -dsimp -implicitDefEqProofs only [go_sem]) (by simp -dsimp -implicitDefEqProofs only [go_sem]) h fun e w h => SetR.drop h
        · skip
          cases y2 : userF o.node.gid
          · simp -dsimp -implicitDefEqProofs (disch := omega) only [go_sem, reqD_of, dec_t, dec_f, wrap_i64, wrap_u32, wrap_u64, wrap_u8]
            exact SetR.drop (SetR.err (out (by simp only [b7, x0, y0, Bool.not_true, Bool.and_false, Bool.or_false, x1, Bool.false_and, Bool.or_false, Bool.false_or, x2, y2, Bool.not_false, Bool.true_and, Bool.or_true, Bool.true_or])) (shut h))
          · simp -dsimp -implicitDefEqProofs (disch := omega) only [go_sem, reqD_of, dec_t, dec_f, wrap_i64, wrap_u32, wrap_u64, wrap_u8]
            refine (refHas_any hm (k := 3) (by omega) (c := 8) rfl h).mono ?_
            rintro e' w ⟨h, rfl⟩
            cases x3 : o.mask.testBit 3
            · simp -dsimp -implicitDefEqProofs (disch := omega) only [go_sem, reqD_of, dec_t, dec_f, wrap_i64, wrap_u32, wrap_u64, wrap_u8]
              exact rset_t8 ok hi hm hin.ok.mode hin.ok.atime hin.ok.mtime (by simp only [b7, x0, y0, Bool.not_true, Bool.and_false, Bool.or_false, x1, Bool.false_and, Bool.or_false, Bool.false_or, x2, y2, Bool.not_true, Bool.and_false, Bool.or_false, x3, Bool.false_and, Bool.or_false, Bool.false_or]) (by simp -dsimp -implicitDefEqProofs only [go_sem]) (by simp -dsimp -implicitDefEqProofs only [go_sem]) (by simp -dsimp -implicitDefEqProofs only [go_sem]) (by simp -dsimp -implicitDefEqProofs only [go_sem]) (by simp -dsimp -implicitDefEqProofs only [go_sem]) h fun e w h => SetR.drop h
            · skip
              cases y3 : userF o.node.muid
              · simp -dsimp -implicitDefEqProofs (disch := omega) only [go_sem, reqD_of, dec_t, dec_f, wrap_i64, wrap_u32, wrap_u64, wrap_u8]
                exact SetR.drop (SetR.err (out (by simp only [b7, x0, y0, Bool.not_true, Bool.and_false, Bool.or_false, x1, Bool.false_and, Bool.or_false, Bool.false_or, x2, y2, Bool.not_true, Bool.and_false, Bool.or_false, x3, y3, Bool.not_false, Bool.true_and, Bool.or_true, Bool.true_or])) (shut h))
              · simp -dsimp -implicitDefEqProofs (disch := omega) only [go_sem, reqD_of, dec_t, dec_f, wrap_i64, wrap_u32, wrap_u64, wrap_u8]
                exact rset_t8 ok hi hm hin.ok.mode hin.ok.atime hin.ok.mtime (by simp only [b7, x0, y0, Bool.not_true, Bool.and_false, Bool.or_false, x1, Bool.false_and, Bool.or_false, Bool.false_or, x2, y2, Bool.not_true, Bool.and_false, Bool.or_false, x3, y3, Bool.not_true, Bool.and_false, Bool.or_false]) (by simp -dsimp -implicitDefEqProofs only [go_sem]) (by simp -dsimp -implicitDefEqProofs only [go_sem]) (by simp -dsimp -implicitDefEqProofs only [go_sem]) (by simp -dsimp -implicitDefEqProofs only [go_sem]) (by simp -dsimp -implicitDefEqProofs only [go_sem]) h fun e w h => SetR.drop h
      · skip
        cases y1 : userF o.node.uid
        · simp -dsimp -implicitDefEqProofs (disch := omega) only [go_sem, reqD_of, dec_t, dec_f, wrap_i64, wrap_u32, wrap_u64, wrap_u8]
          exact SetR.drop (SetR.err (out (by simp only [b7, x0, y0, Bool.not_true, Bool.and_false, Bool.or_false, x1, y1, Bool.not_false, Bool.true_and, Bool.or_true, Bool.true_or])) (shut h))
        · simp -dsimp -implicitDefEqProofs (disch := omega) only [go_sem, reqD_of, dec_t, dec_f, wrap_i64, wrap_u32, wrap_u64, wrap_u8]
          refine (refHas_any hm (k := 2) (by omega) (c := 4) rfl h).mono ?_
          rintro e' w ⟨h, rfl⟩
          cases x2 : o.mask.testBit 2
          · simp -dsimp -implicitDefEqProofs (disch := omega) only [go_sem, reqD_of, dec_t, dec_f, wrap_i64, wrap_u32, wrap_u64, wrap_u8]
            refine (refHas_any hm (k := 3) (by omega) (c := 8) rfl h).mono ?_
            rintro e' w ⟨h, rfl⟩
            cases x3 : o.mask.testBit 3
            · simp -dsimp -implicitDefEqProofs (disch := omega) only [go_sem, reqD_of, dec_t, dec_f, wrap_i64, wrap_u32, wrap_u64, wrap_u8]
              exact rset_t8 ok hi hm hin.ok.mode hin.ok.atime hin.ok.mtime (by simp only [b7, x0, y0, Bool.not_true, Bool.and_false, Bool.or_false, x1, y1, Bool.not_true, Bool.and_false, Bool.or_false, x2, Bool.false_and, Bool.or_false, Bool.false_or, x3, Bool.false_and, Bool.or_false, Bool.false_or]) (by simp -dsimp -implicitDefEqProofs only [go_sem]) (by simp -dsimp -implicitDefEqProofs only [go_sem]) (by simp -dsimp -implicitDefEqProofs only [go_sem]) (by simp -dsimp -implicitDefEqProofs only [go_sem]) (by simp -dsimp -implicitDefEqProofs only [go_sem]) h fun e w h => SetR.drop h
            · skip
              cases y3 : userF o.node.muid
              · simp -dsimp -implicitDefEqProofs (disch := omega) only [go_sem, reqD_of, dec_t, dec_f, wrap_i64, wrap_u32, wrap_u64, wrap_u8]
                exact SetR.drop (SetR.err (out (by simp only [b7, x0, y0, Bool.not_true, Bool.and_false, Bool.or_false, x1, y1, Bool.not_true, Bool.and_false, Bool.or_false, x2, Bool.false_and, Bool.or_false, Bool.false_or, x3, y3, Bool.not_false, Bool.true_and, Bool.or_true, Bool.true_or])) (shut h))
              · simp -dsimp -implicitDefEqProofs (disch := omega) only [go_sem, reqD_of, dec_t, dec_f, wrap_i64, wrap_u32, wrap_u64, wrap_u8]
                exact rset_t8 ok hi hm hin.ok.mode hin.ok.atime hin.ok.mtime (by simp only [b7, x0, y0, Bool.not_true, Bool.and_false, Bool.or_false, x1, y1, Bool.not_true, Bool.and_false, Bool.or_false, x2, Bool.false_and, Bool.or_false, Bool.false_or, x3, y3, Bool.not_true, Bool.and_false, Bool.or_false]) (by simp -dsimp -implicitDefEqProofs only [go_sem]) (by simp -dsimp -implicitDefEqProofs only [go_sem]) (by simp -dsimp -implicitDefEqProofs only [go_sem]) (by simp -dsimp -implicitDefEqProofs only [go_sem]) (by simp -dsimp -implicitDefEqProofs only [go_sem]) h fun e w h => SetR.drop h
          · skip
            cases y2 : userF o.node.gid
            · simp -dsimp -implicitDefEqProofs (disch := omega) only [go_sem, reqD_of, dec_t, dec_f, wrap_i64, wrap_u32, wrap_u64, wrap_u8]
              exact SetR.drop (SetR.err (out (by simp only [b7, x0, y0, Bool.not_true, Bool.and_false, Bool.or_false, x1, y1, Bool.not_true, Bool.and_false, Bool.or_false, x2, y2, Bool.not_false, Bool.true_and, Bool.or_true, Bool.true_or])) (shut h))
            · simp -dsimp -implicitDefEqProofs (disch := omega) only [go_sem, reqD_of, dec_t, dec_f, wrap_i64, wrap_u32, wrap_u64, wrap_u8]
              refine (refHas_any hm (k := 3) (by omega) (c := 8) rfl h).mono ?_
              rintro e' w ⟨h, rfl⟩
              cases x3 : o.mask.testBit 3
              · simp -dsimp -implicitDefEqProofs (disch := omega) only [go_sem, reqD_of, dec_t, dec_f, wrap_i64, wrap_u32, wrap_u64, wrap_u8]
                exact rset_t8 ok hi hm hin.ok.mode hin.ok.atime hin.ok.mtime (by simp only [b7, x0, y0, Bool.not_true, Bool.and_false, Bool.or_false, x1, y1, Bool.not_true, Bool.and_false, Bool.or_false, x2, y2, Bool.not_true, Bool.and_false, Bool.or_false, x3, Bool.false_and, Bool.or_false, Bool.false_or]) (by simp -dsimp -implicitDefEqProofs only [go_sem]) (by simp -dsimp -implicitDefEqProofs only [go_sem]) (by simp -dsimp -implicitDefEqProofs only [go_sem]) (by simp -dsimp -implicitDefEqProofs only [go_sem]) (by simp -dsimp -implicitDefEqProofs only [go_sem]) h fun e w h => SetR.drop h
              · skip
                cases y3 : userF o.node.muid
                · simp -dsimp -implicitDefEqProofs (disch := omega) only [go_sem, reqD_of, dec_t, dec_f, wrap_i64, wrap_u32, wrap_u64, wrap_u8]
                  exact SetR.drop (SetR.err (out (by simp only [b7, x0, y0, Bool.not_true, Bool.and_false, Bool.or_false, x1, y1, Bool.not_true, Bool.and_false, Bool.or_false, x2, y2, Bool.not_true, Bool.and_false, Bool.or_false, x3, y3, Bool.not_false, Bool.true_and, Bool.or_true, Bool.true_or])) (shut h))
                · simp -dsimp -implicitDefEqProofs (disch := omega) only [go_sem, reqD_of, dec_t, dec_f, wrap_i64, wrap_u32, wrap_u64, wrap_u8]
                  exact rset_t8 ok hi hm hin.ok.mode hin.ok.atime hin.ok.mtime (by simp only [b7, x0, y0, Bool.not_true, Bool.and_false, Bool.or_false, x1, y1, Bool.not_true, Bool.and_false, Bool.or_false, x2, y2, Bool.not_true, Bool.and_false, Bool.or_false, x3, y3, Bool.not_true, Bool.and_false, Bool.or_false]) (by simp -dsimp -implicitDefEqProofs only [go_sem]) (by simp -dsimp -implicitDefEqProofs only [go_sem]) (by simp -dsimp -implicitDefEqProofs only [go_sem]) (by simp -dsimp -implicitDefEqProofs only [go_sem]) (by simp -dsimp -implicitDefEqProofs only [go_sem]) h fun e w h => SetR.drop h
end
end
end Go.Proofs.YtijnmokpihhhcaaGreatDoor

namespace Go.Proofs.YtijnmokpihhhcaaGreatDoor
open Go
set_option linter.unusedVariables false
set_option linter.unusedSimpArgs false
set_option maxRecDepth 100000

theorem map_erase {α β : Type} (f : α → β) : ∀ (l : List α) (i : Nat), (l.eraseIdx i).map f = (l.map f).eraseIdx i
  | [], i => by simp
  | x :: l, 0 => rfl
  | x :: l, i + 1 => by simp only [List.eraseIdx_cons_succ, List.map_cons, map_erase f l i]
theorem drop_erase {L : List NodeD} (hr : L.Pairwise fun a b => a.i.path < b.i.path) {i : Nat} (hi : i < L.length) : dropN L L[i].i.path = L.eraseIdx i := by
  have hs : L = L.take i ++ L[i] :: L.drop (i + 1) := by
    conv => lhs; rw [← List.take_append_drop i L, List.drop_eq_getElem_cons hi]
  have hne : ∀ m (hm : m < L.length), m ≠ i → (!(L[m].i.path == L[i].i.path)) = true := fun m hm hmi => by
    simp only [Bool.not_eq_true', beq_eq_false_iff_ne, ne_eq]
    intro e
    rcases Nat.lt_trichotomy m i with h | h | h
    · have := List.pairwise_iff_getElem.1 hr m i hm hi h; omega
    · exact hmi h
    · have := List.pairwise_iff_getElem.1 hr i m hi hm h; omega
  rw [List.eraseIdx_eq_take_drop_succ]
  obtain ⟨q, hq⟩ : ∃ q, q = L[i].i.path := ⟨_, rfl⟩
  rw [← hq] at hne ⊢
  have hf : ∀ (p : NodeD → Bool), L.filter p = (L.take i ++ L[i] :: L.drop (i + 1)).filter p := fun p => by rw [← hs]
  show L.filter _ = _
  rw [hf, List.filter_append, List.filter_cons_of_neg (by simp [hq])]
  congr 1
  · rw [List.filter_eq_self]
    intro x hx
    obtain ⟨m, hm, rfl⟩ := List.getElem_of_mem hx
    rw [List.getElem_take]
    exact hne m (by simp at hm; omega) (by simp at hm; omega)
  · rw [List.filter_eq_self]
    intro x hx
    obtain ⟨m, hm, rfl⟩ := List.getElem_of_mem hx
    rw [List.getElem_drop]
    exact hne _ (by simp at hm; omega) (by omega)
theorem without_len : ∀ {l : List Nat} {p : Nat}, l.Nodup → (l.filter fun k => !(k == p)).length = l.length - (if p ∈ l then 1 else 0)
  | [], p, _ => rfl
  | x :: l, p, h => by
    rw [List.nodup_cons] at h
    have ih := without_len (p := p) h.2
    by_cases hx : x = p
    · subst hx
      rw [List.filter_cons_of_neg (by simp), ih, if_neg h.1, if_pos List.mem_cons_self]
      simp
    · rw [List.filter_cons_of_pos (by simpa using hx), List.length_cons, ih]
      by_cases hp : p ∈ l
      · rw [if_pos hp, if_pos (List.mem_cons_of_mem _ hp)]
        have := List.length_pos_of_mem hp
        simp; omega
      · rw [if_neg hp, if_neg (by simp [hp]; exact fun e => hx e.symm)]; simp
/-- How many children are left. -/
theorem kids_left {s : SD} (h : Wf s) {n : NodeD} (hn : n ∈ s.L) (h1 : n.i.path ≠ 1) (q : Nat) : (((kidsF (dropN s.L n.i.path) q).length : Nat) : Int) = (kidsF s.L q).length - (if q = n.i.parent then 1 else 0) := by
  have hnd : (kidsF s.L q).Nodup := (kids_rise h q).imp (fun h => Nat.ne_of_lt h)
  have hm : n.i.path ∈ kidsF s.L q ↔ q = n.i.parent := by
    unfold kidsF
    rw [List.mem_map]
    constructor
    · rintro ⟨m, hm, e⟩
      rw [List.mem_filter] at hm
      have := rise_inj h.rise hm.1 hn e
      subst this
      exact ((isKid_iff h hn).1 hm.2).1.symm
    · rintro rfl
      exact ⟨n, List.mem_filter.2 ⟨hn, (isKid_iff h hn).2 ⟨rfl, h1⟩⟩, rfl⟩
  rw [kids_drop, without_len hnd]
  by_cases hq : q = n.i.parent
  · have := List.length_pos_of_mem (hm.2 hq)
    rw [if_pos (hm.2 hq), if_pos hq]
    omega
  · rw [if_neg (fun e => hq (hm.1 e)), if_neg hq]
    omega
/-- The pairs behind a drop. -/
theorem pairs_drop {s : SD} {X : List EV} (ok : RefOk s X) {i j : Nat} (hi : i < s.L.length) (hj : j < s.L.length) (h1 : s.L[i].i.path ≠ 1) (hp : s.L[j].i.path = s.L[i].i.parent) (hjX : j < X.length) :
    ((X.map (prOf s.L)).set j ({ (tellF s.L s.L[j]) with kids := (tellF s.L s.L[j]).kids - 1 }, X[j].v)).eraseIdx i = (X.eraseIdx i).map (prOf (dropN s.L s.L[i].i.path)) := by
  have hlen := ok.len
  have hXi : i < X.length := by omega
  rw [map_erase]
  refine List.ext_getElem (by rw [List.length_eraseIdx, List.length_eraseIdx]; simp) fun m h2 h3 => ?_
  have key : ∀ m (hm : m < X.length), m ≠ i → ((X.map (prOf s.L)).set j ({ (tellF s.L s.L[j]) with kids := (tellF s.L s.L[j]).kids - 1 }, X[j].v))[m]'(by simpa using hm) = (X.map (prOf (dropN s.L s.L[i].i.path)))[m]'(by simpa using hm) := fun m hm hmi => by
    have hmL : m < s.L.length := by omega
    have hk := kids_left ok.wf (List.getElem_mem hi) h1 s.L[m].i.path
    rw [List.getElem_set]
    by_cases hjm : j = m
    · subst hjm
      rw [if_pos rfl, List.getElem_map]
      unfold prOf
      rw [ok.at_ hm]
      rw [if_pos hp] at hk
      unfold tellF
      rw [hk]
    · rw [if_neg hjm, List.getElem_map, List.getElem_map]
      unfold prOf
      rw [ok.at_ hm]
      have hne : ¬ s.L[m].i.path = s.L[i].i.parent := fun e => by
        rw [← hp] at e
        rcases Nat.lt_trichotomy m j with h | h | h
        · have := List.pairwise_iff_getElem.1 ok.wf.rise m j hmL hj h; omega
        · exact hjm h.symm
        · have := List.pairwise_iff_getElem.1 ok.wf.rise j m hj hmL h; omega
      rw [if_neg hne] at hk
      unfold tellF
      rw [hk, Int.sub_zero]
  rw [List.getElem_eraseIdx, List.getElem_eraseIdx]
  have hm2 : m < X.length - 1 := by rw [List.length_eraseIdx] at h2; simp at h2; split at h2 <;> omega
  split
  · exact key m (by omega) (by omega)
  · exact key (m + 1) (by omega) (by omega)
theorem RefOk.drop {s : SD} {X : List EV} (ok : RefOk s X) {i : Nat} (hi : i < s.L.length) (hw : Wf { s with L := dropN s.L s.L[i].i.path }) : RefOk { s with L := dropN s.L s.L[i].i.path } (X.eraseIdx i) := by
  refine ⟨hw, ?_⟩
  show (X.eraseIdx i).map (·.d) = dropN s.L s.L[i].i.path
  rw [drop_erase ok.wf.rise hi, map_erase, ok.list]
end Go.Proofs.YtijnmokpihhhcaaGreatDoor

namespace Go.Proofs.YtijnmokpihhhcaaGreatDoor
open Go
set_option linter.unusedVariables false
set_option linter.unusedSimpArgs false
set_option maxRecDepth 100000

theorem enc2_cells (ps : List (Inf × Value)) (h : ∀ p ∈ ps, isCell p.2 = true) : ∀ u ∈ ps.flatMap enc2, isCell u = true := by
  intro u hu
  rw [List.mem_flatMap] at hu
  obtain ⟨p, hp, hu⟩ := hu
  unfold enc2 at hu
  rcases List.mem_append.1 hu with h1 | h1
  · exact infL_cells _ u h1
  · rw [List.mem_singleton] at h1; rw [h1]; exact h p hp
theorem enc2_take (ps : List (Inf × Value)) (k : Nat) : (ps.flatMap enc2).take (k * 14) = (ps.take k).flatMap enc2 := flatMap_take enc2_len ps k
theorem enc2_drop : ∀ (ps : List (Inf × Value)) (k : Nat), (ps.flatMap enc2).drop (k * 14) = (ps.drop k).flatMap enc2
  | [], k => by simp
  | p :: ps, 0 => by simp
  | p :: ps, k + 1 => by
    rw [List.flatMap_cons, show (k + 1) * 14 = (enc2 p).length + k * 14 by rw [enc2_len]; omega, List.drop_append, List.drop_eq_nil_of_le (by omega), List.nil_append, Nat.add_sub_cancel_left, enc2_drop ps k]
    rfl
section
variable {w0 w : World} {A : HP} {b i : Nat} {s : SD} {v : Value} {X : List EV}
theorem pair_cell (hlen : (X.length : Nat) ≤ 4096) (h : St w0 (starL bytesP X * A) w) : ∀ x ∈ X, isCell x.v = true := fun x hx => by
  obtain ⟨k, hk, rfl⟩ := List.getElem_of_mem hx
  rw [starL_out bytesP hk] at h
  have h2 : St w0 (RowBy X[k].v X[k].d.b * (starL bytesP (X.eraseIdx k) * A)) w := h.ac (by unfold bytesP; ac_rfl)
  obtain ⟨a, c, hv, _⟩ := h2.rowForm X[k].v
  rw [hv]; rfl
section
attribute [local go_sem] F40.t6_eq F40.t4_eq
theorem refDrop_any (ok : RefOk s X) (hi : i < s.L.length) (h : St w0 (RefB b s v * (RefL s.L v X * (starL bytesP X * A))) w) :
    Calls Tryz.prog 40 #[.pointer (some ⟨b, 0, none⟩), .int .i64 i] w fun e w' => St w0 (RefP b (delF s s.L[i]).1 * A) w' ∧ e = .returned (.int .i64 (delF s s.L[i]).2.2) := by
  have hlen := ok.len
  have hX : i < X.length := by rw [ok.len]; exact hi
  have hfw := ok.wf.few
  have hms := ok.wf.most
  have hcv : ∀ x ∈ X, isCell x.v = true := pair_cell (by omega) h.right.right
  have shut : ∀ {w} {B : HP}, St w0 (RefB b s v * (RefL s.L v X * (B * (starL bytesP X * A)))) w → St w0 (RefP b s * A) w := fun h => by
    have h2 := h.ent (Ent.sep (Ent.rfl' _) (Ent.sep (Ent.rfl' _) (Ent.right _ _)))
    rw [RefQ.as] at h2
    exact h2.ent (Ent.sep (RefP.shut ok) (Ent.rfl' _))
  obtain ⟨g, o, c, hiS, hv, prow, hc, _⟩ := h.entF ok hX
  refine F40.calls (by simp) ?_
  unfold F40.code
  subst hv
  simp -dsimp -implicitDefEqProofs (disch := omega) only [go_sem, reqD_of, dec_t, dec_f, wrap_i64, wrap_u32, wrap_u64, wrap_u8, h.cl b, prow]
  refine h.new fun D w1 h1 => ?_
  simp -dsimp -implicitDefEqProofs (disch := omega) only [go_sem, reqD_of, dec_t, dec_f, wrap_i64, wrap_u32, wrap_u64, wrap_u8]
  refine h1.stoAll (b := D) (cs := infL (tellF s.L s.L[i])) rfl rfl (infL_cells _) fun w2 h2 => ?_
  have d0 : w2.cell? ⟨D, 0, none⟩ = some (.int .u64 s.L[i].i.path) := (h2.cells) 0
  have d1 : w2.cell? ⟨D, 1, none⟩ = some (.int .u64 s.L[i].i.parent) := (h2.cells) 1
  have d12 : w2.cell? ⟨D, 12, none⟩ = some (.int .i64 ((kidsF s.L s.L[i].i.path).length : Nat)) := (h2.cells) 12
  have h3 : St w0 (RefB b s (.slice (some ⟨g, o, none⟩) X.length c) * (RefL s.L (.slice (some ⟨g, o, none⟩) X.length c) X * (infB D (tellF s.L s.L[i]) * (starL bytesP X * A)))) w2 := h2.ac (by simp only [infB]; ac_rfl)
  by_cases c1 : ((s.L[i].i.path : Nat) : Int) = 1
  · have hr : delF s s.L[i] = (s, 0, 81) := by unfold delF; rw [if_pos (by omega)]
    rw [hr]
    simp -dsimp -implicitDefEqProofs (disch := omega) only [go_sem, reqD_of, dec_t, dec_f, wrap_i64, wrap_u32, wrap_u64, wrap_u8, d0, c1]
    exact shut h3
  have hc1 : ¬ s.L[i].i.path = 1 := by omega
  by_cases c2 : (0 : Int) < ((kidsF s.L s.L[i].i.path).length : Nat)
  · have hr : delF s s.L[i] = (s, 0, 85) := by unfold delF; rw [if_neg hc1, if_pos (by omega)]
    rw [hr]
    simp -dsimp -implicitDefEqProofs (disch := omega) only [go_sem, reqD_of, dec_t, dec_f, wrap_i64, wrap_u32, wrap_u64, wrap_u8, d0, d12, c1, c2]
    exact shut h3
  have hc2 : ¬ 0 < (kidsF s.L s.L[i].i.path).length := by omega
  have hr : delF s s.L[i] = ({ s with L := dropN s.L s.L[i].i.path }, s.L[i].i.path, 0) := by unfold delF; rw [if_neg hc1, if_neg hc2]
  have hw := drop_wf ok.wf (List.getElem_mem hi) hc1 hc2
  rw [hr]
  simp -dsimp -implicitDefEqProofs (disch := omega) only [go_sem, reqD_of, dec_t, dec_f, wrap_i64, wrap_u32, wrap_u64, wrap_u8, d0, d1, d12, c1, c2]
  refine (refAt_any (p := s.L[i].i.parent) ok h3).mono ?_
  rintro e w3 ⟨h4, hq⟩
  obtain ⟨_, dd, hdd, _⟩ := ok.wf.up _ (List.getElem_mem hi) hc1
  rcases hq with ⟨hf, _⟩ | ⟨j, hj, hf, hp, rfl⟩
  · rw [hf] at hdd; cases hdd
  have hjX : j < X.length := by omega
  obtain ⟨g', o', c', _, hv', _, hcj, _⟩ := h4.entF ok hjX
  simp only [Value.slice.injEq, Option.some.injEq, Addr.mk.injEq, and_true, true_and] at hv'
  obtain ⟨⟨rfl, rfl⟩, rfl⟩ := hv'
  have c12 : w3.cell? ⟨g, o + j * 14 + 12, none⟩ = some (.int .i64 ((kidsF s.L s.L[j].i.path).length : Nat)) := hcj 12 (by decide)
  have hkl : (kidsF s.L s.L[j].i.path).length ≤ 4096 := by
    have : (kidsF s.L s.L[j].i.path).length ≤ s.L.length := by unfold kidsF; rw [List.length_map]; exact List.length_filter_le _ _
    omega
  simp -dsimp -implicitDefEqProofs (disch := omega) only [go_sem, reqD_of, dec_t, dec_f, wrap_i64, wrap_u32, wrap_u64, wrap_u8, h4.cl b, c12]
  rw [Nat.add_assoc o]
  refine h4.rowSet1 (g := g) (o := o) (n := X.length) (c := c) (k := j * 14 + 12) (v := .int .i64 (((kidsF s.L s.L[j].i.path).length : Nat) - 1)) (by rw [flatMap_length (entC_len _)]; omega) rfl fun w4 h5 => ?_
  have hpj : (X.map (prOf s.L))[j]'(by simpa using hjX) = (tellF s.L s.L[j], X[j].v) := by rw [List.getElem_map, prOf, ok.at_ hjX]
  rw [ents_pairs, pair_set (i := j) (j := 12) (by simpa using hjX) (by decide) (p' := ({ (tellF s.L s.L[j]) with kids := (tellF s.L s.L[j]).kids - 1 }, X[j].v)) (by rw [hpj]; rfl)] at h5
  obtain ⟨ps, hps⟩ : ∃ ps, ps = (X.map (prOf s.L)).set j ({ (tellF s.L s.L[j]) with kids := (tellF s.L s.L[j]).kids - 1 }, X[j].v) := ⟨_, rfl⟩
  have hpd := pairs_drop ok hi hj hc1 hp hjX
  rw [← hps] at h5 hpd
  have hpl : ps.length = X.length := by rw [hps]; simp
  have hpc : ∀ p ∈ ps, isCell p.2 = true := fun p hp => by
    rw [hps] at hp
    rcases List.mem_or_eq_of_mem_set hp with h | h
    · rw [List.mem_map] at h
      obtain ⟨x, hx, rfl⟩ := h
      exact hcv x hx
    · rw [h]; exact hcv _ (List.getElem_mem hjX)
  obtain ⟨ar, cr, hvr, hcap⟩ := h5.right.rowForm (.slice (some ⟨g, o, none⟩) X.length c)
  simp only [Value.slice.injEq, true_and] at hvr
  obtain ⟨rfl, rfl⟩ := hvr
  simp -dsimp -implicitDefEqProofs (disch := omega) only [go_sem, reqD_of, dec_t, dec_f, wrap_i64, wrap_u32, wrap_u64, wrap_u8, h5.cl b]
  have r1 := (h5.right.left.ent (RowO.reads _ _ _ _ _)).ent (Reads.sub (lo := 0) (k := i) (by omega))
  simp only [Nat.zero_mul, Option.map_some, add_lit, Nat.add_zero, Nat.sub_zero, List.drop_zero] at r1
  rw [enc2_take] at r1
  have hil : (ps.take i).length = i := by simp; omega
  refine (h5.nilR 81 14).appendO rowTy_ent (r1.rd.src Tryz.underlying82 (enc2_cells _ fun p hp => hpc p (List.mem_of_mem_take hp)) (fun hh => ?_)) (by simp [maxLen]; omega) (by omega) fun v5 w5 h6 => ?_
  · have := congrArg List.length hh
    rw [flatMap_length enc2_len, hil] at this
    simp at this; omega
  rw [Nat.zero_add, List.nil_append] at h6
  obtain ⟨al, cl, hvl, _⟩ := h6.rowForm v5
  simp -dsimp -implicitDefEqProofs (disch := omega) only [go_sem, reqD_of, dec_t, dec_f, wrap_i64, wrap_u32, wrap_u64, wrap_u8, h6.cl b]
  have r2 := (h6.right.right.left.ent (RowO.reads _ _ _ _ _)).ent (Reads.sub (lo := i + 1) (k := X.length - (i + 1)) (by omega))
  rw [enc2_drop, List.take_of_length_le (by rw [flatMap_length enc2_len]; simp; omega)] at r2
  simp only [Option.map_some, add_lit] at r2
  have e1 : ((i : Int) + 1).toNat = i + 1 := by omega
  rw [e1]
  refine h6.appendO rowTy_ent (r2.rd.src Tryz.underlying82 (enc2_cells _ fun p hp => hpc p (List.mem_of_mem_drop hp)) (fun hh => ?_)) (by simp [maxLen]; omega) (by omega) fun v6 w6 h7 => ?_
  · have := congrArg List.length hh
    rw [flatMap_length enc2_len] at this
    simp at this; omega
  have hn : i + (X.length - (i + 1)) = (X.eraseIdx i).length := by rw [List.length_eraseIdx, if_pos hX]; omega
  rw [← List.flatMap_append, ← List.eraseIdx_eq_take_drop_succ, hpd, ← ents_pairs, hn] at h7
  obtain ⟨a6, c6, hv6, _⟩ := h7.rowForm v6
  simp -dsimp -implicitDefEqProofs (disch := omega) only [go_sem, reqD_of, dec_t, dec_f, wrap_i64, wrap_u32, wrap_u64, wrap_u8, h7.cl b]
  refine h7.sto (by simp) (by rw [hv6]; rfl) fun w7 h8 => ?_
  simp only [List.setIfInBounds_toArray, List.set_cons_succ, List.set_cons_zero] at h8
  simp -dsimp -implicitDefEqProofs (disch := omega) only [go_sem, reqD_of, dec_t, dec_f, wrap_i64, wrap_u32, wrap_u64, wrap_u8]
  rw [starL_out bytesP hX] at h8
  have h9 : St w0 (RefQ b { s with L := dropN s.L s.L[i].i.path } v6 (X.eraseIdx i) * A) w7 := by
    rw [← RefQ.as]
    have h10 := h8.ent (Ent.sep (Ent.rfl' _) (Ent.sep (Ent.rfl' _) ((Ent.right _ _).trans ((Ent.right _ _).trans (Ent.sep (Ent.right _ _) (Ent.rfl' _))))))
    exact h10.sw2
  exact h9.ent (Ent.sep (RefP.shut (ok.drop hi hw)) (Ent.rfl' _))
end
end
end Go.Proofs.YtijnmokpihhhcaaGreatDoor

namespace Go.Proofs.YtijnmokpihhhcaaGreatDoor
open Go
set_option linter.unusedVariables false
set_option linter.unusedSimpArgs false
set_option maxRecDepth 100000

theorem fresh_kid {s : SD} {n : NodeD} (h : Wf s) (hn : n ∈ s.L) (t : Inf) (q : Nat) : isKid q (freshN s n.i.path t) = (n.i.path == q) := by
  have := (h.below _ hn).2
  unfold isKid freshN
  simp only
  have : (s.next == n.i.path) = false := by simp; omega
  rw [this]; simp
theorem kids_more {s : SD} {n : NodeD} (h : Wf s) (hn : n ∈ s.L) (t : Inf) (q : Nat) : (((kidsF (s.L ++ [freshN s n.i.path t]) q).length : Nat) : Int) = (kidsF s.L q).length + (if q = n.i.path then 1 else 0) := by
  rw [kids_app, fresh_kid h hn]
  by_cases hq : q = n.i.path
  · subst hq
    rw [if_pos (by simp), if_pos rfl, List.length_append]
    simp
  · rw [if_neg (by simp; exact fun e => hq e.symm), if_neg hq]
    simp
theorem kids_fresh {s : SD} {n : NodeD} (h : Wf s) (hn : n ∈ s.L) (t : Inf) : kidsF (s.L ++ [freshN s n.i.path t]) s.next = [] := by
  have := (h.below _ hn).2
  rw [kids_app, fresh_kid h hn, if_neg (by simp; omega)]
  unfold kidsF
  rw [List.filter_eq_nil_iff.2]
  · rfl
  · intro m hm hk
    have hk2 := (isKid_iff h hm).1 hk
    have := (h.up m hm hk2.2).1
    have := (h.below m hm).2
    omega
theorem pairs_make {s : SD} {X : List EV} (ok : RefOk s X) {i : Nat} (hi : i < s.L.length) (hX : i < X.length) (t : Inf) :
    ((X.map (prOf s.L)).set i ({ (tellF s.L s.L[i]) with kids := (tellF s.L s.L[i]).kids + 1 }, X[i].v)) ++ [((freshN s s.L[i].i.path t).i, .slice none 0 0)] = (X ++ [(⟨freshN s s.L[i].i.path t, .slice none 0 0⟩ : EV)]).map (prOf (s.L ++ [freshN s s.L[i].i.path t])) := by
  have hlen := ok.len
  rw [List.map_append]
  congr 1
  · refine List.ext_getElem (by simp) fun m h2 h3 => ?_
    have hm : m < X.length := by simpa using h2
    have hmL : m < s.L.length := by omega
    have hk := kids_more ok.wf (List.getElem_mem hi) t s.L[m].i.path
    rw [List.getElem_set]
    by_cases him : i = m
    · subst him
      rw [if_pos rfl, List.getElem_map]
      unfold prOf
      rw [ok.at_ hm]
      rw [if_pos rfl] at hk
      unfold tellF
      rw [hk]
    · rw [if_neg him, List.getElem_map, List.getElem_map]
      unfold prOf
      rw [ok.at_ hm]
      have hne : ¬ s.L[m].i.path = s.L[i].i.path := fun e => by
        rcases Nat.lt_trichotomy m i with h | h | h
        · have := List.pairwise_iff_getElem.1 ok.wf.rise m i hmL hi h; omega
        · exact him h.symm
        · have := List.pairwise_iff_getElem.1 ok.wf.rise i m hi hmL h; omega
      rw [if_neg hne] at hk
      unfold tellF
      rw [hk, Int.add_zero]
  · unfold prOf tellF
    have hk := kids_fresh ok.wf (List.getElem_mem hi) t
    simp only [List.map_cons, List.map_nil]
    rw [show (freshN s s.L[i].i.path t).i.path = s.next from rfl, hk]
    rfl
theorem RefOk.make {s : SD} {X : List EV} (ok : RefOk s X) {n : NodeD} {t : Inf} (hw : Wf { s with next := s.next + 1, L := s.L ++ [freshN s n.i.path t] }) : RefOk { s with next := s.next + 1, L := s.L ++ [freshN s n.i.path t] } (X ++ [(⟨freshN s n.i.path t, .slice none 0 0⟩ : EV)]) := by
  refine ⟨hw, ?_⟩
  show (X ++ [(⟨freshN s n.i.path t, .slice none 0 0⟩ : EV)]).map (·.d) = s.L ++ [freshN s n.i.path t]
  rw [List.map_append, ok.list]
  rfl
theorem four_swap {a b c d e : HP} : a * (b * (c * (d * e))) = b * (c * ((a * d) * e)) := by ac_rfl
section
variable {w0 w : World} {A : HP} {b i : Nat} {s : SD} {v vd : Value} {X : List EV} {o : OpD}
section
attribute [local go_sem] F39.t17_eq F39.t15_eq F39.t12_eq F39.t9_eq F39.t4_eq
theorem refMake_any (ok : RefOk s X) (hi : i < s.L.length) (hin : OpIn o) (hp : s.L[i].i.path = o.path) (hnext : s.next < 9223372036854775808) (hw : Wf (makeF s s.L[i] o.node).1) (h : St w0 (RefB b s v * (RefL s.L v X * (starL bytesP X * A))) w) :
    Calls Tryz.prog 39 #[.pointer (some ⟨b, 0, none⟩), .int .i64 i, .agg (opL o vd).toArray] w fun e w' => St w0 (RefP b (makeF s s.L[i] o.node).1 * A) w' ∧ e = .returned (.tuple #[.int .u64 (makeF s s.L[i] o.node).2.1, .int .i64 (makeF s s.L[i] o.node).2.2]) := by
  have hm := hin.mask
  have q1 := hin.uid
  have q2 := hin.gid
  have q3 := hin.muid
  have q4 := hin.nname
  have hlen := ok.len
  have hX : i < X.length := by rw [ok.len]; exact hi
  have hfw := ok.wf.few
  have hms := ok.wf.most
  have shut : ∀ {w} {B C : HP}, St w0 (RefB b s v * (RefL s.L v X * (B * (starL bytesP X * (C * A))))) w → St w0 (RefP b s * A) w := fun h => by
    have h2 := h.ent (Ent.sep (Ent.rfl' _) (Ent.sep (Ent.rfl' _) ((Ent.right _ _).trans (Ent.sep (Ent.rfl' _) (Ent.right _ _)))))
    rw [RefQ.as] at h2
    exact h2.ent (Ent.sep (RefP.shut ok) (Ent.rfl' _))
  refine F39.calls (by simp) ?_
  unfold F39.code
  simp -dsimp -implicitDefEqProofs (disch := omega) only [go_sem, reqD_of, dec_t, dec_f, wrap_i64, wrap_u32, wrap_u64, wrap_u8]
  refine h.new fun B w1 h1 => ?_
  have p1 : rowV w1 ⟨B, 4, none⟩ 13 = some (.agg (infL o.node).toArray) := h1.rowAtH B 4 13 (Nat.le_of_ble_eq_true rfl)
  simp -dsimp -implicitDefEqProofs (disch := omega) only [go_sem, reqD_of, dec_t, dec_f, wrap_i64, wrap_u32, wrap_u64, wrap_u8, p1]
  refine h1.new fun D w2 h2 => ?_
  simp -dsimp -implicitDefEqProofs (disch := omega) only [go_sem, reqD_of, dec_t, dec_f, wrap_i64, wrap_u32, wrap_u64, wrap_u8]
  refine h2.stoAll (b := D) (cs := infL o.node) rfl rfl (infL_cells _) fun w3 h3 => ?_
  have h4 : St w0 (RefB b s v * (RefL s.L v X * (infB D o.node * (starL bytesP X * (opB B o vd * A))))) w3 := h3.ac (by simp only [infB, opB]; ac_rfl)
  obtain ⟨g, q, c, hiS, hv, prow, hc, _⟩ := h4.entF ok hX
  subst hv
  simp -dsimp -implicitDefEqProofs (disch := omega) only [go_sem, reqD_of, dec_t, dec_f, wrap_i64, wrap_u32, wrap_u64, wrap_u8, h4.cl b, prow]
  refine (refDir_any h4).mono ?_
  rintro e w4 ⟨h5, rfl⟩
  rw [show (tellF s.L s.L[i]).mode = s.L[i].i.mode from rfl]
  cases hdir : dirF s.L[i].i.mode with
  | false =>
    have hr : makeF s s.L[i] o.node = (s, 0, 81) := by unfold makeF; rw [hdir]; rfl
    rw [hr]
    simp -dsimp -implicitDefEqProofs (disch := omega) only [go_sem, reqD_of, dec_t, dec_f, wrap_i64, wrap_u32, wrap_u64, wrap_u8]
    exact shut h5
  | true =>
    simp -dsimp -implicitDefEqProofs (disch := omega) only [go_sem, reqD_of, dec_t, dec_f, wrap_i64, wrap_u32, wrap_u64, wrap_u8, h5.cl D]
    refine (refUser_any h5 (l := o.node.uid) (by omega)).mono ?_
    rintro e w5 ⟨h6, rfl⟩
    simp -dsimp -implicitDefEqProofs (disch := omega) only [go_sem, reqD_of, dec_t, dec_f, wrap_i64, wrap_u32, wrap_u64, wrap_u8, h6.cl D]
    refine (refUser_any h6 (l := o.node.gid) (by omega)).mono ?_
    rintro e w6 ⟨h7, rfl⟩
    simp -dsimp -implicitDefEqProofs (disch := omega) only [go_sem, reqD_of, dec_t, dec_f, wrap_i64, wrap_u32, wrap_u64, wrap_u8, h7.cl D]
    refine (refUser_any h7 (l := o.node.muid) (by omega)).mono ?_
    rintro e w7 ⟨h8, rfl⟩
    simp -dsimp -implicitDefEqProofs (disch := omega) only [go_sem, reqD_of, dec_t, dec_f, wrap_i64, wrap_u32, wrap_u64, wrap_u8, h8.cl D]
    refine (refMode_any hin.ok.mode h8).mono ?_
    rintro e w8 ⟨h9, rfl⟩
    have bad : (modeF o.node.mode && userF o.node.uid && userF o.node.gid && userF o.node.muid) = false → makeF s s.L[i] o.node = (s, 0, 1) := fun hx => by unfold makeF; rw [hdir, hx]; rfl
    cases x0 : modeF o.node.mode
    · rw [bad (by rw [x0]; rfl)]
      simp -dsimp -implicitDefEqProofs (disch := omega) only [go_sem, reqD_of, dec_t, dec_f, wrap_i64, wrap_u32, wrap_u64, wrap_u8]
      exact shut h9
    cases x1 : userF o.node.uid
    · rw [bad (by rw [x1]; simp)]
      simp -dsimp -implicitDefEqProofs (disch := omega) only [go_sem, reqD_of, dec_t, dec_f, wrap_i64, wrap_u32, wrap_u64, wrap_u8]
      exact shut h9
    cases x2 : userF o.node.gid
    · rw [bad (by rw [x2]; simp)]
      simp -dsimp -implicitDefEqProofs (disch := omega) only [go_sem, reqD_of, dec_t, dec_f, wrap_i64, wrap_u32, wrap_u64, wrap_u8]
      exact shut h9
    cases x3 : userF o.node.muid
    · rw [bad (by rw [x3]; simp)]
      simp -dsimp -implicitDefEqProofs (disch := omega) only [go_sem, reqD_of, dec_t, dec_f, wrap_i64, wrap_u32, wrap_u64, wrap_u8]
      exact shut h9
    have gd : (modeF o.node.mode && userF o.node.uid && userF o.node.gid && userF o.node.muid) = true := by rw [x0, x1, x2, x3]; rfl
    simp -dsimp -implicitDefEqProofs (disch := omega) only [go_sem, reqD_of, dec_t, dec_f, wrap_i64, wrap_u32, wrap_u64, wrap_u8, h9.cl D]
    refine (refCheckN_any h9 o.node.name (by omega)).mono ?_
    rintro e w9 ⟨h10, rfl⟩
    cases hok : okName o.node.name with
    | false =>
      have hr : makeF s s.L[i] o.node = (s, 0, 50) := by unfold makeF; rw [hdir, gd, hok]; rfl
      rw [hr]
      simp only [Bool.false_eq_true, if_false]
      simp -dsimp -implicitDefEqProofs (disch := omega) only [go_sem, reqD_of, dec_t, dec_f, wrap_i64, wrap_u32, wrap_u64, wrap_u8]
      exact shut h10
    | true =>
      simp only [if_true]
      have b1 : w9.cell? ⟨B, 1, none⟩ = some (.int .u64 o.path) := (h10.cl B) 1
      have d2 : w9.cell? ⟨D, 2, none⟩ = some (.string (strOf o.node.name)) := (h10.cl D) 2
      simp -dsimp -implicitDefEqProofs (disch := omega) only [go_sem, reqD_of, dec_t, dec_f, wrap_i64, wrap_u32, wrap_u64, wrap_u8, b1, d2]
      refine (refChild_any (p := o.path) (nm := o.node.name) ok h10).mono ?_
      rintro e w10 ⟨h11, rfl⟩
      cases hch : childF s.L o.path o.node.name with
      | some z =>
        have hr : makeF s s.L[i] o.node = (s, 0, 82) := by unfold makeF; rw [hdir, gd, hok, hp, hch]; rfl
        rw [hr]
        simp only
        simp -dsimp -implicitDefEqProofs (disch := omega) only [go_sem, reqD_of, dec_t, dec_f, wrap_i64, wrap_u32, wrap_u64, wrap_u8]
        exact shut h11
      | none =>
        simp only
        by_cases hfull : (s.most : Int) ≤ (X.length : Nat)
        · have hr : makeF s s.L[i] o.node = (s, 0, 83) := by
            unfold makeF; rw [hdir, gd, hok, hp, hch]
            simp only [Bool.not_true, Bool.false_eq_true, if_false, Option.isSome_none]
            rw [if_pos (by omega)]
          rw [hr]
          simp -dsimp -implicitDefEqProofs (disch := omega) only [go_sem, reqD_of, dec_t, dec_f, wrap_i64, wrap_u32, wrap_u64, wrap_u8, h11.cl b, h11.drew.cl b, hfull]
          exact shut h11.drew
        have hr : makeF s s.L[i] o.node = ({ s with next := s.next + 1, L := s.L ++ [freshN s s.L[i].i.path o.node] }, s.next, 0) := by
            unfold makeF; rw [hdir, gd, hok, hp, hch]
            simp only [Bool.not_true, Bool.false_eq_true, if_false, Option.isSome_none]
            rw [if_neg (by omega)]
            rfl
        rw [hr] at hw ⊢
        simp -dsimp -implicitDefEqProofs (disch := omega) only [go_sem, reqD_of, dec_t, dec_f, wrap_i64, wrap_u32, wrap_u64, wrap_u8, h11.cl b, h11.drew.cl b, hfull]
        rw [show ((s.next : Int) + 1) = ((s.next + 1 : Nat) : Int) by omega]
        refine h11.drew.sto (by simp) rfl fun w11 h12 => ?_
        simp only [List.setIfInBounds_toArray, List.set_cons_succ, List.set_cons_zero] at h12
        have h13 : St w0 (RefB b { s with next := s.next + 1 } (.slice (some ⟨g, q, none⟩) X.length c) * (RefL s.L (.slice (some ⟨g, q, none⟩) X.length c) X * (infB D o.node * (starL bytesP X * (opB B o vd * A))))) w11 := h12
        obtain ⟨g', q', c', hv', _, hci⟩ := h13.entAt (s := { s with next := s.next + 1 }) hX
        simp only [Value.slice.injEq, Option.some.injEq, Addr.mk.injEq, and_true, true_and] at hv'
        obtain ⟨⟨rfl, rfl⟩, rfl⟩ := hv'
        have c12 : w11.cell? ⟨g, q + i * 14 + 12, none⟩ = some (.int .i64 ((kidsF s.L s.L[i].i.path).length : Nat)) := by
          have := hci 12 (by decide)
          rw [show entC s.L X[i] = infL (tellF s.L X[i].d) ++ [X[i].v] from rfl, ok.at_ hX] at this
          exact this
        have hkl : (kidsF s.L s.L[i].i.path).length ≤ 4096 := by
          have : (kidsF s.L s.L[i].i.path).length ≤ s.L.length := by unfold kidsF; rw [List.length_map]; exact List.length_filter_le _ _
          omega
        simp -dsimp -implicitDefEqProofs (disch := omega) only [go_sem, reqD_of, dec_t, dec_f, wrap_i64, wrap_u32, wrap_u64, wrap_u8, h13.cl b, c12]
        rw [Nat.add_assoc q]
        refine h13.rowSet1 (g := g) (o := q) (n := X.length) (c := c) (k := i * 14 + 12) (v := .int .i64 (((kidsF s.L s.L[i].i.path).length : Nat) + 1)) (by rw [flatMap_length (entC_len _)]; omega) rfl fun w12 h14 => ?_
        have hpi : (X.map (prOf s.L))[i]'(by simpa using hX) = (tellF s.L s.L[i], X[i].v) := by rw [List.getElem_map, prOf, ok.at_ hX]
        rw [ents_pairs, pair_set (i := i) (j := 12) (by simpa using hX) (by decide) (p' := ({ (tellF s.L s.L[i]) with kids := (tellF s.L s.L[i]).kids + 1 }, X[i].v)) (by rw [hpi]; rfl)] at h14
        have hpm := pairs_make ok hi hX o.node
        obtain ⟨ps, hps⟩ : ∃ ps, ps = (X.map (prOf s.L)).set i ({ (tellF s.L s.L[i]) with kids := (tellF s.L s.L[i]).kids + 1 }, X[i].v) := ⟨_, rfl⟩
        rw [← hps] at h14 hpm
        obtain ⟨nd, hnd⟩ : ∃ nd, nd = freshN s s.L[i].i.path o.node := ⟨_, rfl⟩
        rw [← hnd] at hw hpm ⊢
        have hD := h14.drew
        simp -dsimp -implicitDefEqProofs (disch := omega) only [go_sem, reqD_of, dec_t, dec_f, wrap_i64, wrap_u32, wrap_u64, wrap_u8, hD.cl b, hD.cl B, hD.cl D]
        refine onV_of (v := .agg (infL (freshN s o.path o.node).i).toArray) (by kernel_rfl) ?_
        rw [show freshN s o.path o.node = nd by rw [hnd, hp]]
        simp -dsimp -implicitDefEqProofs (disch := omega) only [go_sem, reqD_of, dec_t, dec_f, wrap_i64, wrap_u32, wrap_u64, wrap_u8, hD.cl b, hD.cl B, hD.cl D]
        refine onV_of (v := .agg (entL nd.i (.slice none 0 0)).toArray) (by kernel_rfl) ?_
        simp -dsimp -implicitDefEqProofs (disch := omega) only [go_sem, reqD_of, dec_t, dec_f, wrap_i64, wrap_u32, wrap_u64, wrap_u8, hD.cl b, hD.cl B, hD.cl D]
        refine hD.lit (t := 82) (n := 1) (cells := entL nd.i (.slice none 0 0)) rowTy_ent (by kernel_rfl) (by decide) (by decide) fun v2 w13 h15 => ?_
        simp -dsimp -implicitDefEqProofs (disch := omega) only [go_sem, reqD_of, dec_t, dec_f, wrap_i64, wrap_u32, wrap_u64, wrap_u8, h15.cl b, h15.cl B, h15.cl D]
        refine h15.appR (v := .slice (some ⟨g, q, none⟩) X.length c) (x := v2) rowTy_ent Tryz.underlying82 (enc2_cells [(nd.i, .slice none 0 0)] (by simp [isCell])) (by simp [entL]) (by simp [maxLen]; omega) (by omega) fun v3 w14 h16 => ?_
        obtain ⟨a6, c6, hv6, _⟩ := h16.rowForm v3
        simp -dsimp -implicitDefEqProofs (disch := omega) only [go_sem, reqD_of, dec_t, dec_f, wrap_i64, wrap_u32, wrap_u64, wrap_u8, h16.cl b, h16.cl B, h16.cl D]
        refine h16.sto (by simp) (by rw [hv6]; rfl) fun w15 h17 => ?_
        simp only [List.setIfInBounds_toArray, List.set_cons_succ, List.set_cons_zero] at h17
        simp -dsimp -implicitDefEqProofs (disch := omega) only [go_sem, reqD_of, dec_t, dec_f, wrap_i64, wrap_u32, wrap_u64, wrap_u8]
        have hfl : ps.flatMap enc2 ++ entL nd.i (.slice none 0 0) = (X ++ [(⟨nd, .slice none 0 0⟩ : EV)]).flatMap (entC (s.L ++ [nd])) := by
          rw [ents_pairs, ← hpm, List.flatMap_append]
          rfl
        have hst : starL bytesP (X ++ [(⟨nd, .slice none 0 0⟩ : EV)]) = RowO 5 1 (.slice none 0 0) 0 [] * starL bytesP X := by
          rw [starL_split, List.append_nil]
          have hb : nd.b = [] := by rw [hnd]; rfl
          unfold bytesP
          show RowO _ _ _ nd.b.length (nd.b.map bv) * _ = _
          rw [hb]; rfl
        have h18 : St w0 (RefB b { s with next := s.next + 1 } v3 * (RowO 81 14 v3 (X.length + 1) (ps.flatMap enc2 ++ entL nd.i (.slice none 0 0)) * (starL bytesP X * A))) w15 := h17.right.ent (Ent.sep (Ent.rfl' _) (Ent.sep (Ent.rfl' _) ((Ent.right _ _).trans (Ent.sep (Ent.rfl' _) (Ent.right _ _)))))
        rw [hfl] at h18
        have h19 := h18.nilR 5 1
        have h20 : St w0 (RefQ b { s with next := s.next + 1, L := s.L ++ [nd] } v3 (X ++ [(⟨nd, .slice none 0 0⟩ : EV)]) * A) w15 := by
          rw [← RefQ.as, hst]
          show St w0 (_ * (RowO _ _ _ (X ++ [_]).length _ * _)) w15
          rw [List.length_append, List.length_singleton]
          exact h19.ac four_swap
        have okn : RefOk { s with next := s.next + 1, L := s.L ++ [nd] } (X ++ [(⟨nd, .slice none 0 0⟩ : EV)]) := by
          rw [hnd] at hw ⊢
          exact ok.make hw
        exact h20.ent (Ent.sep (RefP.shut okn) (Ent.rfl' _))
end
end
end Go.Proofs.YtijnmokpihhhcaaGreatDoor

namespace Go.Proofs.YtijnmokpihhhcaaGreatDoor
open Go
set_option linter.unusedVariables false
set_option linter.unusedSimpArgs false
set_option maxRecDepth 100000

theorem del_code (s : SD) (n : NodeD) : (delF s n).2.1 = if (delF s n).2.2 = 0 then n.i.path else 0 := by
  unfold delF
  split
  · rfl
  · split <;> rfl
theorem call_code (s : SD) (n : NodeD) (nm : List UInt8) : (callF s n nm).2.1 = if (callF s n nm).2.2 = 0 then n.i.path else 0 := by
  unfold callF
  split
  · rfl
  · split
    · rfl
    · split
      · split <;> rfl
      · rfl
theorem setF_err {m x : Nat} {t n : Inf} (h : setF m t n = .error x) : x ≠ 0 := by
  unfold setF at h
  split at h
  · cases h; decide
  · split at h
    · cases h; decide
    · cases h
theorem cutF_err {k x : Nat} {n : NodeD} (h : cutF k n = .error x) : x ≠ 0 := by
  unfold cutF at h
  split at h
  · cases h; decide
  · split at h
    · cases h; decide
    · cases h
theorem bytesF_err {k x : Nat} {d : List UInt8} {n : NodeD} (h : bytesF k d n = .error x) : x ≠ 0 := by
  unfold bytesF at h
  split at h
  · cases h; decide
  · split at h
    · cases h; decide
    · split at h
      · cases h; decide
      · cases h
theorem opensF_err {k : Int} {x : Nat} {n : Inf} (h : opensF k n = .error x) : x ≠ 0 := by
  unfold opensF at h
  split at h
  · cases h; decide
  · cases h
section
variable {w0 w : World} {A : HP} {b i B : Nat} {s : SD} {v vd : Value} {X : List EV} {o : OpD}
section
attribute [local go_sem] F11.t24_eq F11.t22_eq F11.t6_eq F11.t3_eq
theorem refdo_t22 {e : FA} {r : SD × Nat × Nat} (hr : doF s o = r) (hc : r.2.1 = if r.2.2 = 0 then o.path else 0) (hd : e.ds = []) (e3 : e.ρ 3 = .pointer (some ⟨B, 0, none⟩)) (e7 : e.ρ 7 = .int .i64 r.2.2)
    (h : St w0 (RefP b r.1 * (opB B o vd * A)) w) :
    cwE Tryz.prog F11.t22 (fnP Tryz.prog #[.tmp 4, .tmp 5] fun e w' => St w0 (RefP b (doF s o).1 * A) w' ∧ e = .returned (.tuple #[.int .u64 (doF s o).2.1, .int .i64 (doF s o).2.2])) e w := by
  have h' : St w0 (RefP b r.1 * A) w := h.ent (Ent.sep (Ent.rfl' _) (Ent.right _ _))
  rw [F11.t22_eq, hr, hc]
  by_cases c : r.2.2 = 0
  · rw [if_pos c]
    have c' : (r.2.2 : Int) = 0 := by omega
    rw [c'] at e7
    have b1 : w.cell? ⟨B, 1, none⟩ = some (.int .u64 o.path) := (h.cl B) 1
    simp -dsimp -implicitDefEqProofs (disch := omega) only [go_sem, reqD_of, dec_t, dec_f, wrap_i64, wrap_u32, wrap_u64, wrap_u8, hd, e3, e7, b1, c']
    exact h'
  · rw [if_neg c]
    have c' : ¬ (r.2.2 : Int) = 0 := by omega
    simp -dsimp -implicitDefEqProofs (disch := omega) only [go_sem, reqD_of, dec_t, dec_f, wrap_i64, wrap_u32, wrap_u64, wrap_u8, hd, e3, e7, c']
    exact h'
end
section
attribute [local go_sem] F11.t24_eq F11.t6_eq F11.t3_eq
set_option maxHeartbeats 1000000 in
theorem refDo_any [Gives A (RdB vd o.data)] (hin : OpIn o) (hkind : o.kind < 256) (hnext : s.next < 9223372036854775808) (h : St w0 (RefP b s * A) w) :
    Calls Tryz.prog 11 #[.pointer (some ⟨b, 0, none⟩), .agg (opL o vd).toArray] w fun e w' => St w0 (RefP b (doF s o).1 * A) w' ∧ e = .returned (.tuple #[.int .u64 (doF s o).2.1, .int .i64 (doF s o).2.2]) := by
  obtain ⟨v, X, ok, h⟩ := h.refO
  have hoff := hin.offset
  have hwf := do_wf ok.wf hin.ok
  have drop2 : ∀ {w} {s : SD} {Y : HP}, St w0 (RefP b s * (Y * A)) w → St w0 (RefP b s * A) w := fun h => h.ent (Ent.sep (Ent.rfl' _) (Ent.right _ _))
  refine F11.calls (by simp) ?_
  unfold F11.code
  simp -dsimp -implicitDefEqProofs (disch := omega) only [go_sem, reqD_of, dec_t, dec_f, wrap_i64, wrap_u32, wrap_u64, wrap_u8]
  refine h.new fun B w1 h1 => ?_
  have h2 : St w0 (RefB b s v * (RefL s.L v X * (starL bytesP X * (opB B o vd * A)))) w1 := h1.ac (by simp only [opB]; ac_rfl)
  have shut : ∀ {w}, St w0 (RefB b s v * (RefL s.L v X * (starL bytesP X * (opB B o vd * A)))) w → St w0 (RefP b s * A) w := fun h => by
    rw [RefQ.as] at h
    exact drop2 (h.ent (Ent.sep (RefP.shut ok) (Ent.rfl' _)))
  by_cases k0 : o.kind < 1 ∨ 7 < o.kind
  · have hr : doF s o = (s, 0, 1) := by unfold doF; rw [if_pos k0]
    rw [hr]
    by_cases ka : (o.kind : Int) < 1
    · simp -dsimp -implicitDefEqProofs (disch := omega) only [go_sem, reqD_of, dec_t, dec_f, wrap_i64, wrap_u32, wrap_u64, wrap_u8, h2.cl B, ka]
      exact shut h2
    · have kb : (7 : Int) < o.kind := by omega
      simp -dsimp -implicitDefEqProofs (disch := omega) only [go_sem, reqD_of, dec_t, dec_f, wrap_i64, wrap_u32, wrap_u64, wrap_u8, h2.cl B, ka, kb]
      exact shut h2
  have ka : ¬ (o.kind : Int) < 1 := by omega
  have kb : ¬ (7 : Int) < o.kind := by omega
  simp -dsimp -implicitDefEqProofs (disch := omega) only [go_sem, reqD_of, dec_t, dec_f, wrap_i64, wrap_u32, wrap_u64, wrap_u8, h2.cl B, ka, kb]
  refine (refAt_any (p := o.path) ok h2).mono ?_
  rintro e w3 ⟨h3, hq⟩
  rcases hq with ⟨hf, rfl⟩ | ⟨j, hj, hf, hp, rfl⟩
  · have hr : doF s o = (s, 0, 80) := by unfold doF; rw [if_neg k0, hf]
    rw [hr]
    simp -dsimp -implicitDefEqProofs (disch := omega) only [go_sem, reqD_of, dec_t, dec_f, wrap_i64, wrap_u32, wrap_u64, wrap_u8]
    exact shut h3
  have hjl : (j : Int) < 9223372036854775807 := by have := ok.wf.few; have := ok.wf.most; omega
  rcases (by omega : o.kind = 1 ∨ o.kind = 2 ∨ o.kind = 3 ∨ o.kind = 4 ∨ o.kind = 5 ∨ o.kind = 6 ∨ o.kind = 7) with k | k | k | k | k | k | k
  · have hr : doF s o = makeF s s.L[j] o.node := by unfold doF; rw [if_neg k0, hf]; simp only [k, if_true]
    have k1 : (o.kind : Int) = 1 := by omega
    rw [hr] at hwf ⊢
    have hrow := h3.rowH B 20 rfl
    simp -dsimp -implicitDefEqProofs (disch := omega) only [go_sem, reqD_of, dec_t, dec_f, wrap_i64, wrap_u32, wrap_u64, wrap_u8, h3.cl B, hrow, k1]
    refine (refMake_any (vd := vd) ok hj hin hp hnext hwf h3).mono ?_
    rintro e w4 ⟨h4, rfl⟩
    simp -dsimp -implicitDefEqProofs (disch := omega) only [go_sem, reqD_of, dec_t, dec_f, wrap_i64, wrap_u32, wrap_u64, wrap_u8]
    exact drop2 h4
  · have hr : doF s o = delF s s.L[j] := by unfold doF; rw [if_neg k0, hf]; simp (config := { decide := true }) only [k, if_true, if_false]
    have k1 : ¬ (o.kind : Int) = 1 := by omega
    have k2 : (o.kind : Int) = 2 := by omega
    have hc := del_code s s.L[j]
    rw [hp] at hc
    simp -dsimp -implicitDefEqProofs (disch := omega) only [go_sem, reqD_of, dec_t, dec_f, wrap_i64, wrap_u32, wrap_u64, wrap_u8, h3.cl B, k1, k2]
    refine (refDrop_any ok hj h3).mono ?_
    rintro e w4 ⟨h4, rfl⟩
    simp -dsimp -implicitDefEqProofs (disch := omega) only [go_sem, reqD_of, dec_t, dec_f, wrap_i64, wrap_u32, wrap_u64, wrap_u8]
    exact refdo_t22 hr hc (by simp -dsimp -implicitDefEqProofs only [go_sem]) (by simp -dsimp -implicitDefEqProofs only [go_sem]) (by simp -dsimp -implicitDefEqProofs only [go_sem]) h4
  · have hr : doF s o = callF s s.L[j] o.name := by unfold doF; rw [if_neg k0, hf]; simp (config := { decide := true }) only [k, if_true, if_false]
    have k1 : ¬ (o.kind : Int) = 1 := by omega
    have k2 : ¬ (o.kind : Int) = 2 := by omega
    have k3 : (o.kind : Int) = 3 := by omega
    have hc := call_code s s.L[j] o.name
    rw [hp] at hc
    have b2 : w3.cell? ⟨B, 2, none⟩ = some (.string (strOf o.name)) := (h3.cl B) 2
    simp -dsimp -implicitDefEqProofs (disch := omega) only [go_sem, reqD_of, dec_t, dec_f, wrap_i64, wrap_u32, wrap_u64, wrap_u8, h3.cl B, b2, k1, k2, k3]
    refine (refName_any ok hj hin.name (by rw [← hr]; exact hwf) h3).mono ?_
    rintro e w4 ⟨h4, rfl⟩
    simp -dsimp -implicitDefEqProofs (disch := omega) only [go_sem, reqD_of, dec_t, dec_f, wrap_i64, wrap_u32, wrap_u64, wrap_u8]
    exact refdo_t22 hr hc (by simp -dsimp -implicitDefEqProofs only [go_sem]) (by simp -dsimp -implicitDefEqProofs only [go_sem]) (by simp -dsimp -implicitDefEqProofs only [go_sem]) h4
  · have hr : doF s o = oneF s o.path (infoF s.L[j] (setF o.mask o.node s.L[j].i)) := by unfold doF; rw [if_neg k0, hf]; simp (config := { decide := true }) only [k, if_true, if_false]
    have k1 : ¬ (o.kind : Int) = 1 := by omega
    have k2 : ¬ (o.kind : Int) = 2 := by omega
    have k3 : ¬ (o.kind : Int) = 3 := by omega
    have k4 : (o.kind : Int) = 4 := by omega
    have hrow := h3.rowH B 20 rfl
    simp -dsimp -implicitDefEqProofs (disch := omega) only [go_sem, reqD_of, dec_t, dec_f, wrap_i64, wrap_u32, wrap_u64, wrap_u8, h3.cl B, hrow, k1, k2, k3, k4]
    refine (refSet_any (vd := vd) ok hj hin h3).mono ?_
    intro e w4 hq
    unfold SetR at hq
    cases hs : setF o.mask o.node s.L[j].i with
    | error x =>
      rw [hs] at hq hr
      obtain ⟨h4, rfl⟩ := hq
      simp -dsimp -implicitDefEqProofs (disch := omega) only [go_sem, reqD_of, dec_t, dec_f, wrap_i64, wrap_u32, wrap_u64, wrap_u8]
      exact refdo_t22 hr (by show 0 = if x = 0 then _ else 0; rw [if_neg (setF_err hs)]) (by simp -dsimp -implicitDefEqProofs only [go_sem]) (by simp -dsimp -implicitDefEqProofs only [go_sem]) (by simp -dsimp -implicitDefEqProofs only [go_sem]; rfl) h4
    | ok z =>
      rw [hs] at hq hr
      obtain ⟨h4, rfl⟩ := hq
      simp -dsimp -implicitDefEqProofs (disch := omega) only [go_sem, reqD_of, dec_t, dec_f, wrap_i64, wrap_u32, wrap_u64, wrap_u8]
      rw [hp] at h4
      exact refdo_t22 hr rfl (by simp -dsimp -implicitDefEqProofs only [go_sem]) (by simp -dsimp -implicitDefEqProofs only [go_sem]) (by simp -dsimp -implicitDefEqProofs only [go_sem]; rfl) h4
  · have hr : doF s o = oneF s o.path (cutF o.offset s.L[j]) := by unfold doF; rw [if_neg k0, hf]; simp (config := { decide := true }) only [k, if_true, if_false]
    have k1 : ¬ (o.kind : Int) = 1 := by omega
    have k2 : ¬ (o.kind : Int) = 2 := by omega
    have k3 : ¬ (o.kind : Int) = 3 := by omega
    have k4 : ¬ (o.kind : Int) = 4 := by omega
    have k5 : (o.kind : Int) = 5 := by omega
    have b5 : w3.cell? ⟨B, 17, none⟩ = some (.int .u64 o.offset) := (h3.cl B) 17
    simp -dsimp -implicitDefEqProofs (disch := omega) only [go_sem, reqD_of, dec_t, dec_f, wrap_i64, wrap_u32, wrap_u64, wrap_u8, h3.cl B, b5, k1, k2, k3, k4, k5]
    refine (refCut_any ok hj hoff h3).mono ?_
    intro e w4 hq
    cases hs : cutF o.offset s.L[j] with
    | error x =>
      rw [hs] at hq hr
      obtain ⟨h4, rfl⟩ := hq
      simp -dsimp -implicitDefEqProofs (disch := omega) only [go_sem, reqD_of, dec_t, dec_f, wrap_i64, wrap_u32, wrap_u64, wrap_u8]
      exact refdo_t22 hr (by show 0 = if x = 0 then _ else 0; rw [if_neg (cutF_err hs)]) (by simp -dsimp -implicitDefEqProofs only [go_sem]) (by simp -dsimp -implicitDefEqProofs only [go_sem]) (by simp -dsimp -implicitDefEqProofs only [go_sem]; rfl) h4
    | ok z =>
      rw [hs] at hq hr
      obtain ⟨h4, rfl⟩ := hq
      simp -dsimp -implicitDefEqProofs (disch := omega) only [go_sem, reqD_of, dec_t, dec_f, wrap_i64, wrap_u32, wrap_u64, wrap_u8]
      rw [hp] at h4
      exact refdo_t22 hr rfl (by simp -dsimp -implicitDefEqProofs only [go_sem]) (by simp -dsimp -implicitDefEqProofs only [go_sem]) (by simp -dsimp -implicitDefEqProofs only [go_sem]; rfl) h4
  · have hr : doF s o = oneF s o.path (bytesF o.offset o.data s.L[j]) := by unfold doF; rw [if_neg k0, hf]; simp (config := { decide := true }) only [k, if_true, if_false]
    have k1 : ¬ (o.kind : Int) = 1 := by omega
    have k2 : ¬ (o.kind : Int) = 2 := by omega
    have k3 : ¬ (o.kind : Int) = 3 := by omega
    have k4 : ¬ (o.kind : Int) = 4 := by omega
    have k5 : ¬ (o.kind : Int) = 5 := by omega
    have k6 : (o.kind : Int) = 6 := by omega
    have hrow := h3.rowH B 20 rfl
    simp -dsimp -implicitDefEqProofs (disch := omega) only [go_sem, reqD_of, dec_t, dec_f, wrap_i64, wrap_u32, wrap_u64, wrap_u8, h3.cl B, hrow, k1, k2, k3, k4, k5, k6]
    refine (refBytes_any (vd := vd) ok hj hin h3).mono ?_
    intro e w4 hq
    cases hs : bytesF o.offset o.data s.L[j] with
    | error x =>
      rw [hs] at hq hr
      obtain ⟨h4, rfl⟩ := hq
      simp -dsimp -implicitDefEqProofs (disch := omega) only [go_sem, reqD_of, dec_t, dec_f, wrap_i64, wrap_u32, wrap_u64, wrap_u8]
      exact refdo_t22 hr (by show 0 = if x = 0 then _ else 0; rw [if_neg (bytesF_err hs)]) (by simp -dsimp -implicitDefEqProofs only [go_sem]) (by simp -dsimp -implicitDefEqProofs only [go_sem]) (by simp -dsimp -implicitDefEqProofs only [go_sem]; rfl) h4
    | ok z =>
      rw [hs] at hq hr
      obtain ⟨h4, rfl⟩ := hq
      simp -dsimp -implicitDefEqProofs (disch := omega) only [go_sem, reqD_of, dec_t, dec_f, wrap_i64, wrap_u32, wrap_u64, wrap_u8]
      rw [hp] at h4
      exact refdo_t22 hr rfl (by simp -dsimp -implicitDefEqProofs only [go_sem]) (by simp -dsimp -implicitDefEqProofs only [go_sem]) (by simp -dsimp -implicitDefEqProofs only [go_sem]; rfl) h4
  · have hr : doF s o = oneF s o.path (infoF s.L[j] (opensF o.n s.L[j].i)) := by unfold doF; rw [if_neg k0, hf]; simp (config := { decide := true }) only [k, if_true, if_false]
    have k1 : ¬ (o.kind : Int) = 1 := by omega
    have k2 : ¬ (o.kind : Int) = 2 := by omega
    have k3 : ¬ (o.kind : Int) = 3 := by omega
    have k4 : ¬ (o.kind : Int) = 4 := by omega
    have k5 : ¬ (o.kind : Int) = 5 := by omega
    have k6 : ¬ (o.kind : Int) = 6 := by omega
    have k7 : (o.kind : Int) = 7 := by omega
    have b7 : w3.cell? ⟨B, 19, none⟩ = some (.int .i64 o.n) := (h3.cl B) 19
    simp -dsimp -implicitDefEqProofs (disch := omega) only [go_sem, reqD_of, dec_t, dec_f, wrap_i64, wrap_u32, wrap_u64, wrap_u8, h3.cl B, b7, k1, k2, k3, k4, k5, k6, k7]
    refine (refOpens_any ok hj ⟨hin.n0, hin.n1⟩ h3).mono ?_
    intro e w4 hq
    cases hs : opensF o.n s.L[j].i with
    | error x =>
      rw [hs] at hq hr
      obtain ⟨h4, rfl⟩ := hq
      simp -dsimp -implicitDefEqProofs (disch := omega) only [go_sem, reqD_of, dec_t, dec_f, wrap_i64, wrap_u32, wrap_u64, wrap_u8]
      exact refdo_t22 hr (by show 0 = if x = 0 then _ else 0; rw [if_neg (opensF_err hs)]) (by simp -dsimp -implicitDefEqProofs only [go_sem]) (by simp -dsimp -implicitDefEqProofs only [go_sem]) (by simp -dsimp -implicitDefEqProofs only [go_sem]; rfl) h4
    | ok z =>
      rw [hs] at hq hr
      obtain ⟨h4, rfl⟩ := hq
      simp -dsimp -implicitDefEqProofs (disch := omega) only [go_sem, reqD_of, dec_t, dec_f, wrap_i64, wrap_u32, wrap_u64, wrap_u8]
      rw [hp] at h4
      exact refdo_t22 hr rfl (by simp -dsimp -implicitDefEqProofs only [go_sem]) (by simp -dsimp -implicitDefEqProofs only [go_sem]) (by simp -dsimp -implicitDefEqProofs only [go_sem]; rfl) h4
end
end
end Go.Proofs.YtijnmokpihhhcaaGreatDoor

namespace Go.Proofs.YtijnmokpihhhcaaGreatDoor
open Go
set_option linter.unusedVariables false
set_option linter.unusedSimpArgs false
set_option maxRecDepth 100000

theorem bytes_cells (l : List UInt8) : ∀ x ∈ l.map bv, isCell x = true := by
  intro x hx
  obtain ⟨b, _, rfl⟩ := List.mem_map.1 hx
  rfl
section
variable {w0 w : World} {A : HP} {b : Nat} {s : SD}
/-- The store of the root alone. -/
theorem St.refOne {c : CfgD} {v : Value} (hc : CfgIn c) (hok : newOk c = true) (h : St w0 (RefOne b v c * A) w) : St w0 (RefP b ⟨c.nodes.toNat, 2, [rootD c]⟩ * A) w := by
  obtain ⟨g1, g2, g3⟩ : userF c.owner = true ∧ userF c.group = true ∧ (¬ (c.nodes < 1 ∨ 4096 < c.nodes ∨ 511 < c.perm) ∧ c.owner ≠ [] ∧ c.group ≠ []) := by
    unfold newOk at hok
    simp only [Bool.and_eq_true, decide_eq_true_eq] at hok
    exact ⟨hok.1.1, hok.1.2, hok.2⟩
  have hw := root_wf hc (by intro hh; exact g3.1 (by omega)) g1 g2
  have ok : RefOk ⟨c.nodes.toNat, 2, [rootD c]⟩ [⟨rootD c, .slice none 0 0⟩] := ⟨hw, rfl⟩
  have hk : (tellF [rootD c] (rootD c)) = (rootD c).i := rfl
  have hn : ((c.nodes.toNat : Nat) : Int) = c.nodes := by omega
  have h1 : St w0 ((RowO 5 1 (.slice none 0 0) 0 [] * EmpH) * (RefOne b v c * A)) w := ((h.ent (Ent.embL _)).nilR 5 1).ac (by ac_rfl)
  have h2 : St w0 (RefQ b ⟨c.nodes.toNat, 2, [rootD c]⟩ v [⟨rootD c, .slice none 0 0⟩] * A) w := by
    have e : RefQ b ⟨c.nodes.toNat, 2, [rootD c]⟩ v [⟨rootD c, .slice none 0 0⟩] = RefOne b v c * (RowO 5 1 (.slice none 0 0) 0 [] * EmpH) := by
      show (Blk b (.cells #[.int .i64 (c.nodes.toNat : Nat), .int .u64 2, v] 84 (0, 0)) * (RowO 81 14 v 1 (entC [rootD c] ⟨rootD c, .slice none 0 0⟩ ++ []) * (RowO 5 1 (.slice none 0 0) 0 [] * EmpH))) = _
      rw [hn, List.append_nil]
      show _ = (Blk b _ * RowO 81 14 v 1 (entC [rootD c] ⟨rootD c, .slice none 0 0⟩)) * _
      rw [sep_assoc]
    rw [e]
    exact h1.ac (by ac_rfl)
  exact h2.ent (Ent.sep (RefP.shut ok) (Ent.rfl' _))
theorem new_code {c : CfgD} (hc : CfgIn c) : newF c = if newOk c then .ok ⟨c.nodes.toNat, 2, [rootD c]⟩ else .error 1 := newF_eq hc
theorem refNew_full {c : CfgD} (hc : CfgIn c) (h : St w0 A w) :
    Calls Tryz.prog 9 #[.agg (cfgL c).toArray] w fun e w' =>
      if newOk c then ∃ b, St w0 (RefP b ⟨c.nodes.toNat, 2, [rootD c]⟩ * A) w' ∧ e = .returned (.tuple #[.pointer (some ⟨b, 0, none⟩), .int .i64 0])
      else St w0 A w' ∧ e = .returned (.tuple #[.pointer none, .int .i64 1]) := by
  refine (refNew_any hc h).mono ?_
  intro e w1 hq
  cases hok : newOk c with
  | false => rw [hok] at hq; exact hq
  | true =>
    rw [hok] at hq
    obtain ⟨b, v, h1, rfl⟩ := hq
    exact ⟨b, h1.refOne hc hok, rfl⟩

section
attribute [local go_sem] F85.t7_eq F85.t4_eq
theorem refRead_any {p off : Nat} {k : Int} (hoff : off < 18446744073709551616) (hk : -9223372036854775808 ≤ k ∧ k ≤ 9223372036854775807) (h : St w0 (RefP b s * A) w) :
    Calls Tryz.prog 85 #[.pointer (some ⟨b, 0, none⟩), .int .u64 p, .int .u64 off, .int .i64 k] w fun e w' => ∃ v', St w0 (RowBy v' (readS s p off k) * (RefP b s * A)) w' ∧ e = .returned v' := by
  obtain ⟨v, X, ok, h⟩ := h.refO
  have shut : ∀ {w} {Y : HP}, St w0 (RefB b s v * (RefL s.L v X * (starL bytesP X * Y))) w → St w0 (RefP b s * Y) w := fun h => by
    rw [RefQ.as] at h
    exact h.ent (Ent.sep (RefP.shut ok) (Ent.rfl' _))
  refine F85.calls (by simp) ?_
  unfold F85.code
  simp -dsimp -implicitDefEqProofs (disch := omega) only [go_sem, reqD_of, dec_t, dec_f, wrap_i64, wrap_u32, wrap_u64, wrap_u8]
  refine (refAt_any (p := p) ok h).mono ?_
  rintro e w2 ⟨h3, ⟨hf, rfl⟩ | ⟨j, hj, hf, hp, rfl⟩⟩
  · have hr : readS s p off k = [] := by unfold readS; rw [hf]
    rw [hr]
    simp -dsimp -implicitDefEqProofs (disch := omega) only [go_sem, reqD_of, dec_t, dec_f, wrap_i64, wrap_u32, wrap_u64, wrap_u8]
    exact ⟨.slice none 0 0, (shut h3).nilR _ _, rfl⟩
  have hjX : j < X.length := by rw [ok.len]; exact hj
  have hr : readS s p off k = readF s.L[j] off k := by unfold readS; rw [hf]
  rw [hr]
  have hf1 := ok.wf.few
  have hf2 := ok.wf.most
  have hfb := (ok.wf.ok _ (List.getElem_mem hj)).few
  by_cases hk0 : k ≤ 0
  · have hn : readF s.L[j] off k = [] := by unfold readF; rw [if_pos hk0]
    rw [hn]
    simp -dsimp -implicitDefEqProofs (disch := omega) only [go_sem, reqD_of, dec_t, dec_f, wrap_i64, wrap_u32, wrap_u64, wrap_u8, hk0]
    exact ⟨.slice none 0 0, (shut h3).nilR _ _, rfl⟩
  obtain ⟨g, o, c, hiS, hv, _, _, c13⟩ := h3.entF ok hjX
  subst hv
  have hst := starL_out bytesP hjX
  have hvi : bytesP X[j] = RowBy X[j].v s.L[j].b := by unfold bytesP; rw [ok.at_ hjX]
  rw [hvi] at hst
  obtain ⟨u, hu⟩ : ∃ u, u = X[j].v := ⟨_, rfl⟩
  rw [← hu] at hst c13
  have h4 : St w0 (RowBy u s.L[j].b * (RefB b s (.slice (some ⟨g, o, none⟩) X.length c) * (RefL s.L (.slice (some ⟨g, o, none⟩) X.length c) X * (starL bytesP (X.eraseIdx j) * A)))) w2 := h3.ac (by rw [hst]; ac_rfl)
  obtain ⟨au, cu, hvu, _, hcu, hcm⟩ := h4.rowForm u
  rw [hvu] at c13 h4
  by_cases ho : (s.L[j].b.length : Int) ≤ off
  · have hn : readF s.L[j] off k = [] := by
      unfold readF
      rw [if_neg hk0, List.drop_eq_nil_of_le (by omega), List.take_nil]
    rw [hn]
    simp -dsimp -implicitDefEqProofs (disch := omega) only [go_sem, reqD_of, dec_t, dec_f, wrap_i64, wrap_u32, wrap_u64, wrap_u8, hk0, h3.cl b, c13, ho]
    exact ⟨.slice none 0 0, (shut h3).nilR _ _, rfl⟩
  have hlo : off < s.L[j].b.length := by omega
  have hrow : St w0 (Reads 1 (.slice au s.L[j].b.length cu) s.L[j].b.length (s.L[j].b.map bv)) w2 := h4.left.ent (RowO.reads _ _ _ _ _)
  have back : ∀ {w} {Y : HP}, St w0 (Y * (RowBy (.slice au s.L[j].b.length cu) s.L[j].b * (RefB b s (.slice (some ⟨g, o, none⟩) X.length c) * (RefL s.L (.slice (some ⟨g, o, none⟩) X.length c) X * (starL bytesP (X.eraseIdx j) * A))))) w → St w0 (Y * (RefP b s * A)) w := fun h => by
    have h := h.ac (show _ = RefB b s (.slice (some ⟨g, o, none⟩) X.length c) * (RefL s.L (.slice (some ⟨g, o, none⟩) X.length c) X * (starL bytesP X * (_ * A))) by rw [hst, ← hvu]; ac_rfl)
    exact (shut h).ac (by ac_rfl)
  simp -dsimp -implicitDefEqProofs (disch := omega) only [go_sem, reqD_of, dec_t, dec_f, wrap_i64, wrap_u32, wrap_u64, wrap_u8, hk0, h3.cl b, c13, ho]
  by_cases c1 : k < (s.L[j].b.length - off : Nat)
  · have hn : readF s.L[j] off k = (s.L[j].b.drop off).take k.toNat := by unfold readF; rw [if_neg hk0]
    have r := Reads.sub (s := 1) (n := s.L[j].b.length) (lo := off) (k := k.toNat) (c := cu) (a := au) (xs := s.L[j].b.map bv) (by omega)
    rw [Nat.mul_one, Nat.mul_one, ← List.map_drop, ← List.map_take] at r
    have hl : ((s.L[j].b.drop off).take k.toNat).length = k.toNat := by simp; omega
    rw [hn]
    simp -dsimp -implicitDefEqProofs (disch := omega) only [go_sem, reqD_of, dec_t, dec_f, wrap_i64, wrap_u32, wrap_u64, wrap_u8, c1]
    have h5 := h4.nilR 5 1
    refine h5.app (v := .slice none 0 0) (m := k.toNat) (news := ((s.L[j].b.drop off).take k.toNat).map bv) fact_rowTy_43 ((Ent.right _ _).trans ((Ent.left _ _).trans ((RowO.reads _ _ _ _ _).trans r))) Tryz.underlying43 (bytes_cells _) (fun hh => by have := congrArg List.length hh; rw [List.length_map, hl] at this; exact this) (by simp only [maxLen]; omega) (by omega) fun v2 w3 h6 => ?_
    simp -dsimp -implicitDefEqProofs (disch := omega) only [go_sem, reqD_of, dec_t, dec_f, wrap_i64, wrap_u32, wrap_u64, wrap_u8]
    refine ⟨v2, back ?_, rfl⟩
    rw [Nat.zero_add, List.nil_append] at h6
    show St w0 (RowO _ _ _ ((s.L[j].b.drop off).take k.toNat).length _ * _) w3
    rw [hl]
    exact h6
  · have hn : readF s.L[j] off k = s.L[j].b.drop off := by unfold readF; rw [if_neg hk0, List.take_of_length_le (by simp; omega)]
    have r := Reads.sub (s := 1) (n := s.L[j].b.length) (lo := off) (k := s.L[j].b.length - off) (c := cu) (a := au) (xs := s.L[j].b.map bv) (by omega)
    rw [Nat.mul_one, Nat.mul_one, ← List.map_drop, ← List.map_take, List.take_of_length_le (by simp)] at r
    have hl : (s.L[j].b.drop off).length = s.L[j].b.length - off := by simp
    rw [hn]
    simp -dsimp -implicitDefEqProofs (disch := omega) only [go_sem, reqD_of, dec_t, dec_f, wrap_i64, wrap_u32, wrap_u64, wrap_u8, c1]
    have h5 := h4.nilR 5 1
    refine h5.app (v := .slice none 0 0) (m := s.L[j].b.length - off) (news := (s.L[j].b.drop off).map bv) fact_rowTy_43 ((Ent.right _ _).trans ((Ent.left _ _).trans ((RowO.reads _ _ _ _ _).trans r))) Tryz.underlying43 (bytes_cells _) (fun hh => by have := congrArg List.length hh; rw [List.length_map, hl] at this; exact this) (by simp only [maxLen]; omega) (by omega) fun v2 w3 h6 => ?_
    simp -dsimp -implicitDefEqProofs (disch := omega) only [go_sem, reqD_of, dec_t, dec_f, wrap_i64, wrap_u32, wrap_u64, wrap_u8]
    refine ⟨v2, back ?_, rfl⟩
    rw [Nat.zero_add, List.nil_append] at h6
    show St w0 (RowO _ _ _ (s.L[j].b.drop off).length _ * _) w3
    rw [hl]
    exact h6
end
end
end Go.Proofs.YtijnmokpihhhcaaGreatDoor

namespace Go.Proofs.YtijnmokpihhhcaaGreatDoor
open Go
set_option linter.unusedVariables false
set_option linter.unusedSimpArgs false
set_option maxRecDepth 100000

theorem storeOk : newOk (storeCfg 100) = true := by decide
theorem storeEq : (⟨(storeCfg 100).nodes.toNat, 2, [rootD (storeCfg 100)]⟩ : SD) = storeF 100 := rfl
abbrev ptrR (K b : Nat) : HP := Blk K (.cells #[.pointer (some ⟨b, 0, none⟩)] 29 (0, 0))
abbrev intC (K : Nat) (z : Int) : HP := Blk K (.cells #[.int .i64 z] 3 (0, 0))
abbrev uC (K : Nat) (z : Nat) : HP := Blk K (.cells #[.int .u64 z] 34 (0, 0))
abbrev boolC (K : Nat) (z : Bool) : HP := Blk K (.cells #[.bool z] 4 (0, 0))
/-- What NodesAll owns on the way. -/
abbrev AllB (b rb T6 T7 C4 B3 : Nat) (va : Value) (s : SD) (A : HP) : HP :=
  StoreP b 0 0 s * (RefP rb s * (Blk T6 (.cells #[.pointer (some ⟨b, 0, none⟩)] 27 (0, 0)) * (Blk T7 (.cells #[.pointer (some ⟨rb, 0, none⟩)] 29 (0, 0)) * (boolC C4 false * (Blk B3 (.cells #[va] 23 (0, 0)) * A)))))
theorem AllB.up {b rb T6 T7 C4 B3 : Nat} {va : Value} {s : SD} {A : HP} : Ent (AllB b rb T6 T7 C4 B3 va s A) A := (Ent.right _ _).trans ((Ent.right _ _).trans ((Ent.right _ _).trans ((Ent.right _ _).trans ((Ent.right _ _).trans (Ent.right _ _)))))
/-- What NodesAll owns in a round. -/
abbrev RW (T10 T11 T12 T6 T7 C4 B3 b rb K : Nat) (va : Value) (last a : Nat) (s : SD) (A : HP) : HP :=
  uC T10 last * (intC T11 a * (StoreP b 0 0 s * (RefP rb s * (ptrS K b * (Blk T12 (.cells #[.func (.func 46) #[] #[.pointer (some ⟨K, 0, none⟩)]] 47 (0, 0)) * (Blk T6 (.cells #[.pointer (some ⟨b, 0, none⟩)] 27 (0, 0)) * (Blk T7 (.cells #[.pointer (some ⟨rb, 0, none⟩)] 29 (0, 0)) * (boolC C4 false * (Blk B3 (.cells #[va] 23 (0, 0)) * A)))))))))
/-- .. but the library's own. -/
abbrev RV (T10 T11 T12 T6 T7 C4 B3 b rb K : Nat) (va : Value) (last a : Nat) (s : SD) (A : HP) : HP :=
  uC T10 last * (intC T11 a * (RefP rb s * (Blk T12 (.cells #[.func (.func 46) #[] #[.pointer (some ⟨K, 0, none⟩)]] 47 (0, 0)) * (Blk T6 (.cells #[.pointer (some ⟨b, 0, none⟩)] 27 (0, 0)) * (Blk T7 (.cells #[.pointer (some ⟨rb, 0, none⟩)] 29 (0, 0)) * (boolC C4 false * (Blk B3 (.cells #[va] 23 (0, 0)) * A)))))))
theorem RW.as {T10 T11 T12 T6 T7 C4 B3 b rb K : Nat} {va : Value} {last a : Nat} {s : SD} {A : HP} : RW T10 T11 T12 T6 T7 C4 B3 b rb K va last a s A = StoreP b 0 0 s * (ptrS K b * RV T10 T11 T12 T6 T7 C4 B3 b rb K va last a s A) := by unfold RW RV; ac_rfl
theorem RV.up {T10 T11 T12 T6 T7 C4 B3 b rb K : Nat} {va : Value} {last a : Nat} {s : SD} {A : HP} : Ent (RV T10 T11 T12 T6 T7 C4 B3 b rb K va last a s A) A :=
  (Ent.right _ _).trans ((Ent.right _ _).trans ((Ent.right _ _).trans ((Ent.right _ _).trans ((Ent.right _ _).trans ((Ent.right _ _).trans ((Ent.right _ _).trans (Ent.right _ _)))))))
theorem RW.up {T10 T11 T12 T6 T7 C4 B3 b rb K : Nat} {va : Value} {last a : Nat} {s : SD} {A : HP} : Ent (RW T10 T11 T12 T6 T7 C4 B3 b rb K va last a s A) A :=
  (Ent.right _ _).trans ((Ent.right _ _).trans ((Ent.right _ _).trans ((Ent.right _ _).trans ((Ent.right _ _).trans ((Ent.right _ _).trans ((Ent.right _ _).trans ((Ent.right _ _).trans ((Ent.right _ _).trans (Ent.right _ _)))))))))
theorem afRow {w0 w : World} {A : HP} {g o c : Nat} {D : List AfV} (h : St w0 A w) (hA : AfsP A (.slice (some ⟨g, o, none⟩) D.length c) D) {i : Nat} (hi : i < D.length) : rowV w ⟨g, o + i * 21 + 1, none⟩ 20 = some (.agg (opVL D[i].x).toArray) := by
  obtain ⟨_, _, _, hv, _, hat⟩ := St.rowsAt afL_len (by decide) (h.ent hA.rd)
  simp only [Value.slice.injEq, true_and] at hv
  obtain ⟨rfl, rfl⟩ := hv
  obtain ⟨_, _, hg, _, hcell⟩ := hat i hi
  simp only [Option.some.injEq, Addr.mk.injEq, and_true] at hg
  obtain ⟨rfl, rfl⟩ := hg
  exact rowV_part (lo := 1) (k := 21) (n := 20) (cs := afL D[i]) rfl (o := o + i * 21) hcell (by decide)
section
variable {w0 w : World} {A : HP}
def NilJ (pre : List Inf) : HP := HP.fact (pre = []) EmpH
def ExitJ (c : Code) : HP := HP.fact (c = .exit 6) EmpH
theorem NilJ.mk {w0 w : World} {F : HP} (h : St w0 F w) : St w0 (NilJ [] * F) w := (h.ent (Ent.embL _)).ent (Ent.sep (Ent.fact (p := ([] : List Inf) = []) rfl _) (Ent.rfl' _))
theorem ExitJ.mk {w0 w : World} {F : HP} (h : St w0 F w) : St w0 (ExitJ (.exit 6) * F) w := (h.ent (Ent.embL _)).ent (Ent.sep (Ent.fact (p := Code.exit 6 = .exit 6) rfl _) (Ent.rfl' _))
theorem NilJ.open {w0 w : World} {F : HP} {pre : List Inf} (h : St w0 (NilJ pre * F) w) : pre = [] := h.factF.1
theorem ExitJ.open {w0 w : World} {F : HP} {c : Code} (h : St w0 (ExitJ c * F) w) : c = .exit 6 ∧ St w0 F w := ⟨h.factF.1, h.right⟩
/-- The body behind its first region; behind its loop. -/
def b1rest : Cd := match F3.b1 with
  | .block _ (.seq _ r) => r
  | c => c
def b1end : Cd := (.seq (.region 30 F3.r30.toArray false) (.seq (.region 31 F3.r31.toArray false) (.block 6 (.rangeFunc (.tmp 112) #[113] F3.a0 F3.b0))))
def b1loop : Cd := (.seq (.seq (.region 25 F3.r25.toArray false) (.cond (.tmp 91) .skip (.exit 4))) (.seq (.block 5 (.seq (.region 27 F3.r27.toArray true) (.seq (.region 28 F3.r28.toArray true) (.region 29 F3.r29.toArray false)))) (.region 26 F3.r26.toArray false)))
theorem b1rest_eq : b1rest = (.seq (.seq (.region 21 F3.r21.toArray false) (.cond (.tmp 72) (.seq (.region 22 F3.r22.toArray false) .ret) .skip)) (.seq (.region 23 F3.r23.toArray false) (.seq (.seq (.region 24 F3.r24.toArray false) (.block 4 (.loop b1loop))) b1end))) := rfl
section
attribute [local go_sem] F3.t10_eq F3.t11_eq F3.t36_eq F3.t35_eq F3.t18_eq F3.t13_eq F3.t8_eq F3.t4_eq
theorem b1end_any {T10 T11 T12 T6 T7 C4 B3 b rb K l last a : Nat} {va : Value} {s : SD} {e : FA} {AJ : HP} {BX : Code → HP} (hl : Ent A (LoopHere l)) (hs : Wf s) (ha : a ≤ 1000000)
    (hd : e.ds = []) (e11 : e.ρ 11 = .pointer (some ⟨T11, 0, none⟩)) (e12 : e.ρ 12 = .pointer (some ⟨T12, 0, none⟩))
    (h : St w0 (RW T10 T11 T12 T6 T7 C4 B3 b rb K va last a s A) w)
    (hJ : ∀ w', St w0 (RW T10 T11 T12 T6 T7 C4 B3 b rb K va last (a + 1) s A) w' → St w0 AJ w') :
    cwRE Tryz.prog l b1end (blockP 3 (roundQ w0 AJ BX)) e w := by
  obtain ⟨x0, r0, ht, hx0⟩ := least_root hs
  unfold b1end
  simp -dsimp -implicitDefEqProofs (disch := omega) only [go_sem, reqD_of, dec_t, dec_f, wrap_i64, wrap_u32, wrap_u64, wrap_u8, hd, e11, e12, h.cl T11]
  refine h.sto (b := T11) (off := 0) (by simp) rfl fun w1 h1 => ?_
  simp only [List.setIfInBounds_toArray, List.set_cons_zero] at h1
  simp -dsimp -implicitDefEqProofs (disch := omega) only [go_sem, reqD_of, dec_t, dec_f, wrap_i64, wrap_u32, wrap_u64, wrap_u8, hd, e11, e12, h1.cl T12]
  rw [show ((a : Int) + 1) = ((a + 1 : Nat) : Int) by omega] at h1
  have h1 : St w0 (RW T10 T11 T12 T6 T7 C4 B3 b rb K va last (a + 1) s A) w1 := h1
  rw [RW.as] at h1
  have h2 := NilJ.mk h1
  refine range_introRA h2 ((Ent.right _ _).trans ((Ent.right _ _).trans ((Ent.right _ _).trans (RV.up.trans hl)))) (gf := 46) (lb := #[.pointer (some ⟨K, 0, none⟩)]) (by simp -dsimp -implicitDefEqProofs only [go_sem]) fact_fnOk_46 (Pass := PassI)
    NilJ (fun c _ => ExitJ c) (Ent.rfl' _) ?_ (allIter (K := K) (R := RV T10 T11 T12 T6 T7 C4 B3 b rb K va last (a + 1) s A) hs) ?_ ?_
  · intro q pre y args G W1 hpo h6
    have h6 : St w0 (NilJ pre * (PassI y args * G)) W1 := h6
    obtain ⟨rfl, h7⟩ := PassI.open (h6.ac (by ac_rfl : _ = PassI y args * (NilJ pre * G)))
    have hpe := NilJ.open h6
    subst hpe
    obtain ⟨post, hpo⟩ := hpo
    have hy : y.path = 1 := by
      rw [ht] at hpo
      simp only [List.nil_append, List.cons_append, List.cons.injEq] at hpo
      rw [hpo.1]; exact hx0
    refine ⟨rfl, ?_⟩
    unfold F3.a0
    simp -dsimp -implicitDefEqProofs (disch := omega) only [go_sem, reqD_of, dec_t, dec_f, wrap_i64, wrap_u32, wrap_u64, wrap_u8, List.toList_toArray]
    refine h6.new fun P w5 h8 => ?_
    simp -dsimp -implicitDefEqProofs (disch := omega) only [go_sem, reqD_of, dec_t, dec_f, wrap_i64, wrap_u32, wrap_u64, wrap_u8]
    refine h8.stoAll (b := P) (n := 13) (cs := infL y) rfl rfl (infL_cells y) fun w6 h9 => ?_
    simp -dsimp -implicitDefEqProofs (disch := omega) only [go_sem, reqD_of, dec_t, dec_f, wrap_i64, wrap_u32, wrap_u64, wrap_u8]
    refine ⟨infB P y, h9, fun G2 W2 hl2 h10 => ?_⟩
    have h10 : St w0 (infB P y * (NilJ [] * (PassI y #[.agg (infL y).toArray] * G2))) W2 := h10
    have p0 : W2.cell? ⟨P, 0, none⟩ = some (.int .u64 1) := by have := h10.cells 0; rw [this]; show some (Value.int .u64 y.path) = _; rw [hy]; rfl
    unfold F3.b0
    simp -dsimp -implicitDefEqProofs (disch := omega) only [go_sem, reqD_of, dec_t, dec_f, wrap_i64, wrap_u32, wrap_u64, wrap_u8, p0]
    exact ExitJ.mk h10.right.right.right
  · intro xs w' hS h6
    subst hS
    have he := NilJ.open h6
    rw [ht] at he
    cases he
  · intro c pre w' h6
    obtain ⟨rfl, h7⟩ := ExitJ.open h6
    simp -dsimp -implicitDefEqProofs (disch := omega) only [go_sem, reqD_of, dec_t, dec_f, wrap_i64, wrap_u32, wrap_u64, wrap_u8]
    exact hJ _ (by rw [RW.as]; exact h7)
end
section
attribute [local go_sem] F3.t10_eq F3.t11_eq F3.t36_eq F3.t35_eq F3.t18_eq F3.t13_eq F3.t8_eq F3.t4_eq
theorem b1rest_any [Gives A Tabs] {a2 : Option Addr} {c2 T10 T11 T12 T6 T7 C4 B3 b rb K l P Q last a : Nat} {D : List AfV} {s : SD} {x : Inf} {e : FA} {AJ : HP} {BX : Code → HP} (hA : AfsP A (.slice a2 D.length c2) D) (hl : Ent A (LoopHere l)) (hw : wtA D ≤ 8388608) (hs : Wf s) (hnx : s.next ≤ 900000) (ha : a ≤ 900000) (hx : last < x.path)
    (hd : e.ds = []) (e3 : e.ρ 3 = .pointer (some ⟨B3, 0, none⟩)) (e4 : e.ρ 4 = .pointer (some ⟨C4, 0, none⟩)) (e6 : e.ρ 6 = .pointer (some ⟨T6, 0, none⟩)) (e7 : e.ρ 7 = .pointer (some ⟨T7, 0, none⟩)) (e10 : e.ρ 10 = .pointer (some ⟨T10, 0, none⟩)) (e11 : e.ρ 11 = .pointer (some ⟨T11, 0, none⟩)) (e12 : e.ρ 12 = .pointer (some ⟨T12, 0, none⟩)) (e13 : e.ρ 13 = .pointer (some ⟨P, 0, none⟩)) (e14 : e.ρ 14 = .pointer (some ⟨Q, 0, none⟩))
    (h : St w0 (Blk Q (.cells (infL x).toArray 42 (0, 0)) * (Blk P (.cells (infL x).toArray 42 (0, 0)) * RW T10 T11 T12 T6 T7 C4 B3 b rb K (.slice a2 D.length c2) last a s A)) w)
    (hJ : ∀ w', St w0 (RW T10 T11 T12 T6 T7 C4 B3 b rb K (.slice a2 D.length c2) x.path ((goF D 3 s a).2 + 1) (goF D 3 s a).1 A) w' → St w0 AJ w') :
    cwRE Tryz.prog l b1rest (blockP 3 (roundQ w0 AJ BX)) e w := by
  rw [b1rest_eq]
  have hx0 : ¬ ((x.path : Nat) : Int) = 0 := by omega
  simp -dsimp -implicitDefEqProofs (disch := omega) only [go_sem, reqD_of, dec_t, dec_f, wrap_i64, wrap_u32, wrap_u64, wrap_u8, hd, e3, e4, e6, e7, e10, e11, e12, e13, e14, h.cl Q, h.cl P, hx0]
  refine h.sto (b := T10) (off := 0) (by simp) rfl fun w1 h1 => ?_
  simp only [List.setIfInBounds_toArray, List.set_cons_zero] at h1
  simp -dsimp -implicitDefEqProofs (disch := omega) only [go_sem, reqD_of, dec_t, dec_f, wrap_i64, wrap_u32, wrap_u64, wrap_u8, hd, e3, e4, e6, e7, e10, e11, e12]
  refine loop_introR (fun e w' => e.ds = [] ∧ e.ρ 3 = .pointer (some ⟨B3, 0, none⟩) ∧ e.ρ 4 = .pointer (some ⟨C4, 0, none⟩) ∧ e.ρ 6 = .pointer (some ⟨T6, 0, none⟩) ∧ e.ρ 7 = .pointer (some ⟨T7, 0, none⟩) ∧ e.ρ 10 = .pointer (some ⟨T10, 0, none⟩) ∧ e.ρ 11 = .pointer (some ⟨T11, 0, none⟩) ∧ e.ρ 12 = .pointer (some ⟨T12, 0, none⟩) ∧
      ∃ (k : Nat) (s' : SD) (a' : Nat), k ≤ 3 ∧ e.ρ 15 = .int .i64 k ∧ Wf s' ∧ s'.next ≤ s.next + k ∧ a' ≤ a + k ∧ goF D (3 - k) s' a' = goF D 3 s a ∧ St w0 (RW T10 T11 T12 T6 T7 C4 B3 b rb K (.slice a2 D.length c2) x.path a' s' A) w')
    (fun e _ => match e.ρ 15 with | .int _ k => (3 - k).toNat | _ => 0) ?_ ?_
  · exact ⟨by simp -dsimp -implicitDefEqProofs only [go_sem, hd], by simp -dsimp -implicitDefEqProofs only [go_sem, e3], by simp -dsimp -implicitDefEqProofs only [go_sem, e4], by simp -dsimp -implicitDefEqProofs only [go_sem, e6], by simp -dsimp -implicitDefEqProofs only [go_sem, e7], by simp -dsimp -implicitDefEqProofs only [go_sem, e10], by simp -dsimp -implicitDefEqProofs only [go_sem, e11], by simp -dsimp -implicitDefEqProofs only [go_sem, e12], 0, s, a, by omega, by simp -dsimp -implicitDefEqProofs only [go_sem], hs, by omega, by omega, rfl, h1.right.right⟩
  clear h h1 hd e3 e4 e6 e7 e10 e11 e12 e13 e14 hs
  rintro e w ⟨hd, e3, e4, e6, e7, e10, e11, e12, k, s', a', hk, e15, hs, hn', ha', hgo, h⟩
  have fin : ∀ {w : World}, goF D (3 - k) s' a' = (s', a') → St w0 (RW T10 T11 T12 T6 T7 C4 B3 b rb K (.slice a2 D.length c2) x.path a' s' A) w → ∀ w', St w0 (RW T10 T11 T12 T6 T7 C4 B3 b rb K (.slice a2 D.length c2) x.path (a' + 1) s' A) w' → St w0 AJ w' := fun he _ w' h' => by
    refine hJ w' ?_
    rw [← hgo, he]
    exact h'
  unfold b1loop
  by_cases hk3 : (k : Int) < 3
  case neg =>
    have : k = 3 := by omega
    subst this
    simp -dsimp -implicitDefEqProofs (disch := omega) only [go_sem, reqD_of, dec_t, dec_f, wrap_i64, wrap_u32, wrap_u64, wrap_u8, hd, e3, e4, e6, e7, e10, e11, e12, e15, hk3]
    exact b1end_any hl hs (by omega) (by simp -dsimp -implicitDefEqProofs only [go_sem, hd]) (by simp -dsimp -implicitDefEqProofs only [go_sem, e11]) (by simp -dsimp -implicitDefEqProofs only [go_sem, e12]) h (fin rfl h)
  by_cases hal : (a' : Int) < D.length
  case neg =>
    simp -dsimp -implicitDefEqProofs (disch := omega) only [go_sem, reqD_of, dec_t, dec_f, wrap_i64, wrap_u32, wrap_u64, wrap_u8, hd, e3, e4, e6, e7, e10, e11, e12, e15, hk3, h.cl T11, h.cl B3, hal]
    exact b1end_any hl hs (by omega) (by simp -dsimp -implicitDefEqProofs only [go_sem, hd]) (by simp -dsimp -implicitDefEqProofs only [go_sem, e11]) (by simp -dsimp -implicitDefEqProofs only [go_sem, e12]) h (fin (go_stop (by omega)) h)
  have hil : a' < D.length := by omega
  obtain ⟨_, a'', c', hv, _, hat⟩ := St.rowsAt afL_len (by decide) ((h.ent RW.up).ent hA.rd)
  simp only [Value.slice.injEq, true_and] at hv
  obtain ⟨rfl, rfl⟩ := hv
  obtain ⟨g, o, rfl, _, hcell⟩ := hat a' hil
  obtain ⟨hz, hxo⟩ := hA.each _ (List.getElem_mem hil)
  have c0 : w.cell? ⟨g, o + a' * 21, none⟩ = some (.int .i64 D[a'].n) := hcell 0 (by decide)
  simp -dsimp -implicitDefEqProofs (disch := omega) only [go_sem, reqD_of, dec_t, dec_f, wrap_i64, wrap_u32, wrap_u64, wrap_u8, hd, e3, e4, e6, e7, e10, e11, e12, e15, hk3, h.cl T11, h.cl B3, hal, c0]
  refine (pick_any (c := D[a'].n) (n := 3) h hz (by decide)).mono ?_
  rintro e' w2 ⟨h2, rfl⟩
  by_cases hp : ((pickF D[a'].n 3 : Nat) : Int) = 0
  case neg =>
    simp -dsimp -implicitDefEqProofs (disch := omega) only [go_sem, reqD_of, dec_t, dec_f, wrap_i64, wrap_u32, wrap_u64, wrap_u8, hd, e3, e4, e6, e7, e10, e11, e12, e15, hp]
    exact b1end_any hl hs (by omega) (by simp -dsimp -implicitDefEqProofs only [go_sem, hd]) (by simp -dsimp -implicitDefEqProofs only [go_sem, e11]) (by simp -dsimp -implicitDefEqProofs only [go_sem, e12]) h2 (fin (go_no hil (by omega)) h2)
  have hgy := go_yes (f := 3 - (k + 1)) (s := s') hil (by omega)
  rw [show 3 - (k + 1) + 1 = 3 - k by omega, hgo] at hgy
  have hrow := afRow (h2.drew.ent RW.up) hA hil
  have hwx := wtA_mem (List.getElem_mem hil)
  obtain ⟨x1, hx1⟩ : ∃ x1, x1 = D[a'].x := ⟨_, rfl⟩
  rw [← hx1] at hrow hgy hxo hwx
  haveI : Gives A (RdB x1.v x1.o.data) := ⟨hxo.data⟩
  simp -dsimp -implicitDefEqProofs (disch := omega) only [go_sem, reqD_of, dec_t, dec_f, wrap_i64, wrap_u32, wrap_u64, wrap_u8, hd, e3, e4, e6, e7, e10, e11, e12, e15, hp, hrow, h2.cl T6, h2.drew.cl T6, h2.cl T7, h2.drew.cl T7, h2.cl B3, h2.drew.cl B3, h2.cl T11, h2.drew.cl T11, hal]
  have h3 := h2.drew
  rw [RW.as] at h3
  refine (do_any (o := x1.o) (vd := x1.v) (hxo.in_ (by omega)) hxo.kind (by omega) h3).mono ?_
  rintro e' w4 ⟨h4, rfl⟩
  obtain ⟨s2, hs2⟩ : ∃ s2, s2 = (doF s' x1.o).1 := ⟨_, rfl⟩
  rw [← hs2] at h4
  have h5 : St w0 (RefP rb s' * (StoreP b 0 0 s2 * (ptrS K b * (uC T10 x.path * (intC T11 a' * (Blk T12 (.cells #[.func (.func 46) #[] #[.pointer (some ⟨K, 0, none⟩)]] 47 (0, 0)) * (Blk T6 (.cells #[.pointer (some ⟨b, 0, none⟩)] 27 (0, 0)) * (Blk T7 (.cells #[.pointer (some ⟨rb, 0, none⟩)] 29 (0, 0)) * (boolC C4 false * (Blk B3 (.cells #[.slice (some ⟨g, o, none⟩) D.length c2] 23 (0, 0)) * A)))))))))) w4 := h4.ac (by unfold RV; ac_rfl)
  have hrow := afRow (h5.right.right.right.right.right.right.right.right.right.right) hA hil
  have hrow2 := afRow (h5.drew.right.right.right.right.right.right.right.right.right.right) hA hil
  rw [← hx1] at hrow hrow2
  simp -dsimp -implicitDefEqProofs (disch := omega) only [go_sem, reqD_of, dec_t, dec_f, wrap_i64, wrap_u32, wrap_u64, wrap_u8, hd, e3, e4, e6, e7, e10, e11, e12, e15, hp, hrow, hrow2, h5.cl T6, h5.drew.cl T6, h5.cl T7, h5.drew.cl T7, h5.cl B3, h5.drew.cl B3, h5.cl T11, h5.drew.cl T11, hal]
  refine (refDo_any (o := x1.o) (vd := x1.v) (hxo.in_ (by omega)) hxo.kind (by omega) h5.drew).mono ?_
  rintro e' w6 ⟨h6, rfl⟩
  rw [← hs2] at h6
  have hrow := afRow (h6.right.right.right.right.right.right.right.right.right.right) hA hil
  rw [← hx1] at hrow
  simp -dsimp -implicitDefEqProofs (disch := omega) only [go_sem, reqD_of, dec_t, dec_f, wrap_i64, wrap_u32, wrap_u64, wrap_u8, hd, e3, e4, e6, e7, e10, e11, e12, e15, hp, hrow, h6.cl T6, h6.drew.cl T6, h6.cl T7, h6.drew.cl T7, h6.cl B3, h6.drew.cl B3, h6.cl T11, h6.drew.cl T11, hal]
  have h7 : St w0 (RW T10 T11 T12 T6 T7 C4 B3 b rb K (.slice (some ⟨g, o, none⟩) D.length c2) x.path a' s2 A) w6 := h6.ac (by unfold RW; ac_rfl)
  refine h7.sto (b := T11) (off := 0) (by simp) rfl fun w8 h8 => ?_
  simp only [List.setIfInBounds_toArray, List.set_cons_zero] at h8
  simp -dsimp -implicitDefEqProofs (disch := omega) only [go_sem, reqD_of, dec_t, dec_f, wrap_i64, wrap_u32, wrap_u64, wrap_u8, hd, e3, e4, e6, e7, e10, e11, e12, e15, hp]
  rw [show ((a' : Int) + 1) = ((a' + 1 : Nat) : Int) by omega] at h8
  have hdn := do_next s' x1.o
  have hwf2 := do_wf (o := x1.o) hs (hxo.in_ (by omega)).ok
  rw [← hs2] at hgy hdn hwf2
  exact ⟨⟨k + 1, s2, a' + 1, by omega, by omega, hwf2, by omega, by omega, hgy.symm, h8⟩, by omega⟩
end
section
attribute [local go_sem] F3.t10_eq F3.t11_eq F3.t36_eq F3.t35_eq F3.t18_eq F3.t13_eq F3.t8_eq F3.t4_eq
theorem nodesAll_b1 [Gives A Tabs] {a2 : Option Addr} {c2 T10 T11 T12 T6 T7 C4 B3 b rb K l P last a : Nat} {D : List AfV} {s : SD} {x : Inf} {e : FA} {AJ : HP} {BX : Code → HP} (hA : AfsP A (.slice a2 D.length c2) D) (hl : Ent A (LoopHere l)) (hw : wtA D ≤ 8388608) (hs : Wf s) (hnx : s.next ≤ 900000) (ha : a ≤ 900000) (hx : leastF s last = some x)
    (hd : e.ds = []) (e3 : e.ρ 3 = .pointer (some ⟨B3, 0, none⟩)) (e4 : e.ρ 4 = .pointer (some ⟨C4, 0, none⟩)) (e6 : e.ρ 6 = .pointer (some ⟨T6, 0, none⟩)) (e7 : e.ρ 7 = .pointer (some ⟨T7, 0, none⟩)) (e10 : e.ρ 10 = .pointer (some ⟨T10, 0, none⟩)) (e11 : e.ρ 11 = .pointer (some ⟨T11, 0, none⟩)) (e12 : e.ρ 12 = .pointer (some ⟨T12, 0, none⟩)) (e13 : e.ρ 13 = .pointer (some ⟨P, 0, none⟩))
    (h : St w0 (Blk P (.cells (infL x).toArray 42 (0, 0)) * RW T10 T11 T12 T6 T7 C4 B3 b rb K (.slice a2 D.length c2) last a s A) w)
    (hJ : ∀ w', St w0 (RW T10 T11 T12 T6 T7 C4 B3 b rb K (.slice a2 D.length c2) x.path ((goF D 3 s a).2 + 1) (goF D 3 s a).1 A) w' → St w0 AJ w') :
    cwRE Tryz.prog l F3.b1 (roundQ w0 AJ BX) e w := by
  show cwRE Tryz.prog l (.block 3 (.seq (.tree F3.r20) b1rest)) (roundQ w0 AJ BX) e w
  have hxl := least_above hx
  have hnw : nextF (tellL s) last = x := by unfold nextF; rw [show (tellL s).find? (fun x => decide (last < x.path)) = some x from hx]; rfl
  have hlen := tell_len s
  have hf := hs.few
  have hm := hs.most
  have hin : ∀ {w : World} {A : HP}, St w0 (Blk P (.cells (infL x).toArray 42 (0, 0)) * RW T10 T11 T12 T6 T7 C4 B3 b rb K (.slice a2 D.length c2) last a s A) w → St w0 (RefP rb s * (uC T10 last * (intC T11 a * (Blk T7 (.cells #[.pointer (some ⟨rb, 0, none⟩)] 29 (0, 0)) * (Blk P (.cells (infL x).toArray 42 (0, 0)) * (StoreP b 0 0 s * (ptrS K b * (Blk T12 (.cells #[.func (.func 46) #[] #[.pointer (some ⟨K, 0, none⟩)]] 47 (0, 0)) * (Blk T6 (.cells #[.pointer (some ⟨b, 0, none⟩)] 27 (0, 0)) * (boolC C4 false * (Blk B3 (.cells #[.slice a2 D.length c2] 23 (0, 0)) * A))))))))))) w := fun h => h.ac (by unfold RW; ac_rfl)
  simp -dsimp -implicitDefEqProofs (disch := omega) only [go_sem, reqD_of, dec_t, dec_f, wrap_i64, wrap_u32, wrap_u64, wrap_u8, hd, e3, e4, e6, e7, e10, e11, e12, e13, h.cl T7, h.cl T10, h.drew.cl T7, h.drew.cl T10]
  refine ⟨?_, ?_⟩
  · refine (refAll_any (hin h.drew)).mono ?_
    rintro e' w2 ⟨v, h2, rfl⟩
    obtain ⟨av, cv, rfl, _⟩ := h2.rowForm v
    simp -dsimp -implicitDefEqProofs (disch := omega) only [go_sem, reqD_of, dec_t, dec_f, wrap_i64, wrap_u32, wrap_u64, wrap_u8, hd, e3, e4, e6, e7, e10, e11, e12, e13, h2.cl T7, h2.cl T10, h2.drew.cl T7, h2.drew.cl T10]
    refine ⟨?_, ?_⟩
    · refine (lawNext_any (last := last) (by omega) h2).mono ?_
      rintro e' w3 ⟨h3, rfl⟩
      rw [hnw]
      simp -dsimp -implicitDefEqProofs (disch := omega) only [go_sem, reqD_of, dec_t, dec_f, wrap_i64, wrap_u32, wrap_u64, wrap_u8, hd, e3, e4, e6, e7, e10, e11, e12, e13, h3.cl T7, h3.cl T10, h3.drew.cl T7, h3.drew.cl T10]
      refine h3.new fun Q w4 h4 => ?_
      simp -dsimp -implicitDefEqProofs (disch := omega) only [go_sem, reqD_of, dec_t, dec_f, wrap_i64, wrap_u32, wrap_u64, wrap_u8, hd, e3, e4, e6, e7, e10, e11, e12, e13, h4.cl T7, h4.cl T10, h4.drew.cl T7, h4.drew.cl T10]
      refine h4.stoAll (b := Q) (cs := infL x) rfl rfl (infL_cells _) fun w9 h9 => ?_
      simp -dsimp -implicitDefEqProofs (disch := omega) only [go_sem, reqD_of, dec_t, dec_f, wrap_i64, wrap_u32, wrap_u64, wrap_u8, hd, e3, e4, e6, e7, e10, e11, e12, e13]
      exact b1rest_any (P := P) (Q := Q) hA hl hw hs hnx ha hxl (by simp -dsimp -implicitDefEqProofs only [go_sem, hd]) (by simp -dsimp -implicitDefEqProofs only [go_sem, e3]) (by simp -dsimp -implicitDefEqProofs only [go_sem, e4]) (by simp -dsimp -implicitDefEqProofs only [go_sem, e6]) (by simp -dsimp -implicitDefEqProofs only [go_sem, e7]) (by simp -dsimp -implicitDefEqProofs only [go_sem, e10]) (by simp -dsimp -implicitDefEqProofs only [go_sem, e11]) (by simp -dsimp -implicitDefEqProofs only [go_sem, e12]) (by simp -dsimp -implicitDefEqProofs only [go_sem, e13]) (by simp -dsimp -implicitDefEqProofs only [go_sem]) (h9.ac (by unfold RW; ac_rfl)) hJ
    · refine h2.new fun Q w4 h4 => ?_
      simp -dsimp -implicitDefEqProofs (disch := omega) only [go_sem, reqD_of, dec_t, dec_f, wrap_i64, wrap_u32, wrap_u64, wrap_u8, hd, e3, e4, e6, e7, e10, e11, e12, e13, h4.cl T7, h4.cl T10, h4.drew.cl T7, h4.drew.cl T10]
      refine (lawNext_any (last := last) (by omega) h4.sw2).mono ?_
      rintro e' w3 ⟨h3, rfl⟩
      rw [hnw]
      simp -dsimp -implicitDefEqProofs (disch := omega) only [go_sem, reqD_of, dec_t, dec_f, wrap_i64, wrap_u32, wrap_u64, wrap_u8, hd, e3, e4, e6, e7, e10, e11, e12, e13, h3.cl T7, h3.cl T10, h3.drew.cl T7, h3.drew.cl T10]
      refine h3.stoAll (b := Q) (cs := infL x) rfl rfl (infL_cells _) fun w9 h9 => ?_
      simp -dsimp -implicitDefEqProofs (disch := omega) only [go_sem, reqD_of, dec_t, dec_f, wrap_i64, wrap_u32, wrap_u64, wrap_u8, hd, e3, e4, e6, e7, e10, e11, e12, e13]
      exact b1rest_any (P := P) (Q := Q) hA hl hw hs hnx ha hxl (by simp -dsimp -implicitDefEqProofs only [go_sem, hd]) (by simp -dsimp -implicitDefEqProofs only [go_sem, e3]) (by simp -dsimp -implicitDefEqProofs only [go_sem, e4]) (by simp -dsimp -implicitDefEqProofs only [go_sem, e6]) (by simp -dsimp -implicitDefEqProofs only [go_sem, e7]) (by simp -dsimp -implicitDefEqProofs only [go_sem, e10]) (by simp -dsimp -implicitDefEqProofs only [go_sem, e11]) (by simp -dsimp -implicitDefEqProofs only [go_sem, e12]) (by simp -dsimp -implicitDefEqProofs only [go_sem, e13]) (by simp -dsimp -implicitDefEqProofs only [go_sem]) (h9.ac (by unfold RW; ac_rfl)) hJ
  · refine h.drew.new fun Q w4 h4 => ?_
    simp -dsimp -implicitDefEqProofs (disch := omega) only [go_sem, reqD_of, dec_t, dec_f, wrap_i64, wrap_u32, wrap_u64, wrap_u8, hd, e3, e4, e6, e7, e10, e11, e12, e13, h4.cl T7, h4.cl T10, h4.drew.cl T7, h4.drew.cl T10]
    have h5 := hin (h4.ac (show _ = Blk P (.cells (infL x).toArray 42 (0, 0)) * RW T10 T11 T12 T6 T7 C4 B3 b rb K (.slice a2 D.length c2) last a s (Blk Q (.cells (infL infZ).toArray 42 (0, 0)) * A) by unfold RW; ac_rfl))
    refine (refAll_any h5).mono ?_
    rintro e' w2 ⟨v, h2, rfl⟩
    obtain ⟨av, cv, rfl, _⟩ := h2.rowForm v
    simp -dsimp -implicitDefEqProofs (disch := omega) only [go_sem, reqD_of, dec_t, dec_f, wrap_i64, wrap_u32, wrap_u64, wrap_u8, hd, e3, e4, e6, e7, e10, e11, e12, e13, h2.cl T7, h2.cl T10, h2.drew.cl T7, h2.drew.cl T10]
    refine (lawNext_any (last := last) (by omega) h2).mono ?_
    rintro e' w3 ⟨h3, rfl⟩
    rw [hnw]
    simp -dsimp -implicitDefEqProofs (disch := omega) only [go_sem, reqD_of, dec_t, dec_f, wrap_i64, wrap_u32, wrap_u64, wrap_u8, hd, e3, e4, e6, e7, e10, e11, e12, e13, h3.cl T7, h3.cl T10, h3.drew.cl T7, h3.drew.cl T10]
    refine h3.stoAll (b := Q) (cs := infL x) rfl rfl (infL_cells _) fun w9 h9 => ?_
    simp -dsimp -implicitDefEqProofs (disch := omega) only [go_sem, reqD_of, dec_t, dec_f, wrap_i64, wrap_u32, wrap_u64, wrap_u8, hd, e3, e4, e6, e7, e10, e11, e12, e13]
    exact b1rest_any (P := P) (Q := Q) hA hl hw hs hnx ha hxl (by simp -dsimp -implicitDefEqProofs only [go_sem, hd]) (by simp -dsimp -implicitDefEqProofs only [go_sem, e3]) (by simp -dsimp -implicitDefEqProofs only [go_sem, e4]) (by simp -dsimp -implicitDefEqProofs only [go_sem, e6]) (by simp -dsimp -implicitDefEqProofs only [go_sem, e7]) (by simp -dsimp -implicitDefEqProofs only [go_sem, e10]) (by simp -dsimp -implicitDefEqProofs only [go_sem, e11]) (by simp -dsimp -implicitDefEqProofs only [go_sem, e12]) (by simp -dsimp -implicitDefEqProofs only [go_sem, e13]) (by simp -dsimp -implicitDefEqProofs only [go_sem]) (h9.ac (by unfold RW; ac_rfl)) hJ
end
section
attribute [local go_sem] F3.t10_eq F3.t11_eq F3.t36_eq F3.t35_eq F3.t18_eq F3.t13_eq F3.t8_eq F3.t4_eq
theorem nodesAll_t36 {M Q C4 : Nat} {e : FA} {Y : HP} (hd : e.ds = [{ target := .collected M, args := #[] }]) (e4 : e.ρ 4 = .pointer (some ⟨C4, 0, none⟩)) (e5 : e.ρ 5 = .bool true) (e17 : e.ρ 17 = .pointer (some ⟨Q, 0, none⟩))
    (h : St w0 (Blk Q (.cells (infL infZ).toArray 42 (0, 0)) * (Blk M (.deferred (some [])) * (boolC C4 false * (A * Y)))) w) :
    cwE Tryz.prog F3.t36 (fnP Tryz.prog #[.cell 4 4] fun e w' => St w0 A w' ∧ e = .returned (.bool true)) e w := by
  rw [F3.t36_eq]
  have c0 : w.cell? ⟨Q, 0, none⟩ = some (.int .u64 0) := h.cells 0
  simp -dsimp -implicitDefEqProofs (disch := omega) only [go_sem, reqD_of, dec_t, dec_f, wrap_i64, wrap_u32, wrap_u64, wrap_u8, hd, e4, e5, e17, c0]
  refine h.sto (b := C4) (off := 0) (by simp) rfl fun w1 h1 => ?_
  simp only [List.setIfInBounds_toArray, List.set_cons_zero] at h1
  simp -dsimp -implicitDefEqProofs (disch := omega) only [go_sem, reqD_of, dec_t, dec_f, wrap_i64, wrap_u32, wrap_u64, wrap_u8, hd, e4]
  refine St.mark1 (D := M) h1.sw2 fun w2 h2 => ?_
  refine resC_1 (a := ⟨C4, 0, none⟩) (v := .bool true) (by simp -dsimp -implicitDefEqProofs only [go_sem, e4]) (run_loadVar_cell fact_aggSz_4 (by rw [h2.cl C4]; rfl)) ?_
  exact ⟨h2.right.right.right.left, rfl⟩
end
section
attribute [local go_sem] F3.t10_eq F3.t11_eq F3.t35_eq F3.t18_eq F3.t13_eq F3.t8_eq F3.t4_eq
theorem nodesAll_t35 {T10 T11 T12 T6 T7 C4 B3 b rb K M last a : Nat} {va : Value} {s : SD} {e : FA} (hs : Wf s) (hx : leastF s last = none)
    (hd : e.ds = [{ target := .collected M, args := #[] }]) (e4 : e.ρ 4 = .pointer (some ⟨C4, 0, none⟩)) (e5 : e.ρ 5 = .bool true) (e7 : e.ρ 7 = .pointer (some ⟨T7, 0, none⟩)) (e10 : e.ρ 10 = .pointer (some ⟨T10, 0, none⟩))
    (h : St w0 (Blk M (.deferred (some [])) * RW T10 T11 T12 T6 T7 C4 B3 b rb K va last a s A) w) :
    cwE Tryz.prog F3.t35 (fnP Tryz.prog #[.cell 4 4] fun e w' => St w0 A w' ∧ e = .returned (.bool true)) e w := by
  rw [F3.t35_eq]
  have hnw : nextF (tellL s) last = infZ := by unfold nextF; rw [show (tellL s).find? (fun x => decide (last < x.path)) = none from hx]; rfl
  have hlen := tell_len s
  have hf := hs.few
  have hm := hs.most
  have h := h.ac (show _ = RefP rb s * (uC T10 last * (intC T11 a * (Blk T7 (.cells #[.pointer (some ⟨rb, 0, none⟩)] 29 (0, 0)) * (Blk M (.deferred (some [])) * (StoreP b 0 0 s * (ptrS K b * (Blk T12 (.cells #[.func (.func 46) #[] #[.pointer (some ⟨K, 0, none⟩)]] 47 (0, 0)) * (Blk T6 (.cells #[.pointer (some ⟨b, 0, none⟩)] 27 (0, 0)) * (boolC C4 false * (Blk B3 (.cells #[va] 23 (0, 0)) * A)))))))))) by unfold RW; ac_rfl)
  simp -dsimp -implicitDefEqProofs (disch := omega) only [go_sem, reqD_of, dec_t, dec_f, wrap_i64, wrap_u32, wrap_u64, wrap_u8, hd, e4, e5, e7, e10, h.cl T7, h.cl T10, h.drew.cl T7, h.drew.cl T10]
  refine ⟨?_, ?_⟩
  · refine (refAll_any h.drew).mono ?_
    rintro e' w2 ⟨v, h2, rfl⟩
    obtain ⟨av, cv, rfl, _⟩ := h2.rowForm v
    simp -dsimp -implicitDefEqProofs (disch := omega) only [go_sem, reqD_of, dec_t, dec_f, wrap_i64, wrap_u32, wrap_u64, wrap_u8, hd, e4, e5, e7, e10, h2.cl T7, h2.cl T10, h2.drew.cl T7, h2.drew.cl T10]
    refine ⟨?_, ?_⟩
    · refine (lawNext_any (last := last) (by omega) h2).mono ?_
      rintro e' w3 ⟨h3, rfl⟩
      rw [hnw]
      simp -dsimp -implicitDefEqProofs (disch := omega) only [go_sem, reqD_of, dec_t, dec_f, wrap_i64, wrap_u32, wrap_u64, wrap_u8, hd, e4, e5, e7, e10, h3.cl T7, h3.cl T10, h3.drew.cl T7, h3.drew.cl T10]
      refine h3.new fun Q w4 h4 => ?_
      simp -dsimp -implicitDefEqProofs (disch := omega) only [go_sem, reqD_of, dec_t, dec_f, wrap_i64, wrap_u32, wrap_u64, wrap_u8, hd, e4, e5, e7, e10, h4.cl T7, h4.cl T10, h4.drew.cl T7, h4.drew.cl T10]
      refine h4.stoAll (b := Q) (cs := infL infZ) rfl rfl (infL_cells _) fun w9 h9 => ?_
      simp -dsimp -implicitDefEqProofs (disch := omega) only [go_sem, reqD_of, dec_t, dec_f, wrap_i64, wrap_u32, wrap_u64, wrap_u8, hd, e4, e5, e7, e10]
      exact nodesAll_t36 (Q := Q) (M := M) (C4 := C4) (by simp -dsimp -implicitDefEqProofs only [go_sem, hd]) (by simp -dsimp -implicitDefEqProofs only [go_sem, e4]) (by simp -dsimp -implicitDefEqProofs only [go_sem, e5]) (by simp -dsimp -implicitDefEqProofs only [go_sem]) (h9.ac (show _ = Blk Q (.cells (infL infZ).toArray 42 (0, 0)) * (Blk M (.deferred (some [])) * (boolC C4 false * (A * (RefP rb s * (uC T10 last * (intC T11 a * (Blk T7 (.cells #[.pointer (some ⟨rb, 0, none⟩)] 29 (0, 0)) * (StoreP b 0 0 s * (ptrS K b * (Blk T12 (.cells #[.func (.func 46) #[] #[.pointer (some ⟨K, 0, none⟩)]] 47 (0, 0)) * (Blk T6 (.cells #[.pointer (some ⟨b, 0, none⟩)] 27 (0, 0)) * Blk B3 (.cells #[va] 23 (0, 0)) ))))))))))) by ac_rfl))
    · refine h2.new fun Q w4 h4 => ?_
      simp -dsimp -implicitDefEqProofs (disch := omega) only [go_sem, reqD_of, dec_t, dec_f, wrap_i64, wrap_u32, wrap_u64, wrap_u8, hd, e4, e5, e7, e10, h4.cl T7, h4.cl T10, h4.drew.cl T7, h4.drew.cl T10]
      refine (lawNext_any (last := last) (by omega) h4.sw2).mono ?_
      rintro e' w3 ⟨h3, rfl⟩
      rw [hnw]
      simp -dsimp -implicitDefEqProofs (disch := omega) only [go_sem, reqD_of, dec_t, dec_f, wrap_i64, wrap_u32, wrap_u64, wrap_u8, hd, e4, e5, e7, e10, h3.cl T7, h3.cl T10, h3.drew.cl T7, h3.drew.cl T10]
      refine h3.stoAll (b := Q) (cs := infL infZ) rfl rfl (infL_cells _) fun w9 h9 => ?_
      simp -dsimp -implicitDefEqProofs (disch := omega) only [go_sem, reqD_of, dec_t, dec_f, wrap_i64, wrap_u32, wrap_u64, wrap_u8, hd, e4, e5, e7, e10]
      exact nodesAll_t36 (Q := Q) (M := M) (C4 := C4) (by simp -dsimp -implicitDefEqProofs only [go_sem, hd]) (by simp -dsimp -implicitDefEqProofs only [go_sem, e4]) (by simp -dsimp -implicitDefEqProofs only [go_sem, e5]) (by simp -dsimp -implicitDefEqProofs only [go_sem]) (h9.ac (show _ = Blk Q (.cells (infL infZ).toArray 42 (0, 0)) * (Blk M (.deferred (some [])) * (boolC C4 false * (A * (RefP rb s * (uC T10 last * (intC T11 a * (Blk T7 (.cells #[.pointer (some ⟨rb, 0, none⟩)] 29 (0, 0)) * (StoreP b 0 0 s * (ptrS K b * (Blk T12 (.cells #[.func (.func 46) #[] #[.pointer (some ⟨K, 0, none⟩)]] 47 (0, 0)) * (Blk T6 (.cells #[.pointer (some ⟨b, 0, none⟩)] 27 (0, 0)) * Blk B3 (.cells #[va] 23 (0, 0)) ))))))))))) by ac_rfl))
  · refine h.drew.new fun Q w4 h4 => ?_
    simp -dsimp -implicitDefEqProofs (disch := omega) only [go_sem, reqD_of, dec_t, dec_f, wrap_i64, wrap_u32, wrap_u64, wrap_u8, hd, e4, e5, e7, e10, h4.cl T7, h4.cl T10, h4.drew.cl T7, h4.drew.cl T10]
    refine (refAll_any h4.sw2).mono ?_
    rintro e' w2 ⟨v, h2, rfl⟩
    obtain ⟨av, cv, rfl, _⟩ := h2.rowForm v
    simp -dsimp -implicitDefEqProofs (disch := omega) only [go_sem, reqD_of, dec_t, dec_f, wrap_i64, wrap_u32, wrap_u64, wrap_u8, hd, e4, e5, e7, e10, h2.cl T7, h2.cl T10, h2.drew.cl T7, h2.drew.cl T10]
    refine (lawNext_any (last := last) (by omega) h2).mono ?_
    rintro e' w3 ⟨h3, rfl⟩
    rw [hnw]
    simp -dsimp -implicitDefEqProofs (disch := omega) only [go_sem, reqD_of, dec_t, dec_f, wrap_i64, wrap_u32, wrap_u64, wrap_u8, hd, e4, e5, e7, e10, h3.cl T7, h3.cl T10, h3.drew.cl T7, h3.drew.cl T10]
    refine h3.stoAll (b := Q) (cs := infL infZ) rfl rfl (infL_cells _) fun w9 h9 => ?_
    simp -dsimp -implicitDefEqProofs (disch := omega) only [go_sem, reqD_of, dec_t, dec_f, wrap_i64, wrap_u32, wrap_u64, wrap_u8, hd, e4, e5, e7, e10]
    exact nodesAll_t36 (Q := Q) (M := M) (C4 := C4) (by simp -dsimp -implicitDefEqProofs only [go_sem, hd]) (by simp -dsimp -implicitDefEqProofs only [go_sem, e4]) (by simp -dsimp -implicitDefEqProofs only [go_sem, e5]) (by simp -dsimp -implicitDefEqProofs only [go_sem]) (h9.ac (show _ = Blk Q (.cells (infL infZ).toArray 42 (0, 0)) * (Blk M (.deferred (some [])) * (boolC C4 false * (A * (RefP rb s * (uC T10 last * (intC T11 a * (Blk T7 (.cells #[.pointer (some ⟨rb, 0, none⟩)] 29 (0, 0)) * (StoreP b 0 0 s * (ptrS K b * (Blk T12 (.cells #[.func (.func 46) #[] #[.pointer (some ⟨K, 0, none⟩)]] 47 (0, 0)) * (Blk T6 (.cells #[.pointer (some ⟨b, 0, none⟩)] 27 (0, 0)) * Blk B3 (.cells #[va] 23 (0, 0)) ))))))))))) by ac_rfl))
end
section
attribute [local go_sem] F3.t10_eq F3.t11_eq F3.t36_eq F3.t18_eq F3.t8_eq F3.t4_eq
theorem nodesAll_t13 [Gives A Tabs] {a2 : Option Addr} {c2 b rb T6 T7 C4 B3 : Nat} {D : List AfV} {s : SD} {e : FA} (hA : AfsP A (.slice a2 D.length c2) D) (hw : wtA D ≤ 8388608) (hs : Wf s) (hnx : s.next ≤ 90000)
    (hd : e.ds = []) (e3 : e.ρ 3 = .pointer (some ⟨B3, 0, none⟩)) (e4 : e.ρ 4 = .pointer (some ⟨C4, 0, none⟩)) (e5 : e.ρ 5 = .bool true) (e6 : e.ρ 6 = .pointer (some ⟨T6, 0, none⟩)) (e7 : e.ρ 7 = .pointer (some ⟨T7, 0, none⟩))
    (h : St w0 (AllB b rb T6 T7 C4 B3 (.slice a2 D.length c2) s A) w) :
    cwE Tryz.prog F3.t13 (fnP Tryz.prog #[.cell 4 4] fun e w' => St w0 A w' ∧ e = .returned (.bool true)) e w := by
  rw [F3.t13_eq]
  have hfew := wtA_len D
  simp -dsimp -implicitDefEqProofs (disch := omega) only [go_sem, reqD_of, dec_t, dec_f, wrap_i64, wrap_u32, wrap_u64, wrap_u8, hd, e3, e4, e5, e6, e7]
  refine h.new fun T10 w1 h1 => ?_
  simp -dsimp -implicitDefEqProofs (disch := omega) only [go_sem, reqD_of, dec_t, dec_f, wrap_i64, wrap_u32, wrap_u64, wrap_u8, hd, e3, e4, e5, e6, e7]
  refine h1.sto (b := T10) (off := 0) (by simp) rfl fun w2 h2 => ?_
  simp only [List.setIfInBounds_toArray, List.set_cons_zero] at h2
  simp -dsimp -implicitDefEqProofs (disch := omega) only [go_sem, reqD_of, dec_t, dec_f, wrap_i64, wrap_u32, wrap_u64, wrap_u8, hd, e3, e4, e5, e6, e7]
  refine h2.new fun T11 w3 h3 => ?_
  simp -dsimp -implicitDefEqProofs (disch := omega) only [go_sem, reqD_of, dec_t, dec_f, wrap_i64, wrap_u32, wrap_u64, wrap_u8, hd, e3, e4, e5, e6, e7]
  refine h3.sto (b := T11) (off := 0) (by simp) rfl fun w4 h4 => ?_
  simp only [List.setIfInBounds_toArray, List.set_cons_zero] at h4
  simp -dsimp -implicitDefEqProofs (disch := omega) only [go_sem, reqD_of, dec_t, dec_f, wrap_i64, wrap_u32, wrap_u64, wrap_u8, hd, e3, e4, e5, e6, e7, h4.cl T6]
  refine (all_any (b := b) h4).mono ?_
  rintro e' w5 ⟨K, h5, rfl⟩
  simp -dsimp -implicitDefEqProofs (disch := omega) only [go_sem, reqD_of, dec_t, dec_f, wrap_i64, wrap_u32, wrap_u64, wrap_u8, hd, e3, e4, e5, e6, e7]
  refine h5.new fun T12 w6 h6 => ?_
  simp -dsimp -implicitDefEqProofs (disch := omega) only [go_sem, reqD_of, dec_t, dec_f, wrap_i64, wrap_u32, wrap_u64, wrap_u8, hd, e3, e4, e5, e6, e7]
  refine h6.sto (b := T12) (off := 0) (by simp) rfl fun w7 h7 => ?_
  simp only [List.setIfInBounds_toArray, List.set_cons_zero] at h7
  simp -dsimp -implicitDefEqProofs (disch := omega) only [go_sem, reqD_of, dec_t, dec_f, wrap_i64, wrap_u32, wrap_u64, wrap_u8, hd, e3, e4, e5, e6, e7, h7.cl T12]
  have hD : ∀ y ∈ D, OpOk y.x.o := fun y hy => ((hA.each y hy).2.in_ (by have := wtA_mem hy; omega)).ok
  obtain ⟨N, hNb, hN, hx⟩ := walk_end hD hs
  have h8 : St w0 (RW T10 T11 T12 T6 T7 C4 B3 b rb K (.slice a2 D.length c2) (walkF D s ([] : List Inf).length).2.2 (walkF D s ([] : List Inf).length).2.1 (walkF D s ([] : List Inf).length).1 A * EmpH) w7 := by
    have h7 : St w0 (Blk T12 (.cells #[.func (.func 46) #[] #[.pointer (some ⟨K, 0, none⟩)]] 47 (0, 0)) * (ptrS K b * (intC T11 (0 : Nat) * (uC T10 (0 : Nat) * AllB b rb T6 T7 C4 B3 (.slice a2 D.length c2) s A)))) w7 := h7
    exact (h7.ent (Ent.embL _)).ac (by show _ = RW T10 T11 T12 T6 T7 C4 B3 b rb K (.slice a2 D.length c2) 0 0 s A * EmpH; unfold RW AllB; ac_rfl)
  refine range_introS h8 (gf := 46) (lb := #[.pointer (some ⟨K, 0, none⟩)]) (by simp -dsimp -implicitDefEqProofs only [go_sem]) fact_fnOk_46 (Pass := PassI)
    (fun pre => RW T10 T11 T12 T6 T7 C4 B3 b rb K (.slice a2 D.length c2) (walkF D s pre.length).2.2 (walkF D s pre.length).2.1 (walkF D s pre.length).1 A) (fun _ _ => HP.fact False EmpH) (Ent.rfl' _) ?_
    (fun pre => RV T10 T11 T12 T6 T7 C4 B3 b rb K (.slice a2 D.length c2) (walkF D s pre.length).2.2 (walkF D s pre.length).2.1 (walkF D s pre.length).1 A) (fun pre => StoreP b 0 0 (walkF D s pre.length).1 * ptrS K b) (fun pre => by rw [RW.as]; ac_rfl) (allIterS (R := EmpH) hD hs hN hx) ?_ ?_
  · intro q pre x args G W1 hpo h6
    obtain ⟨hpl, hpe⟩ := hpo
    obtain ⟨_, hxe⟩ := toldL_snoc hpe
    have hi : pre.length < N := by rw [List.length_append] at hpl; exact hpl
    have hti := hx _ hi
    obtain ⟨hwi, hai, hni⟩ := walk_wf hD hs pre.length
    have hl1 : (pre ++ [x]).length = pre.length + 1 := by simp
    obtain ⟨Wi, hWi⟩ : ∃ Wi, Wi = walkF D s pre.length := ⟨_, rfl⟩
    have hW1 : walkF D s (pre.length + 1) = ((goF D 3 Wi.1 Wi.2.1).1, (goF D 3 Wi.1 Wi.2.1).2 + 1, x.path) := by rw [hxe, hWi]; rfl
    have hti : leastF Wi.1 Wi.2.2 = some x := by rw [hxe, hWi]; exact hti
    simp only [← hWi] at h6 hwi hai hni
    have h6 : St w0 (RW T10 T11 T12 T6 T7 C4 B3 b rb K (.slice a2 D.length c2) Wi.2.2 Wi.2.1 Wi.1 A * (PassI x args * G)) W1 := h6
    obtain ⟨rfl, h7⟩ := PassI.open (h6.ac (by ac_rfl : _ = PassI x args * (RW T10 T11 T12 T6 T7 C4 B3 b rb K (.slice a2 D.length c2) Wi.2.2 Wi.2.1 Wi.1 A * G)))
    refine ⟨rfl, ?_⟩
    unfold F3.a1
    simp -dsimp -implicitDefEqProofs (disch := omega) only [go_sem, reqD_of, dec_t, dec_f, wrap_i64, wrap_u32, wrap_u64, wrap_u8, hd, e3, e4, e5, e6, e7, List.toList_toArray]
    refine h6.new fun P w5 h8 => ?_
    simp -dsimp -implicitDefEqProofs (disch := omega) only [go_sem, reqD_of, dec_t, dec_f, wrap_i64, wrap_u32, wrap_u64, wrap_u8, hd, e3, e4, e5, e6, e7]
    refine h8.stoAll (b := P) (n := 13) (cs := infL x) rfl rfl (infL_cells x) fun w6 h9 => ?_
    simp -dsimp -implicitDefEqProofs (disch := omega) only [go_sem, reqD_of, dec_t, dec_f, wrap_i64, wrap_u32, wrap_u64, wrap_u8, hd, e3, e4, e5, e6, e7]
    refine ⟨infB P x, ?_, fun G2 W2 hl2 h10 => ?_⟩
    · rw [← hWi]; exact h9
    simp only [← hWi] at h10
    have h10 : St w0 (infB P x * (RW T10 T11 T12 T6 T7 C4 B3 b rb K (.slice a2 D.length c2) Wi.2.2 Wi.2.1 Wi.1 A * (PassI x #[.agg (infL x).toArray] * G2))) W2 := h10
    have h11 : St w0 (infB P x * RW T10 T11 T12 T6 T7 C4 B3 b rb K (.slice a2 D.length c2) Wi.2.2 Wi.2.1 Wi.1 (A * G2)) W2 := (h10.ent (Ent.sep (Ent.rfl' _) (Ent.sep (Ent.rfl' _) (Ent.right _ _)))).ac (by unfold RW; ac_rfl)
    refine nodesAll_b1 (A := A * G2) (P := P) (hA.up (Ent.left _ _)) ((Ent.right _ _).trans hl2) hw hwi (by omega) (by omega) hti (by simp -dsimp -implicitDefEqProofs only [go_sem]) (by simp -dsimp -implicitDefEqProofs only [go_sem, e3]) (by simp -dsimp -implicitDefEqProofs only [go_sem, e4]) (by simp -dsimp -implicitDefEqProofs only [go_sem, e6]) (by simp -dsimp -implicitDefEqProofs only [go_sem, e7]) (by simp -dsimp -implicitDefEqProofs only [go_sem]) (by simp -dsimp -implicitDefEqProofs only [go_sem]) (by simp -dsimp -implicitDefEqProofs only [go_sem]) (by simp -dsimp -implicitDefEqProofs only [go_sem]) h11 fun w' h' => ?_
    show St w0 (RW T10 T11 T12 T6 T7 C4 B3 b rb K (.slice a2 D.length c2) (walkF D s (pre ++ [x]).length).2.2 (walkF D s (pre ++ [x]).length).2.1 (walkF D s (pre ++ [x]).length).1 A * G2) w'
    rw [hl1, hW1]
    exact h'.ac (by unfold RW; ac_rfl)
  · intro M xs w' hS h6
    subst hS
    rw [toldL_len] at h6
    simp -dsimp -implicitDefEqProofs (disch := omega) only [go_sem, reqD_of, dec_t, dec_f, wrap_i64, wrap_u32, wrap_u64, wrap_u8]
    exact nodesAll_t35 (walk_wf hD hs N).1 hN (by simp -dsimp -implicitDefEqProofs only [go_sem, hd]) (by simp -dsimp -implicitDefEqProofs only [go_sem, e4]) (by simp -dsimp -implicitDefEqProofs only [go_sem, e5]) (by simp -dsimp -implicitDefEqProofs only [go_sem, e7]) (by simp -dsimp -implicitDefEqProofs only [go_sem]) (h6.ent (Ent.sep (Ent.rfl' _) (Ent.left _ _)))
  · intro M c pre w' h6
    exact (h6.sw2.factF).1.elim
end
end
end Go.Proofs.YtijnmokpihhhcaaGreatDoor

namespace Go.Proofs.YtijnmokpihhhcaaGreatDoor
open Go
set_option linter.unusedVariables false
set_option linter.unusedSimpArgs false
set_option maxRecDepth 100000

section
variable {w0 w : World} {A : HP}
section
attribute [local go_sem] F3.t10_eq F3.t11_eq F3.t36_eq F3.t35_eq F3.t18_eq F3.t8_eq F3.t4_eq
theorem nodesAll_any [Gives A Tabs] {a a2 : Option Addr} {c c2 : Nat} {ops : List OpV} {D : List AfV} (hP : OpsP A (.slice a ops.length c) ops) (hA : AfsP A (.slice a2 D.length c2) D) (h : St w0 A w) :
    Calls Tryz.prog 3 #[.slice a ops.length c, .slice a2 D.length c2] w fun e w' => St w0 A w' ∧ e = .returned (.bool true) := by
  refine F3.calls (by simp) ?_
  unfold F3.code
  simp -dsimp -implicitDefEqProofs (disch := omega) only [go_sem, reqD_of, dec_t, dec_f, wrap_i64, wrap_u32, wrap_u64, wrap_u8]
  refine h.new fun B3 w1 h1 => ?_
  simp -dsimp -implicitDefEqProofs (disch := omega) only [go_sem, reqD_of, dec_t, dec_f, wrap_i64, wrap_u32, wrap_u64, wrap_u8]
  refine h1.new fun C4 w2 h2 => ?_
  simp -dsimp -implicitDefEqProofs (disch := omega) only [go_sem, reqD_of, dec_t, dec_f, wrap_i64, wrap_u32, wrap_u64, wrap_u8]
  refine (works_any h2).mono ?_
  rintro e w3 ⟨h3, rfl⟩
  simp -dsimp -implicitDefEqProofs (disch := omega) only [go_sem, reqD_of, dec_t, dec_f, wrap_i64, wrap_u32, wrap_u64, wrap_u8, h3.right.cl B3]
  have kA : ∀ {X Y : HP}, Ent (X * (Y * A)) A := (Ent.right _ _).trans (Ent.right _ _)
  refine (ofAfters_any (hA.up kA) h3).mono ?_
  rintro e w4 ⟨h4, k, rfl, hk1, hk2⟩
  simp -dsimp -implicitDefEqProofs (disch := omega) only [go_sem, reqD_of, dec_t, dec_f, wrap_i64, wrap_u32, wrap_u64, wrap_u8]
  refine (ofOps_any (hP.up kA) (n := k) (by omega) h4).mono ?_
  rintro e w5 ⟨h5, q, rfl, hq⟩
  by_cases hbig : (8388608 : Int) < q
  · simp -dsimp -implicitDefEqProofs (disch := omega) only [go_sem, reqD_of, dec_t, dec_f, wrap_i64, wrap_u32, wrap_u64, wrap_u8, hbig]
    refine h5.sto (b := C4) (off := 0) (by simp) rfl fun w6 h6 => ?_
    simp only [List.setIfInBounds_toArray, List.set_cons_zero] at h6
    simp -dsimp -implicitDefEqProofs (disch := omega) only [go_sem, reqD_of, dec_t, dec_f, wrap_i64, wrap_u32, wrap_u64, wrap_u8]
    refine resC_1 (a := ⟨C4, 0, none⟩) (v := .bool true) (by simp -dsimp -implicitDefEqProofs only [go_sem]) (run_loadVar_cell fact_aggSz_4 (by rw [h6.cl C4]; rfl)) ?_
    exact ⟨h6.right.right, rfl⟩
  have hqw := hq (by omega)
  have hkD := hk2 (by omega)
  have hkw : wtA D ≤ 8388608 := by omega
  subst hkD
  simp -dsimp -implicitDefEqProofs (disch := omega) only [go_sem, reqD_of, dec_t, dec_f, wrap_i64, wrap_u32, wrap_u64, wrap_u8, hbig]
  refine (store_any (n := 100) (by decide) h5).mono ?_
  rintro e w6 ⟨b, h6, rfl⟩
  simp -dsimp -implicitDefEqProofs (disch := omega) only [go_sem, reqD_of, dec_t, dec_f, wrap_i64, wrap_u32, wrap_u64, wrap_u8]
  refine h6.new fun T6 w7 h7 => ?_
  simp -dsimp -implicitDefEqProofs (disch := omega) only [go_sem, reqD_of, dec_t, dec_f, wrap_i64, wrap_u32, wrap_u64, wrap_u8]
  refine h7.sto (b := T6) (off := 0) (by simp) rfl fun w8 h8 => ?_
  simp only [List.setIfInBounds_toArray, List.set_cons_zero] at h8
  simp -dsimp -implicitDefEqProofs (disch := omega) only [go_sem, reqD_of, dec_t, dec_f, wrap_i64, wrap_u32, wrap_u64, wrap_u8]
  refine onV_of (v := .agg (cfgL (storeCfg 100)).toArray) (by kernel_rfl) ?_
  simp -dsimp -implicitDefEqProofs (disch := omega) only [go_sem, reqD_of, dec_t, dec_f, wrap_i64, wrap_u32, wrap_u64, wrap_u8]
  refine (refNew_full (c := storeCfg 100) (storeCfg_in (by decide)) h8).mono ?_
  intro e w9 hq
  rw [storeOk] at hq
  obtain ⟨rb, h9, rfl⟩ := hq
  have h9 : St w0 (RefP rb (storeF 100) * (Blk T6 (.cells #[.pointer (some ⟨b, 0, none⟩)] 27 (0, 0)) * (StoreP b 0 0 (storeF 100) * (boolC C4 false * (Blk B3 (.cells #[.slice a2 D.length c2] 23 (0, 0)) * A))))) w9 := h9
  simp -dsimp -implicitDefEqProofs (disch := omega) only [go_sem, reqD_of, dec_t, dec_f, wrap_i64, wrap_u32, wrap_u64, wrap_u8]
  refine h9.new fun T7 w10 h10 => ?_
  simp -dsimp -implicitDefEqProofs (disch := omega) only [go_sem, reqD_of, dec_t, dec_f, wrap_i64, wrap_u32, wrap_u64, wrap_u8]
  refine h10.sto (b := T7) (off := 0) (by simp) rfl fun w11 h11 => ?_
  simp only [List.setIfInBounds_toArray, List.set_cons_zero] at h11
  simp -dsimp -implicitDefEqProofs (disch := omega) only [go_sem, reqD_of, dec_t, dec_f, wrap_i64, wrap_u32, wrap_u64, wrap_u8, h11.cl T6]
  have h12 : St w0 (AllB b rb T6 T7 C4 B3 (.slice a2 D.length c2) (storeF 100) A) w11 := h11.ac (by unfold AllB; ac_rfl)
  have hfew := wt_len ops
  refine loop_intro (fun e w' => e.ds = [] ∧ e.ρ 0 = .slice a ops.length c ∧ e.ρ 3 = .pointer (some ⟨B3, 0, none⟩) ∧ e.ρ 4 = .pointer (some ⟨C4, 0, none⟩) ∧ e.ρ 5 = .bool true ∧ e.ρ 6 = .pointer (some ⟨T6, 0, none⟩) ∧ e.ρ 7 = .pointer (some ⟨T7, 0, none⟩) ∧ ∃ i : Nat, i ≤ ops.length ∧ e.ρ 9 = .int .i64 i ∧ St w0 (AllB b rb T6 T7 C4 B3 (.slice a2 D.length c2) (runF (storeF 100) (ops.take i)) A) w')
    (fun e _ => match e.ρ 9 with | .int _ k => (ops.length - k).toNat | _ => 0) ?_ ?_
  · exact ⟨by simp -dsimp -implicitDefEqProofs only [go_sem], by simp -dsimp -implicitDefEqProofs only [go_sem], by simp -dsimp -implicitDefEqProofs only [go_sem], by simp -dsimp -implicitDefEqProofs only [go_sem], by simp -dsimp -implicitDefEqProofs only [go_sem], by simp -dsimp -implicitDefEqProofs only [go_sem], by simp -dsimp -implicitDefEqProofs only [go_sem], 0, by omega, by simp -dsimp -implicitDefEqProofs only [go_sem], h12⟩
  clear h h1 h2 h3 h4 h5 h6 h7 h8 h9 h10 h11 h12
  rintro e w ⟨hd, e0, e3, e4, e5, e6, e7, i, hi, e9, h⟩
  by_cases hlt : (i : Int) < ops.length
  case neg =>
    have : i = ops.length := by omega
    subst this
    rw [List.take_length] at h
    simp -dsimp -implicitDefEqProofs (disch := omega) only [go_sem, reqD_of, dec_t, dec_f, wrap_i64, wrap_u32, wrap_u64, wrap_u8, hd, e0, e3, e4, e5, e6, e7, e9, hlt]
    have hn0 := run_next (storeF 100) ops
    have hn1 : (storeF 100).next = 2 := rfl
    exact nodesAll_t13 hA hkw (run_wf (store_wf (n := 100) (by decide)) hP.each) (by omega) (by simp -dsimp -implicitDefEqProofs only [go_sem, hd]) (by simp -dsimp -implicitDefEqProofs only [go_sem, e3]) (by simp -dsimp -implicitDefEqProofs only [go_sem, e4]) (by simp -dsimp -implicitDefEqProofs only [go_sem, e5]) (by simp -dsimp -implicitDefEqProofs only [go_sem, e6]) (by simp -dsimp -implicitDefEqProofs only [go_sem, e7]) h
  have hil : i < ops.length := by omega
  obtain ⟨_, a', c', hv, _, hat⟩ := St.rowsAt opVL_len (by decide) ((h.ent AllB.up).ent hP.rd)
  simp only [Value.slice.injEq, true_and] at hv
  obtain ⟨rfl, rfl⟩ := hv
  obtain ⟨g, o, rfl, hrow, _⟩ := hat i hil
  have hx := hP.each _ (List.getElem_mem hil)
  have hwx := wt_mem (List.getElem_mem hil)
  have hnx := run_next (storeF 100) (ops.take i)
  have hn2 : (storeF 100).next = 2 := rfl
  have hln : (ops.take i).length = i := by simp; omega
  haveI : Gives A (RdB ops[i].v ops[i].o.data) := ⟨hx.data⟩
  have hrow2 : rowV w.drew ⟨g, o + i * 20, none⟩ 20 = some (.agg (opVL ops[i]).toArray) := hrow
  simp -dsimp -implicitDefEqProofs (disch := omega) only [go_sem, reqD_of, dec_t, dec_f, wrap_i64, wrap_u32, wrap_u64, wrap_u8, hd, e0, e3, e4, e5, e6, e7, e9, hlt, hrow, hrow2, h.cl T6, h.drew.cl T6]
  refine (do_any (o := ops[i].o) (vd := ops[i].v) (hx.in_ (by omega)) hx.kind (by omega) h.drew).mono ?_
  rintro e' w1 ⟨h1, rfl⟩
  obtain ⟨_, _, _, hv1, _, hat1⟩ := St.rowsAt opVL_len (by decide) ((h1.right.right.right.right.right.right).ent hP.rd)
  simp only [Value.slice.injEq, true_and] at hv1
  obtain ⟨rfl, rfl⟩ := hv1
  obtain ⟨_, _, hg1, hrow1, _⟩ := hat1 i hil
  simp only [Option.some.injEq, Addr.mk.injEq, and_true] at hg1
  obtain ⟨rfl, rfl⟩ := hg1
  have hrow3 : rowV w1.drew ⟨g, o + i * 20, none⟩ 20 = some (.agg (opVL ops[i]).toArray) := hrow1
  simp -dsimp -implicitDefEqProofs (disch := omega) only [go_sem, reqD_of, dec_t, dec_f, wrap_i64, wrap_u32, wrap_u64, wrap_u8, hd, e0, e3, e4, e5, e6, e7, e9, hlt, hrow1, hrow3, h1.cl T6, h1.drew.cl T6, h1.cl T7, h1.drew.cl T7]
  refine (refDo_any (o := ops[i].o) (vd := ops[i].v) (hx.in_ (by omega)) hx.kind (by omega) h1.drew.sw2).mono ?_
  rintro e' w2 ⟨h2, rfl⟩
  have h2 := h2.sw2
  rw [← run_take _ hil] at h2
  obtain ⟨_, _, _, hv2, _, hat2⟩ := St.rowsAt opVL_len (by decide) ((h2.right.right.right.right.right.right).ent hP.rd)
  simp only [Value.slice.injEq, true_and] at hv2
  obtain ⟨rfl, rfl⟩ := hv2
  obtain ⟨_, _, hg2, hrow4, _⟩ := hat2 i hil
  simp only [Option.some.injEq, Addr.mk.injEq, and_true] at hg2
  obtain ⟨rfl, rfl⟩ := hg2
  simp -dsimp -implicitDefEqProofs (disch := omega) only [go_sem, reqD_of, dec_t, dec_f, wrap_i64, wrap_u32, wrap_u64, wrap_u8, hd, e0, e3, e4, e5, e6, e7, e9, hlt, hrow4, h2.cl T7]
  exact ⟨⟨i + 1, by omega, by omega, h2⟩, by omega⟩
end
end
end Go.Proofs.YtijnmokpihhhcaaGreatDoor

namespace Go.Proofs.YtijnmokpihhhcaaGreatDoor
open Go
set_option linter.unusedVariables false
set_option linter.unusedSimpArgs false
set_option maxRecDepth 100000

abbrev rOq := rCons 1 (rInt .u8) (rCons 1 (rInt .u64) (rCons 1 rStr (rCons 1 (rInt .u8) (rCons 13 rInf (rCons 1 (rInt .u64) (rCons 1 rBytes (rCons 1 (rInt .i64) (rEnd))))))))
theorem rOq_cells {x} {cs : List Value} {h : Heap} (r : rOq.rel x cs h) : ∃ y : OpV, cs = opVL y ∧ OpIs y h := by
  obtain ⟨x1, x2, x3, x4, ⟨y1, y2, y3, y4, y5, y6, y7, y8, y9, y10, y11, y12, y13, _⟩, x6, bs, x8, _⟩ := x
  obtain ⟨_, _, rfl, _, ⟨rfl, w1⟩, _, _, rfl, _, ⟨rfl, w2⟩, _, _, rfl, _, ⟨rfl, w3⟩, _, _, rfl, _, ⟨rfl, w4⟩, ci, _, rfl, _, ri, _, _, rfl, _, ⟨rfl, w6⟩, cd, _, rfl, hl7, ⟨v, rfl, hb, hbl⟩, _, _, rfl, _, ⟨rfl, w8⟩, rfl⟩ := r
  obtain ⟨_, _, rfl, _, ⟨rfl, i1⟩, _, _, rfl, _, ⟨rfl, i2⟩, _, _, rfl, _, ⟨rfl, i3⟩, _, _, rfl, _, ⟨rfl, i4⟩, _, _, rfl, _, ⟨rfl, i5⟩, _, _, rfl, _, ⟨rfl, i6⟩, _, _, rfl, _, ⟨rfl, i7⟩, _, _, rfl, _, ⟨rfl, i8⟩, _, _, rfl, _, ⟨rfl, i9⟩, _, _, rfl, _, ⟨rfl, i10⟩, _, _, rfl, _, ⟨rfl, i11⟩, _, _, rfl, _, ⟨rfl, i12⟩, _, _, rfl, _, ⟨rfl, i13⟩, rfl⟩ := ri
  obtain ⟨a1, a2⟩ := wf_u8 w1
  obtain ⟨b1, b2⟩ := wf_u64 w2
  obtain ⟨c1, c2⟩ := wf_u8 w4
  obtain ⟨d1, d2⟩ := wf_u64 w6
  obtain ⟨e1, e2⟩ := wf_i64 w8
  obtain ⟨f1, f2⟩ := wf_u64 i1
  obtain ⟨g1, g2⟩ := wf_u64 i2
  obtain ⟨h1, h2⟩ := wf_u32 i4
  obtain ⟨k1, k2⟩ := wf_u32 i8
  obtain ⟨l1, l2⟩ := wf_u32 i9
  obtain ⟨m1, m2⟩ := wf_u32 i10
  obtain ⟨n1, n2⟩ := wf_u64 i11
  have hq : reachBytes = 140737488351232 := rfl
  have hbl : bs.length ≤ reachBytes := hbl
  refine ⟨⟨⟨x1.toNat, x2.toNat, x3.data.toList, x4.toNat, ⟨y1.toNat, y2.toNat, y3.data.toList, y4.toNat, y5.data.toList, y6.data.toList, y7.data.toList, y8.toNat, y9.toNat, y10.toNat, y11.toNat, y12, y13⟩, x6.toNat, bs, x8⟩, v⟩, ?_, ⟨a2, c2, d2, h2, k2, l2, e1, e2, hb, (by show bs.length ≤ 140737488355328; omega), str_reach w3, str_reach i3, str_reach i5, str_reach i6, str_reach i7⟩⟩
  simp only [opVL, opL, strOf_eta, a1, b1, c1, d1, f1, g1, h1, k1, l1, m1, n1, List.cons_append, List.nil_append]
theorem ops_arq {W : World} {xs} {v : Value} (c : (rSlice 20 208 rOq).rel xs [v] (heapOf W)) : ∃ ops : List OpV, (∃ a c, v = .slice a ops.length c) ∧ OpsP (Old W) v ops := by
  obtain ⟨ops, hl, h1, h2⟩ := rSlice_choose (β := OpV) (enc := opVL) (p := OpIs) (fun x cs h r => rOq_cells r) opVL_len c
  have hb := rSlice_len c
  have hq : reachBytes = 140737488351232 := rfl
  have hr : Ent (Old W) (Reads 20 v ops.length (ops.flatMap opVL)) := Ent.of fun _ ho => Reads.mono (fun b o e => ho b o e) h2
  obtain ⟨_, a, c', e, _⟩ := St.rowsAt opVL_len (by decide) ((St.start W).ent hr)
  exact ⟨ops, ⟨a, c', e⟩, hr, fun y hy => (h1 y hy).a, by omega⟩
end Go.Proofs.YtijnmokpihhhcaaGreatDoor

namespace Go.Proofs.YtijnmokpihhhcaaGreatDoor
open Go
set_option linter.unusedVariables false
set_option linter.unusedSimpArgs false
set_option maxRecDepth 100000

abbrev rAf := rCons 1 (rInt .i64) (rCons 20 rOq (rEnd))
structure AfIs (y : AfV) (h : Heap) : Prop where
  n0 : -9223372036854775808 ≤ y.n
  n1 : y.n ≤ 9223372036854775807
  op : OpIs y.x h
theorem rAf_cells {x} {cs : List Value} {h : Heap} (r : rAf.rel x cs h) : ∃ y : AfV, cs = afL y ∧ AfIs y h := by
  obtain ⟨x1, x2, _⟩ := x
  obtain ⟨_, _, rfl, _, ⟨rfl, w1⟩, co, _, rfl, _, ro, rfl⟩ := r
  obtain ⟨y, rfl, hy⟩ := rOq_cells ro
  obtain ⟨e1, e2⟩ := wf_i64 w1
  exact ⟨⟨x1, y⟩, by simp [afL], ⟨e1, e2, hy⟩⟩
theorem afs_arq {W : World} {xs} {v : Value} (c : (rSlice 21 216 rAf).rel xs [v] (heapOf W)) : ∃ D : List AfV, (∃ a c, v = .slice a D.length c) ∧ AfsP (Old W) v D := by
  obtain ⟨D, hl, h1, h2⟩ := rSlice_choose (β := AfV) (enc := afL) (p := AfIs) (fun x cs h r => rAf_cells r) afL_len c
  have hb := rSlice_len c
  have hq : reachBytes = 140737488351232 := rfl
  have hr : Ent (Old W) (Reads 21 v D.length (D.flatMap afL)) := Ent.of fun _ ho => Reads.mono (fun b o e => ho b o e) h2
  obtain ⟨_, a, c', e, _⟩ := St.rowsAt afL_len (by decide) ((St.start W).ent hr)
  exact ⟨D, ⟨a, c', e⟩, hr, fun y hy => ⟨⟨(h1 y hy).n0, (h1 y hy).n1⟩, (h1 y hy).op.a⟩, by omega⟩
end Go.Proofs.YtijnmokpihhhcaaGreatDoor

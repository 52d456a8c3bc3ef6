/- The compiled code of the functions, by program (genir.py): each with the theorem that it is what the engine makes of the loaded program's. -/
import Derived.Test.YtacmnfpgimgigaaZ1
import Derived.Test.YtacmnfpgimgigaaZ2
import Derived.Test.YtacmnfpgimgigaaZ3
import Derived.Test.YtacmnfpgimgigaaZ4
import Derived.Test.YtacmnfpgimgigaaZ5
import Derived.Test.YtacmnfpgimgigaaZ6
import Derived.Test.YtacmnfpgimgigaaZ7
import Derived.Test.YtacmnfpgimgigaaZ8
import Derived.Test.YtacmnfpgimgigaaProg
namespace Go.Proofs.Ytacmnfpgimgigaa
open Go
set_option maxRecDepth 100000

theorem follows : Try.prog.follows .mixedOrders = true := by kernel_rfl

theorem fact_aggSz_23 : aggSz Try.prog 23 = some none := by kernel_rfl
theorem fact_aggSz_24 : aggSz Try.prog 24 = some none := by kernel_rfl
theorem fact_aggSz_26 : aggSz Try.prog 26 = some (some 3) := by kernel_rfl
theorem fact_aggSz_3 : aggSz Try.prog 3 = some none := by kernel_rfl
theorem fact_aggSz_34 : aggSz Try.prog 34 = some none := by kernel_rfl
theorem fact_aggSz_38 : aggSz Try.prog 38 = some (some 4) := by kernel_rfl
theorem fact_aggSz_4 : aggSz Try.prog 4 = some none := by kernel_rfl
theorem fact_aggSz_44 : aggSz Try.prog 44 = some (some 4) := by kernel_rfl
theorem fact_aggSz_63 : aggSz Try.prog 63 = some none := by kernel_rfl
theorem fact_aggSz_64 : aggSz Try.prog 64 = some none := by kernel_rfl
theorem fact_aggSz_69 : aggSz Try.prog 69 = some none := by kernel_rfl
theorem fact_aggSz_74 : aggSz Try.prog 74 = some (some 2) := by kernel_rfl
theorem fact_bldP_26 : bldP Try.prog 26 = some ([.int .u8 0, .int .i64 0, .int .u64 0], some [(0, 1), (1, 1), (2, 1)], 0) := by kernel_rfl
theorem fact_bldP_38 : bldP Try.prog 38 = some ([.int .u8 0, .int .i64 0, .int .u64 0, .bool false], some [(0, 3), (3, 1)], 0) := by kernel_rfl
theorem fact_bldP_66 : bldP Try.prog 66 = some ([.map none, .map none], some [(0, 1), (1, 1)], 0) := by kernel_rfl
theorem fact_bldP_71 : bldP Try.prog 71 = some ([.slice none 0 0, .slice none 0 0], some [(0, 1), (1, 1)], 0) := by kernel_rfl
theorem fact_bldP_74 : bldP Try.prog 74 = some ([.int .i64 0, .bool false], some [(0, 1), (1, 1)], 0) := by kernel_rfl
theorem fact_elemOf_29 : elemOf? Try.prog 29 = some (none, 4) := by kernel_rfl
theorem fact_elemOf_32 : elemOf? Try.prog 32 = some (none, 1) := by kernel_rfl
theorem fact_elemOf_33 : elemOf? Try.prog 33 = some (none, 4) := by kernel_rfl
theorem fact_elemOf_34 : elemOf? Try.prog 34 = some (none, 1) := by kernel_rfl
theorem fact_elemOf_69 : elemOf? Try.prog 69 = some (none, 2) := by kernel_rfl
theorem fact_fieldOff_26_0 : fieldOff Try.prog 26 0 = some 0 := by kernel_rfl
theorem fact_fieldOff_26_1 : fieldOff Try.prog 26 1 = some 1 := by kernel_rfl
theorem fact_fieldOff_26_2 : fieldOff Try.prog 26 2 = some 2 := by kernel_rfl
theorem fact_fieldOff_38_0 : fieldOff Try.prog 38 0 = some 0 := by kernel_rfl
theorem fact_fieldOff_38_1 : fieldOff Try.prog 38 1 = some 3 := by kernel_rfl
theorem fact_fieldOff_44_0 : fieldOff Try.prog 44 0 = some 0 := by kernel_rfl
theorem fact_fieldOff_44_1 : fieldOff Try.prog 44 1 = some 1 := by kernel_rfl
theorem fact_fieldOff_44_2 : fieldOff Try.prog 44 2 = some 2 := by kernel_rfl
theorem fact_fieldOff_44_3 : fieldOff Try.prog 44 3 = some 3 := by kernel_rfl
theorem fact_fieldOff_66_0 : fieldOff Try.prog 66 0 = some 0 := by kernel_rfl
theorem fact_fieldOff_66_1 : fieldOff Try.prog 66 1 = some 1 := by kernel_rfl
theorem fact_fieldOff_71_0 : fieldOff Try.prog 71 0 = some 0 := by kernel_rfl
theorem fact_fieldOff_71_1 : fieldOff Try.prog 71 1 = some 1 := by kernel_rfl
theorem fact_fieldOff_74_0 : fieldOff Try.prog 74 0 = some 0 := by kernel_rfl
theorem fact_fieldOff_74_1 : fieldOff Try.prog 74 1 = some 1 := by kernel_rfl
theorem fact_flatE_26 : flatE Try.prog 26 = some [.int, .int, .int] := by kernel_rfl
theorem fact_flatE_38 : flatE Try.prog 38 = some [.int, .int, .int, .bool] := by kernel_rfl
theorem fact_fnOk_10 : fnOk Try.prog 10 = true := by kernel_rfl
theorem fact_fnOk_11 : fnOk Try.prog 11 = true := by kernel_rfl
theorem fact_fnOk_12 : fnOk Try.prog 12 = true := by kernel_rfl
theorem fact_fnOk_13 : fnOk Try.prog 13 = true := by kernel_rfl
theorem fact_fnOk_14 : fnOk Try.prog 14 = true := by kernel_rfl
theorem fact_fnOk_15 : fnOk Try.prog 15 = true := by kernel_rfl
theorem fact_fnOk_16 : fnOk Try.prog 16 = true := by kernel_rfl
theorem fact_fnOk_17 : fnOk Try.prog 17 = true := by kernel_rfl
theorem fact_fnOk_18 : fnOk Try.prog 18 = true := by kernel_rfl
theorem fact_fnOk_19 : fnOk Try.prog 19 = true := by kernel_rfl
theorem fact_fnOk_20 : fnOk Try.prog 20 = true := by kernel_rfl
theorem fact_fnOk_21 : fnOk Try.prog 21 = true := by kernel_rfl
theorem fact_fnOk_22 : fnOk Try.prog 22 = true := by kernel_rfl
theorem fact_fnOk_23 : fnOk Try.prog 23 = true := by kernel_rfl
theorem fact_fnOk_24 : fnOk Try.prog 24 = true := by kernel_rfl
theorem fact_fnOk_25 : fnOk Try.prog 25 = true := by kernel_rfl
theorem fact_fnOk_26 : fnOk Try.prog 26 = true := by kernel_rfl
theorem fact_fnOk_27 : fnOk Try.prog 27 = true := by kernel_rfl
theorem fact_fnOk_28 : fnOk Try.prog 28 = true := by kernel_rfl
theorem fact_fnOk_29 : fnOk Try.prog 29 = true := by kernel_rfl
theorem fact_fnOk_30 : fnOk Try.prog 30 = true := by kernel_rfl
theorem fact_fnOk_31 : fnOk Try.prog 31 = true := by kernel_rfl
theorem fact_fnOk_32 : fnOk Try.prog 32 = true := by kernel_rfl
theorem fact_fnOk_33 : fnOk Try.prog 33 = true := by kernel_rfl
theorem fact_fnOk_34 : fnOk Try.prog 34 = true := by kernel_rfl
theorem fact_fnOk_35 : fnOk Try.prog 35 = true := by kernel_rfl
theorem fact_fnOk_36 : fnOk Try.prog 36 = true := by kernel_rfl
theorem fact_fnOk_38 : fnOk Try.prog 38 = true := by kernel_rfl
theorem fact_fnOk_39 : fnOk Try.prog 39 = true := by kernel_rfl
theorem fact_fnOk_40 : fnOk Try.prog 40 = true := by kernel_rfl
theorem fact_fnOk_41 : fnOk Try.prog 41 = true := by kernel_rfl
theorem fact_fnOk_42 : fnOk Try.prog 42 = true := by kernel_rfl
theorem fact_fnOk_43 : fnOk Try.prog 43 = true := by kernel_rfl
theorem fact_fnOk_44 : fnOk Try.prog 44 = true := by kernel_rfl
theorem fact_fnOk_45 : fnOk Try.prog 45 = true := by kernel_rfl
theorem fact_fnOk_46 : fnOk Try.prog 46 = true := by kernel_rfl
theorem fact_fnOk_47 : fnOk Try.prog 47 = true := by kernel_rfl
theorem fact_fnOk_48 : fnOk Try.prog 48 = true := by kernel_rfl
theorem fact_fnOk_49 : fnOk Try.prog 49 = true := by kernel_rfl
theorem fact_fnOk_50 : fnOk Try.prog 50 = true := by kernel_rfl
theorem fact_fnOk_51 : fnOk Try.prog 51 = true := by kernel_rfl
theorem fact_fnOk_52 : fnOk Try.prog 52 = true := by kernel_rfl
theorem fact_fnOk_53 : fnOk Try.prog 53 = true := by kernel_rfl
theorem fact_fnOk_54 : fnOk Try.prog 54 = true := by kernel_rfl
theorem fact_fnOk_55 : fnOk Try.prog 55 = true := by kernel_rfl
theorem fact_fnOk_56 : fnOk Try.prog 56 = true := by kernel_rfl
theorem fact_fnOk_57 : fnOk Try.prog 57 = true := by kernel_rfl
theorem fact_fnOk_58 : fnOk Try.prog 58 = true := by kernel_rfl
theorem fact_fnOk_59 : fnOk Try.prog 59 = true := by kernel_rfl
theorem fact_fnOk_71 : fnOk Try.prog 71 = true := by kernel_rfl
theorem fact_fnOk_9 : fnOk Try.prog 9 = true := by kernel_rfl
theorem fact_rowTy_32 : rowTy Try.prog 32 = some (34, 1, 24, [.slice none 0 0]) := by kernel_rfl
theorem fact_rowTy_33 : rowTy Try.prog 33 = some (38, 4, 32, [.int .u8 0, .int .i64 0, .int .u64 0, .bool false]) := by kernel_rfl
theorem fact_rowTy_34 : rowTy Try.prog 34 = some (3, 1, 8, [.int .i64 0]) := by kernel_rfl
theorem fact_rowTy_69 : rowTy Try.prog 69 = some (74, 2, 16, [.int .i64 0, .bool false]) := by kernel_rfl
theorem fact_szO_26 : szO Try.prog 26 = some 3 := by kernel_rfl
theorem fact_szO_3 : szO Try.prog 3 = some 1 := by kernel_rfl
theorem fact_szO_34 : szO Try.prog 34 = some 1 := by kernel_rfl
theorem fact_szO_38 : szO Try.prog 38 = some 4 := by kernel_rfl
theorem fact_szO_44 : szO Try.prog 44 = some 4 := by kernel_rfl
theorem fact_szO_69 : szO Try.prog 69 = some 1 := by kernel_rfl
theorem fact_szO_74 : szO Try.prog 74 = some 2 := by kernel_rfl
theorem fact_zeroV_26 : zeroV Try.prog 26 = some (.agg #[.int .u8 0, .int .i64 0, .int .u64 0]) := by kernel_rfl
theorem fact_zeroV_38 : zeroV Try.prog 38 = some (.agg #[.int .u8 0, .int .i64 0, .int .u64 0, .bool false]) := by kernel_rfl
theorem fact_zeroV_44 : zeroV Try.prog 44 = some (.agg #[.int .i64 0, .int .i64 0, .int .i64 0, .bool false]) := by kernel_rfl
theorem fact_zeroV_74 : zeroV Try.prog 74 = some (.agg #[.int .i64 0, .bool false]) := by kernel_rfl

def F3.r0 : List Oper := [
  ⟨(some 0), (.assign (.const (.bool false))), 4, "", #[], none⟩]
def F3.r1 : List Oper := [
  ⟨(some 1), (.move (.const (.bool true))), 4, "", #[], none⟩,
  ⟨(some 2), (.call ⟨(.value (.func 9)), #[], #[]⟩), 4, "", #[⟨0, .chain⟩], (some (1, true))⟩,
  ⟨(some 3), (.pick (.tmp 1) (.tmp 2) (.const (.bool false))), 4, "", #[], none⟩,
  ⟨(some 0), (.assign (.tmp 3)), 4, "", #[], none⟩]
def F3.code : Cd := (.seq (.region 0 F3.r0.toArray false) (.seq (.region 1 F3.r1.toArray false) .ret))
theorem F3.calls {args : Array Value} {w : World} {R : Ending → World → Prop} (hn : args.size ≤ 4) (h : cwE Try.prog F3.code (fnP Try.prog #[(.tmp 0)] R) (entry args) w) : Calls Try.prog 3 args w R :=
  calls_of_cwE (types := Try.prog.types) follows Try.func3 F3.code rfl (by kernel_rfl) hn h

def F4.r0 : List Oper := [
  ⟨(some 3), (.box 26 (.tmp 0)), 0, "", #[⟨0, .chain⟩], none⟩,
  ⟨(some 4), (.box 26 (.tmp 1)), 0, "", #[⟨0, .chain⟩], none⟩,
  ⟨(some 5), (.box 26 (.tmp 2)), 0, "", #[⟨0, .chain⟩], none⟩,
  ⟨(some 6), (.assign (.const (.bool false))), 4, "", #[], none⟩]
def F4.r1 : List Oper := [
  ⟨(some 11), (.call ⟨(.value (.func 9)), #[], #[]⟩), 4, "", #[⟨0, .chain⟩], none⟩,
  ⟨(some 7), (.assign (.tmp 11)), 4, "", #[], none⟩]
def F4.r2 : List Oper := [
  ⟨(some 12), (.load 26 (.tmp 3)), 26, "", #[⟨0, .data⟩], none⟩,
  ⟨(some 13), (.load 26 (.tmp 4)), 26, "", #[⟨0, .data⟩], none⟩,
  ⟨(some 14), (.call ⟨(.value (.func 10)), #[(.tmp 12), (.tmp 13)], #[26, 26]⟩), 3, "", #[⟨0, .chain⟩], none⟩,
  ⟨(some 8), (.assign (.tmp 14)), 3, "", #[], none⟩]
def F4.r3 : List Oper := [
  ⟨(some 15), (.load 26 (.tmp 4)), 26, "", #[⟨0, .data⟩], none⟩,
  ⟨(some 16), (.load 26 (.tmp 5)), 26, "", #[⟨0, .data⟩], none⟩,
  ⟨(some 17), (.call ⟨(.value (.func 10)), #[(.tmp 15), (.tmp 16)], #[26, 26]⟩), 3, "", #[⟨0, .chain⟩], none⟩,
  ⟨(some 9), (.assign (.tmp 17)), 3, "", #[], none⟩]
def F4.r4 : List Oper := [
  ⟨(some 18), (.load 26 (.tmp 3)), 26, "", #[⟨0, .data⟩], none⟩,
  ⟨(some 19), (.load 26 (.tmp 5)), 26, "", #[⟨0, .data⟩], none⟩,
  ⟨(some 20), (.call ⟨(.value (.func 10)), #[(.tmp 18), (.tmp 19)], #[26, 26]⟩), 3, "", #[⟨0, .chain⟩], none⟩,
  ⟨(some 10), (.assign (.tmp 20)), 3, "", #[], none⟩]
def F4.r5 : List Oper := [
  ⟨(some 21), (.move (.tmp 8)), 3, "", #[], none⟩,
  ⟨(some 22), (.load 26 (.tmp 3)), 26, "", #[⟨0, .data⟩], none⟩,
  ⟨(some 23), (.load 26 (.tmp 4)), 26, "", #[⟨0, .data⟩], none⟩,
  ⟨(some 24), (.call ⟨(.value (.func 11)), #[(.tmp 22), (.tmp 23)], #[26, 26]⟩), 3, "", #[⟨0, .chain⟩], none⟩,
  ⟨(some 25), (.binOp .neq 3 (.tmp 21) (.tmp 24) 3), 4, "", #[], none⟩,
  ⟨(some 26), (.move (.tmp 25)), 4, "", #[], none⟩,
  ⟨(some 27), (.move (.tmp 9)), 3, "", #[], (some (26, false))⟩,
  ⟨(some 28), (.load 26 (.tmp 4)), 26, "", #[⟨0, .data⟩], (some (26, false))⟩,
  ⟨(some 29), (.load 26 (.tmp 5)), 26, "", #[⟨0, .data⟩], (some (26, false))⟩,
  ⟨(some 30), (.call ⟨(.value (.func 11)), #[(.tmp 28), (.tmp 29)], #[26, 26]⟩), 3, "", #[⟨0, .chain⟩], (some (26, false))⟩,
  ⟨(some 31), (.binOp .neq 3 (.tmp 27) (.tmp 30) 3), 4, "", #[], (some (26, false))⟩,
  ⟨(some 32), (.pick (.tmp 26) (.const (.bool true)) (.tmp 31)), 4, "", #[], none⟩,
  ⟨(some 33), (.move (.tmp 32)), 4, "", #[], none⟩,
  ⟨(some 34), (.move (.tmp 10)), 3, "", #[], (some (33, false))⟩,
  ⟨(some 35), (.load 26 (.tmp 3)), 26, "", #[⟨0, .data⟩], (some (33, false))⟩,
  ⟨(some 36), (.load 26 (.tmp 5)), 26, "", #[⟨0, .data⟩], (some (33, false))⟩,
  ⟨(some 37), (.call ⟨(.value (.func 11)), #[(.tmp 35), (.tmp 36)], #[26, 26]⟩), 3, "", #[⟨0, .chain⟩], (some (33, false))⟩,
  ⟨(some 38), (.binOp .neq 3 (.tmp 34) (.tmp 37) 3), 4, "", #[], (some (33, false))⟩,
  ⟨(some 39), (.pick (.tmp 33) (.const (.bool true)) (.tmp 38)), 4, "", #[], none⟩]
def F4.r6 : List Oper := [
  ⟨(some 6), (.assign (.const (.bool false))), 4, "", #[], none⟩]
def F4.r7 : List Oper := [
  ⟨(some 40), (.move (.tmp 8)), 3, "", #[], none⟩,
  ⟨(some 41), (.binOp .leq 3 (.tmp 40) (.const (.int .i64 0)) 3), 4, "", #[], none⟩,
  ⟨(some 42), (.move (.tmp 41)), 4, "", #[], none⟩,
  ⟨(some 43), (.move (.tmp 9)), 3, "", #[], (some (42, true))⟩,
  ⟨(some 44), (.binOp .leq 3 (.tmp 43) (.const (.int .i64 0)) 3), 4, "", #[], (some (42, true))⟩,
  ⟨(some 45), (.pick (.tmp 42) (.tmp 44) (.const (.bool false))), 4, "", #[], none⟩,
  ⟨(some 46), (.move (.tmp 45)), 4, "", #[], none⟩,
  ⟨(some 47), (.move (.tmp 10)), 3, "", #[], (some (46, true))⟩,
  ⟨(some 48), (.binOp .gtr 3 (.tmp 47) (.const (.int .i64 0)) 3), 4, "", #[], (some (46, true))⟩,
  ⟨(some 49), (.pick (.tmp 46) (.tmp 48) (.const (.bool false))), 4, "", #[], none⟩,
  ⟨(some 50), (.move (.tmp 49)), 4, "", #[], none⟩,
  ⟨(some 51), (.move (.tmp 8)), 3, "", #[], (some (50, false))⟩,
  ⟨(some 52), (.binOp .lss 3 (.tmp 51) (.const (.int .i64 0)) 3), 4, "", #[], (some (50, false))⟩,
  ⟨(some 53), (.move (.tmp 52)), 4, "", #[], (some (50, false))⟩,
  ⟨(some 54), (.move (.tmp 9)), 3, "", #[], (some (53, true))⟩,
  ⟨(some 55), (.binOp .leq 3 (.tmp 54) (.const (.int .i64 0)) 3), 4, "", #[], (some (53, true))⟩,
  ⟨(some 56), (.pick (.tmp 53) (.tmp 55) (.const (.bool false))), 4, "", #[], (some (50, false))⟩,
  ⟨(some 57), (.move (.tmp 56)), 4, "", #[], (some (50, false))⟩,
  ⟨(some 58), (.move (.tmp 10)), 3, "", #[], (some (57, true))⟩,
  ⟨(some 59), (.binOp .geq 3 (.tmp 58) (.const (.int .i64 0)) 3), 4, "", #[], (some (57, true))⟩,
  ⟨(some 60), (.pick (.tmp 57) (.tmp 59) (.const (.bool false))), 4, "", #[], (some (50, false))⟩,
  ⟨(some 61), (.pick (.tmp 50) (.const (.bool true)) (.tmp 60)), 4, "", #[], none⟩]
def F4.r8 : List Oper := [
  ⟨(some 6), (.assign (.const (.bool false))), 4, "", #[], none⟩]
def F4.r9 : List Oper := [
  ⟨(some 62), (.move (.tmp 7)), 4, "", #[], none⟩,
  ⟨(some 63), (.move (.tmp 62)), 4, "", #[], none⟩,
  ⟨(some 64), (.load 26 (.tmp 4)), 26, "", #[⟨0, .data⟩], (some (63, true))⟩,
  ⟨(some 65), (.load 26 (.tmp 3)), 26, "", #[⟨0, .data⟩], (some (63, true))⟩,
  ⟨(some 66), (.call ⟨(.value (.func 10)), #[(.tmp 64), (.tmp 65)], #[26, 26]⟩), 3, "", #[⟨0, .chain⟩], (some (63, true))⟩,
  ⟨(some 67), (.move (.tmp 8)), 3, "", #[], (some (63, true))⟩,
  ⟨(some 68), (.unOp .neg 3 (.tmp 67)), 3, "", #[], (some (63, true))⟩,
  ⟨(some 69), (.binOp .eql 3 (.tmp 66) (.tmp 68) 3), 4, "", #[], (some (63, true))⟩,
  ⟨(some 70), (.pick (.tmp 63) (.tmp 69) (.const (.bool false))), 4, "", #[], none⟩,
  ⟨(some 71), (.move (.tmp 70)), 4, "", #[], none⟩,
  ⟨(some 72), (.move (.tmp 8)), 3, "", #[], (some (71, true))⟩,
  ⟨(some 73), (.binOp .eql 3 (.tmp 72) (.const (.int .i64 0)) 3), 4, "", #[], (some (71, true))⟩,
  ⟨(some 74), (.load 26 (.tmp 3)), 26, "", #[⟨0, .data⟩], (some (71, true))⟩,
  ⟨(some 75), (.load 26 (.tmp 4)), 26, "", #[⟨0, .data⟩], (some (71, true))⟩,
  ⟨(some 76), (.binOp .eql 26 (.tmp 74) (.tmp 75) 26), 4, "", #[], (some (71, true))⟩,
  ⟨(some 77), (.binOp .eql 4 (.tmp 73) (.tmp 76) 4), 4, "", #[], (some (71, true))⟩,
  ⟨(some 78), (.pick (.tmp 71) (.tmp 77) (.const (.bool false))), 4, "", #[], none⟩,
  ⟨(some 6), (.assign (.tmp 78)), 4, "", #[], none⟩]
def F4.t9 : Cd := (.seq (.region 9 F4.r9.toArray false) .ret)
theorem F4.t9_eq {P : Program} {Q : Post} {e : FA} {w : World} {θ : Tag (F4.t9, Q, e, w)} : cwE P F4.t9 Q e w θ = cwE P (.seq (.region 9 F4.r9.toArray false) .ret) Q e w := rfl
def F4.t7 : Cd := (.seq (.seq (.region 7 F4.r7.toArray false) (.cond (.tmp 61) (.seq (.region 8 F4.r8.toArray false) .ret) .skip)) F4.t9)
theorem F4.t7_eq {P : Program} {Q : Post} {e : FA} {w : World} {θ : Tag (F4.t7, Q, e, w)} : cwE P F4.t7 Q e w θ = cwE P (.seq (.seq (.region 7 F4.r7.toArray false) (.cond (.tmp 61) (.seq (.region 8 F4.r8.toArray false) .ret) .skip)) F4.t9) Q e w := rfl
def F4.code : Cd := (.seq (.region 0 F4.r0.toArray false) (.seq (.region 1 F4.r1.toArray false) (.seq (.region 2 F4.r2.toArray false) (.seq (.region 3 F4.r3.toArray false) (.seq (.region 4 F4.r4.toArray false) (.seq (.seq (.region 5 F4.r5.toArray false) (.cond (.tmp 39) (.seq (.region 6 F4.r6.toArray false) .ret) .skip)) F4.t7))))))
theorem F4.calls {args : Array Value} {w : World} {R : Ending → World → Prop} (hn : args.size ≤ 79) (h : cwE Try.prog F4.code (fnP Try.prog #[(.tmp 6)] R) (entry args) w) : Calls Try.prog 4 args w R :=
  calls_of_cwE (types := Try.prog.types) follows Try.func4 F4.code rfl (by kernel_rfl) hn h

def F5.r0 : List Oper := [
  ⟨(some 2), (.assign (.const (.bool false))), 4, "", #[], none⟩]
def F5.r1 : List Oper := [
  ⟨(some 29), (.move (.tmp 0)), 29, "", #[], none⟩,
  ⟨(some 30), (.call ⟨(.builtin .len), #[(.tmp 29)], #[29]⟩), 3, "", #[], none⟩,
  ⟨(some 31), (.binOp .gtr 3 (.tmp 30) (.const (.int .i64 1048576)) 3), 4, "", #[], none⟩]
def F5.r2 : List Oper := [
  ⟨(some 32), (.move (.tmp 0)), 29, "", #[], none⟩,
  ⟨(some 33), (.slice 29 (.tmp 32) none (some (.const (.int .i64 1048576))) none), 29, "", #[], none⟩,
  ⟨(some 0), (.assign (.tmp 33)), 29, "", #[], none⟩]
def F5.r3 : List Oper := [
  ⟨(some 34), (.call ⟨(.value (.func 9)), #[], #[]⟩), 4, "", #[⟨0, .chain⟩], none⟩,
  ⟨(some 3), (.assign (.tmp 34)), 4, "", #[], none⟩]
def F5.r4 : List Oper := [
  ⟨(some 35), (.call ⟨(.value (.func 12)), #[], #[]⟩), 30, "", #[⟨0, .chain⟩], none⟩,
  ⟨(some 4), (.assign (.tmp 35)), 30, "", #[], none⟩]
def F5.r5 : List Oper := [
  ⟨(some 36), (.move (.tmp 3)), 4, "", #[], none⟩,
  ⟨(some 37), (.unOp .not 4 (.tmp 36)), 4, "", #[], none⟩,
  ⟨(some 38), (.move (.tmp 37)), 4, "", #[], none⟩,
  ⟨(some 39), (.move (.tmp 4)), 30, "", #[], (some (38, false))⟩,
  ⟨(some 40), (.binOp .eql 30 (.tmp 39) (.const (.pointer none)) 30), 4, "", #[], (some (38, false))⟩,
  ⟨(some 41), (.pick (.tmp 38) (.const (.bool true)) (.tmp 40)), 4, "", #[], none⟩]
def F5.r6 : List Oper := [
  ⟨(some 2), (.assign (.const (.bool false))), 4, "", #[], none⟩]
def F5.r7 : List Oper := [
  ⟨(some 5), (.assign (.const (.int .i64 0))), 3, "", #[], none⟩]
def F5.r8 : List Oper := [
  ⟨(some 42), (.move (.tmp 5)), 3, "", #[], none⟩,
  ⟨(some 43), (.move (.tmp 0)), 29, "", #[], none⟩,
  ⟨(some 44), (.call ⟨(.builtin .len), #[(.tmp 43)], #[29]⟩), 3, "", #[], none⟩,
  ⟨(some 45), (.binOp .lss 3 (.tmp 42) (.tmp 44) 3), 4, "", #[], none⟩]
def F5.r10 : List Oper := [
  ⟨(some 6), (.assign (.const (.slice none 0 0))), 32, "", #[], none⟩]
def F5.r11 : List Oper := [
  ⟨(some 7), (.assign (.const (.slice none 0 0))), 33, "", #[], none⟩]
def F5.r12 : List Oper := [
  ⟨(some 8), (.assign (.const (.int .i64 0))), 3, "", #[], none⟩]
def F5.r13 : List Oper := [
  ⟨(some 48), (.move (.tmp 8)), 3, "", #[], none⟩,
  ⟨(some 49), (.binOp .lss 3 (.tmp 48) (.const (.int .i64 6)) 3), 4, "", #[], none⟩]
def F5.r15 : List Oper := [
  ⟨(some 52), (.move (.tmp 6)), 32, "", #[], none⟩,
  ⟨(some 53), (.move (.tmp 4)), 30, "", #[], none⟩,
  ⟨(some 54), (.move (.tmp 8)), 3, "", #[], none⟩,
  ⟨(some 55), (.call ⟨(.value (.func 14)), #[(.tmp 54)], #[3]⟩), 26, "", #[⟨0, .chain⟩], none⟩,
  ⟨(some 56), (.call ⟨(.value (.func 13)), #[(.tmp 53), (.tmp 55)], #[30, 26]⟩), 34, "", #[⟨0, .chain⟩], none⟩,
  ⟨(some 57), (.buildSlice 32 1 #[(0, (.tmp 56))]), 32, "", #[⟨0, .chain⟩], none⟩,
  ⟨(some 58), (.call ⟨(.builtin .append), #[(.tmp 52), (.tmp 57)], #[32, 32]⟩), 32, "", #[⟨0, .chain⟩], none⟩,
  ⟨(some 6), (.assign (.tmp 58)), 32, "", #[], none⟩]
def F5.r14 : List Oper := [
  ⟨(some 50), (.move (.tmp 8)), 3, "", #[], none⟩,
  ⟨(some 51), (.binOp .add 3 (.tmp 50) (.const (.int .i64 1)) 3), 3, "", #[], none⟩,
  ⟨(some 8), (.assign (.tmp 51)), 3, "", #[], none⟩]
def F5.r16 : List Oper := [
  ⟨(some 9), (.assign (.const (.int .i64 1))), 3, "", #[], none⟩]
def F5.r17 : List Oper := [
  ⟨(some 59), (.move (.tmp 9)), 3, "", #[], none⟩,
  ⟨(some 60), (.binOp .leq 3 (.tmp 59) (.const (.int .i64 8)) 3), 4, "", #[], none⟩]
def F5.r19 : List Oper := [
  ⟨(some 64), (.move (.tmp 4)), 30, "", #[], none⟩,
  ⟨(some 65), (.move (.tmp 9)), 3, "", #[], none⟩,
  ⟨(some 66), (.call ⟨(.value (.func 15)), #[(.tmp 64), (.tmp 65)], #[30, 3]⟩), 39, "", #[⟨0, .chain⟩], none⟩,
  ⟨(some 63), (.move (.tmp 66)), 39, "", #[], none⟩,
  ⟨(some 67), (.extract (.tmp 63) 0), 38, "", #[], none⟩,
  ⟨(some 68), (.extract (.tmp 63) 1), 4, "", #[], none⟩,
  ⟨(some 10), (.alloc 38), 0, "", #[⟨0, .chain⟩], none⟩,
  ⟨none, (.store 38 (.tmp 10) (.tmp 67)), 0, "", #[⟨0, .chain⟩], none⟩,
  ⟨(some 11), (.assign (.tmp 68)), 4, "", #[], none⟩]
def F5.r20 : List Oper := [
  ⟨(some 69), (.move (.tmp 7)), 33, "", #[], none⟩,
  ⟨(some 70), (.load 38 (.tmp 10)), 38, "", #[⟨0, .data⟩], none⟩,
  ⟨(some 71), (.buildSlice 33 1 #[(0, (.tmp 70))]), 33, "", #[⟨0, .chain⟩], none⟩,
  ⟨(some 72), (.call ⟨(.builtin .append), #[(.tmp 69), (.tmp 71)], #[33, 33]⟩), 33, "", #[⟨0, .chain⟩], none⟩,
  ⟨(some 7), (.assign (.tmp 72)), 33, "", #[], none⟩]
def F5.r18 : List Oper := [
  ⟨(some 61), (.move (.tmp 9)), 3, "", #[], none⟩,
  ⟨(some 62), (.binOp .add 3 (.tmp 61) (.const (.int .i64 1)) 3), 3, "", #[], none⟩,
  ⟨(some 9), (.assign (.tmp 62)), 3, "", #[], none⟩]
def F5.r21 : List Oper := [
  ⟨(some 74), (.move (.tmp 4)), 30, "", #[], none⟩,
  ⟨(some 75), (.move (.tmp 0)), 29, "", #[], none⟩,
  ⟨(some 76), (.move (.tmp 5)), 3, "", #[], none⟩,
  ⟨(some 77), (.indexAddr 29 (.tmp 75) (.tmp 76)), 0, "", #[], none⟩,
  ⟨(some 78), (.load 44 (.tmp 77)), 44, "", #[⟨0, .data⟩], none⟩,
  ⟨(some 79), (.call ⟨(.value (.func 16)), #[(.tmp 74), (.tmp 78)], #[30, 44]⟩), 41, "", #[⟨0, .chain⟩], none⟩,
  ⟨(some 73), (.move (.tmp 79)), 41, "", #[], none⟩,
  ⟨(some 80), (.extract (.tmp 73) 0), 34, "", #[], none⟩,
  ⟨(some 81), (.extract (.tmp 73) 1), 4, "", #[], none⟩,
  ⟨(some 12), (.assign (.tmp 80)), 34, "", #[], none⟩,
  ⟨(some 13), (.assign (.tmp 81)), 4, "", #[], none⟩]
def F5.r22 : List Oper := [
  ⟨(some 82), (.move (.tmp 13)), 4, "", #[], none⟩,
  ⟨(some 83), (.unOp .not 4 (.tmp 82)), 4, "", #[], none⟩]
def F5.r23 : List Oper := [
  ⟨(some 84), (.move (.tmp 0)), 29, "", #[], none⟩,
  ⟨(some 85), (.move (.tmp 5)), 3, "", #[], none⟩,
  ⟨(some 86), (.indexAddr 29 (.tmp 84) (.tmp 85)), 0, "", #[], none⟩,
  ⟨(some 87), (.fieldAddr 44 (.tmp 86) 1), 0, "", #[], none⟩,
  ⟨(some 88), (.load 3 (.tmp 87)), 3, "", #[⟨0, .data⟩], none⟩,
  ⟨(some 89), (.call ⟨(.value (.func 17)), #[(.tmp 88), (.const (.int .i64 8))], #[3, 3]⟩), 3, "", #[⟨0, .chain⟩], none⟩,
  ⟨(some 90), (.binOp .add 3 (.const (.int .i64 1)) (.tmp 89) 3), 3, "", #[], none⟩,
  ⟨(some 14), (.assign (.tmp 90)), 3, "", #[], none⟩]
def F5.r24 : List Oper := [
  ⟨(some 91), (.makeSlice 34 (.const (.int .i64 6)) (.const (.int .i64 6))), 34, "", #[⟨0, .chain⟩], none⟩,
  ⟨(some 15), (.assign (.tmp 91)), 34, "", #[], none⟩]
def F5.r25 : List Oper := [
  ⟨(some 16), (.assign (.const (.int .i64 0))), 3, "", #[], none⟩]
def F5.r26 : List Oper := [
  ⟨(some 92), (.move (.tmp 16)), 3, "", #[], none⟩,
  ⟨(some 93), (.move (.tmp 12)), 34, "", #[], none⟩,
  ⟨(some 94), (.call ⟨(.builtin .len), #[(.tmp 93)], #[34]⟩), 3, "", #[], none⟩,
  ⟨(some 95), (.binOp .lss 3 (.tmp 92) (.tmp 94) 3), 4, "", #[], none⟩]
def F5.r28 : List Oper := [
  ⟨(some 98), (.move (.tmp 12)), 34, "", #[], none⟩,
  ⟨(some 99), (.move (.tmp 16)), 3, "", #[], none⟩,
  ⟨(some 100), (.indexAddr 34 (.tmp 98) (.tmp 99)), 0, "", #[], none⟩,
  ⟨(some 101), (.load 3 (.tmp 100)), 3, "", #[⟨0, .data⟩], none⟩,
  ⟨(some 102), (.binOp .lss 3 (.tmp 101) (.const (.int .i64 1)) 3), 4, "", #[], none⟩,
  ⟨(some 103), (.move (.tmp 102)), 4, "", #[], none⟩,
  ⟨(some 104), (.move (.tmp 12)), 34, "", #[], (some (103, false))⟩,
  ⟨(some 105), (.move (.tmp 16)), 3, "", #[], (some (103, false))⟩,
  ⟨(some 106), (.indexAddr 34 (.tmp 104) (.tmp 105)), 0, "", #[], (some (103, false))⟩,
  ⟨(some 107), (.load 3 (.tmp 106)), 3, "", #[⟨0, .data⟩], (some (103, false))⟩,
  ⟨(some 108), (.binOp .gtr 3 (.tmp 107) (.const (.int .i64 8)) 3), 4, "", #[], (some (103, false))⟩,
  ⟨(some 109), (.pick (.tmp 103) (.const (.bool true)) (.tmp 108)), 4, "", #[], none⟩,
  ⟨(some 110), (.move (.tmp 109)), 4, "", #[], none⟩,
  ⟨(some 111), (.move (.tmp 12)), 34, "", #[], (some (110, false))⟩,
  ⟨(some 112), (.move (.tmp 16)), 3, "", #[], (some (110, false))⟩,
  ⟨(some 113), (.indexAddr 34 (.tmp 111) (.tmp 112)), 0, "", #[], (some (110, false))⟩,
  ⟨(some 114), (.load 3 (.tmp 113)), 3, "", #[⟨0, .data⟩], (some (110, false))⟩,
  ⟨(some 115), (.move (.tmp 14)), 3, "", #[], (some (110, false))⟩,
  ⟨(some 116), (.binOp .eql 3 (.tmp 114) (.tmp 115) 3), 4, "", #[], (some (110, false))⟩,
  ⟨(some 117), (.pick (.tmp 110) (.const (.bool true)) (.tmp 116)), 4, "", #[], none⟩]
def F5.r29 : List Oper := [
  ⟨(some 2), (.assign (.const (.bool false))), 4, "", #[], none⟩]
def F5.r30 : List Oper := [
  ⟨(some 118), (.move (.tmp 7)), 33, "", #[], none⟩,
  ⟨(some 119), (.move (.tmp 12)), 34, "", #[], none⟩,
  ⟨(some 120), (.move (.tmp 16)), 3, "", #[], none⟩,
  ⟨(some 121), (.indexAddr 34 (.tmp 119) (.tmp 120)), 0, "", #[], none⟩,
  ⟨(some 122), (.load 3 (.tmp 121)), 3, "", #[⟨0, .data⟩], none⟩,
  ⟨(some 123), (.binOp .sub 3 (.tmp 122) (.const (.int .i64 1)) 3), 3, "", #[], none⟩,
  ⟨(some 124), (.indexAddr 33 (.tmp 118) (.tmp 123)), 0, "", #[], none⟩,
  ⟨(some 125), (.load 38 (.tmp 124)), 38, "", #[⟨0, .data⟩], none⟩,
  ⟨(some 17), (.alloc 38), 0, "", #[⟨0, .chain⟩], none⟩,
  ⟨none, (.store 38 (.tmp 17) (.tmp 125)), 0, "", #[⟨0, .chain⟩], none⟩]
def F5.r31 : List Oper := [
  ⟨(some 126), (.fieldAddr 38 (.tmp 17) 0), 0, "", #[], none⟩,
  ⟨(some 127), (.fieldAddr 26 (.tmp 126) 2), 0, "", #[], none⟩,
  ⟨(some 128), (.load 24 (.tmp 127)), 24, "", #[⟨0, .data⟩], none⟩,
  ⟨(some 129), (.convert 24 3 (.tmp 128)), 3, "", #[], none⟩,
  ⟨(some 18), (.assign (.tmp 129)), 3, "", #[], none⟩]
def F5.r32 : List Oper := [
  ⟨(some 130), (.move (.tmp 18)), 3, "", #[], none⟩,
  ⟨(some 131), (.binOp .lss 3 (.tmp 130) (.const (.int .i64 0)) 3), 4, "", #[], none⟩,
  ⟨(some 132), (.move (.tmp 131)), 4, "", #[], none⟩,
  ⟨(some 133), (.move (.tmp 18)), 3, "", #[], (some (132, false))⟩,
  ⟨(some 134), (.binOp .geq 3 (.tmp 133) (.const (.int .i64 6)) 3), 4, "", #[], (some (132, false))⟩,
  ⟨(some 135), (.pick (.tmp 132) (.const (.bool true)) (.tmp 134)), 4, "", #[], none⟩]
def F5.r33 : List Oper := [
  ⟨(some 2), (.assign (.const (.bool false))), 4, "", #[], none⟩]
def F5.r34 : List Oper := [
  ⟨(some 136), (.move (.tmp 6)), 32, "", #[], none⟩,
  ⟨(some 137), (.move (.tmp 18)), 3, "", #[], none⟩,
  ⟨(some 138), (.indexAddr 32 (.tmp 136) (.tmp 137)), 0, "", #[], none⟩,
  ⟨(some 139), (.load 34 (.tmp 138)), 34, "", #[⟨0, .data⟩], none⟩,
  ⟨(some 19), (.assign (.tmp 139)), 34, "", #[], none⟩]
def F5.r35 : List Oper := [
  ⟨(some 140), (.move (.tmp 15)), 34, "", #[], none⟩,
  ⟨(some 141), (.move (.tmp 18)), 3, "", #[], none⟩,
  ⟨(some 142), (.indexAddr 34 (.tmp 140) (.tmp 141)), 0, "", #[], none⟩,
  ⟨(some 143), (.load 3 (.tmp 142)), 3, "", #[⟨0, .data⟩], none⟩,
  ⟨(some 144), (.move (.tmp 19)), 34, "", #[], none⟩,
  ⟨(some 145), (.call ⟨(.builtin .len), #[(.tmp 144)], #[34]⟩), 3, "", #[], none⟩,
  ⟨(some 146), (.binOp .lss 3 (.tmp 143) (.tmp 145) 3), 4, "", #[], none⟩,
  ⟨(some 147), (.move (.tmp 146)), 4, "", #[], none⟩,
  ⟨(some 148), (.move (.tmp 19)), 34, "", #[], (some (147, true))⟩,
  ⟨(some 149), (.move (.tmp 15)), 34, "", #[], (some (147, true))⟩,
  ⟨(some 150), (.move (.tmp 18)), 3, "", #[], (some (147, true))⟩,
  ⟨(some 151), (.indexAddr 34 (.tmp 149) (.tmp 150)), 0, "", #[], (some (147, true))⟩,
  ⟨(some 152), (.load 3 (.tmp 151)), 3, "", #[⟨0, .data⟩], (some (147, true))⟩,
  ⟨(some 153), (.indexAddr 34 (.tmp 148) (.tmp 152)), 0, "", #[], (some (147, true))⟩,
  ⟨(some 154), (.load 3 (.tmp 153)), 3, "", #[⟨0, .data⟩], (some (147, true))⟩,
  ⟨(some 155), (.move (.tmp 14)), 3, "", #[], (some (147, true))⟩,
  ⟨(some 156), (.binOp .eql 3 (.tmp 154) (.tmp 155) 3), 4, "", #[], (some (147, true))⟩,
  ⟨(some 157), (.pick (.tmp 147) (.tmp 156) (.const (.bool false))), 4, "", #[], none⟩]
def F5.r36 : List Oper := [
  ⟨(some 158), (.move (.tmp 15)), 34, "", #[], none⟩,
  ⟨(some 159), (.move (.tmp 18)), 3, "", #[], none⟩,
  ⟨(some 160), (.indexAddr 34 (.tmp 158) (.tmp 159)), 0, "", #[], none⟩,
  ⟨(some 161), (.load 3 (.tmp 160)), 3, "", #[⟨0, .data⟩], none⟩,
  ⟨(some 162), (.binOp .add 3 (.tmp 161) (.const (.int .i64 1)) 3), 3, "", #[], none⟩,
  ⟨(some 163), (.indexAddr 34 (.tmp 158) (.tmp 159)), 0, "", #[], none⟩,
  ⟨none, (.store 3 (.tmp 163) (.tmp 162)), 0, "", #[⟨0, .chain⟩], none⟩]
def F5.r37 : List Oper := [
  ⟨(some 164), (.move (.tmp 4)), 30, "", #[], none⟩,
  ⟨(some 165), (.move (.tmp 12)), 34, "", #[], none⟩,
  ⟨(some 166), (.move (.tmp 16)), 3, "", #[], none⟩,
  ⟨(some 167), (.indexAddr 34 (.tmp 165) (.tmp 166)), 0, "", #[], none⟩,
  ⟨(some 168), (.load 3 (.tmp 167)), 3, "", #[⟨64, .data⟩], none⟩,
  ⟨(some 169), (.load 38 (.tmp 17)), 38, "", #[⟨64, .data⟩], none⟩,
  ⟨(some 170), (.call ⟨(.value (.func 18)), #[(.tmp 164), (.tmp 168), (.tmp 169)], #[30, 3, 38]⟩), 4, "", #[⟨6, .chain⟩], none⟩,
  ⟨(some 20), (.assign (.tmp 170)), 4, "", #[], none⟩]
def F5.r38 : List Oper := [
  ⟨(some 172), (.move (.tmp 4)), 30, "", #[], none⟩,
  ⟨(some 173), (.move (.tmp 12)), 34, "", #[], none⟩,
  ⟨(some 174), (.move (.tmp 16)), 3, "", #[], none⟩,
  ⟨(some 175), (.indexAddr 34 (.tmp 173) (.tmp 174)), 0, "", #[], none⟩,
  ⟨(some 176), (.load 3 (.tmp 175)), 3, "", #[⟨0, .data⟩], none⟩,
  ⟨(some 177), (.call ⟨(.value (.func 15)), #[(.tmp 172), (.tmp 176)], #[30, 3]⟩), 39, "", #[⟨0, .chain⟩], none⟩,
  ⟨(some 171), (.move (.tmp 177)), 39, "", #[], none⟩,
  ⟨(some 178), (.extract (.tmp 171) 0), 38, "", #[], none⟩,
  ⟨(some 179), (.extract (.tmp 171) 1), 4, "", #[], none⟩,
  ⟨(some 21), (.alloc 38), 0, "", #[⟨0, .chain⟩], none⟩,
  ⟨none, (.store 38 (.tmp 21) (.tmp 178)), 0, "", #[⟨0, .chain⟩], none⟩,
  ⟨(some 22), (.assign (.tmp 179)), 4, "", #[], none⟩]
def F5.r39 : List Oper := [
  ⟨(some 180), (.move (.tmp 15)), 34, "", #[], none⟩,
  ⟨(some 181), (.move (.tmp 18)), 3, "", #[], none⟩,
  ⟨(some 182), (.indexAddr 34 (.tmp 180) (.tmp 181)), 0, "", #[], none⟩,
  ⟨(some 184), (.move (.tmp 19)), 34, "", #[], none⟩,
  ⟨(some 185), (.call ⟨(.builtin .len), #[(.tmp 184)], #[34]⟩), 3, "", #[], none⟩,
  ⟨(some 183), (.load 3 (.tmp 182)), 3, "", #[⟨0, .data⟩], none⟩,
  ⟨(some 186), (.binOp .geq 3 (.tmp 183) (.tmp 185) 3), 4, "", #[], none⟩,
  ⟨(some 187), (.move (.tmp 186)), 4, "", #[], none⟩,
  ⟨(some 188), (.move (.tmp 19)), 34, "", #[], (some (187, false))⟩,
  ⟨(some 189), (.move (.tmp 15)), 34, "", #[], (some (187, false))⟩,
  ⟨(some 190), (.move (.tmp 18)), 3, "", #[], (some (187, false))⟩,
  ⟨(some 191), (.indexAddr 34 (.tmp 189) (.tmp 190)), 0, "", #[], (some (187, false))⟩,
  ⟨(some 195), (.move (.tmp 12)), 34, "", #[], (some (187, false))⟩,
  ⟨(some 196), (.move (.tmp 16)), 3, "", #[], (some (187, false))⟩,
  ⟨(some 197), (.indexAddr 34 (.tmp 195) (.tmp 196)), 0, "", #[], (some (187, false))⟩,
  ⟨(some 192), (.load 3 (.tmp 191)), 3, "", #[⟨0, .data⟩], (some (187, false))⟩,
  ⟨(some 193), (.indexAddr 34 (.tmp 188) (.tmp 192)), 0, "", #[], (some (187, false))⟩,
  ⟨(some 194), (.load 3 (.tmp 193)), 3, "", #[⟨0, .data⟩], (some (187, false))⟩,
  ⟨(some 198), (.load 3 (.tmp 197)), 3, "", #[⟨0, .data⟩], (some (187, false))⟩,
  ⟨(some 199), (.binOp .neq 3 (.tmp 194) (.tmp 198) 3), 4, "", #[], (some (187, false))⟩,
  ⟨(some 200), (.pick (.tmp 187) (.const (.bool true)) (.tmp 199)), 4, "", #[], none⟩,
  ⟨(some 201), (.move (.tmp 200)), 4, "", #[], none⟩,
  ⟨(some 202), (.move (.tmp 20)), 4, "", #[], (some (201, false))⟩,
  ⟨(some 203), (.unOp .not 4 (.tmp 202)), 4, "", #[], (some (201, false))⟩,
  ⟨(some 204), (.pick (.tmp 201) (.const (.bool true)) (.tmp 203)), 4, "", #[], none⟩,
  ⟨(some 205), (.move (.tmp 204)), 4, "", #[], none⟩,
  ⟨(some 206), (.move (.tmp 22)), 4, "", #[], (some (205, false))⟩,
  ⟨(some 207), (.pick (.tmp 205) (.const (.bool true)) (.tmp 206)), 4, "", #[], none⟩]
def F5.r40 : List Oper := [
  ⟨(some 2), (.assign (.const (.bool false))), 4, "", #[], none⟩]
def F5.r41 : List Oper := [
  ⟨(some 208), (.move (.tmp 15)), 34, "", #[], none⟩,
  ⟨(some 209), (.move (.tmp 18)), 3, "", #[], none⟩,
  ⟨(some 210), (.indexAddr 34 (.tmp 208) (.tmp 209)), 0, "", #[], none⟩,
  ⟨(some 211), (.load 3 (.tmp 210)), 3, "", #[⟨0, .data⟩], none⟩,
  ⟨(some 212), (.binOp .add 3 (.tmp 211) (.const (.int .i64 1)) 3), 3, "", #[], none⟩,
  ⟨(some 213), (.indexAddr 34 (.tmp 208) (.tmp 209)), 0, "", #[], none⟩,
  ⟨none, (.store 3 (.tmp 213) (.tmp 212)), 0, "", #[⟨0, .chain⟩], none⟩]
def F5.r27 : List Oper := [
  ⟨(some 96), (.move (.tmp 16)), 3, "", #[], none⟩,
  ⟨(some 97), (.binOp .add 3 (.tmp 96) (.const (.int .i64 1)) 3), 3, "", #[], none⟩,
  ⟨(some 16), (.assign (.tmp 97)), 3, "", #[], none⟩]
def F5.r42 : List Oper := [
  ⟨(some 23), (.assign (.const (.int .i64 0))), 3, "", #[], none⟩]
def F5.r43 : List Oper := [
  ⟨(some 214), (.move (.tmp 23)), 3, "", #[], none⟩,
  ⟨(some 215), (.binOp .lss 3 (.tmp 214) (.const (.int .i64 6)) 3), 4, "", #[], none⟩]
def F5.r45 : List Oper := [
  ⟨(some 218), (.move (.tmp 6)), 32, "", #[], none⟩,
  ⟨(some 219), (.move (.tmp 23)), 3, "", #[], none⟩,
  ⟨(some 220), (.indexAddr 32 (.tmp 218) (.tmp 219)), 0, "", #[], none⟩,
  ⟨(some 221), (.load 34 (.tmp 220)), 34, "", #[⟨0, .data⟩], none⟩,
  ⟨(some 24), (.assign (.tmp 221)), 34, "", #[], none⟩]
def F5.r46 : List Oper := [
  ⟨(some 222), (.move (.tmp 4)), 30, "", #[], none⟩,
  ⟨(some 223), (.move (.tmp 23)), 3, "", #[], none⟩,
  ⟨(some 224), (.call ⟨(.value (.func 14)), #[(.tmp 223)], #[3]⟩), 26, "", #[⟨0, .chain⟩], none⟩,
  ⟨(some 225), (.call ⟨(.value (.func 13)), #[(.tmp 222), (.tmp 224)], #[30, 26]⟩), 34, "", #[⟨0, .chain⟩], none⟩,
  ⟨(some 25), (.assign (.tmp 225)), 34, "", #[], none⟩]
def F5.r47 : List Oper := [
  ⟨(some 226), (.move (.tmp 24)), 34, "", #[], none⟩,
  ⟨(some 227), (.move (.tmp 15)), 34, "", #[], none⟩,
  ⟨(some 228), (.move (.tmp 23)), 3, "", #[], none⟩,
  ⟨(some 229), (.indexAddr 34 (.tmp 227) (.tmp 228)), 0, "", #[], none⟩,
  ⟨(some 230), (.load 3 (.tmp 229)), 3, "", #[⟨0, .data⟩], none⟩,
  ⟨(some 231), (.slice 34 (.tmp 226) (some (.tmp 230)) none none), 34, "", #[], none⟩,
  ⟨(some 26), (.assign (.tmp 231)), 34, "", #[], none⟩]
def F5.r48 : List Oper := [
  ⟨(some 27), (.assign (.const (.int .i64 0))), 3, "", #[], none⟩]
def F5.r49 : List Oper := [
  ⟨(some 28), (.assign (.const (.int .i64 0))), 3, "", #[], none⟩]
def F5.r50 : List Oper := [
  ⟨(some 232), (.move (.tmp 28)), 3, "", #[], none⟩,
  ⟨(some 233), (.move (.tmp 26)), 34, "", #[], none⟩,
  ⟨(some 234), (.call ⟨(.builtin .len), #[(.tmp 233)], #[34]⟩), 3, "", #[], none⟩,
  ⟨(some 235), (.binOp .lss 3 (.tmp 232) (.tmp 234) 3), 4, "", #[], none⟩]
def F5.r52 : List Oper := [
  ⟨(some 238), (.move (.tmp 26)), 34, "", #[], none⟩,
  ⟨(some 239), (.move (.tmp 28)), 3, "", #[], none⟩,
  ⟨(some 240), (.indexAddr 34 (.tmp 238) (.tmp 239)), 0, "", #[], none⟩,
  ⟨(some 241), (.load 3 (.tmp 240)), 3, "", #[⟨0, .data⟩], none⟩,
  ⟨(some 242), (.move (.tmp 14)), 3, "", #[], none⟩,
  ⟨(some 243), (.binOp .eql 3 (.tmp 241) (.tmp 242) 3), 4, "", #[], none⟩,
  ⟨(some 244), (.move (.tmp 243)), 4, "", #[], none⟩,
  ⟨(some 245), (.move (.tmp 0)), 29, "", #[], (some (244, true))⟩,
  ⟨(some 246), (.move (.tmp 5)), 3, "", #[], (some (244, true))⟩,
  ⟨(some 247), (.indexAddr 29 (.tmp 245) (.tmp 246)), 0, "", #[], (some (244, true))⟩,
  ⟨(some 248), (.fieldAddr 44 (.tmp 247) 0), 0, "", #[], (some (244, true))⟩,
  ⟨(some 249), (.load 3 (.tmp 248)), 3, "", #[⟨0, .data⟩], (some (244, true))⟩,
  ⟨(some 250), (.call ⟨(.value (.func 17)), #[(.tmp 249), (.const (.int .i64 4))], #[3, 3]⟩), 3, "", #[⟨0, .chain⟩], (some (244, true))⟩,
  ⟨(some 251), (.binOp .eql 3 (.tmp 250) (.const (.int .i64 3)) 3), 4, "", #[], (some (244, true))⟩,
  ⟨(some 252), (.pick (.tmp 244) (.tmp 251) (.const (.bool false))), 4, "", #[], none⟩]
def F5.r53 : List Oper := [
  ⟨(some 253), (.move (.tmp 27)), 3, "", #[], none⟩,
  ⟨(some 254), (.move (.tmp 25)), 34, "", #[], none⟩,
  ⟨(some 255), (.call ⟨(.builtin .len), #[(.tmp 254)], #[34]⟩), 3, "", #[], none⟩,
  ⟨(some 256), (.binOp .geq 3 (.tmp 253) (.tmp 255) 3), 4, "", #[], none⟩,
  ⟨(some 257), (.move (.tmp 256)), 4, "", #[], none⟩,
  ⟨(some 258), (.move (.tmp 25)), 34, "", #[], (some (257, false))⟩,
  ⟨(some 259), (.move (.tmp 27)), 3, "", #[], (some (257, false))⟩,
  ⟨(some 260), (.indexAddr 34 (.tmp 258) (.tmp 259)), 0, "", #[], (some (257, false))⟩,
  ⟨(some 262), (.move (.tmp 26)), 34, "", #[], (some (257, false))⟩,
  ⟨(some 263), (.move (.tmp 28)), 3, "", #[], (some (257, false))⟩,
  ⟨(some 264), (.indexAddr 34 (.tmp 262) (.tmp 263)), 0, "", #[], (some (257, false))⟩,
  ⟨(some 261), (.load 3 (.tmp 260)), 3, "", #[⟨0, .data⟩], (some (257, false))⟩,
  ⟨(some 265), (.load 3 (.tmp 264)), 3, "", #[⟨0, .data⟩], (some (257, false))⟩,
  ⟨(some 266), (.binOp .neq 3 (.tmp 261) (.tmp 265) 3), 4, "", #[], (some (257, false))⟩,
  ⟨(some 267), (.pick (.tmp 257) (.const (.bool true)) (.tmp 266)), 4, "", #[], none⟩]
def F5.r54 : List Oper := [
  ⟨(some 2), (.assign (.const (.bool false))), 4, "", #[], none⟩]
def F5.r55 : List Oper := [
  ⟨(some 268), (.move (.tmp 27)), 3, "", #[], none⟩,
  ⟨(some 269), (.binOp .add 3 (.tmp 268) (.const (.int .i64 1)) 3), 3, "", #[], none⟩,
  ⟨(some 27), (.assign (.tmp 269)), 3, "", #[], none⟩]
def F5.r51 : List Oper := [
  ⟨(some 236), (.move (.tmp 28)), 3, "", #[], none⟩,
  ⟨(some 237), (.binOp .add 3 (.tmp 236) (.const (.int .i64 1)) 3), 3, "", #[], none⟩,
  ⟨(some 28), (.assign (.tmp 237)), 3, "", #[], none⟩]
def F5.r56 : List Oper := [
  ⟨(some 270), (.move (.tmp 0)), 29, "", #[], none⟩,
  ⟨(some 271), (.move (.tmp 5)), 3, "", #[], none⟩,
  ⟨(some 272), (.indexAddr 29 (.tmp 270) (.tmp 271)), 0, "", #[], none⟩,
  ⟨(some 273), (.fieldAddr 44 (.tmp 272) 0), 0, "", #[], none⟩,
  ⟨(some 274), (.load 3 (.tmp 273)), 3, "", #[⟨0, .data⟩], none⟩,
  ⟨(some 275), (.call ⟨(.value (.func 17)), #[(.tmp 274), (.const (.int .i64 4))], #[3, 3]⟩), 3, "", #[⟨0, .chain⟩], none⟩,
  ⟨(some 276), (.binOp .gtr 3 (.tmp 275) (.const (.int .i64 1)) 3), 4, "", #[], none⟩,
  ⟨(some 277), (.move (.tmp 276)), 4, "", #[], none⟩,
  ⟨(some 278), (.move (.tmp 27)), 3, "", #[], (some (277, true))⟩,
  ⟨(some 279), (.move (.tmp 25)), 34, "", #[], (some (277, true))⟩,
  ⟨(some 280), (.call ⟨(.builtin .len), #[(.tmp 279)], #[34]⟩), 3, "", #[], (some (277, true))⟩,
  ⟨(some 281), (.binOp .neq 3 (.tmp 278) (.tmp 280) 3), 4, "", #[], (some (277, true))⟩,
  ⟨(some 282), (.pick (.tmp 277) (.tmp 281) (.const (.bool false))), 4, "", #[], none⟩]
def F5.r57 : List Oper := [
  ⟨(some 2), (.assign (.const (.bool false))), 4, "", #[], none⟩]
def F5.r44 : List Oper := [
  ⟨(some 216), (.move (.tmp 23)), 3, "", #[], none⟩,
  ⟨(some 217), (.binOp .add 3 (.tmp 216) (.const (.int .i64 1)) 3), 3, "", #[], none⟩,
  ⟨(some 23), (.assign (.tmp 217)), 3, "", #[], none⟩]
def F5.r9 : List Oper := [
  ⟨(some 46), (.move (.tmp 5)), 3, "", #[], none⟩,
  ⟨(some 47), (.binOp .add 3 (.tmp 46) (.const (.int .i64 1)) 3), 3, "", #[], none⟩,
  ⟨(some 5), (.assign (.tmp 47)), 3, "", #[], none⟩]
def F5.r58 : List Oper := [
  ⟨(some 2), (.assign (.const (.bool true))), 4, "", #[], none⟩]
def F5.t14 : Cd := (.region 14 F5.r14.toArray false)
theorem F5.t14_eq {P : Program} {Q : Post} {e : FA} {w : World} {θ : Tag (F5.t14, Q, e, w)} : cwE P F5.t14 Q e w θ = cwE P (.region 14 F5.r14.toArray false) Q e w := rfl
def F5.t15 : Cd := (.seq (.block 3 (.region 15 F5.r15.toArray false)) F5.t14)
theorem F5.t15_eq {P : Program} {Q : Post} {e : FA} {w : World} {θ : Tag (F5.t15, Q, e, w)} : cwE P F5.t15 Q e w θ = cwE P (.seq (.block 3 (.region 15 F5.r15.toArray false)) F5.t14) Q e w := rfl
def F5.t18 : Cd := (.region 18 F5.r18.toArray false)
theorem F5.t18_eq {P : Program} {Q : Post} {e : FA} {w : World} {θ : Tag (F5.t18, Q, e, w)} : cwE P F5.t18 Q e w θ = cwE P (.region 18 F5.r18.toArray false) Q e w := rfl
def F5.t19 : Cd := (.seq (.block 5 (.seq (.region 19 F5.r19.toArray false) (.region 20 F5.r20.toArray false))) F5.t18)
theorem F5.t19_eq {P : Program} {Q : Post} {e : FA} {w : World} {θ : Tag (F5.t19, Q, e, w)} : cwE P F5.t19 Q e w θ = cwE P (.seq (.block 5 (.seq (.region 19 F5.r19.toArray false) (.region 20 F5.r20.toArray false))) F5.t18) Q e w := rfl
def F5.t41 : Cd := (.region 41 F5.r41.toArray false)
theorem F5.t41_eq {P : Program} {Q : Post} {e : FA} {w : World} {θ : Tag (F5.t41, Q, e, w)} : cwE P F5.t41 Q e w θ = cwE P (.region 41 F5.r41.toArray false) Q e w := rfl
def F5.t37 : Cd := (.seq (.region 37 F5.r37.toArray true) (.seq (.region 38 F5.r38.toArray false) (.seq (.seq (.region 39 F5.r39.toArray true) (.cond (.tmp 207) (.seq (.region 40 F5.r40.toArray false) .ret) .skip)) F5.t41)))
theorem F5.t37_eq {P : Program} {Q : Post} {e : FA} {w : World} {θ : Tag (F5.t37, Q, e, w)} : cwE P F5.t37 Q e w θ = cwE P (.seq (.region 37 F5.r37.toArray true) (.seq (.region 38 F5.r38.toArray false) (.seq (.seq (.region 39 F5.r39.toArray true) (.cond (.tmp 207) (.seq (.region 40 F5.r40.toArray false) .ret) .skip)) F5.t41))) Q e w := rfl
def F5.t34 : Cd := (.seq (.region 34 F5.r34.toArray false) (.seq (.seq (.region 35 F5.r35.toArray false) (.cond (.tmp 157) (.region 36 F5.r36.toArray false) .skip)) F5.t37))
theorem F5.t34_eq {P : Program} {Q : Post} {e : FA} {w : World} {θ : Tag (F5.t34, Q, e, w)} : cwE P F5.t34 Q e w θ = cwE P (.seq (.region 34 F5.r34.toArray false) (.seq (.seq (.region 35 F5.r35.toArray false) (.cond (.tmp 157) (.region 36 F5.r36.toArray false) .skip)) F5.t37)) Q e w := rfl
def F5.t30 : Cd := (.seq (.region 30 F5.r30.toArray false) (.seq (.region 31 F5.r31.toArray false) (.seq (.seq (.region 32 F5.r32.toArray false) (.cond (.tmp 135) (.seq (.region 33 F5.r33.toArray false) .ret) .skip)) F5.t34)))
theorem F5.t30_eq {P : Program} {Q : Post} {e : FA} {w : World} {θ : Tag (F5.t30, Q, e, w)} : cwE P F5.t30 Q e w θ = cwE P (.seq (.region 30 F5.r30.toArray false) (.seq (.region 31 F5.r31.toArray false) (.seq (.seq (.region 32 F5.r32.toArray false) (.cond (.tmp 135) (.seq (.region 33 F5.r33.toArray false) .ret) .skip)) F5.t34))) Q e w := rfl
def F5.t27 : Cd := (.region 27 F5.r27.toArray false)
theorem F5.t27_eq {P : Program} {Q : Post} {e : FA} {w : World} {θ : Tag (F5.t27, Q, e, w)} : cwE P F5.t27 Q e w θ = cwE P (.region 27 F5.r27.toArray false) Q e w := rfl
def F5.t28 : Cd := (.seq (.block 7 (.seq (.seq (.region 28 F5.r28.toArray false) (.cond (.tmp 117) (.seq (.region 29 F5.r29.toArray false) .ret) .skip)) F5.t30)) F5.t27)
theorem F5.t28_eq {P : Program} {Q : Post} {e : FA} {w : World} {θ : Tag (F5.t28, Q, e, w)} : cwE P F5.t28 Q e w θ = cwE P (.seq (.block 7 (.seq (.seq (.region 28 F5.r28.toArray false) (.cond (.tmp 117) (.seq (.region 29 F5.r29.toArray false) .ret) .skip)) F5.t30)) F5.t27) Q e w := rfl
def F5.t55 : Cd := (.region 55 F5.r55.toArray false)
theorem F5.t55_eq {P : Program} {Q : Post} {e : FA} {w : World} {θ : Tag (F5.t55, Q, e, w)} : cwE P F5.t55 Q e w θ = cwE P (.region 55 F5.r55.toArray false) Q e w := rfl
def F5.t53 : Cd := (.seq (.seq (.region 53 F5.r53.toArray true) (.cond (.tmp 267) (.seq (.region 54 F5.r54.toArray false) .ret) .skip)) F5.t55)
theorem F5.t53_eq {P : Program} {Q : Post} {e : FA} {w : World} {θ : Tag (F5.t53, Q, e, w)} : cwE P F5.t53 Q e w θ = cwE P (.seq (.seq (.region 53 F5.r53.toArray true) (.cond (.tmp 267) (.seq (.region 54 F5.r54.toArray false) .ret) .skip)) F5.t55) Q e w := rfl
def F5.t51 : Cd := (.region 51 F5.r51.toArray false)
theorem F5.t51_eq {P : Program} {Q : Post} {e : FA} {w : World} {θ : Tag (F5.t51, Q, e, w)} : cwE P F5.t51 Q e w θ = cwE P (.region 51 F5.r51.toArray false) Q e w := rfl
def F5.t52 : Cd := (.seq (.block 11 (.seq (.seq (.region 52 F5.r52.toArray false) (.cond (.tmp 252) (.exit 11) .skip)) F5.t53)) F5.t51)
theorem F5.t52_eq {P : Program} {Q : Post} {e : FA} {w : World} {θ : Tag (F5.t52, Q, e, w)} : cwE P F5.t52 Q e w θ = cwE P (.seq (.block 11 (.seq (.seq (.region 52 F5.r52.toArray false) (.cond (.tmp 252) (.exit 11) .skip)) F5.t53)) F5.t51) Q e w := rfl
def F5.t56 : Cd := (.seq (.region 56 F5.r56.toArray false) (.cond (.tmp 282) (.seq (.region 57 F5.r57.toArray false) .ret) .skip))
theorem F5.t56_eq {P : Program} {Q : Post} {e : FA} {w : World} {θ : Tag (F5.t56, Q, e, w)} : cwE P F5.t56 Q e w θ = cwE P (.seq (.region 56 F5.r56.toArray false) (.cond (.tmp 282) (.seq (.region 57 F5.r57.toArray false) .ret) .skip)) Q e w := rfl
def F5.t44 : Cd := (.region 44 F5.r44.toArray false)
theorem F5.t44_eq {P : Program} {Q : Post} {e : FA} {w : World} {θ : Tag (F5.t44, Q, e, w)} : cwE P F5.t44 Q e w θ = cwE P (.region 44 F5.r44.toArray false) Q e w := rfl
def F5.t45 : Cd := (.seq (.block 9 (.seq (.region 45 F5.r45.toArray false) (.seq (.region 46 F5.r46.toArray false) (.seq (.region 47 F5.r47.toArray false) (.seq (.region 48 F5.r48.toArray false) (.seq (.seq (.region 49 F5.r49.toArray false) (.block 10 (.loop (.seq (.seq (.region 50 F5.r50.toArray false) (.cond (.tmp 235) .skip (.exit 10))) F5.t52)))) F5.t56)))))) F5.t44)
theorem F5.t45_eq {P : Program} {Q : Post} {e : FA} {w : World} {θ : Tag (F5.t45, Q, e, w)} : cwE P F5.t45 Q e w θ = cwE P (.seq (.block 9 (.seq (.region 45 F5.r45.toArray false) (.seq (.region 46 F5.r46.toArray false) (.seq (.region 47 F5.r47.toArray false) (.seq (.region 48 F5.r48.toArray false) (.seq (.seq (.region 49 F5.r49.toArray false) (.block 10 (.loop (.seq (.seq (.region 50 F5.r50.toArray false) (.cond (.tmp 235) .skip (.exit 10))) F5.t52)))) F5.t56)))))) F5.t44) Q e w := rfl
def F5.t42 : Cd := (.seq (.region 42 F5.r42.toArray false) (.block 8 (.loop (.seq (.seq (.region 43 F5.r43.toArray false) (.cond (.tmp 215) .skip (.exit 8))) F5.t45))))
theorem F5.t42_eq {P : Program} {Q : Post} {e : FA} {w : World} {θ : Tag (F5.t42, Q, e, w)} : cwE P F5.t42 Q e w θ = cwE P (.seq (.region 42 F5.r42.toArray false) (.block 8 (.loop (.seq (.seq (.region 43 F5.r43.toArray false) (.cond (.tmp 215) .skip (.exit 8))) F5.t45)))) Q e w := rfl
def F5.t23 : Cd := (.seq (.region 23 F5.r23.toArray false) (.seq (.region 24 F5.r24.toArray false) (.seq (.seq (.region 25 F5.r25.toArray false) (.block 6 (.loop (.seq (.seq (.region 26 F5.r26.toArray false) (.cond (.tmp 95) .skip (.exit 6))) F5.t28)))) F5.t42)))
theorem F5.t23_eq {P : Program} {Q : Post} {e : FA} {w : World} {θ : Tag (F5.t23, Q, e, w)} : cwE P F5.t23 Q e w θ = cwE P (.seq (.region 23 F5.r23.toArray false) (.seq (.region 24 F5.r24.toArray false) (.seq (.seq (.region 25 F5.r25.toArray false) (.block 6 (.loop (.seq (.seq (.region 26 F5.r26.toArray false) (.cond (.tmp 95) .skip (.exit 6))) F5.t28)))) F5.t42))) Q e w := rfl
def F5.t21 : Cd := (.seq (.region 21 F5.r21.toArray false) (.seq (.seq (.region 22 F5.r22.toArray false) (.cond (.tmp 83) (.exit 1) .skip)) F5.t23))
theorem F5.t21_eq {P : Program} {Q : Post} {e : FA} {w : World} {θ : Tag (F5.t21, Q, e, w)} : cwE P F5.t21 Q e w θ = cwE P (.seq (.region 21 F5.r21.toArray false) (.seq (.seq (.region 22 F5.r22.toArray false) (.cond (.tmp 83) (.exit 1) .skip)) F5.t23)) Q e w := rfl
def F5.t16 : Cd := (.seq (.seq (.region 16 F5.r16.toArray false) (.block 4 (.loop (.seq (.seq (.region 17 F5.r17.toArray false) (.cond (.tmp 60) .skip (.exit 4))) F5.t19)))) F5.t21)
theorem F5.t16_eq {P : Program} {Q : Post} {e : FA} {w : World} {θ : Tag (F5.t16, Q, e, w)} : cwE P F5.t16 Q e w θ = cwE P (.seq (.seq (.region 16 F5.r16.toArray false) (.block 4 (.loop (.seq (.seq (.region 17 F5.r17.toArray false) (.cond (.tmp 60) .skip (.exit 4))) F5.t19)))) F5.t21) Q e w := rfl
def F5.t9 : Cd := (.region 9 F5.r9.toArray false)
theorem F5.t9_eq {P : Program} {Q : Post} {e : FA} {w : World} {θ : Tag (F5.t9, Q, e, w)} : cwE P F5.t9 Q e w θ = cwE P (.region 9 F5.r9.toArray false) Q e w := rfl
def F5.t10 : Cd := (.seq (.block 1 (.seq (.region 10 F5.r10.toArray false) (.seq (.region 11 F5.r11.toArray false) (.seq (.seq (.region 12 F5.r12.toArray false) (.block 2 (.loop (.seq (.seq (.region 13 F5.r13.toArray false) (.cond (.tmp 49) .skip (.exit 2))) F5.t15)))) F5.t16)))) F5.t9)
theorem F5.t10_eq {P : Program} {Q : Post} {e : FA} {w : World} {θ : Tag (F5.t10, Q, e, w)} : cwE P F5.t10 Q e w θ = cwE P (.seq (.block 1 (.seq (.region 10 F5.r10.toArray false) (.seq (.region 11 F5.r11.toArray false) (.seq (.seq (.region 12 F5.r12.toArray false) (.block 2 (.loop (.seq (.seq (.region 13 F5.r13.toArray false) (.cond (.tmp 49) .skip (.exit 2))) F5.t15)))) F5.t16)))) F5.t9) Q e w := rfl
def F5.t58 : Cd := (.seq (.region 58 F5.r58.toArray false) .ret)
theorem F5.t58_eq {P : Program} {Q : Post} {e : FA} {w : World} {θ : Tag (F5.t58, Q, e, w)} : cwE P F5.t58 Q e w θ = cwE P (.seq (.region 58 F5.r58.toArray false) .ret) Q e w := rfl
def F5.t7 : Cd := (.seq (.seq (.region 7 F5.r7.toArray false) (.block 0 (.loop (.seq (.seq (.region 8 F5.r8.toArray false) (.cond (.tmp 45) .skip (.exit 0))) F5.t10)))) F5.t58)
theorem F5.t7_eq {P : Program} {Q : Post} {e : FA} {w : World} {θ : Tag (F5.t7, Q, e, w)} : cwE P F5.t7 Q e w θ = cwE P (.seq (.seq (.region 7 F5.r7.toArray false) (.block 0 (.loop (.seq (.seq (.region 8 F5.r8.toArray false) (.cond (.tmp 45) .skip (.exit 0))) F5.t10)))) F5.t58) Q e w := rfl
def F5.t3 : Cd := (.seq (.region 3 F5.r3.toArray false) (.seq (.region 4 F5.r4.toArray false) (.seq (.seq (.region 5 F5.r5.toArray false) (.cond (.tmp 41) (.seq (.region 6 F5.r6.toArray false) .ret) .skip)) F5.t7)))
theorem F5.t3_eq {P : Program} {Q : Post} {e : FA} {w : World} {θ : Tag (F5.t3, Q, e, w)} : cwE P F5.t3 Q e w θ = cwE P (.seq (.region 3 F5.r3.toArray false) (.seq (.region 4 F5.r4.toArray false) (.seq (.seq (.region 5 F5.r5.toArray false) (.cond (.tmp 41) (.seq (.region 6 F5.r6.toArray false) .ret) .skip)) F5.t7))) Q e w := rfl
def F5.code : Cd := (.seq (.region 0 F5.r0.toArray false) (.seq (.seq (.region 1 F5.r1.toArray false) (.cond (.tmp 31) (.region 2 F5.r2.toArray false) .skip)) F5.t3))
theorem F5.calls {args : Array Value} {w : World} {R : Ending → World → Prop} (hn : args.size ≤ 283) (h : cwE Try.prog F5.code (fnP Try.prog #[(.tmp 2)] R) (entry args) w) : Calls Try.prog 5 args w R :=
  calls_of_cwE (types := Try.prog.types) follows Try.func5 F5.code rfl (by kernel_rfl) hn h

def F6.r0 : List Oper := [
  ⟨(some 2), (.assign (.const (.bool false))), 4, "", #[], none⟩]
def F6.r1 : List Oper := [
  ⟨(some 12), (.move (.tmp 0)), 29, "", #[], none⟩,
  ⟨(some 13), (.call ⟨(.builtin .len), #[(.tmp 12)], #[29]⟩), 3, "", #[], none⟩,
  ⟨(some 14), (.binOp .gtr 3 (.tmp 13) (.const (.int .i64 1048576)) 3), 4, "", #[], none⟩]
def F6.r2 : List Oper := [
  ⟨(some 15), (.move (.tmp 0)), 29, "", #[], none⟩,
  ⟨(some 16), (.slice 29 (.tmp 15) none (some (.const (.int .i64 1048576))) none), 29, "", #[], none⟩,
  ⟨(some 0), (.assign (.tmp 16)), 29, "", #[], none⟩]
def F6.r3 : List Oper := [
  ⟨(some 17), (.call ⟨(.value (.func 9)), #[], #[]⟩), 4, "", #[⟨0, .chain⟩], none⟩,
  ⟨(some 3), (.assign (.tmp 17)), 4, "", #[], none⟩]
def F6.r4 : List Oper := [
  ⟨(some 18), (.call ⟨(.value (.func 12)), #[], #[]⟩), 30, "", #[⟨0, .chain⟩], none⟩,
  ⟨(some 4), (.assign (.tmp 18)), 30, "", #[], none⟩]
def F6.r5 : List Oper := [
  ⟨(some 19), (.move (.tmp 3)), 4, "", #[], none⟩,
  ⟨(some 20), (.unOp .not 4 (.tmp 19)), 4, "", #[], none⟩,
  ⟨(some 21), (.move (.tmp 20)), 4, "", #[], none⟩,
  ⟨(some 22), (.move (.tmp 4)), 30, "", #[], (some (21, false))⟩,
  ⟨(some 23), (.binOp .eql 30 (.tmp 22) (.const (.pointer none)) 30), 4, "", #[], (some (21, false))⟩,
  ⟨(some 24), (.pick (.tmp 21) (.const (.bool true)) (.tmp 23)), 4, "", #[], none⟩]
def F6.r6 : List Oper := [
  ⟨(some 2), (.assign (.const (.bool false))), 4, "", #[], none⟩]
def F6.r7 : List Oper := [
  ⟨(some 5), (.assign (.const (.int .i64 0))), 3, "", #[], none⟩]
def F6.r8 : List Oper := [
  ⟨(some 25), (.move (.tmp 5)), 3, "", #[], none⟩,
  ⟨(some 26), (.move (.tmp 0)), 29, "", #[], none⟩,
  ⟨(some 27), (.call ⟨(.builtin .len), #[(.tmp 26)], #[29]⟩), 3, "", #[], none⟩,
  ⟨(some 28), (.binOp .lss 3 (.tmp 25) (.tmp 27) 3), 4, "", #[], none⟩]
def F6.r10 : List Oper := [
  ⟨(some 31), (.move (.tmp 4)), 30, "", #[], none⟩,
  ⟨(some 32), (.call ⟨(.value (.func 19)), #[(.tmp 31)], #[30]⟩), 34, "", #[⟨0, .chain⟩], none⟩,
  ⟨(some 6), (.assign (.tmp 32)), 34, "", #[], none⟩]
def F6.r11 : List Oper := [
  ⟨(some 34), (.move (.tmp 4)), 30, "", #[], none⟩,
  ⟨(some 35), (.move (.tmp 0)), 29, "", #[], none⟩,
  ⟨(some 36), (.move (.tmp 5)), 3, "", #[], none⟩,
  ⟨(some 37), (.indexAddr 29 (.tmp 35) (.tmp 36)), 0, "", #[], none⟩,
  ⟨(some 38), (.load 44 (.tmp 37)), 44, "", #[⟨0, .data⟩], none⟩,
  ⟨(some 39), (.call ⟨(.value (.func 16)), #[(.tmp 34), (.tmp 38)], #[30, 44]⟩), 41, "", #[⟨0, .chain⟩], none⟩,
  ⟨(some 33), (.move (.tmp 39)), 41, "", #[], none⟩,
  ⟨(some 40), (.extract (.tmp 33) 0), 34, "", #[], none⟩,
  ⟨(some 41), (.extract (.tmp 33) 1), 4, "", #[], none⟩,
  ⟨(some 7), (.assign (.tmp 40)), 34, "", #[], none⟩,
  ⟨(some 8), (.assign (.tmp 41)), 4, "", #[], none⟩]
def F6.r12 : List Oper := [
  ⟨(some 42), (.move (.tmp 4)), 30, "", #[], none⟩,
  ⟨(some 43), (.call ⟨(.value (.func 19)), #[(.tmp 42)], #[30]⟩), 34, "", #[⟨0, .chain⟩], none⟩,
  ⟨(some 9), (.assign (.tmp 43)), 34, "", #[], none⟩]
def F6.r13 : List Oper := [
  ⟨(some 44), (.move (.tmp 6)), 34, "", #[], none⟩,
  ⟨(some 45), (.move (.tmp 9)), 34, "", #[], none⟩,
  ⟨(some 46), (.call ⟨(.value (.func 20)), #[(.tmp 44), (.tmp 45)], #[34, 34]⟩), 4, "", #[⟨0, .chain⟩], none⟩,
  ⟨(some 10), (.assign (.tmp 46)), 4, "", #[], none⟩]
def F6.r14 : List Oper := [
  ⟨(some 47), (.move (.tmp 4)), 30, "", #[], none⟩,
  ⟨(some 48), (.call ⟨(.value (.func 21)), #[(.tmp 47)], #[30]⟩), 4, "", #[⟨0, .chain⟩], none⟩,
  ⟨(some 11), (.assign (.tmp 48)), 4, "", #[], none⟩]
def F6.r15 : List Oper := [
  ⟨(some 49), (.move (.tmp 11)), 4, "", #[], none⟩,
  ⟨(some 50), (.unOp .not 4 (.tmp 49)), 4, "", #[], none⟩,
  ⟨(some 51), (.move (.tmp 50)), 4, "", #[], none⟩,
  ⟨(some 52), (.move (.tmp 8)), 4, "", #[], (some (51, false))⟩,
  ⟨(some 53), (.unOp .not 4 (.tmp 52)), 4, "", #[], (some (51, false))⟩,
  ⟨(some 54), (.move (.tmp 53)), 4, "", #[], (some (51, false))⟩,
  ⟨(some 55), (.move (.tmp 10)), 4, "", #[], (some (54, true))⟩,
  ⟨(some 56), (.unOp .not 4 (.tmp 55)), 4, "", #[], (some (54, true))⟩,
  ⟨(some 57), (.pick (.tmp 54) (.tmp 56) (.const (.bool false))), 4, "", #[], (some (51, false))⟩,
  ⟨(some 58), (.pick (.tmp 51) (.const (.bool true)) (.tmp 57)), 4, "", #[], none⟩]
def F6.r16 : List Oper := [
  ⟨(some 2), (.assign (.const (.bool false))), 4, "", #[], none⟩]
def F6.r9 : List Oper := [
  ⟨(some 29), (.move (.tmp 5)), 3, "", #[], none⟩,
  ⟨(some 30), (.binOp .add 3 (.tmp 29) (.const (.int .i64 1)) 3), 3, "", #[], none⟩,
  ⟨(some 5), (.assign (.tmp 30)), 3, "", #[], none⟩]
def F6.r17 : List Oper := [
  ⟨(some 2), (.assign (.const (.bool true))), 4, "", #[], none⟩]
def F6.t9 : Cd := (.region 9 F6.r9.toArray false)
theorem F6.t9_eq {P : Program} {Q : Post} {e : FA} {w : World} {θ : Tag (F6.t9, Q, e, w)} : cwE P F6.t9 Q e w θ = cwE P (.region 9 F6.r9.toArray false) Q e w := rfl
def F6.t10 : Cd := (.seq (.block 1 (.seq (.region 10 F6.r10.toArray false) (.seq (.region 11 F6.r11.toArray false) (.seq (.region 12 F6.r12.toArray false) (.seq (.region 13 F6.r13.toArray false) (.seq (.region 14 F6.r14.toArray false) (.seq (.region 15 F6.r15.toArray false) (.cond (.tmp 58) (.seq (.region 16 F6.r16.toArray false) .ret) .skip)))))))) F6.t9)
theorem F6.t10_eq {P : Program} {Q : Post} {e : FA} {w : World} {θ : Tag (F6.t10, Q, e, w)} : cwE P F6.t10 Q e w θ = cwE P (.seq (.block 1 (.seq (.region 10 F6.r10.toArray false) (.seq (.region 11 F6.r11.toArray false) (.seq (.region 12 F6.r12.toArray false) (.seq (.region 13 F6.r13.toArray false) (.seq (.region 14 F6.r14.toArray false) (.seq (.region 15 F6.r15.toArray false) (.cond (.tmp 58) (.seq (.region 16 F6.r16.toArray false) .ret) .skip)))))))) F6.t9) Q e w := rfl
def F6.t17 : Cd := (.seq (.region 17 F6.r17.toArray false) .ret)
theorem F6.t17_eq {P : Program} {Q : Post} {e : FA} {w : World} {θ : Tag (F6.t17, Q, e, w)} : cwE P F6.t17 Q e w θ = cwE P (.seq (.region 17 F6.r17.toArray false) .ret) Q e w := rfl
def F6.t7 : Cd := (.seq (.seq (.region 7 F6.r7.toArray false) (.block 0 (.loop (.seq (.seq (.region 8 F6.r8.toArray false) (.cond (.tmp 28) .skip (.exit 0))) F6.t10)))) F6.t17)
theorem F6.t7_eq {P : Program} {Q : Post} {e : FA} {w : World} {θ : Tag (F6.t7, Q, e, w)} : cwE P F6.t7 Q e w θ = cwE P (.seq (.seq (.region 7 F6.r7.toArray false) (.block 0 (.loop (.seq (.seq (.region 8 F6.r8.toArray false) (.cond (.tmp 28) .skip (.exit 0))) F6.t10)))) F6.t17) Q e w := rfl
def F6.t3 : Cd := (.seq (.region 3 F6.r3.toArray false) (.seq (.region 4 F6.r4.toArray false) (.seq (.seq (.region 5 F6.r5.toArray false) (.cond (.tmp 24) (.seq (.region 6 F6.r6.toArray false) .ret) .skip)) F6.t7)))
theorem F6.t3_eq {P : Program} {Q : Post} {e : FA} {w : World} {θ : Tag (F6.t3, Q, e, w)} : cwE P F6.t3 Q e w θ = cwE P (.seq (.region 3 F6.r3.toArray false) (.seq (.region 4 F6.r4.toArray false) (.seq (.seq (.region 5 F6.r5.toArray false) (.cond (.tmp 24) (.seq (.region 6 F6.r6.toArray false) .ret) .skip)) F6.t7))) Q e w := rfl
def F6.code : Cd := (.seq (.region 0 F6.r0.toArray false) (.seq (.seq (.region 1 F6.r1.toArray false) (.cond (.tmp 14) (.region 2 F6.r2.toArray false) .skip)) F6.t3))
theorem F6.calls {args : Array Value} {w : World} {R : Ending → World → Prop} (hn : args.size ≤ 59) (h : cwE Try.prog F6.code (fnP Try.prog #[(.tmp 2)] R) (entry args) w) : Calls Try.prog 6 args w R :=
  calls_of_cwE (types := Try.prog.types) follows Try.func6 F6.code rfl (by kernel_rfl) hn h

def F7.r0 : List Oper := [
  ⟨(some 2), (.assign (.const (.bool false))), 4, "", #[], none⟩]
def F7.r1 : List Oper := [
  ⟨(some 18), (.move (.tmp 0)), 29, "", #[], none⟩,
  ⟨(some 19), (.call ⟨(.builtin .len), #[(.tmp 18)], #[29]⟩), 3, "", #[], none⟩,
  ⟨(some 20), (.binOp .gtr 3 (.tmp 19) (.const (.int .i64 1048576)) 3), 4, "", #[], none⟩]
def F7.r2 : List Oper := [
  ⟨(some 21), (.move (.tmp 0)), 29, "", #[], none⟩,
  ⟨(some 22), (.slice 29 (.tmp 21) none (some (.const (.int .i64 1048576))) none), 29, "", #[], none⟩,
  ⟨(some 0), (.assign (.tmp 22)), 29, "", #[], none⟩]
def F7.r3 : List Oper := [
  ⟨(some 23), (.call ⟨(.value (.func 9)), #[], #[]⟩), 4, "", #[⟨0, .chain⟩], none⟩,
  ⟨(some 3), (.assign (.tmp 23)), 4, "", #[], none⟩]
def F7.r4 : List Oper := [
  ⟨(some 24), (.call ⟨(.value (.func 12)), #[], #[]⟩), 30, "", #[⟨0, .chain⟩], none⟩,
  ⟨(some 4), (.assign (.tmp 24)), 30, "", #[], none⟩]
def F7.r5 : List Oper := [
  ⟨(some 25), (.move (.tmp 3)), 4, "", #[], none⟩,
  ⟨(some 26), (.unOp .not 4 (.tmp 25)), 4, "", #[], none⟩,
  ⟨(some 27), (.move (.tmp 26)), 4, "", #[], none⟩,
  ⟨(some 28), (.move (.tmp 4)), 30, "", #[], (some (27, false))⟩,
  ⟨(some 29), (.binOp .eql 30 (.tmp 28) (.const (.pointer none)) 30), 4, "", #[], (some (27, false))⟩,
  ⟨(some 30), (.pick (.tmp 27) (.const (.bool true)) (.tmp 29)), 4, "", #[], none⟩]
def F7.r6 : List Oper := [
  ⟨(some 2), (.assign (.const (.bool false))), 4, "", #[], none⟩]
def F7.r7 : List Oper := [
  ⟨(some 5), (.assign (.const (.int .i64 0))), 3, "", #[], none⟩]
def F7.r8 : List Oper := [
  ⟨(some 31), (.move (.tmp 5)), 3, "", #[], none⟩,
  ⟨(some 32), (.move (.tmp 0)), 29, "", #[], none⟩,
  ⟨(some 33), (.call ⟨(.builtin .len), #[(.tmp 32)], #[29]⟩), 3, "", #[], none⟩,
  ⟨(some 34), (.binOp .lss 3 (.tmp 31) (.tmp 33) 3), 4, "", #[], none⟩]
def F7.r10 : List Oper := [
  ⟨(some 37), (.move (.tmp 0)), 29, "", #[], none⟩,
  ⟨(some 38), (.move (.tmp 5)), 3, "", #[], none⟩,
  ⟨(some 39), (.indexAddr 29 (.tmp 37) (.tmp 38)), 0, "", #[], none⟩,
  ⟨(some 40), (.load 44 (.tmp 39)), 44, "", #[⟨0, .data⟩], none⟩,
  ⟨(some 6), (.alloc 44), 0, "", #[⟨0, .chain⟩], none⟩,
  ⟨none, (.store 44 (.tmp 6) (.tmp 40)), 0, "", #[⟨0, .chain⟩], none⟩]
def F7.r11 : List Oper := [
  ⟨(some 41), (.fieldAddr 44 (.tmp 6) 1), 0, "", #[], none⟩,
  ⟨(some 42), (.load 3 (.tmp 41)), 3, "", #[⟨0, .data⟩], none⟩,
  ⟨(some 43), (.call ⟨(.value (.func 17)), #[(.tmp 42), (.const (.int .i64 8))], #[3, 3]⟩), 3, "", #[⟨0, .chain⟩], none⟩,
  ⟨(some 44), (.binOp .add 3 (.const (.int .i64 1)) (.tmp 43) 3), 3, "", #[], none⟩,
  ⟨(some 7), (.assign (.tmp 44)), 3, "", #[], none⟩]
def F7.r12 : List Oper := [
  ⟨(some 45), (.move (.tmp 4)), 30, "", #[], none⟩,
  ⟨(some 46), (.move (.tmp 7)), 3, "", #[], none⟩,
  ⟨(some 47), (.call ⟨(.value (.func 22)), #[(.tmp 45), (.tmp 46)], #[30, 3]⟩), 33, "", #[⟨0, .chain⟩], none⟩,
  ⟨(some 8), (.assign (.tmp 47)), 33, "", #[], none⟩]
def F7.r13 : List Oper := [
  ⟨(some 48), (.fieldAddr 44 (.tmp 6) 0), 0, "", #[], none⟩,
  ⟨(some 49), (.load 3 (.tmp 48)), 3, "", #[⟨0, .data⟩], none⟩,
  ⟨(some 50), (.call ⟨(.value (.func 17)), #[(.tmp 49), (.const (.int .i64 4))], #[3, 3]⟩), 3, "", #[⟨0, .chain⟩], none⟩,
  ⟨(some 51), (.binOp .lss 3 (.tmp 50) (.const (.int .i64 2)) 3), 4, "", #[], none⟩,
  ⟨(some 52), (.move (.tmp 51)), 4, "", #[], none⟩,
  ⟨(some 53), (.move (.tmp 8)), 33, "", #[], (some (52, true))⟩,
  ⟨(some 54), (.call ⟨(.builtin .len), #[(.tmp 53)], #[33]⟩), 3, "", #[], (some (52, true))⟩,
  ⟨(some 55), (.binOp .gtr 3 (.tmp 54) (.const (.int .i64 0)) 3), 4, "", #[], (some (52, true))⟩,
  ⟨(some 56), (.pick (.tmp 52) (.tmp 55) (.const (.bool false))), 4, "", #[], none⟩]
def F7.r14 : List Oper := [
  ⟨(some 57), (.move (.tmp 8)), 33, "", #[], none⟩,
  ⟨(some 58), (.move (.tmp 8)), 33, "", #[], none⟩,
  ⟨(some 59), (.call ⟨(.builtin .len), #[(.tmp 58)], #[33]⟩), 3, "", #[], none⟩,
  ⟨(some 60), (.binOp .sub 3 (.tmp 59) (.const (.int .i64 1)) 3), 3, "", #[], none⟩,
  ⟨(some 61), (.indexAddr 33 (.tmp 57) (.tmp 60)), 0, "", #[], none⟩,
  ⟨(some 62), (.fieldAddr 38 (.tmp 61) 0), 0, "", #[], none⟩,
  ⟨(some 63), (.load 26 (.tmp 62)), 26, "", #[⟨0, .data⟩], none⟩,
  ⟨(some 9), (.alloc 26), 0, "", #[⟨0, .chain⟩], none⟩,
  ⟨none, (.store 26 (.tmp 9) (.tmp 63)), 0, "", #[⟨0, .chain⟩], none⟩]
def F7.r15 : List Oper := [
  ⟨(some 64), (.fieldAddr 44 (.tmp 6) 2), 0, "", #[], none⟩,
  ⟨(some 65), (.load 3 (.tmp 64)), 3, "", #[⟨44, .data⟩], none⟩,
  ⟨(some 68), (.load 26 (.tmp 9)), 26, "", #[⟨32, .data⟩], none⟩,
  ⟨(some 66), (.call ⟨(.value (.func 17)), #[(.tmp 65), (.const (.int .i64 6))], #[3, 3]⟩), 3, "", #[⟨2, .chain⟩], none⟩,
  ⟨(some 67), (.call ⟨(.value (.func 14)), #[(.tmp 66)], #[3]⟩), 26, "", #[⟨3, .chain⟩], none⟩,
  ⟨(some 69), (.call ⟨(.value (.func 10)), #[(.tmp 67), (.tmp 68)], #[26, 26]⟩), 3, "", #[⟨5, .chain⟩], none⟩,
  ⟨(some 70), (.binOp .leq 3 (.tmp 69) (.const (.int .i64 0)) 3), 4, "", #[], none⟩]
def F7.r16 : List Oper := [
  ⟨(some 71), (.move (.tmp 4)), 30, "", #[], none⟩,
  ⟨(some 72), (.load 44 (.tmp 6)), 44, "", #[⟨0, .data⟩], none⟩,
  ⟨(some 73), (.call ⟨(.value (.func 16)), #[(.tmp 71), (.tmp 72)], #[30, 44]⟩), 41, "", #[⟨0, .chain⟩], none⟩]
def F7.r17 : List Oper := [
  ⟨(some 74), (.move (.tmp 4)), 30, "", #[], none⟩,
  ⟨(some 75), (.call ⟨(.value (.func 23)), #[(.tmp 74)], #[30]⟩), 34, "", #[⟨0, .chain⟩], none⟩,
  ⟨(some 10), (.assign (.tmp 75)), 34, "", #[], none⟩]
def F7.r18 : List Oper := [
  ⟨(some 76), (.move (.tmp 10)), 34, "", #[], none⟩,
  ⟨(some 77), (.call ⟨(.builtin .len), #[(.tmp 76)], #[34]⟩), 3, "", #[], none⟩,
  ⟨(some 78), (.binOp .gtr 3 (.tmp 77) (.const (.int .i64 0)) 3), 4, "", #[], none⟩]
def F7.r19 : List Oper := [
  ⟨(some 2), (.assign (.const (.bool false))), 4, "", #[], none⟩]
def F7.r9 : List Oper := [
  ⟨(some 35), (.move (.tmp 5)), 3, "", #[], none⟩,
  ⟨(some 36), (.binOp .add 3 (.tmp 35) (.const (.int .i64 1)) 3), 3, "", #[], none⟩,
  ⟨(some 5), (.assign (.tmp 36)), 3, "", #[], none⟩]
def F7.r20 : List Oper := [
  ⟨(some 11), (.assign (.const (.int .i64 0))), 3, "", #[], none⟩]
def F7.r21 : List Oper := [
  ⟨(some 79), (.move (.tmp 11)), 3, "", #[], none⟩,
  ⟨(some 80), (.binOp .leq 3 (.tmp 79) (.const (.int .i64 8)) 3), 4, "", #[], none⟩]
def F7.r23 : List Oper := [
  ⟨(some 12), (.assign (.const (.int .i64 1))), 3, "", #[], none⟩]
def F7.r24 : List Oper := [
  ⟨(some 83), (.move (.tmp 12)), 3, "", #[], none⟩,
  ⟨(some 84), (.binOp .leq 3 (.tmp 83) (.const (.int .i64 8)) 3), 4, "", #[], none⟩]
def F7.r26 : List Oper := [
  ⟨(some 88), (.move (.tmp 4)), 30, "", #[], none⟩,
  ⟨(some 89), (.move (.tmp 12)), 3, "", #[], none⟩,
  ⟨(some 90), (.call ⟨(.value (.func 15)), #[(.tmp 88), (.tmp 89)], #[30, 3]⟩), 39, "", #[⟨0, .chain⟩], none⟩,
  ⟨(some 87), (.move (.tmp 90)), 39, "", #[], none⟩,
  ⟨(some 91), (.extract (.tmp 87) 0), 38, "", #[], none⟩,
  ⟨(some 92), (.extract (.tmp 87) 1), 4, "", #[], none⟩,
  ⟨(some 13), (.alloc 38), 0, "", #[⟨0, .chain⟩], none⟩,
  ⟨none, (.store 38 (.tmp 13) (.tmp 91)), 0, "", #[⟨0, .chain⟩], none⟩,
  ⟨(some 14), (.assign (.tmp 92)), 4, "", #[], none⟩]
def F7.r27 : List Oper := [
  ⟨(some 93), (.move (.tmp 14)), 4, "", #[], none⟩,
  ⟨(some 94), (.unOp .not 4 (.tmp 93)), 4, "", #[], none⟩]
def F7.r28 : List Oper := [
  ⟨(some 95), (.move (.tmp 4)), 30, "", #[], none⟩,
  ⟨(some 96), (.move (.tmp 12)), 3, "", #[], none⟩,
  ⟨(some 97), (.call ⟨(.value (.func 24)), #[(.tmp 95), (.tmp 96)], #[30, 3]⟩), 34, "", #[⟨0, .chain⟩], none⟩]
def F7.r25 : List Oper := [
  ⟨(some 85), (.move (.tmp 12)), 3, "", #[], none⟩,
  ⟨(some 86), (.binOp .add 3 (.tmp 85) (.const (.int .i64 1)) 3), 3, "", #[], none⟩,
  ⟨(some 12), (.assign (.tmp 86)), 3, "", #[], none⟩]
def F7.r22 : List Oper := [
  ⟨(some 81), (.move (.tmp 11)), 3, "", #[], none⟩,
  ⟨(some 82), (.binOp .add 3 (.tmp 81) (.const (.int .i64 1)) 3), 3, "", #[], none⟩,
  ⟨(some 11), (.assign (.tmp 82)), 3, "", #[], none⟩]
def F7.r29 : List Oper := [
  ⟨(some 15), (.assign (.const (.int .i64 1))), 3, "", #[], none⟩]
def F7.r30 : List Oper := [
  ⟨(some 98), (.move (.tmp 15)), 3, "", #[], none⟩,
  ⟨(some 99), (.binOp .leq 3 (.tmp 98) (.const (.int .i64 8)) 3), 4, "", #[], none⟩]
def F7.r32 : List Oper := [
  ⟨(some 103), (.move (.tmp 4)), 30, "", #[], none⟩,
  ⟨(some 104), (.move (.tmp 15)), 3, "", #[], none⟩,
  ⟨(some 105), (.call ⟨(.value (.func 15)), #[(.tmp 103), (.tmp 104)], #[30, 3]⟩), 39, "", #[⟨0, .chain⟩], none⟩,
  ⟨(some 102), (.move (.tmp 105)), 39, "", #[], none⟩,
  ⟨(some 106), (.extract (.tmp 102) 0), 38, "", #[], none⟩,
  ⟨(some 107), (.extract (.tmp 102) 1), 4, "", #[], none⟩,
  ⟨(some 16), (.alloc 38), 0, "", #[⟨0, .chain⟩], none⟩,
  ⟨none, (.store 38 (.tmp 16) (.tmp 106)), 0, "", #[⟨0, .chain⟩], none⟩,
  ⟨(some 17), (.assign (.tmp 107)), 4, "", #[], none⟩]
def F7.r33 : List Oper := [
  ⟨(some 108), (.move (.tmp 17)), 4, "", #[], none⟩]
def F7.r34 : List Oper := [
  ⟨(some 2), (.assign (.const (.bool false))), 4, "", #[], none⟩]
def F7.r31 : List Oper := [
  ⟨(some 100), (.move (.tmp 15)), 3, "", #[], none⟩,
  ⟨(some 101), (.binOp .add 3 (.tmp 100) (.const (.int .i64 1)) 3), 3, "", #[], none⟩,
  ⟨(some 15), (.assign (.tmp 101)), 3, "", #[], none⟩]
def F7.r35 : List Oper := [
  ⟨(some 109), (.move (.tmp 4)), 30, "", #[], none⟩,
  ⟨(some 110), (.call ⟨(.value (.func 25)), #[(.tmp 109)], #[30]⟩), 4, "", #[⟨0, .chain⟩], none⟩,
  ⟨(some 2), (.assign (.tmp 110)), 4, "", #[], none⟩]
def F7.t16 : Cd := (.seq (.region 16 F7.r16.toArray false) (.seq (.region 17 F7.r17.toArray false) (.seq (.region 18 F7.r18.toArray false) (.cond (.tmp 78) (.seq (.region 19 F7.r19.toArray false) .ret) .skip))))
theorem F7.t16_eq {P : Program} {Q : Post} {e : FA} {w : World} {θ : Tag (F7.t16, Q, e, w)} : cwE P F7.t16 Q e w θ = cwE P (.seq (.region 16 F7.r16.toArray false) (.seq (.region 17 F7.r17.toArray false) (.seq (.region 18 F7.r18.toArray false) (.cond (.tmp 78) (.seq (.region 19 F7.r19.toArray false) .ret) .skip)))) Q e w := rfl
def F7.t9 : Cd := (.region 9 F7.r9.toArray false)
theorem F7.t9_eq {P : Program} {Q : Post} {e : FA} {w : World} {θ : Tag (F7.t9, Q, e, w)} : cwE P F7.t9 Q e w θ = cwE P (.region 9 F7.r9.toArray false) Q e w := rfl
def F7.t10 : Cd := (.seq (.block 1 (.seq (.region 10 F7.r10.toArray false) (.seq (.region 11 F7.r11.toArray false) (.seq (.region 12 F7.r12.toArray false) (.seq (.seq (.region 13 F7.r13.toArray false) (.cond (.tmp 56) (.seq (.region 14 F7.r14.toArray false) (.seq (.region 15 F7.r15.toArray true) (.cond (.tmp 70) (.exit 1) .skip))) .skip)) F7.t16))))) F7.t9)
theorem F7.t10_eq {P : Program} {Q : Post} {e : FA} {w : World} {θ : Tag (F7.t10, Q, e, w)} : cwE P F7.t10 Q e w θ = cwE P (.seq (.block 1 (.seq (.region 10 F7.r10.toArray false) (.seq (.region 11 F7.r11.toArray false) (.seq (.region 12 F7.r12.toArray false) (.seq (.seq (.region 13 F7.r13.toArray false) (.cond (.tmp 56) (.seq (.region 14 F7.r14.toArray false) (.seq (.region 15 F7.r15.toArray true) (.cond (.tmp 70) (.exit 1) .skip))) .skip)) F7.t16))))) F7.t9) Q e w := rfl
def F7.t25 : Cd := (.region 25 F7.r25.toArray false)
theorem F7.t25_eq {P : Program} {Q : Post} {e : FA} {w : World} {θ : Tag (F7.t25, Q, e, w)} : cwE P F7.t25 Q e w θ = cwE P (.region 25 F7.r25.toArray false) Q e w := rfl
def F7.t26 : Cd := (.seq (.block 5 (.seq (.region 26 F7.r26.toArray false) (.seq (.region 27 F7.r27.toArray false) (.cond (.tmp 94) (.region 28 F7.r28.toArray false) .skip)))) F7.t25)
theorem F7.t26_eq {P : Program} {Q : Post} {e : FA} {w : World} {θ : Tag (F7.t26, Q, e, w)} : cwE P F7.t26 Q e w θ = cwE P (.seq (.block 5 (.seq (.region 26 F7.r26.toArray false) (.seq (.region 27 F7.r27.toArray false) (.cond (.tmp 94) (.region 28 F7.r28.toArray false) .skip)))) F7.t25) Q e w := rfl
def F7.t22 : Cd := (.region 22 F7.r22.toArray false)
theorem F7.t22_eq {P : Program} {Q : Post} {e : FA} {w : World} {θ : Tag (F7.t22, Q, e, w)} : cwE P F7.t22 Q e w θ = cwE P (.region 22 F7.r22.toArray false) Q e w := rfl
def F7.t23 : Cd := (.seq (.block 3 (.seq (.region 23 F7.r23.toArray false) (.block 4 (.loop (.seq (.seq (.region 24 F7.r24.toArray false) (.cond (.tmp 84) .skip (.exit 4))) F7.t26))))) F7.t22)
theorem F7.t23_eq {P : Program} {Q : Post} {e : FA} {w : World} {θ : Tag (F7.t23, Q, e, w)} : cwE P F7.t23 Q e w θ = cwE P (.seq (.block 3 (.seq (.region 23 F7.r23.toArray false) (.block 4 (.loop (.seq (.seq (.region 24 F7.r24.toArray false) (.cond (.tmp 84) .skip (.exit 4))) F7.t26))))) F7.t22) Q e w := rfl
def F7.t31 : Cd := (.region 31 F7.r31.toArray false)
theorem F7.t31_eq {P : Program} {Q : Post} {e : FA} {w : World} {θ : Tag (F7.t31, Q, e, w)} : cwE P F7.t31 Q e w θ = cwE P (.region 31 F7.r31.toArray false) Q e w := rfl
def F7.t32 : Cd := (.seq (.block 7 (.seq (.region 32 F7.r32.toArray false) (.seq (.region 33 F7.r33.toArray false) (.cond (.tmp 108) (.seq (.region 34 F7.r34.toArray false) .ret) .skip)))) F7.t31)
theorem F7.t32_eq {P : Program} {Q : Post} {e : FA} {w : World} {θ : Tag (F7.t32, Q, e, w)} : cwE P F7.t32 Q e w θ = cwE P (.seq (.block 7 (.seq (.region 32 F7.r32.toArray false) (.seq (.region 33 F7.r33.toArray false) (.cond (.tmp 108) (.seq (.region 34 F7.r34.toArray false) .ret) .skip)))) F7.t31) Q e w := rfl
def F7.t35 : Cd := (.seq (.region 35 F7.r35.toArray false) .ret)
theorem F7.t35_eq {P : Program} {Q : Post} {e : FA} {w : World} {θ : Tag (F7.t35, Q, e, w)} : cwE P F7.t35 Q e w θ = cwE P (.seq (.region 35 F7.r35.toArray false) .ret) Q e w := rfl
def F7.t29 : Cd := (.seq (.seq (.region 29 F7.r29.toArray false) (.block 6 (.loop (.seq (.seq (.region 30 F7.r30.toArray false) (.cond (.tmp 99) .skip (.exit 6))) F7.t32)))) F7.t35)
theorem F7.t29_eq {P : Program} {Q : Post} {e : FA} {w : World} {θ : Tag (F7.t29, Q, e, w)} : cwE P F7.t29 Q e w θ = cwE P (.seq (.seq (.region 29 F7.r29.toArray false) (.block 6 (.loop (.seq (.seq (.region 30 F7.r30.toArray false) (.cond (.tmp 99) .skip (.exit 6))) F7.t32)))) F7.t35) Q e w := rfl
def F7.t20 : Cd := (.seq (.seq (.region 20 F7.r20.toArray false) (.block 2 (.loop (.seq (.seq (.region 21 F7.r21.toArray false) (.cond (.tmp 80) .skip (.exit 2))) F7.t23)))) F7.t29)
theorem F7.t20_eq {P : Program} {Q : Post} {e : FA} {w : World} {θ : Tag (F7.t20, Q, e, w)} : cwE P F7.t20 Q e w θ = cwE P (.seq (.seq (.region 20 F7.r20.toArray false) (.block 2 (.loop (.seq (.seq (.region 21 F7.r21.toArray false) (.cond (.tmp 80) .skip (.exit 2))) F7.t23)))) F7.t29) Q e w := rfl
def F7.t7 : Cd := (.seq (.seq (.region 7 F7.r7.toArray false) (.block 0 (.loop (.seq (.seq (.region 8 F7.r8.toArray false) (.cond (.tmp 34) .skip (.exit 0))) F7.t10)))) F7.t20)
theorem F7.t7_eq {P : Program} {Q : Post} {e : FA} {w : World} {θ : Tag (F7.t7, Q, e, w)} : cwE P F7.t7 Q e w θ = cwE P (.seq (.seq (.region 7 F7.r7.toArray false) (.block 0 (.loop (.seq (.seq (.region 8 F7.r8.toArray false) (.cond (.tmp 34) .skip (.exit 0))) F7.t10)))) F7.t20) Q e w := rfl
def F7.t3 : Cd := (.seq (.region 3 F7.r3.toArray false) (.seq (.region 4 F7.r4.toArray false) (.seq (.seq (.region 5 F7.r5.toArray false) (.cond (.tmp 30) (.seq (.region 6 F7.r6.toArray false) .ret) .skip)) F7.t7)))
theorem F7.t3_eq {P : Program} {Q : Post} {e : FA} {w : World} {θ : Tag (F7.t3, Q, e, w)} : cwE P F7.t3 Q e w θ = cwE P (.seq (.region 3 F7.r3.toArray false) (.seq (.region 4 F7.r4.toArray false) (.seq (.seq (.region 5 F7.r5.toArray false) (.cond (.tmp 30) (.seq (.region 6 F7.r6.toArray false) .ret) .skip)) F7.t7))) Q e w := rfl
def F7.code : Cd := (.seq (.region 0 F7.r0.toArray false) (.seq (.seq (.region 1 F7.r1.toArray false) (.cond (.tmp 20) (.region 2 F7.r2.toArray false) .skip)) F7.t3))
theorem F7.calls {args : Array Value} {w : World} {R : Ending → World → Prop} (hn : args.size ≤ 111) (h : cwE Try.prog F7.code (fnP Try.prog #[(.tmp 2)] R) (entry args) w) : Calls Try.prog 7 args w R :=
  calls_of_cwE (types := Try.prog.types) follows Try.func7 F7.code rfl (by kernel_rfl) hn h

def F8.r0 : List Oper := [
  ⟨(some 2), (.assign (.const (.bool false))), 4, "", #[], none⟩]
def F8.r1 : List Oper := [
  ⟨(some 25), (.move (.tmp 0)), 29, "", #[], none⟩,
  ⟨(some 26), (.call ⟨(.builtin .len), #[(.tmp 25)], #[29]⟩), 3, "", #[], none⟩,
  ⟨(some 27), (.binOp .gtr 3 (.tmp 26) (.const (.int .i64 1048576)) 3), 4, "", #[], none⟩]
def F8.r2 : List Oper := [
  ⟨(some 28), (.move (.tmp 0)), 29, "", #[], none⟩,
  ⟨(some 29), (.slice 29 (.tmp 28) none (some (.const (.int .i64 1048576))) none), 29, "", #[], none⟩,
  ⟨(some 0), (.assign (.tmp 29)), 29, "", #[], none⟩]
def F8.r3 : List Oper := [
  ⟨(some 30), (.call ⟨(.value (.func 9)), #[], #[]⟩), 4, "", #[⟨0, .chain⟩], none⟩,
  ⟨(some 3), (.assign (.tmp 30)), 4, "", #[], none⟩]
def F8.r4 : List Oper := [
  ⟨(some 31), (.call ⟨(.value (.func 12)), #[], #[]⟩), 30, "", #[⟨0, .chain⟩], none⟩,
  ⟨(some 4), (.assign (.tmp 31)), 30, "", #[], none⟩]
def F8.r5 : List Oper := [
  ⟨(some 32), (.move (.tmp 3)), 4, "", #[], none⟩,
  ⟨(some 33), (.unOp .not 4 (.tmp 32)), 4, "", #[], none⟩,
  ⟨(some 34), (.move (.tmp 33)), 4, "", #[], none⟩,
  ⟨(some 35), (.move (.tmp 4)), 30, "", #[], (some (34, false))⟩,
  ⟨(some 36), (.binOp .eql 30 (.tmp 35) (.const (.pointer none)) 30), 4, "", #[], (some (34, false))⟩,
  ⟨(some 37), (.pick (.tmp 34) (.const (.bool true)) (.tmp 36)), 4, "", #[], none⟩]
def F8.r6 : List Oper := [
  ⟨(some 2), (.assign (.const (.bool false))), 4, "", #[], none⟩]
def F8.r7 : List Oper := [
  ⟨(some 5), (.assign (.const (.int .i64 0))), 3, "", #[], none⟩]
def F8.r8 : List Oper := [
  ⟨(some 38), (.move (.tmp 5)), 3, "", #[], none⟩,
  ⟨(some 39), (.move (.tmp 0)), 29, "", #[], none⟩,
  ⟨(some 40), (.call ⟨(.builtin .len), #[(.tmp 39)], #[29]⟩), 3, "", #[], none⟩,
  ⟨(some 41), (.binOp .lss 3 (.tmp 38) (.tmp 40) 3), 4, "", #[], none⟩]
def F8.r10 : List Oper := [
  ⟨(some 44), (.move (.tmp 4)), 30, "", #[], none⟩,
  ⟨(some 45), (.move (.tmp 0)), 29, "", #[], none⟩,
  ⟨(some 46), (.move (.tmp 5)), 3, "", #[], none⟩,
  ⟨(some 47), (.indexAddr 29 (.tmp 45) (.tmp 46)), 0, "", #[], none⟩,
  ⟨(some 48), (.load 44 (.tmp 47)), 44, "", #[⟨0, .data⟩], none⟩,
  ⟨(some 49), (.call ⟨(.value (.func 16)), #[(.tmp 44), (.tmp 48)], #[30, 44]⟩), 41, "", #[⟨0, .chain⟩], none⟩]
def F8.r9 : List Oper := [
  ⟨(some 42), (.move (.tmp 5)), 3, "", #[], none⟩,
  ⟨(some 43), (.binOp .add 3 (.tmp 42) (.const (.int .i64 1)) 3), 3, "", #[], none⟩,
  ⟨(some 5), (.assign (.tmp 43)), 3, "", #[], none⟩]
def F8.r11 : List Oper := [
  ⟨(some 50), (.move (.tmp 4)), 30, "", #[], none⟩,
  ⟨(some 51), (.call ⟨(.value (.func 19)), #[(.tmp 50)], #[30]⟩), 34, "", #[⟨0, .chain⟩], none⟩,
  ⟨(some 6), (.assign (.tmp 51)), 34, "", #[], none⟩]
def F8.r12 : List Oper := [
  ⟨(some 52), (.move (.tmp 4)), 30, "", #[], none⟩,
  ⟨(some 53), (.call ⟨(.value (.func 23)), #[(.tmp 52)], #[30]⟩), 34, "", #[⟨0, .chain⟩], none⟩,
  ⟨(some 7), (.assign (.tmp 53)), 34, "", #[], none⟩]
def F8.r13 : List Oper := [
  ⟨(some 54), (.move (.tmp 4)), 30, "", #[], none⟩,
  ⟨(some 55), (.call ⟨(.value (.func 19)), #[(.tmp 54)], #[30]⟩), 34, "", #[⟨0, .chain⟩], none⟩,
  ⟨(some 8), (.assign (.tmp 55)), 34, "", #[], none⟩]
def F8.r14 : List Oper := [
  ⟨(some 56), (.move (.tmp 6)), 34, "", #[], none⟩,
  ⟨(some 57), (.move (.tmp 8)), 34, "", #[], none⟩,
  ⟨(some 58), (.call ⟨(.value (.func 20)), #[(.tmp 56), (.tmp 57)], #[34, 34]⟩), 4, "", #[⟨0, .chain⟩], none⟩,
  ⟨(some 9), (.assign (.tmp 58)), 4, "", #[], none⟩]
def F8.r15 : List Oper := [
  ⟨(some 59), (.move (.tmp 9)), 4, "", #[], none⟩,
  ⟨(some 60), (.unOp .not 4 (.tmp 59)), 4, "", #[], none⟩]
def F8.r16 : List Oper := [
  ⟨(some 2), (.assign (.const (.bool false))), 4, "", #[], none⟩]
def F8.r17 : List Oper := [
  ⟨(some 10), (.assign (.const (.int .i64 0))), 3, "", #[], none⟩]
def F8.r18 : List Oper := [
  ⟨(some 61), (.move (.tmp 10)), 3, "", #[], none⟩,
  ⟨(some 62), (.move (.tmp 7)), 34, "", #[], none⟩,
  ⟨(some 63), (.call ⟨(.builtin .len), #[(.tmp 62)], #[34]⟩), 3, "", #[], none⟩,
  ⟨(some 64), (.binOp .lss 3 (.tmp 61) (.tmp 63) 3), 4, "", #[], none⟩]
def F8.r20 : List Oper := [
  ⟨(some 68), (.move (.tmp 4)), 30, "", #[], none⟩,
  ⟨(some 69), (.move (.tmp 7)), 34, "", #[], none⟩,
  ⟨(some 70), (.move (.tmp 10)), 3, "", #[], none⟩,
  ⟨(some 71), (.indexAddr 34 (.tmp 69) (.tmp 70)), 0, "", #[], none⟩,
  ⟨(some 72), (.load 3 (.tmp 71)), 3, "", #[⟨0, .data⟩], none⟩,
  ⟨(some 73), (.call ⟨(.value (.func 15)), #[(.tmp 68), (.tmp 72)], #[30, 3]⟩), 39, "", #[⟨0, .chain⟩], none⟩,
  ⟨(some 67), (.move (.tmp 73)), 39, "", #[], none⟩,
  ⟨(some 74), (.extract (.tmp 67) 0), 38, "", #[], none⟩,
  ⟨(some 75), (.extract (.tmp 67) 1), 4, "", #[], none⟩,
  ⟨(some 11), (.alloc 38), 0, "", #[⟨0, .chain⟩], none⟩,
  ⟨none, (.store 38 (.tmp 11) (.tmp 74)), 0, "", #[⟨0, .chain⟩], none⟩,
  ⟨(some 12), (.assign (.tmp 75)), 4, "", #[], none⟩]
def F8.r21 : List Oper := [
  ⟨(some 76), (.move (.tmp 12)), 4, "", #[], none⟩,
  ⟨(some 77), (.unOp .not 4 (.tmp 76)), 4, "", #[], none⟩,
  ⟨(some 78), (.move (.tmp 77)), 4, "", #[], none⟩,
  ⟨(some 79), (.move (.tmp 10)), 3, "", #[], (some (78, false))⟩,
  ⟨(some 80), (.binOp .gtr 3 (.tmp 79) (.const (.int .i64 0)) 3), 4, "", #[], (some (78, false))⟩,
  ⟨(some 81), (.move (.tmp 80)), 4, "", #[], (some (78, false))⟩,
  ⟨(some 82), (.move (.tmp 7)), 34, "", #[], (some (81, true))⟩,
  ⟨(some 83), (.move (.tmp 10)), 3, "", #[], (some (81, true))⟩,
  ⟨(some 84), (.binOp .sub 3 (.tmp 83) (.const (.int .i64 1)) 3), 3, "", #[], (some (81, true))⟩,
  ⟨(some 85), (.indexAddr 34 (.tmp 82) (.tmp 84)), 0, "", #[], (some (81, true))⟩,
  ⟨(some 87), (.move (.tmp 7)), 34, "", #[], (some (81, true))⟩,
  ⟨(some 88), (.move (.tmp 10)), 3, "", #[], (some (81, true))⟩,
  ⟨(some 89), (.indexAddr 34 (.tmp 87) (.tmp 88)), 0, "", #[], (some (81, true))⟩,
  ⟨(some 86), (.load 3 (.tmp 85)), 3, "", #[⟨0, .data⟩], (some (81, true))⟩,
  ⟨(some 90), (.load 3 (.tmp 89)), 3, "", #[⟨0, .data⟩], (some (81, true))⟩,
  ⟨(some 91), (.binOp .geq 3 (.tmp 86) (.tmp 90) 3), 4, "", #[], (some (81, true))⟩,
  ⟨(some 92), (.pick (.tmp 81) (.tmp 91) (.const (.bool false))), 4, "", #[], (some (78, false))⟩,
  ⟨(some 93), (.pick (.tmp 78) (.const (.bool true)) (.tmp 92)), 4, "", #[], none⟩]
def F8.r22 : List Oper := [
  ⟨(some 2), (.assign (.const (.bool false))), 4, "", #[], none⟩]
def F8.r23 : List Oper := [
  ⟨(some 13), (.assign (.const (.bool false))), 4, "", #[], none⟩]
def F8.r24 : List Oper := [
  ⟨(some 14), (.assign (.const (.int .i64 0))), 3, "", #[], none⟩]
def F8.r25 : List Oper := [
  ⟨(some 94), (.move (.tmp 14)), 3, "", #[], none⟩,
  ⟨(some 95), (.move (.tmp 7)), 34, "", #[], none⟩,
  ⟨(some 96), (.call ⟨(.builtin .len), #[(.tmp 95)], #[34]⟩), 3, "", #[], none⟩,
  ⟨(some 97), (.binOp .lss 3 (.tmp 94) (.tmp 96) 3), 4, "", #[], none⟩]
def F8.r27 : List Oper := [
  ⟨(some 100), (.move (.tmp 7)), 34, "", #[], none⟩,
  ⟨(some 101), (.move (.tmp 14)), 3, "", #[], none⟩,
  ⟨(some 102), (.indexAddr 34 (.tmp 100) (.tmp 101)), 0, "", #[], none⟩,
  ⟨(some 104), (.move (.tmp 7)), 34, "", #[], none⟩,
  ⟨(some 105), (.move (.tmp 10)), 3, "", #[], none⟩,
  ⟨(some 106), (.indexAddr 34 (.tmp 104) (.tmp 105)), 0, "", #[], none⟩,
  ⟨(some 103), (.load 3 (.tmp 102)), 3, "", #[⟨0, .data⟩], none⟩,
  ⟨(some 107), (.load 3 (.tmp 106)), 3, "", #[⟨0, .data⟩], none⟩,
  ⟨(some 108), (.binOp .eql 3 (.tmp 103) (.tmp 107) 3), 4, "", #[], none⟩]
def F8.r28 : List Oper := [
  ⟨(some 109), (.move (.tmp 4)), 30, "", #[], none⟩,
  ⟨(some 110), (.move (.tmp 7)), 34, "", #[], none⟩,
  ⟨(some 111), (.move (.tmp 14)), 3, "", #[], none⟩,
  ⟨(some 112), (.indexAddr 34 (.tmp 110) (.tmp 111)), 0, "", #[], none⟩,
  ⟨(some 114), (.fieldAddr 38 (.tmp 11) 0), 0, "", #[], none⟩,
  ⟨(some 113), (.load 3 (.tmp 112)), 3, "", #[⟨256, .data⟩], none⟩,
  ⟨(some 115), (.load 26 (.tmp 114)), 26, "", #[⟨256, .data⟩], none⟩,
  ⟨(some 116), (.build 38 #[(0, (.tmp 115)), (1, (.const (.bool true)))]), 38, "", #[], none⟩,
  ⟨(some 117), (.call ⟨(.value (.func 18)), #[(.tmp 109), (.tmp 113), (.tmp 116)], #[30, 3, 38]⟩), 4, "", #[⟨8, .chain⟩], none⟩,
  ⟨(some 15), (.assign (.tmp 117)), 4, "", #[], none⟩]
def F8.r29 : List Oper := [
  ⟨(some 118), (.move (.tmp 4)), 30, "", #[], none⟩,
  ⟨(some 119), (.move (.tmp 7)), 34, "", #[], none⟩,
  ⟨(some 120), (.move (.tmp 14)), 3, "", #[], none⟩,
  ⟨(some 121), (.indexAddr 34 (.tmp 119) (.tmp 120)), 0, "", #[], none⟩,
  ⟨(some 123), (.fieldAddr 38 (.tmp 11) 0), 0, "", #[], none⟩,
  ⟨(some 122), (.load 3 (.tmp 121)), 3, "", #[⟨256, .data⟩], none⟩,
  ⟨(some 124), (.load 26 (.tmp 123)), 26, "", #[⟨256, .data⟩], none⟩,
  ⟨(some 125), (.build 38 #[(0, (.tmp 124))]), 38, "", #[], none⟩,
  ⟨(some 126), (.call ⟨(.value (.func 18)), #[(.tmp 118), (.tmp 122), (.tmp 125)], #[30, 3, 38]⟩), 4, "", #[⟨8, .chain⟩], none⟩,
  ⟨(some 16), (.assign (.tmp 126)), 4, "", #[], none⟩]
def F8.r30 : List Oper := [
  ⟨(some 127), (.move (.tmp 13)), 4, "", #[], none⟩,
  ⟨(some 128), (.move (.tmp 127)), 4, "", #[], none⟩,
  ⟨(some 129), (.move (.tmp 15)), 4, "", #[], (some (128, false))⟩,
  ⟨(some 130), (.pick (.tmp 128) (.const (.bool true)) (.tmp 129)), 4, "", #[], none⟩,
  ⟨(some 131), (.move (.tmp 130)), 4, "", #[], none⟩,
  ⟨(some 132), (.move (.tmp 16)), 4, "", #[], (some (131, false))⟩,
  ⟨(some 133), (.pick (.tmp 131) (.const (.bool true)) (.tmp 132)), 4, "", #[], none⟩,
  ⟨(some 134), (.move (.tmp 133)), 4, "", #[], none⟩,
  ⟨(some 135), (.move (.tmp 4)), 30, "", #[], (some (134, false))⟩,
  ⟨(some 136), (.fieldAddr 38 (.tmp 11) 0), 0, "", #[], (some (134, false))⟩,
  ⟨(some 139), (.move (.tmp 7)), 34, "", #[], (some (134, false))⟩,
  ⟨(some 140), (.move (.tmp 14)), 3, "", #[], (some (134, false))⟩,
  ⟨(some 141), (.indexAddr 34 (.tmp 139) (.tmp 140)), 0, "", #[], (some (134, false))⟩,
  ⟨(some 143), (.move (.tmp 7)), 34, "", #[], (some (134, false))⟩,
  ⟨(some 144), (.move (.tmp 10)), 3, "", #[], (some (134, false))⟩,
  ⟨(some 145), (.indexAddr 34 (.tmp 143) (.tmp 144)), 0, "", #[], (some (134, false))⟩,
  ⟨(some 137), (.load 26 (.tmp 136)), 26, "", #[⟨1050624, .data⟩], (some (134, false))⟩,
  ⟨(some 142), (.load 3 (.tmp 141)), 3, "", #[⟨1048576, .data⟩], (some (134, false))⟩,
  ⟨(some 146), (.load 3 (.tmp 145)), 3, "", #[⟨1048576, .data⟩], (some (134, false))⟩,
  ⟨(some 138), (.call ⟨(.value (.func 13)), #[(.tmp 135), (.tmp 137)], #[30, 26]⟩), 34, "", #[⟨11, .chain⟩], (some (134, false))⟩,
  ⟨(some 147), (.call ⟨(.value (.func 26)), #[(.tmp 138), (.tmp 142), (.tmp 146)], #[34, 3, 3]⟩), 4, "", #[⟨20, .chain⟩], (some (134, false))⟩,
  ⟨(some 148), (.pick (.tmp 134) (.const (.bool true)) (.tmp 147)), 4, "", #[], none⟩,
  ⟨(some 13), (.assign (.tmp 148)), 4, "", #[], none⟩]
def F8.r26 : List Oper := [
  ⟨(some 98), (.move (.tmp 14)), 3, "", #[], none⟩,
  ⟨(some 99), (.binOp .add 3 (.tmp 98) (.const (.int .i64 1)) 3), 3, "", #[], none⟩,
  ⟨(some 14), (.assign (.tmp 99)), 3, "", #[], none⟩]
def F8.r31 : List Oper := [
  ⟨(some 149), (.move (.tmp 13)), 4, "", #[], none⟩,
  ⟨(some 150), (.unOp .not 4 (.tmp 149)), 4, "", #[], none⟩]
def F8.r32 : List Oper := [
  ⟨(some 2), (.assign (.const (.bool false))), 4, "", #[], none⟩]
def F8.r19 : List Oper := [
  ⟨(some 65), (.move (.tmp 10)), 3, "", #[], none⟩,
  ⟨(some 66), (.binOp .add 3 (.tmp 65) (.const (.int .i64 1)) 3), 3, "", #[], none⟩,
  ⟨(some 10), (.assign (.tmp 66)), 3, "", #[], none⟩]
def F8.r33 : List Oper := [
  ⟨(some 17), (.assign (.const (.int .i64 0))), 3, "", #[], none⟩]
def F8.r34 : List Oper := [
  ⟨(some 151), (.move (.tmp 17)), 3, "", #[], none⟩,
  ⟨(some 152), (.binOp .leq 3 (.tmp 151) (.const (.int .i64 8)) 3), 4, "", #[], none⟩]
def F8.r36 : List Oper := [
  ⟨(some 18), (.assign (.const (.int .i64 1))), 3, "", #[], none⟩]
def F8.r37 : List Oper := [
  ⟨(some 155), (.move (.tmp 18)), 3, "", #[], none⟩,
  ⟨(some 156), (.binOp .leq 3 (.tmp 155) (.const (.int .i64 8)) 3), 4, "", #[], none⟩]
def F8.r39 : List Oper := [
  ⟨(some 160), (.move (.tmp 4)), 30, "", #[], none⟩,
  ⟨(some 161), (.move (.tmp 18)), 3, "", #[], none⟩,
  ⟨(some 162), (.call ⟨(.value (.func 15)), #[(.tmp 160), (.tmp 161)], #[30, 3]⟩), 39, "", #[⟨0, .chain⟩], none⟩,
  ⟨(some 159), (.move (.tmp 162)), 39, "", #[], none⟩,
  ⟨(some 163), (.extract (.tmp 159) 0), 38, "", #[], none⟩,
  ⟨(some 164), (.extract (.tmp 159) 1), 4, "", #[], none⟩,
  ⟨(some 19), (.alloc 38), 0, "", #[⟨0, .chain⟩], none⟩,
  ⟨none, (.store 38 (.tmp 19) (.tmp 163)), 0, "", #[⟨0, .chain⟩], none⟩,
  ⟨(some 20), (.assign (.tmp 164)), 4, "", #[], none⟩]
def F8.r40 : List Oper := [
  ⟨(some 165), (.move (.tmp 20)), 4, "", #[], none⟩,
  ⟨(some 166), (.unOp .not 4 (.tmp 165)), 4, "", #[], none⟩]
def F8.r41 : List Oper := [
  ⟨(some 167), (.move (.tmp 4)), 30, "", #[], none⟩,
  ⟨(some 168), (.move (.tmp 18)), 3, "", #[], none⟩,
  ⟨(some 169), (.call ⟨(.value (.func 24)), #[(.tmp 167), (.tmp 168)], #[30, 3]⟩), 34, "", #[⟨0, .chain⟩], none⟩]
def F8.r38 : List Oper := [
  ⟨(some 157), (.move (.tmp 18)), 3, "", #[], none⟩,
  ⟨(some 158), (.binOp .add 3 (.tmp 157) (.const (.int .i64 1)) 3), 3, "", #[], none⟩,
  ⟨(some 18), (.assign (.tmp 158)), 3, "", #[], none⟩]
def F8.r35 : List Oper := [
  ⟨(some 153), (.move (.tmp 17)), 3, "", #[], none⟩,
  ⟨(some 154), (.binOp .add 3 (.tmp 153) (.const (.int .i64 1)) 3), 3, "", #[], none⟩,
  ⟨(some 17), (.assign (.tmp 154)), 3, "", #[], none⟩]
def F8.r42 : List Oper := [
  ⟨(some 21), (.assign (.const (.int .i64 0))), 3, "", #[], none⟩]
def F8.r43 : List Oper := [
  ⟨(some 22), (.assign (.const (.int .i64 1))), 3, "", #[], none⟩]
def F8.r44 : List Oper := [
  ⟨(some 170), (.move (.tmp 22)), 3, "", #[], none⟩,
  ⟨(some 171), (.binOp .leq 3 (.tmp 170) (.const (.int .i64 8)) 3), 4, "", #[], none⟩]
def F8.r46 : List Oper := [
  ⟨(some 175), (.move (.tmp 4)), 30, "", #[], none⟩,
  ⟨(some 176), (.move (.tmp 22)), 3, "", #[], none⟩,
  ⟨(some 177), (.call ⟨(.value (.func 15)), #[(.tmp 175), (.tmp 176)], #[30, 3]⟩), 39, "", #[⟨0, .chain⟩], none⟩,
  ⟨(some 174), (.move (.tmp 177)), 39, "", #[], none⟩,
  ⟨(some 178), (.extract (.tmp 174) 0), 38, "", #[], none⟩,
  ⟨(some 179), (.extract (.tmp 174) 1), 4, "", #[], none⟩,
  ⟨(some 23), (.alloc 38), 0, "", #[⟨0, .chain⟩], none⟩,
  ⟨none, (.store 38 (.tmp 23) (.tmp 178)), 0, "", #[⟨0, .chain⟩], none⟩,
  ⟨(some 24), (.assign (.tmp 179)), 4, "", #[], none⟩]
def F8.r47 : List Oper := [
  ⟨(some 180), (.move (.tmp 24)), 4, "", #[], none⟩,
  ⟨(some 181), (.unOp .not 4 (.tmp 180)), 4, "", #[], none⟩]
def F8.r48 : List Oper := [
  ⟨(some 182), (.move (.tmp 21)), 3, "", #[], none⟩,
  ⟨(some 183), (.move (.tmp 7)), 34, "", #[], none⟩,
  ⟨(some 184), (.call ⟨(.builtin .len), #[(.tmp 183)], #[34]⟩), 3, "", #[], none⟩,
  ⟨(some 185), (.binOp .geq 3 (.tmp 182) (.tmp 184) 3), 4, "", #[], none⟩,
  ⟨(some 186), (.move (.tmp 185)), 4, "", #[], none⟩,
  ⟨(some 187), (.move (.tmp 7)), 34, "", #[], (some (186, false))⟩,
  ⟨(some 188), (.move (.tmp 21)), 3, "", #[], (some (186, false))⟩,
  ⟨(some 189), (.indexAddr 34 (.tmp 187) (.tmp 188)), 0, "", #[], (some (186, false))⟩,
  ⟨(some 190), (.load 3 (.tmp 189)), 3, "", #[⟨0, .data⟩], (some (186, false))⟩,
  ⟨(some 191), (.move (.tmp 22)), 3, "", #[], (some (186, false))⟩,
  ⟨(some 192), (.binOp .neq 3 (.tmp 190) (.tmp 191) 3), 4, "", #[], (some (186, false))⟩,
  ⟨(some 193), (.pick (.tmp 186) (.const (.bool true)) (.tmp 192)), 4, "", #[], none⟩]
def F8.r49 : List Oper := [
  ⟨(some 2), (.assign (.const (.bool false))), 4, "", #[], none⟩]
def F8.r50 : List Oper := [
  ⟨(some 194), (.move (.tmp 21)), 3, "", #[], none⟩,
  ⟨(some 195), (.binOp .add 3 (.tmp 194) (.const (.int .i64 1)) 3), 3, "", #[], none⟩,
  ⟨(some 21), (.assign (.tmp 195)), 3, "", #[], none⟩]
def F8.r45 : List Oper := [
  ⟨(some 172), (.move (.tmp 22)), 3, "", #[], none⟩,
  ⟨(some 173), (.binOp .add 3 (.tmp 172) (.const (.int .i64 1)) 3), 3, "", #[], none⟩,
  ⟨(some 22), (.assign (.tmp 173)), 3, "", #[], none⟩]
def F8.r51 : List Oper := [
  ⟨(some 196), (.move (.tmp 21)), 3, "", #[], none⟩,
  ⟨(some 197), (.move (.tmp 7)), 34, "", #[], none⟩,
  ⟨(some 198), (.call ⟨(.builtin .len), #[(.tmp 197)], #[34]⟩), 3, "", #[], none⟩,
  ⟨(some 199), (.binOp .eql 3 (.tmp 196) (.tmp 198) 3), 4, "", #[], none⟩,
  ⟨(some 2), (.assign (.tmp 199)), 4, "", #[], none⟩]
def F8.t9 : Cd := (.region 9 F8.r9.toArray false)
theorem F8.t9_eq {P : Program} {Q : Post} {e : FA} {w : World} {θ : Tag (F8.t9, Q, e, w)} : cwE P F8.t9 Q e w θ = cwE P (.region 9 F8.r9.toArray false) Q e w := rfl
def F8.t10 : Cd := (.seq (.block 1 (.region 10 F8.r10.toArray false)) F8.t9)
theorem F8.t10_eq {P : Program} {Q : Post} {e : FA} {w : World} {θ : Tag (F8.t10, Q, e, w)} : cwE P F8.t10 Q e w θ = cwE P (.seq (.block 1 (.region 10 F8.r10.toArray false)) F8.t9) Q e w := rfl
def F8.t28 : Cd := (.seq (.region 28 F8.r28.toArray true) (.seq (.region 29 F8.r29.toArray true) (.region 30 F8.r30.toArray true)))
theorem F8.t28_eq {P : Program} {Q : Post} {e : FA} {w : World} {θ : Tag (F8.t28, Q, e, w)} : cwE P F8.t28 Q e w θ = cwE P (.seq (.region 28 F8.r28.toArray true) (.seq (.region 29 F8.r29.toArray true) (.region 30 F8.r30.toArray true))) Q e w := rfl
def F8.t26 : Cd := (.region 26 F8.r26.toArray false)
theorem F8.t26_eq {P : Program} {Q : Post} {e : FA} {w : World} {θ : Tag (F8.t26, Q, e, w)} : cwE P F8.t26 Q e w θ = cwE P (.region 26 F8.r26.toArray false) Q e w := rfl
def F8.t27 : Cd := (.seq (.block 5 (.seq (.seq (.region 27 F8.r27.toArray true) (.cond (.tmp 108) (.exit 5) .skip)) F8.t28)) F8.t26)
theorem F8.t27_eq {P : Program} {Q : Post} {e : FA} {w : World} {θ : Tag (F8.t27, Q, e, w)} : cwE P F8.t27 Q e w θ = cwE P (.seq (.block 5 (.seq (.seq (.region 27 F8.r27.toArray true) (.cond (.tmp 108) (.exit 5) .skip)) F8.t28)) F8.t26) Q e w := rfl
def F8.t31 : Cd := (.seq (.region 31 F8.r31.toArray false) (.cond (.tmp 150) (.seq (.region 32 F8.r32.toArray false) .ret) .skip))
theorem F8.t31_eq {P : Program} {Q : Post} {e : FA} {w : World} {θ : Tag (F8.t31, Q, e, w)} : cwE P F8.t31 Q e w θ = cwE P (.seq (.region 31 F8.r31.toArray false) (.cond (.tmp 150) (.seq (.region 32 F8.r32.toArray false) .ret) .skip)) Q e w := rfl
def F8.t23 : Cd := (.seq (.region 23 F8.r23.toArray false) (.seq (.seq (.region 24 F8.r24.toArray false) (.block 4 (.loop (.seq (.seq (.region 25 F8.r25.toArray false) (.cond (.tmp 97) .skip (.exit 4))) F8.t27)))) F8.t31))
theorem F8.t23_eq {P : Program} {Q : Post} {e : FA} {w : World} {θ : Tag (F8.t23, Q, e, w)} : cwE P F8.t23 Q e w θ = cwE P (.seq (.region 23 F8.r23.toArray false) (.seq (.seq (.region 24 F8.r24.toArray false) (.block 4 (.loop (.seq (.seq (.region 25 F8.r25.toArray false) (.cond (.tmp 97) .skip (.exit 4))) F8.t27)))) F8.t31)) Q e w := rfl
def F8.t19 : Cd := (.region 19 F8.r19.toArray false)
theorem F8.t19_eq {P : Program} {Q : Post} {e : FA} {w : World} {θ : Tag (F8.t19, Q, e, w)} : cwE P F8.t19 Q e w θ = cwE P (.region 19 F8.r19.toArray false) Q e w := rfl
def F8.t20 : Cd := (.seq (.block 3 (.seq (.region 20 F8.r20.toArray false) (.seq (.seq (.region 21 F8.r21.toArray true) (.cond (.tmp 93) (.seq (.region 22 F8.r22.toArray false) .ret) .skip)) F8.t23))) F8.t19)
theorem F8.t20_eq {P : Program} {Q : Post} {e : FA} {w : World} {θ : Tag (F8.t20, Q, e, w)} : cwE P F8.t20 Q e w θ = cwE P (.seq (.block 3 (.seq (.region 20 F8.r20.toArray false) (.seq (.seq (.region 21 F8.r21.toArray true) (.cond (.tmp 93) (.seq (.region 22 F8.r22.toArray false) .ret) .skip)) F8.t23))) F8.t19) Q e w := rfl
def F8.t38 : Cd := (.region 38 F8.r38.toArray false)
theorem F8.t38_eq {P : Program} {Q : Post} {e : FA} {w : World} {θ : Tag (F8.t38, Q, e, w)} : cwE P F8.t38 Q e w θ = cwE P (.region 38 F8.r38.toArray false) Q e w := rfl
def F8.t39 : Cd := (.seq (.block 9 (.seq (.region 39 F8.r39.toArray false) (.seq (.region 40 F8.r40.toArray false) (.cond (.tmp 166) (.region 41 F8.r41.toArray false) .skip)))) F8.t38)
theorem F8.t39_eq {P : Program} {Q : Post} {e : FA} {w : World} {θ : Tag (F8.t39, Q, e, w)} : cwE P F8.t39 Q e w θ = cwE P (.seq (.block 9 (.seq (.region 39 F8.r39.toArray false) (.seq (.region 40 F8.r40.toArray false) (.cond (.tmp 166) (.region 41 F8.r41.toArray false) .skip)))) F8.t38) Q e w := rfl
def F8.t35 : Cd := (.region 35 F8.r35.toArray false)
theorem F8.t35_eq {P : Program} {Q : Post} {e : FA} {w : World} {θ : Tag (F8.t35, Q, e, w)} : cwE P F8.t35 Q e w θ = cwE P (.region 35 F8.r35.toArray false) Q e w := rfl
def F8.t36 : Cd := (.seq (.block 7 (.seq (.region 36 F8.r36.toArray false) (.block 8 (.loop (.seq (.seq (.region 37 F8.r37.toArray false) (.cond (.tmp 156) .skip (.exit 8))) F8.t39))))) F8.t35)
theorem F8.t36_eq {P : Program} {Q : Post} {e : FA} {w : World} {θ : Tag (F8.t36, Q, e, w)} : cwE P F8.t36 Q e w θ = cwE P (.seq (.block 7 (.seq (.region 36 F8.r36.toArray false) (.block 8 (.loop (.seq (.seq (.region 37 F8.r37.toArray false) (.cond (.tmp 156) .skip (.exit 8))) F8.t39))))) F8.t35) Q e w := rfl
def F8.t50 : Cd := (.region 50 F8.r50.toArray false)
theorem F8.t50_eq {P : Program} {Q : Post} {e : FA} {w : World} {θ : Tag (F8.t50, Q, e, w)} : cwE P F8.t50 Q e w θ = cwE P (.region 50 F8.r50.toArray false) Q e w := rfl
def F8.t48 : Cd := (.seq (.seq (.region 48 F8.r48.toArray false) (.cond (.tmp 193) (.seq (.region 49 F8.r49.toArray false) .ret) .skip)) F8.t50)
theorem F8.t48_eq {P : Program} {Q : Post} {e : FA} {w : World} {θ : Tag (F8.t48, Q, e, w)} : cwE P F8.t48 Q e w θ = cwE P (.seq (.seq (.region 48 F8.r48.toArray false) (.cond (.tmp 193) (.seq (.region 49 F8.r49.toArray false) .ret) .skip)) F8.t50) Q e w := rfl
def F8.t45 : Cd := (.region 45 F8.r45.toArray false)
theorem F8.t45_eq {P : Program} {Q : Post} {e : FA} {w : World} {θ : Tag (F8.t45, Q, e, w)} : cwE P F8.t45 Q e w θ = cwE P (.region 45 F8.r45.toArray false) Q e w := rfl
def F8.t46 : Cd := (.seq (.block 11 (.seq (.region 46 F8.r46.toArray false) (.seq (.seq (.region 47 F8.r47.toArray false) (.cond (.tmp 181) (.exit 11) .skip)) F8.t48))) F8.t45)
theorem F8.t46_eq {P : Program} {Q : Post} {e : FA} {w : World} {θ : Tag (F8.t46, Q, e, w)} : cwE P F8.t46 Q e w θ = cwE P (.seq (.block 11 (.seq (.region 46 F8.r46.toArray false) (.seq (.seq (.region 47 F8.r47.toArray false) (.cond (.tmp 181) (.exit 11) .skip)) F8.t48))) F8.t45) Q e w := rfl
def F8.t51 : Cd := (.seq (.region 51 F8.r51.toArray false) .ret)
theorem F8.t51_eq {P : Program} {Q : Post} {e : FA} {w : World} {θ : Tag (F8.t51, Q, e, w)} : cwE P F8.t51 Q e w θ = cwE P (.seq (.region 51 F8.r51.toArray false) .ret) Q e w := rfl
def F8.t42 : Cd := (.seq (.region 42 F8.r42.toArray false) (.seq (.seq (.region 43 F8.r43.toArray false) (.block 10 (.loop (.seq (.seq (.region 44 F8.r44.toArray false) (.cond (.tmp 171) .skip (.exit 10))) F8.t46)))) F8.t51))
theorem F8.t42_eq {P : Program} {Q : Post} {e : FA} {w : World} {θ : Tag (F8.t42, Q, e, w)} : cwE P F8.t42 Q e w θ = cwE P (.seq (.region 42 F8.r42.toArray false) (.seq (.seq (.region 43 F8.r43.toArray false) (.block 10 (.loop (.seq (.seq (.region 44 F8.r44.toArray false) (.cond (.tmp 171) .skip (.exit 10))) F8.t46)))) F8.t51)) Q e w := rfl
def F8.t33 : Cd := (.seq (.seq (.region 33 F8.r33.toArray false) (.block 6 (.loop (.seq (.seq (.region 34 F8.r34.toArray false) (.cond (.tmp 152) .skip (.exit 6))) F8.t36)))) F8.t42)
theorem F8.t33_eq {P : Program} {Q : Post} {e : FA} {w : World} {θ : Tag (F8.t33, Q, e, w)} : cwE P F8.t33 Q e w θ = cwE P (.seq (.seq (.region 33 F8.r33.toArray false) (.block 6 (.loop (.seq (.seq (.region 34 F8.r34.toArray false) (.cond (.tmp 152) .skip (.exit 6))) F8.t36)))) F8.t42) Q e w := rfl
def F8.t17 : Cd := (.seq (.seq (.region 17 F8.r17.toArray false) (.block 2 (.loop (.seq (.seq (.region 18 F8.r18.toArray false) (.cond (.tmp 64) .skip (.exit 2))) F8.t20)))) F8.t33)
theorem F8.t17_eq {P : Program} {Q : Post} {e : FA} {w : World} {θ : Tag (F8.t17, Q, e, w)} : cwE P F8.t17 Q e w θ = cwE P (.seq (.seq (.region 17 F8.r17.toArray false) (.block 2 (.loop (.seq (.seq (.region 18 F8.r18.toArray false) (.cond (.tmp 64) .skip (.exit 2))) F8.t20)))) F8.t33) Q e w := rfl
def F8.t11 : Cd := (.seq (.region 11 F8.r11.toArray false) (.seq (.region 12 F8.r12.toArray false) (.seq (.region 13 F8.r13.toArray false) (.seq (.region 14 F8.r14.toArray false) (.seq (.seq (.region 15 F8.r15.toArray false) (.cond (.tmp 60) (.seq (.region 16 F8.r16.toArray false) .ret) .skip)) F8.t17)))))
theorem F8.t11_eq {P : Program} {Q : Post} {e : FA} {w : World} {θ : Tag (F8.t11, Q, e, w)} : cwE P F8.t11 Q e w θ = cwE P (.seq (.region 11 F8.r11.toArray false) (.seq (.region 12 F8.r12.toArray false) (.seq (.region 13 F8.r13.toArray false) (.seq (.region 14 F8.r14.toArray false) (.seq (.seq (.region 15 F8.r15.toArray false) (.cond (.tmp 60) (.seq (.region 16 F8.r16.toArray false) .ret) .skip)) F8.t17))))) Q e w := rfl
def F8.t7 : Cd := (.seq (.seq (.region 7 F8.r7.toArray false) (.block 0 (.loop (.seq (.seq (.region 8 F8.r8.toArray false) (.cond (.tmp 41) .skip (.exit 0))) F8.t10)))) F8.t11)
theorem F8.t7_eq {P : Program} {Q : Post} {e : FA} {w : World} {θ : Tag (F8.t7, Q, e, w)} : cwE P F8.t7 Q e w θ = cwE P (.seq (.seq (.region 7 F8.r7.toArray false) (.block 0 (.loop (.seq (.seq (.region 8 F8.r8.toArray false) (.cond (.tmp 41) .skip (.exit 0))) F8.t10)))) F8.t11) Q e w := rfl
def F8.t3 : Cd := (.seq (.region 3 F8.r3.toArray false) (.seq (.region 4 F8.r4.toArray false) (.seq (.seq (.region 5 F8.r5.toArray false) (.cond (.tmp 37) (.seq (.region 6 F8.r6.toArray false) .ret) .skip)) F8.t7)))
theorem F8.t3_eq {P : Program} {Q : Post} {e : FA} {w : World} {θ : Tag (F8.t3, Q, e, w)} : cwE P F8.t3 Q e w θ = cwE P (.seq (.region 3 F8.r3.toArray false) (.seq (.region 4 F8.r4.toArray false) (.seq (.seq (.region 5 F8.r5.toArray false) (.cond (.tmp 37) (.seq (.region 6 F8.r6.toArray false) .ret) .skip)) F8.t7))) Q e w := rfl
def F8.code : Cd := (.seq (.region 0 F8.r0.toArray false) (.seq (.seq (.region 1 F8.r1.toArray false) (.cond (.tmp 27) (.region 2 F8.r2.toArray false) .skip)) F8.t3))
theorem F8.calls {args : Array Value} {w : World} {R : Ending → World → Prop} (hn : args.size ≤ 200) (h : cwE Try.prog F8.code (fnP Try.prog #[(.tmp 2)] R) (entry args) w) : Calls Try.prog 8 args w R :=
  calls_of_cwE (types := Try.prog.types) follows Try.func8 F8.code rfl (by kernel_rfl) hn h

def F9.r0 : List Oper := [
  ⟨(some 0), (.assign (.const (.bool false))), 4, "", #[], none⟩]
def F9.r1 : List Oper := [
  ⟨(some 18), (.call ⟨(.value (.func 12)), #[], #[]⟩), 30, "", #[⟨0, .chain⟩], none⟩,
  ⟨(some 1), (.assign (.tmp 18)), 30, "", #[], none⟩]
def F9.r2 : List Oper := [
  ⟨(some 19), (.move (.tmp 1)), 30, "", #[], none⟩,
  ⟨(some 20), (.binOp .eql 30 (.tmp 19) (.const (.pointer none)) 30), 4, "", #[], none⟩]
def F9.r3 : List Oper := [
  ⟨(some 0), (.assign (.const (.bool false))), 4, "", #[], none⟩]
def F9.r4 : List Oper := [
  ⟨(some 21), (.call ⟨(.value (.func 14)), #[(.const (.int .i64 5))], #[3]⟩), 26, "", #[⟨0, .chain⟩], none⟩,
  ⟨(some 2), (.alloc 26), 0, "", #[⟨0, .chain⟩], none⟩,
  ⟨none, (.store 26 (.tmp 2) (.tmp 21)), 0, "", #[⟨0, .chain⟩], none⟩]
def F9.r5 : List Oper := [
  ⟨(some 23), (.move (.tmp 1)), 30, "", #[], none⟩,
  ⟨(some 24), (.load 26 (.tmp 2)), 26, "", #[⟨0, .data⟩], none⟩,
  ⟨(some 25), (.build 38 #[(0, (.tmp 24))]), 38, "", #[], none⟩,
  ⟨(some 26), (.call ⟨(.value (.func 27)), #[(.tmp 23), (.const (.int .i64 1)), (.tmp 25)], #[30, 3, 38]⟩), 56, "", #[⟨0, .chain⟩], none⟩,
  ⟨(some 22), (.move (.tmp 26)), 56, "", #[], none⟩,
  ⟨(some 27), (.extract (.tmp 22) 0), 4, "", #[], none⟩,
  ⟨(some 28), (.extract (.tmp 22) 1), 55, "", #[], none⟩,
  ⟨(some 3), (.assign (.tmp 27)), 4, "", #[], none⟩,
  ⟨(some 4), (.assign (.tmp 28)), 55, "", #[], none⟩]
def F9.r6 : List Oper := [
  ⟨(some 30), (.move (.tmp 1)), 30, "", #[], none⟩,
  ⟨(some 31), (.load 26 (.tmp 2)), 26, "", #[⟨0, .data⟩], none⟩,
  ⟨(some 32), (.build 38 #[(0, (.tmp 31))]), 38, "", #[], none⟩,
  ⟨(some 33), (.call ⟨(.value (.func 27)), #[(.tmp 30), (.const (.int .i64 2)), (.tmp 32)], #[30, 3, 38]⟩), 56, "", #[⟨0, .chain⟩], none⟩,
  ⟨(some 29), (.move (.tmp 33)), 56, "", #[], none⟩,
  ⟨(some 34), (.extract (.tmp 29) 0), 4, "", #[], none⟩,
  ⟨(some 35), (.extract (.tmp 29) 1), 55, "", #[], none⟩,
  ⟨(some 5), (.assign (.tmp 34)), 4, "", #[], none⟩,
  ⟨(some 6), (.assign (.tmp 35)), 55, "", #[], none⟩]
def F9.r7 : List Oper := [
  ⟨(some 37), (.move (.tmp 1)), 30, "", #[], none⟩,
  ⟨(some 38), (.load 26 (.tmp 2)), 26, "", #[⟨0, .data⟩], none⟩,
  ⟨(some 39), (.build 38 #[(0, (.tmp 38)), (1, (.const (.bool true)))]), 38, "", #[], none⟩,
  ⟨(some 40), (.call ⟨(.value (.func 27)), #[(.tmp 37), (.const (.int .i64 3)), (.tmp 39)], #[30, 3, 38]⟩), 56, "", #[⟨0, .chain⟩], none⟩,
  ⟨(some 36), (.move (.tmp 40)), 56, "", #[], none⟩,
  ⟨(some 41), (.extract (.tmp 36) 0), 4, "", #[], none⟩,
  ⟨(some 42), (.extract (.tmp 36) 1), 55, "", #[], none⟩,
  ⟨(some 7), (.assign (.tmp 41)), 4, "", #[], none⟩,
  ⟨(some 8), (.assign (.tmp 42)), 55, "", #[], none⟩]
def F9.r8 : List Oper := [
  ⟨(some 44), (.move (.tmp 1)), 30, "", #[], none⟩,
  ⟨(some 45), (.load 26 (.tmp 2)), 26, "", #[⟨0, .data⟩], none⟩,
  ⟨(some 46), (.build 38 #[(0, (.tmp 45))]), 38, "", #[], none⟩,
  ⟨(some 47), (.call ⟨(.value (.func 27)), #[(.tmp 44), (.const (.int .i64 4)), (.tmp 46)], #[30, 3, 38]⟩), 56, "", #[⟨0, .chain⟩], none⟩,
  ⟨(some 43), (.move (.tmp 47)), 56, "", #[], none⟩,
  ⟨(some 48), (.extract (.tmp 43) 0), 4, "", #[], none⟩,
  ⟨(some 49), (.extract (.tmp 43) 1), 55, "", #[], none⟩,
  ⟨(some 9), (.assign (.tmp 48)), 4, "", #[], none⟩,
  ⟨(some 10), (.assign (.tmp 49)), 55, "", #[], none⟩]
def F9.r9 : List Oper := [
  ⟨(some 50), (.move (.tmp 3)), 4, "", #[], none⟩,
  ⟨(some 51), (.unOp .not 4 (.tmp 50)), 4, "", #[], none⟩,
  ⟨(some 52), (.move (.tmp 51)), 4, "", #[], none⟩,
  ⟨(some 53), (.move (.tmp 5)), 4, "", #[], (some (52, false))⟩,
  ⟨(some 54), (.unOp .not 4 (.tmp 53)), 4, "", #[], (some (52, false))⟩,
  ⟨(some 55), (.pick (.tmp 52) (.const (.bool true)) (.tmp 54)), 4, "", #[], none⟩,
  ⟨(some 56), (.move (.tmp 55)), 4, "", #[], none⟩,
  ⟨(some 57), (.move (.tmp 7)), 4, "", #[], (some (56, false))⟩,
  ⟨(some 58), (.pick (.tmp 56) (.const (.bool true)) (.tmp 57)), 4, "", #[], none⟩,
  ⟨(some 59), (.move (.tmp 58)), 4, "", #[], none⟩,
  ⟨(some 60), (.move (.tmp 9)), 4, "", #[], (some (59, false))⟩,
  ⟨(some 61), (.pick (.tmp 59) (.const (.bool true)) (.tmp 60)), 4, "", #[], none⟩,
  ⟨(some 62), (.move (.tmp 61)), 4, "", #[], none⟩,
  ⟨(some 63), (.move (.tmp 4)), 55, "", #[], (some (62, false))⟩,
  ⟨(some 64), (.binOp .neq 55 (.tmp 63) (.const (.int .i64 0)) 55), 4, "", #[], (some (62, false))⟩,
  ⟨(some 65), (.pick (.tmp 62) (.const (.bool true)) (.tmp 64)), 4, "", #[], none⟩,
  ⟨(some 66), (.move (.tmp 65)), 4, "", #[], none⟩,
  ⟨(some 67), (.move (.tmp 6)), 55, "", #[], (some (66, false))⟩,
  ⟨(some 68), (.binOp .neq 55 (.tmp 67) (.const (.int .i64 0)) 55), 4, "", #[], (some (66, false))⟩,
  ⟨(some 69), (.pick (.tmp 66) (.const (.bool true)) (.tmp 68)), 4, "", #[], none⟩,
  ⟨(some 70), (.move (.tmp 69)), 4, "", #[], none⟩,
  ⟨(some 71), (.move (.tmp 8)), 55, "", #[], (some (70, false))⟩,
  ⟨(some 72), (.binOp .neq 55 (.tmp 71) (.const (.int .i64 0)) 55), 4, "", #[], (some (70, false))⟩,
  ⟨(some 73), (.pick (.tmp 70) (.const (.bool true)) (.tmp 72)), 4, "", #[], none⟩,
  ⟨(some 74), (.move (.tmp 73)), 4, "", #[], none⟩,
  ⟨(some 75), (.move (.tmp 10)), 55, "", #[], (some (74, false))⟩,
  ⟨(some 76), (.binOp .neq 55 (.tmp 75) (.const (.int .i64 0)) 55), 4, "", #[], (some (74, false))⟩,
  ⟨(some 77), (.pick (.tmp 74) (.const (.bool true)) (.tmp 76)), 4, "", #[], none⟩]
def F9.r10 : List Oper := [
  ⟨(some 0), (.assign (.const (.bool false))), 4, "", #[], none⟩]
def F9.r11 : List Oper := [
  ⟨(some 78), (.move (.tmp 1)), 30, "", #[], none⟩,
  ⟨(some 79), (.load 26 (.tmp 2)), 26, "", #[⟨0, .data⟩], none⟩,
  ⟨(some 80), (.call ⟨(.value (.func 13)), #[(.tmp 78), (.tmp 79)], #[30, 26]⟩), 34, "", #[⟨0, .chain⟩], none⟩,
  ⟨(some 11), (.assign (.tmp 80)), 34, "", #[], none⟩]
def F9.r12 : List Oper := [
  ⟨(some 82), (.move (.tmp 1)), 30, "", #[], none⟩,
  ⟨(some 83), (.load 26 (.tmp 2)), 26, "", #[⟨0, .data⟩], none⟩,
  ⟨(some 84), (.call ⟨(.value (.func 28)), #[(.tmp 82), (.const (.int .i64 1)), (.tmp 83)], #[30, 3, 26]⟩), 58, "", #[⟨0, .chain⟩], none⟩,
  ⟨(some 81), (.move (.tmp 84)), 58, "", #[], none⟩,
  ⟨(some 85), (.extract (.tmp 81) 0), 34, "", #[], none⟩,
  ⟨(some 86), (.extract (.tmp 81) 1), 55, "", #[], none⟩,
  ⟨(some 12), (.assign (.tmp 85)), 34, "", #[], none⟩,
  ⟨(some 13), (.assign (.tmp 86)), 55, "", #[], none⟩]
def F9.r13 : List Oper := [
  ⟨(some 88), (.move (.tmp 1)), 30, "", #[], none⟩,
  ⟨(some 89), (.load 26 (.tmp 2)), 26, "", #[⟨0, .data⟩], none⟩,
  ⟨(some 90), (.call ⟨(.value (.func 28)), #[(.tmp 88), (.const (.int .i64 2)), (.tmp 89)], #[30, 3, 26]⟩), 58, "", #[⟨0, .chain⟩], none⟩,
  ⟨(some 87), (.move (.tmp 90)), 58, "", #[], none⟩,
  ⟨(some 91), (.extract (.tmp 87) 0), 34, "", #[], none⟩,
  ⟨(some 92), (.extract (.tmp 87) 1), 55, "", #[], none⟩,
  ⟨(some 14), (.assign (.tmp 91)), 34, "", #[], none⟩,
  ⟨(some 15), (.assign (.tmp 92)), 55, "", #[], none⟩]
def F9.r14 : List Oper := [
  ⟨(some 94), (.move (.tmp 1)), 30, "", #[], none⟩,
  ⟨(some 95), (.load 26 (.tmp 2)), 26, "", #[⟨0, .data⟩], none⟩,
  ⟨(some 96), (.call ⟨(.value (.func 28)), #[(.tmp 94), (.const (.int .i64 3)), (.tmp 95)], #[30, 3, 26]⟩), 58, "", #[⟨0, .chain⟩], none⟩,
  ⟨(some 93), (.move (.tmp 96)), 58, "", #[], none⟩,
  ⟨(some 97), (.extract (.tmp 93) 0), 34, "", #[], none⟩,
  ⟨(some 98), (.extract (.tmp 93) 1), 55, "", #[], none⟩,
  ⟨(some 16), (.assign (.tmp 97)), 34, "", #[], none⟩,
  ⟨(some 17), (.assign (.tmp 98)), 55, "", #[], none⟩]
def F9.r15 : List Oper := [
  ⟨(some 99), (.move (.tmp 11)), 34, "", #[], none⟩,
  ⟨(some 100), (.buildSlice 34 2 #[(0, (.const (.int .i64 3))), (1, (.const (.int .i64 4)))]), 34, "", #[⟨0, .chain⟩], none⟩,
  ⟨(some 101), (.call ⟨(.value (.func 20)), #[(.tmp 99), (.tmp 100)], #[34, 34]⟩), 4, "", #[⟨0, .chain⟩], none⟩,
  ⟨(some 102), (.move (.tmp 101)), 4, "", #[], none⟩,
  ⟨(some 103), (.move (.tmp 12)), 34, "", #[], (some (102, true))⟩,
  ⟨(some 104), (.call ⟨(.builtin .len), #[(.tmp 103)], #[34]⟩), 3, "", #[], (some (102, true))⟩,
  ⟨(some 105), (.binOp .eql 3 (.tmp 104) (.const (.int .i64 0)) 3), 4, "", #[], (some (102, true))⟩,
  ⟨(some 106), (.pick (.tmp 102) (.tmp 105) (.const (.bool false))), 4, "", #[], none⟩,
  ⟨(some 107), (.move (.tmp 106)), 4, "", #[], none⟩,
  ⟨(some 108), (.move (.tmp 14)), 34, "", #[], (some (107, true))⟩,
  ⟨(some 109), (.buildSlice 34 1 #[(0, (.const (.int .i64 3)))]), 34, "", #[⟨0, .chain⟩], (some (107, true))⟩,
  ⟨(some 110), (.call ⟨(.value (.func 20)), #[(.tmp 108), (.tmp 109)], #[34, 34]⟩), 4, "", #[⟨0, .chain⟩], (some (107, true))⟩,
  ⟨(some 111), (.pick (.tmp 107) (.tmp 110) (.const (.bool false))), 4, "", #[], none⟩,
  ⟨(some 112), (.move (.tmp 111)), 4, "", #[], none⟩,
  ⟨(some 113), (.move (.tmp 16)), 34, "", #[], (some (112, true))⟩,
  ⟨(some 114), (.buildSlice 34 1 #[(0, (.const (.int .i64 4)))]), 34, "", #[⟨0, .chain⟩], (some (112, true))⟩,
  ⟨(some 115), (.call ⟨(.value (.func 20)), #[(.tmp 113), (.tmp 114)], #[34, 34]⟩), 4, "", #[⟨0, .chain⟩], (some (112, true))⟩,
  ⟨(some 116), (.pick (.tmp 112) (.tmp 115) (.const (.bool false))), 4, "", #[], none⟩,
  ⟨(some 117), (.move (.tmp 116)), 4, "", #[], none⟩,
  ⟨(some 118), (.move (.tmp 1)), 30, "", #[], (some (117, true))⟩,
  ⟨(some 119), (.call ⟨(.value (.func 25)), #[(.tmp 118)], #[30]⟩), 4, "", #[⟨0, .chain⟩], (some (117, true))⟩,
  ⟨(some 120), (.unOp .not 4 (.tmp 119)), 4, "", #[], (some (117, true))⟩,
  ⟨(some 121), (.pick (.tmp 117) (.tmp 120) (.const (.bool false))), 4, "", #[], none⟩,
  ⟨(some 0), (.assign (.tmp 121)), 4, "", #[], none⟩]
def F9.t11 : Cd := (.seq (.region 11 F9.r11.toArray false) (.seq (.region 12 F9.r12.toArray false) (.seq (.region 13 F9.r13.toArray false) (.seq (.region 14 F9.r14.toArray false) (.seq (.region 15 F9.r15.toArray false) .ret)))))
theorem F9.t11_eq {P : Program} {Q : Post} {e : FA} {w : World} {θ : Tag (F9.t11, Q, e, w)} : cwE P F9.t11 Q e w θ = cwE P (.seq (.region 11 F9.r11.toArray false) (.seq (.region 12 F9.r12.toArray false) (.seq (.region 13 F9.r13.toArray false) (.seq (.region 14 F9.r14.toArray false) (.seq (.region 15 F9.r15.toArray false) .ret))))) Q e w := rfl
def F9.t4 : Cd := (.seq (.region 4 F9.r4.toArray false) (.seq (.region 5 F9.r5.toArray false) (.seq (.region 6 F9.r6.toArray false) (.seq (.region 7 F9.r7.toArray false) (.seq (.region 8 F9.r8.toArray false) (.seq (.seq (.region 9 F9.r9.toArray false) (.cond (.tmp 77) (.seq (.region 10 F9.r10.toArray false) .ret) .skip)) F9.t11))))))
theorem F9.t4_eq {P : Program} {Q : Post} {e : FA} {w : World} {θ : Tag (F9.t4, Q, e, w)} : cwE P F9.t4 Q e w θ = cwE P (.seq (.region 4 F9.r4.toArray false) (.seq (.region 5 F9.r5.toArray false) (.seq (.region 6 F9.r6.toArray false) (.seq (.region 7 F9.r7.toArray false) (.seq (.region 8 F9.r8.toArray false) (.seq (.seq (.region 9 F9.r9.toArray false) (.cond (.tmp 77) (.seq (.region 10 F9.r10.toArray false) .ret) .skip)) F9.t11)))))) Q e w := rfl
def F9.code : Cd := (.seq (.region 0 F9.r0.toArray false) (.seq (.region 1 F9.r1.toArray false) (.seq (.seq (.region 2 F9.r2.toArray false) (.cond (.tmp 20) (.seq (.region 3 F9.r3.toArray false) .ret) .skip)) F9.t4)))
theorem F9.calls {args : Array Value} {w : World} {R : Ending → World → Prop} (hn : args.size ≤ 122) (h : cwE Try.prog F9.code (fnP Try.prog #[(.tmp 0)] R) (entry args) w) : Calls Try.prog 9 args w R :=
  calls_of_cwE (types := Try.prog.types) follows Try.func9 F9.code rfl (by kernel_rfl) hn h

def F10.r0 : List Oper := [
  ⟨(some 2), (.box 26 (.tmp 0)), 0, "", #[⟨0, .chain⟩], none⟩,
  ⟨(some 3), (.box 26 (.tmp 1)), 0, "", #[⟨0, .chain⟩], none⟩,
  ⟨(some 4), (.assign (.const (.int .i64 0))), 3, "", #[], none⟩]
def F10.r1 : List Oper := [
  ⟨(some 5), (.fieldAddr 26 (.tmp 2) 0), 0, "", #[], none⟩,
  ⟨(some 7), (.fieldAddr 26 (.tmp 3) 0), 0, "", #[], none⟩,
  ⟨(some 10), (.fieldAddr 26 (.tmp 2) 1), 0, "", #[], none⟩,
  ⟨(some 12), (.fieldAddr 26 (.tmp 3) 1), 0, "", #[], none⟩,
  ⟨(some 15), (.fieldAddr 26 (.tmp 2) 2), 0, "", #[], none⟩,
  ⟨(some 17), (.fieldAddr 26 (.tmp 3) 2), 0, "", #[], none⟩,
  ⟨(some 6), (.load 23 (.tmp 5)), 23, "", #[⟨115216, .data⟩], none⟩,
  ⟨(some 8), (.load 23 (.tmp 7)), 23, "", #[⟨115216, .data⟩], none⟩,
  ⟨(some 11), (.load 3 (.tmp 10)), 3, "", #[⟨115200, .data⟩], none⟩,
  ⟨(some 13), (.load 3 (.tmp 12)), 3, "", #[⟨115200, .data⟩], none⟩,
  ⟨(some 16), (.load 24 (.tmp 15)), 24, "", #[⟨114688, .data⟩], none⟩,
  ⟨(some 18), (.load 24 (.tmp 17)), 24, "", #[⟨114688, .data⟩], none⟩,
  ⟨(some 9), (.call ⟨(.value (.func 30)), #[(.tmp 6), (.tmp 8)], #[23, 23]⟩), 3, "", #[⟨4, .chain⟩], none⟩,
  ⟨(some 14), (.call ⟨(.value (.func 31)), #[(.tmp 11), (.tmp 13)], #[3, 3]⟩), 3, "", #[⟨9, .chain⟩], none⟩,
  ⟨(some 19), (.call ⟨(.value (.func 32)), #[(.tmp 16), (.tmp 18)], #[24, 24]⟩), 3, "", #[⟨14, .chain⟩], none⟩,
  ⟨(some 20), (.buildSlice 34 3 #[(0, (.tmp 9)), (1, (.tmp 14)), (2, (.tmp 19))]), 34, "", #[⟨15, .chain⟩], none⟩,
  ⟨(some 21), (.call ⟨(.value (.func 29)), #[(.tmp 20)], #[34]⟩), 3, "", #[⟨16, .chain⟩], none⟩,
  ⟨(some 4), (.assign (.tmp 21)), 3, "", #[], none⟩]
def F10.code : Cd := (.seq (.region 0 F10.r0.toArray false) (.seq (.region 1 F10.r1.toArray true) .ret))
theorem F10.calls {args : Array Value} {w : World} {R : Ending → World → Prop} (hn : args.size ≤ 22) (h : cwE Try.prog F10.code (fnP Try.prog #[(.tmp 4)] R) (entry args) w) : Calls Try.prog 10 args w R :=
  calls_of_cwE (types := Try.prog.types) follows Try.func10 F10.code rfl (by kernel_rfl) hn h

def F11.r0 : List Oper := [
  ⟨(some 2), (.box 26 (.tmp 0)), 0, "", #[⟨0, .chain⟩], none⟩,
  ⟨(some 3), (.box 26 (.tmp 1)), 0, "", #[⟨0, .chain⟩], none⟩,
  ⟨(some 4), (.assign (.const (.int .i64 0))), 3, "", #[], none⟩]
def F11.r1 : List Oper := [
  ⟨(some 5), (.fieldAddr 26 (.tmp 2) 0), 0, "", #[], none⟩,
  ⟨(some 6), (.load 23 (.tmp 5)), 23, "", #[⟨0, .data⟩], none⟩,
  ⟨(some 7), (.fieldAddr 26 (.tmp 3) 0), 0, "", #[], none⟩,
  ⟨(some 8), (.load 23 (.tmp 7)), 23, "", #[⟨0, .data⟩], none⟩,
  ⟨(some 9), (.binOp .neq 23 (.tmp 6) (.tmp 8) 23), 4, "", #[], none⟩]
def F11.r2 : List Oper := [
  ⟨(some 10), (.fieldAddr 26 (.tmp 2) 0), 0, "", #[], none⟩,
  ⟨(some 11), (.load 23 (.tmp 10)), 23, "", #[⟨0, .data⟩], none⟩,
  ⟨(some 12), (.fieldAddr 26 (.tmp 3) 0), 0, "", #[], none⟩,
  ⟨(some 13), (.load 23 (.tmp 12)), 23, "", #[⟨0, .data⟩], none⟩,
  ⟨(some 14), (.binOp .lss 23 (.tmp 11) (.tmp 13) 23), 4, "", #[], none⟩]
def F11.r3 : List Oper := [
  ⟨(some 4), (.assign (.const (.int .i64 (-1)))), 3, "", #[], none⟩]
def F11.r4 : List Oper := [
  ⟨(some 4), (.assign (.const (.int .i64 1))), 3, "", #[], none⟩]
def F11.r5 : List Oper := [
  ⟨(some 15), (.fieldAddr 26 (.tmp 2) 1), 0, "", #[], none⟩,
  ⟨(some 16), (.load 3 (.tmp 15)), 3, "", #[⟨0, .data⟩], none⟩,
  ⟨(some 17), (.fieldAddr 26 (.tmp 3) 1), 0, "", #[], none⟩,
  ⟨(some 18), (.load 3 (.tmp 17)), 3, "", #[⟨0, .data⟩], none⟩,
  ⟨(some 19), (.binOp .neq 3 (.tmp 16) (.tmp 18) 3), 4, "", #[], none⟩]
def F11.r6 : List Oper := [
  ⟨(some 20), (.fieldAddr 26 (.tmp 2) 1), 0, "", #[], none⟩,
  ⟨(some 21), (.load 3 (.tmp 20)), 3, "", #[⟨0, .data⟩], none⟩,
  ⟨(some 22), (.fieldAddr 26 (.tmp 3) 1), 0, "", #[], none⟩,
  ⟨(some 23), (.load 3 (.tmp 22)), 3, "", #[⟨0, .data⟩], none⟩,
  ⟨(some 24), (.binOp .lss 3 (.tmp 21) (.tmp 23) 3), 4, "", #[], none⟩]
def F11.r7 : List Oper := [
  ⟨(some 4), (.assign (.const (.int .i64 (-1)))), 3, "", #[], none⟩]
def F11.r8 : List Oper := [
  ⟨(some 4), (.assign (.const (.int .i64 1))), 3, "", #[], none⟩]
def F11.r9 : List Oper := [
  ⟨(some 25), (.fieldAddr 26 (.tmp 2) 2), 0, "", #[], none⟩,
  ⟨(some 26), (.load 24 (.tmp 25)), 24, "", #[⟨0, .data⟩], none⟩,
  ⟨(some 27), (.fieldAddr 26 (.tmp 3) 2), 0, "", #[], none⟩,
  ⟨(some 28), (.load 24 (.tmp 27)), 24, "", #[⟨0, .data⟩], none⟩,
  ⟨(some 29), (.binOp .neq 24 (.tmp 26) (.tmp 28) 24), 4, "", #[], none⟩]
def F11.r10 : List Oper := [
  ⟨(some 30), (.fieldAddr 26 (.tmp 2) 2), 0, "", #[], none⟩,
  ⟨(some 31), (.load 24 (.tmp 30)), 24, "", #[⟨0, .data⟩], none⟩,
  ⟨(some 32), (.fieldAddr 26 (.tmp 3) 2), 0, "", #[], none⟩,
  ⟨(some 33), (.load 24 (.tmp 32)), 24, "", #[⟨0, .data⟩], none⟩,
  ⟨(some 34), (.binOp .lss 24 (.tmp 31) (.tmp 33) 24), 4, "", #[], none⟩]
def F11.r11 : List Oper := [
  ⟨(some 4), (.assign (.const (.int .i64 (-1)))), 3, "", #[], none⟩]
def F11.r12 : List Oper := [
  ⟨(some 4), (.assign (.const (.int .i64 1))), 3, "", #[], none⟩]
def F11.r13 : List Oper := [
  ⟨(some 4), (.assign (.const (.int .i64 0))), 3, "", #[], none⟩]
def F11.t4 : Cd := (.seq (.region 4 F11.r4.toArray false) .ret)
theorem F11.t4_eq {P : Program} {Q : Post} {e : FA} {w : World} {θ : Tag (F11.t4, Q, e, w)} : cwE P F11.t4 Q e w θ = cwE P (.seq (.region 4 F11.r4.toArray false) .ret) Q e w := rfl
def F11.t8 : Cd := (.seq (.region 8 F11.r8.toArray false) .ret)
theorem F11.t8_eq {P : Program} {Q : Post} {e : FA} {w : World} {θ : Tag (F11.t8, Q, e, w)} : cwE P F11.t8 Q e w θ = cwE P (.seq (.region 8 F11.r8.toArray false) .ret) Q e w := rfl
def F11.t12 : Cd := (.seq (.region 12 F11.r12.toArray false) .ret)
theorem F11.t12_eq {P : Program} {Q : Post} {e : FA} {w : World} {θ : Tag (F11.t12, Q, e, w)} : cwE P F11.t12 Q e w θ = cwE P (.seq (.region 12 F11.r12.toArray false) .ret) Q e w := rfl
def F11.t13 : Cd := (.seq (.region 13 F11.r13.toArray false) .ret)
theorem F11.t13_eq {P : Program} {Q : Post} {e : FA} {w : World} {θ : Tag (F11.t13, Q, e, w)} : cwE P F11.t13 Q e w θ = cwE P (.seq (.region 13 F11.r13.toArray false) .ret) Q e w := rfl
def F11.t9 : Cd := (.seq (.seq (.region 9 F11.r9.toArray false) (.cond (.tmp 29) (.seq (.seq (.region 10 F11.r10.toArray false) (.cond (.tmp 34) (.seq (.region 11 F11.r11.toArray false) .ret) .skip)) F11.t12) .skip)) F11.t13)
theorem F11.t9_eq {P : Program} {Q : Post} {e : FA} {w : World} {θ : Tag (F11.t9, Q, e, w)} : cwE P F11.t9 Q e w θ = cwE P (.seq (.seq (.region 9 F11.r9.toArray false) (.cond (.tmp 29) (.seq (.seq (.region 10 F11.r10.toArray false) (.cond (.tmp 34) (.seq (.region 11 F11.r11.toArray false) .ret) .skip)) F11.t12) .skip)) F11.t13) Q e w := rfl
def F11.t5 : Cd := (.seq (.seq (.region 5 F11.r5.toArray false) (.cond (.tmp 19) (.seq (.seq (.region 6 F11.r6.toArray false) (.cond (.tmp 24) (.seq (.region 7 F11.r7.toArray false) .ret) .skip)) F11.t8) .skip)) F11.t9)
theorem F11.t5_eq {P : Program} {Q : Post} {e : FA} {w : World} {θ : Tag (F11.t5, Q, e, w)} : cwE P F11.t5 Q e w θ = cwE P (.seq (.seq (.region 5 F11.r5.toArray false) (.cond (.tmp 19) (.seq (.seq (.region 6 F11.r6.toArray false) (.cond (.tmp 24) (.seq (.region 7 F11.r7.toArray false) .ret) .skip)) F11.t8) .skip)) F11.t9) Q e w := rfl
def F11.code : Cd := (.seq (.region 0 F11.r0.toArray false) (.seq (.seq (.region 1 F11.r1.toArray false) (.cond (.tmp 9) (.seq (.seq (.region 2 F11.r2.toArray false) (.cond (.tmp 14) (.seq (.region 3 F11.r3.toArray false) .ret) .skip)) F11.t4) .skip)) F11.t5))
theorem F11.calls {args : Array Value} {w : World} {R : Ending → World → Prop} (hn : args.size ≤ 35) (h : cwE Try.prog F11.code (fnP Try.prog #[(.tmp 4)] R) (entry args) w) : Calls Try.prog 11 args w R :=
  calls_of_cwE (types := Try.prog.types) follows Try.func11 F11.code rfl (by kernel_rfl) hn h

def F12.r0 : List Oper := [
  ⟨(some 0), (.assign (.const (.pointer none))), 30, "", #[], none⟩]
def F12.r1 : List Oper := [
  ⟨(some 1), (.makeMap 63 none), 63, "", #[⟨0, .chain⟩], none⟩,
  ⟨(some 2), (.makeMap 64 none), 64, "", #[⟨0, .chain⟩], none⟩,
  ⟨(some 3), (.build 66 #[(0, (.tmp 1)), (1, (.tmp 2))]), 66, "", #[], none⟩,
  ⟨(some 4), (.box 66 (.tmp 3)), 30, "", #[⟨0, .chain⟩], none⟩,
  ⟨(some 0), (.assign (.tmp 4)), 30, "", #[], none⟩]
def F12.code : Cd := (.seq (.region 0 F12.r0.toArray false) (.seq (.region 1 F12.r1.toArray false) .ret))
theorem F12.calls {args : Array Value} {w : World} {R : Ending → World → Prop} (hn : args.size ≤ 5) (h : cwE Try.prog F12.code (fnP Try.prog #[(.tmp 0)] R) (entry args) w) : Calls Try.prog 12 args w R :=
  calls_of_cwE (types := Try.prog.types) follows Try.func12 F12.code rfl (by kernel_rfl) hn h

def F13.r0 : List Oper := [
  ⟨(some 3), (.box 26 (.tmp 1)), 0, "", #[⟨0, .chain⟩], none⟩,
  ⟨(some 4), (.assign (.const (.slice none 0 0))), 34, "", #[], none⟩]
def F13.r1 : List Oper := [
  ⟨(some 6), (.move (.tmp 0)), 30, "", #[], none⟩,
  ⟨(some 7), (.nilCheck (.tmp 6)), 0, "", #[], none⟩,
  ⟨(some 8), (.fieldAddr 66 (.tmp 7) 0), 0, "", #[], none⟩,
  ⟨(some 9), (.load 63 (.tmp 8)), 63, "", #[⟨0, .data⟩], none⟩,
  ⟨(some 10), (.load 26 (.tmp 3)), 26, "", #[⟨0, .data⟩], none⟩,
  ⟨(some 11), (.lookup 63 (.tmp 9) (.tmp 10) false), 67, "", #[⟨0, .data⟩], none⟩,
  ⟨(some 5), (.assign (.tmp 11)), 67, "", #[], none⟩]
def F13.r2 : List Oper := [
  ⟨(some 12), (.move (.tmp 5)), 67, "", #[], none⟩,
  ⟨(some 13), (.binOp .neq 67 (.tmp 12) (.const (.pointer none)) 67), 4, "", #[], none⟩]
def F13.r3 : List Oper := [
  ⟨(some 14), (.move (.tmp 5)), 67, "", #[], none⟩,
  ⟨(some 15), (.nilCheck (.tmp 14)), 0, "", #[], none⟩,
  ⟨(some 16), (.fieldAddr 71 (.tmp 15) 1), 0, "", #[], none⟩,
  ⟨(some 17), (.load 69 (.tmp 16)), 69, "", #[⟨0, .data⟩], none⟩,
  ⟨(some 18), (.call ⟨(.value (.func 33)), #[(.tmp 17)], #[69]⟩), 34, "", #[⟨0, .chain⟩], none⟩,
  ⟨(some 4), (.assign (.tmp 18)), 34, "", #[], none⟩]
def F13.r4 : List Oper := [
  ⟨(some 4), (.assign (.const (.slice none 0 0))), 34, "", #[], none⟩]
def F13.t4 : Cd := (.seq (.region 4 F13.r4.toArray false) .ret)
theorem F13.t4_eq {P : Program} {Q : Post} {e : FA} {w : World} {θ : Tag (F13.t4, Q, e, w)} : cwE P F13.t4 Q e w θ = cwE P (.seq (.region 4 F13.r4.toArray false) .ret) Q e w := rfl
def F13.code : Cd := (.seq (.region 0 F13.r0.toArray false) (.seq (.seq (.region 1 F13.r1.toArray true) (.seq (.region 2 F13.r2.toArray false) (.cond (.tmp 13) (.seq (.region 3 F13.r3.toArray false) .ret) .skip))) F13.t4))
theorem F13.calls {args : Array Value} {w : World} {R : Ending → World → Prop} (hn : args.size ≤ 19) (h : cwE Try.prog F13.code (fnP Try.prog #[(.tmp 4)] R) (entry args) w) : Calls Try.prog 13 args w R :=
  calls_of_cwE (types := Try.prog.types) follows Try.func13 F13.code rfl (by kernel_rfl) hn h

def F14.r0 : List Oper := [
  ⟨(some 2), (.alloc 26), 0, "", #[⟨0, .chain⟩], none⟩]
def F14.r1 : List Oper := [
  ⟨(some 3), (.move (.tmp 0)), 3, "", #[], none⟩,
  ⟨(some 4), (.convert 3 24 (.tmp 3)), 24, "", #[], none⟩,
  ⟨(some 5), (.build 26 #[(0, (.const (.int .u8 3))), (2, (.tmp 4))]), 26, "", #[], none⟩,
  ⟨none, (.store 26 (.tmp 2) (.tmp 5)), 0, "", #[⟨0, .chain⟩], none⟩]
def F14.code : Cd := (.seq (.region 0 F14.r0.toArray false) (.seq (.region 1 F14.r1.toArray false) .ret))
theorem F14.calls {args : Array Value} {w : World} {R : Ending → World → Prop} (hn : args.size ≤ 6) (h : cwE Try.prog F14.code (fnP Try.prog #[(.cell 2 26)] R) (entry args) w) : Calls Try.prog 14 args w R :=
  calls_of_cwE (types := Try.prog.types) follows Try.func14 F14.code rfl (by kernel_rfl) hn h

def F15.r0 : List Oper := [
  ⟨(some 4), (.alloc 38), 0, "", #[⟨0, .chain⟩], none⟩,
  ⟨(some 5), (.assign (.const (.bool false))), 4, "", #[], none⟩]
def F15.r1 : List Oper := [
  ⟨(some 9), (.move (.tmp 0)), 30, "", #[], none⟩,
  ⟨(some 10), (.nilCheck (.tmp 9)), 0, "", #[], none⟩,
  ⟨(some 11), (.fieldAddr 66 (.tmp 10) 1), 0, "", #[], none⟩,
  ⟨(some 12), (.load 64 (.tmp 11)), 64, "", #[⟨0, .data⟩], none⟩,
  ⟨(some 13), (.move (.tmp 1)), 3, "", #[], none⟩,
  ⟨(some 14), (.lookup 64 (.tmp 12) (.tmp 13) true), 39, "", #[⟨0, .data⟩], none⟩,
  ⟨(some 8), (.move (.tmp 14)), 39, "", #[], none⟩,
  ⟨(some 15), (.extract (.tmp 8) 0), 38, "", #[], none⟩,
  ⟨(some 16), (.extract (.tmp 8) 1), 4, "", #[], none⟩,
  ⟨(some 6), (.alloc 38), 0, "", #[⟨0, .chain⟩], none⟩,
  ⟨none, (.store 38 (.tmp 6) (.tmp 15)), 0, "", #[⟨0, .chain⟩], none⟩,
  ⟨(some 7), (.assign (.tmp 16)), 4, "", #[], none⟩]
def F15.r2 : List Oper := [
  ⟨(some 17), (.load 38 (.tmp 6)), 38, "", #[⟨0, .data⟩], none⟩,
  ⟨(some 18), (.move (.tmp 7)), 4, "", #[], none⟩,
  ⟨none, (.store 38 (.tmp 4) (.tmp 17)), 0, "", #[⟨0, .chain⟩], none⟩,
  ⟨(some 5), (.assign (.tmp 18)), 4, "", #[], none⟩]
def F15.code : Cd := (.seq (.region 0 F15.r0.toArray false) (.seq (.region 1 F15.r1.toArray false) (.seq (.region 2 F15.r2.toArray false) .ret)))
theorem F15.calls {args : Array Value} {w : World} {R : Ending → World → Prop} (hn : args.size ≤ 19) (h : cwE Try.prog F15.code (fnP Try.prog #[(.cell 4 38), (.tmp 5)] R) (entry args) w) : Calls Try.prog 15 args w R :=
  calls_of_cwE (types := Try.prog.types) follows Try.func15 F15.code rfl (by kernel_rfl) hn h

def F16.r0 : List Oper := [
  ⟨(some 3), (.box 44 (.tmp 1)), 0, "", #[⟨0, .chain⟩], none⟩,
  ⟨(some 4), (.assign (.const (.slice none 0 0))), 34, "", #[], none⟩,
  ⟨(some 5), (.assign (.const (.bool false))), 4, "", #[], none⟩]
def F16.r1 : List Oper := [
  ⟨(some 12), (.fieldAddr 44 (.tmp 3) 1), 0, "", #[], none⟩,
  ⟨(some 13), (.load 3 (.tmp 12)), 3, "", #[⟨0, .data⟩], none⟩,
  ⟨(some 14), (.call ⟨(.value (.func 17)), #[(.tmp 13), (.const (.int .i64 8))], #[3, 3]⟩), 3, "", #[⟨0, .chain⟩], none⟩,
  ⟨(some 15), (.binOp .add 3 (.const (.int .i64 1)) (.tmp 14) 3), 3, "", #[], none⟩,
  ⟨(some 6), (.assign (.tmp 15)), 3, "", #[], none⟩]
def F16.r2 : PT :=
  (.op ⟨(some 16), (.fieldAddr 44 (.tmp 3) 2), 0, "", #[], none⟩
  (.op ⟨(some 20), (.fieldAddr 44 (.tmp 3) 3), 0, "", #[], none⟩
  (.op ⟨(some 17), (.load 3 (.tmp 16)), 3, "", #[⟨268, .data⟩], none⟩
  (.op ⟨(some 21), (.load 4 (.tmp 20)), 4, "", #[⟨256, .data⟩], none⟩
  (.alt (.op ⟨(some 18), (.call ⟨(.value (.func 17)), #[(.tmp 17), (.const (.int .i64 6))], #[3, 3]⟩), 3, "", #[⟨2, .chain⟩], none⟩
  (.alt (.op ⟨(some 19), (.call ⟨(.value (.func 14)), #[(.tmp 18)], #[3]⟩), 26, "", #[⟨3, .chain⟩], none⟩
  (.op ⟨(some 22), (.build 38 #[(0, (.tmp 19)), (1, (.tmp 21))]), 38, "", #[], none⟩
  (.alt (.op ⟨(some 7), (.alloc 38), 0, "", #[⟨7, .chain⟩], none⟩
  (.alt (.op ⟨none, (.store 38 (.tmp 7) (.tmp 22)), 0, "", #[⟨8, .chain⟩], none⟩
  .done)
  .stop))
  .stop)))
  (.alt (.op ⟨(some 7), (.alloc 38), 0, "", #[⟨7, .chain⟩], none⟩
  (.alt (.op ⟨(some 19), (.call ⟨(.value (.func 14)), #[(.tmp 18)], #[3]⟩), 26, "", #[⟨3, .chain⟩], none⟩
  (.op ⟨(some 22), (.build 38 #[(0, (.tmp 19)), (1, (.tmp 21))]), 38, "", #[], none⟩
  (.alt (.op ⟨none, (.store 38 (.tmp 7) (.tmp 22)), 0, "", #[⟨8, .chain⟩], none⟩
  .done)
  .stop)))
  .stop))
  .stop)))
  (.alt (.op ⟨(some 7), (.alloc 38), 0, "", #[⟨7, .chain⟩], none⟩
  (.alt (.op ⟨(some 18), (.call ⟨(.value (.func 17)), #[(.tmp 17), (.const (.int .i64 6))], #[3, 3]⟩), 3, "", #[⟨2, .chain⟩], none⟩
  (.alt (.op ⟨(some 19), (.call ⟨(.value (.func 14)), #[(.tmp 18)], #[3]⟩), 26, "", #[⟨3, .chain⟩], none⟩
  (.op ⟨(some 22), (.build 38 #[(0, (.tmp 19)), (1, (.tmp 21))]), 38, "", #[], none⟩
  (.alt (.op ⟨none, (.store 38 (.tmp 7) (.tmp 22)), 0, "", #[⟨8, .chain⟩], none⟩
  .done)
  .stop)))
  .stop))
  .stop))
  .stop))))))
def F16.r3 : List Oper := [
  ⟨(some 23), (.fieldAddr 44 (.tmp 3) 0), 0, "", #[], none⟩,
  ⟨(some 24), (.load 3 (.tmp 23)), 3, "", #[⟨0, .data⟩], none⟩,
  ⟨(some 25), (.call ⟨(.value (.func 17)), #[(.tmp 24), (.const (.int .i64 4))], #[3, 3]⟩), 3, "", #[⟨0, .chain⟩], none⟩]
def F16.r4 : List Oper := [
  ⟨(some 27), (.binOp .eql 3 (.tmp 25) (.const (.int .i64 0)) 3), 4, "", #[], none⟩,
  ⟨(some 26), (.assign (.tmp 27)), 4, "", #[], none⟩]
def F16.r5 : List Oper := [
  ⟨(some 28), (.binOp .eql 3 (.tmp 25) (.const (.int .i64 1)) 3), 4, "", #[], none⟩,
  ⟨(some 26), (.assign (.tmp 28)), 4, "", #[], none⟩]
def F16.r6 : List Oper := [
  ⟨(some 30), (.move (.tmp 0)), 30, "", #[], none⟩,
  ⟨(some 31), (.move (.tmp 6)), 3, "", #[], none⟩,
  ⟨(some 32), (.load 38 (.tmp 7)), 38, "", #[⟨0, .data⟩], none⟩,
  ⟨(some 33), (.call ⟨(.value (.func 27)), #[(.tmp 30), (.tmp 31), (.tmp 32)], #[30, 3, 38]⟩), 56, "", #[⟨0, .chain⟩], none⟩,
  ⟨(some 29), (.move (.tmp 33)), 56, "", #[], none⟩,
  ⟨(some 34), (.extract (.tmp 29) 0), 4, "", #[], none⟩,
  ⟨(some 35), (.extract (.tmp 29) 1), 55, "", #[], none⟩,
  ⟨(some 8), (.assign (.tmp 34)), 4, "", #[], none⟩,
  ⟨(some 9), (.assign (.tmp 35)), 55, "", #[], none⟩]
def F16.r7 : List Oper := [
  ⟨(some 36), (.move (.tmp 9)), 55, "", #[], none⟩,
  ⟨(some 37), (.binOp .eql 55 (.tmp 36) (.const (.int .i64 0)) 55), 4, "", #[], none⟩,
  ⟨(some 4), (.assign (.const (.slice none 0 0))), 34, "", #[], none⟩,
  ⟨(some 5), (.assign (.tmp 37)), 4, "", #[], none⟩]
def F16.r8 : List Oper := [
  ⟨(some 39), (.binOp .eql 3 (.tmp 25) (.const (.int .i64 2)) 3), 4, "", #[], none⟩,
  ⟨(some 38), (.assign (.tmp 39)), 4, "", #[], none⟩]
def F16.r9 : List Oper := [
  ⟨(some 41), (.move (.tmp 0)), 30, "", #[], none⟩,
  ⟨(some 42), (.move (.tmp 6)), 3, "", #[], none⟩,
  ⟨(some 43), (.fieldAddr 38 (.tmp 7) 0), 0, "", #[], none⟩,
  ⟨(some 44), (.load 26 (.tmp 43)), 26, "", #[⟨0, .data⟩], none⟩,
  ⟨(some 45), (.call ⟨(.value (.func 28)), #[(.tmp 41), (.tmp 42), (.tmp 44)], #[30, 3, 26]⟩), 58, "", #[⟨0, .chain⟩], none⟩,
  ⟨(some 40), (.move (.tmp 45)), 58, "", #[], none⟩,
  ⟨(some 46), (.extract (.tmp 40) 0), 34, "", #[], none⟩,
  ⟨(some 47), (.extract (.tmp 40) 1), 55, "", #[], none⟩,
  ⟨(some 10), (.assign (.tmp 46)), 34, "", #[], none⟩,
  ⟨(some 11), (.assign (.tmp 47)), 55, "", #[], none⟩]
def F16.r10 : List Oper := [
  ⟨(some 48), (.move (.tmp 10)), 34, "", #[], none⟩,
  ⟨(some 49), (.move (.tmp 11)), 55, "", #[], none⟩,
  ⟨(some 50), (.binOp .eql 55 (.tmp 49) (.const (.int .i64 0)) 55), 4, "", #[], none⟩,
  ⟨(some 4), (.assign (.tmp 48)), 34, "", #[], none⟩,
  ⟨(some 5), (.assign (.tmp 50)), 4, "", #[], none⟩]
def F16.r11 : List Oper := [
  ⟨(some 51), (.move (.tmp 0)), 30, "", #[], none⟩,
  ⟨(some 52), (.move (.tmp 6)), 3, "", #[], none⟩,
  ⟨(some 53), (.call ⟨(.value (.func 24)), #[(.tmp 51), (.tmp 52)], #[30, 3]⟩), 34, "", #[⟨0, .chain⟩], none⟩,
  ⟨(some 4), (.assign (.tmp 53)), 34, "", #[], none⟩,
  ⟨(some 5), (.assign (.const (.bool true))), 4, "", #[], none⟩]
def F16.t6 : Cd := (.cond (.tmp 26) (.seq (.region 6 F16.r6.toArray false) (.seq (.region 7 F16.r7.toArray false) .ret)) (.seq (.region 8 F16.r8.toArray false) (.cond (.tmp 38) (.seq (.region 9 F16.r9.toArray false) (.seq (.region 10 F16.r10.toArray false) .ret)) .skip)))
theorem F16.t6_eq {P : Program} {Q : Post} {e : FA} {w : World} {θ : Tag (F16.t6, Q, e, w)} : cwE P F16.t6 Q e w θ = cwE P (.cond (.tmp 26) (.seq (.region 6 F16.r6.toArray false) (.seq (.region 7 F16.r7.toArray false) .ret)) (.seq (.region 8 F16.r8.toArray false) (.cond (.tmp 38) (.seq (.region 9 F16.r9.toArray false) (.seq (.region 10 F16.r10.toArray false) .ret)) .skip))) Q e w := rfl
def F16.t11 : Cd := (.seq (.region 11 F16.r11.toArray false) .ret)
theorem F16.t11_eq {P : Program} {Q : Post} {e : FA} {w : World} {θ : Tag (F16.t11, Q, e, w)} : cwE P F16.t11 Q e w θ = cwE P (.seq (.region 11 F16.r11.toArray false) .ret) Q e w := rfl
def F16.t3 : Cd := (.seq (.seq (.region 3 F16.r3.toArray false) (.block 0 (.seq (.seq (.region 4 F16.r4.toArray false) (.cond (.tmp 26) .skip (.region 5 F16.r5.toArray false))) F16.t6))) F16.t11)
theorem F16.t3_eq {P : Program} {Q : Post} {e : FA} {w : World} {θ : Tag (F16.t3, Q, e, w)} : cwE P F16.t3 Q e w θ = cwE P (.seq (.seq (.region 3 F16.r3.toArray false) (.block 0 (.seq (.seq (.region 4 F16.r4.toArray false) (.cond (.tmp 26) .skip (.region 5 F16.r5.toArray false))) F16.t6))) F16.t11) Q e w := rfl
def F16.code : Cd := (.seq (.region 0 F16.r0.toArray false) (.seq (.region 1 F16.r1.toArray false) (.seq (.tree F16.r2) F16.t3)))
theorem F16.calls {args : Array Value} {w : World} {R : Ending → World → Prop} (hn : args.size ≤ 54) (h : cwE Try.prog F16.code (fnP Try.prog #[(.tmp 4), (.tmp 5)] R) (entry args) w) : Calls Try.prog 16 args w R :=
  calls_of_cwE (types := Try.prog.types) follows Try.func16 F16.code rfl (by kernel_rfl) hn h

def F17.r0 : List Oper := [
  ⟨(some 4), (.assign (.const (.int .i64 0))), 3, "", #[], none⟩]
def F17.r1 : List Oper := [
  ⟨(some 5), (.move (.tmp 0)), 3, "", #[], none⟩,
  ⟨(some 6), (.binOp .lss 3 (.tmp 5) (.const (.int .i64 0)) 3), 4, "", #[], none⟩]
def F17.r2 : List Oper := [
  ⟨(some 7), (.move (.tmp 0)), 3, "", #[], none⟩,
  ⟨(some 8), (.binOp .add 3 (.tmp 7) (.const (.int .i64 1)) 3), 3, "", #[], none⟩,
  ⟨(some 9), (.unOp .neg 3 (.tmp 8)), 3, "", #[], none⟩,
  ⟨(some 0), (.assign (.tmp 9)), 3, "", #[], none⟩]
def F17.r3 : List Oper := [
  ⟨(some 10), (.move (.tmp 0)), 3, "", #[], none⟩,
  ⟨(some 11), (.move (.tmp 1)), 3, "", #[], none⟩,
  ⟨(some 12), (.binOp .rem 3 (.tmp 10) (.tmp 11) 3), 3, "", #[], none⟩,
  ⟨(some 4), (.assign (.tmp 12)), 3, "", #[], none⟩]
def F17.t3 : Cd := (.seq (.region 3 F17.r3.toArray false) .ret)
theorem F17.t3_eq {P : Program} {Q : Post} {e : FA} {w : World} {θ : Tag (F17.t3, Q, e, w)} : cwE P F17.t3 Q e w θ = cwE P (.seq (.region 3 F17.r3.toArray false) .ret) Q e w := rfl
def F17.code : Cd := (.seq (.region 0 F17.r0.toArray false) (.seq (.seq (.region 1 F17.r1.toArray false) (.cond (.tmp 6) (.region 2 F17.r2.toArray false) .skip)) F17.t3))
theorem F17.calls {args : Array Value} {w : World} {R : Ending → World → Prop} (hn : args.size ≤ 13) (h : cwE Try.prog F17.code (fnP Try.prog #[(.tmp 4)] R) (entry args) w) : Calls Try.prog 17 args w R :=
  calls_of_cwE (types := Try.prog.types) follows Try.func17 F17.code rfl (by kernel_rfl) hn h

def F18.r0 : List Oper := [
  ⟨(some 5), (.box 38 (.tmp 2)), 0, "", #[⟨0, .chain⟩], none⟩,
  ⟨(some 6), (.assign (.const (.bool false))), 4, "", #[], none⟩]
def F18.r1 : List Oper := [
  ⟨(some 9), (.move (.tmp 0)), 30, "", #[], none⟩,
  ⟨(some 10), (.move (.tmp 1)), 3, "", #[], none⟩,
  ⟨(some 11), (.call ⟨(.value (.func 22)), #[(.tmp 9), (.tmp 10)], #[30, 3]⟩), 33, "", #[⟨0, .chain⟩], none⟩,
  ⟨(some 7), (.assign (.tmp 11)), 33, "", #[], none⟩]
def F18.r2 : List Oper := [
  ⟨(some 8), (.assign (.const (.int .i64 0))), 3, "", #[], none⟩]
def F18.r3 : List Oper := [
  ⟨(some 12), (.move (.tmp 8)), 3, "", #[], none⟩,
  ⟨(some 13), (.move (.tmp 7)), 33, "", #[], none⟩,
  ⟨(some 14), (.call ⟨(.builtin .len), #[(.tmp 13)], #[33]⟩), 3, "", #[], none⟩,
  ⟨(some 15), (.binOp .lss 3 (.tmp 12) (.tmp 14) 3), 4, "", #[], none⟩]
def F18.r5 : List Oper := [
  ⟨(some 18), (.move (.tmp 7)), 33, "", #[], none⟩,
  ⟨(some 19), (.move (.tmp 8)), 3, "", #[], none⟩,
  ⟨(some 20), (.indexAddr 33 (.tmp 18) (.tmp 19)), 0, "", #[], none⟩,
  ⟨(some 21), (.load 38 (.tmp 20)), 38, "", #[⟨0, .data⟩], none⟩,
  ⟨(some 22), (.load 38 (.tmp 5)), 38, "", #[⟨0, .data⟩], none⟩,
  ⟨(some 23), (.binOp .eql 38 (.tmp 21) (.tmp 22) 38), 4, "", #[], none⟩]
def F18.r6 : List Oper := [
  ⟨(some 6), (.assign (.const (.bool true))), 4, "", #[], none⟩]
def F18.r4 : List Oper := [
  ⟨(some 16), (.move (.tmp 8)), 3, "", #[], none⟩,
  ⟨(some 17), (.binOp .add 3 (.tmp 16) (.const (.int .i64 1)) 3), 3, "", #[], none⟩,
  ⟨(some 8), (.assign (.tmp 17)), 3, "", #[], none⟩]
def F18.r7 : List Oper := [
  ⟨(some 6), (.assign (.const (.bool false))), 4, "", #[], none⟩]
def F18.t4 : Cd := (.region 4 F18.r4.toArray false)
theorem F18.t4_eq {P : Program} {Q : Post} {e : FA} {w : World} {θ : Tag (F18.t4, Q, e, w)} : cwE P F18.t4 Q e w θ = cwE P (.region 4 F18.r4.toArray false) Q e w := rfl
def F18.t5 : Cd := (.seq (.block 1 (.seq (.region 5 F18.r5.toArray true) (.cond (.tmp 23) (.seq (.region 6 F18.r6.toArray false) .ret) .skip))) F18.t4)
theorem F18.t5_eq {P : Program} {Q : Post} {e : FA} {w : World} {θ : Tag (F18.t5, Q, e, w)} : cwE P F18.t5 Q e w θ = cwE P (.seq (.block 1 (.seq (.region 5 F18.r5.toArray true) (.cond (.tmp 23) (.seq (.region 6 F18.r6.toArray false) .ret) .skip))) F18.t4) Q e w := rfl
def F18.t7 : Cd := (.seq (.region 7 F18.r7.toArray false) .ret)
theorem F18.t7_eq {P : Program} {Q : Post} {e : FA} {w : World} {θ : Tag (F18.t7, Q, e, w)} : cwE P F18.t7 Q e w θ = cwE P (.seq (.region 7 F18.r7.toArray false) .ret) Q e w := rfl
def F18.code : Cd := (.seq (.region 0 F18.r0.toArray false) (.seq (.region 1 F18.r1.toArray false) (.seq (.seq (.region 2 F18.r2.toArray false) (.block 0 (.loop (.seq (.seq (.region 3 F18.r3.toArray false) (.cond (.tmp 15) .skip (.exit 0))) F18.t5)))) F18.t7)))
theorem F18.calls {args : Array Value} {w : World} {R : Ending → World → Prop} (hn : args.size ≤ 24) (h : cwE Try.prog F18.code (fnP Try.prog #[(.tmp 6)] R) (entry args) w) : Calls Try.prog 18 args w R :=
  calls_of_cwE (types := Try.prog.types) follows Try.func18 F18.code rfl (by kernel_rfl) hn h

def F19.r0 : List Oper := [
  ⟨(some 2), (.assign (.const (.slice none 0 0))), 34, "", #[], none⟩]
def F19.r1 : List Oper := [
  ⟨(some 3), (.assign (.const (.slice none 0 0))), 34, "", #[], none⟩]
def F19.r2 : List Oper := [
  ⟨(some 4), (.assign (.const (.int .i64 0))), 3, "", #[], none⟩]
def F19.r3 : List Oper := [
  ⟨(some 8), (.move (.tmp 4)), 3, "", #[], none⟩,
  ⟨(some 9), (.binOp .lss 3 (.tmp 8) (.const (.int .i64 6)) 3), 4, "", #[], none⟩]
def F19.r5 : List Oper := [
  ⟨(some 12), (.move (.tmp 3)), 34, "", #[], none⟩,
  ⟨(some 13), (.buildSlice 34 1 #[(0, (.const (.int .i64 (-1))))]), 34, "", #[⟨0, .chain⟩], none⟩,
  ⟨(some 14), (.call ⟨(.builtin .append), #[(.tmp 12), (.tmp 13)], #[34, 34]⟩), 34, "", #[⟨0, .chain⟩], none⟩,
  ⟨(some 3), (.assign (.tmp 14)), 34, "", #[], none⟩]
def F19.r6 : List Oper := [
  ⟨(some 15), (.move (.tmp 3)), 34, "", #[], none⟩,
  ⟨(some 16), (.move (.tmp 0)), 30, "", #[], none⟩,
  ⟨(some 17), (.move (.tmp 4)), 3, "", #[], none⟩,
  ⟨(some 18), (.call ⟨(.value (.func 14)), #[(.tmp 17)], #[3]⟩), 26, "", #[⟨0, .chain⟩], none⟩,
  ⟨(some 19), (.call ⟨(.value (.func 34)), #[(.tmp 16), (.tmp 18)], #[30, 26]⟩), 34, "", #[⟨0, .chain⟩], none⟩,
  ⟨(some 20), (.call ⟨(.builtin .append), #[(.tmp 15), (.tmp 19)], #[34, 34]⟩), 34, "", #[⟨0, .chain⟩], none⟩,
  ⟨(some 3), (.assign (.tmp 20)), 34, "", #[], none⟩]
def F19.r7 : List Oper := [
  ⟨(some 21), (.move (.tmp 3)), 34, "", #[], none⟩,
  ⟨(some 22), (.buildSlice 34 1 #[(0, (.const (.int .i64 (-2))))]), 34, "", #[⟨0, .chain⟩], none⟩,
  ⟨(some 23), (.call ⟨(.builtin .append), #[(.tmp 21), (.tmp 22)], #[34, 34]⟩), 34, "", #[⟨0, .chain⟩], none⟩,
  ⟨(some 3), (.assign (.tmp 23)), 34, "", #[], none⟩]
def F19.r8 : List Oper := [
  ⟨(some 24), (.move (.tmp 3)), 34, "", #[], none⟩,
  ⟨(some 25), (.move (.tmp 0)), 30, "", #[], none⟩,
  ⟨(some 26), (.move (.tmp 4)), 3, "", #[], none⟩,
  ⟨(some 27), (.call ⟨(.value (.func 14)), #[(.tmp 26)], #[3]⟩), 26, "", #[⟨0, .chain⟩], none⟩,
  ⟨(some 28), (.call ⟨(.value (.func 13)), #[(.tmp 25), (.tmp 27)], #[30, 26]⟩), 34, "", #[⟨0, .chain⟩], none⟩,
  ⟨(some 29), (.call ⟨(.builtin .append), #[(.tmp 24), (.tmp 28)], #[34, 34]⟩), 34, "", #[⟨0, .chain⟩], none⟩,
  ⟨(some 3), (.assign (.tmp 29)), 34, "", #[], none⟩]
def F19.r4 : List Oper := [
  ⟨(some 10), (.move (.tmp 4)), 3, "", #[], none⟩,
  ⟨(some 11), (.binOp .add 3 (.tmp 10) (.const (.int .i64 1)) 3), 3, "", #[], none⟩,
  ⟨(some 4), (.assign (.tmp 11)), 3, "", #[], none⟩]
def F19.r9 : List Oper := [
  ⟨(some 5), (.assign (.const (.int .i64 1))), 3, "", #[], none⟩]
def F19.r10 : List Oper := [
  ⟨(some 30), (.move (.tmp 5)), 3, "", #[], none⟩,
  ⟨(some 31), (.binOp .leq 3 (.tmp 30) (.const (.int .i64 8)) 3), 4, "", #[], none⟩]
def F19.r12 : List Oper := [
  ⟨(some 34), (.move (.tmp 0)), 30, "", #[], none⟩,
  ⟨(some 35), (.move (.tmp 5)), 3, "", #[], none⟩,
  ⟨(some 36), (.call ⟨(.value (.func 22)), #[(.tmp 34), (.tmp 35)], #[30, 3]⟩), 33, "", #[⟨0, .chain⟩], none⟩,
  ⟨(some 6), (.assign (.tmp 36)), 33, "", #[], none⟩]
def F19.r13 : List Oper := [
  ⟨(some 7), (.assign (.const (.int .i64 0))), 3, "", #[], none⟩]
def F19.r14 : List Oper := [
  ⟨(some 37), (.move (.tmp 7)), 3, "", #[], none⟩,
  ⟨(some 38), (.move (.tmp 6)), 33, "", #[], none⟩,
  ⟨(some 39), (.call ⟨(.builtin .len), #[(.tmp 38)], #[33]⟩), 3, "", #[], none⟩,
  ⟨(some 40), (.binOp .lss 3 (.tmp 37) (.tmp 39) 3), 4, "", #[], none⟩]
def F19.r16 : List Oper := [
  ⟨(some 43), (.move (.tmp 3)), 34, "", #[], none⟩,
  ⟨(some 44), (.move (.tmp 6)), 33, "", #[], none⟩,
  ⟨(some 45), (.move (.tmp 7)), 3, "", #[], none⟩,
  ⟨(some 46), (.indexAddr 33 (.tmp 44) (.tmp 45)), 0, "", #[], none⟩,
  ⟨(some 47), (.fieldAddr 38 (.tmp 46) 0), 0, "", #[], none⟩,
  ⟨(some 48), (.fieldAddr 26 (.tmp 47) 2), 0, "", #[], none⟩,
  ⟨(some 49), (.load 24 (.tmp 48)), 24, "", #[⟨0, .data⟩], none⟩,
  ⟨(some 50), (.convert 24 3 (.tmp 49)), 3, "", #[], none⟩,
  ⟨(some 51), (.buildSlice 34 1 #[(0, (.tmp 50))]), 34, "", #[⟨0, .chain⟩], none⟩,
  ⟨(some 52), (.call ⟨(.builtin .append), #[(.tmp 43), (.tmp 51)], #[34, 34]⟩), 34, "", #[⟨0, .chain⟩], none⟩,
  ⟨(some 3), (.assign (.tmp 52)), 34, "", #[], none⟩]
def F19.r17 : List Oper := [
  ⟨(some 53), (.move (.tmp 6)), 33, "", #[], none⟩,
  ⟨(some 54), (.move (.tmp 7)), 3, "", #[], none⟩,
  ⟨(some 55), (.indexAddr 33 (.tmp 53) (.tmp 54)), 0, "", #[], none⟩,
  ⟨(some 56), (.fieldAddr 38 (.tmp 55) 1), 0, "", #[], none⟩,
  ⟨(some 57), (.load 4 (.tmp 56)), 4, "", #[⟨0, .data⟩], none⟩]
def F19.r18 : List Oper := [
  ⟨(some 58), (.move (.tmp 3)), 34, "", #[], none⟩,
  ⟨(some 59), (.buildSlice 34 1 #[(0, (.const (.int .i64 (-3))))]), 34, "", #[⟨0, .chain⟩], none⟩,
  ⟨(some 60), (.call ⟨(.builtin .append), #[(.tmp 58), (.tmp 59)], #[34, 34]⟩), 34, "", #[⟨0, .chain⟩], none⟩,
  ⟨(some 3), (.assign (.tmp 60)), 34, "", #[], none⟩]
def F19.r15 : List Oper := [
  ⟨(some 41), (.move (.tmp 7)), 3, "", #[], none⟩,
  ⟨(some 42), (.binOp .add 3 (.tmp 41) (.const (.int .i64 1)) 3), 3, "", #[], none⟩,
  ⟨(some 7), (.assign (.tmp 42)), 3, "", #[], none⟩]
def F19.r19 : List Oper := [
  ⟨(some 61), (.move (.tmp 3)), 34, "", #[], none⟩,
  ⟨(some 62), (.buildSlice 34 1 #[(0, (.const (.int .i64 (-4))))]), 34, "", #[⟨0, .chain⟩], none⟩,
  ⟨(some 63), (.call ⟨(.builtin .append), #[(.tmp 61), (.tmp 62)], #[34, 34]⟩), 34, "", #[⟨0, .chain⟩], none⟩,
  ⟨(some 3), (.assign (.tmp 63)), 34, "", #[], none⟩]
def F19.r11 : List Oper := [
  ⟨(some 32), (.move (.tmp 5)), 3, "", #[], none⟩,
  ⟨(some 33), (.binOp .add 3 (.tmp 32) (.const (.int .i64 1)) 3), 3, "", #[], none⟩,
  ⟨(some 5), (.assign (.tmp 33)), 3, "", #[], none⟩]
def F19.r20 : List Oper := [
  ⟨(some 64), (.move (.tmp 3)), 34, "", #[], none⟩,
  ⟨(some 2), (.assign (.tmp 64)), 34, "", #[], none⟩]
def F19.t4 : Cd := (.region 4 F19.r4.toArray false)
theorem F19.t4_eq {P : Program} {Q : Post} {e : FA} {w : World} {θ : Tag (F19.t4, Q, e, w)} : cwE P F19.t4 Q e w θ = cwE P (.region 4 F19.r4.toArray false) Q e w := rfl
def F19.t5 : Cd := (.seq (.block 1 (.seq (.region 5 F19.r5.toArray false) (.seq (.region 6 F19.r6.toArray false) (.seq (.region 7 F19.r7.toArray false) (.region 8 F19.r8.toArray false))))) F19.t4)
theorem F19.t5_eq {P : Program} {Q : Post} {e : FA} {w : World} {θ : Tag (F19.t5, Q, e, w)} : cwE P F19.t5 Q e w θ = cwE P (.seq (.block 1 (.seq (.region 5 F19.r5.toArray false) (.seq (.region 6 F19.r6.toArray false) (.seq (.region 7 F19.r7.toArray false) (.region 8 F19.r8.toArray false))))) F19.t4) Q e w := rfl
def F19.t15 : Cd := (.region 15 F19.r15.toArray false)
theorem F19.t15_eq {P : Program} {Q : Post} {e : FA} {w : World} {θ : Tag (F19.t15, Q, e, w)} : cwE P F19.t15 Q e w θ = cwE P (.region 15 F19.r15.toArray false) Q e w := rfl
def F19.t16 : Cd := (.seq (.block 5 (.seq (.region 16 F19.r16.toArray false) (.seq (.region 17 F19.r17.toArray false) (.cond (.tmp 57) (.region 18 F19.r18.toArray false) .skip)))) F19.t15)
theorem F19.t16_eq {P : Program} {Q : Post} {e : FA} {w : World} {θ : Tag (F19.t16, Q, e, w)} : cwE P F19.t16 Q e w θ = cwE P (.seq (.block 5 (.seq (.region 16 F19.r16.toArray false) (.seq (.region 17 F19.r17.toArray false) (.cond (.tmp 57) (.region 18 F19.r18.toArray false) .skip)))) F19.t15) Q e w := rfl
def F19.t19 : Cd := (.region 19 F19.r19.toArray false)
theorem F19.t19_eq {P : Program} {Q : Post} {e : FA} {w : World} {θ : Tag (F19.t19, Q, e, w)} : cwE P F19.t19 Q e w θ = cwE P (.region 19 F19.r19.toArray false) Q e w := rfl
def F19.t11 : Cd := (.region 11 F19.r11.toArray false)
theorem F19.t11_eq {P : Program} {Q : Post} {e : FA} {w : World} {θ : Tag (F19.t11, Q, e, w)} : cwE P F19.t11 Q e w θ = cwE P (.region 11 F19.r11.toArray false) Q e w := rfl
def F19.t12 : Cd := (.seq (.block 3 (.seq (.region 12 F19.r12.toArray false) (.seq (.seq (.region 13 F19.r13.toArray false) (.block 4 (.loop (.seq (.seq (.region 14 F19.r14.toArray false) (.cond (.tmp 40) .skip (.exit 4))) F19.t16)))) F19.t19))) F19.t11)
theorem F19.t12_eq {P : Program} {Q : Post} {e : FA} {w : World} {θ : Tag (F19.t12, Q, e, w)} : cwE P F19.t12 Q e w θ = cwE P (.seq (.block 3 (.seq (.region 12 F19.r12.toArray false) (.seq (.seq (.region 13 F19.r13.toArray false) (.block 4 (.loop (.seq (.seq (.region 14 F19.r14.toArray false) (.cond (.tmp 40) .skip (.exit 4))) F19.t16)))) F19.t19))) F19.t11) Q e w := rfl
def F19.t20 : Cd := (.seq (.region 20 F19.r20.toArray false) .ret)
theorem F19.t20_eq {P : Program} {Q : Post} {e : FA} {w : World} {θ : Tag (F19.t20, Q, e, w)} : cwE P F19.t20 Q e w θ = cwE P (.seq (.region 20 F19.r20.toArray false) .ret) Q e w := rfl
def F19.t9 : Cd := (.seq (.seq (.region 9 F19.r9.toArray false) (.block 2 (.loop (.seq (.seq (.region 10 F19.r10.toArray false) (.cond (.tmp 31) .skip (.exit 2))) F19.t12)))) F19.t20)
theorem F19.t9_eq {P : Program} {Q : Post} {e : FA} {w : World} {θ : Tag (F19.t9, Q, e, w)} : cwE P F19.t9 Q e w θ = cwE P (.seq (.seq (.region 9 F19.r9.toArray false) (.block 2 (.loop (.seq (.seq (.region 10 F19.r10.toArray false) (.cond (.tmp 31) .skip (.exit 2))) F19.t12)))) F19.t20) Q e w := rfl
def F19.code : Cd := (.seq (.region 0 F19.r0.toArray false) (.seq (.region 1 F19.r1.toArray false) (.seq (.seq (.region 2 F19.r2.toArray false) (.block 0 (.loop (.seq (.seq (.region 3 F19.r3.toArray false) (.cond (.tmp 9) .skip (.exit 0))) F19.t5)))) F19.t9)))
theorem F19.calls {args : Array Value} {w : World} {R : Ending → World → Prop} (hn : args.size ≤ 65) (h : cwE Try.prog F19.code (fnP Try.prog #[(.tmp 2)] R) (entry args) w) : Calls Try.prog 19 args w R :=
  calls_of_cwE (types := Try.prog.types) follows Try.func19 F19.code rfl (by kernel_rfl) hn h

def F20.r0 : List Oper := [
  ⟨(some 4), (.assign (.const (.bool false))), 4, "", #[], none⟩]
def F20.r1 : List Oper := [
  ⟨(some 6), (.move (.tmp 0)), 34, "", #[], none⟩,
  ⟨(some 7), (.call ⟨(.builtin .len), #[(.tmp 6)], #[34]⟩), 3, "", #[], none⟩,
  ⟨(some 8), (.move (.tmp 1)), 34, "", #[], none⟩,
  ⟨(some 9), (.call ⟨(.builtin .len), #[(.tmp 8)], #[34]⟩), 3, "", #[], none⟩,
  ⟨(some 10), (.binOp .neq 3 (.tmp 7) (.tmp 9) 3), 4, "", #[], none⟩]
def F20.r2 : List Oper := [
  ⟨(some 4), (.assign (.const (.bool false))), 4, "", #[], none⟩]
def F20.r3 : List Oper := [
  ⟨(some 5), (.assign (.const (.int .i64 0))), 3, "", #[], none⟩]
def F20.r4 : List Oper := [
  ⟨(some 11), (.move (.tmp 5)), 3, "", #[], none⟩,
  ⟨(some 12), (.move (.tmp 0)), 34, "", #[], none⟩,
  ⟨(some 13), (.call ⟨(.builtin .len), #[(.tmp 12)], #[34]⟩), 3, "", #[], none⟩,
  ⟨(some 14), (.binOp .lss 3 (.tmp 11) (.tmp 13) 3), 4, "", #[], none⟩]
def F20.r6 : List Oper := [
  ⟨(some 17), (.move (.tmp 0)), 34, "", #[], none⟩,
  ⟨(some 18), (.move (.tmp 5)), 3, "", #[], none⟩,
  ⟨(some 19), (.indexAddr 34 (.tmp 17) (.tmp 18)), 0, "", #[], none⟩,
  ⟨(some 21), (.move (.tmp 1)), 34, "", #[], none⟩,
  ⟨(some 22), (.move (.tmp 5)), 3, "", #[], none⟩,
  ⟨(some 23), (.indexAddr 34 (.tmp 21) (.tmp 22)), 0, "", #[], none⟩,
  ⟨(some 20), (.load 3 (.tmp 19)), 3, "", #[⟨0, .data⟩], none⟩,
  ⟨(some 24), (.load 3 (.tmp 23)), 3, "", #[⟨0, .data⟩], none⟩,
  ⟨(some 25), (.binOp .neq 3 (.tmp 20) (.tmp 24) 3), 4, "", #[], none⟩]
def F20.r7 : List Oper := [
  ⟨(some 4), (.assign (.const (.bool false))), 4, "", #[], none⟩]
def F20.r5 : List Oper := [
  ⟨(some 15), (.move (.tmp 5)), 3, "", #[], none⟩,
  ⟨(some 16), (.binOp .add 3 (.tmp 15) (.const (.int .i64 1)) 3), 3, "", #[], none⟩,
  ⟨(some 5), (.assign (.tmp 16)), 3, "", #[], none⟩]
def F20.r8 : List Oper := [
  ⟨(some 4), (.assign (.const (.bool true))), 4, "", #[], none⟩]
def F20.t5 : Cd := (.region 5 F20.r5.toArray false)
theorem F20.t5_eq {P : Program} {Q : Post} {e : FA} {w : World} {θ : Tag (F20.t5, Q, e, w)} : cwE P F20.t5 Q e w θ = cwE P (.region 5 F20.r5.toArray false) Q e w := rfl
def F20.t6 : Cd := (.seq (.block 1 (.seq (.region 6 F20.r6.toArray true) (.cond (.tmp 25) (.seq (.region 7 F20.r7.toArray false) .ret) .skip))) F20.t5)
theorem F20.t6_eq {P : Program} {Q : Post} {e : FA} {w : World} {θ : Tag (F20.t6, Q, e, w)} : cwE P F20.t6 Q e w θ = cwE P (.seq (.block 1 (.seq (.region 6 F20.r6.toArray true) (.cond (.tmp 25) (.seq (.region 7 F20.r7.toArray false) .ret) .skip))) F20.t5) Q e w := rfl
def F20.t8 : Cd := (.seq (.region 8 F20.r8.toArray false) .ret)
theorem F20.t8_eq {P : Program} {Q : Post} {e : FA} {w : World} {θ : Tag (F20.t8, Q, e, w)} : cwE P F20.t8 Q e w θ = cwE P (.seq (.region 8 F20.r8.toArray false) .ret) Q e w := rfl
def F20.t3 : Cd := (.seq (.seq (.region 3 F20.r3.toArray false) (.block 0 (.loop (.seq (.seq (.region 4 F20.r4.toArray false) (.cond (.tmp 14) .skip (.exit 0))) F20.t6)))) F20.t8)
theorem F20.t3_eq {P : Program} {Q : Post} {e : FA} {w : World} {θ : Tag (F20.t3, Q, e, w)} : cwE P F20.t3 Q e w θ = cwE P (.seq (.seq (.region 3 F20.r3.toArray false) (.block 0 (.loop (.seq (.seq (.region 4 F20.r4.toArray false) (.cond (.tmp 14) .skip (.exit 0))) F20.t6)))) F20.t8) Q e w := rfl
def F20.code : Cd := (.seq (.region 0 F20.r0.toArray false) (.seq (.seq (.region 1 F20.r1.toArray false) (.cond (.tmp 10) (.seq (.region 2 F20.r2.toArray false) .ret) .skip)) F20.t3))
theorem F20.calls {args : Array Value} {w : World} {R : Ending → World → Prop} (hn : args.size ≤ 26) (h : cwE Try.prog F20.code (fnP Try.prog #[(.tmp 4)] R) (entry args) w) : Calls Try.prog 20 args w R :=
  calls_of_cwE (types := Try.prog.types) follows Try.func20 F20.code rfl (by kernel_rfl) hn h

def F21.r0 : List Oper := [
  ⟨(some 2), (.assign (.const (.bool false))), 4, "", #[], none⟩]
def F21.r1 : List Oper := [
  ⟨(some 3), (.assign (.const (.bool false))), 4, "", #[], none⟩]
def F21.r2 : List Oper := [
  ⟨(some 4), (.assign (.const (.int .i64 0))), 3, "", #[], none⟩]
def F21.r3 : List Oper := [
  ⟨(some 15), (.move (.tmp 4)), 3, "", #[], none⟩,
  ⟨(some 16), (.binOp .lss 3 (.tmp 15) (.const (.int .i64 6)) 3), 4, "", #[], none⟩]
def F21.r5 : List Oper := [
  ⟨(some 19), (.move (.tmp 0)), 30, "", #[], none⟩,
  ⟨(some 20), (.move (.tmp 4)), 3, "", #[], none⟩,
  ⟨(some 21), (.call ⟨(.value (.func 14)), #[(.tmp 20)], #[3]⟩), 26, "", #[⟨0, .chain⟩], none⟩,
  ⟨(some 22), (.call ⟨(.value (.func 34)), #[(.tmp 19), (.tmp 21)], #[30, 26]⟩), 34, "", #[⟨0, .chain⟩], none⟩,
  ⟨(some 5), (.assign (.tmp 22)), 34, "", #[], none⟩]
def F21.r6 : List Oper := [
  ⟨(some 6), (.assign (.const (.int .i64 0))), 3, "", #[], none⟩]
def F21.r7 : List Oper := [
  ⟨(some 7), (.assign (.const (.int .i64 0))), 3, "", #[], none⟩]
def F21.r8 : List Oper := [
  ⟨(some 8), (.assign (.const (.int .i64 1))), 3, "", #[], none⟩]
def F21.r9 : List Oper := [
  ⟨(some 23), (.move (.tmp 8)), 3, "", #[], none⟩,
  ⟨(some 24), (.binOp .leq 3 (.tmp 23) (.const (.int .i64 8)) 3), 4, "", #[], none⟩]
def F21.r11 : List Oper := [
  ⟨(some 27), (.move (.tmp 0)), 30, "", #[], none⟩,
  ⟨(some 28), (.move (.tmp 8)), 3, "", #[], none⟩,
  ⟨(some 29), (.move (.tmp 4)), 3, "", #[], none⟩,
  ⟨(some 30), (.call ⟨(.value (.func 14)), #[(.tmp 29)], #[3]⟩), 26, "", #[⟨0, .chain⟩], none⟩,
  ⟨(some 31), (.build 38 #[(0, (.tmp 30)), (1, (.const (.bool true)))]), 38, "", #[], none⟩,
  ⟨(some 32), (.call ⟨(.value (.func 18)), #[(.tmp 27), (.tmp 28), (.tmp 31)], #[30, 3, 38]⟩), 4, "", #[⟨0, .chain⟩], none⟩,
  ⟨(some 9), (.assign (.tmp 32)), 4, "", #[], none⟩]
def F21.r12 : List Oper := [
  ⟨(some 33), (.move (.tmp 0)), 30, "", #[], none⟩,
  ⟨(some 34), (.move (.tmp 8)), 3, "", #[], none⟩,
  ⟨(some 35), (.move (.tmp 4)), 3, "", #[], none⟩,
  ⟨(some 36), (.call ⟨(.value (.func 14)), #[(.tmp 35)], #[3]⟩), 26, "", #[⟨0, .chain⟩], none⟩,
  ⟨(some 37), (.build 38 #[(0, (.tmp 36))]), 38, "", #[], none⟩,
  ⟨(some 38), (.call ⟨(.value (.func 18)), #[(.tmp 33), (.tmp 34), (.tmp 37)], #[30, 3, 38]⟩), 4, "", #[⟨0, .chain⟩], none⟩,
  ⟨(some 10), (.assign (.tmp 38)), 4, "", #[], none⟩]
def F21.r13 : List Oper := [
  ⟨(some 39), (.move (.tmp 9)), 4, "", #[], none⟩,
  ⟨(some 40), (.move (.tmp 39)), 4, "", #[], none⟩,
  ⟨(some 41), (.move (.tmp 10)), 4, "", #[], (some (40, true))⟩,
  ⟨(some 42), (.pick (.tmp 40) (.tmp 41) (.const (.bool false))), 4, "", #[], none⟩]
def F21.r14 : List Oper := [
  ⟨(some 2), (.assign (.const (.bool false))), 4, "", #[], none⟩]
def F21.r15 : List Oper := [
  ⟨(some 43), (.move (.tmp 9)), 4, "", #[], none⟩]
def F21.r16 : List Oper := [
  ⟨(some 44), (.move (.tmp 6)), 3, "", #[], none⟩,
  ⟨(some 45), (.binOp .add 3 (.tmp 44) (.const (.int .i64 1)) 3), 3, "", #[], none⟩,
  ⟨(some 6), (.assign (.tmp 45)), 3, "", #[], none⟩]
def F21.r17 : List Oper := [
  ⟨(some 46), (.move (.tmp 9)), 4, "", #[], none⟩,
  ⟨(some 47), (.move (.tmp 46)), 4, "", #[], none⟩,
  ⟨(some 48), (.move (.tmp 10)), 4, "", #[], (some (47, false))⟩,
  ⟨(some 49), (.pick (.tmp 47) (.const (.bool true)) (.tmp 48)), 4, "", #[], none⟩]
def F21.r18 : List Oper := [
  ⟨(some 3), (.assign (.const (.bool true))), 4, "", #[], none⟩]
def F21.r19 : List Oper := [
  ⟨(some 50), (.move (.tmp 7)), 3, "", #[], none⟩,
  ⟨(some 51), (.move (.tmp 5)), 34, "", #[], none⟩,
  ⟨(some 52), (.call ⟨(.builtin .len), #[(.tmp 51)], #[34]⟩), 3, "", #[], none⟩,
  ⟨(some 53), (.binOp .geq 3 (.tmp 50) (.tmp 52) 3), 4, "", #[], none⟩,
  ⟨(some 54), (.move (.tmp 53)), 4, "", #[], none⟩,
  ⟨(some 55), (.move (.tmp 5)), 34, "", #[], (some (54, false))⟩,
  ⟨(some 56), (.move (.tmp 7)), 3, "", #[], (some (54, false))⟩,
  ⟨(some 57), (.indexAddr 34 (.tmp 55) (.tmp 56)), 0, "", #[], (some (54, false))⟩,
  ⟨(some 58), (.load 3 (.tmp 57)), 3, "", #[⟨0, .data⟩], (some (54, false))⟩,
  ⟨(some 59), (.move (.tmp 8)), 3, "", #[], (some (54, false))⟩,
  ⟨(some 60), (.binOp .neq 3 (.tmp 58) (.tmp 59) 3), 4, "", #[], (some (54, false))⟩,
  ⟨(some 61), (.pick (.tmp 54) (.const (.bool true)) (.tmp 60)), 4, "", #[], none⟩]
def F21.r20 : List Oper := [
  ⟨(some 2), (.assign (.const (.bool false))), 4, "", #[], none⟩]
def F21.r21 : List Oper := [
  ⟨(some 62), (.move (.tmp 7)), 3, "", #[], none⟩,
  ⟨(some 63), (.binOp .add 3 (.tmp 62) (.const (.int .i64 1)) 3), 3, "", #[], none⟩,
  ⟨(some 7), (.assign (.tmp 63)), 3, "", #[], none⟩]
def F21.r10 : List Oper := [
  ⟨(some 25), (.move (.tmp 8)), 3, "", #[], none⟩,
  ⟨(some 26), (.binOp .add 3 (.tmp 25) (.const (.int .i64 1)) 3), 3, "", #[], none⟩,
  ⟨(some 8), (.assign (.tmp 26)), 3, "", #[], none⟩]
def F21.r22 : List Oper := [
  ⟨(some 64), (.move (.tmp 7)), 3, "", #[], none⟩,
  ⟨(some 65), (.move (.tmp 5)), 34, "", #[], none⟩,
  ⟨(some 66), (.call ⟨(.builtin .len), #[(.tmp 65)], #[34]⟩), 3, "", #[], none⟩,
  ⟨(some 67), (.binOp .neq 3 (.tmp 64) (.tmp 66) 3), 4, "", #[], none⟩,
  ⟨(some 68), (.move (.tmp 67)), 4, "", #[], none⟩,
  ⟨(some 69), (.move (.tmp 6)), 3, "", #[], (some (68, false))⟩,
  ⟨(some 70), (.binOp .gtr 3 (.tmp 69) (.const (.int .i64 0)) 3), 4, "", #[], (some (68, false))⟩,
  ⟨(some 71), (.move (.tmp 70)), 4, "", #[], (some (68, false))⟩,
  ⟨(some 72), (.move (.tmp 7)), 3, "", #[], (some (71, true))⟩,
  ⟨(some 73), (.binOp .neq 3 (.tmp 72) (.const (.int .i64 1)) 3), 4, "", #[], (some (71, true))⟩,
  ⟨(some 74), (.pick (.tmp 71) (.tmp 73) (.const (.bool false))), 4, "", #[], (some (68, false))⟩,
  ⟨(some 75), (.pick (.tmp 68) (.const (.bool true)) (.tmp 74)), 4, "", #[], none⟩]
def F21.r23 : List Oper := [
  ⟨(some 2), (.assign (.const (.bool false))), 4, "", #[], none⟩]
def F21.r24 : List Oper := [
  ⟨(some 76), (.move (.tmp 0)), 30, "", #[], none⟩,
  ⟨(some 77), (.move (.tmp 4)), 3, "", #[], none⟩,
  ⟨(some 78), (.call ⟨(.value (.func 14)), #[(.tmp 77)], #[3]⟩), 26, "", #[⟨0, .chain⟩], none⟩,
  ⟨(some 79), (.call ⟨(.value (.func 13)), #[(.tmp 76), (.tmp 78)], #[30, 26]⟩), 34, "", #[⟨0, .chain⟩], none⟩,
  ⟨(some 11), (.assign (.tmp 79)), 34, "", #[], none⟩]
def F21.r25 : List Oper := [
  ⟨(some 12), (.assign (.const (.int .i64 0))), 3, "", #[], none⟩]
def F21.r26 : List Oper := [
  ⟨(some 80), (.move (.tmp 12)), 3, "", #[], none⟩,
  ⟨(some 81), (.move (.tmp 11)), 34, "", #[], none⟩,
  ⟨(some 82), (.call ⟨(.builtin .len), #[(.tmp 81)], #[34]⟩), 3, "", #[], none⟩,
  ⟨(some 83), (.binOp .lss 3 (.tmp 80) (.tmp 82) 3), 4, "", #[], none⟩]
def F21.r28 : List Oper := [
  ⟨(some 87), (.move (.tmp 0)), 30, "", #[], none⟩,
  ⟨(some 88), (.move (.tmp 11)), 34, "", #[], none⟩,
  ⟨(some 89), (.move (.tmp 12)), 3, "", #[], none⟩,
  ⟨(some 90), (.indexAddr 34 (.tmp 88) (.tmp 89)), 0, "", #[], none⟩,
  ⟨(some 91), (.load 3 (.tmp 90)), 3, "", #[⟨0, .data⟩], none⟩,
  ⟨(some 92), (.call ⟨(.value (.func 15)), #[(.tmp 87), (.tmp 91)], #[30, 3]⟩), 39, "", #[⟨0, .chain⟩], none⟩,
  ⟨(some 86), (.move (.tmp 92)), 39, "", #[], none⟩,
  ⟨(some 93), (.extract (.tmp 86) 0), 38, "", #[], none⟩,
  ⟨(some 94), (.extract (.tmp 86) 1), 4, "", #[], none⟩,
  ⟨(some 13), (.alloc 38), 0, "", #[⟨0, .chain⟩], none⟩,
  ⟨none, (.store 38 (.tmp 13) (.tmp 93)), 0, "", #[⟨0, .chain⟩], none⟩,
  ⟨(some 14), (.assign (.tmp 94)), 4, "", #[], none⟩]
def F21.r29 : List Oper := [
  ⟨(some 95), (.move (.tmp 14)), 4, "", #[], none⟩,
  ⟨(some 96), (.unOp .not 4 (.tmp 95)), 4, "", #[], none⟩,
  ⟨(some 97), (.move (.tmp 96)), 4, "", #[], none⟩,
  ⟨(some 98), (.fieldAddr 38 (.tmp 13) 0), 0, "", #[], (some (97, false))⟩,
  ⟨(some 100), (.move (.tmp 4)), 3, "", #[], (some (97, false))⟩,
  ⟨(some 99), (.load 26 (.tmp 98)), 26, "", #[⟨0, .data⟩], (some (97, false))⟩,
  ⟨(some 101), (.call ⟨(.value (.func 14)), #[(.tmp 100)], #[3]⟩), 26, "", #[⟨6, .chain⟩], (some (97, false))⟩,
  ⟨(some 102), (.binOp .neq 26 (.tmp 99) (.tmp 101) 26), 4, "", #[], (some (97, false))⟩,
  ⟨(some 103), (.pick (.tmp 97) (.const (.bool true)) (.tmp 102)), 4, "", #[], none⟩]
def F21.r30 : List Oper := [
  ⟨(some 2), (.assign (.const (.bool false))), 4, "", #[], none⟩]
def F21.r31 : List Oper := [
  ⟨(some 104), (.move (.tmp 12)), 3, "", #[], none⟩,
  ⟨(some 105), (.binOp .eql 3 (.tmp 104) (.const (.int .i64 0)) 3), 4, "", #[], none⟩,
  ⟨(some 106), (.move (.tmp 105)), 4, "", #[], none⟩,
  ⟨(some 107), (.move (.tmp 7)), 3, "", #[], (some (106, true))⟩,
  ⟨(some 108), (.binOp .eql 3 (.tmp 107) (.const (.int .i64 0)) 3), 4, "", #[], (some (106, true))⟩,
  ⟨(some 109), (.move (.tmp 108)), 4, "", #[], (some (106, true))⟩,
  ⟨(some 110), (.fieldAddr 38 (.tmp 13) 1), 0, "", #[], (some (109, false))⟩,
  ⟨(some 111), (.load 4 (.tmp 110)), 4, "", #[⟨0, .data⟩], (some (109, false))⟩,
  ⟨(some 112), (.unOp .not 4 (.tmp 111)), 4, "", #[], (some (109, false))⟩,
  ⟨(some 113), (.move (.tmp 112)), 4, "", #[], (some (109, false))⟩,
  ⟨(some 114), (.move (.tmp 6)), 3, "", #[], (some (113, true))⟩,
  ⟨(some 115), (.binOp .eql 3 (.tmp 114) (.const (.int .i64 0)) 3), 4, "", #[], (some (113, true))⟩,
  ⟨(some 116), (.pick (.tmp 113) (.tmp 115) (.const (.bool false))), 4, "", #[], (some (109, false))⟩,
  ⟨(some 117), (.pick (.tmp 109) (.const (.bool true)) (.tmp 116)), 4, "", #[], (some (106, true))⟩,
  ⟨(some 118), (.pick (.tmp 106) (.tmp 117) (.const (.bool false))), 4, "", #[], none⟩]
def F21.r32 : List Oper := [
  ⟨(some 2), (.assign (.const (.bool false))), 4, "", #[], none⟩]
def F21.r27 : List Oper := [
  ⟨(some 84), (.move (.tmp 12)), 3, "", #[], none⟩,
  ⟨(some 85), (.binOp .add 3 (.tmp 84) (.const (.int .i64 1)) 3), 3, "", #[], none⟩,
  ⟨(some 12), (.assign (.tmp 85)), 3, "", #[], none⟩]
def F21.r4 : List Oper := [
  ⟨(some 17), (.move (.tmp 4)), 3, "", #[], none⟩,
  ⟨(some 18), (.binOp .add 3 (.tmp 17) (.const (.int .i64 1)) 3), 3, "", #[], none⟩,
  ⟨(some 4), (.assign (.tmp 18)), 3, "", #[], none⟩]
def F21.r33 : List Oper := [
  ⟨(some 119), (.move (.tmp 0)), 30, "", #[], none⟩,
  ⟨(some 120), (.call ⟨(.value (.func 25)), #[(.tmp 119)], #[30]⟩), 4, "", #[⟨0, .chain⟩], none⟩,
  ⟨(some 121), (.move (.tmp 3)), 4, "", #[], none⟩,
  ⟨(some 122), (.unOp .not 4 (.tmp 121)), 4, "", #[], none⟩,
  ⟨(some 123), (.binOp .eql 4 (.tmp 120) (.tmp 122) 4), 4, "", #[], none⟩,
  ⟨(some 2), (.assign (.tmp 123)), 4, "", #[], none⟩]
def F21.t21 : Cd := (.region 21 F21.r21.toArray false)
theorem F21.t21_eq {P : Program} {Q : Post} {e : FA} {w : World} {θ : Tag (F21.t21, Q, e, w)} : cwE P F21.t21 Q e w θ = cwE P (.region 21 F21.r21.toArray false) Q e w := rfl
def F21.t17 : Cd := (.seq (.region 17 F21.r17.toArray false) (.cond (.tmp 49) (.seq (.region 18 F21.r18.toArray false) (.seq (.seq (.region 19 F21.r19.toArray false) (.cond (.tmp 61) (.seq (.region 20 F21.r20.toArray false) .ret) .skip)) F21.t21)) .skip))
theorem F21.t17_eq {P : Program} {Q : Post} {e : FA} {w : World} {θ : Tag (F21.t17, Q, e, w)} : cwE P F21.t17 Q e w θ = cwE P (.seq (.region 17 F21.r17.toArray false) (.cond (.tmp 49) (.seq (.region 18 F21.r18.toArray false) (.seq (.seq (.region 19 F21.r19.toArray false) (.cond (.tmp 61) (.seq (.region 20 F21.r20.toArray false) .ret) .skip)) F21.t21)) .skip)) Q e w := rfl
def F21.t15 : Cd := (.seq (.seq (.region 15 F21.r15.toArray false) (.cond (.tmp 43) (.region 16 F21.r16.toArray false) .skip)) F21.t17)
theorem F21.t15_eq {P : Program} {Q : Post} {e : FA} {w : World} {θ : Tag (F21.t15, Q, e, w)} : cwE P F21.t15 Q e w θ = cwE P (.seq (.seq (.region 15 F21.r15.toArray false) (.cond (.tmp 43) (.region 16 F21.r16.toArray false) .skip)) F21.t17) Q e w := rfl
def F21.t10 : Cd := (.region 10 F21.r10.toArray false)
theorem F21.t10_eq {P : Program} {Q : Post} {e : FA} {w : World} {θ : Tag (F21.t10, Q, e, w)} : cwE P F21.t10 Q e w θ = cwE P (.region 10 F21.r10.toArray false) Q e w := rfl
def F21.t11 : Cd := (.seq (.block 3 (.seq (.region 11 F21.r11.toArray false) (.seq (.region 12 F21.r12.toArray false) (.seq (.seq (.region 13 F21.r13.toArray false) (.cond (.tmp 42) (.seq (.region 14 F21.r14.toArray false) .ret) .skip)) F21.t15)))) F21.t10)
theorem F21.t11_eq {P : Program} {Q : Post} {e : FA} {w : World} {θ : Tag (F21.t11, Q, e, w)} : cwE P F21.t11 Q e w θ = cwE P (.seq (.block 3 (.seq (.region 11 F21.r11.toArray false) (.seq (.region 12 F21.r12.toArray false) (.seq (.seq (.region 13 F21.r13.toArray false) (.cond (.tmp 42) (.seq (.region 14 F21.r14.toArray false) .ret) .skip)) F21.t15)))) F21.t10) Q e w := rfl
def F21.t31 : Cd := (.seq (.region 31 F21.r31.toArray false) (.cond (.tmp 118) (.seq (.region 32 F21.r32.toArray false) .ret) .skip))
theorem F21.t31_eq {P : Program} {Q : Post} {e : FA} {w : World} {θ : Tag (F21.t31, Q, e, w)} : cwE P F21.t31 Q e w θ = cwE P (.seq (.region 31 F21.r31.toArray false) (.cond (.tmp 118) (.seq (.region 32 F21.r32.toArray false) .ret) .skip)) Q e w := rfl
def F21.t27 : Cd := (.region 27 F21.r27.toArray false)
theorem F21.t27_eq {P : Program} {Q : Post} {e : FA} {w : World} {θ : Tag (F21.t27, Q, e, w)} : cwE P F21.t27 Q e w θ = cwE P (.region 27 F21.r27.toArray false) Q e w := rfl
def F21.t28 : Cd := (.seq (.block 5 (.seq (.region 28 F21.r28.toArray false) (.seq (.seq (.region 29 F21.r29.toArray true) (.cond (.tmp 103) (.seq (.region 30 F21.r30.toArray false) .ret) .skip)) F21.t31))) F21.t27)
theorem F21.t28_eq {P : Program} {Q : Post} {e : FA} {w : World} {θ : Tag (F21.t28, Q, e, w)} : cwE P F21.t28 Q e w θ = cwE P (.seq (.block 5 (.seq (.region 28 F21.r28.toArray false) (.seq (.seq (.region 29 F21.r29.toArray true) (.cond (.tmp 103) (.seq (.region 30 F21.r30.toArray false) .ret) .skip)) F21.t31))) F21.t27) Q e w := rfl
def F21.t24 : Cd := (.seq (.region 24 F21.r24.toArray false) (.seq (.region 25 F21.r25.toArray false) (.block 4 (.loop (.seq (.seq (.region 26 F21.r26.toArray false) (.cond (.tmp 83) .skip (.exit 4))) F21.t28)))))
theorem F21.t24_eq {P : Program} {Q : Post} {e : FA} {w : World} {θ : Tag (F21.t24, Q, e, w)} : cwE P F21.t24 Q e w θ = cwE P (.seq (.region 24 F21.r24.toArray false) (.seq (.region 25 F21.r25.toArray false) (.block 4 (.loop (.seq (.seq (.region 26 F21.r26.toArray false) (.cond (.tmp 83) .skip (.exit 4))) F21.t28))))) Q e w := rfl
def F21.t22 : Cd := (.seq (.seq (.region 22 F21.r22.toArray false) (.cond (.tmp 75) (.seq (.region 23 F21.r23.toArray false) .ret) .skip)) F21.t24)
theorem F21.t22_eq {P : Program} {Q : Post} {e : FA} {w : World} {θ : Tag (F21.t22, Q, e, w)} : cwE P F21.t22 Q e w θ = cwE P (.seq (.seq (.region 22 F21.r22.toArray false) (.cond (.tmp 75) (.seq (.region 23 F21.r23.toArray false) .ret) .skip)) F21.t24) Q e w := rfl
def F21.t4 : Cd := (.region 4 F21.r4.toArray false)
theorem F21.t4_eq {P : Program} {Q : Post} {e : FA} {w : World} {θ : Tag (F21.t4, Q, e, w)} : cwE P F21.t4 Q e w θ = cwE P (.region 4 F21.r4.toArray false) Q e w := rfl
def F21.t5 : Cd := (.seq (.block 1 (.seq (.region 5 F21.r5.toArray false) (.seq (.region 6 F21.r6.toArray false) (.seq (.region 7 F21.r7.toArray false) (.seq (.seq (.region 8 F21.r8.toArray false) (.block 2 (.loop (.seq (.seq (.region 9 F21.r9.toArray false) (.cond (.tmp 24) .skip (.exit 2))) F21.t11)))) F21.t22))))) F21.t4)
theorem F21.t5_eq {P : Program} {Q : Post} {e : FA} {w : World} {θ : Tag (F21.t5, Q, e, w)} : cwE P F21.t5 Q e w θ = cwE P (.seq (.block 1 (.seq (.region 5 F21.r5.toArray false) (.seq (.region 6 F21.r6.toArray false) (.seq (.region 7 F21.r7.toArray false) (.seq (.seq (.region 8 F21.r8.toArray false) (.block 2 (.loop (.seq (.seq (.region 9 F21.r9.toArray false) (.cond (.tmp 24) .skip (.exit 2))) F21.t11)))) F21.t22))))) F21.t4) Q e w := rfl
def F21.t33 : Cd := (.seq (.region 33 F21.r33.toArray false) .ret)
theorem F21.t33_eq {P : Program} {Q : Post} {e : FA} {w : World} {θ : Tag (F21.t33, Q, e, w)} : cwE P F21.t33 Q e w θ = cwE P (.seq (.region 33 F21.r33.toArray false) .ret) Q e w := rfl
def F21.code : Cd := (.seq (.region 0 F21.r0.toArray false) (.seq (.region 1 F21.r1.toArray false) (.seq (.seq (.region 2 F21.r2.toArray false) (.block 0 (.loop (.seq (.seq (.region 3 F21.r3.toArray false) (.cond (.tmp 16) .skip (.exit 0))) F21.t5)))) F21.t33)))
theorem F21.calls {args : Array Value} {w : World} {R : Ending → World → Prop} (hn : args.size ≤ 124) (h : cwE Try.prog F21.code (fnP Try.prog #[(.tmp 2)] R) (entry args) w) : Calls Try.prog 21 args w R :=
  calls_of_cwE (types := Try.prog.types) follows Try.func21 F21.code rfl (by kernel_rfl) hn h

def F22.r0 : List Oper := [
  ⟨(some 4), (.assign (.const (.slice none 0 0))), 33, "", #[], none⟩]
def F22.r1 : List Oper := [
  ⟨(some 5), (.assign (.const (.slice none 0 0))), 33, "", #[], none⟩]
def F22.r2 : List Oper := [
  ⟨(some 9), (.move (.tmp 0)), 30, "", #[], none⟩,
  ⟨(some 10), (.nilCheck (.tmp 9)), 0, "", #[], none⟩,
  ⟨(some 11), (.fieldAddr 66 (.tmp 10) 0), 0, "", #[], none⟩,
  ⟨(some 12), (.load 63 (.tmp 11)), 63, "", #[⟨0, .data⟩], none⟩,
  ⟨(some 13), (.range 63 (.tmp 12)), 0, "", #[⟨0, .chain⟩], none⟩]
def F22.r3 : List Oper := [
  ⟨(some 14), (.next (.tmp 13) false), 0, "", #[⟨0, .chain⟩], none⟩,
  ⟨(some 15), (.extract (.tmp 14) 0), 4, "", #[], none⟩]
def F22.r4 : List Oper := [
  ⟨(some 16), (.entry (.tmp 13)), 0, "", #[⟨0, .data⟩], none⟩,
  ⟨(some 17), (.extract (.tmp 16) 0), 26, "", #[], none⟩,
  ⟨(some 18), (.extract (.tmp 16) 1), 67, "", #[], none⟩,
  ⟨(some 6), (.alloc 26), 0, "", #[⟨0, .chain⟩], none⟩,
  ⟨none, (.store 26 (.tmp 6) (.tmp 17)), 0, "", #[⟨0, .chain⟩], none⟩,
  ⟨(some 7), (.assign (.tmp 18)), 67, "", #[], none⟩]
def F22.r5 : List Oper := [
  ⟨(some 19), (.move (.tmp 7)), 67, "", #[], none⟩,
  ⟨(some 20), (.move (.tmp 1)), 3, "", #[], none⟩,
  ⟨(some 21), (.call ⟨(.value (.func 35)), #[(.tmp 19), (.tmp 20)], #[67, 3]⟩), 3, "", #[⟨0, .chain⟩], none⟩,
  ⟨(some 8), (.assign (.tmp 21)), 3, "", #[], none⟩]
def F22.r6 : List Oper := [
  ⟨(some 22), (.move (.tmp 8)), 3, "", #[], none⟩,
  ⟨(some 23), (.binOp .geq 3 (.tmp 22) (.const (.int .i64 0)) 3), 4, "", #[], none⟩]
def F22.r7 : List Oper := [
  ⟨(some 24), (.move (.tmp 5)), 33, "", #[], none⟩,
  ⟨(some 26), (.move (.tmp 7)), 67, "", #[], none⟩,
  ⟨(some 27), (.nilCheck (.tmp 26)), 0, "", #[], none⟩,
  ⟨(some 28), (.fieldAddr 71 (.tmp 27) 0), 0, "", #[], none⟩,
  ⟨(some 30), (.move (.tmp 8)), 3, "", #[], none⟩,
  ⟨(some 25), (.load 26 (.tmp 6)), 26, "", #[⟨6144, .data⟩], none⟩,
  ⟨(some 29), (.load 69 (.tmp 28)), 69, "", #[⟨6144, .data⟩], none⟩,
  ⟨(some 31), (.indexAddr 69 (.tmp 29) (.tmp 30)), 0, "", #[], none⟩,
  ⟨(some 32), (.fieldAddr 74 (.tmp 31) 1), 0, "", #[], none⟩,
  ⟨(some 33), (.load 4 (.tmp 32)), 4, "", #[⟨6144, .data⟩], none⟩,
  ⟨(some 34), (.build 38 #[(0, (.tmp 25)), (1, (.tmp 33))]), 38, "", #[], none⟩,
  ⟨(some 35), (.buildSlice 33 1 #[(0, (.tmp 34))]), 33, "", #[⟨11, .chain⟩], none⟩,
  ⟨(some 36), (.call ⟨(.builtin .append), #[(.tmp 24), (.tmp 35)], #[33, 33]⟩), 33, "", #[⟨12, .chain⟩], none⟩,
  ⟨(some 5), (.assign (.tmp 36)), 33, "", #[], none⟩]
def F22.r8 : List Oper := [
  ⟨(some 37), (.move (.tmp 5)), 33, "", #[], none⟩,
  ⟨(some 38), (.call ⟨(.value (.func 36)), #[(.tmp 37), (.func 37)], #[33, 76]⟩), 0, "", #[⟨0, .chain⟩], none⟩]
def F22.r9 : List Oper := [
  ⟨(some 39), (.move (.tmp 5)), 33, "", #[], none⟩,
  ⟨(some 4), (.assign (.tmp 39)), 33, "", #[], none⟩]
def F22.t4 : Cd := (.block 1 (.seq (.region 4 F22.r4.toArray false) (.seq (.region 5 F22.r5.toArray false) (.seq (.region 6 F22.r6.toArray false) (.cond (.tmp 23) (.region 7 F22.r7.toArray true) .skip)))))
theorem F22.t4_eq {P : Program} {Q : Post} {e : FA} {w : World} {θ : Tag (F22.t4, Q, e, w)} : cwE P F22.t4 Q e w θ = cwE P (.block 1 (.seq (.region 4 F22.r4.toArray false) (.seq (.region 5 F22.r5.toArray false) (.seq (.region 6 F22.r6.toArray false) (.cond (.tmp 23) (.region 7 F22.r7.toArray true) .skip))))) Q e w := rfl
def F22.t8 : Cd := (.seq (.region 8 F22.r8.toArray false) (.seq (.region 9 F22.r9.toArray false) .ret))
theorem F22.t8_eq {P : Program} {Q : Post} {e : FA} {w : World} {θ : Tag (F22.t8, Q, e, w)} : cwE P F22.t8 Q e w θ = cwE P (.seq (.region 8 F22.r8.toArray false) (.seq (.region 9 F22.r9.toArray false) .ret)) Q e w := rfl
def F22.code : Cd := (.seq (.region 0 F22.r0.toArray false) (.seq (.region 1 F22.r1.toArray false) (.seq (.seq (.region 2 F22.r2.toArray false) (.block 0 (.loop (.seq (.region 3 F22.r3.toArray false) (.seq (.cond (.tmp 15) .skip (.exit 0)) F22.t4))))) F22.t8)))
theorem F22.calls {args : Array Value} {w : World} {R : Ending → World → Prop} (hn : args.size ≤ 40) (h : cwE Try.prog F22.code (fnP Try.prog #[(.tmp 4)] R) (entry args) w) : Calls Try.prog 22 args w R :=
  calls_of_cwE (types := Try.prog.types) follows Try.func22 F22.code rfl (by kernel_rfl) hn h

def F23.r0 : List Oper := [
  ⟨(some 2), (.assign (.const (.slice none 0 0))), 34, "", #[], none⟩]
def F23.r1 : List Oper := [
  ⟨(some 6), (.move (.tmp 0)), 30, "", #[], none⟩,
  ⟨(some 7), (.call ⟨(.value (.func 38)), #[(.tmp 6)], #[30]⟩), 30, "", #[⟨0, .chain⟩], none⟩,
  ⟨(some 3), (.assign (.tmp 7)), 30, "", #[], none⟩]
def F23.r2 : List Oper := [
  ⟨(some 9), (.move (.tmp 3)), 30, "", #[], none⟩,
  ⟨(some 10), (.call ⟨(.value (.func 39)), #[(.tmp 9)], #[30]⟩), 77, "", #[⟨0, .chain⟩], none⟩,
  ⟨(some 8), (.move (.tmp 10)), 77, "", #[], none⟩,
  ⟨(some 11), (.extract (.tmp 8) 0), 3, "", #[], none⟩,
  ⟨(some 12), (.extract (.tmp 8) 1), 4, "", #[], none⟩,
  ⟨(some 4), (.assign (.tmp 11)), 3, "", #[], none⟩,
  ⟨(some 5), (.assign (.tmp 12)), 4, "", #[], none⟩]
def F23.r3 : List Oper := [
  ⟨(some 13), (.move (.tmp 5)), 4, "", #[], none⟩]
def F23.r5 : List Oper := [
  ⟨(some 19), (.move (.tmp 3)), 30, "", #[], none⟩,
  ⟨(some 20), (.move (.tmp 4)), 3, "", #[], none⟩,
  ⟨(some 21), (.call ⟨(.value (.func 24)), #[(.tmp 19), (.tmp 20)], #[30, 3]⟩), 34, "", #[⟨0, .chain⟩], none⟩]
def F23.r4 : List Oper := [
  ⟨(some 15), (.move (.tmp 3)), 30, "", #[], none⟩,
  ⟨(some 16), (.call ⟨(.value (.func 39)), #[(.tmp 15)], #[30]⟩), 77, "", #[⟨0, .chain⟩], none⟩,
  ⟨(some 14), (.move (.tmp 16)), 77, "", #[], none⟩,
  ⟨(some 17), (.extract (.tmp 14) 0), 3, "", #[], none⟩,
  ⟨(some 18), (.extract (.tmp 14) 1), 4, "", #[], none⟩,
  ⟨(some 4), (.assign (.tmp 17)), 3, "", #[], none⟩,
  ⟨(some 5), (.assign (.tmp 18)), 4, "", #[], none⟩]
def F23.r6 : List Oper := [
  ⟨(some 22), (.move (.tmp 3)), 30, "", #[], none⟩,
  ⟨(some 23), (.nilCheck (.tmp 22)), 0, "", #[], none⟩,
  ⟨(some 24), (.fieldAddr 66 (.tmp 23) 1), 0, "", #[], none⟩,
  ⟨(some 25), (.load 64 (.tmp 24)), 64, "", #[⟨0, .data⟩], none⟩,
  ⟨(some 26), (.call ⟨(.value (.func 41)), #[(.tmp 25)], #[64]⟩), 81, "", #[⟨0, .chain⟩], none⟩,
  ⟨(some 27), (.call ⟨(.value (.func 40)), #[(.tmp 26)], #[81]⟩), 34, "", #[⟨0, .chain⟩], none⟩,
  ⟨(some 2), (.assign (.tmp 27)), 34, "", #[], none⟩]
def F23.t4 : Cd := (.region 4 F23.r4.toArray false)
theorem F23.t4_eq {P : Program} {Q : Post} {e : FA} {w : World} {θ : Tag (F23.t4, Q, e, w)} : cwE P F23.t4 Q e w θ = cwE P (.region 4 F23.r4.toArray false) Q e w := rfl
def F23.t5 : Cd := (.seq (.block 1 (.region 5 F23.r5.toArray false)) F23.t4)
theorem F23.t5_eq {P : Program} {Q : Post} {e : FA} {w : World} {θ : Tag (F23.t5, Q, e, w)} : cwE P F23.t5 Q e w θ = cwE P (.seq (.block 1 (.region 5 F23.r5.toArray false)) F23.t4) Q e w := rfl
def F23.t6 : Cd := (.seq (.region 6 F23.r6.toArray false) .ret)
theorem F23.t6_eq {P : Program} {Q : Post} {e : FA} {w : World} {θ : Tag (F23.t6, Q, e, w)} : cwE P F23.t6 Q e w θ = cwE P (.seq (.region 6 F23.r6.toArray false) .ret) Q e w := rfl
def F23.code : Cd := (.seq (.region 0 F23.r0.toArray false) (.seq (.region 1 F23.r1.toArray false) (.seq (.seq (.region 2 F23.r2.toArray false) (.block 0 (.loop (.seq (.seq (.region 3 F23.r3.toArray false) (.cond (.tmp 13) .skip (.exit 0))) F23.t5)))) F23.t6)))
theorem F23.calls {args : Array Value} {w : World} {R : Ending → World → Prop} (hn : args.size ≤ 28) (h : cwE Try.prog F23.code (fnP Try.prog #[(.tmp 2)] R) (entry args) w) : Calls Try.prog 23 args w R :=
  calls_of_cwE (types := Try.prog.types) follows Try.func23 F23.code rfl (by kernel_rfl) hn h

def F24.r0 : List Oper := [
  ⟨(some 3), (.box 3 (.tmp 1)), 0, "", #[⟨0, .chain⟩], none⟩,
  ⟨(some 4), (.assign (.const (.slice none 0 0))), 34, "", #[], none⟩]
def F24.r1 : List Oper := [
  ⟨(some 5), (.assign (.const (.slice none 0 0))), 34, "", #[], none⟩]
def F24.r2 : List Oper := [
  ⟨(some 14), (.move (.tmp 0)), 30, "", #[], none⟩,
  ⟨(some 15), (.nilCheck (.tmp 14)), 0, "", #[], none⟩,
  ⟨(some 16), (.fieldAddr 66 (.tmp 15) 1), 0, "", #[], none⟩,
  ⟨(some 17), (.load 64 (.tmp 16)), 64, "", #[⟨1024, .data⟩], none⟩,
  ⟨(some 18), (.load 3 (.tmp 3)), 3, "", #[⟨1024, .data⟩], none⟩,
  ⟨(some 19), (.lookup 64 (.tmp 17) (.tmp 18) true), 39, "", #[⟨1024, .data⟩], none⟩,
  ⟨(some 13), (.move (.tmp 19)), 39, "", #[], none⟩,
  ⟨(some 20), (.extract (.tmp 13) 0), 38, "", #[], none⟩,
  ⟨(some 21), (.extract (.tmp 13) 1), 4, "", #[], none⟩,
  ⟨(some 6), (.alloc 38), 0, "", #[⟨9, .chain⟩], none⟩,
  ⟨none, (.store 38 (.tmp 6) (.tmp 20)), 0, "", #[⟨10, .chain⟩], none⟩,
  ⟨(some 7), (.assign (.tmp 21)), 4, "", #[], none⟩]
def F24.r3 : List Oper := [
  ⟨(some 22), (.move (.tmp 7)), 4, "", #[], none⟩]
def F24.r4 : List Oper := [
  ⟨(some 23), (.move (.tmp 0)), 30, "", #[], none⟩,
  ⟨(some 24), (.nilCheck (.tmp 23)), 0, "", #[], none⟩,
  ⟨(some 25), (.fieldAddr 66 (.tmp 24) 0), 0, "", #[], none⟩,
  ⟨(some 27), (.fieldAddr 38 (.tmp 6) 0), 0, "", #[], none⟩,
  ⟨(some 26), (.load 63 (.tmp 25)), 63, "", #[⟨0, .data⟩], none⟩,
  ⟨(some 28), (.load 26 (.tmp 27)), 26, "", #[⟨0, .data⟩], none⟩,
  ⟨(some 29), (.lookup 63 (.tmp 26) (.tmp 28) false), 67, "", #[⟨0, .data⟩], none⟩,
  ⟨(some 8), (.assign (.tmp 29)), 67, "", #[], none⟩]
def F24.r5 : List Oper := [
  ⟨(some 30), (.move (.tmp 8)), 67, "", #[], none⟩,
  ⟨(some 31), (.move (.tmp 8)), 67, "", #[], none⟩,
  ⟨(some 32), (.nilCheck (.tmp 31)), 0, "", #[], none⟩,
  ⟨(some 33), (.fieldAddr 71 (.tmp 32) 1), 0, "", #[], none⟩,
  ⟨(some 34), (.load 69 (.tmp 33)), 69, "", #[⟨0, .data⟩], none⟩,
  ⟨(some 35), (.makeFunc (.func 43) #[] #[(.tmp 3)]), 84, "", #[], none⟩,
  ⟨(some 36), (.call ⟨(.value (.func 42)), #[(.tmp 34), (.tmp 35)], #[69, 84]⟩), 69, "", #[⟨0, .chain⟩], none⟩,
  ⟨(some 37), (.nilCheck (.tmp 30)), 0, "", #[], none⟩,
  ⟨(some 38), (.fieldAddr 71 (.tmp 37) 1), 0, "", #[], none⟩,
  ⟨none, (.store 69 (.tmp 38) (.tmp 36)), 0, "", #[⟨0, .chain⟩], none⟩]
def F24.r6 : List Oper := [
  ⟨(some 39), (.move (.tmp 0)), 30, "", #[], none⟩,
  ⟨(some 40), (.nilCheck (.tmp 39)), 0, "", #[], none⟩,
  ⟨(some 41), (.fieldAddr 66 (.tmp 40) 1), 0, "", #[], none⟩,
  ⟨(some 42), (.load 64 (.tmp 41)), 64, "", #[⟨32, .data⟩], none⟩,
  ⟨(some 43), (.load 3 (.tmp 3)), 3, "", #[⟨32, .data⟩], none⟩,
  ⟨none, (.call ⟨(.builtin .delete), #[(.tmp 42), (.tmp 43)], #[64, 3]⟩), 0, "", #[⟨5, .chain⟩], none⟩]
def F24.r7 : List Oper := [
  ⟨(some 44), (.move (.tmp 0)), 30, "", #[], none⟩,
  ⟨(some 45), (.fieldAddr 38 (.tmp 6) 0), 0, "", #[], none⟩,
  ⟨(some 46), (.load 26 (.tmp 45)), 26, "", #[⟨0, .data⟩], none⟩,
  ⟨(some 47), (.call ⟨(.value (.func 44)), #[(.tmp 44), (.tmp 46)], #[30, 26]⟩), 34, "", #[⟨0, .chain⟩], none⟩,
  ⟨(some 5), (.assign (.tmp 47)), 34, "", #[], none⟩]
def F24.r8 : List Oper := [
  ⟨(some 48), (.move (.tmp 0)), 30, "", #[], none⟩,
  ⟨(some 49), (.load 3 (.tmp 3)), 3, "", #[⟨0, .data⟩], none⟩,
  ⟨(some 50), (.call ⟨(.value (.func 22)), #[(.tmp 48), (.tmp 49)], #[30, 3]⟩), 33, "", #[⟨0, .chain⟩], none⟩,
  ⟨(some 51), (.call ⟨(.builtin .len), #[(.tmp 50)], #[33]⟩), 3, "", #[], none⟩,
  ⟨(some 52), (.move (.const (.int .i64 0))), 3, "", #[], none⟩]
def F24.r9 : List Oper := [
  ⟨(some 53), (.binOp .lss 3 (.tmp 52) (.tmp 51) 3), 0, "", #[], none⟩]
def F24.r10 : List Oper := [
  ⟨(some 54), (.indexAddr 33 (.tmp 50) (.tmp 52)), 0, "", #[], none⟩,
  ⟨(some 55), (.load 38 (.tmp 54)), 38, "", #[⟨0, .data⟩], none⟩,
  ⟨(some 10), (.alloc 38), 0, "", #[⟨0, .chain⟩], none⟩,
  ⟨none, (.store 38 (.tmp 10) (.tmp 55)), 0, "", #[⟨0, .chain⟩], none⟩]
def F24.r11 : List Oper := [
  ⟨(some 57), (.move (.tmp 0)), 30, "", #[], none⟩,
  ⟨(some 58), (.load 3 (.tmp 3)), 3, "", #[⟨0, .data⟩], none⟩,
  ⟨(some 59), (.fieldAddr 38 (.tmp 10) 0), 0, "", #[], none⟩,
  ⟨(some 60), (.load 26 (.tmp 59)), 26, "", #[⟨0, .data⟩], none⟩,
  ⟨(some 61), (.call ⟨(.value (.func 28)), #[(.tmp 57), (.tmp 58), (.tmp 60)], #[30, 3, 26]⟩), 58, "", #[⟨0, .chain⟩], none⟩,
  ⟨(some 56), (.move (.tmp 61)), 58, "", #[], none⟩,
  ⟨(some 62), (.extract (.tmp 56) 0), 34, "", #[], none⟩,
  ⟨(some 63), (.extract (.tmp 56) 1), 55, "", #[], none⟩,
  ⟨(some 11), (.assign (.tmp 62)), 34, "", #[], none⟩,
  ⟨(some 12), (.assign (.tmp 63)), 55, "", #[], none⟩]
def F24.r12 : List Oper := [
  ⟨(some 64), (.move (.tmp 5)), 34, "", #[], none⟩,
  ⟨(some 65), (.move (.tmp 11)), 34, "", #[], none⟩,
  ⟨(some 66), (.call ⟨(.builtin .append), #[(.tmp 64), (.tmp 65)], #[34, 34]⟩), 34, "", #[⟨0, .chain⟩], none⟩,
  ⟨(some 5), (.assign (.tmp 66)), 34, "", #[], none⟩]
def F24.r13 : List Oper := [
  ⟨(some 67), (.binOp .add 3 (.tmp 52) (.const (.int .i64 1)) 3), 3, "", #[], none⟩,
  ⟨(some 52), (.move (.tmp 67)), 3, "", #[], none⟩]
def F24.r14 : List Oper := [
  ⟨(some 68), (.move (.tmp 5)), 34, "", #[], none⟩,
  ⟨(some 4), (.assign (.tmp 68)), 34, "", #[], none⟩]
def F24.t13 : Cd := (.region 13 F24.r13.toArray false)
theorem F24.t13_eq {P : Program} {Q : Post} {e : FA} {w : World} {θ : Tag (F24.t13, Q, e, w)} : cwE P F24.t13 Q e w θ = cwE P (.region 13 F24.r13.toArray false) Q e w := rfl
def F24.t10 : Cd := (.seq (.block 1 (.seq (.region 10 F24.r10.toArray false) (.seq (.region 11 F24.r11.toArray false) (.region 12 F24.r12.toArray false)))) F24.t13)
theorem F24.t10_eq {P : Program} {Q : Post} {e : FA} {w : World} {θ : Tag (F24.t10, Q, e, w)} : cwE P F24.t10 Q e w θ = cwE P (.seq (.block 1 (.seq (.region 10 F24.r10.toArray false) (.seq (.region 11 F24.r11.toArray false) (.region 12 F24.r12.toArray false)))) F24.t13) Q e w := rfl
def F24.t14 : Cd := (.seq (.region 14 F24.r14.toArray false) .ret)
theorem F24.t14_eq {P : Program} {Q : Post} {e : FA} {w : World} {θ : Tag (F24.t14, Q, e, w)} : cwE P F24.t14 Q e w θ = cwE P (.seq (.region 14 F24.r14.toArray false) .ret) Q e w := rfl
def F24.t8 : Cd := (.seq (.seq (.region 8 F24.r8.toArray false) (.block 0 (.loop (.seq (.region 9 F24.r9.toArray false) (.seq (.cond (.tmp 53) .skip (.exit 0)) F24.t10))))) F24.t14)
theorem F24.t8_eq {P : Program} {Q : Post} {e : FA} {w : World} {θ : Tag (F24.t8, Q, e, w)} : cwE P F24.t8 Q e w θ = cwE P (.seq (.seq (.region 8 F24.r8.toArray false) (.block 0 (.loop (.seq (.region 9 F24.r9.toArray false) (.seq (.cond (.tmp 53) .skip (.exit 0)) F24.t10))))) F24.t14) Q e w := rfl
def F24.code : Cd := (.seq (.region 0 F24.r0.toArray false) (.seq (.region 1 F24.r1.toArray false) (.seq (.seq (.region 2 F24.r2.toArray true) (.seq (.region 3 F24.r3.toArray false) (.cond (.tmp 22) (.seq (.region 4 F24.r4.toArray true) (.seq (.region 5 F24.r5.toArray false) (.seq (.region 6 F24.r6.toArray true) (.region 7 F24.r7.toArray false)))) .skip))) F24.t8)))
theorem F24.calls {args : Array Value} {w : World} {R : Ending → World → Prop} (hn : args.size ≤ 69) (h : cwE Try.prog F24.code (fnP Try.prog #[(.tmp 4)] R) (entry args) w) : Calls Try.prog 24 args w R :=
  calls_of_cwE (types := Try.prog.types) follows Try.func24 F24.code rfl (by kernel_rfl) hn h

def F25.r0 : List Oper := [
  ⟨(some 2), (.assign (.const (.bool false))), 4, "", #[], none⟩]
def F25.r1 : List Oper := [
  ⟨(some 3), (.move (.tmp 0)), 30, "", #[], none⟩,
  ⟨(some 4), (.nilCheck (.tmp 3)), 0, "", #[], none⟩,
  ⟨(some 5), (.fieldAddr 66 (.tmp 4) 0), 0, "", #[], none⟩,
  ⟨(some 6), (.load 63 (.tmp 5)), 63, "", #[⟨0, .data⟩], none⟩,
  ⟨(some 7), (.call ⟨(.builtin .len), #[(.tmp 6)], #[63]⟩), 3, "", #[⟨0, .data⟩], none⟩,
  ⟨(some 8), (.binOp .eql 3 (.tmp 7) (.const (.int .i64 0)) 3), 4, "", #[], none⟩,
  ⟨(some 2), (.assign (.tmp 8)), 4, "", #[], none⟩]
def F25.code : Cd := (.seq (.region 0 F25.r0.toArray false) (.seq (.region 1 F25.r1.toArray false) .ret))
theorem F25.calls {args : Array Value} {w : World} {R : Ending → World → Prop} (hn : args.size ≤ 9) (h : cwE Try.prog F25.code (fnP Try.prog #[(.tmp 2)] R) (entry args) w) : Calls Try.prog 25 args w R :=
  calls_of_cwE (types := Try.prog.types) follows Try.func25 F25.code rfl (by kernel_rfl) hn h

def F26.r0 : List Oper := [
  ⟨(some 6), (.assign (.const (.bool false))), 4, "", #[], none⟩]
def F26.r1 : List Oper := [
  ⟨(some 7), (.assign (.const (.int .i64 0))), 3, "", #[], none⟩]
def F26.r2 : List Oper := [
  ⟨(some 8), (.move (.tmp 7)), 3, "", #[], none⟩,
  ⟨(some 9), (.move (.tmp 0)), 34, "", #[], none⟩,
  ⟨(some 10), (.call ⟨(.builtin .len), #[(.tmp 9)], #[34]⟩), 3, "", #[], none⟩,
  ⟨(some 11), (.binOp .lss 3 (.tmp 8) (.tmp 10) 3), 4, "", #[], none⟩]
def F26.r4 : List Oper := [
  ⟨(some 14), (.move (.tmp 0)), 34, "", #[], none⟩,
  ⟨(some 15), (.move (.tmp 7)), 3, "", #[], none⟩,
  ⟨(some 16), (.indexAddr 34 (.tmp 14) (.tmp 15)), 0, "", #[], none⟩,
  ⟨(some 17), (.load 3 (.tmp 16)), 3, "", #[⟨0, .data⟩], none⟩,
  ⟨(some 18), (.move (.tmp 2)), 3, "", #[], none⟩,
  ⟨(some 19), (.binOp .eql 3 (.tmp 17) (.tmp 18) 3), 4, "", #[], none⟩]
def F26.r5 : List Oper := [
  ⟨(some 6), (.assign (.const (.bool false))), 4, "", #[], none⟩]
def F26.r6 : List Oper := [
  ⟨(some 20), (.move (.tmp 0)), 34, "", #[], none⟩,
  ⟨(some 21), (.move (.tmp 7)), 3, "", #[], none⟩,
  ⟨(some 22), (.indexAddr 34 (.tmp 20) (.tmp 21)), 0, "", #[], none⟩,
  ⟨(some 23), (.load 3 (.tmp 22)), 3, "", #[⟨0, .data⟩], none⟩,
  ⟨(some 24), (.move (.tmp 1)), 3, "", #[], none⟩,
  ⟨(some 25), (.binOp .eql 3 (.tmp 23) (.tmp 24) 3), 4, "", #[], none⟩]
def F26.r7 : List Oper := [
  ⟨(some 6), (.assign (.const (.bool true))), 4, "", #[], none⟩]
def F26.r3 : List Oper := [
  ⟨(some 12), (.move (.tmp 7)), 3, "", #[], none⟩,
  ⟨(some 13), (.binOp .add 3 (.tmp 12) (.const (.int .i64 1)) 3), 3, "", #[], none⟩,
  ⟨(some 7), (.assign (.tmp 13)), 3, "", #[], none⟩]
def F26.r8 : List Oper := [
  ⟨(some 6), (.assign (.const (.bool false))), 4, "", #[], none⟩]
def F26.t6 : Cd := (.seq (.region 6 F26.r6.toArray false) (.cond (.tmp 25) (.seq (.region 7 F26.r7.toArray false) .ret) .skip))
theorem F26.t6_eq {P : Program} {Q : Post} {e : FA} {w : World} {θ : Tag (F26.t6, Q, e, w)} : cwE P F26.t6 Q e w θ = cwE P (.seq (.region 6 F26.r6.toArray false) (.cond (.tmp 25) (.seq (.region 7 F26.r7.toArray false) .ret) .skip)) Q e w := rfl
def F26.t3 : Cd := (.region 3 F26.r3.toArray false)
theorem F26.t3_eq {P : Program} {Q : Post} {e : FA} {w : World} {θ : Tag (F26.t3, Q, e, w)} : cwE P F26.t3 Q e w θ = cwE P (.region 3 F26.r3.toArray false) Q e w := rfl
def F26.t4 : Cd := (.seq (.block 1 (.seq (.seq (.region 4 F26.r4.toArray false) (.cond (.tmp 19) (.seq (.region 5 F26.r5.toArray false) .ret) .skip)) F26.t6)) F26.t3)
theorem F26.t4_eq {P : Program} {Q : Post} {e : FA} {w : World} {θ : Tag (F26.t4, Q, e, w)} : cwE P F26.t4 Q e w θ = cwE P (.seq (.block 1 (.seq (.seq (.region 4 F26.r4.toArray false) (.cond (.tmp 19) (.seq (.region 5 F26.r5.toArray false) .ret) .skip)) F26.t6)) F26.t3) Q e w := rfl
def F26.t8 : Cd := (.seq (.region 8 F26.r8.toArray false) .ret)
theorem F26.t8_eq {P : Program} {Q : Post} {e : FA} {w : World} {θ : Tag (F26.t8, Q, e, w)} : cwE P F26.t8 Q e w θ = cwE P (.seq (.region 8 F26.r8.toArray false) .ret) Q e w := rfl
def F26.code : Cd := (.seq (.region 0 F26.r0.toArray false) (.seq (.seq (.region 1 F26.r1.toArray false) (.block 0 (.loop (.seq (.seq (.region 2 F26.r2.toArray false) (.cond (.tmp 11) .skip (.exit 0))) F26.t4)))) F26.t8))
theorem F26.calls {args : Array Value} {w : World} {R : Ending → World → Prop} (hn : args.size ≤ 26) (h : cwE Try.prog F26.code (fnP Try.prog #[(.tmp 6)] R) (entry args) w) : Calls Try.prog 26 args w R :=
  calls_of_cwE (types := Try.prog.types) follows Try.func26 F26.code rfl (by kernel_rfl) hn h

def F27.r0 : List Oper := [
  ⟨(some 5), (.box 38 (.tmp 2)), 0, "", #[⟨0, .chain⟩], none⟩,
  ⟨(some 6), (.assign (.const (.bool false))), 4, "", #[], none⟩,
  ⟨(some 7), (.assign (.const (.int .i64 0))), 55, "", #[], none⟩]
def F27.r1 : List Oper := [
  ⟨(some 13), (.move (.tmp 0)), 30, "", #[], none⟩,
  ⟨(some 14), (.nilCheck (.tmp 13)), 0, "", #[], none⟩,
  ⟨(some 15), (.fieldAddr 66 (.tmp 14) 1), 0, "", #[], none⟩,
  ⟨(some 16), (.load 64 (.tmp 15)), 64, "", #[⟨0, .data⟩], none⟩,
  ⟨(some 17), (.move (.tmp 1)), 3, "", #[], none⟩,
  ⟨(some 18), (.lookup 64 (.tmp 16) (.tmp 17) true), 39, "", #[⟨0, .data⟩], none⟩,
  ⟨(some 12), (.move (.tmp 18)), 39, "", #[], none⟩,
  ⟨(some 19), (.extract (.tmp 12) 0), 38, "", #[], none⟩,
  ⟨(some 20), (.extract (.tmp 12) 1), 4, "", #[], none⟩,
  ⟨(some 8), (.alloc 38), 0, "", #[⟨0, .chain⟩], none⟩,
  ⟨none, (.store 38 (.tmp 8) (.tmp 19)), 0, "", #[⟨0, .chain⟩], none⟩,
  ⟨(some 9), (.assign (.tmp 20)), 4, "", #[], none⟩]
def F27.r2 : List Oper := [
  ⟨(some 21), (.move (.tmp 9)), 4, "", #[], none⟩]
def F27.r3 : List Oper := [
  ⟨(some 6), (.assign (.const (.bool false))), 4, "", #[], none⟩,
  ⟨(some 7), (.assign (.const (.int .i64 131))), 55, "", #[], none⟩]
def F27.r4 : List Oper := [
  ⟨(some 22), (.move (.tmp 0)), 30, "", #[], none⟩,
  ⟨(some 23), (.nilCheck (.tmp 22)), 0, "", #[], none⟩,
  ⟨(some 24), (.fieldAddr 66 (.tmp 23) 0), 0, "", #[], none⟩,
  ⟨(some 26), (.fieldAddr 38 (.tmp 5) 0), 0, "", #[], none⟩,
  ⟨(some 25), (.load 63 (.tmp 24)), 63, "", #[⟨0, .data⟩], none⟩,
  ⟨(some 27), (.load 26 (.tmp 26)), 26, "", #[⟨0, .data⟩], none⟩,
  ⟨(some 28), (.lookup 63 (.tmp 25) (.tmp 27) false), 67, "", #[⟨0, .data⟩], none⟩,
  ⟨(some 10), (.assign (.tmp 28)), 67, "", #[], none⟩]
def F27.r5 : List Oper := [
  ⟨(some 29), (.move (.tmp 10)), 67, "", #[], none⟩,
  ⟨(some 30), (.binOp .eql 67 (.tmp 29) (.const (.pointer none)) 67), 4, "", #[], none⟩]
def F27.r6 : List Oper := [
  ⟨(some 31), (.build 71 #[]), 71, "", #[], none⟩,
  ⟨(some 32), (.box 71 (.tmp 31)), 67, "", #[⟨0, .chain⟩], none⟩,
  ⟨(some 10), (.assign (.tmp 32)), 67, "", #[], none⟩]
def F27.r7 : List Oper := [
  ⟨(some 33), (.move (.tmp 0)), 30, "", #[], none⟩,
  ⟨(some 34), (.nilCheck (.tmp 33)), 0, "", #[], none⟩,
  ⟨(some 35), (.fieldAddr 66 (.tmp 34) 0), 0, "", #[], none⟩,
  ⟨(some 37), (.fieldAddr 38 (.tmp 5) 0), 0, "", #[], none⟩,
  ⟨(some 39), (.move (.tmp 10)), 67, "", #[], none⟩,
  ⟨(some 36), (.load 63 (.tmp 35)), 63, "", #[⟨128, .data⟩], none⟩,
  ⟨(some 38), (.load 26 (.tmp 37)), 26, "", #[⟨128, .data⟩], none⟩,
  ⟨none, (.mapUpdate 63 (.tmp 36) (.tmp 38) (.tmp 39)), 0, "", #[⟨7, .chain⟩], none⟩]
def F27.r8 : List Oper := [
  ⟨(some 40), (.move (.tmp 10)), 67, "", #[], none⟩,
  ⟨(some 41), (.move (.tmp 1)), 3, "", #[], none⟩,
  ⟨(some 42), (.call ⟨(.value (.func 35)), #[(.tmp 40), (.tmp 41)], #[67, 3]⟩), 3, "", #[⟨0, .chain⟩], none⟩,
  ⟨(some 43), (.binOp .geq 3 (.tmp 42) (.const (.int .i64 0)) 3), 4, "", #[], none⟩]
def F27.r9 : List Oper := [
  ⟨(some 6), (.assign (.const (.bool false))), 4, "", #[], none⟩,
  ⟨(some 7), (.assign (.const (.int .i64 130))), 55, "", #[], none⟩]
def F27.r10 : List Oper := [
  ⟨(some 44), (.move (.tmp 1)), 3, "", #[], none⟩,
  ⟨(some 45), (.fieldAddr 38 (.tmp 5) 1), 0, "", #[], none⟩,
  ⟨(some 46), (.load 4 (.tmp 45)), 4, "", #[⟨0, .data⟩], none⟩,
  ⟨(some 47), (.build 74 #[(0, (.tmp 44)), (1, (.tmp 46))]), 74, "", #[], none⟩,
  ⟨(some 11), (.alloc 74), 0, "", #[⟨0, .chain⟩], none⟩,
  ⟨none, (.store 74 (.tmp 11) (.tmp 47)), 0, "", #[⟨0, .chain⟩], none⟩]
def F27.r11 : List Oper := [
  ⟨(some 48), (.move (.tmp 10)), 67, "", #[], none⟩,
  ⟨(some 49), (.nilCheck (.tmp 48)), 0, "", #[], none⟩,
  ⟨(some 50), (.fieldAddr 71 (.tmp 49) 1), 0, "", #[], none⟩,
  ⟨(some 51), (.load 69 (.tmp 50)), 69, "", #[⟨0, .data⟩], none⟩,
  ⟨(some 52), (.call ⟨(.builtin .len), #[(.tmp 51)], #[69]⟩), 3, "", #[], none⟩,
  ⟨(some 53), (.binOp .eql 3 (.tmp 52) (.const (.int .i64 0)) 3), 4, "", #[], none⟩,
  ⟨(some 54), (.move (.tmp 53)), 4, "", #[], none⟩,
  ⟨(some 55), (.move (.tmp 10)), 67, "", #[], (some (54, true))⟩,
  ⟨(some 56), (.fieldAddr 38 (.tmp 5) 1), 0, "", #[], (some (54, true))⟩,
  ⟨(some 57), (.load 4 (.tmp 56)), 4, "", #[⟨0, .data⟩], (some (54, true))⟩,
  ⟨(some 58), (.call ⟨(.value (.func 45)), #[(.tmp 55), (.tmp 57)], #[67, 4]⟩), 4, "", #[⟨0, .chain⟩], (some (54, true))⟩,
  ⟨(some 59), (.pick (.tmp 54) (.tmp 58) (.const (.bool false))), 4, "", #[], none⟩]
def F27.r12 : List Oper := [
  ⟨(some 60), (.move (.tmp 10)), 67, "", #[], none⟩,
  ⟨(some 61), (.move (.tmp 10)), 67, "", #[], none⟩,
  ⟨(some 62), (.nilCheck (.tmp 61)), 0, "", #[], none⟩,
  ⟨(some 63), (.fieldAddr 71 (.tmp 62) 0), 0, "", #[], none⟩,
  ⟨(some 64), (.load 69 (.tmp 63)), 69, "", #[⟨1152, .data⟩], none⟩,
  ⟨(some 65), (.load 74 (.tmp 11)), 74, "", #[⟨1216, .data⟩], none⟩,
  ⟨(some 66), (.buildSlice 69 1 #[(0, (.tmp 65))]), 69, "", #[⟨6, .chain⟩], none⟩,
  ⟨(some 67), (.call ⟨(.builtin .append), #[(.tmp 64), (.tmp 66)], #[69, 69]⟩), 69, "", #[⟨7, .chain⟩], none⟩,
  ⟨(some 68), (.nilCheck (.tmp 60)), 0, "", #[], none⟩,
  ⟨(some 69), (.fieldAddr 71 (.tmp 68) 0), 0, "", #[], none⟩,
  ⟨none, (.store 69 (.tmp 69) (.tmp 67)), 0, "", #[⟨10, .chain⟩], none⟩]
def F27.r13 : List Oper := [
  ⟨(some 6), (.assign (.const (.bool true))), 4, "", #[], none⟩,
  ⟨(some 7), (.assign (.const (.int .i64 0))), 55, "", #[], none⟩]
def F27.r14 : List Oper := [
  ⟨(some 70), (.move (.tmp 10)), 67, "", #[], none⟩,
  ⟨(some 71), (.move (.tmp 10)), 67, "", #[], none⟩,
  ⟨(some 72), (.nilCheck (.tmp 71)), 0, "", #[], none⟩,
  ⟨(some 73), (.fieldAddr 71 (.tmp 72) 1), 0, "", #[], none⟩,
  ⟨(some 74), (.load 69 (.tmp 73)), 69, "", #[⟨1152, .data⟩], none⟩,
  ⟨(some 75), (.load 74 (.tmp 11)), 74, "", #[⟨1216, .data⟩], none⟩,
  ⟨(some 76), (.buildSlice 69 1 #[(0, (.tmp 75))]), 69, "", #[⟨6, .chain⟩], none⟩,
  ⟨(some 77), (.call ⟨(.builtin .append), #[(.tmp 74), (.tmp 76)], #[69, 69]⟩), 69, "", #[⟨7, .chain⟩], none⟩,
  ⟨(some 78), (.nilCheck (.tmp 70)), 0, "", #[], none⟩,
  ⟨(some 79), (.fieldAddr 71 (.tmp 78) 1), 0, "", #[], none⟩,
  ⟨none, (.store 69 (.tmp 79) (.tmp 77)), 0, "", #[⟨10, .chain⟩], none⟩]
def F27.r15 : List Oper := [
  ⟨(some 80), (.move (.tmp 0)), 30, "", #[], none⟩,
  ⟨(some 81), (.nilCheck (.tmp 80)), 0, "", #[], none⟩,
  ⟨(some 82), (.fieldAddr 66 (.tmp 81) 1), 0, "", #[], none⟩,
  ⟨(some 84), (.move (.tmp 1)), 3, "", #[], none⟩,
  ⟨(some 83), (.load 64 (.tmp 82)), 64, "", #[⟨64, .data⟩], none⟩,
  ⟨(some 85), (.load 38 (.tmp 5)), 38, "", #[⟨64, .data⟩], none⟩,
  ⟨none, (.mapUpdate 64 (.tmp 83) (.tmp 84) (.tmp 85)), 0, "", #[⟨6, .chain⟩], none⟩]
def F27.r16 : List Oper := [
  ⟨(some 6), (.assign (.const (.bool false))), 4, "", #[], none⟩,
  ⟨(some 7), (.assign (.const (.int .i64 0))), 55, "", #[], none⟩]
def F27.t14 : Cd := (.seq (.region 14 F27.r14.toArray true) (.seq (.region 15 F27.r15.toArray true) (.seq (.region 16 F27.r16.toArray false) .ret)))
theorem F27.t14_eq {P : Program} {Q : Post} {e : FA} {w : World} {θ : Tag (F27.t14, Q, e, w)} : cwE P F27.t14 Q e w θ = cwE P (.seq (.region 14 F27.r14.toArray true) (.seq (.region 15 F27.r15.toArray true) (.seq (.region 16 F27.r16.toArray false) .ret))) Q e w := rfl
def F27.t10 : Cd := (.seq (.region 10 F27.r10.toArray false) (.seq (.seq (.region 11 F27.r11.toArray false) (.cond (.tmp 59) (.seq (.region 12 F27.r12.toArray true) (.seq (.region 13 F27.r13.toArray false) .ret)) .skip)) F27.t14))
theorem F27.t10_eq {P : Program} {Q : Post} {e : FA} {w : World} {θ : Tag (F27.t10, Q, e, w)} : cwE P F27.t10 Q e w θ = cwE P (.seq (.region 10 F27.r10.toArray false) (.seq (.seq (.region 11 F27.r11.toArray false) (.cond (.tmp 59) (.seq (.region 12 F27.r12.toArray true) (.seq (.region 13 F27.r13.toArray false) .ret)) .skip)) F27.t14)) Q e w := rfl
def F27.t8 : Cd := (.seq (.seq (.region 8 F27.r8.toArray false) (.cond (.tmp 43) (.seq (.region 9 F27.r9.toArray false) .ret) .skip)) F27.t10)
theorem F27.t8_eq {P : Program} {Q : Post} {e : FA} {w : World} {θ : Tag (F27.t8, Q, e, w)} : cwE P F27.t8 Q e w θ = cwE P (.seq (.seq (.region 8 F27.r8.toArray false) (.cond (.tmp 43) (.seq (.region 9 F27.r9.toArray false) .ret) .skip)) F27.t10) Q e w := rfl
def F27.t4 : Cd := (.seq (.region 4 F27.r4.toArray true) (.seq (.seq (.region 5 F27.r5.toArray false) (.cond (.tmp 30) (.seq (.region 6 F27.r6.toArray false) (.region 7 F27.r7.toArray true)) .skip)) F27.t8))
theorem F27.t4_eq {P : Program} {Q : Post} {e : FA} {w : World} {θ : Tag (F27.t4, Q, e, w)} : cwE P F27.t4 Q e w θ = cwE P (.seq (.region 4 F27.r4.toArray true) (.seq (.seq (.region 5 F27.r5.toArray false) (.cond (.tmp 30) (.seq (.region 6 F27.r6.toArray false) (.region 7 F27.r7.toArray true)) .skip)) F27.t8)) Q e w := rfl
def F27.code : Cd := (.seq (.region 0 F27.r0.toArray false) (.seq (.seq (.region 1 F27.r1.toArray false) (.seq (.region 2 F27.r2.toArray false) (.cond (.tmp 21) (.seq (.region 3 F27.r3.toArray false) .ret) .skip))) F27.t4))
theorem F27.calls {args : Array Value} {w : World} {R : Ending → World → Prop} (hn : args.size ≤ 86) (h : cwE Try.prog F27.code (fnP Try.prog #[(.tmp 6), (.tmp 7)] R) (entry args) w) : Calls Try.prog 27 args w R :=
  calls_of_cwE (types := Try.prog.types) follows Try.func27 F27.code rfl (by kernel_rfl) hn h

def F28.r0 : List Oper := [
  ⟨(some 5), (.box 26 (.tmp 2)), 0, "", #[⟨0, .chain⟩], none⟩,
  ⟨(some 6), (.assign (.const (.slice none 0 0))), 34, "", #[], none⟩,
  ⟨(some 7), (.assign (.const (.int .i64 0))), 55, "", #[], none⟩]
def F28.r1 : List Oper := [
  ⟨(some 10), (.move (.tmp 0)), 30, "", #[], none⟩,
  ⟨(some 11), (.nilCheck (.tmp 10)), 0, "", #[], none⟩,
  ⟨(some 12), (.fieldAddr 66 (.tmp 11) 0), 0, "", #[], none⟩,
  ⟨(some 13), (.load 63 (.tmp 12)), 63, "", #[⟨0, .data⟩], none⟩,
  ⟨(some 14), (.load 26 (.tmp 5)), 26, "", #[⟨0, .data⟩], none⟩,
  ⟨(some 15), (.lookup 63 (.tmp 13) (.tmp 14) false), 67, "", #[⟨0, .data⟩], none⟩,
  ⟨(some 8), (.assign (.tmp 15)), 67, "", #[], none⟩]
def F28.r2 : List Oper := [
  ⟨(some 16), (.move (.tmp 8)), 67, "", #[], none⟩,
  ⟨(some 17), (.binOp .eql 67 (.tmp 16) (.const (.pointer none)) 67), 4, "", #[], none⟩]
def F28.r3 : List Oper := [
  ⟨(some 6), (.assign (.const (.slice none 0 0))), 34, "", #[], none⟩,
  ⟨(some 7), (.assign (.const (.int .i64 1))), 55, "", #[], none⟩]
def F28.r4 : List Oper := [
  ⟨(some 18), (.move (.tmp 8)), 67, "", #[], none⟩,
  ⟨(some 19), (.move (.tmp 1)), 3, "", #[], none⟩,
  ⟨(some 20), (.call ⟨(.value (.func 35)), #[(.tmp 18), (.tmp 19)], #[67, 3]⟩), 3, "", #[⟨0, .chain⟩], none⟩,
  ⟨(some 9), (.assign (.tmp 20)), 3, "", #[], none⟩]
def F28.r5 : List Oper := [
  ⟨(some 21), (.move (.tmp 9)), 3, "", #[], none⟩,
  ⟨(some 22), (.binOp .lss 3 (.tmp 21) (.const (.int .i64 0)) 3), 4, "", #[], none⟩]
def F28.r6 : List Oper := [
  ⟨(some 6), (.assign (.const (.slice none 0 0))), 34, "", #[], none⟩,
  ⟨(some 7), (.assign (.const (.int .i64 1))), 55, "", #[], none⟩]
def F28.r7 : List Oper := [
  ⟨(some 23), (.move (.tmp 8)), 67, "", #[], none⟩,
  ⟨(some 24), (.move (.tmp 8)), 67, "", #[], none⟩,
  ⟨(some 25), (.nilCheck (.tmp 24)), 0, "", #[], none⟩,
  ⟨(some 26), (.fieldAddr 71 (.tmp 25) 0), 0, "", #[], none⟩,
  ⟨(some 27), (.load 69 (.tmp 26)), 69, "", #[⟨0, .data⟩], none⟩,
  ⟨(some 28), (.move (.tmp 9)), 3, "", #[], none⟩,
  ⟨(some 29), (.move (.tmp 9)), 3, "", #[], none⟩,
  ⟨(some 30), (.binOp .add 3 (.tmp 29) (.const (.int .i64 1)) 3), 3, "", #[], none⟩,
  ⟨(some 31), (.call ⟨(.value (.func 46)), #[(.tmp 27), (.tmp 28), (.tmp 30)], #[69, 3, 3]⟩), 69, "", #[⟨0, .chain⟩], none⟩,
  ⟨(some 32), (.nilCheck (.tmp 23)), 0, "", #[], none⟩,
  ⟨(some 33), (.fieldAddr 71 (.tmp 32) 0), 0, "", #[], none⟩,
  ⟨none, (.store 69 (.tmp 33) (.tmp 31)), 0, "", #[⟨0, .chain⟩], none⟩]
def F28.r8 : List Oper := [
  ⟨(some 34), (.move (.tmp 0)), 30, "", #[], none⟩,
  ⟨(some 35), (.load 26 (.tmp 5)), 26, "", #[⟨0, .data⟩], none⟩,
  ⟨(some 36), (.call ⟨(.value (.func 44)), #[(.tmp 34), (.tmp 35)], #[30, 26]⟩), 34, "", #[⟨0, .chain⟩], none⟩,
  ⟨(some 6), (.assign (.tmp 36)), 34, "", #[], none⟩,
  ⟨(some 7), (.assign (.const (.int .i64 0))), 55, "", #[], none⟩]
def F28.t7 : Cd := (.seq (.region 7 F28.r7.toArray false) (.seq (.region 8 F28.r8.toArray false) .ret))
theorem F28.t7_eq {P : Program} {Q : Post} {e : FA} {w : World} {θ : Tag (F28.t7, Q, e, w)} : cwE P F28.t7 Q e w θ = cwE P (.seq (.region 7 F28.r7.toArray false) (.seq (.region 8 F28.r8.toArray false) .ret)) Q e w := rfl
def F28.t4 : Cd := (.seq (.region 4 F28.r4.toArray false) (.seq (.seq (.region 5 F28.r5.toArray false) (.cond (.tmp 22) (.seq (.region 6 F28.r6.toArray false) .ret) .skip)) F28.t7))
theorem F28.t4_eq {P : Program} {Q : Post} {e : FA} {w : World} {θ : Tag (F28.t4, Q, e, w)} : cwE P F28.t4 Q e w θ = cwE P (.seq (.region 4 F28.r4.toArray false) (.seq (.seq (.region 5 F28.r5.toArray false) (.cond (.tmp 22) (.seq (.region 6 F28.r6.toArray false) .ret) .skip)) F28.t7)) Q e w := rfl
def F28.code : Cd := (.seq (.region 0 F28.r0.toArray false) (.seq (.region 1 F28.r1.toArray true) (.seq (.seq (.region 2 F28.r2.toArray false) (.cond (.tmp 17) (.seq (.region 3 F28.r3.toArray false) .ret) .skip)) F28.t4)))
theorem F28.calls {args : Array Value} {w : World} {R : Ending → World → Prop} (hn : args.size ≤ 37) (h : cwE Try.prog F28.code (fnP Try.prog #[(.tmp 6), (.tmp 7)] R) (entry args) w) : Calls Try.prog 28 args w R :=
  calls_of_cwE (types := Try.prog.types) follows Try.func28 F28.code rfl (by kernel_rfl) hn h

def F29.r0 : List Oper := [
  ⟨(some 2), (.assign (.const (.int .i64 0))), 3, "", #[], none⟩]
def F29.r1 : List Oper := [
  ⟨(some 3), (.assign (.const (.int .i64 0))), 3, "", #[], none⟩]
def F29.r2 : List Oper := [
  ⟨(some 6), (.move (.tmp 0)), 34, "", #[], none⟩,
  ⟨(some 7), (.call ⟨(.builtin .len), #[(.tmp 6)], #[34]⟩), 3, "", #[], none⟩,
  ⟨(some 8), (.move (.const (.int .i64 0))), 3, "", #[], none⟩]
def F29.r3 : List Oper := [
  ⟨(some 9), (.binOp .lss 3 (.tmp 8) (.tmp 7) 3), 0, "", #[], none⟩]
def F29.r4 : List Oper := [
  ⟨(some 10), (.indexAddr 34 (.tmp 6) (.tmp 8)), 0, "", #[], none⟩,
  ⟨(some 11), (.load 3 (.tmp 10)), 3, "", #[⟨0, .data⟩], none⟩,
  ⟨(some 5), (.assign (.tmp 11)), 3, "", #[], none⟩]
def F29.r5 : List Oper := [
  ⟨(some 12), (.move (.tmp 5)), 3, "", #[], none⟩,
  ⟨(some 13), (.move (.tmp 3)), 3, "", #[], none⟩,
  ⟨(some 14), (.binOp .neq 3 (.tmp 12) (.tmp 13) 3), 4, "", #[], none⟩]
def F29.r6 : List Oper := [
  ⟨(some 15), (.move (.tmp 5)), 3, "", #[], none⟩,
  ⟨(some 2), (.assign (.tmp 15)), 3, "", #[], none⟩]
def F29.r7 : List Oper := [
  ⟨(some 16), (.binOp .add 3 (.tmp 8) (.const (.int .i64 1)) 3), 3, "", #[], none⟩,
  ⟨(some 8), (.move (.tmp 16)), 3, "", #[], none⟩]
def F29.r8 : List Oper := [
  ⟨(some 17), (.move (.tmp 3)), 3, "", #[], none⟩,
  ⟨(some 2), (.assign (.tmp 17)), 3, "", #[], none⟩]
def F29.t7 : Cd := (.region 7 F29.r7.toArray false)
theorem F29.t7_eq {P : Program} {Q : Post} {e : FA} {w : World} {θ : Tag (F29.t7, Q, e, w)} : cwE P F29.t7 Q e w θ = cwE P (.region 7 F29.r7.toArray false) Q e w := rfl
def F29.t4 : Cd := (.seq (.block 1 (.seq (.region 4 F29.r4.toArray false) (.seq (.region 5 F29.r5.toArray false) (.cond (.tmp 14) (.seq (.region 6 F29.r6.toArray false) .ret) .skip)))) F29.t7)
theorem F29.t4_eq {P : Program} {Q : Post} {e : FA} {w : World} {θ : Tag (F29.t4, Q, e, w)} : cwE P F29.t4 Q e w θ = cwE P (.seq (.block 1 (.seq (.region 4 F29.r4.toArray false) (.seq (.region 5 F29.r5.toArray false) (.cond (.tmp 14) (.seq (.region 6 F29.r6.toArray false) .ret) .skip)))) F29.t7) Q e w := rfl
def F29.t8 : Cd := (.seq (.region 8 F29.r8.toArray false) .ret)
theorem F29.t8_eq {P : Program} {Q : Post} {e : FA} {w : World} {θ : Tag (F29.t8, Q, e, w)} : cwE P F29.t8 Q e w θ = cwE P (.seq (.region 8 F29.r8.toArray false) .ret) Q e w := rfl
def F29.code : Cd := (.seq (.region 0 F29.r0.toArray false) (.seq (.region 1 F29.r1.toArray false) (.seq (.seq (.region 2 F29.r2.toArray false) (.block 0 (.loop (.seq (.region 3 F29.r3.toArray false) (.seq (.cond (.tmp 9) .skip (.exit 0)) F29.t4))))) F29.t8)))
theorem F29.calls {args : Array Value} {w : World} {R : Ending → World → Prop} (hn : args.size ≤ 18) (h : cwE Try.prog F29.code (fnP Try.prog #[(.tmp 2)] R) (entry args) w) : Calls Try.prog 29 args w R :=
  calls_of_cwE (types := Try.prog.types) follows Try.func29 F29.code rfl (by kernel_rfl) hn h

def F30.r0 : List Oper := [
  ⟨(some 4), (.assign (.const (.int .i64 0))), 3, "", #[], none⟩]
def F30.r1 : List Oper := [
  ⟨(some 7), (.move (.tmp 0)), 23, "", #[], none⟩,
  ⟨(some 8), (.call ⟨(.value (.func 47)), #[(.tmp 7)], #[23]⟩), 4, "", #[⟨0, .chain⟩], none⟩,
  ⟨(some 5), (.assign (.tmp 8)), 4, "", #[], none⟩]
def F30.r2 : List Oper := [
  ⟨(some 9), (.move (.tmp 1)), 23, "", #[], none⟩,
  ⟨(some 10), (.call ⟨(.value (.func 47)), #[(.tmp 9)], #[23]⟩), 4, "", #[⟨0, .chain⟩], none⟩,
  ⟨(some 6), (.assign (.tmp 10)), 4, "", #[], none⟩]
def F30.r3 : List Oper := [
  ⟨(some 11), (.move (.tmp 5)), 4, "", #[], none⟩]
def F30.r4 : List Oper := [
  ⟨(some 12), (.move (.tmp 6)), 4, "", #[], none⟩]
def F30.r5 : List Oper := [
  ⟨(some 4), (.assign (.const (.int .i64 0))), 3, "", #[], none⟩]
def F30.r6 : List Oper := [
  ⟨(some 4), (.assign (.const (.int .i64 (-1)))), 3, "", #[], none⟩]
def F30.r7 : List Oper := [
  ⟨(some 13), (.move (.tmp 6)), 4, "", #[], none⟩]
def F30.r8 : List Oper := [
  ⟨(some 4), (.assign (.const (.int .i64 1))), 3, "", #[], none⟩]
def F30.r9 : List Oper := [
  ⟨(some 14), (.move (.tmp 0)), 23, "", #[], none⟩,
  ⟨(some 15), (.move (.tmp 1)), 23, "", #[], none⟩,
  ⟨(some 16), (.binOp .lss 23 (.tmp 14) (.tmp 15) 23), 4, "", #[], none⟩]
def F30.r10 : List Oper := [
  ⟨(some 4), (.assign (.const (.int .i64 (-1)))), 3, "", #[], none⟩]
def F30.r11 : List Oper := [
  ⟨(some 17), (.move (.tmp 0)), 23, "", #[], none⟩,
  ⟨(some 18), (.move (.tmp 1)), 23, "", #[], none⟩,
  ⟨(some 19), (.binOp .gtr 23 (.tmp 17) (.tmp 18) 23), 4, "", #[], none⟩]
def F30.r12 : List Oper := [
  ⟨(some 4), (.assign (.const (.int .i64 1))), 3, "", #[], none⟩]
def F30.r13 : List Oper := [
  ⟨(some 4), (.assign (.const (.int .i64 0))), 3, "", #[], none⟩]
def F30.t6 : Cd := (.seq (.region 6 F30.r6.toArray false) .ret)
theorem F30.t6_eq {P : Program} {Q : Post} {e : FA} {w : World} {θ : Tag (F30.t6, Q, e, w)} : cwE P F30.t6 Q e w θ = cwE P (.seq (.region 6 F30.r6.toArray false) .ret) Q e w := rfl
def F30.t13 : Cd := (.seq (.region 13 F30.r13.toArray false) .ret)
theorem F30.t13_eq {P : Program} {Q : Post} {e : FA} {w : World} {θ : Tag (F30.t13, Q, e, w)} : cwE P F30.t13 Q e w θ = cwE P (.seq (.region 13 F30.r13.toArray false) .ret) Q e w := rfl
def F30.t11 : Cd := (.seq (.seq (.region 11 F30.r11.toArray false) (.cond (.tmp 19) (.seq (.region 12 F30.r12.toArray false) .ret) .skip)) F30.t13)
theorem F30.t11_eq {P : Program} {Q : Post} {e : FA} {w : World} {θ : Tag (F30.t11, Q, e, w)} : cwE P F30.t11 Q e w θ = cwE P (.seq (.seq (.region 11 F30.r11.toArray false) (.cond (.tmp 19) (.seq (.region 12 F30.r12.toArray false) .ret) .skip)) F30.t13) Q e w := rfl
def F30.t9 : Cd := (.seq (.seq (.region 9 F30.r9.toArray false) (.cond (.tmp 16) (.seq (.region 10 F30.r10.toArray false) .ret) .skip)) F30.t11)
theorem F30.t9_eq {P : Program} {Q : Post} {e : FA} {w : World} {θ : Tag (F30.t9, Q, e, w)} : cwE P F30.t9 Q e w θ = cwE P (.seq (.seq (.region 9 F30.r9.toArray false) (.cond (.tmp 16) (.seq (.region 10 F30.r10.toArray false) .ret) .skip)) F30.t11) Q e w := rfl
def F30.t7 : Cd := (.seq (.seq (.region 7 F30.r7.toArray false) (.cond (.tmp 13) (.seq (.region 8 F30.r8.toArray false) .ret) .skip)) F30.t9)
theorem F30.t7_eq {P : Program} {Q : Post} {e : FA} {w : World} {θ : Tag (F30.t7, Q, e, w)} : cwE P F30.t7 Q e w θ = cwE P (.seq (.seq (.region 7 F30.r7.toArray false) (.cond (.tmp 13) (.seq (.region 8 F30.r8.toArray false) .ret) .skip)) F30.t9) Q e w := rfl
def F30.code : Cd := (.seq (.region 0 F30.r0.toArray false) (.seq (.region 1 F30.r1.toArray false) (.seq (.region 2 F30.r2.toArray false) (.seq (.seq (.region 3 F30.r3.toArray false) (.cond (.tmp 11) (.seq (.seq (.region 4 F30.r4.toArray false) (.cond (.tmp 12) (.seq (.region 5 F30.r5.toArray false) .ret) .skip)) F30.t6) .skip)) F30.t7))))
theorem F30.calls {args : Array Value} {w : World} {R : Ending → World → Prop} (hn : args.size ≤ 20) (h : cwE Try.prog F30.code (fnP Try.prog #[(.tmp 4)] R) (entry args) w) : Calls Try.prog 30 args w R :=
  calls_of_cwE (types := Try.prog.types) follows Try.func30 F30.code rfl (by kernel_rfl) hn h

def F31.r0 : List Oper := [
  ⟨(some 4), (.assign (.const (.int .i64 0))), 3, "", #[], none⟩]
def F31.r1 : List Oper := [
  ⟨(some 7), (.move (.tmp 0)), 3, "", #[], none⟩,
  ⟨(some 8), (.call ⟨(.value (.func 48)), #[(.tmp 7)], #[3]⟩), 4, "", #[⟨0, .chain⟩], none⟩,
  ⟨(some 5), (.assign (.tmp 8)), 4, "", #[], none⟩]
def F31.r2 : List Oper := [
  ⟨(some 9), (.move (.tmp 1)), 3, "", #[], none⟩,
  ⟨(some 10), (.call ⟨(.value (.func 48)), #[(.tmp 9)], #[3]⟩), 4, "", #[⟨0, .chain⟩], none⟩,
  ⟨(some 6), (.assign (.tmp 10)), 4, "", #[], none⟩]
def F31.r3 : List Oper := [
  ⟨(some 11), (.move (.tmp 5)), 4, "", #[], none⟩]
def F31.r4 : List Oper := [
  ⟨(some 12), (.move (.tmp 6)), 4, "", #[], none⟩]
def F31.r5 : List Oper := [
  ⟨(some 4), (.assign (.const (.int .i64 0))), 3, "", #[], none⟩]
def F31.r6 : List Oper := [
  ⟨(some 4), (.assign (.const (.int .i64 (-1)))), 3, "", #[], none⟩]
def F31.r7 : List Oper := [
  ⟨(some 13), (.move (.tmp 6)), 4, "", #[], none⟩]
def F31.r8 : List Oper := [
  ⟨(some 4), (.assign (.const (.int .i64 1))), 3, "", #[], none⟩]
def F31.r9 : List Oper := [
  ⟨(some 14), (.move (.tmp 0)), 3, "", #[], none⟩,
  ⟨(some 15), (.move (.tmp 1)), 3, "", #[], none⟩,
  ⟨(some 16), (.binOp .lss 3 (.tmp 14) (.tmp 15) 3), 4, "", #[], none⟩]
def F31.r10 : List Oper := [
  ⟨(some 4), (.assign (.const (.int .i64 (-1)))), 3, "", #[], none⟩]
def F31.r11 : List Oper := [
  ⟨(some 17), (.move (.tmp 0)), 3, "", #[], none⟩,
  ⟨(some 18), (.move (.tmp 1)), 3, "", #[], none⟩,
  ⟨(some 19), (.binOp .gtr 3 (.tmp 17) (.tmp 18) 3), 4, "", #[], none⟩]
def F31.r12 : List Oper := [
  ⟨(some 4), (.assign (.const (.int .i64 1))), 3, "", #[], none⟩]
def F31.r13 : List Oper := [
  ⟨(some 4), (.assign (.const (.int .i64 0))), 3, "", #[], none⟩]
def F31.t6 : Cd := (.seq (.region 6 F31.r6.toArray false) .ret)
theorem F31.t6_eq {P : Program} {Q : Post} {e : FA} {w : World} {θ : Tag (F31.t6, Q, e, w)} : cwE P F31.t6 Q e w θ = cwE P (.seq (.region 6 F31.r6.toArray false) .ret) Q e w := rfl
def F31.t13 : Cd := (.seq (.region 13 F31.r13.toArray false) .ret)
theorem F31.t13_eq {P : Program} {Q : Post} {e : FA} {w : World} {θ : Tag (F31.t13, Q, e, w)} : cwE P F31.t13 Q e w θ = cwE P (.seq (.region 13 F31.r13.toArray false) .ret) Q e w := rfl
def F31.t11 : Cd := (.seq (.seq (.region 11 F31.r11.toArray false) (.cond (.tmp 19) (.seq (.region 12 F31.r12.toArray false) .ret) .skip)) F31.t13)
theorem F31.t11_eq {P : Program} {Q : Post} {e : FA} {w : World} {θ : Tag (F31.t11, Q, e, w)} : cwE P F31.t11 Q e w θ = cwE P (.seq (.seq (.region 11 F31.r11.toArray false) (.cond (.tmp 19) (.seq (.region 12 F31.r12.toArray false) .ret) .skip)) F31.t13) Q e w := rfl
def F31.t9 : Cd := (.seq (.seq (.region 9 F31.r9.toArray false) (.cond (.tmp 16) (.seq (.region 10 F31.r10.toArray false) .ret) .skip)) F31.t11)
theorem F31.t9_eq {P : Program} {Q : Post} {e : FA} {w : World} {θ : Tag (F31.t9, Q, e, w)} : cwE P F31.t9 Q e w θ = cwE P (.seq (.seq (.region 9 F31.r9.toArray false) (.cond (.tmp 16) (.seq (.region 10 F31.r10.toArray false) .ret) .skip)) F31.t11) Q e w := rfl
def F31.t7 : Cd := (.seq (.seq (.region 7 F31.r7.toArray false) (.cond (.tmp 13) (.seq (.region 8 F31.r8.toArray false) .ret) .skip)) F31.t9)
theorem F31.t7_eq {P : Program} {Q : Post} {e : FA} {w : World} {θ : Tag (F31.t7, Q, e, w)} : cwE P F31.t7 Q e w θ = cwE P (.seq (.seq (.region 7 F31.r7.toArray false) (.cond (.tmp 13) (.seq (.region 8 F31.r8.toArray false) .ret) .skip)) F31.t9) Q e w := rfl
def F31.code : Cd := (.seq (.region 0 F31.r0.toArray false) (.seq (.region 1 F31.r1.toArray false) (.seq (.region 2 F31.r2.toArray false) (.seq (.seq (.region 3 F31.r3.toArray false) (.cond (.tmp 11) (.seq (.seq (.region 4 F31.r4.toArray false) (.cond (.tmp 12) (.seq (.region 5 F31.r5.toArray false) .ret) .skip)) F31.t6) .skip)) F31.t7))))
theorem F31.calls {args : Array Value} {w : World} {R : Ending → World → Prop} (hn : args.size ≤ 20) (h : cwE Try.prog F31.code (fnP Try.prog #[(.tmp 4)] R) (entry args) w) : Calls Try.prog 31 args w R :=
  calls_of_cwE (types := Try.prog.types) follows Try.func31 F31.code rfl (by kernel_rfl) hn h

def F32.r0 : List Oper := [
  ⟨(some 4), (.assign (.const (.int .i64 0))), 3, "", #[], none⟩]
def F32.r1 : List Oper := [
  ⟨(some 7), (.move (.tmp 0)), 24, "", #[], none⟩,
  ⟨(some 8), (.call ⟨(.value (.func 49)), #[(.tmp 7)], #[24]⟩), 4, "", #[⟨0, .chain⟩], none⟩,
  ⟨(some 5), (.assign (.tmp 8)), 4, "", #[], none⟩]
def F32.r2 : List Oper := [
  ⟨(some 9), (.move (.tmp 1)), 24, "", #[], none⟩,
  ⟨(some 10), (.call ⟨(.value (.func 49)), #[(.tmp 9)], #[24]⟩), 4, "", #[⟨0, .chain⟩], none⟩,
  ⟨(some 6), (.assign (.tmp 10)), 4, "", #[], none⟩]
def F32.r3 : List Oper := [
  ⟨(some 11), (.move (.tmp 5)), 4, "", #[], none⟩]
def F32.r4 : List Oper := [
  ⟨(some 12), (.move (.tmp 6)), 4, "", #[], none⟩]
def F32.r5 : List Oper := [
  ⟨(some 4), (.assign (.const (.int .i64 0))), 3, "", #[], none⟩]
def F32.r6 : List Oper := [
  ⟨(some 4), (.assign (.const (.int .i64 (-1)))), 3, "", #[], none⟩]
def F32.r7 : List Oper := [
  ⟨(some 13), (.move (.tmp 6)), 4, "", #[], none⟩]
def F32.r8 : List Oper := [
  ⟨(some 4), (.assign (.const (.int .i64 1))), 3, "", #[], none⟩]
def F32.r9 : List Oper := [
  ⟨(some 14), (.move (.tmp 0)), 24, "", #[], none⟩,
  ⟨(some 15), (.move (.tmp 1)), 24, "", #[], none⟩,
  ⟨(some 16), (.binOp .lss 24 (.tmp 14) (.tmp 15) 24), 4, "", #[], none⟩]
def F32.r10 : List Oper := [
  ⟨(some 4), (.assign (.const (.int .i64 (-1)))), 3, "", #[], none⟩]
def F32.r11 : List Oper := [
  ⟨(some 17), (.move (.tmp 0)), 24, "", #[], none⟩,
  ⟨(some 18), (.move (.tmp 1)), 24, "", #[], none⟩,
  ⟨(some 19), (.binOp .gtr 24 (.tmp 17) (.tmp 18) 24), 4, "", #[], none⟩]
def F32.r12 : List Oper := [
  ⟨(some 4), (.assign (.const (.int .i64 1))), 3, "", #[], none⟩]
def F32.r13 : List Oper := [
  ⟨(some 4), (.assign (.const (.int .i64 0))), 3, "", #[], none⟩]
def F32.t6 : Cd := (.seq (.region 6 F32.r6.toArray false) .ret)
theorem F32.t6_eq {P : Program} {Q : Post} {e : FA} {w : World} {θ : Tag (F32.t6, Q, e, w)} : cwE P F32.t6 Q e w θ = cwE P (.seq (.region 6 F32.r6.toArray false) .ret) Q e w := rfl
def F32.t13 : Cd := (.seq (.region 13 F32.r13.toArray false) .ret)
theorem F32.t13_eq {P : Program} {Q : Post} {e : FA} {w : World} {θ : Tag (F32.t13, Q, e, w)} : cwE P F32.t13 Q e w θ = cwE P (.seq (.region 13 F32.r13.toArray false) .ret) Q e w := rfl
def F32.t11 : Cd := (.seq (.seq (.region 11 F32.r11.toArray false) (.cond (.tmp 19) (.seq (.region 12 F32.r12.toArray false) .ret) .skip)) F32.t13)
theorem F32.t11_eq {P : Program} {Q : Post} {e : FA} {w : World} {θ : Tag (F32.t11, Q, e, w)} : cwE P F32.t11 Q e w θ = cwE P (.seq (.seq (.region 11 F32.r11.toArray false) (.cond (.tmp 19) (.seq (.region 12 F32.r12.toArray false) .ret) .skip)) F32.t13) Q e w := rfl
def F32.t9 : Cd := (.seq (.seq (.region 9 F32.r9.toArray false) (.cond (.tmp 16) (.seq (.region 10 F32.r10.toArray false) .ret) .skip)) F32.t11)
theorem F32.t9_eq {P : Program} {Q : Post} {e : FA} {w : World} {θ : Tag (F32.t9, Q, e, w)} : cwE P F32.t9 Q e w θ = cwE P (.seq (.seq (.region 9 F32.r9.toArray false) (.cond (.tmp 16) (.seq (.region 10 F32.r10.toArray false) .ret) .skip)) F32.t11) Q e w := rfl
def F32.t7 : Cd := (.seq (.seq (.region 7 F32.r7.toArray false) (.cond (.tmp 13) (.seq (.region 8 F32.r8.toArray false) .ret) .skip)) F32.t9)
theorem F32.t7_eq {P : Program} {Q : Post} {e : FA} {w : World} {θ : Tag (F32.t7, Q, e, w)} : cwE P F32.t7 Q e w θ = cwE P (.seq (.seq (.region 7 F32.r7.toArray false) (.cond (.tmp 13) (.seq (.region 8 F32.r8.toArray false) .ret) .skip)) F32.t9) Q e w := rfl
def F32.code : Cd := (.seq (.region 0 F32.r0.toArray false) (.seq (.region 1 F32.r1.toArray false) (.seq (.region 2 F32.r2.toArray false) (.seq (.seq (.region 3 F32.r3.toArray false) (.cond (.tmp 11) (.seq (.seq (.region 4 F32.r4.toArray false) (.cond (.tmp 12) (.seq (.region 5 F32.r5.toArray false) .ret) .skip)) F32.t6) .skip)) F32.t7))))
theorem F32.calls {args : Array Value} {w : World} {R : Ending → World → Prop} (hn : args.size ≤ 20) (h : cwE Try.prog F32.code (fnP Try.prog #[(.tmp 4)] R) (entry args) w) : Calls Try.prog 32 args w R :=
  calls_of_cwE (types := Try.prog.types) follows Try.func32 F32.code rfl (by kernel_rfl) hn h

def F33.r0 : List Oper := [
  ⟨(some 2), (.assign (.const (.slice none 0 0))), 34, "", #[], none⟩]
def F33.r1 : List Oper := [
  ⟨(some 3), (.assign (.const (.slice none 0 0))), 34, "", #[], none⟩]
def F33.r2 : List Oper := [
  ⟨(some 6), (.move (.tmp 0)), 69, "", #[], none⟩,
  ⟨(some 7), (.call ⟨(.builtin .len), #[(.tmp 6)], #[69]⟩), 3, "", #[], none⟩,
  ⟨(some 8), (.move (.const (.int .i64 0))), 3, "", #[], none⟩]
def F33.r3 : List Oper := [
  ⟨(some 9), (.binOp .lss 3 (.tmp 8) (.tmp 7) 3), 0, "", #[], none⟩]
def F33.r4 : List Oper := [
  ⟨(some 10), (.indexAddr 69 (.tmp 6) (.tmp 8)), 0, "", #[], none⟩,
  ⟨(some 11), (.load 74 (.tmp 10)), 74, "", #[⟨0, .data⟩], none⟩,
  ⟨(some 5), (.alloc 74), 0, "", #[⟨0, .chain⟩], none⟩,
  ⟨none, (.store 74 (.tmp 5) (.tmp 11)), 0, "", #[⟨0, .chain⟩], none⟩]
def F33.r5 : List Oper := [
  ⟨(some 12), (.move (.tmp 3)), 34, "", #[], none⟩,
  ⟨(some 13), (.fieldAddr 74 (.tmp 5) 0), 0, "", #[], none⟩,
  ⟨(some 14), (.load 3 (.tmp 13)), 3, "", #[⟨0, .data⟩], none⟩,
  ⟨(some 15), (.buildSlice 34 1 #[(0, (.tmp 14))]), 34, "", #[⟨0, .chain⟩], none⟩,
  ⟨(some 16), (.call ⟨(.builtin .append), #[(.tmp 12), (.tmp 15)], #[34, 34]⟩), 34, "", #[⟨0, .chain⟩], none⟩,
  ⟨(some 3), (.assign (.tmp 16)), 34, "", #[], none⟩]
def F33.r6 : List Oper := [
  ⟨(some 17), (.binOp .add 3 (.tmp 8) (.const (.int .i64 1)) 3), 3, "", #[], none⟩,
  ⟨(some 8), (.move (.tmp 17)), 3, "", #[], none⟩]
def F33.r7 : List Oper := [
  ⟨(some 18), (.move (.tmp 3)), 34, "", #[], none⟩,
  ⟨(some 2), (.assign (.tmp 18)), 34, "", #[], none⟩]
def F33.t6 : Cd := (.region 6 F33.r6.toArray false)
theorem F33.t6_eq {P : Program} {Q : Post} {e : FA} {w : World} {θ : Tag (F33.t6, Q, e, w)} : cwE P F33.t6 Q e w θ = cwE P (.region 6 F33.r6.toArray false) Q e w := rfl
def F33.t4 : Cd := (.seq (.block 1 (.seq (.region 4 F33.r4.toArray false) (.region 5 F33.r5.toArray false))) F33.t6)
theorem F33.t4_eq {P : Program} {Q : Post} {e : FA} {w : World} {θ : Tag (F33.t4, Q, e, w)} : cwE P F33.t4 Q e w θ = cwE P (.seq (.block 1 (.seq (.region 4 F33.r4.toArray false) (.region 5 F33.r5.toArray false))) F33.t6) Q e w := rfl
def F33.t7 : Cd := (.seq (.region 7 F33.r7.toArray false) .ret)
theorem F33.t7_eq {P : Program} {Q : Post} {e : FA} {w : World} {θ : Tag (F33.t7, Q, e, w)} : cwE P F33.t7 Q e w θ = cwE P (.seq (.region 7 F33.r7.toArray false) .ret) Q e w := rfl
def F33.code : Cd := (.seq (.region 0 F33.r0.toArray false) (.seq (.region 1 F33.r1.toArray false) (.seq (.seq (.region 2 F33.r2.toArray false) (.block 0 (.loop (.seq (.region 3 F33.r3.toArray false) (.seq (.cond (.tmp 9) .skip (.exit 0)) F33.t4))))) F33.t7)))
theorem F33.calls {args : Array Value} {w : World} {R : Ending → World → Prop} (hn : args.size ≤ 19) (h : cwE Try.prog F33.code (fnP Try.prog #[(.tmp 2)] R) (entry args) w) : Calls Try.prog 33 args w R :=
  calls_of_cwE (types := Try.prog.types) follows Try.func33 F33.code rfl (by kernel_rfl) hn h

def F34.r0 : List Oper := [
  ⟨(some 3), (.box 26 (.tmp 1)), 0, "", #[⟨0, .chain⟩], none⟩,
  ⟨(some 4), (.assign (.const (.slice none 0 0))), 34, "", #[], none⟩]
def F34.r1 : List Oper := [
  ⟨(some 7), (.move (.tmp 0)), 30, "", #[], none⟩,
  ⟨(some 8), (.nilCheck (.tmp 7)), 0, "", #[], none⟩,
  ⟨(some 9), (.fieldAddr 66 (.tmp 8) 0), 0, "", #[], none⟩,
  ⟨(some 10), (.load 63 (.tmp 9)), 63, "", #[⟨0, .data⟩], none⟩,
  ⟨(some 11), (.load 26 (.tmp 3)), 26, "", #[⟨0, .data⟩], none⟩,
  ⟨(some 12), (.lookup 63 (.tmp 10) (.tmp 11) false), 67, "", #[⟨0, .data⟩], none⟩,
  ⟨(some 5), (.assign (.tmp 12)), 67, "", #[], none⟩]
def F34.r2 : List Oper := [
  ⟨(some 13), (.move (.tmp 5)), 67, "", #[], none⟩,
  ⟨(some 14), (.binOp .eql 67 (.tmp 13) (.const (.pointer none)) 67), 4, "", #[], none⟩]
def F34.r3 : List Oper := [
  ⟨(some 4), (.assign (.const (.slice none 0 0))), 34, "", #[], none⟩]
def F34.r4 : List Oper := [
  ⟨(some 15), (.move (.tmp 5)), 67, "", #[], none⟩,
  ⟨(some 16), (.nilCheck (.tmp 15)), 0, "", #[], none⟩,
  ⟨(some 17), (.fieldAddr 71 (.tmp 16) 0), 0, "", #[], none⟩,
  ⟨(some 18), (.load 69 (.tmp 17)), 69, "", #[⟨0, .data⟩], none⟩,
  ⟨(some 19), (.call ⟨(.value (.func 33)), #[(.tmp 18)], #[69]⟩), 34, "", #[⟨0, .chain⟩], none⟩,
  ⟨(some 6), (.assign (.tmp 19)), 34, "", #[], none⟩]
def F34.r5 : List Oper := [
  ⟨(some 20), (.move (.tmp 6)), 34, "", #[], none⟩,
  ⟨(some 21), (.call ⟨(.value (.func 50)), #[(.tmp 20)], #[34]⟩), 0, "", #[⟨0, .chain⟩], none⟩]
def F34.r6 : List Oper := [
  ⟨(some 22), (.move (.tmp 6)), 34, "", #[], none⟩,
  ⟨(some 4), (.assign (.tmp 22)), 34, "", #[], none⟩]
def F34.t4 : Cd := (.seq (.region 4 F34.r4.toArray false) (.seq (.region 5 F34.r5.toArray false) (.seq (.region 6 F34.r6.toArray false) .ret)))
theorem F34.t4_eq {P : Program} {Q : Post} {e : FA} {w : World} {θ : Tag (F34.t4, Q, e, w)} : cwE P F34.t4 Q e w θ = cwE P (.seq (.region 4 F34.r4.toArray false) (.seq (.region 5 F34.r5.toArray false) (.seq (.region 6 F34.r6.toArray false) .ret))) Q e w := rfl
def F34.code : Cd := (.seq (.region 0 F34.r0.toArray false) (.seq (.region 1 F34.r1.toArray true) (.seq (.seq (.region 2 F34.r2.toArray false) (.cond (.tmp 14) (.seq (.region 3 F34.r3.toArray false) .ret) .skip)) F34.t4)))
theorem F34.calls {args : Array Value} {w : World} {R : Ending → World → Prop} (hn : args.size ≤ 23) (h : cwE Try.prog F34.code (fnP Try.prog #[(.tmp 4)] R) (entry args) w) : Calls Try.prog 34 args w R :=
  calls_of_cwE (types := Try.prog.types) follows Try.func34 F34.code rfl (by kernel_rfl) hn h

def F35.r0 : List Oper := [
  ⟨(some 3), (.box 3 (.tmp 1)), 0, "", #[⟨0, .chain⟩], none⟩,
  ⟨(some 4), (.assign (.const (.int .i64 0))), 3, "", #[], none⟩]
def F35.r1 : List Oper := [
  ⟨(some 5), (.move (.tmp 0)), 67, "", #[], none⟩,
  ⟨(some 6), (.nilCheck (.tmp 5)), 0, "", #[], none⟩,
  ⟨(some 7), (.fieldAddr 71 (.tmp 6) 0), 0, "", #[], none⟩,
  ⟨(some 8), (.load 69 (.tmp 7)), 69, "", #[⟨0, .data⟩], none⟩,
  ⟨(some 9), (.makeFunc (.func 52) #[] #[(.tmp 3)]), 84, "", #[], none⟩,
  ⟨(some 10), (.call ⟨(.value (.func 51)), #[(.tmp 8), (.tmp 9)], #[69, 84]⟩), 3, "", #[⟨0, .chain⟩], none⟩,
  ⟨(some 4), (.assign (.tmp 10)), 3, "", #[], none⟩]
def F35.code : Cd := (.seq (.region 0 F35.r0.toArray false) (.seq (.region 1 F35.r1.toArray false) .ret))
theorem F35.calls {args : Array Value} {w : World} {R : Ending → World → Prop} (hn : args.size ≤ 11) (h : cwE Try.prog F35.code (fnP Try.prog #[(.tmp 4)] R) (entry args) w) : Calls Try.prog 35 args w R :=
  calls_of_cwE (types := Try.prog.types) follows Try.func35 F35.code rfl (by kernel_rfl) hn h

def F36.r0 : List Oper := [
  ⟨(some 5), (.move (.tmp 0)), 33, "", #[], none⟩,
  ⟨(some 6), (.call ⟨(.builtin .len), #[(.tmp 5)], #[33]⟩), 3, "", #[], none⟩,
  ⟨(some 4), (.assign (.tmp 6)), 3, "", #[], none⟩]
def F36.r1 : List Oper := [
  ⟨(some 7), (.move (.tmp 0)), 33, "", #[], none⟩,
  ⟨(some 8), (.move (.tmp 4)), 3, "", #[], none⟩,
  ⟨(some 9), (.move (.tmp 4)), 3, "", #[], none⟩,
  ⟨(some 10), (.convert 3 94 (.tmp 9)), 94, "", #[], none⟩,
  ⟨(some 11), (.call ⟨(.value (.func 54)), #[(.tmp 10)], #[94]⟩), 3, "", #[⟨0, .chain⟩], none⟩,
  ⟨(some 12), (.move (.tmp 1)), 76, "", #[], none⟩,
  ⟨(some 13), (.call ⟨(.value (.func 53)), #[(.tmp 7), (.const (.int .i64 0)), (.tmp 8), (.tmp 11), (.tmp 12)], #[33, 3, 3, 3, 76]⟩), 0, "", #[⟨0, .chain⟩], none⟩]
def F36.code : Cd := (.seq (.region 0 F36.r0.toArray false) (.region 1 F36.r1.toArray false))
theorem F36.calls {args : Array Value} {w : World} {R : Ending → World → Prop} (hn : args.size ≤ 14) (h : cwE Try.prog F36.code (fnP Try.prog #[] R) (entry args) w) : Calls Try.prog 36 args w R :=
  calls_of_cwE (types := Try.prog.types) follows Try.func36 F36.code rfl (by kernel_rfl) hn h

def F37.r0 : List Oper := [
  ⟨(some 2), (.box 38 (.tmp 0)), 0, "", #[⟨0, .chain⟩], none⟩,
  ⟨(some 3), (.box 38 (.tmp 1)), 0, "", #[⟨0, .chain⟩], none⟩,
  ⟨(some 4), (.assign (.const (.int .i64 0))), 3, "", #[], none⟩]
def F37.r1 : List Oper := [
  ⟨(some 5), (.fieldAddr 38 (.tmp 2) 0), 0, "", #[], none⟩,
  ⟨(some 6), (.load 26 (.tmp 5)), 26, "", #[⟨0, .data⟩], none⟩,
  ⟨(some 7), (.fieldAddr 38 (.tmp 3) 0), 0, "", #[], none⟩,
  ⟨(some 8), (.load 26 (.tmp 7)), 26, "", #[⟨0, .data⟩], none⟩,
  ⟨(some 9), (.call ⟨(.value (.func 10)), #[(.tmp 6), (.tmp 8)], #[26, 26]⟩), 3, "", #[⟨0, .chain⟩], none⟩,
  ⟨(some 4), (.assign (.tmp 9)), 3, "", #[], none⟩]
def F37.code : Cd := (.seq (.region 0 F37.r0.toArray false) (.seq (.region 1 F37.r1.toArray false) .ret))
theorem F37.calls {args : Array Value} {w : World} {R : Ending → World → Prop} (hn : args.size ≤ 10) (h : cwE Try.prog F37.code (fnP Try.prog #[(.tmp 4)] R) (entry args) w) : Calls Try.prog 37 args w R :=
  calls_of_cwE (types := Try.prog.types) follows Try.func37 F37.code rfl (by kernel_rfl) hn h

def F38.r0 : List Oper := [
  ⟨(some 2), (.assign (.const (.pointer none))), 30, "", #[], none⟩]
def F38.r1 : List Oper := [
  ⟨(some 6), (.makeMap 63 none), 63, "", #[⟨0, .chain⟩], none⟩,
  ⟨(some 7), (.move (.tmp 0)), 30, "", #[], none⟩,
  ⟨(some 8), (.nilCheck (.tmp 7)), 0, "", #[], none⟩,
  ⟨(some 9), (.fieldAddr 66 (.tmp 8) 1), 0, "", #[], none⟩,
  ⟨(some 10), (.load 64 (.tmp 9)), 64, "", #[⟨0, .data⟩], none⟩,
  ⟨(some 11), (.call ⟨(.value (.func 55)), #[(.tmp 10)], #[64]⟩), 64, "", #[⟨0, .chain⟩], none⟩,
  ⟨(some 12), (.build 66 #[(0, (.tmp 6)), (1, (.tmp 11))]), 66, "", #[], none⟩,
  ⟨(some 13), (.box 66 (.tmp 12)), 30, "", #[⟨0, .chain⟩], none⟩,
  ⟨(some 3), (.assign (.tmp 13)), 30, "", #[], none⟩]
def F38.r2 : List Oper := [
  ⟨(some 14), (.move (.tmp 0)), 30, "", #[], none⟩,
  ⟨(some 15), (.nilCheck (.tmp 14)), 0, "", #[], none⟩,
  ⟨(some 16), (.fieldAddr 66 (.tmp 15) 0), 0, "", #[], none⟩,
  ⟨(some 17), (.load 63 (.tmp 16)), 63, "", #[⟨0, .data⟩], none⟩,
  ⟨(some 18), (.range 63 (.tmp 17)), 0, "", #[⟨0, .chain⟩], none⟩]
def F38.r3 : List Oper := [
  ⟨(some 19), (.next (.tmp 18) false), 0, "", #[⟨0, .chain⟩], none⟩,
  ⟨(some 20), (.extract (.tmp 19) 0), 4, "", #[], none⟩]
def F38.r4 : List Oper := [
  ⟨(some 21), (.entry (.tmp 18)), 0, "", #[⟨0, .data⟩], none⟩,
  ⟨(some 22), (.extract (.tmp 21) 0), 26, "", #[], none⟩,
  ⟨(some 23), (.extract (.tmp 21) 1), 67, "", #[], none⟩,
  ⟨(some 4), (.alloc 26), 0, "", #[⟨0, .chain⟩], none⟩,
  ⟨none, (.store 26 (.tmp 4) (.tmp 22)), 0, "", #[⟨0, .chain⟩], none⟩,
  ⟨(some 5), (.assign (.tmp 23)), 67, "", #[], none⟩]
def F38.r5 : List Oper := [
  ⟨(some 24), (.move (.tmp 3)), 30, "", #[], none⟩,
  ⟨(some 25), (.nilCheck (.tmp 24)), 0, "", #[], none⟩,
  ⟨(some 26), (.fieldAddr 66 (.tmp 25) 0), 0, "", #[], none⟩,
  ⟨(some 29), (.move (.tmp 5)), 67, "", #[], none⟩,
  ⟨(some 30), (.nilCheck (.tmp 29)), 0, "", #[], none⟩,
  ⟨(some 31), (.fieldAddr 71 (.tmp 30) 0), 0, "", #[], none⟩,
  ⟨(some 34), (.move (.tmp 5)), 67, "", #[], none⟩,
  ⟨(some 35), (.nilCheck (.tmp 34)), 0, "", #[], none⟩,
  ⟨(some 36), (.fieldAddr 71 (.tmp 35) 1), 0, "", #[], none⟩,
  ⟨(some 27), (.load 63 (.tmp 26)), 63, "", #[⟨131072, .data⟩], none⟩,
  ⟨(some 28), (.load 26 (.tmp 4)), 26, "", #[⟨131072, .data⟩], none⟩,
  ⟨(some 32), (.load 69 (.tmp 31)), 69, "", #[⟨213504, .data⟩], none⟩,
  ⟨(some 37), (.load 69 (.tmp 36)), 69, "", #[⟨212992, .data⟩], none⟩,
  ⟨(some 33), (.call ⟨(.value (.func 56)), #[(.tmp 32)], #[69]⟩), 69, "", #[⟨9, .chain⟩], none⟩,
  ⟨(some 38), (.call ⟨(.value (.func 56)), #[(.tmp 37)], #[69]⟩), 69, "", #[⟨14, .chain⟩], none⟩,
  ⟨(some 39), (.build 71 #[(0, (.tmp 33)), (1, (.tmp 38))]), 71, "", #[], none⟩,
  ⟨(some 40), (.box 71 (.tmp 39)), 67, "", #[⟨16, .chain⟩], none⟩,
  ⟨none, (.mapUpdate 63 (.tmp 27) (.tmp 28) (.tmp 40)), 0, "", #[⟨17, .chain⟩], none⟩]
def F38.r6 : List Oper := [
  ⟨(some 41), (.move (.tmp 3)), 30, "", #[], none⟩,
  ⟨(some 2), (.assign (.tmp 41)), 30, "", #[], none⟩]
def F38.t4 : Cd := (.block 1 (.seq (.region 4 F38.r4.toArray false) (.region 5 F38.r5.toArray true)))
theorem F38.t4_eq {P : Program} {Q : Post} {e : FA} {w : World} {θ : Tag (F38.t4, Q, e, w)} : cwE P F38.t4 Q e w θ = cwE P (.block 1 (.seq (.region 4 F38.r4.toArray false) (.region 5 F38.r5.toArray true))) Q e w := rfl
def F38.t6 : Cd := (.seq (.region 6 F38.r6.toArray false) .ret)
theorem F38.t6_eq {P : Program} {Q : Post} {e : FA} {w : World} {θ : Tag (F38.t6, Q, e, w)} : cwE P F38.t6 Q e w θ = cwE P (.seq (.region 6 F38.r6.toArray false) .ret) Q e w := rfl
def F38.code : Cd := (.seq (.region 0 F38.r0.toArray false) (.seq (.region 1 F38.r1.toArray false) (.seq (.seq (.region 2 F38.r2.toArray false) (.block 0 (.loop (.seq (.region 3 F38.r3.toArray false) (.seq (.cond (.tmp 20) .skip (.exit 0)) F38.t4))))) F38.t6)))
theorem F38.calls {args : Array Value} {w : World} {R : Ending → World → Prop} (hn : args.size ≤ 42) (h : cwE Try.prog F38.code (fnP Try.prog #[(.tmp 2)] R) (entry args) w) : Calls Try.prog 38 args w R :=
  calls_of_cwE (types := Try.prog.types) follows Try.func38 F38.code rfl (by kernel_rfl) hn h

def F39.r0 : List Oper := [
  ⟨(some 2), (.assign (.const (.int .i64 0))), 3, "", #[], none⟩,
  ⟨(some 3), (.assign (.const (.bool false))), 4, "", #[], none⟩]
def F39.r1 : List Oper := [
  ⟨(some 10), (.move (.tmp 0)), 30, "", #[], none⟩,
  ⟨(some 11), (.nilCheck (.tmp 10)), 0, "", #[], none⟩,
  ⟨(some 12), (.fieldAddr 66 (.tmp 11) 0), 0, "", #[], none⟩,
  ⟨(some 13), (.load 63 (.tmp 12)), 63, "", #[⟨0, .data⟩], none⟩,
  ⟨(some 14), (.range 63 (.tmp 13)), 0, "", #[⟨0, .chain⟩], none⟩]
def F39.r2 : List Oper := [
  ⟨(some 15), (.next (.tmp 14) false), 0, "", #[⟨0, .chain⟩], none⟩,
  ⟨(some 16), (.extract (.tmp 15) 0), 4, "", #[], none⟩]
def F39.r3 : List Oper := [
  ⟨(some 17), (.entry (.tmp 14)), 0, "", #[⟨0, .data⟩], none⟩,
  ⟨(some 18), (.extract (.tmp 17) 1), 67, "", #[], none⟩,
  ⟨(some 5), (.assign (.tmp 18)), 67, "", #[], none⟩]
def F39.r4 : List Oper := [
  ⟨(some 19), (.move (.tmp 5)), 67, "", #[], none⟩,
  ⟨(some 20), (.nilCheck (.tmp 19)), 0, "", #[], none⟩,
  ⟨(some 21), (.fieldAddr 71 (.tmp 20) 0), 0, "", #[], none⟩,
  ⟨(some 22), (.load 69 (.tmp 21)), 69, "", #[⟨0, .data⟩], none⟩,
  ⟨(some 23), (.call ⟨(.builtin .len), #[(.tmp 22)], #[69]⟩), 3, "", #[], none⟩,
  ⟨(some 24), (.move (.const (.int .i64 0))), 3, "", #[], none⟩]
def F39.r5 : List Oper := [
  ⟨(some 25), (.binOp .lss 3 (.tmp 24) (.tmp 23) 3), 0, "", #[], none⟩]
def F39.r6 : List Oper := [
  ⟨(some 26), (.indexAddr 69 (.tmp 22) (.tmp 24)), 0, "", #[], none⟩,
  ⟨(some 27), (.load 74 (.tmp 26)), 74, "", #[⟨0, .data⟩], none⟩,
  ⟨(some 7), (.alloc 74), 0, "", #[⟨0, .chain⟩], none⟩,
  ⟨none, (.store 74 (.tmp 7) (.tmp 27)), 0, "", #[⟨0, .chain⟩], none⟩]
def F39.r7 : List Oper := [
  ⟨(some 29), (.move (.tmp 0)), 30, "", #[], none⟩,
  ⟨(some 30), (.nilCheck (.tmp 29)), 0, "", #[], none⟩,
  ⟨(some 31), (.fieldAddr 66 (.tmp 30) 1), 0, "", #[], none⟩,
  ⟨(some 33), (.fieldAddr 74 (.tmp 7) 0), 0, "", #[], none⟩,
  ⟨(some 32), (.load 64 (.tmp 31)), 64, "", #[⟨2048, .data⟩], none⟩,
  ⟨(some 34), (.load 3 (.tmp 33)), 3, "", #[⟨2048, .data⟩], none⟩,
  ⟨(some 35), (.lookup 64 (.tmp 32) (.tmp 34) true), 39, "", #[⟨2048, .data⟩], none⟩,
  ⟨(some 28), (.move (.tmp 35)), 39, "", #[], none⟩,
  ⟨(some 36), (.extract (.tmp 28) 0), 38, "", #[], none⟩,
  ⟨(some 37), (.extract (.tmp 28) 1), 4, "", #[], none⟩,
  ⟨(some 8), (.alloc 38), 0, "", #[⟨10, .chain⟩], none⟩,
  ⟨none, (.store 38 (.tmp 8) (.tmp 36)), 0, "", #[⟨11, .chain⟩], none⟩,
  ⟨(some 9), (.assign (.tmp 37)), 4, "", #[], none⟩]
def F39.r8 : List Oper := [
  ⟨(some 38), (.move (.tmp 9)), 4, "", #[], none⟩,
  ⟨(some 39), (.unOp .not 4 (.tmp 38)), 4, "", #[], none⟩]
def F39.r9 : List Oper := [
  ⟨(some 40), (.fieldAddr 74 (.tmp 7) 0), 0, "", #[], none⟩,
  ⟨(some 41), (.load 3 (.tmp 40)), 3, "", #[⟨0, .data⟩], none⟩,
  ⟨(some 2), (.assign (.tmp 41)), 3, "", #[], none⟩,
  ⟨(some 3), (.assign (.const (.bool true))), 4, "", #[], none⟩]
def F39.r10 : List Oper := [
  ⟨(some 42), (.binOp .add 3 (.tmp 24) (.const (.int .i64 1)) 3), 3, "", #[], none⟩,
  ⟨(some 24), (.move (.tmp 42)), 3, "", #[], none⟩]
def F39.r11 : List Oper := [
  ⟨(some 2), (.assign (.const (.int .i64 0))), 3, "", #[], none⟩,
  ⟨(some 3), (.assign (.const (.bool false))), 4, "", #[], none⟩]
def F39.t10 : Cd := (.region 10 F39.r10.toArray false)
theorem F39.t10_eq {P : Program} {Q : Post} {e : FA} {w : World} {θ : Tag (F39.t10, Q, e, w)} : cwE P F39.t10 Q e w θ = cwE P (.region 10 F39.r10.toArray false) Q e w := rfl
def F39.t6 : Cd := (.seq (.block 3 (.seq (.region 6 F39.r6.toArray false) (.seq (.region 7 F39.r7.toArray true) (.seq (.region 8 F39.r8.toArray false) (.cond (.tmp 39) (.seq (.region 9 F39.r9.toArray false) .ret) .skip))))) F39.t10)
theorem F39.t6_eq {P : Program} {Q : Post} {e : FA} {w : World} {θ : Tag (F39.t6, Q, e, w)} : cwE P F39.t6 Q e w θ = cwE P (.seq (.block 3 (.seq (.region 6 F39.r6.toArray false) (.seq (.region 7 F39.r7.toArray true) (.seq (.region 8 F39.r8.toArray false) (.cond (.tmp 39) (.seq (.region 9 F39.r9.toArray false) .ret) .skip))))) F39.t10) Q e w := rfl
def F39.t3 : Cd := (.block 1 (.seq (.region 3 F39.r3.toArray false) (.seq (.region 4 F39.r4.toArray false) (.block 2 (.loop (.seq (.region 5 F39.r5.toArray false) (.seq (.cond (.tmp 25) .skip (.exit 2)) F39.t6)))))))
theorem F39.t3_eq {P : Program} {Q : Post} {e : FA} {w : World} {θ : Tag (F39.t3, Q, e, w)} : cwE P F39.t3 Q e w θ = cwE P (.block 1 (.seq (.region 3 F39.r3.toArray false) (.seq (.region 4 F39.r4.toArray false) (.block 2 (.loop (.seq (.region 5 F39.r5.toArray false) (.seq (.cond (.tmp 25) .skip (.exit 2)) F39.t6))))))) Q e w := rfl
def F39.t11 : Cd := (.seq (.region 11 F39.r11.toArray false) .ret)
theorem F39.t11_eq {P : Program} {Q : Post} {e : FA} {w : World} {θ : Tag (F39.t11, Q, e, w)} : cwE P F39.t11 Q e w θ = cwE P (.seq (.region 11 F39.r11.toArray false) .ret) Q e w := rfl
def F39.code : Cd := (.seq (.region 0 F39.r0.toArray false) (.seq (.seq (.region 1 F39.r1.toArray false) (.block 0 (.loop (.seq (.region 2 F39.r2.toArray false) (.seq (.cond (.tmp 16) .skip (.exit 0)) F39.t3))))) F39.t11))
theorem F39.calls {args : Array Value} {w : World} {R : Ending → World → Prop} (hn : args.size ≤ 43) (h : cwE Try.prog F39.code (fnP Try.prog #[(.tmp 2), (.tmp 3)] R) (entry args) w) : Calls Try.prog 39 args w R :=
  calls_of_cwE (types := Try.prog.types) follows Try.func39 F39.code rfl (by kernel_rfl) hn h

def F40.r0 : List Oper := [
  ⟨(some 2), (.assign (.const (.slice none 0 0))), 34, "", #[], none⟩]
def F40.r1 : List Oper := [
  ⟨(some 4), (.move (.tmp 0)), 81, "", #[], none⟩,
  ⟨(some 5), (.call ⟨(.value (.func 57)), #[(.tmp 4)], #[81]⟩), 34, "", #[⟨0, .chain⟩], none⟩,
  ⟨(some 3), (.assign (.tmp 5)), 34, "", #[], none⟩]
def F40.r2 : List Oper := [
  ⟨(some 6), (.move (.tmp 3)), 34, "", #[], none⟩,
  ⟨(some 7), (.call ⟨(.value (.func 50)), #[(.tmp 6)], #[34]⟩), 0, "", #[⟨0, .chain⟩], none⟩]
def F40.r3 : List Oper := [
  ⟨(some 8), (.move (.tmp 3)), 34, "", #[], none⟩,
  ⟨(some 2), (.assign (.tmp 8)), 34, "", #[], none⟩]
def F40.code : Cd := (.seq (.region 0 F40.r0.toArray false) (.seq (.region 1 F40.r1.toArray false) (.seq (.region 2 F40.r2.toArray false) (.seq (.region 3 F40.r3.toArray false) .ret))))
theorem F40.calls {args : Array Value} {w : World} {R : Ending → World → Prop} (hn : args.size ≤ 9) (h : cwE Try.prog F40.code (fnP Try.prog #[(.tmp 2)] R) (entry args) w) : Calls Try.prog 40 args w R :=
  calls_of_cwE (types := Try.prog.types) follows Try.func40 F40.code rfl (by kernel_rfl) hn h

def F41.r0 : List Oper := [
  ⟨(some 1), (.box 64 (.tmp 0)), 0, "", #[⟨0, .chain⟩], none⟩,
  ⟨(some 2), (.assign (.const .nilFunc)), 81, "", #[], none⟩]
def F41.r1 : List Oper := [
  ⟨(some 3), (.makeFunc (.func 58) #[] #[(.tmp 1)]), 80, "", #[], none⟩,
  ⟨(some 2), (.assign (.tmp 3)), 81, "", #[], none⟩]
def F41.code : Cd := (.seq (.region 0 F41.r0.toArray false) (.seq (.region 1 F41.r1.toArray false) .ret))
theorem F41.calls {args : Array Value} {w : World} {R : Ending → World → Prop} (hn : args.size ≤ 4) (h : cwE Try.prog F41.code (fnP Try.prog #[(.tmp 2)] R) (entry args) w) : Calls Try.prog 41 args w R :=
  calls_of_cwE (types := Try.prog.types) follows Try.func41 F41.code rfl (by kernel_rfl) hn h

def F42.r0 : List Oper := [
  ⟨(some 4), (.assign (.const (.slice none 0 0))), 69, "", #[], none⟩]
def F42.r1 : List Oper := [
  ⟨(some 8), (.move (.tmp 0)), 69, "", #[], none⟩,
  ⟨(some 9), (.move (.tmp 1)), 84, "", #[], none⟩,
  ⟨(some 10), (.call ⟨(.value (.func 51)), #[(.tmp 8), (.tmp 9)], #[69, 84]⟩), 3, "", #[⟨0, .chain⟩], none⟩,
  ⟨(some 5), (.assign (.tmp 10)), 3, "", #[], none⟩]
def F42.r2 : List Oper := [
  ⟨(some 11), (.move (.tmp 5)), 3, "", #[], none⟩,
  ⟨(some 12), (.binOp .eql 3 (.tmp 11) (.const (.int .i64 (-1))) 3), 4, "", #[], none⟩]
def F42.r3 : List Oper := [
  ⟨(some 13), (.move (.tmp 0)), 69, "", #[], none⟩,
  ⟨(some 4), (.assign (.tmp 13)), 69, "", #[], none⟩]
def F42.r4 : List Oper := [
  ⟨(some 14), (.move (.tmp 5)), 3, "", #[], none⟩,
  ⟨(some 15), (.binOp .add 3 (.tmp 14) (.const (.int .i64 1)) 3), 3, "", #[], none⟩,
  ⟨(some 6), (.assign (.tmp 15)), 3, "", #[], none⟩]
def F42.r5 : List Oper := [
  ⟨(some 16), (.move (.tmp 6)), 3, "", #[], none⟩,
  ⟨(some 17), (.move (.tmp 0)), 69, "", #[], none⟩,
  ⟨(some 18), (.call ⟨(.builtin .len), #[(.tmp 17)], #[69]⟩), 3, "", #[], none⟩,
  ⟨(some 19), (.binOp .lss 3 (.tmp 16) (.tmp 18) 3), 4, "", #[], none⟩]
def F42.r7 : List Oper := [
  ⟨(some 22), (.move (.tmp 0)), 69, "", #[], none⟩,
  ⟨(some 23), (.move (.tmp 6)), 3, "", #[], none⟩,
  ⟨(some 24), (.indexAddr 69 (.tmp 22) (.tmp 23)), 0, "", #[], none⟩,
  ⟨(some 25), (.load 74 (.tmp 24)), 74, "", #[⟨0, .data⟩], none⟩,
  ⟨(some 7), (.alloc 74), 0, "", #[⟨0, .chain⟩], none⟩,
  ⟨none, (.store 74 (.tmp 7) (.tmp 25)), 0, "", #[⟨0, .chain⟩], none⟩]
def F42.r8 : List Oper := [
  ⟨(some 26), (.move (.tmp 1)), 84, "", #[], none⟩,
  ⟨(some 27), (.load 74 (.tmp 7)), 74, "", #[⟨0, .data⟩], none⟩,
  ⟨(some 28), (.call ⟨(.value (.tmp 26)), #[(.tmp 27)], #[74]⟩), 4, "", #[⟨0, .phase⟩], none⟩,
  ⟨(some 29), (.unOp .not 4 (.tmp 28)), 4, "", #[], none⟩]
def F42.r9 : List Oper := [
  ⟨(some 30), (.move (.tmp 0)), 69, "", #[], none⟩,
  ⟨(some 31), (.move (.tmp 5)), 3, "", #[], none⟩,
  ⟨(some 32), (.load 74 (.tmp 7)), 74, "", #[⟨0, .data⟩], none⟩,
  ⟨(some 33), (.indexAddr 69 (.tmp 30) (.tmp 31)), 0, "", #[], none⟩,
  ⟨none, (.store 74 (.tmp 33) (.tmp 32)), 0, "", #[⟨0, .chain⟩], none⟩]
def F42.r10 : List Oper := [
  ⟨(some 34), (.move (.tmp 5)), 3, "", #[], none⟩,
  ⟨(some 35), (.binOp .add 3 (.tmp 34) (.const (.int .i64 1)) 3), 3, "", #[], none⟩,
  ⟨(some 5), (.assign (.tmp 35)), 3, "", #[], none⟩]
def F42.r6 : List Oper := [
  ⟨(some 20), (.move (.tmp 6)), 3, "", #[], none⟩,
  ⟨(some 21), (.binOp .add 3 (.tmp 20) (.const (.int .i64 1)) 3), 3, "", #[], none⟩,
  ⟨(some 6), (.assign (.tmp 21)), 3, "", #[], none⟩]
def F42.r11 : List Oper := [
  ⟨(some 36), (.move (.tmp 0)), 69, "", #[], none⟩,
  ⟨(some 37), (.move (.tmp 5)), 3, "", #[], none⟩,
  ⟨(some 38), (.slice 69 (.tmp 36) (some (.tmp 37)) none none), 69, "", #[], none⟩,
  ⟨none, (.call ⟨(.builtin .clear), #[(.tmp 38)], #[69]⟩), 0, "", #[⟨0, .chain⟩], none⟩]
def F42.r12 : List Oper := [
  ⟨(some 39), (.move (.tmp 0)), 69, "", #[], none⟩,
  ⟨(some 40), (.move (.tmp 5)), 3, "", #[], none⟩,
  ⟨(some 41), (.slice 69 (.tmp 39) none (some (.tmp 40)) none), 69, "", #[], none⟩,
  ⟨(some 4), (.assign (.tmp 41)), 69, "", #[], none⟩]
def F42.t6 : Cd := (.region 6 F42.r6.toArray false)
theorem F42.t6_eq {P : Program} {Q : Post} {e : FA} {w : World} {θ : Tag (F42.t6, Q, e, w)} : cwE P F42.t6 Q e w θ = cwE P (.region 6 F42.r6.toArray false) Q e w := rfl
def F42.t7 : Cd := (.seq (.block 1 (.seq (.region 7 F42.r7.toArray false) (.seq (.region 8 F42.r8.toArray false) (.cond (.tmp 29) (.seq (.region 9 F42.r9.toArray false) (.region 10 F42.r10.toArray false)) .skip)))) F42.t6)
theorem F42.t7_eq {P : Program} {Q : Post} {e : FA} {w : World} {θ : Tag (F42.t7, Q, e, w)} : cwE P F42.t7 Q e w θ = cwE P (.seq (.block 1 (.seq (.region 7 F42.r7.toArray false) (.seq (.region 8 F42.r8.toArray false) (.cond (.tmp 29) (.seq (.region 9 F42.r9.toArray false) (.region 10 F42.r10.toArray false)) .skip)))) F42.t6) Q e w := rfl
def F42.t11 : Cd := (.seq (.region 11 F42.r11.toArray false) (.seq (.region 12 F42.r12.toArray false) .ret))
theorem F42.t11_eq {P : Program} {Q : Post} {e : FA} {w : World} {θ : Tag (F42.t11, Q, e, w)} : cwE P F42.t11 Q e w θ = cwE P (.seq (.region 11 F42.r11.toArray false) (.seq (.region 12 F42.r12.toArray false) .ret)) Q e w := rfl
def F42.t4 : Cd := (.seq (.seq (.region 4 F42.r4.toArray false) (.block 0 (.loop (.seq (.seq (.region 5 F42.r5.toArray false) (.cond (.tmp 19) .skip (.exit 0))) F42.t7)))) F42.t11)
theorem F42.t4_eq {P : Program} {Q : Post} {e : FA} {w : World} {θ : Tag (F42.t4, Q, e, w)} : cwE P F42.t4 Q e w θ = cwE P (.seq (.seq (.region 4 F42.r4.toArray false) (.block 0 (.loop (.seq (.seq (.region 5 F42.r5.toArray false) (.cond (.tmp 19) .skip (.exit 0))) F42.t7)))) F42.t11) Q e w := rfl
def F42.code : Cd := (.seq (.region 0 F42.r0.toArray false) (.seq (.region 1 F42.r1.toArray false) (.seq (.seq (.region 2 F42.r2.toArray false) (.cond (.tmp 12) (.seq (.region 3 F42.r3.toArray false) .ret) .skip)) F42.t4)))
theorem F42.calls {args : Array Value} {w : World} {R : Ending → World → Prop} (hn : args.size ≤ 42) (h : cwE Try.prog F42.code (fnP Try.prog #[(.tmp 4)] R) (entry args) w) : Calls Try.prog 42 args w R :=
  calls_of_cwE (types := Try.prog.types) follows Try.func42 F42.code rfl (by kernel_rfl) hn h

end Go.Proofs.Ytacmnfpgimgigaa

/- The compiled code of the functions, by program (genir.py): each with the theorem that it is what the engine makes of the loaded program's. -/
import Derived.Test.YtacmnfpgimgigaaSl2
import Derived.Test.YtacmnfpgimgigaaProg
namespace Go.Proofs.Ytacmnfpgimgigaa
open Go
set_option maxRecDepth 100000

theorem follows : Try.prog.follows .mixedOrders = true := by kernel_rfl

theorem fact_aggSz_23 : aggSz Try.prog 23 = some none := by kernel_rfl
theorem fact_aggSz_24 : aggSz Try.prog 24 = some none := by kernel_rfl
theorem fact_aggSz_26 : aggSz Try.prog 26 = some (some 3) := by kernel_rfl
theorem fact_aggSz_3 : aggSz Try.prog 3 = some none := by kernel_rfl
theorem fact_aggSz_38 : aggSz Try.prog 38 = some (some 4) := by kernel_rfl
theorem fact_aggSz_4 : aggSz Try.prog 4 = some none := by kernel_rfl
theorem fact_aggSz_63 : aggSz Try.prog 63 = some none := by kernel_rfl
theorem fact_aggSz_64 : aggSz Try.prog 64 = some none := by kernel_rfl
theorem fact_aggSz_69 : aggSz Try.prog 69 = some none := by kernel_rfl
theorem fact_aggSz_74 : aggSz Try.prog 74 = some (some 2) := by kernel_rfl
theorem fact_bldP_26 : bldP Try.prog 26 = some ([.int .u8 0, .int .i64 0, .int .u64 0], some [(0, 1), (1, 1), (2, 1)], 0) := by kernel_rfl
theorem fact_bldP_38 : bldP Try.prog 38 = some ([.int .u8 0, .int .i64 0, .int .u64 0, .bool false], some [(0, 3), (3, 1)], 0) := by kernel_rfl
theorem fact_bldP_66 : bldP Try.prog 66 = some ([.map none, .map none], some [(0, 1), (1, 1)], 0) := by kernel_rfl
theorem fact_bldP_71 : bldP Try.prog 71 = some ([.slice none 0 0, .slice none 0 0], some [(0, 1), (1, 1)], 0) := by kernel_rfl
theorem fact_bldP_74 : bldP Try.prog 74 = some ([.int .i64 0, .bool false], some [(0, 1), (1, 1)], 0) := by kernel_rfl
theorem fact_elemOf_34 : elemOf? Try.prog 34 = some (none, 1) := by kernel_rfl
theorem fact_elemOf_69 : elemOf? Try.prog 69 = some (none, 2) := by kernel_rfl
theorem fact_fieldOff_26_0 : fieldOff Try.prog 26 0 = some 0 := by kernel_rfl
theorem fact_fieldOff_26_1 : fieldOff Try.prog 26 1 = some 1 := by kernel_rfl
theorem fact_fieldOff_26_2 : fieldOff Try.prog 26 2 = some 2 := by kernel_rfl
theorem fact_fieldOff_38_0 : fieldOff Try.prog 38 0 = some 0 := by kernel_rfl
theorem fact_fieldOff_38_1 : fieldOff Try.prog 38 1 = some 3 := by kernel_rfl
theorem fact_fieldOff_66_0 : fieldOff Try.prog 66 0 = some 0 := by kernel_rfl
theorem fact_fieldOff_66_1 : fieldOff Try.prog 66 1 = some 1 := by kernel_rfl
theorem fact_fieldOff_71_0 : fieldOff Try.prog 71 0 = some 0 := by kernel_rfl
theorem fact_fieldOff_71_1 : fieldOff Try.prog 71 1 = some 1 := by kernel_rfl
theorem fact_fieldOff_74_0 : fieldOff Try.prog 74 0 = some 0 := by kernel_rfl
theorem fact_fieldOff_74_1 : fieldOff Try.prog 74 1 = some 1 := by kernel_rfl
theorem fact_flatE_26 : flatE Try.prog 26 = some [.int, .int, .int] := by kernel_rfl
theorem fact_fnOk_10 : fnOk Try.prog 10 = true := by kernel_rfl
theorem fact_fnOk_11 : fnOk Try.prog 11 = true := by kernel_rfl
theorem fact_fnOk_12 : fnOk Try.prog 12 = true := by kernel_rfl
theorem fact_fnOk_13 : fnOk Try.prog 13 = true := by kernel_rfl
theorem fact_fnOk_14 : fnOk Try.prog 14 = true := by kernel_rfl
theorem fact_fnOk_20 : fnOk Try.prog 20 = true := by kernel_rfl
theorem fact_fnOk_25 : fnOk Try.prog 25 = true := by kernel_rfl
theorem fact_fnOk_27 : fnOk Try.prog 27 = true := by kernel_rfl
theorem fact_fnOk_28 : fnOk Try.prog 28 = true := by kernel_rfl
theorem fact_fnOk_29 : fnOk Try.prog 29 = true := by kernel_rfl
theorem fact_fnOk_30 : fnOk Try.prog 30 = true := by kernel_rfl
theorem fact_fnOk_31 : fnOk Try.prog 31 = true := by kernel_rfl
theorem fact_fnOk_32 : fnOk Try.prog 32 = true := by kernel_rfl
theorem fact_fnOk_33 : fnOk Try.prog 33 = true := by kernel_rfl
theorem fact_fnOk_35 : fnOk Try.prog 35 = true := by kernel_rfl
theorem fact_fnOk_44 : fnOk Try.prog 44 = true := by kernel_rfl
theorem fact_fnOk_45 : fnOk Try.prog 45 = true := by kernel_rfl
theorem fact_fnOk_46 : fnOk Try.prog 46 = true := by kernel_rfl
theorem fact_fnOk_47 : fnOk Try.prog 47 = true := by kernel_rfl
theorem fact_fnOk_48 : fnOk Try.prog 48 = true := by kernel_rfl
theorem fact_fnOk_49 : fnOk Try.prog 49 = true := by kernel_rfl
theorem fact_fnOk_51 : fnOk Try.prog 51 = true := by kernel_rfl
theorem fact_fnOk_52 : fnOk Try.prog 52 = true := by kernel_rfl
theorem fact_fnOk_9 : fnOk Try.prog 9 = true := by kernel_rfl
theorem fact_rowTy_34 : rowTy Try.prog 34 = some (3, 1, 8, [.int .i64 0]) := by kernel_rfl
theorem fact_rowTy_69 : rowTy Try.prog 69 = some (74, 2, 16, [.int .i64 0, .bool false]) := by kernel_rfl
theorem fact_szO_26 : szO Try.prog 26 = some 3 := by kernel_rfl
theorem fact_szO_38 : szO Try.prog 38 = some 4 := by kernel_rfl
theorem fact_szO_69 : szO Try.prog 69 = some 1 := by kernel_rfl
theorem fact_szO_74 : szO Try.prog 74 = some 2 := by kernel_rfl
theorem fact_zeroV_26 : zeroV Try.prog 26 = some (.agg #[.int .u8 0, .int .i64 0, .int .u64 0]) := by kernel_rfl
theorem fact_zeroV_38 : zeroV Try.prog 38 = some (.agg #[.int .u8 0, .int .i64 0, .int .u64 0, .bool false]) := by kernel_rfl
theorem fact_zeroV_74 : zeroV Try.prog 74 = some (.agg #[.int .i64 0, .bool false]) := by kernel_rfl

def F3.r0 : List Oper := [
  ⟨(some 0), (.assign (.const (.bool false))), 4, "", #[], none⟩]
def F3.r1 : List Oper := [
  ⟨(some 1), (.move (.const (.bool true))), 4, "", #[], none⟩,
  ⟨(some 2), (.call ⟨(.value (.func 9)), #[], #[]⟩), 4, "", #[⟨0, .chain⟩], (some (1, true))⟩,
  ⟨(some 3), (.pick (.tmp 1) (.tmp 2) (.const (.bool false))), 4, "", #[], none⟩,
  ⟨(some 0), (.assign (.tmp 3)), 4, "", #[], none⟩]
def F3.code : Code := (.seq (.region 0 F3.r0.toArray false) (.seq (.region 1 F3.r1.toArray false) .ret))
theorem F3.calls {args : Array Value} {w : World} {R : Ending → World → Prop} (hn : args.size ≤ 4) (h : cwE Try.prog F3.code (fnP Try.prog #[(.tmp 0)] R) (entry args) w) : Calls Try.prog 3 args w R :=
  calls_of_cwE (types := Try.prog.types) follows Try.func3 F3.code rfl (by kernel_rfl) hn h

def F4.r0 : List Oper := [
  ⟨(some 3), (.box 26 (.tmp 0)), 0, "", #[⟨0, .chain⟩], none⟩,
  ⟨(some 4), (.box 26 (.tmp 1)), 0, "", #[⟨0, .chain⟩], none⟩,
  ⟨(some 5), (.box 26 (.tmp 2)), 0, "", #[⟨0, .chain⟩], none⟩,
  ⟨(some 6), (.assign (.const (.bool false))), 4, "", #[], none⟩]
def F4.r1 : List Oper := [
  ⟨(some 11), (.call ⟨(.value (.func 9)), #[], #[]⟩), 4, "", #[⟨0, .chain⟩], none⟩,
  ⟨(some 7), (.assign (.tmp 11)), 4, "", #[], none⟩]
def F4.r2 : List Oper := [
  ⟨(some 12), (.load 26 (.tmp 3)), 26, "", #[⟨0, .data⟩], none⟩,
  ⟨(some 13), (.load 26 (.tmp 4)), 26, "", #[⟨0, .data⟩], none⟩,
  ⟨(some 14), (.call ⟨(.value (.func 10)), #[(.tmp 12), (.tmp 13)], #[26, 26]⟩), 3, "", #[⟨0, .chain⟩], none⟩,
  ⟨(some 8), (.assign (.tmp 14)), 3, "", #[], none⟩]
def F4.r3 : List Oper := [
  ⟨(some 15), (.load 26 (.tmp 4)), 26, "", #[⟨0, .data⟩], none⟩,
  ⟨(some 16), (.load 26 (.tmp 5)), 26, "", #[⟨0, .data⟩], none⟩,
  ⟨(some 17), (.call ⟨(.value (.func 10)), #[(.tmp 15), (.tmp 16)], #[26, 26]⟩), 3, "", #[⟨0, .chain⟩], none⟩,
  ⟨(some 9), (.assign (.tmp 17)), 3, "", #[], none⟩]
def F4.r4 : List Oper := [
  ⟨(some 18), (.load 26 (.tmp 3)), 26, "", #[⟨0, .data⟩], none⟩,
  ⟨(some 19), (.load 26 (.tmp 5)), 26, "", #[⟨0, .data⟩], none⟩,
  ⟨(some 20), (.call ⟨(.value (.func 10)), #[(.tmp 18), (.tmp 19)], #[26, 26]⟩), 3, "", #[⟨0, .chain⟩], none⟩,
  ⟨(some 10), (.assign (.tmp 20)), 3, "", #[], none⟩]
def F4.r5 : List Oper := [
  ⟨(some 21), (.move (.tmp 8)), 3, "", #[], none⟩,
  ⟨(some 22), (.load 26 (.tmp 3)), 26, "", #[⟨0, .data⟩], none⟩,
  ⟨(some 23), (.load 26 (.tmp 4)), 26, "", #[⟨0, .data⟩], none⟩,
  ⟨(some 24), (.call ⟨(.value (.func 11)), #[(.tmp 22), (.tmp 23)], #[26, 26]⟩), 3, "", #[⟨0, .chain⟩], none⟩,
  ⟨(some 25), (.binOp .neq 3 (.tmp 21) (.tmp 24) 3), 4, "", #[], none⟩,
  ⟨(some 26), (.move (.tmp 25)), 4, "", #[], none⟩,
  ⟨(some 27), (.move (.tmp 9)), 3, "", #[], (some (26, false))⟩,
  ⟨(some 28), (.load 26 (.tmp 4)), 26, "", #[⟨0, .data⟩], (some (26, false))⟩,
  ⟨(some 29), (.load 26 (.tmp 5)), 26, "", #[⟨0, .data⟩], (some (26, false))⟩,
  ⟨(some 30), (.call ⟨(.value (.func 11)), #[(.tmp 28), (.tmp 29)], #[26, 26]⟩), 3, "", #[⟨0, .chain⟩], (some (26, false))⟩,
  ⟨(some 31), (.binOp .neq 3 (.tmp 27) (.tmp 30) 3), 4, "", #[], (some (26, false))⟩,
  ⟨(some 32), (.pick (.tmp 26) (.const (.bool true)) (.tmp 31)), 4, "", #[], none⟩,
  ⟨(some 33), (.move (.tmp 32)), 4, "", #[], none⟩,
  ⟨(some 34), (.move (.tmp 10)), 3, "", #[], (some (33, false))⟩,
  ⟨(some 35), (.load 26 (.tmp 3)), 26, "", #[⟨0, .data⟩], (some (33, false))⟩,
  ⟨(some 36), (.load 26 (.tmp 5)), 26, "", #[⟨0, .data⟩], (some (33, false))⟩,
  ⟨(some 37), (.call ⟨(.value (.func 11)), #[(.tmp 35), (.tmp 36)], #[26, 26]⟩), 3, "", #[⟨0, .chain⟩], (some (33, false))⟩,
  ⟨(some 38), (.binOp .neq 3 (.tmp 34) (.tmp 37) 3), 4, "", #[], (some (33, false))⟩,
  ⟨(some 39), (.pick (.tmp 33) (.const (.bool true)) (.tmp 38)), 4, "", #[], none⟩]
def F4.r6 : List Oper := [
  ⟨(some 6), (.assign (.const (.bool false))), 4, "", #[], none⟩]
def F4.r7 : List Oper := [
  ⟨(some 40), (.move (.tmp 8)), 3, "", #[], none⟩,
  ⟨(some 41), (.binOp .leq 3 (.tmp 40) (.const (.int .i64 0)) 3), 4, "", #[], none⟩,
  ⟨(some 42), (.move (.tmp 41)), 4, "", #[], none⟩,
  ⟨(some 43), (.move (.tmp 9)), 3, "", #[], (some (42, true))⟩,
  ⟨(some 44), (.binOp .leq 3 (.tmp 43) (.const (.int .i64 0)) 3), 4, "", #[], (some (42, true))⟩,
  ⟨(some 45), (.pick (.tmp 42) (.tmp 44) (.const (.bool false))), 4, "", #[], none⟩,
  ⟨(some 46), (.move (.tmp 45)), 4, "", #[], none⟩,
  ⟨(some 47), (.move (.tmp 10)), 3, "", #[], (some (46, true))⟩,
  ⟨(some 48), (.binOp .gtr 3 (.tmp 47) (.const (.int .i64 0)) 3), 4, "", #[], (some (46, true))⟩,
  ⟨(some 49), (.pick (.tmp 46) (.tmp 48) (.const (.bool false))), 4, "", #[], none⟩,
  ⟨(some 50), (.move (.tmp 49)), 4, "", #[], none⟩,
  ⟨(some 51), (.move (.tmp 8)), 3, "", #[], (some (50, false))⟩,
  ⟨(some 52), (.binOp .lss 3 (.tmp 51) (.const (.int .i64 0)) 3), 4, "", #[], (some (50, false))⟩,
  ⟨(some 53), (.move (.tmp 52)), 4, "", #[], (some (50, false))⟩,
  ⟨(some 54), (.move (.tmp 9)), 3, "", #[], (some (53, true))⟩,
  ⟨(some 55), (.binOp .leq 3 (.tmp 54) (.const (.int .i64 0)) 3), 4, "", #[], (some (53, true))⟩,
  ⟨(some 56), (.pick (.tmp 53) (.tmp 55) (.const (.bool false))), 4, "", #[], (some (50, false))⟩,
  ⟨(some 57), (.move (.tmp 56)), 4, "", #[], (some (50, false))⟩,
  ⟨(some 58), (.move (.tmp 10)), 3, "", #[], (some (57, true))⟩,
  ⟨(some 59), (.binOp .geq 3 (.tmp 58) (.const (.int .i64 0)) 3), 4, "", #[], (some (57, true))⟩,
  ⟨(some 60), (.pick (.tmp 57) (.tmp 59) (.const (.bool false))), 4, "", #[], (some (50, false))⟩,
  ⟨(some 61), (.pick (.tmp 50) (.const (.bool true)) (.tmp 60)), 4, "", #[], none⟩]
def F4.r8 : List Oper := [
  ⟨(some 6), (.assign (.const (.bool false))), 4, "", #[], none⟩]
def F4.r9 : List Oper := [
  ⟨(some 62), (.move (.tmp 7)), 4, "", #[], none⟩,
  ⟨(some 63), (.move (.tmp 62)), 4, "", #[], none⟩,
  ⟨(some 64), (.load 26 (.tmp 4)), 26, "", #[⟨0, .data⟩], (some (63, true))⟩,
  ⟨(some 65), (.load 26 (.tmp 3)), 26, "", #[⟨0, .data⟩], (some (63, true))⟩,
  ⟨(some 66), (.call ⟨(.value (.func 10)), #[(.tmp 64), (.tmp 65)], #[26, 26]⟩), 3, "", #[⟨0, .chain⟩], (some (63, true))⟩,
  ⟨(some 67), (.move (.tmp 8)), 3, "", #[], (some (63, true))⟩,
  ⟨(some 68), (.unOp .neg 3 (.tmp 67)), 3, "", #[], (some (63, true))⟩,
  ⟨(some 69), (.binOp .eql 3 (.tmp 66) (.tmp 68) 3), 4, "", #[], (some (63, true))⟩,
  ⟨(some 70), (.pick (.tmp 63) (.tmp 69) (.const (.bool false))), 4, "", #[], none⟩,
  ⟨(some 71), (.move (.tmp 70)), 4, "", #[], none⟩,
  ⟨(some 72), (.move (.tmp 8)), 3, "", #[], (some (71, true))⟩,
  ⟨(some 73), (.binOp .eql 3 (.tmp 72) (.const (.int .i64 0)) 3), 4, "", #[], (some (71, true))⟩,
  ⟨(some 74), (.load 26 (.tmp 3)), 26, "", #[⟨0, .data⟩], (some (71, true))⟩,
  ⟨(some 75), (.load 26 (.tmp 4)), 26, "", #[⟨0, .data⟩], (some (71, true))⟩,
  ⟨(some 76), (.binOp .eql 26 (.tmp 74) (.tmp 75) 26), 4, "", #[], (some (71, true))⟩,
  ⟨(some 77), (.binOp .eql 4 (.tmp 73) (.tmp 76) 4), 4, "", #[], (some (71, true))⟩,
  ⟨(some 78), (.pick (.tmp 71) (.tmp 77) (.const (.bool false))), 4, "", #[], none⟩,
  ⟨(some 6), (.assign (.tmp 78)), 4, "", #[], none⟩]
def F4.t9 : Code := (.seq (.region 9 F4.r9.toArray false) .ret)
theorem F4.t9_eq {P : Program} {Q : Post} {e : FA} {w : World} {θ : Tag (F4.t9, Q, e, w)} : cwE P F4.t9 Q e w θ = cwE P (.seq (.region 9 F4.r9.toArray false) .ret) Q e w := rfl
def F4.t7 : Code := (.seq (.seq (.region 7 F4.r7.toArray false) (.cond (.tmp 61) (.seq (.region 8 F4.r8.toArray false) .ret) .skip)) F4.t9)
theorem F4.t7_eq {P : Program} {Q : Post} {e : FA} {w : World} {θ : Tag (F4.t7, Q, e, w)} : cwE P F4.t7 Q e w θ = cwE P (.seq (.seq (.region 7 F4.r7.toArray false) (.cond (.tmp 61) (.seq (.region 8 F4.r8.toArray false) .ret) .skip)) F4.t9) Q e w := rfl
def F4.code : Code := (.seq (.region 0 F4.r0.toArray false) (.seq (.region 1 F4.r1.toArray false) (.seq (.region 2 F4.r2.toArray false) (.seq (.region 3 F4.r3.toArray false) (.seq (.region 4 F4.r4.toArray false) (.seq (.seq (.region 5 F4.r5.toArray false) (.cond (.tmp 39) (.seq (.region 6 F4.r6.toArray false) .ret) .skip)) F4.t7))))))
theorem F4.calls {args : Array Value} {w : World} {R : Ending → World → Prop} (hn : args.size ≤ 79) (h : cwE Try.prog F4.code (fnP Try.prog #[(.tmp 6)] R) (entry args) w) : Calls Try.prog 4 args w R :=
  calls_of_cwE (types := Try.prog.types) follows Try.func4 F4.code rfl (by kernel_rfl) hn h

def F9.r0 : List Oper := [
  ⟨(some 0), (.assign (.const (.bool false))), 4, "", #[], none⟩]
def F9.r1 : List Oper := [
  ⟨(some 18), (.call ⟨(.value (.func 12)), #[], #[]⟩), 30, "", #[⟨0, .chain⟩], none⟩,
  ⟨(some 1), (.assign (.tmp 18)), 30, "", #[], none⟩]
def F9.r2 : List Oper := [
  ⟨(some 19), (.move (.tmp 1)), 30, "", #[], none⟩,
  ⟨(some 20), (.binOp .eql 30 (.tmp 19) (.const (.pointer none)) 30), 4, "", #[], none⟩]
def F9.r3 : List Oper := [
  ⟨(some 0), (.assign (.const (.bool false))), 4, "", #[], none⟩]
def F9.r4 : List Oper := [
  ⟨(some 21), (.call ⟨(.value (.func 14)), #[(.const (.int .i64 5))], #[3]⟩), 26, "", #[⟨0, .chain⟩], none⟩,
  ⟨(some 2), (.alloc 26), 0, "", #[⟨0, .chain⟩], none⟩,
  ⟨none, (.store 26 (.tmp 2) (.tmp 21)), 0, "", #[⟨0, .chain⟩], none⟩]
def F9.r5 : List Oper := [
  ⟨(some 23), (.move (.tmp 1)), 30, "", #[], none⟩,
  ⟨(some 24), (.load 26 (.tmp 2)), 26, "", #[⟨0, .data⟩], none⟩,
  ⟨(some 25), (.build 38 #[(0, (.tmp 24))]), 38, "", #[], none⟩,
  ⟨(some 26), (.call ⟨(.value (.func 27)), #[(.tmp 23), (.const (.int .i64 1)), (.tmp 25)], #[30, 3, 38]⟩), 56, "", #[⟨0, .chain⟩], none⟩,
  ⟨(some 22), (.move (.tmp 26)), 56, "", #[], none⟩,
  ⟨(some 27), (.extract (.tmp 22) 0), 4, "", #[], none⟩,
  ⟨(some 28), (.extract (.tmp 22) 1), 55, "", #[], none⟩,
  ⟨(some 3), (.assign (.tmp 27)), 4, "", #[], none⟩,
  ⟨(some 4), (.assign (.tmp 28)), 55, "", #[], none⟩]
def F9.r6 : List Oper := [
  ⟨(some 30), (.move (.tmp 1)), 30, "", #[], none⟩,
  ⟨(some 31), (.load 26 (.tmp 2)), 26, "", #[⟨0, .data⟩], none⟩,
  ⟨(some 32), (.build 38 #[(0, (.tmp 31))]), 38, "", #[], none⟩,
  ⟨(some 33), (.call ⟨(.value (.func 27)), #[(.tmp 30), (.const (.int .i64 2)), (.tmp 32)], #[30, 3, 38]⟩), 56, "", #[⟨0, .chain⟩], none⟩,
  ⟨(some 29), (.move (.tmp 33)), 56, "", #[], none⟩,
  ⟨(some 34), (.extract (.tmp 29) 0), 4, "", #[], none⟩,
  ⟨(some 35), (.extract (.tmp 29) 1), 55, "", #[], none⟩,
  ⟨(some 5), (.assign (.tmp 34)), 4, "", #[], none⟩,
  ⟨(some 6), (.assign (.tmp 35)), 55, "", #[], none⟩]
def F9.r7 : List Oper := [
  ⟨(some 37), (.move (.tmp 1)), 30, "", #[], none⟩,
  ⟨(some 38), (.load 26 (.tmp 2)), 26, "", #[⟨0, .data⟩], none⟩,
  ⟨(some 39), (.build 38 #[(0, (.tmp 38)), (1, (.const (.bool true)))]), 38, "", #[], none⟩,
  ⟨(some 40), (.call ⟨(.value (.func 27)), #[(.tmp 37), (.const (.int .i64 3)), (.tmp 39)], #[30, 3, 38]⟩), 56, "", #[⟨0, .chain⟩], none⟩,
  ⟨(some 36), (.move (.tmp 40)), 56, "", #[], none⟩,
  ⟨(some 41), (.extract (.tmp 36) 0), 4, "", #[], none⟩,
  ⟨(some 42), (.extract (.tmp 36) 1), 55, "", #[], none⟩,
  ⟨(some 7), (.assign (.tmp 41)), 4, "", #[], none⟩,
  ⟨(some 8), (.assign (.tmp 42)), 55, "", #[], none⟩]
def F9.r8 : List Oper := [
  ⟨(some 44), (.move (.tmp 1)), 30, "", #[], none⟩,
  ⟨(some 45), (.load 26 (.tmp 2)), 26, "", #[⟨0, .data⟩], none⟩,
  ⟨(some 46), (.build 38 #[(0, (.tmp 45))]), 38, "", #[], none⟩,
  ⟨(some 47), (.call ⟨(.value (.func 27)), #[(.tmp 44), (.const (.int .i64 4)), (.tmp 46)], #[30, 3, 38]⟩), 56, "", #[⟨0, .chain⟩], none⟩,
  ⟨(some 43), (.move (.tmp 47)), 56, "", #[], none⟩,
  ⟨(some 48), (.extract (.tmp 43) 0), 4, "", #[], none⟩,
  ⟨(some 49), (.extract (.tmp 43) 1), 55, "", #[], none⟩,
  ⟨(some 9), (.assign (.tmp 48)), 4, "", #[], none⟩,
  ⟨(some 10), (.assign (.tmp 49)), 55, "", #[], none⟩]
def F9.r9 : List Oper := [
  ⟨(some 50), (.move (.tmp 3)), 4, "", #[], none⟩,
  ⟨(some 51), (.unOp .not 4 (.tmp 50)), 4, "", #[], none⟩,
  ⟨(some 52), (.move (.tmp 51)), 4, "", #[], none⟩,
  ⟨(some 53), (.move (.tmp 5)), 4, "", #[], (some (52, false))⟩,
  ⟨(some 54), (.unOp .not 4 (.tmp 53)), 4, "", #[], (some (52, false))⟩,
  ⟨(some 55), (.pick (.tmp 52) (.const (.bool true)) (.tmp 54)), 4, "", #[], none⟩,
  ⟨(some 56), (.move (.tmp 55)), 4, "", #[], none⟩,
  ⟨(some 57), (.move (.tmp 7)), 4, "", #[], (some (56, false))⟩,
  ⟨(some 58), (.pick (.tmp 56) (.const (.bool true)) (.tmp 57)), 4, "", #[], none⟩,
  ⟨(some 59), (.move (.tmp 58)), 4, "", #[], none⟩,
  ⟨(some 60), (.move (.tmp 9)), 4, "", #[], (some (59, false))⟩,
  ⟨(some 61), (.pick (.tmp 59) (.const (.bool true)) (.tmp 60)), 4, "", #[], none⟩,
  ⟨(some 62), (.move (.tmp 61)), 4, "", #[], none⟩,
  ⟨(some 63), (.move (.tmp 4)), 55, "", #[], (some (62, false))⟩,
  ⟨(some 64), (.binOp .neq 55 (.tmp 63) (.const (.int .i64 0)) 55), 4, "", #[], (some (62, false))⟩,
  ⟨(some 65), (.pick (.tmp 62) (.const (.bool true)) (.tmp 64)), 4, "", #[], none⟩,
  ⟨(some 66), (.move (.tmp 65)), 4, "", #[], none⟩,
  ⟨(some 67), (.move (.tmp 6)), 55, "", #[], (some (66, false))⟩,
  ⟨(some 68), (.binOp .neq 55 (.tmp 67) (.const (.int .i64 0)) 55), 4, "", #[], (some (66, false))⟩,
  ⟨(some 69), (.pick (.tmp 66) (.const (.bool true)) (.tmp 68)), 4, "", #[], none⟩,
  ⟨(some 70), (.move (.tmp 69)), 4, "", #[], none⟩,
  ⟨(some 71), (.move (.tmp 8)), 55, "", #[], (some (70, false))⟩,
  ⟨(some 72), (.binOp .neq 55 (.tmp 71) (.const (.int .i64 0)) 55), 4, "", #[], (some (70, false))⟩,
  ⟨(some 73), (.pick (.tmp 70) (.const (.bool true)) (.tmp 72)), 4, "", #[], none⟩,
  ⟨(some 74), (.move (.tmp 73)), 4, "", #[], none⟩,
  ⟨(some 75), (.move (.tmp 10)), 55, "", #[], (some (74, false))⟩,
  ⟨(some 76), (.binOp .neq 55 (.tmp 75) (.const (.int .i64 0)) 55), 4, "", #[], (some (74, false))⟩,
  ⟨(some 77), (.pick (.tmp 74) (.const (.bool true)) (.tmp 76)), 4, "", #[], none⟩]
def F9.r10 : List Oper := [
  ⟨(some 0), (.assign (.const (.bool false))), 4, "", #[], none⟩]
def F9.r11 : List Oper := [
  ⟨(some 78), (.move (.tmp 1)), 30, "", #[], none⟩,
  ⟨(some 79), (.load 26 (.tmp 2)), 26, "", #[⟨0, .data⟩], none⟩,
  ⟨(some 80), (.call ⟨(.value (.func 13)), #[(.tmp 78), (.tmp 79)], #[30, 26]⟩), 34, "", #[⟨0, .chain⟩], none⟩,
  ⟨(some 11), (.assign (.tmp 80)), 34, "", #[], none⟩]
def F9.r12 : List Oper := [
  ⟨(some 82), (.move (.tmp 1)), 30, "", #[], none⟩,
  ⟨(some 83), (.load 26 (.tmp 2)), 26, "", #[⟨0, .data⟩], none⟩,
  ⟨(some 84), (.call ⟨(.value (.func 28)), #[(.tmp 82), (.const (.int .i64 1)), (.tmp 83)], #[30, 3, 26]⟩), 58, "", #[⟨0, .chain⟩], none⟩,
  ⟨(some 81), (.move (.tmp 84)), 58, "", #[], none⟩,
  ⟨(some 85), (.extract (.tmp 81) 0), 34, "", #[], none⟩,
  ⟨(some 86), (.extract (.tmp 81) 1), 55, "", #[], none⟩,
  ⟨(some 12), (.assign (.tmp 85)), 34, "", #[], none⟩,
  ⟨(some 13), (.assign (.tmp 86)), 55, "", #[], none⟩]
def F9.r13 : List Oper := [
  ⟨(some 88), (.move (.tmp 1)), 30, "", #[], none⟩,
  ⟨(some 89), (.load 26 (.tmp 2)), 26, "", #[⟨0, .data⟩], none⟩,
  ⟨(some 90), (.call ⟨(.value (.func 28)), #[(.tmp 88), (.const (.int .i64 2)), (.tmp 89)], #[30, 3, 26]⟩), 58, "", #[⟨0, .chain⟩], none⟩,
  ⟨(some 87), (.move (.tmp 90)), 58, "", #[], none⟩,
  ⟨(some 91), (.extract (.tmp 87) 0), 34, "", #[], none⟩,
  ⟨(some 92), (.extract (.tmp 87) 1), 55, "", #[], none⟩,
  ⟨(some 14), (.assign (.tmp 91)), 34, "", #[], none⟩,
  ⟨(some 15), (.assign (.tmp 92)), 55, "", #[], none⟩]
def F9.r14 : List Oper := [
  ⟨(some 94), (.move (.tmp 1)), 30, "", #[], none⟩,
  ⟨(some 95), (.load 26 (.tmp 2)), 26, "", #[⟨0, .data⟩], none⟩,
  ⟨(some 96), (.call ⟨(.value (.func 28)), #[(.tmp 94), (.const (.int .i64 3)), (.tmp 95)], #[30, 3, 26]⟩), 58, "", #[⟨0, .chain⟩], none⟩,
  ⟨(some 93), (.move (.tmp 96)), 58, "", #[], none⟩,
  ⟨(some 97), (.extract (.tmp 93) 0), 34, "", #[], none⟩,
  ⟨(some 98), (.extract (.tmp 93) 1), 55, "", #[], none⟩,
  ⟨(some 16), (.assign (.tmp 97)), 34, "", #[], none⟩,
  ⟨(some 17), (.assign (.tmp 98)), 55, "", #[], none⟩]
def F9.r15 : List Oper := [
  ⟨(some 99), (.move (.tmp 11)), 34, "", #[], none⟩,
  ⟨(some 100), (.buildSlice 34 2 #[(0, (.const (.int .i64 3))), (1, (.const (.int .i64 4)))]), 34, "", #[⟨0, .chain⟩], none⟩,
  ⟨(some 101), (.call ⟨(.value (.func 20)), #[(.tmp 99), (.tmp 100)], #[34, 34]⟩), 4, "", #[⟨0, .chain⟩], none⟩,
  ⟨(some 102), (.move (.tmp 101)), 4, "", #[], none⟩,
  ⟨(some 103), (.move (.tmp 12)), 34, "", #[], (some (102, true))⟩,
  ⟨(some 104), (.call ⟨(.builtin .len), #[(.tmp 103)], #[34]⟩), 3, "", #[], (some (102, true))⟩,
  ⟨(some 105), (.binOp .eql 3 (.tmp 104) (.const (.int .i64 0)) 3), 4, "", #[], (some (102, true))⟩,
  ⟨(some 106), (.pick (.tmp 102) (.tmp 105) (.const (.bool false))), 4, "", #[], none⟩,
  ⟨(some 107), (.move (.tmp 106)), 4, "", #[], none⟩,
  ⟨(some 108), (.move (.tmp 14)), 34, "", #[], (some (107, true))⟩,
  ⟨(some 109), (.buildSlice 34 1 #[(0, (.const (.int .i64 3)))]), 34, "", #[⟨0, .chain⟩], (some (107, true))⟩,
  ⟨(some 110), (.call ⟨(.value (.func 20)), #[(.tmp 108), (.tmp 109)], #[34, 34]⟩), 4, "", #[⟨0, .chain⟩], (some (107, true))⟩,
  ⟨(some 111), (.pick (.tmp 107) (.tmp 110) (.const (.bool false))), 4, "", #[], none⟩,
  ⟨(some 112), (.move (.tmp 111)), 4, "", #[], none⟩,
  ⟨(some 113), (.move (.tmp 16)), 34, "", #[], (some (112, true))⟩,
  ⟨(some 114), (.buildSlice 34 1 #[(0, (.const (.int .i64 4)))]), 34, "", #[⟨0, .chain⟩], (some (112, true))⟩,
  ⟨(some 115), (.call ⟨(.value (.func 20)), #[(.tmp 113), (.tmp 114)], #[34, 34]⟩), 4, "", #[⟨0, .chain⟩], (some (112, true))⟩,
  ⟨(some 116), (.pick (.tmp 112) (.tmp 115) (.const (.bool false))), 4, "", #[], none⟩,
  ⟨(some 117), (.move (.tmp 116)), 4, "", #[], none⟩,
  ⟨(some 118), (.move (.tmp 1)), 30, "", #[], (some (117, true))⟩,
  ⟨(some 119), (.call ⟨(.value (.func 25)), #[(.tmp 118)], #[30]⟩), 4, "", #[⟨0, .chain⟩], (some (117, true))⟩,
  ⟨(some 120), (.unOp .not 4 (.tmp 119)), 4, "", #[], (some (117, true))⟩,
  ⟨(some 121), (.pick (.tmp 117) (.tmp 120) (.const (.bool false))), 4, "", #[], none⟩,
  ⟨(some 0), (.assign (.tmp 121)), 4, "", #[], none⟩]
def F9.t11 : Code := (.seq (.region 11 F9.r11.toArray false) (.seq (.region 12 F9.r12.toArray false) (.seq (.region 13 F9.r13.toArray false) (.seq (.region 14 F9.r14.toArray false) (.seq (.region 15 F9.r15.toArray false) .ret)))))
theorem F9.t11_eq {P : Program} {Q : Post} {e : FA} {w : World} {θ : Tag (F9.t11, Q, e, w)} : cwE P F9.t11 Q e w θ = cwE P (.seq (.region 11 F9.r11.toArray false) (.seq (.region 12 F9.r12.toArray false) (.seq (.region 13 F9.r13.toArray false) (.seq (.region 14 F9.r14.toArray false) (.seq (.region 15 F9.r15.toArray false) .ret))))) Q e w := rfl
def F9.t4 : Code := (.seq (.region 4 F9.r4.toArray false) (.seq (.region 5 F9.r5.toArray false) (.seq (.region 6 F9.r6.toArray false) (.seq (.region 7 F9.r7.toArray false) (.seq (.region 8 F9.r8.toArray false) (.seq (.seq (.region 9 F9.r9.toArray false) (.cond (.tmp 77) (.seq (.region 10 F9.r10.toArray false) .ret) .skip)) F9.t11))))))
theorem F9.t4_eq {P : Program} {Q : Post} {e : FA} {w : World} {θ : Tag (F9.t4, Q, e, w)} : cwE P F9.t4 Q e w θ = cwE P (.seq (.region 4 F9.r4.toArray false) (.seq (.region 5 F9.r5.toArray false) (.seq (.region 6 F9.r6.toArray false) (.seq (.region 7 F9.r7.toArray false) (.seq (.region 8 F9.r8.toArray false) (.seq (.seq (.region 9 F9.r9.toArray false) (.cond (.tmp 77) (.seq (.region 10 F9.r10.toArray false) .ret) .skip)) F9.t11)))))) Q e w := rfl
def F9.code : Code := (.seq (.region 0 F9.r0.toArray false) (.seq (.region 1 F9.r1.toArray false) (.seq (.seq (.region 2 F9.r2.toArray false) (.cond (.tmp 20) (.seq (.region 3 F9.r3.toArray false) .ret) .skip)) F9.t4)))
theorem F9.calls {args : Array Value} {w : World} {R : Ending → World → Prop} (hn : args.size ≤ 122) (h : cwE Try.prog F9.code (fnP Try.prog #[(.tmp 0)] R) (entry args) w) : Calls Try.prog 9 args w R :=
  calls_of_cwE (types := Try.prog.types) follows Try.func9 F9.code rfl (by kernel_rfl) hn h

def F10.r0 : List Oper := [
  ⟨(some 2), (.box 26 (.tmp 0)), 0, "", #[⟨0, .chain⟩], none⟩,
  ⟨(some 3), (.box 26 (.tmp 1)), 0, "", #[⟨0, .chain⟩], none⟩,
  ⟨(some 4), (.assign (.const (.int .i64 0))), 3, "", #[], none⟩]
def F10.r1 : List Oper := [
  ⟨(some 5), (.fieldAddr 26 (.tmp 2) 0), 0, "", #[], none⟩,
  ⟨(some 7), (.fieldAddr 26 (.tmp 3) 0), 0, "", #[], none⟩,
  ⟨(some 10), (.fieldAddr 26 (.tmp 2) 1), 0, "", #[], none⟩,
  ⟨(some 12), (.fieldAddr 26 (.tmp 3) 1), 0, "", #[], none⟩,
  ⟨(some 15), (.fieldAddr 26 (.tmp 2) 2), 0, "", #[], none⟩,
  ⟨(some 17), (.fieldAddr 26 (.tmp 3) 2), 0, "", #[], none⟩,
  ⟨(some 6), (.load 23 (.tmp 5)), 23, "", #[⟨115216, .data⟩], none⟩,
  ⟨(some 8), (.load 23 (.tmp 7)), 23, "", #[⟨115216, .data⟩], none⟩,
  ⟨(some 11), (.load 3 (.tmp 10)), 3, "", #[⟨115200, .data⟩], none⟩,
  ⟨(some 13), (.load 3 (.tmp 12)), 3, "", #[⟨115200, .data⟩], none⟩,
  ⟨(some 16), (.load 24 (.tmp 15)), 24, "", #[⟨114688, .data⟩], none⟩,
  ⟨(some 18), (.load 24 (.tmp 17)), 24, "", #[⟨114688, .data⟩], none⟩,
  ⟨(some 9), (.call ⟨(.value (.func 30)), #[(.tmp 6), (.tmp 8)], #[23, 23]⟩), 3, "", #[⟨4, .chain⟩], none⟩,
  ⟨(some 14), (.call ⟨(.value (.func 31)), #[(.tmp 11), (.tmp 13)], #[3, 3]⟩), 3, "", #[⟨9, .chain⟩], none⟩,
  ⟨(some 19), (.call ⟨(.value (.func 32)), #[(.tmp 16), (.tmp 18)], #[24, 24]⟩), 3, "", #[⟨14, .chain⟩], none⟩,
  ⟨(some 20), (.buildSlice 34 3 #[(0, (.tmp 9)), (1, (.tmp 14)), (2, (.tmp 19))]), 34, "", #[⟨15, .chain⟩], none⟩,
  ⟨(some 21), (.call ⟨(.value (.func 29)), #[(.tmp 20)], #[34]⟩), 3, "", #[⟨16, .chain⟩], none⟩,
  ⟨(some 4), (.assign (.tmp 21)), 3, "", #[], none⟩]
def F10.code : Code := (.seq (.region 0 F10.r0.toArray false) (.seq (.region 1 F10.r1.toArray true) .ret))
theorem F10.calls {args : Array Value} {w : World} {R : Ending → World → Prop} (hn : args.size ≤ 22) (h : cwE Try.prog F10.code (fnP Try.prog #[(.tmp 4)] R) (entry args) w) : Calls Try.prog 10 args w R :=
  calls_of_cwE (types := Try.prog.types) follows Try.func10 F10.code rfl (by kernel_rfl) hn h

def F11.r0 : List Oper := [
  ⟨(some 2), (.box 26 (.tmp 0)), 0, "", #[⟨0, .chain⟩], none⟩,
  ⟨(some 3), (.box 26 (.tmp 1)), 0, "", #[⟨0, .chain⟩], none⟩,
  ⟨(some 4), (.assign (.const (.int .i64 0))), 3, "", #[], none⟩]
def F11.r1 : List Oper := [
  ⟨(some 5), (.fieldAddr 26 (.tmp 2) 0), 0, "", #[], none⟩,
  ⟨(some 6), (.load 23 (.tmp 5)), 23, "", #[⟨0, .data⟩], none⟩,
  ⟨(some 7), (.fieldAddr 26 (.tmp 3) 0), 0, "", #[], none⟩,
  ⟨(some 8), (.load 23 (.tmp 7)), 23, "", #[⟨0, .data⟩], none⟩,
  ⟨(some 9), (.binOp .neq 23 (.tmp 6) (.tmp 8) 23), 4, "", #[], none⟩]
def F11.r2 : List Oper := [
  ⟨(some 10), (.fieldAddr 26 (.tmp 2) 0), 0, "", #[], none⟩,
  ⟨(some 11), (.load 23 (.tmp 10)), 23, "", #[⟨0, .data⟩], none⟩,
  ⟨(some 12), (.fieldAddr 26 (.tmp 3) 0), 0, "", #[], none⟩,
  ⟨(some 13), (.load 23 (.tmp 12)), 23, "", #[⟨0, .data⟩], none⟩,
  ⟨(some 14), (.binOp .lss 23 (.tmp 11) (.tmp 13) 23), 4, "", #[], none⟩]
def F11.r3 : List Oper := [
  ⟨(some 4), (.assign (.const (.int .i64 (-1)))), 3, "", #[], none⟩]
def F11.r4 : List Oper := [
  ⟨(some 4), (.assign (.const (.int .i64 1))), 3, "", #[], none⟩]
def F11.r5 : List Oper := [
  ⟨(some 15), (.fieldAddr 26 (.tmp 2) 1), 0, "", #[], none⟩,
  ⟨(some 16), (.load 3 (.tmp 15)), 3, "", #[⟨0, .data⟩], none⟩,
  ⟨(some 17), (.fieldAddr 26 (.tmp 3) 1), 0, "", #[], none⟩,
  ⟨(some 18), (.load 3 (.tmp 17)), 3, "", #[⟨0, .data⟩], none⟩,
  ⟨(some 19), (.binOp .neq 3 (.tmp 16) (.tmp 18) 3), 4, "", #[], none⟩]
def F11.r6 : List Oper := [
  ⟨(some 20), (.fieldAddr 26 (.tmp 2) 1), 0, "", #[], none⟩,
  ⟨(some 21), (.load 3 (.tmp 20)), 3, "", #[⟨0, .data⟩], none⟩,
  ⟨(some 22), (.fieldAddr 26 (.tmp 3) 1), 0, "", #[], none⟩,
  ⟨(some 23), (.load 3 (.tmp 22)), 3, "", #[⟨0, .data⟩], none⟩,
  ⟨(some 24), (.binOp .lss 3 (.tmp 21) (.tmp 23) 3), 4, "", #[], none⟩]
def F11.r7 : List Oper := [
  ⟨(some 4), (.assign (.const (.int .i64 (-1)))), 3, "", #[], none⟩]
def F11.r8 : List Oper := [
  ⟨(some 4), (.assign (.const (.int .i64 1))), 3, "", #[], none⟩]
def F11.r9 : List Oper := [
  ⟨(some 25), (.fieldAddr 26 (.tmp 2) 2), 0, "", #[], none⟩,
  ⟨(some 26), (.load 24 (.tmp 25)), 24, "", #[⟨0, .data⟩], none⟩,
  ⟨(some 27), (.fieldAddr 26 (.tmp 3) 2), 0, "", #[], none⟩,
  ⟨(some 28), (.load 24 (.tmp 27)), 24, "", #[⟨0, .data⟩], none⟩,
  ⟨(some 29), (.binOp .neq 24 (.tmp 26) (.tmp 28) 24), 4, "", #[], none⟩]
def F11.r10 : List Oper := [
  ⟨(some 30), (.fieldAddr 26 (.tmp 2) 2), 0, "", #[], none⟩,
  ⟨(some 31), (.load 24 (.tmp 30)), 24, "", #[⟨0, .data⟩], none⟩,
  ⟨(some 32), (.fieldAddr 26 (.tmp 3) 2), 0, "", #[], none⟩,
  ⟨(some 33), (.load 24 (.tmp 32)), 24, "", #[⟨0, .data⟩], none⟩,
  ⟨(some 34), (.binOp .lss 24 (.tmp 31) (.tmp 33) 24), 4, "", #[], none⟩]
def F11.r11 : List Oper := [
  ⟨(some 4), (.assign (.const (.int .i64 (-1)))), 3, "", #[], none⟩]
def F11.r12 : List Oper := [
  ⟨(some 4), (.assign (.const (.int .i64 1))), 3, "", #[], none⟩]
def F11.r13 : List Oper := [
  ⟨(some 4), (.assign (.const (.int .i64 0))), 3, "", #[], none⟩]
def F11.t4 : Code := (.seq (.region 4 F11.r4.toArray false) .ret)
theorem F11.t4_eq {P : Program} {Q : Post} {e : FA} {w : World} {θ : Tag (F11.t4, Q, e, w)} : cwE P F11.t4 Q e w θ = cwE P (.seq (.region 4 F11.r4.toArray false) .ret) Q e w := rfl
def F11.t8 : Code := (.seq (.region 8 F11.r8.toArray false) .ret)
theorem F11.t8_eq {P : Program} {Q : Post} {e : FA} {w : World} {θ : Tag (F11.t8, Q, e, w)} : cwE P F11.t8 Q e w θ = cwE P (.seq (.region 8 F11.r8.toArray false) .ret) Q e w := rfl
def F11.t12 : Code := (.seq (.region 12 F11.r12.toArray false) .ret)
theorem F11.t12_eq {P : Program} {Q : Post} {e : FA} {w : World} {θ : Tag (F11.t12, Q, e, w)} : cwE P F11.t12 Q e w θ = cwE P (.seq (.region 12 F11.r12.toArray false) .ret) Q e w := rfl
def F11.t13 : Code := (.seq (.region 13 F11.r13.toArray false) .ret)
theorem F11.t13_eq {P : Program} {Q : Post} {e : FA} {w : World} {θ : Tag (F11.t13, Q, e, w)} : cwE P F11.t13 Q e w θ = cwE P (.seq (.region 13 F11.r13.toArray false) .ret) Q e w := rfl
def F11.t9 : Code := (.seq (.seq (.region 9 F11.r9.toArray false) (.cond (.tmp 29) (.seq (.seq (.region 10 F11.r10.toArray false) (.cond (.tmp 34) (.seq (.region 11 F11.r11.toArray false) .ret) .skip)) F11.t12) .skip)) F11.t13)
theorem F11.t9_eq {P : Program} {Q : Post} {e : FA} {w : World} {θ : Tag (F11.t9, Q, e, w)} : cwE P F11.t9 Q e w θ = cwE P (.seq (.seq (.region 9 F11.r9.toArray false) (.cond (.tmp 29) (.seq (.seq (.region 10 F11.r10.toArray false) (.cond (.tmp 34) (.seq (.region 11 F11.r11.toArray false) .ret) .skip)) F11.t12) .skip)) F11.t13) Q e w := rfl
def F11.t5 : Code := (.seq (.seq (.region 5 F11.r5.toArray false) (.cond (.tmp 19) (.seq (.seq (.region 6 F11.r6.toArray false) (.cond (.tmp 24) (.seq (.region 7 F11.r7.toArray false) .ret) .skip)) F11.t8) .skip)) F11.t9)
theorem F11.t5_eq {P : Program} {Q : Post} {e : FA} {w : World} {θ : Tag (F11.t5, Q, e, w)} : cwE P F11.t5 Q e w θ = cwE P (.seq (.seq (.region 5 F11.r5.toArray false) (.cond (.tmp 19) (.seq (.seq (.region 6 F11.r6.toArray false) (.cond (.tmp 24) (.seq (.region 7 F11.r7.toArray false) .ret) .skip)) F11.t8) .skip)) F11.t9) Q e w := rfl
def F11.code : Code := (.seq (.region 0 F11.r0.toArray false) (.seq (.seq (.region 1 F11.r1.toArray false) (.cond (.tmp 9) (.seq (.seq (.region 2 F11.r2.toArray false) (.cond (.tmp 14) (.seq (.region 3 F11.r3.toArray false) .ret) .skip)) F11.t4) .skip)) F11.t5))
theorem F11.calls {args : Array Value} {w : World} {R : Ending → World → Prop} (hn : args.size ≤ 35) (h : cwE Try.prog F11.code (fnP Try.prog #[(.tmp 4)] R) (entry args) w) : Calls Try.prog 11 args w R :=
  calls_of_cwE (types := Try.prog.types) follows Try.func11 F11.code rfl (by kernel_rfl) hn h

def F12.r0 : List Oper := [
  ⟨(some 0), (.assign (.const (.pointer none))), 30, "", #[], none⟩]
def F12.r1 : List Oper := [
  ⟨(some 1), (.makeMap 63 none), 63, "", #[⟨0, .chain⟩], none⟩,
  ⟨(some 2), (.makeMap 64 none), 64, "", #[⟨0, .chain⟩], none⟩,
  ⟨(some 3), (.build 66 #[(0, (.tmp 1)), (1, (.tmp 2))]), 66, "", #[], none⟩,
  ⟨(some 4), (.box 66 (.tmp 3)), 30, "", #[⟨0, .chain⟩], none⟩,
  ⟨(some 0), (.assign (.tmp 4)), 30, "", #[], none⟩]
def F12.code : Code := (.seq (.region 0 F12.r0.toArray false) (.seq (.region 1 F12.r1.toArray false) .ret))
theorem F12.calls {args : Array Value} {w : World} {R : Ending → World → Prop} (hn : args.size ≤ 5) (h : cwE Try.prog F12.code (fnP Try.prog #[(.tmp 0)] R) (entry args) w) : Calls Try.prog 12 args w R :=
  calls_of_cwE (types := Try.prog.types) follows Try.func12 F12.code rfl (by kernel_rfl) hn h

def F13.r0 : List Oper := [
  ⟨(some 3), (.box 26 (.tmp 1)), 0, "", #[⟨0, .chain⟩], none⟩,
  ⟨(some 4), (.assign (.const (.slice none 0 0))), 34, "", #[], none⟩]
def F13.r1 : List Oper := [
  ⟨(some 6), (.move (.tmp 0)), 30, "", #[], none⟩,
  ⟨(some 7), (.nilCheck (.tmp 6)), 0, "", #[], none⟩,
  ⟨(some 8), (.fieldAddr 66 (.tmp 7) 0), 0, "", #[], none⟩,
  ⟨(some 9), (.load 63 (.tmp 8)), 63, "", #[⟨0, .data⟩], none⟩,
  ⟨(some 10), (.load 26 (.tmp 3)), 26, "", #[⟨0, .data⟩], none⟩,
  ⟨(some 11), (.lookup 63 (.tmp 9) (.tmp 10) false), 67, "", #[⟨0, .data⟩], none⟩,
  ⟨(some 5), (.assign (.tmp 11)), 67, "", #[], none⟩]
def F13.r2 : List Oper := [
  ⟨(some 12), (.move (.tmp 5)), 67, "", #[], none⟩,
  ⟨(some 13), (.binOp .neq 67 (.tmp 12) (.const (.pointer none)) 67), 4, "", #[], none⟩]
def F13.r3 : List Oper := [
  ⟨(some 14), (.move (.tmp 5)), 67, "", #[], none⟩,
  ⟨(some 15), (.nilCheck (.tmp 14)), 0, "", #[], none⟩,
  ⟨(some 16), (.fieldAddr 71 (.tmp 15) 1), 0, "", #[], none⟩,
  ⟨(some 17), (.load 69 (.tmp 16)), 69, "", #[⟨0, .data⟩], none⟩,
  ⟨(some 18), (.call ⟨(.value (.func 33)), #[(.tmp 17)], #[69]⟩), 34, "", #[⟨0, .chain⟩], none⟩,
  ⟨(some 4), (.assign (.tmp 18)), 34, "", #[], none⟩]
def F13.r4 : List Oper := [
  ⟨(some 4), (.assign (.const (.slice none 0 0))), 34, "", #[], none⟩]
def F13.t4 : Code := (.seq (.region 4 F13.r4.toArray false) .ret)
theorem F13.t4_eq {P : Program} {Q : Post} {e : FA} {w : World} {θ : Tag (F13.t4, Q, e, w)} : cwE P F13.t4 Q e w θ = cwE P (.seq (.region 4 F13.r4.toArray false) .ret) Q e w := rfl
def F13.code : Code := (.seq (.region 0 F13.r0.toArray false) (.seq (.seq (.region 1 F13.r1.toArray true) (.seq (.region 2 F13.r2.toArray false) (.cond (.tmp 13) (.seq (.region 3 F13.r3.toArray false) .ret) .skip))) F13.t4))
theorem F13.calls {args : Array Value} {w : World} {R : Ending → World → Prop} (hn : args.size ≤ 19) (h : cwE Try.prog F13.code (fnP Try.prog #[(.tmp 4)] R) (entry args) w) : Calls Try.prog 13 args w R :=
  calls_of_cwE (types := Try.prog.types) follows Try.func13 F13.code rfl (by kernel_rfl) hn h

def F14.r0 : List Oper := [
  ⟨(some 2), (.alloc 26), 0, "", #[⟨0, .chain⟩], none⟩]
def F14.r1 : List Oper := [
  ⟨(some 3), (.move (.tmp 0)), 3, "", #[], none⟩,
  ⟨(some 4), (.convert 3 24 (.tmp 3)), 24, "", #[], none⟩,
  ⟨(some 5), (.build 26 #[(0, (.const (.int .u8 3))), (2, (.tmp 4))]), 26, "", #[], none⟩,
  ⟨none, (.store 26 (.tmp 2) (.tmp 5)), 0, "", #[⟨0, .chain⟩], none⟩]
def F14.code : Code := (.seq (.region 0 F14.r0.toArray false) (.seq (.region 1 F14.r1.toArray false) .ret))
theorem F14.calls {args : Array Value} {w : World} {R : Ending → World → Prop} (hn : args.size ≤ 6) (h : cwE Try.prog F14.code (fnP Try.prog #[(.cell 2 26)] R) (entry args) w) : Calls Try.prog 14 args w R :=
  calls_of_cwE (types := Try.prog.types) follows Try.func14 F14.code rfl (by kernel_rfl) hn h

def F20.r0 : List Oper := [
  ⟨(some 4), (.assign (.const (.bool false))), 4, "", #[], none⟩]
def F20.r1 : List Oper := [
  ⟨(some 6), (.move (.tmp 0)), 34, "", #[], none⟩,
  ⟨(some 7), (.call ⟨(.builtin .len), #[(.tmp 6)], #[34]⟩), 3, "", #[], none⟩,
  ⟨(some 8), (.move (.tmp 1)), 34, "", #[], none⟩,
  ⟨(some 9), (.call ⟨(.builtin .len), #[(.tmp 8)], #[34]⟩), 3, "", #[], none⟩,
  ⟨(some 10), (.binOp .neq 3 (.tmp 7) (.tmp 9) 3), 4, "", #[], none⟩]
def F20.r2 : List Oper := [
  ⟨(some 4), (.assign (.const (.bool false))), 4, "", #[], none⟩]
def F20.r3 : List Oper := [
  ⟨(some 5), (.assign (.const (.int .i64 0))), 3, "", #[], none⟩]
def F20.r4 : List Oper := [
  ⟨(some 11), (.move (.tmp 5)), 3, "", #[], none⟩,
  ⟨(some 12), (.move (.tmp 0)), 34, "", #[], none⟩,
  ⟨(some 13), (.call ⟨(.builtin .len), #[(.tmp 12)], #[34]⟩), 3, "", #[], none⟩,
  ⟨(some 14), (.binOp .lss 3 (.tmp 11) (.tmp 13) 3), 4, "", #[], none⟩]
def F20.r6 : List Oper := [
  ⟨(some 17), (.move (.tmp 0)), 34, "", #[], none⟩,
  ⟨(some 18), (.move (.tmp 5)), 3, "", #[], none⟩,
  ⟨(some 19), (.indexAddr 34 (.tmp 17) (.tmp 18)), 0, "", #[], none⟩,
  ⟨(some 21), (.move (.tmp 1)), 34, "", #[], none⟩,
  ⟨(some 22), (.move (.tmp 5)), 3, "", #[], none⟩,
  ⟨(some 23), (.indexAddr 34 (.tmp 21) (.tmp 22)), 0, "", #[], none⟩,
  ⟨(some 20), (.load 3 (.tmp 19)), 3, "", #[⟨0, .data⟩], none⟩,
  ⟨(some 24), (.load 3 (.tmp 23)), 3, "", #[⟨0, .data⟩], none⟩,
  ⟨(some 25), (.binOp .neq 3 (.tmp 20) (.tmp 24) 3), 4, "", #[], none⟩]
def F20.r7 : List Oper := [
  ⟨(some 4), (.assign (.const (.bool false))), 4, "", #[], none⟩]
def F20.r5 : List Oper := [
  ⟨(some 15), (.move (.tmp 5)), 3, "", #[], none⟩,
  ⟨(some 16), (.binOp .add 3 (.tmp 15) (.const (.int .i64 1)) 3), 3, "", #[], none⟩,
  ⟨(some 5), (.assign (.tmp 16)), 3, "", #[], none⟩]
def F20.r8 : List Oper := [
  ⟨(some 4), (.assign (.const (.bool true))), 4, "", #[], none⟩]
def F20.t5 : Code := (.region 5 F20.r5.toArray false)
theorem F20.t5_eq {P : Program} {Q : Post} {e : FA} {w : World} {θ : Tag (F20.t5, Q, e, w)} : cwE P F20.t5 Q e w θ = cwE P (.region 5 F20.r5.toArray false) Q e w := rfl
def F20.t6 : Code := (.seq (.block 1 (.seq (.region 6 F20.r6.toArray true) (.cond (.tmp 25) (.seq (.region 7 F20.r7.toArray false) .ret) .skip))) F20.t5)
theorem F20.t6_eq {P : Program} {Q : Post} {e : FA} {w : World} {θ : Tag (F20.t6, Q, e, w)} : cwE P F20.t6 Q e w θ = cwE P (.seq (.block 1 (.seq (.region 6 F20.r6.toArray true) (.cond (.tmp 25) (.seq (.region 7 F20.r7.toArray false) .ret) .skip))) F20.t5) Q e w := rfl
def F20.t8 : Code := (.seq (.region 8 F20.r8.toArray false) .ret)
theorem F20.t8_eq {P : Program} {Q : Post} {e : FA} {w : World} {θ : Tag (F20.t8, Q, e, w)} : cwE P F20.t8 Q e w θ = cwE P (.seq (.region 8 F20.r8.toArray false) .ret) Q e w := rfl
def F20.t3 : Code := (.seq (.seq (.region 3 F20.r3.toArray false) (.block 0 (.loop (.seq (.seq (.region 4 F20.r4.toArray false) (.cond (.tmp 14) .skip (.exit 0))) F20.t6)))) F20.t8)
theorem F20.t3_eq {P : Program} {Q : Post} {e : FA} {w : World} {θ : Tag (F20.t3, Q, e, w)} : cwE P F20.t3 Q e w θ = cwE P (.seq (.seq (.region 3 F20.r3.toArray false) (.block 0 (.loop (.seq (.seq (.region 4 F20.r4.toArray false) (.cond (.tmp 14) .skip (.exit 0))) F20.t6)))) F20.t8) Q e w := rfl
def F20.code : Code := (.seq (.region 0 F20.r0.toArray false) (.seq (.seq (.region 1 F20.r1.toArray false) (.cond (.tmp 10) (.seq (.region 2 F20.r2.toArray false) .ret) .skip)) F20.t3))
theorem F20.calls {args : Array Value} {w : World} {R : Ending → World → Prop} (hn : args.size ≤ 26) (h : cwE Try.prog F20.code (fnP Try.prog #[(.tmp 4)] R) (entry args) w) : Calls Try.prog 20 args w R :=
  calls_of_cwE (types := Try.prog.types) follows Try.func20 F20.code rfl (by kernel_rfl) hn h

def F25.r0 : List Oper := [
  ⟨(some 2), (.assign (.const (.bool false))), 4, "", #[], none⟩]
def F25.r1 : List Oper := [
  ⟨(some 3), (.move (.tmp 0)), 30, "", #[], none⟩,
  ⟨(some 4), (.nilCheck (.tmp 3)), 0, "", #[], none⟩,
  ⟨(some 5), (.fieldAddr 66 (.tmp 4) 0), 0, "", #[], none⟩,
  ⟨(some 6), (.load 63 (.tmp 5)), 63, "", #[⟨0, .data⟩], none⟩,
  ⟨(some 7), (.call ⟨(.builtin .len), #[(.tmp 6)], #[63]⟩), 3, "", #[⟨0, .data⟩], none⟩,
  ⟨(some 8), (.binOp .eql 3 (.tmp 7) (.const (.int .i64 0)) 3), 4, "", #[], none⟩,
  ⟨(some 2), (.assign (.tmp 8)), 4, "", #[], none⟩]
def F25.code : Code := (.seq (.region 0 F25.r0.toArray false) (.seq (.region 1 F25.r1.toArray false) .ret))
theorem F25.calls {args : Array Value} {w : World} {R : Ending → World → Prop} (hn : args.size ≤ 9) (h : cwE Try.prog F25.code (fnP Try.prog #[(.tmp 2)] R) (entry args) w) : Calls Try.prog 25 args w R :=
  calls_of_cwE (types := Try.prog.types) follows Try.func25 F25.code rfl (by kernel_rfl) hn h

def F27.r0 : List Oper := [
  ⟨(some 5), (.box 38 (.tmp 2)), 0, "", #[⟨0, .chain⟩], none⟩,
  ⟨(some 6), (.assign (.const (.bool false))), 4, "", #[], none⟩,
  ⟨(some 7), (.assign (.const (.int .i64 0))), 55, "", #[], none⟩]
def F27.r1 : List Oper := [
  ⟨(some 13), (.move (.tmp 0)), 30, "", #[], none⟩,
  ⟨(some 14), (.nilCheck (.tmp 13)), 0, "", #[], none⟩,
  ⟨(some 15), (.fieldAddr 66 (.tmp 14) 1), 0, "", #[], none⟩,
  ⟨(some 16), (.load 64 (.tmp 15)), 64, "", #[⟨0, .data⟩], none⟩,
  ⟨(some 17), (.move (.tmp 1)), 3, "", #[], none⟩,
  ⟨(some 18), (.lookup 64 (.tmp 16) (.tmp 17) true), 39, "", #[⟨0, .data⟩], none⟩,
  ⟨(some 12), (.move (.tmp 18)), 39, "", #[], none⟩,
  ⟨(some 19), (.extract (.tmp 12) 0), 38, "", #[], none⟩,
  ⟨(some 20), (.extract (.tmp 12) 1), 4, "", #[], none⟩,
  ⟨(some 8), (.alloc 38), 0, "", #[⟨0, .chain⟩], none⟩,
  ⟨none, (.store 38 (.tmp 8) (.tmp 19)), 0, "", #[⟨0, .chain⟩], none⟩,
  ⟨(some 9), (.assign (.tmp 20)), 4, "", #[], none⟩]
def F27.r2 : List Oper := [
  ⟨(some 21), (.move (.tmp 9)), 4, "", #[], none⟩]
def F27.r3 : List Oper := [
  ⟨(some 6), (.assign (.const (.bool false))), 4, "", #[], none⟩,
  ⟨(some 7), (.assign (.const (.int .i64 131))), 55, "", #[], none⟩]
def F27.r4 : List Oper := [
  ⟨(some 22), (.move (.tmp 0)), 30, "", #[], none⟩,
  ⟨(some 23), (.nilCheck (.tmp 22)), 0, "", #[], none⟩,
  ⟨(some 24), (.fieldAddr 66 (.tmp 23) 0), 0, "", #[], none⟩,
  ⟨(some 26), (.fieldAddr 38 (.tmp 5) 0), 0, "", #[], none⟩,
  ⟨(some 25), (.load 63 (.tmp 24)), 63, "", #[⟨0, .data⟩], none⟩,
  ⟨(some 27), (.load 26 (.tmp 26)), 26, "", #[⟨0, .data⟩], none⟩,
  ⟨(some 28), (.lookup 63 (.tmp 25) (.tmp 27) false), 67, "", #[⟨0, .data⟩], none⟩,
  ⟨(some 10), (.assign (.tmp 28)), 67, "", #[], none⟩]
def F27.r5 : List Oper := [
  ⟨(some 29), (.move (.tmp 10)), 67, "", #[], none⟩,
  ⟨(some 30), (.binOp .eql 67 (.tmp 29) (.const (.pointer none)) 67), 4, "", #[], none⟩]
def F27.r6 : List Oper := [
  ⟨(some 31), (.build 71 #[]), 71, "", #[], none⟩,
  ⟨(some 32), (.box 71 (.tmp 31)), 67, "", #[⟨0, .chain⟩], none⟩,
  ⟨(some 10), (.assign (.tmp 32)), 67, "", #[], none⟩]
def F27.r7 : List Oper := [
  ⟨(some 33), (.move (.tmp 0)), 30, "", #[], none⟩,
  ⟨(some 34), (.nilCheck (.tmp 33)), 0, "", #[], none⟩,
  ⟨(some 35), (.fieldAddr 66 (.tmp 34) 0), 0, "", #[], none⟩,
  ⟨(some 37), (.fieldAddr 38 (.tmp 5) 0), 0, "", #[], none⟩,
  ⟨(some 39), (.move (.tmp 10)), 67, "", #[], none⟩,
  ⟨(some 36), (.load 63 (.tmp 35)), 63, "", #[⟨128, .data⟩], none⟩,
  ⟨(some 38), (.load 26 (.tmp 37)), 26, "", #[⟨128, .data⟩], none⟩,
  ⟨none, (.mapUpdate 63 (.tmp 36) (.tmp 38) (.tmp 39)), 0, "", #[⟨7, .chain⟩], none⟩]
def F27.r8 : List Oper := [
  ⟨(some 40), (.move (.tmp 10)), 67, "", #[], none⟩,
  ⟨(some 41), (.move (.tmp 1)), 3, "", #[], none⟩,
  ⟨(some 42), (.call ⟨(.value (.func 35)), #[(.tmp 40), (.tmp 41)], #[67, 3]⟩), 3, "", #[⟨0, .chain⟩], none⟩,
  ⟨(some 43), (.binOp .geq 3 (.tmp 42) (.const (.int .i64 0)) 3), 4, "", #[], none⟩]
def F27.r9 : List Oper := [
  ⟨(some 6), (.assign (.const (.bool false))), 4, "", #[], none⟩,
  ⟨(some 7), (.assign (.const (.int .i64 130))), 55, "", #[], none⟩]
def F27.r10 : List Oper := [
  ⟨(some 44), (.move (.tmp 1)), 3, "", #[], none⟩,
  ⟨(some 45), (.fieldAddr 38 (.tmp 5) 1), 0, "", #[], none⟩,
  ⟨(some 46), (.load 4 (.tmp 45)), 4, "", #[⟨0, .data⟩], none⟩,
  ⟨(some 47), (.build 74 #[(0, (.tmp 44)), (1, (.tmp 46))]), 74, "", #[], none⟩,
  ⟨(some 11), (.alloc 74), 0, "", #[⟨0, .chain⟩], none⟩,
  ⟨none, (.store 74 (.tmp 11) (.tmp 47)), 0, "", #[⟨0, .chain⟩], none⟩]
def F27.r11 : List Oper := [
  ⟨(some 48), (.move (.tmp 10)), 67, "", #[], none⟩,
  ⟨(some 49), (.nilCheck (.tmp 48)), 0, "", #[], none⟩,
  ⟨(some 50), (.fieldAddr 71 (.tmp 49) 1), 0, "", #[], none⟩,
  ⟨(some 51), (.load 69 (.tmp 50)), 69, "", #[⟨0, .data⟩], none⟩,
  ⟨(some 52), (.call ⟨(.builtin .len), #[(.tmp 51)], #[69]⟩), 3, "", #[], none⟩,
  ⟨(some 53), (.binOp .eql 3 (.tmp 52) (.const (.int .i64 0)) 3), 4, "", #[], none⟩,
  ⟨(some 54), (.move (.tmp 53)), 4, "", #[], none⟩,
  ⟨(some 55), (.move (.tmp 10)), 67, "", #[], (some (54, true))⟩,
  ⟨(some 56), (.fieldAddr 38 (.tmp 5) 1), 0, "", #[], (some (54, true))⟩,
  ⟨(some 57), (.load 4 (.tmp 56)), 4, "", #[⟨0, .data⟩], (some (54, true))⟩,
  ⟨(some 58), (.call ⟨(.value (.func 45)), #[(.tmp 55), (.tmp 57)], #[67, 4]⟩), 4, "", #[⟨0, .chain⟩], (some (54, true))⟩,
  ⟨(some 59), (.pick (.tmp 54) (.tmp 58) (.const (.bool false))), 4, "", #[], none⟩]
def F27.r12 : List Oper := [
  ⟨(some 60), (.move (.tmp 10)), 67, "", #[], none⟩,
  ⟨(some 61), (.move (.tmp 10)), 67, "", #[], none⟩,
  ⟨(some 62), (.nilCheck (.tmp 61)), 0, "", #[], none⟩,
  ⟨(some 63), (.fieldAddr 71 (.tmp 62) 0), 0, "", #[], none⟩,
  ⟨(some 64), (.load 69 (.tmp 63)), 69, "", #[⟨1152, .data⟩], none⟩,
  ⟨(some 65), (.load 74 (.tmp 11)), 74, "", #[⟨1216, .data⟩], none⟩,
  ⟨(some 66), (.buildSlice 69 1 #[(0, (.tmp 65))]), 69, "", #[⟨6, .chain⟩], none⟩,
  ⟨(some 67), (.call ⟨(.builtin .append), #[(.tmp 64), (.tmp 66)], #[69, 69]⟩), 69, "", #[⟨7, .chain⟩], none⟩,
  ⟨(some 68), (.nilCheck (.tmp 60)), 0, "", #[], none⟩,
  ⟨(some 69), (.fieldAddr 71 (.tmp 68) 0), 0, "", #[], none⟩,
  ⟨none, (.store 69 (.tmp 69) (.tmp 67)), 0, "", #[⟨10, .chain⟩], none⟩]
def F27.r13 : List Oper := [
  ⟨(some 6), (.assign (.const (.bool true))), 4, "", #[], none⟩,
  ⟨(some 7), (.assign (.const (.int .i64 0))), 55, "", #[], none⟩]
def F27.r14 : List Oper := [
  ⟨(some 70), (.move (.tmp 10)), 67, "", #[], none⟩,
  ⟨(some 71), (.move (.tmp 10)), 67, "", #[], none⟩,
  ⟨(some 72), (.nilCheck (.tmp 71)), 0, "", #[], none⟩,
  ⟨(some 73), (.fieldAddr 71 (.tmp 72) 1), 0, "", #[], none⟩,
  ⟨(some 74), (.load 69 (.tmp 73)), 69, "", #[⟨1152, .data⟩], none⟩,
  ⟨(some 75), (.load 74 (.tmp 11)), 74, "", #[⟨1216, .data⟩], none⟩,
  ⟨(some 76), (.buildSlice 69 1 #[(0, (.tmp 75))]), 69, "", #[⟨6, .chain⟩], none⟩,
  ⟨(some 77), (.call ⟨(.builtin .append), #[(.tmp 74), (.tmp 76)], #[69, 69]⟩), 69, "", #[⟨7, .chain⟩], none⟩,
  ⟨(some 78), (.nilCheck (.tmp 70)), 0, "", #[], none⟩,
  ⟨(some 79), (.fieldAddr 71 (.tmp 78) 1), 0, "", #[], none⟩,
  ⟨none, (.store 69 (.tmp 79) (.tmp 77)), 0, "", #[⟨10, .chain⟩], none⟩]
def F27.r15 : List Oper := [
  ⟨(some 80), (.move (.tmp 0)), 30, "", #[], none⟩,
  ⟨(some 81), (.nilCheck (.tmp 80)), 0, "", #[], none⟩,
  ⟨(some 82), (.fieldAddr 66 (.tmp 81) 1), 0, "", #[], none⟩,
  ⟨(some 84), (.move (.tmp 1)), 3, "", #[], none⟩,
  ⟨(some 83), (.load 64 (.tmp 82)), 64, "", #[⟨64, .data⟩], none⟩,
  ⟨(some 85), (.load 38 (.tmp 5)), 38, "", #[⟨64, .data⟩], none⟩,
  ⟨none, (.mapUpdate 64 (.tmp 83) (.tmp 84) (.tmp 85)), 0, "", #[⟨6, .chain⟩], none⟩]
def F27.r16 : List Oper := [
  ⟨(some 6), (.assign (.const (.bool false))), 4, "", #[], none⟩,
  ⟨(some 7), (.assign (.const (.int .i64 0))), 55, "", #[], none⟩]
def F27.t14 : Code := (.seq (.region 14 F27.r14.toArray true) (.seq (.region 15 F27.r15.toArray true) (.seq (.region 16 F27.r16.toArray false) .ret)))
theorem F27.t14_eq {P : Program} {Q : Post} {e : FA} {w : World} {θ : Tag (F27.t14, Q, e, w)} : cwE P F27.t14 Q e w θ = cwE P (.seq (.region 14 F27.r14.toArray true) (.seq (.region 15 F27.r15.toArray true) (.seq (.region 16 F27.r16.toArray false) .ret))) Q e w := rfl
def F27.t10 : Code := (.seq (.region 10 F27.r10.toArray false) (.seq (.seq (.region 11 F27.r11.toArray false) (.cond (.tmp 59) (.seq (.region 12 F27.r12.toArray true) (.seq (.region 13 F27.r13.toArray false) .ret)) .skip)) F27.t14))
theorem F27.t10_eq {P : Program} {Q : Post} {e : FA} {w : World} {θ : Tag (F27.t10, Q, e, w)} : cwE P F27.t10 Q e w θ = cwE P (.seq (.region 10 F27.r10.toArray false) (.seq (.seq (.region 11 F27.r11.toArray false) (.cond (.tmp 59) (.seq (.region 12 F27.r12.toArray true) (.seq (.region 13 F27.r13.toArray false) .ret)) .skip)) F27.t14)) Q e w := rfl
def F27.t8 : Code := (.seq (.seq (.region 8 F27.r8.toArray false) (.cond (.tmp 43) (.seq (.region 9 F27.r9.toArray false) .ret) .skip)) F27.t10)
theorem F27.t8_eq {P : Program} {Q : Post} {e : FA} {w : World} {θ : Tag (F27.t8, Q, e, w)} : cwE P F27.t8 Q e w θ = cwE P (.seq (.seq (.region 8 F27.r8.toArray false) (.cond (.tmp 43) (.seq (.region 9 F27.r9.toArray false) .ret) .skip)) F27.t10) Q e w := rfl
def F27.t4 : Code := (.seq (.region 4 F27.r4.toArray true) (.seq (.seq (.region 5 F27.r5.toArray false) (.cond (.tmp 30) (.seq (.region 6 F27.r6.toArray false) (.region 7 F27.r7.toArray true)) .skip)) F27.t8))
theorem F27.t4_eq {P : Program} {Q : Post} {e : FA} {w : World} {θ : Tag (F27.t4, Q, e, w)} : cwE P F27.t4 Q e w θ = cwE P (.seq (.region 4 F27.r4.toArray true) (.seq (.seq (.region 5 F27.r5.toArray false) (.cond (.tmp 30) (.seq (.region 6 F27.r6.toArray false) (.region 7 F27.r7.toArray true)) .skip)) F27.t8)) Q e w := rfl
def F27.code : Code := (.seq (.region 0 F27.r0.toArray false) (.seq (.seq (.region 1 F27.r1.toArray false) (.seq (.region 2 F27.r2.toArray false) (.cond (.tmp 21) (.seq (.region 3 F27.r3.toArray false) .ret) .skip))) F27.t4))
theorem F27.calls {args : Array Value} {w : World} {R : Ending → World → Prop} (hn : args.size ≤ 86) (h : cwE Try.prog F27.code (fnP Try.prog #[(.tmp 6), (.tmp 7)] R) (entry args) w) : Calls Try.prog 27 args w R :=
  calls_of_cwE (types := Try.prog.types) follows Try.func27 F27.code rfl (by kernel_rfl) hn h

def F28.r0 : List Oper := [
  ⟨(some 5), (.box 26 (.tmp 2)), 0, "", #[⟨0, .chain⟩], none⟩,
  ⟨(some 6), (.assign (.const (.slice none 0 0))), 34, "", #[], none⟩,
  ⟨(some 7), (.assign (.const (.int .i64 0))), 55, "", #[], none⟩]
def F28.r1 : List Oper := [
  ⟨(some 10), (.move (.tmp 0)), 30, "", #[], none⟩,
  ⟨(some 11), (.nilCheck (.tmp 10)), 0, "", #[], none⟩,
  ⟨(some 12), (.fieldAddr 66 (.tmp 11) 0), 0, "", #[], none⟩,
  ⟨(some 13), (.load 63 (.tmp 12)), 63, "", #[⟨0, .data⟩], none⟩,
  ⟨(some 14), (.load 26 (.tmp 5)), 26, "", #[⟨0, .data⟩], none⟩,
  ⟨(some 15), (.lookup 63 (.tmp 13) (.tmp 14) false), 67, "", #[⟨0, .data⟩], none⟩,
  ⟨(some 8), (.assign (.tmp 15)), 67, "", #[], none⟩]
def F28.r2 : List Oper := [
  ⟨(some 16), (.move (.tmp 8)), 67, "", #[], none⟩,
  ⟨(some 17), (.binOp .eql 67 (.tmp 16) (.const (.pointer none)) 67), 4, "", #[], none⟩]
def F28.r3 : List Oper := [
  ⟨(some 6), (.assign (.const (.slice none 0 0))), 34, "", #[], none⟩,
  ⟨(some 7), (.assign (.const (.int .i64 1))), 55, "", #[], none⟩]
def F28.r4 : List Oper := [
  ⟨(some 18), (.move (.tmp 8)), 67, "", #[], none⟩,
  ⟨(some 19), (.move (.tmp 1)), 3, "", #[], none⟩,
  ⟨(some 20), (.call ⟨(.value (.func 35)), #[(.tmp 18), (.tmp 19)], #[67, 3]⟩), 3, "", #[⟨0, .chain⟩], none⟩,
  ⟨(some 9), (.assign (.tmp 20)), 3, "", #[], none⟩]
def F28.r5 : List Oper := [
  ⟨(some 21), (.move (.tmp 9)), 3, "", #[], none⟩,
  ⟨(some 22), (.binOp .lss 3 (.tmp 21) (.const (.int .i64 0)) 3), 4, "", #[], none⟩]
def F28.r6 : List Oper := [
  ⟨(some 6), (.assign (.const (.slice none 0 0))), 34, "", #[], none⟩,
  ⟨(some 7), (.assign (.const (.int .i64 1))), 55, "", #[], none⟩]
def F28.r7 : List Oper := [
  ⟨(some 23), (.move (.tmp 8)), 67, "", #[], none⟩,
  ⟨(some 24), (.move (.tmp 8)), 67, "", #[], none⟩,
  ⟨(some 25), (.nilCheck (.tmp 24)), 0, "", #[], none⟩,
  ⟨(some 26), (.fieldAddr 71 (.tmp 25) 0), 0, "", #[], none⟩,
  ⟨(some 27), (.load 69 (.tmp 26)), 69, "", #[⟨0, .data⟩], none⟩,
  ⟨(some 28), (.move (.tmp 9)), 3, "", #[], none⟩,
  ⟨(some 29), (.move (.tmp 9)), 3, "", #[], none⟩,
  ⟨(some 30), (.binOp .add 3 (.tmp 29) (.const (.int .i64 1)) 3), 3, "", #[], none⟩,
  ⟨(some 31), (.call ⟨(.value (.func 46)), #[(.tmp 27), (.tmp 28), (.tmp 30)], #[69, 3, 3]⟩), 69, "", #[⟨0, .chain⟩], none⟩,
  ⟨(some 32), (.nilCheck (.tmp 23)), 0, "", #[], none⟩,
  ⟨(some 33), (.fieldAddr 71 (.tmp 32) 0), 0, "", #[], none⟩,
  ⟨none, (.store 69 (.tmp 33) (.tmp 31)), 0, "", #[⟨0, .chain⟩], none⟩]
def F28.r8 : List Oper := [
  ⟨(some 34), (.move (.tmp 0)), 30, "", #[], none⟩,
  ⟨(some 35), (.load 26 (.tmp 5)), 26, "", #[⟨0, .data⟩], none⟩,
  ⟨(some 36), (.call ⟨(.value (.func 44)), #[(.tmp 34), (.tmp 35)], #[30, 26]⟩), 34, "", #[⟨0, .chain⟩], none⟩,
  ⟨(some 6), (.assign (.tmp 36)), 34, "", #[], none⟩,
  ⟨(some 7), (.assign (.const (.int .i64 0))), 55, "", #[], none⟩]
def F28.t7 : Code := (.seq (.region 7 F28.r7.toArray false) (.seq (.region 8 F28.r8.toArray false) .ret))
theorem F28.t7_eq {P : Program} {Q : Post} {e : FA} {w : World} {θ : Tag (F28.t7, Q, e, w)} : cwE P F28.t7 Q e w θ = cwE P (.seq (.region 7 F28.r7.toArray false) (.seq (.region 8 F28.r8.toArray false) .ret)) Q e w := rfl
def F28.t4 : Code := (.seq (.region 4 F28.r4.toArray false) (.seq (.seq (.region 5 F28.r5.toArray false) (.cond (.tmp 22) (.seq (.region 6 F28.r6.toArray false) .ret) .skip)) F28.t7))
theorem F28.t4_eq {P : Program} {Q : Post} {e : FA} {w : World} {θ : Tag (F28.t4, Q, e, w)} : cwE P F28.t4 Q e w θ = cwE P (.seq (.region 4 F28.r4.toArray false) (.seq (.seq (.region 5 F28.r5.toArray false) (.cond (.tmp 22) (.seq (.region 6 F28.r6.toArray false) .ret) .skip)) F28.t7)) Q e w := rfl
def F28.code : Code := (.seq (.region 0 F28.r0.toArray false) (.seq (.region 1 F28.r1.toArray true) (.seq (.seq (.region 2 F28.r2.toArray false) (.cond (.tmp 17) (.seq (.region 3 F28.r3.toArray false) .ret) .skip)) F28.t4)))
theorem F28.calls {args : Array Value} {w : World} {R : Ending → World → Prop} (hn : args.size ≤ 37) (h : cwE Try.prog F28.code (fnP Try.prog #[(.tmp 6), (.tmp 7)] R) (entry args) w) : Calls Try.prog 28 args w R :=
  calls_of_cwE (types := Try.prog.types) follows Try.func28 F28.code rfl (by kernel_rfl) hn h

def F29.r0 : List Oper := [
  ⟨(some 2), (.assign (.const (.int .i64 0))), 3, "", #[], none⟩]
def F29.r1 : List Oper := [
  ⟨(some 3), (.assign (.const (.int .i64 0))), 3, "", #[], none⟩]
def F29.r2 : List Oper := [
  ⟨(some 6), (.move (.tmp 0)), 34, "", #[], none⟩,
  ⟨(some 7), (.call ⟨(.builtin .len), #[(.tmp 6)], #[34]⟩), 3, "", #[], none⟩,
  ⟨(some 8), (.move (.const (.int .i64 0))), 3, "", #[], none⟩]
def F29.r3 : List Oper := [
  ⟨(some 9), (.binOp .lss 3 (.tmp 8) (.tmp 7) 3), 0, "", #[], none⟩]
def F29.r4 : List Oper := [
  ⟨(some 10), (.indexAddr 34 (.tmp 6) (.tmp 8)), 0, "", #[], none⟩,
  ⟨(some 11), (.load 3 (.tmp 10)), 3, "", #[⟨0, .data⟩], none⟩,
  ⟨(some 5), (.assign (.tmp 11)), 3, "", #[], none⟩]
def F29.r5 : List Oper := [
  ⟨(some 12), (.move (.tmp 5)), 3, "", #[], none⟩,
  ⟨(some 13), (.move (.tmp 3)), 3, "", #[], none⟩,
  ⟨(some 14), (.binOp .neq 3 (.tmp 12) (.tmp 13) 3), 4, "", #[], none⟩]
def F29.r6 : List Oper := [
  ⟨(some 15), (.move (.tmp 5)), 3, "", #[], none⟩,
  ⟨(some 2), (.assign (.tmp 15)), 3, "", #[], none⟩]
def F29.r7 : List Oper := [
  ⟨(some 16), (.binOp .add 3 (.tmp 8) (.const (.int .i64 1)) 3), 3, "", #[], none⟩,
  ⟨(some 8), (.move (.tmp 16)), 3, "", #[], none⟩]
def F29.r8 : List Oper := [
  ⟨(some 17), (.move (.tmp 3)), 3, "", #[], none⟩,
  ⟨(some 2), (.assign (.tmp 17)), 3, "", #[], none⟩]
def F29.t7 : Code := (.region 7 F29.r7.toArray false)
theorem F29.t7_eq {P : Program} {Q : Post} {e : FA} {w : World} {θ : Tag (F29.t7, Q, e, w)} : cwE P F29.t7 Q e w θ = cwE P (.region 7 F29.r7.toArray false) Q e w := rfl
def F29.t4 : Code := (.seq (.block 1 (.seq (.region 4 F29.r4.toArray false) (.seq (.region 5 F29.r5.toArray false) (.cond (.tmp 14) (.seq (.region 6 F29.r6.toArray false) .ret) .skip)))) F29.t7)
theorem F29.t4_eq {P : Program} {Q : Post} {e : FA} {w : World} {θ : Tag (F29.t4, Q, e, w)} : cwE P F29.t4 Q e w θ = cwE P (.seq (.block 1 (.seq (.region 4 F29.r4.toArray false) (.seq (.region 5 F29.r5.toArray false) (.cond (.tmp 14) (.seq (.region 6 F29.r6.toArray false) .ret) .skip)))) F29.t7) Q e w := rfl
def F29.t8 : Code := (.seq (.region 8 F29.r8.toArray false) .ret)
theorem F29.t8_eq {P : Program} {Q : Post} {e : FA} {w : World} {θ : Tag (F29.t8, Q, e, w)} : cwE P F29.t8 Q e w θ = cwE P (.seq (.region 8 F29.r8.toArray false) .ret) Q e w := rfl
def F29.code : Code := (.seq (.region 0 F29.r0.toArray false) (.seq (.region 1 F29.r1.toArray false) (.seq (.seq (.region 2 F29.r2.toArray false) (.block 0 (.loop (.seq (.region 3 F29.r3.toArray false) (.seq (.cond (.tmp 9) .skip (.exit 0)) F29.t4))))) F29.t8)))
theorem F29.calls {args : Array Value} {w : World} {R : Ending → World → Prop} (hn : args.size ≤ 18) (h : cwE Try.prog F29.code (fnP Try.prog #[(.tmp 2)] R) (entry args) w) : Calls Try.prog 29 args w R :=
  calls_of_cwE (types := Try.prog.types) follows Try.func29 F29.code rfl (by kernel_rfl) hn h

def F30.r0 : List Oper := [
  ⟨(some 4), (.assign (.const (.int .i64 0))), 3, "", #[], none⟩]
def F30.r1 : List Oper := [
  ⟨(some 7), (.move (.tmp 0)), 23, "", #[], none⟩,
  ⟨(some 8), (.call ⟨(.value (.func 47)), #[(.tmp 7)], #[23]⟩), 4, "", #[⟨0, .chain⟩], none⟩,
  ⟨(some 5), (.assign (.tmp 8)), 4, "", #[], none⟩]
def F30.r2 : List Oper := [
  ⟨(some 9), (.move (.tmp 1)), 23, "", #[], none⟩,
  ⟨(some 10), (.call ⟨(.value (.func 47)), #[(.tmp 9)], #[23]⟩), 4, "", #[⟨0, .chain⟩], none⟩,
  ⟨(some 6), (.assign (.tmp 10)), 4, "", #[], none⟩]
def F30.r3 : List Oper := [
  ⟨(some 11), (.move (.tmp 5)), 4, "", #[], none⟩]
def F30.r4 : List Oper := [
  ⟨(some 12), (.move (.tmp 6)), 4, "", #[], none⟩]
def F30.r5 : List Oper := [
  ⟨(some 4), (.assign (.const (.int .i64 0))), 3, "", #[], none⟩]
def F30.r6 : List Oper := [
  ⟨(some 4), (.assign (.const (.int .i64 (-1)))), 3, "", #[], none⟩]
def F30.r7 : List Oper := [
  ⟨(some 13), (.move (.tmp 6)), 4, "", #[], none⟩]
def F30.r8 : List Oper := [
  ⟨(some 4), (.assign (.const (.int .i64 1))), 3, "", #[], none⟩]
def F30.r9 : List Oper := [
  ⟨(some 14), (.move (.tmp 0)), 23, "", #[], none⟩,
  ⟨(some 15), (.move (.tmp 1)), 23, "", #[], none⟩,
  ⟨(some 16), (.binOp .lss 23 (.tmp 14) (.tmp 15) 23), 4, "", #[], none⟩]
def F30.r10 : List Oper := [
  ⟨(some 4), (.assign (.const (.int .i64 (-1)))), 3, "", #[], none⟩]
def F30.r11 : List Oper := [
  ⟨(some 17), (.move (.tmp 0)), 23, "", #[], none⟩,
  ⟨(some 18), (.move (.tmp 1)), 23, "", #[], none⟩,
  ⟨(some 19), (.binOp .gtr 23 (.tmp 17) (.tmp 18) 23), 4, "", #[], none⟩]
def F30.r12 : List Oper := [
  ⟨(some 4), (.assign (.const (.int .i64 1))), 3, "", #[], none⟩]
def F30.r13 : List Oper := [
  ⟨(some 4), (.assign (.const (.int .i64 0))), 3, "", #[], none⟩]
def F30.t6 : Code := (.seq (.region 6 F30.r6.toArray false) .ret)
theorem F30.t6_eq {P : Program} {Q : Post} {e : FA} {w : World} {θ : Tag (F30.t6, Q, e, w)} : cwE P F30.t6 Q e w θ = cwE P (.seq (.region 6 F30.r6.toArray false) .ret) Q e w := rfl
def F30.t13 : Code := (.seq (.region 13 F30.r13.toArray false) .ret)
theorem F30.t13_eq {P : Program} {Q : Post} {e : FA} {w : World} {θ : Tag (F30.t13, Q, e, w)} : cwE P F30.t13 Q e w θ = cwE P (.seq (.region 13 F30.r13.toArray false) .ret) Q e w := rfl
def F30.t11 : Code := (.seq (.seq (.region 11 F30.r11.toArray false) (.cond (.tmp 19) (.seq (.region 12 F30.r12.toArray false) .ret) .skip)) F30.t13)
theorem F30.t11_eq {P : Program} {Q : Post} {e : FA} {w : World} {θ : Tag (F30.t11, Q, e, w)} : cwE P F30.t11 Q e w θ = cwE P (.seq (.seq (.region 11 F30.r11.toArray false) (.cond (.tmp 19) (.seq (.region 12 F30.r12.toArray false) .ret) .skip)) F30.t13) Q e w := rfl
def F30.t9 : Code := (.seq (.seq (.region 9 F30.r9.toArray false) (.cond (.tmp 16) (.seq (.region 10 F30.r10.toArray false) .ret) .skip)) F30.t11)
theorem F30.t9_eq {P : Program} {Q : Post} {e : FA} {w : World} {θ : Tag (F30.t9, Q, e, w)} : cwE P F30.t9 Q e w θ = cwE P (.seq (.seq (.region 9 F30.r9.toArray false) (.cond (.tmp 16) (.seq (.region 10 F30.r10.toArray false) .ret) .skip)) F30.t11) Q e w := rfl
def F30.t7 : Code := (.seq (.seq (.region 7 F30.r7.toArray false) (.cond (.tmp 13) (.seq (.region 8 F30.r8.toArray false) .ret) .skip)) F30.t9)
theorem F30.t7_eq {P : Program} {Q : Post} {e : FA} {w : World} {θ : Tag (F30.t7, Q, e, w)} : cwE P F30.t7 Q e w θ = cwE P (.seq (.seq (.region 7 F30.r7.toArray false) (.cond (.tmp 13) (.seq (.region 8 F30.r8.toArray false) .ret) .skip)) F30.t9) Q e w := rfl
def F30.code : Code := (.seq (.region 0 F30.r0.toArray false) (.seq (.region 1 F30.r1.toArray false) (.seq (.region 2 F30.r2.toArray false) (.seq (.seq (.region 3 F30.r3.toArray false) (.cond (.tmp 11) (.seq (.seq (.region 4 F30.r4.toArray false) (.cond (.tmp 12) (.seq (.region 5 F30.r5.toArray false) .ret) .skip)) F30.t6) .skip)) F30.t7))))
theorem F30.calls {args : Array Value} {w : World} {R : Ending → World → Prop} (hn : args.size ≤ 20) (h : cwE Try.prog F30.code (fnP Try.prog #[(.tmp 4)] R) (entry args) w) : Calls Try.prog 30 args w R :=
  calls_of_cwE (types := Try.prog.types) follows Try.func30 F30.code rfl (by kernel_rfl) hn h

def F31.r0 : List Oper := [
  ⟨(some 4), (.assign (.const (.int .i64 0))), 3, "", #[], none⟩]
def F31.r1 : List Oper := [
  ⟨(some 7), (.move (.tmp 0)), 3, "", #[], none⟩,
  ⟨(some 8), (.call ⟨(.value (.func 48)), #[(.tmp 7)], #[3]⟩), 4, "", #[⟨0, .chain⟩], none⟩,
  ⟨(some 5), (.assign (.tmp 8)), 4, "", #[], none⟩]
def F31.r2 : List Oper := [
  ⟨(some 9), (.move (.tmp 1)), 3, "", #[], none⟩,
  ⟨(some 10), (.call ⟨(.value (.func 48)), #[(.tmp 9)], #[3]⟩), 4, "", #[⟨0, .chain⟩], none⟩,
  ⟨(some 6), (.assign (.tmp 10)), 4, "", #[], none⟩]
def F31.r3 : List Oper := [
  ⟨(some 11), (.move (.tmp 5)), 4, "", #[], none⟩]
def F31.r4 : List Oper := [
  ⟨(some 12), (.move (.tmp 6)), 4, "", #[], none⟩]
def F31.r5 : List Oper := [
  ⟨(some 4), (.assign (.const (.int .i64 0))), 3, "", #[], none⟩]
def F31.r6 : List Oper := [
  ⟨(some 4), (.assign (.const (.int .i64 (-1)))), 3, "", #[], none⟩]
def F31.r7 : List Oper := [
  ⟨(some 13), (.move (.tmp 6)), 4, "", #[], none⟩]
def F31.r8 : List Oper := [
  ⟨(some 4), (.assign (.const (.int .i64 1))), 3, "", #[], none⟩]
def F31.r9 : List Oper := [
  ⟨(some 14), (.move (.tmp 0)), 3, "", #[], none⟩,
  ⟨(some 15), (.move (.tmp 1)), 3, "", #[], none⟩,
  ⟨(some 16), (.binOp .lss 3 (.tmp 14) (.tmp 15) 3), 4, "", #[], none⟩]
def F31.r10 : List Oper := [
  ⟨(some 4), (.assign (.const (.int .i64 (-1)))), 3, "", #[], none⟩]
def F31.r11 : List Oper := [
  ⟨(some 17), (.move (.tmp 0)), 3, "", #[], none⟩,
  ⟨(some 18), (.move (.tmp 1)), 3, "", #[], none⟩,
  ⟨(some 19), (.binOp .gtr 3 (.tmp 17) (.tmp 18) 3), 4, "", #[], none⟩]
def F31.r12 : List Oper := [
  ⟨(some 4), (.assign (.const (.int .i64 1))), 3, "", #[], none⟩]
def F31.r13 : List Oper := [
  ⟨(some 4), (.assign (.const (.int .i64 0))), 3, "", #[], none⟩]
def F31.t6 : Code := (.seq (.region 6 F31.r6.toArray false) .ret)
theorem F31.t6_eq {P : Program} {Q : Post} {e : FA} {w : World} {θ : Tag (F31.t6, Q, e, w)} : cwE P F31.t6 Q e w θ = cwE P (.seq (.region 6 F31.r6.toArray false) .ret) Q e w := rfl
def F31.t13 : Code := (.seq (.region 13 F31.r13.toArray false) .ret)
theorem F31.t13_eq {P : Program} {Q : Post} {e : FA} {w : World} {θ : Tag (F31.t13, Q, e, w)} : cwE P F31.t13 Q e w θ = cwE P (.seq (.region 13 F31.r13.toArray false) .ret) Q e w := rfl
def F31.t11 : Code := (.seq (.seq (.region 11 F31.r11.toArray false) (.cond (.tmp 19) (.seq (.region 12 F31.r12.toArray false) .ret) .skip)) F31.t13)
theorem F31.t11_eq {P : Program} {Q : Post} {e : FA} {w : World} {θ : Tag (F31.t11, Q, e, w)} : cwE P F31.t11 Q e w θ = cwE P (.seq (.seq (.region 11 F31.r11.toArray false) (.cond (.tmp 19) (.seq (.region 12 F31.r12.toArray false) .ret) .skip)) F31.t13) Q e w := rfl
def F31.t9 : Code := (.seq (.seq (.region 9 F31.r9.toArray false) (.cond (.tmp 16) (.seq (.region 10 F31.r10.toArray false) .ret) .skip)) F31.t11)
theorem F31.t9_eq {P : Program} {Q : Post} {e : FA} {w : World} {θ : Tag (F31.t9, Q, e, w)} : cwE P F31.t9 Q e w θ = cwE P (.seq (.seq (.region 9 F31.r9.toArray false) (.cond (.tmp 16) (.seq (.region 10 F31.r10.toArray false) .ret) .skip)) F31.t11) Q e w := rfl
def F31.t7 : Code := (.seq (.seq (.region 7 F31.r7.toArray false) (.cond (.tmp 13) (.seq (.region 8 F31.r8.toArray false) .ret) .skip)) F31.t9)
theorem F31.t7_eq {P : Program} {Q : Post} {e : FA} {w : World} {θ : Tag (F31.t7, Q, e, w)} : cwE P F31.t7 Q e w θ = cwE P (.seq (.seq (.region 7 F31.r7.toArray false) (.cond (.tmp 13) (.seq (.region 8 F31.r8.toArray false) .ret) .skip)) F31.t9) Q e w := rfl
def F31.code : Code := (.seq (.region 0 F31.r0.toArray false) (.seq (.region 1 F31.r1.toArray false) (.seq (.region 2 F31.r2.toArray false) (.seq (.seq (.region 3 F31.r3.toArray false) (.cond (.tmp 11) (.seq (.seq (.region 4 F31.r4.toArray false) (.cond (.tmp 12) (.seq (.region 5 F31.r5.toArray false) .ret) .skip)) F31.t6) .skip)) F31.t7))))
theorem F31.calls {args : Array Value} {w : World} {R : Ending → World → Prop} (hn : args.size ≤ 20) (h : cwE Try.prog F31.code (fnP Try.prog #[(.tmp 4)] R) (entry args) w) : Calls Try.prog 31 args w R :=
  calls_of_cwE (types := Try.prog.types) follows Try.func31 F31.code rfl (by kernel_rfl) hn h

def F32.r0 : List Oper := [
  ⟨(some 4), (.assign (.const (.int .i64 0))), 3, "", #[], none⟩]
def F32.r1 : List Oper := [
  ⟨(some 7), (.move (.tmp 0)), 24, "", #[], none⟩,
  ⟨(some 8), (.call ⟨(.value (.func 49)), #[(.tmp 7)], #[24]⟩), 4, "", #[⟨0, .chain⟩], none⟩,
  ⟨(some 5), (.assign (.tmp 8)), 4, "", #[], none⟩]
def F32.r2 : List Oper := [
  ⟨(some 9), (.move (.tmp 1)), 24, "", #[], none⟩,
  ⟨(some 10), (.call ⟨(.value (.func 49)), #[(.tmp 9)], #[24]⟩), 4, "", #[⟨0, .chain⟩], none⟩,
  ⟨(some 6), (.assign (.tmp 10)), 4, "", #[], none⟩]
def F32.r3 : List Oper := [
  ⟨(some 11), (.move (.tmp 5)), 4, "", #[], none⟩]
def F32.r4 : List Oper := [
  ⟨(some 12), (.move (.tmp 6)), 4, "", #[], none⟩]
def F32.r5 : List Oper := [
  ⟨(some 4), (.assign (.const (.int .i64 0))), 3, "", #[], none⟩]
def F32.r6 : List Oper := [
  ⟨(some 4), (.assign (.const (.int .i64 (-1)))), 3, "", #[], none⟩]
def F32.r7 : List Oper := [
  ⟨(some 13), (.move (.tmp 6)), 4, "", #[], none⟩]
def F32.r8 : List Oper := [
  ⟨(some 4), (.assign (.const (.int .i64 1))), 3, "", #[], none⟩]
def F32.r9 : List Oper := [
  ⟨(some 14), (.move (.tmp 0)), 24, "", #[], none⟩,
  ⟨(some 15), (.move (.tmp 1)), 24, "", #[], none⟩,
  ⟨(some 16), (.binOp .lss 24 (.tmp 14) (.tmp 15) 24), 4, "", #[], none⟩]
def F32.r10 : List Oper := [
  ⟨(some 4), (.assign (.const (.int .i64 (-1)))), 3, "", #[], none⟩]
def F32.r11 : List Oper := [
  ⟨(some 17), (.move (.tmp 0)), 24, "", #[], none⟩,
  ⟨(some 18), (.move (.tmp 1)), 24, "", #[], none⟩,
  ⟨(some 19), (.binOp .gtr 24 (.tmp 17) (.tmp 18) 24), 4, "", #[], none⟩]
def F32.r12 : List Oper := [
  ⟨(some 4), (.assign (.const (.int .i64 1))), 3, "", #[], none⟩]
def F32.r13 : List Oper := [
  ⟨(some 4), (.assign (.const (.int .i64 0))), 3, "", #[], none⟩]
def F32.t6 : Code := (.seq (.region 6 F32.r6.toArray false) .ret)
theorem F32.t6_eq {P : Program} {Q : Post} {e : FA} {w : World} {θ : Tag (F32.t6, Q, e, w)} : cwE P F32.t6 Q e w θ = cwE P (.seq (.region 6 F32.r6.toArray false) .ret) Q e w := rfl
def F32.t13 : Code := (.seq (.region 13 F32.r13.toArray false) .ret)
theorem F32.t13_eq {P : Program} {Q : Post} {e : FA} {w : World} {θ : Tag (F32.t13, Q, e, w)} : cwE P F32.t13 Q e w θ = cwE P (.seq (.region 13 F32.r13.toArray false) .ret) Q e w := rfl
def F32.t11 : Code := (.seq (.seq (.region 11 F32.r11.toArray false) (.cond (.tmp 19) (.seq (.region 12 F32.r12.toArray false) .ret) .skip)) F32.t13)
theorem F32.t11_eq {P : Program} {Q : Post} {e : FA} {w : World} {θ : Tag (F32.t11, Q, e, w)} : cwE P F32.t11 Q e w θ = cwE P (.seq (.seq (.region 11 F32.r11.toArray false) (.cond (.tmp 19) (.seq (.region 12 F32.r12.toArray false) .ret) .skip)) F32.t13) Q e w := rfl
def F32.t9 : Code := (.seq (.seq (.region 9 F32.r9.toArray false) (.cond (.tmp 16) (.seq (.region 10 F32.r10.toArray false) .ret) .skip)) F32.t11)
theorem F32.t9_eq {P : Program} {Q : Post} {e : FA} {w : World} {θ : Tag (F32.t9, Q, e, w)} : cwE P F32.t9 Q e w θ = cwE P (.seq (.seq (.region 9 F32.r9.toArray false) (.cond (.tmp 16) (.seq (.region 10 F32.r10.toArray false) .ret) .skip)) F32.t11) Q e w := rfl
def F32.t7 : Code := (.seq (.seq (.region 7 F32.r7.toArray false) (.cond (.tmp 13) (.seq (.region 8 F32.r8.toArray false) .ret) .skip)) F32.t9)
theorem F32.t7_eq {P : Program} {Q : Post} {e : FA} {w : World} {θ : Tag (F32.t7, Q, e, w)} : cwE P F32.t7 Q e w θ = cwE P (.seq (.seq (.region 7 F32.r7.toArray false) (.cond (.tmp 13) (.seq (.region 8 F32.r8.toArray false) .ret) .skip)) F32.t9) Q e w := rfl
def F32.code : Code := (.seq (.region 0 F32.r0.toArray false) (.seq (.region 1 F32.r1.toArray false) (.seq (.region 2 F32.r2.toArray false) (.seq (.seq (.region 3 F32.r3.toArray false) (.cond (.tmp 11) (.seq (.seq (.region 4 F32.r4.toArray false) (.cond (.tmp 12) (.seq (.region 5 F32.r5.toArray false) .ret) .skip)) F32.t6) .skip)) F32.t7))))
theorem F32.calls {args : Array Value} {w : World} {R : Ending → World → Prop} (hn : args.size ≤ 20) (h : cwE Try.prog F32.code (fnP Try.prog #[(.tmp 4)] R) (entry args) w) : Calls Try.prog 32 args w R :=
  calls_of_cwE (types := Try.prog.types) follows Try.func32 F32.code rfl (by kernel_rfl) hn h

def F33.r0 : List Oper := [
  ⟨(some 2), (.assign (.const (.slice none 0 0))), 34, "", #[], none⟩]
def F33.r1 : List Oper := [
  ⟨(some 3), (.assign (.const (.slice none 0 0))), 34, "", #[], none⟩]
def F33.r2 : List Oper := [
  ⟨(some 6), (.move (.tmp 0)), 69, "", #[], none⟩,
  ⟨(some 7), (.call ⟨(.builtin .len), #[(.tmp 6)], #[69]⟩), 3, "", #[], none⟩,
  ⟨(some 8), (.move (.const (.int .i64 0))), 3, "", #[], none⟩]
def F33.r3 : List Oper := [
  ⟨(some 9), (.binOp .lss 3 (.tmp 8) (.tmp 7) 3), 0, "", #[], none⟩]
def F33.r4 : List Oper := [
  ⟨(some 10), (.indexAddr 69 (.tmp 6) (.tmp 8)), 0, "", #[], none⟩,
  ⟨(some 11), (.load 74 (.tmp 10)), 74, "", #[⟨0, .data⟩], none⟩,
  ⟨(some 5), (.alloc 74), 0, "", #[⟨0, .chain⟩], none⟩,
  ⟨none, (.store 74 (.tmp 5) (.tmp 11)), 0, "", #[⟨0, .chain⟩], none⟩]
def F33.r5 : List Oper := [
  ⟨(some 12), (.move (.tmp 3)), 34, "", #[], none⟩,
  ⟨(some 13), (.fieldAddr 74 (.tmp 5) 0), 0, "", #[], none⟩,
  ⟨(some 14), (.load 3 (.tmp 13)), 3, "", #[⟨0, .data⟩], none⟩,
  ⟨(some 15), (.buildSlice 34 1 #[(0, (.tmp 14))]), 34, "", #[⟨0, .chain⟩], none⟩,
  ⟨(some 16), (.call ⟨(.builtin .append), #[(.tmp 12), (.tmp 15)], #[34, 34]⟩), 34, "", #[⟨0, .chain⟩], none⟩,
  ⟨(some 3), (.assign (.tmp 16)), 34, "", #[], none⟩]
def F33.r6 : List Oper := [
  ⟨(some 17), (.binOp .add 3 (.tmp 8) (.const (.int .i64 1)) 3), 3, "", #[], none⟩,
  ⟨(some 8), (.move (.tmp 17)), 3, "", #[], none⟩]
def F33.r7 : List Oper := [
  ⟨(some 18), (.move (.tmp 3)), 34, "", #[], none⟩,
  ⟨(some 2), (.assign (.tmp 18)), 34, "", #[], none⟩]
def F33.t6 : Code := (.region 6 F33.r6.toArray false)
theorem F33.t6_eq {P : Program} {Q : Post} {e : FA} {w : World} {θ : Tag (F33.t6, Q, e, w)} : cwE P F33.t6 Q e w θ = cwE P (.region 6 F33.r6.toArray false) Q e w := rfl
def F33.t4 : Code := (.seq (.block 1 (.seq (.region 4 F33.r4.toArray false) (.region 5 F33.r5.toArray false))) F33.t6)
theorem F33.t4_eq {P : Program} {Q : Post} {e : FA} {w : World} {θ : Tag (F33.t4, Q, e, w)} : cwE P F33.t4 Q e w θ = cwE P (.seq (.block 1 (.seq (.region 4 F33.r4.toArray false) (.region 5 F33.r5.toArray false))) F33.t6) Q e w := rfl
def F33.t7 : Code := (.seq (.region 7 F33.r7.toArray false) .ret)
theorem F33.t7_eq {P : Program} {Q : Post} {e : FA} {w : World} {θ : Tag (F33.t7, Q, e, w)} : cwE P F33.t7 Q e w θ = cwE P (.seq (.region 7 F33.r7.toArray false) .ret) Q e w := rfl
def F33.code : Code := (.seq (.region 0 F33.r0.toArray false) (.seq (.region 1 F33.r1.toArray false) (.seq (.seq (.region 2 F33.r2.toArray false) (.block 0 (.loop (.seq (.region 3 F33.r3.toArray false) (.seq (.cond (.tmp 9) .skip (.exit 0)) F33.t4))))) F33.t7)))
theorem F33.calls {args : Array Value} {w : World} {R : Ending → World → Prop} (hn : args.size ≤ 19) (h : cwE Try.prog F33.code (fnP Try.prog #[(.tmp 2)] R) (entry args) w) : Calls Try.prog 33 args w R :=
  calls_of_cwE (types := Try.prog.types) follows Try.func33 F33.code rfl (by kernel_rfl) hn h

def F35.r0 : List Oper := [
  ⟨(some 3), (.box 3 (.tmp 1)), 0, "", #[⟨0, .chain⟩], none⟩,
  ⟨(some 4), (.assign (.const (.int .i64 0))), 3, "", #[], none⟩]
def F35.r1 : List Oper := [
  ⟨(some 5), (.move (.tmp 0)), 67, "", #[], none⟩,
  ⟨(some 6), (.nilCheck (.tmp 5)), 0, "", #[], none⟩,
  ⟨(some 7), (.fieldAddr 71 (.tmp 6) 0), 0, "", #[], none⟩,
  ⟨(some 8), (.load 69 (.tmp 7)), 69, "", #[⟨0, .data⟩], none⟩,
  ⟨(some 9), (.makeFunc (.func 52) #[] #[(.tmp 3)]), 84, "", #[], none⟩,
  ⟨(some 10), (.call ⟨(.value (.func 51)), #[(.tmp 8), (.tmp 9)], #[69, 84]⟩), 3, "", #[⟨0, .chain⟩], none⟩,
  ⟨(some 4), (.assign (.tmp 10)), 3, "", #[], none⟩]
def F35.code : Code := (.seq (.region 0 F35.r0.toArray false) (.seq (.region 1 F35.r1.toArray false) .ret))
theorem F35.calls {args : Array Value} {w : World} {R : Ending → World → Prop} (hn : args.size ≤ 11) (h : cwE Try.prog F35.code (fnP Try.prog #[(.tmp 4)] R) (entry args) w) : Calls Try.prog 35 args w R :=
  calls_of_cwE (types := Try.prog.types) follows Try.func35 F35.code rfl (by kernel_rfl) hn h

def F44.r0 : List Oper := [
  ⟨(some 3), (.box 26 (.tmp 1)), 0, "", #[⟨0, .chain⟩], none⟩,
  ⟨(some 4), (.assign (.const (.slice none 0 0))), 34, "", #[], none⟩]
def F44.r1 : List Oper := [
  ⟨(some 8), (.move (.tmp 0)), 30, "", #[], none⟩,
  ⟨(some 9), (.nilCheck (.tmp 8)), 0, "", #[], none⟩,
  ⟨(some 10), (.fieldAddr 66 (.tmp 9) 0), 0, "", #[], none⟩,
  ⟨(some 11), (.load 63 (.tmp 10)), 63, "", #[⟨0, .data⟩], none⟩,
  ⟨(some 12), (.load 26 (.tmp 3)), 26, "", #[⟨0, .data⟩], none⟩,
  ⟨(some 13), (.lookup 63 (.tmp 11) (.tmp 12) false), 67, "", #[⟨0, .data⟩], none⟩,
  ⟨(some 5), (.assign (.tmp 13)), 67, "", #[], none⟩]
def F44.r2 : List Oper := [
  ⟨(some 6), (.assign (.const (.slice none 0 0))), 34, "", #[], none⟩]
def F44.r3 : List Oper := [
  ⟨(some 14), (.move (.tmp 5)), 67, "", #[], none⟩,
  ⟨(some 15), (.nilCheck (.tmp 14)), 0, "", #[], none⟩,
  ⟨(some 16), (.fieldAddr 71 (.tmp 15) 1), 0, "", #[], none⟩,
  ⟨(some 17), (.load 69 (.tmp 16)), 69, "", #[⟨0, .data⟩], none⟩,
  ⟨(some 18), (.call ⟨(.builtin .len), #[(.tmp 17)], #[69]⟩), 3, "", #[], none⟩,
  ⟨(some 19), (.binOp .gtr 3 (.tmp 18) (.const (.int .i64 0)) 3), 4, "", #[], none⟩,
  ⟨(some 20), (.move (.tmp 19)), 4, "", #[], none⟩,
  ⟨(some 21), (.move (.tmp 5)), 67, "", #[], (some (20, true))⟩,
  ⟨(some 22), (.move (.tmp 5)), 67, "", #[], (some (20, true))⟩,
  ⟨(some 23), (.nilCheck (.tmp 22)), 0, "", #[], (some (20, true))⟩,
  ⟨(some 24), (.fieldAddr 71 (.tmp 23) 1), 0, "", #[], (some (20, true))⟩,
  ⟨(some 25), (.load 69 (.tmp 24)), 69, "", #[⟨0, .data⟩], (some (20, true))⟩,
  ⟨(some 26), (.indexAddr 69 (.tmp 25) (.const (.int .i64 0))), 0, "", #[], (some (20, true))⟩,
  ⟨(some 27), (.fieldAddr 74 (.tmp 26) 1), 0, "", #[], (some (20, true))⟩,
  ⟨(some 28), (.load 4 (.tmp 27)), 4, "", #[⟨0, .data⟩], (some (20, true))⟩,
  ⟨(some 29), (.call ⟨(.value (.func 45)), #[(.tmp 21), (.tmp 28)], #[67, 4]⟩), 4, "", #[⟨0, .chain⟩], (some (20, true))⟩,
  ⟨(some 30), (.pick (.tmp 20) (.tmp 29) (.const (.bool false))), 4, "", #[], none⟩]
def F44.r4 : List Oper := [
  ⟨(some 31), (.move (.tmp 5)), 67, "", #[], none⟩,
  ⟨(some 32), (.nilCheck (.tmp 31)), 0, "", #[], none⟩,
  ⟨(some 33), (.fieldAddr 71 (.tmp 32) 1), 0, "", #[], none⟩,
  ⟨(some 34), (.load 69 (.tmp 33)), 69, "", #[⟨0, .data⟩], none⟩,
  ⟨(some 35), (.indexAddr 69 (.tmp 34) (.const (.int .i64 0))), 0, "", #[], none⟩,
  ⟨(some 36), (.load 74 (.tmp 35)), 74, "", #[⟨0, .data⟩], none⟩,
  ⟨(some 7), (.alloc 74), 0, "", #[⟨0, .chain⟩], none⟩,
  ⟨none, (.store 74 (.tmp 7) (.tmp 36)), 0, "", #[⟨0, .chain⟩], none⟩]
def F44.r5 : List Oper := [
  ⟨(some 37), (.move (.tmp 5)), 67, "", #[], none⟩,
  ⟨(some 38), (.move (.tmp 5)), 67, "", #[], none⟩,
  ⟨(some 39), (.nilCheck (.tmp 38)), 0, "", #[], none⟩,
  ⟨(some 40), (.fieldAddr 71 (.tmp 39) 1), 0, "", #[], none⟩,
  ⟨(some 42), (.move (.tmp 5)), 67, "", #[], none⟩,
  ⟨(some 43), (.nilCheck (.tmp 42)), 0, "", #[], none⟩,
  ⟨(some 44), (.fieldAddr 71 (.tmp 43) 1), 0, "", #[], none⟩,
  ⟨(some 47), (.move (.tmp 5)), 67, "", #[], none⟩,
  ⟨(some 48), (.nilCheck (.tmp 47)), 0, "", #[], none⟩,
  ⟨(some 49), (.fieldAddr 71 (.tmp 48) 1), 0, "", #[], none⟩,
  ⟨(some 41), (.load 69 (.tmp 40)), 69, "", #[⟨262144, .data⟩], none⟩,
  ⟨(some 45), (.load 69 (.tmp 44)), 69, "", #[⟨262144, .data⟩], none⟩,
  ⟨(some 46), (.call ⟨(.builtin .len), #[(.tmp 45)], #[69]⟩), 3, "", #[], none⟩,
  ⟨(some 50), (.load 69 (.tmp 49)), 69, "", #[⟨262144, .data⟩], none⟩,
  ⟨(some 51), (.call ⟨(.builtin .len), #[(.tmp 50)], #[69]⟩), 3, "", #[], none⟩,
  ⟨(some 52), (.slice 69 (.tmp 41) (some (.const (.int .i64 1))) (some (.tmp 46)) (some (.tmp 51))), 69, "", #[], none⟩,
  ⟨(some 53), (.nilCheck (.tmp 37)), 0, "", #[], none⟩,
  ⟨(some 54), (.fieldAddr 71 (.tmp 53) 1), 0, "", #[], none⟩,
  ⟨none, (.store 69 (.tmp 54) (.tmp 52)), 0, "", #[⟨18, .chain⟩], none⟩]
def F44.r6 : List Oper := [
  ⟨(some 55), (.move (.tmp 5)), 67, "", #[], none⟩,
  ⟨(some 56), (.move (.tmp 5)), 67, "", #[], none⟩,
  ⟨(some 57), (.nilCheck (.tmp 56)), 0, "", #[], none⟩,
  ⟨(some 58), (.fieldAddr 71 (.tmp 57) 0), 0, "", #[], none⟩,
  ⟨(some 59), (.load 69 (.tmp 58)), 69, "", #[⟨1152, .data⟩], none⟩,
  ⟨(some 60), (.load 74 (.tmp 7)), 74, "", #[⟨1216, .data⟩], none⟩,
  ⟨(some 61), (.buildSlice 69 1 #[(0, (.tmp 60))]), 69, "", #[⟨6, .chain⟩], none⟩,
  ⟨(some 62), (.call ⟨(.builtin .append), #[(.tmp 59), (.tmp 61)], #[69, 69]⟩), 69, "", #[⟨7, .chain⟩], none⟩,
  ⟨(some 63), (.nilCheck (.tmp 55)), 0, "", #[], none⟩,
  ⟨(some 64), (.fieldAddr 71 (.tmp 63) 0), 0, "", #[], none⟩,
  ⟨none, (.store 69 (.tmp 64) (.tmp 62)), 0, "", #[⟨10, .chain⟩], none⟩]
def F44.r7 : List Oper := [
  ⟨(some 65), (.move (.tmp 0)), 30, "", #[], none⟩,
  ⟨(some 66), (.nilCheck (.tmp 65)), 0, "", #[], none⟩,
  ⟨(some 67), (.fieldAddr 66 (.tmp 66) 1), 0, "", #[], none⟩,
  ⟨(some 69), (.fieldAddr 74 (.tmp 7) 0), 0, "", #[], none⟩,
  ⟨(some 68), (.load 64 (.tmp 67)), 64, "", #[⟨64, .data⟩], none⟩,
  ⟨(some 70), (.load 3 (.tmp 69)), 3, "", #[⟨64, .data⟩], none⟩,
  ⟨none, (.call ⟨(.builtin .delete), #[(.tmp 68), (.tmp 70)], #[64, 3]⟩), 0, "", #[⟨6, .chain⟩], none⟩]
def F44.r8 : List Oper := [
  ⟨(some 71), (.move (.tmp 6)), 34, "", #[], none⟩,
  ⟨(some 72), (.fieldAddr 74 (.tmp 7) 0), 0, "", #[], none⟩,
  ⟨(some 73), (.load 3 (.tmp 72)), 3, "", #[⟨0, .data⟩], none⟩,
  ⟨(some 74), (.buildSlice 34 1 #[(0, (.tmp 73))]), 34, "", #[⟨0, .chain⟩], none⟩,
  ⟨(some 75), (.call ⟨(.builtin .append), #[(.tmp 71), (.tmp 74)], #[34, 34]⟩), 34, "", #[⟨0, .chain⟩], none⟩,
  ⟨(some 6), (.assign (.tmp 75)), 34, "", #[], none⟩]
def F44.r9 : List Oper := [
  ⟨(some 76), (.move (.tmp 5)), 67, "", #[], none⟩,
  ⟨(some 77), (.nilCheck (.tmp 76)), 0, "", #[], none⟩,
  ⟨(some 78), (.fieldAddr 71 (.tmp 77) 0), 0, "", #[], none⟩,
  ⟨(some 79), (.load 69 (.tmp 78)), 69, "", #[⟨0, .data⟩], none⟩,
  ⟨(some 80), (.call ⟨(.builtin .len), #[(.tmp 79)], #[69]⟩), 3, "", #[], none⟩,
  ⟨(some 81), (.binOp .eql 3 (.tmp 80) (.const (.int .i64 0)) 3), 4, "", #[], none⟩]
def F44.r10 : List Oper := [
  ⟨(some 82), (.move (.tmp 0)), 30, "", #[], none⟩,
  ⟨(some 83), (.nilCheck (.tmp 82)), 0, "", #[], none⟩,
  ⟨(some 84), (.fieldAddr 66 (.tmp 83) 0), 0, "", #[], none⟩,
  ⟨(some 85), (.load 63 (.tmp 84)), 63, "", #[⟨32, .data⟩], none⟩,
  ⟨(some 86), (.load 26 (.tmp 3)), 26, "", #[⟨32, .data⟩], none⟩,
  ⟨none, (.call ⟨(.builtin .delete), #[(.tmp 85), (.tmp 86)], #[63, 26]⟩), 0, "", #[⟨5, .chain⟩], none⟩]
def F44.r11 : List Oper := [
  ⟨(some 87), (.move (.tmp 6)), 34, "", #[], none⟩,
  ⟨(some 4), (.assign (.tmp 87)), 34, "", #[], none⟩]
def F44.t4 : Code := (.block 1 (.seq (.region 4 F44.r4.toArray false) (.seq (.region 5 F44.r5.toArray true) (.seq (.region 6 F44.r6.toArray true) (.seq (.region 7 F44.r7.toArray true) (.region 8 F44.r8.toArray false))))))
theorem F44.t4_eq {P : Program} {Q : Post} {e : FA} {w : World} {θ : Tag (F44.t4, Q, e, w)} : cwE P F44.t4 Q e w θ = cwE P (.block 1 (.seq (.region 4 F44.r4.toArray false) (.seq (.region 5 F44.r5.toArray true) (.seq (.region 6 F44.r6.toArray true) (.seq (.region 7 F44.r7.toArray true) (.region 8 F44.r8.toArray false)))))) Q e w := rfl
def F44.t11 : Code := (.seq (.region 11 F44.r11.toArray false) .ret)
theorem F44.t11_eq {P : Program} {Q : Post} {e : FA} {w : World} {θ : Tag (F44.t11, Q, e, w)} : cwE P F44.t11 Q e w θ = cwE P (.seq (.region 11 F44.r11.toArray false) .ret) Q e w := rfl
def F44.t9 : Code := (.seq (.seq (.region 9 F44.r9.toArray false) (.cond (.tmp 81) (.region 10 F44.r10.toArray true) .skip)) F44.t11)
theorem F44.t9_eq {P : Program} {Q : Post} {e : FA} {w : World} {θ : Tag (F44.t9, Q, e, w)} : cwE P F44.t9 Q e w θ = cwE P (.seq (.seq (.region 9 F44.r9.toArray false) (.cond (.tmp 81) (.region 10 F44.r10.toArray true) .skip)) F44.t11) Q e w := rfl
def F44.code : Code := (.seq (.region 0 F44.r0.toArray false) (.seq (.region 1 F44.r1.toArray true) (.seq (.region 2 F44.r2.toArray false) (.seq (.block 0 (.loop (.seq (.seq (.region 3 F44.r3.toArray false) (.cond (.tmp 30) .skip (.exit 0))) F44.t4))) F44.t9))))
theorem F44.calls {args : Array Value} {w : World} {R : Ending → World → Prop} (hn : args.size ≤ 88) (h : cwE Try.prog F44.code (fnP Try.prog #[(.tmp 4)] R) (entry args) w) : Calls Try.prog 44 args w R :=
  calls_of_cwE (types := Try.prog.types) follows Try.func44 F44.code rfl (by kernel_rfl) hn h

def F45.r0 : List Oper := [
  ⟨(some 4), (.assign (.const (.bool false))), 4, "", #[], none⟩]
def F45.r1 : List Oper := [
  ⟨(some 5), (.move (.tmp 0)), 67, "", #[], none⟩,
  ⟨(some 6), (.nilCheck (.tmp 5)), 0, "", #[], none⟩,
  ⟨(some 7), (.fieldAddr 71 (.tmp 6) 0), 0, "", #[], none⟩,
  ⟨(some 8), (.load 69 (.tmp 7)), 69, "", #[⟨0, .data⟩], none⟩,
  ⟨(some 9), (.call ⟨(.builtin .len), #[(.tmp 8)], #[69]⟩), 3, "", #[], none⟩,
  ⟨(some 10), (.binOp .eql 3 (.tmp 9) (.const (.int .i64 0)) 3), 4, "", #[], none⟩,
  ⟨(some 11), (.move (.tmp 10)), 4, "", #[], none⟩,
  ⟨(some 12), (.move (.tmp 1)), 4, "", #[], (some (11, false))⟩,
  ⟨(some 13), (.unOp .not 4 (.tmp 12)), 4, "", #[], (some (11, false))⟩,
  ⟨(some 14), (.move (.tmp 13)), 4, "", #[], (some (11, false))⟩,
  ⟨(some 15), (.move (.tmp 0)), 67, "", #[], (some (14, true))⟩,
  ⟨(some 16), (.nilCheck (.tmp 15)), 0, "", #[], (some (14, true))⟩,
  ⟨(some 17), (.fieldAddr 71 (.tmp 16) 0), 0, "", #[], (some (14, true))⟩,
  ⟨(some 18), (.load 69 (.tmp 17)), 69, "", #[⟨0, .data⟩], (some (14, true))⟩,
  ⟨(some 19), (.indexAddr 69 (.tmp 18) (.const (.int .i64 0))), 0, "", #[], (some (14, true))⟩,
  ⟨(some 20), (.fieldAddr 74 (.tmp 19) 1), 0, "", #[], (some (14, true))⟩,
  ⟨(some 21), (.load 4 (.tmp 20)), 4, "", #[⟨0, .data⟩], (some (14, true))⟩,
  ⟨(some 22), (.unOp .not 4 (.tmp 21)), 4, "", #[], (some (14, true))⟩,
  ⟨(some 23), (.pick (.tmp 14) (.tmp 22) (.const (.bool false))), 4, "", #[], (some (11, false))⟩,
  ⟨(some 24), (.pick (.tmp 11) (.const (.bool true)) (.tmp 23)), 4, "", #[], none⟩,
  ⟨(some 4), (.assign (.tmp 24)), 4, "", #[], none⟩]
def F45.code : Code := (.seq (.region 0 F45.r0.toArray false) (.seq (.region 1 F45.r1.toArray false) .ret))
theorem F45.calls {args : Array Value} {w : World} {R : Ending → World → Prop} (hn : args.size ≤ 25) (h : cwE Try.prog F45.code (fnP Try.prog #[(.tmp 4)] R) (entry args) w) : Calls Try.prog 45 args w R :=
  calls_of_cwE (types := Try.prog.types) follows Try.func45 F45.code rfl (by kernel_rfl) hn h

def F46.r0 : List Oper := [
  ⟨(some 6), (.assign (.const (.slice none 0 0))), 69, "", #[], none⟩]
def F46.r1 : List Oper := [
  ⟨(some 8), (.move (.tmp 0)), 69, "", #[], none⟩,
  ⟨(some 9), (.move (.tmp 1)), 3, "", #[], none⟩,
  ⟨(some 10), (.move (.tmp 2)), 3, "", #[], none⟩,
  ⟨(some 11), (.move (.tmp 0)), 69, "", #[], none⟩,
  ⟨(some 12), (.call ⟨(.builtin .len), #[(.tmp 11)], #[69]⟩), 3, "", #[], none⟩,
  ⟨(some 13), (.slice 69 (.tmp 8) (some (.tmp 9)) (some (.tmp 10)) (some (.tmp 12))), 69, "", #[], none⟩]
def F46.r2 : List Oper := [
  ⟨(some 14), (.move (.tmp 1)), 3, "", #[], none⟩,
  ⟨(some 15), (.move (.tmp 2)), 3, "", #[], none⟩,
  ⟨(some 16), (.binOp .eql 3 (.tmp 14) (.tmp 15) 3), 4, "", #[], none⟩]
def F46.r3 : List Oper := [
  ⟨(some 17), (.move (.tmp 0)), 69, "", #[], none⟩,
  ⟨(some 6), (.assign (.tmp 17)), 69, "", #[], none⟩]
def F46.r4 : List Oper := [
  ⟨(some 18), (.move (.tmp 0)), 69, "", #[], none⟩,
  ⟨(some 19), (.call ⟨(.builtin .len), #[(.tmp 18)], #[69]⟩), 3, "", #[], none⟩,
  ⟨(some 7), (.assign (.tmp 19)), 3, "", #[], none⟩]
def F46.r5 : List Oper := [
  ⟨(some 20), (.move (.tmp 0)), 69, "", #[], none⟩,
  ⟨(some 21), (.move (.tmp 1)), 3, "", #[], none⟩,
  ⟨(some 22), (.slice 69 (.tmp 20) none (some (.tmp 21)) none), 69, "", #[], none⟩,
  ⟨(some 23), (.move (.tmp 0)), 69, "", #[], none⟩,
  ⟨(some 24), (.move (.tmp 2)), 3, "", #[], none⟩,
  ⟨(some 25), (.slice 69 (.tmp 23) (some (.tmp 24)) none none), 69, "", #[], none⟩,
  ⟨(some 26), (.call ⟨(.builtin .append), #[(.tmp 22), (.tmp 25)], #[69, 69]⟩), 69, "", #[⟨6, .chain⟩], none⟩,
  ⟨(some 0), (.assign (.tmp 26)), 69, "", #[], none⟩]
def F46.r6 : List Oper := [
  ⟨(some 27), (.move (.tmp 0)), 69, "", #[], none⟩,
  ⟨(some 28), (.move (.tmp 0)), 69, "", #[], none⟩,
  ⟨(some 29), (.call ⟨(.builtin .len), #[(.tmp 28)], #[69]⟩), 3, "", #[], none⟩,
  ⟨(some 30), (.move (.tmp 7)), 3, "", #[], none⟩,
  ⟨(some 31), (.slice 69 (.tmp 27) (some (.tmp 29)) (some (.tmp 30)) none), 69, "", #[], none⟩,
  ⟨none, (.call ⟨(.builtin .clear), #[(.tmp 31)], #[69]⟩), 0, "", #[⟨0, .chain⟩], none⟩]
def F46.r7 : List Oper := [
  ⟨(some 32), (.move (.tmp 0)), 69, "", #[], none⟩,
  ⟨(some 6), (.assign (.tmp 32)), 69, "", #[], none⟩]
def F46.t4 : Code := (.seq (.region 4 F46.r4.toArray false) (.seq (.region 5 F46.r5.toArray true) (.seq (.region 6 F46.r6.toArray false) (.seq (.region 7 F46.r7.toArray false) .ret))))
theorem F46.t4_eq {P : Program} {Q : Post} {e : FA} {w : World} {θ : Tag (F46.t4, Q, e, w)} : cwE P F46.t4 Q e w θ = cwE P (.seq (.region 4 F46.r4.toArray false) (.seq (.region 5 F46.r5.toArray true) (.seq (.region 6 F46.r6.toArray false) (.seq (.region 7 F46.r7.toArray false) .ret)))) Q e w := rfl
def F46.code : Code := (.seq (.region 0 F46.r0.toArray false) (.seq (.region 1 F46.r1.toArray false) (.seq (.seq (.region 2 F46.r2.toArray false) (.cond (.tmp 16) (.seq (.region 3 F46.r3.toArray false) .ret) .skip)) F46.t4)))
theorem F46.calls {args : Array Value} {w : World} {R : Ending → World → Prop} (hn : args.size ≤ 33) (h : cwE Try.prog F46.code (fnP Try.prog #[(.tmp 6)] R) (entry args) w) : Calls Try.prog 46 args w R :=
  calls_of_cwE (types := Try.prog.types) follows Try.func46 F46.code rfl (by kernel_rfl) hn h

def F47.r0 : List Oper := [
  ⟨(some 2), (.assign (.const (.bool false))), 4, "", #[], none⟩]
def F47.r1 : List Oper := [
  ⟨(some 3), (.move (.tmp 0)), 23, "", #[], none⟩,
  ⟨(some 4), (.move (.tmp 0)), 23, "", #[], none⟩,
  ⟨(some 5), (.binOp .neq 23 (.tmp 3) (.tmp 4) 23), 4, "", #[], none⟩,
  ⟨(some 2), (.assign (.tmp 5)), 4, "", #[], none⟩]
def F47.code : Code := (.seq (.region 0 F47.r0.toArray false) (.seq (.region 1 F47.r1.toArray false) .ret))
theorem F47.calls {args : Array Value} {w : World} {R : Ending → World → Prop} (hn : args.size ≤ 6) (h : cwE Try.prog F47.code (fnP Try.prog #[(.tmp 2)] R) (entry args) w) : Calls Try.prog 47 args w R :=
  calls_of_cwE (types := Try.prog.types) follows Try.func47 F47.code rfl (by kernel_rfl) hn h

def F48.r0 : List Oper := [
  ⟨(some 2), (.assign (.const (.bool false))), 4, "", #[], none⟩]
def F48.r1 : List Oper := [
  ⟨(some 3), (.move (.tmp 0)), 3, "", #[], none⟩,
  ⟨(some 4), (.move (.tmp 0)), 3, "", #[], none⟩,
  ⟨(some 5), (.binOp .neq 3 (.tmp 3) (.tmp 4) 3), 4, "", #[], none⟩,
  ⟨(some 2), (.assign (.tmp 5)), 4, "", #[], none⟩]
def F48.code : Code := (.seq (.region 0 F48.r0.toArray false) (.seq (.region 1 F48.r1.toArray false) .ret))
theorem F48.calls {args : Array Value} {w : World} {R : Ending → World → Prop} (hn : args.size ≤ 6) (h : cwE Try.prog F48.code (fnP Try.prog #[(.tmp 2)] R) (entry args) w) : Calls Try.prog 48 args w R :=
  calls_of_cwE (types := Try.prog.types) follows Try.func48 F48.code rfl (by kernel_rfl) hn h

def F49.r0 : List Oper := [
  ⟨(some 2), (.assign (.const (.bool false))), 4, "", #[], none⟩]
def F49.r1 : List Oper := [
  ⟨(some 3), (.move (.tmp 0)), 24, "", #[], none⟩,
  ⟨(some 4), (.move (.tmp 0)), 24, "", #[], none⟩,
  ⟨(some 5), (.binOp .neq 24 (.tmp 3) (.tmp 4) 24), 4, "", #[], none⟩,
  ⟨(some 2), (.assign (.tmp 5)), 4, "", #[], none⟩]
def F49.code : Code := (.seq (.region 0 F49.r0.toArray false) (.seq (.region 1 F49.r1.toArray false) .ret))
theorem F49.calls {args : Array Value} {w : World} {R : Ending → World → Prop} (hn : args.size ≤ 6) (h : cwE Try.prog F49.code (fnP Try.prog #[(.tmp 2)] R) (entry args) w) : Calls Try.prog 49 args w R :=
  calls_of_cwE (types := Try.prog.types) follows Try.func49 F49.code rfl (by kernel_rfl) hn h

def F51.r0 : List Oper := [
  ⟨(some 4), (.assign (.const (.int .i64 0))), 3, "", #[], none⟩]
def F51.r1 : List Oper := [
  ⟨(some 6), (.move (.tmp 0)), 69, "", #[], none⟩,
  ⟨(some 7), (.call ⟨(.builtin .len), #[(.tmp 6)], #[69]⟩), 3, "", #[], none⟩,
  ⟨(some 8), (.move (.const (.int .i64 0))), 3, "", #[], none⟩]
def F51.r2 : List Oper := [
  ⟨(some 9), (.binOp .lss 3 (.tmp 8) (.tmp 7) 3), 0, "", #[], none⟩]
def F51.r3 : List Oper := [
  ⟨(some 10), (.move (.tmp 8)), 3, "", #[], none⟩,
  ⟨(some 5), (.assign (.tmp 10)), 3, "", #[], none⟩]
def F51.r4 : List Oper := [
  ⟨(some 11), (.move (.tmp 1)), 84, "", #[], none⟩,
  ⟨(some 12), (.move (.tmp 0)), 69, "", #[], none⟩,
  ⟨(some 13), (.move (.tmp 5)), 3, "", #[], none⟩,
  ⟨(some 14), (.indexAddr 69 (.tmp 12) (.tmp 13)), 0, "", #[], none⟩,
  ⟨(some 15), (.load 74 (.tmp 14)), 74, "", #[⟨0, .data⟩], none⟩,
  ⟨(some 16), (.call ⟨(.value (.tmp 11)), #[(.tmp 15)], #[74]⟩), 4, "", #[⟨0, .phase⟩], none⟩]
def F51.r5 : List Oper := [
  ⟨(some 17), (.move (.tmp 5)), 3, "", #[], none⟩,
  ⟨(some 4), (.assign (.tmp 17)), 3, "", #[], none⟩]
def F51.r6 : List Oper := [
  ⟨(some 18), (.binOp .add 3 (.tmp 8) (.const (.int .i64 1)) 3), 3, "", #[], none⟩,
  ⟨(some 8), (.move (.tmp 18)), 3, "", #[], none⟩]
def F51.r7 : List Oper := [
  ⟨(some 4), (.assign (.const (.int .i64 (-1)))), 3, "", #[], none⟩]
def F51.t6 : Code := (.region 6 F51.r6.toArray false)
theorem F51.t6_eq {P : Program} {Q : Post} {e : FA} {w : World} {θ : Tag (F51.t6, Q, e, w)} : cwE P F51.t6 Q e w θ = cwE P (.region 6 F51.r6.toArray false) Q e w := rfl
def F51.t3 : Code := (.seq (.block 1 (.seq (.region 3 F51.r3.toArray false) (.seq (.region 4 F51.r4.toArray false) (.cond (.tmp 16) (.seq (.region 5 F51.r5.toArray false) .ret) .skip)))) F51.t6)
theorem F51.t3_eq {P : Program} {Q : Post} {e : FA} {w : World} {θ : Tag (F51.t3, Q, e, w)} : cwE P F51.t3 Q e w θ = cwE P (.seq (.block 1 (.seq (.region 3 F51.r3.toArray false) (.seq (.region 4 F51.r4.toArray false) (.cond (.tmp 16) (.seq (.region 5 F51.r5.toArray false) .ret) .skip)))) F51.t6) Q e w := rfl
def F51.t7 : Code := (.seq (.region 7 F51.r7.toArray false) .ret)
theorem F51.t7_eq {P : Program} {Q : Post} {e : FA} {w : World} {θ : Tag (F51.t7, Q, e, w)} : cwE P F51.t7 Q e w θ = cwE P (.seq (.region 7 F51.r7.toArray false) .ret) Q e w := rfl
def F51.code : Code := (.seq (.region 0 F51.r0.toArray false) (.seq (.seq (.region 1 F51.r1.toArray false) (.block 0 (.loop (.seq (.region 2 F51.r2.toArray false) (.seq (.cond (.tmp 9) .skip (.exit 0)) F51.t3))))) F51.t7))
theorem F51.calls {args : Array Value} {w : World} {R : Ending → World → Prop} (hn : args.size ≤ 19) (h : cwE Try.prog F51.code (fnP Try.prog #[(.tmp 4)] R) (entry args) w) : Calls Try.prog 51 args w R :=
  calls_of_cwE (types := Try.prog.types) follows Try.func51 F51.code rfl (by kernel_rfl) hn h

def F52.r0 : List Oper := [
  ⟨(some 2), (.box 74 (.tmp 0)), 0, "", #[⟨0, .chain⟩], none⟩,
  ⟨(some 3), (.assign (.const (.bool false))), 4, "", #[], none⟩]
def F52.r1 : List Oper := [
  ⟨(some 4), (.fieldAddr 74 (.tmp 2) 0), 0, "", #[], none⟩,
  ⟨(some 5), (.load 3 (.tmp 4)), 3, "", #[⟨0, .data⟩], none⟩,
  ⟨(some 6), (.load 3 (.tmp 1)), 3, "", #[⟨0, .data⟩], none⟩,
  ⟨(some 7), (.binOp .eql 3 (.tmp 5) (.tmp 6) 3), 4, "", #[], none⟩,
  ⟨(some 3), (.assign (.tmp 7)), 4, "", #[], none⟩]
def F52.code : Code := (.seq (.region 0 F52.r0.toArray false) (.seq (.region 1 F52.r1.toArray false) .ret))
theorem F52.calls {args : Array Value} {w : World} {R : Ending → World → Prop} (hn : args.size ≤ 8) (h : cwE Try.prog F52.code (fnP Try.prog #[(.tmp 3)] R) (entry args) w) : Calls Try.prog 52 args w R :=
  calls_of_cwE (types := Try.prog.types) follows Try.func52 F52.code rfl (by kernel_rfl) hn h

attribute [go_sem] fact_aggSz_23
attribute [go_sem] fact_aggSz_24
attribute [go_sem] fact_aggSz_26
attribute [go_sem] fact_aggSz_3
attribute [go_sem] fact_aggSz_38
attribute [go_sem] fact_aggSz_4
attribute [go_sem] fact_aggSz_63
attribute [go_sem] fact_aggSz_64
attribute [go_sem] fact_aggSz_69
attribute [go_sem] fact_aggSz_74
attribute [go_sem] fact_bldP_26
attribute [go_sem] fact_bldP_38
attribute [go_sem] fact_bldP_66
attribute [go_sem] fact_bldP_71
attribute [go_sem] fact_bldP_74
attribute [go_sem] fact_elemOf_34
attribute [go_sem] fact_elemOf_69
attribute [go_sem] fact_fieldOff_26_0
attribute [go_sem] fact_fieldOff_26_1
attribute [go_sem] fact_fieldOff_26_2
attribute [go_sem] fact_fieldOff_38_0
attribute [go_sem] fact_fieldOff_38_1
attribute [go_sem] fact_fieldOff_66_0
attribute [go_sem] fact_fieldOff_66_1
attribute [go_sem] fact_fieldOff_71_0
attribute [go_sem] fact_fieldOff_71_1
attribute [go_sem] fact_fieldOff_74_0
attribute [go_sem] fact_fieldOff_74_1
attribute [go_sem] fact_flatE_26
attribute [go_sem] fact_fnOk_10
attribute [go_sem] fact_fnOk_11
attribute [go_sem] fact_fnOk_12
attribute [go_sem] fact_fnOk_13
attribute [go_sem] fact_fnOk_14
attribute [go_sem] fact_fnOk_20
attribute [go_sem] fact_fnOk_25
attribute [go_sem] fact_fnOk_27
attribute [go_sem] fact_fnOk_28
attribute [go_sem] fact_fnOk_29
attribute [go_sem] fact_fnOk_30
attribute [go_sem] fact_fnOk_31
attribute [go_sem] fact_fnOk_32
attribute [go_sem] fact_fnOk_33
attribute [go_sem] fact_fnOk_35
attribute [go_sem] fact_fnOk_44
attribute [go_sem] fact_fnOk_45
attribute [go_sem] fact_fnOk_46
attribute [go_sem] fact_fnOk_47
attribute [go_sem] fact_fnOk_48
attribute [go_sem] fact_fnOk_49
attribute [go_sem] fact_fnOk_51
attribute [go_sem] fact_fnOk_52
attribute [go_sem] fact_fnOk_9
attribute [go_sem] fact_szO_26
attribute [go_sem] fact_szO_38
attribute [go_sem] fact_szO_69
attribute [go_sem] fact_szO_74
attribute [go_sem] fact_zeroV_26
attribute [go_sem] fact_zeroV_38
attribute [go_sem] fact_zeroV_74
attribute [go_sem] Try.underlying3
attribute [go_sem] Try.underlying4
attribute [go_sem] Try.underlying24
attribute [go_sem] Try.underlying26
attribute [go_sem] Try.underlying30
attribute [go_sem] Try.underlying34
attribute [go_sem] Try.underlying63
attribute [go_sem] Try.underlying67
attribute [go_sem] Try.underlying69
attribute [go_sem] F3.r0
attribute [go_sem] F3.r1
attribute [go_sem] F4.r0
attribute [go_sem] F4.r1
attribute [go_sem] F4.r2
attribute [go_sem] F4.r3
attribute [go_sem] F4.r4
attribute [go_sem] F4.r5
attribute [go_sem] F4.r6
attribute [go_sem] F4.r7
attribute [go_sem] F4.r8
attribute [go_sem] F4.r9
attribute [go_sem] F9.r0
attribute [go_sem] F9.r1
attribute [go_sem] F9.r2
attribute [go_sem] F9.r3
attribute [go_sem] F9.r4
attribute [go_sem] F9.r5
attribute [go_sem] F9.r6
attribute [go_sem] F9.r7
attribute [go_sem] F9.r8
attribute [go_sem] F9.r9
attribute [go_sem] F9.r10
attribute [go_sem] F9.r11
attribute [go_sem] F9.r12
attribute [go_sem] F9.r13
attribute [go_sem] F9.r14
attribute [go_sem] F9.r15
attribute [go_sem] F10.r0
attribute [go_sem] F10.r1
attribute [go_sem] F11.r0
attribute [go_sem] F11.r1
attribute [go_sem] F11.r2
attribute [go_sem] F11.r3
attribute [go_sem] F11.r4
attribute [go_sem] F11.r5
attribute [go_sem] F11.r6
attribute [go_sem] F11.r7
attribute [go_sem] F11.r8
attribute [go_sem] F11.r9
attribute [go_sem] F11.r10
attribute [go_sem] F11.r11
attribute [go_sem] F11.r12
attribute [go_sem] F11.r13
attribute [go_sem] F12.r0
attribute [go_sem] F12.r1
attribute [go_sem] F13.r0
attribute [go_sem] F13.r1
attribute [go_sem] F13.r2
attribute [go_sem] F13.r3
attribute [go_sem] F13.r4
attribute [go_sem] F14.r0
attribute [go_sem] F14.r1
attribute [go_sem] F20.r0
attribute [go_sem] F20.r1
attribute [go_sem] F20.r2
attribute [go_sem] F20.r3
attribute [go_sem] F20.r4
attribute [go_sem] F20.r6
attribute [go_sem] F20.r7
attribute [go_sem] F20.r5
attribute [go_sem] F20.r8
attribute [go_sem] F25.r0
attribute [go_sem] F25.r1
attribute [go_sem] F27.r0
attribute [go_sem] F27.r1
attribute [go_sem] F27.r2
attribute [go_sem] F27.r3
attribute [go_sem] F27.r4
attribute [go_sem] F27.r5
attribute [go_sem] F27.r6
attribute [go_sem] F27.r7
attribute [go_sem] F27.r8
attribute [go_sem] F27.r9
attribute [go_sem] F27.r10
attribute [go_sem] F27.r11
attribute [go_sem] F27.r12
attribute [go_sem] F27.r13
attribute [go_sem] F27.r14
attribute [go_sem] F27.r15
attribute [go_sem] F27.r16
attribute [go_sem] F28.r0
attribute [go_sem] F28.r1
attribute [go_sem] F28.r2
attribute [go_sem] F28.r3
attribute [go_sem] F28.r4
attribute [go_sem] F28.r5
attribute [go_sem] F28.r6
attribute [go_sem] F28.r7
attribute [go_sem] F28.r8
attribute [go_sem] F29.r0
attribute [go_sem] F29.r1
attribute [go_sem] F29.r2
attribute [go_sem] F29.r3
attribute [go_sem] F29.r4
attribute [go_sem] F29.r5
attribute [go_sem] F29.r6
attribute [go_sem] F29.r7
attribute [go_sem] F29.r8
attribute [go_sem] F30.r0
attribute [go_sem] F30.r1
attribute [go_sem] F30.r2
attribute [go_sem] F30.r3
attribute [go_sem] F30.r4
attribute [go_sem] F30.r5
attribute [go_sem] F30.r6
attribute [go_sem] F30.r7
attribute [go_sem] F30.r8
attribute [go_sem] F30.r9
attribute [go_sem] F30.r10
attribute [go_sem] F30.r11
attribute [go_sem] F30.r12
attribute [go_sem] F30.r13
attribute [go_sem] F31.r0
attribute [go_sem] F31.r1
attribute [go_sem] F31.r2
attribute [go_sem] F31.r3
attribute [go_sem] F31.r4
attribute [go_sem] F31.r5
attribute [go_sem] F31.r6
attribute [go_sem] F31.r7
attribute [go_sem] F31.r8
attribute [go_sem] F31.r9
attribute [go_sem] F31.r10
attribute [go_sem] F31.r11
attribute [go_sem] F31.r12
attribute [go_sem] F31.r13
attribute [go_sem] F32.r0
attribute [go_sem] F32.r1
attribute [go_sem] F32.r2
attribute [go_sem] F32.r3
attribute [go_sem] F32.r4
attribute [go_sem] F32.r5
attribute [go_sem] F32.r6
attribute [go_sem] F32.r7
attribute [go_sem] F32.r8
attribute [go_sem] F32.r9
attribute [go_sem] F32.r10
attribute [go_sem] F32.r11
attribute [go_sem] F32.r12
attribute [go_sem] F32.r13
attribute [go_sem] F33.r0
attribute [go_sem] F33.r1
attribute [go_sem] F33.r2
attribute [go_sem] F33.r3
attribute [go_sem] F33.r4
attribute [go_sem] F33.r5
attribute [go_sem] F33.r6
attribute [go_sem] F33.r7
attribute [go_sem] F35.r0
attribute [go_sem] F35.r1
attribute [go_sem] F44.r0
attribute [go_sem] F44.r1
attribute [go_sem] F44.r2
attribute [go_sem] F44.r3
attribute [go_sem] F44.r4
attribute [go_sem] F44.r5
attribute [go_sem] F44.r6
attribute [go_sem] F44.r7
attribute [go_sem] F44.r8
attribute [go_sem] F44.r9
attribute [go_sem] F44.r10
attribute [go_sem] F44.r11
attribute [go_sem] F45.r0
attribute [go_sem] F45.r1
attribute [go_sem] F46.r0
attribute [go_sem] F46.r1
attribute [go_sem] F46.r2
attribute [go_sem] F46.r3
attribute [go_sem] F46.r4
attribute [go_sem] F46.r5
attribute [go_sem] F46.r6
attribute [go_sem] F46.r7
attribute [go_sem] F47.r0
attribute [go_sem] F47.r1
attribute [go_sem] F48.r0
attribute [go_sem] F48.r1
attribute [go_sem] F49.r0
attribute [go_sem] F49.r1
attribute [go_sem] F51.r0
attribute [go_sem] F51.r1
attribute [go_sem] F51.r2
attribute [go_sem] F51.r3
attribute [go_sem] F51.r4
attribute [go_sem] F51.r5
attribute [go_sem] F51.r6
attribute [go_sem] F51.r7
attribute [go_sem] F52.r0
attribute [go_sem] F52.r1

end Go.Proofs.Ytacmnfpgimgigaa

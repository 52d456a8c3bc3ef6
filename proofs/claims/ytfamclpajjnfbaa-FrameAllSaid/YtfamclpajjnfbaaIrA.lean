/- The compiled code of the functions, by program (genir.py): each with the theorem that it is what the engine makes of the loaded program's. -/
import Derived.Test.YtfamclpajjnfbaaSl2
import Derived.Test.YtfamclpajjnfbaaProg
namespace Go.Proofs.Ytfamclpajjnfbaa
open Go
set_option maxRecDepth 100000

theorem follows : Try.prog.follows .mixedOrders = true := by kernel_rfl

theorem fact_aggSz_24 : aggSz Try.prog 24 = some none := by kernel_rfl
theorem fact_aggSz_28 : aggSz Try.prog 28 = some none := by kernel_rfl
theorem fact_aggSz_3 : aggSz Try.prog 3 = some none := by kernel_rfl
theorem fact_aggSz_30 : aggSz Try.prog 30 = some none := by kernel_rfl
theorem fact_aggSz_31 : aggSz Try.prog 31 = some none := by kernel_rfl
theorem fact_aggSz_33 : aggSz Try.prog 33 = some none := by kernel_rfl
theorem fact_aggSz_34 : aggSz Try.prog 34 = some none := by kernel_rfl
theorem fact_aggSz_35 : aggSz Try.prog 35 = some none := by kernel_rfl
theorem fact_aggSz_4 : aggSz Try.prog 4 = some none := by kernel_rfl
theorem fact_aggSz_40 : aggSz Try.prog 40 = some (some 4) := by kernel_rfl
theorem fact_aggSz_5 : aggSz Try.prog 5 = some none := by kernel_rfl
theorem fact_aggSz_63 : aggSz Try.prog 63 = some none := by kernel_rfl
theorem fact_aggSz_70 : aggSz Try.prog 70 = some (some 4) := by kernel_rfl
theorem fact_arrEx_70 : arrEx Try.prog 70 = (1, some none) := by kernel_rfl
theorem fact_bldP_37 : bldP Try.prog 37 = some ([.slice none 0 0, .slice none 0 0, .slice none 0 0, .slice none 0 0, .slice none 0 0, .slice none 0 0], some [(0, 1), (1, 1), (2, 1), (3, 1), (4, 1), (5, 1)], 0) := by kernel_rfl
theorem fact_bldP_72 : bldP Try.prog 72 = some ([.int .u32 0, .int .u8 0, .int .u8 0, .int .u8 0, .int .u8 0, .int .i64 0, .slice none 0 0, .int .i64 0, .int .i64 0, .bool false, .int .i64 0], some [(0, 1), (1, 4), (5, 1), (6, 1), (7, 1), (8, 1), (9, 1), (10, 1)], 0) := by kernel_rfl
theorem fact_bldP_74 : bldP Try.prog 74 = some ([.int .u32 0, .slice none 0 0, .int .i64 0, .int .i64 0, .bool false, .int .i64 0], some [(0, 1), (1, 1), (2, 1), (3, 1), (4, 1), (5, 1)], 0) := by kernel_rfl
theorem fact_elemOf_23 : elemOf? Try.prog 23 = some (none, 1) := by kernel_rfl
theorem fact_elemOf_24 : elemOf? Try.prog 24 = some (none, 4) := by kernel_rfl
theorem fact_elemOf_26 : elemOf? Try.prog 26 = some (none, 1) := by kernel_rfl
theorem fact_elemOf_27 : elemOf? Try.prog 27 = some (none, 1) := by kernel_rfl
theorem fact_elemOf_34 : elemOf? Try.prog 34 = some (none, 1) := by kernel_rfl
theorem fact_elemOf_35 : elemOf? Try.prog 35 = some (none, 1) := by kernel_rfl
theorem fact_elemOf_67 : elemOf? Try.prog 67 = some (none, 1) := by kernel_rfl
theorem fact_elemOf_70 : elemOf? Try.prog 70 = some (some 4, 1) := by kernel_rfl
theorem fact_fieldOff_37_0 : fieldOff Try.prog 37 0 = some 0 := by kernel_rfl
theorem fact_fieldOff_37_1 : fieldOff Try.prog 37 1 = some 1 := by kernel_rfl
theorem fact_fieldOff_37_2 : fieldOff Try.prog 37 2 = some 2 := by kernel_rfl
theorem fact_fieldOff_37_3 : fieldOff Try.prog 37 3 = some 3 := by kernel_rfl
theorem fact_fieldOff_37_4 : fieldOff Try.prog 37 4 = some 4 := by kernel_rfl
theorem fact_fieldOff_37_5 : fieldOff Try.prog 37 5 = some 5 := by kernel_rfl
theorem fact_fieldOff_40_0 : fieldOff Try.prog 40 0 = some 0 := by kernel_rfl
theorem fact_fieldOff_40_1 : fieldOff Try.prog 40 1 = some 1 := by kernel_rfl
theorem fact_fieldOff_40_2 : fieldOff Try.prog 40 2 = some 2 := by kernel_rfl
theorem fact_fieldOff_40_3 : fieldOff Try.prog 40 3 = some 3 := by kernel_rfl
theorem fact_fieldOff_45_0 : fieldOff Try.prog 45 0 = some 0 := by kernel_rfl
theorem fact_fieldOff_45_1 : fieldOff Try.prog 45 1 = some 1 := by kernel_rfl
theorem fact_fieldOff_45_2 : fieldOff Try.prog 45 2 = some 2 := by kernel_rfl
theorem fact_fieldOff_45_3 : fieldOff Try.prog 45 3 = some 3 := by kernel_rfl
theorem fact_fieldOff_72_0 : fieldOff Try.prog 72 0 = some 0 := by kernel_rfl
theorem fact_fieldOff_72_1 : fieldOff Try.prog 72 1 = some 1 := by kernel_rfl
theorem fact_fieldOff_72_2 : fieldOff Try.prog 72 2 = some 5 := by kernel_rfl
theorem fact_fieldOff_72_3 : fieldOff Try.prog 72 3 = some 6 := by kernel_rfl
theorem fact_fieldOff_72_4 : fieldOff Try.prog 72 4 = some 7 := by kernel_rfl
theorem fact_fieldOff_72_5 : fieldOff Try.prog 72 5 = some 8 := by kernel_rfl
theorem fact_fieldOff_72_6 : fieldOff Try.prog 72 6 = some 9 := by kernel_rfl
theorem fact_fieldOff_72_7 : fieldOff Try.prog 72 7 = some 10 := by kernel_rfl
theorem fact_fieldOff_74_0 : fieldOff Try.prog 74 0 = some 0 := by kernel_rfl
theorem fact_fieldOff_74_1 : fieldOff Try.prog 74 1 = some 1 := by kernel_rfl
theorem fact_fieldOff_74_2 : fieldOff Try.prog 74 2 = some 2 := by kernel_rfl
theorem fact_fieldOff_74_3 : fieldOff Try.prog 74 3 = some 3 := by kernel_rfl
theorem fact_fieldOff_74_4 : fieldOff Try.prog 74 4 = some 4 := by kernel_rfl
theorem fact_fieldOff_74_5 : fieldOff Try.prog 74 5 = some 5 := by kernel_rfl
theorem fact_fnOk_10 : fnOk Try.prog 10 = true := by kernel_rfl
theorem fact_fnOk_11 : fnOk Try.prog 11 = true := by kernel_rfl
theorem fact_fnOk_12 : fnOk Try.prog 12 = true := by kernel_rfl
theorem fact_fnOk_13 : fnOk Try.prog 13 = true := by kernel_rfl
theorem fact_fnOk_14 : fnOk Try.prog 14 = true := by kernel_rfl
theorem fact_fnOk_15 : fnOk Try.prog 15 = true := by kernel_rfl
theorem fact_fnOk_16 : fnOk Try.prog 16 = true := by kernel_rfl
theorem fact_fnOk_17 : fnOk Try.prog 17 = true := by kernel_rfl
theorem fact_fnOk_18 : fnOk Try.prog 18 = true := by kernel_rfl
theorem fact_fnOk_19 : fnOk Try.prog 19 = true := by kernel_rfl
theorem fact_fnOk_20 : fnOk Try.prog 20 = true := by kernel_rfl
theorem fact_fnOk_21 : fnOk Try.prog 21 = true := by kernel_rfl
theorem fact_fnOk_22 : fnOk Try.prog 22 = true := by kernel_rfl
theorem fact_fnOk_23 : fnOk Try.prog 23 = true := by kernel_rfl
theorem fact_fnOk_24 : fnOk Try.prog 24 = true := by kernel_rfl
theorem fact_fnOk_25 : fnOk Try.prog 25 = true := by kernel_rfl
theorem fact_fnOk_26 : fnOk Try.prog 26 = true := by kernel_rfl
theorem fact_fnOk_27 : fnOk Try.prog 27 = true := by kernel_rfl
theorem fact_fnOk_28 : fnOk Try.prog 28 = true := by kernel_rfl
theorem fact_fnOk_29 : fnOk Try.prog 29 = true := by kernel_rfl
theorem fact_fnOk_30 : fnOk Try.prog 30 = true := by kernel_rfl
theorem fact_fnOk_31 : fnOk Try.prog 31 = true := by kernel_rfl
theorem fact_fnOk_32 : fnOk Try.prog 32 = true := by kernel_rfl
theorem fact_fnOk_33 : fnOk Try.prog 33 = true := by kernel_rfl
theorem fact_fnOk_34 : fnOk Try.prog 34 = true := by kernel_rfl
theorem fact_fnOk_35 : fnOk Try.prog 35 = true := by kernel_rfl
theorem fact_fnOk_36 : fnOk Try.prog 36 = true := by kernel_rfl
theorem fact_fnOk_37 : fnOk Try.prog 37 = true := by kernel_rfl
theorem fact_fnOk_38 : fnOk Try.prog 38 = true := by kernel_rfl
theorem fact_fnOk_39 : fnOk Try.prog 39 = true := by kernel_rfl
theorem fact_fnOk_40 : fnOk Try.prog 40 = true := by kernel_rfl
theorem fact_fnOk_41 : fnOk Try.prog 41 = true := by kernel_rfl
theorem fact_fnOk_42 : fnOk Try.prog 42 = true := by kernel_rfl
theorem fact_fnOk_43 : fnOk Try.prog 43 = true := by kernel_rfl
theorem fact_fnOk_44 : fnOk Try.prog 44 = true := by kernel_rfl
theorem fact_fnOk_45 : fnOk Try.prog 45 = true := by kernel_rfl
theorem fact_fnOk_46 : fnOk Try.prog 46 = true := by kernel_rfl
theorem fact_fnOk_47 : fnOk Try.prog 47 = true := by kernel_rfl
theorem fact_fnOk_48 : fnOk Try.prog 48 = true := by kernel_rfl
theorem fact_fnOk_49 : fnOk Try.prog 49 = true := by kernel_rfl
theorem fact_fnOk_9 : fnOk Try.prog 9 = true := by kernel_rfl
theorem fact_rowTy_26 : rowTy Try.prog 26 = some (28, 1, 8, [.pointer none]) := by kernel_rfl
theorem fact_rowTy_27 : rowTy Try.prog 27 = some (31, 1, 8, [.pointer none]) := by kernel_rfl
theorem fact_rowTy_34 : rowTy Try.prog 34 = some (35, 1, 24, [.slice none 0 0]) := by kernel_rfl
theorem fact_rowTy_35 : rowTy Try.prog 35 = some (5, 1, 1, [.int .u8 0]) := by kernel_rfl
theorem fact_szO_3 : szO Try.prog 3 = some 1 := by kernel_rfl
theorem fact_szO_30 : szO Try.prog 30 = some 1 := by kernel_rfl
theorem fact_szO_34 : szO Try.prog 34 = some 1 := by kernel_rfl
theorem fact_szO_35 : szO Try.prog 35 = some 1 := by kernel_rfl
theorem fact_szO_4 : szO Try.prog 4 = some 1 := by kernel_rfl
theorem fact_szO_5 : szO Try.prog 5 = some 1 := by kernel_rfl
theorem fact_szO_63 : szO Try.prog 63 = some 1 := by kernel_rfl
theorem fact_zeroV_3 : zeroV Try.prog 3 = some (.int .i64 0) := by kernel_rfl
theorem fact_zeroV_34 : zeroV Try.prog 34 = some (.slice none 0 0) := by kernel_rfl
theorem fact_zeroV_35 : zeroV Try.prog 35 = some (.slice none 0 0) := by kernel_rfl
theorem fact_zeroV_4 : zeroV Try.prog 4 = some (.bool false) := by kernel_rfl
theorem fact_zeroV_63 : zeroV Try.prog 63 = some (.nilFunc) := by kernel_rfl

def F3.r0 : List Oper := [
  ⟨(some 0), (.assign (.const (.bool false))), 4, "", #[], none⟩]
def F3.r1 : List Oper := [
  ⟨(some 1), (.move (.const (.bool true))), 4, "", #[], none⟩,
  ⟨(some 2), (.call ⟨(.value (.func 9)), #[], #[]⟩), 4, "", #[⟨0, .chain⟩], (some (1, true))⟩,
  ⟨(some 3), (.pick (.tmp 1) (.tmp 2) (.const (.bool false))), 4, "", #[], none⟩,
  ⟨(some 0), (.assign (.tmp 3)), 4, "", #[], none⟩]
def F3.code : Cd := (.seq (.region 0 F3.r0.toArray false) (.seq (.region 1 F3.r1.toArray false) .ret))
theorem F3.calls {args : Array Value} {w : World} {R : Ending → World → Prop} (hn : args.size ≤ 4) (h : cwE Try.prog F3.code (fnP Try.prog #[(.tmp 0)] R) (entry args) w) : Calls Try.prog 3 args w R :=
  calls_of_cwE (types := Try.prog.types) follows Try.func3 F3.code rfl (by kernel_rfl) hn h

def F4.r0 : List Oper := [
  ⟨(some 4), (.assign (.const (.bool false))), 4, "", #[], none⟩]
def F4.r1 : List Oper := [
  ⟨(some 18), (.move (.tmp 0)), 23, "", #[], none⟩,
  ⟨(some 19), (.call ⟨(.builtin .len), #[(.tmp 18)], #[23]⟩), 3, "", #[], none⟩,
  ⟨(some 20), (.binOp .gtr 3 (.tmp 19) (.const (.int .i64 10000)) 3), 4, "", #[], none⟩,
  ⟨(some 21), (.move (.tmp 20)), 4, "", #[], none⟩,
  ⟨(some 22), (.move (.tmp 1)), 24, "", #[], (some (21, false))⟩,
  ⟨(some 23), (.call ⟨(.value (.func 10)), #[(.tmp 22)], #[24]⟩), 3, "", #[⟨0, .chain⟩], (some (21, false))⟩,
  ⟨(some 24), (.binOp .gtr 3 (.tmp 23) (.const (.int .i64 33554432)) 3), 4, "", #[], (some (21, false))⟩,
  ⟨(some 25), (.pick (.tmp 21) (.const (.bool true)) (.tmp 24)), 4, "", #[], none⟩]
def F4.r2 : List Oper := [
  ⟨(some 4), (.assign (.const (.bool true))), 4, "", #[], none⟩]
def F4.r3 : List Oper := [
  ⟨(some 26), (.call ⟨(.value (.func 9)), #[], #[]⟩), 4, "", #[⟨0, .chain⟩], none⟩,
  ⟨(some 5), (.assign (.tmp 26)), 4, "", #[], none⟩]
def F4.r4 : List Oper := [
  ⟨(some 27), (.move (.tmp 5)), 4, "", #[], none⟩,
  ⟨(some 28), (.unOp .not 4 (.tmp 27)), 4, "", #[], none⟩]
def F4.r5 : List Oper := [
  ⟨(some 4), (.assign (.const (.bool false))), 4, "", #[], none⟩]
def F4.r6 : List Oper := [
  ⟨(some 6), (.assign (.const (.slice none 0 0))), 26, "", #[], none⟩]
def F4.r7 : List Oper := [
  ⟨(some 7), (.assign (.const (.slice none 0 0))), 27, "", #[], none⟩]
def F4.r8 : List Oper := [
  ⟨(some 8), (.assign (.const (.int .i64 0))), 3, "", #[], none⟩]
def F4.r9 : List Oper := [
  ⟨(some 29), (.move (.tmp 8)), 3, "", #[], none⟩,
  ⟨(some 30), (.move (.tmp 0)), 23, "", #[], none⟩,
  ⟨(some 31), (.call ⟨(.builtin .len), #[(.tmp 30)], #[23]⟩), 3, "", #[], none⟩,
  ⟨(some 32), (.binOp .lss 3 (.tmp 29) (.tmp 31) 3), 4, "", #[], none⟩]
def F4.r11 : List Oper := [
  ⟨(some 35), (.move (.tmp 0)), 23, "", #[], none⟩,
  ⟨(some 36), (.move (.tmp 8)), 3, "", #[], none⟩,
  ⟨(some 37), (.indexAddr 23 (.tmp 35) (.tmp 36)), 0, "", #[], none⟩,
  ⟨(some 38), (.load 30 (.tmp 37)), 30, "", #[⟨0, .data⟩], none⟩,
  ⟨(some 39), (.call ⟨(.value (.func 11)), #[(.tmp 38)], #[30]⟩), 28, "", #[⟨0, .chain⟩], none⟩,
  ⟨(some 9), (.assign (.tmp 39)), 28, "", #[], none⟩]
def F4.r12 : List Oper := [
  ⟨(some 40), (.move (.tmp 0)), 23, "", #[], none⟩,
  ⟨(some 41), (.move (.tmp 8)), 3, "", #[], none⟩,
  ⟨(some 42), (.indexAddr 23 (.tmp 40) (.tmp 41)), 0, "", #[], none⟩,
  ⟨(some 43), (.load 30 (.tmp 42)), 30, "", #[⟨0, .data⟩], none⟩,
  ⟨(some 44), (.call ⟨(.value (.func 12)), #[(.tmp 43)], #[30]⟩), 31, "", #[⟨0, .chain⟩], none⟩,
  ⟨(some 10), (.assign (.tmp 44)), 31, "", #[], none⟩]
def F4.r13 : List Oper := [
  ⟨(some 45), (.move (.tmp 9)), 28, "", #[], none⟩,
  ⟨(some 46), (.binOp .eql 28 (.tmp 45) (.const (.pointer none)) 28), 4, "", #[], none⟩,
  ⟨(some 47), (.move (.tmp 10)), 31, "", #[], none⟩,
  ⟨(some 48), (.binOp .eql 31 (.tmp 47) (.const (.pointer none)) 31), 4, "", #[], none⟩,
  ⟨(some 49), (.binOp .neq 4 (.tmp 46) (.tmp 48) 4), 4, "", #[], none⟩]
def F4.r14 : List Oper := [
  ⟨(some 4), (.assign (.const (.bool false))), 4, "", #[], none⟩]
def F4.r15 : List Oper := [
  ⟨(some 50), (.move (.tmp 10)), 31, "", #[], none⟩,
  ⟨(some 51), (.binOp .neq 31 (.tmp 50) (.const (.pointer none)) 31), 4, "", #[], none⟩]
def F4.r16 : List Oper := [
  ⟨(some 52), (.move (.tmp 6)), 26, "", #[], none⟩,
  ⟨(some 53), (.move (.tmp 9)), 28, "", #[], none⟩,
  ⟨(some 54), (.buildSlice 26 1 #[(0, (.tmp 53))]), 26, "", #[⟨0, .chain⟩], none⟩,
  ⟨(some 55), (.call ⟨(.builtin .append), #[(.tmp 52), (.tmp 54)], #[26, 26]⟩), 26, "", #[⟨0, .chain⟩], none⟩,
  ⟨(some 6), (.assign (.tmp 55)), 26, "", #[], none⟩]
def F4.r17 : List Oper := [
  ⟨(some 56), (.move (.tmp 7)), 27, "", #[], none⟩,
  ⟨(some 57), (.move (.tmp 10)), 31, "", #[], none⟩,
  ⟨(some 58), (.buildSlice 27 1 #[(0, (.tmp 57))]), 27, "", #[⟨0, .chain⟩], none⟩,
  ⟨(some 59), (.call ⟨(.builtin .append), #[(.tmp 56), (.tmp 58)], #[27, 27]⟩), 27, "", #[⟨0, .chain⟩], none⟩,
  ⟨(some 7), (.assign (.tmp 59)), 27, "", #[], none⟩]
def F4.r10 : List Oper := [
  ⟨(some 33), (.move (.tmp 8)), 3, "", #[], none⟩,
  ⟨(some 34), (.binOp .add 3 (.tmp 33) (.const (.int .i64 1)) 3), 3, "", #[], none⟩,
  ⟨(some 8), (.assign (.tmp 34)), 3, "", #[], none⟩]
def F4.r18 : List Oper := [
  ⟨(some 60), (.build 37 #[]), 37, "", #[], none⟩,
  ⟨(some 61), (.box 37 (.tmp 60)), 33, "", #[⟨0, .chain⟩], none⟩,
  ⟨(some 11), (.assign (.tmp 61)), 33, "", #[], none⟩]
def F4.r19 : List Oper := [
  ⟨(some 12), (.assign (.const (.int .i64 0))), 3, "", #[], none⟩]
def F4.r20 : List Oper := [
  ⟨(some 62), (.move (.tmp 12)), 3, "", #[], none⟩,
  ⟨(some 63), (.move (.tmp 1)), 24, "", #[], none⟩,
  ⟨(some 64), (.call ⟨(.builtin .len), #[(.tmp 63)], #[24]⟩), 3, "", #[], none⟩,
  ⟨(some 65), (.binOp .lss 3 (.tmp 62) (.tmp 64) 3), 4, "", #[], none⟩,
  ⟨(some 66), (.move (.tmp 65)), 4, "", #[], none⟩,
  ⟨(some 67), (.move (.tmp 6)), 26, "", #[], (some (66, true))⟩,
  ⟨(some 68), (.call ⟨(.builtin .len), #[(.tmp 67)], #[26]⟩), 3, "", #[], (some (66, true))⟩,
  ⟨(some 69), (.binOp .gtr 3 (.tmp 68) (.const (.int .i64 0)) 3), 4, "", #[], (some (66, true))⟩,
  ⟨(some 70), (.pick (.tmp 66) (.tmp 69) (.const (.bool false))), 4, "", #[], none⟩]
def F4.r22 : List Oper := [
  ⟨(some 73), (.move (.tmp 1)), 24, "", #[], none⟩,
  ⟨(some 74), (.move (.tmp 12)), 3, "", #[], none⟩,
  ⟨(some 75), (.indexAddr 24 (.tmp 73) (.tmp 74)), 0, "", #[], none⟩,
  ⟨(some 76), (.fieldAddr 40 (.tmp 75) 0), 0, "", #[], none⟩,
  ⟨(some 77), (.load 3 (.tmp 76)), 3, "", #[⟨0, .data⟩], none⟩,
  ⟨(some 78), (.move (.tmp 6)), 26, "", #[], none⟩,
  ⟨(some 79), (.call ⟨(.builtin .len), #[(.tmp 78)], #[26]⟩), 3, "", #[], none⟩,
  ⟨(some 80), (.call ⟨(.value (.func 13)), #[(.tmp 77), (.tmp 79)], #[3, 3]⟩), 3, "", #[⟨0, .chain⟩], none⟩,
  ⟨(some 13), (.assign (.tmp 80)), 3, "", #[], none⟩]
def F4.r23 : List Oper := [
  ⟨(some 81), (.move (.tmp 6)), 26, "", #[], none⟩,
  ⟨(some 82), (.move (.tmp 13)), 3, "", #[], none⟩,
  ⟨(some 83), (.indexAddr 26 (.tmp 81) (.tmp 82)), 0, "", #[], none⟩,
  ⟨(some 85), (.move (.tmp 7)), 27, "", #[], none⟩,
  ⟨(some 86), (.move (.tmp 13)), 3, "", #[], none⟩,
  ⟨(some 87), (.indexAddr 27 (.tmp 85) (.tmp 86)), 0, "", #[], none⟩,
  ⟨(some 89), (.move (.tmp 1)), 24, "", #[], none⟩,
  ⟨(some 90), (.move (.tmp 12)), 3, "", #[], none⟩,
  ⟨(some 91), (.indexAddr 24 (.tmp 89) (.tmp 90)), 0, "", #[], none⟩,
  ⟨(some 93), (.move (.tmp 11)), 33, "", #[], none⟩,
  ⟨(some 84), (.load 28 (.tmp 83)), 28, "", #[⟨8192, .data⟩], none⟩,
  ⟨(some 88), (.load 31 (.tmp 87)), 31, "", #[⟨8192, .data⟩], none⟩,
  ⟨(some 92), (.load 40 (.tmp 91)), 40, "", #[⟨8192, .data⟩], none⟩,
  ⟨(some 94), (.call ⟨(.value (.func 14)), #[(.tmp 84), (.tmp 88), (.tmp 92), (.tmp 93)], #[28, 31, 40, 33]⟩), 4, "", #[⟨13, .chain⟩], none⟩,
  ⟨(some 14), (.assign (.tmp 94)), 4, "", #[], none⟩]
def F4.r24 : List Oper := [
  ⟨(some 95), (.move (.tmp 11)), 33, "", #[], none⟩,
  ⟨(some 96), (.call ⟨(.value (.func 15)), #[(.tmp 95)], #[33]⟩), 4, "", #[⟨0, .chain⟩], none⟩,
  ⟨(some 15), (.assign (.tmp 96)), 4, "", #[], none⟩]
def F4.r25 : List Oper := [
  ⟨(some 97), (.move (.tmp 14)), 4, "", #[], none⟩,
  ⟨(some 98), (.unOp .not 4 (.tmp 97)), 4, "", #[], none⟩,
  ⟨(some 99), (.move (.tmp 98)), 4, "", #[], none⟩,
  ⟨(some 100), (.move (.tmp 15)), 4, "", #[], (some (99, false))⟩,
  ⟨(some 101), (.unOp .not 4 (.tmp 100)), 4, "", #[], (some (99, false))⟩,
  ⟨(some 102), (.pick (.tmp 99) (.const (.bool true)) (.tmp 101)), 4, "", #[], none⟩]
def F4.r26 : List Oper := [
  ⟨(some 4), (.assign (.const (.bool false))), 4, "", #[], none⟩]
def F4.r21 : List Oper := [
  ⟨(some 71), (.move (.tmp 12)), 3, "", #[], none⟩,
  ⟨(some 72), (.binOp .add 3 (.tmp 71) (.const (.int .i64 1)) 3), 3, "", #[], none⟩,
  ⟨(some 12), (.assign (.tmp 72)), 3, "", #[], none⟩]
def F4.r27 : List Oper := [
  ⟨(some 16), (.assign (.const (.int .i64 0))), 3, "", #[], none⟩]
def F4.r28 : List Oper := [
  ⟨(some 103), (.move (.tmp 16)), 3, "", #[], none⟩,
  ⟨(some 104), (.move (.tmp 6)), 26, "", #[], none⟩,
  ⟨(some 105), (.call ⟨(.builtin .len), #[(.tmp 104)], #[26]⟩), 3, "", #[], none⟩,
  ⟨(some 106), (.binOp .lss 3 (.tmp 103) (.tmp 105) 3), 4, "", #[], none⟩]
def F4.r30 : List Oper := [
  ⟨(some 109), (.move (.tmp 6)), 26, "", #[], none⟩,
  ⟨(some 110), (.move (.tmp 16)), 3, "", #[], none⟩,
  ⟨(some 111), (.indexAddr 26 (.tmp 109) (.tmp 110)), 0, "", #[], none⟩,
  ⟨(some 113), (.move (.tmp 7)), 27, "", #[], none⟩,
  ⟨(some 114), (.move (.tmp 16)), 3, "", #[], none⟩,
  ⟨(some 115), (.indexAddr 27 (.tmp 113) (.tmp 114)), 0, "", #[], none⟩,
  ⟨(some 112), (.load 28 (.tmp 111)), 28, "", #[⟨256, .data⟩], none⟩,
  ⟨(some 116), (.load 31 (.tmp 115)), 31, "", #[⟨256, .data⟩], none⟩,
  ⟨(some 117), (.call ⟨(.value (.func 16)), #[(.tmp 112), (.tmp 116)], #[28, 31]⟩), 4, "", #[⟨8, .chain⟩], none⟩,
  ⟨(some 17), (.assign (.tmp 117)), 4, "", #[], none⟩]
def F4.r31 : List Oper := [
  ⟨(some 118), (.move (.tmp 17)), 4, "", #[], none⟩,
  ⟨(some 119), (.unOp .not 4 (.tmp 118)), 4, "", #[], none⟩]
def F4.r32 : List Oper := [
  ⟨(some 4), (.assign (.const (.bool false))), 4, "", #[], none⟩]
def F4.r29 : List Oper := [
  ⟨(some 107), (.move (.tmp 16)), 3, "", #[], none⟩,
  ⟨(some 108), (.binOp .add 3 (.tmp 107) (.const (.int .i64 1)) 3), 3, "", #[], none⟩,
  ⟨(some 16), (.assign (.tmp 108)), 3, "", #[], none⟩]
def F4.r33 : List Oper := [
  ⟨(some 120), (.move (.tmp 11)), 33, "", #[], none⟩,
  ⟨(some 121), (.call ⟨(.value (.func 17)), #[(.tmp 120)], #[33]⟩), 4, "", #[⟨0, .chain⟩], none⟩,
  ⟨(some 4), (.assign (.tmp 121)), 4, "", #[], none⟩]
def F4.t15 : Cd := (.seq (.region 15 F4.r15.toArray false) (.cond (.tmp 51) (.seq (.region 16 F4.r16.toArray false) (.region 17 F4.r17.toArray false)) .skip))
theorem F4.t15_eq {P : Program} {Q : Post} {e : FA} {w : World} {θ : Tag (F4.t15, Q, e, w)} : cwE P F4.t15 Q e w θ = cwE P (.seq (.region 15 F4.r15.toArray false) (.cond (.tmp 51) (.seq (.region 16 F4.r16.toArray false) (.region 17 F4.r17.toArray false)) .skip)) Q e w := rfl
def F4.t10 : Cd := (.region 10 F4.r10.toArray false)
theorem F4.t10_eq {P : Program} {Q : Post} {e : FA} {w : World} {θ : Tag (F4.t10, Q, e, w)} : cwE P F4.t10 Q e w θ = cwE P (.region 10 F4.r10.toArray false) Q e w := rfl
def F4.t11 : Cd := (.seq (.block 1 (.seq (.region 11 F4.r11.toArray false) (.seq (.region 12 F4.r12.toArray false) (.seq (.seq (.region 13 F4.r13.toArray false) (.cond (.tmp 49) (.seq (.region 14 F4.r14.toArray false) .ret) .skip)) F4.t15)))) F4.t10)
theorem F4.t11_eq {P : Program} {Q : Post} {e : FA} {w : World} {θ : Tag (F4.t11, Q, e, w)} : cwE P F4.t11 Q e w θ = cwE P (.seq (.block 1 (.seq (.region 11 F4.r11.toArray false) (.seq (.region 12 F4.r12.toArray false) (.seq (.seq (.region 13 F4.r13.toArray false) (.cond (.tmp 49) (.seq (.region 14 F4.r14.toArray false) .ret) .skip)) F4.t15)))) F4.t10) Q e w := rfl
def F4.t21 : Cd := (.region 21 F4.r21.toArray false)
theorem F4.t21_eq {P : Program} {Q : Post} {e : FA} {w : World} {θ : Tag (F4.t21, Q, e, w)} : cwE P F4.t21 Q e w θ = cwE P (.region 21 F4.r21.toArray false) Q e w := rfl
def F4.t22 : Cd := (.seq (.block 3 (.seq (.region 22 F4.r22.toArray false) (.seq (.region 23 F4.r23.toArray true) (.seq (.region 24 F4.r24.toArray false) (.seq (.region 25 F4.r25.toArray false) (.cond (.tmp 102) (.seq (.region 26 F4.r26.toArray false) .ret) .skip)))))) F4.t21)
theorem F4.t22_eq {P : Program} {Q : Post} {e : FA} {w : World} {θ : Tag (F4.t22, Q, e, w)} : cwE P F4.t22 Q e w θ = cwE P (.seq (.block 3 (.seq (.region 22 F4.r22.toArray false) (.seq (.region 23 F4.r23.toArray true) (.seq (.region 24 F4.r24.toArray false) (.seq (.region 25 F4.r25.toArray false) (.cond (.tmp 102) (.seq (.region 26 F4.r26.toArray false) .ret) .skip)))))) F4.t21) Q e w := rfl
def F4.t29 : Cd := (.region 29 F4.r29.toArray false)
theorem F4.t29_eq {P : Program} {Q : Post} {e : FA} {w : World} {θ : Tag (F4.t29, Q, e, w)} : cwE P F4.t29 Q e w θ = cwE P (.region 29 F4.r29.toArray false) Q e w := rfl
def F4.t30 : Cd := (.seq (.block 5 (.seq (.region 30 F4.r30.toArray true) (.seq (.region 31 F4.r31.toArray false) (.cond (.tmp 119) (.seq (.region 32 F4.r32.toArray false) .ret) .skip)))) F4.t29)
theorem F4.t30_eq {P : Program} {Q : Post} {e : FA} {w : World} {θ : Tag (F4.t30, Q, e, w)} : cwE P F4.t30 Q e w θ = cwE P (.seq (.block 5 (.seq (.region 30 F4.r30.toArray true) (.seq (.region 31 F4.r31.toArray false) (.cond (.tmp 119) (.seq (.region 32 F4.r32.toArray false) .ret) .skip)))) F4.t29) Q e w := rfl
def F4.t33 : Cd := (.seq (.region 33 F4.r33.toArray false) .ret)
theorem F4.t33_eq {P : Program} {Q : Post} {e : FA} {w : World} {θ : Tag (F4.t33, Q, e, w)} : cwE P F4.t33 Q e w θ = cwE P (.seq (.region 33 F4.r33.toArray false) .ret) Q e w := rfl
def F4.t27 : Cd := (.seq (.seq (.region 27 F4.r27.toArray false) (.block 4 (.loop (.seq (.seq (.region 28 F4.r28.toArray false) (.cond (.tmp 106) .skip (.exit 4))) F4.t30)))) F4.t33)
theorem F4.t27_eq {P : Program} {Q : Post} {e : FA} {w : World} {θ : Tag (F4.t27, Q, e, w)} : cwE P F4.t27 Q e w θ = cwE P (.seq (.seq (.region 27 F4.r27.toArray false) (.block 4 (.loop (.seq (.seq (.region 28 F4.r28.toArray false) (.cond (.tmp 106) .skip (.exit 4))) F4.t30)))) F4.t33) Q e w := rfl
def F4.t18 : Cd := (.seq (.region 18 F4.r18.toArray false) (.seq (.seq (.region 19 F4.r19.toArray false) (.block 2 (.loop (.seq (.seq (.region 20 F4.r20.toArray false) (.cond (.tmp 70) .skip (.exit 2))) F4.t22)))) F4.t27))
theorem F4.t18_eq {P : Program} {Q : Post} {e : FA} {w : World} {θ : Tag (F4.t18, Q, e, w)} : cwE P F4.t18 Q e w θ = cwE P (.seq (.region 18 F4.r18.toArray false) (.seq (.seq (.region 19 F4.r19.toArray false) (.block 2 (.loop (.seq (.seq (.region 20 F4.r20.toArray false) (.cond (.tmp 70) .skip (.exit 2))) F4.t22)))) F4.t27)) Q e w := rfl
def F4.t6 : Cd := (.seq (.region 6 F4.r6.toArray false) (.seq (.region 7 F4.r7.toArray false) (.seq (.seq (.region 8 F4.r8.toArray false) (.block 0 (.loop (.seq (.seq (.region 9 F4.r9.toArray false) (.cond (.tmp 32) .skip (.exit 0))) F4.t11)))) F4.t18)))
theorem F4.t6_eq {P : Program} {Q : Post} {e : FA} {w : World} {θ : Tag (F4.t6, Q, e, w)} : cwE P F4.t6 Q e w θ = cwE P (.seq (.region 6 F4.r6.toArray false) (.seq (.region 7 F4.r7.toArray false) (.seq (.seq (.region 8 F4.r8.toArray false) (.block 0 (.loop (.seq (.seq (.region 9 F4.r9.toArray false) (.cond (.tmp 32) .skip (.exit 0))) F4.t11)))) F4.t18))) Q e w := rfl
def F4.t3 : Cd := (.seq (.region 3 F4.r3.toArray false) (.seq (.seq (.region 4 F4.r4.toArray false) (.cond (.tmp 28) (.seq (.region 5 F4.r5.toArray false) .ret) .skip)) F4.t6))
theorem F4.t3_eq {P : Program} {Q : Post} {e : FA} {w : World} {θ : Tag (F4.t3, Q, e, w)} : cwE P F4.t3 Q e w θ = cwE P (.seq (.region 3 F4.r3.toArray false) (.seq (.seq (.region 4 F4.r4.toArray false) (.cond (.tmp 28) (.seq (.region 5 F4.r5.toArray false) .ret) .skip)) F4.t6)) Q e w := rfl
def F4.code : Cd := (.seq (.region 0 F4.r0.toArray false) (.seq (.seq (.region 1 F4.r1.toArray false) (.cond (.tmp 25) (.seq (.region 2 F4.r2.toArray false) .ret) .skip)) F4.t3))
theorem F4.calls {args : Array Value} {w : World} {R : Ending → World → Prop} (hn : args.size ≤ 122) (h : cwE Try.prog F4.code (fnP Try.prog #[(.tmp 4)] R) (entry args) w) : Calls Try.prog 4 args w R :=
  calls_of_cwE (types := Try.prog.types) follows Try.func4 F4.code rfl (by kernel_rfl) hn h

def F5.r0 : List Oper := [
  ⟨(some 1), (.box 45 (.tmp 0)), 0, "", #[⟨0, .chain⟩], none⟩,
  ⟨(some 2), (.assign (.const (.bool false))), 4, "", #[], none⟩]
def F5.r1 : List Oper := [
  ⟨(some 22), (.fieldAddr 45 (.tmp 1) 1), 0, "", #[], none⟩,
  ⟨(some 25), (.fieldAddr 45 (.tmp 1) 3), 0, "", #[], none⟩,
  ⟨(some 23), (.load 34 (.tmp 22)), 34, "", #[⟨36, .data⟩], none⟩,
  ⟨(some 26), (.load 24 (.tmp 25)), 24, "", #[⟨32, .data⟩], none⟩,
  ⟨(some 24), (.call ⟨(.value (.func 18)), #[(.tmp 23)], #[34]⟩), 3, "", #[⟨2, .chain⟩], none⟩,
  ⟨(some 27), (.call ⟨(.value (.func 10)), #[(.tmp 26)], #[24]⟩), 3, "", #[⟨5, .chain⟩], none⟩,
  ⟨(some 28), (.binOp .add 3 (.tmp 24) (.tmp 27) 3), 3, "", #[], none⟩,
  ⟨(some 29), (.binOp .gtr 3 (.tmp 28) (.const (.int .i64 33554432)) 3), 4, "", #[], none⟩]
def F5.r2 : List Oper := [
  ⟨(some 2), (.assign (.const (.bool true))), 4, "", #[], none⟩]
def F5.r3 : List Oper := [
  ⟨(some 30), (.call ⟨(.value (.func 9)), #[], #[]⟩), 4, "", #[⟨0, .chain⟩], none⟩,
  ⟨(some 3), (.assign (.tmp 30)), 4, "", #[], none⟩]
def F5.r4 : List Oper := [
  ⟨(some 31), (.fieldAddr 45 (.tmp 1) 0), 0, "", #[], none⟩,
  ⟨(some 32), (.load 30 (.tmp 31)), 30, "", #[⟨0, .data⟩], none⟩,
  ⟨(some 33), (.binOp .rem 30 (.tmp 32) (.const (.int .u32 65530)) 30), 30, "", #[], none⟩,
  ⟨(some 34), (.convert 30 3 (.tmp 33)), 3, "", #[], none⟩,
  ⟨(some 35), (.binOp .add 3 (.const (.int .i64 7)) (.tmp 34) 3), 3, "", #[], none⟩,
  ⟨(some 4), (.assign (.tmp 35)), 3, "", #[], none⟩]
def F5.r5 : List Oper := [
  ⟨(some 36), (.fieldAddr 45 (.tmp 1) 1), 0, "", #[], none⟩,
  ⟨(some 37), (.load 34 (.tmp 36)), 34, "", #[⟨0, .data⟩], none⟩,
  ⟨(some 5), (.assign (.tmp 37)), 34, "", #[], none⟩]
def F5.r6 : List Oper := [
  ⟨(some 38), (.fieldAddr 45 (.tmp 1) 2), 0, "", #[], none⟩,
  ⟨(some 39), (.load 30 (.tmp 38)), 30, "", #[⟨0, .data⟩], none⟩,
  ⟨(some 6), (.assign (.tmp 39)), 30, "", #[], none⟩]
def F5.r7 : List Oper := [
  ⟨(some 40), (.move (.tmp 4)), 3, "", #[], none⟩,
  ⟨(some 41), (.convert 3 30 (.tmp 40)), 30, "", #[], none⟩,
  ⟨(some 42), (.call ⟨(.value (.func 11)), #[(.tmp 41)], #[30]⟩), 28, "", #[⟨0, .chain⟩], none⟩,
  ⟨(some 7), (.assign (.tmp 42)), 28, "", #[], none⟩]
def F5.r8 : List Oper := [
  ⟨(some 43), (.move (.tmp 3)), 4, "", #[], none⟩,
  ⟨(some 44), (.unOp .not 4 (.tmp 43)), 4, "", #[], none⟩,
  ⟨(some 45), (.move (.tmp 44)), 4, "", #[], none⟩,
  ⟨(some 46), (.move (.tmp 7)), 28, "", #[], (some (45, false))⟩,
  ⟨(some 47), (.binOp .eql 28 (.tmp 46) (.const (.pointer none)) 28), 4, "", #[], (some (45, false))⟩,
  ⟨(some 48), (.pick (.tmp 45) (.const (.bool true)) (.tmp 47)), 4, "", #[], none⟩]
def F5.r9 : List Oper := [
  ⟨(some 2), (.assign (.const (.bool false))), 4, "", #[], none⟩]
def F5.r10 : List Oper := [
  ⟨(some 8), (.assign (.const (.int .i64 0))), 3, "", #[], none⟩]
def F5.r11 : List Oper := [
  ⟨(some 9), (.assign (.const (.int .i64 0))), 3, "", #[], none⟩]
def F5.r12 : List Oper := [
  ⟨(some 49), (.move (.tmp 9)), 3, "", #[], none⟩,
  ⟨(some 50), (.move (.tmp 5)), 34, "", #[], none⟩,
  ⟨(some 51), (.call ⟨(.builtin .len), #[(.tmp 50)], #[34]⟩), 3, "", #[], none⟩,
  ⟨(some 52), (.binOp .lss 3 (.tmp 49) (.tmp 51) 3), 4, "", #[], none⟩]
def F5.r14 : List Oper := [
  ⟨(some 55), (.move (.tmp 5)), 34, "", #[], none⟩,
  ⟨(some 56), (.move (.tmp 9)), 3, "", #[], none⟩,
  ⟨(some 57), (.indexAddr 34 (.tmp 55) (.tmp 56)), 0, "", #[], none⟩,
  ⟨(some 58), (.load 35 (.tmp 57)), 35, "", #[⟨0, .data⟩], none⟩,
  ⟨(some 59), (.move (.tmp 4)), 3, "", #[], none⟩,
  ⟨(some 60), (.call ⟨(.value (.func 19)), #[(.tmp 58), (.tmp 59)], #[35, 3]⟩), 35, "", #[⟨0, .chain⟩], none⟩,
  ⟨(some 10), (.assign (.tmp 60)), 35, "", #[], none⟩]
def F5.r15 : List Oper := [
  ⟨(some 61), (.move (.tmp 7)), 28, "", #[], none⟩,
  ⟨(some 62), (.move (.tmp 10)), 35, "", #[], none⟩,
  ⟨(some 63), (.call ⟨(.value (.func 20)), #[(.tmp 61), (.tmp 62)], #[28, 35]⟩), 3, "", #[⟨0, .chain⟩], none⟩,
  ⟨(some 11), (.assign (.tmp 63)), 3, "", #[], none⟩]
def F5.r16 : List Oper := [
  ⟨(some 65), (.move (.tmp 7)), 28, "", #[], none⟩,
  ⟨(some 66), (.call ⟨(.value (.func 21)), #[(.tmp 65)], #[28]⟩), 49, "", #[⟨0, .chain⟩], none⟩,
  ⟨(some 64), (.move (.tmp 66)), 49, "", #[], none⟩,
  ⟨(some 67), (.extract (.tmp 64) 0), 35, "", #[], none⟩,
  ⟨(some 68), (.extract (.tmp 64) 1), 4, "", #[], none⟩,
  ⟨(some 12), (.assign (.tmp 67)), 35, "", #[], none⟩,
  ⟨(some 13), (.assign (.tmp 68)), 4, "", #[], none⟩]
def F5.r17 : List Oper := [
  ⟨(some 69), (.move (.tmp 11)), 3, "", #[], none⟩,
  ⟨(some 70), (.move (.tmp 10)), 35, "", #[], none⟩,
  ⟨(some 71), (.call ⟨(.builtin .len), #[(.tmp 70)], #[35]⟩), 3, "", #[], none⟩,
  ⟨(some 72), (.binOp .neq 3 (.tmp 69) (.tmp 71) 3), 4, "", #[], none⟩,
  ⟨(some 73), (.move (.tmp 72)), 4, "", #[], none⟩,
  ⟨(some 74), (.move (.tmp 13)), 4, "", #[], (some (73, false))⟩,
  ⟨(some 75), (.unOp .not 4 (.tmp 74)), 4, "", #[], (some (73, false))⟩,
  ⟨(some 76), (.pick (.tmp 73) (.const (.bool true)) (.tmp 75)), 4, "", #[], none⟩]
def F5.r18 : List Oper := [
  ⟨(some 2), (.assign (.const (.bool false))), 4, "", #[], none⟩]
def F5.r19 : List Oper := [
  ⟨(some 77), (.move (.tmp 8)), 3, "", #[], none⟩,
  ⟨(some 78), (.move (.tmp 11)), 3, "", #[], none⟩,
  ⟨(some 79), (.binOp .add 3 (.tmp 77) (.tmp 78) 3), 3, "", #[], none⟩,
  ⟨(some 8), (.assign (.tmp 79)), 3, "", #[], none⟩]
def F5.r13 : List Oper := [
  ⟨(some 53), (.move (.tmp 9)), 3, "", #[], none⟩,
  ⟨(some 54), (.binOp .add 3 (.tmp 53) (.const (.int .i64 1)) 3), 3, "", #[], none⟩,
  ⟨(some 9), (.assign (.tmp 54)), 3, "", #[], none⟩]
def F5.r20 : List Oper := [
  ⟨(some 80), (.move (.tmp 6)), 30, "", #[], none⟩,
  ⟨(some 81), (.binOp .geq 30 (.tmp 80) (.const (.int .u32 7)) 30), 4, "", #[], none⟩,
  ⟨(some 82), (.move (.tmp 81)), 4, "", #[], none⟩,
  ⟨(some 83), (.move (.tmp 6)), 30, "", #[], (some (82, true))⟩,
  ⟨(some 84), (.move (.tmp 4)), 3, "", #[], (some (82, true))⟩,
  ⟨(some 85), (.convert 3 30 (.tmp 84)), 30, "", #[], (some (82, true))⟩,
  ⟨(some 86), (.binOp .leq 30 (.tmp 83) (.tmp 85) 30), 4, "", #[], (some (82, true))⟩,
  ⟨(some 87), (.pick (.tmp 82) (.tmp 86) (.const (.bool false))), 4, "", #[], none⟩]
def F5.r21 : List Oper := [
  ⟨(some 88), (.move (.tmp 6)), 30, "", #[], none⟩,
  ⟨(some 89), (.binOp .rem 30 (.tmp 88) (.const (.int .u32 7)) 30), 30, "", #[], none⟩,
  ⟨(some 6), (.assign (.tmp 89)), 30, "", #[], none⟩]
def F5.r22 : List Oper := [
  ⟨(some 90), (.move (.tmp 7)), 28, "", #[], none⟩,
  ⟨(some 91), (.move (.tmp 6)), 30, "", #[], none⟩,
  ⟨(some 92), (.convert 30 5 (.tmp 91)), 5, "", #[], none⟩,
  ⟨(some 93), (.move (.tmp 6)), 30, "", #[], none⟩,
  ⟨(some 94), (.binOp .quo 30 (.tmp 93) (.const (.int .u32 256)) 30), 30, "", #[], none⟩,
  ⟨(some 95), (.convert 30 5 (.tmp 94)), 5, "", #[], none⟩,
  ⟨(some 96), (.move (.tmp 6)), 30, "", #[], none⟩,
  ⟨(some 97), (.binOp .quo 30 (.tmp 96) (.const (.int .u32 65536)) 30), 30, "", #[], none⟩,
  ⟨(some 98), (.convert 30 5 (.tmp 97)), 5, "", #[], none⟩,
  ⟨(some 99), (.move (.tmp 6)), 30, "", #[], none⟩,
  ⟨(some 100), (.binOp .quo 30 (.tmp 99) (.const (.int .u32 16777216)) 30), 30, "", #[], none⟩,
  ⟨(some 101), (.convert 30 5 (.tmp 100)), 5, "", #[], none⟩,
  ⟨(some 102), (.buildSlice 35 7 #[(0, (.tmp 92)), (1, (.tmp 95)), (2, (.tmp 98)), (3, (.tmp 101)), (4, (.const (.int .u8 1))), (5, (.const (.int .u8 2))), (6, (.const (.int .u8 3)))]), 35, "", #[⟨0, .chain⟩], none⟩,
  ⟨(some 103), (.call ⟨(.value (.func 20)), #[(.tmp 90), (.tmp 102)], #[28, 35]⟩), 3, "", #[⟨0, .chain⟩], none⟩,
  ⟨(some 14), (.assign (.tmp 103)), 3, "", #[], none⟩]
def F5.r23 : List Oper := [
  ⟨(some 104), (.move (.tmp 14)), 3, "", #[], none⟩,
  ⟨(some 105), (.binOp .neq 3 (.tmp 104) (.const (.int .i64 4)) 3), 4, "", #[], none⟩]
def F5.r24 : List Oper := [
  ⟨(some 2), (.assign (.const (.bool false))), 4, "", #[], none⟩]
def F5.r25 : List Oper := [
  ⟨(some 15), (.assign (.const (.int .i64 0))), 3, "", #[], none⟩]
def F5.r26 : List Oper := [
  ⟨(some 106), (.move (.tmp 15)), 3, "", #[], none⟩,
  ⟨(some 107), (.fieldAddr 45 (.tmp 1) 3), 0, "", #[], none⟩,
  ⟨(some 108), (.load 24 (.tmp 107)), 24, "", #[⟨0, .data⟩], none⟩,
  ⟨(some 109), (.call ⟨(.builtin .len), #[(.tmp 108)], #[24]⟩), 3, "", #[], none⟩,
  ⟨(some 110), (.binOp .lss 3 (.tmp 106) (.tmp 109) 3), 4, "", #[], none⟩]
def F5.r28 : List Oper := [
  ⟨(some 113), (.move (.tmp 7)), 28, "", #[], none⟩,
  ⟨(some 114), (.fieldAddr 45 (.tmp 1) 3), 0, "", #[], none⟩,
  ⟨(some 115), (.load 24 (.tmp 114)), 24, "", #[⟨0, .data⟩], none⟩,
  ⟨(some 116), (.move (.tmp 15)), 3, "", #[], none⟩,
  ⟨(some 117), (.indexAddr 24 (.tmp 115) (.tmp 116)), 0, "", #[], none⟩,
  ⟨(some 118), (.fieldAddr 40 (.tmp 117) 3), 0, "", #[], none⟩,
  ⟨(some 119), (.load 30 (.tmp 118)), 30, "", #[⟨0, .data⟩], none⟩,
  ⟨(some 120), (.call ⟨(.value (.func 22)), #[(.tmp 113), (.tmp 119)], #[28, 30]⟩), 51, "", #[⟨0, .chain⟩], none⟩]
def F5.r29 : List Oper := [
  ⟨(some 122), (.move (.tmp 7)), 28, "", #[], none⟩,
  ⟨(some 123), (.call ⟨(.value (.func 21)), #[(.tmp 122)], #[28]⟩), 49, "", #[⟨0, .chain⟩], none⟩,
  ⟨(some 121), (.move (.tmp 123)), 49, "", #[], none⟩,
  ⟨(some 124), (.extract (.tmp 121) 0), 35, "", #[], none⟩,
  ⟨(some 125), (.extract (.tmp 121) 1), 4, "", #[], none⟩,
  ⟨(some 16), (.assign (.tmp 124)), 35, "", #[], none⟩,
  ⟨(some 17), (.assign (.tmp 125)), 4, "", #[], none⟩]
def F5.r30 : List Oper := [
  ⟨(some 127), (.move (.tmp 7)), 28, "", #[], none⟩,
  ⟨(some 128), (.call ⟨(.value (.func 23)), #[(.tmp 127)], #[28]⟩), 53, "", #[⟨0, .chain⟩], none⟩,
  ⟨(some 126), (.move (.tmp 128)), 53, "", #[], none⟩,
  ⟨(some 129), (.extract (.tmp 126) 0), 51, "", #[], none⟩,
  ⟨(some 130), (.extract (.tmp 126) 1), 3, "", #[], none⟩,
  ⟨(some 18), (.assign (.tmp 129)), 51, "", #[], none⟩,
  ⟨(some 19), (.assign (.tmp 130)), 3, "", #[], none⟩]
def F5.r31 : List Oper := [
  ⟨(some 131), (.move (.tmp 7)), 28, "", #[], none⟩,
  ⟨(some 132), (.fieldAddr 45 (.tmp 1) 3), 0, "", #[], none⟩,
  ⟨(some 133), (.load 24 (.tmp 132)), 24, "", #[⟨0, .data⟩], none⟩,
  ⟨(some 134), (.move (.tmp 15)), 3, "", #[], none⟩,
  ⟨(some 135), (.indexAddr 24 (.tmp 133) (.tmp 134)), 0, "", #[], none⟩,
  ⟨(some 136), (.fieldAddr 40 (.tmp 135) 2), 0, "", #[], none⟩,
  ⟨(some 137), (.load 35 (.tmp 136)), 35, "", #[⟨0, .data⟩], none⟩,
  ⟨(some 138), (.call ⟨(.value (.func 20)), #[(.tmp 131), (.tmp 137)], #[28, 35]⟩), 3, "", #[⟨0, .chain⟩], none⟩,
  ⟨(some 139), (.binOp .neq 3 (.tmp 138) (.const (.int .i64 0)) 3), 4, "", #[], none⟩,
  ⟨(some 140), (.move (.tmp 139)), 4, "", #[], none⟩,
  ⟨(some 141), (.move (.tmp 17)), 4, "", #[], (some (140, false))⟩,
  ⟨(some 142), (.pick (.tmp 140) (.const (.bool true)) (.tmp 141)), 4, "", #[], none⟩,
  ⟨(some 143), (.move (.tmp 142)), 4, "", #[], none⟩,
  ⟨(some 144), (.move (.tmp 16)), 35, "", #[], (some (143, false))⟩,
  ⟨(some 145), (.call ⟨(.builtin .len), #[(.tmp 144)], #[35]⟩), 3, "", #[], (some (143, false))⟩,
  ⟨(some 146), (.binOp .gtr 3 (.tmp 145) (.const (.int .i64 0)) 3), 4, "", #[], (some (143, false))⟩,
  ⟨(some 147), (.pick (.tmp 143) (.const (.bool true)) (.tmp 146)), 4, "", #[], none⟩,
  ⟨(some 148), (.move (.tmp 147)), 4, "", #[], none⟩,
  ⟨(some 149), (.move (.tmp 18)), 51, "", #[], (some (148, false))⟩,
  ⟨(some 150), (.binOp .neq 51 (.tmp 149) (.const (.int .i64 40)) 51), 4, "", #[], (some (148, false))⟩,
  ⟨(some 151), (.pick (.tmp 148) (.const (.bool true)) (.tmp 150)), 4, "", #[], none⟩,
  ⟨(some 152), (.move (.tmp 151)), 4, "", #[], none⟩,
  ⟨(some 153), (.move (.tmp 19)), 3, "", #[], (some (152, false))⟩,
  ⟨(some 154), (.move (.tmp 8)), 3, "", #[], (some (152, false))⟩,
  ⟨(some 155), (.binOp .neq 3 (.tmp 153) (.tmp 154) 3), 4, "", #[], (some (152, false))⟩,
  ⟨(some 156), (.pick (.tmp 152) (.const (.bool true)) (.tmp 155)), 4, "", #[], none⟩]
def F5.r32 : List Oper := [
  ⟨(some 2), (.assign (.const (.bool false))), 4, "", #[], none⟩]
def F5.r27 : List Oper := [
  ⟨(some 111), (.move (.tmp 15)), 3, "", #[], none⟩,
  ⟨(some 112), (.binOp .add 3 (.tmp 111) (.const (.int .i64 1)) 3), 3, "", #[], none⟩,
  ⟨(some 15), (.assign (.tmp 112)), 3, "", #[], none⟩]
def F5.r33 : List Oper := [
  ⟨(some 158), (.move (.tmp 7)), 28, "", #[], none⟩,
  ⟨(some 159), (.call ⟨(.value (.func 23)), #[(.tmp 158)], #[28]⟩), 53, "", #[⟨0, .chain⟩], none⟩,
  ⟨(some 157), (.move (.tmp 159)), 53, "", #[], none⟩,
  ⟨(some 160), (.extract (.tmp 157) 0), 51, "", #[], none⟩,
  ⟨(some 161), (.extract (.tmp 157) 1), 3, "", #[], none⟩,
  ⟨(some 20), (.assign (.tmp 160)), 51, "", #[], none⟩,
  ⟨(some 21), (.assign (.tmp 161)), 3, "", #[], none⟩]
def F5.r34 : List Oper := [
  ⟨(some 162), (.move (.tmp 20)), 51, "", #[], none⟩,
  ⟨(some 163), (.binOp .eql 51 (.tmp 162) (.const (.int .i64 40)) 51), 4, "", #[], none⟩,
  ⟨(some 164), (.move (.tmp 163)), 4, "", #[], none⟩,
  ⟨(some 165), (.move (.tmp 21)), 3, "", #[], (some (164, true))⟩,
  ⟨(some 166), (.move (.tmp 8)), 3, "", #[], (some (164, true))⟩,
  ⟨(some 167), (.binOp .eql 3 (.tmp 165) (.tmp 166) 3), 4, "", #[], (some (164, true))⟩,
  ⟨(some 168), (.pick (.tmp 164) (.tmp 167) (.const (.bool false))), 4, "", #[], none⟩,
  ⟨(some 169), (.move (.tmp 168)), 4, "", #[], none⟩,
  ⟨(some 170), (.move (.tmp 7)), 28, "", #[], (some (169, true))⟩,
  ⟨(some 171), (.call ⟨(.value (.func 24)), #[(.tmp 170)], #[28]⟩), 4, "", #[⟨0, .chain⟩], (some (169, true))⟩,
  ⟨(some 172), (.unOp .not 4 (.tmp 171)), 4, "", #[], (some (169, true))⟩,
  ⟨(some 173), (.pick (.tmp 169) (.tmp 172) (.const (.bool false))), 4, "", #[], none⟩,
  ⟨(some 174), (.move (.tmp 173)), 4, "", #[], none⟩,
  ⟨(some 175), (.move (.tmp 7)), 28, "", #[], (some (174, true))⟩,
  ⟨(some 176), (.call ⟨(.value (.func 25)), #[(.tmp 175)], #[28]⟩), 3, "", #[⟨0, .chain⟩], (some (174, true))⟩,
  ⟨(some 177), (.binOp .eql 3 (.tmp 176) (.const (.int .i64 0)) 3), 4, "", #[], (some (174, true))⟩,
  ⟨(some 178), (.pick (.tmp 174) (.tmp 177) (.const (.bool false))), 4, "", #[], none⟩,
  ⟨(some 179), (.move (.tmp 178)), 4, "", #[], none⟩,
  ⟨(some 180), (.move (.tmp 7)), 28, "", #[], (some (179, true))⟩,
  ⟨(some 181), (.call ⟨(.value (.func 26)), #[(.tmp 180)], #[28]⟩), 3, "", #[⟨0, .chain⟩], (some (179, true))⟩,
  ⟨(some 182), (.move (.tmp 5)), 34, "", #[], (some (179, true))⟩,
  ⟨(some 183), (.call ⟨(.builtin .len), #[(.tmp 182)], #[34]⟩), 3, "", #[], (some (179, true))⟩,
  ⟨(some 184), (.binOp .eql 3 (.tmp 181) (.tmp 183) 3), 4, "", #[], (some (179, true))⟩,
  ⟨(some 185), (.pick (.tmp 179) (.tmp 184) (.const (.bool false))), 4, "", #[], none⟩,
  ⟨(some 2), (.assign (.tmp 185)), 4, "", #[], none⟩]
def F5.t19 : Cd := (.region 19 F5.r19.toArray false)
theorem F5.t19_eq {P : Program} {Q : Post} {e : FA} {w : World} {θ : Tag (F5.t19, Q, e, w)} : cwE P F5.t19 Q e w θ = cwE P (.region 19 F5.r19.toArray false) Q e w := rfl
def F5.t13 : Cd := (.region 13 F5.r13.toArray false)
theorem F5.t13_eq {P : Program} {Q : Post} {e : FA} {w : World} {θ : Tag (F5.t13, Q, e, w)} : cwE P F5.t13 Q e w θ = cwE P (.region 13 F5.r13.toArray false) Q e w := rfl
def F5.t14 : Cd := (.seq (.block 1 (.seq (.region 14 F5.r14.toArray false) (.seq (.region 15 F5.r15.toArray false) (.seq (.region 16 F5.r16.toArray false) (.seq (.seq (.region 17 F5.r17.toArray false) (.cond (.tmp 76) (.seq (.region 18 F5.r18.toArray false) .ret) .skip)) F5.t19))))) F5.t13)
theorem F5.t14_eq {P : Program} {Q : Post} {e : FA} {w : World} {θ : Tag (F5.t14, Q, e, w)} : cwE P F5.t14 Q e w θ = cwE P (.seq (.block 1 (.seq (.region 14 F5.r14.toArray false) (.seq (.region 15 F5.r15.toArray false) (.seq (.region 16 F5.r16.toArray false) (.seq (.seq (.region 17 F5.r17.toArray false) (.cond (.tmp 76) (.seq (.region 18 F5.r18.toArray false) .ret) .skip)) F5.t19))))) F5.t13) Q e w := rfl
def F5.t27 : Cd := (.region 27 F5.r27.toArray false)
theorem F5.t27_eq {P : Program} {Q : Post} {e : FA} {w : World} {θ : Tag (F5.t27, Q, e, w)} : cwE P F5.t27 Q e w θ = cwE P (.region 27 F5.r27.toArray false) Q e w := rfl
def F5.t28 : Cd := (.seq (.block 3 (.seq (.region 28 F5.r28.toArray false) (.seq (.region 29 F5.r29.toArray false) (.seq (.region 30 F5.r30.toArray false) (.seq (.region 31 F5.r31.toArray false) (.cond (.tmp 156) (.seq (.region 32 F5.r32.toArray false) .ret) .skip)))))) F5.t27)
theorem F5.t28_eq {P : Program} {Q : Post} {e : FA} {w : World} {θ : Tag (F5.t28, Q, e, w)} : cwE P F5.t28 Q e w θ = cwE P (.seq (.block 3 (.seq (.region 28 F5.r28.toArray false) (.seq (.region 29 F5.r29.toArray false) (.seq (.region 30 F5.r30.toArray false) (.seq (.region 31 F5.r31.toArray false) (.cond (.tmp 156) (.seq (.region 32 F5.r32.toArray false) .ret) .skip)))))) F5.t27) Q e w := rfl
def F5.t33 : Cd := (.seq (.region 33 F5.r33.toArray false) (.seq (.region 34 F5.r34.toArray false) .ret))
theorem F5.t33_eq {P : Program} {Q : Post} {e : FA} {w : World} {θ : Tag (F5.t33, Q, e, w)} : cwE P F5.t33 Q e w θ = cwE P (.seq (.region 33 F5.r33.toArray false) (.seq (.region 34 F5.r34.toArray false) .ret)) Q e w := rfl
def F5.t25 : Cd := (.seq (.seq (.region 25 F5.r25.toArray false) (.block 2 (.loop (.seq (.seq (.region 26 F5.r26.toArray false) (.cond (.tmp 110) .skip (.exit 2))) F5.t28)))) F5.t33)
theorem F5.t25_eq {P : Program} {Q : Post} {e : FA} {w : World} {θ : Tag (F5.t25, Q, e, w)} : cwE P F5.t25 Q e w θ = cwE P (.seq (.seq (.region 25 F5.r25.toArray false) (.block 2 (.loop (.seq (.seq (.region 26 F5.r26.toArray false) (.cond (.tmp 110) .skip (.exit 2))) F5.t28)))) F5.t33) Q e w := rfl
def F5.t22 : Cd := (.seq (.region 22 F5.r22.toArray false) (.seq (.seq (.region 23 F5.r23.toArray false) (.cond (.tmp 105) (.seq (.region 24 F5.r24.toArray false) .ret) .skip)) F5.t25))
theorem F5.t22_eq {P : Program} {Q : Post} {e : FA} {w : World} {θ : Tag (F5.t22, Q, e, w)} : cwE P F5.t22 Q e w θ = cwE P (.seq (.region 22 F5.r22.toArray false) (.seq (.seq (.region 23 F5.r23.toArray false) (.cond (.tmp 105) (.seq (.region 24 F5.r24.toArray false) .ret) .skip)) F5.t25)) Q e w := rfl
def F5.t20 : Cd := (.seq (.seq (.region 20 F5.r20.toArray false) (.cond (.tmp 87) (.region 21 F5.r21.toArray false) .skip)) F5.t22)
theorem F5.t20_eq {P : Program} {Q : Post} {e : FA} {w : World} {θ : Tag (F5.t20, Q, e, w)} : cwE P F5.t20 Q e w θ = cwE P (.seq (.seq (.region 20 F5.r20.toArray false) (.cond (.tmp 87) (.region 21 F5.r21.toArray false) .skip)) F5.t22) Q e w := rfl
def F5.t10 : Cd := (.seq (.region 10 F5.r10.toArray false) (.seq (.seq (.region 11 F5.r11.toArray false) (.block 0 (.loop (.seq (.seq (.region 12 F5.r12.toArray false) (.cond (.tmp 52) .skip (.exit 0))) F5.t14)))) F5.t20))
theorem F5.t10_eq {P : Program} {Q : Post} {e : FA} {w : World} {θ : Tag (F5.t10, Q, e, w)} : cwE P F5.t10 Q e w θ = cwE P (.seq (.region 10 F5.r10.toArray false) (.seq (.seq (.region 11 F5.r11.toArray false) (.block 0 (.loop (.seq (.seq (.region 12 F5.r12.toArray false) (.cond (.tmp 52) .skip (.exit 0))) F5.t14)))) F5.t20)) Q e w := rfl
def F5.t3 : Cd := (.seq (.region 3 F5.r3.toArray false) (.seq (.region 4 F5.r4.toArray false) (.seq (.region 5 F5.r5.toArray false) (.seq (.region 6 F5.r6.toArray false) (.seq (.region 7 F5.r7.toArray false) (.seq (.seq (.region 8 F5.r8.toArray false) (.cond (.tmp 48) (.seq (.region 9 F5.r9.toArray false) .ret) .skip)) F5.t10))))))
theorem F5.t3_eq {P : Program} {Q : Post} {e : FA} {w : World} {θ : Tag (F5.t3, Q, e, w)} : cwE P F5.t3 Q e w θ = cwE P (.seq (.region 3 F5.r3.toArray false) (.seq (.region 4 F5.r4.toArray false) (.seq (.region 5 F5.r5.toArray false) (.seq (.region 6 F5.r6.toArray false) (.seq (.region 7 F5.r7.toArray false) (.seq (.seq (.region 8 F5.r8.toArray false) (.cond (.tmp 48) (.seq (.region 9 F5.r9.toArray false) .ret) .skip)) F5.t10)))))) Q e w := rfl
def F5.code : Cd := (.seq (.region 0 F5.r0.toArray false) (.seq (.seq (.region 1 F5.r1.toArray true) (.cond (.tmp 29) (.seq (.region 2 F5.r2.toArray false) .ret) .skip)) F5.t3))
theorem F5.calls {args : Array Value} {w : World} {R : Ending → World → Prop} (hn : args.size ≤ 186) (h : cwE Try.prog F5.code (fnP Try.prog #[(.tmp 2)] R) (entry args) w) : Calls Try.prog 5 args w R :=
  calls_of_cwE (types := Try.prog.types) follows Try.func5 F5.code rfl (by kernel_rfl) hn h

def F6.r0 : List Oper := [
  ⟨(some 6), (.assign (.const (.bool false))), 4, "", #[], none⟩]
def F6.r1 : List Oper := [
  ⟨(some 24), (.move (.tmp 0)), 35, "", #[], none⟩,
  ⟨(some 25), (.call ⟨(.builtin .len), #[(.tmp 24)], #[35]⟩), 3, "", #[], none⟩,
  ⟨(some 26), (.binOp .gtr 3 (.tmp 25) (.const (.int .i64 33554432)) 3), 4, "", #[], none⟩]
def F6.r2 : List Oper := [
  ⟨(some 6), (.assign (.const (.bool true))), 4, "", #[], none⟩]
def F6.r3 : List Oper := [
  ⟨(some 27), (.call ⟨(.value (.func 9)), #[], #[]⟩), 4, "", #[⟨0, .chain⟩], none⟩,
  ⟨(some 7), (.assign (.tmp 27)), 4, "", #[], none⟩]
def F6.r4 : List Oper := [
  ⟨(some 28), (.build 37 #[]), 37, "", #[], none⟩,
  ⟨(some 29), (.box 37 (.tmp 28)), 33, "", #[⟨0, .chain⟩], none⟩,
  ⟨(some 8), (.assign (.tmp 29)), 33, "", #[], none⟩]
def F6.r5 : List Oper := [
  ⟨(some 30), (.move (.tmp 0)), 35, "", #[], none⟩,
  ⟨(some 31), (.move (.tmp 1)), 30, "", #[], none⟩,
  ⟨(some 32), (.call ⟨(.value (.func 27)), #[(.tmp 30), (.tmp 31)], #[35, 30]⟩), 34, "", #[⟨0, .chain⟩], none⟩,
  ⟨(some 9), (.assign (.tmp 32)), 34, "", #[], none⟩]
def F6.r6 : List Oper := [
  ⟨(some 34), (.move (.tmp 0)), 35, "", #[], none⟩,
  ⟨(some 35), (.move (.tmp 1)), 30, "", #[], none⟩,
  ⟨(some 36), (.move (.tmp 8)), 33, "", #[], none⟩,
  ⟨(some 37), (.call ⟨(.value (.func 28)), #[(.tmp 34), (.tmp 35), (.const (.int .i64 0)), (.tmp 36)], #[35, 30, 3, 33]⟩), 58, "", #[⟨0, .chain⟩], none⟩,
  ⟨(some 33), (.move (.tmp 37)), 58, "", #[], none⟩,
  ⟨(some 38), (.extract (.tmp 33) 0), 34, "", #[], none⟩,
  ⟨(some 39), (.extract (.tmp 33) 1), 4, "", #[], none⟩,
  ⟨(some 10), (.assign (.tmp 38)), 34, "", #[], none⟩,
  ⟨(some 11), (.assign (.tmp 39)), 4, "", #[], none⟩]
def F6.r7 : List Oper := [
  ⟨(some 40), (.move (.tmp 8)), 33, "", #[], none⟩,
  ⟨(some 41), (.call ⟨(.value (.func 15)), #[(.tmp 40)], #[33]⟩), 4, "", #[⟨0, .chain⟩], none⟩,
  ⟨(some 12), (.assign (.tmp 41)), 4, "", #[], none⟩]
def F6.r8 : List Oper := [
  ⟨(some 42), (.move (.tmp 2)), 3, "", #[], none⟩,
  ⟨(some 43), (.move (.tmp 9)), 34, "", #[], none⟩,
  ⟨(some 44), (.call ⟨(.builtin .len), #[(.tmp 43)], #[34]⟩), 3, "", #[], none⟩,
  ⟨(some 45), (.binOp .add 3 (.tmp 44) (.const (.int .i64 1)) 3), 3, "", #[], none⟩,
  ⟨(some 46), (.call ⟨(.value (.func 13)), #[(.tmp 42), (.tmp 45)], #[3, 3]⟩), 3, "", #[⟨0, .chain⟩], none⟩,
  ⟨(some 47), (.binOp .add 3 (.const (.int .i64 1)) (.tmp 46) 3), 3, "", #[], none⟩,
  ⟨(some 13), (.assign (.tmp 47)), 3, "", #[], none⟩]
def F6.r9 : List Oper := [
  ⟨(some 49), (.move (.tmp 0)), 35, "", #[], none⟩,
  ⟨(some 50), (.move (.tmp 1)), 30, "", #[], none⟩,
  ⟨(some 51), (.move (.tmp 13)), 3, "", #[], none⟩,
  ⟨(some 52), (.move (.tmp 8)), 33, "", #[], none⟩,
  ⟨(some 53), (.call ⟨(.value (.func 28)), #[(.tmp 49), (.tmp 50), (.tmp 51), (.tmp 52)], #[35, 30, 3, 33]⟩), 58, "", #[⟨0, .chain⟩], none⟩,
  ⟨(some 48), (.move (.tmp 53)), 58, "", #[], none⟩,
  ⟨(some 54), (.extract (.tmp 48) 0), 34, "", #[], none⟩,
  ⟨(some 55), (.extract (.tmp 48) 1), 4, "", #[], none⟩,
  ⟨(some 14), (.assign (.tmp 54)), 34, "", #[], none⟩,
  ⟨(some 15), (.assign (.tmp 55)), 4, "", #[], none⟩]
def F6.r10 : List Oper := [
  ⟨(some 56), (.move (.tmp 8)), 33, "", #[], none⟩,
  ⟨(some 57), (.call ⟨(.value (.func 15)), #[(.tmp 56)], #[33]⟩), 4, "", #[⟨0, .chain⟩], none⟩,
  ⟨(some 16), (.assign (.tmp 57)), 4, "", #[], none⟩]
def F6.r11 : List Oper := [
  ⟨(some 59), (.move (.tmp 0)), 35, "", #[], none⟩,
  ⟨(some 60), (.move (.tmp 1)), 30, "", #[], none⟩,
  ⟨(some 61), (.move (.tmp 8)), 33, "", #[], none⟩,
  ⟨(some 62), (.call ⟨(.value (.func 28)), #[(.tmp 59), (.tmp 60), (.const (.int .i64 0)), (.tmp 61)], #[35, 30, 3, 33]⟩), 58, "", #[⟨0, .chain⟩], none⟩,
  ⟨(some 58), (.move (.tmp 62)), 58, "", #[], none⟩,
  ⟨(some 63), (.extract (.tmp 58) 0), 34, "", #[], none⟩,
  ⟨(some 64), (.extract (.tmp 58) 1), 4, "", #[], none⟩,
  ⟨(some 17), (.assign (.tmp 63)), 34, "", #[], none⟩,
  ⟨(some 18), (.assign (.tmp 64)), 4, "", #[], none⟩]
def F6.r12 : List Oper := [
  ⟨(some 65), (.move (.tmp 8)), 33, "", #[], none⟩,
  ⟨(some 66), (.call ⟨(.value (.func 17)), #[(.tmp 65)], #[33]⟩), 4, "", #[⟨0, .chain⟩], none⟩,
  ⟨(some 19), (.assign (.tmp 66)), 4, "", #[], none⟩]
def F6.r13 : List Oper := [
  ⟨(some 67), (.move (.tmp 13)), 3, "", #[], none⟩,
  ⟨(some 68), (.move (.tmp 9)), 34, "", #[], none⟩,
  ⟨(some 69), (.call ⟨(.builtin .len), #[(.tmp 68)], #[34]⟩), 3, "", #[], none⟩,
  ⟨(some 70), (.binOp .lss 3 (.tmp 67) (.tmp 69) 3), 4, "", #[], none⟩]
def F6.r14 : List Oper := [
  ⟨(some 71), (.move (.tmp 14)), 34, "", #[], none⟩,
  ⟨(some 72), (.move (.tmp 9)), 34, "", #[], none⟩,
  ⟨(some 73), (.move (.tmp 13)), 3, "", #[], none⟩,
  ⟨(some 74), (.slice 34 (.tmp 72) none (some (.tmp 73)) none), 34, "", #[], none⟩,
  ⟨(some 75), (.call ⟨(.value (.func 29)), #[(.tmp 71), (.tmp 74)], #[34, 34]⟩), 4, "", #[⟨0, .chain⟩], none⟩,
  ⟨(some 20), (.assign (.tmp 75)), 4, "", #[], none⟩]
def F6.r15 : List Oper := [
  ⟨(some 76), (.move (.tmp 20)), 4, "", #[], none⟩,
  ⟨(some 77), (.unOp .not 4 (.tmp 76)), 4, "", #[], none⟩]
def F6.r16 : List Oper := [
  ⟨(some 6), (.assign (.const (.bool false))), 4, "", #[], none⟩]
def F6.r17 : List Oper := [
  ⟨(some 78), (.move (.tmp 14)), 34, "", #[], none⟩,
  ⟨(some 79), (.move (.tmp 9)), 34, "", #[], none⟩,
  ⟨(some 80), (.call ⟨(.value (.func 29)), #[(.tmp 78), (.tmp 79)], #[34, 34]⟩), 4, "", #[⟨0, .chain⟩], none⟩,
  ⟨(some 21), (.assign (.tmp 80)), 4, "", #[], none⟩]
def F6.r18 : List Oper := [
  ⟨(some 81), (.move (.tmp 21)), 4, "", #[], none⟩,
  ⟨(some 82), (.unOp .not 4 (.tmp 81)), 4, "", #[], none⟩]
def F6.r19 : List Oper := [
  ⟨(some 6), (.assign (.const (.bool false))), 4, "", #[], none⟩]
def F6.r20 : List Oper := [
  ⟨(some 83), (.move (.tmp 10)), 34, "", #[], none⟩,
  ⟨(some 84), (.move (.tmp 9)), 34, "", #[], none⟩,
  ⟨(some 85), (.call ⟨(.value (.func 29)), #[(.tmp 83), (.tmp 84)], #[34, 34]⟩), 4, "", #[⟨0, .chain⟩], none⟩,
  ⟨(some 22), (.assign (.tmp 85)), 4, "", #[], none⟩]
def F6.r21 : List Oper := [
  ⟨(some 86), (.move (.tmp 17)), 34, "", #[], none⟩,
  ⟨(some 87), (.move (.tmp 9)), 34, "", #[], none⟩,
  ⟨(some 88), (.call ⟨(.value (.func 29)), #[(.tmp 86), (.tmp 87)], #[34, 34]⟩), 4, "", #[⟨0, .chain⟩], none⟩,
  ⟨(some 23), (.assign (.tmp 88)), 4, "", #[], none⟩]
def F6.r22 : List Oper := [
  ⟨(some 89), (.move (.tmp 7)), 4, "", #[], none⟩,
  ⟨(some 90), (.move (.tmp 89)), 4, "", #[], none⟩,
  ⟨(some 91), (.move (.tmp 11)), 4, "", #[], (some (90, true))⟩,
  ⟨(some 92), (.pick (.tmp 90) (.tmp 91) (.const (.bool false))), 4, "", #[], none⟩,
  ⟨(some 93), (.move (.tmp 92)), 4, "", #[], none⟩,
  ⟨(some 94), (.move (.tmp 15)), 4, "", #[], (some (93, true))⟩,
  ⟨(some 95), (.pick (.tmp 93) (.tmp 94) (.const (.bool false))), 4, "", #[], none⟩,
  ⟨(some 96), (.move (.tmp 95)), 4, "", #[], none⟩,
  ⟨(some 97), (.move (.tmp 18)), 4, "", #[], (some (96, true))⟩,
  ⟨(some 98), (.pick (.tmp 96) (.tmp 97) (.const (.bool false))), 4, "", #[], none⟩,
  ⟨(some 99), (.move (.tmp 98)), 4, "", #[], none⟩,
  ⟨(some 100), (.move (.tmp 12)), 4, "", #[], (some (99, true))⟩,
  ⟨(some 101), (.pick (.tmp 99) (.tmp 100) (.const (.bool false))), 4, "", #[], none⟩,
  ⟨(some 102), (.move (.tmp 101)), 4, "", #[], none⟩,
  ⟨(some 103), (.move (.tmp 16)), 4, "", #[], (some (102, true))⟩,
  ⟨(some 104), (.pick (.tmp 102) (.tmp 103) (.const (.bool false))), 4, "", #[], none⟩,
  ⟨(some 105), (.move (.tmp 104)), 4, "", #[], none⟩,
  ⟨(some 106), (.move (.tmp 19)), 4, "", #[], (some (105, true))⟩,
  ⟨(some 107), (.pick (.tmp 105) (.tmp 106) (.const (.bool false))), 4, "", #[], none⟩,
  ⟨(some 108), (.move (.tmp 107)), 4, "", #[], none⟩,
  ⟨(some 109), (.move (.tmp 22)), 4, "", #[], (some (108, true))⟩,
  ⟨(some 110), (.pick (.tmp 108) (.tmp 109) (.const (.bool false))), 4, "", #[], none⟩,
  ⟨(some 111), (.move (.tmp 110)), 4, "", #[], none⟩,
  ⟨(some 112), (.move (.tmp 23)), 4, "", #[], (some (111, true))⟩,
  ⟨(some 113), (.pick (.tmp 111) (.tmp 112) (.const (.bool false))), 4, "", #[], none⟩,
  ⟨(some 6), (.assign (.tmp 113)), 4, "", #[], none⟩]
def F6.t20 : Cd := (.seq (.region 20 F6.r20.toArray false) (.seq (.region 21 F6.r21.toArray false) (.seq (.region 22 F6.r22.toArray false) .ret)))
theorem F6.t20_eq {P : Program} {Q : Post} {e : FA} {w : World} {θ : Tag (F6.t20, Q, e, w)} : cwE P F6.t20 Q e w θ = cwE P (.seq (.region 20 F6.r20.toArray false) (.seq (.region 21 F6.r21.toArray false) (.seq (.region 22 F6.r22.toArray false) .ret))) Q e w := rfl
def F6.t3 : Cd := (.seq (.region 3 F6.r3.toArray false) (.seq (.region 4 F6.r4.toArray false) (.seq (.region 5 F6.r5.toArray false) (.seq (.region 6 F6.r6.toArray false) (.seq (.region 7 F6.r7.toArray false) (.seq (.region 8 F6.r8.toArray false) (.seq (.region 9 F6.r9.toArray false) (.seq (.region 10 F6.r10.toArray false) (.seq (.region 11 F6.r11.toArray false) (.seq (.region 12 F6.r12.toArray false) (.seq (.seq (.region 13 F6.r13.toArray false) (.cond (.tmp 70) (.seq (.region 14 F6.r14.toArray false) (.seq (.region 15 F6.r15.toArray false) (.cond (.tmp 77) (.seq (.region 16 F6.r16.toArray false) .ret) .skip))) (.seq (.region 17 F6.r17.toArray false) (.seq (.region 18 F6.r18.toArray false) (.cond (.tmp 82) (.seq (.region 19 F6.r19.toArray false) .ret) .skip))))) F6.t20)))))))))))
theorem F6.t3_eq {P : Program} {Q : Post} {e : FA} {w : World} {θ : Tag (F6.t3, Q, e, w)} : cwE P F6.t3 Q e w θ = cwE P (.seq (.region 3 F6.r3.toArray false) (.seq (.region 4 F6.r4.toArray false) (.seq (.region 5 F6.r5.toArray false) (.seq (.region 6 F6.r6.toArray false) (.seq (.region 7 F6.r7.toArray false) (.seq (.region 8 F6.r8.toArray false) (.seq (.region 9 F6.r9.toArray false) (.seq (.region 10 F6.r10.toArray false) (.seq (.region 11 F6.r11.toArray false) (.seq (.region 12 F6.r12.toArray false) (.seq (.seq (.region 13 F6.r13.toArray false) (.cond (.tmp 70) (.seq (.region 14 F6.r14.toArray false) (.seq (.region 15 F6.r15.toArray false) (.cond (.tmp 77) (.seq (.region 16 F6.r16.toArray false) .ret) .skip))) (.seq (.region 17 F6.r17.toArray false) (.seq (.region 18 F6.r18.toArray false) (.cond (.tmp 82) (.seq (.region 19 F6.r19.toArray false) .ret) .skip))))) F6.t20))))))))))) Q e w := rfl
def F6.code : Cd := (.seq (.region 0 F6.r0.toArray false) (.seq (.seq (.region 1 F6.r1.toArray false) (.cond (.tmp 26) (.seq (.region 2 F6.r2.toArray false) .ret) .skip)) F6.t3))
theorem F6.calls {args : Array Value} {w : World} {R : Ending → World → Prop} (hn : args.size ≤ 114) (h : cwE Try.prog F6.code (fnP Try.prog #[(.tmp 6)] R) (entry args) w) : Calls Try.prog 6 args w R :=
  calls_of_cwE (types := Try.prog.types) follows Try.func6 F6.code rfl (by kernel_rfl) hn h

def F7.r0 : List Oper := [
  ⟨(some 6), (.alloc 4), 0, "", #[⟨0, .chain⟩], none⟩]
def F7.r1 : List Oper := [
  ⟨(some 25), (.move (.tmp 0)), 34, "", #[], none⟩,
  ⟨(some 26), (.call ⟨(.value (.func 18)), #[(.tmp 25)], #[34]⟩), 3, "", #[⟨0, .chain⟩], none⟩,
  ⟨(some 27), (.move (.tmp 2)), 35, "", #[], none⟩,
  ⟨(some 28), (.call ⟨(.builtin .len), #[(.tmp 27)], #[35]⟩), 3, "", #[], none⟩,
  ⟨(some 29), (.binOp .add 3 (.tmp 26) (.tmp 28) 3), 3, "", #[], none⟩,
  ⟨(some 30), (.binOp .gtr 3 (.tmp 29) (.const (.int .i64 33554432)) 3), 4, "", #[], none⟩]
def F7.r2 : List Oper := [
  ⟨none, (.store 4 (.tmp 6) (.const (.bool true))), 0, "", #[⟨0, .chain⟩], none⟩]
def F7.r3 : List Oper := [
  ⟨(some 31), (.call ⟨(.value (.func 9)), #[], #[]⟩), 4, "", #[⟨0, .chain⟩], none⟩,
  ⟨(some 7), (.assign (.tmp 31)), 4, "", #[], none⟩]
def F7.r4 : List Oper := [
  ⟨(some 32), (.move (.tmp 1)), 30, "", #[], none⟩,
  ⟨(some 33), (.binOp .rem 30 (.tmp 32) (.const (.int .u32 65530)) 30), 30, "", #[], none⟩,
  ⟨(some 34), (.convert 30 3 (.tmp 33)), 3, "", #[], none⟩,
  ⟨(some 35), (.binOp .add 3 (.const (.int .i64 7)) (.tmp 34) 3), 3, "", #[], none⟩,
  ⟨(some 8), (.assign (.tmp 35)), 3, "", #[], none⟩]
def F7.r5 : List Oper := [
  ⟨(some 9), (.assign (.const (.slice none 0 0))), 35, "", #[], none⟩]
def F7.r6 : List Oper := [
  ⟨(some 10), (.alloc 34), 0, "", #[⟨0, .chain⟩], none⟩]
def F7.r7 : List Oper := [
  ⟨(some 11), (.assign (.const (.int .i64 0))), 3, "", #[], none⟩]
def F7.r8 : List Oper := [
  ⟨(some 36), (.move (.tmp 11)), 3, "", #[], none⟩,
  ⟨(some 37), (.move (.tmp 0)), 34, "", #[], none⟩,
  ⟨(some 38), (.call ⟨(.builtin .len), #[(.tmp 37)], #[34]⟩), 3, "", #[], none⟩,
  ⟨(some 39), (.binOp .lss 3 (.tmp 36) (.tmp 38) 3), 4, "", #[], none⟩]
def F7.r10 : List Oper := [
  ⟨(some 42), (.move (.tmp 0)), 34, "", #[], none⟩,
  ⟨(some 43), (.move (.tmp 11)), 3, "", #[], none⟩,
  ⟨(some 44), (.indexAddr 34 (.tmp 42) (.tmp 43)), 0, "", #[], none⟩,
  ⟨(some 45), (.load 35 (.tmp 44)), 35, "", #[⟨0, .data⟩], none⟩,
  ⟨(some 46), (.move (.tmp 8)), 3, "", #[], none⟩,
  ⟨(some 47), (.call ⟨(.value (.func 19)), #[(.tmp 45), (.tmp 46)], #[35, 3]⟩), 35, "", #[⟨0, .chain⟩], none⟩,
  ⟨(some 12), (.assign (.tmp 47)), 35, "", #[], none⟩]
def F7.r11 : List Oper := [
  ⟨(some 48), (.move (.tmp 9)), 35, "", #[], none⟩,
  ⟨(some 49), (.move (.tmp 12)), 35, "", #[], none⟩,
  ⟨(some 50), (.call ⟨(.builtin .append), #[(.tmp 48), (.tmp 49)], #[35, 35]⟩), 35, "", #[⟨0, .chain⟩], none⟩,
  ⟨(some 9), (.assign (.tmp 50)), 35, "", #[], none⟩]
def F7.r12 : List Oper := [
  ⟨(some 51), (.load 34 (.tmp 10)), 34, "", #[⟨0, .data⟩], none⟩,
  ⟨(some 52), (.move (.tmp 12)), 35, "", #[], none⟩,
  ⟨(some 53), (.buildSlice 34 1 #[(0, (.tmp 52))]), 34, "", #[⟨0, .chain⟩], none⟩,
  ⟨(some 54), (.call ⟨(.builtin .append), #[(.tmp 51), (.tmp 53)], #[34, 34]⟩), 34, "", #[⟨0, .chain⟩], none⟩,
  ⟨none, (.store 34 (.tmp 10) (.tmp 54)), 0, "", #[⟨0, .chain⟩], none⟩]
def F7.r9 : List Oper := [
  ⟨(some 40), (.move (.tmp 11)), 3, "", #[], none⟩,
  ⟨(some 41), (.binOp .add 3 (.tmp 40) (.const (.int .i64 1)) 3), 3, "", #[], none⟩,
  ⟨(some 11), (.assign (.tmp 41)), 3, "", #[], none⟩]
def F7.r13 : List Oper := [
  ⟨(some 55), (.move (.tmp 9)), 35, "", #[], none⟩,
  ⟨(some 56), (.call ⟨(.builtin .len), #[(.tmp 55)], #[35]⟩), 3, "", #[], none⟩,
  ⟨(some 13), (.assign (.tmp 56)), 3, "", #[], none⟩]
def F7.r14 : List Oper := [
  ⟨(some 57), (.move (.tmp 9)), 35, "", #[], none⟩,
  ⟨(some 58), (.move (.tmp 2)), 35, "", #[], none⟩,
  ⟨(some 59), (.call ⟨(.builtin .append), #[(.tmp 57), (.tmp 58)], #[35, 35]⟩), 35, "", #[⟨0, .chain⟩], none⟩,
  ⟨(some 60), (.move (.tmp 8)), 3, "", #[], none⟩,
  ⟨(some 61), (.convert 3 30 (.tmp 60)), 30, "", #[], none⟩,
  ⟨(some 62), (.call ⟨(.value (.func 30)), #[(.tmp 59), (.tmp 61)], #[35, 30]⟩), 63, "", #[⟨0, .chain⟩], none⟩,
  ⟨(some 14), (.assign (.tmp 62)), 63, "", #[], none⟩]
def F7.r15 : List Oper := [
  ⟨(some 63), (.move (.tmp 8)), 3, "", #[], none⟩,
  ⟨(some 64), (.convert 3 30 (.tmp 63)), 30, "", #[], none⟩,
  ⟨(some 65), (.call ⟨(.value (.func 11)), #[(.tmp 64)], #[30]⟩), 28, "", #[⟨0, .chain⟩], none⟩,
  ⟨(some 15), (.assign (.tmp 65)), 28, "", #[], none⟩]
def F7.r16 : List Oper := [
  ⟨(some 66), (.move (.tmp 7)), 4, "", #[], none⟩,
  ⟨(some 67), (.unOp .not 4 (.tmp 66)), 4, "", #[], none⟩,
  ⟨(some 68), (.move (.tmp 67)), 4, "", #[], none⟩,
  ⟨(some 69), (.move (.tmp 14)), 63, "", #[], (some (68, false))⟩,
  ⟨(some 70), (.binOp .eql 63 (.tmp 69) (.const .nilFunc) 63), 4, "", #[], (some (68, false))⟩,
  ⟨(some 71), (.pick (.tmp 68) (.const (.bool true)) (.tmp 70)), 4, "", #[], none⟩,
  ⟨(some 72), (.move (.tmp 71)), 4, "", #[], none⟩,
  ⟨(some 73), (.move (.tmp 15)), 28, "", #[], (some (72, false))⟩,
  ⟨(some 74), (.binOp .eql 28 (.tmp 73) (.const (.pointer none)) 28), 4, "", #[], (some (72, false))⟩,
  ⟨(some 75), (.pick (.tmp 72) (.const (.bool true)) (.tmp 74)), 4, "", #[], none⟩]
def F7.r17 : List Oper := [
  ⟨none, (.store 4 (.tmp 6) (.const (.bool false))), 0, "", #[⟨0, .chain⟩], none⟩]
def F7.r18 : List Oper := [
  ⟨(some 16), (.alloc 3), 0, "", #[⟨0, .chain⟩], none⟩,
  ⟨none, (.store 3 (.tmp 16) (.const (.int .i64 0))), 0, "", #[⟨0, .chain⟩], none⟩]
def F7.r19 : List Oper := [
  ⟨(some 76), (.move (.tmp 14)), 63, "", #[], none⟩]
def F7.r20 : List Oper := [
  ⟨(some 17), (.assign (.tmp 77)), 35, "", #[], none⟩]
def F7.r21 : List Oper := [
  ⟨(some 78), (.load 3 (.tmp 16)), 3, "", #[⟨0, .data⟩], none⟩,
  ⟨(some 79), (.load 34 (.tmp 10)), 34, "", #[⟨0, .data⟩], none⟩,
  ⟨(some 80), (.call ⟨(.builtin .len), #[(.tmp 79)], #[34]⟩), 3, "", #[], none⟩,
  ⟨(some 81), (.binOp .eql 3 (.tmp 78) (.tmp 80) 3), 4, "", #[], none⟩]
def F7.r22 : List Oper := [
  ⟨(some 82), (.move (.tmp 17)), 35, "", #[], none⟩,
  ⟨(some 83), (.load 34 (.tmp 10)), 34, "", #[⟨0, .data⟩], none⟩,
  ⟨(some 84), (.load 3 (.tmp 16)), 3, "", #[⟨0, .data⟩], none⟩,
  ⟨(some 85), (.indexAddr 34 (.tmp 83) (.tmp 84)), 0, "", #[], none⟩,
  ⟨(some 86), (.load 35 (.tmp 85)), 35, "", #[⟨0, .data⟩], none⟩,
  ⟨(some 87), (.call ⟨(.value (.func 31)), #[(.tmp 82), (.tmp 86)], #[35, 35]⟩), 4, "", #[⟨0, .chain⟩], none⟩,
  ⟨(some 18), (.assign (.tmp 87)), 4, "", #[], none⟩]
def F7.r23 : List Oper := [
  ⟨(some 88), (.move (.tmp 18)), 4, "", #[], none⟩,
  ⟨(some 89), (.unOp .not 4 (.tmp 88)), 4, "", #[], none⟩]
def F7.r24 : List Oper := [
  ⟨none, (.store 4 (.tmp 6) (.const (.bool false))), 0, "", #[⟨0, .chain⟩], none⟩]
def F7.r25 : List Oper := [
  ⟨(some 90), (.load 3 (.tmp 16)), 3, "", #[⟨0, .data⟩], none⟩,
  ⟨(some 91), (.binOp .add 3 (.tmp 90) (.const (.int .i64 1)) 3), 3, "", #[], none⟩,
  ⟨none, (.store 3 (.tmp 16) (.tmp 91)), 0, "", #[⟨0, .chain⟩], none⟩]
def F7.r26 : List Oper := [
  ⟨(some 92), (.load 3 (.tmp 16)), 3, "", #[⟨0, .data⟩], none⟩,
  ⟨(some 93), (.load 34 (.tmp 10)), 34, "", #[⟨0, .data⟩], none⟩,
  ⟨(some 94), (.call ⟨(.builtin .len), #[(.tmp 93)], #[34]⟩), 3, "", #[], none⟩,
  ⟨(some 95), (.binOp .neq 3 (.tmp 92) (.tmp 94) 3), 4, "", #[], none⟩]
def F7.r27 : List Oper := [
  ⟨none, (.store 4 (.tmp 6) (.const (.bool false))), 0, "", #[⟨0, .chain⟩], none⟩]
def F7.r28 : List Oper := [
  ⟨(some 19), (.assign (.const (.int .i64 0))), 3, "", #[], none⟩]
def F7.r29 : List Oper := [
  ⟨(some 20), (.assign (.const (.int .i64 0))), 3, "", #[], none⟩]
def F7.r30 : List Oper := [
  ⟨(some 96), (.move (.tmp 20)), 3, "", #[], none⟩,
  ⟨(some 97), (.load 34 (.tmp 10)), 34, "", #[⟨0, .data⟩], none⟩,
  ⟨(some 98), (.call ⟨(.builtin .len), #[(.tmp 97)], #[34]⟩), 3, "", #[], none⟩,
  ⟨(some 99), (.binOp .lss 3 (.tmp 96) (.tmp 98) 3), 4, "", #[], none⟩]
def F7.r32 : List Oper := [
  ⟨(some 102), (.move (.tmp 15)), 28, "", #[], none⟩,
  ⟨(some 103), (.call ⟨(.value (.func 24)), #[(.tmp 102)], #[28]⟩), 4, "", #[⟨0, .chain⟩], none⟩,
  ⟨(some 104), (.unOp .not 4 (.tmp 103)), 4, "", #[], none⟩]
def F7.r33 : List Oper := [
  ⟨(some 105), (.move (.tmp 15)), 28, "", #[], none⟩,
  ⟨(some 106), (.call ⟨(.value (.func 25)), #[(.tmp 105)], #[28]⟩), 3, "", #[⟨0, .chain⟩], none⟩,
  ⟨(some 21), (.assign (.tmp 106)), 3, "", #[], none⟩]
def F7.r34 : List Oper := [
  ⟨(some 107), (.move (.tmp 21)), 3, "", #[], none⟩,
  ⟨(some 108), (.binOp .lss 3 (.tmp 107) (.const (.int .i64 1)) 3), 4, "", #[], none⟩,
  ⟨(some 109), (.move (.tmp 108)), 4, "", #[], none⟩,
  ⟨(some 110), (.move (.tmp 21)), 3, "", #[], (some (109, false))⟩,
  ⟨(some 111), (.move (.tmp 13)), 3, "", #[], (some (109, false))⟩,
  ⟨(some 112), (.move (.tmp 19)), 3, "", #[], (some (109, false))⟩,
  ⟨(some 113), (.binOp .sub 3 (.tmp 111) (.tmp 112) 3), 3, "", #[], (some (109, false))⟩,
  ⟨(some 114), (.binOp .gtr 3 (.tmp 110) (.tmp 113) 3), 4, "", #[], (some (109, false))⟩,
  ⟨(some 115), (.pick (.tmp 109) (.const (.bool true)) (.tmp 114)), 4, "", #[], none⟩,
  ⟨(some 116), (.move (.tmp 115)), 4, "", #[], none⟩,
  ⟨(some 117), (.move (.tmp 15)), 28, "", #[], (some (116, false))⟩,
  ⟨(some 118), (.move (.tmp 9)), 35, "", #[], (some (116, false))⟩,
  ⟨(some 119), (.move (.tmp 19)), 3, "", #[], (some (116, false))⟩,
  ⟨(some 120), (.move (.tmp 19)), 3, "", #[], (some (116, false))⟩,
  ⟨(some 121), (.move (.tmp 21)), 3, "", #[], (some (116, false))⟩,
  ⟨(some 122), (.binOp .add 3 (.tmp 120) (.tmp 121) 3), 3, "", #[], (some (116, false))⟩,
  ⟨(some 123), (.slice 35 (.tmp 118) (some (.tmp 119)) (some (.tmp 122)) none), 35, "", #[], (some (116, false))⟩,
  ⟨(some 124), (.call ⟨(.value (.func 20)), #[(.tmp 117), (.tmp 123)], #[28, 35]⟩), 3, "", #[⟨0, .chain⟩], (some (116, false))⟩,
  ⟨(some 125), (.move (.tmp 21)), 3, "", #[], (some (116, false))⟩,
  ⟨(some 126), (.binOp .neq 3 (.tmp 124) (.tmp 125) 3), 4, "", #[], (some (116, false))⟩,
  ⟨(some 127), (.pick (.tmp 116) (.const (.bool true)) (.tmp 126)), 4, "", #[], none⟩]
def F7.r35 : List Oper := [
  ⟨none, (.store 4 (.tmp 6) (.const (.bool false))), 0, "", #[⟨0, .chain⟩], none⟩]
def F7.r36 : List Oper := [
  ⟨(some 128), (.move (.tmp 19)), 3, "", #[], none⟩,
  ⟨(some 129), (.move (.tmp 21)), 3, "", #[], none⟩,
  ⟨(some 130), (.binOp .add 3 (.tmp 128) (.tmp 129) 3), 3, "", #[], none⟩,
  ⟨(some 19), (.assign (.tmp 130)), 3, "", #[], none⟩]
def F7.r37 : List Oper := [
  ⟨(some 132), (.move (.tmp 15)), 28, "", #[], none⟩,
  ⟨(some 133), (.call ⟨(.value (.func 21)), #[(.tmp 132)], #[28]⟩), 49, "", #[⟨0, .chain⟩], none⟩,
  ⟨(some 131), (.move (.tmp 133)), 49, "", #[], none⟩,
  ⟨(some 134), (.extract (.tmp 131) 0), 35, "", #[], none⟩,
  ⟨(some 135), (.extract (.tmp 131) 1), 4, "", #[], none⟩,
  ⟨(some 22), (.assign (.tmp 134)), 35, "", #[], none⟩,
  ⟨(some 23), (.assign (.tmp 135)), 4, "", #[], none⟩]
def F7.r38 : List Oper := [
  ⟨(some 136), (.move (.tmp 22)), 35, "", #[], none⟩,
  ⟨(some 137), (.load 34 (.tmp 10)), 34, "", #[⟨0, .data⟩], none⟩,
  ⟨(some 138), (.move (.tmp 20)), 3, "", #[], none⟩,
  ⟨(some 139), (.indexAddr 34 (.tmp 137) (.tmp 138)), 0, "", #[], none⟩,
  ⟨(some 140), (.load 35 (.tmp 139)), 35, "", #[⟨0, .data⟩], none⟩,
  ⟨(some 141), (.call ⟨(.value (.func 31)), #[(.tmp 136), (.tmp 140)], #[35, 35]⟩), 4, "", #[⟨0, .chain⟩], none⟩,
  ⟨(some 24), (.assign (.tmp 141)), 4, "", #[], none⟩]
def F7.r39 : List Oper := [
  ⟨(some 142), (.move (.tmp 23)), 4, "", #[], none⟩,
  ⟨(some 143), (.unOp .not 4 (.tmp 142)), 4, "", #[], none⟩,
  ⟨(some 144), (.move (.tmp 143)), 4, "", #[], none⟩,
  ⟨(some 145), (.move (.tmp 24)), 4, "", #[], (some (144, false))⟩,
  ⟨(some 146), (.unOp .not 4 (.tmp 145)), 4, "", #[], (some (144, false))⟩,
  ⟨(some 147), (.pick (.tmp 144) (.const (.bool true)) (.tmp 146)), 4, "", #[], none⟩,
  ⟨(some 148), (.move (.tmp 147)), 4, "", #[], none⟩,
  ⟨(some 149), (.move (.tmp 15)), 28, "", #[], (some (148, false))⟩,
  ⟨(some 150), (.call ⟨(.value (.func 25)), #[(.tmp 149)], #[28]⟩), 3, "", #[⟨0, .chain⟩], (some (148, false))⟩,
  ⟨(some 151), (.binOp .neq 3 (.tmp 150) (.const (.int .i64 4)) 3), 4, "", #[], (some (148, false))⟩,
  ⟨(some 152), (.pick (.tmp 148) (.const (.bool true)) (.tmp 151)), 4, "", #[], none⟩]
def F7.r40 : List Oper := [
  ⟨none, (.store 4 (.tmp 6) (.const (.bool false))), 0, "", #[⟨0, .chain⟩], none⟩]
def F7.r31 : List Oper := [
  ⟨(some 100), (.move (.tmp 20)), 3, "", #[], none⟩,
  ⟨(some 101), (.binOp .add 3 (.tmp 100) (.const (.int .i64 1)) 3), 3, "", #[], none⟩,
  ⟨(some 20), (.assign (.tmp 101)), 3, "", #[], none⟩]
def F7.r41 : List Oper := [
  ⟨(some 153), (.move (.tmp 19)), 3, "", #[], none⟩,
  ⟨(some 154), (.move (.tmp 13)), 3, "", #[], none⟩,
  ⟨(some 155), (.binOp .eql 3 (.tmp 153) (.tmp 154) 3), 4, "", #[], none⟩,
  ⟨(some 156), (.move (.tmp 155)), 4, "", #[], none⟩,
  ⟨(some 157), (.move (.tmp 15)), 28, "", #[], (some (156, true))⟩,
  ⟨(some 159), (.load 34 (.tmp 10)), 34, "", #[⟨1024, .data⟩], (some (156, true))⟩,
  ⟨(some 160), (.call ⟨(.builtin .len), #[(.tmp 159)], #[34]⟩), 3, "", #[], (some (156, true))⟩,
  ⟨(some 158), (.call ⟨(.value (.func 26)), #[(.tmp 157)], #[28]⟩), 3, "", #[⟨5, .chain⟩], (some (156, true))⟩,
  ⟨(some 161), (.binOp .eql 3 (.tmp 158) (.tmp 160) 3), 4, "", #[], (some (156, true))⟩,
  ⟨(some 162), (.pick (.tmp 156) (.tmp 161) (.const (.bool false))), 4, "", #[], none⟩,
  ⟨none, (.store 4 (.tmp 6) (.tmp 162)), 0, "", #[⟨10, .chain⟩], none⟩]
def F7.a0 : Cd := (.region 20 F7.r20.toArray false)
def F7.b0 : Cd := (.block 3 (.seq (.seq (.region 21 F7.r21.toArray false) (.cond (.tmp 81) (.exit 2) .skip)) (.seq (.region 22 F7.r22.toArray false) (.seq (.seq (.region 23 F7.r23.toArray false) (.cond (.tmp 89) (.seq (.region 24 F7.r24.toArray false) .ret) .skip)) (.region 25 F7.r25.toArray false)))))
def F7.t9 : Cd := (.region 9 F7.r9.toArray false)
theorem F7.t9_eq {P : Program} {Q : Post} {e : FA} {w : World} {θ : Tag (F7.t9, Q, e, w)} : cwE P F7.t9 Q e w θ = cwE P (.region 9 F7.r9.toArray false) Q e w := rfl
def F7.t10 : Cd := (.seq (.block 1 (.seq (.region 10 F7.r10.toArray false) (.seq (.region 11 F7.r11.toArray false) (.region 12 F7.r12.toArray false)))) F7.t9)
theorem F7.t10_eq {P : Program} {Q : Post} {e : FA} {w : World} {θ : Tag (F7.t10, Q, e, w)} : cwE P F7.t10 Q e w θ = cwE P (.seq (.block 1 (.seq (.region 10 F7.r10.toArray false) (.seq (.region 11 F7.r11.toArray false) (.region 12 F7.r12.toArray false)))) F7.t9) Q e w := rfl
def F7.t36 : Cd := (.region 36 F7.r36.toArray false)
theorem F7.t36_eq {P : Program} {Q : Post} {e : FA} {w : World} {θ : Tag (F7.t36, Q, e, w)} : cwE P F7.t36 Q e w θ = cwE P (.region 36 F7.r36.toArray false) Q e w := rfl
def F7.t33 : Cd := (.block 7 (.seq (.region 33 F7.r33.toArray false) (.seq (.seq (.region 34 F7.r34.toArray false) (.cond (.tmp 127) (.seq (.region 35 F7.r35.toArray false) .ret) .skip)) F7.t36)))
theorem F7.t33_eq {P : Program} {Q : Post} {e : FA} {w : World} {θ : Tag (F7.t33, Q, e, w)} : cwE P F7.t33 Q e w θ = cwE P (.block 7 (.seq (.region 33 F7.r33.toArray false) (.seq (.seq (.region 34 F7.r34.toArray false) (.cond (.tmp 127) (.seq (.region 35 F7.r35.toArray false) .ret) .skip)) F7.t36))) Q e w := rfl
def F7.t37 : Cd := (.seq (.region 37 F7.r37.toArray false) (.seq (.region 38 F7.r38.toArray false) (.seq (.region 39 F7.r39.toArray false) (.cond (.tmp 152) (.seq (.region 40 F7.r40.toArray false) .ret) .skip))))
theorem F7.t37_eq {P : Program} {Q : Post} {e : FA} {w : World} {θ : Tag (F7.t37, Q, e, w)} : cwE P F7.t37 Q e w θ = cwE P (.seq (.region 37 F7.r37.toArray false) (.seq (.region 38 F7.r38.toArray false) (.seq (.region 39 F7.r39.toArray false) (.cond (.tmp 152) (.seq (.region 40 F7.r40.toArray false) .ret) .skip)))) Q e w := rfl
def F7.t31 : Cd := (.region 31 F7.r31.toArray false)
theorem F7.t31_eq {P : Program} {Q : Post} {e : FA} {w : World} {θ : Tag (F7.t31, Q, e, w)} : cwE P F7.t31 Q e w θ = cwE P (.region 31 F7.r31.toArray false) Q e w := rfl
def F7.t32 : Cd := (.seq (.block 5 (.seq (.block 6 (.loop (.seq (.seq (.region 32 F7.r32.toArray false) (.cond (.tmp 104) .skip (.exit 6))) F7.t33))) F7.t37)) F7.t31)
theorem F7.t32_eq {P : Program} {Q : Post} {e : FA} {w : World} {θ : Tag (F7.t32, Q, e, w)} : cwE P F7.t32 Q e w θ = cwE P (.seq (.block 5 (.seq (.block 6 (.loop (.seq (.seq (.region 32 F7.r32.toArray false) (.cond (.tmp 104) .skip (.exit 6))) F7.t33))) F7.t37)) F7.t31) Q e w := rfl
def F7.t41 : Cd := (.seq (.region 41 F7.r41.toArray true) .ret)
theorem F7.t41_eq {P : Program} {Q : Post} {e : FA} {w : World} {θ : Tag (F7.t41, Q, e, w)} : cwE P F7.t41 Q e w θ = cwE P (.seq (.region 41 F7.r41.toArray true) .ret) Q e w := rfl
def F7.t28 : Cd := (.seq (.region 28 F7.r28.toArray false) (.seq (.seq (.region 29 F7.r29.toArray false) (.block 4 (.loop (.seq (.seq (.region 30 F7.r30.toArray false) (.cond (.tmp 99) .skip (.exit 4))) F7.t32)))) F7.t41))
theorem F7.t28_eq {P : Program} {Q : Post} {e : FA} {w : World} {θ : Tag (F7.t28, Q, e, w)} : cwE P F7.t28 Q e w θ = cwE P (.seq (.region 28 F7.r28.toArray false) (.seq (.seq (.region 29 F7.r29.toArray false) (.block 4 (.loop (.seq (.seq (.region 30 F7.r30.toArray false) (.cond (.tmp 99) .skip (.exit 4))) F7.t32)))) F7.t41)) Q e w := rfl
def F7.t26 : Cd := (.seq (.seq (.region 26 F7.r26.toArray false) (.cond (.tmp 95) (.seq (.region 27 F7.r27.toArray false) .ret) .skip)) F7.t28)
theorem F7.t26_eq {P : Program} {Q : Post} {e : FA} {w : World} {θ : Tag (F7.t26, Q, e, w)} : cwE P F7.t26 Q e w θ = cwE P (.seq (.seq (.region 26 F7.r26.toArray false) (.cond (.tmp 95) (.seq (.region 27 F7.r27.toArray false) .ret) .skip)) F7.t28) Q e w := rfl
def F7.t18 : Cd := (.seq (.region 18 F7.r18.toArray false) (.seq (.seq (.region 19 F7.r19.toArray false) (.block 2 (.rangeFunc (.tmp 76) #[77] F7.a0 F7.b0))) F7.t26))
theorem F7.t18_eq {P : Program} {Q : Post} {e : FA} {w : World} {θ : Tag (F7.t18, Q, e, w)} : cwE P F7.t18 Q e w θ = cwE P (.seq (.region 18 F7.r18.toArray false) (.seq (.seq (.region 19 F7.r19.toArray false) (.block 2 (.rangeFunc (.tmp 76) #[77] F7.a0 F7.b0))) F7.t26)) Q e w := rfl
def F7.t13 : Cd := (.seq (.region 13 F7.r13.toArray false) (.seq (.region 14 F7.r14.toArray false) (.seq (.region 15 F7.r15.toArray false) (.seq (.seq (.region 16 F7.r16.toArray false) (.cond (.tmp 75) (.seq (.region 17 F7.r17.toArray false) .ret) .skip)) F7.t18))))
theorem F7.t13_eq {P : Program} {Q : Post} {e : FA} {w : World} {θ : Tag (F7.t13, Q, e, w)} : cwE P F7.t13 Q e w θ = cwE P (.seq (.region 13 F7.r13.toArray false) (.seq (.region 14 F7.r14.toArray false) (.seq (.region 15 F7.r15.toArray false) (.seq (.seq (.region 16 F7.r16.toArray false) (.cond (.tmp 75) (.seq (.region 17 F7.r17.toArray false) .ret) .skip)) F7.t18)))) Q e w := rfl
def F7.t3 : Cd := (.seq (.region 3 F7.r3.toArray false) (.seq (.region 4 F7.r4.toArray false) (.seq (.region 5 F7.r5.toArray false) (.seq (.region 6 F7.r6.toArray false) (.seq (.seq (.region 7 F7.r7.toArray false) (.block 0 (.loop (.seq (.seq (.region 8 F7.r8.toArray false) (.cond (.tmp 39) .skip (.exit 0))) F7.t10)))) F7.t13)))))
theorem F7.t3_eq {P : Program} {Q : Post} {e : FA} {w : World} {θ : Tag (F7.t3, Q, e, w)} : cwE P F7.t3 Q e w θ = cwE P (.seq (.region 3 F7.r3.toArray false) (.seq (.region 4 F7.r4.toArray false) (.seq (.region 5 F7.r5.toArray false) (.seq (.region 6 F7.r6.toArray false) (.seq (.seq (.region 7 F7.r7.toArray false) (.block 0 (.loop (.seq (.seq (.region 8 F7.r8.toArray false) (.cond (.tmp 39) .skip (.exit 0))) F7.t10)))) F7.t13))))) Q e w := rfl
def F7.code : Cd := (.seq (.region 0 F7.r0.toArray false) (.seq (.seq (.region 1 F7.r1.toArray false) (.cond (.tmp 30) (.seq (.region 2 F7.r2.toArray false) .ret) .skip)) F7.t3))
theorem F7.calls {args : Array Value} {w : World} {R : Ending → World → Prop} (hn : args.size ≤ 163) (h : cwE Try.prog F7.code (fnP Try.prog #[(.cell 6 4)] R) (entry args) w) : Calls Try.prog 7 args w R :=
  calls_of_cwE (types := Try.prog.types) follows Try.func7 F7.code rfl (by kernel_rfl) hn h

def F8.r0 : List Oper := [
  ⟨(some 6), (.assign (.const (.bool false))), 4, "", #[], none⟩]
def F8.r1 : List Oper := [
  ⟨(some 28), (.move (.tmp 0)), 35, "", #[], none⟩,
  ⟨(some 29), (.call ⟨(.builtin .len), #[(.tmp 28)], #[35]⟩), 3, "", #[], none⟩,
  ⟨(some 30), (.binOp .gtr 3 (.tmp 29) (.const (.int .i64 33554432)) 3), 4, "", #[], none⟩,
  ⟨(some 31), (.move (.tmp 30)), 4, "", #[], none⟩,
  ⟨(some 32), (.move (.tmp 2)), 67, "", #[], (some (31, false))⟩,
  ⟨(some 33), (.call ⟨(.builtin .len), #[(.tmp 32)], #[67]⟩), 3, "", #[], (some (31, false))⟩,
  ⟨(some 34), (.binOp .gtr 3 (.tmp 33) (.const (.int .i64 33554432)) 3), 4, "", #[], (some (31, false))⟩,
  ⟨(some 35), (.pick (.tmp 31) (.const (.bool true)) (.tmp 34)), 4, "", #[], none⟩]
def F8.r2 : List Oper := [
  ⟨(some 6), (.assign (.const (.bool true))), 4, "", #[], none⟩]
def F8.r3 : List Oper := [
  ⟨(some 36), (.call ⟨(.value (.func 9)), #[], #[]⟩), 4, "", #[⟨0, .chain⟩], none⟩,
  ⟨(some 7), (.assign (.tmp 36)), 4, "", #[], none⟩]
def F8.r4 : List Oper := [
  ⟨(some 37), (.move (.tmp 1)), 30, "", #[], none⟩,
  ⟨(some 38), (.binOp .rem 30 (.tmp 37) (.const (.int .u32 65530)) 30), 30, "", #[], none⟩,
  ⟨(some 39), (.binOp .add 30 (.const (.int .u32 7)) (.tmp 38) 30), 30, "", #[], none⟩,
  ⟨(some 1), (.assign (.tmp 39)), 30, "", #[], none⟩]
def F8.r5 : List Oper := [
  ⟨(some 40), (.move (.tmp 1)), 30, "", #[], none⟩,
  ⟨(some 41), (.call ⟨(.value (.func 11)), #[(.tmp 40)], #[30]⟩), 28, "", #[⟨0, .chain⟩], none⟩,
  ⟨(some 8), (.assign (.tmp 41)), 28, "", #[], none⟩]
def F8.r6 : List Oper := [
  ⟨(some 42), (.move (.tmp 0)), 35, "", #[], none⟩,
  ⟨(some 43), (.move (.tmp 1)), 30, "", #[], none⟩,
  ⟨(some 44), (.call ⟨(.value (.func 30)), #[(.tmp 42), (.tmp 43)], #[35, 30]⟩), 63, "", #[⟨0, .chain⟩], none⟩,
  ⟨(some 9), (.assign (.tmp 44)), 63, "", #[], none⟩]
def F8.r7 : List Oper := [
  ⟨(some 45), (.move (.tmp 7)), 4, "", #[], none⟩,
  ⟨(some 46), (.unOp .not 4 (.tmp 45)), 4, "", #[], none⟩,
  ⟨(some 47), (.move (.tmp 46)), 4, "", #[], none⟩,
  ⟨(some 48), (.move (.tmp 8)), 28, "", #[], (some (47, false))⟩,
  ⟨(some 49), (.binOp .eql 28 (.tmp 48) (.const (.pointer none)) 28), 4, "", #[], (some (47, false))⟩,
  ⟨(some 50), (.pick (.tmp 47) (.const (.bool true)) (.tmp 49)), 4, "", #[], none⟩,
  ⟨(some 51), (.move (.tmp 50)), 4, "", #[], none⟩,
  ⟨(some 52), (.move (.tmp 9)), 63, "", #[], (some (51, false))⟩,
  ⟨(some 53), (.binOp .eql 63 (.tmp 52) (.const .nilFunc) 63), 4, "", #[], (some (51, false))⟩,
  ⟨(some 54), (.pick (.tmp 51) (.const (.bool true)) (.tmp 53)), 4, "", #[], none⟩]
def F8.r8 : List Oper := [
  ⟨(some 6), (.assign (.const (.bool false))), 4, "", #[], none⟩]
def F8.r9 : List Oper := [
  ⟨(some 10), (.assign (.const (.slice none 0 0))), 34, "", #[], none⟩]
def F8.r10 : List Oper := [
  ⟨(some 11), (.assign (.const (.int .i64 0))), 3, "", #[], none⟩]
def F8.r11 : List Oper := [
  ⟨(some 12), (.assign (.const (.int .i64 0))), 3, "", #[], none⟩]
def F8.r12 : List Oper := [
  ⟨(some 55), (.move (.tmp 11)), 3, "", #[], none⟩,
  ⟨(some 56), (.move (.tmp 0)), 35, "", #[], none⟩,
  ⟨(some 57), (.call ⟨(.builtin .len), #[(.tmp 56)], #[35]⟩), 3, "", #[], none⟩,
  ⟨(some 58), (.binOp .lss 3 (.tmp 55) (.tmp 57) 3), 4, "", #[], none⟩]
def F8.r14 : List Oper := [
  ⟨(some 61), (.move (.tmp 0)), 35, "", #[], none⟩,
  ⟨(some 62), (.call ⟨(.builtin .len), #[(.tmp 61)], #[35]⟩), 3, "", #[], none⟩,
  ⟨(some 63), (.move (.tmp 11)), 3, "", #[], none⟩,
  ⟨(some 64), (.binOp .sub 3 (.tmp 62) (.tmp 63) 3), 3, "", #[], none⟩,
  ⟨(some 13), (.assign (.tmp 64)), 3, "", #[], none⟩]
def F8.r15 : List Oper := [
  ⟨(some 14), (.assign (.const (.bool false))), 4, "", #[], none⟩]
def F8.r16 : List Oper := [
  ⟨(some 65), (.move (.tmp 12)), 3, "", #[], none⟩,
  ⟨(some 66), (.move (.tmp 2)), 67, "", #[], none⟩,
  ⟨(some 67), (.call ⟨(.builtin .len), #[(.tmp 66)], #[67]⟩), 3, "", #[], none⟩,
  ⟨(some 68), (.binOp .lss 3 (.tmp 65) (.tmp 67) 3), 4, "", #[], none⟩]
def F8.r17 : List Oper := [
  ⟨(some 69), (.move (.tmp 2)), 67, "", #[], none⟩,
  ⟨(some 70), (.move (.tmp 12)), 3, "", #[], none⟩,
  ⟨(some 71), (.indexAddr 67 (.tmp 69) (.tmp 70)), 0, "", #[], none⟩,
  ⟨(some 72), (.load 3 (.tmp 71)), 3, "", #[⟨0, .data⟩], none⟩,
  ⟨(some 73), (.move (.tmp 13)), 3, "", #[], none⟩,
  ⟨(some 74), (.binOp .add 3 (.tmp 73) (.const (.int .i64 1)) 3), 3, "", #[], none⟩,
  ⟨(some 75), (.call ⟨(.value (.func 13)), #[(.tmp 72), (.tmp 74)], #[3, 3]⟩), 3, "", #[⟨0, .chain⟩], none⟩,
  ⟨(some 13), (.assign (.tmp 75)), 3, "", #[], none⟩]
def F8.r18 : List Oper := [
  ⟨(some 76), (.move (.tmp 2)), 67, "", #[], none⟩,
  ⟨(some 77), (.move (.tmp 12)), 3, "", #[], none⟩,
  ⟨(some 78), (.indexAddr 67 (.tmp 76) (.tmp 77)), 0, "", #[], none⟩,
  ⟨(some 79), (.load 3 (.tmp 78)), 3, "", #[⟨0, .data⟩], none⟩,
  ⟨(some 80), (.binOp .rem 3 (.tmp 79) (.const (.int .i64 3)) 3), 3, "", #[], none⟩,
  ⟨(some 81), (.binOp .eql 3 (.tmp 80) (.const (.int .i64 0)) 3), 4, "", #[], none⟩,
  ⟨(some 14), (.assign (.tmp 81)), 4, "", #[], none⟩]
def F8.r19 : List Oper := [
  ⟨(some 82), (.move (.tmp 8)), 28, "", #[], none⟩,
  ⟨(some 83), (.move (.tmp 0)), 35, "", #[], none⟩,
  ⟨(some 84), (.move (.tmp 11)), 3, "", #[], none⟩,
  ⟨(some 85), (.move (.tmp 11)), 3, "", #[], none⟩,
  ⟨(some 86), (.move (.tmp 13)), 3, "", #[], none⟩,
  ⟨(some 87), (.binOp .add 3 (.tmp 85) (.tmp 86) 3), 3, "", #[], none⟩,
  ⟨(some 88), (.slice 35 (.tmp 83) (some (.tmp 84)) (some (.tmp 87)) none), 35, "", #[], none⟩,
  ⟨(some 89), (.call ⟨(.value (.func 20)), #[(.tmp 82), (.tmp 88)], #[28, 35]⟩), 3, "", #[⟨0, .chain⟩], none⟩,
  ⟨(some 15), (.assign (.tmp 89)), 3, "", #[], none⟩]
def F8.r20 : List Oper := [
  ⟨(some 90), (.move (.tmp 15)), 3, "", #[], none⟩,
  ⟨(some 91), (.binOp .lss 3 (.tmp 90) (.const (.int .i64 0)) 3), 4, "", #[], none⟩,
  ⟨(some 92), (.move (.tmp 91)), 4, "", #[], none⟩,
  ⟨(some 93), (.move (.tmp 15)), 3, "", #[], (some (92, false))⟩,
  ⟨(some 94), (.move (.tmp 13)), 3, "", #[], (some (92, false))⟩,
  ⟨(some 95), (.binOp .gtr 3 (.tmp 93) (.tmp 94) 3), 4, "", #[], (some (92, false))⟩,
  ⟨(some 96), (.pick (.tmp 92) (.const (.bool true)) (.tmp 95)), 4, "", #[], none⟩]
def F8.r21 : List Oper := [
  ⟨(some 6), (.assign (.const (.bool false))), 4, "", #[], none⟩]
def F8.r22 : List Oper := [
  ⟨(some 97), (.move (.tmp 11)), 3, "", #[], none⟩,
  ⟨(some 98), (.move (.tmp 15)), 3, "", #[], none⟩,
  ⟨(some 99), (.binOp .add 3 (.tmp 97) (.tmp 98) 3), 3, "", #[], none⟩,
  ⟨(some 11), (.assign (.tmp 99)), 3, "", #[], none⟩]
def F8.r23 : List Oper := [
  ⟨(some 100), (.move (.tmp 14)), 4, "", #[], none⟩,
  ⟨(some 101), (.move (.tmp 100)), 4, "", #[], none⟩,
  ⟨(some 102), (.move (.tmp 15)), 3, "", #[], (some (101, true))⟩,
  ⟨(some 103), (.binOp .gtr 3 (.tmp 102) (.const (.int .i64 0)) 3), 4, "", #[], (some (101, true))⟩,
  ⟨(some 104), (.pick (.tmp 101) (.tmp 103) (.const (.bool false))), 4, "", #[], none⟩]
def F8.r24 : List Oper := [
  ⟨(some 106), (.move (.tmp 8)), 28, "", #[], none⟩,
  ⟨(some 107), (.call ⟨(.value (.func 21)), #[(.tmp 106)], #[28]⟩), 49, "", #[⟨0, .chain⟩], none⟩,
  ⟨(some 105), (.move (.tmp 107)), 49, "", #[], none⟩,
  ⟨(some 108), (.extract (.tmp 105) 0), 35, "", #[], none⟩,
  ⟨(some 109), (.extract (.tmp 105) 1), 4, "", #[], none⟩,
  ⟨(some 16), (.assign (.tmp 108)), 35, "", #[], none⟩,
  ⟨(some 17), (.assign (.tmp 109)), 4, "", #[], none⟩]
def F8.r25 : List Oper := [
  ⟨(some 110), (.move (.tmp 17)), 4, "", #[], none⟩]
def F8.r26 : List Oper := [
  ⟨(some 111), (.move (.tmp 10)), 34, "", #[], none⟩,
  ⟨(some 112), (.move (.tmp 16)), 35, "", #[], none⟩,
  ⟨(some 113), (.buildSlice 34 1 #[(0, (.tmp 112))]), 34, "", #[⟨0, .chain⟩], none⟩,
  ⟨(some 114), (.call ⟨(.builtin .append), #[(.tmp 111), (.tmp 113)], #[34, 34]⟩), 34, "", #[⟨0, .chain⟩], none⟩,
  ⟨(some 10), (.assign (.tmp 114)), 34, "", #[], none⟩]
def F8.r27 : List Oper := [
  ⟨(some 115), (.move (.tmp 17)), 4, "", #[], none⟩,
  ⟨(some 116), (.unOp .not 4 (.tmp 115)), 4, "", #[], none⟩,
  ⟨(some 117), (.move (.tmp 116)), 4, "", #[], none⟩,
  ⟨(some 118), (.move (.tmp 15)), 3, "", #[], (some (117, true))⟩,
  ⟨(some 119), (.move (.tmp 13)), 3, "", #[], (some (117, true))⟩,
  ⟨(some 120), (.binOp .lss 3 (.tmp 118) (.tmp 119) 3), 4, "", #[], (some (117, true))⟩,
  ⟨(some 121), (.pick (.tmp 117) (.tmp 120) (.const (.bool false))), 4, "", #[], none⟩]
def F8.r13 : List Oper := [
  ⟨(some 59), (.move (.tmp 12)), 3, "", #[], none⟩,
  ⟨(some 60), (.binOp .add 3 (.tmp 59) (.const (.int .i64 1)) 3), 3, "", #[], none⟩,
  ⟨(some 12), (.assign (.tmp 60)), 3, "", #[], none⟩]
def F8.r28 : List Oper := [
  ⟨(some 123), (.move (.tmp 8)), 28, "", #[], none⟩,
  ⟨(some 124), (.call ⟨(.value (.func 21)), #[(.tmp 123)], #[28]⟩), 49, "", #[⟨0, .chain⟩], none⟩,
  ⟨(some 122), (.move (.tmp 124)), 49, "", #[], none⟩,
  ⟨(some 125), (.extract (.tmp 122) 0), 35, "", #[], none⟩,
  ⟨(some 126), (.extract (.tmp 122) 1), 4, "", #[], none⟩,
  ⟨(some 18), (.assign (.tmp 125)), 35, "", #[], none⟩,
  ⟨(some 19), (.assign (.tmp 126)), 4, "", #[], none⟩]
def F8.r29 : List Oper := [
  ⟨(some 127), (.move (.tmp 19)), 4, "", #[], none⟩]
def F8.r30 : List Oper := [
  ⟨(some 128), (.move (.tmp 10)), 34, "", #[], none⟩,
  ⟨(some 129), (.move (.tmp 18)), 35, "", #[], none⟩,
  ⟨(some 130), (.buildSlice 34 1 #[(0, (.tmp 129))]), 34, "", #[⟨0, .chain⟩], none⟩,
  ⟨(some 131), (.call ⟨(.builtin .append), #[(.tmp 128), (.tmp 130)], #[34, 34]⟩), 34, "", #[⟨0, .chain⟩], none⟩,
  ⟨(some 10), (.assign (.tmp 131)), 34, "", #[], none⟩]
def F8.r31 : List Oper := [
  ⟨(some 20), (.alloc 34), 0, "", #[⟨0, .chain⟩], none⟩]
def F8.r32 : List Oper := [
  ⟨(some 132), (.move (.tmp 9)), 63, "", #[], none⟩]
def F8.r33 : List Oper := [
  ⟨(some 21), (.assign (.tmp 133)), 35, "", #[], none⟩]
def F8.r34 : List Oper := [
  ⟨(some 134), (.load 34 (.tmp 20)), 34, "", #[⟨0, .data⟩], none⟩,
  ⟨(some 135), (.move (.tmp 21)), 35, "", #[], none⟩,
  ⟨(some 136), (.buildSlice 34 1 #[(0, (.tmp 135))]), 34, "", #[⟨0, .chain⟩], none⟩,
  ⟨(some 137), (.call ⟨(.builtin .append), #[(.tmp 134), (.tmp 136)], #[34, 34]⟩), 34, "", #[⟨0, .chain⟩], none⟩,
  ⟨none, (.store 34 (.tmp 20) (.tmp 137)), 0, "", #[⟨0, .chain⟩], none⟩]
def F8.r35 : List Oper := [
  ⟨(some 138), (.move (.tmp 10)), 34, "", #[], none⟩,
  ⟨(some 139), (.load 34 (.tmp 20)), 34, "", #[⟨0, .data⟩], none⟩,
  ⟨(some 140), (.call ⟨(.value (.func 29)), #[(.tmp 138), (.tmp 139)], #[34, 34]⟩), 4, "", #[⟨0, .chain⟩], none⟩,
  ⟨(some 22), (.assign (.tmp 140)), 4, "", #[], none⟩]
def F8.r36 : List Oper := [
  ⟨(some 23), (.assign (.const (.slice none 0 0))), 35, "", #[], none⟩]
def F8.r37 : List Oper := [
  ⟨(some 24), (.assign (.const (.int .i64 0))), 3, "", #[], none⟩]
def F8.r38 : List Oper := [
  ⟨(some 141), (.move (.tmp 24)), 3, "", #[], none⟩,
  ⟨(some 142), (.move (.tmp 10)), 34, "", #[], none⟩,
  ⟨(some 143), (.call ⟨(.builtin .len), #[(.tmp 142)], #[34]⟩), 3, "", #[], none⟩,
  ⟨(some 144), (.binOp .lss 3 (.tmp 141) (.tmp 143) 3), 4, "", #[], none⟩]
def F8.r40 : List Oper := [
  ⟨(some 147), (.move (.tmp 23)), 35, "", #[], none⟩,
  ⟨(some 148), (.move (.tmp 10)), 34, "", #[], none⟩,
  ⟨(some 149), (.move (.tmp 24)), 3, "", #[], none⟩,
  ⟨(some 150), (.indexAddr 34 (.tmp 148) (.tmp 149)), 0, "", #[], none⟩,
  ⟨(some 151), (.load 35 (.tmp 150)), 35, "", #[⟨0, .data⟩], none⟩,
  ⟨(some 152), (.call ⟨(.builtin .append), #[(.tmp 147), (.tmp 151)], #[35, 35]⟩), 35, "", #[⟨0, .chain⟩], none⟩,
  ⟨(some 23), (.assign (.tmp 152)), 35, "", #[], none⟩]
def F8.r39 : List Oper := [
  ⟨(some 145), (.move (.tmp 24)), 3, "", #[], none⟩,
  ⟨(some 146), (.binOp .add 3 (.tmp 145) (.const (.int .i64 1)) 3), 3, "", #[], none⟩,
  ⟨(some 24), (.assign (.tmp 146)), 3, "", #[], none⟩]
def F8.r41 : List Oper := [
  ⟨(some 154), (.move (.tmp 8)), 28, "", #[], none⟩,
  ⟨(some 155), (.call ⟨(.value (.func 23)), #[(.tmp 154)], #[28]⟩), 53, "", #[⟨0, .chain⟩], none⟩,
  ⟨(some 153), (.move (.tmp 155)), 53, "", #[], none⟩,
  ⟨(some 156), (.extract (.tmp 153) 0), 51, "", #[], none⟩,
  ⟨(some 157), (.extract (.tmp 153) 1), 3, "", #[], none⟩,
  ⟨(some 25), (.assign (.tmp 156)), 51, "", #[], none⟩,
  ⟨(some 26), (.assign (.tmp 157)), 3, "", #[], none⟩]
def F8.r42 : List Oper := [
  ⟨(some 158), (.move (.tmp 22)), 4, "", #[], none⟩,
  ⟨(some 159), (.unOp .not 4 (.tmp 158)), 4, "", #[], none⟩,
  ⟨(some 160), (.move (.tmp 159)), 4, "", #[], none⟩,
  ⟨(some 161), (.move (.tmp 23)), 35, "", #[], (some (160, false))⟩,
  ⟨(some 162), (.call ⟨(.builtin .len), #[(.tmp 161)], #[35]⟩), 3, "", #[], (some (160, false))⟩,
  ⟨(some 163), (.move (.tmp 11)), 3, "", #[], (some (160, false))⟩,
  ⟨(some 164), (.binOp .gtr 3 (.tmp 162) (.tmp 163) 3), 4, "", #[], (some (160, false))⟩,
  ⟨(some 165), (.pick (.tmp 160) (.const (.bool true)) (.tmp 164)), 4, "", #[], none⟩,
  ⟨(some 166), (.move (.tmp 165)), 4, "", #[], none⟩,
  ⟨(some 167), (.move (.tmp 8)), 28, "", #[], (some (166, false))⟩,
  ⟨(some 168), (.call ⟨(.value (.func 26)), #[(.tmp 167)], #[28]⟩), 3, "", #[⟨0, .chain⟩], (some (166, false))⟩,
  ⟨(some 169), (.move (.tmp 10)), 34, "", #[], (some (166, false))⟩,
  ⟨(some 170), (.call ⟨(.builtin .len), #[(.tmp 169)], #[34]⟩), 3, "", #[], (some (166, false))⟩,
  ⟨(some 171), (.binOp .neq 3 (.tmp 168) (.tmp 170) 3), 4, "", #[], (some (166, false))⟩,
  ⟨(some 172), (.pick (.tmp 166) (.const (.bool true)) (.tmp 171)), 4, "", #[], none⟩]
def F8.r43 : List Oper := [
  ⟨(some 6), (.assign (.const (.bool false))), 4, "", #[], none⟩]
def F8.r44 : List Oper := [
  ⟨(some 173), (.move (.tmp 23)), 35, "", #[], none⟩,
  ⟨(some 174), (.move (.tmp 0)), 35, "", #[], none⟩,
  ⟨(some 175), (.move (.tmp 23)), 35, "", #[], none⟩,
  ⟨(some 176), (.call ⟨(.builtin .len), #[(.tmp 175)], #[35]⟩), 3, "", #[], none⟩,
  ⟨(some 177), (.slice 35 (.tmp 174) none (some (.tmp 176)) none), 35, "", #[], none⟩,
  ⟨(some 178), (.call ⟨(.value (.func 31)), #[(.tmp 173), (.tmp 177)], #[35, 35]⟩), 4, "", #[⟨0, .chain⟩], none⟩,
  ⟨(some 27), (.assign (.tmp 178)), 4, "", #[], none⟩]
def F8.r45 : List Oper := [
  ⟨(some 179), (.move (.tmp 25)), 51, "", #[], none⟩,
  ⟨(some 180), (.binOp .eql 51 (.tmp 179) (.const (.int .i64 0)) 51), 4, "", #[], none⟩]
def F8.r46 : List Oper := [
  ⟨(some 181), (.move (.tmp 27)), 4, "", #[], none⟩,
  ⟨(some 182), (.move (.tmp 181)), 4, "", #[], none⟩,
  ⟨(some 183), (.move (.tmp 11)), 3, "", #[], (some (182, true))⟩,
  ⟨(some 184), (.move (.tmp 0)), 35, "", #[], (some (182, true))⟩,
  ⟨(some 185), (.call ⟨(.builtin .len), #[(.tmp 184)], #[35]⟩), 3, "", #[], (some (182, true))⟩,
  ⟨(some 186), (.binOp .eql 3 (.tmp 183) (.tmp 185) 3), 4, "", #[], (some (182, true))⟩,
  ⟨(some 187), (.pick (.tmp 182) (.tmp 186) (.const (.bool false))), 4, "", #[], none⟩,
  ⟨(some 188), (.move (.tmp 187)), 4, "", #[], none⟩,
  ⟨(some 189), (.move (.tmp 26)), 3, "", #[], (some (188, true))⟩,
  ⟨(some 190), (.binOp .eql 3 (.tmp 189) (.const (.int .i64 0)) 3), 4, "", #[], (some (188, true))⟩,
  ⟨(some 191), (.pick (.tmp 188) (.tmp 190) (.const (.bool false))), 4, "", #[], none⟩,
  ⟨(some 192), (.move (.tmp 191)), 4, "", #[], none⟩,
  ⟨(some 193), (.move (.tmp 8)), 28, "", #[], (some (192, true))⟩,
  ⟨(some 194), (.call ⟨(.value (.func 25)), #[(.tmp 193)], #[28]⟩), 3, "", #[⟨0, .chain⟩], (some (192, true))⟩,
  ⟨(some 195), (.binOp .gtr 3 (.tmp 194) (.const (.int .i64 0)) 3), 4, "", #[], (some (192, true))⟩,
  ⟨(some 196), (.move (.tmp 8)), 28, "", #[], (some (192, true))⟩,
  ⟨(some 197), (.call ⟨(.value (.func 24)), #[(.tmp 196)], #[28]⟩), 4, "", #[⟨0, .chain⟩], (some (192, true))⟩,
  ⟨(some 198), (.unOp .not 4 (.tmp 197)), 4, "", #[], (some (192, true))⟩,
  ⟨(some 199), (.binOp .eql 4 (.tmp 195) (.tmp 198) 4), 4, "", #[], (some (192, true))⟩,
  ⟨(some 200), (.pick (.tmp 192) (.tmp 199) (.const (.bool false))), 4, "", #[], none⟩,
  ⟨(some 6), (.assign (.tmp 200)), 4, "", #[], none⟩]
def F8.r47 : List Oper := [
  ⟨(some 201), (.move (.tmp 27)), 4, "", #[], none⟩,
  ⟨(some 202), (.move (.tmp 201)), 4, "", #[], none⟩,
  ⟨(some 203), (.move (.tmp 25)), 51, "", #[], (some (202, true))⟩,
  ⟨(some 204), (.binOp .eql 51 (.tmp 203) (.const (.int .i64 40)) 51), 4, "", #[], (some (202, true))⟩,
  ⟨(some 205), (.pick (.tmp 202) (.tmp 204) (.const (.bool false))), 4, "", #[], none⟩,
  ⟨(some 206), (.move (.tmp 205)), 4, "", #[], none⟩,
  ⟨(some 207), (.move (.tmp 26)), 3, "", #[], (some (206, true))⟩,
  ⟨(some 208), (.move (.tmp 23)), 35, "", #[], (some (206, true))⟩,
  ⟨(some 209), (.call ⟨(.builtin .len), #[(.tmp 208)], #[35]⟩), 3, "", #[], (some (206, true))⟩,
  ⟨(some 210), (.binOp .eql 3 (.tmp 207) (.tmp 209) 3), 4, "", #[], (some (206, true))⟩,
  ⟨(some 211), (.pick (.tmp 206) (.tmp 210) (.const (.bool false))), 4, "", #[], none⟩,
  ⟨(some 212), (.move (.tmp 211)), 4, "", #[], none⟩,
  ⟨(some 213), (.move (.tmp 11)), 3, "", #[], (some (212, true))⟩,
  ⟨(some 214), (.move (.tmp 26)), 3, "", #[], (some (212, true))⟩,
  ⟨(some 215), (.binOp .add 3 (.tmp 214) (.const (.int .i64 4)) 3), 3, "", #[], (some (212, true))⟩,
  ⟨(some 216), (.binOp .eql 3 (.tmp 213) (.tmp 215) 3), 4, "", #[], (some (212, true))⟩,
  ⟨(some 217), (.pick (.tmp 212) (.tmp 216) (.const (.bool false))), 4, "", #[], none⟩,
  ⟨(some 218), (.move (.tmp 217)), 4, "", #[], none⟩,
  ⟨(some 219), (.move (.tmp 8)), 28, "", #[], (some (218, true))⟩,
  ⟨(some 220), (.call ⟨(.value (.func 25)), #[(.tmp 219)], #[28]⟩), 3, "", #[⟨0, .chain⟩], (some (218, true))⟩,
  ⟨(some 221), (.binOp .eql 3 (.tmp 220) (.const (.int .i64 0)) 3), 4, "", #[], (some (218, true))⟩,
  ⟨(some 222), (.pick (.tmp 218) (.tmp 221) (.const (.bool false))), 4, "", #[], none⟩,
  ⟨(some 223), (.move (.tmp 222)), 4, "", #[], none⟩,
  ⟨(some 224), (.move (.tmp 8)), 28, "", #[], (some (223, true))⟩,
  ⟨(some 225), (.call ⟨(.value (.func 24)), #[(.tmp 224)], #[28]⟩), 4, "", #[⟨0, .chain⟩], (some (223, true))⟩,
  ⟨(some 226), (.unOp .not 4 (.tmp 225)), 4, "", #[], (some (223, true))⟩,
  ⟨(some 227), (.pick (.tmp 223) (.tmp 226) (.const (.bool false))), 4, "", #[], none⟩,
  ⟨(some 6), (.assign (.tmp 227)), 4, "", #[], none⟩]
def F8.a0 : Cd := (.region 33 F8.r33.toArray false)
def F8.b0 : Cd := (.block 3 (.region 34 F8.r34.toArray false))
def F8.t27 : Cd := (.seq (.region 27 F8.r27.toArray false) (.cond (.tmp 121) (.exit 0) .skip))
theorem F8.t27_eq {P : Program} {Q : Post} {e : FA} {w : World} {θ : Tag (F8.t27, Q, e, w)} : cwE P F8.t27 Q e w θ = cwE P (.seq (.region 27 F8.r27.toArray false) (.cond (.tmp 121) (.exit 0) .skip)) Q e w := rfl
def F8.t24 : Cd := (.seq (.region 24 F8.r24.toArray false) (.seq (.seq (.region 25 F8.r25.toArray false) (.cond (.tmp 110) (.region 26 F8.r26.toArray false) .skip)) F8.t27))
theorem F8.t24_eq {P : Program} {Q : Post} {e : FA} {w : World} {θ : Tag (F8.t24, Q, e, w)} : cwE P F8.t24 Q e w θ = cwE P (.seq (.region 24 F8.r24.toArray false) (.seq (.seq (.region 25 F8.r25.toArray false) (.cond (.tmp 110) (.region 26 F8.r26.toArray false) .skip)) F8.t27)) Q e w := rfl
def F8.t22 : Cd := (.seq (.region 22 F8.r22.toArray false) (.seq (.seq (.region 23 F8.r23.toArray false) (.cond (.tmp 104) (.exit 1) .skip)) F8.t24))
theorem F8.t22_eq {P : Program} {Q : Post} {e : FA} {w : World} {θ : Tag (F8.t22, Q, e, w)} : cwE P F8.t22 Q e w θ = cwE P (.seq (.region 22 F8.r22.toArray false) (.seq (.seq (.region 23 F8.r23.toArray false) (.cond (.tmp 104) (.exit 1) .skip)) F8.t24)) Q e w := rfl
def F8.t19 : Cd := (.seq (.region 19 F8.r19.toArray false) (.seq (.seq (.region 20 F8.r20.toArray false) (.cond (.tmp 96) (.seq (.region 21 F8.r21.toArray false) .ret) .skip)) F8.t22))
theorem F8.t19_eq {P : Program} {Q : Post} {e : FA} {w : World} {θ : Tag (F8.t19, Q, e, w)} : cwE P F8.t19 Q e w θ = cwE P (.seq (.region 19 F8.r19.toArray false) (.seq (.seq (.region 20 F8.r20.toArray false) (.cond (.tmp 96) (.seq (.region 21 F8.r21.toArray false) .ret) .skip)) F8.t22)) Q e w := rfl
def F8.t13 : Cd := (.region 13 F8.r13.toArray false)
theorem F8.t13_eq {P : Program} {Q : Post} {e : FA} {w : World} {θ : Tag (F8.t13, Q, e, w)} : cwE P F8.t13 Q e w θ = cwE P (.region 13 F8.r13.toArray false) Q e w := rfl
def F8.t14 : Cd := (.seq (.block 1 (.seq (.region 14 F8.r14.toArray false) (.seq (.region 15 F8.r15.toArray false) (.seq (.seq (.region 16 F8.r16.toArray false) (.cond (.tmp 68) (.seq (.region 17 F8.r17.toArray false) (.region 18 F8.r18.toArray false)) .skip)) F8.t19)))) F8.t13)
theorem F8.t14_eq {P : Program} {Q : Post} {e : FA} {w : World} {θ : Tag (F8.t14, Q, e, w)} : cwE P F8.t14 Q e w θ = cwE P (.seq (.block 1 (.seq (.region 14 F8.r14.toArray false) (.seq (.region 15 F8.r15.toArray false) (.seq (.seq (.region 16 F8.r16.toArray false) (.cond (.tmp 68) (.seq (.region 17 F8.r17.toArray false) (.region 18 F8.r18.toArray false)) .skip)) F8.t19)))) F8.t13) Q e w := rfl
def F8.t39 : Cd := (.region 39 F8.r39.toArray false)
theorem F8.t39_eq {P : Program} {Q : Post} {e : FA} {w : World} {θ : Tag (F8.t39, Q, e, w)} : cwE P F8.t39 Q e w θ = cwE P (.region 39 F8.r39.toArray false) Q e w := rfl
def F8.t40 : Cd := (.seq (.block 5 (.region 40 F8.r40.toArray false)) F8.t39)
theorem F8.t40_eq {P : Program} {Q : Post} {e : FA} {w : World} {θ : Tag (F8.t40, Q, e, w)} : cwE P F8.t40 Q e w θ = cwE P (.seq (.block 5 (.region 40 F8.r40.toArray false)) F8.t39) Q e w := rfl
def F8.t47 : Cd := (.seq (.region 47 F8.r47.toArray false) .ret)
theorem F8.t47_eq {P : Program} {Q : Post} {e : FA} {w : World} {θ : Tag (F8.t47, Q, e, w)} : cwE P F8.t47 Q e w θ = cwE P (.seq (.region 47 F8.r47.toArray false) .ret) Q e w := rfl
def F8.t44 : Cd := (.seq (.region 44 F8.r44.toArray false) (.seq (.seq (.region 45 F8.r45.toArray false) (.cond (.tmp 180) (.seq (.region 46 F8.r46.toArray false) .ret) .skip)) F8.t47))
theorem F8.t44_eq {P : Program} {Q : Post} {e : FA} {w : World} {θ : Tag (F8.t44, Q, e, w)} : cwE P F8.t44 Q e w θ = cwE P (.seq (.region 44 F8.r44.toArray false) (.seq (.seq (.region 45 F8.r45.toArray false) (.cond (.tmp 180) (.seq (.region 46 F8.r46.toArray false) .ret) .skip)) F8.t47)) Q e w := rfl
def F8.t41 : Cd := (.seq (.region 41 F8.r41.toArray false) (.seq (.seq (.region 42 F8.r42.toArray false) (.cond (.tmp 172) (.seq (.region 43 F8.r43.toArray false) .ret) .skip)) F8.t44))
theorem F8.t41_eq {P : Program} {Q : Post} {e : FA} {w : World} {θ : Tag (F8.t41, Q, e, w)} : cwE P F8.t41 Q e w θ = cwE P (.seq (.region 41 F8.r41.toArray false) (.seq (.seq (.region 42 F8.r42.toArray false) (.cond (.tmp 172) (.seq (.region 43 F8.r43.toArray false) .ret) .skip)) F8.t44)) Q e w := rfl
def F8.t35 : Cd := (.seq (.region 35 F8.r35.toArray false) (.seq (.region 36 F8.r36.toArray false) (.seq (.seq (.region 37 F8.r37.toArray false) (.block 4 (.loop (.seq (.seq (.region 38 F8.r38.toArray false) (.cond (.tmp 144) .skip (.exit 4))) F8.t40)))) F8.t41)))
theorem F8.t35_eq {P : Program} {Q : Post} {e : FA} {w : World} {θ : Tag (F8.t35, Q, e, w)} : cwE P F8.t35 Q e w θ = cwE P (.seq (.region 35 F8.r35.toArray false) (.seq (.region 36 F8.r36.toArray false) (.seq (.seq (.region 37 F8.r37.toArray false) (.block 4 (.loop (.seq (.seq (.region 38 F8.r38.toArray false) (.cond (.tmp 144) .skip (.exit 4))) F8.t40)))) F8.t41))) Q e w := rfl
def F8.t31 : Cd := (.seq (.region 31 F8.r31.toArray false) (.seq (.seq (.region 32 F8.r32.toArray false) (.block 2 (.rangeFunc (.tmp 132) #[133] F8.a0 F8.b0))) F8.t35))
theorem F8.t31_eq {P : Program} {Q : Post} {e : FA} {w : World} {θ : Tag (F8.t31, Q, e, w)} : cwE P F8.t31 Q e w θ = cwE P (.seq (.region 31 F8.r31.toArray false) (.seq (.seq (.region 32 F8.r32.toArray false) (.block 2 (.rangeFunc (.tmp 132) #[133] F8.a0 F8.b0))) F8.t35)) Q e w := rfl
def F8.t28 : Cd := (.seq (.region 28 F8.r28.toArray false) (.seq (.seq (.region 29 F8.r29.toArray false) (.cond (.tmp 127) (.region 30 F8.r30.toArray false) .skip)) F8.t31))
theorem F8.t28_eq {P : Program} {Q : Post} {e : FA} {w : World} {θ : Tag (F8.t28, Q, e, w)} : cwE P F8.t28 Q e w θ = cwE P (.seq (.region 28 F8.r28.toArray false) (.seq (.seq (.region 29 F8.r29.toArray false) (.cond (.tmp 127) (.region 30 F8.r30.toArray false) .skip)) F8.t31)) Q e w := rfl
def F8.t9 : Cd := (.seq (.region 9 F8.r9.toArray false) (.seq (.region 10 F8.r10.toArray false) (.seq (.seq (.region 11 F8.r11.toArray false) (.block 0 (.loop (.seq (.seq (.region 12 F8.r12.toArray false) (.cond (.tmp 58) .skip (.exit 0))) F8.t14)))) F8.t28)))
theorem F8.t9_eq {P : Program} {Q : Post} {e : FA} {w : World} {θ : Tag (F8.t9, Q, e, w)} : cwE P F8.t9 Q e w θ = cwE P (.seq (.region 9 F8.r9.toArray false) (.seq (.region 10 F8.r10.toArray false) (.seq (.seq (.region 11 F8.r11.toArray false) (.block 0 (.loop (.seq (.seq (.region 12 F8.r12.toArray false) (.cond (.tmp 58) .skip (.exit 0))) F8.t14)))) F8.t28))) Q e w := rfl
def F8.t3 : Cd := (.seq (.region 3 F8.r3.toArray false) (.seq (.region 4 F8.r4.toArray false) (.seq (.region 5 F8.r5.toArray false) (.seq (.region 6 F8.r6.toArray false) (.seq (.seq (.region 7 F8.r7.toArray false) (.cond (.tmp 54) (.seq (.region 8 F8.r8.toArray false) .ret) .skip)) F8.t9)))))
theorem F8.t3_eq {P : Program} {Q : Post} {e : FA} {w : World} {θ : Tag (F8.t3, Q, e, w)} : cwE P F8.t3 Q e w θ = cwE P (.seq (.region 3 F8.r3.toArray false) (.seq (.region 4 F8.r4.toArray false) (.seq (.region 5 F8.r5.toArray false) (.seq (.region 6 F8.r6.toArray false) (.seq (.seq (.region 7 F8.r7.toArray false) (.cond (.tmp 54) (.seq (.region 8 F8.r8.toArray false) .ret) .skip)) F8.t9))))) Q e w := rfl
def F8.code : Cd := (.seq (.region 0 F8.r0.toArray false) (.seq (.seq (.region 1 F8.r1.toArray false) (.cond (.tmp 35) (.seq (.region 2 F8.r2.toArray false) .ret) .skip)) F8.t3))
theorem F8.calls {args : Array Value} {w : World} {R : Ending → World → Prop} (hn : args.size ≤ 228) (h : cwE Try.prog F8.code (fnP Try.prog #[(.tmp 6)] R) (entry args) w) : Calls Try.prog 8 args w R :=
  calls_of_cwE (types := Try.prog.types) follows Try.func8 F8.code rfl (by kernel_rfl) hn h

def F9.r0 : List Oper := [
  ⟨(some 0), (.assign (.const (.bool false))), 4, "", #[], none⟩]
def F9.r1 : List Oper := [
  ⟨(some 9), (.call ⟨(.value (.func 11)), #[(.const (.int .u32 512))], #[30]⟩), 28, "", #[⟨0, .chain⟩], none⟩,
  ⟨(some 1), (.assign (.tmp 9)), 28, "", #[], none⟩]
def F9.r2 : List Oper := [
  ⟨(some 10), (.move (.tmp 1)), 28, "", #[], none⟩,
  ⟨(some 11), (.binOp .eql 28 (.tmp 10) (.const (.pointer none)) 28), 4, "", #[], none⟩]
def F9.r3 : List Oper := [
  ⟨(some 0), (.assign (.const (.bool false))), 4, "", #[], none⟩]
def F9.r4 : List Oper := [
  ⟨(some 12), (.move (.tmp 1)), 28, "", #[], none⟩,
  ⟨(some 13), (.buildSlice 35 8 #[(0, (.const (.int .u8 7))), (1, (.const (.int .u8 0))), (2, (.const (.int .u8 0))), (3, (.const (.int .u8 0))), (4, (.const (.int .u8 120))), (5, (.const (.int .u8 1))), (6, (.const (.int .u8 0))), (7, (.const (.int .u8 8)))]), 35, "", #[⟨0, .chain⟩], none⟩,
  ⟨(some 14), (.call ⟨(.value (.func 20)), #[(.tmp 12), (.tmp 13)], #[28, 35]⟩), 3, "", #[⟨0, .chain⟩], none⟩,
  ⟨(some 2), (.assign (.tmp 14)), 3, "", #[], none⟩]
def F9.r5 : List Oper := [
  ⟨(some 15), (.move (.tmp 1)), 28, "", #[], none⟩,
  ⟨(some 16), (.call ⟨(.value (.func 24)), #[(.tmp 15)], #[28]⟩), 4, "", #[⟨0, .chain⟩], none⟩,
  ⟨(some 3), (.assign (.tmp 16)), 4, "", #[], none⟩]
def F9.r6 : List Oper := [
  ⟨(some 17), (.move (.tmp 1)), 28, "", #[], none⟩,
  ⟨(some 18), (.buildSlice 35 1 #[(0, (.const (.int .u8 8)))]), 35, "", #[⟨0, .chain⟩], none⟩,
  ⟨(some 19), (.call ⟨(.value (.func 20)), #[(.tmp 17), (.tmp 18)], #[28, 35]⟩), 3, "", #[⟨0, .chain⟩], none⟩,
  ⟨(some 4), (.assign (.tmp 19)), 3, "", #[], none⟩]
def F9.r7 : List Oper := [
  ⟨(some 21), (.move (.tmp 1)), 28, "", #[], none⟩,
  ⟨(some 22), (.call ⟨(.value (.func 21)), #[(.tmp 21)], #[28]⟩), 49, "", #[⟨0, .chain⟩], none⟩,
  ⟨(some 20), (.move (.tmp 22)), 49, "", #[], none⟩,
  ⟨(some 23), (.extract (.tmp 20) 0), 35, "", #[], none⟩,
  ⟨(some 24), (.extract (.tmp 20) 1), 4, "", #[], none⟩,
  ⟨(some 5), (.assign (.tmp 23)), 35, "", #[], none⟩,
  ⟨(some 6), (.assign (.tmp 24)), 4, "", #[], none⟩]
def F9.r8 : List Oper := [
  ⟨(some 25), (.move (.tmp 5)), 35, "", #[], none⟩,
  ⟨(some 26), (.buildSlice 35 7 #[(0, (.const (.int .u8 7))), (1, (.const (.int .u8 0))), (2, (.const (.int .u8 0))), (3, (.const (.int .u8 0))), (4, (.const (.int .u8 120))), (5, (.const (.int .u8 1))), (6, (.const (.int .u8 0)))]), 35, "", #[⟨0, .chain⟩], none⟩,
  ⟨(some 27), (.call ⟨(.value (.func 31)), #[(.tmp 25), (.tmp 26)], #[35, 35]⟩), 4, "", #[⟨0, .chain⟩], none⟩,
  ⟨(some 7), (.assign (.tmp 27)), 4, "", #[], none⟩]
def F9.r9 : List Oper := [
  ⟨(some 28), (.move (.tmp 1)), 28, "", #[], none⟩,
  ⟨(some 29), (.buildSlice 35 1 #[(0, (.const (.int .u8 8)))]), 35, "", #[⟨0, .chain⟩], none⟩,
  ⟨(some 30), (.call ⟨(.value (.func 20)), #[(.tmp 28), (.tmp 29)], #[28, 35]⟩), 3, "", #[⟨0, .chain⟩], none⟩,
  ⟨(some 8), (.assign (.tmp 30)), 3, "", #[], none⟩]
def F9.r10 : List Oper := [
  ⟨(some 31), (.move (.tmp 2)), 3, "", #[], none⟩,
  ⟨(some 32), (.binOp .eql 3 (.tmp 31) (.const (.int .i64 7)) 3), 4, "", #[], none⟩,
  ⟨(some 33), (.move (.tmp 32)), 4, "", #[], none⟩,
  ⟨(some 34), (.move (.tmp 3)), 4, "", #[], (some (33, true))⟩,
  ⟨(some 35), (.pick (.tmp 33) (.tmp 34) (.const (.bool false))), 4, "", #[], none⟩,
  ⟨(some 36), (.move (.tmp 35)), 4, "", #[], none⟩,
  ⟨(some 37), (.move (.tmp 4)), 3, "", #[], (some (36, true))⟩,
  ⟨(some 38), (.binOp .eql 3 (.tmp 37) (.const (.int .i64 0)) 3), 4, "", #[], (some (36, true))⟩,
  ⟨(some 39), (.pick (.tmp 36) (.tmp 38) (.const (.bool false))), 4, "", #[], none⟩,
  ⟨(some 40), (.move (.tmp 39)), 4, "", #[], none⟩,
  ⟨(some 41), (.move (.tmp 6)), 4, "", #[], (some (40, true))⟩,
  ⟨(some 42), (.pick (.tmp 40) (.tmp 41) (.const (.bool false))), 4, "", #[], none⟩,
  ⟨(some 43), (.move (.tmp 42)), 4, "", #[], none⟩,
  ⟨(some 44), (.move (.tmp 7)), 4, "", #[], (some (43, true))⟩,
  ⟨(some 45), (.pick (.tmp 43) (.tmp 44) (.const (.bool false))), 4, "", #[], none⟩,
  ⟨(some 46), (.move (.tmp 45)), 4, "", #[], none⟩,
  ⟨(some 47), (.move (.tmp 8)), 3, "", #[], (some (46, true))⟩,
  ⟨(some 48), (.binOp .eql 3 (.tmp 47) (.const (.int .i64 1)) 3), 4, "", #[], (some (46, true))⟩,
  ⟨(some 49), (.pick (.tmp 46) (.tmp 48) (.const (.bool false))), 4, "", #[], none⟩,
  ⟨(some 50), (.move (.tmp 49)), 4, "", #[], none⟩,
  ⟨(some 51), (.move (.tmp 1)), 28, "", #[], (some (50, true))⟩,
  ⟨(some 52), (.call ⟨(.value (.func 25)), #[(.tmp 51)], #[28]⟩), 3, "", #[⟨0, .chain⟩], (some (50, true))⟩,
  ⟨(some 53), (.binOp .eql 3 (.tmp 52) (.const (.int .i64 3)) 3), 4, "", #[], (some (50, true))⟩,
  ⟨(some 54), (.pick (.tmp 50) (.tmp 53) (.const (.bool false))), 4, "", #[], none⟩,
  ⟨(some 55), (.move (.tmp 54)), 4, "", #[], none⟩,
  ⟨(some 56), (.move (.tmp 1)), 28, "", #[], (some (55, true))⟩,
  ⟨(some 57), (.call ⟨(.value (.func 26)), #[(.tmp 56)], #[28]⟩), 3, "", #[⟨0, .chain⟩], (some (55, true))⟩,
  ⟨(some 58), (.binOp .eql 3 (.tmp 57) (.const (.int .i64 1)) 3), 4, "", #[], (some (55, true))⟩,
  ⟨(some 59), (.pick (.tmp 55) (.tmp 58) (.const (.bool false))), 4, "", #[], none⟩,
  ⟨(some 0), (.assign (.tmp 59)), 4, "", #[], none⟩]
def F9.t4 : Cd := (.seq (.region 4 F9.r4.toArray false) (.seq (.region 5 F9.r5.toArray false) (.seq (.region 6 F9.r6.toArray false) (.seq (.region 7 F9.r7.toArray false) (.seq (.region 8 F9.r8.toArray false) (.seq (.region 9 F9.r9.toArray false) (.seq (.region 10 F9.r10.toArray false) .ret)))))))
theorem F9.t4_eq {P : Program} {Q : Post} {e : FA} {w : World} {θ : Tag (F9.t4, Q, e, w)} : cwE P F9.t4 Q e w θ = cwE P (.seq (.region 4 F9.r4.toArray false) (.seq (.region 5 F9.r5.toArray false) (.seq (.region 6 F9.r6.toArray false) (.seq (.region 7 F9.r7.toArray false) (.seq (.region 8 F9.r8.toArray false) (.seq (.region 9 F9.r9.toArray false) (.seq (.region 10 F9.r10.toArray false) .ret))))))) Q e w := rfl
def F9.code : Cd := (.seq (.region 0 F9.r0.toArray false) (.seq (.region 1 F9.r1.toArray false) (.seq (.seq (.region 2 F9.r2.toArray false) (.cond (.tmp 11) (.seq (.region 3 F9.r3.toArray false) .ret) .skip)) F9.t4)))
theorem F9.calls {args : Array Value} {w : World} {R : Ending → World → Prop} (hn : args.size ≤ 60) (h : cwE Try.prog F9.code (fnP Try.prog #[(.tmp 0)] R) (entry args) w) : Calls Try.prog 9 args w R :=
  calls_of_cwE (types := Try.prog.types) follows Try.func9 F9.code rfl (by kernel_rfl) hn h

def F10.r0 : List Oper := [
  ⟨(some 2), (.assign (.const (.int .i64 0))), 3, "", #[], none⟩]
def F10.r1 : List Oper := [
  ⟨(some 3), (.assign (.const (.int .i64 0))), 3, "", #[], none⟩]
def F10.r2 : List Oper := [
  ⟨(some 4), (.assign (.const (.int .i64 0))), 3, "", #[], none⟩]
def F10.r3 : List Oper := [
  ⟨(some 5), (.move (.tmp 4)), 3, "", #[], none⟩,
  ⟨(some 6), (.move (.tmp 0)), 24, "", #[], none⟩,
  ⟨(some 7), (.call ⟨(.builtin .len), #[(.tmp 6)], #[24]⟩), 3, "", #[], none⟩,
  ⟨(some 8), (.binOp .lss 3 (.tmp 5) (.tmp 7) 3), 4, "", #[], none⟩,
  ⟨(some 9), (.move (.tmp 8)), 4, "", #[], none⟩,
  ⟨(some 10), (.move (.tmp 3)), 3, "", #[], (some (9, true))⟩,
  ⟨(some 11), (.binOp .leq 3 (.tmp 10) (.const (.int .i64 33554432)) 3), 4, "", #[], (some (9, true))⟩,
  ⟨(some 12), (.pick (.tmp 9) (.tmp 11) (.const (.bool false))), 4, "", #[], none⟩]
def F10.r5 : List Oper := [
  ⟨(some 15), (.move (.tmp 3)), 3, "", #[], none⟩,
  ⟨(some 16), (.binOp .add 3 (.tmp 15) (.const (.int .i64 16)) 3), 3, "", #[], none⟩,
  ⟨(some 17), (.move (.tmp 0)), 24, "", #[], none⟩,
  ⟨(some 18), (.move (.tmp 4)), 3, "", #[], none⟩,
  ⟨(some 19), (.indexAddr 24 (.tmp 17) (.tmp 18)), 0, "", #[], none⟩,
  ⟨(some 20), (.fieldAddr 40 (.tmp 19) 2), 0, "", #[], none⟩,
  ⟨(some 21), (.load 35 (.tmp 20)), 35, "", #[⟨0, .data⟩], none⟩,
  ⟨(some 22), (.call ⟨(.builtin .len), #[(.tmp 21)], #[35]⟩), 3, "", #[], none⟩,
  ⟨(some 23), (.binOp .add 3 (.tmp 16) (.tmp 22) 3), 3, "", #[], none⟩,
  ⟨(some 3), (.assign (.tmp 23)), 3, "", #[], none⟩]
def F10.r6 : List Oper := [
  ⟨(some 24), (.move (.tmp 0)), 24, "", #[], none⟩,
  ⟨(some 25), (.move (.tmp 4)), 3, "", #[], none⟩,
  ⟨(some 26), (.indexAddr 24 (.tmp 24) (.tmp 25)), 0, "", #[], none⟩,
  ⟨(some 27), (.fieldAddr 40 (.tmp 26) 1), 0, "", #[], none⟩,
  ⟨(some 28), (.load 3 (.tmp 27)), 3, "", #[⟨0, .data⟩], none⟩,
  ⟨(some 29), (.binOp .eql 3 (.tmp 28) (.const (.int .i64 6)) 3), 4, "", #[], none⟩]
def F10.r7 : List Oper := [
  ⟨(some 30), (.move (.tmp 3)), 3, "", #[], none⟩,
  ⟨(some 31), (.binOp .add 3 (.tmp 30) (.const (.int .i64 70000)) 3), 3, "", #[], none⟩,
  ⟨(some 3), (.assign (.tmp 31)), 3, "", #[], none⟩]
def F10.r4 : List Oper := [
  ⟨(some 13), (.move (.tmp 4)), 3, "", #[], none⟩,
  ⟨(some 14), (.binOp .add 3 (.tmp 13) (.const (.int .i64 1)) 3), 3, "", #[], none⟩,
  ⟨(some 4), (.assign (.tmp 14)), 3, "", #[], none⟩]
def F10.r8 : List Oper := [
  ⟨(some 32), (.move (.tmp 3)), 3, "", #[], none⟩,
  ⟨(some 2), (.assign (.tmp 32)), 3, "", #[], none⟩]
def F10.t4 : Cd := (.region 4 F10.r4.toArray false)
theorem F10.t4_eq {P : Program} {Q : Post} {e : FA} {w : World} {θ : Tag (F10.t4, Q, e, w)} : cwE P F10.t4 Q e w θ = cwE P (.region 4 F10.r4.toArray false) Q e w := rfl
def F10.t5 : Cd := (.seq (.block 1 (.seq (.region 5 F10.r5.toArray false) (.seq (.region 6 F10.r6.toArray false) (.cond (.tmp 29) (.region 7 F10.r7.toArray false) .skip)))) F10.t4)
theorem F10.t5_eq {P : Program} {Q : Post} {e : FA} {w : World} {θ : Tag (F10.t5, Q, e, w)} : cwE P F10.t5 Q e w θ = cwE P (.seq (.block 1 (.seq (.region 5 F10.r5.toArray false) (.seq (.region 6 F10.r6.toArray false) (.cond (.tmp 29) (.region 7 F10.r7.toArray false) .skip)))) F10.t4) Q e w := rfl
def F10.t8 : Cd := (.seq (.region 8 F10.r8.toArray false) .ret)
theorem F10.t8_eq {P : Program} {Q : Post} {e : FA} {w : World} {θ : Tag (F10.t8, Q, e, w)} : cwE P F10.t8 Q e w θ = cwE P (.seq (.region 8 F10.r8.toArray false) .ret) Q e w := rfl
def F10.code : Cd := (.seq (.region 0 F10.r0.toArray false) (.seq (.region 1 F10.r1.toArray false) (.seq (.seq (.region 2 F10.r2.toArray false) (.block 0 (.loop (.seq (.seq (.region 3 F10.r3.toArray false) (.cond (.tmp 12) .skip (.exit 0))) F10.t5)))) F10.t8)))
theorem F10.calls {args : Array Value} {w : World} {R : Ending → World → Prop} (hn : args.size ≤ 33) (h : cwE Try.prog F10.code (fnP Try.prog #[(.tmp 2)] R) (entry args) w) : Calls Try.prog 10 args w R :=
  calls_of_cwE (types := Try.prog.types) follows Try.func10 F10.code rfl (by kernel_rfl) hn h

def F11.r0 : List Oper := [
  ⟨(some 2), (.assign (.const (.pointer none))), 28, "", #[], none⟩]
def F11.r1 : List Oper := [
  ⟨(some 3), (.move (.tmp 0)), 30, "", #[], none⟩,
  ⟨(some 4), (.call ⟨(.value (.func 32)), #[(.tmp 3)], #[30]⟩), 4, "", #[⟨0, .chain⟩], none⟩,
  ⟨(some 5), (.unOp .not 4 (.tmp 4)), 4, "", #[], none⟩]
def F11.r2 : List Oper := [
  ⟨(some 2), (.assign (.const (.pointer none))), 28, "", #[], none⟩]
def F11.r3 : List Oper := [
  ⟨(some 6), (.move (.tmp 0)), 30, "", #[], none⟩,
  ⟨(some 7), (.build 72 #[(0, (.tmp 6))]), 72, "", #[], none⟩,
  ⟨(some 8), (.box 72 (.tmp 7)), 28, "", #[⟨0, .chain⟩], none⟩,
  ⟨(some 2), (.assign (.tmp 8)), 28, "", #[], none⟩]
def F11.t3 : Cd := (.seq (.region 3 F11.r3.toArray false) .ret)
theorem F11.t3_eq {P : Program} {Q : Post} {e : FA} {w : World} {θ : Tag (F11.t3, Q, e, w)} : cwE P F11.t3 Q e w θ = cwE P (.seq (.region 3 F11.r3.toArray false) .ret) Q e w := rfl
def F11.code : Cd := (.seq (.region 0 F11.r0.toArray false) (.seq (.seq (.region 1 F11.r1.toArray false) (.cond (.tmp 5) (.seq (.region 2 F11.r2.toArray false) .ret) .skip)) F11.t3))
theorem F11.calls {args : Array Value} {w : World} {R : Ending → World → Prop} (hn : args.size ≤ 9) (h : cwE Try.prog F11.code (fnP Try.prog #[(.tmp 2)] R) (entry args) w) : Calls Try.prog 11 args w R :=
  calls_of_cwE (types := Try.prog.types) follows Try.func11 F11.code rfl (by kernel_rfl) hn h

def F12.r0 : List Oper := [
  ⟨(some 2), (.assign (.const (.pointer none))), 31, "", #[], none⟩]
def F12.r1 : List Oper := [
  ⟨(some 3), (.move (.tmp 0)), 30, "", #[], none⟩,
  ⟨(some 4), (.call ⟨(.value (.func 33)), #[(.tmp 3)], #[30]⟩), 4, "", #[⟨0, .chain⟩], none⟩,
  ⟨(some 5), (.unOp .not 4 (.tmp 4)), 4, "", #[], none⟩]
def F12.r2 : List Oper := [
  ⟨(some 2), (.assign (.const (.pointer none))), 31, "", #[], none⟩]
def F12.r3 : List Oper := [
  ⟨(some 6), (.move (.tmp 0)), 30, "", #[], none⟩,
  ⟨(some 7), (.build 74 #[(0, (.tmp 6))]), 74, "", #[], none⟩,
  ⟨(some 8), (.box 74 (.tmp 7)), 31, "", #[⟨0, .chain⟩], none⟩,
  ⟨(some 2), (.assign (.tmp 8)), 31, "", #[], none⟩]
def F12.t3 : Cd := (.seq (.region 3 F12.r3.toArray false) .ret)
theorem F12.t3_eq {P : Program} {Q : Post} {e : FA} {w : World} {θ : Tag (F12.t3, Q, e, w)} : cwE P F12.t3 Q e w θ = cwE P (.seq (.region 3 F12.r3.toArray false) .ret) Q e w := rfl
def F12.code : Cd := (.seq (.region 0 F12.r0.toArray false) (.seq (.seq (.region 1 F12.r1.toArray false) (.cond (.tmp 5) (.seq (.region 2 F12.r2.toArray false) .ret) .skip)) F12.t3))
theorem F12.calls {args : Array Value} {w : World} {R : Ending → World → Prop} (hn : args.size ≤ 9) (h : cwE Try.prog F12.code (fnP Try.prog #[(.tmp 2)] R) (entry args) w) : Calls Try.prog 12 args w R :=
  calls_of_cwE (types := Try.prog.types) follows Try.func12 F12.code rfl (by kernel_rfl) hn h

def F13.r0 : List Oper := [
  ⟨(some 4), (.assign (.const (.int .i64 0))), 3, "", #[], none⟩]
def F13.r1 : List Oper := [
  ⟨(some 5), (.move (.tmp 0)), 3, "", #[], none⟩,
  ⟨(some 6), (.binOp .lss 3 (.tmp 5) (.const (.int .i64 0)) 3), 4, "", #[], none⟩]
def F13.r2 : List Oper := [
  ⟨(some 7), (.move (.tmp 0)), 3, "", #[], none⟩,
  ⟨(some 8), (.binOp .add 3 (.tmp 7) (.const (.int .i64 1)) 3), 3, "", #[], none⟩,
  ⟨(some 9), (.unOp .neg 3 (.tmp 8)), 3, "", #[], none⟩,
  ⟨(some 0), (.assign (.tmp 9)), 3, "", #[], none⟩]
def F13.r3 : List Oper := [
  ⟨(some 10), (.move (.tmp 0)), 3, "", #[], none⟩,
  ⟨(some 11), (.move (.tmp 1)), 3, "", #[], none⟩,
  ⟨(some 12), (.binOp .rem 3 (.tmp 10) (.tmp 11) 3), 3, "", #[], none⟩,
  ⟨(some 4), (.assign (.tmp 12)), 3, "", #[], none⟩]
def F13.t3 : Cd := (.seq (.region 3 F13.r3.toArray false) .ret)
theorem F13.t3_eq {P : Program} {Q : Post} {e : FA} {w : World} {θ : Tag (F13.t3, Q, e, w)} : cwE P F13.t3 Q e w θ = cwE P (.seq (.region 3 F13.r3.toArray false) .ret) Q e w := rfl
def F13.code : Cd := (.seq (.region 0 F13.r0.toArray false) (.seq (.seq (.region 1 F13.r1.toArray false) (.cond (.tmp 6) (.region 2 F13.r2.toArray false) .skip)) F13.t3))
theorem F13.calls {args : Array Value} {w : World} {R : Ending → World → Prop} (hn : args.size ≤ 13) (h : cwE Try.prog F13.code (fnP Try.prog #[(.tmp 4)] R) (entry args) w) : Calls Try.prog 13 args w R :=
  calls_of_cwE (types := Try.prog.types) follows Try.func13 F13.code rfl (by kernel_rfl) hn h

def F14.r0 : List Oper := [
  ⟨(some 6), (.box 40 (.tmp 2)), 0, "", #[⟨0, .chain⟩], none⟩,
  ⟨(some 8), (.assign (.const (.bool false))), 4, "", #[], none⟩]
def F14.r1 : List Oper := [
  ⟨(some 21), (.fieldAddr 40 (.tmp 6) 1), 0, "", #[], none⟩,
  ⟨(some 22), (.load 3 (.tmp 21)), 3, "", #[⟨0, .data⟩], none⟩]
def F14.r2 : List Oper := [
  ⟨(some 24), (.binOp .eql 3 (.tmp 22) (.const (.int .i64 1)) 3), 4, "", #[], none⟩,
  ⟨(some 23), (.assign (.tmp 24)), 4, "", #[], none⟩]
def F14.r3 : List Oper := [
  ⟨(some 26), (.move (.tmp 0)), 28, "", #[], none⟩,
  ⟨(some 27), (.move (.tmp 1)), 31, "", #[], none⟩,
  ⟨(some 28), (.fieldAddr 40 (.tmp 6) 2), 0, "", #[], none⟩,
  ⟨(some 29), (.load 35 (.tmp 28)), 35, "", #[⟨0, .data⟩], none⟩,
  ⟨(some 30), (.call ⟨(.value (.func 34)), #[(.tmp 26), (.tmp 27), (.tmp 29)], #[28, 31, 35]⟩), 75, "", #[⟨0, .chain⟩], none⟩,
  ⟨(some 25), (.move (.tmp 30)), 75, "", #[], none⟩,
  ⟨(some 31), (.extract (.tmp 25) 0), 3, "", #[], none⟩,
  ⟨(some 32), (.extract (.tmp 25) 1), 4, "", #[], none⟩,
  ⟨(some 9), (.assign (.tmp 31)), 3, "", #[], none⟩,
  ⟨(some 10), (.assign (.tmp 32)), 4, "", #[], none⟩]
def F14.r4 : List Oper := [
  ⟨(some 33), (.move (.tmp 10)), 4, "", #[], none⟩,
  ⟨(some 8), (.assign (.tmp 33)), 4, "", #[], none⟩]
def F14.r5 : List Oper := [
  ⟨(some 35), (.binOp .eql 3 (.tmp 22) (.const (.int .i64 6)) 3), 4, "", #[], none⟩,
  ⟨(some 34), (.assign (.tmp 35)), 4, "", #[], none⟩]
def F14.r6 : List Oper := [
  ⟨(some 11), (.assign (.const (.slice none 0 0))), 35, "", #[], none⟩]
def F14.r7 : List Oper := [
  ⟨(some 12), (.assign (.const (.int .u32 0))), 30, "", #[], none⟩]
def F14.r8 : List Oper := [
  ⟨(some 36), (.move (.tmp 12)), 30, "", #[], none⟩,
  ⟨(some 37), (.fieldAddr 40 (.tmp 6) 3), 0, "", #[], none⟩,
  ⟨(some 38), (.load 30 (.tmp 37)), 30, "", #[⟨0, .data⟩], none⟩,
  ⟨(some 39), (.binOp .rem 30 (.tmp 38) (.const (.int .u32 70000)) 30), 30, "", #[], none⟩,
  ⟨(some 40), (.binOp .lss 30 (.tmp 36) (.tmp 39) 30), 4, "", #[], none⟩]
def F14.r10 : List Oper := [
  ⟨(some 43), (.move (.tmp 11)), 35, "", #[], none⟩,
  ⟨(some 44), (.buildSlice 35 1 #[(0, (.const (.int .u8 1)))]), 35, "", #[⟨0, .chain⟩], none⟩,
  ⟨(some 45), (.call ⟨(.builtin .append), #[(.tmp 43), (.tmp 44)], #[35, 35]⟩), 35, "", #[⟨0, .chain⟩], none⟩,
  ⟨(some 11), (.assign (.tmp 45)), 35, "", #[], none⟩]
def F14.r9 : List Oper := [
  ⟨(some 41), (.move (.tmp 12)), 30, "", #[], none⟩,
  ⟨(some 42), (.binOp .add 30 (.tmp 41) (.const (.int .u32 1)) 30), 30, "", #[], none⟩,
  ⟨(some 12), (.assign (.tmp 42)), 30, "", #[], none⟩]
def F14.r11 : List Oper := [
  ⟨(some 47), (.move (.tmp 0)), 28, "", #[], none⟩,
  ⟨(some 48), (.move (.tmp 1)), 31, "", #[], none⟩,
  ⟨(some 49), (.move (.tmp 11)), 35, "", #[], none⟩,
  ⟨(some 50), (.call ⟨(.value (.func 34)), #[(.tmp 47), (.tmp 48), (.tmp 49)], #[28, 31, 35]⟩), 75, "", #[⟨0, .chain⟩], none⟩,
  ⟨(some 46), (.move (.tmp 50)), 75, "", #[], none⟩,
  ⟨(some 51), (.extract (.tmp 46) 0), 3, "", #[], none⟩,
  ⟨(some 52), (.extract (.tmp 46) 1), 4, "", #[], none⟩,
  ⟨(some 13), (.assign (.tmp 51)), 3, "", #[], none⟩,
  ⟨(some 14), (.assign (.tmp 52)), 4, "", #[], none⟩]
def F14.r12 : List Oper := [
  ⟨(some 53), (.move (.tmp 14)), 4, "", #[], none⟩,
  ⟨(some 8), (.assign (.tmp 53)), 4, "", #[], none⟩]
def F14.r13 : List Oper := [
  ⟨(some 55), (.binOp .eql 3 (.tmp 22) (.const (.int .i64 2)) 3), 4, "", #[], none⟩,
  ⟨(some 54), (.assign (.tmp 55)), 4, "", #[], none⟩]
def F14.r14 : List Oper := [
  ⟨(some 57), (.move (.tmp 0)), 28, "", #[], none⟩,
  ⟨(some 58), (.move (.tmp 1)), 31, "", #[], none⟩,
  ⟨(some 59), (.move (.tmp 3)), 33, "", #[], none⟩,
  ⟨(some 60), (.call ⟨(.value (.func 35)), #[(.tmp 57), (.tmp 58), (.tmp 59)], #[28, 31, 33]⟩), 77, "", #[⟨0, .chain⟩], none⟩,
  ⟨(some 56), (.move (.tmp 60)), 77, "", #[], none⟩,
  ⟨(some 61), (.extract (.tmp 56) 0), 4, "", #[], none⟩,
  ⟨(some 62), (.extract (.tmp 56) 1), 4, "", #[], none⟩,
  ⟨(some 15), (.assign (.tmp 61)), 4, "", #[], none⟩,
  ⟨(some 16), (.assign (.tmp 62)), 4, "", #[], none⟩]
def F14.r15 : List Oper := [
  ⟨(some 64), (.move (.tmp 0)), 28, "", #[], none⟩,
  ⟨(some 65), (.move (.tmp 1)), 31, "", #[], none⟩,
  ⟨(some 66), (.move (.tmp 3)), 33, "", #[], none⟩,
  ⟨(some 67), (.call ⟨(.value (.func 35)), #[(.tmp 64), (.tmp 65), (.tmp 66)], #[28, 31, 33]⟩), 77, "", #[⟨0, .chain⟩], none⟩,
  ⟨(some 63), (.move (.tmp 67)), 77, "", #[], none⟩,
  ⟨(some 68), (.extract (.tmp 63) 0), 4, "", #[], none⟩,
  ⟨(some 69), (.extract (.tmp 63) 1), 4, "", #[], none⟩,
  ⟨(some 17), (.assign (.tmp 68)), 4, "", #[], none⟩,
  ⟨(some 18), (.assign (.tmp 69)), 4, "", #[], none⟩]
def F14.r16 : List Oper := [
  ⟨(some 70), (.move (.tmp 16)), 4, "", #[], none⟩,
  ⟨(some 71), (.move (.tmp 70)), 4, "", #[], none⟩,
  ⟨(some 72), (.move (.tmp 18)), 4, "", #[], (some (71, true))⟩,
  ⟨(some 73), (.pick (.tmp 71) (.tmp 72) (.const (.bool false))), 4, "", #[], none⟩,
  ⟨(some 8), (.assign (.tmp 73)), 4, "", #[], none⟩]
def F14.r17 : List Oper := [
  ⟨(some 75), (.binOp .eql 3 (.tmp 22) (.const (.int .i64 3)) 3), 4, "", #[], none⟩,
  ⟨(some 74), (.assign (.tmp 75)), 4, "", #[], none⟩]
def F14.r18 : List Oper := [
  ⟨(some 76), (.move (.tmp 0)), 28, "", #[], none⟩,
  ⟨(some 77), (.move (.tmp 1)), 31, "", #[], none⟩,
  ⟨(some 78), (.call ⟨(.value (.func 16)), #[(.tmp 76), (.tmp 77)], #[28, 31]⟩), 4, "", #[⟨0, .chain⟩], none⟩,
  ⟨(some 8), (.assign (.tmp 78)), 4, "", #[], none⟩]
def F14.r19 : List Oper := [
  ⟨(some 80), (.binOp .eql 3 (.tmp 22) (.const (.int .i64 4)) 3), 4, "", #[], none⟩,
  ⟨(some 79), (.assign (.tmp 80)), 4, "", #[], none⟩]
def F14.r20 : List Oper := [
  ⟨(some 81), (.move (.tmp 0)), 28, "", #[], none⟩,
  ⟨(some 82), (.fieldAddr 40 (.tmp 6) 3), 0, "", #[], none⟩,
  ⟨(some 83), (.load 30 (.tmp 82)), 30, "", #[⟨0, .data⟩], none⟩,
  ⟨(some 84), (.call ⟨(.value (.func 22)), #[(.tmp 81), (.tmp 83)], #[28, 30]⟩), 51, "", #[⟨0, .chain⟩], none⟩,
  ⟨(some 19), (.assign (.tmp 84)), 51, "", #[], none⟩]
def F14.r21 : List Oper := [
  ⟨(some 85), (.move (.tmp 1)), 31, "", #[], none⟩,
  ⟨(some 86), (.fieldAddr 40 (.tmp 6) 3), 0, "", #[], none⟩,
  ⟨(some 87), (.load 30 (.tmp 86)), 30, "", #[⟨0, .data⟩], none⟩,
  ⟨(some 88), (.call ⟨(.value (.func 36)), #[(.tmp 85), (.tmp 87)], #[31, 30]⟩), 51, "", #[⟨0, .chain⟩], none⟩,
  ⟨(some 20), (.assign (.tmp 88)), 51, "", #[], none⟩]
def F14.r22 : List Oper := [
  ⟨(some 89), (.move (.tmp 19)), 51, "", #[], none⟩,
  ⟨(some 90), (.move (.tmp 20)), 51, "", #[], none⟩,
  ⟨(some 91), (.binOp .eql 51 (.tmp 89) (.tmp 90) 51), 4, "", #[], none⟩,
  ⟨(some 8), (.assign (.tmp 91)), 4, "", #[], none⟩]
def F14.r23 : List Oper := [
  ⟨(some 93), (.binOp .eql 3 (.tmp 22) (.const (.int .i64 5)) 3), 4, "", #[], none⟩,
  ⟨(some 92), (.assign (.tmp 93)), 4, "", #[], none⟩]
def F14.r24 : List Oper := [
  ⟨(some 94), (.move (.tmp 0)), 28, "", #[], none⟩,
  ⟨(some 95), (.move (.tmp 1)), 31, "", #[], none⟩,
  ⟨(some 96), (.fieldAddr 40 (.tmp 6) 2), 0, "", #[], none⟩,
  ⟨(some 97), (.load 35 (.tmp 96)), 35, "", #[⟨0, .data⟩], none⟩,
  ⟨(some 98), (.move (.tmp 3)), 33, "", #[], none⟩,
  ⟨(some 99), (.call ⟨(.value (.func 37)), #[(.tmp 94), (.tmp 95), (.tmp 97), (.tmp 98)], #[28, 31, 35, 33]⟩), 4, "", #[⟨0, .chain⟩], none⟩,
  ⟨(some 8), (.assign (.tmp 99)), 4, "", #[], none⟩]
def F14.r25 : List Oper := [
  ⟨(some 8), (.assign (.const (.bool true))), 4, "", #[], none⟩]
def F14.t9 : Cd := (.region 9 F14.r9.toArray false)
theorem F14.t9_eq {P : Program} {Q : Post} {e : FA} {w : World} {θ : Tag (F14.t9, Q, e, w)} : cwE P F14.t9 Q e w θ = cwE P (.region 9 F14.r9.toArray false) Q e w := rfl
def F14.t10 : Cd := (.seq (.block 2 (.region 10 F14.r10.toArray false)) F14.t9)
theorem F14.t10_eq {P : Program} {Q : Post} {e : FA} {w : World} {θ : Tag (F14.t10, Q, e, w)} : cwE P F14.t10 Q e w θ = cwE P (.seq (.block 2 (.region 10 F14.r10.toArray false)) F14.t9) Q e w := rfl
def F14.t11 : Cd := (.seq (.region 11 F14.r11.toArray false) (.seq (.region 12 F14.r12.toArray false) .ret))
theorem F14.t11_eq {P : Program} {Q : Post} {e : FA} {w : World} {θ : Tag (F14.t11, Q, e, w)} : cwE P F14.t11 Q e w θ = cwE P (.seq (.region 11 F14.r11.toArray false) (.seq (.region 12 F14.r12.toArray false) .ret)) Q e w := rfl
def F14.t25 : Cd := (.seq (.region 25 F14.r25.toArray false) .ret)
theorem F14.t25_eq {P : Program} {Q : Post} {e : FA} {w : World} {θ : Tag (F14.t25, Q, e, w)} : cwE P F14.t25 Q e w θ = cwE P (.seq (.region 25 F14.r25.toArray false) .ret) Q e w := rfl
def F14.code : Cd := (.seq (.region 0 F14.r0.toArray false) (.seq (.seq (.region 1 F14.r1.toArray false) (.block 0 (.seq (.region 2 F14.r2.toArray false) (.cond (.tmp 23) (.seq (.region 3 F14.r3.toArray false) (.seq (.region 4 F14.r4.toArray false) .ret)) (.seq (.region 5 F14.r5.toArray false) (.cond (.tmp 34) (.seq (.region 6 F14.r6.toArray false) (.seq (.seq (.region 7 F14.r7.toArray false) (.block 1 (.loop (.seq (.seq (.region 8 F14.r8.toArray false) (.cond (.tmp 40) .skip (.exit 1))) F14.t10)))) F14.t11)) (.seq (.region 13 F14.r13.toArray false) (.cond (.tmp 54) (.seq (.region 14 F14.r14.toArray false) (.seq (.region 15 F14.r15.toArray false) (.seq (.region 16 F14.r16.toArray false) .ret))) (.seq (.region 17 F14.r17.toArray false) (.cond (.tmp 74) (.seq (.region 18 F14.r18.toArray false) .ret) (.seq (.region 19 F14.r19.toArray false) (.cond (.tmp 79) (.seq (.region 20 F14.r20.toArray false) (.seq (.region 21 F14.r21.toArray false) (.seq (.region 22 F14.r22.toArray false) .ret))) (.seq (.region 23 F14.r23.toArray false) (.cond (.tmp 92) (.seq (.region 24 F14.r24.toArray false) .ret) .skip)))))))))))))) F14.t25))
theorem F14.calls {args : Array Value} {w : World} {R : Ending → World → Prop} (hn : args.size ≤ 100) (h : cwE Try.prog F14.code (fnP Try.prog #[(.tmp 8)] R) (entry args) w) : Calls Try.prog 14 args w R :=
  calls_of_cwE (types := Try.prog.types) follows Try.func14 F14.code rfl (by kernel_rfl) hn h

def F15.r0 : List Oper := [
  ⟨(some 2), (.assign (.const (.bool false))), 4, "", #[], none⟩]
def F15.r1 : List Oper := [
  ⟨(some 3), (.assign (.const (.bool true))), 4, "", #[], none⟩]
def F15.r2 : List Oper := [
  ⟨(some 16), (.move (.tmp 0)), 33, "", #[], none⟩,
  ⟨(some 17), (.nilCheck (.tmp 16)), 0, "", #[], none⟩,
  ⟨(some 18), (.fieldAddr 37 (.tmp 17) 0), 0, "", #[], none⟩,
  ⟨(some 19), (.load 34 (.tmp 18)), 34, "", #[⟨0, .data⟩], none⟩,
  ⟨(some 20), (.call ⟨(.builtin .len), #[(.tmp 19)], #[34]⟩), 3, "", #[], none⟩,
  ⟨(some 4), (.assign (.tmp 20)), 3, "", #[], none⟩]
def F15.r3 : List Oper := [
  ⟨(some 5), (.assign (.const (.int .i64 0))), 3, "", #[], none⟩]
def F15.r4 : List Oper := [
  ⟨(some 21), (.move (.tmp 5)), 3, "", #[], none⟩,
  ⟨(some 22), (.move (.tmp 0)), 33, "", #[], none⟩,
  ⟨(some 23), (.nilCheck (.tmp 22)), 0, "", #[], none⟩,
  ⟨(some 24), (.fieldAddr 37 (.tmp 23) 2), 0, "", #[], none⟩,
  ⟨(some 25), (.load 34 (.tmp 24)), 34, "", #[⟨0, .data⟩], none⟩,
  ⟨(some 26), (.call ⟨(.builtin .len), #[(.tmp 25)], #[34]⟩), 3, "", #[], none⟩,
  ⟨(some 27), (.binOp .lss 3 (.tmp 21) (.tmp 26) 3), 4, "", #[], none⟩]
def F15.r6 : List Oper := [
  ⟨(some 30), (.move (.tmp 0)), 33, "", #[], none⟩,
  ⟨(some 31), (.nilCheck (.tmp 30)), 0, "", #[], none⟩,
  ⟨(some 32), (.fieldAddr 37 (.tmp 31) 2), 0, "", #[], none⟩,
  ⟨(some 34), (.move (.tmp 5)), 3, "", #[], none⟩,
  ⟨(some 37), (.move (.tmp 0)), 33, "", #[], none⟩,
  ⟨(some 38), (.nilCheck (.tmp 37)), 0, "", #[], none⟩,
  ⟨(some 39), (.fieldAddr 37 (.tmp 38) 3), 0, "", #[], none⟩,
  ⟨(some 41), (.move (.tmp 5)), 3, "", #[], none⟩,
  ⟨(some 33), (.load 34 (.tmp 32)), 34, "", #[⟨16384, .data⟩], none⟩,
  ⟨(some 35), (.indexAddr 34 (.tmp 33) (.tmp 34)), 0, "", #[], none⟩,
  ⟨(some 36), (.load 35 (.tmp 35)), 35, "", #[⟨16384, .data⟩], none⟩,
  ⟨(some 40), (.load 34 (.tmp 39)), 34, "", #[⟨16384, .data⟩], none⟩,
  ⟨(some 42), (.indexAddr 34 (.tmp 40) (.tmp 41)), 0, "", #[], none⟩,
  ⟨(some 43), (.load 35 (.tmp 42)), 35, "", #[⟨16384, .data⟩], none⟩,
  ⟨(some 44), (.call ⟨(.value (.func 31)), #[(.tmp 36), (.tmp 43)], #[35, 35]⟩), 4, "", #[⟨14, .chain⟩], none⟩,
  ⟨(some 6), (.assign (.tmp 44)), 4, "", #[], none⟩]
def F15.r7 : List Oper := [
  ⟨(some 45), (.move (.tmp 3)), 4, "", #[], none⟩,
  ⟨(some 46), (.move (.tmp 45)), 4, "", #[], none⟩,
  ⟨(some 47), (.move (.tmp 6)), 4, "", #[], (some (46, true))⟩,
  ⟨(some 48), (.pick (.tmp 46) (.tmp 47) (.const (.bool false))), 4, "", #[], none⟩,
  ⟨(some 3), (.assign (.tmp 48)), 4, "", #[], none⟩]
def F15.r5 : List Oper := [
  ⟨(some 28), (.move (.tmp 5)), 3, "", #[], none⟩,
  ⟨(some 29), (.binOp .add 3 (.tmp 28) (.const (.int .i64 1)) 3), 3, "", #[], none⟩,
  ⟨(some 5), (.assign (.tmp 29)), 3, "", #[], none⟩]
def F15.r8 : List Oper := [
  ⟨(some 7), (.assign (.const (.int .i64 0))), 3, "", #[], none⟩]
def F15.r9 : List Oper := [
  ⟨(some 49), (.move (.tmp 7)), 3, "", #[], none⟩,
  ⟨(some 50), (.move (.tmp 0)), 33, "", #[], none⟩,
  ⟨(some 51), (.nilCheck (.tmp 50)), 0, "", #[], none⟩,
  ⟨(some 52), (.fieldAddr 37 (.tmp 51) 2), 0, "", #[], none⟩,
  ⟨(some 53), (.load 34 (.tmp 52)), 34, "", #[⟨0, .data⟩], none⟩,
  ⟨(some 54), (.call ⟨(.builtin .len), #[(.tmp 53)], #[34]⟩), 3, "", #[], none⟩,
  ⟨(some 55), (.binOp .lss 3 (.tmp 49) (.tmp 54) 3), 4, "", #[], none⟩]
def F15.r11 : List Oper := [
  ⟨(some 58), (.move (.tmp 0)), 33, "", #[], none⟩,
  ⟨(some 59), (.nilCheck (.tmp 58)), 0, "", #[], none⟩,
  ⟨(some 60), (.fieldAddr 37 (.tmp 59) 0), 0, "", #[], none⟩,
  ⟨(some 61), (.load 34 (.tmp 60)), 34, "", #[⟨0, .data⟩], none⟩,
  ⟨(some 62), (.call ⟨(.builtin .len), #[(.tmp 61)], #[34]⟩), 3, "", #[], none⟩,
  ⟨(some 63), (.binOp .rem 3 (.tmp 62) (.const (.int .i64 251)) 3), 3, "", #[], none⟩,
  ⟨(some 64), (.binOp .add 3 (.tmp 63) (.const (.int .i64 1)) 3), 3, "", #[], none⟩,
  ⟨(some 65), (.convert 3 5 (.tmp 64)), 5, "", #[], none⟩,
  ⟨(some 8), (.assign (.tmp 65)), 5, "", #[], none⟩]
def F15.r12 : List Oper := [
  ⟨(some 9), (.assign (.const (.int .i64 0))), 3, "", #[], none⟩]
def F15.r13 : List Oper := [
  ⟨(some 66), (.move (.tmp 9)), 3, "", #[], none⟩,
  ⟨(some 67), (.move (.tmp 0)), 33, "", #[], none⟩,
  ⟨(some 68), (.nilCheck (.tmp 67)), 0, "", #[], none⟩,
  ⟨(some 69), (.fieldAddr 37 (.tmp 68) 2), 0, "", #[], none⟩,
  ⟨(some 70), (.load 34 (.tmp 69)), 34, "", #[⟨0, .data⟩], none⟩,
  ⟨(some 71), (.move (.tmp 7)), 3, "", #[], none⟩,
  ⟨(some 72), (.indexAddr 34 (.tmp 70) (.tmp 71)), 0, "", #[], none⟩,
  ⟨(some 73), (.load 35 (.tmp 72)), 35, "", #[⟨0, .data⟩], none⟩,
  ⟨(some 74), (.call ⟨(.builtin .len), #[(.tmp 73)], #[35]⟩), 3, "", #[], none⟩,
  ⟨(some 75), (.binOp .lss 3 (.tmp 66) (.tmp 74) 3), 4, "", #[], none⟩]
def F15.r15 : List Oper := [
  ⟨(some 78), (.move (.tmp 0)), 33, "", #[], none⟩,
  ⟨(some 79), (.nilCheck (.tmp 78)), 0, "", #[], none⟩,
  ⟨(some 80), (.fieldAddr 37 (.tmp 79) 2), 0, "", #[], none⟩,
  ⟨(some 81), (.load 34 (.tmp 80)), 34, "", #[⟨0, .data⟩], none⟩,
  ⟨(some 82), (.move (.tmp 7)), 3, "", #[], none⟩,
  ⟨(some 83), (.indexAddr 34 (.tmp 81) (.tmp 82)), 0, "", #[], none⟩,
  ⟨(some 84), (.load 35 (.tmp 83)), 35, "", #[⟨0, .data⟩], none⟩,
  ⟨(some 85), (.move (.tmp 9)), 3, "", #[], none⟩,
  ⟨(some 86), (.move (.tmp 8)), 5, "", #[], none⟩,
  ⟨(some 87), (.indexAddr 35 (.tmp 84) (.tmp 85)), 0, "", #[], none⟩,
  ⟨none, (.store 5 (.tmp 87) (.tmp 86)), 0, "", #[⟨0, .chain⟩], none⟩]
def F15.r14 : List Oper := [
  ⟨(some 76), (.move (.tmp 9)), 3, "", #[], none⟩,
  ⟨(some 77), (.binOp .add 3 (.tmp 76) (.const (.int .i64 1)) 3), 3, "", #[], none⟩,
  ⟨(some 9), (.assign (.tmp 77)), 3, "", #[], none⟩]
def F15.r16 : List Oper := [
  ⟨(some 88), (.move (.tmp 0)), 33, "", #[], none⟩,
  ⟨(some 89), (.move (.tmp 0)), 33, "", #[], none⟩,
  ⟨(some 90), (.nilCheck (.tmp 89)), 0, "", #[], none⟩,
  ⟨(some 91), (.fieldAddr 37 (.tmp 90) 0), 0, "", #[], none⟩,
  ⟨(some 93), (.move (.tmp 0)), 33, "", #[], none⟩,
  ⟨(some 94), (.nilCheck (.tmp 93)), 0, "", #[], none⟩,
  ⟨(some 95), (.fieldAddr 37 (.tmp 94) 2), 0, "", #[], none⟩,
  ⟨(some 97), (.move (.tmp 7)), 3, "", #[], none⟩,
  ⟨(some 92), (.load 34 (.tmp 91)), 34, "", #[⟨73728, .data⟩], none⟩,
  ⟨(some 96), (.load 34 (.tmp 95)), 34, "", #[⟨77824, .data⟩], none⟩,
  ⟨(some 98), (.indexAddr 34 (.tmp 96) (.tmp 97)), 0, "", #[], none⟩,
  ⟨(some 99), (.load 35 (.tmp 98)), 35, "", #[⟨77824, .data⟩], none⟩,
  ⟨(some 100), (.buildSlice 34 1 #[(0, (.tmp 99))]), 34, "", #[⟨12, .chain⟩], none⟩,
  ⟨(some 101), (.call ⟨(.builtin .append), #[(.tmp 92), (.tmp 100)], #[34, 34]⟩), 34, "", #[⟨13, .chain⟩], none⟩,
  ⟨(some 102), (.nilCheck (.tmp 88)), 0, "", #[], none⟩,
  ⟨(some 103), (.fieldAddr 37 (.tmp 102) 0), 0, "", #[], none⟩,
  ⟨none, (.store 34 (.tmp 103) (.tmp 101)), 0, "", #[⟨16, .chain⟩], none⟩]
def F15.r17 : List Oper := [
  ⟨(some 104), (.move (.tmp 0)), 33, "", #[], none⟩,
  ⟨(some 105), (.move (.tmp 0)), 33, "", #[], none⟩,
  ⟨(some 106), (.nilCheck (.tmp 105)), 0, "", #[], none⟩,
  ⟨(some 107), (.fieldAddr 37 (.tmp 106) 1), 0, "", #[], none⟩,
  ⟨(some 108), (.load 35 (.tmp 107)), 35, "", #[⟨0, .data⟩], none⟩,
  ⟨(some 109), (.move (.tmp 8)), 5, "", #[], none⟩,
  ⟨(some 110), (.buildSlice 35 1 #[(0, (.tmp 109))]), 35, "", #[⟨0, .chain⟩], none⟩,
  ⟨(some 111), (.call ⟨(.builtin .append), #[(.tmp 108), (.tmp 110)], #[35, 35]⟩), 35, "", #[⟨0, .chain⟩], none⟩,
  ⟨(some 112), (.nilCheck (.tmp 104)), 0, "", #[], none⟩,
  ⟨(some 113), (.fieldAddr 37 (.tmp 112) 1), 0, "", #[], none⟩,
  ⟨none, (.store 35 (.tmp 113) (.tmp 111)), 0, "", #[⟨0, .chain⟩], none⟩]
def F15.r10 : List Oper := [
  ⟨(some 56), (.move (.tmp 7)), 3, "", #[], none⟩,
  ⟨(some 57), (.binOp .add 3 (.tmp 56) (.const (.int .i64 1)) 3), 3, "", #[], none⟩,
  ⟨(some 7), (.assign (.tmp 57)), 3, "", #[], none⟩]
def F15.r18 : List Oper := [
  ⟨(some 114), (.move (.tmp 0)), 33, "", #[], none⟩,
  ⟨(some 115), (.nilCheck (.tmp 114)), 0, "", #[], none⟩,
  ⟨(some 116), (.fieldAddr 37 (.tmp 115) 0), 0, "", #[], none⟩,
  ⟨(some 117), (.load 34 (.tmp 116)), 34, "", #[⟨0, .data⟩], none⟩,
  ⟨(some 118), (.call ⟨(.builtin .len), #[(.tmp 117)], #[34]⟩), 3, "", #[], none⟩,
  ⟨(some 10), (.assign (.tmp 118)), 3, "", #[], none⟩]
def F15.r19 : List Oper := [
  ⟨(some 119), (.move (.tmp 4)), 3, "", #[], none⟩,
  ⟨(some 11), (.assign (.tmp 119)), 3, "", #[], none⟩]
def F15.r20 : List Oper := [
  ⟨(some 120), (.move (.tmp 11)), 3, "", #[], none⟩,
  ⟨(some 121), (.move (.tmp 10)), 3, "", #[], none⟩,
  ⟨(some 122), (.binOp .lss 3 (.tmp 120) (.tmp 121) 3), 4, "", #[], none⟩]
def F15.r22 : List Oper := [
  ⟨(some 125), (.move (.tmp 0)), 33, "", #[], none⟩,
  ⟨(some 126), (.nilCheck (.tmp 125)), 0, "", #[], none⟩,
  ⟨(some 127), (.fieldAddr 37 (.tmp 126) 0), 0, "", #[], none⟩,
  ⟨(some 128), (.load 34 (.tmp 127)), 34, "", #[⟨0, .data⟩], none⟩,
  ⟨(some 129), (.move (.tmp 11)), 3, "", #[], none⟩,
  ⟨(some 130), (.indexAddr 34 (.tmp 128) (.tmp 129)), 0, "", #[], none⟩,
  ⟨(some 131), (.load 35 (.tmp 130)), 35, "", #[⟨0, .data⟩], none⟩,
  ⟨(some 12), (.assign (.tmp 131)), 35, "", #[], none⟩]
def F15.r23 : List Oper := [
  ⟨(some 13), (.assign (.const (.int .i64 0))), 3, "", #[], none⟩]
def F15.r24 : List Oper := [
  ⟨(some 132), (.move (.tmp 13)), 3, "", #[], none⟩,
  ⟨(some 133), (.binOp .lss 3 (.tmp 132) (.const (.int .i64 70)) 3), 4, "", #[], none⟩]
def F15.r26 : List Oper := [
  ⟨(some 136), (.move (.tmp 12)), 35, "", #[], none⟩,
  ⟨(some 137), (.move (.tmp 0)), 33, "", #[], none⟩,
  ⟨(some 138), (.nilCheck (.tmp 137)), 0, "", #[], none⟩,
  ⟨(some 139), (.fieldAddr 37 (.tmp 138) 1), 0, "", #[], none⟩,
  ⟨(some 140), (.load 35 (.tmp 139)), 35, "", #[⟨0, .data⟩], none⟩,
  ⟨(some 141), (.move (.tmp 11)), 3, "", #[], none⟩,
  ⟨(some 142), (.indexAddr 35 (.tmp 140) (.tmp 141)), 0, "", #[], none⟩,
  ⟨(some 143), (.load 5 (.tmp 142)), 5, "", #[⟨0, .data⟩], none⟩,
  ⟨(some 144), (.buildSlice 35 1 #[(0, (.tmp 143))]), 35, "", #[⟨0, .chain⟩], none⟩,
  ⟨(some 145), (.call ⟨(.builtin .append), #[(.tmp 136), (.tmp 144)], #[35, 35]⟩), 35, "", #[⟨0, .chain⟩], none⟩,
  ⟨(some 12), (.assign (.tmp 145)), 35, "", #[], none⟩]
def F15.r27 : List Oper := [
  ⟨(some 146), (.move (.tmp 13)), 3, "", #[], none⟩,
  ⟨(some 147), (.binOp .eql 3 (.tmp 146) (.const (.int .i64 0)) 3), 4, "", #[], none⟩,
  ⟨(some 148), (.move (.tmp 147)), 4, "", #[], none⟩,
  ⟨(some 149), (.move (.tmp 13)), 3, "", #[], (some (148, false))⟩,
  ⟨(some 150), (.binOp .eql 3 (.tmp 149) (.const (.int .i64 3)) 3), 4, "", #[], (some (148, false))⟩,
  ⟨(some 151), (.pick (.tmp 148) (.const (.bool true)) (.tmp 150)), 4, "", #[], none⟩,
  ⟨(some 152), (.move (.tmp 151)), 4, "", #[], none⟩,
  ⟨(some 153), (.move (.tmp 13)), 3, "", #[], (some (152, false))⟩,
  ⟨(some 154), (.binOp .eql 3 (.tmp 153) (.const (.int .i64 15)) 3), 4, "", #[], (some (152, false))⟩,
  ⟨(some 155), (.pick (.tmp 152) (.const (.bool true)) (.tmp 154)), 4, "", #[], none⟩,
  ⟨(some 156), (.move (.tmp 155)), 4, "", #[], none⟩,
  ⟨(some 157), (.move (.tmp 13)), 3, "", #[], (some (156, false))⟩,
  ⟨(some 158), (.binOp .eql 3 (.tmp 157) (.const (.int .i64 69)) 3), 4, "", #[], (some (156, false))⟩,
  ⟨(some 159), (.pick (.tmp 156) (.const (.bool true)) (.tmp 158)), 4, "", #[], none⟩]
def F15.r28 : List Oper := [
  ⟨(some 160), (.move (.tmp 0)), 33, "", #[], none⟩,
  ⟨(some 161), (.move (.tmp 0)), 33, "", #[], none⟩,
  ⟨(some 162), (.nilCheck (.tmp 161)), 0, "", #[], none⟩,
  ⟨(some 163), (.fieldAddr 37 (.tmp 162) 0), 0, "", #[], none⟩,
  ⟨(some 164), (.load 34 (.tmp 163)), 34, "", #[⟨0, .data⟩], none⟩,
  ⟨(some 165), (.move (.tmp 12)), 35, "", #[], none⟩,
  ⟨(some 166), (.buildSlice 34 1 #[(0, (.tmp 165))]), 34, "", #[⟨0, .chain⟩], none⟩,
  ⟨(some 167), (.call ⟨(.builtin .append), #[(.tmp 164), (.tmp 166)], #[34, 34]⟩), 34, "", #[⟨0, .chain⟩], none⟩,
  ⟨(some 168), (.nilCheck (.tmp 160)), 0, "", #[], none⟩,
  ⟨(some 169), (.fieldAddr 37 (.tmp 168) 0), 0, "", #[], none⟩,
  ⟨none, (.store 34 (.tmp 169) (.tmp 167)), 0, "", #[⟨0, .chain⟩], none⟩]
def F15.r29 : List Oper := [
  ⟨(some 170), (.move (.tmp 0)), 33, "", #[], none⟩,
  ⟨(some 171), (.move (.tmp 0)), 33, "", #[], none⟩,
  ⟨(some 172), (.nilCheck (.tmp 171)), 0, "", #[], none⟩,
  ⟨(some 173), (.fieldAddr 37 (.tmp 172) 1), 0, "", #[], none⟩,
  ⟨(some 175), (.move (.tmp 0)), 33, "", #[], none⟩,
  ⟨(some 176), (.nilCheck (.tmp 175)), 0, "", #[], none⟩,
  ⟨(some 177), (.fieldAddr 37 (.tmp 176) 1), 0, "", #[], none⟩,
  ⟨(some 179), (.move (.tmp 11)), 3, "", #[], none⟩,
  ⟨(some 174), (.load 35 (.tmp 173)), 35, "", #[⟨73728, .data⟩], none⟩,
  ⟨(some 178), (.load 35 (.tmp 177)), 35, "", #[⟨77824, .data⟩], none⟩,
  ⟨(some 180), (.indexAddr 35 (.tmp 178) (.tmp 179)), 0, "", #[], none⟩,
  ⟨(some 181), (.load 5 (.tmp 180)), 5, "", #[⟨77824, .data⟩], none⟩,
  ⟨(some 182), (.buildSlice 35 1 #[(0, (.tmp 181))]), 35, "", #[⟨12, .chain⟩], none⟩,
  ⟨(some 183), (.call ⟨(.builtin .append), #[(.tmp 174), (.tmp 182)], #[35, 35]⟩), 35, "", #[⟨13, .chain⟩], none⟩,
  ⟨(some 184), (.nilCheck (.tmp 170)), 0, "", #[], none⟩,
  ⟨(some 185), (.fieldAddr 37 (.tmp 184) 1), 0, "", #[], none⟩,
  ⟨none, (.store 35 (.tmp 185) (.tmp 183)), 0, "", #[⟨16, .chain⟩], none⟩]
def F15.r25 : List Oper := [
  ⟨(some 134), (.move (.tmp 13)), 3, "", #[], none⟩,
  ⟨(some 135), (.binOp .add 3 (.tmp 134) (.const (.int .i64 1)) 3), 3, "", #[], none⟩,
  ⟨(some 13), (.assign (.tmp 135)), 3, "", #[], none⟩]
def F15.r21 : List Oper := [
  ⟨(some 123), (.move (.tmp 11)), 3, "", #[], none⟩,
  ⟨(some 124), (.binOp .add 3 (.tmp 123) (.const (.int .i64 1)) 3), 3, "", #[], none⟩,
  ⟨(some 11), (.assign (.tmp 124)), 3, "", #[], none⟩]
def F15.r30 : List Oper := [
  ⟨(some 186), (.move (.tmp 0)), 33, "", #[], none⟩,
  ⟨(some 187), (.move (.tmp 0)), 33, "", #[], none⟩,
  ⟨(some 188), (.nilCheck (.tmp 187)), 0, "", #[], none⟩,
  ⟨(some 189), (.fieldAddr 37 (.tmp 188) 4), 0, "", #[], none⟩,
  ⟨(some 190), (.load 34 (.tmp 189)), 34, "", #[⟨0, .data⟩], none⟩,
  ⟨(some 191), (.nilCheck (.tmp 186)), 0, "", #[], none⟩,
  ⟨(some 192), (.fieldAddr 37 (.tmp 191) 2), 0, "", #[], none⟩,
  ⟨none, (.store 34 (.tmp 192) (.tmp 190)), 0, "", #[⟨0, .chain⟩], none⟩]
def F15.r31 : List Oper := [
  ⟨(some 193), (.move (.tmp 0)), 33, "", #[], none⟩,
  ⟨(some 194), (.move (.tmp 0)), 33, "", #[], none⟩,
  ⟨(some 195), (.nilCheck (.tmp 194)), 0, "", #[], none⟩,
  ⟨(some 196), (.fieldAddr 37 (.tmp 195) 5), 0, "", #[], none⟩,
  ⟨(some 197), (.load 34 (.tmp 196)), 34, "", #[⟨0, .data⟩], none⟩,
  ⟨(some 198), (.nilCheck (.tmp 193)), 0, "", #[], none⟩,
  ⟨(some 199), (.fieldAddr 37 (.tmp 198) 3), 0, "", #[], none⟩,
  ⟨none, (.store 34 (.tmp 199) (.tmp 197)), 0, "", #[⟨0, .chain⟩], none⟩]
def F15.r32 : List Oper := [
  ⟨(some 200), (.move (.tmp 0)), 33, "", #[], none⟩,
  ⟨(some 201), (.nilCheck (.tmp 200)), 0, "", #[], none⟩,
  ⟨(some 202), (.fieldAddr 37 (.tmp 201) 4), 0, "", #[], none⟩,
  ⟨none, (.store 34 (.tmp 202) (.const (.slice none 0 0))), 0, "", #[⟨0, .chain⟩], none⟩]
def F15.r33 : List Oper := [
  ⟨(some 203), (.move (.tmp 0)), 33, "", #[], none⟩,
  ⟨(some 204), (.nilCheck (.tmp 203)), 0, "", #[], none⟩,
  ⟨(some 205), (.fieldAddr 37 (.tmp 204) 5), 0, "", #[], none⟩,
  ⟨none, (.store 34 (.tmp 205) (.const (.slice none 0 0))), 0, "", #[⟨0, .chain⟩], none⟩]
def F15.r34 : List Oper := [
  ⟨(some 14), (.assign (.const (.int .i64 0))), 3, "", #[], none⟩]
def F15.r35 : List Oper := [
  ⟨(some 206), (.move (.tmp 14)), 3, "", #[], none⟩,
  ⟨(some 207), (.move (.tmp 0)), 33, "", #[], none⟩,
  ⟨(some 208), (.nilCheck (.tmp 207)), 0, "", #[], none⟩,
  ⟨(some 209), (.fieldAddr 37 (.tmp 208) 0), 0, "", #[], none⟩,
  ⟨(some 210), (.load 34 (.tmp 209)), 34, "", #[⟨0, .data⟩], none⟩,
  ⟨(some 211), (.call ⟨(.builtin .len), #[(.tmp 210)], #[34]⟩), 3, "", #[], none⟩,
  ⟨(some 212), (.binOp .lss 3 (.tmp 206) (.tmp 211) 3), 4, "", #[], none⟩]
def F15.r37 : List Oper := [
  ⟨(some 15), (.assign (.const (.int .i64 0))), 3, "", #[], none⟩]
def F15.r38 : List Oper := [
  ⟨(some 215), (.move (.tmp 15)), 3, "", #[], none⟩,
  ⟨(some 216), (.move (.tmp 0)), 33, "", #[], none⟩,
  ⟨(some 217), (.nilCheck (.tmp 216)), 0, "", #[], none⟩,
  ⟨(some 218), (.fieldAddr 37 (.tmp 217) 0), 0, "", #[], none⟩,
  ⟨(some 219), (.load 34 (.tmp 218)), 34, "", #[⟨0, .data⟩], none⟩,
  ⟨(some 220), (.move (.tmp 14)), 3, "", #[], none⟩,
  ⟨(some 221), (.indexAddr 34 (.tmp 219) (.tmp 220)), 0, "", #[], none⟩,
  ⟨(some 222), (.load 35 (.tmp 221)), 35, "", #[⟨0, .data⟩], none⟩,
  ⟨(some 223), (.call ⟨(.builtin .len), #[(.tmp 222)], #[35]⟩), 3, "", #[], none⟩,
  ⟨(some 224), (.binOp .lss 3 (.tmp 215) (.tmp 223) 3), 4, "", #[], none⟩]
def F15.r40 : List Oper := [
  ⟨(some 227), (.move (.tmp 0)), 33, "", #[], none⟩,
  ⟨(some 228), (.nilCheck (.tmp 227)), 0, "", #[], none⟩,
  ⟨(some 229), (.fieldAddr 37 (.tmp 228) 0), 0, "", #[], none⟩,
  ⟨(some 231), (.move (.tmp 14)), 3, "", #[], none⟩,
  ⟨(some 234), (.move (.tmp 15)), 3, "", #[], none⟩,
  ⟨(some 237), (.move (.tmp 0)), 33, "", #[], none⟩,
  ⟨(some 238), (.nilCheck (.tmp 237)), 0, "", #[], none⟩,
  ⟨(some 239), (.fieldAddr 37 (.tmp 238) 1), 0, "", #[], none⟩,
  ⟨(some 241), (.move (.tmp 14)), 3, "", #[], none⟩,
  ⟨(some 230), (.load 34 (.tmp 229)), 34, "", #[⟨0, .data⟩], none⟩,
  ⟨(some 232), (.indexAddr 34 (.tmp 230) (.tmp 231)), 0, "", #[], none⟩,
  ⟨(some 233), (.load 35 (.tmp 232)), 35, "", #[⟨0, .data⟩], none⟩,
  ⟨(some 235), (.indexAddr 35 (.tmp 233) (.tmp 234)), 0, "", #[], none⟩,
  ⟨(some 236), (.load 5 (.tmp 235)), 5, "", #[⟨0, .data⟩], none⟩,
  ⟨(some 240), (.load 35 (.tmp 239)), 35, "", #[⟨0, .data⟩], none⟩,
  ⟨(some 242), (.indexAddr 35 (.tmp 240) (.tmp 241)), 0, "", #[], none⟩,
  ⟨(some 243), (.load 5 (.tmp 242)), 5, "", #[⟨0, .data⟩], none⟩,
  ⟨(some 244), (.binOp .neq 5 (.tmp 236) (.tmp 243) 5), 4, "", #[], none⟩]
def F15.r41 : List Oper := [
  ⟨(some 2), (.assign (.const (.bool false))), 4, "", #[], none⟩]
def F15.r39 : List Oper := [
  ⟨(some 225), (.move (.tmp 15)), 3, "", #[], none⟩,
  ⟨(some 226), (.binOp .add 3 (.tmp 225) (.const (.int .i64 1)) 3), 3, "", #[], none⟩,
  ⟨(some 15), (.assign (.tmp 226)), 3, "", #[], none⟩]
def F15.r36 : List Oper := [
  ⟨(some 213), (.move (.tmp 14)), 3, "", #[], none⟩,
  ⟨(some 214), (.binOp .add 3 (.tmp 213) (.const (.int .i64 1)) 3), 3, "", #[], none⟩,
  ⟨(some 14), (.assign (.tmp 214)), 3, "", #[], none⟩]
def F15.r42 : List Oper := [
  ⟨(some 245), (.move (.tmp 3)), 4, "", #[], none⟩,
  ⟨(some 2), (.assign (.tmp 245)), 4, "", #[], none⟩]
def F15.t5 : Cd := (.region 5 F15.r5.toArray false)
theorem F15.t5_eq {P : Program} {Q : Post} {e : FA} {w : World} {θ : Tag (F15.t5, Q, e, w)} : cwE P F15.t5 Q e w θ = cwE P (.region 5 F15.r5.toArray false) Q e w := rfl
def F15.t6 : Cd := (.seq (.block 1 (.seq (.region 6 F15.r6.toArray true) (.region 7 F15.r7.toArray false))) F15.t5)
theorem F15.t6_eq {P : Program} {Q : Post} {e : FA} {w : World} {θ : Tag (F15.t6, Q, e, w)} : cwE P F15.t6 Q e w θ = cwE P (.seq (.block 1 (.seq (.region 6 F15.r6.toArray true) (.region 7 F15.r7.toArray false))) F15.t5) Q e w := rfl
def F15.t14 : Cd := (.region 14 F15.r14.toArray false)
theorem F15.t14_eq {P : Program} {Q : Post} {e : FA} {w : World} {θ : Tag (F15.t14, Q, e, w)} : cwE P F15.t14 Q e w θ = cwE P (.region 14 F15.r14.toArray false) Q e w := rfl
def F15.t15 : Cd := (.seq (.block 5 (.region 15 F15.r15.toArray false)) F15.t14)
theorem F15.t15_eq {P : Program} {Q : Post} {e : FA} {w : World} {θ : Tag (F15.t15, Q, e, w)} : cwE P F15.t15 Q e w θ = cwE P (.seq (.block 5 (.region 15 F15.r15.toArray false)) F15.t14) Q e w := rfl
def F15.t16 : Cd := (.seq (.region 16 F15.r16.toArray true) (.region 17 F15.r17.toArray false))
theorem F15.t16_eq {P : Program} {Q : Post} {e : FA} {w : World} {θ : Tag (F15.t16, Q, e, w)} : cwE P F15.t16 Q e w θ = cwE P (.seq (.region 16 F15.r16.toArray true) (.region 17 F15.r17.toArray false)) Q e w := rfl
def F15.t10 : Cd := (.region 10 F15.r10.toArray false)
theorem F15.t10_eq {P : Program} {Q : Post} {e : FA} {w : World} {θ : Tag (F15.t10, Q, e, w)} : cwE P F15.t10 Q e w θ = cwE P (.region 10 F15.r10.toArray false) Q e w := rfl
def F15.t11 : Cd := (.seq (.block 3 (.seq (.region 11 F15.r11.toArray false) (.seq (.seq (.region 12 F15.r12.toArray false) (.block 4 (.loop (.seq (.seq (.region 13 F15.r13.toArray false) (.cond (.tmp 75) .skip (.exit 4))) F15.t15)))) F15.t16))) F15.t10)
theorem F15.t11_eq {P : Program} {Q : Post} {e : FA} {w : World} {θ : Tag (F15.t11, Q, e, w)} : cwE P F15.t11 Q e w θ = cwE P (.seq (.block 3 (.seq (.region 11 F15.r11.toArray false) (.seq (.seq (.region 12 F15.r12.toArray false) (.block 4 (.loop (.seq (.seq (.region 13 F15.r13.toArray false) (.cond (.tmp 75) .skip (.exit 4))) F15.t15)))) F15.t16))) F15.t10) Q e w := rfl
def F15.t25 : Cd := (.region 25 F15.r25.toArray false)
theorem F15.t25_eq {P : Program} {Q : Post} {e : FA} {w : World} {θ : Tag (F15.t25, Q, e, w)} : cwE P F15.t25 Q e w θ = cwE P (.region 25 F15.r25.toArray false) Q e w := rfl
def F15.t26 : Cd := (.seq (.block 9 (.seq (.region 26 F15.r26.toArray false) (.seq (.region 27 F15.r27.toArray false) (.cond (.tmp 159) (.seq (.region 28 F15.r28.toArray false) (.region 29 F15.r29.toArray true)) .skip)))) F15.t25)
theorem F15.t26_eq {P : Program} {Q : Post} {e : FA} {w : World} {θ : Tag (F15.t26, Q, e, w)} : cwE P F15.t26 Q e w θ = cwE P (.seq (.block 9 (.seq (.region 26 F15.r26.toArray false) (.seq (.region 27 F15.r27.toArray false) (.cond (.tmp 159) (.seq (.region 28 F15.r28.toArray false) (.region 29 F15.r29.toArray true)) .skip)))) F15.t25) Q e w := rfl
def F15.t21 : Cd := (.region 21 F15.r21.toArray false)
theorem F15.t21_eq {P : Program} {Q : Post} {e : FA} {w : World} {θ : Tag (F15.t21, Q, e, w)} : cwE P F15.t21 Q e w θ = cwE P (.region 21 F15.r21.toArray false) Q e w := rfl
def F15.t22 : Cd := (.seq (.block 7 (.seq (.region 22 F15.r22.toArray false) (.seq (.region 23 F15.r23.toArray false) (.block 8 (.loop (.seq (.seq (.region 24 F15.r24.toArray false) (.cond (.tmp 133) .skip (.exit 8))) F15.t26)))))) F15.t21)
theorem F15.t22_eq {P : Program} {Q : Post} {e : FA} {w : World} {θ : Tag (F15.t22, Q, e, w)} : cwE P F15.t22 Q e w θ = cwE P (.seq (.block 7 (.seq (.region 22 F15.r22.toArray false) (.seq (.region 23 F15.r23.toArray false) (.block 8 (.loop (.seq (.seq (.region 24 F15.r24.toArray false) (.cond (.tmp 133) .skip (.exit 8))) F15.t26)))))) F15.t21) Q e w := rfl
def F15.t39 : Cd := (.region 39 F15.r39.toArray false)
theorem F15.t39_eq {P : Program} {Q : Post} {e : FA} {w : World} {θ : Tag (F15.t39, Q, e, w)} : cwE P F15.t39 Q e w θ = cwE P (.region 39 F15.r39.toArray false) Q e w := rfl
def F15.t40 : Cd := (.seq (.block 13 (.seq (.region 40 F15.r40.toArray true) (.cond (.tmp 244) (.seq (.region 41 F15.r41.toArray false) .ret) .skip))) F15.t39)
theorem F15.t40_eq {P : Program} {Q : Post} {e : FA} {w : World} {θ : Tag (F15.t40, Q, e, w)} : cwE P F15.t40 Q e w θ = cwE P (.seq (.block 13 (.seq (.region 40 F15.r40.toArray true) (.cond (.tmp 244) (.seq (.region 41 F15.r41.toArray false) .ret) .skip))) F15.t39) Q e w := rfl
def F15.t36 : Cd := (.region 36 F15.r36.toArray false)
theorem F15.t36_eq {P : Program} {Q : Post} {e : FA} {w : World} {θ : Tag (F15.t36, Q, e, w)} : cwE P F15.t36 Q e w θ = cwE P (.region 36 F15.r36.toArray false) Q e w := rfl
def F15.t37 : Cd := (.seq (.block 11 (.seq (.region 37 F15.r37.toArray false) (.block 12 (.loop (.seq (.seq (.region 38 F15.r38.toArray false) (.cond (.tmp 224) .skip (.exit 12))) F15.t40))))) F15.t36)
theorem F15.t37_eq {P : Program} {Q : Post} {e : FA} {w : World} {θ : Tag (F15.t37, Q, e, w)} : cwE P F15.t37 Q e w θ = cwE P (.seq (.block 11 (.seq (.region 37 F15.r37.toArray false) (.block 12 (.loop (.seq (.seq (.region 38 F15.r38.toArray false) (.cond (.tmp 224) .skip (.exit 12))) F15.t40))))) F15.t36) Q e w := rfl
def F15.t42 : Cd := (.seq (.region 42 F15.r42.toArray false) .ret)
theorem F15.t42_eq {P : Program} {Q : Post} {e : FA} {w : World} {θ : Tag (F15.t42, Q, e, w)} : cwE P F15.t42 Q e w θ = cwE P (.seq (.region 42 F15.r42.toArray false) .ret) Q e w := rfl
def F15.t30 : Cd := (.seq (.region 30 F15.r30.toArray false) (.seq (.region 31 F15.r31.toArray false) (.seq (.region 32 F15.r32.toArray false) (.seq (.region 33 F15.r33.toArray false) (.seq (.seq (.region 34 F15.r34.toArray false) (.block 10 (.loop (.seq (.seq (.region 35 F15.r35.toArray false) (.cond (.tmp 212) .skip (.exit 10))) F15.t37)))) F15.t42)))))
theorem F15.t30_eq {P : Program} {Q : Post} {e : FA} {w : World} {θ : Tag (F15.t30, Q, e, w)} : cwE P F15.t30 Q e w θ = cwE P (.seq (.region 30 F15.r30.toArray false) (.seq (.region 31 F15.r31.toArray false) (.seq (.region 32 F15.r32.toArray false) (.seq (.region 33 F15.r33.toArray false) (.seq (.seq (.region 34 F15.r34.toArray false) (.block 10 (.loop (.seq (.seq (.region 35 F15.r35.toArray false) (.cond (.tmp 212) .skip (.exit 10))) F15.t37)))) F15.t42))))) Q e w := rfl
def F15.t18 : Cd := (.seq (.region 18 F15.r18.toArray false) (.seq (.seq (.region 19 F15.r19.toArray false) (.block 6 (.loop (.seq (.seq (.region 20 F15.r20.toArray false) (.cond (.tmp 122) .skip (.exit 6))) F15.t22)))) F15.t30))
theorem F15.t18_eq {P : Program} {Q : Post} {e : FA} {w : World} {θ : Tag (F15.t18, Q, e, w)} : cwE P F15.t18 Q e w θ = cwE P (.seq (.region 18 F15.r18.toArray false) (.seq (.seq (.region 19 F15.r19.toArray false) (.block 6 (.loop (.seq (.seq (.region 20 F15.r20.toArray false) (.cond (.tmp 122) .skip (.exit 6))) F15.t22)))) F15.t30)) Q e w := rfl
def F15.t8 : Cd := (.seq (.seq (.region 8 F15.r8.toArray false) (.block 2 (.loop (.seq (.seq (.region 9 F15.r9.toArray false) (.cond (.tmp 55) .skip (.exit 2))) F15.t11)))) F15.t18)
theorem F15.t8_eq {P : Program} {Q : Post} {e : FA} {w : World} {θ : Tag (F15.t8, Q, e, w)} : cwE P F15.t8 Q e w θ = cwE P (.seq (.seq (.region 8 F15.r8.toArray false) (.block 2 (.loop (.seq (.seq (.region 9 F15.r9.toArray false) (.cond (.tmp 55) .skip (.exit 2))) F15.t11)))) F15.t18) Q e w := rfl
def F15.code : Cd := (.seq (.region 0 F15.r0.toArray false) (.seq (.region 1 F15.r1.toArray false) (.seq (.region 2 F15.r2.toArray false) (.seq (.seq (.region 3 F15.r3.toArray false) (.block 0 (.loop (.seq (.seq (.region 4 F15.r4.toArray false) (.cond (.tmp 27) .skip (.exit 0))) F15.t6)))) F15.t8))))
theorem F15.calls {args : Array Value} {w : World} {R : Ending → World → Prop} (hn : args.size ≤ 246) (h : cwE Try.prog F15.code (fnP Try.prog #[(.tmp 2)] R) (entry args) w) : Calls Try.prog 15 args w R :=
  calls_of_cwE (types := Try.prog.types) follows Try.func15 F15.code rfl (by kernel_rfl) hn h

def F16.r0 : List Oper := [
  ⟨(some 4), (.assign (.const (.bool false))), 4, "", #[], none⟩]
def F16.r1 : List Oper := [
  ⟨(some 10), (.move (.tmp 0)), 28, "", #[], none⟩,
  ⟨(some 11), (.call ⟨(.value (.func 23)), #[(.tmp 10)], #[28]⟩), 53, "", #[⟨0, .chain⟩], none⟩,
  ⟨(some 9), (.move (.tmp 11)), 53, "", #[], none⟩,
  ⟨(some 12), (.extract (.tmp 9) 0), 51, "", #[], none⟩,
  ⟨(some 13), (.extract (.tmp 9) 1), 3, "", #[], none⟩,
  ⟨(some 5), (.assign (.tmp 12)), 51, "", #[], none⟩,
  ⟨(some 6), (.assign (.tmp 13)), 3, "", #[], none⟩]
def F16.r2 : List Oper := [
  ⟨(some 15), (.move (.tmp 1)), 31, "", #[], none⟩,
  ⟨(some 16), (.call ⟨(.value (.func 38)), #[(.tmp 15)], #[31]⟩), 53, "", #[⟨0, .chain⟩], none⟩,
  ⟨(some 14), (.move (.tmp 16)), 53, "", #[], none⟩,
  ⟨(some 17), (.extract (.tmp 14) 0), 51, "", #[], none⟩,
  ⟨(some 18), (.extract (.tmp 14) 1), 3, "", #[], none⟩,
  ⟨(some 7), (.assign (.tmp 17)), 51, "", #[], none⟩,
  ⟨(some 8), (.assign (.tmp 18)), 3, "", #[], none⟩]
def F16.r3 : List Oper := [
  ⟨(some 19), (.move (.tmp 0)), 28, "", #[], none⟩,
  ⟨(some 20), (.call ⟨(.value (.func 24)), #[(.tmp 19)], #[28]⟩), 4, "", #[⟨0, .chain⟩], none⟩,
  ⟨(some 21), (.move (.tmp 1)), 31, "", #[], none⟩,
  ⟨(some 22), (.call ⟨(.value (.func 39)), #[(.tmp 21)], #[31]⟩), 4, "", #[⟨0, .chain⟩], none⟩,
  ⟨(some 23), (.binOp .eql 4 (.tmp 20) (.tmp 22) 4), 4, "", #[], none⟩,
  ⟨(some 24), (.move (.tmp 23)), 4, "", #[], none⟩,
  ⟨(some 25), (.move (.tmp 0)), 28, "", #[], (some (24, true))⟩,
  ⟨(some 26), (.call ⟨(.value (.func 25)), #[(.tmp 25)], #[28]⟩), 3, "", #[⟨0, .chain⟩], (some (24, true))⟩,
  ⟨(some 27), (.move (.tmp 1)), 31, "", #[], (some (24, true))⟩,
  ⟨(some 28), (.call ⟨(.value (.func 40)), #[(.tmp 27)], #[31]⟩), 3, "", #[⟨0, .chain⟩], (some (24, true))⟩,
  ⟨(some 29), (.binOp .eql 3 (.tmp 26) (.tmp 28) 3), 4, "", #[], (some (24, true))⟩,
  ⟨(some 30), (.pick (.tmp 24) (.tmp 29) (.const (.bool false))), 4, "", #[], none⟩,
  ⟨(some 31), (.move (.tmp 30)), 4, "", #[], none⟩,
  ⟨(some 32), (.move (.tmp 5)), 51, "", #[], (some (31, true))⟩,
  ⟨(some 33), (.move (.tmp 7)), 51, "", #[], (some (31, true))⟩,
  ⟨(some 34), (.binOp .eql 51 (.tmp 32) (.tmp 33) 51), 4, "", #[], (some (31, true))⟩,
  ⟨(some 35), (.pick (.tmp 31) (.tmp 34) (.const (.bool false))), 4, "", #[], none⟩,
  ⟨(some 36), (.move (.tmp 35)), 4, "", #[], none⟩,
  ⟨(some 37), (.move (.tmp 6)), 3, "", #[], (some (36, true))⟩,
  ⟨(some 38), (.move (.tmp 8)), 3, "", #[], (some (36, true))⟩,
  ⟨(some 39), (.binOp .eql 3 (.tmp 37) (.tmp 38) 3), 4, "", #[], (some (36, true))⟩,
  ⟨(some 40), (.pick (.tmp 36) (.tmp 39) (.const (.bool false))), 4, "", #[], none⟩,
  ⟨(some 41), (.move (.tmp 40)), 4, "", #[], none⟩,
  ⟨(some 42), (.move (.tmp 0)), 28, "", #[], (some (41, true))⟩,
  ⟨(some 43), (.call ⟨(.value (.func 26)), #[(.tmp 42)], #[28]⟩), 3, "", #[⟨0, .chain⟩], (some (41, true))⟩,
  ⟨(some 44), (.move (.tmp 1)), 31, "", #[], (some (41, true))⟩,
  ⟨(some 45), (.call ⟨(.value (.func 41)), #[(.tmp 44)], #[31]⟩), 3, "", #[⟨0, .chain⟩], (some (41, true))⟩,
  ⟨(some 46), (.binOp .eql 3 (.tmp 43) (.tmp 45) 3), 4, "", #[], (some (41, true))⟩,
  ⟨(some 47), (.pick (.tmp 41) (.tmp 46) (.const (.bool false))), 4, "", #[], none⟩,
  ⟨(some 4), (.assign (.tmp 47)), 4, "", #[], none⟩]
def F16.code : Cd := (.seq (.region 0 F16.r0.toArray false) (.seq (.region 1 F16.r1.toArray false) (.seq (.region 2 F16.r2.toArray false) (.seq (.region 3 F16.r3.toArray false) .ret))))
theorem F16.calls {args : Array Value} {w : World} {R : Ending → World → Prop} (hn : args.size ≤ 48) (h : cwE Try.prog F16.code (fnP Try.prog #[(.tmp 4)] R) (entry args) w) : Calls Try.prog 16 args w R :=
  calls_of_cwE (types := Try.prog.types) follows Try.func16 F16.code rfl (by kernel_rfl) hn h

def F17.r0 : List Oper := [
  ⟨(some 2), (.assign (.const (.bool false))), 4, "", #[], none⟩]
def F17.r1 : List Oper := [
  ⟨(some 5), (.move (.tmp 0)), 33, "", #[], none⟩,
  ⟨(some 6), (.call ⟨(.value (.func 15)), #[(.tmp 5)], #[33]⟩), 4, "", #[⟨0, .chain⟩], none⟩,
  ⟨(some 3), (.assign (.tmp 6)), 4, "", #[], none⟩]
def F17.r2 : List Oper := [
  ⟨(some 7), (.move (.tmp 0)), 33, "", #[], none⟩,
  ⟨(some 8), (.call ⟨(.value (.func 15)), #[(.tmp 7)], #[33]⟩), 4, "", #[⟨0, .chain⟩], none⟩,
  ⟨(some 4), (.assign (.tmp 8)), 4, "", #[], none⟩]
def F17.r3 : List Oper := [
  ⟨(some 9), (.move (.tmp 3)), 4, "", #[], none⟩,
  ⟨(some 10), (.move (.tmp 9)), 4, "", #[], none⟩,
  ⟨(some 11), (.move (.tmp 4)), 4, "", #[], (some (10, true))⟩,
  ⟨(some 12), (.pick (.tmp 10) (.tmp 11) (.const (.bool false))), 4, "", #[], none⟩,
  ⟨(some 2), (.assign (.tmp 12)), 4, "", #[], none⟩]
def F17.code : Cd := (.seq (.region 0 F17.r0.toArray false) (.seq (.region 1 F17.r1.toArray false) (.seq (.region 2 F17.r2.toArray false) (.seq (.region 3 F17.r3.toArray false) .ret))))
theorem F17.calls {args : Array Value} {w : World} {R : Ending → World → Prop} (hn : args.size ≤ 13) (h : cwE Try.prog F17.code (fnP Try.prog #[(.tmp 2)] R) (entry args) w) : Calls Try.prog 17 args w R :=
  calls_of_cwE (types := Try.prog.types) follows Try.func17 F17.code rfl (by kernel_rfl) hn h

def F18.r0 : List Oper := [
  ⟨(some 2), (.assign (.const (.int .i64 0))), 3, "", #[], none⟩]
def F18.r1 : List Oper := [
  ⟨(some 3), (.assign (.const (.int .i64 0))), 3, "", #[], none⟩]
def F18.r2 : List Oper := [
  ⟨(some 4), (.assign (.const (.int .i64 0))), 3, "", #[], none⟩]
def F18.r3 : List Oper := [
  ⟨(some 5), (.move (.tmp 4)), 3, "", #[], none⟩,
  ⟨(some 6), (.move (.tmp 0)), 34, "", #[], none⟩,
  ⟨(some 7), (.call ⟨(.builtin .len), #[(.tmp 6)], #[34]⟩), 3, "", #[], none⟩,
  ⟨(some 8), (.binOp .lss 3 (.tmp 5) (.tmp 7) 3), 4, "", #[], none⟩,
  ⟨(some 9), (.move (.tmp 8)), 4, "", #[], none⟩,
  ⟨(some 10), (.move (.tmp 3)), 3, "", #[], (some (9, true))⟩,
  ⟨(some 11), (.binOp .leq 3 (.tmp 10) (.const (.int .i64 33554432)) 3), 4, "", #[], (some (9, true))⟩,
  ⟨(some 12), (.pick (.tmp 9) (.tmp 11) (.const (.bool false))), 4, "", #[], none⟩]
def F18.r5 : List Oper := [
  ⟨(some 15), (.move (.tmp 3)), 3, "", #[], none⟩,
  ⟨(some 16), (.binOp .add 3 (.tmp 15) (.const (.int .i64 16)) 3), 3, "", #[], none⟩,
  ⟨(some 17), (.move (.tmp 0)), 34, "", #[], none⟩,
  ⟨(some 18), (.move (.tmp 4)), 3, "", #[], none⟩,
  ⟨(some 19), (.indexAddr 34 (.tmp 17) (.tmp 18)), 0, "", #[], none⟩,
  ⟨(some 20), (.load 35 (.tmp 19)), 35, "", #[⟨0, .data⟩], none⟩,
  ⟨(some 21), (.call ⟨(.builtin .len), #[(.tmp 20)], #[35]⟩), 3, "", #[], none⟩,
  ⟨(some 22), (.binOp .add 3 (.tmp 16) (.tmp 21) 3), 3, "", #[], none⟩,
  ⟨(some 3), (.assign (.tmp 22)), 3, "", #[], none⟩]
def F18.r4 : List Oper := [
  ⟨(some 13), (.move (.tmp 4)), 3, "", #[], none⟩,
  ⟨(some 14), (.binOp .add 3 (.tmp 13) (.const (.int .i64 1)) 3), 3, "", #[], none⟩,
  ⟨(some 4), (.assign (.tmp 14)), 3, "", #[], none⟩]
def F18.r6 : List Oper := [
  ⟨(some 23), (.move (.tmp 3)), 3, "", #[], none⟩,
  ⟨(some 2), (.assign (.tmp 23)), 3, "", #[], none⟩]
def F18.t4 : Cd := (.region 4 F18.r4.toArray false)
theorem F18.t4_eq {P : Program} {Q : Post} {e : FA} {w : World} {θ : Tag (F18.t4, Q, e, w)} : cwE P F18.t4 Q e w θ = cwE P (.region 4 F18.r4.toArray false) Q e w := rfl
def F18.t5 : Cd := (.seq (.block 1 (.region 5 F18.r5.toArray false)) F18.t4)
theorem F18.t5_eq {P : Program} {Q : Post} {e : FA} {w : World} {θ : Tag (F18.t5, Q, e, w)} : cwE P F18.t5 Q e w θ = cwE P (.seq (.block 1 (.region 5 F18.r5.toArray false)) F18.t4) Q e w := rfl
def F18.t6 : Cd := (.seq (.region 6 F18.r6.toArray false) .ret)
theorem F18.t6_eq {P : Program} {Q : Post} {e : FA} {w : World} {θ : Tag (F18.t6, Q, e, w)} : cwE P F18.t6 Q e w θ = cwE P (.seq (.region 6 F18.r6.toArray false) .ret) Q e w := rfl
def F18.code : Cd := (.seq (.region 0 F18.r0.toArray false) (.seq (.region 1 F18.r1.toArray false) (.seq (.seq (.region 2 F18.r2.toArray false) (.block 0 (.loop (.seq (.seq (.region 3 F18.r3.toArray false) (.cond (.tmp 12) .skip (.exit 0))) F18.t5)))) F18.t6)))
theorem F18.calls {args : Array Value} {w : World} {R : Ending → World → Prop} (hn : args.size ≤ 24) (h : cwE Try.prog F18.code (fnP Try.prog #[(.tmp 2)] R) (entry args) w) : Calls Try.prog 18 args w R :=
  calls_of_cwE (types := Try.prog.types) follows Try.func18 F18.code rfl (by kernel_rfl) hn h

def F19.r0 : List Oper := [
  ⟨(some 4), (.assign (.const (.slice none 0 0))), 35, "", #[], none⟩]
def F19.r1 : List Oper := [
  ⟨(some 5), (.assign (.const (.slice none 0 0))), 35, "", #[], none⟩]
def F19.r2 : List Oper := [
  ⟨(some 8), (.move (.tmp 5)), 35, "", #[], none⟩,
  ⟨(some 9), (.move (.tmp 0)), 35, "", #[], none⟩,
  ⟨(some 10), (.call ⟨(.builtin .append), #[(.tmp 8), (.tmp 9)], #[35, 35]⟩), 35, "", #[⟨0, .chain⟩], none⟩,
  ⟨(some 5), (.assign (.tmp 10)), 35, "", #[], none⟩]
def F19.r3 : List Oper := [
  ⟨(some 11), (.move (.tmp 5)), 35, "", #[], none⟩,
  ⟨(some 12), (.call ⟨(.builtin .len), #[(.tmp 11)], #[35]⟩), 3, "", #[], none⟩,
  ⟨(some 13), (.binOp .lss 3 (.tmp 12) (.const (.int .i64 3)) 3), 4, "", #[], none⟩]
def F19.r4 : List Oper := [
  ⟨(some 14), (.move (.tmp 5)), 35, "", #[], none⟩,
  ⟨(some 15), (.buildSlice 35 1 #[(0, (.const (.int .u8 9)))]), 35, "", #[⟨0, .chain⟩], none⟩,
  ⟨(some 16), (.call ⟨(.builtin .append), #[(.tmp 14), (.tmp 15)], #[35, 35]⟩), 35, "", #[⟨0, .chain⟩], none⟩,
  ⟨(some 5), (.assign (.tmp 16)), 35, "", #[], none⟩]
def F19.r5 : List Oper := [
  ⟨(some 17), (.move (.tmp 5)), 35, "", #[], none⟩,
  ⟨(some 18), (.call ⟨(.builtin .len), #[(.tmp 17)], #[35]⟩), 3, "", #[], none⟩,
  ⟨(some 19), (.move (.tmp 1)), 3, "", #[], none⟩,
  ⟨(some 20), (.binOp .sub 3 (.tmp 19) (.const (.int .i64 4)) 3), 3, "", #[], none⟩,
  ⟨(some 21), (.binOp .gtr 3 (.tmp 18) (.tmp 20) 3), 4, "", #[], none⟩]
def F19.r6 : List Oper := [
  ⟨(some 22), (.move (.tmp 5)), 35, "", #[], none⟩,
  ⟨(some 23), (.move (.tmp 1)), 3, "", #[], none⟩,
  ⟨(some 24), (.binOp .sub 3 (.tmp 23) (.const (.int .i64 4)) 3), 3, "", #[], none⟩,
  ⟨(some 25), (.slice 35 (.tmp 22) none (some (.tmp 24)) none), 35, "", #[], none⟩,
  ⟨(some 5), (.assign (.tmp 25)), 35, "", #[], none⟩]
def F19.r7 : List Oper := [
  ⟨(some 26), (.move (.tmp 5)), 35, "", #[], none⟩,
  ⟨(some 27), (.call ⟨(.builtin .len), #[(.tmp 26)], #[35]⟩), 3, "", #[], none⟩,
  ⟨(some 28), (.binOp .add 3 (.tmp 27) (.const (.int .i64 4)) 3), 3, "", #[], none⟩,
  ⟨(some 6), (.assign (.tmp 28)), 3, "", #[], none⟩]
def F19.r8 : List Oper := [
  ⟨(some 29), (.move (.tmp 6)), 3, "", #[], none⟩,
  ⟨(some 30), (.convert 3 5 (.tmp 29)), 5, "", #[], none⟩,
  ⟨(some 31), (.move (.tmp 6)), 3, "", #[], none⟩,
  ⟨(some 32), (.binOp .quo 3 (.tmp 31) (.const (.int .i64 256)) 3), 3, "", #[], none⟩,
  ⟨(some 33), (.convert 3 5 (.tmp 32)), 5, "", #[], none⟩,
  ⟨(some 34), (.move (.tmp 6)), 3, "", #[], none⟩,
  ⟨(some 35), (.binOp .quo 3 (.tmp 34) (.const (.int .i64 65536)) 3), 3, "", #[], none⟩,
  ⟨(some 36), (.convert 3 5 (.tmp 35)), 5, "", #[], none⟩,
  ⟨(some 37), (.buildSlice 35 4 #[(0, (.tmp 30)), (1, (.tmp 33)), (2, (.tmp 36)), (3, (.const (.int .u8 0)))]), 35, "", #[⟨0, .chain⟩], none⟩,
  ⟨(some 7), (.assign (.tmp 37)), 35, "", #[], none⟩]
def F19.r9 : List Oper := [
  ⟨(some 38), (.move (.tmp 7)), 35, "", #[], none⟩,
  ⟨(some 39), (.move (.tmp 5)), 35, "", #[], none⟩,
  ⟨(some 40), (.call ⟨(.builtin .append), #[(.tmp 38), (.tmp 39)], #[35, 35]⟩), 35, "", #[⟨0, .chain⟩], none⟩,
  ⟨(some 4), (.assign (.tmp 40)), 35, "", #[], none⟩]
def F19.t4 : Cd := (.block 1 (.region 4 F19.r4.toArray false))
theorem F19.t4_eq {P : Program} {Q : Post} {e : FA} {w : World} {θ : Tag (F19.t4, Q, e, w)} : cwE P F19.t4 Q e w θ = cwE P (.block 1 (.region 4 F19.r4.toArray false)) Q e w := rfl
def F19.t7 : Cd := (.seq (.region 7 F19.r7.toArray false) (.seq (.region 8 F19.r8.toArray false) (.seq (.region 9 F19.r9.toArray false) .ret)))
theorem F19.t7_eq {P : Program} {Q : Post} {e : FA} {w : World} {θ : Tag (F19.t7, Q, e, w)} : cwE P F19.t7 Q e w θ = cwE P (.seq (.region 7 F19.r7.toArray false) (.seq (.region 8 F19.r8.toArray false) (.seq (.region 9 F19.r9.toArray false) .ret))) Q e w := rfl
def F19.t5 : Cd := (.seq (.seq (.region 5 F19.r5.toArray false) (.cond (.tmp 21) (.region 6 F19.r6.toArray false) .skip)) F19.t7)
theorem F19.t5_eq {P : Program} {Q : Post} {e : FA} {w : World} {θ : Tag (F19.t5, Q, e, w)} : cwE P F19.t5 Q e w θ = cwE P (.seq (.seq (.region 5 F19.r5.toArray false) (.cond (.tmp 21) (.region 6 F19.r6.toArray false) .skip)) F19.t7) Q e w := rfl
def F19.code : Cd := (.seq (.region 0 F19.r0.toArray false) (.seq (.region 1 F19.r1.toArray false) (.seq (.region 2 F19.r2.toArray false) (.seq (.block 0 (.loop (.seq (.seq (.region 3 F19.r3.toArray false) (.cond (.tmp 13) .skip (.exit 0))) F19.t4))) F19.t5))))
theorem F19.calls {args : Array Value} {w : World} {R : Ending → World → Prop} (hn : args.size ≤ 41) (h : cwE Try.prog F19.code (fnP Try.prog #[(.tmp 4)] R) (entry args) w) : Calls Try.prog 19 args w R :=
  calls_of_cwE (types := Try.prog.types) follows Try.func19 F19.code rfl (by kernel_rfl) hn h

def F20.r0 : List Oper := [
  ⟨(some 4), (.assign (.const (.int .i64 0))), 3, "", #[], none⟩]
def F20.r1 : List Oper := [
  ⟨(some 5), (.assign (.const (.int .i64 0))), 3, "", #[], none⟩]
def F20.r2 : List Oper := [
  ⟨(some 7), (.move (.tmp 5)), 3, "", #[], none⟩,
  ⟨(some 8), (.move (.tmp 1)), 35, "", #[], none⟩,
  ⟨(some 9), (.call ⟨(.builtin .len), #[(.tmp 8)], #[35]⟩), 3, "", #[], none⟩,
  ⟨(some 10), (.binOp .lss 3 (.tmp 7) (.tmp 9) 3), 4, "", #[], none⟩,
  ⟨(some 11), (.move (.tmp 10)), 4, "", #[], none⟩,
  ⟨(some 12), (.move (.tmp 0)), 28, "", #[], (some (11, true))⟩,
  ⟨(some 13), (.nilCheck (.tmp 12)), 0, "", #[], (some (11, true))⟩,
  ⟨(some 14), (.fieldAddr 72 (.tmp 13) 2), 0, "", #[], (some (11, true))⟩,
  ⟨(some 15), (.load 3 (.tmp 14)), 3, "", #[⟨0, .data⟩], (some (11, true))⟩,
  ⟨(some 16), (.binOp .lss 3 (.tmp 15) (.const (.int .i64 4)) 3), 4, "", #[], (some (11, true))⟩,
  ⟨(some 17), (.pick (.tmp 11) (.tmp 16) (.const (.bool false))), 4, "", #[], none⟩,
  ⟨(some 18), (.move (.tmp 17)), 4, "", #[], none⟩,
  ⟨(some 19), (.move (.tmp 0)), 28, "", #[], (some (18, true))⟩,
  ⟨(some 20), (.nilCheck (.tmp 19)), 0, "", #[], (some (18, true))⟩,
  ⟨(some 21), (.fieldAddr 72 (.tmp 20) 6), 0, "", #[], (some (18, true))⟩,
  ⟨(some 22), (.load 4 (.tmp 21)), 4, "", #[⟨0, .data⟩], (some (18, true))⟩,
  ⟨(some 23), (.unOp .not 4 (.tmp 22)), 4, "", #[], (some (18, true))⟩,
  ⟨(some 24), (.pick (.tmp 18) (.tmp 23) (.const (.bool false))), 4, "", #[], none⟩]
def F20.r3 : List Oper := [
  ⟨(some 25), (.move (.tmp 0)), 28, "", #[], none⟩,
  ⟨(some 26), (.move (.tmp 0)), 28, "", #[], none⟩,
  ⟨(some 27), (.nilCheck (.tmp 26)), 0, "", #[], none⟩,
  ⟨(some 28), (.fieldAddr 72 (.tmp 27) 2), 0, "", #[], none⟩,
  ⟨(some 30), (.move (.tmp 1)), 35, "", #[], none⟩,
  ⟨(some 31), (.move (.tmp 5)), 3, "", #[], none⟩,
  ⟨(some 32), (.indexAddr 35 (.tmp 30) (.tmp 31)), 0, "", #[], none⟩,
  ⟨(some 34), (.nilCheck (.tmp 25)), 0, "", #[], none⟩,
  ⟨(some 35), (.fieldAddr 72 (.tmp 34) 1), 0, "", #[], none⟩,
  ⟨(some 29), (.load 3 (.tmp 28)), 3, "", #[⟨4096, .data⟩], none⟩,
  ⟨(some 33), (.load 5 (.tmp 32)), 5, "", #[⟨4096, .data⟩], none⟩,
  ⟨(some 36), (.indexAddr 70 (.tmp 35) (.tmp 29)), 0, "", #[], none⟩,
  ⟨none, (.store 5 (.tmp 36) (.tmp 33)), 0, "", #[⟨12, .chain⟩], none⟩]
def F20.r4 : List Oper := [
  ⟨(some 37), (.move (.tmp 0)), 28, "", #[], none⟩,
  ⟨(some 38), (.nilCheck (.tmp 37)), 0, "", #[], none⟩,
  ⟨(some 39), (.fieldAddr 72 (.tmp 38) 2), 0, "", #[], none⟩,
  ⟨(some 40), (.load 3 (.tmp 39)), 3, "", #[⟨0, .data⟩], none⟩,
  ⟨(some 41), (.binOp .add 3 (.tmp 40) (.const (.int .i64 1)) 3), 3, "", #[], none⟩,
  ⟨(some 42), (.nilCheck (.tmp 37)), 0, "", #[], none⟩,
  ⟨(some 43), (.fieldAddr 72 (.tmp 42) 2), 0, "", #[], none⟩,
  ⟨none, (.store 3 (.tmp 43) (.tmp 41)), 0, "", #[⟨0, .chain⟩], none⟩]
def F20.r5 : List Oper := [
  ⟨(some 44), (.move (.tmp 5)), 3, "", #[], none⟩,
  ⟨(some 45), (.binOp .add 3 (.tmp 44) (.const (.int .i64 1)) 3), 3, "", #[], none⟩,
  ⟨(some 5), (.assign (.tmp 45)), 3, "", #[], none⟩]
def F20.r6 : List Oper := [
  ⟨(some 46), (.move (.tmp 0)), 28, "", #[], none⟩,
  ⟨(some 47), (.nilCheck (.tmp 46)), 0, "", #[], none⟩,
  ⟨(some 48), (.fieldAddr 72 (.tmp 47) 2), 0, "", #[], none⟩,
  ⟨(some 49), (.load 3 (.tmp 48)), 3, "", #[⟨2176, .data⟩], none⟩,
  ⟨(some 50), (.binOp .eql 3 (.tmp 49) (.const (.int .i64 4)) 3), 4, "", #[], none⟩,
  ⟨(some 51), (.move (.tmp 50)), 4, "", #[], none⟩,
  ⟨(some 52), (.move (.tmp 0)), 28, "", #[], (some (51, true))⟩,
  ⟨(some 53), (.call ⟨(.value (.func 42)), #[(.tmp 52)], #[28]⟩), 30, "", #[⟨7, .chain⟩], (some (51, true))⟩,
  ⟨(some 54), (.binOp .lss 30 (.tmp 53) (.const (.int .u32 7)) 30), 4, "", #[], (some (51, true))⟩,
  ⟨(some 55), (.move (.tmp 54)), 4, "", #[], (some (51, true))⟩,
  ⟨(some 56), (.move (.tmp 0)), 28, "", #[], (some (55, false))⟩,
  ⟨(some 58), (.move (.tmp 0)), 28, "", #[], (some (55, false))⟩,
  ⟨(some 59), (.nilCheck (.tmp 58)), 0, "", #[], (some (55, false))⟩,
  ⟨(some 60), (.fieldAddr 72 (.tmp 59) 0), 0, "", #[], (some (55, false))⟩,
  ⟨(some 61), (.load 30 (.tmp 60)), 30, "", #[⟨0, .data⟩], (some (55, false))⟩,
  ⟨(some 57), (.call ⟨(.value (.func 42)), #[(.tmp 56)], #[28]⟩), 30, "", #[⟨11, .chain⟩], (some (55, false))⟩,
  ⟨(some 62), (.binOp .gtr 30 (.tmp 57) (.tmp 61) 30), 4, "", #[], (some (55, false))⟩,
  ⟨(some 63), (.pick (.tmp 55) (.const (.bool true)) (.tmp 62)), 4, "", #[], (some (51, true))⟩,
  ⟨(some 64), (.pick (.tmp 51) (.tmp 63) (.const (.bool false))), 4, "", #[], none⟩]
def F20.r7 : List Oper := [
  ⟨(some 65), (.move (.tmp 0)), 28, "", #[], none⟩,
  ⟨(some 66), (.nilCheck (.tmp 65)), 0, "", #[], none⟩,
  ⟨(some 67), (.fieldAddr 72 (.tmp 66) 6), 0, "", #[], none⟩,
  ⟨none, (.store 4 (.tmp 67) (.const (.bool true))), 0, "", #[⟨0, .chain⟩], none⟩]
def F20.r8 : List Oper := [
  ⟨(some 68), (.move (.tmp 0)), 28, "", #[], none⟩,
  ⟨(some 69), (.move (.tmp 0)), 28, "", #[], none⟩,
  ⟨(some 70), (.nilCheck (.tmp 69)), 0, "", #[], none⟩,
  ⟨(some 71), (.fieldAddr 72 (.tmp 70) 4), 0, "", #[], none⟩,
  ⟨(some 72), (.load 3 (.tmp 71)), 3, "", #[⟨0, .data⟩], none⟩,
  ⟨(some 73), (.move (.tmp 5)), 3, "", #[], none⟩,
  ⟨(some 74), (.binOp .add 3 (.tmp 72) (.tmp 73) 3), 3, "", #[], none⟩,
  ⟨(some 75), (.binOp .sub 3 (.tmp 74) (.const (.int .i64 4)) 3), 3, "", #[], none⟩,
  ⟨(some 76), (.nilCheck (.tmp 68)), 0, "", #[], none⟩,
  ⟨(some 77), (.fieldAddr 72 (.tmp 76) 7), 0, "", #[], none⟩,
  ⟨none, (.store 3 (.tmp 77) (.tmp 75)), 0, "", #[⟨0, .chain⟩], none⟩]
def F20.r9 : List Oper := [
  ⟨(some 78), (.move (.tmp 0)), 28, "", #[], none⟩,
  ⟨(some 79), (.nilCheck (.tmp 78)), 0, "", #[], none⟩,
  ⟨(some 80), (.fieldAddr 72 (.tmp 79) 6), 0, "", #[], none⟩,
  ⟨(some 81), (.load 4 (.tmp 80)), 4, "", #[⟨0, .data⟩], none⟩,
  ⟨(some 82), (.unOp .not 4 (.tmp 81)), 4, "", #[], none⟩,
  ⟨(some 83), (.move (.tmp 82)), 4, "", #[], none⟩,
  ⟨(some 84), (.move (.tmp 0)), 28, "", #[], (some (83, true))⟩,
  ⟨(some 85), (.nilCheck (.tmp 84)), 0, "", #[], (some (83, true))⟩,
  ⟨(some 86), (.fieldAddr 72 (.tmp 85) 2), 0, "", #[], (some (83, true))⟩,
  ⟨(some 87), (.load 3 (.tmp 86)), 3, "", #[⟨0, .data⟩], (some (83, true))⟩,
  ⟨(some 88), (.binOp .eql 3 (.tmp 87) (.const (.int .i64 4)) 3), 4, "", #[], (some (83, true))⟩,
  ⟨(some 89), (.pick (.tmp 83) (.tmp 88) (.const (.bool false))), 4, "", #[], none⟩]
def F20.r10 : List Oper := [
  ⟨(some 90), (.move (.tmp 1)), 35, "", #[], none⟩,
  ⟨(some 91), (.call ⟨(.builtin .len), #[(.tmp 90)], #[35]⟩), 3, "", #[], none⟩,
  ⟨(some 92), (.move (.tmp 5)), 3, "", #[], none⟩,
  ⟨(some 93), (.binOp .sub 3 (.tmp 91) (.tmp 92) 3), 3, "", #[], none⟩,
  ⟨(some 94), (.move (.tmp 0)), 28, "", #[], none⟩,
  ⟨(some 98), (.move (.tmp 0)), 28, "", #[], none⟩,
  ⟨(some 99), (.nilCheck (.tmp 98)), 0, "", #[], none⟩,
  ⟨(some 100), (.fieldAddr 72 (.tmp 99) 3), 0, "", #[], none⟩,
  ⟨(some 101), (.load 35 (.tmp 100)), 35, "", #[⟨0, .data⟩], none⟩,
  ⟨(some 102), (.call ⟨(.builtin .len), #[(.tmp 101)], #[35]⟩), 3, "", #[], none⟩,
  ⟨(some 95), (.call ⟨(.value (.func 42)), #[(.tmp 94)], #[28]⟩), 30, "", #[⟨5, .chain⟩], none⟩,
  ⟨(some 96), (.convert 30 3 (.tmp 95)), 3, "", #[], none⟩,
  ⟨(some 97), (.binOp .sub 3 (.tmp 96) (.const (.int .i64 4)) 3), 3, "", #[], none⟩,
  ⟨(some 103), (.binOp .sub 3 (.tmp 97) (.tmp 102) 3), 3, "", #[], none⟩,
  ⟨(some 104), (.call ⟨(.builtin .min), #[(.tmp 93), (.tmp 103)], #[3, 3]⟩), 3, "", #[], none⟩,
  ⟨(some 6), (.assign (.tmp 104)), 3, "", #[], none⟩]
def F20.r11 : List Oper := [
  ⟨(some 105), (.move (.tmp 0)), 28, "", #[], none⟩,
  ⟨(some 106), (.move (.tmp 0)), 28, "", #[], none⟩,
  ⟨(some 107), (.nilCheck (.tmp 106)), 0, "", #[], none⟩,
  ⟨(some 108), (.fieldAddr 72 (.tmp 107) 3), 0, "", #[], none⟩,
  ⟨(some 110), (.move (.tmp 1)), 35, "", #[], none⟩,
  ⟨(some 111), (.move (.tmp 5)), 3, "", #[], none⟩,
  ⟨(some 112), (.move (.tmp 5)), 3, "", #[], none⟩,
  ⟨(some 113), (.move (.tmp 6)), 3, "", #[], none⟩,
  ⟨(some 114), (.binOp .add 3 (.tmp 112) (.tmp 113) 3), 3, "", #[], none⟩,
  ⟨(some 115), (.slice 35 (.tmp 110) (some (.tmp 111)) (some (.tmp 114)) none), 35, "", #[], none⟩,
  ⟨(some 109), (.load 35 (.tmp 108)), 35, "", #[⟨18432, .data⟩], none⟩,
  ⟨(some 116), (.call ⟨(.builtin .append), #[(.tmp 109), (.tmp 115)], #[35, 35]⟩), 35, "", #[⟨11, .chain⟩], none⟩,
  ⟨(some 117), (.nilCheck (.tmp 105)), 0, "", #[], none⟩,
  ⟨(some 118), (.fieldAddr 72 (.tmp 117) 3), 0, "", #[], none⟩,
  ⟨none, (.store 35 (.tmp 118) (.tmp 116)), 0, "", #[⟨14, .chain⟩], none⟩]
def F20.r12 : List Oper := [
  ⟨(some 119), (.move (.tmp 5)), 3, "", #[], none⟩,
  ⟨(some 120), (.move (.tmp 6)), 3, "", #[], none⟩,
  ⟨(some 121), (.binOp .add 3 (.tmp 119) (.tmp 120) 3), 3, "", #[], none⟩,
  ⟨(some 5), (.assign (.tmp 121)), 3, "", #[], none⟩]
def F20.r13 : List Oper := [
  ⟨(some 122), (.move (.tmp 0)), 28, "", #[], none⟩,
  ⟨(some 123), (.nilCheck (.tmp 122)), 0, "", #[], none⟩,
  ⟨(some 124), (.fieldAddr 72 (.tmp 123) 4), 0, "", #[], none⟩,
  ⟨(some 125), (.load 3 (.tmp 124)), 3, "", #[⟨0, .data⟩], none⟩,
  ⟨(some 126), (.move (.tmp 5)), 3, "", #[], none⟩,
  ⟨(some 127), (.binOp .add 3 (.tmp 125) (.tmp 126) 3), 3, "", #[], none⟩,
  ⟨(some 128), (.nilCheck (.tmp 122)), 0, "", #[], none⟩,
  ⟨(some 129), (.fieldAddr 72 (.tmp 128) 4), 0, "", #[], none⟩,
  ⟨none, (.store 3 (.tmp 129) (.tmp 127)), 0, "", #[⟨0, .chain⟩], none⟩]
def F20.r14 : List Oper := [
  ⟨(some 130), (.move (.tmp 5)), 3, "", #[], none⟩,
  ⟨(some 4), (.assign (.tmp 130)), 3, "", #[], none⟩]
def F20.t3 : Cd := (.block 1 (.seq (.region 3 F20.r3.toArray true) (.seq (.region 4 F20.r4.toArray false) (.seq (.region 5 F20.r5.toArray false) (.seq (.region 6 F20.r6.toArray true) (.cond (.tmp 64) (.seq (.region 7 F20.r7.toArray false) (.region 8 F20.r8.toArray false)) .skip))))))
theorem F20.t3_eq {P : Program} {Q : Post} {e : FA} {w : World} {θ : Tag (F20.t3, Q, e, w)} : cwE P F20.t3 Q e w θ = cwE P (.block 1 (.seq (.region 3 F20.r3.toArray true) (.seq (.region 4 F20.r4.toArray false) (.seq (.region 5 F20.r5.toArray false) (.seq (.region 6 F20.r6.toArray true) (.cond (.tmp 64) (.seq (.region 7 F20.r7.toArray false) (.region 8 F20.r8.toArray false)) .skip)))))) Q e w := rfl
def F20.t13 : Cd := (.seq (.region 13 F20.r13.toArray false) (.seq (.region 14 F20.r14.toArray false) .ret))
theorem F20.t13_eq {P : Program} {Q : Post} {e : FA} {w : World} {θ : Tag (F20.t13, Q, e, w)} : cwE P F20.t13 Q e w θ = cwE P (.seq (.region 13 F20.r13.toArray false) (.seq (.region 14 F20.r14.toArray false) .ret)) Q e w := rfl
def F20.t9 : Cd := (.seq (.seq (.region 9 F20.r9.toArray false) (.cond (.tmp 89) (.seq (.region 10 F20.r10.toArray true) (.seq (.region 11 F20.r11.toArray true) (.region 12 F20.r12.toArray false))) .skip)) F20.t13)
theorem F20.t9_eq {P : Program} {Q : Post} {e : FA} {w : World} {θ : Tag (F20.t9, Q, e, w)} : cwE P F20.t9 Q e w θ = cwE P (.seq (.seq (.region 9 F20.r9.toArray false) (.cond (.tmp 89) (.seq (.region 10 F20.r10.toArray true) (.seq (.region 11 F20.r11.toArray true) (.region 12 F20.r12.toArray false))) .skip)) F20.t13) Q e w := rfl
def F20.code : Cd := (.seq (.region 0 F20.r0.toArray false) (.seq (.region 1 F20.r1.toArray false) (.seq (.block 0 (.loop (.seq (.seq (.region 2 F20.r2.toArray false) (.cond (.tmp 24) .skip (.exit 0))) F20.t3))) F20.t9)))
theorem F20.calls {args : Array Value} {w : World} {R : Ending → World → Prop} (hn : args.size ≤ 131) (h : cwE Try.prog F20.code (fnP Try.prog #[(.tmp 4)] R) (entry args) w) : Calls Try.prog 20 args w R :=
  calls_of_cwE (types := Try.prog.types) follows Try.func20 F20.code rfl (by kernel_rfl) hn h

def F21.r0 : List Oper := [
  ⟨(some 2), (.assign (.const (.slice none 0 0))), 35, "", #[], none⟩,
  ⟨(some 3), (.assign (.const (.bool false))), 4, "", #[], none⟩]
def F21.r1 : List Oper := [
  ⟨(some 5), (.move (.tmp 0)), 28, "", #[], none⟩,
  ⟨(some 6), (.call ⟨(.value (.func 24)), #[(.tmp 5)], #[28]⟩), 4, "", #[⟨0, .chain⟩], none⟩,
  ⟨(some 7), (.unOp .not 4 (.tmp 6)), 4, "", #[], none⟩]
def F21.r2 : List Oper := [
  ⟨(some 2), (.assign (.const (.slice none 0 0))), 35, "", #[], none⟩,
  ⟨(some 3), (.assign (.const (.bool false))), 4, "", #[], none⟩]
def F21.r3 : List Oper := [
  ⟨(some 8), (.move (.tmp 0)), 28, "", #[], none⟩,
  ⟨(some 9), (.nilCheck (.tmp 8)), 0, "", #[], none⟩,
  ⟨(some 10), (.fieldAddr 72 (.tmp 9) 1), 0, "", #[], none⟩,
  ⟨(some 11), (.slice 70 (.tmp 10) none none none), 35, "", #[], none⟩,
  ⟨(some 13), (.move (.tmp 0)), 28, "", #[], none⟩,
  ⟨(some 14), (.nilCheck (.tmp 13)), 0, "", #[], none⟩,
  ⟨(some 15), (.fieldAddr 72 (.tmp 14) 3), 0, "", #[], none⟩,
  ⟨(some 16), (.load 35 (.tmp 15)), 35, "", #[⟨512, .data⟩], none⟩,
  ⟨(some 12), (.call ⟨(.builtin .append), #[(.const (.slice none 0 0)), (.tmp 11)], #[35, 35]⟩), 35, "", #[⟨4, .chain⟩], none⟩,
  ⟨(some 17), (.call ⟨(.builtin .append), #[(.tmp 12), (.tmp 16)], #[35, 35]⟩), 35, "", #[⟨9, .chain⟩], none⟩,
  ⟨(some 4), (.assign (.tmp 17)), 35, "", #[], none⟩]
def F21.r4 : List Oper := [
  ⟨(some 18), (.move (.tmp 0)), 28, "", #[], none⟩,
  ⟨(some 19), (.move (.tmp 0)), 28, "", #[], none⟩,
  ⟨(some 20), (.nilCheck (.tmp 18)), 0, "", #[], none⟩,
  ⟨(some 21), (.fieldAddr 72 (.tmp 20) 2), 0, "", #[], none⟩,
  ⟨none, (.store 3 (.tmp 21) (.const (.int .i64 0))), 0, "", #[⟨0, .chain⟩], none⟩,
  ⟨(some 22), (.nilCheck (.tmp 19)), 0, "", #[], none⟩,
  ⟨(some 23), (.fieldAddr 72 (.tmp 22) 3), 0, "", #[], none⟩,
  ⟨none, (.store 35 (.tmp 23) (.const (.slice none 0 0))), 0, "", #[⟨0, .chain⟩], none⟩]
def F21.r5 : List Oper := [
  ⟨(some 24), (.move (.tmp 0)), 28, "", #[], none⟩,
  ⟨(some 25), (.nilCheck (.tmp 24)), 0, "", #[], none⟩,
  ⟨(some 26), (.fieldAddr 72 (.tmp 25) 5), 0, "", #[], none⟩,
  ⟨(some 27), (.load 3 (.tmp 26)), 3, "", #[⟨0, .data⟩], none⟩,
  ⟨(some 28), (.binOp .add 3 (.tmp 27) (.const (.int .i64 1)) 3), 3, "", #[], none⟩,
  ⟨(some 29), (.nilCheck (.tmp 24)), 0, "", #[], none⟩,
  ⟨(some 30), (.fieldAddr 72 (.tmp 29) 5), 0, "", #[], none⟩,
  ⟨none, (.store 3 (.tmp 30) (.tmp 28)), 0, "", #[⟨0, .chain⟩], none⟩]
def F21.r6 : List Oper := [
  ⟨(some 31), (.move (.tmp 4)), 35, "", #[], none⟩,
  ⟨(some 2), (.assign (.tmp 31)), 35, "", #[], none⟩,
  ⟨(some 3), (.assign (.const (.bool true))), 4, "", #[], none⟩]
def F21.t3 : Cd := (.seq (.region 3 F21.r3.toArray true) (.seq (.region 4 F21.r4.toArray false) (.seq (.region 5 F21.r5.toArray false) (.seq (.region 6 F21.r6.toArray false) .ret))))
theorem F21.t3_eq {P : Program} {Q : Post} {e : FA} {w : World} {θ : Tag (F21.t3, Q, e, w)} : cwE P F21.t3 Q e w θ = cwE P (.seq (.region 3 F21.r3.toArray true) (.seq (.region 4 F21.r4.toArray false) (.seq (.region 5 F21.r5.toArray false) (.seq (.region 6 F21.r6.toArray false) .ret)))) Q e w := rfl
def F21.code : Cd := (.seq (.region 0 F21.r0.toArray false) (.seq (.seq (.region 1 F21.r1.toArray false) (.cond (.tmp 7) (.seq (.region 2 F21.r2.toArray false) .ret) .skip)) F21.t3))
theorem F21.calls {args : Array Value} {w : World} {R : Ending → World → Prop} (hn : args.size ≤ 32) (h : cwE Try.prog F21.code (fnP Try.prog #[(.tmp 2), (.tmp 3)] R) (entry args) w) : Calls Try.prog 21 args w R :=
  calls_of_cwE (types := Try.prog.types) follows Try.func21 F21.code rfl (by kernel_rfl) hn h

def F22.r0 : List Oper := [
  ⟨(some 4), (.assign (.const (.int .i64 0))), 51, "", #[], none⟩]
def F22.r1 : List Oper := [
  ⟨(some 5), (.move (.tmp 1)), 30, "", #[], none⟩,
  ⟨(some 6), (.call ⟨(.value (.func 32)), #[(.tmp 5)], #[30]⟩), 4, "", #[⟨0, .chain⟩], none⟩,
  ⟨(some 7), (.unOp .not 4 (.tmp 6)), 4, "", #[], none⟩]
def F22.r2 : List Oper := [
  ⟨(some 4), (.assign (.const (.int .i64 1))), 51, "", #[], none⟩]
def F22.r3 : List Oper := [
  ⟨(some 8), (.move (.tmp 0)), 28, "", #[], none⟩,
  ⟨(some 9), (.move (.tmp 1)), 30, "", #[], none⟩,
  ⟨(some 10), (.nilCheck (.tmp 8)), 0, "", #[], none⟩,
  ⟨(some 11), (.fieldAddr 72 (.tmp 10) 0), 0, "", #[], none⟩,
  ⟨none, (.store 30 (.tmp 11) (.tmp 9)), 0, "", #[⟨0, .chain⟩], none⟩]
def F22.r4 : List Oper := [
  ⟨(some 4), (.assign (.const (.int .i64 0))), 51, "", #[], none⟩]
def F22.t3 : Cd := (.seq (.region 3 F22.r3.toArray false) (.seq (.region 4 F22.r4.toArray false) .ret))
theorem F22.t3_eq {P : Program} {Q : Post} {e : FA} {w : World} {θ : Tag (F22.t3, Q, e, w)} : cwE P F22.t3 Q e w θ = cwE P (.seq (.region 3 F22.r3.toArray false) (.seq (.region 4 F22.r4.toArray false) .ret)) Q e w := rfl
def F22.code : Cd := (.seq (.region 0 F22.r0.toArray false) (.seq (.seq (.region 1 F22.r1.toArray false) (.cond (.tmp 7) (.seq (.region 2 F22.r2.toArray false) .ret) .skip)) F22.t3))
theorem F22.calls {args : Array Value} {w : World} {R : Ending → World → Prop} (hn : args.size ≤ 12) (h : cwE Try.prog F22.code (fnP Try.prog #[(.tmp 4)] R) (entry args) w) : Calls Try.prog 22 args w R :=
  calls_of_cwE (types := Try.prog.types) follows Try.func22 F22.code rfl (by kernel_rfl) hn h

def F23.r0 : List Oper := [
  ⟨(some 2), (.assign (.const (.int .i64 0))), 51, "", #[], none⟩,
  ⟨(some 3), (.assign (.const (.int .i64 0))), 3, "", #[], none⟩]
def F23.r1 : List Oper := [
  ⟨(some 4), (.move (.tmp 0)), 28, "", #[], none⟩,
  ⟨(some 5), (.nilCheck (.tmp 4)), 0, "", #[], none⟩,
  ⟨(some 6), (.fieldAddr 72 (.tmp 5) 6), 0, "", #[], none⟩,
  ⟨(some 7), (.load 4 (.tmp 6)), 4, "", #[⟨0, .data⟩], none⟩,
  ⟨(some 8), (.unOp .not 4 (.tmp 7)), 4, "", #[], none⟩]
def F23.r2 : List Oper := [
  ⟨(some 2), (.assign (.const (.int .i64 0))), 51, "", #[], none⟩,
  ⟨(some 3), (.assign (.const (.int .i64 0))), 3, "", #[], none⟩]
def F23.r3 : List Oper := [
  ⟨(some 9), (.move (.tmp 0)), 28, "", #[], none⟩,
  ⟨(some 10), (.nilCheck (.tmp 9)), 0, "", #[], none⟩,
  ⟨(some 11), (.fieldAddr 72 (.tmp 10) 7), 0, "", #[], none⟩,
  ⟨(some 2), (.assign (.const (.int .i64 40))), 51, "", #[], none⟩,
  ⟨(some 12), (.load 3 (.tmp 11)), 3, "", #[⟨0, .data⟩], none⟩,
  ⟨(some 3), (.assign (.tmp 12)), 3, "", #[], none⟩]
def F23.t3 : Cd := (.seq (.region 3 F23.r3.toArray true) .ret)
theorem F23.t3_eq {P : Program} {Q : Post} {e : FA} {w : World} {θ : Tag (F23.t3, Q, e, w)} : cwE P F23.t3 Q e w θ = cwE P (.seq (.region 3 F23.r3.toArray true) .ret) Q e w := rfl
def F23.code : Cd := (.seq (.region 0 F23.r0.toArray false) (.seq (.seq (.region 1 F23.r1.toArray false) (.cond (.tmp 8) (.seq (.region 2 F23.r2.toArray false) .ret) .skip)) F23.t3))
theorem F23.calls {args : Array Value} {w : World} {R : Ending → World → Prop} (hn : args.size ≤ 13) (h : cwE Try.prog F23.code (fnP Try.prog #[(.tmp 2), (.tmp 3)] R) (entry args) w) : Calls Try.prog 23 args w R :=
  calls_of_cwE (types := Try.prog.types) follows Try.func23 F23.code rfl (by kernel_rfl) hn h

def F24.r0 : List Oper := [
  ⟨(some 2), (.assign (.const (.bool false))), 4, "", #[], none⟩]
def F24.r1 : List Oper := [
  ⟨(some 3), (.move (.tmp 0)), 28, "", #[], none⟩,
  ⟨(some 4), (.nilCheck (.tmp 3)), 0, "", #[], none⟩,
  ⟨(some 5), (.fieldAddr 72 (.tmp 4) 6), 0, "", #[], none⟩,
  ⟨(some 6), (.load 4 (.tmp 5)), 4, "", #[⟨1048576, .data⟩], none⟩,
  ⟨(some 7), (.unOp .not 4 (.tmp 6)), 4, "", #[], none⟩,
  ⟨(some 8), (.move (.tmp 7)), 4, "", #[], none⟩,
  ⟨(some 9), (.move (.tmp 0)), 28, "", #[], (some (8, true))⟩,
  ⟨(some 10), (.nilCheck (.tmp 9)), 0, "", #[], (some (8, true))⟩,
  ⟨(some 11), (.fieldAddr 72 (.tmp 10) 2), 0, "", #[], (some (8, true))⟩,
  ⟨(some 12), (.load 3 (.tmp 11)), 3, "", #[⟨1048576, .data⟩], (some (8, true))⟩,
  ⟨(some 13), (.binOp .eql 3 (.tmp 12) (.const (.int .i64 4)) 3), 4, "", #[], (some (8, true))⟩,
  ⟨(some 14), (.pick (.tmp 8) (.tmp 13) (.const (.bool false))), 4, "", #[], none⟩,
  ⟨(some 15), (.move (.tmp 14)), 4, "", #[], none⟩,
  ⟨(some 16), (.move (.tmp 0)), 28, "", #[], (some (15, true))⟩,
  ⟨(some 17), (.nilCheck (.tmp 16)), 0, "", #[], (some (15, true))⟩,
  ⟨(some 18), (.fieldAddr 72 (.tmp 17) 3), 0, "", #[], (some (15, true))⟩,
  ⟨(some 22), (.move (.tmp 0)), 28, "", #[], (some (15, true))⟩,
  ⟨(some 19), (.load 35 (.tmp 18)), 35, "", #[⟨0, .data⟩], (some (15, true))⟩,
  ⟨(some 20), (.call ⟨(.builtin .len), #[(.tmp 19)], #[35]⟩), 3, "", #[], (some (15, true))⟩,
  ⟨(some 21), (.binOp .add 3 (.const (.int .i64 4)) (.tmp 20) 3), 3, "", #[], (some (15, true))⟩,
  ⟨(some 23), (.call ⟨(.value (.func 42)), #[(.tmp 22)], #[28]⟩), 30, "", #[⟨20, .chain⟩], (some (15, true))⟩,
  ⟨(some 24), (.convert 30 3 (.tmp 23)), 3, "", #[], (some (15, true))⟩,
  ⟨(some 25), (.binOp .eql 3 (.tmp 21) (.tmp 24) 3), 4, "", #[], (some (15, true))⟩,
  ⟨(some 26), (.pick (.tmp 15) (.tmp 25) (.const (.bool false))), 4, "", #[], none⟩,
  ⟨(some 2), (.assign (.tmp 26)), 4, "", #[], none⟩]
def F24.code : Cd := (.seq (.region 0 F24.r0.toArray false) (.seq (.region 1 F24.r1.toArray true) .ret))
theorem F24.calls {args : Array Value} {w : World} {R : Ending → World → Prop} (hn : args.size ≤ 27) (h : cwE Try.prog F24.code (fnP Try.prog #[(.tmp 2)] R) (entry args) w) : Calls Try.prog 24 args w R :=
  calls_of_cwE (types := Try.prog.types) follows Try.func24 F24.code rfl (by kernel_rfl) hn h

def F25.r0 : List Oper := [
  ⟨(some 2), (.assign (.const (.int .i64 0))), 3, "", #[], none⟩]
def F25.r1 : List Oper := [
  ⟨(some 4), (.move (.tmp 0)), 28, "", #[], none⟩,
  ⟨(some 5), (.nilCheck (.tmp 4)), 0, "", #[], none⟩,
  ⟨(some 6), (.fieldAddr 72 (.tmp 5) 6), 0, "", #[], none⟩,
  ⟨(some 7), (.load 4 (.tmp 6)), 4, "", #[⟨0, .data⟩], none⟩,
  ⟨(some 3), (.assign (.tmp 7)), 4, "", #[], none⟩]
def F25.r2 : List Oper := [
  ⟨(some 2), (.assign (.const (.int .i64 0))), 3, "", #[], none⟩]
def F25.r3 : List Oper := [
  ⟨(some 9), (.move (.tmp 0)), 28, "", #[], none⟩,
  ⟨(some 10), (.nilCheck (.tmp 9)), 0, "", #[], none⟩,
  ⟨(some 11), (.fieldAddr 72 (.tmp 10) 2), 0, "", #[], none⟩,
  ⟨(some 12), (.load 3 (.tmp 11)), 3, "", #[⟨0, .data⟩], none⟩,
  ⟨(some 13), (.binOp .lss 3 (.tmp 12) (.const (.int .i64 4)) 3), 4, "", #[], none⟩,
  ⟨(some 8), (.assign (.tmp 13)), 4, "", #[], none⟩]
def F25.r4 : List Oper := [
  ⟨(some 14), (.move (.tmp 0)), 28, "", #[], none⟩,
  ⟨(some 15), (.nilCheck (.tmp 14)), 0, "", #[], none⟩,
  ⟨(some 16), (.fieldAddr 72 (.tmp 15) 2), 0, "", #[], none⟩,
  ⟨(some 17), (.load 3 (.tmp 16)), 3, "", #[⟨0, .data⟩], none⟩,
  ⟨(some 18), (.binOp .sub 3 (.const (.int .i64 4)) (.tmp 17) 3), 3, "", #[], none⟩,
  ⟨(some 2), (.assign (.tmp 18)), 3, "", #[], none⟩]
def F25.r5 : List Oper := [
  ⟨(some 19), (.move (.tmp 0)), 28, "", #[], none⟩,
  ⟨(some 23), (.move (.tmp 0)), 28, "", #[], none⟩,
  ⟨(some 24), (.nilCheck (.tmp 23)), 0, "", #[], none⟩,
  ⟨(some 25), (.fieldAddr 72 (.tmp 24) 3), 0, "", #[], none⟩,
  ⟨(some 26), (.load 35 (.tmp 25)), 35, "", #[⟨0, .data⟩], none⟩,
  ⟨(some 27), (.call ⟨(.builtin .len), #[(.tmp 26)], #[35]⟩), 3, "", #[], none⟩,
  ⟨(some 20), (.call ⟨(.value (.func 42)), #[(.tmp 19)], #[28]⟩), 30, "", #[⟨1, .chain⟩], none⟩,
  ⟨(some 21), (.convert 30 3 (.tmp 20)), 3, "", #[], none⟩,
  ⟨(some 22), (.binOp .sub 3 (.tmp 21) (.const (.int .i64 4)) 3), 3, "", #[], none⟩,
  ⟨(some 28), (.binOp .sub 3 (.tmp 22) (.tmp 27) 3), 3, "", #[], none⟩,
  ⟨(some 2), (.assign (.tmp 28)), 3, "", #[], none⟩]
def F25.t5 : Cd := (.seq (.region 5 F25.r5.toArray true) .ret)
theorem F25.t5_eq {P : Program} {Q : Post} {e : FA} {w : World} {θ : Tag (F25.t5, Q, e, w)} : cwE P F25.t5 Q e w θ = cwE P (.seq (.region 5 F25.r5.toArray true) .ret) Q e w := rfl
def F25.code : Cd := (.seq (.region 0 F25.r0.toArray false) (.seq (.block 0 (.seq (.region 1 F25.r1.toArray false) (.cond (.tmp 3) (.seq (.region 2 F25.r2.toArray false) .ret) (.seq (.region 3 F25.r3.toArray false) (.cond (.tmp 8) (.seq (.region 4 F25.r4.toArray false) .ret) .skip))))) F25.t5))
theorem F25.calls {args : Array Value} {w : World} {R : Ending → World → Prop} (hn : args.size ≤ 29) (h : cwE Try.prog F25.code (fnP Try.prog #[(.tmp 2)] R) (entry args) w) : Calls Try.prog 25 args w R :=
  calls_of_cwE (types := Try.prog.types) follows Try.func25 F25.code rfl (by kernel_rfl) hn h

def F26.r0 : List Oper := [
  ⟨(some 2), (.assign (.const (.int .i64 0))), 3, "", #[], none⟩]
def F26.r1 : List Oper := [
  ⟨(some 3), (.move (.tmp 0)), 28, "", #[], none⟩,
  ⟨(some 4), (.nilCheck (.tmp 3)), 0, "", #[], none⟩,
  ⟨(some 5), (.fieldAddr 72 (.tmp 4) 5), 0, "", #[], none⟩,
  ⟨(some 6), (.load 3 (.tmp 5)), 3, "", #[⟨0, .data⟩], none⟩,
  ⟨(some 2), (.assign (.tmp 6)), 3, "", #[], none⟩]
def F26.code : Cd := (.seq (.region 0 F26.r0.toArray false) (.seq (.region 1 F26.r1.toArray false) .ret))
theorem F26.calls {args : Array Value} {w : World} {R : Ending → World → Prop} (hn : args.size ≤ 7) (h : cwE Try.prog F26.code (fnP Try.prog #[(.tmp 2)] R) (entry args) w) : Calls Try.prog 26 args w R :=
  calls_of_cwE (types := Try.prog.types) follows Try.func26 F26.code rfl (by kernel_rfl) hn h

def F27.r0 : List Oper := [
  ⟨(some 4), (.assign (.const (.slice none 0 0))), 34, "", #[], none⟩]
def F27.r1 : List Oper := [
  ⟨(some 5), (.assign (.const (.slice none 0 0))), 34, "", #[], none⟩]
def F27.r2 : List Oper := [
  ⟨(some 9), (.move (.tmp 1)), 30, "", #[], none⟩,
  ⟨(some 10), (.call ⟨(.value (.func 33)), #[(.tmp 9)], #[30]⟩), 4, "", #[⟨0, .chain⟩], none⟩,
  ⟨(some 11), (.unOp .not 4 (.tmp 10)), 4, "", #[], none⟩]
def F27.r3 : List Oper := [
  ⟨(some 12), (.move (.tmp 5)), 34, "", #[], none⟩,
  ⟨(some 4), (.assign (.tmp 12)), 34, "", #[], none⟩]
def F27.r4 : List Oper := [
  ⟨(some 6), (.assign (.const (.int .i64 0))), 3, "", #[], none⟩]
def F27.r5 : List Oper := [
  ⟨(some 13), (.move (.tmp 0)), 35, "", #[], none⟩,
  ⟨(some 14), (.call ⟨(.builtin .len), #[(.tmp 13)], #[35]⟩), 3, "", #[], none⟩,
  ⟨(some 15), (.move (.tmp 6)), 3, "", #[], none⟩,
  ⟨(some 16), (.binOp .sub 3 (.tmp 14) (.tmp 15) 3), 3, "", #[], none⟩,
  ⟨(some 17), (.binOp .geq 3 (.tmp 16) (.const (.int .i64 4)) 3), 4, "", #[], none⟩]
def F27.r6 : List Oper := [
  ⟨(some 18), (.move (.tmp 0)), 35, "", #[], none⟩,
  ⟨(some 19), (.move (.tmp 6)), 3, "", #[], none⟩,
  ⟨(some 20), (.move (.tmp 6)), 3, "", #[], none⟩,
  ⟨(some 21), (.binOp .add 3 (.tmp 20) (.const (.int .i64 4)) 3), 3, "", #[], none⟩,
  ⟨(some 22), (.slice 35 (.tmp 18) (some (.tmp 19)) (some (.tmp 21)) none), 35, "", #[], none⟩,
  ⟨(some 23), (.call ⟨(.value (.func 43)), #[(.tmp 22)], #[35]⟩), 81, "", #[⟨0, .chain⟩], none⟩,
  ⟨(some 7), (.assign (.tmp 23)), 81, "", #[], none⟩]
def F27.r7 : List Oper := [
  ⟨(some 24), (.move (.tmp 7)), 81, "", #[], none⟩,
  ⟨(some 25), (.binOp .lss 81 (.tmp 24) (.const (.int .u64 7)) 81), 4, "", #[], none⟩,
  ⟨(some 26), (.move (.tmp 25)), 4, "", #[], none⟩,
  ⟨(some 27), (.move (.tmp 7)), 81, "", #[], (some (26, false))⟩,
  ⟨(some 28), (.move (.tmp 1)), 30, "", #[], (some (26, false))⟩,
  ⟨(some 29), (.convert 30 81 (.tmp 28)), 81, "", #[], (some (26, false))⟩,
  ⟨(some 30), (.binOp .gtr 81 (.tmp 27) (.tmp 29) 81), 4, "", #[], (some (26, false))⟩,
  ⟨(some 31), (.pick (.tmp 26) (.const (.bool true)) (.tmp 30)), 4, "", #[], none⟩,
  ⟨(some 32), (.move (.tmp 31)), 4, "", #[], none⟩,
  ⟨(some 33), (.move (.tmp 7)), 81, "", #[], (some (32, false))⟩,
  ⟨(some 34), (.move (.tmp 0)), 35, "", #[], (some (32, false))⟩,
  ⟨(some 35), (.call ⟨(.builtin .len), #[(.tmp 34)], #[35]⟩), 3, "", #[], (some (32, false))⟩,
  ⟨(some 36), (.move (.tmp 6)), 3, "", #[], (some (32, false))⟩,
  ⟨(some 37), (.binOp .sub 3 (.tmp 35) (.tmp 36) 3), 3, "", #[], (some (32, false))⟩,
  ⟨(some 38), (.convert 3 81 (.tmp 37)), 81, "", #[], (some (32, false))⟩,
  ⟨(some 39), (.binOp .gtr 81 (.tmp 33) (.tmp 38) 81), 4, "", #[], (some (32, false))⟩,
  ⟨(some 40), (.pick (.tmp 32) (.const (.bool true)) (.tmp 39)), 4, "", #[], none⟩]
def F27.r8 : List Oper := [
  ⟨(some 8), (.assign (.const (.slice none 0 0))), 35, "", #[], none⟩]
def F27.r9 : List Oper := [
  ⟨(some 41), (.move (.tmp 8)), 35, "", #[], none⟩,
  ⟨(some 42), (.move (.tmp 0)), 35, "", #[], none⟩,
  ⟨(some 43), (.move (.tmp 6)), 3, "", #[], none⟩,
  ⟨(some 44), (.move (.tmp 6)), 3, "", #[], none⟩,
  ⟨(some 45), (.move (.tmp 7)), 81, "", #[], none⟩,
  ⟨(some 46), (.convert 81 3 (.tmp 45)), 3, "", #[], none⟩,
  ⟨(some 47), (.binOp .add 3 (.tmp 44) (.tmp 46) 3), 3, "", #[], none⟩,
  ⟨(some 48), (.slice 35 (.tmp 42) (some (.tmp 43)) (some (.tmp 47)) none), 35, "", #[], none⟩,
  ⟨(some 49), (.call ⟨(.builtin .append), #[(.tmp 41), (.tmp 48)], #[35, 35]⟩), 35, "", #[⟨0, .chain⟩], none⟩,
  ⟨(some 8), (.assign (.tmp 49)), 35, "", #[], none⟩]
def F27.r10 : List Oper := [
  ⟨(some 50), (.move (.tmp 5)), 34, "", #[], none⟩,
  ⟨(some 51), (.move (.tmp 8)), 35, "", #[], none⟩,
  ⟨(some 52), (.buildSlice 34 1 #[(0, (.tmp 51))]), 34, "", #[⟨0, .chain⟩], none⟩,
  ⟨(some 53), (.call ⟨(.builtin .append), #[(.tmp 50), (.tmp 52)], #[34, 34]⟩), 34, "", #[⟨0, .chain⟩], none⟩,
  ⟨(some 5), (.assign (.tmp 53)), 34, "", #[], none⟩]
def F27.r11 : List Oper := [
  ⟨(some 54), (.move (.tmp 6)), 3, "", #[], none⟩,
  ⟨(some 55), (.move (.tmp 7)), 81, "", #[], none⟩,
  ⟨(some 56), (.convert 81 3 (.tmp 55)), 3, "", #[], none⟩,
  ⟨(some 57), (.binOp .add 3 (.tmp 54) (.tmp 56) 3), 3, "", #[], none⟩,
  ⟨(some 6), (.assign (.tmp 57)), 3, "", #[], none⟩]
def F27.r12 : List Oper := [
  ⟨(some 58), (.move (.tmp 5)), 34, "", #[], none⟩,
  ⟨(some 4), (.assign (.tmp 58)), 34, "", #[], none⟩]
def F27.t8 : Cd := (.seq (.region 8 F27.r8.toArray false) (.seq (.region 9 F27.r9.toArray false) (.seq (.region 10 F27.r10.toArray false) (.region 11 F27.r11.toArray false))))
theorem F27.t8_eq {P : Program} {Q : Post} {e : FA} {w : World} {θ : Tag (F27.t8, Q, e, w)} : cwE P F27.t8 Q e w θ = cwE P (.seq (.region 8 F27.r8.toArray false) (.seq (.region 9 F27.r9.toArray false) (.seq (.region 10 F27.r10.toArray false) (.region 11 F27.r11.toArray false)))) Q e w := rfl
def F27.t6 : Cd := (.block 1 (.seq (.region 6 F27.r6.toArray false) (.seq (.seq (.region 7 F27.r7.toArray false) (.cond (.tmp 40) (.exit 0) .skip)) F27.t8)))
theorem F27.t6_eq {P : Program} {Q : Post} {e : FA} {w : World} {θ : Tag (F27.t6, Q, e, w)} : cwE P F27.t6 Q e w θ = cwE P (.block 1 (.seq (.region 6 F27.r6.toArray false) (.seq (.seq (.region 7 F27.r7.toArray false) (.cond (.tmp 40) (.exit 0) .skip)) F27.t8))) Q e w := rfl
def F27.t12 : Cd := (.seq (.region 12 F27.r12.toArray false) .ret)
theorem F27.t12_eq {P : Program} {Q : Post} {e : FA} {w : World} {θ : Tag (F27.t12, Q, e, w)} : cwE P F27.t12 Q e w θ = cwE P (.seq (.region 12 F27.r12.toArray false) .ret) Q e w := rfl
def F27.t4 : Cd := (.seq (.region 4 F27.r4.toArray false) (.seq (.block 0 (.loop (.seq (.seq (.region 5 F27.r5.toArray false) (.cond (.tmp 17) .skip (.exit 0))) F27.t6))) F27.t12))
theorem F27.t4_eq {P : Program} {Q : Post} {e : FA} {w : World} {θ : Tag (F27.t4, Q, e, w)} : cwE P F27.t4 Q e w θ = cwE P (.seq (.region 4 F27.r4.toArray false) (.seq (.block 0 (.loop (.seq (.seq (.region 5 F27.r5.toArray false) (.cond (.tmp 17) .skip (.exit 0))) F27.t6))) F27.t12)) Q e w := rfl
def F27.code : Cd := (.seq (.region 0 F27.r0.toArray false) (.seq (.region 1 F27.r1.toArray false) (.seq (.seq (.region 2 F27.r2.toArray false) (.cond (.tmp 11) (.seq (.region 3 F27.r3.toArray false) .ret) .skip)) F27.t4)))
theorem F27.calls {args : Array Value} {w : World} {R : Ending → World → Prop} (hn : args.size ≤ 59) (h : cwE Try.prog F27.code (fnP Try.prog #[(.tmp 4)] R) (entry args) w) : Calls Try.prog 27 args w R :=
  calls_of_cwE (types := Try.prog.types) follows Try.func27 F27.code rfl (by kernel_rfl) hn h

def F28.r0 : List Oper := [
  ⟨(some 6), (.box 3 (.tmp 2)), 0, "", #[⟨0, .chain⟩], none⟩,
  ⟨(some 7), (.box 33 (.tmp 3)), 0, "", #[⟨0, .chain⟩], none⟩,
  ⟨(some 8), (.alloc 34), 0, "", #[⟨0, .chain⟩], none⟩,
  ⟨(some 9), (.alloc 4), 0, "", #[⟨0, .chain⟩], none⟩]
def F28.r1 : List Oper := [
  ⟨(some 10), (.alloc 34), 0, "", #[⟨0, .chain⟩], none⟩]
def F28.r2 : List Oper := [
  ⟨(some 18), (.move (.tmp 0)), 35, "", #[], none⟩,
  ⟨(some 19), (.call ⟨(.value (.func 44)), #[(.tmp 18)], #[35]⟩), 35, "", #[⟨0, .chain⟩], none⟩,
  ⟨(some 11), (.assign (.tmp 19)), 35, "", #[], none⟩]
def F28.r3 : List Oper := [
  ⟨(some 20), (.move (.tmp 11)), 35, "", #[], none⟩,
  ⟨(some 21), (.move (.tmp 0)), 35, "", #[], none⟩,
  ⟨(some 22), (.call ⟨(.builtin .len), #[(.tmp 21)], #[35]⟩), 3, "", #[], none⟩,
  ⟨(some 23), (.slice 35 (.tmp 20) none (some (.tmp 22)) none), 35, "", #[], none⟩,
  ⟨(some 24), (.move (.tmp 1)), 30, "", #[], none⟩,
  ⟨(some 25), (.call ⟨(.value (.func 30)), #[(.tmp 23), (.tmp 24)], #[35, 30]⟩), 63, "", #[⟨0, .chain⟩], none⟩,
  ⟨(some 12), (.alloc 63), 0, "", #[⟨0, .chain⟩], none⟩,
  ⟨none, (.store 63 (.tmp 12) (.tmp 25)), 0, "", #[⟨0, .chain⟩], none⟩]
def F28.r4 : List Oper := [
  ⟨(some 26), (.load 63 (.tmp 12)), 63, "", #[⟨0, .data⟩], none⟩,
  ⟨(some 27), (.binOp .eql 63 (.tmp 26) (.const .nilFunc) 63), 4, "", #[], none⟩]
def F28.r5 : List Oper := [
  ⟨none, (.store 34 (.tmp 8) (.const (.slice none 0 0))), 0, "", #[⟨0, .chain⟩], none⟩,
  ⟨none, (.store 4 (.tmp 9) (.const (.bool false))), 0, "", #[⟨0, .chain⟩], none⟩]
def F28.r6 : List Oper := [
  ⟨(some 28), (.move (.tmp 11)), 35, "", #[], none⟩,
  ⟨(some 29), (.move (.tmp 0)), 35, "", #[], none⟩,
  ⟨(some 30), (.call ⟨(.value (.func 45)), #[(.tmp 28), (.tmp 29)], #[35, 35]⟩), 4, "", #[⟨0, .chain⟩], none⟩,
  ⟨(some 13), (.assign (.tmp 30)), 4, "", #[], none⟩]
def F28.r7 : List Oper := [
  ⟨(some 31), (.load 63 (.tmp 12)), 63, "", #[⟨0, .data⟩], none⟩]
def F28.r8 : List Oper := [
  ⟨(some 14), (.assign (.tmp 32)), 35, "", #[], none⟩]
def F28.r9 : List Oper := [
  ⟨(some 15), (.assign (.const (.slice none 0 0))), 35, "", #[], none⟩]
def F28.r10 : List Oper := [
  ⟨(some 33), (.move (.tmp 15)), 35, "", #[], none⟩,
  ⟨(some 34), (.move (.tmp 14)), 35, "", #[], none⟩,
  ⟨(some 35), (.call ⟨(.builtin .append), #[(.tmp 33), (.tmp 34)], #[35, 35]⟩), 35, "", #[⟨0, .chain⟩], none⟩,
  ⟨(some 15), (.assign (.tmp 35)), 35, "", #[], none⟩]
def F28.r11 : List Oper := [
  ⟨(some 36), (.load 34 (.tmp 10)), 34, "", #[⟨0, .data⟩], none⟩,
  ⟨(some 37), (.move (.tmp 15)), 35, "", #[], none⟩,
  ⟨(some 38), (.buildSlice 34 1 #[(0, (.tmp 37))]), 34, "", #[⟨0, .chain⟩], none⟩,
  ⟨(some 39), (.call ⟨(.builtin .append), #[(.tmp 36), (.tmp 38)], #[34, 34]⟩), 34, "", #[⟨0, .chain⟩], none⟩,
  ⟨none, (.store 34 (.tmp 10) (.tmp 39)), 0, "", #[⟨0, .chain⟩], none⟩]
def F28.r12 : List Oper := [
  ⟨(some 40), (.load 33 (.tmp 7)), 33, "", #[⟨0, .data⟩], none⟩,
  ⟨(some 41), (.move (.tmp 14)), 35, "", #[], none⟩,
  ⟨(some 42), (.call ⟨(.value (.func 46)), #[(.tmp 40), (.tmp 41)], #[33, 35]⟩), 0, "", #[⟨0, .chain⟩], none⟩]
def F28.r13 : List Oper := [
  ⟨(some 43), (.load 34 (.tmp 10)), 34, "", #[⟨0, .data⟩], none⟩,
  ⟨(some 44), (.call ⟨(.builtin .len), #[(.tmp 43)], #[34]⟩), 3, "", #[], none⟩,
  ⟨(some 45), (.load 3 (.tmp 6)), 3, "", #[⟨0, .data⟩], none⟩,
  ⟨(some 46), (.binOp .eql 3 (.tmp 44) (.tmp 45) 3), 4, "", #[], none⟩]
def F28.r14 : List Oper := [
  ⟨(some 16), (.alloc 3), 0, "", #[⟨0, .chain⟩], none⟩,
  ⟨none, (.store 3 (.tmp 16) (.const (.int .i64 0))), 0, "", #[⟨0, .chain⟩], none⟩]
def F28.r15 : List Oper := [
  ⟨(some 47), (.load 63 (.tmp 12)), 63, "", #[⟨0, .data⟩], none⟩]
def F28.r16 : List Oper := [
  ⟨(some 49), (.load 3 (.tmp 16)), 3, "", #[⟨0, .data⟩], none⟩,
  ⟨(some 50), (.binOp .add 3 (.tmp 49) (.const (.int .i64 1)) 3), 3, "", #[], none⟩,
  ⟨none, (.store 3 (.tmp 16) (.tmp 50)), 0, "", #[⟨0, .chain⟩], none⟩]
def F28.r17 : List Oper := [
  ⟨(some 51), (.load 3 (.tmp 16)), 3, "", #[⟨0, .data⟩], none⟩,
  ⟨(some 52), (.binOp .eql 3 (.tmp 51) (.const (.int .i64 2)) 3), 4, "", #[], none⟩]
def F28.r18 : List Oper := [
  ⟨(some 53), (.load 63 (.tmp 12)), 63, "", #[⟨0, .data⟩], none⟩]
def F28.r19 : List Oper := [
  ⟨(some 17), (.assign (.tmp 54)), 35, "", #[], none⟩]
def F28.r20 : List Oper := [
  ⟨(some 55), (.load 33 (.tmp 7)), 33, "", #[⟨0, .data⟩], none⟩,
  ⟨(some 56), (.move (.tmp 17)), 35, "", #[], none⟩,
  ⟨(some 57), (.call ⟨(.value (.func 46)), #[(.tmp 55), (.tmp 56)], #[33, 35]⟩), 0, "", #[⟨0, .chain⟩], none⟩]
def F28.r21 : List Oper := [
  ⟨(some 58), (.move (.tmp 17)), 35, "", #[], none⟩,
  ⟨(some 59), (.call ⟨(.builtin .len), #[(.tmp 58)], #[35]⟩), 3, "", #[], none⟩,
  ⟨(some 60), (.binOp .lss 3 (.tmp 59) (.const (.int .i64 7)) 3), 4, "", #[], none⟩]
def F28.r22 : List Oper := [
  ⟨none, (.store 34 (.tmp 8) (.const (.slice none 0 0))), 0, "", #[⟨0, .chain⟩], none⟩,
  ⟨none, (.store 4 (.tmp 9) (.const (.bool false))), 0, "", #[⟨0, .chain⟩], none⟩]
def F28.r23 : List Oper := [
  ⟨(some 61), (.load 34 (.tmp 10)), 34, "", #[⟨0, .data⟩], none⟩,
  ⟨(some 62), (.move (.tmp 13)), 4, "", #[], none⟩,
  ⟨none, (.store 34 (.tmp 8) (.tmp 61)), 0, "", #[⟨0, .chain⟩], none⟩,
  ⟨none, (.store 4 (.tmp 9) (.tmp 62)), 0, "", #[⟨0, .chain⟩], none⟩]
def F28.a0 : Cd := (.region 8 F28.r8.toArray false)
def F28.b0 : Cd := (.block 1 (.seq (.region 9 F28.r9.toArray false) (.seq (.region 10 F28.r10.toArray false) (.seq (.region 11 F28.r11.toArray false) (.seq (.region 12 F28.r12.toArray false) (.seq (.region 13 F28.r13.toArray false) (.cond (.tmp 46) (.exit 0) .skip)))))))
def F28.a1 : Cd := (.region 19 F28.r19.toArray false)
def F28.b1 : Cd := (.block 5 (.seq (.region 20 F28.r20.toArray false) (.seq (.region 21 F28.r21.toArray false) (.cond (.tmp 60) (.seq (.region 22 F28.r22.toArray false) .ret) .skip))))
def F28.a2 : Cd := .skip
def F28.b2 : Cd := (.block 3 (.seq (.region 16 F28.r16.toArray false) (.seq (.region 17 F28.r17.toArray false) (.cond (.tmp 52) (.seq (.seq (.region 18 F28.r18.toArray false) (.block 4 (.rangeFunc (.tmp 53) #[54] F28.a1 F28.b1))) (.exit 2)) .skip))))
def F28.t23 : Cd := (.seq (.region 23 F28.r23.toArray false) .ret)
theorem F28.t23_eq {P : Program} {Q : Post} {e : FA} {w : World} {θ : Tag (F28.t23, Q, e, w)} : cwE P F28.t23 Q e w θ = cwE P (.seq (.region 23 F28.r23.toArray false) .ret) Q e w := rfl
def F28.t14 : Cd := (.seq (.region 14 F28.r14.toArray false) (.seq (.seq (.region 15 F28.r15.toArray false) (.block 2 (.rangeFunc (.tmp 47) #[48] F28.a2 F28.b2))) F28.t23))
theorem F28.t14_eq {P : Program} {Q : Post} {e : FA} {w : World} {θ : Tag (F28.t14, Q, e, w)} : cwE P F28.t14 Q e w θ = cwE P (.seq (.region 14 F28.r14.toArray false) (.seq (.seq (.region 15 F28.r15.toArray false) (.block 2 (.rangeFunc (.tmp 47) #[48] F28.a2 F28.b2))) F28.t23)) Q e w := rfl
def F28.t6 : Cd := (.seq (.region 6 F28.r6.toArray false) (.seq (.seq (.region 7 F28.r7.toArray false) (.block 0 (.rangeFunc (.tmp 31) #[32] F28.a0 F28.b0))) F28.t14))
theorem F28.t6_eq {P : Program} {Q : Post} {e : FA} {w : World} {θ : Tag (F28.t6, Q, e, w)} : cwE P F28.t6 Q e w θ = cwE P (.seq (.region 6 F28.r6.toArray false) (.seq (.seq (.region 7 F28.r7.toArray false) (.block 0 (.rangeFunc (.tmp 31) #[32] F28.a0 F28.b0))) F28.t14)) Q e w := rfl
def F28.code : Cd := (.seq (.region 0 F28.r0.toArray false) (.seq (.region 1 F28.r1.toArray false) (.seq (.region 2 F28.r2.toArray false) (.seq (.region 3 F28.r3.toArray false) (.seq (.seq (.region 4 F28.r4.toArray false) (.cond (.tmp 27) (.seq (.region 5 F28.r5.toArray false) .ret) .skip)) F28.t6)))))
theorem F28.calls {args : Array Value} {w : World} {R : Ending → World → Prop} (hn : args.size ≤ 63) (h : cwE Try.prog F28.code (fnP Try.prog #[(.cell 8 34), (.cell 9 4)] R) (entry args) w) : Calls Try.prog 28 args w R :=
  calls_of_cwE (types := Try.prog.types) follows Try.func28 F28.code rfl (by kernel_rfl) hn h

def F29.r0 : List Oper := [
  ⟨(some 4), (.assign (.const (.bool false))), 4, "", #[], none⟩]
def F29.r1 : List Oper := [
  ⟨(some 7), (.move (.tmp 0)), 34, "", #[], none⟩,
  ⟨(some 8), (.call ⟨(.builtin .len), #[(.tmp 7)], #[34]⟩), 3, "", #[], none⟩,
  ⟨(some 9), (.move (.tmp 1)), 34, "", #[], none⟩,
  ⟨(some 10), (.call ⟨(.builtin .len), #[(.tmp 9)], #[34]⟩), 3, "", #[], none⟩,
  ⟨(some 11), (.binOp .neq 3 (.tmp 8) (.tmp 10) 3), 4, "", #[], none⟩]
def F29.r2 : List Oper := [
  ⟨(some 4), (.assign (.const (.bool false))), 4, "", #[], none⟩]
def F29.r3 : List Oper := [
  ⟨(some 5), (.assign (.const (.int .i64 0))), 3, "", #[], none⟩]
def F29.r4 : List Oper := [
  ⟨(some 12), (.move (.tmp 5)), 3, "", #[], none⟩,
  ⟨(some 13), (.move (.tmp 0)), 34, "", #[], none⟩,
  ⟨(some 14), (.call ⟨(.builtin .len), #[(.tmp 13)], #[34]⟩), 3, "", #[], none⟩,
  ⟨(some 15), (.binOp .lss 3 (.tmp 12) (.tmp 14) 3), 4, "", #[], none⟩]
def F29.r6 : List Oper := [
  ⟨(some 18), (.move (.tmp 0)), 34, "", #[], none⟩,
  ⟨(some 19), (.move (.tmp 5)), 3, "", #[], none⟩,
  ⟨(some 20), (.indexAddr 34 (.tmp 18) (.tmp 19)), 0, "", #[], none⟩,
  ⟨(some 22), (.move (.tmp 1)), 34, "", #[], none⟩,
  ⟨(some 23), (.move (.tmp 5)), 3, "", #[], none⟩,
  ⟨(some 24), (.indexAddr 34 (.tmp 22) (.tmp 23)), 0, "", #[], none⟩,
  ⟨(some 21), (.load 35 (.tmp 20)), 35, "", #[⟨256, .data⟩], none⟩,
  ⟨(some 25), (.load 35 (.tmp 24)), 35, "", #[⟨256, .data⟩], none⟩,
  ⟨(some 26), (.call ⟨(.value (.func 31)), #[(.tmp 21), (.tmp 25)], #[35, 35]⟩), 4, "", #[⟨8, .chain⟩], none⟩,
  ⟨(some 6), (.assign (.tmp 26)), 4, "", #[], none⟩]
def F29.r7 : List Oper := [
  ⟨(some 27), (.move (.tmp 6)), 4, "", #[], none⟩,
  ⟨(some 28), (.unOp .not 4 (.tmp 27)), 4, "", #[], none⟩]
def F29.r8 : List Oper := [
  ⟨(some 4), (.assign (.const (.bool false))), 4, "", #[], none⟩]
def F29.r5 : List Oper := [
  ⟨(some 16), (.move (.tmp 5)), 3, "", #[], none⟩,
  ⟨(some 17), (.binOp .add 3 (.tmp 16) (.const (.int .i64 1)) 3), 3, "", #[], none⟩,
  ⟨(some 5), (.assign (.tmp 17)), 3, "", #[], none⟩]
def F29.r9 : List Oper := [
  ⟨(some 4), (.assign (.const (.bool true))), 4, "", #[], none⟩]
def F29.t5 : Cd := (.region 5 F29.r5.toArray false)
theorem F29.t5_eq {P : Program} {Q : Post} {e : FA} {w : World} {θ : Tag (F29.t5, Q, e, w)} : cwE P F29.t5 Q e w θ = cwE P (.region 5 F29.r5.toArray false) Q e w := rfl
def F29.t6 : Cd := (.seq (.block 1 (.seq (.region 6 F29.r6.toArray true) (.seq (.region 7 F29.r7.toArray false) (.cond (.tmp 28) (.seq (.region 8 F29.r8.toArray false) .ret) .skip)))) F29.t5)
theorem F29.t6_eq {P : Program} {Q : Post} {e : FA} {w : World} {θ : Tag (F29.t6, Q, e, w)} : cwE P F29.t6 Q e w θ = cwE P (.seq (.block 1 (.seq (.region 6 F29.r6.toArray true) (.seq (.region 7 F29.r7.toArray false) (.cond (.tmp 28) (.seq (.region 8 F29.r8.toArray false) .ret) .skip)))) F29.t5) Q e w := rfl
def F29.t9 : Cd := (.seq (.region 9 F29.r9.toArray false) .ret)
theorem F29.t9_eq {P : Program} {Q : Post} {e : FA} {w : World} {θ : Tag (F29.t9, Q, e, w)} : cwE P F29.t9 Q e w θ = cwE P (.seq (.region 9 F29.r9.toArray false) .ret) Q e w := rfl
def F29.t3 : Cd := (.seq (.seq (.region 3 F29.r3.toArray false) (.block 0 (.loop (.seq (.seq (.region 4 F29.r4.toArray false) (.cond (.tmp 15) .skip (.exit 0))) F29.t6)))) F29.t9)
theorem F29.t3_eq {P : Program} {Q : Post} {e : FA} {w : World} {θ : Tag (F29.t3, Q, e, w)} : cwE P F29.t3 Q e w θ = cwE P (.seq (.seq (.region 3 F29.r3.toArray false) (.block 0 (.loop (.seq (.seq (.region 4 F29.r4.toArray false) (.cond (.tmp 15) .skip (.exit 0))) F29.t6)))) F29.t9) Q e w := rfl
def F29.code : Cd := (.seq (.region 0 F29.r0.toArray false) (.seq (.seq (.region 1 F29.r1.toArray false) (.cond (.tmp 11) (.seq (.region 2 F29.r2.toArray false) .ret) .skip)) F29.t3))
theorem F29.calls {args : Array Value} {w : World} {R : Ending → World → Prop} (hn : args.size ≤ 29) (h : cwE Try.prog F29.code (fnP Try.prog #[(.tmp 4)] R) (entry args) w) : Calls Try.prog 29 args w R :=
  calls_of_cwE (types := Try.prog.types) follows Try.func29 F29.code rfl (by kernel_rfl) hn h

def F30.r0 : List Oper := [
  ⟨(some 3), (.box 30 (.tmp 1)), 0, "", #[⟨0, .chain⟩], none⟩,
  ⟨(some 4), (.assign (.const .nilFunc)), 63, "", #[], none⟩]
def F30.r1 : List Oper := [
  ⟨(some 6), (.move (.tmp 0)), 35, "", #[], none⟩,
  ⟨(some 7), (.call ⟨(.builtin .append), #[(.const (.slice none 0 0)), (.tmp 6)], #[35, 35]⟩), 35, "", #[⟨0, .chain⟩], none⟩,
  ⟨(some 5), (.alloc 35), 0, "", #[⟨0, .chain⟩], none⟩,
  ⟨none, (.store 35 (.tmp 5) (.tmp 7)), 0, "", #[⟨0, .chain⟩], none⟩]
def F30.r2 : List Oper := [
  ⟨(some 8), (.makeFunc (.func 47) #[] #[(.tmp 3), (.tmp 5)]), 62, "", #[], none⟩,
  ⟨(some 4), (.assign (.tmp 8)), 63, "", #[], none⟩]
def F30.code : Cd := (.seq (.region 0 F30.r0.toArray false) (.seq (.region 1 F30.r1.toArray false) (.seq (.region 2 F30.r2.toArray false) .ret)))
theorem F30.calls {args : Array Value} {w : World} {R : Ending → World → Prop} (hn : args.size ≤ 9) (h : cwE Try.prog F30.code (fnP Try.prog #[(.tmp 4)] R) (entry args) w) : Calls Try.prog 30 args w R :=
  calls_of_cwE (types := Try.prog.types) follows Try.func30 F30.code rfl (by kernel_rfl) hn h

def F31.r0 : List Oper := [
  ⟨(some 4), (.assign (.const (.bool false))), 4, "", #[], none⟩]
def F31.r1 : List Oper := [
  ⟨(some 6), (.move (.tmp 0)), 35, "", #[], none⟩,
  ⟨(some 7), (.call ⟨(.builtin .len), #[(.tmp 6)], #[35]⟩), 3, "", #[], none⟩,
  ⟨(some 8), (.move (.tmp 1)), 35, "", #[], none⟩,
  ⟨(some 9), (.call ⟨(.builtin .len), #[(.tmp 8)], #[35]⟩), 3, "", #[], none⟩,
  ⟨(some 10), (.binOp .neq 3 (.tmp 7) (.tmp 9) 3), 4, "", #[], none⟩]
def F31.r2 : List Oper := [
  ⟨(some 4), (.assign (.const (.bool false))), 4, "", #[], none⟩]
def F31.r3 : List Oper := [
  ⟨(some 5), (.assign (.const (.int .i64 0))), 3, "", #[], none⟩]
def F31.r4 : List Oper := [
  ⟨(some 11), (.move (.tmp 5)), 3, "", #[], none⟩,
  ⟨(some 12), (.move (.tmp 0)), 35, "", #[], none⟩,
  ⟨(some 13), (.call ⟨(.builtin .len), #[(.tmp 12)], #[35]⟩), 3, "", #[], none⟩,
  ⟨(some 14), (.binOp .lss 3 (.tmp 11) (.tmp 13) 3), 4, "", #[], none⟩]
def F31.r6 : List Oper := [
  ⟨(some 17), (.move (.tmp 0)), 35, "", #[], none⟩,
  ⟨(some 18), (.move (.tmp 5)), 3, "", #[], none⟩,
  ⟨(some 19), (.indexAddr 35 (.tmp 17) (.tmp 18)), 0, "", #[], none⟩,
  ⟨(some 21), (.move (.tmp 1)), 35, "", #[], none⟩,
  ⟨(some 22), (.move (.tmp 5)), 3, "", #[], none⟩,
  ⟨(some 23), (.indexAddr 35 (.tmp 21) (.tmp 22)), 0, "", #[], none⟩,
  ⟨(some 20), (.load 5 (.tmp 19)), 5, "", #[⟨0, .data⟩], none⟩,
  ⟨(some 24), (.load 5 (.tmp 23)), 5, "", #[⟨0, .data⟩], none⟩,
  ⟨(some 25), (.binOp .neq 5 (.tmp 20) (.tmp 24) 5), 4, "", #[], none⟩]
def F31.r7 : List Oper := [
  ⟨(some 4), (.assign (.const (.bool false))), 4, "", #[], none⟩]
def F31.r5 : List Oper := [
  ⟨(some 15), (.move (.tmp 5)), 3, "", #[], none⟩,
  ⟨(some 16), (.binOp .add 3 (.tmp 15) (.const (.int .i64 1)) 3), 3, "", #[], none⟩,
  ⟨(some 5), (.assign (.tmp 16)), 3, "", #[], none⟩]
def F31.r8 : List Oper := [
  ⟨(some 4), (.assign (.const (.bool true))), 4, "", #[], none⟩]
def F31.t5 : Cd := (.region 5 F31.r5.toArray false)
theorem F31.t5_eq {P : Program} {Q : Post} {e : FA} {w : World} {θ : Tag (F31.t5, Q, e, w)} : cwE P F31.t5 Q e w θ = cwE P (.region 5 F31.r5.toArray false) Q e w := rfl
def F31.t6 : Cd := (.seq (.block 1 (.seq (.region 6 F31.r6.toArray true) (.cond (.tmp 25) (.seq (.region 7 F31.r7.toArray false) .ret) .skip))) F31.t5)
theorem F31.t6_eq {P : Program} {Q : Post} {e : FA} {w : World} {θ : Tag (F31.t6, Q, e, w)} : cwE P F31.t6 Q e w θ = cwE P (.seq (.block 1 (.seq (.region 6 F31.r6.toArray true) (.cond (.tmp 25) (.seq (.region 7 F31.r7.toArray false) .ret) .skip))) F31.t5) Q e w := rfl
def F31.t8 : Cd := (.seq (.region 8 F31.r8.toArray false) .ret)
theorem F31.t8_eq {P : Program} {Q : Post} {e : FA} {w : World} {θ : Tag (F31.t8, Q, e, w)} : cwE P F31.t8 Q e w θ = cwE P (.seq (.region 8 F31.r8.toArray false) .ret) Q e w := rfl
def F31.t3 : Cd := (.seq (.seq (.region 3 F31.r3.toArray false) (.block 0 (.loop (.seq (.seq (.region 4 F31.r4.toArray false) (.cond (.tmp 14) .skip (.exit 0))) F31.t6)))) F31.t8)
theorem F31.t3_eq {P : Program} {Q : Post} {e : FA} {w : World} {θ : Tag (F31.t3, Q, e, w)} : cwE P F31.t3 Q e w θ = cwE P (.seq (.seq (.region 3 F31.r3.toArray false) (.block 0 (.loop (.seq (.seq (.region 4 F31.r4.toArray false) (.cond (.tmp 14) .skip (.exit 0))) F31.t6)))) F31.t8) Q e w := rfl
def F31.code : Cd := (.seq (.region 0 F31.r0.toArray false) (.seq (.seq (.region 1 F31.r1.toArray false) (.cond (.tmp 10) (.seq (.region 2 F31.r2.toArray false) .ret) .skip)) F31.t3))
theorem F31.calls {args : Array Value} {w : World} {R : Ending → World → Prop} (hn : args.size ≤ 26) (h : cwE Try.prog F31.code (fnP Try.prog #[(.tmp 4)] R) (entry args) w) : Calls Try.prog 31 args w R :=
  calls_of_cwE (types := Try.prog.types) follows Try.func31 F31.code rfl (by kernel_rfl) hn h

def F32.r0 : List Oper := [
  ⟨(some 2), (.assign (.const (.bool false))), 4, "", #[], none⟩]
def F32.r1 : List Oper := [
  ⟨(some 3), (.move (.tmp 0)), 30, "", #[], none⟩,
  ⟨(some 4), (.binOp .geq 30 (.tmp 3) (.const (.int .u32 7)) 30), 4, "", #[], none⟩,
  ⟨(some 5), (.move (.tmp 4)), 4, "", #[], none⟩,
  ⟨(some 6), (.move (.tmp 0)), 30, "", #[], (some (5, true))⟩,
  ⟨(some 7), (.binOp .leq 30 (.tmp 6) (.const (.int .u32 65536)) 30), 4, "", #[], (some (5, true))⟩,
  ⟨(some 8), (.pick (.tmp 5) (.tmp 7) (.const (.bool false))), 4, "", #[], none⟩,
  ⟨(some 2), (.assign (.tmp 8)), 4, "", #[], none⟩]
def F32.code : Cd := (.seq (.region 0 F32.r0.toArray false) (.seq (.region 1 F32.r1.toArray false) .ret))
theorem F32.calls {args : Array Value} {w : World} {R : Ending → World → Prop} (hn : args.size ≤ 9) (h : cwE Try.prog F32.code (fnP Try.prog #[(.tmp 2)] R) (entry args) w) : Calls Try.prog 32 args w R :=
  calls_of_cwE (types := Try.prog.types) follows Try.func32 F32.code rfl (by kernel_rfl) hn h

def F33.r0 : List Oper := [
  ⟨(some 2), (.assign (.const (.bool false))), 4, "", #[], none⟩]
def F33.r1 : List Oper := [
  ⟨(some 3), (.move (.tmp 0)), 30, "", #[], none⟩,
  ⟨(some 4), (.binOp .geq 30 (.tmp 3) (.const (.int .u32 7)) 30), 4, "", #[], none⟩,
  ⟨(some 5), (.move (.tmp 4)), 4, "", #[], none⟩,
  ⟨(some 6), (.move (.tmp 0)), 30, "", #[], (some (5, true))⟩,
  ⟨(some 7), (.binOp .leq 30 (.tmp 6) (.const (.int .u32 65536)) 30), 4, "", #[], (some (5, true))⟩,
  ⟨(some 8), (.pick (.tmp 5) (.tmp 7) (.const (.bool false))), 4, "", #[], none⟩,
  ⟨(some 2), (.assign (.tmp 8)), 4, "", #[], none⟩]
def F33.code : Cd := (.seq (.region 0 F33.r0.toArray false) (.seq (.region 1 F33.r1.toArray false) .ret))
theorem F33.calls {args : Array Value} {w : World} {R : Ending → World → Prop} (hn : args.size ≤ 9) (h : cwE Try.prog F33.code (fnP Try.prog #[(.tmp 2)] R) (entry args) w) : Calls Try.prog 33 args w R :=
  calls_of_cwE (types := Try.prog.types) follows Try.func33 F33.code rfl (by kernel_rfl) hn h

def F34.r0 : List Oper := [
  ⟨(some 6), (.assign (.const (.int .i64 0))), 3, "", #[], none⟩,
  ⟨(some 7), (.assign (.const (.bool false))), 4, "", #[], none⟩]
def F34.r1 : List Oper := [
  ⟨(some 12), (.move (.tmp 2)), 35, "", #[], none⟩,
  ⟨(some 13), (.call ⟨(.value (.func 44)), #[(.tmp 12)], #[35]⟩), 35, "", #[⟨0, .chain⟩], none⟩,
  ⟨(some 8), (.assign (.tmp 13)), 35, "", #[], none⟩]
def F34.r2 : List Oper := [
  ⟨(some 14), (.move (.tmp 0)), 28, "", #[], none⟩,
  ⟨(some 15), (.move (.tmp 8)), 35, "", #[], none⟩,
  ⟨(some 16), (.move (.tmp 2)), 35, "", #[], none⟩,
  ⟨(some 17), (.call ⟨(.builtin .len), #[(.tmp 16)], #[35]⟩), 3, "", #[], none⟩,
  ⟨(some 18), (.slice 35 (.tmp 15) none (some (.tmp 17)) none), 35, "", #[], none⟩,
  ⟨(some 19), (.call ⟨(.value (.func 20)), #[(.tmp 14), (.tmp 18)], #[28, 35]⟩), 3, "", #[⟨0, .chain⟩], none⟩,
  ⟨(some 9), (.assign (.tmp 19)), 3, "", #[], none⟩]
def F34.r3 : List Oper := [
  ⟨(some 20), (.move (.tmp 1)), 31, "", #[], none⟩,
  ⟨(some 21), (.move (.tmp 2)), 35, "", #[], none⟩,
  ⟨(some 22), (.call ⟨(.value (.func 48)), #[(.tmp 20), (.tmp 21)], #[31, 35]⟩), 3, "", #[⟨0, .chain⟩], none⟩,
  ⟨(some 10), (.assign (.tmp 22)), 3, "", #[], none⟩]
def F34.r4 : List Oper := [
  ⟨(some 23), (.move (.tmp 8)), 35, "", #[], none⟩,
  ⟨(some 24), (.move (.tmp 2)), 35, "", #[], none⟩,
  ⟨(some 25), (.call ⟨(.value (.func 45)), #[(.tmp 23), (.tmp 24)], #[35, 35]⟩), 4, "", #[⟨0, .chain⟩], none⟩,
  ⟨(some 11), (.assign (.tmp 25)), 4, "", #[], none⟩]
def F34.r5 : List Oper := [
  ⟨(some 26), (.move (.tmp 10)), 3, "", #[], none⟩,
  ⟨(some 27), (.move (.tmp 11)), 4, "", #[], none⟩,
  ⟨(some 28), (.move (.tmp 27)), 4, "", #[], none⟩,
  ⟨(some 29), (.move (.tmp 9)), 3, "", #[], (some (28, true))⟩,
  ⟨(some 30), (.move (.tmp 10)), 3, "", #[], (some (28, true))⟩,
  ⟨(some 31), (.binOp .eql 3 (.tmp 29) (.tmp 30) 3), 4, "", #[], (some (28, true))⟩,
  ⟨(some 32), (.pick (.tmp 28) (.tmp 31) (.const (.bool false))), 4, "", #[], none⟩,
  ⟨(some 6), (.assign (.tmp 26)), 3, "", #[], none⟩,
  ⟨(some 7), (.assign (.tmp 32)), 4, "", #[], none⟩]
def F34.code : Cd := (.seq (.region 0 F34.r0.toArray false) (.seq (.region 1 F34.r1.toArray false) (.seq (.region 2 F34.r2.toArray false) (.seq (.region 3 F34.r3.toArray false) (.seq (.region 4 F34.r4.toArray false) (.seq (.region 5 F34.r5.toArray false) .ret))))))
theorem F34.calls {args : Array Value} {w : World} {R : Ending → World → Prop} (hn : args.size ≤ 33) (h : cwE Try.prog F34.code (fnP Try.prog #[(.tmp 6), (.tmp 7)] R) (entry args) w) : Calls Try.prog 34 args w R :=
  calls_of_cwE (types := Try.prog.types) follows Try.func34 F34.code rfl (by kernel_rfl) hn h

def F35.r0 : List Oper := [
  ⟨(some 6), (.assign (.const (.bool false))), 4, "", #[], none⟩,
  ⟨(some 7), (.assign (.const (.bool false))), 4, "", #[], none⟩]
def F35.r1 : List Oper := [
  ⟨(some 14), (.move (.tmp 0)), 28, "", #[], none⟩,
  ⟨(some 15), (.call ⟨(.value (.func 21)), #[(.tmp 14)], #[28]⟩), 49, "", #[⟨0, .chain⟩], none⟩,
  ⟨(some 13), (.move (.tmp 15)), 49, "", #[], none⟩,
  ⟨(some 16), (.extract (.tmp 13) 0), 35, "", #[], none⟩,
  ⟨(some 17), (.extract (.tmp 13) 1), 4, "", #[], none⟩,
  ⟨(some 8), (.assign (.tmp 16)), 35, "", #[], none⟩,
  ⟨(some 9), (.assign (.tmp 17)), 4, "", #[], none⟩]
def F35.r2 : List Oper := [
  ⟨(some 19), (.move (.tmp 1)), 31, "", #[], none⟩,
  ⟨(some 20), (.call ⟨(.value (.func 49)), #[(.tmp 19)], #[31]⟩), 49, "", #[⟨0, .chain⟩], none⟩,
  ⟨(some 18), (.move (.tmp 20)), 49, "", #[], none⟩,
  ⟨(some 21), (.extract (.tmp 18) 0), 35, "", #[], none⟩,
  ⟨(some 22), (.extract (.tmp 18) 1), 4, "", #[], none⟩,
  ⟨(some 10), (.assign (.tmp 21)), 35, "", #[], none⟩,
  ⟨(some 11), (.assign (.tmp 22)), 4, "", #[], none⟩]
def F35.r3 : List Oper := [
  ⟨(some 23), (.move (.tmp 8)), 35, "", #[], none⟩,
  ⟨(some 24), (.move (.tmp 10)), 35, "", #[], none⟩,
  ⟨(some 25), (.call ⟨(.value (.func 31)), #[(.tmp 23), (.tmp 24)], #[35, 35]⟩), 4, "", #[⟨0, .chain⟩], none⟩,
  ⟨(some 12), (.assign (.tmp 25)), 4, "", #[], none⟩]
def F35.r4 : List Oper := [
  ⟨(some 26), (.move (.tmp 2)), 33, "", #[], none⟩,
  ⟨(some 27), (.move (.tmp 8)), 35, "", #[], none⟩,
  ⟨(some 28), (.call ⟨(.value (.func 46)), #[(.tmp 26), (.tmp 27)], #[33, 35]⟩), 0, "", #[⟨0, .chain⟩], none⟩]
def F35.r5 : List Oper := [
  ⟨(some 29), (.move (.tmp 11)), 4, "", #[], none⟩,
  ⟨(some 30), (.move (.tmp 12)), 4, "", #[], none⟩,
  ⟨(some 31), (.move (.tmp 30)), 4, "", #[], none⟩,
  ⟨(some 32), (.move (.tmp 9)), 4, "", #[], (some (31, true))⟩,
  ⟨(some 33), (.move (.tmp 11)), 4, "", #[], (some (31, true))⟩,
  ⟨(some 34), (.binOp .eql 4 (.tmp 32) (.tmp 33) 4), 4, "", #[], (some (31, true))⟩,
  ⟨(some 35), (.pick (.tmp 31) (.tmp 34) (.const (.bool false))), 4, "", #[], none⟩,
  ⟨(some 6), (.assign (.tmp 29)), 4, "", #[], none⟩,
  ⟨(some 7), (.assign (.tmp 35)), 4, "", #[], none⟩]
def F35.code : Cd := (.seq (.region 0 F35.r0.toArray false) (.seq (.region 1 F35.r1.toArray false) (.seq (.region 2 F35.r2.toArray false) (.seq (.region 3 F35.r3.toArray false) (.seq (.region 4 F35.r4.toArray false) (.seq (.region 5 F35.r5.toArray false) .ret))))))
theorem F35.calls {args : Array Value} {w : World} {R : Ending → World → Prop} (hn : args.size ≤ 36) (h : cwE Try.prog F35.code (fnP Try.prog #[(.tmp 6), (.tmp 7)] R) (entry args) w) : Calls Try.prog 35 args w R :=
  calls_of_cwE (types := Try.prog.types) follows Try.func35 F35.code rfl (by kernel_rfl) hn h

def F36.r0 : List Oper := [
  ⟨(some 4), (.assign (.const (.int .i64 0))), 51, "", #[], none⟩]
def F36.r1 : List Oper := [
  ⟨(some 5), (.move (.tmp 1)), 30, "", #[], none⟩,
  ⟨(some 6), (.call ⟨(.value (.func 33)), #[(.tmp 5)], #[30]⟩), 4, "", #[⟨0, .chain⟩], none⟩,
  ⟨(some 7), (.unOp .not 4 (.tmp 6)), 4, "", #[], none⟩]
def F36.r2 : List Oper := [
  ⟨(some 4), (.assign (.const (.int .i64 1))), 51, "", #[], none⟩]
def F36.r3 : List Oper := [
  ⟨(some 8), (.move (.tmp 0)), 31, "", #[], none⟩,
  ⟨(some 9), (.move (.tmp 1)), 30, "", #[], none⟩,
  ⟨(some 10), (.nilCheck (.tmp 8)), 0, "", #[], none⟩,
  ⟨(some 11), (.fieldAddr 74 (.tmp 10) 0), 0, "", #[], none⟩,
  ⟨none, (.store 30 (.tmp 11) (.tmp 9)), 0, "", #[⟨0, .chain⟩], none⟩]
def F36.r4 : List Oper := [
  ⟨(some 4), (.assign (.const (.int .i64 0))), 51, "", #[], none⟩]
def F36.t3 : Cd := (.seq (.region 3 F36.r3.toArray false) (.seq (.region 4 F36.r4.toArray false) .ret))
theorem F36.t3_eq {P : Program} {Q : Post} {e : FA} {w : World} {θ : Tag (F36.t3, Q, e, w)} : cwE P F36.t3 Q e w θ = cwE P (.seq (.region 3 F36.r3.toArray false) (.seq (.region 4 F36.r4.toArray false) .ret)) Q e w := rfl
def F36.code : Cd := (.seq (.region 0 F36.r0.toArray false) (.seq (.seq (.region 1 F36.r1.toArray false) (.cond (.tmp 7) (.seq (.region 2 F36.r2.toArray false) .ret) .skip)) F36.t3))
theorem F36.calls {args : Array Value} {w : World} {R : Ending → World → Prop} (hn : args.size ≤ 12) (h : cwE Try.prog F36.code (fnP Try.prog #[(.tmp 4)] R) (entry args) w) : Calls Try.prog 36 args w R :=
  calls_of_cwE (types := Try.prog.types) follows Try.func36 F36.code rfl (by kernel_rfl) hn h

def F37.r0 : List Oper := [
  ⟨(some 8), (.assign (.const (.bool false))), 4, "", #[], none⟩]
def F37.r1 : List Oper := [
  ⟨(some 14), (.move (.tmp 0)), 28, "", #[], none⟩,
  ⟨(some 15), (.move (.tmp 1)), 31, "", #[], none⟩,
  ⟨(some 16), (.move (.tmp 2)), 35, "", #[], none⟩,
  ⟨(some 17), (.call ⟨(.value (.func 34)), #[(.tmp 14), (.tmp 15), (.tmp 16)], #[28, 31, 35]⟩), 75, "", #[⟨0, .chain⟩], none⟩,
  ⟨(some 13), (.move (.tmp 17)), 75, "", #[], none⟩,
  ⟨(some 18), (.extract (.tmp 13) 0), 3, "", #[], none⟩,
  ⟨(some 19), (.extract (.tmp 13) 1), 4, "", #[], none⟩,
  ⟨(some 9), (.assign (.tmp 18)), 3, "", #[], none⟩,
  ⟨(some 10), (.assign (.tmp 19)), 4, "", #[], none⟩]
def F37.r2 : List Oper := [
  ⟨(some 20), (.move (.tmp 10)), 4, "", #[], none⟩,
  ⟨(some 21), (.unOp .not 4 (.tmp 20)), 4, "", #[], none⟩]
def F37.r3 : List Oper := [
  ⟨(some 8), (.assign (.const (.bool false))), 4, "", #[], none⟩]
def F37.r4 : List Oper := [
  ⟨(some 22), (.move (.tmp 2)), 35, "", #[], none⟩,
  ⟨(some 23), (.move (.tmp 9)), 3, "", #[], none⟩,
  ⟨(some 24), (.slice 35 (.tmp 22) (some (.tmp 23)) none none), 35, "", #[], none⟩,
  ⟨(some 2), (.assign (.tmp 24)), 35, "", #[], none⟩]
def F37.r5 : List Oper := [
  ⟨(some 26), (.move (.tmp 0)), 28, "", #[], none⟩,
  ⟨(some 27), (.move (.tmp 1)), 31, "", #[], none⟩,
  ⟨(some 28), (.move (.tmp 3)), 33, "", #[], none⟩,
  ⟨(some 29), (.call ⟨(.value (.func 35)), #[(.tmp 26), (.tmp 27), (.tmp 28)], #[28, 31, 33]⟩), 77, "", #[⟨0, .chain⟩], none⟩,
  ⟨(some 25), (.move (.tmp 29)), 77, "", #[], none⟩,
  ⟨(some 30), (.extract (.tmp 25) 0), 4, "", #[], none⟩,
  ⟨(some 31), (.extract (.tmp 25) 1), 4, "", #[], none⟩,
  ⟨(some 11), (.assign (.tmp 30)), 4, "", #[], none⟩,
  ⟨(some 12), (.assign (.tmp 31)), 4, "", #[], none⟩]
def F37.r6 : List Oper := [
  ⟨(some 32), (.move (.tmp 12)), 4, "", #[], none⟩,
  ⟨(some 33), (.unOp .not 4 (.tmp 32)), 4, "", #[], none⟩]
def F37.r7 : List Oper := [
  ⟨(some 8), (.assign (.const (.bool false))), 4, "", #[], none⟩]
def F37.r8 : List Oper := [
  ⟨(some 34), (.move (.tmp 11)), 4, "", #[], none⟩,
  ⟨(some 35), (.unOp .not 4 (.tmp 34)), 4, "", #[], none⟩]
def F37.r9 : List Oper := [
  ⟨(some 8), (.assign (.const (.bool true))), 4, "", #[], none⟩]
def F37.t8 : Cd := (.seq (.region 8 F37.r8.toArray false) (.cond (.tmp 35) (.seq (.region 9 F37.r9.toArray false) .ret) .skip))
theorem F37.t8_eq {P : Program} {Q : Post} {e : FA} {w : World} {θ : Tag (F37.t8, Q, e, w)} : cwE P F37.t8 Q e w θ = cwE P (.seq (.region 8 F37.r8.toArray false) (.cond (.tmp 35) (.seq (.region 9 F37.r9.toArray false) .ret) .skip)) Q e w := rfl
def F37.t4 : Cd := (.seq (.region 4 F37.r4.toArray false) (.seq (.region 5 F37.r5.toArray false) (.seq (.seq (.region 6 F37.r6.toArray false) (.cond (.tmp 33) (.seq (.region 7 F37.r7.toArray false) .ret) .skip)) F37.t8)))
theorem F37.t4_eq {P : Program} {Q : Post} {e : FA} {w : World} {θ : Tag (F37.t4, Q, e, w)} : cwE P F37.t4 Q e w θ = cwE P (.seq (.region 4 F37.r4.toArray false) (.seq (.region 5 F37.r5.toArray false) (.seq (.seq (.region 6 F37.r6.toArray false) (.cond (.tmp 33) (.seq (.region 7 F37.r7.toArray false) .ret) .skip)) F37.t8))) Q e w := rfl
def F37.code : Cd := (.seq (.region 0 F37.r0.toArray false) (.block 0 (.loop (.block 1 (.seq (.region 1 F37.r1.toArray false) (.seq (.seq (.region 2 F37.r2.toArray false) (.cond (.tmp 21) (.seq (.region 3 F37.r3.toArray false) .ret) .skip)) F37.t4))))))
theorem F37.calls {args : Array Value} {w : World} {R : Ending → World → Prop} (hn : args.size ≤ 36) (h : cwE Try.prog F37.code (fnP Try.prog #[(.tmp 8)] R) (entry args) w) : Calls Try.prog 37 args w R :=
  calls_of_cwE (types := Try.prog.types) follows Try.func37 F37.code rfl (by kernel_rfl) hn h

def F38.r0 : List Oper := [
  ⟨(some 2), (.assign (.const (.int .i64 0))), 51, "", #[], none⟩,
  ⟨(some 3), (.assign (.const (.int .i64 0))), 3, "", #[], none⟩]
def F38.r1 : List Oper := [
  ⟨(some 4), (.move (.tmp 0)), 31, "", #[], none⟩,
  ⟨(some 5), (.nilCheck (.tmp 4)), 0, "", #[], none⟩,
  ⟨(some 6), (.fieldAddr 74 (.tmp 5) 4), 0, "", #[], none⟩,
  ⟨(some 7), (.load 4 (.tmp 6)), 4, "", #[⟨0, .data⟩], none⟩]
def F38.r2 : List Oper := [
  ⟨(some 8), (.move (.tmp 0)), 31, "", #[], none⟩,
  ⟨(some 9), (.nilCheck (.tmp 8)), 0, "", #[], none⟩,
  ⟨(some 10), (.fieldAddr 74 (.tmp 9) 5), 0, "", #[], none⟩,
  ⟨(some 2), (.assign (.const (.int .i64 40))), 51, "", #[], none⟩,
  ⟨(some 11), (.load 3 (.tmp 10)), 3, "", #[⟨0, .data⟩], none⟩,
  ⟨(some 3), (.assign (.tmp 11)), 3, "", #[], none⟩]
def F38.r3 : List Oper := [
  ⟨(some 2), (.assign (.const (.int .i64 0))), 51, "", #[], none⟩,
  ⟨(some 3), (.assign (.const (.int .i64 0))), 3, "", #[], none⟩]
def F38.t3 : Cd := (.seq (.region 3 F38.r3.toArray false) .ret)
theorem F38.t3_eq {P : Program} {Q : Post} {e : FA} {w : World} {θ : Tag (F38.t3, Q, e, w)} : cwE P F38.t3 Q e w θ = cwE P (.seq (.region 3 F38.r3.toArray false) .ret) Q e w := rfl
def F38.code : Cd := (.seq (.region 0 F38.r0.toArray false) (.seq (.seq (.region 1 F38.r1.toArray false) (.cond (.tmp 7) (.seq (.region 2 F38.r2.toArray true) .ret) .skip)) F38.t3))
theorem F38.calls {args : Array Value} {w : World} {R : Ending → World → Prop} (hn : args.size ≤ 12) (h : cwE Try.prog F38.code (fnP Try.prog #[(.tmp 2), (.tmp 3)] R) (entry args) w) : Calls Try.prog 38 args w R :=
  calls_of_cwE (types := Try.prog.types) follows Try.func38 F38.code rfl (by kernel_rfl) hn h

def F39.r0 : List Oper := [
  ⟨(some 2), (.assign (.const (.bool false))), 4, "", #[], none⟩]
def F39.r1 : List Oper := [
  ⟨(some 3), (.move (.tmp 0)), 31, "", #[], none⟩,
  ⟨(some 4), (.nilCheck (.tmp 3)), 0, "", #[], none⟩,
  ⟨(some 5), (.fieldAddr 74 (.tmp 4) 4), 0, "", #[], none⟩,
  ⟨(some 6), (.load 4 (.tmp 5)), 4, "", #[⟨33554432, .data⟩], none⟩,
  ⟨(some 7), (.unOp .not 4 (.tmp 6)), 4, "", #[], none⟩,
  ⟨(some 8), (.move (.tmp 7)), 4, "", #[], none⟩,
  ⟨(some 9), (.move (.tmp 0)), 31, "", #[], (some (8, true))⟩,
  ⟨(some 10), (.nilCheck (.tmp 9)), 0, "", #[], (some (8, true))⟩,
  ⟨(some 11), (.fieldAddr 74 (.tmp 10) 1), 0, "", #[], (some (8, true))⟩,
  ⟨(some 12), (.load 35 (.tmp 11)), 35, "", #[⟨33554432, .data⟩], (some (8, true))⟩,
  ⟨(some 13), (.call ⟨(.builtin .len), #[(.tmp 12)], #[35]⟩), 3, "", #[], (some (8, true))⟩,
  ⟨(some 14), (.binOp .geq 3 (.tmp 13) (.const (.int .i64 4)) 3), 4, "", #[], (some (8, true))⟩,
  ⟨(some 15), (.pick (.tmp 8) (.tmp 14) (.const (.bool false))), 4, "", #[], none⟩,
  ⟨(some 16), (.move (.tmp 15)), 4, "", #[], none⟩,
  ⟨(some 17), (.move (.tmp 0)), 31, "", #[], (some (16, true))⟩,
  ⟨(some 18), (.nilCheck (.tmp 17)), 0, "", #[], (some (16, true))⟩,
  ⟨(some 19), (.fieldAddr 74 (.tmp 18) 1), 0, "", #[], (some (16, true))⟩,
  ⟨(some 23), (.move (.tmp 0)), 31, "", #[], (some (16, true))⟩,
  ⟨(some 24), (.nilCheck (.tmp 23)), 0, "", #[], (some (16, true))⟩,
  ⟨(some 25), (.fieldAddr 74 (.tmp 24) 1), 0, "", #[], (some (16, true))⟩,
  ⟨(some 20), (.load 35 (.tmp 19)), 35, "", #[⟨0, .data⟩], (some (16, true))⟩,
  ⟨(some 21), (.call ⟨(.builtin .len), #[(.tmp 20)], #[35]⟩), 3, "", #[], (some (16, true))⟩,
  ⟨(some 22), (.convert 3 81 (.tmp 21)), 81, "", #[], (some (16, true))⟩,
  ⟨(some 26), (.load 35 (.tmp 25)), 35, "", #[⟨33554432, .data⟩], (some (16, true))⟩,
  ⟨(some 27), (.slice 35 (.tmp 26) none (some (.const (.int .i64 4))) none), 35, "", #[], (some (16, true))⟩,
  ⟨(some 28), (.call ⟨(.value (.func 43)), #[(.tmp 27)], #[35]⟩), 81, "", #[⟨25, .chain⟩], (some (16, true))⟩,
  ⟨(some 29), (.binOp .eql 81 (.tmp 22) (.tmp 28) 81), 4, "", #[], (some (16, true))⟩,
  ⟨(some 30), (.pick (.tmp 16) (.tmp 29) (.const (.bool false))), 4, "", #[], none⟩,
  ⟨(some 2), (.assign (.tmp 30)), 4, "", #[], none⟩]
def F39.code : Cd := (.seq (.region 0 F39.r0.toArray false) (.seq (.region 1 F39.r1.toArray true) .ret))
theorem F39.calls {args : Array Value} {w : World} {R : Ending → World → Prop} (hn : args.size ≤ 31) (h : cwE Try.prog F39.code (fnP Try.prog #[(.tmp 2)] R) (entry args) w) : Calls Try.prog 39 args w R :=
  calls_of_cwE (types := Try.prog.types) follows Try.func39 F39.code rfl (by kernel_rfl) hn h

def F40.r0 : List Oper := [
  ⟨(some 2), (.assign (.const (.int .i64 0))), 3, "", #[], none⟩]
def F40.r1 : List Oper := [
  ⟨(some 3), (.move (.tmp 0)), 31, "", #[], none⟩,
  ⟨(some 4), (.nilCheck (.tmp 3)), 0, "", #[], none⟩,
  ⟨(some 5), (.fieldAddr 74 (.tmp 4) 4), 0, "", #[], none⟩,
  ⟨(some 6), (.load 4 (.tmp 5)), 4, "", #[⟨0, .data⟩], none⟩,
  ⟨(some 7), (.move (.tmp 6)), 4, "", #[], none⟩,
  ⟨(some 8), (.move (.tmp 0)), 31, "", #[], (some (7, false))⟩,
  ⟨(some 9), (.call ⟨(.value (.func 39)), #[(.tmp 8)], #[31]⟩), 4, "", #[⟨0, .chain⟩], (some (7, false))⟩,
  ⟨(some 10), (.pick (.tmp 7) (.const (.bool true)) (.tmp 9)), 4, "", #[], none⟩]
def F40.r2 : List Oper := [
  ⟨(some 2), (.assign (.const (.int .i64 0))), 3, "", #[], none⟩]
def F40.r3 : List Oper := [
  ⟨(some 11), (.move (.tmp 0)), 31, "", #[], none⟩,
  ⟨(some 12), (.nilCheck (.tmp 11)), 0, "", #[], none⟩,
  ⟨(some 13), (.fieldAddr 74 (.tmp 12) 1), 0, "", #[], none⟩,
  ⟨(some 14), (.load 35 (.tmp 13)), 35, "", #[⟨0, .data⟩], none⟩,
  ⟨(some 15), (.call ⟨(.builtin .len), #[(.tmp 14)], #[35]⟩), 3, "", #[], none⟩,
  ⟨(some 16), (.binOp .lss 3 (.tmp 15) (.const (.int .i64 4)) 3), 4, "", #[], none⟩]
def F40.r4 : List Oper := [
  ⟨(some 17), (.move (.tmp 0)), 31, "", #[], none⟩,
  ⟨(some 18), (.nilCheck (.tmp 17)), 0, "", #[], none⟩,
  ⟨(some 19), (.fieldAddr 74 (.tmp 18) 1), 0, "", #[], none⟩,
  ⟨(some 20), (.load 35 (.tmp 19)), 35, "", #[⟨0, .data⟩], none⟩,
  ⟨(some 21), (.call ⟨(.builtin .len), #[(.tmp 20)], #[35]⟩), 3, "", #[], none⟩,
  ⟨(some 22), (.binOp .sub 3 (.const (.int .i64 4)) (.tmp 21) 3), 3, "", #[], none⟩,
  ⟨(some 2), (.assign (.tmp 22)), 3, "", #[], none⟩]
def F40.r5 : List Oper := [
  ⟨(some 23), (.move (.tmp 0)), 31, "", #[], none⟩,
  ⟨(some 24), (.nilCheck (.tmp 23)), 0, "", #[], none⟩,
  ⟨(some 25), (.fieldAddr 74 (.tmp 24) 1), 0, "", #[], none⟩,
  ⟨(some 30), (.move (.tmp 0)), 31, "", #[], none⟩,
  ⟨(some 31), (.nilCheck (.tmp 30)), 0, "", #[], none⟩,
  ⟨(some 32), (.fieldAddr 74 (.tmp 31) 1), 0, "", #[], none⟩,
  ⟨(some 26), (.load 35 (.tmp 25)), 35, "", #[⟨32, .data⟩], none⟩,
  ⟨(some 27), (.slice 35 (.tmp 26) none (some (.const (.int .i64 4))) none), 35, "", #[], none⟩,
  ⟨(some 33), (.load 35 (.tmp 32)), 35, "", #[⟨0, .data⟩], none⟩,
  ⟨(some 34), (.call ⟨(.builtin .len), #[(.tmp 33)], #[35]⟩), 3, "", #[], none⟩,
  ⟨(some 28), (.call ⟨(.value (.func 43)), #[(.tmp 27)], #[35]⟩), 81, "", #[⟨5, .chain⟩], none⟩,
  ⟨(some 29), (.convert 81 3 (.tmp 28)), 3, "", #[], none⟩,
  ⟨(some 35), (.binOp .sub 3 (.tmp 29) (.tmp 34) 3), 3, "", #[], none⟩,
  ⟨(some 2), (.assign (.tmp 35)), 3, "", #[], none⟩]
def F40.t5 : Cd := (.seq (.region 5 F40.r5.toArray true) .ret)
theorem F40.t5_eq {P : Program} {Q : Post} {e : FA} {w : World} {θ : Tag (F40.t5, Q, e, w)} : cwE P F40.t5 Q e w θ = cwE P (.seq (.region 5 F40.r5.toArray true) .ret) Q e w := rfl
def F40.t3 : Cd := (.seq (.seq (.region 3 F40.r3.toArray false) (.cond (.tmp 16) (.seq (.region 4 F40.r4.toArray false) .ret) .skip)) F40.t5)
theorem F40.t3_eq {P : Program} {Q : Post} {e : FA} {w : World} {θ : Tag (F40.t3, Q, e, w)} : cwE P F40.t3 Q e w θ = cwE P (.seq (.seq (.region 3 F40.r3.toArray false) (.cond (.tmp 16) (.seq (.region 4 F40.r4.toArray false) .ret) .skip)) F40.t5) Q e w := rfl
def F40.code : Cd := (.seq (.region 0 F40.r0.toArray false) (.seq (.seq (.region 1 F40.r1.toArray false) (.cond (.tmp 10) (.seq (.region 2 F40.r2.toArray false) .ret) .skip)) F40.t3))
theorem F40.calls {args : Array Value} {w : World} {R : Ending → World → Prop} (hn : args.size ≤ 36) (h : cwE Try.prog F40.code (fnP Try.prog #[(.tmp 2)] R) (entry args) w) : Calls Try.prog 40 args w R :=
  calls_of_cwE (types := Try.prog.types) follows Try.func40 F40.code rfl (by kernel_rfl) hn h

def F41.r0 : List Oper := [
  ⟨(some 2), (.assign (.const (.int .i64 0))), 3, "", #[], none⟩]
def F41.r1 : List Oper := [
  ⟨(some 3), (.move (.tmp 0)), 31, "", #[], none⟩,
  ⟨(some 4), (.nilCheck (.tmp 3)), 0, "", #[], none⟩,
  ⟨(some 5), (.fieldAddr 74 (.tmp 4) 3), 0, "", #[], none⟩,
  ⟨(some 6), (.load 3 (.tmp 5)), 3, "", #[⟨0, .data⟩], none⟩,
  ⟨(some 2), (.assign (.tmp 6)), 3, "", #[], none⟩]
def F41.code : Cd := (.seq (.region 0 F41.r0.toArray false) (.seq (.region 1 F41.r1.toArray false) .ret))
theorem F41.calls {args : Array Value} {w : World} {R : Ending → World → Prop} (hn : args.size ≤ 7) (h : cwE Try.prog F41.code (fnP Try.prog #[(.tmp 2)] R) (entry args) w) : Calls Try.prog 41 args w R :=
  calls_of_cwE (types := Try.prog.types) follows Try.func41 F41.code rfl (by kernel_rfl) hn h

def F42.r0 : List Oper := [
  ⟨(some 2), (.assign (.const (.int .u32 0))), 30, "", #[], none⟩]
def F42.r1 : List Oper := [
  ⟨(some 3), (.assign (.const (.int .u32 0))), 30, "", #[], none⟩]
def F42.r2 : List Oper := [
  ⟨(some 6), (.move (.tmp 0)), 28, "", #[], none⟩,
  ⟨(some 7), (.nilCheck (.tmp 6)), 0, "", #[], none⟩,
  ⟨(some 8), (.fieldAddr 72 (.tmp 7) 1), 0, "", #[], none⟩,
  ⟨(some 9), (.load 70 (.tmp 8)), 70, "", #[⟨0, .data⟩], none⟩,
  ⟨(some 10), (.move (.const (.int .i64 0))), 3, "", #[], none⟩]
def F42.r3 : List Oper := [
  ⟨(some 11), (.binOp .lss 3 (.tmp 10) (.const (.int .i64 4)) 3), 0, "", #[], none⟩]
def F42.r4 : List Oper := [
  ⟨(some 12), (.move (.tmp 10)), 3, "", #[], none⟩,
  ⟨(some 13), (.index 70 (.tmp 9) (.tmp 10)), 5, "", #[], none⟩,
  ⟨(some 4), (.assign (.tmp 12)), 3, "", #[], none⟩,
  ⟨(some 5), (.assign (.tmp 13)), 5, "", #[], none⟩]
def F42.r5 : List Oper := [
  ⟨(some 14), (.move (.tmp 3)), 30, "", #[], none⟩,
  ⟨(some 15), (.move (.tmp 5)), 5, "", #[], none⟩,
  ⟨(some 16), (.convert 5 30 (.tmp 15)), 30, "", #[], none⟩,
  ⟨(some 17), (.move (.tmp 4)), 3, "", #[], none⟩,
  ⟨(some 18), (.binOp .mul 3 (.const (.int .i64 8)) (.tmp 17) 3), 3, "", #[], none⟩,
  ⟨(some 19), (.binOp .shl 30 (.tmp 16) (.tmp 18) 3), 30, "", #[], none⟩,
  ⟨(some 20), (.binOp .or 30 (.tmp 14) (.tmp 19) 30), 30, "", #[], none⟩,
  ⟨(some 3), (.assign (.tmp 20)), 30, "", #[], none⟩]
def F42.r6 : List Oper := [
  ⟨(some 21), (.binOp .add 3 (.tmp 10) (.const (.int .i64 1)) 3), 3, "", #[], none⟩,
  ⟨(some 10), (.move (.tmp 21)), 3, "", #[], none⟩]
def F42.r7 : List Oper := [
  ⟨(some 22), (.move (.tmp 3)), 30, "", #[], none⟩,
  ⟨(some 2), (.assign (.tmp 22)), 30, "", #[], none⟩]
def F42.t6 : Cd := (.region 6 F42.r6.toArray false)
theorem F42.t6_eq {P : Program} {Q : Post} {e : FA} {w : World} {θ : Tag (F42.t6, Q, e, w)} : cwE P F42.t6 Q e w θ = cwE P (.region 6 F42.r6.toArray false) Q e w := rfl
def F42.t4 : Cd := (.seq (.block 1 (.seq (.region 4 F42.r4.toArray false) (.region 5 F42.r5.toArray false))) F42.t6)
theorem F42.t4_eq {P : Program} {Q : Post} {e : FA} {w : World} {θ : Tag (F42.t4, Q, e, w)} : cwE P F42.t4 Q e w θ = cwE P (.seq (.block 1 (.seq (.region 4 F42.r4.toArray false) (.region 5 F42.r5.toArray false))) F42.t6) Q e w := rfl
def F42.t7 : Cd := (.seq (.region 7 F42.r7.toArray false) .ret)
theorem F42.t7_eq {P : Program} {Q : Post} {e : FA} {w : World} {θ : Tag (F42.t7, Q, e, w)} : cwE P F42.t7 Q e w θ = cwE P (.seq (.region 7 F42.r7.toArray false) .ret) Q e w := rfl
def F42.code : Cd := (.seq (.region 0 F42.r0.toArray false) (.seq (.region 1 F42.r1.toArray false) (.seq (.seq (.region 2 F42.r2.toArray false) (.block 0 (.loop (.seq (.region 3 F42.r3.toArray false) (.seq (.cond (.tmp 11) .skip (.exit 0)) F42.t4))))) F42.t7)))
theorem F42.calls {args : Array Value} {w : World} {R : Ending → World → Prop} (hn : args.size ≤ 23) (h : cwE Try.prog F42.code (fnP Try.prog #[(.tmp 2)] R) (entry args) w) : Calls Try.prog 42 args w R :=
  calls_of_cwE (types := Try.prog.types) follows Try.func42 F42.code rfl (by kernel_rfl) hn h

end Go.Proofs.Ytfamclpajjnfbaa

/- The compiled code of the functions, by program (genir.py): each with the theorem that it is what the engine makes of the loaded program's. -/
import Derived.Test.YtonajgmamdeohaaGreatDoorSl2
import Derived.Test.YtonajgmamdeohaaGreatDoorProg
namespace Go.Proofs.YtonajgmamdeohaaGreatDoor
open Go
set_option maxRecDepth 100000
variable {P : Program} {Q : Post} {e : FA} {w : World} {args : Array Value} {R : Ending → World → Prop}

abbrev op (d : Nat) (o : Op) (T : TypeId) : Oper := ⟨some d, o, T, "", #[], none⟩
abbrev od (d : Nat) (o : Op) (T : TypeId) : Oper := ⟨some d, o, T, "", #[⟨0, .data⟩], none⟩
abbrev oc (d : Nat) (o : Op) (T : TypeId) : Oper := ⟨some d, o, T, "", #[⟨0, .chain⟩], none⟩
theorem follows : Tryz.prog.follows .mixedOrders = true := by kernel_rfl

theorem fact_aggSz_22 : aggSz Tryz.prog 22 = some none := by kernel_rfl
theorem fact_aggSz_23 : aggSz Tryz.prog 23 = some none := by kernel_rfl
theorem fact_aggSz_24 : aggSz Tryz.prog 24 = some none := by kernel_rfl
theorem fact_aggSz_26 : aggSz Tryz.prog 26 = some (some 3) := by kernel_rfl
theorem fact_aggSz_28 : aggSz Tryz.prog 28 = some (some 13) := by kernel_rfl
theorem fact_aggSz_3 : aggSz Tryz.prog 3 = some none := by kernel_rfl
theorem fact_aggSz_30 : aggSz Tryz.prog 30 = some none := by kernel_rfl
theorem fact_aggSz_31 : aggSz Tryz.prog 31 = some none := by kernel_rfl
theorem fact_aggSz_32 : aggSz Tryz.prog 32 = some none := by kernel_rfl
theorem fact_aggSz_33 : aggSz Tryz.prog 33 = some none := by kernel_rfl
theorem fact_aggSz_35 : aggSz Tryz.prog 35 = some (some 36) := by kernel_rfl
theorem fact_aggSz_37 : aggSz Tryz.prog 37 = some none := by kernel_rfl
theorem fact_aggSz_5 : aggSz Tryz.prog 5 = some none := by kernel_rfl
theorem fact_aggSz_59 : aggSz Tryz.prog 59 = some none := by kernel_rfl
theorem fact_aggSz_61 : aggSz Tryz.prog 61 = some (some 3) := by kernel_rfl
theorem fact_aggSz_64 : aggSz Tryz.prog 64 = some none := by kernel_rfl
theorem fact_aggSz_65 : aggSz Tryz.prog 65 = some none := by kernel_rfl
theorem fact_aggSz_66 : aggSz Tryz.prog 66 = some none := by kernel_rfl
theorem fact_aggSz_72 : aggSz Tryz.prog 72 = some (some 7) := by kernel_rfl
theorem fact_aggSz_88 : aggSz Tryz.prog 88 = some none := by kernel_rfl
theorem fact_aggSz_9 : aggSz Tryz.prog 9 = some none := by kernel_rfl
theorem fact_bldP_28 : bldP Tryz.prog 28 = some ([.int .u16 0, .int .u32 0, .int .u8 0, .int .u32 0, .int .u64 0, .int .u32 0, .int .u32 0, .int .u32 0, .int .u64 0, .string ⟨#[]⟩, .string ⟨#[]⟩, .string ⟨#[]⟩, .string ⟨#[]⟩], some [(0, 1), (1, 1), (2, 3), (5, 1), (6, 1), (7, 1), (8, 1), (9, 1), (10, 1), (11, 1), (12, 1)], 0) := by kernel_rfl
theorem fact_bldP_35 : bldP Tryz.prog 35 = some ([.int .u8 0, .int .u16 0, .int .u32 0, .string ⟨#[]⟩, .int .u32 0, .string ⟨#[]⟩, .string ⟨#[]⟩, .string ⟨#[]⟩, .int .u16 0, .int .u32 0, .int .u32 0, .slice none 0 0, .slice none 0 0, .int .u8 0, .int .u32 0, .int .u64 0, .int .u8 0, .int .u32 0, .string ⟨#[]⟩, .int .u32 0, .int .u64 0, .int .u32 0, .slice none 0 0, .int .u16 0, .int .u32 0, .int .u8 0, .int .u32 0, .int .u64 0, .int .u32 0, .int .u32 0, .int .u32 0, .int .u64 0, .string ⟨#[]⟩, .string ⟨#[]⟩, .string ⟨#[]⟩, .string ⟨#[]⟩], some [(0, 1), (1, 1), (2, 1), (3, 1), (4, 1), (5, 1), (6, 1), (7, 1), (8, 1), (9, 1), (10, 1), (11, 1), (12, 1), (13, 3), (16, 1), (17, 1), (18, 1), (19, 1), (20, 1), (21, 1), (22, 1), (23, 13)], 0) := by kernel_rfl
theorem fact_bldP_61 : bldP Tryz.prog 61 = some ([.int .u8 0, .string ⟨#[]⟩, .slice none 0 0], some [(0, 1), (1, 1), (2, 1)], 0) := by kernel_rfl
theorem fact_bldP_72 : bldP Tryz.prog 72 = some ([.string ⟨#[]⟩, .nilFunc, .nilFunc, .nilFunc, .nilFunc, .nilFunc, .nilFunc], some [(0, 1), (1, 1), (2, 1), (3, 1), (4, 1), (5, 1), (6, 1)], 0) := by kernel_rfl
theorem fact_bldP_79 : bldP Tryz.prog 79 = some ([.slice none 0 0, .int .i64 0, .int .i64 0, .int .i64 0, .int .i64 0], some [(0, 1), (1, 1), (2, 1), (3, 1), (4, 1)], 0) := by kernel_rfl
theorem fact_bldP_90 : bldP Tryz.prog 90 = some ([.int .i64 0, .slice none 0 0, .slice none 0 0, .int .i64 0], some [(0, 1), (1, 1), (2, 1), (3, 1)], 0) := by kernel_rfl
theorem fact_elemOf_31 : elemOf? Tryz.prog 31 = some (none, 1) := by kernel_rfl
theorem fact_elemOf_33 : elemOf? Tryz.prog 33 = some (none, 1) := by kernel_rfl
theorem fact_elemOf_59 : elemOf? Tryz.prog 59 = some (none, 1) := by kernel_rfl
theorem fact_elemOf_88 : elemOf? Tryz.prog 88 = some (none, 1) := by kernel_rfl
theorem fact_elemOf_9 : elemOf? Tryz.prog 9 = none := by kernel_rfl
theorem fact_elemOf_96 : elemOf? Tryz.prog 96 = some (none, 3) := by kernel_rfl
theorem fact_fieldOff_26_0 : fieldOff Tryz.prog 26 0 = some 0 := by kernel_rfl
theorem fact_fieldOff_26_1 : fieldOff Tryz.prog 26 1 = some 1 := by kernel_rfl
theorem fact_fieldOff_26_2 : fieldOff Tryz.prog 26 2 = some 2 := by kernel_rfl
theorem fact_fieldOff_28_0 : fieldOff Tryz.prog 28 0 = some 0 := by kernel_rfl
theorem fact_fieldOff_28_1 : fieldOff Tryz.prog 28 1 = some 1 := by kernel_rfl
theorem fact_fieldOff_28_10 : fieldOff Tryz.prog 28 10 = some 12 := by kernel_rfl
theorem fact_fieldOff_28_2 : fieldOff Tryz.prog 28 2 = some 2 := by kernel_rfl
theorem fact_fieldOff_28_3 : fieldOff Tryz.prog 28 3 = some 5 := by kernel_rfl
theorem fact_fieldOff_28_4 : fieldOff Tryz.prog 28 4 = some 6 := by kernel_rfl
theorem fact_fieldOff_28_5 : fieldOff Tryz.prog 28 5 = some 7 := by kernel_rfl
theorem fact_fieldOff_28_6 : fieldOff Tryz.prog 28 6 = some 8 := by kernel_rfl
theorem fact_fieldOff_28_7 : fieldOff Tryz.prog 28 7 = some 9 := by kernel_rfl
theorem fact_fieldOff_28_8 : fieldOff Tryz.prog 28 8 = some 10 := by kernel_rfl
theorem fact_fieldOff_28_9 : fieldOff Tryz.prog 28 9 = some 11 := by kernel_rfl
theorem fact_fieldOff_35_0 : fieldOff Tryz.prog 35 0 = some 0 := by kernel_rfl
theorem fact_fieldOff_35_1 : fieldOff Tryz.prog 35 1 = some 1 := by kernel_rfl
theorem fact_fieldOff_35_11 : fieldOff Tryz.prog 35 11 = some 11 := by kernel_rfl
theorem fact_fieldOff_35_12 : fieldOff Tryz.prog 35 12 = some 12 := by kernel_rfl
theorem fact_fieldOff_35_16 : fieldOff Tryz.prog 35 16 = some 18 := by kernel_rfl
theorem fact_fieldOff_35_20 : fieldOff Tryz.prog 35 20 = some 22 := by kernel_rfl
theorem fact_fieldOff_35_21 : fieldOff Tryz.prog 35 21 = some 23 := by kernel_rfl
theorem fact_fieldOff_35_3 : fieldOff Tryz.prog 35 3 = some 3 := by kernel_rfl
theorem fact_fieldOff_35_5 : fieldOff Tryz.prog 35 5 = some 5 := by kernel_rfl
theorem fact_fieldOff_35_6 : fieldOff Tryz.prog 35 6 = some 6 := by kernel_rfl
theorem fact_fieldOff_35_7 : fieldOff Tryz.prog 35 7 = some 7 := by kernel_rfl
theorem fact_fieldOff_61_0 : fieldOff Tryz.prog 61 0 = some 0 := by kernel_rfl
theorem fact_fieldOff_61_2 : fieldOff Tryz.prog 61 2 = some 2 := by kernel_rfl
theorem fact_fieldOff_79_0 : fieldOff Tryz.prog 79 0 = some 0 := by kernel_rfl
theorem fact_fieldOff_79_1 : fieldOff Tryz.prog 79 1 = some 1 := by kernel_rfl
theorem fact_fieldOff_79_2 : fieldOff Tryz.prog 79 2 = some 2 := by kernel_rfl
theorem fact_fieldOff_79_3 : fieldOff Tryz.prog 79 3 = some 3 := by kernel_rfl
theorem fact_fieldOff_79_4 : fieldOff Tryz.prog 79 4 = some 4 := by kernel_rfl
theorem fact_fieldOff_90_0 : fieldOff Tryz.prog 90 0 = some 0 := by kernel_rfl
theorem fact_fieldOff_90_1 : fieldOff Tryz.prog 90 1 = some 1 := by kernel_rfl
theorem fact_fieldOff_90_2 : fieldOff Tryz.prog 90 2 = some 2 := by kernel_rfl
theorem fact_fieldOff_90_3 : fieldOff Tryz.prog 90 3 = some 3 := by kernel_rfl
theorem fact_fieldTy_72_1 : fieldTy Tryz.prog 72 1 = some (65, 1) := by kernel_rfl
theorem fact_fieldTy_72_2 : fieldTy Tryz.prog 72 2 = some (66, 2) := by kernel_rfl
theorem fact_fnOk_10 : fnOk Tryz.prog 10 = true := by kernel_rfl
theorem fact_fnOk_11 : fnOk Tryz.prog 11 = true := by kernel_rfl
theorem fact_fnOk_111 : fnOk Tryz.prog 111 = true := by kernel_rfl
theorem fact_fnOk_12 : fnOk Tryz.prog 12 = true := by kernel_rfl
theorem fact_fnOk_13 : fnOk Tryz.prog 13 = true := by kernel_rfl
theorem fact_fnOk_14 : fnOk Tryz.prog 14 = true := by kernel_rfl
theorem fact_fnOk_15 : fnOk Tryz.prog 15 = true := by kernel_rfl
theorem fact_fnOk_154 : fnOk Tryz.prog 154 = true := by kernel_rfl
theorem fact_fnOk_16 : fnOk Tryz.prog 16 = true := by kernel_rfl
theorem fact_fnOk_17 : fnOk Tryz.prog 17 = true := by kernel_rfl
theorem fact_fnOk_18 : fnOk Tryz.prog 18 = true := by kernel_rfl
theorem fact_fnOk_19 : fnOk Tryz.prog 19 = true := by kernel_rfl
theorem fact_fnOk_20 : fnOk Tryz.prog 20 = true := by kernel_rfl
theorem fact_fnOk_21 : fnOk Tryz.prog 21 = true := by kernel_rfl
theorem fact_fnOk_22 : fnOk Tryz.prog 22 = true := by kernel_rfl
theorem fact_fnOk_23 : fnOk Tryz.prog 23 = true := by kernel_rfl
theorem fact_fnOk_24 : fnOk Tryz.prog 24 = true := by kernel_rfl
theorem fact_fnOk_25 : fnOk Tryz.prog 25 = true := by kernel_rfl
theorem fact_fnOk_26 : fnOk Tryz.prog 26 = true := by kernel_rfl
theorem fact_fnOk_27 : fnOk Tryz.prog 27 = true := by kernel_rfl
theorem fact_fnOk_28 : fnOk Tryz.prog 28 = true := by kernel_rfl
theorem fact_fnOk_29 : fnOk Tryz.prog 29 = true := by kernel_rfl
theorem fact_fnOk_30 : fnOk Tryz.prog 30 = true := by kernel_rfl
theorem fact_fnOk_31 : fnOk Tryz.prog 31 = true := by kernel_rfl
theorem fact_fnOk_32 : fnOk Tryz.prog 32 = true := by kernel_rfl
theorem fact_fnOk_33 : fnOk Tryz.prog 33 = true := by kernel_rfl
theorem fact_fnOk_34 : fnOk Tryz.prog 34 = true := by kernel_rfl
theorem fact_fnOk_35 : fnOk Tryz.prog 35 = true := by kernel_rfl
theorem fact_fnOk_36 : fnOk Tryz.prog 36 = true := by kernel_rfl
theorem fact_fnOk_37 : fnOk Tryz.prog 37 = true := by kernel_rfl
theorem fact_fnOk_38 : fnOk Tryz.prog 38 = true := by kernel_rfl
theorem fact_fnOk_39 : fnOk Tryz.prog 39 = true := by kernel_rfl
theorem fact_fnOk_4 : fnOk Tryz.prog 4 = true := by kernel_rfl
theorem fact_fnOk_40 : fnOk Tryz.prog 40 = true := by kernel_rfl
theorem fact_fnOk_48 : fnOk Tryz.prog 48 = true := by kernel_rfl
theorem fact_fnOk_5 : fnOk Tryz.prog 5 = true := by kernel_rfl
theorem fact_fnOk_54 : fnOk Tryz.prog 54 = true := by kernel_rfl
theorem fact_fnOk_55 : fnOk Tryz.prog 55 = true := by kernel_rfl
theorem fact_fnOk_56 : fnOk Tryz.prog 56 = true := by kernel_rfl
theorem fact_fnOk_57 : fnOk Tryz.prog 57 = true := by kernel_rfl
theorem fact_fnOk_58 : fnOk Tryz.prog 58 = true := by kernel_rfl
theorem fact_fnOk_59 : fnOk Tryz.prog 59 = true := by kernel_rfl
theorem fact_fnOk_6 : fnOk Tryz.prog 6 = true := by kernel_rfl
theorem fact_fnOk_60 : fnOk Tryz.prog 60 = true := by kernel_rfl
theorem fact_fnOk_61 : fnOk Tryz.prog 61 = true := by kernel_rfl
theorem fact_fnOk_7 : fnOk Tryz.prog 7 = true := by kernel_rfl
theorem fact_fnOk_8 : fnOk Tryz.prog 8 = true := by kernel_rfl
theorem fact_fnOk_9 : fnOk Tryz.prog 9 = true := by kernel_rfl
theorem fact_rowTy_31 : rowTy Tryz.prog 31 = some (9, 1, 16, [.string ⟨#[]⟩]) := by kernel_rfl
theorem fact_rowTy_33 : rowTy Tryz.prog 33 = some (5, 1, 1, [.int .u8 0]) := by kernel_rfl
theorem fact_rowTy_59 : rowTy Tryz.prog 59 = some (64, 1, 1, [.int .u8 0]) := by kernel_rfl
theorem fact_rowTy_88 : rowTy Tryz.prog 88 = some (3, 1, 8, [.int .i64 0]) := by kernel_rfl
theorem fact_rowTy_96 : rowTy Tryz.prog 96 = some (61, 3, 48, [.int .u8 0, .string ⟨#[]⟩, .slice none 0 0]) := by kernel_rfl
theorem fact_szO_3 : szO Tryz.prog 3 = some 1 := by kernel_rfl
theorem fact_szO_33 : szO Tryz.prog 33 = some 1 := by kernel_rfl
theorem fact_szO_37 : szO Tryz.prog 37 = some 1 := by kernel_rfl
theorem fact_szO_5 : szO Tryz.prog 5 = some 1 := by kernel_rfl
theorem fact_szO_61 : szO Tryz.prog 61 = some 3 := by kernel_rfl
theorem fact_szO_72 : szO Tryz.prog 72 = some 7 := by kernel_rfl
theorem fact_szO_88 : szO Tryz.prog 88 = some 1 := by kernel_rfl
theorem fact_zeroV_61 : zeroV Tryz.prog 61 = some (.agg #[.int .u8 0, .string ⟨#[]⟩, .slice none 0 0]) := by kernel_rfl
theorem fact_zeroV_72 : zeroV Tryz.prog 72 = some (.agg #[.string ⟨#[]⟩, .nilFunc, .nilFunc, .nilFunc, .nilFunc, .nilFunc, .nilFunc]) := by kernel_rfl

def F3.r0 : List Oper := [
  oc 1 (.box 28 (.tmp 0)) 0,
  op 2 (.assign (.const (.bool false))) 4]
def F3.r1 : List Oper := [
  od 10 (.load 28 (.tmp 1)) 28,
  op 11 (.build 35 #[(21, (.tmp 10))]) 35,
  oc 12 (.call ⟨(.value (.func 4)), #[(.tmp 11)], #[35]⟩) 3,
  op 13 (.binOp .gtr 3 (.tmp 12) (.const (.int .i64 2147483647)) 3) 4]
def F3.r2 : List Oper := [
  op 2 (.assign (.const (.bool true))) 4]
def F3.r3 : List Oper := [
  op 14 (.build 28 #[]) 28,
  oc 15 (.call ⟨(.value (.func 5)), #[(.tmp 14)], #[28]⟩) 3,
  op 16 (.binOp .neq 3 (.tmp 15) (.const (.int .i64 49)) 3) 4]
def F3.r4 : List Oper := [
  op 2 (.assign (.const (.bool false))) 4]
def F3.r5 : List Oper := [
  od 18 (.load 28 (.tmp 1)) 28,
  oc 19 (.call ⟨(.value (.func 6)), #[(.tmp 18)], #[28]⟩) 38,
  op 17 (.move (.tmp 19)) 38,
  op 20 (.extract (.tmp 17) 0) 33,
  op 21 (.extract (.tmp 17) 1) 37,
  op 3 (.assign (.tmp 20)) 33,
  op 4 (.assign (.tmp 21)) 37]
def F3.r6 : List Oper := [
  od 23 (.load 28 (.tmp 1)) 28,
  op 24 (.build 35 #[(0, (.const (.int .u8 125))), (1, (.const (.int .u16 7))), (21, (.tmp 23))]) 35,
  oc 25 (.call ⟨(.value (.func 7)), #[(.tmp 24)], #[35]⟩) 38,
  op 22 (.move (.tmp 25)) 38,
  op 26 (.extract (.tmp 22) 0) 33,
  op 27 (.extract (.tmp 22) 1) 37,
  op 5 (.assign (.tmp 26)) 33,
  op 6 (.assign (.tmp 27)) 37]
def F3.r7 : List Oper := [
  op 28 (.move (.tmp 4)) 37,
  op 29 (.binOp .neq 37 (.tmp 28) (.const (.int .i64 0)) 37) 4,
  op 30 (.move (.tmp 29)) 4,
  ⟨(some 31), (.move (.tmp 6)), 37, "", #[], (some (30, false))⟩,
  ⟨(some 32), (.binOp .neq 37 (.tmp 31) (.const (.int .i64 0)) 37), 4, "", #[], (some (30, false))⟩,
  op 33 (.pick (.tmp 30) (.const (.bool true)) (.tmp 32)) 4]
def F3.r8 : List Oper := [
  op 34 (.move (.tmp 4)) 37,
  op 35 (.binOp .neq 37 (.tmp 34) (.const (.int .i64 0)) 37) 4,
  od 36 (.load 28 (.tmp 1)) 28,
  op 37 (.build 35 #[(0, (.const (.int .u8 125))), (1, (.const (.int .u16 7))), (21, (.tmp 36))]) 35,
  oc 38 (.call ⟨(.value (.func 8)), #[(.tmp 37)], #[35]⟩) 3,
  op 39 (.binOp .eql 3 (.tmp 38) (.const (.int .i64 0)) 3) 4,
  op 40 (.binOp .eql 4 (.tmp 35) (.tmp 39) 4) 4,
  op 41 (.move (.tmp 40)) 4,
  ⟨(some 42), (.move (.tmp 3)), 33, "", #[], (some (41, false))⟩,
  ⟨(some 43), (.call ⟨(.builtin .len), #[(.tmp 42)], #[33]⟩), 3, "", #[], (some (41, false))⟩,
  ⟨(some 44), (.binOp .gtr 3 (.tmp 43) (.const (.int .i64 65527)) 3), 4, "", #[], (some (41, false))⟩,
  op 45 (.pick (.tmp 41) (.const (.bool true)) (.tmp 44)) 4,
  op 2 (.assign (.tmp 45)) 4]
def F3.r9 : List Oper := [
  ⟨(some 46), (.move (.tmp 5)), 33, "", #[], none⟩,
  ⟨(some 47), (.call ⟨(.builtin .len), #[(.tmp 46)], #[33]⟩), 3, "", #[], none⟩,
  ⟨(some 48), (.move (.tmp 3)), 33, "", #[], none⟩,
  ⟨(some 49), (.call ⟨(.builtin .len), #[(.tmp 48)], #[33]⟩), 3, "", #[], none⟩,
  ⟨(some 50), (.binOp .add 3 (.const (.int .i64 9)) (.tmp 49) 3), 3, "", #[], none⟩,
  ⟨(some 51), (.binOp .neq 3 (.tmp 47) (.tmp 50) 3), 4, "", #[], none⟩,
  ⟨(some 52), (.move (.tmp 51)), 4, "", #[], none⟩,
  ⟨(some 53), (.move (.tmp 5)), 33, "", #[], (some (52, false))⟩,
  ⟨(some 54), (.slice 33 (.tmp 53) (some (.const (.int .i64 9))) none none), 33, "", #[], (some (52, false))⟩,
  ⟨(some 55), (.move (.tmp 3)), 33, "", #[], (some (52, false))⟩,
  ⟨(some 56), (.call ⟨(.value (.func 9)), #[(.tmp 54), (.tmp 55)], #[33, 33]⟩), 4, "", #[⟨10, .chain⟩], (some (52, false))⟩,
  ⟨(some 57), (.unOp .not 4 (.tmp 56)), 4, "", #[], (some (52, false))⟩,
  ⟨(some 58), (.pick (.tmp 52) (.const (.bool true)) (.tmp 57)), 4, "", #[], none⟩,
  ⟨(some 59), (.move (.tmp 58)), 4, "", #[], none⟩,
  ⟨(some 60), (.move (.tmp 5)), 33, "", #[], (some (59, false))⟩,
  ⟨(some 61), (.indexAddr 33 (.tmp 60) (.const (.int .i64 7))), 0, "", #[], (some (59, false))⟩,
  ⟨(some 64), (.move (.tmp 5)), 33, "", #[], (some (59, false))⟩,
  ⟨(some 65), (.indexAddr 33 (.tmp 64) (.const (.int .i64 8))), 0, "", #[], (some (59, false))⟩,
  ⟨(some 70), (.move (.tmp 3)), 33, "", #[], (some (59, false))⟩,
  ⟨(some 71), (.call ⟨(.builtin .len), #[(.tmp 70)], #[33]⟩), 3, "", #[], (some (59, false))⟩,
  ⟨(some 62), (.load 5 (.tmp 61)), 5, "", #[⟨0, .data⟩], (some (59, false))⟩,
  ⟨(some 63), (.convert 5 3 (.tmp 62)), 3, "", #[], (some (59, false))⟩,
  ⟨(some 66), (.load 5 (.tmp 65)), 5, "", #[⟨0, .data⟩], (some (59, false))⟩,
  ⟨(some 67), (.convert 5 3 (.tmp 66)), 3, "", #[], (some (59, false))⟩,
  ⟨(some 68), (.binOp .shl 3 (.tmp 67) (.const (.int .u64 8)) 42), 3, "", #[], (some (59, false))⟩,
  ⟨(some 69), (.binOp .or 3 (.tmp 63) (.tmp 68) 3), 3, "", #[], (some (59, false))⟩,
  ⟨(some 72), (.binOp .neq 3 (.tmp 69) (.tmp 71) 3), 4, "", #[], (some (59, false))⟩,
  ⟨(some 73), (.pick (.tmp 59) (.const (.bool true)) (.tmp 72)), 4, "", #[], none⟩]
def F3.r10 : List Oper := [
  op 2 (.assign (.const (.bool false))) 4]
def F3.r11 : List Oper := [
  op 74 (.move (.tmp 3)) 33,
  oc 75 (.call ⟨(.value (.func 10)), #[(.tmp 74)], #[33]⟩) 43,
  op 7 (.assign (.tmp 75)) 43]
def F3.r12 : List Oper := [
  ⟨(some 76), (.move (.tmp 7)), 43, "", #[], none⟩,
  ⟨(some 77), (.binOp .eql 43 (.tmp 76) (.const (.pointer none)) 43), 4, "", #[], none⟩,
  ⟨(some 78), (.move (.tmp 77)), 4, "", #[], none⟩,
  ⟨(some 79), (.move (.tmp 7)), 43, "", #[], (some (78, false))⟩,
  ⟨(some 81), (.move (.tmp 3)), 33, "", #[], (some (78, false))⟩,
  ⟨(some 82), (.call ⟨(.builtin .len), #[(.tmp 81)], #[33]⟩), 3, "", #[], (some (78, false))⟩,
  ⟨(some 83), (.binOp .sub 3 (.tmp 82) (.const (.int .i64 2)) 3), 3, "", #[], (some (78, false))⟩,
  ⟨(some 84), (.convert 3 22 (.tmp 83)), 22, "", #[], (some (78, false))⟩,
  ⟨(some 80), (.call ⟨(.value (.func 11)), #[(.tmp 79)], #[43]⟩), 22, "", #[⟨4, .chain⟩], (some (78, false))⟩,
  ⟨(some 85), (.binOp .neq 22 (.tmp 80) (.tmp 84) 22), 4, "", #[], (some (78, false))⟩,
  ⟨(some 86), (.pick (.tmp 78) (.const (.bool true)) (.tmp 85)), 4, "", #[], none⟩,
  ⟨(some 87), (.move (.tmp 86)), 4, "", #[], none⟩,
  ⟨(some 88), (.move (.tmp 7)), 43, "", #[], (some (87, false))⟩,
  ⟨(some 90), (.fieldAddr 28 (.tmp 1) 0), 0, "", #[], (some (87, false))⟩,
  ⟨(some 91), (.load 22 (.tmp 90)), 22, "", #[⟨8830588026880, .data⟩], (some (87, false))⟩,
  ⟨(some 89), (.call ⟨(.value (.func 11)), #[(.tmp 88)], #[43]⟩), 22, "", #[⟨13, .chain⟩], (some (87, false))⟩,
  ⟨(some 92), (.binOp .neq 22 (.tmp 89) (.tmp 91) 22), 4, "", #[], (some (87, false))⟩,
  ⟨(some 93), (.pick (.tmp 87) (.const (.bool true)) (.tmp 92)), 4, "", #[], none⟩,
  ⟨(some 94), (.move (.tmp 93)), 4, "", #[], none⟩,
  ⟨(some 95), (.move (.tmp 7)), 43, "", #[], (some (94, false))⟩,
  ⟨(some 97), (.fieldAddr 28 (.tmp 1) 1), 0, "", #[], (some (94, false))⟩,
  ⟨(some 98), (.load 23 (.tmp 97)), 23, "", #[⟨8830586978304, .data⟩], (some (94, false))⟩,
  ⟨(some 96), (.call ⟨(.value (.func 12)), #[(.tmp 95)], #[43]⟩), 23, "", #[⟨20, .chain⟩], (some (94, false))⟩,
  ⟨(some 99), (.binOp .neq 23 (.tmp 96) (.tmp 98) 23), 4, "", #[], (some (94, false))⟩,
  ⟨(some 100), (.pick (.tmp 94) (.const (.bool true)) (.tmp 99)), 4, "", #[], none⟩,
  ⟨(some 101), (.move (.tmp 100)), 4, "", #[], none⟩,
  ⟨(some 102), (.move (.tmp 7)), 43, "", #[], (some (101, false))⟩,
  ⟨(some 104), (.fieldAddr 28 (.tmp 1) 2), 0, "", #[], (some (101, false))⟩,
  ⟨(some 105), (.fieldAddr 26 (.tmp 104) 0), 0, "", #[], (some (101, false))⟩,
  ⟨(some 106), (.load 5 (.tmp 105)), 5, "", #[⟨8830452760576, .data⟩], (some (101, false))⟩,
  ⟨(some 103), (.call ⟨(.value (.func 13)), #[(.tmp 102)], #[43]⟩), 5, "", #[⟨27, .chain⟩], (some (101, false))⟩,
  ⟨(some 107), (.binOp .neq 5 (.tmp 103) (.tmp 106) 5), 4, "", #[], (some (101, false))⟩,
  ⟨(some 108), (.pick (.tmp 101) (.const (.bool true)) (.tmp 107)), 4, "", #[], none⟩,
  ⟨(some 109), (.move (.tmp 108)), 4, "", #[], none⟩,
  ⟨(some 110), (.move (.tmp 7)), 43, "", #[], (some (109, false))⟩,
  ⟨(some 112), (.fieldAddr 28 (.tmp 1) 2), 0, "", #[], (some (109, false))⟩,
  ⟨(some 113), (.fieldAddr 26 (.tmp 112) 1), 0, "", #[], (some (109, false))⟩,
  ⟨(some 114), (.load 23 (.tmp 113)), 23, "", #[⟨8796093022208, .data⟩], (some (109, false))⟩,
  ⟨(some 111), (.call ⟨(.value (.func 12)), #[(.tmp 110)], #[43]⟩), 23, "", #[⟨35, .chain⟩], (some (109, false))⟩,
  ⟨(some 115), (.binOp .neq 23 (.tmp 111) (.tmp 114) 23), 4, "", #[], (some (109, false))⟩,
  ⟨(some 116), (.pick (.tmp 109) (.const (.bool true)) (.tmp 115)), 4, "", #[], none⟩,
  ⟨(some 117), (.move (.tmp 116)), 4, "", #[], none⟩,
  ⟨(some 118), (.move (.tmp 7)), 43, "", #[], (some (117, false))⟩,
  ⟨(some 120), (.fieldAddr 28 (.tmp 1) 2), 0, "", #[], (some (117, false))⟩,
  ⟨(some 121), (.fieldAddr 26 (.tmp 120) 2), 0, "", #[], (some (117, false))⟩,
  ⟨(some 122), (.load 24 (.tmp 121)), 24, "", #[⟨0, .data⟩], (some (117, false))⟩,
  ⟨(some 119), (.call ⟨(.value (.func 14)), #[(.tmp 118)], #[43]⟩), 24, "", #[⟨43, .chain⟩], (some (117, false))⟩,
  ⟨(some 123), (.binOp .neq 24 (.tmp 119) (.tmp 122) 24), 4, "", #[], (some (117, false))⟩,
  ⟨(some 124), (.pick (.tmp 117) (.const (.bool true)) (.tmp 123)), 4, "", #[], none⟩]
def F3.r13 : List Oper := [
  op 2 (.assign (.const (.bool false))) 4]
def F3.r14 : List Oper := [
  ⟨(some 125), (.move (.tmp 7)), 43, "", #[], none⟩,
  ⟨(some 127), (.fieldAddr 28 (.tmp 1) 3), 0, "", #[], none⟩,
  ⟨(some 128), (.load 23 (.tmp 127)), 23, "", #[⟨567382630219904, .data⟩], none⟩,
  ⟨(some 126), (.call ⟨(.value (.func 12)), #[(.tmp 125)], #[43]⟩), 23, "", #[⟨1, .chain⟩], none⟩,
  ⟨(some 129), (.binOp .neq 23 (.tmp 126) (.tmp 128) 23), 4, "", #[], none⟩,
  ⟨(some 130), (.move (.tmp 129)), 4, "", #[], none⟩,
  ⟨(some 131), (.move (.tmp 7)), 43, "", #[], (some (130, false))⟩,
  ⟨(some 133), (.fieldAddr 28 (.tmp 1) 4), 0, "", #[], (some (130, false))⟩,
  ⟨(some 134), (.load 23 (.tmp 133)), 23, "", #[⟨567382630219776, .data⟩], (some (130, false))⟩,
  ⟨(some 132), (.call ⟨(.value (.func 12)), #[(.tmp 131)], #[43]⟩), 23, "", #[⟨7, .chain⟩], (some (130, false))⟩,
  ⟨(some 135), (.binOp .neq 23 (.tmp 132) (.tmp 134) 23), 4, "", #[], (some (130, false))⟩,
  ⟨(some 136), (.pick (.tmp 130) (.const (.bool true)) (.tmp 135)), 4, "", #[], none⟩,
  ⟨(some 137), (.move (.tmp 136)), 4, "", #[], none⟩,
  ⟨(some 138), (.move (.tmp 7)), 43, "", #[], (some (137, false))⟩,
  ⟨(some 140), (.fieldAddr 28 (.tmp 1) 5), 0, "", #[], (some (137, false))⟩,
  ⟨(some 141), (.load 23 (.tmp 140)), 23, "", #[⟨567382630203392, .data⟩], (some (137, false))⟩,
  ⟨(some 139), (.call ⟨(.value (.func 12)), #[(.tmp 138)], #[43]⟩), 23, "", #[⟨14, .chain⟩], (some (137, false))⟩,
  ⟨(some 142), (.binOp .neq 23 (.tmp 139) (.tmp 141) 23), 4, "", #[], (some (137, false))⟩,
  ⟨(some 143), (.pick (.tmp 137) (.const (.bool true)) (.tmp 142)), 4, "", #[], none⟩,
  ⟨(some 144), (.move (.tmp 143)), 4, "", #[], none⟩,
  ⟨(some 145), (.move (.tmp 7)), 43, "", #[], (some (144, false))⟩,
  ⟨(some 147), (.fieldAddr 28 (.tmp 1) 6), 0, "", #[], (some (144, false))⟩,
  ⟨(some 148), (.load 24 (.tmp 147)), 24, "", #[⟨567382628106240, .data⟩], (some (144, false))⟩,
  ⟨(some 146), (.call ⟨(.value (.func 14)), #[(.tmp 145)], #[43]⟩), 24, "", #[⟨21, .chain⟩], (some (144, false))⟩,
  ⟨(some 149), (.binOp .neq 24 (.tmp 146) (.tmp 148) 24), 4, "", #[], (some (144, false))⟩,
  ⟨(some 150), (.pick (.tmp 144) (.const (.bool true)) (.tmp 149)), 4, "", #[], none⟩,
  ⟨(some 151), (.move (.tmp 150)), 4, "", #[], none⟩,
  ⟨(some 152), (.move (.tmp 7)), 43, "", #[], (some (151, false))⟩,
  ⟨(some 154), (.fieldAddr 28 (.tmp 1) 7), 0, "", #[], (some (151, false))⟩,
  ⟨(some 155), (.load 9 (.tmp 154)), 9, "", #[⟨567382359670784, .data⟩], (some (151, false))⟩,
  ⟨(some 153), (.call ⟨(.value (.func 15)), #[(.tmp 152)], #[43]⟩), 9, "", #[⟨28, .chain⟩], (some (151, false))⟩,
  ⟨(some 156), (.binOp .neq 9 (.tmp 153) (.tmp 155) 9), 4, "", #[], (some (151, false))⟩,
  ⟨(some 157), (.pick (.tmp 151) (.const (.bool true)) (.tmp 156)), 4, "", #[], none⟩,
  ⟨(some 158), (.move (.tmp 157)), 4, "", #[], none⟩,
  ⟨(some 159), (.move (.tmp 7)), 43, "", #[], (some (158, false))⟩,
  ⟨(some 161), (.fieldAddr 28 (.tmp 1) 8), 0, "", #[], (some (158, false))⟩,
  ⟨(some 162), (.load 9 (.tmp 161)), 9, "", #[⟨567347999932416, .data⟩], (some (158, false))⟩,
  ⟨(some 160), (.call ⟨(.value (.func 15)), #[(.tmp 159)], #[43]⟩), 9, "", #[⟨35, .chain⟩], (some (158, false))⟩,
  ⟨(some 163), (.binOp .neq 9 (.tmp 160) (.tmp 162) 9), 4, "", #[], (some (158, false))⟩,
  ⟨(some 164), (.pick (.tmp 158) (.const (.bool true)) (.tmp 163)), 4, "", #[], none⟩,
  ⟨(some 165), (.move (.tmp 164)), 4, "", #[], none⟩,
  ⟨(some 166), (.move (.tmp 7)), 43, "", #[], (some (165, false))⟩,
  ⟨(some 168), (.fieldAddr 28 (.tmp 1) 9), 0, "", #[], (some (165, false))⟩,
  ⟨(some 169), (.load 9 (.tmp 168)), 9, "", #[⟨562949953421312, .data⟩], (some (165, false))⟩,
  ⟨(some 167), (.call ⟨(.value (.func 15)), #[(.tmp 166)], #[43]⟩), 9, "", #[⟨42, .chain⟩], (some (165, false))⟩,
  ⟨(some 170), (.binOp .neq 9 (.tmp 167) (.tmp 169) 9), 4, "", #[], (some (165, false))⟩,
  ⟨(some 171), (.pick (.tmp 165) (.const (.bool true)) (.tmp 170)), 4, "", #[], none⟩,
  ⟨(some 172), (.move (.tmp 171)), 4, "", #[], none⟩,
  ⟨(some 173), (.move (.tmp 7)), 43, "", #[], (some (172, false))⟩,
  ⟨(some 175), (.fieldAddr 28 (.tmp 1) 10), 0, "", #[], (some (172, false))⟩,
  ⟨(some 176), (.load 9 (.tmp 175)), 9, "", #[⟨0, .data⟩], (some (172, false))⟩,
  ⟨(some 174), (.call ⟨(.value (.func 15)), #[(.tmp 173)], #[43]⟩), 9, "", #[⟨49, .chain⟩], (some (172, false))⟩,
  ⟨(some 177), (.binOp .neq 9 (.tmp 174) (.tmp 176) 9), 4, "", #[], (some (172, false))⟩,
  ⟨(some 178), (.pick (.tmp 172) (.const (.bool true)) (.tmp 177)), 4, "", #[], none⟩]
def F3.r15 : List Oper := [
  op 2 (.assign (.const (.bool false))) 4]
def F3.r16 : List Oper := [
  op 179 (.move (.tmp 7)) 43,
  oc 180 (.call ⟨(.value (.func 16)), #[(.tmp 179)], #[43]⟩) 0]
def F3.r17 : List Oper := [
  op 182 (.move (.tmp 7)) 43,
  oc 183 (.call ⟨(.value (.func 17)), #[(.tmp 182)], #[43]⟩) 50,
  op 181 (.move (.tmp 183)) 50,
  op 184 (.extract (.tmp 181) 0) 37,
  op 185 (.extract (.tmp 181) 1) 3,
  op 8 (.assign (.tmp 184)) 37,
  op 9 (.assign (.tmp 185)) 3]
def F3.r18 : List Oper := [
  op 186 (.move (.tmp 8)) 37,
  op 187 (.binOp .eql 37 (.tmp 186) (.const (.int .i64 0)) 37) 4,
  op 2 (.assign (.tmp 187)) 4]
def F3.t16 : Cd := (.seq (.region 16 F3.r16.toArray false) (.seq (.region 17 F3.r17.toArray false) (.seq (.region 18 F3.r18.toArray false) .ret)))
theorem F3.t16_eq {θ : Tag (F3.t16, Q, e, w)} : cwE P F3.t16 Q e w θ = cwE P (.seq (.region 16 F3.r16.toArray false) (.seq (.region 17 F3.r17.toArray false) (.seq (.region 18 F3.r18.toArray false) .ret))) Q e w := rfl
def F3.t14 : Cd := (.seq (.seq (.region 14 F3.r14.toArray true) (.cond (.tmp 178) (.seq (.region 15 F3.r15.toArray false) .ret) .skip)) F3.t16)
theorem F3.t14_eq {θ : Tag (F3.t14, Q, e, w)} : cwE P F3.t14 Q e w θ = cwE P (.seq (.seq (.region 14 F3.r14.toArray true) (.cond (.tmp 178) (.seq (.region 15 F3.r15.toArray false) .ret) .skip)) F3.t16) Q e w := rfl
def F3.t11 : Cd := (.seq (.region 11 F3.r11.toArray false) (.seq (.seq (.region 12 F3.r12.toArray true) (.cond (.tmp 124) (.seq (.region 13 F3.r13.toArray false) .ret) .skip)) F3.t14))
theorem F3.t11_eq {θ : Tag (F3.t11, Q, e, w)} : cwE P F3.t11 Q e w θ = cwE P (.seq (.region 11 F3.r11.toArray false) (.seq (.seq (.region 12 F3.r12.toArray true) (.cond (.tmp 124) (.seq (.region 13 F3.r13.toArray false) .ret) .skip)) F3.t14)) Q e w := rfl
def F3.t9 : Cd := (.seq (.seq (.region 9 F3.r9.toArray true) (.cond (.tmp 73) (.seq (.region 10 F3.r10.toArray false) .ret) .skip)) F3.t11)
theorem F3.t9_eq {θ : Tag (F3.t9, Q, e, w)} : cwE P F3.t9 Q e w θ = cwE P (.seq (.seq (.region 9 F3.r9.toArray true) (.cond (.tmp 73) (.seq (.region 10 F3.r10.toArray false) .ret) .skip)) F3.t11) Q e w := rfl
def F3.t5 : Cd := (.seq (.region 5 F3.r5.toArray false) (.seq (.region 6 F3.r6.toArray false) (.seq (.seq (.region 7 F3.r7.toArray false) (.cond (.tmp 33) (.seq (.region 8 F3.r8.toArray false) .ret) .skip)) F3.t9)))
theorem F3.t5_eq {θ : Tag (F3.t5, Q, e, w)} : cwE P F3.t5 Q e w θ = cwE P (.seq (.region 5 F3.r5.toArray false) (.seq (.region 6 F3.r6.toArray false) (.seq (.seq (.region 7 F3.r7.toArray false) (.cond (.tmp 33) (.seq (.region 8 F3.r8.toArray false) .ret) .skip)) F3.t9))) Q e w := rfl
def F3.t3 : Cd := (.seq (.seq (.region 3 F3.r3.toArray false) (.cond (.tmp 16) (.seq (.region 4 F3.r4.toArray false) .ret) .skip)) F3.t5)
theorem F3.t3_eq {θ : Tag (F3.t3, Q, e, w)} : cwE P F3.t3 Q e w θ = cwE P (.seq (.seq (.region 3 F3.r3.toArray false) (.cond (.tmp 16) (.seq (.region 4 F3.r4.toArray false) .ret) .skip)) F3.t5) Q e w := rfl
def F3.code : Cd := (.seq (.region 0 F3.r0.toArray false) (.seq (.seq (.region 1 F3.r1.toArray false) (.cond (.tmp 13) (.seq (.region 2 F3.r2.toArray false) .ret) .skip)) F3.t3))
theorem F3.calls (hn : args.size ≤ 188) (h : cwE Tryz.prog F3.code (fnP Tryz.prog #[(.tmp 2)] R) (entry args) w) : Calls Tryz.prog 3 args w R :=
  calls_of_cwE (types := Tryz.prog.types) follows Tryz.func3 F3.code rfl (by kernel_rfl) hn h

def F4.r0 : List Oper := [
  oc 1 (.box 35 (.tmp 0)) 0,
  op 2 (.assign (.const (.int .i64 0))) 3]
def F4.r1 : List Oper := [
  op 5 (.fieldAddr 35 (.tmp 1) 3) 0,
  od 6 (.load 9 (.tmp 5)) 9,
  op 7 (.call ⟨(.builtin .len), #[(.tmp 6)], #[9]⟩) 3,
  op 8 (.binOp .add 3 (.const (.int .i64 1)) (.tmp 7) 3) 3,
  op 9 (.fieldAddr 35 (.tmp 1) 5) 0,
  od 10 (.load 9 (.tmp 9)) 9,
  op 11 (.call ⟨(.builtin .len), #[(.tmp 10)], #[9]⟩) 3,
  op 12 (.binOp .add 3 (.tmp 8) (.tmp 11) 3) 3,
  op 13 (.fieldAddr 35 (.tmp 1) 6) 0,
  od 14 (.load 9 (.tmp 13)) 9,
  op 15 (.call ⟨(.builtin .len), #[(.tmp 14)], #[9]⟩) 3,
  op 16 (.binOp .add 3 (.tmp 12) (.tmp 15) 3) 3,
  op 17 (.fieldAddr 35 (.tmp 1) 7) 0,
  od 18 (.load 9 (.tmp 17)) 9,
  op 19 (.call ⟨(.builtin .len), #[(.tmp 18)], #[9]⟩) 3,
  op 20 (.binOp .add 3 (.tmp 16) (.tmp 19) 3) 3,
  op 21 (.fieldAddr 35 (.tmp 1) 16) 0,
  od 22 (.load 9 (.tmp 21)) 9,
  op 23 (.call ⟨(.builtin .len), #[(.tmp 22)], #[9]⟩) 3,
  op 24 (.binOp .add 3 (.tmp 20) (.tmp 23) 3) 3,
  op 25 (.fieldAddr 35 (.tmp 1) 20) 0,
  od 26 (.load 33 (.tmp 25)) 33,
  op 27 (.call ⟨(.builtin .len), #[(.tmp 26)], #[33]⟩) 3,
  op 28 (.binOp .add 3 (.tmp 24) (.tmp 27) 3) 3,
  op 29 (.fieldAddr 35 (.tmp 1) 12) 0,
  od 30 (.load 32 (.tmp 29)) 32,
  op 31 (.call ⟨(.builtin .len), #[(.tmp 30)], #[32]⟩) 3,
  op 32 (.binOp .mul 3 (.const (.int .i64 13)) (.tmp 31) 3) 3,
  op 33 (.binOp .add 3 (.tmp 28) (.tmp 32) 3) 3,
  op 3 (.assign (.tmp 33)) 3]
def F4.r2 : List Oper := [
  op 34 (.move (.tmp 3)) 3,
  op 35 (.fieldAddr 35 (.tmp 1) 21) 0,
  op 36 (.fieldAddr 28 (.tmp 35) 7) 0,
  od 37 (.load 9 (.tmp 36)) 9,
  op 38 (.call ⟨(.builtin .len), #[(.tmp 37)], #[9]⟩) 3,
  op 39 (.fieldAddr 35 (.tmp 1) 21) 0,
  op 40 (.fieldAddr 28 (.tmp 39) 8) 0,
  od 41 (.load 9 (.tmp 40)) 9,
  op 42 (.call ⟨(.builtin .len), #[(.tmp 41)], #[9]⟩) 3,
  op 43 (.binOp .add 3 (.tmp 38) (.tmp 42) 3) 3,
  op 44 (.fieldAddr 35 (.tmp 1) 21) 0,
  op 45 (.fieldAddr 28 (.tmp 44) 9) 0,
  od 46 (.load 9 (.tmp 45)) 9,
  op 47 (.call ⟨(.builtin .len), #[(.tmp 46)], #[9]⟩) 3,
  op 48 (.binOp .add 3 (.tmp 43) (.tmp 47) 3) 3,
  op 49 (.fieldAddr 35 (.tmp 1) 21) 0,
  op 50 (.fieldAddr 28 (.tmp 49) 10) 0,
  od 51 (.load 9 (.tmp 50)) 9,
  op 52 (.call ⟨(.builtin .len), #[(.tmp 51)], #[9]⟩) 3,
  op 53 (.binOp .add 3 (.tmp 48) (.tmp 52) 3) 3,
  op 54 (.binOp .add 3 (.tmp 34) (.tmp 53) 3) 3,
  op 3 (.assign (.tmp 54)) 3]
def F4.r3 : List Oper := [
  op 4 (.assign (.const (.int .i64 0))) 3]
def F4.r4 : List Oper := [
  op 55 (.move (.tmp 4)) 3,
  op 56 (.fieldAddr 35 (.tmp 1) 11) 0,
  od 57 (.load 31 (.tmp 56)) 31,
  op 58 (.call ⟨(.builtin .len), #[(.tmp 57)], #[31]⟩) 3,
  op 59 (.binOp .lss 3 (.tmp 55) (.tmp 58) 3) 4,
  op 60 (.move (.tmp 59)) 4,
  ⟨(some 61), (.move (.tmp 3)), 3, "", #[], (some (60, true))⟩,
  ⟨(some 62), (.binOp .leq 3 (.tmp 61) (.const (.int .i64 2147483647)) 3), 4, "", #[], (some (60, true))⟩,
  op 63 (.pick (.tmp 60) (.tmp 62) (.const (.bool false))) 4]
def F4.r6 : List Oper := [
  op 66 (.move (.tmp 3)) 3,
  op 67 (.fieldAddr 35 (.tmp 1) 11) 0,
  od 68 (.load 31 (.tmp 67)) 31,
  op 69 (.move (.tmp 4)) 3,
  op 70 (.indexAddr 31 (.tmp 68) (.tmp 69)) 0,
  od 71 (.load 9 (.tmp 70)) 9,
  op 72 (.call ⟨(.builtin .len), #[(.tmp 71)], #[9]⟩) 3,
  op 73 (.binOp .add 3 (.const (.int .i64 2)) (.tmp 72) 3) 3,
  op 74 (.binOp .add 3 (.tmp 66) (.tmp 73) 3) 3,
  op 3 (.assign (.tmp 74)) 3]
def F4.r5 : List Oper := [
  op 64 (.move (.tmp 4)) 3,
  op 65 (.binOp .add 3 (.tmp 64) (.const (.int .i64 1)) 3) 3,
  op 4 (.assign (.tmp 65)) 3]
def F4.r7 : List Oper := [
  op 75 (.move (.tmp 3)) 3,
  op 2 (.assign (.tmp 75)) 3]
def F4.t5 : Cd := (.region 5 F4.r5.toArray false)
theorem F4.t5_eq {θ : Tag (F4.t5, Q, e, w)} : cwE P F4.t5 Q e w θ = cwE P (.region 5 F4.r5.toArray false) Q e w := rfl
def F4.t6 : Cd := (.seq (.block 1 (.region 6 F4.r6.toArray false)) F4.t5)
theorem F4.t6_eq {θ : Tag (F4.t6, Q, e, w)} : cwE P F4.t6 Q e w θ = cwE P (.seq (.block 1 (.region 6 F4.r6.toArray false)) F4.t5) Q e w := rfl
def F4.t7 : Cd := (.seq (.region 7 F4.r7.toArray false) .ret)
theorem F4.t7_eq {θ : Tag (F4.t7, Q, e, w)} : cwE P F4.t7 Q e w θ = cwE P (.seq (.region 7 F4.r7.toArray false) .ret) Q e w := rfl
def F4.code : Cd := (.seq (.region 0 F4.r0.toArray false) (.seq (.region 1 F4.r1.toArray false) (.seq (.region 2 F4.r2.toArray false) (.seq (.seq (.region 3 F4.r3.toArray false) (.block 0 (.loop (.seq (.seq (.region 4 F4.r4.toArray false) (.cond (.tmp 63) .skip (.exit 0))) F4.t6)))) F4.t7))))
theorem F4.calls (hn : args.size ≤ 76) (h : cwE Tryz.prog F4.code (fnP Tryz.prog #[(.tmp 2)] R) (entry args) w) : Calls Tryz.prog 4 args w R :=
  calls_of_cwE (types := Tryz.prog.types) follows Tryz.func4 F4.code rfl (by kernel_rfl) hn h

def F5.r0 : List Oper := [
  oc 1 (.box 28 (.tmp 0)) 0,
  op 2 (.assign (.const (.int .i64 0))) 3]
def F5.r1 : List Oper := [
  op 3 (.fieldAddr 28 (.tmp 1) 7) 0,
  od 4 (.load 9 (.tmp 3)) 9,
  op 5 (.call ⟨(.builtin .len), #[(.tmp 4)], #[9]⟩) 3,
  op 6 (.binOp .add 3 (.const (.int .i64 49)) (.tmp 5) 3) 3,
  op 7 (.fieldAddr 28 (.tmp 1) 8) 0,
  od 8 (.load 9 (.tmp 7)) 9,
  op 9 (.call ⟨(.builtin .len), #[(.tmp 8)], #[9]⟩) 3,
  op 10 (.binOp .add 3 (.tmp 6) (.tmp 9) 3) 3,
  op 11 (.fieldAddr 28 (.tmp 1) 9) 0,
  od 12 (.load 9 (.tmp 11)) 9,
  op 13 (.call ⟨(.builtin .len), #[(.tmp 12)], #[9]⟩) 3,
  op 14 (.binOp .add 3 (.tmp 10) (.tmp 13) 3) 3,
  op 15 (.fieldAddr 28 (.tmp 1) 10) 0,
  od 16 (.load 9 (.tmp 15)) 9,
  op 17 (.call ⟨(.builtin .len), #[(.tmp 16)], #[9]⟩) 3,
  op 18 (.binOp .add 3 (.tmp 14) (.tmp 17) 3) 3,
  op 2 (.assign (.tmp 18)) 3]
def F5.code : Cd := (.seq (.region 0 F5.r0.toArray false) (.seq (.region 1 F5.r1.toArray false) .ret))
theorem F5.calls (hn : args.size ≤ 19) (h : cwE Tryz.prog F5.code (fnP Tryz.prog #[(.tmp 2)] R) (entry args) w) : Calls Tryz.prog 5 args w R :=
  calls_of_cwE (types := Tryz.prog.types) follows Tryz.func5 F5.code rfl (by kernel_rfl) hn h

def F6.r0 : List Oper := [
  oc 1 (.box 28 (.tmp 0)) 0,
  op 2 (.assign (.const (.slice none 0 0))) 33,
  op 3 (.assign (.const (.int .i64 0))) 37]
def F6.r1 : List Oper := [
  op 8 (.fieldAddr 28 (.tmp 1) 7) 0,
  od 9 (.load 9 (.tmp 8)) 9,
  op 10 (.fieldAddr 28 (.tmp 1) 8) 0,
  od 11 (.load 9 (.tmp 10)) 9,
  op 12 (.fieldAddr 28 (.tmp 1) 9) 0,
  od 13 (.load 9 (.tmp 12)) 9,
  op 14 (.fieldAddr 28 (.tmp 1) 10) 0,
  od 15 (.load 9 (.tmp 14)) 9,
  oc 16 (.buildSlice 31 4 #[(0, (.tmp 9)), (1, (.tmp 11)), (2, (.tmp 13)), (3, (.tmp 15))]) 31,
  op 17 (.call ⟨(.builtin .len), #[(.tmp 16)], #[31]⟩) 3,
  op 18 (.move (.const (.int .i64 0))) 3]
def F6.r2 : List Oper := [
  op 19 (.binOp .lss 3 (.tmp 18) (.tmp 17) 3) 0]
def F6.r3 : List Oper := [
  op 20 (.indexAddr 31 (.tmp 16) (.tmp 18)) 0,
  od 21 (.load 9 (.tmp 20)) 9,
  op 5 (.assign (.tmp 21)) 9]
def F6.r4 : List Oper := [
  op 22 (.move (.tmp 5)) 9,
  op 23 (.call ⟨(.builtin .len), #[(.tmp 22)], #[9]⟩) 3,
  op 24 (.binOp .gtr 3 (.tmp 23) (.const (.int .i64 65535)) 3) 4]
def F6.r5 : List Oper := [
  op 2 (.assign (.const (.slice none 0 0))) 33,
  op 3 (.assign (.const (.int .i64 13))) 37]
def F6.r6 : List Oper := [
  op 25 (.move (.tmp 5)) 9,
  oc 26 (.call ⟨(.value (.func 18)), #[(.tmp 25)], #[9]⟩) 4,
  op 27 (.unOp .not 4 (.tmp 26)) 4]
def F6.r7 : List Oper := [
  op 2 (.assign (.const (.slice none 0 0))) 33,
  op 3 (.assign (.const (.int .i64 12))) 37]
def F6.r8 : List Oper := [
  op 28 (.binOp .add 3 (.tmp 18) (.const (.int .i64 1)) 3) 3,
  op 18 (.move (.tmp 28)) 3]
def F6.r9 : List Oper := [
  od 29 (.load 28 (.tmp 1)) 28,
  oc 30 (.call ⟨(.value (.func 5)), #[(.tmp 29)], #[28]⟩) 3,
  op 31 (.binOp .sub 3 (.tmp 30) (.const (.int .i64 2)) 3) 3,
  op 32 (.binOp .gtr 3 (.tmp 31) (.const (.int .i64 65535)) 3) 4]
def F6.r10 : List Oper := [
  op 2 (.assign (.const (.slice none 0 0))) 33,
  op 3 (.assign (.const (.int .i64 13))) 37]
def F6.r11 : List Oper := [
  od 34 (.load 28 (.tmp 1)) 28,
  oc 35 (.call ⟨(.value (.func 5)), #[(.tmp 34)], #[28]⟩) 3,
  oc 36 (.call ⟨(.value (.func 19)), #[(.tmp 35)], #[3]⟩) 55,
  op 33 (.move (.tmp 36)) 55,
  op 37 (.extract (.tmp 33) 0) 54,
  op 38 (.extract (.tmp 33) 1) 37,
  op 6 (.assign (.tmp 37)) 54,
  op 7 (.assign (.tmp 38)) 37]
def F6.r12 : List Oper := [
  op 39 (.move (.tmp 7)) 37,
  op 40 (.binOp .neq 37 (.tmp 39) (.const (.int .i64 0)) 37) 4]
def F6.r13 : List Oper := [
  op 41 (.move (.tmp 7)) 37,
  op 2 (.assign (.const (.slice none 0 0))) 33,
  op 3 (.assign (.tmp 41)) 37]
def F6.r14 : List Oper := [
  op 42 (.move (.tmp 6)) 54,
  od 43 (.load 28 (.tmp 1)) 28,
  oc 44 (.call ⟨(.value (.func 20)), #[(.tmp 42), (.tmp 43)], #[54, 28]⟩) 0]
def F6.r15 : List Oper := [
  op 45 (.move (.tmp 6)) 54,
  oc 46 (.call ⟨(.value (.func 21)), #[(.tmp 45)], #[54]⟩) 38,
  op 47 (.extract (.tmp 46) 0) 33,
  op 48 (.extract (.tmp 46) 1) 37,
  op 2 (.assign (.tmp 47)) 33,
  op 3 (.assign (.tmp 48)) 37]
def F6.t6 : Cd := (.seq (.region 6 F6.r6.toArray false) (.cond (.tmp 27) (.seq (.region 7 F6.r7.toArray false) .ret) .skip))
theorem F6.t6_eq {θ : Tag (F6.t6, Q, e, w)} : cwE P F6.t6 Q e w θ = cwE P (.seq (.region 6 F6.r6.toArray false) (.cond (.tmp 27) (.seq (.region 7 F6.r7.toArray false) .ret) .skip)) Q e w := rfl
def F6.t8 : Cd := (.region 8 F6.r8.toArray false)
theorem F6.t8_eq {θ : Tag (F6.t8, Q, e, w)} : cwE P F6.t8 Q e w θ = cwE P (.region 8 F6.r8.toArray false) Q e w := rfl
def F6.t3 : Cd := (.seq (.block 1 (.seq (.region 3 F6.r3.toArray false) (.seq (.seq (.region 4 F6.r4.toArray false) (.cond (.tmp 24) (.seq (.region 5 F6.r5.toArray false) .ret) .skip)) F6.t6))) F6.t8)
theorem F6.t3_eq {θ : Tag (F6.t3, Q, e, w)} : cwE P F6.t3 Q e w θ = cwE P (.seq (.block 1 (.seq (.region 3 F6.r3.toArray false) (.seq (.seq (.region 4 F6.r4.toArray false) (.cond (.tmp 24) (.seq (.region 5 F6.r5.toArray false) .ret) .skip)) F6.t6))) F6.t8) Q e w := rfl
def F6.t14 : Cd := (.seq (.region 14 F6.r14.toArray false) (.seq (.region 15 F6.r15.toArray false) .ret))
theorem F6.t14_eq {θ : Tag (F6.t14, Q, e, w)} : cwE P F6.t14 Q e w θ = cwE P (.seq (.region 14 F6.r14.toArray false) (.seq (.region 15 F6.r15.toArray false) .ret)) Q e w := rfl
def F6.t11 : Cd := (.seq (.region 11 F6.r11.toArray false) (.seq (.seq (.region 12 F6.r12.toArray false) (.cond (.tmp 40) (.seq (.region 13 F6.r13.toArray false) .ret) .skip)) F6.t14))
theorem F6.t11_eq {θ : Tag (F6.t11, Q, e, w)} : cwE P F6.t11 Q e w θ = cwE P (.seq (.region 11 F6.r11.toArray false) (.seq (.seq (.region 12 F6.r12.toArray false) (.cond (.tmp 40) (.seq (.region 13 F6.r13.toArray false) .ret) .skip)) F6.t14)) Q e w := rfl
def F6.t9 : Cd := (.seq (.seq (.region 9 F6.r9.toArray false) (.cond (.tmp 32) (.seq (.region 10 F6.r10.toArray false) .ret) .skip)) F6.t11)
theorem F6.t9_eq {θ : Tag (F6.t9, Q, e, w)} : cwE P F6.t9 Q e w θ = cwE P (.seq (.seq (.region 9 F6.r9.toArray false) (.cond (.tmp 32) (.seq (.region 10 F6.r10.toArray false) .ret) .skip)) F6.t11) Q e w := rfl
def F6.code : Cd := (.seq (.region 0 F6.r0.toArray false) (.seq (.seq (.region 1 F6.r1.toArray false) (.block 0 (.loop (.seq (.region 2 F6.r2.toArray false) (.seq (.cond (.tmp 19) .skip (.exit 0)) F6.t3))))) F6.t9))
theorem F6.calls (hn : args.size ≤ 49) (h : cwE Tryz.prog F6.code (fnP Tryz.prog #[(.tmp 2), (.tmp 3)] R) (entry args) w) : Calls Tryz.prog 6 args w R :=
  calls_of_cwE (types := Tryz.prog.types) follows Tryz.func6 F6.code rfl (by kernel_rfl) hn h

def F7.r0 : List Oper := [
  oc 1 (.box 35 (.tmp 0)) 0,
  op 2 (.assign (.const (.slice none 0 0))) 33,
  op 3 (.assign (.const (.int .i64 0))) 37]
def F7.r1 : List Oper := [
  op 15 (.fieldAddr 35 (.tmp 1) 0) 0,
  od 16 (.load 30 (.tmp 15)) 30,
  oc 17 (.call ⟨(.value (.func 22)), #[(.tmp 16)], #[30]⟩) 62,
  op 14 (.move (.tmp 17)) 62,
  op 18 (.extract (.tmp 14) 0) 61,
  op 19 (.extract (.tmp 14) 1) 4,
  oc 4 (.alloc 61) 0,
  ⟨none, (.store 61 (.tmp 4) (.tmp 18)), 0, "", #[⟨0, .chain⟩], none⟩,
  op 5 (.assign (.tmp 19)) 4]
def F7.r2 : List Oper := [
  op 20 (.move (.tmp 5)) 4,
  op 21 (.unOp .not 4 (.tmp 20)) 4]
def F7.r3 : List Oper := [
  op 2 (.assign (.const (.slice none 0 0))) 33,
  op 3 (.assign (.const (.int .i64 32))) 37]
def F7.r4 : List Oper := [
  op 22 (.fieldAddr 61 (.tmp 4) 2) 0,
  od 23 (.load 59 (.tmp 22)) 59,
  op 24 (.call ⟨(.builtin .len), #[(.tmp 23)], #[59]⟩) 3,
  op 25 (.move (.const (.int .i64 0))) 3]
def F7.r5 : List Oper := [
  op 26 (.binOp .lss 3 (.tmp 25) (.tmp 24) 3) 0]
def F7.r6 : List Oper := [
  op 27 (.indexAddr 59 (.tmp 23) (.tmp 25)) 0,
  od 28 (.load 64 (.tmp 27)) 64,
  op 7 (.assign (.tmp 28)) 64]
def F7.r7 : List Oper := [
  op 29 (.move (.tmp 7)) 64,
  oc 30 (.call ⟨(.value (.func 23)), #[(.tmp 29)], #[64]⟩) 72,
  op 31 (.field 72 (.tmp 30) 1) 65,
  ⟨(some 32), (.call ⟨(.value (.tmp 31)), #[(.tmp 1)], #[74]⟩), 4, "", #[⟨0, .phase⟩], none⟩,
  op 33 (.unOp .not 4 (.tmp 32)) 4]
def F7.r8 : List Oper := [
  op 2 (.assign (.const (.slice none 0 0))) 33,
  op 3 (.assign (.const (.int .i64 30))) 37]
def F7.r9 : List Oper := [
  op 34 (.binOp .add 3 (.tmp 25) (.const (.int .i64 1)) 3) 3,
  op 25 (.move (.tmp 34)) 3]
def F7.r10 : List Oper := [
  oc 36 (.call ⟨(.value (.func 19)), #[(.const (.int .i64 65536))], #[3]⟩) 55,
  op 35 (.move (.tmp 36)) 55,
  op 37 (.extract (.tmp 35) 0) 54,
  op 38 (.extract (.tmp 35) 1) 37,
  op 8 (.assign (.tmp 37)) 54,
  op 9 (.assign (.tmp 38)) 37]
def F7.r11 : List Oper := [
  op 39 (.move (.tmp 9)) 37,
  op 40 (.binOp .neq 37 (.tmp 39) (.const (.int .i64 0)) 37) 4]
def F7.r12 : List Oper := [
  op 41 (.move (.tmp 9)) 37,
  op 2 (.assign (.const (.slice none 0 0))) 33,
  op 3 (.assign (.tmp 41)) 37]
def F7.r13 : List Oper := [
  op 42 (.move (.tmp 8)) 54,
  oc 43 (.call ⟨(.value (.func 24)), #[(.tmp 42), (.const (.int .u32 0))], #[54, 23]⟩) 0]
def F7.r14 : List Oper := [
  op 44 (.move (.tmp 8)) 54,
  op 45 (.fieldAddr 35 (.tmp 1) 0) 0,
  od 46 (.load 30 (.tmp 45)) 30,
  oc 47 (.call ⟨(.value (.func 25)), #[(.tmp 44), (.tmp 46)], #[54, 5]⟩) 0]
def F7.r15 : List Oper := [
  op 48 (.move (.tmp 8)) 54,
  op 49 (.fieldAddr 35 (.tmp 1) 1) 0,
  od 50 (.load 22 (.tmp 49)) 22,
  oc 51 (.call ⟨(.value (.func 26)), #[(.tmp 48), (.tmp 50)], #[54, 22]⟩) 0]
def F7.r16 : List Oper := [
  op 52 (.fieldAddr 61 (.tmp 4) 2) 0,
  od 53 (.load 59 (.tmp 52)) 59,
  op 54 (.call ⟨(.builtin .len), #[(.tmp 53)], #[59]⟩) 3,
  op 55 (.move (.const (.int .i64 0))) 3]
def F7.r17 : List Oper := [
  op 56 (.binOp .lss 3 (.tmp 55) (.tmp 54) 3) 0]
def F7.r18 : List Oper := [
  op 57 (.indexAddr 59 (.tmp 53) (.tmp 55)) 0,
  od 58 (.load 64 (.tmp 57)) 64,
  op 11 (.assign (.tmp 58)) 64]
def F7.r19 : List Oper := [
  op 59 (.move (.tmp 11)) 64,
  oc 60 (.call ⟨(.value (.func 23)), #[(.tmp 59)], #[64]⟩) 72,
  op 61 (.field 72 (.tmp 60) 2) 66,
  op 62 (.move (.tmp 8)) 54,
  ⟨(some 63), (.call ⟨(.value (.tmp 61)), #[(.tmp 62), (.tmp 1)], #[54, 74]⟩), 0, "", #[⟨0, .phase⟩], none⟩]
def F7.r20 : List Oper := [
  op 64 (.binOp .add 3 (.tmp 55) (.const (.int .i64 1)) 3) 3,
  op 55 (.move (.tmp 64)) 3]
def F7.r21 : List Oper := [
  op 66 (.move (.tmp 8)) 54,
  oc 67 (.call ⟨(.value (.func 21)), #[(.tmp 66)], #[54]⟩) 38,
  op 65 (.move (.tmp 67)) 38,
  op 68 (.extract (.tmp 65) 0) 33,
  op 69 (.extract (.tmp 65) 1) 37,
  op 12 (.assign (.tmp 68)) 33,
  op 9 (.assign (.tmp 69)) 37]
def F7.r22 : List Oper := [
  op 70 (.move (.tmp 9)) 37,
  op 71 (.binOp .neq 37 (.tmp 70) (.const (.int .i64 0)) 37) 4]
def F7.r23 : List Oper := [
  op 2 (.assign (.const (.slice none 0 0))) 33,
  op 3 (.assign (.const (.int .i64 31))) 37]
def F7.r24 : List Oper := [
  op 72 (.move (.const (.int .i64 0))) 3]
def F7.r25 : List Oper := [
  op 73 (.binOp .lss 3 (.tmp 72) (.const (.int .i64 4)) 3) 4]
def F7.r26 : List Oper := [
  op 74 (.move (.tmp 72)) 3,
  op 13 (.assign (.tmp 74)) 3]
def F7.r27 : List Oper := [
  op 75 (.move (.tmp 12)) 33,
  op 76 (.move (.tmp 13)) 3,
  op 77 (.move (.tmp 12)) 33,
  op 78 (.call ⟨(.builtin .len), #[(.tmp 77)], #[33]⟩) 3,
  op 79 (.move (.tmp 13)) 3,
  op 80 (.binOp .mul 3 (.const (.int .i64 8)) (.tmp 79) 3) 3,
  op 81 (.binOp .shr 3 (.tmp 78) (.tmp 80) 3) 3,
  op 82 (.convert 3 5 (.tmp 81)) 5,
  op 83 (.indexAddr 33 (.tmp 75) (.tmp 76)) 0,
  ⟨none, (.store 5 (.tmp 83) (.tmp 82)), 0, "", #[⟨0, .chain⟩], none⟩]
def F7.r28 : List Oper := [
  op 84 (.binOp .add 3 (.tmp 72) (.const (.int .i64 1)) 3) 3,
  op 72 (.move (.tmp 84)) 3]
def F7.r29 : List Oper := [
  op 85 (.move (.tmp 12)) 33,
  op 2 (.assign (.tmp 85)) 33,
  op 3 (.assign (.const (.int .i64 0))) 37]
def F7.t9 : Cd := (.region 9 F7.r9.toArray false)
theorem F7.t9_eq {θ : Tag (F7.t9, Q, e, w)} : cwE P F7.t9 Q e w θ = cwE P (.region 9 F7.r9.toArray false) Q e w := rfl
def F7.t6 : Cd := (.seq (.block 1 (.seq (.region 6 F7.r6.toArray false) (.seq (.region 7 F7.r7.toArray false) (.cond (.tmp 33) (.seq (.region 8 F7.r8.toArray false) .ret) .skip)))) F7.t9)
theorem F7.t6_eq {θ : Tag (F7.t6, Q, e, w)} : cwE P F7.t6 Q e w θ = cwE P (.seq (.block 1 (.seq (.region 6 F7.r6.toArray false) (.seq (.region 7 F7.r7.toArray false) (.cond (.tmp 33) (.seq (.region 8 F7.r8.toArray false) .ret) .skip)))) F7.t9) Q e w := rfl
def F7.t20 : Cd := (.region 20 F7.r20.toArray false)
theorem F7.t20_eq {θ : Tag (F7.t20, Q, e, w)} : cwE P F7.t20 Q e w θ = cwE P (.region 20 F7.r20.toArray false) Q e w := rfl
def F7.t18 : Cd := (.seq (.block 3 (.seq (.region 18 F7.r18.toArray false) (.region 19 F7.r19.toArray false))) F7.t20)
theorem F7.t18_eq {θ : Tag (F7.t18, Q, e, w)} : cwE P F7.t18 Q e w θ = cwE P (.seq (.block 3 (.seq (.region 18 F7.r18.toArray false) (.region 19 F7.r19.toArray false))) F7.t20) Q e w := rfl
def F7.t28 : Cd := (.region 28 F7.r28.toArray false)
theorem F7.t28_eq {θ : Tag (F7.t28, Q, e, w)} : cwE P F7.t28 Q e w θ = cwE P (.region 28 F7.r28.toArray false) Q e w := rfl
def F7.t26 : Cd := (.seq (.block 5 (.seq (.region 26 F7.r26.toArray false) (.region 27 F7.r27.toArray false))) F7.t28)
theorem F7.t26_eq {θ : Tag (F7.t26, Q, e, w)} : cwE P F7.t26 Q e w θ = cwE P (.seq (.block 5 (.seq (.region 26 F7.r26.toArray false) (.region 27 F7.r27.toArray false))) F7.t28) Q e w := rfl
def F7.t29 : Cd := (.seq (.region 29 F7.r29.toArray false) .ret)
theorem F7.t29_eq {θ : Tag (F7.t29, Q, e, w)} : cwE P F7.t29 Q e w θ = cwE P (.seq (.region 29 F7.r29.toArray false) .ret) Q e w := rfl
def F7.t24 : Cd := (.seq (.seq (.region 24 F7.r24.toArray false) (.block 4 (.loop (.seq (.region 25 F7.r25.toArray false) (.seq (.cond (.tmp 73) .skip (.exit 4)) F7.t26))))) F7.t29)
theorem F7.t24_eq {θ : Tag (F7.t24, Q, e, w)} : cwE P F7.t24 Q e w θ = cwE P (.seq (.seq (.region 24 F7.r24.toArray false) (.block 4 (.loop (.seq (.region 25 F7.r25.toArray false) (.seq (.cond (.tmp 73) .skip (.exit 4)) F7.t26))))) F7.t29) Q e w := rfl
def F7.t21 : Cd := (.seq (.region 21 F7.r21.toArray false) (.seq (.seq (.region 22 F7.r22.toArray false) (.cond (.tmp 71) (.seq (.region 23 F7.r23.toArray false) .ret) .skip)) F7.t24))
theorem F7.t21_eq {θ : Tag (F7.t21, Q, e, w)} : cwE P F7.t21 Q e w θ = cwE P (.seq (.region 21 F7.r21.toArray false) (.seq (.seq (.region 22 F7.r22.toArray false) (.cond (.tmp 71) (.seq (.region 23 F7.r23.toArray false) .ret) .skip)) F7.t24)) Q e w := rfl
def F7.t13 : Cd := (.seq (.region 13 F7.r13.toArray false) (.seq (.region 14 F7.r14.toArray false) (.seq (.region 15 F7.r15.toArray false) (.seq (.seq (.region 16 F7.r16.toArray false) (.block 2 (.loop (.seq (.region 17 F7.r17.toArray false) (.seq (.cond (.tmp 56) .skip (.exit 2)) F7.t18))))) F7.t21))))
theorem F7.t13_eq {θ : Tag (F7.t13, Q, e, w)} : cwE P F7.t13 Q e w θ = cwE P (.seq (.region 13 F7.r13.toArray false) (.seq (.region 14 F7.r14.toArray false) (.seq (.region 15 F7.r15.toArray false) (.seq (.seq (.region 16 F7.r16.toArray false) (.block 2 (.loop (.seq (.region 17 F7.r17.toArray false) (.seq (.cond (.tmp 56) .skip (.exit 2)) F7.t18))))) F7.t21)))) Q e w := rfl
def F7.t10 : Cd := (.seq (.region 10 F7.r10.toArray false) (.seq (.seq (.region 11 F7.r11.toArray false) (.cond (.tmp 40) (.seq (.region 12 F7.r12.toArray false) .ret) .skip)) F7.t13))
theorem F7.t10_eq {θ : Tag (F7.t10, Q, e, w)} : cwE P F7.t10 Q e w θ = cwE P (.seq (.region 10 F7.r10.toArray false) (.seq (.seq (.region 11 F7.r11.toArray false) (.cond (.tmp 40) (.seq (.region 12 F7.r12.toArray false) .ret) .skip)) F7.t13)) Q e w := rfl
def F7.t4 : Cd := (.seq (.seq (.region 4 F7.r4.toArray false) (.block 0 (.loop (.seq (.region 5 F7.r5.toArray false) (.seq (.cond (.tmp 26) .skip (.exit 0)) F7.t6))))) F7.t10)
theorem F7.t4_eq {θ : Tag (F7.t4, Q, e, w)} : cwE P F7.t4 Q e w θ = cwE P (.seq (.seq (.region 4 F7.r4.toArray false) (.block 0 (.loop (.seq (.region 5 F7.r5.toArray false) (.seq (.cond (.tmp 26) .skip (.exit 0)) F7.t6))))) F7.t10) Q e w := rfl
def F7.code : Cd := (.seq (.region 0 F7.r0.toArray false) (.seq (.region 1 F7.r1.toArray false) (.seq (.seq (.region 2 F7.r2.toArray false) (.cond (.tmp 21) (.seq (.region 3 F7.r3.toArray false) .ret) .skip)) F7.t4)))
theorem F7.calls (hn : args.size ≤ 86) (h : cwE Tryz.prog F7.code (fnP Tryz.prog #[(.tmp 2), (.tmp 3)] R) (entry args) w) : Calls Tryz.prog 7 args w R :=
  calls_of_cwE (types := Tryz.prog.types) follows Tryz.func7 F7.code rfl (by kernel_rfl) hn h

def F8.r0 : List Oper := [
  oc 1 (.box 35 (.tmp 0)) 0,
  op 2 (.assign (.const (.int .i64 0))) 3]
def F8.r1 : List Oper := [
  od 6 (.load 35 (.tmp 1)) 35,
  oc 7 (.call ⟨(.value (.func 7)), #[(.tmp 6)], #[35]⟩) 38,
  op 5 (.move (.tmp 7)) 38,
  op 8 (.extract (.tmp 5) 0) 33,
  op 9 (.extract (.tmp 5) 1) 37,
  op 3 (.assign (.tmp 8)) 33,
  op 4 (.assign (.tmp 9)) 37]
def F8.r2 : List Oper := [
  op 10 (.move (.tmp 3)) 33,
  op 11 (.call ⟨(.builtin .len), #[(.tmp 10)], #[33]⟩) 3,
  op 2 (.assign (.tmp 11)) 3]
def F8.code : Cd := (.seq (.region 0 F8.r0.toArray false) (.seq (.region 1 F8.r1.toArray false) (.seq (.region 2 F8.r2.toArray false) .ret)))
theorem F8.calls (hn : args.size ≤ 12) (h : cwE Tryz.prog F8.code (fnP Tryz.prog #[(.tmp 2)] R) (entry args) w) : Calls Tryz.prog 8 args w R :=
  calls_of_cwE (types := Tryz.prog.types) follows Tryz.func8 F8.code rfl (by kernel_rfl) hn h

def F9.r0 : List Oper := [
  op 4 (.assign (.const (.bool false))) 4]
def F9.r1 : List Oper := [
  op 6 (.move (.tmp 0)) 33,
  op 7 (.call ⟨(.builtin .len), #[(.tmp 6)], #[33]⟩) 3,
  op 8 (.move (.tmp 1)) 33,
  op 9 (.call ⟨(.builtin .len), #[(.tmp 8)], #[33]⟩) 3,
  op 10 (.binOp .neq 3 (.tmp 7) (.tmp 9) 3) 4]
def F9.r2 : List Oper := [
  op 4 (.assign (.const (.bool false))) 4]
def F9.r3 : List Oper := [
  op 5 (.assign (.const (.int .i64 0))) 3]
def F9.r4 : List Oper := [
  op 11 (.move (.tmp 5)) 3,
  op 12 (.move (.tmp 0)) 33,
  op 13 (.call ⟨(.builtin .len), #[(.tmp 12)], #[33]⟩) 3,
  op 14 (.binOp .lss 3 (.tmp 11) (.tmp 13) 3) 4]
def F9.r6 : List Oper := [
  ⟨(some 17), (.move (.tmp 0)), 33, "", #[], none⟩,
  ⟨(some 18), (.move (.tmp 5)), 3, "", #[], none⟩,
  ⟨(some 19), (.indexAddr 33 (.tmp 17) (.tmp 18)), 0, "", #[], none⟩,
  ⟨(some 21), (.move (.tmp 1)), 33, "", #[], none⟩,
  ⟨(some 22), (.move (.tmp 5)), 3, "", #[], none⟩,
  ⟨(some 23), (.indexAddr 33 (.tmp 21) (.tmp 22)), 0, "", #[], none⟩,
  ⟨(some 20), (.load 5 (.tmp 19)), 5, "", #[⟨0, .data⟩], none⟩,
  ⟨(some 24), (.load 5 (.tmp 23)), 5, "", #[⟨0, .data⟩], none⟩,
  ⟨(some 25), (.binOp .neq 5 (.tmp 20) (.tmp 24) 5), 4, "", #[], none⟩]
def F9.r7 : List Oper := [
  op 4 (.assign (.const (.bool false))) 4]
def F9.r5 : List Oper := [
  op 15 (.move (.tmp 5)) 3,
  op 16 (.binOp .add 3 (.tmp 15) (.const (.int .i64 1)) 3) 3,
  op 5 (.assign (.tmp 16)) 3]
def F9.r8 : List Oper := [
  op 4 (.assign (.const (.bool true))) 4]
def F9.t5 : Cd := (.region 5 F9.r5.toArray false)
theorem F9.t5_eq {θ : Tag (F9.t5, Q, e, w)} : cwE P F9.t5 Q e w θ = cwE P (.region 5 F9.r5.toArray false) Q e w := rfl
def F9.t6 : Cd := (.seq (.block 1 (.seq (.region 6 F9.r6.toArray true) (.cond (.tmp 25) (.seq (.region 7 F9.r7.toArray false) .ret) .skip))) F9.t5)
theorem F9.t6_eq {θ : Tag (F9.t6, Q, e, w)} : cwE P F9.t6 Q e w θ = cwE P (.seq (.block 1 (.seq (.region 6 F9.r6.toArray true) (.cond (.tmp 25) (.seq (.region 7 F9.r7.toArray false) .ret) .skip))) F9.t5) Q e w := rfl
def F9.t8 : Cd := (.seq (.region 8 F9.r8.toArray false) .ret)
theorem F9.t8_eq {θ : Tag (F9.t8, Q, e, w)} : cwE P F9.t8 Q e w θ = cwE P (.seq (.region 8 F9.r8.toArray false) .ret) Q e w := rfl
def F9.t3 : Cd := (.seq (.seq (.region 3 F9.r3.toArray false) (.block 0 (.loop (.seq (.seq (.region 4 F9.r4.toArray false) (.cond (.tmp 14) .skip (.exit 0))) F9.t6)))) F9.t8)
theorem F9.t3_eq {θ : Tag (F9.t3, Q, e, w)} : cwE P F9.t3 Q e w θ = cwE P (.seq (.seq (.region 3 F9.r3.toArray false) (.block 0 (.loop (.seq (.seq (.region 4 F9.r4.toArray false) (.cond (.tmp 14) .skip (.exit 0))) F9.t6)))) F9.t8) Q e w := rfl
def F9.code : Cd := (.seq (.region 0 F9.r0.toArray false) (.seq (.seq (.region 1 F9.r1.toArray false) (.cond (.tmp 10) (.seq (.region 2 F9.r2.toArray false) .ret) .skip)) F9.t3))
theorem F9.calls (hn : args.size ≤ 26) (h : cwE Tryz.prog F9.code (fnP Tryz.prog #[(.tmp 4)] R) (entry args) w) : Calls Tryz.prog 9 args w R :=
  calls_of_cwE (types := Tryz.prog.types) follows Tryz.func9 F9.code rfl (by kernel_rfl) hn h

def F10.r0 : List Oper := [
  op 2 (.assign (.const (.pointer none))) 43]
def F10.r1 : List Oper := [
  op 3 (.move (.tmp 0)) 33,
  oc 4 (.call ⟨(.builtin .append), #[(.const (.slice none 0 0)), (.tmp 3)], #[33, 33]⟩) 33,
  op 5 (.build 79 #[(0, (.tmp 4))]) 79,
  oc 6 (.box 79 (.tmp 5)) 43,
  op 2 (.assign (.tmp 6)) 43]
def F10.code : Cd := (.seq (.region 0 F10.r0.toArray false) (.seq (.region 1 F10.r1.toArray false) .ret))
theorem F10.calls (hn : args.size ≤ 7) (h : cwE Tryz.prog F10.code (fnP Tryz.prog #[(.tmp 2)] R) (entry args) w) : Calls Tryz.prog 10 args w R :=
  calls_of_cwE (types := Tryz.prog.types) follows Tryz.func10 F10.code rfl (by kernel_rfl) hn h

def F11.r0 : List Oper := [
  op 2 (.assign (.const (.int .u16 0))) 22]
def F11.r1 : List Oper := [
  op 3 (.move (.tmp 0)) 43,
  oc 4 (.call ⟨(.value (.func 27)), #[(.tmp 3), (.const (.int .i64 2))], #[43, 3]⟩) 22,
  op 2 (.assign (.tmp 4)) 22]
def F11.code : Cd := (.seq (.region 0 F11.r0.toArray false) (.seq (.region 1 F11.r1.toArray false) .ret))
theorem F11.calls (hn : args.size ≤ 5) (h : cwE Tryz.prog F11.code (fnP Tryz.prog #[(.tmp 2)] R) (entry args) w) : Calls Tryz.prog 11 args w R :=
  calls_of_cwE (types := Tryz.prog.types) follows Tryz.func11 F11.code rfl (by kernel_rfl) hn h

def F12.r0 : List Oper := [
  op 2 (.assign (.const (.int .u32 0))) 23]
def F12.r1 : List Oper := [
  op 3 (.move (.tmp 0)) 43,
  oc 4 (.call ⟨(.value (.func 28)), #[(.tmp 3), (.const (.int .i64 4))], #[43, 3]⟩) 23,
  op 2 (.assign (.tmp 4)) 23]
def F12.code : Cd := (.seq (.region 0 F12.r0.toArray false) (.seq (.region 1 F12.r1.toArray false) .ret))
theorem F12.calls (hn : args.size ≤ 5) (h : cwE Tryz.prog F12.code (fnP Tryz.prog #[(.tmp 2)] R) (entry args) w) : Calls Tryz.prog 12 args w R :=
  calls_of_cwE (types := Tryz.prog.types) follows Tryz.func12 F12.code rfl (by kernel_rfl) hn h

def F13.r0 : List Oper := [
  op 2 (.assign (.const (.int .u8 0))) 5]
def F13.r1 : List Oper := [
  op 3 (.move (.tmp 0)) 43,
  oc 4 (.call ⟨(.value (.func 29)), #[(.tmp 3), (.const (.int .i64 1))], #[43, 3]⟩) 5,
  op 2 (.assign (.tmp 4)) 5]
def F13.code : Cd := (.seq (.region 0 F13.r0.toArray false) (.seq (.region 1 F13.r1.toArray false) .ret))
theorem F13.calls (hn : args.size ≤ 5) (h : cwE Tryz.prog F13.code (fnP Tryz.prog #[(.tmp 2)] R) (entry args) w) : Calls Tryz.prog 13 args w R :=
  calls_of_cwE (types := Tryz.prog.types) follows Tryz.func13 F13.code rfl (by kernel_rfl) hn h

def F14.r0 : List Oper := [
  op 2 (.assign (.const (.int .u64 0))) 24]
def F14.r1 : List Oper := [
  op 3 (.move (.tmp 0)) 43,
  oc 4 (.call ⟨(.value (.func 30)), #[(.tmp 3), (.const (.int .i64 8))], #[43, 3]⟩) 24,
  op 2 (.assign (.tmp 4)) 24]
def F14.code : Cd := (.seq (.region 0 F14.r0.toArray false) (.seq (.region 1 F14.r1.toArray false) .ret))
theorem F14.calls (hn : args.size ≤ 5) (h : cwE Tryz.prog F14.code (fnP Tryz.prog #[(.tmp 2)] R) (entry args) w) : Calls Tryz.prog 14 args w R :=
  calls_of_cwE (types := Tryz.prog.types) follows Tryz.func14 F14.code rfl (by kernel_rfl) hn h

def F15.r0 : List Oper := [
  op 2 (.assign (.const (.string { data := #[] }))) 9]
def F15.r1 : List Oper := [
  op 8 (.move (.tmp 0)) 43,
  oc 9 (.call ⟨(.value (.func 31)), #[(.tmp 8)], #[43]⟩) 84,
  op 7 (.move (.tmp 9)) 84,
  op 10 (.extract (.tmp 7) 0) 3,
  op 11 (.extract (.tmp 7) 1) 4,
  op 3 (.assign (.tmp 10)) 3,
  op 4 (.assign (.tmp 11)) 4]
def F15.r2 : List Oper := [
  op 12 (.move (.tmp 4)) 4,
  op 13 (.unOp .not 4 (.tmp 12)) 4]
def F15.r3 : List Oper := [
  op 2 (.assign (.const (.string { data := #[] }))) 9]
def F15.r4 : List Oper := [
  ⟨(some 14), (.move (.tmp 0)), 43, "", #[], none⟩,
  ⟨(some 15), (.nilCheck (.tmp 14)), 0, "", #[], none⟩,
  ⟨(some 16), (.fieldAddr 79 (.tmp 15) 0), 0, "", #[], none⟩,
  ⟨(some 18), (.move (.tmp 0)), 43, "", #[], none⟩,
  ⟨(some 19), (.nilCheck (.tmp 18)), 0, "", #[], none⟩,
  ⟨(some 20), (.fieldAddr 79 (.tmp 19) 1), 0, "", #[], none⟩,
  ⟨(some 23), (.move (.tmp 0)), 43, "", #[], none⟩,
  ⟨(some 24), (.nilCheck (.tmp 23)), 0, "", #[], none⟩,
  ⟨(some 25), (.fieldAddr 79 (.tmp 24) 1), 0, "", #[], none⟩,
  ⟨(some 28), (.move (.tmp 3)), 3, "", #[], none⟩,
  ⟨(some 17), (.load 33 (.tmp 16)), 33, "", #[⟨0, .data⟩], none⟩,
  ⟨(some 21), (.load 3 (.tmp 20)), 3, "", #[⟨0, .data⟩], none⟩,
  ⟨(some 22), (.binOp .add 3 (.tmp 21) (.const (.int .i64 2)) 3), 3, "", #[], none⟩,
  ⟨(some 26), (.load 3 (.tmp 25)), 3, "", #[⟨0, .data⟩], none⟩,
  ⟨(some 27), (.binOp .add 3 (.tmp 26) (.const (.int .i64 2)) 3), 3, "", #[], none⟩,
  ⟨(some 29), (.binOp .add 3 (.tmp 27) (.tmp 28) 3), 3, "", #[], none⟩,
  ⟨(some 30), (.slice 33 (.tmp 17) (some (.tmp 22)) (some (.tmp 29)) none), 33, "", #[], none⟩,
  ⟨(some 31), (.convert 33 9 (.tmp 30)), 9, "", #[⟨0, .data⟩], none⟩,
  ⟨(some 5), (.assign (.tmp 31)), 9, "", #[], none⟩]
def F15.r5 : List Oper := [
  op 32 (.move (.tmp 5)) 9,
  oc 33 (.call ⟨(.value (.func 32)), #[(.tmp 32)], #[9]⟩) 3,
  op 6 (.assign (.tmp 33)) 3]
def F15.r6 : List Oper := [
  op 34 (.move (.tmp 6)) 3,
  op 35 (.binOp .geq 3 (.tmp 34) (.const (.int .i64 0)) 3) 4]
def F15.r7 : List Oper := [
  op 36 (.move (.tmp 0)) 43,
  op 37 (.move (.tmp 6)) 3,
  op 38 (.binOp .add 3 (.const (.int .i64 2)) (.tmp 37) 3) 3,
  oc 39 (.call ⟨(.value (.func 33)), #[(.tmp 36), (.const (.int .i64 12)), (.tmp 38)], #[43, 37, 3]⟩) 0]
def F15.r8 : List Oper := [
  op 2 (.assign (.const (.string { data := #[] }))) 9]
def F15.r9 : List Oper := [
  op 40 (.move (.tmp 0)) 43,
  op 41 (.nilCheck (.tmp 40)) 0,
  op 42 (.fieldAddr 79 (.tmp 41) 1) 0,
  od 43 (.load 3 (.tmp 42)) 3,
  op 44 (.move (.tmp 3)) 3,
  op 45 (.binOp .add 3 (.const (.int .i64 2)) (.tmp 44) 3) 3,
  op 46 (.binOp .add 3 (.tmp 43) (.tmp 45) 3) 3,
  op 47 (.nilCheck (.tmp 40)) 0,
  op 48 (.fieldAddr 79 (.tmp 47) 1) 0,
  ⟨none, (.store 3 (.tmp 48) (.tmp 46)), 0, "", #[⟨0, .chain⟩], none⟩]
def F15.r10 : List Oper := [
  op 49 (.move (.tmp 5)) 9,
  op 2 (.assign (.tmp 49)) 9]
def F15.t9 : Cd := (.seq (.region 9 F15.r9.toArray false) (.seq (.region 10 F15.r10.toArray false) .ret))
theorem F15.t9_eq {θ : Tag (F15.t9, Q, e, w)} : cwE P F15.t9 Q e w θ = cwE P (.seq (.region 9 F15.r9.toArray false) (.seq (.region 10 F15.r10.toArray false) .ret)) Q e w := rfl
def F15.t4 : Cd := (.seq (.region 4 F15.r4.toArray true) (.seq (.seq (.region 5 F15.r5.toArray false) (.seq (.region 6 F15.r6.toArray false) (.cond (.tmp 35) (.seq (.region 7 F15.r7.toArray false) (.seq (.region 8 F15.r8.toArray false) .ret)) .skip))) F15.t9))
theorem F15.t4_eq {θ : Tag (F15.t4, Q, e, w)} : cwE P F15.t4 Q e w θ = cwE P (.seq (.region 4 F15.r4.toArray true) (.seq (.seq (.region 5 F15.r5.toArray false) (.seq (.region 6 F15.r6.toArray false) (.cond (.tmp 35) (.seq (.region 7 F15.r7.toArray false) (.seq (.region 8 F15.r8.toArray false) .ret)) .skip))) F15.t9)) Q e w := rfl
def F15.code : Cd := (.seq (.region 0 F15.r0.toArray false) (.seq (.region 1 F15.r1.toArray false) (.seq (.seq (.region 2 F15.r2.toArray false) (.cond (.tmp 13) (.seq (.region 3 F15.r3.toArray false) .ret) .skip)) F15.t4)))
theorem F15.calls (hn : args.size ≤ 50) (h : cwE Tryz.prog F15.code (fnP Tryz.prog #[(.tmp 2)] R) (entry args) w) : Calls Tryz.prog 15 args w R :=
  calls_of_cwE (types := Tryz.prog.types) follows Tryz.func15 F15.code rfl (by kernel_rfl) hn h

def F16.r0 : List Oper := [
  ⟨(some 2), (.move (.tmp 0)), 43, "", #[], none⟩,
  ⟨(some 3), (.nilCheck (.tmp 2)), 0, "", #[], none⟩,
  ⟨(some 4), (.fieldAddr 79 (.tmp 3) 1), 0, "", #[], none⟩,
  ⟨(some 6), (.move (.tmp 0)), 43, "", #[], none⟩,
  ⟨(some 7), (.nilCheck (.tmp 6)), 0, "", #[], none⟩,
  ⟨(some 8), (.fieldAddr 79 (.tmp 7) 0), 0, "", #[], none⟩,
  ⟨(some 5), (.load 3 (.tmp 4)), 3, "", #[⟨0, .data⟩], none⟩,
  ⟨(some 9), (.load 33 (.tmp 8)), 33, "", #[⟨0, .data⟩], none⟩,
  ⟨(some 10), (.call ⟨(.builtin .len), #[(.tmp 9)], #[33]⟩), 3, "", #[], none⟩,
  ⟨(some 11), (.binOp .lss 3 (.tmp 5) (.tmp 10) 3), 4, "", #[], none⟩]
def F16.r1 : List Oper := [
  op 12 (.move (.tmp 0)) 43,
  oc 13 (.call ⟨(.value (.func 33)), #[(.tmp 12), (.const (.int .i64 14)), (.const (.int .i64 0))], #[43, 37, 3]⟩) 0]
def F16.code : Cd := (.seq (.region 0 F16.r0.toArray true) (.cond (.tmp 11) (.region 1 F16.r1.toArray false) .skip))
theorem F16.calls (hn : args.size ≤ 14) (h : cwE Tryz.prog F16.code (fnP Tryz.prog #[] R) (entry args) w) : Calls Tryz.prog 16 args w R :=
  calls_of_cwE (types := Tryz.prog.types) follows Tryz.func16 F16.code rfl (by kernel_rfl) hn h

def F17.r0 : List Oper := [
  op 2 (.assign (.const (.int .i64 0))) 37,
  op 3 (.assign (.const (.int .i64 0))) 3]
def F17.r1 : List Oper := [
  ⟨(some 4), (.move (.tmp 0)), 43, "", #[], none⟩,
  ⟨(some 5), (.nilCheck (.tmp 4)), 0, "", #[], none⟩,
  ⟨(some 6), (.fieldAddr 79 (.tmp 5) 3), 0, "", #[], none⟩,
  ⟨(some 8), (.move (.tmp 0)), 43, "", #[], none⟩,
  ⟨(some 9), (.nilCheck (.tmp 8)), 0, "", #[], none⟩,
  ⟨(some 10), (.fieldAddr 79 (.tmp 9) 4), 0, "", #[], none⟩,
  ⟨(some 7), (.load 37 (.tmp 6)), 37, "", #[⟨0, .data⟩], none⟩,
  ⟨(some 2), (.assign (.tmp 7)), 37, "", #[], none⟩,
  ⟨(some 11), (.load 3 (.tmp 10)), 3, "", #[⟨0, .data⟩], none⟩,
  ⟨(some 3), (.assign (.tmp 11)), 3, "", #[], none⟩]
def F17.code : Cd := (.seq (.region 0 F17.r0.toArray false) (.seq (.region 1 F17.r1.toArray true) .ret))
theorem F17.calls (hn : args.size ≤ 12) (h : cwE Tryz.prog F17.code (fnP Tryz.prog #[(.tmp 2), (.tmp 3)] R) (entry args) w) : Calls Tryz.prog 17 args w R :=
  calls_of_cwE (types := Tryz.prog.types) follows Tryz.func17 F17.code rfl (by kernel_rfl) hn h

def F18.r0 : List Oper := [
  op 2 (.assign (.const (.bool false))) 4]
def F18.r1 : List Oper := [
  op 3 (.move (.tmp 0)) 9,
  oc 4 (.call ⟨(.value (.func 32)), #[(.tmp 3)], #[9]⟩) 3,
  op 5 (.binOp .lss 3 (.tmp 4) (.const (.int .i64 0)) 3) 4,
  op 2 (.assign (.tmp 5)) 4]
def F18.code : Cd := (.seq (.region 0 F18.r0.toArray false) (.seq (.region 1 F18.r1.toArray false) .ret))
theorem F18.calls (hn : args.size ≤ 6) (h : cwE Tryz.prog F18.code (fnP Tryz.prog #[(.tmp 2)] R) (entry args) w) : Calls Tryz.prog 18 args w R :=
  calls_of_cwE (types := Tryz.prog.types) follows Tryz.func18 F18.code rfl (by kernel_rfl) hn h

def F19.r0 : List Oper := [
  op 2 (.assign (.const (.pointer none))) 54,
  op 3 (.assign (.const (.int .i64 0))) 37]
def F19.r1 : List Oper := [
  op 4 (.move (.tmp 0)) 3,
  op 5 (.binOp .lss 3 (.tmp 4) (.const (.int .i64 0)) 3) 4,
  op 6 (.move (.tmp 5)) 4,
  ⟨(some 7), (.move (.tmp 0)), 3, "", #[], (some (6, false))⟩,
  ⟨(some 8), (.binOp .gtr 3 (.tmp 7) (.const (.int .i64 16777216)) 3), 4, "", #[], (some (6, false))⟩,
  op 9 (.pick (.tmp 6) (.const (.bool true)) (.tmp 8)) 4]
def F19.r2 : List Oper := [
  op 2 (.assign (.const (.pointer none))) 54,
  op 3 (.assign (.const (.int .i64 1))) 37]
def F19.r3 : List Oper := [
  op 10 (.move (.tmp 0)) 3,
  op 11 (.build 90 #[(0, (.tmp 10))]) 90,
  oc 12 (.box 90 (.tmp 11)) 54,
  op 2 (.assign (.tmp 12)) 54,
  op 3 (.assign (.const (.int .i64 0))) 37]
def F19.t3 : Cd := (.seq (.region 3 F19.r3.toArray false) .ret)
theorem F19.t3_eq {θ : Tag (F19.t3, Q, e, w)} : cwE P F19.t3 Q e w θ = cwE P (.seq (.region 3 F19.r3.toArray false) .ret) Q e w := rfl
def F19.code : Cd := (.seq (.region 0 F19.r0.toArray false) (.seq (.seq (.region 1 F19.r1.toArray false) (.cond (.tmp 9) (.seq (.region 2 F19.r2.toArray false) .ret) .skip)) F19.t3))
theorem F19.calls (hn : args.size ≤ 13) (h : cwE Tryz.prog F19.code (fnP Tryz.prog #[(.tmp 2), (.tmp 3)] R) (entry args) w) : Calls Tryz.prog 19 args w R :=
  calls_of_cwE (types := Tryz.prog.types) follows Tryz.func19 F19.code rfl (by kernel_rfl) hn h

def F20.r0 : List Oper := [
  oc 3 (.box 28 (.tmp 1)) 0]
def F20.r1 : List Oper := [
  op 7 (.move (.tmp 0)) 54,
  op 8 (.binOp .eql 54 (.tmp 7) (.const (.pointer none)) 54) 4]
def F20.r2 : List Oper := [
  op 9 (.move (.tmp 0)) 54,
  oc 10 (.call ⟨(.value (.func 34)), #[(.tmp 9)], #[54]⟩) 3,
  op 4 (.assign (.tmp 10)) 3]
def F20.r3 : List Oper := [
  op 11 (.move (.tmp 0)) 54,
  op 12 (.fieldAddr 28 (.tmp 3) 0) 0,
  od 13 (.load 22 (.tmp 12)) 22,
  oc 14 (.call ⟨(.value (.func 26)), #[(.tmp 11), (.tmp 13)], #[54, 22]⟩) 0]
def F20.r4 : List Oper := [
  op 15 (.move (.tmp 0)) 54,
  op 16 (.fieldAddr 28 (.tmp 3) 1) 0,
  od 17 (.load 23 (.tmp 16)) 23,
  oc 18 (.call ⟨(.value (.func 24)), #[(.tmp 15), (.tmp 17)], #[54, 23]⟩) 0]
def F20.r5 : List Oper := [
  op 19 (.move (.tmp 0)) 54,
  op 20 (.fieldAddr 28 (.tmp 3) 2) 0,
  od 21 (.load 26 (.tmp 20)) 26,
  oc 22 (.call ⟨(.value (.func 35)), #[(.tmp 19), (.tmp 21)], #[54, 26]⟩) 0]
def F20.r6 : List Oper := [
  op 23 (.move (.tmp 0)) 54,
  op 24 (.fieldAddr 28 (.tmp 3) 3) 0,
  od 25 (.load 23 (.tmp 24)) 23,
  oc 26 (.call ⟨(.value (.func 24)), #[(.tmp 23), (.tmp 25)], #[54, 23]⟩) 0]
def F20.r7 : List Oper := [
  op 27 (.move (.tmp 0)) 54,
  op 28 (.fieldAddr 28 (.tmp 3) 4) 0,
  od 29 (.load 23 (.tmp 28)) 23,
  oc 30 (.call ⟨(.value (.func 24)), #[(.tmp 27), (.tmp 29)], #[54, 23]⟩) 0]
def F20.r8 : List Oper := [
  op 31 (.move (.tmp 0)) 54,
  op 32 (.fieldAddr 28 (.tmp 3) 5) 0,
  od 33 (.load 23 (.tmp 32)) 23,
  oc 34 (.call ⟨(.value (.func 24)), #[(.tmp 31), (.tmp 33)], #[54, 23]⟩) 0]
def F20.r9 : List Oper := [
  op 35 (.move (.tmp 0)) 54,
  op 36 (.fieldAddr 28 (.tmp 3) 6) 0,
  od 37 (.load 24 (.tmp 36)) 24,
  oc 38 (.call ⟨(.value (.func 36)), #[(.tmp 35), (.tmp 37)], #[54, 24]⟩) 0]
def F20.r10 : List Oper := [
  op 39 (.fieldAddr 28 (.tmp 3) 7) 0,
  od 40 (.load 9 (.tmp 39)) 9,
  op 41 (.fieldAddr 28 (.tmp 3) 8) 0,
  od 42 (.load 9 (.tmp 41)) 9,
  op 43 (.fieldAddr 28 (.tmp 3) 9) 0,
  od 44 (.load 9 (.tmp 43)) 9,
  op 45 (.fieldAddr 28 (.tmp 3) 10) 0,
  od 46 (.load 9 (.tmp 45)) 9,
  oc 47 (.buildSlice 31 4 #[(0, (.tmp 40)), (1, (.tmp 42)), (2, (.tmp 44)), (3, (.tmp 46))]) 31,
  op 48 (.call ⟨(.builtin .len), #[(.tmp 47)], #[31]⟩) 3,
  op 49 (.move (.const (.int .i64 0))) 3]
def F20.r11 : List Oper := [
  op 50 (.binOp .lss 3 (.tmp 49) (.tmp 48) 3) 0]
def F20.r12 : List Oper := [
  op 51 (.indexAddr 31 (.tmp 47) (.tmp 49)) 0,
  od 52 (.load 9 (.tmp 51)) 9,
  op 6 (.assign (.tmp 52)) 9]
def F20.r13 : List Oper := [
  op 53 (.move (.tmp 0)) 54,
  op 54 (.move (.tmp 6)) 9,
  oc 55 (.call ⟨(.value (.func 37)), #[(.tmp 53), (.tmp 54)], #[54, 9]⟩) 0]
def F20.r14 : List Oper := [
  op 56 (.binOp .add 3 (.tmp 49) (.const (.int .i64 1)) 3) 3,
  op 49 (.move (.tmp 56)) 3]
def F20.r15 : List Oper := [
  op 57 (.move (.tmp 0)) 54,
  op 58 (.move (.tmp 4)) 3,
  oc 59 (.call ⟨(.value (.func 38)), #[(.tmp 57), (.tmp 58)], #[54, 3]⟩) 0]
def F20.t14 : Cd := (.region 14 F20.r14.toArray false)
theorem F20.t14_eq {θ : Tag (F20.t14, Q, e, w)} : cwE P F20.t14 Q e w θ = cwE P (.region 14 F20.r14.toArray false) Q e w := rfl
def F20.t12 : Cd := (.seq (.block 1 (.seq (.region 12 F20.r12.toArray false) (.region 13 F20.r13.toArray false))) F20.t14)
theorem F20.t12_eq {θ : Tag (F20.t12, Q, e, w)} : cwE P F20.t12 Q e w θ = cwE P (.seq (.block 1 (.seq (.region 12 F20.r12.toArray false) (.region 13 F20.r13.toArray false))) F20.t14) Q e w := rfl
def F20.t15 : Cd := (.region 15 F20.r15.toArray false)
theorem F20.t15_eq {θ : Tag (F20.t15, Q, e, w)} : cwE P F20.t15 Q e w θ = cwE P (.region 15 F20.r15.toArray false) Q e w := rfl
def F20.t2 : Cd := (.seq (.region 2 F20.r2.toArray false) (.seq (.region 3 F20.r3.toArray false) (.seq (.region 4 F20.r4.toArray false) (.seq (.region 5 F20.r5.toArray false) (.seq (.region 6 F20.r6.toArray false) (.seq (.region 7 F20.r7.toArray false) (.seq (.region 8 F20.r8.toArray false) (.seq (.region 9 F20.r9.toArray false) (.seq (.seq (.region 10 F20.r10.toArray false) (.block 0 (.loop (.seq (.region 11 F20.r11.toArray false) (.seq (.cond (.tmp 50) .skip (.exit 0)) F20.t12))))) F20.t15)))))))))
theorem F20.t2_eq {θ : Tag (F20.t2, Q, e, w)} : cwE P F20.t2 Q e w θ = cwE P (.seq (.region 2 F20.r2.toArray false) (.seq (.region 3 F20.r3.toArray false) (.seq (.region 4 F20.r4.toArray false) (.seq (.region 5 F20.r5.toArray false) (.seq (.region 6 F20.r6.toArray false) (.seq (.region 7 F20.r7.toArray false) (.seq (.region 8 F20.r8.toArray false) (.seq (.region 9 F20.r9.toArray false) (.seq (.seq (.region 10 F20.r10.toArray false) (.block 0 (.loop (.seq (.region 11 F20.r11.toArray false) (.seq (.cond (.tmp 50) .skip (.exit 0)) F20.t12))))) F20.t15))))))))) Q e w := rfl
def F20.code : Cd := (.seq (.region 0 F20.r0.toArray false) (.seq (.seq (.region 1 F20.r1.toArray false) (.cond (.tmp 8) .ret .skip)) F20.t2))
theorem F20.calls (hn : args.size ≤ 60) (h : cwE Tryz.prog F20.code (fnP Tryz.prog #[] R) (entry args) w) : Calls Tryz.prog 20 args w R :=
  calls_of_cwE (types := Tryz.prog.types) follows Tryz.func20 F20.code rfl (by kernel_rfl) hn h

def F21.r0 : List Oper := [
  op 2 (.assign (.const (.slice none 0 0))) 33,
  op 3 (.assign (.const (.int .i64 0))) 37]
def F21.r1 : List Oper := [
  op 4 (.move (.tmp 0)) 54,
  op 5 (.nilCheck (.tmp 4)) 0,
  op 6 (.fieldAddr 90 (.tmp 5) 3) 0,
  od 7 (.load 37 (.tmp 6)) 37,
  op 8 (.binOp .neq 37 (.tmp 7) (.const (.int .i64 0)) 37) 4]
def F21.r2 : List Oper := [
  ⟨(some 9), (.move (.tmp 0)), 54, "", #[], none⟩,
  ⟨(some 10), (.nilCheck (.tmp 9)), 0, "", #[], none⟩,
  ⟨(some 11), (.fieldAddr 90 (.tmp 10) 3), 0, "", #[], none⟩,
  ⟨(some 2), (.assign (.const (.slice none 0 0))), 33, "", #[], none⟩,
  ⟨(some 12), (.load 37 (.tmp 11)), 37, "", #[⟨0, .data⟩], none⟩,
  ⟨(some 3), (.assign (.tmp 12)), 37, "", #[], none⟩]
def F21.r3 : List Oper := [
  op 13 (.move (.tmp 0)) 54,
  op 14 (.nilCheck (.tmp 13)) 0,
  op 15 (.fieldAddr 90 (.tmp 14) 2) 0,
  od 16 (.load 88 (.tmp 15)) 88,
  op 17 (.call ⟨(.builtin .len), #[(.tmp 16)], #[88]⟩) 3,
  op 18 (.binOp .gtr 3 (.tmp 17) (.const (.int .i64 0)) 3) 4]
def F21.r4 : List Oper := [
  op 2 (.assign (.const (.slice none 0 0))) 33,
  op 3 (.assign (.const (.int .i64 1))) 37]
def F21.r5 : List Oper := [
  op 19 (.move (.tmp 0)) 54,
  op 20 (.nilCheck (.tmp 19)) 0,
  op 21 (.fieldAddr 90 (.tmp 20) 1) 0,
  od 22 (.load 33 (.tmp 21)) 33,
  oc 23 (.call ⟨(.builtin .append), #[(.const (.slice none 0 0)), (.tmp 22)], #[33, 33]⟩) 33,
  op 2 (.assign (.tmp 23)) 33,
  op 3 (.assign (.const (.int .i64 0))) 37]
def F21.t5 : Cd := (.seq (.region 5 F21.r5.toArray false) .ret)
theorem F21.t5_eq {θ : Tag (F21.t5, Q, e, w)} : cwE P F21.t5 Q e w θ = cwE P (.seq (.region 5 F21.r5.toArray false) .ret) Q e w := rfl
def F21.t3 : Cd := (.seq (.seq (.region 3 F21.r3.toArray false) (.cond (.tmp 18) (.seq (.region 4 F21.r4.toArray false) .ret) .skip)) F21.t5)
theorem F21.t3_eq {θ : Tag (F21.t3, Q, e, w)} : cwE P F21.t3 Q e w θ = cwE P (.seq (.seq (.region 3 F21.r3.toArray false) (.cond (.tmp 18) (.seq (.region 4 F21.r4.toArray false) .ret) .skip)) F21.t5) Q e w := rfl
def F21.code : Cd := (.seq (.region 0 F21.r0.toArray false) (.seq (.seq (.region 1 F21.r1.toArray false) (.cond (.tmp 8) (.seq (.region 2 F21.r2.toArray true) .ret) .skip)) F21.t3))
theorem F21.calls (hn : args.size ≤ 24) (h : cwE Tryz.prog F21.code (fnP Tryz.prog #[(.tmp 2), (.tmp 3)] R) (entry args) w) : Calls Tryz.prog 21 args w R :=
  calls_of_cwE (types := Tryz.prog.types) follows Tryz.func21 F21.code rfl (by kernel_rfl) hn h

def F22.r0 : List Oper := [
  oc 2 (.alloc 61) 0,
  op 3 (.assign (.const (.bool false))) 4]
def F22.r1 : List Oper := [
  oc 6 (.call ⟨(.value (.func 39)), #[], #[]⟩) 96,
  op 7 (.call ⟨(.builtin .len), #[(.tmp 6)], #[96]⟩) 3,
  op 8 (.move (.const (.int .i64 0))) 3]
def F22.r2 : List Oper := [
  op 9 (.binOp .lss 3 (.tmp 8) (.tmp 7) 3) 0]
def F22.r3 : List Oper := [
  op 10 (.indexAddr 96 (.tmp 6) (.tmp 8)) 0,
  od 11 (.load 61 (.tmp 10)) 61,
  oc 5 (.alloc 61) 0,
  ⟨none, (.store 61 (.tmp 5) (.tmp 11)), 0, "", #[⟨0, .chain⟩], none⟩]
def F22.r4 : List Oper := [
  op 12 (.fieldAddr 61 (.tmp 5) 0) 0,
  od 13 (.load 30 (.tmp 12)) 30,
  op 14 (.move (.tmp 0)) 30,
  op 15 (.binOp .eql 30 (.tmp 13) (.tmp 14) 30) 4]
def F22.r5 : List Oper := [
  od 16 (.load 61 (.tmp 5)) 61,
  ⟨none, (.store 61 (.tmp 2) (.tmp 16)), 0, "", #[⟨0, .chain⟩], none⟩,
  op 3 (.assign (.const (.bool true))) 4]
def F22.r6 : List Oper := [
  op 17 (.binOp .add 3 (.tmp 8) (.const (.int .i64 1)) 3) 3,
  op 8 (.move (.tmp 17)) 3]
def F22.r7 : List Oper := [
  op 18 (.build 61 #[]) 61,
  ⟨none, (.store 61 (.tmp 2) (.tmp 18)), 0, "", #[⟨0, .chain⟩], none⟩,
  op 3 (.assign (.const (.bool false))) 4]
def F22.t6 : Cd := (.region 6 F22.r6.toArray false)
theorem F22.t6_eq {θ : Tag (F22.t6, Q, e, w)} : cwE P F22.t6 Q e w θ = cwE P (.region 6 F22.r6.toArray false) Q e w := rfl
def F22.t3 : Cd := (.seq (.block 1 (.seq (.region 3 F22.r3.toArray false) (.seq (.region 4 F22.r4.toArray false) (.cond (.tmp 15) (.seq (.region 5 F22.r5.toArray false) .ret) .skip)))) F22.t6)
theorem F22.t3_eq {θ : Tag (F22.t3, Q, e, w)} : cwE P F22.t3 Q e w θ = cwE P (.seq (.block 1 (.seq (.region 3 F22.r3.toArray false) (.seq (.region 4 F22.r4.toArray false) (.cond (.tmp 15) (.seq (.region 5 F22.r5.toArray false) .ret) .skip)))) F22.t6) Q e w := rfl
def F22.t7 : Cd := (.seq (.region 7 F22.r7.toArray false) .ret)
theorem F22.t7_eq {θ : Tag (F22.t7, Q, e, w)} : cwE P F22.t7 Q e w θ = cwE P (.seq (.region 7 F22.r7.toArray false) .ret) Q e w := rfl
def F22.code : Cd := (.seq (.region 0 F22.r0.toArray false) (.seq (.seq (.region 1 F22.r1.toArray false) (.block 0 (.loop (.seq (.region 2 F22.r2.toArray false) (.seq (.cond (.tmp 9) .skip (.exit 0)) F22.t3))))) F22.t7))
theorem F22.calls (hn : args.size ≤ 19) (h : cwE Tryz.prog F22.code (fnP Tryz.prog #[(.cell 2 61), (.tmp 3)] R) (entry args) w) : Calls Tryz.prog 22 args w R :=
  calls_of_cwE (types := Tryz.prog.types) follows Tryz.func22 F22.code rfl (by kernel_rfl) hn h

def F23.r0 : List Oper := [
  oc 2 (.alloc 72) 0]
def F23.r1 : List Oper := [
  op 3 (.move (.tmp 0)) 64]
def F23.r2 : List Oper := [
  op 5 (.binOp .eql 64 (.tmp 3) (.const (.int .u8 0)) 64) 4,
  op 4 (.assign (.tmp 5)) 4]
def F23.r3 : List Oper := [
  oc 6 (.call ⟨(.value (.func 40)), #[(.const (.string { data := #[109, 115, 105, 122, 101] })), (.func 41)], #[9, 100]⟩) 72,
  ⟨none, (.store 72 (.tmp 2) (.tmp 6)), 0, "", #[⟨0, .chain⟩], none⟩]
def F23.r4 : List Oper := [
  op 8 (.binOp .eql 64 (.tmp 3) (.const (.int .u8 2)) 64) 4,
  op 7 (.assign (.tmp 8)) 4]
def F23.r5 : List Oper := [
  oc 9 (.call ⟨(.value (.func 40)), #[(.const (.string { data := #[97, 102, 105, 100] })), (.func 42)], #[9, 100]⟩) 72,
  ⟨none, (.store 72 (.tmp 2) (.tmp 9)), 0, "", #[⟨0, .chain⟩], none⟩]
def F23.r6 : List Oper := [
  op 11 (.binOp .eql 64 (.tmp 3) (.const (.int .u8 7)) 64) 4,
  op 10 (.assign (.tmp 11)) 4]
def F23.r7 : List Oper := [
  oc 12 (.call ⟨(.value (.func 40)), #[(.const (.string { data := #[102, 105, 100] })), (.func 43)], #[9, 100]⟩) 72,
  ⟨none, (.store 72 (.tmp 2) (.tmp 12)), 0, "", #[⟨0, .chain⟩], none⟩]
def F23.r8 : List Oper := [
  op 14 (.binOp .eql 64 (.tmp 3) (.const (.int .u8 8)) 64) 4,
  op 13 (.assign (.tmp 14)) 4]
def F23.r9 : List Oper := [
  oc 15 (.call ⟨(.value (.func 40)), #[(.const (.string { data := #[110, 101, 119, 102, 105, 100] })), (.func 44)], #[9, 100]⟩) 72,
  ⟨none, (.store 72 (.tmp 2) (.tmp 15)), 0, "", #[⟨0, .chain⟩], none⟩]
def F23.r10 : List Oper := [
  op 17 (.binOp .eql 64 (.tmp 3) (.const (.int .u8 13)) 64) 4,
  op 16 (.assign (.tmp 17)) 4]
def F23.r11 : List Oper := [
  oc 18 (.call ⟨(.value (.func 40)), #[(.const (.string { data := #[105, 111, 117, 110, 105, 116] })), (.func 45)], #[9, 100]⟩) 72,
  ⟨none, (.store 72 (.tmp 2) (.tmp 18)), 0, "", #[⟨0, .chain⟩], none⟩]
def F23.r12 : List Oper := [
  op 20 (.binOp .eql 64 (.tmp 3) (.const (.int .u8 15)) 64) 4,
  op 19 (.assign (.tmp 20)) 4]
def F23.r13 : List Oper := [
  oc 21 (.call ⟨(.value (.func 40)), #[(.const (.string { data := #[112, 101, 114, 109] })), (.func 46)], #[9, 100]⟩) 72,
  ⟨none, (.store 72 (.tmp 2) (.tmp 21)), 0, "", #[⟨0, .chain⟩], none⟩]
def F23.r14 : List Oper := [
  op 23 (.binOp .eql 64 (.tmp 3) (.const (.int .u8 17)) 64) 4,
  op 22 (.assign (.tmp 23)) 4]
def F23.r15 : List Oper := [
  oc 24 (.call ⟨(.value (.func 40)), #[(.const (.string { data := #[99, 111, 117, 110, 116] })), (.func 47)], #[9, 100]⟩) 72,
  ⟨none, (.store 72 (.tmp 2) (.tmp 24)), 0, "", #[⟨0, .chain⟩], none⟩]
def F23.r16 : List Oper := [
  op 26 (.binOp .eql 64 (.tmp 3) (.const (.int .u8 1)) 64) 4,
  op 25 (.assign (.tmp 26)) 4]
def F23.r17 : List Oper := [
  oc 27 (.call ⟨(.value (.func 48)), #[(.const (.string { data := #[118, 101, 114, 115, 105, 111, 110] })), (.func 49)], #[9, 103]⟩) 72,
  ⟨none, (.store 72 (.tmp 2) (.tmp 27)), 0, "", #[⟨0, .chain⟩], none⟩]
def F23.r18 : List Oper := [
  op 29 (.binOp .eql 64 (.tmp 3) (.const (.int .u8 3)) 64) 4,
  op 28 (.assign (.tmp 29)) 4]
def F23.r19 : List Oper := [
  oc 30 (.call ⟨(.value (.func 48)), #[(.const (.string { data := #[117, 110, 97, 109, 101] })), (.func 50)], #[9, 103]⟩) 72,
  ⟨none, (.store 72 (.tmp 2) (.tmp 30)), 0, "", #[⟨0, .chain⟩], none⟩]
def F23.r20 : List Oper := [
  op 32 (.binOp .eql 64 (.tmp 3) (.const (.int .u8 4)) 64) 4,
  op 31 (.assign (.tmp 32)) 4]
def F23.r21 : List Oper := [
  oc 33 (.call ⟨(.value (.func 48)), #[(.const (.string { data := #[97, 110, 97, 109, 101] })), (.func 51)], #[9, 103]⟩) 72,
  ⟨none, (.store 72 (.tmp 2) (.tmp 33)), 0, "", #[⟨0, .chain⟩], none⟩]
def F23.r22 : List Oper := [
  op 35 (.binOp .eql 64 (.tmp 3) (.const (.int .u8 5)) 64) 4,
  op 34 (.assign (.tmp 35)) 4]
def F23.r23 : List Oper := [
  oc 36 (.call ⟨(.value (.func 48)), #[(.const (.string { data := #[101, 110, 97, 109, 101] })), (.func 52)], #[9, 103]⟩) 72,
  ⟨none, (.store 72 (.tmp 2) (.tmp 36)), 0, "", #[⟨0, .chain⟩], none⟩]
def F23.r24 : List Oper := [
  op 38 (.binOp .eql 64 (.tmp 3) (.const (.int .u8 14)) 64) 4,
  op 37 (.assign (.tmp 38)) 4]
def F23.r25 : List Oper := [
  oc 39 (.call ⟨(.value (.func 48)), #[(.const (.string { data := #[110, 97, 109, 101] })), (.func 53)], #[9, 103]⟩) 72,
  ⟨none, (.store 72 (.tmp 2) (.tmp 39)), 0, "", #[⟨0, .chain⟩], none⟩]
def F23.r26 : List Oper := [
  op 40 (.move (.tmp 0)) 64,
  oc 41 (.call ⟨(.value (.func 54)), #[(.tmp 40)], #[64]⟩) 72,
  ⟨none, (.store 72 (.tmp 2) (.tmp 41)), 0, "", #[⟨0, .chain⟩], none⟩]
def F23.t26 : Cd := (.seq (.region 26 F23.r26.toArray false) .ret)
theorem F23.t26_eq {θ : Tag (F23.t26, Q, e, w)} : cwE P F23.t26 Q e w θ = cwE P (.seq (.region 26 F23.r26.toArray false) .ret) Q e w := rfl
def F23.code : Cd := (.seq (.region 0 F23.r0.toArray false) (.seq (.seq (.region 1 F23.r1.toArray false) (.block 0 (.seq (.region 2 F23.r2.toArray false) (.cond (.tmp 4) (.seq (.region 3 F23.r3.toArray false) .ret) (.seq (.region 4 F23.r4.toArray false) (.cond (.tmp 7) (.seq (.region 5 F23.r5.toArray false) .ret) (.seq (.region 6 F23.r6.toArray false) (.cond (.tmp 10) (.seq (.region 7 F23.r7.toArray false) .ret) (.seq (.region 8 F23.r8.toArray false) (.cond (.tmp 13) (.seq (.region 9 F23.r9.toArray false) .ret) (.seq (.region 10 F23.r10.toArray false) (.cond (.tmp 16) (.seq (.region 11 F23.r11.toArray false) .ret) (.seq (.region 12 F23.r12.toArray false) (.cond (.tmp 19) (.seq (.region 13 F23.r13.toArray false) .ret) (.seq (.region 14 F23.r14.toArray false) (.cond (.tmp 22) (.seq (.region 15 F23.r15.toArray false) .ret) (.seq (.region 16 F23.r16.toArray false) (.cond (.tmp 25) (.seq (.region 17 F23.r17.toArray false) .ret) (.seq (.region 18 F23.r18.toArray false) (.cond (.tmp 28) (.seq (.region 19 F23.r19.toArray false) .ret) (.seq (.region 20 F23.r20.toArray false) (.cond (.tmp 31) (.seq (.region 21 F23.r21.toArray false) .ret) (.seq (.region 22 F23.r22.toArray false) (.cond (.tmp 34) (.seq (.region 23 F23.r23.toArray false) .ret) (.seq (.region 24 F23.r24.toArray false) (.cond (.tmp 37) (.seq (.region 25 F23.r25.toArray false) .ret) .skip)))))))))))))))))))))))))) F23.t26))
theorem F23.calls (hn : args.size ≤ 42) (h : cwE Tryz.prog F23.code (fnP Tryz.prog #[(.cell 2 72)] R) (entry args) w) : Calls Tryz.prog 23 args w R :=
  calls_of_cwE (types := Tryz.prog.types) follows Tryz.func23 F23.code rfl (by kernel_rfl) hn h

def F24.r0 : List Oper := [
  op 4 (.move (.tmp 0)) 54,
  op 5 (.move (.tmp 1)) 23,
  oc 6 (.call ⟨(.value (.func 55)), #[(.tmp 4), (.tmp 5), (.const (.int .i64 4))], #[54, 23, 3]⟩) 0]
def F24.code : Cd := (.region 0 F24.r0.toArray false)
theorem F24.calls (hn : args.size ≤ 7) (h : cwE Tryz.prog F24.code (fnP Tryz.prog #[] R) (entry args) w) : Calls Tryz.prog 24 args w R :=
  calls_of_cwE (types := Tryz.prog.types) follows Tryz.func24 F24.code rfl (by kernel_rfl) hn h

def F25.r0 : List Oper := [
  op 4 (.move (.tmp 0)) 54,
  op 5 (.move (.tmp 1)) 5,
  oc 6 (.call ⟨(.value (.func 56)), #[(.tmp 4), (.tmp 5), (.const (.int .i64 1))], #[54, 5, 3]⟩) 0]
def F25.code : Cd := (.region 0 F25.r0.toArray false)
theorem F25.calls (hn : args.size ≤ 7) (h : cwE Tryz.prog F25.code (fnP Tryz.prog #[] R) (entry args) w) : Calls Tryz.prog 25 args w R :=
  calls_of_cwE (types := Tryz.prog.types) follows Tryz.func25 F25.code rfl (by kernel_rfl) hn h

def F26.r0 : List Oper := [
  op 4 (.move (.tmp 0)) 54,
  op 5 (.move (.tmp 1)) 22,
  oc 6 (.call ⟨(.value (.func 57)), #[(.tmp 4), (.tmp 5), (.const (.int .i64 2))], #[54, 22, 3]⟩) 0]
def F26.code : Cd := (.region 0 F26.r0.toArray false)
theorem F26.calls (hn : args.size ≤ 7) (h : cwE Tryz.prog F26.code (fnP Tryz.prog #[] R) (entry args) w) : Calls Tryz.prog 26 args w R :=
  calls_of_cwE (types := Tryz.prog.types) follows Tryz.func26 F26.code rfl (by kernel_rfl) hn h

def F27.r0 : List Oper := [
  op 4 (.assign (.const (.int .u16 0))) 22]
def F27.r1 : List Oper := [
  op 7 (.move (.tmp 0)) 43,
  op 8 (.move (.tmp 1)) 3,
  oc 9 (.call ⟨(.value (.func 58)), #[(.tmp 7), (.tmp 8)], #[43, 3]⟩) 4,
  op 10 (.unOp .not 4 (.tmp 9)) 4]
def F27.r2 : List Oper := [
  op 4 (.assign (.const (.int .u16 0))) 22]
def F27.r3 : List Oper := [
  op 5 (.assign (.const (.int .u64 0))) 24]
def F27.r4 : List Oper := [
  op 11 (.move (.tmp 1)) 3,
  op 12 (.move (.const (.int .i64 0))) 3]
def F27.r5 : List Oper := [
  op 13 (.binOp .lss 3 (.tmp 12) (.tmp 11) 3) 4]
def F27.r6 : List Oper := [
  op 14 (.move (.tmp 12)) 3,
  op 6 (.assign (.tmp 14)) 3]
def F27.r7 : List Oper := [
  ⟨(some 15), (.move (.tmp 5)), 24, "", #[], none⟩,
  ⟨(some 16), (.move (.tmp 0)), 43, "", #[], none⟩,
  ⟨(some 17), (.nilCheck (.tmp 16)), 0, "", #[], none⟩,
  ⟨(some 18), (.fieldAddr 79 (.tmp 17) 0), 0, "", #[], none⟩,
  ⟨(some 20), (.move (.tmp 0)), 43, "", #[], none⟩,
  ⟨(some 21), (.nilCheck (.tmp 20)), 0, "", #[], none⟩,
  ⟨(some 22), (.fieldAddr 79 (.tmp 21) 1), 0, "", #[], none⟩,
  ⟨(some 24), (.move (.tmp 6)), 3, "", #[], none⟩,
  ⟨(some 29), (.move (.tmp 6)), 3, "", #[], none⟩,
  ⟨(some 30), (.binOp .mul 3 (.const (.int .i64 8)) (.tmp 29) 3), 3, "", #[], none⟩,
  ⟨(some 19), (.load 33 (.tmp 18)), 33, "", #[⟨0, .data⟩], none⟩,
  ⟨(some 23), (.load 3 (.tmp 22)), 3, "", #[⟨0, .data⟩], none⟩,
  ⟨(some 25), (.binOp .add 3 (.tmp 23) (.tmp 24) 3), 3, "", #[], none⟩,
  ⟨(some 26), (.indexAddr 33 (.tmp 19) (.tmp 25)), 0, "", #[], none⟩,
  ⟨(some 27), (.load 5 (.tmp 26)), 5, "", #[⟨0, .data⟩], none⟩,
  ⟨(some 28), (.convert 5 24 (.tmp 27)), 24, "", #[], none⟩,
  ⟨(some 31), (.binOp .shl 24 (.tmp 28) (.tmp 30) 3), 24, "", #[], none⟩,
  ⟨(some 32), (.binOp .or 24 (.tmp 15) (.tmp 31) 24), 24, "", #[], none⟩,
  ⟨(some 5), (.assign (.tmp 32)), 24, "", #[], none⟩]
def F27.r8 : List Oper := [
  op 33 (.binOp .add 3 (.tmp 12) (.const (.int .i64 1)) 3) 3,
  op 12 (.move (.tmp 33)) 3]
def F27.r9 : List Oper := [
  op 34 (.move (.tmp 0)) 43,
  op 35 (.nilCheck (.tmp 34)) 0,
  op 36 (.fieldAddr 79 (.tmp 35) 1) 0,
  od 37 (.load 3 (.tmp 36)) 3,
  op 38 (.move (.tmp 1)) 3,
  op 39 (.binOp .add 3 (.tmp 37) (.tmp 38) 3) 3,
  op 40 (.nilCheck (.tmp 34)) 0,
  op 41 (.fieldAddr 79 (.tmp 40) 1) 0,
  ⟨none, (.store 3 (.tmp 41) (.tmp 39)), 0, "", #[⟨0, .chain⟩], none⟩]
def F27.r10 : List Oper := [
  op 42 (.move (.tmp 5)) 24,
  op 43 (.convert 24 22 (.tmp 42)) 22,
  op 4 (.assign (.tmp 43)) 22]
def F27.t8 : Cd := (.region 8 F27.r8.toArray false)
theorem F27.t8_eq {θ : Tag (F27.t8, Q, e, w)} : cwE P F27.t8 Q e w θ = cwE P (.region 8 F27.r8.toArray false) Q e w := rfl
def F27.t6 : Cd := (.seq (.block 1 (.seq (.region 6 F27.r6.toArray false) (.region 7 F27.r7.toArray true))) F27.t8)
theorem F27.t6_eq {θ : Tag (F27.t6, Q, e, w)} : cwE P F27.t6 Q e w θ = cwE P (.seq (.block 1 (.seq (.region 6 F27.r6.toArray false) (.region 7 F27.r7.toArray true))) F27.t8) Q e w := rfl
def F27.t9 : Cd := (.seq (.region 9 F27.r9.toArray false) (.seq (.region 10 F27.r10.toArray false) .ret))
theorem F27.t9_eq {θ : Tag (F27.t9, Q, e, w)} : cwE P F27.t9 Q e w θ = cwE P (.seq (.region 9 F27.r9.toArray false) (.seq (.region 10 F27.r10.toArray false) .ret)) Q e w := rfl
def F27.t3 : Cd := (.seq (.region 3 F27.r3.toArray false) (.seq (.seq (.region 4 F27.r4.toArray false) (.block 0 (.loop (.seq (.region 5 F27.r5.toArray false) (.seq (.cond (.tmp 13) .skip (.exit 0)) F27.t6))))) F27.t9))
theorem F27.t3_eq {θ : Tag (F27.t3, Q, e, w)} : cwE P F27.t3 Q e w θ = cwE P (.seq (.region 3 F27.r3.toArray false) (.seq (.seq (.region 4 F27.r4.toArray false) (.block 0 (.loop (.seq (.region 5 F27.r5.toArray false) (.seq (.cond (.tmp 13) .skip (.exit 0)) F27.t6))))) F27.t9)) Q e w := rfl
def F27.code : Cd := (.seq (.region 0 F27.r0.toArray false) (.seq (.seq (.region 1 F27.r1.toArray false) (.cond (.tmp 10) (.seq (.region 2 F27.r2.toArray false) .ret) .skip)) F27.t3))
theorem F27.calls (hn : args.size ≤ 44) (h : cwE Tryz.prog F27.code (fnP Tryz.prog #[(.tmp 4)] R) (entry args) w) : Calls Tryz.prog 27 args w R :=
  calls_of_cwE (types := Tryz.prog.types) follows Tryz.func27 F27.code rfl (by kernel_rfl) hn h

def F28.r0 : List Oper := [
  op 4 (.assign (.const (.int .u32 0))) 23]
def F28.r1 : List Oper := [
  op 7 (.move (.tmp 0)) 43,
  op 8 (.move (.tmp 1)) 3,
  oc 9 (.call ⟨(.value (.func 58)), #[(.tmp 7), (.tmp 8)], #[43, 3]⟩) 4,
  op 10 (.unOp .not 4 (.tmp 9)) 4]
def F28.r2 : List Oper := [
  op 4 (.assign (.const (.int .u32 0))) 23]
def F28.r3 : List Oper := [
  op 5 (.assign (.const (.int .u64 0))) 24]
def F28.r4 : List Oper := [
  op 11 (.move (.tmp 1)) 3,
  op 12 (.move (.const (.int .i64 0))) 3]
def F28.r5 : List Oper := [
  op 13 (.binOp .lss 3 (.tmp 12) (.tmp 11) 3) 4]
def F28.r6 : List Oper := [
  op 14 (.move (.tmp 12)) 3,
  op 6 (.assign (.tmp 14)) 3]
def F28.r7 : List Oper := [
  ⟨(some 15), (.move (.tmp 5)), 24, "", #[], none⟩,
  ⟨(some 16), (.move (.tmp 0)), 43, "", #[], none⟩,
  ⟨(some 17), (.nilCheck (.tmp 16)), 0, "", #[], none⟩,
  ⟨(some 18), (.fieldAddr 79 (.tmp 17) 0), 0, "", #[], none⟩,
  ⟨(some 20), (.move (.tmp 0)), 43, "", #[], none⟩,
  ⟨(some 21), (.nilCheck (.tmp 20)), 0, "", #[], none⟩,
  ⟨(some 22), (.fieldAddr 79 (.tmp 21) 1), 0, "", #[], none⟩,
  ⟨(some 24), (.move (.tmp 6)), 3, "", #[], none⟩,
  ⟨(some 29), (.move (.tmp 6)), 3, "", #[], none⟩,
  ⟨(some 30), (.binOp .mul 3 (.const (.int .i64 8)) (.tmp 29) 3), 3, "", #[], none⟩,
  ⟨(some 19), (.load 33 (.tmp 18)), 33, "", #[⟨0, .data⟩], none⟩,
  ⟨(some 23), (.load 3 (.tmp 22)), 3, "", #[⟨0, .data⟩], none⟩,
  ⟨(some 25), (.binOp .add 3 (.tmp 23) (.tmp 24) 3), 3, "", #[], none⟩,
  ⟨(some 26), (.indexAddr 33 (.tmp 19) (.tmp 25)), 0, "", #[], none⟩,
  ⟨(some 27), (.load 5 (.tmp 26)), 5, "", #[⟨0, .data⟩], none⟩,
  ⟨(some 28), (.convert 5 24 (.tmp 27)), 24, "", #[], none⟩,
  ⟨(some 31), (.binOp .shl 24 (.tmp 28) (.tmp 30) 3), 24, "", #[], none⟩,
  ⟨(some 32), (.binOp .or 24 (.tmp 15) (.tmp 31) 24), 24, "", #[], none⟩,
  ⟨(some 5), (.assign (.tmp 32)), 24, "", #[], none⟩]
def F28.r8 : List Oper := [
  op 33 (.binOp .add 3 (.tmp 12) (.const (.int .i64 1)) 3) 3,
  op 12 (.move (.tmp 33)) 3]
def F28.r9 : List Oper := [
  op 34 (.move (.tmp 0)) 43,
  op 35 (.nilCheck (.tmp 34)) 0,
  op 36 (.fieldAddr 79 (.tmp 35) 1) 0,
  od 37 (.load 3 (.tmp 36)) 3,
  op 38 (.move (.tmp 1)) 3,
  op 39 (.binOp .add 3 (.tmp 37) (.tmp 38) 3) 3,
  op 40 (.nilCheck (.tmp 34)) 0,
  op 41 (.fieldAddr 79 (.tmp 40) 1) 0,
  ⟨none, (.store 3 (.tmp 41) (.tmp 39)), 0, "", #[⟨0, .chain⟩], none⟩]
def F28.r10 : List Oper := [
  op 42 (.move (.tmp 5)) 24,
  op 43 (.convert 24 23 (.tmp 42)) 23,
  op 4 (.assign (.tmp 43)) 23]
def F28.t8 : Cd := (.region 8 F28.r8.toArray false)
theorem F28.t8_eq {θ : Tag (F28.t8, Q, e, w)} : cwE P F28.t8 Q e w θ = cwE P (.region 8 F28.r8.toArray false) Q e w := rfl
def F28.t6 : Cd := (.seq (.block 1 (.seq (.region 6 F28.r6.toArray false) (.region 7 F28.r7.toArray true))) F28.t8)
theorem F28.t6_eq {θ : Tag (F28.t6, Q, e, w)} : cwE P F28.t6 Q e w θ = cwE P (.seq (.block 1 (.seq (.region 6 F28.r6.toArray false) (.region 7 F28.r7.toArray true))) F28.t8) Q e w := rfl
def F28.t9 : Cd := (.seq (.region 9 F28.r9.toArray false) (.seq (.region 10 F28.r10.toArray false) .ret))
theorem F28.t9_eq {θ : Tag (F28.t9, Q, e, w)} : cwE P F28.t9 Q e w θ = cwE P (.seq (.region 9 F28.r9.toArray false) (.seq (.region 10 F28.r10.toArray false) .ret)) Q e w := rfl
def F28.t3 : Cd := (.seq (.region 3 F28.r3.toArray false) (.seq (.seq (.region 4 F28.r4.toArray false) (.block 0 (.loop (.seq (.region 5 F28.r5.toArray false) (.seq (.cond (.tmp 13) .skip (.exit 0)) F28.t6))))) F28.t9))
theorem F28.t3_eq {θ : Tag (F28.t3, Q, e, w)} : cwE P F28.t3 Q e w θ = cwE P (.seq (.region 3 F28.r3.toArray false) (.seq (.seq (.region 4 F28.r4.toArray false) (.block 0 (.loop (.seq (.region 5 F28.r5.toArray false) (.seq (.cond (.tmp 13) .skip (.exit 0)) F28.t6))))) F28.t9)) Q e w := rfl
def F28.code : Cd := (.seq (.region 0 F28.r0.toArray false) (.seq (.seq (.region 1 F28.r1.toArray false) (.cond (.tmp 10) (.seq (.region 2 F28.r2.toArray false) .ret) .skip)) F28.t3))
theorem F28.calls (hn : args.size ≤ 44) (h : cwE Tryz.prog F28.code (fnP Tryz.prog #[(.tmp 4)] R) (entry args) w) : Calls Tryz.prog 28 args w R :=
  calls_of_cwE (types := Tryz.prog.types) follows Tryz.func28 F28.code rfl (by kernel_rfl) hn h

def F29.r0 : List Oper := [
  op 4 (.assign (.const (.int .u8 0))) 5]
def F29.r1 : List Oper := [
  op 7 (.move (.tmp 0)) 43,
  op 8 (.move (.tmp 1)) 3,
  oc 9 (.call ⟨(.value (.func 58)), #[(.tmp 7), (.tmp 8)], #[43, 3]⟩) 4,
  op 10 (.unOp .not 4 (.tmp 9)) 4]
def F29.r2 : List Oper := [
  op 4 (.assign (.const (.int .u8 0))) 5]
def F29.r3 : List Oper := [
  op 5 (.assign (.const (.int .u64 0))) 24]
def F29.r4 : List Oper := [
  op 11 (.move (.tmp 1)) 3,
  op 12 (.move (.const (.int .i64 0))) 3]
def F29.r5 : List Oper := [
  op 13 (.binOp .lss 3 (.tmp 12) (.tmp 11) 3) 4]
def F29.r6 : List Oper := [
  op 14 (.move (.tmp 12)) 3,
  op 6 (.assign (.tmp 14)) 3]
def F29.r7 : List Oper := [
  ⟨(some 15), (.move (.tmp 5)), 24, "", #[], none⟩,
  ⟨(some 16), (.move (.tmp 0)), 43, "", #[], none⟩,
  ⟨(some 17), (.nilCheck (.tmp 16)), 0, "", #[], none⟩,
  ⟨(some 18), (.fieldAddr 79 (.tmp 17) 0), 0, "", #[], none⟩,
  ⟨(some 20), (.move (.tmp 0)), 43, "", #[], none⟩,
  ⟨(some 21), (.nilCheck (.tmp 20)), 0, "", #[], none⟩,
  ⟨(some 22), (.fieldAddr 79 (.tmp 21) 1), 0, "", #[], none⟩,
  ⟨(some 24), (.move (.tmp 6)), 3, "", #[], none⟩,
  ⟨(some 29), (.move (.tmp 6)), 3, "", #[], none⟩,
  ⟨(some 30), (.binOp .mul 3 (.const (.int .i64 8)) (.tmp 29) 3), 3, "", #[], none⟩,
  ⟨(some 19), (.load 33 (.tmp 18)), 33, "", #[⟨0, .data⟩], none⟩,
  ⟨(some 23), (.load 3 (.tmp 22)), 3, "", #[⟨0, .data⟩], none⟩,
  ⟨(some 25), (.binOp .add 3 (.tmp 23) (.tmp 24) 3), 3, "", #[], none⟩,
  ⟨(some 26), (.indexAddr 33 (.tmp 19) (.tmp 25)), 0, "", #[], none⟩,
  ⟨(some 27), (.load 5 (.tmp 26)), 5, "", #[⟨0, .data⟩], none⟩,
  ⟨(some 28), (.convert 5 24 (.tmp 27)), 24, "", #[], none⟩,
  ⟨(some 31), (.binOp .shl 24 (.tmp 28) (.tmp 30) 3), 24, "", #[], none⟩,
  ⟨(some 32), (.binOp .or 24 (.tmp 15) (.tmp 31) 24), 24, "", #[], none⟩,
  ⟨(some 5), (.assign (.tmp 32)), 24, "", #[], none⟩]
def F29.r8 : List Oper := [
  op 33 (.binOp .add 3 (.tmp 12) (.const (.int .i64 1)) 3) 3,
  op 12 (.move (.tmp 33)) 3]
def F29.r9 : List Oper := [
  op 34 (.move (.tmp 0)) 43,
  op 35 (.nilCheck (.tmp 34)) 0,
  op 36 (.fieldAddr 79 (.tmp 35) 1) 0,
  od 37 (.load 3 (.tmp 36)) 3,
  op 38 (.move (.tmp 1)) 3,
  op 39 (.binOp .add 3 (.tmp 37) (.tmp 38) 3) 3,
  op 40 (.nilCheck (.tmp 34)) 0,
  op 41 (.fieldAddr 79 (.tmp 40) 1) 0,
  ⟨none, (.store 3 (.tmp 41) (.tmp 39)), 0, "", #[⟨0, .chain⟩], none⟩]
def F29.r10 : List Oper := [
  op 42 (.move (.tmp 5)) 24,
  op 43 (.convert 24 5 (.tmp 42)) 5,
  op 4 (.assign (.tmp 43)) 5]
def F29.t8 : Cd := (.region 8 F29.r8.toArray false)
theorem F29.t8_eq {θ : Tag (F29.t8, Q, e, w)} : cwE P F29.t8 Q e w θ = cwE P (.region 8 F29.r8.toArray false) Q e w := rfl
def F29.t6 : Cd := (.seq (.block 1 (.seq (.region 6 F29.r6.toArray false) (.region 7 F29.r7.toArray true))) F29.t8)
theorem F29.t6_eq {θ : Tag (F29.t6, Q, e, w)} : cwE P F29.t6 Q e w θ = cwE P (.seq (.block 1 (.seq (.region 6 F29.r6.toArray false) (.region 7 F29.r7.toArray true))) F29.t8) Q e w := rfl
def F29.t9 : Cd := (.seq (.region 9 F29.r9.toArray false) (.seq (.region 10 F29.r10.toArray false) .ret))
theorem F29.t9_eq {θ : Tag (F29.t9, Q, e, w)} : cwE P F29.t9 Q e w θ = cwE P (.seq (.region 9 F29.r9.toArray false) (.seq (.region 10 F29.r10.toArray false) .ret)) Q e w := rfl
def F29.t3 : Cd := (.seq (.region 3 F29.r3.toArray false) (.seq (.seq (.region 4 F29.r4.toArray false) (.block 0 (.loop (.seq (.region 5 F29.r5.toArray false) (.seq (.cond (.tmp 13) .skip (.exit 0)) F29.t6))))) F29.t9))
theorem F29.t3_eq {θ : Tag (F29.t3, Q, e, w)} : cwE P F29.t3 Q e w θ = cwE P (.seq (.region 3 F29.r3.toArray false) (.seq (.seq (.region 4 F29.r4.toArray false) (.block 0 (.loop (.seq (.region 5 F29.r5.toArray false) (.seq (.cond (.tmp 13) .skip (.exit 0)) F29.t6))))) F29.t9)) Q e w := rfl
def F29.code : Cd := (.seq (.region 0 F29.r0.toArray false) (.seq (.seq (.region 1 F29.r1.toArray false) (.cond (.tmp 10) (.seq (.region 2 F29.r2.toArray false) .ret) .skip)) F29.t3))
theorem F29.calls (hn : args.size ≤ 44) (h : cwE Tryz.prog F29.code (fnP Tryz.prog #[(.tmp 4)] R) (entry args) w) : Calls Tryz.prog 29 args w R :=
  calls_of_cwE (types := Tryz.prog.types) follows Tryz.func29 F29.code rfl (by kernel_rfl) hn h

def F30.r0 : List Oper := [
  op 4 (.assign (.const (.int .u64 0))) 24]
def F30.r1 : List Oper := [
  op 7 (.move (.tmp 0)) 43,
  op 8 (.move (.tmp 1)) 3,
  oc 9 (.call ⟨(.value (.func 58)), #[(.tmp 7), (.tmp 8)], #[43, 3]⟩) 4,
  op 10 (.unOp .not 4 (.tmp 9)) 4]
def F30.r2 : List Oper := [
  op 4 (.assign (.const (.int .u64 0))) 24]
def F30.r3 : List Oper := [
  op 5 (.assign (.const (.int .u64 0))) 24]
def F30.r4 : List Oper := [
  op 11 (.move (.tmp 1)) 3,
  op 12 (.move (.const (.int .i64 0))) 3]
def F30.r5 : List Oper := [
  op 13 (.binOp .lss 3 (.tmp 12) (.tmp 11) 3) 4]
def F30.r6 : List Oper := [
  op 14 (.move (.tmp 12)) 3,
  op 6 (.assign (.tmp 14)) 3]
def F30.r7 : List Oper := [
  ⟨(some 15), (.move (.tmp 5)), 24, "", #[], none⟩,
  ⟨(some 16), (.move (.tmp 0)), 43, "", #[], none⟩,
  ⟨(some 17), (.nilCheck (.tmp 16)), 0, "", #[], none⟩,
  ⟨(some 18), (.fieldAddr 79 (.tmp 17) 0), 0, "", #[], none⟩,
  ⟨(some 20), (.move (.tmp 0)), 43, "", #[], none⟩,
  ⟨(some 21), (.nilCheck (.tmp 20)), 0, "", #[], none⟩,
  ⟨(some 22), (.fieldAddr 79 (.tmp 21) 1), 0, "", #[], none⟩,
  ⟨(some 24), (.move (.tmp 6)), 3, "", #[], none⟩,
  ⟨(some 29), (.move (.tmp 6)), 3, "", #[], none⟩,
  ⟨(some 30), (.binOp .mul 3 (.const (.int .i64 8)) (.tmp 29) 3), 3, "", #[], none⟩,
  ⟨(some 19), (.load 33 (.tmp 18)), 33, "", #[⟨0, .data⟩], none⟩,
  ⟨(some 23), (.load 3 (.tmp 22)), 3, "", #[⟨0, .data⟩], none⟩,
  ⟨(some 25), (.binOp .add 3 (.tmp 23) (.tmp 24) 3), 3, "", #[], none⟩,
  ⟨(some 26), (.indexAddr 33 (.tmp 19) (.tmp 25)), 0, "", #[], none⟩,
  ⟨(some 27), (.load 5 (.tmp 26)), 5, "", #[⟨0, .data⟩], none⟩,
  ⟨(some 28), (.convert 5 24 (.tmp 27)), 24, "", #[], none⟩,
  ⟨(some 31), (.binOp .shl 24 (.tmp 28) (.tmp 30) 3), 24, "", #[], none⟩,
  ⟨(some 32), (.binOp .or 24 (.tmp 15) (.tmp 31) 24), 24, "", #[], none⟩,
  ⟨(some 5), (.assign (.tmp 32)), 24, "", #[], none⟩]
def F30.r8 : List Oper := [
  op 33 (.binOp .add 3 (.tmp 12) (.const (.int .i64 1)) 3) 3,
  op 12 (.move (.tmp 33)) 3]
def F30.r9 : List Oper := [
  op 34 (.move (.tmp 0)) 43,
  op 35 (.nilCheck (.tmp 34)) 0,
  op 36 (.fieldAddr 79 (.tmp 35) 1) 0,
  od 37 (.load 3 (.tmp 36)) 3,
  op 38 (.move (.tmp 1)) 3,
  op 39 (.binOp .add 3 (.tmp 37) (.tmp 38) 3) 3,
  op 40 (.nilCheck (.tmp 34)) 0,
  op 41 (.fieldAddr 79 (.tmp 40) 1) 0,
  ⟨none, (.store 3 (.tmp 41) (.tmp 39)), 0, "", #[⟨0, .chain⟩], none⟩]
def F30.r10 : List Oper := [
  op 42 (.move (.tmp 5)) 24,
  op 4 (.assign (.tmp 42)) 24]
def F30.t8 : Cd := (.region 8 F30.r8.toArray false)
theorem F30.t8_eq {θ : Tag (F30.t8, Q, e, w)} : cwE P F30.t8 Q e w θ = cwE P (.region 8 F30.r8.toArray false) Q e w := rfl
def F30.t6 : Cd := (.seq (.block 1 (.seq (.region 6 F30.r6.toArray false) (.region 7 F30.r7.toArray true))) F30.t8)
theorem F30.t6_eq {θ : Tag (F30.t6, Q, e, w)} : cwE P F30.t6 Q e w θ = cwE P (.seq (.block 1 (.seq (.region 6 F30.r6.toArray false) (.region 7 F30.r7.toArray true))) F30.t8) Q e w := rfl
def F30.t9 : Cd := (.seq (.region 9 F30.r9.toArray false) (.seq (.region 10 F30.r10.toArray false) .ret))
theorem F30.t9_eq {θ : Tag (F30.t9, Q, e, w)} : cwE P F30.t9 Q e w θ = cwE P (.seq (.region 9 F30.r9.toArray false) (.seq (.region 10 F30.r10.toArray false) .ret)) Q e w := rfl
def F30.t3 : Cd := (.seq (.region 3 F30.r3.toArray false) (.seq (.seq (.region 4 F30.r4.toArray false) (.block 0 (.loop (.seq (.region 5 F30.r5.toArray false) (.seq (.cond (.tmp 13) .skip (.exit 0)) F30.t6))))) F30.t9))
theorem F30.t3_eq {θ : Tag (F30.t3, Q, e, w)} : cwE P F30.t3 Q e w θ = cwE P (.seq (.region 3 F30.r3.toArray false) (.seq (.seq (.region 4 F30.r4.toArray false) (.block 0 (.loop (.seq (.region 5 F30.r5.toArray false) (.seq (.cond (.tmp 13) .skip (.exit 0)) F30.t6))))) F30.t9)) Q e w := rfl
def F30.code : Cd := (.seq (.region 0 F30.r0.toArray false) (.seq (.seq (.region 1 F30.r1.toArray false) (.cond (.tmp 10) (.seq (.region 2 F30.r2.toArray false) .ret) .skip)) F30.t3))
theorem F30.calls (hn : args.size ≤ 43) (h : cwE Tryz.prog F30.code (fnP Tryz.prog #[(.tmp 4)] R) (entry args) w) : Calls Tryz.prog 30 args w R :=
  calls_of_cwE (types := Tryz.prog.types) follows Tryz.func30 F30.code rfl (by kernel_rfl) hn h

def F31.r0 : List Oper := [
  op 2 (.assign (.const (.int .i64 0))) 3,
  op 3 (.assign (.const (.bool false))) 4]
def F31.r1 : List Oper := [
  op 5 (.move (.tmp 0)) 43,
  oc 6 (.call ⟨(.value (.func 58)), #[(.tmp 5), (.const (.int .i64 2))], #[43, 3]⟩) 4,
  op 7 (.unOp .not 4 (.tmp 6)) 4]
def F31.r2 : List Oper := [
  op 2 (.assign (.const (.int .i64 0))) 3,
  op 3 (.assign (.const (.bool false))) 4]
def F31.r3 : List Oper := [
  ⟨(some 8), (.move (.tmp 0)), 43, "", #[], none⟩,
  ⟨(some 9), (.nilCheck (.tmp 8)), 0, "", #[], none⟩,
  ⟨(some 10), (.fieldAddr 79 (.tmp 9) 0), 0, "", #[], none⟩,
  ⟨(some 12), (.move (.tmp 0)), 43, "", #[], none⟩,
  ⟨(some 13), (.nilCheck (.tmp 12)), 0, "", #[], none⟩,
  ⟨(some 14), (.fieldAddr 79 (.tmp 13) 1), 0, "", #[], none⟩,
  ⟨(some 19), (.move (.tmp 0)), 43, "", #[], none⟩,
  ⟨(some 20), (.nilCheck (.tmp 19)), 0, "", #[], none⟩,
  ⟨(some 21), (.fieldAddr 79 (.tmp 20) 0), 0, "", #[], none⟩,
  ⟨(some 23), (.move (.tmp 0)), 43, "", #[], none⟩,
  ⟨(some 24), (.nilCheck (.tmp 23)), 0, "", #[], none⟩,
  ⟨(some 25), (.fieldAddr 79 (.tmp 24) 1), 0, "", #[], none⟩,
  ⟨(some 11), (.load 33 (.tmp 10)), 33, "", #[⟨0, .data⟩], none⟩,
  ⟨(some 15), (.load 3 (.tmp 14)), 3, "", #[⟨0, .data⟩], none⟩,
  ⟨(some 16), (.indexAddr 33 (.tmp 11) (.tmp 15)), 0, "", #[], none⟩,
  ⟨(some 17), (.load 5 (.tmp 16)), 5, "", #[⟨0, .data⟩], none⟩,
  ⟨(some 18), (.convert 5 3 (.tmp 17)), 3, "", #[], none⟩,
  ⟨(some 22), (.load 33 (.tmp 21)), 33, "", #[⟨0, .data⟩], none⟩,
  ⟨(some 26), (.load 3 (.tmp 25)), 3, "", #[⟨0, .data⟩], none⟩,
  ⟨(some 27), (.binOp .add 3 (.tmp 26) (.const (.int .i64 1)) 3), 3, "", #[], none⟩,
  ⟨(some 28), (.indexAddr 33 (.tmp 22) (.tmp 27)), 0, "", #[], none⟩,
  ⟨(some 29), (.load 5 (.tmp 28)), 5, "", #[⟨0, .data⟩], none⟩,
  ⟨(some 30), (.convert 5 3 (.tmp 29)), 3, "", #[], none⟩,
  ⟨(some 31), (.binOp .shl 3 (.tmp 30) (.const (.int .u64 8)) 42), 3, "", #[], none⟩,
  ⟨(some 32), (.binOp .or 3 (.tmp 18) (.tmp 31) 3), 3, "", #[], none⟩,
  ⟨(some 4), (.assign (.tmp 32)), 3, "", #[], none⟩]
def F31.r4 : List Oper := [
  op 33 (.move (.tmp 4)) 3,
  op 34 (.move (.tmp 0)) 43,
  op 35 (.move (.tmp 4)) 3,
  op 36 (.binOp .add 3 (.const (.int .i64 2)) (.tmp 35) 3) 3,
  oc 37 (.call ⟨(.value (.func 58)), #[(.tmp 34), (.tmp 36)], #[43, 3]⟩) 4,
  op 2 (.assign (.tmp 33)) 3,
  op 3 (.assign (.tmp 37)) 4]
def F31.t3 : Cd := (.seq (.region 3 F31.r3.toArray true) (.seq (.region 4 F31.r4.toArray false) .ret))
theorem F31.t3_eq {θ : Tag (F31.t3, Q, e, w)} : cwE P F31.t3 Q e w θ = cwE P (.seq (.region 3 F31.r3.toArray true) (.seq (.region 4 F31.r4.toArray false) .ret)) Q e w := rfl
def F31.code : Cd := (.seq (.region 0 F31.r0.toArray false) (.seq (.seq (.region 1 F31.r1.toArray false) (.cond (.tmp 7) (.seq (.region 2 F31.r2.toArray false) .ret) .skip)) F31.t3))
theorem F31.calls (hn : args.size ≤ 38) (h : cwE Tryz.prog F31.code (fnP Tryz.prog #[(.tmp 2), (.tmp 3)] R) (entry args) w) : Calls Tryz.prog 31 args w R :=
  calls_of_cwE (types := Tryz.prog.types) follows Tryz.func31 F31.code rfl (by kernel_rfl) hn h

def F32.r0 : List Oper := [
  op 2 (.assign (.const (.int .i64 0))) 3]
def F32.r1 : List Oper := [
  op 7 (.move (.tmp 0)) 9,
  oc 8 (.range 9 (.tmp 7)) 0]
def F32.r2 : List Oper := [
  oc 9 (.next (.tmp 8) true) 0,
  op 10 (.extract (.tmp 9) 0) 4]
def F32.r3 : List Oper := [
  op 11 (.extract (.tmp 9) 1) 3,
  op 12 (.extract (.tmp 9) 2) 21,
  op 3 (.assign (.tmp 11)) 3,
  op 4 (.assign (.tmp 12)) 21]
def F32.r4 : List Oper := [
  op 13 (.move (.tmp 4)) 21,
  op 14 (.binOp .eql 21 (.tmp 13) (.const (.int .i32 0)) 21) 4]
def F32.r5 : List Oper := [
  op 15 (.move (.tmp 3)) 3,
  op 2 (.assign (.tmp 15)) 3]
def F32.r6 : List Oper := [
  op 16 (.move (.tmp 4)) 21,
  op 17 (.binOp .eql 21 (.tmp 16) (.const (.int .i32 65533)) 21) 4]
def F32.r7 : List Oper := [
  op 19 (.move (.tmp 0)) 9,
  op 20 (.move (.tmp 3)) 3,
  op 21 (.slice 9 (.tmp 19) (some (.tmp 20)) none none) 9,
  oc 22 (.call ⟨(.value (.func 59)), #[(.tmp 21)], #[9]⟩) 108,
  op 18 (.move (.tmp 22)) 108,
  op 23 (.extract (.tmp 18) 0) 21,
  op 24 (.extract (.tmp 18) 1) 3,
  op 5 (.assign (.tmp 23)) 21,
  op 6 (.assign (.tmp 24)) 3]
def F32.r8 : List Oper := [
  op 25 (.move (.tmp 6)) 3,
  op 26 (.binOp .eql 3 (.tmp 25) (.const (.int .i64 1)) 3) 4]
def F32.r9 : List Oper := [
  op 27 (.move (.tmp 3)) 3,
  op 2 (.assign (.tmp 27)) 3]
def F32.r10 : List Oper := [
  op 2 (.assign (.const (.int .i64 (-1)))) 3]
def F32.t6 : Cd := (.seq (.region 6 F32.r6.toArray false) (.cond (.tmp 17) (.seq (.region 7 F32.r7.toArray false) (.seq (.region 8 F32.r8.toArray false) (.cond (.tmp 26) (.seq (.region 9 F32.r9.toArray false) .ret) .skip))) .skip))
theorem F32.t6_eq {θ : Tag (F32.t6, Q, e, w)} : cwE P F32.t6 Q e w θ = cwE P (.seq (.region 6 F32.r6.toArray false) (.cond (.tmp 17) (.seq (.region 7 F32.r7.toArray false) (.seq (.region 8 F32.r8.toArray false) (.cond (.tmp 26) (.seq (.region 9 F32.r9.toArray false) .ret) .skip))) .skip)) Q e w := rfl
def F32.t3 : Cd := (.block 1 (.seq (.region 3 F32.r3.toArray false) (.seq (.seq (.region 4 F32.r4.toArray false) (.cond (.tmp 14) (.seq (.region 5 F32.r5.toArray false) .ret) .skip)) F32.t6)))
theorem F32.t3_eq {θ : Tag (F32.t3, Q, e, w)} : cwE P F32.t3 Q e w θ = cwE P (.block 1 (.seq (.region 3 F32.r3.toArray false) (.seq (.seq (.region 4 F32.r4.toArray false) (.cond (.tmp 14) (.seq (.region 5 F32.r5.toArray false) .ret) .skip)) F32.t6))) Q e w := rfl
def F32.t10 : Cd := (.seq (.region 10 F32.r10.toArray false) .ret)
theorem F32.t10_eq {θ : Tag (F32.t10, Q, e, w)} : cwE P F32.t10 Q e w θ = cwE P (.seq (.region 10 F32.r10.toArray false) .ret) Q e w := rfl
def F32.code : Cd := (.seq (.region 0 F32.r0.toArray false) (.seq (.seq (.region 1 F32.r1.toArray false) (.block 0 (.loop (.seq (.region 2 F32.r2.toArray false) (.seq (.cond (.tmp 10) .skip (.exit 0)) F32.t3))))) F32.t10))
theorem F32.calls (hn : args.size ≤ 28) (h : cwE Tryz.prog F32.code (fnP Tryz.prog #[(.tmp 2)] R) (entry args) w) : Calls Tryz.prog 32 args w R :=
  calls_of_cwE (types := Tryz.prog.types) follows Tryz.func32 F32.code rfl (by kernel_rfl) hn h

def F33.r0 : List Oper := [
  op 6 (.move (.tmp 0)) 43,
  op 7 (.nilCheck (.tmp 6)) 0,
  op 8 (.fieldAddr 79 (.tmp 7) 3) 0,
  od 9 (.load 37 (.tmp 8)) 37,
  op 10 (.binOp .eql 37 (.tmp 9) (.const (.int .i64 0)) 37) 4,
  op 11 (.move (.tmp 10)) 4,
  ⟨(some 12), (.move (.tmp 1)), 37, "", #[], (some (11, true))⟩,
  ⟨(some 13), (.binOp .neq 37 (.tmp 12) (.const (.int .i64 0)) 37), 4, "", #[], (some (11, true))⟩,
  op 14 (.pick (.tmp 11) (.tmp 13) (.const (.bool false))) 4]
def F33.r1 : List Oper := [
  ⟨(some 15), (.move (.tmp 0)), 43, "", #[], none⟩,
  ⟨(some 16), (.move (.tmp 0)), 43, "", #[], none⟩,
  ⟨(some 17), (.move (.tmp 1)), 37, "", #[], none⟩,
  ⟨(some 18), (.move (.tmp 0)), 43, "", #[], none⟩,
  ⟨(some 19), (.nilCheck (.tmp 18)), 0, "", #[], none⟩,
  ⟨(some 20), (.fieldAddr 79 (.tmp 19) 2), 0, "", #[], none⟩,
  ⟨(some 22), (.move (.tmp 0)), 43, "", #[], none⟩,
  ⟨(some 23), (.nilCheck (.tmp 22)), 0, "", #[], none⟩,
  ⟨(some 24), (.fieldAddr 79 (.tmp 23) 1), 0, "", #[], none⟩,
  ⟨(some 27), (.move (.tmp 2)), 3, "", #[], none⟩,
  ⟨(some 21), (.load 3 (.tmp 20)), 3, "", #[⟨589824, .data⟩], none⟩,
  ⟨(some 25), (.load 3 (.tmp 24)), 3, "", #[⟨589824, .data⟩], none⟩,
  ⟨(some 26), (.binOp .add 3 (.tmp 21) (.tmp 25) 3), 3, "", #[], none⟩,
  ⟨(some 28), (.binOp .add 3 (.tmp 26) (.tmp 27) 3), 3, "", #[], none⟩,
  ⟨(some 29), (.nilCheck (.tmp 15)), 0, "", #[], none⟩,
  ⟨(some 30), (.fieldAddr 79 (.tmp 29) 3), 0, "", #[], none⟩,
  ⟨none, (.store 37 (.tmp 30) (.tmp 17)), 0, "", #[⟨16, .chain⟩], none⟩,
  ⟨(some 31), (.nilCheck (.tmp 16)), 0, "", #[], none⟩,
  ⟨(some 32), (.fieldAddr 79 (.tmp 31) 4), 0, "", #[], none⟩,
  ⟨none, (.store 3 (.tmp 32) (.tmp 28)), 0, "", #[⟨19, .chain⟩], none⟩]
def F33.code : Cd := (.seq (.region 0 F33.r0.toArray false) (.cond (.tmp 14) (.region 1 F33.r1.toArray true) .skip))
theorem F33.calls (hn : args.size ≤ 33) (h : cwE Tryz.prog F33.code (fnP Tryz.prog #[] R) (entry args) w) : Calls Tryz.prog 33 args w R :=
  calls_of_cwE (types := Tryz.prog.types) follows Tryz.func33 F33.code rfl (by kernel_rfl) hn h

def F34.r0 : List Oper := [
  op 2 (.assign (.const (.int .i64 0))) 3]
def F34.r1 : List Oper := [
  op 4 (.move (.tmp 0)) 54,
  oc 5 (.call ⟨(.value (.func 60)), #[(.tmp 4), (.const (.int .i64 2))], #[54, 3]⟩) 4,
  op 6 (.unOp .not 4 (.tmp 5)) 4]
def F34.r2 : List Oper := [
  op 2 (.assign (.const (.int .i64 0))) 3]
def F34.r3 : List Oper := [
  op 7 (.move (.tmp 0)) 54,
  op 8 (.nilCheck (.tmp 7)) 0,
  op 9 (.fieldAddr 90 (.tmp 8) 1) 0,
  od 10 (.load 33 (.tmp 9)) 33,
  op 11 (.call ⟨(.builtin .len), #[(.tmp 10)], #[33]⟩) 3,
  op 3 (.assign (.tmp 11)) 3]
def F34.r4 : List Oper := [
  op 12 (.move (.tmp 0)) 54,
  op 13 (.move (.tmp 0)) 54,
  op 14 (.nilCheck (.tmp 13)) 0,
  op 15 (.fieldAddr 90 (.tmp 14) 1) 0,
  od 16 (.load 33 (.tmp 15)) 33,
  oc 17 (.buildSlice 33 2 #[(0, (.const (.int .u8 0))), (1, (.const (.int .u8 0)))]) 33,
  oc 18 (.call ⟨(.builtin .append), #[(.tmp 16), (.tmp 17)], #[33, 33]⟩) 33,
  op 19 (.nilCheck (.tmp 12)) 0,
  op 20 (.fieldAddr 90 (.tmp 19) 1) 0,
  ⟨none, (.store 33 (.tmp 20) (.tmp 18)), 0, "", #[⟨0, .chain⟩], none⟩]
def F34.r5 : List Oper := [
  op 21 (.move (.tmp 0)) 54,
  op 22 (.move (.tmp 0)) 54,
  op 23 (.nilCheck (.tmp 22)) 0,
  op 24 (.fieldAddr 90 (.tmp 23) 2) 0,
  od 25 (.load 88 (.tmp 24)) 88,
  op 26 (.move (.tmp 3)) 3,
  oc 27 (.buildSlice 88 1 #[(0, (.tmp 26))]) 88,
  oc 28 (.call ⟨(.builtin .append), #[(.tmp 25), (.tmp 27)], #[88, 88]⟩) 88,
  op 29 (.nilCheck (.tmp 21)) 0,
  op 30 (.fieldAddr 90 (.tmp 29) 2) 0,
  ⟨none, (.store 88 (.tmp 30) (.tmp 28)), 0, "", #[⟨0, .chain⟩], none⟩]
def F34.r6 : List Oper := [
  op 31 (.move (.tmp 3)) 3,
  op 2 (.assign (.tmp 31)) 3]
def F34.t3 : Cd := (.seq (.region 3 F34.r3.toArray false) (.seq (.region 4 F34.r4.toArray false) (.seq (.region 5 F34.r5.toArray false) (.seq (.region 6 F34.r6.toArray false) .ret))))
theorem F34.t3_eq {θ : Tag (F34.t3, Q, e, w)} : cwE P F34.t3 Q e w θ = cwE P (.seq (.region 3 F34.r3.toArray false) (.seq (.region 4 F34.r4.toArray false) (.seq (.region 5 F34.r5.toArray false) (.seq (.region 6 F34.r6.toArray false) .ret)))) Q e w := rfl
def F34.code : Cd := (.seq (.region 0 F34.r0.toArray false) (.seq (.seq (.region 1 F34.r1.toArray false) (.cond (.tmp 6) (.seq (.region 2 F34.r2.toArray false) .ret) .skip)) F34.t3))
theorem F34.calls (hn : args.size ≤ 32) (h : cwE Tryz.prog F34.code (fnP Tryz.prog #[(.tmp 2)] R) (entry args) w) : Calls Tryz.prog 34 args w R :=
  calls_of_cwE (types := Tryz.prog.types) follows Tryz.func34 F34.code rfl (by kernel_rfl) hn h

def F35.r0 : List Oper := [
  oc 3 (.box 26 (.tmp 1)) 0]
def F35.r1 : List Oper := [
  op 4 (.move (.tmp 0)) 54,
  op 5 (.binOp .eql 54 (.tmp 4) (.const (.pointer none)) 54) 4]
def F35.r2 : List Oper := [
  op 6 (.move (.tmp 0)) 54,
  op 7 (.fieldAddr 26 (.tmp 3) 0) 0,
  od 8 (.load 5 (.tmp 7)) 5,
  oc 9 (.call ⟨(.value (.func 25)), #[(.tmp 6), (.tmp 8)], #[54, 5]⟩) 0]
def F35.r3 : List Oper := [
  op 10 (.move (.tmp 0)) 54,
  op 11 (.fieldAddr 26 (.tmp 3) 1) 0,
  od 12 (.load 23 (.tmp 11)) 23,
  oc 13 (.call ⟨(.value (.func 24)), #[(.tmp 10), (.tmp 12)], #[54, 23]⟩) 0]
def F35.r4 : List Oper := [
  op 14 (.move (.tmp 0)) 54,
  op 15 (.fieldAddr 26 (.tmp 3) 2) 0,
  od 16 (.load 24 (.tmp 15)) 24,
  oc 17 (.call ⟨(.value (.func 36)), #[(.tmp 14), (.tmp 16)], #[54, 24]⟩) 0]
def F35.t2 : Cd := (.seq (.region 2 F35.r2.toArray false) (.seq (.region 3 F35.r3.toArray false) (.region 4 F35.r4.toArray false)))
theorem F35.t2_eq {θ : Tag (F35.t2, Q, e, w)} : cwE P F35.t2 Q e w θ = cwE P (.seq (.region 2 F35.r2.toArray false) (.seq (.region 3 F35.r3.toArray false) (.region 4 F35.r4.toArray false))) Q e w := rfl
def F35.code : Cd := (.seq (.region 0 F35.r0.toArray false) (.seq (.seq (.region 1 F35.r1.toArray false) (.cond (.tmp 5) .ret .skip)) F35.t2))
theorem F35.calls (hn : args.size ≤ 18) (h : cwE Tryz.prog F35.code (fnP Tryz.prog #[] R) (entry args) w) : Calls Tryz.prog 35 args w R :=
  calls_of_cwE (types := Tryz.prog.types) follows Tryz.func35 F35.code rfl (by kernel_rfl) hn h

def F36.r0 : List Oper := [
  op 4 (.move (.tmp 0)) 54,
  op 5 (.move (.tmp 1)) 24,
  oc 6 (.call ⟨(.value (.func 61)), #[(.tmp 4), (.tmp 5), (.const (.int .i64 8))], #[54, 24, 3]⟩) 0]
def F36.code : Cd := (.region 0 F36.r0.toArray false)
theorem F36.calls (hn : args.size ≤ 7) (h : cwE Tryz.prog F36.code (fnP Tryz.prog #[] R) (entry args) w) : Calls Tryz.prog 36 args w R :=
  calls_of_cwE (types := Tryz.prog.types) follows Tryz.func36 F36.code rfl (by kernel_rfl) hn h

def F37.r0 : List Oper := [
  op 4 (.move (.tmp 0)) 54,
  op 5 (.nilCheck (.tmp 4)) 0,
  op 6 (.fieldAddr 90 (.tmp 5) 3) 0,
  od 7 (.load 37 (.tmp 6)) 37,
  op 8 (.binOp .neq 37 (.tmp 7) (.const (.int .i64 0)) 37) 4]
def F37.r1 : List Oper := [
  op 9 (.move (.tmp 1)) 9,
  op 10 (.call ⟨(.builtin .len), #[(.tmp 9)], #[9]⟩) 3,
  op 11 (.binOp .gtr 3 (.tmp 10) (.const (.int .i64 65535)) 3) 4]
def F37.r2 : List Oper := [
  op 12 (.move (.tmp 0)) 54,
  op 13 (.nilCheck (.tmp 12)) 0,
  op 14 (.fieldAddr 90 (.tmp 13) 3) 0,
  ⟨none, (.store 37 (.tmp 14) (.const (.int .i64 13))), 0, "", #[⟨0, .chain⟩], none⟩]
def F37.r3 : List Oper := [
  op 15 (.move (.tmp 1)) 9,
  oc 16 (.call ⟨(.value (.func 18)), #[(.tmp 15)], #[9]⟩) 4,
  op 17 (.unOp .not 4 (.tmp 16)) 4]
def F37.r4 : List Oper := [
  op 18 (.move (.tmp 0)) 54,
  op 19 (.nilCheck (.tmp 18)) 0,
  op 20 (.fieldAddr 90 (.tmp 19) 3) 0,
  ⟨none, (.store 37 (.tmp 20) (.const (.int .i64 12))), 0, "", #[⟨0, .chain⟩], none⟩]
def F37.r5 : List Oper := [
  op 21 (.move (.tmp 0)) 54,
  op 22 (.move (.tmp 1)) 9,
  op 23 (.call ⟨(.builtin .len), #[(.tmp 22)], #[9]⟩) 3,
  op 24 (.binOp .add 3 (.const (.int .i64 2)) (.tmp 23) 3) 3,
  oc 25 (.call ⟨(.value (.func 60)), #[(.tmp 21), (.tmp 24)], #[54, 3]⟩) 4]
def F37.r6 : List Oper := [
  op 26 (.move (.tmp 0)) 54,
  op 27 (.move (.tmp 0)) 54,
  op 28 (.nilCheck (.tmp 27)) 0,
  op 29 (.fieldAddr 90 (.tmp 28) 1) 0,
  od 30 (.load 33 (.tmp 29)) 33,
  op 31 (.move (.tmp 1)) 9,
  op 32 (.call ⟨(.builtin .len), #[(.tmp 31)], #[9]⟩) 3,
  op 33 (.convert 3 5 (.tmp 32)) 5,
  op 34 (.move (.tmp 1)) 9,
  op 35 (.call ⟨(.builtin .len), #[(.tmp 34)], #[9]⟩) 3,
  op 36 (.binOp .shr 3 (.tmp 35) (.const (.int .u64 8)) 42) 3,
  op 37 (.convert 3 5 (.tmp 36)) 5,
  oc 38 (.buildSlice 33 2 #[(0, (.tmp 33)), (1, (.tmp 37))]) 33,
  oc 39 (.call ⟨(.builtin .append), #[(.tmp 30), (.tmp 38)], #[33, 33]⟩) 33,
  op 40 (.nilCheck (.tmp 26)) 0,
  op 41 (.fieldAddr 90 (.tmp 40) 1) 0,
  ⟨none, (.store 33 (.tmp 41) (.tmp 39)), 0, "", #[⟨0, .chain⟩], none⟩]
def F37.r7 : List Oper := [
  op 42 (.move (.tmp 0)) 54,
  op 43 (.move (.tmp 0)) 54,
  op 44 (.nilCheck (.tmp 43)) 0,
  op 45 (.fieldAddr 90 (.tmp 44) 1) 0,
  od 46 (.load 33 (.tmp 45)) 33,
  op 47 (.move (.tmp 1)) 9,
  oc 48 (.call ⟨(.builtin .append), #[(.tmp 46), (.tmp 47)], #[33, 9]⟩) 33,
  op 49 (.nilCheck (.tmp 42)) 0,
  op 50 (.fieldAddr 90 (.tmp 49) 1) 0,
  ⟨none, (.store 33 (.tmp 50) (.tmp 48)), 0, "", #[⟨0, .chain⟩], none⟩]
def F37.t5 : Cd := (.seq (.region 5 F37.r5.toArray false) (.cond (.tmp 25) (.seq (.region 6 F37.r6.toArray false) (.region 7 F37.r7.toArray false)) .skip))
theorem F37.t5_eq {θ : Tag (F37.t5, Q, e, w)} : cwE P F37.t5 Q e w θ = cwE P (.seq (.region 5 F37.r5.toArray false) (.cond (.tmp 25) (.seq (.region 6 F37.r6.toArray false) (.region 7 F37.r7.toArray false)) .skip)) Q e w := rfl
def F37.t3 : Cd := (.seq (.seq (.region 3 F37.r3.toArray false) (.cond (.tmp 17) (.seq (.region 4 F37.r4.toArray false) .ret) .skip)) F37.t5)
theorem F37.t3_eq {θ : Tag (F37.t3, Q, e, w)} : cwE P F37.t3 Q e w θ = cwE P (.seq (.seq (.region 3 F37.r3.toArray false) (.cond (.tmp 17) (.seq (.region 4 F37.r4.toArray false) .ret) .skip)) F37.t5) Q e w := rfl
def F37.t1 : Cd := (.seq (.seq (.region 1 F37.r1.toArray false) (.cond (.tmp 11) (.seq (.region 2 F37.r2.toArray false) .ret) .skip)) F37.t3)
theorem F37.t1_eq {θ : Tag (F37.t1, Q, e, w)} : cwE P F37.t1 Q e w θ = cwE P (.seq (.seq (.region 1 F37.r1.toArray false) (.cond (.tmp 11) (.seq (.region 2 F37.r2.toArray false) .ret) .skip)) F37.t3) Q e w := rfl
def F37.code : Cd := (.seq (.seq (.region 0 F37.r0.toArray false) (.cond (.tmp 8) .ret .skip)) F37.t1)
theorem F37.calls (hn : args.size ≤ 51) (h : cwE Tryz.prog F37.code (fnP Tryz.prog #[] R) (entry args) w) : Calls Tryz.prog 37 args w R :=
  calls_of_cwE (types := Tryz.prog.types) follows Tryz.func37 F37.code rfl (by kernel_rfl) hn h

def F38.r0 : List Oper := [
  op 6 (.move (.tmp 0)) 54,
  op 7 (.nilCheck (.tmp 6)) 0,
  op 8 (.fieldAddr 90 (.tmp 7) 3) 0,
  od 9 (.load 37 (.tmp 8)) 37,
  op 10 (.binOp .neq 37 (.tmp 9) (.const (.int .i64 0)) 37) 4]
def F38.r1 : List Oper := [
  op 11 (.move (.tmp 0)) 54,
  op 12 (.nilCheck (.tmp 11)) 0,
  op 13 (.fieldAddr 90 (.tmp 12) 2) 0,
  od 14 (.load 88 (.tmp 13)) 88,
  op 15 (.call ⟨(.builtin .len), #[(.tmp 14)], #[88]⟩) 3,
  op 16 (.binOp .sub 3 (.tmp 15) (.const (.int .i64 1)) 3) 3,
  op 4 (.assign (.tmp 16)) 3]
def F38.r2 : List Oper := [
  op 17 (.move (.tmp 4)) 3,
  op 18 (.binOp .lss 3 (.tmp 17) (.const (.int .i64 0)) 3) 4,
  op 19 (.move (.tmp 18)) 4,
  ⟨(some 20), (.move (.tmp 0)), 54, "", #[], (some (19, false))⟩,
  ⟨(some 21), (.nilCheck (.tmp 20)), 0, "", #[], (some (19, false))⟩,
  ⟨(some 22), (.fieldAddr 90 (.tmp 21) 2), 0, "", #[], (some (19, false))⟩,
  ⟨(some 23), (.load 88 (.tmp 22)), 88, "", #[⟨0, .data⟩], (some (19, false))⟩,
  ⟨(some 24), (.move (.tmp 4)), 3, "", #[], (some (19, false))⟩,
  ⟨(some 25), (.indexAddr 88 (.tmp 23) (.tmp 24)), 0, "", #[], (some (19, false))⟩,
  ⟨(some 26), (.load 3 (.tmp 25)), 3, "", #[⟨0, .data⟩], (some (19, false))⟩,
  ⟨(some 27), (.move (.tmp 1)), 3, "", #[], (some (19, false))⟩,
  ⟨(some 28), (.binOp .neq 3 (.tmp 26) (.tmp 27) 3), 4, "", #[], (some (19, false))⟩,
  op 29 (.pick (.tmp 19) (.const (.bool true)) (.tmp 28)) 4]
def F38.r3 : List Oper := [
  op 30 (.move (.tmp 0)) 54,
  op 31 (.nilCheck (.tmp 30)) 0,
  op 32 (.fieldAddr 90 (.tmp 31) 3) 0,
  ⟨none, (.store 37 (.tmp 32) (.const (.int .i64 1))), 0, "", #[⟨0, .chain⟩], none⟩]
def F38.r4 : List Oper := [
  op 33 (.move (.tmp 0)) 54,
  op 34 (.nilCheck (.tmp 33)) 0,
  op 35 (.fieldAddr 90 (.tmp 34) 1) 0,
  od 36 (.load 33 (.tmp 35)) 33,
  op 37 (.call ⟨(.builtin .len), #[(.tmp 36)], #[33]⟩) 3,
  op 38 (.move (.tmp 1)) 3,
  op 39 (.binOp .sub 3 (.tmp 37) (.tmp 38) 3) 3,
  op 40 (.binOp .sub 3 (.tmp 39) (.const (.int .i64 2)) 3) 3,
  op 5 (.assign (.tmp 40)) 3]
def F38.r5 : List Oper := [
  op 41 (.move (.tmp 5)) 3,
  op 42 (.binOp .gtr 3 (.tmp 41) (.const (.int .i64 65535)) 3) 4]
def F38.r6 : List Oper := [
  op 43 (.move (.tmp 0)) 54,
  op 44 (.nilCheck (.tmp 43)) 0,
  op 45 (.fieldAddr 90 (.tmp 44) 3) 0,
  ⟨none, (.store 37 (.tmp 45) (.const (.int .i64 13))), 0, "", #[⟨0, .chain⟩], none⟩]
def F38.r7 : List Oper := [
  op 46 (.move (.tmp 0)) 54,
  op 47 (.nilCheck (.tmp 46)) 0,
  op 48 (.fieldAddr 90 (.tmp 47) 1) 0,
  od 49 (.load 33 (.tmp 48)) 33,
  op 50 (.move (.tmp 1)) 3,
  op 51 (.move (.tmp 5)) 3,
  op 52 (.convert 3 5 (.tmp 51)) 5,
  op 53 (.indexAddr 33 (.tmp 49) (.tmp 50)) 0,
  ⟨none, (.store 5 (.tmp 53) (.tmp 52)), 0, "", #[⟨0, .chain⟩], none⟩]
def F38.r8 : List Oper := [
  op 54 (.move (.tmp 0)) 54,
  op 55 (.nilCheck (.tmp 54)) 0,
  op 56 (.fieldAddr 90 (.tmp 55) 1) 0,
  od 57 (.load 33 (.tmp 56)) 33,
  op 58 (.move (.tmp 1)) 3,
  op 59 (.binOp .add 3 (.tmp 58) (.const (.int .i64 1)) 3) 3,
  op 60 (.move (.tmp 5)) 3,
  op 61 (.binOp .shr 3 (.tmp 60) (.const (.int .u64 8)) 42) 3,
  op 62 (.convert 3 5 (.tmp 61)) 5,
  op 63 (.indexAddr 33 (.tmp 57) (.tmp 59)) 0,
  ⟨none, (.store 5 (.tmp 63) (.tmp 62)), 0, "", #[⟨0, .chain⟩], none⟩]
def F38.r9 : List Oper := [
  op 64 (.move (.tmp 0)) 54,
  op 65 (.move (.tmp 0)) 54,
  op 66 (.nilCheck (.tmp 65)) 0,
  op 67 (.fieldAddr 90 (.tmp 66) 2) 0,
  od 68 (.load 88 (.tmp 67)) 88,
  op 69 (.move (.tmp 4)) 3,
  op 70 (.slice 88 (.tmp 68) none (some (.tmp 69)) none) 88,
  op 71 (.nilCheck (.tmp 64)) 0,
  op 72 (.fieldAddr 90 (.tmp 71) 2) 0,
  ⟨none, (.store 88 (.tmp 72) (.tmp 70)), 0, "", #[⟨0, .chain⟩], none⟩]
def F38.t7 : Cd := (.seq (.region 7 F38.r7.toArray false) (.seq (.region 8 F38.r8.toArray false) (.region 9 F38.r9.toArray false)))
theorem F38.t7_eq {θ : Tag (F38.t7, Q, e, w)} : cwE P F38.t7 Q e w θ = cwE P (.seq (.region 7 F38.r7.toArray false) (.seq (.region 8 F38.r8.toArray false) (.region 9 F38.r9.toArray false))) Q e w := rfl
def F38.t4 : Cd := (.seq (.region 4 F38.r4.toArray false) (.seq (.seq (.region 5 F38.r5.toArray false) (.cond (.tmp 42) (.seq (.region 6 F38.r6.toArray false) .ret) .skip)) F38.t7))
theorem F38.t4_eq {θ : Tag (F38.t4, Q, e, w)} : cwE P F38.t4 Q e w θ = cwE P (.seq (.region 4 F38.r4.toArray false) (.seq (.seq (.region 5 F38.r5.toArray false) (.cond (.tmp 42) (.seq (.region 6 F38.r6.toArray false) .ret) .skip)) F38.t7)) Q e w := rfl
def F38.t1 : Cd := (.seq (.region 1 F38.r1.toArray false) (.seq (.seq (.region 2 F38.r2.toArray false) (.cond (.tmp 29) (.seq (.region 3 F38.r3.toArray false) .ret) .skip)) F38.t4))
theorem F38.t1_eq {θ : Tag (F38.t1, Q, e, w)} : cwE P F38.t1 Q e w θ = cwE P (.seq (.region 1 F38.r1.toArray false) (.seq (.seq (.region 2 F38.r2.toArray false) (.cond (.tmp 29) (.seq (.region 3 F38.r3.toArray false) .ret) .skip)) F38.t4)) Q e w := rfl
def F38.code : Cd := (.seq (.seq (.region 0 F38.r0.toArray false) (.cond (.tmp 10) .ret .skip)) F38.t1)
theorem F38.calls (hn : args.size ≤ 73) (h : cwE Tryz.prog F38.code (fnP Tryz.prog #[] R) (entry args) w) : Calls Tryz.prog 38 args w R :=
  calls_of_cwE (types := Tryz.prog.types) follows Tryz.func38 F38.code rfl (by kernel_rfl) hn h

def F39.r0 : List Oper := [
  op 0 (.assign (.const (.slice none 0 0))) 96]
def F39.r1 : List Oper := [
  oc 1 (.buildSlice 59 2 #[(0, (.const (.int .u8 0))), (1, (.const (.int .u8 1)))]) 59,
  op 2 (.build 61 #[(0, (.const (.int .u8 100))), (1, (.const (.string { data := #[84, 118, 101, 114, 115, 105, 111, 110] }))), (2, (.tmp 1))]) 61,
  oc 3 (.buildSlice 59 2 #[(0, (.const (.int .u8 0))), (1, (.const (.int .u8 1)))]) 59,
  op 4 (.build 61 #[(0, (.const (.int .u8 101))), (1, (.const (.string { data := #[82, 118, 101, 114, 115, 105, 111, 110] }))), (2, (.tmp 3))]) 61,
  oc 5 (.buildSlice 59 3 #[(0, (.const (.int .u8 2))), (1, (.const (.int .u8 3))), (2, (.const (.int .u8 4)))]) 59,
  op 6 (.build 61 #[(0, (.const (.int .u8 102))), (1, (.const (.string { data := #[84, 97, 117, 116, 104] }))), (2, (.tmp 5))]) 61,
  oc 7 (.buildSlice 59 1 #[(0, (.const (.int .u8 11)))]) 59,
  op 8 (.build 61 #[(0, (.const (.int .u8 103))), (1, (.const (.string { data := #[82, 97, 117, 116, 104] }))), (2, (.tmp 7))]) 61,
  oc 9 (.buildSlice 59 4 #[(0, (.const (.int .u8 7))), (1, (.const (.int .u8 2))), (2, (.const (.int .u8 3))), (3, (.const (.int .u8 4)))]) 59,
  op 10 (.build 61 #[(0, (.const (.int .u8 104))), (1, (.const (.string { data := #[84, 97, 116, 116, 97, 99, 104] }))), (2, (.tmp 9))]) 61,
  oc 11 (.buildSlice 59 1 #[(0, (.const (.int .u8 11)))]) 59,
  op 12 (.build 61 #[(0, (.const (.int .u8 105))), (1, (.const (.string { data := #[82, 97, 116, 116, 97, 99, 104] }))), (2, (.tmp 11))]) 61,
  oc 13 (.buildSlice 59 1 #[(0, (.const (.int .u8 5)))]) 59,
  op 14 (.build 61 #[(0, (.const (.int .u8 107))), (1, (.const (.string { data := #[82, 101, 114, 114, 111, 114] }))), (2, (.tmp 13))]) 61,
  oc 15 (.buildSlice 59 1 #[(0, (.const (.int .u8 6)))]) 59,
  op 16 (.build 61 #[(0, (.const (.int .u8 108))), (1, (.const (.string { data := #[84, 102, 108, 117, 115, 104] }))), (2, (.tmp 15))]) 61,
  op 17 (.build 61 #[(0, (.const (.int .u8 109))), (1, (.const (.string { data := #[82, 102, 108, 117, 115, 104] }))), (2, (.const (.slice none 0 0)))]) 61,
  oc 18 (.buildSlice 59 3 #[(0, (.const (.int .u8 7))), (1, (.const (.int .u8 8))), (2, (.const (.int .u8 9)))]) 59,
  op 19 (.build 61 #[(0, (.const (.int .u8 110))), (1, (.const (.string { data := #[84, 119, 97, 108, 107] }))), (2, (.tmp 18))]) 61,
  oc 20 (.buildSlice 59 1 #[(0, (.const (.int .u8 10)))]) 59,
  op 21 (.build 61 #[(0, (.const (.int .u8 111))), (1, (.const (.string { data := #[82, 119, 97, 108, 107] }))), (2, (.tmp 20))]) 61,
  oc 22 (.buildSlice 59 2 #[(0, (.const (.int .u8 7))), (1, (.const (.int .u8 12)))]) 59,
  op 23 (.build 61 #[(0, (.const (.int .u8 112))), (1, (.const (.string { data := #[84, 111, 112, 101, 110] }))), (2, (.tmp 22))]) 61,
  oc 24 (.buildSlice 59 2 #[(0, (.const (.int .u8 11))), (1, (.const (.int .u8 13)))]) 59,
  op 25 (.build 61 #[(0, (.const (.int .u8 113))), (1, (.const (.string { data := #[82, 111, 112, 101, 110] }))), (2, (.tmp 24))]) 61,
  oc 26 (.buildSlice 59 4 #[(0, (.const (.int .u8 7))), (1, (.const (.int .u8 14))), (2, (.const (.int .u8 15))), (3, (.const (.int .u8 12)))]) 59,
  op 27 (.build 61 #[(0, (.const (.int .u8 114))), (1, (.const (.string { data := #[84, 99, 114, 101, 97, 116, 101] }))), (2, (.tmp 26))]) 61,
  oc 28 (.buildSlice 59 2 #[(0, (.const (.int .u8 11))), (1, (.const (.int .u8 13)))]) 59,
  op 29 (.build 61 #[(0, (.const (.int .u8 115))), (1, (.const (.string { data := #[82, 99, 114, 101, 97, 116, 101] }))), (2, (.tmp 28))]) 61,
  oc 30 (.buildSlice 59 3 #[(0, (.const (.int .u8 7))), (1, (.const (.int .u8 16))), (2, (.const (.int .u8 17)))]) 59,
  op 31 (.build 61 #[(0, (.const (.int .u8 116))), (1, (.const (.string { data := #[84, 114, 101, 97, 100] }))), (2, (.tmp 30))]) 61,
  oc 32 (.buildSlice 59 1 #[(0, (.const (.int .u8 18)))]) 59,
  op 33 (.build 61 #[(0, (.const (.int .u8 117))), (1, (.const (.string { data := #[82, 114, 101, 97, 100] }))), (2, (.tmp 32))]) 61,
  oc 34 (.buildSlice 59 3 #[(0, (.const (.int .u8 7))), (1, (.const (.int .u8 16))), (2, (.const (.int .u8 18)))]) 59,
  op 35 (.build 61 #[(0, (.const (.int .u8 118))), (1, (.const (.string { data := #[84, 119, 114, 105, 116, 101] }))), (2, (.tmp 34))]) 61,
  oc 36 (.buildSlice 59 1 #[(0, (.const (.int .u8 17)))]) 59,
  op 37 (.build 61 #[(0, (.const (.int .u8 119))), (1, (.const (.string { data := #[82, 119, 114, 105, 116, 101] }))), (2, (.tmp 36))]) 61,
  oc 38 (.buildSlice 59 1 #[(0, (.const (.int .u8 7)))]) 59,
  op 39 (.build 61 #[(0, (.const (.int .u8 120))), (1, (.const (.string { data := #[84, 99, 108, 117, 110, 107] }))), (2, (.tmp 38))]) 61,
  op 40 (.build 61 #[(0, (.const (.int .u8 121))), (1, (.const (.string { data := #[82, 99, 108, 117, 110, 107] }))), (2, (.const (.slice none 0 0)))]) 61,
  oc 41 (.buildSlice 59 1 #[(0, (.const (.int .u8 7)))]) 59,
  op 42 (.build 61 #[(0, (.const (.int .u8 122))), (1, (.const (.string { data := #[84, 114, 101, 109, 111, 118, 101] }))), (2, (.tmp 41))]) 61,
  op 43 (.build 61 #[(0, (.const (.int .u8 123))), (1, (.const (.string { data := #[82, 114, 101, 109, 111, 118, 101] }))), (2, (.const (.slice none 0 0)))]) 61,
  oc 44 (.buildSlice 59 1 #[(0, (.const (.int .u8 7)))]) 59,
  op 45 (.build 61 #[(0, (.const (.int .u8 124))), (1, (.const (.string { data := #[84, 115, 116, 97, 116] }))), (2, (.tmp 44))]) 61,
  oc 46 (.buildSlice 59 1 #[(0, (.const (.int .u8 19)))]) 59,
  op 47 (.build 61 #[(0, (.const (.int .u8 125))), (1, (.const (.string { data := #[82, 115, 116, 97, 116] }))), (2, (.tmp 46))]) 61,
  oc 48 (.buildSlice 59 2 #[(0, (.const (.int .u8 7))), (1, (.const (.int .u8 19)))]) 59,
  op 49 (.build 61 #[(0, (.const (.int .u8 126))), (1, (.const (.string { data := #[84, 119, 115, 116, 97, 116] }))), (2, (.tmp 48))]) 61,
  op 50 (.build 61 #[(0, (.const (.int .u8 127))), (1, (.const (.string { data := #[82, 119, 115, 116, 97, 116] }))), (2, (.const (.slice none 0 0)))]) 61,
  oc 51 (.buildSlice 96 27 #[(0, (.tmp 2)), (1, (.tmp 4)), (2, (.tmp 6)), (3, (.tmp 8)), (4, (.tmp 10)), (5, (.tmp 12)), (6, (.tmp 14)), (7, (.tmp 16)), (8, (.tmp 17)), (9, (.tmp 19)), (10, (.tmp 21)), (11, (.tmp 23)), (12, (.tmp 25)), (13, (.tmp 27)), (14, (.tmp 29)), (15, (.tmp 31)), (16, (.tmp 33)), (17, (.tmp 35)), (18, (.tmp 37)), (19, (.tmp 39)), (20, (.tmp 40)), (21, (.tmp 42)), (22, (.tmp 43)), (23, (.tmp 45)), (24, (.tmp 47)), (25, (.tmp 49)), (26, (.tmp 50))]) 96,
  op 0 (.assign (.tmp 51)) 96]
def F39.code : Cd := (.seq (.region 0 F39.r0.toArray false) (.seq (.region 1 F39.r1.toArray false) .ret))
theorem F39.calls (hn : args.size ≤ 52) (h : cwE Tryz.prog F39.code (fnP Tryz.prog #[(.tmp 0)] R) (entry args) w) : Calls Tryz.prog 39 args w R :=
  calls_of_cwE (types := Tryz.prog.types) follows Tryz.func39 F39.code rfl (by kernel_rfl) hn h

def F54.r0 : List Oper := [
  oc 2 (.alloc 72) 0]
def F54.r1 : List Oper := [
  op 3 (.move (.tmp 0)) 64]
def F54.r2 : List Oper := [
  op 5 (.binOp .eql 64 (.tmp 3) (.const (.int .u8 6)) 64) 4,
  op 4 (.assign (.tmp 5)) 4]
def F54.r3 : List Oper := [
  op 6 (.build 72 #[(0, (.const (.string { data := #[111, 108, 100, 116, 97, 103] }))), (1, (.func 62)), (2, (.func 78)), (3, (.func 79)), (4, (.func 80)), (5, (.func 81)), (6, (.func 82))]) 72,
  ⟨none, (.store 72 (.tmp 2) (.tmp 6)), 0, "", #[⟨0, .chain⟩], none⟩]
def F54.r4 : List Oper := [
  op 8 (.binOp .eql 64 (.tmp 3) (.const (.int .u8 12)) 64) 4,
  op 7 (.assign (.tmp 8)) 4]
def F54.r5 : List Oper := [
  op 9 (.build 72 #[(0, (.const (.string { data := #[109, 111, 100, 101] }))), (1, (.func 62)), (2, (.func 83)), (3, (.func 84)), (4, (.func 85)), (5, (.func 86)), (6, (.func 87))]) 72,
  ⟨none, (.store 72 (.tmp 2) (.tmp 9)), 0, "", #[⟨0, .chain⟩], none⟩]
def F54.r6 : List Oper := [
  op 11 (.binOp .eql 64 (.tmp 3) (.const (.int .u8 16)) 64) 4,
  op 10 (.assign (.tmp 11)) 4]
def F54.r7 : List Oper := [
  op 12 (.build 72 #[(0, (.const (.string { data := #[111, 102, 102, 115, 101, 116] }))), (1, (.func 62)), (2, (.func 88)), (3, (.func 89)), (4, (.func 90)), (5, (.func 91)), (6, (.func 92))]) 72,
  ⟨none, (.store 72 (.tmp 2) (.tmp 12)), 0, "", #[⟨0, .chain⟩], none⟩]
def F54.r8 : List Oper := [
  op 14 (.binOp .eql 64 (.tmp 3) (.const (.int .u8 18)) 64) 4,
  op 13 (.assign (.tmp 14)) 4]
def F54.r9 : List Oper := [
  op 15 (.build 72 #[(0, (.const (.string { data := #[100, 97, 116, 97] }))), (1, (.func 62)), (2, (.func 93)), (3, (.func 95)), (4, (.func 97)), (5, (.func 99)), (6, (.func 101))]) 72,
  ⟨none, (.store 72 (.tmp 2) (.tmp 15)), 0, "", #[⟨0, .chain⟩], none⟩]
def F54.r10 : List Oper := [
  op 17 (.binOp .eql 64 (.tmp 3) (.const (.int .u8 11)) 64) 4,
  op 16 (.assign (.tmp 17)) 4]
def F54.r11 : List Oper := [
  op 18 (.build 72 #[(0, (.const (.string { data := #[113, 105, 100] }))), (1, (.func 62)), (2, (.func 103)), (3, (.func 104)), (4, (.func 106)), (5, (.func 107)), (6, (.func 109))]) 72,
  ⟨none, (.store 72 (.tmp 2) (.tmp 18)), 0, "", #[⟨0, .chain⟩], none⟩]
def F54.r12 : List Oper := [
  op 19 (.move (.tmp 0)) 64,
  oc 20 (.call ⟨(.value (.func 111)), #[(.tmp 19)], #[64]⟩) 72,
  ⟨none, (.store 72 (.tmp 2) (.tmp 20)), 0, "", #[⟨0, .chain⟩], none⟩]
def F54.t12 : Cd := (.seq (.region 12 F54.r12.toArray false) .ret)
theorem F54.t12_eq {θ : Tag (F54.t12, Q, e, w)} : cwE P F54.t12 Q e w θ = cwE P (.seq (.region 12 F54.r12.toArray false) .ret) Q e w := rfl
def F54.code : Cd := (.seq (.region 0 F54.r0.toArray false) (.seq (.seq (.region 1 F54.r1.toArray false) (.block 0 (.seq (.region 2 F54.r2.toArray false) (.cond (.tmp 4) (.seq (.region 3 F54.r3.toArray false) .ret) (.seq (.region 4 F54.r4.toArray false) (.cond (.tmp 7) (.seq (.region 5 F54.r5.toArray false) .ret) (.seq (.region 6 F54.r6.toArray false) (.cond (.tmp 10) (.seq (.region 7 F54.r7.toArray false) .ret) (.seq (.region 8 F54.r8.toArray false) (.cond (.tmp 13) (.seq (.region 9 F54.r9.toArray false) .ret) (.seq (.region 10 F54.r10.toArray false) (.cond (.tmp 16) (.seq (.region 11 F54.r11.toArray false) .ret) .skip)))))))))))) F54.t12))
theorem F54.calls (hn : args.size ≤ 21) (h : cwE Tryz.prog F54.code (fnP Tryz.prog #[(.cell 2 72)] R) (entry args) w) : Calls Tryz.prog 54 args w R :=
  calls_of_cwE (types := Tryz.prog.types) follows Tryz.func54 F54.code rfl (by kernel_rfl) hn h

def F55.r0 : List Oper := [
  op 7 (.move (.tmp 0)) 54,
  op 8 (.move (.tmp 2)) 3,
  oc 9 (.call ⟨(.value (.func 60)), #[(.tmp 7), (.tmp 8)], #[54, 3]⟩) 4,
  op 10 (.unOp .not 4 (.tmp 9)) 4]
def F55.r1 : List Oper := [
  op 11 (.move (.tmp 1)) 23,
  op 12 (.convert 23 24 (.tmp 11)) 24,
  op 6 (.assign (.tmp 12)) 24]
def F55.r2 : List Oper := [
  op 13 (.move (.tmp 2)) 3,
  op 14 (.move (.const (.int .i64 0))) 3]
def F55.r3 : List Oper := [
  op 15 (.binOp .lss 3 (.tmp 14) (.tmp 13) 3) 4]
def F55.r4 : List Oper := [
  op 16 (.move (.tmp 0)) 54,
  op 17 (.move (.tmp 0)) 54,
  op 18 (.nilCheck (.tmp 17)) 0,
  op 19 (.fieldAddr 90 (.tmp 18) 1) 0,
  od 20 (.load 33 (.tmp 19)) 33,
  op 21 (.move (.tmp 6)) 24,
  op 22 (.convert 24 5 (.tmp 21)) 5,
  oc 23 (.buildSlice 33 1 #[(0, (.tmp 22))]) 33,
  oc 24 (.call ⟨(.builtin .append), #[(.tmp 20), (.tmp 23)], #[33, 33]⟩) 33,
  op 25 (.nilCheck (.tmp 16)) 0,
  op 26 (.fieldAddr 90 (.tmp 25) 1) 0,
  ⟨none, (.store 33 (.tmp 26) (.tmp 24)), 0, "", #[⟨0, .chain⟩], none⟩]
def F55.r5 : List Oper := [
  op 27 (.move (.tmp 6)) 24,
  op 28 (.binOp .shr 24 (.tmp 27) (.const (.int .u64 8)) 42) 24,
  op 6 (.assign (.tmp 28)) 24]
def F55.r6 : List Oper := [
  op 29 (.binOp .add 3 (.tmp 14) (.const (.int .i64 1)) 3) 3,
  op 14 (.move (.tmp 29)) 3]
def F55.t6 : Cd := (.region 6 F55.r6.toArray false)
theorem F55.t6_eq {θ : Tag (F55.t6, Q, e, w)} : cwE P F55.t6 Q e w θ = cwE P (.region 6 F55.r6.toArray false) Q e w := rfl
def F55.t4 : Cd := (.seq (.block 1 (.seq (.region 4 F55.r4.toArray false) (.region 5 F55.r5.toArray false))) F55.t6)
theorem F55.t4_eq {θ : Tag (F55.t4, Q, e, w)} : cwE P F55.t4 Q e w θ = cwE P (.seq (.block 1 (.seq (.region 4 F55.r4.toArray false) (.region 5 F55.r5.toArray false))) F55.t6) Q e w := rfl
def F55.t1 : Cd := (.seq (.region 1 F55.r1.toArray false) (.seq (.region 2 F55.r2.toArray false) (.block 0 (.loop (.seq (.region 3 F55.r3.toArray false) (.seq (.cond (.tmp 15) .skip (.exit 0)) F55.t4))))))
theorem F55.t1_eq {θ : Tag (F55.t1, Q, e, w)} : cwE P F55.t1 Q e w θ = cwE P (.seq (.region 1 F55.r1.toArray false) (.seq (.region 2 F55.r2.toArray false) (.block 0 (.loop (.seq (.region 3 F55.r3.toArray false) (.seq (.cond (.tmp 15) .skip (.exit 0)) F55.t4)))))) Q e w := rfl
def F55.code : Cd := (.seq (.seq (.region 0 F55.r0.toArray false) (.cond (.tmp 10) .ret .skip)) F55.t1)
theorem F55.calls (hn : args.size ≤ 30) (h : cwE Tryz.prog F55.code (fnP Tryz.prog #[] R) (entry args) w) : Calls Tryz.prog 55 args w R :=
  calls_of_cwE (types := Tryz.prog.types) follows Tryz.func55 F55.code rfl (by kernel_rfl) hn h

def F56.r0 : List Oper := [
  op 7 (.move (.tmp 0)) 54,
  op 8 (.move (.tmp 2)) 3,
  oc 9 (.call ⟨(.value (.func 60)), #[(.tmp 7), (.tmp 8)], #[54, 3]⟩) 4,
  op 10 (.unOp .not 4 (.tmp 9)) 4]
def F56.r1 : List Oper := [
  op 11 (.move (.tmp 1)) 5,
  op 12 (.convert 5 24 (.tmp 11)) 24,
  op 6 (.assign (.tmp 12)) 24]
def F56.r2 : List Oper := [
  op 13 (.move (.tmp 2)) 3,
  op 14 (.move (.const (.int .i64 0))) 3]
def F56.r3 : List Oper := [
  op 15 (.binOp .lss 3 (.tmp 14) (.tmp 13) 3) 4]
def F56.r4 : List Oper := [
  op 16 (.move (.tmp 0)) 54,
  op 17 (.move (.tmp 0)) 54,
  op 18 (.nilCheck (.tmp 17)) 0,
  op 19 (.fieldAddr 90 (.tmp 18) 1) 0,
  od 20 (.load 33 (.tmp 19)) 33,
  op 21 (.move (.tmp 6)) 24,
  op 22 (.convert 24 5 (.tmp 21)) 5,
  oc 23 (.buildSlice 33 1 #[(0, (.tmp 22))]) 33,
  oc 24 (.call ⟨(.builtin .append), #[(.tmp 20), (.tmp 23)], #[33, 33]⟩) 33,
  op 25 (.nilCheck (.tmp 16)) 0,
  op 26 (.fieldAddr 90 (.tmp 25) 1) 0,
  ⟨none, (.store 33 (.tmp 26) (.tmp 24)), 0, "", #[⟨0, .chain⟩], none⟩]
def F56.r5 : List Oper := [
  op 27 (.move (.tmp 6)) 24,
  op 28 (.binOp .shr 24 (.tmp 27) (.const (.int .u64 8)) 42) 24,
  op 6 (.assign (.tmp 28)) 24]
def F56.r6 : List Oper := [
  op 29 (.binOp .add 3 (.tmp 14) (.const (.int .i64 1)) 3) 3,
  op 14 (.move (.tmp 29)) 3]
def F56.t6 : Cd := (.region 6 F56.r6.toArray false)
theorem F56.t6_eq {θ : Tag (F56.t6, Q, e, w)} : cwE P F56.t6 Q e w θ = cwE P (.region 6 F56.r6.toArray false) Q e w := rfl
def F56.t4 : Cd := (.seq (.block 1 (.seq (.region 4 F56.r4.toArray false) (.region 5 F56.r5.toArray false))) F56.t6)
theorem F56.t4_eq {θ : Tag (F56.t4, Q, e, w)} : cwE P F56.t4 Q e w θ = cwE P (.seq (.block 1 (.seq (.region 4 F56.r4.toArray false) (.region 5 F56.r5.toArray false))) F56.t6) Q e w := rfl
def F56.t1 : Cd := (.seq (.region 1 F56.r1.toArray false) (.seq (.region 2 F56.r2.toArray false) (.block 0 (.loop (.seq (.region 3 F56.r3.toArray false) (.seq (.cond (.tmp 15) .skip (.exit 0)) F56.t4))))))
theorem F56.t1_eq {θ : Tag (F56.t1, Q, e, w)} : cwE P F56.t1 Q e w θ = cwE P (.seq (.region 1 F56.r1.toArray false) (.seq (.region 2 F56.r2.toArray false) (.block 0 (.loop (.seq (.region 3 F56.r3.toArray false) (.seq (.cond (.tmp 15) .skip (.exit 0)) F56.t4)))))) Q e w := rfl
def F56.code : Cd := (.seq (.seq (.region 0 F56.r0.toArray false) (.cond (.tmp 10) .ret .skip)) F56.t1)
theorem F56.calls (hn : args.size ≤ 30) (h : cwE Tryz.prog F56.code (fnP Tryz.prog #[] R) (entry args) w) : Calls Tryz.prog 56 args w R :=
  calls_of_cwE (types := Tryz.prog.types) follows Tryz.func56 F56.code rfl (by kernel_rfl) hn h

def F57.r0 : List Oper := [
  op 7 (.move (.tmp 0)) 54,
  op 8 (.move (.tmp 2)) 3,
  oc 9 (.call ⟨(.value (.func 60)), #[(.tmp 7), (.tmp 8)], #[54, 3]⟩) 4,
  op 10 (.unOp .not 4 (.tmp 9)) 4]
def F57.r1 : List Oper := [
  op 11 (.move (.tmp 1)) 22,
  op 12 (.convert 22 24 (.tmp 11)) 24,
  op 6 (.assign (.tmp 12)) 24]
def F57.r2 : List Oper := [
  op 13 (.move (.tmp 2)) 3,
  op 14 (.move (.const (.int .i64 0))) 3]
def F57.r3 : List Oper := [
  op 15 (.binOp .lss 3 (.tmp 14) (.tmp 13) 3) 4]
def F57.r4 : List Oper := [
  op 16 (.move (.tmp 0)) 54,
  op 17 (.move (.tmp 0)) 54,
  op 18 (.nilCheck (.tmp 17)) 0,
  op 19 (.fieldAddr 90 (.tmp 18) 1) 0,
  od 20 (.load 33 (.tmp 19)) 33,
  op 21 (.move (.tmp 6)) 24,
  op 22 (.convert 24 5 (.tmp 21)) 5,
  oc 23 (.buildSlice 33 1 #[(0, (.tmp 22))]) 33,
  oc 24 (.call ⟨(.builtin .append), #[(.tmp 20), (.tmp 23)], #[33, 33]⟩) 33,
  op 25 (.nilCheck (.tmp 16)) 0,
  op 26 (.fieldAddr 90 (.tmp 25) 1) 0,
  ⟨none, (.store 33 (.tmp 26) (.tmp 24)), 0, "", #[⟨0, .chain⟩], none⟩]
def F57.r5 : List Oper := [
  op 27 (.move (.tmp 6)) 24,
  op 28 (.binOp .shr 24 (.tmp 27) (.const (.int .u64 8)) 42) 24,
  op 6 (.assign (.tmp 28)) 24]
def F57.r6 : List Oper := [
  op 29 (.binOp .add 3 (.tmp 14) (.const (.int .i64 1)) 3) 3,
  op 14 (.move (.tmp 29)) 3]
def F57.t6 : Cd := (.region 6 F57.r6.toArray false)
theorem F57.t6_eq {θ : Tag (F57.t6, Q, e, w)} : cwE P F57.t6 Q e w θ = cwE P (.region 6 F57.r6.toArray false) Q e w := rfl
def F57.t4 : Cd := (.seq (.block 1 (.seq (.region 4 F57.r4.toArray false) (.region 5 F57.r5.toArray false))) F57.t6)
theorem F57.t4_eq {θ : Tag (F57.t4, Q, e, w)} : cwE P F57.t4 Q e w θ = cwE P (.seq (.block 1 (.seq (.region 4 F57.r4.toArray false) (.region 5 F57.r5.toArray false))) F57.t6) Q e w := rfl
def F57.t1 : Cd := (.seq (.region 1 F57.r1.toArray false) (.seq (.region 2 F57.r2.toArray false) (.block 0 (.loop (.seq (.region 3 F57.r3.toArray false) (.seq (.cond (.tmp 15) .skip (.exit 0)) F57.t4))))))
theorem F57.t1_eq {θ : Tag (F57.t1, Q, e, w)} : cwE P F57.t1 Q e w θ = cwE P (.seq (.region 1 F57.r1.toArray false) (.seq (.region 2 F57.r2.toArray false) (.block 0 (.loop (.seq (.region 3 F57.r3.toArray false) (.seq (.cond (.tmp 15) .skip (.exit 0)) F57.t4)))))) Q e w := rfl
def F57.code : Cd := (.seq (.seq (.region 0 F57.r0.toArray false) (.cond (.tmp 10) .ret .skip)) F57.t1)
theorem F57.calls (hn : args.size ≤ 30) (h : cwE Tryz.prog F57.code (fnP Tryz.prog #[] R) (entry args) w) : Calls Tryz.prog 57 args w R :=
  calls_of_cwE (types := Tryz.prog.types) follows Tryz.func57 F57.code rfl (by kernel_rfl) hn h

def F58.r0 : List Oper := [
  op 4 (.assign (.const (.bool false))) 4]
def F58.r1 : List Oper := [
  op 5 (.move (.tmp 0)) 43,
  op 6 (.nilCheck (.tmp 5)) 0,
  op 7 (.fieldAddr 79 (.tmp 6) 3) 0,
  od 8 (.load 37 (.tmp 7)) 37,
  op 9 (.binOp .neq 37 (.tmp 8) (.const (.int .i64 0)) 37) 4]
def F58.r2 : List Oper := [
  op 4 (.assign (.const (.bool false))) 4]
def F58.r3 : List Oper := [
  ⟨(some 10), (.move (.tmp 1)), 3, "", #[], none⟩,
  ⟨(some 11), (.move (.tmp 0)), 43, "", #[], none⟩,
  ⟨(some 12), (.nilCheck (.tmp 11)), 0, "", #[], none⟩,
  ⟨(some 13), (.fieldAddr 79 (.tmp 12) 0), 0, "", #[], none⟩,
  ⟨(some 16), (.move (.tmp 0)), 43, "", #[], none⟩,
  ⟨(some 17), (.nilCheck (.tmp 16)), 0, "", #[], none⟩,
  ⟨(some 18), (.fieldAddr 79 (.tmp 17) 1), 0, "", #[], none⟩,
  ⟨(some 14), (.load 33 (.tmp 13)), 33, "", #[⟨0, .data⟩], none⟩,
  ⟨(some 15), (.call ⟨(.builtin .len), #[(.tmp 14)], #[33]⟩), 3, "", #[], none⟩,
  ⟨(some 19), (.load 3 (.tmp 18)), 3, "", #[⟨0, .data⟩], none⟩,
  ⟨(some 20), (.binOp .sub 3 (.tmp 15) (.tmp 19) 3), 3, "", #[], none⟩,
  ⟨(some 21), (.binOp .gtr 3 (.tmp 10) (.tmp 20) 3), 4, "", #[], none⟩]
def F58.r4 : List Oper := [
  op 22 (.move (.tmp 0)) 43,
  oc 23 (.call ⟨(.value (.func 33)), #[(.tmp 22), (.const (.int .i64 10)), (.const (.int .i64 0))], #[43, 37, 3]⟩) 0]
def F58.r5 : List Oper := [
  op 4 (.assign (.const (.bool false))) 4]
def F58.r6 : List Oper := [
  op 4 (.assign (.const (.bool true))) 4]
def F58.t6 : Cd := (.seq (.region 6 F58.r6.toArray false) .ret)
theorem F58.t6_eq {θ : Tag (F58.t6, Q, e, w)} : cwE P F58.t6 Q e w θ = cwE P (.seq (.region 6 F58.r6.toArray false) .ret) Q e w := rfl
def F58.t3 : Cd := (.seq (.seq (.region 3 F58.r3.toArray true) (.cond (.tmp 21) (.seq (.region 4 F58.r4.toArray false) (.seq (.region 5 F58.r5.toArray false) .ret)) .skip)) F58.t6)
theorem F58.t3_eq {θ : Tag (F58.t3, Q, e, w)} : cwE P F58.t3 Q e w θ = cwE P (.seq (.seq (.region 3 F58.r3.toArray true) (.cond (.tmp 21) (.seq (.region 4 F58.r4.toArray false) (.seq (.region 5 F58.r5.toArray false) .ret)) .skip)) F58.t6) Q e w := rfl
def F58.code : Cd := (.seq (.region 0 F58.r0.toArray false) (.seq (.seq (.region 1 F58.r1.toArray false) (.cond (.tmp 9) (.seq (.region 2 F58.r2.toArray false) .ret) .skip)) F58.t3))
theorem F58.calls (hn : args.size ≤ 24) (h : cwE Tryz.prog F58.code (fnP Tryz.prog #[(.tmp 4)] R) (entry args) w) : Calls Tryz.prog 58 args w R :=
  calls_of_cwE (types := Tryz.prog.types) follows Tryz.func58 F58.code rfl (by kernel_rfl) hn h

def F60.r0 : List Oper := [
  op 4 (.assign (.const (.bool false))) 4]
def F60.r1 : List Oper := [
  op 5 (.move (.tmp 0)) 54,
  op 6 (.nilCheck (.tmp 5)) 0,
  op 7 (.fieldAddr 90 (.tmp 6) 3) 0,
  od 8 (.load 37 (.tmp 7)) 37,
  op 9 (.binOp .neq 37 (.tmp 8) (.const (.int .i64 0)) 37) 4]
def F60.r2 : List Oper := [
  op 4 (.assign (.const (.bool false))) 4]
def F60.r3 : List Oper := [
  ⟨(some 10), (.move (.tmp 1)), 3, "", #[], none⟩,
  ⟨(some 11), (.move (.tmp 0)), 54, "", #[], none⟩,
  ⟨(some 12), (.nilCheck (.tmp 11)), 0, "", #[], none⟩,
  ⟨(some 13), (.fieldAddr 90 (.tmp 12) 0), 0, "", #[], none⟩,
  ⟨(some 15), (.move (.tmp 0)), 54, "", #[], none⟩,
  ⟨(some 16), (.nilCheck (.tmp 15)), 0, "", #[], none⟩,
  ⟨(some 17), (.fieldAddr 90 (.tmp 16) 1), 0, "", #[], none⟩,
  ⟨(some 14), (.load 3 (.tmp 13)), 3, "", #[⟨0, .data⟩], none⟩,
  ⟨(some 18), (.load 33 (.tmp 17)), 33, "", #[⟨0, .data⟩], none⟩,
  ⟨(some 19), (.call ⟨(.builtin .len), #[(.tmp 18)], #[33]⟩), 3, "", #[], none⟩,
  ⟨(some 20), (.binOp .sub 3 (.tmp 14) (.tmp 19) 3), 3, "", #[], none⟩,
  ⟨(some 21), (.binOp .gtr 3 (.tmp 10) (.tmp 20) 3), 4, "", #[], none⟩]
def F60.r4 : List Oper := [
  op 22 (.move (.tmp 0)) 54,
  op 23 (.nilCheck (.tmp 22)) 0,
  op 24 (.fieldAddr 90 (.tmp 23) 3) 0,
  ⟨none, (.store 37 (.tmp 24) (.const (.int .i64 11))), 0, "", #[⟨0, .chain⟩], none⟩]
def F60.r5 : List Oper := [
  op 4 (.assign (.const (.bool false))) 4]
def F60.r6 : List Oper := [
  op 4 (.assign (.const (.bool true))) 4]
def F60.t6 : Cd := (.seq (.region 6 F60.r6.toArray false) .ret)
theorem F60.t6_eq {θ : Tag (F60.t6, Q, e, w)} : cwE P F60.t6 Q e w θ = cwE P (.seq (.region 6 F60.r6.toArray false) .ret) Q e w := rfl
def F60.t3 : Cd := (.seq (.seq (.region 3 F60.r3.toArray true) (.cond (.tmp 21) (.seq (.region 4 F60.r4.toArray false) (.seq (.region 5 F60.r5.toArray false) .ret)) .skip)) F60.t6)
theorem F60.t3_eq {θ : Tag (F60.t3, Q, e, w)} : cwE P F60.t3 Q e w θ = cwE P (.seq (.seq (.region 3 F60.r3.toArray true) (.cond (.tmp 21) (.seq (.region 4 F60.r4.toArray false) (.seq (.region 5 F60.r5.toArray false) .ret)) .skip)) F60.t6) Q e w := rfl
def F60.code : Cd := (.seq (.region 0 F60.r0.toArray false) (.seq (.seq (.region 1 F60.r1.toArray false) (.cond (.tmp 9) (.seq (.region 2 F60.r2.toArray false) .ret) .skip)) F60.t3))
theorem F60.calls (hn : args.size ≤ 25) (h : cwE Tryz.prog F60.code (fnP Tryz.prog #[(.tmp 4)] R) (entry args) w) : Calls Tryz.prog 60 args w R :=
  calls_of_cwE (types := Tryz.prog.types) follows Tryz.func60 F60.code rfl (by kernel_rfl) hn h

def F61.r0 : List Oper := [
  op 7 (.move (.tmp 0)) 54,
  op 8 (.move (.tmp 2)) 3,
  oc 9 (.call ⟨(.value (.func 60)), #[(.tmp 7), (.tmp 8)], #[54, 3]⟩) 4,
  op 10 (.unOp .not 4 (.tmp 9)) 4]
def F61.r1 : List Oper := [
  op 11 (.move (.tmp 1)) 24,
  op 6 (.assign (.tmp 11)) 24]
def F61.r2 : List Oper := [
  op 12 (.move (.tmp 2)) 3,
  op 13 (.move (.const (.int .i64 0))) 3]
def F61.r3 : List Oper := [
  op 14 (.binOp .lss 3 (.tmp 13) (.tmp 12) 3) 4]
def F61.r4 : List Oper := [
  op 15 (.move (.tmp 0)) 54,
  op 16 (.move (.tmp 0)) 54,
  op 17 (.nilCheck (.tmp 16)) 0,
  op 18 (.fieldAddr 90 (.tmp 17) 1) 0,
  od 19 (.load 33 (.tmp 18)) 33,
  op 20 (.move (.tmp 6)) 24,
  op 21 (.convert 24 5 (.tmp 20)) 5,
  oc 22 (.buildSlice 33 1 #[(0, (.tmp 21))]) 33,
  oc 23 (.call ⟨(.builtin .append), #[(.tmp 19), (.tmp 22)], #[33, 33]⟩) 33,
  op 24 (.nilCheck (.tmp 15)) 0,
  op 25 (.fieldAddr 90 (.tmp 24) 1) 0,
  ⟨none, (.store 33 (.tmp 25) (.tmp 23)), 0, "", #[⟨0, .chain⟩], none⟩]
def F61.r5 : List Oper := [
  op 26 (.move (.tmp 6)) 24,
  op 27 (.binOp .shr 24 (.tmp 26) (.const (.int .u64 8)) 42) 24,
  op 6 (.assign (.tmp 27)) 24]
def F61.r6 : List Oper := [
  op 28 (.binOp .add 3 (.tmp 13) (.const (.int .i64 1)) 3) 3,
  op 13 (.move (.tmp 28)) 3]
def F61.t6 : Cd := (.region 6 F61.r6.toArray false)
theorem F61.t6_eq {θ : Tag (F61.t6, Q, e, w)} : cwE P F61.t6 Q e w θ = cwE P (.region 6 F61.r6.toArray false) Q e w := rfl
def F61.t4 : Cd := (.seq (.block 1 (.seq (.region 4 F61.r4.toArray false) (.region 5 F61.r5.toArray false))) F61.t6)
theorem F61.t4_eq {θ : Tag (F61.t4, Q, e, w)} : cwE P F61.t4 Q e w θ = cwE P (.seq (.block 1 (.seq (.region 4 F61.r4.toArray false) (.region 5 F61.r5.toArray false))) F61.t6) Q e w := rfl
def F61.t1 : Cd := (.seq (.region 1 F61.r1.toArray false) (.seq (.region 2 F61.r2.toArray false) (.block 0 (.loop (.seq (.region 3 F61.r3.toArray false) (.seq (.cond (.tmp 14) .skip (.exit 0)) F61.t4))))))
theorem F61.t1_eq {θ : Tag (F61.t1, Q, e, w)} : cwE P F61.t1 Q e w θ = cwE P (.seq (.region 1 F61.r1.toArray false) (.seq (.region 2 F61.r2.toArray false) (.block 0 (.loop (.seq (.region 3 F61.r3.toArray false) (.seq (.cond (.tmp 14) .skip (.exit 0)) F61.t4)))))) Q e w := rfl
def F61.code : Cd := (.seq (.seq (.region 0 F61.r0.toArray false) (.cond (.tmp 10) .ret .skip)) F61.t1)
theorem F61.calls (hn : args.size ≤ 29) (h : cwE Tryz.prog F61.code (fnP Tryz.prog #[] R) (entry args) w) : Calls Tryz.prog 61 args w R :=
  calls_of_cwE (types := Tryz.prog.types) follows Tryz.func61 F61.code rfl (by kernel_rfl) hn h

def F111.r0 : List Oper := [
  oc 2 (.alloc 72) 0]
def F111.r1 : List Oper := [
  op 3 (.move (.tmp 0)) 64]
def F111.r2 : List Oper := [
  op 5 (.binOp .eql 64 (.tmp 3) (.const (.int .u8 9)) 64) 4,
  op 4 (.assign (.tmp 5)) 4]
def F111.r3 : List Oper := [
  op 6 (.build 72 #[(0, (.const (.string { data := #[110, 97, 109, 101, 115] }))), (1, (.func 126)), (2, (.func 129)), (3, (.func 131)), (4, (.func 133)), (5, (.func 135)), (6, (.func 137))]) 72,
  ⟨none, (.store 72 (.tmp 2) (.tmp 6)), 0, "", #[⟨0, .chain⟩], none⟩]
def F111.r4 : List Oper := [
  op 8 (.binOp .eql 64 (.tmp 3) (.const (.int .u8 10)) 64) 4,
  op 7 (.assign (.tmp 8)) 4]
def F111.r5 : List Oper := [
  op 9 (.build 72 #[(0, (.const (.string { data := #[113, 105, 100, 115] }))), (1, (.func 139)), (2, (.func 140)), (3, (.func 143)), (4, (.func 146)), (5, (.func 148)), (6, (.func 150))]) 72,
  ⟨none, (.store 72 (.tmp 2) (.tmp 9)), 0, "", #[⟨0, .chain⟩], none⟩]
def F111.r6 : List Oper := [
  op 10 (.build 72 #[(0, (.const (.string { data := #[115, 116, 97, 116] }))), (1, (.func 152)), (2, (.func 153)), (3, (.func 155)), (4, (.func 157)), (5, (.func 158)), (6, (.func 160))]) 72,
  ⟨none, (.store 72 (.tmp 2) (.tmp 10)), 0, "", #[⟨0, .chain⟩], none⟩]
def F111.t6 : Cd := (.seq (.region 6 F111.r6.toArray false) .ret)
theorem F111.t6_eq {θ : Tag (F111.t6, Q, e, w)} : cwE P F111.t6 Q e w θ = cwE P (.seq (.region 6 F111.r6.toArray false) .ret) Q e w := rfl
def F111.code : Cd := (.seq (.region 0 F111.r0.toArray false) (.seq (.seq (.region 1 F111.r1.toArray false) (.block 0 (.seq (.region 2 F111.r2.toArray false) (.cond (.tmp 4) (.seq (.region 3 F111.r3.toArray false) .ret) (.seq (.region 4 F111.r4.toArray false) (.cond (.tmp 7) (.seq (.region 5 F111.r5.toArray false) .ret) .skip)))))) F111.t6))
theorem F111.calls (hn : args.size ≤ 11) (h : cwE Tryz.prog F111.code (fnP Tryz.prog #[(.cell 2 72)] R) (entry args) w) : Calls Tryz.prog 111 args w R :=
  calls_of_cwE (types := Tryz.prog.types) follows Tryz.func111 F111.code rfl (by kernel_rfl) hn h

def F152.r0 : List Oper := [
  op 2 (.assign (.const (.bool false))) 4]
def F152.r1 : List Oper := [
  op 3 (.move (.tmp 0)) 74,
  op 4 (.nilCheck (.tmp 3)) 0,
  op 5 (.fieldAddr 35 (.tmp 4) 21) 0,
  op 6 (.fieldAddr 28 (.tmp 5) 7) 0,
  od 7 (.load 9 (.tmp 6)) 9,
  oc 8 (.call ⟨(.value (.func 18)), #[(.tmp 7)], #[9]⟩) 4,
  op 9 (.move (.tmp 8)) 4,
  ⟨(some 10), (.move (.tmp 0)), 74, "", #[], (some (9, true))⟩,
  ⟨(some 11), (.nilCheck (.tmp 10)), 0, "", #[], (some (9, true))⟩,
  ⟨(some 12), (.fieldAddr 35 (.tmp 11) 21), 0, "", #[], (some (9, true))⟩,
  ⟨(some 13), (.fieldAddr 28 (.tmp 12) 8), 0, "", #[], (some (9, true))⟩,
  ⟨(some 14), (.load 9 (.tmp 13)), 9, "", #[⟨0, .data⟩], (some (9, true))⟩,
  ⟨(some 15), (.call ⟨(.value (.func 18)), #[(.tmp 14)], #[9]⟩), 4, "", #[⟨0, .chain⟩], (some (9, true))⟩,
  op 16 (.pick (.tmp 9) (.tmp 15) (.const (.bool false))) 4,
  op 17 (.move (.tmp 16)) 4,
  ⟨(some 18), (.move (.tmp 0)), 74, "", #[], (some (17, true))⟩,
  ⟨(some 19), (.nilCheck (.tmp 18)), 0, "", #[], (some (17, true))⟩,
  ⟨(some 20), (.fieldAddr 35 (.tmp 19) 21), 0, "", #[], (some (17, true))⟩,
  ⟨(some 21), (.fieldAddr 28 (.tmp 20) 9), 0, "", #[], (some (17, true))⟩,
  ⟨(some 22), (.load 9 (.tmp 21)), 9, "", #[⟨0, .data⟩], (some (17, true))⟩,
  ⟨(some 23), (.call ⟨(.value (.func 18)), #[(.tmp 22)], #[9]⟩), 4, "", #[⟨0, .chain⟩], (some (17, true))⟩,
  op 24 (.pick (.tmp 17) (.tmp 23) (.const (.bool false))) 4,
  op 25 (.move (.tmp 24)) 4,
  ⟨(some 26), (.move (.tmp 0)), 74, "", #[], (some (25, true))⟩,
  ⟨(some 27), (.nilCheck (.tmp 26)), 0, "", #[], (some (25, true))⟩,
  ⟨(some 28), (.fieldAddr 35 (.tmp 27) 21), 0, "", #[], (some (25, true))⟩,
  ⟨(some 29), (.fieldAddr 28 (.tmp 28) 10), 0, "", #[], (some (25, true))⟩,
  ⟨(some 30), (.load 9 (.tmp 29)), 9, "", #[⟨0, .data⟩], (some (25, true))⟩,
  ⟨(some 31), (.call ⟨(.value (.func 18)), #[(.tmp 30)], #[9]⟩), 4, "", #[⟨0, .chain⟩], (some (25, true))⟩,
  op 32 (.pick (.tmp 25) (.tmp 31) (.const (.bool false))) 4,
  op 2 (.assign (.tmp 32)) 4]
def F152.code : Cd := (.seq (.region 0 F152.r0.toArray false) (.seq (.region 1 F152.r1.toArray false) .ret))
theorem F152.calls (hn : args.size ≤ 33) (h : cwE Tryz.prog F152.code (fnP Tryz.prog #[(.tmp 2)] R) (entry args) w) : Calls Tryz.prog 152 args w R :=
  calls_of_cwE (types := Tryz.prog.types) follows Tryz.func152 F152.code rfl (by kernel_rfl) hn h

def F153.r0 : List Oper := [
  op 4 (.move (.tmp 0)) 54,
  op 5 (.move (.tmp 1)) 74,
  op 6 (.nilCheck (.tmp 5)) 0,
  op 7 (.fieldAddr 35 (.tmp 6) 21) 0,
  od 8 (.load 28 (.tmp 7)) 28,
  oc 9 (.call ⟨(.value (.func 154)), #[(.tmp 4), (.tmp 8)], #[54, 28]⟩) 0]
def F153.code : Cd := (.region 0 F153.r0.toArray false)
theorem F153.calls (hn : args.size ≤ 10) (h : cwE Tryz.prog F153.code (fnP Tryz.prog #[] R) (entry args) w) : Calls Tryz.prog 153 args w R :=
  calls_of_cwE (types := Tryz.prog.types) follows Tryz.func153 F153.code rfl (by kernel_rfl) hn h

def F154.r0 : List Oper := [
  oc 3 (.box 28 (.tmp 1)) 0]
def F154.r1 : List Oper := [
  op 5 (.move (.tmp 0)) 54,
  oc 6 (.call ⟨(.value (.func 34)), #[(.tmp 5)], #[54]⟩) 3,
  op 4 (.assign (.tmp 6)) 3]
def F154.r2 : List Oper := [
  op 7 (.move (.tmp 0)) 54,
  od 8 (.load 28 (.tmp 3)) 28,
  oc 9 (.call ⟨(.value (.func 20)), #[(.tmp 7), (.tmp 8)], #[54, 28]⟩) 0]
def F154.r3 : List Oper := [
  op 10 (.move (.tmp 0)) 54,
  op 11 (.move (.tmp 4)) 3,
  oc 12 (.call ⟨(.value (.func 38)), #[(.tmp 10), (.tmp 11)], #[54, 3]⟩) 0]
def F154.code : Cd := (.seq (.region 0 F154.r0.toArray false) (.seq (.region 1 F154.r1.toArray false) (.seq (.region 2 F154.r2.toArray false) (.region 3 F154.r3.toArray false))))
theorem F154.calls (hn : args.size ≤ 13) (h : cwE Tryz.prog F154.code (fnP Tryz.prog #[] R) (entry args) w) : Calls Tryz.prog 154 args w R :=
  calls_of_cwE (types := Tryz.prog.types) follows Tryz.func154 F154.code rfl (by kernel_rfl) hn h

attribute [go_sem] fact_aggSz_22
attribute [go_sem] fact_aggSz_23
attribute [go_sem] fact_aggSz_24
attribute [go_sem] fact_aggSz_26
attribute [go_sem] fact_aggSz_28
attribute [go_sem] fact_aggSz_3
attribute [go_sem] fact_aggSz_30
attribute [go_sem] fact_aggSz_31
attribute [go_sem] fact_aggSz_32
attribute [go_sem] fact_aggSz_33
attribute [go_sem] fact_aggSz_35
attribute [go_sem] fact_aggSz_37
attribute [go_sem] fact_aggSz_5
attribute [go_sem] fact_aggSz_59
attribute [go_sem] fact_aggSz_61
attribute [go_sem] fact_aggSz_64
attribute [go_sem] fact_aggSz_65
attribute [go_sem] fact_aggSz_66
attribute [go_sem] fact_aggSz_72
attribute [go_sem] fact_aggSz_88
attribute [go_sem] fact_aggSz_9
attribute [go_sem] fact_bldP_28
attribute [go_sem] fact_bldP_35
attribute [go_sem] fact_bldP_61
attribute [go_sem] fact_bldP_72
attribute [go_sem] fact_bldP_79
attribute [go_sem] fact_bldP_90
attribute [go_sem] fact_elemOf_31
attribute [go_sem] fact_elemOf_33
attribute [go_sem] fact_elemOf_59
attribute [go_sem] fact_elemOf_88
attribute [go_sem] fact_elemOf_9
attribute [go_sem] fact_elemOf_96
attribute [go_sem] fact_fieldOff_26_0
attribute [go_sem] fact_fieldOff_26_1
attribute [go_sem] fact_fieldOff_26_2
attribute [go_sem] fact_fieldOff_28_0
attribute [go_sem] fact_fieldOff_28_1
attribute [go_sem] fact_fieldOff_28_10
attribute [go_sem] fact_fieldOff_28_2
attribute [go_sem] fact_fieldOff_28_3
attribute [go_sem] fact_fieldOff_28_4
attribute [go_sem] fact_fieldOff_28_5
attribute [go_sem] fact_fieldOff_28_6
attribute [go_sem] fact_fieldOff_28_7
attribute [go_sem] fact_fieldOff_28_8
attribute [go_sem] fact_fieldOff_28_9
attribute [go_sem] fact_fieldOff_35_0
attribute [go_sem] fact_fieldOff_35_1
attribute [go_sem] fact_fieldOff_35_11
attribute [go_sem] fact_fieldOff_35_12
attribute [go_sem] fact_fieldOff_35_16
attribute [go_sem] fact_fieldOff_35_20
attribute [go_sem] fact_fieldOff_35_21
attribute [go_sem] fact_fieldOff_35_3
attribute [go_sem] fact_fieldOff_35_5
attribute [go_sem] fact_fieldOff_35_6
attribute [go_sem] fact_fieldOff_35_7
attribute [go_sem] fact_fieldOff_61_0
attribute [go_sem] fact_fieldOff_61_2
attribute [go_sem] fact_fieldOff_79_0
attribute [go_sem] fact_fieldOff_79_1
attribute [go_sem] fact_fieldOff_79_2
attribute [go_sem] fact_fieldOff_79_3
attribute [go_sem] fact_fieldOff_79_4
attribute [go_sem] fact_fieldOff_90_0
attribute [go_sem] fact_fieldOff_90_1
attribute [go_sem] fact_fieldOff_90_2
attribute [go_sem] fact_fieldOff_90_3
attribute [go_sem] fact_fieldTy_72_1
attribute [go_sem] fact_fieldTy_72_2
attribute [go_sem] fact_fnOk_10
attribute [go_sem] fact_fnOk_11
attribute [go_sem] fact_fnOk_111
attribute [go_sem] fact_fnOk_12
attribute [go_sem] fact_fnOk_13
attribute [go_sem] fact_fnOk_14
attribute [go_sem] fact_fnOk_15
attribute [go_sem] fact_fnOk_154
attribute [go_sem] fact_fnOk_16
attribute [go_sem] fact_fnOk_17
attribute [go_sem] fact_fnOk_18
attribute [go_sem] fact_fnOk_19
attribute [go_sem] fact_fnOk_20
attribute [go_sem] fact_fnOk_21
attribute [go_sem] fact_fnOk_22
attribute [go_sem] fact_fnOk_23
attribute [go_sem] fact_fnOk_24
attribute [go_sem] fact_fnOk_25
attribute [go_sem] fact_fnOk_26
attribute [go_sem] fact_fnOk_27
attribute [go_sem] fact_fnOk_28
attribute [go_sem] fact_fnOk_29
attribute [go_sem] fact_fnOk_30
attribute [go_sem] fact_fnOk_31
attribute [go_sem] fact_fnOk_32
attribute [go_sem] fact_fnOk_33
attribute [go_sem] fact_fnOk_34
attribute [go_sem] fact_fnOk_35
attribute [go_sem] fact_fnOk_36
attribute [go_sem] fact_fnOk_37
attribute [go_sem] fact_fnOk_38
attribute [go_sem] fact_fnOk_39
attribute [go_sem] fact_fnOk_4
attribute [go_sem] fact_fnOk_40
attribute [go_sem] fact_fnOk_48
attribute [go_sem] fact_fnOk_5
attribute [go_sem] fact_fnOk_54
attribute [go_sem] fact_fnOk_55
attribute [go_sem] fact_fnOk_56
attribute [go_sem] fact_fnOk_57
attribute [go_sem] fact_fnOk_58
attribute [go_sem] fact_fnOk_59
attribute [go_sem] fact_fnOk_6
attribute [go_sem] fact_fnOk_60
attribute [go_sem] fact_fnOk_61
attribute [go_sem] fact_fnOk_7
attribute [go_sem] fact_fnOk_8
attribute [go_sem] fact_fnOk_9
attribute [go_sem] fact_szO_3
attribute [go_sem] fact_szO_33
attribute [go_sem] fact_szO_37
attribute [go_sem] fact_szO_5
attribute [go_sem] fact_szO_61
attribute [go_sem] fact_szO_72
attribute [go_sem] fact_szO_88
attribute [go_sem] fact_zeroV_61
attribute [go_sem] fact_zeroV_72
attribute [go_sem] Tryz.underlying3
attribute [go_sem] Tryz.underlying4
attribute [go_sem] Tryz.underlying5
attribute [go_sem] Tryz.underlying9
attribute [go_sem] Tryz.underlying22
attribute [go_sem] Tryz.underlying23
attribute [go_sem] Tryz.underlying24
attribute [go_sem] Tryz.underlying31
attribute [go_sem] Tryz.underlying32
attribute [go_sem] Tryz.underlying33
attribute [go_sem] Tryz.underlying43
attribute [go_sem] Tryz.underlying54
attribute [go_sem] Tryz.underlying59
attribute [go_sem] Tryz.underlying88
attribute [go_sem] Tryz.underlying96
attribute [go_sem] F3.r0
attribute [go_sem] F3.r1
attribute [go_sem] F3.r2
attribute [go_sem] F3.r3
attribute [go_sem] F3.r4
attribute [go_sem] F3.r5
attribute [go_sem] F3.r6
attribute [go_sem] F3.r7
attribute [go_sem] F3.r8
attribute [go_sem] F3.r9
attribute [go_sem] F3.r10
attribute [go_sem] F3.r11
attribute [go_sem] F3.r12
attribute [go_sem] F3.r13
attribute [go_sem] F3.r14
attribute [go_sem] F3.r15
attribute [go_sem] F3.r16
attribute [go_sem] F3.r17
attribute [go_sem] F3.r18
attribute [go_sem] F4.r0
attribute [go_sem] F4.r1
attribute [go_sem] F4.r2
attribute [go_sem] F4.r3
attribute [go_sem] F4.r4
attribute [go_sem] F4.r6
attribute [go_sem] F4.r5
attribute [go_sem] F4.r7
attribute [go_sem] F5.r0
attribute [go_sem] F5.r1
attribute [go_sem] F6.r0
attribute [go_sem] F6.r1
attribute [go_sem] F6.r2
attribute [go_sem] F6.r3
attribute [go_sem] F6.r4
attribute [go_sem] F6.r5
attribute [go_sem] F6.r6
attribute [go_sem] F6.r7
attribute [go_sem] F6.r8
attribute [go_sem] F6.r9
attribute [go_sem] F6.r10
attribute [go_sem] F6.r11
attribute [go_sem] F6.r12
attribute [go_sem] F6.r13
attribute [go_sem] F6.r14
attribute [go_sem] F6.r15
attribute [go_sem] F7.r0
attribute [go_sem] F7.r1
attribute [go_sem] F7.r2
attribute [go_sem] F7.r3
attribute [go_sem] F7.r4
attribute [go_sem] F7.r5
attribute [go_sem] F7.r6
attribute [go_sem] F7.r7
attribute [go_sem] F7.r8
attribute [go_sem] F7.r9
attribute [go_sem] F7.r10
attribute [go_sem] F7.r11
attribute [go_sem] F7.r12
attribute [go_sem] F7.r13
attribute [go_sem] F7.r14
attribute [go_sem] F7.r15
attribute [go_sem] F7.r16
attribute [go_sem] F7.r17
attribute [go_sem] F7.r18
attribute [go_sem] F7.r19
attribute [go_sem] F7.r20
attribute [go_sem] F7.r21
attribute [go_sem] F7.r22
attribute [go_sem] F7.r23
attribute [go_sem] F7.r24
attribute [go_sem] F7.r25
attribute [go_sem] F7.r26
attribute [go_sem] F7.r27
attribute [go_sem] F7.r28
attribute [go_sem] F7.r29
attribute [go_sem] F8.r0
attribute [go_sem] F8.r1
attribute [go_sem] F8.r2
attribute [go_sem] F9.r0
attribute [go_sem] F9.r1
attribute [go_sem] F9.r2
attribute [go_sem] F9.r3
attribute [go_sem] F9.r4
attribute [go_sem] F9.r6
attribute [go_sem] F9.r7
attribute [go_sem] F9.r5
attribute [go_sem] F9.r8
attribute [go_sem] F10.r0
attribute [go_sem] F10.r1
attribute [go_sem] F11.r0
attribute [go_sem] F11.r1
attribute [go_sem] F12.r0
attribute [go_sem] F12.r1
attribute [go_sem] F13.r0
attribute [go_sem] F13.r1
attribute [go_sem] F14.r0
attribute [go_sem] F14.r1
attribute [go_sem] F15.r0
attribute [go_sem] F15.r1
attribute [go_sem] F15.r2
attribute [go_sem] F15.r3
attribute [go_sem] F15.r4
attribute [go_sem] F15.r5
attribute [go_sem] F15.r6
attribute [go_sem] F15.r7
attribute [go_sem] F15.r8
attribute [go_sem] F15.r9
attribute [go_sem] F15.r10
attribute [go_sem] F16.r0
attribute [go_sem] F16.r1
attribute [go_sem] F17.r0
attribute [go_sem] F17.r1
attribute [go_sem] F18.r0
attribute [go_sem] F18.r1
attribute [go_sem] F19.r0
attribute [go_sem] F19.r1
attribute [go_sem] F19.r2
attribute [go_sem] F19.r3
attribute [go_sem] F20.r0
attribute [go_sem] F20.r1
attribute [go_sem] F20.r2
attribute [go_sem] F20.r3
attribute [go_sem] F20.r4
attribute [go_sem] F20.r5
attribute [go_sem] F20.r6
attribute [go_sem] F20.r7
attribute [go_sem] F20.r8
attribute [go_sem] F20.r9
attribute [go_sem] F20.r10
attribute [go_sem] F20.r11
attribute [go_sem] F20.r12
attribute [go_sem] F20.r13
attribute [go_sem] F20.r14
attribute [go_sem] F20.r15
attribute [go_sem] F21.r0
attribute [go_sem] F21.r1
attribute [go_sem] F21.r2
attribute [go_sem] F21.r3
attribute [go_sem] F21.r4
attribute [go_sem] F21.r5
attribute [go_sem] F22.r0
attribute [go_sem] F22.r1
attribute [go_sem] F22.r2
attribute [go_sem] F22.r3
attribute [go_sem] F22.r4
attribute [go_sem] F22.r5
attribute [go_sem] F22.r6
attribute [go_sem] F22.r7
attribute [go_sem] F23.r0
attribute [go_sem] F23.r1
attribute [go_sem] F23.r2
attribute [go_sem] F23.r3
attribute [go_sem] F23.r4
attribute [go_sem] F23.r5
attribute [go_sem] F23.r6
attribute [go_sem] F23.r7
attribute [go_sem] F23.r8
attribute [go_sem] F23.r9
attribute [go_sem] F23.r10
attribute [go_sem] F23.r11
attribute [go_sem] F23.r12
attribute [go_sem] F23.r13
attribute [go_sem] F23.r14
attribute [go_sem] F23.r15
attribute [go_sem] F23.r16
attribute [go_sem] F23.r17
attribute [go_sem] F23.r18
attribute [go_sem] F23.r19
attribute [go_sem] F23.r20
attribute [go_sem] F23.r21
attribute [go_sem] F23.r22
attribute [go_sem] F23.r23
attribute [go_sem] F23.r24
attribute [go_sem] F23.r25
attribute [go_sem] F23.r26
attribute [go_sem] F24.r0
attribute [go_sem] F25.r0
attribute [go_sem] F26.r0
attribute [go_sem] F27.r0
attribute [go_sem] F27.r1
attribute [go_sem] F27.r2
attribute [go_sem] F27.r3
attribute [go_sem] F27.r4
attribute [go_sem] F27.r5
attribute [go_sem] F27.r6
attribute [go_sem] F27.r7
attribute [go_sem] F27.r8
attribute [go_sem] F27.r9
attribute [go_sem] F27.r10
attribute [go_sem] F28.r0
attribute [go_sem] F28.r1
attribute [go_sem] F28.r2
attribute [go_sem] F28.r3
attribute [go_sem] F28.r4
attribute [go_sem] F28.r5
attribute [go_sem] F28.r6
attribute [go_sem] F28.r7
attribute [go_sem] F28.r8
attribute [go_sem] F28.r9
attribute [go_sem] F28.r10
attribute [go_sem] F29.r0
attribute [go_sem] F29.r1
attribute [go_sem] F29.r2
attribute [go_sem] F29.r3
attribute [go_sem] F29.r4
attribute [go_sem] F29.r5
attribute [go_sem] F29.r6
attribute [go_sem] F29.r7
attribute [go_sem] F29.r8
attribute [go_sem] F29.r9
attribute [go_sem] F29.r10
attribute [go_sem] F30.r0
attribute [go_sem] F30.r1
attribute [go_sem] F30.r2
attribute [go_sem] F30.r3
attribute [go_sem] F30.r4
attribute [go_sem] F30.r5
attribute [go_sem] F30.r6
attribute [go_sem] F30.r7
attribute [go_sem] F30.r8
attribute [go_sem] F30.r9
attribute [go_sem] F30.r10
attribute [go_sem] F31.r0
attribute [go_sem] F31.r1
attribute [go_sem] F31.r2
attribute [go_sem] F31.r3
attribute [go_sem] F31.r4
attribute [go_sem] F32.r0
attribute [go_sem] F32.r1
attribute [go_sem] F32.r2
attribute [go_sem] F32.r3
attribute [go_sem] F32.r4
attribute [go_sem] F32.r5
attribute [go_sem] F32.r6
attribute [go_sem] F32.r7
attribute [go_sem] F32.r8
attribute [go_sem] F32.r9
attribute [go_sem] F32.r10
attribute [go_sem] F33.r0
attribute [go_sem] F33.r1
attribute [go_sem] F34.r0
attribute [go_sem] F34.r1
attribute [go_sem] F34.r2
attribute [go_sem] F34.r3
attribute [go_sem] F34.r4
attribute [go_sem] F34.r5
attribute [go_sem] F34.r6
attribute [go_sem] F35.r0
attribute [go_sem] F35.r1
attribute [go_sem] F35.r2
attribute [go_sem] F35.r3
attribute [go_sem] F35.r4
attribute [go_sem] F36.r0
attribute [go_sem] F37.r0
attribute [go_sem] F37.r1
attribute [go_sem] F37.r2
attribute [go_sem] F37.r3
attribute [go_sem] F37.r4
attribute [go_sem] F37.r5
attribute [go_sem] F37.r6
attribute [go_sem] F37.r7
attribute [go_sem] F38.r0
attribute [go_sem] F38.r1
attribute [go_sem] F38.r2
attribute [go_sem] F38.r3
attribute [go_sem] F38.r4
attribute [go_sem] F38.r5
attribute [go_sem] F38.r6
attribute [go_sem] F38.r7
attribute [go_sem] F38.r8
attribute [go_sem] F38.r9
attribute [go_sem] F39.r0
attribute [go_sem] F39.r1
attribute [go_sem] F54.r0
attribute [go_sem] F54.r1
attribute [go_sem] F54.r2
attribute [go_sem] F54.r3
attribute [go_sem] F54.r4
attribute [go_sem] F54.r5
attribute [go_sem] F54.r6
attribute [go_sem] F54.r7
attribute [go_sem] F54.r8
attribute [go_sem] F54.r9
attribute [go_sem] F54.r10
attribute [go_sem] F54.r11
attribute [go_sem] F54.r12
attribute [go_sem] F55.r0
attribute [go_sem] F55.r1
attribute [go_sem] F55.r2
attribute [go_sem] F55.r3
attribute [go_sem] F55.r4
attribute [go_sem] F55.r5
attribute [go_sem] F55.r6
attribute [go_sem] F56.r0
attribute [go_sem] F56.r1
attribute [go_sem] F56.r2
attribute [go_sem] F56.r3
attribute [go_sem] F56.r4
attribute [go_sem] F56.r5
attribute [go_sem] F56.r6
attribute [go_sem] F57.r0
attribute [go_sem] F57.r1
attribute [go_sem] F57.r2
attribute [go_sem] F57.r3
attribute [go_sem] F57.r4
attribute [go_sem] F57.r5
attribute [go_sem] F57.r6
attribute [go_sem] F58.r0
attribute [go_sem] F58.r1
attribute [go_sem] F58.r2
attribute [go_sem] F58.r3
attribute [go_sem] F58.r4
attribute [go_sem] F58.r5
attribute [go_sem] F58.r6
attribute [go_sem] F60.r0
attribute [go_sem] F60.r1
attribute [go_sem] F60.r2
attribute [go_sem] F60.r3
attribute [go_sem] F60.r4
attribute [go_sem] F60.r5
attribute [go_sem] F60.r6
attribute [go_sem] F61.r0
attribute [go_sem] F61.r1
attribute [go_sem] F61.r2
attribute [go_sem] F61.r3
attribute [go_sem] F61.r4
attribute [go_sem] F61.r5
attribute [go_sem] F61.r6
attribute [go_sem] F111.r0
attribute [go_sem] F111.r1
attribute [go_sem] F111.r2
attribute [go_sem] F111.r3
attribute [go_sem] F111.r4
attribute [go_sem] F111.r5
attribute [go_sem] F111.r6
attribute [go_sem] F152.r0
attribute [go_sem] F152.r1
attribute [go_sem] F153.r0
attribute [go_sem] F154.r0
attribute [go_sem] F154.r1
attribute [go_sem] F154.r2
attribute [go_sem] F154.r3

end Go.Proofs.YtonajgmamdeohaaGreatDoor

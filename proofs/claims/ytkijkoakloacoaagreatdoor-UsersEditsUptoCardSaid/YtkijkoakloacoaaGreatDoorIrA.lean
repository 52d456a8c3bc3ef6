/- The compiled code of the functions, by program (genir.py): each with the theorem that it is what the engine makes of the loaded program's. -/
import Derived.Test.YtkijkoakloacoaaGreatDoorSl2
import Derived.Test.YtkijkoakloacoaaGreatDoorProg
namespace Go.Proofs.YtkijkoakloacoaaGreatDoor
open Go
set_option maxRecDepth 100000
variable {P : Program} {Q : Post} {e : FA} {w : World} {args : Array Value} {R : Ending → World → Prop}

abbrev op (d : Nat) (o : Op) (T : TypeId) : Oper := ⟨some d, o, T, "", #[], none⟩
abbrev od (d : Nat) (o : Op) (T : TypeId) : Oper := ⟨some d, o, T, "", #[⟨0, .data⟩], none⟩
abbrev oc (d : Nat) (o : Op) (T : TypeId) : Oper := ⟨some d, o, T, "", #[⟨0, .chain⟩], none⟩
theorem follows : Tryz.prog.follows .mixedOrders = true := by kernel_rfl

theorem fact_aggSz_112 : aggSz Tryz.prog 112 = some none := by kernel_rfl
theorem fact_aggSz_22 : aggSz Tryz.prog 22 = some none := by kernel_rfl
theorem fact_aggSz_25 : aggSz Tryz.prog 25 = some none := by kernel_rfl
theorem fact_aggSz_26 : aggSz Tryz.prog 26 = some none := by kernel_rfl
theorem fact_aggSz_29 : aggSz Tryz.prog 29 = some none := by kernel_rfl
theorem fact_aggSz_3 : aggSz Tryz.prog 3 = some none := by kernel_rfl
theorem fact_aggSz_32 : aggSz Tryz.prog 32 = some none := by kernel_rfl
theorem fact_aggSz_33 : aggSz Tryz.prog 33 = some none := by kernel_rfl
theorem fact_aggSz_38 : aggSz Tryz.prog 38 = some none := by kernel_rfl
theorem fact_aggSz_64 : aggSz Tryz.prog 64 = some none := by kernel_rfl
theorem fact_aggSz_65 : aggSz Tryz.prog 65 = some none := by kernel_rfl
theorem fact_aggSz_68 : aggSz Tryz.prog 68 = some none := by kernel_rfl
theorem fact_aggSz_72 : aggSz Tryz.prog 72 = some (some 4) := by kernel_rfl
theorem fact_aggSz_9 : aggSz Tryz.prog 9 = some none := by kernel_rfl
theorem fact_arrEx_9 : arrEx Tryz.prog 9 = (0, none) := by kernel_rfl
theorem fact_bldP_102 : bldP Tryz.prog 102 = some ([.string ⟨#[]⟩, .string ⟨#[]⟩], some [(0, 1), (1, 1)], 0) := by kernel_rfl
theorem fact_bldP_104 : bldP Tryz.prog 104 = some ([.int .i64 0], some [(0, 1)], 0) := by kernel_rfl
theorem fact_bldP_35 : bldP Tryz.prog 35 = some ([.slice none 0 0, .slice none 0 0, .slice none 0 0, .slice none 0 0, .slice none 0 0, .slice none 0 0], some [(0, 1), (1, 1), (2, 1), (3, 1), (4, 1), (5, 1)], 0) := by kernel_rfl
theorem fact_bldP_67 : bldP Tryz.prog 67 = some ([.slice none 0 0, .map none, .map none], some [(0, 1), (1, 1), (2, 1)], 0) := by kernel_rfl
theorem fact_bldP_72 : bldP Tryz.prog 72 = some ([.string ⟨#[]⟩, .string ⟨#[]⟩, .slice none 0 0, .string ⟨#[]⟩], some [(0, 1), (1, 1), (2, 1), (3, 1)], 0) := by kernel_rfl
theorem fact_bldP_84 : bldP Tryz.prog 84 = some ([.slice none 0 0], some [(0, 1)], 0) := by kernel_rfl
theorem fact_elemOf_22 : elemOf? Tryz.prog 22 = some (none, 1) := by kernel_rfl
theorem fact_elemOf_33 : elemOf? Tryz.prog 33 = some (none, 1) := by kernel_rfl
theorem fact_elemOf_38 : elemOf? Tryz.prog 38 = some (none, 4) := by kernel_rfl
theorem fact_elemOf_48 : elemOf? Tryz.prog 48 = some (none, 2) := by kernel_rfl
theorem fact_elemOf_51 : elemOf? Tryz.prog 51 = some (none, 1) := by kernel_rfl
theorem fact_elemOf_52 : elemOf? Tryz.prog 52 = some (none, 1) := by kernel_rfl
theorem fact_elemOf_68 : elemOf? Tryz.prog 68 = some (none, 1) := by kernel_rfl
theorem fact_elemOf_9 : elemOf? Tryz.prog 9 = none := by kernel_rfl
theorem fact_fieldOff_104_0 : fieldOff Tryz.prog 104 0 = some 0 := by kernel_rfl
theorem fact_fieldOff_114_1 : fieldOff Tryz.prog 114 1 = some 1 := by kernel_rfl
theorem fact_fieldOff_35_0 : fieldOff Tryz.prog 35 0 = some 0 := by kernel_rfl
theorem fact_fieldOff_35_1 : fieldOff Tryz.prog 35 1 = some 1 := by kernel_rfl
theorem fact_fieldOff_35_2 : fieldOff Tryz.prog 35 2 = some 2 := by kernel_rfl
theorem fact_fieldOff_35_3 : fieldOff Tryz.prog 35 3 = some 3 := by kernel_rfl
theorem fact_fieldOff_35_4 : fieldOff Tryz.prog 35 4 = some 4 := by kernel_rfl
theorem fact_fieldOff_35_5 : fieldOff Tryz.prog 35 5 = some 5 := by kernel_rfl
theorem fact_fieldOff_50_0 : fieldOff Tryz.prog 50 0 = some 0 := by kernel_rfl
theorem fact_fieldOff_50_1 : fieldOff Tryz.prog 50 1 = some 1 := by kernel_rfl
theorem fact_fieldOff_67_0 : fieldOff Tryz.prog 67 0 = some 0 := by kernel_rfl
theorem fact_fieldOff_67_1 : fieldOff Tryz.prog 67 1 = some 1 := by kernel_rfl
theorem fact_fieldOff_67_2 : fieldOff Tryz.prog 67 2 = some 2 := by kernel_rfl
theorem fact_fieldOff_72_0 : fieldOff Tryz.prog 72 0 = some 0 := by kernel_rfl
theorem fact_fieldOff_72_1 : fieldOff Tryz.prog 72 1 = some 1 := by kernel_rfl
theorem fact_fieldOff_72_2 : fieldOff Tryz.prog 72 2 = some 2 := by kernel_rfl
theorem fact_fieldOff_72_3 : fieldOff Tryz.prog 72 3 = some 3 := by kernel_rfl
theorem fact_fieldOff_84_0 : fieldOff Tryz.prog 84 0 = some 0 := by kernel_rfl
theorem fact_fnOk_10 : fnOk Tryz.prog 10 = true := by kernel_rfl
theorem fact_fnOk_11 : fnOk Tryz.prog 11 = true := by kernel_rfl
theorem fact_fnOk_111 : fnOk Tryz.prog 111 = true := by kernel_rfl
theorem fact_fnOk_116 : fnOk Tryz.prog 116 = true := by kernel_rfl
theorem fact_fnOk_117 : fnOk Tryz.prog 117 = true := by kernel_rfl
theorem fact_fnOk_118 : fnOk Tryz.prog 118 = true := by kernel_rfl
theorem fact_fnOk_120 : fnOk Tryz.prog 120 = true := by kernel_rfl
theorem fact_fnOk_131 : fnOk Tryz.prog 131 = true := by kernel_rfl
theorem fact_fnOk_18 : fnOk Tryz.prog 18 = true := by kernel_rfl
theorem fact_fnOk_19 : fnOk Tryz.prog 19 = true := by kernel_rfl
theorem fact_fnOk_20 : fnOk Tryz.prog 20 = true := by kernel_rfl
theorem fact_fnOk_21 : fnOk Tryz.prog 21 = true := by kernel_rfl
theorem fact_fnOk_22 : fnOk Tryz.prog 22 = true := by kernel_rfl
theorem fact_fnOk_23 : fnOk Tryz.prog 23 = true := by kernel_rfl
theorem fact_fnOk_24 : fnOk Tryz.prog 24 = true := by kernel_rfl
theorem fact_fnOk_25 : fnOk Tryz.prog 25 = true := by kernel_rfl
theorem fact_fnOk_26 : fnOk Tryz.prog 26 = true := by kernel_rfl
theorem fact_fnOk_27 : fnOk Tryz.prog 27 = true := by kernel_rfl
theorem fact_fnOk_28 : fnOk Tryz.prog 28 = true := by kernel_rfl
theorem fact_fnOk_29 : fnOk Tryz.prog 29 = true := by kernel_rfl
theorem fact_fnOk_30 : fnOk Tryz.prog 30 = true := by kernel_rfl
theorem fact_fnOk_31 : fnOk Tryz.prog 31 = true := by kernel_rfl
theorem fact_fnOk_32 : fnOk Tryz.prog 32 = true := by kernel_rfl
theorem fact_fnOk_33 : fnOk Tryz.prog 33 = true := by kernel_rfl
theorem fact_fnOk_34 : fnOk Tryz.prog 34 = true := by kernel_rfl
theorem fact_fnOk_35 : fnOk Tryz.prog 35 = true := by kernel_rfl
theorem fact_fnOk_36 : fnOk Tryz.prog 36 = true := by kernel_rfl
theorem fact_fnOk_37 : fnOk Tryz.prog 37 = true := by kernel_rfl
theorem fact_fnOk_38 : fnOk Tryz.prog 38 = true := by kernel_rfl
theorem fact_fnOk_39 : fnOk Tryz.prog 39 = true := by kernel_rfl
theorem fact_fnOk_40 : fnOk Tryz.prog 40 = true := by kernel_rfl
theorem fact_fnOk_41 : fnOk Tryz.prog 41 = true := by kernel_rfl
theorem fact_fnOk_42 : fnOk Tryz.prog 42 = true := by kernel_rfl
theorem fact_fnOk_43 : fnOk Tryz.prog 43 = true := by kernel_rfl
theorem fact_fnOk_44 : fnOk Tryz.prog 44 = true := by kernel_rfl
theorem fact_fnOk_45 : fnOk Tryz.prog 45 = true := by kernel_rfl
theorem fact_fnOk_46 : fnOk Tryz.prog 46 = true := by kernel_rfl
theorem fact_fnOk_47 : fnOk Tryz.prog 47 = true := by kernel_rfl
theorem fact_fnOk_48 : fnOk Tryz.prog 48 = true := by kernel_rfl
theorem fact_fnOk_50 : fnOk Tryz.prog 50 = true := by kernel_rfl
theorem fact_fnOk_51 : fnOk Tryz.prog 51 = true := by kernel_rfl
theorem fact_fnOk_52 : fnOk Tryz.prog 52 = true := by kernel_rfl
theorem fact_fnOk_53 : fnOk Tryz.prog 53 = true := by kernel_rfl
theorem fact_fnOk_54 : fnOk Tryz.prog 54 = true := by kernel_rfl
theorem fact_fnOk_55 : fnOk Tryz.prog 55 = true := by kernel_rfl
theorem fact_fnOk_56 : fnOk Tryz.prog 56 = true := by kernel_rfl
theorem fact_fnOk_57 : fnOk Tryz.prog 57 = true := by kernel_rfl
theorem fact_fnOk_58 : fnOk Tryz.prog 58 = true := by kernel_rfl
theorem fact_fnOk_59 : fnOk Tryz.prog 59 = true := by kernel_rfl
theorem fact_fnOk_6 : fnOk Tryz.prog 6 = true := by kernel_rfl
theorem fact_fnOk_60 : fnOk Tryz.prog 60 = true := by kernel_rfl
theorem fact_fnOk_61 : fnOk Tryz.prog 61 = true := by kernel_rfl
theorem fact_fnOk_62 : fnOk Tryz.prog 62 = true := by kernel_rfl
theorem fact_fnOk_63 : fnOk Tryz.prog 63 = true := by kernel_rfl
theorem fact_fnOk_64 : fnOk Tryz.prog 64 = true := by kernel_rfl
theorem fact_fnOk_65 : fnOk Tryz.prog 65 = true := by kernel_rfl
theorem fact_fnOk_66 : fnOk Tryz.prog 66 = true := by kernel_rfl
theorem fact_fnOk_67 : fnOk Tryz.prog 67 = true := by kernel_rfl
theorem fact_fnOk_68 : fnOk Tryz.prog 68 = true := by kernel_rfl
theorem fact_fnOk_69 : fnOk Tryz.prog 69 = true := by kernel_rfl
theorem fact_fnOk_7 : fnOk Tryz.prog 7 = true := by kernel_rfl
theorem fact_fnOk_70 : fnOk Tryz.prog 70 = true := by kernel_rfl
theorem fact_fnOk_71 : fnOk Tryz.prog 71 = true := by kernel_rfl
theorem fact_fnOk_72 : fnOk Tryz.prog 72 = true := by kernel_rfl
theorem fact_fnOk_73 : fnOk Tryz.prog 73 = true := by kernel_rfl
theorem fact_fnOk_74 : fnOk Tryz.prog 74 = true := by kernel_rfl
theorem fact_fnOk_75 : fnOk Tryz.prog 75 = true := by kernel_rfl
theorem fact_fnOk_76 : fnOk Tryz.prog 76 = true := by kernel_rfl
theorem fact_fnOk_77 : fnOk Tryz.prog 77 = true := by kernel_rfl
theorem fact_fnOk_78 : fnOk Tryz.prog 78 = true := by kernel_rfl
theorem fact_fnOk_79 : fnOk Tryz.prog 79 = true := by kernel_rfl
theorem fact_fnOk_8 : fnOk Tryz.prog 8 = true := by kernel_rfl
theorem fact_fnOk_80 : fnOk Tryz.prog 80 = true := by kernel_rfl
theorem fact_fnOk_81 : fnOk Tryz.prog 81 = true := by kernel_rfl
theorem fact_fnOk_82 : fnOk Tryz.prog 82 = true := by kernel_rfl
theorem fact_fnOk_83 : fnOk Tryz.prog 83 = true := by kernel_rfl
theorem fact_fnOk_84 : fnOk Tryz.prog 84 = true := by kernel_rfl
theorem fact_fnOk_85 : fnOk Tryz.prog 85 = true := by kernel_rfl
theorem fact_fnOk_86 : fnOk Tryz.prog 86 = true := by kernel_rfl
theorem fact_fnOk_87 : fnOk Tryz.prog 87 = true := by kernel_rfl
theorem fact_fnOk_9 : fnOk Tryz.prog 9 = true := by kernel_rfl
theorem fact_fnOk_91 : fnOk Tryz.prog 91 = true := by kernel_rfl
theorem fact_fnOk_92 : fnOk Tryz.prog 92 = true := by kernel_rfl
theorem fact_fnOk_93 : fnOk Tryz.prog 93 = true := by kernel_rfl
theorem fact_fnOk_94 : fnOk Tryz.prog 94 = true := by kernel_rfl
theorem fact_fnOk_95 : fnOk Tryz.prog 95 = true := by kernel_rfl
theorem fact_fnOk_96 : fnOk Tryz.prog 96 = true := by kernel_rfl
theorem fact_fnOk_97 : fnOk Tryz.prog 97 = true := by kernel_rfl
theorem fact_fnOk_98 : fnOk Tryz.prog 98 = true := by kernel_rfl
theorem fact_rowTy_112 : rowTy Tryz.prog 112 = some (5, 1, 1, [.int .u8 0]) := by kernel_rfl
theorem fact_rowTy_22 : rowTy Tryz.prog 22 = some (9, 1, 16, [.string ⟨#[]⟩]) := by kernel_rfl
theorem fact_rowTy_33 : rowTy Tryz.prog 33 = some (22, 1, 24, [.slice none 0 0]) := by kernel_rfl
theorem fact_rowTy_38 : rowTy Tryz.prog 38 = some (72, 4, 72, [.string ⟨#[]⟩, .string ⟨#[]⟩, .slice none 0 0, .string ⟨#[]⟩]) := by kernel_rfl
theorem fact_rowTy_51 : rowTy Tryz.prog 51 = some (25, 1, 8, [.pointer none]) := by kernel_rfl
theorem fact_rowTy_52 : rowTy Tryz.prog 52 = some (29, 1, 8, [.pointer none]) := by kernel_rfl
theorem fact_rowTy_68 : rowTy Tryz.prog 68 = some (3, 1, 8, [.int .i64 0]) := by kernel_rfl
theorem fact_szO_104 : szO Tryz.prog 104 = some 1 := by kernel_rfl
theorem fact_szO_112 : szO Tryz.prog 112 = some 1 := by kernel_rfl
theorem fact_szO_22 : szO Tryz.prog 22 = some 1 := by kernel_rfl
theorem fact_szO_25 : szO Tryz.prog 25 = some 1 := by kernel_rfl
theorem fact_szO_26 : szO Tryz.prog 26 = some 1 := by kernel_rfl
theorem fact_szO_3 : szO Tryz.prog 3 = some 1 := by kernel_rfl
theorem fact_szO_33 : szO Tryz.prog 33 = some 1 := by kernel_rfl
theorem fact_szO_38 : szO Tryz.prog 38 = some 1 := by kernel_rfl
theorem fact_szO_65 : szO Tryz.prog 65 = some 1 := by kernel_rfl
theorem fact_szO_68 : szO Tryz.prog 68 = some 1 := by kernel_rfl
theorem fact_szO_72 : szO Tryz.prog 72 = some 4 := by kernel_rfl
theorem fact_szO_9 : szO Tryz.prog 9 = some 1 := by kernel_rfl
theorem fact_zeroV_104 : zeroV Tryz.prog 104 = some (.agg #[.int .i64 0]) := by kernel_rfl
theorem fact_zeroV_114 : zeroV Tryz.prog 114 = some (.agg #[.pointer none, .slice none 0 0]) := by kernel_rfl
theorem fact_zeroV_22 : zeroV Tryz.prog 22 = some (.slice none 0 0) := by kernel_rfl
theorem fact_zeroV_25 : zeroV Tryz.prog 25 = some (.pointer none) := by kernel_rfl
theorem fact_zeroV_26 : zeroV Tryz.prog 26 = some (.int .i64 0) := by kernel_rfl
theorem fact_zeroV_3 : zeroV Tryz.prog 3 = some (.int .i64 0) := by kernel_rfl
theorem fact_zeroV_38 : zeroV Tryz.prog 38 = some (.slice none 0 0) := by kernel_rfl
theorem fact_zeroV_68 : zeroV Tryz.prog 68 = some (.slice none 0 0) := by kernel_rfl
theorem fact_zeroV_72 : zeroV Tryz.prog 72 = some (.agg #[.string ⟨#[]⟩, .string ⟨#[]⟩, .slice none 0 0, .string ⟨#[]⟩]) := by kernel_rfl

def F5.r0 : List Oper := [
  op 6 (.assign (.const (.bool false))) 4]
def F5.r1 : List Oper := [
  oc 28 (.call ⟨(.value (.func 6)), #[], #[]⟩) 4,
  op 7 (.assign (.tmp 28)) 4]
def F5.r2 : List Oper := [
  op 29 (.move (.tmp 2)) 22,
  op 30 (.call ⟨(.builtin .len), #[(.tmp 29)], #[22]⟩) 3,
  op 31 (.binOp .gtr 3 (.tmp 30) (.const (.int .i64 6)) 3) 4]
def F5.r3 : List Oper := [
  op 32 (.move (.tmp 2)) 22,
  op 33 (.slice 22 (.tmp 32) none (some (.const (.int .i64 6))) none) 22,
  op 2 (.assign (.tmp 33)) 22]
def F5.r4 : List Oper := [
  op 34 (.move (.tmp 1)) 48,
  op 35 (.call ⟨(.builtin .len), #[(.tmp 34)], #[48]⟩) 3,
  op 36 (.binOp .gtr 3 (.tmp 35) (.const (.int .i64 30)) 3) 4]
def F5.r5 : List Oper := [
  op 37 (.move (.tmp 1)) 48,
  op 38 (.slice 48 (.tmp 37) none (some (.const (.int .i64 30))) none) 48,
  op 1 (.assign (.tmp 38)) 48]
def F5.r6 : List Oper := [
  op 39 (.move (.tmp 0)) 9,
  op 40 (.call ⟨(.builtin .len), #[(.tmp 39)], #[9]⟩) 3,
  op 41 (.move (.tmp 2)) 22,
  oc 42 (.call ⟨(.value (.func 7)), #[(.tmp 41)], #[22]⟩) 3,
  op 43 (.binOp .add 3 (.tmp 40) (.tmp 42) 3) 3,
  op 8 (.assign (.tmp 43)) 3]
def F5.r7 : List Oper := [
  op 9 (.assign (.const (.int .i64 0))) 3]
def F5.r8 : List Oper := [
  op 44 (.move (.tmp 9)) 3,
  op 45 (.move (.tmp 1)) 48,
  op 46 (.call ⟨(.builtin .len), #[(.tmp 45)], #[48]⟩) 3,
  op 47 (.binOp .lss 3 (.tmp 44) (.tmp 46) 3) 4]
def F5.r10 : List Oper := [
  op 50 (.move (.tmp 8)) 3,
  op 51 (.move (.tmp 1)) 48,
  op 52 (.move (.tmp 9)) 3,
  op 53 (.indexAddr 48 (.tmp 51) (.tmp 52)) 0,
  op 54 (.fieldAddr 50 (.tmp 53) 1) 0,
  od 55 (.load 9 (.tmp 54)) 9,
  op 56 (.call ⟨(.builtin .len), #[(.tmp 55)], #[9]⟩) 3,
  op 57 (.binOp .add 3 (.tmp 50) (.tmp 56) 3) 3,
  op 8 (.assign (.tmp 57)) 3]
def F5.r9 : List Oper := [
  op 48 (.move (.tmp 9)) 3,
  op 49 (.binOp .add 3 (.tmp 48) (.const (.int .i64 1)) 3) 3,
  op 9 (.assign (.tmp 49)) 3]
def F5.r11 : List Oper := [
  op 58 (.move (.tmp 8)) 3,
  op 59 (.binOp .gtr 3 (.tmp 58) (.const (.int .i64 8388608)) 3) 4]
def F5.r12 : List Oper := [
  op 6 (.assign (.const (.bool true))) 4]
def F5.r13 : List Oper := [
  op 61 (.move (.tmp 0)) 9,
  oc 62 (.call ⟨(.value (.func 8)), #[(.tmp 61)], #[9]⟩) 27,
  op 60 (.move (.tmp 62)) 27,
  op 63 (.extract (.tmp 60) 0) 25,
  op 64 (.extract (.tmp 60) 1) 26,
  op 65 (.extract (.tmp 60) 2) 3,
  op 10 (.assign (.tmp 63)) 25,
  op 11 (.assign (.tmp 64)) 26,
  op 12 (.assign (.tmp 65)) 3]
def F5.r14 : List Oper := [
  op 67 (.move (.tmp 0)) 9,
  oc 68 (.call ⟨(.value (.func 9)), #[(.tmp 67)], #[9]⟩) 30,
  op 66 (.move (.tmp 68)) 30,
  op 69 (.extract (.tmp 66) 0) 29,
  op 70 (.extract (.tmp 66) 1) 26,
  op 71 (.extract (.tmp 66) 2) 3,
  op 13 (.assign (.tmp 69)) 29,
  op 14 (.assign (.tmp 70)) 26,
  op 15 (.assign (.tmp 71)) 3]
def F5.r15 : List Oper := [
  op 72 (.move (.tmp 7)) 4,
  op 73 (.unOp .not 4 (.tmp 72)) 4,
  op 74 (.move (.tmp 73)) 4,
  ⟨(some 75), (.move (.tmp 11)), 26, "", #[], (some (74, false))⟩,
  ⟨(some 76), (.move (.tmp 14)), 26, "", #[], (some (74, false))⟩,
  ⟨(some 77), (.binOp .neq 26 (.tmp 75) (.tmp 76) 26), 4, "", #[], (some (74, false))⟩,
  op 78 (.pick (.tmp 74) (.const (.bool true)) (.tmp 77)) 4,
  op 79 (.move (.tmp 78)) 4,
  ⟨(some 80), (.move (.tmp 10)), 25, "", #[], (some (79, false))⟩,
  ⟨(some 81), (.binOp .eql 25 (.tmp 80) (.const (.pointer none)) 25), 4, "", #[], (some (79, false))⟩,
  ⟨(some 82), (.move (.tmp 13)), 29, "", #[], (some (79, false))⟩,
  ⟨(some 83), (.binOp .eql 29 (.tmp 82) (.const (.pointer none)) 29), 4, "", #[], (some (79, false))⟩,
  ⟨(some 84), (.binOp .neq 4 (.tmp 81) (.tmp 83) 4), 4, "", #[], (some (79, false))⟩,
  op 85 (.pick (.tmp 79) (.const (.bool true)) (.tmp 84)) 4]
def F5.r16 : List Oper := [
  op 6 (.assign (.const (.bool false))) 4]
def F5.r17 : List Oper := [
  op 86 (.move (.tmp 10)) 25,
  op 87 (.binOp .eql 25 (.tmp 86) (.const (.pointer none)) 25) 4]
def F5.r18 : List Oper := [
  op 6 (.assign (.const (.bool true))) 4]
def F5.r19 : List Oper := [
  op 88 (.build 35 #[]) 35,
  oc 89 (.box 35 (.tmp 88)) 32,
  op 16 (.assign (.tmp 89)) 32]
def F5.r20 : List Oper := [
  op 90 (.move (.tmp 10)) 25,
  oc 91 (.buildSlice 51 1 #[(0, (.tmp 90))]) 51,
  op 17 (.assign (.tmp 91)) 51]
def F5.r21 : List Oper := [
  op 92 (.move (.tmp 13)) 29,
  oc 93 (.buildSlice 52 1 #[(0, (.tmp 92))]) 52,
  op 18 (.assign (.tmp 93)) 52]
def F5.r22 : List Oper := [
  op 19 (.assign (.const (.int .i64 0))) 3]
def F5.r23 : List Oper := [
  op 94 (.move (.tmp 19)) 3,
  op 95 (.move (.tmp 1)) 48,
  op 96 (.call ⟨(.builtin .len), #[(.tmp 95)], #[48]⟩) 3,
  op 97 (.binOp .lss 3 (.tmp 94) (.tmp 96) 3) 4,
  op 98 (.move (.tmp 97)) 4,
  ⟨(some 99), (.move (.tmp 19)), 3, "", #[], (some (98, true))⟩,
  ⟨(some 100), (.binOp .lss 3 (.tmp 99) (.const (.int .i64 30)) 3), 4, "", #[], (some (98, true))⟩,
  op 101 (.pick (.tmp 98) (.tmp 100) (.const (.bool false))) 4]
def F5.r25 : List Oper := [
  op 104 (.move (.tmp 1)) 48,
  op 105 (.move (.tmp 19)) 3,
  op 106 (.indexAddr 48 (.tmp 104) (.tmp 105)) 0,
  op 107 (.fieldAddr 50 (.tmp 106) 0) 0,
  od 108 (.load 3 (.tmp 107)) 3,
  op 109 (.move (.tmp 17)) 51,
  op 110 (.call ⟨(.builtin .len), #[(.tmp 109)], #[51]⟩) 3,
  oc 111 (.call ⟨(.value (.func 18)), #[(.tmp 108), (.tmp 110)], #[3, 3]⟩) 3,
  op 20 (.assign (.tmp 111)) 3]
def F5.r26 : List Oper := [
  ⟨(some 113), (.move (.tmp 17)), 51, "", #[], none⟩,
  ⟨(some 114), (.move (.tmp 20)), 3, "", #[], none⟩,
  ⟨(some 115), (.indexAddr 51 (.tmp 113) (.tmp 114)), 0, "", #[], none⟩,
  ⟨(some 117), (.move (.tmp 1)), 48, "", #[], none⟩,
  ⟨(some 118), (.move (.tmp 19)), 3, "", #[], none⟩,
  ⟨(some 119), (.indexAddr 48 (.tmp 117) (.tmp 118)), 0, "", #[], none⟩,
  ⟨(some 120), (.fieldAddr 50 (.tmp 119) 1), 0, "", #[], none⟩,
  ⟨(some 116), (.load 25 (.tmp 115)), 25, "", #[⟨512, .data⟩], none⟩,
  ⟨(some 121), (.load 9 (.tmp 120)), 9, "", #[⟨512, .data⟩], none⟩,
  ⟨(some 122), (.call ⟨(.value (.func 19)), #[(.tmp 116), (.tmp 121)], #[25, 9]⟩), 54, "", #[⟨9, .chain⟩], none⟩,
  ⟨(some 112), (.move (.tmp 122)), 54, "", #[], none⟩,
  ⟨(some 123), (.extract (.tmp 112) 0), 25, "", #[], none⟩,
  ⟨(some 124), (.extract (.tmp 112) 1), 26, "", #[], none⟩,
  ⟨(some 21), (.assign (.tmp 123)), 25, "", #[], none⟩,
  ⟨(some 22), (.assign (.tmp 124)), 26, "", #[], none⟩]
def F5.r27 : List Oper := [
  ⟨(some 126), (.move (.tmp 18)), 52, "", #[], none⟩,
  ⟨(some 127), (.move (.tmp 20)), 3, "", #[], none⟩,
  ⟨(some 128), (.indexAddr 52 (.tmp 126) (.tmp 127)), 0, "", #[], none⟩,
  ⟨(some 130), (.move (.tmp 1)), 48, "", #[], none⟩,
  ⟨(some 131), (.move (.tmp 19)), 3, "", #[], none⟩,
  ⟨(some 132), (.indexAddr 48 (.tmp 130) (.tmp 131)), 0, "", #[], none⟩,
  ⟨(some 133), (.fieldAddr 50 (.tmp 132) 1), 0, "", #[], none⟩,
  ⟨(some 129), (.load 29 (.tmp 128)), 29, "", #[⟨512, .data⟩], none⟩,
  ⟨(some 134), (.load 9 (.tmp 133)), 9, "", #[⟨512, .data⟩], none⟩,
  ⟨(some 135), (.call ⟨(.value (.func 20)), #[(.tmp 129), (.tmp 134)], #[29, 9]⟩), 56, "", #[⟨9, .chain⟩], none⟩,
  ⟨(some 125), (.move (.tmp 135)), 56, "", #[], none⟩,
  ⟨(some 136), (.extract (.tmp 125) 0), 29, "", #[], none⟩,
  ⟨(some 137), (.extract (.tmp 125) 1), 26, "", #[], none⟩,
  ⟨(some 23), (.assign (.tmp 136)), 29, "", #[], none⟩,
  ⟨(some 24), (.assign (.tmp 137)), 26, "", #[], none⟩]
def F5.r28 : List Oper := [
  op 138 (.move (.tmp 22)) 26,
  op 139 (.move (.tmp 24)) 26,
  op 140 (.binOp .neq 26 (.tmp 138) (.tmp 139) 26) 4,
  op 141 (.move (.tmp 140)) 4,
  ⟨(some 142), (.move (.tmp 21)), 25, "", #[], (some (141, false))⟩,
  ⟨(some 143), (.binOp .eql 25 (.tmp 142) (.const (.pointer none)) 25), 4, "", #[], (some (141, false))⟩,
  ⟨(some 144), (.move (.tmp 23)), 29, "", #[], (some (141, false))⟩,
  ⟨(some 145), (.binOp .eql 29 (.tmp 144) (.const (.pointer none)) 29), 4, "", #[], (some (141, false))⟩,
  ⟨(some 146), (.binOp .neq 4 (.tmp 143) (.tmp 145) 4), 4, "", #[], (some (141, false))⟩,
  op 147 (.pick (.tmp 141) (.const (.bool true)) (.tmp 146)) 4]
def F5.r29 : List Oper := [
  op 6 (.assign (.const (.bool false))) 4]
def F5.r30 : List Oper := [
  op 148 (.move (.tmp 21)) 25,
  op 149 (.binOp .eql 25 (.tmp 148) (.const (.pointer none)) 25) 4]
def F5.r31 : List Oper := [
  op 150 (.move (.tmp 17)) 51,
  op 151 (.move (.tmp 21)) 25,
  oc 152 (.buildSlice 51 1 #[(0, (.tmp 151))]) 51,
  oc 153 (.call ⟨(.builtin .append), #[(.tmp 150), (.tmp 152)], #[51, 51]⟩) 51,
  op 17 (.assign (.tmp 153)) 51]
def F5.r32 : List Oper := [
  op 154 (.move (.tmp 18)) 52,
  op 155 (.move (.tmp 23)) 29,
  oc 156 (.buildSlice 52 1 #[(0, (.tmp 155))]) 52,
  oc 157 (.call ⟨(.builtin .append), #[(.tmp 154), (.tmp 156)], #[52, 52]⟩) 52,
  op 18 (.assign (.tmp 157)) 52]
def F5.r33 : List Oper := [
  op 158 (.move (.tmp 21)) 25,
  op 159 (.move (.tmp 23)) 29,
  op 160 (.move (.tmp 2)) 22,
  op 161 (.move (.tmp 16)) 32,
  oc 162 (.call ⟨(.value (.func 10)), #[(.tmp 158), (.tmp 159), (.tmp 160), (.tmp 161)], #[25, 29, 22, 32]⟩) 4,
  op 25 (.assign (.tmp 162)) 4]
def F5.r34 : List Oper := [
  op 163 (.move (.tmp 25)) 4,
  op 164 (.unOp .not 4 (.tmp 163)) 4]
def F5.r35 : List Oper := [
  op 6 (.assign (.const (.bool false))) 4]
def F5.r24 : List Oper := [
  op 102 (.move (.tmp 19)) 3,
  op 103 (.binOp .add 3 (.tmp 102) (.const (.int .i64 1)) 3) 3,
  op 19 (.assign (.tmp 103)) 3]
def F5.r36 : List Oper := [
  op 26 (.assign (.const (.int .i64 0))) 3]
def F5.r37 : List Oper := [
  op 165 (.move (.tmp 26)) 3,
  op 166 (.move (.tmp 17)) 51,
  op 167 (.call ⟨(.builtin .len), #[(.tmp 166)], #[51]⟩) 3,
  op 168 (.binOp .lss 3 (.tmp 165) (.tmp 167) 3) 4]
def F5.r39 : List Oper := [
  ⟨(some 171), (.move (.tmp 17)), 51, "", #[], none⟩,
  ⟨(some 172), (.move (.tmp 26)), 3, "", #[], none⟩,
  ⟨(some 173), (.indexAddr 51 (.tmp 171) (.tmp 172)), 0, "", #[], none⟩,
  ⟨(some 175), (.move (.tmp 18)), 52, "", #[], none⟩,
  ⟨(some 176), (.move (.tmp 26)), 3, "", #[], none⟩,
  ⟨(some 177), (.indexAddr 52 (.tmp 175) (.tmp 176)), 0, "", #[], none⟩,
  ⟨(some 179), (.move (.tmp 2)), 22, "", #[], none⟩,
  ⟨(some 180), (.move (.tmp 16)), 32, "", #[], none⟩,
  ⟨(some 174), (.load 25 (.tmp 173)), 25, "", #[⟨1024, .data⟩], none⟩,
  ⟨(some 178), (.load 29 (.tmp 177)), 29, "", #[⟨1024, .data⟩], none⟩,
  ⟨(some 181), (.call ⟨(.value (.func 10)), #[(.tmp 174), (.tmp 178), (.tmp 179), (.tmp 180)], #[25, 29, 22, 32]⟩), 4, "", #[⟨10, .chain⟩], none⟩,
  ⟨(some 27), (.assign (.tmp 181)), 4, "", #[], none⟩]
def F5.r40 : List Oper := [
  op 182 (.move (.tmp 27)) 4,
  op 183 (.unOp .not 4 (.tmp 182)) 4]
def F5.r41 : List Oper := [
  op 6 (.assign (.const (.bool false))) 4]
def F5.r38 : List Oper := [
  op 169 (.move (.tmp 26)) 3,
  op 170 (.binOp .add 3 (.tmp 169) (.const (.int .i64 1)) 3) 3,
  op 26 (.assign (.tmp 170)) 3]
def F5.r42 : List Oper := [
  op 184 (.move (.tmp 16)) 32,
  oc 185 (.call ⟨(.value (.func 11)), #[(.tmp 184)], #[32]⟩) 4,
  op 6 (.assign (.tmp 185)) 4]
def F5.t9 : Cd := (.region 9 F5.r9.toArray false)
theorem F5.t9_eq {θ : Tag (F5.t9, Q, e, w)} : cwE P F5.t9 Q e w θ = cwE P (.region 9 F5.r9.toArray false) Q e w := rfl
def F5.t10 : Cd := (.seq (.block 1 (.region 10 F5.r10.toArray false)) F5.t9)
theorem F5.t10_eq {θ : Tag (F5.t10, Q, e, w)} : cwE P F5.t10 Q e w θ = cwE P (.seq (.block 1 (.region 10 F5.r10.toArray false)) F5.t9) Q e w := rfl
def F5.t31 : Cd := (.seq (.region 31 F5.r31.toArray false) (.seq (.region 32 F5.r32.toArray false) (.seq (.region 33 F5.r33.toArray false) (.seq (.region 34 F5.r34.toArray false) (.cond (.tmp 164) (.seq (.region 35 F5.r35.toArray false) .ret) .skip)))))
theorem F5.t31_eq {θ : Tag (F5.t31, Q, e, w)} : cwE P F5.t31 Q e w θ = cwE P (.seq (.region 31 F5.r31.toArray false) (.seq (.region 32 F5.r32.toArray false) (.seq (.region 33 F5.r33.toArray false) (.seq (.region 34 F5.r34.toArray false) (.cond (.tmp 164) (.seq (.region 35 F5.r35.toArray false) .ret) .skip))))) Q e w := rfl
def F5.t30 : Cd := (.seq (.seq (.region 30 F5.r30.toArray false) (.cond (.tmp 149) (.exit 3) .skip)) F5.t31)
theorem F5.t30_eq {θ : Tag (F5.t30, Q, e, w)} : cwE P F5.t30 Q e w θ = cwE P (.seq (.seq (.region 30 F5.r30.toArray false) (.cond (.tmp 149) (.exit 3) .skip)) F5.t31) Q e w := rfl
def F5.t24 : Cd := (.region 24 F5.r24.toArray false)
theorem F5.t24_eq {θ : Tag (F5.t24, Q, e, w)} : cwE P F5.t24 Q e w θ = cwE P (.region 24 F5.r24.toArray false) Q e w := rfl
def F5.t25 : Cd := (.seq (.block 3 (.seq (.region 25 F5.r25.toArray false) (.seq (.region 26 F5.r26.toArray true) (.seq (.region 27 F5.r27.toArray true) (.seq (.seq (.region 28 F5.r28.toArray false) (.cond (.tmp 147) (.seq (.region 29 F5.r29.toArray false) .ret) .skip)) F5.t30))))) F5.t24)
theorem F5.t25_eq {θ : Tag (F5.t25, Q, e, w)} : cwE P F5.t25 Q e w θ = cwE P (.seq (.block 3 (.seq (.region 25 F5.r25.toArray false) (.seq (.region 26 F5.r26.toArray true) (.seq (.region 27 F5.r27.toArray true) (.seq (.seq (.region 28 F5.r28.toArray false) (.cond (.tmp 147) (.seq (.region 29 F5.r29.toArray false) .ret) .skip)) F5.t30))))) F5.t24) Q e w := rfl
def F5.t38 : Cd := (.region 38 F5.r38.toArray false)
theorem F5.t38_eq {θ : Tag (F5.t38, Q, e, w)} : cwE P F5.t38 Q e w θ = cwE P (.region 38 F5.r38.toArray false) Q e w := rfl
def F5.t39 : Cd := (.seq (.block 5 (.seq (.region 39 F5.r39.toArray true) (.seq (.region 40 F5.r40.toArray false) (.cond (.tmp 183) (.seq (.region 41 F5.r41.toArray false) .ret) .skip)))) F5.t38)
theorem F5.t39_eq {θ : Tag (F5.t39, Q, e, w)} : cwE P F5.t39 Q e w θ = cwE P (.seq (.block 5 (.seq (.region 39 F5.r39.toArray true) (.seq (.region 40 F5.r40.toArray false) (.cond (.tmp 183) (.seq (.region 41 F5.r41.toArray false) .ret) .skip)))) F5.t38) Q e w := rfl
def F5.t42 : Cd := (.seq (.region 42 F5.r42.toArray false) .ret)
theorem F5.t42_eq {θ : Tag (F5.t42, Q, e, w)} : cwE P F5.t42 Q e w θ = cwE P (.seq (.region 42 F5.r42.toArray false) .ret) Q e w := rfl
def F5.t36 : Cd := (.seq (.seq (.region 36 F5.r36.toArray false) (.block 4 (.loop (.seq (.seq (.region 37 F5.r37.toArray false) (.cond (.tmp 168) .skip (.exit 4))) F5.t39)))) F5.t42)
theorem F5.t36_eq {θ : Tag (F5.t36, Q, e, w)} : cwE P F5.t36 Q e w θ = cwE P (.seq (.seq (.region 36 F5.r36.toArray false) (.block 4 (.loop (.seq (.seq (.region 37 F5.r37.toArray false) (.cond (.tmp 168) .skip (.exit 4))) F5.t39)))) F5.t42) Q e w := rfl
def F5.t19 : Cd := (.seq (.region 19 F5.r19.toArray false) (.seq (.region 20 F5.r20.toArray false) (.seq (.region 21 F5.r21.toArray false) (.seq (.seq (.region 22 F5.r22.toArray false) (.block 2 (.loop (.seq (.seq (.region 23 F5.r23.toArray false) (.cond (.tmp 101) .skip (.exit 2))) F5.t25)))) F5.t36))))
theorem F5.t19_eq {θ : Tag (F5.t19, Q, e, w)} : cwE P F5.t19 Q e w θ = cwE P (.seq (.region 19 F5.r19.toArray false) (.seq (.region 20 F5.r20.toArray false) (.seq (.region 21 F5.r21.toArray false) (.seq (.seq (.region 22 F5.r22.toArray false) (.block 2 (.loop (.seq (.seq (.region 23 F5.r23.toArray false) (.cond (.tmp 101) .skip (.exit 2))) F5.t25)))) F5.t36)))) Q e w := rfl
def F5.t17 : Cd := (.seq (.seq (.region 17 F5.r17.toArray false) (.cond (.tmp 87) (.seq (.region 18 F5.r18.toArray false) .ret) .skip)) F5.t19)
theorem F5.t17_eq {θ : Tag (F5.t17, Q, e, w)} : cwE P F5.t17 Q e w θ = cwE P (.seq (.seq (.region 17 F5.r17.toArray false) (.cond (.tmp 87) (.seq (.region 18 F5.r18.toArray false) .ret) .skip)) F5.t19) Q e w := rfl
def F5.t13 : Cd := (.seq (.region 13 F5.r13.toArray false) (.seq (.region 14 F5.r14.toArray false) (.seq (.seq (.region 15 F5.r15.toArray false) (.cond (.tmp 85) (.seq (.region 16 F5.r16.toArray false) .ret) .skip)) F5.t17)))
theorem F5.t13_eq {θ : Tag (F5.t13, Q, e, w)} : cwE P F5.t13 Q e w θ = cwE P (.seq (.region 13 F5.r13.toArray false) (.seq (.region 14 F5.r14.toArray false) (.seq (.seq (.region 15 F5.r15.toArray false) (.cond (.tmp 85) (.seq (.region 16 F5.r16.toArray false) .ret) .skip)) F5.t17))) Q e w := rfl
def F5.t11 : Cd := (.seq (.seq (.region 11 F5.r11.toArray false) (.cond (.tmp 59) (.seq (.region 12 F5.r12.toArray false) .ret) .skip)) F5.t13)
theorem F5.t11_eq {θ : Tag (F5.t11, Q, e, w)} : cwE P F5.t11 Q e w θ = cwE P (.seq (.seq (.region 11 F5.r11.toArray false) (.cond (.tmp 59) (.seq (.region 12 F5.r12.toArray false) .ret) .skip)) F5.t13) Q e w := rfl
def F5.t6 : Cd := (.seq (.region 6 F5.r6.toArray false) (.seq (.seq (.region 7 F5.r7.toArray false) (.block 0 (.loop (.seq (.seq (.region 8 F5.r8.toArray false) (.cond (.tmp 47) .skip (.exit 0))) F5.t10)))) F5.t11))
theorem F5.t6_eq {θ : Tag (F5.t6, Q, e, w)} : cwE P F5.t6 Q e w θ = cwE P (.seq (.region 6 F5.r6.toArray false) (.seq (.seq (.region 7 F5.r7.toArray false) (.block 0 (.loop (.seq (.seq (.region 8 F5.r8.toArray false) (.cond (.tmp 47) .skip (.exit 0))) F5.t10)))) F5.t11)) Q e w := rfl
def F5.t4 : Cd := (.seq (.seq (.region 4 F5.r4.toArray false) (.cond (.tmp 36) (.region 5 F5.r5.toArray false) .skip)) F5.t6)
theorem F5.t4_eq {θ : Tag (F5.t4, Q, e, w)} : cwE P F5.t4 Q e w θ = cwE P (.seq (.seq (.region 4 F5.r4.toArray false) (.cond (.tmp 36) (.region 5 F5.r5.toArray false) .skip)) F5.t6) Q e w := rfl
def F5.code : Cd := (.seq (.region 0 F5.r0.toArray false) (.seq (.region 1 F5.r1.toArray false) (.seq (.seq (.region 2 F5.r2.toArray false) (.cond (.tmp 31) (.region 3 F5.r3.toArray false) .skip)) F5.t4)))
theorem F5.calls (hn : args.size ≤ 186) (h : cwE Tryz.prog F5.code (fnP Tryz.prog #[(.tmp 6)] R) (entry args) w) : Calls Tryz.prog 5 args w R :=
  calls_of_cwE (types := Tryz.prog.types) follows Tryz.func5 F5.code rfl (by kernel_rfl) hn h

def F6.r0 : List Oper := [
  op 0 (.assign (.const (.bool false))) 4]
def F6.r1 : List Oper := [
  oc 7 (.call ⟨(.value (.func 8)), #[(.const (.string { data := #[97, 100, 109, 58, 58, 103, 108, 101, 110, 100, 97, 58, 10, 103, 108, 101, 110, 100, 97, 58, 58, 58, 107, 101, 121, 49, 10, 115, 121, 115, 58, 103, 108, 101, 110, 100, 97, 58, 97, 100, 109, 44, 103, 108, 101, 110, 100, 97, 58, 10] }))], #[9]⟩) 27,
  op 6 (.move (.tmp 7)) 27,
  op 8 (.extract (.tmp 6) 0) 25,
  op 9 (.extract (.tmp 6) 1) 26,
  op 10 (.extract (.tmp 6) 2) 3,
  op 1 (.assign (.tmp 8)) 25,
  op 2 (.assign (.tmp 9)) 26,
  op 3 (.assign (.tmp 10)) 3]
def F6.r2 : List Oper := [
  op 11 (.move (.tmp 1)) 25,
  op 12 (.binOp .eql 25 (.tmp 11) (.const (.pointer none)) 25) 4,
  op 13 (.move (.tmp 12)) 4,
  ⟨(some 14), (.move (.tmp 2)), 26, "", #[], (some (13, false))⟩,
  ⟨(some 15), (.binOp .neq 26 (.tmp 14) (.const (.int .i64 0)) 26), 4, "", #[], (some (13, false))⟩,
  op 16 (.pick (.tmp 13) (.const (.bool true)) (.tmp 15)) 4,
  op 17 (.move (.tmp 16)) 4,
  ⟨(some 18), (.move (.tmp 3)), 3, "", #[], (some (17, false))⟩,
  ⟨(some 19), (.binOp .neq 3 (.tmp 18) (.const (.int .i64 0)) 3), 4, "", #[], (some (17, false))⟩,
  op 20 (.pick (.tmp 17) (.const (.bool true)) (.tmp 19)) 4]
def F6.r3 : List Oper := [
  op 0 (.assign (.const (.bool false))) 4]
def F6.r4 : List Oper := [
  op 21 (.move (.tmp 1)) 25,
  oc 22 (.call ⟨(.value (.func 21)), #[(.tmp 21), (.const (.string { data := #[103, 108, 101, 110, 100, 97] }))], #[25, 9]⟩) 22,
  op 4 (.assign (.tmp 22)) 22]
def F6.r5 : List Oper := [
  op 23 (.move (.tmp 4)) 22,
  oc 24 (.buildSlice 22 3 #[(0, (.const (.string { data := #[97, 100, 109] }))), (1, (.const (.string { data := #[103, 108, 101, 110, 100, 97] }))), (2, (.const (.string { data := #[115, 121, 115] })))]) 22,
  oc 25 (.call ⟨(.value (.func 22)), #[(.tmp 23), (.tmp 24)], #[22, 22]⟩) 4,
  op 5 (.assign (.tmp 25)) 4]
def F6.r6 : List Oper := [
  op 26 (.move (.tmp 5)) 4,
  op 27 (.move (.tmp 26)) 4,
  ⟨(some 28), (.move (.tmp 1)), 25, "", #[], (some (27, true))⟩,
  ⟨(some 29), (.call ⟨(.value (.func 23)), #[(.tmp 28), (.const (.string { data := #[103, 108, 101, 110, 100, 97] })), (.const (.string { data := #[97, 100, 109] }))], #[25, 9, 9]⟩), 4, "", #[⟨0, .chain⟩], (some (27, true))⟩,
  op 30 (.pick (.tmp 27) (.tmp 29) (.const (.bool false))) 4,
  op 31 (.move (.tmp 30)) 4,
  ⟨(some 32), (.move (.tmp 1)), 25, "", #[], (some (31, true))⟩,
  ⟨(some 33), (.call ⟨(.value (.func 23)), #[(.tmp 32), (.const (.string { data := #[97, 100, 109] })), (.const (.string { data := #[103, 108, 101, 110, 100, 97] }))], #[25, 9, 9]⟩), 4, "", #[⟨0, .chain⟩], (some (31, true))⟩,
  ⟨(some 34), (.unOp .not 4 (.tmp 33)), 4, "", #[], (some (31, true))⟩,
  op 35 (.pick (.tmp 31) (.tmp 34) (.const (.bool false))) 4,
  op 36 (.move (.tmp 35)) 4,
  ⟨(some 37), (.move (.tmp 1)), 25, "", #[], (some (36, true))⟩,
  ⟨(some 38), (.call ⟨(.value (.func 24)), #[(.tmp 37), (.const (.string { data := #[103, 108, 101, 110, 100, 97] })), (.const (.string { data := #[115, 121, 115] }))], #[25, 9, 9]⟩), 4, "", #[⟨0, .chain⟩], (some (36, true))⟩,
  op 39 (.pick (.tmp 36) (.tmp 38) (.const (.bool false))) 4,
  op 40 (.move (.tmp 39)) 4,
  ⟨(some 41), (.move (.tmp 1)), 25, "", #[], (some (40, true))⟩,
  ⟨(some 42), (.call ⟨(.value (.func 24)), #[(.tmp 41), (.const (.string { data := #[97, 100, 109] })), (.const (.string { data := #[115, 121, 115] }))], #[25, 9, 9]⟩), 4, "", #[⟨0, .chain⟩], (some (40, true))⟩,
  ⟨(some 43), (.unOp .not 4 (.tmp 42)), 4, "", #[], (some (40, true))⟩,
  op 44 (.pick (.tmp 40) (.tmp 43) (.const (.bool false))) 4,
  op 45 (.move (.tmp 44)) 4,
  ⟨(some 46), (.move (.tmp 1)), 25, "", #[], (some (45, true))⟩,
  ⟨(some 47), (.call ⟨(.value (.func 25)), #[(.tmp 46), (.const (.string { data := #[103, 108, 101, 110, 100, 97] }))], #[25, 9]⟩), 9, "", #[⟨0, .chain⟩], (some (45, true))⟩,
  ⟨(some 48), (.binOp .eql 9 (.tmp 47) (.const (.string { data := #[107, 101, 121, 49] })) 9), 4, "", #[], (some (45, true))⟩,
  op 49 (.pick (.tmp 45) (.tmp 48) (.const (.bool false))) 4,
  op 50 (.move (.tmp 49)) 4,
  ⟨(some 51), (.move (.tmp 1)), 25, "", #[], (some (50, true))⟩,
  ⟨(some 52), (.call ⟨(.value (.func 26)), #[(.tmp 51), (.const (.string { data := #[97, 100, 109] }))], #[25, 9]⟩), 4, "", #[⟨0, .chain⟩], (some (50, true))⟩,
  op 53 (.pick (.tmp 50) (.tmp 52) (.const (.bool false))) 4,
  op 54 (.move (.tmp 53)) 4,
  ⟨(some 55), (.move (.tmp 1)), 25, "", #[], (some (54, true))⟩,
  ⟨(some 56), (.call ⟨(.value (.func 26)), #[(.tmp 55), (.const (.string { data := #[107, 101, 121, 49] }))], #[25, 9]⟩), 4, "", #[⟨0, .chain⟩], (some (54, true))⟩,
  ⟨(some 57), (.unOp .not 4 (.tmp 56)), 4, "", #[], (some (54, true))⟩,
  op 58 (.pick (.tmp 54) (.tmp 57) (.const (.bool false))) 4,
  op 0 (.assign (.tmp 58)) 4]
def F6.t4 : Cd := (.seq (.region 4 F6.r4.toArray false) (.seq (.region 5 F6.r5.toArray false) (.seq (.region 6 F6.r6.toArray false) .ret)))
theorem F6.t4_eq {θ : Tag (F6.t4, Q, e, w)} : cwE P F6.t4 Q e w θ = cwE P (.seq (.region 4 F6.r4.toArray false) (.seq (.region 5 F6.r5.toArray false) (.seq (.region 6 F6.r6.toArray false) .ret))) Q e w := rfl
def F6.code : Cd := (.seq (.region 0 F6.r0.toArray false) (.seq (.region 1 F6.r1.toArray false) (.seq (.seq (.region 2 F6.r2.toArray false) (.cond (.tmp 20) (.seq (.region 3 F6.r3.toArray false) .ret) .skip)) F6.t4)))
theorem F6.calls (hn : args.size ≤ 59) (h : cwE Tryz.prog F6.code (fnP Tryz.prog #[(.tmp 0)] R) (entry args) w) : Calls Tryz.prog 6 args w R :=
  calls_of_cwE (types := Tryz.prog.types) follows Tryz.func6 F6.code rfl (by kernel_rfl) hn h

def F7.r0 : List Oper := [
  op 2 (.assign (.const (.int .i64 0))) 3]
def F7.r1 : List Oper := [
  op 3 (.assign (.const (.int .i64 0))) 3]
def F7.r2 : List Oper := [
  op 4 (.assign (.const (.int .i64 0))) 3]
def F7.r3 : List Oper := [
  op 5 (.move (.tmp 4)) 3,
  op 6 (.move (.tmp 0)) 22,
  op 7 (.call ⟨(.builtin .len), #[(.tmp 6)], #[22]⟩) 3,
  op 8 (.binOp .lss 3 (.tmp 5) (.tmp 7) 3) 4,
  op 9 (.move (.tmp 8)) 4,
  ⟨(some 10), (.move (.tmp 3)), 3, "", #[], (some (9, true))⟩,
  ⟨(some 11), (.binOp .leq 3 (.tmp 10) (.const (.int .i64 8388608)) 3), 4, "", #[], (some (9, true))⟩,
  op 12 (.pick (.tmp 9) (.tmp 11) (.const (.bool false))) 4]
def F7.r5 : List Oper := [
  op 15 (.move (.tmp 3)) 3,
  op 16 (.binOp .add 3 (.tmp 15) (.const (.int .i64 16)) 3) 3,
  op 17 (.move (.tmp 0)) 22,
  op 18 (.move (.tmp 4)) 3,
  op 19 (.indexAddr 22 (.tmp 17) (.tmp 18)) 0,
  od 20 (.load 9 (.tmp 19)) 9,
  op 21 (.call ⟨(.builtin .len), #[(.tmp 20)], #[9]⟩) 3,
  op 22 (.binOp .add 3 (.tmp 16) (.tmp 21) 3) 3,
  op 3 (.assign (.tmp 22)) 3]
def F7.r4 : List Oper := [
  op 13 (.move (.tmp 4)) 3,
  op 14 (.binOp .add 3 (.tmp 13) (.const (.int .i64 1)) 3) 3,
  op 4 (.assign (.tmp 14)) 3]
def F7.r6 : List Oper := [
  op 23 (.move (.tmp 3)) 3,
  op 2 (.assign (.tmp 23)) 3]
def F7.t4 : Cd := (.region 4 F7.r4.toArray false)
theorem F7.t4_eq {θ : Tag (F7.t4, Q, e, w)} : cwE P F7.t4 Q e w θ = cwE P (.region 4 F7.r4.toArray false) Q e w := rfl
def F7.t5 : Cd := (.seq (.block 1 (.region 5 F7.r5.toArray false)) F7.t4)
theorem F7.t5_eq {θ : Tag (F7.t5, Q, e, w)} : cwE P F7.t5 Q e w θ = cwE P (.seq (.block 1 (.region 5 F7.r5.toArray false)) F7.t4) Q e w := rfl
def F7.t6 : Cd := (.seq (.region 6 F7.r6.toArray false) .ret)
theorem F7.t6_eq {θ : Tag (F7.t6, Q, e, w)} : cwE P F7.t6 Q e w θ = cwE P (.seq (.region 6 F7.r6.toArray false) .ret) Q e w := rfl
def F7.code : Cd := (.seq (.region 0 F7.r0.toArray false) (.seq (.region 1 F7.r1.toArray false) (.seq (.seq (.region 2 F7.r2.toArray false) (.block 0 (.loop (.seq (.seq (.region 3 F7.r3.toArray false) (.cond (.tmp 12) .skip (.exit 0))) F7.t5)))) F7.t6)))
theorem F7.calls (hn : args.size ≤ 24) (h : cwE Tryz.prog F7.code (fnP Tryz.prog #[(.tmp 2)] R) (entry args) w) : Calls Tryz.prog 7 args w R :=
  calls_of_cwE (types := Tryz.prog.types) follows Tryz.func7 F7.code rfl (by kernel_rfl) hn h

def F8.r0 : List Oper := [
  oc 1 (.box 9 (.tmp 0)) 0,
  op 2 (.assign (.const (.pointer none))) 25,
  op 3 (.assign (.const (.int .i64 0))) 26,
  op 4 (.assign (.const (.int .i64 0))) 3]
def F8.r1 : List Oper := [
  od 9 (.load 9 (.tmp 1)) 9,
  op 10 (.call ⟨(.builtin .len), #[(.tmp 9)], #[9]⟩) 3,
  op 11 (.binOp .gtr 3 (.tmp 10) (.const (.int .i64 65536)) 3) 4]
def F8.r2 : List Oper := [
  op 2 (.assign (.const (.pointer none))) 25,
  op 3 (.assign (.const (.int .i64 1))) 26,
  op 4 (.assign (.const (.int .i64 0))) 3]
def F8.r3 : List Oper := [
  oc 12 (.makeMap 64 none) 64,
  op 13 (.build 67 #[(1, (.tmp 12))]) 67,
  oc 14 (.box 67 (.tmp 13)) 25,
  oc 5 (.alloc 25) 0,
  ⟨none, (.store 25 (.tmp 5) (.tmp 14)), 0, "", #[⟨0, .chain⟩], none⟩]
def F8.r4 : List Oper := [
  oc 6 (.alloc 3) 0,
  ⟨none, (.store 3 (.tmp 6) (.const (.int .i64 0))), 0, "", #[⟨0, .chain⟩], none⟩]
def F8.r5 : List Oper := [
  oc 7 (.alloc 68) 0]
def F8.r6 : List Oper := [
  op 15 (.makeFunc (.func 28) #[] #[(.tmp 1), (.tmp 6), (.tmp 5), (.tmp 7)]) 1,
  oc 16 (.call ⟨(.value (.func 27)), #[(.tmp 15)], #[1]⟩) 26,
  op 8 (.assign (.tmp 16)) 26]
def F8.r7 : List Oper := [
  op 17 (.move (.tmp 8)) 26,
  op 18 (.binOp .neq 26 (.tmp 17) (.const (.int .i64 0)) 26) 4]
def F8.r8 : List Oper := [
  ⟨(some 19), (.move (.tmp 8)), 26, "", #[], none⟩,
  ⟨(some 2), (.assign (.const (.pointer none))), 25, "", #[], none⟩,
  ⟨(some 3), (.assign (.tmp 19)), 26, "", #[], none⟩,
  ⟨(some 20), (.load 3 (.tmp 6)), 3, "", #[⟨0, .data⟩], none⟩,
  ⟨(some 4), (.assign (.tmp 20)), 3, "", #[], none⟩]
def F8.r9 : List Oper := [
  od 21 (.load 25 (.tmp 5)) 25,
  op 2 (.assign (.tmp 21)) 25,
  op 3 (.assign (.const (.int .i64 0))) 26,
  op 4 (.assign (.const (.int .i64 0))) 3]
def F8.t9 : Cd := (.seq (.region 9 F8.r9.toArray false) .ret)
theorem F8.t9_eq {θ : Tag (F8.t9, Q, e, w)} : cwE P F8.t9 Q e w θ = cwE P (.seq (.region 9 F8.r9.toArray false) .ret) Q e w := rfl
def F8.t3 : Cd := (.seq (.region 3 F8.r3.toArray false) (.seq (.region 4 F8.r4.toArray false) (.seq (.region 5 F8.r5.toArray false) (.seq (.region 6 F8.r6.toArray false) (.seq (.seq (.region 7 F8.r7.toArray false) (.cond (.tmp 18) (.seq (.region 8 F8.r8.toArray true) .ret) .skip)) F8.t9)))))
theorem F8.t3_eq {θ : Tag (F8.t3, Q, e, w)} : cwE P F8.t3 Q e w θ = cwE P (.seq (.region 3 F8.r3.toArray false) (.seq (.region 4 F8.r4.toArray false) (.seq (.region 5 F8.r5.toArray false) (.seq (.region 6 F8.r6.toArray false) (.seq (.seq (.region 7 F8.r7.toArray false) (.cond (.tmp 18) (.seq (.region 8 F8.r8.toArray true) .ret) .skip)) F8.t9))))) Q e w := rfl
def F8.code : Cd := (.seq (.region 0 F8.r0.toArray false) (.seq (.seq (.region 1 F8.r1.toArray false) (.cond (.tmp 11) (.seq (.region 2 F8.r2.toArray false) .ret) .skip)) F8.t3))
theorem F8.calls (hn : args.size ≤ 22) (h : cwE Tryz.prog F8.code (fnP Tryz.prog #[(.tmp 2), (.tmp 3), (.tmp 4)] R) (entry args) w) : Calls Tryz.prog 8 args w R :=
  calls_of_cwE (types := Tryz.prog.types) follows Tryz.func8 F8.code rfl (by kernel_rfl) hn h

def F9.r0 : List Oper := [
  op 2 (.assign (.const (.pointer none))) 29,
  op 3 (.assign (.const (.int .i64 0))) 26,
  op 4 (.assign (.const (.int .i64 0))) 3]
def F9.r1 : List Oper := [
  op 12 (.move (.tmp 0)) 9,
  op 13 (.call ⟨(.builtin .len), #[(.tmp 12)], #[9]⟩) 3,
  op 14 (.binOp .gtr 3 (.tmp 13) (.const (.int .i64 65536)) 3) 4]
def F9.r2 : List Oper := [
  op 2 (.assign (.const (.pointer none))) 29,
  op 3 (.assign (.const (.int .i64 1))) 26,
  op 4 (.assign (.const (.int .i64 0))) 3]
def F9.r3 : List Oper := [
  op 15 (.move (.tmp 0)) 9,
  oc 16 (.call ⟨(.value (.func 36)), #[(.tmp 15), (.const (.int .u8 10))], #[9, 5]⟩) 22,
  op 5 (.assign (.tmp 16)) 22]
def F9.r4 : List Oper := [
  op 6 (.assign (.const (.slice none 0 0))) 38]
def F9.r5 : List Oper := [
  op 7 (.assign (.const (.slice none 0 0))) 68]
def F9.r6 : List Oper := [
  op 8 (.assign (.const (.int .i64 0))) 3]
def F9.r7 : List Oper := [
  op 17 (.move (.tmp 8)) 3,
  op 18 (.move (.tmp 5)) 22,
  op 19 (.call ⟨(.builtin .len), #[(.tmp 18)], #[22]⟩) 3,
  op 20 (.binOp .lss 3 (.tmp 17) (.tmp 19) 3) 4]
def F9.r9 : List Oper := [
  op 23 (.move (.tmp 5)) 22,
  op 24 (.move (.tmp 8)) 3,
  op 25 (.indexAddr 22 (.tmp 23) (.tmp 24)) 0,
  od 26 (.load 9 (.tmp 25)) 9,
  op 27 (.binOp .eql 9 (.tmp 26) (.const (.string { data := #[] })) 9) 4,
  op 28 (.move (.tmp 27)) 4,
  ⟨(some 29), (.move (.tmp 5)), 22, "", #[], (some (28, false))⟩,
  ⟨(some 30), (.move (.tmp 8)), 3, "", #[], (some (28, false))⟩,
  ⟨(some 31), (.indexAddr 22 (.tmp 29) (.tmp 30)), 0, "", #[], (some (28, false))⟩,
  ⟨(some 32), (.load 9 (.tmp 31)), 9, "", #[⟨0, .data⟩], (some (28, false))⟩,
  ⟨(some 33), (.index 9 (.tmp 32) (.const (.int .i64 0))), 5, "", #[], (some (28, false))⟩,
  ⟨(some 34), (.binOp .eql 5 (.tmp 33) (.const (.int .u8 35)) 5), 4, "", #[], (some (28, false))⟩,
  op 35 (.pick (.tmp 28) (.const (.bool true)) (.tmp 34)) 4]
def F9.r10 : List Oper := [
  op 37 (.move (.tmp 5)) 22,
  op 38 (.move (.tmp 8)) 3,
  op 39 (.indexAddr 22 (.tmp 37) (.tmp 38)) 0,
  od 40 (.load 9 (.tmp 39)) 9,
  oc 41 (.call ⟨(.value (.func 37)), #[(.tmp 40)], #[9]⟩) 78,
  op 36 (.move (.tmp 41)) 78,
  op 42 (.extract (.tmp 36) 0) 72,
  op 43 (.extract (.tmp 36) 1) 4,
  oc 9 (.alloc 72) 0,
  ⟨none, (.store 72 (.tmp 9) (.tmp 42)), 0, "", #[⟨0, .chain⟩], none⟩,
  op 10 (.assign (.tmp 43)) 4]
def F9.r11 : List Oper := [
  op 44 (.move (.tmp 10)) 4,
  op 45 (.unOp .not 4 (.tmp 44)) 4]
def F9.r12 : List Oper := [
  op 46 (.move (.tmp 8)) 3,
  op 47 (.binOp .add 3 (.tmp 46) (.const (.int .i64 1)) 3) 3,
  op 2 (.assign (.const (.pointer none))) 29,
  op 3 (.assign (.const (.int .i64 60))) 26,
  op 4 (.assign (.tmp 47)) 3]
def F9.r13 : List Oper := [
  op 48 (.move (.tmp 6)) 38,
  op 49 (.fieldAddr 72 (.tmp 9) 0) 0,
  od 50 (.load 9 (.tmp 49)) 9,
  oc 51 (.call ⟨(.value (.func 38)), #[(.tmp 48), (.tmp 50)], #[38, 9]⟩) 3,
  op 52 (.binOp .geq 3 (.tmp 51) (.const (.int .i64 0)) 3) 4,
  op 53 (.move (.tmp 52)) 4,
  ⟨(some 54), (.fieldAddr 72 (.tmp 9) 2), 0, "", #[], (some (53, false))⟩,
  ⟨(some 55), (.load 22 (.tmp 54)), 22, "", #[⟨0, .data⟩], (some (53, false))⟩,
  ⟨(some 56), (.call ⟨(.value (.func 39)), #[(.tmp 55)], #[22]⟩), 4, "", #[⟨0, .chain⟩], (some (53, false))⟩,
  op 57 (.pick (.tmp 53) (.const (.bool true)) (.tmp 56)) 4]
def F9.r14 : List Oper := [
  op 58 (.move (.tmp 8)) 3,
  op 59 (.binOp .add 3 (.tmp 58) (.const (.int .i64 1)) 3) 3,
  op 2 (.assign (.const (.pointer none))) 29,
  op 3 (.assign (.const (.int .i64 61))) 26,
  op 4 (.assign (.tmp 59)) 3]
def F9.r15 : List Oper := [
  op 60 (.move (.tmp 6)) 38,
  od 61 (.load 72 (.tmp 9)) 72,
  oc 62 (.buildSlice 38 1 #[(0, (.tmp 61))]) 38,
  oc 63 (.call ⟨(.builtin .append), #[(.tmp 60), (.tmp 62)], #[38, 38]⟩) 38,
  op 6 (.assign (.tmp 63)) 38]
def F9.r16 : List Oper := [
  op 64 (.move (.tmp 7)) 68,
  op 65 (.move (.tmp 8)) 3,
  op 66 (.binOp .add 3 (.tmp 65) (.const (.int .i64 1)) 3) 3,
  oc 67 (.buildSlice 68 1 #[(0, (.tmp 66))]) 68,
  oc 68 (.call ⟨(.builtin .append), #[(.tmp 64), (.tmp 67)], #[68, 68]⟩) 68,
  op 7 (.assign (.tmp 68)) 68]
def F9.r8 : List Oper := [
  op 21 (.move (.tmp 8)) 3,
  op 22 (.binOp .add 3 (.tmp 21) (.const (.int .i64 1)) 3) 3,
  op 8 (.assign (.tmp 22)) 3]
def F9.r17 : List Oper := [
  op 11 (.assign (.const (.int .i64 0))) 3]
def F9.r18 : List Oper := [
  op 69 (.move (.tmp 11)) 3,
  op 70 (.move (.tmp 6)) 38,
  op 71 (.call ⟨(.builtin .len), #[(.tmp 70)], #[38]⟩) 3,
  op 72 (.binOp .lss 3 (.tmp 69) (.tmp 71) 3) 4]
def F9.r20 : List Oper := [
  op 75 (.move (.tmp 6)) 38,
  op 76 (.move (.tmp 6)) 38,
  op 77 (.move (.tmp 11)) 3,
  op 78 (.indexAddr 38 (.tmp 76) (.tmp 77)) 0,
  od 79 (.load 72 (.tmp 78)) 72,
  oc 80 (.call ⟨(.value (.func 40)), #[(.tmp 75), (.tmp 79)], #[38, 72]⟩) 4,
  op 81 (.unOp .not 4 (.tmp 80)) 4]
def F9.r21 : List Oper := [
  ⟨(some 82), (.move (.tmp 7)), 68, "", #[], none⟩,
  ⟨(some 83), (.move (.tmp 11)), 3, "", #[], none⟩,
  ⟨(some 84), (.indexAddr 68 (.tmp 82) (.tmp 83)), 0, "", #[], none⟩,
  ⟨(some 2), (.assign (.const (.pointer none))), 29, "", #[], none⟩,
  ⟨(some 3), (.assign (.const (.int .i64 62))), 26, "", #[], none⟩,
  ⟨(some 85), (.load 3 (.tmp 84)), 3, "", #[⟨0, .data⟩], none⟩,
  ⟨(some 4), (.assign (.tmp 85)), 3, "", #[], none⟩]
def F9.r19 : List Oper := [
  op 73 (.move (.tmp 11)) 3,
  op 74 (.binOp .add 3 (.tmp 73) (.const (.int .i64 1)) 3) 3,
  op 11 (.assign (.tmp 74)) 3]
def F9.r22 : List Oper := [
  op 86 (.move (.tmp 6)) 38,
  oc 87 (.call ⟨(.value (.func 41)), #[(.tmp 86)], #[38]⟩) 3,
  op 88 (.binOp .gtr 3 (.tmp 87) (.const (.int .i64 65536)) 3) 4]
def F9.r23 : List Oper := [
  op 2 (.assign (.const (.pointer none))) 29,
  op 3 (.assign (.const (.int .i64 1))) 26,
  op 4 (.assign (.const (.int .i64 0))) 3]
def F9.r24 : List Oper := [
  op 89 (.move (.tmp 6)) 38,
  op 90 (.build 84 #[(0, (.tmp 89))]) 84,
  oc 91 (.box 84 (.tmp 90)) 29,
  op 2 (.assign (.tmp 91)) 29,
  op 3 (.assign (.const (.int .i64 0))) 26,
  op 4 (.assign (.const (.int .i64 0))) 3]
def F9.t15 : Cd := (.seq (.region 15 F9.r15.toArray false) (.region 16 F9.r16.toArray false))
theorem F9.t15_eq {θ : Tag (F9.t15, Q, e, w)} : cwE P F9.t15 Q e w θ = cwE P (.seq (.region 15 F9.r15.toArray false) (.region 16 F9.r16.toArray false)) Q e w := rfl
def F9.t13 : Cd := (.seq (.seq (.region 13 F9.r13.toArray false) (.cond (.tmp 57) (.seq (.region 14 F9.r14.toArray false) .ret) .skip)) F9.t15)
theorem F9.t13_eq {θ : Tag (F9.t13, Q, e, w)} : cwE P F9.t13 Q e w θ = cwE P (.seq (.seq (.region 13 F9.r13.toArray false) (.cond (.tmp 57) (.seq (.region 14 F9.r14.toArray false) .ret) .skip)) F9.t15) Q e w := rfl
def F9.t10 : Cd := (.seq (.region 10 F9.r10.toArray false) (.seq (.seq (.region 11 F9.r11.toArray false) (.cond (.tmp 45) (.seq (.region 12 F9.r12.toArray false) .ret) .skip)) F9.t13))
theorem F9.t10_eq {θ : Tag (F9.t10, Q, e, w)} : cwE P F9.t10 Q e w θ = cwE P (.seq (.region 10 F9.r10.toArray false) (.seq (.seq (.region 11 F9.r11.toArray false) (.cond (.tmp 45) (.seq (.region 12 F9.r12.toArray false) .ret) .skip)) F9.t13)) Q e w := rfl
def F9.t8 : Cd := (.region 8 F9.r8.toArray false)
theorem F9.t8_eq {θ : Tag (F9.t8, Q, e, w)} : cwE P F9.t8 Q e w θ = cwE P (.region 8 F9.r8.toArray false) Q e w := rfl
def F9.t9 : Cd := (.seq (.block 1 (.seq (.seq (.region 9 F9.r9.toArray false) (.cond (.tmp 35) (.exit 1) .skip)) F9.t10)) F9.t8)
theorem F9.t9_eq {θ : Tag (F9.t9, Q, e, w)} : cwE P F9.t9 Q e w θ = cwE P (.seq (.block 1 (.seq (.seq (.region 9 F9.r9.toArray false) (.cond (.tmp 35) (.exit 1) .skip)) F9.t10)) F9.t8) Q e w := rfl
def F9.t19 : Cd := (.region 19 F9.r19.toArray false)
theorem F9.t19_eq {θ : Tag (F9.t19, Q, e, w)} : cwE P F9.t19 Q e w θ = cwE P (.region 19 F9.r19.toArray false) Q e w := rfl
def F9.t20 : Cd := (.seq (.block 3 (.seq (.region 20 F9.r20.toArray false) (.cond (.tmp 81) (.seq (.region 21 F9.r21.toArray true) .ret) .skip))) F9.t19)
theorem F9.t20_eq {θ : Tag (F9.t20, Q, e, w)} : cwE P F9.t20 Q e w θ = cwE P (.seq (.block 3 (.seq (.region 20 F9.r20.toArray false) (.cond (.tmp 81) (.seq (.region 21 F9.r21.toArray true) .ret) .skip))) F9.t19) Q e w := rfl
def F9.t24 : Cd := (.seq (.region 24 F9.r24.toArray false) .ret)
theorem F9.t24_eq {θ : Tag (F9.t24, Q, e, w)} : cwE P F9.t24 Q e w θ = cwE P (.seq (.region 24 F9.r24.toArray false) .ret) Q e w := rfl
def F9.t22 : Cd := (.seq (.seq (.region 22 F9.r22.toArray false) (.cond (.tmp 88) (.seq (.region 23 F9.r23.toArray false) .ret) .skip)) F9.t24)
theorem F9.t22_eq {θ : Tag (F9.t22, Q, e, w)} : cwE P F9.t22 Q e w θ = cwE P (.seq (.seq (.region 22 F9.r22.toArray false) (.cond (.tmp 88) (.seq (.region 23 F9.r23.toArray false) .ret) .skip)) F9.t24) Q e w := rfl
def F9.t17 : Cd := (.seq (.seq (.region 17 F9.r17.toArray false) (.block 2 (.loop (.seq (.seq (.region 18 F9.r18.toArray false) (.cond (.tmp 72) .skip (.exit 2))) F9.t20)))) F9.t22)
theorem F9.t17_eq {θ : Tag (F9.t17, Q, e, w)} : cwE P F9.t17 Q e w θ = cwE P (.seq (.seq (.region 17 F9.r17.toArray false) (.block 2 (.loop (.seq (.seq (.region 18 F9.r18.toArray false) (.cond (.tmp 72) .skip (.exit 2))) F9.t20)))) F9.t22) Q e w := rfl
def F9.t3 : Cd := (.seq (.region 3 F9.r3.toArray false) (.seq (.region 4 F9.r4.toArray false) (.seq (.region 5 F9.r5.toArray false) (.seq (.seq (.region 6 F9.r6.toArray false) (.block 0 (.loop (.seq (.seq (.region 7 F9.r7.toArray false) (.cond (.tmp 20) .skip (.exit 0))) F9.t9)))) F9.t17))))
theorem F9.t3_eq {θ : Tag (F9.t3, Q, e, w)} : cwE P F9.t3 Q e w θ = cwE P (.seq (.region 3 F9.r3.toArray false) (.seq (.region 4 F9.r4.toArray false) (.seq (.region 5 F9.r5.toArray false) (.seq (.seq (.region 6 F9.r6.toArray false) (.block 0 (.loop (.seq (.seq (.region 7 F9.r7.toArray false) (.cond (.tmp 20) .skip (.exit 0))) F9.t9)))) F9.t17)))) Q e w := rfl
def F9.code : Cd := (.seq (.region 0 F9.r0.toArray false) (.seq (.seq (.region 1 F9.r1.toArray false) (.cond (.tmp 14) (.seq (.region 2 F9.r2.toArray false) .ret) .skip)) F9.t3))
theorem F9.calls (hn : args.size ≤ 92) (h : cwE Tryz.prog F9.code (fnP Tryz.prog #[(.tmp 2), (.tmp 3), (.tmp 4)] R) (entry args) w) : Calls Tryz.prog 9 args w R :=
  calls_of_cwE (types := Tryz.prog.types) follows Tryz.func9 F9.code rfl (by kernel_rfl) hn h

def F10.r0 : List Oper := [
  op 8 (.assign (.const (.bool false))) 4]
def F10.r1 : List Oper := [
  op 18 (.move (.tmp 0)) 25,
  op 19 (.move (.tmp 3)) 32,
  oc 20 (.call ⟨(.value (.func 42)), #[(.tmp 18), (.const (.int .i64 0)), (.tmp 19)], #[25, 3, 32]⟩) 85,
  op 17 (.move (.tmp 20)) 85,
  op 21 (.extract (.tmp 17) 0) 38,
  op 22 (.extract (.tmp 17) 1) 4,
  op 9 (.assign (.tmp 21)) 38,
  op 10 (.assign (.tmp 22)) 4]
def F10.r2 : List Oper := [
  op 23 (.move (.tmp 1)) 29,
  oc 24 (.call ⟨(.value (.func 43)), #[(.tmp 23)], #[29]⟩) 38,
  op 11 (.assign (.tmp 24)) 38]
def F10.r3 : List Oper := [
  op 25 (.move (.tmp 9)) 38,
  op 26 (.move (.tmp 11)) 38,
  oc 27 (.call ⟨(.value (.func 44)), #[(.tmp 25), (.tmp 26)], #[38, 38]⟩) 4,
  op 12 (.assign (.tmp 27)) 4]
def F10.r4 : List Oper := [
  op 28 (.move (.tmp 10)) 4,
  op 29 (.unOp .not 4 (.tmp 28)) 4,
  op 30 (.move (.tmp 29)) 4,
  ⟨(some 31), (.move (.tmp 12)), 4, "", #[], (some (30, false))⟩,
  ⟨(some 32), (.unOp .not 4 (.tmp 31)), 4, "", #[], (some (30, false))⟩,
  op 33 (.pick (.tmp 30) (.const (.bool true)) (.tmp 32)) 4,
  op 34 (.move (.tmp 33)) 4,
  ⟨(some 35), (.move (.tmp 0)), 25, "", #[], (some (34, false))⟩,
  ⟨(some 36), (.call ⟨(.value (.func 45)), #[(.tmp 35)], #[25]⟩), 9, "", #[⟨0, .chain⟩], (some (34, false))⟩,
  ⟨(some 37), (.move (.tmp 1)), 29, "", #[], (some (34, false))⟩,
  ⟨(some 38), (.call ⟨(.value (.func 46)), #[(.tmp 37)], #[29]⟩), 9, "", #[⟨0, .chain⟩], (some (34, false))⟩,
  ⟨(some 39), (.binOp .neq 9 (.tmp 36) (.tmp 38) 9), 4, "", #[], (some (34, false))⟩,
  op 40 (.pick (.tmp 34) (.const (.bool true)) (.tmp 39)) 4]
def F10.r5 : List Oper := [
  op 8 (.assign (.const (.bool false))) 4]
def F10.r6 : List Oper := [
  op 13 (.assign (.const (.slice none 0 0))) 22]
def F10.r7 : List Oper := [
  op 41 (.move (.tmp 13)) 22,
  op 42 (.move (.tmp 2)) 22,
  oc 43 (.call ⟨(.builtin .append), #[(.tmp 41), (.tmp 42)], #[22, 22]⟩) 22,
  op 13 (.assign (.tmp 43)) 22]
def F10.r8 : List Oper := [
  op 14 (.assign (.const (.int .i64 0))) 3]
def F10.r9 : List Oper := [
  op 44 (.move (.tmp 14)) 3,
  op 45 (.move (.tmp 11)) 38,
  op 46 (.call ⟨(.builtin .len), #[(.tmp 45)], #[38]⟩) 3,
  op 47 (.binOp .lss 3 (.tmp 44) (.tmp 46) 3) 4,
  op 48 (.move (.tmp 47)) 4,
  ⟨(some 49), (.move (.tmp 14)), 3, "", #[], (some (48, true))⟩,
  ⟨(some 50), (.binOp .lss 3 (.tmp 49) (.const (.int .i64 8)) 3), 4, "", #[], (some (48, true))⟩,
  op 51 (.pick (.tmp 48) (.tmp 50) (.const (.bool false))) 4]
def F10.r11 : List Oper := [
  op 54 (.move (.tmp 13)) 22,
  op 55 (.move (.tmp 11)) 38,
  op 56 (.move (.tmp 14)) 3,
  op 57 (.indexAddr 38 (.tmp 55) (.tmp 56)) 0,
  op 58 (.fieldAddr 72 (.tmp 57) 0) 0,
  od 59 (.load 9 (.tmp 58)) 9,
  oc 60 (.buildSlice 22 1 #[(0, (.tmp 59))]) 22,
  oc 61 (.call ⟨(.builtin .append), #[(.tmp 54), (.tmp 60)], #[22, 22]⟩) 22,
  op 13 (.assign (.tmp 61)) 22]
def F10.r10 : List Oper := [
  op 52 (.move (.tmp 14)) 3,
  op 53 (.binOp .add 3 (.tmp 52) (.const (.int .i64 1)) 3) 3,
  op 14 (.assign (.tmp 53)) 3]
def F10.r12 : List Oper := [
  op 15 (.assign (.const (.int .i64 0))) 3]
def F10.r13 : List Oper := [
  op 62 (.move (.tmp 15)) 3,
  op 63 (.move (.tmp 13)) 22,
  op 64 (.call ⟨(.builtin .len), #[(.tmp 63)], #[22]⟩) 3,
  op 65 (.binOp .lss 3 (.tmp 62) (.tmp 64) 3) 4]
def F10.r15 : List Oper := [
  op 16 (.assign (.const (.int .i64 0))) 3]
def F10.r16 : List Oper := [
  op 68 (.move (.tmp 16)) 3,
  op 69 (.move (.tmp 15)) 3,
  op 70 (.binOp .leq 3 (.tmp 68) (.tmp 69) 3) 4]
def F10.r18 : List Oper := [
  ⟨(some 73), (.move (.tmp 0)), 25, "", #[], none⟩,
  ⟨(some 74), (.move (.tmp 1)), 29, "", #[], none⟩,
  ⟨(some 75), (.move (.tmp 13)), 22, "", #[], none⟩,
  ⟨(some 76), (.move (.tmp 15)), 3, "", #[], none⟩,
  ⟨(some 77), (.indexAddr 22 (.tmp 75) (.tmp 76)), 0, "", #[], none⟩,
  ⟨(some 79), (.move (.tmp 13)), 22, "", #[], none⟩,
  ⟨(some 80), (.move (.tmp 16)), 3, "", #[], none⟩,
  ⟨(some 81), (.indexAddr 22 (.tmp 79) (.tmp 80)), 0, "", #[], none⟩,
  ⟨(some 83), (.move (.tmp 3)), 32, "", #[], none⟩,
  ⟨(some 78), (.load 9 (.tmp 77)), 9, "", #[⟨2048, .data⟩], none⟩,
  ⟨(some 82), (.load 9 (.tmp 81)), 9, "", #[⟨2048, .data⟩], none⟩,
  ⟨(some 84), (.call ⟨(.value (.func 47)), #[(.tmp 73), (.tmp 74), (.tmp 78), (.tmp 82), (.tmp 83)], #[25, 29, 9, 9, 32]⟩), 4, "", #[⟨11, .chain⟩], none⟩,
  ⟨(some 12), (.assign (.tmp 84)), 4, "", #[], none⟩]
def F10.r19 : List Oper := [
  op 85 (.move (.tmp 12)) 4,
  op 86 (.unOp .not 4 (.tmp 85)) 4]
def F10.r20 : List Oper := [
  op 8 (.assign (.const (.bool false))) 4]
def F10.r17 : List Oper := [
  op 71 (.move (.tmp 16)) 3,
  op 72 (.binOp .add 3 (.tmp 71) (.const (.int .i64 1)) 3) 3,
  op 16 (.assign (.tmp 72)) 3]
def F10.r14 : List Oper := [
  op 66 (.move (.tmp 15)) 3,
  op 67 (.binOp .add 3 (.tmp 66) (.const (.int .i64 1)) 3) 3,
  op 15 (.assign (.tmp 67)) 3]
def F10.r21 : List Oper := [
  op 87 (.move (.tmp 3)) 32,
  oc 88 (.call ⟨(.value (.func 48)), #[(.tmp 87)], #[32]⟩) 4,
  op 8 (.assign (.tmp 88)) 4]
def F10.t10 : Cd := (.region 10 F10.r10.toArray false)
theorem F10.t10_eq {θ : Tag (F10.t10, Q, e, w)} : cwE P F10.t10 Q e w θ = cwE P (.region 10 F10.r10.toArray false) Q e w := rfl
def F10.t11 : Cd := (.seq (.block 1 (.region 11 F10.r11.toArray false)) F10.t10)
theorem F10.t11_eq {θ : Tag (F10.t11, Q, e, w)} : cwE P F10.t11 Q e w θ = cwE P (.seq (.block 1 (.region 11 F10.r11.toArray false)) F10.t10) Q e w := rfl
def F10.t17 : Cd := (.region 17 F10.r17.toArray false)
theorem F10.t17_eq {θ : Tag (F10.t17, Q, e, w)} : cwE P F10.t17 Q e w θ = cwE P (.region 17 F10.r17.toArray false) Q e w := rfl
def F10.t18 : Cd := (.seq (.block 5 (.seq (.region 18 F10.r18.toArray true) (.seq (.region 19 F10.r19.toArray false) (.cond (.tmp 86) (.seq (.region 20 F10.r20.toArray false) .ret) .skip)))) F10.t17)
theorem F10.t18_eq {θ : Tag (F10.t18, Q, e, w)} : cwE P F10.t18 Q e w θ = cwE P (.seq (.block 5 (.seq (.region 18 F10.r18.toArray true) (.seq (.region 19 F10.r19.toArray false) (.cond (.tmp 86) (.seq (.region 20 F10.r20.toArray false) .ret) .skip)))) F10.t17) Q e w := rfl
def F10.t14 : Cd := (.region 14 F10.r14.toArray false)
theorem F10.t14_eq {θ : Tag (F10.t14, Q, e, w)} : cwE P F10.t14 Q e w θ = cwE P (.region 14 F10.r14.toArray false) Q e w := rfl
def F10.t15 : Cd := (.seq (.block 3 (.seq (.region 15 F10.r15.toArray false) (.block 4 (.loop (.seq (.seq (.region 16 F10.r16.toArray false) (.cond (.tmp 70) .skip (.exit 4))) F10.t18))))) F10.t14)
theorem F10.t15_eq {θ : Tag (F10.t15, Q, e, w)} : cwE P F10.t15 Q e w θ = cwE P (.seq (.block 3 (.seq (.region 15 F10.r15.toArray false) (.block 4 (.loop (.seq (.seq (.region 16 F10.r16.toArray false) (.cond (.tmp 70) .skip (.exit 4))) F10.t18))))) F10.t14) Q e w := rfl
def F10.t21 : Cd := (.seq (.region 21 F10.r21.toArray false) .ret)
theorem F10.t21_eq {θ : Tag (F10.t21, Q, e, w)} : cwE P F10.t21 Q e w θ = cwE P (.seq (.region 21 F10.r21.toArray false) .ret) Q e w := rfl
def F10.t12 : Cd := (.seq (.seq (.region 12 F10.r12.toArray false) (.block 2 (.loop (.seq (.seq (.region 13 F10.r13.toArray false) (.cond (.tmp 65) .skip (.exit 2))) F10.t15)))) F10.t21)
theorem F10.t12_eq {θ : Tag (F10.t12, Q, e, w)} : cwE P F10.t12 Q e w θ = cwE P (.seq (.seq (.region 12 F10.r12.toArray false) (.block 2 (.loop (.seq (.seq (.region 13 F10.r13.toArray false) (.cond (.tmp 65) .skip (.exit 2))) F10.t15)))) F10.t21) Q e w := rfl
def F10.t6 : Cd := (.seq (.region 6 F10.r6.toArray false) (.seq (.region 7 F10.r7.toArray false) (.seq (.seq (.region 8 F10.r8.toArray false) (.block 0 (.loop (.seq (.seq (.region 9 F10.r9.toArray false) (.cond (.tmp 51) .skip (.exit 0))) F10.t11)))) F10.t12)))
theorem F10.t6_eq {θ : Tag (F10.t6, Q, e, w)} : cwE P F10.t6 Q e w θ = cwE P (.seq (.region 6 F10.r6.toArray false) (.seq (.region 7 F10.r7.toArray false) (.seq (.seq (.region 8 F10.r8.toArray false) (.block 0 (.loop (.seq (.seq (.region 9 F10.r9.toArray false) (.cond (.tmp 51) .skip (.exit 0))) F10.t11)))) F10.t12))) Q e w := rfl
def F10.code : Cd := (.seq (.region 0 F10.r0.toArray false) (.seq (.region 1 F10.r1.toArray false) (.seq (.region 2 F10.r2.toArray false) (.seq (.region 3 F10.r3.toArray false) (.seq (.seq (.region 4 F10.r4.toArray false) (.cond (.tmp 40) (.seq (.region 5 F10.r5.toArray false) .ret) .skip)) F10.t6)))))
theorem F10.calls (hn : args.size ≤ 89) (h : cwE Tryz.prog F10.code (fnP Tryz.prog #[(.tmp 8)] R) (entry args) w) : Calls Tryz.prog 10 args w R :=
  calls_of_cwE (types := Tryz.prog.types) follows Tryz.func10 F10.code rfl (by kernel_rfl) hn h

def F11.r0 : List Oper := [
  op 2 (.assign (.const (.bool false))) 4]
def F11.r1 : List Oper := [
  op 5 (.move (.tmp 0)) 32,
  oc 6 (.call ⟨(.value (.func 48)), #[(.tmp 5)], #[32]⟩) 4,
  op 3 (.assign (.tmp 6)) 4]
def F11.r2 : List Oper := [
  op 7 (.move (.tmp 0)) 32,
  oc 8 (.call ⟨(.value (.func 48)), #[(.tmp 7)], #[32]⟩) 4,
  op 4 (.assign (.tmp 8)) 4]
def F11.r3 : List Oper := [
  op 9 (.move (.tmp 3)) 4,
  op 10 (.move (.tmp 9)) 4,
  ⟨(some 11), (.move (.tmp 4)), 4, "", #[], (some (10, true))⟩,
  op 12 (.pick (.tmp 10) (.tmp 11) (.const (.bool false))) 4,
  op 2 (.assign (.tmp 12)) 4]
def F11.code : Cd := (.seq (.region 0 F11.r0.toArray false) (.seq (.region 1 F11.r1.toArray false) (.seq (.region 2 F11.r2.toArray false) (.seq (.region 3 F11.r3.toArray false) .ret))))
theorem F11.calls (hn : args.size ≤ 13) (h : cwE Tryz.prog F11.code (fnP Tryz.prog #[(.tmp 2)] R) (entry args) w) : Calls Tryz.prog 11 args w R :=
  calls_of_cwE (types := Tryz.prog.types) follows Tryz.func11 F11.code rfl (by kernel_rfl) hn h

def F12.r0 : List Oper := [
  op 2 (.assign (.const (.int .i64 0))) 3]
def F12.r1 : List Oper := [
  op 3 (.assign (.const (.int .i64 0))) 3]
def F12.r2 : List Oper := [
  op 4 (.assign (.const (.int .i64 0))) 3]
def F12.r3 : List Oper := [
  op 5 (.move (.tmp 4)) 3,
  op 6 (.move (.tmp 0)) 38,
  op 7 (.call ⟨(.builtin .len), #[(.tmp 6)], #[38]⟩) 3,
  op 8 (.binOp .lss 3 (.tmp 5) (.tmp 7) 3) 4,
  op 9 (.move (.tmp 8)) 4,
  ⟨(some 10), (.move (.tmp 3)), 3, "", #[], (some (9, true))⟩,
  ⟨(some 11), (.binOp .leq 3 (.tmp 10) (.const (.int .i64 8388608)) 3), 4, "", #[], (some (9, true))⟩,
  op 12 (.pick (.tmp 9) (.tmp 11) (.const (.bool false))) 4]
def F12.r5 : List Oper := [
  ⟨(some 15), (.move (.tmp 3)), 3, "", #[], none⟩,
  ⟨(some 16), (.binOp .add 3 (.tmp 15) (.const (.int .i64 16)) 3), 3, "", #[], none⟩,
  ⟨(some 17), (.move (.tmp 0)), 38, "", #[], none⟩,
  ⟨(some 18), (.move (.tmp 4)), 3, "", #[], none⟩,
  ⟨(some 19), (.indexAddr 38 (.tmp 17) (.tmp 18)), 0, "", #[], none⟩,
  ⟨(some 20), (.fieldAddr 72 (.tmp 19) 0), 0, "", #[], none⟩,
  ⟨(some 24), (.move (.tmp 0)), 38, "", #[], none⟩,
  ⟨(some 25), (.move (.tmp 4)), 3, "", #[], none⟩,
  ⟨(some 26), (.indexAddr 38 (.tmp 24) (.tmp 25)), 0, "", #[], none⟩,
  ⟨(some 27), (.fieldAddr 72 (.tmp 26) 1), 0, "", #[], none⟩,
  ⟨(some 31), (.move (.tmp 0)), 38, "", #[], none⟩,
  ⟨(some 32), (.move (.tmp 4)), 3, "", #[], none⟩,
  ⟨(some 33), (.indexAddr 38 (.tmp 31) (.tmp 32)), 0, "", #[], none⟩,
  ⟨(some 34), (.fieldAddr 72 (.tmp 33) 3), 0, "", #[], none⟩,
  ⟨(some 38), (.move (.tmp 0)), 38, "", #[], none⟩,
  ⟨(some 39), (.move (.tmp 4)), 3, "", #[], none⟩,
  ⟨(some 40), (.indexAddr 38 (.tmp 38) (.tmp 39)), 0, "", #[], none⟩,
  ⟨(some 41), (.fieldAddr 72 (.tmp 40) 2), 0, "", #[], none⟩,
  ⟨(some 21), (.load 9 (.tmp 20)), 9, "", #[⟨0, .data⟩], none⟩,
  ⟨(some 22), (.call ⟨(.builtin .len), #[(.tmp 21)], #[9]⟩), 3, "", #[], none⟩,
  ⟨(some 23), (.binOp .add 3 (.tmp 16) (.tmp 22) 3), 3, "", #[], none⟩,
  ⟨(some 28), (.load 9 (.tmp 27)), 9, "", #[⟨0, .data⟩], none⟩,
  ⟨(some 29), (.call ⟨(.builtin .len), #[(.tmp 28)], #[9]⟩), 3, "", #[], none⟩,
  ⟨(some 30), (.binOp .add 3 (.tmp 23) (.tmp 29) 3), 3, "", #[], none⟩,
  ⟨(some 35), (.load 9 (.tmp 34)), 9, "", #[⟨0, .data⟩], none⟩,
  ⟨(some 36), (.call ⟨(.builtin .len), #[(.tmp 35)], #[9]⟩), 3, "", #[], none⟩,
  ⟨(some 37), (.binOp .add 3 (.tmp 30) (.tmp 36) 3), 3, "", #[], none⟩,
  ⟨(some 42), (.load 22 (.tmp 41)), 22, "", #[⟨268435456, .data⟩], none⟩,
  ⟨(some 43), (.call ⟨(.value (.func 7)), #[(.tmp 42)], #[22]⟩), 3, "", #[⟨28, .chain⟩], none⟩,
  ⟨(some 44), (.binOp .add 3 (.tmp 37) (.tmp 43) 3), 3, "", #[], none⟩,
  ⟨(some 3), (.assign (.tmp 44)), 3, "", #[], none⟩]
def F12.r4 : List Oper := [
  op 13 (.move (.tmp 4)) 3,
  op 14 (.binOp .add 3 (.tmp 13) (.const (.int .i64 1)) 3) 3,
  op 4 (.assign (.tmp 14)) 3]
def F12.r6 : List Oper := [
  op 45 (.move (.tmp 3)) 3,
  op 2 (.assign (.tmp 45)) 3]
def F12.t4 : Cd := (.region 4 F12.r4.toArray false)
theorem F12.t4_eq {θ : Tag (F12.t4, Q, e, w)} : cwE P F12.t4 Q e w θ = cwE P (.region 4 F12.r4.toArray false) Q e w := rfl
def F12.t5 : Cd := (.seq (.block 1 (.region 5 F12.r5.toArray true)) F12.t4)
theorem F12.t5_eq {θ : Tag (F12.t5, Q, e, w)} : cwE P F12.t5 Q e w θ = cwE P (.seq (.block 1 (.region 5 F12.r5.toArray true)) F12.t4) Q e w := rfl
def F12.t6 : Cd := (.seq (.region 6 F12.r6.toArray false) .ret)
theorem F12.t6_eq {θ : Tag (F12.t6, Q, e, w)} : cwE P F12.t6 Q e w θ = cwE P (.seq (.region 6 F12.r6.toArray false) .ret) Q e w := rfl
def F12.code : Cd := (.seq (.region 0 F12.r0.toArray false) (.seq (.region 1 F12.r1.toArray false) (.seq (.seq (.region 2 F12.r2.toArray false) (.block 0 (.loop (.seq (.seq (.region 3 F12.r3.toArray false) (.cond (.tmp 12) .skip (.exit 0))) F12.t5)))) F12.t6)))
theorem F12.calls (hn : args.size ≤ 46) (h : cwE Tryz.prog F12.code (fnP Tryz.prog #[(.tmp 2)] R) (entry args) w) : Calls Tryz.prog 12 args w R :=
  calls_of_cwE (types := Tryz.prog.types) follows Tryz.func12 F12.code rfl (by kernel_rfl) hn h

def F18.r0 : List Oper := [
  op 4 (.assign (.const (.int .i64 0))) 3]
def F18.r1 : List Oper := [
  op 5 (.move (.tmp 0)) 3,
  op 6 (.binOp .lss 3 (.tmp 5) (.const (.int .i64 0)) 3) 4]
def F18.r2 : List Oper := [
  op 7 (.move (.tmp 0)) 3,
  op 8 (.binOp .add 3 (.tmp 7) (.const (.int .i64 1)) 3) 3,
  op 9 (.unOp .neg 3 (.tmp 8)) 3,
  op 0 (.assign (.tmp 9)) 3]
def F18.r3 : List Oper := [
  op 10 (.move (.tmp 0)) 3,
  op 11 (.move (.tmp 1)) 3,
  op 12 (.binOp .rem 3 (.tmp 10) (.tmp 11) 3) 3,
  op 4 (.assign (.tmp 12)) 3]
def F18.t3 : Cd := (.seq (.region 3 F18.r3.toArray false) .ret)
theorem F18.t3_eq {θ : Tag (F18.t3, Q, e, w)} : cwE P F18.t3 Q e w θ = cwE P (.seq (.region 3 F18.r3.toArray false) .ret) Q e w := rfl
def F18.code : Cd := (.seq (.region 0 F18.r0.toArray false) (.seq (.seq (.region 1 F18.r1.toArray false) (.cond (.tmp 6) (.region 2 F18.r2.toArray false) .skip)) F18.t3))
theorem F18.calls (hn : args.size ≤ 13) (h : cwE Tryz.prog F18.code (fnP Tryz.prog #[(.tmp 4)] R) (entry args) w) : Calls Tryz.prog 18 args w R :=
  calls_of_cwE (types := Tryz.prog.types) follows Tryz.func18 F18.code rfl (by kernel_rfl) hn h

def F19.r0 : List Oper := [
  oc 2 (.box 25 (.tmp 0)) 0,
  oc 3 (.box 9 (.tmp 1)) 0,
  op 4 (.assign (.const (.pointer none))) 25,
  op 5 (.assign (.const (.int .i64 0))) 26]
def F19.r1 : List Oper := [
  oc 8 (.makeMap 64 none) 64,
  op 9 (.build 67 #[(1, (.tmp 8))]) 67,
  oc 10 (.box 67 (.tmp 9)) 25,
  oc 6 (.alloc 25) 0,
  ⟨none, (.store 25 (.tmp 6) (.tmp 10)), 0, "", #[⟨0, .chain⟩], none⟩]
def F19.r2 : List Oper := [
  op 11 (.makeFunc (.func 54) #[] #[(.tmp 3), (.tmp 2), (.tmp 6)]) 1,
  oc 12 (.call ⟨(.value (.func 27)), #[(.tmp 11)], #[1]⟩) 26,
  op 7 (.assign (.tmp 12)) 26]
def F19.r3 : List Oper := [
  op 13 (.move (.tmp 7)) 26,
  op 14 (.binOp .neq 26 (.tmp 13) (.const (.int .i64 0)) 26) 4]
def F19.r4 : List Oper := [
  op 15 (.move (.tmp 7)) 26,
  op 4 (.assign (.const (.pointer none))) 25,
  op 5 (.assign (.tmp 15)) 26]
def F19.r5 : List Oper := [
  od 16 (.load 25 (.tmp 6)) 25,
  op 4 (.assign (.tmp 16)) 25,
  op 5 (.assign (.const (.int .i64 0))) 26]
def F19.t5 : Cd := (.seq (.region 5 F19.r5.toArray false) .ret)
theorem F19.t5_eq {θ : Tag (F19.t5, Q, e, w)} : cwE P F19.t5 Q e w θ = cwE P (.seq (.region 5 F19.r5.toArray false) .ret) Q e w := rfl
def F19.code : Cd := (.seq (.region 0 F19.r0.toArray false) (.seq (.region 1 F19.r1.toArray false) (.seq (.region 2 F19.r2.toArray false) (.seq (.seq (.region 3 F19.r3.toArray false) (.cond (.tmp 14) (.seq (.region 4 F19.r4.toArray false) .ret) .skip)) F19.t5))))
theorem F19.calls (hn : args.size ≤ 17) (h : cwE Tryz.prog F19.code (fnP Tryz.prog #[(.tmp 4), (.tmp 5)] R) (entry args) w) : Calls Tryz.prog 19 args w R :=
  calls_of_cwE (types := Tryz.prog.types) follows Tryz.func19 F19.code rfl (by kernel_rfl) hn h

def F20.r0 : List Oper := [
  op 4 (.assign (.const (.pointer none))) 29,
  op 5 (.assign (.const (.int .i64 0))) 26]
def F20.r1 : List Oper := [
  op 10 (.move (.tmp 1)) 9,
  op 11 (.call ⟨(.builtin .len), #[(.tmp 10)], #[9]⟩) 3,
  op 12 (.binOp .gtr 3 (.tmp 11) (.const (.int .i64 0)) 3) 4,
  op 13 (.move (.tmp 12)) 4,
  ⟨(some 14), (.move (.tmp 1)), 9, "", #[], (some (13, true))⟩,
  ⟨(some 15), (.index 9 (.tmp 14) (.const (.int .i64 0))), 5, "", #[], (some (13, true))⟩,
  ⟨(some 16), (.binOp .eql 5 (.tmp 15) (.const (.int .u8 45)) 5), 4, "", #[], (some (13, true))⟩,
  op 17 (.pick (.tmp 13) (.tmp 16) (.const (.bool false))) 4,
  op 18 (.move (.tmp 17)) 4,
  ⟨(some 19), (.move (.tmp 1)), 9, "", #[], (some (18, true))⟩,
  ⟨(some 20), (.slice 9 (.tmp 19) (some (.const (.int .i64 1))) none none), 9, "", #[], (some (18, true))⟩,
  ⟨(some 21), (.call ⟨(.value (.func 59)), #[(.tmp 20)], #[9]⟩), 4, "", #[⟨0, .chain⟩], (some (18, true))⟩,
  op 22 (.pick (.tmp 18) (.tmp 21) (.const (.bool false))) 4]
def F20.r2 : List Oper := [
  op 23 (.move (.tmp 0)) 29,
  op 24 (.move (.tmp 1)) 9,
  op 25 (.slice 9 (.tmp 24) (some (.const (.int .i64 1))) none none) 9,
  oc 26 (.call ⟨(.value (.func 60)), #[(.tmp 23), (.tmp 25)], #[29, 9]⟩) 56,
  op 27 (.extract (.tmp 26) 0) 29,
  op 28 (.extract (.tmp 26) 1) 26,
  op 4 (.assign (.tmp 27)) 29,
  op 5 (.assign (.tmp 28)) 26]
def F20.r3 : List Oper := [
  op 30 (.move (.tmp 1)) 9,
  oc 31 (.call ⟨(.value (.func 37)), #[(.tmp 30)], #[9]⟩) 78,
  op 29 (.move (.tmp 31)) 78,
  op 32 (.extract (.tmp 29) 0) 72,
  op 33 (.extract (.tmp 29) 1) 4,
  oc 6 (.alloc 72) 0,
  ⟨none, (.store 72 (.tmp 6) (.tmp 32)), 0, "", #[⟨0, .chain⟩], none⟩,
  op 7 (.assign (.tmp 33)) 4]
def F20.r4 : List Oper := [
  op 34 (.move (.tmp 7)) 4,
  op 35 (.unOp .not 4 (.tmp 34)) 4]
def F20.r5 : List Oper := [
  op 4 (.assign (.const (.pointer none))) 29,
  op 5 (.assign (.const (.int .i64 60))) 26]
def F20.r6 : List Oper := [
  op 36 (.fieldAddr 72 (.tmp 6) 2) 0,
  od 37 (.load 22 (.tmp 36)) 22,
  oc 38 (.call ⟨(.value (.func 39)), #[(.tmp 37)], #[22]⟩) 4]
def F20.r7 : List Oper := [
  op 4 (.assign (.const (.pointer none))) 29,
  op 5 (.assign (.const (.int .i64 61))) 26]
def F20.r8 : List Oper := [
  op 39 (.move (.tmp 0)) 29,
  oc 40 (.call ⟨(.value (.func 43)), #[(.tmp 39)], #[29]⟩) 38,
  op 8 (.assign (.tmp 40)) 38]
def F20.r9 : List Oper := [
  op 41 (.move (.tmp 8)) 38,
  op 42 (.fieldAddr 72 (.tmp 6) 0) 0,
  od 43 (.load 9 (.tmp 42)) 9,
  oc 44 (.call ⟨(.value (.func 38)), #[(.tmp 41), (.tmp 43)], #[38, 9]⟩) 3,
  op 9 (.assign (.tmp 44)) 3]
def F20.r10 : List Oper := [
  op 45 (.move (.tmp 9)) 3,
  op 46 (.binOp .lss 3 (.tmp 45) (.const (.int .i64 0)) 3) 4]
def F20.r11 : List Oper := [
  op 47 (.move (.tmp 8)) 38,
  od 48 (.load 72 (.tmp 6)) 72,
  oc 49 (.buildSlice 38 1 #[(0, (.tmp 48))]) 38,
  oc 50 (.call ⟨(.builtin .append), #[(.tmp 47), (.tmp 49)], #[38, 38]⟩) 38,
  op 8 (.assign (.tmp 50)) 38]
def F20.r12 : List Oper := [
  op 51 (.move (.tmp 8)) 38,
  op 52 (.move (.tmp 9)) 3,
  od 53 (.load 72 (.tmp 6)) 72,
  op 54 (.indexAddr 38 (.tmp 51) (.tmp 52)) 0,
  ⟨none, (.store 72 (.tmp 54) (.tmp 53)), 0, "", #[⟨0, .chain⟩], none⟩]
def F20.r13 : List Oper := [
  op 55 (.move (.tmp 8)) 38,
  od 56 (.load 72 (.tmp 6)) 72,
  oc 57 (.call ⟨(.value (.func 40)), #[(.tmp 55), (.tmp 56)], #[38, 72]⟩) 4,
  op 58 (.unOp .not 4 (.tmp 57)) 4]
def F20.r14 : List Oper := [
  op 4 (.assign (.const (.pointer none))) 29,
  op 5 (.assign (.const (.int .i64 62))) 26]
def F20.r15 : List Oper := [
  op 59 (.move (.tmp 8)) 38,
  oc 60 (.call ⟨(.value (.func 41)), #[(.tmp 59)], #[38]⟩) 3,
  op 61 (.binOp .gtr 3 (.tmp 60) (.const (.int .i64 65536)) 3) 4]
def F20.r16 : List Oper := [
  op 4 (.assign (.const (.pointer none))) 29,
  op 5 (.assign (.const (.int .i64 1))) 26]
def F20.r17 : List Oper := [
  op 62 (.move (.tmp 8)) 38,
  op 63 (.build 84 #[(0, (.tmp 62))]) 84,
  oc 64 (.box 84 (.tmp 63)) 29,
  op 4 (.assign (.tmp 64)) 29,
  op 5 (.assign (.const (.int .i64 0))) 26]
def F20.t17 : Cd := (.seq (.region 17 F20.r17.toArray false) .ret)
theorem F20.t17_eq {θ : Tag (F20.t17, Q, e, w)} : cwE P F20.t17 Q e w θ = cwE P (.seq (.region 17 F20.r17.toArray false) .ret) Q e w := rfl
def F20.t15 : Cd := (.seq (.seq (.region 15 F20.r15.toArray false) (.cond (.tmp 61) (.seq (.region 16 F20.r16.toArray false) .ret) .skip)) F20.t17)
theorem F20.t15_eq {θ : Tag (F20.t15, Q, e, w)} : cwE P F20.t15 Q e w θ = cwE P (.seq (.seq (.region 15 F20.r15.toArray false) (.cond (.tmp 61) (.seq (.region 16 F20.r16.toArray false) .ret) .skip)) F20.t17) Q e w := rfl
def F20.t13 : Cd := (.seq (.seq (.region 13 F20.r13.toArray false) (.cond (.tmp 58) (.seq (.region 14 F20.r14.toArray false) .ret) .skip)) F20.t15)
theorem F20.t13_eq {θ : Tag (F20.t13, Q, e, w)} : cwE P F20.t13 Q e w θ = cwE P (.seq (.seq (.region 13 F20.r13.toArray false) (.cond (.tmp 58) (.seq (.region 14 F20.r14.toArray false) .ret) .skip)) F20.t15) Q e w := rfl
def F20.t8 : Cd := (.seq (.region 8 F20.r8.toArray false) (.seq (.region 9 F20.r9.toArray false) (.seq (.seq (.region 10 F20.r10.toArray false) (.cond (.tmp 46) (.region 11 F20.r11.toArray false) (.region 12 F20.r12.toArray false))) F20.t13)))
theorem F20.t8_eq {θ : Tag (F20.t8, Q, e, w)} : cwE P F20.t8 Q e w θ = cwE P (.seq (.region 8 F20.r8.toArray false) (.seq (.region 9 F20.r9.toArray false) (.seq (.seq (.region 10 F20.r10.toArray false) (.cond (.tmp 46) (.region 11 F20.r11.toArray false) (.region 12 F20.r12.toArray false))) F20.t13))) Q e w := rfl
def F20.t6 : Cd := (.seq (.seq (.region 6 F20.r6.toArray false) (.cond (.tmp 38) (.seq (.region 7 F20.r7.toArray false) .ret) .skip)) F20.t8)
theorem F20.t6_eq {θ : Tag (F20.t6, Q, e, w)} : cwE P F20.t6 Q e w θ = cwE P (.seq (.seq (.region 6 F20.r6.toArray false) (.cond (.tmp 38) (.seq (.region 7 F20.r7.toArray false) .ret) .skip)) F20.t8) Q e w := rfl
def F20.t3 : Cd := (.seq (.region 3 F20.r3.toArray false) (.seq (.seq (.region 4 F20.r4.toArray false) (.cond (.tmp 35) (.seq (.region 5 F20.r5.toArray false) .ret) .skip)) F20.t6))
theorem F20.t3_eq {θ : Tag (F20.t3, Q, e, w)} : cwE P F20.t3 Q e w θ = cwE P (.seq (.region 3 F20.r3.toArray false) (.seq (.seq (.region 4 F20.r4.toArray false) (.cond (.tmp 35) (.seq (.region 5 F20.r5.toArray false) .ret) .skip)) F20.t6)) Q e w := rfl
def F20.code : Cd := (.seq (.region 0 F20.r0.toArray false) (.seq (.seq (.region 1 F20.r1.toArray false) (.cond (.tmp 22) (.seq (.region 2 F20.r2.toArray false) .ret) .skip)) F20.t3))
theorem F20.calls (hn : args.size ≤ 65) (h : cwE Tryz.prog F20.code (fnP Tryz.prog #[(.tmp 4), (.tmp 5)] R) (entry args) w) : Calls Tryz.prog 20 args w R :=
  calls_of_cwE (types := Tryz.prog.types) follows Tryz.func20 F20.code rfl (by kernel_rfl) hn h

def F21.r0 : List Oper := [
  oc 2 (.box 25 (.tmp 0)) 0,
  oc 3 (.box 9 (.tmp 1)) 0,
  op 4 (.assign (.const (.slice none 0 0))) 22]
def F21.r1 : List Oper := [
  oc 5 (.alloc 22) 0]
def F21.r2 : List Oper := [
  od 7 (.load 25 (.tmp 2)) 25,
  oc 8 (.call ⟨(.value (.func 58)), #[(.tmp 7)], #[25]⟩) 98]
def F21.r3 : List Oper := [
  oc 6 (.alloc 72) 0,
  ⟨none, (.store 72 (.tmp 6) (.tmp 9)), 0, "", #[⟨0, .chain⟩], none⟩]
def F21.r4 : List Oper := [
  od 10 (.load 25 (.tmp 2)) 25,
  od 11 (.load 9 (.tmp 3)) 9,
  op 12 (.fieldAddr 72 (.tmp 6) 0) 0,
  od 13 (.load 9 (.tmp 12)) 9,
  oc 14 (.call ⟨(.value (.func 23)), #[(.tmp 10), (.tmp 11), (.tmp 13)], #[25, 9, 9]⟩) 4]
def F21.r5 : List Oper := [
  od 15 (.load 22 (.tmp 5)) 22,
  op 16 (.fieldAddr 72 (.tmp 6) 0) 0,
  od 17 (.load 9 (.tmp 16)) 9,
  oc 18 (.buildSlice 22 1 #[(0, (.tmp 17))]) 22,
  oc 19 (.call ⟨(.builtin .append), #[(.tmp 15), (.tmp 18)], #[22, 22]⟩) 22,
  ⟨none, (.store 22 (.tmp 5) (.tmp 19)), 0, "", #[⟨0, .chain⟩], none⟩]
def F21.r6 : List Oper := [
  od 20 (.load 22 (.tmp 5)) 22,
  oc 21 (.call ⟨(.value (.func 61)), #[(.tmp 20)], #[22]⟩) 0]
def F21.r7 : List Oper := [
  od 22 (.load 22 (.tmp 5)) 22,
  op 4 (.assign (.tmp 22)) 22]
def F21.a0 : Cd := (.region 3 F21.r3.toArray false)
def F21.b0 : Cd := (.block 1 (.seq (.region 4 F21.r4.toArray false) (.cond (.tmp 14) (.region 5 F21.r5.toArray false) .skip)))
def F21.t6 : Cd := (.seq (.region 6 F21.r6.toArray false) (.seq (.region 7 F21.r7.toArray false) .ret))
theorem F21.t6_eq {θ : Tag (F21.t6, Q, e, w)} : cwE P F21.t6 Q e w θ = cwE P (.seq (.region 6 F21.r6.toArray false) (.seq (.region 7 F21.r7.toArray false) .ret)) Q e w := rfl
def F21.code : Cd := (.seq (.region 0 F21.r0.toArray false) (.seq (.region 1 F21.r1.toArray false) (.seq (.seq (.region 2 F21.r2.toArray false) (.block 0 (.rangeFunc (.tmp 8) #[9] F21.a0 F21.b0))) F21.t6)))
theorem F21.calls (hn : args.size ≤ 23) (h : cwE Tryz.prog F21.code (fnP Tryz.prog #[(.tmp 4)] R) (entry args) w) : Calls Tryz.prog 21 args w R :=
  calls_of_cwE (types := Tryz.prog.types) follows Tryz.func21 F21.code rfl (by kernel_rfl) hn h

def F22.r0 : List Oper := [
  op 4 (.assign (.const (.bool false))) 4]
def F22.r1 : List Oper := [
  op 6 (.move (.tmp 0)) 22,
  op 7 (.call ⟨(.builtin .len), #[(.tmp 6)], #[22]⟩) 3,
  op 8 (.move (.tmp 1)) 22,
  op 9 (.call ⟨(.builtin .len), #[(.tmp 8)], #[22]⟩) 3,
  op 10 (.binOp .neq 3 (.tmp 7) (.tmp 9) 3) 4]
def F22.r2 : List Oper := [
  op 4 (.assign (.const (.bool false))) 4]
def F22.r3 : List Oper := [
  op 5 (.assign (.const (.int .i64 0))) 3]
def F22.r4 : List Oper := [
  op 11 (.move (.tmp 5)) 3,
  op 12 (.move (.tmp 0)) 22,
  op 13 (.call ⟨(.builtin .len), #[(.tmp 12)], #[22]⟩) 3,
  op 14 (.binOp .lss 3 (.tmp 11) (.tmp 13) 3) 4]
def F22.r6 : List Oper := [
  ⟨(some 17), (.move (.tmp 0)), 22, "", #[], none⟩,
  ⟨(some 18), (.move (.tmp 5)), 3, "", #[], none⟩,
  ⟨(some 19), (.indexAddr 22 (.tmp 17) (.tmp 18)), 0, "", #[], none⟩,
  ⟨(some 21), (.move (.tmp 1)), 22, "", #[], none⟩,
  ⟨(some 22), (.move (.tmp 5)), 3, "", #[], none⟩,
  ⟨(some 23), (.indexAddr 22 (.tmp 21) (.tmp 22)), 0, "", #[], none⟩,
  ⟨(some 20), (.load 9 (.tmp 19)), 9, "", #[⟨0, .data⟩], none⟩,
  ⟨(some 24), (.load 9 (.tmp 23)), 9, "", #[⟨0, .data⟩], none⟩,
  ⟨(some 25), (.binOp .neq 9 (.tmp 20) (.tmp 24) 9), 4, "", #[], none⟩]
def F22.r7 : List Oper := [
  op 4 (.assign (.const (.bool false))) 4]
def F22.r5 : List Oper := [
  op 15 (.move (.tmp 5)) 3,
  op 16 (.binOp .add 3 (.tmp 15) (.const (.int .i64 1)) 3) 3,
  op 5 (.assign (.tmp 16)) 3]
def F22.r8 : List Oper := [
  op 4 (.assign (.const (.bool true))) 4]
def F22.t5 : Cd := (.region 5 F22.r5.toArray false)
theorem F22.t5_eq {θ : Tag (F22.t5, Q, e, w)} : cwE P F22.t5 Q e w θ = cwE P (.region 5 F22.r5.toArray false) Q e w := rfl
def F22.t6 : Cd := (.seq (.block 1 (.seq (.region 6 F22.r6.toArray true) (.cond (.tmp 25) (.seq (.region 7 F22.r7.toArray false) .ret) .skip))) F22.t5)
theorem F22.t6_eq {θ : Tag (F22.t6, Q, e, w)} : cwE P F22.t6 Q e w θ = cwE P (.seq (.block 1 (.seq (.region 6 F22.r6.toArray true) (.cond (.tmp 25) (.seq (.region 7 F22.r7.toArray false) .ret) .skip))) F22.t5) Q e w := rfl
def F22.t8 : Cd := (.seq (.region 8 F22.r8.toArray false) .ret)
theorem F22.t8_eq {θ : Tag (F22.t8, Q, e, w)} : cwE P F22.t8 Q e w θ = cwE P (.seq (.region 8 F22.r8.toArray false) .ret) Q e w := rfl
def F22.t3 : Cd := (.seq (.seq (.region 3 F22.r3.toArray false) (.block 0 (.loop (.seq (.seq (.region 4 F22.r4.toArray false) (.cond (.tmp 14) .skip (.exit 0))) F22.t6)))) F22.t8)
theorem F22.t3_eq {θ : Tag (F22.t3, Q, e, w)} : cwE P F22.t3 Q e w θ = cwE P (.seq (.seq (.region 3 F22.r3.toArray false) (.block 0 (.loop (.seq (.seq (.region 4 F22.r4.toArray false) (.cond (.tmp 14) .skip (.exit 0))) F22.t6)))) F22.t8) Q e w := rfl
def F22.code : Cd := (.seq (.region 0 F22.r0.toArray false) (.seq (.seq (.region 1 F22.r1.toArray false) (.cond (.tmp 10) (.seq (.region 2 F22.r2.toArray false) .ret) .skip)) F22.t3))
theorem F22.calls (hn : args.size ≤ 26) (h : cwE Tryz.prog F22.code (fnP Tryz.prog #[(.tmp 4)] R) (entry args) w) : Calls Tryz.prog 22 args w R :=
  calls_of_cwE (types := Tryz.prog.types) follows Tryz.func22 F22.code rfl (by kernel_rfl) hn h

def F23.r0 : List Oper := [
  op 6 (.assign (.const (.bool false))) 4]
def F23.r1 : List Oper := [
  op 10 (.move (.tmp 0)) 25,
  op 11 (.nilCheck (.tmp 10)) 0,
  op 12 (.fieldAddr 67 (.tmp 11) 2) 0,
  od 13 (.load 65 (.tmp 12)) 65,
  op 14 (.move (.tmp 1)) 9,
  op 15 (.move (.tmp 2)) 9,
  op 16 (.build 102 #[(0, (.tmp 14)), (1, (.tmp 15))]) 102,
  od 17 (.lookup 65 (.tmp 13) (.tmp 16) true) 74,
  op 9 (.move (.tmp 17)) 74,
  op 18 (.extract (.tmp 9) 0) 3,
  op 19 (.extract (.tmp 9) 1) 4,
  op 7 (.assign (.tmp 18)) 3,
  op 8 (.assign (.tmp 19)) 4]
def F23.r2 : List Oper := [
  op 20 (.move (.tmp 8)) 4,
  op 6 (.assign (.tmp 20)) 4]
def F23.code : Cd := (.seq (.region 0 F23.r0.toArray false) (.seq (.region 1 F23.r1.toArray false) (.seq (.region 2 F23.r2.toArray false) .ret)))
theorem F23.calls (hn : args.size ≤ 21) (h : cwE Tryz.prog F23.code (fnP Tryz.prog #[(.tmp 6)] R) (entry args) w) : Calls Tryz.prog 23 args w R :=
  calls_of_cwE (types := Tryz.prog.types) follows Tryz.func23 F23.code rfl (by kernel_rfl) hn h

def F24.r0 : List Oper := [
  op 6 (.assign (.const (.bool false))) 4]
def F24.r1 : List Oper := [
  op 11 (.move (.tmp 0)) 25,
  op 12 (.nilCheck (.tmp 11)) 0,
  op 13 (.fieldAddr 67 (.tmp 12) 1) 0,
  od 14 (.load 64 (.tmp 13)) 64,
  op 15 (.move (.tmp 2)) 9,
  od 16 (.lookup 64 (.tmp 14) (.tmp 15) true) 74,
  op 10 (.move (.tmp 16)) 74,
  op 17 (.extract (.tmp 10) 0) 3,
  op 18 (.extract (.tmp 10) 1) 4,
  op 7 (.assign (.tmp 17)) 3,
  op 8 (.assign (.tmp 18)) 4]
def F24.r2 : List Oper := [
  op 19 (.move (.tmp 8)) 4,
  op 20 (.unOp .not 4 (.tmp 19)) 4,
  op 21 (.move (.tmp 20)) 4,
  ⟨(some 22), (.move (.tmp 0)), 25, "", #[], (some (21, false))⟩,
  ⟨(some 23), (.move (.tmp 1)), 9, "", #[], (some (21, false))⟩,
  ⟨(some 24), (.call ⟨(.value (.func 26)), #[(.tmp 22), (.tmp 23)], #[25, 9]⟩), 4, "", #[⟨0, .chain⟩], (some (21, false))⟩,
  ⟨(some 25), (.unOp .not 4 (.tmp 24)), 4, "", #[], (some (21, false))⟩,
  op 26 (.pick (.tmp 21) (.const (.bool true)) (.tmp 25)) 4]
def F24.r3 : List Oper := [
  op 6 (.assign (.const (.bool false))) 4]
def F24.r4 : List Oper := [
  op 27 (.move (.tmp 0)) 25,
  op 28 (.nilCheck (.tmp 27)) 0,
  op 29 (.fieldAddr 67 (.tmp 28) 0) 0,
  od 30 (.load 38 (.tmp 29)) 38,
  op 31 (.move (.tmp 7)) 3,
  op 32 (.indexAddr 38 (.tmp 30) (.tmp 31)) 0,
  op 33 (.fieldAddr 72 (.tmp 32) 1) 0,
  od 34 (.load 9 (.tmp 33)) 9,
  op 9 (.assign (.tmp 34)) 9]
def F24.r5 : List Oper := [
  op 35 (.move (.tmp 9)) 9,
  op 36 (.binOp .neq 9 (.tmp 35) (.const (.string { data := #[] })) 9) 4]
def F24.r6 : List Oper := [
  op 37 (.move (.tmp 9)) 9,
  op 38 (.move (.tmp 1)) 9,
  op 39 (.binOp .eql 9 (.tmp 37) (.tmp 38) 9) 4,
  op 6 (.assign (.tmp 39)) 4]
def F24.r7 : List Oper := [
  op 40 (.move (.tmp 0)) 25,
  op 41 (.move (.tmp 1)) 9,
  op 42 (.move (.tmp 2)) 9,
  oc 43 (.call ⟨(.value (.func 23)), #[(.tmp 40), (.tmp 41), (.tmp 42)], #[25, 9, 9]⟩) 4,
  op 6 (.assign (.tmp 43)) 4]
def F24.t7 : Cd := (.seq (.region 7 F24.r7.toArray false) .ret)
theorem F24.t7_eq {θ : Tag (F24.t7, Q, e, w)} : cwE P F24.t7 Q e w θ = cwE P (.seq (.region 7 F24.r7.toArray false) .ret) Q e w := rfl
def F24.t4 : Cd := (.seq (.seq (.region 4 F24.r4.toArray false) (.seq (.region 5 F24.r5.toArray false) (.cond (.tmp 36) (.seq (.region 6 F24.r6.toArray false) .ret) .skip))) F24.t7)
theorem F24.t4_eq {θ : Tag (F24.t4, Q, e, w)} : cwE P F24.t4 Q e w θ = cwE P (.seq (.seq (.region 4 F24.r4.toArray false) (.seq (.region 5 F24.r5.toArray false) (.cond (.tmp 36) (.seq (.region 6 F24.r6.toArray false) .ret) .skip))) F24.t7) Q e w := rfl
def F24.code : Cd := (.seq (.region 0 F24.r0.toArray false) (.seq (.region 1 F24.r1.toArray false) (.seq (.seq (.region 2 F24.r2.toArray false) (.cond (.tmp 26) (.seq (.region 3 F24.r3.toArray false) .ret) .skip)) F24.t4)))
theorem F24.calls (hn : args.size ≤ 44) (h : cwE Tryz.prog F24.code (fnP Tryz.prog #[(.tmp 6)] R) (entry args) w) : Calls Tryz.prog 24 args w R :=
  calls_of_cwE (types := Tryz.prog.types) follows Tryz.func24 F24.code rfl (by kernel_rfl) hn h

def F25.r0 : List Oper := [
  op 4 (.assign (.const (.string { data := #[] }))) 9]
def F25.r1 : List Oper := [
  op 8 (.move (.tmp 0)) 25,
  op 9 (.nilCheck (.tmp 8)) 0,
  op 10 (.fieldAddr 67 (.tmp 9) 1) 0,
  od 11 (.load 64 (.tmp 10)) 64,
  op 12 (.move (.tmp 1)) 9,
  od 13 (.lookup 64 (.tmp 11) (.tmp 12) true) 74,
  op 7 (.move (.tmp 13)) 74,
  op 14 (.extract (.tmp 7) 0) 3,
  op 15 (.extract (.tmp 7) 1) 4,
  op 5 (.assign (.tmp 14)) 3,
  op 6 (.assign (.tmp 15)) 4]
def F25.r2 : List Oper := [
  op 16 (.move (.tmp 6)) 4]
def F25.r3 : List Oper := [
  op 17 (.move (.tmp 0)) 25,
  op 18 (.nilCheck (.tmp 17)) 0,
  op 19 (.fieldAddr 67 (.tmp 18) 0) 0,
  od 20 (.load 38 (.tmp 19)) 38,
  op 21 (.move (.tmp 5)) 3,
  op 22 (.indexAddr 38 (.tmp 20) (.tmp 21)) 0,
  op 23 (.fieldAddr 72 (.tmp 22) 3) 0,
  od 24 (.load 9 (.tmp 23)) 9,
  op 4 (.assign (.tmp 24)) 9]
def F25.r4 : List Oper := [
  op 4 (.assign (.const (.string { data := #[] }))) 9]
def F25.t4 : Cd := (.seq (.region 4 F25.r4.toArray false) .ret)
theorem F25.t4_eq {θ : Tag (F25.t4, Q, e, w)} : cwE P F25.t4 Q e w θ = cwE P (.seq (.region 4 F25.r4.toArray false) .ret) Q e w := rfl
def F25.code : Cd := (.seq (.region 0 F25.r0.toArray false) (.seq (.seq (.region 1 F25.r1.toArray false) (.seq (.region 2 F25.r2.toArray false) (.cond (.tmp 16) (.seq (.region 3 F25.r3.toArray false) .ret) .skip))) F25.t4))
theorem F25.calls (hn : args.size ≤ 25) (h : cwE Tryz.prog F25.code (fnP Tryz.prog #[(.tmp 4)] R) (entry args) w) : Calls Tryz.prog 25 args w R :=
  calls_of_cwE (types := Tryz.prog.types) follows Tryz.func25 F25.code rfl (by kernel_rfl) hn h

def F26.r0 : List Oper := [
  op 4 (.assign (.const (.bool false))) 4]
def F26.r1 : List Oper := [
  op 8 (.move (.tmp 0)) 25,
  op 9 (.nilCheck (.tmp 8)) 0,
  op 10 (.fieldAddr 67 (.tmp 9) 1) 0,
  od 11 (.load 64 (.tmp 10)) 64,
  op 12 (.move (.tmp 1)) 9,
  od 13 (.lookup 64 (.tmp 11) (.tmp 12) true) 74,
  op 7 (.move (.tmp 13)) 74,
  op 14 (.extract (.tmp 7) 0) 3,
  op 15 (.extract (.tmp 7) 1) 4,
  op 5 (.assign (.tmp 14)) 3,
  op 6 (.assign (.tmp 15)) 4]
def F26.r2 : List Oper := [
  op 16 (.move (.tmp 6)) 4,
  op 4 (.assign (.tmp 16)) 4]
def F26.code : Cd := (.seq (.region 0 F26.r0.toArray false) (.seq (.region 1 F26.r1.toArray false) (.seq (.region 2 F26.r2.toArray false) .ret)))
theorem F26.calls (hn : args.size ≤ 17) (h : cwE Tryz.prog F26.code (fnP Tryz.prog #[(.tmp 4)] R) (entry args) w) : Calls Tryz.prog 26 args w R :=
  calls_of_cwE (types := Tryz.prog.types) follows Tryz.func26 F26.code rfl (by kernel_rfl) hn h

def F27.r0 : List Oper := [
  oc 2 (.alloc 26) 0]
def F27.r1 : List Oper := [
  op 3 (.makeFunc (.func 62) #[] #[(.tmp 2)]) 1,
  ⟨none, (.defer ⟨(.value (.tmp 3)), #[], #[]⟩), 0, "", #[⟨0, .chain⟩], none⟩]
def F27.r2 : List Oper := [
  op 4 (.move (.tmp 0)) 1,
  ⟨(some 5), (.call ⟨(.value (.tmp 4)), #[], #[]⟩), 0, "", #[⟨0, .phase⟩], none⟩]
def F27.r3 : List Oper := [
  ⟨none, (.store 26 (.tmp 2) (.const (.int .i64 0))), 0, "", #[⟨0, .chain⟩], none⟩]
def F27.code : Cd := (.seq (.region 0 F27.r0.toArray false) (.seq (.region 1 F27.r1.toArray false) (.seq (.region 2 F27.r2.toArray false) (.seq (.region 3 F27.r3.toArray false) .ret))))
theorem F27.calls (hn : args.size ≤ 6) (h : cwE Tryz.prog F27.code (fnP Tryz.prog #[(.cell 2 26)] R) (entry args) w) : Calls Tryz.prog 27 args w R :=
  calls_of_cwE (types := Tryz.prog.types) follows Tryz.func27 F27.code rfl (by kernel_rfl) hn h

def F28.r0 : List Oper := [
  od 11 (.load 9 (.tmp 0)) 9,
  oc 12 (.call ⟨(.value (.func 29)), #[(.tmp 11), (.const (.string { data := #[10] }))], #[9, 9]⟩) 22,
  op 13 (.call ⟨(.builtin .len), #[(.tmp 12)], #[22]⟩) 3,
  op 14 (.move (.const (.int .i64 0))) 3]
def F28.r1 : List Oper := [
  op 15 (.binOp .lss 3 (.tmp 14) (.tmp 13) 3) 0]
def F28.r2 : List Oper := [
  op 16 (.move (.tmp 14)) 3,
  op 17 (.indexAddr 22 (.tmp 12) (.tmp 14)) 0,
  od 18 (.load 9 (.tmp 17)) 9,
  op 4 (.assign (.tmp 16)) 3,
  op 5 (.assign (.tmp 18)) 9]
def F28.r3 : List Oper := [
  op 19 (.move (.tmp 4)) 3,
  op 20 (.binOp .add 3 (.tmp 19) (.const (.int .i64 1)) 3) 3,
  ⟨none, (.store 3 (.tmp 1) (.tmp 20)), 0, "", #[⟨0, .chain⟩], none⟩]
def F28.r4 : List Oper := [
  op 21 (.move (.tmp 5)) 9,
  op 22 (.binOp .eql 9 (.tmp 21) (.const (.string { data := #[] })) 9) 4,
  op 23 (.move (.tmp 22)) 4,
  ⟨(some 24), (.move (.tmp 5)), 9, "", #[], (some (23, false))⟩,
  ⟨(some 25), (.index 9 (.tmp 24) (.const (.int .i64 0))), 5, "", #[], (some (23, false))⟩,
  ⟨(some 26), (.binOp .eql 5 (.tmp 25) (.const (.int .u8 35)) 5), 4, "", #[], (some (23, false))⟩,
  op 27 (.pick (.tmp 23) (.const (.bool true)) (.tmp 26)) 4]
def F28.r5 : List Oper := [
  op 28 (.move (.tmp 5)) 9,
  oc 29 (.call ⟨(.value (.func 30)), #[(.tmp 28)], #[9]⟩) 72,
  oc 6 (.alloc 72) 0,
  ⟨none, (.store 72 (.tmp 6) (.tmp 29)), 0, "", #[⟨0, .chain⟩], none⟩]
def F28.r6 : List Oper := [
  ⟨(some 35), (.fieldAddr 72 (.tmp 6) 0), 0, "", #[], none⟩,
  ⟨(some 31), (.load 25 (.tmp 2)), 25, "", #[⟨0, .data⟩], none⟩,
  ⟨(some 32), (.nilCheck (.tmp 31)), 0, "", #[], none⟩,
  ⟨(some 33), (.fieldAddr 67 (.tmp 32) 1), 0, "", #[], none⟩,
  ⟨(some 34), (.load 64 (.tmp 33)), 64, "", #[⟨0, .data⟩], none⟩,
  ⟨(some 36), (.load 9 (.tmp 35)), 9, "", #[⟨0, .data⟩], none⟩,
  ⟨(some 37), (.lookup 64 (.tmp 34) (.tmp 36) true), 74, "", #[⟨0, .data⟩], none⟩,
  ⟨(some 30), (.move (.tmp 37)), 74, "", #[], none⟩,
  ⟨(some 38), (.extract (.tmp 30) 0), 3, "", #[], none⟩,
  ⟨(some 39), (.extract (.tmp 30) 1), 4, "", #[], none⟩,
  ⟨(some 7), (.assign (.tmp 38)), 3, "", #[], none⟩,
  ⟨(some 8), (.assign (.tmp 39)), 4, "", #[], none⟩]
def F28.r7 : List Oper := [
  op 40 (.move (.tmp 8)) 4,
  op 41 (.unOp .not 4 (.tmp 40)) 4,
  oc 42 (.call ⟨(.value (.func 31)), #[(.tmp 41), (.const (.int .i64 61))], #[4, 26]⟩) 0]
def F28.r8 : List Oper := [
  od 43 (.load 72 (.tmp 6)) 72,
  oc 44 (.call ⟨(.value (.func 32)), #[(.tmp 43)], #[72]⟩) 0]
def F28.r9 : List Oper := [
  od 45 (.load 25 (.tmp 2)) 25,
  od 46 (.load 72 (.tmp 6)) 72,
  oc 47 (.call ⟨(.value (.func 33)), #[(.tmp 45), (.tmp 46)], #[25, 72]⟩) 0]
def F28.r10 : List Oper := [
  od 48 (.load 68 (.tmp 3)) 68,
  od 49 (.load 3 (.tmp 1)) 3,
  oc 50 (.buildSlice 68 1 #[(0, (.tmp 49))]) 68,
  oc 51 (.call ⟨(.builtin .append), #[(.tmp 48), (.tmp 50)], #[68, 68]⟩) 68,
  ⟨none, (.store 68 (.tmp 3) (.tmp 51)), 0, "", #[⟨0, .chain⟩], none⟩]
def F28.r11 : List Oper := [
  op 52 (.binOp .add 3 (.tmp 14) (.const (.int .i64 1)) 3) 3,
  op 14 (.move (.tmp 52)) 3]
def F28.r12 : List Oper := [
  od 53 (.load 25 (.tmp 2)) 25,
  op 54 (.nilCheck (.tmp 53)) 0,
  op 55 (.fieldAddr 67 (.tmp 54) 0) 0,
  od 56 (.load 38 (.tmp 55)) 38,
  op 57 (.call ⟨(.builtin .len), #[(.tmp 56)], #[38]⟩) 3,
  op 58 (.move (.const (.int .i64 0))) 3]
def F28.r13 : List Oper := [
  op 59 (.binOp .lss 3 (.tmp 58) (.tmp 57) 3) 0]
def F28.r14 : List Oper := [
  op 60 (.move (.tmp 58)) 3,
  op 61 (.indexAddr 38 (.tmp 56) (.tmp 58)) 0,
  od 62 (.load 72 (.tmp 61)) 72,
  oc 10 (.alloc 72) 0,
  op 9 (.assign (.tmp 60)) 3,
  ⟨none, (.store 72 (.tmp 10) (.tmp 62)), 0, "", #[⟨0, .chain⟩], none⟩]
def F28.r15 : List Oper := [
  od 63 (.load 68 (.tmp 3)) 68,
  op 64 (.move (.tmp 9)) 3,
  op 65 (.indexAddr 68 (.tmp 63) (.tmp 64)) 0,
  od 66 (.load 3 (.tmp 65)) 3,
  ⟨none, (.store 3 (.tmp 1) (.tmp 66)), 0, "", #[⟨0, .chain⟩], none⟩]
def F28.r16 : List Oper := [
  od 67 (.load 25 (.tmp 2)) 25,
  od 68 (.load 72 (.tmp 10)) 72,
  oc 69 (.call ⟨(.value (.func 34)), #[(.tmp 67), (.tmp 68)], #[25, 72]⟩) 0]
def F28.r17 : List Oper := [
  op 70 (.binOp .add 3 (.tmp 58) (.const (.int .i64 1)) 3) 3,
  op 58 (.move (.tmp 70)) 3]
def F28.r18 : List Oper := [
  ⟨none, (.store 3 (.tmp 1) (.const (.int .i64 0))), 0, "", #[⟨0, .chain⟩], none⟩]
def F28.r19 : List Oper := [
  od 71 (.load 25 (.tmp 2)) 25,
  oc 72 (.call ⟨(.value (.func 35)), #[(.tmp 71)], #[25]⟩) 0]
def F28.t5 : Cd := (.seq (.region 5 F28.r5.toArray false) (.seq (.region 6 F28.r6.toArray true) (.seq (.region 7 F28.r7.toArray false) (.seq (.region 8 F28.r8.toArray false) (.seq (.region 9 F28.r9.toArray false) (.region 10 F28.r10.toArray false))))))
theorem F28.t5_eq {θ : Tag (F28.t5, Q, e, w)} : cwE P F28.t5 Q e w θ = cwE P (.seq (.region 5 F28.r5.toArray false) (.seq (.region 6 F28.r6.toArray true) (.seq (.region 7 F28.r7.toArray false) (.seq (.region 8 F28.r8.toArray false) (.seq (.region 9 F28.r9.toArray false) (.region 10 F28.r10.toArray false)))))) Q e w := rfl
def F28.t11 : Cd := (.region 11 F28.r11.toArray false)
theorem F28.t11_eq {θ : Tag (F28.t11, Q, e, w)} : cwE P F28.t11 Q e w θ = cwE P (.region 11 F28.r11.toArray false) Q e w := rfl
def F28.t2 : Cd := (.seq (.block 1 (.seq (.region 2 F28.r2.toArray false) (.seq (.region 3 F28.r3.toArray false) (.seq (.seq (.region 4 F28.r4.toArray false) (.cond (.tmp 27) (.exit 1) .skip)) F28.t5)))) F28.t11)
theorem F28.t2_eq {θ : Tag (F28.t2, Q, e, w)} : cwE P F28.t2 Q e w θ = cwE P (.seq (.block 1 (.seq (.region 2 F28.r2.toArray false) (.seq (.region 3 F28.r3.toArray false) (.seq (.seq (.region 4 F28.r4.toArray false) (.cond (.tmp 27) (.exit 1) .skip)) F28.t5)))) F28.t11) Q e w := rfl
def F28.t17 : Cd := (.region 17 F28.r17.toArray false)
theorem F28.t17_eq {θ : Tag (F28.t17, Q, e, w)} : cwE P F28.t17 Q e w θ = cwE P (.region 17 F28.r17.toArray false) Q e w := rfl
def F28.t14 : Cd := (.seq (.block 3 (.seq (.region 14 F28.r14.toArray false) (.seq (.region 15 F28.r15.toArray false) (.region 16 F28.r16.toArray false)))) F28.t17)
theorem F28.t14_eq {θ : Tag (F28.t14, Q, e, w)} : cwE P F28.t14 Q e w θ = cwE P (.seq (.block 3 (.seq (.region 14 F28.r14.toArray false) (.seq (.region 15 F28.r15.toArray false) (.region 16 F28.r16.toArray false)))) F28.t17) Q e w := rfl
def F28.t18 : Cd := (.seq (.region 18 F28.r18.toArray false) (.region 19 F28.r19.toArray false))
theorem F28.t18_eq {θ : Tag (F28.t18, Q, e, w)} : cwE P F28.t18 Q e w θ = cwE P (.seq (.region 18 F28.r18.toArray false) (.region 19 F28.r19.toArray false)) Q e w := rfl
def F28.t12 : Cd := (.seq (.seq (.region 12 F28.r12.toArray false) (.block 2 (.loop (.seq (.region 13 F28.r13.toArray false) (.seq (.cond (.tmp 59) .skip (.exit 2)) F28.t14))))) F28.t18)
theorem F28.t12_eq {θ : Tag (F28.t12, Q, e, w)} : cwE P F28.t12 Q e w θ = cwE P (.seq (.seq (.region 12 F28.r12.toArray false) (.block 2 (.loop (.seq (.region 13 F28.r13.toArray false) (.seq (.cond (.tmp 59) .skip (.exit 2)) F28.t14))))) F28.t18) Q e w := rfl
def F28.code : Cd := (.seq (.seq (.region 0 F28.r0.toArray false) (.block 0 (.loop (.seq (.region 1 F28.r1.toArray false) (.seq (.cond (.tmp 15) .skip (.exit 0)) F28.t2))))) F28.t12)
theorem F28.calls (hn : args.size ≤ 73) (h : cwE Tryz.prog F28.code (fnP Tryz.prog #[] R) (entry args) w) : Calls Tryz.prog 28 args w R :=
  calls_of_cwE (types := Tryz.prog.types) follows Tryz.func28 F28.code rfl (by kernel_rfl) hn h

def F29.r0 : List Oper := [
  op 4 (.assign (.const (.slice none 0 0))) 22]
def F29.r1 : List Oper := [
  op 5 (.move (.tmp 0)) 9,
  op 6 (.move (.tmp 1)) 9,
  oc 7 (.call ⟨(.value (.func 63)), #[(.tmp 5), (.tmp 6), (.const (.int .i64 0)), (.const (.int .i64 (-1)))], #[9, 9, 3, 3]⟩) 22,
  op 4 (.assign (.tmp 7)) 22]
def F29.code : Cd := (.seq (.region 0 F29.r0.toArray false) (.seq (.region 1 F29.r1.toArray false) .ret))
theorem F29.calls (hn : args.size ≤ 8) (h : cwE Tryz.prog F29.code (fnP Tryz.prog #[(.tmp 4)] R) (entry args) w) : Calls Tryz.prog 29 args w R :=
  calls_of_cwE (types := Tryz.prog.types) follows Tryz.func29 F29.code rfl (by kernel_rfl) hn h

def F30.r0 : List Oper := [
  oc 2 (.alloc 72) 0]
def F30.r1 : List Oper := [
  op 5 (.move (.tmp 0)) 9,
  oc 6 (.call ⟨(.value (.func 29)), #[(.tmp 5), (.const (.string { data := #[58] }))], #[9, 9]⟩) 22,
  op 3 (.assign (.tmp 6)) 22]
def F30.r2 : List Oper := [
  op 7 (.move (.tmp 3)) 22,
  op 8 (.call ⟨(.builtin .len), #[(.tmp 7)], #[22]⟩) 3,
  op 9 (.binOp .eql 3 (.tmp 8) (.const (.int .i64 4)) 3) 4,
  oc 10 (.call ⟨(.value (.func 31)), #[(.tmp 9), (.const (.int .i64 60))], #[4, 26]⟩) 0]
def F30.r3 : List Oper := [
  ⟨(some 11), (.move (.tmp 3)), 22, "", #[], none⟩,
  ⟨(some 12), (.indexAddr 22 (.tmp 11) (.const (.int .i64 0))), 0, "", #[], none⟩,
  ⟨(some 14), (.move (.tmp 3)), 22, "", #[], none⟩,
  ⟨(some 15), (.indexAddr 22 (.tmp 14) (.const (.int .i64 1))), 0, "", #[], none⟩,
  ⟨(some 17), (.move (.tmp 3)), 22, "", #[], none⟩,
  ⟨(some 18), (.indexAddr 22 (.tmp 17) (.const (.int .i64 3))), 0, "", #[], none⟩,
  ⟨(some 13), (.load 9 (.tmp 12)), 9, "", #[⟨2048, .data⟩], none⟩,
  ⟨(some 16), (.load 9 (.tmp 15)), 9, "", #[⟨2048, .data⟩], none⟩,
  ⟨(some 19), (.load 9 (.tmp 18)), 9, "", #[⟨2048, .data⟩], none⟩,
  ⟨(some 20), (.build 72 #[(0, (.tmp 13)), (1, (.tmp 16)), (3, (.tmp 19))]), 72, "", #[], none⟩,
  ⟨(some 4), (.alloc 72), 0, "", #[⟨10, .chain⟩], none⟩,
  ⟨none, (.store 72 (.tmp 4) (.tmp 20)), 0, "", #[⟨11, .chain⟩], none⟩]
def F30.r4 : List Oper := [
  op 21 (.move (.tmp 3)) 22,
  op 22 (.indexAddr 22 (.tmp 21) (.const (.int .i64 2))) 0,
  od 23 (.load 9 (.tmp 22)) 9,
  op 24 (.binOp .neq 9 (.tmp 23) (.const (.string { data := #[] })) 9) 4]
def F30.r5 : List Oper := [
  op 25 (.move (.tmp 3)) 22,
  op 26 (.indexAddr 22 (.tmp 25) (.const (.int .i64 2))) 0,
  od 27 (.load 9 (.tmp 26)) 9,
  oc 28 (.call ⟨(.value (.func 29)), #[(.tmp 27), (.const (.string { data := #[44] }))], #[9, 9]⟩) 22,
  op 29 (.fieldAddr 72 (.tmp 4) 2) 0,
  ⟨none, (.store 22 (.tmp 29) (.tmp 28)), 0, "", #[⟨0, .chain⟩], none⟩]
def F30.r6 : List Oper := [
  od 30 (.load 72 (.tmp 4)) 72,
  oc 31 (.call ⟨(.value (.func 50)), #[(.tmp 30)], #[72]⟩) 0]
def F30.r7 : List Oper := [
  od 32 (.load 72 (.tmp 4)) 72,
  ⟨none, (.store 72 (.tmp 2) (.tmp 32)), 0, "", #[⟨0, .chain⟩], none⟩]
def F30.t6 : Cd := (.seq (.region 6 F30.r6.toArray false) (.seq (.region 7 F30.r7.toArray false) .ret))
theorem F30.t6_eq {θ : Tag (F30.t6, Q, e, w)} : cwE P F30.t6 Q e w θ = cwE P (.seq (.region 6 F30.r6.toArray false) (.seq (.region 7 F30.r7.toArray false) .ret)) Q e w := rfl
def F30.code : Cd := (.seq (.region 0 F30.r0.toArray false) (.seq (.region 1 F30.r1.toArray false) (.seq (.region 2 F30.r2.toArray false) (.seq (.region 3 F30.r3.toArray true) (.seq (.seq (.region 4 F30.r4.toArray false) (.cond (.tmp 24) (.region 5 F30.r5.toArray false) .skip)) F30.t6)))))
theorem F30.calls (hn : args.size ≤ 33) (h : cwE Tryz.prog F30.code (fnP Tryz.prog #[(.cell 2 72)] R) (entry args) w) : Calls Tryz.prog 30 args w R :=
  calls_of_cwE (types := Tryz.prog.types) follows Tryz.func30 F30.code rfl (by kernel_rfl) hn h

def F31.r0 : List Oper := [
  op 4 (.move (.tmp 0)) 4,
  op 5 (.unOp .not 4 (.tmp 4)) 4]
def F31.r1 : List Oper := [
  op 6 (.move (.tmp 1)) 26,
  op 7 (.build 104 #[(0, (.tmp 6))]) 104,
  od 8 (.makeInterface 104 (.tmp 7)) 20,
  ⟨none, (.panic (.tmp 8)), 0, "", #[⟨0, .chain⟩], none⟩]
def F31.code : Cd := (.seq (.region 0 F31.r0.toArray false) (.cond (.tmp 5) (.region 1 F31.r1.toArray false) .skip))
theorem F31.calls (hn : args.size ≤ 9) (h : cwE Tryz.prog F31.code (fnP Tryz.prog #[] R) (entry args) w) : Calls Tryz.prog 31 args w R :=
  calls_of_cwE (types := Tryz.prog.types) follows Tryz.func31 F31.code rfl (by kernel_rfl) hn h

def F32.r0 : List Oper := [
  oc 1 (.box 72 (.tmp 0)) 0]
def F32.r1 : List Oper := [
  op 4 (.fieldAddr 72 (.tmp 1) 2) 0,
  od 5 (.load 22 (.tmp 4)) 22,
  op 6 (.call ⟨(.builtin .len), #[(.tmp 5)], #[22]⟩) 3,
  op 7 (.move (.const (.int .i64 0))) 3]
def F32.r2 : List Oper := [
  op 8 (.binOp .lss 3 (.tmp 7) (.tmp 6) 3) 0]
def F32.r3 : List Oper := [
  op 9 (.move (.tmp 7)) 3,
  op 10 (.indexAddr 22 (.tmp 5) (.tmp 7)) 0,
  od 11 (.load 9 (.tmp 10)) 9,
  op 2 (.assign (.tmp 9)) 3,
  op 3 (.assign (.tmp 11)) 9]
def F32.r4 : List Oper := [
  op 12 (.fieldAddr 72 (.tmp 1) 2) 0,
  od 13 (.load 22 (.tmp 12)) 22,
  op 14 (.move (.tmp 2)) 3,
  op 15 (.slice 22 (.tmp 13) none (some (.tmp 14)) none) 22,
  op 16 (.move (.tmp 3)) 9,
  oc 17 (.call ⟨(.value (.func 64)), #[(.tmp 15), (.tmp 16)], #[22, 9]⟩) 4,
  op 18 (.unOp .not 4 (.tmp 17)) 4,
  oc 19 (.call ⟨(.value (.func 31)), #[(.tmp 18), (.const (.int .i64 61))], #[4, 26]⟩) 0]
def F32.r5 : List Oper := [
  op 20 (.binOp .add 3 (.tmp 7) (.const (.int .i64 1)) 3) 3,
  op 7 (.move (.tmp 20)) 3]
def F32.t5 : Cd := (.region 5 F32.r5.toArray false)
theorem F32.t5_eq {θ : Tag (F32.t5, Q, e, w)} : cwE P F32.t5 Q e w θ = cwE P (.region 5 F32.r5.toArray false) Q e w := rfl
def F32.t3 : Cd := (.seq (.block 1 (.seq (.region 3 F32.r3.toArray false) (.region 4 F32.r4.toArray false))) F32.t5)
theorem F32.t3_eq {θ : Tag (F32.t3, Q, e, w)} : cwE P F32.t3 Q e w θ = cwE P (.seq (.block 1 (.seq (.region 3 F32.r3.toArray false) (.region 4 F32.r4.toArray false))) F32.t5) Q e w := rfl
def F32.code : Cd := (.seq (.region 0 F32.r0.toArray false) (.seq (.region 1 F32.r1.toArray false) (.block 0 (.loop (.seq (.region 2 F32.r2.toArray false) (.seq (.cond (.tmp 8) .skip (.exit 0)) F32.t3))))))
theorem F32.calls (hn : args.size ≤ 21) (h : cwE Tryz.prog F32.code (fnP Tryz.prog #[] R) (entry args) w) : Calls Tryz.prog 32 args w R :=
  calls_of_cwE (types := Tryz.prog.types) follows Tryz.func32 F32.code rfl (by kernel_rfl) hn h

def F33.r0 : List Oper := [
  oc 3 (.box 72 (.tmp 1)) 0]
def F33.r1 : List Oper := [
  ⟨(some 7), (.move (.tmp 0)), 25, "", #[], none⟩,
  ⟨(some 8), (.nilCheck (.tmp 7)), 0, "", #[], none⟩,
  ⟨(some 9), (.fieldAddr 67 (.tmp 8) 1), 0, "", #[], none⟩,
  ⟨(some 11), (.fieldAddr 72 (.tmp 3) 0), 0, "", #[], none⟩,
  ⟨(some 10), (.load 64 (.tmp 9)), 64, "", #[⟨0, .data⟩], none⟩,
  ⟨(some 12), (.load 9 (.tmp 11)), 9, "", #[⟨0, .data⟩], none⟩,
  ⟨(some 13), (.lookup 64 (.tmp 10) (.tmp 12) true), 74, "", #[⟨0, .data⟩], none⟩,
  ⟨(some 6), (.move (.tmp 13)), 74, "", #[], none⟩,
  ⟨(some 14), (.extract (.tmp 6) 0), 3, "", #[], none⟩,
  ⟨(some 15), (.extract (.tmp 6) 1), 4, "", #[], none⟩,
  ⟨(some 4), (.assign (.tmp 14)), 3, "", #[], none⟩,
  ⟨(some 5), (.assign (.tmp 15)), 4, "", #[], none⟩]
def F33.r2 : List Oper := [
  op 16 (.move (.tmp 5)) 4]
def F33.r3 : List Oper := [
  ⟨(some 17), (.move (.tmp 0)), 25, "", #[], none⟩,
  ⟨(some 18), (.nilCheck (.tmp 17)), 0, "", #[], none⟩,
  ⟨(some 19), (.fieldAddr 67 (.tmp 18) 0), 0, "", #[], none⟩,
  ⟨(some 21), (.move (.tmp 4)), 3, "", #[], none⟩,
  ⟨(some 20), (.load 38 (.tmp 19)), 38, "", #[⟨128, .data⟩], none⟩,
  ⟨(some 22), (.load 72 (.tmp 3)), 72, "", #[⟨128, .data⟩], none⟩,
  ⟨(some 23), (.indexAddr 38 (.tmp 20) (.tmp 21)), 0, "", #[], none⟩,
  ⟨none, (.store 72 (.tmp 23) (.tmp 22)), 0, "", #[⟨7, .chain⟩], none⟩]
def F33.r4 : List Oper := [
  ⟨(some 24), (.move (.tmp 0)), 25, "", #[], none⟩,
  ⟨(some 25), (.nilCheck (.tmp 24)), 0, "", #[], none⟩,
  ⟨(some 26), (.fieldAddr 67 (.tmp 25) 1), 0, "", #[], none⟩,
  ⟨(some 28), (.fieldAddr 72 (.tmp 3) 0), 0, "", #[], none⟩,
  ⟨(some 30), (.move (.tmp 0)), 25, "", #[], none⟩,
  ⟨(some 31), (.nilCheck (.tmp 30)), 0, "", #[], none⟩,
  ⟨(some 32), (.fieldAddr 67 (.tmp 31) 0), 0, "", #[], none⟩,
  ⟨(some 27), (.load 64 (.tmp 26)), 64, "", #[⟨2048, .data⟩], none⟩,
  ⟨(some 29), (.load 9 (.tmp 28)), 9, "", #[⟨2048, .data⟩], none⟩,
  ⟨(some 33), (.load 38 (.tmp 32)), 38, "", #[⟨2048, .data⟩], none⟩,
  ⟨(some 34), (.call ⟨(.builtin .len), #[(.tmp 33)], #[38]⟩), 3, "", #[], none⟩,
  ⟨none, (.mapUpdate 64 (.tmp 27) (.tmp 29) (.tmp 34)), 0, "", #[⟨11, .chain⟩], none⟩]
def F33.r5 : List Oper := [
  ⟨(some 35), (.move (.tmp 0)), 25, "", #[], none⟩,
  ⟨(some 36), (.move (.tmp 0)), 25, "", #[], none⟩,
  ⟨(some 37), (.nilCheck (.tmp 36)), 0, "", #[], none⟩,
  ⟨(some 38), (.fieldAddr 67 (.tmp 37) 0), 0, "", #[], none⟩,
  ⟨(some 39), (.load 38 (.tmp 38)), 38, "", #[⟨1152, .data⟩], none⟩,
  ⟨(some 40), (.load 72 (.tmp 3)), 72, "", #[⟨1216, .data⟩], none⟩,
  ⟨(some 41), (.buildSlice 38 1 #[(0, (.tmp 40))]), 38, "", #[⟨6, .chain⟩], none⟩,
  ⟨(some 42), (.call ⟨(.builtin .append), #[(.tmp 39), (.tmp 41)], #[38, 38]⟩), 38, "", #[⟨7, .chain⟩], none⟩,
  ⟨(some 43), (.nilCheck (.tmp 35)), 0, "", #[], none⟩,
  ⟨(some 44), (.fieldAddr 67 (.tmp 43) 0), 0, "", #[], none⟩,
  ⟨none, (.store 38 (.tmp 44) (.tmp 42)), 0, "", #[⟨10, .chain⟩], none⟩]
def F33.t4 : Cd := (.seq (.region 4 F33.r4.toArray true) (.region 5 F33.r5.toArray true))
theorem F33.t4_eq {θ : Tag (F33.t4, Q, e, w)} : cwE P F33.t4 Q e w θ = cwE P (.seq (.region 4 F33.r4.toArray true) (.region 5 F33.r5.toArray true)) Q e w := rfl
def F33.code : Cd := (.seq (.region 0 F33.r0.toArray false) (.seq (.seq (.region 1 F33.r1.toArray true) (.seq (.region 2 F33.r2.toArray false) (.cond (.tmp 16) (.seq (.region 3 F33.r3.toArray true) .ret) .skip))) F33.t4))
theorem F33.calls (hn : args.size ≤ 45) (h : cwE Tryz.prog F33.code (fnP Tryz.prog #[] R) (entry args) w) : Calls Tryz.prog 33 args w R :=
  calls_of_cwE (types := Tryz.prog.types) follows Tryz.func33 F33.code rfl (by kernel_rfl) hn h

def F34.r0 : List Oper := [
  oc 3 (.box 72 (.tmp 1)) 0]
def F34.r1 : List Oper := [
  ⟨(some 11), (.move (.tmp 0)), 25, "", #[], none⟩,
  ⟨(some 12), (.nilCheck (.tmp 11)), 0, "", #[], none⟩,
  ⟨(some 13), (.fieldAddr 67 (.tmp 12) 1), 0, "", #[], none⟩,
  ⟨(some 15), (.fieldAddr 72 (.tmp 3) 1), 0, "", #[], none⟩,
  ⟨(some 14), (.load 64 (.tmp 13)), 64, "", #[⟨0, .data⟩], none⟩,
  ⟨(some 16), (.load 9 (.tmp 15)), 9, "", #[⟨0, .data⟩], none⟩,
  ⟨(some 17), (.lookup 64 (.tmp 14) (.tmp 16) true), 74, "", #[⟨0, .data⟩], none⟩,
  ⟨(some 10), (.move (.tmp 17)), 74, "", #[], none⟩,
  ⟨(some 18), (.extract (.tmp 10) 0), 3, "", #[], none⟩,
  ⟨(some 19), (.extract (.tmp 10) 1), 4, "", #[], none⟩,
  ⟨(some 4), (.assign (.tmp 18)), 3, "", #[], none⟩,
  ⟨(some 5), (.assign (.tmp 19)), 4, "", #[], none⟩]
def F34.r2 : List Oper := [
  op 20 (.move (.tmp 5)) 4,
  op 21 (.move (.tmp 20)) 4,
  ⟨(some 22), (.fieldAddr 72 (.tmp 3) 1), 0, "", #[], (some (21, false))⟩,
  ⟨(some 23), (.load 9 (.tmp 22)), 9, "", #[⟨0, .data⟩], (some (21, false))⟩,
  ⟨(some 24), (.binOp .eql 9 (.tmp 23) (.const (.string { data := #[] })) 9), 4, "", #[], (some (21, false))⟩,
  op 25 (.pick (.tmp 21) (.const (.bool true)) (.tmp 24)) 4,
  oc 26 (.call ⟨(.value (.func 31)), #[(.tmp 25), (.const (.int .i64 62))], #[4, 26]⟩) 0]
def F34.r3 : List Oper := [
  op 27 (.fieldAddr 72 (.tmp 3) 2) 0,
  od 28 (.load 22 (.tmp 27)) 22,
  op 29 (.call ⟨(.builtin .len), #[(.tmp 28)], #[22]⟩) 3,
  op 30 (.move (.const (.int .i64 0))) 3]
def F34.r4 : List Oper := [
  op 31 (.binOp .lss 3 (.tmp 30) (.tmp 29) 3) 0]
def F34.r5 : List Oper := [
  op 32 (.indexAddr 22 (.tmp 28) (.tmp 30)) 0,
  od 33 (.load 9 (.tmp 32)) 9,
  op 7 (.assign (.tmp 33)) 9]
def F34.r6 : List Oper := [
  op 35 (.move (.tmp 0)) 25,
  op 36 (.nilCheck (.tmp 35)) 0,
  op 37 (.fieldAddr 67 (.tmp 36) 1) 0,
  od 38 (.load 64 (.tmp 37)) 64,
  op 39 (.move (.tmp 7)) 9,
  od 40 (.lookup 64 (.tmp 38) (.tmp 39) true) 74,
  op 34 (.move (.tmp 40)) 74,
  op 41 (.extract (.tmp 34) 0) 3,
  op 42 (.extract (.tmp 34) 1) 4,
  op 8 (.assign (.tmp 41)) 3,
  op 9 (.assign (.tmp 42)) 4]
def F34.r7 : List Oper := [
  op 43 (.move (.tmp 9)) 4,
  oc 44 (.call ⟨(.value (.func 31)), #[(.tmp 43), (.const (.int .i64 62))], #[4, 26]⟩) 0]
def F34.r8 : List Oper := [
  op 45 (.binOp .add 3 (.tmp 30) (.const (.int .i64 1)) 3) 3,
  op 30 (.move (.tmp 45)) 3]
def F34.t8 : Cd := (.region 8 F34.r8.toArray false)
theorem F34.t8_eq {θ : Tag (F34.t8, Q, e, w)} : cwE P F34.t8 Q e w θ = cwE P (.region 8 F34.r8.toArray false) Q e w := rfl
def F34.t5 : Cd := (.seq (.block 1 (.seq (.region 5 F34.r5.toArray false) (.seq (.region 6 F34.r6.toArray false) (.region 7 F34.r7.toArray false)))) F34.t8)
theorem F34.t5_eq {θ : Tag (F34.t5, Q, e, w)} : cwE P F34.t5 Q e w θ = cwE P (.seq (.block 1 (.seq (.region 5 F34.r5.toArray false) (.seq (.region 6 F34.r6.toArray false) (.region 7 F34.r7.toArray false)))) F34.t8) Q e w := rfl
def F34.code : Cd := (.seq (.region 0 F34.r0.toArray false) (.seq (.region 1 F34.r1.toArray true) (.seq (.region 2 F34.r2.toArray false) (.seq (.region 3 F34.r3.toArray false) (.block 0 (.loop (.seq (.region 4 F34.r4.toArray false) (.seq (.cond (.tmp 31) .skip (.exit 0)) F34.t5))))))))
theorem F34.calls (hn : args.size ≤ 46) (h : cwE Tryz.prog F34.code (fnP Tryz.prog #[] R) (entry args) w) : Calls Tryz.prog 34 args w R :=
  calls_of_cwE (types := Tryz.prog.types) follows Tryz.func34 F34.code rfl (by kernel_rfl) hn h

def F35.r0 : List Oper := [
  op 6 (.move (.tmp 0)) 25,
  oc 7 (.call ⟨(.value (.func 45)), #[(.tmp 6)], #[25]⟩) 9,
  op 8 (.call ⟨(.builtin .len), #[(.tmp 7)], #[9]⟩) 3,
  op 9 (.binOp .leq 3 (.tmp 8) (.const (.int .i64 65536)) 3) 4,
  oc 10 (.call ⟨(.value (.func 31)), #[(.tmp 9), (.const (.int .i64 1))], #[4, 26]⟩) 0]
def F35.r1 : List Oper := [
  op 11 (.move (.tmp 0)) 25,
  oc 12 (.makeMap 65 none) 65,
  op 13 (.nilCheck (.tmp 11)) 0,
  op 14 (.fieldAddr 67 (.tmp 13) 2) 0,
  ⟨none, (.store 65 (.tmp 14) (.tmp 12)), 0, "", #[⟨0, .chain⟩], none⟩]
def F35.r2 : List Oper := [
  op 15 (.move (.tmp 0)) 25,
  op 16 (.nilCheck (.tmp 15)) 0,
  op 17 (.fieldAddr 67 (.tmp 16) 0) 0,
  od 18 (.load 38 (.tmp 17)) 38,
  op 19 (.call ⟨(.builtin .len), #[(.tmp 18)], #[38]⟩) 3,
  op 20 (.move (.const (.int .i64 0))) 3]
def F35.r3 : List Oper := [
  op 21 (.binOp .lss 3 (.tmp 20) (.tmp 19) 3) 0]
def F35.r4 : List Oper := [
  op 22 (.move (.tmp 20)) 3,
  op 23 (.indexAddr 38 (.tmp 18) (.tmp 20)) 0,
  od 24 (.load 72 (.tmp 23)) 72,
  oc 3 (.alloc 72) 0,
  op 2 (.assign (.tmp 22)) 3,
  ⟨none, (.store 72 (.tmp 3) (.tmp 24)), 0, "", #[⟨0, .chain⟩], none⟩]
def F35.r5 : List Oper := [
  ⟨(some 25), (.move (.tmp 0)), 25, "", #[], none⟩,
  ⟨(some 26), (.nilCheck (.tmp 25)), 0, "", #[], none⟩,
  ⟨(some 27), (.fieldAddr 67 (.tmp 26) 2), 0, "", #[], none⟩,
  ⟨(some 29), (.fieldAddr 72 (.tmp 3) 0), 0, "", #[], none⟩,
  ⟨(some 31), (.fieldAddr 72 (.tmp 3) 0), 0, "", #[], none⟩,
  ⟨(some 34), (.move (.tmp 2)), 3, "", #[], none⟩,
  ⟨(some 28), (.load 65 (.tmp 27)), 65, "", #[⟨1024, .data⟩], none⟩,
  ⟨(some 30), (.load 9 (.tmp 29)), 9, "", #[⟨1024, .data⟩], none⟩,
  ⟨(some 32), (.load 9 (.tmp 31)), 9, "", #[⟨1024, .data⟩], none⟩,
  ⟨(some 33), (.build 102 #[(0, (.tmp 30)), (1, (.tmp 32))]), 102, "", #[], none⟩,
  ⟨none, (.mapUpdate 65 (.tmp 28) (.tmp 33) (.tmp 34)), 0, "", #[⟨10, .chain⟩], none⟩]
def F35.r6 : List Oper := [
  op 35 (.fieldAddr 72 (.tmp 3) 2) 0,
  od 36 (.load 22 (.tmp 35)) 22,
  op 37 (.call ⟨(.builtin .len), #[(.tmp 36)], #[22]⟩) 3,
  op 38 (.move (.const (.int .i64 0))) 3]
def F35.r7 : List Oper := [
  op 39 (.binOp .lss 3 (.tmp 38) (.tmp 37) 3) 0]
def F35.r8 : List Oper := [
  op 40 (.indexAddr 22 (.tmp 36) (.tmp 38)) 0,
  od 41 (.load 9 (.tmp 40)) 9,
  op 5 (.assign (.tmp 41)) 9]
def F35.r9 : List Oper := [
  ⟨(some 42), (.move (.tmp 0)), 25, "", #[], none⟩,
  ⟨(some 43), (.nilCheck (.tmp 42)), 0, "", #[], none⟩,
  ⟨(some 44), (.fieldAddr 67 (.tmp 43) 2), 0, "", #[], none⟩,
  ⟨(some 46), (.move (.tmp 5)), 9, "", #[], none⟩,
  ⟨(some 47), (.fieldAddr 72 (.tmp 3) 0), 0, "", #[], none⟩,
  ⟨(some 50), (.move (.tmp 2)), 3, "", #[], none⟩,
  ⟨(some 45), (.load 65 (.tmp 44)), 65, "", #[⟨512, .data⟩], none⟩,
  ⟨(some 48), (.load 9 (.tmp 47)), 9, "", #[⟨512, .data⟩], none⟩,
  ⟨(some 49), (.build 102 #[(0, (.tmp 46)), (1, (.tmp 48))]), 102, "", #[], none⟩,
  ⟨none, (.mapUpdate 65 (.tmp 45) (.tmp 49) (.tmp 50)), 0, "", #[⟨9, .chain⟩], none⟩]
def F35.r10 : List Oper := [
  op 51 (.binOp .add 3 (.tmp 38) (.const (.int .i64 1)) 3) 3,
  op 38 (.move (.tmp 51)) 3]
def F35.r11 : List Oper := [
  op 52 (.binOp .add 3 (.tmp 20) (.const (.int .i64 1)) 3) 3,
  op 20 (.move (.tmp 52)) 3]
def F35.t10 : Cd := (.region 10 F35.r10.toArray false)
theorem F35.t10_eq {θ : Tag (F35.t10, Q, e, w)} : cwE P F35.t10 Q e w θ = cwE P (.region 10 F35.r10.toArray false) Q e w := rfl
def F35.t8 : Cd := (.seq (.block 3 (.seq (.region 8 F35.r8.toArray false) (.region 9 F35.r9.toArray true))) F35.t10)
theorem F35.t8_eq {θ : Tag (F35.t8, Q, e, w)} : cwE P F35.t8 Q e w θ = cwE P (.seq (.block 3 (.seq (.region 8 F35.r8.toArray false) (.region 9 F35.r9.toArray true))) F35.t10) Q e w := rfl
def F35.t11 : Cd := (.region 11 F35.r11.toArray false)
theorem F35.t11_eq {θ : Tag (F35.t11, Q, e, w)} : cwE P F35.t11 Q e w θ = cwE P (.region 11 F35.r11.toArray false) Q e w := rfl
def F35.t4 : Cd := (.seq (.block 1 (.seq (.region 4 F35.r4.toArray false) (.seq (.region 5 F35.r5.toArray true) (.seq (.region 6 F35.r6.toArray false) (.block 2 (.loop (.seq (.region 7 F35.r7.toArray false) (.seq (.cond (.tmp 39) .skip (.exit 2)) F35.t8)))))))) F35.t11)
theorem F35.t4_eq {θ : Tag (F35.t4, Q, e, w)} : cwE P F35.t4 Q e w θ = cwE P (.seq (.block 1 (.seq (.region 4 F35.r4.toArray false) (.seq (.region 5 F35.r5.toArray true) (.seq (.region 6 F35.r6.toArray false) (.block 2 (.loop (.seq (.region 7 F35.r7.toArray false) (.seq (.cond (.tmp 39) .skip (.exit 2)) F35.t8)))))))) F35.t11) Q e w := rfl
def F35.code : Cd := (.seq (.region 0 F35.r0.toArray false) (.seq (.region 1 F35.r1.toArray false) (.seq (.region 2 F35.r2.toArray false) (.block 0 (.loop (.seq (.region 3 F35.r3.toArray false) (.seq (.cond (.tmp 21) .skip (.exit 0)) F35.t4)))))))
theorem F35.calls (hn : args.size ≤ 53) (h : cwE Tryz.prog F35.code (fnP Tryz.prog #[] R) (entry args) w) : Calls Tryz.prog 35 args w R :=
  calls_of_cwE (types := Tryz.prog.types) follows Tryz.func35 F35.code rfl (by kernel_rfl) hn h

def F36.r0 : List Oper := [
  op 4 (.assign (.const (.slice none 0 0))) 22]
def F36.r1 : List Oper := [
  op 5 (.assign (.const (.slice none 0 0))) 22]
def F36.r2 : List Oper := [
  op 6 (.assign (.const (.int .i64 0))) 3]
def F36.r3 : List Oper := [
  op 7 (.assign (.const (.int .i64 0))) 3]
def F36.r4 : List Oper := [
  op 8 (.move (.tmp 7)) 3,
  op 9 (.move (.tmp 0)) 9,
  op 10 (.call ⟨(.builtin .len), #[(.tmp 9)], #[9]⟩) 3,
  op 11 (.binOp .lss 3 (.tmp 8) (.tmp 10) 3) 4]
def F36.r6 : List Oper := [
  op 14 (.move (.tmp 0)) 9,
  op 15 (.move (.tmp 7)) 3,
  op 16 (.index 9 (.tmp 14) (.tmp 15)) 5,
  op 17 (.move (.tmp 1)) 5,
  op 18 (.binOp .eql 5 (.tmp 16) (.tmp 17) 5) 4]
def F36.r7 : List Oper := [
  op 19 (.move (.tmp 5)) 22,
  op 20 (.move (.tmp 0)) 9,
  op 21 (.move (.tmp 6)) 3,
  op 22 (.move (.tmp 7)) 3,
  op 23 (.slice 9 (.tmp 20) (some (.tmp 21)) (some (.tmp 22)) none) 9,
  oc 24 (.buildSlice 22 1 #[(0, (.tmp 23))]) 22,
  oc 25 (.call ⟨(.builtin .append), #[(.tmp 19), (.tmp 24)], #[22, 22]⟩) 22,
  op 5 (.assign (.tmp 25)) 22]
def F36.r8 : List Oper := [
  op 26 (.move (.tmp 7)) 3,
  op 27 (.binOp .add 3 (.tmp 26) (.const (.int .i64 1)) 3) 3,
  op 6 (.assign (.tmp 27)) 3]
def F36.r5 : List Oper := [
  op 12 (.move (.tmp 7)) 3,
  op 13 (.binOp .add 3 (.tmp 12) (.const (.int .i64 1)) 3) 3,
  op 7 (.assign (.tmp 13)) 3]
def F36.r9 : List Oper := [
  op 28 (.move (.tmp 5)) 22,
  op 29 (.move (.tmp 0)) 9,
  op 30 (.move (.tmp 6)) 3,
  op 31 (.slice 9 (.tmp 29) (some (.tmp 30)) none none) 9,
  oc 32 (.buildSlice 22 1 #[(0, (.tmp 31))]) 22,
  oc 33 (.call ⟨(.builtin .append), #[(.tmp 28), (.tmp 32)], #[22, 22]⟩) 22,
  op 4 (.assign (.tmp 33)) 22]
def F36.t5 : Cd := (.region 5 F36.r5.toArray false)
theorem F36.t5_eq {θ : Tag (F36.t5, Q, e, w)} : cwE P F36.t5 Q e w θ = cwE P (.region 5 F36.r5.toArray false) Q e w := rfl
def F36.t6 : Cd := (.seq (.block 1 (.seq (.region 6 F36.r6.toArray false) (.cond (.tmp 18) (.seq (.region 7 F36.r7.toArray false) (.region 8 F36.r8.toArray false)) .skip))) F36.t5)
theorem F36.t6_eq {θ : Tag (F36.t6, Q, e, w)} : cwE P F36.t6 Q e w θ = cwE P (.seq (.block 1 (.seq (.region 6 F36.r6.toArray false) (.cond (.tmp 18) (.seq (.region 7 F36.r7.toArray false) (.region 8 F36.r8.toArray false)) .skip))) F36.t5) Q e w := rfl
def F36.t9 : Cd := (.seq (.region 9 F36.r9.toArray false) .ret)
theorem F36.t9_eq {θ : Tag (F36.t9, Q, e, w)} : cwE P F36.t9 Q e w θ = cwE P (.seq (.region 9 F36.r9.toArray false) .ret) Q e w := rfl
def F36.code : Cd := (.seq (.region 0 F36.r0.toArray false) (.seq (.region 1 F36.r1.toArray false) (.seq (.region 2 F36.r2.toArray false) (.seq (.seq (.region 3 F36.r3.toArray false) (.block 0 (.loop (.seq (.seq (.region 4 F36.r4.toArray false) (.cond (.tmp 11) .skip (.exit 0))) F36.t6)))) F36.t9))))
theorem F36.calls (hn : args.size ≤ 34) (h : cwE Tryz.prog F36.code (fnP Tryz.prog #[(.tmp 4)] R) (entry args) w) : Calls Tryz.prog 36 args w R :=
  calls_of_cwE (types := Tryz.prog.types) follows Tryz.func36 F36.code rfl (by kernel_rfl) hn h

def F37.r0 : List Oper := [
  oc 2 (.alloc 72) 0,
  op 3 (.assign (.const (.bool false))) 4]
def F37.r1 : List Oper := [
  op 6 (.move (.tmp 0)) 9,
  oc 7 (.call ⟨(.value (.func 36)), #[(.tmp 6), (.const (.int .u8 58))], #[9, 5]⟩) 22,
  op 4 (.assign (.tmp 7)) 22]
def F37.r2 : List Oper := [
  op 8 (.move (.tmp 4)) 22,
  op 9 (.call ⟨(.builtin .len), #[(.tmp 8)], #[22]⟩) 3,
  op 10 (.binOp .neq 3 (.tmp 9) (.const (.int .i64 4)) 3) 4]
def F37.r3 : List Oper := [
  op 11 (.build 72 #[]) 72,
  ⟨none, (.store 72 (.tmp 2) (.tmp 11)), 0, "", #[⟨0, .chain⟩], none⟩,
  op 3 (.assign (.const (.bool false))) 4]
def F37.r4 : List Oper := [
  ⟨(some 12), (.move (.tmp 4)), 22, "", #[], none⟩,
  ⟨(some 13), (.indexAddr 22 (.tmp 12) (.const (.int .i64 0))), 0, "", #[], none⟩,
  ⟨(some 15), (.move (.tmp 4)), 22, "", #[], none⟩,
  ⟨(some 16), (.indexAddr 22 (.tmp 15) (.const (.int .i64 1))), 0, "", #[], none⟩,
  ⟨(some 18), (.move (.tmp 4)), 22, "", #[], none⟩,
  ⟨(some 19), (.indexAddr 22 (.tmp 18) (.const (.int .i64 3))), 0, "", #[], none⟩,
  ⟨(some 14), (.load 9 (.tmp 13)), 9, "", #[⟨2048, .data⟩], none⟩,
  ⟨(some 17), (.load 9 (.tmp 16)), 9, "", #[⟨2048, .data⟩], none⟩,
  ⟨(some 20), (.load 9 (.tmp 19)), 9, "", #[⟨2048, .data⟩], none⟩,
  ⟨(some 21), (.build 72 #[(0, (.tmp 14)), (1, (.tmp 17)), (3, (.tmp 20))]), 72, "", #[], none⟩,
  ⟨(some 5), (.alloc 72), 0, "", #[⟨10, .chain⟩], none⟩,
  ⟨none, (.store 72 (.tmp 5) (.tmp 21)), 0, "", #[⟨11, .chain⟩], none⟩]
def F37.r5 : List Oper := [
  op 22 (.move (.tmp 4)) 22,
  op 23 (.indexAddr 22 (.tmp 22) (.const (.int .i64 2))) 0,
  od 24 (.load 9 (.tmp 23)) 9,
  op 25 (.binOp .neq 9 (.tmp 24) (.const (.string { data := #[] })) 9) 4]
def F37.r6 : List Oper := [
  op 26 (.move (.tmp 4)) 22,
  op 27 (.indexAddr 22 (.tmp 26) (.const (.int .i64 2))) 0,
  od 28 (.load 9 (.tmp 27)) 9,
  oc 29 (.call ⟨(.value (.func 36)), #[(.tmp 28), (.const (.int .u8 44))], #[9, 5]⟩) 22,
  op 30 (.fieldAddr 72 (.tmp 5) 2) 0,
  ⟨none, (.store 22 (.tmp 30) (.tmp 29)), 0, "", #[⟨0, .chain⟩], none⟩]
def F37.r7 : List Oper := [
  od 31 (.load 72 (.tmp 5)) 72,
  oc 32 (.call ⟨(.value (.func 51)), #[(.tmp 31)], #[72]⟩) 4,
  op 33 (.unOp .not 4 (.tmp 32)) 4]
def F37.r8 : List Oper := [
  op 34 (.build 72 #[]) 72,
  ⟨none, (.store 72 (.tmp 2) (.tmp 34)), 0, "", #[⟨0, .chain⟩], none⟩,
  op 3 (.assign (.const (.bool false))) 4]
def F37.r9 : List Oper := [
  od 35 (.load 72 (.tmp 5)) 72,
  ⟨none, (.store 72 (.tmp 2) (.tmp 35)), 0, "", #[⟨0, .chain⟩], none⟩,
  op 3 (.assign (.const (.bool true))) 4]
def F37.t9 : Cd := (.seq (.region 9 F37.r9.toArray false) .ret)
theorem F37.t9_eq {θ : Tag (F37.t9, Q, e, w)} : cwE P F37.t9 Q e w θ = cwE P (.seq (.region 9 F37.r9.toArray false) .ret) Q e w := rfl
def F37.t7 : Cd := (.seq (.seq (.region 7 F37.r7.toArray false) (.cond (.tmp 33) (.seq (.region 8 F37.r8.toArray false) .ret) .skip)) F37.t9)
theorem F37.t7_eq {θ : Tag (F37.t7, Q, e, w)} : cwE P F37.t7 Q e w θ = cwE P (.seq (.seq (.region 7 F37.r7.toArray false) (.cond (.tmp 33) (.seq (.region 8 F37.r8.toArray false) .ret) .skip)) F37.t9) Q e w := rfl
def F37.t4 : Cd := (.seq (.region 4 F37.r4.toArray true) (.seq (.seq (.region 5 F37.r5.toArray false) (.cond (.tmp 25) (.region 6 F37.r6.toArray false) .skip)) F37.t7))
theorem F37.t4_eq {θ : Tag (F37.t4, Q, e, w)} : cwE P F37.t4 Q e w θ = cwE P (.seq (.region 4 F37.r4.toArray true) (.seq (.seq (.region 5 F37.r5.toArray false) (.cond (.tmp 25) (.region 6 F37.r6.toArray false) .skip)) F37.t7)) Q e w := rfl
def F37.code : Cd := (.seq (.region 0 F37.r0.toArray false) (.seq (.region 1 F37.r1.toArray false) (.seq (.seq (.region 2 F37.r2.toArray false) (.cond (.tmp 10) (.seq (.region 3 F37.r3.toArray false) .ret) .skip)) F37.t4)))
theorem F37.calls (hn : args.size ≤ 36) (h : cwE Tryz.prog F37.code (fnP Tryz.prog #[(.cell 2 72), (.tmp 3)] R) (entry args) w) : Calls Tryz.prog 37 args w R :=
  calls_of_cwE (types := Tryz.prog.types) follows Tryz.func37 F37.code rfl (by kernel_rfl) hn h

def F38.r0 : List Oper := [
  op 4 (.assign (.const (.int .i64 0))) 3]
def F38.r1 : List Oper := [
  op 5 (.assign (.const (.int .i64 0))) 3]
def F38.r2 : List Oper := [
  op 6 (.move (.tmp 5)) 3,
  op 7 (.move (.tmp 0)) 38,
  op 8 (.call ⟨(.builtin .len), #[(.tmp 7)], #[38]⟩) 3,
  op 9 (.binOp .lss 3 (.tmp 6) (.tmp 8) 3) 4]
def F38.r4 : List Oper := [
  op 12 (.move (.tmp 0)) 38,
  op 13 (.move (.tmp 5)) 3,
  op 14 (.indexAddr 38 (.tmp 12) (.tmp 13)) 0,
  op 15 (.fieldAddr 72 (.tmp 14) 0) 0,
  od 16 (.load 9 (.tmp 15)) 9,
  op 17 (.move (.tmp 1)) 9,
  op 18 (.binOp .eql 9 (.tmp 16) (.tmp 17) 9) 4]
def F38.r5 : List Oper := [
  op 19 (.move (.tmp 5)) 3,
  op 4 (.assign (.tmp 19)) 3]
def F38.r3 : List Oper := [
  op 10 (.move (.tmp 5)) 3,
  op 11 (.binOp .add 3 (.tmp 10) (.const (.int .i64 1)) 3) 3,
  op 5 (.assign (.tmp 11)) 3]
def F38.r6 : List Oper := [
  op 4 (.assign (.const (.int .i64 (-1)))) 3]
def F38.t3 : Cd := (.region 3 F38.r3.toArray false)
theorem F38.t3_eq {θ : Tag (F38.t3, Q, e, w)} : cwE P F38.t3 Q e w θ = cwE P (.region 3 F38.r3.toArray false) Q e w := rfl
def F38.t4 : Cd := (.seq (.block 1 (.seq (.region 4 F38.r4.toArray false) (.cond (.tmp 18) (.seq (.region 5 F38.r5.toArray false) .ret) .skip))) F38.t3)
theorem F38.t4_eq {θ : Tag (F38.t4, Q, e, w)} : cwE P F38.t4 Q e w θ = cwE P (.seq (.block 1 (.seq (.region 4 F38.r4.toArray false) (.cond (.tmp 18) (.seq (.region 5 F38.r5.toArray false) .ret) .skip))) F38.t3) Q e w := rfl
def F38.t6 : Cd := (.seq (.region 6 F38.r6.toArray false) .ret)
theorem F38.t6_eq {θ : Tag (F38.t6, Q, e, w)} : cwE P F38.t6 Q e w θ = cwE P (.seq (.region 6 F38.r6.toArray false) .ret) Q e w := rfl
def F38.code : Cd := (.seq (.region 0 F38.r0.toArray false) (.seq (.seq (.region 1 F38.r1.toArray false) (.block 0 (.loop (.seq (.seq (.region 2 F38.r2.toArray false) (.cond (.tmp 9) .skip (.exit 0))) F38.t4)))) F38.t6))
theorem F38.calls (hn : args.size ≤ 20) (h : cwE Tryz.prog F38.code (fnP Tryz.prog #[(.tmp 4)] R) (entry args) w) : Calls Tryz.prog 38 args w R :=
  calls_of_cwE (types := Tryz.prog.types) follows Tryz.func38 F38.code rfl (by kernel_rfl) hn h

def F39.r0 : List Oper := [
  op 2 (.assign (.const (.bool false))) 4]
def F39.r1 : List Oper := [
  op 3 (.assign (.const (.int .i64 0))) 3]
def F39.r2 : List Oper := [
  op 4 (.move (.tmp 3)) 3,
  op 5 (.move (.tmp 0)) 22,
  op 6 (.call ⟨(.builtin .len), #[(.tmp 5)], #[22]⟩) 3,
  op 7 (.binOp .lss 3 (.tmp 4) (.tmp 6) 3) 4]
def F39.r4 : List Oper := [
  ⟨(some 10), (.move (.tmp 0)), 22, "", #[], none⟩,
  ⟨(some 11), (.move (.tmp 3)), 3, "", #[], none⟩,
  ⟨(some 12), (.slice 22 (.tmp 10) none (some (.tmp 11)) none), 22, "", #[], none⟩,
  ⟨(some 13), (.move (.tmp 0)), 22, "", #[], none⟩,
  ⟨(some 14), (.move (.tmp 3)), 3, "", #[], none⟩,
  ⟨(some 15), (.indexAddr 22 (.tmp 13) (.tmp 14)), 0, "", #[], none⟩,
  ⟨(some 16), (.load 9 (.tmp 15)), 9, "", #[⟨128, .data⟩], none⟩,
  ⟨(some 17), (.call ⟨(.value (.func 65)), #[(.tmp 12), (.tmp 16)], #[22, 9]⟩), 4, "", #[⟨7, .chain⟩], none⟩]
def F39.r5 : List Oper := [
  op 2 (.assign (.const (.bool true))) 4]
def F39.r3 : List Oper := [
  op 8 (.move (.tmp 3)) 3,
  op 9 (.binOp .add 3 (.tmp 8) (.const (.int .i64 1)) 3) 3,
  op 3 (.assign (.tmp 9)) 3]
def F39.r6 : List Oper := [
  op 2 (.assign (.const (.bool false))) 4]
def F39.t3 : Cd := (.region 3 F39.r3.toArray false)
theorem F39.t3_eq {θ : Tag (F39.t3, Q, e, w)} : cwE P F39.t3 Q e w θ = cwE P (.region 3 F39.r3.toArray false) Q e w := rfl
def F39.t4 : Cd := (.seq (.block 1 (.seq (.region 4 F39.r4.toArray true) (.cond (.tmp 17) (.seq (.region 5 F39.r5.toArray false) .ret) .skip))) F39.t3)
theorem F39.t4_eq {θ : Tag (F39.t4, Q, e, w)} : cwE P F39.t4 Q e w θ = cwE P (.seq (.block 1 (.seq (.region 4 F39.r4.toArray true) (.cond (.tmp 17) (.seq (.region 5 F39.r5.toArray false) .ret) .skip))) F39.t3) Q e w := rfl
def F39.t6 : Cd := (.seq (.region 6 F39.r6.toArray false) .ret)
theorem F39.t6_eq {θ : Tag (F39.t6, Q, e, w)} : cwE P F39.t6 Q e w θ = cwE P (.seq (.region 6 F39.r6.toArray false) .ret) Q e w := rfl
def F39.code : Cd := (.seq (.region 0 F39.r0.toArray false) (.seq (.seq (.region 1 F39.r1.toArray false) (.block 0 (.loop (.seq (.seq (.region 2 F39.r2.toArray false) (.cond (.tmp 7) .skip (.exit 0))) F39.t4)))) F39.t6))
theorem F39.calls (hn : args.size ≤ 18) (h : cwE Tryz.prog F39.code (fnP Tryz.prog #[(.tmp 2)] R) (entry args) w) : Calls Tryz.prog 39 args w R :=
  calls_of_cwE (types := Tryz.prog.types) follows Tryz.func39 F39.code rfl (by kernel_rfl) hn h

def F40.r0 : List Oper := [
  oc 3 (.box 72 (.tmp 1)) 0,
  op 4 (.assign (.const (.bool false))) 4]
def F40.r1 : List Oper := [
  op 6 (.fieldAddr 72 (.tmp 3) 1) 0,
  od 7 (.load 9 (.tmp 6)) 9,
  op 8 (.binOp .neq 9 (.tmp 7) (.const (.string { data := #[] })) 9) 4,
  op 9 (.move (.tmp 8)) 4,
  ⟨(some 10), (.move (.tmp 0)), 38, "", #[], (some (9, true))⟩,
  ⟨(some 11), (.fieldAddr 72 (.tmp 3) 1), 0, "", #[], (some (9, true))⟩,
  ⟨(some 12), (.load 9 (.tmp 11)), 9, "", #[⟨0, .data⟩], (some (9, true))⟩,
  ⟨(some 13), (.call ⟨(.value (.func 38)), #[(.tmp 10), (.tmp 12)], #[38, 9]⟩), 3, "", #[⟨0, .chain⟩], (some (9, true))⟩,
  ⟨(some 14), (.binOp .lss 3 (.tmp 13) (.const (.int .i64 0)) 3), 4, "", #[], (some (9, true))⟩,
  op 15 (.pick (.tmp 9) (.tmp 14) (.const (.bool false))) 4]
def F40.r2 : List Oper := [
  op 4 (.assign (.const (.bool false))) 4]
def F40.r3 : List Oper := [
  op 5 (.assign (.const (.int .i64 0))) 3]
def F40.r4 : List Oper := [
  op 16 (.move (.tmp 5)) 3,
  op 17 (.fieldAddr 72 (.tmp 3) 2) 0,
  od 18 (.load 22 (.tmp 17)) 22,
  op 19 (.call ⟨(.builtin .len), #[(.tmp 18)], #[22]⟩) 3,
  op 20 (.binOp .lss 3 (.tmp 16) (.tmp 19) 3) 4]
def F40.r6 : List Oper := [
  op 23 (.move (.tmp 0)) 38,
  op 24 (.fieldAddr 72 (.tmp 3) 2) 0,
  od 25 (.load 22 (.tmp 24)) 22,
  op 26 (.move (.tmp 5)) 3,
  op 27 (.indexAddr 22 (.tmp 25) (.tmp 26)) 0,
  od 28 (.load 9 (.tmp 27)) 9,
  oc 29 (.call ⟨(.value (.func 38)), #[(.tmp 23), (.tmp 28)], #[38, 9]⟩) 3,
  op 30 (.binOp .lss 3 (.tmp 29) (.const (.int .i64 0)) 3) 4]
def F40.r7 : List Oper := [
  op 4 (.assign (.const (.bool false))) 4]
def F40.r5 : List Oper := [
  op 21 (.move (.tmp 5)) 3,
  op 22 (.binOp .add 3 (.tmp 21) (.const (.int .i64 1)) 3) 3,
  op 5 (.assign (.tmp 22)) 3]
def F40.r8 : List Oper := [
  op 4 (.assign (.const (.bool true))) 4]
def F40.t5 : Cd := (.region 5 F40.r5.toArray false)
theorem F40.t5_eq {θ : Tag (F40.t5, Q, e, w)} : cwE P F40.t5 Q e w θ = cwE P (.region 5 F40.r5.toArray false) Q e w := rfl
def F40.t6 : Cd := (.seq (.block 1 (.seq (.region 6 F40.r6.toArray false) (.cond (.tmp 30) (.seq (.region 7 F40.r7.toArray false) .ret) .skip))) F40.t5)
theorem F40.t6_eq {θ : Tag (F40.t6, Q, e, w)} : cwE P F40.t6 Q e w θ = cwE P (.seq (.block 1 (.seq (.region 6 F40.r6.toArray false) (.cond (.tmp 30) (.seq (.region 7 F40.r7.toArray false) .ret) .skip))) F40.t5) Q e w := rfl
def F40.t8 : Cd := (.seq (.region 8 F40.r8.toArray false) .ret)
theorem F40.t8_eq {θ : Tag (F40.t8, Q, e, w)} : cwE P F40.t8 Q e w θ = cwE P (.seq (.region 8 F40.r8.toArray false) .ret) Q e w := rfl
def F40.t3 : Cd := (.seq (.seq (.region 3 F40.r3.toArray false) (.block 0 (.loop (.seq (.seq (.region 4 F40.r4.toArray false) (.cond (.tmp 20) .skip (.exit 0))) F40.t6)))) F40.t8)
theorem F40.t3_eq {θ : Tag (F40.t3, Q, e, w)} : cwE P F40.t3 Q e w θ = cwE P (.seq (.seq (.region 3 F40.r3.toArray false) (.block 0 (.loop (.seq (.seq (.region 4 F40.r4.toArray false) (.cond (.tmp 20) .skip (.exit 0))) F40.t6)))) F40.t8) Q e w := rfl
def F40.code : Cd := (.seq (.region 0 F40.r0.toArray false) (.seq (.seq (.region 1 F40.r1.toArray false) (.cond (.tmp 15) (.seq (.region 2 F40.r2.toArray false) .ret) .skip)) F40.t3))
theorem F40.calls (hn : args.size ≤ 31) (h : cwE Tryz.prog F40.code (fnP Tryz.prog #[(.tmp 4)] R) (entry args) w) : Calls Tryz.prog 40 args w R :=
  calls_of_cwE (types := Tryz.prog.types) follows Tryz.func40 F40.code rfl (by kernel_rfl) hn h

def F41.r0 : List Oper := [
  op 2 (.assign (.const (.int .i64 0))) 3]
def F41.r1 : List Oper := [
  op 3 (.assign (.const (.int .i64 0))) 3]
def F41.r2 : List Oper := [
  op 4 (.assign (.const (.int .i64 0))) 3]
def F41.r3 : List Oper := [
  op 5 (.move (.tmp 4)) 3,
  op 6 (.move (.tmp 0)) 38,
  op 7 (.call ⟨(.builtin .len), #[(.tmp 6)], #[38]⟩) 3,
  op 8 (.binOp .lss 3 (.tmp 5) (.tmp 7) 3) 4,
  op 9 (.move (.tmp 8)) 4,
  ⟨(some 10), (.move (.tmp 3)), 3, "", #[], (some (9, true))⟩,
  ⟨(some 11), (.binOp .leq 3 (.tmp 10) (.const (.int .i64 65536)) 3), 4, "", #[], (some (9, true))⟩,
  op 12 (.pick (.tmp 9) (.tmp 11) (.const (.bool false))) 4]
def F41.r5 : List Oper := [
  op 15 (.move (.tmp 3)) 3,
  op 16 (.move (.tmp 0)) 38,
  op 17 (.move (.tmp 4)) 3,
  op 18 (.indexAddr 38 (.tmp 16) (.tmp 17)) 0,
  od 19 (.load 72 (.tmp 18)) 72,
  oc 20 (.call ⟨(.value (.func 66)), #[(.tmp 19)], #[72]⟩) 9,
  op 21 (.call ⟨(.builtin .len), #[(.tmp 20)], #[9]⟩) 3,
  op 22 (.binOp .add 3 (.tmp 15) (.tmp 21) 3) 3,
  op 3 (.assign (.tmp 22)) 3]
def F41.r4 : List Oper := [
  op 13 (.move (.tmp 4)) 3,
  op 14 (.binOp .add 3 (.tmp 13) (.const (.int .i64 1)) 3) 3,
  op 4 (.assign (.tmp 14)) 3]
def F41.r6 : List Oper := [
  op 23 (.move (.tmp 3)) 3,
  op 2 (.assign (.tmp 23)) 3]
def F41.t4 : Cd := (.region 4 F41.r4.toArray false)
theorem F41.t4_eq {θ : Tag (F41.t4, Q, e, w)} : cwE P F41.t4 Q e w θ = cwE P (.region 4 F41.r4.toArray false) Q e w := rfl
def F41.t5 : Cd := (.seq (.block 1 (.region 5 F41.r5.toArray false)) F41.t4)
theorem F41.t5_eq {θ : Tag (F41.t5, Q, e, w)} : cwE P F41.t5 Q e w θ = cwE P (.seq (.block 1 (.region 5 F41.r5.toArray false)) F41.t4) Q e w := rfl
def F41.t6 : Cd := (.seq (.region 6 F41.r6.toArray false) .ret)
theorem F41.t6_eq {θ : Tag (F41.t6, Q, e, w)} : cwE P F41.t6 Q e w θ = cwE P (.seq (.region 6 F41.r6.toArray false) .ret) Q e w := rfl
def F41.code : Cd := (.seq (.region 0 F41.r0.toArray false) (.seq (.region 1 F41.r1.toArray false) (.seq (.seq (.region 2 F41.r2.toArray false) (.block 0 (.loop (.seq (.seq (.region 3 F41.r3.toArray false) (.cond (.tmp 12) .skip (.exit 0))) F41.t5)))) F41.t6)))
theorem F41.calls (hn : args.size ≤ 24) (h : cwE Tryz.prog F41.code (fnP Tryz.prog #[(.tmp 2)] R) (entry args) w) : Calls Tryz.prog 41 args w R :=
  calls_of_cwE (types := Tryz.prog.types) follows Tryz.func41 F41.code rfl (by kernel_rfl) hn h

def F42.r0 : List Oper := [
  oc 4 (.box 3 (.tmp 1)) 0,
  oc 5 (.box 32 (.tmp 2)) 0,
  op 6 (.assign (.const (.slice none 0 0))) 38,
  op 7 (.assign (.const (.bool false))) 4]
def F42.r1 : List Oper := [
  oc 8 (.alloc 38) 0]
def F42.r2 : List Oper := [
  op 12 (.move (.tmp 0)) 25,
  oc 13 (.call ⟨(.value (.func 58)), #[(.tmp 12)], #[25]⟩) 98,
  op 9 (.assign (.tmp 13)) 98]
def F42.r3 : List Oper := [
  op 14 (.move (.tmp 9)) 98,
  op 15 (.binOp .eql 98 (.tmp 14) (.const .nilFunc) 98) 4]
def F42.r4 : List Oper := [
  op 6 (.assign (.const (.slice none 0 0))) 38,
  op 7 (.assign (.const (.bool false))) 4]
def F42.r5 : List Oper := [
  op 16 (.move (.tmp 9)) 98]
def F42.r6 : List Oper := [
  oc 10 (.alloc 72) 0,
  ⟨none, (.store 72 (.tmp 10) (.tmp 17)), 0, "", #[⟨0, .chain⟩], none⟩]
def F42.r7 : List Oper := [
  od 18 (.load 72 (.tmp 10)) 72,
  oc 19 (.buildSlice 38 1 #[(0, (.tmp 18))]) 38,
  oc 20 (.call ⟨(.value (.func 67)), #[(.tmp 19)], #[38]⟩) 38,
  op 11 (.assign (.tmp 20)) 38]
def F42.r8 : List Oper := [
  od 21 (.load 38 (.tmp 8)) 38,
  op 22 (.move (.tmp 11)) 38,
  oc 23 (.call ⟨(.builtin .append), #[(.tmp 21), (.tmp 22)], #[38, 38]⟩) 38,
  ⟨none, (.store 38 (.tmp 8) (.tmp 23)), 0, "", #[⟨0, .chain⟩], none⟩]
def F42.r9 : List Oper := [
  od 24 (.load 32 (.tmp 5)) 32,
  op 25 (.fieldAddr 72 (.tmp 10) 2) 0,
  od 26 (.load 22 (.tmp 25)) 22,
  oc 27 (.call ⟨(.value (.func 68)), #[(.tmp 24), (.tmp 26)], #[32, 22]⟩) 0]
def F42.r10 : List Oper := [
  od 28 (.load 38 (.tmp 8)) 38,
  op 29 (.call ⟨(.builtin .len), #[(.tmp 28)], #[38]⟩) 3,
  od 30 (.load 3 (.tmp 4)) 3,
  op 31 (.binOp .eql 3 (.tmp 29) (.tmp 30) 3) 4]
def F42.r11 : List Oper := [
  od 32 (.load 38 (.tmp 8)) 38,
  op 6 (.assign (.tmp 32)) 38,
  op 7 (.assign (.const (.bool true))) 4]
def F42.a0 : Cd := (.region 6 F42.r6.toArray false)
def F42.b0 : Cd := (.block 1 (.seq (.region 7 F42.r7.toArray false) (.seq (.region 8 F42.r8.toArray false) (.seq (.region 9 F42.r9.toArray false) (.seq (.region 10 F42.r10.toArray false) (.cond (.tmp 31) (.exit 0) .skip))))))
def F42.t11 : Cd := (.seq (.region 11 F42.r11.toArray false) .ret)
theorem F42.t11_eq {θ : Tag (F42.t11, Q, e, w)} : cwE P F42.t11 Q e w θ = cwE P (.seq (.region 11 F42.r11.toArray false) .ret) Q e w := rfl
def F42.t5 : Cd := (.seq (.seq (.region 5 F42.r5.toArray false) (.block 0 (.rangeFunc (.tmp 16) #[17] F42.a0 F42.b0))) F42.t11)
theorem F42.t5_eq {θ : Tag (F42.t5, Q, e, w)} : cwE P F42.t5 Q e w θ = cwE P (.seq (.seq (.region 5 F42.r5.toArray false) (.block 0 (.rangeFunc (.tmp 16) #[17] F42.a0 F42.b0))) F42.t11) Q e w := rfl
def F42.code : Cd := (.seq (.region 0 F42.r0.toArray false) (.seq (.region 1 F42.r1.toArray false) (.seq (.region 2 F42.r2.toArray false) (.seq (.seq (.region 3 F42.r3.toArray false) (.cond (.tmp 15) (.seq (.region 4 F42.r4.toArray false) .ret) .skip)) F42.t5))))
theorem F42.calls (hn : args.size ≤ 33) (h : cwE Tryz.prog F42.code (fnP Tryz.prog #[(.tmp 6), (.tmp 7)] R) (entry args) w) : Calls Tryz.prog 42 args w R :=
  calls_of_cwE (types := Tryz.prog.types) follows Tryz.func42 F42.code rfl (by kernel_rfl) hn h

def F43.r0 : List Oper := [
  op 2 (.assign (.const (.slice none 0 0))) 38]
def F43.r1 : List Oper := [
  op 3 (.assign (.const (.slice none 0 0))) 38]
def F43.r2 : List Oper := [
  op 4 (.assign (.const (.int .i64 0))) 3]
def F43.r3 : List Oper := [
  op 5 (.move (.tmp 4)) 3,
  op 6 (.move (.tmp 0)) 29,
  op 7 (.nilCheck (.tmp 6)) 0,
  op 8 (.fieldAddr 84 (.tmp 7) 0) 0,
  od 9 (.load 38 (.tmp 8)) 38,
  op 10 (.call ⟨(.builtin .len), #[(.tmp 9)], #[38]⟩) 3,
  op 11 (.binOp .lss 3 (.tmp 5) (.tmp 10) 3) 4]
def F43.r5 : List Oper := [
  op 14 (.move (.tmp 3)) 38,
  op 15 (.move (.tmp 0)) 29,
  op 16 (.nilCheck (.tmp 15)) 0,
  op 17 (.fieldAddr 84 (.tmp 16) 0) 0,
  od 18 (.load 38 (.tmp 17)) 38,
  op 19 (.move (.tmp 4)) 3,
  op 20 (.indexAddr 38 (.tmp 18) (.tmp 19)) 0,
  od 21 (.load 72 (.tmp 20)) 72,
  oc 22 (.call ⟨(.value (.func 69)), #[(.tmp 21)], #[72]⟩) 72,
  oc 23 (.buildSlice 38 1 #[(0, (.tmp 22))]) 38,
  oc 24 (.call ⟨(.builtin .append), #[(.tmp 14), (.tmp 23)], #[38, 38]⟩) 38,
  op 3 (.assign (.tmp 24)) 38]
def F43.r4 : List Oper := [
  op 12 (.move (.tmp 4)) 3,
  op 13 (.binOp .add 3 (.tmp 12) (.const (.int .i64 1)) 3) 3,
  op 4 (.assign (.tmp 13)) 3]
def F43.r6 : List Oper := [
  op 25 (.move (.tmp 3)) 38,
  op 2 (.assign (.tmp 25)) 38]
def F43.t4 : Cd := (.region 4 F43.r4.toArray false)
theorem F43.t4_eq {θ : Tag (F43.t4, Q, e, w)} : cwE P F43.t4 Q e w θ = cwE P (.region 4 F43.r4.toArray false) Q e w := rfl
def F43.t5 : Cd := (.seq (.block 1 (.region 5 F43.r5.toArray false)) F43.t4)
theorem F43.t5_eq {θ : Tag (F43.t5, Q, e, w)} : cwE P F43.t5 Q e w θ = cwE P (.seq (.block 1 (.region 5 F43.r5.toArray false)) F43.t4) Q e w := rfl
def F43.t6 : Cd := (.seq (.region 6 F43.r6.toArray false) .ret)
theorem F43.t6_eq {θ : Tag (F43.t6, Q, e, w)} : cwE P F43.t6 Q e w θ = cwE P (.seq (.region 6 F43.r6.toArray false) .ret) Q e w := rfl
def F43.code : Cd := (.seq (.region 0 F43.r0.toArray false) (.seq (.region 1 F43.r1.toArray false) (.seq (.seq (.region 2 F43.r2.toArray false) (.block 0 (.loop (.seq (.seq (.region 3 F43.r3.toArray false) (.cond (.tmp 11) .skip (.exit 0))) F43.t5)))) F43.t6)))
theorem F43.calls (hn : args.size ≤ 26) (h : cwE Tryz.prog F43.code (fnP Tryz.prog #[(.tmp 2)] R) (entry args) w) : Calls Tryz.prog 43 args w R :=
  calls_of_cwE (types := Tryz.prog.types) follows Tryz.func43 F43.code rfl (by kernel_rfl) hn h

def F44.r0 : List Oper := [
  op 4 (.assign (.const (.bool false))) 4]
def F44.r1 : List Oper := [
  op 7 (.move (.tmp 0)) 38,
  op 8 (.call ⟨(.builtin .len), #[(.tmp 7)], #[38]⟩) 3,
  op 9 (.move (.tmp 1)) 38,
  op 10 (.call ⟨(.builtin .len), #[(.tmp 9)], #[38]⟩) 3,
  op 11 (.binOp .neq 3 (.tmp 8) (.tmp 10) 3) 4]
def F44.r2 : List Oper := [
  op 4 (.assign (.const (.bool false))) 4]
def F44.r3 : List Oper := [
  op 5 (.assign (.const (.int .i64 0))) 3]
def F44.r4 : List Oper := [
  op 12 (.move (.tmp 5)) 3,
  op 13 (.move (.tmp 0)) 38,
  op 14 (.call ⟨(.builtin .len), #[(.tmp 13)], #[38]⟩) 3,
  op 15 (.binOp .lss 3 (.tmp 12) (.tmp 14) 3) 4]
def F44.r6 : List Oper := [
  ⟨(some 18), (.move (.tmp 0)), 38, "", #[], none⟩,
  ⟨(some 19), (.move (.tmp 5)), 3, "", #[], none⟩,
  ⟨(some 20), (.indexAddr 38 (.tmp 18) (.tmp 19)), 0, "", #[], none⟩,
  ⟨(some 22), (.move (.tmp 1)), 38, "", #[], none⟩,
  ⟨(some 23), (.move (.tmp 5)), 3, "", #[], none⟩,
  ⟨(some 24), (.indexAddr 38 (.tmp 22) (.tmp 23)), 0, "", #[], none⟩,
  ⟨(some 21), (.load 72 (.tmp 20)), 72, "", #[⟨256, .data⟩], none⟩,
  ⟨(some 25), (.load 72 (.tmp 24)), 72, "", #[⟨256, .data⟩], none⟩,
  ⟨(some 26), (.call ⟨(.value (.func 53)), #[(.tmp 21), (.tmp 25)], #[72, 72]⟩), 4, "", #[⟨8, .chain⟩], none⟩,
  ⟨(some 6), (.assign (.tmp 26)), 4, "", #[], none⟩]
def F44.r7 : List Oper := [
  op 27 (.move (.tmp 6)) 4,
  op 28 (.unOp .not 4 (.tmp 27)) 4]
def F44.r8 : List Oper := [
  op 4 (.assign (.const (.bool false))) 4]
def F44.r5 : List Oper := [
  op 16 (.move (.tmp 5)) 3,
  op 17 (.binOp .add 3 (.tmp 16) (.const (.int .i64 1)) 3) 3,
  op 5 (.assign (.tmp 17)) 3]
def F44.r9 : List Oper := [
  op 4 (.assign (.const (.bool true))) 4]
def F44.t5 : Cd := (.region 5 F44.r5.toArray false)
theorem F44.t5_eq {θ : Tag (F44.t5, Q, e, w)} : cwE P F44.t5 Q e w θ = cwE P (.region 5 F44.r5.toArray false) Q e w := rfl
def F44.t6 : Cd := (.seq (.block 1 (.seq (.region 6 F44.r6.toArray true) (.seq (.region 7 F44.r7.toArray false) (.cond (.tmp 28) (.seq (.region 8 F44.r8.toArray false) .ret) .skip)))) F44.t5)
theorem F44.t6_eq {θ : Tag (F44.t6, Q, e, w)} : cwE P F44.t6 Q e w θ = cwE P (.seq (.block 1 (.seq (.region 6 F44.r6.toArray true) (.seq (.region 7 F44.r7.toArray false) (.cond (.tmp 28) (.seq (.region 8 F44.r8.toArray false) .ret) .skip)))) F44.t5) Q e w := rfl
def F44.t9 : Cd := (.seq (.region 9 F44.r9.toArray false) .ret)
theorem F44.t9_eq {θ : Tag (F44.t9, Q, e, w)} : cwE P F44.t9 Q e w θ = cwE P (.seq (.region 9 F44.r9.toArray false) .ret) Q e w := rfl
def F44.t3 : Cd := (.seq (.seq (.region 3 F44.r3.toArray false) (.block 0 (.loop (.seq (.seq (.region 4 F44.r4.toArray false) (.cond (.tmp 15) .skip (.exit 0))) F44.t6)))) F44.t9)
theorem F44.t3_eq {θ : Tag (F44.t3, Q, e, w)} : cwE P F44.t3 Q e w θ = cwE P (.seq (.seq (.region 3 F44.r3.toArray false) (.block 0 (.loop (.seq (.seq (.region 4 F44.r4.toArray false) (.cond (.tmp 15) .skip (.exit 0))) F44.t6)))) F44.t9) Q e w := rfl
def F44.code : Cd := (.seq (.region 0 F44.r0.toArray false) (.seq (.seq (.region 1 F44.r1.toArray false) (.cond (.tmp 11) (.seq (.region 2 F44.r2.toArray false) .ret) .skip)) F44.t3))
theorem F44.calls (hn : args.size ≤ 29) (h : cwE Tryz.prog F44.code (fnP Tryz.prog #[(.tmp 4)] R) (entry args) w) : Calls Tryz.prog 44 args w R :=
  calls_of_cwE (types := Tryz.prog.types) follows Tryz.func44 F44.code rfl (by kernel_rfl) hn h

def F45.r0 : List Oper := [
  op 2 (.assign (.const (.string { data := #[] }))) 9]
def F45.r1 : List Oper := [
  oc 3 (.alloc 114) 0]
def F45.r2 : List Oper := [
  op 6 (.move (.tmp 0)) 25,
  op 7 (.nilCheck (.tmp 6)) 0,
  op 8 (.fieldAddr 67 (.tmp 7) 0) 0,
  od 9 (.load 38 (.tmp 8)) 38,
  op 10 (.call ⟨(.builtin .len), #[(.tmp 9)], #[38]⟩) 3,
  op 11 (.move (.const (.int .i64 0))) 3]
def F45.r3 : List Oper := [
  op 12 (.binOp .lss 3 (.tmp 11) (.tmp 10) 3) 0]
def F45.r4 : List Oper := [
  op 13 (.indexAddr 38 (.tmp 9) (.tmp 11)) 0,
  od 14 (.load 72 (.tmp 13)) 72,
  oc 5 (.alloc 72) 0,
  ⟨none, (.store 72 (.tmp 5) (.tmp 14)), 0, "", #[⟨0, .chain⟩], none⟩]
def F45.r5 : List Oper := [
  od 15 (.load 72 (.tmp 5)) 72,
  oc 16 (.call ⟨(.value (.func 71)), #[(.tmp 15)], #[72]⟩) 9,
  oc 17 (.call ⟨(.value (.func 70)), #[(.tmp 3), (.tmp 16)], #[114, 9]⟩) 117]
def F45.r6 : List Oper := [
  op 18 (.binOp .add 3 (.tmp 11) (.const (.int .i64 1)) 3) 3,
  op 11 (.move (.tmp 18)) 3]
def F45.r7 : List Oper := [
  oc 19 (.call ⟨(.value (.func 72)), #[(.tmp 3)], #[114]⟩) 9,
  op 2 (.assign (.tmp 19)) 9]
def F45.t6 : Cd := (.region 6 F45.r6.toArray false)
theorem F45.t6_eq {θ : Tag (F45.t6, Q, e, w)} : cwE P F45.t6 Q e w θ = cwE P (.region 6 F45.r6.toArray false) Q e w := rfl
def F45.t4 : Cd := (.seq (.block 1 (.seq (.region 4 F45.r4.toArray false) (.region 5 F45.r5.toArray false))) F45.t6)
theorem F45.t4_eq {θ : Tag (F45.t4, Q, e, w)} : cwE P F45.t4 Q e w θ = cwE P (.seq (.block 1 (.seq (.region 4 F45.r4.toArray false) (.region 5 F45.r5.toArray false))) F45.t6) Q e w := rfl
def F45.t7 : Cd := (.seq (.region 7 F45.r7.toArray false) .ret)
theorem F45.t7_eq {θ : Tag (F45.t7, Q, e, w)} : cwE P F45.t7 Q e w θ = cwE P (.seq (.region 7 F45.r7.toArray false) .ret) Q e w := rfl
def F45.code : Cd := (.seq (.region 0 F45.r0.toArray false) (.seq (.region 1 F45.r1.toArray false) (.seq (.seq (.region 2 F45.r2.toArray false) (.block 0 (.loop (.seq (.region 3 F45.r3.toArray false) (.seq (.cond (.tmp 12) .skip (.exit 0)) F45.t4))))) F45.t7)))
theorem F45.calls (hn : args.size ≤ 20) (h : cwE Tryz.prog F45.code (fnP Tryz.prog #[(.tmp 2)] R) (entry args) w) : Calls Tryz.prog 45 args w R :=
  calls_of_cwE (types := Tryz.prog.types) follows Tryz.func45 F45.code rfl (by kernel_rfl) hn h

def F46.r0 : List Oper := [
  op 2 (.assign (.const (.string { data := #[] }))) 9]
def F46.r1 : List Oper := [
  op 3 (.move (.tmp 0)) 29,
  op 4 (.nilCheck (.tmp 3)) 0,
  op 5 (.fieldAddr 84 (.tmp 4) 0) 0,
  od 6 (.load 38 (.tmp 5)) 38,
  oc 7 (.call ⟨(.value (.func 52)), #[(.tmp 6)], #[38]⟩) 9,
  op 2 (.assign (.tmp 7)) 9]
def F46.code : Cd := (.seq (.region 0 F46.r0.toArray false) (.seq (.region 1 F46.r1.toArray false) .ret))
theorem F46.calls (hn : args.size ≤ 8) (h : cwE Tryz.prog F46.code (fnP Tryz.prog #[(.tmp 2)] R) (entry args) w) : Calls Tryz.prog 46 args w R :=
  calls_of_cwE (types := Tryz.prog.types) follows Tryz.func46 F46.code rfl (by kernel_rfl) hn h

def F47.r0 : List Oper := [
  op 10 (.assign (.const (.bool false))) 4]
def F47.r1 : List Oper := [
  op 13 (.move (.tmp 0)) 25,
  op 14 (.move (.tmp 2)) 9,
  oc 15 (.call ⟨(.value (.func 21)), #[(.tmp 13), (.tmp 14)], #[25, 9]⟩) 22,
  op 11 (.assign (.tmp 15)) 22]
def F47.r2 : List Oper := [
  op 16 (.move (.tmp 11)) 22,
  op 17 (.move (.tmp 1)) 29,
  op 18 (.move (.tmp 2)) 9,
  oc 19 (.call ⟨(.value (.func 73)), #[(.tmp 17), (.tmp 18)], #[29, 9]⟩) 22,
  oc 20 (.call ⟨(.value (.func 22)), #[(.tmp 16), (.tmp 19)], #[22, 22]⟩) 4,
  op 12 (.assign (.tmp 20)) 4]
def F47.r3 : List Oper := [
  op 21 (.move (.tmp 4)) 32,
  op 22 (.move (.tmp 11)) 22,
  oc 23 (.call ⟨(.value (.func 68)), #[(.tmp 21), (.tmp 22)], #[32, 22]⟩) 0]
def F47.r4 : List Oper := [
  op 24 (.move (.tmp 12)) 4,
  op 25 (.unOp .not 4 (.tmp 24)) 4,
  op 26 (.move (.tmp 25)) 4,
  ⟨(some 27), (.move (.tmp 0)), 25, "", #[], (some (26, false))⟩,
  ⟨(some 28), (.move (.tmp 2)), 9, "", #[], (some (26, false))⟩,
  ⟨(some 29), (.call ⟨(.value (.func 26)), #[(.tmp 27), (.tmp 28)], #[25, 9]⟩), 4, "", #[⟨0, .chain⟩], (some (26, false))⟩,
  ⟨(some 30), (.move (.tmp 1)), 29, "", #[], (some (26, false))⟩,
  ⟨(some 31), (.move (.tmp 2)), 9, "", #[], (some (26, false))⟩,
  ⟨(some 32), (.call ⟨(.value (.func 74)), #[(.tmp 30), (.tmp 31)], #[29, 9]⟩), 4, "", #[⟨0, .chain⟩], (some (26, false))⟩,
  ⟨(some 33), (.binOp .neq 4 (.tmp 29) (.tmp 32) 4), 4, "", #[], (some (26, false))⟩,
  op 34 (.pick (.tmp 26) (.const (.bool true)) (.tmp 33)) 4,
  op 35 (.move (.tmp 34)) 4,
  ⟨(some 36), (.move (.tmp 0)), 25, "", #[], (some (35, false))⟩,
  ⟨(some 37), (.move (.tmp 2)), 9, "", #[], (some (35, false))⟩,
  ⟨(some 38), (.call ⟨(.value (.func 25)), #[(.tmp 36), (.tmp 37)], #[25, 9]⟩), 9, "", #[⟨0, .chain⟩], (some (35, false))⟩,
  ⟨(some 39), (.move (.tmp 1)), 29, "", #[], (some (35, false))⟩,
  ⟨(some 40), (.move (.tmp 2)), 9, "", #[], (some (35, false))⟩,
  ⟨(some 41), (.call ⟨(.value (.func 75)), #[(.tmp 39), (.tmp 40)], #[29, 9]⟩), 9, "", #[⟨0, .chain⟩], (some (35, false))⟩,
  ⟨(some 42), (.binOp .neq 9 (.tmp 38) (.tmp 41) 9), 4, "", #[], (some (35, false))⟩,
  op 43 (.pick (.tmp 35) (.const (.bool true)) (.tmp 42)) 4]
def F47.r5 : List Oper := [
  op 10 (.assign (.const (.bool false))) 4]
def F47.r6 : List Oper := [
  op 44 (.move (.tmp 0)) 25,
  op 45 (.move (.tmp 2)) 9,
  op 46 (.move (.tmp 3)) 9,
  oc 47 (.call ⟨(.value (.func 23)), #[(.tmp 44), (.tmp 45), (.tmp 46)], #[25, 9, 9]⟩) 4,
  op 48 (.move (.tmp 1)) 29,
  op 49 (.move (.tmp 2)) 9,
  op 50 (.move (.tmp 3)) 9,
  oc 51 (.call ⟨(.value (.func 76)), #[(.tmp 48), (.tmp 49), (.tmp 50)], #[29, 9, 9]⟩) 4,
  op 52 (.binOp .eql 4 (.tmp 47) (.tmp 51) 4) 4,
  op 53 (.move (.tmp 52)) 4,
  ⟨(some 54), (.move (.tmp 0)), 25, "", #[], (some (53, true))⟩,
  ⟨(some 55), (.move (.tmp 3)), 9, "", #[], (some (53, true))⟩,
  ⟨(some 56), (.move (.tmp 2)), 9, "", #[], (some (53, true))⟩,
  ⟨(some 57), (.call ⟨(.value (.func 23)), #[(.tmp 54), (.tmp 55), (.tmp 56)], #[25, 9, 9]⟩), 4, "", #[⟨0, .chain⟩], (some (53, true))⟩,
  ⟨(some 58), (.move (.tmp 1)), 29, "", #[], (some (53, true))⟩,
  ⟨(some 59), (.move (.tmp 3)), 9, "", #[], (some (53, true))⟩,
  ⟨(some 60), (.move (.tmp 2)), 9, "", #[], (some (53, true))⟩,
  ⟨(some 61), (.call ⟨(.value (.func 76)), #[(.tmp 58), (.tmp 59), (.tmp 60)], #[29, 9, 9]⟩), 4, "", #[⟨0, .chain⟩], (some (53, true))⟩,
  ⟨(some 62), (.binOp .eql 4 (.tmp 57) (.tmp 61) 4), 4, "", #[], (some (53, true))⟩,
  op 63 (.pick (.tmp 53) (.tmp 62) (.const (.bool false))) 4,
  op 64 (.move (.tmp 63)) 4,
  ⟨(some 65), (.move (.tmp 0)), 25, "", #[], (some (64, true))⟩,
  ⟨(some 66), (.move (.tmp 2)), 9, "", #[], (some (64, true))⟩,
  ⟨(some 67), (.move (.tmp 3)), 9, "", #[], (some (64, true))⟩,
  ⟨(some 68), (.call ⟨(.value (.func 24)), #[(.tmp 65), (.tmp 66), (.tmp 67)], #[25, 9, 9]⟩), 4, "", #[⟨0, .chain⟩], (some (64, true))⟩,
  ⟨(some 69), (.move (.tmp 1)), 29, "", #[], (some (64, true))⟩,
  ⟨(some 70), (.move (.tmp 2)), 9, "", #[], (some (64, true))⟩,
  ⟨(some 71), (.move (.tmp 3)), 9, "", #[], (some (64, true))⟩,
  ⟨(some 72), (.call ⟨(.value (.func 77)), #[(.tmp 69), (.tmp 70), (.tmp 71)], #[29, 9, 9]⟩), 4, "", #[⟨0, .chain⟩], (some (64, true))⟩,
  ⟨(some 73), (.binOp .eql 4 (.tmp 68) (.tmp 72) 4), 4, "", #[], (some (64, true))⟩,
  op 74 (.pick (.tmp 64) (.tmp 73) (.const (.bool false))) 4,
  op 75 (.move (.tmp 74)) 4,
  ⟨(some 76), (.move (.tmp 0)), 25, "", #[], (some (75, true))⟩,
  ⟨(some 77), (.move (.tmp 3)), 9, "", #[], (some (75, true))⟩,
  ⟨(some 78), (.move (.tmp 2)), 9, "", #[], (some (75, true))⟩,
  ⟨(some 79), (.call ⟨(.value (.func 24)), #[(.tmp 76), (.tmp 77), (.tmp 78)], #[25, 9, 9]⟩), 4, "", #[⟨0, .chain⟩], (some (75, true))⟩,
  ⟨(some 80), (.move (.tmp 1)), 29, "", #[], (some (75, true))⟩,
  ⟨(some 81), (.move (.tmp 3)), 9, "", #[], (some (75, true))⟩,
  ⟨(some 82), (.move (.tmp 2)), 9, "", #[], (some (75, true))⟩,
  ⟨(some 83), (.call ⟨(.value (.func 77)), #[(.tmp 80), (.tmp 81), (.tmp 82)], #[29, 9, 9]⟩), 4, "", #[⟨0, .chain⟩], (some (75, true))⟩,
  ⟨(some 84), (.binOp .eql 4 (.tmp 79) (.tmp 83) 4), 4, "", #[], (some (75, true))⟩,
  op 85 (.pick (.tmp 75) (.tmp 84) (.const (.bool false))) 4,
  op 10 (.assign (.tmp 85)) 4]
def F47.t6 : Cd := (.seq (.region 6 F47.r6.toArray false) .ret)
theorem F47.t6_eq {θ : Tag (F47.t6, Q, e, w)} : cwE P F47.t6 Q e w θ = cwE P (.seq (.region 6 F47.r6.toArray false) .ret) Q e w := rfl
def F47.code : Cd := (.seq (.region 0 F47.r0.toArray false) (.seq (.region 1 F47.r1.toArray false) (.seq (.region 2 F47.r2.toArray false) (.seq (.region 3 F47.r3.toArray false) (.seq (.seq (.region 4 F47.r4.toArray false) (.cond (.tmp 43) (.seq (.region 5 F47.r5.toArray false) .ret) .skip)) F47.t6)))))
theorem F47.calls (hn : args.size ≤ 86) (h : cwE Tryz.prog F47.code (fnP Tryz.prog #[(.tmp 10)] R) (entry args) w) : Calls Tryz.prog 47 args w R :=
  calls_of_cwE (types := Tryz.prog.types) follows Tryz.func47 F47.code rfl (by kernel_rfl) hn h

def F48.r0 : List Oper := [
  op 2 (.assign (.const (.bool false))) 4]
def F48.r1 : List Oper := [
  op 3 (.assign (.const (.bool true))) 4]
def F48.r2 : List Oper := [
  op 17 (.move (.tmp 0)) 32,
  op 18 (.nilCheck (.tmp 17)) 0,
  op 19 (.fieldAddr 35 (.tmp 18) 0) 0,
  od 20 (.load 33 (.tmp 19)) 33,
  op 21 (.call ⟨(.builtin .len), #[(.tmp 20)], #[33]⟩) 3,
  op 4 (.assign (.tmp 21)) 3]
def F48.r3 : List Oper := [
  op 5 (.assign (.const (.int .i64 0))) 3]
def F48.r4 : List Oper := [
  op 22 (.move (.tmp 5)) 3,
  op 23 (.move (.tmp 0)) 32,
  op 24 (.nilCheck (.tmp 23)) 0,
  op 25 (.fieldAddr 35 (.tmp 24) 2) 0,
  od 26 (.load 33 (.tmp 25)) 33,
  op 27 (.call ⟨(.builtin .len), #[(.tmp 26)], #[33]⟩) 3,
  op 28 (.binOp .lss 3 (.tmp 22) (.tmp 27) 3) 4]
def F48.r6 : List Oper := [
  ⟨(some 31), (.move (.tmp 0)), 32, "", #[], none⟩,
  ⟨(some 32), (.nilCheck (.tmp 31)), 0, "", #[], none⟩,
  ⟨(some 33), (.fieldAddr 35 (.tmp 32) 2), 0, "", #[], none⟩,
  ⟨(some 35), (.move (.tmp 5)), 3, "", #[], none⟩,
  ⟨(some 38), (.move (.tmp 0)), 32, "", #[], none⟩,
  ⟨(some 39), (.nilCheck (.tmp 38)), 0, "", #[], none⟩,
  ⟨(some 40), (.fieldAddr 35 (.tmp 39) 3), 0, "", #[], none⟩,
  ⟨(some 42), (.move (.tmp 5)), 3, "", #[], none⟩,
  ⟨(some 34), (.load 33 (.tmp 33)), 33, "", #[⟨16384, .data⟩], none⟩,
  ⟨(some 36), (.indexAddr 33 (.tmp 34) (.tmp 35)), 0, "", #[], none⟩,
  ⟨(some 37), (.load 22 (.tmp 36)), 22, "", #[⟨16384, .data⟩], none⟩,
  ⟨(some 41), (.load 33 (.tmp 40)), 33, "", #[⟨16384, .data⟩], none⟩,
  ⟨(some 43), (.indexAddr 33 (.tmp 41) (.tmp 42)), 0, "", #[], none⟩,
  ⟨(some 44), (.load 22 (.tmp 43)), 22, "", #[⟨16384, .data⟩], none⟩,
  ⟨(some 45), (.call ⟨(.value (.func 22)), #[(.tmp 37), (.tmp 44)], #[22, 22]⟩), 4, "", #[⟨14, .chain⟩], none⟩,
  ⟨(some 6), (.assign (.tmp 45)), 4, "", #[], none⟩]
def F48.r7 : List Oper := [
  op 46 (.move (.tmp 3)) 4,
  op 47 (.move (.tmp 46)) 4,
  ⟨(some 48), (.move (.tmp 6)), 4, "", #[], (some (47, true))⟩,
  op 49 (.pick (.tmp 47) (.tmp 48) (.const (.bool false))) 4,
  op 3 (.assign (.tmp 49)) 4]
def F48.r5 : List Oper := [
  op 29 (.move (.tmp 5)) 3,
  op 30 (.binOp .add 3 (.tmp 29) (.const (.int .i64 1)) 3) 3,
  op 5 (.assign (.tmp 30)) 3]
def F48.r8 : List Oper := [
  op 7 (.assign (.const (.int .i64 0))) 3]
def F48.r9 : List Oper := [
  op 50 (.move (.tmp 7)) 3,
  op 51 (.move (.tmp 0)) 32,
  op 52 (.nilCheck (.tmp 51)) 0,
  op 53 (.fieldAddr 35 (.tmp 52) 2) 0,
  od 54 (.load 33 (.tmp 53)) 33,
  op 55 (.call ⟨(.builtin .len), #[(.tmp 54)], #[33]⟩) 3,
  op 56 (.binOp .lss 3 (.tmp 50) (.tmp 55) 3) 4]
def F48.r11 : List Oper := [
  op 59 (.move (.tmp 0)) 32,
  op 60 (.nilCheck (.tmp 59)) 0,
  op 61 (.fieldAddr 35 (.tmp 60) 0) 0,
  od 62 (.load 33 (.tmp 61)) 33,
  op 63 (.call ⟨(.builtin .len), #[(.tmp 62)], #[33]⟩) 3,
  op 8 (.assign (.tmp 63)) 3]
def F48.r12 : List Oper := [
  op 64 (.move (.tmp 8)) 3,
  op 65 (.convert 3 5 (.tmp 64)) 5,
  op 66 (.move (.tmp 8)) 3,
  op 67 (.binOp .quo 3 (.tmp 66) (.const (.int .i64 256)) 3) 3,
  op 68 (.convert 3 5 (.tmp 67)) 5,
  op 69 (.move (.tmp 8)) 3,
  op 70 (.binOp .quo 3 (.tmp 69) (.const (.int .i64 65536)) 3) 3,
  op 71 (.convert 3 5 (.tmp 70)) 5,
  oc 72 (.buildSlice 112 3 #[(0, (.tmp 65)), (1, (.tmp 68)), (2, (.tmp 71))]) 112,
  od 73 (.convert 112 9 (.tmp 72)) 9,
  op 74 (.binOp .add 9 (.const (.string { data := #[35] })) (.tmp 73) 9) 9,
  op 9 (.assign (.tmp 74)) 9]
def F48.r13 : List Oper := [
  op 10 (.assign (.const (.int .i64 0))) 3]
def F48.r14 : List Oper := [
  op 75 (.move (.tmp 10)) 3,
  op 76 (.move (.tmp 0)) 32,
  op 77 (.nilCheck (.tmp 76)) 0,
  op 78 (.fieldAddr 35 (.tmp 77) 2) 0,
  od 79 (.load 33 (.tmp 78)) 33,
  op 80 (.move (.tmp 7)) 3,
  op 81 (.indexAddr 33 (.tmp 79) (.tmp 80)) 0,
  od 82 (.load 22 (.tmp 81)) 22,
  op 83 (.call ⟨(.builtin .len), #[(.tmp 82)], #[22]⟩) 3,
  op 84 (.binOp .lss 3 (.tmp 75) (.tmp 83) 3) 4]
def F48.r16 : List Oper := [
  op 87 (.move (.tmp 0)) 32,
  op 88 (.nilCheck (.tmp 87)) 0,
  op 89 (.fieldAddr 35 (.tmp 88) 2) 0,
  od 90 (.load 33 (.tmp 89)) 33,
  op 91 (.move (.tmp 7)) 3,
  op 92 (.indexAddr 33 (.tmp 90) (.tmp 91)) 0,
  od 93 (.load 22 (.tmp 92)) 22,
  op 94 (.move (.tmp 10)) 3,
  op 95 (.move (.tmp 9)) 9,
  op 96 (.indexAddr 22 (.tmp 93) (.tmp 94)) 0,
  ⟨none, (.store 9 (.tmp 96) (.tmp 95)), 0, "", #[⟨0, .chain⟩], none⟩]
def F48.r15 : List Oper := [
  op 85 (.move (.tmp 10)) 3,
  op 86 (.binOp .add 3 (.tmp 85) (.const (.int .i64 1)) 3) 3,
  op 10 (.assign (.tmp 86)) 3]
def F48.r17 : List Oper := [
  ⟨(some 97), (.move (.tmp 0)), 32, "", #[], none⟩,
  ⟨(some 98), (.move (.tmp 0)), 32, "", #[], none⟩,
  ⟨(some 99), (.nilCheck (.tmp 98)), 0, "", #[], none⟩,
  ⟨(some 100), (.fieldAddr 35 (.tmp 99) 0), 0, "", #[], none⟩,
  ⟨(some 102), (.move (.tmp 0)), 32, "", #[], none⟩,
  ⟨(some 103), (.nilCheck (.tmp 102)), 0, "", #[], none⟩,
  ⟨(some 104), (.fieldAddr 35 (.tmp 103) 2), 0, "", #[], none⟩,
  ⟨(some 106), (.move (.tmp 7)), 3, "", #[], none⟩,
  ⟨(some 101), (.load 33 (.tmp 100)), 33, "", #[⟨73728, .data⟩], none⟩,
  ⟨(some 105), (.load 33 (.tmp 104)), 33, "", #[⟨77824, .data⟩], none⟩,
  ⟨(some 107), (.indexAddr 33 (.tmp 105) (.tmp 106)), 0, "", #[], none⟩,
  ⟨(some 108), (.load 22 (.tmp 107)), 22, "", #[⟨77824, .data⟩], none⟩,
  ⟨(some 109), (.buildSlice 33 1 #[(0, (.tmp 108))]), 33, "", #[⟨12, .chain⟩], none⟩,
  ⟨(some 110), (.call ⟨(.builtin .append), #[(.tmp 101), (.tmp 109)], #[33, 33]⟩), 33, "", #[⟨13, .chain⟩], none⟩,
  ⟨(some 111), (.nilCheck (.tmp 97)), 0, "", #[], none⟩,
  ⟨(some 112), (.fieldAddr 35 (.tmp 111) 0), 0, "", #[], none⟩,
  ⟨none, (.store 33 (.tmp 112) (.tmp 110)), 0, "", #[⟨16, .chain⟩], none⟩]
def F48.r18 : List Oper := [
  op 113 (.move (.tmp 0)) 32,
  op 114 (.move (.tmp 0)) 32,
  op 115 (.nilCheck (.tmp 114)) 0,
  op 116 (.fieldAddr 35 (.tmp 115) 1) 0,
  od 117 (.load 22 (.tmp 116)) 22,
  op 118 (.move (.tmp 9)) 9,
  oc 119 (.buildSlice 22 1 #[(0, (.tmp 118))]) 22,
  oc 120 (.call ⟨(.builtin .append), #[(.tmp 117), (.tmp 119)], #[22, 22]⟩) 22,
  op 121 (.nilCheck (.tmp 113)) 0,
  op 122 (.fieldAddr 35 (.tmp 121) 1) 0,
  ⟨none, (.store 22 (.tmp 122) (.tmp 120)), 0, "", #[⟨0, .chain⟩], none⟩]
def F48.r10 : List Oper := [
  op 57 (.move (.tmp 7)) 3,
  op 58 (.binOp .add 3 (.tmp 57) (.const (.int .i64 1)) 3) 3,
  op 7 (.assign (.tmp 58)) 3]
def F48.r19 : List Oper := [
  op 123 (.move (.tmp 0)) 32,
  op 124 (.nilCheck (.tmp 123)) 0,
  op 125 (.fieldAddr 35 (.tmp 124) 0) 0,
  od 126 (.load 33 (.tmp 125)) 33,
  op 127 (.call ⟨(.builtin .len), #[(.tmp 126)], #[33]⟩) 3,
  op 11 (.assign (.tmp 127)) 3]
def F48.r20 : List Oper := [
  op 128 (.move (.tmp 4)) 3,
  op 12 (.assign (.tmp 128)) 3]
def F48.r21 : List Oper := [
  op 129 (.move (.tmp 12)) 3,
  op 130 (.move (.tmp 11)) 3,
  op 131 (.binOp .lss 3 (.tmp 129) (.tmp 130) 3) 4]
def F48.r23 : List Oper := [
  op 134 (.move (.tmp 0)) 32,
  op 135 (.nilCheck (.tmp 134)) 0,
  op 136 (.fieldAddr 35 (.tmp 135) 0) 0,
  od 137 (.load 33 (.tmp 136)) 33,
  op 138 (.move (.tmp 12)) 3,
  op 139 (.indexAddr 33 (.tmp 137) (.tmp 138)) 0,
  od 140 (.load 22 (.tmp 139)) 22,
  op 13 (.assign (.tmp 140)) 22]
def F48.r24 : List Oper := [
  op 14 (.assign (.const (.int .i64 0))) 3]
def F48.r25 : List Oper := [
  op 141 (.move (.tmp 14)) 3,
  op 142 (.binOp .lss 3 (.tmp 141) (.const (.int .i64 40)) 3) 4]
def F48.r27 : List Oper := [
  op 145 (.move (.tmp 13)) 22,
  op 146 (.move (.tmp 0)) 32,
  op 147 (.nilCheck (.tmp 146)) 0,
  op 148 (.fieldAddr 35 (.tmp 147) 1) 0,
  od 149 (.load 22 (.tmp 148)) 22,
  op 150 (.move (.tmp 12)) 3,
  op 151 (.indexAddr 22 (.tmp 149) (.tmp 150)) 0,
  od 152 (.load 9 (.tmp 151)) 9,
  oc 153 (.buildSlice 22 1 #[(0, (.tmp 152))]) 22,
  oc 154 (.call ⟨(.builtin .append), #[(.tmp 145), (.tmp 153)], #[22, 22]⟩) 22,
  op 13 (.assign (.tmp 154)) 22]
def F48.r28 : List Oper := [
  op 155 (.move (.tmp 14)) 3,
  op 156 (.binOp .eql 3 (.tmp 155) (.const (.int .i64 0)) 3) 4,
  op 157 (.move (.tmp 156)) 4,
  ⟨(some 158), (.move (.tmp 14)), 3, "", #[], (some (157, false))⟩,
  ⟨(some 159), (.binOp .eql 3 (.tmp 158) (.const (.int .i64 3)) 3), 4, "", #[], (some (157, false))⟩,
  op 160 (.pick (.tmp 157) (.const (.bool true)) (.tmp 159)) 4,
  op 161 (.move (.tmp 160)) 4,
  ⟨(some 162), (.move (.tmp 14)), 3, "", #[], (some (161, false))⟩,
  ⟨(some 163), (.binOp .eql 3 (.tmp 162) (.const (.int .i64 15)) 3), 4, "", #[], (some (161, false))⟩,
  op 164 (.pick (.tmp 161) (.const (.bool true)) (.tmp 163)) 4,
  op 165 (.move (.tmp 164)) 4,
  ⟨(some 166), (.move (.tmp 14)), 3, "", #[], (some (165, false))⟩,
  ⟨(some 167), (.binOp .eql 3 (.tmp 166) (.const (.int .i64 39)) 3), 4, "", #[], (some (165, false))⟩,
  op 168 (.pick (.tmp 165) (.const (.bool true)) (.tmp 167)) 4]
def F48.r29 : List Oper := [
  op 169 (.move (.tmp 0)) 32,
  op 170 (.move (.tmp 0)) 32,
  op 171 (.nilCheck (.tmp 170)) 0,
  op 172 (.fieldAddr 35 (.tmp 171) 0) 0,
  od 173 (.load 33 (.tmp 172)) 33,
  op 174 (.move (.tmp 13)) 22,
  oc 175 (.buildSlice 33 1 #[(0, (.tmp 174))]) 33,
  oc 176 (.call ⟨(.builtin .append), #[(.tmp 173), (.tmp 175)], #[33, 33]⟩) 33,
  op 177 (.nilCheck (.tmp 169)) 0,
  op 178 (.fieldAddr 35 (.tmp 177) 0) 0,
  ⟨none, (.store 33 (.tmp 178) (.tmp 176)), 0, "", #[⟨0, .chain⟩], none⟩]
def F48.r30 : List Oper := [
  ⟨(some 179), (.move (.tmp 0)), 32, "", #[], none⟩,
  ⟨(some 180), (.move (.tmp 0)), 32, "", #[], none⟩,
  ⟨(some 181), (.nilCheck (.tmp 180)), 0, "", #[], none⟩,
  ⟨(some 182), (.fieldAddr 35 (.tmp 181) 1), 0, "", #[], none⟩,
  ⟨(some 184), (.move (.tmp 0)), 32, "", #[], none⟩,
  ⟨(some 185), (.nilCheck (.tmp 184)), 0, "", #[], none⟩,
  ⟨(some 186), (.fieldAddr 35 (.tmp 185) 1), 0, "", #[], none⟩,
  ⟨(some 188), (.move (.tmp 12)), 3, "", #[], none⟩,
  ⟨(some 183), (.load 22 (.tmp 182)), 22, "", #[⟨73728, .data⟩], none⟩,
  ⟨(some 187), (.load 22 (.tmp 186)), 22, "", #[⟨77824, .data⟩], none⟩,
  ⟨(some 189), (.indexAddr 22 (.tmp 187) (.tmp 188)), 0, "", #[], none⟩,
  ⟨(some 190), (.load 9 (.tmp 189)), 9, "", #[⟨77824, .data⟩], none⟩,
  ⟨(some 191), (.buildSlice 22 1 #[(0, (.tmp 190))]), 22, "", #[⟨12, .chain⟩], none⟩,
  ⟨(some 192), (.call ⟨(.builtin .append), #[(.tmp 183), (.tmp 191)], #[22, 22]⟩), 22, "", #[⟨13, .chain⟩], none⟩,
  ⟨(some 193), (.nilCheck (.tmp 179)), 0, "", #[], none⟩,
  ⟨(some 194), (.fieldAddr 35 (.tmp 193) 1), 0, "", #[], none⟩,
  ⟨none, (.store 22 (.tmp 194) (.tmp 192)), 0, "", #[⟨16, .chain⟩], none⟩]
def F48.r26 : List Oper := [
  op 143 (.move (.tmp 14)) 3,
  op 144 (.binOp .add 3 (.tmp 143) (.const (.int .i64 1)) 3) 3,
  op 14 (.assign (.tmp 144)) 3]
def F48.r22 : List Oper := [
  op 132 (.move (.tmp 12)) 3,
  op 133 (.binOp .add 3 (.tmp 132) (.const (.int .i64 1)) 3) 3,
  op 12 (.assign (.tmp 133)) 3]
def F48.r31 : List Oper := [
  op 195 (.move (.tmp 0)) 32,
  op 196 (.move (.tmp 0)) 32,
  op 197 (.nilCheck (.tmp 196)) 0,
  op 198 (.fieldAddr 35 (.tmp 197) 4) 0,
  od 199 (.load 33 (.tmp 198)) 33,
  op 200 (.nilCheck (.tmp 195)) 0,
  op 201 (.fieldAddr 35 (.tmp 200) 2) 0,
  ⟨none, (.store 33 (.tmp 201) (.tmp 199)), 0, "", #[⟨0, .chain⟩], none⟩]
def F48.r32 : List Oper := [
  op 202 (.move (.tmp 0)) 32,
  op 203 (.move (.tmp 0)) 32,
  op 204 (.nilCheck (.tmp 203)) 0,
  op 205 (.fieldAddr 35 (.tmp 204) 5) 0,
  od 206 (.load 33 (.tmp 205)) 33,
  op 207 (.nilCheck (.tmp 202)) 0,
  op 208 (.fieldAddr 35 (.tmp 207) 3) 0,
  ⟨none, (.store 33 (.tmp 208) (.tmp 206)), 0, "", #[⟨0, .chain⟩], none⟩]
def F48.r33 : List Oper := [
  op 209 (.move (.tmp 0)) 32,
  op 210 (.nilCheck (.tmp 209)) 0,
  op 211 (.fieldAddr 35 (.tmp 210) 4) 0,
  ⟨none, (.store 33 (.tmp 211) (.const (.slice none 0 0))), 0, "", #[⟨0, .chain⟩], none⟩]
def F48.r34 : List Oper := [
  op 212 (.move (.tmp 0)) 32,
  op 213 (.nilCheck (.tmp 212)) 0,
  op 214 (.fieldAddr 35 (.tmp 213) 5) 0,
  ⟨none, (.store 33 (.tmp 214) (.const (.slice none 0 0))), 0, "", #[⟨0, .chain⟩], none⟩]
def F48.r35 : List Oper := [
  op 15 (.assign (.const (.int .i64 0))) 3]
def F48.r36 : List Oper := [
  op 215 (.move (.tmp 15)) 3,
  op 216 (.move (.tmp 0)) 32,
  op 217 (.nilCheck (.tmp 216)) 0,
  op 218 (.fieldAddr 35 (.tmp 217) 0) 0,
  od 219 (.load 33 (.tmp 218)) 33,
  op 220 (.call ⟨(.builtin .len), #[(.tmp 219)], #[33]⟩) 3,
  op 221 (.binOp .lss 3 (.tmp 215) (.tmp 220) 3) 4]
def F48.r38 : List Oper := [
  op 16 (.assign (.const (.int .i64 0))) 3]
def F48.r39 : List Oper := [
  op 224 (.move (.tmp 16)) 3,
  op 225 (.move (.tmp 0)) 32,
  op 226 (.nilCheck (.tmp 225)) 0,
  op 227 (.fieldAddr 35 (.tmp 226) 0) 0,
  od 228 (.load 33 (.tmp 227)) 33,
  op 229 (.move (.tmp 15)) 3,
  op 230 (.indexAddr 33 (.tmp 228) (.tmp 229)) 0,
  od 231 (.load 22 (.tmp 230)) 22,
  op 232 (.call ⟨(.builtin .len), #[(.tmp 231)], #[22]⟩) 3,
  op 233 (.binOp .lss 3 (.tmp 224) (.tmp 232) 3) 4]
def F48.r41 : List Oper := [
  ⟨(some 236), (.move (.tmp 0)), 32, "", #[], none⟩,
  ⟨(some 237), (.nilCheck (.tmp 236)), 0, "", #[], none⟩,
  ⟨(some 238), (.fieldAddr 35 (.tmp 237) 0), 0, "", #[], none⟩,
  ⟨(some 240), (.move (.tmp 15)), 3, "", #[], none⟩,
  ⟨(some 243), (.move (.tmp 16)), 3, "", #[], none⟩,
  ⟨(some 246), (.move (.tmp 0)), 32, "", #[], none⟩,
  ⟨(some 247), (.nilCheck (.tmp 246)), 0, "", #[], none⟩,
  ⟨(some 248), (.fieldAddr 35 (.tmp 247) 1), 0, "", #[], none⟩,
  ⟨(some 250), (.move (.tmp 15)), 3, "", #[], none⟩,
  ⟨(some 239), (.load 33 (.tmp 238)), 33, "", #[⟨0, .data⟩], none⟩,
  ⟨(some 241), (.indexAddr 33 (.tmp 239) (.tmp 240)), 0, "", #[], none⟩,
  ⟨(some 242), (.load 22 (.tmp 241)), 22, "", #[⟨0, .data⟩], none⟩,
  ⟨(some 244), (.indexAddr 22 (.tmp 242) (.tmp 243)), 0, "", #[], none⟩,
  ⟨(some 245), (.load 9 (.tmp 244)), 9, "", #[⟨0, .data⟩], none⟩,
  ⟨(some 249), (.load 22 (.tmp 248)), 22, "", #[⟨0, .data⟩], none⟩,
  ⟨(some 251), (.indexAddr 22 (.tmp 249) (.tmp 250)), 0, "", #[], none⟩,
  ⟨(some 252), (.load 9 (.tmp 251)), 9, "", #[⟨0, .data⟩], none⟩,
  ⟨(some 253), (.binOp .neq 9 (.tmp 245) (.tmp 252) 9), 4, "", #[], none⟩]
def F48.r42 : List Oper := [
  op 2 (.assign (.const (.bool false))) 4]
def F48.r40 : List Oper := [
  op 234 (.move (.tmp 16)) 3,
  op 235 (.binOp .add 3 (.tmp 234) (.const (.int .i64 1)) 3) 3,
  op 16 (.assign (.tmp 235)) 3]
def F48.r37 : List Oper := [
  op 222 (.move (.tmp 15)) 3,
  op 223 (.binOp .add 3 (.tmp 222) (.const (.int .i64 1)) 3) 3,
  op 15 (.assign (.tmp 223)) 3]
def F48.r43 : List Oper := [
  op 254 (.move (.tmp 3)) 4,
  op 2 (.assign (.tmp 254)) 4]
def F48.t5 : Cd := (.region 5 F48.r5.toArray false)
theorem F48.t5_eq {θ : Tag (F48.t5, Q, e, w)} : cwE P F48.t5 Q e w θ = cwE P (.region 5 F48.r5.toArray false) Q e w := rfl
def F48.t6 : Cd := (.seq (.block 1 (.seq (.region 6 F48.r6.toArray true) (.region 7 F48.r7.toArray false))) F48.t5)
theorem F48.t6_eq {θ : Tag (F48.t6, Q, e, w)} : cwE P F48.t6 Q e w θ = cwE P (.seq (.block 1 (.seq (.region 6 F48.r6.toArray true) (.region 7 F48.r7.toArray false))) F48.t5) Q e w := rfl
def F48.t15 : Cd := (.region 15 F48.r15.toArray false)
theorem F48.t15_eq {θ : Tag (F48.t15, Q, e, w)} : cwE P F48.t15 Q e w θ = cwE P (.region 15 F48.r15.toArray false) Q e w := rfl
def F48.t16 : Cd := (.seq (.block 5 (.region 16 F48.r16.toArray false)) F48.t15)
theorem F48.t16_eq {θ : Tag (F48.t16, Q, e, w)} : cwE P F48.t16 Q e w θ = cwE P (.seq (.block 5 (.region 16 F48.r16.toArray false)) F48.t15) Q e w := rfl
def F48.t17 : Cd := (.seq (.region 17 F48.r17.toArray true) (.region 18 F48.r18.toArray false))
theorem F48.t17_eq {θ : Tag (F48.t17, Q, e, w)} : cwE P F48.t17 Q e w θ = cwE P (.seq (.region 17 F48.r17.toArray true) (.region 18 F48.r18.toArray false)) Q e w := rfl
def F48.t10 : Cd := (.region 10 F48.r10.toArray false)
theorem F48.t10_eq {θ : Tag (F48.t10, Q, e, w)} : cwE P F48.t10 Q e w θ = cwE P (.region 10 F48.r10.toArray false) Q e w := rfl
def F48.t11 : Cd := (.seq (.block 3 (.seq (.region 11 F48.r11.toArray false) (.seq (.region 12 F48.r12.toArray false) (.seq (.seq (.region 13 F48.r13.toArray false) (.block 4 (.loop (.seq (.seq (.region 14 F48.r14.toArray false) (.cond (.tmp 84) .skip (.exit 4))) F48.t16)))) F48.t17)))) F48.t10)
theorem F48.t11_eq {θ : Tag (F48.t11, Q, e, w)} : cwE P F48.t11 Q e w θ = cwE P (.seq (.block 3 (.seq (.region 11 F48.r11.toArray false) (.seq (.region 12 F48.r12.toArray false) (.seq (.seq (.region 13 F48.r13.toArray false) (.block 4 (.loop (.seq (.seq (.region 14 F48.r14.toArray false) (.cond (.tmp 84) .skip (.exit 4))) F48.t16)))) F48.t17)))) F48.t10) Q e w := rfl
def F48.t26 : Cd := (.region 26 F48.r26.toArray false)
theorem F48.t26_eq {θ : Tag (F48.t26, Q, e, w)} : cwE P F48.t26 Q e w θ = cwE P (.region 26 F48.r26.toArray false) Q e w := rfl
def F48.t27 : Cd := (.seq (.block 9 (.seq (.region 27 F48.r27.toArray false) (.seq (.region 28 F48.r28.toArray false) (.cond (.tmp 168) (.seq (.region 29 F48.r29.toArray false) (.region 30 F48.r30.toArray true)) .skip)))) F48.t26)
theorem F48.t27_eq {θ : Tag (F48.t27, Q, e, w)} : cwE P F48.t27 Q e w θ = cwE P (.seq (.block 9 (.seq (.region 27 F48.r27.toArray false) (.seq (.region 28 F48.r28.toArray false) (.cond (.tmp 168) (.seq (.region 29 F48.r29.toArray false) (.region 30 F48.r30.toArray true)) .skip)))) F48.t26) Q e w := rfl
def F48.t22 : Cd := (.region 22 F48.r22.toArray false)
theorem F48.t22_eq {θ : Tag (F48.t22, Q, e, w)} : cwE P F48.t22 Q e w θ = cwE P (.region 22 F48.r22.toArray false) Q e w := rfl
def F48.t23 : Cd := (.seq (.block 7 (.seq (.region 23 F48.r23.toArray false) (.seq (.region 24 F48.r24.toArray false) (.block 8 (.loop (.seq (.seq (.region 25 F48.r25.toArray false) (.cond (.tmp 142) .skip (.exit 8))) F48.t27)))))) F48.t22)
theorem F48.t23_eq {θ : Tag (F48.t23, Q, e, w)} : cwE P F48.t23 Q e w θ = cwE P (.seq (.block 7 (.seq (.region 23 F48.r23.toArray false) (.seq (.region 24 F48.r24.toArray false) (.block 8 (.loop (.seq (.seq (.region 25 F48.r25.toArray false) (.cond (.tmp 142) .skip (.exit 8))) F48.t27)))))) F48.t22) Q e w := rfl
def F48.t40 : Cd := (.region 40 F48.r40.toArray false)
theorem F48.t40_eq {θ : Tag (F48.t40, Q, e, w)} : cwE P F48.t40 Q e w θ = cwE P (.region 40 F48.r40.toArray false) Q e w := rfl
def F48.t41 : Cd := (.seq (.block 13 (.seq (.region 41 F48.r41.toArray true) (.cond (.tmp 253) (.seq (.region 42 F48.r42.toArray false) .ret) .skip))) F48.t40)
theorem F48.t41_eq {θ : Tag (F48.t41, Q, e, w)} : cwE P F48.t41 Q e w θ = cwE P (.seq (.block 13 (.seq (.region 41 F48.r41.toArray true) (.cond (.tmp 253) (.seq (.region 42 F48.r42.toArray false) .ret) .skip))) F48.t40) Q e w := rfl
def F48.t37 : Cd := (.region 37 F48.r37.toArray false)
theorem F48.t37_eq {θ : Tag (F48.t37, Q, e, w)} : cwE P F48.t37 Q e w θ = cwE P (.region 37 F48.r37.toArray false) Q e w := rfl
def F48.t38 : Cd := (.seq (.block 11 (.seq (.region 38 F48.r38.toArray false) (.block 12 (.loop (.seq (.seq (.region 39 F48.r39.toArray false) (.cond (.tmp 233) .skip (.exit 12))) F48.t41))))) F48.t37)
theorem F48.t38_eq {θ : Tag (F48.t38, Q, e, w)} : cwE P F48.t38 Q e w θ = cwE P (.seq (.block 11 (.seq (.region 38 F48.r38.toArray false) (.block 12 (.loop (.seq (.seq (.region 39 F48.r39.toArray false) (.cond (.tmp 233) .skip (.exit 12))) F48.t41))))) F48.t37) Q e w := rfl
def F48.t43 : Cd := (.seq (.region 43 F48.r43.toArray false) .ret)
theorem F48.t43_eq {θ : Tag (F48.t43, Q, e, w)} : cwE P F48.t43 Q e w θ = cwE P (.seq (.region 43 F48.r43.toArray false) .ret) Q e w := rfl
def F48.t31 : Cd := (.seq (.region 31 F48.r31.toArray false) (.seq (.region 32 F48.r32.toArray false) (.seq (.region 33 F48.r33.toArray false) (.seq (.region 34 F48.r34.toArray false) (.seq (.seq (.region 35 F48.r35.toArray false) (.block 10 (.loop (.seq (.seq (.region 36 F48.r36.toArray false) (.cond (.tmp 221) .skip (.exit 10))) F48.t38)))) F48.t43)))))
theorem F48.t31_eq {θ : Tag (F48.t31, Q, e, w)} : cwE P F48.t31 Q e w θ = cwE P (.seq (.region 31 F48.r31.toArray false) (.seq (.region 32 F48.r32.toArray false) (.seq (.region 33 F48.r33.toArray false) (.seq (.region 34 F48.r34.toArray false) (.seq (.seq (.region 35 F48.r35.toArray false) (.block 10 (.loop (.seq (.seq (.region 36 F48.r36.toArray false) (.cond (.tmp 221) .skip (.exit 10))) F48.t38)))) F48.t43))))) Q e w := rfl
def F48.t19 : Cd := (.seq (.region 19 F48.r19.toArray false) (.seq (.seq (.region 20 F48.r20.toArray false) (.block 6 (.loop (.seq (.seq (.region 21 F48.r21.toArray false) (.cond (.tmp 131) .skip (.exit 6))) F48.t23)))) F48.t31))
theorem F48.t19_eq {θ : Tag (F48.t19, Q, e, w)} : cwE P F48.t19 Q e w θ = cwE P (.seq (.region 19 F48.r19.toArray false) (.seq (.seq (.region 20 F48.r20.toArray false) (.block 6 (.loop (.seq (.seq (.region 21 F48.r21.toArray false) (.cond (.tmp 131) .skip (.exit 6))) F48.t23)))) F48.t31)) Q e w := rfl
def F48.t8 : Cd := (.seq (.seq (.region 8 F48.r8.toArray false) (.block 2 (.loop (.seq (.seq (.region 9 F48.r9.toArray false) (.cond (.tmp 56) .skip (.exit 2))) F48.t11)))) F48.t19)
theorem F48.t8_eq {θ : Tag (F48.t8, Q, e, w)} : cwE P F48.t8 Q e w θ = cwE P (.seq (.seq (.region 8 F48.r8.toArray false) (.block 2 (.loop (.seq (.seq (.region 9 F48.r9.toArray false) (.cond (.tmp 56) .skip (.exit 2))) F48.t11)))) F48.t19) Q e w := rfl
def F48.code : Cd := (.seq (.region 0 F48.r0.toArray false) (.seq (.region 1 F48.r1.toArray false) (.seq (.region 2 F48.r2.toArray false) (.seq (.seq (.region 3 F48.r3.toArray false) (.block 0 (.loop (.seq (.seq (.region 4 F48.r4.toArray false) (.cond (.tmp 28) .skip (.exit 0))) F48.t6)))) F48.t8))))
theorem F48.calls (hn : args.size ≤ 255) (h : cwE Tryz.prog F48.code (fnP Tryz.prog #[(.tmp 2)] R) (entry args) w) : Calls Tryz.prog 48 args w R :=
  calls_of_cwE (types := Tryz.prog.types) follows Tryz.func48 F48.code rfl (by kernel_rfl) hn h

def F50.r0 : List Oper := [
  oc 1 (.box 72 (.tmp 0)) 0]
def F50.r1 : List Oper := [
  op 4 (.fieldAddr 72 (.tmp 1) 0) 0,
  od 5 (.load 9 (.tmp 4)) 9,
  oc 6 (.call ⟨(.value (.func 56)), #[(.tmp 5)], #[9]⟩) 4,
  oc 7 (.call ⟨(.value (.func 31)), #[(.tmp 6), (.const (.int .i64 60))], #[4, 26]⟩) 0]
def F50.r2 : List Oper := [
  op 8 (.fieldAddr 72 (.tmp 1) 1) 0,
  od 9 (.load 9 (.tmp 8)) 9,
  op 10 (.binOp .eql 9 (.tmp 9) (.const (.string { data := #[] })) 9) 4,
  op 11 (.move (.tmp 10)) 4,
  ⟨(some 12), (.fieldAddr 72 (.tmp 1) 1), 0, "", #[], (some (11, false))⟩,
  ⟨(some 13), (.load 9 (.tmp 12)), 9, "", #[⟨0, .data⟩], (some (11, false))⟩,
  ⟨(some 14), (.call ⟨(.value (.func 56)), #[(.tmp 13)], #[9]⟩), 4, "", #[⟨0, .chain⟩], (some (11, false))⟩,
  op 15 (.pick (.tmp 11) (.const (.bool true)) (.tmp 14)) 4,
  oc 16 (.call ⟨(.value (.func 31)), #[(.tmp 15), (.const (.int .i64 60))], #[4, 26]⟩) 0]
def F50.r3 : List Oper := [
  op 17 (.fieldAddr 72 (.tmp 1) 2) 0,
  od 18 (.load 22 (.tmp 17)) 22,
  op 19 (.call ⟨(.builtin .len), #[(.tmp 18)], #[22]⟩) 3,
  op 20 (.move (.const (.int .i64 0))) 3]
def F50.r4 : List Oper := [
  op 21 (.binOp .lss 3 (.tmp 20) (.tmp 19) 3) 0]
def F50.r5 : List Oper := [
  op 22 (.indexAddr 22 (.tmp 18) (.tmp 20)) 0,
  od 23 (.load 9 (.tmp 22)) 9,
  op 3 (.assign (.tmp 23)) 9]
def F50.r6 : List Oper := [
  op 24 (.move (.tmp 3)) 9,
  oc 25 (.call ⟨(.value (.func 56)), #[(.tmp 24)], #[9]⟩) 4,
  oc 26 (.call ⟨(.value (.func 31)), #[(.tmp 25), (.const (.int .i64 60))], #[4, 26]⟩) 0]
def F50.r7 : List Oper := [
  op 27 (.binOp .add 3 (.tmp 20) (.const (.int .i64 1)) 3) 3,
  op 20 (.move (.tmp 27)) 3]
def F50.r8 : List Oper := [
  op 28 (.fieldAddr 72 (.tmp 1) 3) 0,
  od 29 (.load 9 (.tmp 28)) 9,
  oc 30 (.call ⟨(.value (.func 78)), #[(.tmp 29)], #[9]⟩) 4,
  oc 31 (.call ⟨(.value (.func 31)), #[(.tmp 30), (.const (.int .i64 60))], #[4, 26]⟩) 0]
def F50.t7 : Cd := (.region 7 F50.r7.toArray false)
theorem F50.t7_eq {θ : Tag (F50.t7, Q, e, w)} : cwE P F50.t7 Q e w θ = cwE P (.region 7 F50.r7.toArray false) Q e w := rfl
def F50.t5 : Cd := (.seq (.block 1 (.seq (.region 5 F50.r5.toArray false) (.region 6 F50.r6.toArray false))) F50.t7)
theorem F50.t5_eq {θ : Tag (F50.t5, Q, e, w)} : cwE P F50.t5 Q e w θ = cwE P (.seq (.block 1 (.seq (.region 5 F50.r5.toArray false) (.region 6 F50.r6.toArray false))) F50.t7) Q e w := rfl
def F50.t8 : Cd := (.region 8 F50.r8.toArray false)
theorem F50.t8_eq {θ : Tag (F50.t8, Q, e, w)} : cwE P F50.t8 Q e w θ = cwE P (.region 8 F50.r8.toArray false) Q e w := rfl
def F50.code : Cd := (.seq (.region 0 F50.r0.toArray false) (.seq (.region 1 F50.r1.toArray false) (.seq (.region 2 F50.r2.toArray false) (.seq (.seq (.region 3 F50.r3.toArray false) (.block 0 (.loop (.seq (.region 4 F50.r4.toArray false) (.seq (.cond (.tmp 21) .skip (.exit 0)) F50.t5))))) F50.t8))))
theorem F50.calls (hn : args.size ≤ 32) (h : cwE Tryz.prog F50.code (fnP Tryz.prog #[] R) (entry args) w) : Calls Tryz.prog 50 args w R :=
  calls_of_cwE (types := Tryz.prog.types) follows Tryz.func50 F50.code rfl (by kernel_rfl) hn h

def F51.r0 : List Oper := [
  oc 1 (.box 72 (.tmp 0)) 0,
  op 2 (.assign (.const (.bool false))) 4]
def F51.r1 : List Oper := [
  op 4 (.fieldAddr 72 (.tmp 1) 0) 0,
  od 5 (.load 9 (.tmp 4)) 9,
  oc 6 (.call ⟨(.value (.func 59)), #[(.tmp 5)], #[9]⟩) 4,
  op 7 (.unOp .not 4 (.tmp 6)) 4,
  op 8 (.move (.tmp 7)) 4,
  ⟨(some 9), (.fieldAddr 72 (.tmp 1) 1), 0, "", #[], (some (8, false))⟩,
  ⟨(some 10), (.load 9 (.tmp 9)), 9, "", #[⟨0, .data⟩], (some (8, false))⟩,
  ⟨(some 11), (.binOp .neq 9 (.tmp 10) (.const (.string { data := #[] })) 9), 4, "", #[], (some (8, false))⟩,
  ⟨(some 12), (.move (.tmp 11)), 4, "", #[], (some (8, false))⟩,
  ⟨(some 13), (.fieldAddr 72 (.tmp 1) 1), 0, "", #[], (some (12, true))⟩,
  ⟨(some 14), (.load 9 (.tmp 13)), 9, "", #[⟨0, .data⟩], (some (12, true))⟩,
  ⟨(some 15), (.call ⟨(.value (.func 59)), #[(.tmp 14)], #[9]⟩), 4, "", #[⟨0, .chain⟩], (some (12, true))⟩,
  ⟨(some 16), (.unOp .not 4 (.tmp 15)), 4, "", #[], (some (12, true))⟩,
  ⟨(some 17), (.pick (.tmp 12) (.tmp 16) (.const (.bool false))), 4, "", #[], (some (8, false))⟩,
  op 18 (.pick (.tmp 8) (.const (.bool true)) (.tmp 17)) 4,
  op 19 (.move (.tmp 18)) 4,
  ⟨(some 20), (.fieldAddr 72 (.tmp 1) 3), 0, "", #[], (some (19, false))⟩,
  ⟨(some 21), (.load 9 (.tmp 20)), 9, "", #[⟨0, .data⟩], (some (19, false))⟩,
  ⟨(some 22), (.call ⟨(.value (.func 79)), #[(.tmp 21)], #[9]⟩), 4, "", #[⟨0, .chain⟩], (some (19, false))⟩,
  ⟨(some 23), (.unOp .not 4 (.tmp 22)), 4, "", #[], (some (19, false))⟩,
  op 24 (.pick (.tmp 19) (.const (.bool true)) (.tmp 23)) 4]
def F51.r2 : List Oper := [
  op 2 (.assign (.const (.bool false))) 4]
def F51.r3 : List Oper := [
  op 3 (.assign (.const (.int .i64 0))) 3]
def F51.r4 : List Oper := [
  op 25 (.move (.tmp 3)) 3,
  op 26 (.fieldAddr 72 (.tmp 1) 2) 0,
  od 27 (.load 22 (.tmp 26)) 22,
  op 28 (.call ⟨(.builtin .len), #[(.tmp 27)], #[22]⟩) 3,
  op 29 (.binOp .lss 3 (.tmp 25) (.tmp 28) 3) 4]
def F51.r6 : List Oper := [
  op 32 (.fieldAddr 72 (.tmp 1) 2) 0,
  od 33 (.load 22 (.tmp 32)) 22,
  op 34 (.move (.tmp 3)) 3,
  op 35 (.indexAddr 22 (.tmp 33) (.tmp 34)) 0,
  od 36 (.load 9 (.tmp 35)) 9,
  oc 37 (.call ⟨(.value (.func 59)), #[(.tmp 36)], #[9]⟩) 4,
  op 38 (.unOp .not 4 (.tmp 37)) 4]
def F51.r7 : List Oper := [
  op 2 (.assign (.const (.bool false))) 4]
def F51.r5 : List Oper := [
  op 30 (.move (.tmp 3)) 3,
  op 31 (.binOp .add 3 (.tmp 30) (.const (.int .i64 1)) 3) 3,
  op 3 (.assign (.tmp 31)) 3]
def F51.r8 : List Oper := [
  op 2 (.assign (.const (.bool true))) 4]
def F51.t5 : Cd := (.region 5 F51.r5.toArray false)
theorem F51.t5_eq {θ : Tag (F51.t5, Q, e, w)} : cwE P F51.t5 Q e w θ = cwE P (.region 5 F51.r5.toArray false) Q e w := rfl
def F51.t6 : Cd := (.seq (.block 1 (.seq (.region 6 F51.r6.toArray false) (.cond (.tmp 38) (.seq (.region 7 F51.r7.toArray false) .ret) .skip))) F51.t5)
theorem F51.t6_eq {θ : Tag (F51.t6, Q, e, w)} : cwE P F51.t6 Q e w θ = cwE P (.seq (.block 1 (.seq (.region 6 F51.r6.toArray false) (.cond (.tmp 38) (.seq (.region 7 F51.r7.toArray false) .ret) .skip))) F51.t5) Q e w := rfl
def F51.t8 : Cd := (.seq (.region 8 F51.r8.toArray false) .ret)
theorem F51.t8_eq {θ : Tag (F51.t8, Q, e, w)} : cwE P F51.t8 Q e w θ = cwE P (.seq (.region 8 F51.r8.toArray false) .ret) Q e w := rfl
def F51.t3 : Cd := (.seq (.seq (.region 3 F51.r3.toArray false) (.block 0 (.loop (.seq (.seq (.region 4 F51.r4.toArray false) (.cond (.tmp 29) .skip (.exit 0))) F51.t6)))) F51.t8)
theorem F51.t3_eq {θ : Tag (F51.t3, Q, e, w)} : cwE P F51.t3 Q e w θ = cwE P (.seq (.seq (.region 3 F51.r3.toArray false) (.block 0 (.loop (.seq (.seq (.region 4 F51.r4.toArray false) (.cond (.tmp 29) .skip (.exit 0))) F51.t6)))) F51.t8) Q e w := rfl
def F51.code : Cd := (.seq (.region 0 F51.r0.toArray false) (.seq (.seq (.region 1 F51.r1.toArray false) (.cond (.tmp 24) (.seq (.region 2 F51.r2.toArray false) .ret) .skip)) F51.t3))
theorem F51.calls (hn : args.size ≤ 39) (h : cwE Tryz.prog F51.code (fnP Tryz.prog #[(.tmp 2)] R) (entry args) w) : Calls Tryz.prog 51 args w R :=
  calls_of_cwE (types := Tryz.prog.types) follows Tryz.func51 F51.code rfl (by kernel_rfl) hn h

def F52.r0 : List Oper := [
  op 2 (.assign (.const (.string { data := #[] }))) 9]
def F52.r1 : List Oper := [
  op 3 (.assign (.const (.string { data := #[] }))) 9]
def F52.r2 : List Oper := [
  op 4 (.assign (.const (.int .i64 0))) 3]
def F52.r3 : List Oper := [
  op 5 (.move (.tmp 4)) 3,
  op 6 (.move (.tmp 0)) 38,
  op 7 (.call ⟨(.builtin .len), #[(.tmp 6)], #[38]⟩) 3,
  op 8 (.binOp .lss 3 (.tmp 5) (.tmp 7) 3) 4]
def F52.r5 : List Oper := [
  op 11 (.move (.tmp 3)) 9,
  op 12 (.move (.tmp 0)) 38,
  op 13 (.move (.tmp 4)) 3,
  op 14 (.indexAddr 38 (.tmp 12) (.tmp 13)) 0,
  od 15 (.load 72 (.tmp 14)) 72,
  oc 16 (.call ⟨(.value (.func 66)), #[(.tmp 15)], #[72]⟩) 9,
  op 17 (.binOp .add 9 (.tmp 11) (.tmp 16) 9) 9,
  op 3 (.assign (.tmp 17)) 9]
def F52.r4 : List Oper := [
  op 9 (.move (.tmp 4)) 3,
  op 10 (.binOp .add 3 (.tmp 9) (.const (.int .i64 1)) 3) 3,
  op 4 (.assign (.tmp 10)) 3]
def F52.r6 : List Oper := [
  op 18 (.move (.tmp 3)) 9,
  op 2 (.assign (.tmp 18)) 9]
def F52.t4 : Cd := (.region 4 F52.r4.toArray false)
theorem F52.t4_eq {θ : Tag (F52.t4, Q, e, w)} : cwE P F52.t4 Q e w θ = cwE P (.region 4 F52.r4.toArray false) Q e w := rfl
def F52.t5 : Cd := (.seq (.block 1 (.region 5 F52.r5.toArray false)) F52.t4)
theorem F52.t5_eq {θ : Tag (F52.t5, Q, e, w)} : cwE P F52.t5 Q e w θ = cwE P (.seq (.block 1 (.region 5 F52.r5.toArray false)) F52.t4) Q e w := rfl
def F52.t6 : Cd := (.seq (.region 6 F52.r6.toArray false) .ret)
theorem F52.t6_eq {θ : Tag (F52.t6, Q, e, w)} : cwE P F52.t6 Q e w θ = cwE P (.seq (.region 6 F52.r6.toArray false) .ret) Q e w := rfl
def F52.code : Cd := (.seq (.region 0 F52.r0.toArray false) (.seq (.region 1 F52.r1.toArray false) (.seq (.seq (.region 2 F52.r2.toArray false) (.block 0 (.loop (.seq (.seq (.region 3 F52.r3.toArray false) (.cond (.tmp 8) .skip (.exit 0))) F52.t5)))) F52.t6)))
theorem F52.calls (hn : args.size ≤ 19) (h : cwE Tryz.prog F52.code (fnP Tryz.prog #[(.tmp 2)] R) (entry args) w) : Calls Tryz.prog 52 args w R :=
  calls_of_cwE (types := Tryz.prog.types) follows Tryz.func52 F52.code rfl (by kernel_rfl) hn h

def F53.r0 : List Oper := [
  oc 2 (.box 72 (.tmp 0)) 0,
  oc 3 (.box 72 (.tmp 1)) 0,
  op 4 (.assign (.const (.bool false))) 4]
def F53.r1 : List Oper := [
  op 6 (.fieldAddr 72 (.tmp 2) 2) 0,
  od 7 (.load 22 (.tmp 6)) 22,
  op 8 (.fieldAddr 72 (.tmp 3) 2) 0,
  od 9 (.load 22 (.tmp 8)) 22,
  oc 10 (.call ⟨(.value (.func 22)), #[(.tmp 7), (.tmp 9)], #[22, 22]⟩) 4,
  op 5 (.assign (.tmp 10)) 4]
def F53.r2 : List Oper := [
  op 11 (.move (.tmp 5)) 4,
  op 12 (.move (.tmp 11)) 4,
  ⟨(some 13), (.fieldAddr 72 (.tmp 2) 0), 0, "", #[], (some (12, true))⟩,
  ⟨(some 14), (.load 9 (.tmp 13)), 9, "", #[⟨0, .data⟩], (some (12, true))⟩,
  ⟨(some 15), (.fieldAddr 72 (.tmp 3) 0), 0, "", #[], (some (12, true))⟩,
  ⟨(some 16), (.load 9 (.tmp 15)), 9, "", #[⟨0, .data⟩], (some (12, true))⟩,
  ⟨(some 17), (.binOp .eql 9 (.tmp 14) (.tmp 16) 9), 4, "", #[], (some (12, true))⟩,
  op 18 (.pick (.tmp 12) (.tmp 17) (.const (.bool false))) 4,
  op 19 (.move (.tmp 18)) 4,
  ⟨(some 20), (.fieldAddr 72 (.tmp 2) 1), 0, "", #[], (some (19, true))⟩,
  ⟨(some 21), (.load 9 (.tmp 20)), 9, "", #[⟨0, .data⟩], (some (19, true))⟩,
  ⟨(some 22), (.fieldAddr 72 (.tmp 3) 1), 0, "", #[], (some (19, true))⟩,
  ⟨(some 23), (.load 9 (.tmp 22)), 9, "", #[⟨0, .data⟩], (some (19, true))⟩,
  ⟨(some 24), (.binOp .eql 9 (.tmp 21) (.tmp 23) 9), 4, "", #[], (some (19, true))⟩,
  op 25 (.pick (.tmp 19) (.tmp 24) (.const (.bool false))) 4,
  op 26 (.move (.tmp 25)) 4,
  ⟨(some 27), (.fieldAddr 72 (.tmp 2) 3), 0, "", #[], (some (26, true))⟩,
  ⟨(some 28), (.load 9 (.tmp 27)), 9, "", #[⟨0, .data⟩], (some (26, true))⟩,
  ⟨(some 29), (.fieldAddr 72 (.tmp 3) 3), 0, "", #[], (some (26, true))⟩,
  ⟨(some 30), (.load 9 (.tmp 29)), 9, "", #[⟨0, .data⟩], (some (26, true))⟩,
  ⟨(some 31), (.binOp .eql 9 (.tmp 28) (.tmp 30) 9), 4, "", #[], (some (26, true))⟩,
  op 32 (.pick (.tmp 26) (.tmp 31) (.const (.bool false))) 4,
  op 4 (.assign (.tmp 32)) 4]
def F53.code : Cd := (.seq (.region 0 F53.r0.toArray false) (.seq (.region 1 F53.r1.toArray false) (.seq (.region 2 F53.r2.toArray false) .ret)))
theorem F53.calls (hn : args.size ≤ 33) (h : cwE Tryz.prog F53.code (fnP Tryz.prog #[(.tmp 4)] R) (entry args) w) : Calls Tryz.prog 53 args w R :=
  calls_of_cwE (types := Tryz.prog.types) follows Tryz.func53 F53.code rfl (by kernel_rfl) hn h

def F54.r0 : List Oper := [
  od 8 (.load 9 (.tmp 0)) 9,
  oc 9 (.call ⟨(.value (.func 55)), #[(.tmp 8), (.const (.string { data := #[45] }))], #[9, 9]⟩) 94,
  op 7 (.move (.tmp 9)) 94,
  op 10 (.extract (.tmp 7) 0) 9,
  op 11 (.extract (.tmp 7) 1) 4,
  op 3 (.assign (.tmp 10)) 9,
  op 4 (.assign (.tmp 11)) 4]
def F54.r1 : List Oper := [
  op 12 (.move (.tmp 4)) 4,
  op 13 (.move (.tmp 12)) 4,
  ⟨(some 14), (.move (.tmp 3)), 9, "", #[], (some (13, true))⟩,
  ⟨(some 15), (.call ⟨(.value (.func 56)), #[(.tmp 14)], #[9]⟩), 4, "", #[⟨0, .chain⟩], (some (13, true))⟩,
  op 16 (.pick (.tmp 13) (.tmp 15) (.const (.bool false))) 4]
def F54.r2 : List Oper := [
  od 17 (.load 25 (.tmp 1)) 25,
  op 18 (.move (.tmp 3)) 9,
  oc 19 (.call ⟨(.value (.func 57)), #[(.tmp 17), (.tmp 18)], #[25, 9]⟩) 25,
  ⟨none, (.store 25 (.tmp 2) (.tmp 19)), 0, "", #[⟨0, .chain⟩], none⟩]
def F54.r3 : List Oper := [
  od 20 (.load 25 (.tmp 2)) 25,
  oc 21 (.call ⟨(.value (.func 35)), #[(.tmp 20)], #[25]⟩) 0]
def F54.r4 : List Oper := [
  od 22 (.load 9 (.tmp 0)) 9,
  oc 23 (.call ⟨(.value (.func 30)), #[(.tmp 22)], #[9]⟩) 72,
  oc 5 (.alloc 72) 0,
  ⟨none, (.store 72 (.tmp 5) (.tmp 23)), 0, "", #[⟨0, .chain⟩], none⟩]
def F54.r5 : List Oper := [
  op 24 (.fieldAddr 72 (.tmp 5) 0) 0,
  od 25 (.load 9 (.tmp 24)) 9,
  op 26 (.index 9 (.tmp 25) (.const (.int .i64 0))) 5,
  op 27 (.binOp .neq 5 (.tmp 26) (.const (.int .u8 35)) 5) 4,
  oc 28 (.call ⟨(.value (.func 31)), #[(.tmp 27), (.const (.int .i64 60))], #[4, 26]⟩) 0]
def F54.r6 : List Oper := [
  od 29 (.load 72 (.tmp 5)) 72,
  oc 30 (.call ⟨(.value (.func 32)), #[(.tmp 29)], #[72]⟩) 0]
def F54.r7 : List Oper := [
  od 31 (.load 25 (.tmp 1)) 25,
  oc 32 (.call ⟨(.value (.func 58)), #[(.tmp 31)], #[25]⟩) 98]
def F54.r8 : List Oper := [
  oc 6 (.alloc 72) 0,
  ⟨none, (.store 72 (.tmp 6) (.tmp 33)), 0, "", #[⟨0, .chain⟩], none⟩]
def F54.r9 : List Oper := [
  od 34 (.load 25 (.tmp 2)) 25,
  od 35 (.load 72 (.tmp 6)) 72,
  oc 36 (.call ⟨(.value (.func 33)), #[(.tmp 34), (.tmp 35)], #[25, 72]⟩) 0]
def F54.r10 : List Oper := [
  od 37 (.load 25 (.tmp 2)) 25,
  od 38 (.load 72 (.tmp 5)) 72,
  oc 39 (.call ⟨(.value (.func 33)), #[(.tmp 37), (.tmp 38)], #[25, 72]⟩) 0]
def F54.r11 : List Oper := [
  od 40 (.load 25 (.tmp 2)) 25,
  od 41 (.load 72 (.tmp 5)) 72,
  oc 42 (.call ⟨(.value (.func 34)), #[(.tmp 40), (.tmp 41)], #[25, 72]⟩) 0]
def F54.r12 : List Oper := [
  od 43 (.load 25 (.tmp 2)) 25,
  oc 44 (.call ⟨(.value (.func 35)), #[(.tmp 43)], #[25]⟩) 0]
def F54.a0 : Cd := (.region 8 F54.r8.toArray false)
def F54.b0 : Cd := (.block 1 (.region 9 F54.r9.toArray false))
def F54.t10 : Cd := (.seq (.region 10 F54.r10.toArray false) (.seq (.region 11 F54.r11.toArray false) (.region 12 F54.r12.toArray false)))
theorem F54.t10_eq {θ : Tag (F54.t10, Q, e, w)} : cwE P F54.t10 Q e w θ = cwE P (.seq (.region 10 F54.r10.toArray false) (.seq (.region 11 F54.r11.toArray false) (.region 12 F54.r12.toArray false))) Q e w := rfl
def F54.t4 : Cd := (.seq (.region 4 F54.r4.toArray false) (.seq (.region 5 F54.r5.toArray false) (.seq (.region 6 F54.r6.toArray false) (.seq (.seq (.region 7 F54.r7.toArray false) (.block 0 (.rangeFunc (.tmp 32) #[33] F54.a0 F54.b0))) F54.t10))))
theorem F54.t4_eq {θ : Tag (F54.t4, Q, e, w)} : cwE P F54.t4 Q e w θ = cwE P (.seq (.region 4 F54.r4.toArray false) (.seq (.region 5 F54.r5.toArray false) (.seq (.region 6 F54.r6.toArray false) (.seq (.seq (.region 7 F54.r7.toArray false) (.block 0 (.rangeFunc (.tmp 32) #[33] F54.a0 F54.b0))) F54.t10)))) Q e w := rfl
def F54.code : Cd := (.seq (.seq (.region 0 F54.r0.toArray false) (.seq (.region 1 F54.r1.toArray false) (.cond (.tmp 16) (.seq (.region 2 F54.r2.toArray false) (.seq (.region 3 F54.r3.toArray false) .ret)) .skip))) F54.t4)
theorem F54.calls (hn : args.size ≤ 45) (h : cwE Tryz.prog F54.code (fnP Tryz.prog #[] R) (entry args) w) : Calls Tryz.prog 54 args w R :=
  calls_of_cwE (types := Tryz.prog.types) follows Tryz.func54 F54.code rfl (by kernel_rfl) hn h

def F55.r0 : List Oper := [
  op 4 (.assign (.const (.string { data := #[] }))) 9,
  op 5 (.assign (.const (.bool false))) 4]
def F55.r1 : List Oper := [
  op 6 (.move (.tmp 0)) 9,
  op 7 (.move (.tmp 1)) 9,
  oc 8 (.call ⟨(.value (.func 80)), #[(.tmp 6), (.tmp 7)], #[9, 9]⟩) 94,
  op 9 (.extract (.tmp 8) 0) 9,
  op 10 (.extract (.tmp 8) 1) 4,
  op 4 (.assign (.tmp 9)) 9,
  op 5 (.assign (.tmp 10)) 4]
def F55.code : Cd := (.seq (.region 0 F55.r0.toArray false) (.seq (.region 1 F55.r1.toArray false) .ret))
theorem F55.calls (hn : args.size ≤ 11) (h : cwE Tryz.prog F55.code (fnP Tryz.prog #[(.tmp 4), (.tmp 5)] R) (entry args) w) : Calls Tryz.prog 55 args w R :=
  calls_of_cwE (types := Tryz.prog.types) follows Tryz.func55 F55.code rfl (by kernel_rfl) hn h

def F56.r0 : List Oper := [
  op 2 (.assign (.const (.bool false))) 4]
def F56.r1 : List Oper := [
  op 5 (.move (.tmp 0)) 9,
  op 6 (.binOp .eql 9 (.tmp 5) (.const (.string { data := #[] })) 9) 4,
  op 7 (.move (.tmp 6)) 4,
  ⟨(some 8), (.move (.tmp 0)), 9, "", #[], (some (7, false))⟩,
  ⟨(some 9), (.call ⟨(.builtin .len), #[(.tmp 8)], #[9]⟩), 3, "", #[], (some (7, false))⟩,
  ⟨(some 10), (.binOp .gtr 3 (.tmp 9) (.const (.int .i64 32)) 3), 4, "", #[], (some (7, false))⟩,
  op 11 (.pick (.tmp 7) (.const (.bool true)) (.tmp 10)) 4,
  op 12 (.move (.tmp 11)) 4,
  ⟨(some 13), (.move (.tmp 0)), 9, "", #[], (some (12, false))⟩,
  ⟨(some 14), (.call ⟨(.value (.func 81)), #[(.tmp 13)], #[9]⟩), 4, "", #[⟨0, .chain⟩], (some (12, false))⟩,
  ⟨(some 15), (.unOp .not 4 (.tmp 14)), 4, "", #[], (some (12, false))⟩,
  op 16 (.pick (.tmp 12) (.const (.bool true)) (.tmp 15)) 4]
def F56.r2 : List Oper := [
  op 2 (.assign (.const (.bool false))) 4]
def F56.r3 : List Oper := [
  op 17 (.move (.tmp 0)) 9,
  oc 18 (.range 9 (.tmp 17)) 0]
def F56.r4 : List Oper := [
  oc 19 (.next (.tmp 18) true) 0,
  op 20 (.extract (.tmp 19) 0) 4]
def F56.r5 : List Oper := [
  op 21 (.extract (.tmp 19) 2) 21,
  op 4 (.assign (.tmp 21)) 21]
def F56.r6 : List Oper := [
  op 22 (.move (.tmp 4)) 21,
  op 23 (.binOp .lss 21 (.tmp 22) (.const (.int .i32 33)) 21) 4,
  op 24 (.move (.tmp 23)) 4,
  ⟨(some 25), (.move (.tmp 4)), 21, "", #[], (some (24, false))⟩,
  ⟨(some 26), (.binOp .eql 21 (.tmp 25) (.const (.int .i32 127)) 21), 4, "", #[], (some (24, false))⟩,
  op 27 (.pick (.tmp 24) (.const (.bool true)) (.tmp 26)) 4,
  op 28 (.move (.tmp 27)) 4,
  ⟨(some 29), (.move (.tmp 4)), 21, "", #[], (some (28, false))⟩,
  ⟨(some 30), (.call ⟨(.value (.func 82)), #[(.const (.string { data := #[58, 44, 35, 47] })), (.tmp 29)], #[9, 21]⟩), 4, "", #[⟨0, .chain⟩], (some (28, false))⟩,
  op 31 (.pick (.tmp 28) (.const (.bool true)) (.tmp 30)) 4]
def F56.r7 : List Oper := [
  op 2 (.assign (.const (.bool false))) 4]
def F56.r8 : List Oper := [
  op 2 (.assign (.const (.bool true))) 4]
def F56.t5 : Cd := (.block 1 (.seq (.region 5 F56.r5.toArray false) (.seq (.region 6 F56.r6.toArray false) (.cond (.tmp 31) (.seq (.region 7 F56.r7.toArray false) .ret) .skip))))
theorem F56.t5_eq {θ : Tag (F56.t5, Q, e, w)} : cwE P F56.t5 Q e w θ = cwE P (.block 1 (.seq (.region 5 F56.r5.toArray false) (.seq (.region 6 F56.r6.toArray false) (.cond (.tmp 31) (.seq (.region 7 F56.r7.toArray false) .ret) .skip)))) Q e w := rfl
def F56.t8 : Cd := (.seq (.region 8 F56.r8.toArray false) .ret)
theorem F56.t8_eq {θ : Tag (F56.t8, Q, e, w)} : cwE P F56.t8 Q e w θ = cwE P (.seq (.region 8 F56.r8.toArray false) .ret) Q e w := rfl
def F56.t3 : Cd := (.seq (.seq (.region 3 F56.r3.toArray false) (.block 0 (.loop (.seq (.region 4 F56.r4.toArray false) (.seq (.cond (.tmp 20) .skip (.exit 0)) F56.t5))))) F56.t8)
theorem F56.t3_eq {θ : Tag (F56.t3, Q, e, w)} : cwE P F56.t3 Q e w θ = cwE P (.seq (.seq (.region 3 F56.r3.toArray false) (.block 0 (.loop (.seq (.region 4 F56.r4.toArray false) (.seq (.cond (.tmp 20) .skip (.exit 0)) F56.t5))))) F56.t8) Q e w := rfl
def F56.code : Cd := (.seq (.region 0 F56.r0.toArray false) (.seq (.seq (.region 1 F56.r1.toArray false) (.cond (.tmp 16) (.seq (.region 2 F56.r2.toArray false) .ret) .skip)) F56.t3))
theorem F56.calls (hn : args.size ≤ 32) (h : cwE Tryz.prog F56.code (fnP Tryz.prog #[(.tmp 2)] R) (entry args) w) : Calls Tryz.prog 56 args w R :=
  calls_of_cwE (types := Tryz.prog.types) follows Tryz.func56 F56.code rfl (by kernel_rfl) hn h

def F57.r0 : List Oper := [
  oc 3 (.box 9 (.tmp 1)) 0,
  op 4 (.assign (.const (.pointer none))) 25]
def F57.r1 : List Oper := [
  oc 7 (.makeMap 64 none) 64,
  op 8 (.build 67 #[(1, (.tmp 7))]) 67,
  oc 9 (.box 67 (.tmp 8)) 25,
  oc 5 (.alloc 25) 0,
  ⟨none, (.store 25 (.tmp 5) (.tmp 9)), 0, "", #[⟨0, .chain⟩], none⟩]
def F57.r2 : List Oper := [
  op 10 (.move (.tmp 0)) 25,
  od 11 (.load 9 (.tmp 3)) 9,
  oc 12 (.call ⟨(.value (.func 26)), #[(.tmp 10), (.tmp 11)], #[25, 9]⟩) 4,
  oc 13 (.call ⟨(.value (.func 31)), #[(.tmp 12), (.const (.int .i64 62))], #[4, 26]⟩) 0]
def F57.r3 : List Oper := [
  op 14 (.move (.tmp 0)) 25,
  oc 15 (.call ⟨(.value (.func 58)), #[(.tmp 14)], #[25]⟩) 98]
def F57.r4 : List Oper := [
  oc 6 (.alloc 72) 0,
  ⟨none, (.store 72 (.tmp 6) (.tmp 16)), 0, "", #[⟨0, .chain⟩], none⟩]
def F57.r5 : List Oper := [
  op 17 (.fieldAddr 72 (.tmp 6) 0) 0,
  od 18 (.load 9 (.tmp 17)) 9,
  od 19 (.load 9 (.tmp 3)) 9,
  op 20 (.binOp .eql 9 (.tmp 18) (.tmp 19) 9) 4]
def F57.r6 : List Oper := [
  op 21 (.fieldAddr 72 (.tmp 6) 1) 0,
  od 22 (.load 9 (.tmp 21)) 9,
  od 23 (.load 9 (.tmp 3)) 9,
  op 24 (.binOp .neq 9 (.tmp 22) (.tmp 23) 9) 4,
  op 25 (.move (.tmp 24)) 4,
  ⟨(some 26), (.fieldAddr 72 (.tmp 6) 2), 0, "", #[], (some (25, true))⟩,
  ⟨(some 27), (.load 22 (.tmp 26)), 22, "", #[⟨0, .data⟩], (some (25, true))⟩,
  ⟨(some 28), (.load 9 (.tmp 3)), 9, "", #[⟨0, .data⟩], (some (25, true))⟩,
  ⟨(some 29), (.call ⟨(.value (.func 64)), #[(.tmp 27), (.tmp 28)], #[22, 9]⟩), 4, "", #[⟨0, .chain⟩], (some (25, true))⟩,
  ⟨(some 30), (.unOp .not 4 (.tmp 29)), 4, "", #[], (some (25, true))⟩,
  op 31 (.pick (.tmp 25) (.tmp 30) (.const (.bool false))) 4,
  oc 32 (.call ⟨(.value (.func 31)), #[(.tmp 31), (.const (.int .i64 62))], #[4, 26]⟩) 0]
def F57.r7 : List Oper := [
  od 33 (.load 25 (.tmp 5)) 25,
  od 34 (.load 72 (.tmp 6)) 72,
  oc 35 (.call ⟨(.value (.func 33)), #[(.tmp 33), (.tmp 34)], #[25, 72]⟩) 0]
def F57.r8 : List Oper := [
  od 36 (.load 25 (.tmp 5)) 25,
  op 4 (.assign (.tmp 36)) 25]
def F57.a0 : Cd := (.region 4 F57.r4.toArray false)
def F57.b0 : Cd := (.block 1 (.seq (.seq (.region 5 F57.r5.toArray false) (.cond (.tmp 20) (.exit 1) .skip)) (.seq (.region 6 F57.r6.toArray false) (.region 7 F57.r7.toArray false))))
def F57.t8 : Cd := (.seq (.region 8 F57.r8.toArray false) .ret)
theorem F57.t8_eq {θ : Tag (F57.t8, Q, e, w)} : cwE P F57.t8 Q e w θ = cwE P (.seq (.region 8 F57.r8.toArray false) .ret) Q e w := rfl
def F57.code : Cd := (.seq (.region 0 F57.r0.toArray false) (.seq (.region 1 F57.r1.toArray false) (.seq (.region 2 F57.r2.toArray false) (.seq (.seq (.region 3 F57.r3.toArray false) (.block 0 (.rangeFunc (.tmp 15) #[16] F57.a0 F57.b0))) F57.t8))))
theorem F57.calls (hn : args.size ≤ 37) (h : cwE Tryz.prog F57.code (fnP Tryz.prog #[(.tmp 4)] R) (entry args) w) : Calls Tryz.prog 57 args w R :=
  calls_of_cwE (types := Tryz.prog.types) follows Tryz.func57 F57.code rfl (by kernel_rfl) hn h

def F58.r0 : List Oper := [
  oc 1 (.box 25 (.tmp 0)) 0,
  op 2 (.assign (.const .nilFunc)) 98]
def F58.r1 : List Oper := [
  op 3 (.makeFunc (.func 83) #[] #[(.tmp 1)]) 97,
  op 2 (.assign (.tmp 3)) 98]
def F58.code : Cd := (.seq (.region 0 F58.r0.toArray false) (.seq (.region 1 F58.r1.toArray false) .ret))
theorem F58.calls (hn : args.size ≤ 4) (h : cwE Tryz.prog F58.code (fnP Tryz.prog #[(.tmp 2)] R) (entry args) w) : Calls Tryz.prog 58 args w R :=
  calls_of_cwE (types := Tryz.prog.types) follows Tryz.func58 F58.code rfl (by kernel_rfl) hn h

def F59.r0 : List Oper := [
  op 2 (.assign (.const (.bool false))) 4]
def F59.r1 : List Oper := [
  op 5 (.move (.tmp 0)) 9,
  op 6 (.call ⟨(.builtin .len), #[(.tmp 5)], #[9]⟩) 3,
  op 7 (.binOp .lss 3 (.tmp 6) (.const (.int .i64 1)) 3) 4,
  op 8 (.move (.tmp 7)) 4,
  ⟨(some 9), (.move (.tmp 0)), 9, "", #[], (some (8, false))⟩,
  ⟨(some 10), (.call ⟨(.builtin .len), #[(.tmp 9)], #[9]⟩), 3, "", #[], (some (8, false))⟩,
  ⟨(some 11), (.binOp .gtr 3 (.tmp 10) (.const (.int .i64 32)) 3), 4, "", #[], (some (8, false))⟩,
  op 12 (.pick (.tmp 8) (.const (.bool true)) (.tmp 11)) 4,
  op 13 (.move (.tmp 12)) 4,
  ⟨(some 14), (.move (.tmp 0)), 9, "", #[], (some (13, false))⟩,
  ⟨(some 15), (.call ⟨(.value (.func 85)), #[(.tmp 14)], #[9]⟩), 4, "", #[⟨0, .chain⟩], (some (13, false))⟩,
  ⟨(some 16), (.unOp .not 4 (.tmp 15)), 4, "", #[], (some (13, false))⟩,
  op 17 (.pick (.tmp 13) (.const (.bool true)) (.tmp 16)) 4]
def F59.r2 : List Oper := [
  op 2 (.assign (.const (.bool false))) 4]
def F59.r3 : List Oper := [
  op 3 (.assign (.const (.int .i64 0))) 3]
def F59.r4 : List Oper := [
  op 18 (.move (.tmp 3)) 3,
  op 19 (.move (.tmp 0)) 9,
  op 20 (.call ⟨(.builtin .len), #[(.tmp 19)], #[9]⟩) 3,
  op 21 (.binOp .lss 3 (.tmp 18) (.tmp 20) 3) 4]
def F59.r6 : List Oper := [
  op 24 (.move (.tmp 0)) 9,
  op 25 (.move (.tmp 3)) 3,
  op 26 (.index 9 (.tmp 24) (.tmp 25)) 5,
  op 4 (.assign (.tmp 26)) 5]
def F59.r7 : List Oper := [
  op 27 (.move (.tmp 4)) 5,
  op 28 (.binOp .lss 5 (.tmp 27) (.const (.int .u8 33)) 5) 4,
  op 29 (.move (.tmp 28)) 4,
  ⟨(some 30), (.move (.tmp 4)), 5, "", #[], (some (29, false))⟩,
  ⟨(some 31), (.binOp .eql 5 (.tmp 30) (.const (.int .u8 127)) 5), 4, "", #[], (some (29, false))⟩,
  op 32 (.pick (.tmp 29) (.const (.bool true)) (.tmp 31)) 4,
  op 33 (.move (.tmp 32)) 4,
  ⟨(some 34), (.move (.tmp 4)), 5, "", #[], (some (33, false))⟩,
  ⟨(some 35), (.binOp .eql 5 (.tmp 34) (.const (.int .u8 58)) 5), 4, "", #[], (some (33, false))⟩,
  op 36 (.pick (.tmp 33) (.const (.bool true)) (.tmp 35)) 4,
  op 37 (.move (.tmp 36)) 4,
  ⟨(some 38), (.move (.tmp 4)), 5, "", #[], (some (37, false))⟩,
  ⟨(some 39), (.binOp .eql 5 (.tmp 38) (.const (.int .u8 44)) 5), 4, "", #[], (some (37, false))⟩,
  op 40 (.pick (.tmp 37) (.const (.bool true)) (.tmp 39)) 4,
  op 41 (.move (.tmp 40)) 4,
  ⟨(some 42), (.move (.tmp 4)), 5, "", #[], (some (41, false))⟩,
  ⟨(some 43), (.binOp .eql 5 (.tmp 42) (.const (.int .u8 35)) 5), 4, "", #[], (some (41, false))⟩,
  op 44 (.pick (.tmp 41) (.const (.bool true)) (.tmp 43)) 4,
  op 45 (.move (.tmp 44)) 4,
  ⟨(some 46), (.move (.tmp 4)), 5, "", #[], (some (45, false))⟩,
  ⟨(some 47), (.binOp .eql 5 (.tmp 46) (.const (.int .u8 47)) 5), 4, "", #[], (some (45, false))⟩,
  op 48 (.pick (.tmp 45) (.const (.bool true)) (.tmp 47)) 4]
def F59.r8 : List Oper := [
  op 2 (.assign (.const (.bool false))) 4]
def F59.r5 : List Oper := [
  op 22 (.move (.tmp 3)) 3,
  op 23 (.binOp .add 3 (.tmp 22) (.const (.int .i64 1)) 3) 3,
  op 3 (.assign (.tmp 23)) 3]
def F59.r9 : List Oper := [
  op 2 (.assign (.const (.bool true))) 4]
def F59.t5 : Cd := (.region 5 F59.r5.toArray false)
theorem F59.t5_eq {θ : Tag (F59.t5, Q, e, w)} : cwE P F59.t5 Q e w θ = cwE P (.region 5 F59.r5.toArray false) Q e w := rfl
def F59.t6 : Cd := (.seq (.block 1 (.seq (.region 6 F59.r6.toArray false) (.seq (.region 7 F59.r7.toArray false) (.cond (.tmp 48) (.seq (.region 8 F59.r8.toArray false) .ret) .skip)))) F59.t5)
theorem F59.t6_eq {θ : Tag (F59.t6, Q, e, w)} : cwE P F59.t6 Q e w θ = cwE P (.seq (.block 1 (.seq (.region 6 F59.r6.toArray false) (.seq (.region 7 F59.r7.toArray false) (.cond (.tmp 48) (.seq (.region 8 F59.r8.toArray false) .ret) .skip)))) F59.t5) Q e w := rfl
def F59.t9 : Cd := (.seq (.region 9 F59.r9.toArray false) .ret)
theorem F59.t9_eq {θ : Tag (F59.t9, Q, e, w)} : cwE P F59.t9 Q e w θ = cwE P (.seq (.region 9 F59.r9.toArray false) .ret) Q e w := rfl
def F59.t3 : Cd := (.seq (.seq (.region 3 F59.r3.toArray false) (.block 0 (.loop (.seq (.seq (.region 4 F59.r4.toArray false) (.cond (.tmp 21) .skip (.exit 0))) F59.t6)))) F59.t9)
theorem F59.t3_eq {θ : Tag (F59.t3, Q, e, w)} : cwE P F59.t3 Q e w θ = cwE P (.seq (.seq (.region 3 F59.r3.toArray false) (.block 0 (.loop (.seq (.seq (.region 4 F59.r4.toArray false) (.cond (.tmp 21) .skip (.exit 0))) F59.t6)))) F59.t9) Q e w := rfl
def F59.code : Cd := (.seq (.region 0 F59.r0.toArray false) (.seq (.seq (.region 1 F59.r1.toArray false) (.cond (.tmp 17) (.seq (.region 2 F59.r2.toArray false) .ret) .skip)) F59.t3))
theorem F59.calls (hn : args.size ≤ 49) (h : cwE Tryz.prog F59.code (fnP Tryz.prog #[(.tmp 2)] R) (entry args) w) : Calls Tryz.prog 59 args w R :=
  calls_of_cwE (types := Tryz.prog.types) follows Tryz.func59 F59.code rfl (by kernel_rfl) hn h

def F60.r0 : List Oper := [
  op 4 (.assign (.const (.pointer none))) 29,
  op 5 (.assign (.const (.int .i64 0))) 26]
def F60.r1 : List Oper := [
  op 9 (.move (.tmp 0)) 29,
  oc 10 (.call ⟨(.value (.func 43)), #[(.tmp 9)], #[29]⟩) 38,
  op 6 (.assign (.tmp 10)) 38]
def F60.r2 : List Oper := [
  op 11 (.move (.tmp 6)) 38,
  op 12 (.move (.tmp 1)) 9,
  oc 13 (.call ⟨(.value (.func 38)), #[(.tmp 11), (.tmp 12)], #[38, 9]⟩) 3,
  op 14 (.binOp .lss 3 (.tmp 13) (.const (.int .i64 0)) 3) 4]
def F60.r3 : List Oper := [
  op 4 (.assign (.const (.pointer none))) 29,
  op 5 (.assign (.const (.int .i64 62))) 26]
def F60.r4 : List Oper := [
  op 7 (.assign (.const (.slice none 0 0))) 38]
def F60.r5 : List Oper := [
  op 8 (.assign (.const (.int .i64 0))) 3]
def F60.r6 : List Oper := [
  op 15 (.move (.tmp 8)) 3,
  op 16 (.move (.tmp 6)) 38,
  op 17 (.call ⟨(.builtin .len), #[(.tmp 16)], #[38]⟩) 3,
  op 18 (.binOp .lss 3 (.tmp 15) (.tmp 17) 3) 4]
def F60.r8 : List Oper := [
  op 21 (.move (.tmp 6)) 38,
  op 22 (.move (.tmp 8)) 3,
  op 23 (.indexAddr 38 (.tmp 21) (.tmp 22)) 0,
  op 24 (.fieldAddr 72 (.tmp 23) 0) 0,
  od 25 (.load 9 (.tmp 24)) 9,
  op 26 (.move (.tmp 1)) 9,
  op 27 (.binOp .eql 9 (.tmp 25) (.tmp 26) 9) 4]
def F60.r9 : List Oper := [
  op 28 (.move (.tmp 6)) 38,
  op 29 (.move (.tmp 8)) 3,
  op 30 (.indexAddr 38 (.tmp 28) (.tmp 29)) 0,
  op 31 (.fieldAddr 72 (.tmp 30) 1) 0,
  od 32 (.load 9 (.tmp 31)) 9,
  op 33 (.move (.tmp 1)) 9,
  op 34 (.binOp .eql 9 (.tmp 32) (.tmp 33) 9) 4,
  op 35 (.move (.tmp 34)) 4,
  ⟨(some 36), (.move (.tmp 6)), 38, "", #[], (some (35, false))⟩,
  ⟨(some 37), (.move (.tmp 8)), 3, "", #[], (some (35, false))⟩,
  ⟨(some 38), (.indexAddr 38 (.tmp 36) (.tmp 37)), 0, "", #[], (some (35, false))⟩,
  ⟨(some 39), (.fieldAddr 72 (.tmp 38) 2), 0, "", #[], (some (35, false))⟩,
  ⟨(some 40), (.load 22 (.tmp 39)), 22, "", #[⟨0, .data⟩], (some (35, false))⟩,
  ⟨(some 41), (.move (.tmp 1)), 9, "", #[], (some (35, false))⟩,
  ⟨(some 42), (.call ⟨(.value (.func 65)), #[(.tmp 40), (.tmp 41)], #[22, 9]⟩), 4, "", #[⟨0, .chain⟩], (some (35, false))⟩,
  op 43 (.pick (.tmp 35) (.const (.bool true)) (.tmp 42)) 4]
def F60.r10 : List Oper := [
  op 4 (.assign (.const (.pointer none))) 29,
  op 5 (.assign (.const (.int .i64 62))) 26]
def F60.r11 : List Oper := [
  op 44 (.move (.tmp 7)) 38,
  op 45 (.move (.tmp 6)) 38,
  op 46 (.move (.tmp 8)) 3,
  op 47 (.indexAddr 38 (.tmp 45) (.tmp 46)) 0,
  od 48 (.load 72 (.tmp 47)) 72,
  oc 49 (.buildSlice 38 1 #[(0, (.tmp 48))]) 38,
  oc 50 (.call ⟨(.builtin .append), #[(.tmp 44), (.tmp 49)], #[38, 38]⟩) 38,
  op 7 (.assign (.tmp 50)) 38]
def F60.r7 : List Oper := [
  op 19 (.move (.tmp 8)) 3,
  op 20 (.binOp .add 3 (.tmp 19) (.const (.int .i64 1)) 3) 3,
  op 8 (.assign (.tmp 20)) 3]
def F60.r12 : List Oper := [
  op 51 (.move (.tmp 7)) 38,
  op 52 (.build 84 #[(0, (.tmp 51))]) 84,
  oc 53 (.box 84 (.tmp 52)) 29,
  op 4 (.assign (.tmp 53)) 29,
  op 5 (.assign (.const (.int .i64 0))) 26]
def F60.t11 : Cd := (.region 11 F60.r11.toArray false)
theorem F60.t11_eq {θ : Tag (F60.t11, Q, e, w)} : cwE P F60.t11 Q e w θ = cwE P (.region 11 F60.r11.toArray false) Q e w := rfl
def F60.t9 : Cd := (.seq (.seq (.region 9 F60.r9.toArray false) (.cond (.tmp 43) (.seq (.region 10 F60.r10.toArray false) .ret) .skip)) F60.t11)
theorem F60.t9_eq {θ : Tag (F60.t9, Q, e, w)} : cwE P F60.t9 Q e w θ = cwE P (.seq (.seq (.region 9 F60.r9.toArray false) (.cond (.tmp 43) (.seq (.region 10 F60.r10.toArray false) .ret) .skip)) F60.t11) Q e w := rfl
def F60.t7 : Cd := (.region 7 F60.r7.toArray false)
theorem F60.t7_eq {θ : Tag (F60.t7, Q, e, w)} : cwE P F60.t7 Q e w θ = cwE P (.region 7 F60.r7.toArray false) Q e w := rfl
def F60.t8 : Cd := (.seq (.block 1 (.seq (.seq (.region 8 F60.r8.toArray false) (.cond (.tmp 27) (.exit 1) .skip)) F60.t9)) F60.t7)
theorem F60.t8_eq {θ : Tag (F60.t8, Q, e, w)} : cwE P F60.t8 Q e w θ = cwE P (.seq (.block 1 (.seq (.seq (.region 8 F60.r8.toArray false) (.cond (.tmp 27) (.exit 1) .skip)) F60.t9)) F60.t7) Q e w := rfl
def F60.t12 : Cd := (.seq (.region 12 F60.r12.toArray false) .ret)
theorem F60.t12_eq {θ : Tag (F60.t12, Q, e, w)} : cwE P F60.t12 Q e w θ = cwE P (.seq (.region 12 F60.r12.toArray false) .ret) Q e w := rfl
def F60.t4 : Cd := (.seq (.region 4 F60.r4.toArray false) (.seq (.seq (.region 5 F60.r5.toArray false) (.block 0 (.loop (.seq (.seq (.region 6 F60.r6.toArray false) (.cond (.tmp 18) .skip (.exit 0))) F60.t8)))) F60.t12))
theorem F60.t4_eq {θ : Tag (F60.t4, Q, e, w)} : cwE P F60.t4 Q e w θ = cwE P (.seq (.region 4 F60.r4.toArray false) (.seq (.seq (.region 5 F60.r5.toArray false) (.block 0 (.loop (.seq (.seq (.region 6 F60.r6.toArray false) (.cond (.tmp 18) .skip (.exit 0))) F60.t8)))) F60.t12)) Q e w := rfl
def F60.code : Cd := (.seq (.region 0 F60.r0.toArray false) (.seq (.region 1 F60.r1.toArray false) (.seq (.seq (.region 2 F60.r2.toArray false) (.cond (.tmp 14) (.seq (.region 3 F60.r3.toArray false) .ret) .skip)) F60.t4)))
theorem F60.calls (hn : args.size ≤ 54) (h : cwE Tryz.prog F60.code (fnP Tryz.prog #[(.tmp 4), (.tmp 5)] R) (entry args) w) : Calls Tryz.prog 60 args w R :=
  calls_of_cwE (types := Tryz.prog.types) follows Tryz.func60 F60.code rfl (by kernel_rfl) hn h

def F61.r0 : List Oper := [
  op 3 (.move (.tmp 0)) 22,
  op 4 (.call ⟨(.builtin .len), #[(.tmp 3)], #[22]⟩) 3,
  op 2 (.assign (.tmp 4)) 3]
def F61.r1 : List Oper := [
  op 5 (.move (.tmp 0)) 22,
  op 6 (.move (.tmp 2)) 3,
  op 7 (.move (.tmp 2)) 3,
  op 8 (.convert 3 122 (.tmp 7)) 122,
  oc 9 (.call ⟨(.value (.func 87)), #[(.tmp 8)], #[122]⟩) 3,
  oc 10 (.call ⟨(.value (.func 86)), #[(.tmp 5), (.const (.int .i64 0)), (.tmp 6), (.tmp 9)], #[22, 3, 3, 3]⟩) 0]
def F61.code : Cd := (.seq (.region 0 F61.r0.toArray false) (.region 1 F61.r1.toArray false))
theorem F61.calls (hn : args.size ≤ 11) (h : cwE Tryz.prog F61.code (fnP Tryz.prog #[] R) (entry args) w) : Calls Tryz.prog 61 args w R :=
  calls_of_cwE (types := Tryz.prog.types) follows Tryz.func61 F61.code rfl (by kernel_rfl) hn h

def F62.r0 : List Oper := [
  oc 4 (.call ⟨(.builtin .recover), #[], #[]⟩) 20,
  op 1 (.assign (.tmp 4)) 20]
def F62.r1 : List Oper := [
  op 5 (.move (.tmp 1)) 20,
  op 6 (.binOp .neq 20 (.tmp 5) (.const .nilIface) 20) 4]
def F62.r2 : List Oper := [
  op 8 (.move (.tmp 1)) 20,
  od 9 (.typeAssert (.tmp 8) 20 104 true) 105,
  op 7 (.move (.tmp 9)) 105,
  op 10 (.extract (.tmp 7) 0) 104,
  op 11 (.extract (.tmp 7) 1) 4,
  oc 2 (.alloc 104) 0,
  ⟨none, (.store 104 (.tmp 2) (.tmp 10)), 0, "", #[⟨0, .chain⟩], none⟩,
  op 3 (.assign (.tmp 11)) 4]
def F62.r3 : List Oper := [
  op 12 (.move (.tmp 3)) 4,
  op 13 (.unOp .not 4 (.tmp 12)) 4]
def F62.r4 : List Oper := [
  op 14 (.move (.tmp 1)) 20,
  ⟨none, (.panic (.tmp 14)), 0, "", #[⟨0, .chain⟩], none⟩]
def F62.r5 : List Oper := [
  op 15 (.fieldAddr 104 (.tmp 2) 0) 0,
  od 16 (.load 26 (.tmp 15)) 26,
  ⟨none, (.store 26 (.tmp 0) (.tmp 16)), 0, "", #[⟨0, .chain⟩], none⟩]
def F62.t5 : Cd := (.region 5 F62.r5.toArray false)
theorem F62.t5_eq {θ : Tag (F62.t5, Q, e, w)} : cwE P F62.t5 Q e w θ = cwE P (.region 5 F62.r5.toArray false) Q e w := rfl
def F62.code : Cd := (.seq (.region 0 F62.r0.toArray false) (.seq (.region 1 F62.r1.toArray false) (.cond (.tmp 6) (.seq (.region 2 F62.r2.toArray false) (.seq (.seq (.region 3 F62.r3.toArray false) (.cond (.tmp 13) (.region 4 F62.r4.toArray false) .skip)) F62.t5)) .skip)))
theorem F62.calls (hn : args.size ≤ 17) (h : cwE Tryz.prog F62.code (fnP Tryz.prog #[] R) (entry args) w) : Calls Tryz.prog 62 args w R :=
  calls_of_cwE (types := Tryz.prog.types) follows Tryz.func62 F62.code rfl (by kernel_rfl) hn h

def F64.r0 : List Oper := [
  op 4 (.assign (.const (.bool false))) 4]
def F64.r1 : List Oper := [
  op 5 (.move (.tmp 0)) 22,
  op 6 (.move (.tmp 1)) 9,
  oc 7 (.call ⟨(.value (.func 91)), #[(.tmp 5), (.tmp 6)], #[22, 9]⟩) 3,
  op 8 (.binOp .geq 3 (.tmp 7) (.const (.int .i64 0)) 3) 4,
  op 4 (.assign (.tmp 8)) 4]
def F64.code : Cd := (.seq (.region 0 F64.r0.toArray false) (.seq (.region 1 F64.r1.toArray false) .ret))
theorem F64.calls (hn : args.size ≤ 9) (h : cwE Tryz.prog F64.code (fnP Tryz.prog #[(.tmp 4)] R) (entry args) w) : Calls Tryz.prog 64 args w R :=
  calls_of_cwE (types := Tryz.prog.types) follows Tryz.func64 F64.code rfl (by kernel_rfl) hn h

def F65.r0 : List Oper := [
  op 4 (.assign (.const (.bool false))) 4]
def F65.r1 : List Oper := [
  op 5 (.assign (.const (.int .i64 0))) 3]
def F65.r2 : List Oper := [
  op 6 (.move (.tmp 5)) 3,
  op 7 (.move (.tmp 0)) 22,
  op 8 (.call ⟨(.builtin .len), #[(.tmp 7)], #[22]⟩) 3,
  op 9 (.binOp .lss 3 (.tmp 6) (.tmp 8) 3) 4]
def F65.r4 : List Oper := [
  op 12 (.move (.tmp 0)) 22,
  op 13 (.move (.tmp 5)) 3,
  op 14 (.indexAddr 22 (.tmp 12) (.tmp 13)) 0,
  od 15 (.load 9 (.tmp 14)) 9,
  op 16 (.move (.tmp 1)) 9,
  op 17 (.binOp .eql 9 (.tmp 15) (.tmp 16) 9) 4]
def F65.r5 : List Oper := [
  op 4 (.assign (.const (.bool true))) 4]
def F65.r3 : List Oper := [
  op 10 (.move (.tmp 5)) 3,
  op 11 (.binOp .add 3 (.tmp 10) (.const (.int .i64 1)) 3) 3,
  op 5 (.assign (.tmp 11)) 3]
def F65.r6 : List Oper := [
  op 4 (.assign (.const (.bool false))) 4]
def F65.t3 : Cd := (.region 3 F65.r3.toArray false)
theorem F65.t3_eq {θ : Tag (F65.t3, Q, e, w)} : cwE P F65.t3 Q e w θ = cwE P (.region 3 F65.r3.toArray false) Q e w := rfl
def F65.t4 : Cd := (.seq (.block 1 (.seq (.region 4 F65.r4.toArray false) (.cond (.tmp 17) (.seq (.region 5 F65.r5.toArray false) .ret) .skip))) F65.t3)
theorem F65.t4_eq {θ : Tag (F65.t4, Q, e, w)} : cwE P F65.t4 Q e w θ = cwE P (.seq (.block 1 (.seq (.region 4 F65.r4.toArray false) (.cond (.tmp 17) (.seq (.region 5 F65.r5.toArray false) .ret) .skip))) F65.t3) Q e w := rfl
def F65.t6 : Cd := (.seq (.region 6 F65.r6.toArray false) .ret)
theorem F65.t6_eq {θ : Tag (F65.t6, Q, e, w)} : cwE P F65.t6 Q e w θ = cwE P (.seq (.region 6 F65.r6.toArray false) .ret) Q e w := rfl
def F65.code : Cd := (.seq (.region 0 F65.r0.toArray false) (.seq (.seq (.region 1 F65.r1.toArray false) (.block 0 (.loop (.seq (.seq (.region 2 F65.r2.toArray false) (.cond (.tmp 9) .skip (.exit 0))) F65.t4)))) F65.t6))
theorem F65.calls (hn : args.size ≤ 18) (h : cwE Tryz.prog F65.code (fnP Tryz.prog #[(.tmp 4)] R) (entry args) w) : Calls Tryz.prog 65 args w R :=
  calls_of_cwE (types := Tryz.prog.types) follows Tryz.func65 F65.code rfl (by kernel_rfl) hn h

def F66.r0 : List Oper := [
  oc 1 (.box 72 (.tmp 0)) 0,
  op 2 (.assign (.const (.string { data := #[] }))) 9]
def F66.r1 : List Oper := [
  op 5 (.fieldAddr 72 (.tmp 1) 0) 0,
  od 6 (.load 9 (.tmp 5)) 9,
  op 7 (.binOp .add 9 (.tmp 6) (.const (.string { data := #[58] })) 9) 9,
  op 8 (.fieldAddr 72 (.tmp 1) 1) 0,
  od 9 (.load 9 (.tmp 8)) 9,
  op 10 (.binOp .add 9 (.tmp 7) (.tmp 9) 9) 9,
  op 11 (.binOp .add 9 (.tmp 10) (.const (.string { data := #[58] })) 9) 9,
  op 3 (.assign (.tmp 11)) 9]
def F66.r2 : List Oper := [
  op 4 (.assign (.const (.int .i64 0))) 3]
def F66.r3 : List Oper := [
  op 12 (.move (.tmp 4)) 3,
  op 13 (.fieldAddr 72 (.tmp 1) 2) 0,
  od 14 (.load 22 (.tmp 13)) 22,
  op 15 (.call ⟨(.builtin .len), #[(.tmp 14)], #[22]⟩) 3,
  op 16 (.binOp .lss 3 (.tmp 12) (.tmp 15) 3) 4]
def F66.r5 : List Oper := [
  op 19 (.move (.tmp 4)) 3,
  op 20 (.binOp .gtr 3 (.tmp 19) (.const (.int .i64 0)) 3) 4]
def F66.r6 : List Oper := [
  op 21 (.move (.tmp 3)) 9,
  op 22 (.binOp .add 9 (.tmp 21) (.const (.string { data := #[44] })) 9) 9,
  op 3 (.assign (.tmp 22)) 9]
def F66.r7 : List Oper := [
  op 23 (.move (.tmp 3)) 9,
  op 24 (.fieldAddr 72 (.tmp 1) 2) 0,
  od 25 (.load 22 (.tmp 24)) 22,
  op 26 (.move (.tmp 4)) 3,
  op 27 (.indexAddr 22 (.tmp 25) (.tmp 26)) 0,
  od 28 (.load 9 (.tmp 27)) 9,
  op 29 (.binOp .add 9 (.tmp 23) (.tmp 28) 9) 9,
  op 3 (.assign (.tmp 29)) 9]
def F66.r4 : List Oper := [
  op 17 (.move (.tmp 4)) 3,
  op 18 (.binOp .add 3 (.tmp 17) (.const (.int .i64 1)) 3) 3,
  op 4 (.assign (.tmp 18)) 3]
def F66.r8 : List Oper := [
  op 30 (.move (.tmp 3)) 9,
  op 31 (.binOp .add 9 (.tmp 30) (.const (.string { data := #[58] })) 9) 9,
  op 32 (.fieldAddr 72 (.tmp 1) 3) 0,
  od 33 (.load 9 (.tmp 32)) 9,
  op 34 (.binOp .add 9 (.tmp 31) (.tmp 33) 9) 9,
  op 35 (.binOp .add 9 (.tmp 34) (.const (.string { data := #[10] })) 9) 9,
  op 2 (.assign (.tmp 35)) 9]
def F66.t7 : Cd := (.region 7 F66.r7.toArray false)
theorem F66.t7_eq {θ : Tag (F66.t7, Q, e, w)} : cwE P F66.t7 Q e w θ = cwE P (.region 7 F66.r7.toArray false) Q e w := rfl
def F66.t4 : Cd := (.region 4 F66.r4.toArray false)
theorem F66.t4_eq {θ : Tag (F66.t4, Q, e, w)} : cwE P F66.t4 Q e w θ = cwE P (.region 4 F66.r4.toArray false) Q e w := rfl
def F66.t5 : Cd := (.seq (.block 1 (.seq (.seq (.region 5 F66.r5.toArray false) (.cond (.tmp 20) (.region 6 F66.r6.toArray false) .skip)) F66.t7)) F66.t4)
theorem F66.t5_eq {θ : Tag (F66.t5, Q, e, w)} : cwE P F66.t5 Q e w θ = cwE P (.seq (.block 1 (.seq (.seq (.region 5 F66.r5.toArray false) (.cond (.tmp 20) (.region 6 F66.r6.toArray false) .skip)) F66.t7)) F66.t4) Q e w := rfl
def F66.t8 : Cd := (.seq (.region 8 F66.r8.toArray false) .ret)
theorem F66.t8_eq {θ : Tag (F66.t8, Q, e, w)} : cwE P F66.t8 Q e w θ = cwE P (.seq (.region 8 F66.r8.toArray false) .ret) Q e w := rfl
def F66.code : Cd := (.seq (.region 0 F66.r0.toArray false) (.seq (.region 1 F66.r1.toArray false) (.seq (.seq (.region 2 F66.r2.toArray false) (.block 0 (.loop (.seq (.seq (.region 3 F66.r3.toArray false) (.cond (.tmp 16) .skip (.exit 0))) F66.t5)))) F66.t8)))
theorem F66.calls (hn : args.size ≤ 36) (h : cwE Tryz.prog F66.code (fnP Tryz.prog #[(.tmp 2)] R) (entry args) w) : Calls Tryz.prog 66 args w R :=
  calls_of_cwE (types := Tryz.prog.types) follows Tryz.func66 F66.code rfl (by kernel_rfl) hn h

def F67.r0 : List Oper := [
  op 2 (.assign (.const (.slice none 0 0))) 38]
def F67.r1 : List Oper := [
  op 3 (.assign (.const (.slice none 0 0))) 38]
def F67.r2 : List Oper := [
  op 4 (.assign (.const (.int .i64 0))) 3]
def F67.r3 : List Oper := [
  op 7 (.move (.tmp 4)) 3,
  op 8 (.move (.tmp 0)) 38,
  op 9 (.call ⟨(.builtin .len), #[(.tmp 8)], #[38]⟩) 3,
  op 10 (.binOp .lss 3 (.tmp 7) (.tmp 9) 3) 4]
def F67.r5 : List Oper := [
  op 13 (.move (.tmp 0)) 38,
  op 14 (.move (.tmp 4)) 3,
  op 15 (.indexAddr 38 (.tmp 13) (.tmp 14)) 0,
  od 16 (.load 72 (.tmp 15)) 72,
  oc 5 (.alloc 72) 0,
  ⟨none, (.store 72 (.tmp 5) (.tmp 16)), 0, "", #[⟨0, .chain⟩], none⟩]
def F67.r6 : List Oper := [
  op 6 (.assign (.const (.slice none 0 0))) 22]
def F67.r7 : List Oper := [
  op 17 (.move (.tmp 6)) 22,
  op 18 (.move (.tmp 0)) 38,
  op 19 (.move (.tmp 4)) 3,
  op 20 (.indexAddr 38 (.tmp 18) (.tmp 19)) 0,
  op 21 (.fieldAddr 72 (.tmp 20) 2) 0,
  od 22 (.load 22 (.tmp 21)) 22,
  oc 23 (.call ⟨(.builtin .append), #[(.tmp 17), (.tmp 22)], #[22, 22]⟩) 22,
  op 24 (.fieldAddr 72 (.tmp 5) 2) 0,
  ⟨none, (.store 22 (.tmp 24) (.tmp 23)), 0, "", #[⟨0, .chain⟩], none⟩]
def F67.r8 : List Oper := [
  op 25 (.move (.tmp 3)) 38,
  od 26 (.load 72 (.tmp 5)) 72,
  oc 27 (.buildSlice 38 1 #[(0, (.tmp 26))]) 38,
  oc 28 (.call ⟨(.builtin .append), #[(.tmp 25), (.tmp 27)], #[38, 38]⟩) 38,
  op 3 (.assign (.tmp 28)) 38]
def F67.r4 : List Oper := [
  op 11 (.move (.tmp 4)) 3,
  op 12 (.binOp .add 3 (.tmp 11) (.const (.int .i64 1)) 3) 3,
  op 4 (.assign (.tmp 12)) 3]
def F67.r9 : List Oper := [
  op 29 (.move (.tmp 3)) 38,
  op 2 (.assign (.tmp 29)) 38]
def F67.t4 : Cd := (.region 4 F67.r4.toArray false)
theorem F67.t4_eq {θ : Tag (F67.t4, Q, e, w)} : cwE P F67.t4 Q e w θ = cwE P (.region 4 F67.r4.toArray false) Q e w := rfl
def F67.t5 : Cd := (.seq (.block 1 (.seq (.region 5 F67.r5.toArray false) (.seq (.region 6 F67.r6.toArray false) (.seq (.region 7 F67.r7.toArray false) (.region 8 F67.r8.toArray false))))) F67.t4)
theorem F67.t5_eq {θ : Tag (F67.t5, Q, e, w)} : cwE P F67.t5 Q e w θ = cwE P (.seq (.block 1 (.seq (.region 5 F67.r5.toArray false) (.seq (.region 6 F67.r6.toArray false) (.seq (.region 7 F67.r7.toArray false) (.region 8 F67.r8.toArray false))))) F67.t4) Q e w := rfl
def F67.t9 : Cd := (.seq (.region 9 F67.r9.toArray false) .ret)
theorem F67.t9_eq {θ : Tag (F67.t9, Q, e, w)} : cwE P F67.t9 Q e w θ = cwE P (.seq (.region 9 F67.r9.toArray false) .ret) Q e w := rfl
def F67.code : Cd := (.seq (.region 0 F67.r0.toArray false) (.seq (.region 1 F67.r1.toArray false) (.seq (.seq (.region 2 F67.r2.toArray false) (.block 0 (.loop (.seq (.seq (.region 3 F67.r3.toArray false) (.cond (.tmp 10) .skip (.exit 0))) F67.t5)))) F67.t9)))
theorem F67.calls (hn : args.size ≤ 30) (h : cwE Tryz.prog F67.code (fnP Tryz.prog #[(.tmp 2)] R) (entry args) w) : Calls Tryz.prog 67 args w R :=
  calls_of_cwE (types := Tryz.prog.types) follows Tryz.func67 F67.code rfl (by kernel_rfl) hn h

def F68.r0 : List Oper := [
  op 4 (.assign (.const (.slice none 0 0))) 22]
def F68.r1 : List Oper := [
  op 5 (.move (.tmp 4)) 22,
  op 6 (.move (.tmp 1)) 22,
  oc 7 (.call ⟨(.builtin .append), #[(.tmp 5), (.tmp 6)], #[22, 22]⟩) 22,
  op 4 (.assign (.tmp 7)) 22]
def F68.r2 : List Oper := [
  op 8 (.move (.tmp 0)) 32,
  op 9 (.move (.tmp 0)) 32,
  op 10 (.nilCheck (.tmp 9)) 0,
  op 11 (.fieldAddr 35 (.tmp 10) 4) 0,
  od 12 (.load 33 (.tmp 11)) 33,
  op 13 (.move (.tmp 1)) 22,
  oc 14 (.buildSlice 33 1 #[(0, (.tmp 13))]) 33,
  oc 15 (.call ⟨(.builtin .append), #[(.tmp 12), (.tmp 14)], #[33, 33]⟩) 33,
  op 16 (.nilCheck (.tmp 8)) 0,
  op 17 (.fieldAddr 35 (.tmp 16) 4) 0,
  ⟨none, (.store 33 (.tmp 17) (.tmp 15)), 0, "", #[⟨0, .chain⟩], none⟩]
def F68.r3 : List Oper := [
  op 18 (.move (.tmp 0)) 32,
  op 19 (.move (.tmp 0)) 32,
  op 20 (.nilCheck (.tmp 19)) 0,
  op 21 (.fieldAddr 35 (.tmp 20) 5) 0,
  od 22 (.load 33 (.tmp 21)) 33,
  op 23 (.move (.tmp 4)) 22,
  oc 24 (.buildSlice 33 1 #[(0, (.tmp 23))]) 33,
  oc 25 (.call ⟨(.builtin .append), #[(.tmp 22), (.tmp 24)], #[33, 33]⟩) 33,
  op 26 (.nilCheck (.tmp 18)) 0,
  op 27 (.fieldAddr 35 (.tmp 26) 5) 0,
  ⟨none, (.store 33 (.tmp 27) (.tmp 25)), 0, "", #[⟨0, .chain⟩], none⟩]
def F68.code : Cd := (.seq (.region 0 F68.r0.toArray false) (.seq (.region 1 F68.r1.toArray false) (.seq (.region 2 F68.r2.toArray false) (.region 3 F68.r3.toArray false))))
theorem F68.calls (hn : args.size ≤ 28) (h : cwE Tryz.prog F68.code (fnP Tryz.prog #[] R) (entry args) w) : Calls Tryz.prog 68 args w R :=
  calls_of_cwE (types := Tryz.prog.types) follows Tryz.func68 F68.code rfl (by kernel_rfl) hn h

def F69.r0 : List Oper := [
  oc 1 (.box 72 (.tmp 0)) 0,
  oc 2 (.alloc 72) 0]
def F69.r1 : List Oper := [
  op 3 (.assign (.const (.slice none 0 0))) 22]
def F69.r2 : List Oper := [
  op 4 (.move (.tmp 3)) 22,
  op 5 (.fieldAddr 72 (.tmp 1) 2) 0,
  od 6 (.load 22 (.tmp 5)) 22,
  oc 7 (.call ⟨(.builtin .append), #[(.tmp 4), (.tmp 6)], #[22, 22]⟩) 22,
  op 3 (.assign (.tmp 7)) 22]
def F69.r3 : List Oper := [
  op 8 (.move (.tmp 3)) 22,
  op 9 (.fieldAddr 72 (.tmp 1) 2) 0,
  ⟨none, (.store 22 (.tmp 9) (.tmp 8)), 0, "", #[⟨0, .chain⟩], none⟩]
def F69.r4 : List Oper := [
  od 10 (.load 72 (.tmp 1)) 72,
  ⟨none, (.store 72 (.tmp 2) (.tmp 10)), 0, "", #[⟨0, .chain⟩], none⟩]
def F69.code : Cd := (.seq (.region 0 F69.r0.toArray false) (.seq (.region 1 F69.r1.toArray false) (.seq (.region 2 F69.r2.toArray false) (.seq (.region 3 F69.r3.toArray false) (.seq (.region 4 F69.r4.toArray false) .ret)))))
theorem F69.calls (hn : args.size ≤ 11) (h : cwE Tryz.prog F69.code (fnP Tryz.prog #[(.cell 2 72)] R) (entry args) w) : Calls Tryz.prog 69 args w R :=
  calls_of_cwE (types := Tryz.prog.types) follows Tryz.func69 F69.code rfl (by kernel_rfl) hn h

def F70.r0 : List Oper := [
  op 4 (.assign (.const (.int .i64 0))) 3,
  op 5 (.assign (.const .nilIface)) 116]
def F70.r1 : List Oper := [
  op 6 (.move (.tmp 0)) 111,
  oc 7 (.call ⟨(.value (.func 92)), #[(.tmp 6)], #[111]⟩) 0]
def F70.r2 : List Oper := [
  op 8 (.move (.tmp 0)) 111,
  op 9 (.move (.tmp 0)) 111,
  op 10 (.nilCheck (.tmp 9)) 0,
  op 11 (.fieldAddr 114 (.tmp 10) 1) 0,
  od 12 (.load 112 (.tmp 11)) 112,
  op 13 (.move (.tmp 1)) 9,
  oc 14 (.call ⟨(.builtin .append), #[(.tmp 12), (.tmp 13)], #[112, 9]⟩) 112,
  op 15 (.nilCheck (.tmp 8)) 0,
  op 16 (.fieldAddr 114 (.tmp 15) 1) 0,
  ⟨none, (.store 112 (.tmp 16) (.tmp 14)), 0, "", #[⟨0, .chain⟩], none⟩]
def F70.r3 : List Oper := [
  op 17 (.move (.tmp 1)) 9,
  op 18 (.call ⟨(.builtin .len), #[(.tmp 17)], #[9]⟩) 3,
  op 4 (.assign (.tmp 18)) 3,
  op 5 (.assign (.const .nilIface)) 116]
def F70.code : Cd := (.seq (.region 0 F70.r0.toArray false) (.seq (.region 1 F70.r1.toArray false) (.seq (.region 2 F70.r2.toArray false) (.seq (.region 3 F70.r3.toArray false) .ret))))
theorem F70.calls (hn : args.size ≤ 19) (h : cwE Tryz.prog F70.code (fnP Tryz.prog #[(.tmp 4), (.tmp 5)] R) (entry args) w) : Calls Tryz.prog 70 args w R :=
  calls_of_cwE (types := Tryz.prog.types) follows Tryz.func70 F70.code rfl (by kernel_rfl) hn h

def F71.r0 : List Oper := [
  oc 1 (.box 72 (.tmp 0)) 0,
  op 2 (.assign (.const (.string { data := #[] }))) 9]
def F71.r1 : List Oper := [
  ⟨(some 3), (.fieldAddr 72 (.tmp 1) 0), 0, "", #[], none⟩,
  ⟨(some 5), (.fieldAddr 72 (.tmp 1) 1), 0, "", #[], none⟩,
  ⟨(some 7), (.fieldAddr 72 (.tmp 1) 2), 0, "", #[], none⟩,
  ⟨(some 10), (.fieldAddr 72 (.tmp 1) 3), 0, "", #[], none⟩,
  ⟨(some 4), (.load 9 (.tmp 3)), 9, "", #[⟨1536, .data⟩], none⟩,
  ⟨(some 6), (.load 9 (.tmp 5)), 9, "", #[⟨1536, .data⟩], none⟩,
  ⟨(some 8), (.load 22 (.tmp 7)), 22, "", #[⟨1600, .data⟩], none⟩,
  ⟨(some 11), (.load 9 (.tmp 10)), 9, "", #[⟨1536, .data⟩], none⟩,
  ⟨(some 9), (.call ⟨(.value (.func 93)), #[(.tmp 8), (.const (.string { data := #[44] }))], #[22, 9]⟩), 9, "", #[⟨6, .chain⟩], none⟩,
  ⟨(some 12), (.buildSlice 22 4 #[(0, (.tmp 4)), (1, (.tmp 6)), (2, (.tmp 9)), (3, (.tmp 11))]), 22, "", #[⟨9, .chain⟩], none⟩,
  ⟨(some 13), (.call ⟨(.value (.func 93)), #[(.tmp 12), (.const (.string { data := #[58] }))], #[22, 9]⟩), 9, "", #[⟨10, .chain⟩], none⟩,
  ⟨(some 14), (.binOp .add 9 (.tmp 13) (.const (.string { data := #[10] })) 9), 9, "", #[], none⟩,
  ⟨(some 2), (.assign (.tmp 14)), 9, "", #[], none⟩]
def F71.code : Cd := (.seq (.region 0 F71.r0.toArray false) (.seq (.region 1 F71.r1.toArray true) .ret))
theorem F71.calls (hn : args.size ≤ 15) (h : cwE Tryz.prog F71.code (fnP Tryz.prog #[(.tmp 2)] R) (entry args) w) : Calls Tryz.prog 71 args w R :=
  calls_of_cwE (types := Tryz.prog.types) follows Tryz.func71 F71.code rfl (by kernel_rfl) hn h

def F72.r0 : List Oper := [
  op 2 (.assign (.const (.string { data := #[] }))) 9]
def F72.r1 : List Oper := [
  ⟨(some 3), (.move (.tmp 0)), 111, "", #[], none⟩,
  ⟨(some 4), (.nilCheck (.tmp 3)), 0, "", #[], none⟩,
  ⟨(some 5), (.fieldAddr 114 (.tmp 4) 1), 0, "", #[], none⟩,
  ⟨(some 8), (.move (.tmp 0)), 111, "", #[], none⟩,
  ⟨(some 9), (.nilCheck (.tmp 8)), 0, "", #[], none⟩,
  ⟨(some 10), (.fieldAddr 114 (.tmp 9) 1), 0, "", #[], none⟩,
  ⟨(some 6), (.load 112 (.tmp 5)), 112, "", #[⟨1040, .data⟩], none⟩,
  ⟨(some 11), (.load 112 (.tmp 10)), 112, "", #[⟨1024, .data⟩], none⟩,
  ⟨(some 12), (.call ⟨(.builtin .len), #[(.tmp 11)], #[112]⟩), 3, "", #[], none⟩,
  ⟨(some 7), (.call ⟨(.builtin .unsafeSliceData), #[(.tmp 6)], #[112]⟩), 127, "", #[⟨4, .chain⟩], none⟩,
  ⟨(some 13), (.call ⟨(.builtin .unsafeString), #[(.tmp 7), (.tmp 12)], #[127, 3]⟩), 9, "", #[⟨10, .chain⟩], none⟩,
  ⟨(some 2), (.assign (.tmp 13)), 9, "", #[], none⟩]
def F72.code : Cd := (.seq (.region 0 F72.r0.toArray false) (.seq (.region 1 F72.r1.toArray true) .ret))
theorem F72.calls (hn : args.size ≤ 14) (h : cwE Tryz.prog F72.code (fnP Tryz.prog #[(.tmp 2)] R) (entry args) w) : Calls Tryz.prog 72 args w R :=
  calls_of_cwE (types := Tryz.prog.types) follows Tryz.func72 F72.code rfl (by kernel_rfl) hn h

def F73.r0 : List Oper := [
  op 4 (.assign (.const (.slice none 0 0))) 22]
def F73.r1 : List Oper := [
  op 10 (.move (.tmp 0)) 29,
  op 11 (.nilCheck (.tmp 10)) 0,
  op 12 (.fieldAddr 84 (.tmp 11) 0) 0,
  od 13 (.load 38 (.tmp 12)) 38,
  op 14 (.move (.tmp 1)) 9,
  oc 15 (.call ⟨(.value (.func 38)), #[(.tmp 13), (.tmp 14)], #[38, 9]⟩) 3,
  op 16 (.binOp .lss 3 (.tmp 15) (.const (.int .i64 0)) 3) 4]
def F73.r2 : List Oper := [
  op 4 (.assign (.const (.slice none 0 0))) 22]
def F73.r3 : List Oper := [
  op 5 (.assign (.const (.slice none 0 0))) 22]
def F73.r4 : List Oper := [
  op 6 (.assign (.const (.int .i64 0))) 3]
def F73.r5 : List Oper := [
  op 17 (.move (.tmp 6)) 3,
  op 18 (.move (.tmp 0)) 29,
  op 19 (.nilCheck (.tmp 18)) 0,
  op 20 (.fieldAddr 84 (.tmp 19) 0) 0,
  od 21 (.load 38 (.tmp 20)) 38,
  op 22 (.call ⟨(.builtin .len), #[(.tmp 21)], #[38]⟩) 3,
  op 23 (.binOp .lss 3 (.tmp 17) (.tmp 22) 3) 4]
def F73.r7 : List Oper := [
  op 26 (.move (.tmp 0)) 29,
  op 27 (.nilCheck (.tmp 26)) 0,
  op 28 (.fieldAddr 84 (.tmp 27) 0) 0,
  od 29 (.load 38 (.tmp 28)) 38,
  op 30 (.move (.tmp 6)) 3,
  op 31 (.indexAddr 38 (.tmp 29) (.tmp 30)) 0,
  op 32 (.fieldAddr 72 (.tmp 31) 0) 0,
  od 33 (.load 9 (.tmp 32)) 9,
  op 7 (.assign (.tmp 33)) 9]
def F73.r8 : List Oper := [
  op 34 (.move (.tmp 7)) 9,
  op 35 (.move (.tmp 1)) 9,
  op 36 (.binOp .neq 9 (.tmp 34) (.tmp 35) 9) 4,
  op 37 (.move (.tmp 36)) 4,
  ⟨(some 38), (.move (.tmp 0)), 29, "", #[], (some (37, true))⟩,
  ⟨(some 39), (.nilCheck (.tmp 38)), 0, "", #[], (some (37, true))⟩,
  ⟨(some 40), (.fieldAddr 84 (.tmp 39) 0), 0, "", #[], (some (37, true))⟩,
  ⟨(some 41), (.load 38 (.tmp 40)), 38, "", #[⟨0, .data⟩], (some (37, true))⟩,
  ⟨(some 42), (.move (.tmp 6)), 3, "", #[], (some (37, true))⟩,
  ⟨(some 43), (.indexAddr 38 (.tmp 41) (.tmp 42)), 0, "", #[], (some (37, true))⟩,
  ⟨(some 44), (.fieldAddr 72 (.tmp 43) 2), 0, "", #[], (some (37, true))⟩,
  ⟨(some 45), (.load 22 (.tmp 44)), 22, "", #[⟨0, .data⟩], (some (37, true))⟩,
  ⟨(some 46), (.move (.tmp 1)), 9, "", #[], (some (37, true))⟩,
  ⟨(some 47), (.call ⟨(.value (.func 65)), #[(.tmp 45), (.tmp 46)], #[22, 9]⟩), 4, "", #[⟨0, .chain⟩], (some (37, true))⟩,
  ⟨(some 48), (.unOp .not 4 (.tmp 47)), 4, "", #[], (some (37, true))⟩,
  op 49 (.pick (.tmp 37) (.tmp 48) (.const (.bool false))) 4]
def F73.r9 : List Oper := [
  op 50 (.move (.tmp 5)) 22,
  op 51 (.move (.tmp 7)) 9,
  oc 52 (.buildSlice 22 1 #[(0, (.tmp 51))]) 22,
  oc 53 (.call ⟨(.builtin .append), #[(.tmp 50), (.tmp 52)], #[22, 22]⟩) 22,
  op 5 (.assign (.tmp 53)) 22]
def F73.r10 : List Oper := [
  op 54 (.move (.tmp 5)) 22,
  op 55 (.call ⟨(.builtin .len), #[(.tmp 54)], #[22]⟩) 3,
  op 56 (.binOp .sub 3 (.tmp 55) (.const (.int .i64 1)) 3) 3,
  op 8 (.assign (.tmp 56)) 3]
def F73.r11 : List Oper := [
  ⟨(some 57), (.move (.tmp 8)), 3, "", #[], none⟩,
  ⟨(some 58), (.binOp .gtr 3 (.tmp 57) (.const (.int .i64 0)) 3), 4, "", #[], none⟩,
  ⟨(some 59), (.move (.tmp 58)), 4, "", #[], none⟩,
  ⟨(some 60), (.move (.tmp 5)), 22, "", #[], (some (59, true))⟩,
  ⟨(some 61), (.move (.tmp 8)), 3, "", #[], (some (59, true))⟩,
  ⟨(some 62), (.binOp .sub 3 (.tmp 61) (.const (.int .i64 1)) 3), 3, "", #[], (some (59, true))⟩,
  ⟨(some 63), (.indexAddr 22 (.tmp 60) (.tmp 62)), 0, "", #[], (some (59, true))⟩,
  ⟨(some 65), (.move (.tmp 5)), 22, "", #[], (some (59, true))⟩,
  ⟨(some 66), (.move (.tmp 8)), 3, "", #[], (some (59, true))⟩,
  ⟨(some 67), (.indexAddr 22 (.tmp 65) (.tmp 66)), 0, "", #[], (some (59, true))⟩,
  ⟨(some 64), (.load 9 (.tmp 63)), 9, "", #[⟨0, .data⟩], (some (59, true))⟩,
  ⟨(some 68), (.load 9 (.tmp 67)), 9, "", #[⟨0, .data⟩], (some (59, true))⟩,
  ⟨(some 69), (.binOp .gtr 9 (.tmp 64) (.tmp 68) 9), 4, "", #[], (some (59, true))⟩,
  ⟨(some 70), (.pick (.tmp 59) (.tmp 69) (.const (.bool false))), 4, "", #[], none⟩]
def F73.r13 : List Oper := [
  op 73 (.move (.tmp 5)) 22,
  op 74 (.move (.tmp 8)) 3,
  op 75 (.binOp .sub 3 (.tmp 74) (.const (.int .i64 1)) 3) 3,
  op 76 (.indexAddr 22 (.tmp 73) (.tmp 75)) 0,
  od 77 (.load 9 (.tmp 76)) 9,
  op 9 (.assign (.tmp 77)) 9]
def F73.r14 : List Oper := [
  op 78 (.move (.tmp 5)) 22,
  op 79 (.move (.tmp 8)) 3,
  op 80 (.binOp .sub 3 (.tmp 79) (.const (.int .i64 1)) 3) 3,
  op 81 (.move (.tmp 5)) 22,
  op 82 (.move (.tmp 8)) 3,
  op 83 (.indexAddr 22 (.tmp 81) (.tmp 82)) 0,
  od 84 (.load 9 (.tmp 83)) 9,
  op 85 (.indexAddr 22 (.tmp 78) (.tmp 80)) 0,
  ⟨none, (.store 9 (.tmp 85) (.tmp 84)), 0, "", #[⟨0, .chain⟩], none⟩]
def F73.r15 : List Oper := [
  op 86 (.move (.tmp 5)) 22,
  op 87 (.move (.tmp 8)) 3,
  op 88 (.move (.tmp 9)) 9,
  op 89 (.indexAddr 22 (.tmp 86) (.tmp 87)) 0,
  ⟨none, (.store 9 (.tmp 89) (.tmp 88)), 0, "", #[⟨0, .chain⟩], none⟩]
def F73.r12 : List Oper := [
  op 71 (.move (.tmp 8)) 3,
  op 72 (.binOp .sub 3 (.tmp 71) (.const (.int .i64 1)) 3) 3,
  op 8 (.assign (.tmp 72)) 3]
def F73.r6 : List Oper := [
  op 24 (.move (.tmp 6)) 3,
  op 25 (.binOp .add 3 (.tmp 24) (.const (.int .i64 1)) 3) 3,
  op 6 (.assign (.tmp 25)) 3]
def F73.r16 : List Oper := [
  op 90 (.move (.tmp 5)) 22,
  op 4 (.assign (.tmp 90)) 22]
def F73.t12 : Cd := (.region 12 F73.r12.toArray false)
theorem F73.t12_eq {θ : Tag (F73.t12, Q, e, w)} : cwE P F73.t12 Q e w θ = cwE P (.region 12 F73.r12.toArray false) Q e w := rfl
def F73.t13 : Cd := (.seq (.block 3 (.seq (.region 13 F73.r13.toArray false) (.seq (.region 14 F73.r14.toArray false) (.region 15 F73.r15.toArray false)))) F73.t12)
theorem F73.t13_eq {θ : Tag (F73.t13, Q, e, w)} : cwE P F73.t13 Q e w θ = cwE P (.seq (.block 3 (.seq (.region 13 F73.r13.toArray false) (.seq (.region 14 F73.r14.toArray false) (.region 15 F73.r15.toArray false)))) F73.t12) Q e w := rfl
def F73.t9 : Cd := (.seq (.region 9 F73.r9.toArray false) (.seq (.region 10 F73.r10.toArray false) (.block 2 (.loop (.seq (.seq (.region 11 F73.r11.toArray true) (.cond (.tmp 70) .skip (.exit 2))) F73.t13)))))
theorem F73.t9_eq {θ : Tag (F73.t9, Q, e, w)} : cwE P F73.t9 Q e w θ = cwE P (.seq (.region 9 F73.r9.toArray false) (.seq (.region 10 F73.r10.toArray false) (.block 2 (.loop (.seq (.seq (.region 11 F73.r11.toArray true) (.cond (.tmp 70) .skip (.exit 2))) F73.t13))))) Q e w := rfl
def F73.t6 : Cd := (.region 6 F73.r6.toArray false)
theorem F73.t6_eq {θ : Tag (F73.t6, Q, e, w)} : cwE P F73.t6 Q e w θ = cwE P (.region 6 F73.r6.toArray false) Q e w := rfl
def F73.t7 : Cd := (.seq (.block 1 (.seq (.region 7 F73.r7.toArray false) (.seq (.seq (.region 8 F73.r8.toArray false) (.cond (.tmp 49) (.exit 1) .skip)) F73.t9))) F73.t6)
theorem F73.t7_eq {θ : Tag (F73.t7, Q, e, w)} : cwE P F73.t7 Q e w θ = cwE P (.seq (.block 1 (.seq (.region 7 F73.r7.toArray false) (.seq (.seq (.region 8 F73.r8.toArray false) (.cond (.tmp 49) (.exit 1) .skip)) F73.t9))) F73.t6) Q e w := rfl
def F73.t16 : Cd := (.seq (.region 16 F73.r16.toArray false) .ret)
theorem F73.t16_eq {θ : Tag (F73.t16, Q, e, w)} : cwE P F73.t16 Q e w θ = cwE P (.seq (.region 16 F73.r16.toArray false) .ret) Q e w := rfl
def F73.t3 : Cd := (.seq (.region 3 F73.r3.toArray false) (.seq (.seq (.region 4 F73.r4.toArray false) (.block 0 (.loop (.seq (.seq (.region 5 F73.r5.toArray false) (.cond (.tmp 23) .skip (.exit 0))) F73.t7)))) F73.t16))
theorem F73.t3_eq {θ : Tag (F73.t3, Q, e, w)} : cwE P F73.t3 Q e w θ = cwE P (.seq (.region 3 F73.r3.toArray false) (.seq (.seq (.region 4 F73.r4.toArray false) (.block 0 (.loop (.seq (.seq (.region 5 F73.r5.toArray false) (.cond (.tmp 23) .skip (.exit 0))) F73.t7)))) F73.t16)) Q e w := rfl
def F73.code : Cd := (.seq (.region 0 F73.r0.toArray false) (.seq (.seq (.region 1 F73.r1.toArray false) (.cond (.tmp 16) (.seq (.region 2 F73.r2.toArray false) .ret) .skip)) F73.t3))
theorem F73.calls (hn : args.size ≤ 91) (h : cwE Tryz.prog F73.code (fnP Tryz.prog #[(.tmp 4)] R) (entry args) w) : Calls Tryz.prog 73 args w R :=
  calls_of_cwE (types := Tryz.prog.types) follows Tryz.func73 F73.code rfl (by kernel_rfl) hn h

def F74.r0 : List Oper := [
  op 4 (.assign (.const (.bool false))) 4]
def F74.r1 : List Oper := [
  op 5 (.move (.tmp 0)) 29,
  op 6 (.nilCheck (.tmp 5)) 0,
  op 7 (.fieldAddr 84 (.tmp 6) 0) 0,
  od 8 (.load 38 (.tmp 7)) 38,
  op 9 (.move (.tmp 1)) 9,
  oc 10 (.call ⟨(.value (.func 38)), #[(.tmp 8), (.tmp 9)], #[38, 9]⟩) 3,
  op 11 (.binOp .geq 3 (.tmp 10) (.const (.int .i64 0)) 3) 4,
  op 4 (.assign (.tmp 11)) 4]
def F74.code : Cd := (.seq (.region 0 F74.r0.toArray false) (.seq (.region 1 F74.r1.toArray false) .ret))
theorem F74.calls (hn : args.size ≤ 12) (h : cwE Tryz.prog F74.code (fnP Tryz.prog #[(.tmp 4)] R) (entry args) w) : Calls Tryz.prog 74 args w R :=
  calls_of_cwE (types := Tryz.prog.types) follows Tryz.func74 F74.code rfl (by kernel_rfl) hn h

def F75.r0 : List Oper := [
  op 4 (.assign (.const (.string { data := #[] }))) 9]
def F75.r1 : List Oper := [
  op 6 (.move (.tmp 0)) 29,
  op 7 (.nilCheck (.tmp 6)) 0,
  op 8 (.fieldAddr 84 (.tmp 7) 0) 0,
  od 9 (.load 38 (.tmp 8)) 38,
  op 10 (.move (.tmp 1)) 9,
  oc 11 (.call ⟨(.value (.func 38)), #[(.tmp 9), (.tmp 10)], #[38, 9]⟩) 3,
  op 5 (.assign (.tmp 11)) 3]
def F75.r2 : List Oper := [
  op 12 (.move (.tmp 5)) 3,
  op 13 (.binOp .lss 3 (.tmp 12) (.const (.int .i64 0)) 3) 4]
def F75.r3 : List Oper := [
  op 4 (.assign (.const (.string { data := #[] }))) 9]
def F75.r4 : List Oper := [
  op 14 (.move (.tmp 0)) 29,
  op 15 (.nilCheck (.tmp 14)) 0,
  op 16 (.fieldAddr 84 (.tmp 15) 0) 0,
  od 17 (.load 38 (.tmp 16)) 38,
  op 18 (.move (.tmp 5)) 3,
  op 19 (.indexAddr 38 (.tmp 17) (.tmp 18)) 0,
  op 20 (.fieldAddr 72 (.tmp 19) 3) 0,
  od 21 (.load 9 (.tmp 20)) 9,
  op 4 (.assign (.tmp 21)) 9]
def F75.t4 : Cd := (.seq (.region 4 F75.r4.toArray false) .ret)
theorem F75.t4_eq {θ : Tag (F75.t4, Q, e, w)} : cwE P F75.t4 Q e w θ = cwE P (.seq (.region 4 F75.r4.toArray false) .ret) Q e w := rfl
def F75.code : Cd := (.seq (.region 0 F75.r0.toArray false) (.seq (.region 1 F75.r1.toArray false) (.seq (.seq (.region 2 F75.r2.toArray false) (.cond (.tmp 13) (.seq (.region 3 F75.r3.toArray false) .ret) .skip)) F75.t4)))
theorem F75.calls (hn : args.size ≤ 22) (h : cwE Tryz.prog F75.code (fnP Tryz.prog #[(.tmp 4)] R) (entry args) w) : Calls Tryz.prog 75 args w R :=
  calls_of_cwE (types := Tryz.prog.types) follows Tryz.func75 F75.code rfl (by kernel_rfl) hn h

def F76.r0 : List Oper := [
  op 6 (.assign (.const (.bool false))) 4]
def F76.r1 : List Oper := [
  op 9 (.move (.tmp 0)) 29,
  op 10 (.nilCheck (.tmp 9)) 0,
  op 11 (.fieldAddr 84 (.tmp 10) 0) 0,
  od 12 (.load 38 (.tmp 11)) 38,
  op 13 (.move (.tmp 1)) 9,
  oc 14 (.call ⟨(.value (.func 38)), #[(.tmp 12), (.tmp 13)], #[38, 9]⟩) 3,
  op 7 (.assign (.tmp 14)) 3]
def F76.r2 : List Oper := [
  op 15 (.move (.tmp 0)) 29,
  op 16 (.nilCheck (.tmp 15)) 0,
  op 17 (.fieldAddr 84 (.tmp 16) 0) 0,
  od 18 (.load 38 (.tmp 17)) 38,
  op 19 (.move (.tmp 2)) 9,
  oc 20 (.call ⟨(.value (.func 38)), #[(.tmp 18), (.tmp 19)], #[38, 9]⟩) 3,
  op 8 (.assign (.tmp 20)) 3]
def F76.r3 : List Oper := [
  op 21 (.move (.tmp 7)) 3,
  op 22 (.binOp .lss 3 (.tmp 21) (.const (.int .i64 0)) 3) 4,
  op 23 (.move (.tmp 22)) 4,
  ⟨(some 24), (.move (.tmp 8)), 3, "", #[], (some (23, false))⟩,
  ⟨(some 25), (.binOp .lss 3 (.tmp 24) (.const (.int .i64 0)) 3), 4, "", #[], (some (23, false))⟩,
  op 26 (.pick (.tmp 23) (.const (.bool true)) (.tmp 25)) 4]
def F76.r4 : List Oper := [
  op 6 (.assign (.const (.bool false))) 4]
def F76.r5 : List Oper := [
  op 27 (.move (.tmp 7)) 3,
  op 28 (.move (.tmp 8)) 3,
  op 29 (.binOp .eql 3 (.tmp 27) (.tmp 28) 3) 4,
  op 30 (.move (.tmp 29)) 4,
  ⟨(some 31), (.move (.tmp 0)), 29, "", #[], (some (30, false))⟩,
  ⟨(some 32), (.nilCheck (.tmp 31)), 0, "", #[], (some (30, false))⟩,
  ⟨(some 33), (.fieldAddr 84 (.tmp 32) 0), 0, "", #[], (some (30, false))⟩,
  ⟨(some 34), (.load 38 (.tmp 33)), 38, "", #[⟨0, .data⟩], (some (30, false))⟩,
  ⟨(some 35), (.move (.tmp 8)), 3, "", #[], (some (30, false))⟩,
  ⟨(some 36), (.indexAddr 38 (.tmp 34) (.tmp 35)), 0, "", #[], (some (30, false))⟩,
  ⟨(some 37), (.fieldAddr 72 (.tmp 36) 2), 0, "", #[], (some (30, false))⟩,
  ⟨(some 38), (.load 22 (.tmp 37)), 22, "", #[⟨0, .data⟩], (some (30, false))⟩,
  ⟨(some 39), (.move (.tmp 1)), 9, "", #[], (some (30, false))⟩,
  ⟨(some 40), (.call ⟨(.value (.func 65)), #[(.tmp 38), (.tmp 39)], #[22, 9]⟩), 4, "", #[⟨0, .chain⟩], (some (30, false))⟩,
  op 41 (.pick (.tmp 30) (.const (.bool true)) (.tmp 40)) 4,
  op 6 (.assign (.tmp 41)) 4]
def F76.t5 : Cd := (.seq (.region 5 F76.r5.toArray false) .ret)
theorem F76.t5_eq {θ : Tag (F76.t5, Q, e, w)} : cwE P F76.t5 Q e w θ = cwE P (.seq (.region 5 F76.r5.toArray false) .ret) Q e w := rfl
def F76.code : Cd := (.seq (.region 0 F76.r0.toArray false) (.seq (.region 1 F76.r1.toArray false) (.seq (.region 2 F76.r2.toArray false) (.seq (.seq (.region 3 F76.r3.toArray false) (.cond (.tmp 26) (.seq (.region 4 F76.r4.toArray false) .ret) .skip)) F76.t5))))
theorem F76.calls (hn : args.size ≤ 42) (h : cwE Tryz.prog F76.code (fnP Tryz.prog #[(.tmp 6)] R) (entry args) w) : Calls Tryz.prog 76 args w R :=
  calls_of_cwE (types := Tryz.prog.types) follows Tryz.func76 F76.code rfl (by kernel_rfl) hn h

def F77.r0 : List Oper := [
  op 6 (.assign (.const (.bool false))) 4]
def F77.r1 : List Oper := [
  op 9 (.move (.tmp 0)) 29,
  op 10 (.nilCheck (.tmp 9)) 0,
  op 11 (.fieldAddr 84 (.tmp 10) 0) 0,
  od 12 (.load 38 (.tmp 11)) 38,
  op 13 (.move (.tmp 1)) 9,
  oc 14 (.call ⟨(.value (.func 38)), #[(.tmp 12), (.tmp 13)], #[38, 9]⟩) 3,
  op 7 (.assign (.tmp 14)) 3]
def F77.r2 : List Oper := [
  op 15 (.move (.tmp 0)) 29,
  op 16 (.nilCheck (.tmp 15)) 0,
  op 17 (.fieldAddr 84 (.tmp 16) 0) 0,
  od 18 (.load 38 (.tmp 17)) 38,
  op 19 (.move (.tmp 2)) 9,
  oc 20 (.call ⟨(.value (.func 38)), #[(.tmp 18), (.tmp 19)], #[38, 9]⟩) 3,
  op 8 (.assign (.tmp 20)) 3]
def F77.r3 : List Oper := [
  op 21 (.move (.tmp 7)) 3,
  op 22 (.binOp .lss 3 (.tmp 21) (.const (.int .i64 0)) 3) 4,
  op 23 (.move (.tmp 22)) 4,
  ⟨(some 24), (.move (.tmp 8)), 3, "", #[], (some (23, false))⟩,
  ⟨(some 25), (.binOp .lss 3 (.tmp 24) (.const (.int .i64 0)) 3), 4, "", #[], (some (23, false))⟩,
  op 26 (.pick (.tmp 23) (.const (.bool true)) (.tmp 25)) 4]
def F77.r4 : List Oper := [
  op 6 (.assign (.const (.bool false))) 4]
def F77.r5 : List Oper := [
  op 27 (.move (.tmp 0)) 29,
  op 28 (.nilCheck (.tmp 27)) 0,
  op 29 (.fieldAddr 84 (.tmp 28) 0) 0,
  od 30 (.load 38 (.tmp 29)) 38,
  op 31 (.move (.tmp 8)) 3,
  op 32 (.indexAddr 38 (.tmp 30) (.tmp 31)) 0,
  op 33 (.fieldAddr 72 (.tmp 32) 1) 0,
  od 34 (.load 9 (.tmp 33)) 9,
  op 35 (.binOp .neq 9 (.tmp 34) (.const (.string { data := #[] })) 9) 4]
def F77.r6 : List Oper := [
  op 36 (.move (.tmp 0)) 29,
  op 37 (.nilCheck (.tmp 36)) 0,
  op 38 (.fieldAddr 84 (.tmp 37) 0) 0,
  od 39 (.load 38 (.tmp 38)) 38,
  op 40 (.move (.tmp 8)) 3,
  op 41 (.indexAddr 38 (.tmp 39) (.tmp 40)) 0,
  op 42 (.fieldAddr 72 (.tmp 41) 1) 0,
  od 43 (.load 9 (.tmp 42)) 9,
  op 44 (.move (.tmp 1)) 9,
  op 45 (.binOp .eql 9 (.tmp 43) (.tmp 44) 9) 4,
  op 6 (.assign (.tmp 45)) 4]
def F77.r7 : List Oper := [
  op 46 (.move (.tmp 0)) 29,
  op 47 (.move (.tmp 1)) 9,
  op 48 (.move (.tmp 2)) 9,
  oc 49 (.call ⟨(.value (.func 76)), #[(.tmp 46), (.tmp 47), (.tmp 48)], #[29, 9, 9]⟩) 4,
  op 6 (.assign (.tmp 49)) 4]
def F77.t7 : Cd := (.seq (.region 7 F77.r7.toArray false) .ret)
theorem F77.t7_eq {θ : Tag (F77.t7, Q, e, w)} : cwE P F77.t7 Q e w θ = cwE P (.seq (.region 7 F77.r7.toArray false) .ret) Q e w := rfl
def F77.t5 : Cd := (.seq (.seq (.region 5 F77.r5.toArray false) (.cond (.tmp 35) (.seq (.region 6 F77.r6.toArray false) .ret) .skip)) F77.t7)
theorem F77.t5_eq {θ : Tag (F77.t5, Q, e, w)} : cwE P F77.t5 Q e w θ = cwE P (.seq (.seq (.region 5 F77.r5.toArray false) (.cond (.tmp 35) (.seq (.region 6 F77.r6.toArray false) .ret) .skip)) F77.t7) Q e w := rfl
def F77.code : Cd := (.seq (.region 0 F77.r0.toArray false) (.seq (.region 1 F77.r1.toArray false) (.seq (.region 2 F77.r2.toArray false) (.seq (.seq (.region 3 F77.r3.toArray false) (.cond (.tmp 26) (.seq (.region 4 F77.r4.toArray false) .ret) .skip)) F77.t5))))
theorem F77.calls (hn : args.size ≤ 50) (h : cwE Tryz.prog F77.code (fnP Tryz.prog #[(.tmp 6)] R) (entry args) w) : Calls Tryz.prog 77 args w R :=
  calls_of_cwE (types := Tryz.prog.types) follows Tryz.func77 F77.code rfl (by kernel_rfl) hn h

def F78.r0 : List Oper := [
  op 2 (.assign (.const (.bool false))) 4]
def F78.r1 : List Oper := [
  op 4 (.move (.tmp 0)) 9,
  op 5 (.call ⟨(.builtin .len), #[(.tmp 4)], #[9]⟩) 3,
  op 6 (.move (.const (.int .i64 0))) 3]
def F78.r2 : List Oper := [
  op 7 (.binOp .lss 3 (.tmp 6) (.tmp 5) 3) 4]
def F78.r3 : List Oper := [
  op 8 (.move (.tmp 6)) 3,
  op 3 (.assign (.tmp 8)) 3]
def F78.r4 : List Oper := [
  op 9 (.move (.tmp 0)) 9,
  op 10 (.move (.tmp 3)) 3,
  op 11 (.index 9 (.tmp 9) (.tmp 10)) 5,
  op 12 (.binOp .lss 5 (.tmp 11) (.const (.int .u8 33)) 5) 4,
  op 13 (.move (.tmp 12)) 4,
  ⟨(some 14), (.move (.tmp 0)), 9, "", #[], (some (13, false))⟩,
  ⟨(some 15), (.move (.tmp 3)), 3, "", #[], (some (13, false))⟩,
  ⟨(some 16), (.index 9 (.tmp 14) (.tmp 15)), 5, "", #[], (some (13, false))⟩,
  ⟨(some 17), (.binOp .gtr 5 (.tmp 16) (.const (.int .u8 126)) 5), 4, "", #[], (some (13, false))⟩,
  op 18 (.pick (.tmp 13) (.const (.bool true)) (.tmp 17)) 4,
  op 19 (.move (.tmp 18)) 4,
  ⟨(some 20), (.move (.tmp 0)), 9, "", #[], (some (19, false))⟩,
  ⟨(some 21), (.move (.tmp 3)), 3, "", #[], (some (19, false))⟩,
  ⟨(some 22), (.index 9 (.tmp 20) (.tmp 21)), 5, "", #[], (some (19, false))⟩,
  ⟨(some 23), (.binOp .eql 5 (.tmp 22) (.const (.int .u8 58)) 5), 4, "", #[], (some (19, false))⟩,
  op 24 (.pick (.tmp 19) (.const (.bool true)) (.tmp 23)) 4]
def F78.r5 : List Oper := [
  op 2 (.assign (.const (.bool false))) 4]
def F78.r6 : List Oper := [
  op 25 (.binOp .add 3 (.tmp 6) (.const (.int .i64 1)) 3) 3,
  op 6 (.move (.tmp 25)) 3]
def F78.r7 : List Oper := [
  op 26 (.move (.tmp 0)) 9,
  op 27 (.call ⟨(.builtin .len), #[(.tmp 26)], #[9]⟩) 3,
  op 28 (.binOp .leq 3 (.tmp 27) (.const (.int .i64 32)) 3) 4,
  op 2 (.assign (.tmp 28)) 4]
def F78.t6 : Cd := (.region 6 F78.r6.toArray false)
theorem F78.t6_eq {θ : Tag (F78.t6, Q, e, w)} : cwE P F78.t6 Q e w θ = cwE P (.region 6 F78.r6.toArray false) Q e w := rfl
def F78.t3 : Cd := (.seq (.block 1 (.seq (.region 3 F78.r3.toArray false) (.seq (.region 4 F78.r4.toArray false) (.cond (.tmp 24) (.seq (.region 5 F78.r5.toArray false) .ret) .skip)))) F78.t6)
theorem F78.t3_eq {θ : Tag (F78.t3, Q, e, w)} : cwE P F78.t3 Q e w θ = cwE P (.seq (.block 1 (.seq (.region 3 F78.r3.toArray false) (.seq (.region 4 F78.r4.toArray false) (.cond (.tmp 24) (.seq (.region 5 F78.r5.toArray false) .ret) .skip)))) F78.t6) Q e w := rfl
def F78.t7 : Cd := (.seq (.region 7 F78.r7.toArray false) .ret)
theorem F78.t7_eq {θ : Tag (F78.t7, Q, e, w)} : cwE P F78.t7 Q e w θ = cwE P (.seq (.region 7 F78.r7.toArray false) .ret) Q e w := rfl
def F78.code : Cd := (.seq (.region 0 F78.r0.toArray false) (.seq (.seq (.region 1 F78.r1.toArray false) (.block 0 (.loop (.seq (.region 2 F78.r2.toArray false) (.seq (.cond (.tmp 7) .skip (.exit 0)) F78.t3))))) F78.t7))
theorem F78.calls (hn : args.size ≤ 29) (h : cwE Tryz.prog F78.code (fnP Tryz.prog #[(.tmp 2)] R) (entry args) w) : Calls Tryz.prog 78 args w R :=
  calls_of_cwE (types := Tryz.prog.types) follows Tryz.func78 F78.code rfl (by kernel_rfl) hn h

def F79.r0 : List Oper := [
  op 2 (.assign (.const (.bool false))) 4]
def F79.r1 : List Oper := [
  op 4 (.move (.tmp 0)) 9,
  op 5 (.call ⟨(.builtin .len), #[(.tmp 4)], #[9]⟩) 3,
  op 6 (.binOp .gtr 3 (.tmp 5) (.const (.int .i64 32)) 3) 4]
def F79.r2 : List Oper := [
  op 2 (.assign (.const (.bool false))) 4]
def F79.r3 : List Oper := [
  op 3 (.assign (.const (.int .i64 0))) 3]
def F79.r4 : List Oper := [
  op 7 (.move (.tmp 3)) 3,
  op 8 (.move (.tmp 0)) 9,
  op 9 (.call ⟨(.builtin .len), #[(.tmp 8)], #[9]⟩) 3,
  op 10 (.binOp .lss 3 (.tmp 7) (.tmp 9) 3) 4]
def F79.r6 : List Oper := [
  op 13 (.move (.tmp 0)) 9,
  op 14 (.move (.tmp 3)) 3,
  op 15 (.index 9 (.tmp 13) (.tmp 14)) 5,
  op 16 (.binOp .lss 5 (.tmp 15) (.const (.int .u8 33)) 5) 4,
  op 17 (.move (.tmp 16)) 4,
  ⟨(some 18), (.move (.tmp 0)), 9, "", #[], (some (17, false))⟩,
  ⟨(some 19), (.move (.tmp 3)), 3, "", #[], (some (17, false))⟩,
  ⟨(some 20), (.index 9 (.tmp 18) (.tmp 19)), 5, "", #[], (some (17, false))⟩,
  ⟨(some 21), (.binOp .gtr 5 (.tmp 20) (.const (.int .u8 126)) 5), 4, "", #[], (some (17, false))⟩,
  op 22 (.pick (.tmp 17) (.const (.bool true)) (.tmp 21)) 4,
  op 23 (.move (.tmp 22)) 4,
  ⟨(some 24), (.move (.tmp 0)), 9, "", #[], (some (23, false))⟩,
  ⟨(some 25), (.move (.tmp 3)), 3, "", #[], (some (23, false))⟩,
  ⟨(some 26), (.index 9 (.tmp 24) (.tmp 25)), 5, "", #[], (some (23, false))⟩,
  ⟨(some 27), (.binOp .eql 5 (.tmp 26) (.const (.int .u8 58)) 5), 4, "", #[], (some (23, false))⟩,
  op 28 (.pick (.tmp 23) (.const (.bool true)) (.tmp 27)) 4]
def F79.r7 : List Oper := [
  op 2 (.assign (.const (.bool false))) 4]
def F79.r5 : List Oper := [
  op 11 (.move (.tmp 3)) 3,
  op 12 (.binOp .add 3 (.tmp 11) (.const (.int .i64 1)) 3) 3,
  op 3 (.assign (.tmp 12)) 3]
def F79.r8 : List Oper := [
  op 2 (.assign (.const (.bool true))) 4]
def F79.t5 : Cd := (.region 5 F79.r5.toArray false)
theorem F79.t5_eq {θ : Tag (F79.t5, Q, e, w)} : cwE P F79.t5 Q e w θ = cwE P (.region 5 F79.r5.toArray false) Q e w := rfl
def F79.t6 : Cd := (.seq (.block 1 (.seq (.region 6 F79.r6.toArray false) (.cond (.tmp 28) (.seq (.region 7 F79.r7.toArray false) .ret) .skip))) F79.t5)
theorem F79.t6_eq {θ : Tag (F79.t6, Q, e, w)} : cwE P F79.t6 Q e w θ = cwE P (.seq (.block 1 (.seq (.region 6 F79.r6.toArray false) (.cond (.tmp 28) (.seq (.region 7 F79.r7.toArray false) .ret) .skip))) F79.t5) Q e w := rfl
def F79.t8 : Cd := (.seq (.region 8 F79.r8.toArray false) .ret)
theorem F79.t8_eq {θ : Tag (F79.t8, Q, e, w)} : cwE P F79.t8 Q e w θ = cwE P (.seq (.region 8 F79.r8.toArray false) .ret) Q e w := rfl
def F79.t3 : Cd := (.seq (.seq (.region 3 F79.r3.toArray false) (.block 0 (.loop (.seq (.seq (.region 4 F79.r4.toArray false) (.cond (.tmp 10) .skip (.exit 0))) F79.t6)))) F79.t8)
theorem F79.t3_eq {θ : Tag (F79.t3, Q, e, w)} : cwE P F79.t3 Q e w θ = cwE P (.seq (.seq (.region 3 F79.r3.toArray false) (.block 0 (.loop (.seq (.seq (.region 4 F79.r4.toArray false) (.cond (.tmp 10) .skip (.exit 0))) F79.t6)))) F79.t8) Q e w := rfl
def F79.code : Cd := (.seq (.region 0 F79.r0.toArray false) (.seq (.seq (.region 1 F79.r1.toArray false) (.cond (.tmp 6) (.seq (.region 2 F79.r2.toArray false) .ret) .skip)) F79.t3))
theorem F79.calls (hn : args.size ≤ 29) (h : cwE Tryz.prog F79.code (fnP Tryz.prog #[(.tmp 2)] R) (entry args) w) : Calls Tryz.prog 79 args w R :=
  calls_of_cwE (types := Tryz.prog.types) follows Tryz.func79 F79.code rfl (by kernel_rfl) hn h

end Go.Proofs.YtkijkoakloacoaaGreatDoor

/- The compiled code of the functions, by program (genir.py): each with the theorem that it is what the engine makes of the loaded program's. -/
import Derived.Test.YtacmnfpgimgigaaGreatZ1
import Derived.Test.YtacmnfpgimgigaaGreatZ2
import Derived.Test.YtacmnfpgimgigaaGreatZ3
import Derived.Test.YtacmnfpgimgigaaGreatZ4
import Derived.Test.YtacmnfpgimgigaaGreatZ5
import Derived.Test.YtacmnfpgimgigaaGreatZ6
import Derived.Test.YtacmnfpgimgigaaGreatZ7
import Derived.Test.YtacmnfpgimgigaaGreatZ8
import Derived.Test.YtacmnfpgimgigaaGreatProg
namespace Go.Proofs.YtacmnfpgimgigaaGreat
open Go
set_option maxRecDepth 100000
variable {P : Program} {Q : Post} {e : FA} {w : World} {args : Array Value} {R : Ending → World → Prop}

abbrev op (d : Nat) (o : Op) (T : TypeId) : Oper := ⟨some d, o, T, "", #[], none⟩
abbrev od (d : Nat) (o : Op) (T : TypeId) : Oper := ⟨some d, o, T, "", #[⟨0, .data⟩], none⟩
abbrev oc (d : Nat) (o : Op) (T : TypeId) : Oper := ⟨some d, o, T, "", #[⟨0, .chain⟩], none⟩
theorem follows : Tryz.prog.follows .mixedOrders = true := by kernel_rfl

theorem fact_aggSz_26 : aggSz Tryz.prog 26 = some none := by kernel_rfl
theorem fact_aggSz_28 : aggSz Tryz.prog 28 = some none := by kernel_rfl
theorem fact_aggSz_3 : aggSz Tryz.prog 3 = some none := by kernel_rfl
theorem fact_aggSz_31 : aggSz Tryz.prog 31 = some none := by kernel_rfl
theorem fact_aggSz_32 : aggSz Tryz.prog 32 = some none := by kernel_rfl
theorem fact_aggSz_33 : aggSz Tryz.prog 33 = some none := by kernel_rfl
theorem fact_aggSz_37 : aggSz Tryz.prog 37 = some none := by kernel_rfl
theorem fact_aggSz_38 : aggSz Tryz.prog 38 = some none := by kernel_rfl
theorem fact_aggSz_4 : aggSz Tryz.prog 4 = some none := by kernel_rfl
theorem fact_aggSz_40 : aggSz Tryz.prog 40 = some (some 3) := by kernel_rfl
theorem fact_aggSz_42 : aggSz Tryz.prog 42 = some (some 4) := by kernel_rfl
theorem fact_aggSz_44 : aggSz Tryz.prog 44 = some (some 7) := by kernel_rfl
theorem fact_aggSz_55 : aggSz Tryz.prog 55 = some none := by kernel_rfl
theorem fact_aggSz_56 : aggSz Tryz.prog 56 = some none := by kernel_rfl
theorem fact_aggSz_59 : aggSz Tryz.prog 59 = some none := by kernel_rfl
theorem fact_aggSz_63 : aggSz Tryz.prog 63 = some none := by kernel_rfl
theorem fact_aggSz_71 : aggSz Tryz.prog 71 = some none := by kernel_rfl
theorem fact_aggSz_76 : aggSz Tryz.prog 76 = some (some 2) := by kernel_rfl
theorem fact_aggSz_84 : aggSz Tryz.prog 84 = some (some 5) := by kernel_rfl
theorem fact_bldP_35 : bldP Tryz.prog 35 = some ([.slice none 0 0, .slice none 0 0, .slice none 0 0, .slice none 0 0, .slice none 0 0, .slice none 0 0, .slice none 0 0, .slice none 0 0, .slice none 0 0, .slice none 0 0, .slice none 0 0, .slice none 0 0], some [(0, 1), (1, 1), (2, 1), (3, 1), (4, 1), (5, 1), (6, 1), (7, 1), (8, 1), (9, 1), (10, 1), (11, 1)], 0) := by kernel_rfl
theorem fact_bldP_40 : bldP Tryz.prog 40 = some ([.int .u8 0, .int .i64 0, .int .u64 0], some [(0, 1), (1, 1), (2, 1)], 0) := by kernel_rfl
theorem fact_bldP_42 : bldP Tryz.prog 42 = some ([.int .u8 0, .int .i64 0, .int .u64 0, .bool false], some [(0, 3), (3, 1)], 0) := by kernel_rfl
theorem fact_bldP_44 : bldP Tryz.prog 44 = some ([.int .i64 0, .int .i64 0, .int .i64 0, .int .u8 0, .int .i64 0, .int .u64 0, .bool false], some [(0, 1), (1, 1), (2, 1), (3, 4)], 0) := by kernel_rfl
theorem fact_bldP_58 : bldP Tryz.prog 58 = some ([.map none, .map none], some [(0, 1), (1, 1)], 0) := by kernel_rfl
theorem fact_bldP_61 : bldP Tryz.prog 61 = some ([.slice none 0 0, .slice none 0 0], some [(0, 1), (1, 1)], 0) := by kernel_rfl
theorem fact_bldP_73 : bldP Tryz.prog 73 = some ([.slice none 0 0, .slice none 0 0], some [(0, 1), (1, 1)], 0) := by kernel_rfl
theorem fact_bldP_76 : bldP Tryz.prog 76 = some ([.int .i64 0, .bool false], some [(0, 1), (1, 1)], 0) := by kernel_rfl
theorem fact_bldP_84 : bldP Tryz.prog 84 = some ([.int .i64 0, .int .u8 0, .int .i64 0, .int .u64 0, .bool false], some [(0, 1), (1, 4)], 0) := by kernel_rfl
theorem fact_elemOf_22 : elemOf? Tryz.prog 22 = some (none, 7) := by kernel_rfl
theorem fact_elemOf_24 : elemOf? Tryz.prog 24 = some (none, 1) := by kernel_rfl
theorem fact_elemOf_25 : elemOf? Tryz.prog 25 = some (none, 1) := by kernel_rfl
theorem fact_elemOf_31 : elemOf? Tryz.prog 31 = some (none, 1) := by kernel_rfl
theorem fact_elemOf_32 : elemOf? Tryz.prog 32 = some (none, 1) := by kernel_rfl
theorem fact_elemOf_33 : elemOf? Tryz.prog 33 = some (none, 1) := by kernel_rfl
theorem fact_elemOf_59 : elemOf? Tryz.prog 59 = some (none, 5) := by kernel_rfl
theorem fact_elemOf_63 : elemOf? Tryz.prog 63 = some (none, 4) := by kernel_rfl
theorem fact_elemOf_71 : elemOf? Tryz.prog 71 = some (none, 2) := by kernel_rfl
theorem fact_fieldOff_35_0 : fieldOff Tryz.prog 35 0 = some 0 := by kernel_rfl
theorem fact_fieldOff_35_1 : fieldOff Tryz.prog 35 1 = some 1 := by kernel_rfl
theorem fact_fieldOff_35_10 : fieldOff Tryz.prog 35 10 = some 10 := by kernel_rfl
theorem fact_fieldOff_35_11 : fieldOff Tryz.prog 35 11 = some 11 := by kernel_rfl
theorem fact_fieldOff_35_2 : fieldOff Tryz.prog 35 2 = some 2 := by kernel_rfl
theorem fact_fieldOff_35_3 : fieldOff Tryz.prog 35 3 = some 3 := by kernel_rfl
theorem fact_fieldOff_35_4 : fieldOff Tryz.prog 35 4 = some 4 := by kernel_rfl
theorem fact_fieldOff_35_5 : fieldOff Tryz.prog 35 5 = some 5 := by kernel_rfl
theorem fact_fieldOff_35_6 : fieldOff Tryz.prog 35 6 = some 6 := by kernel_rfl
theorem fact_fieldOff_35_7 : fieldOff Tryz.prog 35 7 = some 7 := by kernel_rfl
theorem fact_fieldOff_35_8 : fieldOff Tryz.prog 35 8 = some 8 := by kernel_rfl
theorem fact_fieldOff_35_9 : fieldOff Tryz.prog 35 9 = some 9 := by kernel_rfl
theorem fact_fieldOff_40_0 : fieldOff Tryz.prog 40 0 = some 0 := by kernel_rfl
theorem fact_fieldOff_40_1 : fieldOff Tryz.prog 40 1 = some 1 := by kernel_rfl
theorem fact_fieldOff_40_2 : fieldOff Tryz.prog 40 2 = some 2 := by kernel_rfl
theorem fact_fieldOff_42_0 : fieldOff Tryz.prog 42 0 = some 0 := by kernel_rfl
theorem fact_fieldOff_42_1 : fieldOff Tryz.prog 42 1 = some 3 := by kernel_rfl
theorem fact_fieldOff_44_0 : fieldOff Tryz.prog 44 0 = some 0 := by kernel_rfl
theorem fact_fieldOff_44_1 : fieldOff Tryz.prog 44 1 = some 1 := by kernel_rfl
theorem fact_fieldOff_44_2 : fieldOff Tryz.prog 44 2 = some 2 := by kernel_rfl
theorem fact_fieldOff_44_3 : fieldOff Tryz.prog 44 3 = some 3 := by kernel_rfl
theorem fact_fieldOff_58_0 : fieldOff Tryz.prog 58 0 = some 0 := by kernel_rfl
theorem fact_fieldOff_58_1 : fieldOff Tryz.prog 58 1 = some 1 := by kernel_rfl
theorem fact_fieldOff_61_0 : fieldOff Tryz.prog 61 0 = some 0 := by kernel_rfl
theorem fact_fieldOff_61_1 : fieldOff Tryz.prog 61 1 = some 1 := by kernel_rfl
theorem fact_fieldOff_73_0 : fieldOff Tryz.prog 73 0 = some 0 := by kernel_rfl
theorem fact_fieldOff_73_1 : fieldOff Tryz.prog 73 1 = some 1 := by kernel_rfl
theorem fact_fieldOff_76_0 : fieldOff Tryz.prog 76 0 = some 0 := by kernel_rfl
theorem fact_fieldOff_76_1 : fieldOff Tryz.prog 76 1 = some 1 := by kernel_rfl
theorem fact_fieldOff_84_0 : fieldOff Tryz.prog 84 0 = some 0 := by kernel_rfl
theorem fact_fieldOff_84_1 : fieldOff Tryz.prog 84 1 = some 1 := by kernel_rfl
theorem fact_flatE_40 : flatE Tryz.prog 40 = some [.int, .int, .int] := by kernel_rfl
theorem fact_flatE_42 : flatE Tryz.prog 42 = some [.int, .int, .int, .bool] := by kernel_rfl
theorem fact_fnOk_10 : fnOk Tryz.prog 10 = true := by kernel_rfl
theorem fact_fnOk_11 : fnOk Tryz.prog 11 = true := by kernel_rfl
theorem fact_fnOk_12 : fnOk Tryz.prog 12 = true := by kernel_rfl
theorem fact_fnOk_13 : fnOk Tryz.prog 13 = true := by kernel_rfl
theorem fact_fnOk_14 : fnOk Tryz.prog 14 = true := by kernel_rfl
theorem fact_fnOk_15 : fnOk Tryz.prog 15 = true := by kernel_rfl
theorem fact_fnOk_16 : fnOk Tryz.prog 16 = true := by kernel_rfl
theorem fact_fnOk_17 : fnOk Tryz.prog 17 = true := by kernel_rfl
theorem fact_fnOk_18 : fnOk Tryz.prog 18 = true := by kernel_rfl
theorem fact_fnOk_19 : fnOk Tryz.prog 19 = true := by kernel_rfl
theorem fact_fnOk_20 : fnOk Tryz.prog 20 = true := by kernel_rfl
theorem fact_fnOk_21 : fnOk Tryz.prog 21 = true := by kernel_rfl
theorem fact_fnOk_22 : fnOk Tryz.prog 22 = true := by kernel_rfl
theorem fact_fnOk_23 : fnOk Tryz.prog 23 = true := by kernel_rfl
theorem fact_fnOk_24 : fnOk Tryz.prog 24 = true := by kernel_rfl
theorem fact_fnOk_25 : fnOk Tryz.prog 25 = true := by kernel_rfl
theorem fact_fnOk_26 : fnOk Tryz.prog 26 = true := by kernel_rfl
theorem fact_fnOk_27 : fnOk Tryz.prog 27 = true := by kernel_rfl
theorem fact_fnOk_28 : fnOk Tryz.prog 28 = true := by kernel_rfl
theorem fact_fnOk_29 : fnOk Tryz.prog 29 = true := by kernel_rfl
theorem fact_fnOk_30 : fnOk Tryz.prog 30 = true := by kernel_rfl
theorem fact_fnOk_31 : fnOk Tryz.prog 31 = true := by kernel_rfl
theorem fact_fnOk_32 : fnOk Tryz.prog 32 = true := by kernel_rfl
theorem fact_fnOk_33 : fnOk Tryz.prog 33 = true := by kernel_rfl
theorem fact_fnOk_34 : fnOk Tryz.prog 34 = true := by kernel_rfl
theorem fact_fnOk_35 : fnOk Tryz.prog 35 = true := by kernel_rfl
theorem fact_fnOk_36 : fnOk Tryz.prog 36 = true := by kernel_rfl
theorem fact_fnOk_37 : fnOk Tryz.prog 37 = true := by kernel_rfl
theorem fact_fnOk_38 : fnOk Tryz.prog 38 = true := by kernel_rfl
theorem fact_fnOk_39 : fnOk Tryz.prog 39 = true := by kernel_rfl
theorem fact_fnOk_4 : fnOk Tryz.prog 4 = true := by kernel_rfl
theorem fact_fnOk_40 : fnOk Tryz.prog 40 = true := by kernel_rfl
theorem fact_fnOk_41 : fnOk Tryz.prog 41 = true := by kernel_rfl
theorem fact_fnOk_42 : fnOk Tryz.prog 42 = true := by kernel_rfl
theorem fact_fnOk_43 : fnOk Tryz.prog 43 = true := by kernel_rfl
theorem fact_fnOk_44 : fnOk Tryz.prog 44 = true := by kernel_rfl
theorem fact_fnOk_45 : fnOk Tryz.prog 45 = true := by kernel_rfl
theorem fact_fnOk_46 : fnOk Tryz.prog 46 = true := by kernel_rfl
theorem fact_fnOk_47 : fnOk Tryz.prog 47 = true := by kernel_rfl
theorem fact_fnOk_48 : fnOk Tryz.prog 48 = true := by kernel_rfl
theorem fact_fnOk_49 : fnOk Tryz.prog 49 = true := by kernel_rfl
theorem fact_fnOk_5 : fnOk Tryz.prog 5 = true := by kernel_rfl
theorem fact_fnOk_50 : fnOk Tryz.prog 50 = true := by kernel_rfl
theorem fact_fnOk_51 : fnOk Tryz.prog 51 = true := by kernel_rfl
theorem fact_fnOk_52 : fnOk Tryz.prog 52 = true := by kernel_rfl
theorem fact_fnOk_54 : fnOk Tryz.prog 54 = true := by kernel_rfl
theorem fact_fnOk_55 : fnOk Tryz.prog 55 = true := by kernel_rfl
theorem fact_fnOk_56 : fnOk Tryz.prog 56 = true := by kernel_rfl
theorem fact_fnOk_57 : fnOk Tryz.prog 57 = true := by kernel_rfl
theorem fact_fnOk_58 : fnOk Tryz.prog 58 = true := by kernel_rfl
theorem fact_fnOk_59 : fnOk Tryz.prog 59 = true := by kernel_rfl
theorem fact_fnOk_6 : fnOk Tryz.prog 6 = true := by kernel_rfl
theorem fact_fnOk_60 : fnOk Tryz.prog 60 = true := by kernel_rfl
theorem fact_fnOk_61 : fnOk Tryz.prog 61 = true := by kernel_rfl
theorem fact_fnOk_62 : fnOk Tryz.prog 62 = true := by kernel_rfl
theorem fact_fnOk_63 : fnOk Tryz.prog 63 = true := by kernel_rfl
theorem fact_fnOk_64 : fnOk Tryz.prog 64 = true := by kernel_rfl
theorem fact_fnOk_65 : fnOk Tryz.prog 65 = true := by kernel_rfl
theorem fact_fnOk_66 : fnOk Tryz.prog 66 = true := by kernel_rfl
theorem fact_fnOk_67 : fnOk Tryz.prog 67 = true := by kernel_rfl
theorem fact_fnOk_68 : fnOk Tryz.prog 68 = true := by kernel_rfl
theorem fact_fnOk_69 : fnOk Tryz.prog 69 = true := by kernel_rfl
theorem fact_fnOk_7 : fnOk Tryz.prog 7 = true := by kernel_rfl
theorem fact_fnOk_70 : fnOk Tryz.prog 70 = true := by kernel_rfl
theorem fact_fnOk_71 : fnOk Tryz.prog 71 = true := by kernel_rfl
theorem fact_fnOk_72 : fnOk Tryz.prog 72 = true := by kernel_rfl
theorem fact_fnOk_73 : fnOk Tryz.prog 73 = true := by kernel_rfl
theorem fact_fnOk_74 : fnOk Tryz.prog 74 = true := by kernel_rfl
theorem fact_fnOk_75 : fnOk Tryz.prog 75 = true := by kernel_rfl
theorem fact_fnOk_8 : fnOk Tryz.prog 8 = true := by kernel_rfl
theorem fact_fnOk_86 : fnOk Tryz.prog 86 = true := by kernel_rfl
theorem fact_fnOk_87 : fnOk Tryz.prog 87 = true := by kernel_rfl
theorem fact_fnOk_88 : fnOk Tryz.prog 88 = true := by kernel_rfl
theorem fact_fnOk_9 : fnOk Tryz.prog 9 = true := by kernel_rfl
theorem fact_fnOk_99 : fnOk Tryz.prog 99 = true := by kernel_rfl
theorem fact_rowTy_24 : rowTy Tryz.prog 24 = some (26, 1, 8, [.pointer none]) := by kernel_rfl
theorem fact_rowTy_25 : rowTy Tryz.prog 25 = some (28, 1, 8, [.pointer none]) := by kernel_rfl
theorem fact_rowTy_31 : rowTy Tryz.prog 31 = some (32, 1, 24, [.slice none 0 0]) := by kernel_rfl
theorem fact_rowTy_32 : rowTy Tryz.prog 32 = some (3, 1, 8, [.int .i64 0]) := by kernel_rfl
theorem fact_rowTy_33 : rowTy Tryz.prog 33 = some (63, 1, 24, [.slice none 0 0]) := by kernel_rfl
theorem fact_rowTy_59 : rowTy Tryz.prog 59 = some (84, 5, 40, [.int .i64 0, .int .u8 0, .int .i64 0, .int .u64 0, .bool false]) := by kernel_rfl
theorem fact_rowTy_63 : rowTy Tryz.prog 63 = some (42, 4, 32, [.int .u8 0, .int .i64 0, .int .u64 0, .bool false]) := by kernel_rfl
theorem fact_rowTy_71 : rowTy Tryz.prog 71 = some (76, 2, 16, [.int .i64 0, .bool false]) := by kernel_rfl
theorem fact_szO_3 : szO Tryz.prog 3 = some 1 := by kernel_rfl
theorem fact_szO_31 : szO Tryz.prog 31 = some 1 := by kernel_rfl
theorem fact_szO_32 : szO Tryz.prog 32 = some 1 := by kernel_rfl
theorem fact_szO_33 : szO Tryz.prog 33 = some 1 := by kernel_rfl
theorem fact_szO_38 : szO Tryz.prog 38 = some 1 := by kernel_rfl
theorem fact_szO_40 : szO Tryz.prog 40 = some 3 := by kernel_rfl
theorem fact_szO_42 : szO Tryz.prog 42 = some 4 := by kernel_rfl
theorem fact_szO_59 : szO Tryz.prog 59 = some 1 := by kernel_rfl
theorem fact_szO_71 : szO Tryz.prog 71 = some 1 := by kernel_rfl
theorem fact_szO_76 : szO Tryz.prog 76 = some 2 := by kernel_rfl
theorem fact_szO_84 : szO Tryz.prog 84 = some 5 := by kernel_rfl
theorem fact_zeroV_40 : zeroV Tryz.prog 40 = some (.agg #[.int .u8 0, .int .i64 0, .int .u64 0]) := by kernel_rfl
theorem fact_zeroV_42 : zeroV Tryz.prog 42 = some (.agg #[.int .u8 0, .int .i64 0, .int .u64 0, .bool false]) := by kernel_rfl
theorem fact_zeroV_76 : zeroV Tryz.prog 76 = some (.agg #[.int .i64 0, .bool false]) := by kernel_rfl
theorem fact_zeroV_84 : zeroV Tryz.prog 84 = some (.agg #[.int .i64 0, .int .u8 0, .int .i64 0, .int .u64 0, .bool false]) := by kernel_rfl

def F3.r0 : List Oper := [
  op 2 (.assign (.const (.bool false))) 4]
def F3.r1 : List Oper := [
  op 16 (.move (.tmp 0)) 22,
  op 17 (.call ⟨(.builtin .len), #[(.tmp 16)], #[22]⟩) 3,
  op 18 (.binOp .gtr 3 (.tmp 17) (.const (.int .i64 1000)) 3) 4]
def F3.r2 : List Oper := [
  op 19 (.move (.tmp 0)) 22,
  op 20 (.slice 22 (.tmp 19) none (some (.const (.int .i64 1000))) none) 22,
  op 0 (.assign (.tmp 20)) 22]
def F3.r3 : List Oper := [
  oc 21 (.call ⟨(.value (.func 4)), #[], #[]⟩) 4,
  op 3 (.assign (.tmp 21)) 4]
def F3.r4 : List Oper := [
  op 22 (.move (.tmp 3)) 4,
  op 23 (.unOp .not 4 (.tmp 22)) 4]
def F3.r5 : List Oper := [
  op 2 (.assign (.const (.bool false))) 4]
def F3.r6 : List Oper := [
  op 4 (.assign (.const (.slice none 0 0))) 24]
def F3.r7 : List Oper := [
  op 5 (.assign (.const (.slice none 0 0))) 25]
def F3.r8 : List Oper := [
  op 6 (.assign (.const (.int .i64 0))) 3]
def F3.r9 : List Oper := [
  op 24 (.move (.tmp 6)) 3,
  op 25 (.binOp .lss 3 (.tmp 24) (.const (.int .i64 3)) 3) 4]
def F3.r11 : List Oper := [
  oc 28 (.call ⟨(.value (.func 5)), #[], #[]⟩) 26,
  op 7 (.assign (.tmp 28)) 26]
def F3.r12 : List Oper := [
  op 29 (.move (.tmp 7)) 26,
  op 30 (.binOp .eql 26 (.tmp 29) (.const (.pointer none)) 26) 4]
def F3.r13 : List Oper := [
  op 2 (.assign (.const (.bool false))) 4]
def F3.r14 : List Oper := [
  op 31 (.move (.tmp 4)) 24,
  op 32 (.move (.tmp 7)) 26,
  oc 33 (.buildSlice 24 1 #[(0, (.tmp 32))]) 24,
  oc 34 (.call ⟨(.builtin .append), #[(.tmp 31), (.tmp 33)], #[24, 24]⟩) 24,
  op 4 (.assign (.tmp 34)) 24]
def F3.r15 : List Oper := [
  op 35 (.move (.tmp 5)) 25,
  oc 36 (.call ⟨(.value (.func 6)), #[], #[]⟩) 28,
  oc 37 (.buildSlice 25 1 #[(0, (.tmp 36))]) 25,
  oc 38 (.call ⟨(.builtin .append), #[(.tmp 35), (.tmp 37)], #[25, 25]⟩) 25,
  op 5 (.assign (.tmp 38)) 25]
def F3.r10 : List Oper := [
  op 26 (.move (.tmp 6)) 3,
  op 27 (.binOp .add 3 (.tmp 26) (.const (.int .i64 1)) 3) 3,
  op 6 (.assign (.tmp 27)) 3]
def F3.r16 : List Oper := [
  op 39 (.build 35 #[]) 35,
  oc 40 (.box 35 (.tmp 39)) 30,
  op 8 (.assign (.tmp 40)) 30]
def F3.r17 : List Oper := [
  op 9 (.assign (.const (.int .i64 0))) 3]
def F3.r18 : List Oper := [
  op 41 (.move (.tmp 9)) 3,
  op 42 (.move (.tmp 0)) 22,
  op 43 (.call ⟨(.builtin .len), #[(.tmp 42)], #[22]⟩) 3,
  op 44 (.binOp .lss 3 (.tmp 41) (.tmp 43) 3) 4]
def F3.r20 : List Oper := [
  op 47 (.move (.tmp 0)) 22,
  op 48 (.move (.tmp 9)) 3,
  op 49 (.indexAddr 22 (.tmp 47) (.tmp 48)) 0,
  op 50 (.fieldAddr 44 (.tmp 49) 0) 0,
  od 51 (.load 3 (.tmp 50)) 3,
  oc 52 (.call ⟨(.value (.func 7)), #[(.tmp 51), (.const (.int .i64 3))], #[3, 3]⟩) 3,
  op 10 (.assign (.tmp 52)) 3]
def F3.r21 : List Oper := [
  ⟨(some 53), (.move (.tmp 4)), 24, "", #[], none⟩,
  ⟨(some 54), (.move (.tmp 10)), 3, "", #[], none⟩,
  ⟨(some 55), (.indexAddr 24 (.tmp 53) (.tmp 54)), 0, "", #[], none⟩,
  ⟨(some 57), (.move (.tmp 5)), 25, "", #[], none⟩,
  ⟨(some 58), (.move (.tmp 10)), 3, "", #[], none⟩,
  ⟨(some 59), (.indexAddr 25 (.tmp 57) (.tmp 58)), 0, "", #[], none⟩,
  ⟨(some 61), (.move (.tmp 0)), 22, "", #[], none⟩,
  ⟨(some 62), (.move (.tmp 9)), 3, "", #[], none⟩,
  ⟨(some 63), (.indexAddr 22 (.tmp 61) (.tmp 62)), 0, "", #[], none⟩,
  ⟨(some 65), (.move (.tmp 8)), 30, "", #[], none⟩,
  ⟨(some 56), (.load 26 (.tmp 55)), 26, "", #[⟨8192, .data⟩], none⟩,
  ⟨(some 60), (.load 28 (.tmp 59)), 28, "", #[⟨8192, .data⟩], none⟩,
  ⟨(some 64), (.load 44 (.tmp 63)), 44, "", #[⟨8192, .data⟩], none⟩,
  ⟨(some 66), (.call ⟨(.value (.func 8)), #[(.tmp 56), (.tmp 60), (.tmp 64), (.tmp 65)], #[26, 28, 44, 30]⟩), 4, "", #[⟨13, .chain⟩], none⟩,
  ⟨(some 11), (.assign (.tmp 66)), 4, "", #[], none⟩]
def F3.r22 : List Oper := [
  ⟨(some 67), (.move (.tmp 4)), 24, "", #[], none⟩,
  ⟨(some 68), (.move (.tmp 10)), 3, "", #[], none⟩,
  ⟨(some 69), (.indexAddr 24 (.tmp 67) (.tmp 68)), 0, "", #[], none⟩,
  ⟨(some 71), (.move (.tmp 5)), 25, "", #[], none⟩,
  ⟨(some 72), (.move (.tmp 10)), 3, "", #[], none⟩,
  ⟨(some 73), (.indexAddr 25 (.tmp 71) (.tmp 72)), 0, "", #[], none⟩,
  ⟨(some 75), (.move (.tmp 0)), 22, "", #[], none⟩,
  ⟨(some 76), (.move (.tmp 9)), 3, "", #[], none⟩,
  ⟨(some 77), (.indexAddr 22 (.tmp 75) (.tmp 76)), 0, "", #[], none⟩,
  ⟨(some 79), (.move (.tmp 8)), 30, "", #[], none⟩,
  ⟨(some 70), (.load 26 (.tmp 69)), 26, "", #[⟨8192, .data⟩], none⟩,
  ⟨(some 74), (.load 28 (.tmp 73)), 28, "", #[⟨8192, .data⟩], none⟩,
  ⟨(some 78), (.load 44 (.tmp 77)), 44, "", #[⟨8192, .data⟩], none⟩,
  ⟨(some 80), (.call ⟨(.value (.func 9)), #[(.tmp 70), (.tmp 74), (.tmp 78), (.tmp 79)], #[26, 28, 44, 30]⟩), 4, "", #[⟨13, .chain⟩], none⟩,
  ⟨(some 12), (.assign (.tmp 80)), 4, "", #[], none⟩]
def F3.r23 : List Oper := [
  op 81 (.move (.tmp 8)) 30,
  oc 82 (.call ⟨(.value (.func 10)), #[(.tmp 81)], #[30]⟩) 4,
  op 13 (.assign (.tmp 82)) 4]
def F3.r24 : List Oper := [
  op 83 (.move (.tmp 11)) 4,
  op 84 (.unOp .not 4 (.tmp 83)) 4,
  op 85 (.move (.tmp 84)) 4,
  ⟨(some 86), (.move (.tmp 12)), 4, "", #[], (some (85, false))⟩,
  ⟨(some 87), (.unOp .not 4 (.tmp 86)), 4, "", #[], (some (85, false))⟩,
  op 88 (.pick (.tmp 85) (.const (.bool true)) (.tmp 87)) 4,
  op 89 (.move (.tmp 88)) 4,
  ⟨(some 90), (.move (.tmp 13)), 4, "", #[], (some (89, false))⟩,
  ⟨(some 91), (.unOp .not 4 (.tmp 90)), 4, "", #[], (some (89, false))⟩,
  op 92 (.pick (.tmp 89) (.const (.bool true)) (.tmp 91)) 4]
def F3.r25 : List Oper := [
  op 2 (.assign (.const (.bool false))) 4]
def F3.r19 : List Oper := [
  op 45 (.move (.tmp 9)) 3,
  op 46 (.binOp .add 3 (.tmp 45) (.const (.int .i64 1)) 3) 3,
  op 9 (.assign (.tmp 46)) 3]
def F3.r26 : List Oper := [
  op 14 (.assign (.const (.int .i64 0))) 3]
def F3.r27 : List Oper := [
  op 93 (.move (.tmp 14)) 3,
  op 94 (.binOp .lss 3 (.tmp 93) (.const (.int .i64 3)) 3) 4]
def F3.r29 : List Oper := [
  ⟨(some 97), (.move (.tmp 4)), 24, "", #[], none⟩,
  ⟨(some 98), (.move (.tmp 14)), 3, "", #[], none⟩,
  ⟨(some 99), (.indexAddr 24 (.tmp 97) (.tmp 98)), 0, "", #[], none⟩,
  ⟨(some 101), (.move (.tmp 5)), 25, "", #[], none⟩,
  ⟨(some 102), (.move (.tmp 14)), 3, "", #[], none⟩,
  ⟨(some 103), (.indexAddr 25 (.tmp 101) (.tmp 102)), 0, "", #[], none⟩,
  ⟨(some 105), (.build 44 #[(1, (.const (.int .i64 6)))]), 44, "", #[], none⟩,
  ⟨(some 106), (.move (.tmp 8)), 30, "", #[], none⟩,
  ⟨(some 100), (.load 26 (.tmp 99)), 26, "", #[⟨1024, .data⟩], none⟩,
  ⟨(some 104), (.load 28 (.tmp 103)), 28, "", #[⟨1024, .data⟩], none⟩,
  ⟨(some 107), (.call ⟨(.value (.func 9)), #[(.tmp 100), (.tmp 104), (.tmp 105), (.tmp 106)], #[26, 28, 44, 30]⟩), 4, "", #[⟨10, .chain⟩], none⟩,
  ⟨(some 15), (.assign (.tmp 107)), 4, "", #[], none⟩]
def F3.r30 : List Oper := [
  op 108 (.move (.tmp 15)) 4,
  op 109 (.unOp .not 4 (.tmp 108)) 4]
def F3.r31 : List Oper := [
  op 2 (.assign (.const (.bool false))) 4]
def F3.r28 : List Oper := [
  op 95 (.move (.tmp 14)) 3,
  op 96 (.binOp .add 3 (.tmp 95) (.const (.int .i64 1)) 3) 3,
  op 14 (.assign (.tmp 96)) 3]
def F3.r32 : List Oper := [
  op 110 (.move (.tmp 8)) 30,
  oc 111 (.call ⟨(.value (.func 11)), #[(.tmp 110)], #[30]⟩) 4,
  op 2 (.assign (.tmp 111)) 4]
def F3.t14 : Cd := (.seq (.region 14 F3.r14.toArray false) (.region 15 F3.r15.toArray false))
theorem F3.t14_eq {θ : Tag (F3.t14, Q, e, w)} : cwE P F3.t14 Q e w θ = cwE P (.seq (.region 14 F3.r14.toArray false) (.region 15 F3.r15.toArray false)) Q e w := rfl
def F3.t10 : Cd := (.region 10 F3.r10.toArray false)
theorem F3.t10_eq {θ : Tag (F3.t10, Q, e, w)} : cwE P F3.t10 Q e w θ = cwE P (.region 10 F3.r10.toArray false) Q e w := rfl
def F3.t11 : Cd := (.seq (.block 1 (.seq (.region 11 F3.r11.toArray false) (.seq (.seq (.region 12 F3.r12.toArray false) (.cond (.tmp 30) (.seq (.region 13 F3.r13.toArray false) .ret) .skip)) F3.t14))) F3.t10)
theorem F3.t11_eq {θ : Tag (F3.t11, Q, e, w)} : cwE P F3.t11 Q e w θ = cwE P (.seq (.block 1 (.seq (.region 11 F3.r11.toArray false) (.seq (.seq (.region 12 F3.r12.toArray false) (.cond (.tmp 30) (.seq (.region 13 F3.r13.toArray false) .ret) .skip)) F3.t14))) F3.t10) Q e w := rfl
def F3.t19 : Cd := (.region 19 F3.r19.toArray false)
theorem F3.t19_eq {θ : Tag (F3.t19, Q, e, w)} : cwE P F3.t19 Q e w θ = cwE P (.region 19 F3.r19.toArray false) Q e w := rfl
def F3.t20 : Cd := (.seq (.block 3 (.seq (.region 20 F3.r20.toArray false) (.seq (.region 21 F3.r21.toArray true) (.seq (.region 22 F3.r22.toArray true) (.seq (.region 23 F3.r23.toArray false) (.seq (.region 24 F3.r24.toArray false) (.cond (.tmp 92) (.seq (.region 25 F3.r25.toArray false) .ret) .skip))))))) F3.t19)
theorem F3.t20_eq {θ : Tag (F3.t20, Q, e, w)} : cwE P F3.t20 Q e w θ = cwE P (.seq (.block 3 (.seq (.region 20 F3.r20.toArray false) (.seq (.region 21 F3.r21.toArray true) (.seq (.region 22 F3.r22.toArray true) (.seq (.region 23 F3.r23.toArray false) (.seq (.region 24 F3.r24.toArray false) (.cond (.tmp 92) (.seq (.region 25 F3.r25.toArray false) .ret) .skip))))))) F3.t19) Q e w := rfl
def F3.t28 : Cd := (.region 28 F3.r28.toArray false)
theorem F3.t28_eq {θ : Tag (F3.t28, Q, e, w)} : cwE P F3.t28 Q e w θ = cwE P (.region 28 F3.r28.toArray false) Q e w := rfl
def F3.t29 : Cd := (.seq (.block 5 (.seq (.region 29 F3.r29.toArray true) (.seq (.region 30 F3.r30.toArray false) (.cond (.tmp 109) (.seq (.region 31 F3.r31.toArray false) .ret) .skip)))) F3.t28)
theorem F3.t29_eq {θ : Tag (F3.t29, Q, e, w)} : cwE P F3.t29 Q e w θ = cwE P (.seq (.block 5 (.seq (.region 29 F3.r29.toArray true) (.seq (.region 30 F3.r30.toArray false) (.cond (.tmp 109) (.seq (.region 31 F3.r31.toArray false) .ret) .skip)))) F3.t28) Q e w := rfl
def F3.t32 : Cd := (.seq (.region 32 F3.r32.toArray false) .ret)
theorem F3.t32_eq {θ : Tag (F3.t32, Q, e, w)} : cwE P F3.t32 Q e w θ = cwE P (.seq (.region 32 F3.r32.toArray false) .ret) Q e w := rfl
def F3.t26 : Cd := (.seq (.seq (.region 26 F3.r26.toArray false) (.block 4 (.loop (.seq (.seq (.region 27 F3.r27.toArray false) (.cond (.tmp 94) .skip (.exit 4))) F3.t29)))) F3.t32)
theorem F3.t26_eq {θ : Tag (F3.t26, Q, e, w)} : cwE P F3.t26 Q e w θ = cwE P (.seq (.seq (.region 26 F3.r26.toArray false) (.block 4 (.loop (.seq (.seq (.region 27 F3.r27.toArray false) (.cond (.tmp 94) .skip (.exit 4))) F3.t29)))) F3.t32) Q e w := rfl
def F3.t16 : Cd := (.seq (.region 16 F3.r16.toArray false) (.seq (.seq (.region 17 F3.r17.toArray false) (.block 2 (.loop (.seq (.seq (.region 18 F3.r18.toArray false) (.cond (.tmp 44) .skip (.exit 2))) F3.t20)))) F3.t26))
theorem F3.t16_eq {θ : Tag (F3.t16, Q, e, w)} : cwE P F3.t16 Q e w θ = cwE P (.seq (.region 16 F3.r16.toArray false) (.seq (.seq (.region 17 F3.r17.toArray false) (.block 2 (.loop (.seq (.seq (.region 18 F3.r18.toArray false) (.cond (.tmp 44) .skip (.exit 2))) F3.t20)))) F3.t26)) Q e w := rfl
def F3.t6 : Cd := (.seq (.region 6 F3.r6.toArray false) (.seq (.region 7 F3.r7.toArray false) (.seq (.seq (.region 8 F3.r8.toArray false) (.block 0 (.loop (.seq (.seq (.region 9 F3.r9.toArray false) (.cond (.tmp 25) .skip (.exit 0))) F3.t11)))) F3.t16)))
theorem F3.t6_eq {θ : Tag (F3.t6, Q, e, w)} : cwE P F3.t6 Q e w θ = cwE P (.seq (.region 6 F3.r6.toArray false) (.seq (.region 7 F3.r7.toArray false) (.seq (.seq (.region 8 F3.r8.toArray false) (.block 0 (.loop (.seq (.seq (.region 9 F3.r9.toArray false) (.cond (.tmp 25) .skip (.exit 0))) F3.t11)))) F3.t16))) Q e w := rfl
def F3.t3 : Cd := (.seq (.region 3 F3.r3.toArray false) (.seq (.seq (.region 4 F3.r4.toArray false) (.cond (.tmp 23) (.seq (.region 5 F3.r5.toArray false) .ret) .skip)) F3.t6))
theorem F3.t3_eq {θ : Tag (F3.t3, Q, e, w)} : cwE P F3.t3 Q e w θ = cwE P (.seq (.region 3 F3.r3.toArray false) (.seq (.seq (.region 4 F3.r4.toArray false) (.cond (.tmp 23) (.seq (.region 5 F3.r5.toArray false) .ret) .skip)) F3.t6)) Q e w := rfl
def F3.code : Cd := (.seq (.region 0 F3.r0.toArray false) (.seq (.seq (.region 1 F3.r1.toArray false) (.cond (.tmp 18) (.region 2 F3.r2.toArray false) .skip)) F3.t3))
theorem F3.calls (hn : args.size ≤ 112) (h : cwE Tryz.prog F3.code (fnP Tryz.prog #[(.tmp 2)] R) (entry args) w) : Calls Tryz.prog 3 args w R :=
  calls_of_cwE (types := Tryz.prog.types) follows Tryz.func3 F3.code rfl (by kernel_rfl) hn h

def F4.r0 : List Oper := [
  op 0 (.assign (.const (.bool false))) 4]
def F4.r1 : List Oper := [
  oc 18 (.call ⟨(.value (.func 5)), #[], #[]⟩) 26,
  op 1 (.assign (.tmp 18)) 26]
def F4.r2 : List Oper := [
  op 19 (.move (.tmp 1)) 26,
  op 20 (.binOp .eql 26 (.tmp 19) (.const (.pointer none)) 26) 4]
def F4.r3 : List Oper := [
  op 0 (.assign (.const (.bool false))) 4]
def F4.r4 : List Oper := [
  oc 21 (.call ⟨(.value (.func 12)), #[(.const (.int .i64 5))], #[3]⟩) 40,
  oc 2 (.alloc 40) 0,
  ⟨none, (.store 40 (.tmp 2) (.tmp 21)), 0, "", #[⟨0, .chain⟩], none⟩]
def F4.r5 : List Oper := [
  op 23 (.move (.tmp 1)) 26,
  od 24 (.load 40 (.tmp 2)) 40,
  op 25 (.build 42 #[(0, (.tmp 24))]) 42,
  oc 26 (.call ⟨(.value (.func 13)), #[(.tmp 23), (.const (.int .i64 1)), (.tmp 25)], #[26, 3, 42]⟩) 49,
  op 22 (.move (.tmp 26)) 49,
  op 27 (.extract (.tmp 22) 0) 4,
  op 28 (.extract (.tmp 22) 1) 48,
  op 3 (.assign (.tmp 27)) 4,
  op 4 (.assign (.tmp 28)) 48]
def F4.r6 : List Oper := [
  op 30 (.move (.tmp 1)) 26,
  od 31 (.load 40 (.tmp 2)) 40,
  op 32 (.build 42 #[(0, (.tmp 31))]) 42,
  oc 33 (.call ⟨(.value (.func 13)), #[(.tmp 30), (.const (.int .i64 2)), (.tmp 32)], #[26, 3, 42]⟩) 49,
  op 29 (.move (.tmp 33)) 49,
  op 34 (.extract (.tmp 29) 0) 4,
  op 35 (.extract (.tmp 29) 1) 48,
  op 5 (.assign (.tmp 34)) 4,
  op 6 (.assign (.tmp 35)) 48]
def F4.r7 : List Oper := [
  op 37 (.move (.tmp 1)) 26,
  od 38 (.load 40 (.tmp 2)) 40,
  op 39 (.build 42 #[(0, (.tmp 38)), (1, (.const (.bool true)))]) 42,
  oc 40 (.call ⟨(.value (.func 13)), #[(.tmp 37), (.const (.int .i64 3)), (.tmp 39)], #[26, 3, 42]⟩) 49,
  op 36 (.move (.tmp 40)) 49,
  op 41 (.extract (.tmp 36) 0) 4,
  op 42 (.extract (.tmp 36) 1) 48,
  op 7 (.assign (.tmp 41)) 4,
  op 8 (.assign (.tmp 42)) 48]
def F4.r8 : List Oper := [
  op 44 (.move (.tmp 1)) 26,
  od 45 (.load 40 (.tmp 2)) 40,
  op 46 (.build 42 #[(0, (.tmp 45))]) 42,
  oc 47 (.call ⟨(.value (.func 13)), #[(.tmp 44), (.const (.int .i64 4)), (.tmp 46)], #[26, 3, 42]⟩) 49,
  op 43 (.move (.tmp 47)) 49,
  op 48 (.extract (.tmp 43) 0) 4,
  op 49 (.extract (.tmp 43) 1) 48,
  op 9 (.assign (.tmp 48)) 4,
  op 10 (.assign (.tmp 49)) 48]
def F4.r9 : List Oper := [
  op 50 (.move (.tmp 3)) 4,
  op 51 (.unOp .not 4 (.tmp 50)) 4,
  op 52 (.move (.tmp 51)) 4,
  ⟨(some 53), (.move (.tmp 5)), 4, "", #[], (some (52, false))⟩,
  ⟨(some 54), (.unOp .not 4 (.tmp 53)), 4, "", #[], (some (52, false))⟩,
  op 55 (.pick (.tmp 52) (.const (.bool true)) (.tmp 54)) 4,
  op 56 (.move (.tmp 55)) 4,
  ⟨(some 57), (.move (.tmp 7)), 4, "", #[], (some (56, false))⟩,
  op 58 (.pick (.tmp 56) (.const (.bool true)) (.tmp 57)) 4,
  op 59 (.move (.tmp 58)) 4,
  ⟨(some 60), (.move (.tmp 9)), 4, "", #[], (some (59, false))⟩,
  op 61 (.pick (.tmp 59) (.const (.bool true)) (.tmp 60)) 4,
  op 62 (.move (.tmp 61)) 4,
  ⟨(some 63), (.move (.tmp 4)), 48, "", #[], (some (62, false))⟩,
  ⟨(some 64), (.binOp .neq 48 (.tmp 63) (.const (.int .i64 0)) 48), 4, "", #[], (some (62, false))⟩,
  op 65 (.pick (.tmp 62) (.const (.bool true)) (.tmp 64)) 4,
  op 66 (.move (.tmp 65)) 4,
  ⟨(some 67), (.move (.tmp 6)), 48, "", #[], (some (66, false))⟩,
  ⟨(some 68), (.binOp .neq 48 (.tmp 67) (.const (.int .i64 0)) 48), 4, "", #[], (some (66, false))⟩,
  op 69 (.pick (.tmp 66) (.const (.bool true)) (.tmp 68)) 4,
  op 70 (.move (.tmp 69)) 4,
  ⟨(some 71), (.move (.tmp 8)), 48, "", #[], (some (70, false))⟩,
  ⟨(some 72), (.binOp .neq 48 (.tmp 71) (.const (.int .i64 0)) 48), 4, "", #[], (some (70, false))⟩,
  op 73 (.pick (.tmp 70) (.const (.bool true)) (.tmp 72)) 4,
  op 74 (.move (.tmp 73)) 4,
  ⟨(some 75), (.move (.tmp 10)), 48, "", #[], (some (74, false))⟩,
  ⟨(some 76), (.binOp .neq 48 (.tmp 75) (.const (.int .i64 0)) 48), 4, "", #[], (some (74, false))⟩,
  op 77 (.pick (.tmp 74) (.const (.bool true)) (.tmp 76)) 4]
def F4.r10 : List Oper := [
  op 0 (.assign (.const (.bool false))) 4]
def F4.r11 : List Oper := [
  op 78 (.move (.tmp 1)) 26,
  od 79 (.load 40 (.tmp 2)) 40,
  oc 80 (.call ⟨(.value (.func 14)), #[(.tmp 78), (.tmp 79)], #[26, 40]⟩) 32,
  op 11 (.assign (.tmp 80)) 32]
def F4.r12 : List Oper := [
  op 82 (.move (.tmp 1)) 26,
  od 83 (.load 40 (.tmp 2)) 40,
  oc 84 (.call ⟨(.value (.func 15)), #[(.tmp 82), (.const (.int .i64 1)), (.tmp 83)], #[26, 3, 40]⟩) 52,
  op 81 (.move (.tmp 84)) 52,
  op 85 (.extract (.tmp 81) 0) 32,
  op 86 (.extract (.tmp 81) 1) 48,
  op 12 (.assign (.tmp 85)) 32,
  op 13 (.assign (.tmp 86)) 48]
def F4.r13 : List Oper := [
  op 88 (.move (.tmp 1)) 26,
  od 89 (.load 40 (.tmp 2)) 40,
  oc 90 (.call ⟨(.value (.func 15)), #[(.tmp 88), (.const (.int .i64 2)), (.tmp 89)], #[26, 3, 40]⟩) 52,
  op 87 (.move (.tmp 90)) 52,
  op 91 (.extract (.tmp 87) 0) 32,
  op 92 (.extract (.tmp 87) 1) 48,
  op 14 (.assign (.tmp 91)) 32,
  op 15 (.assign (.tmp 92)) 48]
def F4.r14 : List Oper := [
  op 94 (.move (.tmp 1)) 26,
  od 95 (.load 40 (.tmp 2)) 40,
  oc 96 (.call ⟨(.value (.func 15)), #[(.tmp 94), (.const (.int .i64 3)), (.tmp 95)], #[26, 3, 40]⟩) 52,
  op 93 (.move (.tmp 96)) 52,
  op 97 (.extract (.tmp 93) 0) 32,
  op 98 (.extract (.tmp 93) 1) 48,
  op 16 (.assign (.tmp 97)) 32,
  op 17 (.assign (.tmp 98)) 48]
def F4.r15 : List Oper := [
  op 99 (.move (.tmp 11)) 32,
  oc 100 (.buildSlice 32 2 #[(0, (.const (.int .i64 3))), (1, (.const (.int .i64 4)))]) 32,
  oc 101 (.call ⟨(.value (.func 16)), #[(.tmp 99), (.tmp 100)], #[32, 32]⟩) 4,
  op 102 (.move (.tmp 101)) 4,
  ⟨(some 103), (.move (.tmp 12)), 32, "", #[], (some (102, true))⟩,
  ⟨(some 104), (.call ⟨(.builtin .len), #[(.tmp 103)], #[32]⟩), 3, "", #[], (some (102, true))⟩,
  ⟨(some 105), (.binOp .eql 3 (.tmp 104) (.const (.int .i64 0)) 3), 4, "", #[], (some (102, true))⟩,
  op 106 (.pick (.tmp 102) (.tmp 105) (.const (.bool false))) 4,
  op 107 (.move (.tmp 106)) 4,
  ⟨(some 108), (.move (.tmp 14)), 32, "", #[], (some (107, true))⟩,
  ⟨(some 109), (.buildSlice 32 1 #[(0, (.const (.int .i64 3)))]), 32, "", #[⟨0, .chain⟩], (some (107, true))⟩,
  ⟨(some 110), (.call ⟨(.value (.func 16)), #[(.tmp 108), (.tmp 109)], #[32, 32]⟩), 4, "", #[⟨0, .chain⟩], (some (107, true))⟩,
  op 111 (.pick (.tmp 107) (.tmp 110) (.const (.bool false))) 4,
  op 112 (.move (.tmp 111)) 4,
  ⟨(some 113), (.move (.tmp 16)), 32, "", #[], (some (112, true))⟩,
  ⟨(some 114), (.buildSlice 32 1 #[(0, (.const (.int .i64 4)))]), 32, "", #[⟨0, .chain⟩], (some (112, true))⟩,
  ⟨(some 115), (.call ⟨(.value (.func 16)), #[(.tmp 113), (.tmp 114)], #[32, 32]⟩), 4, "", #[⟨0, .chain⟩], (some (112, true))⟩,
  op 116 (.pick (.tmp 112) (.tmp 115) (.const (.bool false))) 4,
  op 117 (.move (.tmp 116)) 4,
  ⟨(some 118), (.move (.tmp 1)), 26, "", #[], (some (117, true))⟩,
  ⟨(some 119), (.call ⟨(.value (.func 17)), #[(.tmp 118)], #[26]⟩), 4, "", #[⟨0, .chain⟩], (some (117, true))⟩,
  ⟨(some 120), (.unOp .not 4 (.tmp 119)), 4, "", #[], (some (117, true))⟩,
  op 121 (.pick (.tmp 117) (.tmp 120) (.const (.bool false))) 4,
  op 0 (.assign (.tmp 121)) 4]
def F4.t11 : Cd := (.seq (.region 11 F4.r11.toArray false) (.seq (.region 12 F4.r12.toArray false) (.seq (.region 13 F4.r13.toArray false) (.seq (.region 14 F4.r14.toArray false) (.seq (.region 15 F4.r15.toArray false) .ret)))))
theorem F4.t11_eq {θ : Tag (F4.t11, Q, e, w)} : cwE P F4.t11 Q e w θ = cwE P (.seq (.region 11 F4.r11.toArray false) (.seq (.region 12 F4.r12.toArray false) (.seq (.region 13 F4.r13.toArray false) (.seq (.region 14 F4.r14.toArray false) (.seq (.region 15 F4.r15.toArray false) .ret))))) Q e w := rfl
def F4.t4 : Cd := (.seq (.region 4 F4.r4.toArray false) (.seq (.region 5 F4.r5.toArray false) (.seq (.region 6 F4.r6.toArray false) (.seq (.region 7 F4.r7.toArray false) (.seq (.region 8 F4.r8.toArray false) (.seq (.seq (.region 9 F4.r9.toArray false) (.cond (.tmp 77) (.seq (.region 10 F4.r10.toArray false) .ret) .skip)) F4.t11))))))
theorem F4.t4_eq {θ : Tag (F4.t4, Q, e, w)} : cwE P F4.t4 Q e w θ = cwE P (.seq (.region 4 F4.r4.toArray false) (.seq (.region 5 F4.r5.toArray false) (.seq (.region 6 F4.r6.toArray false) (.seq (.region 7 F4.r7.toArray false) (.seq (.region 8 F4.r8.toArray false) (.seq (.seq (.region 9 F4.r9.toArray false) (.cond (.tmp 77) (.seq (.region 10 F4.r10.toArray false) .ret) .skip)) F4.t11)))))) Q e w := rfl
def F4.code : Cd := (.seq (.region 0 F4.r0.toArray false) (.seq (.region 1 F4.r1.toArray false) (.seq (.seq (.region 2 F4.r2.toArray false) (.cond (.tmp 20) (.seq (.region 3 F4.r3.toArray false) .ret) .skip)) F4.t4)))
theorem F4.calls (hn : args.size ≤ 122) (h : cwE Tryz.prog F4.code (fnP Tryz.prog #[(.tmp 0)] R) (entry args) w) : Calls Tryz.prog 4 args w R :=
  calls_of_cwE (types := Tryz.prog.types) follows Tryz.func4 F4.code rfl (by kernel_rfl) hn h

def F5.r0 : List Oper := [
  op 0 (.assign (.const (.pointer none))) 26]
def F5.r1 : List Oper := [
  oc 1 (.makeMap 55 none) 55,
  oc 2 (.makeMap 56 none) 56,
  op 3 (.build 58 #[(0, (.tmp 1)), (1, (.tmp 2))]) 58,
  oc 4 (.box 58 (.tmp 3)) 26,
  op 0 (.assign (.tmp 4)) 26]
def F5.code : Cd := (.seq (.region 0 F5.r0.toArray false) (.seq (.region 1 F5.r1.toArray false) .ret))
theorem F5.calls (hn : args.size ≤ 5) (h : cwE Tryz.prog F5.code (fnP Tryz.prog #[(.tmp 0)] R) (entry args) w) : Calls Tryz.prog 5 args w R :=
  calls_of_cwE (types := Tryz.prog.types) follows Tryz.func5 F5.code rfl (by kernel_rfl) hn h

def F6.r0 : List Oper := [
  op 0 (.assign (.const (.pointer none))) 28]
def F6.r1 : List Oper := [
  op 1 (.build 61 #[]) 61,
  oc 2 (.box 61 (.tmp 1)) 28,
  op 0 (.assign (.tmp 2)) 28]
def F6.code : Cd := (.seq (.region 0 F6.r0.toArray false) (.seq (.region 1 F6.r1.toArray false) .ret))
theorem F6.calls (hn : args.size ≤ 3) (h : cwE Tryz.prog F6.code (fnP Tryz.prog #[(.tmp 0)] R) (entry args) w) : Calls Tryz.prog 6 args w R :=
  calls_of_cwE (types := Tryz.prog.types) follows Tryz.func6 F6.code rfl (by kernel_rfl) hn h

def F7.r0 : List Oper := [
  op 4 (.assign (.const (.int .i64 0))) 3]
def F7.r1 : List Oper := [
  op 5 (.move (.tmp 0)) 3,
  op 6 (.binOp .lss 3 (.tmp 5) (.const (.int .i64 0)) 3) 4]
def F7.r2 : List Oper := [
  op 7 (.move (.tmp 0)) 3,
  op 8 (.binOp .add 3 (.tmp 7) (.const (.int .i64 1)) 3) 3,
  op 9 (.unOp .neg 3 (.tmp 8)) 3,
  op 0 (.assign (.tmp 9)) 3]
def F7.r3 : List Oper := [
  op 10 (.move (.tmp 0)) 3,
  op 11 (.move (.tmp 1)) 3,
  op 12 (.binOp .rem 3 (.tmp 10) (.tmp 11) 3) 3,
  op 4 (.assign (.tmp 12)) 3]
def F7.t3 : Cd := (.seq (.region 3 F7.r3.toArray false) .ret)
theorem F7.t3_eq {θ : Tag (F7.t3, Q, e, w)} : cwE P F7.t3 Q e w θ = cwE P (.seq (.region 3 F7.r3.toArray false) .ret) Q e w := rfl
def F7.code : Cd := (.seq (.region 0 F7.r0.toArray false) (.seq (.seq (.region 1 F7.r1.toArray false) (.cond (.tmp 6) (.region 2 F7.r2.toArray false) .skip)) F7.t3))
theorem F7.calls (hn : args.size ≤ 13) (h : cwE Tryz.prog F7.code (fnP Tryz.prog #[(.tmp 4)] R) (entry args) w) : Calls Tryz.prog 7 args w R :=
  calls_of_cwE (types := Tryz.prog.types) follows Tryz.func7 F7.code rfl (by kernel_rfl) hn h

def F8.r0 : List Oper := [
  oc 6 (.box 44 (.tmp 2)) 0,
  op 8 (.assign (.const (.bool false))) 4]
def F8.r1 : List Oper := [
  op 34 (.fieldAddr 44 (.tmp 6) 1) 0,
  od 35 (.load 3 (.tmp 34)) 3]
def F8.r2 : List Oper := [
  op 37 (.binOp .eql 3 (.tmp 35) (.const (.int .i64 1)) 3) 4,
  op 36 (.assign (.tmp 37)) 4]
def F8.r3 : List Oper := [
  op 39 (.move (.tmp 0)) 26,
  op 40 (.fieldAddr 44 (.tmp 6) 2) 0,
  od 41 (.load 3 (.tmp 40)) 3,
  op 42 (.fieldAddr 44 (.tmp 6) 3) 0,
  od 43 (.load 42 (.tmp 42)) 42,
  oc 44 (.call ⟨(.value (.func 13)), #[(.tmp 39), (.tmp 41), (.tmp 43)], #[26, 3, 42]⟩) 49,
  op 38 (.move (.tmp 44)) 49,
  op 45 (.extract (.tmp 38) 0) 4,
  op 46 (.extract (.tmp 38) 1) 48,
  op 9 (.assign (.tmp 45)) 4,
  op 10 (.assign (.tmp 46)) 48]
def F8.r4 : List Oper := [
  op 48 (.move (.tmp 1)) 28,
  op 49 (.fieldAddr 44 (.tmp 6) 2) 0,
  od 50 (.load 3 (.tmp 49)) 3,
  op 51 (.fieldAddr 44 (.tmp 6) 3) 0,
  od 52 (.load 42 (.tmp 51)) 42,
  oc 53 (.call ⟨(.value (.func 18)), #[(.tmp 48), (.tmp 50), (.tmp 52)], #[28, 3, 42]⟩) 49,
  op 47 (.move (.tmp 53)) 49,
  op 54 (.extract (.tmp 47) 0) 4,
  op 55 (.extract (.tmp 47) 1) 48,
  op 11 (.assign (.tmp 54)) 4,
  op 12 (.assign (.tmp 55)) 48]
def F8.r5 : List Oper := [
  op 56 (.move (.tmp 9)) 4,
  op 57 (.move (.tmp 11)) 4,
  op 58 (.binOp .eql 4 (.tmp 56) (.tmp 57) 4) 4,
  op 59 (.move (.tmp 58)) 4,
  ⟨(some 60), (.move (.tmp 10)), 48, "", #[], (some (59, true))⟩,
  ⟨(some 61), (.move (.tmp 12)), 48, "", #[], (some (59, true))⟩,
  ⟨(some 62), (.binOp .eql 48 (.tmp 60) (.tmp 61) 48), 4, "", #[], (some (59, true))⟩,
  op 63 (.pick (.tmp 59) (.tmp 62) (.const (.bool false))) 4,
  op 8 (.assign (.tmp 63)) 4]
def F8.r6 : List Oper := [
  op 65 (.binOp .eql 3 (.tmp 35) (.const (.int .i64 2)) 3) 4,
  op 64 (.assign (.tmp 65)) 4]
def F8.r7 : List Oper := [
  op 67 (.move (.tmp 0)) 26,
  op 68 (.fieldAddr 44 (.tmp 6) 2) 0,
  od 69 (.load 3 (.tmp 68)) 3,
  op 70 (.fieldAddr 44 (.tmp 6) 3) 0,
  op 71 (.fieldAddr 42 (.tmp 70) 0) 0,
  od 72 (.load 40 (.tmp 71)) 40,
  oc 73 (.call ⟨(.value (.func 15)), #[(.tmp 67), (.tmp 69), (.tmp 72)], #[26, 3, 40]⟩) 52,
  op 66 (.move (.tmp 73)) 52,
  op 74 (.extract (.tmp 66) 0) 32,
  op 75 (.extract (.tmp 66) 1) 48,
  op 13 (.assign (.tmp 74)) 32,
  op 14 (.assign (.tmp 75)) 48]
def F8.r8 : List Oper := [
  op 77 (.move (.tmp 1)) 28,
  op 78 (.fieldAddr 44 (.tmp 6) 2) 0,
  od 79 (.load 3 (.tmp 78)) 3,
  op 80 (.fieldAddr 44 (.tmp 6) 3) 0,
  op 81 (.fieldAddr 42 (.tmp 80) 0) 0,
  od 82 (.load 40 (.tmp 81)) 40,
  oc 83 (.call ⟨(.value (.func 19)), #[(.tmp 77), (.tmp 79), (.tmp 82)], #[28, 3, 40]⟩) 52,
  op 76 (.move (.tmp 83)) 52,
  op 84 (.extract (.tmp 76) 0) 32,
  op 85 (.extract (.tmp 76) 1) 48,
  op 15 (.assign (.tmp 84)) 32,
  op 16 (.assign (.tmp 85)) 48]
def F8.r9 : List Oper := [
  op 86 (.move (.tmp 3)) 30,
  op 87 (.move (.tmp 13)) 32,
  op 88 (.move (.tmp 15)) 32,
  oc 89 (.call ⟨(.value (.func 20)), #[(.tmp 86), (.tmp 87), (.tmp 88)], #[30, 32, 32]⟩) 4,
  op 17 (.assign (.tmp 89)) 4]
def F8.r10 : List Oper := [
  op 90 (.move (.tmp 17)) 4,
  op 91 (.move (.tmp 90)) 4,
  ⟨(some 92), (.move (.tmp 14)), 48, "", #[], (some (91, true))⟩,
  ⟨(some 93), (.move (.tmp 16)), 48, "", #[], (some (91, true))⟩,
  ⟨(some 94), (.binOp .eql 48 (.tmp 92) (.tmp 93) 48), 4, "", #[], (some (91, true))⟩,
  op 95 (.pick (.tmp 91) (.tmp 94) (.const (.bool false))) 4,
  op 8 (.assign (.tmp 95)) 4]
def F8.r11 : List Oper := [
  op 97 (.binOp .eql 3 (.tmp 35) (.const (.int .i64 3)) 3) 4,
  op 96 (.assign (.tmp 97)) 4]
def F8.r12 : List Oper := [
  op 98 (.move (.tmp 0)) 26,
  op 99 (.fieldAddr 44 (.tmp 6) 2) 0,
  od 100 (.load 3 (.tmp 99)) 3,
  oc 101 (.call ⟨(.value (.func 21)), #[(.tmp 98), (.tmp 100)], #[26, 3]⟩) 32,
  op 18 (.assign (.tmp 101)) 32]
def F8.r13 : List Oper := [
  op 102 (.move (.tmp 3)) 30,
  op 103 (.move (.tmp 18)) 32,
  op 104 (.move (.tmp 1)) 28,
  op 105 (.fieldAddr 44 (.tmp 6) 2) 0,
  od 106 (.load 3 (.tmp 105)) 3,
  oc 107 (.call ⟨(.value (.func 22)), #[(.tmp 104), (.tmp 106)], #[28, 3]⟩) 32,
  oc 108 (.call ⟨(.value (.func 20)), #[(.tmp 102), (.tmp 103), (.tmp 107)], #[30, 32, 32]⟩) 4,
  op 8 (.assign (.tmp 108)) 4]
def F8.r14 : List Oper := [
  op 110 (.binOp .eql 3 (.tmp 35) (.const (.int .i64 7)) 3) 4,
  op 109 (.assign (.tmp 110)) 4]
def F8.r15 : List Oper := [
  op 111 (.move (.tmp 1)) 28,
  op 112 (.fieldAddr 44 (.tmp 6) 2) 0,
  od 113 (.load 3 (.tmp 112)) 3,
  oc 114 (.call ⟨(.value (.func 23)), #[(.tmp 111), (.tmp 113)], #[28, 3]⟩) 63,
  op 19 (.assign (.tmp 114)) 63]
def F8.r16 : List Oper := [
  op 115 (.move (.tmp 19)) 63,
  op 116 (.call ⟨(.builtin .len), #[(.tmp 115)], #[63]⟩) 3,
  op 117 (.binOp .eql 3 (.tmp 116) (.const (.int .i64 0)) 3) 4]
def F8.r17 : List Oper := [
  op 8 (.assign (.const (.bool true))) 4]
def F8.r18 : List Oper := [
  op 118 (.move (.tmp 19)) 63,
  op 119 (.fieldAddr 44 (.tmp 6) 3) 0,
  op 120 (.fieldAddr 42 (.tmp 119) 0) 0,
  op 121 (.fieldAddr 40 (.tmp 120) 2) 0,
  od 122 (.load 38 (.tmp 121)) 38,
  op 123 (.move (.tmp 19)) 63,
  op 124 (.call ⟨(.builtin .len), #[(.tmp 123)], #[63]⟩) 3,
  op 125 (.convert 3 38 (.tmp 124)) 38,
  op 126 (.binOp .rem 38 (.tmp 122) (.tmp 125) 38) 38,
  op 127 (.convert 38 3 (.tmp 126)) 3,
  op 128 (.indexAddr 63 (.tmp 118) (.tmp 127)) 0,
  op 129 (.fieldAddr 42 (.tmp 128) 0) 0,
  od 130 (.load 40 (.tmp 129)) 40,
  oc 20 (.alloc 40) 0,
  ⟨none, (.store 40 (.tmp 20) (.tmp 130)), 0, "", #[⟨0, .chain⟩], none⟩]
def F8.r19 : List Oper := [
  op 132 (.move (.tmp 0)) 26,
  op 133 (.fieldAddr 44 (.tmp 6) 2) 0,
  od 134 (.load 3 (.tmp 133)) 3,
  od 135 (.load 40 (.tmp 20)) 40,
  oc 136 (.call ⟨(.value (.func 15)), #[(.tmp 132), (.tmp 134), (.tmp 135)], #[26, 3, 40]⟩) 52,
  op 131 (.move (.tmp 136)) 52,
  op 137 (.extract (.tmp 131) 0) 32,
  op 138 (.extract (.tmp 131) 1) 48,
  op 21 (.assign (.tmp 137)) 32,
  op 22 (.assign (.tmp 138)) 48]
def F8.r20 : List Oper := [
  op 140 (.move (.tmp 1)) 28,
  op 141 (.fieldAddr 44 (.tmp 6) 2) 0,
  od 142 (.load 3 (.tmp 141)) 3,
  od 143 (.load 40 (.tmp 20)) 40,
  oc 144 (.call ⟨(.value (.func 19)), #[(.tmp 140), (.tmp 142), (.tmp 143)], #[28, 3, 40]⟩) 52,
  op 139 (.move (.tmp 144)) 52,
  op 145 (.extract (.tmp 139) 0) 32,
  op 146 (.extract (.tmp 139) 1) 48,
  op 23 (.assign (.tmp 145)) 32,
  op 24 (.assign (.tmp 146)) 48]
def F8.r21 : List Oper := [
  op 147 (.move (.tmp 3)) 30,
  op 148 (.move (.tmp 21)) 32,
  op 149 (.move (.tmp 23)) 32,
  oc 150 (.call ⟨(.value (.func 20)), #[(.tmp 147), (.tmp 148), (.tmp 149)], #[30, 32, 32]⟩) 4,
  op 25 (.assign (.tmp 150)) 4]
def F8.r22 : List Oper := [
  op 151 (.move (.tmp 25)) 4,
  op 152 (.move (.tmp 151)) 4,
  ⟨(some 153), (.move (.tmp 22)), 48, "", #[], (some (152, true))⟩,
  ⟨(some 154), (.move (.tmp 24)), 48, "", #[], (some (152, true))⟩,
  ⟨(some 155), (.binOp .eql 48 (.tmp 153) (.tmp 154) 48), 4, "", #[], (some (152, true))⟩,
  op 156 (.pick (.tmp 152) (.tmp 155) (.const (.bool false))) 4,
  op 8 (.assign (.tmp 156)) 4]
def F8.r23 : List Oper := [
  op 158 (.binOp .eql 3 (.tmp 35) (.const (.int .i64 8)) 3) 4,
  op 157 (.assign (.tmp 158)) 4]
def F8.r24 : List Oper := [
  op 159 (.move (.tmp 1)) 28,
  op 160 (.fieldAddr 44 (.tmp 6) 2) 0,
  od 161 (.load 3 (.tmp 160)) 3,
  oc 162 (.call ⟨(.value (.func 23)), #[(.tmp 159), (.tmp 161)], #[28, 3]⟩) 63,
  op 26 (.assign (.tmp 162)) 63]
def F8.r25 : List Oper := [
  op 163 (.fieldAddr 44 (.tmp 6) 3) 0,
  od 164 (.load 42 (.tmp 163)) 42,
  oc 27 (.alloc 42) 0,
  ⟨none, (.store 42 (.tmp 27) (.tmp 164)), 0, "", #[⟨0, .chain⟩], none⟩]
def F8.r26 : List Oper := [
  op 165 (.move (.tmp 26)) 63,
  op 166 (.call ⟨(.builtin .len), #[(.tmp 165)], #[63]⟩) 3,
  op 167 (.binOp .gtr 3 (.tmp 166) (.const (.int .i64 0)) 3) 4]
def F8.r27 : List Oper := [
  op 168 (.move (.tmp 26)) 63,
  op 169 (.move (.tmp 26)) 63,
  op 170 (.call ⟨(.builtin .len), #[(.tmp 169)], #[63]⟩) 3,
  op 171 (.binOp .sub 3 (.tmp 170) (.const (.int .i64 1)) 3) 3,
  op 172 (.indexAddr 63 (.tmp 168) (.tmp 171)) 0,
  op 173 (.fieldAddr 42 (.tmp 172) 0) 0,
  od 174 (.load 40 (.tmp 173)) 40,
  op 175 (.fieldAddr 42 (.tmp 27) 0) 0,
  ⟨none, (.store 40 (.tmp 175) (.tmp 174)), 0, "", #[⟨0, .chain⟩], none⟩]
def F8.r28 : List Oper := [
  op 176 (.fieldAddr 42 (.tmp 27) 0) 0,
  op 177 (.fieldAddr 40 (.tmp 176) 2) 0,
  od 178 (.load 38 (.tmp 177)) 38,
  op 179 (.binOp .add 38 (.tmp 178) (.const (.int .u64 1)) 38) 38,
  op 180 (.fieldAddr 44 (.tmp 6) 3) 0,
  op 181 (.fieldAddr 42 (.tmp 180) 0) 0,
  op 182 (.fieldAddr 40 (.tmp 181) 2) 0,
  od 183 (.load 38 (.tmp 182)) 38,
  op 184 (.binOp .rem 38 (.tmp 183) (.const (.int .u64 3)) 38) 38,
  op 185 (.binOp .add 38 (.tmp 179) (.tmp 184) 38) 38,
  op 186 (.fieldAddr 42 (.tmp 27) 0) 0,
  op 187 (.fieldAddr 40 (.tmp 186) 2) 0,
  ⟨none, (.store 38 (.tmp 187) (.tmp 185)), 0, "", #[⟨0, .chain⟩], none⟩]
def F8.r29 : List Oper := [
  op 189 (.move (.tmp 0)) 26,
  op 190 (.fieldAddr 44 (.tmp 6) 2) 0,
  od 191 (.load 3 (.tmp 190)) 3,
  od 192 (.load 42 (.tmp 27)) 42,
  oc 193 (.call ⟨(.value (.func 13)), #[(.tmp 189), (.tmp 191), (.tmp 192)], #[26, 3, 42]⟩) 49,
  op 188 (.move (.tmp 193)) 49,
  op 194 (.extract (.tmp 188) 0) 4,
  op 195 (.extract (.tmp 188) 1) 48,
  op 28 (.assign (.tmp 194)) 4,
  op 29 (.assign (.tmp 195)) 48]
def F8.r30 : List Oper := [
  op 197 (.move (.tmp 1)) 28,
  op 198 (.fieldAddr 44 (.tmp 6) 2) 0,
  od 199 (.load 3 (.tmp 198)) 3,
  od 200 (.load 42 (.tmp 27)) 42,
  oc 201 (.call ⟨(.value (.func 18)), #[(.tmp 197), (.tmp 199), (.tmp 200)], #[28, 3, 42]⟩) 49,
  op 196 (.move (.tmp 201)) 49,
  op 202 (.extract (.tmp 196) 0) 4,
  op 203 (.extract (.tmp 196) 1) 48,
  op 30 (.assign (.tmp 202)) 4,
  op 31 (.assign (.tmp 203)) 48]
def F8.r31 : List Oper := [
  op 204 (.move (.tmp 28)) 4,
  op 205 (.move (.tmp 30)) 4,
  op 206 (.binOp .eql 4 (.tmp 204) (.tmp 205) 4) 4,
  op 207 (.move (.tmp 206)) 4,
  ⟨(some 208), (.move (.tmp 29)), 48, "", #[], (some (207, true))⟩,
  ⟨(some 209), (.move (.tmp 31)), 48, "", #[], (some (207, true))⟩,
  ⟨(some 210), (.binOp .eql 48 (.tmp 208) (.tmp 209) 48), 4, "", #[], (some (207, true))⟩,
  op 211 (.pick (.tmp 207) (.tmp 210) (.const (.bool false))) 4,
  op 8 (.assign (.tmp 211)) 4]
def F8.r32 : List Oper := [
  op 213 (.binOp .eql 3 (.tmp 35) (.const (.int .i64 9)) 3) 4,
  op 212 (.assign (.tmp 213)) 4]
def F8.r33 : List Oper := [
  op 214 (.move (.tmp 1)) 28,
  op 215 (.fieldAddr 44 (.tmp 6) 3) 0,
  op 216 (.fieldAddr 42 (.tmp 215) 0) 0,
  od 217 (.load 40 (.tmp 216)) 40,
  oc 218 (.call ⟨(.value (.func 24)), #[(.tmp 214), (.tmp 217)], #[28, 40]⟩) 32,
  op 32 (.assign (.tmp 218)) 32]
def F8.r34 : List Oper := [
  op 219 (.move (.tmp 32)) 32,
  op 220 (.call ⟨(.builtin .len), #[(.tmp 219)], #[32]⟩) 3,
  op 221 (.binOp .eql 3 (.tmp 220) (.const (.int .i64 0)) 3) 4]
def F8.r35 : List Oper := [
  op 8 (.assign (.const (.bool true))) 4]
def F8.r36 : List Oper := [
  op 222 (.move (.tmp 0)) 26,
  op 223 (.move (.tmp 32)) 32,
  op 224 (.indexAddr 32 (.tmp 223) (.const (.int .i64 0))) 0,
  od 225 (.load 3 (.tmp 224)) 3,
  oc 226 (.call ⟨(.value (.func 21)), #[(.tmp 222), (.tmp 225)], #[26, 3]⟩) 32,
  op 33 (.assign (.tmp 226)) 32]
def F8.r37 : List Oper := [
  op 227 (.move (.tmp 3)) 30,
  op 228 (.move (.tmp 33)) 32,
  op 229 (.move (.tmp 1)) 28,
  op 230 (.move (.tmp 32)) 32,
  op 231 (.indexAddr 32 (.tmp 230) (.const (.int .i64 0))) 0,
  od 232 (.load 3 (.tmp 231)) 3,
  oc 233 (.call ⟨(.value (.func 22)), #[(.tmp 229), (.tmp 232)], #[28, 3]⟩) 32,
  oc 234 (.call ⟨(.value (.func 20)), #[(.tmp 227), (.tmp 228), (.tmp 233)], #[30, 32, 32]⟩) 4,
  op 8 (.assign (.tmp 234)) 4]
def F8.r38 : List Oper := [
  op 8 (.assign (.const (.bool true))) 4]
def F8.t18 : Cd := (.seq (.region 18 F8.r18.toArray false) (.seq (.region 19 F8.r19.toArray false) (.seq (.region 20 F8.r20.toArray false) (.seq (.region 21 F8.r21.toArray false) (.seq (.region 22 F8.r22.toArray false) .ret)))))
theorem F8.t18_eq {θ : Tag (F8.t18, Q, e, w)} : cwE P F8.t18 Q e w θ = cwE P (.seq (.region 18 F8.r18.toArray false) (.seq (.region 19 F8.r19.toArray false) (.seq (.region 20 F8.r20.toArray false) (.seq (.region 21 F8.r21.toArray false) (.seq (.region 22 F8.r22.toArray false) .ret))))) Q e w := rfl
def F8.t29 : Cd := (.seq (.region 29 F8.r29.toArray false) (.seq (.region 30 F8.r30.toArray false) (.seq (.region 31 F8.r31.toArray false) .ret)))
theorem F8.t29_eq {θ : Tag (F8.t29, Q, e, w)} : cwE P F8.t29 Q e w θ = cwE P (.seq (.region 29 F8.r29.toArray false) (.seq (.region 30 F8.r30.toArray false) (.seq (.region 31 F8.r31.toArray false) .ret))) Q e w := rfl
def F8.t36 : Cd := (.seq (.region 36 F8.r36.toArray false) (.seq (.region 37 F8.r37.toArray false) .ret))
theorem F8.t36_eq {θ : Tag (F8.t36, Q, e, w)} : cwE P F8.t36 Q e w θ = cwE P (.seq (.region 36 F8.r36.toArray false) (.seq (.region 37 F8.r37.toArray false) .ret)) Q e w := rfl
def F8.t38 : Cd := (.seq (.region 38 F8.r38.toArray false) .ret)
theorem F8.t38_eq {θ : Tag (F8.t38, Q, e, w)} : cwE P F8.t38 Q e w θ = cwE P (.seq (.region 38 F8.r38.toArray false) .ret) Q e w := rfl
def F8.code : Cd := (.seq (.region 0 F8.r0.toArray false) (.seq (.seq (.region 1 F8.r1.toArray false) (.block 0 (.seq (.region 2 F8.r2.toArray false) (.cond (.tmp 36) (.seq (.region 3 F8.r3.toArray false) (.seq (.region 4 F8.r4.toArray false) (.seq (.region 5 F8.r5.toArray false) .ret))) (.seq (.region 6 F8.r6.toArray false) (.cond (.tmp 64) (.seq (.region 7 F8.r7.toArray false) (.seq (.region 8 F8.r8.toArray false) (.seq (.region 9 F8.r9.toArray false) (.seq (.region 10 F8.r10.toArray false) .ret)))) (.seq (.region 11 F8.r11.toArray false) (.cond (.tmp 96) (.seq (.region 12 F8.r12.toArray false) (.seq (.region 13 F8.r13.toArray false) .ret)) (.seq (.region 14 F8.r14.toArray false) (.cond (.tmp 109) (.seq (.region 15 F8.r15.toArray false) (.seq (.seq (.region 16 F8.r16.toArray false) (.cond (.tmp 117) (.seq (.region 17 F8.r17.toArray false) .ret) .skip)) F8.t18)) (.seq (.region 23 F8.r23.toArray false) (.cond (.tmp 157) (.seq (.region 24 F8.r24.toArray false) (.seq (.region 25 F8.r25.toArray false) (.seq (.seq (.region 26 F8.r26.toArray false) (.cond (.tmp 167) (.seq (.region 27 F8.r27.toArray false) (.region 28 F8.r28.toArray false)) .skip)) F8.t29))) (.seq (.region 32 F8.r32.toArray false) (.cond (.tmp 212) (.seq (.region 33 F8.r33.toArray false) (.seq (.seq (.region 34 F8.r34.toArray false) (.cond (.tmp 221) (.seq (.region 35 F8.r35.toArray false) .ret) .skip)) F8.t36)) .skip)))))))))))))) F8.t38))
theorem F8.calls (hn : args.size ≤ 235) (h : cwE Tryz.prog F8.code (fnP Tryz.prog #[(.tmp 8)] R) (entry args) w) : Calls Tryz.prog 8 args w R :=
  calls_of_cwE (types := Tryz.prog.types) follows Tryz.func8 F8.code rfl (by kernel_rfl) hn h

def F9.r0 : List Oper := [
  oc 6 (.box 44 (.tmp 2)) 0,
  op 8 (.assign (.const (.bool false))) 4]
def F9.r1 : List Oper := [
  op 28 (.fieldAddr 44 (.tmp 6) 1) 0,
  od 29 (.load 3 (.tmp 28)) 3]
def F9.r2 : List Oper := [
  op 31 (.binOp .eql 3 (.tmp 29) (.const (.int .i64 4)) 3) 4,
  op 30 (.assign (.tmp 31)) 4]
def F9.r3 : List Oper := [
  op 32 (.move (.tmp 0)) 26,
  op 33 (.fieldAddr 44 (.tmp 6) 2) 0,
  od 34 (.load 3 (.tmp 33)) 3,
  oc 35 (.call ⟨(.value (.func 25)), #[(.tmp 32), (.tmp 34)], #[26, 3]⟩) 63,
  op 9 (.assign (.tmp 35)) 63]
def F9.r4 : List Oper := [
  op 36 (.move (.tmp 0)) 26,
  op 37 (.fieldAddr 44 (.tmp 6) 2) 0,
  od 38 (.load 3 (.tmp 37)) 3,
  oc 39 (.call ⟨(.value (.func 25)), #[(.tmp 36), (.tmp 38)], #[26, 3]⟩) 63,
  op 10 (.assign (.tmp 39)) 63]
def F9.r5 : List Oper := [
  op 40 (.move (.tmp 9)) 63,
  op 41 (.move (.tmp 1)) 28,
  op 42 (.fieldAddr 44 (.tmp 6) 2) 0,
  od 43 (.load 3 (.tmp 42)) 3,
  oc 44 (.call ⟨(.value (.func 23)), #[(.tmp 41), (.tmp 43)], #[28, 3]⟩) 63,
  oc 45 (.call ⟨(.value (.func 26)), #[(.tmp 40), (.tmp 44)], #[63, 63]⟩) 4,
  op 46 (.move (.tmp 45)) 4,
  ⟨(some 47), (.move (.tmp 10)), 63, "", #[], (some (46, true))⟩,
  ⟨(some 48), (.move (.tmp 1)), 28, "", #[], (some (46, true))⟩,
  ⟨(some 49), (.fieldAddr 44 (.tmp 6) 2), 0, "", #[], (some (46, true))⟩,
  ⟨(some 50), (.load 3 (.tmp 49)), 3, "", #[⟨0, .data⟩], (some (46, true))⟩,
  ⟨(some 51), (.call ⟨(.value (.func 23)), #[(.tmp 48), (.tmp 50)], #[28, 3]⟩), 63, "", #[⟨0, .chain⟩], (some (46, true))⟩,
  ⟨(some 52), (.call ⟨(.value (.func 26)), #[(.tmp 47), (.tmp 51)], #[63, 63]⟩), 4, "", #[⟨0, .chain⟩], (some (46, true))⟩,
  op 53 (.pick (.tmp 46) (.tmp 52) (.const (.bool false))) 4,
  op 11 (.assign (.tmp 53)) 4]
def F9.r6 : List Oper := [
  op 54 (.move (.tmp 3)) 30,
  op 55 (.move (.tmp 9)) 63,
  oc 56 (.call ⟨(.value (.func 27)), #[(.tmp 54), (.tmp 55)], #[30, 63]⟩) 0]
def F9.r7 : List Oper := [
  op 57 (.move (.tmp 3)) 30,
  op 58 (.move (.tmp 10)) 63,
  oc 59 (.call ⟨(.value (.func 27)), #[(.tmp 57), (.tmp 58)], #[30, 63]⟩) 0]
def F9.r8 : List Oper := [
  op 61 (.move (.tmp 0)) 26,
  op 62 (.fieldAddr 44 (.tmp 6) 2) 0,
  od 63 (.load 3 (.tmp 62)) 3,
  oc 64 (.call ⟨(.value (.func 28)), #[(.tmp 61), (.tmp 63)], #[26, 3]⟩) 67,
  op 60 (.move (.tmp 64)) 67,
  op 65 (.extract (.tmp 60) 0) 42,
  op 66 (.extract (.tmp 60) 1) 4,
  oc 12 (.alloc 42) 0,
  ⟨none, (.store 42 (.tmp 12) (.tmp 65)), 0, "", #[⟨0, .chain⟩], none⟩,
  op 13 (.assign (.tmp 66)) 4]
def F9.r9 : List Oper := [
  op 68 (.move (.tmp 1)) 28,
  op 69 (.fieldAddr 44 (.tmp 6) 2) 0,
  od 70 (.load 3 (.tmp 69)) 3,
  oc 71 (.call ⟨(.value (.func 29)), #[(.tmp 68), (.tmp 70)], #[28, 3]⟩) 67,
  op 67 (.move (.tmp 71)) 67,
  op 72 (.extract (.tmp 67) 0) 42,
  op 73 (.extract (.tmp 67) 1) 4,
  oc 14 (.alloc 42) 0,
  ⟨none, (.store 42 (.tmp 14) (.tmp 72)), 0, "", #[⟨0, .chain⟩], none⟩,
  op 15 (.assign (.tmp 73)) 4]
def F9.r10 : List Oper := [
  op 74 (.move (.tmp 11)) 4,
  op 75 (.move (.tmp 74)) 4,
  ⟨(some 76), (.load 42 (.tmp 12)), 42, "", #[⟨0, .data⟩], (some (75, true))⟩,
  ⟨(some 77), (.load 42 (.tmp 14)), 42, "", #[⟨0, .data⟩], (some (75, true))⟩,
  ⟨(some 78), (.binOp .eql 42 (.tmp 76) (.tmp 77) 42), 4, "", #[], (some (75, true))⟩,
  op 79 (.pick (.tmp 75) (.tmp 78) (.const (.bool false))) 4,
  op 80 (.move (.tmp 79)) 4,
  ⟨(some 81), (.move (.tmp 13)), 4, "", #[], (some (80, true))⟩,
  ⟨(some 82), (.move (.tmp 15)), 4, "", #[], (some (80, true))⟩,
  ⟨(some 83), (.binOp .eql 4 (.tmp 81) (.tmp 82) 4), 4, "", #[], (some (80, true))⟩,
  op 84 (.pick (.tmp 80) (.tmp 83) (.const (.bool false))) 4,
  op 8 (.assign (.tmp 84)) 4]
def F9.r11 : List Oper := [
  op 86 (.binOp .eql 3 (.tmp 29) (.const (.int .i64 5)) 3) 4,
  op 85 (.assign (.tmp 86)) 4]
def F9.r12 : List Oper := [
  op 87 (.move (.tmp 0)) 26,
  op 88 (.fieldAddr 44 (.tmp 6) 3) 0,
  op 89 (.fieldAddr 42 (.tmp 88) 0) 0,
  od 90 (.load 40 (.tmp 89)) 40,
  oc 91 (.call ⟨(.value (.func 14)), #[(.tmp 87), (.tmp 90)], #[26, 40]⟩) 32,
  op 16 (.assign (.tmp 91)) 32]
def F9.r13 : List Oper := [
  op 92 (.move (.tmp 0)) 26,
  op 93 (.fieldAddr 44 (.tmp 6) 3) 0,
  op 94 (.fieldAddr 42 (.tmp 93) 0) 0,
  od 95 (.load 40 (.tmp 94)) 40,
  oc 96 (.call ⟨(.value (.func 30)), #[(.tmp 92), (.tmp 95)], #[26, 40]⟩) 32,
  op 17 (.assign (.tmp 96)) 32]
def F9.r14 : List Oper := [
  op 97 (.move (.tmp 0)) 26,
  op 98 (.fieldAddr 44 (.tmp 6) 3) 0,
  op 99 (.fieldAddr 42 (.tmp 98) 0) 0,
  od 100 (.load 40 (.tmp 99)) 40,
  oc 101 (.call ⟨(.value (.func 14)), #[(.tmp 97), (.tmp 100)], #[26, 40]⟩) 32,
  op 18 (.assign (.tmp 101)) 32]
def F9.r15 : List Oper := [
  op 102 (.move (.tmp 0)) 26,
  op 103 (.fieldAddr 44 (.tmp 6) 3) 0,
  op 104 (.fieldAddr 42 (.tmp 103) 0) 0,
  od 105 (.load 40 (.tmp 104)) 40,
  oc 106 (.call ⟨(.value (.func 30)), #[(.tmp 102), (.tmp 105)], #[26, 40]⟩) 32,
  op 19 (.assign (.tmp 106)) 32]
def F9.r16 : List Oper := [
  op 107 (.move (.tmp 3)) 30,
  op 108 (.move (.tmp 16)) 32,
  op 109 (.move (.tmp 1)) 28,
  op 110 (.fieldAddr 44 (.tmp 6) 3) 0,
  op 111 (.fieldAddr 42 (.tmp 110) 0) 0,
  od 112 (.load 40 (.tmp 111)) 40,
  oc 113 (.call ⟨(.value (.func 31)), #[(.tmp 109), (.tmp 112)], #[28, 40]⟩) 32,
  oc 114 (.call ⟨(.value (.func 20)), #[(.tmp 107), (.tmp 108), (.tmp 113)], #[30, 32, 32]⟩) 4,
  op 20 (.assign (.tmp 114)) 4]
def F9.r17 : List Oper := [
  op 115 (.move (.tmp 3)) 30,
  op 116 (.move (.tmp 17)) 32,
  op 117 (.move (.tmp 1)) 28,
  op 118 (.fieldAddr 44 (.tmp 6) 3) 0,
  op 119 (.fieldAddr 42 (.tmp 118) 0) 0,
  od 120 (.load 40 (.tmp 119)) 40,
  oc 121 (.call ⟨(.value (.func 24)), #[(.tmp 117), (.tmp 120)], #[28, 40]⟩) 32,
  oc 122 (.call ⟨(.value (.func 20)), #[(.tmp 115), (.tmp 116), (.tmp 121)], #[30, 32, 32]⟩) 4,
  op 21 (.assign (.tmp 122)) 4]
def F9.r18 : List Oper := [
  op 123 (.move (.tmp 3)) 30,
  op 124 (.move (.tmp 18)) 32,
  op 125 (.move (.tmp 1)) 28,
  op 126 (.fieldAddr 44 (.tmp 6) 3) 0,
  op 127 (.fieldAddr 42 (.tmp 126) 0) 0,
  od 128 (.load 40 (.tmp 127)) 40,
  oc 129 (.call ⟨(.value (.func 31)), #[(.tmp 125), (.tmp 128)], #[28, 40]⟩) 32,
  oc 130 (.call ⟨(.value (.func 20)), #[(.tmp 123), (.tmp 124), (.tmp 129)], #[30, 32, 32]⟩) 4,
  op 22 (.assign (.tmp 130)) 4]
def F9.r19 : List Oper := [
  op 131 (.move (.tmp 3)) 30,
  op 132 (.move (.tmp 19)) 32,
  op 133 (.move (.tmp 1)) 28,
  op 134 (.fieldAddr 44 (.tmp 6) 3) 0,
  op 135 (.fieldAddr 42 (.tmp 134) 0) 0,
  od 136 (.load 40 (.tmp 135)) 40,
  oc 137 (.call ⟨(.value (.func 24)), #[(.tmp 133), (.tmp 136)], #[28, 40]⟩) 32,
  oc 138 (.call ⟨(.value (.func 20)), #[(.tmp 131), (.tmp 132), (.tmp 137)], #[30, 32, 32]⟩) 4,
  op 23 (.assign (.tmp 138)) 4]
def F9.r20 : List Oper := [
  op 139 (.move (.tmp 20)) 4,
  op 140 (.move (.tmp 139)) 4,
  ⟨(some 141), (.move (.tmp 21)), 4, "", #[], (some (140, true))⟩,
  op 142 (.pick (.tmp 140) (.tmp 141) (.const (.bool false))) 4,
  op 143 (.move (.tmp 142)) 4,
  ⟨(some 144), (.move (.tmp 22)), 4, "", #[], (some (143, true))⟩,
  op 145 (.pick (.tmp 143) (.tmp 144) (.const (.bool false))) 4,
  op 146 (.move (.tmp 145)) 4,
  ⟨(some 147), (.move (.tmp 23)), 4, "", #[], (some (146, true))⟩,
  op 148 (.pick (.tmp 146) (.tmp 147) (.const (.bool false))) 4,
  op 8 (.assign (.tmp 148)) 4]
def F9.r21 : List Oper := [
  op 150 (.binOp .eql 3 (.tmp 29) (.const (.int .i64 6)) 3) 4,
  op 149 (.assign (.tmp 150)) 4]
def F9.r22 : List Oper := [
  op 151 (.move (.tmp 0)) 26,
  oc 152 (.call ⟨(.value (.func 32)), #[(.tmp 151)], #[26]⟩) 32,
  op 24 (.assign (.tmp 152)) 32]
def F9.r23 : List Oper := [
  op 153 (.move (.tmp 0)) 26,
  oc 154 (.call ⟨(.value (.func 32)), #[(.tmp 153)], #[26]⟩) 32,
  op 25 (.assign (.tmp 154)) 32]
def F9.r24 : List Oper := [
  op 155 (.move (.tmp 3)) 30,
  op 156 (.move (.tmp 24)) 32,
  op 157 (.move (.tmp 1)) 28,
  oc 158 (.call ⟨(.value (.func 33)), #[(.tmp 157)], #[28]⟩) 32,
  oc 159 (.call ⟨(.value (.func 20)), #[(.tmp 155), (.tmp 156), (.tmp 158)], #[30, 32, 32]⟩) 4,
  op 26 (.assign (.tmp 159)) 4]
def F9.r25 : List Oper := [
  op 160 (.move (.tmp 3)) 30,
  op 161 (.move (.tmp 25)) 32,
  op 162 (.move (.tmp 1)) 28,
  oc 163 (.call ⟨(.value (.func 33)), #[(.tmp 162)], #[28]⟩) 32,
  oc 164 (.call ⟨(.value (.func 20)), #[(.tmp 160), (.tmp 161), (.tmp 163)], #[30, 32, 32]⟩) 4,
  op 27 (.assign (.tmp 164)) 4]
def F9.r26 : List Oper := [
  op 165 (.move (.tmp 26)) 4,
  op 166 (.move (.tmp 165)) 4,
  ⟨(some 167), (.move (.tmp 27)), 4, "", #[], (some (166, true))⟩,
  op 168 (.pick (.tmp 166) (.tmp 167) (.const (.bool false))) 4,
  op 169 (.move (.tmp 168)) 4,
  ⟨(some 170), (.move (.tmp 0)), 26, "", #[], (some (169, true))⟩,
  ⟨(some 171), (.call ⟨(.value (.func 17)), #[(.tmp 170)], #[26]⟩), 4, "", #[⟨0, .chain⟩], (some (169, true))⟩,
  ⟨(some 172), (.move (.tmp 1)), 28, "", #[], (some (169, true))⟩,
  ⟨(some 173), (.call ⟨(.value (.func 34)), #[(.tmp 172)], #[28]⟩), 4, "", #[⟨0, .chain⟩], (some (169, true))⟩,
  ⟨(some 174), (.binOp .eql 4 (.tmp 171) (.tmp 173) 4), 4, "", #[], (some (169, true))⟩,
  op 175 (.pick (.tmp 169) (.tmp 174) (.const (.bool false))) 4,
  op 8 (.assign (.tmp 175)) 4]
def F9.r27 : List Oper := [
  op 8 (.assign (.const (.bool true))) 4]
def F9.t27 : Cd := (.seq (.region 27 F9.r27.toArray false) .ret)
theorem F9.t27_eq {θ : Tag (F9.t27, Q, e, w)} : cwE P F9.t27 Q e w θ = cwE P (.seq (.region 27 F9.r27.toArray false) .ret) Q e w := rfl
def F9.code : Cd := (.seq (.region 0 F9.r0.toArray false) (.seq (.seq (.region 1 F9.r1.toArray false) (.block 0 (.seq (.region 2 F9.r2.toArray false) (.cond (.tmp 30) (.seq (.region 3 F9.r3.toArray false) (.seq (.region 4 F9.r4.toArray false) (.seq (.region 5 F9.r5.toArray false) (.seq (.region 6 F9.r6.toArray false) (.seq (.region 7 F9.r7.toArray false) (.seq (.region 8 F9.r8.toArray false) (.seq (.region 9 F9.r9.toArray false) (.seq (.region 10 F9.r10.toArray false) .ret)))))))) (.seq (.region 11 F9.r11.toArray false) (.cond (.tmp 85) (.seq (.region 12 F9.r12.toArray false) (.seq (.region 13 F9.r13.toArray false) (.seq (.region 14 F9.r14.toArray false) (.seq (.region 15 F9.r15.toArray false) (.seq (.region 16 F9.r16.toArray false) (.seq (.region 17 F9.r17.toArray false) (.seq (.region 18 F9.r18.toArray false) (.seq (.region 19 F9.r19.toArray false) (.seq (.region 20 F9.r20.toArray false) .ret))))))))) (.seq (.region 21 F9.r21.toArray false) (.cond (.tmp 149) (.seq (.region 22 F9.r22.toArray false) (.seq (.region 23 F9.r23.toArray false) (.seq (.region 24 F9.r24.toArray false) (.seq (.region 25 F9.r25.toArray false) (.seq (.region 26 F9.r26.toArray false) .ret))))) .skip)))))))) F9.t27))
theorem F9.calls (hn : args.size ≤ 176) (h : cwE Tryz.prog F9.code (fnP Tryz.prog #[(.tmp 8)] R) (entry args) w) : Calls Tryz.prog 9 args w R :=
  calls_of_cwE (types := Tryz.prog.types) follows Tryz.func9 F9.code rfl (by kernel_rfl) hn h

def F10.r0 : List Oper := [
  op 2 (.assign (.const (.bool false))) 4]
def F10.r1 : List Oper := [
  op 3 (.assign (.const (.bool true))) 4]
def F10.r2 : List Oper := [
  op 4 (.assign (.const (.int .i64 0))) 3]
def F10.r3 : List Oper := [
  op 9 (.move (.tmp 4)) 3,
  op 10 (.move (.tmp 0)) 30,
  op 11 (.nilCheck (.tmp 10)) 0,
  op 12 (.fieldAddr 35 (.tmp 11) 4) 0,
  od 13 (.load 31 (.tmp 12)) 31,
  op 14 (.call ⟨(.builtin .len), #[(.tmp 13)], #[31]⟩) 3,
  op 15 (.binOp .lss 3 (.tmp 9) (.tmp 14) 3) 4]
def F10.r5 : List Oper := [
  ⟨(some 18), (.move (.tmp 0)), 30, "", #[], none⟩,
  ⟨(some 19), (.nilCheck (.tmp 18)), 0, "", #[], none⟩,
  ⟨(some 20), (.fieldAddr 35 (.tmp 19) 4), 0, "", #[], none⟩,
  ⟨(some 22), (.move (.tmp 4)), 3, "", #[], none⟩,
  ⟨(some 25), (.move (.tmp 0)), 30, "", #[], none⟩,
  ⟨(some 26), (.nilCheck (.tmp 25)), 0, "", #[], none⟩,
  ⟨(some 27), (.fieldAddr 35 (.tmp 26) 5), 0, "", #[], none⟩,
  ⟨(some 29), (.move (.tmp 4)), 3, "", #[], none⟩,
  ⟨(some 21), (.load 31 (.tmp 20)), 31, "", #[⟨16384, .data⟩], none⟩,
  ⟨(some 23), (.indexAddr 31 (.tmp 21) (.tmp 22)), 0, "", #[], none⟩,
  ⟨(some 24), (.load 32 (.tmp 23)), 32, "", #[⟨16384, .data⟩], none⟩,
  ⟨(some 28), (.load 31 (.tmp 27)), 31, "", #[⟨16384, .data⟩], none⟩,
  ⟨(some 30), (.indexAddr 31 (.tmp 28) (.tmp 29)), 0, "", #[], none⟩,
  ⟨(some 31), (.load 32 (.tmp 30)), 32, "", #[⟨16384, .data⟩], none⟩,
  ⟨(some 32), (.call ⟨(.value (.func 16)), #[(.tmp 24), (.tmp 31)], #[32, 32]⟩), 4, "", #[⟨14, .chain⟩], none⟩,
  ⟨(some 5), (.assign (.tmp 32)), 4, "", #[], none⟩]
def F10.r6 : List Oper := [
  op 33 (.move (.tmp 3)) 4,
  op 34 (.move (.tmp 33)) 4,
  ⟨(some 35), (.move (.tmp 5)), 4, "", #[], (some (34, true))⟩,
  op 36 (.pick (.tmp 34) (.tmp 35) (.const (.bool false))) 4,
  op 3 (.assign (.tmp 36)) 4]
def F10.r4 : List Oper := [
  op 16 (.move (.tmp 4)) 3,
  op 17 (.binOp .add 3 (.tmp 16) (.const (.int .i64 1)) 3) 3,
  op 4 (.assign (.tmp 17)) 3]
def F10.r7 : List Oper := [
  op 6 (.assign (.const (.int .i64 0))) 3]
def F10.r8 : List Oper := [
  op 37 (.move (.tmp 6)) 3,
  op 38 (.move (.tmp 0)) 30,
  op 39 (.nilCheck (.tmp 38)) 0,
  op 40 (.fieldAddr 35 (.tmp 39) 8) 0,
  od 41 (.load 33 (.tmp 40)) 33,
  op 42 (.call ⟨(.builtin .len), #[(.tmp 41)], #[33]⟩) 3,
  op 43 (.binOp .lss 3 (.tmp 37) (.tmp 42) 3) 4]
def F10.r10 : List Oper := [
  ⟨(some 46), (.move (.tmp 0)), 30, "", #[], none⟩,
  ⟨(some 47), (.nilCheck (.tmp 46)), 0, "", #[], none⟩,
  ⟨(some 48), (.fieldAddr 35 (.tmp 47) 8), 0, "", #[], none⟩,
  ⟨(some 50), (.move (.tmp 6)), 3, "", #[], none⟩,
  ⟨(some 53), (.move (.tmp 0)), 30, "", #[], none⟩,
  ⟨(some 54), (.nilCheck (.tmp 53)), 0, "", #[], none⟩,
  ⟨(some 55), (.fieldAddr 35 (.tmp 54) 9), 0, "", #[], none⟩,
  ⟨(some 57), (.move (.tmp 6)), 3, "", #[], none⟩,
  ⟨(some 49), (.load 33 (.tmp 48)), 33, "", #[⟨16384, .data⟩], none⟩,
  ⟨(some 51), (.indexAddr 33 (.tmp 49) (.tmp 50)), 0, "", #[], none⟩,
  ⟨(some 52), (.load 63 (.tmp 51)), 63, "", #[⟨16384, .data⟩], none⟩,
  ⟨(some 56), (.load 33 (.tmp 55)), 33, "", #[⟨16384, .data⟩], none⟩,
  ⟨(some 58), (.indexAddr 33 (.tmp 56) (.tmp 57)), 0, "", #[], none⟩,
  ⟨(some 59), (.load 63 (.tmp 58)), 63, "", #[⟨16384, .data⟩], none⟩,
  ⟨(some 60), (.call ⟨(.value (.func 26)), #[(.tmp 52), (.tmp 59)], #[63, 63]⟩), 4, "", #[⟨14, .chain⟩], none⟩,
  ⟨(some 7), (.assign (.tmp 60)), 4, "", #[], none⟩]
def F10.r11 : List Oper := [
  op 61 (.move (.tmp 3)) 4,
  op 62 (.move (.tmp 61)) 4,
  ⟨(some 63), (.move (.tmp 7)), 4, "", #[], (some (62, true))⟩,
  op 64 (.pick (.tmp 62) (.tmp 63) (.const (.bool false))) 4,
  op 3 (.assign (.tmp 64)) 4]
def F10.r9 : List Oper := [
  op 44 (.move (.tmp 6)) 3,
  op 45 (.binOp .add 3 (.tmp 44) (.const (.int .i64 1)) 3) 3,
  op 6 (.assign (.tmp 45)) 3]
def F10.r12 : List Oper := [
  op 65 (.move (.tmp 0)) 30,
  oc 66 (.call ⟨(.value (.func 35)), #[(.tmp 65)], #[30]⟩) 0]
def F10.r13 : List Oper := [
  op 67 (.move (.tmp 0)) 30,
  op 68 (.move (.tmp 0)) 30,
  op 69 (.nilCheck (.tmp 68)) 0,
  op 70 (.fieldAddr 35 (.tmp 69) 6) 0,
  od 71 (.load 31 (.tmp 70)) 31,
  op 72 (.nilCheck (.tmp 67)) 0,
  op 73 (.fieldAddr 35 (.tmp 72) 4) 0,
  ⟨none, (.store 31 (.tmp 73) (.tmp 71)), 0, "", #[⟨0, .chain⟩], none⟩]
def F10.r14 : List Oper := [
  op 74 (.move (.tmp 0)) 30,
  op 75 (.move (.tmp 0)) 30,
  op 76 (.nilCheck (.tmp 75)) 0,
  op 77 (.fieldAddr 35 (.tmp 76) 7) 0,
  od 78 (.load 31 (.tmp 77)) 31,
  op 79 (.nilCheck (.tmp 74)) 0,
  op 80 (.fieldAddr 35 (.tmp 79) 5) 0,
  ⟨none, (.store 31 (.tmp 80) (.tmp 78)), 0, "", #[⟨0, .chain⟩], none⟩]
def F10.r15 : List Oper := [
  op 81 (.move (.tmp 0)) 30,
  op 82 (.move (.tmp 0)) 30,
  op 83 (.nilCheck (.tmp 82)) 0,
  op 84 (.fieldAddr 35 (.tmp 83) 10) 0,
  od 85 (.load 33 (.tmp 84)) 33,
  op 86 (.nilCheck (.tmp 81)) 0,
  op 87 (.fieldAddr 35 (.tmp 86) 8) 0,
  ⟨none, (.store 33 (.tmp 87) (.tmp 85)), 0, "", #[⟨0, .chain⟩], none⟩]
def F10.r16 : List Oper := [
  op 88 (.move (.tmp 0)) 30,
  op 89 (.move (.tmp 0)) 30,
  op 90 (.nilCheck (.tmp 89)) 0,
  op 91 (.fieldAddr 35 (.tmp 90) 11) 0,
  od 92 (.load 33 (.tmp 91)) 33,
  op 93 (.nilCheck (.tmp 88)) 0,
  op 94 (.fieldAddr 35 (.tmp 93) 9) 0,
  ⟨none, (.store 33 (.tmp 94) (.tmp 92)), 0, "", #[⟨0, .chain⟩], none⟩]
def F10.r17 : List Oper := [
  op 95 (.move (.tmp 0)) 30,
  op 96 (.nilCheck (.tmp 95)) 0,
  op 97 (.fieldAddr 35 (.tmp 96) 6) 0,
  ⟨none, (.store 31 (.tmp 97) (.const (.slice none 0 0))), 0, "", #[⟨0, .chain⟩], none⟩]
def F10.r18 : List Oper := [
  op 98 (.move (.tmp 0)) 30,
  op 99 (.nilCheck (.tmp 98)) 0,
  op 100 (.fieldAddr 35 (.tmp 99) 7) 0,
  ⟨none, (.store 31 (.tmp 100) (.const (.slice none 0 0))), 0, "", #[⟨0, .chain⟩], none⟩]
def F10.r19 : List Oper := [
  op 101 (.move (.tmp 0)) 30,
  op 102 (.nilCheck (.tmp 101)) 0,
  op 103 (.fieldAddr 35 (.tmp 102) 10) 0,
  ⟨none, (.store 33 (.tmp 103) (.const (.slice none 0 0))), 0, "", #[⟨0, .chain⟩], none⟩]
def F10.r20 : List Oper := [
  op 104 (.move (.tmp 0)) 30,
  op 105 (.nilCheck (.tmp 104)) 0,
  op 106 (.fieldAddr 35 (.tmp 105) 11) 0,
  ⟨none, (.store 33 (.tmp 106) (.const (.slice none 0 0))), 0, "", #[⟨0, .chain⟩], none⟩]
def F10.r21 : List Oper := [
  op 107 (.move (.tmp 0)) 30,
  oc 108 (.call ⟨(.value (.func 36)), #[(.tmp 107)], #[30]⟩) 4,
  op 8 (.assign (.tmp 108)) 4]
def F10.r22 : List Oper := [
  op 109 (.move (.tmp 3)) 4,
  op 110 (.move (.tmp 109)) 4,
  ⟨(some 111), (.move (.tmp 8)), 4, "", #[], (some (110, true))⟩,
  op 112 (.pick (.tmp 110) (.tmp 111) (.const (.bool false))) 4,
  op 2 (.assign (.tmp 112)) 4]
def F10.t4 : Cd := (.region 4 F10.r4.toArray false)
theorem F10.t4_eq {θ : Tag (F10.t4, Q, e, w)} : cwE P F10.t4 Q e w θ = cwE P (.region 4 F10.r4.toArray false) Q e w := rfl
def F10.t5 : Cd := (.seq (.block 1 (.seq (.region 5 F10.r5.toArray true) (.region 6 F10.r6.toArray false))) F10.t4)
theorem F10.t5_eq {θ : Tag (F10.t5, Q, e, w)} : cwE P F10.t5 Q e w θ = cwE P (.seq (.block 1 (.seq (.region 5 F10.r5.toArray true) (.region 6 F10.r6.toArray false))) F10.t4) Q e w := rfl
def F10.t9 : Cd := (.region 9 F10.r9.toArray false)
theorem F10.t9_eq {θ : Tag (F10.t9, Q, e, w)} : cwE P F10.t9 Q e w θ = cwE P (.region 9 F10.r9.toArray false) Q e w := rfl
def F10.t10 : Cd := (.seq (.block 3 (.seq (.region 10 F10.r10.toArray true) (.region 11 F10.r11.toArray false))) F10.t9)
theorem F10.t10_eq {θ : Tag (F10.t10, Q, e, w)} : cwE P F10.t10 Q e w θ = cwE P (.seq (.block 3 (.seq (.region 10 F10.r10.toArray true) (.region 11 F10.r11.toArray false))) F10.t9) Q e w := rfl
def F10.t12 : Cd := (.seq (.region 12 F10.r12.toArray false) (.seq (.region 13 F10.r13.toArray false) (.seq (.region 14 F10.r14.toArray false) (.seq (.region 15 F10.r15.toArray false) (.seq (.region 16 F10.r16.toArray false) (.seq (.region 17 F10.r17.toArray false) (.seq (.region 18 F10.r18.toArray false) (.seq (.region 19 F10.r19.toArray false) (.seq (.region 20 F10.r20.toArray false) (.seq (.region 21 F10.r21.toArray false) (.seq (.region 22 F10.r22.toArray false) .ret)))))))))))
theorem F10.t12_eq {θ : Tag (F10.t12, Q, e, w)} : cwE P F10.t12 Q e w θ = cwE P (.seq (.region 12 F10.r12.toArray false) (.seq (.region 13 F10.r13.toArray false) (.seq (.region 14 F10.r14.toArray false) (.seq (.region 15 F10.r15.toArray false) (.seq (.region 16 F10.r16.toArray false) (.seq (.region 17 F10.r17.toArray false) (.seq (.region 18 F10.r18.toArray false) (.seq (.region 19 F10.r19.toArray false) (.seq (.region 20 F10.r20.toArray false) (.seq (.region 21 F10.r21.toArray false) (.seq (.region 22 F10.r22.toArray false) .ret))))))))))) Q e w := rfl
def F10.t7 : Cd := (.seq (.seq (.region 7 F10.r7.toArray false) (.block 2 (.loop (.seq (.seq (.region 8 F10.r8.toArray false) (.cond (.tmp 43) .skip (.exit 2))) F10.t10)))) F10.t12)
theorem F10.t7_eq {θ : Tag (F10.t7, Q, e, w)} : cwE P F10.t7 Q e w θ = cwE P (.seq (.seq (.region 7 F10.r7.toArray false) (.block 2 (.loop (.seq (.seq (.region 8 F10.r8.toArray false) (.cond (.tmp 43) .skip (.exit 2))) F10.t10)))) F10.t12) Q e w := rfl
def F10.code : Cd := (.seq (.region 0 F10.r0.toArray false) (.seq (.region 1 F10.r1.toArray false) (.seq (.seq (.region 2 F10.r2.toArray false) (.block 0 (.loop (.seq (.seq (.region 3 F10.r3.toArray false) (.cond (.tmp 15) .skip (.exit 0))) F10.t5)))) F10.t7)))
theorem F10.calls (hn : args.size ≤ 113) (h : cwE Tryz.prog F10.code (fnP Tryz.prog #[(.tmp 2)] R) (entry args) w) : Calls Tryz.prog 10 args w R :=
  calls_of_cwE (types := Tryz.prog.types) follows Tryz.func10 F10.code rfl (by kernel_rfl) hn h

def F11.r0 : List Oper := [
  op 2 (.assign (.const (.bool false))) 4]
def F11.r1 : List Oper := [
  op 5 (.move (.tmp 0)) 30,
  oc 6 (.call ⟨(.value (.func 10)), #[(.tmp 5)], #[30]⟩) 4,
  op 3 (.assign (.tmp 6)) 4]
def F11.r2 : List Oper := [
  op 7 (.move (.tmp 0)) 30,
  oc 8 (.call ⟨(.value (.func 10)), #[(.tmp 7)], #[30]⟩) 4,
  op 4 (.assign (.tmp 8)) 4]
def F11.r3 : List Oper := [
  op 9 (.move (.tmp 3)) 4,
  op 10 (.move (.tmp 9)) 4,
  ⟨(some 11), (.move (.tmp 4)), 4, "", #[], (some (10, true))⟩,
  op 12 (.pick (.tmp 10) (.tmp 11) (.const (.bool false))) 4,
  op 2 (.assign (.tmp 12)) 4]
def F11.code : Cd := (.seq (.region 0 F11.r0.toArray false) (.seq (.region 1 F11.r1.toArray false) (.seq (.region 2 F11.r2.toArray false) (.seq (.region 3 F11.r3.toArray false) .ret))))
theorem F11.calls (hn : args.size ≤ 13) (h : cwE Tryz.prog F11.code (fnP Tryz.prog #[(.tmp 2)] R) (entry args) w) : Calls Tryz.prog 11 args w R :=
  calls_of_cwE (types := Tryz.prog.types) follows Tryz.func11 F11.code rfl (by kernel_rfl) hn h

def F12.r0 : List Oper := [
  oc 2 (.alloc 40) 0]
def F12.r1 : List Oper := [
  op 3 (.move (.tmp 0)) 3,
  op 4 (.convert 3 38 (.tmp 3)) 38,
  op 5 (.build 40 #[(0, (.const (.int .u8 3))), (2, (.tmp 4))]) 40,
  ⟨none, (.store 40 (.tmp 2) (.tmp 5)), 0, "", #[⟨0, .chain⟩], none⟩]
def F12.code : Cd := (.seq (.region 0 F12.r0.toArray false) (.seq (.region 1 F12.r1.toArray false) .ret))
theorem F12.calls (hn : args.size ≤ 6) (h : cwE Tryz.prog F12.code (fnP Tryz.prog #[(.cell 2 40)] R) (entry args) w) : Calls Tryz.prog 12 args w R :=
  calls_of_cwE (types := Tryz.prog.types) follows Tryz.func12 F12.code rfl (by kernel_rfl) hn h

def F13.r0 : List Oper := [
  oc 5 (.box 42 (.tmp 2)) 0,
  op 6 (.assign (.const (.bool false))) 4,
  op 7 (.assign (.const (.int .i64 0))) 48]
def F13.r1 : List Oper := [
  op 13 (.move (.tmp 0)) 26,
  op 14 (.nilCheck (.tmp 13)) 0,
  op 15 (.fieldAddr 58 (.tmp 14) 1) 0,
  od 16 (.load 56 (.tmp 15)) 56,
  op 17 (.move (.tmp 1)) 3,
  od 18 (.lookup 56 (.tmp 16) (.tmp 17) true) 67,
  op 12 (.move (.tmp 18)) 67,
  op 19 (.extract (.tmp 12) 0) 42,
  op 20 (.extract (.tmp 12) 1) 4,
  oc 8 (.alloc 42) 0,
  ⟨none, (.store 42 (.tmp 8) (.tmp 19)), 0, "", #[⟨0, .chain⟩], none⟩,
  op 9 (.assign (.tmp 20)) 4]
def F13.r2 : List Oper := [
  op 21 (.move (.tmp 9)) 4]
def F13.r3 : List Oper := [
  op 6 (.assign (.const (.bool false))) 4,
  op 7 (.assign (.const (.int .i64 131))) 48]
def F13.r4 : List Oper := [
  ⟨(some 22), (.move (.tmp 0)), 26, "", #[], none⟩,
  ⟨(some 23), (.nilCheck (.tmp 22)), 0, "", #[], none⟩,
  ⟨(some 24), (.fieldAddr 58 (.tmp 23) 0), 0, "", #[], none⟩,
  ⟨(some 26), (.fieldAddr 42 (.tmp 5) 0), 0, "", #[], none⟩,
  ⟨(some 25), (.load 55 (.tmp 24)), 55, "", #[⟨0, .data⟩], none⟩,
  ⟨(some 27), (.load 40 (.tmp 26)), 40, "", #[⟨0, .data⟩], none⟩,
  ⟨(some 28), (.lookup 55 (.tmp 25) (.tmp 27) false), 70, "", #[⟨0, .data⟩], none⟩,
  ⟨(some 10), (.assign (.tmp 28)), 70, "", #[], none⟩]
def F13.r5 : List Oper := [
  op 29 (.move (.tmp 10)) 70,
  op 30 (.binOp .eql 70 (.tmp 29) (.const (.pointer none)) 70) 4]
def F13.r6 : List Oper := [
  op 31 (.build 73 #[]) 73,
  oc 32 (.box 73 (.tmp 31)) 70,
  op 10 (.assign (.tmp 32)) 70]
def F13.r7 : List Oper := [
  ⟨(some 33), (.move (.tmp 0)), 26, "", #[], none⟩,
  ⟨(some 34), (.nilCheck (.tmp 33)), 0, "", #[], none⟩,
  ⟨(some 35), (.fieldAddr 58 (.tmp 34) 0), 0, "", #[], none⟩,
  ⟨(some 37), (.fieldAddr 42 (.tmp 5) 0), 0, "", #[], none⟩,
  ⟨(some 39), (.move (.tmp 10)), 70, "", #[], none⟩,
  ⟨(some 36), (.load 55 (.tmp 35)), 55, "", #[⟨128, .data⟩], none⟩,
  ⟨(some 38), (.load 40 (.tmp 37)), 40, "", #[⟨128, .data⟩], none⟩,
  ⟨none, (.mapUpdate 55 (.tmp 36) (.tmp 38) (.tmp 39)), 0, "", #[⟨7, .chain⟩], none⟩]
def F13.r8 : List Oper := [
  op 40 (.move (.tmp 10)) 70,
  op 41 (.move (.tmp 1)) 3,
  oc 42 (.call ⟨(.value (.func 37)), #[(.tmp 40), (.tmp 41)], #[70, 3]⟩) 3,
  op 43 (.binOp .geq 3 (.tmp 42) (.const (.int .i64 0)) 3) 4]
def F13.r9 : List Oper := [
  op 6 (.assign (.const (.bool false))) 4,
  op 7 (.assign (.const (.int .i64 130))) 48]
def F13.r10 : List Oper := [
  op 44 (.move (.tmp 1)) 3,
  op 45 (.fieldAddr 42 (.tmp 5) 1) 0,
  od 46 (.load 4 (.tmp 45)) 4,
  op 47 (.build 76 #[(0, (.tmp 44)), (1, (.tmp 46))]) 76,
  oc 11 (.alloc 76) 0,
  ⟨none, (.store 76 (.tmp 11) (.tmp 47)), 0, "", #[⟨0, .chain⟩], none⟩]
def F13.r11 : List Oper := [
  op 48 (.move (.tmp 10)) 70,
  op 49 (.nilCheck (.tmp 48)) 0,
  op 50 (.fieldAddr 73 (.tmp 49) 1) 0,
  od 51 (.load 71 (.tmp 50)) 71,
  op 52 (.call ⟨(.builtin .len), #[(.tmp 51)], #[71]⟩) 3,
  op 53 (.binOp .eql 3 (.tmp 52) (.const (.int .i64 0)) 3) 4,
  op 54 (.move (.tmp 53)) 4,
  ⟨(some 55), (.move (.tmp 10)), 70, "", #[], (some (54, true))⟩,
  ⟨(some 56), (.fieldAddr 42 (.tmp 5) 1), 0, "", #[], (some (54, true))⟩,
  ⟨(some 57), (.load 4 (.tmp 56)), 4, "", #[⟨0, .data⟩], (some (54, true))⟩,
  ⟨(some 58), (.call ⟨(.value (.func 38)), #[(.tmp 55), (.tmp 57)], #[70, 4]⟩), 4, "", #[⟨0, .chain⟩], (some (54, true))⟩,
  op 59 (.pick (.tmp 54) (.tmp 58) (.const (.bool false))) 4]
def F13.r12 : List Oper := [
  ⟨(some 60), (.move (.tmp 10)), 70, "", #[], none⟩,
  ⟨(some 61), (.move (.tmp 10)), 70, "", #[], none⟩,
  ⟨(some 62), (.nilCheck (.tmp 61)), 0, "", #[], none⟩,
  ⟨(some 63), (.fieldAddr 73 (.tmp 62) 0), 0, "", #[], none⟩,
  ⟨(some 64), (.load 71 (.tmp 63)), 71, "", #[⟨1152, .data⟩], none⟩,
  ⟨(some 65), (.load 76 (.tmp 11)), 76, "", #[⟨1216, .data⟩], none⟩,
  ⟨(some 66), (.buildSlice 71 1 #[(0, (.tmp 65))]), 71, "", #[⟨6, .chain⟩], none⟩,
  ⟨(some 67), (.call ⟨(.builtin .append), #[(.tmp 64), (.tmp 66)], #[71, 71]⟩), 71, "", #[⟨7, .chain⟩], none⟩,
  ⟨(some 68), (.nilCheck (.tmp 60)), 0, "", #[], none⟩,
  ⟨(some 69), (.fieldAddr 73 (.tmp 68) 0), 0, "", #[], none⟩,
  ⟨none, (.store 71 (.tmp 69) (.tmp 67)), 0, "", #[⟨10, .chain⟩], none⟩]
def F13.r13 : List Oper := [
  op 6 (.assign (.const (.bool true))) 4,
  op 7 (.assign (.const (.int .i64 0))) 48]
def F13.r14 : List Oper := [
  ⟨(some 70), (.move (.tmp 10)), 70, "", #[], none⟩,
  ⟨(some 71), (.move (.tmp 10)), 70, "", #[], none⟩,
  ⟨(some 72), (.nilCheck (.tmp 71)), 0, "", #[], none⟩,
  ⟨(some 73), (.fieldAddr 73 (.tmp 72) 1), 0, "", #[], none⟩,
  ⟨(some 74), (.load 71 (.tmp 73)), 71, "", #[⟨1152, .data⟩], none⟩,
  ⟨(some 75), (.load 76 (.tmp 11)), 76, "", #[⟨1216, .data⟩], none⟩,
  ⟨(some 76), (.buildSlice 71 1 #[(0, (.tmp 75))]), 71, "", #[⟨6, .chain⟩], none⟩,
  ⟨(some 77), (.call ⟨(.builtin .append), #[(.tmp 74), (.tmp 76)], #[71, 71]⟩), 71, "", #[⟨7, .chain⟩], none⟩,
  ⟨(some 78), (.nilCheck (.tmp 70)), 0, "", #[], none⟩,
  ⟨(some 79), (.fieldAddr 73 (.tmp 78) 1), 0, "", #[], none⟩,
  ⟨none, (.store 71 (.tmp 79) (.tmp 77)), 0, "", #[⟨10, .chain⟩], none⟩]
def F13.r15 : List Oper := [
  ⟨(some 80), (.move (.tmp 0)), 26, "", #[], none⟩,
  ⟨(some 81), (.nilCheck (.tmp 80)), 0, "", #[], none⟩,
  ⟨(some 82), (.fieldAddr 58 (.tmp 81) 1), 0, "", #[], none⟩,
  ⟨(some 84), (.move (.tmp 1)), 3, "", #[], none⟩,
  ⟨(some 83), (.load 56 (.tmp 82)), 56, "", #[⟨64, .data⟩], none⟩,
  ⟨(some 85), (.load 42 (.tmp 5)), 42, "", #[⟨64, .data⟩], none⟩,
  ⟨none, (.mapUpdate 56 (.tmp 83) (.tmp 84) (.tmp 85)), 0, "", #[⟨6, .chain⟩], none⟩]
def F13.r16 : List Oper := [
  op 6 (.assign (.const (.bool false))) 4,
  op 7 (.assign (.const (.int .i64 0))) 48]
def F13.t14 : Cd := (.seq (.region 14 F13.r14.toArray true) (.seq (.region 15 F13.r15.toArray true) (.seq (.region 16 F13.r16.toArray false) .ret)))
theorem F13.t14_eq {θ : Tag (F13.t14, Q, e, w)} : cwE P F13.t14 Q e w θ = cwE P (.seq (.region 14 F13.r14.toArray true) (.seq (.region 15 F13.r15.toArray true) (.seq (.region 16 F13.r16.toArray false) .ret))) Q e w := rfl
def F13.t10 : Cd := (.seq (.region 10 F13.r10.toArray false) (.seq (.seq (.region 11 F13.r11.toArray false) (.cond (.tmp 59) (.seq (.region 12 F13.r12.toArray true) (.seq (.region 13 F13.r13.toArray false) .ret)) .skip)) F13.t14))
theorem F13.t10_eq {θ : Tag (F13.t10, Q, e, w)} : cwE P F13.t10 Q e w θ = cwE P (.seq (.region 10 F13.r10.toArray false) (.seq (.seq (.region 11 F13.r11.toArray false) (.cond (.tmp 59) (.seq (.region 12 F13.r12.toArray true) (.seq (.region 13 F13.r13.toArray false) .ret)) .skip)) F13.t14)) Q e w := rfl
def F13.t8 : Cd := (.seq (.seq (.region 8 F13.r8.toArray false) (.cond (.tmp 43) (.seq (.region 9 F13.r9.toArray false) .ret) .skip)) F13.t10)
theorem F13.t8_eq {θ : Tag (F13.t8, Q, e, w)} : cwE P F13.t8 Q e w θ = cwE P (.seq (.seq (.region 8 F13.r8.toArray false) (.cond (.tmp 43) (.seq (.region 9 F13.r9.toArray false) .ret) .skip)) F13.t10) Q e w := rfl
def F13.t4 : Cd := (.seq (.region 4 F13.r4.toArray true) (.seq (.seq (.region 5 F13.r5.toArray false) (.cond (.tmp 30) (.seq (.region 6 F13.r6.toArray false) (.region 7 F13.r7.toArray true)) .skip)) F13.t8))
theorem F13.t4_eq {θ : Tag (F13.t4, Q, e, w)} : cwE P F13.t4 Q e w θ = cwE P (.seq (.region 4 F13.r4.toArray true) (.seq (.seq (.region 5 F13.r5.toArray false) (.cond (.tmp 30) (.seq (.region 6 F13.r6.toArray false) (.region 7 F13.r7.toArray true)) .skip)) F13.t8)) Q e w := rfl
def F13.code : Cd := (.seq (.region 0 F13.r0.toArray false) (.seq (.seq (.region 1 F13.r1.toArray false) (.seq (.region 2 F13.r2.toArray false) (.cond (.tmp 21) (.seq (.region 3 F13.r3.toArray false) .ret) .skip))) F13.t4))
theorem F13.calls (hn : args.size ≤ 86) (h : cwE Tryz.prog F13.code (fnP Tryz.prog #[(.tmp 6), (.tmp 7)] R) (entry args) w) : Calls Tryz.prog 13 args w R :=
  calls_of_cwE (types := Tryz.prog.types) follows Tryz.func13 F13.code rfl (by kernel_rfl) hn h

def F14.r0 : List Oper := [
  oc 3 (.box 40 (.tmp 1)) 0,
  op 4 (.assign (.const (.slice none 0 0))) 32]
def F14.r1 : List Oper := [
  ⟨(some 6), (.move (.tmp 0)), 26, "", #[], none⟩,
  ⟨(some 7), (.nilCheck (.tmp 6)), 0, "", #[], none⟩,
  ⟨(some 8), (.fieldAddr 58 (.tmp 7) 0), 0, "", #[], none⟩,
  ⟨(some 9), (.load 55 (.tmp 8)), 55, "", #[⟨0, .data⟩], none⟩,
  ⟨(some 10), (.load 40 (.tmp 3)), 40, "", #[⟨0, .data⟩], none⟩,
  ⟨(some 11), (.lookup 55 (.tmp 9) (.tmp 10) false), 70, "", #[⟨0, .data⟩], none⟩,
  ⟨(some 5), (.assign (.tmp 11)), 70, "", #[], none⟩]
def F14.r2 : List Oper := [
  op 12 (.move (.tmp 5)) 70,
  op 13 (.binOp .neq 70 (.tmp 12) (.const (.pointer none)) 70) 4]
def F14.r3 : List Oper := [
  op 14 (.move (.tmp 5)) 70,
  op 15 (.nilCheck (.tmp 14)) 0,
  op 16 (.fieldAddr 73 (.tmp 15) 1) 0,
  od 17 (.load 71 (.tmp 16)) 71,
  oc 18 (.call ⟨(.value (.func 39)), #[(.tmp 17)], #[71]⟩) 32,
  op 4 (.assign (.tmp 18)) 32]
def F14.r4 : List Oper := [
  op 4 (.assign (.const (.slice none 0 0))) 32]
def F14.t4 : Cd := (.seq (.region 4 F14.r4.toArray false) .ret)
theorem F14.t4_eq {θ : Tag (F14.t4, Q, e, w)} : cwE P F14.t4 Q e w θ = cwE P (.seq (.region 4 F14.r4.toArray false) .ret) Q e w := rfl
def F14.code : Cd := (.seq (.region 0 F14.r0.toArray false) (.seq (.seq (.region 1 F14.r1.toArray true) (.seq (.region 2 F14.r2.toArray false) (.cond (.tmp 13) (.seq (.region 3 F14.r3.toArray false) .ret) .skip))) F14.t4))
theorem F14.calls (hn : args.size ≤ 19) (h : cwE Tryz.prog F14.code (fnP Tryz.prog #[(.tmp 4)] R) (entry args) w) : Calls Tryz.prog 14 args w R :=
  calls_of_cwE (types := Tryz.prog.types) follows Tryz.func14 F14.code rfl (by kernel_rfl) hn h

def F15.r0 : List Oper := [
  oc 5 (.box 40 (.tmp 2)) 0,
  op 6 (.assign (.const (.slice none 0 0))) 32,
  op 7 (.assign (.const (.int .i64 0))) 48]
def F15.r1 : List Oper := [
  ⟨(some 10), (.move (.tmp 0)), 26, "", #[], none⟩,
  ⟨(some 11), (.nilCheck (.tmp 10)), 0, "", #[], none⟩,
  ⟨(some 12), (.fieldAddr 58 (.tmp 11) 0), 0, "", #[], none⟩,
  ⟨(some 13), (.load 55 (.tmp 12)), 55, "", #[⟨0, .data⟩], none⟩,
  ⟨(some 14), (.load 40 (.tmp 5)), 40, "", #[⟨0, .data⟩], none⟩,
  ⟨(some 15), (.lookup 55 (.tmp 13) (.tmp 14) false), 70, "", #[⟨0, .data⟩], none⟩,
  ⟨(some 8), (.assign (.tmp 15)), 70, "", #[], none⟩]
def F15.r2 : List Oper := [
  op 16 (.move (.tmp 8)) 70,
  op 17 (.binOp .eql 70 (.tmp 16) (.const (.pointer none)) 70) 4]
def F15.r3 : List Oper := [
  op 6 (.assign (.const (.slice none 0 0))) 32,
  op 7 (.assign (.const (.int .i64 1))) 48]
def F15.r4 : List Oper := [
  op 18 (.move (.tmp 8)) 70,
  op 19 (.move (.tmp 1)) 3,
  oc 20 (.call ⟨(.value (.func 37)), #[(.tmp 18), (.tmp 19)], #[70, 3]⟩) 3,
  op 9 (.assign (.tmp 20)) 3]
def F15.r5 : List Oper := [
  op 21 (.move (.tmp 9)) 3,
  op 22 (.binOp .lss 3 (.tmp 21) (.const (.int .i64 0)) 3) 4]
def F15.r6 : List Oper := [
  op 6 (.assign (.const (.slice none 0 0))) 32,
  op 7 (.assign (.const (.int .i64 1))) 48]
def F15.r7 : List Oper := [
  op 23 (.move (.tmp 8)) 70,
  op 24 (.move (.tmp 8)) 70,
  op 25 (.nilCheck (.tmp 24)) 0,
  op 26 (.fieldAddr 73 (.tmp 25) 0) 0,
  od 27 (.load 71 (.tmp 26)) 71,
  op 28 (.move (.tmp 9)) 3,
  op 29 (.move (.tmp 9)) 3,
  op 30 (.binOp .add 3 (.tmp 29) (.const (.int .i64 1)) 3) 3,
  oc 31 (.call ⟨(.value (.func 40)), #[(.tmp 27), (.tmp 28), (.tmp 30)], #[71, 3, 3]⟩) 71,
  op 32 (.nilCheck (.tmp 23)) 0,
  op 33 (.fieldAddr 73 (.tmp 32) 0) 0,
  ⟨none, (.store 71 (.tmp 33) (.tmp 31)), 0, "", #[⟨0, .chain⟩], none⟩]
def F15.r8 : List Oper := [
  op 34 (.move (.tmp 0)) 26,
  od 35 (.load 40 (.tmp 5)) 40,
  oc 36 (.call ⟨(.value (.func 41)), #[(.tmp 34), (.tmp 35)], #[26, 40]⟩) 32,
  op 6 (.assign (.tmp 36)) 32,
  op 7 (.assign (.const (.int .i64 0))) 48]
def F15.t7 : Cd := (.seq (.region 7 F15.r7.toArray false) (.seq (.region 8 F15.r8.toArray false) .ret))
theorem F15.t7_eq {θ : Tag (F15.t7, Q, e, w)} : cwE P F15.t7 Q e w θ = cwE P (.seq (.region 7 F15.r7.toArray false) (.seq (.region 8 F15.r8.toArray false) .ret)) Q e w := rfl
def F15.t4 : Cd := (.seq (.region 4 F15.r4.toArray false) (.seq (.seq (.region 5 F15.r5.toArray false) (.cond (.tmp 22) (.seq (.region 6 F15.r6.toArray false) .ret) .skip)) F15.t7))
theorem F15.t4_eq {θ : Tag (F15.t4, Q, e, w)} : cwE P F15.t4 Q e w θ = cwE P (.seq (.region 4 F15.r4.toArray false) (.seq (.seq (.region 5 F15.r5.toArray false) (.cond (.tmp 22) (.seq (.region 6 F15.r6.toArray false) .ret) .skip)) F15.t7)) Q e w := rfl
def F15.code : Cd := (.seq (.region 0 F15.r0.toArray false) (.seq (.region 1 F15.r1.toArray true) (.seq (.seq (.region 2 F15.r2.toArray false) (.cond (.tmp 17) (.seq (.region 3 F15.r3.toArray false) .ret) .skip)) F15.t4)))
theorem F15.calls (hn : args.size ≤ 37) (h : cwE Tryz.prog F15.code (fnP Tryz.prog #[(.tmp 6), (.tmp 7)] R) (entry args) w) : Calls Tryz.prog 15 args w R :=
  calls_of_cwE (types := Tryz.prog.types) follows Tryz.func15 F15.code rfl (by kernel_rfl) hn h

def F16.r0 : List Oper := [
  op 4 (.assign (.const (.bool false))) 4]
def F16.r1 : List Oper := [
  op 6 (.move (.tmp 0)) 32,
  op 7 (.call ⟨(.builtin .len), #[(.tmp 6)], #[32]⟩) 3,
  op 8 (.move (.tmp 1)) 32,
  op 9 (.call ⟨(.builtin .len), #[(.tmp 8)], #[32]⟩) 3,
  op 10 (.binOp .neq 3 (.tmp 7) (.tmp 9) 3) 4]
def F16.r2 : List Oper := [
  op 4 (.assign (.const (.bool false))) 4]
def F16.r3 : List Oper := [
  op 5 (.assign (.const (.int .i64 0))) 3]
def F16.r4 : List Oper := [
  op 11 (.move (.tmp 5)) 3,
  op 12 (.move (.tmp 0)) 32,
  op 13 (.call ⟨(.builtin .len), #[(.tmp 12)], #[32]⟩) 3,
  op 14 (.binOp .lss 3 (.tmp 11) (.tmp 13) 3) 4]
def F16.r6 : List Oper := [
  ⟨(some 17), (.move (.tmp 0)), 32, "", #[], none⟩,
  ⟨(some 18), (.move (.tmp 5)), 3, "", #[], none⟩,
  ⟨(some 19), (.indexAddr 32 (.tmp 17) (.tmp 18)), 0, "", #[], none⟩,
  ⟨(some 21), (.move (.tmp 1)), 32, "", #[], none⟩,
  ⟨(some 22), (.move (.tmp 5)), 3, "", #[], none⟩,
  ⟨(some 23), (.indexAddr 32 (.tmp 21) (.tmp 22)), 0, "", #[], none⟩,
  ⟨(some 20), (.load 3 (.tmp 19)), 3, "", #[⟨0, .data⟩], none⟩,
  ⟨(some 24), (.load 3 (.tmp 23)), 3, "", #[⟨0, .data⟩], none⟩,
  ⟨(some 25), (.binOp .neq 3 (.tmp 20) (.tmp 24) 3), 4, "", #[], none⟩]
def F16.r7 : List Oper := [
  op 4 (.assign (.const (.bool false))) 4]
def F16.r5 : List Oper := [
  op 15 (.move (.tmp 5)) 3,
  op 16 (.binOp .add 3 (.tmp 15) (.const (.int .i64 1)) 3) 3,
  op 5 (.assign (.tmp 16)) 3]
def F16.r8 : List Oper := [
  op 4 (.assign (.const (.bool true))) 4]
def F16.t5 : Cd := (.region 5 F16.r5.toArray false)
theorem F16.t5_eq {θ : Tag (F16.t5, Q, e, w)} : cwE P F16.t5 Q e w θ = cwE P (.region 5 F16.r5.toArray false) Q e w := rfl
def F16.t6 : Cd := (.seq (.block 1 (.seq (.region 6 F16.r6.toArray true) (.cond (.tmp 25) (.seq (.region 7 F16.r7.toArray false) .ret) .skip))) F16.t5)
theorem F16.t6_eq {θ : Tag (F16.t6, Q, e, w)} : cwE P F16.t6 Q e w θ = cwE P (.seq (.block 1 (.seq (.region 6 F16.r6.toArray true) (.cond (.tmp 25) (.seq (.region 7 F16.r7.toArray false) .ret) .skip))) F16.t5) Q e w := rfl
def F16.t8 : Cd := (.seq (.region 8 F16.r8.toArray false) .ret)
theorem F16.t8_eq {θ : Tag (F16.t8, Q, e, w)} : cwE P F16.t8 Q e w θ = cwE P (.seq (.region 8 F16.r8.toArray false) .ret) Q e w := rfl
def F16.t3 : Cd := (.seq (.seq (.region 3 F16.r3.toArray false) (.block 0 (.loop (.seq (.seq (.region 4 F16.r4.toArray false) (.cond (.tmp 14) .skip (.exit 0))) F16.t6)))) F16.t8)
theorem F16.t3_eq {θ : Tag (F16.t3, Q, e, w)} : cwE P F16.t3 Q e w θ = cwE P (.seq (.seq (.region 3 F16.r3.toArray false) (.block 0 (.loop (.seq (.seq (.region 4 F16.r4.toArray false) (.cond (.tmp 14) .skip (.exit 0))) F16.t6)))) F16.t8) Q e w := rfl
def F16.code : Cd := (.seq (.region 0 F16.r0.toArray false) (.seq (.seq (.region 1 F16.r1.toArray false) (.cond (.tmp 10) (.seq (.region 2 F16.r2.toArray false) .ret) .skip)) F16.t3))
theorem F16.calls (hn : args.size ≤ 26) (h : cwE Tryz.prog F16.code (fnP Tryz.prog #[(.tmp 4)] R) (entry args) w) : Calls Tryz.prog 16 args w R :=
  calls_of_cwE (types := Tryz.prog.types) follows Tryz.func16 F16.code rfl (by kernel_rfl) hn h

def F17.r0 : List Oper := [
  op 2 (.assign (.const (.bool false))) 4]
def F17.r1 : List Oper := [
  op 3 (.move (.tmp 0)) 26,
  op 4 (.nilCheck (.tmp 3)) 0,
  op 5 (.fieldAddr 58 (.tmp 4) 0) 0,
  od 6 (.load 55 (.tmp 5)) 55,
  od 7 (.call ⟨(.builtin .len), #[(.tmp 6)], #[55]⟩) 3,
  op 8 (.binOp .eql 3 (.tmp 7) (.const (.int .i64 0)) 3) 4,
  op 2 (.assign (.tmp 8)) 4]
def F17.code : Cd := (.seq (.region 0 F17.r0.toArray false) (.seq (.region 1 F17.r1.toArray false) .ret))
theorem F17.calls (hn : args.size ≤ 9) (h : cwE Tryz.prog F17.code (fnP Tryz.prog #[(.tmp 2)] R) (entry args) w) : Calls Tryz.prog 17 args w R :=
  calls_of_cwE (types := Tryz.prog.types) follows Tryz.func17 F17.code rfl (by kernel_rfl) hn h

def F18.r0 : List Oper := [
  oc 5 (.box 42 (.tmp 2)) 0,
  op 6 (.assign (.const (.bool false))) 4,
  op 7 (.assign (.const (.int .i64 0))) 48]
def F18.r1 : List Oper := [
  ⟨(some 8), (.move (.tmp 0)), 28, "", #[], none⟩,
  ⟨(some 9), (.nilCheck (.tmp 8)), 0, "", #[], none⟩,
  ⟨(some 10), (.fieldAddr 61 (.tmp 9) 1), 0, "", #[], none⟩,
  ⟨(some 12), (.move (.tmp 1)), 3, "", #[], none⟩,
  ⟨(some 13), (.fieldAddr 42 (.tmp 5) 0), 0, "", #[], none⟩,
  ⟨(some 11), (.load 59 (.tmp 10)), 59, "", #[⟨128, .data⟩], none⟩,
  ⟨(some 14), (.load 40 (.tmp 13)), 40, "", #[⟨128, .data⟩], none⟩,
  ⟨(some 15), (.call ⟨(.value (.func 42)), #[(.tmp 11), (.tmp 12), (.tmp 14), (.const (.bool true))], #[59, 3, 40, 4]⟩), 3, "", #[⟨7, .chain⟩], none⟩,
  ⟨(some 16), (.binOp .geq 3 (.tmp 15) (.const (.int .i64 0)) 3), 4, "", #[], none⟩]
def F18.r2 : List Oper := [
  op 6 (.assign (.const (.bool false))) 4,
  op 7 (.assign (.const (.int .i64 131))) 48]
def F18.r3 : List Oper := [
  ⟨(some 17), (.move (.tmp 0)), 28, "", #[], none⟩,
  ⟨(some 18), (.nilCheck (.tmp 17)), 0, "", #[], none⟩,
  ⟨(some 19), (.fieldAddr 61 (.tmp 18) 0), 0, "", #[], none⟩,
  ⟨(some 21), (.move (.tmp 1)), 3, "", #[], none⟩,
  ⟨(some 22), (.fieldAddr 42 (.tmp 5) 0), 0, "", #[], none⟩,
  ⟨(some 20), (.load 59 (.tmp 19)), 59, "", #[⟨128, .data⟩], none⟩,
  ⟨(some 23), (.load 40 (.tmp 22)), 40, "", #[⟨128, .data⟩], none⟩,
  ⟨(some 24), (.call ⟨(.value (.func 42)), #[(.tmp 20), (.tmp 21), (.tmp 23), (.const (.bool false))], #[59, 3, 40, 4]⟩), 3, "", #[⟨7, .chain⟩], none⟩,
  ⟨(some 25), (.binOp .geq 3 (.tmp 24) (.const (.int .i64 0)) 3), 4, "", #[], none⟩]
def F18.r4 : List Oper := [
  op 6 (.assign (.const (.bool false))) 4,
  op 7 (.assign (.const (.int .i64 130))) 48]
def F18.r5 : List Oper := [
  op 26 (.move (.tmp 0)) 28,
  op 27 (.fieldAddr 42 (.tmp 5) 0) 0,
  od 28 (.load 40 (.tmp 27)) 40,
  oc 29 (.call ⟨(.value (.func 43)), #[(.tmp 26), (.tmp 28)], #[28, 40]⟩) 3,
  op 30 (.binOp .lss 3 (.tmp 29) (.const (.int .i64 0)) 3) 4,
  op 31 (.move (.tmp 30)) 4,
  ⟨(some 32), (.move (.tmp 0)), 28, "", #[], (some (31, true))⟩,
  ⟨(some 33), (.load 42 (.tmp 5)), 42, "", #[⟨0, .data⟩], (some (31, true))⟩,
  ⟨(some 34), (.call ⟨(.value (.func 44)), #[(.tmp 32), (.tmp 33)], #[28, 42]⟩), 4, "", #[⟨0, .chain⟩], (some (31, true))⟩,
  op 35 (.pick (.tmp 31) (.tmp 34) (.const (.bool false))) 4]
def F18.r6 : List Oper := [
  ⟨(some 36), (.move (.tmp 0)), 28, "", #[], none⟩,
  ⟨(some 37), (.move (.tmp 0)), 28, "", #[], none⟩,
  ⟨(some 38), (.nilCheck (.tmp 37)), 0, "", #[], none⟩,
  ⟨(some 39), (.fieldAddr 61 (.tmp 38) 0), 0, "", #[], none⟩,
  ⟨(some 41), (.move (.tmp 1)), 3, "", #[], none⟩,
  ⟨(some 40), (.load 59 (.tmp 39)), 59, "", #[⟨4608, .data⟩], none⟩,
  ⟨(some 42), (.load 42 (.tmp 5)), 42, "", #[⟨4864, .data⟩], none⟩,
  ⟨(some 43), (.build 84 #[(0, (.tmp 41)), (1, (.tmp 42))]), 84, "", #[], none⟩,
  ⟨(some 44), (.buildSlice 59 1 #[(0, (.tmp 43))]), 59, "", #[⟨8, .chain⟩], none⟩,
  ⟨(some 45), (.call ⟨(.builtin .append), #[(.tmp 40), (.tmp 44)], #[59, 59]⟩), 59, "", #[⟨9, .chain⟩], none⟩,
  ⟨(some 46), (.nilCheck (.tmp 36)), 0, "", #[], none⟩,
  ⟨(some 47), (.fieldAddr 61 (.tmp 46) 0), 0, "", #[], none⟩,
  ⟨none, (.store 59 (.tmp 47) (.tmp 45)), 0, "", #[⟨12, .chain⟩], none⟩]
def F18.r7 : List Oper := [
  op 6 (.assign (.const (.bool true))) 4,
  op 7 (.assign (.const (.int .i64 0))) 48]
def F18.r8 : List Oper := [
  ⟨(some 48), (.move (.tmp 0)), 28, "", #[], none⟩,
  ⟨(some 49), (.move (.tmp 0)), 28, "", #[], none⟩,
  ⟨(some 50), (.nilCheck (.tmp 49)), 0, "", #[], none⟩,
  ⟨(some 51), (.fieldAddr 61 (.tmp 50) 1), 0, "", #[], none⟩,
  ⟨(some 53), (.move (.tmp 1)), 3, "", #[], none⟩,
  ⟨(some 52), (.load 59 (.tmp 51)), 59, "", #[⟨4608, .data⟩], none⟩,
  ⟨(some 54), (.load 42 (.tmp 5)), 42, "", #[⟨4864, .data⟩], none⟩,
  ⟨(some 55), (.build 84 #[(0, (.tmp 53)), (1, (.tmp 54))]), 84, "", #[], none⟩,
  ⟨(some 56), (.buildSlice 59 1 #[(0, (.tmp 55))]), 59, "", #[⟨8, .chain⟩], none⟩,
  ⟨(some 57), (.call ⟨(.builtin .append), #[(.tmp 52), (.tmp 56)], #[59, 59]⟩), 59, "", #[⟨9, .chain⟩], none⟩,
  ⟨(some 58), (.nilCheck (.tmp 48)), 0, "", #[], none⟩,
  ⟨(some 59), (.fieldAddr 61 (.tmp 58) 1), 0, "", #[], none⟩,
  ⟨none, (.store 59 (.tmp 59) (.tmp 57)), 0, "", #[⟨12, .chain⟩], none⟩]
def F18.r9 : List Oper := [
  op 6 (.assign (.const (.bool false))) 4,
  op 7 (.assign (.const (.int .i64 0))) 48]
def F18.t8 : Cd := (.seq (.region 8 F18.r8.toArray true) (.seq (.region 9 F18.r9.toArray false) .ret))
theorem F18.t8_eq {θ : Tag (F18.t8, Q, e, w)} : cwE P F18.t8 Q e w θ = cwE P (.seq (.region 8 F18.r8.toArray true) (.seq (.region 9 F18.r9.toArray false) .ret)) Q e w := rfl
def F18.t5 : Cd := (.seq (.seq (.region 5 F18.r5.toArray false) (.cond (.tmp 35) (.seq (.region 6 F18.r6.toArray true) (.seq (.region 7 F18.r7.toArray false) .ret)) .skip)) F18.t8)
theorem F18.t5_eq {θ : Tag (F18.t5, Q, e, w)} : cwE P F18.t5 Q e w θ = cwE P (.seq (.seq (.region 5 F18.r5.toArray false) (.cond (.tmp 35) (.seq (.region 6 F18.r6.toArray true) (.seq (.region 7 F18.r7.toArray false) .ret)) .skip)) F18.t8) Q e w := rfl
def F18.t3 : Cd := (.seq (.seq (.region 3 F18.r3.toArray true) (.cond (.tmp 25) (.seq (.region 4 F18.r4.toArray false) .ret) .skip)) F18.t5)
theorem F18.t3_eq {θ : Tag (F18.t3, Q, e, w)} : cwE P F18.t3 Q e w θ = cwE P (.seq (.seq (.region 3 F18.r3.toArray true) (.cond (.tmp 25) (.seq (.region 4 F18.r4.toArray false) .ret) .skip)) F18.t5) Q e w := rfl
def F18.code : Cd := (.seq (.region 0 F18.r0.toArray false) (.seq (.seq (.region 1 F18.r1.toArray true) (.cond (.tmp 16) (.seq (.region 2 F18.r2.toArray false) .ret) .skip)) F18.t3))
theorem F18.calls (hn : args.size ≤ 60) (h : cwE Tryz.prog F18.code (fnP Tryz.prog #[(.tmp 6), (.tmp 7)] R) (entry args) w) : Calls Tryz.prog 18 args w R :=
  calls_of_cwE (types := Tryz.prog.types) follows Tryz.func18 F18.code rfl (by kernel_rfl) hn h

def F19.r0 : List Oper := [
  oc 5 (.box 40 (.tmp 2)) 0,
  op 6 (.assign (.const (.slice none 0 0))) 32,
  op 7 (.assign (.const (.int .i64 0))) 48]
def F19.r1 : List Oper := [
  ⟨(some 9), (.move (.tmp 0)), 28, "", #[], none⟩,
  ⟨(some 10), (.nilCheck (.tmp 9)), 0, "", #[], none⟩,
  ⟨(some 11), (.fieldAddr 61 (.tmp 10) 0), 0, "", #[], none⟩,
  ⟨(some 13), (.move (.tmp 1)), 3, "", #[], none⟩,
  ⟨(some 12), (.load 59 (.tmp 11)), 59, "", #[⟨64, .data⟩], none⟩,
  ⟨(some 14), (.load 40 (.tmp 5)), 40, "", #[⟨64, .data⟩], none⟩,
  ⟨(some 15), (.call ⟨(.value (.func 42)), #[(.tmp 12), (.tmp 13), (.tmp 14), (.const (.bool false))], #[59, 3, 40, 4]⟩), 3, "", #[⟨6, .chain⟩], none⟩,
  ⟨(some 8), (.assign (.tmp 15)), 3, "", #[], none⟩]
def F19.r2 : List Oper := [
  op 16 (.move (.tmp 8)) 3,
  op 17 (.binOp .lss 3 (.tmp 16) (.const (.int .i64 0)) 3) 4]
def F19.r3 : List Oper := [
  op 6 (.assign (.const (.slice none 0 0))) 32,
  op 7 (.assign (.const (.int .i64 1))) 48]
def F19.r4 : List Oper := [
  op 18 (.move (.tmp 0)) 28,
  op 19 (.move (.tmp 0)) 28,
  op 20 (.nilCheck (.tmp 19)) 0,
  op 21 (.fieldAddr 61 (.tmp 20) 0) 0,
  od 22 (.load 59 (.tmp 21)) 59,
  op 23 (.move (.tmp 8)) 3,
  oc 24 (.call ⟨(.value (.func 45)), #[(.tmp 22), (.tmp 23)], #[59, 3]⟩) 59,
  op 25 (.nilCheck (.tmp 18)) 0,
  op 26 (.fieldAddr 61 (.tmp 25) 0) 0,
  ⟨none, (.store 59 (.tmp 26) (.tmp 24)), 0, "", #[⟨0, .chain⟩], none⟩]
def F19.r5 : List Oper := [
  op 27 (.move (.tmp 0)) 28,
  od 28 (.load 40 (.tmp 5)) 40,
  oc 29 (.call ⟨(.value (.func 46)), #[(.tmp 27), (.tmp 28)], #[28, 40]⟩) 32,
  op 6 (.assign (.tmp 29)) 32,
  op 7 (.assign (.const (.int .i64 0))) 48]
def F19.t4 : Cd := (.seq (.region 4 F19.r4.toArray false) (.seq (.region 5 F19.r5.toArray false) .ret))
theorem F19.t4_eq {θ : Tag (F19.t4, Q, e, w)} : cwE P F19.t4 Q e w θ = cwE P (.seq (.region 4 F19.r4.toArray false) (.seq (.region 5 F19.r5.toArray false) .ret)) Q e w := rfl
def F19.code : Cd := (.seq (.region 0 F19.r0.toArray false) (.seq (.region 1 F19.r1.toArray true) (.seq (.seq (.region 2 F19.r2.toArray false) (.cond (.tmp 17) (.seq (.region 3 F19.r3.toArray false) .ret) .skip)) F19.t4)))
theorem F19.calls (hn : args.size ≤ 30) (h : cwE Tryz.prog F19.code (fnP Tryz.prog #[(.tmp 6), (.tmp 7)] R) (entry args) w) : Calls Tryz.prog 19 args w R :=
  calls_of_cwE (types := Tryz.prog.types) follows Tryz.func19 F19.code rfl (by kernel_rfl) hn h

def F20.r0 : List Oper := [
  op 6 (.assign (.const (.bool false))) 4]
def F20.r1 : List Oper := [
  op 8 (.move (.tmp 1)) 32,
  op 9 (.move (.tmp 2)) 32,
  oc 10 (.call ⟨(.value (.func 16)), #[(.tmp 8), (.tmp 9)], #[32, 32]⟩) 4,
  op 7 (.assign (.tmp 10)) 4]
def F20.r2 : List Oper := [
  op 11 (.move (.tmp 0)) 30,
  op 12 (.move (.tmp 1)) 32,
  oc 13 (.call ⟨(.value (.func 47)), #[(.tmp 11), (.tmp 12)], #[30, 32]⟩) 0]
def F20.r3 : List Oper := [
  op 14 (.move (.tmp 7)) 4,
  op 6 (.assign (.tmp 14)) 4]
def F20.code : Cd := (.seq (.region 0 F20.r0.toArray false) (.seq (.region 1 F20.r1.toArray false) (.seq (.region 2 F20.r2.toArray false) (.seq (.region 3 F20.r3.toArray false) .ret))))
theorem F20.calls (hn : args.size ≤ 15) (h : cwE Tryz.prog F20.code (fnP Tryz.prog #[(.tmp 6)] R) (entry args) w) : Calls Tryz.prog 20 args w R :=
  calls_of_cwE (types := Tryz.prog.types) follows Tryz.func20 F20.code rfl (by kernel_rfl) hn h

def F21.r0 : List Oper := [
  oc 3 (.box 3 (.tmp 1)) 0,
  op 4 (.assign (.const (.slice none 0 0))) 32]
def F21.r1 : List Oper := [
  op 5 (.assign (.const (.slice none 0 0))) 32]
def F21.r2 : List Oper := [
  ⟨(some 14), (.move (.tmp 0)), 26, "", #[], none⟩,
  ⟨(some 15), (.nilCheck (.tmp 14)), 0, "", #[], none⟩,
  ⟨(some 16), (.fieldAddr 58 (.tmp 15) 1), 0, "", #[], none⟩,
  ⟨(some 17), (.load 56 (.tmp 16)), 56, "", #[⟨1024, .data⟩], none⟩,
  ⟨(some 18), (.load 3 (.tmp 3)), 3, "", #[⟨1024, .data⟩], none⟩,
  ⟨(some 19), (.lookup 56 (.tmp 17) (.tmp 18) true), 67, "", #[⟨1024, .data⟩], none⟩,
  ⟨(some 13), (.move (.tmp 19)), 67, "", #[], none⟩,
  ⟨(some 20), (.extract (.tmp 13) 0), 42, "", #[], none⟩,
  ⟨(some 21), (.extract (.tmp 13) 1), 4, "", #[], none⟩,
  ⟨(some 6), (.alloc 42), 0, "", #[⟨9, .chain⟩], none⟩,
  ⟨none, (.store 42 (.tmp 6) (.tmp 20)), 0, "", #[⟨10, .chain⟩], none⟩,
  ⟨(some 7), (.assign (.tmp 21)), 4, "", #[], none⟩]
def F21.r3 : List Oper := [
  op 22 (.move (.tmp 7)) 4]
def F21.r4 : List Oper := [
  ⟨(some 23), (.move (.tmp 0)), 26, "", #[], none⟩,
  ⟨(some 24), (.nilCheck (.tmp 23)), 0, "", #[], none⟩,
  ⟨(some 25), (.fieldAddr 58 (.tmp 24) 0), 0, "", #[], none⟩,
  ⟨(some 27), (.fieldAddr 42 (.tmp 6) 0), 0, "", #[], none⟩,
  ⟨(some 26), (.load 55 (.tmp 25)), 55, "", #[⟨0, .data⟩], none⟩,
  ⟨(some 28), (.load 40 (.tmp 27)), 40, "", #[⟨0, .data⟩], none⟩,
  ⟨(some 29), (.lookup 55 (.tmp 26) (.tmp 28) false), 70, "", #[⟨0, .data⟩], none⟩,
  ⟨(some 8), (.assign (.tmp 29)), 70, "", #[], none⟩]
def F21.r5 : List Oper := [
  op 30 (.move (.tmp 8)) 70,
  op 31 (.move (.tmp 8)) 70,
  op 32 (.nilCheck (.tmp 31)) 0,
  op 33 (.fieldAddr 73 (.tmp 32) 1) 0,
  od 34 (.load 71 (.tmp 33)) 71,
  op 35 (.makeFunc (.func 49) #[] #[(.tmp 3)]) 88,
  oc 36 (.call ⟨(.value (.func 48)), #[(.tmp 34), (.tmp 35)], #[71, 88]⟩) 71,
  op 37 (.nilCheck (.tmp 30)) 0,
  op 38 (.fieldAddr 73 (.tmp 37) 1) 0,
  ⟨none, (.store 71 (.tmp 38) (.tmp 36)), 0, "", #[⟨0, .chain⟩], none⟩]
def F21.r6 : List Oper := [
  ⟨(some 39), (.move (.tmp 0)), 26, "", #[], none⟩,
  ⟨(some 40), (.nilCheck (.tmp 39)), 0, "", #[], none⟩,
  ⟨(some 41), (.fieldAddr 58 (.tmp 40) 1), 0, "", #[], none⟩,
  ⟨(some 42), (.load 56 (.tmp 41)), 56, "", #[⟨32, .data⟩], none⟩,
  ⟨(some 43), (.load 3 (.tmp 3)), 3, "", #[⟨32, .data⟩], none⟩,
  ⟨none, (.call ⟨(.builtin .delete), #[(.tmp 42), (.tmp 43)], #[56, 3]⟩), 0, "", #[⟨5, .chain⟩], none⟩]
def F21.r7 : List Oper := [
  op 44 (.move (.tmp 0)) 26,
  op 45 (.fieldAddr 42 (.tmp 6) 0) 0,
  od 46 (.load 40 (.tmp 45)) 40,
  oc 47 (.call ⟨(.value (.func 41)), #[(.tmp 44), (.tmp 46)], #[26, 40]⟩) 32,
  op 5 (.assign (.tmp 47)) 32]
def F21.r8 : List Oper := [
  op 48 (.move (.tmp 0)) 26,
  od 49 (.load 3 (.tmp 3)) 3,
  oc 50 (.call ⟨(.value (.func 25)), #[(.tmp 48), (.tmp 49)], #[26, 3]⟩) 63,
  op 51 (.call ⟨(.builtin .len), #[(.tmp 50)], #[63]⟩) 3,
  op 52 (.move (.const (.int .i64 0))) 3]
def F21.r9 : List Oper := [
  op 53 (.binOp .lss 3 (.tmp 52) (.tmp 51) 3) 0]
def F21.r10 : List Oper := [
  op 54 (.indexAddr 63 (.tmp 50) (.tmp 52)) 0,
  od 55 (.load 42 (.tmp 54)) 42,
  oc 10 (.alloc 42) 0,
  ⟨none, (.store 42 (.tmp 10) (.tmp 55)), 0, "", #[⟨0, .chain⟩], none⟩]
def F21.r11 : List Oper := [
  op 57 (.move (.tmp 0)) 26,
  od 58 (.load 3 (.tmp 3)) 3,
  op 59 (.fieldAddr 42 (.tmp 10) 0) 0,
  od 60 (.load 40 (.tmp 59)) 40,
  oc 61 (.call ⟨(.value (.func 15)), #[(.tmp 57), (.tmp 58), (.tmp 60)], #[26, 3, 40]⟩) 52,
  op 56 (.move (.tmp 61)) 52,
  op 62 (.extract (.tmp 56) 0) 32,
  op 63 (.extract (.tmp 56) 1) 48,
  op 11 (.assign (.tmp 62)) 32,
  op 12 (.assign (.tmp 63)) 48]
def F21.r12 : List Oper := [
  op 64 (.move (.tmp 5)) 32,
  op 65 (.move (.tmp 11)) 32,
  oc 66 (.call ⟨(.builtin .append), #[(.tmp 64), (.tmp 65)], #[32, 32]⟩) 32,
  op 5 (.assign (.tmp 66)) 32]
def F21.r13 : List Oper := [
  op 67 (.binOp .add 3 (.tmp 52) (.const (.int .i64 1)) 3) 3,
  op 52 (.move (.tmp 67)) 3]
def F21.r14 : List Oper := [
  op 68 (.move (.tmp 5)) 32,
  op 4 (.assign (.tmp 68)) 32]
def F21.t13 : Cd := (.region 13 F21.r13.toArray false)
theorem F21.t13_eq {θ : Tag (F21.t13, Q, e, w)} : cwE P F21.t13 Q e w θ = cwE P (.region 13 F21.r13.toArray false) Q e w := rfl
def F21.t10 : Cd := (.seq (.block 1 (.seq (.region 10 F21.r10.toArray false) (.seq (.region 11 F21.r11.toArray false) (.region 12 F21.r12.toArray false)))) F21.t13)
theorem F21.t10_eq {θ : Tag (F21.t10, Q, e, w)} : cwE P F21.t10 Q e w θ = cwE P (.seq (.block 1 (.seq (.region 10 F21.r10.toArray false) (.seq (.region 11 F21.r11.toArray false) (.region 12 F21.r12.toArray false)))) F21.t13) Q e w := rfl
def F21.t14 : Cd := (.seq (.region 14 F21.r14.toArray false) .ret)
theorem F21.t14_eq {θ : Tag (F21.t14, Q, e, w)} : cwE P F21.t14 Q e w θ = cwE P (.seq (.region 14 F21.r14.toArray false) .ret) Q e w := rfl
def F21.t8 : Cd := (.seq (.seq (.region 8 F21.r8.toArray false) (.block 0 (.loop (.seq (.region 9 F21.r9.toArray false) (.seq (.cond (.tmp 53) .skip (.exit 0)) F21.t10))))) F21.t14)
theorem F21.t8_eq {θ : Tag (F21.t8, Q, e, w)} : cwE P F21.t8 Q e w θ = cwE P (.seq (.seq (.region 8 F21.r8.toArray false) (.block 0 (.loop (.seq (.region 9 F21.r9.toArray false) (.seq (.cond (.tmp 53) .skip (.exit 0)) F21.t10))))) F21.t14) Q e w := rfl
def F21.code : Cd := (.seq (.region 0 F21.r0.toArray false) (.seq (.region 1 F21.r1.toArray false) (.seq (.seq (.region 2 F21.r2.toArray true) (.seq (.region 3 F21.r3.toArray false) (.cond (.tmp 22) (.seq (.region 4 F21.r4.toArray true) (.seq (.region 5 F21.r5.toArray false) (.seq (.region 6 F21.r6.toArray true) (.region 7 F21.r7.toArray false)))) .skip))) F21.t8)))
theorem F21.calls (hn : args.size ≤ 69) (h : cwE Tryz.prog F21.code (fnP Tryz.prog #[(.tmp 4)] R) (entry args) w) : Calls Tryz.prog 21 args w R :=
  calls_of_cwE (types := Tryz.prog.types) follows Tryz.func21 F21.code rfl (by kernel_rfl) hn h

def F22.r0 : List Oper := [
  op 4 (.assign (.const (.slice none 0 0))) 32]
def F22.r1 : List Oper := [
  op 5 (.assign (.const (.slice none 0 0))) 32]
def F22.r2 : List Oper := [
  op 13 (.move (.tmp 0)) 28,
  op 14 (.nilCheck (.tmp 13)) 0,
  op 15 (.fieldAddr 61 (.tmp 14) 1) 0,
  od 16 (.load 59 (.tmp 15)) 59,
  op 17 (.move (.tmp 1)) 3,
  op 18 (.build 40 #[]) 40,
  oc 19 (.call ⟨(.value (.func 42)), #[(.tmp 16), (.tmp 17), (.tmp 18), (.const (.bool true))], #[59, 3, 40, 4]⟩) 3,
  op 6 (.assign (.tmp 19)) 3]
def F22.r3 : List Oper := [
  op 20 (.move (.tmp 6)) 3,
  op 21 (.binOp .geq 3 (.tmp 20) (.const (.int .i64 0)) 3) 4]
def F22.r4 : List Oper := [
  op 22 (.move (.tmp 0)) 28,
  op 23 (.nilCheck (.tmp 22)) 0,
  op 24 (.fieldAddr 61 (.tmp 23) 1) 0,
  od 25 (.load 59 (.tmp 24)) 59,
  op 26 (.move (.tmp 6)) 3,
  op 27 (.indexAddr 59 (.tmp 25) (.tmp 26)) 0,
  op 28 (.fieldAddr 84 (.tmp 27) 1) 0,
  op 29 (.fieldAddr 42 (.tmp 28) 0) 0,
  od 30 (.load 40 (.tmp 29)) 40,
  oc 7 (.alloc 40) 0,
  ⟨none, (.store 40 (.tmp 7) (.tmp 30)), 0, "", #[⟨0, .chain⟩], none⟩]
def F22.r5 : List Oper := [
  op 31 (.move (.tmp 0)) 28,
  op 32 (.move (.tmp 0)) 28,
  op 33 (.nilCheck (.tmp 32)) 0,
  op 34 (.fieldAddr 61 (.tmp 33) 1) 0,
  od 35 (.load 59 (.tmp 34)) 59,
  op 36 (.move (.tmp 6)) 3,
  oc 37 (.call ⟨(.value (.func 45)), #[(.tmp 35), (.tmp 36)], #[59, 3]⟩) 59,
  op 38 (.nilCheck (.tmp 31)) 0,
  op 39 (.fieldAddr 61 (.tmp 38) 1) 0,
  ⟨none, (.store 59 (.tmp 39) (.tmp 37)), 0, "", #[⟨0, .chain⟩], none⟩]
def F22.r6 : List Oper := [
  op 40 (.move (.tmp 0)) 28,
  od 41 (.load 40 (.tmp 7)) 40,
  oc 42 (.call ⟨(.value (.func 46)), #[(.tmp 40), (.tmp 41)], #[28, 40]⟩) 32,
  op 8 (.assign (.tmp 42)) 32]
def F22.r7 : List Oper := [
  op 43 (.move (.tmp 5)) 32,
  op 44 (.move (.tmp 8)) 32,
  oc 45 (.call ⟨(.builtin .append), #[(.tmp 43), (.tmp 44)], #[32, 32]⟩) 32,
  op 5 (.assign (.tmp 45)) 32]
def F22.r8 : List Oper := [
  op 46 (.move (.tmp 0)) 28,
  op 47 (.move (.tmp 1)) 3,
  oc 48 (.call ⟨(.value (.func 23)), #[(.tmp 46), (.tmp 47)], #[28, 3]⟩) 63,
  op 9 (.assign (.tmp 48)) 63]
def F22.r9 : List Oper := [
  op 10 (.assign (.const (.int .i64 0))) 3]
def F22.r10 : List Oper := [
  op 49 (.move (.tmp 10)) 3,
  op 50 (.move (.tmp 9)) 63,
  op 51 (.call ⟨(.builtin .len), #[(.tmp 50)], #[63]⟩) 3,
  op 52 (.binOp .lss 3 (.tmp 49) (.tmp 51) 3) 4]
def F22.r12 : List Oper := [
  op 56 (.move (.tmp 0)) 28,
  op 57 (.move (.tmp 1)) 3,
  op 58 (.move (.tmp 9)) 63,
  op 59 (.move (.tmp 10)) 3,
  op 60 (.indexAddr 63 (.tmp 58) (.tmp 59)) 0,
  op 61 (.fieldAddr 42 (.tmp 60) 0) 0,
  od 62 (.load 40 (.tmp 61)) 40,
  oc 63 (.call ⟨(.value (.func 19)), #[(.tmp 56), (.tmp 57), (.tmp 62)], #[28, 3, 40]⟩) 52,
  op 55 (.move (.tmp 63)) 52,
  op 64 (.extract (.tmp 55) 0) 32,
  op 65 (.extract (.tmp 55) 1) 48,
  op 11 (.assign (.tmp 64)) 32,
  op 12 (.assign (.tmp 65)) 48]
def F22.r13 : List Oper := [
  op 66 (.move (.tmp 5)) 32,
  op 67 (.move (.tmp 11)) 32,
  oc 68 (.call ⟨(.builtin .append), #[(.tmp 66), (.tmp 67)], #[32, 32]⟩) 32,
  op 5 (.assign (.tmp 68)) 32]
def F22.r11 : List Oper := [
  op 53 (.move (.tmp 10)) 3,
  op 54 (.binOp .add 3 (.tmp 53) (.const (.int .i64 1)) 3) 3,
  op 10 (.assign (.tmp 54)) 3]
def F22.r14 : List Oper := [
  op 69 (.move (.tmp 5)) 32,
  op 4 (.assign (.tmp 69)) 32]
def F22.t11 : Cd := (.region 11 F22.r11.toArray false)
theorem F22.t11_eq {θ : Tag (F22.t11, Q, e, w)} : cwE P F22.t11 Q e w θ = cwE P (.region 11 F22.r11.toArray false) Q e w := rfl
def F22.t12 : Cd := (.seq (.block 1 (.seq (.region 12 F22.r12.toArray false) (.region 13 F22.r13.toArray false))) F22.t11)
theorem F22.t12_eq {θ : Tag (F22.t12, Q, e, w)} : cwE P F22.t12 Q e w θ = cwE P (.seq (.block 1 (.seq (.region 12 F22.r12.toArray false) (.region 13 F22.r13.toArray false))) F22.t11) Q e w := rfl
def F22.t14 : Cd := (.seq (.region 14 F22.r14.toArray false) .ret)
theorem F22.t14_eq {θ : Tag (F22.t14, Q, e, w)} : cwE P F22.t14 Q e w θ = cwE P (.seq (.region 14 F22.r14.toArray false) .ret) Q e w := rfl
def F22.t8 : Cd := (.seq (.region 8 F22.r8.toArray false) (.seq (.seq (.region 9 F22.r9.toArray false) (.block 0 (.loop (.seq (.seq (.region 10 F22.r10.toArray false) (.cond (.tmp 52) .skip (.exit 0))) F22.t12)))) F22.t14))
theorem F22.t8_eq {θ : Tag (F22.t8, Q, e, w)} : cwE P F22.t8 Q e w θ = cwE P (.seq (.region 8 F22.r8.toArray false) (.seq (.seq (.region 9 F22.r9.toArray false) (.block 0 (.loop (.seq (.seq (.region 10 F22.r10.toArray false) (.cond (.tmp 52) .skip (.exit 0))) F22.t12)))) F22.t14)) Q e w := rfl
def F22.code : Cd := (.seq (.region 0 F22.r0.toArray false) (.seq (.region 1 F22.r1.toArray false) (.seq (.region 2 F22.r2.toArray false) (.seq (.seq (.region 3 F22.r3.toArray false) (.cond (.tmp 21) (.seq (.region 4 F22.r4.toArray false) (.seq (.region 5 F22.r5.toArray false) (.seq (.region 6 F22.r6.toArray false) (.region 7 F22.r7.toArray false)))) .skip)) F22.t8))))
theorem F22.calls (hn : args.size ≤ 70) (h : cwE Tryz.prog F22.code (fnP Tryz.prog #[(.tmp 4)] R) (entry args) w) : Calls Tryz.prog 22 args w R :=
  calls_of_cwE (types := Tryz.prog.types) follows Tryz.func22 F22.code rfl (by kernel_rfl) hn h

def F23.r0 : List Oper := [
  op 4 (.assign (.const (.slice none 0 0))) 63]
def F23.r1 : List Oper := [
  op 5 (.assign (.const (.slice none 0 0))) 63]
def F23.r2 : List Oper := [
  op 6 (.assign (.const (.int .i64 0))) 3]
def F23.r3 : List Oper := [
  op 9 (.move (.tmp 6)) 3,
  op 10 (.move (.tmp 0)) 28,
  op 11 (.nilCheck (.tmp 10)) 0,
  op 12 (.fieldAddr 61 (.tmp 11) 0) 0,
  od 13 (.load 59 (.tmp 12)) 59,
  op 14 (.call ⟨(.builtin .len), #[(.tmp 13)], #[59]⟩) 3,
  op 15 (.binOp .lss 3 (.tmp 9) (.tmp 14) 3) 4]
def F23.r5 : List Oper := [
  op 18 (.move (.tmp 0)) 28,
  op 19 (.nilCheck (.tmp 18)) 0,
  op 20 (.fieldAddr 61 (.tmp 19) 0) 0,
  od 21 (.load 59 (.tmp 20)) 59,
  op 22 (.move (.tmp 6)) 3,
  op 23 (.indexAddr 59 (.tmp 21) (.tmp 22)) 0,
  op 24 (.fieldAddr 84 (.tmp 23) 0) 0,
  od 25 (.load 3 (.tmp 24)) 3,
  op 26 (.move (.tmp 1)) 3,
  op 27 (.binOp .neq 3 (.tmp 25) (.tmp 26) 3) 4]
def F23.r6 : List Oper := [
  op 28 (.move (.tmp 5)) 63,
  op 29 (.move (.tmp 0)) 28,
  op 30 (.nilCheck (.tmp 29)) 0,
  op 31 (.fieldAddr 61 (.tmp 30) 0) 0,
  od 32 (.load 59 (.tmp 31)) 59,
  op 33 (.move (.tmp 6)) 3,
  op 34 (.indexAddr 59 (.tmp 32) (.tmp 33)) 0,
  op 35 (.fieldAddr 84 (.tmp 34) 1) 0,
  od 36 (.load 42 (.tmp 35)) 42,
  oc 37 (.buildSlice 63 1 #[(0, (.tmp 36))]) 63,
  oc 38 (.call ⟨(.builtin .append), #[(.tmp 28), (.tmp 37)], #[63, 63]⟩) 63,
  op 5 (.assign (.tmp 38)) 63]
def F23.r7 : List Oper := [
  op 39 (.move (.tmp 5)) 63,
  op 40 (.call ⟨(.builtin .len), #[(.tmp 39)], #[63]⟩) 3,
  op 41 (.binOp .sub 3 (.tmp 40) (.const (.int .i64 1)) 3) 3,
  op 7 (.assign (.tmp 41)) 3]
def F23.r8 : List Oper := [
  ⟨(some 42), (.move (.tmp 7)), 3, "", #[], none⟩,
  ⟨(some 43), (.binOp .gtr 3 (.tmp 42) (.const (.int .i64 0)) 3), 4, "", #[], none⟩,
  ⟨(some 44), (.move (.tmp 43)), 4, "", #[], none⟩,
  ⟨(some 45), (.move (.tmp 5)), 63, "", #[], (some (44, true))⟩,
  ⟨(some 46), (.move (.tmp 7)), 3, "", #[], (some (44, true))⟩,
  ⟨(some 47), (.binOp .sub 3 (.tmp 46) (.const (.int .i64 1)) 3), 3, "", #[], (some (44, true))⟩,
  ⟨(some 48), (.indexAddr 63 (.tmp 45) (.tmp 47)), 0, "", #[], (some (44, true))⟩,
  ⟨(some 49), (.fieldAddr 42 (.tmp 48) 0), 0, "", #[], (some (44, true))⟩,
  ⟨(some 51), (.move (.tmp 5)), 63, "", #[], (some (44, true))⟩,
  ⟨(some 52), (.move (.tmp 7)), 3, "", #[], (some (44, true))⟩,
  ⟨(some 53), (.indexAddr 63 (.tmp 51) (.tmp 52)), 0, "", #[], (some (44, true))⟩,
  ⟨(some 54), (.fieldAddr 42 (.tmp 53) 0), 0, "", #[], (some (44, true))⟩,
  ⟨(some 50), (.load 40 (.tmp 49)), 40, "", #[⟨16384, .data⟩], (some (44, true))⟩,
  ⟨(some 55), (.load 40 (.tmp 54)), 40, "", #[⟨16384, .data⟩], (some (44, true))⟩,
  ⟨(some 56), (.call ⟨(.value (.func 50)), #[(.tmp 50), (.tmp 55)], #[40, 40]⟩), 3, "", #[⟨14, .chain⟩], (some (44, true))⟩,
  ⟨(some 57), (.binOp .gtr 3 (.tmp 56) (.const (.int .i64 0)) 3), 4, "", #[], (some (44, true))⟩,
  ⟨(some 58), (.pick (.tmp 44) (.tmp 57) (.const (.bool false))), 4, "", #[], none⟩]
def F23.r10 : List Oper := [
  op 61 (.move (.tmp 5)) 63,
  op 62 (.move (.tmp 7)) 3,
  op 63 (.binOp .sub 3 (.tmp 62) (.const (.int .i64 1)) 3) 3,
  op 64 (.indexAddr 63 (.tmp 61) (.tmp 63)) 0,
  od 65 (.load 42 (.tmp 64)) 42,
  oc 8 (.alloc 42) 0,
  ⟨none, (.store 42 (.tmp 8) (.tmp 65)), 0, "", #[⟨0, .chain⟩], none⟩]
def F23.r11 : List Oper := [
  op 66 (.move (.tmp 5)) 63,
  op 67 (.move (.tmp 7)) 3,
  op 68 (.binOp .sub 3 (.tmp 67) (.const (.int .i64 1)) 3) 3,
  op 69 (.move (.tmp 5)) 63,
  op 70 (.move (.tmp 7)) 3,
  op 71 (.indexAddr 63 (.tmp 69) (.tmp 70)) 0,
  od 72 (.load 42 (.tmp 71)) 42,
  op 73 (.indexAddr 63 (.tmp 66) (.tmp 68)) 0,
  ⟨none, (.store 42 (.tmp 73) (.tmp 72)), 0, "", #[⟨0, .chain⟩], none⟩]
def F23.r12 : List Oper := [
  op 74 (.move (.tmp 5)) 63,
  op 75 (.move (.tmp 7)) 3,
  od 76 (.load 42 (.tmp 8)) 42,
  op 77 (.indexAddr 63 (.tmp 74) (.tmp 75)) 0,
  ⟨none, (.store 42 (.tmp 77) (.tmp 76)), 0, "", #[⟨0, .chain⟩], none⟩]
def F23.r9 : List Oper := [
  op 59 (.move (.tmp 7)) 3,
  op 60 (.binOp .sub 3 (.tmp 59) (.const (.int .i64 1)) 3) 3,
  op 7 (.assign (.tmp 60)) 3]
def F23.r4 : List Oper := [
  op 16 (.move (.tmp 6)) 3,
  op 17 (.binOp .add 3 (.tmp 16) (.const (.int .i64 1)) 3) 3,
  op 6 (.assign (.tmp 17)) 3]
def F23.r13 : List Oper := [
  op 78 (.move (.tmp 5)) 63,
  op 4 (.assign (.tmp 78)) 63]
def F23.t9 : Cd := (.region 9 F23.r9.toArray false)
theorem F23.t9_eq {θ : Tag (F23.t9, Q, e, w)} : cwE P F23.t9 Q e w θ = cwE P (.region 9 F23.r9.toArray false) Q e w := rfl
def F23.t10 : Cd := (.seq (.block 3 (.seq (.region 10 F23.r10.toArray false) (.seq (.region 11 F23.r11.toArray false) (.region 12 F23.r12.toArray false)))) F23.t9)
theorem F23.t10_eq {θ : Tag (F23.t10, Q, e, w)} : cwE P F23.t10 Q e w θ = cwE P (.seq (.block 3 (.seq (.region 10 F23.r10.toArray false) (.seq (.region 11 F23.r11.toArray false) (.region 12 F23.r12.toArray false)))) F23.t9) Q e w := rfl
def F23.t6 : Cd := (.seq (.region 6 F23.r6.toArray false) (.seq (.region 7 F23.r7.toArray false) (.block 2 (.loop (.seq (.seq (.region 8 F23.r8.toArray true) (.cond (.tmp 58) .skip (.exit 2))) F23.t10)))))
theorem F23.t6_eq {θ : Tag (F23.t6, Q, e, w)} : cwE P F23.t6 Q e w θ = cwE P (.seq (.region 6 F23.r6.toArray false) (.seq (.region 7 F23.r7.toArray false) (.block 2 (.loop (.seq (.seq (.region 8 F23.r8.toArray true) (.cond (.tmp 58) .skip (.exit 2))) F23.t10))))) Q e w := rfl
def F23.t4 : Cd := (.region 4 F23.r4.toArray false)
theorem F23.t4_eq {θ : Tag (F23.t4, Q, e, w)} : cwE P F23.t4 Q e w θ = cwE P (.region 4 F23.r4.toArray false) Q e w := rfl
def F23.t5 : Cd := (.seq (.block 1 (.seq (.seq (.region 5 F23.r5.toArray false) (.cond (.tmp 27) (.exit 1) .skip)) F23.t6)) F23.t4)
theorem F23.t5_eq {θ : Tag (F23.t5, Q, e, w)} : cwE P F23.t5 Q e w θ = cwE P (.seq (.block 1 (.seq (.seq (.region 5 F23.r5.toArray false) (.cond (.tmp 27) (.exit 1) .skip)) F23.t6)) F23.t4) Q e w := rfl
def F23.t13 : Cd := (.seq (.region 13 F23.r13.toArray false) .ret)
theorem F23.t13_eq {θ : Tag (F23.t13, Q, e, w)} : cwE P F23.t13 Q e w θ = cwE P (.seq (.region 13 F23.r13.toArray false) .ret) Q e w := rfl
def F23.code : Cd := (.seq (.region 0 F23.r0.toArray false) (.seq (.region 1 F23.r1.toArray false) (.seq (.seq (.region 2 F23.r2.toArray false) (.block 0 (.loop (.seq (.seq (.region 3 F23.r3.toArray false) (.cond (.tmp 15) .skip (.exit 0))) F23.t5)))) F23.t13)))
theorem F23.calls (hn : args.size ≤ 79) (h : cwE Tryz.prog F23.code (fnP Tryz.prog #[(.tmp 4)] R) (entry args) w) : Calls Tryz.prog 23 args w R :=
  calls_of_cwE (types := Tryz.prog.types) follows Tryz.func23 F23.code rfl (by kernel_rfl) hn h

def F24.r0 : List Oper := [
  oc 3 (.box 40 (.tmp 1)) 0,
  op 4 (.assign (.const (.slice none 0 0))) 32]
def F24.r1 : List Oper := [
  op 5 (.assign (.const (.slice none 0 0))) 32]
def F24.r2 : List Oper := [
  op 6 (.assign (.const (.int .i64 0))) 3]
def F24.r3 : List Oper := [
  op 7 (.move (.tmp 6)) 3,
  op 8 (.move (.tmp 0)) 28,
  op 9 (.nilCheck (.tmp 8)) 0,
  op 10 (.fieldAddr 61 (.tmp 9) 0) 0,
  od 11 (.load 59 (.tmp 10)) 59,
  op 12 (.call ⟨(.builtin .len), #[(.tmp 11)], #[59]⟩) 3,
  op 13 (.binOp .lss 3 (.tmp 7) (.tmp 12) 3) 4]
def F24.r5 : List Oper := [
  ⟨(some 16), (.move (.tmp 0)), 28, "", #[], none⟩,
  ⟨(some 17), (.nilCheck (.tmp 16)), 0, "", #[], none⟩,
  ⟨(some 18), (.fieldAddr 61 (.tmp 17) 0), 0, "", #[], none⟩,
  ⟨(some 20), (.move (.tmp 6)), 3, "", #[], none⟩,
  ⟨(some 19), (.load 59 (.tmp 18)), 59, "", #[⟨0, .data⟩], none⟩,
  ⟨(some 21), (.indexAddr 59 (.tmp 19) (.tmp 20)), 0, "", #[], none⟩,
  ⟨(some 22), (.fieldAddr 84 (.tmp 21) 1), 0, "", #[], none⟩,
  ⟨(some 23), (.fieldAddr 42 (.tmp 22) 0), 0, "", #[], none⟩,
  ⟨(some 24), (.load 40 (.tmp 23)), 40, "", #[⟨0, .data⟩], none⟩,
  ⟨(some 25), (.load 40 (.tmp 3)), 40, "", #[⟨0, .data⟩], none⟩,
  ⟨(some 26), (.binOp .eql 40 (.tmp 24) (.tmp 25) 40), 4, "", #[], none⟩]
def F24.r6 : List Oper := [
  op 27 (.move (.tmp 5)) 32,
  op 28 (.move (.tmp 0)) 28,
  op 29 (.nilCheck (.tmp 28)) 0,
  op 30 (.fieldAddr 61 (.tmp 29) 0) 0,
  od 31 (.load 59 (.tmp 30)) 59,
  op 32 (.move (.tmp 6)) 3,
  op 33 (.indexAddr 59 (.tmp 31) (.tmp 32)) 0,
  op 34 (.fieldAddr 84 (.tmp 33) 0) 0,
  od 35 (.load 3 (.tmp 34)) 3,
  oc 36 (.call ⟨(.value (.func 51)), #[(.tmp 27), (.tmp 35)], #[32, 3]⟩) 32,
  op 5 (.assign (.tmp 36)) 32]
def F24.r4 : List Oper := [
  op 14 (.move (.tmp 6)) 3,
  op 15 (.binOp .add 3 (.tmp 14) (.const (.int .i64 1)) 3) 3,
  op 6 (.assign (.tmp 15)) 3]
def F24.r7 : List Oper := [
  op 37 (.move (.tmp 5)) 32,
  op 4 (.assign (.tmp 37)) 32]
def F24.t4 : Cd := (.region 4 F24.r4.toArray false)
theorem F24.t4_eq {θ : Tag (F24.t4, Q, e, w)} : cwE P F24.t4 Q e w θ = cwE P (.region 4 F24.r4.toArray false) Q e w := rfl
def F24.t5 : Cd := (.seq (.block 1 (.seq (.region 5 F24.r5.toArray true) (.cond (.tmp 26) (.region 6 F24.r6.toArray false) .skip))) F24.t4)
theorem F24.t5_eq {θ : Tag (F24.t5, Q, e, w)} : cwE P F24.t5 Q e w θ = cwE P (.seq (.block 1 (.seq (.region 5 F24.r5.toArray true) (.cond (.tmp 26) (.region 6 F24.r6.toArray false) .skip))) F24.t4) Q e w := rfl
def F24.t7 : Cd := (.seq (.region 7 F24.r7.toArray false) .ret)
theorem F24.t7_eq {θ : Tag (F24.t7, Q, e, w)} : cwE P F24.t7 Q e w θ = cwE P (.seq (.region 7 F24.r7.toArray false) .ret) Q e w := rfl
def F24.code : Cd := (.seq (.region 0 F24.r0.toArray false) (.seq (.region 1 F24.r1.toArray false) (.seq (.seq (.region 2 F24.r2.toArray false) (.block 0 (.loop (.seq (.seq (.region 3 F24.r3.toArray false) (.cond (.tmp 13) .skip (.exit 0))) F24.t5)))) F24.t7)))
theorem F24.calls (hn : args.size ≤ 38) (h : cwE Tryz.prog F24.code (fnP Tryz.prog #[(.tmp 4)] R) (entry args) w) : Calls Tryz.prog 24 args w R :=
  calls_of_cwE (types := Tryz.prog.types) follows Tryz.func24 F24.code rfl (by kernel_rfl) hn h

def F25.r0 : List Oper := [
  op 4 (.assign (.const (.slice none 0 0))) 63]
def F25.r1 : List Oper := [
  op 5 (.assign (.const (.slice none 0 0))) 63]
def F25.r2 : List Oper := [
  op 9 (.move (.tmp 0)) 26,
  op 10 (.nilCheck (.tmp 9)) 0,
  op 11 (.fieldAddr 58 (.tmp 10) 0) 0,
  od 12 (.load 55 (.tmp 11)) 55,
  oc 13 (.range 55 (.tmp 12)) 0]
def F25.r3 : List Oper := [
  oc 14 (.next (.tmp 13) false) 0,
  op 15 (.extract (.tmp 14) 0) 4]
def F25.r4 : List Oper := [
  od 16 (.entry (.tmp 13)) 0,
  op 17 (.extract (.tmp 16) 0) 40,
  op 18 (.extract (.tmp 16) 1) 70,
  oc 6 (.alloc 40) 0,
  ⟨none, (.store 40 (.tmp 6) (.tmp 17)), 0, "", #[⟨0, .chain⟩], none⟩,
  op 7 (.assign (.tmp 18)) 70]
def F25.r5 : List Oper := [
  op 19 (.move (.tmp 7)) 70,
  op 20 (.move (.tmp 1)) 3,
  oc 21 (.call ⟨(.value (.func 37)), #[(.tmp 19), (.tmp 20)], #[70, 3]⟩) 3,
  op 8 (.assign (.tmp 21)) 3]
def F25.r6 : List Oper := [
  op 22 (.move (.tmp 8)) 3,
  op 23 (.binOp .geq 3 (.tmp 22) (.const (.int .i64 0)) 3) 4]
def F25.r7 : List Oper := [
  ⟨(some 24), (.move (.tmp 5)), 63, "", #[], none⟩,
  ⟨(some 26), (.move (.tmp 7)), 70, "", #[], none⟩,
  ⟨(some 27), (.nilCheck (.tmp 26)), 0, "", #[], none⟩,
  ⟨(some 28), (.fieldAddr 73 (.tmp 27) 0), 0, "", #[], none⟩,
  ⟨(some 30), (.move (.tmp 8)), 3, "", #[], none⟩,
  ⟨(some 25), (.load 40 (.tmp 6)), 40, "", #[⟨6144, .data⟩], none⟩,
  ⟨(some 29), (.load 71 (.tmp 28)), 71, "", #[⟨6144, .data⟩], none⟩,
  ⟨(some 31), (.indexAddr 71 (.tmp 29) (.tmp 30)), 0, "", #[], none⟩,
  ⟨(some 32), (.fieldAddr 76 (.tmp 31) 1), 0, "", #[], none⟩,
  ⟨(some 33), (.load 4 (.tmp 32)), 4, "", #[⟨6144, .data⟩], none⟩,
  ⟨(some 34), (.build 42 #[(0, (.tmp 25)), (1, (.tmp 33))]), 42, "", #[], none⟩,
  ⟨(some 35), (.buildSlice 63 1 #[(0, (.tmp 34))]), 63, "", #[⟨11, .chain⟩], none⟩,
  ⟨(some 36), (.call ⟨(.builtin .append), #[(.tmp 24), (.tmp 35)], #[63, 63]⟩), 63, "", #[⟨12, .chain⟩], none⟩,
  ⟨(some 5), (.assign (.tmp 36)), 63, "", #[], none⟩]
def F25.r8 : List Oper := [
  op 37 (.move (.tmp 5)) 63,
  oc 38 (.call ⟨(.value (.func 52)), #[(.tmp 37), (.func 53)], #[63, 92]⟩) 0]
def F25.r9 : List Oper := [
  op 39 (.move (.tmp 5)) 63,
  op 4 (.assign (.tmp 39)) 63]
def F25.t4 : Cd := (.block 1 (.seq (.region 4 F25.r4.toArray false) (.seq (.region 5 F25.r5.toArray false) (.seq (.region 6 F25.r6.toArray false) (.cond (.tmp 23) (.region 7 F25.r7.toArray true) .skip)))))
theorem F25.t4_eq {θ : Tag (F25.t4, Q, e, w)} : cwE P F25.t4 Q e w θ = cwE P (.block 1 (.seq (.region 4 F25.r4.toArray false) (.seq (.region 5 F25.r5.toArray false) (.seq (.region 6 F25.r6.toArray false) (.cond (.tmp 23) (.region 7 F25.r7.toArray true) .skip))))) Q e w := rfl
def F25.t8 : Cd := (.seq (.region 8 F25.r8.toArray false) (.seq (.region 9 F25.r9.toArray false) .ret))
theorem F25.t8_eq {θ : Tag (F25.t8, Q, e, w)} : cwE P F25.t8 Q e w θ = cwE P (.seq (.region 8 F25.r8.toArray false) (.seq (.region 9 F25.r9.toArray false) .ret)) Q e w := rfl
def F25.code : Cd := (.seq (.region 0 F25.r0.toArray false) (.seq (.region 1 F25.r1.toArray false) (.seq (.seq (.region 2 F25.r2.toArray false) (.block 0 (.loop (.seq (.region 3 F25.r3.toArray false) (.seq (.cond (.tmp 15) .skip (.exit 0)) F25.t4))))) F25.t8)))
theorem F25.calls (hn : args.size ≤ 40) (h : cwE Tryz.prog F25.code (fnP Tryz.prog #[(.tmp 4)] R) (entry args) w) : Calls Tryz.prog 25 args w R :=
  calls_of_cwE (types := Tryz.prog.types) follows Tryz.func25 F25.code rfl (by kernel_rfl) hn h

def F26.r0 : List Oper := [
  op 4 (.assign (.const (.bool false))) 4]
def F26.r1 : List Oper := [
  op 6 (.move (.tmp 0)) 63,
  op 7 (.call ⟨(.builtin .len), #[(.tmp 6)], #[63]⟩) 3,
  op 8 (.move (.tmp 1)) 63,
  op 9 (.call ⟨(.builtin .len), #[(.tmp 8)], #[63]⟩) 3,
  op 10 (.binOp .neq 3 (.tmp 7) (.tmp 9) 3) 4]
def F26.r2 : List Oper := [
  op 4 (.assign (.const (.bool false))) 4]
def F26.r3 : List Oper := [
  op 5 (.assign (.const (.int .i64 0))) 3]
def F26.r4 : List Oper := [
  op 11 (.move (.tmp 5)) 3,
  op 12 (.move (.tmp 0)) 63,
  op 13 (.call ⟨(.builtin .len), #[(.tmp 12)], #[63]⟩) 3,
  op 14 (.binOp .lss 3 (.tmp 11) (.tmp 13) 3) 4]
def F26.r6 : List Oper := [
  ⟨(some 17), (.move (.tmp 0)), 63, "", #[], none⟩,
  ⟨(some 18), (.move (.tmp 5)), 3, "", #[], none⟩,
  ⟨(some 19), (.indexAddr 63 (.tmp 17) (.tmp 18)), 0, "", #[], none⟩,
  ⟨(some 21), (.move (.tmp 1)), 63, "", #[], none⟩,
  ⟨(some 22), (.move (.tmp 5)), 3, "", #[], none⟩,
  ⟨(some 23), (.indexAddr 63 (.tmp 21) (.tmp 22)), 0, "", #[], none⟩,
  ⟨(some 20), (.load 42 (.tmp 19)), 42, "", #[⟨0, .data⟩], none⟩,
  ⟨(some 24), (.load 42 (.tmp 23)), 42, "", #[⟨0, .data⟩], none⟩,
  ⟨(some 25), (.binOp .neq 42 (.tmp 20) (.tmp 24) 42), 4, "", #[], none⟩]
def F26.r7 : List Oper := [
  op 4 (.assign (.const (.bool false))) 4]
def F26.r5 : List Oper := [
  op 15 (.move (.tmp 5)) 3,
  op 16 (.binOp .add 3 (.tmp 15) (.const (.int .i64 1)) 3) 3,
  op 5 (.assign (.tmp 16)) 3]
def F26.r8 : List Oper := [
  op 4 (.assign (.const (.bool true))) 4]
def F26.t5 : Cd := (.region 5 F26.r5.toArray false)
theorem F26.t5_eq {θ : Tag (F26.t5, Q, e, w)} : cwE P F26.t5 Q e w θ = cwE P (.region 5 F26.r5.toArray false) Q e w := rfl
def F26.t6 : Cd := (.seq (.block 1 (.seq (.region 6 F26.r6.toArray true) (.cond (.tmp 25) (.seq (.region 7 F26.r7.toArray false) .ret) .skip))) F26.t5)
theorem F26.t6_eq {θ : Tag (F26.t6, Q, e, w)} : cwE P F26.t6 Q e w θ = cwE P (.seq (.block 1 (.seq (.region 6 F26.r6.toArray true) (.cond (.tmp 25) (.seq (.region 7 F26.r7.toArray false) .ret) .skip))) F26.t5) Q e w := rfl
def F26.t8 : Cd := (.seq (.region 8 F26.r8.toArray false) .ret)
theorem F26.t8_eq {θ : Tag (F26.t8, Q, e, w)} : cwE P F26.t8 Q e w θ = cwE P (.seq (.region 8 F26.r8.toArray false) .ret) Q e w := rfl
def F26.t3 : Cd := (.seq (.seq (.region 3 F26.r3.toArray false) (.block 0 (.loop (.seq (.seq (.region 4 F26.r4.toArray false) (.cond (.tmp 14) .skip (.exit 0))) F26.t6)))) F26.t8)
theorem F26.t3_eq {θ : Tag (F26.t3, Q, e, w)} : cwE P F26.t3 Q e w θ = cwE P (.seq (.seq (.region 3 F26.r3.toArray false) (.block 0 (.loop (.seq (.seq (.region 4 F26.r4.toArray false) (.cond (.tmp 14) .skip (.exit 0))) F26.t6)))) F26.t8) Q e w := rfl
def F26.code : Cd := (.seq (.region 0 F26.r0.toArray false) (.seq (.seq (.region 1 F26.r1.toArray false) (.cond (.tmp 10) (.seq (.region 2 F26.r2.toArray false) .ret) .skip)) F26.t3))
theorem F26.calls (hn : args.size ≤ 26) (h : cwE Tryz.prog F26.code (fnP Tryz.prog #[(.tmp 4)] R) (entry args) w) : Calls Tryz.prog 26 args w R :=
  calls_of_cwE (types := Tryz.prog.types) follows Tryz.func26 F26.code rfl (by kernel_rfl) hn h

def F27.r0 : List Oper := [
  op 4 (.assign (.const (.slice none 0 0))) 63]
def F27.r1 : List Oper := [
  op 5 (.move (.tmp 0)) 30,
  op 6 (.move (.tmp 0)) 30,
  op 7 (.nilCheck (.tmp 6)) 0,
  op 8 (.fieldAddr 35 (.tmp 7) 10) 0,
  od 9 (.load 33 (.tmp 8)) 33,
  op 10 (.move (.tmp 1)) 63,
  oc 11 (.buildSlice 33 1 #[(0, (.tmp 10))]) 33,
  oc 12 (.call ⟨(.builtin .append), #[(.tmp 9), (.tmp 11)], #[33, 33]⟩) 33,
  op 13 (.nilCheck (.tmp 5)) 0,
  op 14 (.fieldAddr 35 (.tmp 13) 10) 0,
  ⟨none, (.store 33 (.tmp 14) (.tmp 12)), 0, "", #[⟨0, .chain⟩], none⟩]
def F27.r2 : List Oper := [
  ⟨(some 15), (.move (.tmp 0)), 30, "", #[], none⟩,
  ⟨(some 16), (.move (.tmp 0)), 30, "", #[], none⟩,
  ⟨(some 17), (.nilCheck (.tmp 16)), 0, "", #[], none⟩,
  ⟨(some 18), (.fieldAddr 35 (.tmp 17) 11), 0, "", #[], none⟩,
  ⟨(some 20), (.move (.tmp 4)), 63, "", #[], none⟩,
  ⟨(some 21), (.move (.tmp 1)), 63, "", #[], none⟩,
  ⟨(some 19), (.load 33 (.tmp 18)), 33, "", #[⟨4608, .data⟩], none⟩,
  ⟨(some 22), (.call ⟨(.builtin .append), #[(.tmp 20), (.tmp 21)], #[63, 63]⟩), 63, "", #[⟨7, .chain⟩], none⟩,
  ⟨(some 23), (.buildSlice 33 1 #[(0, (.tmp 22))]), 33, "", #[⟨8, .chain⟩], none⟩,
  ⟨(some 24), (.call ⟨(.builtin .append), #[(.tmp 19), (.tmp 23)], #[33, 33]⟩), 33, "", #[⟨9, .chain⟩], none⟩,
  ⟨(some 25), (.nilCheck (.tmp 15)), 0, "", #[], none⟩,
  ⟨(some 26), (.fieldAddr 35 (.tmp 25) 11), 0, "", #[], none⟩,
  ⟨none, (.store 33 (.tmp 26) (.tmp 24)), 0, "", #[⟨12, .chain⟩], none⟩]
def F27.code : Cd := (.seq (.region 0 F27.r0.toArray false) (.seq (.region 1 F27.r1.toArray false) (.region 2 F27.r2.toArray true)))
theorem F27.calls (hn : args.size ≤ 27) (h : cwE Tryz.prog F27.code (fnP Tryz.prog #[] R) (entry args) w) : Calls Tryz.prog 27 args w R :=
  calls_of_cwE (types := Tryz.prog.types) follows Tryz.func27 F27.code rfl (by kernel_rfl) hn h

def F28.r0 : List Oper := [
  oc 4 (.alloc 42) 0,
  op 5 (.assign (.const (.bool false))) 4]
def F28.r1 : List Oper := [
  op 9 (.move (.tmp 0)) 26,
  op 10 (.nilCheck (.tmp 9)) 0,
  op 11 (.fieldAddr 58 (.tmp 10) 1) 0,
  od 12 (.load 56 (.tmp 11)) 56,
  op 13 (.move (.tmp 1)) 3,
  od 14 (.lookup 56 (.tmp 12) (.tmp 13) true) 67,
  op 8 (.move (.tmp 14)) 67,
  op 15 (.extract (.tmp 8) 0) 42,
  op 16 (.extract (.tmp 8) 1) 4,
  oc 6 (.alloc 42) 0,
  ⟨none, (.store 42 (.tmp 6) (.tmp 15)), 0, "", #[⟨0, .chain⟩], none⟩,
  op 7 (.assign (.tmp 16)) 4]
def F28.r2 : List Oper := [
  od 17 (.load 42 (.tmp 6)) 42,
  op 18 (.move (.tmp 7)) 4,
  ⟨none, (.store 42 (.tmp 4) (.tmp 17)), 0, "", #[⟨0, .chain⟩], none⟩,
  op 5 (.assign (.tmp 18)) 4]
def F28.code : Cd := (.seq (.region 0 F28.r0.toArray false) (.seq (.region 1 F28.r1.toArray false) (.seq (.region 2 F28.r2.toArray false) .ret)))
theorem F28.calls (hn : args.size ≤ 19) (h : cwE Tryz.prog F28.code (fnP Tryz.prog #[(.cell 4 42), (.tmp 5)] R) (entry args) w) : Calls Tryz.prog 28 args w R :=
  calls_of_cwE (types := Tryz.prog.types) follows Tryz.func28 F28.code rfl (by kernel_rfl) hn h

def F29.r0 : List Oper := [
  oc 4 (.alloc 42) 0,
  op 5 (.assign (.const (.bool false))) 4]
def F29.r1 : List Oper := [
  op 7 (.move (.tmp 0)) 28,
  op 8 (.nilCheck (.tmp 7)) 0,
  op 9 (.fieldAddr 61 (.tmp 8) 1) 0,
  od 10 (.load 59 (.tmp 9)) 59,
  op 11 (.move (.tmp 1)) 3,
  op 12 (.build 40 #[]) 40,
  oc 13 (.call ⟨(.value (.func 42)), #[(.tmp 10), (.tmp 11), (.tmp 12), (.const (.bool true))], #[59, 3, 40, 4]⟩) 3,
  op 6 (.assign (.tmp 13)) 3]
def F29.r2 : List Oper := [
  op 14 (.move (.tmp 6)) 3,
  op 15 (.binOp .lss 3 (.tmp 14) (.const (.int .i64 0)) 3) 4]
def F29.r3 : List Oper := [
  op 16 (.build 42 #[]) 42,
  ⟨none, (.store 42 (.tmp 4) (.tmp 16)), 0, "", #[⟨0, .chain⟩], none⟩,
  op 5 (.assign (.const (.bool false))) 4]
def F29.r4 : List Oper := [
  op 17 (.move (.tmp 0)) 28,
  op 18 (.nilCheck (.tmp 17)) 0,
  op 19 (.fieldAddr 61 (.tmp 18) 1) 0,
  od 20 (.load 59 (.tmp 19)) 59,
  op 21 (.move (.tmp 6)) 3,
  op 22 (.indexAddr 59 (.tmp 20) (.tmp 21)) 0,
  op 23 (.fieldAddr 84 (.tmp 22) 1) 0,
  od 24 (.load 42 (.tmp 23)) 42,
  ⟨none, (.store 42 (.tmp 4) (.tmp 24)), 0, "", #[⟨0, .chain⟩], none⟩,
  op 5 (.assign (.const (.bool true))) 4]
def F29.t4 : Cd := (.seq (.region 4 F29.r4.toArray false) .ret)
theorem F29.t4_eq {θ : Tag (F29.t4, Q, e, w)} : cwE P F29.t4 Q e w θ = cwE P (.seq (.region 4 F29.r4.toArray false) .ret) Q e w := rfl
def F29.code : Cd := (.seq (.region 0 F29.r0.toArray false) (.seq (.region 1 F29.r1.toArray false) (.seq (.seq (.region 2 F29.r2.toArray false) (.cond (.tmp 15) (.seq (.region 3 F29.r3.toArray false) .ret) .skip)) F29.t4)))
theorem F29.calls (hn : args.size ≤ 25) (h : cwE Tryz.prog F29.code (fnP Tryz.prog #[(.cell 4 42), (.tmp 5)] R) (entry args) w) : Calls Tryz.prog 29 args w R :=
  calls_of_cwE (types := Tryz.prog.types) follows Tryz.func29 F29.code rfl (by kernel_rfl) hn h

def F30.r0 : List Oper := [
  oc 3 (.box 40 (.tmp 1)) 0,
  op 4 (.assign (.const (.slice none 0 0))) 32]
def F30.r1 : List Oper := [
  ⟨(some 7), (.move (.tmp 0)), 26, "", #[], none⟩,
  ⟨(some 8), (.nilCheck (.tmp 7)), 0, "", #[], none⟩,
  ⟨(some 9), (.fieldAddr 58 (.tmp 8) 0), 0, "", #[], none⟩,
  ⟨(some 10), (.load 55 (.tmp 9)), 55, "", #[⟨0, .data⟩], none⟩,
  ⟨(some 11), (.load 40 (.tmp 3)), 40, "", #[⟨0, .data⟩], none⟩,
  ⟨(some 12), (.lookup 55 (.tmp 10) (.tmp 11) false), 70, "", #[⟨0, .data⟩], none⟩,
  ⟨(some 5), (.assign (.tmp 12)), 70, "", #[], none⟩]
def F30.r2 : List Oper := [
  op 13 (.move (.tmp 5)) 70,
  op 14 (.binOp .eql 70 (.tmp 13) (.const (.pointer none)) 70) 4]
def F30.r3 : List Oper := [
  op 4 (.assign (.const (.slice none 0 0))) 32]
def F30.r4 : List Oper := [
  op 15 (.move (.tmp 5)) 70,
  op 16 (.nilCheck (.tmp 15)) 0,
  op 17 (.fieldAddr 73 (.tmp 16) 0) 0,
  od 18 (.load 71 (.tmp 17)) 71,
  oc 19 (.call ⟨(.value (.func 39)), #[(.tmp 18)], #[71]⟩) 32,
  op 6 (.assign (.tmp 19)) 32]
def F30.r5 : List Oper := [
  op 20 (.move (.tmp 6)) 32,
  oc 21 (.call ⟨(.value (.func 55)), #[(.tmp 20)], #[32]⟩) 0]
def F30.r6 : List Oper := [
  op 22 (.move (.tmp 6)) 32,
  op 4 (.assign (.tmp 22)) 32]
def F30.t4 : Cd := (.seq (.region 4 F30.r4.toArray false) (.seq (.region 5 F30.r5.toArray false) (.seq (.region 6 F30.r6.toArray false) .ret)))
theorem F30.t4_eq {θ : Tag (F30.t4, Q, e, w)} : cwE P F30.t4 Q e w θ = cwE P (.seq (.region 4 F30.r4.toArray false) (.seq (.region 5 F30.r5.toArray false) (.seq (.region 6 F30.r6.toArray false) .ret))) Q e w := rfl
def F30.code : Cd := (.seq (.region 0 F30.r0.toArray false) (.seq (.region 1 F30.r1.toArray true) (.seq (.seq (.region 2 F30.r2.toArray false) (.cond (.tmp 14) (.seq (.region 3 F30.r3.toArray false) .ret) .skip)) F30.t4)))
theorem F30.calls (hn : args.size ≤ 23) (h : cwE Tryz.prog F30.code (fnP Tryz.prog #[(.tmp 4)] R) (entry args) w) : Calls Tryz.prog 30 args w R :=
  calls_of_cwE (types := Tryz.prog.types) follows Tryz.func30 F30.code rfl (by kernel_rfl) hn h

def F31.r0 : List Oper := [
  oc 3 (.box 40 (.tmp 1)) 0,
  op 4 (.assign (.const (.slice none 0 0))) 32]
def F31.r1 : List Oper := [
  op 5 (.assign (.const (.slice none 0 0))) 32]
def F31.r2 : List Oper := [
  op 6 (.assign (.const (.int .i64 0))) 3]
def F31.r3 : List Oper := [
  op 7 (.move (.tmp 6)) 3,
  op 8 (.move (.tmp 0)) 28,
  op 9 (.nilCheck (.tmp 8)) 0,
  op 10 (.fieldAddr 61 (.tmp 9) 1) 0,
  od 11 (.load 59 (.tmp 10)) 59,
  op 12 (.call ⟨(.builtin .len), #[(.tmp 11)], #[59]⟩) 3,
  op 13 (.binOp .lss 3 (.tmp 7) (.tmp 12) 3) 4]
def F31.r5 : List Oper := [
  ⟨(some 16), (.move (.tmp 0)), 28, "", #[], none⟩,
  ⟨(some 17), (.nilCheck (.tmp 16)), 0, "", #[], none⟩,
  ⟨(some 18), (.fieldAddr 61 (.tmp 17) 1), 0, "", #[], none⟩,
  ⟨(some 20), (.move (.tmp 6)), 3, "", #[], none⟩,
  ⟨(some 19), (.load 59 (.tmp 18)), 59, "", #[⟨0, .data⟩], none⟩,
  ⟨(some 21), (.indexAddr 59 (.tmp 19) (.tmp 20)), 0, "", #[], none⟩,
  ⟨(some 22), (.fieldAddr 84 (.tmp 21) 1), 0, "", #[], none⟩,
  ⟨(some 23), (.fieldAddr 42 (.tmp 22) 0), 0, "", #[], none⟩,
  ⟨(some 24), (.load 40 (.tmp 23)), 40, "", #[⟨0, .data⟩], none⟩,
  ⟨(some 25), (.load 40 (.tmp 3)), 40, "", #[⟨0, .data⟩], none⟩,
  ⟨(some 26), (.binOp .eql 40 (.tmp 24) (.tmp 25) 40), 4, "", #[], none⟩]
def F31.r6 : List Oper := [
  op 27 (.move (.tmp 5)) 32,
  op 28 (.move (.tmp 0)) 28,
  op 29 (.nilCheck (.tmp 28)) 0,
  op 30 (.fieldAddr 61 (.tmp 29) 1) 0,
  od 31 (.load 59 (.tmp 30)) 59,
  op 32 (.move (.tmp 6)) 3,
  op 33 (.indexAddr 59 (.tmp 31) (.tmp 32)) 0,
  op 34 (.fieldAddr 84 (.tmp 33) 0) 0,
  od 35 (.load 3 (.tmp 34)) 3,
  oc 36 (.buildSlice 32 1 #[(0, (.tmp 35))]) 32,
  oc 37 (.call ⟨(.builtin .append), #[(.tmp 27), (.tmp 36)], #[32, 32]⟩) 32,
  op 5 (.assign (.tmp 37)) 32]
def F31.r4 : List Oper := [
  op 14 (.move (.tmp 6)) 3,
  op 15 (.binOp .add 3 (.tmp 14) (.const (.int .i64 1)) 3) 3,
  op 6 (.assign (.tmp 15)) 3]
def F31.r7 : List Oper := [
  op 38 (.move (.tmp 5)) 32,
  op 4 (.assign (.tmp 38)) 32]
def F31.t4 : Cd := (.region 4 F31.r4.toArray false)
theorem F31.t4_eq {θ : Tag (F31.t4, Q, e, w)} : cwE P F31.t4 Q e w θ = cwE P (.region 4 F31.r4.toArray false) Q e w := rfl
def F31.t5 : Cd := (.seq (.block 1 (.seq (.region 5 F31.r5.toArray true) (.cond (.tmp 26) (.region 6 F31.r6.toArray false) .skip))) F31.t4)
theorem F31.t5_eq {θ : Tag (F31.t5, Q, e, w)} : cwE P F31.t5 Q e w θ = cwE P (.seq (.block 1 (.seq (.region 5 F31.r5.toArray true) (.cond (.tmp 26) (.region 6 F31.r6.toArray false) .skip))) F31.t4) Q e w := rfl
def F31.t7 : Cd := (.seq (.region 7 F31.r7.toArray false) .ret)
theorem F31.t7_eq {θ : Tag (F31.t7, Q, e, w)} : cwE P F31.t7 Q e w θ = cwE P (.seq (.region 7 F31.r7.toArray false) .ret) Q e w := rfl
def F31.code : Cd := (.seq (.region 0 F31.r0.toArray false) (.seq (.region 1 F31.r1.toArray false) (.seq (.seq (.region 2 F31.r2.toArray false) (.block 0 (.loop (.seq (.seq (.region 3 F31.r3.toArray false) (.cond (.tmp 13) .skip (.exit 0))) F31.t5)))) F31.t7)))
theorem F31.calls (hn : args.size ≤ 39) (h : cwE Tryz.prog F31.code (fnP Tryz.prog #[(.tmp 4)] R) (entry args) w) : Calls Tryz.prog 31 args w R :=
  calls_of_cwE (types := Tryz.prog.types) follows Tryz.func31 F31.code rfl (by kernel_rfl) hn h

def F32.r0 : List Oper := [
  op 2 (.assign (.const (.slice none 0 0))) 32]
def F32.r1 : List Oper := [
  op 6 (.move (.tmp 0)) 26,
  oc 7 (.call ⟨(.value (.func 56)), #[(.tmp 6)], #[26]⟩) 26,
  op 3 (.assign (.tmp 7)) 26]
def F32.r2 : List Oper := [
  op 9 (.move (.tmp 3)) 26,
  oc 10 (.call ⟨(.value (.func 57)), #[(.tmp 9)], #[26]⟩) 93,
  op 8 (.move (.tmp 10)) 93,
  op 11 (.extract (.tmp 8) 0) 3,
  op 12 (.extract (.tmp 8) 1) 4,
  op 4 (.assign (.tmp 11)) 3,
  op 5 (.assign (.tmp 12)) 4]
def F32.r3 : List Oper := [
  op 13 (.move (.tmp 5)) 4]
def F32.r5 : List Oper := [
  op 19 (.move (.tmp 3)) 26,
  op 20 (.move (.tmp 4)) 3,
  oc 21 (.call ⟨(.value (.func 21)), #[(.tmp 19), (.tmp 20)], #[26, 3]⟩) 32]
def F32.r4 : List Oper := [
  op 15 (.move (.tmp 3)) 26,
  oc 16 (.call ⟨(.value (.func 57)), #[(.tmp 15)], #[26]⟩) 93,
  op 14 (.move (.tmp 16)) 93,
  op 17 (.extract (.tmp 14) 0) 3,
  op 18 (.extract (.tmp 14) 1) 4,
  op 4 (.assign (.tmp 17)) 3,
  op 5 (.assign (.tmp 18)) 4]
def F32.r6 : List Oper := [
  op 22 (.move (.tmp 3)) 26,
  op 23 (.nilCheck (.tmp 22)) 0,
  op 24 (.fieldAddr 58 (.tmp 23) 1) 0,
  od 25 (.load 56 (.tmp 24)) 56,
  oc 26 (.call ⟨(.value (.func 59)), #[(.tmp 25)], #[56]⟩) 97,
  oc 27 (.call ⟨(.value (.func 58)), #[(.tmp 26)], #[97]⟩) 32,
  op 2 (.assign (.tmp 27)) 32]
def F32.t4 : Cd := (.region 4 F32.r4.toArray false)
theorem F32.t4_eq {θ : Tag (F32.t4, Q, e, w)} : cwE P F32.t4 Q e w θ = cwE P (.region 4 F32.r4.toArray false) Q e w := rfl
def F32.t5 : Cd := (.seq (.block 1 (.region 5 F32.r5.toArray false)) F32.t4)
theorem F32.t5_eq {θ : Tag (F32.t5, Q, e, w)} : cwE P F32.t5 Q e w θ = cwE P (.seq (.block 1 (.region 5 F32.r5.toArray false)) F32.t4) Q e w := rfl
def F32.t6 : Cd := (.seq (.region 6 F32.r6.toArray false) .ret)
theorem F32.t6_eq {θ : Tag (F32.t6, Q, e, w)} : cwE P F32.t6 Q e w θ = cwE P (.seq (.region 6 F32.r6.toArray false) .ret) Q e w := rfl
def F32.code : Cd := (.seq (.region 0 F32.r0.toArray false) (.seq (.region 1 F32.r1.toArray false) (.seq (.seq (.region 2 F32.r2.toArray false) (.block 0 (.loop (.seq (.seq (.region 3 F32.r3.toArray false) (.cond (.tmp 13) .skip (.exit 0))) F32.t5)))) F32.t6)))
theorem F32.calls (hn : args.size ≤ 28) (h : cwE Tryz.prog F32.code (fnP Tryz.prog #[(.tmp 2)] R) (entry args) w) : Calls Tryz.prog 32 args w R :=
  calls_of_cwE (types := Tryz.prog.types) follows Tryz.func32 F32.code rfl (by kernel_rfl) hn h

def F33.r0 : List Oper := [
  op 2 (.assign (.const (.slice none 0 0))) 32]
def F33.r1 : List Oper := [
  op 8 (.move (.tmp 0)) 28,
  oc 9 (.call ⟨(.value (.func 60)), #[(.tmp 8)], #[28]⟩) 28,
  op 3 (.assign (.tmp 9)) 28]
def F33.r2 : List Oper := [
  op 11 (.move (.tmp 3)) 28,
  oc 12 (.call ⟨(.value (.func 61)), #[(.tmp 11)], #[28]⟩) 93,
  op 10 (.move (.tmp 12)) 93,
  op 13 (.extract (.tmp 10) 0) 3,
  op 14 (.extract (.tmp 10) 1) 4,
  op 4 (.assign (.tmp 13)) 3,
  op 5 (.assign (.tmp 14)) 4]
def F33.r3 : List Oper := [
  op 15 (.move (.tmp 5)) 4]
def F33.r4 : List Oper := [
  op 16 (.move (.tmp 3)) 28,
  op 17 (.move (.tmp 4)) 3,
  oc 18 (.call ⟨(.value (.func 22)), #[(.tmp 16), (.tmp 17)], #[28, 3]⟩) 32]
def F33.r5 : List Oper := [
  op 20 (.move (.tmp 3)) 28,
  oc 21 (.call ⟨(.value (.func 61)), #[(.tmp 20)], #[28]⟩) 93,
  op 19 (.move (.tmp 21)) 93,
  op 22 (.extract (.tmp 19) 0) 3,
  op 23 (.extract (.tmp 19) 1) 4,
  op 4 (.assign (.tmp 22)) 3,
  op 5 (.assign (.tmp 23)) 4]
def F33.r6 : List Oper := [
  op 6 (.assign (.const (.slice none 0 0))) 32]
def F33.r7 : List Oper := [
  op 7 (.assign (.const (.int .i64 0))) 3]
def F33.r8 : List Oper := [
  op 24 (.move (.tmp 7)) 3,
  op 25 (.move (.tmp 3)) 28,
  op 26 (.nilCheck (.tmp 25)) 0,
  op 27 (.fieldAddr 61 (.tmp 26) 1) 0,
  od 28 (.load 59 (.tmp 27)) 59,
  op 29 (.call ⟨(.builtin .len), #[(.tmp 28)], #[59]⟩) 3,
  op 30 (.binOp .lss 3 (.tmp 24) (.tmp 29) 3) 4]
def F33.r10 : List Oper := [
  op 33 (.move (.tmp 6)) 32,
  op 34 (.move (.tmp 3)) 28,
  op 35 (.nilCheck (.tmp 34)) 0,
  op 36 (.fieldAddr 61 (.tmp 35) 1) 0,
  od 37 (.load 59 (.tmp 36)) 59,
  op 38 (.move (.tmp 7)) 3,
  op 39 (.indexAddr 59 (.tmp 37) (.tmp 38)) 0,
  op 40 (.fieldAddr 84 (.tmp 39) 0) 0,
  od 41 (.load 3 (.tmp 40)) 3,
  oc 42 (.call ⟨(.value (.func 51)), #[(.tmp 33), (.tmp 41)], #[32, 3]⟩) 32,
  op 6 (.assign (.tmp 42)) 32]
def F33.r9 : List Oper := [
  op 31 (.move (.tmp 7)) 3,
  op 32 (.binOp .add 3 (.tmp 31) (.const (.int .i64 1)) 3) 3,
  op 7 (.assign (.tmp 32)) 3]
def F33.r11 : List Oper := [
  op 43 (.move (.tmp 6)) 32,
  op 2 (.assign (.tmp 43)) 32]
def F33.t4 : Cd := (.block 1 (.seq (.region 4 F33.r4.toArray false) (.region 5 F33.r5.toArray false)))
theorem F33.t4_eq {θ : Tag (F33.t4, Q, e, w)} : cwE P F33.t4 Q e w θ = cwE P (.block 1 (.seq (.region 4 F33.r4.toArray false) (.region 5 F33.r5.toArray false))) Q e w := rfl
def F33.t9 : Cd := (.region 9 F33.r9.toArray false)
theorem F33.t9_eq {θ : Tag (F33.t9, Q, e, w)} : cwE P F33.t9 Q e w θ = cwE P (.region 9 F33.r9.toArray false) Q e w := rfl
def F33.t10 : Cd := (.seq (.block 3 (.region 10 F33.r10.toArray false)) F33.t9)
theorem F33.t10_eq {θ : Tag (F33.t10, Q, e, w)} : cwE P F33.t10 Q e w θ = cwE P (.seq (.block 3 (.region 10 F33.r10.toArray false)) F33.t9) Q e w := rfl
def F33.t11 : Cd := (.seq (.region 11 F33.r11.toArray false) .ret)
theorem F33.t11_eq {θ : Tag (F33.t11, Q, e, w)} : cwE P F33.t11 Q e w θ = cwE P (.seq (.region 11 F33.r11.toArray false) .ret) Q e w := rfl
def F33.t6 : Cd := (.seq (.region 6 F33.r6.toArray false) (.seq (.seq (.region 7 F33.r7.toArray false) (.block 2 (.loop (.seq (.seq (.region 8 F33.r8.toArray false) (.cond (.tmp 30) .skip (.exit 2))) F33.t10)))) F33.t11))
theorem F33.t6_eq {θ : Tag (F33.t6, Q, e, w)} : cwE P F33.t6 Q e w θ = cwE P (.seq (.region 6 F33.r6.toArray false) (.seq (.seq (.region 7 F33.r7.toArray false) (.block 2 (.loop (.seq (.seq (.region 8 F33.r8.toArray false) (.cond (.tmp 30) .skip (.exit 2))) F33.t10)))) F33.t11)) Q e w := rfl
def F33.code : Cd := (.seq (.region 0 F33.r0.toArray false) (.seq (.region 1 F33.r1.toArray false) (.seq (.region 2 F33.r2.toArray false) (.seq (.block 0 (.loop (.seq (.seq (.region 3 F33.r3.toArray false) (.cond (.tmp 15) .skip (.exit 0))) F33.t4))) F33.t6))))
theorem F33.calls (hn : args.size ≤ 44) (h : cwE Tryz.prog F33.code (fnP Tryz.prog #[(.tmp 2)] R) (entry args) w) : Calls Tryz.prog 33 args w R :=
  calls_of_cwE (types := Tryz.prog.types) follows Tryz.func33 F33.code rfl (by kernel_rfl) hn h

def F34.r0 : List Oper := [
  op 2 (.assign (.const (.bool false))) 4]
def F34.r1 : List Oper := [
  op 3 (.move (.tmp 0)) 28,
  op 4 (.nilCheck (.tmp 3)) 0,
  op 5 (.fieldAddr 61 (.tmp 4) 0) 0,
  od 6 (.load 59 (.tmp 5)) 59,
  op 7 (.call ⟨(.builtin .len), #[(.tmp 6)], #[59]⟩) 3,
  op 8 (.binOp .eql 3 (.tmp 7) (.const (.int .i64 0)) 3) 4,
  op 2 (.assign (.tmp 8)) 4]
def F34.code : Cd := (.seq (.region 0 F34.r0.toArray false) (.seq (.region 1 F34.r1.toArray false) .ret))
theorem F34.calls (hn : args.size ≤ 9) (h : cwE Tryz.prog F34.code (fnP Tryz.prog #[(.tmp 2)] R) (entry args) w) : Calls Tryz.prog 34 args w R :=
  calls_of_cwE (types := Tryz.prog.types) follows Tryz.func34 F34.code rfl (by kernel_rfl) hn h

def F35.r0 : List Oper := [
  op 16 (.move (.tmp 0)) 30,
  op 17 (.nilCheck (.tmp 16)) 0,
  op 18 (.fieldAddr 35 (.tmp 17) 0) 0,
  od 19 (.load 31 (.tmp 18)) 31,
  op 20 (.call ⟨(.builtin .len), #[(.tmp 19)], #[31]⟩) 3,
  op 2 (.assign (.tmp 20)) 3]
def F35.r1 : List Oper := [
  op 3 (.assign (.const (.int .i64 0))) 3]
def F35.r2 : List Oper := [
  op 21 (.move (.tmp 3)) 3,
  op 22 (.move (.tmp 0)) 30,
  op 23 (.nilCheck (.tmp 22)) 0,
  op 24 (.fieldAddr 35 (.tmp 23) 4) 0,
  od 25 (.load 31 (.tmp 24)) 31,
  op 26 (.call ⟨(.builtin .len), #[(.tmp 25)], #[31]⟩) 3,
  op 27 (.binOp .lss 3 (.tmp 21) (.tmp 26) 3) 4]
def F35.r4 : List Oper := [
  op 30 (.move (.tmp 0)) 30,
  op 31 (.nilCheck (.tmp 30)) 0,
  op 32 (.fieldAddr 35 (.tmp 31) 0) 0,
  od 33 (.load 31 (.tmp 32)) 31,
  op 34 (.call ⟨(.builtin .len), #[(.tmp 33)], #[31]⟩) 3,
  op 35 (.binOp .sub 3 (.const (.int .i64 (-7000000))) (.tmp 34) 3) 3,
  op 4 (.assign (.tmp 35)) 3]
def F35.r5 : List Oper := [
  op 5 (.assign (.const (.int .i64 0))) 3]
def F35.r6 : List Oper := [
  op 36 (.move (.tmp 5)) 3,
  op 37 (.move (.tmp 0)) 30,
  op 38 (.nilCheck (.tmp 37)) 0,
  op 39 (.fieldAddr 35 (.tmp 38) 4) 0,
  od 40 (.load 31 (.tmp 39)) 31,
  op 41 (.move (.tmp 3)) 3,
  op 42 (.indexAddr 31 (.tmp 40) (.tmp 41)) 0,
  od 43 (.load 32 (.tmp 42)) 32,
  op 44 (.call ⟨(.builtin .len), #[(.tmp 43)], #[32]⟩) 3,
  op 45 (.binOp .lss 3 (.tmp 36) (.tmp 44) 3) 4]
def F35.r8 : List Oper := [
  op 48 (.move (.tmp 0)) 30,
  op 49 (.nilCheck (.tmp 48)) 0,
  op 50 (.fieldAddr 35 (.tmp 49) 4) 0,
  od 51 (.load 31 (.tmp 50)) 31,
  op 52 (.move (.tmp 3)) 3,
  op 53 (.indexAddr 31 (.tmp 51) (.tmp 52)) 0,
  od 54 (.load 32 (.tmp 53)) 32,
  op 55 (.move (.tmp 5)) 3,
  op 56 (.move (.tmp 4)) 3,
  op 57 (.indexAddr 32 (.tmp 54) (.tmp 55)) 0,
  ⟨none, (.store 3 (.tmp 57) (.tmp 56)), 0, "", #[⟨0, .chain⟩], none⟩]
def F35.r7 : List Oper := [
  op 46 (.move (.tmp 5)) 3,
  op 47 (.binOp .add 3 (.tmp 46) (.const (.int .i64 1)) 3) 3,
  op 5 (.assign (.tmp 47)) 3]
def F35.r9 : List Oper := [
  ⟨(some 58), (.move (.tmp 0)), 30, "", #[], none⟩,
  ⟨(some 59), (.move (.tmp 0)), 30, "", #[], none⟩,
  ⟨(some 60), (.nilCheck (.tmp 59)), 0, "", #[], none⟩,
  ⟨(some 61), (.fieldAddr 35 (.tmp 60) 0), 0, "", #[], none⟩,
  ⟨(some 63), (.move (.tmp 0)), 30, "", #[], none⟩,
  ⟨(some 64), (.nilCheck (.tmp 63)), 0, "", #[], none⟩,
  ⟨(some 65), (.fieldAddr 35 (.tmp 64) 4), 0, "", #[], none⟩,
  ⟨(some 67), (.move (.tmp 3)), 3, "", #[], none⟩,
  ⟨(some 62), (.load 31 (.tmp 61)), 31, "", #[⟨73728, .data⟩], none⟩,
  ⟨(some 66), (.load 31 (.tmp 65)), 31, "", #[⟨77824, .data⟩], none⟩,
  ⟨(some 68), (.indexAddr 31 (.tmp 66) (.tmp 67)), 0, "", #[], none⟩,
  ⟨(some 69), (.load 32 (.tmp 68)), 32, "", #[⟨77824, .data⟩], none⟩,
  ⟨(some 70), (.buildSlice 31 1 #[(0, (.tmp 69))]), 31, "", #[⟨12, .chain⟩], none⟩,
  ⟨(some 71), (.call ⟨(.builtin .append), #[(.tmp 62), (.tmp 70)], #[31, 31]⟩), 31, "", #[⟨13, .chain⟩], none⟩,
  ⟨(some 72), (.nilCheck (.tmp 58)), 0, "", #[], none⟩,
  ⟨(some 73), (.fieldAddr 35 (.tmp 72) 0), 0, "", #[], none⟩,
  ⟨none, (.store 31 (.tmp 73) (.tmp 71)), 0, "", #[⟨16, .chain⟩], none⟩]
def F35.r10 : List Oper := [
  op 74 (.move (.tmp 0)) 30,
  op 75 (.move (.tmp 0)) 30,
  op 76 (.nilCheck (.tmp 75)) 0,
  op 77 (.fieldAddr 35 (.tmp 76) 1) 0,
  od 78 (.load 32 (.tmp 77)) 32,
  op 79 (.move (.tmp 4)) 3,
  oc 80 (.buildSlice 32 1 #[(0, (.tmp 79))]) 32,
  oc 81 (.call ⟨(.builtin .append), #[(.tmp 78), (.tmp 80)], #[32, 32]⟩) 32,
  op 82 (.nilCheck (.tmp 74)) 0,
  op 83 (.fieldAddr 35 (.tmp 82) 1) 0,
  ⟨none, (.store 32 (.tmp 83) (.tmp 81)), 0, "", #[⟨0, .chain⟩], none⟩]
def F35.r3 : List Oper := [
  op 28 (.move (.tmp 3)) 3,
  op 29 (.binOp .add 3 (.tmp 28) (.const (.int .i64 1)) 3) 3,
  op 3 (.assign (.tmp 29)) 3]
def F35.r11 : List Oper := [
  op 84 (.move (.tmp 0)) 30,
  op 85 (.nilCheck (.tmp 84)) 0,
  op 86 (.fieldAddr 35 (.tmp 85) 0) 0,
  od 87 (.load 31 (.tmp 86)) 31,
  op 88 (.call ⟨(.builtin .len), #[(.tmp 87)], #[31]⟩) 3,
  op 6 (.assign (.tmp 88)) 3]
def F35.r12 : List Oper := [
  op 89 (.move (.tmp 2)) 3,
  op 7 (.assign (.tmp 89)) 3]
def F35.r13 : List Oper := [
  op 90 (.move (.tmp 7)) 3,
  op 91 (.move (.tmp 6)) 3,
  op 92 (.binOp .lss 3 (.tmp 90) (.tmp 91) 3) 4]
def F35.r15 : List Oper := [
  op 95 (.move (.tmp 0)) 30,
  op 96 (.nilCheck (.tmp 95)) 0,
  op 97 (.fieldAddr 35 (.tmp 96) 0) 0,
  od 98 (.load 31 (.tmp 97)) 31,
  op 99 (.move (.tmp 7)) 3,
  op 100 (.indexAddr 31 (.tmp 98) (.tmp 99)) 0,
  od 101 (.load 32 (.tmp 100)) 32,
  op 8 (.assign (.tmp 101)) 32]
def F35.r16 : List Oper := [
  op 9 (.assign (.const (.int .i64 0))) 3]
def F35.r17 : List Oper := [
  op 102 (.move (.tmp 9)) 3,
  op 103 (.binOp .lss 3 (.tmp 102) (.const (.int .i64 40)) 3) 4]
def F35.r19 : List Oper := [
  op 106 (.move (.tmp 8)) 32,
  op 107 (.move (.tmp 0)) 30,
  op 108 (.nilCheck (.tmp 107)) 0,
  op 109 (.fieldAddr 35 (.tmp 108) 1) 0,
  od 110 (.load 32 (.tmp 109)) 32,
  op 111 (.move (.tmp 7)) 3,
  op 112 (.indexAddr 32 (.tmp 110) (.tmp 111)) 0,
  od 113 (.load 3 (.tmp 112)) 3,
  oc 114 (.buildSlice 32 1 #[(0, (.tmp 113))]) 32,
  oc 115 (.call ⟨(.builtin .append), #[(.tmp 106), (.tmp 114)], #[32, 32]⟩) 32,
  op 8 (.assign (.tmp 115)) 32]
def F35.r20 : List Oper := [
  op 116 (.move (.tmp 9)) 3,
  op 117 (.binOp .eql 3 (.tmp 116) (.const (.int .i64 0)) 3) 4,
  op 118 (.move (.tmp 117)) 4,
  ⟨(some 119), (.move (.tmp 9)), 3, "", #[], (some (118, false))⟩,
  ⟨(some 120), (.binOp .eql 3 (.tmp 119) (.const (.int .i64 3)) 3), 4, "", #[], (some (118, false))⟩,
  op 121 (.pick (.tmp 118) (.const (.bool true)) (.tmp 120)) 4,
  op 122 (.move (.tmp 121)) 4,
  ⟨(some 123), (.move (.tmp 9)), 3, "", #[], (some (122, false))⟩,
  ⟨(some 124), (.binOp .eql 3 (.tmp 123) (.const (.int .i64 15)) 3), 4, "", #[], (some (122, false))⟩,
  op 125 (.pick (.tmp 122) (.const (.bool true)) (.tmp 124)) 4,
  op 126 (.move (.tmp 125)) 4,
  ⟨(some 127), (.move (.tmp 9)), 3, "", #[], (some (126, false))⟩,
  ⟨(some 128), (.binOp .eql 3 (.tmp 127) (.const (.int .i64 39)) 3), 4, "", #[], (some (126, false))⟩,
  op 129 (.pick (.tmp 126) (.const (.bool true)) (.tmp 128)) 4]
def F35.r21 : List Oper := [
  op 130 (.move (.tmp 0)) 30,
  op 131 (.move (.tmp 0)) 30,
  op 132 (.nilCheck (.tmp 131)) 0,
  op 133 (.fieldAddr 35 (.tmp 132) 0) 0,
  od 134 (.load 31 (.tmp 133)) 31,
  op 135 (.move (.tmp 8)) 32,
  oc 136 (.buildSlice 31 1 #[(0, (.tmp 135))]) 31,
  oc 137 (.call ⟨(.builtin .append), #[(.tmp 134), (.tmp 136)], #[31, 31]⟩) 31,
  op 138 (.nilCheck (.tmp 130)) 0,
  op 139 (.fieldAddr 35 (.tmp 138) 0) 0,
  ⟨none, (.store 31 (.tmp 139) (.tmp 137)), 0, "", #[⟨0, .chain⟩], none⟩]
def F35.r22 : List Oper := [
  ⟨(some 140), (.move (.tmp 0)), 30, "", #[], none⟩,
  ⟨(some 141), (.move (.tmp 0)), 30, "", #[], none⟩,
  ⟨(some 142), (.nilCheck (.tmp 141)), 0, "", #[], none⟩,
  ⟨(some 143), (.fieldAddr 35 (.tmp 142) 1), 0, "", #[], none⟩,
  ⟨(some 145), (.move (.tmp 0)), 30, "", #[], none⟩,
  ⟨(some 146), (.nilCheck (.tmp 145)), 0, "", #[], none⟩,
  ⟨(some 147), (.fieldAddr 35 (.tmp 146) 1), 0, "", #[], none⟩,
  ⟨(some 149), (.move (.tmp 7)), 3, "", #[], none⟩,
  ⟨(some 144), (.load 32 (.tmp 143)), 32, "", #[⟨73728, .data⟩], none⟩,
  ⟨(some 148), (.load 32 (.tmp 147)), 32, "", #[⟨77824, .data⟩], none⟩,
  ⟨(some 150), (.indexAddr 32 (.tmp 148) (.tmp 149)), 0, "", #[], none⟩,
  ⟨(some 151), (.load 3 (.tmp 150)), 3, "", #[⟨77824, .data⟩], none⟩,
  ⟨(some 152), (.buildSlice 32 1 #[(0, (.tmp 151))]), 32, "", #[⟨12, .chain⟩], none⟩,
  ⟨(some 153), (.call ⟨(.builtin .append), #[(.tmp 144), (.tmp 152)], #[32, 32]⟩), 32, "", #[⟨13, .chain⟩], none⟩,
  ⟨(some 154), (.nilCheck (.tmp 140)), 0, "", #[], none⟩,
  ⟨(some 155), (.fieldAddr 35 (.tmp 154) 1), 0, "", #[], none⟩,
  ⟨none, (.store 32 (.tmp 155) (.tmp 153)), 0, "", #[⟨16, .chain⟩], none⟩]
def F35.r18 : List Oper := [
  op 104 (.move (.tmp 9)) 3,
  op 105 (.binOp .add 3 (.tmp 104) (.const (.int .i64 1)) 3) 3,
  op 9 (.assign (.tmp 105)) 3]
def F35.r14 : List Oper := [
  op 93 (.move (.tmp 7)) 3,
  op 94 (.binOp .add 3 (.tmp 93) (.const (.int .i64 1)) 3) 3,
  op 7 (.assign (.tmp 94)) 3]
def F35.r23 : List Oper := [
  op 156 (.move (.tmp 0)) 30,
  op 157 (.nilCheck (.tmp 156)) 0,
  op 158 (.fieldAddr 35 (.tmp 157) 2) 0,
  od 159 (.load 33 (.tmp 158)) 33,
  op 160 (.call ⟨(.builtin .len), #[(.tmp 159)], #[33]⟩) 3,
  op 2 (.assign (.tmp 160)) 3]
def F35.r24 : List Oper := [
  op 10 (.assign (.const (.int .i64 0))) 3]
def F35.r25 : List Oper := [
  op 161 (.move (.tmp 10)) 3,
  op 162 (.move (.tmp 0)) 30,
  op 163 (.nilCheck (.tmp 162)) 0,
  op 164 (.fieldAddr 35 (.tmp 163) 8) 0,
  od 165 (.load 33 (.tmp 164)) 33,
  op 166 (.call ⟨(.builtin .len), #[(.tmp 165)], #[33]⟩) 3,
  op 167 (.binOp .lss 3 (.tmp 161) (.tmp 166) 3) 4]
def F35.r27 : List Oper := [
  op 170 (.move (.tmp 0)) 30,
  op 171 (.nilCheck (.tmp 170)) 0,
  op 172 (.fieldAddr 35 (.tmp 171) 2) 0,
  od 173 (.load 33 (.tmp 172)) 33,
  op 174 (.call ⟨(.builtin .len), #[(.tmp 173)], #[33]⟩) 3,
  op 175 (.binOp .add 3 (.const (.int .i64 7000000)) (.tmp 174) 3) 3,
  op 11 (.assign (.tmp 175)) 3]
def F35.r28 : List Oper := [
  op 12 (.assign (.const (.int .i64 0))) 3]
def F35.r29 : List Oper := [
  op 176 (.move (.tmp 12)) 3,
  op 177 (.move (.tmp 0)) 30,
  op 178 (.nilCheck (.tmp 177)) 0,
  op 179 (.fieldAddr 35 (.tmp 178) 8) 0,
  od 180 (.load 33 (.tmp 179)) 33,
  op 181 (.move (.tmp 10)) 3,
  op 182 (.indexAddr 33 (.tmp 180) (.tmp 181)) 0,
  od 183 (.load 63 (.tmp 182)) 63,
  op 184 (.call ⟨(.builtin .len), #[(.tmp 183)], #[63]⟩) 3,
  op 185 (.binOp .lss 3 (.tmp 176) (.tmp 184) 3) 4]
def F35.r31 : List Oper := [
  ⟨(some 188), (.move (.tmp 0)), 30, "", #[], none⟩,
  ⟨(some 189), (.nilCheck (.tmp 188)), 0, "", #[], none⟩,
  ⟨(some 190), (.fieldAddr 35 (.tmp 189) 8), 0, "", #[], none⟩,
  ⟨(some 192), (.move (.tmp 10)), 3, "", #[], none⟩,
  ⟨(some 195), (.move (.tmp 12)), 3, "", #[], none⟩,
  ⟨(some 196), (.move (.tmp 11)), 3, "", #[], none⟩,
  ⟨(some 191), (.load 33 (.tmp 190)), 33, "", #[⟨2048, .data⟩], none⟩,
  ⟨(some 193), (.indexAddr 33 (.tmp 191) (.tmp 192)), 0, "", #[], none⟩,
  ⟨(some 194), (.load 63 (.tmp 193)), 63, "", #[⟨2048, .data⟩], none⟩,
  ⟨(some 197), (.call ⟨(.value (.func 62)), #[(.tmp 196)], #[3]⟩), 42, "", #[⟨9, .chain⟩], none⟩,
  ⟨(some 198), (.indexAddr 63 (.tmp 194) (.tmp 195)), 0, "", #[], none⟩,
  ⟨none, (.store 42 (.tmp 198) (.tmp 197)), 0, "", #[⟨11, .chain⟩], none⟩]
def F35.r30 : List Oper := [
  op 186 (.move (.tmp 12)) 3,
  op 187 (.binOp .add 3 (.tmp 186) (.const (.int .i64 1)) 3) 3,
  op 12 (.assign (.tmp 187)) 3]
def F35.r32 : List Oper := [
  ⟨(some 199), (.move (.tmp 0)), 30, "", #[], none⟩,
  ⟨(some 200), (.move (.tmp 0)), 30, "", #[], none⟩,
  ⟨(some 201), (.nilCheck (.tmp 200)), 0, "", #[], none⟩,
  ⟨(some 202), (.fieldAddr 35 (.tmp 201) 2), 0, "", #[], none⟩,
  ⟨(some 204), (.move (.tmp 0)), 30, "", #[], none⟩,
  ⟨(some 205), (.nilCheck (.tmp 204)), 0, "", #[], none⟩,
  ⟨(some 206), (.fieldAddr 35 (.tmp 205) 8), 0, "", #[], none⟩,
  ⟨(some 208), (.move (.tmp 10)), 3, "", #[], none⟩,
  ⟨(some 203), (.load 33 (.tmp 202)), 33, "", #[⟨73728, .data⟩], none⟩,
  ⟨(some 207), (.load 33 (.tmp 206)), 33, "", #[⟨77824, .data⟩], none⟩,
  ⟨(some 209), (.indexAddr 33 (.tmp 207) (.tmp 208)), 0, "", #[], none⟩,
  ⟨(some 210), (.load 63 (.tmp 209)), 63, "", #[⟨77824, .data⟩], none⟩,
  ⟨(some 211), (.buildSlice 33 1 #[(0, (.tmp 210))]), 33, "", #[⟨12, .chain⟩], none⟩,
  ⟨(some 212), (.call ⟨(.builtin .append), #[(.tmp 203), (.tmp 211)], #[33, 33]⟩), 33, "", #[⟨13, .chain⟩], none⟩,
  ⟨(some 213), (.nilCheck (.tmp 199)), 0, "", #[], none⟩,
  ⟨(some 214), (.fieldAddr 35 (.tmp 213) 2), 0, "", #[], none⟩,
  ⟨none, (.store 33 (.tmp 214) (.tmp 212)), 0, "", #[⟨16, .chain⟩], none⟩]
def F35.r33 : List Oper := [
  op 215 (.move (.tmp 0)) 30,
  op 216 (.move (.tmp 0)) 30,
  op 217 (.nilCheck (.tmp 216)) 0,
  op 218 (.fieldAddr 35 (.tmp 217) 3) 0,
  od 219 (.load 32 (.tmp 218)) 32,
  op 220 (.move (.tmp 11)) 3,
  oc 221 (.buildSlice 32 1 #[(0, (.tmp 220))]) 32,
  oc 222 (.call ⟨(.builtin .append), #[(.tmp 219), (.tmp 221)], #[32, 32]⟩) 32,
  op 223 (.nilCheck (.tmp 215)) 0,
  op 224 (.fieldAddr 35 (.tmp 223) 3) 0,
  ⟨none, (.store 32 (.tmp 224) (.tmp 222)), 0, "", #[⟨0, .chain⟩], none⟩]
def F35.r26 : List Oper := [
  op 168 (.move (.tmp 10)) 3,
  op 169 (.binOp .add 3 (.tmp 168) (.const (.int .i64 1)) 3) 3,
  op 10 (.assign (.tmp 169)) 3]
def F35.r34 : List Oper := [
  op 225 (.move (.tmp 0)) 30,
  op 226 (.nilCheck (.tmp 225)) 0,
  op 227 (.fieldAddr 35 (.tmp 226) 2) 0,
  od 228 (.load 33 (.tmp 227)) 33,
  op 229 (.call ⟨(.builtin .len), #[(.tmp 228)], #[33]⟩) 3,
  op 6 (.assign (.tmp 229)) 3]
def F35.r35 : List Oper := [
  op 230 (.move (.tmp 2)) 3,
  op 13 (.assign (.tmp 230)) 3]
def F35.r36 : List Oper := [
  op 231 (.move (.tmp 13)) 3,
  op 232 (.move (.tmp 6)) 3,
  op 233 (.binOp .lss 3 (.tmp 231) (.tmp 232) 3) 4]
def F35.r38 : List Oper := [
  op 236 (.move (.tmp 0)) 30,
  op 237 (.nilCheck (.tmp 236)) 0,
  op 238 (.fieldAddr 35 (.tmp 237) 2) 0,
  od 239 (.load 33 (.tmp 238)) 33,
  op 240 (.move (.tmp 13)) 3,
  op 241 (.indexAddr 33 (.tmp 239) (.tmp 240)) 0,
  od 242 (.load 63 (.tmp 241)) 63,
  op 14 (.assign (.tmp 242)) 63]
def F35.r39 : List Oper := [
  op 15 (.assign (.const (.int .i64 0))) 3]
def F35.r40 : List Oper := [
  op 243 (.move (.tmp 15)) 3,
  op 244 (.binOp .lss 3 (.tmp 243) (.const (.int .i64 40)) 3) 4]
def F35.r42 : List Oper := [
  op 247 (.move (.tmp 14)) 63,
  op 248 (.move (.tmp 0)) 30,
  op 249 (.nilCheck (.tmp 248)) 0,
  op 250 (.fieldAddr 35 (.tmp 249) 3) 0,
  od 251 (.load 32 (.tmp 250)) 32,
  op 252 (.move (.tmp 13)) 3,
  op 253 (.indexAddr 32 (.tmp 251) (.tmp 252)) 0,
  od 254 (.load 3 (.tmp 253)) 3,
  oc 255 (.call ⟨(.value (.func 62)), #[(.tmp 254)], #[3]⟩) 42,
  oc 256 (.buildSlice 63 1 #[(0, (.tmp 255))]) 63,
  oc 257 (.call ⟨(.builtin .append), #[(.tmp 247), (.tmp 256)], #[63, 63]⟩) 63,
  op 14 (.assign (.tmp 257)) 63]
def F35.r43 : List Oper := [
  op 258 (.move (.tmp 15)) 3,
  op 259 (.binOp .eql 3 (.tmp 258) (.const (.int .i64 0)) 3) 4,
  op 260 (.move (.tmp 259)) 4,
  ⟨(some 261), (.move (.tmp 15)), 3, "", #[], (some (260, false))⟩,
  ⟨(some 262), (.binOp .eql 3 (.tmp 261) (.const (.int .i64 3)) 3), 4, "", #[], (some (260, false))⟩,
  op 263 (.pick (.tmp 260) (.const (.bool true)) (.tmp 262)) 4,
  op 264 (.move (.tmp 263)) 4,
  ⟨(some 265), (.move (.tmp 15)), 3, "", #[], (some (264, false))⟩,
  ⟨(some 266), (.binOp .eql 3 (.tmp 265) (.const (.int .i64 15)) 3), 4, "", #[], (some (264, false))⟩,
  op 267 (.pick (.tmp 264) (.const (.bool true)) (.tmp 266)) 4,
  op 268 (.move (.tmp 267)) 4,
  ⟨(some 269), (.move (.tmp 15)), 3, "", #[], (some (268, false))⟩,
  ⟨(some 270), (.binOp .eql 3 (.tmp 269) (.const (.int .i64 39)) 3), 4, "", #[], (some (268, false))⟩,
  op 271 (.pick (.tmp 268) (.const (.bool true)) (.tmp 270)) 4]
def F35.r44 : List Oper := [
  op 272 (.move (.tmp 0)) 30,
  op 273 (.move (.tmp 0)) 30,
  op 274 (.nilCheck (.tmp 273)) 0,
  op 275 (.fieldAddr 35 (.tmp 274) 2) 0,
  od 276 (.load 33 (.tmp 275)) 33,
  op 277 (.move (.tmp 14)) 63,
  oc 278 (.buildSlice 33 1 #[(0, (.tmp 277))]) 33,
  oc 279 (.call ⟨(.builtin .append), #[(.tmp 276), (.tmp 278)], #[33, 33]⟩) 33,
  op 280 (.nilCheck (.tmp 272)) 0,
  op 281 (.fieldAddr 35 (.tmp 280) 2) 0,
  ⟨none, (.store 33 (.tmp 281) (.tmp 279)), 0, "", #[⟨0, .chain⟩], none⟩]
def F35.r45 : List Oper := [
  ⟨(some 282), (.move (.tmp 0)), 30, "", #[], none⟩,
  ⟨(some 283), (.move (.tmp 0)), 30, "", #[], none⟩,
  ⟨(some 284), (.nilCheck (.tmp 283)), 0, "", #[], none⟩,
  ⟨(some 285), (.fieldAddr 35 (.tmp 284) 3), 0, "", #[], none⟩,
  ⟨(some 287), (.move (.tmp 0)), 30, "", #[], none⟩,
  ⟨(some 288), (.nilCheck (.tmp 287)), 0, "", #[], none⟩,
  ⟨(some 289), (.fieldAddr 35 (.tmp 288) 3), 0, "", #[], none⟩,
  ⟨(some 291), (.move (.tmp 13)), 3, "", #[], none⟩,
  ⟨(some 286), (.load 32 (.tmp 285)), 32, "", #[⟨73728, .data⟩], none⟩,
  ⟨(some 290), (.load 32 (.tmp 289)), 32, "", #[⟨77824, .data⟩], none⟩,
  ⟨(some 292), (.indexAddr 32 (.tmp 290) (.tmp 291)), 0, "", #[], none⟩,
  ⟨(some 293), (.load 3 (.tmp 292)), 3, "", #[⟨77824, .data⟩], none⟩,
  ⟨(some 294), (.buildSlice 32 1 #[(0, (.tmp 293))]), 32, "", #[⟨12, .chain⟩], none⟩,
  ⟨(some 295), (.call ⟨(.builtin .append), #[(.tmp 286), (.tmp 294)], #[32, 32]⟩), 32, "", #[⟨13, .chain⟩], none⟩,
  ⟨(some 296), (.nilCheck (.tmp 282)), 0, "", #[], none⟩,
  ⟨(some 297), (.fieldAddr 35 (.tmp 296) 3), 0, "", #[], none⟩,
  ⟨none, (.store 32 (.tmp 297) (.tmp 295)), 0, "", #[⟨16, .chain⟩], none⟩]
def F35.r41 : List Oper := [
  op 245 (.move (.tmp 15)) 3,
  op 246 (.binOp .add 3 (.tmp 245) (.const (.int .i64 1)) 3) 3,
  op 15 (.assign (.tmp 246)) 3]
def F35.r37 : List Oper := [
  op 234 (.move (.tmp 13)) 3,
  op 235 (.binOp .add 3 (.tmp 234) (.const (.int .i64 1)) 3) 3,
  op 13 (.assign (.tmp 235)) 3]
def F35.t7 : Cd := (.region 7 F35.r7.toArray false)
theorem F35.t7_eq {θ : Tag (F35.t7, Q, e, w)} : cwE P F35.t7 Q e w θ = cwE P (.region 7 F35.r7.toArray false) Q e w := rfl
def F35.t8 : Cd := (.seq (.block 3 (.region 8 F35.r8.toArray false)) F35.t7)
theorem F35.t8_eq {θ : Tag (F35.t8, Q, e, w)} : cwE P F35.t8 Q e w θ = cwE P (.seq (.block 3 (.region 8 F35.r8.toArray false)) F35.t7) Q e w := rfl
def F35.t9 : Cd := (.seq (.region 9 F35.r9.toArray true) (.region 10 F35.r10.toArray false))
theorem F35.t9_eq {θ : Tag (F35.t9, Q, e, w)} : cwE P F35.t9 Q e w θ = cwE P (.seq (.region 9 F35.r9.toArray true) (.region 10 F35.r10.toArray false)) Q e w := rfl
def F35.t3 : Cd := (.region 3 F35.r3.toArray false)
theorem F35.t3_eq {θ : Tag (F35.t3, Q, e, w)} : cwE P F35.t3 Q e w θ = cwE P (.region 3 F35.r3.toArray false) Q e w := rfl
def F35.t4 : Cd := (.seq (.block 1 (.seq (.region 4 F35.r4.toArray false) (.seq (.seq (.region 5 F35.r5.toArray false) (.block 2 (.loop (.seq (.seq (.region 6 F35.r6.toArray false) (.cond (.tmp 45) .skip (.exit 2))) F35.t8)))) F35.t9))) F35.t3)
theorem F35.t4_eq {θ : Tag (F35.t4, Q, e, w)} : cwE P F35.t4 Q e w θ = cwE P (.seq (.block 1 (.seq (.region 4 F35.r4.toArray false) (.seq (.seq (.region 5 F35.r5.toArray false) (.block 2 (.loop (.seq (.seq (.region 6 F35.r6.toArray false) (.cond (.tmp 45) .skip (.exit 2))) F35.t8)))) F35.t9))) F35.t3) Q e w := rfl
def F35.t18 : Cd := (.region 18 F35.r18.toArray false)
theorem F35.t18_eq {θ : Tag (F35.t18, Q, e, w)} : cwE P F35.t18 Q e w θ = cwE P (.region 18 F35.r18.toArray false) Q e w := rfl
def F35.t19 : Cd := (.seq (.block 7 (.seq (.region 19 F35.r19.toArray false) (.seq (.region 20 F35.r20.toArray false) (.cond (.tmp 129) (.seq (.region 21 F35.r21.toArray false) (.region 22 F35.r22.toArray true)) .skip)))) F35.t18)
theorem F35.t19_eq {θ : Tag (F35.t19, Q, e, w)} : cwE P F35.t19 Q e w θ = cwE P (.seq (.block 7 (.seq (.region 19 F35.r19.toArray false) (.seq (.region 20 F35.r20.toArray false) (.cond (.tmp 129) (.seq (.region 21 F35.r21.toArray false) (.region 22 F35.r22.toArray true)) .skip)))) F35.t18) Q e w := rfl
def F35.t14 : Cd := (.region 14 F35.r14.toArray false)
theorem F35.t14_eq {θ : Tag (F35.t14, Q, e, w)} : cwE P F35.t14 Q e w θ = cwE P (.region 14 F35.r14.toArray false) Q e w := rfl
def F35.t15 : Cd := (.seq (.block 5 (.seq (.region 15 F35.r15.toArray false) (.seq (.region 16 F35.r16.toArray false) (.block 6 (.loop (.seq (.seq (.region 17 F35.r17.toArray false) (.cond (.tmp 103) .skip (.exit 6))) F35.t19)))))) F35.t14)
theorem F35.t15_eq {θ : Tag (F35.t15, Q, e, w)} : cwE P F35.t15 Q e w θ = cwE P (.seq (.block 5 (.seq (.region 15 F35.r15.toArray false) (.seq (.region 16 F35.r16.toArray false) (.block 6 (.loop (.seq (.seq (.region 17 F35.r17.toArray false) (.cond (.tmp 103) .skip (.exit 6))) F35.t19)))))) F35.t14) Q e w := rfl
def F35.t30 : Cd := (.region 30 F35.r30.toArray false)
theorem F35.t30_eq {θ : Tag (F35.t30, Q, e, w)} : cwE P F35.t30 Q e w θ = cwE P (.region 30 F35.r30.toArray false) Q e w := rfl
def F35.t31 : Cd := (.seq (.block 11 (.region 31 F35.r31.toArray true)) F35.t30)
theorem F35.t31_eq {θ : Tag (F35.t31, Q, e, w)} : cwE P F35.t31 Q e w θ = cwE P (.seq (.block 11 (.region 31 F35.r31.toArray true)) F35.t30) Q e w := rfl
def F35.t32 : Cd := (.seq (.region 32 F35.r32.toArray true) (.region 33 F35.r33.toArray false))
theorem F35.t32_eq {θ : Tag (F35.t32, Q, e, w)} : cwE P F35.t32 Q e w θ = cwE P (.seq (.region 32 F35.r32.toArray true) (.region 33 F35.r33.toArray false)) Q e w := rfl
def F35.t26 : Cd := (.region 26 F35.r26.toArray false)
theorem F35.t26_eq {θ : Tag (F35.t26, Q, e, w)} : cwE P F35.t26 Q e w θ = cwE P (.region 26 F35.r26.toArray false) Q e w := rfl
def F35.t27 : Cd := (.seq (.block 9 (.seq (.region 27 F35.r27.toArray false) (.seq (.seq (.region 28 F35.r28.toArray false) (.block 10 (.loop (.seq (.seq (.region 29 F35.r29.toArray false) (.cond (.tmp 185) .skip (.exit 10))) F35.t31)))) F35.t32))) F35.t26)
theorem F35.t27_eq {θ : Tag (F35.t27, Q, e, w)} : cwE P F35.t27 Q e w θ = cwE P (.seq (.block 9 (.seq (.region 27 F35.r27.toArray false) (.seq (.seq (.region 28 F35.r28.toArray false) (.block 10 (.loop (.seq (.seq (.region 29 F35.r29.toArray false) (.cond (.tmp 185) .skip (.exit 10))) F35.t31)))) F35.t32))) F35.t26) Q e w := rfl
def F35.t41 : Cd := (.region 41 F35.r41.toArray false)
theorem F35.t41_eq {θ : Tag (F35.t41, Q, e, w)} : cwE P F35.t41 Q e w θ = cwE P (.region 41 F35.r41.toArray false) Q e w := rfl
def F35.t42 : Cd := (.seq (.block 15 (.seq (.region 42 F35.r42.toArray false) (.seq (.region 43 F35.r43.toArray false) (.cond (.tmp 271) (.seq (.region 44 F35.r44.toArray false) (.region 45 F35.r45.toArray true)) .skip)))) F35.t41)
theorem F35.t42_eq {θ : Tag (F35.t42, Q, e, w)} : cwE P F35.t42 Q e w θ = cwE P (.seq (.block 15 (.seq (.region 42 F35.r42.toArray false) (.seq (.region 43 F35.r43.toArray false) (.cond (.tmp 271) (.seq (.region 44 F35.r44.toArray false) (.region 45 F35.r45.toArray true)) .skip)))) F35.t41) Q e w := rfl
def F35.t37 : Cd := (.region 37 F35.r37.toArray false)
theorem F35.t37_eq {θ : Tag (F35.t37, Q, e, w)} : cwE P F35.t37 Q e w θ = cwE P (.region 37 F35.r37.toArray false) Q e w := rfl
def F35.t38 : Cd := (.seq (.block 13 (.seq (.region 38 F35.r38.toArray false) (.seq (.region 39 F35.r39.toArray false) (.block 14 (.loop (.seq (.seq (.region 40 F35.r40.toArray false) (.cond (.tmp 244) .skip (.exit 14))) F35.t42)))))) F35.t37)
theorem F35.t38_eq {θ : Tag (F35.t38, Q, e, w)} : cwE P F35.t38 Q e w θ = cwE P (.seq (.block 13 (.seq (.region 38 F35.r38.toArray false) (.seq (.region 39 F35.r39.toArray false) (.block 14 (.loop (.seq (.seq (.region 40 F35.r40.toArray false) (.cond (.tmp 244) .skip (.exit 14))) F35.t42)))))) F35.t37) Q e w := rfl
def F35.t34 : Cd := (.seq (.region 34 F35.r34.toArray false) (.seq (.region 35 F35.r35.toArray false) (.block 12 (.loop (.seq (.seq (.region 36 F35.r36.toArray false) (.cond (.tmp 233) .skip (.exit 12))) F35.t38)))))
theorem F35.t34_eq {θ : Tag (F35.t34, Q, e, w)} : cwE P F35.t34 Q e w θ = cwE P (.seq (.region 34 F35.r34.toArray false) (.seq (.region 35 F35.r35.toArray false) (.block 12 (.loop (.seq (.seq (.region 36 F35.r36.toArray false) (.cond (.tmp 233) .skip (.exit 12))) F35.t38))))) Q e w := rfl
def F35.t23 : Cd := (.seq (.region 23 F35.r23.toArray false) (.seq (.seq (.region 24 F35.r24.toArray false) (.block 8 (.loop (.seq (.seq (.region 25 F35.r25.toArray false) (.cond (.tmp 167) .skip (.exit 8))) F35.t27)))) F35.t34))
theorem F35.t23_eq {θ : Tag (F35.t23, Q, e, w)} : cwE P F35.t23 Q e w θ = cwE P (.seq (.region 23 F35.r23.toArray false) (.seq (.seq (.region 24 F35.r24.toArray false) (.block 8 (.loop (.seq (.seq (.region 25 F35.r25.toArray false) (.cond (.tmp 167) .skip (.exit 8))) F35.t27)))) F35.t34)) Q e w := rfl
def F35.t11 : Cd := (.seq (.region 11 F35.r11.toArray false) (.seq (.seq (.region 12 F35.r12.toArray false) (.block 4 (.loop (.seq (.seq (.region 13 F35.r13.toArray false) (.cond (.tmp 92) .skip (.exit 4))) F35.t15)))) F35.t23))
theorem F35.t11_eq {θ : Tag (F35.t11, Q, e, w)} : cwE P F35.t11 Q e w θ = cwE P (.seq (.region 11 F35.r11.toArray false) (.seq (.seq (.region 12 F35.r12.toArray false) (.block 4 (.loop (.seq (.seq (.region 13 F35.r13.toArray false) (.cond (.tmp 92) .skip (.exit 4))) F35.t15)))) F35.t23)) Q e w := rfl
def F35.code : Cd := (.seq (.region 0 F35.r0.toArray false) (.seq (.seq (.region 1 F35.r1.toArray false) (.block 0 (.loop (.seq (.seq (.region 2 F35.r2.toArray false) (.cond (.tmp 27) .skip (.exit 0))) F35.t4)))) F35.t11))
theorem F35.calls (hn : args.size ≤ 298) (h : cwE Tryz.prog F35.code (fnP Tryz.prog #[] R) (entry args) w) : Calls Tryz.prog 35 args w R :=
  calls_of_cwE (types := Tryz.prog.types) follows Tryz.func35 F35.code rfl (by kernel_rfl) hn h

def F36.r0 : List Oper := [
  op 2 (.assign (.const (.bool false))) 4]
def F36.r1 : List Oper := [
  op 3 (.assign (.const (.int .i64 0))) 3]
def F36.r2 : List Oper := [
  op 7 (.move (.tmp 3)) 3,
  op 8 (.move (.tmp 0)) 30,
  op 9 (.nilCheck (.tmp 8)) 0,
  op 10 (.fieldAddr 35 (.tmp 9) 0) 0,
  od 11 (.load 31 (.tmp 10)) 31,
  op 12 (.call ⟨(.builtin .len), #[(.tmp 11)], #[31]⟩) 3,
  op 13 (.binOp .lss 3 (.tmp 7) (.tmp 12) 3) 4]
def F36.r4 : List Oper := [
  op 4 (.assign (.const (.int .i64 0))) 3]
def F36.r5 : List Oper := [
  op 16 (.move (.tmp 4)) 3,
  op 17 (.move (.tmp 0)) 30,
  op 18 (.nilCheck (.tmp 17)) 0,
  op 19 (.fieldAddr 35 (.tmp 18) 0) 0,
  od 20 (.load 31 (.tmp 19)) 31,
  op 21 (.move (.tmp 3)) 3,
  op 22 (.indexAddr 31 (.tmp 20) (.tmp 21)) 0,
  od 23 (.load 32 (.tmp 22)) 32,
  op 24 (.call ⟨(.builtin .len), #[(.tmp 23)], #[32]⟩) 3,
  op 25 (.binOp .lss 3 (.tmp 16) (.tmp 24) 3) 4]
def F36.r7 : List Oper := [
  ⟨(some 28), (.move (.tmp 0)), 30, "", #[], none⟩,
  ⟨(some 29), (.nilCheck (.tmp 28)), 0, "", #[], none⟩,
  ⟨(some 30), (.fieldAddr 35 (.tmp 29) 0), 0, "", #[], none⟩,
  ⟨(some 32), (.move (.tmp 3)), 3, "", #[], none⟩,
  ⟨(some 35), (.move (.tmp 4)), 3, "", #[], none⟩,
  ⟨(some 38), (.move (.tmp 0)), 30, "", #[], none⟩,
  ⟨(some 39), (.nilCheck (.tmp 38)), 0, "", #[], none⟩,
  ⟨(some 40), (.fieldAddr 35 (.tmp 39) 1), 0, "", #[], none⟩,
  ⟨(some 42), (.move (.tmp 3)), 3, "", #[], none⟩,
  ⟨(some 31), (.load 31 (.tmp 30)), 31, "", #[⟨0, .data⟩], none⟩,
  ⟨(some 33), (.indexAddr 31 (.tmp 31) (.tmp 32)), 0, "", #[], none⟩,
  ⟨(some 34), (.load 32 (.tmp 33)), 32, "", #[⟨0, .data⟩], none⟩,
  ⟨(some 36), (.indexAddr 32 (.tmp 34) (.tmp 35)), 0, "", #[], none⟩,
  ⟨(some 37), (.load 3 (.tmp 36)), 3, "", #[⟨0, .data⟩], none⟩,
  ⟨(some 41), (.load 32 (.tmp 40)), 32, "", #[⟨0, .data⟩], none⟩,
  ⟨(some 43), (.indexAddr 32 (.tmp 41) (.tmp 42)), 0, "", #[], none⟩,
  ⟨(some 44), (.load 3 (.tmp 43)), 3, "", #[⟨0, .data⟩], none⟩,
  ⟨(some 45), (.binOp .neq 3 (.tmp 37) (.tmp 44) 3), 4, "", #[], none⟩]
def F36.r8 : List Oper := [
  op 2 (.assign (.const (.bool false))) 4]
def F36.r6 : List Oper := [
  op 26 (.move (.tmp 4)) 3,
  op 27 (.binOp .add 3 (.tmp 26) (.const (.int .i64 1)) 3) 3,
  op 4 (.assign (.tmp 27)) 3]
def F36.r3 : List Oper := [
  op 14 (.move (.tmp 3)) 3,
  op 15 (.binOp .add 3 (.tmp 14) (.const (.int .i64 1)) 3) 3,
  op 3 (.assign (.tmp 15)) 3]
def F36.r9 : List Oper := [
  op 5 (.assign (.const (.int .i64 0))) 3]
def F36.r10 : List Oper := [
  op 46 (.move (.tmp 5)) 3,
  op 47 (.move (.tmp 0)) 30,
  op 48 (.nilCheck (.tmp 47)) 0,
  op 49 (.fieldAddr 35 (.tmp 48) 2) 0,
  od 50 (.load 33 (.tmp 49)) 33,
  op 51 (.call ⟨(.builtin .len), #[(.tmp 50)], #[33]⟩) 3,
  op 52 (.binOp .lss 3 (.tmp 46) (.tmp 51) 3) 4]
def F36.r12 : List Oper := [
  op 6 (.assign (.const (.int .i64 0))) 3]
def F36.r13 : List Oper := [
  op 55 (.move (.tmp 6)) 3,
  op 56 (.move (.tmp 0)) 30,
  op 57 (.nilCheck (.tmp 56)) 0,
  op 58 (.fieldAddr 35 (.tmp 57) 2) 0,
  od 59 (.load 33 (.tmp 58)) 33,
  op 60 (.move (.tmp 5)) 3,
  op 61 (.indexAddr 33 (.tmp 59) (.tmp 60)) 0,
  od 62 (.load 63 (.tmp 61)) 63,
  op 63 (.call ⟨(.builtin .len), #[(.tmp 62)], #[63]⟩) 3,
  op 64 (.binOp .lss 3 (.tmp 55) (.tmp 63) 3) 4]
def F36.r15 : List Oper := [
  ⟨(some 67), (.move (.tmp 0)), 30, "", #[], none⟩,
  ⟨(some 68), (.nilCheck (.tmp 67)), 0, "", #[], none⟩,
  ⟨(some 69), (.fieldAddr 35 (.tmp 68) 2), 0, "", #[], none⟩,
  ⟨(some 71), (.move (.tmp 5)), 3, "", #[], none⟩,
  ⟨(some 74), (.move (.tmp 6)), 3, "", #[], none⟩,
  ⟨(some 77), (.move (.tmp 0)), 30, "", #[], none⟩,
  ⟨(some 78), (.nilCheck (.tmp 77)), 0, "", #[], none⟩,
  ⟨(some 79), (.fieldAddr 35 (.tmp 78) 3), 0, "", #[], none⟩,
  ⟨(some 81), (.move (.tmp 5)), 3, "", #[], none⟩,
  ⟨(some 70), (.load 33 (.tmp 69)), 33, "", #[⟨0, .data⟩], none⟩,
  ⟨(some 72), (.indexAddr 33 (.tmp 70) (.tmp 71)), 0, "", #[], none⟩,
  ⟨(some 73), (.load 63 (.tmp 72)), 63, "", #[⟨0, .data⟩], none⟩,
  ⟨(some 75), (.indexAddr 63 (.tmp 73) (.tmp 74)), 0, "", #[], none⟩,
  ⟨(some 76), (.load 42 (.tmp 75)), 42, "", #[⟨0, .data⟩], none⟩,
  ⟨(some 80), (.load 32 (.tmp 79)), 32, "", #[⟨131072, .data⟩], none⟩,
  ⟨(some 82), (.indexAddr 32 (.tmp 80) (.tmp 81)), 0, "", #[], none⟩,
  ⟨(some 83), (.load 3 (.tmp 82)), 3, "", #[⟨131072, .data⟩], none⟩,
  ⟨(some 84), (.call ⟨(.value (.func 62)), #[(.tmp 83)], #[3]⟩), 42, "", #[⟨17, .chain⟩], none⟩,
  ⟨(some 85), (.binOp .neq 42 (.tmp 76) (.tmp 84) 42), 4, "", #[], none⟩]
def F36.r16 : List Oper := [
  op 2 (.assign (.const (.bool false))) 4]
def F36.r14 : List Oper := [
  op 65 (.move (.tmp 6)) 3,
  op 66 (.binOp .add 3 (.tmp 65) (.const (.int .i64 1)) 3) 3,
  op 6 (.assign (.tmp 66)) 3]
def F36.r11 : List Oper := [
  op 53 (.move (.tmp 5)) 3,
  op 54 (.binOp .add 3 (.tmp 53) (.const (.int .i64 1)) 3) 3,
  op 5 (.assign (.tmp 54)) 3]
def F36.r17 : List Oper := [
  op 2 (.assign (.const (.bool true))) 4]
def F36.t6 : Cd := (.region 6 F36.r6.toArray false)
theorem F36.t6_eq {θ : Tag (F36.t6, Q, e, w)} : cwE P F36.t6 Q e w θ = cwE P (.region 6 F36.r6.toArray false) Q e w := rfl
def F36.t7 : Cd := (.seq (.block 3 (.seq (.region 7 F36.r7.toArray true) (.cond (.tmp 45) (.seq (.region 8 F36.r8.toArray false) .ret) .skip))) F36.t6)
theorem F36.t7_eq {θ : Tag (F36.t7, Q, e, w)} : cwE P F36.t7 Q e w θ = cwE P (.seq (.block 3 (.seq (.region 7 F36.r7.toArray true) (.cond (.tmp 45) (.seq (.region 8 F36.r8.toArray false) .ret) .skip))) F36.t6) Q e w := rfl
def F36.t3 : Cd := (.region 3 F36.r3.toArray false)
theorem F36.t3_eq {θ : Tag (F36.t3, Q, e, w)} : cwE P F36.t3 Q e w θ = cwE P (.region 3 F36.r3.toArray false) Q e w := rfl
def F36.t4 : Cd := (.seq (.block 1 (.seq (.region 4 F36.r4.toArray false) (.block 2 (.loop (.seq (.seq (.region 5 F36.r5.toArray false) (.cond (.tmp 25) .skip (.exit 2))) F36.t7))))) F36.t3)
theorem F36.t4_eq {θ : Tag (F36.t4, Q, e, w)} : cwE P F36.t4 Q e w θ = cwE P (.seq (.block 1 (.seq (.region 4 F36.r4.toArray false) (.block 2 (.loop (.seq (.seq (.region 5 F36.r5.toArray false) (.cond (.tmp 25) .skip (.exit 2))) F36.t7))))) F36.t3) Q e w := rfl
def F36.t14 : Cd := (.region 14 F36.r14.toArray false)
theorem F36.t14_eq {θ : Tag (F36.t14, Q, e, w)} : cwE P F36.t14 Q e w θ = cwE P (.region 14 F36.r14.toArray false) Q e w := rfl
def F36.t15 : Cd := (.seq (.block 7 (.seq (.region 15 F36.r15.toArray true) (.cond (.tmp 85) (.seq (.region 16 F36.r16.toArray false) .ret) .skip))) F36.t14)
theorem F36.t15_eq {θ : Tag (F36.t15, Q, e, w)} : cwE P F36.t15 Q e w θ = cwE P (.seq (.block 7 (.seq (.region 15 F36.r15.toArray true) (.cond (.tmp 85) (.seq (.region 16 F36.r16.toArray false) .ret) .skip))) F36.t14) Q e w := rfl
def F36.t11 : Cd := (.region 11 F36.r11.toArray false)
theorem F36.t11_eq {θ : Tag (F36.t11, Q, e, w)} : cwE P F36.t11 Q e w θ = cwE P (.region 11 F36.r11.toArray false) Q e w := rfl
def F36.t12 : Cd := (.seq (.block 5 (.seq (.region 12 F36.r12.toArray false) (.block 6 (.loop (.seq (.seq (.region 13 F36.r13.toArray false) (.cond (.tmp 64) .skip (.exit 6))) F36.t15))))) F36.t11)
theorem F36.t12_eq {θ : Tag (F36.t12, Q, e, w)} : cwE P F36.t12 Q e w θ = cwE P (.seq (.block 5 (.seq (.region 12 F36.r12.toArray false) (.block 6 (.loop (.seq (.seq (.region 13 F36.r13.toArray false) (.cond (.tmp 64) .skip (.exit 6))) F36.t15))))) F36.t11) Q e w := rfl
def F36.t17 : Cd := (.seq (.region 17 F36.r17.toArray false) .ret)
theorem F36.t17_eq {θ : Tag (F36.t17, Q, e, w)} : cwE P F36.t17 Q e w θ = cwE P (.seq (.region 17 F36.r17.toArray false) .ret) Q e w := rfl
def F36.t9 : Cd := (.seq (.seq (.region 9 F36.r9.toArray false) (.block 4 (.loop (.seq (.seq (.region 10 F36.r10.toArray false) (.cond (.tmp 52) .skip (.exit 4))) F36.t12)))) F36.t17)
theorem F36.t9_eq {θ : Tag (F36.t9, Q, e, w)} : cwE P F36.t9 Q e w θ = cwE P (.seq (.seq (.region 9 F36.r9.toArray false) (.block 4 (.loop (.seq (.seq (.region 10 F36.r10.toArray false) (.cond (.tmp 52) .skip (.exit 4))) F36.t12)))) F36.t17) Q e w := rfl
def F36.code : Cd := (.seq (.region 0 F36.r0.toArray false) (.seq (.seq (.region 1 F36.r1.toArray false) (.block 0 (.loop (.seq (.seq (.region 2 F36.r2.toArray false) (.cond (.tmp 13) .skip (.exit 0))) F36.t4)))) F36.t9))
theorem F36.calls (hn : args.size ≤ 86) (h : cwE Tryz.prog F36.code (fnP Tryz.prog #[(.tmp 2)] R) (entry args) w) : Calls Tryz.prog 36 args w R :=
  calls_of_cwE (types := Tryz.prog.types) follows Tryz.func36 F36.code rfl (by kernel_rfl) hn h

def F37.r0 : List Oper := [
  oc 3 (.box 3 (.tmp 1)) 0,
  op 4 (.assign (.const (.int .i64 0))) 3]
def F37.r1 : List Oper := [
  op 5 (.move (.tmp 0)) 70,
  op 6 (.nilCheck (.tmp 5)) 0,
  op 7 (.fieldAddr 73 (.tmp 6) 0) 0,
  od 8 (.load 71 (.tmp 7)) 71,
  op 9 (.makeFunc (.func 64) #[] #[(.tmp 3)]) 88,
  oc 10 (.call ⟨(.value (.func 63)), #[(.tmp 8), (.tmp 9)], #[71, 88]⟩) 3,
  op 4 (.assign (.tmp 10)) 3]
def F37.code : Cd := (.seq (.region 0 F37.r0.toArray false) (.seq (.region 1 F37.r1.toArray false) .ret))
theorem F37.calls (hn : args.size ≤ 11) (h : cwE Tryz.prog F37.code (fnP Tryz.prog #[(.tmp 4)] R) (entry args) w) : Calls Tryz.prog 37 args w R :=
  calls_of_cwE (types := Tryz.prog.types) follows Tryz.func37 F37.code rfl (by kernel_rfl) hn h

def F38.r0 : List Oper := [
  op 4 (.assign (.const (.bool false))) 4]
def F38.r1 : List Oper := [
  op 5 (.move (.tmp 0)) 70,
  op 6 (.nilCheck (.tmp 5)) 0,
  op 7 (.fieldAddr 73 (.tmp 6) 0) 0,
  od 8 (.load 71 (.tmp 7)) 71,
  op 9 (.call ⟨(.builtin .len), #[(.tmp 8)], #[71]⟩) 3,
  op 10 (.binOp .eql 3 (.tmp 9) (.const (.int .i64 0)) 3) 4,
  op 11 (.move (.tmp 10)) 4,
  ⟨(some 12), (.move (.tmp 1)), 4, "", #[], (some (11, false))⟩,
  ⟨(some 13), (.unOp .not 4 (.tmp 12)), 4, "", #[], (some (11, false))⟩,
  ⟨(some 14), (.move (.tmp 13)), 4, "", #[], (some (11, false))⟩,
  ⟨(some 15), (.move (.tmp 0)), 70, "", #[], (some (14, true))⟩,
  ⟨(some 16), (.nilCheck (.tmp 15)), 0, "", #[], (some (14, true))⟩,
  ⟨(some 17), (.fieldAddr 73 (.tmp 16) 0), 0, "", #[], (some (14, true))⟩,
  ⟨(some 18), (.load 71 (.tmp 17)), 71, "", #[⟨0, .data⟩], (some (14, true))⟩,
  ⟨(some 19), (.indexAddr 71 (.tmp 18) (.const (.int .i64 0))), 0, "", #[], (some (14, true))⟩,
  ⟨(some 20), (.fieldAddr 76 (.tmp 19) 1), 0, "", #[], (some (14, true))⟩,
  ⟨(some 21), (.load 4 (.tmp 20)), 4, "", #[⟨0, .data⟩], (some (14, true))⟩,
  ⟨(some 22), (.unOp .not 4 (.tmp 21)), 4, "", #[], (some (14, true))⟩,
  ⟨(some 23), (.pick (.tmp 14) (.tmp 22) (.const (.bool false))), 4, "", #[], (some (11, false))⟩,
  op 24 (.pick (.tmp 11) (.const (.bool true)) (.tmp 23)) 4,
  op 4 (.assign (.tmp 24)) 4]
def F38.code : Cd := (.seq (.region 0 F38.r0.toArray false) (.seq (.region 1 F38.r1.toArray false) .ret))
theorem F38.calls (hn : args.size ≤ 25) (h : cwE Tryz.prog F38.code (fnP Tryz.prog #[(.tmp 4)] R) (entry args) w) : Calls Tryz.prog 38 args w R :=
  calls_of_cwE (types := Tryz.prog.types) follows Tryz.func38 F38.code rfl (by kernel_rfl) hn h

def F39.r0 : List Oper := [
  op 2 (.assign (.const (.slice none 0 0))) 32]
def F39.r1 : List Oper := [
  op 3 (.assign (.const (.slice none 0 0))) 32]
def F39.r2 : List Oper := [
  op 6 (.move (.tmp 0)) 71,
  op 7 (.call ⟨(.builtin .len), #[(.tmp 6)], #[71]⟩) 3,
  op 8 (.move (.const (.int .i64 0))) 3]
def F39.r3 : List Oper := [
  op 9 (.binOp .lss 3 (.tmp 8) (.tmp 7) 3) 0]
def F39.r4 : List Oper := [
  op 10 (.indexAddr 71 (.tmp 6) (.tmp 8)) 0,
  od 11 (.load 76 (.tmp 10)) 76,
  oc 5 (.alloc 76) 0,
  ⟨none, (.store 76 (.tmp 5) (.tmp 11)), 0, "", #[⟨0, .chain⟩], none⟩]
def F39.r5 : List Oper := [
  op 12 (.move (.tmp 3)) 32,
  op 13 (.fieldAddr 76 (.tmp 5) 0) 0,
  od 14 (.load 3 (.tmp 13)) 3,
  oc 15 (.buildSlice 32 1 #[(0, (.tmp 14))]) 32,
  oc 16 (.call ⟨(.builtin .append), #[(.tmp 12), (.tmp 15)], #[32, 32]⟩) 32,
  op 3 (.assign (.tmp 16)) 32]
def F39.r6 : List Oper := [
  op 17 (.binOp .add 3 (.tmp 8) (.const (.int .i64 1)) 3) 3,
  op 8 (.move (.tmp 17)) 3]
def F39.r7 : List Oper := [
  op 18 (.move (.tmp 3)) 32,
  op 2 (.assign (.tmp 18)) 32]
def F39.t6 : Cd := (.region 6 F39.r6.toArray false)
theorem F39.t6_eq {θ : Tag (F39.t6, Q, e, w)} : cwE P F39.t6 Q e w θ = cwE P (.region 6 F39.r6.toArray false) Q e w := rfl
def F39.t4 : Cd := (.seq (.block 1 (.seq (.region 4 F39.r4.toArray false) (.region 5 F39.r5.toArray false))) F39.t6)
theorem F39.t4_eq {θ : Tag (F39.t4, Q, e, w)} : cwE P F39.t4 Q e w θ = cwE P (.seq (.block 1 (.seq (.region 4 F39.r4.toArray false) (.region 5 F39.r5.toArray false))) F39.t6) Q e w := rfl
def F39.t7 : Cd := (.seq (.region 7 F39.r7.toArray false) .ret)
theorem F39.t7_eq {θ : Tag (F39.t7, Q, e, w)} : cwE P F39.t7 Q e w θ = cwE P (.seq (.region 7 F39.r7.toArray false) .ret) Q e w := rfl
def F39.code : Cd := (.seq (.region 0 F39.r0.toArray false) (.seq (.region 1 F39.r1.toArray false) (.seq (.seq (.region 2 F39.r2.toArray false) (.block 0 (.loop (.seq (.region 3 F39.r3.toArray false) (.seq (.cond (.tmp 9) .skip (.exit 0)) F39.t4))))) F39.t7)))
theorem F39.calls (hn : args.size ≤ 19) (h : cwE Tryz.prog F39.code (fnP Tryz.prog #[(.tmp 2)] R) (entry args) w) : Calls Tryz.prog 39 args w R :=
  calls_of_cwE (types := Tryz.prog.types) follows Tryz.func39 F39.code rfl (by kernel_rfl) hn h

def F40.r0 : List Oper := [
  op 6 (.assign (.const (.slice none 0 0))) 71]
def F40.r1 : List Oper := [
  op 8 (.move (.tmp 0)) 71,
  op 9 (.move (.tmp 1)) 3,
  op 10 (.move (.tmp 2)) 3,
  op 11 (.move (.tmp 0)) 71,
  op 12 (.call ⟨(.builtin .len), #[(.tmp 11)], #[71]⟩) 3,
  op 13 (.slice 71 (.tmp 8) (some (.tmp 9)) (some (.tmp 10)) (some (.tmp 12))) 71]
def F40.r2 : List Oper := [
  op 14 (.move (.tmp 1)) 3,
  op 15 (.move (.tmp 2)) 3,
  op 16 (.binOp .eql 3 (.tmp 14) (.tmp 15) 3) 4]
def F40.r3 : List Oper := [
  op 17 (.move (.tmp 0)) 71,
  op 6 (.assign (.tmp 17)) 71]
def F40.r4 : List Oper := [
  op 18 (.move (.tmp 0)) 71,
  op 19 (.call ⟨(.builtin .len), #[(.tmp 18)], #[71]⟩) 3,
  op 7 (.assign (.tmp 19)) 3]
def F40.r5 : List Oper := [
  ⟨(some 20), (.move (.tmp 0)), 71, "", #[], none⟩,
  ⟨(some 21), (.move (.tmp 1)), 3, "", #[], none⟩,
  ⟨(some 22), (.slice 71 (.tmp 20) none (some (.tmp 21)) none), 71, "", #[], none⟩,
  ⟨(some 23), (.move (.tmp 0)), 71, "", #[], none⟩,
  ⟨(some 24), (.move (.tmp 2)), 3, "", #[], none⟩,
  ⟨(some 25), (.slice 71 (.tmp 23) (some (.tmp 24)) none none), 71, "", #[], none⟩,
  ⟨(some 26), (.call ⟨(.builtin .append), #[(.tmp 22), (.tmp 25)], #[71, 71]⟩), 71, "", #[⟨6, .chain⟩], none⟩,
  ⟨(some 0), (.assign (.tmp 26)), 71, "", #[], none⟩]
def F40.r6 : List Oper := [
  op 27 (.move (.tmp 0)) 71,
  op 28 (.move (.tmp 0)) 71,
  op 29 (.call ⟨(.builtin .len), #[(.tmp 28)], #[71]⟩) 3,
  op 30 (.move (.tmp 7)) 3,
  op 31 (.slice 71 (.tmp 27) (some (.tmp 29)) (some (.tmp 30)) none) 71,
  ⟨none, (.call ⟨(.builtin .clear), #[(.tmp 31)], #[71]⟩), 0, "", #[⟨0, .chain⟩], none⟩]
def F40.r7 : List Oper := [
  op 32 (.move (.tmp 0)) 71,
  op 6 (.assign (.tmp 32)) 71]
def F40.t4 : Cd := (.seq (.region 4 F40.r4.toArray false) (.seq (.region 5 F40.r5.toArray true) (.seq (.region 6 F40.r6.toArray false) (.seq (.region 7 F40.r7.toArray false) .ret))))
theorem F40.t4_eq {θ : Tag (F40.t4, Q, e, w)} : cwE P F40.t4 Q e w θ = cwE P (.seq (.region 4 F40.r4.toArray false) (.seq (.region 5 F40.r5.toArray true) (.seq (.region 6 F40.r6.toArray false) (.seq (.region 7 F40.r7.toArray false) .ret)))) Q e w := rfl
def F40.code : Cd := (.seq (.region 0 F40.r0.toArray false) (.seq (.region 1 F40.r1.toArray false) (.seq (.seq (.region 2 F40.r2.toArray false) (.cond (.tmp 16) (.seq (.region 3 F40.r3.toArray false) .ret) .skip)) F40.t4)))
theorem F40.calls (hn : args.size ≤ 33) (h : cwE Tryz.prog F40.code (fnP Tryz.prog #[(.tmp 6)] R) (entry args) w) : Calls Tryz.prog 40 args w R :=
  calls_of_cwE (types := Tryz.prog.types) follows Tryz.func40 F40.code rfl (by kernel_rfl) hn h

def F41.r0 : List Oper := [
  oc 3 (.box 40 (.tmp 1)) 0,
  op 4 (.assign (.const (.slice none 0 0))) 32]
def F41.r1 : List Oper := [
  ⟨(some 8), (.move (.tmp 0)), 26, "", #[], none⟩,
  ⟨(some 9), (.nilCheck (.tmp 8)), 0, "", #[], none⟩,
  ⟨(some 10), (.fieldAddr 58 (.tmp 9) 0), 0, "", #[], none⟩,
  ⟨(some 11), (.load 55 (.tmp 10)), 55, "", #[⟨0, .data⟩], none⟩,
  ⟨(some 12), (.load 40 (.tmp 3)), 40, "", #[⟨0, .data⟩], none⟩,
  ⟨(some 13), (.lookup 55 (.tmp 11) (.tmp 12) false), 70, "", #[⟨0, .data⟩], none⟩,
  ⟨(some 5), (.assign (.tmp 13)), 70, "", #[], none⟩]
def F41.r2 : List Oper := [
  op 6 (.assign (.const (.slice none 0 0))) 32]
def F41.r3 : List Oper := [
  op 14 (.move (.tmp 5)) 70,
  op 15 (.nilCheck (.tmp 14)) 0,
  op 16 (.fieldAddr 73 (.tmp 15) 1) 0,
  od 17 (.load 71 (.tmp 16)) 71,
  op 18 (.call ⟨(.builtin .len), #[(.tmp 17)], #[71]⟩) 3,
  op 19 (.binOp .gtr 3 (.tmp 18) (.const (.int .i64 0)) 3) 4,
  op 20 (.move (.tmp 19)) 4,
  ⟨(some 21), (.move (.tmp 5)), 70, "", #[], (some (20, true))⟩,
  ⟨(some 22), (.move (.tmp 5)), 70, "", #[], (some (20, true))⟩,
  ⟨(some 23), (.nilCheck (.tmp 22)), 0, "", #[], (some (20, true))⟩,
  ⟨(some 24), (.fieldAddr 73 (.tmp 23) 1), 0, "", #[], (some (20, true))⟩,
  ⟨(some 25), (.load 71 (.tmp 24)), 71, "", #[⟨0, .data⟩], (some (20, true))⟩,
  ⟨(some 26), (.indexAddr 71 (.tmp 25) (.const (.int .i64 0))), 0, "", #[], (some (20, true))⟩,
  ⟨(some 27), (.fieldAddr 76 (.tmp 26) 1), 0, "", #[], (some (20, true))⟩,
  ⟨(some 28), (.load 4 (.tmp 27)), 4, "", #[⟨0, .data⟩], (some (20, true))⟩,
  ⟨(some 29), (.call ⟨(.value (.func 38)), #[(.tmp 21), (.tmp 28)], #[70, 4]⟩), 4, "", #[⟨0, .chain⟩], (some (20, true))⟩,
  op 30 (.pick (.tmp 20) (.tmp 29) (.const (.bool false))) 4]
def F41.r4 : List Oper := [
  op 31 (.move (.tmp 5)) 70,
  op 32 (.nilCheck (.tmp 31)) 0,
  op 33 (.fieldAddr 73 (.tmp 32) 1) 0,
  od 34 (.load 71 (.tmp 33)) 71,
  op 35 (.indexAddr 71 (.tmp 34) (.const (.int .i64 0))) 0,
  od 36 (.load 76 (.tmp 35)) 76,
  oc 7 (.alloc 76) 0,
  ⟨none, (.store 76 (.tmp 7) (.tmp 36)), 0, "", #[⟨0, .chain⟩], none⟩]
def F41.r5 : List Oper := [
  ⟨(some 37), (.move (.tmp 5)), 70, "", #[], none⟩,
  ⟨(some 38), (.move (.tmp 5)), 70, "", #[], none⟩,
  ⟨(some 39), (.nilCheck (.tmp 38)), 0, "", #[], none⟩,
  ⟨(some 40), (.fieldAddr 73 (.tmp 39) 1), 0, "", #[], none⟩,
  ⟨(some 42), (.move (.tmp 5)), 70, "", #[], none⟩,
  ⟨(some 43), (.nilCheck (.tmp 42)), 0, "", #[], none⟩,
  ⟨(some 44), (.fieldAddr 73 (.tmp 43) 1), 0, "", #[], none⟩,
  ⟨(some 47), (.move (.tmp 5)), 70, "", #[], none⟩,
  ⟨(some 48), (.nilCheck (.tmp 47)), 0, "", #[], none⟩,
  ⟨(some 49), (.fieldAddr 73 (.tmp 48) 1), 0, "", #[], none⟩,
  ⟨(some 41), (.load 71 (.tmp 40)), 71, "", #[⟨262144, .data⟩], none⟩,
  ⟨(some 45), (.load 71 (.tmp 44)), 71, "", #[⟨262144, .data⟩], none⟩,
  ⟨(some 46), (.call ⟨(.builtin .len), #[(.tmp 45)], #[71]⟩), 3, "", #[], none⟩,
  ⟨(some 50), (.load 71 (.tmp 49)), 71, "", #[⟨262144, .data⟩], none⟩,
  ⟨(some 51), (.call ⟨(.builtin .len), #[(.tmp 50)], #[71]⟩), 3, "", #[], none⟩,
  ⟨(some 52), (.slice 71 (.tmp 41) (some (.const (.int .i64 1))) (some (.tmp 46)) (some (.tmp 51))), 71, "", #[], none⟩,
  ⟨(some 53), (.nilCheck (.tmp 37)), 0, "", #[], none⟩,
  ⟨(some 54), (.fieldAddr 73 (.tmp 53) 1), 0, "", #[], none⟩,
  ⟨none, (.store 71 (.tmp 54) (.tmp 52)), 0, "", #[⟨18, .chain⟩], none⟩]
def F41.r6 : List Oper := [
  ⟨(some 55), (.move (.tmp 5)), 70, "", #[], none⟩,
  ⟨(some 56), (.move (.tmp 5)), 70, "", #[], none⟩,
  ⟨(some 57), (.nilCheck (.tmp 56)), 0, "", #[], none⟩,
  ⟨(some 58), (.fieldAddr 73 (.tmp 57) 0), 0, "", #[], none⟩,
  ⟨(some 59), (.load 71 (.tmp 58)), 71, "", #[⟨1152, .data⟩], none⟩,
  ⟨(some 60), (.load 76 (.tmp 7)), 76, "", #[⟨1216, .data⟩], none⟩,
  ⟨(some 61), (.buildSlice 71 1 #[(0, (.tmp 60))]), 71, "", #[⟨6, .chain⟩], none⟩,
  ⟨(some 62), (.call ⟨(.builtin .append), #[(.tmp 59), (.tmp 61)], #[71, 71]⟩), 71, "", #[⟨7, .chain⟩], none⟩,
  ⟨(some 63), (.nilCheck (.tmp 55)), 0, "", #[], none⟩,
  ⟨(some 64), (.fieldAddr 73 (.tmp 63) 0), 0, "", #[], none⟩,
  ⟨none, (.store 71 (.tmp 64) (.tmp 62)), 0, "", #[⟨10, .chain⟩], none⟩]
def F41.r7 : List Oper := [
  ⟨(some 65), (.move (.tmp 0)), 26, "", #[], none⟩,
  ⟨(some 66), (.nilCheck (.tmp 65)), 0, "", #[], none⟩,
  ⟨(some 67), (.fieldAddr 58 (.tmp 66) 1), 0, "", #[], none⟩,
  ⟨(some 69), (.fieldAddr 76 (.tmp 7) 0), 0, "", #[], none⟩,
  ⟨(some 68), (.load 56 (.tmp 67)), 56, "", #[⟨64, .data⟩], none⟩,
  ⟨(some 70), (.load 3 (.tmp 69)), 3, "", #[⟨64, .data⟩], none⟩,
  ⟨none, (.call ⟨(.builtin .delete), #[(.tmp 68), (.tmp 70)], #[56, 3]⟩), 0, "", #[⟨6, .chain⟩], none⟩]
def F41.r8 : List Oper := [
  op 71 (.move (.tmp 6)) 32,
  op 72 (.fieldAddr 76 (.tmp 7) 0) 0,
  od 73 (.load 3 (.tmp 72)) 3,
  oc 74 (.buildSlice 32 1 #[(0, (.tmp 73))]) 32,
  oc 75 (.call ⟨(.builtin .append), #[(.tmp 71), (.tmp 74)], #[32, 32]⟩) 32,
  op 6 (.assign (.tmp 75)) 32]
def F41.r9 : List Oper := [
  op 76 (.move (.tmp 5)) 70,
  op 77 (.nilCheck (.tmp 76)) 0,
  op 78 (.fieldAddr 73 (.tmp 77) 0) 0,
  od 79 (.load 71 (.tmp 78)) 71,
  op 80 (.call ⟨(.builtin .len), #[(.tmp 79)], #[71]⟩) 3,
  op 81 (.binOp .eql 3 (.tmp 80) (.const (.int .i64 0)) 3) 4]
def F41.r10 : List Oper := [
  ⟨(some 82), (.move (.tmp 0)), 26, "", #[], none⟩,
  ⟨(some 83), (.nilCheck (.tmp 82)), 0, "", #[], none⟩,
  ⟨(some 84), (.fieldAddr 58 (.tmp 83) 0), 0, "", #[], none⟩,
  ⟨(some 85), (.load 55 (.tmp 84)), 55, "", #[⟨32, .data⟩], none⟩,
  ⟨(some 86), (.load 40 (.tmp 3)), 40, "", #[⟨32, .data⟩], none⟩,
  ⟨none, (.call ⟨(.builtin .delete), #[(.tmp 85), (.tmp 86)], #[55, 40]⟩), 0, "", #[⟨5, .chain⟩], none⟩]
def F41.r11 : List Oper := [
  op 87 (.move (.tmp 6)) 32,
  op 4 (.assign (.tmp 87)) 32]
def F41.t4 : Cd := (.block 1 (.seq (.region 4 F41.r4.toArray false) (.seq (.region 5 F41.r5.toArray true) (.seq (.region 6 F41.r6.toArray true) (.seq (.region 7 F41.r7.toArray true) (.region 8 F41.r8.toArray false))))))
theorem F41.t4_eq {θ : Tag (F41.t4, Q, e, w)} : cwE P F41.t4 Q e w θ = cwE P (.block 1 (.seq (.region 4 F41.r4.toArray false) (.seq (.region 5 F41.r5.toArray true) (.seq (.region 6 F41.r6.toArray true) (.seq (.region 7 F41.r7.toArray true) (.region 8 F41.r8.toArray false)))))) Q e w := rfl
def F41.t11 : Cd := (.seq (.region 11 F41.r11.toArray false) .ret)
theorem F41.t11_eq {θ : Tag (F41.t11, Q, e, w)} : cwE P F41.t11 Q e w θ = cwE P (.seq (.region 11 F41.r11.toArray false) .ret) Q e w := rfl
def F41.t9 : Cd := (.seq (.seq (.region 9 F41.r9.toArray false) (.cond (.tmp 81) (.region 10 F41.r10.toArray true) .skip)) F41.t11)
theorem F41.t9_eq {θ : Tag (F41.t9, Q, e, w)} : cwE P F41.t9 Q e w θ = cwE P (.seq (.seq (.region 9 F41.r9.toArray false) (.cond (.tmp 81) (.region 10 F41.r10.toArray true) .skip)) F41.t11) Q e w := rfl
def F41.code : Cd := (.seq (.region 0 F41.r0.toArray false) (.seq (.region 1 F41.r1.toArray true) (.seq (.region 2 F41.r2.toArray false) (.seq (.block 0 (.loop (.seq (.seq (.region 3 F41.r3.toArray false) (.cond (.tmp 30) .skip (.exit 0))) F41.t4))) F41.t9))))
theorem F41.calls (hn : args.size ≤ 88) (h : cwE Tryz.prog F41.code (fnP Tryz.prog #[(.tmp 4)] R) (entry args) w) : Calls Tryz.prog 41 args w R :=
  calls_of_cwE (types := Tryz.prog.types) follows Tryz.func41 F41.code rfl (by kernel_rfl) hn h

def F42.r0 : List Oper := [
  oc 6 (.box 40 (.tmp 2)) 0,
  op 8 (.assign (.const (.int .i64 0))) 3]
def F42.r1 : List Oper := [
  op 9 (.assign (.const (.int .i64 0))) 3]
def F42.r2 : List Oper := [
  op 10 (.move (.tmp 9)) 3,
  op 11 (.move (.tmp 0)) 59,
  op 12 (.call ⟨(.builtin .len), #[(.tmp 11)], #[59]⟩) 3,
  op 13 (.binOp .lss 3 (.tmp 10) (.tmp 12) 3) 4]
def F42.r4 : List Oper := [
  ⟨(some 16), (.move (.tmp 0)), 59, "", #[], none⟩,
  ⟨(some 17), (.move (.tmp 9)), 3, "", #[], none⟩,
  ⟨(some 18), (.indexAddr 59 (.tmp 16) (.tmp 17)), 0, "", #[], none⟩,
  ⟨(some 19), (.fieldAddr 84 (.tmp 18) 0), 0, "", #[], none⟩,
  ⟨(some 21), (.move (.tmp 1)), 3, "", #[], none⟩,
  ⟨(some 20), (.load 3 (.tmp 19)), 3, "", #[⟨0, .data⟩], none⟩,
  ⟨(some 22), (.binOp .eql 3 (.tmp 20) (.tmp 21) 3), 4, "", #[], none⟩,
  ⟨(some 23), (.move (.tmp 22)), 4, "", #[], none⟩,
  ⟨(some 24), (.move (.tmp 3)), 4, "", #[], (some (23, true))⟩,
  ⟨(some 25), (.move (.tmp 24)), 4, "", #[], (some (23, true))⟩,
  ⟨(some 26), (.move (.tmp 0)), 59, "", #[], (some (25, false))⟩,
  ⟨(some 27), (.move (.tmp 9)), 3, "", #[], (some (25, false))⟩,
  ⟨(some 28), (.indexAddr 59 (.tmp 26) (.tmp 27)), 0, "", #[], (some (25, false))⟩,
  ⟨(some 29), (.fieldAddr 84 (.tmp 28) 1), 0, "", #[], (some (25, false))⟩,
  ⟨(some 30), (.fieldAddr 42 (.tmp 29) 0), 0, "", #[], (some (25, false))⟩,
  ⟨(some 31), (.load 40 (.tmp 30)), 40, "", #[⟨0, .data⟩], (some (25, false))⟩,
  ⟨(some 32), (.load 40 (.tmp 6)), 40, "", #[⟨0, .data⟩], (some (25, false))⟩,
  ⟨(some 33), (.binOp .eql 40 (.tmp 31) (.tmp 32) 40), 4, "", #[], (some (25, false))⟩,
  ⟨(some 34), (.pick (.tmp 25) (.const (.bool true)) (.tmp 33)), 4, "", #[], (some (23, true))⟩,
  ⟨(some 35), (.pick (.tmp 23) (.tmp 34) (.const (.bool false))), 4, "", #[], none⟩]
def F42.r5 : List Oper := [
  op 36 (.move (.tmp 9)) 3,
  op 8 (.assign (.tmp 36)) 3]
def F42.r3 : List Oper := [
  op 14 (.move (.tmp 9)) 3,
  op 15 (.binOp .add 3 (.tmp 14) (.const (.int .i64 1)) 3) 3,
  op 9 (.assign (.tmp 15)) 3]
def F42.r6 : List Oper := [
  op 8 (.assign (.const (.int .i64 (-1)))) 3]
def F42.t3 : Cd := (.region 3 F42.r3.toArray false)
theorem F42.t3_eq {θ : Tag (F42.t3, Q, e, w)} : cwE P F42.t3 Q e w θ = cwE P (.region 3 F42.r3.toArray false) Q e w := rfl
def F42.t4 : Cd := (.seq (.block 1 (.seq (.region 4 F42.r4.toArray true) (.cond (.tmp 35) (.seq (.region 5 F42.r5.toArray false) .ret) .skip))) F42.t3)
theorem F42.t4_eq {θ : Tag (F42.t4, Q, e, w)} : cwE P F42.t4 Q e w θ = cwE P (.seq (.block 1 (.seq (.region 4 F42.r4.toArray true) (.cond (.tmp 35) (.seq (.region 5 F42.r5.toArray false) .ret) .skip))) F42.t3) Q e w := rfl
def F42.t6 : Cd := (.seq (.region 6 F42.r6.toArray false) .ret)
theorem F42.t6_eq {θ : Tag (F42.t6, Q, e, w)} : cwE P F42.t6 Q e w θ = cwE P (.seq (.region 6 F42.r6.toArray false) .ret) Q e w := rfl
def F42.code : Cd := (.seq (.region 0 F42.r0.toArray false) (.seq (.seq (.region 1 F42.r1.toArray false) (.block 0 (.loop (.seq (.seq (.region 2 F42.r2.toArray false) (.cond (.tmp 13) .skip (.exit 0))) F42.t4)))) F42.t6))
theorem F42.calls (hn : args.size ≤ 37) (h : cwE Tryz.prog F42.code (fnP Tryz.prog #[(.tmp 8)] R) (entry args) w) : Calls Tryz.prog 42 args w R :=
  calls_of_cwE (types := Tryz.prog.types) follows Tryz.func42 F42.code rfl (by kernel_rfl) hn h

def F43.r0 : List Oper := [
  oc 3 (.box 40 (.tmp 1)) 0,
  op 4 (.assign (.const (.int .i64 0))) 3]
def F43.r1 : List Oper := [
  op 5 (.assign (.const (.int .i64 0))) 3]
def F43.r2 : List Oper := [
  op 6 (.move (.tmp 5)) 3,
  op 7 (.move (.tmp 0)) 28,
  op 8 (.nilCheck (.tmp 7)) 0,
  op 9 (.fieldAddr 61 (.tmp 8) 1) 0,
  od 10 (.load 59 (.tmp 9)) 59,
  op 11 (.call ⟨(.builtin .len), #[(.tmp 10)], #[59]⟩) 3,
  op 12 (.binOp .lss 3 (.tmp 6) (.tmp 11) 3) 4]
def F43.r4 : List Oper := [
  ⟨(some 15), (.move (.tmp 0)), 28, "", #[], none⟩,
  ⟨(some 16), (.nilCheck (.tmp 15)), 0, "", #[], none⟩,
  ⟨(some 17), (.fieldAddr 61 (.tmp 16) 1), 0, "", #[], none⟩,
  ⟨(some 19), (.move (.tmp 5)), 3, "", #[], none⟩,
  ⟨(some 18), (.load 59 (.tmp 17)), 59, "", #[⟨0, .data⟩], none⟩,
  ⟨(some 20), (.indexAddr 59 (.tmp 18) (.tmp 19)), 0, "", #[], none⟩,
  ⟨(some 21), (.fieldAddr 84 (.tmp 20) 1), 0, "", #[], none⟩,
  ⟨(some 22), (.fieldAddr 42 (.tmp 21) 0), 0, "", #[], none⟩,
  ⟨(some 23), (.load 40 (.tmp 22)), 40, "", #[⟨0, .data⟩], none⟩,
  ⟨(some 24), (.load 40 (.tmp 3)), 40, "", #[⟨0, .data⟩], none⟩,
  ⟨(some 25), (.binOp .eql 40 (.tmp 23) (.tmp 24) 40), 4, "", #[], none⟩]
def F43.r5 : List Oper := [
  op 26 (.move (.tmp 5)) 3,
  op 4 (.assign (.tmp 26)) 3]
def F43.r3 : List Oper := [
  op 13 (.move (.tmp 5)) 3,
  op 14 (.binOp .add 3 (.tmp 13) (.const (.int .i64 1)) 3) 3,
  op 5 (.assign (.tmp 14)) 3]
def F43.r6 : List Oper := [
  op 4 (.assign (.const (.int .i64 (-1)))) 3]
def F43.t3 : Cd := (.region 3 F43.r3.toArray false)
theorem F43.t3_eq {θ : Tag (F43.t3, Q, e, w)} : cwE P F43.t3 Q e w θ = cwE P (.region 3 F43.r3.toArray false) Q e w := rfl
def F43.t4 : Cd := (.seq (.block 1 (.seq (.region 4 F43.r4.toArray true) (.cond (.tmp 25) (.seq (.region 5 F43.r5.toArray false) .ret) .skip))) F43.t3)
theorem F43.t4_eq {θ : Tag (F43.t4, Q, e, w)} : cwE P F43.t4 Q e w θ = cwE P (.seq (.block 1 (.seq (.region 4 F43.r4.toArray true) (.cond (.tmp 25) (.seq (.region 5 F43.r5.toArray false) .ret) .skip))) F43.t3) Q e w := rfl
def F43.t6 : Cd := (.seq (.region 6 F43.r6.toArray false) .ret)
theorem F43.t6_eq {θ : Tag (F43.t6, Q, e, w)} : cwE P F43.t6 Q e w θ = cwE P (.seq (.region 6 F43.r6.toArray false) .ret) Q e w := rfl
def F43.code : Cd := (.seq (.region 0 F43.r0.toArray false) (.seq (.seq (.region 1 F43.r1.toArray false) (.block 0 (.loop (.seq (.seq (.region 2 F43.r2.toArray false) (.cond (.tmp 12) .skip (.exit 0))) F43.t4)))) F43.t6))
theorem F43.calls (hn : args.size ≤ 27) (h : cwE Tryz.prog F43.code (fnP Tryz.prog #[(.tmp 4)] R) (entry args) w) : Calls Tryz.prog 43 args w R :=
  calls_of_cwE (types := Tryz.prog.types) follows Tryz.func43 F43.code rfl (by kernel_rfl) hn h

def F44.r0 : List Oper := [
  oc 3 (.box 42 (.tmp 1)) 0,
  op 4 (.assign (.const (.bool false))) 4]
def F44.r1 : List Oper := [
  op 5 (.assign (.const (.int .i64 0))) 3]
def F44.r2 : List Oper := [
  op 6 (.move (.tmp 5)) 3,
  op 7 (.move (.tmp 0)) 28,
  op 8 (.nilCheck (.tmp 7)) 0,
  op 9 (.fieldAddr 61 (.tmp 8) 0) 0,
  od 10 (.load 59 (.tmp 9)) 59,
  op 11 (.call ⟨(.builtin .len), #[(.tmp 10)], #[59]⟩) 3,
  op 12 (.binOp .lss 3 (.tmp 6) (.tmp 11) 3) 4]
def F44.r4 : List Oper := [
  ⟨(some 15), (.move (.tmp 0)), 28, "", #[], none⟩,
  ⟨(some 16), (.nilCheck (.tmp 15)), 0, "", #[], none⟩,
  ⟨(some 17), (.fieldAddr 61 (.tmp 16) 0), 0, "", #[], none⟩,
  ⟨(some 19), (.move (.tmp 5)), 3, "", #[], none⟩,
  ⟨(some 24), (.fieldAddr 42 (.tmp 3) 0), 0, "", #[], none⟩,
  ⟨(some 18), (.load 59 (.tmp 17)), 59, "", #[⟨0, .data⟩], none⟩,
  ⟨(some 20), (.indexAddr 59 (.tmp 18) (.tmp 19)), 0, "", #[], none⟩,
  ⟨(some 21), (.fieldAddr 84 (.tmp 20) 1), 0, "", #[], none⟩,
  ⟨(some 22), (.fieldAddr 42 (.tmp 21) 0), 0, "", #[], none⟩,
  ⟨(some 23), (.load 40 (.tmp 22)), 40, "", #[⟨0, .data⟩], none⟩,
  ⟨(some 25), (.load 40 (.tmp 24)), 40, "", #[⟨0, .data⟩], none⟩,
  ⟨(some 26), (.binOp .eql 40 (.tmp 23) (.tmp 25) 40), 4, "", #[], none⟩,
  ⟨(some 27), (.move (.tmp 26)), 4, "", #[], none⟩,
  ⟨(some 28), (.fieldAddr 42 (.tmp 3) 1), 0, "", #[], (some (27, true))⟩,
  ⟨(some 29), (.load 4 (.tmp 28)), 4, "", #[⟨0, .data⟩], (some (27, true))⟩,
  ⟨(some 30), (.move (.tmp 29)), 4, "", #[], (some (27, true))⟩,
  ⟨(some 31), (.move (.tmp 0)), 28, "", #[], (some (30, false))⟩,
  ⟨(some 32), (.nilCheck (.tmp 31)), 0, "", #[], (some (30, false))⟩,
  ⟨(some 33), (.fieldAddr 61 (.tmp 32) 0), 0, "", #[], (some (30, false))⟩,
  ⟨(some 35), (.move (.tmp 5)), 3, "", #[], (some (30, false))⟩,
  ⟨(some 34), (.load 59 (.tmp 33)), 59, "", #[⟨0, .data⟩], (some (30, false))⟩,
  ⟨(some 36), (.indexAddr 59 (.tmp 34) (.tmp 35)), 0, "", #[], (some (30, false))⟩,
  ⟨(some 37), (.fieldAddr 84 (.tmp 36) 1), 0, "", #[], (some (30, false))⟩,
  ⟨(some 38), (.fieldAddr 42 (.tmp 37) 1), 0, "", #[], (some (30, false))⟩,
  ⟨(some 39), (.load 4 (.tmp 38)), 4, "", #[⟨0, .data⟩], (some (30, false))⟩,
  ⟨(some 40), (.pick (.tmp 30) (.const (.bool true)) (.tmp 39)), 4, "", #[], (some (27, true))⟩,
  ⟨(some 41), (.pick (.tmp 27) (.tmp 40) (.const (.bool false))), 4, "", #[], none⟩]
def F44.r5 : List Oper := [
  op 4 (.assign (.const (.bool false))) 4]
def F44.r3 : List Oper := [
  op 13 (.move (.tmp 5)) 3,
  op 14 (.binOp .add 3 (.tmp 13) (.const (.int .i64 1)) 3) 3,
  op 5 (.assign (.tmp 14)) 3]
def F44.r6 : List Oper := [
  op 4 (.assign (.const (.bool true))) 4]
def F44.t3 : Cd := (.region 3 F44.r3.toArray false)
theorem F44.t3_eq {θ : Tag (F44.t3, Q, e, w)} : cwE P F44.t3 Q e w θ = cwE P (.region 3 F44.r3.toArray false) Q e w := rfl
def F44.t4 : Cd := (.seq (.block 1 (.seq (.region 4 F44.r4.toArray true) (.cond (.tmp 41) (.seq (.region 5 F44.r5.toArray false) .ret) .skip))) F44.t3)
theorem F44.t4_eq {θ : Tag (F44.t4, Q, e, w)} : cwE P F44.t4 Q e w θ = cwE P (.seq (.block 1 (.seq (.region 4 F44.r4.toArray true) (.cond (.tmp 41) (.seq (.region 5 F44.r5.toArray false) .ret) .skip))) F44.t3) Q e w := rfl
def F44.t6 : Cd := (.seq (.region 6 F44.r6.toArray false) .ret)
theorem F44.t6_eq {θ : Tag (F44.t6, Q, e, w)} : cwE P F44.t6 Q e w θ = cwE P (.seq (.region 6 F44.r6.toArray false) .ret) Q e w := rfl
def F44.code : Cd := (.seq (.region 0 F44.r0.toArray false) (.seq (.seq (.region 1 F44.r1.toArray false) (.block 0 (.loop (.seq (.seq (.region 2 F44.r2.toArray false) (.cond (.tmp 12) .skip (.exit 0))) F44.t4)))) F44.t6))
theorem F44.calls (hn : args.size ≤ 42) (h : cwE Tryz.prog F44.code (fnP Tryz.prog #[(.tmp 4)] R) (entry args) w) : Calls Tryz.prog 44 args w R :=
  calls_of_cwE (types := Tryz.prog.types) follows Tryz.func44 F44.code rfl (by kernel_rfl) hn h

def F45.r0 : List Oper := [
  op 4 (.assign (.const (.slice none 0 0))) 59]
def F45.r1 : List Oper := [
  op 5 (.assign (.const (.slice none 0 0))) 59]
def F45.r2 : List Oper := [
  op 6 (.assign (.const (.int .i64 0))) 3]
def F45.r3 : List Oper := [
  op 7 (.move (.tmp 6)) 3,
  op 8 (.move (.tmp 0)) 59,
  op 9 (.call ⟨(.builtin .len), #[(.tmp 8)], #[59]⟩) 3,
  op 10 (.binOp .lss 3 (.tmp 7) (.tmp 9) 3) 4]
def F45.r5 : List Oper := [
  op 13 (.move (.tmp 6)) 3,
  op 14 (.move (.tmp 1)) 3,
  op 15 (.binOp .neq 3 (.tmp 13) (.tmp 14) 3) 4]
def F45.r6 : List Oper := [
  op 16 (.move (.tmp 5)) 59,
  op 17 (.move (.tmp 0)) 59,
  op 18 (.move (.tmp 6)) 3,
  op 19 (.indexAddr 59 (.tmp 17) (.tmp 18)) 0,
  od 20 (.load 84 (.tmp 19)) 84,
  oc 21 (.buildSlice 59 1 #[(0, (.tmp 20))]) 59,
  oc 22 (.call ⟨(.builtin .append), #[(.tmp 16), (.tmp 21)], #[59, 59]⟩) 59,
  op 5 (.assign (.tmp 22)) 59]
def F45.r4 : List Oper := [
  op 11 (.move (.tmp 6)) 3,
  op 12 (.binOp .add 3 (.tmp 11) (.const (.int .i64 1)) 3) 3,
  op 6 (.assign (.tmp 12)) 3]
def F45.r7 : List Oper := [
  op 23 (.move (.tmp 5)) 59,
  op 4 (.assign (.tmp 23)) 59]
def F45.t4 : Cd := (.region 4 F45.r4.toArray false)
theorem F45.t4_eq {θ : Tag (F45.t4, Q, e, w)} : cwE P F45.t4 Q e w θ = cwE P (.region 4 F45.r4.toArray false) Q e w := rfl
def F45.t5 : Cd := (.seq (.block 1 (.seq (.region 5 F45.r5.toArray false) (.cond (.tmp 15) (.region 6 F45.r6.toArray false) .skip))) F45.t4)
theorem F45.t5_eq {θ : Tag (F45.t5, Q, e, w)} : cwE P F45.t5 Q e w θ = cwE P (.seq (.block 1 (.seq (.region 5 F45.r5.toArray false) (.cond (.tmp 15) (.region 6 F45.r6.toArray false) .skip))) F45.t4) Q e w := rfl
def F45.t7 : Cd := (.seq (.region 7 F45.r7.toArray false) .ret)
theorem F45.t7_eq {θ : Tag (F45.t7, Q, e, w)} : cwE P F45.t7 Q e w θ = cwE P (.seq (.region 7 F45.r7.toArray false) .ret) Q e w := rfl
def F45.code : Cd := (.seq (.region 0 F45.r0.toArray false) (.seq (.region 1 F45.r1.toArray false) (.seq (.seq (.region 2 F45.r2.toArray false) (.block 0 (.loop (.seq (.seq (.region 3 F45.r3.toArray false) (.cond (.tmp 10) .skip (.exit 0))) F45.t5)))) F45.t7)))
theorem F45.calls (hn : args.size ≤ 24) (h : cwE Tryz.prog F45.code (fnP Tryz.prog #[(.tmp 4)] R) (entry args) w) : Calls Tryz.prog 45 args w R :=
  calls_of_cwE (types := Tryz.prog.types) follows Tryz.func45 F45.code rfl (by kernel_rfl) hn h

def F46.r0 : List Oper := [
  oc 3 (.box 40 (.tmp 1)) 0,
  op 4 (.assign (.const (.slice none 0 0))) 32]
def F46.r1 : List Oper := [
  op 5 (.assign (.const (.slice none 0 0))) 32]
def F46.r2 : List Oper := [
  op 8 (.move (.tmp 0)) 28,
  od 9 (.load 40 (.tmp 3)) 40,
  oc 10 (.call ⟨(.value (.func 43)), #[(.tmp 8), (.tmp 9)], #[28, 40]⟩) 3,
  op 6 (.assign (.tmp 10)) 3]
def F46.r3 : List Oper := [
  op 11 (.move (.tmp 6)) 3,
  op 12 (.binOp .geq 3 (.tmp 11) (.const (.int .i64 0)) 3) 4,
  op 13 (.move (.tmp 12)) 4,
  ⟨(some 14), (.move (.tmp 0)), 28, "", #[], (some (13, true))⟩,
  ⟨(some 15), (.move (.tmp 0)), 28, "", #[], (some (13, true))⟩,
  ⟨(some 16), (.nilCheck (.tmp 15)), 0, "", #[], (some (13, true))⟩,
  ⟨(some 17), (.fieldAddr 61 (.tmp 16) 1), 0, "", #[], (some (13, true))⟩,
  ⟨(some 18), (.load 59 (.tmp 17)), 59, "", #[⟨0, .data⟩], (some (13, true))⟩,
  ⟨(some 19), (.move (.tmp 6)), 3, "", #[], (some (13, true))⟩,
  ⟨(some 20), (.indexAddr 59 (.tmp 18) (.tmp 19)), 0, "", #[], (some (13, true))⟩,
  ⟨(some 21), (.fieldAddr 84 (.tmp 20) 1), 0, "", #[], (some (13, true))⟩,
  ⟨(some 22), (.load 42 (.tmp 21)), 42, "", #[⟨0, .data⟩], (some (13, true))⟩,
  ⟨(some 23), (.call ⟨(.value (.func 44)), #[(.tmp 14), (.tmp 22)], #[28, 42]⟩), 4, "", #[⟨0, .chain⟩], (some (13, true))⟩,
  op 24 (.pick (.tmp 13) (.tmp 23) (.const (.bool false))) 4]
def F46.r4 : List Oper := [
  op 25 (.move (.tmp 0)) 28,
  op 26 (.nilCheck (.tmp 25)) 0,
  op 27 (.fieldAddr 61 (.tmp 26) 1) 0,
  od 28 (.load 59 (.tmp 27)) 59,
  op 29 (.move (.tmp 6)) 3,
  op 30 (.indexAddr 59 (.tmp 28) (.tmp 29)) 0,
  od 31 (.load 84 (.tmp 30)) 84,
  oc 7 (.alloc 84) 0,
  ⟨none, (.store 84 (.tmp 7) (.tmp 31)), 0, "", #[⟨0, .chain⟩], none⟩]
def F46.r5 : List Oper := [
  op 32 (.move (.tmp 0)) 28,
  op 33 (.move (.tmp 0)) 28,
  op 34 (.nilCheck (.tmp 33)) 0,
  op 35 (.fieldAddr 61 (.tmp 34) 1) 0,
  od 36 (.load 59 (.tmp 35)) 59,
  op 37 (.move (.tmp 6)) 3,
  oc 38 (.call ⟨(.value (.func 45)), #[(.tmp 36), (.tmp 37)], #[59, 3]⟩) 59,
  op 39 (.nilCheck (.tmp 32)) 0,
  op 40 (.fieldAddr 61 (.tmp 39) 1) 0,
  ⟨none, (.store 59 (.tmp 40) (.tmp 38)), 0, "", #[⟨0, .chain⟩], none⟩]
def F46.r6 : List Oper := [
  ⟨(some 41), (.move (.tmp 0)), 28, "", #[], none⟩,
  ⟨(some 42), (.move (.tmp 0)), 28, "", #[], none⟩,
  ⟨(some 43), (.nilCheck (.tmp 42)), 0, "", #[], none⟩,
  ⟨(some 44), (.fieldAddr 61 (.tmp 43) 0), 0, "", #[], none⟩,
  ⟨(some 45), (.load 59 (.tmp 44)), 59, "", #[⟨1152, .data⟩], none⟩,
  ⟨(some 46), (.load 84 (.tmp 7)), 84, "", #[⟨1216, .data⟩], none⟩,
  ⟨(some 47), (.buildSlice 59 1 #[(0, (.tmp 46))]), 59, "", #[⟨6, .chain⟩], none⟩,
  ⟨(some 48), (.call ⟨(.builtin .append), #[(.tmp 45), (.tmp 47)], #[59, 59]⟩), 59, "", #[⟨7, .chain⟩], none⟩,
  ⟨(some 49), (.nilCheck (.tmp 41)), 0, "", #[], none⟩,
  ⟨(some 50), (.fieldAddr 61 (.tmp 49) 0), 0, "", #[], none⟩,
  ⟨none, (.store 59 (.tmp 50) (.tmp 48)), 0, "", #[⟨10, .chain⟩], none⟩]
def F46.r7 : List Oper := [
  op 51 (.move (.tmp 5)) 32,
  op 52 (.fieldAddr 84 (.tmp 7) 0) 0,
  od 53 (.load 3 (.tmp 52)) 3,
  oc 54 (.buildSlice 32 1 #[(0, (.tmp 53))]) 32,
  oc 55 (.call ⟨(.builtin .append), #[(.tmp 51), (.tmp 54)], #[32, 32]⟩) 32,
  op 5 (.assign (.tmp 55)) 32]
def F46.r8 : List Oper := [
  op 56 (.move (.tmp 0)) 28,
  od 57 (.load 40 (.tmp 3)) 40,
  oc 58 (.call ⟨(.value (.func 43)), #[(.tmp 56), (.tmp 57)], #[28, 40]⟩) 3,
  op 6 (.assign (.tmp 58)) 3]
def F46.r9 : List Oper := [
  op 59 (.move (.tmp 5)) 32,
  op 4 (.assign (.tmp 59)) 32]
def F46.t4 : Cd := (.block 1 (.seq (.region 4 F46.r4.toArray false) (.seq (.region 5 F46.r5.toArray false) (.seq (.region 6 F46.r6.toArray true) (.seq (.region 7 F46.r7.toArray false) (.region 8 F46.r8.toArray false))))))
theorem F46.t4_eq {θ : Tag (F46.t4, Q, e, w)} : cwE P F46.t4 Q e w θ = cwE P (.block 1 (.seq (.region 4 F46.r4.toArray false) (.seq (.region 5 F46.r5.toArray false) (.seq (.region 6 F46.r6.toArray true) (.seq (.region 7 F46.r7.toArray false) (.region 8 F46.r8.toArray false)))))) Q e w := rfl
def F46.t9 : Cd := (.seq (.region 9 F46.r9.toArray false) .ret)
theorem F46.t9_eq {θ : Tag (F46.t9, Q, e, w)} : cwE P F46.t9 Q e w θ = cwE P (.seq (.region 9 F46.r9.toArray false) .ret) Q e w := rfl
def F46.code : Cd := (.seq (.region 0 F46.r0.toArray false) (.seq (.region 1 F46.r1.toArray false) (.seq (.region 2 F46.r2.toArray false) (.seq (.block 0 (.loop (.seq (.seq (.region 3 F46.r3.toArray false) (.cond (.tmp 24) .skip (.exit 0))) F46.t4))) F46.t9))))
theorem F46.calls (hn : args.size ≤ 60) (h : cwE Tryz.prog F46.code (fnP Tryz.prog #[(.tmp 4)] R) (entry args) w) : Calls Tryz.prog 46 args w R :=
  calls_of_cwE (types := Tryz.prog.types) follows Tryz.func46 F46.code rfl (by kernel_rfl) hn h

def F47.r0 : List Oper := [
  op 4 (.assign (.const (.slice none 0 0))) 32]
def F47.r1 : List Oper := [
  op 5 (.move (.tmp 0)) 30,
  op 6 (.move (.tmp 0)) 30,
  op 7 (.nilCheck (.tmp 6)) 0,
  op 8 (.fieldAddr 35 (.tmp 7) 6) 0,
  od 9 (.load 31 (.tmp 8)) 31,
  op 10 (.move (.tmp 1)) 32,
  oc 11 (.buildSlice 31 1 #[(0, (.tmp 10))]) 31,
  oc 12 (.call ⟨(.builtin .append), #[(.tmp 9), (.tmp 11)], #[31, 31]⟩) 31,
  op 13 (.nilCheck (.tmp 5)) 0,
  op 14 (.fieldAddr 35 (.tmp 13) 6) 0,
  ⟨none, (.store 31 (.tmp 14) (.tmp 12)), 0, "", #[⟨0, .chain⟩], none⟩]
def F47.r2 : List Oper := [
  ⟨(some 15), (.move (.tmp 0)), 30, "", #[], none⟩,
  ⟨(some 16), (.move (.tmp 0)), 30, "", #[], none⟩,
  ⟨(some 17), (.nilCheck (.tmp 16)), 0, "", #[], none⟩,
  ⟨(some 18), (.fieldAddr 35 (.tmp 17) 7), 0, "", #[], none⟩,
  ⟨(some 20), (.move (.tmp 4)), 32, "", #[], none⟩,
  ⟨(some 21), (.move (.tmp 1)), 32, "", #[], none⟩,
  ⟨(some 19), (.load 31 (.tmp 18)), 31, "", #[⟨4608, .data⟩], none⟩,
  ⟨(some 22), (.call ⟨(.builtin .append), #[(.tmp 20), (.tmp 21)], #[32, 32]⟩), 32, "", #[⟨7, .chain⟩], none⟩,
  ⟨(some 23), (.buildSlice 31 1 #[(0, (.tmp 22))]), 31, "", #[⟨8, .chain⟩], none⟩,
  ⟨(some 24), (.call ⟨(.builtin .append), #[(.tmp 19), (.tmp 23)], #[31, 31]⟩), 31, "", #[⟨9, .chain⟩], none⟩,
  ⟨(some 25), (.nilCheck (.tmp 15)), 0, "", #[], none⟩,
  ⟨(some 26), (.fieldAddr 35 (.tmp 25) 7), 0, "", #[], none⟩,
  ⟨none, (.store 31 (.tmp 26) (.tmp 24)), 0, "", #[⟨12, .chain⟩], none⟩]
def F47.code : Cd := (.seq (.region 0 F47.r0.toArray false) (.seq (.region 1 F47.r1.toArray false) (.region 2 F47.r2.toArray true)))
theorem F47.calls (hn : args.size ≤ 27) (h : cwE Tryz.prog F47.code (fnP Tryz.prog #[] R) (entry args) w) : Calls Tryz.prog 47 args w R :=
  calls_of_cwE (types := Tryz.prog.types) follows Tryz.func47 F47.code rfl (by kernel_rfl) hn h

def F48.r0 : List Oper := [
  op 4 (.assign (.const (.slice none 0 0))) 71]
def F48.r1 : List Oper := [
  op 8 (.move (.tmp 0)) 71,
  op 9 (.move (.tmp 1)) 88,
  oc 10 (.call ⟨(.value (.func 63)), #[(.tmp 8), (.tmp 9)], #[71, 88]⟩) 3,
  op 5 (.assign (.tmp 10)) 3]
def F48.r2 : List Oper := [
  op 11 (.move (.tmp 5)) 3,
  op 12 (.binOp .eql 3 (.tmp 11) (.const (.int .i64 (-1))) 3) 4]
def F48.r3 : List Oper := [
  op 13 (.move (.tmp 0)) 71,
  op 4 (.assign (.tmp 13)) 71]
def F48.r4 : List Oper := [
  op 14 (.move (.tmp 5)) 3,
  op 15 (.binOp .add 3 (.tmp 14) (.const (.int .i64 1)) 3) 3,
  op 6 (.assign (.tmp 15)) 3]
def F48.r5 : List Oper := [
  op 16 (.move (.tmp 6)) 3,
  op 17 (.move (.tmp 0)) 71,
  op 18 (.call ⟨(.builtin .len), #[(.tmp 17)], #[71]⟩) 3,
  op 19 (.binOp .lss 3 (.tmp 16) (.tmp 18) 3) 4]
def F48.r7 : List Oper := [
  op 22 (.move (.tmp 0)) 71,
  op 23 (.move (.tmp 6)) 3,
  op 24 (.indexAddr 71 (.tmp 22) (.tmp 23)) 0,
  od 25 (.load 76 (.tmp 24)) 76,
  oc 7 (.alloc 76) 0,
  ⟨none, (.store 76 (.tmp 7) (.tmp 25)), 0, "", #[⟨0, .chain⟩], none⟩]
def F48.r8 : List Oper := [
  op 26 (.move (.tmp 1)) 88,
  od 27 (.load 76 (.tmp 7)) 76,
  ⟨(some 28), (.call ⟨(.value (.tmp 26)), #[(.tmp 27)], #[76]⟩), 4, "", #[⟨0, .phase⟩], none⟩,
  op 29 (.unOp .not 4 (.tmp 28)) 4]
def F48.r9 : List Oper := [
  op 30 (.move (.tmp 0)) 71,
  op 31 (.move (.tmp 5)) 3,
  od 32 (.load 76 (.tmp 7)) 76,
  op 33 (.indexAddr 71 (.tmp 30) (.tmp 31)) 0,
  ⟨none, (.store 76 (.tmp 33) (.tmp 32)), 0, "", #[⟨0, .chain⟩], none⟩]
def F48.r10 : List Oper := [
  op 34 (.move (.tmp 5)) 3,
  op 35 (.binOp .add 3 (.tmp 34) (.const (.int .i64 1)) 3) 3,
  op 5 (.assign (.tmp 35)) 3]
def F48.r6 : List Oper := [
  op 20 (.move (.tmp 6)) 3,
  op 21 (.binOp .add 3 (.tmp 20) (.const (.int .i64 1)) 3) 3,
  op 6 (.assign (.tmp 21)) 3]
def F48.r11 : List Oper := [
  op 36 (.move (.tmp 0)) 71,
  op 37 (.move (.tmp 5)) 3,
  op 38 (.slice 71 (.tmp 36) (some (.tmp 37)) none none) 71,
  ⟨none, (.call ⟨(.builtin .clear), #[(.tmp 38)], #[71]⟩), 0, "", #[⟨0, .chain⟩], none⟩]
def F48.r12 : List Oper := [
  op 39 (.move (.tmp 0)) 71,
  op 40 (.move (.tmp 5)) 3,
  op 41 (.slice 71 (.tmp 39) none (some (.tmp 40)) none) 71,
  op 4 (.assign (.tmp 41)) 71]
def F48.t6 : Cd := (.region 6 F48.r6.toArray false)
theorem F48.t6_eq {θ : Tag (F48.t6, Q, e, w)} : cwE P F48.t6 Q e w θ = cwE P (.region 6 F48.r6.toArray false) Q e w := rfl
def F48.t7 : Cd := (.seq (.block 1 (.seq (.region 7 F48.r7.toArray false) (.seq (.region 8 F48.r8.toArray false) (.cond (.tmp 29) (.seq (.region 9 F48.r9.toArray false) (.region 10 F48.r10.toArray false)) .skip)))) F48.t6)
theorem F48.t7_eq {θ : Tag (F48.t7, Q, e, w)} : cwE P F48.t7 Q e w θ = cwE P (.seq (.block 1 (.seq (.region 7 F48.r7.toArray false) (.seq (.region 8 F48.r8.toArray false) (.cond (.tmp 29) (.seq (.region 9 F48.r9.toArray false) (.region 10 F48.r10.toArray false)) .skip)))) F48.t6) Q e w := rfl
def F48.t11 : Cd := (.seq (.region 11 F48.r11.toArray false) (.seq (.region 12 F48.r12.toArray false) .ret))
theorem F48.t11_eq {θ : Tag (F48.t11, Q, e, w)} : cwE P F48.t11 Q e w θ = cwE P (.seq (.region 11 F48.r11.toArray false) (.seq (.region 12 F48.r12.toArray false) .ret)) Q e w := rfl
def F48.t4 : Cd := (.seq (.seq (.region 4 F48.r4.toArray false) (.block 0 (.loop (.seq (.seq (.region 5 F48.r5.toArray false) (.cond (.tmp 19) .skip (.exit 0))) F48.t7)))) F48.t11)
theorem F48.t4_eq {θ : Tag (F48.t4, Q, e, w)} : cwE P F48.t4 Q e w θ = cwE P (.seq (.seq (.region 4 F48.r4.toArray false) (.block 0 (.loop (.seq (.seq (.region 5 F48.r5.toArray false) (.cond (.tmp 19) .skip (.exit 0))) F48.t7)))) F48.t11) Q e w := rfl
def F48.code : Cd := (.seq (.region 0 F48.r0.toArray false) (.seq (.region 1 F48.r1.toArray false) (.seq (.seq (.region 2 F48.r2.toArray false) (.cond (.tmp 12) (.seq (.region 3 F48.r3.toArray false) .ret) .skip)) F48.t4)))
theorem F48.calls (hn : args.size ≤ 42) (h : cwE Tryz.prog F48.code (fnP Tryz.prog #[(.tmp 4)] R) (entry args) w) : Calls Tryz.prog 48 args w R :=
  calls_of_cwE (types := Tryz.prog.types) follows Tryz.func48 F48.code rfl (by kernel_rfl) hn h

def F49.r0 : List Oper := [
  oc 2 (.box 76 (.tmp 0)) 0,
  op 3 (.assign (.const (.bool false))) 4]
def F49.r1 : List Oper := [
  op 4 (.fieldAddr 76 (.tmp 2) 0) 0,
  od 5 (.load 3 (.tmp 4)) 3,
  od 6 (.load 3 (.tmp 1)) 3,
  op 7 (.binOp .eql 3 (.tmp 5) (.tmp 6) 3) 4,
  op 3 (.assign (.tmp 7)) 4]
def F49.code : Cd := (.seq (.region 0 F49.r0.toArray false) (.seq (.region 1 F49.r1.toArray false) .ret))
theorem F49.calls (hn : args.size ≤ 8) (h : cwE Tryz.prog F49.code (fnP Tryz.prog #[(.tmp 3)] R) (entry args) w) : Calls Tryz.prog 49 args w R :=
  calls_of_cwE (types := Tryz.prog.types) follows Tryz.func49 F49.code rfl (by kernel_rfl) hn h

def F50.r0 : List Oper := [
  oc 2 (.box 40 (.tmp 0)) 0,
  oc 3 (.box 40 (.tmp 1)) 0,
  op 4 (.assign (.const (.int .i64 0))) 3]
def F50.r1 : List Oper := [
  op 5 (.fieldAddr 40 (.tmp 2) 0) 0,
  od 6 (.load 37 (.tmp 5)) 37,
  op 7 (.fieldAddr 40 (.tmp 3) 0) 0,
  od 8 (.load 37 (.tmp 7)) 37,
  op 9 (.binOp .neq 37 (.tmp 6) (.tmp 8) 37) 4]
def F50.r2 : List Oper := [
  op 10 (.fieldAddr 40 (.tmp 2) 0) 0,
  od 11 (.load 37 (.tmp 10)) 37,
  op 12 (.fieldAddr 40 (.tmp 3) 0) 0,
  od 13 (.load 37 (.tmp 12)) 37,
  op 14 (.binOp .lss 37 (.tmp 11) (.tmp 13) 37) 4]
def F50.r3 : List Oper := [
  op 4 (.assign (.const (.int .i64 (-1)))) 3]
def F50.r4 : List Oper := [
  op 4 (.assign (.const (.int .i64 1))) 3]
def F50.r5 : List Oper := [
  op 15 (.fieldAddr 40 (.tmp 2) 1) 0,
  od 16 (.load 3 (.tmp 15)) 3,
  op 17 (.fieldAddr 40 (.tmp 3) 1) 0,
  od 18 (.load 3 (.tmp 17)) 3,
  op 19 (.binOp .neq 3 (.tmp 16) (.tmp 18) 3) 4]
def F50.r6 : List Oper := [
  op 20 (.fieldAddr 40 (.tmp 2) 1) 0,
  od 21 (.load 3 (.tmp 20)) 3,
  op 22 (.fieldAddr 40 (.tmp 3) 1) 0,
  od 23 (.load 3 (.tmp 22)) 3,
  op 24 (.binOp .lss 3 (.tmp 21) (.tmp 23) 3) 4]
def F50.r7 : List Oper := [
  op 4 (.assign (.const (.int .i64 (-1)))) 3]
def F50.r8 : List Oper := [
  op 4 (.assign (.const (.int .i64 1))) 3]
def F50.r9 : List Oper := [
  op 25 (.fieldAddr 40 (.tmp 2) 2) 0,
  od 26 (.load 38 (.tmp 25)) 38,
  op 27 (.fieldAddr 40 (.tmp 3) 2) 0,
  od 28 (.load 38 (.tmp 27)) 38,
  op 29 (.binOp .neq 38 (.tmp 26) (.tmp 28) 38) 4]
def F50.r10 : List Oper := [
  op 30 (.fieldAddr 40 (.tmp 2) 2) 0,
  od 31 (.load 38 (.tmp 30)) 38,
  op 32 (.fieldAddr 40 (.tmp 3) 2) 0,
  od 33 (.load 38 (.tmp 32)) 38,
  op 34 (.binOp .lss 38 (.tmp 31) (.tmp 33) 38) 4]
def F50.r11 : List Oper := [
  op 4 (.assign (.const (.int .i64 (-1)))) 3]
def F50.r12 : List Oper := [
  op 4 (.assign (.const (.int .i64 1))) 3]
def F50.r13 : List Oper := [
  op 4 (.assign (.const (.int .i64 0))) 3]
def F50.t4 : Cd := (.seq (.region 4 F50.r4.toArray false) .ret)
theorem F50.t4_eq {θ : Tag (F50.t4, Q, e, w)} : cwE P F50.t4 Q e w θ = cwE P (.seq (.region 4 F50.r4.toArray false) .ret) Q e w := rfl
def F50.t8 : Cd := (.seq (.region 8 F50.r8.toArray false) .ret)
theorem F50.t8_eq {θ : Tag (F50.t8, Q, e, w)} : cwE P F50.t8 Q e w θ = cwE P (.seq (.region 8 F50.r8.toArray false) .ret) Q e w := rfl
def F50.t12 : Cd := (.seq (.region 12 F50.r12.toArray false) .ret)
theorem F50.t12_eq {θ : Tag (F50.t12, Q, e, w)} : cwE P F50.t12 Q e w θ = cwE P (.seq (.region 12 F50.r12.toArray false) .ret) Q e w := rfl
def F50.t13 : Cd := (.seq (.region 13 F50.r13.toArray false) .ret)
theorem F50.t13_eq {θ : Tag (F50.t13, Q, e, w)} : cwE P F50.t13 Q e w θ = cwE P (.seq (.region 13 F50.r13.toArray false) .ret) Q e w := rfl
def F50.t9 : Cd := (.seq (.seq (.region 9 F50.r9.toArray false) (.cond (.tmp 29) (.seq (.seq (.region 10 F50.r10.toArray false) (.cond (.tmp 34) (.seq (.region 11 F50.r11.toArray false) .ret) .skip)) F50.t12) .skip)) F50.t13)
theorem F50.t9_eq {θ : Tag (F50.t9, Q, e, w)} : cwE P F50.t9 Q e w θ = cwE P (.seq (.seq (.region 9 F50.r9.toArray false) (.cond (.tmp 29) (.seq (.seq (.region 10 F50.r10.toArray false) (.cond (.tmp 34) (.seq (.region 11 F50.r11.toArray false) .ret) .skip)) F50.t12) .skip)) F50.t13) Q e w := rfl
def F50.t5 : Cd := (.seq (.seq (.region 5 F50.r5.toArray false) (.cond (.tmp 19) (.seq (.seq (.region 6 F50.r6.toArray false) (.cond (.tmp 24) (.seq (.region 7 F50.r7.toArray false) .ret) .skip)) F50.t8) .skip)) F50.t9)
theorem F50.t5_eq {θ : Tag (F50.t5, Q, e, w)} : cwE P F50.t5 Q e w θ = cwE P (.seq (.seq (.region 5 F50.r5.toArray false) (.cond (.tmp 19) (.seq (.seq (.region 6 F50.r6.toArray false) (.cond (.tmp 24) (.seq (.region 7 F50.r7.toArray false) .ret) .skip)) F50.t8) .skip)) F50.t9) Q e w := rfl
def F50.code : Cd := (.seq (.region 0 F50.r0.toArray false) (.seq (.seq (.region 1 F50.r1.toArray false) (.cond (.tmp 9) (.seq (.seq (.region 2 F50.r2.toArray false) (.cond (.tmp 14) (.seq (.region 3 F50.r3.toArray false) .ret) .skip)) F50.t4) .skip)) F50.t5))
theorem F50.calls (hn : args.size ≤ 35) (h : cwE Tryz.prog F50.code (fnP Tryz.prog #[(.tmp 4)] R) (entry args) w) : Calls Tryz.prog 50 args w R :=
  calls_of_cwE (types := Tryz.prog.types) follows Tryz.func50 F50.code rfl (by kernel_rfl) hn h

def F51.r0 : List Oper := [
  op 4 (.assign (.const (.slice none 0 0))) 32]
def F51.r1 : List Oper := [
  op 7 (.move (.tmp 0)) 32,
  op 8 (.move (.tmp 1)) 3,
  oc 9 (.buildSlice 32 1 #[(0, (.tmp 8))]) 32,
  oc 10 (.call ⟨(.builtin .append), #[(.tmp 7), (.tmp 9)], #[32, 32]⟩) 32,
  op 0 (.assign (.tmp 10)) 32]
def F51.r2 : List Oper := [
  op 11 (.move (.tmp 0)) 32,
  op 12 (.call ⟨(.builtin .len), #[(.tmp 11)], #[32]⟩) 3,
  op 13 (.binOp .sub 3 (.tmp 12) (.const (.int .i64 1)) 3) 3,
  op 5 (.assign (.tmp 13)) 3]
def F51.r3 : List Oper := [
  ⟨(some 14), (.move (.tmp 5)), 3, "", #[], none⟩,
  ⟨(some 15), (.binOp .gtr 3 (.tmp 14) (.const (.int .i64 0)) 3), 4, "", #[], none⟩,
  ⟨(some 16), (.move (.tmp 15)), 4, "", #[], none⟩,
  ⟨(some 17), (.move (.tmp 0)), 32, "", #[], (some (16, true))⟩,
  ⟨(some 18), (.move (.tmp 5)), 3, "", #[], (some (16, true))⟩,
  ⟨(some 19), (.binOp .sub 3 (.tmp 18) (.const (.int .i64 1)) 3), 3, "", #[], (some (16, true))⟩,
  ⟨(some 20), (.indexAddr 32 (.tmp 17) (.tmp 19)), 0, "", #[], (some (16, true))⟩,
  ⟨(some 22), (.move (.tmp 0)), 32, "", #[], (some (16, true))⟩,
  ⟨(some 23), (.move (.tmp 5)), 3, "", #[], (some (16, true))⟩,
  ⟨(some 24), (.indexAddr 32 (.tmp 22) (.tmp 23)), 0, "", #[], (some (16, true))⟩,
  ⟨(some 21), (.load 3 (.tmp 20)), 3, "", #[⟨0, .data⟩], (some (16, true))⟩,
  ⟨(some 25), (.load 3 (.tmp 24)), 3, "", #[⟨0, .data⟩], (some (16, true))⟩,
  ⟨(some 26), (.binOp .gtr 3 (.tmp 21) (.tmp 25) 3), 4, "", #[], (some (16, true))⟩,
  ⟨(some 27), (.pick (.tmp 16) (.tmp 26) (.const (.bool false))), 4, "", #[], none⟩]
def F51.r5 : List Oper := [
  op 30 (.move (.tmp 0)) 32,
  op 31 (.move (.tmp 5)) 3,
  op 32 (.binOp .sub 3 (.tmp 31) (.const (.int .i64 1)) 3) 3,
  op 33 (.indexAddr 32 (.tmp 30) (.tmp 32)) 0,
  od 34 (.load 3 (.tmp 33)) 3,
  op 6 (.assign (.tmp 34)) 3]
def F51.r6 : List Oper := [
  op 35 (.move (.tmp 0)) 32,
  op 36 (.move (.tmp 5)) 3,
  op 37 (.binOp .sub 3 (.tmp 36) (.const (.int .i64 1)) 3) 3,
  op 38 (.move (.tmp 0)) 32,
  op 39 (.move (.tmp 5)) 3,
  op 40 (.indexAddr 32 (.tmp 38) (.tmp 39)) 0,
  od 41 (.load 3 (.tmp 40)) 3,
  op 42 (.indexAddr 32 (.tmp 35) (.tmp 37)) 0,
  ⟨none, (.store 3 (.tmp 42) (.tmp 41)), 0, "", #[⟨0, .chain⟩], none⟩]
def F51.r7 : List Oper := [
  op 43 (.move (.tmp 0)) 32,
  op 44 (.move (.tmp 5)) 3,
  op 45 (.move (.tmp 6)) 3,
  op 46 (.indexAddr 32 (.tmp 43) (.tmp 44)) 0,
  ⟨none, (.store 3 (.tmp 46) (.tmp 45)), 0, "", #[⟨0, .chain⟩], none⟩]
def F51.r4 : List Oper := [
  op 28 (.move (.tmp 5)) 3,
  op 29 (.binOp .sub 3 (.tmp 28) (.const (.int .i64 1)) 3) 3,
  op 5 (.assign (.tmp 29)) 3]
def F51.r8 : List Oper := [
  op 47 (.move (.tmp 0)) 32,
  op 4 (.assign (.tmp 47)) 32]
def F51.t4 : Cd := (.region 4 F51.r4.toArray false)
theorem F51.t4_eq {θ : Tag (F51.t4, Q, e, w)} : cwE P F51.t4 Q e w θ = cwE P (.region 4 F51.r4.toArray false) Q e w := rfl
def F51.t5 : Cd := (.seq (.block 1 (.seq (.region 5 F51.r5.toArray false) (.seq (.region 6 F51.r6.toArray false) (.region 7 F51.r7.toArray false)))) F51.t4)
theorem F51.t5_eq {θ : Tag (F51.t5, Q, e, w)} : cwE P F51.t5 Q e w θ = cwE P (.seq (.block 1 (.seq (.region 5 F51.r5.toArray false) (.seq (.region 6 F51.r6.toArray false) (.region 7 F51.r7.toArray false)))) F51.t4) Q e w := rfl
def F51.t8 : Cd := (.seq (.region 8 F51.r8.toArray false) .ret)
theorem F51.t8_eq {θ : Tag (F51.t8, Q, e, w)} : cwE P F51.t8 Q e w θ = cwE P (.seq (.region 8 F51.r8.toArray false) .ret) Q e w := rfl
def F51.code : Cd := (.seq (.region 0 F51.r0.toArray false) (.seq (.region 1 F51.r1.toArray false) (.seq (.seq (.region 2 F51.r2.toArray false) (.block 0 (.loop (.seq (.seq (.region 3 F51.r3.toArray true) (.cond (.tmp 27) .skip (.exit 0))) F51.t5)))) F51.t8)))
theorem F51.calls (hn : args.size ≤ 48) (h : cwE Tryz.prog F51.code (fnP Tryz.prog #[(.tmp 4)] R) (entry args) w) : Calls Tryz.prog 51 args w R :=
  calls_of_cwE (types := Tryz.prog.types) follows Tryz.func51 F51.code rfl (by kernel_rfl) hn h

def F52.r0 : List Oper := [
  op 5 (.move (.tmp 0)) 63,
  op 6 (.call ⟨(.builtin .len), #[(.tmp 5)], #[63]⟩) 3,
  op 4 (.assign (.tmp 6)) 3]
def F52.r1 : List Oper := [
  op 7 (.move (.tmp 0)) 63,
  op 8 (.move (.tmp 4)) 3,
  op 9 (.move (.tmp 4)) 3,
  op 10 (.convert 3 103 (.tmp 9)) 103,
  oc 11 (.call ⟨(.value (.func 66)), #[(.tmp 10)], #[103]⟩) 3,
  op 12 (.move (.tmp 1)) 92,
  oc 13 (.call ⟨(.value (.func 65)), #[(.tmp 7), (.const (.int .i64 0)), (.tmp 8), (.tmp 11), (.tmp 12)], #[63, 3, 3, 3, 92]⟩) 0]
def F52.code : Cd := (.seq (.region 0 F52.r0.toArray false) (.region 1 F52.r1.toArray false))
theorem F52.calls (hn : args.size ≤ 14) (h : cwE Tryz.prog F52.code (fnP Tryz.prog #[] R) (entry args) w) : Calls Tryz.prog 52 args w R :=
  calls_of_cwE (types := Tryz.prog.types) follows Tryz.func52 F52.code rfl (by kernel_rfl) hn h

def F53.r0 : List Oper := [
  oc 2 (.box 42 (.tmp 0)) 0,
  oc 3 (.box 42 (.tmp 1)) 0,
  op 4 (.assign (.const (.int .i64 0))) 3]
def F53.r1 : List Oper := [
  op 5 (.fieldAddr 42 (.tmp 2) 0) 0,
  od 6 (.load 40 (.tmp 5)) 40,
  op 7 (.fieldAddr 42 (.tmp 3) 0) 0,
  od 8 (.load 40 (.tmp 7)) 40,
  oc 9 (.call ⟨(.value (.func 54)), #[(.tmp 6), (.tmp 8)], #[40, 40]⟩) 3,
  op 4 (.assign (.tmp 9)) 3]
def F53.code : Cd := (.seq (.region 0 F53.r0.toArray false) (.seq (.region 1 F53.r1.toArray false) .ret))
theorem F53.calls (hn : args.size ≤ 10) (h : cwE Tryz.prog F53.code (fnP Tryz.prog #[(.tmp 4)] R) (entry args) w) : Calls Tryz.prog 53 args w R :=
  calls_of_cwE (types := Tryz.prog.types) follows Tryz.func53 F53.code rfl (by kernel_rfl) hn h

def F54.r0 : List Oper := [
  oc 2 (.box 40 (.tmp 0)) 0,
  oc 3 (.box 40 (.tmp 1)) 0,
  op 4 (.assign (.const (.int .i64 0))) 3]
def F54.r1 : List Oper := [
  ⟨(some 5), (.fieldAddr 40 (.tmp 2) 0), 0, "", #[], none⟩,
  ⟨(some 7), (.fieldAddr 40 (.tmp 3) 0), 0, "", #[], none⟩,
  ⟨(some 10), (.fieldAddr 40 (.tmp 2) 1), 0, "", #[], none⟩,
  ⟨(some 12), (.fieldAddr 40 (.tmp 3) 1), 0, "", #[], none⟩,
  ⟨(some 15), (.fieldAddr 40 (.tmp 2) 2), 0, "", #[], none⟩,
  ⟨(some 17), (.fieldAddr 40 (.tmp 3) 2), 0, "", #[], none⟩,
  ⟨(some 6), (.load 37 (.tmp 5)), 37, "", #[⟨115216, .data⟩], none⟩,
  ⟨(some 8), (.load 37 (.tmp 7)), 37, "", #[⟨115216, .data⟩], none⟩,
  ⟨(some 11), (.load 3 (.tmp 10)), 3, "", #[⟨115200, .data⟩], none⟩,
  ⟨(some 13), (.load 3 (.tmp 12)), 3, "", #[⟨115200, .data⟩], none⟩,
  ⟨(some 16), (.load 38 (.tmp 15)), 38, "", #[⟨114688, .data⟩], none⟩,
  ⟨(some 18), (.load 38 (.tmp 17)), 38, "", #[⟨114688, .data⟩], none⟩,
  ⟨(some 9), (.call ⟨(.value (.func 68)), #[(.tmp 6), (.tmp 8)], #[37, 37]⟩), 3, "", #[⟨4, .chain⟩], none⟩,
  ⟨(some 14), (.call ⟨(.value (.func 69)), #[(.tmp 11), (.tmp 13)], #[3, 3]⟩), 3, "", #[⟨9, .chain⟩], none⟩,
  ⟨(some 19), (.call ⟨(.value (.func 70)), #[(.tmp 16), (.tmp 18)], #[38, 38]⟩), 3, "", #[⟨14, .chain⟩], none⟩,
  ⟨(some 20), (.buildSlice 32 3 #[(0, (.tmp 9)), (1, (.tmp 14)), (2, (.tmp 19))]), 32, "", #[⟨15, .chain⟩], none⟩,
  ⟨(some 21), (.call ⟨(.value (.func 67)), #[(.tmp 20)], #[32]⟩), 3, "", #[⟨16, .chain⟩], none⟩,
  ⟨(some 4), (.assign (.tmp 21)), 3, "", #[], none⟩]
def F54.code : Cd := (.seq (.region 0 F54.r0.toArray false) (.seq (.region 1 F54.r1.toArray true) .ret))
theorem F54.calls (hn : args.size ≤ 22) (h : cwE Tryz.prog F54.code (fnP Tryz.prog #[(.tmp 4)] R) (entry args) w) : Calls Tryz.prog 54 args w R :=
  calls_of_cwE (types := Tryz.prog.types) follows Tryz.func54 F54.code rfl (by kernel_rfl) hn h

def F55.r0 : List Oper := [
  op 3 (.move (.tmp 0)) 32,
  op 4 (.call ⟨(.builtin .len), #[(.tmp 3)], #[32]⟩) 3,
  op 2 (.assign (.tmp 4)) 3]
def F55.r1 : List Oper := [
  op 5 (.move (.tmp 0)) 32,
  op 6 (.move (.tmp 2)) 3,
  op 7 (.move (.tmp 2)) 3,
  op 8 (.convert 3 103 (.tmp 7)) 103,
  oc 9 (.call ⟨(.value (.func 66)), #[(.tmp 8)], #[103]⟩) 3,
  oc 10 (.call ⟨(.value (.func 71)), #[(.tmp 5), (.const (.int .i64 0)), (.tmp 6), (.tmp 9)], #[32, 3, 3, 3]⟩) 0]
def F55.code : Cd := (.seq (.region 0 F55.r0.toArray false) (.region 1 F55.r1.toArray false))
theorem F55.calls (hn : args.size ≤ 11) (h : cwE Tryz.prog F55.code (fnP Tryz.prog #[] R) (entry args) w) : Calls Tryz.prog 55 args w R :=
  calls_of_cwE (types := Tryz.prog.types) follows Tryz.func55 F55.code rfl (by kernel_rfl) hn h

def F56.r0 : List Oper := [
  op 2 (.assign (.const (.pointer none))) 26]
def F56.r1 : List Oper := [
  oc 6 (.makeMap 55 none) 55,
  op 7 (.move (.tmp 0)) 26,
  op 8 (.nilCheck (.tmp 7)) 0,
  op 9 (.fieldAddr 58 (.tmp 8) 1) 0,
  od 10 (.load 56 (.tmp 9)) 56,
  oc 11 (.call ⟨(.value (.func 72)), #[(.tmp 10)], #[56]⟩) 56,
  op 12 (.build 58 #[(0, (.tmp 6)), (1, (.tmp 11))]) 58,
  oc 13 (.box 58 (.tmp 12)) 26,
  op 3 (.assign (.tmp 13)) 26]
def F56.r2 : List Oper := [
  op 14 (.move (.tmp 0)) 26,
  op 15 (.nilCheck (.tmp 14)) 0,
  op 16 (.fieldAddr 58 (.tmp 15) 0) 0,
  od 17 (.load 55 (.tmp 16)) 55,
  oc 18 (.range 55 (.tmp 17)) 0]
def F56.r3 : List Oper := [
  oc 19 (.next (.tmp 18) false) 0,
  op 20 (.extract (.tmp 19) 0) 4]
def F56.r4 : List Oper := [
  od 21 (.entry (.tmp 18)) 0,
  op 22 (.extract (.tmp 21) 0) 40,
  op 23 (.extract (.tmp 21) 1) 70,
  oc 4 (.alloc 40) 0,
  ⟨none, (.store 40 (.tmp 4) (.tmp 22)), 0, "", #[⟨0, .chain⟩], none⟩,
  op 5 (.assign (.tmp 23)) 70]
def F56.r5 : List Oper := [
  ⟨(some 24), (.move (.tmp 3)), 26, "", #[], none⟩,
  ⟨(some 25), (.nilCheck (.tmp 24)), 0, "", #[], none⟩,
  ⟨(some 26), (.fieldAddr 58 (.tmp 25) 0), 0, "", #[], none⟩,
  ⟨(some 29), (.move (.tmp 5)), 70, "", #[], none⟩,
  ⟨(some 30), (.nilCheck (.tmp 29)), 0, "", #[], none⟩,
  ⟨(some 31), (.fieldAddr 73 (.tmp 30) 0), 0, "", #[], none⟩,
  ⟨(some 34), (.move (.tmp 5)), 70, "", #[], none⟩,
  ⟨(some 35), (.nilCheck (.tmp 34)), 0, "", #[], none⟩,
  ⟨(some 36), (.fieldAddr 73 (.tmp 35) 1), 0, "", #[], none⟩,
  ⟨(some 27), (.load 55 (.tmp 26)), 55, "", #[⟨131072, .data⟩], none⟩,
  ⟨(some 28), (.load 40 (.tmp 4)), 40, "", #[⟨131072, .data⟩], none⟩,
  ⟨(some 32), (.load 71 (.tmp 31)), 71, "", #[⟨213504, .data⟩], none⟩,
  ⟨(some 37), (.load 71 (.tmp 36)), 71, "", #[⟨212992, .data⟩], none⟩,
  ⟨(some 33), (.call ⟨(.value (.func 73)), #[(.tmp 32)], #[71]⟩), 71, "", #[⟨9, .chain⟩], none⟩,
  ⟨(some 38), (.call ⟨(.value (.func 73)), #[(.tmp 37)], #[71]⟩), 71, "", #[⟨14, .chain⟩], none⟩,
  ⟨(some 39), (.build 73 #[(0, (.tmp 33)), (1, (.tmp 38))]), 73, "", #[], none⟩,
  ⟨(some 40), (.box 73 (.tmp 39)), 70, "", #[⟨16, .chain⟩], none⟩,
  ⟨none, (.mapUpdate 55 (.tmp 27) (.tmp 28) (.tmp 40)), 0, "", #[⟨17, .chain⟩], none⟩]
def F56.r6 : List Oper := [
  op 41 (.move (.tmp 3)) 26,
  op 2 (.assign (.tmp 41)) 26]
def F56.t4 : Cd := (.block 1 (.seq (.region 4 F56.r4.toArray false) (.region 5 F56.r5.toArray true)))
theorem F56.t4_eq {θ : Tag (F56.t4, Q, e, w)} : cwE P F56.t4 Q e w θ = cwE P (.block 1 (.seq (.region 4 F56.r4.toArray false) (.region 5 F56.r5.toArray true))) Q e w := rfl
def F56.t6 : Cd := (.seq (.region 6 F56.r6.toArray false) .ret)
theorem F56.t6_eq {θ : Tag (F56.t6, Q, e, w)} : cwE P F56.t6 Q e w θ = cwE P (.seq (.region 6 F56.r6.toArray false) .ret) Q e w := rfl
def F56.code : Cd := (.seq (.region 0 F56.r0.toArray false) (.seq (.region 1 F56.r1.toArray false) (.seq (.seq (.region 2 F56.r2.toArray false) (.block 0 (.loop (.seq (.region 3 F56.r3.toArray false) (.seq (.cond (.tmp 20) .skip (.exit 0)) F56.t4))))) F56.t6)))
theorem F56.calls (hn : args.size ≤ 42) (h : cwE Tryz.prog F56.code (fnP Tryz.prog #[(.tmp 2)] R) (entry args) w) : Calls Tryz.prog 56 args w R :=
  calls_of_cwE (types := Tryz.prog.types) follows Tryz.func56 F56.code rfl (by kernel_rfl) hn h

def F57.r0 : List Oper := [
  op 2 (.assign (.const (.int .i64 0))) 3,
  op 3 (.assign (.const (.bool false))) 4]
def F57.r1 : List Oper := [
  op 10 (.move (.tmp 0)) 26,
  op 11 (.nilCheck (.tmp 10)) 0,
  op 12 (.fieldAddr 58 (.tmp 11) 0) 0,
  od 13 (.load 55 (.tmp 12)) 55,
  oc 14 (.range 55 (.tmp 13)) 0]
def F57.r2 : List Oper := [
  oc 15 (.next (.tmp 14) false) 0,
  op 16 (.extract (.tmp 15) 0) 4]
def F57.r3 : List Oper := [
  od 17 (.entry (.tmp 14)) 0,
  op 18 (.extract (.tmp 17) 1) 70,
  op 5 (.assign (.tmp 18)) 70]
def F57.r4 : List Oper := [
  op 19 (.move (.tmp 5)) 70,
  op 20 (.nilCheck (.tmp 19)) 0,
  op 21 (.fieldAddr 73 (.tmp 20) 0) 0,
  od 22 (.load 71 (.tmp 21)) 71,
  op 23 (.call ⟨(.builtin .len), #[(.tmp 22)], #[71]⟩) 3,
  op 24 (.move (.const (.int .i64 0))) 3]
def F57.r5 : List Oper := [
  op 25 (.binOp .lss 3 (.tmp 24) (.tmp 23) 3) 0]
def F57.r6 : List Oper := [
  op 26 (.indexAddr 71 (.tmp 22) (.tmp 24)) 0,
  od 27 (.load 76 (.tmp 26)) 76,
  oc 7 (.alloc 76) 0,
  ⟨none, (.store 76 (.tmp 7) (.tmp 27)), 0, "", #[⟨0, .chain⟩], none⟩]
def F57.r7 : List Oper := [
  ⟨(some 29), (.move (.tmp 0)), 26, "", #[], none⟩,
  ⟨(some 30), (.nilCheck (.tmp 29)), 0, "", #[], none⟩,
  ⟨(some 31), (.fieldAddr 58 (.tmp 30) 1), 0, "", #[], none⟩,
  ⟨(some 33), (.fieldAddr 76 (.tmp 7) 0), 0, "", #[], none⟩,
  ⟨(some 32), (.load 56 (.tmp 31)), 56, "", #[⟨2048, .data⟩], none⟩,
  ⟨(some 34), (.load 3 (.tmp 33)), 3, "", #[⟨2048, .data⟩], none⟩,
  ⟨(some 35), (.lookup 56 (.tmp 32) (.tmp 34) true), 67, "", #[⟨2048, .data⟩], none⟩,
  ⟨(some 28), (.move (.tmp 35)), 67, "", #[], none⟩,
  ⟨(some 36), (.extract (.tmp 28) 0), 42, "", #[], none⟩,
  ⟨(some 37), (.extract (.tmp 28) 1), 4, "", #[], none⟩,
  ⟨(some 8), (.alloc 42), 0, "", #[⟨10, .chain⟩], none⟩,
  ⟨none, (.store 42 (.tmp 8) (.tmp 36)), 0, "", #[⟨11, .chain⟩], none⟩,
  ⟨(some 9), (.assign (.tmp 37)), 4, "", #[], none⟩]
def F57.r8 : List Oper := [
  op 38 (.move (.tmp 9)) 4,
  op 39 (.unOp .not 4 (.tmp 38)) 4]
def F57.r9 : List Oper := [
  op 40 (.fieldAddr 76 (.tmp 7) 0) 0,
  od 41 (.load 3 (.tmp 40)) 3,
  op 2 (.assign (.tmp 41)) 3,
  op 3 (.assign (.const (.bool true))) 4]
def F57.r10 : List Oper := [
  op 42 (.binOp .add 3 (.tmp 24) (.const (.int .i64 1)) 3) 3,
  op 24 (.move (.tmp 42)) 3]
def F57.r11 : List Oper := [
  op 2 (.assign (.const (.int .i64 0))) 3,
  op 3 (.assign (.const (.bool false))) 4]
def F57.t10 : Cd := (.region 10 F57.r10.toArray false)
theorem F57.t10_eq {θ : Tag (F57.t10, Q, e, w)} : cwE P F57.t10 Q e w θ = cwE P (.region 10 F57.r10.toArray false) Q e w := rfl
def F57.t6 : Cd := (.seq (.block 3 (.seq (.region 6 F57.r6.toArray false) (.seq (.region 7 F57.r7.toArray true) (.seq (.region 8 F57.r8.toArray false) (.cond (.tmp 39) (.seq (.region 9 F57.r9.toArray false) .ret) .skip))))) F57.t10)
theorem F57.t6_eq {θ : Tag (F57.t6, Q, e, w)} : cwE P F57.t6 Q e w θ = cwE P (.seq (.block 3 (.seq (.region 6 F57.r6.toArray false) (.seq (.region 7 F57.r7.toArray true) (.seq (.region 8 F57.r8.toArray false) (.cond (.tmp 39) (.seq (.region 9 F57.r9.toArray false) .ret) .skip))))) F57.t10) Q e w := rfl
def F57.t3 : Cd := (.block 1 (.seq (.region 3 F57.r3.toArray false) (.seq (.region 4 F57.r4.toArray false) (.block 2 (.loop (.seq (.region 5 F57.r5.toArray false) (.seq (.cond (.tmp 25) .skip (.exit 2)) F57.t6)))))))
theorem F57.t3_eq {θ : Tag (F57.t3, Q, e, w)} : cwE P F57.t3 Q e w θ = cwE P (.block 1 (.seq (.region 3 F57.r3.toArray false) (.seq (.region 4 F57.r4.toArray false) (.block 2 (.loop (.seq (.region 5 F57.r5.toArray false) (.seq (.cond (.tmp 25) .skip (.exit 2)) F57.t6))))))) Q e w := rfl
def F57.t11 : Cd := (.seq (.region 11 F57.r11.toArray false) .ret)
theorem F57.t11_eq {θ : Tag (F57.t11, Q, e, w)} : cwE P F57.t11 Q e w θ = cwE P (.seq (.region 11 F57.r11.toArray false) .ret) Q e w := rfl
def F57.code : Cd := (.seq (.region 0 F57.r0.toArray false) (.seq (.seq (.region 1 F57.r1.toArray false) (.block 0 (.loop (.seq (.region 2 F57.r2.toArray false) (.seq (.cond (.tmp 16) .skip (.exit 0)) F57.t3))))) F57.t11))
theorem F57.calls (hn : args.size ≤ 43) (h : cwE Tryz.prog F57.code (fnP Tryz.prog #[(.tmp 2), (.tmp 3)] R) (entry args) w) : Calls Tryz.prog 57 args w R :=
  calls_of_cwE (types := Tryz.prog.types) follows Tryz.func57 F57.code rfl (by kernel_rfl) hn h

def F58.r0 : List Oper := [
  op 2 (.assign (.const (.slice none 0 0))) 32]
def F58.r1 : List Oper := [
  op 4 (.move (.tmp 0)) 97,
  oc 5 (.call ⟨(.value (.func 74)), #[(.tmp 4)], #[97]⟩) 32,
  op 3 (.assign (.tmp 5)) 32]
def F58.r2 : List Oper := [
  op 6 (.move (.tmp 3)) 32,
  oc 7 (.call ⟨(.value (.func 55)), #[(.tmp 6)], #[32]⟩) 0]
def F58.r3 : List Oper := [
  op 8 (.move (.tmp 3)) 32,
  op 2 (.assign (.tmp 8)) 32]
def F58.code : Cd := (.seq (.region 0 F58.r0.toArray false) (.seq (.region 1 F58.r1.toArray false) (.seq (.region 2 F58.r2.toArray false) (.seq (.region 3 F58.r3.toArray false) .ret))))
theorem F58.calls (hn : args.size ≤ 9) (h : cwE Tryz.prog F58.code (fnP Tryz.prog #[(.tmp 2)] R) (entry args) w) : Calls Tryz.prog 58 args w R :=
  calls_of_cwE (types := Tryz.prog.types) follows Tryz.func58 F58.code rfl (by kernel_rfl) hn h

def F59.r0 : List Oper := [
  oc 1 (.box 56 (.tmp 0)) 0,
  op 2 (.assign (.const .nilFunc)) 97]
def F59.r1 : List Oper := [
  op 3 (.makeFunc (.func 75) #[] #[(.tmp 1)]) 96,
  op 2 (.assign (.tmp 3)) 97]
def F59.code : Cd := (.seq (.region 0 F59.r0.toArray false) (.seq (.region 1 F59.r1.toArray false) .ret))
theorem F59.calls (hn : args.size ≤ 4) (h : cwE Tryz.prog F59.code (fnP Tryz.prog #[(.tmp 2)] R) (entry args) w) : Calls Tryz.prog 59 args w R :=
  calls_of_cwE (types := Tryz.prog.types) follows Tryz.func59 F59.code rfl (by kernel_rfl) hn h

def F60.r0 : List Oper := [
  op 2 (.assign (.const (.pointer none))) 28]
def F60.r1 : List Oper := [
  op 4 (.build 61 #[]) 61,
  oc 5 (.box 61 (.tmp 4)) 28,
  op 3 (.assign (.tmp 5)) 28]
def F60.r2 : List Oper := [
  ⟨(some 6), (.move (.tmp 3)), 28, "", #[], none⟩,
  ⟨(some 7), (.move (.tmp 3)), 28, "", #[], none⟩,
  ⟨(some 8), (.nilCheck (.tmp 7)), 0, "", #[], none⟩,
  ⟨(some 9), (.fieldAddr 61 (.tmp 8) 0), 0, "", #[], none⟩,
  ⟨(some 11), (.move (.tmp 0)), 28, "", #[], none⟩,
  ⟨(some 12), (.nilCheck (.tmp 11)), 0, "", #[], none⟩,
  ⟨(some 13), (.fieldAddr 61 (.tmp 12) 0), 0, "", #[], none⟩,
  ⟨(some 10), (.load 59 (.tmp 9)), 59, "", #[⟨4608, .data⟩], none⟩,
  ⟨(some 14), (.load 59 (.tmp 13)), 59, "", #[⟨4608, .data⟩], none⟩,
  ⟨(some 15), (.call ⟨(.builtin .append), #[(.tmp 10), (.tmp 14)], #[59, 59]⟩), 59, "", #[⟨9, .chain⟩], none⟩,
  ⟨(some 16), (.nilCheck (.tmp 6)), 0, "", #[], none⟩,
  ⟨(some 17), (.fieldAddr 61 (.tmp 16) 0), 0, "", #[], none⟩,
  ⟨none, (.store 59 (.tmp 17) (.tmp 15)), 0, "", #[⟨12, .chain⟩], none⟩]
def F60.r3 : List Oper := [
  ⟨(some 18), (.move (.tmp 3)), 28, "", #[], none⟩,
  ⟨(some 19), (.move (.tmp 3)), 28, "", #[], none⟩,
  ⟨(some 20), (.nilCheck (.tmp 19)), 0, "", #[], none⟩,
  ⟨(some 21), (.fieldAddr 61 (.tmp 20) 1), 0, "", #[], none⟩,
  ⟨(some 23), (.move (.tmp 0)), 28, "", #[], none⟩,
  ⟨(some 24), (.nilCheck (.tmp 23)), 0, "", #[], none⟩,
  ⟨(some 25), (.fieldAddr 61 (.tmp 24) 1), 0, "", #[], none⟩,
  ⟨(some 22), (.load 59 (.tmp 21)), 59, "", #[⟨4608, .data⟩], none⟩,
  ⟨(some 26), (.load 59 (.tmp 25)), 59, "", #[⟨4608, .data⟩], none⟩,
  ⟨(some 27), (.call ⟨(.builtin .append), #[(.tmp 22), (.tmp 26)], #[59, 59]⟩), 59, "", #[⟨9, .chain⟩], none⟩,
  ⟨(some 28), (.nilCheck (.tmp 18)), 0, "", #[], none⟩,
  ⟨(some 29), (.fieldAddr 61 (.tmp 28) 1), 0, "", #[], none⟩,
  ⟨none, (.store 59 (.tmp 29) (.tmp 27)), 0, "", #[⟨12, .chain⟩], none⟩]
def F60.r4 : List Oper := [
  op 30 (.move (.tmp 3)) 28,
  op 2 (.assign (.tmp 30)) 28]
def F60.code : Cd := (.seq (.region 0 F60.r0.toArray false) (.seq (.region 1 F60.r1.toArray false) (.seq (.region 2 F60.r2.toArray true) (.seq (.region 3 F60.r3.toArray true) (.seq (.region 4 F60.r4.toArray false) .ret)))))
theorem F60.calls (hn : args.size ≤ 31) (h : cwE Tryz.prog F60.code (fnP Tryz.prog #[(.tmp 2)] R) (entry args) w) : Calls Tryz.prog 60 args w R :=
  calls_of_cwE (types := Tryz.prog.types) follows Tryz.func60 F60.code rfl (by kernel_rfl) hn h

def F61.r0 : List Oper := [
  op 2 (.assign (.const (.int .i64 0))) 3,
  op 3 (.assign (.const (.bool false))) 4]
def F61.r1 : List Oper := [
  op 4 (.assign (.const (.int .i64 0))) 3]
def F61.r2 : List Oper := [
  op 5 (.move (.tmp 4)) 3,
  op 6 (.move (.tmp 0)) 28,
  op 7 (.nilCheck (.tmp 6)) 0,
  op 8 (.fieldAddr 61 (.tmp 7) 0) 0,
  od 9 (.load 59 (.tmp 8)) 59,
  op 10 (.call ⟨(.builtin .len), #[(.tmp 9)], #[59]⟩) 3,
  op 11 (.binOp .lss 3 (.tmp 5) (.tmp 10) 3) 4]
def F61.r4 : List Oper := [
  ⟨(some 14), (.move (.tmp 0)), 28, "", #[], none⟩,
  ⟨(some 15), (.nilCheck (.tmp 14)), 0, "", #[], none⟩,
  ⟨(some 16), (.fieldAddr 61 (.tmp 15) 1), 0, "", #[], none⟩,
  ⟨(some 18), (.move (.tmp 0)), 28, "", #[], none⟩,
  ⟨(some 19), (.nilCheck (.tmp 18)), 0, "", #[], none⟩,
  ⟨(some 20), (.fieldAddr 61 (.tmp 19) 0), 0, "", #[], none⟩,
  ⟨(some 22), (.move (.tmp 4)), 3, "", #[], none⟩,
  ⟨(some 26), (.build 40 #[]), 40, "", #[], none⟩,
  ⟨(some 17), (.load 59 (.tmp 16)), 59, "", #[⟨8192, .data⟩], none⟩,
  ⟨(some 21), (.load 59 (.tmp 20)), 59, "", #[⟨8192, .data⟩], none⟩,
  ⟨(some 23), (.indexAddr 59 (.tmp 21) (.tmp 22)), 0, "", #[], none⟩,
  ⟨(some 24), (.fieldAddr 84 (.tmp 23) 0), 0, "", #[], none⟩,
  ⟨(some 25), (.load 3 (.tmp 24)), 3, "", #[⟨8192, .data⟩], none⟩,
  ⟨(some 27), (.call ⟨(.value (.func 42)), #[(.tmp 17), (.tmp 25), (.tmp 26), (.const (.bool true))], #[59, 3, 40, 4]⟩), 3, "", #[⟨13, .chain⟩], none⟩,
  ⟨(some 28), (.binOp .lss 3 (.tmp 27) (.const (.int .i64 0)) 3), 4, "", #[], none⟩]
def F61.r5 : List Oper := [
  op 29 (.move (.tmp 0)) 28,
  op 30 (.nilCheck (.tmp 29)) 0,
  op 31 (.fieldAddr 61 (.tmp 30) 0) 0,
  od 32 (.load 59 (.tmp 31)) 59,
  op 33 (.move (.tmp 4)) 3,
  op 34 (.indexAddr 59 (.tmp 32) (.tmp 33)) 0,
  op 35 (.fieldAddr 84 (.tmp 34) 0) 0,
  od 36 (.load 3 (.tmp 35)) 3,
  op 2 (.assign (.tmp 36)) 3,
  op 3 (.assign (.const (.bool true))) 4]
def F61.r3 : List Oper := [
  op 12 (.move (.tmp 4)) 3,
  op 13 (.binOp .add 3 (.tmp 12) (.const (.int .i64 1)) 3) 3,
  op 4 (.assign (.tmp 13)) 3]
def F61.r6 : List Oper := [
  op 2 (.assign (.const (.int .i64 0))) 3,
  op 3 (.assign (.const (.bool false))) 4]
def F61.t3 : Cd := (.region 3 F61.r3.toArray false)
theorem F61.t3_eq {θ : Tag (F61.t3, Q, e, w)} : cwE P F61.t3 Q e w θ = cwE P (.region 3 F61.r3.toArray false) Q e w := rfl
def F61.t4 : Cd := (.seq (.block 1 (.seq (.region 4 F61.r4.toArray true) (.cond (.tmp 28) (.seq (.region 5 F61.r5.toArray false) .ret) .skip))) F61.t3)
theorem F61.t4_eq {θ : Tag (F61.t4, Q, e, w)} : cwE P F61.t4 Q e w θ = cwE P (.seq (.block 1 (.seq (.region 4 F61.r4.toArray true) (.cond (.tmp 28) (.seq (.region 5 F61.r5.toArray false) .ret) .skip))) F61.t3) Q e w := rfl
def F61.t6 : Cd := (.seq (.region 6 F61.r6.toArray false) .ret)
theorem F61.t6_eq {θ : Tag (F61.t6, Q, e, w)} : cwE P F61.t6 Q e w θ = cwE P (.seq (.region 6 F61.r6.toArray false) .ret) Q e w := rfl
def F61.code : Cd := (.seq (.region 0 F61.r0.toArray false) (.seq (.seq (.region 1 F61.r1.toArray false) (.block 0 (.loop (.seq (.seq (.region 2 F61.r2.toArray false) (.cond (.tmp 11) .skip (.exit 0))) F61.t4)))) F61.t6))
theorem F61.calls (hn : args.size ≤ 37) (h : cwE Tryz.prog F61.code (fnP Tryz.prog #[(.tmp 2), (.tmp 3)] R) (entry args) w) : Calls Tryz.prog 61 args w R :=
  calls_of_cwE (types := Tryz.prog.types) follows Tryz.func61 F61.code rfl (by kernel_rfl) hn h

def F62.r0 : List Oper := [
  oc 2 (.alloc 42) 0]
def F62.r1 : List Oper := [
  op 3 (.move (.tmp 0)) 3,
  op 4 (.unOp .neg 3 (.tmp 3)) 3,
  op 5 (.build 40 #[(1, (.tmp 4))]) 40,
  op 6 (.build 42 #[(0, (.tmp 5))]) 42,
  ⟨none, (.store 42 (.tmp 2) (.tmp 6)), 0, "", #[⟨0, .chain⟩], none⟩]
def F62.code : Cd := (.seq (.region 0 F62.r0.toArray false) (.seq (.region 1 F62.r1.toArray false) .ret))
theorem F62.calls (hn : args.size ≤ 7) (h : cwE Tryz.prog F62.code (fnP Tryz.prog #[(.cell 2 42)] R) (entry args) w) : Calls Tryz.prog 62 args w R :=
  calls_of_cwE (types := Tryz.prog.types) follows Tryz.func62 F62.code rfl (by kernel_rfl) hn h

end Go.Proofs.YtacmnfpgimgigaaGreat

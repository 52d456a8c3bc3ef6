/- The compiled code of the functions, by program (genir.py): each with the theorem that it is what the engine makes of the loaded program's. -/
import Derived.Test.YtljndiligbaljaaSl2
import Derived.Test.YtljndiligbaljaaProg
namespace Go.Proofs.Ytljndiligbaljaa
open Go
set_option maxRecDepth 100000

theorem follows : Try.prog.follows .mixedOrders = true := by kernel_rfl

theorem fact_aggSz_122 : aggSz Try.prog 122 = some none := by kernel_rfl
theorem fact_aggSz_22 : aggSz Try.prog 22 = some none := by kernel_rfl
theorem fact_aggSz_28 : aggSz Try.prog 28 = some none := by kernel_rfl
theorem fact_aggSz_3 : aggSz Try.prog 3 = some none := by kernel_rfl
theorem fact_aggSz_32 : aggSz Try.prog 32 = some none := by kernel_rfl
theorem fact_aggSz_35 : aggSz Try.prog 35 = some none := by kernel_rfl
theorem fact_aggSz_36 : aggSz Try.prog 36 = some none := by kernel_rfl
theorem fact_aggSz_37 : aggSz Try.prog 37 = some none := by kernel_rfl
theorem fact_aggSz_38 : aggSz Try.prog 38 = some none := by kernel_rfl
theorem fact_aggSz_39 : aggSz Try.prog 39 = some none := by kernel_rfl
theorem fact_aggSz_4 : aggSz Try.prog 4 = some none := by kernel_rfl
theorem fact_aggSz_41 : aggSz Try.prog 41 = some (some 7) := by kernel_rfl
theorem fact_aggSz_43 : aggSz Try.prog 43 = some (some 14) := by kernel_rfl
theorem fact_aggSz_45 : aggSz Try.prog 45 = some (some 21) := by kernel_rfl
theorem fact_aggSz_48 : aggSz Try.prog 48 = some (some 15) := by kernel_rfl
theorem fact_aggSz_5 : aggSz Try.prog 5 = some none := by kernel_rfl
theorem fact_aggSz_86 : aggSz Try.prog 86 = some none := by kernel_rfl
theorem fact_aggSz_9 : aggSz Try.prog 9 = some none := by kernel_rfl
theorem fact_arrEx_9 : arrEx Try.prog 9 = (0, none) := by kernel_rfl
theorem fact_bldP_43 : bldP Try.prog 43 = some ([.int .u8 0, .int .u64 0, .string ⟨#[]⟩, .int .u8 0, .bool false, .int .u64 0, .int .u64 0, .string ⟨#[]⟩, .string ⟨#[]⟩, .int .u64 0, .int .u64 0, .int .u8 0, .int .i64 0, .slice none 0 0], some [(0, 1), (1, 1), (2, 1), (3, 1), (4, 1), (5, 1), (6, 1), (7, 7)], 0) := by kernel_rfl
theorem fact_bldP_48 : bldP Try.prog 48 = some ([.int .u32 0, .int .u8 0, .int .u64 0, .string ⟨#[]⟩, .int .u8 0, .bool false, .int .u64 0, .int .u64 0, .string ⟨#[]⟩, .string ⟨#[]⟩, .int .u64 0, .int .u64 0, .int .u8 0, .int .i64 0, .slice none 0 0], some [(0, 1), (1, 14)], 0) := by kernel_rfl
theorem fact_bldP_88 : bldP Try.prog 88 = some ([.int .i64 0, .map none], some [(0, 1), (1, 1)], 0) := by kernel_rfl
theorem fact_elemOf_25 : elemOf? Try.prog 25 = some (none, 21) := by kernel_rfl
theorem fact_elemOf_28 : elemOf? Try.prog 28 = some (none, 15) := by kernel_rfl
theorem fact_elemOf_32 : elemOf? Try.prog 32 = some (none, 1) := by kernel_rfl
theorem fact_fieldOff_41_0 : fieldOff Try.prog 41 0 = some 0 := by kernel_rfl
theorem fact_fieldOff_41_1 : fieldOff Try.prog 41 1 = some 1 := by kernel_rfl
theorem fact_fieldOff_41_2 : fieldOff Try.prog 41 2 = some 2 := by kernel_rfl
theorem fact_fieldOff_41_3 : fieldOff Try.prog 41 3 = some 3 := by kernel_rfl
theorem fact_fieldOff_41_4 : fieldOff Try.prog 41 4 = some 4 := by kernel_rfl
theorem fact_fieldOff_41_5 : fieldOff Try.prog 41 5 = some 5 := by kernel_rfl
theorem fact_fieldOff_41_6 : fieldOff Try.prog 41 6 = some 6 := by kernel_rfl
theorem fact_fieldOff_43_0 : fieldOff Try.prog 43 0 = some 0 := by kernel_rfl
theorem fact_fieldOff_43_1 : fieldOff Try.prog 43 1 = some 1 := by kernel_rfl
theorem fact_fieldOff_43_2 : fieldOff Try.prog 43 2 = some 2 := by kernel_rfl
theorem fact_fieldOff_43_3 : fieldOff Try.prog 43 3 = some 3 := by kernel_rfl
theorem fact_fieldOff_43_4 : fieldOff Try.prog 43 4 = some 4 := by kernel_rfl
theorem fact_fieldOff_43_5 : fieldOff Try.prog 43 5 = some 5 := by kernel_rfl
theorem fact_fieldOff_43_6 : fieldOff Try.prog 43 6 = some 6 := by kernel_rfl
theorem fact_fieldOff_43_7 : fieldOff Try.prog 43 7 = some 7 := by kernel_rfl
theorem fact_fieldOff_45_0 : fieldOff Try.prog 45 0 = some 0 := by kernel_rfl
theorem fact_fieldOff_45_1 : fieldOff Try.prog 45 1 = some 1 := by kernel_rfl
theorem fact_fieldOff_45_2 : fieldOff Try.prog 45 2 = some 2 := by kernel_rfl
theorem fact_fieldOff_45_3 : fieldOff Try.prog 45 3 = some 3 := by kernel_rfl
theorem fact_fieldOff_45_4 : fieldOff Try.prog 45 4 = some 17 := by kernel_rfl
theorem fact_fieldOff_45_5 : fieldOff Try.prog 45 5 = some 18 := by kernel_rfl
theorem fact_fieldOff_45_6 : fieldOff Try.prog 45 6 = some 19 := by kernel_rfl
theorem fact_fieldOff_45_7 : fieldOff Try.prog 45 7 = some 20 := by kernel_rfl
theorem fact_fieldOff_48_0 : fieldOff Try.prog 48 0 = some 0 := by kernel_rfl
theorem fact_fieldOff_48_1 : fieldOff Try.prog 48 1 = some 1 := by kernel_rfl
theorem fact_fieldOff_88_0 : fieldOff Try.prog 88 0 = some 0 := by kernel_rfl
theorem fact_fieldOff_88_1 : fieldOff Try.prog 88 1 = some 1 := by kernel_rfl
theorem fact_fnOk_10 : fnOk Try.prog 10 = true := by kernel_rfl
theorem fact_fnOk_11 : fnOk Try.prog 11 = true := by kernel_rfl
theorem fact_fnOk_12 : fnOk Try.prog 12 = true := by kernel_rfl
theorem fact_fnOk_13 : fnOk Try.prog 13 = true := by kernel_rfl
theorem fact_fnOk_14 : fnOk Try.prog 14 = true := by kernel_rfl
theorem fact_fnOk_15 : fnOk Try.prog 15 = true := by kernel_rfl
theorem fact_fnOk_16 : fnOk Try.prog 16 = true := by kernel_rfl
theorem fact_fnOk_17 : fnOk Try.prog 17 = true := by kernel_rfl
theorem fact_fnOk_18 : fnOk Try.prog 18 = true := by kernel_rfl
theorem fact_fnOk_19 : fnOk Try.prog 19 = true := by kernel_rfl
theorem fact_fnOk_20 : fnOk Try.prog 20 = true := by kernel_rfl
theorem fact_fnOk_21 : fnOk Try.prog 21 = true := by kernel_rfl
theorem fact_fnOk_22 : fnOk Try.prog 22 = true := by kernel_rfl
theorem fact_fnOk_25 : fnOk Try.prog 25 = true := by kernel_rfl
theorem fact_fnOk_30 : fnOk Try.prog 30 = true := by kernel_rfl
theorem fact_fnOk_31 : fnOk Try.prog 31 = true := by kernel_rfl
theorem fact_fnOk_32 : fnOk Try.prog 32 = true := by kernel_rfl
theorem fact_fnOk_33 : fnOk Try.prog 33 = true := by kernel_rfl
theorem fact_fnOk_34 : fnOk Try.prog 34 = true := by kernel_rfl
theorem fact_fnOk_35 : fnOk Try.prog 35 = true := by kernel_rfl
theorem fact_fnOk_36 : fnOk Try.prog 36 = true := by kernel_rfl
theorem fact_fnOk_37 : fnOk Try.prog 37 = true := by kernel_rfl
theorem fact_fnOk_38 : fnOk Try.prog 38 = true := by kernel_rfl
theorem fact_fnOk_39 : fnOk Try.prog 39 = true := by kernel_rfl
theorem fact_fnOk_40 : fnOk Try.prog 40 = true := by kernel_rfl
theorem fact_fnOk_41 : fnOk Try.prog 41 = true := by kernel_rfl
theorem fact_fnOk_54 : fnOk Try.prog 54 = true := by kernel_rfl
theorem fact_fnOk_55 : fnOk Try.prog 55 = true := by kernel_rfl
theorem fact_fnOk_56 : fnOk Try.prog 56 = true := by kernel_rfl
theorem fact_fnOk_57 : fnOk Try.prog 57 = true := by kernel_rfl
theorem fact_fnOk_69 : fnOk Try.prog 69 = true := by kernel_rfl
theorem fact_fnOk_70 : fnOk Try.prog 70 = true := by kernel_rfl
theorem fact_fnOk_71 : fnOk Try.prog 71 = true := by kernel_rfl
theorem fact_fnOk_74 : fnOk Try.prog 74 = true := by kernel_rfl
theorem fact_fnOk_75 : fnOk Try.prog 75 = true := by kernel_rfl
theorem fact_fnOk_76 : fnOk Try.prog 76 = true := by kernel_rfl
theorem fact_fnOk_77 : fnOk Try.prog 77 = true := by kernel_rfl
theorem fact_fnOk_78 : fnOk Try.prog 78 = true := by kernel_rfl
theorem fact_fnOk_79 : fnOk Try.prog 79 = true := by kernel_rfl
theorem fact_fnOk_80 : fnOk Try.prog 80 = true := by kernel_rfl
theorem fact_fnOk_81 : fnOk Try.prog 81 = true := by kernel_rfl
theorem fact_fnOk_82 : fnOk Try.prog 82 = true := by kernel_rfl
theorem fact_fnOk_83 : fnOk Try.prog 83 = true := by kernel_rfl
theorem fact_fnOk_84 : fnOk Try.prog 84 = true := by kernel_rfl
theorem fact_fnOk_85 : fnOk Try.prog 85 = true := by kernel_rfl
theorem fact_fnOk_86 : fnOk Try.prog 86 = true := by kernel_rfl
theorem fact_fnOk_87 : fnOk Try.prog 87 = true := by kernel_rfl
theorem fact_fnOk_88 : fnOk Try.prog 88 = true := by kernel_rfl
theorem fact_fnOk_89 : fnOk Try.prog 89 = true := by kernel_rfl
theorem fact_fnOk_9 : fnOk Try.prog 9 = true := by kernel_rfl
theorem fact_fnOk_90 : fnOk Try.prog 90 = true := by kernel_rfl
theorem fact_fnOk_91 : fnOk Try.prog 91 = true := by kernel_rfl
theorem fact_fnOk_92 : fnOk Try.prog 92 = true := by kernel_rfl
theorem fact_fnOk_93 : fnOk Try.prog 93 = true := by kernel_rfl
theorem fact_fnOk_94 : fnOk Try.prog 94 = true := by kernel_rfl
theorem fact_rowTy_28 : rowTy Try.prog 28 = some (48, 15, 152, [.int .u32 0, .int .u8 0, .int .u64 0, .string ⟨#[]⟩, .int .u8 0, .bool false, .int .u64 0, .int .u64 0, .string ⟨#[]⟩, .string ⟨#[]⟩, .int .u64 0, .int .u64 0, .int .u8 0, .int .i64 0, .slice none 0 0]) := by kernel_rfl
theorem fact_rowTy_32 : rowTy Try.prog 32 = some (35, 1, 4, [.int .u32 0]) := by kernel_rfl
theorem fact_rowTy_39 : rowTy Try.prog 39 = some (5, 1, 1, [.int .u8 0]) := by kernel_rfl
theorem fact_szO_122 : szO Try.prog 122 = some 1 := by kernel_rfl
theorem fact_szO_28 : szO Try.prog 28 = some 1 := by kernel_rfl
theorem fact_szO_3 : szO Try.prog 3 = some 1 := by kernel_rfl
theorem fact_szO_32 : szO Try.prog 32 = some 1 := by kernel_rfl
theorem fact_szO_35 : szO Try.prog 35 = some 1 := by kernel_rfl
theorem fact_szO_37 : szO Try.prog 37 = some 1 := by kernel_rfl
theorem fact_szO_39 : szO Try.prog 39 = some 1 := by kernel_rfl
theorem fact_szO_41 : szO Try.prog 41 = some 7 := by kernel_rfl
theorem fact_szO_43 : szO Try.prog 43 = some 14 := by kernel_rfl
theorem fact_szO_45 : szO Try.prog 45 = some 21 := by kernel_rfl
theorem fact_szO_48 : szO Try.prog 48 = some 15 := by kernel_rfl
theorem fact_zeroV_122 : zeroV Try.prog 122 = some (.int .u64 0) := by kernel_rfl
theorem fact_zeroV_28 : zeroV Try.prog 28 = some (.slice none 0 0) := by kernel_rfl
theorem fact_zeroV_3 : zeroV Try.prog 3 = some (.int .i64 0) := by kernel_rfl
theorem fact_zeroV_41 : zeroV Try.prog 41 = some (.agg #[.string ⟨#[]⟩, .string ⟨#[]⟩, .int .u64 0, .int .u64 0, .int .u8 0, .int .i64 0, .slice none 0 0]) := by kernel_rfl
theorem fact_zeroV_43 : zeroV Try.prog 43 = some (.agg #[.int .u8 0, .int .u64 0, .string ⟨#[]⟩, .int .u8 0, .bool false, .int .u64 0, .int .u64 0, .string ⟨#[]⟩, .string ⟨#[]⟩, .int .u64 0, .int .u64 0, .int .u8 0, .int .i64 0, .slice none 0 0]) := by kernel_rfl
theorem fact_zeroV_45 : zeroV Try.prog 45 = some (.agg #[.int .i64 0, .int .u32 0, .int .u32 0, .int .u8 0, .int .u64 0, .string ⟨#[]⟩, .int .u8 0, .bool false, .int .u64 0, .int .u64 0, .string ⟨#[]⟩, .string ⟨#[]⟩, .int .u64 0, .int .u64 0, .int .u8 0, .int .i64 0, .slice none 0 0, .int .u64 0, .int .u64 0, .int .u8 0, .bool false]) := by kernel_rfl
theorem fact_zeroV_48 : zeroV Try.prog 48 = some (.agg #[.int .u32 0, .int .u8 0, .int .u64 0, .string ⟨#[]⟩, .int .u8 0, .bool false, .int .u64 0, .int .u64 0, .string ⟨#[]⟩, .string ⟨#[]⟩, .int .u64 0, .int .u64 0, .int .u8 0, .int .i64 0, .slice none 0 0]) := by kernel_rfl

def F3.r0 : List Oper := [
  ⟨(some 0), (.assign (.const (.bool false))), 4, "", #[], none⟩]
def F3.r1 : List Oper := [
  ⟨(some 2), (.call ⟨(.value (.func 9)), #[(.const (.int .i64 3))], #[3]⟩), 22, "", #[⟨0, .chain⟩], none⟩,
  ⟨(some 1), (.assign (.tmp 2)), 22, "", #[], none⟩]
def F3.r2 : List Oper := [
  ⟨(some 3), (.move (.tmp 1)), 22, "", #[], none⟩,
  ⟨(some 4), (.binOp .neq 22 (.tmp 3) (.const (.pointer none)) 22), 4, "", #[], none⟩,
  ⟨(some 5), (.move (.tmp 4)), 4, "", #[], none⟩,
  ⟨(some 6), (.pick (.tmp 5) (.const (.bool true)) (.const (.bool false))), 4, "", #[], none⟩,
  ⟨(some 7), (.move (.tmp 6)), 4, "", #[], none⟩,
  ⟨(some 8), (.pick (.tmp 7) (.const (.bool true)) (.const (.bool false))), 4, "", #[], none⟩,
  ⟨(some 9), (.move (.tmp 8)), 4, "", #[], none⟩,
  ⟨(some 10), (.pick (.tmp 9) (.const (.bool true)) (.const (.bool false))), 4, "", #[], none⟩,
  ⟨(some 11), (.move (.tmp 10)), 4, "", #[], none⟩,
  ⟨(some 12), (.pick (.tmp 11) (.const (.bool true)) (.const (.bool false))), 4, "", #[], none⟩,
  ⟨(some 13), (.move (.tmp 12)), 4, "", #[], none⟩,
  ⟨(some 14), (.pick (.tmp 13) (.const (.bool true)) (.const (.bool false))), 4, "", #[], none⟩,
  ⟨(some 15), (.move (.tmp 14)), 4, "", #[], none⟩,
  ⟨(some 16), (.pick (.tmp 15) (.const (.bool true)) (.const (.bool false))), 4, "", #[], none⟩,
  ⟨(some 17), (.move (.tmp 16)), 4, "", #[], none⟩,
  ⟨(some 18), (.pick (.tmp 17) (.const (.bool true)) (.const (.bool false))), 4, "", #[], none⟩,
  ⟨(some 19), (.move (.tmp 18)), 4, "", #[], none⟩,
  ⟨(some 20), (.pick (.tmp 19) (.const (.bool true)) (.const (.bool false))), 4, "", #[], none⟩,
  ⟨(some 21), (.move (.tmp 20)), 4, "", #[], none⟩,
  ⟨(some 22), (.pick (.tmp 21) (.const (.bool true)) (.const (.bool false))), 4, "", #[], none⟩,
  ⟨(some 23), (.move (.tmp 22)), 4, "", #[], none⟩,
  ⟨(some 24), (.pick (.tmp 23) (.const (.bool true)) (.const (.bool false))), 4, "", #[], none⟩,
  ⟨(some 25), (.move (.tmp 24)), 4, "", #[], none⟩,
  ⟨(some 26), (.pick (.tmp 25) (.const (.bool true)) (.const (.bool false))), 4, "", #[], none⟩,
  ⟨(some 27), (.move (.tmp 26)), 4, "", #[], none⟩,
  ⟨(some 28), (.pick (.tmp 27) (.const (.bool true)) (.const (.bool false))), 4, "", #[], none⟩,
  ⟨(some 29), (.move (.tmp 28)), 4, "", #[], none⟩,
  ⟨(some 30), (.pick (.tmp 29) (.const (.bool true)) (.const (.bool false))), 4, "", #[], none⟩,
  ⟨(some 0), (.assign (.tmp 30)), 4, "", #[], none⟩]
def F3.code : Cd := (.seq (.region 0 F3.r0.toArray false) (.seq (.region 1 F3.r1.toArray false) (.seq (.region 2 F3.r2.toArray false) .ret)))
theorem F3.calls {args : Array Value} {w : World} {R : Ending → World → Prop} (hn : args.size ≤ 31) (h : cwE Try.prog F3.code (fnP Try.prog #[(.tmp 0)] R) (entry args) w) : Calls Try.prog 3 args w R :=
  calls_of_cwE (types := Try.prog.types) follows Try.func3 F3.code rfl (by kernel_rfl) hn h

def F4.r0 : List Oper := [
  ⟨(some 4), (.assign (.const (.bool false))), 4, "", #[], none⟩]
def F4.r1 : List Oper := [
  ⟨(some 22), (.move (.tmp 0)), 3, "", #[], none⟩,
  ⟨(some 23), (.call ⟨(.value (.func 10)), #[(.tmp 22)], #[3]⟩), 3, "", #[⟨0, .chain⟩], none⟩,
  ⟨(some 24), (.call ⟨(.value (.func 9)), #[(.tmp 23)], #[3]⟩), 22, "", #[⟨0, .chain⟩], none⟩,
  ⟨(some 5), (.assign (.tmp 24)), 22, "", #[], none⟩]
def F4.r2 : List Oper := [
  ⟨(some 25), (.move (.tmp 1)), 25, "", #[], none⟩,
  ⟨(some 26), (.call ⟨(.value (.func 11)), #[(.tmp 25)], #[25]⟩), 4, "", #[⟨0, .chain⟩], none⟩,
  ⟨(some 6), (.assign (.tmp 26)), 4, "", #[], none⟩]
def F4.r3 : List Oper := [
  ⟨(some 27), (.move (.tmp 6)), 4, "", #[], none⟩]
def F4.r4 : List Oper := [
  ⟨(some 28), (.move (.tmp 5)), 22, "", #[], none⟩,
  ⟨(some 29), (.binOp .neq 22 (.tmp 28) (.const (.pointer none)) 22), 4, "", #[], none⟩,
  ⟨(some 4), (.assign (.tmp 29)), 4, "", #[], none⟩]
def F4.r5 : List Oper := [
  ⟨(some 30), (.move (.tmp 5)), 22, "", #[], none⟩,
  ⟨(some 31), (.binOp .eql 22 (.tmp 30) (.const (.pointer none)) 22), 4, "", #[], none⟩]
def F4.r6 : List Oper := [
  ⟨(some 4), (.assign (.const (.bool false))), 4, "", #[], none⟩]
def F4.r7 : List Oper := [
  ⟨(some 7), (.assign (.const (.int .i64 0))), 3, "", #[], none⟩]
def F4.r8 : List Oper := [
  ⟨(some 32), (.move (.tmp 7)), 3, "", #[], none⟩,
  ⟨(some 33), (.move (.tmp 1)), 25, "", #[], none⟩,
  ⟨(some 34), (.call ⟨(.builtin .len), #[(.tmp 33)], #[25]⟩), 3, "", #[], none⟩,
  ⟨(some 35), (.binOp .lss 3 (.tmp 32) (.tmp 34) 3), 4, "", #[], none⟩,
  ⟨(some 36), (.move (.tmp 35)), 4, "", #[], none⟩,
  ⟨(some 37), (.move (.tmp 7)), 3, "", #[], (some (36, true))⟩,
  ⟨(some 38), (.binOp .lss 3 (.tmp 37) (.const (.int .i64 300)) 3), 4, "", #[], (some (36, true))⟩,
  ⟨(some 39), (.pick (.tmp 36) (.tmp 38) (.const (.bool false))), 4, "", #[], none⟩]
def F4.r10 : List Oper := [
  ⟨(some 43), (.move (.tmp 5)), 22, "", #[], none⟩,
  ⟨(some 44), (.call ⟨(.value (.func 12)), #[(.tmp 43)], #[22]⟩), 29, "", #[⟨0, .chain⟩], none⟩,
  ⟨(some 42), (.move (.tmp 44)), 29, "", #[], none⟩,
  ⟨(some 45), (.extract (.tmp 42) 0), 28, "", #[], none⟩,
  ⟨(some 46), (.extract (.tmp 42) 1), 4, "", #[], none⟩,
  ⟨(some 8), (.assign (.tmp 45)), 28, "", #[], none⟩,
  ⟨(some 9), (.assign (.tmp 46)), 4, "", #[], none⟩]
def F4.r11 : List Oper := [
  ⟨(some 48), (.move (.tmp 5)), 22, "", #[], none⟩,
  ⟨(some 49), (.move (.tmp 1)), 25, "", #[], none⟩,
  ⟨(some 50), (.move (.tmp 7)), 3, "", #[], none⟩,
  ⟨(some 51), (.indexAddr 25 (.tmp 49) (.tmp 50)), 0, "", #[], none⟩,
  ⟨(some 52), (.load 45 (.tmp 51)), 45, "", #[⟨0, .data⟩], none⟩,
  ⟨(some 53), (.call ⟨(.value (.func 13)), #[(.tmp 48), (.tmp 52)], #[22, 45]⟩), 33, "", #[⟨0, .chain⟩], none⟩,
  ⟨(some 47), (.move (.tmp 53)), 33, "", #[], none⟩,
  ⟨(some 54), (.extract (.tmp 47) 0), 31, "", #[], none⟩,
  ⟨(some 55), (.extract (.tmp 47) 1), 32, "", #[], none⟩,
  ⟨(some 10), (.assign (.tmp 54)), 31, "", #[], none⟩,
  ⟨(some 11), (.assign (.tmp 55)), 32, "", #[], none⟩]
def F4.r12 : List Oper := [
  ⟨(some 57), (.move (.tmp 5)), 22, "", #[], none⟩,
  ⟨(some 58), (.call ⟨(.value (.func 12)), #[(.tmp 57)], #[22]⟩), 29, "", #[⟨0, .chain⟩], none⟩,
  ⟨(some 56), (.move (.tmp 58)), 29, "", #[], none⟩,
  ⟨(some 59), (.extract (.tmp 56) 0), 28, "", #[], none⟩,
  ⟨(some 60), (.extract (.tmp 56) 1), 4, "", #[], none⟩,
  ⟨(some 12), (.assign (.tmp 59)), 28, "", #[], none⟩,
  ⟨(some 13), (.assign (.tmp 60)), 4, "", #[], none⟩]
def F4.r13 : List Oper := [
  ⟨(some 61), (.move (.tmp 9)), 4, "", #[], none⟩,
  ⟨(some 62), (.unOp .not 4 (.tmp 61)), 4, "", #[], none⟩,
  ⟨(some 63), (.move (.tmp 62)), 4, "", #[], none⟩,
  ⟨(some 64), (.move (.tmp 13)), 4, "", #[], (some (63, false))⟩,
  ⟨(some 65), (.unOp .not 4 (.tmp 64)), 4, "", #[], (some (63, false))⟩,
  ⟨(some 66), (.pick (.tmp 63) (.const (.bool true)) (.tmp 65)), 4, "", #[], none⟩,
  ⟨(some 67), (.move (.tmp 66)), 4, "", #[], none⟩,
  ⟨(some 68), (.move (.tmp 12)), 28, "", #[], (some (67, false))⟩,
  ⟨(some 69), (.call ⟨(.builtin .len), #[(.tmp 68)], #[28]⟩), 3, "", #[], (some (67, false))⟩,
  ⟨(some 70), (.move (.tmp 0)), 3, "", #[], (some (67, false))⟩,
  ⟨(some 71), (.call ⟨(.value (.func 10)), #[(.tmp 70)], #[3]⟩), 3, "", #[⟨0, .chain⟩], (some (67, false))⟩,
  ⟨(some 72), (.binOp .gtr 3 (.tmp 69) (.tmp 71) 3), 4, "", #[], (some (67, false))⟩,
  ⟨(some 73), (.pick (.tmp 67) (.const (.bool true)) (.tmp 72)), 4, "", #[], none⟩,
  ⟨(some 74), (.move (.tmp 73)), 4, "", #[], none⟩,
  ⟨(some 75), (.move (.tmp 12)), 28, "", #[], (some (74, false))⟩,
  ⟨(some 76), (.call ⟨(.builtin .len), #[(.tmp 75)], #[28]⟩), 3, "", #[], (some (74, false))⟩,
  ⟨(some 77), (.move (.tmp 5)), 22, "", #[], (some (74, false))⟩,
  ⟨(some 78), (.call ⟨(.value (.func 14)), #[(.tmp 77)], #[22]⟩), 3, "", #[⟨0, .chain⟩], (some (74, false))⟩,
  ⟨(some 79), (.binOp .neq 3 (.tmp 76) (.tmp 78) 3), 4, "", #[], (some (74, false))⟩,
  ⟨(some 80), (.pick (.tmp 74) (.const (.bool true)) (.tmp 79)), 4, "", #[], none⟩]
def F4.r14 : List Oper := [
  ⟨(some 4), (.assign (.const (.bool false))), 4, "", #[], none⟩]
def F4.r15 : List Oper := [
  ⟨(some 81), (.move (.tmp 10)), 31, "", #[], none⟩,
  ⟨(some 82), (.binOp .neq 31 (.tmp 81) (.const (.int .i64 0)) 31), 4, "", #[], none⟩]
def F4.r16 : List Oper := [
  ⟨(some 11), (.assign (.const (.slice none 0 0))), 32, "", #[], none⟩]
def F4.r17 : List Oper := [
  ⟨(some 14), (.assign (.const (.int .i64 0))), 3, "", #[], none⟩]
def F4.r18 : List Oper := [
  ⟨(some 83), (.move (.tmp 14)), 3, "", #[], none⟩,
  ⟨(some 84), (.move (.tmp 12)), 28, "", #[], none⟩,
  ⟨(some 85), (.call ⟨(.builtin .len), #[(.tmp 84)], #[28]⟩), 3, "", #[], none⟩,
  ⟨(some 86), (.binOp .lss 3 (.tmp 83) (.tmp 85) 3), 4, "", #[], none⟩]
def F4.r20 : List Oper := [
  ⟨(some 89), (.move (.tmp 12)), 28, "", #[], none⟩,
  ⟨(some 90), (.move (.tmp 14)), 3, "", #[], none⟩,
  ⟨(some 91), (.indexAddr 28 (.tmp 89) (.tmp 90)), 0, "", #[], none⟩,
  ⟨(some 92), (.fieldAddr 48 (.tmp 91) 0), 0, "", #[], none⟩,
  ⟨(some 93), (.load 35 (.tmp 92)), 35, "", #[⟨0, .data⟩], none⟩,
  ⟨(some 15), (.assign (.tmp 93)), 35, "", #[], none⟩]
def F4.r21 : List Oper := [
  ⟨(some 94), (.move (.tmp 15)), 35, "", #[], none⟩,
  ⟨(some 95), (.binOp .eql 35 (.tmp 94) (.const (.int .u32 4294967295)) 35), 4, "", #[], none⟩,
  ⟨(some 96), (.move (.tmp 95)), 4, "", #[], none⟩,
  ⟨(some 97), (.move (.tmp 14)), 3, "", #[], (some (96, false))⟩,
  ⟨(some 98), (.binOp .gtr 3 (.tmp 97) (.const (.int .i64 0)) 3), 4, "", #[], (some (96, false))⟩,
  ⟨(some 99), (.move (.tmp 98)), 4, "", #[], (some (96, false))⟩,
  ⟨(some 100), (.move (.tmp 12)), 28, "", #[], (some (99, true))⟩,
  ⟨(some 101), (.move (.tmp 14)), 3, "", #[], (some (99, true))⟩,
  ⟨(some 102), (.binOp .sub 3 (.tmp 101) (.const (.int .i64 1)) 3), 3, "", #[], (some (99, true))⟩,
  ⟨(some 103), (.indexAddr 28 (.tmp 100) (.tmp 102)), 0, "", #[], (some (99, true))⟩,
  ⟨(some 104), (.fieldAddr 48 (.tmp 103) 0), 0, "", #[], (some (99, true))⟩,
  ⟨(some 105), (.load 35 (.tmp 104)), 35, "", #[⟨0, .data⟩], (some (99, true))⟩,
  ⟨(some 106), (.move (.tmp 15)), 35, "", #[], (some (99, true))⟩,
  ⟨(some 107), (.binOp .geq 35 (.tmp 105) (.tmp 106) 35), 4, "", #[], (some (99, true))⟩,
  ⟨(some 108), (.pick (.tmp 99) (.tmp 107) (.const (.bool false))), 4, "", #[], (some (96, false))⟩,
  ⟨(some 109), (.pick (.tmp 96) (.const (.bool true)) (.tmp 108)), 4, "", #[], none⟩]
def F4.r22 : List Oper := [
  ⟨(some 4), (.assign (.const (.bool false))), 4, "", #[], none⟩]
def F4.r23 : List Oper := [
  ⟨(some 111), (.move (.tmp 8)), 28, "", #[], none⟩,
  ⟨(some 112), (.move (.tmp 15)), 35, "", #[], none⟩,
  ⟨(some 113), (.call ⟨(.value (.func 15)), #[(.tmp 111), (.tmp 112)], #[28, 35]⟩), 49, "", #[⟨0, .chain⟩], none⟩,
  ⟨(some 110), (.move (.tmp 113)), 49, "", #[], none⟩,
  ⟨(some 114), (.extract (.tmp 110) 0), 43, "", #[], none⟩,
  ⟨(some 115), (.extract (.tmp 110) 1), 4, "", #[], none⟩,
  ⟨(some 16), (.alloc 43), 0, "", #[⟨0, .chain⟩], none⟩,
  ⟨none, (.store 43 (.tmp 16) (.tmp 114)), 0, "", #[⟨0, .chain⟩], none⟩,
  ⟨(some 17), (.assign (.tmp 115)), 4, "", #[], none⟩]
def F4.r24 : List Oper := [
  ⟨(some 116), (.move (.tmp 17)), 4, "", #[], none⟩,
  ⟨(some 117), (.move (.tmp 116)), 4, "", #[], none⟩,
  ⟨(some 119), (.move (.tmp 12)), 28, "", #[], (some (117, true))⟩,
  ⟨(some 120), (.move (.tmp 14)), 3, "", #[], (some (117, true))⟩,
  ⟨(some 121), (.indexAddr 28 (.tmp 119) (.tmp 120)), 0, "", #[], (some (117, true))⟩,
  ⟨(some 122), (.fieldAddr 48 (.tmp 121) 1), 0, "", #[], (some (117, true))⟩,
  ⟨(some 118), (.load 43 (.tmp 16)), 43, "", #[⟨256, .data⟩], (some (117, true))⟩,
  ⟨(some 123), (.load 43 (.tmp 122)), 43, "", #[⟨256, .data⟩], (some (117, true))⟩,
  ⟨(some 124), (.call ⟨(.value (.func 16)), #[(.tmp 118), (.tmp 123)], #[43, 43]⟩), 4, "", #[⟨8, .chain⟩], (some (117, true))⟩,
  ⟨(some 125), (.pick (.tmp 117) (.tmp 124) (.const (.bool false))), 4, "", #[], none⟩,
  ⟨(some 18), (.assign (.tmp 125)), 4, "", #[], none⟩]
def F4.r25 : List Oper := [
  ⟨(some 126), (.move (.tmp 18)), 4, "", #[], none⟩,
  ⟨(some 127), (.unOp .not 4 (.tmp 126)), 4, "", #[], none⟩,
  ⟨(some 128), (.move (.tmp 127)), 4, "", #[], none⟩,
  ⟨(some 129), (.move (.tmp 11)), 32, "", #[], (some (128, true))⟩,
  ⟨(some 130), (.move (.tmp 15)), 35, "", #[], (some (128, true))⟩,
  ⟨(some 131), (.call ⟨(.value (.func 17)), #[(.tmp 129), (.tmp 130)], #[32, 35]⟩), 4, "", #[⟨0, .chain⟩], (some (128, true))⟩,
  ⟨(some 132), (.unOp .not 4 (.tmp 131)), 4, "", #[], (some (128, true))⟩,
  ⟨(some 133), (.pick (.tmp 128) (.tmp 132) (.const (.bool false))), 4, "", #[], none⟩]
def F4.r26 : List Oper := [
  ⟨(some 4), (.assign (.const (.bool false))), 4, "", #[], none⟩]
def F4.r19 : List Oper := [
  ⟨(some 87), (.move (.tmp 14)), 3, "", #[], none⟩,
  ⟨(some 88), (.binOp .add 3 (.tmp 87) (.const (.int .i64 1)) 3), 3, "", #[], none⟩,
  ⟨(some 14), (.assign (.tmp 88)), 3, "", #[], none⟩]
def F4.r27 : List Oper := [
  ⟨(some 19), (.assign (.const (.int .i64 0))), 3, "", #[], none⟩]
def F4.r28 : List Oper := [
  ⟨(some 134), (.move (.tmp 19)), 3, "", #[], none⟩,
  ⟨(some 135), (.move (.tmp 8)), 28, "", #[], none⟩,
  ⟨(some 136), (.call ⟨(.builtin .len), #[(.tmp 135)], #[28]⟩), 3, "", #[], none⟩,
  ⟨(some 137), (.binOp .lss 3 (.tmp 134) (.tmp 136) 3), 4, "", #[], none⟩]
def F4.r30 : List Oper := [
  ⟨(some 141), (.move (.tmp 12)), 28, "", #[], none⟩,
  ⟨(some 142), (.move (.tmp 8)), 28, "", #[], none⟩,
  ⟨(some 143), (.move (.tmp 19)), 3, "", #[], none⟩,
  ⟨(some 144), (.indexAddr 28 (.tmp 142) (.tmp 143)), 0, "", #[], none⟩,
  ⟨(some 145), (.fieldAddr 48 (.tmp 144) 0), 0, "", #[], none⟩,
  ⟨(some 146), (.load 35 (.tmp 145)), 35, "", #[⟨0, .data⟩], none⟩,
  ⟨(some 147), (.call ⟨(.value (.func 15)), #[(.tmp 141), (.tmp 146)], #[28, 35]⟩), 49, "", #[⟨0, .chain⟩], none⟩,
  ⟨(some 140), (.move (.tmp 147)), 49, "", #[], none⟩,
  ⟨(some 148), (.extract (.tmp 140) 0), 43, "", #[], none⟩,
  ⟨(some 149), (.extract (.tmp 140) 1), 4, "", #[], none⟩,
  ⟨(some 20), (.alloc 43), 0, "", #[⟨0, .chain⟩], none⟩,
  ⟨none, (.store 43 (.tmp 20) (.tmp 148)), 0, "", #[⟨0, .chain⟩], none⟩,
  ⟨(some 21), (.assign (.tmp 149)), 4, "", #[], none⟩]
def F4.r31 : List Oper := [
  ⟨(some 150), (.move (.tmp 21)), 4, "", #[], none⟩,
  ⟨(some 151), (.unOp .not 4 (.tmp 150)), 4, "", #[], none⟩,
  ⟨(some 152), (.move (.tmp 151)), 4, "", #[], none⟩,
  ⟨(some 153), (.move (.tmp 11)), 32, "", #[], (some (152, true))⟩,
  ⟨(some 154), (.move (.tmp 8)), 28, "", #[], (some (152, true))⟩,
  ⟨(some 155), (.move (.tmp 19)), 3, "", #[], (some (152, true))⟩,
  ⟨(some 156), (.indexAddr 28 (.tmp 154) (.tmp 155)), 0, "", #[], (some (152, true))⟩,
  ⟨(some 157), (.fieldAddr 48 (.tmp 156) 0), 0, "", #[], (some (152, true))⟩,
  ⟨(some 158), (.load 35 (.tmp 157)), 35, "", #[⟨0, .data⟩], (some (152, true))⟩,
  ⟨(some 159), (.call ⟨(.value (.func 17)), #[(.tmp 153), (.tmp 158)], #[32, 35]⟩), 4, "", #[⟨0, .chain⟩], (some (152, true))⟩,
  ⟨(some 160), (.unOp .not 4 (.tmp 159)), 4, "", #[], (some (152, true))⟩,
  ⟨(some 161), (.pick (.tmp 152) (.tmp 160) (.const (.bool false))), 4, "", #[], none⟩]
def F4.r32 : List Oper := [
  ⟨(some 4), (.assign (.const (.bool false))), 4, "", #[], none⟩]
def F4.r29 : List Oper := [
  ⟨(some 138), (.move (.tmp 19)), 3, "", #[], none⟩,
  ⟨(some 139), (.binOp .add 3 (.tmp 138) (.const (.int .i64 1)) 3), 3, "", #[], none⟩,
  ⟨(some 19), (.assign (.tmp 139)), 3, "", #[], none⟩]
def F4.r9 : List Oper := [
  ⟨(some 40), (.move (.tmp 7)), 3, "", #[], none⟩,
  ⟨(some 41), (.binOp .add 3 (.tmp 40) (.const (.int .i64 1)) 3), 3, "", #[], none⟩,
  ⟨(some 7), (.assign (.tmp 41)), 3, "", #[], none⟩]
def F4.r33 : List Oper := [
  ⟨(some 4), (.assign (.const (.bool true))), 4, "", #[], none⟩]
def F4.t23 : Cd := (.seq (.region 23 F4.r23.toArray false) (.seq (.region 24 F4.r24.toArray true) (.seq (.region 25 F4.r25.toArray false) (.cond (.tmp 133) (.seq (.region 26 F4.r26.toArray false) .ret) .skip))))
theorem F4.t23_eq {P : Program} {Q : Post} {e : FA} {w : World} {θ : Tag (F4.t23, Q, e, w)} : cwE P F4.t23 Q e w θ = cwE P (.seq (.region 23 F4.r23.toArray false) (.seq (.region 24 F4.r24.toArray true) (.seq (.region 25 F4.r25.toArray false) (.cond (.tmp 133) (.seq (.region 26 F4.r26.toArray false) .ret) .skip)))) Q e w := rfl
def F4.t19 : Cd := (.region 19 F4.r19.toArray false)
theorem F4.t19_eq {P : Program} {Q : Post} {e : FA} {w : World} {θ : Tag (F4.t19, Q, e, w)} : cwE P F4.t19 Q e w θ = cwE P (.region 19 F4.r19.toArray false) Q e w := rfl
def F4.t20 : Cd := (.seq (.block 3 (.seq (.region 20 F4.r20.toArray false) (.seq (.seq (.region 21 F4.r21.toArray false) (.cond (.tmp 109) (.seq (.region 22 F4.r22.toArray false) .ret) .skip)) F4.t23))) F4.t19)
theorem F4.t20_eq {P : Program} {Q : Post} {e : FA} {w : World} {θ : Tag (F4.t20, Q, e, w)} : cwE P F4.t20 Q e w θ = cwE P (.seq (.block 3 (.seq (.region 20 F4.r20.toArray false) (.seq (.seq (.region 21 F4.r21.toArray false) (.cond (.tmp 109) (.seq (.region 22 F4.r22.toArray false) .ret) .skip)) F4.t23))) F4.t19) Q e w := rfl
def F4.t29 : Cd := (.region 29 F4.r29.toArray false)
theorem F4.t29_eq {P : Program} {Q : Post} {e : FA} {w : World} {θ : Tag (F4.t29, Q, e, w)} : cwE P F4.t29 Q e w θ = cwE P (.region 29 F4.r29.toArray false) Q e w := rfl
def F4.t30 : Cd := (.seq (.block 5 (.seq (.region 30 F4.r30.toArray false) (.seq (.region 31 F4.r31.toArray false) (.cond (.tmp 161) (.seq (.region 32 F4.r32.toArray false) .ret) .skip)))) F4.t29)
theorem F4.t30_eq {P : Program} {Q : Post} {e : FA} {w : World} {θ : Tag (F4.t30, Q, e, w)} : cwE P F4.t30 Q e w θ = cwE P (.seq (.block 5 (.seq (.region 30 F4.r30.toArray false) (.seq (.region 31 F4.r31.toArray false) (.cond (.tmp 161) (.seq (.region 32 F4.r32.toArray false) .ret) .skip)))) F4.t29) Q e w := rfl
def F4.t27 : Cd := (.seq (.region 27 F4.r27.toArray false) (.block 4 (.loop (.seq (.seq (.region 28 F4.r28.toArray false) (.cond (.tmp 137) .skip (.exit 4))) F4.t30))))
theorem F4.t27_eq {P : Program} {Q : Post} {e : FA} {w : World} {θ : Tag (F4.t27, Q, e, w)} : cwE P F4.t27 Q e w θ = cwE P (.seq (.region 27 F4.r27.toArray false) (.block 4 (.loop (.seq (.seq (.region 28 F4.r28.toArray false) (.cond (.tmp 137) .skip (.exit 4))) F4.t30)))) Q e w := rfl
def F4.t17 : Cd := (.seq (.seq (.region 17 F4.r17.toArray false) (.block 2 (.loop (.seq (.seq (.region 18 F4.r18.toArray false) (.cond (.tmp 86) .skip (.exit 2))) F4.t20)))) F4.t27)
theorem F4.t17_eq {P : Program} {Q : Post} {e : FA} {w : World} {θ : Tag (F4.t17, Q, e, w)} : cwE P F4.t17 Q e w θ = cwE P (.seq (.seq (.region 17 F4.r17.toArray false) (.block 2 (.loop (.seq (.seq (.region 18 F4.r18.toArray false) (.cond (.tmp 86) .skip (.exit 2))) F4.t20)))) F4.t27) Q e w := rfl
def F4.t15 : Cd := (.seq (.seq (.region 15 F4.r15.toArray false) (.cond (.tmp 82) (.region 16 F4.r16.toArray false) .skip)) F4.t17)
theorem F4.t15_eq {P : Program} {Q : Post} {e : FA} {w : World} {θ : Tag (F4.t15, Q, e, w)} : cwE P F4.t15 Q e w θ = cwE P (.seq (.seq (.region 15 F4.r15.toArray false) (.cond (.tmp 82) (.region 16 F4.r16.toArray false) .skip)) F4.t17) Q e w := rfl
def F4.t9 : Cd := (.region 9 F4.r9.toArray false)
theorem F4.t9_eq {P : Program} {Q : Post} {e : FA} {w : World} {θ : Tag (F4.t9, Q, e, w)} : cwE P F4.t9 Q e w θ = cwE P (.region 9 F4.r9.toArray false) Q e w := rfl
def F4.t10 : Cd := (.seq (.block 1 (.seq (.region 10 F4.r10.toArray false) (.seq (.region 11 F4.r11.toArray false) (.seq (.region 12 F4.r12.toArray false) (.seq (.seq (.region 13 F4.r13.toArray false) (.cond (.tmp 80) (.seq (.region 14 F4.r14.toArray false) .ret) .skip)) F4.t15))))) F4.t9)
theorem F4.t10_eq {P : Program} {Q : Post} {e : FA} {w : World} {θ : Tag (F4.t10, Q, e, w)} : cwE P F4.t10 Q e w θ = cwE P (.seq (.block 1 (.seq (.region 10 F4.r10.toArray false) (.seq (.region 11 F4.r11.toArray false) (.seq (.region 12 F4.r12.toArray false) (.seq (.seq (.region 13 F4.r13.toArray false) (.cond (.tmp 80) (.seq (.region 14 F4.r14.toArray false) .ret) .skip)) F4.t15))))) F4.t9) Q e w := rfl
def F4.t33 : Cd := (.seq (.region 33 F4.r33.toArray false) .ret)
theorem F4.t33_eq {P : Program} {Q : Post} {e : FA} {w : World} {θ : Tag (F4.t33, Q, e, w)} : cwE P F4.t33 Q e w θ = cwE P (.seq (.region 33 F4.r33.toArray false) .ret) Q e w := rfl
def F4.t7 : Cd := (.seq (.seq (.region 7 F4.r7.toArray false) (.block 0 (.loop (.seq (.seq (.region 8 F4.r8.toArray false) (.cond (.tmp 39) .skip (.exit 0))) F4.t10)))) F4.t33)
theorem F4.t7_eq {P : Program} {Q : Post} {e : FA} {w : World} {θ : Tag (F4.t7, Q, e, w)} : cwE P F4.t7 Q e w θ = cwE P (.seq (.seq (.region 7 F4.r7.toArray false) (.block 0 (.loop (.seq (.seq (.region 8 F4.r8.toArray false) (.cond (.tmp 39) .skip (.exit 0))) F4.t10)))) F4.t33) Q e w := rfl
def F4.t5 : Cd := (.seq (.seq (.region 5 F4.r5.toArray false) (.cond (.tmp 31) (.seq (.region 6 F4.r6.toArray false) .ret) .skip)) F4.t7)
theorem F4.t5_eq {P : Program} {Q : Post} {e : FA} {w : World} {θ : Tag (F4.t5, Q, e, w)} : cwE P F4.t5 Q e w θ = cwE P (.seq (.seq (.region 5 F4.r5.toArray false) (.cond (.tmp 31) (.seq (.region 6 F4.r6.toArray false) .ret) .skip)) F4.t7) Q e w := rfl
def F4.code : Cd := (.seq (.region 0 F4.r0.toArray false) (.seq (.region 1 F4.r1.toArray false) (.seq (.region 2 F4.r2.toArray false) (.seq (.seq (.region 3 F4.r3.toArray false) (.cond (.tmp 27) (.seq (.region 4 F4.r4.toArray false) .ret) .skip)) F4.t5))))
theorem F4.calls {args : Array Value} {w : World} {R : Ending → World → Prop} (hn : args.size ≤ 162) (h : cwE Try.prog F4.code (fnP Try.prog #[(.tmp 4)] R) (entry args) w) : Calls Try.prog 4 args w R :=
  calls_of_cwE (types := Try.prog.types) follows Try.func4 F4.code rfl (by kernel_rfl) hn h

def F5.r0 : List Oper := [
  ⟨(some 4), (.assign (.const (.bool false))), 4, "", #[], none⟩]
def F5.r1 : List Oper := [
  ⟨(some 15), (.call ⟨(.value (.func 9)), #[(.const (.int .i64 256))], #[3]⟩), 22, "", #[⟨0, .chain⟩], none⟩,
  ⟨(some 5), (.assign (.tmp 15)), 22, "", #[], none⟩]
def F5.r2 : List Oper := [
  ⟨(some 16), (.move (.tmp 0)), 25, "", #[], none⟩,
  ⟨(some 17), (.call ⟨(.value (.func 11)), #[(.tmp 16)], #[25]⟩), 4, "", #[⟨0, .chain⟩], none⟩,
  ⟨(some 6), (.assign (.tmp 17)), 4, "", #[], none⟩]
def F5.r3 : List Oper := [
  ⟨(some 18), (.move (.tmp 6)), 4, "", #[], none⟩]
def F5.r4 : List Oper := [
  ⟨(some 19), (.move (.tmp 5)), 22, "", #[], none⟩,
  ⟨(some 20), (.binOp .neq 22 (.tmp 19) (.const (.pointer none)) 22), 4, "", #[], none⟩,
  ⟨(some 4), (.assign (.tmp 20)), 4, "", #[], none⟩]
def F5.r5 : List Oper := [
  ⟨(some 21), (.move (.tmp 5)), 22, "", #[], none⟩,
  ⟨(some 22), (.binOp .eql 22 (.tmp 21) (.const (.pointer none)) 22), 4, "", #[], none⟩]
def F5.r6 : List Oper := [
  ⟨(some 4), (.assign (.const (.bool false))), 4, "", #[], none⟩]
def F5.r7 : List Oper := [
  ⟨(some 23), (.move (.tmp 5)), 22, "", #[], none⟩,
  ⟨(some 24), (.move (.tmp 1)), 37, "", #[], none⟩,
  ⟨(some 25), (.call ⟨(.value (.func 18)), #[(.tmp 23), (.const (.int .u32 9)), (.tmp 24), (.const (.int .u8 2)), (.const (.bool true))], #[22, 35, 37, 5, 4]⟩), 31, "", #[⟨0, .chain⟩], none⟩,
  ⟨(some 7), (.assign (.tmp 25)), 31, "", #[], none⟩]
def F5.r8 : List Oper := [
  ⟨(some 26), (.move (.tmp 5)), 22, "", #[], none⟩,
  ⟨(some 27), (.move (.tmp 1)), 37, "", #[], none⟩,
  ⟨(some 28), (.call ⟨(.value (.func 19)), #[(.tmp 26), (.tmp 27)], #[22, 37]⟩), 3, "", #[⟨0, .chain⟩], none⟩,
  ⟨(some 8), (.assign (.tmp 28)), 3, "", #[], none⟩]
def F5.r9 : List Oper := [
  ⟨(some 29), (.move (.tmp 7)), 31, "", #[], none⟩,
  ⟨(some 30), (.binOp .neq 31 (.tmp 29) (.const (.int .i64 0)) 31), 4, "", #[], none⟩,
  ⟨(some 31), (.move (.tmp 30)), 4, "", #[], none⟩,
  ⟨(some 32), (.move (.tmp 8)), 3, "", #[], (some (31, false))⟩,
  ⟨(some 33), (.binOp .neq 3 (.tmp 32) (.const (.int .i64 1)) 3), 4, "", #[], (some (31, false))⟩,
  ⟨(some 34), (.pick (.tmp 31) (.const (.bool true)) (.tmp 33)), 4, "", #[], none⟩]
def F5.r10 : List Oper := [
  ⟨(some 4), (.assign (.const (.bool false))), 4, "", #[], none⟩]
def F5.r11 : List Oper := [
  ⟨(some 9), (.assign (.const (.int .i64 0))), 3, "", #[], none⟩]
def F5.r12 : List Oper := [
  ⟨(some 35), (.move (.tmp 9)), 3, "", #[], none⟩,
  ⟨(some 36), (.move (.tmp 0)), 25, "", #[], none⟩,
  ⟨(some 37), (.call ⟨(.builtin .len), #[(.tmp 36)], #[25]⟩), 3, "", #[], none⟩,
  ⟨(some 38), (.binOp .lss 3 (.tmp 35) (.tmp 37) 3), 4, "", #[], none⟩,
  ⟨(some 39), (.move (.tmp 38)), 4, "", #[], none⟩,
  ⟨(some 40), (.move (.tmp 9)), 3, "", #[], (some (39, true))⟩,
  ⟨(some 41), (.binOp .lss 3 (.tmp 40) (.const (.int .i64 300)) 3), 4, "", #[], (some (39, true))⟩,
  ⟨(some 42), (.pick (.tmp 39) (.tmp 41) (.const (.bool false))), 4, "", #[], none⟩]
def F5.r14 : List Oper := [
  ⟨(some 45), (.move (.tmp 0)), 25, "", #[], none⟩,
  ⟨(some 46), (.move (.tmp 9)), 3, "", #[], none⟩,
  ⟨(some 47), (.indexAddr 25 (.tmp 45) (.tmp 46)), 0, "", #[], none⟩,
  ⟨(some 48), (.load 45 (.tmp 47)), 45, "", #[⟨0, .data⟩], none⟩,
  ⟨(some 10), (.alloc 45), 0, "", #[⟨0, .chain⟩], none⟩,
  ⟨none, (.store 45 (.tmp 10) (.tmp 48)), 0, "", #[⟨0, .chain⟩], none⟩]
def F5.r15 : List Oper := [
  ⟨(some 49), (.fieldAddr 45 (.tmp 10) 0), 0, "", #[], none⟩,
  ⟨(some 50), (.load 3 (.tmp 49)), 3, "", #[⟨0, .data⟩], none⟩,
  ⟨(some 51), (.binOp .eql 3 (.tmp 50) (.const (.int .i64 7)) 3), 4, "", #[], none⟩,
  ⟨(some 52), (.move (.tmp 51)), 4, "", #[], none⟩,
  ⟨(some 53), (.fieldAddr 45 (.tmp 10) 7), 0, "", #[], (some (52, true))⟩,
  ⟨(some 54), (.load 4 (.tmp 53)), 4, "", #[⟨0, .data⟩], (some (52, true))⟩,
  ⟨(some 55), (.pick (.tmp 52) (.tmp 54) (.const (.bool false))), 4, "", #[], none⟩]
def F5.r16 : List Oper := [
  ⟨(some 56), (.move (.tmp 1)), 37, "", #[], none⟩,
  ⟨(some 57), (.fieldAddr 45 (.tmp 10) 4), 0, "", #[], none⟩,
  ⟨none, (.store 37 (.tmp 57) (.tmp 56)), 0, "", #[⟨0, .chain⟩], none⟩]
def F5.r17 : List Oper := [
  ⟨(some 58), (.move (.tmp 5)), 22, "", #[], none⟩,
  ⟨(some 59), (.load 45 (.tmp 10)), 45, "", #[⟨0, .data⟩], none⟩,
  ⟨(some 60), (.call ⟨(.value (.func 13)), #[(.tmp 58), (.tmp 59)], #[22, 45]⟩), 33, "", #[⟨0, .chain⟩], none⟩]
def F5.r18 : List Oper := [
  ⟨(some 62), (.move (.tmp 5)), 22, "", #[], none⟩,
  ⟨(some 63), (.call ⟨(.value (.func 12)), #[(.tmp 62)], #[22]⟩), 29, "", #[⟨0, .chain⟩], none⟩,
  ⟨(some 61), (.move (.tmp 63)), 29, "", #[], none⟩,
  ⟨(some 64), (.extract (.tmp 61) 0), 28, "", #[], none⟩,
  ⟨(some 65), (.extract (.tmp 61) 1), 4, "", #[], none⟩,
  ⟨(some 11), (.assign (.tmp 64)), 28, "", #[], none⟩,
  ⟨(some 12), (.assign (.tmp 65)), 4, "", #[], none⟩]
def F5.r19 : List Oper := [
  ⟨(some 8), (.assign (.const (.int .i64 0))), 3, "", #[], none⟩]
def F5.r20 : List Oper := [
  ⟨(some 13), (.assign (.const (.int .i64 0))), 3, "", #[], none⟩]
def F5.r21 : List Oper := [
  ⟨(some 66), (.move (.tmp 13)), 3, "", #[], none⟩,
  ⟨(some 67), (.move (.tmp 11)), 28, "", #[], none⟩,
  ⟨(some 68), (.call ⟨(.builtin .len), #[(.tmp 67)], #[28]⟩), 3, "", #[], none⟩,
  ⟨(some 69), (.binOp .lss 3 (.tmp 66) (.tmp 68) 3), 4, "", #[], none⟩]
def F5.r23 : List Oper := [
  ⟨(some 72), (.move (.tmp 11)), 28, "", #[], none⟩,
  ⟨(some 73), (.move (.tmp 13)), 3, "", #[], none⟩,
  ⟨(some 74), (.indexAddr 28 (.tmp 72) (.tmp 73)), 0, "", #[], none⟩,
  ⟨(some 75), (.fieldAddr 48 (.tmp 74) 1), 0, "", #[], none⟩,
  ⟨(some 76), (.fieldAddr 43 (.tmp 75) 0), 0, "", #[], none⟩,
  ⟨(some 77), (.load 36 (.tmp 76)), 36, "", #[⟨0, .data⟩], none⟩,
  ⟨(some 78), (.binOp .eql 36 (.tmp 77) (.const (.int .u8 2)) 36), 4, "", #[], none⟩,
  ⟨(some 79), (.move (.tmp 78)), 4, "", #[], none⟩,
  ⟨(some 80), (.move (.tmp 11)), 28, "", #[], (some (79, true))⟩,
  ⟨(some 81), (.move (.tmp 13)), 3, "", #[], (some (79, true))⟩,
  ⟨(some 82), (.indexAddr 28 (.tmp 80) (.tmp 81)), 0, "", #[], (some (79, true))⟩,
  ⟨(some 83), (.fieldAddr 48 (.tmp 82) 1), 0, "", #[], (some (79, true))⟩,
  ⟨(some 84), (.fieldAddr 43 (.tmp 83) 1), 0, "", #[], (some (79, true))⟩,
  ⟨(some 85), (.load 37 (.tmp 84)), 37, "", #[⟨0, .data⟩], (some (79, true))⟩,
  ⟨(some 86), (.move (.tmp 1)), 37, "", #[], (some (79, true))⟩,
  ⟨(some 87), (.binOp .eql 37 (.tmp 85) (.tmp 86) 37), 4, "", #[], (some (79, true))⟩,
  ⟨(some 88), (.pick (.tmp 79) (.tmp 87) (.const (.bool false))), 4, "", #[], none⟩]
def F5.r24 : List Oper := [
  ⟨(some 89), (.move (.tmp 8)), 3, "", #[], none⟩,
  ⟨(some 90), (.binOp .add 3 (.tmp 89) (.const (.int .i64 1)) 3), 3, "", #[], none⟩,
  ⟨(some 8), (.assign (.tmp 90)), 3, "", #[], none⟩]
def F5.r22 : List Oper := [
  ⟨(some 70), (.move (.tmp 13)), 3, "", #[], none⟩,
  ⟨(some 71), (.binOp .add 3 (.tmp 70) (.const (.int .i64 1)) 3), 3, "", #[], none⟩,
  ⟨(some 13), (.assign (.tmp 71)), 3, "", #[], none⟩]
def F5.r25 : List Oper := [
  ⟨(some 91), (.move (.tmp 5)), 22, "", #[], none⟩,
  ⟨(some 92), (.move (.tmp 1)), 37, "", #[], none⟩,
  ⟨(some 93), (.call ⟨(.value (.func 19)), #[(.tmp 91), (.tmp 92)], #[22, 37]⟩), 3, "", #[⟨0, .chain⟩], none⟩,
  ⟨(some 14), (.assign (.tmp 93)), 3, "", #[], none⟩]
def F5.r26 : List Oper := [
  ⟨(some 94), (.move (.tmp 12)), 4, "", #[], none⟩,
  ⟨(some 95), (.unOp .not 4 (.tmp 94)), 4, "", #[], none⟩,
  ⟨(some 96), (.move (.tmp 95)), 4, "", #[], none⟩,
  ⟨(some 97), (.move (.tmp 8)), 3, "", #[], (some (96, false))⟩,
  ⟨(some 98), (.move (.tmp 14)), 3, "", #[], (some (96, false))⟩,
  ⟨(some 99), (.binOp .neq 3 (.tmp 97) (.tmp 98) 3), 4, "", #[], (some (96, false))⟩,
  ⟨(some 100), (.pick (.tmp 96) (.const (.bool true)) (.tmp 99)), 4, "", #[], none⟩]
def F5.r27 : List Oper := [
  ⟨(some 4), (.assign (.const (.bool false))), 4, "", #[], none⟩]
def F5.r13 : List Oper := [
  ⟨(some 43), (.move (.tmp 9)), 3, "", #[], none⟩,
  ⟨(some 44), (.binOp .add 3 (.tmp 43) (.const (.int .i64 1)) 3), 3, "", #[], none⟩,
  ⟨(some 9), (.assign (.tmp 44)), 3, "", #[], none⟩]
def F5.r28 : List Oper := [
  ⟨(some 4), (.assign (.const (.bool true))), 4, "", #[], none⟩]
def F5.t22 : Cd := (.region 22 F5.r22.toArray false)
theorem F5.t22_eq {P : Program} {Q : Post} {e : FA} {w : World} {θ : Tag (F5.t22, Q, e, w)} : cwE P F5.t22 Q e w θ = cwE P (.region 22 F5.r22.toArray false) Q e w := rfl
def F5.t23 : Cd := (.seq (.block 3 (.seq (.region 23 F5.r23.toArray false) (.cond (.tmp 88) (.region 24 F5.r24.toArray false) .skip))) F5.t22)
theorem F5.t23_eq {P : Program} {Q : Post} {e : FA} {w : World} {θ : Tag (F5.t23, Q, e, w)} : cwE P F5.t23 Q e w θ = cwE P (.seq (.block 3 (.seq (.region 23 F5.r23.toArray false) (.cond (.tmp 88) (.region 24 F5.r24.toArray false) .skip))) F5.t22) Q e w := rfl
def F5.t25 : Cd := (.seq (.region 25 F5.r25.toArray false) (.seq (.region 26 F5.r26.toArray false) (.cond (.tmp 100) (.seq (.region 27 F5.r27.toArray false) .ret) .skip)))
theorem F5.t25_eq {P : Program} {Q : Post} {e : FA} {w : World} {θ : Tag (F5.t25, Q, e, w)} : cwE P F5.t25 Q e w θ = cwE P (.seq (.region 25 F5.r25.toArray false) (.seq (.region 26 F5.r26.toArray false) (.cond (.tmp 100) (.seq (.region 27 F5.r27.toArray false) .ret) .skip))) Q e w := rfl
def F5.t17 : Cd := (.seq (.region 17 F5.r17.toArray false) (.seq (.region 18 F5.r18.toArray false) (.seq (.region 19 F5.r19.toArray false) (.seq (.seq (.region 20 F5.r20.toArray false) (.block 2 (.loop (.seq (.seq (.region 21 F5.r21.toArray false) (.cond (.tmp 69) .skip (.exit 2))) F5.t23)))) F5.t25))))
theorem F5.t17_eq {P : Program} {Q : Post} {e : FA} {w : World} {θ : Tag (F5.t17, Q, e, w)} : cwE P F5.t17 Q e w θ = cwE P (.seq (.region 17 F5.r17.toArray false) (.seq (.region 18 F5.r18.toArray false) (.seq (.region 19 F5.r19.toArray false) (.seq (.seq (.region 20 F5.r20.toArray false) (.block 2 (.loop (.seq (.seq (.region 21 F5.r21.toArray false) (.cond (.tmp 69) .skip (.exit 2))) F5.t23)))) F5.t25)))) Q e w := rfl
def F5.t13 : Cd := (.region 13 F5.r13.toArray false)
theorem F5.t13_eq {P : Program} {Q : Post} {e : FA} {w : World} {θ : Tag (F5.t13, Q, e, w)} : cwE P F5.t13 Q e w θ = cwE P (.region 13 F5.r13.toArray false) Q e w := rfl
def F5.t14 : Cd := (.seq (.block 1 (.seq (.region 14 F5.r14.toArray false) (.seq (.seq (.region 15 F5.r15.toArray false) (.cond (.tmp 55) (.region 16 F5.r16.toArray false) .skip)) F5.t17))) F5.t13)
theorem F5.t14_eq {P : Program} {Q : Post} {e : FA} {w : World} {θ : Tag (F5.t14, Q, e, w)} : cwE P F5.t14 Q e w θ = cwE P (.seq (.block 1 (.seq (.region 14 F5.r14.toArray false) (.seq (.seq (.region 15 F5.r15.toArray false) (.cond (.tmp 55) (.region 16 F5.r16.toArray false) .skip)) F5.t17))) F5.t13) Q e w := rfl
def F5.t28 : Cd := (.seq (.region 28 F5.r28.toArray false) .ret)
theorem F5.t28_eq {P : Program} {Q : Post} {e : FA} {w : World} {θ : Tag (F5.t28, Q, e, w)} : cwE P F5.t28 Q e w θ = cwE P (.seq (.region 28 F5.r28.toArray false) .ret) Q e w := rfl
def F5.t11 : Cd := (.seq (.seq (.region 11 F5.r11.toArray false) (.block 0 (.loop (.seq (.seq (.region 12 F5.r12.toArray false) (.cond (.tmp 42) .skip (.exit 0))) F5.t14)))) F5.t28)
theorem F5.t11_eq {P : Program} {Q : Post} {e : FA} {w : World} {θ : Tag (F5.t11, Q, e, w)} : cwE P F5.t11 Q e w θ = cwE P (.seq (.seq (.region 11 F5.r11.toArray false) (.block 0 (.loop (.seq (.seq (.region 12 F5.r12.toArray false) (.cond (.tmp 42) .skip (.exit 0))) F5.t14)))) F5.t28) Q e w := rfl
def F5.t7 : Cd := (.seq (.region 7 F5.r7.toArray false) (.seq (.region 8 F5.r8.toArray false) (.seq (.seq (.region 9 F5.r9.toArray false) (.cond (.tmp 34) (.seq (.region 10 F5.r10.toArray false) .ret) .skip)) F5.t11)))
theorem F5.t7_eq {P : Program} {Q : Post} {e : FA} {w : World} {θ : Tag (F5.t7, Q, e, w)} : cwE P F5.t7 Q e w θ = cwE P (.seq (.region 7 F5.r7.toArray false) (.seq (.region 8 F5.r8.toArray false) (.seq (.seq (.region 9 F5.r9.toArray false) (.cond (.tmp 34) (.seq (.region 10 F5.r10.toArray false) .ret) .skip)) F5.t11))) Q e w := rfl
def F5.t5 : Cd := (.seq (.seq (.region 5 F5.r5.toArray false) (.cond (.tmp 22) (.seq (.region 6 F5.r6.toArray false) .ret) .skip)) F5.t7)
theorem F5.t5_eq {P : Program} {Q : Post} {e : FA} {w : World} {θ : Tag (F5.t5, Q, e, w)} : cwE P F5.t5 Q e w θ = cwE P (.seq (.seq (.region 5 F5.r5.toArray false) (.cond (.tmp 22) (.seq (.region 6 F5.r6.toArray false) .ret) .skip)) F5.t7) Q e w := rfl
def F5.code : Cd := (.seq (.region 0 F5.r0.toArray false) (.seq (.region 1 F5.r1.toArray false) (.seq (.region 2 F5.r2.toArray false) (.seq (.seq (.region 3 F5.r3.toArray false) (.cond (.tmp 18) (.seq (.region 4 F5.r4.toArray false) .ret) .skip)) F5.t5))))
theorem F5.calls {args : Array Value} {w : World} {R : Ending → World → Prop} (hn : args.size ≤ 101) (h : cwE Try.prog F5.code (fnP Try.prog #[(.tmp 4)] R) (entry args) w) : Calls Try.prog 5 args w R :=
  calls_of_cwE (types := Try.prog.types) follows Try.func5 F5.code rfl (by kernel_rfl) hn h

def F6.r0 : List Oper := [
  ⟨(some 4), (.assign (.const (.bool false))), 4, "", #[], none⟩]
def F6.r1 : List Oper := [
  ⟨(some 17), (.move (.tmp 0)), 3, "", #[], none⟩,
  ⟨(some 18), (.call ⟨(.value (.func 10)), #[(.tmp 17)], #[3]⟩), 3, "", #[⟨0, .chain⟩], none⟩,
  ⟨(some 19), (.call ⟨(.value (.func 9)), #[(.tmp 18)], #[3]⟩), 22, "", #[⟨0, .chain⟩], none⟩,
  ⟨(some 5), (.assign (.tmp 19)), 22, "", #[], none⟩]
def F6.r2 : List Oper := [
  ⟨(some 20), (.move (.tmp 1)), 25, "", #[], none⟩,
  ⟨(some 21), (.call ⟨(.value (.func 11)), #[(.tmp 20)], #[25]⟩), 4, "", #[⟨0, .chain⟩], none⟩,
  ⟨(some 6), (.assign (.tmp 21)), 4, "", #[], none⟩]
def F6.r3 : List Oper := [
  ⟨(some 22), (.move (.tmp 6)), 4, "", #[], none⟩]
def F6.r4 : List Oper := [
  ⟨(some 23), (.move (.tmp 5)), 22, "", #[], none⟩,
  ⟨(some 24), (.binOp .neq 22 (.tmp 23) (.const (.pointer none)) 22), 4, "", #[], none⟩,
  ⟨(some 4), (.assign (.tmp 24)), 4, "", #[], none⟩]
def F6.r5 : List Oper := [
  ⟨(some 26), (.move (.tmp 0)), 3, "", #[], none⟩,
  ⟨(some 27), (.call ⟨(.value (.func 10)), #[(.tmp 26)], #[3]⟩), 3, "", #[⟨0, .chain⟩], none⟩,
  ⟨(some 28), (.call ⟨(.value (.func 20)), #[(.tmp 27)], #[3]⟩), 57, "", #[⟨0, .chain⟩], none⟩,
  ⟨(some 25), (.move (.tmp 28)), 57, "", #[], none⟩,
  ⟨(some 29), (.extract (.tmp 25) 0), 22, "", #[], none⟩,
  ⟨(some 30), (.extract (.tmp 25) 1), 31, "", #[], none⟩,
  ⟨(some 7), (.assign (.tmp 29)), 22, "", #[], none⟩,
  ⟨(some 8), (.assign (.tmp 30)), 31, "", #[], none⟩]
def F6.r6 : List Oper := [
  ⟨(some 31), (.move (.tmp 5)), 22, "", #[], none⟩,
  ⟨(some 32), (.binOp .eql 22 (.tmp 31) (.const (.pointer none)) 22), 4, "", #[], none⟩,
  ⟨(some 33), (.move (.tmp 32)), 4, "", #[], none⟩,
  ⟨(some 34), (.move (.tmp 7)), 22, "", #[], (some (33, false))⟩,
  ⟨(some 35), (.binOp .eql 22 (.tmp 34) (.const (.pointer none)) 22), 4, "", #[], (some (33, false))⟩,
  ⟨(some 36), (.pick (.tmp 33) (.const (.bool true)) (.tmp 35)), 4, "", #[], none⟩,
  ⟨(some 37), (.move (.tmp 36)), 4, "", #[], none⟩,
  ⟨(some 38), (.move (.tmp 8)), 31, "", #[], (some (37, false))⟩,
  ⟨(some 39), (.binOp .neq 31 (.tmp 38) (.const (.int .i64 0)) 31), 4, "", #[], (some (37, false))⟩,
  ⟨(some 40), (.pick (.tmp 37) (.const (.bool true)) (.tmp 39)), 4, "", #[], none⟩]
def F6.r7 : List Oper := [
  ⟨(some 4), (.assign (.const (.bool false))), 4, "", #[], none⟩]
def F6.r8 : List Oper := [
  ⟨(some 9), (.assign (.const (.int .i64 0))), 3, "", #[], none⟩]
def F6.r9 : List Oper := [
  ⟨(some 41), (.move (.tmp 9)), 3, "", #[], none⟩,
  ⟨(some 42), (.move (.tmp 1)), 25, "", #[], none⟩,
  ⟨(some 43), (.call ⟨(.builtin .len), #[(.tmp 42)], #[25]⟩), 3, "", #[], none⟩,
  ⟨(some 44), (.binOp .lss 3 (.tmp 41) (.tmp 43) 3), 4, "", #[], none⟩,
  ⟨(some 45), (.move (.tmp 44)), 4, "", #[], none⟩,
  ⟨(some 46), (.move (.tmp 9)), 3, "", #[], (some (45, true))⟩,
  ⟨(some 47), (.binOp .lss 3 (.tmp 46) (.const (.int .i64 300)) 3), 4, "", #[], (some (45, true))⟩,
  ⟨(some 48), (.pick (.tmp 45) (.tmp 47) (.const (.bool false))), 4, "", #[], none⟩]
def F6.r11 : List Oper := [
  ⟨(some 51), (.move (.tmp 5)), 22, "", #[], none⟩,
  ⟨(some 52), (.move (.tmp 1)), 25, "", #[], none⟩,
  ⟨(some 53), (.move (.tmp 9)), 3, "", #[], none⟩,
  ⟨(some 54), (.indexAddr 25 (.tmp 52) (.tmp 53)), 0, "", #[], none⟩,
  ⟨(some 55), (.load 45 (.tmp 54)), 45, "", #[⟨0, .data⟩], none⟩,
  ⟨(some 56), (.call ⟨(.value (.func 13)), #[(.tmp 51), (.tmp 55)], #[22, 45]⟩), 33, "", #[⟨0, .chain⟩], none⟩]
def F6.r10 : List Oper := [
  ⟨(some 49), (.move (.tmp 9)), 3, "", #[], none⟩,
  ⟨(some 50), (.binOp .add 3 (.tmp 49) (.const (.int .i64 1)) 3), 3, "", #[], none⟩,
  ⟨(some 9), (.assign (.tmp 50)), 3, "", #[], none⟩]
def F6.r12 : List Oper := [
  ⟨(some 58), (.move (.tmp 5)), 22, "", #[], none⟩,
  ⟨(some 59), (.call ⟨(.value (.func 12)), #[(.tmp 58)], #[22]⟩), 29, "", #[⟨0, .chain⟩], none⟩,
  ⟨(some 57), (.move (.tmp 59)), 29, "", #[], none⟩,
  ⟨(some 60), (.extract (.tmp 57) 0), 28, "", #[], none⟩,
  ⟨(some 61), (.extract (.tmp 57) 1), 4, "", #[], none⟩,
  ⟨(some 10), (.assign (.tmp 60)), 28, "", #[], none⟩,
  ⟨(some 11), (.assign (.tmp 61)), 4, "", #[], none⟩]
def F6.r13 : List Oper := [
  ⟨(some 62), (.move (.tmp 5)), 22, "", #[], none⟩,
  ⟨(some 63), (.call ⟨(.value (.func 21)), #[(.tmp 62)], #[22]⟩), 28, "", #[⟨0, .chain⟩], none⟩,
  ⟨(some 12), (.assign (.tmp 63)), 28, "", #[], none⟩]
def F6.r14 : List Oper := [
  ⟨(some 64), (.move (.tmp 11)), 4, "", #[], none⟩,
  ⟨(some 65), (.unOp .not 4 (.tmp 64)), 4, "", #[], none⟩,
  ⟨(some 66), (.move (.tmp 65)), 4, "", #[], none⟩,
  ⟨(some 67), (.move (.tmp 5)), 22, "", #[], (some (66, false))⟩,
  ⟨(some 68), (.call ⟨(.value (.func 14)), #[(.tmp 67)], #[22]⟩), 3, "", #[⟨0, .chain⟩], (some (66, false))⟩,
  ⟨(some 69), (.binOp .neq 3 (.tmp 68) (.const (.int .i64 0)) 3), 4, "", #[], (some (66, false))⟩,
  ⟨(some 70), (.pick (.tmp 66) (.const (.bool true)) (.tmp 69)), 4, "", #[], none⟩,
  ⟨(some 71), (.move (.tmp 70)), 4, "", #[], none⟩,
  ⟨(some 72), (.move (.tmp 12)), 28, "", #[], (some (71, false))⟩,
  ⟨(some 73), (.call ⟨(.builtin .len), #[(.tmp 72)], #[28]⟩), 3, "", #[], (some (71, false))⟩,
  ⟨(some 74), (.move (.tmp 10)), 28, "", #[], (some (71, false))⟩,
  ⟨(some 75), (.call ⟨(.builtin .len), #[(.tmp 74)], #[28]⟩), 3, "", #[], (some (71, false))⟩,
  ⟨(some 76), (.binOp .neq 3 (.tmp 73) (.tmp 75) 3), 4, "", #[], (some (71, false))⟩,
  ⟨(some 77), (.pick (.tmp 71) (.const (.bool true)) (.tmp 76)), 4, "", #[], none⟩]
def F6.r15 : List Oper := [
  ⟨(some 4), (.assign (.const (.bool false))), 4, "", #[], none⟩]
def F6.r16 : List Oper := [
  ⟨(some 13), (.assign (.const (.int .i64 0))), 3, "", #[], none⟩]
def F6.r17 : List Oper := [
  ⟨(some 78), (.move (.tmp 13)), 3, "", #[], none⟩,
  ⟨(some 79), (.move (.tmp 12)), 28, "", #[], none⟩,
  ⟨(some 80), (.call ⟨(.builtin .len), #[(.tmp 79)], #[28]⟩), 3, "", #[], none⟩,
  ⟨(some 81), (.binOp .lss 3 (.tmp 78) (.tmp 80) 3), 4, "", #[], none⟩]
def F6.r19 : List Oper := [
  ⟨(some 84), (.move (.tmp 7)), 22, "", #[], none⟩,
  ⟨(some 85), (.move (.tmp 12)), 28, "", #[], none⟩,
  ⟨(some 86), (.move (.tmp 13)), 3, "", #[], none⟩,
  ⟨(some 87), (.indexAddr 28 (.tmp 85) (.tmp 86)), 0, "", #[], none⟩,
  ⟨(some 88), (.fieldAddr 48 (.tmp 87) 0), 0, "", #[], none⟩,
  ⟨(some 90), (.move (.tmp 12)), 28, "", #[], none⟩,
  ⟨(some 91), (.move (.tmp 13)), 3, "", #[], none⟩,
  ⟨(some 92), (.indexAddr 28 (.tmp 90) (.tmp 91)), 0, "", #[], none⟩,
  ⟨(some 93), (.fieldAddr 48 (.tmp 92) 1), 0, "", #[], none⟩,
  ⟨(some 89), (.load 35 (.tmp 88)), 35, "", #[⟨2048, .data⟩], none⟩,
  ⟨(some 94), (.load 43 (.tmp 93)), 43, "", #[⟨2048, .data⟩], none⟩,
  ⟨(some 95), (.call ⟨(.value (.func 22)), #[(.tmp 84), (.tmp 89), (.tmp 94)], #[22, 35, 43]⟩), 31, "", #[⟨11, .chain⟩], none⟩,
  ⟨(some 8), (.assign (.tmp 95)), 31, "", #[], none⟩]
def F6.r20 : List Oper := [
  ⟨(some 96), (.move (.tmp 8)), 31, "", #[], none⟩,
  ⟨(some 97), (.binOp .neq 31 (.tmp 96) (.const (.int .i64 0)) 31), 4, "", #[], none⟩]
def F6.r21 : List Oper := [
  ⟨(some 4), (.assign (.const (.bool false))), 4, "", #[], none⟩]
def F6.r18 : List Oper := [
  ⟨(some 82), (.move (.tmp 13)), 3, "", #[], none⟩,
  ⟨(some 83), (.binOp .add 3 (.tmp 82) (.const (.int .i64 1)) 3), 3, "", #[], none⟩,
  ⟨(some 13), (.assign (.tmp 83)), 3, "", #[], none⟩]
def F6.r22 : List Oper := [
  ⟨(some 99), (.move (.tmp 7)), 22, "", #[], none⟩,
  ⟨(some 100), (.call ⟨(.value (.func 12)), #[(.tmp 99)], #[22]⟩), 29, "", #[⟨0, .chain⟩], none⟩,
  ⟨(some 98), (.move (.tmp 100)), 29, "", #[], none⟩,
  ⟨(some 101), (.extract (.tmp 98) 0), 28, "", #[], none⟩,
  ⟨(some 102), (.extract (.tmp 98) 1), 4, "", #[], none⟩,
  ⟨(some 14), (.assign (.tmp 101)), 28, "", #[], none⟩,
  ⟨(some 11), (.assign (.tmp 102)), 4, "", #[], none⟩]
def F6.r23 : List Oper := [
  ⟨(some 103), (.move (.tmp 11)), 4, "", #[], none⟩,
  ⟨(some 104), (.unOp .not 4 (.tmp 103)), 4, "", #[], none⟩,
  ⟨(some 105), (.move (.tmp 104)), 4, "", #[], none⟩,
  ⟨(some 106), (.move (.tmp 10)), 28, "", #[], (some (105, false))⟩,
  ⟨(some 107), (.call ⟨(.builtin .len), #[(.tmp 106)], #[28]⟩), 3, "", #[], (some (105, false))⟩,
  ⟨(some 108), (.move (.tmp 14)), 28, "", #[], (some (105, false))⟩,
  ⟨(some 109), (.call ⟨(.builtin .len), #[(.tmp 108)], #[28]⟩), 3, "", #[], (some (105, false))⟩,
  ⟨(some 110), (.binOp .neq 3 (.tmp 107) (.tmp 109) 3), 4, "", #[], (some (105, false))⟩,
  ⟨(some 111), (.pick (.tmp 105) (.const (.bool true)) (.tmp 110)), 4, "", #[], none⟩]
def F6.r24 : List Oper := [
  ⟨(some 4), (.assign (.const (.bool false))), 4, "", #[], none⟩]
def F6.r25 : List Oper := [
  ⟨(some 15), (.assign (.const (.int .i64 0))), 3, "", #[], none⟩]
def F6.r26 : List Oper := [
  ⟨(some 112), (.move (.tmp 15)), 3, "", #[], none⟩,
  ⟨(some 113), (.move (.tmp 10)), 28, "", #[], none⟩,
  ⟨(some 114), (.call ⟨(.builtin .len), #[(.tmp 113)], #[28]⟩), 3, "", #[], none⟩,
  ⟨(some 115), (.binOp .lss 3 (.tmp 112) (.tmp 114) 3), 4, "", #[], none⟩]
def F6.r28 : List Oper := [
  ⟨(some 118), (.move (.tmp 10)), 28, "", #[], none⟩,
  ⟨(some 119), (.move (.tmp 15)), 3, "", #[], none⟩,
  ⟨(some 120), (.indexAddr 28 (.tmp 118) (.tmp 119)), 0, "", #[], none⟩,
  ⟨(some 121), (.fieldAddr 48 (.tmp 120) 1), 0, "", #[], none⟩,
  ⟨(some 123), (.move (.tmp 14)), 28, "", #[], none⟩,
  ⟨(some 124), (.move (.tmp 15)), 3, "", #[], none⟩,
  ⟨(some 125), (.indexAddr 28 (.tmp 123) (.tmp 124)), 0, "", #[], none⟩,
  ⟨(some 126), (.fieldAddr 48 (.tmp 125) 1), 0, "", #[], none⟩,
  ⟨(some 122), (.load 43 (.tmp 121)), 43, "", #[⟨1024, .data⟩], none⟩,
  ⟨(some 127), (.load 43 (.tmp 126)), 43, "", #[⟨1024, .data⟩], none⟩,
  ⟨(some 128), (.call ⟨(.value (.func 16)), #[(.tmp 122), (.tmp 127)], #[43, 43]⟩), 4, "", #[⟨10, .chain⟩], none⟩,
  ⟨(some 16), (.assign (.tmp 128)), 4, "", #[], none⟩]
def F6.r29 : List Oper := [
  ⟨(some 129), (.move (.tmp 16)), 4, "", #[], none⟩,
  ⟨(some 130), (.unOp .not 4 (.tmp 129)), 4, "", #[], none⟩,
  ⟨(some 131), (.move (.tmp 130)), 4, "", #[], none⟩,
  ⟨(some 132), (.move (.tmp 10)), 28, "", #[], (some (131, false))⟩,
  ⟨(some 133), (.move (.tmp 15)), 3, "", #[], (some (131, false))⟩,
  ⟨(some 134), (.indexAddr 28 (.tmp 132) (.tmp 133)), 0, "", #[], (some (131, false))⟩,
  ⟨(some 135), (.fieldAddr 48 (.tmp 134) 0), 0, "", #[], (some (131, false))⟩,
  ⟨(some 137), (.move (.tmp 14)), 28, "", #[], (some (131, false))⟩,
  ⟨(some 138), (.move (.tmp 15)), 3, "", #[], (some (131, false))⟩,
  ⟨(some 139), (.indexAddr 28 (.tmp 137) (.tmp 138)), 0, "", #[], (some (131, false))⟩,
  ⟨(some 140), (.fieldAddr 48 (.tmp 139) 0), 0, "", #[], (some (131, false))⟩,
  ⟨(some 136), (.load 35 (.tmp 135)), 35, "", #[⟨0, .data⟩], (some (131, false))⟩,
  ⟨(some 141), (.load 35 (.tmp 140)), 35, "", #[⟨0, .data⟩], (some (131, false))⟩,
  ⟨(some 142), (.binOp .neq 35 (.tmp 136) (.tmp 141) 35), 4, "", #[], (some (131, false))⟩,
  ⟨(some 143), (.pick (.tmp 131) (.const (.bool true)) (.tmp 142)), 4, "", #[], none⟩,
  ⟨(some 144), (.move (.tmp 143)), 4, "", #[], none⟩,
  ⟨(some 145), (.move (.tmp 10)), 28, "", #[], (some (144, false))⟩,
  ⟨(some 146), (.move (.tmp 15)), 3, "", #[], (some (144, false))⟩,
  ⟨(some 147), (.indexAddr 28 (.tmp 145) (.tmp 146)), 0, "", #[], (some (144, false))⟩,
  ⟨(some 148), (.fieldAddr 48 (.tmp 147) 0), 0, "", #[], (some (144, false))⟩,
  ⟨(some 150), (.move (.tmp 12)), 28, "", #[], (some (144, false))⟩,
  ⟨(some 151), (.move (.tmp 15)), 3, "", #[], (some (144, false))⟩,
  ⟨(some 152), (.indexAddr 28 (.tmp 150) (.tmp 151)), 0, "", #[], (some (144, false))⟩,
  ⟨(some 153), (.fieldAddr 48 (.tmp 152) 0), 0, "", #[], (some (144, false))⟩,
  ⟨(some 149), (.load 35 (.tmp 148)), 35, "", #[⟨0, .data⟩], (some (144, false))⟩,
  ⟨(some 154), (.load 35 (.tmp 153)), 35, "", #[⟨0, .data⟩], (some (144, false))⟩,
  ⟨(some 155), (.binOp .neq 35 (.tmp 149) (.tmp 154) 35), 4, "", #[], (some (144, false))⟩,
  ⟨(some 156), (.pick (.tmp 144) (.const (.bool true)) (.tmp 155)), 4, "", #[], none⟩]
def F6.r30 : List Oper := [
  ⟨(some 4), (.assign (.const (.bool false))), 4, "", #[], none⟩]
def F6.r27 : List Oper := [
  ⟨(some 116), (.move (.tmp 15)), 3, "", #[], none⟩,
  ⟨(some 117), (.binOp .add 3 (.tmp 116) (.const (.int .i64 1)) 3), 3, "", #[], none⟩,
  ⟨(some 15), (.assign (.tmp 117)), 3, "", #[], none⟩]
def F6.r31 : List Oper := [
  ⟨(some 4), (.assign (.const (.bool true))), 4, "", #[], none⟩]
def F6.t10 : Cd := (.region 10 F6.r10.toArray false)
theorem F6.t10_eq {P : Program} {Q : Post} {e : FA} {w : World} {θ : Tag (F6.t10, Q, e, w)} : cwE P F6.t10 Q e w θ = cwE P (.region 10 F6.r10.toArray false) Q e w := rfl
def F6.t11 : Cd := (.seq (.block 1 (.region 11 F6.r11.toArray false)) F6.t10)
theorem F6.t11_eq {P : Program} {Q : Post} {e : FA} {w : World} {θ : Tag (F6.t11, Q, e, w)} : cwE P F6.t11 Q e w θ = cwE P (.seq (.block 1 (.region 11 F6.r11.toArray false)) F6.t10) Q e w := rfl
def F6.t18 : Cd := (.region 18 F6.r18.toArray false)
theorem F6.t18_eq {P : Program} {Q : Post} {e : FA} {w : World} {θ : Tag (F6.t18, Q, e, w)} : cwE P F6.t18 Q e w θ = cwE P (.region 18 F6.r18.toArray false) Q e w := rfl
def F6.t19 : Cd := (.seq (.block 3 (.seq (.region 19 F6.r19.toArray true) (.seq (.region 20 F6.r20.toArray false) (.cond (.tmp 97) (.seq (.region 21 F6.r21.toArray false) .ret) .skip)))) F6.t18)
theorem F6.t19_eq {P : Program} {Q : Post} {e : FA} {w : World} {θ : Tag (F6.t19, Q, e, w)} : cwE P F6.t19 Q e w θ = cwE P (.seq (.block 3 (.seq (.region 19 F6.r19.toArray true) (.seq (.region 20 F6.r20.toArray false) (.cond (.tmp 97) (.seq (.region 21 F6.r21.toArray false) .ret) .skip)))) F6.t18) Q e w := rfl
def F6.t27 : Cd := (.region 27 F6.r27.toArray false)
theorem F6.t27_eq {P : Program} {Q : Post} {e : FA} {w : World} {θ : Tag (F6.t27, Q, e, w)} : cwE P F6.t27 Q e w θ = cwE P (.region 27 F6.r27.toArray false) Q e w := rfl
def F6.t28 : Cd := (.seq (.block 5 (.seq (.region 28 F6.r28.toArray true) (.seq (.region 29 F6.r29.toArray true) (.cond (.tmp 156) (.seq (.region 30 F6.r30.toArray false) .ret) .skip)))) F6.t27)
theorem F6.t28_eq {P : Program} {Q : Post} {e : FA} {w : World} {θ : Tag (F6.t28, Q, e, w)} : cwE P F6.t28 Q e w θ = cwE P (.seq (.block 5 (.seq (.region 28 F6.r28.toArray true) (.seq (.region 29 F6.r29.toArray true) (.cond (.tmp 156) (.seq (.region 30 F6.r30.toArray false) .ret) .skip)))) F6.t27) Q e w := rfl
def F6.t31 : Cd := (.seq (.region 31 F6.r31.toArray false) .ret)
theorem F6.t31_eq {P : Program} {Q : Post} {e : FA} {w : World} {θ : Tag (F6.t31, Q, e, w)} : cwE P F6.t31 Q e w θ = cwE P (.seq (.region 31 F6.r31.toArray false) .ret) Q e w := rfl
def F6.t25 : Cd := (.seq (.seq (.region 25 F6.r25.toArray false) (.block 4 (.loop (.seq (.seq (.region 26 F6.r26.toArray false) (.cond (.tmp 115) .skip (.exit 4))) F6.t28)))) F6.t31)
theorem F6.t25_eq {P : Program} {Q : Post} {e : FA} {w : World} {θ : Tag (F6.t25, Q, e, w)} : cwE P F6.t25 Q e w θ = cwE P (.seq (.seq (.region 25 F6.r25.toArray false) (.block 4 (.loop (.seq (.seq (.region 26 F6.r26.toArray false) (.cond (.tmp 115) .skip (.exit 4))) F6.t28)))) F6.t31) Q e w := rfl
def F6.t22 : Cd := (.seq (.region 22 F6.r22.toArray false) (.seq (.seq (.region 23 F6.r23.toArray false) (.cond (.tmp 111) (.seq (.region 24 F6.r24.toArray false) .ret) .skip)) F6.t25))
theorem F6.t22_eq {P : Program} {Q : Post} {e : FA} {w : World} {θ : Tag (F6.t22, Q, e, w)} : cwE P F6.t22 Q e w θ = cwE P (.seq (.region 22 F6.r22.toArray false) (.seq (.seq (.region 23 F6.r23.toArray false) (.cond (.tmp 111) (.seq (.region 24 F6.r24.toArray false) .ret) .skip)) F6.t25)) Q e w := rfl
def F6.t16 : Cd := (.seq (.seq (.region 16 F6.r16.toArray false) (.block 2 (.loop (.seq (.seq (.region 17 F6.r17.toArray false) (.cond (.tmp 81) .skip (.exit 2))) F6.t19)))) F6.t22)
theorem F6.t16_eq {P : Program} {Q : Post} {e : FA} {w : World} {θ : Tag (F6.t16, Q, e, w)} : cwE P F6.t16 Q e w θ = cwE P (.seq (.seq (.region 16 F6.r16.toArray false) (.block 2 (.loop (.seq (.seq (.region 17 F6.r17.toArray false) (.cond (.tmp 81) .skip (.exit 2))) F6.t19)))) F6.t22) Q e w := rfl
def F6.t12 : Cd := (.seq (.region 12 F6.r12.toArray false) (.seq (.region 13 F6.r13.toArray false) (.seq (.seq (.region 14 F6.r14.toArray false) (.cond (.tmp 77) (.seq (.region 15 F6.r15.toArray false) .ret) .skip)) F6.t16)))
theorem F6.t12_eq {P : Program} {Q : Post} {e : FA} {w : World} {θ : Tag (F6.t12, Q, e, w)} : cwE P F6.t12 Q e w θ = cwE P (.seq (.region 12 F6.r12.toArray false) (.seq (.region 13 F6.r13.toArray false) (.seq (.seq (.region 14 F6.r14.toArray false) (.cond (.tmp 77) (.seq (.region 15 F6.r15.toArray false) .ret) .skip)) F6.t16))) Q e w := rfl
def F6.t8 : Cd := (.seq (.seq (.region 8 F6.r8.toArray false) (.block 0 (.loop (.seq (.seq (.region 9 F6.r9.toArray false) (.cond (.tmp 48) .skip (.exit 0))) F6.t11)))) F6.t12)
theorem F6.t8_eq {P : Program} {Q : Post} {e : FA} {w : World} {θ : Tag (F6.t8, Q, e, w)} : cwE P F6.t8 Q e w θ = cwE P (.seq (.seq (.region 8 F6.r8.toArray false) (.block 0 (.loop (.seq (.seq (.region 9 F6.r9.toArray false) (.cond (.tmp 48) .skip (.exit 0))) F6.t11)))) F6.t12) Q e w := rfl
def F6.t5 : Cd := (.seq (.region 5 F6.r5.toArray false) (.seq (.seq (.region 6 F6.r6.toArray false) (.cond (.tmp 40) (.seq (.region 7 F6.r7.toArray false) .ret) .skip)) F6.t8))
theorem F6.t5_eq {P : Program} {Q : Post} {e : FA} {w : World} {θ : Tag (F6.t5, Q, e, w)} : cwE P F6.t5 Q e w θ = cwE P (.seq (.region 5 F6.r5.toArray false) (.seq (.seq (.region 6 F6.r6.toArray false) (.cond (.tmp 40) (.seq (.region 7 F6.r7.toArray false) .ret) .skip)) F6.t8)) Q e w := rfl
def F6.code : Cd := (.seq (.region 0 F6.r0.toArray false) (.seq (.region 1 F6.r1.toArray false) (.seq (.region 2 F6.r2.toArray false) (.seq (.seq (.region 3 F6.r3.toArray false) (.cond (.tmp 22) (.seq (.region 4 F6.r4.toArray false) .ret) .skip)) F6.t5))))
theorem F6.calls {args : Array Value} {w : World} {R : Ending → World → Prop} (hn : args.size ≤ 157) (h : cwE Try.prog F6.code (fnP Try.prog #[(.tmp 4)] R) (entry args) w) : Calls Try.prog 6 args w R :=
  calls_of_cwE (types := Try.prog.types) follows Try.func6 F6.code rfl (by kernel_rfl) hn h

def F8.r0 : List Oper := [
  ⟨(some 6), (.assign (.const (.bool false))), 4, "", #[], none⟩]
def F8.r1 : List Oper := [
  ⟨(some 19), (.move (.tmp 0)), 3, "", #[], none⟩,
  ⟨(some 20), (.call ⟨(.value (.func 10)), #[(.tmp 19)], #[3]⟩), 3, "", #[⟨0, .chain⟩], none⟩,
  ⟨(some 21), (.call ⟨(.value (.func 9)), #[(.tmp 20)], #[3]⟩), 22, "", #[⟨0, .chain⟩], none⟩,
  ⟨(some 7), (.assign (.tmp 21)), 22, "", #[], none⟩]
def F8.r2 : List Oper := [
  ⟨(some 22), (.move (.tmp 1)), 25, "", #[], none⟩,
  ⟨(some 23), (.call ⟨(.value (.func 11)), #[(.tmp 22)], #[25]⟩), 4, "", #[⟨0, .chain⟩], none⟩,
  ⟨(some 8), (.assign (.tmp 23)), 4, "", #[], none⟩]
def F8.r3 : List Oper := [
  ⟨(some 24), (.move (.tmp 2)), 25, "", #[], none⟩,
  ⟨(some 25), (.call ⟨(.value (.func 11)), #[(.tmp 24)], #[25]⟩), 4, "", #[⟨0, .chain⟩], none⟩,
  ⟨(some 9), (.assign (.tmp 25)), 4, "", #[], none⟩]
def F8.r4 : List Oper := [
  ⟨(some 26), (.move (.tmp 8)), 4, "", #[], none⟩,
  ⟨(some 27), (.move (.tmp 26)), 4, "", #[], none⟩,
  ⟨(some 28), (.move (.tmp 9)), 4, "", #[], (some (27, false))⟩,
  ⟨(some 29), (.pick (.tmp 27) (.const (.bool true)) (.tmp 28)), 4, "", #[], none⟩]
def F8.r5 : List Oper := [
  ⟨(some 30), (.move (.tmp 7)), 22, "", #[], none⟩,
  ⟨(some 31), (.binOp .neq 22 (.tmp 30) (.const (.pointer none)) 22), 4, "", #[], none⟩,
  ⟨(some 6), (.assign (.tmp 31)), 4, "", #[], none⟩]
def F8.r6 : List Oper := [
  ⟨(some 32), (.move (.tmp 7)), 22, "", #[], none⟩,
  ⟨(some 33), (.binOp .eql 22 (.tmp 32) (.const (.pointer none)) 22), 4, "", #[], none⟩]
def F8.r7 : List Oper := [
  ⟨(some 6), (.assign (.const (.bool false))), 4, "", #[], none⟩]
def F8.r8 : List Oper := [
  ⟨(some 10), (.assign (.const (.int .i64 0))), 3, "", #[], none⟩]
def F8.r9 : List Oper := [
  ⟨(some 34), (.move (.tmp 10)), 3, "", #[], none⟩,
  ⟨(some 35), (.move (.tmp 1)), 25, "", #[], none⟩,
  ⟨(some 36), (.call ⟨(.builtin .len), #[(.tmp 35)], #[25]⟩), 3, "", #[], none⟩,
  ⟨(some 37), (.binOp .lss 3 (.tmp 34) (.tmp 36) 3), 4, "", #[], none⟩,
  ⟨(some 38), (.move (.tmp 37)), 4, "", #[], none⟩,
  ⟨(some 39), (.move (.tmp 10)), 3, "", #[], (some (38, true))⟩,
  ⟨(some 40), (.binOp .lss 3 (.tmp 39) (.const (.int .i64 300)) 3), 4, "", #[], (some (38, true))⟩,
  ⟨(some 41), (.pick (.tmp 38) (.tmp 40) (.const (.bool false))), 4, "", #[], none⟩]
def F8.r11 : List Oper := [
  ⟨(some 44), (.move (.tmp 7)), 22, "", #[], none⟩,
  ⟨(some 45), (.move (.tmp 1)), 25, "", #[], none⟩,
  ⟨(some 46), (.move (.tmp 10)), 3, "", #[], none⟩,
  ⟨(some 47), (.indexAddr 25 (.tmp 45) (.tmp 46)), 0, "", #[], none⟩,
  ⟨(some 48), (.load 45 (.tmp 47)), 45, "", #[⟨0, .data⟩], none⟩,
  ⟨(some 49), (.call ⟨(.value (.func 13)), #[(.tmp 44), (.tmp 48)], #[22, 45]⟩), 33, "", #[⟨0, .chain⟩], none⟩]
def F8.r10 : List Oper := [
  ⟨(some 42), (.move (.tmp 10)), 3, "", #[], none⟩,
  ⟨(some 43), (.binOp .add 3 (.tmp 42) (.const (.int .i64 1)) 3), 3, "", #[], none⟩,
  ⟨(some 10), (.assign (.tmp 43)), 3, "", #[], none⟩]
def F8.r12 : List Oper := [
  ⟨(some 50), (.move (.tmp 7)), 22, "", #[], none⟩,
  ⟨(some 51), (.call ⟨(.value (.func 25)), #[(.tmp 50)], #[22]⟩), 22, "", #[⟨0, .chain⟩], none⟩,
  ⟨(some 11), (.assign (.tmp 51)), 22, "", #[], none⟩]
def F8.r13 : List Oper := [
  ⟨(some 52), (.move (.tmp 11)), 22, "", #[], none⟩,
  ⟨(some 53), (.binOp .eql 22 (.tmp 52) (.const (.pointer none)) 22), 4, "", #[], none⟩]
def F8.r14 : List Oper := [
  ⟨(some 6), (.assign (.const (.bool false))), 4, "", #[], none⟩]
def F8.r15 : List Oper := [
  ⟨(some 55), (.move (.tmp 7)), 22, "", #[], none⟩,
  ⟨(some 56), (.call ⟨(.value (.func 12)), #[(.tmp 55)], #[22]⟩), 29, "", #[⟨0, .chain⟩], none⟩,
  ⟨(some 54), (.move (.tmp 56)), 29, "", #[], none⟩,
  ⟨(some 57), (.extract (.tmp 54) 0), 28, "", #[], none⟩,
  ⟨(some 58), (.extract (.tmp 54) 1), 4, "", #[], none⟩,
  ⟨(some 12), (.assign (.tmp 57)), 28, "", #[], none⟩,
  ⟨(some 13), (.assign (.tmp 58)), 4, "", #[], none⟩]
def F8.r16 : List Oper := [
  ⟨(some 14), (.assign (.const (.int .i64 0))), 3, "", #[], none⟩]
def F8.r17 : List Oper := [
  ⟨(some 59), (.move (.tmp 14)), 3, "", #[], none⟩,
  ⟨(some 60), (.move (.tmp 2)), 25, "", #[], none⟩,
  ⟨(some 61), (.call ⟨(.builtin .len), #[(.tmp 60)], #[25]⟩), 3, "", #[], none⟩,
  ⟨(some 62), (.binOp .lss 3 (.tmp 59) (.tmp 61) 3), 4, "", #[], none⟩,
  ⟨(some 63), (.move (.tmp 62)), 4, "", #[], none⟩,
  ⟨(some 64), (.move (.tmp 14)), 3, "", #[], (some (63, true))⟩,
  ⟨(some 65), (.binOp .lss 3 (.tmp 64) (.const (.int .i64 300)) 3), 4, "", #[], (some (63, true))⟩,
  ⟨(some 66), (.pick (.tmp 63) (.tmp 65) (.const (.bool false))), 4, "", #[], none⟩]
def F8.r19 : List Oper := [
  ⟨(some 69), (.move (.tmp 11)), 22, "", #[], none⟩,
  ⟨(some 70), (.move (.tmp 2)), 25, "", #[], none⟩,
  ⟨(some 71), (.move (.tmp 14)), 3, "", #[], none⟩,
  ⟨(some 72), (.indexAddr 25 (.tmp 70) (.tmp 71)), 0, "", #[], none⟩,
  ⟨(some 73), (.load 45 (.tmp 72)), 45, "", #[⟨0, .data⟩], none⟩,
  ⟨(some 74), (.call ⟨(.value (.func 13)), #[(.tmp 69), (.tmp 73)], #[22, 45]⟩), 33, "", #[⟨0, .chain⟩], none⟩]
def F8.r18 : List Oper := [
  ⟨(some 67), (.move (.tmp 14)), 3, "", #[], none⟩,
  ⟨(some 68), (.binOp .add 3 (.tmp 67) (.const (.int .i64 1)) 3), 3, "", #[], none⟩,
  ⟨(some 14), (.assign (.tmp 68)), 3, "", #[], none⟩]
def F8.r20 : List Oper := [
  ⟨(some 75), (.move (.tmp 11)), 22, "", #[], none⟩,
  ⟨(some 76), (.call ⟨(.value (.func 21)), #[(.tmp 75)], #[22]⟩), 28, "", #[⟨0, .chain⟩], none⟩]
def F8.r21 : List Oper := [
  ⟨(some 78), (.move (.tmp 7)), 22, "", #[], none⟩,
  ⟨(some 79), (.call ⟨(.value (.func 12)), #[(.tmp 78)], #[22]⟩), 29, "", #[⟨0, .chain⟩], none⟩,
  ⟨(some 77), (.move (.tmp 79)), 29, "", #[], none⟩,
  ⟨(some 80), (.extract (.tmp 77) 0), 28, "", #[], none⟩,
  ⟨(some 81), (.extract (.tmp 77) 1), 4, "", #[], none⟩,
  ⟨(some 15), (.assign (.tmp 80)), 28, "", #[], none⟩,
  ⟨(some 16), (.assign (.tmp 81)), 4, "", #[], none⟩]
def F8.r22 : List Oper := [
  ⟨(some 82), (.move (.tmp 13)), 4, "", #[], none⟩,
  ⟨(some 83), (.unOp .not 4 (.tmp 82)), 4, "", #[], none⟩,
  ⟨(some 84), (.move (.tmp 83)), 4, "", #[], none⟩,
  ⟨(some 85), (.move (.tmp 16)), 4, "", #[], (some (84, false))⟩,
  ⟨(some 86), (.unOp .not 4 (.tmp 85)), 4, "", #[], (some (84, false))⟩,
  ⟨(some 87), (.pick (.tmp 84) (.const (.bool true)) (.tmp 86)), 4, "", #[], none⟩,
  ⟨(some 88), (.move (.tmp 87)), 4, "", #[], none⟩,
  ⟨(some 89), (.move (.tmp 12)), 28, "", #[], (some (88, false))⟩,
  ⟨(some 90), (.call ⟨(.builtin .len), #[(.tmp 89)], #[28]⟩), 3, "", #[], (some (88, false))⟩,
  ⟨(some 91), (.move (.tmp 15)), 28, "", #[], (some (88, false))⟩,
  ⟨(some 92), (.call ⟨(.builtin .len), #[(.tmp 91)], #[28]⟩), 3, "", #[], (some (88, false))⟩,
  ⟨(some 93), (.binOp .neq 3 (.tmp 90) (.tmp 92) 3), 4, "", #[], (some (88, false))⟩,
  ⟨(some 94), (.pick (.tmp 88) (.const (.bool true)) (.tmp 93)), 4, "", #[], none⟩]
def F8.r23 : List Oper := [
  ⟨(some 6), (.assign (.const (.bool false))), 4, "", #[], none⟩]
def F8.r24 : List Oper := [
  ⟨(some 17), (.assign (.const (.int .i64 0))), 3, "", #[], none⟩]
def F8.r25 : List Oper := [
  ⟨(some 95), (.move (.tmp 17)), 3, "", #[], none⟩,
  ⟨(some 96), (.move (.tmp 12)), 28, "", #[], none⟩,
  ⟨(some 97), (.call ⟨(.builtin .len), #[(.tmp 96)], #[28]⟩), 3, "", #[], none⟩,
  ⟨(some 98), (.binOp .lss 3 (.tmp 95) (.tmp 97) 3), 4, "", #[], none⟩]
def F8.r27 : List Oper := [
  ⟨(some 101), (.move (.tmp 12)), 28, "", #[], none⟩,
  ⟨(some 102), (.move (.tmp 17)), 3, "", #[], none⟩,
  ⟨(some 103), (.indexAddr 28 (.tmp 101) (.tmp 102)), 0, "", #[], none⟩,
  ⟨(some 104), (.fieldAddr 48 (.tmp 103) 1), 0, "", #[], none⟩,
  ⟨(some 106), (.move (.tmp 15)), 28, "", #[], none⟩,
  ⟨(some 107), (.move (.tmp 17)), 3, "", #[], none⟩,
  ⟨(some 108), (.indexAddr 28 (.tmp 106) (.tmp 107)), 0, "", #[], none⟩,
  ⟨(some 109), (.fieldAddr 48 (.tmp 108) 1), 0, "", #[], none⟩,
  ⟨(some 105), (.load 43 (.tmp 104)), 43, "", #[⟨1024, .data⟩], none⟩,
  ⟨(some 110), (.load 43 (.tmp 109)), 43, "", #[⟨1024, .data⟩], none⟩,
  ⟨(some 111), (.call ⟨(.value (.func 16)), #[(.tmp 105), (.tmp 110)], #[43, 43]⟩), 4, "", #[⟨10, .chain⟩], none⟩,
  ⟨(some 18), (.assign (.tmp 111)), 4, "", #[], none⟩]
def F8.r28 : List Oper := [
  ⟨(some 112), (.move (.tmp 18)), 4, "", #[], none⟩,
  ⟨(some 113), (.unOp .not 4 (.tmp 112)), 4, "", #[], none⟩,
  ⟨(some 114), (.move (.tmp 113)), 4, "", #[], none⟩,
  ⟨(some 115), (.move (.tmp 12)), 28, "", #[], (some (114, false))⟩,
  ⟨(some 116), (.move (.tmp 17)), 3, "", #[], (some (114, false))⟩,
  ⟨(some 117), (.indexAddr 28 (.tmp 115) (.tmp 116)), 0, "", #[], (some (114, false))⟩,
  ⟨(some 118), (.fieldAddr 48 (.tmp 117) 0), 0, "", #[], (some (114, false))⟩,
  ⟨(some 120), (.move (.tmp 15)), 28, "", #[], (some (114, false))⟩,
  ⟨(some 121), (.move (.tmp 17)), 3, "", #[], (some (114, false))⟩,
  ⟨(some 122), (.indexAddr 28 (.tmp 120) (.tmp 121)), 0, "", #[], (some (114, false))⟩,
  ⟨(some 123), (.fieldAddr 48 (.tmp 122) 0), 0, "", #[], (some (114, false))⟩,
  ⟨(some 119), (.load 35 (.tmp 118)), 35, "", #[⟨0, .data⟩], (some (114, false))⟩,
  ⟨(some 124), (.load 35 (.tmp 123)), 35, "", #[⟨0, .data⟩], (some (114, false))⟩,
  ⟨(some 125), (.binOp .neq 35 (.tmp 119) (.tmp 124) 35), 4, "", #[], (some (114, false))⟩,
  ⟨(some 126), (.pick (.tmp 114) (.const (.bool true)) (.tmp 125)), 4, "", #[], none⟩]
def F8.r29 : List Oper := [
  ⟨(some 6), (.assign (.const (.bool false))), 4, "", #[], none⟩]
def F8.r26 : List Oper := [
  ⟨(some 99), (.move (.tmp 17)), 3, "", #[], none⟩,
  ⟨(some 100), (.binOp .add 3 (.tmp 99) (.const (.int .i64 1)) 3), 3, "", #[], none⟩,
  ⟨(some 17), (.assign (.tmp 100)), 3, "", #[], none⟩]
def F8.r30 : List Oper := [
  ⟨(some 6), (.assign (.const (.bool true))), 4, "", #[], none⟩]
def F8.t10 : Cd := (.region 10 F8.r10.toArray false)
theorem F8.t10_eq {P : Program} {Q : Post} {e : FA} {w : World} {θ : Tag (F8.t10, Q, e, w)} : cwE P F8.t10 Q e w θ = cwE P (.region 10 F8.r10.toArray false) Q e w := rfl
def F8.t11 : Cd := (.seq (.block 1 (.region 11 F8.r11.toArray false)) F8.t10)
theorem F8.t11_eq {P : Program} {Q : Post} {e : FA} {w : World} {θ : Tag (F8.t11, Q, e, w)} : cwE P F8.t11 Q e w θ = cwE P (.seq (.block 1 (.region 11 F8.r11.toArray false)) F8.t10) Q e w := rfl
def F8.t18 : Cd := (.region 18 F8.r18.toArray false)
theorem F8.t18_eq {P : Program} {Q : Post} {e : FA} {w : World} {θ : Tag (F8.t18, Q, e, w)} : cwE P F8.t18 Q e w θ = cwE P (.region 18 F8.r18.toArray false) Q e w := rfl
def F8.t19 : Cd := (.seq (.block 3 (.region 19 F8.r19.toArray false)) F8.t18)
theorem F8.t19_eq {P : Program} {Q : Post} {e : FA} {w : World} {θ : Tag (F8.t19, Q, e, w)} : cwE P F8.t19 Q e w θ = cwE P (.seq (.block 3 (.region 19 F8.r19.toArray false)) F8.t18) Q e w := rfl
def F8.t26 : Cd := (.region 26 F8.r26.toArray false)
theorem F8.t26_eq {P : Program} {Q : Post} {e : FA} {w : World} {θ : Tag (F8.t26, Q, e, w)} : cwE P F8.t26 Q e w θ = cwE P (.region 26 F8.r26.toArray false) Q e w := rfl
def F8.t27 : Cd := (.seq (.block 5 (.seq (.region 27 F8.r27.toArray true) (.seq (.region 28 F8.r28.toArray true) (.cond (.tmp 126) (.seq (.region 29 F8.r29.toArray false) .ret) .skip)))) F8.t26)
theorem F8.t27_eq {P : Program} {Q : Post} {e : FA} {w : World} {θ : Tag (F8.t27, Q, e, w)} : cwE P F8.t27 Q e w θ = cwE P (.seq (.block 5 (.seq (.region 27 F8.r27.toArray true) (.seq (.region 28 F8.r28.toArray true) (.cond (.tmp 126) (.seq (.region 29 F8.r29.toArray false) .ret) .skip)))) F8.t26) Q e w := rfl
def F8.t30 : Cd := (.seq (.region 30 F8.r30.toArray false) .ret)
theorem F8.t30_eq {P : Program} {Q : Post} {e : FA} {w : World} {θ : Tag (F8.t30, Q, e, w)} : cwE P F8.t30 Q e w θ = cwE P (.seq (.region 30 F8.r30.toArray false) .ret) Q e w := rfl
def F8.t24 : Cd := (.seq (.seq (.region 24 F8.r24.toArray false) (.block 4 (.loop (.seq (.seq (.region 25 F8.r25.toArray false) (.cond (.tmp 98) .skip (.exit 4))) F8.t27)))) F8.t30)
theorem F8.t24_eq {P : Program} {Q : Post} {e : FA} {w : World} {θ : Tag (F8.t24, Q, e, w)} : cwE P F8.t24 Q e w θ = cwE P (.seq (.seq (.region 24 F8.r24.toArray false) (.block 4 (.loop (.seq (.seq (.region 25 F8.r25.toArray false) (.cond (.tmp 98) .skip (.exit 4))) F8.t27)))) F8.t30) Q e w := rfl
def F8.t20 : Cd := (.seq (.region 20 F8.r20.toArray false) (.seq (.region 21 F8.r21.toArray false) (.seq (.seq (.region 22 F8.r22.toArray false) (.cond (.tmp 94) (.seq (.region 23 F8.r23.toArray false) .ret) .skip)) F8.t24)))
theorem F8.t20_eq {P : Program} {Q : Post} {e : FA} {w : World} {θ : Tag (F8.t20, Q, e, w)} : cwE P F8.t20 Q e w θ = cwE P (.seq (.region 20 F8.r20.toArray false) (.seq (.region 21 F8.r21.toArray false) (.seq (.seq (.region 22 F8.r22.toArray false) (.cond (.tmp 94) (.seq (.region 23 F8.r23.toArray false) .ret) .skip)) F8.t24))) Q e w := rfl
def F8.t15 : Cd := (.seq (.region 15 F8.r15.toArray false) (.seq (.seq (.region 16 F8.r16.toArray false) (.block 2 (.loop (.seq (.seq (.region 17 F8.r17.toArray false) (.cond (.tmp 66) .skip (.exit 2))) F8.t19)))) F8.t20))
theorem F8.t15_eq {P : Program} {Q : Post} {e : FA} {w : World} {θ : Tag (F8.t15, Q, e, w)} : cwE P F8.t15 Q e w θ = cwE P (.seq (.region 15 F8.r15.toArray false) (.seq (.seq (.region 16 F8.r16.toArray false) (.block 2 (.loop (.seq (.seq (.region 17 F8.r17.toArray false) (.cond (.tmp 66) .skip (.exit 2))) F8.t19)))) F8.t20)) Q e w := rfl
def F8.t12 : Cd := (.seq (.region 12 F8.r12.toArray false) (.seq (.seq (.region 13 F8.r13.toArray false) (.cond (.tmp 53) (.seq (.region 14 F8.r14.toArray false) .ret) .skip)) F8.t15))
theorem F8.t12_eq {P : Program} {Q : Post} {e : FA} {w : World} {θ : Tag (F8.t12, Q, e, w)} : cwE P F8.t12 Q e w θ = cwE P (.seq (.region 12 F8.r12.toArray false) (.seq (.seq (.region 13 F8.r13.toArray false) (.cond (.tmp 53) (.seq (.region 14 F8.r14.toArray false) .ret) .skip)) F8.t15)) Q e w := rfl
def F8.t8 : Cd := (.seq (.seq (.region 8 F8.r8.toArray false) (.block 0 (.loop (.seq (.seq (.region 9 F8.r9.toArray false) (.cond (.tmp 41) .skip (.exit 0))) F8.t11)))) F8.t12)
theorem F8.t8_eq {P : Program} {Q : Post} {e : FA} {w : World} {θ : Tag (F8.t8, Q, e, w)} : cwE P F8.t8 Q e w θ = cwE P (.seq (.seq (.region 8 F8.r8.toArray false) (.block 0 (.loop (.seq (.seq (.region 9 F8.r9.toArray false) (.cond (.tmp 41) .skip (.exit 0))) F8.t11)))) F8.t12) Q e w := rfl
def F8.t6 : Cd := (.seq (.seq (.region 6 F8.r6.toArray false) (.cond (.tmp 33) (.seq (.region 7 F8.r7.toArray false) .ret) .skip)) F8.t8)
theorem F8.t6_eq {P : Program} {Q : Post} {e : FA} {w : World} {θ : Tag (F8.t6, Q, e, w)} : cwE P F8.t6 Q e w θ = cwE P (.seq (.seq (.region 6 F8.r6.toArray false) (.cond (.tmp 33) (.seq (.region 7 F8.r7.toArray false) .ret) .skip)) F8.t8) Q e w := rfl
def F8.code : Cd := (.seq (.region 0 F8.r0.toArray false) (.seq (.region 1 F8.r1.toArray false) (.seq (.region 2 F8.r2.toArray false) (.seq (.region 3 F8.r3.toArray false) (.seq (.seq (.region 4 F8.r4.toArray false) (.cond (.tmp 29) (.seq (.region 5 F8.r5.toArray false) .ret) .skip)) F8.t6)))))
theorem F8.calls {args : Array Value} {w : World} {R : Ending → World → Prop} (hn : args.size ≤ 127) (h : cwE Try.prog F8.code (fnP Try.prog #[(.tmp 6)] R) (entry args) w) : Calls Try.prog 8 args w R :=
  calls_of_cwE (types := Try.prog.types) follows Try.func8 F8.code rfl (by kernel_rfl) hn h

def F9.r0 : List Oper := [
  ⟨(some 2), (.assign (.const (.pointer none))), 22, "", #[], none⟩]
def F9.r1 : List Oper := [
  ⟨(some 9), (.move (.tmp 0)), 3, "", #[], none⟩,
  ⟨(some 10), (.call ⟨(.value (.func 20)), #[(.tmp 9)], #[3]⟩), 57, "", #[⟨0, .chain⟩], none⟩,
  ⟨(some 8), (.move (.tmp 10)), 57, "", #[], none⟩,
  ⟨(some 11), (.extract (.tmp 8) 0), 22, "", #[], none⟩,
  ⟨(some 12), (.extract (.tmp 8) 1), 31, "", #[], none⟩,
  ⟨(some 3), (.assign (.tmp 11)), 22, "", #[], none⟩,
  ⟨(some 4), (.assign (.tmp 12)), 31, "", #[], none⟩]
def F9.r2 : List Oper := [
  ⟨(some 13), (.move (.tmp 3)), 22, "", #[], none⟩,
  ⟨(some 14), (.binOp .eql 22 (.tmp 13) (.const (.pointer none)) 22), 4, "", #[], none⟩,
  ⟨(some 15), (.move (.tmp 14)), 4, "", #[], none⟩,
  ⟨(some 16), (.move (.tmp 4)), 31, "", #[], (some (15, false))⟩,
  ⟨(some 17), (.binOp .neq 31 (.tmp 16) (.const (.int .i64 0)) 31), 4, "", #[], (some (15, false))⟩,
  ⟨(some 18), (.pick (.tmp 15) (.const (.bool true)) (.tmp 17)), 4, "", #[], none⟩]
def F9.r3 : List Oper := [
  ⟨(some 2), (.assign (.const (.pointer none))), 22, "", #[], none⟩]
def F9.r4 : List Oper := [
  ⟨(some 19), (.move (.tmp 3)), 22, "", #[], none⟩,
  ⟨(some 20), (.build 43 #[(0, (.const (.int .u8 1))), (1, (.const (.int .u64 4))), (2, (.const (.string { data := #[117] })))]), 43, "", #[], none⟩,
  ⟨(some 21), (.call ⟨(.value (.func 22)), #[(.tmp 19), (.const (.int .u32 9)), (.tmp 20)], #[22, 35, 43]⟩), 31, "", #[⟨0, .chain⟩], none⟩,
  ⟨(some 5), (.assign (.tmp 21)), 31, "", #[], none⟩]
def F9.r5 : List Oper := [
  ⟨(some 23), (.move (.tmp 3)), 22, "", #[], none⟩,
  ⟨(some 24), (.call ⟨(.value (.func 30)), #[(.tmp 23), (.const (.int .u32 9))], #[22, 35]⟩), 78, "", #[⟨0, .chain⟩], none⟩,
  ⟨(some 22), (.move (.tmp 24)), 78, "", #[], none⟩,
  ⟨(some 25), (.extract (.tmp 22) 0), 43, "", #[], none⟩,
  ⟨(some 26), (.extract (.tmp 22) 1), 31, "", #[], none⟩,
  ⟨(some 6), (.alloc 43), 0, "", #[⟨0, .chain⟩], none⟩,
  ⟨none, (.store 43 (.tmp 6) (.tmp 25)), 0, "", #[⟨0, .chain⟩], none⟩,
  ⟨(some 7), (.assign (.tmp 26)), 31, "", #[], none⟩]
def F9.r6 : List Oper := [
  ⟨(some 27), (.move (.tmp 5)), 31, "", #[], none⟩,
  ⟨(some 28), (.binOp .neq 31 (.tmp 27) (.const (.int .i64 0)) 31), 4, "", #[], none⟩,
  ⟨(some 29), (.move (.tmp 28)), 4, "", #[], none⟩,
  ⟨(some 30), (.move (.tmp 7)), 31, "", #[], (some (29, false))⟩,
  ⟨(some 31), (.binOp .neq 31 (.tmp 30) (.const (.int .i64 0)) 31), 4, "", #[], (some (29, false))⟩,
  ⟨(some 32), (.pick (.tmp 29) (.const (.bool true)) (.tmp 31)), 4, "", #[], none⟩,
  ⟨(some 33), (.move (.tmp 32)), 4, "", #[], none⟩,
  ⟨(some 34), (.fieldAddr 43 (.tmp 6) 0), 0, "", #[], (some (33, false))⟩,
  ⟨(some 35), (.load 36 (.tmp 34)), 36, "", #[⟨0, .data⟩], (some (33, false))⟩,
  ⟨(some 36), (.binOp .neq 36 (.tmp 35) (.const (.int .u8 1)) 36), 4, "", #[], (some (33, false))⟩,
  ⟨(some 37), (.pick (.tmp 33) (.const (.bool true)) (.tmp 36)), 4, "", #[], none⟩,
  ⟨(some 38), (.move (.tmp 37)), 4, "", #[], none⟩,
  ⟨(some 39), (.fieldAddr 43 (.tmp 6) 1), 0, "", #[], (some (38, false))⟩,
  ⟨(some 40), (.load 37 (.tmp 39)), 37, "", #[⟨0, .data⟩], (some (38, false))⟩,
  ⟨(some 41), (.binOp .neq 37 (.tmp 40) (.const (.int .u64 4)) 37), 4, "", #[], (some (38, false))⟩,
  ⟨(some 42), (.pick (.tmp 38) (.const (.bool true)) (.tmp 41)), 4, "", #[], none⟩,
  ⟨(some 43), (.move (.tmp 42)), 4, "", #[], none⟩,
  ⟨(some 44), (.fieldAddr 43 (.tmp 6) 2), 0, "", #[], (some (43, false))⟩,
  ⟨(some 45), (.load 9 (.tmp 44)), 9, "", #[⟨0, .data⟩], (some (43, false))⟩,
  ⟨(some 46), (.binOp .neq 9 (.tmp 45) (.const (.string { data := #[117] })) 9), 4, "", #[], (some (43, false))⟩,
  ⟨(some 47), (.pick (.tmp 43) (.const (.bool true)) (.tmp 46)), 4, "", #[], none⟩]
def F9.r7 : List Oper := [
  ⟨(some 2), (.assign (.const (.pointer none))), 22, "", #[], none⟩]
def F9.r8 : List Oper := [
  ⟨(some 48), (.move (.tmp 3)), 22, "", #[], none⟩,
  ⟨(some 2), (.assign (.tmp 48)), 22, "", #[], none⟩]
def F9.t8 : Cd := (.seq (.region 8 F9.r8.toArray false) .ret)
theorem F9.t8_eq {P : Program} {Q : Post} {e : FA} {w : World} {θ : Tag (F9.t8, Q, e, w)} : cwE P F9.t8 Q e w θ = cwE P (.seq (.region 8 F9.r8.toArray false) .ret) Q e w := rfl
def F9.t4 : Cd := (.seq (.region 4 F9.r4.toArray false) (.seq (.region 5 F9.r5.toArray false) (.seq (.seq (.region 6 F9.r6.toArray false) (.cond (.tmp 47) (.seq (.region 7 F9.r7.toArray false) .ret) .skip)) F9.t8)))
theorem F9.t4_eq {P : Program} {Q : Post} {e : FA} {w : World} {θ : Tag (F9.t4, Q, e, w)} : cwE P F9.t4 Q e w θ = cwE P (.seq (.region 4 F9.r4.toArray false) (.seq (.region 5 F9.r5.toArray false) (.seq (.seq (.region 6 F9.r6.toArray false) (.cond (.tmp 47) (.seq (.region 7 F9.r7.toArray false) .ret) .skip)) F9.t8))) Q e w := rfl
def F9.code : Cd := (.seq (.region 0 F9.r0.toArray false) (.seq (.region 1 F9.r1.toArray false) (.seq (.seq (.region 2 F9.r2.toArray false) (.cond (.tmp 18) (.seq (.region 3 F9.r3.toArray false) .ret) .skip)) F9.t4)))
theorem F9.calls {args : Array Value} {w : World} {R : Ending → World → Prop} (hn : args.size ≤ 49) (h : cwE Try.prog F9.code (fnP Try.prog #[(.tmp 2)] R) (entry args) w) : Calls Try.prog 9 args w R :=
  calls_of_cwE (types := Try.prog.types) follows Try.func9 F9.code rfl (by kernel_rfl) hn h

def F10.r0 : List Oper := [
  ⟨(some 2), (.assign (.const (.int .i64 0))), 3, "", #[], none⟩]
def F10.r1 : List Oper := [
  ⟨(some 3), (.move (.tmp 0)), 3, "", #[], none⟩,
  ⟨(some 4), (.binOp .lss 3 (.tmp 3) (.const (.int .i64 0)) 3), 4, "", #[], none⟩]
def F10.r2 : List Oper := [
  ⟨(some 5), (.move (.tmp 0)), 3, "", #[], none⟩,
  ⟨(some 6), (.binOp .add 3 (.tmp 5) (.const (.int .i64 1)) 3), 3, "", #[], none⟩,
  ⟨(some 7), (.unOp .neg 3 (.tmp 6)), 3, "", #[], none⟩,
  ⟨(some 0), (.assign (.tmp 7)), 3, "", #[], none⟩]
def F10.r3 : List Oper := [
  ⟨(some 8), (.move (.tmp 0)), 3, "", #[], none⟩,
  ⟨(some 9), (.binOp .rem 3 (.tmp 8) (.const (.int .i64 256)) 3), 3, "", #[], none⟩,
  ⟨(some 10), (.binOp .add 3 (.const (.int .i64 1)) (.tmp 9) 3), 3, "", #[], none⟩,
  ⟨(some 2), (.assign (.tmp 10)), 3, "", #[], none⟩]
def F10.t3 : Cd := (.seq (.region 3 F10.r3.toArray false) .ret)
theorem F10.t3_eq {P : Program} {Q : Post} {e : FA} {w : World} {θ : Tag (F10.t3, Q, e, w)} : cwE P F10.t3 Q e w θ = cwE P (.seq (.region 3 F10.r3.toArray false) .ret) Q e w := rfl
def F10.code : Cd := (.seq (.region 0 F10.r0.toArray false) (.seq (.seq (.region 1 F10.r1.toArray false) (.cond (.tmp 4) (.region 2 F10.r2.toArray false) .skip)) F10.t3))
theorem F10.calls {args : Array Value} {w : World} {R : Ending → World → Prop} (hn : args.size ≤ 11) (h : cwE Try.prog F10.code (fnP Try.prog #[(.tmp 2)] R) (entry args) w) : Calls Try.prog 10 args w R :=
  calls_of_cwE (types := Try.prog.types) follows Try.func10 F10.code rfl (by kernel_rfl) hn h

def F11.r0 : List Oper := [
  ⟨(some 2), (.assign (.const (.bool false))), 4, "", #[], none⟩]
def F11.r1 : List Oper := [
  ⟨(some 3), (.assign (.const (.int .i64 0))), 3, "", #[], none⟩]
def F11.r2 : List Oper := [
  ⟨(some 4), (.assign (.const (.int .i64 0))), 3, "", #[], none⟩]
def F11.r3 : List Oper := [
  ⟨(some 6), (.move (.tmp 4)), 3, "", #[], none⟩,
  ⟨(some 7), (.move (.tmp 0)), 25, "", #[], none⟩,
  ⟨(some 8), (.call ⟨(.builtin .len), #[(.tmp 7)], #[25]⟩), 3, "", #[], none⟩,
  ⟨(some 9), (.binOp .lss 3 (.tmp 6) (.tmp 8) 3), 4, "", #[], none⟩,
  ⟨(some 10), (.move (.tmp 9)), 4, "", #[], none⟩,
  ⟨(some 11), (.move (.tmp 3)), 3, "", #[], (some (10, true))⟩,
  ⟨(some 12), (.binOp .leq 3 (.tmp 11) (.const (.int .i64 268435456)) 3), 4, "", #[], (some (10, true))⟩,
  ⟨(some 13), (.pick (.tmp 10) (.tmp 12) (.const (.bool false))), 4, "", #[], none⟩]
def F11.r5 : List Oper := [
  ⟨(some 16), (.move (.tmp 0)), 25, "", #[], none⟩,
  ⟨(some 17), (.move (.tmp 4)), 3, "", #[], none⟩,
  ⟨(some 18), (.indexAddr 25 (.tmp 16) (.tmp 17)), 0, "", #[], none⟩,
  ⟨(some 19), (.fieldAddr 45 (.tmp 18) 3), 0, "", #[], none⟩,
  ⟨(some 20), (.load 43 (.tmp 19)), 43, "", #[⟨0, .data⟩], none⟩,
  ⟨(some 5), (.alloc 43), 0, "", #[⟨0, .chain⟩], none⟩,
  ⟨none, (.store 43 (.tmp 5) (.tmp 20)), 0, "", #[⟨0, .chain⟩], none⟩]
def F11.r6 : List Oper := [
  ⟨(some 21), (.move (.tmp 3)), 3, "", #[], none⟩,
  ⟨(some 22), (.binOp .add 3 (.tmp 21) (.const (.int .i64 200)) 3), 3, "", #[], none⟩,
  ⟨(some 23), (.fieldAddr 43 (.tmp 5) 2), 0, "", #[], none⟩,
  ⟨(some 24), (.load 9 (.tmp 23)), 9, "", #[⟨0, .data⟩], none⟩,
  ⟨(some 25), (.call ⟨(.builtin .len), #[(.tmp 24)], #[9]⟩), 3, "", #[], none⟩,
  ⟨(some 26), (.binOp .add 3 (.tmp 22) (.tmp 25) 3), 3, "", #[], none⟩,
  ⟨(some 27), (.fieldAddr 43 (.tmp 5) 7), 0, "", #[], none⟩,
  ⟨(some 28), (.fieldAddr 41 (.tmp 27) 0), 0, "", #[], none⟩,
  ⟨(some 29), (.load 9 (.tmp 28)), 9, "", #[⟨0, .data⟩], none⟩,
  ⟨(some 30), (.call ⟨(.builtin .len), #[(.tmp 29)], #[9]⟩), 3, "", #[], none⟩,
  ⟨(some 31), (.binOp .add 3 (.tmp 26) (.tmp 30) 3), 3, "", #[], none⟩,
  ⟨(some 32), (.fieldAddr 43 (.tmp 5) 7), 0, "", #[], none⟩,
  ⟨(some 33), (.fieldAddr 41 (.tmp 32) 1), 0, "", #[], none⟩,
  ⟨(some 34), (.load 9 (.tmp 33)), 9, "", #[⟨0, .data⟩], none⟩,
  ⟨(some 35), (.call ⟨(.builtin .len), #[(.tmp 34)], #[9]⟩), 3, "", #[], none⟩,
  ⟨(some 36), (.binOp .add 3 (.tmp 31) (.tmp 35) 3), 3, "", #[], none⟩,
  ⟨(some 37), (.fieldAddr 43 (.tmp 5) 7), 0, "", #[], none⟩,
  ⟨(some 38), (.fieldAddr 41 (.tmp 37) 6), 0, "", #[], none⟩,
  ⟨(some 39), (.load 39 (.tmp 38)), 39, "", #[⟨0, .data⟩], none⟩,
  ⟨(some 40), (.call ⟨(.builtin .len), #[(.tmp 39)], #[39]⟩), 3, "", #[], none⟩,
  ⟨(some 41), (.binOp .add 3 (.tmp 36) (.tmp 40) 3), 3, "", #[], none⟩,
  ⟨(some 3), (.assign (.tmp 41)), 3, "", #[], none⟩]
def F11.r4 : List Oper := [
  ⟨(some 14), (.move (.tmp 4)), 3, "", #[], none⟩,
  ⟨(some 15), (.binOp .add 3 (.tmp 14) (.const (.int .i64 1)) 3), 3, "", #[], none⟩,
  ⟨(some 4), (.assign (.tmp 15)), 3, "", #[], none⟩]
def F11.r7 : List Oper := [
  ⟨(some 42), (.move (.tmp 3)), 3, "", #[], none⟩,
  ⟨(some 43), (.binOp .gtr 3 (.tmp 42) (.const (.int .i64 268435456)) 3), 4, "", #[], none⟩,
  ⟨(some 2), (.assign (.tmp 43)), 4, "", #[], none⟩]
def F11.t4 : Cd := (.region 4 F11.r4.toArray false)
theorem F11.t4_eq {P : Program} {Q : Post} {e : FA} {w : World} {θ : Tag (F11.t4, Q, e, w)} : cwE P F11.t4 Q e w θ = cwE P (.region 4 F11.r4.toArray false) Q e w := rfl
def F11.t5 : Cd := (.seq (.block 1 (.seq (.region 5 F11.r5.toArray false) (.region 6 F11.r6.toArray false))) F11.t4)
theorem F11.t5_eq {P : Program} {Q : Post} {e : FA} {w : World} {θ : Tag (F11.t5, Q, e, w)} : cwE P F11.t5 Q e w θ = cwE P (.seq (.block 1 (.seq (.region 5 F11.r5.toArray false) (.region 6 F11.r6.toArray false))) F11.t4) Q e w := rfl
def F11.t7 : Cd := (.seq (.region 7 F11.r7.toArray false) .ret)
theorem F11.t7_eq {P : Program} {Q : Post} {e : FA} {w : World} {θ : Tag (F11.t7, Q, e, w)} : cwE P F11.t7 Q e w θ = cwE P (.seq (.region 7 F11.r7.toArray false) .ret) Q e w := rfl
def F11.code : Cd := (.seq (.region 0 F11.r0.toArray false) (.seq (.region 1 F11.r1.toArray false) (.seq (.seq (.region 2 F11.r2.toArray false) (.block 0 (.loop (.seq (.seq (.region 3 F11.r3.toArray false) (.cond (.tmp 13) .skip (.exit 0))) F11.t5)))) F11.t7)))
theorem F11.calls {args : Array Value} {w : World} {R : Ending → World → Prop} (hn : args.size ≤ 44) (h : cwE Try.prog F11.code (fnP Try.prog #[(.tmp 2)] R) (entry args) w) : Calls Try.prog 11 args w R :=
  calls_of_cwE (types := Try.prog.types) follows Try.func11 F11.code rfl (by kernel_rfl) hn h

def F12.r0 : List Oper := [
  ⟨(some 2), (.assign (.const (.slice none 0 0))), 28, "", #[], none⟩,
  ⟨(some 3), (.assign (.const (.bool false))), 4, "", #[], none⟩]
def F12.r1 : List Oper := [
  ⟨(some 4), (.alloc 28), 0, "", #[⟨0, .chain⟩], none⟩]
def F12.r2 : List Oper := [
  ⟨(some 8), (.move (.tmp 0)), 22, "", #[], none⟩,
  ⟨(some 9), (.call ⟨(.value (.func 31)), #[(.tmp 8)], #[22]⟩), 81, "", #[⟨0, .chain⟩], none⟩,
  ⟨(some 5), (.assign (.tmp 9)), 81, "", #[], none⟩]
def F12.r3 : List Oper := [
  ⟨(some 10), (.move (.tmp 5)), 81, "", #[], none⟩,
  ⟨(some 11), (.binOp .eql 81 (.tmp 10) (.const .nilFunc) 81), 4, "", #[], none⟩]
def F12.r4 : List Oper := [
  ⟨(some 2), (.assign (.const (.slice none 0 0))), 28, "", #[], none⟩,
  ⟨(some 3), (.assign (.const (.bool false))), 4, "", #[], none⟩]
def F12.r5 : List Oper := [
  ⟨(some 12), (.move (.tmp 5)), 81, "", #[], none⟩]
def F12.r6 : List Oper := [
  ⟨(some 6), (.assign (.tmp 13)), 35, "", #[], none⟩]
def F12.r7 : List Oper := [
  ⟨(some 7), (.alloc 43), 0, "", #[⟨0, .chain⟩], none⟩,
  ⟨none, (.store 43 (.tmp 7) (.tmp 14)), 0, "", #[⟨0, .chain⟩], none⟩]
def F12.r8 : List Oper := [
  ⟨(some 15), (.load 28 (.tmp 4)), 28, "", #[⟨0, .data⟩], none⟩,
  ⟨(some 16), (.move (.tmp 6)), 35, "", #[], none⟩,
  ⟨(some 17), (.load 43 (.tmp 7)), 43, "", #[⟨0, .data⟩], none⟩,
  ⟨(some 18), (.build 48 #[(0, (.tmp 16)), (1, (.tmp 17))]), 48, "", #[], none⟩,
  ⟨(some 19), (.buildSlice 28 1 #[(0, (.tmp 18))]), 28, "", #[⟨0, .chain⟩], none⟩,
  ⟨(some 20), (.call ⟨(.builtin .append), #[(.tmp 15), (.tmp 19)], #[28, 28]⟩), 28, "", #[⟨0, .chain⟩], none⟩,
  ⟨none, (.store 28 (.tmp 4) (.tmp 20)), 0, "", #[⟨0, .chain⟩], none⟩]
def F12.r9 : List Oper := [
  ⟨(some 21), (.load 28 (.tmp 4)), 28, "", #[⟨0, .data⟩], none⟩,
  ⟨(some 2), (.assign (.tmp 21)), 28, "", #[], none⟩,
  ⟨(some 3), (.assign (.const (.bool true))), 4, "", #[], none⟩]
def F12.a0 : Cd := (.seq (.region 6 F12.r6.toArray false) (.region 7 F12.r7.toArray false))
def F12.b0 : Cd := (.block 1 (.region 8 F12.r8.toArray false))
def F12.t9 : Cd := (.seq (.region 9 F12.r9.toArray false) .ret)
theorem F12.t9_eq {P : Program} {Q : Post} {e : FA} {w : World} {θ : Tag (F12.t9, Q, e, w)} : cwE P F12.t9 Q e w θ = cwE P (.seq (.region 9 F12.r9.toArray false) .ret) Q e w := rfl
def F12.t5 : Cd := (.seq (.seq (.region 5 F12.r5.toArray false) (.block 0 (.rangeFunc (.tmp 12) #[13, 14] F12.a0 F12.b0))) F12.t9)
theorem F12.t5_eq {P : Program} {Q : Post} {e : FA} {w : World} {θ : Tag (F12.t5, Q, e, w)} : cwE P F12.t5 Q e w θ = cwE P (.seq (.seq (.region 5 F12.r5.toArray false) (.block 0 (.rangeFunc (.tmp 12) #[13, 14] F12.a0 F12.b0))) F12.t9) Q e w := rfl
def F12.code : Cd := (.seq (.region 0 F12.r0.toArray false) (.seq (.region 1 F12.r1.toArray false) (.seq (.region 2 F12.r2.toArray false) (.seq (.seq (.region 3 F12.r3.toArray false) (.cond (.tmp 11) (.seq (.region 4 F12.r4.toArray false) .ret) .skip)) F12.t5))))
theorem F12.calls {args : Array Value} {w : World} {R : Ending → World → Prop} (hn : args.size ≤ 22) (h : cwE Try.prog F12.code (fnP Try.prog #[(.tmp 2), (.tmp 3)] R) (entry args) w) : Calls Try.prog 12 args w R :=
  calls_of_cwE (types := Try.prog.types) follows Try.func12 F12.code rfl (by kernel_rfl) hn h

def F13.r0 : List Oper := [
  ⟨(some 3), (.box 45 (.tmp 1)), 0, "", #[⟨0, .chain⟩], none⟩,
  ⟨(some 4), (.assign (.const (.int .i64 0))), 31, "", #[], none⟩,
  ⟨(some 5), (.assign (.const (.slice none 0 0))), 32, "", #[], none⟩]
def F13.r1 : List Oper := [
  ⟨(some 10), (.fieldAddr 45 (.tmp 3) 0), 0, "", #[], none⟩,
  ⟨(some 11), (.load 3 (.tmp 10)), 3, "", #[⟨0, .data⟩], none⟩]
def F13.r2 : List Oper := [
  ⟨(some 13), (.binOp .eql 3 (.tmp 11) (.const (.int .i64 2)) 3), 4, "", #[], none⟩,
  ⟨(some 12), (.assign (.tmp 13)), 4, "", #[], none⟩]
def F13.r3 : PT :=
  (.op ⟨(some 14), (.move (.tmp 0)), 22, "", #[], none⟩
  (.op ⟨(some 15), (.fieldAddr 45 (.tmp 3) 1), 0, "", #[], none⟩
  (.op ⟨(some 17), (.fieldAddr 45 (.tmp 3) 3), 0, "", #[], none⟩
  (.op ⟨(some 20), (.fieldAddr 45 (.tmp 3) 1), 0, "", #[], none⟩
  (.op ⟨(some 16), (.load 35 (.tmp 15)), 35, "", #[⟨32, .data⟩], none⟩
  (.op ⟨(some 18), (.load 43 (.tmp 17)), 43, "", #[⟨32, .data⟩], none⟩
  (.op ⟨(some 21), (.load 35 (.tmp 20)), 35, "", #[⟨256, .data⟩], none⟩
  (.alt (.op ⟨(some 19), (.call ⟨(.value (.func 22)), #[(.tmp 14), (.tmp 16), (.tmp 18)], #[22, 35, 43]⟩), 31, "", #[⟨5, .chain⟩], none⟩
  (.op ⟨(some 4), (.assign (.tmp 19)), 31, "", #[], none⟩
  (.alt (.op ⟨(some 22), (.buildSlice 32 1 #[(0, (.tmp 21))]), 32, "", #[⟨8, .chain⟩], none⟩
  (.op ⟨(some 5), (.assign (.tmp 22)), 32, "", #[], none⟩
  .done))
  .stop)))
  (.alt (.op ⟨(some 22), (.buildSlice 32 1 #[(0, (.tmp 21))]), 32, "", #[⟨8, .chain⟩], none⟩
  (.alt (.op ⟨(some 19), (.call ⟨(.value (.func 22)), #[(.tmp 14), (.tmp 16), (.tmp 18)], #[22, 35, 43]⟩), 31, "", #[⟨5, .chain⟩], none⟩
  (.op ⟨(some 4), (.assign (.tmp 19)), 31, "", #[], none⟩
  (.op ⟨(some 5), (.assign (.tmp 22)), 32, "", #[], none⟩
  .done)))
  .stop))
  .stop)))))))))
def F13.r4 : List Oper := [
  ⟨(some 24), (.binOp .eql 3 (.tmp 11) (.const (.int .i64 3)) 3), 4, "", #[], none⟩,
  ⟨(some 23), (.assign (.tmp 24)), 4, "", #[], none⟩]
def F13.r5 : PT :=
  (.op ⟨(some 25), (.move (.tmp 0)), 22, "", #[], none⟩
  (.op ⟨(some 26), (.fieldAddr 45 (.tmp 3) 1), 0, "", #[], none⟩
  (.op ⟨(some 28), (.fieldAddr 45 (.tmp 3) 3), 0, "", #[], none⟩
  (.op ⟨(some 31), (.fieldAddr 45 (.tmp 3) 1), 0, "", #[], none⟩
  (.op ⟨(some 27), (.load 35 (.tmp 26)), 35, "", #[⟨32, .data⟩], none⟩
  (.op ⟨(some 29), (.load 43 (.tmp 28)), 43, "", #[⟨32, .data⟩], none⟩
  (.op ⟨(some 32), (.load 35 (.tmp 31)), 35, "", #[⟨256, .data⟩], none⟩
  (.alt (.op ⟨(some 30), (.call ⟨(.value (.func 32)), #[(.tmp 25), (.tmp 27), (.tmp 29)], #[22, 35, 43]⟩), 31, "", #[⟨5, .chain⟩], none⟩
  (.op ⟨(some 4), (.assign (.tmp 30)), 31, "", #[], none⟩
  (.alt (.op ⟨(some 33), (.buildSlice 32 1 #[(0, (.tmp 32))]), 32, "", #[⟨8, .chain⟩], none⟩
  (.op ⟨(some 5), (.assign (.tmp 33)), 32, "", #[], none⟩
  .done))
  .stop)))
  (.alt (.op ⟨(some 33), (.buildSlice 32 1 #[(0, (.tmp 32))]), 32, "", #[⟨8, .chain⟩], none⟩
  (.alt (.op ⟨(some 30), (.call ⟨(.value (.func 32)), #[(.tmp 25), (.tmp 27), (.tmp 29)], #[22, 35, 43]⟩), 31, "", #[⟨5, .chain⟩], none⟩
  (.op ⟨(some 4), (.assign (.tmp 30)), 31, "", #[], none⟩
  (.op ⟨(some 5), (.assign (.tmp 33)), 32, "", #[], none⟩
  .done)))
  .stop))
  .stop)))))))))
def F13.r6 : List Oper := [
  ⟨(some 35), (.binOp .eql 3 (.tmp 11) (.const (.int .i64 4)) 3), 4, "", #[], none⟩,
  ⟨(some 34), (.assign (.tmp 35)), 4, "", #[], none⟩]
def F13.r7 : List Oper := [
  ⟨(some 37), (.move (.tmp 0)), 22, "", #[], none⟩,
  ⟨(some 38), (.fieldAddr 45 (.tmp 3) 1), 0, "", #[], none⟩,
  ⟨(some 39), (.load 35 (.tmp 38)), 35, "", #[⟨0, .data⟩], none⟩,
  ⟨(some 40), (.call ⟨(.value (.func 33)), #[(.tmp 37), (.tmp 39)], #[22, 35]⟩), 78, "", #[⟨0, .chain⟩], none⟩,
  ⟨(some 36), (.move (.tmp 40)), 78, "", #[], none⟩,
  ⟨(some 41), (.extract (.tmp 36) 0), 43, "", #[], none⟩,
  ⟨(some 42), (.extract (.tmp 36) 1), 31, "", #[], none⟩,
  ⟨(some 6), (.alloc 43), 0, "", #[⟨0, .chain⟩], none⟩,
  ⟨none, (.store 43 (.tmp 6) (.tmp 41)), 0, "", #[⟨0, .chain⟩], none⟩,
  ⟨(some 7), (.assign (.tmp 42)), 31, "", #[], none⟩]
def F13.r8 : List Oper := [
  ⟨(some 43), (.move (.tmp 7)), 31, "", #[], none⟩,
  ⟨(some 44), (.fieldAddr 45 (.tmp 3) 1), 0, "", #[], none⟩,
  ⟨(some 4), (.assign (.tmp 43)), 31, "", #[], none⟩,
  ⟨(some 45), (.load 35 (.tmp 44)), 35, "", #[⟨8, .data⟩], none⟩,
  ⟨(some 46), (.buildSlice 32 1 #[(0, (.tmp 45))]), 32, "", #[⟨3, .chain⟩], none⟩,
  ⟨(some 5), (.assign (.tmp 46)), 32, "", #[], none⟩]
def F13.r9 : List Oper := [
  ⟨(some 48), (.binOp .eql 3 (.tmp 11) (.const (.int .i64 6)) 3), 4, "", #[], none⟩,
  ⟨(some 47), (.assign (.tmp 48)), 4, "", #[], none⟩]
def F13.r10 : PT :=
  (.op ⟨(some 49), (.move (.tmp 0)), 22, "", #[], none⟩
  (.op ⟨(some 50), (.fieldAddr 45 (.tmp 3) 1), 0, "", #[], none⟩
  (.op ⟨(some 52), (.fieldAddr 45 (.tmp 3) 2), 0, "", #[], none⟩
  (.op ⟨(some 54), (.fieldAddr 45 (.tmp 3) 4), 0, "", #[], none⟩
  (.op ⟨(some 57), (.fieldAddr 45 (.tmp 3) 2), 0, "", #[], none⟩
  (.op ⟨(some 51), (.load 35 (.tmp 50)), 35, "", #[⟨128, .data⟩], none⟩
  (.op ⟨(some 53), (.load 35 (.tmp 52)), 35, "", #[⟨128, .data⟩], none⟩
  (.op ⟨(some 55), (.load 37 (.tmp 54)), 37, "", #[⟨128, .data⟩], none⟩
  (.op ⟨(some 58), (.load 35 (.tmp 57)), 35, "", #[⟨1024, .data⟩], none⟩
  (.alt (.op ⟨(some 56), (.call ⟨(.value (.func 34)), #[(.tmp 49), (.tmp 51), (.tmp 53), (.tmp 55)], #[22, 35, 35, 37]⟩), 31, "", #[⟨7, .chain⟩], none⟩
  (.op ⟨(some 4), (.assign (.tmp 56)), 31, "", #[], none⟩
  (.alt (.op ⟨(some 59), (.buildSlice 32 1 #[(0, (.tmp 58))]), 32, "", #[⟨10, .chain⟩], none⟩
  (.op ⟨(some 5), (.assign (.tmp 59)), 32, "", #[], none⟩
  .done))
  .stop)))
  (.alt (.op ⟨(some 59), (.buildSlice 32 1 #[(0, (.tmp 58))]), 32, "", #[⟨10, .chain⟩], none⟩
  (.alt (.op ⟨(some 56), (.call ⟨(.value (.func 34)), #[(.tmp 49), (.tmp 51), (.tmp 53), (.tmp 55)], #[22, 35, 35, 37]⟩), 31, "", #[⟨7, .chain⟩], none⟩
  (.op ⟨(some 4), (.assign (.tmp 56)), 31, "", #[], none⟩
  (.op ⟨(some 5), (.assign (.tmp 59)), 32, "", #[], none⟩
  .done)))
  .stop))
  .stop)))))))))))
def F13.r11 : List Oper := [
  ⟨(some 61), (.binOp .eql 3 (.tmp 11) (.const (.int .i64 7)) 3), 4, "", #[], none⟩,
  ⟨(some 60), (.assign (.tmp 61)), 4, "", #[], none⟩]
def F13.r12 : PT :=
  (.op ⟨(some 62), (.move (.tmp 0)), 22, "", #[], none⟩
  (.op ⟨(some 63), (.fieldAddr 45 (.tmp 3) 1), 0, "", #[], none⟩
  (.op ⟨(some 65), (.fieldAddr 45 (.tmp 3) 4), 0, "", #[], none⟩
  (.op ⟨(some 67), (.fieldAddr 45 (.tmp 3) 6), 0, "", #[], none⟩
  (.op ⟨(some 69), (.fieldAddr 45 (.tmp 3) 7), 0, "", #[], none⟩
  (.op ⟨(some 72), (.fieldAddr 45 (.tmp 3) 1), 0, "", #[], none⟩
  (.op ⟨(some 64), (.load 35 (.tmp 63)), 35, "", #[⟨512, .data⟩], none⟩
  (.op ⟨(some 66), (.load 37 (.tmp 65)), 37, "", #[⟨512, .data⟩], none⟩
  (.op ⟨(some 68), (.load 5 (.tmp 67)), 5, "", #[⟨512, .data⟩], none⟩
  (.op ⟨(some 70), (.load 4 (.tmp 69)), 4, "", #[⟨512, .data⟩], none⟩
  (.op ⟨(some 73), (.load 35 (.tmp 72)), 35, "", #[⟨4096, .data⟩], none⟩
  (.alt (.op ⟨(some 71), (.call ⟨(.value (.func 18)), #[(.tmp 62), (.tmp 64), (.tmp 66), (.tmp 68), (.tmp 70)], #[22, 35, 37, 5, 4]⟩), 31, "", #[⟨9, .chain⟩], none⟩
  (.op ⟨(some 4), (.assign (.tmp 71)), 31, "", #[], none⟩
  (.alt (.op ⟨(some 74), (.buildSlice 32 1 #[(0, (.tmp 73))]), 32, "", #[⟨12, .chain⟩], none⟩
  (.op ⟨(some 5), (.assign (.tmp 74)), 32, "", #[], none⟩
  .done))
  .stop)))
  (.alt (.op ⟨(some 74), (.buildSlice 32 1 #[(0, (.tmp 73))]), 32, "", #[⟨12, .chain⟩], none⟩
  (.alt (.op ⟨(some 71), (.call ⟨(.value (.func 18)), #[(.tmp 62), (.tmp 64), (.tmp 66), (.tmp 68), (.tmp 70)], #[22, 35, 37, 5, 4]⟩), 31, "", #[⟨9, .chain⟩], none⟩
  (.op ⟨(some 4), (.assign (.tmp 71)), 31, "", #[], none⟩
  (.op ⟨(some 5), (.assign (.tmp 74)), 32, "", #[], none⟩
  .done)))
  .stop))
  .stop)))))))))))))
def F13.r13 : List Oper := [
  ⟨(some 76), (.binOp .eql 3 (.tmp 11) (.const (.int .i64 8)) 3), 4, "", #[], none⟩,
  ⟨(some 75), (.assign (.tmp 76)), 4, "", #[], none⟩]
def F13.r14 : PT :=
  (.op ⟨(some 77), (.move (.tmp 0)), 22, "", #[], none⟩
  (.op ⟨(some 78), (.fieldAddr 45 (.tmp 3) 1), 0, "", #[], none⟩
  (.op ⟨(some 80), (.fieldAddr 45 (.tmp 3) 4), 0, "", #[], none⟩
  (.op ⟨(some 82), (.fieldAddr 45 (.tmp 3) 5), 0, "", #[], none⟩
  (.op ⟨(some 85), (.fieldAddr 45 (.tmp 3) 1), 0, "", #[], none⟩
  (.op ⟨(some 79), (.load 35 (.tmp 78)), 35, "", #[⟨128, .data⟩], none⟩
  (.op ⟨(some 81), (.load 37 (.tmp 80)), 37, "", #[⟨128, .data⟩], none⟩
  (.op ⟨(some 83), (.load 37 (.tmp 82)), 37, "", #[⟨128, .data⟩], none⟩
  (.op ⟨(some 86), (.load 35 (.tmp 85)), 35, "", #[⟨1024, .data⟩], none⟩
  (.alt (.op ⟨(some 84), (.call ⟨(.value (.func 35)), #[(.tmp 77), (.tmp 79), (.tmp 81), (.tmp 83)], #[22, 35, 37, 37]⟩), 31, "", #[⟨7, .chain⟩], none⟩
  (.op ⟨(some 4), (.assign (.tmp 84)), 31, "", #[], none⟩
  (.alt (.op ⟨(some 87), (.buildSlice 32 1 #[(0, (.tmp 86))]), 32, "", #[⟨10, .chain⟩], none⟩
  (.op ⟨(some 5), (.assign (.tmp 87)), 32, "", #[], none⟩
  .done))
  .stop)))
  (.alt (.op ⟨(some 87), (.buildSlice 32 1 #[(0, (.tmp 86))]), 32, "", #[⟨10, .chain⟩], none⟩
  (.alt (.op ⟨(some 84), (.call ⟨(.value (.func 35)), #[(.tmp 77), (.tmp 79), (.tmp 81), (.tmp 83)], #[22, 35, 37, 37]⟩), 31, "", #[⟨7, .chain⟩], none⟩
  (.op ⟨(some 4), (.assign (.tmp 84)), 31, "", #[], none⟩
  (.op ⟨(some 5), (.assign (.tmp 87)), 32, "", #[], none⟩
  .done)))
  .stop))
  .stop)))))))))))
def F13.r15 : List Oper := [
  ⟨(some 89), (.binOp .eql 3 (.tmp 11) (.const (.int .i64 5)) 3), 4, "", #[], none⟩,
  ⟨(some 88), (.assign (.tmp 89)), 4, "", #[], none⟩]
def F13.r16 : List Oper := [
  ⟨(some 90), (.move (.tmp 0)), 22, "", #[], none⟩,
  ⟨(some 91), (.fieldAddr 45 (.tmp 3) 1), 0, "", #[], none⟩,
  ⟨(some 92), (.load 35 (.tmp 91)), 35, "", #[⟨0, .data⟩], none⟩,
  ⟨(some 93), (.fieldAddr 45 (.tmp 3) 2), 0, "", #[], none⟩,
  ⟨(some 94), (.load 35 (.tmp 93)), 35, "", #[⟨0, .data⟩], none⟩,
  ⟨(some 95), (.call ⟨(.value (.func 36)), #[(.tmp 90), (.tmp 92), (.tmp 94)], #[22, 35, 35]⟩), 31, "", #[⟨0, .chain⟩], none⟩,
  ⟨(some 4), (.assign (.tmp 95)), 31, "", #[], none⟩,
  ⟨(some 5), (.assign (.const (.slice none 0 0))), 32, "", #[], none⟩]
def F13.r17 : List Oper := [
  ⟨(some 97), (.binOp .eql 3 (.tmp 11) (.const (.int .i64 1)) 3), 4, "", #[], none⟩,
  ⟨(some 96), (.assign (.tmp 97)), 4, "", #[], none⟩]
def F13.r18 : List Oper := [
  ⟨(some 99), (.move (.tmp 0)), 22, "", #[], none⟩,
  ⟨(some 100), (.fieldAddr 45 (.tmp 3) 1), 0, "", #[], none⟩,
  ⟨(some 101), (.load 35 (.tmp 100)), 35, "", #[⟨0, .data⟩], none⟩,
  ⟨(some 102), (.call ⟨(.value (.func 30)), #[(.tmp 99), (.tmp 101)], #[22, 35]⟩), 78, "", #[⟨0, .chain⟩], none⟩,
  ⟨(some 98), (.move (.tmp 102)), 78, "", #[], none⟩,
  ⟨(some 103), (.extract (.tmp 98) 0), 43, "", #[], none⟩,
  ⟨(some 104), (.extract (.tmp 98) 1), 31, "", #[], none⟩,
  ⟨(some 8), (.alloc 43), 0, "", #[⟨0, .chain⟩], none⟩,
  ⟨none, (.store 43 (.tmp 8) (.tmp 103)), 0, "", #[⟨0, .chain⟩], none⟩,
  ⟨(some 9), (.assign (.tmp 104)), 31, "", #[], none⟩]
def F13.r19 : List Oper := [
  ⟨(some 105), (.move (.tmp 9)), 31, "", #[], none⟩,
  ⟨(some 4), (.assign (.tmp 105)), 31, "", #[], none⟩,
  ⟨(some 5), (.assign (.const (.slice none 0 0))), 32, "", #[], none⟩]
def F13.r20 : List Oper := [
  ⟨(some 107), (.binOp .eql 3 (.tmp 11) (.const (.int .i64 11)) 3), 4, "", #[], none⟩,
  ⟨(some 106), (.assign (.tmp 107)), 4, "", #[], none⟩]
def F13.r21 : List Oper := [
  ⟨(some 108), (.move (.tmp 0)), 22, "", #[], none⟩,
  ⟨(some 109), (.call ⟨(.value (.func 14)), #[(.tmp 108)], #[22]⟩), 3, "", #[⟨0, .chain⟩], none⟩]
def F13.r22 : List Oper := [
  ⟨(some 110), (.move (.tmp 0)), 22, "", #[], none⟩,
  ⟨(some 111), (.fieldAddr 45 (.tmp 3) 4), 0, "", #[], none⟩,
  ⟨(some 112), (.load 37 (.tmp 111)), 37, "", #[⟨0, .data⟩], none⟩,
  ⟨(some 113), (.call ⟨(.value (.func 19)), #[(.tmp 110), (.tmp 112)], #[22, 37]⟩), 3, "", #[⟨0, .chain⟩], none⟩]
def F13.r23 : List Oper := [
  ⟨(some 4), (.assign (.const (.int .i64 0))), 31, "", #[], none⟩,
  ⟨(some 5), (.assign (.const (.slice none 0 0))), 32, "", #[], none⟩]
def F13.t23 : Cd := (.seq (.region 23 F13.r23.toArray false) .ret)
theorem F13.t23_eq {P : Program} {Q : Post} {e : FA} {w : World} {θ : Tag (F13.t23, Q, e, w)} : cwE P F13.t23 Q e w θ = cwE P (.seq (.region 23 F13.r23.toArray false) .ret) Q e w := rfl
def F13.code : Cd := (.seq (.region 0 F13.r0.toArray false) (.seq (.seq (.region 1 F13.r1.toArray false) (.block 0 (.seq (.region 2 F13.r2.toArray false) (.cond (.tmp 12) (.seq (.tree F13.r3) .ret) (.seq (.region 4 F13.r4.toArray false) (.cond (.tmp 23) (.seq (.tree F13.r5) .ret) (.seq (.region 6 F13.r6.toArray false) (.cond (.tmp 34) (.seq (.region 7 F13.r7.toArray false) (.seq (.region 8 F13.r8.toArray true) .ret)) (.seq (.region 9 F13.r9.toArray false) (.cond (.tmp 47) (.seq (.tree F13.r10) .ret) (.seq (.region 11 F13.r11.toArray false) (.cond (.tmp 60) (.seq (.tree F13.r12) .ret) (.seq (.region 13 F13.r13.toArray false) (.cond (.tmp 75) (.seq (.tree F13.r14) .ret) (.seq (.region 15 F13.r15.toArray false) (.cond (.tmp 88) (.seq (.region 16 F13.r16.toArray false) .ret) (.seq (.region 17 F13.r17.toArray false) (.cond (.tmp 96) (.seq (.region 18 F13.r18.toArray false) (.seq (.region 19 F13.r19.toArray false) .ret)) (.seq (.region 20 F13.r20.toArray false) (.cond (.tmp 106) (.seq (.region 21 F13.r21.toArray false) (.region 22 F13.r22.toArray false)) .skip)))))))))))))))))))) F13.t23))
theorem F13.calls {args : Array Value} {w : World} {R : Ending → World → Prop} (hn : args.size ≤ 114) (h : cwE Try.prog F13.code (fnP Try.prog #[(.tmp 4), (.tmp 5)] R) (entry args) w) : Calls Try.prog 13 args w R :=
  calls_of_cwE (types := Try.prog.types) follows Try.func13 F13.code rfl (by kernel_rfl) hn h

def F14.r0 : List Oper := [
  ⟨(some 2), (.assign (.const (.int .i64 0))), 3, "", #[], none⟩]
def F14.r1 : List Oper := [
  ⟨(some 3), (.move (.tmp 0)), 22, "", #[], none⟩,
  ⟨(some 4), (.nilCheck (.tmp 3)), 0, "", #[], none⟩,
  ⟨(some 5), (.fieldAddr 88 (.tmp 4) 1), 0, "", #[], none⟩,
  ⟨(some 6), (.load 86 (.tmp 5)), 86, "", #[⟨0, .data⟩], none⟩,
  ⟨(some 7), (.call ⟨(.builtin .len), #[(.tmp 6)], #[86]⟩), 3, "", #[⟨0, .data⟩], none⟩,
  ⟨(some 2), (.assign (.tmp 7)), 3, "", #[], none⟩]
def F14.code : Cd := (.seq (.region 0 F14.r0.toArray false) (.seq (.region 1 F14.r1.toArray false) .ret))
theorem F14.calls {args : Array Value} {w : World} {R : Ending → World → Prop} (hn : args.size ≤ 8) (h : cwE Try.prog F14.code (fnP Try.prog #[(.tmp 2)] R) (entry args) w) : Calls Try.prog 14 args w R :=
  calls_of_cwE (types := Try.prog.types) follows Try.func14 F14.code rfl (by kernel_rfl) hn h

def F15.r0 : List Oper := [
  ⟨(some 4), (.alloc 43), 0, "", #[⟨0, .chain⟩], none⟩,
  ⟨(some 5), (.assign (.const (.bool false))), 4, "", #[], none⟩]
def F15.r1 : List Oper := [
  ⟨(some 6), (.assign (.const (.int .i64 0))), 3, "", #[], none⟩]
def F15.r2 : List Oper := [
  ⟨(some 8), (.move (.tmp 6)), 3, "", #[], none⟩,
  ⟨(some 9), (.move (.tmp 0)), 28, "", #[], none⟩,
  ⟨(some 10), (.call ⟨(.builtin .len), #[(.tmp 9)], #[28]⟩), 3, "", #[], none⟩,
  ⟨(some 11), (.binOp .lss 3 (.tmp 8) (.tmp 10) 3), 4, "", #[], none⟩]
def F15.r4 : List Oper := [
  ⟨(some 14), (.move (.tmp 0)), 28, "", #[], none⟩,
  ⟨(some 15), (.move (.tmp 6)), 3, "", #[], none⟩,
  ⟨(some 16), (.indexAddr 28 (.tmp 14) (.tmp 15)), 0, "", #[], none⟩,
  ⟨(some 17), (.fieldAddr 48 (.tmp 16) 0), 0, "", #[], none⟩,
  ⟨(some 18), (.load 35 (.tmp 17)), 35, "", #[⟨0, .data⟩], none⟩,
  ⟨(some 19), (.move (.tmp 1)), 35, "", #[], none⟩,
  ⟨(some 20), (.binOp .eql 35 (.tmp 18) (.tmp 19) 35), 4, "", #[], none⟩]
def F15.r5 : List Oper := [
  ⟨(some 21), (.move (.tmp 0)), 28, "", #[], none⟩,
  ⟨(some 22), (.move (.tmp 6)), 3, "", #[], none⟩,
  ⟨(some 23), (.indexAddr 28 (.tmp 21) (.tmp 22)), 0, "", #[], none⟩,
  ⟨(some 24), (.fieldAddr 48 (.tmp 23) 1), 0, "", #[], none⟩,
  ⟨(some 25), (.load 43 (.tmp 24)), 43, "", #[⟨0, .data⟩], none⟩,
  ⟨none, (.store 43 (.tmp 4) (.tmp 25)), 0, "", #[⟨0, .chain⟩], none⟩,
  ⟨(some 5), (.assign (.const (.bool true))), 4, "", #[], none⟩]
def F15.r3 : List Oper := [
  ⟨(some 12), (.move (.tmp 6)), 3, "", #[], none⟩,
  ⟨(some 13), (.binOp .add 3 (.tmp 12) (.const (.int .i64 1)) 3), 3, "", #[], none⟩,
  ⟨(some 6), (.assign (.tmp 13)), 3, "", #[], none⟩]
def F15.r6 : List Oper := [
  ⟨(some 7), (.alloc 43), 0, "", #[⟨0, .chain⟩], none⟩]
def F15.r7 : List Oper := [
  ⟨(some 26), (.load 43 (.tmp 7)), 43, "", #[⟨0, .data⟩], none⟩,
  ⟨none, (.store 43 (.tmp 4) (.tmp 26)), 0, "", #[⟨0, .chain⟩], none⟩,
  ⟨(some 5), (.assign (.const (.bool false))), 4, "", #[], none⟩]
def F15.t3 : Cd := (.region 3 F15.r3.toArray false)
theorem F15.t3_eq {P : Program} {Q : Post} {e : FA} {w : World} {θ : Tag (F15.t3, Q, e, w)} : cwE P F15.t3 Q e w θ = cwE P (.region 3 F15.r3.toArray false) Q e w := rfl
def F15.t4 : Cd := (.seq (.block 1 (.seq (.region 4 F15.r4.toArray false) (.cond (.tmp 20) (.seq (.region 5 F15.r5.toArray false) .ret) .skip))) F15.t3)
theorem F15.t4_eq {P : Program} {Q : Post} {e : FA} {w : World} {θ : Tag (F15.t4, Q, e, w)} : cwE P F15.t4 Q e w θ = cwE P (.seq (.block 1 (.seq (.region 4 F15.r4.toArray false) (.cond (.tmp 20) (.seq (.region 5 F15.r5.toArray false) .ret) .skip))) F15.t3) Q e w := rfl
def F15.t6 : Cd := (.seq (.region 6 F15.r6.toArray false) (.seq (.region 7 F15.r7.toArray false) .ret))
theorem F15.t6_eq {P : Program} {Q : Post} {e : FA} {w : World} {θ : Tag (F15.t6, Q, e, w)} : cwE P F15.t6 Q e w θ = cwE P (.seq (.region 6 F15.r6.toArray false) (.seq (.region 7 F15.r7.toArray false) .ret)) Q e w := rfl
def F15.code : Cd := (.seq (.region 0 F15.r0.toArray false) (.seq (.seq (.region 1 F15.r1.toArray false) (.block 0 (.loop (.seq (.seq (.region 2 F15.r2.toArray false) (.cond (.tmp 11) .skip (.exit 0))) F15.t4)))) F15.t6))
theorem F15.calls {args : Array Value} {w : World} {R : Ending → World → Prop} (hn : args.size ≤ 27) (h : cwE Try.prog F15.code (fnP Try.prog #[(.cell 4 43), (.tmp 5)] R) (entry args) w) : Calls Try.prog 15 args w R :=
  calls_of_cwE (types := Try.prog.types) follows Try.func15 F15.code rfl (by kernel_rfl) hn h

def F16.r0 : List Oper := [
  ⟨(some 2), (.box 43 (.tmp 0)), 0, "", #[⟨0, .chain⟩], none⟩,
  ⟨(some 3), (.box 43 (.tmp 1)), 0, "", #[⟨0, .chain⟩], none⟩,
  ⟨(some 4), (.assign (.const (.bool false))), 4, "", #[], none⟩]
def F16.r1 : List Oper := [
  ⟨(some 7), (.fieldAddr 43 (.tmp 2) 7), 0, "", #[], none⟩,
  ⟨(some 8), (.fieldAddr 41 (.tmp 7) 6), 0, "", #[], none⟩,
  ⟨(some 9), (.load 39 (.tmp 8)), 39, "", #[⟨0, .data⟩], none⟩,
  ⟨(some 10), (.convert 39 9 (.tmp 9)), 9, "", #[⟨0, .data⟩], none⟩,
  ⟨(some 11), (.fieldAddr 43 (.tmp 3) 7), 0, "", #[], none⟩,
  ⟨(some 12), (.fieldAddr 41 (.tmp 11) 6), 0, "", #[], none⟩,
  ⟨(some 13), (.load 39 (.tmp 12)), 39, "", #[⟨0, .data⟩], none⟩,
  ⟨(some 14), (.convert 39 9 (.tmp 13)), 9, "", #[⟨0, .data⟩], none⟩,
  ⟨(some 15), (.binOp .neq 9 (.tmp 10) (.tmp 14) 9), 4, "", #[], none⟩]
def F16.r2 : List Oper := [
  ⟨(some 4), (.assign (.const (.bool false))), 4, "", #[], none⟩]
def F16.r3 : List Oper := [
  ⟨(some 16), (.fieldAddr 43 (.tmp 2) 7), 0, "", #[], none⟩,
  ⟨(some 17), (.load 41 (.tmp 16)), 41, "", #[⟨0, .data⟩], none⟩,
  ⟨(some 5), (.alloc 41), 0, "", #[⟨0, .chain⟩], none⟩,
  ⟨none, (.store 41 (.tmp 5) (.tmp 17)), 0, "", #[⟨0, .chain⟩], none⟩]
def F16.r4 : List Oper := [
  ⟨(some 18), (.fieldAddr 43 (.tmp 3) 7), 0, "", #[], none⟩,
  ⟨(some 19), (.load 41 (.tmp 18)), 41, "", #[⟨0, .data⟩], none⟩,
  ⟨(some 6), (.alloc 41), 0, "", #[⟨0, .chain⟩], none⟩,
  ⟨none, (.store 41 (.tmp 6) (.tmp 19)), 0, "", #[⟨0, .chain⟩], none⟩]
def F16.r5 : List Oper := [
  ⟨(some 20), (.fieldAddr 43 (.tmp 2) 0), 0, "", #[], none⟩,
  ⟨(some 21), (.load 36 (.tmp 20)), 36, "", #[⟨0, .data⟩], none⟩,
  ⟨(some 22), (.fieldAddr 43 (.tmp 3) 0), 0, "", #[], none⟩,
  ⟨(some 23), (.load 36 (.tmp 22)), 36, "", #[⟨0, .data⟩], none⟩,
  ⟨(some 24), (.binOp .eql 36 (.tmp 21) (.tmp 23) 36), 4, "", #[], none⟩,
  ⟨(some 25), (.move (.tmp 24)), 4, "", #[], none⟩,
  ⟨(some 26), (.fieldAddr 43 (.tmp 2) 1), 0, "", #[], (some (25, true))⟩,
  ⟨(some 27), (.load 37 (.tmp 26)), 37, "", #[⟨0, .data⟩], (some (25, true))⟩,
  ⟨(some 28), (.fieldAddr 43 (.tmp 3) 1), 0, "", #[], (some (25, true))⟩,
  ⟨(some 29), (.load 37 (.tmp 28)), 37, "", #[⟨0, .data⟩], (some (25, true))⟩,
  ⟨(some 30), (.binOp .eql 37 (.tmp 27) (.tmp 29) 37), 4, "", #[], (some (25, true))⟩,
  ⟨(some 31), (.pick (.tmp 25) (.tmp 30) (.const (.bool false))), 4, "", #[], none⟩,
  ⟨(some 32), (.move (.tmp 31)), 4, "", #[], none⟩,
  ⟨(some 33), (.fieldAddr 43 (.tmp 2) 2), 0, "", #[], (some (32, true))⟩,
  ⟨(some 34), (.load 9 (.tmp 33)), 9, "", #[⟨0, .data⟩], (some (32, true))⟩,
  ⟨(some 35), (.fieldAddr 43 (.tmp 3) 2), 0, "", #[], (some (32, true))⟩,
  ⟨(some 36), (.load 9 (.tmp 35)), 9, "", #[⟨0, .data⟩], (some (32, true))⟩,
  ⟨(some 37), (.binOp .eql 9 (.tmp 34) (.tmp 36) 9), 4, "", #[], (some (32, true))⟩,
  ⟨(some 38), (.pick (.tmp 32) (.tmp 37) (.const (.bool false))), 4, "", #[], none⟩,
  ⟨(some 39), (.move (.tmp 38)), 4, "", #[], none⟩,
  ⟨(some 40), (.fieldAddr 43 (.tmp 2) 3), 0, "", #[], (some (39, true))⟩,
  ⟨(some 41), (.load 5 (.tmp 40)), 5, "", #[⟨0, .data⟩], (some (39, true))⟩,
  ⟨(some 42), (.fieldAddr 43 (.tmp 3) 3), 0, "", #[], (some (39, true))⟩,
  ⟨(some 43), (.load 5 (.tmp 42)), 5, "", #[⟨0, .data⟩], (some (39, true))⟩,
  ⟨(some 44), (.binOp .eql 5 (.tmp 41) (.tmp 43) 5), 4, "", #[], (some (39, true))⟩,
  ⟨(some 45), (.pick (.tmp 39) (.tmp 44) (.const (.bool false))), 4, "", #[], none⟩,
  ⟨(some 46), (.move (.tmp 45)), 4, "", #[], none⟩,
  ⟨(some 47), (.fieldAddr 43 (.tmp 2) 4), 0, "", #[], (some (46, true))⟩,
  ⟨(some 48), (.load 4 (.tmp 47)), 4, "", #[⟨0, .data⟩], (some (46, true))⟩,
  ⟨(some 49), (.fieldAddr 43 (.tmp 3) 4), 0, "", #[], (some (46, true))⟩,
  ⟨(some 50), (.load 4 (.tmp 49)), 4, "", #[⟨0, .data⟩], (some (46, true))⟩,
  ⟨(some 51), (.binOp .eql 4 (.tmp 48) (.tmp 50) 4), 4, "", #[], (some (46, true))⟩,
  ⟨(some 52), (.pick (.tmp 46) (.tmp 51) (.const (.bool false))), 4, "", #[], none⟩,
  ⟨(some 53), (.move (.tmp 52)), 4, "", #[], none⟩,
  ⟨(some 54), (.fieldAddr 43 (.tmp 2) 5), 0, "", #[], (some (53, true))⟩,
  ⟨(some 55), (.load 37 (.tmp 54)), 37, "", #[⟨0, .data⟩], (some (53, true))⟩,
  ⟨(some 56), (.fieldAddr 43 (.tmp 3) 5), 0, "", #[], (some (53, true))⟩,
  ⟨(some 57), (.load 37 (.tmp 56)), 37, "", #[⟨0, .data⟩], (some (53, true))⟩,
  ⟨(some 58), (.binOp .eql 37 (.tmp 55) (.tmp 57) 37), 4, "", #[], (some (53, true))⟩,
  ⟨(some 59), (.pick (.tmp 53) (.tmp 58) (.const (.bool false))), 4, "", #[], none⟩,
  ⟨(some 60), (.move (.tmp 59)), 4, "", #[], none⟩,
  ⟨(some 61), (.fieldAddr 43 (.tmp 2) 6), 0, "", #[], (some (60, true))⟩,
  ⟨(some 62), (.load 37 (.tmp 61)), 37, "", #[⟨0, .data⟩], (some (60, true))⟩,
  ⟨(some 63), (.fieldAddr 43 (.tmp 3) 6), 0, "", #[], (some (60, true))⟩,
  ⟨(some 64), (.load 37 (.tmp 63)), 37, "", #[⟨0, .data⟩], (some (60, true))⟩,
  ⟨(some 65), (.binOp .eql 37 (.tmp 62) (.tmp 64) 37), 4, "", #[], (some (60, true))⟩,
  ⟨(some 66), (.pick (.tmp 60) (.tmp 65) (.const (.bool false))), 4, "", #[], none⟩,
  ⟨(some 67), (.move (.tmp 66)), 4, "", #[], none⟩,
  ⟨(some 68), (.fieldAddr 41 (.tmp 5) 0), 0, "", #[], (some (67, true))⟩,
  ⟨(some 69), (.load 9 (.tmp 68)), 9, "", #[⟨0, .data⟩], (some (67, true))⟩,
  ⟨(some 70), (.fieldAddr 41 (.tmp 6) 0), 0, "", #[], (some (67, true))⟩,
  ⟨(some 71), (.load 9 (.tmp 70)), 9, "", #[⟨0, .data⟩], (some (67, true))⟩,
  ⟨(some 72), (.binOp .eql 9 (.tmp 69) (.tmp 71) 9), 4, "", #[], (some (67, true))⟩,
  ⟨(some 73), (.pick (.tmp 67) (.tmp 72) (.const (.bool false))), 4, "", #[], none⟩,
  ⟨(some 74), (.move (.tmp 73)), 4, "", #[], none⟩,
  ⟨(some 75), (.fieldAddr 41 (.tmp 5) 1), 0, "", #[], (some (74, true))⟩,
  ⟨(some 76), (.load 9 (.tmp 75)), 9, "", #[⟨0, .data⟩], (some (74, true))⟩,
  ⟨(some 77), (.fieldAddr 41 (.tmp 6) 1), 0, "", #[], (some (74, true))⟩,
  ⟨(some 78), (.load 9 (.tmp 77)), 9, "", #[⟨0, .data⟩], (some (74, true))⟩,
  ⟨(some 79), (.binOp .eql 9 (.tmp 76) (.tmp 78) 9), 4, "", #[], (some (74, true))⟩,
  ⟨(some 80), (.pick (.tmp 74) (.tmp 79) (.const (.bool false))), 4, "", #[], none⟩,
  ⟨(some 81), (.move (.tmp 80)), 4, "", #[], none⟩,
  ⟨(some 82), (.fieldAddr 41 (.tmp 5) 2), 0, "", #[], (some (81, true))⟩,
  ⟨(some 83), (.load 37 (.tmp 82)), 37, "", #[⟨0, .data⟩], (some (81, true))⟩,
  ⟨(some 84), (.fieldAddr 41 (.tmp 6) 2), 0, "", #[], (some (81, true))⟩,
  ⟨(some 85), (.load 37 (.tmp 84)), 37, "", #[⟨0, .data⟩], (some (81, true))⟩,
  ⟨(some 86), (.binOp .eql 37 (.tmp 83) (.tmp 85) 37), 4, "", #[], (some (81, true))⟩,
  ⟨(some 87), (.pick (.tmp 81) (.tmp 86) (.const (.bool false))), 4, "", #[], none⟩,
  ⟨(some 88), (.move (.tmp 87)), 4, "", #[], none⟩,
  ⟨(some 89), (.fieldAddr 41 (.tmp 5) 3), 0, "", #[], (some (88, true))⟩,
  ⟨(some 90), (.load 37 (.tmp 89)), 37, "", #[⟨0, .data⟩], (some (88, true))⟩,
  ⟨(some 91), (.fieldAddr 41 (.tmp 6) 3), 0, "", #[], (some (88, true))⟩,
  ⟨(some 92), (.load 37 (.tmp 91)), 37, "", #[⟨0, .data⟩], (some (88, true))⟩,
  ⟨(some 93), (.binOp .eql 37 (.tmp 90) (.tmp 92) 37), 4, "", #[], (some (88, true))⟩,
  ⟨(some 94), (.pick (.tmp 88) (.tmp 93) (.const (.bool false))), 4, "", #[], none⟩,
  ⟨(some 95), (.move (.tmp 94)), 4, "", #[], none⟩,
  ⟨(some 96), (.fieldAddr 41 (.tmp 5) 4), 0, "", #[], (some (95, true))⟩,
  ⟨(some 97), (.load 38 (.tmp 96)), 38, "", #[⟨0, .data⟩], (some (95, true))⟩,
  ⟨(some 98), (.fieldAddr 41 (.tmp 6) 4), 0, "", #[], (some (95, true))⟩,
  ⟨(some 99), (.load 38 (.tmp 98)), 38, "", #[⟨0, .data⟩], (some (95, true))⟩,
  ⟨(some 100), (.binOp .eql 38 (.tmp 97) (.tmp 99) 38), 4, "", #[], (some (95, true))⟩,
  ⟨(some 101), (.pick (.tmp 95) (.tmp 100) (.const (.bool false))), 4, "", #[], none⟩,
  ⟨(some 102), (.move (.tmp 101)), 4, "", #[], none⟩,
  ⟨(some 103), (.fieldAddr 41 (.tmp 5) 5), 0, "", #[], (some (102, true))⟩,
  ⟨(some 104), (.load 3 (.tmp 103)), 3, "", #[⟨0, .data⟩], (some (102, true))⟩,
  ⟨(some 105), (.fieldAddr 41 (.tmp 6) 5), 0, "", #[], (some (102, true))⟩,
  ⟨(some 106), (.load 3 (.tmp 105)), 3, "", #[⟨0, .data⟩], (some (102, true))⟩,
  ⟨(some 107), (.binOp .eql 3 (.tmp 104) (.tmp 106) 3), 4, "", #[], (some (102, true))⟩,
  ⟨(some 108), (.pick (.tmp 102) (.tmp 107) (.const (.bool false))), 4, "", #[], none⟩,
  ⟨(some 4), (.assign (.tmp 108)), 4, "", #[], none⟩]
def F16.t3 : Cd := (.seq (.region 3 F16.r3.toArray false) (.seq (.region 4 F16.r4.toArray false) (.seq (.region 5 F16.r5.toArray false) .ret)))
theorem F16.t3_eq {P : Program} {Q : Post} {e : FA} {w : World} {θ : Tag (F16.t3, Q, e, w)} : cwE P F16.t3 Q e w θ = cwE P (.seq (.region 3 F16.r3.toArray false) (.seq (.region 4 F16.r4.toArray false) (.seq (.region 5 F16.r5.toArray false) .ret))) Q e w := rfl
def F16.code : Cd := (.seq (.region 0 F16.r0.toArray false) (.seq (.seq (.region 1 F16.r1.toArray false) (.cond (.tmp 15) (.seq (.region 2 F16.r2.toArray false) .ret) .skip)) F16.t3))
theorem F16.calls {args : Array Value} {w : World} {R : Ending → World → Prop} (hn : args.size ≤ 109) (h : cwE Try.prog F16.code (fnP Try.prog #[(.tmp 4)] R) (entry args) w) : Calls Try.prog 16 args w R :=
  calls_of_cwE (types := Try.prog.types) follows Try.func16 F16.code rfl (by kernel_rfl) hn h

def F17.r0 : List Oper := [
  ⟨(some 4), (.assign (.const (.bool false))), 4, "", #[], none⟩]
def F17.r1 : List Oper := [
  ⟨(some 5), (.assign (.const (.int .i64 0))), 3, "", #[], none⟩]
def F17.r2 : List Oper := [
  ⟨(some 6), (.move (.tmp 5)), 3, "", #[], none⟩,
  ⟨(some 7), (.move (.tmp 0)), 32, "", #[], none⟩,
  ⟨(some 8), (.call ⟨(.builtin .len), #[(.tmp 7)], #[32]⟩), 3, "", #[], none⟩,
  ⟨(some 9), (.binOp .lss 3 (.tmp 6) (.tmp 8) 3), 4, "", #[], none⟩]
def F17.r4 : List Oper := [
  ⟨(some 12), (.move (.tmp 0)), 32, "", #[], none⟩,
  ⟨(some 13), (.move (.tmp 5)), 3, "", #[], none⟩,
  ⟨(some 14), (.indexAddr 32 (.tmp 12) (.tmp 13)), 0, "", #[], none⟩,
  ⟨(some 15), (.load 35 (.tmp 14)), 35, "", #[⟨0, .data⟩], none⟩,
  ⟨(some 16), (.move (.tmp 1)), 35, "", #[], none⟩,
  ⟨(some 17), (.binOp .eql 35 (.tmp 15) (.tmp 16) 35), 4, "", #[], none⟩]
def F17.r5 : List Oper := [
  ⟨(some 4), (.assign (.const (.bool true))), 4, "", #[], none⟩]
def F17.r3 : List Oper := [
  ⟨(some 10), (.move (.tmp 5)), 3, "", #[], none⟩,
  ⟨(some 11), (.binOp .add 3 (.tmp 10) (.const (.int .i64 1)) 3), 3, "", #[], none⟩,
  ⟨(some 5), (.assign (.tmp 11)), 3, "", #[], none⟩]
def F17.r6 : List Oper := [
  ⟨(some 4), (.assign (.const (.bool false))), 4, "", #[], none⟩]
def F17.t3 : Cd := (.region 3 F17.r3.toArray false)
theorem F17.t3_eq {P : Program} {Q : Post} {e : FA} {w : World} {θ : Tag (F17.t3, Q, e, w)} : cwE P F17.t3 Q e w θ = cwE P (.region 3 F17.r3.toArray false) Q e w := rfl
def F17.t4 : Cd := (.seq (.block 1 (.seq (.region 4 F17.r4.toArray false) (.cond (.tmp 17) (.seq (.region 5 F17.r5.toArray false) .ret) .skip))) F17.t3)
theorem F17.t4_eq {P : Program} {Q : Post} {e : FA} {w : World} {θ : Tag (F17.t4, Q, e, w)} : cwE P F17.t4 Q e w θ = cwE P (.seq (.block 1 (.seq (.region 4 F17.r4.toArray false) (.cond (.tmp 17) (.seq (.region 5 F17.r5.toArray false) .ret) .skip))) F17.t3) Q e w := rfl
def F17.t6 : Cd := (.seq (.region 6 F17.r6.toArray false) .ret)
theorem F17.t6_eq {P : Program} {Q : Post} {e : FA} {w : World} {θ : Tag (F17.t6, Q, e, w)} : cwE P F17.t6 Q e w θ = cwE P (.seq (.region 6 F17.r6.toArray false) .ret) Q e w := rfl
def F17.code : Cd := (.seq (.region 0 F17.r0.toArray false) (.seq (.seq (.region 1 F17.r1.toArray false) (.block 0 (.loop (.seq (.seq (.region 2 F17.r2.toArray false) (.cond (.tmp 9) .skip (.exit 0))) F17.t4)))) F17.t6))
theorem F17.calls {args : Array Value} {w : World} {R : Ending → World → Prop} (hn : args.size ≤ 18) (h : cwE Try.prog F17.code (fnP Try.prog #[(.tmp 4)] R) (entry args) w) : Calls Try.prog 17 args w R :=
  calls_of_cwE (types := Try.prog.types) follows Try.func17 F17.code rfl (by kernel_rfl) hn h

def F18.r0 : List Oper := [
  ⟨(some 10), (.assign (.const (.int .i64 0))), 31, "", #[], none⟩]
def F18.r1 : List Oper := [
  ⟨(some 15), (.move (.tmp 0)), 22, "", #[], none⟩,
  ⟨(some 16), (.nilCheck (.tmp 15)), 0, "", #[], none⟩,
  ⟨(some 17), (.fieldAddr 88 (.tmp 16) 1), 0, "", #[], none⟩,
  ⟨(some 18), (.load 86 (.tmp 17)), 86, "", #[⟨0, .data⟩], none⟩,
  ⟨(some 19), (.move (.tmp 1)), 35, "", #[], none⟩,
  ⟨(some 20), (.lookup 86 (.tmp 18) (.tmp 19) true), 49, "", #[⟨0, .data⟩], none⟩,
  ⟨(some 14), (.move (.tmp 20)), 49, "", #[], none⟩,
  ⟨(some 21), (.extract (.tmp 14) 0), 43, "", #[], none⟩,
  ⟨(some 22), (.extract (.tmp 14) 1), 4, "", #[], none⟩,
  ⟨(some 11), (.alloc 43), 0, "", #[⟨0, .chain⟩], none⟩,
  ⟨none, (.store 43 (.tmp 11) (.tmp 21)), 0, "", #[⟨0, .chain⟩], none⟩,
  ⟨(some 12), (.assign (.tmp 22)), 4, "", #[], none⟩]
def F18.r2 : List Oper := [
  ⟨(some 23), (.move (.tmp 12)), 4, "", #[], none⟩,
  ⟨(some 24), (.unOp .not 4 (.tmp 23)), 4, "", #[], none⟩]
def F18.r3 : List Oper := [
  ⟨(some 10), (.assign (.const (.int .i64 100))), 31, "", #[], none⟩]
def F18.r4 : List Oper := [
  ⟨(some 25), (.load 43 (.tmp 11)), 43, "", #[⟨0, .data⟩], none⟩,
  ⟨(some 26), (.call ⟨(.value (.func 37)), #[(.tmp 25)], #[43]⟩), 31, "", #[⟨0, .chain⟩], none⟩,
  ⟨(some 13), (.assign (.tmp 26)), 31, "", #[], none⟩]
def F18.r5 : List Oper := [
  ⟨(some 27), (.move (.tmp 13)), 31, "", #[], none⟩,
  ⟨(some 28), (.binOp .neq 31 (.tmp 27) (.const (.int .i64 0)) 31), 4, "", #[], none⟩]
def F18.r6 : List Oper := [
  ⟨(some 29), (.move (.tmp 13)), 31, "", #[], none⟩,
  ⟨(some 10), (.assign (.tmp 29)), 31, "", #[], none⟩]
def F18.r7 : List Oper := [
  ⟨(some 30), (.move (.tmp 0)), 22, "", #[], none⟩,
  ⟨(some 31), (.nilCheck (.tmp 30)), 0, "", #[], none⟩,
  ⟨(some 32), (.fieldAddr 88 (.tmp 31) 1), 0, "", #[], none⟩,
  ⟨(some 34), (.move (.tmp 1)), 35, "", #[], none⟩,
  ⟨(some 35), (.move (.tmp 2)), 37, "", #[], none⟩,
  ⟨(some 36), (.fieldAddr 43 (.tmp 11) 2), 0, "", #[], none⟩,
  ⟨(some 38), (.move (.tmp 3)), 5, "", #[], none⟩,
  ⟨(some 39), (.binOp .and 5 (.tmp 38) (.const (.int .u8 3)) 5), 5, "", #[], none⟩,
  ⟨(some 40), (.move (.tmp 4)), 4, "", #[], none⟩,
  ⟨(some 33), (.load 86 (.tmp 32)), 86, "", #[⟨4096, .data⟩], none⟩,
  ⟨(some 37), (.load 9 (.tmp 36)), 9, "", #[⟨4096, .data⟩], none⟩,
  ⟨(some 41), (.build 43 #[(0, (.const (.int .u8 2))), (1, (.tmp 35)), (2, (.tmp 37)), (3, (.tmp 39)), (4, (.tmp 40))]), 43, "", #[], none⟩,
  ⟨none, (.mapUpdate 86 (.tmp 33) (.tmp 34) (.tmp 41)), 0, "", #[⟨12, .chain⟩], none⟩]
def F18.r8 : List Oper := [
  ⟨(some 10), (.assign (.const (.int .i64 0))), 31, "", #[], none⟩]
def F18.t7 : Cd := (.seq (.region 7 F18.r7.toArray true) (.seq (.region 8 F18.r8.toArray false) .ret))
theorem F18.t7_eq {P : Program} {Q : Post} {e : FA} {w : World} {θ : Tag (F18.t7, Q, e, w)} : cwE P F18.t7 Q e w θ = cwE P (.seq (.region 7 F18.r7.toArray true) (.seq (.region 8 F18.r8.toArray false) .ret)) Q e w := rfl
def F18.t4 : Cd := (.seq (.seq (.region 4 F18.r4.toArray false) (.seq (.region 5 F18.r5.toArray false) (.cond (.tmp 28) (.seq (.region 6 F18.r6.toArray false) .ret) .skip))) F18.t7)
theorem F18.t4_eq {P : Program} {Q : Post} {e : FA} {w : World} {θ : Tag (F18.t4, Q, e, w)} : cwE P F18.t4 Q e w θ = cwE P (.seq (.seq (.region 4 F18.r4.toArray false) (.seq (.region 5 F18.r5.toArray false) (.cond (.tmp 28) (.seq (.region 6 F18.r6.toArray false) .ret) .skip))) F18.t7) Q e w := rfl
def F18.code : Cd := (.seq (.region 0 F18.r0.toArray false) (.seq (.region 1 F18.r1.toArray false) (.seq (.seq (.region 2 F18.r2.toArray false) (.cond (.tmp 24) (.seq (.region 3 F18.r3.toArray false) .ret) .skip)) F18.t4)))
theorem F18.calls {args : Array Value} {w : World} {R : Ending → World → Prop} (hn : args.size ≤ 42) (h : cwE Try.prog F18.code (fnP Try.prog #[(.tmp 10)] R) (entry args) w) : Calls Try.prog 18 args w R :=
  calls_of_cwE (types := Try.prog.types) follows Try.func18 F18.code rfl (by kernel_rfl) hn h

def F19.r0 : List Oper := [
  ⟨(some 4), (.assign (.const (.int .i64 0))), 3, "", #[], none⟩]
def F19.r1 : List Oper := [
  ⟨(some 5), (.assign (.const (.int .i64 0))), 3, "", #[], none⟩]
def F19.r2 : List Oper := [
  ⟨(some 8), (.move (.tmp 0)), 22, "", #[], none⟩,
  ⟨(some 9), (.nilCheck (.tmp 8)), 0, "", #[], none⟩,
  ⟨(some 10), (.fieldAddr 88 (.tmp 9) 1), 0, "", #[], none⟩,
  ⟨(some 11), (.load 86 (.tmp 10)), 86, "", #[⟨0, .data⟩], none⟩,
  ⟨(some 12), (.range 86 (.tmp 11)), 0, "", #[⟨0, .chain⟩], none⟩]
def F19.r3 : List Oper := [
  ⟨(some 13), (.next (.tmp 12) false), 0, "", #[⟨0, .chain⟩], none⟩,
  ⟨(some 14), (.extract (.tmp 13) 0), 4, "", #[], none⟩]
def F19.r4 : List Oper := [
  ⟨(some 15), (.entry (.tmp 12)), 0, "", #[⟨0, .data⟩], none⟩,
  ⟨(some 16), (.extract (.tmp 15) 1), 43, "", #[], none⟩,
  ⟨(some 7), (.alloc 43), 0, "", #[⟨0, .chain⟩], none⟩,
  ⟨none, (.store 43 (.tmp 7) (.tmp 16)), 0, "", #[⟨0, .chain⟩], none⟩]
def F19.r5 : List Oper := [
  ⟨(some 17), (.fieldAddr 43 (.tmp 7) 0), 0, "", #[], none⟩,
  ⟨(some 18), (.load 36 (.tmp 17)), 36, "", #[⟨0, .data⟩], none⟩,
  ⟨(some 19), (.binOp .eql 36 (.tmp 18) (.const (.int .u8 2)) 36), 4, "", #[], none⟩,
  ⟨(some 20), (.move (.tmp 19)), 4, "", #[], none⟩,
  ⟨(some 21), (.fieldAddr 43 (.tmp 7) 1), 0, "", #[], (some (20, true))⟩,
  ⟨(some 22), (.load 37 (.tmp 21)), 37, "", #[⟨0, .data⟩], (some (20, true))⟩,
  ⟨(some 23), (.move (.tmp 1)), 37, "", #[], (some (20, true))⟩,
  ⟨(some 24), (.binOp .eql 37 (.tmp 22) (.tmp 23) 37), 4, "", #[], (some (20, true))⟩,
  ⟨(some 25), (.pick (.tmp 20) (.tmp 24) (.const (.bool false))), 4, "", #[], none⟩]
def F19.r6 : List Oper := [
  ⟨(some 26), (.move (.tmp 5)), 3, "", #[], none⟩,
  ⟨(some 27), (.binOp .add 3 (.tmp 26) (.const (.int .i64 1)) 3), 3, "", #[], none⟩,
  ⟨(some 5), (.assign (.tmp 27)), 3, "", #[], none⟩]
def F19.r7 : List Oper := [
  ⟨(some 28), (.move (.tmp 5)), 3, "", #[], none⟩,
  ⟨(some 4), (.assign (.tmp 28)), 3, "", #[], none⟩]
def F19.t4 : Cd := (.block 1 (.seq (.region 4 F19.r4.toArray false) (.seq (.region 5 F19.r5.toArray false) (.cond (.tmp 25) (.region 6 F19.r6.toArray false) .skip))))
theorem F19.t4_eq {P : Program} {Q : Post} {e : FA} {w : World} {θ : Tag (F19.t4, Q, e, w)} : cwE P F19.t4 Q e w θ = cwE P (.block 1 (.seq (.region 4 F19.r4.toArray false) (.seq (.region 5 F19.r5.toArray false) (.cond (.tmp 25) (.region 6 F19.r6.toArray false) .skip)))) Q e w := rfl
def F19.t7 : Cd := (.seq (.region 7 F19.r7.toArray false) .ret)
theorem F19.t7_eq {P : Program} {Q : Post} {e : FA} {w : World} {θ : Tag (F19.t7, Q, e, w)} : cwE P F19.t7 Q e w θ = cwE P (.seq (.region 7 F19.r7.toArray false) .ret) Q e w := rfl
def F19.code : Cd := (.seq (.region 0 F19.r0.toArray false) (.seq (.region 1 F19.r1.toArray false) (.seq (.seq (.region 2 F19.r2.toArray false) (.block 0 (.loop (.seq (.region 3 F19.r3.toArray false) (.seq (.cond (.tmp 14) .skip (.exit 0)) F19.t4))))) F19.t7)))
theorem F19.calls {args : Array Value} {w : World} {R : Ending → World → Prop} (hn : args.size ≤ 29) (h : cwE Try.prog F19.code (fnP Try.prog #[(.tmp 4)] R) (entry args) w) : Calls Try.prog 19 args w R :=
  calls_of_cwE (types := Try.prog.types) follows Try.func19 F19.code rfl (by kernel_rfl) hn h

def F20.r0 : List Oper := [
  ⟨(some 2), (.assign (.const (.pointer none))), 22, "", #[], none⟩,
  ⟨(some 3), (.assign (.const (.int .i64 0))), 31, "", #[], none⟩]
def F20.r1 : List Oper := [
  ⟨(some 4), (.move (.tmp 0)), 3, "", #[], none⟩,
  ⟨(some 5), (.binOp .lss 3 (.tmp 4) (.const (.int .i64 1)) 3), 4, "", #[], none⟩,
  ⟨(some 6), (.move (.tmp 5)), 4, "", #[], none⟩,
  ⟨(some 7), (.move (.tmp 0)), 3, "", #[], (some (6, false))⟩,
  ⟨(some 8), (.binOp .gtr 3 (.tmp 7) (.const (.int .i64 256)) 3), 4, "", #[], (some (6, false))⟩,
  ⟨(some 9), (.pick (.tmp 6) (.const (.bool true)) (.tmp 8)), 4, "", #[], none⟩]
def F20.r2 : List Oper := [
  ⟨(some 2), (.assign (.const (.pointer none))), 22, "", #[], none⟩,
  ⟨(some 3), (.assign (.const (.int .i64 1))), 31, "", #[], none⟩]
def F20.r3 : List Oper := [
  ⟨(some 10), (.move (.tmp 0)), 3, "", #[], none⟩,
  ⟨(some 11), (.makeMap 86 none), 86, "", #[⟨0, .chain⟩], none⟩,
  ⟨(some 12), (.build 88 #[(0, (.tmp 10)), (1, (.tmp 11))]), 88, "", #[], none⟩,
  ⟨(some 13), (.box 88 (.tmp 12)), 22, "", #[⟨0, .chain⟩], none⟩,
  ⟨(some 2), (.assign (.tmp 13)), 22, "", #[], none⟩,
  ⟨(some 3), (.assign (.const (.int .i64 0))), 31, "", #[], none⟩]
def F20.t3 : Cd := (.seq (.region 3 F20.r3.toArray false) .ret)
theorem F20.t3_eq {P : Program} {Q : Post} {e : FA} {w : World} {θ : Tag (F20.t3, Q, e, w)} : cwE P F20.t3 Q e w θ = cwE P (.seq (.region 3 F20.r3.toArray false) .ret) Q e w := rfl
def F20.code : Cd := (.seq (.region 0 F20.r0.toArray false) (.seq (.seq (.region 1 F20.r1.toArray false) (.cond (.tmp 9) (.seq (.region 2 F20.r2.toArray false) .ret) .skip)) F20.t3))
theorem F20.calls {args : Array Value} {w : World} {R : Ending → World → Prop} (hn : args.size ≤ 14) (h : cwE Try.prog F20.code (fnP Try.prog #[(.tmp 2), (.tmp 3)] R) (entry args) w) : Calls Try.prog 20 args w R :=
  calls_of_cwE (types := Try.prog.types) follows Try.func20 F20.code rfl (by kernel_rfl) hn h

def F21.r0 : List Oper := [
  ⟨(some 2), (.assign (.const (.slice none 0 0))), 28, "", #[], none⟩]
def F21.r1 : List Oper := [
  ⟨(some 4), (.move (.tmp 0)), 22, "", #[], none⟩,
  ⟨(some 5), (.call ⟨(.value (.func 38)), #[(.tmp 4)], #[22]⟩), 28, "", #[⟨0, .chain⟩], none⟩,
  ⟨(some 3), (.assign (.tmp 5)), 28, "", #[], none⟩]
def F21.r2 : List Oper := [
  ⟨(some 6), (.move (.tmp 0)), 22, "", #[], none⟩,
  ⟨(some 7), (.nilCheck (.tmp 6)), 0, "", #[], none⟩,
  ⟨(some 8), (.fieldAddr 88 (.tmp 7) 1), 0, "", #[], none⟩,
  ⟨(some 9), (.load 86 (.tmp 8)), 86, "", #[⟨0, .data⟩], none⟩,
  ⟨none, (.call ⟨(.builtin .clear), #[(.tmp 9)], #[86]⟩), 0, "", #[⟨0, .chain⟩], none⟩]
def F21.r3 : List Oper := [
  ⟨(some 10), (.move (.tmp 3)), 28, "", #[], none⟩,
  ⟨(some 2), (.assign (.tmp 10)), 28, "", #[], none⟩]
def F21.code : Cd := (.seq (.region 0 F21.r0.toArray false) (.seq (.region 1 F21.r1.toArray false) (.seq (.region 2 F21.r2.toArray false) (.seq (.region 3 F21.r3.toArray false) .ret))))
theorem F21.calls {args : Array Value} {w : World} {R : Ending → World → Prop} (hn : args.size ≤ 11) (h : cwE Try.prog F21.code (fnP Try.prog #[(.tmp 2)] R) (entry args) w) : Calls Try.prog 21 args w R :=
  calls_of_cwE (types := Try.prog.types) follows Try.func21 F21.code rfl (by kernel_rfl) hn h

def F22.r0 : List Oper := [
  ⟨(some 5), (.box 43 (.tmp 2)), 0, "", #[⟨0, .chain⟩], none⟩,
  ⟨(some 6), (.assign (.const (.int .i64 0))), 31, "", #[], none⟩]
def F22.r1 : List Oper := [
  ⟨(some 8), (.load 43 (.tmp 5)), 43, "", #[⟨0, .data⟩], none⟩,
  ⟨(some 9), (.call ⟨(.value (.func 39)), #[(.tmp 8)], #[43]⟩), 4, "", #[⟨0, .chain⟩], none⟩,
  ⟨(some 10), (.unOp .not 4 (.tmp 9)), 4, "", #[], none⟩]
def F22.r2 : List Oper := [
  ⟨(some 6), (.assign (.const (.int .i64 1))), 31, "", #[], none⟩]
def F22.r3 : List Oper := [
  ⟨(some 11), (.move (.tmp 0)), 22, "", #[], none⟩,
  ⟨(some 12), (.move (.tmp 1)), 35, "", #[], none⟩,
  ⟨(some 13), (.call ⟨(.value (.func 40)), #[(.tmp 11), (.tmp 12)], #[22, 35]⟩), 31, "", #[⟨0, .chain⟩], none⟩,
  ⟨(some 7), (.assign (.tmp 13)), 31, "", #[], none⟩]
def F22.r4 : List Oper := [
  ⟨(some 14), (.move (.tmp 7)), 31, "", #[], none⟩,
  ⟨(some 15), (.binOp .neq 31 (.tmp 14) (.const (.int .i64 0)) 31), 4, "", #[], none⟩]
def F22.r5 : List Oper := [
  ⟨(some 16), (.move (.tmp 7)), 31, "", #[], none⟩,
  ⟨(some 6), (.assign (.tmp 16)), 31, "", #[], none⟩]
def F22.r6 : List Oper := [
  ⟨(some 17), (.move (.tmp 0)), 22, "", #[], none⟩,
  ⟨(some 18), (.nilCheck (.tmp 17)), 0, "", #[], none⟩,
  ⟨(some 19), (.fieldAddr 88 (.tmp 18) 1), 0, "", #[], none⟩,
  ⟨(some 21), (.move (.tmp 1)), 35, "", #[], none⟩,
  ⟨(some 20), (.load 86 (.tmp 19)), 86, "", #[⟨128, .data⟩], none⟩,
  ⟨(some 22), (.load 43 (.tmp 5)), 43, "", #[⟨192, .data⟩], none⟩,
  ⟨(some 23), (.call ⟨(.value (.func 41)), #[(.tmp 22)], #[43]⟩), 43, "", #[⟨6, .chain⟩], none⟩,
  ⟨none, (.mapUpdate 86 (.tmp 20) (.tmp 21) (.tmp 23)), 0, "", #[⟨7, .chain⟩], none⟩]
def F22.r7 : List Oper := [
  ⟨(some 6), (.assign (.const (.int .i64 0))), 31, "", #[], none⟩]
def F22.t6 : Cd := (.seq (.region 6 F22.r6.toArray true) (.seq (.region 7 F22.r7.toArray false) .ret))
theorem F22.t6_eq {P : Program} {Q : Post} {e : FA} {w : World} {θ : Tag (F22.t6, Q, e, w)} : cwE P F22.t6 Q e w θ = cwE P (.seq (.region 6 F22.r6.toArray true) (.seq (.region 7 F22.r7.toArray false) .ret)) Q e w := rfl
def F22.t3 : Cd := (.seq (.seq (.region 3 F22.r3.toArray false) (.seq (.region 4 F22.r4.toArray false) (.cond (.tmp 15) (.seq (.region 5 F22.r5.toArray false) .ret) .skip))) F22.t6)
theorem F22.t3_eq {P : Program} {Q : Post} {e : FA} {w : World} {θ : Tag (F22.t3, Q, e, w)} : cwE P F22.t3 Q e w θ = cwE P (.seq (.seq (.region 3 F22.r3.toArray false) (.seq (.region 4 F22.r4.toArray false) (.cond (.tmp 15) (.seq (.region 5 F22.r5.toArray false) .ret) .skip))) F22.t6) Q e w := rfl
def F22.code : Cd := (.seq (.region 0 F22.r0.toArray false) (.seq (.seq (.region 1 F22.r1.toArray false) (.cond (.tmp 10) (.seq (.region 2 F22.r2.toArray false) .ret) .skip)) F22.t3))
theorem F22.calls {args : Array Value} {w : World} {R : Ending → World → Prop} (hn : args.size ≤ 24) (h : cwE Try.prog F22.code (fnP Try.prog #[(.tmp 6)] R) (entry args) w) : Calls Try.prog 22 args w R :=
  calls_of_cwE (types := Try.prog.types) follows Try.func22 F22.code rfl (by kernel_rfl) hn h

def F25.r0 : List Oper := [
  ⟨(some 2), (.assign (.const (.pointer none))), 22, "", #[], none⟩]
def F25.r1 : List Oper := [
  ⟨(some 6), (.move (.tmp 0)), 22, "", #[], none⟩,
  ⟨(some 7), (.nilCheck (.tmp 6)), 0, "", #[], none⟩,
  ⟨(some 8), (.fieldAddr 88 (.tmp 7) 0), 0, "", #[], none⟩,
  ⟨(some 9), (.load 3 (.tmp 8)), 3, "", #[⟨0, .data⟩], none⟩,
  ⟨(some 10), (.makeMap 86 none), 86, "", #[⟨0, .chain⟩], none⟩,
  ⟨(some 11), (.build 88 #[(0, (.tmp 9)), (1, (.tmp 10))]), 88, "", #[], none⟩,
  ⟨(some 12), (.box 88 (.tmp 11)), 22, "", #[⟨0, .chain⟩], none⟩,
  ⟨(some 3), (.assign (.tmp 12)), 22, "", #[], none⟩]
def F25.r2 : List Oper := [
  ⟨(some 13), (.move (.tmp 0)), 22, "", #[], none⟩,
  ⟨(some 14), (.nilCheck (.tmp 13)), 0, "", #[], none⟩,
  ⟨(some 15), (.fieldAddr 88 (.tmp 14) 1), 0, "", #[], none⟩,
  ⟨(some 16), (.load 86 (.tmp 15)), 86, "", #[⟨0, .data⟩], none⟩,
  ⟨(some 17), (.range 86 (.tmp 16)), 0, "", #[⟨0, .chain⟩], none⟩]
def F25.r3 : List Oper := [
  ⟨(some 18), (.next (.tmp 17) false), 0, "", #[⟨0, .chain⟩], none⟩,
  ⟨(some 19), (.extract (.tmp 18) 0), 4, "", #[], none⟩]
def F25.r4 : List Oper := [
  ⟨(some 20), (.entry (.tmp 17)), 0, "", #[⟨0, .data⟩], none⟩,
  ⟨(some 21), (.extract (.tmp 20) 0), 35, "", #[], none⟩,
  ⟨(some 22), (.extract (.tmp 20) 1), 43, "", #[], none⟩,
  ⟨(some 5), (.alloc 43), 0, "", #[⟨0, .chain⟩], none⟩,
  ⟨(some 4), (.assign (.tmp 21)), 35, "", #[], none⟩,
  ⟨none, (.store 43 (.tmp 5) (.tmp 22)), 0, "", #[⟨0, .chain⟩], none⟩]
def F25.r5 : List Oper := [
  ⟨(some 23), (.move (.tmp 3)), 22, "", #[], none⟩,
  ⟨(some 24), (.nilCheck (.tmp 23)), 0, "", #[], none⟩,
  ⟨(some 25), (.fieldAddr 88 (.tmp 24) 1), 0, "", #[], none⟩,
  ⟨(some 27), (.move (.tmp 4)), 35, "", #[], none⟩,
  ⟨(some 26), (.load 86 (.tmp 25)), 86, "", #[⟨128, .data⟩], none⟩,
  ⟨(some 28), (.load 43 (.tmp 5)), 43, "", #[⟨192, .data⟩], none⟩,
  ⟨(some 29), (.call ⟨(.value (.func 41)), #[(.tmp 28)], #[43]⟩), 43, "", #[⟨6, .chain⟩], none⟩,
  ⟨none, (.mapUpdate 86 (.tmp 26) (.tmp 27) (.tmp 29)), 0, "", #[⟨7, .chain⟩], none⟩]
def F25.r6 : List Oper := [
  ⟨(some 30), (.move (.tmp 3)), 22, "", #[], none⟩,
  ⟨(some 2), (.assign (.tmp 30)), 22, "", #[], none⟩]
def F25.t4 : Cd := (.block 1 (.seq (.region 4 F25.r4.toArray false) (.region 5 F25.r5.toArray true)))
theorem F25.t4_eq {P : Program} {Q : Post} {e : FA} {w : World} {θ : Tag (F25.t4, Q, e, w)} : cwE P F25.t4 Q e w θ = cwE P (.block 1 (.seq (.region 4 F25.r4.toArray false) (.region 5 F25.r5.toArray true))) Q e w := rfl
def F25.t6 : Cd := (.seq (.region 6 F25.r6.toArray false) .ret)
theorem F25.t6_eq {P : Program} {Q : Post} {e : FA} {w : World} {θ : Tag (F25.t6, Q, e, w)} : cwE P F25.t6 Q e w θ = cwE P (.seq (.region 6 F25.r6.toArray false) .ret) Q e w := rfl
def F25.code : Cd := (.seq (.region 0 F25.r0.toArray false) (.seq (.region 1 F25.r1.toArray false) (.seq (.seq (.region 2 F25.r2.toArray false) (.block 0 (.loop (.seq (.region 3 F25.r3.toArray false) (.seq (.cond (.tmp 19) .skip (.exit 0)) F25.t4))))) F25.t6)))
theorem F25.calls {args : Array Value} {w : World} {R : Ending → World → Prop} (hn : args.size ≤ 31) (h : cwE Try.prog F25.code (fnP Try.prog #[(.tmp 2)] R) (entry args) w) : Calls Try.prog 25 args w R :=
  calls_of_cwE (types := Try.prog.types) follows Try.func25 F25.code rfl (by kernel_rfl) hn h

def F30.r0 : List Oper := [
  ⟨(some 4), (.alloc 43), 0, "", #[⟨0, .chain⟩], none⟩,
  ⟨(some 5), (.assign (.const (.int .i64 0))), 31, "", #[], none⟩]
def F30.r1 : List Oper := [
  ⟨(some 9), (.move (.tmp 0)), 22, "", #[], none⟩,
  ⟨(some 10), (.nilCheck (.tmp 9)), 0, "", #[], none⟩,
  ⟨(some 11), (.fieldAddr 88 (.tmp 10) 1), 0, "", #[], none⟩,
  ⟨(some 12), (.load 86 (.tmp 11)), 86, "", #[⟨0, .data⟩], none⟩,
  ⟨(some 13), (.move (.tmp 1)), 35, "", #[], none⟩,
  ⟨(some 14), (.lookup 86 (.tmp 12) (.tmp 13) true), 49, "", #[⟨0, .data⟩], none⟩,
  ⟨(some 8), (.move (.tmp 14)), 49, "", #[], none⟩,
  ⟨(some 15), (.extract (.tmp 8) 0), 43, "", #[], none⟩,
  ⟨(some 16), (.extract (.tmp 8) 1), 4, "", #[], none⟩,
  ⟨(some 6), (.alloc 43), 0, "", #[⟨0, .chain⟩], none⟩,
  ⟨none, (.store 43 (.tmp 6) (.tmp 15)), 0, "", #[⟨0, .chain⟩], none⟩,
  ⟨(some 7), (.assign (.tmp 16)), 4, "", #[], none⟩]
def F30.r2 : List Oper := [
  ⟨(some 17), (.move (.tmp 7)), 4, "", #[], none⟩,
  ⟨(some 18), (.unOp .not 4 (.tmp 17)), 4, "", #[], none⟩]
def F30.r3 : List Oper := [
  ⟨(some 19), (.build 43 #[]), 43, "", #[], none⟩,
  ⟨none, (.store 43 (.tmp 4) (.tmp 19)), 0, "", #[⟨0, .chain⟩], none⟩,
  ⟨(some 5), (.assign (.const (.int .i64 100))), 31, "", #[], none⟩]
def F30.r4 : List Oper := [
  ⟨(some 20), (.load 43 (.tmp 6)), 43, "", #[⟨0, .data⟩], none⟩,
  ⟨(some 21), (.call ⟨(.value (.func 41)), #[(.tmp 20)], #[43]⟩), 43, "", #[⟨0, .chain⟩], none⟩,
  ⟨none, (.store 43 (.tmp 4) (.tmp 21)), 0, "", #[⟨0, .chain⟩], none⟩,
  ⟨(some 5), (.assign (.const (.int .i64 0))), 31, "", #[], none⟩]
def F30.t4 : Cd := (.seq (.region 4 F30.r4.toArray false) .ret)
theorem F30.t4_eq {P : Program} {Q : Post} {e : FA} {w : World} {θ : Tag (F30.t4, Q, e, w)} : cwE P F30.t4 Q e w θ = cwE P (.seq (.region 4 F30.r4.toArray false) .ret) Q e w := rfl
def F30.code : Cd := (.seq (.region 0 F30.r0.toArray false) (.seq (.region 1 F30.r1.toArray false) (.seq (.seq (.region 2 F30.r2.toArray false) (.cond (.tmp 18) (.seq (.region 3 F30.r3.toArray false) .ret) .skip)) F30.t4)))
theorem F30.calls {args : Array Value} {w : World} {R : Ending → World → Prop} (hn : args.size ≤ 22) (h : cwE Try.prog F30.code (fnP Try.prog #[(.cell 4 43), (.tmp 5)] R) (entry args) w) : Calls Try.prog 30 args w R :=
  calls_of_cwE (types := Try.prog.types) follows Try.func30 F30.code rfl (by kernel_rfl) hn h

def F31.r0 : List Oper := [
  ⟨(some 1), (.box 22 (.tmp 0)), 0, "", #[⟨0, .chain⟩], none⟩,
  ⟨(some 2), (.assign (.const .nilFunc)), 81, "", #[], none⟩]
def F31.r1 : List Oper := [
  ⟨(some 3), (.makeFunc (.func 54) #[] #[(.tmp 1)]), 80, "", #[], none⟩,
  ⟨(some 2), (.assign (.tmp 3)), 81, "", #[], none⟩]
def F31.code : Cd := (.seq (.region 0 F31.r0.toArray false) (.seq (.region 1 F31.r1.toArray false) .ret))
theorem F31.calls {args : Array Value} {w : World} {R : Ending → World → Prop} (hn : args.size ≤ 4) (h : cwE Try.prog F31.code (fnP Try.prog #[(.tmp 2)] R) (entry args) w) : Calls Try.prog 31 args w R :=
  calls_of_cwE (types := Try.prog.types) follows Try.func31 F31.code rfl (by kernel_rfl) hn h

def F32.r0 : List Oper := [
  ⟨(some 5), (.box 43 (.tmp 2)), 0, "", #[⟨0, .chain⟩], none⟩,
  ⟨(some 6), (.assign (.const (.int .i64 0))), 31, "", #[], none⟩]
def F32.r1 : List Oper := [
  ⟨(some 9), (.load 43 (.tmp 5)), 43, "", #[⟨0, .data⟩], none⟩,
  ⟨(some 10), (.call ⟨(.value (.func 39)), #[(.tmp 9)], #[43]⟩), 4, "", #[⟨0, .chain⟩], none⟩,
  ⟨(some 11), (.unOp .not 4 (.tmp 10)), 4, "", #[], none⟩]
def F32.r2 : List Oper := [
  ⟨(some 6), (.assign (.const (.int .i64 1))), 31, "", #[], none⟩]
def F32.r3 : List Oper := [
  ⟨(some 13), (.move (.tmp 0)), 22, "", #[], none⟩,
  ⟨(some 14), (.nilCheck (.tmp 13)), 0, "", #[], none⟩,
  ⟨(some 15), (.fieldAddr 88 (.tmp 14) 1), 0, "", #[], none⟩,
  ⟨(some 16), (.load 86 (.tmp 15)), 86, "", #[⟨0, .data⟩], none⟩,
  ⟨(some 17), (.move (.tmp 1)), 35, "", #[], none⟩,
  ⟨(some 18), (.lookup 86 (.tmp 16) (.tmp 17) true), 49, "", #[⟨0, .data⟩], none⟩,
  ⟨(some 12), (.move (.tmp 18)), 49, "", #[], none⟩,
  ⟨(some 19), (.extract (.tmp 12) 0), 43, "", #[], none⟩,
  ⟨(some 20), (.extract (.tmp 12) 1), 4, "", #[], none⟩,
  ⟨(some 7), (.alloc 43), 0, "", #[⟨0, .chain⟩], none⟩,
  ⟨none, (.store 43 (.tmp 7) (.tmp 19)), 0, "", #[⟨0, .chain⟩], none⟩,
  ⟨(some 8), (.assign (.tmp 20)), 4, "", #[], none⟩]
def F32.r4 : List Oper := [
  ⟨(some 21), (.move (.tmp 8)), 4, "", #[], none⟩,
  ⟨(some 22), (.unOp .not 4 (.tmp 21)), 4, "", #[], none⟩]
def F32.r5 : List Oper := [
  ⟨(some 6), (.assign (.const (.int .i64 100))), 31, "", #[], none⟩]
def F32.r6 : List Oper := [
  ⟨(some 23), (.move (.tmp 0)), 22, "", #[], none⟩,
  ⟨(some 24), (.nilCheck (.tmp 23)), 0, "", #[], none⟩,
  ⟨(some 25), (.fieldAddr 88 (.tmp 24) 1), 0, "", #[], none⟩,
  ⟨(some 27), (.move (.tmp 1)), 35, "", #[], none⟩,
  ⟨(some 26), (.load 86 (.tmp 25)), 86, "", #[⟨128, .data⟩], none⟩,
  ⟨(some 28), (.load 43 (.tmp 5)), 43, "", #[⟨192, .data⟩], none⟩,
  ⟨(some 29), (.call ⟨(.value (.func 41)), #[(.tmp 28)], #[43]⟩), 43, "", #[⟨6, .chain⟩], none⟩,
  ⟨none, (.mapUpdate 86 (.tmp 26) (.tmp 27) (.tmp 29)), 0, "", #[⟨7, .chain⟩], none⟩]
def F32.r7 : List Oper := [
  ⟨(some 6), (.assign (.const (.int .i64 0))), 31, "", #[], none⟩]
def F32.t6 : Cd := (.seq (.region 6 F32.r6.toArray true) (.seq (.region 7 F32.r7.toArray false) .ret))
theorem F32.t6_eq {P : Program} {Q : Post} {e : FA} {w : World} {θ : Tag (F32.t6, Q, e, w)} : cwE P F32.t6 Q e w θ = cwE P (.seq (.region 6 F32.r6.toArray true) (.seq (.region 7 F32.r7.toArray false) .ret)) Q e w := rfl
def F32.t3 : Cd := (.seq (.seq (.region 3 F32.r3.toArray false) (.seq (.region 4 F32.r4.toArray false) (.cond (.tmp 22) (.seq (.region 5 F32.r5.toArray false) .ret) .skip))) F32.t6)
theorem F32.t3_eq {P : Program} {Q : Post} {e : FA} {w : World} {θ : Tag (F32.t3, Q, e, w)} : cwE P F32.t3 Q e w θ = cwE P (.seq (.seq (.region 3 F32.r3.toArray false) (.seq (.region 4 F32.r4.toArray false) (.cond (.tmp 22) (.seq (.region 5 F32.r5.toArray false) .ret) .skip))) F32.t6) Q e w := rfl
def F32.code : Cd := (.seq (.region 0 F32.r0.toArray false) (.seq (.seq (.region 1 F32.r1.toArray false) (.cond (.tmp 11) (.seq (.region 2 F32.r2.toArray false) .ret) .skip)) F32.t3))
theorem F32.calls {args : Array Value} {w : World} {R : Ending → World → Prop} (hn : args.size ≤ 30) (h : cwE Try.prog F32.code (fnP Try.prog #[(.tmp 6)] R) (entry args) w) : Calls Try.prog 32 args w R :=
  calls_of_cwE (types := Try.prog.types) follows Try.func32 F32.code rfl (by kernel_rfl) hn h

def F33.r0 : List Oper := [
  ⟨(some 4), (.alloc 43), 0, "", #[⟨0, .chain⟩], none⟩,
  ⟨(some 5), (.assign (.const (.int .i64 0))), 31, "", #[], none⟩]
def F33.r1 : List Oper := [
  ⟨(some 9), (.move (.tmp 0)), 22, "", #[], none⟩,
  ⟨(some 10), (.move (.tmp 1)), 35, "", #[], none⟩,
  ⟨(some 11), (.call ⟨(.value (.func 30)), #[(.tmp 9), (.tmp 10)], #[22, 35]⟩), 78, "", #[⟨0, .chain⟩], none⟩,
  ⟨(some 8), (.move (.tmp 11)), 78, "", #[], none⟩,
  ⟨(some 12), (.extract (.tmp 8) 0), 43, "", #[], none⟩,
  ⟨(some 13), (.extract (.tmp 8) 1), 31, "", #[], none⟩,
  ⟨(some 6), (.alloc 43), 0, "", #[⟨0, .chain⟩], none⟩,
  ⟨none, (.store 43 (.tmp 6) (.tmp 12)), 0, "", #[⟨0, .chain⟩], none⟩,
  ⟨(some 7), (.assign (.tmp 13)), 31, "", #[], none⟩]
def F33.r2 : List Oper := [
  ⟨(some 14), (.move (.tmp 0)), 22, "", #[], none⟩,
  ⟨(some 15), (.nilCheck (.tmp 14)), 0, "", #[], none⟩,
  ⟨(some 16), (.fieldAddr 88 (.tmp 15) 1), 0, "", #[], none⟩,
  ⟨(some 17), (.load 86 (.tmp 16)), 86, "", #[⟨0, .data⟩], none⟩,
  ⟨(some 18), (.move (.tmp 1)), 35, "", #[], none⟩,
  ⟨none, (.call ⟨(.builtin .delete), #[(.tmp 17), (.tmp 18)], #[86, 35]⟩), 0, "", #[⟨0, .chain⟩], none⟩]
def F33.r3 : List Oper := [
  ⟨(some 19), (.load 43 (.tmp 6)), 43, "", #[⟨0, .data⟩], none⟩,
  ⟨(some 20), (.move (.tmp 7)), 31, "", #[], none⟩,
  ⟨none, (.store 43 (.tmp 4) (.tmp 19)), 0, "", #[⟨0, .chain⟩], none⟩,
  ⟨(some 5), (.assign (.tmp 20)), 31, "", #[], none⟩]
def F33.code : Cd := (.seq (.region 0 F33.r0.toArray false) (.seq (.region 1 F33.r1.toArray false) (.seq (.region 2 F33.r2.toArray false) (.seq (.region 3 F33.r3.toArray false) .ret))))
theorem F33.calls {args : Array Value} {w : World} {R : Ending → World → Prop} (hn : args.size ≤ 21) (h : cwE Try.prog F33.code (fnP Try.prog #[(.cell 4 43), (.tmp 5)] R) (entry args) w) : Calls Try.prog 33 args w R :=
  calls_of_cwE (types := Try.prog.types) follows Try.func33 F33.code rfl (by kernel_rfl) hn h

def F34.r0 : List Oper := [
  ⟨(some 8), (.assign (.const (.int .i64 0))), 31, "", #[], none⟩]
def F34.r1 : List Oper := [
  ⟨(some 12), (.move (.tmp 0)), 22, "", #[], none⟩,
  ⟨(some 13), (.move (.tmp 1)), 35, "", #[], none⟩,
  ⟨(some 14), (.move (.tmp 2)), 35, "", #[], none⟩,
  ⟨(some 15), (.call ⟨(.value (.func 36)), #[(.tmp 12), (.tmp 13), (.tmp 14)], #[22, 35, 35]⟩), 31, "", #[⟨0, .chain⟩], none⟩,
  ⟨(some 9), (.assign (.tmp 15)), 31, "", #[], none⟩]
def F34.r2 : List Oper := [
  ⟨(some 16), (.move (.tmp 9)), 31, "", #[], none⟩,
  ⟨(some 17), (.binOp .neq 31 (.tmp 16) (.const (.int .i64 0)) 31), 4, "", #[], none⟩]
def F34.r3 : List Oper := [
  ⟨(some 18), (.move (.tmp 9)), 31, "", #[], none⟩,
  ⟨(some 8), (.assign (.tmp 18)), 31, "", #[], none⟩]
def F34.r4 : List Oper := [
  ⟨(some 19), (.move (.tmp 0)), 22, "", #[], none⟩,
  ⟨(some 20), (.nilCheck (.tmp 19)), 0, "", #[], none⟩,
  ⟨(some 21), (.fieldAddr 88 (.tmp 20) 1), 0, "", #[], none⟩,
  ⟨(some 22), (.load 86 (.tmp 21)), 86, "", #[⟨0, .data⟩], none⟩,
  ⟨(some 23), (.move (.tmp 1)), 35, "", #[], none⟩,
  ⟨(some 24), (.lookup 86 (.tmp 22) (.tmp 23) false), 43, "", #[⟨0, .data⟩], none⟩,
  ⟨(some 10), (.alloc 43), 0, "", #[⟨0, .chain⟩], none⟩,
  ⟨none, (.store 43 (.tmp 10) (.tmp 24)), 0, "", #[⟨0, .chain⟩], none⟩]
def F34.r5 : List Oper := [
  ⟨(some 25), (.load 43 (.tmp 10)), 43, "", #[⟨0, .data⟩], none⟩,
  ⟨(some 26), (.call ⟨(.value (.func 37)), #[(.tmp 25)], #[43]⟩), 31, "", #[⟨0, .chain⟩], none⟩,
  ⟨(some 11), (.assign (.tmp 26)), 31, "", #[], none⟩]
def F34.r6 : List Oper := [
  ⟨(some 27), (.move (.tmp 11)), 31, "", #[], none⟩,
  ⟨(some 28), (.binOp .neq 31 (.tmp 27) (.const (.int .i64 0)) 31), 4, "", #[], none⟩]
def F34.r7 : List Oper := [
  ⟨(some 29), (.move (.tmp 11)), 31, "", #[], none⟩,
  ⟨(some 8), (.assign (.tmp 29)), 31, "", #[], none⟩]
def F34.r8 : List Oper := [
  ⟨(some 30), (.move (.tmp 0)), 22, "", #[], none⟩,
  ⟨(some 31), (.nilCheck (.tmp 30)), 0, "", #[], none⟩,
  ⟨(some 32), (.fieldAddr 88 (.tmp 31) 1), 0, "", #[], none⟩,
  ⟨(some 34), (.move (.tmp 2)), 35, "", #[], none⟩,
  ⟨(some 35), (.move (.tmp 3)), 37, "", #[], none⟩,
  ⟨(some 36), (.fieldAddr 43 (.tmp 10) 2), 0, "", #[], none⟩,
  ⟨(some 33), (.load 86 (.tmp 32)), 86, "", #[⟨512, .data⟩], none⟩,
  ⟨(some 37), (.load 9 (.tmp 36)), 9, "", #[⟨512, .data⟩], none⟩,
  ⟨(some 38), (.build 43 #[(0, (.const (.int .u8 1))), (1, (.tmp 35)), (2, (.tmp 37))]), 43, "", #[], none⟩,
  ⟨none, (.mapUpdate 86 (.tmp 33) (.tmp 34) (.tmp 38)), 0, "", #[⟨9, .chain⟩], none⟩]
def F34.r9 : List Oper := [
  ⟨(some 8), (.assign (.const (.int .i64 0))), 31, "", #[], none⟩]
def F34.t8 : Cd := (.seq (.region 8 F34.r8.toArray true) (.seq (.region 9 F34.r9.toArray false) .ret))
theorem F34.t8_eq {P : Program} {Q : Post} {e : FA} {w : World} {θ : Tag (F34.t8, Q, e, w)} : cwE P F34.t8 Q e w θ = cwE P (.seq (.region 8 F34.r8.toArray true) (.seq (.region 9 F34.r9.toArray false) .ret)) Q e w := rfl
def F34.t4 : Cd := (.seq (.region 4 F34.r4.toArray false) (.seq (.seq (.region 5 F34.r5.toArray false) (.seq (.region 6 F34.r6.toArray false) (.cond (.tmp 28) (.seq (.region 7 F34.r7.toArray false) .ret) .skip))) F34.t8))
theorem F34.t4_eq {P : Program} {Q : Post} {e : FA} {w : World} {θ : Tag (F34.t4, Q, e, w)} : cwE P F34.t4 Q e w θ = cwE P (.seq (.region 4 F34.r4.toArray false) (.seq (.seq (.region 5 F34.r5.toArray false) (.seq (.region 6 F34.r6.toArray false) (.cond (.tmp 28) (.seq (.region 7 F34.r7.toArray false) .ret) .skip))) F34.t8)) Q e w := rfl
def F34.code : Cd := (.seq (.region 0 F34.r0.toArray false) (.seq (.seq (.region 1 F34.r1.toArray false) (.seq (.region 2 F34.r2.toArray false) (.cond (.tmp 17) (.seq (.region 3 F34.r3.toArray false) .ret) .skip))) F34.t4))
theorem F34.calls {args : Array Value} {w : World} {R : Ending → World → Prop} (hn : args.size ≤ 39) (h : cwE Try.prog F34.code (fnP Try.prog #[(.tmp 8)] R) (entry args) w) : Calls Try.prog 34 args w R :=
  calls_of_cwE (types := Try.prog.types) follows Try.func34 F34.code rfl (by kernel_rfl) hn h

def F35.r0 : List Oper := [
  ⟨(some 8), (.assign (.const (.int .i64 0))), 31, "", #[], none⟩]
def F35.r1 : List Oper := [
  ⟨(some 12), (.move (.tmp 0)), 22, "", #[], none⟩,
  ⟨(some 13), (.nilCheck (.tmp 12)), 0, "", #[], none⟩,
  ⟨(some 14), (.fieldAddr 88 (.tmp 13) 1), 0, "", #[], none⟩,
  ⟨(some 15), (.load 86 (.tmp 14)), 86, "", #[⟨0, .data⟩], none⟩,
  ⟨(some 16), (.move (.tmp 1)), 35, "", #[], none⟩,
  ⟨(some 17), (.lookup 86 (.tmp 15) (.tmp 16) true), 49, "", #[⟨0, .data⟩], none⟩,
  ⟨(some 11), (.move (.tmp 17)), 49, "", #[], none⟩,
  ⟨(some 18), (.extract (.tmp 11) 0), 43, "", #[], none⟩,
  ⟨(some 19), (.extract (.tmp 11) 1), 4, "", #[], none⟩,
  ⟨(some 9), (.alloc 43), 0, "", #[⟨0, .chain⟩], none⟩,
  ⟨none, (.store 43 (.tmp 9) (.tmp 18)), 0, "", #[⟨0, .chain⟩], none⟩,
  ⟨(some 10), (.assign (.tmp 19)), 4, "", #[], none⟩]
def F35.r2 : List Oper := [
  ⟨(some 20), (.move (.tmp 10)), 4, "", #[], none⟩,
  ⟨(some 21), (.unOp .not 4 (.tmp 20)), 4, "", #[], none⟩]
def F35.r3 : List Oper := [
  ⟨(some 8), (.assign (.const (.int .i64 100))), 31, "", #[], none⟩]
def F35.r4 : List Oper := [
  ⟨(some 22), (.fieldAddr 43 (.tmp 9) 0), 0, "", #[], none⟩,
  ⟨(some 23), (.load 36 (.tmp 22)), 36, "", #[⟨0, .data⟩], none⟩,
  ⟨(some 24), (.binOp .neq 36 (.tmp 23) (.const (.int .u8 2)) 36), 4, "", #[], none⟩]
def F35.r5 : List Oper := [
  ⟨(some 8), (.assign (.const (.int .i64 117))), 31, "", #[], none⟩]
def F35.r6 : List Oper := [
  ⟨(some 25), (.move (.tmp 2)), 37, "", #[], none⟩,
  ⟨(some 26), (.move (.tmp 3)), 37, "", #[], none⟩,
  ⟨(some 27), (.fieldAddr 43 (.tmp 9) 5), 0, "", #[], none⟩,
  ⟨none, (.store 37 (.tmp 27) (.tmp 25)), 0, "", #[⟨0, .chain⟩], none⟩,
  ⟨(some 28), (.fieldAddr 43 (.tmp 9) 6), 0, "", #[], none⟩,
  ⟨none, (.store 37 (.tmp 28) (.tmp 26)), 0, "", #[⟨0, .chain⟩], none⟩]
def F35.r7 : List Oper := [
  ⟨(some 29), (.move (.tmp 0)), 22, "", #[], none⟩,
  ⟨(some 30), (.nilCheck (.tmp 29)), 0, "", #[], none⟩,
  ⟨(some 31), (.fieldAddr 88 (.tmp 30) 1), 0, "", #[], none⟩,
  ⟨(some 33), (.move (.tmp 1)), 35, "", #[], none⟩,
  ⟨(some 32), (.load 86 (.tmp 31)), 86, "", #[⟨64, .data⟩], none⟩,
  ⟨(some 34), (.load 43 (.tmp 9)), 43, "", #[⟨64, .data⟩], none⟩,
  ⟨none, (.mapUpdate 86 (.tmp 32) (.tmp 33) (.tmp 34)), 0, "", #[⟨6, .chain⟩], none⟩]
def F35.r8 : List Oper := [
  ⟨(some 8), (.assign (.const (.int .i64 0))), 31, "", #[], none⟩]
def F35.t6 : Cd := (.seq (.region 6 F35.r6.toArray false) (.seq (.region 7 F35.r7.toArray true) (.seq (.region 8 F35.r8.toArray false) .ret)))
theorem F35.t6_eq {P : Program} {Q : Post} {e : FA} {w : World} {θ : Tag (F35.t6, Q, e, w)} : cwE P F35.t6 Q e w θ = cwE P (.seq (.region 6 F35.r6.toArray false) (.seq (.region 7 F35.r7.toArray true) (.seq (.region 8 F35.r8.toArray false) .ret))) Q e w := rfl
def F35.t4 : Cd := (.seq (.seq (.region 4 F35.r4.toArray false) (.cond (.tmp 24) (.seq (.region 5 F35.r5.toArray false) .ret) .skip)) F35.t6)
theorem F35.t4_eq {P : Program} {Q : Post} {e : FA} {w : World} {θ : Tag (F35.t4, Q, e, w)} : cwE P F35.t4 Q e w θ = cwE P (.seq (.seq (.region 4 F35.r4.toArray false) (.cond (.tmp 24) (.seq (.region 5 F35.r5.toArray false) .ret) .skip)) F35.t6) Q e w := rfl
def F35.code : Cd := (.seq (.region 0 F35.r0.toArray false) (.seq (.region 1 F35.r1.toArray false) (.seq (.seq (.region 2 F35.r2.toArray false) (.cond (.tmp 21) (.seq (.region 3 F35.r3.toArray false) .ret) .skip)) F35.t4)))
theorem F35.calls {args : Array Value} {w : World} {R : Ending → World → Prop} (hn : args.size ≤ 35) (h : cwE Try.prog F35.code (fnP Try.prog #[(.tmp 8)] R) (entry args) w) : Calls Try.prog 35 args w R :=
  calls_of_cwE (types := Try.prog.types) follows Try.func35 F35.code rfl (by kernel_rfl) hn h

def F36.r0 : List Oper := [
  ⟨(some 6), (.assign (.const (.int .i64 0))), 31, "", #[], none⟩]
def F36.r1 : List Oper := [
  ⟨(some 10), (.move (.tmp 0)), 22, "", #[], none⟩,
  ⟨(some 11), (.nilCheck (.tmp 10)), 0, "", #[], none⟩,
  ⟨(some 12), (.fieldAddr 88 (.tmp 11) 1), 0, "", #[], none⟩,
  ⟨(some 13), (.load 86 (.tmp 12)), 86, "", #[⟨0, .data⟩], none⟩,
  ⟨(some 14), (.move (.tmp 1)), 35, "", #[], none⟩,
  ⟨(some 15), (.lookup 86 (.tmp 13) (.tmp 14) true), 49, "", #[⟨0, .data⟩], none⟩,
  ⟨(some 9), (.move (.tmp 15)), 49, "", #[], none⟩,
  ⟨(some 16), (.extract (.tmp 9) 0), 43, "", #[], none⟩,
  ⟨(some 17), (.extract (.tmp 9) 1), 4, "", #[], none⟩,
  ⟨(some 7), (.alloc 43), 0, "", #[⟨0, .chain⟩], none⟩,
  ⟨none, (.store 43 (.tmp 7) (.tmp 16)), 0, "", #[⟨0, .chain⟩], none⟩,
  ⟨(some 8), (.assign (.tmp 17)), 4, "", #[], none⟩]
def F36.r2 : List Oper := [
  ⟨(some 18), (.move (.tmp 8)), 4, "", #[], none⟩,
  ⟨(some 19), (.unOp .not 4 (.tmp 18)), 4, "", #[], none⟩]
def F36.r3 : List Oper := [
  ⟨(some 6), (.assign (.const (.int .i64 100))), 31, "", #[], none⟩]
def F36.r4 : List Oper := [
  ⟨(some 20), (.move (.tmp 1)), 35, "", #[], none⟩,
  ⟨(some 21), (.move (.tmp 2)), 35, "", #[], none⟩,
  ⟨(some 22), (.binOp .eql 35 (.tmp 20) (.tmp 21) 35), 4, "", #[], none⟩]
def F36.r5 : List Oper := [
  ⟨(some 6), (.assign (.const (.int .i64 0))), 31, "", #[], none⟩]
def F36.r6 : List Oper := [
  ⟨(some 23), (.move (.tmp 0)), 22, "", #[], none⟩,
  ⟨(some 24), (.move (.tmp 2)), 35, "", #[], none⟩,
  ⟨(some 25), (.call ⟨(.value (.func 40)), #[(.tmp 23), (.tmp 24)], #[22, 35]⟩), 31, "", #[⟨0, .chain⟩], none⟩,
  ⟨(some 6), (.assign (.tmp 25)), 31, "", #[], none⟩]
def F36.t6 : Cd := (.seq (.region 6 F36.r6.toArray false) .ret)
theorem F36.t6_eq {P : Program} {Q : Post} {e : FA} {w : World} {θ : Tag (F36.t6, Q, e, w)} : cwE P F36.t6 Q e w θ = cwE P (.seq (.region 6 F36.r6.toArray false) .ret) Q e w := rfl
def F36.t4 : Cd := (.seq (.seq (.region 4 F36.r4.toArray false) (.cond (.tmp 22) (.seq (.region 5 F36.r5.toArray false) .ret) .skip)) F36.t6)
theorem F36.t4_eq {P : Program} {Q : Post} {e : FA} {w : World} {θ : Tag (F36.t4, Q, e, w)} : cwE P F36.t4 Q e w θ = cwE P (.seq (.seq (.region 4 F36.r4.toArray false) (.cond (.tmp 22) (.seq (.region 5 F36.r5.toArray false) .ret) .skip)) F36.t6) Q e w := rfl
def F36.code : Cd := (.seq (.region 0 F36.r0.toArray false) (.seq (.seq (.region 1 F36.r1.toArray false) (.seq (.region 2 F36.r2.toArray false) (.cond (.tmp 19) (.seq (.region 3 F36.r3.toArray false) .ret) .skip))) F36.t4))
theorem F36.calls {args : Array Value} {w : World} {R : Ending → World → Prop} (hn : args.size ≤ 26) (h : cwE Try.prog F36.code (fnP Try.prog #[(.tmp 6)] R) (entry args) w) : Calls Try.prog 36 args w R :=
  calls_of_cwE (types := Try.prog.types) follows Try.func36 F36.code rfl (by kernel_rfl) hn h

def F37.r0 : List Oper := [
  ⟨(some 1), (.box 43 (.tmp 0)), 0, "", #[⟨0, .chain⟩], none⟩,
  ⟨(some 2), (.assign (.const (.int .i64 0))), 31, "", #[], none⟩]
def F37.r1 : List Oper := [
  ⟨(some 3), (.fieldAddr 43 (.tmp 1) 0), 0, "", #[], none⟩,
  ⟨(some 4), (.load 36 (.tmp 3)), 36, "", #[⟨0, .data⟩], none⟩]
def F37.r2 : List Oper := [
  ⟨(some 6), (.binOp .eql 36 (.tmp 4) (.const (.int .u8 2)) 36), 4, "", #[], none⟩,
  ⟨(some 5), (.assign (.tmp 6)), 4, "", #[], none⟩]
def F37.r3 : List Oper := [
  ⟨(some 2), (.assign (.const (.int .i64 112))), 31, "", #[], none⟩]
def F37.r4 : List Oper := [
  ⟨(some 8), (.binOp .eql 36 (.tmp 4) (.const (.int .u8 3)) 36), 4, "", #[], none⟩,
  ⟨(some 7), (.assign (.tmp 8)), 4, "", #[], none⟩]
def F37.r5 : List Oper := [
  ⟨(some 2), (.assign (.const (.int .i64 116))), 31, "", #[], none⟩]
def F37.r6 : List Oper := [
  ⟨(some 2), (.assign (.const (.int .i64 0))), 31, "", #[], none⟩]
def F37.t6 : Cd := (.seq (.region 6 F37.r6.toArray false) .ret)
theorem F37.t6_eq {P : Program} {Q : Post} {e : FA} {w : World} {θ : Tag (F37.t6, Q, e, w)} : cwE P F37.t6 Q e w θ = cwE P (.seq (.region 6 F37.r6.toArray false) .ret) Q e w := rfl
def F37.code : Cd := (.seq (.region 0 F37.r0.toArray false) (.seq (.seq (.region 1 F37.r1.toArray false) (.block 0 (.seq (.region 2 F37.r2.toArray false) (.cond (.tmp 5) (.seq (.region 3 F37.r3.toArray false) .ret) (.seq (.region 4 F37.r4.toArray false) (.cond (.tmp 7) (.seq (.region 5 F37.r5.toArray false) .ret) .skip)))))) F37.t6))
theorem F37.calls {args : Array Value} {w : World} {R : Ending → World → Prop} (hn : args.size ≤ 9) (h : cwE Try.prog F37.code (fnP Try.prog #[(.tmp 2)] R) (entry args) w) : Calls Try.prog 37 args w R :=
  calls_of_cwE (types := Try.prog.types) follows Try.func37 F37.code rfl (by kernel_rfl) hn h

def F38.r0 : List Oper := [
  ⟨(some 2), (.assign (.const (.slice none 0 0))), 28, "", #[], none⟩]
def F38.r1 : List Oper := [
  ⟨(some 6), (.move (.tmp 0)), 22, "", #[], none⟩,
  ⟨(some 7), (.nilCheck (.tmp 6)), 0, "", #[], none⟩,
  ⟨(some 8), (.fieldAddr 88 (.tmp 7) 1), 0, "", #[], none⟩,
  ⟨(some 9), (.load 86 (.tmp 8)), 86, "", #[⟨0, .data⟩], none⟩,
  ⟨(some 10), (.call ⟨(.builtin .len), #[(.tmp 9)], #[86]⟩), 3, "", #[⟨0, .data⟩], none⟩,
  ⟨(some 11), (.makeSlice 28 (.const (.int .i64 0)) (.tmp 10)), 28, "", #[⟨0, .chain⟩], none⟩,
  ⟨(some 3), (.assign (.tmp 11)), 28, "", #[], none⟩]
def F38.r2 : List Oper := [
  ⟨(some 12), (.move (.tmp 0)), 22, "", #[], none⟩,
  ⟨(some 13), (.nilCheck (.tmp 12)), 0, "", #[], none⟩,
  ⟨(some 14), (.fieldAddr 88 (.tmp 13) 1), 0, "", #[], none⟩,
  ⟨(some 15), (.load 86 (.tmp 14)), 86, "", #[⟨0, .data⟩], none⟩,
  ⟨(some 16), (.call ⟨(.value (.func 56)), #[(.tmp 15)], #[86]⟩), 102, "", #[⟨0, .chain⟩], none⟩,
  ⟨(some 17), (.call ⟨(.value (.func 55)), #[(.tmp 16)], #[102]⟩), 32, "", #[⟨0, .chain⟩], none⟩,
  ⟨(some 18), (.call ⟨(.builtin .len), #[(.tmp 17)], #[32]⟩), 3, "", #[], none⟩,
  ⟨(some 19), (.move (.const (.int .i64 0))), 3, "", #[], none⟩]
def F38.r3 : List Oper := [
  ⟨(some 20), (.binOp .lss 3 (.tmp 19) (.tmp 18) 3), 0, "", #[], none⟩]
def F38.r4 : List Oper := [
  ⟨(some 21), (.indexAddr 32 (.tmp 17) (.tmp 19)), 0, "", #[], none⟩,
  ⟨(some 22), (.load 35 (.tmp 21)), 35, "", #[⟨0, .data⟩], none⟩,
  ⟨(some 5), (.assign (.tmp 22)), 35, "", #[], none⟩]
def F38.r5 : List Oper := [
  ⟨(some 23), (.move (.tmp 3)), 28, "", #[], none⟩,
  ⟨(some 24), (.move (.tmp 5)), 35, "", #[], none⟩,
  ⟨(some 25), (.move (.tmp 0)), 22, "", #[], none⟩,
  ⟨(some 26), (.nilCheck (.tmp 25)), 0, "", #[], none⟩,
  ⟨(some 27), (.fieldAddr 88 (.tmp 26) 1), 0, "", #[], none⟩,
  ⟨(some 28), (.load 86 (.tmp 27)), 86, "", #[⟨0, .data⟩], none⟩,
  ⟨(some 29), (.move (.tmp 5)), 35, "", #[], none⟩,
  ⟨(some 30), (.lookup 86 (.tmp 28) (.tmp 29) false), 43, "", #[⟨0, .data⟩], none⟩,
  ⟨(some 31), (.call ⟨(.value (.func 41)), #[(.tmp 30)], #[43]⟩), 43, "", #[⟨0, .chain⟩], none⟩,
  ⟨(some 32), (.build 48 #[(0, (.tmp 24)), (1, (.tmp 31))]), 48, "", #[], none⟩,
  ⟨(some 33), (.buildSlice 28 1 #[(0, (.tmp 32))]), 28, "", #[⟨0, .chain⟩], none⟩,
  ⟨(some 34), (.call ⟨(.builtin .append), #[(.tmp 23), (.tmp 33)], #[28, 28]⟩), 28, "", #[⟨0, .chain⟩], none⟩,
  ⟨(some 3), (.assign (.tmp 34)), 28, "", #[], none⟩]
def F38.r6 : List Oper := [
  ⟨(some 35), (.binOp .add 3 (.tmp 19) (.const (.int .i64 1)) 3), 3, "", #[], none⟩,
  ⟨(some 19), (.move (.tmp 35)), 3, "", #[], none⟩]
def F38.r7 : List Oper := [
  ⟨(some 36), (.move (.tmp 3)), 28, "", #[], none⟩,
  ⟨(some 2), (.assign (.tmp 36)), 28, "", #[], none⟩]
def F38.t6 : Cd := (.region 6 F38.r6.toArray false)
theorem F38.t6_eq {P : Program} {Q : Post} {e : FA} {w : World} {θ : Tag (F38.t6, Q, e, w)} : cwE P F38.t6 Q e w θ = cwE P (.region 6 F38.r6.toArray false) Q e w := rfl
def F38.t4 : Cd := (.seq (.block 1 (.seq (.region 4 F38.r4.toArray false) (.region 5 F38.r5.toArray false))) F38.t6)
theorem F38.t4_eq {P : Program} {Q : Post} {e : FA} {w : World} {θ : Tag (F38.t4, Q, e, w)} : cwE P F38.t4 Q e w θ = cwE P (.seq (.block 1 (.seq (.region 4 F38.r4.toArray false) (.region 5 F38.r5.toArray false))) F38.t6) Q e w := rfl
def F38.t7 : Cd := (.seq (.region 7 F38.r7.toArray false) .ret)
theorem F38.t7_eq {P : Program} {Q : Post} {e : FA} {w : World} {θ : Tag (F38.t7, Q, e, w)} : cwE P F38.t7 Q e w θ = cwE P (.seq (.region 7 F38.r7.toArray false) .ret) Q e w := rfl
def F38.code : Cd := (.seq (.region 0 F38.r0.toArray false) (.seq (.region 1 F38.r1.toArray false) (.seq (.seq (.region 2 F38.r2.toArray false) (.block 0 (.loop (.seq (.region 3 F38.r3.toArray false) (.seq (.cond (.tmp 20) .skip (.exit 0)) F38.t4))))) F38.t7)))
theorem F38.calls {args : Array Value} {w : World} {R : Ending → World → Prop} (hn : args.size ≤ 37) (h : cwE Try.prog F38.code (fnP Try.prog #[(.tmp 2)] R) (entry args) w) : Calls Try.prog 38 args w R :=
  calls_of_cwE (types := Try.prog.types) follows Try.func38 F38.code rfl (by kernel_rfl) hn h

def F39.r0 : List Oper := [
  ⟨(some 1), (.box 43 (.tmp 0)), 0, "", #[⟨0, .chain⟩], none⟩,
  ⟨(some 2), (.assign (.const (.bool false))), 4, "", #[], none⟩]
def F39.r1 : List Oper := [
  ⟨(some 3), (.fieldAddr 43 (.tmp 1) 0), 0, "", #[], none⟩,
  ⟨(some 4), (.load 36 (.tmp 3)), 36, "", #[⟨0, .data⟩], none⟩]
def F39.r2 : List Oper := [
  ⟨(some 6), (.binOp .eql 36 (.tmp 4) (.const (.int .u8 1)) 36), 4, "", #[], none⟩,
  ⟨(some 5), (.assign (.tmp 6)), 4, "", #[], none⟩]
def F39.r3 : List Oper := [
  ⟨(some 7), (.binOp .eql 36 (.tmp 4) (.const (.int .u8 2)) 36), 4, "", #[], none⟩,
  ⟨(some 5), (.assign (.tmp 7)), 4, "", #[], none⟩]
def F39.r4 : List Oper := [
  ⟨(some 8), (.binOp .eql 36 (.tmp 4) (.const (.int .u8 3)) 36), 4, "", #[], none⟩,
  ⟨(some 5), (.assign (.tmp 8)), 4, "", #[], none⟩]
def F39.r5 : List Oper := [
  ⟨(some 2), (.assign (.const (.bool true))), 4, "", #[], none⟩]
def F39.r6 : List Oper := [
  ⟨(some 2), (.assign (.const (.bool false))), 4, "", #[], none⟩]
def F39.t5 : Cd := (.cond (.tmp 5) (.seq (.region 5 F39.r5.toArray false) .ret) .skip)
theorem F39.t5_eq {P : Program} {Q : Post} {e : FA} {w : World} {θ : Tag (F39.t5, Q, e, w)} : cwE P F39.t5 Q e w θ = cwE P (.cond (.tmp 5) (.seq (.region 5 F39.r5.toArray false) .ret) .skip) Q e w := rfl
def F39.t6 : Cd := (.seq (.region 6 F39.r6.toArray false) .ret)
theorem F39.t6_eq {P : Program} {Q : Post} {e : FA} {w : World} {θ : Tag (F39.t6, Q, e, w)} : cwE P F39.t6 Q e w θ = cwE P (.seq (.region 6 F39.r6.toArray false) .ret) Q e w := rfl
def F39.code : Cd := (.seq (.region 0 F39.r0.toArray false) (.seq (.seq (.region 1 F39.r1.toArray false) (.block 0 (.seq (.seq (.region 2 F39.r2.toArray false) (.cond (.tmp 5) .skip (.seq (.region 3 F39.r3.toArray false) (.cond (.tmp 5) .skip (.region 4 F39.r4.toArray false))))) F39.t5))) F39.t6))
theorem F39.calls {args : Array Value} {w : World} {R : Ending → World → Prop} (hn : args.size ≤ 9) (h : cwE Try.prog F39.code (fnP Try.prog #[(.tmp 2)] R) (entry args) w) : Calls Try.prog 39 args w R :=
  calls_of_cwE (types := Try.prog.types) follows Try.func39 F39.code rfl (by kernel_rfl) hn h

def F40.r0 : List Oper := [
  ⟨(some 4), (.assign (.const (.int .i64 0))), 31, "", #[], none⟩]
def F40.r1 : List Oper := [
  ⟨(some 7), (.move (.tmp 1)), 35, "", #[], none⟩,
  ⟨(some 8), (.binOp .eql 35 (.tmp 7) (.const (.int .u32 4294967295)) 35), 4, "", #[], none⟩]
def F40.r2 : List Oper := [
  ⟨(some 4), (.assign (.const (.int .i64 103))), 31, "", #[], none⟩]
def F40.r3 : List Oper := [
  ⟨(some 10), (.move (.tmp 0)), 22, "", #[], none⟩,
  ⟨(some 11), (.nilCheck (.tmp 10)), 0, "", #[], none⟩,
  ⟨(some 12), (.fieldAddr 88 (.tmp 11) 1), 0, "", #[], none⟩,
  ⟨(some 13), (.load 86 (.tmp 12)), 86, "", #[⟨0, .data⟩], none⟩,
  ⟨(some 14), (.move (.tmp 1)), 35, "", #[], none⟩,
  ⟨(some 15), (.lookup 86 (.tmp 13) (.tmp 14) true), 49, "", #[⟨0, .data⟩], none⟩,
  ⟨(some 9), (.move (.tmp 15)), 49, "", #[], none⟩,
  ⟨(some 16), (.extract (.tmp 9) 0), 43, "", #[], none⟩,
  ⟨(some 17), (.extract (.tmp 9) 1), 4, "", #[], none⟩,
  ⟨(some 5), (.alloc 43), 0, "", #[⟨0, .chain⟩], none⟩,
  ⟨none, (.store 43 (.tmp 5) (.tmp 16)), 0, "", #[⟨0, .chain⟩], none⟩,
  ⟨(some 6), (.assign (.tmp 17)), 4, "", #[], none⟩]
def F40.r4 : List Oper := [
  ⟨(some 18), (.move (.tmp 6)), 4, "", #[], none⟩]
def F40.r5 : List Oper := [
  ⟨(some 4), (.assign (.const (.int .i64 101))), 31, "", #[], none⟩]
def F40.r6 : List Oper := [
  ⟨(some 19), (.move (.tmp 0)), 22, "", #[], none⟩,
  ⟨(some 20), (.nilCheck (.tmp 19)), 0, "", #[], none⟩,
  ⟨(some 21), (.fieldAddr 88 (.tmp 20) 1), 0, "", #[], none⟩,
  ⟨(some 24), (.move (.tmp 0)), 22, "", #[], none⟩,
  ⟨(some 25), (.nilCheck (.tmp 24)), 0, "", #[], none⟩,
  ⟨(some 26), (.fieldAddr 88 (.tmp 25) 0), 0, "", #[], none⟩,
  ⟨(some 22), (.load 86 (.tmp 21)), 86, "", #[⟨0, .data⟩], none⟩,
  ⟨(some 23), (.call ⟨(.builtin .len), #[(.tmp 22)], #[86]⟩), 3, "", #[⟨0, .data⟩], none⟩,
  ⟨(some 27), (.load 3 (.tmp 26)), 3, "", #[⟨0, .data⟩], none⟩,
  ⟨(some 28), (.binOp .geq 3 (.tmp 23) (.tmp 27) 3), 4, "", #[], none⟩]
def F40.r7 : List Oper := [
  ⟨(some 4), (.assign (.const (.int .i64 102))), 31, "", #[], none⟩]
def F40.r8 : List Oper := [
  ⟨(some 4), (.assign (.const (.int .i64 0))), 31, "", #[], none⟩]
def F40.t8 : Cd := (.seq (.region 8 F40.r8.toArray false) .ret)
theorem F40.t8_eq {P : Program} {Q : Post} {e : FA} {w : World} {θ : Tag (F40.t8, Q, e, w)} : cwE P F40.t8 Q e w θ = cwE P (.seq (.region 8 F40.r8.toArray false) .ret) Q e w := rfl
def F40.t6 : Cd := (.seq (.seq (.region 6 F40.r6.toArray true) (.cond (.tmp 28) (.seq (.region 7 F40.r7.toArray false) .ret) .skip)) F40.t8)
theorem F40.t6_eq {P : Program} {Q : Post} {e : FA} {w : World} {θ : Tag (F40.t6, Q, e, w)} : cwE P F40.t6 Q e w θ = cwE P (.seq (.seq (.region 6 F40.r6.toArray true) (.cond (.tmp 28) (.seq (.region 7 F40.r7.toArray false) .ret) .skip)) F40.t8) Q e w := rfl
def F40.t3 : Cd := (.seq (.seq (.region 3 F40.r3.toArray false) (.seq (.region 4 F40.r4.toArray false) (.cond (.tmp 18) (.seq (.region 5 F40.r5.toArray false) .ret) .skip))) F40.t6)
theorem F40.t3_eq {P : Program} {Q : Post} {e : FA} {w : World} {θ : Tag (F40.t3, Q, e, w)} : cwE P F40.t3 Q e w θ = cwE P (.seq (.seq (.region 3 F40.r3.toArray false) (.seq (.region 4 F40.r4.toArray false) (.cond (.tmp 18) (.seq (.region 5 F40.r5.toArray false) .ret) .skip))) F40.t6) Q e w := rfl
def F40.code : Cd := (.seq (.region 0 F40.r0.toArray false) (.seq (.seq (.region 1 F40.r1.toArray false) (.cond (.tmp 8) (.seq (.region 2 F40.r2.toArray false) .ret) .skip)) F40.t3))
theorem F40.calls {args : Array Value} {w : World} {R : Ending → World → Prop} (hn : args.size ≤ 29) (h : cwE Try.prog F40.code (fnP Try.prog #[(.tmp 4)] R) (entry args) w) : Calls Try.prog 40 args w R :=
  calls_of_cwE (types := Try.prog.types) follows Try.func40 F40.code rfl (by kernel_rfl) hn h

def F41.r0 : List Oper := [
  ⟨(some 1), (.box 43 (.tmp 0)), 0, "", #[⟨0, .chain⟩], none⟩,
  ⟨(some 2), (.alloc 43), 0, "", #[⟨0, .chain⟩], none⟩]
def F41.r1 : List Oper := [
  ⟨(some 3), (.fieldAddr 43 (.tmp 1) 7), 0, "", #[], none⟩,
  ⟨(some 4), (.fieldAddr 41 (.tmp 3) 6), 0, "", #[], none⟩,
  ⟨(some 5), (.load 39 (.tmp 4)), 39, "", #[⟨0, .data⟩], none⟩,
  ⟨(some 6), (.call ⟨(.value (.func 57)), #[(.tmp 5)], #[39]⟩), 39, "", #[⟨0, .chain⟩], none⟩,
  ⟨(some 7), (.fieldAddr 43 (.tmp 1) 7), 0, "", #[], none⟩,
  ⟨(some 8), (.fieldAddr 41 (.tmp 7) 6), 0, "", #[], none⟩,
  ⟨none, (.store 39 (.tmp 8) (.tmp 6)), 0, "", #[⟨0, .chain⟩], none⟩]
def F41.r2 : List Oper := [
  ⟨(some 9), (.load 43 (.tmp 1)), 43, "", #[⟨0, .data⟩], none⟩,
  ⟨none, (.store 43 (.tmp 2) (.tmp 9)), 0, "", #[⟨0, .chain⟩], none⟩]
def F41.code : Cd := (.seq (.region 0 F41.r0.toArray false) (.seq (.region 1 F41.r1.toArray false) (.seq (.region 2 F41.r2.toArray false) .ret)))
theorem F41.calls {args : Array Value} {w : World} {R : Ending → World → Prop} (hn : args.size ≤ 10) (h : cwE Try.prog F41.code (fnP Try.prog #[(.cell 2 43)] R) (entry args) w) : Calls Try.prog 41 args w R :=
  calls_of_cwE (types := Try.prog.types) follows Try.func41 F41.code rfl (by kernel_rfl) hn h

def F54.r0 : List Oper := [
  ⟨(some 5), (.load 22 (.tmp 1)), 22, "", #[⟨0, .data⟩], none⟩,
  ⟨(some 6), (.call ⟨(.value (.func 38)), #[(.tmp 5)], #[22]⟩), 28, "", #[⟨0, .chain⟩], none⟩,
  ⟨(some 7), (.call ⟨(.builtin .len), #[(.tmp 6)], #[28]⟩), 3, "", #[], none⟩,
  ⟨(some 8), (.move (.const (.int .i64 0))), 3, "", #[], none⟩]
def F54.r1 : List Oper := [
  ⟨(some 9), (.binOp .lss 3 (.tmp 8) (.tmp 7) 3), 0, "", #[], none⟩]
def F54.r2 : List Oper := [
  ⟨(some 10), (.indexAddr 28 (.tmp 6) (.tmp 8)), 0, "", #[], none⟩,
  ⟨(some 11), (.load 48 (.tmp 10)), 48, "", #[⟨0, .data⟩], none⟩,
  ⟨(some 4), (.alloc 48), 0, "", #[⟨0, .chain⟩], none⟩,
  ⟨none, (.store 48 (.tmp 4) (.tmp 11)), 0, "", #[⟨0, .chain⟩], none⟩]
def F54.r3 : List Oper := [
  ⟨(some 12), (.move (.tmp 0)), 99, "", #[], none⟩,
  ⟨(some 13), (.fieldAddr 48 (.tmp 4) 0), 0, "", #[], none⟩,
  ⟨(some 14), (.load 35 (.tmp 13)), 35, "", #[⟨0, .data⟩], none⟩,
  ⟨(some 15), (.fieldAddr 48 (.tmp 4) 1), 0, "", #[], none⟩,
  ⟨(some 16), (.load 43 (.tmp 15)), 43, "", #[⟨0, .data⟩], none⟩,
  ⟨(some 17), (.call ⟨(.value (.tmp 12)), #[(.tmp 14), (.tmp 16)], #[35, 43]⟩), 4, "", #[⟨0, .phase⟩], none⟩,
  ⟨(some 18), (.unOp .not 4 (.tmp 17)), 4, "", #[], none⟩]
def F54.r4 : List Oper := [
  ⟨(some 19), (.binOp .add 3 (.tmp 8) (.const (.int .i64 1)) 3), 3, "", #[], none⟩,
  ⟨(some 8), (.move (.tmp 19)), 3, "", #[], none⟩]
def F54.t4 : Cd := (.region 4 F54.r4.toArray false)
theorem F54.t4_eq {P : Program} {Q : Post} {e : FA} {w : World} {θ : Tag (F54.t4, Q, e, w)} : cwE P F54.t4 Q e w θ = cwE P (.region 4 F54.r4.toArray false) Q e w := rfl
def F54.t2 : Cd := (.seq (.block 1 (.seq (.region 2 F54.r2.toArray false) (.seq (.region 3 F54.r3.toArray false) (.cond (.tmp 18) .ret .skip)))) F54.t4)
theorem F54.t2_eq {P : Program} {Q : Post} {e : FA} {w : World} {θ : Tag (F54.t2, Q, e, w)} : cwE P F54.t2 Q e w θ = cwE P (.seq (.block 1 (.seq (.region 2 F54.r2.toArray false) (.seq (.region 3 F54.r3.toArray false) (.cond (.tmp 18) .ret .skip)))) F54.t4) Q e w := rfl
def F54.code : Cd := (.seq (.region 0 F54.r0.toArray false) (.block 0 (.loop (.seq (.region 1 F54.r1.toArray false) (.seq (.cond (.tmp 9) .skip (.exit 0)) F54.t2)))))
theorem F54.calls {args : Array Value} {w : World} {R : Ending → World → Prop} (hn : args.size ≤ 20) (h : cwE Try.prog F54.code (fnP Try.prog #[] R) (entry args) w) : Calls Try.prog 54 args w R :=
  calls_of_cwE (types := Try.prog.types) follows Try.func54 F54.code rfl (by kernel_rfl) hn h

def F55.r0 : List Oper := [
  ⟨(some 2), (.assign (.const (.slice none 0 0))), 32, "", #[], none⟩]
def F55.r1 : List Oper := [
  ⟨(some 4), (.move (.tmp 0)), 102, "", #[], none⟩,
  ⟨(some 5), (.call ⟨(.value (.func 69)), #[(.tmp 4)], #[102]⟩), 32, "", #[⟨0, .chain⟩], none⟩,
  ⟨(some 3), (.assign (.tmp 5)), 32, "", #[], none⟩]
def F55.r2 : List Oper := [
  ⟨(some 6), (.move (.tmp 3)), 32, "", #[], none⟩,
  ⟨(some 7), (.call ⟨(.value (.func 70)), #[(.tmp 6)], #[32]⟩), 0, "", #[⟨0, .chain⟩], none⟩]
def F55.r3 : List Oper := [
  ⟨(some 8), (.move (.tmp 3)), 32, "", #[], none⟩,
  ⟨(some 2), (.assign (.tmp 8)), 32, "", #[], none⟩]
def F55.code : Cd := (.seq (.region 0 F55.r0.toArray false) (.seq (.region 1 F55.r1.toArray false) (.seq (.region 2 F55.r2.toArray false) (.seq (.region 3 F55.r3.toArray false) .ret))))
theorem F55.calls {args : Array Value} {w : World} {R : Ending → World → Prop} (hn : args.size ≤ 9) (h : cwE Try.prog F55.code (fnP Try.prog #[(.tmp 2)] R) (entry args) w) : Calls Try.prog 55 args w R :=
  calls_of_cwE (types := Try.prog.types) follows Try.func55 F55.code rfl (by kernel_rfl) hn h

def F56.r0 : List Oper := [
  ⟨(some 1), (.box 86 (.tmp 0)), 0, "", #[⟨0, .chain⟩], none⟩,
  ⟨(some 2), (.assign (.const .nilFunc)), 102, "", #[], none⟩]
def F56.r1 : List Oper := [
  ⟨(some 3), (.makeFunc (.func 71) #[] #[(.tmp 1)]), 101, "", #[], none⟩,
  ⟨(some 2), (.assign (.tmp 3)), 102, "", #[], none⟩]
def F56.code : Cd := (.seq (.region 0 F56.r0.toArray false) (.seq (.region 1 F56.r1.toArray false) .ret))
theorem F56.calls {args : Array Value} {w : World} {R : Ending → World → Prop} (hn : args.size ≤ 4) (h : cwE Try.prog F56.code (fnP Try.prog #[(.tmp 2)] R) (entry args) w) : Calls Try.prog 56 args w R :=
  calls_of_cwE (types := Try.prog.types) follows Try.func56 F56.code rfl (by kernel_rfl) hn h

def F57.r0 : List Oper := [
  ⟨(some 2), (.assign (.const (.slice none 0 0))), 39, "", #[], none⟩]
def F57.r1 : List Oper := [
  ⟨(some 3), (.move (.tmp 0)), 39, "", #[], none⟩,
  ⟨(some 4), (.binOp .eql 39 (.tmp 3) (.const (.slice none 0 0)) 39), 4, "", #[], none⟩]
def F57.r2 : List Oper := [
  ⟨(some 2), (.assign (.const (.slice none 0 0))), 39, "", #[], none⟩]
def F57.r3 : List Oper := [
  ⟨(some 5), (.buildSlice 39 0 #[]), 39, "", #[⟨0, .chain⟩], none⟩,
  ⟨(some 6), (.move (.tmp 0)), 39, "", #[], none⟩,
  ⟨(some 7), (.call ⟨(.builtin .append), #[(.tmp 5), (.tmp 6)], #[39, 39]⟩), 39, "", #[⟨0, .chain⟩], none⟩,
  ⟨(some 2), (.assign (.tmp 7)), 39, "", #[], none⟩]
def F57.t3 : Cd := (.seq (.region 3 F57.r3.toArray false) .ret)
theorem F57.t3_eq {P : Program} {Q : Post} {e : FA} {w : World} {θ : Tag (F57.t3, Q, e, w)} : cwE P F57.t3 Q e w θ = cwE P (.seq (.region 3 F57.r3.toArray false) .ret) Q e w := rfl
def F57.code : Cd := (.seq (.region 0 F57.r0.toArray false) (.seq (.seq (.region 1 F57.r1.toArray false) (.cond (.tmp 4) (.seq (.region 2 F57.r2.toArray false) .ret) .skip)) F57.t3))
theorem F57.calls {args : Array Value} {w : World} {R : Ending → World → Prop} (hn : args.size ≤ 8) (h : cwE Try.prog F57.code (fnP Try.prog #[(.tmp 2)] R) (entry args) w) : Calls Try.prog 57 args w R :=
  calls_of_cwE (types := Try.prog.types) follows Try.func57 F57.code rfl (by kernel_rfl) hn h

def F69.r0 : List Oper := [
  ⟨(some 2), (.assign (.const (.slice none 0 0))), 32, "", #[], none⟩]
def F69.r1 : List Oper := [
  ⟨(some 3), (.move (.tmp 0)), 102, "", #[], none⟩,
  ⟨(some 4), (.call ⟨(.value (.func 74)), #[(.const (.slice none 0 0)), (.tmp 3)], #[32, 102]⟩), 32, "", #[⟨0, .chain⟩], none⟩,
  ⟨(some 2), (.assign (.tmp 4)), 32, "", #[], none⟩]
def F69.code : Cd := (.seq (.region 0 F69.r0.toArray false) (.seq (.region 1 F69.r1.toArray false) .ret))
theorem F69.calls {args : Array Value} {w : World} {R : Ending → World → Prop} (hn : args.size ≤ 5) (h : cwE Try.prog F69.code (fnP Try.prog #[(.tmp 2)] R) (entry args) w) : Calls Try.prog 69 args w R :=
  calls_of_cwE (types := Try.prog.types) follows Try.func69 F69.code rfl (by kernel_rfl) hn h

def F70.r0 : List Oper := [
  ⟨(some 3), (.move (.tmp 0)), 32, "", #[], none⟩,
  ⟨(some 4), (.call ⟨(.builtin .len), #[(.tmp 3)], #[32]⟩), 3, "", #[], none⟩,
  ⟨(some 2), (.assign (.tmp 4)), 3, "", #[], none⟩]
def F70.r1 : List Oper := [
  ⟨(some 5), (.move (.tmp 0)), 32, "", #[], none⟩,
  ⟨(some 6), (.move (.tmp 2)), 3, "", #[], none⟩,
  ⟨(some 7), (.move (.tmp 2)), 3, "", #[], none⟩,
  ⟨(some 8), (.convert 3 112 (.tmp 7)), 112, "", #[], none⟩,
  ⟨(some 9), (.call ⟨(.value (.func 76)), #[(.tmp 8)], #[112]⟩), 3, "", #[⟨0, .chain⟩], none⟩,
  ⟨(some 10), (.call ⟨(.value (.func 75)), #[(.tmp 5), (.const (.int .i64 0)), (.tmp 6), (.tmp 9)], #[32, 3, 3, 3]⟩), 0, "", #[⟨0, .chain⟩], none⟩]
def F70.code : Cd := (.seq (.region 0 F70.r0.toArray false) (.region 1 F70.r1.toArray false))
theorem F70.calls {args : Array Value} {w : World} {R : Ending → World → Prop} (hn : args.size ≤ 11) (h : cwE Try.prog F70.code (fnP Try.prog #[] R) (entry args) w) : Calls Try.prog 70 args w R :=
  calls_of_cwE (types := Try.prog.types) follows Try.func70 F70.code rfl (by kernel_rfl) hn h

def F71.r0 : List Oper := [
  ⟨(some 4), (.load 86 (.tmp 1)), 86, "", #[⟨0, .data⟩], none⟩,
  ⟨(some 5), (.range 86 (.tmp 4)), 0, "", #[⟨0, .chain⟩], none⟩]
def F71.r1 : List Oper := [
  ⟨(some 6), (.next (.tmp 5) false), 0, "", #[⟨0, .chain⟩], none⟩,
  ⟨(some 7), (.extract (.tmp 6) 0), 4, "", #[], none⟩]
def F71.r2 : List Oper := [
  ⟨(some 8), (.entry (.tmp 5)), 0, "", #[⟨0, .data⟩], none⟩,
  ⟨(some 9), (.extract (.tmp 8) 0), 35, "", #[], none⟩,
  ⟨(some 3), (.assign (.tmp 9)), 35, "", #[], none⟩]
def F71.r3 : List Oper := [
  ⟨(some 10), (.move (.tmp 0)), 107, "", #[], none⟩,
  ⟨(some 11), (.move (.tmp 3)), 35, "", #[], none⟩,
  ⟨(some 12), (.call ⟨(.value (.tmp 10)), #[(.tmp 11)], #[35]⟩), 4, "", #[⟨0, .phase⟩], none⟩,
  ⟨(some 13), (.unOp .not 4 (.tmp 12)), 4, "", #[], none⟩]
def F71.t2 : Cd := (.block 1 (.seq (.region 2 F71.r2.toArray false) (.seq (.region 3 F71.r3.toArray false) (.cond (.tmp 13) .ret .skip))))
theorem F71.t2_eq {P : Program} {Q : Post} {e : FA} {w : World} {θ : Tag (F71.t2, Q, e, w)} : cwE P F71.t2 Q e w θ = cwE P (.block 1 (.seq (.region 2 F71.r2.toArray false) (.seq (.region 3 F71.r3.toArray false) (.cond (.tmp 13) .ret .skip)))) Q e w := rfl
def F71.code : Cd := (.seq (.region 0 F71.r0.toArray false) (.block 0 (.loop (.seq (.region 1 F71.r1.toArray false) (.seq (.cond (.tmp 7) .skip (.exit 0)) F71.t2)))))
theorem F71.calls {args : Array Value} {w : World} {R : Ending → World → Prop} (hn : args.size ≤ 14) (h : cwE Try.prog F71.code (fnP Try.prog #[] R) (entry args) w) : Calls Try.prog 71 args w R :=
  calls_of_cwE (types := Try.prog.types) follows Try.func71 F71.code rfl (by kernel_rfl) hn h

def F74.r0 : List Oper := [
  ⟨(some 2), (.box 32 (.tmp 0)), 0, "", #[⟨0, .chain⟩], none⟩,
  ⟨(some 4), (.assign (.const (.slice none 0 0))), 32, "", #[], none⟩]
def F74.r1 : List Oper := [
  ⟨(some 6), (.move (.tmp 1)), 102, "", #[], none⟩]
def F74.r2 : List Oper := [
  ⟨(some 5), (.assign (.tmp 7)), 35, "", #[], none⟩]
def F74.r3 : List Oper := [
  ⟨(some 8), (.load 32 (.tmp 2)), 32, "", #[⟨0, .data⟩], none⟩,
  ⟨(some 9), (.move (.tmp 5)), 35, "", #[], none⟩,
  ⟨(some 10), (.buildSlice 32 1 #[(0, (.tmp 9))]), 32, "", #[⟨0, .chain⟩], none⟩,
  ⟨(some 11), (.call ⟨(.builtin .append), #[(.tmp 8), (.tmp 10)], #[32, 32]⟩), 32, "", #[⟨0, .chain⟩], none⟩,
  ⟨none, (.store 32 (.tmp 2) (.tmp 11)), 0, "", #[⟨0, .chain⟩], none⟩]
def F74.r4 : List Oper := [
  ⟨(some 12), (.load 32 (.tmp 2)), 32, "", #[⟨0, .data⟩], none⟩,
  ⟨(some 4), (.assign (.tmp 12)), 32, "", #[], none⟩]
def F74.a0 : Cd := (.region 2 F74.r2.toArray false)
def F74.b0 : Cd := (.block 1 (.region 3 F74.r3.toArray false))
def F74.t4 : Cd := (.seq (.region 4 F74.r4.toArray false) .ret)
theorem F74.t4_eq {P : Program} {Q : Post} {e : FA} {w : World} {θ : Tag (F74.t4, Q, e, w)} : cwE P F74.t4 Q e w θ = cwE P (.seq (.region 4 F74.r4.toArray false) .ret) Q e w := rfl
def F74.code : Cd := (.seq (.region 0 F74.r0.toArray false) (.seq (.seq (.region 1 F74.r1.toArray false) (.block 0 (.rangeFunc (.tmp 6) #[7] F74.a0 F74.b0))) F74.t4))
theorem F74.calls {args : Array Value} {w : World} {R : Ending → World → Prop} (hn : args.size ≤ 13) (h : cwE Try.prog F74.code (fnP Try.prog #[(.tmp 4)] R) (entry args) w) : Calls Try.prog 74 args w R :=
  calls_of_cwE (types := Try.prog.types) follows Try.func74 F74.code rfl (by kernel_rfl) hn h

def F75.r0 : List Oper := [
  ⟨(some 8), (.assign (.const (.bool true))), 4, "", #[], none⟩]
def F75.r1 : List Oper := [
  ⟨(some 9), (.assign (.const (.bool true))), 4, "", #[], none⟩]
def F75.r2 : List Oper := [
  ⟨(some 19), (.move (.tmp 2)), 3, "", #[], none⟩,
  ⟨(some 20), (.move (.tmp 1)), 3, "", #[], none⟩,
  ⟨(some 21), (.binOp .sub 3 (.tmp 19) (.tmp 20) 3), 3, "", #[], none⟩,
  ⟨(some 10), (.assign (.tmp 21)), 3, "", #[], none⟩]
def F75.r3 : List Oper := [
  ⟨(some 22), (.move (.tmp 10)), 3, "", #[], none⟩,
  ⟨(some 23), (.binOp .leq 3 (.tmp 22) (.const (.int .i64 12)) 3), 4, "", #[], none⟩]
def F75.r4 : List Oper := [
  ⟨(some 24), (.move (.tmp 0)), 32, "", #[], none⟩,
  ⟨(some 25), (.move (.tmp 1)), 3, "", #[], none⟩,
  ⟨(some 26), (.move (.tmp 2)), 3, "", #[], none⟩,
  ⟨(some 27), (.call ⟨(.value (.func 77)), #[(.tmp 24), (.tmp 25), (.tmp 26)], #[32, 3, 3]⟩), 0, "", #[⟨0, .chain⟩], none⟩]
def F75.r5 : List Oper := [
  ⟨(some 28), (.move (.tmp 3)), 3, "", #[], none⟩,
  ⟨(some 29), (.binOp .eql 3 (.tmp 28) (.const (.int .i64 0)) 3), 4, "", #[], none⟩]
def F75.r6 : List Oper := [
  ⟨(some 30), (.move (.tmp 0)), 32, "", #[], none⟩,
  ⟨(some 31), (.move (.tmp 1)), 3, "", #[], none⟩,
  ⟨(some 32), (.move (.tmp 2)), 3, "", #[], none⟩,
  ⟨(some 33), (.call ⟨(.value (.func 78)), #[(.tmp 30), (.tmp 31), (.tmp 32)], #[32, 3, 3]⟩), 0, "", #[⟨0, .chain⟩], none⟩]
def F75.r7 : List Oper := [
  ⟨(some 34), (.move (.tmp 8)), 4, "", #[], none⟩,
  ⟨(some 35), (.unOp .not 4 (.tmp 34)), 4, "", #[], none⟩]
def F75.r8 : List Oper := [
  ⟨(some 36), (.move (.tmp 0)), 32, "", #[], none⟩,
  ⟨(some 37), (.move (.tmp 1)), 3, "", #[], none⟩,
  ⟨(some 38), (.move (.tmp 2)), 3, "", #[], none⟩,
  ⟨(some 39), (.call ⟨(.value (.func 79)), #[(.tmp 36), (.tmp 37), (.tmp 38)], #[32, 3, 3]⟩), 0, "", #[⟨0, .chain⟩], none⟩]
def F75.r9 : List Oper := [
  ⟨(some 40), (.move (.tmp 3)), 3, "", #[], none⟩,
  ⟨(some 41), (.binOp .sub 3 (.tmp 40) (.const (.int .i64 1)) 3), 3, "", #[], none⟩,
  ⟨(some 3), (.assign (.tmp 41)), 3, "", #[], none⟩]
def F75.r10 : List Oper := [
  ⟨(some 43), (.move (.tmp 0)), 32, "", #[], none⟩,
  ⟨(some 44), (.move (.tmp 1)), 3, "", #[], none⟩,
  ⟨(some 45), (.move (.tmp 2)), 3, "", #[], none⟩,
  ⟨(some 46), (.call ⟨(.value (.func 80)), #[(.tmp 43), (.tmp 44), (.tmp 45)], #[32, 3, 3]⟩), 115, "", #[⟨0, .chain⟩], none⟩,
  ⟨(some 42), (.move (.tmp 46)), 115, "", #[], none⟩,
  ⟨(some 47), (.extract (.tmp 42) 0), 3, "", #[], none⟩,
  ⟨(some 48), (.extract (.tmp 42) 1), 114, "", #[], none⟩,
  ⟨(some 11), (.assign (.tmp 47)), 3, "", #[], none⟩,
  ⟨(some 12), (.assign (.tmp 48)), 114, "", #[], none⟩]
def F75.r11 : List Oper := [
  ⟨(some 49), (.move (.tmp 12)), 114, "", #[], none⟩,
  ⟨(some 50), (.binOp .eql 114 (.tmp 49) (.const (.int .i64 2)) 114), 4, "", #[], none⟩]
def F75.r12 : List Oper := [
  ⟨(some 51), (.move (.tmp 0)), 32, "", #[], none⟩,
  ⟨(some 52), (.move (.tmp 1)), 3, "", #[], none⟩,
  ⟨(some 53), (.move (.tmp 2)), 3, "", #[], none⟩,
  ⟨(some 54), (.call ⟨(.value (.func 81)), #[(.tmp 51), (.tmp 52), (.tmp 53)], #[32, 3, 3]⟩), 0, "", #[⟨0, .chain⟩], none⟩]
def F75.r13 : List Oper := [
  ⟨(some 55), (.move (.tmp 2)), 3, "", #[], none⟩,
  ⟨(some 56), (.binOp .sub 3 (.tmp 55) (.const (.int .i64 1)) 3), 3, "", #[], none⟩,
  ⟨(some 57), (.move (.tmp 11)), 3, "", #[], none⟩,
  ⟨(some 58), (.move (.tmp 1)), 3, "", #[], none⟩,
  ⟨(some 59), (.binOp .sub 3 (.tmp 57) (.tmp 58) 3), 3, "", #[], none⟩,
  ⟨(some 60), (.binOp .sub 3 (.tmp 56) (.tmp 59) 3), 3, "", #[], none⟩,
  ⟨(some 11), (.assign (.tmp 60)), 3, "", #[], none⟩]
def F75.r14 : List Oper := [
  ⟨(some 12), (.assign (.const (.int .i64 1))), 114, "", #[], none⟩]
def F75.r15 : List Oper := [
  ⟨(some 61), (.move (.tmp 8)), 4, "", #[], none⟩,
  ⟨(some 62), (.move (.tmp 61)), 4, "", #[], none⟩,
  ⟨(some 63), (.move (.tmp 9)), 4, "", #[], (some (62, true))⟩,
  ⟨(some 64), (.pick (.tmp 62) (.tmp 63) (.const (.bool false))), 4, "", #[], none⟩,
  ⟨(some 65), (.move (.tmp 64)), 4, "", #[], none⟩,
  ⟨(some 66), (.move (.tmp 12)), 114, "", #[], (some (65, true))⟩,
  ⟨(some 67), (.binOp .eql 114 (.tmp 66) (.const (.int .i64 1)) 114), 4, "", #[], (some (65, true))⟩,
  ⟨(some 68), (.pick (.tmp 65) (.tmp 67) (.const (.bool false))), 4, "", #[], none⟩]
def F75.r16 : List Oper := [
  ⟨(some 69), (.move (.tmp 0)), 32, "", #[], none⟩,
  ⟨(some 70), (.move (.tmp 1)), 3, "", #[], none⟩,
  ⟨(some 71), (.move (.tmp 2)), 3, "", #[], none⟩,
  ⟨(some 72), (.call ⟨(.value (.func 82)), #[(.tmp 69), (.tmp 70), (.tmp 71)], #[32, 3, 3]⟩), 4, "", #[⟨0, .chain⟩], none⟩]
def F75.r17 : List Oper := [
  ⟨(some 73), (.move (.tmp 1)), 3, "", #[], none⟩,
  ⟨(some 74), (.binOp .gtr 3 (.tmp 73) (.const (.int .i64 0)) 3), 4, "", #[], none⟩,
  ⟨(some 75), (.move (.tmp 74)), 4, "", #[], none⟩,
  ⟨(some 76), (.move (.tmp 0)), 32, "", #[], (some (75, true))⟩,
  ⟨(some 77), (.move (.tmp 1)), 3, "", #[], (some (75, true))⟩,
  ⟨(some 78), (.binOp .sub 3 (.tmp 77) (.const (.int .i64 1)) 3), 3, "", #[], (some (75, true))⟩,
  ⟨(some 79), (.indexAddr 32 (.tmp 76) (.tmp 78)), 0, "", #[], (some (75, true))⟩,
  ⟨(some 81), (.move (.tmp 0)), 32, "", #[], (some (75, true))⟩,
  ⟨(some 82), (.move (.tmp 11)), 3, "", #[], (some (75, true))⟩,
  ⟨(some 83), (.indexAddr 32 (.tmp 81) (.tmp 82)), 0, "", #[], (some (75, true))⟩,
  ⟨(some 80), (.load 35 (.tmp 79)), 35, "", #[⟨4096, .data⟩], (some (75, true))⟩,
  ⟨(some 84), (.load 35 (.tmp 83)), 35, "", #[⟨4096, .data⟩], (some (75, true))⟩,
  ⟨(some 85), (.call ⟨(.value (.func 83)), #[(.tmp 80), (.tmp 84)], #[35, 35]⟩), 4, "", #[⟨12, .chain⟩], (some (75, true))⟩,
  ⟨(some 86), (.unOp .not 4 (.tmp 85)), 4, "", #[], (some (75, true))⟩,
  ⟨(some 87), (.pick (.tmp 75) (.tmp 86) (.const (.bool false))), 4, "", #[], none⟩]
def F75.r18 : List Oper := [
  ⟨(some 88), (.move (.tmp 0)), 32, "", #[], none⟩,
  ⟨(some 89), (.move (.tmp 1)), 3, "", #[], none⟩,
  ⟨(some 90), (.move (.tmp 2)), 3, "", #[], none⟩,
  ⟨(some 91), (.move (.tmp 11)), 3, "", #[], none⟩,
  ⟨(some 92), (.call ⟨(.value (.func 84)), #[(.tmp 88), (.tmp 89), (.tmp 90), (.tmp 91)], #[32, 3, 3, 3]⟩), 3, "", #[⟨0, .chain⟩], none⟩,
  ⟨(some 13), (.assign (.tmp 92)), 3, "", #[], none⟩]
def F75.r19 : List Oper := [
  ⟨(some 93), (.move (.tmp 13)), 3, "", #[], none⟩,
  ⟨(some 1), (.assign (.tmp 93)), 3, "", #[], none⟩]
def F75.r20 : List Oper := [
  ⟨(some 95), (.move (.tmp 0)), 32, "", #[], none⟩,
  ⟨(some 96), (.move (.tmp 1)), 3, "", #[], none⟩,
  ⟨(some 97), (.move (.tmp 2)), 3, "", #[], none⟩,
  ⟨(some 98), (.move (.tmp 11)), 3, "", #[], none⟩,
  ⟨(some 99), (.call ⟨(.value (.func 85)), #[(.tmp 95), (.tmp 96), (.tmp 97), (.tmp 98)], #[32, 3, 3, 3]⟩), 120, "", #[⟨0, .chain⟩], none⟩,
  ⟨(some 94), (.move (.tmp 99)), 120, "", #[], none⟩,
  ⟨(some 100), (.extract (.tmp 94) 0), 3, "", #[], none⟩,
  ⟨(some 101), (.extract (.tmp 94) 1), 4, "", #[], none⟩,
  ⟨(some 14), (.assign (.tmp 100)), 3, "", #[], none⟩,
  ⟨(some 15), (.assign (.tmp 101)), 4, "", #[], none⟩]
def F75.r21 : List Oper := [
  ⟨(some 102), (.move (.tmp 15)), 4, "", #[], none⟩,
  ⟨(some 9), (.assign (.tmp 102)), 4, "", #[], none⟩]
def F75.r22 : List Oper := [
  ⟨(some 103), (.move (.tmp 14)), 3, "", #[], none⟩,
  ⟨(some 104), (.move (.tmp 1)), 3, "", #[], none⟩,
  ⟨(some 105), (.binOp .sub 3 (.tmp 103) (.tmp 104) 3), 3, "", #[], none⟩,
  ⟨(some 106), (.move (.tmp 2)), 3, "", #[], none⟩,
  ⟨(some 107), (.move (.tmp 14)), 3, "", #[], none⟩,
  ⟨(some 108), (.binOp .sub 3 (.tmp 106) (.tmp 107) 3), 3, "", #[], none⟩,
  ⟨(some 16), (.assign (.tmp 105)), 3, "", #[], none⟩,
  ⟨(some 17), (.assign (.tmp 108)), 3, "", #[], none⟩]
def F75.r23 : List Oper := [
  ⟨(some 109), (.move (.tmp 10)), 3, "", #[], none⟩,
  ⟨(some 110), (.binOp .quo 3 (.tmp 109) (.const (.int .i64 8)) 3), 3, "", #[], none⟩,
  ⟨(some 18), (.assign (.tmp 110)), 3, "", #[], none⟩]
def F75.r24 : List Oper := [
  ⟨(some 111), (.move (.tmp 16)), 3, "", #[], none⟩,
  ⟨(some 112), (.move (.tmp 17)), 3, "", #[], none⟩,
  ⟨(some 113), (.binOp .lss 3 (.tmp 111) (.tmp 112) 3), 4, "", #[], none⟩]
def F75.r25 : List Oper := [
  ⟨(some 114), (.move (.tmp 16)), 3, "", #[], none⟩,
  ⟨(some 115), (.move (.tmp 18)), 3, "", #[], none⟩,
  ⟨(some 116), (.binOp .geq 3 (.tmp 114) (.tmp 115) 3), 4, "", #[], none⟩,
  ⟨(some 8), (.assign (.tmp 116)), 4, "", #[], none⟩]
def F75.r26 : List Oper := [
  ⟨(some 117), (.move (.tmp 0)), 32, "", #[], none⟩,
  ⟨(some 118), (.move (.tmp 1)), 3, "", #[], none⟩,
  ⟨(some 119), (.move (.tmp 14)), 3, "", #[], none⟩,
  ⟨(some 120), (.move (.tmp 3)), 3, "", #[], none⟩,
  ⟨(some 121), (.call ⟨(.value (.func 75)), #[(.tmp 117), (.tmp 118), (.tmp 119), (.tmp 120)], #[32, 3, 3, 3]⟩), 0, "", #[⟨0, .chain⟩], none⟩]
def F75.r27 : List Oper := [
  ⟨(some 122), (.move (.tmp 14)), 3, "", #[], none⟩,
  ⟨(some 123), (.binOp .add 3 (.tmp 122) (.const (.int .i64 1)) 3), 3, "", #[], none⟩,
  ⟨(some 1), (.assign (.tmp 123)), 3, "", #[], none⟩]
def F75.r28 : List Oper := [
  ⟨(some 124), (.move (.tmp 17)), 3, "", #[], none⟩,
  ⟨(some 125), (.move (.tmp 18)), 3, "", #[], none⟩,
  ⟨(some 126), (.binOp .geq 3 (.tmp 124) (.tmp 125) 3), 4, "", #[], none⟩,
  ⟨(some 8), (.assign (.tmp 126)), 4, "", #[], none⟩]
def F75.r29 : List Oper := [
  ⟨(some 127), (.move (.tmp 0)), 32, "", #[], none⟩,
  ⟨(some 128), (.move (.tmp 14)), 3, "", #[], none⟩,
  ⟨(some 129), (.binOp .add 3 (.tmp 128) (.const (.int .i64 1)) 3), 3, "", #[], none⟩,
  ⟨(some 130), (.move (.tmp 2)), 3, "", #[], none⟩,
  ⟨(some 131), (.move (.tmp 3)), 3, "", #[], none⟩,
  ⟨(some 132), (.call ⟨(.value (.func 75)), #[(.tmp 127), (.tmp 129), (.tmp 130), (.tmp 131)], #[32, 3, 3, 3]⟩), 0, "", #[⟨0, .chain⟩], none⟩]
def F75.r30 : List Oper := [
  ⟨(some 133), (.move (.tmp 14)), 3, "", #[], none⟩,
  ⟨(some 2), (.assign (.tmp 133)), 3, "", #[], none⟩]
def F75.t20 : Cd := (.seq (.region 20 F75.r20.toArray false) (.seq (.region 21 F75.r21.toArray false) (.seq (.region 22 F75.r22.toArray false) (.seq (.region 23 F75.r23.toArray false) (.seq (.region 24 F75.r24.toArray false) (.cond (.tmp 113) (.seq (.region 25 F75.r25.toArray false) (.seq (.region 26 F75.r26.toArray false) (.region 27 F75.r27.toArray false))) (.seq (.region 28 F75.r28.toArray false) (.seq (.region 29 F75.r29.toArray false) (.region 30 F75.r30.toArray false)))))))))
theorem F75.t20_eq {P : Program} {Q : Post} {e : FA} {w : World} {θ : Tag (F75.t20, Q, e, w)} : cwE P F75.t20 Q e w θ = cwE P (.seq (.region 20 F75.r20.toArray false) (.seq (.region 21 F75.r21.toArray false) (.seq (.region 22 F75.r22.toArray false) (.seq (.region 23 F75.r23.toArray false) (.seq (.region 24 F75.r24.toArray false) (.cond (.tmp 113) (.seq (.region 25 F75.r25.toArray false) (.seq (.region 26 F75.r26.toArray false) (.region 27 F75.r27.toArray false))) (.seq (.region 28 F75.r28.toArray false) (.seq (.region 29 F75.r29.toArray false) (.region 30 F75.r30.toArray false))))))))) Q e w := rfl
def F75.t17 : Cd := (.seq (.seq (.region 17 F75.r17.toArray true) (.cond (.tmp 87) (.seq (.region 18 F75.r18.toArray false) (.seq (.region 19 F75.r19.toArray false) (.exit 1))) .skip)) F75.t20)
theorem F75.t17_eq {P : Program} {Q : Post} {e : FA} {w : World} {θ : Tag (F75.t17, Q, e, w)} : cwE P F75.t17 Q e w θ = cwE P (.seq (.seq (.region 17 F75.r17.toArray true) (.cond (.tmp 87) (.seq (.region 18 F75.r18.toArray false) (.seq (.region 19 F75.r19.toArray false) (.exit 1))) .skip)) F75.t20) Q e w := rfl
def F75.t15 : Cd := (.seq (.seq (.region 15 F75.r15.toArray false) (.cond (.tmp 68) (.seq (.region 16 F75.r16.toArray false) (.cond (.tmp 72) .ret .skip)) .skip)) F75.t17)
theorem F75.t15_eq {P : Program} {Q : Post} {e : FA} {w : World} {θ : Tag (F75.t15, Q, e, w)} : cwE P F75.t15 Q e w θ = cwE P (.seq (.seq (.region 15 F75.r15.toArray false) (.cond (.tmp 68) (.seq (.region 16 F75.r16.toArray false) (.cond (.tmp 72) .ret .skip)) .skip)) F75.t17) Q e w := rfl
def F75.t10 : Cd := (.seq (.region 10 F75.r10.toArray false) (.seq (.seq (.region 11 F75.r11.toArray false) (.cond (.tmp 50) (.seq (.region 12 F75.r12.toArray false) (.seq (.region 13 F75.r13.toArray false) (.region 14 F75.r14.toArray false))) .skip)) F75.t15))
theorem F75.t10_eq {P : Program} {Q : Post} {e : FA} {w : World} {θ : Tag (F75.t10, Q, e, w)} : cwE P F75.t10 Q e w θ = cwE P (.seq (.region 10 F75.r10.toArray false) (.seq (.seq (.region 11 F75.r11.toArray false) (.cond (.tmp 50) (.seq (.region 12 F75.r12.toArray false) (.seq (.region 13 F75.r13.toArray false) (.region 14 F75.r14.toArray false))) .skip)) F75.t15)) Q e w := rfl
def F75.t7 : Cd := (.seq (.seq (.region 7 F75.r7.toArray false) (.cond (.tmp 35) (.seq (.region 8 F75.r8.toArray false) (.region 9 F75.r9.toArray false)) .skip)) F75.t10)
theorem F75.t7_eq {P : Program} {Q : Post} {e : FA} {w : World} {θ : Tag (F75.t7, Q, e, w)} : cwE P F75.t7 Q e w θ = cwE P (.seq (.seq (.region 7 F75.r7.toArray false) (.cond (.tmp 35) (.seq (.region 8 F75.r8.toArray false) (.region 9 F75.r9.toArray false)) .skip)) F75.t10) Q e w := rfl
def F75.t5 : Cd := (.seq (.seq (.region 5 F75.r5.toArray false) (.cond (.tmp 29) (.seq (.region 6 F75.r6.toArray false) .ret) .skip)) F75.t7)
theorem F75.t5_eq {P : Program} {Q : Post} {e : FA} {w : World} {θ : Tag (F75.t5, Q, e, w)} : cwE P F75.t5 Q e w θ = cwE P (.seq (.seq (.region 5 F75.r5.toArray false) (.cond (.tmp 29) (.seq (.region 6 F75.r6.toArray false) .ret) .skip)) F75.t7) Q e w := rfl
def F75.code : Cd := (.seq (.region 0 F75.r0.toArray false) (.seq (.region 1 F75.r1.toArray false) (.block 0 (.loop (.block 1 (.seq (.region 2 F75.r2.toArray false) (.seq (.seq (.region 3 F75.r3.toArray false) (.cond (.tmp 23) (.seq (.region 4 F75.r4.toArray false) .ret) .skip)) F75.t5)))))))
theorem F75.calls {args : Array Value} {w : World} {R : Ending → World → Prop} (hn : args.size ≤ 134) (h : cwE Try.prog F75.code (fnP Try.prog #[] R) (entry args) w) : Calls Try.prog 75 args w R :=
  calls_of_cwE (types := Try.prog.types) follows Try.func75 F75.code rfl (by kernel_rfl) hn h

def F76.r0 : List Oper := [
  ⟨(some 2), (.assign (.const (.int .i64 0))), 3, "", #[], none⟩]
def F76.r1 : List Oper := [
  ⟨(some 3), (.move (.tmp 0)), 112, "", #[], none⟩,
  ⟨(some 4), (.convert 112 35 (.tmp 3)), 35, "", #[], none⟩,
  ⟨(some 5), (.call ⟨(.value (.func 86)), #[(.tmp 4)], #[35]⟩), 3, "", #[⟨0, .chain⟩], none⟩,
  ⟨(some 2), (.assign (.tmp 5)), 3, "", #[], none⟩]
def F76.r2 : List Oper := [
  ⟨(some 6), (.move (.tmp 0)), 112, "", #[], none⟩,
  ⟨(some 7), (.call ⟨(.value (.func 87)), #[(.tmp 6)], #[37]⟩), 3, "", #[⟨0, .chain⟩], none⟩,
  ⟨(some 2), (.assign (.tmp 7)), 3, "", #[], none⟩]
def F76.t2 : Cd := (.seq (.region 2 F76.r2.toArray false) .ret)
theorem F76.t2_eq {P : Program} {Q : Post} {e : FA} {w : World} {θ : Tag (F76.t2, Q, e, w)} : cwE P F76.t2 Q e w θ = cwE P (.seq (.region 2 F76.r2.toArray false) .ret) Q e w := rfl
def F76.code : Cd := (.seq (.region 0 F76.r0.toArray false) (.seq (.cond (.const (.bool false)) (.seq (.region 1 F76.r1.toArray false) .ret) .skip) F76.t2))
theorem F76.calls {args : Array Value} {w : World} {R : Ending → World → Prop} (hn : args.size ≤ 8) (h : cwE Try.prog F76.code (fnP Try.prog #[(.tmp 2)] R) (entry args) w) : Calls Try.prog 76 args w R :=
  calls_of_cwE (types := Try.prog.types) follows Try.func76 F76.code rfl (by kernel_rfl) hn h

def F77.r0 : List Oper := [
  ⟨(some 8), (.move (.tmp 1)), 3, "", #[], none⟩,
  ⟨(some 9), (.binOp .add 3 (.tmp 8) (.const (.int .i64 1)) 3), 3, "", #[], none⟩,
  ⟨(some 6), (.assign (.tmp 9)), 3, "", #[], none⟩]
def F77.r1 : List Oper := [
  ⟨(some 10), (.move (.tmp 6)), 3, "", #[], none⟩,
  ⟨(some 11), (.move (.tmp 2)), 3, "", #[], none⟩,
  ⟨(some 12), (.binOp .lss 3 (.tmp 10) (.tmp 11) 3), 4, "", #[], none⟩]
def F77.r3 : List Oper := [
  ⟨(some 15), (.move (.tmp 6)), 3, "", #[], none⟩,
  ⟨(some 7), (.assign (.tmp 15)), 3, "", #[], none⟩]
def F77.r4 : List Oper := [
  ⟨(some 16), (.move (.tmp 7)), 3, "", #[], none⟩,
  ⟨(some 17), (.move (.tmp 1)), 3, "", #[], none⟩,
  ⟨(some 18), (.binOp .gtr 3 (.tmp 16) (.tmp 17) 3), 4, "", #[], none⟩,
  ⟨(some 19), (.move (.tmp 18)), 4, "", #[], none⟩,
  ⟨(some 20), (.move (.tmp 0)), 32, "", #[], (some (19, true))⟩,
  ⟨(some 21), (.move (.tmp 7)), 3, "", #[], (some (19, true))⟩,
  ⟨(some 22), (.indexAddr 32 (.tmp 20) (.tmp 21)), 0, "", #[], (some (19, true))⟩,
  ⟨(some 24), (.move (.tmp 0)), 32, "", #[], (some (19, true))⟩,
  ⟨(some 25), (.move (.tmp 7)), 3, "", #[], (some (19, true))⟩,
  ⟨(some 26), (.binOp .sub 3 (.tmp 25) (.const (.int .i64 1)) 3), 3, "", #[], (some (19, true))⟩,
  ⟨(some 27), (.indexAddr 32 (.tmp 24) (.tmp 26)), 0, "", #[], (some (19, true))⟩,
  ⟨(some 23), (.load 35 (.tmp 22)), 35, "", #[⟨8192, .data⟩], (some (19, true))⟩,
  ⟨(some 28), (.load 35 (.tmp 27)), 35, "", #[⟨8192, .data⟩], (some (19, true))⟩,
  ⟨(some 29), (.call ⟨(.value (.func 83)), #[(.tmp 23), (.tmp 28)], #[35, 35]⟩), 4, "", #[⟨13, .chain⟩], (some (19, true))⟩,
  ⟨(some 30), (.pick (.tmp 19) (.tmp 29) (.const (.bool false))), 4, "", #[], none⟩]
def F77.r6 : List Oper := [
  ⟨(some 33), (.move (.tmp 0)), 32, "", #[], none⟩,
  ⟨(some 34), (.move (.tmp 7)), 3, "", #[], none⟩,
  ⟨(some 35), (.move (.tmp 0)), 32, "", #[], none⟩,
  ⟨(some 36), (.move (.tmp 7)), 3, "", #[], none⟩,
  ⟨(some 37), (.binOp .sub 3 (.tmp 36) (.const (.int .i64 1)) 3), 3, "", #[], none⟩,
  ⟨(some 38), (.move (.tmp 0)), 32, "", #[], none⟩,
  ⟨(some 39), (.move (.tmp 7)), 3, "", #[], none⟩,
  ⟨(some 40), (.binOp .sub 3 (.tmp 39) (.const (.int .i64 1)) 3), 3, "", #[], none⟩,
  ⟨(some 41), (.indexAddr 32 (.tmp 38) (.tmp 40)), 0, "", #[], none⟩,
  ⟨(some 43), (.move (.tmp 0)), 32, "", #[], none⟩,
  ⟨(some 44), (.move (.tmp 7)), 3, "", #[], none⟩,
  ⟨(some 45), (.indexAddr 32 (.tmp 43) (.tmp 44)), 0, "", #[], none⟩,
  ⟨(some 42), (.load 35 (.tmp 41)), 35, "", #[⟨163840, .data⟩], none⟩,
  ⟨(some 46), (.load 35 (.tmp 45)), 35, "", #[⟨163840, .data⟩], none⟩,
  ⟨(some 47), (.indexAddr 32 (.tmp 33) (.tmp 34)), 0, "", #[], none⟩,
  ⟨none, (.store 35 (.tmp 47) (.tmp 42)), 0, "", #[⟨15, .chain⟩], none⟩,
  ⟨(some 48), (.indexAddr 32 (.tmp 35) (.tmp 37)), 0, "", #[], none⟩,
  ⟨none, (.store 35 (.tmp 48) (.tmp 46)), 0, "", #[⟨17, .chain⟩], none⟩]
def F77.r5 : List Oper := [
  ⟨(some 31), (.move (.tmp 7)), 3, "", #[], none⟩,
  ⟨(some 32), (.binOp .sub 3 (.tmp 31) (.const (.int .i64 1)) 3), 3, "", #[], none⟩,
  ⟨(some 7), (.assign (.tmp 32)), 3, "", #[], none⟩]
def F77.r2 : List Oper := [
  ⟨(some 13), (.move (.tmp 6)), 3, "", #[], none⟩,
  ⟨(some 14), (.binOp .add 3 (.tmp 13) (.const (.int .i64 1)) 3), 3, "", #[], none⟩,
  ⟨(some 6), (.assign (.tmp 14)), 3, "", #[], none⟩]
def F77.t5 : Cd := (.region 5 F77.r5.toArray false)
theorem F77.t5_eq {P : Program} {Q : Post} {e : FA} {w : World} {θ : Tag (F77.t5, Q, e, w)} : cwE P F77.t5 Q e w θ = cwE P (.region 5 F77.r5.toArray false) Q e w := rfl
def F77.t6 : Cd := (.seq (.block 3 (.region 6 F77.r6.toArray true)) F77.t5)
theorem F77.t6_eq {P : Program} {Q : Post} {e : FA} {w : World} {θ : Tag (F77.t6, Q, e, w)} : cwE P F77.t6 Q e w θ = cwE P (.seq (.block 3 (.region 6 F77.r6.toArray true)) F77.t5) Q e w := rfl
def F77.t2 : Cd := (.region 2 F77.r2.toArray false)
theorem F77.t2_eq {P : Program} {Q : Post} {e : FA} {w : World} {θ : Tag (F77.t2, Q, e, w)} : cwE P F77.t2 Q e w θ = cwE P (.region 2 F77.r2.toArray false) Q e w := rfl
def F77.t3 : Cd := (.seq (.block 1 (.seq (.region 3 F77.r3.toArray false) (.block 2 (.loop (.seq (.seq (.region 4 F77.r4.toArray true) (.cond (.tmp 30) .skip (.exit 2))) F77.t6))))) F77.t2)
theorem F77.t3_eq {P : Program} {Q : Post} {e : FA} {w : World} {θ : Tag (F77.t3, Q, e, w)} : cwE P F77.t3 Q e w θ = cwE P (.seq (.block 1 (.seq (.region 3 F77.r3.toArray false) (.block 2 (.loop (.seq (.seq (.region 4 F77.r4.toArray true) (.cond (.tmp 30) .skip (.exit 2))) F77.t6))))) F77.t2) Q e w := rfl
def F77.code : Cd := (.seq (.region 0 F77.r0.toArray false) (.block 0 (.loop (.seq (.seq (.region 1 F77.r1.toArray false) (.cond (.tmp 12) .skip (.exit 0))) F77.t3))))
theorem F77.calls {args : Array Value} {w : World} {R : Ending → World → Prop} (hn : args.size ≤ 49) (h : cwE Try.prog F77.code (fnP Try.prog #[] R) (entry args) w) : Calls Try.prog 77 args w R :=
  calls_of_cwE (types := Try.prog.types) follows Try.func77 F77.code rfl (by kernel_rfl) hn h

def F78.r0 : List Oper := [
  ⟨(some 11), (.move (.tmp 1)), 3, "", #[], none⟩,
  ⟨(some 6), (.assign (.tmp 11)), 3, "", #[], none⟩]
def F78.r1 : List Oper := [
  ⟨(some 7), (.assign (.const (.int .i64 0))), 3, "", #[], none⟩]
def F78.r2 : List Oper := [
  ⟨(some 12), (.move (.tmp 2)), 3, "", #[], none⟩,
  ⟨(some 13), (.move (.tmp 1)), 3, "", #[], none⟩,
  ⟨(some 14), (.binOp .sub 3 (.tmp 12) (.tmp 13) 3), 3, "", #[], none⟩,
  ⟨(some 8), (.assign (.tmp 14)), 3, "", #[], none⟩]
def F78.r3 : List Oper := [
  ⟨(some 15), (.move (.tmp 8)), 3, "", #[], none⟩,
  ⟨(some 16), (.binOp .sub 3 (.tmp 15) (.const (.int .i64 1)) 3), 3, "", #[], none⟩,
  ⟨(some 17), (.binOp .quo 3 (.tmp 16) (.const (.int .i64 2)) 3), 3, "", #[], none⟩,
  ⟨(some 9), (.assign (.tmp 17)), 3, "", #[], none⟩]
def F78.r4 : List Oper := [
  ⟨(some 18), (.move (.tmp 9)), 3, "", #[], none⟩,
  ⟨(some 19), (.binOp .geq 3 (.tmp 18) (.const (.int .i64 0)) 3), 4, "", #[], none⟩]
def F78.r6 : List Oper := [
  ⟨(some 22), (.move (.tmp 0)), 32, "", #[], none⟩,
  ⟨(some 23), (.move (.tmp 9)), 3, "", #[], none⟩,
  ⟨(some 24), (.move (.tmp 8)), 3, "", #[], none⟩,
  ⟨(some 25), (.move (.tmp 6)), 3, "", #[], none⟩,
  ⟨(some 26), (.call ⟨(.value (.func 88)), #[(.tmp 22), (.tmp 23), (.tmp 24), (.tmp 25)], #[32, 3, 3, 3]⟩), 0, "", #[⟨0, .chain⟩], none⟩]
def F78.r5 : List Oper := [
  ⟨(some 20), (.move (.tmp 9)), 3, "", #[], none⟩,
  ⟨(some 21), (.binOp .sub 3 (.tmp 20) (.const (.int .i64 1)) 3), 3, "", #[], none⟩,
  ⟨(some 9), (.assign (.tmp 21)), 3, "", #[], none⟩]
def F78.r7 : List Oper := [
  ⟨(some 27), (.move (.tmp 8)), 3, "", #[], none⟩,
  ⟨(some 28), (.binOp .sub 3 (.tmp 27) (.const (.int .i64 1)) 3), 3, "", #[], none⟩,
  ⟨(some 10), (.assign (.tmp 28)), 3, "", #[], none⟩]
def F78.r8 : List Oper := [
  ⟨(some 29), (.move (.tmp 10)), 3, "", #[], none⟩,
  ⟨(some 30), (.binOp .geq 3 (.tmp 29) (.const (.int .i64 0)) 3), 4, "", #[], none⟩]
def F78.r10 : List Oper := [
  ⟨(some 33), (.move (.tmp 0)), 32, "", #[], none⟩,
  ⟨(some 34), (.move (.tmp 6)), 3, "", #[], none⟩,
  ⟨(some 35), (.move (.tmp 0)), 32, "", #[], none⟩,
  ⟨(some 36), (.move (.tmp 6)), 3, "", #[], none⟩,
  ⟨(some 37), (.move (.tmp 10)), 3, "", #[], none⟩,
  ⟨(some 38), (.binOp .add 3 (.tmp 36) (.tmp 37) 3), 3, "", #[], none⟩,
  ⟨(some 39), (.move (.tmp 0)), 32, "", #[], none⟩,
  ⟨(some 40), (.move (.tmp 6)), 3, "", #[], none⟩,
  ⟨(some 41), (.move (.tmp 10)), 3, "", #[], none⟩,
  ⟨(some 42), (.binOp .add 3 (.tmp 40) (.tmp 41) 3), 3, "", #[], none⟩,
  ⟨(some 43), (.indexAddr 32 (.tmp 39) (.tmp 42)), 0, "", #[], none⟩,
  ⟨(some 45), (.move (.tmp 0)), 32, "", #[], none⟩,
  ⟨(some 46), (.move (.tmp 6)), 3, "", #[], none⟩,
  ⟨(some 47), (.indexAddr 32 (.tmp 45) (.tmp 46)), 0, "", #[], none⟩,
  ⟨(some 44), (.load 35 (.tmp 43)), 35, "", #[⟨655360, .data⟩], none⟩,
  ⟨(some 48), (.load 35 (.tmp 47)), 35, "", #[⟨655360, .data⟩], none⟩,
  ⟨(some 49), (.indexAddr 32 (.tmp 33) (.tmp 34)), 0, "", #[], none⟩,
  ⟨none, (.store 35 (.tmp 49) (.tmp 44)), 0, "", #[⟨17, .chain⟩], none⟩,
  ⟨(some 50), (.indexAddr 32 (.tmp 35) (.tmp 38)), 0, "", #[], none⟩,
  ⟨none, (.store 35 (.tmp 50) (.tmp 48)), 0, "", #[⟨19, .chain⟩], none⟩]
def F78.r11 : List Oper := [
  ⟨(some 51), (.move (.tmp 0)), 32, "", #[], none⟩,
  ⟨(some 52), (.move (.tmp 7)), 3, "", #[], none⟩,
  ⟨(some 53), (.move (.tmp 10)), 3, "", #[], none⟩,
  ⟨(some 54), (.move (.tmp 6)), 3, "", #[], none⟩,
  ⟨(some 55), (.call ⟨(.value (.func 88)), #[(.tmp 51), (.tmp 52), (.tmp 53), (.tmp 54)], #[32, 3, 3, 3]⟩), 0, "", #[⟨0, .chain⟩], none⟩]
def F78.r9 : List Oper := [
  ⟨(some 31), (.move (.tmp 10)), 3, "", #[], none⟩,
  ⟨(some 32), (.binOp .sub 3 (.tmp 31) (.const (.int .i64 1)) 3), 3, "", #[], none⟩,
  ⟨(some 10), (.assign (.tmp 32)), 3, "", #[], none⟩]
def F78.t5 : Cd := (.region 5 F78.r5.toArray false)
theorem F78.t5_eq {P : Program} {Q : Post} {e : FA} {w : World} {θ : Tag (F78.t5, Q, e, w)} : cwE P F78.t5 Q e w θ = cwE P (.region 5 F78.r5.toArray false) Q e w := rfl
def F78.t6 : Cd := (.seq (.block 1 (.region 6 F78.r6.toArray false)) F78.t5)
theorem F78.t6_eq {P : Program} {Q : Post} {e : FA} {w : World} {θ : Tag (F78.t6, Q, e, w)} : cwE P F78.t6 Q e w θ = cwE P (.seq (.block 1 (.region 6 F78.r6.toArray false)) F78.t5) Q e w := rfl
def F78.t9 : Cd := (.region 9 F78.r9.toArray false)
theorem F78.t9_eq {P : Program} {Q : Post} {e : FA} {w : World} {θ : Tag (F78.t9, Q, e, w)} : cwE P F78.t9 Q e w θ = cwE P (.region 9 F78.r9.toArray false) Q e w := rfl
def F78.t10 : Cd := (.seq (.block 3 (.seq (.region 10 F78.r10.toArray true) (.region 11 F78.r11.toArray false))) F78.t9)
theorem F78.t10_eq {P : Program} {Q : Post} {e : FA} {w : World} {θ : Tag (F78.t10, Q, e, w)} : cwE P F78.t10 Q e w θ = cwE P (.seq (.block 3 (.seq (.region 10 F78.r10.toArray true) (.region 11 F78.r11.toArray false))) F78.t9) Q e w := rfl
def F78.t7 : Cd := (.seq (.region 7 F78.r7.toArray false) (.block 2 (.loop (.seq (.seq (.region 8 F78.r8.toArray false) (.cond (.tmp 30) .skip (.exit 2))) F78.t10))))
theorem F78.t7_eq {P : Program} {Q : Post} {e : FA} {w : World} {θ : Tag (F78.t7, Q, e, w)} : cwE P F78.t7 Q e w θ = cwE P (.seq (.region 7 F78.r7.toArray false) (.block 2 (.loop (.seq (.seq (.region 8 F78.r8.toArray false) (.cond (.tmp 30) .skip (.exit 2))) F78.t10)))) Q e w := rfl
def F78.code : Cd := (.seq (.region 0 F78.r0.toArray false) (.seq (.region 1 F78.r1.toArray false) (.seq (.region 2 F78.r2.toArray false) (.seq (.seq (.region 3 F78.r3.toArray false) (.block 0 (.loop (.seq (.seq (.region 4 F78.r4.toArray false) (.cond (.tmp 19) .skip (.exit 0))) F78.t6)))) F78.t7))))
theorem F78.calls {args : Array Value} {w : World} {R : Ending → World → Prop} (hn : args.size ≤ 56) (h : cwE Try.prog F78.code (fnP Try.prog #[] R) (entry args) w) : Calls Try.prog 78 args w R :=
  calls_of_cwE (types := Try.prog.types) follows Try.func78 F78.code rfl (by kernel_rfl) hn h

def F79.r0 : List Oper := [
  ⟨(some 11), (.move (.tmp 2)), 3, "", #[], none⟩,
  ⟨(some 12), (.move (.tmp 1)), 3, "", #[], none⟩,
  ⟨(some 13), (.binOp .sub 3 (.tmp 11) (.tmp 12) 3), 3, "", #[], none⟩,
  ⟨(some 6), (.assign (.tmp 13)), 3, "", #[], none⟩]
def F79.r1 : List Oper := [
  ⟨(some 14), (.move (.tmp 6)), 3, "", #[], none⟩,
  ⟨(some 15), (.binOp .geq 3 (.tmp 14) (.const (.int .i64 8)) 3), 4, "", #[], none⟩]
def F79.r2 : List Oper := [
  ⟨(some 16), (.move (.tmp 6)), 3, "", #[], none⟩,
  ⟨(some 17), (.convert 3 122 (.tmp 16)), 122, "", #[], none⟩,
  ⟨(some 7), (.alloc 122), 0, "", #[⟨0, .chain⟩], none⟩,
  ⟨none, (.store 122 (.tmp 7) (.tmp 17)), 0, "", #[⟨0, .chain⟩], none⟩]
def F79.r3 : List Oper := [
  ⟨(some 18), (.move (.tmp 6)), 3, "", #[], none⟩,
  ⟨(some 19), (.call ⟨(.value (.func 89)), #[(.tmp 18)], #[3]⟩), 112, "", #[⟨0, .chain⟩], none⟩,
  ⟨(some 8), (.assign (.tmp 19)), 112, "", #[], none⟩]
def F79.r4 : List Oper := [
  ⟨(some 20), (.move (.tmp 1)), 3, "", #[], none⟩,
  ⟨(some 21), (.move (.tmp 6)), 3, "", #[], none⟩,
  ⟨(some 22), (.binOp .quo 3 (.tmp 21) (.const (.int .i64 4)) 3), 3, "", #[], none⟩,
  ⟨(some 23), (.binOp .mul 3 (.tmp 22) (.const (.int .i64 2)) 3), 3, "", #[], none⟩,
  ⟨(some 24), (.binOp .add 3 (.tmp 20) (.tmp 23) 3), 3, "", #[], none⟩,
  ⟨(some 25), (.binOp .sub 3 (.tmp 24) (.const (.int .i64 1)) 3), 3, "", #[], none⟩,
  ⟨(some 9), (.assign (.tmp 25)), 3, "", #[], none⟩]
def F79.r5 : List Oper := [
  ⟨(some 26), (.move (.tmp 9)), 3, "", #[], none⟩,
  ⟨(some 27), (.move (.tmp 1)), 3, "", #[], none⟩,
  ⟨(some 28), (.move (.tmp 6)), 3, "", #[], none⟩,
  ⟨(some 29), (.binOp .quo 3 (.tmp 28) (.const (.int .i64 4)) 3), 3, "", #[], none⟩,
  ⟨(some 30), (.binOp .mul 3 (.tmp 29) (.const (.int .i64 2)) 3), 3, "", #[], none⟩,
  ⟨(some 31), (.binOp .add 3 (.tmp 27) (.tmp 30) 3), 3, "", #[], none⟩,
  ⟨(some 32), (.binOp .add 3 (.tmp 31) (.const (.int .i64 1)) 3), 3, "", #[], none⟩,
  ⟨(some 33), (.binOp .leq 3 (.tmp 26) (.tmp 32) 3), 4, "", #[], none⟩]
def F79.r7 : List Oper := [
  ⟨(some 36), (.call ⟨(.value (.func 90)), #[(.tmp 7)], #[122]⟩), 37, "", #[⟨0, .chain⟩], none⟩,
  ⟨(some 37), (.move (.tmp 8)), 112, "", #[], none⟩,
  ⟨(some 38), (.binOp .sub 112 (.tmp 37) (.const (.int .u64 1)) 112), 112, "", #[], none⟩,
  ⟨(some 39), (.binOp .and 112 (.tmp 36) (.tmp 38) 112), 112, "", #[], none⟩,
  ⟨(some 40), (.convert 112 3 (.tmp 39)), 3, "", #[], none⟩,
  ⟨(some 10), (.assign (.tmp 40)), 3, "", #[], none⟩]
def F79.r8 : List Oper := [
  ⟨(some 41), (.move (.tmp 10)), 3, "", #[], none⟩,
  ⟨(some 42), (.move (.tmp 6)), 3, "", #[], none⟩,
  ⟨(some 43), (.binOp .geq 3 (.tmp 41) (.tmp 42) 3), 4, "", #[], none⟩]
def F79.r9 : List Oper := [
  ⟨(some 44), (.move (.tmp 10)), 3, "", #[], none⟩,
  ⟨(some 45), (.move (.tmp 6)), 3, "", #[], none⟩,
  ⟨(some 46), (.binOp .sub 3 (.tmp 44) (.tmp 45) 3), 3, "", #[], none⟩,
  ⟨(some 10), (.assign (.tmp 46)), 3, "", #[], none⟩]
def F79.r10 : List Oper := [
  ⟨(some 47), (.move (.tmp 0)), 32, "", #[], none⟩,
  ⟨(some 48), (.move (.tmp 9)), 3, "", #[], none⟩,
  ⟨(some 49), (.move (.tmp 0)), 32, "", #[], none⟩,
  ⟨(some 50), (.move (.tmp 1)), 3, "", #[], none⟩,
  ⟨(some 51), (.move (.tmp 10)), 3, "", #[], none⟩,
  ⟨(some 52), (.binOp .add 3 (.tmp 50) (.tmp 51) 3), 3, "", #[], none⟩,
  ⟨(some 53), (.move (.tmp 0)), 32, "", #[], none⟩,
  ⟨(some 54), (.move (.tmp 1)), 3, "", #[], none⟩,
  ⟨(some 55), (.move (.tmp 10)), 3, "", #[], none⟩,
  ⟨(some 56), (.binOp .add 3 (.tmp 54) (.tmp 55) 3), 3, "", #[], none⟩,
  ⟨(some 57), (.indexAddr 32 (.tmp 53) (.tmp 56)), 0, "", #[], none⟩,
  ⟨(some 59), (.move (.tmp 0)), 32, "", #[], none⟩,
  ⟨(some 60), (.move (.tmp 9)), 3, "", #[], none⟩,
  ⟨(some 61), (.indexAddr 32 (.tmp 59) (.tmp 60)), 0, "", #[], none⟩,
  ⟨(some 58), (.load 35 (.tmp 57)), 35, "", #[⟨655360, .data⟩], none⟩,
  ⟨(some 62), (.load 35 (.tmp 61)), 35, "", #[⟨655360, .data⟩], none⟩,
  ⟨(some 63), (.indexAddr 32 (.tmp 47) (.tmp 48)), 0, "", #[], none⟩,
  ⟨none, (.store 35 (.tmp 63) (.tmp 58)), 0, "", #[⟨17, .chain⟩], none⟩,
  ⟨(some 64), (.indexAddr 32 (.tmp 49) (.tmp 52)), 0, "", #[], none⟩,
  ⟨none, (.store 35 (.tmp 64) (.tmp 62)), 0, "", #[⟨19, .chain⟩], none⟩]
def F79.r6 : List Oper := [
  ⟨(some 34), (.move (.tmp 9)), 3, "", #[], none⟩,
  ⟨(some 35), (.binOp .add 3 (.tmp 34) (.const (.int .i64 1)) 3), 3, "", #[], none⟩,
  ⟨(some 9), (.assign (.tmp 35)), 3, "", #[], none⟩]
def F79.t10 : Cd := (.region 10 F79.r10.toArray true)
theorem F79.t10_eq {P : Program} {Q : Post} {e : FA} {w : World} {θ : Tag (F79.t10, Q, e, w)} : cwE P F79.t10 Q e w θ = cwE P (.region 10 F79.r10.toArray true) Q e w := rfl
def F79.t6 : Cd := (.region 6 F79.r6.toArray false)
theorem F79.t6_eq {P : Program} {Q : Post} {e : FA} {w : World} {θ : Tag (F79.t6, Q, e, w)} : cwE P F79.t6 Q e w θ = cwE P (.region 6 F79.r6.toArray false) Q e w := rfl
def F79.t7 : Cd := (.seq (.block 1 (.seq (.region 7 F79.r7.toArray false) (.seq (.seq (.region 8 F79.r8.toArray false) (.cond (.tmp 43) (.region 9 F79.r9.toArray false) .skip)) F79.t10))) F79.t6)
theorem F79.t7_eq {P : Program} {Q : Post} {e : FA} {w : World} {θ : Tag (F79.t7, Q, e, w)} : cwE P F79.t7 Q e w θ = cwE P (.seq (.block 1 (.seq (.region 7 F79.r7.toArray false) (.seq (.seq (.region 8 F79.r8.toArray false) (.cond (.tmp 43) (.region 9 F79.r9.toArray false) .skip)) F79.t10))) F79.t6) Q e w := rfl
def F79.code : Cd := (.seq (.region 0 F79.r0.toArray false) (.seq (.region 1 F79.r1.toArray false) (.cond (.tmp 15) (.seq (.region 2 F79.r2.toArray false) (.seq (.region 3 F79.r3.toArray false) (.seq (.region 4 F79.r4.toArray false) (.block 0 (.loop (.seq (.seq (.region 5 F79.r5.toArray false) (.cond (.tmp 33) .skip (.exit 0))) F79.t7)))))) .skip)))
theorem F79.calls {args : Array Value} {w : World} {R : Ending → World → Prop} (hn : args.size ≤ 65) (h : cwE Try.prog F79.code (fnP Try.prog #[] R) (entry args) w) : Calls Try.prog 79 args w R :=
  calls_of_cwE (types := Try.prog.types) follows Try.func79 F79.code rfl (by kernel_rfl) hn h

def F80.r0 : List Oper := [
  ⟨(some 6), (.assign (.const (.int .i64 0))), 3, "", #[], none⟩,
  ⟨(some 7), (.assign (.const (.int .i64 0))), 114, "", #[], none⟩]
def F80.r1 : List Oper := [
  ⟨(some 13), (.move (.tmp 2)), 3, "", #[], none⟩,
  ⟨(some 14), (.move (.tmp 1)), 3, "", #[], none⟩,
  ⟨(some 15), (.binOp .sub 3 (.tmp 13) (.tmp 14) 3), 3, "", #[], none⟩,
  ⟨(some 8), (.assign (.tmp 15)), 3, "", #[], none⟩]
def F80.r2 : List Oper := [
  ⟨(some 9), (.alloc 3), 0, "", #[⟨0, .chain⟩], none⟩]
def F80.r3 : List Oper := [
  ⟨(some 16), (.move (.tmp 1)), 3, "", #[], none⟩,
  ⟨(some 17), (.move (.tmp 8)), 3, "", #[], none⟩,
  ⟨(some 18), (.binOp .quo 3 (.tmp 17) (.const (.int .i64 4)) 3), 3, "", #[], none⟩,
  ⟨(some 19), (.binOp .mul 3 (.tmp 18) (.const (.int .i64 1)) 3), 3, "", #[], none⟩,
  ⟨(some 20), (.binOp .add 3 (.tmp 16) (.tmp 19) 3), 3, "", #[], none⟩,
  ⟨(some 10), (.assign (.tmp 20)), 3, "", #[], none⟩]
def F80.r4 : List Oper := [
  ⟨(some 21), (.move (.tmp 1)), 3, "", #[], none⟩,
  ⟨(some 22), (.move (.tmp 8)), 3, "", #[], none⟩,
  ⟨(some 23), (.binOp .quo 3 (.tmp 22) (.const (.int .i64 4)) 3), 3, "", #[], none⟩,
  ⟨(some 24), (.binOp .mul 3 (.tmp 23) (.const (.int .i64 2)) 3), 3, "", #[], none⟩,
  ⟨(some 25), (.binOp .add 3 (.tmp 21) (.tmp 24) 3), 3, "", #[], none⟩,
  ⟨(some 11), (.assign (.tmp 25)), 3, "", #[], none⟩]
def F80.r5 : List Oper := [
  ⟨(some 26), (.move (.tmp 1)), 3, "", #[], none⟩,
  ⟨(some 27), (.move (.tmp 8)), 3, "", #[], none⟩,
  ⟨(some 28), (.binOp .quo 3 (.tmp 27) (.const (.int .i64 4)) 3), 3, "", #[], none⟩,
  ⟨(some 29), (.binOp .mul 3 (.tmp 28) (.const (.int .i64 3)) 3), 3, "", #[], none⟩,
  ⟨(some 30), (.binOp .add 3 (.tmp 26) (.tmp 29) 3), 3, "", #[], none⟩,
  ⟨(some 12), (.assign (.tmp 30)), 3, "", #[], none⟩]
def F80.r6 : List Oper := [
  ⟨(some 31), (.move (.tmp 8)), 3, "", #[], none⟩,
  ⟨(some 32), (.binOp .geq 3 (.tmp 31) (.const (.int .i64 8)) 3), 4, "", #[], none⟩]
def F80.r7 : List Oper := [
  ⟨(some 33), (.move (.tmp 8)), 3, "", #[], none⟩,
  ⟨(some 34), (.binOp .geq 3 (.tmp 33) (.const (.int .i64 50)) 3), 4, "", #[], none⟩]
def F80.r8 : List Oper := [
  ⟨(some 35), (.move (.tmp 0)), 32, "", #[], none⟩,
  ⟨(some 36), (.move (.tmp 10)), 3, "", #[], none⟩,
  ⟨(some 37), (.call ⟨(.value (.func 91)), #[(.tmp 35), (.tmp 36), (.tmp 9)], #[32, 3, 126]⟩), 3, "", #[⟨0, .chain⟩], none⟩,
  ⟨(some 10), (.assign (.tmp 37)), 3, "", #[], none⟩]
def F80.r9 : List Oper := [
  ⟨(some 38), (.move (.tmp 0)), 32, "", #[], none⟩,
  ⟨(some 39), (.move (.tmp 11)), 3, "", #[], none⟩,
  ⟨(some 40), (.call ⟨(.value (.func 91)), #[(.tmp 38), (.tmp 39), (.tmp 9)], #[32, 3, 126]⟩), 3, "", #[⟨0, .chain⟩], none⟩,
  ⟨(some 11), (.assign (.tmp 40)), 3, "", #[], none⟩]
def F80.r10 : List Oper := [
  ⟨(some 41), (.move (.tmp 0)), 32, "", #[], none⟩,
  ⟨(some 42), (.move (.tmp 12)), 3, "", #[], none⟩,
  ⟨(some 43), (.call ⟨(.value (.func 91)), #[(.tmp 41), (.tmp 42), (.tmp 9)], #[32, 3, 126]⟩), 3, "", #[⟨0, .chain⟩], none⟩,
  ⟨(some 12), (.assign (.tmp 43)), 3, "", #[], none⟩]
def F80.r11 : List Oper := [
  ⟨(some 44), (.move (.tmp 0)), 32, "", #[], none⟩,
  ⟨(some 45), (.move (.tmp 10)), 3, "", #[], none⟩,
  ⟨(some 46), (.move (.tmp 11)), 3, "", #[], none⟩,
  ⟨(some 47), (.move (.tmp 12)), 3, "", #[], none⟩,
  ⟨(some 48), (.call ⟨(.value (.func 92)), #[(.tmp 44), (.tmp 45), (.tmp 46), (.tmp 47), (.tmp 9)], #[32, 3, 3, 3, 126]⟩), 3, "", #[⟨0, .chain⟩], none⟩,
  ⟨(some 11), (.assign (.tmp 48)), 3, "", #[], none⟩]
def F80.r12 : List Oper := [
  ⟨(some 49), (.load 3 (.tmp 9)), 3, "", #[⟨0, .data⟩], none⟩]
def F80.r14 : List Oper := [
  ⟨(some 52), (.binOp .eql 3 (.tmp 49) (.const (.int .i64 0)) 3), 4, "", #[], none⟩,
  ⟨(some 51), (.assign (.tmp 52)), 4, "", #[], none⟩]
def F80.r15 : List Oper := [
  ⟨(some 53), (.move (.tmp 11)), 3, "", #[], none⟩,
  ⟨(some 6), (.assign (.tmp 53)), 3, "", #[], none⟩,
  ⟨(some 7), (.assign (.const (.int .i64 1))), 114, "", #[], none⟩]
def F80.r16 : List Oper := [
  ⟨(some 55), (.binOp .eql 3 (.tmp 49) (.const (.int .i64 12)) 3), 4, "", #[], none⟩,
  ⟨(some 54), (.assign (.tmp 55)), 4, "", #[], none⟩]
def F80.r17 : List Oper := [
  ⟨(some 56), (.move (.tmp 11)), 3, "", #[], none⟩,
  ⟨(some 6), (.assign (.tmp 56)), 3, "", #[], none⟩,
  ⟨(some 7), (.assign (.const (.int .i64 2))), 114, "", #[], none⟩]
def F80.r13 : List Oper := [
  ⟨(some 50), (.move (.tmp 11)), 3, "", #[], none⟩,
  ⟨(some 6), (.assign (.tmp 50)), 3, "", #[], none⟩,
  ⟨(some 7), (.assign (.const (.int .i64 0))), 114, "", #[], none⟩]
def F80.t11 : Cd := (.region 11 F80.r11.toArray false)
theorem F80.t11_eq {P : Program} {Q : Post} {e : FA} {w : World} {θ : Tag (F80.t11, Q, e, w)} : cwE P F80.t11 Q e w θ = cwE P (.region 11 F80.r11.toArray false) Q e w := rfl
def F80.t12 : Cd := (.seq (.region 12 F80.r12.toArray false) (.block 0 (.seq (.region 14 F80.r14.toArray false) (.cond (.tmp 51) (.seq (.region 15 F80.r15.toArray false) .ret) (.seq (.region 16 F80.r16.toArray false) (.cond (.tmp 54) (.seq (.region 17 F80.r17.toArray false) .ret) (.seq (.region 13 F80.r13.toArray false) .ret)))))))
theorem F80.t12_eq {P : Program} {Q : Post} {e : FA} {w : World} {θ : Tag (F80.t12, Q, e, w)} : cwE P F80.t12 Q e w θ = cwE P (.seq (.region 12 F80.r12.toArray false) (.block 0 (.seq (.region 14 F80.r14.toArray false) (.cond (.tmp 51) (.seq (.region 15 F80.r15.toArray false) .ret) (.seq (.region 16 F80.r16.toArray false) (.cond (.tmp 54) (.seq (.region 17 F80.r17.toArray false) .ret) (.seq (.region 13 F80.r13.toArray false) .ret))))))) Q e w := rfl
def F80.code : Cd := (.seq (.region 0 F80.r0.toArray false) (.seq (.region 1 F80.r1.toArray false) (.seq (.region 2 F80.r2.toArray false) (.seq (.region 3 F80.r3.toArray false) (.seq (.region 4 F80.r4.toArray false) (.seq (.region 5 F80.r5.toArray false) (.seq (.seq (.region 6 F80.r6.toArray false) (.cond (.tmp 32) (.seq (.seq (.region 7 F80.r7.toArray false) (.cond (.tmp 34) (.seq (.region 8 F80.r8.toArray false) (.seq (.region 9 F80.r9.toArray false) (.region 10 F80.r10.toArray false))) .skip)) F80.t11) .skip)) F80.t12)))))))
theorem F80.calls {args : Array Value} {w : World} {R : Ending → World → Prop} (hn : args.size ≤ 57) (h : cwE Try.prog F80.code (fnP Try.prog #[(.tmp 6), (.tmp 7)] R) (entry args) w) : Calls Try.prog 80 args w R :=
  calls_of_cwE (types := Try.prog.types) follows Try.func80 F80.code rfl (by kernel_rfl) hn h

def F81.r0 : List Oper := [
  ⟨(some 8), (.move (.tmp 1)), 3, "", #[], none⟩,
  ⟨(some 6), (.assign (.tmp 8)), 3, "", #[], none⟩]
def F81.r1 : List Oper := [
  ⟨(some 9), (.move (.tmp 2)), 3, "", #[], none⟩,
  ⟨(some 10), (.binOp .sub 3 (.tmp 9) (.const (.int .i64 1)) 3), 3, "", #[], none⟩,
  ⟨(some 7), (.assign (.tmp 10)), 3, "", #[], none⟩]
def F81.r2 : List Oper := [
  ⟨(some 11), (.move (.tmp 6)), 3, "", #[], none⟩,
  ⟨(some 12), (.move (.tmp 7)), 3, "", #[], none⟩,
  ⟨(some 13), (.binOp .lss 3 (.tmp 11) (.tmp 12) 3), 4, "", #[], none⟩]
def F81.r3 : List Oper := [
  ⟨(some 14), (.move (.tmp 0)), 32, "", #[], none⟩,
  ⟨(some 15), (.move (.tmp 6)), 3, "", #[], none⟩,
  ⟨(some 16), (.move (.tmp 0)), 32, "", #[], none⟩,
  ⟨(some 17), (.move (.tmp 7)), 3, "", #[], none⟩,
  ⟨(some 18), (.move (.tmp 0)), 32, "", #[], none⟩,
  ⟨(some 19), (.move (.tmp 7)), 3, "", #[], none⟩,
  ⟨(some 20), (.indexAddr 32 (.tmp 18) (.tmp 19)), 0, "", #[], none⟩,
  ⟨(some 22), (.move (.tmp 0)), 32, "", #[], none⟩,
  ⟨(some 23), (.move (.tmp 6)), 3, "", #[], none⟩,
  ⟨(some 24), (.indexAddr 32 (.tmp 22) (.tmp 23)), 0, "", #[], none⟩,
  ⟨(some 21), (.load 35 (.tmp 20)), 35, "", #[⟨40960, .data⟩], none⟩,
  ⟨(some 25), (.load 35 (.tmp 24)), 35, "", #[⟨40960, .data⟩], none⟩,
  ⟨(some 26), (.indexAddr 32 (.tmp 14) (.tmp 15)), 0, "", #[], none⟩,
  ⟨none, (.store 35 (.tmp 26) (.tmp 21)), 0, "", #[⟨13, .chain⟩], none⟩,
  ⟨(some 27), (.indexAddr 32 (.tmp 16) (.tmp 17)), 0, "", #[], none⟩,
  ⟨none, (.store 35 (.tmp 27) (.tmp 25)), 0, "", #[⟨15, .chain⟩], none⟩]
def F81.r4 : List Oper := [
  ⟨(some 28), (.move (.tmp 6)), 3, "", #[], none⟩,
  ⟨(some 29), (.binOp .add 3 (.tmp 28) (.const (.int .i64 1)) 3), 3, "", #[], none⟩,
  ⟨(some 6), (.assign (.tmp 29)), 3, "", #[], none⟩]
def F81.r5 : List Oper := [
  ⟨(some 30), (.move (.tmp 7)), 3, "", #[], none⟩,
  ⟨(some 31), (.binOp .sub 3 (.tmp 30) (.const (.int .i64 1)) 3), 3, "", #[], none⟩,
  ⟨(some 7), (.assign (.tmp 31)), 3, "", #[], none⟩]
def F81.t3 : Cd := (.block 1 (.seq (.region 3 F81.r3.toArray true) (.seq (.region 4 F81.r4.toArray false) (.region 5 F81.r5.toArray false))))
theorem F81.t3_eq {P : Program} {Q : Post} {e : FA} {w : World} {θ : Tag (F81.t3, Q, e, w)} : cwE P F81.t3 Q e w θ = cwE P (.block 1 (.seq (.region 3 F81.r3.toArray true) (.seq (.region 4 F81.r4.toArray false) (.region 5 F81.r5.toArray false)))) Q e w := rfl
def F81.code : Cd := (.seq (.region 0 F81.r0.toArray false) (.seq (.region 1 F81.r1.toArray false) (.block 0 (.loop (.seq (.seq (.region 2 F81.r2.toArray false) (.cond (.tmp 13) .skip (.exit 0))) F81.t3)))))
theorem F81.calls {args : Array Value} {w : World} {R : Ending → World → Prop} (hn : args.size ≤ 32) (h : cwE Try.prog F81.code (fnP Try.prog #[] R) (entry args) w) : Calls Try.prog 81 args w R :=
  calls_of_cwE (types := Try.prog.types) follows Try.func81 F81.code rfl (by kernel_rfl) hn h

end Go.Proofs.Ytljndiligbaljaa

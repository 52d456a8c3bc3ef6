/- The compiled code of the functions, by program (genir.py): each with the theorem that it is what the engine makes of the loaded program's. -/
import Derived.Test.YteefkhfmpcaccaaSl2
import Derived.Test.YteefkhfmpcaccaaProg
namespace Go.Proofs.Yteefkhfmpcaccaa
open Go
set_option maxRecDepth 100000

theorem follows : Try.prog.follows .mixedOrders = true := by kernel_rfl

theorem fact_aggSz_104 : aggSz Try.prog 104 = some (some 38) := by kernel_rfl
theorem fact_aggSz_28 : aggSz Try.prog 28 = some (some 3) := by kernel_rfl
theorem fact_aggSz_29 : aggSz Try.prog 29 = some none := by kernel_rfl
theorem fact_aggSz_3 : aggSz Try.prog 3 = some none := by kernel_rfl
theorem fact_aggSz_30 : aggSz Try.prog 30 = some none := by kernel_rfl
theorem fact_aggSz_31 : aggSz Try.prog 31 = some none := by kernel_rfl
theorem fact_aggSz_37 : aggSz Try.prog 37 = some none := by kernel_rfl
theorem fact_aggSz_39 : aggSz Try.prog 39 = some (some 7) := by kernel_rfl
theorem fact_aggSz_4 : aggSz Try.prog 4 = some none := by kernel_rfl
theorem fact_aggSz_66 : aggSz Try.prog 66 = some none := by kernel_rfl
theorem fact_aggSz_68 : aggSz Try.prog 68 = some none := by kernel_rfl
theorem fact_aggSz_69 : aggSz Try.prog 69 = some none := by kernel_rfl
theorem fact_aggSz_73 : aggSz Try.prog 73 = some none := by kernel_rfl
theorem fact_aggSz_77 : aggSz Try.prog 77 = some (some 36) := by kernel_rfl
theorem fact_aggSz_9 : aggSz Try.prog 9 = some none := by kernel_rfl
theorem fact_aggSz_90 : aggSz Try.prog 90 = some none := by kernel_rfl
theorem fact_aggSz_91 : aggSz Try.prog 91 = some none := by kernel_rfl
theorem fact_aggSz_92 : aggSz Try.prog 92 = some none := by kernel_rfl
theorem fact_aggSz_96 : aggSz Try.prog 96 = some none := by kernel_rfl
theorem fact_bldP_100 : bldP Try.prog 100 = some ([.int .u16 0, .int .i64 0, .int .u8 0], some [(0, 1), (1, 1), (2, 1)], 0) := by kernel_rfl
theorem fact_bldP_104 : bldP Try.prog 104 = some ([.int .u8 0, .int .u16 0, .int .u32 0, .string ⟨#[]⟩, .int .u32 0, .string ⟨#[]⟩, .string ⟨#[]⟩, .string ⟨#[]⟩, .int .u16 0, .int .u32 0, .int .u32 0, .slice none 0 0, .slice none 0 0, .int .u8 0, .int .u32 0, .int .u64 0, .int .u8 0, .int .u32 0, .string ⟨#[]⟩, .int .u32 0, .int .u64 0, .int .u32 0, .slice none 0 0, .int .u16 0, .int .u32 0, .int .u8 0, .int .u32 0, .int .u64 0, .int .u32 0, .int .u32 0, .int .u32 0, .int .u64 0, .string ⟨#[]⟩, .string ⟨#[]⟩, .string ⟨#[]⟩, .string ⟨#[]⟩, .int .i64 0, .bool false], some [(0, 36), (36, 1), (37, 1)], 0) := by kernel_rfl
theorem fact_bldP_33 : bldP Try.prog 33 = some ([.pointer none, .slice none 0 0, .slice none 0 0, .int .i64 0], some [(0, 1), (1, 1), (2, 1), (3, 1)], 0) := by kernel_rfl
theorem fact_bldP_39 : bldP Try.prog 39 = some ([.int .u16 0, .bool false, .int .i64 0, .bool false, .bool false, .bool false, .bool false], some [(0, 1), (1, 1), (2, 1), (3, 1), (4, 1), (5, 1), (6, 1)], 0) := by kernel_rfl
theorem fact_bldP_77 : bldP Try.prog 77 = some ([.int .u8 0, .int .u16 0, .int .u32 0, .string ⟨#[]⟩, .int .u32 0, .string ⟨#[]⟩, .string ⟨#[]⟩, .string ⟨#[]⟩, .int .u16 0, .int .u32 0, .int .u32 0, .slice none 0 0, .slice none 0 0, .int .u8 0, .int .u32 0, .int .u64 0, .int .u8 0, .int .u32 0, .string ⟨#[]⟩, .int .u32 0, .int .u64 0, .int .u32 0, .slice none 0 0, .int .u16 0, .int .u32 0, .int .u8 0, .int .u32 0, .int .u64 0, .int .u32 0, .int .u32 0, .int .u32 0, .int .u64 0, .string ⟨#[]⟩, .string ⟨#[]⟩, .string ⟨#[]⟩, .string ⟨#[]⟩], some [(0, 1), (1, 1), (2, 1), (3, 1), (4, 1), (5, 1), (6, 1), (7, 1), (8, 1), (9, 1), (10, 1), (11, 1), (12, 1), (13, 3), (16, 1), (17, 1), (18, 1), (19, 1), (20, 1), (21, 1), (22, 1), (23, 13)], 0) := by kernel_rfl
theorem fact_bldP_94 : bldP Try.prog 94 = some ([.int .i64 0, .int .i64 0, .map none, .map none, .slice none 0 0], some [(0, 1), (1, 1), (2, 1), (3, 1), (4, 1)], 0) := by kernel_rfl
theorem fact_bldP_98 : bldP Try.prog 98 = some ([.int .i64 0, .int .u16 0, .int .u8 0, .bool false, .int .i64 0, .int .i64 0], some [(0, 1), (1, 1), (2, 1), (3, 1), (4, 1), (5, 1)], 0) := by kernel_rfl
theorem fact_elemOf_25 : elemOf? Try.prog 25 = some (none, 3) := by kernel_rfl
theorem fact_elemOf_30 : elemOf? Try.prog 30 = some (none, 7) := by kernel_rfl
theorem fact_elemOf_31 : elemOf? Try.prog 31 = some (none, 1) := by kernel_rfl
theorem fact_elemOf_92 : elemOf? Try.prog 92 = some (none, 38) := by kernel_rfl
theorem fact_fieldOff_100_0 : fieldOff Try.prog 100 0 = some 0 := by kernel_rfl
theorem fact_fieldOff_104_0 : fieldOff Try.prog 104 0 = some 0 := by kernel_rfl
theorem fact_fieldOff_104_1 : fieldOff Try.prog 104 1 = some 36 := by kernel_rfl
theorem fact_fieldOff_104_2 : fieldOff Try.prog 104 2 = some 37 := by kernel_rfl
theorem fact_fieldOff_28_0 : fieldOff Try.prog 28 0 = some 0 := by kernel_rfl
theorem fact_fieldOff_28_1 : fieldOff Try.prog 28 1 = some 1 := by kernel_rfl
theorem fact_fieldOff_28_2 : fieldOff Try.prog 28 2 = some 2 := by kernel_rfl
theorem fact_fieldOff_33_0 : fieldOff Try.prog 33 0 = some 0 := by kernel_rfl
theorem fact_fieldOff_33_1 : fieldOff Try.prog 33 1 = some 1 := by kernel_rfl
theorem fact_fieldOff_33_2 : fieldOff Try.prog 33 2 = some 2 := by kernel_rfl
theorem fact_fieldOff_33_3 : fieldOff Try.prog 33 3 = some 3 := by kernel_rfl
theorem fact_fieldOff_39_0 : fieldOff Try.prog 39 0 = some 0 := by kernel_rfl
theorem fact_fieldOff_39_1 : fieldOff Try.prog 39 1 = some 1 := by kernel_rfl
theorem fact_fieldOff_39_2 : fieldOff Try.prog 39 2 = some 2 := by kernel_rfl
theorem fact_fieldOff_39_3 : fieldOff Try.prog 39 3 = some 3 := by kernel_rfl
theorem fact_fieldOff_39_4 : fieldOff Try.prog 39 4 = some 4 := by kernel_rfl
theorem fact_fieldOff_39_5 : fieldOff Try.prog 39 5 = some 5 := by kernel_rfl
theorem fact_fieldOff_39_6 : fieldOff Try.prog 39 6 = some 6 := by kernel_rfl
theorem fact_fieldOff_77_0 : fieldOff Try.prog 77 0 = some 0 := by kernel_rfl
theorem fact_fieldOff_77_1 : fieldOff Try.prog 77 1 = some 1 := by kernel_rfl
theorem fact_fieldOff_77_11 : fieldOff Try.prog 77 11 = some 11 := by kernel_rfl
theorem fact_fieldOff_77_12 : fieldOff Try.prog 77 12 = some 12 := by kernel_rfl
theorem fact_fieldOff_77_20 : fieldOff Try.prog 77 20 = some 22 := by kernel_rfl
theorem fact_fieldOff_77_7 : fieldOff Try.prog 77 7 = some 7 := by kernel_rfl
theorem fact_fieldOff_94_0 : fieldOff Try.prog 94 0 = some 0 := by kernel_rfl
theorem fact_fieldOff_94_1 : fieldOff Try.prog 94 1 = some 1 := by kernel_rfl
theorem fact_fieldOff_94_2 : fieldOff Try.prog 94 2 = some 2 := by kernel_rfl
theorem fact_fieldOff_94_3 : fieldOff Try.prog 94 3 = some 3 := by kernel_rfl
theorem fact_fieldOff_94_4 : fieldOff Try.prog 94 4 = some 4 := by kernel_rfl
theorem fact_fieldOff_98_0 : fieldOff Try.prog 98 0 = some 0 := by kernel_rfl
theorem fact_fieldOff_98_1 : fieldOff Try.prog 98 1 = some 1 := by kernel_rfl
theorem fact_fieldOff_98_2 : fieldOff Try.prog 98 2 = some 2 := by kernel_rfl
theorem fact_fieldOff_98_4 : fieldOff Try.prog 98 4 = some 4 := by kernel_rfl
theorem fact_fieldOff_98_5 : fieldOff Try.prog 98 5 = some 5 := by kernel_rfl
theorem fact_fnOk_10 : fnOk Try.prog 10 = true := by kernel_rfl
theorem fact_fnOk_11 : fnOk Try.prog 11 = true := by kernel_rfl
theorem fact_fnOk_12 : fnOk Try.prog 12 = true := by kernel_rfl
theorem fact_fnOk_13 : fnOk Try.prog 13 = true := by kernel_rfl
theorem fact_fnOk_15 : fnOk Try.prog 15 = true := by kernel_rfl
theorem fact_fnOk_21 : fnOk Try.prog 21 = true := by kernel_rfl
theorem fact_fnOk_22 : fnOk Try.prog 22 = true := by kernel_rfl
theorem fact_fnOk_23 : fnOk Try.prog 23 = true := by kernel_rfl
theorem fact_fnOk_24 : fnOk Try.prog 24 = true := by kernel_rfl
theorem fact_fnOk_25 : fnOk Try.prog 25 = true := by kernel_rfl
theorem fact_fnOk_26 : fnOk Try.prog 26 = true := by kernel_rfl
theorem fact_fnOk_27 : fnOk Try.prog 27 = true := by kernel_rfl
theorem fact_fnOk_28 : fnOk Try.prog 28 = true := by kernel_rfl
theorem fact_fnOk_29 : fnOk Try.prog 29 = true := by kernel_rfl
theorem fact_fnOk_30 : fnOk Try.prog 30 = true := by kernel_rfl
theorem fact_fnOk_32 : fnOk Try.prog 32 = true := by kernel_rfl
theorem fact_fnOk_36 : fnOk Try.prog 36 = true := by kernel_rfl
theorem fact_fnOk_52 : fnOk Try.prog 52 = true := by kernel_rfl
theorem fact_fnOk_53 : fnOk Try.prog 53 = true := by kernel_rfl
theorem fact_fnOk_54 : fnOk Try.prog 54 = true := by kernel_rfl
theorem fact_fnOk_55 : fnOk Try.prog 55 = true := by kernel_rfl
theorem fact_fnOk_56 : fnOk Try.prog 56 = true := by kernel_rfl
theorem fact_fnOk_57 : fnOk Try.prog 57 = true := by kernel_rfl
theorem fact_fnOk_58 : fnOk Try.prog 58 = true := by kernel_rfl
theorem fact_fnOk_59 : fnOk Try.prog 59 = true := by kernel_rfl
theorem fact_fnOk_60 : fnOk Try.prog 60 = true := by kernel_rfl
theorem fact_fnOk_61 : fnOk Try.prog 61 = true := by kernel_rfl
theorem fact_fnOk_7 : fnOk Try.prog 7 = true := by kernel_rfl
theorem fact_fnOk_75 : fnOk Try.prog 75 = true := by kernel_rfl
theorem fact_fnOk_8 : fnOk Try.prog 8 = true := by kernel_rfl
theorem fact_fnOk_9 : fnOk Try.prog 9 = true := by kernel_rfl
theorem fact_rowTy_30 : rowTy Try.prog 30 = some (39, 7, 24, [.int .u16 0, .bool false, .int .i64 0, .bool false, .bool false, .bool false, .bool false]) := by kernel_rfl
theorem fact_rowTy_31 : rowTy Try.prog 31 = some (3, 1, 8, [.int .i64 0]) := by kernel_rfl
theorem fact_rowTy_40 : rowTy Try.prog 40 = some (100, 3, 24, [.int .u16 0, .int .i64 0, .int .u8 0]) := by kernel_rfl
theorem fact_rowTy_42 : rowTy Try.prog 42 = some (77, 36, 344, [.int .u8 0, .int .u16 0, .int .u32 0, .string ⟨#[]⟩, .int .u32 0, .string ⟨#[]⟩, .string ⟨#[]⟩, .string ⟨#[]⟩, .int .u16 0, .int .u32 0, .int .u32 0, .slice none 0 0, .slice none 0 0, .int .u8 0, .int .u32 0, .int .u64 0, .int .u8 0, .int .u32 0, .string ⟨#[]⟩, .int .u32 0, .int .u64 0, .int .u32 0, .slice none 0 0, .int .u16 0, .int .u32 0, .int .u8 0, .int .u32 0, .int .u64 0, .int .u32 0, .int .u32 0, .int .u32 0, .int .u64 0, .string ⟨#[]⟩, .string ⟨#[]⟩, .string ⟨#[]⟩, .string ⟨#[]⟩]) := by kernel_rfl
theorem fact_rowTy_68 : rowTy Try.prog 68 = some (9, 1, 16, [.string ⟨#[]⟩]) := by kernel_rfl
theorem fact_rowTy_69 : rowTy Try.prog 69 = some (72, 3, 16, [.int .u8 0, .int .u32 0, .int .u64 0]) := by kernel_rfl
theorem fact_rowTy_73 : rowTy Try.prog 73 = some (5, 1, 1, [.int .u8 0]) := by kernel_rfl
theorem fact_rowTy_92 : rowTy Try.prog 92 = some (104, 38, 360, [.int .u8 0, .int .u16 0, .int .u32 0, .string ⟨#[]⟩, .int .u32 0, .string ⟨#[]⟩, .string ⟨#[]⟩, .string ⟨#[]⟩, .int .u16 0, .int .u32 0, .int .u32 0, .slice none 0 0, .slice none 0 0, .int .u8 0, .int .u32 0, .int .u64 0, .int .u8 0, .int .u32 0, .string ⟨#[]⟩, .int .u32 0, .int .u64 0, .int .u32 0, .slice none 0 0, .int .u16 0, .int .u32 0, .int .u8 0, .int .u32 0, .int .u64 0, .int .u32 0, .int .u32 0, .int .u32 0, .int .u64 0, .string ⟨#[]⟩, .string ⟨#[]⟩, .string ⟨#[]⟩, .string ⟨#[]⟩, .int .i64 0, .bool false]) := by kernel_rfl
theorem fact_szO_104 : szO Try.prog 104 = some 38 := by kernel_rfl
theorem fact_szO_3 : szO Try.prog 3 = some 1 := by kernel_rfl
theorem fact_szO_30 : szO Try.prog 30 = some 1 := by kernel_rfl
theorem fact_szO_31 : szO Try.prog 31 = some 1 := by kernel_rfl
theorem fact_szO_37 : szO Try.prog 37 = some 1 := by kernel_rfl
theorem fact_szO_39 : szO Try.prog 39 = some 7 := by kernel_rfl
theorem fact_szO_4 : szO Try.prog 4 = some 1 := by kernel_rfl
theorem fact_szO_68 : szO Try.prog 68 = some 1 := by kernel_rfl
theorem fact_szO_69 : szO Try.prog 69 = some 1 := by kernel_rfl
theorem fact_szO_73 : szO Try.prog 73 = some 1 := by kernel_rfl
theorem fact_szO_77 : szO Try.prog 77 = some 36 := by kernel_rfl
theorem fact_szO_92 : szO Try.prog 92 = some 1 := by kernel_rfl
theorem fact_szO_96 : szO Try.prog 96 = some 1 := by kernel_rfl
theorem fact_zeroV_104 : zeroV Try.prog 104 = some (.agg #[.int .u8 0, .int .u16 0, .int .u32 0, .string ⟨#[]⟩, .int .u32 0, .string ⟨#[]⟩, .string ⟨#[]⟩, .string ⟨#[]⟩, .int .u16 0, .int .u32 0, .int .u32 0, .slice none 0 0, .slice none 0 0, .int .u8 0, .int .u32 0, .int .u64 0, .int .u8 0, .int .u32 0, .string ⟨#[]⟩, .int .u32 0, .int .u64 0, .int .u32 0, .slice none 0 0, .int .u16 0, .int .u32 0, .int .u8 0, .int .u32 0, .int .u64 0, .int .u32 0, .int .u32 0, .int .u32 0, .int .u64 0, .string ⟨#[]⟩, .string ⟨#[]⟩, .string ⟨#[]⟩, .string ⟨#[]⟩, .int .i64 0, .bool false]) := by kernel_rfl
theorem fact_zeroV_39 : zeroV Try.prog 39 = some (.agg #[.int .u16 0, .bool false, .int .i64 0, .bool false, .bool false, .bool false, .bool false]) := by kernel_rfl
theorem fact_zeroV_77 : zeroV Try.prog 77 = some (.agg #[.int .u8 0, .int .u16 0, .int .u32 0, .string ⟨#[]⟩, .int .u32 0, .string ⟨#[]⟩, .string ⟨#[]⟩, .string ⟨#[]⟩, .int .u16 0, .int .u32 0, .int .u32 0, .slice none 0 0, .slice none 0 0, .int .u8 0, .int .u32 0, .int .u64 0, .int .u8 0, .int .u32 0, .string ⟨#[]⟩, .int .u32 0, .int .u64 0, .int .u32 0, .slice none 0 0, .int .u16 0, .int .u32 0, .int .u8 0, .int .u32 0, .int .u64 0, .int .u32 0, .int .u32 0, .int .u32 0, .int .u64 0, .string ⟨#[]⟩, .string ⟨#[]⟩, .string ⟨#[]⟩, .string ⟨#[]⟩]) := by kernel_rfl

def F3.r0 : List Oper := [
  ⟨(some 0), (.assign (.const (.bool false))), 4, "", #[], none⟩]
def F3.r1 : List Oper := [
  ⟨(some 2), (.call ⟨(.value (.func 7)), #[], #[]⟩), 22, "", #[⟨0, .chain⟩], none⟩,
  ⟨(some 1), (.assign (.tmp 2)), 22, "", #[], none⟩]
def F3.r2 : List Oper := [
  ⟨(some 3), (.move (.tmp 1)), 22, "", #[], none⟩,
  ⟨(some 4), (.binOp .neq 22 (.tmp 3) (.const (.pointer none)) 22), 4, "", #[], none⟩,
  ⟨(some 5), (.move (.tmp 4)), 4, "", #[], none⟩,
  ⟨(some 6), (.pick (.tmp 5) (.const (.bool true)) (.const (.bool false))), 4, "", #[], none⟩,
  ⟨(some 7), (.move (.tmp 6)), 4, "", #[], none⟩,
  ⟨(some 8), (.pick (.tmp 7) (.const (.bool true)) (.const (.bool false))), 4, "", #[], none⟩,
  ⟨(some 9), (.move (.tmp 8)), 4, "", #[], none⟩,
  ⟨(some 10), (.pick (.tmp 9) (.const (.bool true)) (.const (.bool false))), 4, "", #[], none⟩,
  ⟨(some 11), (.move (.tmp 10)), 4, "", #[], none⟩,
  ⟨(some 12), (.pick (.tmp 11) (.const (.bool true)) (.const (.bool false))), 4, "", #[], none⟩,
  ⟨(some 13), (.move (.tmp 12)), 4, "", #[], none⟩,
  ⟨(some 14), (.pick (.tmp 13) (.const (.bool true)) (.const (.bool false))), 4, "", #[], none⟩,
  ⟨(some 15), (.move (.tmp 14)), 4, "", #[], none⟩,
  ⟨(some 16), (.pick (.tmp 15) (.const (.bool true)) (.const (.bool false))), 4, "", #[], none⟩,
  ⟨(some 17), (.move (.tmp 16)), 4, "", #[], none⟩,
  ⟨(some 18), (.pick (.tmp 17) (.const (.bool true)) (.const (.bool false))), 4, "", #[], none⟩,
  ⟨(some 19), (.move (.tmp 18)), 4, "", #[], none⟩,
  ⟨(some 20), (.pick (.tmp 19) (.const (.bool true)) (.const (.bool false))), 4, "", #[], none⟩,
  ⟨(some 21), (.move (.tmp 20)), 4, "", #[], none⟩,
  ⟨(some 22), (.pick (.tmp 21) (.const (.bool true)) (.const (.bool false))), 4, "", #[], none⟩,
  ⟨(some 23), (.move (.tmp 22)), 4, "", #[], none⟩,
  ⟨(some 24), (.pick (.tmp 23) (.const (.bool true)) (.const (.bool false))), 4, "", #[], none⟩,
  ⟨(some 25), (.move (.tmp 24)), 4, "", #[], none⟩,
  ⟨(some 26), (.pick (.tmp 25) (.const (.bool true)) (.const (.bool false))), 4, "", #[], none⟩,
  ⟨(some 27), (.move (.tmp 26)), 4, "", #[], none⟩,
  ⟨(some 28), (.pick (.tmp 27) (.const (.bool true)) (.const (.bool false))), 4, "", #[], none⟩,
  ⟨(some 29), (.move (.tmp 28)), 4, "", #[], none⟩,
  ⟨(some 30), (.pick (.tmp 29) (.const (.bool true)) (.const (.bool false))), 4, "", #[], none⟩,
  ⟨(some 31), (.move (.tmp 30)), 4, "", #[], none⟩,
  ⟨(some 32), (.pick (.tmp 31) (.const (.bool true)) (.const (.bool false))), 4, "", #[], none⟩,
  ⟨(some 0), (.assign (.tmp 32)), 4, "", #[], none⟩]
def F3.code : Cd := (.seq (.region 0 F3.r0.toArray false) (.seq (.region 1 F3.r1.toArray false) (.seq (.region 2 F3.r2.toArray false) .ret)))
theorem F3.calls {args : Array Value} {w : World} {R : Ending → World → Prop} (hn : args.size ≤ 33) (h : cwE Try.prog F3.code (fnP Try.prog #[(.tmp 0)] R) (entry args) w) : Calls Try.prog 3 args w R :=
  calls_of_cwE (types := Try.prog.types) follows Try.func3 F3.code rfl (by kernel_rfl) hn h

def F4.r0 : List Oper := [
  ⟨(some 2), (.assign (.const (.bool false))), 4, "", #[], none⟩]
def F4.r1 : List Oper := [
  ⟨(some 16), (.call ⟨(.value (.func 7)), #[], #[]⟩), 22, "", #[⟨0, .chain⟩], none⟩,
  ⟨(some 3), (.assign (.tmp 16)), 22, "", #[], none⟩]
def F4.r2 : List Oper := [
  ⟨(some 17), (.move (.tmp 3)), 22, "", #[], none⟩,
  ⟨(some 18), (.binOp .eql 22 (.tmp 17) (.const (.pointer none)) 22), 4, "", #[], none⟩]
def F4.r3 : List Oper := [
  ⟨(some 2), (.assign (.const (.bool false))), 4, "", #[], none⟩]
def F4.r4 : List Oper := [
  ⟨(some 4), (.assign (.const (.int .i64 0))), 3, "", #[], none⟩]
def F4.r5 : List Oper := [
  ⟨(some 19), (.move (.tmp 4)), 3, "", #[], none⟩,
  ⟨(some 20), (.move (.tmp 0)), 25, "", #[], none⟩,
  ⟨(some 21), (.call ⟨(.builtin .len), #[(.tmp 20)], #[25]⟩), 3, "", #[], none⟩,
  ⟨(some 22), (.binOp .lss 3 (.tmp 19) (.tmp 21) 3), 4, "", #[], none⟩,
  ⟨(some 23), (.move (.tmp 22)), 4, "", #[], none⟩,
  ⟨(some 24), (.move (.tmp 4)), 3, "", #[], (some (23, true))⟩,
  ⟨(some 25), (.binOp .lss 3 (.tmp 24) (.const (.int .i64 300)) 3), 4, "", #[], (some (23, true))⟩,
  ⟨(some 26), (.pick (.tmp 23) (.tmp 25) (.const (.bool false))), 4, "", #[], none⟩]
def F4.r7 : List Oper := [
  ⟨(some 29), (.move (.tmp 3)), 22, "", #[], none⟩,
  ⟨(some 30), (.move (.tmp 0)), 25, "", #[], none⟩,
  ⟨(some 31), (.move (.tmp 4)), 3, "", #[], none⟩,
  ⟨(some 32), (.indexAddr 25 (.tmp 30) (.tmp 31)), 0, "", #[], none⟩,
  ⟨(some 33), (.load 28 (.tmp 32)), 28, "", #[⟨0, .data⟩], none⟩,
  ⟨(some 34), (.call ⟨(.value (.func 8)), #[(.tmp 29), (.tmp 33)], #[22, 28]⟩), 4, "", #[⟨0, .chain⟩], none⟩,
  ⟨(some 5), (.assign (.tmp 34)), 4, "", #[], none⟩]
def F4.r8 : List Oper := [
  ⟨(some 35), (.move (.tmp 5)), 4, "", #[], none⟩,
  ⟨(some 36), (.unOp .not 4 (.tmp 35)), 4, "", #[], none⟩]
def F4.r9 : List Oper := [
  ⟨(some 2), (.assign (.const (.bool false))), 4, "", #[], none⟩]
def F4.r6 : List Oper := [
  ⟨(some 27), (.move (.tmp 4)), 3, "", #[], none⟩,
  ⟨(some 28), (.binOp .add 3 (.tmp 27) (.const (.int .i64 1)) 3), 3, "", #[], none⟩,
  ⟨(some 4), (.assign (.tmp 28)), 3, "", #[], none⟩]
def F4.r10 : List Oper := [
  ⟨(some 6), (.assign (.const (.int .i64 0))), 3, "", #[], none⟩]
def F4.r11 : List Oper := [
  ⟨(some 37), (.move (.tmp 6)), 3, "", #[], none⟩,
  ⟨(some 38), (.move (.tmp 3)), 22, "", #[], none⟩,
  ⟨(some 39), (.nilCheck (.tmp 38)), 0, "", #[], none⟩,
  ⟨(some 40), (.fieldAddr 33 (.tmp 39) 1), 0, "", #[], none⟩,
  ⟨(some 41), (.load 30 (.tmp 40)), 30, "", #[⟨0, .data⟩], none⟩,
  ⟨(some 42), (.call ⟨(.builtin .len), #[(.tmp 41)], #[30]⟩), 3, "", #[], none⟩,
  ⟨(some 43), (.binOp .lss 3 (.tmp 37) (.tmp 42) 3), 4, "", #[], none⟩]
def F4.r13 : List Oper := [
  ⟨(some 46), (.move (.tmp 3)), 22, "", #[], none⟩,
  ⟨(some 47), (.move (.tmp 6)), 3, "", #[], none⟩,
  ⟨(some 48), (.call ⟨(.value (.func 9)), #[(.tmp 46), (.tmp 47)], #[22, 3]⟩), 4, "", #[⟨0, .chain⟩], none⟩,
  ⟨(some 7), (.assign (.tmp 48)), 4, "", #[], none⟩]
def F4.r14 : List Oper := [
  ⟨(some 49), (.move (.tmp 3)), 22, "", #[], none⟩,
  ⟨(some 50), (.move (.tmp 6)), 3, "", #[], none⟩,
  ⟨(some 51), (.call ⟨(.value (.func 10)), #[(.tmp 49), (.tmp 50)], #[22, 3]⟩), 4, "", #[⟨0, .chain⟩], none⟩,
  ⟨(some 8), (.assign (.tmp 51)), 4, "", #[], none⟩]
def F4.r15 : List Oper := [
  ⟨(some 52), (.move (.tmp 7)), 4, "", #[], none⟩,
  ⟨(some 53), (.unOp .not 4 (.tmp 52)), 4, "", #[], none⟩,
  ⟨(some 54), (.move (.tmp 53)), 4, "", #[], none⟩,
  ⟨(some 55), (.move (.tmp 8)), 4, "", #[], (some (54, false))⟩,
  ⟨(some 56), (.unOp .not 4 (.tmp 55)), 4, "", #[], (some (54, false))⟩,
  ⟨(some 57), (.pick (.tmp 54) (.const (.bool true)) (.tmp 56)), 4, "", #[], none⟩]
def F4.r16 : List Oper := [
  ⟨(some 2), (.assign (.const (.bool false))), 4, "", #[], none⟩]
def F4.r12 : List Oper := [
  ⟨(some 44), (.move (.tmp 6)), 3, "", #[], none⟩,
  ⟨(some 45), (.binOp .add 3 (.tmp 44) (.const (.int .i64 1)) 3), 3, "", #[], none⟩,
  ⟨(some 6), (.assign (.tmp 45)), 3, "", #[], none⟩]
def F4.r17 : List Oper := [
  ⟨(some 58), (.move (.tmp 3)), 22, "", #[], none⟩,
  ⟨(some 59), (.nilCheck (.tmp 58)), 0, "", #[], none⟩,
  ⟨(some 60), (.fieldAddr 33 (.tmp 59) 1), 0, "", #[], none⟩,
  ⟨(some 63), (.move (.tmp 3)), 22, "", #[], none⟩,
  ⟨(some 64), (.nilCheck (.tmp 63)), 0, "", #[], none⟩,
  ⟨(some 65), (.fieldAddr 33 (.tmp 64) 3), 0, "", #[], none⟩,
  ⟨(some 61), (.load 30 (.tmp 60)), 30, "", #[⟨0, .data⟩], none⟩,
  ⟨(some 62), (.call ⟨(.builtin .len), #[(.tmp 61)], #[30]⟩), 3, "", #[], none⟩,
  ⟨(some 66), (.load 3 (.tmp 65)), 3, "", #[⟨0, .data⟩], none⟩,
  ⟨(some 67), (.binOp .add 3 (.tmp 62) (.tmp 66) 3), 3, "", #[], none⟩,
  ⟨(some 68), (.binOp .add 3 (.tmp 67) (.const (.int .i64 1)) 3), 3, "", #[], none⟩,
  ⟨(some 9), (.assign (.tmp 68)), 3, "", #[], none⟩]
def F4.r18 : List Oper := [
  ⟨(some 10), (.assign (.const (.bool true))), 4, "", #[], none⟩]
def F4.r19 : List Oper := [
  ⟨(some 11), (.assign (.const (.int .i64 0))), 3, "", #[], none⟩]
def F4.r20 : List Oper := [
  ⟨(some 69), (.move (.tmp 11)), 3, "", #[], none⟩,
  ⟨(some 70), (.move (.tmp 9)), 3, "", #[], none⟩,
  ⟨(some 71), (.binOp .lss 3 (.tmp 69) (.tmp 70) 3), 4, "", #[], none⟩,
  ⟨(some 72), (.move (.tmp 71)), 4, "", #[], none⟩,
  ⟨(some 73), (.move (.tmp 10)), 4, "", #[], (some (72, true))⟩,
  ⟨(some 74), (.pick (.tmp 72) (.tmp 73) (.const (.bool false))), 4, "", #[], none⟩]
def F4.r22 : List Oper := [
  ⟨(some 12), (.assign (.const (.bool true))), 4, "", #[], none⟩]
def F4.r23 : List Oper := [
  ⟨(some 78), (.move (.tmp 3)), 22, "", #[], none⟩,
  ⟨(some 79), (.call ⟨(.value (.func 11)), #[(.tmp 78)], #[22]⟩), 35, "", #[⟨0, .chain⟩], none⟩,
  ⟨(some 77), (.move (.tmp 79)), 35, "", #[], none⟩,
  ⟨(some 80), (.extract (.tmp 77) 0), 4, "", #[], none⟩,
  ⟨(some 81), (.extract (.tmp 77) 1), 4, "", #[], none⟩,
  ⟨(some 10), (.assign (.tmp 80)), 4, "", #[], none⟩,
  ⟨(some 12), (.assign (.tmp 81)), 4, "", #[], none⟩]
def F4.r24 : List Oper := [
  ⟨(some 82), (.move (.tmp 12)), 4, "", #[], none⟩,
  ⟨(some 83), (.unOp .not 4 (.tmp 82)), 4, "", #[], none⟩]
def F4.r25 : List Oper := [
  ⟨(some 2), (.assign (.const (.bool false))), 4, "", #[], none⟩]
def F4.r21 : List Oper := [
  ⟨(some 75), (.move (.tmp 11)), 3, "", #[], none⟩,
  ⟨(some 76), (.binOp .add 3 (.tmp 75) (.const (.int .i64 1)) 3), 3, "", #[], none⟩,
  ⟨(some 11), (.assign (.tmp 76)), 3, "", #[], none⟩]
def F4.r26 : List Oper := [
  ⟨(some 84), (.move (.tmp 10)), 4, "", #[], none⟩,
  ⟨(some 85), (.move (.tmp 84)), 4, "", #[], none⟩,
  ⟨(some 86), (.move (.tmp 3)), 22, "", #[], (some (85, false))⟩,
  ⟨(some 87), (.nilCheck (.tmp 86)), 0, "", #[], (some (85, false))⟩,
  ⟨(some 88), (.fieldAddr 33 (.tmp 87) 3), 0, "", #[], (some (85, false))⟩,
  ⟨(some 89), (.load 3 (.tmp 88)), 3, "", #[⟨0, .data⟩], (some (85, false))⟩,
  ⟨(some 90), (.binOp .neq 3 (.tmp 89) (.const (.int .i64 0)) 3), 4, "", #[], (some (85, false))⟩,
  ⟨(some 91), (.pick (.tmp 85) (.const (.bool true)) (.tmp 90)), 4, "", #[], none⟩]
def F4.r27 : List Oper := [
  ⟨(some 2), (.assign (.const (.bool false))), 4, "", #[], none⟩]
def F4.r28 : List Oper := [
  ⟨(some 13), (.assign (.const (.int .i64 0))), 3, "", #[], none⟩]
def F4.r29 : List Oper := [
  ⟨(some 92), (.move (.tmp 13)), 3, "", #[], none⟩,
  ⟨(some 93), (.move (.tmp 3)), 22, "", #[], none⟩,
  ⟨(some 94), (.nilCheck (.tmp 93)), 0, "", #[], none⟩,
  ⟨(some 95), (.fieldAddr 33 (.tmp 94) 1), 0, "", #[], none⟩,
  ⟨(some 96), (.load 30 (.tmp 95)), 30, "", #[⟨0, .data⟩], none⟩,
  ⟨(some 97), (.call ⟨(.builtin .len), #[(.tmp 96)], #[30]⟩), 3, "", #[], none⟩,
  ⟨(some 98), (.binOp .lss 3 (.tmp 92) (.tmp 97) 3), 4, "", #[], none⟩]
def F4.r31 : List Oper := [
  ⟨(some 101), (.move (.tmp 3)), 22, "", #[], none⟩,
  ⟨(some 102), (.nilCheck (.tmp 101)), 0, "", #[], none⟩,
  ⟨(some 103), (.fieldAddr 33 (.tmp 102) 1), 0, "", #[], none⟩,
  ⟨(some 105), (.move (.tmp 13)), 3, "", #[], none⟩,
  ⟨(some 109), (.move (.tmp 3)), 22, "", #[], none⟩,
  ⟨(some 110), (.nilCheck (.tmp 109)), 0, "", #[], none⟩,
  ⟨(some 111), (.fieldAddr 33 (.tmp 110) 1), 0, "", #[], none⟩,
  ⟨(some 113), (.move (.tmp 13)), 3, "", #[], none⟩,
  ⟨(some 104), (.load 30 (.tmp 103)), 30, "", #[⟨0, .data⟩], none⟩,
  ⟨(some 106), (.indexAddr 30 (.tmp 104) (.tmp 105)), 0, "", #[], none⟩,
  ⟨(some 107), (.fieldAddr 39 (.tmp 106) 6), 0, "", #[], none⟩,
  ⟨(some 108), (.load 4 (.tmp 107)), 4, "", #[⟨0, .data⟩], none⟩,
  ⟨(some 112), (.load 30 (.tmp 111)), 30, "", #[⟨0, .data⟩], none⟩,
  ⟨(some 114), (.indexAddr 30 (.tmp 112) (.tmp 113)), 0, "", #[], none⟩,
  ⟨(some 115), (.fieldAddr 39 (.tmp 114) 3), 0, "", #[], none⟩,
  ⟨(some 116), (.load 4 (.tmp 115)), 4, "", #[⟨0, .data⟩], none⟩,
  ⟨(some 117), (.binOp .eql 4 (.tmp 108) (.tmp 116) 4), 4, "", #[], none⟩]
def F4.r32 : List Oper := [
  ⟨(some 2), (.assign (.const (.bool false))), 4, "", #[], none⟩]
def F4.r30 : List Oper := [
  ⟨(some 99), (.move (.tmp 13)), 3, "", #[], none⟩,
  ⟨(some 100), (.binOp .add 3 (.tmp 99) (.const (.int .i64 1)) 3), 3, "", #[], none⟩,
  ⟨(some 13), (.assign (.tmp 100)), 3, "", #[], none⟩]
def F4.r33 : List Oper := [
  ⟨(some 118), (.move (.tmp 3)), 22, "", #[], none⟩,
  ⟨(some 119), (.nilCheck (.tmp 118)), 0, "", #[], none⟩,
  ⟨(some 120), (.fieldAddr 33 (.tmp 119) 0), 0, "", #[], none⟩,
  ⟨(some 121), (.load 29 (.tmp 120)), 29, "", #[⟨0, .data⟩], none⟩,
  ⟨(some 122), (.call ⟨(.value (.func 12)), #[(.tmp 121)], #[29]⟩), 40, "", #[⟨0, .chain⟩], none⟩,
  ⟨(some 14), (.assign (.tmp 122)), 40, "", #[], none⟩]
def F4.r34 : List Oper := [
  ⟨(some 123), (.move (.tmp 3)), 22, "", #[], none⟩,
  ⟨(some 124), (.nilCheck (.tmp 123)), 0, "", #[], none⟩,
  ⟨(some 125), (.fieldAddr 33 (.tmp 124) 0), 0, "", #[], none⟩,
  ⟨(some 126), (.load 29 (.tmp 125)), 29, "", #[⟨0, .data⟩], none⟩,
  ⟨(some 127), (.call ⟨(.value (.func 13)), #[(.tmp 126)], #[29]⟩), 42, "", #[⟨0, .chain⟩], none⟩,
  ⟨(some 15), (.assign (.tmp 127)), 42, "", #[], none⟩]
def F4.r35 : List Oper := [
  ⟨(some 128), (.move (.tmp 14)), 40, "", #[], none⟩,
  ⟨(some 129), (.call ⟨(.builtin .len), #[(.tmp 128)], #[40]⟩), 3, "", #[], none⟩,
  ⟨(some 130), (.binOp .eql 3 (.tmp 129) (.const (.int .i64 0)) 3), 4, "", #[], none⟩,
  ⟨(some 131), (.move (.tmp 130)), 4, "", #[], none⟩,
  ⟨(some 132), (.move (.tmp 15)), 42, "", #[], (some (131, true))⟩,
  ⟨(some 133), (.call ⟨(.builtin .len), #[(.tmp 132)], #[42]⟩), 3, "", #[], (some (131, true))⟩,
  ⟨(some 134), (.binOp .eql 3 (.tmp 133) (.const (.int .i64 0)) 3), 4, "", #[], (some (131, true))⟩,
  ⟨(some 135), (.pick (.tmp 131) (.tmp 134) (.const (.bool false))), 4, "", #[], none⟩,
  ⟨(some 2), (.assign (.tmp 135)), 4, "", #[], none⟩]
def F4.t6 : Cd := (.region 6 F4.r6.toArray false)
theorem F4.t6_eq {P : Program} {Q : Post} {e : FA} {w : World} {θ : Tag (F4.t6, Q, e, w)} : cwE P F4.t6 Q e w θ = cwE P (.region 6 F4.r6.toArray false) Q e w := rfl
def F4.t7 : Cd := (.seq (.block 1 (.seq (.region 7 F4.r7.toArray false) (.seq (.region 8 F4.r8.toArray false) (.cond (.tmp 36) (.seq (.region 9 F4.r9.toArray false) .ret) .skip)))) F4.t6)
theorem F4.t7_eq {P : Program} {Q : Post} {e : FA} {w : World} {θ : Tag (F4.t7, Q, e, w)} : cwE P F4.t7 Q e w θ = cwE P (.seq (.block 1 (.seq (.region 7 F4.r7.toArray false) (.seq (.region 8 F4.r8.toArray false) (.cond (.tmp 36) (.seq (.region 9 F4.r9.toArray false) .ret) .skip)))) F4.t6) Q e w := rfl
def F4.t12 : Cd := (.region 12 F4.r12.toArray false)
theorem F4.t12_eq {P : Program} {Q : Post} {e : FA} {w : World} {θ : Tag (F4.t12, Q, e, w)} : cwE P F4.t12 Q e w θ = cwE P (.region 12 F4.r12.toArray false) Q e w := rfl
def F4.t13 : Cd := (.seq (.block 3 (.seq (.region 13 F4.r13.toArray false) (.seq (.region 14 F4.r14.toArray false) (.seq (.region 15 F4.r15.toArray false) (.cond (.tmp 57) (.seq (.region 16 F4.r16.toArray false) .ret) .skip))))) F4.t12)
theorem F4.t13_eq {P : Program} {Q : Post} {e : FA} {w : World} {θ : Tag (F4.t13, Q, e, w)} : cwE P F4.t13 Q e w θ = cwE P (.seq (.block 3 (.seq (.region 13 F4.r13.toArray false) (.seq (.region 14 F4.r14.toArray false) (.seq (.region 15 F4.r15.toArray false) (.cond (.tmp 57) (.seq (.region 16 F4.r16.toArray false) .ret) .skip))))) F4.t12) Q e w := rfl
def F4.t21 : Cd := (.region 21 F4.r21.toArray false)
theorem F4.t21_eq {P : Program} {Q : Post} {e : FA} {w : World} {θ : Tag (F4.t21, Q, e, w)} : cwE P F4.t21 Q e w θ = cwE P (.region 21 F4.r21.toArray false) Q e w := rfl
def F4.t22 : Cd := (.seq (.block 5 (.seq (.region 22 F4.r22.toArray false) (.seq (.region 23 F4.r23.toArray false) (.seq (.region 24 F4.r24.toArray false) (.cond (.tmp 83) (.seq (.region 25 F4.r25.toArray false) .ret) .skip))))) F4.t21)
theorem F4.t22_eq {P : Program} {Q : Post} {e : FA} {w : World} {θ : Tag (F4.t22, Q, e, w)} : cwE P F4.t22 Q e w θ = cwE P (.seq (.block 5 (.seq (.region 22 F4.r22.toArray false) (.seq (.region 23 F4.r23.toArray false) (.seq (.region 24 F4.r24.toArray false) (.cond (.tmp 83) (.seq (.region 25 F4.r25.toArray false) .ret) .skip))))) F4.t21) Q e w := rfl
def F4.t30 : Cd := (.region 30 F4.r30.toArray false)
theorem F4.t30_eq {P : Program} {Q : Post} {e : FA} {w : World} {θ : Tag (F4.t30, Q, e, w)} : cwE P F4.t30 Q e w θ = cwE P (.region 30 F4.r30.toArray false) Q e w := rfl
def F4.t31 : Cd := (.seq (.block 7 (.seq (.region 31 F4.r31.toArray true) (.cond (.tmp 117) (.seq (.region 32 F4.r32.toArray false) .ret) .skip))) F4.t30)
theorem F4.t31_eq {P : Program} {Q : Post} {e : FA} {w : World} {θ : Tag (F4.t31, Q, e, w)} : cwE P F4.t31 Q e w θ = cwE P (.seq (.block 7 (.seq (.region 31 F4.r31.toArray true) (.cond (.tmp 117) (.seq (.region 32 F4.r32.toArray false) .ret) .skip))) F4.t30) Q e w := rfl
def F4.t33 : Cd := (.seq (.region 33 F4.r33.toArray false) (.seq (.region 34 F4.r34.toArray false) (.seq (.region 35 F4.r35.toArray false) .ret)))
theorem F4.t33_eq {P : Program} {Q : Post} {e : FA} {w : World} {θ : Tag (F4.t33, Q, e, w)} : cwE P F4.t33 Q e w θ = cwE P (.seq (.region 33 F4.r33.toArray false) (.seq (.region 34 F4.r34.toArray false) (.seq (.region 35 F4.r35.toArray false) .ret))) Q e w := rfl
def F4.t28 : Cd := (.seq (.seq (.region 28 F4.r28.toArray false) (.block 6 (.loop (.seq (.seq (.region 29 F4.r29.toArray false) (.cond (.tmp 98) .skip (.exit 6))) F4.t31)))) F4.t33)
theorem F4.t28_eq {P : Program} {Q : Post} {e : FA} {w : World} {θ : Tag (F4.t28, Q, e, w)} : cwE P F4.t28 Q e w θ = cwE P (.seq (.seq (.region 28 F4.r28.toArray false) (.block 6 (.loop (.seq (.seq (.region 29 F4.r29.toArray false) (.cond (.tmp 98) .skip (.exit 6))) F4.t31)))) F4.t33) Q e w := rfl
def F4.t26 : Cd := (.seq (.seq (.region 26 F4.r26.toArray false) (.cond (.tmp 91) (.seq (.region 27 F4.r27.toArray false) .ret) .skip)) F4.t28)
theorem F4.t26_eq {P : Program} {Q : Post} {e : FA} {w : World} {θ : Tag (F4.t26, Q, e, w)} : cwE P F4.t26 Q e w θ = cwE P (.seq (.seq (.region 26 F4.r26.toArray false) (.cond (.tmp 91) (.seq (.region 27 F4.r27.toArray false) .ret) .skip)) F4.t28) Q e w := rfl
def F4.t17 : Cd := (.seq (.region 17 F4.r17.toArray true) (.seq (.region 18 F4.r18.toArray false) (.seq (.seq (.region 19 F4.r19.toArray false) (.block 4 (.loop (.seq (.seq (.region 20 F4.r20.toArray false) (.cond (.tmp 74) .skip (.exit 4))) F4.t22)))) F4.t26)))
theorem F4.t17_eq {P : Program} {Q : Post} {e : FA} {w : World} {θ : Tag (F4.t17, Q, e, w)} : cwE P F4.t17 Q e w θ = cwE P (.seq (.region 17 F4.r17.toArray true) (.seq (.region 18 F4.r18.toArray false) (.seq (.seq (.region 19 F4.r19.toArray false) (.block 4 (.loop (.seq (.seq (.region 20 F4.r20.toArray false) (.cond (.tmp 74) .skip (.exit 4))) F4.t22)))) F4.t26))) Q e w := rfl
def F4.t10 : Cd := (.seq (.seq (.region 10 F4.r10.toArray false) (.block 2 (.loop (.seq (.seq (.region 11 F4.r11.toArray false) (.cond (.tmp 43) .skip (.exit 2))) F4.t13)))) F4.t17)
theorem F4.t10_eq {P : Program} {Q : Post} {e : FA} {w : World} {θ : Tag (F4.t10, Q, e, w)} : cwE P F4.t10 Q e w θ = cwE P (.seq (.seq (.region 10 F4.r10.toArray false) (.block 2 (.loop (.seq (.seq (.region 11 F4.r11.toArray false) (.cond (.tmp 43) .skip (.exit 2))) F4.t13)))) F4.t17) Q e w := rfl
def F4.t4 : Cd := (.seq (.seq (.region 4 F4.r4.toArray false) (.block 0 (.loop (.seq (.seq (.region 5 F4.r5.toArray false) (.cond (.tmp 26) .skip (.exit 0))) F4.t7)))) F4.t10)
theorem F4.t4_eq {P : Program} {Q : Post} {e : FA} {w : World} {θ : Tag (F4.t4, Q, e, w)} : cwE P F4.t4 Q e w θ = cwE P (.seq (.seq (.region 4 F4.r4.toArray false) (.block 0 (.loop (.seq (.seq (.region 5 F4.r5.toArray false) (.cond (.tmp 26) .skip (.exit 0))) F4.t7)))) F4.t10) Q e w := rfl
def F4.code : Cd := (.seq (.region 0 F4.r0.toArray false) (.seq (.region 1 F4.r1.toArray false) (.seq (.seq (.region 2 F4.r2.toArray false) (.cond (.tmp 18) (.seq (.region 3 F4.r3.toArray false) .ret) .skip)) F4.t4)))
theorem F4.calls {args : Array Value} {w : World} {R : Ending → World → Prop} (hn : args.size ≤ 136) (h : cwE Try.prog F4.code (fnP Try.prog #[(.tmp 2)] R) (entry args) w) : Calls Try.prog 4 args w R :=
  calls_of_cwE (types := Try.prog.types) follows Try.func4 F4.code rfl (by kernel_rfl) hn h

def F6.r0 : List Oper := [
  ⟨(some 2), (.assign (.const (.bool false))), 4, "", #[], none⟩]
def F6.r1 : List Oper := [
  ⟨(some 22), (.call ⟨(.value (.func 7)), #[], #[]⟩), 22, "", #[⟨0, .chain⟩], none⟩,
  ⟨(some 3), (.assign (.tmp 22)), 22, "", #[], none⟩]
def F6.r2 : List Oper := [
  ⟨(some 23), (.move (.tmp 3)), 22, "", #[], none⟩,
  ⟨(some 24), (.binOp .eql 22 (.tmp 23) (.const (.pointer none)) 22), 4, "", #[], none⟩]
def F6.r3 : List Oper := [
  ⟨(some 2), (.assign (.const (.bool false))), 4, "", #[], none⟩]
def F6.r4 : List Oper := [
  ⟨(some 4), (.assign (.const (.int .i64 0))), 3, "", #[], none⟩]
def F6.r5 : List Oper := [
  ⟨(some 25), (.move (.tmp 4)), 3, "", #[], none⟩,
  ⟨(some 26), (.move (.tmp 0)), 25, "", #[], none⟩,
  ⟨(some 27), (.call ⟨(.builtin .len), #[(.tmp 26)], #[25]⟩), 3, "", #[], none⟩,
  ⟨(some 28), (.binOp .lss 3 (.tmp 25) (.tmp 27) 3), 4, "", #[], none⟩,
  ⟨(some 29), (.move (.tmp 28)), 4, "", #[], none⟩,
  ⟨(some 30), (.move (.tmp 4)), 3, "", #[], (some (29, true))⟩,
  ⟨(some 31), (.binOp .lss 3 (.tmp 30) (.const (.int .i64 300)) 3), 4, "", #[], (some (29, true))⟩,
  ⟨(some 32), (.pick (.tmp 29) (.tmp 31) (.const (.bool false))), 4, "", #[], none⟩]
def F6.r7 : List Oper := [
  ⟨(some 35), (.move (.tmp 3)), 22, "", #[], none⟩,
  ⟨(some 36), (.move (.tmp 0)), 25, "", #[], none⟩,
  ⟨(some 37), (.move (.tmp 4)), 3, "", #[], none⟩,
  ⟨(some 38), (.indexAddr 25 (.tmp 36) (.tmp 37)), 0, "", #[], none⟩,
  ⟨(some 39), (.load 28 (.tmp 38)), 28, "", #[⟨0, .data⟩], none⟩,
  ⟨(some 40), (.call ⟨(.value (.func 8)), #[(.tmp 35), (.tmp 39)], #[22, 28]⟩), 4, "", #[⟨0, .chain⟩], none⟩,
  ⟨(some 5), (.assign (.tmp 40)), 4, "", #[], none⟩]
def F6.r8 : List Oper := [
  ⟨(some 41), (.move (.tmp 5)), 4, "", #[], none⟩,
  ⟨(some 42), (.unOp .not 4 (.tmp 41)), 4, "", #[], none⟩]
def F6.r9 : List Oper := [
  ⟨(some 2), (.assign (.const (.bool false))), 4, "", #[], none⟩]
def F6.r6 : List Oper := [
  ⟨(some 33), (.move (.tmp 4)), 3, "", #[], none⟩,
  ⟨(some 34), (.binOp .add 3 (.tmp 33) (.const (.int .i64 1)) 3), 3, "", #[], none⟩,
  ⟨(some 4), (.assign (.tmp 34)), 3, "", #[], none⟩]
def F6.r10 : List Oper := [
  ⟨(some 43), (.move (.tmp 3)), 22, "", #[], none⟩,
  ⟨(some 44), (.nilCheck (.tmp 43)), 0, "", #[], none⟩,
  ⟨(some 45), (.fieldAddr 33 (.tmp 44) 0), 0, "", #[], none⟩,
  ⟨(some 46), (.load 29 (.tmp 45)), 29, "", #[⟨0, .data⟩], none⟩,
  ⟨(some 47), (.call ⟨(.value (.func 21)), #[(.tmp 46)], #[29]⟩), 31, "", #[⟨0, .chain⟩], none⟩,
  ⟨(some 6), (.assign (.tmp 47)), 31, "", #[], none⟩]
def F6.r11 : List Oper := [
  ⟨(some 7), (.assign (.const (.int .i64 0))), 3, "", #[], none⟩]
def F6.r12 : List Oper := [
  ⟨(some 8), (.assign (.const (.int .i64 0))), 3, "", #[], none⟩]
def F6.r13 : List Oper := [
  ⟨(some 48), (.move (.tmp 8)), 3, "", #[], none⟩,
  ⟨(some 49), (.move (.tmp 3)), 22, "", #[], none⟩,
  ⟨(some 50), (.nilCheck (.tmp 49)), 0, "", #[], none⟩,
  ⟨(some 51), (.fieldAddr 33 (.tmp 50) 1), 0, "", #[], none⟩,
  ⟨(some 52), (.load 30 (.tmp 51)), 30, "", #[⟨0, .data⟩], none⟩,
  ⟨(some 53), (.call ⟨(.builtin .len), #[(.tmp 52)], #[30]⟩), 3, "", #[], none⟩,
  ⟨(some 54), (.binOp .lss 3 (.tmp 48) (.tmp 53) 3), 4, "", #[], none⟩]
def F6.r15 : List Oper := [
  ⟨(some 57), (.move (.tmp 3)), 22, "", #[], none⟩,
  ⟨(some 58), (.nilCheck (.tmp 57)), 0, "", #[], none⟩,
  ⟨(some 59), (.fieldAddr 33 (.tmp 58) 1), 0, "", #[], none⟩,
  ⟨(some 60), (.load 30 (.tmp 59)), 30, "", #[⟨0, .data⟩], none⟩,
  ⟨(some 61), (.move (.tmp 8)), 3, "", #[], none⟩,
  ⟨(some 62), (.indexAddr 30 (.tmp 60) (.tmp 61)), 0, "", #[], none⟩,
  ⟨(some 63), (.load 39 (.tmp 62)), 39, "", #[⟨0, .data⟩], none⟩,
  ⟨(some 9), (.alloc 39), 0, "", #[⟨0, .chain⟩], none⟩,
  ⟨none, (.store 39 (.tmp 9) (.tmp 63)), 0, "", #[⟨0, .chain⟩], none⟩]
def F6.r16 : List Oper := [
  ⟨(some 64), (.fieldAddr 39 (.tmp 9) 1), 0, "", #[], none⟩,
  ⟨(some 65), (.load 4 (.tmp 64)), 4, "", #[⟨0, .data⟩], none⟩,
  ⟨(some 66), (.move (.tmp 65)), 4, "", #[], none⟩,
  ⟨(some 67), (.fieldAddr 39 (.tmp 9) 4), 0, "", #[], (some (66, false))⟩,
  ⟨(some 68), (.load 4 (.tmp 67)), 4, "", #[⟨0, .data⟩], (some (66, false))⟩,
  ⟨(some 69), (.pick (.tmp 66) (.const (.bool true)) (.tmp 68)), 4, "", #[], none⟩,
  ⟨(some 70), (.move (.tmp 69)), 4, "", #[], none⟩,
  ⟨(some 71), (.fieldAddr 39 (.tmp 9) 3), 0, "", #[], (some (70, false))⟩,
  ⟨(some 72), (.load 4 (.tmp 71)), 4, "", #[⟨0, .data⟩], (some (70, false))⟩,
  ⟨(some 73), (.pick (.tmp 70) (.const (.bool true)) (.tmp 72)), 4, "", #[], none⟩]
def F6.r17 : List Oper := [
  ⟨(some 74), (.move (.tmp 7)), 3, "", #[], none⟩,
  ⟨(some 75), (.move (.tmp 6)), 31, "", #[], none⟩,
  ⟨(some 76), (.call ⟨(.builtin .len), #[(.tmp 75)], #[31]⟩), 3, "", #[], none⟩,
  ⟨(some 77), (.binOp .geq 3 (.tmp 74) (.tmp 76) 3), 4, "", #[], none⟩,
  ⟨(some 78), (.move (.tmp 77)), 4, "", #[], none⟩,
  ⟨(some 79), (.move (.tmp 6)), 31, "", #[], (some (78, false))⟩,
  ⟨(some 80), (.move (.tmp 7)), 3, "", #[], (some (78, false))⟩,
  ⟨(some 81), (.indexAddr 31 (.tmp 79) (.tmp 80)), 0, "", #[], (some (78, false))⟩,
  ⟨(some 82), (.load 3 (.tmp 81)), 3, "", #[⟨0, .data⟩], (some (78, false))⟩,
  ⟨(some 83), (.move (.tmp 8)), 3, "", #[], (some (78, false))⟩,
  ⟨(some 84), (.binOp .add 3 (.tmp 83) (.const (.int .i64 1)) 3), 3, "", #[], (some (78, false))⟩,
  ⟨(some 85), (.binOp .neq 3 (.tmp 82) (.tmp 84) 3), 4, "", #[], (some (78, false))⟩,
  ⟨(some 86), (.pick (.tmp 78) (.const (.bool true)) (.tmp 85)), 4, "", #[], none⟩]
def F6.r18 : List Oper := [
  ⟨(some 2), (.assign (.const (.bool false))), 4, "", #[], none⟩]
def F6.r19 : List Oper := [
  ⟨(some 87), (.move (.tmp 7)), 3, "", #[], none⟩,
  ⟨(some 88), (.binOp .add 3 (.tmp 87) (.const (.int .i64 1)) 3), 3, "", #[], none⟩,
  ⟨(some 7), (.assign (.tmp 88)), 3, "", #[], none⟩]
def F6.r14 : List Oper := [
  ⟨(some 55), (.move (.tmp 8)), 3, "", #[], none⟩,
  ⟨(some 56), (.binOp .add 3 (.tmp 55) (.const (.int .i64 1)) 3), 3, "", #[], none⟩,
  ⟨(some 8), (.assign (.tmp 56)), 3, "", #[], none⟩]
def F6.r20 : List Oper := [
  ⟨(some 89), (.move (.tmp 3)), 22, "", #[], none⟩,
  ⟨(some 90), (.nilCheck (.tmp 89)), 0, "", #[], none⟩,
  ⟨(some 91), (.fieldAddr 33 (.tmp 90) 0), 0, "", #[], none⟩,
  ⟨(some 92), (.load 29 (.tmp 91)), 29, "", #[⟨0, .data⟩], none⟩,
  ⟨(some 93), (.call ⟨(.value (.func 12)), #[(.tmp 92)], #[29]⟩), 40, "", #[⟨0, .chain⟩], none⟩,
  ⟨(some 10), (.assign (.tmp 93)), 40, "", #[], none⟩]
def F6.r21 : List Oper := [
  ⟨(some 94), (.move (.tmp 3)), 22, "", #[], none⟩,
  ⟨(some 95), (.nilCheck (.tmp 94)), 0, "", #[], none⟩,
  ⟨(some 96), (.fieldAddr 33 (.tmp 95) 0), 0, "", #[], none⟩,
  ⟨(some 97), (.load 29 (.tmp 96)), 29, "", #[⟨0, .data⟩], none⟩,
  ⟨(some 98), (.call ⟨(.value (.func 13)), #[(.tmp 97)], #[29]⟩), 42, "", #[⟨0, .chain⟩], none⟩,
  ⟨(some 11), (.assign (.tmp 98)), 42, "", #[], none⟩]
def F6.r22 : List Oper := [
  ⟨(some 100), (.move (.tmp 3)), 22, "", #[], none⟩,
  ⟨(some 101), (.nilCheck (.tmp 100)), 0, "", #[], none⟩,
  ⟨(some 102), (.fieldAddr 33 (.tmp 101) 0), 0, "", #[], none⟩,
  ⟨(some 103), (.load 29 (.tmp 102)), 29, "", #[⟨0, .data⟩], none⟩,
  ⟨(some 104), (.call ⟨(.value (.func 22)), #[(.tmp 103)], #[29]⟩), 83, "", #[⟨0, .chain⟩], none⟩,
  ⟨(some 99), (.move (.tmp 104)), 83, "", #[], none⟩,
  ⟨(some 105), (.extract (.tmp 99) 0), 77, "", #[], none⟩,
  ⟨(some 106), (.extract (.tmp 99) 1), 3, "", #[], none⟩,
  ⟨(some 107), (.extract (.tmp 99) 2), 4, "", #[], none⟩,
  ⟨(some 12), (.alloc 77), 0, "", #[⟨0, .chain⟩], none⟩,
  ⟨none, (.store 77 (.tmp 12) (.tmp 105)), 0, "", #[⟨0, .chain⟩], none⟩,
  ⟨(some 13), (.assign (.tmp 106)), 3, "", #[], none⟩,
  ⟨(some 14), (.assign (.tmp 107)), 4, "", #[], none⟩]
def F6.r23 : List Oper := [
  ⟨(some 108), (.move (.tmp 7)), 3, "", #[], none⟩,
  ⟨(some 109), (.move (.tmp 6)), 31, "", #[], none⟩,
  ⟨(some 110), (.call ⟨(.builtin .len), #[(.tmp 109)], #[31]⟩), 3, "", #[], none⟩,
  ⟨(some 111), (.binOp .neq 3 (.tmp 108) (.tmp 110) 3), 4, "", #[], none⟩,
  ⟨(some 112), (.move (.tmp 111)), 4, "", #[], none⟩,
  ⟨(some 113), (.move (.tmp 10)), 40, "", #[], (some (112, false))⟩,
  ⟨(some 114), (.call ⟨(.builtin .len), #[(.tmp 113)], #[40]⟩), 3, "", #[], (some (112, false))⟩,
  ⟨(some 115), (.binOp .neq 3 (.tmp 114) (.const (.int .i64 0)) 3), 4, "", #[], (some (112, false))⟩,
  ⟨(some 116), (.pick (.tmp 112) (.const (.bool true)) (.tmp 115)), 4, "", #[], none⟩,
  ⟨(some 117), (.move (.tmp 116)), 4, "", #[], none⟩,
  ⟨(some 118), (.move (.tmp 11)), 42, "", #[], (some (117, false))⟩,
  ⟨(some 119), (.call ⟨(.builtin .len), #[(.tmp 118)], #[42]⟩), 3, "", #[], (some (117, false))⟩,
  ⟨(some 120), (.binOp .neq 3 (.tmp 119) (.const (.int .i64 0)) 3), 4, "", #[], (some (117, false))⟩,
  ⟨(some 121), (.pick (.tmp 117) (.const (.bool true)) (.tmp 120)), 4, "", #[], none⟩,
  ⟨(some 122), (.move (.tmp 121)), 4, "", #[], none⟩,
  ⟨(some 123), (.move (.tmp 14)), 4, "", #[], (some (122, false))⟩,
  ⟨(some 124), (.pick (.tmp 122) (.const (.bool true)) (.tmp 123)), 4, "", #[], none⟩]
def F6.r24 : List Oper := [
  ⟨(some 2), (.assign (.const (.bool false))), 4, "", #[], none⟩]
def F6.r25 : List Oper := [
  ⟨(some 15), (.assign (.const (.int .i64 0))), 3, "", #[], none⟩]
def F6.r26 : List Oper := [
  ⟨(some 125), (.move (.tmp 15)), 3, "", #[], none⟩,
  ⟨(some 126), (.move (.tmp 3)), 22, "", #[], none⟩,
  ⟨(some 127), (.nilCheck (.tmp 126)), 0, "", #[], none⟩,
  ⟨(some 128), (.fieldAddr 33 (.tmp 127) 1), 0, "", #[], none⟩,
  ⟨(some 129), (.load 30 (.tmp 128)), 30, "", #[⟨0, .data⟩], none⟩,
  ⟨(some 130), (.call ⟨(.builtin .len), #[(.tmp 129)], #[30]⟩), 3, "", #[], none⟩,
  ⟨(some 131), (.binOp .lss 3 (.tmp 125) (.tmp 130) 3), 4, "", #[], none⟩]
def F6.r28 : List Oper := [
  ⟨(some 134), (.move (.tmp 3)), 22, "", #[], none⟩,
  ⟨(some 135), (.nilCheck (.tmp 134)), 0, "", #[], none⟩,
  ⟨(some 136), (.fieldAddr 33 (.tmp 135) 0), 0, "", #[], none⟩,
  ⟨(some 137), (.load 29 (.tmp 136)), 29, "", #[⟨0, .data⟩], none⟩,
  ⟨(some 138), (.move (.tmp 15)), 3, "", #[], none⟩,
  ⟨(some 139), (.binOp .add 3 (.tmp 138) (.const (.int .i64 1)) 3), 3, "", #[], none⟩,
  ⟨(some 140), (.call ⟨(.value (.func 23)), #[(.tmp 137), (.tmp 139)], #[29, 3]⟩), 4, "", #[⟨0, .chain⟩], none⟩,
  ⟨(some 16), (.assign (.tmp 140)), 4, "", #[], none⟩]
def F6.r29 : List Oper := [
  ⟨(some 141), (.move (.tmp 3)), 22, "", #[], none⟩,
  ⟨(some 142), (.nilCheck (.tmp 141)), 0, "", #[], none⟩,
  ⟨(some 143), (.fieldAddr 33 (.tmp 142) 0), 0, "", #[], none⟩,
  ⟨(some 144), (.load 29 (.tmp 143)), 29, "", #[⟨0, .data⟩], none⟩,
  ⟨(some 145), (.move (.tmp 15)), 3, "", #[], none⟩,
  ⟨(some 146), (.binOp .add 3 (.tmp 145) (.const (.int .i64 1)) 3), 3, "", #[], none⟩,
  ⟨(some 147), (.build 77 #[(0, (.const (.int .u8 121)))]), 77, "", #[], none⟩,
  ⟨(some 148), (.call ⟨(.value (.func 24)), #[(.tmp 144), (.tmp 146), (.tmp 147)], #[29, 3, 77]⟩), 47, "", #[⟨0, .chain⟩], none⟩,
  ⟨(some 17), (.assign (.tmp 148)), 47, "", #[], none⟩]
def F6.r30 : List Oper := [
  ⟨(some 149), (.move (.tmp 16)), 4, "", #[], none⟩,
  ⟨(some 150), (.move (.tmp 149)), 4, "", #[], none⟩,
  ⟨(some 151), (.move (.tmp 17)), 47, "", #[], (some (150, false))⟩,
  ⟨(some 152), (.binOp .neq 47 (.tmp 151) (.const (.int .i64 142)) 47), 4, "", #[], (some (150, false))⟩,
  ⟨(some 153), (.pick (.tmp 150) (.const (.bool true)) (.tmp 152)), 4, "", #[], none⟩]
def F6.r31 : List Oper := [
  ⟨(some 2), (.assign (.const (.bool false))), 4, "", #[], none⟩]
def F6.r27 : List Oper := [
  ⟨(some 132), (.move (.tmp 15)), 3, "", #[], none⟩,
  ⟨(some 133), (.binOp .add 3 (.tmp 132) (.const (.int .i64 1)) 3), 3, "", #[], none⟩,
  ⟨(some 15), (.assign (.tmp 133)), 3, "", #[], none⟩]
def F6.r32 : List Oper := [
  ⟨(some 154), (.move (.tmp 3)), 22, "", #[], none⟩,
  ⟨(some 155), (.nilCheck (.tmp 154)), 0, "", #[], none⟩,
  ⟨(some 156), (.fieldAddr 33 (.tmp 155) 1), 0, "", #[], none⟩,
  ⟨(some 157), (.load 30 (.tmp 156)), 30, "", #[⟨0, .data⟩], none⟩,
  ⟨(some 158), (.call ⟨(.builtin .len), #[(.tmp 157)], #[30]⟩), 3, "", #[], none⟩,
  ⟨(some 18), (.assign (.tmp 158)), 3, "", #[], none⟩]
def F6.r33 : List Oper := [
  ⟨(some 159), (.move (.tmp 3)), 22, "", #[], none⟩,
  ⟨(some 160), (.nilCheck (.tmp 159)), 0, "", #[], none⟩,
  ⟨(some 161), (.fieldAddr 33 (.tmp 160) 0), 0, "", #[], none⟩,
  ⟨(some 162), (.load 29 (.tmp 161)), 29, "", #[⟨0, .data⟩], none⟩,
  ⟨(some 163), (.move (.tmp 18)), 3, "", #[], none⟩,
  ⟨(some 164), (.call ⟨(.value (.func 25)), #[(.tmp 162), (.const (.int .u16 3)), (.tmp 163)], #[29, 37, 3]⟩), 47, "", #[⟨0, .chain⟩], none⟩,
  ⟨(some 19), (.assign (.tmp 164)), 47, "", #[], none⟩]
def F6.r34 : List Oper := [
  ⟨(some 165), (.move (.tmp 3)), 22, "", #[], none⟩,
  ⟨(some 166), (.nilCheck (.tmp 165)), 0, "", #[], none⟩,
  ⟨(some 167), (.fieldAddr 33 (.tmp 166) 0), 0, "", #[], none⟩,
  ⟨(some 168), (.load 29 (.tmp 167)), 29, "", #[⟨0, .data⟩], none⟩,
  ⟨(some 169), (.move (.tmp 18)), 3, "", #[], none⟩,
  ⟨(some 170), (.binOp .add 3 (.tmp 169) (.const (.int .i64 1)) 3), 3, "", #[], none⟩,
  ⟨(some 171), (.call ⟨(.value (.func 25)), #[(.tmp 168), (.const (.int .u16 3)), (.tmp 170)], #[29, 37, 3]⟩), 47, "", #[⟨0, .chain⟩], none⟩,
  ⟨(some 20), (.assign (.tmp 171)), 47, "", #[], none⟩]
def F6.r35 : List Oper := [
  ⟨(some 172), (.move (.tmp 3)), 22, "", #[], none⟩,
  ⟨(some 173), (.nilCheck (.tmp 172)), 0, "", #[], none⟩,
  ⟨(some 174), (.fieldAddr 33 (.tmp 173) 0), 0, "", #[], none⟩,
  ⟨(some 175), (.load 29 (.tmp 174)), 29, "", #[⟨0, .data⟩], none⟩,
  ⟨(some 176), (.move (.tmp 18)), 3, "", #[], none⟩,
  ⟨(some 177), (.binOp .add 3 (.tmp 176) (.const (.int .i64 1)) 3), 3, "", #[], none⟩,
  ⟨(some 178), (.call ⟨(.value (.func 25)), #[(.tmp 175), (.const (.int .u16 4)), (.tmp 177)], #[29, 37, 3]⟩), 47, "", #[⟨0, .chain⟩], none⟩,
  ⟨(some 21), (.assign (.tmp 178)), 47, "", #[], none⟩]
def F6.r36 : List Oper := [
  ⟨(some 179), (.move (.tmp 19)), 47, "", #[], none⟩,
  ⟨(some 180), (.binOp .eql 47 (.tmp 179) (.const (.int .i64 1)) 47), 4, "", #[], none⟩,
  ⟨(some 181), (.move (.tmp 180)), 4, "", #[], none⟩,
  ⟨(some 182), (.move (.tmp 20)), 47, "", #[], (some (181, true))⟩,
  ⟨(some 183), (.binOp .eql 47 (.tmp 182) (.const (.int .i64 0)) 47), 4, "", #[], (some (181, true))⟩,
  ⟨(some 184), (.pick (.tmp 181) (.tmp 183) (.const (.bool false))), 4, "", #[], none⟩,
  ⟨(some 185), (.move (.tmp 184)), 4, "", #[], none⟩,
  ⟨(some 186), (.move (.tmp 21)), 47, "", #[], (some (185, true))⟩,
  ⟨(some 187), (.binOp .eql 47 (.tmp 186) (.const (.int .i64 1)) 47), 4, "", #[], (some (185, true))⟩,
  ⟨(some 188), (.pick (.tmp 185) (.tmp 187) (.const (.bool false))), 4, "", #[], none⟩,
  ⟨(some 2), (.assign (.tmp 188)), 4, "", #[], none⟩]
def F6.t6 : Cd := (.region 6 F6.r6.toArray false)
theorem F6.t6_eq {P : Program} {Q : Post} {e : FA} {w : World} {θ : Tag (F6.t6, Q, e, w)} : cwE P F6.t6 Q e w θ = cwE P (.region 6 F6.r6.toArray false) Q e w := rfl
def F6.t7 : Cd := (.seq (.block 1 (.seq (.region 7 F6.r7.toArray false) (.seq (.region 8 F6.r8.toArray false) (.cond (.tmp 42) (.seq (.region 9 F6.r9.toArray false) .ret) .skip)))) F6.t6)
theorem F6.t7_eq {P : Program} {Q : Post} {e : FA} {w : World} {θ : Tag (F6.t7, Q, e, w)} : cwE P F6.t7 Q e w θ = cwE P (.seq (.block 1 (.seq (.region 7 F6.r7.toArray false) (.seq (.region 8 F6.r8.toArray false) (.cond (.tmp 42) (.seq (.region 9 F6.r9.toArray false) .ret) .skip)))) F6.t6) Q e w := rfl
def F6.t19 : Cd := (.region 19 F6.r19.toArray false)
theorem F6.t19_eq {P : Program} {Q : Post} {e : FA} {w : World} {θ : Tag (F6.t19, Q, e, w)} : cwE P F6.t19 Q e w θ = cwE P (.region 19 F6.r19.toArray false) Q e w := rfl
def F6.t17 : Cd := (.seq (.seq (.region 17 F6.r17.toArray false) (.cond (.tmp 86) (.seq (.region 18 F6.r18.toArray false) .ret) .skip)) F6.t19)
theorem F6.t17_eq {P : Program} {Q : Post} {e : FA} {w : World} {θ : Tag (F6.t17, Q, e, w)} : cwE P F6.t17 Q e w θ = cwE P (.seq (.seq (.region 17 F6.r17.toArray false) (.cond (.tmp 86) (.seq (.region 18 F6.r18.toArray false) .ret) .skip)) F6.t19) Q e w := rfl
def F6.t14 : Cd := (.region 14 F6.r14.toArray false)
theorem F6.t14_eq {P : Program} {Q : Post} {e : FA} {w : World} {θ : Tag (F6.t14, Q, e, w)} : cwE P F6.t14 Q e w θ = cwE P (.region 14 F6.r14.toArray false) Q e w := rfl
def F6.t15 : Cd := (.seq (.block 3 (.seq (.region 15 F6.r15.toArray false) (.seq (.seq (.region 16 F6.r16.toArray false) (.cond (.tmp 73) (.exit 3) .skip)) F6.t17))) F6.t14)
theorem F6.t15_eq {P : Program} {Q : Post} {e : FA} {w : World} {θ : Tag (F6.t15, Q, e, w)} : cwE P F6.t15 Q e w θ = cwE P (.seq (.block 3 (.seq (.region 15 F6.r15.toArray false) (.seq (.seq (.region 16 F6.r16.toArray false) (.cond (.tmp 73) (.exit 3) .skip)) F6.t17))) F6.t14) Q e w := rfl
def F6.t27 : Cd := (.region 27 F6.r27.toArray false)
theorem F6.t27_eq {P : Program} {Q : Post} {e : FA} {w : World} {θ : Tag (F6.t27, Q, e, w)} : cwE P F6.t27 Q e w θ = cwE P (.region 27 F6.r27.toArray false) Q e w := rfl
def F6.t28 : Cd := (.seq (.block 5 (.seq (.region 28 F6.r28.toArray false) (.seq (.region 29 F6.r29.toArray false) (.seq (.region 30 F6.r30.toArray false) (.cond (.tmp 153) (.seq (.region 31 F6.r31.toArray false) .ret) .skip))))) F6.t27)
theorem F6.t28_eq {P : Program} {Q : Post} {e : FA} {w : World} {θ : Tag (F6.t28, Q, e, w)} : cwE P F6.t28 Q e w θ = cwE P (.seq (.block 5 (.seq (.region 28 F6.r28.toArray false) (.seq (.region 29 F6.r29.toArray false) (.seq (.region 30 F6.r30.toArray false) (.cond (.tmp 153) (.seq (.region 31 F6.r31.toArray false) .ret) .skip))))) F6.t27) Q e w := rfl
def F6.t32 : Cd := (.seq (.region 32 F6.r32.toArray false) (.seq (.region 33 F6.r33.toArray false) (.seq (.region 34 F6.r34.toArray false) (.seq (.region 35 F6.r35.toArray false) (.seq (.region 36 F6.r36.toArray false) .ret)))))
theorem F6.t32_eq {P : Program} {Q : Post} {e : FA} {w : World} {θ : Tag (F6.t32, Q, e, w)} : cwE P F6.t32 Q e w θ = cwE P (.seq (.region 32 F6.r32.toArray false) (.seq (.region 33 F6.r33.toArray false) (.seq (.region 34 F6.r34.toArray false) (.seq (.region 35 F6.r35.toArray false) (.seq (.region 36 F6.r36.toArray false) .ret))))) Q e w := rfl
def F6.t25 : Cd := (.seq (.seq (.region 25 F6.r25.toArray false) (.block 4 (.loop (.seq (.seq (.region 26 F6.r26.toArray false) (.cond (.tmp 131) .skip (.exit 4))) F6.t28)))) F6.t32)
theorem F6.t25_eq {P : Program} {Q : Post} {e : FA} {w : World} {θ : Tag (F6.t25, Q, e, w)} : cwE P F6.t25 Q e w θ = cwE P (.seq (.seq (.region 25 F6.r25.toArray false) (.block 4 (.loop (.seq (.seq (.region 26 F6.r26.toArray false) (.cond (.tmp 131) .skip (.exit 4))) F6.t28)))) F6.t32) Q e w := rfl
def F6.t20 : Cd := (.seq (.region 20 F6.r20.toArray false) (.seq (.region 21 F6.r21.toArray false) (.seq (.region 22 F6.r22.toArray false) (.seq (.seq (.region 23 F6.r23.toArray false) (.cond (.tmp 124) (.seq (.region 24 F6.r24.toArray false) .ret) .skip)) F6.t25))))
theorem F6.t20_eq {P : Program} {Q : Post} {e : FA} {w : World} {θ : Tag (F6.t20, Q, e, w)} : cwE P F6.t20 Q e w θ = cwE P (.seq (.region 20 F6.r20.toArray false) (.seq (.region 21 F6.r21.toArray false) (.seq (.region 22 F6.r22.toArray false) (.seq (.seq (.region 23 F6.r23.toArray false) (.cond (.tmp 124) (.seq (.region 24 F6.r24.toArray false) .ret) .skip)) F6.t25)))) Q e w := rfl
def F6.t10 : Cd := (.seq (.region 10 F6.r10.toArray false) (.seq (.region 11 F6.r11.toArray false) (.seq (.seq (.region 12 F6.r12.toArray false) (.block 2 (.loop (.seq (.seq (.region 13 F6.r13.toArray false) (.cond (.tmp 54) .skip (.exit 2))) F6.t15)))) F6.t20)))
theorem F6.t10_eq {P : Program} {Q : Post} {e : FA} {w : World} {θ : Tag (F6.t10, Q, e, w)} : cwE P F6.t10 Q e w θ = cwE P (.seq (.region 10 F6.r10.toArray false) (.seq (.region 11 F6.r11.toArray false) (.seq (.seq (.region 12 F6.r12.toArray false) (.block 2 (.loop (.seq (.seq (.region 13 F6.r13.toArray false) (.cond (.tmp 54) .skip (.exit 2))) F6.t15)))) F6.t20))) Q e w := rfl
def F6.t4 : Cd := (.seq (.seq (.region 4 F6.r4.toArray false) (.block 0 (.loop (.seq (.seq (.region 5 F6.r5.toArray false) (.cond (.tmp 32) .skip (.exit 0))) F6.t7)))) F6.t10)
theorem F6.t4_eq {P : Program} {Q : Post} {e : FA} {w : World} {θ : Tag (F6.t4, Q, e, w)} : cwE P F6.t4 Q e w θ = cwE P (.seq (.seq (.region 4 F6.r4.toArray false) (.block 0 (.loop (.seq (.seq (.region 5 F6.r5.toArray false) (.cond (.tmp 32) .skip (.exit 0))) F6.t7)))) F6.t10) Q e w := rfl
def F6.code : Cd := (.seq (.region 0 F6.r0.toArray false) (.seq (.region 1 F6.r1.toArray false) (.seq (.seq (.region 2 F6.r2.toArray false) (.cond (.tmp 24) (.seq (.region 3 F6.r3.toArray false) .ret) .skip)) F6.t4)))
theorem F6.calls {args : Array Value} {w : World} {R : Ending → World → Prop} (hn : args.size ≤ 189) (h : cwE Try.prog F6.code (fnP Try.prog #[(.tmp 2)] R) (entry args) w) : Calls Try.prog 6 args w R :=
  calls_of_cwE (types := Try.prog.types) follows Try.func6 F6.code rfl (by kernel_rfl) hn h

def F7.r0 : List Oper := [
  ⟨(some 0), (.assign (.const (.pointer none))), 22, "", #[], none⟩]
def F7.r1 : List Oper := [
  ⟨(some 10), (.call ⟨(.value (.func 15)), #[(.const (.int .i64 8))], #[3]⟩), 48, "", #[⟨0, .chain⟩], none⟩,
  ⟨(some 9), (.move (.tmp 10)), 48, "", #[], none⟩,
  ⟨(some 11), (.extract (.tmp 9) 0), 29, "", #[], none⟩,
  ⟨(some 12), (.extract (.tmp 9) 1), 47, "", #[], none⟩,
  ⟨(some 1), (.assign (.tmp 11)), 29, "", #[], none⟩,
  ⟨(some 2), (.assign (.tmp 12)), 47, "", #[], none⟩]
def F7.r2 : List Oper := [
  ⟨(some 13), (.move (.tmp 1)), 29, "", #[], none⟩,
  ⟨(some 14), (.binOp .eql 29 (.tmp 13) (.const (.pointer none)) 29), 4, "", #[], none⟩,
  ⟨(some 15), (.move (.tmp 14)), 4, "", #[], none⟩,
  ⟨(some 16), (.move (.tmp 2)), 47, "", #[], (some (15, false))⟩,
  ⟨(some 17), (.binOp .neq 47 (.tmp 16) (.const (.int .i64 0)) 47), 4, "", #[], (some (15, false))⟩,
  ⟨(some 18), (.pick (.tmp 15) (.const (.bool true)) (.tmp 17)), 4, "", #[], none⟩]
def F7.r3 : List Oper := [
  ⟨(some 0), (.assign (.const (.pointer none))), 22, "", #[], none⟩]
def F7.r4 : List Oper := [
  ⟨(some 19), (.move (.tmp 1)), 29, "", #[], none⟩,
  ⟨(some 20), (.build 33 #[(0, (.tmp 19))]), 33, "", #[], none⟩,
  ⟨(some 21), (.box 33 (.tmp 20)), 22, "", #[⟨0, .chain⟩], none⟩,
  ⟨(some 3), (.assign (.tmp 21)), 22, "", #[], none⟩]
def F7.r5 : List Oper := [
  ⟨(some 4), (.assign (.const (.int .i64 0))), 3, "", #[], none⟩]
def F7.r6 : List Oper := [
  ⟨(some 22), (.move (.tmp 4)), 3, "", #[], none⟩,
  ⟨(some 23), (.binOp .lss 3 (.tmp 22) (.const (.int .i64 16)) 3), 4, "", #[], none⟩]
def F7.r8 : List Oper := [
  ⟨(some 26), (.move (.tmp 3)), 22, "", #[], none⟩,
  ⟨(some 27), (.move (.tmp 3)), 22, "", #[], none⟩,
  ⟨(some 28), (.nilCheck (.tmp 27)), 0, "", #[], none⟩,
  ⟨(some 29), (.fieldAddr 33 (.tmp 28) 2), 0, "", #[], none⟩,
  ⟨(some 30), (.load 31 (.tmp 29)), 31, "", #[⟨0, .data⟩], none⟩,
  ⟨(some 31), (.buildSlice 31 1 #[(0, (.const (.int .i64 (-1))))]), 31, "", #[⟨0, .chain⟩], none⟩,
  ⟨(some 32), (.call ⟨(.builtin .append), #[(.tmp 30), (.tmp 31)], #[31, 31]⟩), 31, "", #[⟨0, .chain⟩], none⟩,
  ⟨(some 33), (.nilCheck (.tmp 26)), 0, "", #[], none⟩,
  ⟨(some 34), (.fieldAddr 33 (.tmp 33) 2), 0, "", #[], none⟩,
  ⟨none, (.store 31 (.tmp 34) (.tmp 32)), 0, "", #[⟨0, .chain⟩], none⟩]
def F7.r7 : List Oper := [
  ⟨(some 24), (.move (.tmp 4)), 3, "", #[], none⟩,
  ⟨(some 25), (.binOp .add 3 (.tmp 24) (.const (.int .i64 1)) 3), 3, "", #[], none⟩,
  ⟨(some 4), (.assign (.tmp 25)), 3, "", #[], none⟩]
def F7.r9 : List Oper := [
  ⟨(some 35), (.move (.tmp 1)), 29, "", #[], none⟩,
  ⟨(some 36), (.call ⟨(.value (.func 25)), #[(.tmp 35), (.const (.int .u16 15)), (.const (.int .i64 1))], #[29, 37, 3]⟩), 47, "", #[⟨0, .chain⟩], none⟩,
  ⟨(some 5), (.assign (.tmp 36)), 47, "", #[], none⟩]
def F7.r10 : List Oper := [
  ⟨(some 37), (.move (.tmp 3)), 22, "", #[], none⟩,
  ⟨(some 38), (.move (.tmp 3)), 22, "", #[], none⟩,
  ⟨(some 39), (.nilCheck (.tmp 38)), 0, "", #[], none⟩,
  ⟨(some 40), (.fieldAddr 33 (.tmp 39) 1), 0, "", #[], none⟩,
  ⟨(some 41), (.load 30 (.tmp 40)), 30, "", #[⟨0, .data⟩], none⟩,
  ⟨(some 42), (.build 39 #[(0, (.const (.int .u16 15))), (2, (.const (.int .i64 (-1)))), (4, (.const (.bool true))), (5, (.const (.bool true)))]), 39, "", #[], none⟩,
  ⟨(some 43), (.buildSlice 30 1 #[(0, (.tmp 42))]), 30, "", #[⟨0, .chain⟩], none⟩,
  ⟨(some 44), (.call ⟨(.builtin .append), #[(.tmp 41), (.tmp 43)], #[30, 30]⟩), 30, "", #[⟨0, .chain⟩], none⟩,
  ⟨(some 45), (.nilCheck (.tmp 37)), 0, "", #[], none⟩,
  ⟨(some 46), (.fieldAddr 33 (.tmp 45) 1), 0, "", #[], none⟩,
  ⟨none, (.store 30 (.tmp 46) (.tmp 44)), 0, "", #[⟨0, .chain⟩], none⟩]
def F7.r11 : List Oper := [
  ⟨(some 47), (.move (.tmp 3)), 22, "", #[], none⟩,
  ⟨(some 48), (.nilCheck (.tmp 47)), 0, "", #[], none⟩,
  ⟨(some 49), (.fieldAddr 33 (.tmp 48) 2), 0, "", #[], none⟩,
  ⟨(some 50), (.load 31 (.tmp 49)), 31, "", #[⟨0, .data⟩], none⟩,
  ⟨(some 51), (.indexAddr 31 (.tmp 50) (.const (.int .i64 15))), 0, "", #[], none⟩,
  ⟨none, (.store 3 (.tmp 51) (.const (.int .i64 0))), 0, "", #[⟨0, .chain⟩], none⟩]
def F7.r12 : List Oper := [
  ⟨(some 52), (.move (.tmp 1)), 29, "", #[], none⟩,
  ⟨(some 53), (.call ⟨(.value (.func 23)), #[(.tmp 52), (.const (.int .i64 1))], #[29, 3]⟩), 4, "", #[⟨0, .chain⟩], none⟩,
  ⟨(some 6), (.assign (.tmp 53)), 4, "", #[], none⟩]
def F7.r13 : List Oper := [
  ⟨(some 54), (.move (.tmp 1)), 29, "", #[], none⟩,
  ⟨(some 55), (.build 77 #[(0, (.const (.int .u8 121)))]), 77, "", #[], none⟩,
  ⟨(some 56), (.call ⟨(.value (.func 24)), #[(.tmp 54), (.const (.int .i64 1)), (.tmp 55)], #[29, 3, 77]⟩), 47, "", #[⟨0, .chain⟩], none⟩,
  ⟨(some 7), (.assign (.tmp 56)), 47, "", #[], none⟩]
def F7.r14 : List Oper := [
  ⟨(some 57), (.move (.tmp 1)), 29, "", #[], none⟩,
  ⟨(some 58), (.call ⟨(.value (.func 25)), #[(.tmp 57), (.const (.int .u16 15)), (.const (.int .i64 2))], #[29, 37, 3]⟩), 47, "", #[⟨0, .chain⟩], none⟩,
  ⟨(some 8), (.assign (.tmp 58)), 47, "", #[], none⟩]
def F7.r15 : List Oper := [
  ⟨(some 59), (.move (.tmp 5)), 47, "", #[], none⟩,
  ⟨(some 60), (.binOp .neq 47 (.tmp 59) (.const (.int .i64 0)) 47), 4, "", #[], none⟩,
  ⟨(some 61), (.move (.tmp 60)), 4, "", #[], none⟩,
  ⟨(some 62), (.move (.tmp 6)), 4, "", #[], (some (61, false))⟩,
  ⟨(some 63), (.unOp .not 4 (.tmp 62)), 4, "", #[], (some (61, false))⟩,
  ⟨(some 64), (.pick (.tmp 61) (.const (.bool true)) (.tmp 63)), 4, "", #[], none⟩,
  ⟨(some 65), (.move (.tmp 64)), 4, "", #[], none⟩,
  ⟨(some 66), (.move (.tmp 7)), 47, "", #[], (some (65, false))⟩,
  ⟨(some 67), (.binOp .neq 47 (.tmp 66) (.const (.int .i64 0)) 47), 4, "", #[], (some (65, false))⟩,
  ⟨(some 68), (.pick (.tmp 65) (.const (.bool true)) (.tmp 67)), 4, "", #[], none⟩,
  ⟨(some 69), (.move (.tmp 68)), 4, "", #[], none⟩,
  ⟨(some 70), (.move (.tmp 8)), 47, "", #[], (some (69, false))⟩,
  ⟨(some 71), (.binOp .neq 47 (.tmp 70) (.const (.int .i64 140)) 47), 4, "", #[], (some (69, false))⟩,
  ⟨(some 72), (.pick (.tmp 69) (.const (.bool true)) (.tmp 71)), 4, "", #[], none⟩]
def F7.r16 : List Oper := [
  ⟨(some 0), (.assign (.const (.pointer none))), 22, "", #[], none⟩]
def F7.r17 : List Oper := [
  ⟨(some 73), (.move (.tmp 3)), 22, "", #[], none⟩,
  ⟨(some 0), (.assign (.tmp 73)), 22, "", #[], none⟩]
def F7.t7 : Cd := (.region 7 F7.r7.toArray false)
theorem F7.t7_eq {P : Program} {Q : Post} {e : FA} {w : World} {θ : Tag (F7.t7, Q, e, w)} : cwE P F7.t7 Q e w θ = cwE P (.region 7 F7.r7.toArray false) Q e w := rfl
def F7.t8 : Cd := (.seq (.block 1 (.region 8 F7.r8.toArray false)) F7.t7)
theorem F7.t8_eq {P : Program} {Q : Post} {e : FA} {w : World} {θ : Tag (F7.t8, Q, e, w)} : cwE P F7.t8 Q e w θ = cwE P (.seq (.block 1 (.region 8 F7.r8.toArray false)) F7.t7) Q e w := rfl
def F7.t17 : Cd := (.seq (.region 17 F7.r17.toArray false) .ret)
theorem F7.t17_eq {P : Program} {Q : Post} {e : FA} {w : World} {θ : Tag (F7.t17, Q, e, w)} : cwE P F7.t17 Q e w θ = cwE P (.seq (.region 17 F7.r17.toArray false) .ret) Q e w := rfl
def F7.t9 : Cd := (.seq (.region 9 F7.r9.toArray false) (.seq (.region 10 F7.r10.toArray false) (.seq (.region 11 F7.r11.toArray false) (.seq (.region 12 F7.r12.toArray false) (.seq (.region 13 F7.r13.toArray false) (.seq (.region 14 F7.r14.toArray false) (.seq (.seq (.region 15 F7.r15.toArray false) (.cond (.tmp 72) (.seq (.region 16 F7.r16.toArray false) .ret) .skip)) F7.t17)))))))
theorem F7.t9_eq {P : Program} {Q : Post} {e : FA} {w : World} {θ : Tag (F7.t9, Q, e, w)} : cwE P F7.t9 Q e w θ = cwE P (.seq (.region 9 F7.r9.toArray false) (.seq (.region 10 F7.r10.toArray false) (.seq (.region 11 F7.r11.toArray false) (.seq (.region 12 F7.r12.toArray false) (.seq (.region 13 F7.r13.toArray false) (.seq (.region 14 F7.r14.toArray false) (.seq (.seq (.region 15 F7.r15.toArray false) (.cond (.tmp 72) (.seq (.region 16 F7.r16.toArray false) .ret) .skip)) F7.t17))))))) Q e w := rfl
def F7.t4 : Cd := (.seq (.region 4 F7.r4.toArray false) (.seq (.seq (.region 5 F7.r5.toArray false) (.block 0 (.loop (.seq (.seq (.region 6 F7.r6.toArray false) (.cond (.tmp 23) .skip (.exit 0))) F7.t8)))) F7.t9))
theorem F7.t4_eq {P : Program} {Q : Post} {e : FA} {w : World} {θ : Tag (F7.t4, Q, e, w)} : cwE P F7.t4 Q e w θ = cwE P (.seq (.region 4 F7.r4.toArray false) (.seq (.seq (.region 5 F7.r5.toArray false) (.block 0 (.loop (.seq (.seq (.region 6 F7.r6.toArray false) (.cond (.tmp 23) .skip (.exit 0))) F7.t8)))) F7.t9)) Q e w := rfl
def F7.code : Cd := (.seq (.region 0 F7.r0.toArray false) (.seq (.region 1 F7.r1.toArray false) (.seq (.seq (.region 2 F7.r2.toArray false) (.cond (.tmp 18) (.seq (.region 3 F7.r3.toArray false) .ret) .skip)) F7.t4)))
theorem F7.calls {args : Array Value} {w : World} {R : Ending → World → Prop} (hn : args.size ≤ 74) (h : cwE Try.prog F7.code (fnP Try.prog #[(.tmp 0)] R) (entry args) w) : Calls Try.prog 7 args w R :=
  calls_of_cwE (types := Try.prog.types) follows Try.func7 F7.code rfl (by kernel_rfl) hn h

def F8.r0 : List Oper := [
  ⟨(some 3), (.box 28 (.tmp 1)), 0, "", #[⟨0, .chain⟩], none⟩,
  ⟨(some 4), (.assign (.const (.bool false))), 4, "", #[], none⟩]
def F8.r1 : List Oper := [
  ⟨(some 9), (.fieldAddr 28 (.tmp 3) 1), 0, "", #[], none⟩,
  ⟨(some 10), (.load 3 (.tmp 9)), 3, "", #[⟨0, .data⟩], none⟩,
  ⟨(some 11), (.call ⟨(.value (.func 26)), #[(.tmp 10), (.const (.int .i64 12))], #[3, 3]⟩), 3, "", #[⟨0, .chain⟩], none⟩,
  ⟨(some 5), (.assign (.tmp 11)), 3, "", #[], none⟩]
def F8.r2 : List Oper := [
  ⟨(some 12), (.fieldAddr 28 (.tmp 3) 2), 0, "", #[], none⟩,
  ⟨(some 14), (.move (.tmp 0)), 22, "", #[], none⟩,
  ⟨(some 15), (.nilCheck (.tmp 14)), 0, "", #[], none⟩,
  ⟨(some 16), (.fieldAddr 33 (.tmp 15) 1), 0, "", #[], none⟩,
  ⟨(some 13), (.load 3 (.tmp 12)), 3, "", #[⟨128, .data⟩], none⟩,
  ⟨(some 17), (.load 30 (.tmp 16)), 30, "", #[⟨128, .data⟩], none⟩,
  ⟨(some 18), (.call ⟨(.builtin .len), #[(.tmp 17)], #[30]⟩), 3, "", #[], none⟩,
  ⟨(some 19), (.call ⟨(.value (.func 26)), #[(.tmp 13), (.tmp 18)], #[3, 3]⟩), 3, "", #[⟨7, .chain⟩], none⟩,
  ⟨(some 6), (.assign (.tmp 19)), 3, "", #[], none⟩]
def F8.r3 : List Oper := [
  ⟨(some 20), (.fieldAddr 28 (.tmp 3) 0), 0, "", #[], none⟩,
  ⟨(some 21), (.load 3 (.tmp 20)), 3, "", #[⟨0, .data⟩], none⟩,
  ⟨(some 22), (.call ⟨(.value (.func 26)), #[(.tmp 21), (.const (.int .i64 12))], #[3, 3]⟩), 3, "", #[⟨0, .chain⟩], none⟩]
def F8.r4 : List Oper := [
  ⟨(some 24), (.binOp .eql 3 (.tmp 22) (.const (.int .i64 0)) 3), 4, "", #[], none⟩,
  ⟨(some 23), (.assign (.tmp 24)), 4, "", #[], none⟩]
def F8.r5 : List Oper := [
  ⟨(some 25), (.binOp .eql 3 (.tmp 22) (.const (.int .i64 1)) 3), 4, "", #[], none⟩,
  ⟨(some 23), (.assign (.tmp 25)), 4, "", #[], none⟩]
def F8.r6 : List Oper := [
  ⟨(some 26), (.binOp .eql 3 (.tmp 22) (.const (.int .i64 2)) 3), 4, "", #[], none⟩,
  ⟨(some 23), (.assign (.tmp 26)), 4, "", #[], none⟩]
def F8.r7 : List Oper := [
  ⟨(some 27), (.move (.tmp 0)), 22, "", #[], none⟩,
  ⟨(some 28), (.move (.tmp 5)), 3, "", #[], none⟩,
  ⟨(some 29), (.call ⟨(.value (.func 27)), #[(.tmp 27), (.tmp 28), (.const (.bool false)), (.const (.int .i64 0))], #[22, 3, 4, 3]⟩), 4, "", #[⟨0, .chain⟩], none⟩,
  ⟨(some 4), (.assign (.tmp 29)), 4, "", #[], none⟩]
def F8.r8 : List Oper := [
  ⟨(some 31), (.binOp .eql 3 (.tmp 22) (.const (.int .i64 3)) 3), 4, "", #[], none⟩,
  ⟨(some 30), (.assign (.tmp 31)), 4, "", #[], none⟩]
def F8.r9 : List Oper := [
  ⟨(some 32), (.binOp .eql 3 (.tmp 22) (.const (.int .i64 4)) 3), 4, "", #[], none⟩,
  ⟨(some 30), (.assign (.tmp 32)), 4, "", #[], none⟩]
def F8.r10 : List Oper := [
  ⟨(some 33), (.move (.tmp 0)), 22, "", #[], none⟩,
  ⟨(some 34), (.move (.tmp 5)), 3, "", #[], none⟩,
  ⟨(some 35), (.fieldAddr 28 (.tmp 3) 2), 0, "", #[], none⟩,
  ⟨(some 36), (.load 3 (.tmp 35)), 3, "", #[⟨0, .data⟩], none⟩,
  ⟨(some 37), (.call ⟨(.value (.func 26)), #[(.tmp 36), (.const (.int .i64 16))], #[3, 3]⟩), 3, "", #[⟨0, .chain⟩], none⟩,
  ⟨(some 38), (.call ⟨(.value (.func 27)), #[(.tmp 33), (.tmp 34), (.const (.bool true)), (.tmp 37)], #[22, 3, 4, 3]⟩), 4, "", #[⟨0, .chain⟩], none⟩,
  ⟨(some 4), (.assign (.tmp 38)), 4, "", #[], none⟩]
def F8.r11 : List Oper := [
  ⟨(some 40), (.binOp .eql 3 (.tmp 22) (.const (.int .i64 5)) 3), 4, "", #[], none⟩,
  ⟨(some 39), (.assign (.tmp 40)), 4, "", #[], none⟩]
def F8.r12 : List Oper := [
  ⟨(some 41), (.binOp .eql 3 (.tmp 22) (.const (.int .i64 6)) 3), 4, "", #[], none⟩,
  ⟨(some 39), (.assign (.tmp 41)), 4, "", #[], none⟩]
def F8.r13 : List Oper := [
  ⟨(some 42), (.move (.tmp 0)), 22, "", #[], none⟩,
  ⟨(some 43), (.move (.tmp 6)), 3, "", #[], none⟩,
  ⟨(some 44), (.call ⟨(.value (.func 9)), #[(.tmp 42), (.tmp 43)], #[22, 3]⟩), 4, "", #[⟨0, .chain⟩], none⟩,
  ⟨(some 4), (.assign (.tmp 44)), 4, "", #[], none⟩]
def F8.r14 : List Oper := [
  ⟨(some 46), (.binOp .eql 3 (.tmp 22) (.const (.int .i64 7)) 3), 4, "", #[], none⟩,
  ⟨(some 45), (.assign (.tmp 46)), 4, "", #[], none⟩]
def F8.r15 : List Oper := [
  ⟨(some 47), (.binOp .eql 3 (.tmp 22) (.const (.int .i64 8)) 3), 4, "", #[], none⟩,
  ⟨(some 45), (.assign (.tmp 47)), 4, "", #[], none⟩]
def F8.r16 : List Oper := [
  ⟨(some 48), (.move (.tmp 0)), 22, "", #[], none⟩,
  ⟨(some 49), (.move (.tmp 6)), 3, "", #[], none⟩,
  ⟨(some 50), (.call ⟨(.value (.func 10)), #[(.tmp 48), (.tmp 49)], #[22, 3]⟩), 4, "", #[⟨0, .chain⟩], none⟩,
  ⟨(some 4), (.assign (.tmp 50)), 4, "", #[], none⟩]
def F8.r17 : List Oper := [
  ⟨(some 52), (.binOp .eql 3 (.tmp 22) (.const (.int .i64 9)) 3), 4, "", #[], none⟩,
  ⟨(some 51), (.assign (.tmp 52)), 4, "", #[], none⟩]
def F8.r18 : List Oper := [
  ⟨(some 53), (.binOp .eql 3 (.tmp 22) (.const (.int .i64 10)) 3), 4, "", #[], none⟩,
  ⟨(some 51), (.assign (.tmp 53)), 4, "", #[], none⟩]
def F8.r19 : List Oper := [
  ⟨(some 55), (.move (.tmp 0)), 22, "", #[], none⟩,
  ⟨(some 56), (.call ⟨(.value (.func 11)), #[(.tmp 55)], #[22]⟩), 35, "", #[⟨0, .chain⟩], none⟩,
  ⟨(some 54), (.move (.tmp 56)), 35, "", #[], none⟩,
  ⟨(some 57), (.extract (.tmp 54) 0), 4, "", #[], none⟩,
  ⟨(some 58), (.extract (.tmp 54) 1), 4, "", #[], none⟩,
  ⟨(some 7), (.assign (.tmp 57)), 4, "", #[], none⟩,
  ⟨(some 8), (.assign (.tmp 58)), 4, "", #[], none⟩]
def F8.r20 : List Oper := [
  ⟨(some 59), (.move (.tmp 8)), 4, "", #[], none⟩,
  ⟨(some 4), (.assign (.tmp 59)), 4, "", #[], none⟩]
def F8.r21 : List Oper := [
  ⟨(some 60), (.move (.tmp 0)), 22, "", #[], none⟩,
  ⟨(some 61), (.nilCheck (.tmp 60)), 0, "", #[], none⟩,
  ⟨(some 62), (.fieldAddr 33 (.tmp 61) 3), 0, "", #[], none⟩,
  ⟨(some 63), (.load 3 (.tmp 62)), 3, "", #[⟨0, .data⟩], none⟩,
  ⟨(some 64), (.binOp .lss 3 (.tmp 63) (.const (.int .i64 50)) 3), 4, "", #[], none⟩]
def F8.r22 : List Oper := [
  ⟨(some 65), (.move (.tmp 0)), 22, "", #[], none⟩,
  ⟨(some 66), (.nilCheck (.tmp 65)), 0, "", #[], none⟩,
  ⟨(some 67), (.fieldAddr 33 (.tmp 66) 0), 0, "", #[], none⟩,
  ⟨(some 68), (.load 29 (.tmp 67)), 29, "", #[⟨0, .data⟩], none⟩,
  ⟨(some 69), (.build 77 #[(0, (.const (.int .u8 107))), (1, (.const (.int .u16 4))), (7, (.const (.string { data := #[115, 97, 105, 100] })))]), 77, "", #[], none⟩,
  ⟨(some 70), (.call ⟨(.value (.func 28)), #[(.tmp 68), (.const (.int .i64 1001)), (.tmp 69)], #[29, 3, 77]⟩), 0, "", #[⟨0, .chain⟩], none⟩]
def F8.r23 : List Oper := [
  ⟨(some 71), (.move (.tmp 0)), 22, "", #[], none⟩,
  ⟨(some 72), (.nilCheck (.tmp 71)), 0, "", #[], none⟩,
  ⟨(some 73), (.fieldAddr 33 (.tmp 72) 3), 0, "", #[], none⟩,
  ⟨(some 74), (.load 3 (.tmp 73)), 3, "", #[⟨0, .data⟩], none⟩,
  ⟨(some 75), (.binOp .add 3 (.tmp 74) (.const (.int .i64 1)) 3), 3, "", #[], none⟩,
  ⟨(some 76), (.nilCheck (.tmp 71)), 0, "", #[], none⟩,
  ⟨(some 77), (.fieldAddr 33 (.tmp 76) 3), 0, "", #[], none⟩,
  ⟨none, (.store 3 (.tmp 77) (.tmp 75)), 0, "", #[⟨0, .chain⟩], none⟩]
def F8.r24 : List Oper := [
  ⟨(some 4), (.assign (.const (.bool true))), 4, "", #[], none⟩]
def F8.t19 : Cd := (.cond (.tmp 51) (.seq (.region 19 F8.r19.toArray false) (.seq (.region 20 F8.r20.toArray false) .ret)) .skip)
theorem F8.t19_eq {P : Program} {Q : Post} {e : FA} {w : World} {θ : Tag (F8.t19, Q, e, w)} : cwE P F8.t19 Q e w θ = cwE P (.cond (.tmp 51) (.seq (.region 19 F8.r19.toArray false) (.seq (.region 20 F8.r20.toArray false) .ret)) .skip) Q e w := rfl
def F8.t16 : Cd := (.cond (.tmp 45) (.seq (.region 16 F8.r16.toArray false) .ret) (.seq (.seq (.region 17 F8.r17.toArray false) (.cond (.tmp 51) .skip (.region 18 F8.r18.toArray false))) F8.t19))
theorem F8.t16_eq {P : Program} {Q : Post} {e : FA} {w : World} {θ : Tag (F8.t16, Q, e, w)} : cwE P F8.t16 Q e w θ = cwE P (.cond (.tmp 45) (.seq (.region 16 F8.r16.toArray false) .ret) (.seq (.seq (.region 17 F8.r17.toArray false) (.cond (.tmp 51) .skip (.region 18 F8.r18.toArray false))) F8.t19)) Q e w := rfl
def F8.t13 : Cd := (.cond (.tmp 39) (.seq (.region 13 F8.r13.toArray false) .ret) (.seq (.seq (.region 14 F8.r14.toArray false) (.cond (.tmp 45) .skip (.region 15 F8.r15.toArray false))) F8.t16))
theorem F8.t13_eq {P : Program} {Q : Post} {e : FA} {w : World} {θ : Tag (F8.t13, Q, e, w)} : cwE P F8.t13 Q e w θ = cwE P (.cond (.tmp 39) (.seq (.region 13 F8.r13.toArray false) .ret) (.seq (.seq (.region 14 F8.r14.toArray false) (.cond (.tmp 45) .skip (.region 15 F8.r15.toArray false))) F8.t16)) Q e w := rfl
def F8.t10 : Cd := (.cond (.tmp 30) (.seq (.region 10 F8.r10.toArray false) .ret) (.seq (.seq (.region 11 F8.r11.toArray false) (.cond (.tmp 39) .skip (.region 12 F8.r12.toArray false))) F8.t13))
theorem F8.t10_eq {P : Program} {Q : Post} {e : FA} {w : World} {θ : Tag (F8.t10, Q, e, w)} : cwE P F8.t10 Q e w θ = cwE P (.cond (.tmp 30) (.seq (.region 10 F8.r10.toArray false) .ret) (.seq (.seq (.region 11 F8.r11.toArray false) (.cond (.tmp 39) .skip (.region 12 F8.r12.toArray false))) F8.t13)) Q e w := rfl
def F8.t7 : Cd := (.cond (.tmp 23) (.seq (.region 7 F8.r7.toArray false) .ret) (.seq (.seq (.region 8 F8.r8.toArray false) (.cond (.tmp 30) .skip (.region 9 F8.r9.toArray false))) F8.t10))
theorem F8.t7_eq {P : Program} {Q : Post} {e : FA} {w : World} {θ : Tag (F8.t7, Q, e, w)} : cwE P F8.t7 Q e w θ = cwE P (.cond (.tmp 23) (.seq (.region 7 F8.r7.toArray false) .ret) (.seq (.seq (.region 8 F8.r8.toArray false) (.cond (.tmp 30) .skip (.region 9 F8.r9.toArray false))) F8.t10)) Q e w := rfl
def F8.t24 : Cd := (.seq (.region 24 F8.r24.toArray false) .ret)
theorem F8.t24_eq {P : Program} {Q : Post} {e : FA} {w : World} {θ : Tag (F8.t24, Q, e, w)} : cwE P F8.t24 Q e w θ = cwE P (.seq (.region 24 F8.r24.toArray false) .ret) Q e w := rfl
def F8.t21 : Cd := (.seq (.seq (.region 21 F8.r21.toArray false) (.cond (.tmp 64) (.seq (.region 22 F8.r22.toArray false) (.region 23 F8.r23.toArray false)) .skip)) F8.t24)
theorem F8.t21_eq {P : Program} {Q : Post} {e : FA} {w : World} {θ : Tag (F8.t21, Q, e, w)} : cwE P F8.t21 Q e w θ = cwE P (.seq (.seq (.region 21 F8.r21.toArray false) (.cond (.tmp 64) (.seq (.region 22 F8.r22.toArray false) (.region 23 F8.r23.toArray false)) .skip)) F8.t24) Q e w := rfl
def F8.code : Cd := (.seq (.region 0 F8.r0.toArray false) (.seq (.region 1 F8.r1.toArray false) (.seq (.region 2 F8.r2.toArray true) (.seq (.seq (.region 3 F8.r3.toArray false) (.block 0 (.seq (.seq (.region 4 F8.r4.toArray false) (.cond (.tmp 23) .skip (.seq (.region 5 F8.r5.toArray false) (.cond (.tmp 23) .skip (.region 6 F8.r6.toArray false))))) F8.t7))) F8.t21))))
theorem F8.calls {args : Array Value} {w : World} {R : Ending → World → Prop} (hn : args.size ≤ 78) (h : cwE Try.prog F8.code (fnP Try.prog #[(.tmp 4)] R) (entry args) w) : Calls Try.prog 8 args w R :=
  calls_of_cwE (types := Try.prog.types) follows Try.func8 F8.code rfl (by kernel_rfl) hn h

def F9.r0 : List Oper := [
  ⟨(some 4), (.assign (.const (.bool false))), 4, "", #[], none⟩]
def F9.r1 : List Oper := [
  ⟨(some 7), (.move (.tmp 0)), 22, "", #[], none⟩,
  ⟨(some 8), (.nilCheck (.tmp 7)), 0, "", #[], none⟩,
  ⟨(some 9), (.fieldAddr 33 (.tmp 8) 0), 0, "", #[], none⟩,
  ⟨(some 10), (.load 29 (.tmp 9)), 29, "", #[⟨0, .data⟩], none⟩,
  ⟨(some 11), (.move (.tmp 1)), 3, "", #[], none⟩,
  ⟨(some 12), (.binOp .add 3 (.tmp 11) (.const (.int .i64 1)) 3), 3, "", #[], none⟩,
  ⟨(some 13), (.call ⟨(.value (.func 23)), #[(.tmp 10), (.tmp 12)], #[29, 3]⟩), 4, "", #[⟨0, .chain⟩], none⟩,
  ⟨(some 5), (.assign (.tmp 13)), 4, "", #[], none⟩]
def F9.r2 : List Oper := [
  ⟨(some 14), (.move (.tmp 0)), 22, "", #[], none⟩,
  ⟨(some 15), (.nilCheck (.tmp 14)), 0, "", #[], none⟩,
  ⟨(some 16), (.fieldAddr 33 (.tmp 15) 1), 0, "", #[], none⟩,
  ⟨(some 17), (.load 30 (.tmp 16)), 30, "", #[⟨0, .data⟩], none⟩,
  ⟨(some 18), (.move (.tmp 1)), 3, "", #[], none⟩,
  ⟨(some 19), (.indexAddr 30 (.tmp 17) (.tmp 18)), 0, "", #[], none⟩,
  ⟨(some 20), (.load 39 (.tmp 19)), 39, "", #[⟨0, .data⟩], none⟩,
  ⟨(some 6), (.alloc 39), 0, "", #[⟨0, .chain⟩], none⟩,
  ⟨none, (.store 39 (.tmp 6) (.tmp 20)), 0, "", #[⟨0, .chain⟩], none⟩]
def F9.r3 : List Oper := [
  ⟨(some 21), (.move (.tmp 5)), 4, "", #[], none⟩,
  ⟨(some 22), (.fieldAddr 39 (.tmp 6) 1), 0, "", #[], none⟩,
  ⟨(some 23), (.load 4 (.tmp 22)), 4, "", #[⟨0, .data⟩], none⟩,
  ⟨(some 24), (.unOp .not 4 (.tmp 23)), 4, "", #[], none⟩,
  ⟨(some 25), (.move (.tmp 24)), 4, "", #[], none⟩,
  ⟨(some 26), (.fieldAddr 39 (.tmp 6) 3), 0, "", #[], (some (25, true))⟩,
  ⟨(some 27), (.load 4 (.tmp 26)), 4, "", #[⟨0, .data⟩], (some (25, true))⟩,
  ⟨(some 28), (.unOp .not 4 (.tmp 27)), 4, "", #[], (some (25, true))⟩,
  ⟨(some 29), (.pick (.tmp 25) (.tmp 28) (.const (.bool false))), 4, "", #[], none⟩,
  ⟨(some 30), (.move (.tmp 29)), 4, "", #[], none⟩,
  ⟨(some 31), (.fieldAddr 39 (.tmp 6) 4), 0, "", #[], (some (30, true))⟩,
  ⟨(some 32), (.load 4 (.tmp 31)), 4, "", #[⟨0, .data⟩], (some (30, true))⟩,
  ⟨(some 33), (.unOp .not 4 (.tmp 32)), 4, "", #[], (some (30, true))⟩,
  ⟨(some 34), (.pick (.tmp 30) (.tmp 33) (.const (.bool false))), 4, "", #[], none⟩,
  ⟨(some 35), (.binOp .neq 4 (.tmp 21) (.tmp 34) 4), 4, "", #[], none⟩]
def F9.r4 : List Oper := [
  ⟨(some 4), (.assign (.const (.bool false))), 4, "", #[], none⟩]
def F9.r5 : List Oper := [
  ⟨(some 36), (.move (.tmp 0)), 22, "", #[], none⟩,
  ⟨(some 37), (.nilCheck (.tmp 36)), 0, "", #[], none⟩,
  ⟨(some 38), (.fieldAddr 33 (.tmp 37) 1), 0, "", #[], none⟩,
  ⟨(some 40), (.move (.tmp 1)), 3, "", #[], none⟩,
  ⟨(some 41), (.move (.tmp 0)), 22, "", #[], none⟩,
  ⟨(some 42), (.nilCheck (.tmp 41)), 0, "", #[], none⟩,
  ⟨(some 43), (.fieldAddr 33 (.tmp 42) 1), 0, "", #[], none⟩,
  ⟨(some 45), (.move (.tmp 1)), 3, "", #[], none⟩,
  ⟨(some 39), (.load 30 (.tmp 38)), 30, "", #[⟨262144, .data⟩], none⟩,
  ⟨(some 44), (.load 30 (.tmp 43)), 30, "", #[⟨262144, .data⟩], none⟩,
  ⟨(some 46), (.indexAddr 30 (.tmp 44) (.tmp 45)), 0, "", #[], none⟩,
  ⟨(some 47), (.fieldAddr 39 (.tmp 46) 4), 0, "", #[], none⟩,
  ⟨(some 48), (.load 4 (.tmp 47)), 4, "", #[⟨262144, .data⟩], none⟩,
  ⟨(some 49), (.move (.tmp 48)), 4, "", #[], none⟩,
  ⟨(some 50), (.move (.tmp 5)), 4, "", #[], (some (49, false))⟩,
  ⟨(some 51), (.pick (.tmp 49) (.const (.bool true)) (.tmp 50)), 4, "", #[], none⟩,
  ⟨(some 52), (.indexAddr 30 (.tmp 39) (.tmp 40)), 0, "", #[], none⟩,
  ⟨(some 53), (.fieldAddr 39 (.tmp 52) 4), 0, "", #[], none⟩,
  ⟨none, (.store 4 (.tmp 53) (.tmp 51)), 0, "", #[⟨18, .chain⟩], none⟩]
def F9.r6 : List Oper := [
  ⟨(some 4), (.assign (.const (.bool true))), 4, "", #[], none⟩]
def F9.t5 : Cd := (.seq (.region 5 F9.r5.toArray true) (.seq (.region 6 F9.r6.toArray false) .ret))
theorem F9.t5_eq {P : Program} {Q : Post} {e : FA} {w : World} {θ : Tag (F9.t5, Q, e, w)} : cwE P F9.t5 Q e w θ = cwE P (.seq (.region 5 F9.r5.toArray true) (.seq (.region 6 F9.r6.toArray false) .ret)) Q e w := rfl
def F9.code : Cd := (.seq (.region 0 F9.r0.toArray false) (.seq (.region 1 F9.r1.toArray false) (.seq (.region 2 F9.r2.toArray false) (.seq (.seq (.region 3 F9.r3.toArray false) (.cond (.tmp 35) (.seq (.region 4 F9.r4.toArray false) .ret) .skip)) F9.t5))))
theorem F9.calls {args : Array Value} {w : World} {R : Ending → World → Prop} (hn : args.size ≤ 54) (h : cwE Try.prog F9.code (fnP Try.prog #[(.tmp 4)] R) (entry args) w) : Calls Try.prog 9 args w R :=
  calls_of_cwE (types := Try.prog.types) follows Try.func9 F9.code rfl (by kernel_rfl) hn h

def F10.r0 : List Oper := [
  ⟨(some 4), (.assign (.const (.bool false))), 4, "", #[], none⟩]
def F10.r1 : List Oper := [
  ⟨(some 7), (.move (.tmp 0)), 22, "", #[], none⟩,
  ⟨(some 8), (.nilCheck (.tmp 7)), 0, "", #[], none⟩,
  ⟨(some 9), (.fieldAddr 33 (.tmp 8) 0), 0, "", #[], none⟩,
  ⟨(some 10), (.load 29 (.tmp 9)), 29, "", #[⟨0, .data⟩], none⟩,
  ⟨(some 11), (.move (.tmp 1)), 3, "", #[], none⟩,
  ⟨(some 12), (.binOp .add 3 (.tmp 11) (.const (.int .i64 1)) 3), 3, "", #[], none⟩,
  ⟨(some 13), (.build 77 #[(0, (.const (.int .u8 121))), (1, (.const (.int .u16 77)))]), 77, "", #[], none⟩,
  ⟨(some 14), (.call ⟨(.value (.func 24)), #[(.tmp 10), (.tmp 12), (.tmp 13)], #[29, 3, 77]⟩), 47, "", #[⟨0, .chain⟩], none⟩,
  ⟨(some 5), (.assign (.tmp 14)), 47, "", #[], none⟩]
def F10.r2 : List Oper := [
  ⟨(some 15), (.move (.tmp 0)), 22, "", #[], none⟩,
  ⟨(some 16), (.nilCheck (.tmp 15)), 0, "", #[], none⟩,
  ⟨(some 17), (.fieldAddr 33 (.tmp 16) 1), 0, "", #[], none⟩,
  ⟨(some 18), (.load 30 (.tmp 17)), 30, "", #[⟨0, .data⟩], none⟩,
  ⟨(some 19), (.move (.tmp 1)), 3, "", #[], none⟩,
  ⟨(some 20), (.indexAddr 30 (.tmp 18) (.tmp 19)), 0, "", #[], none⟩,
  ⟨(some 21), (.load 39 (.tmp 20)), 39, "", #[⟨0, .data⟩], none⟩,
  ⟨(some 6), (.alloc 39), 0, "", #[⟨0, .chain⟩], none⟩,
  ⟨none, (.store 39 (.tmp 6) (.tmp 21)), 0, "", #[⟨0, .chain⟩], none⟩]
def F10.r3 : List Oper := [
  ⟨(some 22), (.move (.tmp 5)), 47, "", #[], none⟩,
  ⟨(some 23), (.binOp .eql 47 (.tmp 22) (.const (.int .i64 0)) 47), 4, "", #[], none⟩,
  ⟨(some 24), (.fieldAddr 39 (.tmp 6) 4), 0, "", #[], none⟩,
  ⟨(some 25), (.load 4 (.tmp 24)), 4, "", #[⟨0, .data⟩], none⟩,
  ⟨(some 26), (.move (.tmp 25)), 4, "", #[], none⟩,
  ⟨(some 27), (.fieldAddr 39 (.tmp 6) 5), 0, "", #[], (some (26, true))⟩,
  ⟨(some 28), (.load 4 (.tmp 27)), 4, "", #[⟨0, .data⟩], (some (26, true))⟩,
  ⟨(some 29), (.unOp .not 4 (.tmp 28)), 4, "", #[], (some (26, true))⟩,
  ⟨(some 30), (.pick (.tmp 26) (.tmp 29) (.const (.bool false))), 4, "", #[], none⟩,
  ⟨(some 31), (.binOp .neq 4 (.tmp 23) (.tmp 30) 4), 4, "", #[], none⟩]
def F10.r4 : List Oper := [
  ⟨(some 4), (.assign (.const (.bool false))), 4, "", #[], none⟩]
def F10.r5 : List Oper := [
  ⟨(some 32), (.move (.tmp 0)), 22, "", #[], none⟩,
  ⟨(some 33), (.nilCheck (.tmp 32)), 0, "", #[], none⟩,
  ⟨(some 34), (.fieldAddr 33 (.tmp 33) 1), 0, "", #[], none⟩,
  ⟨(some 36), (.move (.tmp 1)), 3, "", #[], none⟩,
  ⟨(some 37), (.move (.tmp 0)), 22, "", #[], none⟩,
  ⟨(some 38), (.nilCheck (.tmp 37)), 0, "", #[], none⟩,
  ⟨(some 39), (.fieldAddr 33 (.tmp 38) 1), 0, "", #[], none⟩,
  ⟨(some 41), (.move (.tmp 1)), 3, "", #[], none⟩,
  ⟨(some 35), (.load 30 (.tmp 34)), 30, "", #[⟨524288, .data⟩], none⟩,
  ⟨(some 40), (.load 30 (.tmp 39)), 30, "", #[⟨524288, .data⟩], none⟩,
  ⟨(some 42), (.indexAddr 30 (.tmp 40) (.tmp 41)), 0, "", #[], none⟩,
  ⟨(some 43), (.fieldAddr 39 (.tmp 42) 5), 0, "", #[], none⟩,
  ⟨(some 44), (.load 4 (.tmp 43)), 4, "", #[⟨524288, .data⟩], none⟩,
  ⟨(some 45), (.move (.tmp 44)), 4, "", #[], none⟩,
  ⟨(some 46), (.move (.tmp 5)), 47, "", #[], (some (45, false))⟩,
  ⟨(some 47), (.binOp .eql 47 (.tmp 46) (.const (.int .i64 0)) 47), 4, "", #[], (some (45, false))⟩,
  ⟨(some 48), (.pick (.tmp 45) (.const (.bool true)) (.tmp 47)), 4, "", #[], none⟩,
  ⟨(some 49), (.indexAddr 30 (.tmp 35) (.tmp 36)), 0, "", #[], none⟩,
  ⟨(some 50), (.fieldAddr 39 (.tmp 49) 5), 0, "", #[], none⟩,
  ⟨none, (.store 4 (.tmp 50) (.tmp 48)), 0, "", #[⟨19, .chain⟩], none⟩]
def F10.r6 : List Oper := [
  ⟨(some 51), (.move (.tmp 5)), 47, "", #[], none⟩,
  ⟨(some 52), (.binOp .eql 47 (.tmp 51) (.const (.int .i64 0)) 47), 4, "", #[], none⟩,
  ⟨(some 53), (.move (.tmp 52)), 4, "", #[], none⟩,
  ⟨(some 54), (.move (.tmp 5)), 47, "", #[], (some (53, false))⟩,
  ⟨(some 55), (.binOp .eql 47 (.tmp 54) (.const (.int .i64 142)) 47), 4, "", #[], (some (53, false))⟩,
  ⟨(some 56), (.pick (.tmp 53) (.const (.bool true)) (.tmp 55)), 4, "", #[], none⟩,
  ⟨(some 4), (.assign (.tmp 56)), 4, "", #[], none⟩]
def F10.t5 : Cd := (.seq (.region 5 F10.r5.toArray true) (.seq (.region 6 F10.r6.toArray false) .ret))
theorem F10.t5_eq {P : Program} {Q : Post} {e : FA} {w : World} {θ : Tag (F10.t5, Q, e, w)} : cwE P F10.t5 Q e w θ = cwE P (.seq (.region 5 F10.r5.toArray true) (.seq (.region 6 F10.r6.toArray false) .ret)) Q e w := rfl
def F10.code : Cd := (.seq (.region 0 F10.r0.toArray false) (.seq (.region 1 F10.r1.toArray false) (.seq (.region 2 F10.r2.toArray false) (.seq (.seq (.region 3 F10.r3.toArray false) (.cond (.tmp 31) (.seq (.region 4 F10.r4.toArray false) .ret) .skip)) F10.t5))))
theorem F10.calls {args : Array Value} {w : World} {R : Ending → World → Prop} (hn : args.size ≤ 57) (h : cwE Try.prog F10.code (fnP Try.prog #[(.tmp 4)] R) (entry args) w) : Calls Try.prog 10 args w R :=
  calls_of_cwE (types := Try.prog.types) follows Try.func10 F10.code rfl (by kernel_rfl) hn h

def F11.r0 : List Oper := [
  ⟨(some 2), (.assign (.const (.bool false))), 4, "", #[], none⟩,
  ⟨(some 3), (.assign (.const (.bool false))), 4, "", #[], none⟩]
def F11.r1 : List Oper := [
  ⟨(some 12), (.move (.tmp 0)), 22, "", #[], none⟩,
  ⟨(some 13), (.nilCheck (.tmp 12)), 0, "", #[], none⟩,
  ⟨(some 14), (.fieldAddr 33 (.tmp 13) 0), 0, "", #[], none⟩,
  ⟨(some 15), (.load 29 (.tmp 14)), 29, "", #[⟨0, .data⟩], none⟩,
  ⟨(some 16), (.call ⟨(.value (.func 22)), #[(.tmp 15)], #[29]⟩), 83, "", #[⟨0, .chain⟩], none⟩,
  ⟨(some 11), (.move (.tmp 16)), 83, "", #[], none⟩,
  ⟨(some 17), (.extract (.tmp 11) 0), 77, "", #[], none⟩,
  ⟨(some 18), (.extract (.tmp 11) 1), 3, "", #[], none⟩,
  ⟨(some 19), (.extract (.tmp 11) 2), 4, "", #[], none⟩,
  ⟨(some 4), (.alloc 77), 0, "", #[⟨0, .chain⟩], none⟩,
  ⟨none, (.store 77 (.tmp 4) (.tmp 17)), 0, "", #[⟨0, .chain⟩], none⟩,
  ⟨(some 5), (.assign (.tmp 18)), 3, "", #[], none⟩,
  ⟨(some 6), (.assign (.tmp 19)), 4, "", #[], none⟩]
def F11.r2 : List Oper := [
  ⟨(some 20), (.move (.tmp 6)), 4, "", #[], none⟩,
  ⟨(some 21), (.unOp .not 4 (.tmp 20)), 4, "", #[], none⟩]
def F11.r3 : List Oper := [
  ⟨(some 22), (.move (.tmp 5)), 3, "", #[], none⟩,
  ⟨(some 23), (.binOp .eql 3 (.tmp 22) (.const (.int .i64 0)) 3), 4, "", #[], none⟩,
  ⟨(some 24), (.move (.tmp 23)), 4, "", #[], none⟩,
  ⟨(some 25), (.fieldAddr 77 (.tmp 4) 0), 0, "", #[], (some (24, true))⟩,
  ⟨(some 2), (.assign (.const (.bool false))), 4, "", #[], none⟩,
  ⟨(some 26), (.load 66 (.tmp 25)), 66, "", #[⟨0, .data⟩], (some (24, true))⟩,
  ⟨(some 27), (.binOp .eql 66 (.tmp 26) (.const (.int .u8 0)) 66), 4, "", #[], (some (24, true))⟩,
  ⟨(some 28), (.pick (.tmp 24) (.tmp 27) (.const (.bool false))), 4, "", #[], none⟩,
  ⟨(some 3), (.assign (.tmp 28)), 4, "", #[], none⟩]
def F11.r4 : List Oper := [
  ⟨(some 29), (.move (.tmp 5)), 3, "", #[], none⟩,
  ⟨(some 30), (.binOp .gtr 3 (.tmp 29) (.const (.int .i64 1000)) 3), 4, "", #[], none⟩]
def F11.r5 : List Oper := [
  ⟨(some 31), (.move (.tmp 0)), 22, "", #[], none⟩,
  ⟨(some 32), (.nilCheck (.tmp 31)), 0, "", #[], none⟩,
  ⟨(some 33), (.fieldAddr 33 (.tmp 32) 3), 0, "", #[], none⟩,
  ⟨(some 34), (.load 3 (.tmp 33)), 3, "", #[⟨0, .data⟩], none⟩,
  ⟨(some 35), (.binOp .sub 3 (.tmp 34) (.const (.int .i64 1)) 3), 3, "", #[], none⟩,
  ⟨(some 36), (.nilCheck (.tmp 31)), 0, "", #[], none⟩,
  ⟨(some 37), (.fieldAddr 33 (.tmp 36) 3), 0, "", #[], none⟩,
  ⟨none, (.store 3 (.tmp 37) (.tmp 35)), 0, "", #[⟨0, .chain⟩], none⟩]
def F11.r6 : List Oper := [
  ⟨(some 38), (.fieldAddr 77 (.tmp 4) 0), 0, "", #[], none⟩,
  ⟨(some 39), (.load 66 (.tmp 38)), 66, "", #[⟨0, .data⟩], none⟩,
  ⟨(some 40), (.binOp .eql 66 (.tmp 39) (.const (.int .u8 107)) 66), 4, "", #[], none⟩,
  ⟨(some 41), (.move (.tmp 40)), 4, "", #[], none⟩,
  ⟨(some 42), (.fieldAddr 77 (.tmp 4) 7), 0, "", #[], (some (41, true))⟩,
  ⟨(some 43), (.load 9 (.tmp 42)), 9, "", #[⟨0, .data⟩], (some (41, true))⟩,
  ⟨(some 44), (.binOp .eql 9 (.tmp 43) (.const (.string { data := #[115, 97, 105, 100] })) 9), 4, "", #[], (some (41, true))⟩,
  ⟨(some 45), (.pick (.tmp 41) (.tmp 44) (.const (.bool false))), 4, "", #[], none⟩,
  ⟨(some 46), (.move (.tmp 45)), 4, "", #[], none⟩,
  ⟨(some 47), (.fieldAddr 77 (.tmp 4) 1), 0, "", #[], (some (46, true))⟩,
  ⟨(some 2), (.assign (.const (.bool true))), 4, "", #[], none⟩,
  ⟨(some 48), (.load 37 (.tmp 47)), 37, "", #[⟨0, .data⟩], (some (46, true))⟩,
  ⟨(some 49), (.binOp .eql 37 (.tmp 48) (.const (.int .u16 4)) 37), 4, "", #[], (some (46, true))⟩,
  ⟨(some 50), (.pick (.tmp 46) (.tmp 49) (.const (.bool false))), 4, "", #[], none⟩,
  ⟨(some 3), (.assign (.tmp 50)), 4, "", #[], none⟩]
def F11.r7 : List Oper := [
  ⟨(some 51), (.move (.tmp 5)), 3, "", #[], none⟩,
  ⟨(some 52), (.binOp .lss 3 (.tmp 51) (.const (.int .i64 1)) 3), 4, "", #[], none⟩,
  ⟨(some 53), (.move (.tmp 52)), 4, "", #[], none⟩,
  ⟨(some 54), (.move (.tmp 5)), 3, "", #[], (some (53, false))⟩,
  ⟨(some 55), (.move (.tmp 0)), 22, "", #[], (some (53, false))⟩,
  ⟨(some 56), (.nilCheck (.tmp 55)), 0, "", #[], (some (53, false))⟩,
  ⟨(some 57), (.fieldAddr 33 (.tmp 56) 1), 0, "", #[], (some (53, false))⟩,
  ⟨(some 58), (.load 30 (.tmp 57)), 30, "", #[⟨0, .data⟩], (some (53, false))⟩,
  ⟨(some 59), (.call ⟨(.builtin .len), #[(.tmp 58)], #[30]⟩), 3, "", #[], (some (53, false))⟩,
  ⟨(some 60), (.binOp .gtr 3 (.tmp 54) (.tmp 59) 3), 4, "", #[], (some (53, false))⟩,
  ⟨(some 61), (.pick (.tmp 53) (.const (.bool true)) (.tmp 60)), 4, "", #[], none⟩]
def F11.r8 : List Oper := [
  ⟨(some 2), (.assign (.const (.bool true))), 4, "", #[], none⟩,
  ⟨(some 3), (.assign (.const (.bool false))), 4, "", #[], none⟩]
def F11.r9 : List Oper := [
  ⟨(some 62), (.move (.tmp 5)), 3, "", #[], none⟩,
  ⟨(some 63), (.binOp .sub 3 (.tmp 62) (.const (.int .i64 1)) 3), 3, "", #[], none⟩,
  ⟨(some 7), (.assign (.tmp 63)), 3, "", #[], none⟩]
def F11.r10 : List Oper := [
  ⟨(some 64), (.move (.tmp 0)), 22, "", #[], none⟩,
  ⟨(some 65), (.nilCheck (.tmp 64)), 0, "", #[], none⟩,
  ⟨(some 66), (.fieldAddr 33 (.tmp 65) 1), 0, "", #[], none⟩,
  ⟨(some 67), (.load 30 (.tmp 66)), 30, "", #[⟨0, .data⟩], none⟩,
  ⟨(some 68), (.move (.tmp 7)), 3, "", #[], none⟩,
  ⟨(some 69), (.indexAddr 30 (.tmp 67) (.tmp 68)), 0, "", #[], none⟩,
  ⟨(some 70), (.load 39 (.tmp 69)), 39, "", #[⟨0, .data⟩], none⟩,
  ⟨(some 8), (.alloc 39), 0, "", #[⟨0, .chain⟩], none⟩,
  ⟨none, (.store 39 (.tmp 8) (.tmp 70)), 0, "", #[⟨0, .chain⟩], none⟩]
def F11.r11 : List Oper := [
  ⟨(some 71), (.fieldAddr 39 (.tmp 8) 6), 0, "", #[], none⟩,
  ⟨(some 72), (.load 4 (.tmp 71)), 4, "", #[⟨0, .data⟩], none⟩,
  ⟨(some 73), (.move (.tmp 72)), 4, "", #[], none⟩,
  ⟨(some 74), (.fieldAddr 77 (.tmp 4) 1), 0, "", #[], (some (73, false))⟩,
  ⟨(some 75), (.load 37 (.tmp 74)), 37, "", #[⟨0, .data⟩], (some (73, false))⟩,
  ⟨(some 76), (.fieldAddr 39 (.tmp 8) 0), 0, "", #[], (some (73, false))⟩,
  ⟨(some 77), (.load 37 (.tmp 76)), 37, "", #[⟨0, .data⟩], (some (73, false))⟩,
  ⟨(some 78), (.binOp .neq 37 (.tmp 75) (.tmp 77) 37), 4, "", #[], (some (73, false))⟩,
  ⟨(some 79), (.pick (.tmp 73) (.const (.bool true)) (.tmp 78)), 4, "", #[], none⟩]
def F11.r12 : List Oper := [
  ⟨(some 2), (.assign (.const (.bool true))), 4, "", #[], none⟩,
  ⟨(some 3), (.assign (.const (.bool false))), 4, "", #[], none⟩]
def F11.r13 : List Oper := [
  ⟨(some 80), (.move (.tmp 0)), 22, "", #[], none⟩,
  ⟨(some 81), (.nilCheck (.tmp 80)), 0, "", #[], none⟩,
  ⟨(some 82), (.fieldAddr 33 (.tmp 81) 1), 0, "", #[], none⟩,
  ⟨(some 83), (.load 30 (.tmp 82)), 30, "", #[⟨0, .data⟩], none⟩,
  ⟨(some 84), (.move (.tmp 7)), 3, "", #[], none⟩,
  ⟨(some 85), (.indexAddr 30 (.tmp 83) (.tmp 84)), 0, "", #[], none⟩,
  ⟨(some 86), (.fieldAddr 39 (.tmp 85) 6), 0, "", #[], none⟩,
  ⟨none, (.store 4 (.tmp 86) (.const (.bool true))), 0, "", #[⟨0, .chain⟩], none⟩]
def F11.r14 : List Oper := [
  ⟨(some 87), (.move (.tmp 0)), 22, "", #[], none⟩,
  ⟨(some 88), (.nilCheck (.tmp 87)), 0, "", #[], none⟩,
  ⟨(some 89), (.fieldAddr 33 (.tmp 88) 2), 0, "", #[], none⟩,
  ⟨(some 91), (.fieldAddr 39 (.tmp 8) 0), 0, "", #[], none⟩,
  ⟨(some 95), (.move (.tmp 7)), 3, "", #[], none⟩,
  ⟨(some 90), (.load 31 (.tmp 89)), 31, "", #[⟨0, .data⟩], none⟩,
  ⟨(some 92), (.load 37 (.tmp 91)), 37, "", #[⟨0, .data⟩], none⟩,
  ⟨(some 93), (.indexAddr 31 (.tmp 90) (.tmp 92)), 0, "", #[], none⟩,
  ⟨(some 94), (.load 3 (.tmp 93)), 3, "", #[⟨0, .data⟩], none⟩,
  ⟨(some 96), (.binOp .eql 3 (.tmp 94) (.tmp 95) 3), 4, "", #[], none⟩]
def F11.r15 : List Oper := [
  ⟨(some 97), (.move (.tmp 0)), 22, "", #[], none⟩,
  ⟨(some 98), (.nilCheck (.tmp 97)), 0, "", #[], none⟩,
  ⟨(some 99), (.fieldAddr 33 (.tmp 98) 2), 0, "", #[], none⟩,
  ⟨(some 101), (.fieldAddr 39 (.tmp 8) 0), 0, "", #[], none⟩,
  ⟨(some 100), (.load 31 (.tmp 99)), 31, "", #[⟨128, .data⟩], none⟩,
  ⟨(some 102), (.load 37 (.tmp 101)), 37, "", #[⟨128, .data⟩], none⟩,
  ⟨(some 103), (.indexAddr 31 (.tmp 100) (.tmp 102)), 0, "", #[], none⟩,
  ⟨none, (.store 3 (.tmp 103) (.const (.int .i64 (-1)))), 0, "", #[⟨7, .chain⟩], none⟩]
def F11.r16 : List Oper := [
  ⟨(some 104), (.fieldAddr 39 (.tmp 8) 1), 0, "", #[], none⟩,
  ⟨(some 105), (.load 4 (.tmp 104)), 4, "", #[⟨0, .data⟩], none⟩,
  ⟨(some 106), (.unOp .not 4 (.tmp 105)), 4, "", #[], none⟩]
def F11.r17 : List Oper := [
  ⟨(some 107), (.fieldAddr 77 (.tmp 4) 0), 0, "", #[], none⟩,
  ⟨(some 108), (.load 66 (.tmp 107)), 66, "", #[⟨0, .data⟩], none⟩,
  ⟨(some 109), (.binOp .eql 66 (.tmp 108) (.const (.int .u8 121)) 66), 4, "", #[], none⟩,
  ⟨(some 110), (.move (.tmp 109)), 4, "", #[], none⟩,
  ⟨(some 111), (.fieldAddr 39 (.tmp 8) 5), 0, "", #[], (some (110, true))⟩,
  ⟨(some 112), (.load 4 (.tmp 111)), 4, "", #[⟨0, .data⟩], (some (110, true))⟩,
  ⟨(some 113), (.pick (.tmp 110) (.tmp 112) (.const (.bool false))), 4, "", #[], none⟩,
  ⟨(some 114), (.move (.tmp 113)), 4, "", #[], none⟩,
  ⟨(some 115), (.fieldAddr 39 (.tmp 8) 3), 0, "", #[], (some (114, true))⟩,
  ⟨(some 2), (.assign (.const (.bool true))), 4, "", #[], none⟩,
  ⟨(some 116), (.load 4 (.tmp 115)), 4, "", #[⟨0, .data⟩], (some (114, true))⟩,
  ⟨(some 117), (.unOp .not 4 (.tmp 116)), 4, "", #[], (some (114, true))⟩,
  ⟨(some 118), (.pick (.tmp 114) (.tmp 117) (.const (.bool false))), 4, "", #[], none⟩,
  ⟨(some 3), (.assign (.tmp 118)), 4, "", #[], none⟩]
def F11.r18 : List Oper := [
  ⟨(some 119), (.fieldAddr 77 (.tmp 4) 0), 0, "", #[], none⟩,
  ⟨(some 120), (.load 66 (.tmp 119)), 66, "", #[⟨0, .data⟩], none⟩,
  ⟨(some 121), (.binOp .neq 66 (.tmp 120) (.const (.int .u8 109)) 66), 4, "", #[], none⟩]
def F11.r19 : List Oper := [
  ⟨(some 2), (.assign (.const (.bool true))), 4, "", #[], none⟩,
  ⟨(some 3), (.assign (.const (.bool false))), 4, "", #[], none⟩]
def F11.r20 : List Oper := [
  ⟨(some 122), (.fieldAddr 39 (.tmp 8) 2), 0, "", #[], none⟩,
  ⟨(some 123), (.load 3 (.tmp 122)), 3, "", #[⟨0, .data⟩], none⟩,
  ⟨(some 124), (.binOp .lss 3 (.tmp 123) (.const (.int .i64 0)) 3), 4, "", #[], none⟩]
def F11.r21 : List Oper := [
  ⟨(some 2), (.assign (.const (.bool true))), 4, "", #[], none⟩,
  ⟨(some 3), (.assign (.const (.bool true))), 4, "", #[], none⟩]
def F11.r22 : List Oper := [
  ⟨(some 125), (.move (.tmp 0)), 22, "", #[], none⟩,
  ⟨(some 126), (.nilCheck (.tmp 125)), 0, "", #[], none⟩,
  ⟨(some 127), (.fieldAddr 33 (.tmp 126) 1), 0, "", #[], none⟩,
  ⟨(some 129), (.fieldAddr 39 (.tmp 8) 2), 0, "", #[], none⟩,
  ⟨(some 128), (.load 30 (.tmp 127)), 30, "", #[⟨512, .data⟩], none⟩,
  ⟨(some 130), (.load 3 (.tmp 129)), 3, "", #[⟨512, .data⟩], none⟩,
  ⟨(some 131), (.indexAddr 30 (.tmp 128) (.tmp 130)), 0, "", #[], none⟩,
  ⟨(some 132), (.load 39 (.tmp 131)), 39, "", #[⟨512, .data⟩], none⟩,
  ⟨(some 9), (.alloc 39), 0, "", #[⟨8, .chain⟩], none⟩,
  ⟨none, (.store 39 (.tmp 9) (.tmp 132)), 0, "", #[⟨9, .chain⟩], none⟩]
def F11.r23 : List Oper := [
  ⟨(some 133), (.fieldAddr 39 (.tmp 9) 3), 0, "", #[], none⟩,
  ⟨(some 134), (.load 4 (.tmp 133)), 4, "", #[⟨0, .data⟩], none⟩,
  ⟨(some 135), (.move (.tmp 134)), 4, "", #[], none⟩,
  ⟨(some 136), (.move (.tmp 0)), 22, "", #[], (some (135, true))⟩,
  ⟨(some 137), (.nilCheck (.tmp 136)), 0, "", #[], (some (135, true))⟩,
  ⟨(some 138), (.fieldAddr 33 (.tmp 137) 2), 0, "", #[], (some (135, true))⟩,
  ⟨(some 140), (.fieldAddr 39 (.tmp 9) 0), 0, "", #[], (some (135, true))⟩,
  ⟨(some 144), (.fieldAddr 39 (.tmp 8) 2), 0, "", #[], (some (135, true))⟩,
  ⟨(some 139), (.load 31 (.tmp 138)), 31, "", #[⟨0, .data⟩], (some (135, true))⟩,
  ⟨(some 141), (.load 37 (.tmp 140)), 37, "", #[⟨0, .data⟩], (some (135, true))⟩,
  ⟨(some 142), (.indexAddr 31 (.tmp 139) (.tmp 141)), 0, "", #[], (some (135, true))⟩,
  ⟨(some 143), (.load 3 (.tmp 142)), 3, "", #[⟨0, .data⟩], (some (135, true))⟩,
  ⟨(some 145), (.load 3 (.tmp 144)), 3, "", #[⟨0, .data⟩], (some (135, true))⟩,
  ⟨(some 146), (.binOp .eql 3 (.tmp 143) (.tmp 145) 3), 4, "", #[], (some (135, true))⟩,
  ⟨(some 147), (.pick (.tmp 135) (.tmp 146) (.const (.bool false))), 4, "", #[], none⟩]
def F11.r24 : List Oper := [
  ⟨(some 148), (.move (.tmp 0)), 22, "", #[], none⟩,
  ⟨(some 149), (.nilCheck (.tmp 148)), 0, "", #[], none⟩,
  ⟨(some 150), (.fieldAddr 33 (.tmp 149) 2), 0, "", #[], none⟩,
  ⟨(some 152), (.fieldAddr 39 (.tmp 9) 0), 0, "", #[], none⟩,
  ⟨(some 151), (.load 31 (.tmp 150)), 31, "", #[⟨128, .data⟩], none⟩,
  ⟨(some 153), (.load 37 (.tmp 152)), 37, "", #[⟨128, .data⟩], none⟩,
  ⟨(some 154), (.indexAddr 31 (.tmp 151) (.tmp 153)), 0, "", #[], none⟩,
  ⟨none, (.store 3 (.tmp 154) (.const (.int .i64 (-1)))), 0, "", #[⟨7, .chain⟩], none⟩]
def F11.r25 : List Oper := [
  ⟨(some 155), (.fieldAddr 39 (.tmp 9) 1), 0, "", #[], none⟩,
  ⟨(some 156), (.load 4 (.tmp 155)), 4, "", #[⟨0, .data⟩], none⟩]
def F11.r26 : List Oper := [
  ⟨(some 157), (.fieldAddr 39 (.tmp 9) 6), 0, "", #[], none⟩,
  ⟨(some 2), (.assign (.const (.bool true))), 4, "", #[], none⟩,
  ⟨(some 158), (.load 4 (.tmp 157)), 4, "", #[⟨0, .data⟩], none⟩,
  ⟨(some 3), (.assign (.tmp 158)), 4, "", #[], none⟩]
def F11.r27 : List Oper := [
  ⟨(some 159), (.move (.tmp 0)), 22, "", #[], none⟩,
  ⟨(some 160), (.move (.tmp 7)), 3, "", #[], none⟩,
  ⟨(some 161), (.call ⟨(.value (.func 29)), #[(.tmp 159), (.tmp 160)], #[22, 3]⟩), 4, "", #[⟨0, .chain⟩], none⟩,
  ⟨(some 10), (.assign (.tmp 161)), 4, "", #[], none⟩]
def F11.r28 : List Oper := [
  ⟨(some 162), (.move (.tmp 10)), 4, "", #[], none⟩,
  ⟨(some 163), (.move (.tmp 162)), 4, "", #[], none⟩,
  ⟨(some 164), (.fieldAddr 39 (.tmp 9) 3), 0, "", #[], (some (163, true))⟩,
  ⟨(some 165), (.load 4 (.tmp 164)), 4, "", #[⟨0, .data⟩], (some (163, true))⟩,
  ⟨(some 166), (.move (.tmp 165)), 4, "", #[], (some (163, true))⟩,
  ⟨(some 167), (.fieldAddr 39 (.tmp 9) 4), 0, "", #[], (some (166, false))⟩,
  ⟨(some 168), (.load 4 (.tmp 167)), 4, "", #[⟨0, .data⟩], (some (166, false))⟩,
  ⟨(some 169), (.move (.tmp 168)), 4, "", #[], (some (166, false))⟩,
  ⟨(some 170), (.fieldAddr 39 (.tmp 9) 6), 0, "", #[], (some (169, true))⟩,
  ⟨(some 2), (.assign (.const (.bool true))), 4, "", #[], none⟩,
  ⟨(some 171), (.load 4 (.tmp 170)), 4, "", #[⟨0, .data⟩], (some (169, true))⟩,
  ⟨(some 172), (.pick (.tmp 169) (.tmp 171) (.const (.bool false))), 4, "", #[], (some (166, false))⟩,
  ⟨(some 173), (.pick (.tmp 166) (.const (.bool true)) (.tmp 172)), 4, "", #[], (some (163, true))⟩,
  ⟨(some 174), (.pick (.tmp 163) (.tmp 173) (.const (.bool false))), 4, "", #[], none⟩,
  ⟨(some 3), (.assign (.tmp 174)), 4, "", #[], none⟩]
def F11.t27 : Cd := (.seq (.region 27 F11.r27.toArray false) (.seq (.region 28 F11.r28.toArray true) .ret))
theorem F11.t27_eq {P : Program} {Q : Post} {e : FA} {w : World} {θ : Tag (F11.t27, Q, e, w)} : cwE P F11.t27 Q e w θ = cwE P (.seq (.region 27 F11.r27.toArray false) (.seq (.region 28 F11.r28.toArray true) .ret)) Q e w := rfl
def F11.t25 : Cd := (.seq (.seq (.region 25 F11.r25.toArray false) (.cond (.tmp 156) (.seq (.region 26 F11.r26.toArray true) .ret) .skip)) F11.t27)
theorem F11.t25_eq {P : Program} {Q : Post} {e : FA} {w : World} {θ : Tag (F11.t25, Q, e, w)} : cwE P F11.t25 Q e w θ = cwE P (.seq (.seq (.region 25 F11.r25.toArray false) (.cond (.tmp 156) (.seq (.region 26 F11.r26.toArray true) .ret) .skip)) F11.t27) Q e w := rfl
def F11.t22 : Cd := (.seq (.region 22 F11.r22.toArray true) (.seq (.seq (.region 23 F11.r23.toArray true) (.cond (.tmp 147) (.region 24 F11.r24.toArray true) .skip)) F11.t25))
theorem F11.t22_eq {P : Program} {Q : Post} {e : FA} {w : World} {θ : Tag (F11.t22, Q, e, w)} : cwE P F11.t22 Q e w θ = cwE P (.seq (.region 22 F11.r22.toArray true) (.seq (.seq (.region 23 F11.r23.toArray true) (.cond (.tmp 147) (.region 24 F11.r24.toArray true) .skip)) F11.t25)) Q e w := rfl
def F11.t20 : Cd := (.seq (.seq (.region 20 F11.r20.toArray false) (.cond (.tmp 124) (.seq (.region 21 F11.r21.toArray false) .ret) .skip)) F11.t22)
theorem F11.t20_eq {P : Program} {Q : Post} {e : FA} {w : World} {θ : Tag (F11.t20, Q, e, w)} : cwE P F11.t20 Q e w θ = cwE P (.seq (.seq (.region 20 F11.r20.toArray false) (.cond (.tmp 124) (.seq (.region 21 F11.r21.toArray false) .ret) .skip)) F11.t22) Q e w := rfl
def F11.t18 : Cd := (.seq (.seq (.region 18 F11.r18.toArray false) (.cond (.tmp 121) (.seq (.region 19 F11.r19.toArray false) .ret) .skip)) F11.t20)
theorem F11.t18_eq {P : Program} {Q : Post} {e : FA} {w : World} {θ : Tag (F11.t18, Q, e, w)} : cwE P F11.t18 Q e w θ = cwE P (.seq (.seq (.region 18 F11.r18.toArray false) (.cond (.tmp 121) (.seq (.region 19 F11.r19.toArray false) .ret) .skip)) F11.t20) Q e w := rfl
def F11.t16 : Cd := (.seq (.seq (.region 16 F11.r16.toArray false) (.cond (.tmp 106) (.seq (.region 17 F11.r17.toArray true) .ret) .skip)) F11.t18)
theorem F11.t16_eq {P : Program} {Q : Post} {e : FA} {w : World} {θ : Tag (F11.t16, Q, e, w)} : cwE P F11.t16 Q e w θ = cwE P (.seq (.seq (.region 16 F11.r16.toArray false) (.cond (.tmp 106) (.seq (.region 17 F11.r17.toArray true) .ret) .skip)) F11.t18) Q e w := rfl
def F11.t13 : Cd := (.seq (.region 13 F11.r13.toArray false) (.seq (.seq (.region 14 F11.r14.toArray true) (.cond (.tmp 96) (.region 15 F11.r15.toArray true) .skip)) F11.t16))
theorem F11.t13_eq {P : Program} {Q : Post} {e : FA} {w : World} {θ : Tag (F11.t13, Q, e, w)} : cwE P F11.t13 Q e w θ = cwE P (.seq (.region 13 F11.r13.toArray false) (.seq (.seq (.region 14 F11.r14.toArray true) (.cond (.tmp 96) (.region 15 F11.r15.toArray true) .skip)) F11.t16)) Q e w := rfl
def F11.t9 : Cd := (.seq (.region 9 F11.r9.toArray false) (.seq (.region 10 F11.r10.toArray false) (.seq (.seq (.region 11 F11.r11.toArray false) (.cond (.tmp 79) (.seq (.region 12 F11.r12.toArray false) .ret) .skip)) F11.t13)))
theorem F11.t9_eq {P : Program} {Q : Post} {e : FA} {w : World} {θ : Tag (F11.t9, Q, e, w)} : cwE P F11.t9 Q e w θ = cwE P (.seq (.region 9 F11.r9.toArray false) (.seq (.region 10 F11.r10.toArray false) (.seq (.seq (.region 11 F11.r11.toArray false) (.cond (.tmp 79) (.seq (.region 12 F11.r12.toArray false) .ret) .skip)) F11.t13))) Q e w := rfl
def F11.t7 : Cd := (.seq (.seq (.region 7 F11.r7.toArray false) (.cond (.tmp 61) (.seq (.region 8 F11.r8.toArray false) .ret) .skip)) F11.t9)
theorem F11.t7_eq {P : Program} {Q : Post} {e : FA} {w : World} {θ : Tag (F11.t7, Q, e, w)} : cwE P F11.t7 Q e w θ = cwE P (.seq (.seq (.region 7 F11.r7.toArray false) (.cond (.tmp 61) (.seq (.region 8 F11.r8.toArray false) .ret) .skip)) F11.t9) Q e w := rfl
def F11.t4 : Cd := (.seq (.seq (.region 4 F11.r4.toArray false) (.cond (.tmp 30) (.seq (.region 5 F11.r5.toArray false) (.seq (.region 6 F11.r6.toArray true) .ret)) .skip)) F11.t7)
theorem F11.t4_eq {P : Program} {Q : Post} {e : FA} {w : World} {θ : Tag (F11.t4, Q, e, w)} : cwE P F11.t4 Q e w θ = cwE P (.seq (.seq (.region 4 F11.r4.toArray false) (.cond (.tmp 30) (.seq (.region 5 F11.r5.toArray false) (.seq (.region 6 F11.r6.toArray true) .ret)) .skip)) F11.t7) Q e w := rfl
def F11.code : Cd := (.seq (.region 0 F11.r0.toArray false) (.seq (.region 1 F11.r1.toArray false) (.seq (.seq (.region 2 F11.r2.toArray false) (.cond (.tmp 21) (.seq (.region 3 F11.r3.toArray true) .ret) .skip)) F11.t4)))
theorem F11.calls {args : Array Value} {w : World} {R : Ending → World → Prop} (hn : args.size ≤ 175) (h : cwE Try.prog F11.code (fnP Try.prog #[(.tmp 2), (.tmp 3)] R) (entry args) w) : Calls Try.prog 11 args w R :=
  calls_of_cwE (types := Try.prog.types) follows Try.func11 F11.code rfl (by kernel_rfl) hn h

def F12.r0 : List Oper := [
  ⟨(some 2), (.assign (.const (.slice none 0 0))), 40, "", #[], none⟩]
def F12.r1 : List Oper := [
  ⟨(some 3), (.assign (.const (.slice none 0 0))), 40, "", #[], none⟩]
def F12.r2 : List Oper := [
  ⟨(some 6), (.move (.tmp 0)), 29, "", #[], none⟩,
  ⟨(some 7), (.nilCheck (.tmp 6)), 0, "", #[], none⟩,
  ⟨(some 8), (.fieldAddr 94 (.tmp 7) 2), 0, "", #[], none⟩,
  ⟨(some 9), (.load 90 (.tmp 8)), 90, "", #[⟨0, .data⟩], none⟩,
  ⟨(some 10), (.range 90 (.tmp 9)), 0, "", #[⟨0, .chain⟩], none⟩]
def F12.r3 : List Oper := [
  ⟨(some 11), (.next (.tmp 10) false), 0, "", #[⟨0, .chain⟩], none⟩,
  ⟨(some 12), (.extract (.tmp 11) 0), 4, "", #[], none⟩]
def F12.r4 : List Oper := [
  ⟨(some 13), (.entry (.tmp 10)), 0, "", #[⟨0, .data⟩], none⟩,
  ⟨(some 14), (.extract (.tmp 13) 0), 3, "", #[], none⟩,
  ⟨(some 15), (.extract (.tmp 13) 1), 95, "", #[], none⟩,
  ⟨(some 4), (.assign (.tmp 14)), 3, "", #[], none⟩,
  ⟨(some 5), (.assign (.tmp 15)), 95, "", #[], none⟩]
def F12.r5 : List Oper := [
  ⟨(some 16), (.move (.tmp 3)), 40, "", #[], none⟩,
  ⟨(some 17), (.move (.tmp 5)), 95, "", #[], none⟩,
  ⟨(some 18), (.nilCheck (.tmp 17)), 0, "", #[], none⟩,
  ⟨(some 19), (.fieldAddr 98 (.tmp 18) 1), 0, "", #[], none⟩,
  ⟨(some 21), (.move (.tmp 4)), 3, "", #[], none⟩,
  ⟨(some 22), (.move (.tmp 5)), 95, "", #[], none⟩,
  ⟨(some 23), (.nilCheck (.tmp 22)), 0, "", #[], none⟩,
  ⟨(some 24), (.fieldAddr 98 (.tmp 23) 2), 0, "", #[], none⟩,
  ⟨(some 20), (.load 37 (.tmp 19)), 37, "", #[⟨6144, .data⟩], none⟩,
  ⟨(some 25), (.load 96 (.tmp 24)), 96, "", #[⟨6144, .data⟩], none⟩,
  ⟨(some 26), (.build 100 #[(0, (.tmp 20)), (1, (.tmp 21)), (2, (.tmp 25))]), 100, "", #[], none⟩,
  ⟨(some 27), (.buildSlice 40 1 #[(0, (.tmp 26))]), 40, "", #[⟨11, .chain⟩], none⟩,
  ⟨(some 28), (.call ⟨(.builtin .append), #[(.tmp 16), (.tmp 27)], #[40, 40]⟩), 40, "", #[⟨12, .chain⟩], none⟩,
  ⟨(some 3), (.assign (.tmp 28)), 40, "", #[], none⟩]
def F12.r6 : List Oper := [
  ⟨(some 29), (.move (.tmp 3)), 40, "", #[], none⟩,
  ⟨(some 30), (.call ⟨(.value (.func 30)), #[(.tmp 29), (.func 31)], #[40, 102]⟩), 0, "", #[⟨0, .chain⟩], none⟩]
def F12.r7 : List Oper := [
  ⟨(some 31), (.move (.tmp 3)), 40, "", #[], none⟩,
  ⟨(some 2), (.assign (.tmp 31)), 40, "", #[], none⟩]
def F12.t4 : Cd := (.block 1 (.seq (.region 4 F12.r4.toArray false) (.region 5 F12.r5.toArray true)))
theorem F12.t4_eq {P : Program} {Q : Post} {e : FA} {w : World} {θ : Tag (F12.t4, Q, e, w)} : cwE P F12.t4 Q e w θ = cwE P (.block 1 (.seq (.region 4 F12.r4.toArray false) (.region 5 F12.r5.toArray true))) Q e w := rfl
def F12.t6 : Cd := (.seq (.region 6 F12.r6.toArray false) (.seq (.region 7 F12.r7.toArray false) .ret))
theorem F12.t6_eq {P : Program} {Q : Post} {e : FA} {w : World} {θ : Tag (F12.t6, Q, e, w)} : cwE P F12.t6 Q e w θ = cwE P (.seq (.region 6 F12.r6.toArray false) (.seq (.region 7 F12.r7.toArray false) .ret)) Q e w := rfl
def F12.code : Cd := (.seq (.region 0 F12.r0.toArray false) (.seq (.region 1 F12.r1.toArray false) (.seq (.seq (.region 2 F12.r2.toArray false) (.block 0 (.loop (.seq (.region 3 F12.r3.toArray false) (.seq (.cond (.tmp 12) .skip (.exit 0)) F12.t4))))) F12.t6)))
theorem F12.calls {args : Array Value} {w : World} {R : Ending → World → Prop} (hn : args.size ≤ 32) (h : cwE Try.prog F12.code (fnP Try.prog #[(.tmp 2)] R) (entry args) w) : Calls Try.prog 12 args w R :=
  calls_of_cwE (types := Try.prog.types) follows Try.func12 F12.code rfl (by kernel_rfl) hn h

def F13.r0 : List Oper := [
  ⟨(some 2), (.assign (.const (.slice none 0 0))), 42, "", #[], none⟩]
def F13.r1 : List Oper := [
  ⟨(some 3), (.assign (.const (.slice none 0 0))), 42, "", #[], none⟩]
def F13.r2 : List Oper := [
  ⟨(some 6), (.move (.tmp 0)), 29, "", #[], none⟩,
  ⟨(some 7), (.nilCheck (.tmp 6)), 0, "", #[], none⟩,
  ⟨(some 8), (.fieldAddr 94 (.tmp 7) 4), 0, "", #[], none⟩,
  ⟨(some 9), (.load 92 (.tmp 8)), 92, "", #[⟨0, .data⟩], none⟩,
  ⟨(some 10), (.call ⟨(.builtin .len), #[(.tmp 9)], #[92]⟩), 3, "", #[], none⟩,
  ⟨(some 11), (.move (.const (.int .i64 0))), 3, "", #[], none⟩]
def F13.r3 : List Oper := [
  ⟨(some 12), (.binOp .lss 3 (.tmp 11) (.tmp 10) 3), 0, "", #[], none⟩]
def F13.r4 : List Oper := [
  ⟨(some 13), (.indexAddr 92 (.tmp 9) (.tmp 11)), 0, "", #[], none⟩,
  ⟨(some 14), (.load 104 (.tmp 13)), 104, "", #[⟨0, .data⟩], none⟩,
  ⟨(some 5), (.alloc 104), 0, "", #[⟨0, .chain⟩], none⟩,
  ⟨none, (.store 104 (.tmp 5) (.tmp 14)), 0, "", #[⟨0, .chain⟩], none⟩]
def F13.r5 : List Oper := [
  ⟨(some 15), (.move (.tmp 3)), 42, "", #[], none⟩,
  ⟨(some 16), (.fieldAddr 104 (.tmp 5) 0), 0, "", #[], none⟩,
  ⟨(some 17), (.load 77 (.tmp 16)), 77, "", #[⟨0, .data⟩], none⟩,
  ⟨(some 18), (.call ⟨(.value (.func 32)), #[(.tmp 17)], #[77]⟩), 77, "", #[⟨0, .chain⟩], none⟩,
  ⟨(some 19), (.buildSlice 42 1 #[(0, (.tmp 18))]), 42, "", #[⟨0, .chain⟩], none⟩,
  ⟨(some 20), (.call ⟨(.builtin .append), #[(.tmp 15), (.tmp 19)], #[42, 42]⟩), 42, "", #[⟨0, .chain⟩], none⟩,
  ⟨(some 3), (.assign (.tmp 20)), 42, "", #[], none⟩]
def F13.r6 : List Oper := [
  ⟨(some 21), (.binOp .add 3 (.tmp 11) (.const (.int .i64 1)) 3), 3, "", #[], none⟩,
  ⟨(some 11), (.move (.tmp 21)), 3, "", #[], none⟩]
def F13.r7 : List Oper := [
  ⟨(some 22), (.move (.tmp 3)), 42, "", #[], none⟩,
  ⟨(some 2), (.assign (.tmp 22)), 42, "", #[], none⟩]
def F13.t6 : Cd := (.region 6 F13.r6.toArray false)
theorem F13.t6_eq {P : Program} {Q : Post} {e : FA} {w : World} {θ : Tag (F13.t6, Q, e, w)} : cwE P F13.t6 Q e w θ = cwE P (.region 6 F13.r6.toArray false) Q e w := rfl
def F13.t4 : Cd := (.seq (.block 1 (.seq (.region 4 F13.r4.toArray false) (.region 5 F13.r5.toArray false))) F13.t6)
theorem F13.t4_eq {P : Program} {Q : Post} {e : FA} {w : World} {θ : Tag (F13.t4, Q, e, w)} : cwE P F13.t4 Q e w θ = cwE P (.seq (.block 1 (.seq (.region 4 F13.r4.toArray false) (.region 5 F13.r5.toArray false))) F13.t6) Q e w := rfl
def F13.t7 : Cd := (.seq (.region 7 F13.r7.toArray false) .ret)
theorem F13.t7_eq {P : Program} {Q : Post} {e : FA} {w : World} {θ : Tag (F13.t7, Q, e, w)} : cwE P F13.t7 Q e w θ = cwE P (.seq (.region 7 F13.r7.toArray false) .ret) Q e w := rfl
def F13.code : Cd := (.seq (.region 0 F13.r0.toArray false) (.seq (.region 1 F13.r1.toArray false) (.seq (.seq (.region 2 F13.r2.toArray false) (.block 0 (.loop (.seq (.region 3 F13.r3.toArray false) (.seq (.cond (.tmp 12) .skip (.exit 0)) F13.t4))))) F13.t7)))
theorem F13.calls {args : Array Value} {w : World} {R : Ending → World → Prop} (hn : args.size ≤ 23) (h : cwE Try.prog F13.code (fnP Try.prog #[(.tmp 2)] R) (entry args) w) : Calls Try.prog 13 args w R :=
  calls_of_cwE (types := Try.prog.types) follows Try.func13 F13.code rfl (by kernel_rfl) hn h

def F15.r0 : List Oper := [
  ⟨(some 2), (.assign (.const (.pointer none))), 29, "", #[], none⟩,
  ⟨(some 3), (.assign (.const (.int .i64 0))), 47, "", #[], none⟩]
def F15.r1 : List Oper := [
  ⟨(some 4), (.move (.tmp 0)), 3, "", #[], none⟩,
  ⟨(some 5), (.binOp .lss 3 (.tmp 4) (.const (.int .i64 1)) 3), 4, "", #[], none⟩,
  ⟨(some 6), (.move (.tmp 5)), 4, "", #[], none⟩,
  ⟨(some 7), (.move (.tmp 0)), 3, "", #[], (some (6, false))⟩,
  ⟨(some 8), (.binOp .gtr 3 (.tmp 7) (.const (.int .i64 64)) 3), 4, "", #[], (some (6, false))⟩,
  ⟨(some 9), (.pick (.tmp 6) (.const (.bool true)) (.tmp 8)), 4, "", #[], none⟩]
def F15.r2 : List Oper := [
  ⟨(some 2), (.assign (.const (.pointer none))), 29, "", #[], none⟩,
  ⟨(some 3), (.assign (.const (.int .i64 1))), 47, "", #[], none⟩]
def F15.r3 : List Oper := [
  ⟨(some 10), (.move (.tmp 0)), 3, "", #[], none⟩,
  ⟨(some 11), (.makeMap 90 none), 90, "", #[⟨0, .chain⟩], none⟩,
  ⟨(some 12), (.makeMap 91 none), 91, "", #[⟨0, .chain⟩], none⟩,
  ⟨(some 13), (.build 94 #[(0, (.tmp 10)), (2, (.tmp 11)), (3, (.tmp 12))]), 94, "", #[], none⟩,
  ⟨(some 14), (.box 94 (.tmp 13)), 29, "", #[⟨0, .chain⟩], none⟩,
  ⟨(some 2), (.assign (.tmp 14)), 29, "", #[], none⟩,
  ⟨(some 3), (.assign (.const (.int .i64 0))), 47, "", #[], none⟩]
def F15.t3 : Cd := (.seq (.region 3 F15.r3.toArray false) .ret)
theorem F15.t3_eq {P : Program} {Q : Post} {e : FA} {w : World} {θ : Tag (F15.t3, Q, e, w)} : cwE P F15.t3 Q e w θ = cwE P (.seq (.region 3 F15.r3.toArray false) .ret) Q e w := rfl
def F15.code : Cd := (.seq (.region 0 F15.r0.toArray false) (.seq (.seq (.region 1 F15.r1.toArray false) (.cond (.tmp 9) (.seq (.region 2 F15.r2.toArray false) .ret) .skip)) F15.t3))
theorem F15.calls {args : Array Value} {w : World} {R : Ending → World → Prop} (hn : args.size ≤ 15) (h : cwE Try.prog F15.code (fnP Try.prog #[(.tmp 2), (.tmp 3)] R) (entry args) w) : Calls Try.prog 15 args w R :=
  calls_of_cwE (types := Try.prog.types) follows Try.func15 F15.code rfl (by kernel_rfl) hn h

def F21.r0 : List Oper := [
  ⟨(some 2), (.assign (.const (.slice none 0 0))), 31, "", #[], none⟩]
def F21.r1 : List Oper := [
  ⟨(some 3), (.assign (.const (.slice none 0 0))), 31, "", #[], none⟩]
def F21.r2 : List Oper := [
  ⟨(some 6), (.move (.tmp 0)), 29, "", #[], none⟩,
  ⟨(some 7), (.call ⟨(.value (.func 52)), #[(.tmp 6)], #[29]⟩), 31, "", #[⟨0, .chain⟩], none⟩,
  ⟨(some 8), (.call ⟨(.builtin .len), #[(.tmp 7)], #[31]⟩), 3, "", #[], none⟩,
  ⟨(some 9), (.move (.const (.int .i64 0))), 3, "", #[], none⟩]
def F21.r3 : List Oper := [
  ⟨(some 10), (.binOp .lss 3 (.tmp 9) (.tmp 8) 3), 0, "", #[], none⟩]
def F21.r4 : List Oper := [
  ⟨(some 11), (.indexAddr 31 (.tmp 7) (.tmp 9)), 0, "", #[], none⟩,
  ⟨(some 12), (.load 3 (.tmp 11)), 3, "", #[⟨0, .data⟩], none⟩,
  ⟨(some 5), (.assign (.tmp 12)), 3, "", #[], none⟩]
def F21.r5 : List Oper := [
  ⟨(some 13), (.move (.tmp 0)), 29, "", #[], none⟩,
  ⟨(some 14), (.nilCheck (.tmp 13)), 0, "", #[], none⟩,
  ⟨(some 15), (.fieldAddr 94 (.tmp 14) 2), 0, "", #[], none⟩,
  ⟨(some 16), (.load 90 (.tmp 15)), 90, "", #[⟨0, .data⟩], none⟩,
  ⟨(some 17), (.move (.tmp 5)), 3, "", #[], none⟩,
  ⟨(some 18), (.lookup 90 (.tmp 16) (.tmp 17) false), 95, "", #[⟨0, .data⟩], none⟩,
  ⟨(some 19), (.nilCheck (.tmp 18)), 0, "", #[], none⟩,
  ⟨(some 20), (.fieldAddr 98 (.tmp 19) 2), 0, "", #[], none⟩,
  ⟨(some 21), (.load 96 (.tmp 20)), 96, "", #[⟨0, .data⟩], none⟩,
  ⟨(some 22), (.binOp .eql 96 (.tmp 21) (.const (.int .u8 1)) 96), 4, "", #[], none⟩]
def F21.r6 : List Oper := [
  ⟨(some 23), (.move (.tmp 3)), 31, "", #[], none⟩,
  ⟨(some 24), (.move (.tmp 5)), 3, "", #[], none⟩,
  ⟨(some 25), (.buildSlice 31 1 #[(0, (.tmp 24))]), 31, "", #[⟨0, .chain⟩], none⟩,
  ⟨(some 26), (.call ⟨(.builtin .append), #[(.tmp 23), (.tmp 25)], #[31, 31]⟩), 31, "", #[⟨0, .chain⟩], none⟩,
  ⟨(some 3), (.assign (.tmp 26)), 31, "", #[], none⟩]
def F21.r7 : List Oper := [
  ⟨(some 27), (.binOp .add 3 (.tmp 9) (.const (.int .i64 1)) 3), 3, "", #[], none⟩,
  ⟨(some 9), (.move (.tmp 27)), 3, "", #[], none⟩]
def F21.r8 : List Oper := [
  ⟨(some 28), (.move (.tmp 0)), 29, "", #[], none⟩,
  ⟨(some 29), (.nilCheck (.tmp 28)), 0, "", #[], none⟩,
  ⟨(some 30), (.fieldAddr 94 (.tmp 29) 2), 0, "", #[], none⟩,
  ⟨(some 31), (.load 90 (.tmp 30)), 90, "", #[⟨0, .data⟩], none⟩,
  ⟨none, (.call ⟨(.builtin .clear), #[(.tmp 31)], #[90]⟩), 0, "", #[⟨0, .chain⟩], none⟩]
def F21.r9 : List Oper := [
  ⟨(some 32), (.move (.tmp 0)), 29, "", #[], none⟩,
  ⟨(some 33), (.nilCheck (.tmp 32)), 0, "", #[], none⟩,
  ⟨(some 34), (.fieldAddr 94 (.tmp 33) 3), 0, "", #[], none⟩,
  ⟨(some 35), (.load 91 (.tmp 34)), 91, "", #[⟨0, .data⟩], none⟩,
  ⟨none, (.call ⟨(.builtin .clear), #[(.tmp 35)], #[91]⟩), 0, "", #[⟨0, .chain⟩], none⟩]
def F21.r10 : List Oper := [
  ⟨(some 36), (.move (.tmp 0)), 29, "", #[], none⟩,
  ⟨(some 37), (.nilCheck (.tmp 36)), 0, "", #[], none⟩,
  ⟨(some 38), (.fieldAddr 94 (.tmp 37) 4), 0, "", #[], none⟩,
  ⟨none, (.store 92 (.tmp 38) (.const (.slice none 0 0))), 0, "", #[⟨0, .chain⟩], none⟩]
def F21.r11 : List Oper := [
  ⟨(some 39), (.move (.tmp 3)), 31, "", #[], none⟩,
  ⟨(some 2), (.assign (.tmp 39)), 31, "", #[], none⟩]
def F21.t7 : Cd := (.region 7 F21.r7.toArray false)
theorem F21.t7_eq {P : Program} {Q : Post} {e : FA} {w : World} {θ : Tag (F21.t7, Q, e, w)} : cwE P F21.t7 Q e w θ = cwE P (.region 7 F21.r7.toArray false) Q e w := rfl
def F21.t4 : Cd := (.seq (.block 1 (.seq (.region 4 F21.r4.toArray false) (.seq (.region 5 F21.r5.toArray false) (.cond (.tmp 22) (.region 6 F21.r6.toArray false) .skip)))) F21.t7)
theorem F21.t4_eq {P : Program} {Q : Post} {e : FA} {w : World} {θ : Tag (F21.t4, Q, e, w)} : cwE P F21.t4 Q e w θ = cwE P (.seq (.block 1 (.seq (.region 4 F21.r4.toArray false) (.seq (.region 5 F21.r5.toArray false) (.cond (.tmp 22) (.region 6 F21.r6.toArray false) .skip)))) F21.t7) Q e w := rfl
def F21.t8 : Cd := (.seq (.region 8 F21.r8.toArray false) (.seq (.region 9 F21.r9.toArray false) (.seq (.region 10 F21.r10.toArray false) (.seq (.region 11 F21.r11.toArray false) .ret))))
theorem F21.t8_eq {P : Program} {Q : Post} {e : FA} {w : World} {θ : Tag (F21.t8, Q, e, w)} : cwE P F21.t8 Q e w θ = cwE P (.seq (.region 8 F21.r8.toArray false) (.seq (.region 9 F21.r9.toArray false) (.seq (.region 10 F21.r10.toArray false) (.seq (.region 11 F21.r11.toArray false) .ret)))) Q e w := rfl
def F21.code : Cd := (.seq (.region 0 F21.r0.toArray false) (.seq (.region 1 F21.r1.toArray false) (.seq (.seq (.region 2 F21.r2.toArray false) (.block 0 (.loop (.seq (.region 3 F21.r3.toArray false) (.seq (.cond (.tmp 10) .skip (.exit 0)) F21.t4))))) F21.t8)))
theorem F21.calls {args : Array Value} {w : World} {R : Ending → World → Prop} (hn : args.size ≤ 40) (h : cwE Try.prog F21.code (fnP Try.prog #[(.tmp 2)] R) (entry args) w) : Calls Try.prog 21 args w R :=
  calls_of_cwE (types := Try.prog.types) follows Try.func21 F21.code rfl (by kernel_rfl) hn h

def F22.r0 : List Oper := [
  ⟨(some 2), (.alloc 77), 0, "", #[⟨0, .chain⟩], none⟩,
  ⟨(some 3), (.assign (.const (.int .i64 0))), 3, "", #[], none⟩,
  ⟨(some 4), (.assign (.const (.bool false))), 4, "", #[], none⟩]
def F22.r1 : List Oper := [
  ⟨(some 7), (.move (.tmp 0)), 29, "", #[], none⟩,
  ⟨(some 8), (.nilCheck (.tmp 7)), 0, "", #[], none⟩,
  ⟨(some 9), (.fieldAddr 94 (.tmp 8) 4), 0, "", #[], none⟩,
  ⟨(some 10), (.load 92 (.tmp 9)), 92, "", #[⟨0, .data⟩], none⟩,
  ⟨(some 11), (.call ⟨(.builtin .len), #[(.tmp 10)], #[92]⟩), 3, "", #[], none⟩,
  ⟨(some 12), (.binOp .eql 3 (.tmp 11) (.const (.int .i64 0)) 3), 4, "", #[], none⟩]
def F22.r2 : List Oper := [
  ⟨(some 13), (.build 77 #[]), 77, "", #[], none⟩,
  ⟨none, (.store 77 (.tmp 2) (.tmp 13)), 0, "", #[⟨0, .chain⟩], none⟩,
  ⟨(some 3), (.assign (.const (.int .i64 0))), 3, "", #[], none⟩,
  ⟨(some 4), (.assign (.const (.bool false))), 4, "", #[], none⟩]
def F22.r3 : List Oper := [
  ⟨(some 14), (.move (.tmp 0)), 29, "", #[], none⟩,
  ⟨(some 15), (.nilCheck (.tmp 14)), 0, "", #[], none⟩,
  ⟨(some 16), (.fieldAddr 94 (.tmp 15) 4), 0, "", #[], none⟩,
  ⟨(some 17), (.load 92 (.tmp 16)), 92, "", #[⟨0, .data⟩], none⟩,
  ⟨(some 18), (.indexAddr 92 (.tmp 17) (.const (.int .i64 0))), 0, "", #[], none⟩,
  ⟨(some 19), (.load 104 (.tmp 18)), 104, "", #[⟨0, .data⟩], none⟩,
  ⟨(some 5), (.alloc 104), 0, "", #[⟨0, .chain⟩], none⟩,
  ⟨none, (.store 104 (.tmp 5) (.tmp 19)), 0, "", #[⟨0, .chain⟩], none⟩]
def F22.r4 : List Oper := [
  ⟨(some 20), (.move (.tmp 0)), 29, "", #[], none⟩,
  ⟨(some 21), (.move (.tmp 0)), 29, "", #[], none⟩,
  ⟨(some 22), (.nilCheck (.tmp 21)), 0, "", #[], none⟩,
  ⟨(some 23), (.fieldAddr 94 (.tmp 22) 4), 0, "", #[], none⟩,
  ⟨(some 24), (.load 92 (.tmp 23)), 92, "", #[⟨0, .data⟩], none⟩,
  ⟨(some 25), (.slice 92 (.tmp 24) (some (.const (.int .i64 1))) none none), 92, "", #[], none⟩,
  ⟨(some 26), (.nilCheck (.tmp 20)), 0, "", #[], none⟩,
  ⟨(some 27), (.fieldAddr 94 (.tmp 26) 4), 0, "", #[], none⟩,
  ⟨none, (.store 92 (.tmp 27) (.tmp 25)), 0, "", #[⟨0, .chain⟩], none⟩]
def F22.r5 : List Oper := [
  ⟨(some 28), (.move (.tmp 0)), 29, "", #[], none⟩,
  ⟨(some 29), (.nilCheck (.tmp 28)), 0, "", #[], none⟩,
  ⟨(some 30), (.fieldAddr 94 (.tmp 29) 2), 0, "", #[], none⟩,
  ⟨(some 32), (.fieldAddr 104 (.tmp 5) 1), 0, "", #[], none⟩,
  ⟨(some 31), (.load 90 (.tmp 30)), 90, "", #[⟨0, .data⟩], none⟩,
  ⟨(some 33), (.load 3 (.tmp 32)), 3, "", #[⟨0, .data⟩], none⟩,
  ⟨(some 34), (.lookup 90 (.tmp 31) (.tmp 33) false), 95, "", #[⟨0, .data⟩], none⟩,
  ⟨(some 6), (.assign (.tmp 34)), 95, "", #[], none⟩]
def F22.r6 : List Oper := [
  ⟨(some 35), (.fieldAddr 104 (.tmp 5) 2), 0, "", #[], none⟩,
  ⟨(some 36), (.load 4 (.tmp 35)), 4, "", #[⟨0, .data⟩], none⟩,
  ⟨(some 37), (.move (.tmp 36)), 4, "", #[], none⟩,
  ⟨(some 38), (.move (.tmp 6)), 95, "", #[], (some (37, true))⟩,
  ⟨(some 39), (.binOp .neq 95 (.tmp 38) (.const (.pointer none)) 95), 4, "", #[], (some (37, true))⟩,
  ⟨(some 40), (.pick (.tmp 37) (.tmp 39) (.const (.bool false))), 4, "", #[], none⟩]
def F22.r7 : List Oper := [
  ⟨(some 41), (.move (.tmp 0)), 29, "", #[], none⟩,
  ⟨(some 42), (.move (.tmp 6)), 95, "", #[], none⟩,
  ⟨(some 43), (.nilCheck (.tmp 42)), 0, "", #[], none⟩,
  ⟨(some 44), (.fieldAddr 98 (.tmp 43) 5), 0, "", #[], none⟩,
  ⟨(some 45), (.load 3 (.tmp 44)), 3, "", #[⟨0, .data⟩], none⟩,
  ⟨(some 46), (.call ⟨(.value (.func 53)), #[(.tmp 41), (.tmp 45)], #[29, 3]⟩), 0, "", #[⟨0, .chain⟩], none⟩]
def F22.r8 : List Oper := [
  ⟨(some 47), (.move (.tmp 0)), 29, "", #[], none⟩,
  ⟨(some 48), (.fieldAddr 104 (.tmp 5) 1), 0, "", #[], none⟩,
  ⟨(some 49), (.load 3 (.tmp 48)), 3, "", #[⟨0, .data⟩], none⟩,
  ⟨(some 50), (.call ⟨(.value (.func 53)), #[(.tmp 47), (.tmp 49)], #[29, 3]⟩), 0, "", #[⟨0, .chain⟩], none⟩]
def F22.r9 : List Oper := [
  ⟨(some 51), (.fieldAddr 104 (.tmp 5) 0), 0, "", #[], none⟩,
  ⟨(some 53), (.fieldAddr 104 (.tmp 5) 1), 0, "", #[], none⟩,
  ⟨(some 52), (.load 77 (.tmp 51)), 77, "", #[⟨16, .data⟩], none⟩,
  ⟨(some 54), (.load 3 (.tmp 53)), 3, "", #[⟨0, .data⟩], none⟩,
  ⟨none, (.store 77 (.tmp 2) (.tmp 52)), 0, "", #[⟨4, .chain⟩], none⟩,
  ⟨(some 3), (.assign (.tmp 54)), 3, "", #[], none⟩,
  ⟨(some 4), (.assign (.const (.bool true))), 4, "", #[], none⟩]
def F22.t9 : Cd := (.seq (.region 9 F22.r9.toArray true) .ret)
theorem F22.t9_eq {P : Program} {Q : Post} {e : FA} {w : World} {θ : Tag (F22.t9, Q, e, w)} : cwE P F22.t9 Q e w θ = cwE P (.seq (.region 9 F22.r9.toArray true) .ret) Q e w := rfl
def F22.t3 : Cd := (.seq (.region 3 F22.r3.toArray false) (.seq (.region 4 F22.r4.toArray false) (.seq (.seq (.region 5 F22.r5.toArray true) (.seq (.region 6 F22.r6.toArray false) (.cond (.tmp 40) (.seq (.region 7 F22.r7.toArray false) (.region 8 F22.r8.toArray false)) .skip))) F22.t9)))
theorem F22.t3_eq {P : Program} {Q : Post} {e : FA} {w : World} {θ : Tag (F22.t3, Q, e, w)} : cwE P F22.t3 Q e w θ = cwE P (.seq (.region 3 F22.r3.toArray false) (.seq (.region 4 F22.r4.toArray false) (.seq (.seq (.region 5 F22.r5.toArray true) (.seq (.region 6 F22.r6.toArray false) (.cond (.tmp 40) (.seq (.region 7 F22.r7.toArray false) (.region 8 F22.r8.toArray false)) .skip))) F22.t9))) Q e w := rfl
def F22.code : Cd := (.seq (.region 0 F22.r0.toArray false) (.seq (.seq (.region 1 F22.r1.toArray false) (.cond (.tmp 12) (.seq (.region 2 F22.r2.toArray false) .ret) .skip)) F22.t3))
theorem F22.calls {args : Array Value} {w : World} {R : Ending → World → Prop} (hn : args.size ≤ 55) (h : cwE Try.prog F22.code (fnP Try.prog #[(.cell 2 77), (.tmp 3), (.tmp 4)] R) (entry args) w) : Calls Try.prog 22 args w R :=
  calls_of_cwE (types := Try.prog.types) follows Try.func22 F22.code rfl (by kernel_rfl) hn h

def F23.r0 : List Oper := [
  ⟨(some 4), (.assign (.const (.bool false))), 4, "", #[], none⟩]
def F23.r1 : List Oper := [
  ⟨(some 6), (.move (.tmp 0)), 29, "", #[], none⟩,
  ⟨(some 7), (.nilCheck (.tmp 6)), 0, "", #[], none⟩,
  ⟨(some 8), (.fieldAddr 94 (.tmp 7) 2), 0, "", #[], none⟩,
  ⟨(some 9), (.load 90 (.tmp 8)), 90, "", #[⟨0, .data⟩], none⟩,
  ⟨(some 10), (.move (.tmp 1)), 3, "", #[], none⟩,
  ⟨(some 11), (.lookup 90 (.tmp 9) (.tmp 10) false), 95, "", #[⟨0, .data⟩], none⟩,
  ⟨(some 5), (.assign (.tmp 11)), 95, "", #[], none⟩]
def F23.r2 : List Oper := [
  ⟨(some 12), (.move (.tmp 5)), 95, "", #[], none⟩,
  ⟨(some 13), (.binOp .eql 95 (.tmp 12) (.const (.pointer none)) 95), 4, "", #[], none⟩,
  ⟨(some 14), (.move (.tmp 13)), 4, "", #[], none⟩,
  ⟨(some 15), (.move (.tmp 5)), 95, "", #[], (some (14, false))⟩,
  ⟨(some 16), (.nilCheck (.tmp 15)), 0, "", #[], (some (14, false))⟩,
  ⟨(some 17), (.fieldAddr 98 (.tmp 16) 2), 0, "", #[], (some (14, false))⟩,
  ⟨(some 18), (.load 96 (.tmp 17)), 96, "", #[⟨0, .data⟩], (some (14, false))⟩,
  ⟨(some 19), (.binOp .neq 96 (.tmp 18) (.const (.int .u8 1)) 96), 4, "", #[], (some (14, false))⟩,
  ⟨(some 20), (.pick (.tmp 14) (.const (.bool true)) (.tmp 19)), 4, "", #[], none⟩]
def F23.r3 : List Oper := [
  ⟨(some 4), (.assign (.const (.bool false))), 4, "", #[], none⟩]
def F23.r4 : List Oper := [
  ⟨(some 21), (.move (.tmp 5)), 95, "", #[], none⟩,
  ⟨(some 22), (.nilCheck (.tmp 21)), 0, "", #[], none⟩,
  ⟨(some 23), (.fieldAddr 98 (.tmp 22) 2), 0, "", #[], none⟩,
  ⟨none, (.store 96 (.tmp 23) (.const (.int .u8 3))), 0, "", #[⟨0, .chain⟩], none⟩]
def F23.r5 : List Oper := [
  ⟨(some 4), (.assign (.const (.bool true))), 4, "", #[], none⟩]
def F23.t4 : Cd := (.seq (.region 4 F23.r4.toArray false) (.seq (.region 5 F23.r5.toArray false) .ret))
theorem F23.t4_eq {P : Program} {Q : Post} {e : FA} {w : World} {θ : Tag (F23.t4, Q, e, w)} : cwE P F23.t4 Q e w θ = cwE P (.seq (.region 4 F23.r4.toArray false) (.seq (.region 5 F23.r5.toArray false) .ret)) Q e w := rfl
def F23.code : Cd := (.seq (.region 0 F23.r0.toArray false) (.seq (.region 1 F23.r1.toArray false) (.seq (.seq (.region 2 F23.r2.toArray false) (.cond (.tmp 20) (.seq (.region 3 F23.r3.toArray false) .ret) .skip)) F23.t4)))
theorem F23.calls {args : Array Value} {w : World} {R : Ending → World → Prop} (hn : args.size ≤ 24) (h : cwE Try.prog F23.code (fnP Try.prog #[(.tmp 4)] R) (entry args) w) : Calls Try.prog 23 args w R :=
  calls_of_cwE (types := Try.prog.types) follows Try.func23 F23.code rfl (by kernel_rfl) hn h

def F24.r0 : List Oper := [
  ⟨(some 5), (.box 77 (.tmp 2)), 0, "", #[⟨0, .chain⟩], none⟩,
  ⟨(some 6), (.assign (.const (.int .i64 0))), 47, "", #[], none⟩]
def F24.r1 : List Oper := [
  ⟨(some 12), (.move (.tmp 0)), 29, "", #[], none⟩,
  ⟨(some 13), (.nilCheck (.tmp 12)), 0, "", #[], none⟩,
  ⟨(some 14), (.fieldAddr 94 (.tmp 13) 2), 0, "", #[], none⟩,
  ⟨(some 15), (.load 90 (.tmp 14)), 90, "", #[⟨0, .data⟩], none⟩,
  ⟨(some 16), (.move (.tmp 1)), 3, "", #[], none⟩,
  ⟨(some 17), (.lookup 90 (.tmp 15) (.tmp 16) false), 95, "", #[⟨0, .data⟩], none⟩,
  ⟨(some 7), (.assign (.tmp 17)), 95, "", #[], none⟩]
def F24.r2 : List Oper := [
  ⟨(some 18), (.move (.tmp 7)), 95, "", #[], none⟩,
  ⟨(some 19), (.binOp .eql 95 (.tmp 18) (.const (.pointer none)) 95), 4, "", #[], none⟩,
  ⟨(some 20), (.move (.tmp 19)), 4, "", #[], none⟩,
  ⟨(some 21), (.move (.tmp 7)), 95, "", #[], (some (20, false))⟩,
  ⟨(some 22), (.nilCheck (.tmp 21)), 0, "", #[], (some (20, false))⟩,
  ⟨(some 23), (.fieldAddr 98 (.tmp 22) 2), 0, "", #[], (some (20, false))⟩,
  ⟨(some 24), (.load 96 (.tmp 23)), 96, "", #[⟨0, .data⟩], (some (20, false))⟩,
  ⟨(some 25), (.binOp .neq 96 (.tmp 24) (.const (.int .u8 3)) 96), 4, "", #[], (some (20, false))⟩,
  ⟨(some 26), (.pick (.tmp 20) (.const (.bool true)) (.tmp 25)), 4, "", #[], none⟩]
def F24.r3 : List Oper := [
  ⟨(some 6), (.assign (.const (.int .i64 142))), 47, "", #[], none⟩]
def F24.r4 : List Oper := [
  ⟨(some 27), (.move (.tmp 7)), 95, "", #[], none⟩,
  ⟨(some 28), (.nilCheck (.tmp 27)), 0, "", #[], none⟩,
  ⟨(some 29), (.fieldAddr 98 (.tmp 28) 2), 0, "", #[], none⟩,
  ⟨none, (.store 96 (.tmp 29) (.const (.int .u8 4))), 0, "", #[⟨0, .chain⟩], none⟩]
def F24.r5 : List Oper := [
  ⟨(some 30), (.load 77 (.tmp 5)), 77, "", #[⟨0, .data⟩], none⟩,
  ⟨(some 31), (.call ⟨(.value (.func 32)), #[(.tmp 30)], #[77]⟩), 77, "", #[⟨0, .chain⟩], none⟩,
  ⟨none, (.store 77 (.tmp 5) (.tmp 31)), 0, "", #[⟨0, .chain⟩], none⟩]
def F24.r6 : List Oper := [
  ⟨(some 32), (.move (.tmp 7)), 95, "", #[], none⟩,
  ⟨(some 33), (.nilCheck (.tmp 32)), 0, "", #[], none⟩,
  ⟨(some 34), (.fieldAddr 98 (.tmp 33) 1), 0, "", #[], none⟩,
  ⟨(some 35), (.load 37 (.tmp 34)), 37, "", #[⟨0, .data⟩], none⟩,
  ⟨(some 36), (.fieldAddr 77 (.tmp 5) 1), 0, "", #[], none⟩,
  ⟨none, (.store 37 (.tmp 36) (.tmp 35)), 0, "", #[⟨0, .chain⟩], none⟩]
def F24.r7 : List Oper := [
  ⟨(some 37), (.move (.tmp 0)), 29, "", #[], none⟩,
  ⟨(some 38), (.move (.tmp 0)), 29, "", #[], none⟩,
  ⟨(some 39), (.nilCheck (.tmp 38)), 0, "", #[], none⟩,
  ⟨(some 40), (.fieldAddr 94 (.tmp 39) 4), 0, "", #[], none⟩,
  ⟨(some 43), (.move (.tmp 1)), 3, "", #[], none⟩,
  ⟨(some 41), (.load 92 (.tmp 40)), 92, "", #[⟨4608, .data⟩], none⟩,
  ⟨(some 42), (.load 77 (.tmp 5)), 77, "", #[⟨4864, .data⟩], none⟩,
  ⟨(some 44), (.build 104 #[(0, (.tmp 42)), (1, (.tmp 43)), (2, (.const (.bool true)))]), 104, "", #[], none⟩,
  ⟨(some 45), (.buildSlice 92 1 #[(0, (.tmp 44))]), 92, "", #[⟨8, .chain⟩], none⟩,
  ⟨(some 46), (.call ⟨(.builtin .append), #[(.tmp 41), (.tmp 45)], #[92, 92]⟩), 92, "", #[⟨9, .chain⟩], none⟩,
  ⟨(some 47), (.nilCheck (.tmp 37)), 0, "", #[], none⟩,
  ⟨(some 48), (.fieldAddr 94 (.tmp 47) 4), 0, "", #[], none⟩,
  ⟨none, (.store 92 (.tmp 48) (.tmp 46)), 0, "", #[⟨12, .chain⟩], none⟩]
def F24.r8 : List Oper := [
  ⟨(some 49), (.makeMap 122 none), 122, "", #[⟨0, .chain⟩], none⟩,
  ⟨(some 50), (.move (.tmp 1)), 3, "", #[], none⟩,
  ⟨none, (.insert 122 (.tmp 49) (.tmp 50) (.const (.bool true))), 0, "", #[⟨0, .chain⟩], none⟩,
  ⟨(some 51), (.move (.tmp 49)), 122, "", #[], none⟩,
  ⟨(some 8), (.assign (.tmp 51)), 122, "", #[], none⟩]
def F24.r9 : List Oper := [
  ⟨(some 52), (.move (.tmp 0)), 29, "", #[], none⟩,
  ⟨(some 53), (.call ⟨(.value (.func 52)), #[(.tmp 52)], #[29]⟩), 31, "", #[⟨0, .chain⟩], none⟩,
  ⟨(some 54), (.call ⟨(.builtin .len), #[(.tmp 53)], #[31]⟩), 3, "", #[], none⟩,
  ⟨(some 55), (.move (.const (.int .i64 0))), 3, "", #[], none⟩]
def F24.r10 : List Oper := [
  ⟨(some 56), (.binOp .lss 3 (.tmp 55) (.tmp 54) 3), 0, "", #[], none⟩]
def F24.r11 : List Oper := [
  ⟨(some 57), (.indexAddr 31 (.tmp 53) (.tmp 55)), 0, "", #[], none⟩,
  ⟨(some 58), (.load 3 (.tmp 57)), 3, "", #[⟨0, .data⟩], none⟩,
  ⟨(some 10), (.assign (.tmp 58)), 3, "", #[], none⟩]
def F24.r12 : List Oper := [
  ⟨(some 59), (.move (.tmp 0)), 29, "", #[], none⟩,
  ⟨(some 60), (.nilCheck (.tmp 59)), 0, "", #[], none⟩,
  ⟨(some 61), (.fieldAddr 94 (.tmp 60) 2), 0, "", #[], none⟩,
  ⟨(some 62), (.load 90 (.tmp 61)), 90, "", #[⟨0, .data⟩], none⟩,
  ⟨(some 63), (.move (.tmp 10)), 3, "", #[], none⟩,
  ⟨(some 64), (.lookup 90 (.tmp 62) (.tmp 63) false), 95, "", #[⟨0, .data⟩], none⟩,
  ⟨(some 11), (.assign (.tmp 64)), 95, "", #[], none⟩]
def F24.r13 : List Oper := [
  ⟨(some 65), (.move (.tmp 11)), 95, "", #[], none⟩,
  ⟨(some 66), (.nilCheck (.tmp 65)), 0, "", #[], none⟩,
  ⟨(some 67), (.fieldAddr 98 (.tmp 66) 2), 0, "", #[], none⟩,
  ⟨(some 68), (.load 96 (.tmp 67)), 96, "", #[⟨0, .data⟩], none⟩,
  ⟨(some 69), (.binOp .eql 96 (.tmp 68) (.const (.int .u8 5)) 96), 4, "", #[], none⟩,
  ⟨(some 70), (.move (.tmp 69)), 4, "", #[], none⟩,
  ⟨(some 71), (.move (.tmp 8)), 122, "", #[], (some (70, true))⟩,
  ⟨(some 72), (.move (.tmp 11)), 95, "", #[], (some (70, true))⟩,
  ⟨(some 73), (.nilCheck (.tmp 72)), 0, "", #[], (some (70, true))⟩,
  ⟨(some 74), (.fieldAddr 98 (.tmp 73) 4), 0, "", #[], (some (70, true))⟩,
  ⟨(some 75), (.load 3 (.tmp 74)), 3, "", #[⟨0, .data⟩], (some (70, true))⟩,
  ⟨(some 76), (.lookup 122 (.tmp 71) (.tmp 75) false), 4, "", #[⟨0, .data⟩], (some (70, true))⟩,
  ⟨(some 77), (.pick (.tmp 70) (.tmp 76) (.const (.bool false))), 4, "", #[], none⟩]
def F24.r14 : List Oper := [
  ⟨(some 78), (.move (.tmp 8)), 122, "", #[], none⟩,
  ⟨(some 79), (.move (.tmp 10)), 3, "", #[], none⟩,
  ⟨none, (.mapUpdate 122 (.tmp 78) (.tmp 79) (.const (.bool true))), 0, "", #[⟨0, .chain⟩], none⟩]
def F24.r15 : List Oper := [
  ⟨(some 80), (.move (.tmp 0)), 29, "", #[], none⟩,
  ⟨(some 81), (.move (.tmp 11)), 95, "", #[], none⟩,
  ⟨(some 82), (.call ⟨(.value (.func 54)), #[(.tmp 80), (.tmp 81)], #[29, 95]⟩), 0, "", #[⟨0, .chain⟩], none⟩]
def F24.r16 : List Oper := [
  ⟨(some 83), (.binOp .add 3 (.tmp 55) (.const (.int .i64 1)) 3), 3, "", #[], none⟩,
  ⟨(some 55), (.move (.tmp 83)), 3, "", #[], none⟩]
def F24.r17 : List Oper := [
  ⟨(some 6), (.assign (.const (.int .i64 0))), 47, "", #[], none⟩]
def F24.t16 : Cd := (.region 16 F24.r16.toArray false)
theorem F24.t16_eq {P : Program} {Q : Post} {e : FA} {w : World} {θ : Tag (F24.t16, Q, e, w)} : cwE P F24.t16 Q e w θ = cwE P (.region 16 F24.r16.toArray false) Q e w := rfl
def F24.t11 : Cd := (.seq (.block 1 (.seq (.region 11 F24.r11.toArray false) (.seq (.region 12 F24.r12.toArray false) (.seq (.region 13 F24.r13.toArray false) (.cond (.tmp 77) (.seq (.region 14 F24.r14.toArray false) (.region 15 F24.r15.toArray false)) .skip))))) F24.t16)
theorem F24.t11_eq {P : Program} {Q : Post} {e : FA} {w : World} {θ : Tag (F24.t11, Q, e, w)} : cwE P F24.t11 Q e w θ = cwE P (.seq (.block 1 (.seq (.region 11 F24.r11.toArray false) (.seq (.region 12 F24.r12.toArray false) (.seq (.region 13 F24.r13.toArray false) (.cond (.tmp 77) (.seq (.region 14 F24.r14.toArray false) (.region 15 F24.r15.toArray false)) .skip))))) F24.t16) Q e w := rfl
def F24.t17 : Cd := (.seq (.region 17 F24.r17.toArray false) .ret)
theorem F24.t17_eq {P : Program} {Q : Post} {e : FA} {w : World} {θ : Tag (F24.t17, Q, e, w)} : cwE P F24.t17 Q e w θ = cwE P (.seq (.region 17 F24.r17.toArray false) .ret) Q e w := rfl
def F24.t4 : Cd := (.seq (.region 4 F24.r4.toArray false) (.seq (.region 5 F24.r5.toArray false) (.seq (.region 6 F24.r6.toArray false) (.seq (.region 7 F24.r7.toArray true) (.seq (.region 8 F24.r8.toArray false) (.seq (.seq (.region 9 F24.r9.toArray false) (.block 0 (.loop (.seq (.region 10 F24.r10.toArray false) (.seq (.cond (.tmp 56) .skip (.exit 0)) F24.t11))))) F24.t17))))))
theorem F24.t4_eq {P : Program} {Q : Post} {e : FA} {w : World} {θ : Tag (F24.t4, Q, e, w)} : cwE P F24.t4 Q e w θ = cwE P (.seq (.region 4 F24.r4.toArray false) (.seq (.region 5 F24.r5.toArray false) (.seq (.region 6 F24.r6.toArray false) (.seq (.region 7 F24.r7.toArray true) (.seq (.region 8 F24.r8.toArray false) (.seq (.seq (.region 9 F24.r9.toArray false) (.block 0 (.loop (.seq (.region 10 F24.r10.toArray false) (.seq (.cond (.tmp 56) .skip (.exit 0)) F24.t11))))) F24.t17)))))) Q e w := rfl
def F24.code : Cd := (.seq (.region 0 F24.r0.toArray false) (.seq (.region 1 F24.r1.toArray false) (.seq (.seq (.region 2 F24.r2.toArray false) (.cond (.tmp 26) (.seq (.region 3 F24.r3.toArray false) .ret) .skip)) F24.t4)))
theorem F24.calls {args : Array Value} {w : World} {R : Ending → World → Prop} (hn : args.size ≤ 84) (h : cwE Try.prog F24.code (fnP Try.prog #[(.tmp 6)] R) (entry args) w) : Calls Try.prog 24 args w R :=
  calls_of_cwE (types := Try.prog.types) follows Try.func24 F24.code rfl (by kernel_rfl) hn h

def F25.r0 : List Oper := [
  ⟨(some 6), (.assign (.const (.int .i64 0))), 47, "", #[], none⟩]
def F25.r1 : List Oper := [
  ⟨(some 7), (.move (.tmp 0)), 29, "", #[], none⟩,
  ⟨(some 8), (.move (.tmp 2)), 3, "", #[], none⟩,
  ⟨(some 9), (.move (.tmp 1)), 37, "", #[], none⟩,
  ⟨(some 10), (.build 98 #[(0, (.tmp 8)), (1, (.tmp 9)), (2, (.const (.int .u8 1)))]), 98, "", #[], none⟩,
  ⟨(some 11), (.call ⟨(.value (.func 55)), #[(.tmp 7), (.tmp 10)], #[29, 98]⟩), 47, "", #[⟨0, .chain⟩], none⟩,
  ⟨(some 6), (.assign (.tmp 11)), 47, "", #[], none⟩]
def F25.code : Cd := (.seq (.region 0 F25.r0.toArray false) (.seq (.region 1 F25.r1.toArray false) .ret))
theorem F25.calls {args : Array Value} {w : World} {R : Ending → World → Prop} (hn : args.size ≤ 12) (h : cwE Try.prog F25.code (fnP Try.prog #[(.tmp 6)] R) (entry args) w) : Calls Try.prog 25 args w R :=
  calls_of_cwE (types := Try.prog.types) follows Try.func25 F25.code rfl (by kernel_rfl) hn h

def F26.r0 : List Oper := [
  ⟨(some 4), (.assign (.const (.int .i64 0))), 3, "", #[], none⟩]
def F26.r1 : List Oper := [
  ⟨(some 5), (.move (.tmp 0)), 3, "", #[], none⟩,
  ⟨(some 6), (.binOp .lss 3 (.tmp 5) (.const (.int .i64 0)) 3), 4, "", #[], none⟩]
def F26.r2 : List Oper := [
  ⟨(some 7), (.move (.tmp 0)), 3, "", #[], none⟩,
  ⟨(some 8), (.binOp .add 3 (.tmp 7) (.const (.int .i64 1)) 3), 3, "", #[], none⟩,
  ⟨(some 9), (.unOp .neg 3 (.tmp 8)), 3, "", #[], none⟩,
  ⟨(some 0), (.assign (.tmp 9)), 3, "", #[], none⟩]
def F26.r3 : List Oper := [
  ⟨(some 10), (.move (.tmp 0)), 3, "", #[], none⟩,
  ⟨(some 11), (.move (.tmp 1)), 3, "", #[], none⟩,
  ⟨(some 12), (.binOp .rem 3 (.tmp 10) (.tmp 11) 3), 3, "", #[], none⟩,
  ⟨(some 4), (.assign (.tmp 12)), 3, "", #[], none⟩]
def F26.t3 : Cd := (.seq (.region 3 F26.r3.toArray false) .ret)
theorem F26.t3_eq {P : Program} {Q : Post} {e : FA} {w : World} {θ : Tag (F26.t3, Q, e, w)} : cwE P F26.t3 Q e w θ = cwE P (.seq (.region 3 F26.r3.toArray false) .ret) Q e w := rfl
def F26.code : Cd := (.seq (.region 0 F26.r0.toArray false) (.seq (.seq (.region 1 F26.r1.toArray false) (.cond (.tmp 6) (.region 2 F26.r2.toArray false) .skip)) F26.t3))
theorem F26.calls {args : Array Value} {w : World} {R : Ending → World → Prop} (hn : args.size ≤ 13) (h : cwE Try.prog F26.code (fnP Try.prog #[(.tmp 4)] R) (entry args) w) : Calls Try.prog 26 args w R :=
  calls_of_cwE (types := Try.prog.types) follows Try.func26 F26.code rfl (by kernel_rfl) hn h

def F27.r0 : List Oper := [
  ⟨(some 8), (.assign (.const (.bool false))), 4, "", #[], none⟩]
def F27.r1 : List Oper := [
  ⟨(some 14), (.move (.tmp 0)), 22, "", #[], none⟩,
  ⟨(some 15), (.nilCheck (.tmp 14)), 0, "", #[], none⟩,
  ⟨(some 16), (.fieldAddr 33 (.tmp 15) 1), 0, "", #[], none⟩,
  ⟨(some 17), (.load 30 (.tmp 16)), 30, "", #[⟨0, .data⟩], none⟩,
  ⟨(some 18), (.call ⟨(.builtin .len), #[(.tmp 17)], #[30]⟩), 3, "", #[], none⟩,
  ⟨(some 19), (.binOp .add 3 (.tmp 18) (.const (.int .i64 1)) 3), 3, "", #[], none⟩,
  ⟨(some 9), (.assign (.tmp 19)), 3, "", #[], none⟩]
def F27.r2 : List Oper := [
  ⟨(some 10), (.assign (.const (.int .i64 0))), 47, "", #[], none⟩]
def F27.r3 : List Oper := [
  ⟨(some 11), (.assign (.const (.int .i64 0))), 3, "", #[], none⟩]
def F27.r4 : List Oper := [
  ⟨(some 20), (.move (.tmp 2)), 4, "", #[], none⟩]
def F27.r5 : List Oper := [
  ⟨(some 22), (.move (.tmp 0)), 22, "", #[], none⟩,
  ⟨(some 23), (.nilCheck (.tmp 22)), 0, "", #[], none⟩,
  ⟨(some 24), (.fieldAddr 33 (.tmp 23) 0), 0, "", #[], none⟩,
  ⟨(some 25), (.load 29 (.tmp 24)), 29, "", #[⟨0, .data⟩], none⟩,
  ⟨(some 26), (.move (.tmp 1)), 3, "", #[], none⟩,
  ⟨(some 27), (.convert 3 37 (.tmp 26)), 37, "", #[], none⟩,
  ⟨(some 28), (.move (.tmp 3)), 3, "", #[], none⟩,
  ⟨(some 29), (.convert 3 37 (.tmp 28)), 37, "", #[], none⟩,
  ⟨(some 30), (.move (.tmp 9)), 3, "", #[], none⟩,
  ⟨(some 31), (.call ⟨(.value (.func 36)), #[(.tmp 25), (.tmp 27), (.tmp 29), (.tmp 30)], #[29, 37, 37, 3]⟩), 112, "", #[⟨0, .chain⟩], none⟩,
  ⟨(some 21), (.move (.tmp 31)), 112, "", #[], none⟩,
  ⟨(some 32), (.extract (.tmp 21) 0), 3, "", #[], none⟩,
  ⟨(some 33), (.extract (.tmp 21) 1), 47, "", #[], none⟩,
  ⟨(some 11), (.assign (.tmp 32)), 3, "", #[], none⟩,
  ⟨(some 10), (.assign (.tmp 33)), 47, "", #[], none⟩]
def F27.r6 : List Oper := [
  ⟨(some 34), (.move (.tmp 0)), 22, "", #[], none⟩,
  ⟨(some 35), (.nilCheck (.tmp 34)), 0, "", #[], none⟩,
  ⟨(some 36), (.fieldAddr 33 (.tmp 35) 0), 0, "", #[], none⟩,
  ⟨(some 37), (.load 29 (.tmp 36)), 29, "", #[⟨0, .data⟩], none⟩,
  ⟨(some 38), (.move (.tmp 1)), 3, "", #[], none⟩,
  ⟨(some 39), (.convert 3 37 (.tmp 38)), 37, "", #[], none⟩,
  ⟨(some 40), (.move (.tmp 9)), 3, "", #[], none⟩,
  ⟨(some 41), (.call ⟨(.value (.func 25)), #[(.tmp 37), (.tmp 39), (.tmp 40)], #[29, 37, 3]⟩), 47, "", #[⟨0, .chain⟩], none⟩,
  ⟨(some 10), (.assign (.tmp 41)), 47, "", #[], none⟩]
def F27.r7 : List Oper := [
  ⟨(some 42), (.move (.tmp 0)), 22, "", #[], none⟩,
  ⟨(some 43), (.nilCheck (.tmp 42)), 0, "", #[], none⟩,
  ⟨(some 44), (.fieldAddr 33 (.tmp 43) 2), 0, "", #[], none⟩,
  ⟨(some 45), (.load 31 (.tmp 44)), 31, "", #[⟨0, .data⟩], none⟩,
  ⟨(some 46), (.move (.tmp 1)), 3, "", #[], none⟩,
  ⟨(some 47), (.indexAddr 31 (.tmp 45) (.tmp 46)), 0, "", #[], none⟩,
  ⟨(some 48), (.load 3 (.tmp 47)), 3, "", #[⟨0, .data⟩], none⟩,
  ⟨(some 49), (.binOp .geq 3 (.tmp 48) (.const (.int .i64 0)) 3), 4, "", #[], none⟩]
def F27.r8 : List Oper := [
  ⟨(some 50), (.move (.tmp 10)), 47, "", #[], none⟩,
  ⟨(some 51), (.binOp .eql 47 (.tmp 50) (.const (.int .i64 140)) 47), 4, "", #[], none⟩,
  ⟨(some 52), (.move (.tmp 51)), 4, "", #[], none⟩,
  ⟨(some 53), (.move (.tmp 11)), 3, "", #[], (some (52, true))⟩,
  ⟨(some 54), (.binOp .eql 3 (.tmp 53) (.const (.int .i64 0)) 3), 4, "", #[], (some (52, true))⟩,
  ⟨(some 55), (.pick (.tmp 52) (.tmp 54) (.const (.bool false))), 4, "", #[], none⟩,
  ⟨(some 8), (.assign (.tmp 55)), 4, "", #[], none⟩]
def F27.r9 : List Oper := [
  ⟨(some 56), (.move (.tmp 0)), 22, "", #[], none⟩,
  ⟨(some 57), (.call ⟨(.value (.func 56)), #[(.tmp 56)], #[22]⟩), 3, "", #[⟨0, .chain⟩], none⟩,
  ⟨(some 58), (.binOp .eql 3 (.tmp 57) (.const (.int .i64 8)) 3), 4, "", #[], none⟩]
def F27.r10 : List Oper := [
  ⟨(some 59), (.move (.tmp 10)), 47, "", #[], none⟩,
  ⟨(some 60), (.binOp .eql 47 (.tmp 59) (.const (.int .i64 141)) 47), 4, "", #[], none⟩,
  ⟨(some 61), (.move (.tmp 60)), 4, "", #[], none⟩,
  ⟨(some 62), (.move (.tmp 11)), 3, "", #[], (some (61, true))⟩,
  ⟨(some 63), (.binOp .eql 3 (.tmp 62) (.const (.int .i64 0)) 3), 4, "", #[], (some (61, true))⟩,
  ⟨(some 64), (.pick (.tmp 61) (.tmp 63) (.const (.bool false))), 4, "", #[], none⟩,
  ⟨(some 8), (.assign (.tmp 64)), 4, "", #[], none⟩]
def F27.r11 : List Oper := [
  ⟨(some 65), (.move (.tmp 10)), 47, "", #[], none⟩,
  ⟨(some 66), (.binOp .neq 47 (.tmp 65) (.const (.int .i64 0)) 47), 4, "", #[], none⟩]
def F27.r12 : List Oper := [
  ⟨(some 8), (.assign (.const (.bool false))), 4, "", #[], none⟩]
def F27.r13 : List Oper := [
  ⟨(some 67), (.move (.tmp 1)), 3, "", #[], none⟩,
  ⟨(some 68), (.convert 3 37 (.tmp 67)), 37, "", #[], none⟩,
  ⟨(some 69), (.move (.tmp 2)), 4, "", #[], none⟩,
  ⟨(some 70), (.build 39 #[(0, (.tmp 68)), (1, (.tmp 69)), (2, (.const (.int .i64 (-1))))]), 39, "", #[], none⟩,
  ⟨(some 12), (.alloc 39), 0, "", #[⟨0, .chain⟩], none⟩,
  ⟨none, (.store 39 (.tmp 12) (.tmp 70)), 0, "", #[⟨0, .chain⟩], none⟩]
def F27.r14 : List Oper := [
  ⟨(some 71), (.move (.tmp 2)), 4, "", #[], none⟩]
def F27.r15 : List Oper := [
  ⟨(some 72), (.move (.tmp 0)), 22, "", #[], none⟩,
  ⟨(some 73), (.nilCheck (.tmp 72)), 0, "", #[], none⟩,
  ⟨(some 74), (.fieldAddr 33 (.tmp 73) 2), 0, "", #[], none⟩,
  ⟨(some 75), (.load 31 (.tmp 74)), 31, "", #[⟨0, .data⟩], none⟩,
  ⟨(some 76), (.move (.tmp 3)), 3, "", #[], none⟩,
  ⟨(some 77), (.indexAddr 31 (.tmp 75) (.tmp 76)), 0, "", #[], none⟩,
  ⟨(some 78), (.load 3 (.tmp 77)), 3, "", #[⟨0, .data⟩], none⟩,
  ⟨(some 79), (.fieldAddr 39 (.tmp 12) 2), 0, "", #[], none⟩,
  ⟨none, (.store 3 (.tmp 79) (.tmp 78)), 0, "", #[⟨0, .chain⟩], none⟩]
def F27.r16 : List Oper := [
  ⟨(some 13), (.assign (.const (.int .i64 (-1)))), 3, "", #[], none⟩]
def F27.r17 : List Oper := [
  ⟨(some 80), (.fieldAddr 39 (.tmp 12) 2), 0, "", #[], none⟩,
  ⟨(some 81), (.load 3 (.tmp 80)), 3, "", #[⟨0, .data⟩], none⟩,
  ⟨(some 82), (.binOp .geq 3 (.tmp 81) (.const (.int .i64 0)) 3), 4, "", #[], none⟩,
  ⟨(some 83), (.move (.tmp 82)), 4, "", #[], none⟩,
  ⟨(some 84), (.move (.tmp 0)), 22, "", #[], (some (83, true))⟩,
  ⟨(some 85), (.nilCheck (.tmp 84)), 0, "", #[], (some (83, true))⟩,
  ⟨(some 86), (.fieldAddr 33 (.tmp 85) 1), 0, "", #[], (some (83, true))⟩,
  ⟨(some 88), (.fieldAddr 39 (.tmp 12) 2), 0, "", #[], (some (83, true))⟩,
  ⟨(some 87), (.load 30 (.tmp 86)), 30, "", #[⟨0, .data⟩], (some (83, true))⟩,
  ⟨(some 89), (.load 3 (.tmp 88)), 3, "", #[⟨0, .data⟩], (some (83, true))⟩,
  ⟨(some 90), (.indexAddr 30 (.tmp 87) (.tmp 89)), 0, "", #[], (some (83, true))⟩,
  ⟨(some 91), (.fieldAddr 39 (.tmp 90) 1), 0, "", #[], (some (83, true))⟩,
  ⟨(some 92), (.load 4 (.tmp 91)), 4, "", #[⟨0, .data⟩], (some (83, true))⟩,
  ⟨(some 93), (.unOp .not 4 (.tmp 92)), 4, "", #[], (some (83, true))⟩,
  ⟨(some 94), (.pick (.tmp 83) (.tmp 93) (.const (.bool false))), 4, "", #[], none⟩,
  ⟨(some 95), (.move (.tmp 94)), 4, "", #[], none⟩,
  ⟨(some 96), (.move (.tmp 0)), 22, "", #[], (some (95, true))⟩,
  ⟨(some 97), (.nilCheck (.tmp 96)), 0, "", #[], (some (95, true))⟩,
  ⟨(some 98), (.fieldAddr 33 (.tmp 97) 1), 0, "", #[], (some (95, true))⟩,
  ⟨(some 100), (.fieldAddr 39 (.tmp 12) 2), 0, "", #[], (some (95, true))⟩,
  ⟨(some 99), (.load 30 (.tmp 98)), 30, "", #[⟨0, .data⟩], (some (95, true))⟩,
  ⟨(some 101), (.load 3 (.tmp 100)), 3, "", #[⟨0, .data⟩], (some (95, true))⟩,
  ⟨(some 102), (.indexAddr 30 (.tmp 99) (.tmp 101)), 0, "", #[], (some (95, true))⟩,
  ⟨(some 103), (.fieldAddr 39 (.tmp 102) 4), 0, "", #[], (some (95, true))⟩,
  ⟨(some 104), (.load 4 (.tmp 103)), 4, "", #[⟨0, .data⟩], (some (95, true))⟩,
  ⟨(some 105), (.unOp .not 4 (.tmp 104)), 4, "", #[], (some (95, true))⟩,
  ⟨(some 106), (.pick (.tmp 95) (.tmp 105) (.const (.bool false))), 4, "", #[], none⟩,
  ⟨(some 107), (.move (.tmp 106)), 4, "", #[], none⟩,
  ⟨(some 108), (.move (.tmp 0)), 22, "", #[], (some (107, true))⟩,
  ⟨(some 109), (.nilCheck (.tmp 108)), 0, "", #[], (some (107, true))⟩,
  ⟨(some 110), (.fieldAddr 33 (.tmp 109) 1), 0, "", #[], (some (107, true))⟩,
  ⟨(some 112), (.fieldAddr 39 (.tmp 12) 2), 0, "", #[], (some (107, true))⟩,
  ⟨(some 111), (.load 30 (.tmp 110)), 30, "", #[⟨0, .data⟩], (some (107, true))⟩,
  ⟨(some 113), (.load 3 (.tmp 112)), 3, "", #[⟨0, .data⟩], (some (107, true))⟩,
  ⟨(some 114), (.indexAddr 30 (.tmp 111) (.tmp 113)), 0, "", #[], (some (107, true))⟩,
  ⟨(some 115), (.fieldAddr 39 (.tmp 114) 3), 0, "", #[], (some (107, true))⟩,
  ⟨(some 116), (.load 4 (.tmp 115)), 4, "", #[⟨0, .data⟩], (some (107, true))⟩,
  ⟨(some 117), (.unOp .not 4 (.tmp 116)), 4, "", #[], (some (107, true))⟩,
  ⟨(some 118), (.pick (.tmp 107) (.tmp 117) (.const (.bool false))), 4, "", #[], none⟩]
def F27.r18 : List Oper := [
  ⟨(some 119), (.fieldAddr 39 (.tmp 12) 2), 0, "", #[], none⟩,
  ⟨(some 120), (.load 3 (.tmp 119)), 3, "", #[⟨0, .data⟩], none⟩,
  ⟨(some 13), (.assign (.tmp 120)), 3, "", #[], none⟩]
def F27.r19 : List Oper := [
  ⟨(some 121), (.move (.tmp 0)), 22, "", #[], none⟩,
  ⟨(some 122), (.nilCheck (.tmp 121)), 0, "", #[], none⟩,
  ⟨(some 123), (.fieldAddr 33 (.tmp 122) 1), 0, "", #[], none⟩,
  ⟨(some 124), (.load 30 (.tmp 123)), 30, "", #[⟨0, .data⟩], none⟩,
  ⟨(some 125), (.move (.tmp 13)), 3, "", #[], none⟩,
  ⟨(some 126), (.indexAddr 30 (.tmp 124) (.tmp 125)), 0, "", #[], none⟩,
  ⟨(some 127), (.fieldAddr 39 (.tmp 126) 3), 0, "", #[], none⟩,
  ⟨none, (.store 4 (.tmp 127) (.const (.bool true))), 0, "", #[⟨0, .chain⟩], none⟩]
def F27.r20 : List Oper := [
  ⟨(some 128), (.move (.tmp 11)), 3, "", #[], none⟩,
  ⟨(some 129), (.move (.tmp 13)), 3, "", #[], none⟩,
  ⟨(some 130), (.binOp .add 3 (.tmp 129) (.const (.int .i64 1)) 3), 3, "", #[], none⟩,
  ⟨(some 131), (.binOp .neq 3 (.tmp 128) (.tmp 130) 3), 4, "", #[], none⟩]
def F27.r21 : List Oper := [
  ⟨(some 8), (.assign (.const (.bool false))), 4, "", #[], none⟩]
def F27.r22 : List Oper := [
  ⟨(some 132), (.move (.tmp 0)), 22, "", #[], none⟩,
  ⟨(some 133), (.move (.tmp 0)), 22, "", #[], none⟩,
  ⟨(some 134), (.nilCheck (.tmp 133)), 0, "", #[], none⟩,
  ⟨(some 135), (.fieldAddr 33 (.tmp 134) 1), 0, "", #[], none⟩,
  ⟨(some 136), (.load 30 (.tmp 135)), 30, "", #[⟨1152, .data⟩], none⟩,
  ⟨(some 137), (.load 39 (.tmp 12)), 39, "", #[⟨1216, .data⟩], none⟩,
  ⟨(some 138), (.buildSlice 30 1 #[(0, (.tmp 137))]), 30, "", #[⟨6, .chain⟩], none⟩,
  ⟨(some 139), (.call ⟨(.builtin .append), #[(.tmp 136), (.tmp 138)], #[30, 30]⟩), 30, "", #[⟨7, .chain⟩], none⟩,
  ⟨(some 140), (.nilCheck (.tmp 132)), 0, "", #[], none⟩,
  ⟨(some 141), (.fieldAddr 33 (.tmp 140) 1), 0, "", #[], none⟩,
  ⟨none, (.store 30 (.tmp 141) (.tmp 139)), 0, "", #[⟨10, .chain⟩], none⟩]
def F27.r23 : List Oper := [
  ⟨(some 142), (.move (.tmp 0)), 22, "", #[], none⟩,
  ⟨(some 143), (.nilCheck (.tmp 142)), 0, "", #[], none⟩,
  ⟨(some 144), (.fieldAddr 33 (.tmp 143) 2), 0, "", #[], none⟩,
  ⟨(some 145), (.load 31 (.tmp 144)), 31, "", #[⟨0, .data⟩], none⟩,
  ⟨(some 146), (.move (.tmp 1)), 3, "", #[], none⟩,
  ⟨(some 147), (.move (.tmp 9)), 3, "", #[], none⟩,
  ⟨(some 148), (.binOp .sub 3 (.tmp 147) (.const (.int .i64 1)) 3), 3, "", #[], none⟩,
  ⟨(some 149), (.indexAddr 31 (.tmp 145) (.tmp 146)), 0, "", #[], none⟩,
  ⟨none, (.store 3 (.tmp 149) (.tmp 148)), 0, "", #[⟨0, .chain⟩], none⟩]
def F27.r24 : List Oper := [
  ⟨(some 8), (.assign (.const (.bool true))), 4, "", #[], none⟩]
def F27.t20 : Cd := (.seq (.region 20 F27.r20.toArray false) (.cond (.tmp 131) (.seq (.region 21 F27.r21.toArray false) .ret) .skip))
theorem F27.t20_eq {P : Program} {Q : Post} {e : FA} {w : World} {θ : Tag (F27.t20, Q, e, w)} : cwE P F27.t20 Q e w θ = cwE P (.seq (.region 20 F27.r20.toArray false) (.cond (.tmp 131) (.seq (.region 21 F27.r21.toArray false) .ret) .skip)) Q e w := rfl
def F27.t22 : Cd := (.seq (.region 22 F27.r22.toArray true) (.seq (.region 23 F27.r23.toArray false) (.seq (.region 24 F27.r24.toArray false) .ret)))
theorem F27.t22_eq {P : Program} {Q : Post} {e : FA} {w : World} {θ : Tag (F27.t22, Q, e, w)} : cwE P F27.t22 Q e w θ = cwE P (.seq (.region 22 F27.r22.toArray true) (.seq (.region 23 F27.r23.toArray false) (.seq (.region 24 F27.r24.toArray false) .ret))) Q e w := rfl
def F27.t13 : Cd := (.seq (.region 13 F27.r13.toArray false) (.seq (.seq (.region 14 F27.r14.toArray false) (.cond (.tmp 71) (.seq (.region 15 F27.r15.toArray false) (.seq (.region 16 F27.r16.toArray false) (.seq (.seq (.region 17 F27.r17.toArray true) (.cond (.tmp 118) (.seq (.region 18 F27.r18.toArray false) (.region 19 F27.r19.toArray false)) .skip)) F27.t20))) .skip)) F27.t22))
theorem F27.t13_eq {P : Program} {Q : Post} {e : FA} {w : World} {θ : Tag (F27.t13, Q, e, w)} : cwE P F27.t13 Q e w θ = cwE P (.seq (.region 13 F27.r13.toArray false) (.seq (.seq (.region 14 F27.r14.toArray false) (.cond (.tmp 71) (.seq (.region 15 F27.r15.toArray false) (.seq (.region 16 F27.r16.toArray false) (.seq (.seq (.region 17 F27.r17.toArray true) (.cond (.tmp 118) (.seq (.region 18 F27.r18.toArray false) (.region 19 F27.r19.toArray false)) .skip)) F27.t20))) .skip)) F27.t22)) Q e w := rfl
def F27.t11 : Cd := (.seq (.seq (.region 11 F27.r11.toArray false) (.cond (.tmp 66) (.seq (.region 12 F27.r12.toArray false) .ret) .skip)) F27.t13)
theorem F27.t11_eq {P : Program} {Q : Post} {e : FA} {w : World} {θ : Tag (F27.t11, Q, e, w)} : cwE P F27.t11 Q e w θ = cwE P (.seq (.seq (.region 11 F27.r11.toArray false) (.cond (.tmp 66) (.seq (.region 12 F27.r12.toArray false) .ret) .skip)) F27.t13) Q e w := rfl
def F27.t9 : Cd := (.seq (.seq (.region 9 F27.r9.toArray false) (.cond (.tmp 58) (.seq (.region 10 F27.r10.toArray false) .ret) .skip)) F27.t11)
theorem F27.t9_eq {P : Program} {Q : Post} {e : FA} {w : World} {θ : Tag (F27.t9, Q, e, w)} : cwE P F27.t9 Q e w θ = cwE P (.seq (.seq (.region 9 F27.r9.toArray false) (.cond (.tmp 58) (.seq (.region 10 F27.r10.toArray false) .ret) .skip)) F27.t11) Q e w := rfl
def F27.t7 : Cd := (.seq (.seq (.region 7 F27.r7.toArray false) (.cond (.tmp 49) (.seq (.region 8 F27.r8.toArray false) .ret) .skip)) F27.t9)
theorem F27.t7_eq {P : Program} {Q : Post} {e : FA} {w : World} {θ : Tag (F27.t7, Q, e, w)} : cwE P F27.t7 Q e w θ = cwE P (.seq (.seq (.region 7 F27.r7.toArray false) (.cond (.tmp 49) (.seq (.region 8 F27.r8.toArray false) .ret) .skip)) F27.t9) Q e w := rfl
def F27.code : Cd := (.seq (.region 0 F27.r0.toArray false) (.seq (.region 1 F27.r1.toArray false) (.seq (.region 2 F27.r2.toArray false) (.seq (.region 3 F27.r3.toArray false) (.seq (.seq (.region 4 F27.r4.toArray false) (.cond (.tmp 20) (.region 5 F27.r5.toArray false) (.region 6 F27.r6.toArray false))) F27.t7)))))
theorem F27.calls {args : Array Value} {w : World} {R : Ending → World → Prop} (hn : args.size ≤ 150) (h : cwE Try.prog F27.code (fnP Try.prog #[(.tmp 8)] R) (entry args) w) : Calls Try.prog 27 args w R :=
  calls_of_cwE (types := Try.prog.types) follows Try.func27 F27.code rfl (by kernel_rfl) hn h

def F28.r0 : List Oper := [
  ⟨(some 5), (.box 77 (.tmp 2)), 0, "", #[⟨0, .chain⟩], none⟩]
def F28.r1 : List Oper := [
  ⟨(some 6), (.move (.tmp 0)), 29, "", #[], none⟩,
  ⟨(some 7), (.move (.tmp 0)), 29, "", #[], none⟩,
  ⟨(some 8), (.nilCheck (.tmp 7)), 0, "", #[], none⟩,
  ⟨(some 9), (.fieldAddr 94 (.tmp 8) 4), 0, "", #[], none⟩,
  ⟨(some 13), (.move (.tmp 1)), 3, "", #[], none⟩,
  ⟨(some 10), (.load 92 (.tmp 9)), 92, "", #[⟨9216, .data⟩], none⟩,
  ⟨(some 11), (.load 77 (.tmp 5)), 77, "", #[⟨9792, .data⟩], none⟩,
  ⟨(some 12), (.call ⟨(.value (.func 32)), #[(.tmp 11)], #[77]⟩), 77, "", #[⟨6, .chain⟩], none⟩,
  ⟨(some 14), (.build 104 #[(0, (.tmp 12)), (1, (.tmp 13)), (2, (.const (.bool false)))]), 104, "", #[], none⟩,
  ⟨(some 15), (.buildSlice 92 1 #[(0, (.tmp 14))]), 92, "", #[⟨9, .chain⟩], none⟩,
  ⟨(some 16), (.call ⟨(.builtin .append), #[(.tmp 10), (.tmp 15)], #[92, 92]⟩), 92, "", #[⟨10, .chain⟩], none⟩,
  ⟨(some 17), (.nilCheck (.tmp 6)), 0, "", #[], none⟩,
  ⟨(some 18), (.fieldAddr 94 (.tmp 17) 4), 0, "", #[], none⟩,
  ⟨none, (.store 92 (.tmp 18) (.tmp 16)), 0, "", #[⟨13, .chain⟩], none⟩]
def F28.code : Cd := (.seq (.region 0 F28.r0.toArray false) (.region 1 F28.r1.toArray true))
theorem F28.calls {args : Array Value} {w : World} {R : Ending → World → Prop} (hn : args.size ≤ 19) (h : cwE Try.prog F28.code (fnP Try.prog #[] R) (entry args) w) : Calls Try.prog 28 args w R :=
  calls_of_cwE (types := Try.prog.types) follows Try.func28 F28.code rfl (by kernel_rfl) hn h

def F29.r0 : List Oper := [
  ⟨(some 4), (.assign (.const (.bool false))), 4, "", #[], none⟩]
def F29.r1 : List Oper := [
  ⟨(some 5), (.assign (.const (.int .i64 0))), 3, "", #[], none⟩]
def F29.r2 : List Oper := [
  ⟨(some 6), (.move (.tmp 5)), 3, "", #[], none⟩,
  ⟨(some 7), (.move (.tmp 1)), 3, "", #[], none⟩,
  ⟨(some 8), (.binOp .lss 3 (.tmp 6) (.tmp 7) 3), 4, "", #[], none⟩]
def F29.r4 : List Oper := [
  ⟨(some 11), (.move (.tmp 0)), 22, "", #[], none⟩,
  ⟨(some 12), (.nilCheck (.tmp 11)), 0, "", #[], none⟩,
  ⟨(some 13), (.fieldAddr 33 (.tmp 12) 1), 0, "", #[], none⟩,
  ⟨(some 15), (.move (.tmp 5)), 3, "", #[], none⟩,
  ⟨(some 14), (.load 30 (.tmp 13)), 30, "", #[⟨0, .data⟩], none⟩,
  ⟨(some 16), (.indexAddr 30 (.tmp 14) (.tmp 15)), 0, "", #[], none⟩,
  ⟨(some 17), (.fieldAddr 39 (.tmp 16) 1), 0, "", #[], none⟩,
  ⟨(some 18), (.load 4 (.tmp 17)), 4, "", #[⟨0, .data⟩], none⟩,
  ⟨(some 19), (.move (.tmp 18)), 4, "", #[], none⟩,
  ⟨(some 20), (.move (.tmp 0)), 22, "", #[], (some (19, true))⟩,
  ⟨(some 21), (.nilCheck (.tmp 20)), 0, "", #[], (some (19, true))⟩,
  ⟨(some 22), (.fieldAddr 33 (.tmp 21) 1), 0, "", #[], (some (19, true))⟩,
  ⟨(some 24), (.move (.tmp 5)), 3, "", #[], (some (19, true))⟩,
  ⟨(some 28), (.move (.tmp 0)), 22, "", #[], (some (19, true))⟩,
  ⟨(some 29), (.nilCheck (.tmp 28)), 0, "", #[], (some (19, true))⟩,
  ⟨(some 30), (.fieldAddr 33 (.tmp 29) 1), 0, "", #[], (some (19, true))⟩,
  ⟨(some 32), (.move (.tmp 1)), 3, "", #[], (some (19, true))⟩,
  ⟨(some 23), (.load 30 (.tmp 22)), 30, "", #[⟨0, .data⟩], (some (19, true))⟩,
  ⟨(some 25), (.indexAddr 30 (.tmp 23) (.tmp 24)), 0, "", #[], (some (19, true))⟩,
  ⟨(some 26), (.fieldAddr 39 (.tmp 25) 2), 0, "", #[], (some (19, true))⟩,
  ⟨(some 27), (.load 3 (.tmp 26)), 3, "", #[⟨0, .data⟩], (some (19, true))⟩,
  ⟨(some 31), (.load 30 (.tmp 30)), 30, "", #[⟨0, .data⟩], (some (19, true))⟩,
  ⟨(some 33), (.indexAddr 30 (.tmp 31) (.tmp 32)), 0, "", #[], (some (19, true))⟩,
  ⟨(some 34), (.fieldAddr 39 (.tmp 33) 2), 0, "", #[], (some (19, true))⟩,
  ⟨(some 35), (.load 3 (.tmp 34)), 3, "", #[⟨0, .data⟩], (some (19, true))⟩,
  ⟨(some 36), (.binOp .eql 3 (.tmp 27) (.tmp 35) 3), 4, "", #[], (some (19, true))⟩,
  ⟨(some 37), (.pick (.tmp 19) (.tmp 36) (.const (.bool false))), 4, "", #[], none⟩,
  ⟨(some 38), (.move (.tmp 37)), 4, "", #[], none⟩,
  ⟨(some 39), (.move (.tmp 0)), 22, "", #[], (some (38, true))⟩,
  ⟨(some 40), (.nilCheck (.tmp 39)), 0, "", #[], (some (38, true))⟩,
  ⟨(some 41), (.fieldAddr 33 (.tmp 40) 1), 0, "", #[], (some (38, true))⟩,
  ⟨(some 43), (.move (.tmp 5)), 3, "", #[], (some (38, true))⟩,
  ⟨(some 42), (.load 30 (.tmp 41)), 30, "", #[⟨0, .data⟩], (some (38, true))⟩,
  ⟨(some 44), (.indexAddr 30 (.tmp 42) (.tmp 43)), 0, "", #[], (some (38, true))⟩,
  ⟨(some 45), (.fieldAddr 39 (.tmp 44) 6), 0, "", #[], (some (38, true))⟩,
  ⟨(some 46), (.load 4 (.tmp 45)), 4, "", #[⟨0, .data⟩], (some (38, true))⟩,
  ⟨(some 47), (.unOp .not 4 (.tmp 46)), 4, "", #[], (some (38, true))⟩,
  ⟨(some 48), (.pick (.tmp 38) (.tmp 47) (.const (.bool false))), 4, "", #[], none⟩]
def F29.r5 : List Oper := [
  ⟨(some 4), (.assign (.const (.bool false))), 4, "", #[], none⟩]
def F29.r3 : List Oper := [
  ⟨(some 9), (.move (.tmp 5)), 3, "", #[], none⟩,
  ⟨(some 10), (.binOp .add 3 (.tmp 9) (.const (.int .i64 1)) 3), 3, "", #[], none⟩,
  ⟨(some 5), (.assign (.tmp 10)), 3, "", #[], none⟩]
def F29.r6 : List Oper := [
  ⟨(some 4), (.assign (.const (.bool true))), 4, "", #[], none⟩]
def F29.t3 : Cd := (.region 3 F29.r3.toArray false)
theorem F29.t3_eq {P : Program} {Q : Post} {e : FA} {w : World} {θ : Tag (F29.t3, Q, e, w)} : cwE P F29.t3 Q e w θ = cwE P (.region 3 F29.r3.toArray false) Q e w := rfl
def F29.t4 : Cd := (.seq (.block 1 (.seq (.region 4 F29.r4.toArray true) (.cond (.tmp 48) (.seq (.region 5 F29.r5.toArray false) .ret) .skip))) F29.t3)
theorem F29.t4_eq {P : Program} {Q : Post} {e : FA} {w : World} {θ : Tag (F29.t4, Q, e, w)} : cwE P F29.t4 Q e w θ = cwE P (.seq (.block 1 (.seq (.region 4 F29.r4.toArray true) (.cond (.tmp 48) (.seq (.region 5 F29.r5.toArray false) .ret) .skip))) F29.t3) Q e w := rfl
def F29.t6 : Cd := (.seq (.region 6 F29.r6.toArray false) .ret)
theorem F29.t6_eq {P : Program} {Q : Post} {e : FA} {w : World} {θ : Tag (F29.t6, Q, e, w)} : cwE P F29.t6 Q e w θ = cwE P (.seq (.region 6 F29.r6.toArray false) .ret) Q e w := rfl
def F29.code : Cd := (.seq (.region 0 F29.r0.toArray false) (.seq (.seq (.region 1 F29.r1.toArray false) (.block 0 (.loop (.seq (.seq (.region 2 F29.r2.toArray false) (.cond (.tmp 8) .skip (.exit 0))) F29.t4)))) F29.t6))
theorem F29.calls {args : Array Value} {w : World} {R : Ending → World → Prop} (hn : args.size ≤ 49) (h : cwE Try.prog F29.code (fnP Try.prog #[(.tmp 4)] R) (entry args) w) : Calls Try.prog 29 args w R :=
  calls_of_cwE (types := Try.prog.types) follows Try.func29 F29.code rfl (by kernel_rfl) hn h

def F30.r0 : List Oper := [
  ⟨(some 5), (.move (.tmp 0)), 40, "", #[], none⟩,
  ⟨(some 6), (.call ⟨(.builtin .len), #[(.tmp 5)], #[40]⟩), 3, "", #[], none⟩,
  ⟨(some 4), (.assign (.tmp 6)), 3, "", #[], none⟩]
def F30.r1 : List Oper := [
  ⟨(some 7), (.move (.tmp 0)), 40, "", #[], none⟩,
  ⟨(some 8), (.move (.tmp 4)), 3, "", #[], none⟩,
  ⟨(some 9), (.move (.tmp 4)), 3, "", #[], none⟩,
  ⟨(some 10), (.convert 3 128 (.tmp 9)), 128, "", #[], none⟩,
  ⟨(some 11), (.call ⟨(.value (.func 58)), #[(.tmp 10)], #[128]⟩), 3, "", #[⟨0, .chain⟩], none⟩,
  ⟨(some 12), (.move (.tmp 1)), 102, "", #[], none⟩,
  ⟨(some 13), (.call ⟨(.value (.func 57)), #[(.tmp 7), (.const (.int .i64 0)), (.tmp 8), (.tmp 11), (.tmp 12)], #[40, 3, 3, 3, 102]⟩), 0, "", #[⟨0, .chain⟩], none⟩]
def F30.code : Cd := (.seq (.region 0 F30.r0.toArray false) (.region 1 F30.r1.toArray false))
theorem F30.calls {args : Array Value} {w : World} {R : Ending → World → Prop} (hn : args.size ≤ 14) (h : cwE Try.prog F30.code (fnP Try.prog #[] R) (entry args) w) : Calls Try.prog 30 args w R :=
  calls_of_cwE (types := Try.prog.types) follows Try.func30 F30.code rfl (by kernel_rfl) hn h

def F31.r0 : List Oper := [
  ⟨(some 2), (.box 100 (.tmp 0)), 0, "", #[⟨0, .chain⟩], none⟩,
  ⟨(some 3), (.box 100 (.tmp 1)), 0, "", #[⟨0, .chain⟩], none⟩,
  ⟨(some 4), (.assign (.const (.int .i64 0))), 3, "", #[], none⟩]
def F31.r1 : List Oper := [
  ⟨(some 5), (.fieldAddr 100 (.tmp 2) 0), 0, "", #[], none⟩,
  ⟨(some 6), (.load 37 (.tmp 5)), 37, "", #[⟨0, .data⟩], none⟩,
  ⟨(some 7), (.convert 37 3 (.tmp 6)), 3, "", #[], none⟩,
  ⟨(some 8), (.fieldAddr 100 (.tmp 3) 0), 0, "", #[], none⟩,
  ⟨(some 9), (.load 37 (.tmp 8)), 37, "", #[⟨0, .data⟩], none⟩,
  ⟨(some 10), (.convert 37 3 (.tmp 9)), 3, "", #[], none⟩,
  ⟨(some 11), (.binOp .sub 3 (.tmp 7) (.tmp 10) 3), 3, "", #[], none⟩,
  ⟨(some 4), (.assign (.tmp 11)), 3, "", #[], none⟩]
def F31.code : Cd := (.seq (.region 0 F31.r0.toArray false) (.seq (.region 1 F31.r1.toArray false) .ret))
theorem F31.calls {args : Array Value} {w : World} {R : Ending → World → Prop} (hn : args.size ≤ 12) (h : cwE Try.prog F31.code (fnP Try.prog #[(.tmp 4)] R) (entry args) w) : Calls Try.prog 31 args w R :=
  calls_of_cwE (types := Try.prog.types) follows Try.func31 F31.code rfl (by kernel_rfl) hn h

def F32.r0 : List Oper := [
  ⟨(some 1), (.box 77 (.tmp 0)), 0, "", #[⟨0, .chain⟩], none⟩,
  ⟨(some 2), (.alloc 77), 0, "", #[⟨0, .chain⟩], none⟩]
def F32.r1 : List Oper := [
  ⟨(some 3), (.fieldAddr 77 (.tmp 1) 11), 0, "", #[], none⟩,
  ⟨(some 4), (.load 68 (.tmp 3)), 68, "", #[⟨0, .data⟩], none⟩,
  ⟨(some 5), (.call ⟨(.value (.func 59)), #[(.tmp 4)], #[68]⟩), 68, "", #[⟨0, .chain⟩], none⟩,
  ⟨(some 6), (.fieldAddr 77 (.tmp 1) 11), 0, "", #[], none⟩,
  ⟨none, (.store 68 (.tmp 6) (.tmp 5)), 0, "", #[⟨0, .chain⟩], none⟩]
def F32.r2 : List Oper := [
  ⟨(some 7), (.fieldAddr 77 (.tmp 1) 12), 0, "", #[], none⟩,
  ⟨(some 8), (.load 69 (.tmp 7)), 69, "", #[⟨0, .data⟩], none⟩,
  ⟨(some 9), (.call ⟨(.value (.func 60)), #[(.tmp 8)], #[69]⟩), 69, "", #[⟨0, .chain⟩], none⟩,
  ⟨(some 10), (.fieldAddr 77 (.tmp 1) 12), 0, "", #[], none⟩,
  ⟨none, (.store 69 (.tmp 10) (.tmp 9)), 0, "", #[⟨0, .chain⟩], none⟩]
def F32.r3 : List Oper := [
  ⟨(some 11), (.fieldAddr 77 (.tmp 1) 20), 0, "", #[], none⟩,
  ⟨(some 12), (.load 73 (.tmp 11)), 73, "", #[⟨0, .data⟩], none⟩,
  ⟨(some 13), (.call ⟨(.value (.func 61)), #[(.tmp 12)], #[73]⟩), 73, "", #[⟨0, .chain⟩], none⟩,
  ⟨(some 14), (.fieldAddr 77 (.tmp 1) 20), 0, "", #[], none⟩,
  ⟨none, (.store 73 (.tmp 14) (.tmp 13)), 0, "", #[⟨0, .chain⟩], none⟩]
def F32.r4 : List Oper := [
  ⟨(some 15), (.load 77 (.tmp 1)), 77, "", #[⟨0, .data⟩], none⟩,
  ⟨none, (.store 77 (.tmp 2) (.tmp 15)), 0, "", #[⟨0, .chain⟩], none⟩]
def F32.code : Cd := (.seq (.region 0 F32.r0.toArray false) (.seq (.region 1 F32.r1.toArray false) (.seq (.region 2 F32.r2.toArray false) (.seq (.region 3 F32.r3.toArray false) (.seq (.region 4 F32.r4.toArray false) .ret)))))
theorem F32.calls {args : Array Value} {w : World} {R : Ending → World → Prop} (hn : args.size ≤ 16) (h : cwE Try.prog F32.code (fnP Try.prog #[(.cell 2 77)] R) (entry args) w) : Calls Try.prog 32 args w R :=
  calls_of_cwE (types := Try.prog.types) follows Try.func32 F32.code rfl (by kernel_rfl) hn h

def F36.r0 : List Oper := [
  ⟨(some 8), (.assign (.const (.int .i64 0))), 3, "", #[], none⟩,
  ⟨(some 9), (.assign (.const (.int .i64 0))), 47, "", #[], none⟩]
def F36.r1 : List Oper := [
  ⟨(some 14), (.move (.tmp 0)), 29, "", #[], none⟩,
  ⟨(some 15), (.move (.tmp 3)), 3, "", #[], none⟩,
  ⟨(some 16), (.move (.tmp 1)), 37, "", #[], none⟩,
  ⟨(some 17), (.build 98 #[(0, (.tmp 15)), (1, (.tmp 16)), (2, (.const (.int .u8 5))), (3, (.const (.bool true)))]), 98, "", #[], none⟩,
  ⟨(some 18), (.call ⟨(.value (.func 55)), #[(.tmp 14), (.tmp 17)], #[29, 98]⟩), 47, "", #[⟨0, .chain⟩], none⟩,
  ⟨(some 10), (.assign (.tmp 18)), 47, "", #[], none⟩]
def F36.r2 : List Oper := [
  ⟨(some 19), (.move (.tmp 10)), 47, "", #[], none⟩,
  ⟨(some 20), (.binOp .neq 47 (.tmp 19) (.const (.int .i64 0)) 47), 4, "", #[], none⟩]
def F36.r3 : List Oper := [
  ⟨(some 21), (.move (.tmp 10)), 47, "", #[], none⟩,
  ⟨(some 8), (.assign (.const (.int .i64 0))), 3, "", #[], none⟩,
  ⟨(some 9), (.assign (.tmp 21)), 47, "", #[], none⟩]
def F36.r4 : List Oper := [
  ⟨(some 22), (.move (.tmp 0)), 29, "", #[], none⟩,
  ⟨(some 23), (.nilCheck (.tmp 22)), 0, "", #[], none⟩,
  ⟨(some 24), (.fieldAddr 94 (.tmp 23) 2), 0, "", #[], none⟩,
  ⟨(some 26), (.move (.tmp 3)), 3, "", #[], none⟩,
  ⟨(some 28), (.move (.tmp 0)), 29, "", #[], none⟩,
  ⟨(some 29), (.nilCheck (.tmp 28)), 0, "", #[], none⟩,
  ⟨(some 30), (.fieldAddr 94 (.tmp 29) 2), 0, "", #[], none⟩,
  ⟨(some 32), (.move (.tmp 0)), 29, "", #[], none⟩,
  ⟨(some 33), (.nilCheck (.tmp 32)), 0, "", #[], none⟩,
  ⟨(some 34), (.fieldAddr 94 (.tmp 33) 3), 0, "", #[], none⟩,
  ⟨(some 36), (.move (.tmp 2)), 37, "", #[], none⟩,
  ⟨(some 25), (.load 90 (.tmp 24)), 90, "", #[⟨0, .data⟩], none⟩,
  ⟨(some 27), (.lookup 90 (.tmp 25) (.tmp 26) false), 95, "", #[⟨0, .data⟩], none⟩,
  ⟨(some 11), (.assign (.tmp 27)), 95, "", #[], none⟩,
  ⟨(some 31), (.load 90 (.tmp 30)), 90, "", #[⟨0, .data⟩], none⟩,
  ⟨(some 35), (.load 91 (.tmp 34)), 91, "", #[⟨0, .data⟩], none⟩,
  ⟨(some 37), (.lookup 91 (.tmp 35) (.tmp 36) false), 3, "", #[⟨0, .data⟩], none⟩,
  ⟨(some 38), (.lookup 90 (.tmp 31) (.tmp 37) false), 95, "", #[⟨0, .data⟩], none⟩,
  ⟨(some 12), (.assign (.tmp 38)), 95, "", #[], none⟩]
def F36.r5 : List Oper := [
  ⟨(some 13), (.assign (.const (.int .i64 0))), 3, "", #[], none⟩]
def F36.r6 : List Oper := [
  ⟨(some 40), (.move (.tmp 12)), 95, "", #[], none⟩,
  ⟨(some 41), (.binOp .eql 95 (.tmp 40) (.const (.pointer none)) 95), 4, "", #[], none⟩,
  ⟨(some 42), (.move (.tmp 41)), 4, "", #[], none⟩,
  ⟨(some 43), (.move (.tmp 12)), 95, "", #[], (some (42, false))⟩,
  ⟨(some 44), (.move (.tmp 11)), 95, "", #[], (some (42, false))⟩,
  ⟨(some 45), (.binOp .eql 95 (.tmp 43) (.tmp 44) 95), 4, "", #[], (some (42, false))⟩,
  ⟨(some 46), (.pick (.tmp 42) (.const (.bool true)) (.tmp 45)), 4, "", #[], none⟩,
  ⟨(some 39), (.assign (.tmp 46)), 4, "", #[], none⟩]
def F36.r7 : List Oper := [
  ⟨(some 48), (.move (.tmp 12)), 95, "", #[], none⟩,
  ⟨(some 49), (.nilCheck (.tmp 48)), 0, "", #[], none⟩,
  ⟨(some 50), (.fieldAddr 98 (.tmp 49) 2), 0, "", #[], none⟩,
  ⟨(some 51), (.load 96 (.tmp 50)), 96, "", #[⟨0, .data⟩], none⟩,
  ⟨(some 52), (.binOp .eql 96 (.tmp 51) (.const (.int .u8 1)) 96), 4, "", #[], none⟩,
  ⟨(some 47), (.assign (.tmp 52)), 4, "", #[], none⟩]
def F36.r8 : List Oper := [
  ⟨(some 53), (.move (.tmp 12)), 95, "", #[], none⟩,
  ⟨(some 54), (.nilCheck (.tmp 53)), 0, "", #[], none⟩,
  ⟨(some 55), (.fieldAddr 98 (.tmp 54) 2), 0, "", #[], none⟩,
  ⟨none, (.store 96 (.tmp 55) (.const (.int .u8 2))), 0, "", #[⟨0, .chain⟩], none⟩]
def F36.r9 : List Oper := [
  ⟨(some 56), (.move (.tmp 12)), 95, "", #[], none⟩,
  ⟨(some 57), (.nilCheck (.tmp 56)), 0, "", #[], none⟩,
  ⟨(some 58), (.fieldAddr 98 (.tmp 57) 0), 0, "", #[], none⟩,
  ⟨(some 59), (.load 3 (.tmp 58)), 3, "", #[⟨0, .data⟩], none⟩,
  ⟨(some 13), (.assign (.tmp 59)), 3, "", #[], none⟩]
def F36.r10 : List Oper := [
  ⟨(some 60), (.move (.tmp 11)), 95, "", #[], none⟩,
  ⟨(some 61), (.move (.tmp 12)), 95, "", #[], none⟩,
  ⟨(some 62), (.nilCheck (.tmp 61)), 0, "", #[], none⟩,
  ⟨(some 63), (.fieldAddr 98 (.tmp 62) 0), 0, "", #[], none⟩,
  ⟨(some 64), (.load 3 (.tmp 63)), 3, "", #[⟨0, .data⟩], none⟩,
  ⟨(some 65), (.nilCheck (.tmp 60)), 0, "", #[], none⟩,
  ⟨(some 66), (.fieldAddr 98 (.tmp 65) 5), 0, "", #[], none⟩,
  ⟨none, (.store 3 (.tmp 66) (.tmp 64)), 0, "", #[⟨0, .chain⟩], none⟩]
def F36.r11 : List Oper := [
  ⟨(some 68), (.move (.tmp 12)), 95, "", #[], none⟩,
  ⟨(some 69), (.nilCheck (.tmp 68)), 0, "", #[], none⟩,
  ⟨(some 70), (.fieldAddr 98 (.tmp 69) 2), 0, "", #[], none⟩,
  ⟨(some 71), (.load 96 (.tmp 70)), 96, "", #[⟨0, .data⟩], none⟩,
  ⟨(some 72), (.binOp .eql 96 (.tmp 71) (.const (.int .u8 2)) 96), 4, "", #[], none⟩,
  ⟨(some 67), (.assign (.tmp 72)), 4, "", #[], none⟩]
def F36.r12 : List Oper := [
  ⟨(some 73), (.move (.tmp 11)), 95, "", #[], none⟩,
  ⟨(some 74), (.move (.tmp 12)), 95, "", #[], none⟩,
  ⟨(some 75), (.nilCheck (.tmp 74)), 0, "", #[], none⟩,
  ⟨(some 76), (.fieldAddr 98 (.tmp 75) 0), 0, "", #[], none⟩,
  ⟨(some 77), (.load 3 (.tmp 76)), 3, "", #[⟨0, .data⟩], none⟩,
  ⟨(some 78), (.nilCheck (.tmp 73)), 0, "", #[], none⟩,
  ⟨(some 79), (.fieldAddr 98 (.tmp 78) 5), 0, "", #[], none⟩,
  ⟨none, (.store 3 (.tmp 79) (.tmp 77)), 0, "", #[⟨0, .chain⟩], none⟩]
def F36.r13 : List Oper := [
  ⟨(some 81), (.move (.tmp 12)), 95, "", #[], none⟩,
  ⟨(some 82), (.nilCheck (.tmp 81)), 0, "", #[], none⟩,
  ⟨(some 83), (.fieldAddr 98 (.tmp 82) 2), 0, "", #[], none⟩,
  ⟨(some 84), (.load 96 (.tmp 83)), 96, "", #[⟨0, .data⟩], none⟩,
  ⟨(some 85), (.binOp .eql 96 (.tmp 84) (.const (.int .u8 3)) 96), 4, "", #[], none⟩,
  ⟨(some 86), (.move (.tmp 85)), 4, "", #[], none⟩,
  ⟨(some 87), (.move (.tmp 12)), 95, "", #[], (some (86, false))⟩,
  ⟨(some 88), (.nilCheck (.tmp 87)), 0, "", #[], (some (86, false))⟩,
  ⟨(some 89), (.fieldAddr 98 (.tmp 88) 2), 0, "", #[], (some (86, false))⟩,
  ⟨(some 90), (.load 96 (.tmp 89)), 96, "", #[⟨0, .data⟩], (some (86, false))⟩,
  ⟨(some 91), (.binOp .eql 96 (.tmp 90) (.const (.int .u8 5)) 96), 4, "", #[], (some (86, false))⟩,
  ⟨(some 92), (.pick (.tmp 86) (.const (.bool true)) (.tmp 91)), 4, "", #[], none⟩,
  ⟨(some 80), (.assign (.tmp 92)), 4, "", #[], none⟩]
def F36.r14 : List Oper := [
  ⟨(some 93), (.move (.tmp 11)), 95, "", #[], none⟩,
  ⟨(some 94), (.move (.tmp 12)), 95, "", #[], none⟩,
  ⟨(some 95), (.nilCheck (.tmp 94)), 0, "", #[], none⟩,
  ⟨(some 96), (.fieldAddr 98 (.tmp 95) 0), 0, "", #[], none⟩,
  ⟨(some 97), (.load 3 (.tmp 96)), 3, "", #[⟨0, .data⟩], none⟩,
  ⟨(some 98), (.nilCheck (.tmp 93)), 0, "", #[], none⟩,
  ⟨(some 99), (.fieldAddr 98 (.tmp 98) 4), 0, "", #[], none⟩,
  ⟨none, (.store 3 (.tmp 99) (.tmp 97)), 0, "", #[⟨0, .chain⟩], none⟩]
def F36.r15 : List Oper := [
  ⟨(some 8), (.assign (.const (.int .i64 0))), 3, "", #[], none⟩,
  ⟨(some 9), (.assign (.const (.int .i64 0))), 47, "", #[], none⟩]
def F36.r16 : List Oper := [
  ⟨(some 100), (.move (.tmp 0)), 29, "", #[], none⟩,
  ⟨(some 101), (.move (.tmp 11)), 95, "", #[], none⟩,
  ⟨(some 102), (.call ⟨(.value (.func 54)), #[(.tmp 100), (.tmp 101)], #[29, 95]⟩), 0, "", #[⟨0, .chain⟩], none⟩]
def F36.r17 : List Oper := [
  ⟨(some 103), (.move (.tmp 13)), 3, "", #[], none⟩,
  ⟨(some 8), (.assign (.tmp 103)), 3, "", #[], none⟩,
  ⟨(some 9), (.assign (.const (.int .i64 0))), 47, "", #[], none⟩]
def F36.t16 : Cd := (.seq (.region 16 F36.r16.toArray false) (.seq (.region 17 F36.r17.toArray false) .ret))
theorem F36.t16_eq {P : Program} {Q : Post} {e : FA} {w : World} {θ : Tag (F36.t16, Q, e, w)} : cwE P F36.t16 Q e w θ = cwE P (.seq (.region 16 F36.r16.toArray false) (.seq (.region 17 F36.r17.toArray false) .ret)) Q e w := rfl
def F36.t4 : Cd := (.seq (.region 4 F36.r4.toArray true) (.seq (.region 5 F36.r5.toArray false) (.seq (.block 0 (.seq (.region 6 F36.r6.toArray false) (.cond (.tmp 39) .skip (.seq (.region 7 F36.r7.toArray false) (.cond (.tmp 47) (.seq (.region 8 F36.r8.toArray false) (.seq (.region 9 F36.r9.toArray false) (.region 10 F36.r10.toArray false))) (.seq (.region 11 F36.r11.toArray false) (.cond (.tmp 67) (.region 12 F36.r12.toArray false) (.seq (.region 13 F36.r13.toArray false) (.cond (.tmp 80) (.seq (.region 14 F36.r14.toArray false) (.seq (.region 15 F36.r15.toArray false) .ret)) .skip))))))))) F36.t16)))
theorem F36.t4_eq {P : Program} {Q : Post} {e : FA} {w : World} {θ : Tag (F36.t4, Q, e, w)} : cwE P F36.t4 Q e w θ = cwE P (.seq (.region 4 F36.r4.toArray true) (.seq (.region 5 F36.r5.toArray false) (.seq (.block 0 (.seq (.region 6 F36.r6.toArray false) (.cond (.tmp 39) .skip (.seq (.region 7 F36.r7.toArray false) (.cond (.tmp 47) (.seq (.region 8 F36.r8.toArray false) (.seq (.region 9 F36.r9.toArray false) (.region 10 F36.r10.toArray false))) (.seq (.region 11 F36.r11.toArray false) (.cond (.tmp 67) (.region 12 F36.r12.toArray false) (.seq (.region 13 F36.r13.toArray false) (.cond (.tmp 80) (.seq (.region 14 F36.r14.toArray false) (.seq (.region 15 F36.r15.toArray false) .ret)) .skip))))))))) F36.t16))) Q e w := rfl
def F36.code : Cd := (.seq (.region 0 F36.r0.toArray false) (.seq (.seq (.region 1 F36.r1.toArray false) (.seq (.region 2 F36.r2.toArray false) (.cond (.tmp 20) (.seq (.region 3 F36.r3.toArray false) .ret) .skip))) F36.t4))
theorem F36.calls {args : Array Value} {w : World} {R : Ending → World → Prop} (hn : args.size ≤ 104) (h : cwE Try.prog F36.code (fnP Try.prog #[(.tmp 8), (.tmp 9)] R) (entry args) w) : Calls Try.prog 36 args w R :=
  calls_of_cwE (types := Try.prog.types) follows Try.func36 F36.code rfl (by kernel_rfl) hn h

def F52.r0 : List Oper := [
  ⟨(some 2), (.assign (.const (.slice none 0 0))), 31, "", #[], none⟩]
def F52.r1 : List Oper := [
  ⟨(some 3), (.assign (.const (.slice none 0 0))), 31, "", #[], none⟩]
def F52.r2 : List Oper := [
  ⟨(some 5), (.move (.tmp 0)), 29, "", #[], none⟩,
  ⟨(some 6), (.nilCheck (.tmp 5)), 0, "", #[], none⟩,
  ⟨(some 7), (.fieldAddr 94 (.tmp 6) 2), 0, "", #[], none⟩,
  ⟨(some 8), (.load 90 (.tmp 7)), 90, "", #[⟨0, .data⟩], none⟩,
  ⟨(some 9), (.range 90 (.tmp 8)), 0, "", #[⟨0, .chain⟩], none⟩]
def F52.r3 : List Oper := [
  ⟨(some 10), (.next (.tmp 9) false), 0, "", #[⟨0, .chain⟩], none⟩,
  ⟨(some 11), (.extract (.tmp 10) 0), 4, "", #[], none⟩]
def F52.r4 : List Oper := [
  ⟨(some 12), (.entry (.tmp 9)), 0, "", #[⟨0, .data⟩], none⟩,
  ⟨(some 13), (.extract (.tmp 12) 0), 3, "", #[], none⟩,
  ⟨(some 4), (.assign (.tmp 13)), 3, "", #[], none⟩]
def F52.r5 : List Oper := [
  ⟨(some 14), (.move (.tmp 3)), 31, "", #[], none⟩,
  ⟨(some 15), (.move (.tmp 4)), 3, "", #[], none⟩,
  ⟨(some 16), (.buildSlice 31 1 #[(0, (.tmp 15))]), 31, "", #[⟨0, .chain⟩], none⟩,
  ⟨(some 17), (.call ⟨(.builtin .append), #[(.tmp 14), (.tmp 16)], #[31, 31]⟩), 31, "", #[⟨0, .chain⟩], none⟩,
  ⟨(some 3), (.assign (.tmp 17)), 31, "", #[], none⟩]
def F52.r6 : List Oper := [
  ⟨(some 18), (.move (.tmp 3)), 31, "", #[], none⟩,
  ⟨(some 19), (.call ⟨(.value (.func 75)), #[(.tmp 18)], #[31]⟩), 0, "", #[⟨0, .chain⟩], none⟩]
def F52.r7 : List Oper := [
  ⟨(some 20), (.move (.tmp 3)), 31, "", #[], none⟩,
  ⟨(some 2), (.assign (.tmp 20)), 31, "", #[], none⟩]
def F52.t4 : Cd := (.block 1 (.seq (.region 4 F52.r4.toArray false) (.region 5 F52.r5.toArray false)))
theorem F52.t4_eq {P : Program} {Q : Post} {e : FA} {w : World} {θ : Tag (F52.t4, Q, e, w)} : cwE P F52.t4 Q e w θ = cwE P (.block 1 (.seq (.region 4 F52.r4.toArray false) (.region 5 F52.r5.toArray false))) Q e w := rfl
def F52.t6 : Cd := (.seq (.region 6 F52.r6.toArray false) (.seq (.region 7 F52.r7.toArray false) .ret))
theorem F52.t6_eq {P : Program} {Q : Post} {e : FA} {w : World} {θ : Tag (F52.t6, Q, e, w)} : cwE P F52.t6 Q e w θ = cwE P (.seq (.region 6 F52.r6.toArray false) (.seq (.region 7 F52.r7.toArray false) .ret)) Q e w := rfl
def F52.code : Cd := (.seq (.region 0 F52.r0.toArray false) (.seq (.region 1 F52.r1.toArray false) (.seq (.seq (.region 2 F52.r2.toArray false) (.block 0 (.loop (.seq (.region 3 F52.r3.toArray false) (.seq (.cond (.tmp 11) .skip (.exit 0)) F52.t4))))) F52.t6)))
theorem F52.calls {args : Array Value} {w : World} {R : Ending → World → Prop} (hn : args.size ≤ 21) (h : cwE Try.prog F52.code (fnP Try.prog #[(.tmp 2)] R) (entry args) w) : Calls Try.prog 52 args w R :=
  calls_of_cwE (types := Try.prog.types) follows Try.func52 F52.code rfl (by kernel_rfl) hn h

def F53.r0 : List Oper := [
  ⟨(some 5), (.move (.tmp 0)), 29, "", #[], none⟩,
  ⟨(some 6), (.nilCheck (.tmp 5)), 0, "", #[], none⟩,
  ⟨(some 7), (.fieldAddr 94 (.tmp 6) 2), 0, "", #[], none⟩,
  ⟨(some 8), (.load 90 (.tmp 7)), 90, "", #[⟨0, .data⟩], none⟩,
  ⟨(some 9), (.move (.tmp 1)), 3, "", #[], none⟩,
  ⟨(some 10), (.lookup 90 (.tmp 8) (.tmp 9) false), 95, "", #[⟨0, .data⟩], none⟩,
  ⟨(some 4), (.assign (.tmp 10)), 95, "", #[], none⟩]
def F53.r1 : List Oper := [
  ⟨(some 11), (.move (.tmp 4)), 95, "", #[], none⟩,
  ⟨(some 12), (.binOp .neq 95 (.tmp 11) (.const (.pointer none)) 95), 4, "", #[], none⟩]
def F53.r2 : List Oper := [
  ⟨(some 13), (.move (.tmp 0)), 29, "", #[], none⟩,
  ⟨(some 14), (.nilCheck (.tmp 13)), 0, "", #[], none⟩,
  ⟨(some 15), (.fieldAddr 94 (.tmp 14) 3), 0, "", #[], none⟩,
  ⟨(some 17), (.move (.tmp 4)), 95, "", #[], none⟩,
  ⟨(some 18), (.nilCheck (.tmp 17)), 0, "", #[], none⟩,
  ⟨(some 19), (.fieldAddr 98 (.tmp 18) 1), 0, "", #[], none⟩,
  ⟨(some 16), (.load 91 (.tmp 15)), 91, "", #[⟨256, .data⟩], none⟩,
  ⟨(some 20), (.load 37 (.tmp 19)), 37, "", #[⟨256, .data⟩], none⟩,
  ⟨none, (.call ⟨(.builtin .delete), #[(.tmp 16), (.tmp 20)], #[91, 37]⟩), 0, "", #[⟨8, .chain⟩], none⟩]
def F53.r3 : List Oper := [
  ⟨(some 21), (.move (.tmp 0)), 29, "", #[], none⟩,
  ⟨(some 22), (.nilCheck (.tmp 21)), 0, "", #[], none⟩,
  ⟨(some 23), (.fieldAddr 94 (.tmp 22) 2), 0, "", #[], none⟩,
  ⟨(some 24), (.load 90 (.tmp 23)), 90, "", #[⟨0, .data⟩], none⟩,
  ⟨(some 25), (.move (.tmp 1)), 3, "", #[], none⟩,
  ⟨none, (.call ⟨(.builtin .delete), #[(.tmp 24), (.tmp 25)], #[90, 3]⟩), 0, "", #[⟨0, .chain⟩], none⟩]
def F53.code : Cd := (.seq (.region 0 F53.r0.toArray false) (.seq (.region 1 F53.r1.toArray false) (.cond (.tmp 12) (.seq (.region 2 F53.r2.toArray true) (.region 3 F53.r3.toArray false)) .skip)))
theorem F53.calls {args : Array Value} {w : World} {R : Ending → World → Prop} (hn : args.size ≤ 26) (h : cwE Try.prog F53.code (fnP Try.prog #[] R) (entry args) w) : Calls Try.prog 53 args w R :=
  calls_of_cwE (types := Try.prog.types) follows Try.func53 F53.code rfl (by kernel_rfl) hn h

def F54.r0 : List Oper := [
  ⟨(some 4), (.move (.tmp 1)), 95, "", #[], none⟩,
  ⟨(some 5), (.nilCheck (.tmp 4)), 0, "", #[], none⟩,
  ⟨(some 6), (.fieldAddr 98 (.tmp 5) 2), 0, "", #[], none⟩,
  ⟨none, (.store 96 (.tmp 6) (.const (.int .u8 6))), 0, "", #[⟨0, .chain⟩], none⟩]
def F54.r1 : List Oper := [
  ⟨(some 7), (.move (.tmp 0)), 29, "", #[], none⟩,
  ⟨(some 8), (.move (.tmp 0)), 29, "", #[], none⟩,
  ⟨(some 9), (.nilCheck (.tmp 8)), 0, "", #[], none⟩,
  ⟨(some 10), (.fieldAddr 94 (.tmp 9) 4), 0, "", #[], none⟩,
  ⟨(some 12), (.move (.tmp 1)), 95, "", #[], none⟩,
  ⟨(some 13), (.nilCheck (.tmp 12)), 0, "", #[], none⟩,
  ⟨(some 14), (.fieldAddr 98 (.tmp 13) 1), 0, "", #[], none⟩,
  ⟨(some 17), (.move (.tmp 1)), 95, "", #[], none⟩,
  ⟨(some 18), (.nilCheck (.tmp 17)), 0, "", #[], none⟩,
  ⟨(some 19), (.fieldAddr 98 (.tmp 18) 0), 0, "", #[], none⟩,
  ⟨(some 11), (.load 92 (.tmp 10)), 92, "", #[⟨589824, .data⟩], none⟩,
  ⟨(some 15), (.load 37 (.tmp 14)), 37, "", #[⟨622592, .data⟩], none⟩,
  ⟨(some 16), (.build 77 #[(0, (.const (.int .u8 109))), (1, (.tmp 15))]), 77, "", #[], none⟩,
  ⟨(some 20), (.load 3 (.tmp 19)), 3, "", #[⟨622592, .data⟩], none⟩,
  ⟨(some 21), (.build 104 #[(0, (.tmp 16)), (1, (.tmp 20)), (2, (.const (.bool true)))]), 104, "", #[], none⟩,
  ⟨(some 22), (.buildSlice 92 1 #[(0, (.tmp 21))]), 92, "", #[⟨15, .chain⟩], none⟩,
  ⟨(some 23), (.call ⟨(.builtin .append), #[(.tmp 11), (.tmp 22)], #[92, 92]⟩), 92, "", #[⟨16, .chain⟩], none⟩,
  ⟨(some 24), (.nilCheck (.tmp 7)), 0, "", #[], none⟩,
  ⟨(some 25), (.fieldAddr 94 (.tmp 24) 4), 0, "", #[], none⟩,
  ⟨none, (.store 92 (.tmp 25) (.tmp 23)), 0, "", #[⟨19, .chain⟩], none⟩]
def F54.code : Cd := (.seq (.region 0 F54.r0.toArray false) (.region 1 F54.r1.toArray true))
theorem F54.calls {args : Array Value} {w : World} {R : Ending → World → Prop} (hn : args.size ≤ 26) (h : cwE Try.prog F54.code (fnP Try.prog #[] R) (entry args) w) : Calls Try.prog 54 args w R :=
  calls_of_cwE (types := Try.prog.types) follows Try.func54 F54.code rfl (by kernel_rfl) hn h

def F55.r0 : List Oper := [
  ⟨(some 3), (.box 98 (.tmp 1)), 0, "", #[⟨0, .chain⟩], none⟩,
  ⟨(some 4), (.assign (.const (.int .i64 0))), 47, "", #[], none⟩]
def F55.r1 : List Oper := [
  ⟨(some 8), (.move (.tmp 0)), 29, "", #[], none⟩,
  ⟨(some 9), (.nilCheck (.tmp 8)), 0, "", #[], none⟩,
  ⟨(some 10), (.fieldAddr 94 (.tmp 9) 3), 0, "", #[], none⟩,
  ⟨(some 12), (.fieldAddr 98 (.tmp 3) 1), 0, "", #[], none⟩,
  ⟨(some 11), (.load 91 (.tmp 10)), 91, "", #[⟨0, .data⟩], none⟩,
  ⟨(some 13), (.load 37 (.tmp 12)), 37, "", #[⟨0, .data⟩], none⟩,
  ⟨(some 14), (.lookup 91 (.tmp 11) (.tmp 13) true), 139, "", #[⟨0, .data⟩], none⟩,
  ⟨(some 7), (.move (.tmp 14)), 139, "", #[], none⟩,
  ⟨(some 15), (.extract (.tmp 7) 0), 3, "", #[], none⟩,
  ⟨(some 16), (.extract (.tmp 7) 1), 4, "", #[], none⟩,
  ⟨(some 5), (.assign (.tmp 15)), 3, "", #[], none⟩,
  ⟨(some 6), (.assign (.tmp 16)), 4, "", #[], none⟩]
def F55.r2 : List Oper := [
  ⟨(some 18), (.fieldAddr 98 (.tmp 3) 0), 0, "", #[], none⟩,
  ⟨(some 19), (.load 3 (.tmp 18)), 3, "", #[⟨0, .data⟩], none⟩,
  ⟨(some 20), (.binOp .leq 3 (.tmp 19) (.const (.int .i64 0)) 3), 4, "", #[], none⟩,
  ⟨(some 21), (.move (.tmp 20)), 4, "", #[], none⟩,
  ⟨(some 22), (.fieldAddr 98 (.tmp 3) 0), 0, "", #[], (some (21, false))⟩,
  ⟨(some 24), (.move (.tmp 0)), 29, "", #[], (some (21, false))⟩,
  ⟨(some 25), (.nilCheck (.tmp 24)), 0, "", #[], (some (21, false))⟩,
  ⟨(some 26), (.fieldAddr 94 (.tmp 25) 1), 0, "", #[], (some (21, false))⟩,
  ⟨(some 23), (.load 3 (.tmp 22)), 3, "", #[⟨0, .data⟩], (some (21, false))⟩,
  ⟨(some 27), (.load 3 (.tmp 26)), 3, "", #[⟨0, .data⟩], (some (21, false))⟩,
  ⟨(some 28), (.binOp .leq 3 (.tmp 23) (.tmp 27) 3), 4, "", #[], (some (21, false))⟩,
  ⟨(some 29), (.pick (.tmp 21) (.const (.bool true)) (.tmp 28)), 4, "", #[], none⟩,
  ⟨(some 17), (.assign (.tmp 29)), 4, "", #[], none⟩]
def F55.r3 : List Oper := [
  ⟨(some 4), (.assign (.const (.int .i64 1))), 47, "", #[], none⟩]
def F55.r4 : List Oper := [
  ⟨(some 31), (.fieldAddr 98 (.tmp 3) 1), 0, "", #[], none⟩,
  ⟨(some 32), (.load 37 (.tmp 31)), 37, "", #[⟨0, .data⟩], none⟩,
  ⟨(some 33), (.binOp .eql 37 (.tmp 32) (.const (.int .u16 65535)) 37), 4, "", #[], none⟩,
  ⟨(some 30), (.assign (.tmp 33)), 4, "", #[], none⟩]
def F55.r5 : List Oper := [
  ⟨(some 4), (.assign (.const (.int .i64 120))), 47, "", #[], none⟩]
def F55.r6 : List Oper := [
  ⟨(some 35), (.move (.tmp 6)), 4, "", #[], none⟩,
  ⟨(some 34), (.assign (.tmp 35)), 4, "", #[], none⟩]
def F55.r7 : List Oper := [
  ⟨(some 4), (.assign (.const (.int .i64 140))), 47, "", #[], none⟩]
def F55.r8 : List Oper := [
  ⟨(some 37), (.move (.tmp 0)), 29, "", #[], none⟩,
  ⟨(some 38), (.nilCheck (.tmp 37)), 0, "", #[], none⟩,
  ⟨(some 39), (.fieldAddr 94 (.tmp 38) 3), 0, "", #[], none⟩,
  ⟨(some 42), (.move (.tmp 0)), 29, "", #[], none⟩,
  ⟨(some 43), (.nilCheck (.tmp 42)), 0, "", #[], none⟩,
  ⟨(some 44), (.fieldAddr 94 (.tmp 43) 0), 0, "", #[], none⟩,
  ⟨(some 40), (.load 91 (.tmp 39)), 91, "", #[⟨0, .data⟩], none⟩,
  ⟨(some 41), (.call ⟨(.builtin .len), #[(.tmp 40)], #[91]⟩), 3, "", #[⟨0, .data⟩], none⟩,
  ⟨(some 45), (.load 3 (.tmp 44)), 3, "", #[⟨0, .data⟩], none⟩,
  ⟨(some 46), (.binOp .geq 3 (.tmp 41) (.tmp 45) 3), 4, "", #[], none⟩,
  ⟨(some 36), (.assign (.tmp 46)), 4, "", #[], none⟩]
def F55.r9 : List Oper := [
  ⟨(some 4), (.assign (.const (.int .i64 141))), 47, "", #[], none⟩]
def F55.r10 : List Oper := [
  ⟨(some 47), (.move (.tmp 0)), 29, "", #[], none⟩,
  ⟨(some 48), (.fieldAddr 98 (.tmp 3) 0), 0, "", #[], none⟩,
  ⟨(some 49), (.load 3 (.tmp 48)), 3, "", #[⟨0, .data⟩], none⟩,
  ⟨(some 50), (.nilCheck (.tmp 47)), 0, "", #[], none⟩,
  ⟨(some 51), (.fieldAddr 94 (.tmp 50) 1), 0, "", #[], none⟩,
  ⟨none, (.store 3 (.tmp 51) (.tmp 49)), 0, "", #[⟨0, .chain⟩], none⟩]
def F55.r11 : List Oper := [
  ⟨(some 52), (.move (.tmp 0)), 29, "", #[], none⟩,
  ⟨(some 53), (.nilCheck (.tmp 52)), 0, "", #[], none⟩,
  ⟨(some 54), (.fieldAddr 94 (.tmp 53) 3), 0, "", #[], none⟩,
  ⟨(some 56), (.fieldAddr 98 (.tmp 3) 1), 0, "", #[], none⟩,
  ⟨(some 58), (.fieldAddr 98 (.tmp 3) 0), 0, "", #[], none⟩,
  ⟨(some 55), (.load 91 (.tmp 54)), 91, "", #[⟨256, .data⟩], none⟩,
  ⟨(some 57), (.load 37 (.tmp 56)), 37, "", #[⟨256, .data⟩], none⟩,
  ⟨(some 59), (.load 3 (.tmp 58)), 3, "", #[⟨256, .data⟩], none⟩,
  ⟨none, (.mapUpdate 91 (.tmp 55) (.tmp 57) (.tmp 59)), 0, "", #[⟨8, .chain⟩], none⟩]
def F55.r12 : List Oper := [
  ⟨(some 60), (.move (.tmp 0)), 29, "", #[], none⟩,
  ⟨(some 61), (.nilCheck (.tmp 60)), 0, "", #[], none⟩,
  ⟨(some 62), (.fieldAddr 94 (.tmp 61) 2), 0, "", #[], none⟩,
  ⟨(some 64), (.fieldAddr 98 (.tmp 3) 0), 0, "", #[], none⟩,
  ⟨(some 63), (.load 90 (.tmp 62)), 90, "", #[⟨64, .data⟩], none⟩,
  ⟨(some 65), (.load 3 (.tmp 64)), 3, "", #[⟨64, .data⟩], none⟩,
  ⟨none, (.mapUpdate 90 (.tmp 63) (.tmp 65) (.tmp 3)), 0, "", #[⟨6, .chain⟩], none⟩]
def F55.r13 : List Oper := [
  ⟨(some 4), (.assign (.const (.int .i64 0))), 47, "", #[], none⟩]
def F55.t10 : Cd := (.seq (.region 10 F55.r10.toArray false) (.seq (.region 11 F55.r11.toArray true) (.seq (.region 12 F55.r12.toArray true) (.seq (.region 13 F55.r13.toArray false) .ret))))
theorem F55.t10_eq {P : Program} {Q : Post} {e : FA} {w : World} {θ : Tag (F55.t10, Q, e, w)} : cwE P F55.t10 Q e w θ = cwE P (.seq (.region 10 F55.r10.toArray false) (.seq (.region 11 F55.r11.toArray true) (.seq (.region 12 F55.r12.toArray true) (.seq (.region 13 F55.r13.toArray false) .ret)))) Q e w := rfl
def F55.code : Cd := (.seq (.region 0 F55.r0.toArray false) (.seq (.region 1 F55.r1.toArray true) (.seq (.block 0 (.seq (.region 2 F55.r2.toArray true) (.cond (.tmp 17) (.seq (.region 3 F55.r3.toArray false) .ret) (.seq (.region 4 F55.r4.toArray false) (.cond (.tmp 30) (.seq (.region 5 F55.r5.toArray false) .ret) (.seq (.region 6 F55.r6.toArray false) (.cond (.tmp 34) (.seq (.region 7 F55.r7.toArray false) .ret) (.seq (.region 8 F55.r8.toArray true) (.cond (.tmp 36) (.seq (.region 9 F55.r9.toArray false) .ret) .skip))))))))) F55.t10)))
theorem F55.calls {args : Array Value} {w : World} {R : Ending → World → Prop} (hn : args.size ≤ 66) (h : cwE Try.prog F55.code (fnP Try.prog #[(.tmp 4)] R) (entry args) w) : Calls Try.prog 55 args w R :=
  calls_of_cwE (types := Try.prog.types) follows Try.func55 F55.code rfl (by kernel_rfl) hn h

def F56.r0 : List Oper := [
  ⟨(some 2), (.assign (.const (.int .i64 0))), 3, "", #[], none⟩]
def F56.r1 : List Oper := [
  ⟨(some 3), (.assign (.const (.int .i64 0))), 3, "", #[], none⟩]
def F56.r2 : List Oper := [
  ⟨(some 4), (.assign (.const (.int .i64 0))), 3, "", #[], none⟩]
def F56.r3 : List Oper := [
  ⟨(some 5), (.move (.tmp 4)), 3, "", #[], none⟩,
  ⟨(some 6), (.move (.tmp 0)), 22, "", #[], none⟩,
  ⟨(some 7), (.nilCheck (.tmp 6)), 0, "", #[], none⟩,
  ⟨(some 8), (.fieldAddr 33 (.tmp 7) 2), 0, "", #[], none⟩,
  ⟨(some 9), (.load 31 (.tmp 8)), 31, "", #[⟨0, .data⟩], none⟩,
  ⟨(some 10), (.call ⟨(.builtin .len), #[(.tmp 9)], #[31]⟩), 3, "", #[], none⟩,
  ⟨(some 11), (.binOp .lss 3 (.tmp 5) (.tmp 10) 3), 4, "", #[], none⟩]
def F56.r5 : List Oper := [
  ⟨(some 14), (.move (.tmp 0)), 22, "", #[], none⟩,
  ⟨(some 15), (.nilCheck (.tmp 14)), 0, "", #[], none⟩,
  ⟨(some 16), (.fieldAddr 33 (.tmp 15) 2), 0, "", #[], none⟩,
  ⟨(some 17), (.load 31 (.tmp 16)), 31, "", #[⟨0, .data⟩], none⟩,
  ⟨(some 18), (.move (.tmp 4)), 3, "", #[], none⟩,
  ⟨(some 19), (.indexAddr 31 (.tmp 17) (.tmp 18)), 0, "", #[], none⟩,
  ⟨(some 20), (.load 3 (.tmp 19)), 3, "", #[⟨0, .data⟩], none⟩,
  ⟨(some 21), (.binOp .geq 3 (.tmp 20) (.const (.int .i64 0)) 3), 4, "", #[], none⟩]
def F56.r6 : List Oper := [
  ⟨(some 22), (.move (.tmp 3)), 3, "", #[], none⟩,
  ⟨(some 23), (.binOp .add 3 (.tmp 22) (.const (.int .i64 1)) 3), 3, "", #[], none⟩,
  ⟨(some 3), (.assign (.tmp 23)), 3, "", #[], none⟩]
def F56.r4 : List Oper := [
  ⟨(some 12), (.move (.tmp 4)), 3, "", #[], none⟩,
  ⟨(some 13), (.binOp .add 3 (.tmp 12) (.const (.int .i64 1)) 3), 3, "", #[], none⟩,
  ⟨(some 4), (.assign (.tmp 13)), 3, "", #[], none⟩]
def F56.r7 : List Oper := [
  ⟨(some 24), (.move (.tmp 3)), 3, "", #[], none⟩,
  ⟨(some 2), (.assign (.tmp 24)), 3, "", #[], none⟩]
def F56.t4 : Cd := (.region 4 F56.r4.toArray false)
theorem F56.t4_eq {P : Program} {Q : Post} {e : FA} {w : World} {θ : Tag (F56.t4, Q, e, w)} : cwE P F56.t4 Q e w θ = cwE P (.region 4 F56.r4.toArray false) Q e w := rfl
def F56.t5 : Cd := (.seq (.block 1 (.seq (.region 5 F56.r5.toArray false) (.cond (.tmp 21) (.region 6 F56.r6.toArray false) .skip))) F56.t4)
theorem F56.t5_eq {P : Program} {Q : Post} {e : FA} {w : World} {θ : Tag (F56.t5, Q, e, w)} : cwE P F56.t5 Q e w θ = cwE P (.seq (.block 1 (.seq (.region 5 F56.r5.toArray false) (.cond (.tmp 21) (.region 6 F56.r6.toArray false) .skip))) F56.t4) Q e w := rfl
def F56.t7 : Cd := (.seq (.region 7 F56.r7.toArray false) .ret)
theorem F56.t7_eq {P : Program} {Q : Post} {e : FA} {w : World} {θ : Tag (F56.t7, Q, e, w)} : cwE P F56.t7 Q e w θ = cwE P (.seq (.region 7 F56.r7.toArray false) .ret) Q e w := rfl
def F56.code : Cd := (.seq (.region 0 F56.r0.toArray false) (.seq (.region 1 F56.r1.toArray false) (.seq (.seq (.region 2 F56.r2.toArray false) (.block 0 (.loop (.seq (.seq (.region 3 F56.r3.toArray false) (.cond (.tmp 11) .skip (.exit 0))) F56.t5)))) F56.t7)))
theorem F56.calls {args : Array Value} {w : World} {R : Ending → World → Prop} (hn : args.size ≤ 25) (h : cwE Try.prog F56.code (fnP Try.prog #[(.tmp 2)] R) (entry args) w) : Calls Try.prog 56 args w R :=
  calls_of_cwE (types := Try.prog.types) follows Try.func56 F56.code rfl (by kernel_rfl) hn h

def F59.r0 : List Oper := [
  ⟨(some 2), (.assign (.const (.slice none 0 0))), 68, "", #[], none⟩]
def F59.r1 : List Oper := [
  ⟨(some 3), (.move (.tmp 0)), 68, "", #[], none⟩,
  ⟨(some 4), (.binOp .eql 68 (.tmp 3) (.const (.slice none 0 0)) 68), 4, "", #[], none⟩]
def F59.r2 : List Oper := [
  ⟨(some 2), (.assign (.const (.slice none 0 0))), 68, "", #[], none⟩]
def F59.r3 : List Oper := [
  ⟨(some 5), (.buildSlice 68 0 #[]), 68, "", #[⟨0, .chain⟩], none⟩,
  ⟨(some 6), (.move (.tmp 0)), 68, "", #[], none⟩,
  ⟨(some 7), (.call ⟨(.builtin .append), #[(.tmp 5), (.tmp 6)], #[68, 68]⟩), 68, "", #[⟨0, .chain⟩], none⟩,
  ⟨(some 2), (.assign (.tmp 7)), 68, "", #[], none⟩]
def F59.t3 : Cd := (.seq (.region 3 F59.r3.toArray false) .ret)
theorem F59.t3_eq {P : Program} {Q : Post} {e : FA} {w : World} {θ : Tag (F59.t3, Q, e, w)} : cwE P F59.t3 Q e w θ = cwE P (.seq (.region 3 F59.r3.toArray false) .ret) Q e w := rfl
def F59.code : Cd := (.seq (.region 0 F59.r0.toArray false) (.seq (.seq (.region 1 F59.r1.toArray false) (.cond (.tmp 4) (.seq (.region 2 F59.r2.toArray false) .ret) .skip)) F59.t3))
theorem F59.calls {args : Array Value} {w : World} {R : Ending → World → Prop} (hn : args.size ≤ 8) (h : cwE Try.prog F59.code (fnP Try.prog #[(.tmp 2)] R) (entry args) w) : Calls Try.prog 59 args w R :=
  calls_of_cwE (types := Try.prog.types) follows Try.func59 F59.code rfl (by kernel_rfl) hn h

def F60.r0 : List Oper := [
  ⟨(some 2), (.assign (.const (.slice none 0 0))), 69, "", #[], none⟩]
def F60.r1 : List Oper := [
  ⟨(some 3), (.move (.tmp 0)), 69, "", #[], none⟩,
  ⟨(some 4), (.binOp .eql 69 (.tmp 3) (.const (.slice none 0 0)) 69), 4, "", #[], none⟩]
def F60.r2 : List Oper := [
  ⟨(some 2), (.assign (.const (.slice none 0 0))), 69, "", #[], none⟩]
def F60.r3 : List Oper := [
  ⟨(some 5), (.buildSlice 69 0 #[]), 69, "", #[⟨0, .chain⟩], none⟩,
  ⟨(some 6), (.move (.tmp 0)), 69, "", #[], none⟩,
  ⟨(some 7), (.call ⟨(.builtin .append), #[(.tmp 5), (.tmp 6)], #[69, 69]⟩), 69, "", #[⟨0, .chain⟩], none⟩,
  ⟨(some 2), (.assign (.tmp 7)), 69, "", #[], none⟩]
def F60.t3 : Cd := (.seq (.region 3 F60.r3.toArray false) .ret)
theorem F60.t3_eq {P : Program} {Q : Post} {e : FA} {w : World} {θ : Tag (F60.t3, Q, e, w)} : cwE P F60.t3 Q e w θ = cwE P (.seq (.region 3 F60.r3.toArray false) .ret) Q e w := rfl
def F60.code : Cd := (.seq (.region 0 F60.r0.toArray false) (.seq (.seq (.region 1 F60.r1.toArray false) (.cond (.tmp 4) (.seq (.region 2 F60.r2.toArray false) .ret) .skip)) F60.t3))
theorem F60.calls {args : Array Value} {w : World} {R : Ending → World → Prop} (hn : args.size ≤ 8) (h : cwE Try.prog F60.code (fnP Try.prog #[(.tmp 2)] R) (entry args) w) : Calls Try.prog 60 args w R :=
  calls_of_cwE (types := Try.prog.types) follows Try.func60 F60.code rfl (by kernel_rfl) hn h

def F61.r0 : List Oper := [
  ⟨(some 2), (.assign (.const (.slice none 0 0))), 73, "", #[], none⟩]
def F61.r1 : List Oper := [
  ⟨(some 3), (.move (.tmp 0)), 73, "", #[], none⟩,
  ⟨(some 4), (.binOp .eql 73 (.tmp 3) (.const (.slice none 0 0)) 73), 4, "", #[], none⟩]
def F61.r2 : List Oper := [
  ⟨(some 2), (.assign (.const (.slice none 0 0))), 73, "", #[], none⟩]
def F61.r3 : List Oper := [
  ⟨(some 5), (.buildSlice 73 0 #[]), 73, "", #[⟨0, .chain⟩], none⟩,
  ⟨(some 6), (.move (.tmp 0)), 73, "", #[], none⟩,
  ⟨(some 7), (.call ⟨(.builtin .append), #[(.tmp 5), (.tmp 6)], #[73, 73]⟩), 73, "", #[⟨0, .chain⟩], none⟩,
  ⟨(some 2), (.assign (.tmp 7)), 73, "", #[], none⟩]
def F61.t3 : Cd := (.seq (.region 3 F61.r3.toArray false) .ret)
theorem F61.t3_eq {P : Program} {Q : Post} {e : FA} {w : World} {θ : Tag (F61.t3, Q, e, w)} : cwE P F61.t3 Q e w θ = cwE P (.seq (.region 3 F61.r3.toArray false) .ret) Q e w := rfl
def F61.code : Cd := (.seq (.region 0 F61.r0.toArray false) (.seq (.seq (.region 1 F61.r1.toArray false) (.cond (.tmp 4) (.seq (.region 2 F61.r2.toArray false) .ret) .skip)) F61.t3))
theorem F61.calls {args : Array Value} {w : World} {R : Ending → World → Prop} (hn : args.size ≤ 8) (h : cwE Try.prog F61.code (fnP Try.prog #[(.tmp 2)] R) (entry args) w) : Calls Try.prog 61 args w R :=
  calls_of_cwE (types := Try.prog.types) follows Try.func61 F61.code rfl (by kernel_rfl) hn h

attribute [go_sem] fact_aggSz_104
attribute [go_sem] fact_aggSz_28
attribute [go_sem] fact_aggSz_29
attribute [go_sem] fact_aggSz_3
attribute [go_sem] fact_aggSz_30
attribute [go_sem] fact_aggSz_31
attribute [go_sem] fact_aggSz_37
attribute [go_sem] fact_aggSz_39
attribute [go_sem] fact_aggSz_4
attribute [go_sem] fact_aggSz_66
attribute [go_sem] fact_aggSz_68
attribute [go_sem] fact_aggSz_69
attribute [go_sem] fact_aggSz_73
attribute [go_sem] fact_aggSz_77
attribute [go_sem] fact_aggSz_9
attribute [go_sem] fact_aggSz_90
attribute [go_sem] fact_aggSz_91
attribute [go_sem] fact_aggSz_92
attribute [go_sem] fact_aggSz_96
attribute [go_sem] fact_bldP_100
attribute [go_sem] fact_bldP_104
attribute [go_sem] fact_bldP_33
attribute [go_sem] fact_bldP_39
attribute [go_sem] fact_bldP_77
attribute [go_sem] fact_bldP_94
attribute [go_sem] fact_bldP_98
attribute [go_sem] fact_elemOf_25
attribute [go_sem] fact_elemOf_30
attribute [go_sem] fact_elemOf_31
attribute [go_sem] fact_elemOf_92
attribute [go_sem] fact_fieldOff_100_0
attribute [go_sem] fact_fieldOff_104_0
attribute [go_sem] fact_fieldOff_104_1
attribute [go_sem] fact_fieldOff_104_2
attribute [go_sem] fact_fieldOff_28_0
attribute [go_sem] fact_fieldOff_28_1
attribute [go_sem] fact_fieldOff_28_2
attribute [go_sem] fact_fieldOff_33_0
attribute [go_sem] fact_fieldOff_33_1
attribute [go_sem] fact_fieldOff_33_2
attribute [go_sem] fact_fieldOff_33_3
attribute [go_sem] fact_fieldOff_39_0
attribute [go_sem] fact_fieldOff_39_1
attribute [go_sem] fact_fieldOff_39_2
attribute [go_sem] fact_fieldOff_39_3
attribute [go_sem] fact_fieldOff_39_4
attribute [go_sem] fact_fieldOff_39_5
attribute [go_sem] fact_fieldOff_39_6
attribute [go_sem] fact_fieldOff_77_0
attribute [go_sem] fact_fieldOff_77_1
attribute [go_sem] fact_fieldOff_77_11
attribute [go_sem] fact_fieldOff_77_12
attribute [go_sem] fact_fieldOff_77_20
attribute [go_sem] fact_fieldOff_77_7
attribute [go_sem] fact_fieldOff_94_0
attribute [go_sem] fact_fieldOff_94_1
attribute [go_sem] fact_fieldOff_94_2
attribute [go_sem] fact_fieldOff_94_3
attribute [go_sem] fact_fieldOff_94_4
attribute [go_sem] fact_fieldOff_98_0
attribute [go_sem] fact_fieldOff_98_1
attribute [go_sem] fact_fieldOff_98_2
attribute [go_sem] fact_fieldOff_98_4
attribute [go_sem] fact_fieldOff_98_5
attribute [go_sem] fact_fnOk_10
attribute [go_sem] fact_fnOk_11
attribute [go_sem] fact_fnOk_12
attribute [go_sem] fact_fnOk_13
attribute [go_sem] fact_fnOk_15
attribute [go_sem] fact_fnOk_21
attribute [go_sem] fact_fnOk_22
attribute [go_sem] fact_fnOk_23
attribute [go_sem] fact_fnOk_24
attribute [go_sem] fact_fnOk_25
attribute [go_sem] fact_fnOk_26
attribute [go_sem] fact_fnOk_27
attribute [go_sem] fact_fnOk_28
attribute [go_sem] fact_fnOk_29
attribute [go_sem] fact_fnOk_30
attribute [go_sem] fact_fnOk_32
attribute [go_sem] fact_fnOk_36
attribute [go_sem] fact_fnOk_52
attribute [go_sem] fact_fnOk_53
attribute [go_sem] fact_fnOk_54
attribute [go_sem] fact_fnOk_55
attribute [go_sem] fact_fnOk_56
attribute [go_sem] fact_fnOk_57
attribute [go_sem] fact_fnOk_58
attribute [go_sem] fact_fnOk_59
attribute [go_sem] fact_fnOk_60
attribute [go_sem] fact_fnOk_61
attribute [go_sem] fact_fnOk_7
attribute [go_sem] fact_fnOk_75
attribute [go_sem] fact_fnOk_8
attribute [go_sem] fact_fnOk_9
attribute [go_sem] fact_szO_104
attribute [go_sem] fact_szO_3
attribute [go_sem] fact_szO_30
attribute [go_sem] fact_szO_31
attribute [go_sem] fact_szO_37
attribute [go_sem] fact_szO_39
attribute [go_sem] fact_szO_4
attribute [go_sem] fact_szO_68
attribute [go_sem] fact_szO_69
attribute [go_sem] fact_szO_73
attribute [go_sem] fact_szO_77
attribute [go_sem] fact_szO_92
attribute [go_sem] fact_szO_96
attribute [go_sem] fact_zeroV_104
attribute [go_sem] fact_zeroV_39
attribute [go_sem] fact_zeroV_77
attribute [go_sem] Try.underlying3
attribute [go_sem] Try.underlying4
attribute [go_sem] Try.underlying22
attribute [go_sem] Try.underlying25
attribute [go_sem] Try.underlying29
attribute [go_sem] Try.underlying30
attribute [go_sem] Try.underlying31
attribute [go_sem] Try.underlying37
attribute [go_sem] Try.underlying40
attribute [go_sem] Try.underlying42
attribute [go_sem] Try.underlying68
attribute [go_sem] Try.underlying69
attribute [go_sem] Try.underlying73
attribute [go_sem] Try.underlying91
attribute [go_sem] Try.underlying92
attribute [go_sem] Try.underlying95
attribute [go_sem] Try.underlying128
attribute [go_sem] F3.r0
attribute [go_sem] F3.r1
attribute [go_sem] F3.r2
attribute [go_sem] F4.r0
attribute [go_sem] F4.r1
attribute [go_sem] F4.r2
attribute [go_sem] F4.r3
attribute [go_sem] F4.r4
attribute [go_sem] F4.r5
attribute [go_sem] F4.r7
attribute [go_sem] F4.r8
attribute [go_sem] F4.r9
attribute [go_sem] F4.r6
attribute [go_sem] F4.r10
attribute [go_sem] F4.r11
attribute [go_sem] F4.r13
attribute [go_sem] F4.r14
attribute [go_sem] F4.r15
attribute [go_sem] F4.r16
attribute [go_sem] F4.r12
attribute [go_sem] F4.r17
attribute [go_sem] F4.r18
attribute [go_sem] F4.r19
attribute [go_sem] F4.r20
attribute [go_sem] F4.r22
attribute [go_sem] F4.r23
attribute [go_sem] F4.r24
attribute [go_sem] F4.r25
attribute [go_sem] F4.r21
attribute [go_sem] F4.r26
attribute [go_sem] F4.r27
attribute [go_sem] F4.r28
attribute [go_sem] F4.r29
attribute [go_sem] F4.r31
attribute [go_sem] F4.r32
attribute [go_sem] F4.r30
attribute [go_sem] F4.r33
attribute [go_sem] F4.r34
attribute [go_sem] F4.r35
attribute [go_sem] F6.r0
attribute [go_sem] F6.r1
attribute [go_sem] F6.r2
attribute [go_sem] F6.r3
attribute [go_sem] F6.r4
attribute [go_sem] F6.r5
attribute [go_sem] F6.r7
attribute [go_sem] F6.r8
attribute [go_sem] F6.r9
attribute [go_sem] F6.r6
attribute [go_sem] F6.r10
attribute [go_sem] F6.r11
attribute [go_sem] F6.r12
attribute [go_sem] F6.r13
attribute [go_sem] F6.r15
attribute [go_sem] F6.r16
attribute [go_sem] F6.r17
attribute [go_sem] F6.r18
attribute [go_sem] F6.r19
attribute [go_sem] F6.r14
attribute [go_sem] F6.r20
attribute [go_sem] F6.r21
attribute [go_sem] F6.r22
attribute [go_sem] F6.r23
attribute [go_sem] F6.r24
attribute [go_sem] F6.r25
attribute [go_sem] F6.r26
attribute [go_sem] F6.r28
attribute [go_sem] F6.r29
attribute [go_sem] F6.r30
attribute [go_sem] F6.r31
attribute [go_sem] F6.r27
attribute [go_sem] F6.r32
attribute [go_sem] F6.r33
attribute [go_sem] F6.r34
attribute [go_sem] F6.r35
attribute [go_sem] F6.r36
attribute [go_sem] F7.r0
attribute [go_sem] F7.r1
attribute [go_sem] F7.r2
attribute [go_sem] F7.r3
attribute [go_sem] F7.r4
attribute [go_sem] F7.r5
attribute [go_sem] F7.r6
attribute [go_sem] F7.r8
attribute [go_sem] F7.r7
attribute [go_sem] F7.r9
attribute [go_sem] F7.r10
attribute [go_sem] F7.r11
attribute [go_sem] F7.r12
attribute [go_sem] F7.r13
attribute [go_sem] F7.r14
attribute [go_sem] F7.r15
attribute [go_sem] F7.r16
attribute [go_sem] F7.r17
attribute [go_sem] F8.r0
attribute [go_sem] F8.r1
attribute [go_sem] F8.r2
attribute [go_sem] F8.r3
attribute [go_sem] F8.r4
attribute [go_sem] F8.r5
attribute [go_sem] F8.r6
attribute [go_sem] F8.r7
attribute [go_sem] F8.r8
attribute [go_sem] F8.r9
attribute [go_sem] F8.r10
attribute [go_sem] F8.r11
attribute [go_sem] F8.r12
attribute [go_sem] F8.r13
attribute [go_sem] F8.r14
attribute [go_sem] F8.r15
attribute [go_sem] F8.r16
attribute [go_sem] F8.r17
attribute [go_sem] F8.r18
attribute [go_sem] F8.r19
attribute [go_sem] F8.r20
attribute [go_sem] F8.r21
attribute [go_sem] F8.r22
attribute [go_sem] F8.r23
attribute [go_sem] F8.r24
attribute [go_sem] F9.r0
attribute [go_sem] F9.r1
attribute [go_sem] F9.r2
attribute [go_sem] F9.r3
attribute [go_sem] F9.r4
attribute [go_sem] F9.r5
attribute [go_sem] F9.r6
attribute [go_sem] F10.r0
attribute [go_sem] F10.r1
attribute [go_sem] F10.r2
attribute [go_sem] F10.r3
attribute [go_sem] F10.r4
attribute [go_sem] F10.r5
attribute [go_sem] F10.r6
attribute [go_sem] F11.r0
attribute [go_sem] F11.r1
attribute [go_sem] F11.r2
attribute [go_sem] F11.r3
attribute [go_sem] F11.r4
attribute [go_sem] F11.r5
attribute [go_sem] F11.r6
attribute [go_sem] F11.r7
attribute [go_sem] F11.r8
attribute [go_sem] F11.r9
attribute [go_sem] F11.r10
attribute [go_sem] F11.r11
attribute [go_sem] F11.r12
attribute [go_sem] F11.r13
attribute [go_sem] F11.r14
attribute [go_sem] F11.r15
attribute [go_sem] F11.r16
attribute [go_sem] F11.r17
attribute [go_sem] F11.r18
attribute [go_sem] F11.r19
attribute [go_sem] F11.r20
attribute [go_sem] F11.r21
attribute [go_sem] F11.r22
attribute [go_sem] F11.r23
attribute [go_sem] F11.r24
attribute [go_sem] F11.r25
attribute [go_sem] F11.r26
attribute [go_sem] F11.r27
attribute [go_sem] F11.r28
attribute [go_sem] F12.r0
attribute [go_sem] F12.r1
attribute [go_sem] F12.r2
attribute [go_sem] F12.r3
attribute [go_sem] F12.r4
attribute [go_sem] F12.r5
attribute [go_sem] F12.r6
attribute [go_sem] F12.r7
attribute [go_sem] F13.r0
attribute [go_sem] F13.r1
attribute [go_sem] F13.r2
attribute [go_sem] F13.r3
attribute [go_sem] F13.r4
attribute [go_sem] F13.r5
attribute [go_sem] F13.r6
attribute [go_sem] F13.r7
attribute [go_sem] F15.r0
attribute [go_sem] F15.r1
attribute [go_sem] F15.r2
attribute [go_sem] F15.r3
attribute [go_sem] F21.r0
attribute [go_sem] F21.r1
attribute [go_sem] F21.r2
attribute [go_sem] F21.r3
attribute [go_sem] F21.r4
attribute [go_sem] F21.r5
attribute [go_sem] F21.r6
attribute [go_sem] F21.r7
attribute [go_sem] F21.r8
attribute [go_sem] F21.r9
attribute [go_sem] F21.r10
attribute [go_sem] F21.r11
attribute [go_sem] F22.r0
attribute [go_sem] F22.r1
attribute [go_sem] F22.r2
attribute [go_sem] F22.r3
attribute [go_sem] F22.r4
attribute [go_sem] F22.r5
attribute [go_sem] F22.r6
attribute [go_sem] F22.r7
attribute [go_sem] F22.r8
attribute [go_sem] F22.r9
attribute [go_sem] F23.r0
attribute [go_sem] F23.r1
attribute [go_sem] F23.r2
attribute [go_sem] F23.r3
attribute [go_sem] F23.r4
attribute [go_sem] F23.r5
attribute [go_sem] F24.r0
attribute [go_sem] F24.r1
attribute [go_sem] F24.r2
attribute [go_sem] F24.r3
attribute [go_sem] F24.r4
attribute [go_sem] F24.r5
attribute [go_sem] F24.r6
attribute [go_sem] F24.r7
attribute [go_sem] F24.r8
attribute [go_sem] F24.r9
attribute [go_sem] F24.r10
attribute [go_sem] F24.r11
attribute [go_sem] F24.r12
attribute [go_sem] F24.r13
attribute [go_sem] F24.r14
attribute [go_sem] F24.r15
attribute [go_sem] F24.r16
attribute [go_sem] F24.r17
attribute [go_sem] F25.r0
attribute [go_sem] F25.r1
attribute [go_sem] F26.r0
attribute [go_sem] F26.r1
attribute [go_sem] F26.r2
attribute [go_sem] F26.r3
attribute [go_sem] F27.r0
attribute [go_sem] F27.r1
attribute [go_sem] F27.r2
attribute [go_sem] F27.r3
attribute [go_sem] F27.r4
attribute [go_sem] F27.r5
attribute [go_sem] F27.r6
attribute [go_sem] F27.r7
attribute [go_sem] F27.r8
attribute [go_sem] F27.r9
attribute [go_sem] F27.r10
attribute [go_sem] F27.r11
attribute [go_sem] F27.r12
attribute [go_sem] F27.r13
attribute [go_sem] F27.r14
attribute [go_sem] F27.r15
attribute [go_sem] F27.r16
attribute [go_sem] F27.r17
attribute [go_sem] F27.r18
attribute [go_sem] F27.r19
attribute [go_sem] F27.r20
attribute [go_sem] F27.r21
attribute [go_sem] F27.r22
attribute [go_sem] F27.r23
attribute [go_sem] F27.r24
attribute [go_sem] F28.r0
attribute [go_sem] F28.r1
attribute [go_sem] F29.r0
attribute [go_sem] F29.r1
attribute [go_sem] F29.r2
attribute [go_sem] F29.r4
attribute [go_sem] F29.r5
attribute [go_sem] F29.r3
attribute [go_sem] F29.r6
attribute [go_sem] F30.r0
attribute [go_sem] F30.r1
attribute [go_sem] F31.r0
attribute [go_sem] F31.r1
attribute [go_sem] F32.r0
attribute [go_sem] F32.r1
attribute [go_sem] F32.r2
attribute [go_sem] F32.r3
attribute [go_sem] F32.r4
attribute [go_sem] F36.r0
attribute [go_sem] F36.r1
attribute [go_sem] F36.r2
attribute [go_sem] F36.r3
attribute [go_sem] F36.r4
attribute [go_sem] F36.r5
attribute [go_sem] F36.r6
attribute [go_sem] F36.r7
attribute [go_sem] F36.r8
attribute [go_sem] F36.r9
attribute [go_sem] F36.r10
attribute [go_sem] F36.r11
attribute [go_sem] F36.r12
attribute [go_sem] F36.r13
attribute [go_sem] F36.r14
attribute [go_sem] F36.r15
attribute [go_sem] F36.r16
attribute [go_sem] F36.r17
attribute [go_sem] F52.r0
attribute [go_sem] F52.r1
attribute [go_sem] F52.r2
attribute [go_sem] F52.r3
attribute [go_sem] F52.r4
attribute [go_sem] F52.r5
attribute [go_sem] F52.r6
attribute [go_sem] F52.r7
attribute [go_sem] F53.r0
attribute [go_sem] F53.r1
attribute [go_sem] F53.r2
attribute [go_sem] F53.r3
attribute [go_sem] F54.r0
attribute [go_sem] F54.r1
attribute [go_sem] F55.r0
attribute [go_sem] F55.r1
attribute [go_sem] F55.r2
attribute [go_sem] F55.r3
attribute [go_sem] F55.r4
attribute [go_sem] F55.r5
attribute [go_sem] F55.r6
attribute [go_sem] F55.r7
attribute [go_sem] F55.r8
attribute [go_sem] F55.r9
attribute [go_sem] F55.r10
attribute [go_sem] F55.r11
attribute [go_sem] F55.r12
attribute [go_sem] F55.r13
attribute [go_sem] F56.r0
attribute [go_sem] F56.r1
attribute [go_sem] F56.r2
attribute [go_sem] F56.r3
attribute [go_sem] F56.r5
attribute [go_sem] F56.r6
attribute [go_sem] F56.r4
attribute [go_sem] F56.r7
attribute [go_sem] F59.r0
attribute [go_sem] F59.r1
attribute [go_sem] F59.r2
attribute [go_sem] F59.r3
attribute [go_sem] F60.r0
attribute [go_sem] F60.r1
attribute [go_sem] F60.r2
attribute [go_sem] F60.r3
attribute [go_sem] F61.r0
attribute [go_sem] F61.r1
attribute [go_sem] F61.r2
attribute [go_sem] F61.r3

end Go.Proofs.Yteefkhfmpcaccaa

/- The compiled code of the functions, by program (genir.py): each with the theorem that it is what the engine makes of the loaded program's. -/
import Derived.Test.YtlnlomjdooobdaaDoorSl2
import Derived.Test.YtlnlomjdooobdaaDoorProg
namespace Go.Proofs.YtlnlomjdooobdaaDoor
open Go
set_option maxRecDepth 100000

theorem follows : Tryd.prog.follows .mixedOrders = true := by kernel_rfl

theorem fact_aggSz_111 : aggSz Tryd.prog 111 = some (some 2) := by kernel_rfl
theorem fact_aggSz_21 : aggSz Tryd.prog 21 = some none := by kernel_rfl
theorem fact_aggSz_24 : aggSz Tryd.prog 24 = some none := by kernel_rfl
theorem fact_aggSz_26 : aggSz Tryd.prog 26 = some (some 2) := by kernel_rfl
theorem fact_aggSz_27 : aggSz Tryd.prog 27 = some none := by kernel_rfl
theorem fact_aggSz_3 : aggSz Tryd.prog 3 = some none := by kernel_rfl
theorem fact_aggSz_4 : aggSz Tryd.prog 4 = some none := by kernel_rfl
theorem fact_aggSz_5 : aggSz Tryd.prog 5 = some none := by kernel_rfl
theorem fact_aggSz_56 : aggSz Tryd.prog 56 = some none := by kernel_rfl
theorem fact_aggSz_59 : aggSz Tryd.prog 59 = some none := by kernel_rfl
theorem fact_aggSz_60 : aggSz Tryd.prog 60 = some none := by kernel_rfl
theorem fact_aggSz_62 : aggSz Tryd.prog 62 = some (some 3) := by kernel_rfl
theorem fact_aggSz_69 : aggSz Tryd.prog 69 = some none := by kernel_rfl
theorem fact_aggSz_70 : aggSz Tryd.prog 70 = some none := by kernel_rfl
theorem fact_aggSz_88 : aggSz Tryd.prog 88 = some none := by kernel_rfl
theorem fact_aggSz_9 : aggSz Tryd.prog 9 = some none := by kernel_rfl
theorem fact_aggSz_94 : aggSz Tryd.prog 94 = some (some 2) := by kernel_rfl
theorem fact_arrEx_9 : arrEx Tryd.prog 9 = (0, none) := by kernel_rfl
theorem fact_bldP_26 : bldP Tryd.prog 26 = some ([.bool false, .slice none 0 0], some [(0, 1), (1, 1)], 0) := by kernel_rfl
theorem fact_bldP_62 : bldP Tryd.prog 62 = some ([.bool false, .bool false, .slice none 0 0], some [(0, 1), (1, 1), (2, 1)], 0) := by kernel_rfl
theorem fact_bldP_82 : bldP Tryd.prog 82 = some ([], some [], 0) := by kernel_rfl
theorem fact_bldP_86 : bldP Tryd.prog 86 = some ([], some [], 0) := by kernel_rfl
theorem fact_bldP_90 : bldP Tryd.prog 90 = some ([.slice none 0 0, .int .i64 0], some [(0, 1), (1, 1)], 0) := by kernel_rfl
theorem fact_bldP_94 : bldP Tryd.prog 94 = some ([.int .i32 0, .int .i32 0], some [(0, 1), (1, 1)], 0) := by kernel_rfl
theorem fact_elemOf_109 : elemOf? Tryd.prog 109 = some (some 256, 1) := by kernel_rfl
theorem fact_elemOf_112 : elemOf? Tryd.prog 112 = some (some 16, 2) := by kernel_rfl
theorem fact_elemOf_23 : elemOf? Tryd.prog 23 = some (none, 1) := by kernel_rfl
theorem fact_elemOf_24 : elemOf? Tryd.prog 24 = some (none, 1) := by kernel_rfl
theorem fact_elemOf_56 : elemOf? Tryd.prog 56 = some (none, 3) := by kernel_rfl
theorem fact_elemOf_59 : elemOf? Tryd.prog 59 = some (none, 1) := by kernel_rfl
theorem fact_elemOf_60 : elemOf? Tryd.prog 60 = some (none, 2) := by kernel_rfl
theorem fact_elemOf_70 : elemOf? Tryd.prog 70 = some (none, 1) := by kernel_rfl
theorem fact_elemOf_88 : elemOf? Tryd.prog 88 = some (none, 1) := by kernel_rfl
theorem fact_elemOf_9 : elemOf? Tryd.prog 9 = none := by kernel_rfl
theorem fact_fieldOff_111_0 : fieldOff Tryd.prog 111 0 = some 0 := by kernel_rfl
theorem fact_fieldOff_111_1 : fieldOff Tryd.prog 111 1 = some 1 := by kernel_rfl
theorem fact_fieldOff_26_0 : fieldOff Tryd.prog 26 0 = some 0 := by kernel_rfl
theorem fact_fieldOff_26_1 : fieldOff Tryd.prog 26 1 = some 1 := by kernel_rfl
theorem fact_fieldOff_62_0 : fieldOff Tryd.prog 62 0 = some 0 := by kernel_rfl
theorem fact_fieldOff_62_1 : fieldOff Tryd.prog 62 1 = some 1 := by kernel_rfl
theorem fact_fieldOff_62_2 : fieldOff Tryd.prog 62 2 = some 2 := by kernel_rfl
theorem fact_fieldOff_72_0 : fieldOff Tryd.prog 72 0 = some 0 := by kernel_rfl
theorem fact_fieldOff_72_1 : fieldOff Tryd.prog 72 1 = some 1 := by kernel_rfl
theorem fact_fieldOff_90_0 : fieldOff Tryd.prog 90 0 = some 0 := by kernel_rfl
theorem fact_fieldOff_90_1 : fieldOff Tryd.prog 90 1 = some 1 := by kernel_rfl
theorem fact_fieldOff_94_0 : fieldOff Tryd.prog 94 0 = some 0 := by kernel_rfl
theorem fact_fieldOff_94_1 : fieldOff Tryd.prog 94 1 = some 1 := by kernel_rfl
theorem fact_fnOk_10 : fnOk Tryd.prog 10 = true := by kernel_rfl
theorem fact_fnOk_11 : fnOk Tryd.prog 11 = true := by kernel_rfl
theorem fact_fnOk_12 : fnOk Tryd.prog 12 = true := by kernel_rfl
theorem fact_fnOk_13 : fnOk Tryd.prog 13 = true := by kernel_rfl
theorem fact_fnOk_14 : fnOk Tryd.prog 14 = true := by kernel_rfl
theorem fact_fnOk_15 : fnOk Tryd.prog 15 = true := by kernel_rfl
theorem fact_fnOk_16 : fnOk Tryd.prog 16 = true := by kernel_rfl
theorem fact_fnOk_17 : fnOk Tryd.prog 17 = true := by kernel_rfl
theorem fact_fnOk_18 : fnOk Tryd.prog 18 = true := by kernel_rfl
theorem fact_fnOk_19 : fnOk Tryd.prog 19 = true := by kernel_rfl
theorem fact_fnOk_20 : fnOk Tryd.prog 20 = true := by kernel_rfl
theorem fact_fnOk_21 : fnOk Tryd.prog 21 = true := by kernel_rfl
theorem fact_fnOk_22 : fnOk Tryd.prog 22 = true := by kernel_rfl
theorem fact_fnOk_23 : fnOk Tryd.prog 23 = true := by kernel_rfl
theorem fact_fnOk_24 : fnOk Tryd.prog 24 = true := by kernel_rfl
theorem fact_fnOk_25 : fnOk Tryd.prog 25 = true := by kernel_rfl
theorem fact_fnOk_26 : fnOk Tryd.prog 26 = true := by kernel_rfl
theorem fact_fnOk_27 : fnOk Tryd.prog 27 = true := by kernel_rfl
theorem fact_fnOk_28 : fnOk Tryd.prog 28 = true := by kernel_rfl
theorem fact_fnOk_29 : fnOk Tryd.prog 29 = true := by kernel_rfl
theorem fact_fnOk_30 : fnOk Tryd.prog 30 = true := by kernel_rfl
theorem fact_fnOk_31 : fnOk Tryd.prog 31 = true := by kernel_rfl
theorem fact_fnOk_32 : fnOk Tryd.prog 32 = true := by kernel_rfl
theorem fact_fnOk_33 : fnOk Tryd.prog 33 = true := by kernel_rfl
theorem fact_fnOk_34 : fnOk Tryd.prog 34 = true := by kernel_rfl
theorem fact_fnOk_35 : fnOk Tryd.prog 35 = true := by kernel_rfl
theorem fact_fnOk_36 : fnOk Tryd.prog 36 = true := by kernel_rfl
theorem fact_fnOk_37 : fnOk Tryd.prog 37 = true := by kernel_rfl
theorem fact_fnOk_38 : fnOk Tryd.prog 38 = true := by kernel_rfl
theorem fact_fnOk_39 : fnOk Tryd.prog 39 = true := by kernel_rfl
theorem fact_fnOk_40 : fnOk Tryd.prog 40 = true := by kernel_rfl
theorem fact_fnOk_41 : fnOk Tryd.prog 41 = true := by kernel_rfl
theorem fact_fnOk_42 : fnOk Tryd.prog 42 = true := by kernel_rfl
theorem fact_fnOk_43 : fnOk Tryd.prog 43 = true := by kernel_rfl
theorem fact_fnOk_44 : fnOk Tryd.prog 44 = true := by kernel_rfl
theorem fact_fnOk_45 : fnOk Tryd.prog 45 = true := by kernel_rfl
theorem fact_fnOk_46 : fnOk Tryd.prog 46 = true := by kernel_rfl
theorem fact_fnOk_47 : fnOk Tryd.prog 47 = true := by kernel_rfl
theorem fact_fnOk_48 : fnOk Tryd.prog 48 = true := by kernel_rfl
theorem fact_fnOk_49 : fnOk Tryd.prog 49 = true := by kernel_rfl
theorem fact_fnOk_50 : fnOk Tryd.prog 50 = true := by kernel_rfl
theorem fact_fnOk_51 : fnOk Tryd.prog 51 = true := by kernel_rfl
theorem fact_fnOk_52 : fnOk Tryd.prog 52 = true := by kernel_rfl
theorem fact_fnOk_53 : fnOk Tryd.prog 53 = true := by kernel_rfl
theorem fact_fnOk_54 : fnOk Tryd.prog 54 = true := by kernel_rfl
theorem fact_fnOk_55 : fnOk Tryd.prog 55 = true := by kernel_rfl
theorem fact_fnOk_56 : fnOk Tryd.prog 56 = true := by kernel_rfl
theorem fact_fnOk_57 : fnOk Tryd.prog 57 = true := by kernel_rfl
theorem fact_fnOk_58 : fnOk Tryd.prog 58 = true := by kernel_rfl
theorem fact_fnOk_59 : fnOk Tryd.prog 59 = true := by kernel_rfl
theorem fact_fnOk_60 : fnOk Tryd.prog 60 = true := by kernel_rfl
theorem fact_fnOk_61 : fnOk Tryd.prog 61 = true := by kernel_rfl
theorem fact_fnOk_62 : fnOk Tryd.prog 62 = true := by kernel_rfl
theorem fact_fnOk_63 : fnOk Tryd.prog 63 = true := by kernel_rfl
theorem fact_fnOk_65 : fnOk Tryd.prog 65 = true := by kernel_rfl
theorem fact_fnOk_66 : fnOk Tryd.prog 66 = true := by kernel_rfl
theorem fact_fnOk_68 : fnOk Tryd.prog 68 = true := by kernel_rfl
theorem fact_fnOk_69 : fnOk Tryd.prog 69 = true := by kernel_rfl
theorem fact_fnOk_73 : fnOk Tryd.prog 73 = true := by kernel_rfl
theorem fact_fnOk_74 : fnOk Tryd.prog 74 = true := by kernel_rfl
theorem fact_fnOk_75 : fnOk Tryd.prog 75 = true := by kernel_rfl
theorem fact_rowTy_23 : rowTy Tryd.prog 23 = some (3, 1, 8, [.int .i64 0]) := by kernel_rfl
theorem fact_rowTy_24 : rowTy Tryd.prog 24 = some (9, 1, 16, [.string ⟨#[]⟩]) := by kernel_rfl
theorem fact_rowTy_56 : rowTy Tryd.prog 56 = some (62, 3, 32, [.bool false, .bool false, .slice none 0 0]) := by kernel_rfl
theorem fact_rowTy_59 : rowTy Tryd.prog 59 = some (4, 1, 1, [.bool false]) := by kernel_rfl
theorem fact_rowTy_60 : rowTy Tryd.prog 60 = some (94, 2, 8, [.int .i32 0, .int .i32 0]) := by kernel_rfl
theorem fact_rowTy_70 : rowTy Tryd.prog 70 = some (5, 1, 1, [.int .u8 0]) := by kernel_rfl
theorem fact_rowTy_88 : rowTy Tryd.prog 88 = some (21, 1, 4, [.int .i32 0]) := by kernel_rfl
theorem fact_szO_111 : szO Tryd.prog 111 = some 2 := by kernel_rfl
theorem fact_szO_21 : szO Tryd.prog 21 = some 1 := by kernel_rfl
theorem fact_szO_24 : szO Tryd.prog 24 = some 1 := by kernel_rfl
theorem fact_szO_26 : szO Tryd.prog 26 = some 2 := by kernel_rfl
theorem fact_szO_27 : szO Tryd.prog 27 = some 1 := by kernel_rfl
theorem fact_szO_3 : szO Tryd.prog 3 = some 1 := by kernel_rfl
theorem fact_szO_4 : szO Tryd.prog 4 = some 1 := by kernel_rfl
theorem fact_szO_56 : szO Tryd.prog 56 = some 1 := by kernel_rfl
theorem fact_szO_59 : szO Tryd.prog 59 = some 1 := by kernel_rfl
theorem fact_szO_60 : szO Tryd.prog 60 = some 1 := by kernel_rfl
theorem fact_szO_62 : szO Tryd.prog 62 = some 3 := by kernel_rfl
theorem fact_szO_69 : szO Tryd.prog 69 = some 1 := by kernel_rfl
theorem fact_szO_70 : szO Tryd.prog 70 = some 1 := by kernel_rfl
theorem fact_szO_82 : szO Tryd.prog 82 = some 0 := by kernel_rfl
theorem fact_szO_86 : szO Tryd.prog 86 = some 0 := by kernel_rfl
theorem fact_szO_88 : szO Tryd.prog 88 = some 1 := by kernel_rfl
theorem fact_szO_9 : szO Tryd.prog 9 = some 1 := by kernel_rfl
theorem fact_szO_94 : szO Tryd.prog 94 = some 2 := by kernel_rfl
theorem fact_zeroV_111 : zeroV Tryd.prog 111 = some (.agg #[.int .u8 0, .int .u8 0]) := by kernel_rfl
theorem fact_zeroV_24 : zeroV Tryd.prog 24 = some (.slice none 0 0) := by kernel_rfl
theorem fact_zeroV_26 : zeroV Tryd.prog 26 = some (.agg #[.bool false, .slice none 0 0]) := by kernel_rfl
theorem fact_zeroV_27 : zeroV Tryd.prog 27 = some (.int .i64 0) := by kernel_rfl
theorem fact_zeroV_4 : zeroV Tryd.prog 4 = some (.bool false) := by kernel_rfl
theorem fact_zeroV_56 : zeroV Tryd.prog 56 = some (.slice none 0 0) := by kernel_rfl
theorem fact_zeroV_59 : zeroV Tryd.prog 59 = some (.slice none 0 0) := by kernel_rfl
theorem fact_zeroV_62 : zeroV Tryd.prog 62 = some (.agg #[.bool false, .bool false, .slice none 0 0]) := by kernel_rfl
theorem fact_zeroV_72 : zeroV Tryd.prog 72 = some (.agg #[.pointer none, .slice none 0 0]) := by kernel_rfl
theorem fact_zeroV_82 : zeroV Tryd.prog 82 = some (.agg #[]) := by kernel_rfl
theorem fact_zeroV_86 : zeroV Tryd.prog 86 = some (.agg #[]) := by kernel_rfl
theorem fact_zeroV_94 : zeroV Tryd.prog 94 = some (.agg #[.int .i32 0, .int .i32 0]) := by kernel_rfl

def F3.r0 : List Oper := [
  ⟨(some 0), (.assign (.const (.bool false))), 4, "", #[], none⟩]
def F3.r1 : List Oper := [
  ⟨(some 2), (.call ⟨(.value (.func 10)), #[], #[]⟩), 4, "", #[⟨0, .chain⟩], none⟩,
  ⟨(some 1), (.assign (.tmp 2)), 4, "", #[], none⟩]
def F3.r2 : List Oper := [
  ⟨(some 3), (.move (.tmp 1)), 4, "", #[], none⟩,
  ⟨(some 4), (.move (.tmp 3)), 4, "", #[], none⟩,
  ⟨(some 5), (.pick (.tmp 4) (.const (.bool true)) (.const (.bool false))), 4, "", #[], none⟩,
  ⟨(some 6), (.move (.tmp 5)), 4, "", #[], none⟩,
  ⟨(some 7), (.pick (.tmp 6) (.const (.bool true)) (.const (.bool false))), 4, "", #[], none⟩,
  ⟨(some 8), (.move (.tmp 7)), 4, "", #[], none⟩,
  ⟨(some 9), (.pick (.tmp 8) (.const (.bool true)) (.const (.bool false))), 4, "", #[], none⟩,
  ⟨(some 10), (.move (.tmp 9)), 4, "", #[], none⟩,
  ⟨(some 11), (.pick (.tmp 10) (.const (.bool true)) (.const (.bool false))), 4, "", #[], none⟩,
  ⟨(some 12), (.move (.tmp 11)), 4, "", #[], none⟩,
  ⟨(some 13), (.pick (.tmp 12) (.const (.bool true)) (.const (.bool false))), 4, "", #[], none⟩,
  ⟨(some 0), (.assign (.tmp 13)), 4, "", #[], none⟩]
def F3.code : Cd := (.seq (.region 0 F3.r0.toArray false) (.seq (.region 1 F3.r1.toArray false) (.seq (.region 2 F3.r2.toArray false) .ret)))
theorem F3.calls {args : Array Value} {w : World} {R : Ending → World → Prop} (hn : args.size ≤ 14) (h : cwE Tryd.prog F3.code (fnP Tryd.prog #[(.tmp 0)] R) (entry args) w) : Calls Tryd.prog 3 args w R :=
  calls_of_cwE (types := Tryd.prog.types) follows Tryd.func3 F3.code rfl (by kernel_rfl) hn h

def F4.r0 : List Oper := [
  ⟨(some 6), (.assign (.const (.bool false))), 4, "", #[], none⟩]
def F4.r1 : List Oper := [
  ⟨(some 21), (.call ⟨(.value (.func 10)), #[], #[]⟩), 4, "", #[⟨0, .chain⟩], none⟩,
  ⟨(some 7), (.assign (.tmp 21)), 4, "", #[], none⟩]
def F4.r2 : List Oper := [
  ⟨(some 22), (.move (.tmp 2)), 9, "", #[], none⟩,
  ⟨(some 23), (.call ⟨(.builtin .len), #[(.tmp 22)], #[9]⟩), 3, "", #[], none⟩,
  ⟨(some 24), (.binOp .gtr 3 (.tmp 23) (.const (.int .i64 268435456)) 3), 4, "", #[], none⟩]
def F4.r3 : List Oper := [
  ⟨(some 25), (.move (.tmp 7)), 4, "", #[], none⟩,
  ⟨(some 6), (.assign (.tmp 25)), 4, "", #[], none⟩]
def F4.r4 : List Oper := [
  ⟨(some 27), (.move (.tmp 2)), 9, "", #[], none⟩,
  ⟨(some 28), (.call ⟨(.value (.func 11)), #[(.tmp 27)], #[9]⟩), 28, "", #[⟨0, .chain⟩], none⟩,
  ⟨(some 26), (.move (.tmp 28)), 28, "", #[], none⟩,
  ⟨(some 29), (.extract (.tmp 26) 0), 26, "", #[], none⟩,
  ⟨(some 30), (.extract (.tmp 26) 1), 27, "", #[], none⟩,
  ⟨(some 8), (.alloc 26), 0, "", #[⟨0, .chain⟩], none⟩,
  ⟨none, (.store 26 (.tmp 8) (.tmp 29)), 0, "", #[⟨0, .chain⟩], none⟩,
  ⟨(some 9), (.assign (.tmp 30)), 27, "", #[], none⟩]
def F4.r5 : List Oper := [
  ⟨(some 32), (.move (.tmp 2)), 9, "", #[], none⟩,
  ⟨(some 33), (.call ⟨(.value (.func 12)), #[(.tmp 32)], #[9]⟩), 30, "", #[⟨0, .chain⟩], none⟩,
  ⟨(some 31), (.move (.tmp 33)), 30, "", #[], none⟩,
  ⟨(some 34), (.extract (.tmp 31) 0), 9, "", #[], none⟩,
  ⟨(some 35), (.extract (.tmp 31) 1), 27, "", #[], none⟩,
  ⟨(some 10), (.assign (.tmp 34)), 9, "", #[], none⟩,
  ⟨(some 11), (.assign (.tmp 35)), 27, "", #[], none⟩]
def F4.r6 : List Oper := [
  ⟨(some 36), (.move (.tmp 7)), 4, "", #[], none⟩,
  ⟨(some 37), (.unOp .not 4 (.tmp 36)), 4, "", #[], none⟩,
  ⟨(some 38), (.move (.tmp 37)), 4, "", #[], none⟩,
  ⟨(some 39), (.move (.tmp 9)), 27, "", #[], (some (38, false))⟩,
  ⟨(some 40), (.move (.tmp 11)), 27, "", #[], (some (38, false))⟩,
  ⟨(some 41), (.binOp .neq 27 (.tmp 39) (.tmp 40) 27), 4, "", #[], (some (38, false))⟩,
  ⟨(some 42), (.pick (.tmp 38) (.const (.bool true)) (.tmp 41)), 4, "", #[], none⟩]
def F4.r7 : List Oper := [
  ⟨(some 6), (.assign (.const (.bool false))), 4, "", #[], none⟩]
def F4.r8 : List Oper := [
  ⟨(some 43), (.move (.tmp 9)), 27, "", #[], none⟩,
  ⟨(some 44), (.binOp .neq 27 (.tmp 43) (.const (.int .i64 0)) 27), 4, "", #[], none⟩]
def F4.r9 : List Oper := [
  ⟨(some 6), (.assign (.const (.bool true))), 4, "", #[], none⟩]
def F4.r10 : List Oper := [
  ⟨(some 46), (.move (.tmp 10)), 9, "", #[], none⟩,
  ⟨(some 47), (.call ⟨(.value (.func 11)), #[(.tmp 46)], #[9]⟩), 28, "", #[⟨0, .chain⟩], none⟩,
  ⟨(some 45), (.move (.tmp 47)), 28, "", #[], none⟩,
  ⟨(some 48), (.extract (.tmp 45) 0), 26, "", #[], none⟩,
  ⟨(some 49), (.extract (.tmp 45) 1), 27, "", #[], none⟩,
  ⟨(some 12), (.alloc 26), 0, "", #[⟨0, .chain⟩], none⟩,
  ⟨none, (.store 26 (.tmp 12) (.tmp 48)), 0, "", #[⟨0, .chain⟩], none⟩,
  ⟨(some 13), (.assign (.tmp 49)), 27, "", #[], none⟩]
def F4.r11 : List Oper := [
  ⟨(some 50), (.move (.tmp 13)), 27, "", #[], none⟩,
  ⟨(some 51), (.binOp .neq 27 (.tmp 50) (.const (.int .i64 0)) 27), 4, "", #[], none⟩]
def F4.r12 : List Oper := [
  ⟨(some 6), (.assign (.const (.bool false))), 4, "", #[], none⟩]
def F4.r13 : List Oper := [
  ⟨(some 53), (.move (.tmp 0)), 23, "", #[], none⟩,
  ⟨(some 54), (.call ⟨(.value (.func 13)), #[(.tmp 53)], #[23]⟩), 32, "", #[⟨0, .chain⟩], none⟩,
  ⟨(some 52), (.move (.tmp 54)), 32, "", #[], none⟩,
  ⟨(some 55), (.extract (.tmp 52) 0), 23, "", #[], none⟩,
  ⟨(some 56), (.extract (.tmp 52) 1), 24, "", #[], none⟩,
  ⟨(some 14), (.assign (.tmp 55)), 23, "", #[], none⟩,
  ⟨(some 15), (.assign (.tmp 56)), 24, "", #[], none⟩]
def F4.r14 : List Oper := [
  ⟨(some 16), (.assign (.const (.int .i64 0))), 3, "", #[], none⟩]
def F4.r15 : List Oper := [
  ⟨(some 57), (.fieldAddr 26 (.tmp 8) 0), 0, "", #[], none⟩,
  ⟨(some 58), (.load 4 (.tmp 57)), 4, "", #[⟨0, .data⟩], none⟩,
  ⟨(some 59), (.unOp .not 4 (.tmp 58)), 4, "", #[], none⟩]
def F4.r16 : List Oper := [
  ⟨(some 60), (.move (.tmp 1)), 3, "", #[], none⟩,
  ⟨(some 61), (.binOp .lss 3 (.tmp 60) (.const (.int .i64 0)) 3), 4, "", #[], none⟩]
def F4.r17 : List Oper := [
  ⟨(some 62), (.move (.tmp 1)), 3, "", #[], none⟩,
  ⟨(some 63), (.binOp .add 3 (.tmp 62) (.const (.int .i64 1)) 3), 3, "", #[], none⟩,
  ⟨(some 64), (.unOp .neg 3 (.tmp 63)), 3, "", #[], none⟩,
  ⟨(some 1), (.assign (.tmp 64)), 3, "", #[], none⟩]
def F4.r18 : List Oper := [
  ⟨(some 65), (.move (.tmp 1)), 3, "", #[], none⟩,
  ⟨(some 66), (.move (.tmp 14)), 23, "", #[], none⟩,
  ⟨(some 67), (.call ⟨(.builtin .len), #[(.tmp 66)], #[23]⟩), 3, "", #[], none⟩,
  ⟨(some 68), (.binOp .rem 3 (.tmp 65) (.tmp 67) 3), 3, "", #[], none⟩,
  ⟨(some 16), (.assign (.tmp 68)), 3, "", #[], none⟩]
def F4.r19 : List Oper := [
  ⟨(some 70), (.move (.tmp 14)), 23, "", #[], none⟩,
  ⟨(some 71), (.move (.tmp 15)), 24, "", #[], none⟩,
  ⟨(some 72), (.move (.tmp 16)), 3, "", #[], none⟩,
  ⟨(some 73), (.fieldAddr 26 (.tmp 8) 1), 0, "", #[], none⟩,
  ⟨(some 74), (.load 24 (.tmp 73)), 24, "", #[⟨0, .data⟩], none⟩,
  ⟨(some 75), (.call ⟨(.value (.func 14)), #[(.tmp 70), (.tmp 71), (.tmp 72), (.tmp 74)], #[23, 24, 3, 24]⟩), 34, "", #[⟨0, .chain⟩], none⟩,
  ⟨(some 69), (.move (.tmp 75)), 34, "", #[], none⟩,
  ⟨(some 76), (.extract (.tmp 69) 0), 3, "", #[], none⟩,
  ⟨(some 77), (.extract (.tmp 69) 1), 4, "", #[], none⟩,
  ⟨(some 17), (.assign (.tmp 76)), 3, "", #[], none⟩,
  ⟨(some 18), (.assign (.tmp 77)), 4, "", #[], none⟩]
def F4.r20 : List Oper := [
  ⟨(some 78), (.move (.tmp 18)), 4, "", #[], none⟩,
  ⟨(some 79), (.unOp .not 4 (.tmp 78)), 4, "", #[], none⟩]
def F4.r21 : List Oper := [
  ⟨(some 6), (.assign (.const (.bool true))), 4, "", #[], none⟩]
def F4.r22 : List Oper := [
  ⟨(some 81), (.move (.tmp 14)), 23, "", #[], none⟩,
  ⟨(some 82), (.move (.tmp 15)), 24, "", #[], none⟩,
  ⟨(some 83), (.move (.tmp 16)), 3, "", #[], none⟩,
  ⟨(some 84), (.fieldAddr 26 (.tmp 12) 1), 0, "", #[], none⟩,
  ⟨(some 85), (.load 24 (.tmp 84)), 24, "", #[⟨0, .data⟩], none⟩,
  ⟨(some 86), (.call ⟨(.value (.func 14)), #[(.tmp 81), (.tmp 82), (.tmp 83), (.tmp 85)], #[23, 24, 3, 24]⟩), 34, "", #[⟨0, .chain⟩], none⟩,
  ⟨(some 80), (.move (.tmp 86)), 34, "", #[], none⟩,
  ⟨(some 87), (.extract (.tmp 80) 0), 3, "", #[], none⟩,
  ⟨(some 88), (.extract (.tmp 80) 1), 4, "", #[], none⟩,
  ⟨(some 19), (.assign (.tmp 87)), 3, "", #[], none⟩,
  ⟨(some 20), (.assign (.tmp 88)), 4, "", #[], none⟩]
def F4.r23 : List Oper := [
  ⟨(some 89), (.move (.tmp 20)), 4, "", #[], none⟩,
  ⟨(some 90), (.move (.tmp 89)), 4, "", #[], none⟩,
  ⟨(some 91), (.move (.tmp 17)), 3, "", #[], (some (90, true))⟩,
  ⟨(some 92), (.move (.tmp 19)), 3, "", #[], (some (90, true))⟩,
  ⟨(some 93), (.binOp .eql 3 (.tmp 91) (.tmp 92) 3), 4, "", #[], (some (90, true))⟩,
  ⟨(some 94), (.pick (.tmp 90) (.tmp 93) (.const (.bool false))), 4, "", #[], none⟩,
  ⟨(some 95), (.move (.tmp 94)), 4, "", #[], none⟩,
  ⟨(some 96), (.fieldAddr 26 (.tmp 8) 0), 0, "", #[], (some (95, true))⟩,
  ⟨(some 97), (.load 4 (.tmp 96)), 4, "", #[⟨0, .data⟩], (some (95, true))⟩,
  ⟨(some 98), (.fieldAddr 26 (.tmp 12) 0), 0, "", #[], (some (95, true))⟩,
  ⟨(some 99), (.load 4 (.tmp 98)), 4, "", #[⟨0, .data⟩], (some (95, true))⟩,
  ⟨(some 100), (.binOp .eql 4 (.tmp 97) (.tmp 99) 4), 4, "", #[], (some (95, true))⟩,
  ⟨(some 101), (.pick (.tmp 95) (.tmp 100) (.const (.bool false))), 4, "", #[], none⟩,
  ⟨(some 6), (.assign (.tmp 101)), 4, "", #[], none⟩]
def F4.t18 : Cd := (.region 18 F4.r18.toArray false)
theorem F4.t18_eq {P : Program} {Q : Post} {e : FA} {w : World} {θ : Tag (F4.t18, Q, e, w)} : cwE P F4.t18 Q e w θ = cwE P (.region 18 F4.r18.toArray false) Q e w := rfl
def F4.t22 : Cd := (.seq (.region 22 F4.r22.toArray false) (.seq (.region 23 F4.r23.toArray false) .ret))
theorem F4.t22_eq {P : Program} {Q : Post} {e : FA} {w : World} {θ : Tag (F4.t22, Q, e, w)} : cwE P F4.t22 Q e w θ = cwE P (.seq (.region 22 F4.r22.toArray false) (.seq (.region 23 F4.r23.toArray false) .ret)) Q e w := rfl
def F4.t19 : Cd := (.seq (.region 19 F4.r19.toArray false) (.seq (.seq (.region 20 F4.r20.toArray false) (.cond (.tmp 79) (.seq (.region 21 F4.r21.toArray false) .ret) .skip)) F4.t22))
theorem F4.t19_eq {P : Program} {Q : Post} {e : FA} {w : World} {θ : Tag (F4.t19, Q, e, w)} : cwE P F4.t19 Q e w θ = cwE P (.seq (.region 19 F4.r19.toArray false) (.seq (.seq (.region 20 F4.r20.toArray false) (.cond (.tmp 79) (.seq (.region 21 F4.r21.toArray false) .ret) .skip)) F4.t22)) Q e w := rfl
def F4.t13 : Cd := (.seq (.region 13 F4.r13.toArray false) (.seq (.region 14 F4.r14.toArray false) (.seq (.seq (.region 15 F4.r15.toArray false) (.cond (.tmp 59) (.seq (.seq (.region 16 F4.r16.toArray false) (.cond (.tmp 61) (.region 17 F4.r17.toArray false) .skip)) F4.t18) .skip)) F4.t19)))
theorem F4.t13_eq {P : Program} {Q : Post} {e : FA} {w : World} {θ : Tag (F4.t13, Q, e, w)} : cwE P F4.t13 Q e w θ = cwE P (.seq (.region 13 F4.r13.toArray false) (.seq (.region 14 F4.r14.toArray false) (.seq (.seq (.region 15 F4.r15.toArray false) (.cond (.tmp 59) (.seq (.seq (.region 16 F4.r16.toArray false) (.cond (.tmp 61) (.region 17 F4.r17.toArray false) .skip)) F4.t18) .skip)) F4.t19))) Q e w := rfl
def F4.t10 : Cd := (.seq (.region 10 F4.r10.toArray false) (.seq (.seq (.region 11 F4.r11.toArray false) (.cond (.tmp 51) (.seq (.region 12 F4.r12.toArray false) .ret) .skip)) F4.t13))
theorem F4.t10_eq {P : Program} {Q : Post} {e : FA} {w : World} {θ : Tag (F4.t10, Q, e, w)} : cwE P F4.t10 Q e w θ = cwE P (.seq (.region 10 F4.r10.toArray false) (.seq (.seq (.region 11 F4.r11.toArray false) (.cond (.tmp 51) (.seq (.region 12 F4.r12.toArray false) .ret) .skip)) F4.t13)) Q e w := rfl
def F4.t8 : Cd := (.seq (.seq (.region 8 F4.r8.toArray false) (.cond (.tmp 44) (.seq (.region 9 F4.r9.toArray false) .ret) .skip)) F4.t10)
theorem F4.t8_eq {P : Program} {Q : Post} {e : FA} {w : World} {θ : Tag (F4.t8, Q, e, w)} : cwE P F4.t8 Q e w θ = cwE P (.seq (.seq (.region 8 F4.r8.toArray false) (.cond (.tmp 44) (.seq (.region 9 F4.r9.toArray false) .ret) .skip)) F4.t10) Q e w := rfl
def F4.t4 : Cd := (.seq (.region 4 F4.r4.toArray false) (.seq (.region 5 F4.r5.toArray false) (.seq (.seq (.region 6 F4.r6.toArray false) (.cond (.tmp 42) (.seq (.region 7 F4.r7.toArray false) .ret) .skip)) F4.t8)))
theorem F4.t4_eq {P : Program} {Q : Post} {e : FA} {w : World} {θ : Tag (F4.t4, Q, e, w)} : cwE P F4.t4 Q e w θ = cwE P (.seq (.region 4 F4.r4.toArray false) (.seq (.region 5 F4.r5.toArray false) (.seq (.seq (.region 6 F4.r6.toArray false) (.cond (.tmp 42) (.seq (.region 7 F4.r7.toArray false) .ret) .skip)) F4.t8))) Q e w := rfl
def F4.code : Cd := (.seq (.region 0 F4.r0.toArray false) (.seq (.region 1 F4.r1.toArray false) (.seq (.seq (.region 2 F4.r2.toArray false) (.cond (.tmp 24) (.seq (.region 3 F4.r3.toArray false) .ret) .skip)) F4.t4)))
theorem F4.calls {args : Array Value} {w : World} {R : Ending → World → Prop} (hn : args.size ≤ 102) (h : cwE Tryd.prog F4.code (fnP Tryd.prog #[(.tmp 6)] R) (entry args) w) : Calls Tryd.prog 4 args w R :=
  calls_of_cwE (types := Tryd.prog.types) follows Tryd.func4 F4.code rfl (by kernel_rfl) hn h

def F5.r0 : List Oper := [
  ⟨(some 8), (.assign (.const (.bool false))), 4, "", #[], none⟩]
def F5.r1 : List Oper := [
  ⟨(some 18), (.call ⟨(.value (.func 10)), #[], #[]⟩), 4, "", #[⟨0, .chain⟩], none⟩,
  ⟨(some 9), (.assign (.tmp 18)), 4, "", #[], none⟩]
def F5.r2 : List Oper := [
  ⟨(some 19), (.move (.tmp 0)), 9, "", #[], none⟩,
  ⟨(some 20), (.call ⟨(.builtin .len), #[(.tmp 19)], #[9]⟩), 3, "", #[], none⟩,
  ⟨(some 21), (.binOp .gtr 3 (.tmp 20) (.const (.int .i64 268435456)) 3), 4, "", #[], none⟩,
  ⟨(some 22), (.move (.tmp 21)), 4, "", #[], none⟩,
  ⟨(some 23), (.move (.tmp 1)), 9, "", #[], (some (22, false))⟩,
  ⟨(some 24), (.call ⟨(.builtin .len), #[(.tmp 23)], #[9]⟩), 3, "", #[], (some (22, false))⟩,
  ⟨(some 25), (.binOp .gtr 3 (.tmp 24) (.const (.int .i64 268435456)) 3), 4, "", #[], (some (22, false))⟩,
  ⟨(some 26), (.pick (.tmp 22) (.const (.bool true)) (.tmp 25)), 4, "", #[], none⟩,
  ⟨(some 27), (.move (.tmp 26)), 4, "", #[], none⟩,
  ⟨(some 28), (.move (.tmp 2)), 9, "", #[], (some (27, false))⟩,
  ⟨(some 29), (.call ⟨(.builtin .len), #[(.tmp 28)], #[9]⟩), 3, "", #[], (some (27, false))⟩,
  ⟨(some 30), (.binOp .gtr 3 (.tmp 29) (.const (.int .i64 268435456)) 3), 4, "", #[], (some (27, false))⟩,
  ⟨(some 31), (.pick (.tmp 27) (.const (.bool true)) (.tmp 30)), 4, "", #[], none⟩,
  ⟨(some 32), (.move (.tmp 31)), 4, "", #[], none⟩,
  ⟨(some 33), (.move (.tmp 3)), 9, "", #[], (some (32, false))⟩,
  ⟨(some 34), (.call ⟨(.builtin .len), #[(.tmp 33)], #[9]⟩), 3, "", #[], (some (32, false))⟩,
  ⟨(some 35), (.binOp .gtr 3 (.tmp 34) (.const (.int .i64 268435456)) 3), 4, "", #[], (some (32, false))⟩,
  ⟨(some 36), (.pick (.tmp 32) (.const (.bool true)) (.tmp 35)), 4, "", #[], none⟩]
def F5.r3 : List Oper := [
  ⟨(some 37), (.move (.tmp 9)), 4, "", #[], none⟩,
  ⟨(some 8), (.assign (.tmp 37)), 4, "", #[], none⟩]
def F5.r4 : List Oper := [
  ⟨(some 39), (.move (.tmp 0)), 9, "", #[], none⟩,
  ⟨(some 40), (.move (.tmp 2)), 9, "", #[], none⟩,
  ⟨(some 41), (.call ⟨(.value (.func 15)), #[(.tmp 39), (.tmp 40)], #[9, 9]⟩), 37, "", #[⟨0, .chain⟩], none⟩,
  ⟨(some 38), (.move (.tmp 41)), 37, "", #[], none⟩,
  ⟨(some 42), (.extract (.tmp 38) 0), 4, "", #[], none⟩,
  ⟨(some 43), (.extract (.tmp 38) 1), 27, "", #[], none⟩,
  ⟨(some 10), (.assign (.tmp 42)), 4, "", #[], none⟩,
  ⟨(some 11), (.assign (.tmp 43)), 27, "", #[], none⟩]
def F5.r5 : List Oper := [
  ⟨(some 45), (.move (.tmp 1)), 9, "", #[], none⟩,
  ⟨(some 46), (.move (.tmp 3)), 9, "", #[], none⟩,
  ⟨(some 47), (.call ⟨(.value (.func 15)), #[(.tmp 45), (.tmp 46)], #[9, 9]⟩), 37, "", #[⟨0, .chain⟩], none⟩,
  ⟨(some 44), (.move (.tmp 47)), 37, "", #[], none⟩,
  ⟨(some 48), (.extract (.tmp 44) 0), 4, "", #[], none⟩,
  ⟨(some 49), (.extract (.tmp 44) 1), 27, "", #[], none⟩,
  ⟨(some 12), (.assign (.tmp 48)), 4, "", #[], none⟩,
  ⟨(some 13), (.assign (.tmp 49)), 27, "", #[], none⟩]
def F5.r6 : List Oper := [
  ⟨(some 50), (.move (.tmp 9)), 4, "", #[], none⟩,
  ⟨(some 51), (.unOp .not 4 (.tmp 50)), 4, "", #[], none⟩]
def F5.r7 : List Oper := [
  ⟨(some 8), (.assign (.const (.bool false))), 4, "", #[], none⟩]
def F5.r8 : List Oper := [
  ⟨(some 52), (.move (.tmp 11)), 27, "", #[], none⟩,
  ⟨(some 53), (.binOp .neq 27 (.tmp 52) (.const (.int .i64 0)) 27), 4, "", #[], none⟩,
  ⟨(some 54), (.move (.tmp 53)), 4, "", #[], none⟩,
  ⟨(some 55), (.move (.tmp 13)), 27, "", #[], (some (54, false))⟩,
  ⟨(some 56), (.binOp .neq 27 (.tmp 55) (.const (.int .i64 0)) 27), 4, "", #[], (some (54, false))⟩,
  ⟨(some 57), (.pick (.tmp 54) (.const (.bool true)) (.tmp 56)), 4, "", #[], none⟩]
def F5.r9 : List Oper := [
  ⟨(some 58), (.move (.tmp 11)), 27, "", #[], none⟩,
  ⟨(some 59), (.binOp .eql 27 (.tmp 58) (.const (.int .i64 52)) 27), 4, "", #[], none⟩,
  ⟨(some 60), (.move (.tmp 59)), 4, "", #[], none⟩,
  ⟨(some 61), (.move (.tmp 13)), 27, "", #[], (some (60, false))⟩,
  ⟨(some 62), (.binOp .eql 27 (.tmp 61) (.const (.int .i64 52)) 27), 4, "", #[], (some (60, false))⟩,
  ⟨(some 63), (.pick (.tmp 60) (.const (.bool true)) (.tmp 62)), 4, "", #[], none⟩,
  ⟨(some 8), (.assign (.tmp 63)), 4, "", #[], none⟩]
def F5.r10 : List Oper := [
  ⟨(some 65), (.move (.tmp 2)), 9, "", #[], none⟩,
  ⟨(some 66), (.call ⟨(.value (.func 15)), #[(.const (.string { data := #[42] })), (.tmp 65)], #[9, 9]⟩), 37, "", #[⟨0, .chain⟩], none⟩,
  ⟨(some 64), (.move (.tmp 66)), 37, "", #[], none⟩,
  ⟨(some 67), (.extract (.tmp 64) 0), 4, "", #[], none⟩,
  ⟨(some 68), (.extract (.tmp 64) 1), 27, "", #[], none⟩,
  ⟨(some 14), (.assign (.tmp 67)), 4, "", #[], none⟩,
  ⟨(some 15), (.assign (.tmp 68)), 27, "", #[], none⟩]
def F5.r11 : List Oper := [
  ⟨(some 69), (.move (.tmp 2)), 9, "", #[], none⟩,
  ⟨(some 70), (.call ⟨(.value (.func 16)), #[(.tmp 69)], #[9]⟩), 4, "", #[⟨0, .chain⟩], none⟩,
  ⟨(some 16), (.assign (.tmp 70)), 4, "", #[], none⟩]
def F5.r12 : List Oper := [
  ⟨(some 71), (.move (.tmp 15)), 27, "", #[], none⟩,
  ⟨(some 72), (.binOp .neq 27 (.tmp 71) (.const (.int .i64 0)) 27), 4, "", #[], none⟩,
  ⟨(some 73), (.move (.tmp 72)), 4, "", #[], none⟩,
  ⟨(some 74), (.move (.tmp 14)), 4, "", #[], (some (73, false))⟩,
  ⟨(some 75), (.move (.tmp 16)), 4, "", #[], (some (73, false))⟩,
  ⟨(some 76), (.binOp .neq 4 (.tmp 74) (.tmp 75) 4), 4, "", #[], (some (73, false))⟩,
  ⟨(some 77), (.pick (.tmp 73) (.const (.bool true)) (.tmp 76)), 4, "", #[], none⟩]
def F5.r13 : List Oper := [
  ⟨(some 8), (.assign (.const (.bool false))), 4, "", #[], none⟩]
def F5.r14 : List Oper := [
  ⟨(some 78), (.move (.tmp 10)), 4, "", #[], none⟩,
  ⟨(some 79), (.unOp .not 4 (.tmp 78)), 4, "", #[], none⟩,
  ⟨(some 80), (.move (.tmp 79)), 4, "", #[], none⟩,
  ⟨(some 81), (.move (.tmp 12)), 4, "", #[], (some (80, false))⟩,
  ⟨(some 82), (.unOp .not 4 (.tmp 81)), 4, "", #[], (some (80, false))⟩,
  ⟨(some 83), (.pick (.tmp 80) (.const (.bool true)) (.tmp 82)), 4, "", #[], none⟩,
  ⟨(some 84), (.move (.tmp 83)), 4, "", #[], none⟩,
  ⟨(some 85), (.move (.tmp 0)), 9, "", #[], (some (84, false))⟩,
  ⟨(some 86), (.call ⟨(.builtin .len), #[(.tmp 85)], #[9]⟩), 3, "", #[], (some (84, false))⟩,
  ⟨(some 87), (.move (.tmp 1)), 9, "", #[], (some (84, false))⟩,
  ⟨(some 88), (.call ⟨(.builtin .len), #[(.tmp 87)], #[9]⟩), 3, "", #[], (some (84, false))⟩,
  ⟨(some 89), (.binOp .add 3 (.tmp 86) (.tmp 88) 3), 3, "", #[], (some (84, false))⟩,
  ⟨(some 90), (.binOp .gtr 3 (.tmp 89) (.const (.int .i64 255)) 3), 4, "", #[], (some (84, false))⟩,
  ⟨(some 91), (.pick (.tmp 84) (.const (.bool true)) (.tmp 90)), 4, "", #[], none⟩]
def F5.r15 : List Oper := [
  ⟨(some 8), (.assign (.const (.bool true))), 4, "", #[], none⟩]
def F5.r16 : List Oper := [
  ⟨(some 93), (.move (.tmp 0)), 9, "", #[], none⟩,
  ⟨(some 94), (.move (.tmp 1)), 9, "", #[], none⟩,
  ⟨(some 95), (.binOp .add 9 (.tmp 93) (.tmp 94) 9), 9, "", #[], none⟩,
  ⟨(some 96), (.move (.tmp 2)), 9, "", #[], none⟩,
  ⟨(some 97), (.move (.tmp 3)), 9, "", #[], none⟩,
  ⟨(some 98), (.binOp .add 9 (.tmp 96) (.tmp 97) 9), 9, "", #[], none⟩,
  ⟨(some 99), (.call ⟨(.value (.func 15)), #[(.tmp 95), (.tmp 98)], #[9, 9]⟩), 37, "", #[⟨0, .chain⟩], none⟩,
  ⟨(some 92), (.move (.tmp 99)), 37, "", #[], none⟩,
  ⟨(some 100), (.extract (.tmp 92) 0), 4, "", #[], none⟩,
  ⟨(some 101), (.extract (.tmp 92) 1), 27, "", #[], none⟩,
  ⟨(some 17), (.assign (.tmp 100)), 4, "", #[], none⟩,
  ⟨(some 15), (.assign (.tmp 101)), 27, "", #[], none⟩]
def F5.r17 : List Oper := [
  ⟨(some 102), (.move (.tmp 17)), 4, "", #[], none⟩,
  ⟨(some 103), (.move (.tmp 102)), 4, "", #[], none⟩,
  ⟨(some 104), (.move (.tmp 15)), 27, "", #[], (some (103, true))⟩,
  ⟨(some 105), (.binOp .eql 27 (.tmp 104) (.const (.int .i64 0)) 27), 4, "", #[], (some (103, true))⟩,
  ⟨(some 106), (.pick (.tmp 103) (.tmp 105) (.const (.bool false))), 4, "", #[], none⟩,
  ⟨(some 8), (.assign (.tmp 106)), 4, "", #[], none⟩]
def F5.t16 : Cd := (.seq (.region 16 F5.r16.toArray false) (.seq (.region 17 F5.r17.toArray false) .ret))
theorem F5.t16_eq {P : Program} {Q : Post} {e : FA} {w : World} {θ : Tag (F5.t16, Q, e, w)} : cwE P F5.t16 Q e w θ = cwE P (.seq (.region 16 F5.r16.toArray false) (.seq (.region 17 F5.r17.toArray false) .ret)) Q e w := rfl
def F5.t14 : Cd := (.seq (.seq (.region 14 F5.r14.toArray false) (.cond (.tmp 91) (.seq (.region 15 F5.r15.toArray false) .ret) .skip)) F5.t16)
theorem F5.t14_eq {P : Program} {Q : Post} {e : FA} {w : World} {θ : Tag (F5.t14, Q, e, w)} : cwE P F5.t14 Q e w θ = cwE P (.seq (.seq (.region 14 F5.r14.toArray false) (.cond (.tmp 91) (.seq (.region 15 F5.r15.toArray false) .ret) .skip)) F5.t16) Q e w := rfl
def F5.t10 : Cd := (.seq (.region 10 F5.r10.toArray false) (.seq (.region 11 F5.r11.toArray false) (.seq (.seq (.region 12 F5.r12.toArray false) (.cond (.tmp 77) (.seq (.region 13 F5.r13.toArray false) .ret) .skip)) F5.t14)))
theorem F5.t10_eq {P : Program} {Q : Post} {e : FA} {w : World} {θ : Tag (F5.t10, Q, e, w)} : cwE P F5.t10 Q e w θ = cwE P (.seq (.region 10 F5.r10.toArray false) (.seq (.region 11 F5.r11.toArray false) (.seq (.seq (.region 12 F5.r12.toArray false) (.cond (.tmp 77) (.seq (.region 13 F5.r13.toArray false) .ret) .skip)) F5.t14))) Q e w := rfl
def F5.t8 : Cd := (.seq (.seq (.region 8 F5.r8.toArray false) (.cond (.tmp 57) (.seq (.region 9 F5.r9.toArray false) .ret) .skip)) F5.t10)
theorem F5.t8_eq {P : Program} {Q : Post} {e : FA} {w : World} {θ : Tag (F5.t8, Q, e, w)} : cwE P F5.t8 Q e w θ = cwE P (.seq (.seq (.region 8 F5.r8.toArray false) (.cond (.tmp 57) (.seq (.region 9 F5.r9.toArray false) .ret) .skip)) F5.t10) Q e w := rfl
def F5.t4 : Cd := (.seq (.region 4 F5.r4.toArray false) (.seq (.region 5 F5.r5.toArray false) (.seq (.seq (.region 6 F5.r6.toArray false) (.cond (.tmp 51) (.seq (.region 7 F5.r7.toArray false) .ret) .skip)) F5.t8)))
theorem F5.t4_eq {P : Program} {Q : Post} {e : FA} {w : World} {θ : Tag (F5.t4, Q, e, w)} : cwE P F5.t4 Q e w θ = cwE P (.seq (.region 4 F5.r4.toArray false) (.seq (.region 5 F5.r5.toArray false) (.seq (.seq (.region 6 F5.r6.toArray false) (.cond (.tmp 51) (.seq (.region 7 F5.r7.toArray false) .ret) .skip)) F5.t8))) Q e w := rfl
def F5.code : Cd := (.seq (.region 0 F5.r0.toArray false) (.seq (.region 1 F5.r1.toArray false) (.seq (.seq (.region 2 F5.r2.toArray false) (.cond (.tmp 36) (.seq (.region 3 F5.r3.toArray false) .ret) .skip)) F5.t4)))
theorem F5.calls {args : Array Value} {w : World} {R : Ending → World → Prop} (hn : args.size ≤ 107) (h : cwE Tryd.prog F5.code (fnP Tryd.prog #[(.tmp 8)] R) (entry args) w) : Calls Tryd.prog 5 args w R :=
  calls_of_cwE (types := Tryd.prog.types) follows Tryd.func5 F5.code rfl (by kernel_rfl) hn h

def F6.r0 : List Oper := [
  ⟨(some 4), (.assign (.const (.bool false))), 4, "", #[], none⟩]
def F6.r1 : List Oper := [
  ⟨(some 21), (.call ⟨(.value (.func 10)), #[], #[]⟩), 4, "", #[⟨0, .chain⟩], none⟩,
  ⟨(some 5), (.assign (.tmp 21)), 4, "", #[], none⟩]
def F6.r2 : List Oper := [
  ⟨(some 22), (.move (.tmp 0)), 9, "", #[], none⟩,
  ⟨(some 23), (.call ⟨(.builtin .len), #[(.tmp 22)], #[9]⟩), 3, "", #[], none⟩,
  ⟨(some 24), (.binOp .gtr 3 (.tmp 23) (.const (.int .i64 268435456)) 3), 4, "", #[], none⟩,
  ⟨(some 25), (.move (.tmp 24)), 4, "", #[], none⟩,
  ⟨(some 26), (.move (.tmp 1)), 9, "", #[], (some (25, false))⟩,
  ⟨(some 27), (.call ⟨(.builtin .len), #[(.tmp 26)], #[9]⟩), 3, "", #[], (some (25, false))⟩,
  ⟨(some 28), (.binOp .gtr 3 (.tmp 27) (.const (.int .i64 268435456)) 3), 4, "", #[], (some (25, false))⟩,
  ⟨(some 29), (.pick (.tmp 25) (.const (.bool true)) (.tmp 28)), 4, "", #[], none⟩]
def F6.r3 : List Oper := [
  ⟨(some 30), (.move (.tmp 5)), 4, "", #[], none⟩,
  ⟨(some 4), (.assign (.tmp 30)), 4, "", #[], none⟩]
def F6.r4 : List Oper := [
  ⟨(some 31), (.move (.tmp 0)), 9, "", #[], none⟩,
  ⟨(some 32), (.call ⟨(.value (.func 16)), #[(.tmp 31)], #[9]⟩), 4, "", #[⟨0, .chain⟩], none⟩,
  ⟨(some 6), (.assign (.tmp 32)), 4, "", #[], none⟩]
def F6.r5 : List Oper := [
  ⟨(some 33), (.move (.tmp 1)), 9, "", #[], none⟩,
  ⟨(some 34), (.call ⟨(.value (.func 16)), #[(.tmp 33)], #[9]⟩), 4, "", #[⟨0, .chain⟩], none⟩,
  ⟨(some 7), (.assign (.tmp 34)), 4, "", #[], none⟩]
def F6.r6 : List Oper := [
  ⟨(some 35), (.move (.tmp 5)), 4, "", #[], none⟩,
  ⟨(some 36), (.unOp .not 4 (.tmp 35)), 4, "", #[], none⟩,
  ⟨(some 37), (.move (.tmp 36)), 4, "", #[], none⟩,
  ⟨(some 38), (.move (.tmp 6)), 4, "", #[], (some (37, false))⟩,
  ⟨(some 39), (.unOp .not 4 (.tmp 38)), 4, "", #[], (some (37, false))⟩,
  ⟨(some 40), (.pick (.tmp 37) (.const (.bool true)) (.tmp 39)), 4, "", #[], none⟩]
def F6.r7 : List Oper := [
  ⟨(some 41), (.move (.tmp 5)), 4, "", #[], none⟩,
  ⟨(some 4), (.assign (.tmp 41)), 4, "", #[], none⟩]
def F6.r8 : List Oper := [
  ⟨(some 42), (.move (.tmp 0)), 9, "", #[], none⟩,
  ⟨(some 43), (.call ⟨(.value (.func 17)), #[(.tmp 42)], #[9]⟩), 24, "", #[⟨0, .chain⟩], none⟩,
  ⟨(some 8), (.assign (.tmp 43)), 24, "", #[], none⟩]
def F6.r9 : List Oper := [
  ⟨(some 9), (.assign (.const (.string { data := #[] }))), 9, "", #[], none⟩]
def F6.r10 : List Oper := [
  ⟨(some 10), (.assign (.const (.string { data := #[] }))), 9, "", #[], none⟩]
def F6.r11 : List Oper := [
  ⟨(some 11), (.assign (.const (.int .i64 0))), 3, "", #[], none⟩]
def F6.r12 : List Oper := [
  ⟨(some 44), (.move (.tmp 11)), 3, "", #[], none⟩,
  ⟨(some 45), (.move (.tmp 8)), 24, "", #[], none⟩,
  ⟨(some 46), (.call ⟨(.builtin .len), #[(.tmp 45)], #[24]⟩), 3, "", #[], none⟩,
  ⟨(some 47), (.binOp .lss 3 (.tmp 44) (.tmp 46) 3), 4, "", #[], none⟩]
def F6.r14 : List Oper := [
  ⟨(some 50), (.move (.tmp 9)), 9, "", #[], none⟩,
  ⟨(some 51), (.binOp .add 9 (.tmp 50) (.const (.string { data := #[92] })) 9), 9, "", #[], none⟩,
  ⟨(some 52), (.move (.tmp 8)), 24, "", #[], none⟩,
  ⟨(some 53), (.move (.tmp 11)), 3, "", #[], none⟩,
  ⟨(some 54), (.indexAddr 24 (.tmp 52) (.tmp 53)), 0, "", #[], none⟩,
  ⟨(some 55), (.load 9 (.tmp 54)), 9, "", #[⟨0, .data⟩], none⟩,
  ⟨(some 56), (.binOp .add 9 (.tmp 51) (.tmp 55) 9), 9, "", #[], none⟩,
  ⟨(some 9), (.assign (.tmp 56)), 9, "", #[], none⟩]
def F6.r15 : List Oper := [
  ⟨(some 57), (.move (.tmp 10)), 9, "", #[], none⟩,
  ⟨(some 58), (.binOp .add 9 (.tmp 57) (.const (.string { data := #[63] })) 9), 9, "", #[], none⟩,
  ⟨(some 10), (.assign (.tmp 58)), 9, "", #[], none⟩]
def F6.r13 : List Oper := [
  ⟨(some 48), (.move (.tmp 11)), 3, "", #[], none⟩,
  ⟨(some 49), (.binOp .add 3 (.tmp 48) (.const (.int .i64 1)) 3), 3, "", #[], none⟩,
  ⟨(some 11), (.assign (.tmp 49)), 3, "", #[], none⟩]
def F6.r16 : List Oper := [
  ⟨(some 59), (.move (.tmp 9)), 9, "", #[], none⟩,
  ⟨(some 60), (.call ⟨(.builtin .len), #[(.tmp 59)], #[9]⟩), 3, "", #[], none⟩,
  ⟨(some 61), (.binOp .gtr 3 (.tmp 60) (.const (.int .i64 255)) 3), 4, "", #[], none⟩]
def F6.r17 : List Oper := [
  ⟨(some 4), (.assign (.const (.bool true))), 4, "", #[], none⟩]
def F6.r18 : List Oper := [
  ⟨(some 63), (.move (.tmp 9)), 9, "", #[], none⟩,
  ⟨(some 64), (.move (.tmp 0)), 9, "", #[], none⟩,
  ⟨(some 65), (.call ⟨(.value (.func 15)), #[(.tmp 63), (.tmp 64)], #[9, 9]⟩), 37, "", #[⟨0, .chain⟩], none⟩,
  ⟨(some 62), (.move (.tmp 65)), 37, "", #[], none⟩,
  ⟨(some 66), (.extract (.tmp 62) 0), 4, "", #[], none⟩,
  ⟨(some 67), (.extract (.tmp 62) 1), 27, "", #[], none⟩,
  ⟨(some 12), (.assign (.tmp 66)), 4, "", #[], none⟩,
  ⟨(some 13), (.assign (.tmp 67)), 27, "", #[], none⟩]
def F6.r19 : List Oper := [
  ⟨(some 69), (.move (.tmp 9)), 9, "", #[], none⟩,
  ⟨(some 70), (.move (.tmp 1)), 9, "", #[], none⟩,
  ⟨(some 71), (.call ⟨(.value (.func 15)), #[(.tmp 69), (.tmp 70)], #[9, 9]⟩), 37, "", #[⟨0, .chain⟩], none⟩,
  ⟨(some 68), (.move (.tmp 71)), 37, "", #[], none⟩,
  ⟨(some 72), (.extract (.tmp 68) 0), 4, "", #[], none⟩,
  ⟨(some 73), (.extract (.tmp 68) 1), 27, "", #[], none⟩,
  ⟨(some 14), (.assign (.tmp 72)), 4, "", #[], none⟩,
  ⟨(some 15), (.assign (.tmp 73)), 27, "", #[], none⟩]
def F6.r20 : List Oper := [
  ⟨(some 75), (.move (.tmp 10)), 9, "", #[], none⟩,
  ⟨(some 76), (.move (.tmp 0)), 9, "", #[], none⟩,
  ⟨(some 77), (.call ⟨(.value (.func 15)), #[(.tmp 75), (.tmp 76)], #[9, 9]⟩), 37, "", #[⟨0, .chain⟩], none⟩,
  ⟨(some 74), (.move (.tmp 77)), 37, "", #[], none⟩,
  ⟨(some 78), (.extract (.tmp 74) 0), 4, "", #[], none⟩,
  ⟨(some 79), (.extract (.tmp 74) 1), 27, "", #[], none⟩,
  ⟨(some 16), (.assign (.tmp 78)), 4, "", #[], none⟩,
  ⟨(some 17), (.assign (.tmp 79)), 27, "", #[], none⟩]
def F6.r21 : List Oper := [
  ⟨(some 81), (.move (.tmp 10)), 9, "", #[], none⟩,
  ⟨(some 82), (.move (.tmp 1)), 9, "", #[], none⟩,
  ⟨(some 83), (.call ⟨(.value (.func 15)), #[(.tmp 81), (.tmp 82)], #[9, 9]⟩), 37, "", #[⟨0, .chain⟩], none⟩,
  ⟨(some 80), (.move (.tmp 83)), 37, "", #[], none⟩,
  ⟨(some 84), (.extract (.tmp 80) 0), 4, "", #[], none⟩,
  ⟨(some 85), (.extract (.tmp 80) 1), 27, "", #[], none⟩,
  ⟨(some 18), (.assign (.tmp 84)), 4, "", #[], none⟩,
  ⟨(some 19), (.assign (.tmp 85)), 27, "", #[], none⟩]
def F6.r22 : List Oper := [
  ⟨(some 86), (.move (.tmp 1)), 9, "", #[], none⟩,
  ⟨(some 87), (.call ⟨(.value (.func 17)), #[(.tmp 86)], #[9]⟩), 24, "", #[⟨0, .chain⟩], none⟩,
  ⟨(some 20), (.assign (.tmp 87)), 24, "", #[], none⟩]
def F6.r23 : List Oper := [
  ⟨(some 88), (.move (.tmp 13)), 27, "", #[], none⟩,
  ⟨(some 89), (.binOp .eql 27 (.tmp 88) (.const (.int .i64 0)) 27), 4, "", #[], none⟩,
  ⟨(some 90), (.move (.tmp 89)), 4, "", #[], none⟩,
  ⟨(some 91), (.move (.tmp 15)), 27, "", #[], (some (90, true))⟩,
  ⟨(some 92), (.binOp .eql 27 (.tmp 91) (.const (.int .i64 0)) 27), 4, "", #[], (some (90, true))⟩,
  ⟨(some 93), (.pick (.tmp 90) (.tmp 92) (.const (.bool false))), 4, "", #[], none⟩,
  ⟨(some 94), (.move (.tmp 93)), 4, "", #[], none⟩,
  ⟨(some 95), (.move (.tmp 17)), 27, "", #[], (some (94, true))⟩,
  ⟨(some 96), (.binOp .eql 27 (.tmp 95) (.const (.int .i64 0)) 27), 4, "", #[], (some (94, true))⟩,
  ⟨(some 97), (.pick (.tmp 94) (.tmp 96) (.const (.bool false))), 4, "", #[], none⟩,
  ⟨(some 98), (.move (.tmp 97)), 4, "", #[], none⟩,
  ⟨(some 99), (.move (.tmp 19)), 27, "", #[], (some (98, true))⟩,
  ⟨(some 100), (.binOp .eql 27 (.tmp 99) (.const (.int .i64 0)) 27), 4, "", #[], (some (98, true))⟩,
  ⟨(some 101), (.pick (.tmp 98) (.tmp 100) (.const (.bool false))), 4, "", #[], none⟩,
  ⟨(some 102), (.move (.tmp 101)), 4, "", #[], none⟩,
  ⟨(some 103), (.move (.tmp 12)), 4, "", #[], (some (102, true))⟩,
  ⟨(some 104), (.pick (.tmp 102) (.tmp 103) (.const (.bool false))), 4, "", #[], none⟩,
  ⟨(some 105), (.move (.tmp 104)), 4, "", #[], none⟩,
  ⟨(some 106), (.move (.tmp 14)), 4, "", #[], (some (105, true))⟩,
  ⟨(some 107), (.move (.tmp 0)), 9, "", #[], (some (105, true))⟩,
  ⟨(some 108), (.move (.tmp 1)), 9, "", #[], (some (105, true))⟩,
  ⟨(some 109), (.binOp .eql 9 (.tmp 107) (.tmp 108) 9), 4, "", #[], (some (105, true))⟩,
  ⟨(some 110), (.binOp .eql 4 (.tmp 106) (.tmp 109) 4), 4, "", #[], (some (105, true))⟩,
  ⟨(some 111), (.pick (.tmp 105) (.tmp 110) (.const (.bool false))), 4, "", #[], none⟩,
  ⟨(some 112), (.move (.tmp 111)), 4, "", #[], none⟩,
  ⟨(some 113), (.move (.tmp 16)), 4, "", #[], (some (112, true))⟩,
  ⟨(some 114), (.pick (.tmp 112) (.tmp 113) (.const (.bool false))), 4, "", #[], none⟩,
  ⟨(some 115), (.move (.tmp 114)), 4, "", #[], none⟩,
  ⟨(some 116), (.move (.tmp 18)), 4, "", #[], (some (115, true))⟩,
  ⟨(some 117), (.move (.tmp 7)), 4, "", #[], (some (115, true))⟩,
  ⟨(some 118), (.move (.tmp 117)), 4, "", #[], (some (115, true))⟩,
  ⟨(some 119), (.move (.tmp 8)), 24, "", #[], (some (118, true))⟩,
  ⟨(some 120), (.call ⟨(.builtin .len), #[(.tmp 119)], #[24]⟩), 3, "", #[], (some (118, true))⟩,
  ⟨(some 121), (.move (.tmp 20)), 24, "", #[], (some (118, true))⟩,
  ⟨(some 122), (.call ⟨(.builtin .len), #[(.tmp 121)], #[24]⟩), 3, "", #[], (some (118, true))⟩,
  ⟨(some 123), (.binOp .eql 3 (.tmp 120) (.tmp 122) 3), 4, "", #[], (some (118, true))⟩,
  ⟨(some 124), (.pick (.tmp 118) (.tmp 123) (.const (.bool false))), 4, "", #[], (some (115, true))⟩,
  ⟨(some 125), (.binOp .eql 4 (.tmp 116) (.tmp 124) 4), 4, "", #[], (some (115, true))⟩,
  ⟨(some 126), (.pick (.tmp 115) (.tmp 125) (.const (.bool false))), 4, "", #[], none⟩,
  ⟨(some 4), (.assign (.tmp 126)), 4, "", #[], none⟩]
def F6.t13 : Cd := (.region 13 F6.r13.toArray false)
theorem F6.t13_eq {P : Program} {Q : Post} {e : FA} {w : World} {θ : Tag (F6.t13, Q, e, w)} : cwE P F6.t13 Q e w θ = cwE P (.region 13 F6.r13.toArray false) Q e w := rfl
def F6.t14 : Cd := (.seq (.block 1 (.seq (.region 14 F6.r14.toArray false) (.region 15 F6.r15.toArray false))) F6.t13)
theorem F6.t14_eq {P : Program} {Q : Post} {e : FA} {w : World} {θ : Tag (F6.t14, Q, e, w)} : cwE P F6.t14 Q e w θ = cwE P (.seq (.block 1 (.seq (.region 14 F6.r14.toArray false) (.region 15 F6.r15.toArray false))) F6.t13) Q e w := rfl
def F6.t18 : Cd := (.seq (.region 18 F6.r18.toArray false) (.seq (.region 19 F6.r19.toArray false) (.seq (.region 20 F6.r20.toArray false) (.seq (.region 21 F6.r21.toArray false) (.seq (.region 22 F6.r22.toArray false) (.seq (.region 23 F6.r23.toArray false) .ret))))))
theorem F6.t18_eq {P : Program} {Q : Post} {e : FA} {w : World} {θ : Tag (F6.t18, Q, e, w)} : cwE P F6.t18 Q e w θ = cwE P (.seq (.region 18 F6.r18.toArray false) (.seq (.region 19 F6.r19.toArray false) (.seq (.region 20 F6.r20.toArray false) (.seq (.region 21 F6.r21.toArray false) (.seq (.region 22 F6.r22.toArray false) (.seq (.region 23 F6.r23.toArray false) .ret)))))) Q e w := rfl
def F6.t16 : Cd := (.seq (.seq (.region 16 F6.r16.toArray false) (.cond (.tmp 61) (.seq (.region 17 F6.r17.toArray false) .ret) .skip)) F6.t18)
theorem F6.t16_eq {P : Program} {Q : Post} {e : FA} {w : World} {θ : Tag (F6.t16, Q, e, w)} : cwE P F6.t16 Q e w θ = cwE P (.seq (.seq (.region 16 F6.r16.toArray false) (.cond (.tmp 61) (.seq (.region 17 F6.r17.toArray false) .ret) .skip)) F6.t18) Q e w := rfl
def F6.t8 : Cd := (.seq (.region 8 F6.r8.toArray false) (.seq (.region 9 F6.r9.toArray false) (.seq (.region 10 F6.r10.toArray false) (.seq (.seq (.region 11 F6.r11.toArray false) (.block 0 (.loop (.seq (.seq (.region 12 F6.r12.toArray false) (.cond (.tmp 47) .skip (.exit 0))) F6.t14)))) F6.t16))))
theorem F6.t8_eq {P : Program} {Q : Post} {e : FA} {w : World} {θ : Tag (F6.t8, Q, e, w)} : cwE P F6.t8 Q e w θ = cwE P (.seq (.region 8 F6.r8.toArray false) (.seq (.region 9 F6.r9.toArray false) (.seq (.region 10 F6.r10.toArray false) (.seq (.seq (.region 11 F6.r11.toArray false) (.block 0 (.loop (.seq (.seq (.region 12 F6.r12.toArray false) (.cond (.tmp 47) .skip (.exit 0))) F6.t14)))) F6.t16)))) Q e w := rfl
def F6.t4 : Cd := (.seq (.region 4 F6.r4.toArray false) (.seq (.region 5 F6.r5.toArray false) (.seq (.seq (.region 6 F6.r6.toArray false) (.cond (.tmp 40) (.seq (.region 7 F6.r7.toArray false) .ret) .skip)) F6.t8)))
theorem F6.t4_eq {P : Program} {Q : Post} {e : FA} {w : World} {θ : Tag (F6.t4, Q, e, w)} : cwE P F6.t4 Q e w θ = cwE P (.seq (.region 4 F6.r4.toArray false) (.seq (.region 5 F6.r5.toArray false) (.seq (.seq (.region 6 F6.r6.toArray false) (.cond (.tmp 40) (.seq (.region 7 F6.r7.toArray false) .ret) .skip)) F6.t8))) Q e w := rfl
def F6.code : Cd := (.seq (.region 0 F6.r0.toArray false) (.seq (.region 1 F6.r1.toArray false) (.seq (.seq (.region 2 F6.r2.toArray false) (.cond (.tmp 29) (.seq (.region 3 F6.r3.toArray false) .ret) .skip)) F6.t4)))
theorem F6.calls {args : Array Value} {w : World} {R : Ending → World → Prop} (hn : args.size ≤ 127) (h : cwE Tryd.prog F6.code (fnP Tryd.prog #[(.tmp 4)] R) (entry args) w) : Calls Tryd.prog 6 args w R :=
  calls_of_cwE (types := Tryd.prog.types) follows Tryd.func6 F6.code rfl (by kernel_rfl) hn h

def F7.r0 : List Oper := [
  ⟨(some 2), (.assign (.const (.bool false))), 4, "", #[], none⟩]
def F7.r1 : List Oper := [
  ⟨(some 16), (.call ⟨(.value (.func 10)), #[], #[]⟩), 4, "", #[⟨0, .chain⟩], none⟩,
  ⟨(some 3), (.assign (.tmp 16)), 4, "", #[], none⟩]
def F7.r2 : List Oper := [
  ⟨(some 17), (.move (.tmp 0)), 9, "", #[], none⟩,
  ⟨(some 18), (.call ⟨(.builtin .len), #[(.tmp 17)], #[9]⟩), 3, "", #[], none⟩,
  ⟨(some 19), (.binOp .gtr 3 (.tmp 18) (.const (.int .i64 268435456)) 3), 4, "", #[], none⟩]
def F7.r3 : List Oper := [
  ⟨(some 20), (.move (.tmp 3)), 4, "", #[], none⟩,
  ⟨(some 2), (.assign (.tmp 20)), 4, "", #[], none⟩]
def F7.r4 : List Oper := [
  ⟨(some 22), (.move (.tmp 0)), 9, "", #[], none⟩,
  ⟨(some 23), (.call ⟨(.value (.func 12)), #[(.tmp 22)], #[9]⟩), 30, "", #[⟨0, .chain⟩], none⟩,
  ⟨(some 21), (.move (.tmp 23)), 30, "", #[], none⟩,
  ⟨(some 24), (.extract (.tmp 21) 0), 9, "", #[], none⟩,
  ⟨(some 25), (.extract (.tmp 21) 1), 27, "", #[], none⟩,
  ⟨(some 4), (.assign (.tmp 24)), 9, "", #[], none⟩,
  ⟨(some 5), (.assign (.tmp 25)), 27, "", #[], none⟩]
def F7.r5 : List Oper := [
  ⟨(some 27), (.move (.tmp 0)), 9, "", #[], none⟩,
  ⟨(some 28), (.call ⟨(.value (.func 11)), #[(.tmp 27)], #[9]⟩), 28, "", #[⟨0, .chain⟩], none⟩,
  ⟨(some 26), (.move (.tmp 28)), 28, "", #[], none⟩,
  ⟨(some 29), (.extract (.tmp 26) 0), 26, "", #[], none⟩,
  ⟨(some 30), (.extract (.tmp 26) 1), 27, "", #[], none⟩,
  ⟨(some 6), (.alloc 26), 0, "", #[⟨0, .chain⟩], none⟩,
  ⟨none, (.store 26 (.tmp 6) (.tmp 29)), 0, "", #[⟨0, .chain⟩], none⟩,
  ⟨(some 7), (.assign (.tmp 30)), 27, "", #[], none⟩]
def F7.r6 : List Oper := [
  ⟨(some 31), (.move (.tmp 3)), 4, "", #[], none⟩,
  ⟨(some 32), (.unOp .not 4 (.tmp 31)), 4, "", #[], none⟩,
  ⟨(some 33), (.move (.tmp 32)), 4, "", #[], none⟩,
  ⟨(some 34), (.move (.tmp 5)), 27, "", #[], (some (33, false))⟩,
  ⟨(some 35), (.move (.tmp 7)), 27, "", #[], (some (33, false))⟩,
  ⟨(some 36), (.binOp .neq 27 (.tmp 34) (.tmp 35) 27), 4, "", #[], (some (33, false))⟩,
  ⟨(some 37), (.pick (.tmp 33) (.const (.bool true)) (.tmp 36)), 4, "", #[], none⟩]
def F7.r7 : List Oper := [
  ⟨(some 2), (.assign (.const (.bool false))), 4, "", #[], none⟩]
def F7.r8 : List Oper := [
  ⟨(some 38), (.move (.tmp 5)), 27, "", #[], none⟩,
  ⟨(some 39), (.binOp .neq 27 (.tmp 38) (.const (.int .i64 0)) 27), 4, "", #[], none⟩]
def F7.r9 : List Oper := [
  ⟨(some 40), (.move (.tmp 5)), 27, "", #[], none⟩,
  ⟨(some 41), (.binOp .eql 27 (.tmp 40) (.const (.int .i64 51)) 27), 4, "", #[], none⟩,
  ⟨(some 42), (.move (.tmp 41)), 4, "", #[], none⟩,
  ⟨(some 43), (.move (.tmp 4)), 9, "", #[], (some (42, true))⟩,
  ⟨(some 44), (.binOp .eql 9 (.tmp 43) (.const (.string { data := #[] })) 9), 4, "", #[], (some (42, true))⟩,
  ⟨(some 45), (.pick (.tmp 42) (.tmp 44) (.const (.bool false))), 4, "", #[], none⟩,
  ⟨(some 46), (.move (.tmp 45)), 4, "", #[], none⟩,
  ⟨(some 47), (.fieldAddr 26 (.tmp 6) 1), 0, "", #[], (some (46, true))⟩,
  ⟨(some 48), (.load 24 (.tmp 47)), 24, "", #[⟨0, .data⟩], (some (46, true))⟩,
  ⟨(some 49), (.call ⟨(.builtin .len), #[(.tmp 48)], #[24]⟩), 3, "", #[], (some (46, true))⟩,
  ⟨(some 50), (.binOp .eql 3 (.tmp 49) (.const (.int .i64 0)) 3), 4, "", #[], (some (46, true))⟩,
  ⟨(some 51), (.pick (.tmp 46) (.tmp 50) (.const (.bool false))), 4, "", #[], none⟩,
  ⟨(some 2), (.assign (.tmp 51)), 4, "", #[], none⟩]
def F7.r10 : List Oper := [
  ⟨(some 53), (.move (.tmp 4)), 9, "", #[], none⟩,
  ⟨(some 54), (.call ⟨(.value (.func 12)), #[(.tmp 53)], #[9]⟩), 30, "", #[⟨0, .chain⟩], none⟩,
  ⟨(some 52), (.move (.tmp 54)), 30, "", #[], none⟩,
  ⟨(some 55), (.extract (.tmp 52) 0), 9, "", #[], none⟩,
  ⟨(some 56), (.extract (.tmp 52) 1), 27, "", #[], none⟩,
  ⟨(some 8), (.assign (.tmp 55)), 9, "", #[], none⟩,
  ⟨(some 5), (.assign (.tmp 56)), 27, "", #[], none⟩]
def F7.r11 : List Oper := [
  ⟨(some 58), (.move (.tmp 4)), 9, "", #[], none⟩,
  ⟨(some 59), (.call ⟨(.value (.func 11)), #[(.tmp 58)], #[9]⟩), 28, "", #[⟨0, .chain⟩], none⟩,
  ⟨(some 57), (.move (.tmp 59)), 28, "", #[], none⟩,
  ⟨(some 60), (.extract (.tmp 57) 0), 26, "", #[], none⟩,
  ⟨(some 61), (.extract (.tmp 57) 1), 27, "", #[], none⟩,
  ⟨(some 9), (.alloc 26), 0, "", #[⟨0, .chain⟩], none⟩,
  ⟨none, (.store 26 (.tmp 9) (.tmp 60)), 0, "", #[⟨0, .chain⟩], none⟩,
  ⟨(some 7), (.assign (.tmp 61)), 27, "", #[], none⟩]
def F7.r12 : List Oper := [
  ⟨(some 62), (.move (.tmp 5)), 27, "", #[], none⟩,
  ⟨(some 63), (.binOp .neq 27 (.tmp 62) (.const (.int .i64 0)) 27), 4, "", #[], none⟩,
  ⟨(some 64), (.move (.tmp 63)), 4, "", #[], none⟩,
  ⟨(some 65), (.move (.tmp 7)), 27, "", #[], (some (64, false))⟩,
  ⟨(some 66), (.binOp .neq 27 (.tmp 65) (.const (.int .i64 0)) 27), 4, "", #[], (some (64, false))⟩,
  ⟨(some 67), (.pick (.tmp 64) (.const (.bool true)) (.tmp 66)), 4, "", #[], none⟩,
  ⟨(some 68), (.move (.tmp 67)), 4, "", #[], none⟩,
  ⟨(some 69), (.move (.tmp 8)), 9, "", #[], (some (68, false))⟩,
  ⟨(some 70), (.move (.tmp 4)), 9, "", #[], (some (68, false))⟩,
  ⟨(some 71), (.binOp .neq 9 (.tmp 69) (.tmp 70) 9), 4, "", #[], (some (68, false))⟩,
  ⟨(some 72), (.pick (.tmp 68) (.const (.bool true)) (.tmp 71)), 4, "", #[], none⟩,
  ⟨(some 73), (.move (.tmp 72)), 4, "", #[], none⟩,
  ⟨(some 74), (.fieldAddr 26 (.tmp 9) 0), 0, "", #[], (some (73, false))⟩,
  ⟨(some 76), (.fieldAddr 26 (.tmp 6) 0), 0, "", #[], (some (73, false))⟩,
  ⟨(some 75), (.load 4 (.tmp 74)), 4, "", #[⟨0, .data⟩], (some (73, false))⟩,
  ⟨(some 77), (.load 4 (.tmp 76)), 4, "", #[⟨0, .data⟩], (some (73, false))⟩,
  ⟨(some 78), (.binOp .neq 4 (.tmp 75) (.tmp 77) 4), 4, "", #[], (some (73, false))⟩,
  ⟨(some 79), (.pick (.tmp 73) (.const (.bool true)) (.tmp 78)), 4, "", #[], none⟩,
  ⟨(some 80), (.move (.tmp 79)), 4, "", #[], none⟩,
  ⟨(some 81), (.fieldAddr 26 (.tmp 9) 0), 0, "", #[], (some (80, false))⟩,
  ⟨(some 83), (.move (.tmp 0)), 9, "", #[], (some (80, false))⟩,
  ⟨(some 84), (.binOp .neq 9 (.tmp 83) (.const (.string { data := #[] })) 9), 4, "", #[], (some (80, false))⟩,
  ⟨(some 85), (.move (.tmp 84)), 4, "", #[], (some (80, false))⟩,
  ⟨(some 86), (.move (.tmp 0)), 9, "", #[], (some (85, true))⟩,
  ⟨(some 87), (.index 9 (.tmp 86) (.const (.int .i64 0))), 5, "", #[], (some (85, true))⟩,
  ⟨(some 88), (.binOp .eql 5 (.tmp 87) (.const (.int .u8 47)) 5), 4, "", #[], (some (85, true))⟩,
  ⟨(some 89), (.pick (.tmp 85) (.tmp 88) (.const (.bool false))), 4, "", #[], (some (80, false))⟩,
  ⟨(some 82), (.load 4 (.tmp 81)), 4, "", #[⟨0, .data⟩], (some (80, false))⟩,
  ⟨(some 90), (.binOp .neq 4 (.tmp 82) (.tmp 89) 4), 4, "", #[], (some (80, false))⟩,
  ⟨(some 91), (.pick (.tmp 80) (.const (.bool true)) (.tmp 90)), 4, "", #[], none⟩]
def F7.r13 : List Oper := [
  ⟨(some 2), (.assign (.const (.bool false))), 4, "", #[], none⟩]
def F7.r14 : List Oper := [
  ⟨(some 10), (.assign (.const (.bool false))), 4, "", #[], none⟩]
def F7.r15 : List Oper := [
  ⟨(some 11), (.assign (.const (.int .i64 0))), 3, "", #[], none⟩]
def F7.r16 : List Oper := [
  ⟨(some 92), (.move (.tmp 11)), 3, "", #[], none⟩,
  ⟨(some 93), (.fieldAddr 26 (.tmp 9) 1), 0, "", #[], none⟩,
  ⟨(some 94), (.load 24 (.tmp 93)), 24, "", #[⟨0, .data⟩], none⟩,
  ⟨(some 95), (.call ⟨(.builtin .len), #[(.tmp 94)], #[24]⟩), 3, "", #[], none⟩,
  ⟨(some 96), (.binOp .lss 3 (.tmp 92) (.tmp 95) 3), 4, "", #[], none⟩]
def F7.r18 : List Oper := [
  ⟨(some 99), (.fieldAddr 26 (.tmp 9) 1), 0, "", #[], none⟩,
  ⟨(some 100), (.load 24 (.tmp 99)), 24, "", #[⟨0, .data⟩], none⟩,
  ⟨(some 101), (.move (.tmp 11)), 3, "", #[], none⟩,
  ⟨(some 102), (.indexAddr 24 (.tmp 100) (.tmp 101)), 0, "", #[], none⟩,
  ⟨(some 103), (.load 9 (.tmp 102)), 9, "", #[⟨0, .data⟩], none⟩,
  ⟨(some 104), (.binOp .eql 9 (.tmp 103) (.const (.string { data := #[46, 46] })) 9), 4, "", #[], none⟩,
  ⟨(some 12), (.assign (.tmp 104)), 4, "", #[], none⟩]
def F7.r19 : List Oper := [
  ⟨(some 105), (.fieldAddr 26 (.tmp 9) 1), 0, "", #[], none⟩,
  ⟨(some 106), (.load 24 (.tmp 105)), 24, "", #[⟨0, .data⟩], none⟩,
  ⟨(some 107), (.move (.tmp 11)), 3, "", #[], none⟩,
  ⟨(some 108), (.indexAddr 24 (.tmp 106) (.tmp 107)), 0, "", #[], none⟩,
  ⟨(some 109), (.load 9 (.tmp 108)), 9, "", #[⟨0, .data⟩], none⟩,
  ⟨(some 110), (.binOp .eql 9 (.tmp 109) (.const (.string { data := #[] })) 9), 4, "", #[], none⟩,
  ⟨(some 111), (.move (.tmp 110)), 4, "", #[], none⟩,
  ⟨(some 112), (.fieldAddr 26 (.tmp 9) 1), 0, "", #[], (some (111, false))⟩,
  ⟨(some 113), (.load 24 (.tmp 112)), 24, "", #[⟨0, .data⟩], (some (111, false))⟩,
  ⟨(some 114), (.move (.tmp 11)), 3, "", #[], (some (111, false))⟩,
  ⟨(some 115), (.indexAddr 24 (.tmp 113) (.tmp 114)), 0, "", #[], (some (111, false))⟩,
  ⟨(some 116), (.load 9 (.tmp 115)), 9, "", #[⟨0, .data⟩], (some (111, false))⟩,
  ⟨(some 117), (.binOp .eql 9 (.tmp 116) (.const (.string { data := #[46] })) 9), 4, "", #[], (some (111, false))⟩,
  ⟨(some 118), (.pick (.tmp 111) (.const (.bool true)) (.tmp 117)), 4, "", #[], none⟩,
  ⟨(some 119), (.move (.tmp 118)), 4, "", #[], none⟩,
  ⟨(some 120), (.move (.tmp 12)), 4, "", #[], (some (119, false))⟩,
  ⟨(some 121), (.move (.tmp 120)), 4, "", #[], (some (119, false))⟩,
  ⟨(some 122), (.move (.tmp 10)), 4, "", #[], (some (121, true))⟩,
  ⟨(some 123), (.move (.tmp 122)), 4, "", #[], (some (121, true))⟩,
  ⟨(some 124), (.fieldAddr 26 (.tmp 9) 0), 0, "", #[], (some (123, false))⟩,
  ⟨(some 125), (.load 4 (.tmp 124)), 4, "", #[⟨0, .data⟩], (some (123, false))⟩,
  ⟨(some 126), (.pick (.tmp 123) (.const (.bool true)) (.tmp 125)), 4, "", #[], (some (121, true))⟩,
  ⟨(some 127), (.pick (.tmp 121) (.tmp 126) (.const (.bool false))), 4, "", #[], (some (119, false))⟩,
  ⟨(some 128), (.pick (.tmp 119) (.const (.bool true)) (.tmp 127)), 4, "", #[], none⟩]
def F7.r20 : List Oper := [
  ⟨(some 2), (.assign (.const (.bool false))), 4, "", #[], none⟩]
def F7.r21 : List Oper := [
  ⟨(some 129), (.move (.tmp 10)), 4, "", #[], none⟩,
  ⟨(some 130), (.move (.tmp 129)), 4, "", #[], none⟩,
  ⟨(some 131), (.move (.tmp 12)), 4, "", #[], (some (130, false))⟩,
  ⟨(some 132), (.unOp .not 4 (.tmp 131)), 4, "", #[], (some (130, false))⟩,
  ⟨(some 133), (.pick (.tmp 130) (.const (.bool true)) (.tmp 132)), 4, "", #[], none⟩,
  ⟨(some 10), (.assign (.tmp 133)), 4, "", #[], none⟩]
def F7.r17 : List Oper := [
  ⟨(some 97), (.move (.tmp 11)), 3, "", #[], none⟩,
  ⟨(some 98), (.binOp .add 3 (.tmp 97) (.const (.int .i64 1)) 3), 3, "", #[], none⟩,
  ⟨(some 11), (.assign (.tmp 98)), 3, "", #[], none⟩]
def F7.r22 : List Oper := [
  ⟨(some 134), (.load 26 (.tmp 9)), 26, "", #[⟨0, .data⟩], none⟩,
  ⟨(some 135), (.call ⟨(.value (.func 18)), #[(.tmp 134)], #[26]⟩), 9, "", #[⟨0, .chain⟩], none⟩,
  ⟨(some 13), (.assign (.tmp 135)), 9, "", #[], none⟩]
def F7.r23 : List Oper := [
  ⟨(some 137), (.move (.tmp 4)), 9, "", #[], none⟩,
  ⟨(some 138), (.move (.tmp 4)), 9, "", #[], none⟩,
  ⟨(some 139), (.call ⟨(.value (.func 19)), #[(.tmp 137), (.tmp 138)], #[9, 9]⟩), 44, "", #[⟨0, .chain⟩], none⟩,
  ⟨(some 136), (.move (.tmp 139)), 44, "", #[], none⟩,
  ⟨(some 140), (.extract (.tmp 136) 0), 9, "", #[], none⟩,
  ⟨(some 141), (.extract (.tmp 136) 1), 4, "", #[], none⟩,
  ⟨(some 14), (.assign (.tmp 140)), 9, "", #[], none⟩,
  ⟨(some 15), (.assign (.tmp 141)), 4, "", #[], none⟩]
def F7.r24 : List Oper := [
  ⟨(some 142), (.move (.tmp 13)), 9, "", #[], none⟩,
  ⟨(some 143), (.move (.tmp 4)), 9, "", #[], none⟩,
  ⟨(some 144), (.binOp .eql 9 (.tmp 142) (.tmp 143) 9), 4, "", #[], none⟩,
  ⟨(some 145), (.move (.tmp 144)), 4, "", #[], none⟩,
  ⟨(some 146), (.move (.tmp 14)), 9, "", #[], (some (145, true))⟩,
  ⟨(some 147), (.binOp .eql 9 (.tmp 146) (.const (.string { data := #[46] })) 9), 4, "", #[], (some (145, true))⟩,
  ⟨(some 148), (.pick (.tmp 145) (.tmp 147) (.const (.bool false))), 4, "", #[], none⟩,
  ⟨(some 149), (.move (.tmp 148)), 4, "", #[], none⟩,
  ⟨(some 150), (.move (.tmp 15)), 4, "", #[], (some (149, true))⟩,
  ⟨(some 151), (.pick (.tmp 149) (.tmp 150) (.const (.bool false))), 4, "", #[], none⟩,
  ⟨(some 2), (.assign (.tmp 151)), 4, "", #[], none⟩]
def F7.t21 : Cd := (.region 21 F7.r21.toArray false)
theorem F7.t21_eq {P : Program} {Q : Post} {e : FA} {w : World} {θ : Tag (F7.t21, Q, e, w)} : cwE P F7.t21 Q e w θ = cwE P (.region 21 F7.r21.toArray false) Q e w := rfl
def F7.t17 : Cd := (.region 17 F7.r17.toArray false)
theorem F7.t17_eq {P : Program} {Q : Post} {e : FA} {w : World} {θ : Tag (F7.t17, Q, e, w)} : cwE P F7.t17 Q e w θ = cwE P (.region 17 F7.r17.toArray false) Q e w := rfl
def F7.t18 : Cd := (.seq (.block 1 (.seq (.region 18 F7.r18.toArray false) (.seq (.seq (.region 19 F7.r19.toArray false) (.cond (.tmp 128) (.seq (.region 20 F7.r20.toArray false) .ret) .skip)) F7.t21))) F7.t17)
theorem F7.t18_eq {P : Program} {Q : Post} {e : FA} {w : World} {θ : Tag (F7.t18, Q, e, w)} : cwE P F7.t18 Q e w θ = cwE P (.seq (.block 1 (.seq (.region 18 F7.r18.toArray false) (.seq (.seq (.region 19 F7.r19.toArray false) (.cond (.tmp 128) (.seq (.region 20 F7.r20.toArray false) .ret) .skip)) F7.t21))) F7.t17) Q e w := rfl
def F7.t22 : Cd := (.seq (.region 22 F7.r22.toArray false) (.seq (.region 23 F7.r23.toArray false) (.seq (.region 24 F7.r24.toArray false) .ret)))
theorem F7.t22_eq {P : Program} {Q : Post} {e : FA} {w : World} {θ : Tag (F7.t22, Q, e, w)} : cwE P F7.t22 Q e w θ = cwE P (.seq (.region 22 F7.r22.toArray false) (.seq (.region 23 F7.r23.toArray false) (.seq (.region 24 F7.r24.toArray false) .ret))) Q e w := rfl
def F7.t14 : Cd := (.seq (.region 14 F7.r14.toArray false) (.seq (.seq (.region 15 F7.r15.toArray false) (.block 0 (.loop (.seq (.seq (.region 16 F7.r16.toArray false) (.cond (.tmp 96) .skip (.exit 0))) F7.t18)))) F7.t22))
theorem F7.t14_eq {P : Program} {Q : Post} {e : FA} {w : World} {θ : Tag (F7.t14, Q, e, w)} : cwE P F7.t14 Q e w θ = cwE P (.seq (.region 14 F7.r14.toArray false) (.seq (.seq (.region 15 F7.r15.toArray false) (.block 0 (.loop (.seq (.seq (.region 16 F7.r16.toArray false) (.cond (.tmp 96) .skip (.exit 0))) F7.t18)))) F7.t22)) Q e w := rfl
def F7.t10 : Cd := (.seq (.region 10 F7.r10.toArray false) (.seq (.region 11 F7.r11.toArray false) (.seq (.seq (.region 12 F7.r12.toArray true) (.cond (.tmp 91) (.seq (.region 13 F7.r13.toArray false) .ret) .skip)) F7.t14)))
theorem F7.t10_eq {P : Program} {Q : Post} {e : FA} {w : World} {θ : Tag (F7.t10, Q, e, w)} : cwE P F7.t10 Q e w θ = cwE P (.seq (.region 10 F7.r10.toArray false) (.seq (.region 11 F7.r11.toArray false) (.seq (.seq (.region 12 F7.r12.toArray true) (.cond (.tmp 91) (.seq (.region 13 F7.r13.toArray false) .ret) .skip)) F7.t14))) Q e w := rfl
def F7.t8 : Cd := (.seq (.seq (.region 8 F7.r8.toArray false) (.cond (.tmp 39) (.seq (.region 9 F7.r9.toArray false) .ret) .skip)) F7.t10)
theorem F7.t8_eq {P : Program} {Q : Post} {e : FA} {w : World} {θ : Tag (F7.t8, Q, e, w)} : cwE P F7.t8 Q e w θ = cwE P (.seq (.seq (.region 8 F7.r8.toArray false) (.cond (.tmp 39) (.seq (.region 9 F7.r9.toArray false) .ret) .skip)) F7.t10) Q e w := rfl
def F7.t4 : Cd := (.seq (.region 4 F7.r4.toArray false) (.seq (.region 5 F7.r5.toArray false) (.seq (.seq (.region 6 F7.r6.toArray false) (.cond (.tmp 37) (.seq (.region 7 F7.r7.toArray false) .ret) .skip)) F7.t8)))
theorem F7.t4_eq {P : Program} {Q : Post} {e : FA} {w : World} {θ : Tag (F7.t4, Q, e, w)} : cwE P F7.t4 Q e w θ = cwE P (.seq (.region 4 F7.r4.toArray false) (.seq (.region 5 F7.r5.toArray false) (.seq (.seq (.region 6 F7.r6.toArray false) (.cond (.tmp 37) (.seq (.region 7 F7.r7.toArray false) .ret) .skip)) F7.t8))) Q e w := rfl
def F7.code : Cd := (.seq (.region 0 F7.r0.toArray false) (.seq (.region 1 F7.r1.toArray false) (.seq (.seq (.region 2 F7.r2.toArray false) (.cond (.tmp 19) (.seq (.region 3 F7.r3.toArray false) .ret) .skip)) F7.t4)))
theorem F7.calls {args : Array Value} {w : World} {R : Ending → World → Prop} (hn : args.size ≤ 152) (h : cwE Tryd.prog F7.code (fnP Tryd.prog #[(.tmp 2)] R) (entry args) w) : Calls Tryd.prog 7 args w R :=
  calls_of_cwE (types := Tryd.prog.types) follows Tryd.func7 F7.code rfl (by kernel_rfl) hn h

def F8.r0 : List Oper := [
  ⟨(some 6), (.assign (.const (.bool false))), 4, "", #[], none⟩]
def F8.r1 : List Oper := [
  ⟨(some 23), (.call ⟨(.value (.func 10)), #[], #[]⟩), 4, "", #[⟨0, .chain⟩], none⟩,
  ⟨(some 7), (.assign (.tmp 23)), 4, "", #[], none⟩]
def F8.r2 : List Oper := [
  ⟨(some 24), (.move (.tmp 0)), 9, "", #[], none⟩,
  ⟨(some 25), (.call ⟨(.builtin .len), #[(.tmp 24)], #[9]⟩), 3, "", #[], none⟩,
  ⟨(some 26), (.binOp .gtr 3 (.tmp 25) (.const (.int .i64 268435456)) 3), 4, "", #[], none⟩,
  ⟨(some 27), (.move (.tmp 26)), 4, "", #[], none⟩,
  ⟨(some 28), (.move (.tmp 2)), 9, "", #[], (some (27, false))⟩,
  ⟨(some 29), (.call ⟨(.builtin .len), #[(.tmp 28)], #[9]⟩), 3, "", #[], (some (27, false))⟩,
  ⟨(some 30), (.binOp .gtr 3 (.tmp 29) (.const (.int .i64 268435456)) 3), 4, "", #[], (some (27, false))⟩,
  ⟨(some 31), (.pick (.tmp 27) (.const (.bool true)) (.tmp 30)), 4, "", #[], none⟩,
  ⟨(some 32), (.move (.tmp 31)), 4, "", #[], none⟩,
  ⟨(some 33), (.move (.tmp 1)), 24, "", #[], (some (32, false))⟩,
  ⟨(some 34), (.call ⟨(.value (.func 20)), #[(.tmp 33)], #[24]⟩), 3, "", #[⟨0, .chain⟩], (some (32, false))⟩,
  ⟨(some 35), (.binOp .gtr 3 (.tmp 34) (.const (.int .i64 268435456)) 3), 4, "", #[], (some (32, false))⟩,
  ⟨(some 36), (.pick (.tmp 32) (.const (.bool true)) (.tmp 35)), 4, "", #[], none⟩]
def F8.r3 : List Oper := [
  ⟨(some 37), (.move (.tmp 7)), 4, "", #[], none⟩,
  ⟨(some 6), (.assign (.tmp 37)), 4, "", #[], none⟩]
def F8.r4 : List Oper := [
  ⟨(some 39), (.move (.tmp 0)), 9, "", #[], none⟩,
  ⟨(some 40), (.call ⟨(.value (.func 12)), #[(.tmp 39)], #[9]⟩), 30, "", #[⟨0, .chain⟩], none⟩,
  ⟨(some 38), (.move (.tmp 40)), 30, "", #[], none⟩,
  ⟨(some 41), (.extract (.tmp 38) 0), 9, "", #[], none⟩,
  ⟨(some 42), (.extract (.tmp 38) 1), 27, "", #[], none⟩,
  ⟨(some 8), (.assign (.tmp 41)), 9, "", #[], none⟩,
  ⟨(some 9), (.assign (.tmp 42)), 27, "", #[], none⟩]
def F8.r5 : List Oper := [
  ⟨(some 43), (.move (.tmp 7)), 4, "", #[], none⟩,
  ⟨(some 44), (.unOp .not 4 (.tmp 43)), 4, "", #[], none⟩,
  ⟨(some 45), (.move (.tmp 44)), 4, "", #[], none⟩,
  ⟨(some 46), (.move (.tmp 9)), 27, "", #[], (some (45, false))⟩,
  ⟨(some 47), (.binOp .neq 27 (.tmp 46) (.const (.int .i64 0)) 27), 4, "", #[], (some (45, false))⟩,
  ⟨(some 48), (.pick (.tmp 45) (.const (.bool true)) (.tmp 47)), 4, "", #[], none⟩]
def F8.r6 : List Oper := [
  ⟨(some 49), (.move (.tmp 7)), 4, "", #[], none⟩,
  ⟨(some 6), (.assign (.tmp 49)), 4, "", #[], none⟩]
def F8.r7 : List Oper := [
  ⟨(some 51), (.move (.tmp 8)), 9, "", #[], none⟩,
  ⟨(some 52), (.call ⟨(.value (.func 11)), #[(.tmp 51)], #[9]⟩), 28, "", #[⟨0, .chain⟩], none⟩,
  ⟨(some 50), (.move (.tmp 52)), 28, "", #[], none⟩,
  ⟨(some 53), (.extract (.tmp 50) 0), 26, "", #[], none⟩,
  ⟨(some 54), (.extract (.tmp 50) 1), 27, "", #[], none⟩,
  ⟨(some 10), (.alloc 26), 0, "", #[⟨0, .chain⟩], none⟩,
  ⟨none, (.store 26 (.tmp 10) (.tmp 53)), 0, "", #[⟨0, .chain⟩], none⟩,
  ⟨(some 11), (.assign (.tmp 54)), 27, "", #[], none⟩]
def F8.r8 : List Oper := [
  ⟨(some 12), (.assign (.const (.slice none 0 0))), 24, "", #[], none⟩]
def F8.r9 : List Oper := [
  ⟨(some 55), (.move (.tmp 12)), 24, "", #[], none⟩,
  ⟨(some 56), (.fieldAddr 26 (.tmp 10) 1), 0, "", #[], none⟩,
  ⟨(some 57), (.load 24 (.tmp 56)), 24, "", #[⟨0, .data⟩], none⟩,
  ⟨(some 58), (.call ⟨(.builtin .append), #[(.tmp 55), (.tmp 57)], #[24, 24]⟩), 24, "", #[⟨0, .chain⟩], none⟩,
  ⟨(some 12), (.assign (.tmp 58)), 24, "", #[], none⟩]
def F8.r10 : List Oper := [
  ⟨(some 13), (.assign (.const (.slice none 0 0))), 24, "", #[], none⟩]
def F8.r11 : List Oper := [
  ⟨(some 14), (.assign (.const (.int .i64 0))), 3, "", #[], none⟩]
def F8.r12 : List Oper := [
  ⟨(some 59), (.move (.tmp 14)), 3, "", #[], none⟩,
  ⟨(some 60), (.move (.tmp 1)), 24, "", #[], none⟩,
  ⟨(some 61), (.call ⟨(.builtin .len), #[(.tmp 60)], #[24]⟩), 3, "", #[], none⟩,
  ⟨(some 62), (.binOp .lss 3 (.tmp 59) (.tmp 61) 3), 4, "", #[], none⟩]
def F8.r14 : List Oper := [
  ⟨(some 65), (.move (.tmp 1)), 24, "", #[], none⟩,
  ⟨(some 66), (.move (.tmp 14)), 3, "", #[], none⟩,
  ⟨(some 67), (.indexAddr 24 (.tmp 65) (.tmp 66)), 0, "", #[], none⟩,
  ⟨(some 68), (.load 9 (.tmp 67)), 9, "", #[⟨0, .data⟩], none⟩,
  ⟨(some 69), (.call ⟨(.value (.func 21)), #[(.tmp 68)], #[9]⟩), 27, "", #[⟨0, .chain⟩], none⟩,
  ⟨(some 15), (.assign (.tmp 69)), 27, "", #[], none⟩]
def F8.r15 : List Oper := [
  ⟨(some 70), (.move (.tmp 15)), 27, "", #[], none⟩,
  ⟨(some 71), (.binOp .eql 27 (.tmp 70) (.const (.int .i64 0)) 27), 4, "", #[], none⟩]
def F8.r16 : List Oper := [
  ⟨(some 72), (.move (.tmp 12)), 24, "", #[], none⟩,
  ⟨(some 73), (.move (.tmp 1)), 24, "", #[], none⟩,
  ⟨(some 74), (.move (.tmp 14)), 3, "", #[], none⟩,
  ⟨(some 75), (.indexAddr 24 (.tmp 73) (.tmp 74)), 0, "", #[], none⟩,
  ⟨(some 76), (.load 9 (.tmp 75)), 9, "", #[⟨0, .data⟩], none⟩,
  ⟨(some 77), (.buildSlice 24 1 #[(0, (.tmp 76))]), 24, "", #[⟨0, .chain⟩], none⟩,
  ⟨(some 78), (.call ⟨(.builtin .append), #[(.tmp 72), (.tmp 77)], #[24, 24]⟩), 24, "", #[⟨0, .chain⟩], none⟩,
  ⟨(some 12), (.assign (.tmp 78)), 24, "", #[], none⟩]
def F8.r17 : List Oper := [
  ⟨(some 79), (.move (.tmp 13)), 24, "", #[], none⟩,
  ⟨(some 80), (.move (.tmp 1)), 24, "", #[], none⟩,
  ⟨(some 81), (.move (.tmp 14)), 3, "", #[], none⟩,
  ⟨(some 82), (.indexAddr 24 (.tmp 80) (.tmp 81)), 0, "", #[], none⟩,
  ⟨(some 83), (.load 9 (.tmp 82)), 9, "", #[⟨0, .data⟩], none⟩,
  ⟨(some 84), (.buildSlice 24 1 #[(0, (.tmp 83))]), 24, "", #[⟨0, .chain⟩], none⟩,
  ⟨(some 85), (.call ⟨(.builtin .append), #[(.tmp 79), (.tmp 84)], #[24, 24]⟩), 24, "", #[⟨0, .chain⟩], none⟩,
  ⟨(some 13), (.assign (.tmp 85)), 24, "", #[], none⟩]
def F8.r13 : List Oper := [
  ⟨(some 63), (.move (.tmp 14)), 3, "", #[], none⟩,
  ⟨(some 64), (.binOp .add 3 (.tmp 63) (.const (.int .i64 1)) 3), 3, "", #[], none⟩,
  ⟨(some 14), (.assign (.tmp 64)), 3, "", #[], none⟩]
def F8.r18 : List Oper := [
  ⟨(some 86), (.fieldAddr 26 (.tmp 10) 0), 0, "", #[], none⟩,
  ⟨(some 87), (.load 4 (.tmp 86)), 4, "", #[⟨0, .data⟩], none⟩,
  ⟨(some 88), (.move (.tmp 12)), 24, "", #[], none⟩,
  ⟨(some 89), (.build 26 #[(0, (.tmp 87)), (1, (.tmp 88))]), 26, "", #[], none⟩,
  ⟨(some 90), (.call ⟨(.value (.func 18)), #[(.tmp 89)], #[26]⟩), 9, "", #[⟨0, .chain⟩], none⟩,
  ⟨(some 16), (.assign (.tmp 90)), 9, "", #[], none⟩]
def F8.r19 : List Oper := [
  ⟨(some 92), (.move (.tmp 8)), 9, "", #[], none⟩,
  ⟨(some 93), (.move (.tmp 16)), 9, "", #[], none⟩,
  ⟨(some 94), (.call ⟨(.value (.func 19)), #[(.tmp 92), (.tmp 93)], #[9, 9]⟩), 44, "", #[⟨0, .chain⟩], none⟩,
  ⟨(some 91), (.move (.tmp 94)), 44, "", #[], none⟩,
  ⟨(some 95), (.extract (.tmp 91) 0), 9, "", #[], none⟩,
  ⟨(some 96), (.extract (.tmp 91) 1), 4, "", #[], none⟩,
  ⟨(some 17), (.assign (.tmp 95)), 9, "", #[], none⟩,
  ⟨(some 18), (.assign (.tmp 96)), 4, "", #[], none⟩]
def F8.r20 : List Oper := [
  ⟨(some 97), (.move (.tmp 13)), 24, "", #[], none⟩,
  ⟨(some 98), (.build 26 #[(1, (.tmp 97))]), 26, "", #[], none⟩,
  ⟨(some 99), (.call ⟨(.value (.func 18)), #[(.tmp 98)], #[26]⟩), 9, "", #[⟨0, .chain⟩], none⟩,
  ⟨(some 19), (.assign (.tmp 99)), 9, "", #[], none⟩]
def F8.r21 : List Oper := [
  ⟨(some 100), (.move (.tmp 18)), 4, "", #[], none⟩,
  ⟨(some 101), (.unOp .not 4 (.tmp 100)), 4, "", #[], none⟩,
  ⟨(some 102), (.move (.tmp 101)), 4, "", #[], none⟩,
  ⟨(some 103), (.move (.tmp 17)), 9, "", #[], (some (102, false))⟩,
  ⟨(some 104), (.move (.tmp 19)), 9, "", #[], (some (102, false))⟩,
  ⟨(some 105), (.binOp .neq 9 (.tmp 103) (.tmp 104) 9), 4, "", #[], (some (102, false))⟩,
  ⟨(some 106), (.pick (.tmp 102) (.const (.bool true)) (.tmp 105)), 4, "", #[], none⟩]
def F8.r22 : List Oper := [
  ⟨(some 6), (.assign (.const (.bool false))), 4, "", #[], none⟩]
def F8.r23 : List Oper := [
  ⟨(some 108), (.move (.tmp 8)), 9, "", #[], none⟩,
  ⟨(some 109), (.move (.tmp 2)), 9, "", #[], none⟩,
  ⟨(some 110), (.call ⟨(.value (.func 19)), #[(.tmp 108), (.tmp 109)], #[9, 9]⟩), 44, "", #[⟨0, .chain⟩], none⟩,
  ⟨(some 107), (.move (.tmp 110)), 44, "", #[], none⟩,
  ⟨(some 111), (.extract (.tmp 107) 0), 9, "", #[], none⟩,
  ⟨(some 112), (.extract (.tmp 107) 1), 4, "", #[], none⟩,
  ⟨(some 20), (.assign (.tmp 111)), 9, "", #[], none⟩,
  ⟨(some 18), (.assign (.tmp 112)), 4, "", #[], none⟩]
def F8.r24 : List Oper := [
  ⟨(some 113), (.move (.tmp 18)), 4, "", #[], none⟩,
  ⟨(some 114), (.unOp .not 4 (.tmp 113)), 4, "", #[], none⟩]
def F8.r25 : List Oper := [
  ⟨(some 115), (.move (.tmp 20)), 9, "", #[], none⟩,
  ⟨(some 116), (.binOp .eql 9 (.tmp 115) (.const (.string { data := #[] })) 9), 4, "", #[], none⟩,
  ⟨(some 6), (.assign (.tmp 116)), 4, "", #[], none⟩]
def F8.r26 : List Oper := [
  ⟨(some 118), (.move (.tmp 8)), 9, "", #[], none⟩,
  ⟨(some 119), (.binOp .add 9 (.tmp 118) (.const (.string { data := #[47] })) 9), 9, "", #[], none⟩,
  ⟨(some 120), (.move (.tmp 20)), 9, "", #[], none⟩,
  ⟨(some 121), (.binOp .add 9 (.tmp 119) (.tmp 120) 9), 9, "", #[], none⟩,
  ⟨(some 122), (.call ⟨(.value (.func 12)), #[(.tmp 121)], #[9]⟩), 30, "", #[⟨0, .chain⟩], none⟩,
  ⟨(some 117), (.move (.tmp 122)), 30, "", #[], none⟩,
  ⟨(some 123), (.extract (.tmp 117) 0), 9, "", #[], none⟩,
  ⟨(some 124), (.extract (.tmp 117) 1), 27, "", #[], none⟩,
  ⟨(some 21), (.assign (.tmp 123)), 9, "", #[], none⟩,
  ⟨(some 22), (.assign (.tmp 124)), 27, "", #[], none⟩]
def F8.r27 : List Oper := [
  ⟨(some 125), (.move (.tmp 22)), 27, "", #[], none⟩,
  ⟨(some 126), (.binOp .eql 27 (.tmp 125) (.const (.int .i64 0)) 27), 4, "", #[], none⟩,
  ⟨(some 127), (.move (.tmp 126)), 4, "", #[], none⟩,
  ⟨(some 128), (.move (.tmp 21)), 9, "", #[], (some (127, true))⟩,
  ⟨(some 129), (.move (.tmp 2)), 9, "", #[], (some (127, true))⟩,
  ⟨(some 130), (.binOp .eql 9 (.tmp 128) (.tmp 129) 9), 4, "", #[], (some (127, true))⟩,
  ⟨(some 131), (.pick (.tmp 127) (.tmp 130) (.const (.bool false))), 4, "", #[], none⟩,
  ⟨(some 6), (.assign (.tmp 131)), 4, "", #[], none⟩]
def F8.t13 : Cd := (.region 13 F8.r13.toArray false)
theorem F8.t13_eq {P : Program} {Q : Post} {e : FA} {w : World} {θ : Tag (F8.t13, Q, e, w)} : cwE P F8.t13 Q e w θ = cwE P (.region 13 F8.r13.toArray false) Q e w := rfl
def F8.t14 : Cd := (.seq (.block 1 (.seq (.region 14 F8.r14.toArray false) (.seq (.region 15 F8.r15.toArray false) (.cond (.tmp 71) (.seq (.region 16 F8.r16.toArray false) (.region 17 F8.r17.toArray false)) .skip)))) F8.t13)
theorem F8.t14_eq {P : Program} {Q : Post} {e : FA} {w : World} {θ : Tag (F8.t14, Q, e, w)} : cwE P F8.t14 Q e w θ = cwE P (.seq (.block 1 (.seq (.region 14 F8.r14.toArray false) (.seq (.region 15 F8.r15.toArray false) (.cond (.tmp 71) (.seq (.region 16 F8.r16.toArray false) (.region 17 F8.r17.toArray false)) .skip)))) F8.t13) Q e w := rfl
def F8.t26 : Cd := (.seq (.region 26 F8.r26.toArray false) (.seq (.region 27 F8.r27.toArray false) .ret))
theorem F8.t26_eq {P : Program} {Q : Post} {e : FA} {w : World} {θ : Tag (F8.t26, Q, e, w)} : cwE P F8.t26 Q e w θ = cwE P (.seq (.region 26 F8.r26.toArray false) (.seq (.region 27 F8.r27.toArray false) .ret)) Q e w := rfl
def F8.t23 : Cd := (.seq (.region 23 F8.r23.toArray false) (.seq (.seq (.region 24 F8.r24.toArray false) (.cond (.tmp 114) (.seq (.region 25 F8.r25.toArray false) .ret) .skip)) F8.t26))
theorem F8.t23_eq {P : Program} {Q : Post} {e : FA} {w : World} {θ : Tag (F8.t23, Q, e, w)} : cwE P F8.t23 Q e w θ = cwE P (.seq (.region 23 F8.r23.toArray false) (.seq (.seq (.region 24 F8.r24.toArray false) (.cond (.tmp 114) (.seq (.region 25 F8.r25.toArray false) .ret) .skip)) F8.t26)) Q e w := rfl
def F8.t18 : Cd := (.seq (.region 18 F8.r18.toArray false) (.seq (.region 19 F8.r19.toArray false) (.seq (.region 20 F8.r20.toArray false) (.seq (.seq (.region 21 F8.r21.toArray false) (.cond (.tmp 106) (.seq (.region 22 F8.r22.toArray false) .ret) .skip)) F8.t23))))
theorem F8.t18_eq {P : Program} {Q : Post} {e : FA} {w : World} {θ : Tag (F8.t18, Q, e, w)} : cwE P F8.t18 Q e w θ = cwE P (.seq (.region 18 F8.r18.toArray false) (.seq (.region 19 F8.r19.toArray false) (.seq (.region 20 F8.r20.toArray false) (.seq (.seq (.region 21 F8.r21.toArray false) (.cond (.tmp 106) (.seq (.region 22 F8.r22.toArray false) .ret) .skip)) F8.t23)))) Q e w := rfl
def F8.t7 : Cd := (.seq (.region 7 F8.r7.toArray false) (.seq (.region 8 F8.r8.toArray false) (.seq (.region 9 F8.r9.toArray false) (.seq (.region 10 F8.r10.toArray false) (.seq (.seq (.region 11 F8.r11.toArray false) (.block 0 (.loop (.seq (.seq (.region 12 F8.r12.toArray false) (.cond (.tmp 62) .skip (.exit 0))) F8.t14)))) F8.t18)))))
theorem F8.t7_eq {P : Program} {Q : Post} {e : FA} {w : World} {θ : Tag (F8.t7, Q, e, w)} : cwE P F8.t7 Q e w θ = cwE P (.seq (.region 7 F8.r7.toArray false) (.seq (.region 8 F8.r8.toArray false) (.seq (.region 9 F8.r9.toArray false) (.seq (.region 10 F8.r10.toArray false) (.seq (.seq (.region 11 F8.r11.toArray false) (.block 0 (.loop (.seq (.seq (.region 12 F8.r12.toArray false) (.cond (.tmp 62) .skip (.exit 0))) F8.t14)))) F8.t18))))) Q e w := rfl
def F8.t4 : Cd := (.seq (.region 4 F8.r4.toArray false) (.seq (.seq (.region 5 F8.r5.toArray false) (.cond (.tmp 48) (.seq (.region 6 F8.r6.toArray false) .ret) .skip)) F8.t7))
theorem F8.t4_eq {P : Program} {Q : Post} {e : FA} {w : World} {θ : Tag (F8.t4, Q, e, w)} : cwE P F8.t4 Q e w θ = cwE P (.seq (.region 4 F8.r4.toArray false) (.seq (.seq (.region 5 F8.r5.toArray false) (.cond (.tmp 48) (.seq (.region 6 F8.r6.toArray false) .ret) .skip)) F8.t7)) Q e w := rfl
def F8.code : Cd := (.seq (.region 0 F8.r0.toArray false) (.seq (.region 1 F8.r1.toArray false) (.seq (.seq (.region 2 F8.r2.toArray false) (.cond (.tmp 36) (.seq (.region 3 F8.r3.toArray false) .ret) .skip)) F8.t4)))
theorem F8.calls {args : Array Value} {w : World} {R : Ending → World → Prop} (hn : args.size ≤ 132) (h : cwE Tryd.prog F8.code (fnP Tryd.prog #[(.tmp 6)] R) (entry args) w) : Calls Tryd.prog 8 args w R :=
  calls_of_cwE (types := Tryd.prog.types) follows Tryd.func8 F8.code rfl (by kernel_rfl) hn h

def F9.r0 : List Oper := [
  ⟨(some 4), (.assign (.const (.bool false))), 4, "", #[], none⟩]
def F9.r1 : List Oper := [
  ⟨(some 16), (.call ⟨(.value (.func 10)), #[], #[]⟩), 4, "", #[⟨0, .chain⟩], none⟩,
  ⟨(some 5), (.assign (.tmp 16)), 4, "", #[], none⟩]
def F9.r2 : List Oper := [
  ⟨(some 17), (.move (.tmp 5)), 4, "", #[], none⟩,
  ⟨(some 18), (.unOp .not 4 (.tmp 17)), 4, "", #[], none⟩]
def F9.r3 : List Oper := [
  ⟨(some 4), (.assign (.const (.bool false))), 4, "", #[], none⟩]
def F9.r4 : List Oper := [
  ⟨(some 19), (.move (.tmp 0)), 24, "", #[], none⟩,
  ⟨(some 20), (.call ⟨(.value (.func 20)), #[(.tmp 19)], #[24]⟩), 3, "", #[⟨0, .chain⟩], none⟩,
  ⟨(some 21), (.binOp .gtr 3 (.tmp 20) (.const (.int .i64 67108864)) 3), 4, "", #[], none⟩]
def F9.r5 : List Oper := [
  ⟨(some 4), (.assign (.const (.bool true))), 4, "", #[], none⟩]
def F9.r6 : List Oper := [
  ⟨(some 6), (.assign (.const (.string { data := #[] }))), 9, "", #[], none⟩]
def F9.r7 : List Oper := [
  ⟨(some 7), (.assign (.const (.int .i64 0))), 3, "", #[], none⟩]
def F9.r8 : List Oper := [
  ⟨(some 22), (.move (.tmp 7)), 3, "", #[], none⟩,
  ⟨(some 23), (.move (.tmp 0)), 24, "", #[], none⟩,
  ⟨(some 24), (.call ⟨(.builtin .len), #[(.tmp 23)], #[24]⟩), 3, "", #[], none⟩,
  ⟨(some 25), (.binOp .leq 3 (.tmp 22) (.tmp 24) 3), 4, "", #[], none⟩]
def F9.r10 : List Oper := [
  ⟨(some 8), (.assign (.const (.int .i64 0))), 3, "", #[], none⟩]
def F9.r11 : List Oper := [
  ⟨(some 28), (.move (.tmp 1)), 23, "", #[], none⟩,
  ⟨(some 29), (.call ⟨(.builtin .len), #[(.tmp 28)], #[23]⟩), 3, "", #[], none⟩,
  ⟨(some 30), (.binOp .gtr 3 (.tmp 29) (.const (.int .i64 0)) 3), 4, "", #[], none⟩]
def F9.r12 : List Oper := [
  ⟨(some 31), (.move (.tmp 1)), 23, "", #[], none⟩,
  ⟨(some 32), (.move (.tmp 7)), 3, "", #[], none⟩,
  ⟨(some 33), (.move (.tmp 1)), 23, "", #[], none⟩,
  ⟨(some 34), (.call ⟨(.builtin .len), #[(.tmp 33)], #[23]⟩), 3, "", #[], none⟩,
  ⟨(some 35), (.binOp .rem 3 (.tmp 32) (.tmp 34) 3), 3, "", #[], none⟩,
  ⟨(some 36), (.indexAddr 23 (.tmp 31) (.tmp 35)), 0, "", #[], none⟩,
  ⟨(some 37), (.load 3 (.tmp 36)), 3, "", #[⟨0, .data⟩], none⟩,
  ⟨(some 8), (.assign (.tmp 37)), 3, "", #[], none⟩]
def F9.r13 : List Oper := [
  ⟨(some 38), (.move (.tmp 8)), 3, "", #[], none⟩,
  ⟨(some 39), (.binOp .lss 3 (.tmp 38) (.const (.int .i64 0)) 3), 4, "", #[], none⟩]
def F9.r14 : List Oper := [
  ⟨(some 40), (.move (.tmp 8)), 3, "", #[], none⟩,
  ⟨(some 41), (.binOp .add 3 (.tmp 40) (.const (.int .i64 1)) 3), 3, "", #[], none⟩,
  ⟨(some 42), (.unOp .neg 3 (.tmp 41)), 3, "", #[], none⟩,
  ⟨(some 8), (.assign (.tmp 42)), 3, "", #[], none⟩]
def F9.r15 : List Oper := [
  ⟨(some 43), (.buildSlice 24 4 #[(0, (.const (.string { data := #[32] }))), (1, (.const (.string { data := #[9] }))), (2, (.const (.string { data := #[32, 32] }))), (3, (.const (.string { data := #[32, 9, 32] })))]), 24, "", #[⟨0, .chain⟩], none⟩,
  ⟨(some 44), (.move (.tmp 8)), 3, "", #[], none⟩,
  ⟨(some 45), (.binOp .rem 3 (.tmp 44) (.const (.int .i64 4)) 3), 3, "", #[], none⟩,
  ⟨(some 46), (.indexAddr 24 (.tmp 43) (.tmp 45)), 0, "", #[], none⟩,
  ⟨(some 47), (.load 9 (.tmp 46)), 9, "", #[⟨0, .data⟩], none⟩,
  ⟨(some 9), (.assign (.tmp 47)), 9, "", #[], none⟩]
def F9.r16 : List Oper := [
  ⟨(some 48), (.move (.tmp 7)), 3, "", #[], none⟩,
  ⟨(some 49), (.binOp .eql 3 (.tmp 48) (.const (.int .i64 0)) 3), 4, "", #[], none⟩,
  ⟨(some 50), (.move (.tmp 49)), 4, "", #[], none⟩,
  ⟨(some 51), (.move (.tmp 7)), 3, "", #[], (some (50, false))⟩,
  ⟨(some 52), (.move (.tmp 0)), 24, "", #[], (some (50, false))⟩,
  ⟨(some 53), (.call ⟨(.builtin .len), #[(.tmp 52)], #[24]⟩), 3, "", #[], (some (50, false))⟩,
  ⟨(some 54), (.binOp .eql 3 (.tmp 51) (.tmp 53) 3), 4, "", #[], (some (50, false))⟩,
  ⟨(some 55), (.pick (.tmp 50) (.const (.bool true)) (.tmp 54)), 4, "", #[], none⟩,
  ⟨(some 56), (.move (.tmp 55)), 4, "", #[], none⟩,
  ⟨(some 57), (.move (.tmp 8)), 3, "", #[], (some (56, true))⟩,
  ⟨(some 58), (.binOp .rem 3 (.tmp 57) (.const (.int .i64 3)) 3), 3, "", #[], (some (56, true))⟩,
  ⟨(some 59), (.binOp .eql 3 (.tmp 58) (.const (.int .i64 0)) 3), 4, "", #[], (some (56, true))⟩,
  ⟨(some 60), (.pick (.tmp 56) (.tmp 59) (.const (.bool false))), 4, "", #[], none⟩]
def F9.r17 : List Oper := [
  ⟨(some 9), (.assign (.const (.string { data := #[] }))), 9, "", #[], none⟩]
def F9.r18 : List Oper := [
  ⟨(some 61), (.move (.tmp 6)), 9, "", #[], none⟩,
  ⟨(some 62), (.move (.tmp 9)), 9, "", #[], none⟩,
  ⟨(some 63), (.binOp .add 9 (.tmp 61) (.tmp 62) 9), 9, "", #[], none⟩,
  ⟨(some 6), (.assign (.tmp 63)), 9, "", #[], none⟩]
def F9.r19 : List Oper := [
  ⟨(some 64), (.move (.tmp 7)), 3, "", #[], none⟩,
  ⟨(some 65), (.move (.tmp 0)), 24, "", #[], none⟩,
  ⟨(some 66), (.call ⟨(.builtin .len), #[(.tmp 65)], #[24]⟩), 3, "", #[], none⟩,
  ⟨(some 67), (.binOp .eql 3 (.tmp 64) (.tmp 66) 3), 4, "", #[], none⟩]
def F9.r20 : List Oper := [
  ⟨(some 68), (.move (.tmp 0)), 24, "", #[], none⟩,
  ⟨(some 69), (.move (.tmp 7)), 3, "", #[], none⟩,
  ⟨(some 70), (.indexAddr 24 (.tmp 68) (.tmp 69)), 0, "", #[], none⟩,
  ⟨(some 71), (.load 9 (.tmp 70)), 9, "", #[⟨0, .data⟩], none⟩,
  ⟨(some 72), (.call ⟨(.value (.func 22)), #[(.tmp 71)], #[9]⟩), 9, "", #[⟨0, .chain⟩], none⟩,
  ⟨(some 10), (.assign (.tmp 72)), 9, "", #[], none⟩]
def F9.r21 : List Oper := [
  ⟨(some 11), (.assign (.const (.int .i64 0))), 3, "", #[], none⟩]
def F9.r22 : List Oper := [
  ⟨(some 73), (.move (.tmp 11)), 3, "", #[], none⟩,
  ⟨(some 74), (.move (.tmp 10)), 9, "", #[], none⟩,
  ⟨(some 75), (.call ⟨(.builtin .len), #[(.tmp 74)], #[9]⟩), 3, "", #[], none⟩,
  ⟨(some 76), (.binOp .lss 3 (.tmp 73) (.tmp 75) 3), 4, "", #[], none⟩]
def F9.r24 : List Oper := [
  ⟨(some 79), (.move (.tmp 10)), 9, "", #[], none⟩,
  ⟨(some 80), (.move (.tmp 11)), 3, "", #[], none⟩,
  ⟨(some 81), (.index 9 (.tmp 79) (.tmp 80)), 5, "", #[], none⟩,
  ⟨(some 82), (.binOp .lss 5 (.tmp 81) (.const (.int .u8 32)) 5), 4, "", #[], none⟩,
  ⟨(some 83), (.move (.tmp 82)), 4, "", #[], none⟩,
  ⟨(some 84), (.move (.tmp 10)), 9, "", #[], (some (83, false))⟩,
  ⟨(some 85), (.move (.tmp 11)), 3, "", #[], (some (83, false))⟩,
  ⟨(some 86), (.index 9 (.tmp 84) (.tmp 85)), 5, "", #[], (some (83, false))⟩,
  ⟨(some 87), (.binOp .gtr 5 (.tmp 86) (.const (.int .u8 126)) 5), 4, "", #[], (some (83, false))⟩,
  ⟨(some 88), (.pick (.tmp 83) (.const (.bool true)) (.tmp 87)), 4, "", #[], none⟩]
def F9.r25 : List Oper := [
  ⟨(some 4), (.assign (.const (.bool false))), 4, "", #[], none⟩]
def F9.r23 : List Oper := [
  ⟨(some 77), (.move (.tmp 11)), 3, "", #[], none⟩,
  ⟨(some 78), (.binOp .add 3 (.tmp 77) (.const (.int .i64 1)) 3), 3, "", #[], none⟩,
  ⟨(some 11), (.assign (.tmp 78)), 3, "", #[], none⟩]
def F9.r26 : List Oper := [
  ⟨(some 89), (.move (.tmp 7)), 3, "", #[], none⟩,
  ⟨(some 90), (.binOp .gtr 3 (.tmp 89) (.const (.int .i64 0)) 3), 4, "", #[], none⟩]
def F9.r27 : List Oper := [
  ⟨(some 91), (.move (.tmp 0)), 24, "", #[], none⟩,
  ⟨(some 92), (.move (.tmp 7)), 3, "", #[], none⟩,
  ⟨(some 93), (.binOp .sub 3 (.tmp 92) (.const (.int .i64 1)) 3), 3, "", #[], none⟩,
  ⟨(some 94), (.indexAddr 24 (.tmp 91) (.tmp 93)), 0, "", #[], none⟩,
  ⟨(some 95), (.load 9 (.tmp 94)), 9, "", #[⟨0, .data⟩], none⟩,
  ⟨(some 96), (.call ⟨(.value (.func 22)), #[(.tmp 95)], #[9]⟩), 9, "", #[⟨0, .chain⟩], none⟩,
  ⟨(some 12), (.assign (.tmp 96)), 9, "", #[], none⟩]
def F9.r28 : List Oper := [
  ⟨(some 97), (.move (.tmp 12)), 9, "", #[], none⟩,
  ⟨(some 98), (.move (.tmp 10)), 9, "", #[], none⟩,
  ⟨(some 99), (.binOp .eql 9 (.tmp 97) (.tmp 98) 9), 4, "", #[], none⟩,
  ⟨(some 100), (.move (.tmp 0)), 24, "", #[], none⟩,
  ⟨(some 101), (.move (.tmp 7)), 3, "", #[], none⟩,
  ⟨(some 102), (.binOp .sub 3 (.tmp 101) (.const (.int .i64 1)) 3), 3, "", #[], none⟩,
  ⟨(some 103), (.indexAddr 24 (.tmp 100) (.tmp 102)), 0, "", #[], none⟩,
  ⟨(some 105), (.move (.tmp 0)), 24, "", #[], none⟩,
  ⟨(some 106), (.move (.tmp 7)), 3, "", #[], none⟩,
  ⟨(some 107), (.indexAddr 24 (.tmp 105) (.tmp 106)), 0, "", #[], none⟩,
  ⟨(some 104), (.load 9 (.tmp 103)), 9, "", #[⟨0, .data⟩], none⟩,
  ⟨(some 108), (.load 9 (.tmp 107)), 9, "", #[⟨0, .data⟩], none⟩,
  ⟨(some 109), (.binOp .eql 9 (.tmp 104) (.tmp 108) 9), 4, "", #[], none⟩,
  ⟨(some 110), (.binOp .neq 4 (.tmp 99) (.tmp 109) 4), 4, "", #[], none⟩]
def F9.r29 : List Oper := [
  ⟨(some 4), (.assign (.const (.bool false))), 4, "", #[], none⟩]
def F9.r30 : List Oper := [
  ⟨(some 111), (.move (.tmp 6)), 9, "", #[], none⟩,
  ⟨(some 112), (.move (.tmp 10)), 9, "", #[], none⟩,
  ⟨(some 113), (.binOp .add 9 (.tmp 111) (.tmp 112) 9), 9, "", #[], none⟩,
  ⟨(some 6), (.assign (.tmp 113)), 9, "", #[], none⟩]
def F9.r9 : List Oper := [
  ⟨(some 26), (.move (.tmp 7)), 3, "", #[], none⟩,
  ⟨(some 27), (.binOp .add 3 (.tmp 26) (.const (.int .i64 1)) 3), 3, "", #[], none⟩,
  ⟨(some 7), (.assign (.tmp 27)), 3, "", #[], none⟩]
def F9.r31 : List Oper := [
  ⟨(some 115), (.move (.tmp 6)), 9, "", #[], none⟩,
  ⟨(some 116), (.call ⟨(.value (.func 23)), #[(.tmp 115)], #[9]⟩), 50, "", #[⟨0, .chain⟩], none⟩,
  ⟨(some 114), (.move (.tmp 116)), 50, "", #[], none⟩,
  ⟨(some 117), (.extract (.tmp 114) 0), 24, "", #[], none⟩,
  ⟨(some 118), (.extract (.tmp 114) 1), 27, "", #[], none⟩,
  ⟨(some 13), (.assign (.tmp 117)), 24, "", #[], none⟩,
  ⟨(some 14), (.assign (.tmp 118)), 27, "", #[], none⟩]
def F9.r32 : List Oper := [
  ⟨(some 119), (.move (.tmp 13)), 24, "", #[], none⟩,
  ⟨(some 120), (.move (.tmp 0)), 24, "", #[], none⟩,
  ⟨(some 121), (.call ⟨(.value (.func 24)), #[(.tmp 119), (.tmp 120)], #[24, 24]⟩), 4, "", #[⟨0, .chain⟩], none⟩,
  ⟨(some 15), (.assign (.tmp 121)), 4, "", #[], none⟩]
def F9.r33 : List Oper := [
  ⟨(some 122), (.move (.tmp 14)), 27, "", #[], none⟩,
  ⟨(some 123), (.binOp .eql 27 (.tmp 122) (.const (.int .i64 0)) 27), 4, "", #[], none⟩,
  ⟨(some 124), (.move (.tmp 123)), 4, "", #[], none⟩,
  ⟨(some 125), (.move (.tmp 15)), 4, "", #[], (some (124, true))⟩,
  ⟨(some 126), (.pick (.tmp 124) (.tmp 125) (.const (.bool false))), 4, "", #[], none⟩,
  ⟨(some 4), (.assign (.tmp 126)), 4, "", #[], none⟩]
def F9.t23 : Cd := (.region 23 F9.r23.toArray false)
theorem F9.t23_eq {P : Program} {Q : Post} {e : FA} {w : World} {θ : Tag (F9.t23, Q, e, w)} : cwE P F9.t23 Q e w θ = cwE P (.region 23 F9.r23.toArray false) Q e w := rfl
def F9.t24 : Cd := (.seq (.block 3 (.seq (.region 24 F9.r24.toArray false) (.cond (.tmp 88) (.seq (.region 25 F9.r25.toArray false) .ret) .skip))) F9.t23)
theorem F9.t24_eq {P : Program} {Q : Post} {e : FA} {w : World} {θ : Tag (F9.t24, Q, e, w)} : cwE P F9.t24 Q e w θ = cwE P (.seq (.block 3 (.seq (.region 24 F9.r24.toArray false) (.cond (.tmp 88) (.seq (.region 25 F9.r25.toArray false) .ret) .skip))) F9.t23) Q e w := rfl
def F9.t30 : Cd := (.region 30 F9.r30.toArray false)
theorem F9.t30_eq {P : Program} {Q : Post} {e : FA} {w : World} {θ : Tag (F9.t30, Q, e, w)} : cwE P F9.t30 Q e w θ = cwE P (.region 30 F9.r30.toArray false) Q e w := rfl
def F9.t26 : Cd := (.seq (.seq (.region 26 F9.r26.toArray false) (.cond (.tmp 90) (.seq (.region 27 F9.r27.toArray false) (.seq (.region 28 F9.r28.toArray true) (.cond (.tmp 110) (.seq (.region 29 F9.r29.toArray false) .ret) .skip))) .skip)) F9.t30)
theorem F9.t26_eq {P : Program} {Q : Post} {e : FA} {w : World} {θ : Tag (F9.t26, Q, e, w)} : cwE P F9.t26 Q e w θ = cwE P (.seq (.seq (.region 26 F9.r26.toArray false) (.cond (.tmp 90) (.seq (.region 27 F9.r27.toArray false) (.seq (.region 28 F9.r28.toArray true) (.cond (.tmp 110) (.seq (.region 29 F9.r29.toArray false) .ret) .skip))) .skip)) F9.t30) Q e w := rfl
def F9.t20 : Cd := (.seq (.region 20 F9.r20.toArray false) (.seq (.seq (.region 21 F9.r21.toArray false) (.block 2 (.loop (.seq (.seq (.region 22 F9.r22.toArray false) (.cond (.tmp 76) .skip (.exit 2))) F9.t24)))) F9.t26))
theorem F9.t20_eq {P : Program} {Q : Post} {e : FA} {w : World} {θ : Tag (F9.t20, Q, e, w)} : cwE P F9.t20 Q e w θ = cwE P (.seq (.region 20 F9.r20.toArray false) (.seq (.seq (.region 21 F9.r21.toArray false) (.block 2 (.loop (.seq (.seq (.region 22 F9.r22.toArray false) (.cond (.tmp 76) .skip (.exit 2))) F9.t24)))) F9.t26)) Q e w := rfl
def F9.t18 : Cd := (.seq (.region 18 F9.r18.toArray false) (.seq (.seq (.region 19 F9.r19.toArray false) (.cond (.tmp 67) (.exit 0) .skip)) F9.t20))
theorem F9.t18_eq {P : Program} {Q : Post} {e : FA} {w : World} {θ : Tag (F9.t18, Q, e, w)} : cwE P F9.t18 Q e w θ = cwE P (.seq (.region 18 F9.r18.toArray false) (.seq (.seq (.region 19 F9.r19.toArray false) (.cond (.tmp 67) (.exit 0) .skip)) F9.t20)) Q e w := rfl
def F9.t15 : Cd := (.seq (.region 15 F9.r15.toArray false) (.seq (.seq (.region 16 F9.r16.toArray false) (.cond (.tmp 60) (.region 17 F9.r17.toArray false) .skip)) F9.t18))
theorem F9.t15_eq {P : Program} {Q : Post} {e : FA} {w : World} {θ : Tag (F9.t15, Q, e, w)} : cwE P F9.t15 Q e w θ = cwE P (.seq (.region 15 F9.r15.toArray false) (.seq (.seq (.region 16 F9.r16.toArray false) (.cond (.tmp 60) (.region 17 F9.r17.toArray false) .skip)) F9.t18)) Q e w := rfl
def F9.t13 : Cd := (.seq (.seq (.region 13 F9.r13.toArray false) (.cond (.tmp 39) (.region 14 F9.r14.toArray false) .skip)) F9.t15)
theorem F9.t13_eq {P : Program} {Q : Post} {e : FA} {w : World} {θ : Tag (F9.t13, Q, e, w)} : cwE P F9.t13 Q e w θ = cwE P (.seq (.seq (.region 13 F9.r13.toArray false) (.cond (.tmp 39) (.region 14 F9.r14.toArray false) .skip)) F9.t15) Q e w := rfl
def F9.t9 : Cd := (.region 9 F9.r9.toArray false)
theorem F9.t9_eq {P : Program} {Q : Post} {e : FA} {w : World} {θ : Tag (F9.t9, Q, e, w)} : cwE P F9.t9 Q e w θ = cwE P (.region 9 F9.r9.toArray false) Q e w := rfl
def F9.t10 : Cd := (.seq (.block 1 (.seq (.region 10 F9.r10.toArray false) (.seq (.seq (.region 11 F9.r11.toArray false) (.cond (.tmp 30) (.region 12 F9.r12.toArray false) .skip)) F9.t13))) F9.t9)
theorem F9.t10_eq {P : Program} {Q : Post} {e : FA} {w : World} {θ : Tag (F9.t10, Q, e, w)} : cwE P F9.t10 Q e w θ = cwE P (.seq (.block 1 (.seq (.region 10 F9.r10.toArray false) (.seq (.seq (.region 11 F9.r11.toArray false) (.cond (.tmp 30) (.region 12 F9.r12.toArray false) .skip)) F9.t13))) F9.t9) Q e w := rfl
def F9.t31 : Cd := (.seq (.region 31 F9.r31.toArray false) (.seq (.region 32 F9.r32.toArray false) (.seq (.region 33 F9.r33.toArray false) .ret)))
theorem F9.t31_eq {P : Program} {Q : Post} {e : FA} {w : World} {θ : Tag (F9.t31, Q, e, w)} : cwE P F9.t31 Q e w θ = cwE P (.seq (.region 31 F9.r31.toArray false) (.seq (.region 32 F9.r32.toArray false) (.seq (.region 33 F9.r33.toArray false) .ret))) Q e w := rfl
def F9.t6 : Cd := (.seq (.region 6 F9.r6.toArray false) (.seq (.seq (.region 7 F9.r7.toArray false) (.block 0 (.loop (.seq (.seq (.region 8 F9.r8.toArray false) (.cond (.tmp 25) .skip (.exit 0))) F9.t10)))) F9.t31))
theorem F9.t6_eq {P : Program} {Q : Post} {e : FA} {w : World} {θ : Tag (F9.t6, Q, e, w)} : cwE P F9.t6 Q e w θ = cwE P (.seq (.region 6 F9.r6.toArray false) (.seq (.seq (.region 7 F9.r7.toArray false) (.block 0 (.loop (.seq (.seq (.region 8 F9.r8.toArray false) (.cond (.tmp 25) .skip (.exit 0))) F9.t10)))) F9.t31)) Q e w := rfl
def F9.t4 : Cd := (.seq (.seq (.region 4 F9.r4.toArray false) (.cond (.tmp 21) (.seq (.region 5 F9.r5.toArray false) .ret) .skip)) F9.t6)
theorem F9.t4_eq {P : Program} {Q : Post} {e : FA} {w : World} {θ : Tag (F9.t4, Q, e, w)} : cwE P F9.t4 Q e w θ = cwE P (.seq (.seq (.region 4 F9.r4.toArray false) (.cond (.tmp 21) (.seq (.region 5 F9.r5.toArray false) .ret) .skip)) F9.t6) Q e w := rfl
def F9.code : Cd := (.seq (.region 0 F9.r0.toArray false) (.seq (.region 1 F9.r1.toArray false) (.seq (.seq (.region 2 F9.r2.toArray false) (.cond (.tmp 18) (.seq (.region 3 F9.r3.toArray false) .ret) .skip)) F9.t4)))
theorem F9.calls {args : Array Value} {w : World} {R : Ending → World → Prop} (hn : args.size ≤ 127) (h : cwE Tryd.prog F9.code (fnP Tryd.prog #[(.tmp 4)] R) (entry args) w) : Calls Tryd.prog 9 args w R :=
  calls_of_cwE (types := Tryd.prog.types) follows Tryd.func9 F9.code rfl (by kernel_rfl) hn h

def F10.r0 : List Oper := [
  ⟨(some 0), (.assign (.const (.bool false))), 4, "", #[], none⟩]
def F10.r1 : List Oper := [
  ⟨(some 8), (.call ⟨(.value (.func 12)), #[(.const (.string { data := #[47, 97, 47, 46, 47, 98, 47, 46, 46, 47, 99] }))], #[9]⟩), 30, "", #[⟨0, .chain⟩], none⟩,
  ⟨(some 7), (.move (.tmp 8)), 30, "", #[], none⟩,
  ⟨(some 9), (.extract (.tmp 7) 0), 9, "", #[], none⟩,
  ⟨(some 10), (.extract (.tmp 7) 1), 27, "", #[], none⟩,
  ⟨(some 1), (.assign (.tmp 9)), 9, "", #[], none⟩,
  ⟨(some 2), (.assign (.tmp 10)), 27, "", #[], none⟩]
def F10.r2 : List Oper := [
  ⟨(some 12), (.call ⟨(.value (.func 15)), #[(.const (.string { data := #[42, 46, 91, 99, 104, 93] })), (.const (.string { data := #[109, 97, 105, 110, 46, 99] }))], #[9, 9]⟩), 37, "", #[⟨0, .chain⟩], none⟩,
  ⟨(some 11), (.move (.tmp 12)), 37, "", #[], none⟩,
  ⟨(some 13), (.extract (.tmp 11) 0), 4, "", #[], none⟩,
  ⟨(some 14), (.extract (.tmp 11) 1), 27, "", #[], none⟩,
  ⟨(some 3), (.assign (.tmp 13)), 4, "", #[], none⟩,
  ⟨(some 4), (.assign (.tmp 14)), 27, "", #[], none⟩]
def F10.r3 : List Oper := [
  ⟨(some 16), (.call ⟨(.value (.func 23)), #[(.const (.string { data := #[97, 32, 39, 98, 32, 99, 39] }))], #[9]⟩), 50, "", #[⟨0, .chain⟩], none⟩,
  ⟨(some 15), (.move (.tmp 16)), 50, "", #[], none⟩,
  ⟨(some 17), (.extract (.tmp 15) 0), 24, "", #[], none⟩,
  ⟨(some 18), (.extract (.tmp 15) 1), 27, "", #[], none⟩,
  ⟨(some 5), (.assign (.tmp 17)), 24, "", #[], none⟩,
  ⟨(some 6), (.assign (.tmp 18)), 27, "", #[], none⟩]
def F10.r4 : List Oper := [
  ⟨(some 19), (.move (.tmp 1)), 9, "", #[], none⟩,
  ⟨(some 20), (.binOp .eql 9 (.tmp 19) (.const (.string { data := #[47, 97, 47, 99] })) 9), 4, "", #[], none⟩,
  ⟨(some 21), (.move (.tmp 20)), 4, "", #[], none⟩,
  ⟨(some 22), (.move (.tmp 3)), 4, "", #[], (some (21, true))⟩,
  ⟨(some 23), (.pick (.tmp 21) (.tmp 22) (.const (.bool false))), 4, "", #[], none⟩,
  ⟨(some 24), (.move (.tmp 23)), 4, "", #[], none⟩,
  ⟨(some 25), (.move (.tmp 5)), 24, "", #[], (some (24, true))⟩,
  ⟨(some 26), (.call ⟨(.builtin .len), #[(.tmp 25)], #[24]⟩), 3, "", #[], (some (24, true))⟩,
  ⟨(some 27), (.binOp .eql 3 (.tmp 26) (.const (.int .i64 2)) 3), 4, "", #[], (some (24, true))⟩,
  ⟨(some 28), (.pick (.tmp 24) (.tmp 27) (.const (.bool false))), 4, "", #[], none⟩,
  ⟨(some 29), (.move (.tmp 28)), 4, "", #[], none⟩,
  ⟨(some 30), (.move (.tmp 5)), 24, "", #[], (some (29, true))⟩,
  ⟨(some 31), (.indexAddr 24 (.tmp 30) (.const (.int .i64 1))), 0, "", #[], (some (29, true))⟩,
  ⟨(some 32), (.load 9 (.tmp 31)), 9, "", #[⟨0, .data⟩], (some (29, true))⟩,
  ⟨(some 33), (.binOp .eql 9 (.tmp 32) (.const (.string { data := #[98, 32, 99] })) 9), 4, "", #[], (some (29, true))⟩,
  ⟨(some 34), (.pick (.tmp 29) (.tmp 33) (.const (.bool false))), 4, "", #[], none⟩,
  ⟨(some 35), (.move (.tmp 34)), 4, "", #[], none⟩,
  ⟨(some 36), (.move (.tmp 2)), 27, "", #[], (some (35, true))⟩,
  ⟨(some 37), (.binOp .eql 27 (.tmp 36) (.const (.int .i64 0)) 27), 4, "", #[], (some (35, true))⟩,
  ⟨(some 38), (.pick (.tmp 35) (.tmp 37) (.const (.bool false))), 4, "", #[], none⟩,
  ⟨(some 39), (.move (.tmp 38)), 4, "", #[], none⟩,
  ⟨(some 40), (.move (.tmp 4)), 27, "", #[], (some (39, true))⟩,
  ⟨(some 41), (.binOp .eql 27 (.tmp 40) (.const (.int .i64 0)) 27), 4, "", #[], (some (39, true))⟩,
  ⟨(some 42), (.pick (.tmp 39) (.tmp 41) (.const (.bool false))), 4, "", #[], none⟩,
  ⟨(some 43), (.move (.tmp 42)), 4, "", #[], none⟩,
  ⟨(some 44), (.move (.tmp 6)), 27, "", #[], (some (43, true))⟩,
  ⟨(some 45), (.binOp .eql 27 (.tmp 44) (.const (.int .i64 0)) 27), 4, "", #[], (some (43, true))⟩,
  ⟨(some 46), (.pick (.tmp 43) (.tmp 45) (.const (.bool false))), 4, "", #[], none⟩,
  ⟨(some 0), (.assign (.tmp 46)), 4, "", #[], none⟩]
def F10.code : Cd := (.seq (.region 0 F10.r0.toArray false) (.seq (.region 1 F10.r1.toArray false) (.seq (.region 2 F10.r2.toArray false) (.seq (.region 3 F10.r3.toArray false) (.seq (.region 4 F10.r4.toArray false) .ret)))))
theorem F10.calls {args : Array Value} {w : World} {R : Ending → World → Prop} (hn : args.size ≤ 47) (h : cwE Tryd.prog F10.code (fnP Tryd.prog #[(.tmp 0)] R) (entry args) w) : Calls Tryd.prog 10 args w R :=
  calls_of_cwE (types := Tryd.prog.types) follows Tryd.func10 F10.code rfl (by kernel_rfl) hn h

def F11.r0 : List Oper := [
  ⟨(some 2), (.alloc 26), 0, "", #[⟨0, .chain⟩], none⟩,
  ⟨(some 3), (.assign (.const (.int .i64 0))), 27, "", #[], none⟩]
def F11.r1 : List Oper := [
  ⟨(some 7), (.move (.tmp 0)), 9, "", #[], none⟩,
  ⟨(some 8), (.call ⟨(.value (.func 25)), #[(.tmp 7), (.const (.string { data := #[47] }))], #[9, 9]⟩), 4, "", #[⟨0, .chain⟩], none⟩,
  ⟨(some 9), (.build 26 #[(0, (.tmp 8))]), 26, "", #[], none⟩,
  ⟨(some 4), (.alloc 26), 0, "", #[⟨0, .chain⟩], none⟩,
  ⟨none, (.store 26 (.tmp 4) (.tmp 9)), 0, "", #[⟨0, .chain⟩], none⟩]
def F11.r2 : List Oper := [
  ⟨(some 10), (.move (.tmp 0)), 9, "", #[], none⟩,
  ⟨(some 11), (.call ⟨(.value (.func 26)), #[(.tmp 10), (.const (.string { data := #[47] }))], #[9, 9]⟩), 24, "", #[⟨0, .chain⟩], none⟩,
  ⟨(some 12), (.call ⟨(.builtin .len), #[(.tmp 11)], #[24]⟩), 3, "", #[], none⟩,
  ⟨(some 13), (.move (.const (.int .i64 0))), 3, "", #[], none⟩]
def F11.r3 : List Oper := [
  ⟨(some 14), (.binOp .lss 3 (.tmp 13) (.tmp 12) 3), 0, "", #[], none⟩]
def F11.r4 : List Oper := [
  ⟨(some 15), (.indexAddr 24 (.tmp 11) (.tmp 13)), 0, "", #[], none⟩,
  ⟨(some 16), (.load 9 (.tmp 15)), 9, "", #[⟨0, .data⟩], none⟩,
  ⟨(some 6), (.assign (.tmp 16)), 9, "", #[], none⟩]
def F11.r6 : List Oper := [
  ⟨(some 19), (.move (.tmp 6)), 9, "", #[], none⟩,
  ⟨(some 20), (.binOp .eql 9 (.tmp 19) (.const (.string { data := #[] })) 9), 4, "", #[], none⟩,
  ⟨(some 18), (.assign (.tmp 20)), 4, "", #[], none⟩]
def F11.r7 : List Oper := [
  ⟨(some 21), (.move (.tmp 6)), 9, "", #[], none⟩,
  ⟨(some 22), (.binOp .eql 9 (.tmp 21) (.const (.string { data := #[46] })) 9), 4, "", #[], none⟩,
  ⟨(some 18), (.assign (.tmp 22)), 4, "", #[], none⟩]
def F11.r8 : List Oper := [
  ⟨(some 24), (.move (.tmp 6)), 9, "", #[], none⟩,
  ⟨(some 25), (.binOp .eql 9 (.tmp 24) (.const (.string { data := #[46, 46] })) 9), 4, "", #[], none⟩,
  ⟨(some 23), (.assign (.tmp 25)), 4, "", #[], none⟩]
def F11.r9 : List Oper := [
  ⟨(some 26), (.move (.tmp 6)), 9, "", #[], none⟩,
  ⟨(some 27), (.call ⟨(.value (.func 27)), #[(.tmp 26)], #[9]⟩), 27, "", #[⟨0, .chain⟩], none⟩,
  ⟨(some 28), (.binOp .eql 27 (.tmp 27) (.const (.int .i64 0)) 27), 4, "", #[], none⟩,
  ⟨(some 23), (.assign (.tmp 28)), 4, "", #[], none⟩]
def F11.r10 : List Oper := [
  ⟨(some 29), (.fieldAddr 26 (.tmp 4) 1), 0, "", #[], none⟩,
  ⟨(some 30), (.load 24 (.tmp 29)), 24, "", #[⟨0, .data⟩], none⟩,
  ⟨(some 31), (.move (.tmp 6)), 9, "", #[], none⟩,
  ⟨(some 32), (.buildSlice 24 1 #[(0, (.tmp 31))]), 24, "", #[⟨0, .chain⟩], none⟩,
  ⟨(some 33), (.call ⟨(.builtin .append), #[(.tmp 30), (.tmp 32)], #[24, 24]⟩), 24, "", #[⟨0, .chain⟩], none⟩,
  ⟨(some 34), (.fieldAddr 26 (.tmp 4) 1), 0, "", #[], none⟩,
  ⟨none, (.store 24 (.tmp 34) (.tmp 33)), 0, "", #[⟨0, .chain⟩], none⟩]
def F11.r5 : List Oper := [
  ⟨(some 17), (.build 26 #[]), 26, "", #[], none⟩,
  ⟨none, (.store 26 (.tmp 2) (.tmp 17)), 0, "", #[⟨0, .chain⟩], none⟩,
  ⟨(some 3), (.assign (.const (.int .i64 51))), 27, "", #[], none⟩]
def F11.r11 : List Oper := [
  ⟨(some 35), (.binOp .add 3 (.tmp 13) (.const (.int .i64 1)) 3), 3, "", #[], none⟩,
  ⟨(some 13), (.move (.tmp 35)), 3, "", #[], none⟩]
def F11.r12 : List Oper := [
  ⟨(some 36), (.load 26 (.tmp 4)), 26, "", #[⟨0, .data⟩], none⟩,
  ⟨none, (.store 26 (.tmp 2) (.tmp 36)), 0, "", #[⟨0, .chain⟩], none⟩,
  ⟨(some 3), (.assign (.const (.int .i64 0))), 27, "", #[], none⟩]
def F11.t10 : Cd := (.cond (.tmp 23) (.region 10 F11.r10.toArray false) (.seq (.region 5 F11.r5.toArray false) .ret))
theorem F11.t10_eq {P : Program} {Q : Post} {e : FA} {w : World} {θ : Tag (F11.t10, Q, e, w)} : cwE P F11.t10 Q e w θ = cwE P (.cond (.tmp 23) (.region 10 F11.r10.toArray false) (.seq (.region 5 F11.r5.toArray false) .ret)) Q e w := rfl
def F11.t8 : Cd := (.cond (.tmp 18) .skip (.seq (.seq (.region 8 F11.r8.toArray false) (.cond (.tmp 23) .skip (.region 9 F11.r9.toArray false))) F11.t10))
theorem F11.t8_eq {P : Program} {Q : Post} {e : FA} {w : World} {θ : Tag (F11.t8, Q, e, w)} : cwE P F11.t8 Q e w θ = cwE P (.cond (.tmp 18) .skip (.seq (.seq (.region 8 F11.r8.toArray false) (.cond (.tmp 23) .skip (.region 9 F11.r9.toArray false))) F11.t10)) Q e w := rfl
def F11.t11 : Cd := (.region 11 F11.r11.toArray false)
theorem F11.t11_eq {P : Program} {Q : Post} {e : FA} {w : World} {θ : Tag (F11.t11, Q, e, w)} : cwE P F11.t11 Q e w θ = cwE P (.region 11 F11.r11.toArray false) Q e w := rfl
def F11.t4 : Cd := (.seq (.block 1 (.seq (.region 4 F11.r4.toArray false) (.block 2 (.seq (.seq (.region 6 F11.r6.toArray false) (.cond (.tmp 18) .skip (.region 7 F11.r7.toArray false))) F11.t8)))) F11.t11)
theorem F11.t4_eq {P : Program} {Q : Post} {e : FA} {w : World} {θ : Tag (F11.t4, Q, e, w)} : cwE P F11.t4 Q e w θ = cwE P (.seq (.block 1 (.seq (.region 4 F11.r4.toArray false) (.block 2 (.seq (.seq (.region 6 F11.r6.toArray false) (.cond (.tmp 18) .skip (.region 7 F11.r7.toArray false))) F11.t8)))) F11.t11) Q e w := rfl
def F11.t12 : Cd := (.seq (.region 12 F11.r12.toArray false) .ret)
theorem F11.t12_eq {P : Program} {Q : Post} {e : FA} {w : World} {θ : Tag (F11.t12, Q, e, w)} : cwE P F11.t12 Q e w θ = cwE P (.seq (.region 12 F11.r12.toArray false) .ret) Q e w := rfl
def F11.code : Cd := (.seq (.region 0 F11.r0.toArray false) (.seq (.region 1 F11.r1.toArray false) (.seq (.seq (.region 2 F11.r2.toArray false) (.block 0 (.loop (.seq (.region 3 F11.r3.toArray false) (.seq (.cond (.tmp 14) .skip (.exit 0)) F11.t4))))) F11.t12)))
theorem F11.calls {args : Array Value} {w : World} {R : Ending → World → Prop} (hn : args.size ≤ 37) (h : cwE Tryd.prog F11.code (fnP Tryd.prog #[(.cell 2 26), (.tmp 3)] R) (entry args) w) : Calls Tryd.prog 11 args w R :=
  calls_of_cwE (types := Tryd.prog.types) follows Tryd.func11 F11.code rfl (by kernel_rfl) hn h

def F12.r0 : List Oper := [
  ⟨(some 2), (.assign (.const (.string { data := #[] }))), 9, "", #[], none⟩,
  ⟨(some 3), (.assign (.const (.int .i64 0))), 27, "", #[], none⟩]
def F12.r1 : List Oper := [
  ⟨(some 11), (.move (.tmp 0)), 9, "", #[], none⟩,
  ⟨(some 12), (.call ⟨(.value (.func 11)), #[(.tmp 11)], #[9]⟩), 28, "", #[⟨0, .chain⟩], none⟩,
  ⟨(some 10), (.move (.tmp 12)), 28, "", #[], none⟩,
  ⟨(some 13), (.extract (.tmp 10) 0), 26, "", #[], none⟩,
  ⟨(some 14), (.extract (.tmp 10) 1), 27, "", #[], none⟩,
  ⟨(some 4), (.alloc 26), 0, "", #[⟨0, .chain⟩], none⟩,
  ⟨none, (.store 26 (.tmp 4) (.tmp 13)), 0, "", #[⟨0, .chain⟩], none⟩,
  ⟨(some 5), (.assign (.tmp 14)), 27, "", #[], none⟩]
def F12.r2 : List Oper := [
  ⟨(some 15), (.move (.tmp 5)), 27, "", #[], none⟩,
  ⟨(some 16), (.binOp .neq 27 (.tmp 15) (.const (.int .i64 0)) 27), 4, "", #[], none⟩]
def F12.r3 : List Oper := [
  ⟨(some 17), (.move (.tmp 5)), 27, "", #[], none⟩,
  ⟨(some 2), (.assign (.const (.string { data := #[] }))), 9, "", #[], none⟩,
  ⟨(some 3), (.assign (.tmp 17)), 27, "", #[], none⟩]
def F12.r4 : List Oper := [
  ⟨(some 6), (.assign (.const (.slice none 0 0))), 24, "", #[], none⟩]
def F12.r5 : List Oper := [
  ⟨(some 18), (.fieldAddr 26 (.tmp 4) 1), 0, "", #[], none⟩,
  ⟨(some 19), (.load 24 (.tmp 18)), 24, "", #[⟨0, .data⟩], none⟩,
  ⟨(some 20), (.call ⟨(.builtin .len), #[(.tmp 19)], #[24]⟩), 3, "", #[], none⟩,
  ⟨(some 21), (.move (.const (.int .i64 0))), 3, "", #[], none⟩]
def F12.r6 : List Oper := [
  ⟨(some 22), (.binOp .lss 3 (.tmp 21) (.tmp 20) 3), 0, "", #[], none⟩]
def F12.r7 : List Oper := [
  ⟨(some 23), (.indexAddr 24 (.tmp 19) (.tmp 21)), 0, "", #[], none⟩,
  ⟨(some 24), (.load 9 (.tmp 23)), 9, "", #[⟨0, .data⟩], none⟩,
  ⟨(some 8), (.assign (.tmp 24)), 9, "", #[], none⟩]
def F12.r8 : List Oper := [
  ⟨(some 25), (.move (.tmp 6)), 24, "", #[], none⟩,
  ⟨(some 26), (.call ⟨(.builtin .len), #[(.tmp 25)], #[24]⟩), 3, "", #[], none⟩,
  ⟨(some 27), (.binOp .sub 3 (.tmp 26) (.const (.int .i64 1)) 3), 3, "", #[], none⟩,
  ⟨(some 9), (.assign (.tmp 27)), 3, "", #[], none⟩]
def F12.r9 : List Oper := [
  ⟨(some 29), (.move (.tmp 8)), 9, "", #[], none⟩,
  ⟨(some 30), (.binOp .neq 9 (.tmp 29) (.const (.string { data := #[46, 46] })) 9), 4, "", #[], none⟩,
  ⟨(some 28), (.assign (.tmp 30)), 4, "", #[], none⟩]
def F12.r10 : List Oper := [
  ⟨(some 31), (.move (.tmp 6)), 24, "", #[], none⟩,
  ⟨(some 32), (.move (.tmp 8)), 9, "", #[], none⟩,
  ⟨(some 33), (.buildSlice 24 1 #[(0, (.tmp 32))]), 24, "", #[⟨0, .chain⟩], none⟩,
  ⟨(some 34), (.call ⟨(.builtin .append), #[(.tmp 31), (.tmp 33)], #[24, 24]⟩), 24, "", #[⟨0, .chain⟩], none⟩,
  ⟨(some 6), (.assign (.tmp 34)), 24, "", #[], none⟩]
def F12.r11 : List Oper := [
  ⟨(some 36), (.move (.tmp 9)), 3, "", #[], none⟩,
  ⟨(some 37), (.binOp .geq 3 (.tmp 36) (.const (.int .i64 0)) 3), 4, "", #[], none⟩,
  ⟨(some 38), (.move (.tmp 37)), 4, "", #[], none⟩,
  ⟨(some 39), (.move (.tmp 6)), 24, "", #[], (some (38, true))⟩,
  ⟨(some 40), (.move (.tmp 9)), 3, "", #[], (some (38, true))⟩,
  ⟨(some 41), (.indexAddr 24 (.tmp 39) (.tmp 40)), 0, "", #[], (some (38, true))⟩,
  ⟨(some 42), (.load 9 (.tmp 41)), 9, "", #[⟨0, .data⟩], (some (38, true))⟩,
  ⟨(some 43), (.binOp .neq 9 (.tmp 42) (.const (.string { data := #[46, 46] })) 9), 4, "", #[], (some (38, true))⟩,
  ⟨(some 44), (.pick (.tmp 38) (.tmp 43) (.const (.bool false))), 4, "", #[], none⟩,
  ⟨(some 35), (.assign (.tmp 44)), 4, "", #[], none⟩]
def F12.r12 : List Oper := [
  ⟨(some 45), (.move (.tmp 6)), 24, "", #[], none⟩,
  ⟨(some 46), (.move (.tmp 9)), 3, "", #[], none⟩,
  ⟨(some 47), (.slice 24 (.tmp 45) none (some (.tmp 46)) none), 24, "", #[], none⟩,
  ⟨(some 6), (.assign (.tmp 47)), 24, "", #[], none⟩]
def F12.r13 : List Oper := [
  ⟨(some 49), (.fieldAddr 26 (.tmp 4) 0), 0, "", #[], none⟩,
  ⟨(some 50), (.load 4 (.tmp 49)), 4, "", #[⟨0, .data⟩], none⟩,
  ⟨(some 51), (.unOp .not 4 (.tmp 50)), 4, "", #[], none⟩,
  ⟨(some 48), (.assign (.tmp 51)), 4, "", #[], none⟩]
def F12.r14 : List Oper := [
  ⟨(some 52), (.move (.tmp 6)), 24, "", #[], none⟩,
  ⟨(some 53), (.move (.tmp 8)), 9, "", #[], none⟩,
  ⟨(some 54), (.buildSlice 24 1 #[(0, (.tmp 53))]), 24, "", #[⟨0, .chain⟩], none⟩,
  ⟨(some 55), (.call ⟨(.builtin .append), #[(.tmp 52), (.tmp 54)], #[24, 24]⟩), 24, "", #[⟨0, .chain⟩], none⟩,
  ⟨(some 6), (.assign (.tmp 55)), 24, "", #[], none⟩]
def F12.r15 : List Oper := [
  ⟨(some 56), (.binOp .add 3 (.tmp 21) (.const (.int .i64 1)) 3), 3, "", #[], none⟩,
  ⟨(some 21), (.move (.tmp 56)), 3, "", #[], none⟩]
def F12.r16 : List Oper := [
  ⟨(some 57), (.fieldAddr 26 (.tmp 4) 0), 0, "", #[], none⟩,
  ⟨(some 58), (.load 4 (.tmp 57)), 4, "", #[⟨0, .data⟩], none⟩,
  ⟨(some 59), (.move (.tmp 6)), 24, "", #[], none⟩,
  ⟨(some 60), (.build 26 #[(0, (.tmp 58)), (1, (.tmp 59))]), 26, "", #[], none⟩,
  ⟨(some 61), (.call ⟨(.value (.func 18)), #[(.tmp 60)], #[26]⟩), 9, "", #[⟨0, .chain⟩], none⟩,
  ⟨(some 2), (.assign (.tmp 61)), 9, "", #[], none⟩,
  ⟨(some 3), (.assign (.const (.int .i64 0))), 27, "", #[], none⟩]
def F12.t15 : Cd := (.region 15 F12.r15.toArray false)
theorem F12.t15_eq {P : Program} {Q : Post} {e : FA} {w : World} {θ : Tag (F12.t15, Q, e, w)} : cwE P F12.t15 Q e w θ = cwE P (.region 15 F12.r15.toArray false) Q e w := rfl
def F12.t7 : Cd := (.seq (.block 1 (.seq (.region 7 F12.r7.toArray false) (.seq (.region 8 F12.r8.toArray false) (.block 2 (.seq (.region 9 F12.r9.toArray false) (.cond (.tmp 28) (.region 10 F12.r10.toArray false) (.seq (.region 11 F12.r11.toArray false) (.cond (.tmp 35) (.region 12 F12.r12.toArray false) (.seq (.region 13 F12.r13.toArray false) (.cond (.tmp 48) (.region 14 F12.r14.toArray false) .skip)))))))))) F12.t15)
theorem F12.t7_eq {P : Program} {Q : Post} {e : FA} {w : World} {θ : Tag (F12.t7, Q, e, w)} : cwE P F12.t7 Q e w θ = cwE P (.seq (.block 1 (.seq (.region 7 F12.r7.toArray false) (.seq (.region 8 F12.r8.toArray false) (.block 2 (.seq (.region 9 F12.r9.toArray false) (.cond (.tmp 28) (.region 10 F12.r10.toArray false) (.seq (.region 11 F12.r11.toArray false) (.cond (.tmp 35) (.region 12 F12.r12.toArray false) (.seq (.region 13 F12.r13.toArray false) (.cond (.tmp 48) (.region 14 F12.r14.toArray false) .skip)))))))))) F12.t15) Q e w := rfl
def F12.t16 : Cd := (.seq (.region 16 F12.r16.toArray false) .ret)
theorem F12.t16_eq {P : Program} {Q : Post} {e : FA} {w : World} {θ : Tag (F12.t16, Q, e, w)} : cwE P F12.t16 Q e w θ = cwE P (.seq (.region 16 F12.r16.toArray false) .ret) Q e w := rfl
def F12.t4 : Cd := (.seq (.region 4 F12.r4.toArray false) (.seq (.seq (.region 5 F12.r5.toArray false) (.block 0 (.loop (.seq (.region 6 F12.r6.toArray false) (.seq (.cond (.tmp 22) .skip (.exit 0)) F12.t7))))) F12.t16))
theorem F12.t4_eq {P : Program} {Q : Post} {e : FA} {w : World} {θ : Tag (F12.t4, Q, e, w)} : cwE P F12.t4 Q e w θ = cwE P (.seq (.region 4 F12.r4.toArray false) (.seq (.seq (.region 5 F12.r5.toArray false) (.block 0 (.loop (.seq (.region 6 F12.r6.toArray false) (.seq (.cond (.tmp 22) .skip (.exit 0)) F12.t7))))) F12.t16)) Q e w := rfl
def F12.code : Cd := (.seq (.region 0 F12.r0.toArray false) (.seq (.region 1 F12.r1.toArray false) (.seq (.seq (.region 2 F12.r2.toArray false) (.cond (.tmp 16) (.seq (.region 3 F12.r3.toArray false) .ret) .skip)) F12.t4)))
theorem F12.calls {args : Array Value} {w : World} {R : Ending → World → Prop} (hn : args.size ≤ 62) (h : cwE Tryd.prog F12.code (fnP Tryd.prog #[(.tmp 2), (.tmp 3)] R) (entry args) w) : Calls Tryd.prog 12 args w R :=
  calls_of_cwE (types := Tryd.prog.types) follows Tryd.func12 F12.code rfl (by kernel_rfl) hn h

def F13.r0 : List Oper := [
  ⟨(some 2), (.assign (.const (.slice none 0 0))), 23, "", #[], none⟩,
  ⟨(some 3), (.assign (.const (.slice none 0 0))), 24, "", #[], none⟩]
def F13.r1 : List Oper := [
  ⟨(some 12), (.buildSlice 23 1 #[(0, (.const (.int .i64 0)))]), 23, "", #[⟨0, .chain⟩], none⟩,
  ⟨(some 4), (.assign (.tmp 12)), 23, "", #[], none⟩]
def F13.r2 : List Oper := [
  ⟨(some 13), (.buildSlice 24 1 #[(0, (.const (.string { data := #[] })))]), 24, "", #[⟨0, .chain⟩], none⟩,
  ⟨(some 5), (.assign (.tmp 13)), 24, "", #[], none⟩]
def F13.r3 : List Oper := [
  ⟨(some 6), (.assign (.const (.int .i64 0))), 3, "", #[], none⟩]
def F13.r4 : List Oper := [
  ⟨(some 14), (.move (.tmp 6)), 3, "", #[], none⟩,
  ⟨(some 15), (.move (.tmp 0)), 23, "", #[], none⟩,
  ⟨(some 16), (.call ⟨(.builtin .len), #[(.tmp 15)], #[23]⟩), 3, "", #[], none⟩,
  ⟨(some 17), (.binOp .lss 3 (.tmp 14) (.tmp 16) 3), 4, "", #[], none⟩,
  ⟨(some 18), (.move (.tmp 17)), 4, "", #[], none⟩,
  ⟨(some 19), (.move (.tmp 4)), 23, "", #[], (some (18, true))⟩,
  ⟨(some 20), (.call ⟨(.builtin .len), #[(.tmp 19)], #[23]⟩), 3, "", #[], (some (18, true))⟩,
  ⟨(some 21), (.binOp .lss 3 (.tmp 20) (.const (.int .i64 60)) 3), 4, "", #[], (some (18, true))⟩,
  ⟨(some 22), (.pick (.tmp 18) (.tmp 21) (.const (.bool false))), 4, "", #[], none⟩]
def F13.r6 : List Oper := [
  ⟨(some 25), (.move (.tmp 0)), 23, "", #[], none⟩,
  ⟨(some 26), (.move (.tmp 6)), 3, "", #[], none⟩,
  ⟨(some 27), (.indexAddr 23 (.tmp 25) (.tmp 26)), 0, "", #[], none⟩,
  ⟨(some 28), (.load 3 (.tmp 27)), 3, "", #[⟨0, .data⟩], none⟩,
  ⟨(some 7), (.assign (.tmp 28)), 3, "", #[], none⟩]
def F13.r7 : List Oper := [
  ⟨(some 29), (.move (.tmp 7)), 3, "", #[], none⟩,
  ⟨(some 30), (.binOp .lss 3 (.tmp 29) (.const (.int .i64 0)) 3), 4, "", #[], none⟩]
def F13.r8 : List Oper := [
  ⟨(some 31), (.move (.tmp 7)), 3, "", #[], none⟩,
  ⟨(some 32), (.binOp .add 3 (.tmp 31) (.const (.int .i64 1)) 3), 3, "", #[], none⟩,
  ⟨(some 33), (.unOp .neg 3 (.tmp 32)), 3, "", #[], none⟩,
  ⟨(some 7), (.assign (.tmp 33)), 3, "", #[], none⟩]
def F13.r9 : List Oper := [
  ⟨(some 34), (.move (.tmp 7)), 3, "", #[], none⟩,
  ⟨(some 35), (.move (.tmp 4)), 23, "", #[], none⟩,
  ⟨(some 36), (.call ⟨(.builtin .len), #[(.tmp 35)], #[23]⟩), 3, "", #[], none⟩,
  ⟨(some 37), (.binOp .rem 3 (.tmp 34) (.tmp 36) 3), 3, "", #[], none⟩,
  ⟨(some 8), (.assign (.tmp 37)), 3, "", #[], none⟩]
def F13.r10 : List Oper := [
  ⟨(some 38), (.buildSlice 24 5 #[(0, (.const (.string { data := #[97] }))), (1, (.const (.string { data := #[98] }))), (2, (.const (.string { data := #[99] }))), (3, (.const (.string { data := #[97, 98] }))), (4, (.const (.string { data := #[46, 46, 46] })))]), 24, "", #[⟨0, .chain⟩], none⟩,
  ⟨(some 39), (.move (.tmp 7)), 3, "", #[], none⟩,
  ⟨(some 40), (.move (.tmp 4)), 23, "", #[], none⟩,
  ⟨(some 41), (.call ⟨(.builtin .len), #[(.tmp 40)], #[23]⟩), 3, "", #[], none⟩,
  ⟨(some 42), (.binOp .quo 3 (.tmp 39) (.tmp 41) 3), 3, "", #[], none⟩,
  ⟨(some 43), (.binOp .rem 3 (.tmp 42) (.const (.int .i64 5)) 3), 3, "", #[], none⟩,
  ⟨(some 44), (.indexAddr 24 (.tmp 38) (.tmp 43)), 0, "", #[], none⟩,
  ⟨(some 45), (.load 9 (.tmp 44)), 9, "", #[⟨0, .data⟩], none⟩,
  ⟨(some 9), (.assign (.tmp 45)), 9, "", #[], none⟩]
def F13.r11 : List Oper := [
  ⟨(some 47), (.move (.tmp 4)), 23, "", #[], none⟩,
  ⟨(some 48), (.move (.tmp 5)), 24, "", #[], none⟩,
  ⟨(some 49), (.move (.tmp 8)), 3, "", #[], none⟩,
  ⟨(some 50), (.move (.tmp 9)), 9, "", #[], none⟩,
  ⟨(some 51), (.call ⟨(.value (.func 28)), #[(.tmp 47), (.tmp 48), (.tmp 49), (.tmp 50)], #[23, 24, 3, 9]⟩), 34, "", #[⟨0, .chain⟩], none⟩,
  ⟨(some 46), (.move (.tmp 51)), 34, "", #[], none⟩,
  ⟨(some 52), (.extract (.tmp 46) 0), 3, "", #[], none⟩,
  ⟨(some 53), (.extract (.tmp 46) 1), 4, "", #[], none⟩,
  ⟨(some 10), (.assign (.tmp 52)), 3, "", #[], none⟩,
  ⟨(some 11), (.assign (.tmp 53)), 4, "", #[], none⟩]
def F13.r12 : List Oper := [
  ⟨(some 54), (.move (.tmp 11)), 4, "", #[], none⟩,
  ⟨(some 55), (.unOp .not 4 (.tmp 54)), 4, "", #[], none⟩]
def F13.r13 : List Oper := [
  ⟨(some 56), (.move (.tmp 4)), 23, "", #[], none⟩,
  ⟨(some 57), (.move (.tmp 8)), 3, "", #[], none⟩,
  ⟨(some 58), (.buildSlice 23 1 #[(0, (.tmp 57))]), 23, "", #[⟨0, .chain⟩], none⟩,
  ⟨(some 59), (.call ⟨(.builtin .append), #[(.tmp 56), (.tmp 58)], #[23, 23]⟩), 23, "", #[⟨0, .chain⟩], none⟩,
  ⟨(some 4), (.assign (.tmp 59)), 23, "", #[], none⟩]
def F13.r14 : List Oper := [
  ⟨(some 60), (.move (.tmp 5)), 24, "", #[], none⟩,
  ⟨(some 61), (.move (.tmp 9)), 9, "", #[], none⟩,
  ⟨(some 62), (.buildSlice 24 1 #[(0, (.tmp 61))]), 24, "", #[⟨0, .chain⟩], none⟩,
  ⟨(some 63), (.call ⟨(.builtin .append), #[(.tmp 60), (.tmp 62)], #[24, 24]⟩), 24, "", #[⟨0, .chain⟩], none⟩,
  ⟨(some 5), (.assign (.tmp 63)), 24, "", #[], none⟩]
def F13.r5 : List Oper := [
  ⟨(some 23), (.move (.tmp 6)), 3, "", #[], none⟩,
  ⟨(some 24), (.binOp .add 3 (.tmp 23) (.const (.int .i64 1)) 3), 3, "", #[], none⟩,
  ⟨(some 6), (.assign (.tmp 24)), 3, "", #[], none⟩]
def F13.r15 : List Oper := [
  ⟨(some 64), (.move (.tmp 4)), 23, "", #[], none⟩,
  ⟨(some 65), (.move (.tmp 5)), 24, "", #[], none⟩,
  ⟨(some 2), (.assign (.tmp 64)), 23, "", #[], none⟩,
  ⟨(some 3), (.assign (.tmp 65)), 24, "", #[], none⟩]
def F13.t9 : Cd := (.seq (.region 9 F13.r9.toArray false) (.seq (.region 10 F13.r10.toArray false) (.seq (.region 11 F13.r11.toArray false) (.seq (.region 12 F13.r12.toArray false) (.cond (.tmp 55) (.seq (.region 13 F13.r13.toArray false) (.region 14 F13.r14.toArray false)) .skip)))))
theorem F13.t9_eq {P : Program} {Q : Post} {e : FA} {w : World} {θ : Tag (F13.t9, Q, e, w)} : cwE P F13.t9 Q e w θ = cwE P (.seq (.region 9 F13.r9.toArray false) (.seq (.region 10 F13.r10.toArray false) (.seq (.region 11 F13.r11.toArray false) (.seq (.region 12 F13.r12.toArray false) (.cond (.tmp 55) (.seq (.region 13 F13.r13.toArray false) (.region 14 F13.r14.toArray false)) .skip))))) Q e w := rfl
def F13.t5 : Cd := (.region 5 F13.r5.toArray false)
theorem F13.t5_eq {P : Program} {Q : Post} {e : FA} {w : World} {θ : Tag (F13.t5, Q, e, w)} : cwE P F13.t5 Q e w θ = cwE P (.region 5 F13.r5.toArray false) Q e w := rfl
def F13.t6 : Cd := (.seq (.block 1 (.seq (.region 6 F13.r6.toArray false) (.seq (.seq (.region 7 F13.r7.toArray false) (.cond (.tmp 30) (.region 8 F13.r8.toArray false) .skip)) F13.t9))) F13.t5)
theorem F13.t6_eq {P : Program} {Q : Post} {e : FA} {w : World} {θ : Tag (F13.t6, Q, e, w)} : cwE P F13.t6 Q e w θ = cwE P (.seq (.block 1 (.seq (.region 6 F13.r6.toArray false) (.seq (.seq (.region 7 F13.r7.toArray false) (.cond (.tmp 30) (.region 8 F13.r8.toArray false) .skip)) F13.t9))) F13.t5) Q e w := rfl
def F13.t15 : Cd := (.seq (.region 15 F13.r15.toArray false) .ret)
theorem F13.t15_eq {P : Program} {Q : Post} {e : FA} {w : World} {θ : Tag (F13.t15, Q, e, w)} : cwE P F13.t15 Q e w θ = cwE P (.seq (.region 15 F13.r15.toArray false) .ret) Q e w := rfl
def F13.code : Cd := (.seq (.region 0 F13.r0.toArray false) (.seq (.region 1 F13.r1.toArray false) (.seq (.region 2 F13.r2.toArray false) (.seq (.seq (.region 3 F13.r3.toArray false) (.block 0 (.loop (.seq (.seq (.region 4 F13.r4.toArray false) (.cond (.tmp 22) .skip (.exit 0))) F13.t6)))) F13.t15))))
theorem F13.calls {args : Array Value} {w : World} {R : Ending → World → Prop} (hn : args.size ≤ 66) (h : cwE Tryd.prog F13.code (fnP Tryd.prog #[(.tmp 2), (.tmp 3)] R) (entry args) w) : Calls Tryd.prog 13 args w R :=
  calls_of_cwE (types := Tryd.prog.types) follows Tryd.func13 F13.code rfl (by kernel_rfl) hn h

def F14.r0 : List Oper := [
  ⟨(some 8), (.assign (.const (.int .i64 0))), 3, "", #[], none⟩,
  ⟨(some 9), (.assign (.const (.bool false))), 4, "", #[], none⟩]
def F14.r1 : List Oper := [
  ⟨(some 14), (.move (.tmp 2)), 3, "", #[], none⟩,
  ⟨(some 10), (.assign (.tmp 14)), 3, "", #[], none⟩]
def F14.r2 : List Oper := [
  ⟨(some 11), (.assign (.const (.int .i64 0))), 3, "", #[], none⟩]
def F14.r3 : List Oper := [
  ⟨(some 15), (.move (.tmp 11)), 3, "", #[], none⟩,
  ⟨(some 16), (.move (.tmp 3)), 24, "", #[], none⟩,
  ⟨(some 17), (.call ⟨(.builtin .len), #[(.tmp 16)], #[24]⟩), 3, "", #[], none⟩,
  ⟨(some 18), (.binOp .lss 3 (.tmp 15) (.tmp 17) 3), 4, "", #[], none⟩]
def F14.r5 : List Oper := [
  ⟨(some 21), (.move (.tmp 3)), 24, "", #[], none⟩,
  ⟨(some 22), (.move (.tmp 11)), 3, "", #[], none⟩,
  ⟨(some 23), (.indexAddr 24 (.tmp 21) (.tmp 22)), 0, "", #[], none⟩,
  ⟨(some 24), (.load 9 (.tmp 23)), 9, "", #[⟨0, .data⟩], none⟩,
  ⟨(some 25), (.binOp .eql 9 (.tmp 24) (.const (.string { data := #[46, 46] })) 9), 4, "", #[], none⟩]
def F14.r6 : List Oper := [
  ⟨(some 26), (.move (.tmp 0)), 23, "", #[], none⟩,
  ⟨(some 27), (.move (.tmp 10)), 3, "", #[], none⟩,
  ⟨(some 28), (.indexAddr 23 (.tmp 26) (.tmp 27)), 0, "", #[], none⟩,
  ⟨(some 29), (.load 3 (.tmp 28)), 3, "", #[⟨0, .data⟩], none⟩,
  ⟨(some 10), (.assign (.tmp 29)), 3, "", #[], none⟩]
def F14.r7 : List Oper := [
  ⟨(some 31), (.move (.tmp 0)), 23, "", #[], none⟩,
  ⟨(some 32), (.move (.tmp 1)), 24, "", #[], none⟩,
  ⟨(some 33), (.move (.tmp 10)), 3, "", #[], none⟩,
  ⟨(some 34), (.move (.tmp 3)), 24, "", #[], none⟩,
  ⟨(some 35), (.move (.tmp 11)), 3, "", #[], none⟩,
  ⟨(some 36), (.indexAddr 24 (.tmp 34) (.tmp 35)), 0, "", #[], none⟩,
  ⟨(some 37), (.load 9 (.tmp 36)), 9, "", #[⟨0, .data⟩], none⟩,
  ⟨(some 38), (.call ⟨(.value (.func 28)), #[(.tmp 31), (.tmp 32), (.tmp 33), (.tmp 37)], #[23, 24, 3, 9]⟩), 34, "", #[⟨0, .chain⟩], none⟩,
  ⟨(some 30), (.move (.tmp 38)), 34, "", #[], none⟩,
  ⟨(some 39), (.extract (.tmp 30) 0), 3, "", #[], none⟩,
  ⟨(some 40), (.extract (.tmp 30) 1), 4, "", #[], none⟩,
  ⟨(some 12), (.assign (.tmp 39)), 3, "", #[], none⟩,
  ⟨(some 13), (.assign (.tmp 40)), 4, "", #[], none⟩]
def F14.r8 : List Oper := [
  ⟨(some 41), (.move (.tmp 13)), 4, "", #[], none⟩,
  ⟨(some 42), (.unOp .not 4 (.tmp 41)), 4, "", #[], none⟩]
def F14.r9 : List Oper := [
  ⟨(some 8), (.assign (.const (.int .i64 0))), 3, "", #[], none⟩,
  ⟨(some 9), (.assign (.const (.bool false))), 4, "", #[], none⟩]
def F14.r10 : List Oper := [
  ⟨(some 43), (.move (.tmp 12)), 3, "", #[], none⟩,
  ⟨(some 10), (.assign (.tmp 43)), 3, "", #[], none⟩]
def F14.r4 : List Oper := [
  ⟨(some 19), (.move (.tmp 11)), 3, "", #[], none⟩,
  ⟨(some 20), (.binOp .add 3 (.tmp 19) (.const (.int .i64 1)) 3), 3, "", #[], none⟩,
  ⟨(some 11), (.assign (.tmp 20)), 3, "", #[], none⟩]
def F14.r11 : List Oper := [
  ⟨(some 44), (.move (.tmp 10)), 3, "", #[], none⟩,
  ⟨(some 8), (.assign (.tmp 44)), 3, "", #[], none⟩,
  ⟨(some 9), (.assign (.const (.bool true))), 4, "", #[], none⟩]
def F14.t10 : Cd := (.region 10 F14.r10.toArray false)
theorem F14.t10_eq {P : Program} {Q : Post} {e : FA} {w : World} {θ : Tag (F14.t10, Q, e, w)} : cwE P F14.t10 Q e w θ = cwE P (.region 10 F14.r10.toArray false) Q e w := rfl
def F14.t7 : Cd := (.seq (.region 7 F14.r7.toArray false) (.seq (.seq (.region 8 F14.r8.toArray false) (.cond (.tmp 42) (.seq (.region 9 F14.r9.toArray false) .ret) .skip)) F14.t10))
theorem F14.t7_eq {P : Program} {Q : Post} {e : FA} {w : World} {θ : Tag (F14.t7, Q, e, w)} : cwE P F14.t7 Q e w θ = cwE P (.seq (.region 7 F14.r7.toArray false) (.seq (.seq (.region 8 F14.r8.toArray false) (.cond (.tmp 42) (.seq (.region 9 F14.r9.toArray false) .ret) .skip)) F14.t10)) Q e w := rfl
def F14.t4 : Cd := (.region 4 F14.r4.toArray false)
theorem F14.t4_eq {P : Program} {Q : Post} {e : FA} {w : World} {θ : Tag (F14.t4, Q, e, w)} : cwE P F14.t4 Q e w θ = cwE P (.region 4 F14.r4.toArray false) Q e w := rfl
def F14.t5 : Cd := (.seq (.block 1 (.seq (.seq (.region 5 F14.r5.toArray false) (.cond (.tmp 25) (.seq (.region 6 F14.r6.toArray false) (.exit 1)) .skip)) F14.t7)) F14.t4)
theorem F14.t5_eq {P : Program} {Q : Post} {e : FA} {w : World} {θ : Tag (F14.t5, Q, e, w)} : cwE P F14.t5 Q e w θ = cwE P (.seq (.block 1 (.seq (.seq (.region 5 F14.r5.toArray false) (.cond (.tmp 25) (.seq (.region 6 F14.r6.toArray false) (.exit 1)) .skip)) F14.t7)) F14.t4) Q e w := rfl
def F14.t11 : Cd := (.seq (.region 11 F14.r11.toArray false) .ret)
theorem F14.t11_eq {P : Program} {Q : Post} {e : FA} {w : World} {θ : Tag (F14.t11, Q, e, w)} : cwE P F14.t11 Q e w θ = cwE P (.seq (.region 11 F14.r11.toArray false) .ret) Q e w := rfl
def F14.code : Cd := (.seq (.region 0 F14.r0.toArray false) (.seq (.region 1 F14.r1.toArray false) (.seq (.seq (.region 2 F14.r2.toArray false) (.block 0 (.loop (.seq (.seq (.region 3 F14.r3.toArray false) (.cond (.tmp 18) .skip (.exit 0))) F14.t5)))) F14.t11)))
theorem F14.calls {args : Array Value} {w : World} {R : Ending → World → Prop} (hn : args.size ≤ 45) (h : cwE Tryd.prog F14.code (fnP Tryd.prog #[(.tmp 8), (.tmp 9)] R) (entry args) w) : Calls Tryd.prog 14 args w R :=
  calls_of_cwE (types := Tryd.prog.types) follows Tryd.func14 F14.code rfl (by kernel_rfl) hn h

def F15.r0 : List Oper := [
  ⟨(some 4), (.assign (.const (.bool false))), 4, "", #[], none⟩,
  ⟨(some 5), (.assign (.const (.int .i64 0))), 27, "", #[], none⟩]
def F15.r1 : List Oper := [
  ⟨(some 16), (.move (.tmp 0)), 9, "", #[], none⟩,
  ⟨(some 17), (.call ⟨(.value (.func 29)), #[(.tmp 16)], #[9]⟩), 57, "", #[⟨0, .chain⟩], none⟩,
  ⟨(some 15), (.move (.tmp 17)), 57, "", #[], none⟩,
  ⟨(some 18), (.extract (.tmp 15) 0), 56, "", #[], none⟩,
  ⟨(some 19), (.extract (.tmp 15) 1), 4, "", #[], none⟩,
  ⟨(some 6), (.alloc 56), 0, "", #[⟨0, .chain⟩], none⟩,
  ⟨none, (.store 56 (.tmp 6) (.tmp 18)), 0, "", #[⟨0, .chain⟩], none⟩,
  ⟨(some 7), (.assign (.tmp 19)), 4, "", #[], none⟩]
def F15.r2 : List Oper := [
  ⟨(some 20), (.move (.tmp 7)), 4, "", #[], none⟩,
  ⟨(some 21), (.unOp .not 4 (.tmp 20)), 4, "", #[], none⟩]
def F15.r3 : List Oper := [
  ⟨(some 4), (.assign (.const (.bool false))), 4, "", #[], none⟩,
  ⟨(some 5), (.assign (.const (.int .i64 52))), 27, "", #[], none⟩]
def F15.r4 : List Oper := [
  ⟨(some 22), (.move (.tmp 1)), 9, "", #[], none⟩,
  ⟨(some 23), (.call ⟨(.value (.func 30)), #[(.tmp 22)], #[9]⟩), 4, "", #[⟨0, .chain⟩], none⟩,
  ⟨(some 24), (.unOp .not 4 (.tmp 23)), 4, "", #[], none⟩]
def F15.r5 : List Oper := [
  ⟨(some 4), (.assign (.const (.bool false))), 4, "", #[], none⟩,
  ⟨(some 5), (.assign (.const (.int .i64 0))), 27, "", #[], none⟩]
def F15.r6 : List Oper := [
  ⟨(some 25), (.load 56 (.tmp 6)), 56, "", #[⟨0, .data⟩], none⟩,
  ⟨(some 26), (.call ⟨(.builtin .len), #[(.tmp 25)], #[56]⟩), 3, "", #[], none⟩,
  ⟨(some 27), (.binOp .add 3 (.tmp 26) (.const (.int .i64 1)) 3), 3, "", #[], none⟩,
  ⟨(some 28), (.makeSlice 59 (.tmp 27) (.tmp 27)), 59, "", #[⟨0, .chain⟩], none⟩,
  ⟨(some 8), (.alloc 59), 0, "", #[⟨0, .chain⟩], none⟩,
  ⟨none, (.store 59 (.tmp 8) (.tmp 28)), 0, "", #[⟨0, .chain⟩], none⟩]
def F15.r7 : List Oper := [
  ⟨(some 29), (.makeFunc (.func 31) #[] #[(.tmp 8), (.tmp 6)]), 63, "", #[], none⟩,
  ⟨(some 9), (.assign (.tmp 29)), 63, "", #[], none⟩]
def F15.r8 : List Oper := [
  ⟨(some 30), (.move (.tmp 9)), 63, "", #[], none⟩,
  ⟨(some 31), (.call ⟨(.value (.tmp 30)), #[(.const (.int .i64 0))], #[3]⟩), 0, "", #[⟨0, .phase⟩], none⟩]
def F15.r9 : List Oper := [
  ⟨(some 32), (.move (.tmp 1)), 9, "", #[], none⟩,
  ⟨(some 33), (.range 9 (.tmp 32)), 0, "", #[⟨0, .chain⟩], none⟩]
def F15.r10 : List Oper := [
  ⟨(some 34), (.next (.tmp 33) true), 0, "", #[⟨0, .chain⟩], none⟩,
  ⟨(some 35), (.extract (.tmp 34) 0), 4, "", #[], none⟩]
def F15.r11 : List Oper := [
  ⟨(some 36), (.extract (.tmp 34) 2), 21, "", #[], none⟩,
  ⟨(some 11), (.assign (.tmp 36)), 21, "", #[], none⟩]
def F15.r12 : List Oper := [
  ⟨(some 37), (.load 59 (.tmp 8)), 59, "", #[⟨0, .data⟩], none⟩,
  ⟨(some 12), (.assign (.tmp 37)), 59, "", #[], none⟩]
def F15.r13 : List Oper := [
  ⟨(some 38), (.load 56 (.tmp 6)), 56, "", #[⟨0, .data⟩], none⟩,
  ⟨(some 39), (.call ⟨(.builtin .len), #[(.tmp 38)], #[56]⟩), 3, "", #[], none⟩,
  ⟨(some 40), (.binOp .add 3 (.tmp 39) (.const (.int .i64 1)) 3), 3, "", #[], none⟩,
  ⟨(some 41), (.makeSlice 59 (.tmp 40) (.tmp 40)), 59, "", #[⟨0, .chain⟩], none⟩,
  ⟨none, (.store 59 (.tmp 8) (.tmp 41)), 0, "", #[⟨0, .chain⟩], none⟩]
def F15.r14 : List Oper := [
  ⟨(some 42), (.load 56 (.tmp 6)), 56, "", #[⟨0, .data⟩], none⟩,
  ⟨(some 43), (.call ⟨(.builtin .len), #[(.tmp 42)], #[56]⟩), 3, "", #[], none⟩,
  ⟨(some 44), (.move (.const (.int .i64 0))), 3, "", #[], none⟩]
def F15.r15 : List Oper := [
  ⟨(some 45), (.binOp .lss 3 (.tmp 44) (.tmp 43) 3), 0, "", #[], none⟩]
def F15.r16 : List Oper := [
  ⟨(some 46), (.move (.tmp 44)), 3, "", #[], none⟩,
  ⟨(some 47), (.indexAddr 56 (.tmp 42) (.tmp 44)), 0, "", #[], none⟩,
  ⟨(some 48), (.load 62 (.tmp 47)), 62, "", #[⟨0, .data⟩], none⟩,
  ⟨(some 14), (.alloc 62), 0, "", #[⟨0, .chain⟩], none⟩,
  ⟨(some 13), (.assign (.tmp 46)), 3, "", #[], none⟩,
  ⟨none, (.store 62 (.tmp 14) (.tmp 48)), 0, "", #[⟨0, .chain⟩], none⟩]
def F15.r17 : List Oper := [
  ⟨(some 50), (.move (.tmp 12)), 59, "", #[], none⟩,
  ⟨(some 51), (.move (.tmp 13)), 3, "", #[], none⟩,
  ⟨(some 52), (.indexAddr 59 (.tmp 50) (.tmp 51)), 0, "", #[], none⟩,
  ⟨(some 53), (.load 4 (.tmp 52)), 4, "", #[⟨0, .data⟩], none⟩,
  ⟨(some 54), (.move (.tmp 53)), 4, "", #[], none⟩,
  ⟨(some 55), (.fieldAddr 62 (.tmp 14) 0), 0, "", #[], (some (54, true))⟩,
  ⟨(some 56), (.load 4 (.tmp 55)), 4, "", #[⟨0, .data⟩], (some (54, true))⟩,
  ⟨(some 57), (.pick (.tmp 54) (.tmp 56) (.const (.bool false))), 4, "", #[], none⟩,
  ⟨(some 49), (.assign (.tmp 57)), 4, "", #[], none⟩]
def F15.r18 : List Oper := [
  ⟨(some 58), (.move (.tmp 9)), 63, "", #[], none⟩,
  ⟨(some 59), (.move (.tmp 13)), 3, "", #[], none⟩,
  ⟨(some 60), (.call ⟨(.value (.tmp 58)), #[(.tmp 59)], #[3]⟩), 0, "", #[⟨0, .phase⟩], none⟩]
def F15.r19 : List Oper := [
  ⟨(some 62), (.move (.tmp 12)), 59, "", #[], none⟩,
  ⟨(some 63), (.move (.tmp 13)), 3, "", #[], none⟩,
  ⟨(some 64), (.indexAddr 59 (.tmp 62) (.tmp 63)), 0, "", #[], none⟩,
  ⟨(some 65), (.load 4 (.tmp 64)), 4, "", #[⟨0, .data⟩], none⟩,
  ⟨(some 66), (.move (.tmp 65)), 4, "", #[], none⟩,
  ⟨(some 67), (.load 62 (.tmp 14)), 62, "", #[⟨0, .data⟩], (some (66, true))⟩,
  ⟨(some 68), (.move (.tmp 11)), 21, "", #[], (some (66, true))⟩,
  ⟨(some 69), (.call ⟨(.value (.func 32)), #[(.tmp 67), (.tmp 68)], #[62, 21]⟩), 4, "", #[⟨0, .chain⟩], (some (66, true))⟩,
  ⟨(some 70), (.pick (.tmp 66) (.tmp 69) (.const (.bool false))), 4, "", #[], none⟩,
  ⟨(some 61), (.assign (.tmp 70)), 4, "", #[], none⟩]
def F15.r20 : List Oper := [
  ⟨(some 71), (.move (.tmp 9)), 63, "", #[], none⟩,
  ⟨(some 72), (.move (.tmp 13)), 3, "", #[], none⟩,
  ⟨(some 73), (.binOp .add 3 (.tmp 72) (.const (.int .i64 1)) 3), 3, "", #[], none⟩,
  ⟨(some 74), (.call ⟨(.value (.tmp 71)), #[(.tmp 73)], #[3]⟩), 0, "", #[⟨0, .phase⟩], none⟩]
def F15.r21 : List Oper := [
  ⟨(some 75), (.binOp .add 3 (.tmp 44) (.const (.int .i64 1)) 3), 3, "", #[], none⟩,
  ⟨(some 44), (.move (.tmp 75)), 3, "", #[], none⟩]
def F15.r22 : List Oper := [
  ⟨(some 76), (.load 59 (.tmp 8)), 59, "", #[⟨0, .data⟩], none⟩,
  ⟨(some 77), (.load 56 (.tmp 6)), 56, "", #[⟨0, .data⟩], none⟩,
  ⟨(some 78), (.call ⟨(.builtin .len), #[(.tmp 77)], #[56]⟩), 3, "", #[], none⟩,
  ⟨(some 79), (.indexAddr 59 (.tmp 76) (.tmp 78)), 0, "", #[], none⟩,
  ⟨(some 80), (.load 4 (.tmp 79)), 4, "", #[⟨0, .data⟩], none⟩,
  ⟨(some 4), (.assign (.tmp 80)), 4, "", #[], none⟩,
  ⟨(some 5), (.assign (.const (.int .i64 0))), 27, "", #[], none⟩]
def F15.t21 : Cd := (.region 21 F15.r21.toArray false)
theorem F15.t21_eq {P : Program} {Q : Post} {e : FA} {w : World} {θ : Tag (F15.t21, Q, e, w)} : cwE P F15.t21 Q e w θ = cwE P (.region 21 F15.r21.toArray false) Q e w := rfl
def F15.t16 : Cd := (.seq (.block 3 (.seq (.region 16 F15.r16.toArray false) (.block 4 (.seq (.region 17 F15.r17.toArray false) (.cond (.tmp 49) (.region 18 F15.r18.toArray false) (.seq (.region 19 F15.r19.toArray false) (.cond (.tmp 61) (.region 20 F15.r20.toArray false) .skip))))))) F15.t21)
theorem F15.t16_eq {P : Program} {Q : Post} {e : FA} {w : World} {θ : Tag (F15.t16, Q, e, w)} : cwE P F15.t16 Q e w θ = cwE P (.seq (.block 3 (.seq (.region 16 F15.r16.toArray false) (.block 4 (.seq (.region 17 F15.r17.toArray false) (.cond (.tmp 49) (.region 18 F15.r18.toArray false) (.seq (.region 19 F15.r19.toArray false) (.cond (.tmp 61) (.region 20 F15.r20.toArray false) .skip))))))) F15.t21) Q e w := rfl
def F15.t11 : Cd := (.block 1 (.seq (.region 11 F15.r11.toArray false) (.seq (.region 12 F15.r12.toArray false) (.seq (.region 13 F15.r13.toArray false) (.seq (.region 14 F15.r14.toArray false) (.block 2 (.loop (.seq (.region 15 F15.r15.toArray false) (.seq (.cond (.tmp 45) .skip (.exit 2)) F15.t16)))))))))
theorem F15.t11_eq {P : Program} {Q : Post} {e : FA} {w : World} {θ : Tag (F15.t11, Q, e, w)} : cwE P F15.t11 Q e w θ = cwE P (.block 1 (.seq (.region 11 F15.r11.toArray false) (.seq (.region 12 F15.r12.toArray false) (.seq (.region 13 F15.r13.toArray false) (.seq (.region 14 F15.r14.toArray false) (.block 2 (.loop (.seq (.region 15 F15.r15.toArray false) (.seq (.cond (.tmp 45) .skip (.exit 2)) F15.t16))))))))) Q e w := rfl
def F15.t22 : Cd := (.seq (.region 22 F15.r22.toArray false) .ret)
theorem F15.t22_eq {P : Program} {Q : Post} {e : FA} {w : World} {θ : Tag (F15.t22, Q, e, w)} : cwE P F15.t22 Q e w θ = cwE P (.seq (.region 22 F15.r22.toArray false) .ret) Q e w := rfl
def F15.t6 : Cd := (.seq (.region 6 F15.r6.toArray false) (.seq (.region 7 F15.r7.toArray false) (.seq (.region 8 F15.r8.toArray false) (.seq (.seq (.region 9 F15.r9.toArray false) (.block 0 (.loop (.seq (.region 10 F15.r10.toArray false) (.seq (.cond (.tmp 35) .skip (.exit 0)) F15.t11))))) F15.t22))))
theorem F15.t6_eq {P : Program} {Q : Post} {e : FA} {w : World} {θ : Tag (F15.t6, Q, e, w)} : cwE P F15.t6 Q e w θ = cwE P (.seq (.region 6 F15.r6.toArray false) (.seq (.region 7 F15.r7.toArray false) (.seq (.region 8 F15.r8.toArray false) (.seq (.seq (.region 9 F15.r9.toArray false) (.block 0 (.loop (.seq (.region 10 F15.r10.toArray false) (.seq (.cond (.tmp 35) .skip (.exit 0)) F15.t11))))) F15.t22)))) Q e w := rfl
def F15.t4 : Cd := (.seq (.seq (.region 4 F15.r4.toArray false) (.cond (.tmp 24) (.seq (.region 5 F15.r5.toArray false) .ret) .skip)) F15.t6)
theorem F15.t4_eq {P : Program} {Q : Post} {e : FA} {w : World} {θ : Tag (F15.t4, Q, e, w)} : cwE P F15.t4 Q e w θ = cwE P (.seq (.seq (.region 4 F15.r4.toArray false) (.cond (.tmp 24) (.seq (.region 5 F15.r5.toArray false) .ret) .skip)) F15.t6) Q e w := rfl
def F15.code : Cd := (.seq (.region 0 F15.r0.toArray false) (.seq (.region 1 F15.r1.toArray false) (.seq (.seq (.region 2 F15.r2.toArray false) (.cond (.tmp 21) (.seq (.region 3 F15.r3.toArray false) .ret) .skip)) F15.t4)))
theorem F15.calls {args : Array Value} {w : World} {R : Ending → World → Prop} (hn : args.size ≤ 81) (h : cwE Tryd.prog F15.code (fnP Tryd.prog #[(.tmp 4), (.tmp 5)] R) (entry args) w) : Calls Tryd.prog 15 args w R :=
  calls_of_cwE (types := Tryd.prog.types) follows Tryd.func15 F15.code rfl (by kernel_rfl) hn h

def F16.r0 : List Oper := [
  ⟨(some 2), (.assign (.const (.bool false))), 4, "", #[], none⟩]
def F16.r1 : List Oper := [
  ⟨(some 3), (.move (.tmp 0)), 9, "", #[], none⟩,
  ⟨(some 4), (.call ⟨(.value (.func 33)), #[(.tmp 3)], #[9]⟩), 3, "", #[⟨0, .chain⟩], none⟩,
  ⟨(some 5), (.move (.tmp 0)), 9, "", #[], none⟩,
  ⟨(some 6), (.call ⟨(.builtin .len), #[(.tmp 5)], #[9]⟩), 3, "", #[], none⟩,
  ⟨(some 7), (.binOp .eql 3 (.tmp 4) (.tmp 6) 3), 4, "", #[], none⟩,
  ⟨(some 2), (.assign (.tmp 7)), 4, "", #[], none⟩]
def F16.code : Cd := (.seq (.region 0 F16.r0.toArray false) (.seq (.region 1 F16.r1.toArray false) .ret))
theorem F16.calls {args : Array Value} {w : World} {R : Ending → World → Prop} (hn : args.size ≤ 8) (h : cwE Tryd.prog F16.code (fnP Tryd.prog #[(.tmp 2)] R) (entry args) w) : Calls Tryd.prog 16 args w R :=
  calls_of_cwE (types := Tryd.prog.types) follows Tryd.func16 F16.code rfl (by kernel_rfl) hn h

def F17.r0 : List Oper := [
  ⟨(some 2), (.assign (.const (.slice none 0 0))), 24, "", #[], none⟩]
def F17.r1 : List Oper := [
  ⟨(some 3), (.assign (.const (.slice none 0 0))), 24, "", #[], none⟩]
def F17.r2 : List Oper := [
  ⟨(some 4), (.assign (.const (.int .i64 0))), 3, "", #[], none⟩]
def F17.r3 : List Oper := [
  ⟨(some 6), (.move (.tmp 4)), 3, "", #[], none⟩,
  ⟨(some 7), (.move (.tmp 0)), 9, "", #[], none⟩,
  ⟨(some 8), (.call ⟨(.builtin .len), #[(.tmp 7)], #[9]⟩), 3, "", #[], none⟩,
  ⟨(some 9), (.binOp .lss 3 (.tmp 6) (.tmp 8) 3), 4, "", #[], none⟩]
def F17.r4 : List Oper := [
  ⟨(some 5), (.assign (.const (.int .i64 1))), 3, "", #[], none⟩]
def F17.r5 : List Oper := [
  ⟨(some 10), (.move (.tmp 0)), 9, "", #[], none⟩,
  ⟨(some 11), (.move (.tmp 4)), 3, "", #[], none⟩,
  ⟨(some 12), (.index 9 (.tmp 10) (.tmp 11)), 5, "", #[], none⟩,
  ⟨(some 13), (.binOp .geq 5 (.tmp 12) (.const (.int .u8 192)) 5), 4, "", #[], none⟩]
def F17.r6 : List Oper := [
  ⟨(some 5), (.assign (.const (.int .i64 2))), 3, "", #[], none⟩]
def F17.r7 : List Oper := [
  ⟨(some 14), (.move (.tmp 0)), 9, "", #[], none⟩,
  ⟨(some 15), (.move (.tmp 4)), 3, "", #[], none⟩,
  ⟨(some 16), (.index 9 (.tmp 14) (.tmp 15)), 5, "", #[], none⟩,
  ⟨(some 17), (.binOp .geq 5 (.tmp 16) (.const (.int .u8 224)) 5), 4, "", #[], none⟩]
def F17.r8 : List Oper := [
  ⟨(some 5), (.assign (.const (.int .i64 3))), 3, "", #[], none⟩]
def F17.r9 : List Oper := [
  ⟨(some 18), (.move (.tmp 0)), 9, "", #[], none⟩,
  ⟨(some 19), (.move (.tmp 4)), 3, "", #[], none⟩,
  ⟨(some 20), (.index 9 (.tmp 18) (.tmp 19)), 5, "", #[], none⟩,
  ⟨(some 21), (.binOp .geq 5 (.tmp 20) (.const (.int .u8 240)) 5), 4, "", #[], none⟩]
def F17.r10 : List Oper := [
  ⟨(some 5), (.assign (.const (.int .i64 4))), 3, "", #[], none⟩]
def F17.r11 : List Oper := [
  ⟨(some 22), (.move (.tmp 4)), 3, "", #[], none⟩,
  ⟨(some 23), (.move (.tmp 5)), 3, "", #[], none⟩,
  ⟨(some 24), (.binOp .add 3 (.tmp 22) (.tmp 23) 3), 3, "", #[], none⟩,
  ⟨(some 25), (.move (.tmp 0)), 9, "", #[], none⟩,
  ⟨(some 26), (.call ⟨(.builtin .len), #[(.tmp 25)], #[9]⟩), 3, "", #[], none⟩,
  ⟨(some 27), (.binOp .gtr 3 (.tmp 24) (.tmp 26) 3), 4, "", #[], none⟩]
def F17.r12 : List Oper := [
  ⟨(some 28), (.move (.tmp 0)), 9, "", #[], none⟩,
  ⟨(some 29), (.call ⟨(.builtin .len), #[(.tmp 28)], #[9]⟩), 3, "", #[], none⟩,
  ⟨(some 30), (.move (.tmp 4)), 3, "", #[], none⟩,
  ⟨(some 31), (.binOp .sub 3 (.tmp 29) (.tmp 30) 3), 3, "", #[], none⟩,
  ⟨(some 5), (.assign (.tmp 31)), 3, "", #[], none⟩]
def F17.r13 : List Oper := [
  ⟨(some 32), (.move (.tmp 3)), 24, "", #[], none⟩,
  ⟨(some 33), (.move (.tmp 0)), 9, "", #[], none⟩,
  ⟨(some 34), (.move (.tmp 4)), 3, "", #[], none⟩,
  ⟨(some 35), (.move (.tmp 4)), 3, "", #[], none⟩,
  ⟨(some 36), (.move (.tmp 5)), 3, "", #[], none⟩,
  ⟨(some 37), (.binOp .add 3 (.tmp 35) (.tmp 36) 3), 3, "", #[], none⟩,
  ⟨(some 38), (.slice 9 (.tmp 33) (some (.tmp 34)) (some (.tmp 37)) none), 9, "", #[], none⟩,
  ⟨(some 39), (.buildSlice 24 1 #[(0, (.tmp 38))]), 24, "", #[⟨0, .chain⟩], none⟩,
  ⟨(some 40), (.call ⟨(.builtin .append), #[(.tmp 32), (.tmp 39)], #[24, 24]⟩), 24, "", #[⟨0, .chain⟩], none⟩,
  ⟨(some 3), (.assign (.tmp 40)), 24, "", #[], none⟩]
def F17.r14 : List Oper := [
  ⟨(some 41), (.move (.tmp 4)), 3, "", #[], none⟩,
  ⟨(some 42), (.move (.tmp 5)), 3, "", #[], none⟩,
  ⟨(some 43), (.binOp .add 3 (.tmp 41) (.tmp 42) 3), 3, "", #[], none⟩,
  ⟨(some 4), (.assign (.tmp 43)), 3, "", #[], none⟩]
def F17.r15 : List Oper := [
  ⟨(some 44), (.move (.tmp 3)), 24, "", #[], none⟩,
  ⟨(some 2), (.assign (.tmp 44)), 24, "", #[], none⟩]
def F17.t13 : Cd := (.seq (.region 13 F17.r13.toArray false) (.region 14 F17.r14.toArray false))
theorem F17.t13_eq {P : Program} {Q : Post} {e : FA} {w : World} {θ : Tag (F17.t13, Q, e, w)} : cwE P F17.t13 Q e w θ = cwE P (.seq (.region 13 F17.r13.toArray false) (.region 14 F17.r14.toArray false)) Q e w := rfl
def F17.t11 : Cd := (.seq (.seq (.region 11 F17.r11.toArray false) (.cond (.tmp 27) (.region 12 F17.r12.toArray false) .skip)) F17.t13)
theorem F17.t11_eq {P : Program} {Q : Post} {e : FA} {w : World} {θ : Tag (F17.t11, Q, e, w)} : cwE P F17.t11 Q e w θ = cwE P (.seq (.seq (.region 11 F17.r11.toArray false) (.cond (.tmp 27) (.region 12 F17.r12.toArray false) .skip)) F17.t13) Q e w := rfl
def F17.t9 : Cd := (.seq (.seq (.region 9 F17.r9.toArray false) (.cond (.tmp 21) (.region 10 F17.r10.toArray false) .skip)) F17.t11)
theorem F17.t9_eq {P : Program} {Q : Post} {e : FA} {w : World} {θ : Tag (F17.t9, Q, e, w)} : cwE P F17.t9 Q e w θ = cwE P (.seq (.seq (.region 9 F17.r9.toArray false) (.cond (.tmp 21) (.region 10 F17.r10.toArray false) .skip)) F17.t11) Q e w := rfl
def F17.t7 : Cd := (.seq (.seq (.region 7 F17.r7.toArray false) (.cond (.tmp 17) (.region 8 F17.r8.toArray false) .skip)) F17.t9)
theorem F17.t7_eq {P : Program} {Q : Post} {e : FA} {w : World} {θ : Tag (F17.t7, Q, e, w)} : cwE P F17.t7 Q e w θ = cwE P (.seq (.seq (.region 7 F17.r7.toArray false) (.cond (.tmp 17) (.region 8 F17.r8.toArray false) .skip)) F17.t9) Q e w := rfl
def F17.t4 : Cd := (.block 1 (.seq (.region 4 F17.r4.toArray false) (.seq (.seq (.region 5 F17.r5.toArray false) (.cond (.tmp 13) (.region 6 F17.r6.toArray false) .skip)) F17.t7)))
theorem F17.t4_eq {P : Program} {Q : Post} {e : FA} {w : World} {θ : Tag (F17.t4, Q, e, w)} : cwE P F17.t4 Q e w θ = cwE P (.block 1 (.seq (.region 4 F17.r4.toArray false) (.seq (.seq (.region 5 F17.r5.toArray false) (.cond (.tmp 13) (.region 6 F17.r6.toArray false) .skip)) F17.t7))) Q e w := rfl
def F17.t15 : Cd := (.seq (.region 15 F17.r15.toArray false) .ret)
theorem F17.t15_eq {P : Program} {Q : Post} {e : FA} {w : World} {θ : Tag (F17.t15, Q, e, w)} : cwE P F17.t15 Q e w θ = cwE P (.seq (.region 15 F17.r15.toArray false) .ret) Q e w := rfl
def F17.code : Cd := (.seq (.region 0 F17.r0.toArray false) (.seq (.region 1 F17.r1.toArray false) (.seq (.region 2 F17.r2.toArray false) (.seq (.block 0 (.loop (.seq (.seq (.region 3 F17.r3.toArray false) (.cond (.tmp 9) .skip (.exit 0))) F17.t4))) F17.t15))))
theorem F17.calls {args : Array Value} {w : World} {R : Ending → World → Prop} (hn : args.size ≤ 45) (h : cwE Tryd.prog F17.code (fnP Tryd.prog #[(.tmp 2)] R) (entry args) w) : Calls Tryd.prog 17 args w R :=
  calls_of_cwE (types := Tryd.prog.types) follows Tryd.func17 F17.code rfl (by kernel_rfl) hn h

def F18.r0 : List Oper := [
  ⟨(some 1), (.box 26 (.tmp 0)), 0, "", #[⟨0, .chain⟩], none⟩,
  ⟨(some 2), (.assign (.const (.string { data := #[] }))), 9, "", #[], none⟩]
def F18.r1 : List Oper := [
  ⟨(some 4), (.fieldAddr 26 (.tmp 1) 1), 0, "", #[], none⟩,
  ⟨(some 5), (.load 24 (.tmp 4)), 24, "", #[⟨0, .data⟩], none⟩,
  ⟨(some 6), (.call ⟨(.value (.func 34)), #[(.tmp 5), (.const (.string { data := #[47] }))], #[24, 9]⟩), 9, "", #[⟨0, .chain⟩], none⟩,
  ⟨(some 3), (.assign (.tmp 6)), 9, "", #[], none⟩]
def F18.r2 : List Oper := [
  ⟨(some 8), (.fieldAddr 26 (.tmp 1) 0), 0, "", #[], none⟩,
  ⟨(some 9), (.load 4 (.tmp 8)), 4, "", #[⟨0, .data⟩], none⟩,
  ⟨(some 7), (.assign (.tmp 9)), 4, "", #[], none⟩]
def F18.r3 : List Oper := [
  ⟨(some 10), (.move (.tmp 3)), 9, "", #[], none⟩,
  ⟨(some 11), (.binOp .add 9 (.const (.string { data := #[47] })) (.tmp 10) 9), 9, "", #[], none⟩,
  ⟨(some 2), (.assign (.tmp 11)), 9, "", #[], none⟩]
def F18.r4 : List Oper := [
  ⟨(some 13), (.fieldAddr 26 (.tmp 1) 1), 0, "", #[], none⟩,
  ⟨(some 14), (.load 24 (.tmp 13)), 24, "", #[⟨0, .data⟩], none⟩,
  ⟨(some 15), (.call ⟨(.builtin .len), #[(.tmp 14)], #[24]⟩), 3, "", #[], none⟩,
  ⟨(some 16), (.binOp .eql 3 (.tmp 15) (.const (.int .i64 0)) 3), 4, "", #[], none⟩,
  ⟨(some 12), (.assign (.tmp 16)), 4, "", #[], none⟩]
def F18.r5 : List Oper := [
  ⟨(some 2), (.assign (.const (.string { data := #[46] }))), 9, "", #[], none⟩]
def F18.r6 : List Oper := [
  ⟨(some 17), (.move (.tmp 3)), 9, "", #[], none⟩,
  ⟨(some 2), (.assign (.tmp 17)), 9, "", #[], none⟩]
def F18.t6 : Cd := (.seq (.region 6 F18.r6.toArray false) .ret)
theorem F18.t6_eq {P : Program} {Q : Post} {e : FA} {w : World} {θ : Tag (F18.t6, Q, e, w)} : cwE P F18.t6 Q e w θ = cwE P (.seq (.region 6 F18.r6.toArray false) .ret) Q e w := rfl
def F18.code : Cd := (.seq (.region 0 F18.r0.toArray false) (.seq (.region 1 F18.r1.toArray false) (.seq (.block 0 (.seq (.region 2 F18.r2.toArray false) (.cond (.tmp 7) (.seq (.region 3 F18.r3.toArray false) .ret) (.seq (.region 4 F18.r4.toArray false) (.cond (.tmp 12) (.seq (.region 5 F18.r5.toArray false) .ret) .skip))))) F18.t6)))
theorem F18.calls {args : Array Value} {w : World} {R : Ending → World → Prop} (hn : args.size ≤ 18) (h : cwE Tryd.prog F18.code (fnP Tryd.prog #[(.tmp 2)] R) (entry args) w) : Calls Tryd.prog 18 args w R :=
  calls_of_cwE (types := Tryd.prog.types) follows Tryd.func18 F18.code rfl (by kernel_rfl) hn h

def F19.r0 : List Oper := [
  ⟨(some 4), (.assign (.const (.string { data := #[] }))), 9, "", #[], none⟩,
  ⟨(some 5), (.assign (.const (.bool false))), 4, "", #[], none⟩]
def F19.r1 : List Oper := [
  ⟨(some 13), (.move (.tmp 0)), 9, "", #[], none⟩,
  ⟨(some 14), (.call ⟨(.value (.func 35)), #[(.tmp 13)], #[9]⟩), 67, "", #[⟨0, .chain⟩], none⟩,
  ⟨(some 12), (.move (.tmp 14)), 67, "", #[], none⟩,
  ⟨(some 15), (.extract (.tmp 12) 0), 26, "", #[], none⟩,
  ⟨(some 16), (.extract (.tmp 12) 1), 4, "", #[], none⟩,
  ⟨(some 6), (.alloc 26), 0, "", #[⟨0, .chain⟩], none⟩,
  ⟨none, (.store 26 (.tmp 6) (.tmp 15)), 0, "", #[⟨0, .chain⟩], none⟩,
  ⟨(some 7), (.assign (.tmp 16)), 4, "", #[], none⟩]
def F19.r2 : List Oper := [
  ⟨(some 18), (.move (.tmp 1)), 9, "", #[], none⟩,
  ⟨(some 19), (.call ⟨(.value (.func 35)), #[(.tmp 18)], #[9]⟩), 67, "", #[⟨0, .chain⟩], none⟩,
  ⟨(some 17), (.move (.tmp 19)), 67, "", #[], none⟩,
  ⟨(some 20), (.extract (.tmp 17) 0), 26, "", #[], none⟩,
  ⟨(some 21), (.extract (.tmp 17) 1), 4, "", #[], none⟩,
  ⟨(some 8), (.alloc 26), 0, "", #[⟨0, .chain⟩], none⟩,
  ⟨none, (.store 26 (.tmp 8) (.tmp 20)), 0, "", #[⟨0, .chain⟩], none⟩,
  ⟨(some 9), (.assign (.tmp 21)), 4, "", #[], none⟩]
def F19.r3 : List Oper := [
  ⟨(some 22), (.fieldAddr 26 (.tmp 6) 1), 0, "", #[], none⟩,
  ⟨(some 23), (.load 24 (.tmp 22)), 24, "", #[⟨0, .data⟩], none⟩,
  ⟨(some 24), (.call ⟨(.builtin .len), #[(.tmp 23)], #[24]⟩), 3, "", #[], none⟩,
  ⟨(some 10), (.assign (.tmp 24)), 3, "", #[], none⟩]
def F19.r4 : List Oper := [
  ⟨(some 25), (.move (.tmp 7)), 4, "", #[], none⟩,
  ⟨(some 26), (.unOp .not 4 (.tmp 25)), 4, "", #[], none⟩,
  ⟨(some 27), (.move (.tmp 26)), 4, "", #[], none⟩,
  ⟨(some 28), (.move (.tmp 9)), 4, "", #[], (some (27, false))⟩,
  ⟨(some 29), (.unOp .not 4 (.tmp 28)), 4, "", #[], (some (27, false))⟩,
  ⟨(some 30), (.pick (.tmp 27) (.const (.bool true)) (.tmp 29)), 4, "", #[], none⟩,
  ⟨(some 31), (.move (.tmp 30)), 4, "", #[], none⟩,
  ⟨(some 32), (.fieldAddr 26 (.tmp 6) 0), 0, "", #[], (some (31, false))⟩,
  ⟨(some 34), (.fieldAddr 26 (.tmp 8) 0), 0, "", #[], (some (31, false))⟩,
  ⟨(some 33), (.load 4 (.tmp 32)), 4, "", #[⟨134217728, .data⟩], (some (31, false))⟩,
  ⟨(some 35), (.load 4 (.tmp 34)), 4, "", #[⟨134217728, .data⟩], (some (31, false))⟩,
  ⟨(some 36), (.binOp .neq 4 (.tmp 33) (.tmp 35) 4), 4, "", #[], (some (31, false))⟩,
  ⟨(some 37), (.pick (.tmp 31) (.const (.bool true)) (.tmp 36)), 4, "", #[], none⟩,
  ⟨(some 38), (.move (.tmp 37)), 4, "", #[], none⟩,
  ⟨(some 39), (.move (.tmp 10)), 3, "", #[], (some (38, false))⟩,
  ⟨(some 40), (.fieldAddr 26 (.tmp 8) 1), 0, "", #[], (some (38, false))⟩,
  ⟨(some 41), (.load 24 (.tmp 40)), 24, "", #[⟨134217728, .data⟩], (some (38, false))⟩,
  ⟨(some 42), (.call ⟨(.builtin .len), #[(.tmp 41)], #[24]⟩), 3, "", #[], (some (38, false))⟩,
  ⟨(some 43), (.binOp .gtr 3 (.tmp 39) (.tmp 42) 3), 4, "", #[], (some (38, false))⟩,
  ⟨(some 44), (.pick (.tmp 38) (.const (.bool true)) (.tmp 43)), 4, "", #[], none⟩,
  ⟨(some 45), (.move (.tmp 44)), 4, "", #[], none⟩,
  ⟨(some 46), (.fieldAddr 26 (.tmp 6) 1), 0, "", #[], (some (45, false))⟩,
  ⟨(some 48), (.fieldAddr 26 (.tmp 8) 1), 0, "", #[], (some (45, false))⟩,
  ⟨(some 50), (.move (.tmp 10)), 3, "", #[], (some (45, false))⟩,
  ⟨(some 47), (.load 24 (.tmp 46)), 24, "", #[⟨134217728, .data⟩], (some (45, false))⟩,
  ⟨(some 49), (.load 24 (.tmp 48)), 24, "", #[⟨134217728, .data⟩], (some (45, false))⟩,
  ⟨(some 51), (.slice 24 (.tmp 49) none (some (.tmp 50)) none), 24, "", #[], (some (45, false))⟩,
  ⟨(some 52), (.call ⟨(.value (.func 36)), #[(.tmp 47), (.tmp 51)], #[24, 24]⟩), 4, "", #[⟨27, .chain⟩], (some (45, false))⟩,
  ⟨(some 53), (.unOp .not 4 (.tmp 52)), 4, "", #[], (some (45, false))⟩,
  ⟨(some 54), (.pick (.tmp 45) (.const (.bool true)) (.tmp 53)), 4, "", #[], none⟩]
def F19.r5 : List Oper := [
  ⟨(some 4), (.assign (.const (.string { data := #[] }))), 9, "", #[], none⟩,
  ⟨(some 5), (.assign (.const (.bool false))), 4, "", #[], none⟩]
def F19.r6 : List Oper := [
  ⟨(some 55), (.fieldAddr 26 (.tmp 8) 1), 0, "", #[], none⟩,
  ⟨(some 56), (.load 24 (.tmp 55)), 24, "", #[⟨0, .data⟩], none⟩,
  ⟨(some 57), (.move (.tmp 10)), 3, "", #[], none⟩,
  ⟨(some 58), (.slice 24 (.tmp 56) (some (.tmp 57)) none none), 24, "", #[], none⟩,
  ⟨(some 11), (.assign (.tmp 58)), 24, "", #[], none⟩]
def F19.r7 : List Oper := [
  ⟨(some 59), (.move (.tmp 11)), 24, "", #[], none⟩,
  ⟨(some 60), (.call ⟨(.builtin .len), #[(.tmp 59)], #[24]⟩), 3, "", #[], none⟩,
  ⟨(some 61), (.binOp .gtr 3 (.tmp 60) (.const (.int .i64 0)) 3), 4, "", #[], none⟩,
  ⟨(some 62), (.move (.tmp 61)), 4, "", #[], none⟩,
  ⟨(some 63), (.move (.tmp 11)), 24, "", #[], (some (62, true))⟩,
  ⟨(some 64), (.indexAddr 24 (.tmp 63) (.const (.int .i64 0))), 0, "", #[], (some (62, true))⟩,
  ⟨(some 65), (.load 9 (.tmp 64)), 9, "", #[⟨0, .data⟩], (some (62, true))⟩,
  ⟨(some 66), (.binOp .eql 9 (.tmp 65) (.const (.string { data := #[46, 46] })) 9), 4, "", #[], (some (62, true))⟩,
  ⟨(some 67), (.pick (.tmp 62) (.tmp 66) (.const (.bool false))), 4, "", #[], none⟩]
def F19.r8 : List Oper := [
  ⟨(some 4), (.assign (.const (.string { data := #[] }))), 9, "", #[], none⟩,
  ⟨(some 5), (.assign (.const (.bool false))), 4, "", #[], none⟩]
def F19.r9 : List Oper := [
  ⟨(some 68), (.move (.tmp 11)), 24, "", #[], none⟩,
  ⟨(some 69), (.build 26 #[(1, (.tmp 68))]), 26, "", #[], none⟩,
  ⟨(some 70), (.call ⟨(.value (.func 18)), #[(.tmp 69)], #[26]⟩), 9, "", #[⟨0, .chain⟩], none⟩,
  ⟨(some 4), (.assign (.tmp 70)), 9, "", #[], none⟩,
  ⟨(some 5), (.assign (.const (.bool true))), 4, "", #[], none⟩]
def F19.t9 : Cd := (.seq (.region 9 F19.r9.toArray false) .ret)
theorem F19.t9_eq {P : Program} {Q : Post} {e : FA} {w : World} {θ : Tag (F19.t9, Q, e, w)} : cwE P F19.t9 Q e w θ = cwE P (.seq (.region 9 F19.r9.toArray false) .ret) Q e w := rfl
def F19.t6 : Cd := (.seq (.region 6 F19.r6.toArray false) (.seq (.seq (.region 7 F19.r7.toArray false) (.cond (.tmp 67) (.seq (.region 8 F19.r8.toArray false) .ret) .skip)) F19.t9))
theorem F19.t6_eq {P : Program} {Q : Post} {e : FA} {w : World} {θ : Tag (F19.t6, Q, e, w)} : cwE P F19.t6 Q e w θ = cwE P (.seq (.region 6 F19.r6.toArray false) (.seq (.seq (.region 7 F19.r7.toArray false) (.cond (.tmp 67) (.seq (.region 8 F19.r8.toArray false) .ret) .skip)) F19.t9)) Q e w := rfl
def F19.code : Cd := (.seq (.region 0 F19.r0.toArray false) (.seq (.region 1 F19.r1.toArray false) (.seq (.region 2 F19.r2.toArray false) (.seq (.region 3 F19.r3.toArray false) (.seq (.seq (.region 4 F19.r4.toArray true) (.cond (.tmp 54) (.seq (.region 5 F19.r5.toArray false) .ret) .skip)) F19.t6)))))
theorem F19.calls {args : Array Value} {w : World} {R : Ending → World → Prop} (hn : args.size ≤ 71) (h : cwE Tryd.prog F19.code (fnP Tryd.prog #[(.tmp 4), (.tmp 5)] R) (entry args) w) : Calls Tryd.prog 19 args w R :=
  calls_of_cwE (types := Tryd.prog.types) follows Tryd.func19 F19.code rfl (by kernel_rfl) hn h

def F20.r0 : List Oper := [
  ⟨(some 2), (.assign (.const (.int .i64 0))), 3, "", #[], none⟩]
def F20.r1 : List Oper := [
  ⟨(some 3), (.assign (.const (.int .i64 0))), 3, "", #[], none⟩]
def F20.r2 : List Oper := [
  ⟨(some 4), (.assign (.const (.int .i64 0))), 3, "", #[], none⟩]
def F20.r3 : List Oper := [
  ⟨(some 5), (.move (.tmp 4)), 3, "", #[], none⟩,
  ⟨(some 6), (.move (.tmp 0)), 24, "", #[], none⟩,
  ⟨(some 7), (.call ⟨(.builtin .len), #[(.tmp 6)], #[24]⟩), 3, "", #[], none⟩,
  ⟨(some 8), (.binOp .lss 3 (.tmp 5) (.tmp 7) 3), 4, "", #[], none⟩,
  ⟨(some 9), (.move (.tmp 8)), 4, "", #[], none⟩,
  ⟨(some 10), (.move (.tmp 3)), 3, "", #[], (some (9, true))⟩,
  ⟨(some 11), (.binOp .leq 3 (.tmp 10) (.const (.int .i64 268435456)) 3), 4, "", #[], (some (9, true))⟩,
  ⟨(some 12), (.pick (.tmp 9) (.tmp 11) (.const (.bool false))), 4, "", #[], none⟩]
def F20.r5 : List Oper := [
  ⟨(some 15), (.move (.tmp 3)), 3, "", #[], none⟩,
  ⟨(some 16), (.binOp .add 3 (.tmp 15) (.const (.int .i64 2)) 3), 3, "", #[], none⟩,
  ⟨(some 17), (.move (.tmp 0)), 24, "", #[], none⟩,
  ⟨(some 18), (.move (.tmp 4)), 3, "", #[], none⟩,
  ⟨(some 19), (.indexAddr 24 (.tmp 17) (.tmp 18)), 0, "", #[], none⟩,
  ⟨(some 20), (.load 9 (.tmp 19)), 9, "", #[⟨0, .data⟩], none⟩,
  ⟨(some 21), (.call ⟨(.builtin .len), #[(.tmp 20)], #[9]⟩), 3, "", #[], none⟩,
  ⟨(some 22), (.binOp .add 3 (.tmp 16) (.tmp 21) 3), 3, "", #[], none⟩,
  ⟨(some 3), (.assign (.tmp 22)), 3, "", #[], none⟩]
def F20.r4 : List Oper := [
  ⟨(some 13), (.move (.tmp 4)), 3, "", #[], none⟩,
  ⟨(some 14), (.binOp .add 3 (.tmp 13) (.const (.int .i64 1)) 3), 3, "", #[], none⟩,
  ⟨(some 4), (.assign (.tmp 14)), 3, "", #[], none⟩]
def F20.r6 : List Oper := [
  ⟨(some 23), (.move (.tmp 3)), 3, "", #[], none⟩,
  ⟨(some 2), (.assign (.tmp 23)), 3, "", #[], none⟩]
def F20.t4 : Cd := (.region 4 F20.r4.toArray false)
theorem F20.t4_eq {P : Program} {Q : Post} {e : FA} {w : World} {θ : Tag (F20.t4, Q, e, w)} : cwE P F20.t4 Q e w θ = cwE P (.region 4 F20.r4.toArray false) Q e w := rfl
def F20.t5 : Cd := (.seq (.block 1 (.region 5 F20.r5.toArray false)) F20.t4)
theorem F20.t5_eq {P : Program} {Q : Post} {e : FA} {w : World} {θ : Tag (F20.t5, Q, e, w)} : cwE P F20.t5 Q e w θ = cwE P (.seq (.block 1 (.region 5 F20.r5.toArray false)) F20.t4) Q e w := rfl
def F20.t6 : Cd := (.seq (.region 6 F20.r6.toArray false) .ret)
theorem F20.t6_eq {P : Program} {Q : Post} {e : FA} {w : World} {θ : Tag (F20.t6, Q, e, w)} : cwE P F20.t6 Q e w θ = cwE P (.seq (.region 6 F20.r6.toArray false) .ret) Q e w := rfl
def F20.code : Cd := (.seq (.region 0 F20.r0.toArray false) (.seq (.region 1 F20.r1.toArray false) (.seq (.seq (.region 2 F20.r2.toArray false) (.block 0 (.loop (.seq (.seq (.region 3 F20.r3.toArray false) (.cond (.tmp 12) .skip (.exit 0))) F20.t5)))) F20.t6)))
theorem F20.calls {args : Array Value} {w : World} {R : Ending → World → Prop} (hn : args.size ≤ 24) (h : cwE Tryd.prog F20.code (fnP Tryd.prog #[(.tmp 2)] R) (entry args) w) : Calls Tryd.prog 20 args w R :=
  calls_of_cwE (types := Tryd.prog.types) follows Tryd.func20 F20.code rfl (by kernel_rfl) hn h

def F21.r0 : List Oper := [
  ⟨(some 2), (.assign (.const (.int .i64 0))), 27, "", #[], none⟩]
def F21.r1 : List Oper := [
  ⟨(some 5), (.move (.tmp 0)), 9, "", #[], none⟩,
  ⟨(some 6), (.call ⟨(.value (.func 16)), #[(.tmp 5)], #[9]⟩), 4, "", #[⟨0, .chain⟩], none⟩,
  ⟨(some 3), (.assign (.tmp 6)), 4, "", #[], none⟩]
def F21.r2 : List Oper := [
  ⟨(some 7), (.move (.tmp 0)), 9, "", #[], none⟩,
  ⟨(some 8), (.binOp .eql 9 (.tmp 7) (.const (.string { data := #[] })) 9), 4, "", #[], none⟩,
  ⟨(some 9), (.move (.tmp 8)), 4, "", #[], none⟩,
  ⟨(some 10), (.move (.tmp 0)), 9, "", #[], (some (9, false))⟩,
  ⟨(some 11), (.binOp .eql 9 (.tmp 10) (.const (.string { data := #[46] })) 9), 4, "", #[], (some (9, false))⟩,
  ⟨(some 12), (.pick (.tmp 9) (.const (.bool true)) (.tmp 11)), 4, "", #[], none⟩,
  ⟨(some 13), (.move (.tmp 12)), 4, "", #[], none⟩,
  ⟨(some 14), (.move (.tmp 0)), 9, "", #[], (some (13, false))⟩,
  ⟨(some 15), (.binOp .eql 9 (.tmp 14) (.const (.string { data := #[46, 46] })) 9), 4, "", #[], (some (13, false))⟩,
  ⟨(some 16), (.pick (.tmp 13) (.const (.bool true)) (.tmp 15)), 4, "", #[], none⟩,
  ⟨(some 17), (.move (.tmp 16)), 4, "", #[], none⟩,
  ⟨(some 18), (.move (.tmp 3)), 4, "", #[], (some (17, false))⟩,
  ⟨(some 19), (.unOp .not 4 (.tmp 18)), 4, "", #[], (some (17, false))⟩,
  ⟨(some 20), (.pick (.tmp 17) (.const (.bool true)) (.tmp 19)), 4, "", #[], none⟩,
  ⟨(some 21), (.move (.tmp 20)), 4, "", #[], none⟩,
  ⟨(some 22), (.move (.tmp 0)), 9, "", #[], (some (21, false))⟩,
  ⟨(some 23), (.call ⟨(.builtin .len), #[(.tmp 22)], #[9]⟩), 3, "", #[], (some (21, false))⟩,
  ⟨(some 24), (.binOp .gtr 3 (.tmp 23) (.const (.int .i64 255)) 3), 4, "", #[], (some (21, false))⟩,
  ⟨(some 25), (.pick (.tmp 21) (.const (.bool true)) (.tmp 24)), 4, "", #[], none⟩]
def F21.r3 : List Oper := [
  ⟨(some 2), (.assign (.const (.int .i64 50))), 27, "", #[], none⟩]
def F21.r4 : List Oper := [
  ⟨(some 4), (.assign (.const (.int .i64 0))), 3, "", #[], none⟩]
def F21.r5 : List Oper := [
  ⟨(some 26), (.move (.tmp 4)), 3, "", #[], none⟩,
  ⟨(some 27), (.move (.tmp 0)), 9, "", #[], none⟩,
  ⟨(some 28), (.call ⟨(.builtin .len), #[(.tmp 27)], #[9]⟩), 3, "", #[], none⟩,
  ⟨(some 29), (.binOp .lss 3 (.tmp 26) (.tmp 28) 3), 4, "", #[], none⟩]
def F21.r7 : List Oper := [
  ⟨(some 32), (.move (.tmp 0)), 9, "", #[], none⟩,
  ⟨(some 33), (.move (.tmp 4)), 3, "", #[], none⟩,
  ⟨(some 34), (.index 9 (.tmp 32) (.tmp 33)), 5, "", #[], none⟩,
  ⟨(some 35), (.binOp .eql 5 (.tmp 34) (.const (.int .u8 47)) 5), 4, "", #[], none⟩]
def F21.r8 : List Oper := [
  ⟨(some 2), (.assign (.const (.int .i64 50))), 27, "", #[], none⟩]
def F21.r6 : List Oper := [
  ⟨(some 30), (.move (.tmp 4)), 3, "", #[], none⟩,
  ⟨(some 31), (.binOp .add 3 (.tmp 30) (.const (.int .i64 1)) 3), 3, "", #[], none⟩,
  ⟨(some 4), (.assign (.tmp 31)), 3, "", #[], none⟩]
def F21.r9 : List Oper := [
  ⟨(some 2), (.assign (.const (.int .i64 0))), 27, "", #[], none⟩]
def F21.t6 : Cd := (.region 6 F21.r6.toArray false)
theorem F21.t6_eq {P : Program} {Q : Post} {e : FA} {w : World} {θ : Tag (F21.t6, Q, e, w)} : cwE P F21.t6 Q e w θ = cwE P (.region 6 F21.r6.toArray false) Q e w := rfl
def F21.t7 : Cd := (.seq (.block 1 (.seq (.region 7 F21.r7.toArray false) (.cond (.tmp 35) (.seq (.region 8 F21.r8.toArray false) .ret) .skip))) F21.t6)
theorem F21.t7_eq {P : Program} {Q : Post} {e : FA} {w : World} {θ : Tag (F21.t7, Q, e, w)} : cwE P F21.t7 Q e w θ = cwE P (.seq (.block 1 (.seq (.region 7 F21.r7.toArray false) (.cond (.tmp 35) (.seq (.region 8 F21.r8.toArray false) .ret) .skip))) F21.t6) Q e w := rfl
def F21.t9 : Cd := (.seq (.region 9 F21.r9.toArray false) .ret)
theorem F21.t9_eq {P : Program} {Q : Post} {e : FA} {w : World} {θ : Tag (F21.t9, Q, e, w)} : cwE P F21.t9 Q e w θ = cwE P (.seq (.region 9 F21.r9.toArray false) .ret) Q e w := rfl
def F21.t4 : Cd := (.seq (.seq (.region 4 F21.r4.toArray false) (.block 0 (.loop (.seq (.seq (.region 5 F21.r5.toArray false) (.cond (.tmp 29) .skip (.exit 0))) F21.t7)))) F21.t9)
theorem F21.t4_eq {P : Program} {Q : Post} {e : FA} {w : World} {θ : Tag (F21.t4, Q, e, w)} : cwE P F21.t4 Q e w θ = cwE P (.seq (.seq (.region 4 F21.r4.toArray false) (.block 0 (.loop (.seq (.seq (.region 5 F21.r5.toArray false) (.cond (.tmp 29) .skip (.exit 0))) F21.t7)))) F21.t9) Q e w := rfl
def F21.code : Cd := (.seq (.region 0 F21.r0.toArray false) (.seq (.region 1 F21.r1.toArray false) (.seq (.seq (.region 2 F21.r2.toArray false) (.cond (.tmp 25) (.seq (.region 3 F21.r3.toArray false) .ret) .skip)) F21.t4)))
theorem F21.calls {args : Array Value} {w : World} {R : Ending → World → Prop} (hn : args.size ≤ 36) (h : cwE Tryd.prog F21.code (fnP Tryd.prog #[(.tmp 2)] R) (entry args) w) : Calls Tryd.prog 21 args w R :=
  calls_of_cwE (types := Tryd.prog.types) follows Tryd.func21 F21.code rfl (by kernel_rfl) hn h

def F22.r0 : List Oper := [
  ⟨(some 2), (.assign (.const (.string { data := #[] }))), 9, "", #[], none⟩]
def F22.r1 : List Oper := [
  ⟨(some 7), (.move (.tmp 0)), 9, "", #[], none⟩,
  ⟨(some 8), (.binOp .neq 9 (.tmp 7) (.const (.string { data := #[] })) 9), 4, "", #[], none⟩,
  ⟨(some 3), (.assign (.tmp 8)), 4, "", #[], none⟩]
def F22.r2 : List Oper := [
  ⟨(some 4), (.alloc 72), 0, "", #[⟨0, .chain⟩], none⟩]
def F22.r3 : List Oper := [
  ⟨(some 9), (.call ⟨(.value (.func 37)), #[(.tmp 4), (.const (.int .u8 39))], #[72, 5]⟩), 74, "", #[⟨0, .chain⟩], none⟩]
def F22.r4 : List Oper := [
  ⟨(some 5), (.assign (.const (.int .i64 0))), 3, "", #[], none⟩]
def F22.r5 : List Oper := [
  ⟨(some 10), (.move (.tmp 5)), 3, "", #[], none⟩,
  ⟨(some 11), (.move (.tmp 0)), 9, "", #[], none⟩,
  ⟨(some 12), (.call ⟨(.builtin .len), #[(.tmp 11)], #[9]⟩), 3, "", #[], none⟩,
  ⟨(some 13), (.binOp .lss 3 (.tmp 10) (.tmp 12) 3), 4, "", #[], none⟩]
def F22.r7 : List Oper := [
  ⟨(some 16), (.move (.tmp 0)), 9, "", #[], none⟩,
  ⟨(some 17), (.move (.tmp 5)), 3, "", #[], none⟩,
  ⟨(some 18), (.index 9 (.tmp 16) (.tmp 17)), 5, "", #[], none⟩,
  ⟨(some 6), (.assign (.tmp 18)), 5, "", #[], none⟩]
def F22.r8 : List Oper := [
  ⟨(some 19), (.move (.tmp 3)), 4, "", #[], none⟩,
  ⟨(some 20), (.move (.tmp 19)), 4, "", #[], none⟩,
  ⟨(some 21), (.move (.tmp 6)), 5, "", #[], (some (20, true))⟩,
  ⟨(some 22), (.call ⟨(.value (.func 38)), #[(.tmp 21)], #[5]⟩), 4, "", #[⟨0, .chain⟩], (some (20, true))⟩,
  ⟨(some 23), (.pick (.tmp 20) (.tmp 22) (.const (.bool false))), 4, "", #[], none⟩,
  ⟨(some 3), (.assign (.tmp 23)), 4, "", #[], none⟩]
def F22.r10 : List Oper := [
  ⟨(some 27), (.move (.tmp 6)), 5, "", #[], none⟩,
  ⟨(some 28), (.binOp .eql 5 (.tmp 27) (.const (.int .u8 92)) 5), 4, "", #[], none⟩,
  ⟨(some 29), (.move (.tmp 28)), 4, "", #[], none⟩,
  ⟨(some 30), (.move (.tmp 6)), 5, "", #[], (some (29, false))⟩,
  ⟨(some 31), (.binOp .eql 5 (.tmp 30) (.const (.int .u8 39)) 5), 4, "", #[], (some (29, false))⟩,
  ⟨(some 32), (.pick (.tmp 29) (.const (.bool true)) (.tmp 31)), 4, "", #[], none⟩,
  ⟨(some 26), (.assign (.tmp 32)), 4, "", #[], none⟩]
def F22.r11 : List Oper := [
  ⟨(some 33), (.call ⟨(.value (.func 37)), #[(.tmp 4), (.const (.int .u8 92))], #[72, 5]⟩), 74, "", #[⟨0, .chain⟩], none⟩]
def F22.r12 : List Oper := [
  ⟨(some 34), (.move (.tmp 6)), 5, "", #[], none⟩,
  ⟨(some 35), (.call ⟨(.value (.func 37)), #[(.tmp 4), (.tmp 34)], #[72, 5]⟩), 74, "", #[⟨0, .chain⟩], none⟩]
def F22.r13 : List Oper := [
  ⟨(some 37), (.move (.tmp 6)), 5, "", #[], none⟩,
  ⟨(some 38), (.binOp .lss 5 (.tmp 37) (.const (.int .u8 32)) 5), 4, "", #[], none⟩,
  ⟨(some 39), (.move (.tmp 38)), 4, "", #[], none⟩,
  ⟨(some 40), (.move (.tmp 6)), 5, "", #[], (some (39, false))⟩,
  ⟨(some 41), (.binOp .gtr 5 (.tmp 40) (.const (.int .u8 126)) 5), 4, "", #[], (some (39, false))⟩,
  ⟨(some 42), (.pick (.tmp 39) (.const (.bool true)) (.tmp 41)), 4, "", #[], none⟩,
  ⟨(some 36), (.assign (.tmp 42)), 4, "", #[], none⟩]
def F22.r14 : List Oper := [
  ⟨(some 43), (.call ⟨(.value (.func 39)), #[(.tmp 4), (.const (.string { data := #[92, 120] }))], #[72, 9]⟩), 77, "", #[⟨0, .chain⟩], none⟩]
def F22.r15 : List Oper := [
  ⟨(some 44), (.move (.tmp 6)), 5, "", #[], none⟩,
  ⟨(some 45), (.binOp .shr 5 (.tmp 44) (.const (.int .u64 4)) 79), 5, "", #[], none⟩,
  ⟨(some 46), (.index 9 (.const (.string { data := #[48, 49, 50, 51, 52, 53, 54, 55, 56, 57, 97, 98, 99, 100, 101, 102] })) (.tmp 45)), 5, "", #[], none⟩,
  ⟨(some 47), (.call ⟨(.value (.func 37)), #[(.tmp 4), (.tmp 46)], #[72, 5]⟩), 74, "", #[⟨0, .chain⟩], none⟩]
def F22.r16 : List Oper := [
  ⟨(some 48), (.move (.tmp 6)), 5, "", #[], none⟩,
  ⟨(some 49), (.binOp .and 5 (.tmp 48) (.const (.int .u8 15)) 5), 5, "", #[], none⟩,
  ⟨(some 50), (.index 9 (.const (.string { data := #[48, 49, 50, 51, 52, 53, 54, 55, 56, 57, 97, 98, 99, 100, 101, 102] })) (.tmp 49)), 5, "", #[], none⟩,
  ⟨(some 51), (.call ⟨(.value (.func 37)), #[(.tmp 4), (.tmp 50)], #[72, 5]⟩), 74, "", #[⟨0, .chain⟩], none⟩]
def F22.r9 : List Oper := [
  ⟨(some 24), (.move (.tmp 6)), 5, "", #[], none⟩,
  ⟨(some 25), (.call ⟨(.value (.func 37)), #[(.tmp 4), (.tmp 24)], #[72, 5]⟩), 74, "", #[⟨0, .chain⟩], none⟩]
def F22.r6 : List Oper := [
  ⟨(some 14), (.move (.tmp 5)), 3, "", #[], none⟩,
  ⟨(some 15), (.binOp .add 3 (.tmp 14) (.const (.int .i64 1)) 3), 3, "", #[], none⟩,
  ⟨(some 5), (.assign (.tmp 15)), 3, "", #[], none⟩]
def F22.r17 : List Oper := [
  ⟨(some 52), (.move (.tmp 3)), 4, "", #[], none⟩]
def F22.r18 : List Oper := [
  ⟨(some 53), (.move (.tmp 0)), 9, "", #[], none⟩,
  ⟨(some 2), (.assign (.tmp 53)), 9, "", #[], none⟩]
def F22.r19 : List Oper := [
  ⟨(some 54), (.call ⟨(.value (.func 37)), #[(.tmp 4), (.const (.int .u8 39))], #[72, 5]⟩), 74, "", #[⟨0, .chain⟩], none⟩]
def F22.r20 : List Oper := [
  ⟨(some 55), (.call ⟨(.value (.func 40)), #[(.tmp 4)], #[72]⟩), 9, "", #[⟨0, .chain⟩], none⟩,
  ⟨(some 2), (.assign (.tmp 55)), 9, "", #[], none⟩]
def F22.t6 : Cd := (.region 6 F22.r6.toArray false)
theorem F22.t6_eq {P : Program} {Q : Post} {e : FA} {w : World} {θ : Tag (F22.t6, Q, e, w)} : cwE P F22.t6 Q e w θ = cwE P (.region 6 F22.r6.toArray false) Q e w := rfl
def F22.t7 : Cd := (.seq (.block 1 (.seq (.region 7 F22.r7.toArray false) (.seq (.region 8 F22.r8.toArray false) (.block 2 (.seq (.region 10 F22.r10.toArray false) (.cond (.tmp 26) (.seq (.region 11 F22.r11.toArray false) (.region 12 F22.r12.toArray false)) (.seq (.region 13 F22.r13.toArray false) (.cond (.tmp 36) (.seq (.region 14 F22.r14.toArray false) (.seq (.region 15 F22.r15.toArray false) (.region 16 F22.r16.toArray false))) (.region 9 F22.r9.toArray false))))))))) F22.t6)
theorem F22.t7_eq {P : Program} {Q : Post} {e : FA} {w : World} {θ : Tag (F22.t7, Q, e, w)} : cwE P F22.t7 Q e w θ = cwE P (.seq (.block 1 (.seq (.region 7 F22.r7.toArray false) (.seq (.region 8 F22.r8.toArray false) (.block 2 (.seq (.region 10 F22.r10.toArray false) (.cond (.tmp 26) (.seq (.region 11 F22.r11.toArray false) (.region 12 F22.r12.toArray false)) (.seq (.region 13 F22.r13.toArray false) (.cond (.tmp 36) (.seq (.region 14 F22.r14.toArray false) (.seq (.region 15 F22.r15.toArray false) (.region 16 F22.r16.toArray false))) (.region 9 F22.r9.toArray false))))))))) F22.t6) Q e w := rfl
def F22.t19 : Cd := (.seq (.region 19 F22.r19.toArray false) (.seq (.region 20 F22.r20.toArray false) .ret))
theorem F22.t19_eq {P : Program} {Q : Post} {e : FA} {w : World} {θ : Tag (F22.t19, Q, e, w)} : cwE P F22.t19 Q e w θ = cwE P (.seq (.region 19 F22.r19.toArray false) (.seq (.region 20 F22.r20.toArray false) .ret)) Q e w := rfl
def F22.t17 : Cd := (.seq (.seq (.region 17 F22.r17.toArray false) (.cond (.tmp 52) (.seq (.region 18 F22.r18.toArray false) .ret) .skip)) F22.t19)
theorem F22.t17_eq {P : Program} {Q : Post} {e : FA} {w : World} {θ : Tag (F22.t17, Q, e, w)} : cwE P F22.t17 Q e w θ = cwE P (.seq (.seq (.region 17 F22.r17.toArray false) (.cond (.tmp 52) (.seq (.region 18 F22.r18.toArray false) .ret) .skip)) F22.t19) Q e w := rfl
def F22.code : Cd := (.seq (.region 0 F22.r0.toArray false) (.seq (.region 1 F22.r1.toArray false) (.seq (.region 2 F22.r2.toArray false) (.seq (.region 3 F22.r3.toArray false) (.seq (.seq (.region 4 F22.r4.toArray false) (.block 0 (.loop (.seq (.seq (.region 5 F22.r5.toArray false) (.cond (.tmp 13) .skip (.exit 0))) F22.t7)))) F22.t17)))))
theorem F22.calls {args : Array Value} {w : World} {R : Ending → World → Prop} (hn : args.size ≤ 56) (h : cwE Tryd.prog F22.code (fnP Tryd.prog #[(.tmp 2)] R) (entry args) w) : Calls Tryd.prog 22 args w R :=
  calls_of_cwE (types := Tryd.prog.types) follows Tryd.func22 F22.code rfl (by kernel_rfl) hn h

def F23.r0 : List Oper := [
  ⟨(some 2), (.alloc 24), 0, "", #[⟨0, .chain⟩], none⟩,
  ⟨(some 3), (.alloc 27), 0, "", #[⟨0, .chain⟩], none⟩]
def F23.r1 : List Oper := [
  ⟨(some 9), (.makeFunc (.func 41) #[] #[(.tmp 2), (.tmp 3)]), 1, "", #[], none⟩,
  ⟨none, (.defer ⟨(.value (.tmp 9)), #[], #[]⟩), 0, "", #[⟨0, .chain⟩], none⟩]
def F23.r2 : List Oper := [
  ⟨(some 4), (.assign (.const (.slice none 0 0))), 70, "", #[], none⟩]
def F23.r3 : List Oper := [
  ⟨(some 5), (.assign (.const (.bool false))), 4, "", #[], none⟩]
def F23.r4 : List Oper := [
  ⟨(some 6), (.assign (.const (.int .i64 0))), 3, "", #[], none⟩]
def F23.r5 : List Oper := [
  ⟨(some 10), (.move (.tmp 6)), 3, "", #[], none⟩,
  ⟨(some 11), (.move (.tmp 0)), 9, "", #[], none⟩,
  ⟨(some 12), (.call ⟨(.builtin .len), #[(.tmp 11)], #[9]⟩), 3, "", #[], none⟩,
  ⟨(some 13), (.binOp .lss 3 (.tmp 10) (.tmp 12) 3), 4, "", #[], none⟩]
def F23.r7 : List Oper := [
  ⟨(some 16), (.move (.tmp 0)), 9, "", #[], none⟩,
  ⟨(some 17), (.move (.tmp 6)), 3, "", #[], none⟩,
  ⟨(some 18), (.index 9 (.tmp 16) (.tmp 17)), 5, "", #[], none⟩,
  ⟨(some 7), (.assign (.tmp 18)), 5, "", #[], none⟩]
def F23.r8 : List Oper := [
  ⟨(some 19), (.move (.tmp 7)), 5, "", #[], none⟩]
def F23.r11 : List Oper := [
  ⟨(some 25), (.binOp .eql 5 (.tmp 19) (.const (.int .u8 32)) 5), 4, "", #[], none⟩,
  ⟨(some 24), (.assign (.tmp 25)), 4, "", #[], none⟩]
def F23.r12 : List Oper := [
  ⟨(some 26), (.binOp .eql 5 (.tmp 19) (.const (.int .u8 9)) 5), 4, "", #[], none⟩,
  ⟨(some 24), (.assign (.tmp 26)), 4, "", #[], none⟩]
def F23.r13 : List Oper := [
  ⟨(some 27), (.move (.tmp 5)), 4, "", #[], none⟩]
def F23.r14 : List Oper := [
  ⟨(some 28), (.load 24 (.tmp 2)), 24, "", #[⟨0, .data⟩], none⟩,
  ⟨(some 29), (.move (.tmp 4)), 70, "", #[], none⟩,
  ⟨(some 30), (.convert 70 9 (.tmp 29)), 9, "", #[⟨0, .data⟩], none⟩,
  ⟨(some 31), (.buildSlice 24 1 #[(0, (.tmp 30))]), 24, "", #[⟨0, .chain⟩], none⟩,
  ⟨(some 32), (.call ⟨(.builtin .append), #[(.tmp 28), (.tmp 31)], #[24, 24]⟩), 24, "", #[⟨0, .chain⟩], none⟩,
  ⟨none, (.store 24 (.tmp 2) (.tmp 32)), 0, "", #[⟨0, .chain⟩], none⟩]
def F23.r15 : List Oper := [
  ⟨(some 4), (.assign (.const (.slice none 0 0))), 70, "", #[], none⟩,
  ⟨(some 5), (.assign (.const (.bool false))), 4, "", #[], none⟩]
def F23.r16 : List Oper := [
  ⟨(some 34), (.binOp .eql 5 (.tmp 19) (.const (.int .u8 39)) 5), 4, "", #[], none⟩,
  ⟨(some 33), (.assign (.tmp 34)), 4, "", #[], none⟩]
def F23.r17 : List Oper := [
  ⟨(some 8), (.assign (.const (.int .i64 0))), 3, "", #[], none⟩]
def F23.r18 : List Oper := [
  ⟨(some 36), (.move (.tmp 4)), 70, "", #[], none⟩,
  ⟨(some 37), (.move (.tmp 0)), 9, "", #[], none⟩,
  ⟨(some 38), (.move (.tmp 6)), 3, "", #[], none⟩,
  ⟨(some 39), (.slice 9 (.tmp 37) (some (.tmp 38)) none none), 9, "", #[], none⟩,
  ⟨(some 40), (.call ⟨(.value (.func 42)), #[(.tmp 36), (.tmp 39)], #[70, 9]⟩), 83, "", #[⟨0, .chain⟩], none⟩,
  ⟨(some 35), (.move (.tmp 40)), 83, "", #[], none⟩,
  ⟨(some 41), (.extract (.tmp 35) 0), 70, "", #[], none⟩,
  ⟨(some 42), (.extract (.tmp 35) 1), 3, "", #[], none⟩,
  ⟨(some 4), (.assign (.tmp 41)), 70, "", #[], none⟩,
  ⟨(some 8), (.assign (.tmp 42)), 3, "", #[], none⟩]
def F23.r19 : List Oper := [
  ⟨(some 43), (.move (.tmp 6)), 3, "", #[], none⟩,
  ⟨(some 44), (.move (.tmp 8)), 3, "", #[], none⟩,
  ⟨(some 45), (.binOp .sub 3 (.tmp 44) (.const (.int .i64 1)) 3), 3, "", #[], none⟩,
  ⟨(some 46), (.binOp .add 3 (.tmp 43) (.tmp 45) 3), 3, "", #[], none⟩,
  ⟨(some 6), (.assign (.tmp 46)), 3, "", #[], none⟩]
def F23.r20 : List Oper := [
  ⟨(some 5), (.assign (.const (.bool true))), 4, "", #[], none⟩]
def F23.r9 : List Oper := [
  ⟨(some 20), (.move (.tmp 4)), 70, "", #[], none⟩,
  ⟨(some 21), (.move (.tmp 7)), 5, "", #[], none⟩,
  ⟨(some 22), (.buildSlice 70 1 #[(0, (.tmp 21))]), 70, "", #[⟨0, .chain⟩], none⟩,
  ⟨(some 23), (.call ⟨(.builtin .append), #[(.tmp 20), (.tmp 22)], #[70, 70]⟩), 70, "", #[⟨0, .chain⟩], none⟩,
  ⟨(some 4), (.assign (.tmp 23)), 70, "", #[], none⟩]
def F23.r10 : List Oper := [
  ⟨(some 5), (.assign (.const (.bool true))), 4, "", #[], none⟩]
def F23.r6 : List Oper := [
  ⟨(some 14), (.move (.tmp 6)), 3, "", #[], none⟩,
  ⟨(some 15), (.binOp .add 3 (.tmp 14) (.const (.int .i64 1)) 3), 3, "", #[], none⟩,
  ⟨(some 6), (.assign (.tmp 15)), 3, "", #[], none⟩]
def F23.r21 : List Oper := [
  ⟨(some 47), (.move (.tmp 5)), 4, "", #[], none⟩]
def F23.r22 : List Oper := [
  ⟨(some 48), (.load 24 (.tmp 2)), 24, "", #[⟨0, .data⟩], none⟩,
  ⟨(some 49), (.move (.tmp 4)), 70, "", #[], none⟩,
  ⟨(some 50), (.convert 70 9 (.tmp 49)), 9, "", #[⟨0, .data⟩], none⟩,
  ⟨(some 51), (.buildSlice 24 1 #[(0, (.tmp 50))]), 24, "", #[⟨0, .chain⟩], none⟩,
  ⟨(some 52), (.call ⟨(.builtin .append), #[(.tmp 48), (.tmp 51)], #[24, 24]⟩), 24, "", #[⟨0, .chain⟩], none⟩,
  ⟨none, (.store 24 (.tmp 2) (.tmp 52)), 0, "", #[⟨0, .chain⟩], none⟩]
def F23.r23 : List Oper := [
  ⟨(some 53), (.load 24 (.tmp 2)), 24, "", #[⟨0, .data⟩], none⟩,
  ⟨none, (.store 24 (.tmp 2) (.tmp 53)), 0, "", #[⟨0, .chain⟩], none⟩,
  ⟨none, (.store 27 (.tmp 3) (.const (.int .i64 0))), 0, "", #[⟨0, .chain⟩], none⟩]
def F23.t15 : Cd := (.region 15 F23.r15.toArray false)
theorem F23.t15_eq {P : Program} {Q : Post} {e : FA} {w : World} {θ : Tag (F23.t15, Q, e, w)} : cwE P F23.t15 Q e w θ = cwE P (.region 15 F23.r15.toArray false) Q e w := rfl
def F23.t13 : Cd := (.cond (.tmp 24) (.seq (.seq (.region 13 F23.r13.toArray false) (.cond (.tmp 27) (.region 14 F23.r14.toArray false) .skip)) F23.t15) (.seq (.region 16 F23.r16.toArray false) (.cond (.tmp 33) (.seq (.region 17 F23.r17.toArray false) (.seq (.region 18 F23.r18.toArray false) (.seq (.region 19 F23.r19.toArray false) (.region 20 F23.r20.toArray false)))) (.seq (.region 9 F23.r9.toArray false) (.region 10 F23.r10.toArray false)))))
theorem F23.t13_eq {P : Program} {Q : Post} {e : FA} {w : World} {θ : Tag (F23.t13, Q, e, w)} : cwE P F23.t13 Q e w θ = cwE P (.cond (.tmp 24) (.seq (.seq (.region 13 F23.r13.toArray false) (.cond (.tmp 27) (.region 14 F23.r14.toArray false) .skip)) F23.t15) (.seq (.region 16 F23.r16.toArray false) (.cond (.tmp 33) (.seq (.region 17 F23.r17.toArray false) (.seq (.region 18 F23.r18.toArray false) (.seq (.region 19 F23.r19.toArray false) (.region 20 F23.r20.toArray false)))) (.seq (.region 9 F23.r9.toArray false) (.region 10 F23.r10.toArray false))))) Q e w := rfl
def F23.t6 : Cd := (.region 6 F23.r6.toArray false)
theorem F23.t6_eq {P : Program} {Q : Post} {e : FA} {w : World} {θ : Tag (F23.t6, Q, e, w)} : cwE P F23.t6 Q e w θ = cwE P (.region 6 F23.r6.toArray false) Q e w := rfl
def F23.t7 : Cd := (.seq (.block 1 (.seq (.region 7 F23.r7.toArray false) (.seq (.region 8 F23.r8.toArray false) (.block 2 (.seq (.seq (.region 11 F23.r11.toArray false) (.cond (.tmp 24) .skip (.region 12 F23.r12.toArray false))) F23.t13))))) F23.t6)
theorem F23.t7_eq {P : Program} {Q : Post} {e : FA} {w : World} {θ : Tag (F23.t7, Q, e, w)} : cwE P F23.t7 Q e w θ = cwE P (.seq (.block 1 (.seq (.region 7 F23.r7.toArray false) (.seq (.region 8 F23.r8.toArray false) (.block 2 (.seq (.seq (.region 11 F23.r11.toArray false) (.cond (.tmp 24) .skip (.region 12 F23.r12.toArray false))) F23.t13))))) F23.t6) Q e w := rfl
def F23.t23 : Cd := (.seq (.region 23 F23.r23.toArray false) .ret)
theorem F23.t23_eq {P : Program} {Q : Post} {e : FA} {w : World} {θ : Tag (F23.t23, Q, e, w)} : cwE P F23.t23 Q e w θ = cwE P (.seq (.region 23 F23.r23.toArray false) .ret) Q e w := rfl
def F23.t21 : Cd := (.seq (.seq (.region 21 F23.r21.toArray false) (.cond (.tmp 47) (.region 22 F23.r22.toArray false) .skip)) F23.t23)
theorem F23.t21_eq {P : Program} {Q : Post} {e : FA} {w : World} {θ : Tag (F23.t21, Q, e, w)} : cwE P F23.t21 Q e w θ = cwE P (.seq (.seq (.region 21 F23.r21.toArray false) (.cond (.tmp 47) (.region 22 F23.r22.toArray false) .skip)) F23.t23) Q e w := rfl
def F23.code : Cd := (.seq (.region 0 F23.r0.toArray false) (.seq (.region 1 F23.r1.toArray false) (.seq (.region 2 F23.r2.toArray false) (.seq (.region 3 F23.r3.toArray false) (.seq (.seq (.region 4 F23.r4.toArray false) (.block 0 (.loop (.seq (.seq (.region 5 F23.r5.toArray false) (.cond (.tmp 13) .skip (.exit 0))) F23.t7)))) F23.t21)))))
theorem F23.calls {args : Array Value} {w : World} {R : Ending → World → Prop} (hn : args.size ≤ 54) (h : cwE Tryd.prog F23.code (fnP Tryd.prog #[(.cell 2 24), (.cell 3 27)] R) (entry args) w) : Calls Tryd.prog 23 args w R :=
  calls_of_cwE (types := Tryd.prog.types) follows Tryd.func23 F23.code rfl (by kernel_rfl) hn h

def F24.r0 : List Oper := [
  ⟨(some 4), (.assign (.const (.bool false))), 4, "", #[], none⟩]
def F24.r1 : List Oper := [
  ⟨(some 6), (.move (.tmp 0)), 24, "", #[], none⟩,
  ⟨(some 7), (.call ⟨(.builtin .len), #[(.tmp 6)], #[24]⟩), 3, "", #[], none⟩,
  ⟨(some 8), (.move (.tmp 1)), 24, "", #[], none⟩,
  ⟨(some 9), (.call ⟨(.builtin .len), #[(.tmp 8)], #[24]⟩), 3, "", #[], none⟩,
  ⟨(some 10), (.binOp .neq 3 (.tmp 7) (.tmp 9) 3), 4, "", #[], none⟩]
def F24.r2 : List Oper := [
  ⟨(some 4), (.assign (.const (.bool false))), 4, "", #[], none⟩]
def F24.r3 : List Oper := [
  ⟨(some 5), (.assign (.const (.int .i64 0))), 3, "", #[], none⟩]
def F24.r4 : List Oper := [
  ⟨(some 11), (.move (.tmp 5)), 3, "", #[], none⟩,
  ⟨(some 12), (.move (.tmp 0)), 24, "", #[], none⟩,
  ⟨(some 13), (.call ⟨(.builtin .len), #[(.tmp 12)], #[24]⟩), 3, "", #[], none⟩,
  ⟨(some 14), (.binOp .lss 3 (.tmp 11) (.tmp 13) 3), 4, "", #[], none⟩]
def F24.r6 : List Oper := [
  ⟨(some 17), (.move (.tmp 0)), 24, "", #[], none⟩,
  ⟨(some 18), (.move (.tmp 5)), 3, "", #[], none⟩,
  ⟨(some 19), (.indexAddr 24 (.tmp 17) (.tmp 18)), 0, "", #[], none⟩,
  ⟨(some 21), (.move (.tmp 1)), 24, "", #[], none⟩,
  ⟨(some 22), (.move (.tmp 5)), 3, "", #[], none⟩,
  ⟨(some 23), (.indexAddr 24 (.tmp 21) (.tmp 22)), 0, "", #[], none⟩,
  ⟨(some 20), (.load 9 (.tmp 19)), 9, "", #[⟨0, .data⟩], none⟩,
  ⟨(some 24), (.load 9 (.tmp 23)), 9, "", #[⟨0, .data⟩], none⟩,
  ⟨(some 25), (.binOp .neq 9 (.tmp 20) (.tmp 24) 9), 4, "", #[], none⟩]
def F24.r7 : List Oper := [
  ⟨(some 4), (.assign (.const (.bool false))), 4, "", #[], none⟩]
def F24.r5 : List Oper := [
  ⟨(some 15), (.move (.tmp 5)), 3, "", #[], none⟩,
  ⟨(some 16), (.binOp .add 3 (.tmp 15) (.const (.int .i64 1)) 3), 3, "", #[], none⟩,
  ⟨(some 5), (.assign (.tmp 16)), 3, "", #[], none⟩]
def F24.r8 : List Oper := [
  ⟨(some 4), (.assign (.const (.bool true))), 4, "", #[], none⟩]
def F24.t5 : Cd := (.region 5 F24.r5.toArray false)
theorem F24.t5_eq {P : Program} {Q : Post} {e : FA} {w : World} {θ : Tag (F24.t5, Q, e, w)} : cwE P F24.t5 Q e w θ = cwE P (.region 5 F24.r5.toArray false) Q e w := rfl
def F24.t6 : Cd := (.seq (.block 1 (.seq (.region 6 F24.r6.toArray true) (.cond (.tmp 25) (.seq (.region 7 F24.r7.toArray false) .ret) .skip))) F24.t5)
theorem F24.t6_eq {P : Program} {Q : Post} {e : FA} {w : World} {θ : Tag (F24.t6, Q, e, w)} : cwE P F24.t6 Q e w θ = cwE P (.seq (.block 1 (.seq (.region 6 F24.r6.toArray true) (.cond (.tmp 25) (.seq (.region 7 F24.r7.toArray false) .ret) .skip))) F24.t5) Q e w := rfl
def F24.t8 : Cd := (.seq (.region 8 F24.r8.toArray false) .ret)
theorem F24.t8_eq {P : Program} {Q : Post} {e : FA} {w : World} {θ : Tag (F24.t8, Q, e, w)} : cwE P F24.t8 Q e w θ = cwE P (.seq (.region 8 F24.r8.toArray false) .ret) Q e w := rfl
def F24.t3 : Cd := (.seq (.seq (.region 3 F24.r3.toArray false) (.block 0 (.loop (.seq (.seq (.region 4 F24.r4.toArray false) (.cond (.tmp 14) .skip (.exit 0))) F24.t6)))) F24.t8)
theorem F24.t3_eq {P : Program} {Q : Post} {e : FA} {w : World} {θ : Tag (F24.t3, Q, e, w)} : cwE P F24.t3 Q e w θ = cwE P (.seq (.seq (.region 3 F24.r3.toArray false) (.block 0 (.loop (.seq (.seq (.region 4 F24.r4.toArray false) (.cond (.tmp 14) .skip (.exit 0))) F24.t6)))) F24.t8) Q e w := rfl
def F24.code : Cd := (.seq (.region 0 F24.r0.toArray false) (.seq (.seq (.region 1 F24.r1.toArray false) (.cond (.tmp 10) (.seq (.region 2 F24.r2.toArray false) .ret) .skip)) F24.t3))
theorem F24.calls {args : Array Value} {w : World} {R : Ending → World → Prop} (hn : args.size ≤ 26) (h : cwE Tryd.prog F24.code (fnP Tryd.prog #[(.tmp 4)] R) (entry args) w) : Calls Tryd.prog 24 args w R :=
  calls_of_cwE (types := Tryd.prog.types) follows Tryd.func24 F24.code rfl (by kernel_rfl) hn h

def F25.r0 : List Oper := [
  ⟨(some 4), (.assign (.const (.bool false))), 4, "", #[], none⟩]
def F25.r1 : List Oper := [
  ⟨(some 5), (.move (.tmp 0)), 9, "", #[], none⟩,
  ⟨(some 6), (.move (.tmp 1)), 9, "", #[], none⟩,
  ⟨(some 7), (.call ⟨(.value (.func 43)), #[(.tmp 5), (.tmp 6)], #[9, 9]⟩), 4, "", #[⟨0, .chain⟩], none⟩,
  ⟨(some 4), (.assign (.tmp 7)), 4, "", #[], none⟩]
def F25.code : Cd := (.seq (.region 0 F25.r0.toArray false) (.seq (.region 1 F25.r1.toArray false) .ret))
theorem F25.calls {args : Array Value} {w : World} {R : Ending → World → Prop} (hn : args.size ≤ 8) (h : cwE Tryd.prog F25.code (fnP Tryd.prog #[(.tmp 4)] R) (entry args) w) : Calls Tryd.prog 25 args w R :=
  calls_of_cwE (types := Tryd.prog.types) follows Tryd.func25 F25.code rfl (by kernel_rfl) hn h

def F26.r0 : List Oper := [
  ⟨(some 4), (.assign (.const (.slice none 0 0))), 24, "", #[], none⟩]
def F26.r1 : List Oper := [
  ⟨(some 5), (.move (.tmp 0)), 9, "", #[], none⟩,
  ⟨(some 6), (.move (.tmp 1)), 9, "", #[], none⟩,
  ⟨(some 7), (.call ⟨(.value (.func 44)), #[(.tmp 5), (.tmp 6), (.const (.int .i64 0)), (.const (.int .i64 (-1)))], #[9, 9, 3, 3]⟩), 24, "", #[⟨0, .chain⟩], none⟩,
  ⟨(some 4), (.assign (.tmp 7)), 24, "", #[], none⟩]
def F26.code : Cd := (.seq (.region 0 F26.r0.toArray false) (.seq (.region 1 F26.r1.toArray false) .ret))
theorem F26.calls {args : Array Value} {w : World} {R : Ending → World → Prop} (hn : args.size ≤ 8) (h : cwE Tryd.prog F26.code (fnP Tryd.prog #[(.tmp 4)] R) (entry args) w) : Calls Tryd.prog 26 args w R :=
  calls_of_cwE (types := Tryd.prog.types) follows Tryd.func26 F26.code rfl (by kernel_rfl) hn h

def F27.r0 : List Oper := [
  ⟨(some 2), (.assign (.const (.int .i64 0))), 27, "", #[], none⟩]
def F27.r1 : List Oper := [
  ⟨(some 4), (.move (.tmp 0)), 9, "", #[], none⟩,
  ⟨(some 5), (.binOp .eql 9 (.tmp 4) (.const (.string { data := #[] })) 9), 4, "", #[], none⟩,
  ⟨(some 3), (.assign (.tmp 5)), 4, "", #[], none⟩]
def F27.r2 : List Oper := [
  ⟨(some 6), (.move (.tmp 0)), 9, "", #[], none⟩,
  ⟨(some 7), (.binOp .eql 9 (.tmp 6) (.const (.string { data := #[46] })) 9), 4, "", #[], none⟩,
  ⟨(some 3), (.assign (.tmp 7)), 4, "", #[], none⟩]
def F27.r3 : List Oper := [
  ⟨(some 8), (.move (.tmp 0)), 9, "", #[], none⟩,
  ⟨(some 9), (.binOp .eql 9 (.tmp 8) (.const (.string { data := #[46, 46] })) 9), 4, "", #[], none⟩,
  ⟨(some 3), (.assign (.tmp 9)), 4, "", #[], none⟩]
def F27.r4 : List Oper := [
  ⟨(some 2), (.assign (.const (.int .i64 50))), 27, "", #[], none⟩]
def F27.r5 : List Oper := [
  ⟨(some 11), (.move (.tmp 0)), 9, "", #[], none⟩,
  ⟨(some 12), (.call ⟨(.builtin .len), #[(.tmp 11)], #[9]⟩), 3, "", #[], none⟩,
  ⟨(some 13), (.binOp .gtr 3 (.tmp 12) (.const (.int .i64 255)) 3), 4, "", #[], none⟩,
  ⟨(some 10), (.assign (.tmp 13)), 4, "", #[], none⟩]
def F27.r6 : List Oper := [
  ⟨(some 14), (.move (.tmp 0)), 9, "", #[], none⟩,
  ⟨(some 15), (.call ⟨(.value (.func 45)), #[(.tmp 14), (.const (.string { data := #[47] }))], #[9, 9]⟩), 4, "", #[⟨0, .chain⟩], none⟩,
  ⟨(some 10), (.assign (.tmp 15)), 4, "", #[], none⟩]
def F27.r7 : List Oper := [
  ⟨(some 16), (.move (.tmp 0)), 9, "", #[], none⟩,
  ⟨(some 17), (.call ⟨(.value (.func 30)), #[(.tmp 16)], #[9]⟩), 4, "", #[⟨0, .chain⟩], none⟩,
  ⟨(some 18), (.unOp .not 4 (.tmp 17)), 4, "", #[], none⟩,
  ⟨(some 10), (.assign (.tmp 18)), 4, "", #[], none⟩]
def F27.r8 : List Oper := [
  ⟨(some 2), (.assign (.const (.int .i64 50))), 27, "", #[], none⟩]
def F27.r9 : List Oper := [
  ⟨(some 2), (.assign (.const (.int .i64 0))), 27, "", #[], none⟩]
def F27.t8 : Cd := (.cond (.tmp 10) (.seq (.region 8 F27.r8.toArray false) .ret) .skip)
theorem F27.t8_eq {P : Program} {Q : Post} {e : FA} {w : World} {θ : Tag (F27.t8, Q, e, w)} : cwE P F27.t8 Q e w θ = cwE P (.cond (.tmp 10) (.seq (.region 8 F27.r8.toArray false) .ret) .skip) Q e w := rfl
def F27.t4 : Cd := (.cond (.tmp 3) (.seq (.region 4 F27.r4.toArray false) .ret) (.seq (.seq (.region 5 F27.r5.toArray false) (.cond (.tmp 10) .skip (.seq (.region 6 F27.r6.toArray false) (.cond (.tmp 10) .skip (.region 7 F27.r7.toArray false))))) F27.t8))
theorem F27.t4_eq {P : Program} {Q : Post} {e : FA} {w : World} {θ : Tag (F27.t4, Q, e, w)} : cwE P F27.t4 Q e w θ = cwE P (.cond (.tmp 3) (.seq (.region 4 F27.r4.toArray false) .ret) (.seq (.seq (.region 5 F27.r5.toArray false) (.cond (.tmp 10) .skip (.seq (.region 6 F27.r6.toArray false) (.cond (.tmp 10) .skip (.region 7 F27.r7.toArray false))))) F27.t8)) Q e w := rfl
def F27.t9 : Cd := (.seq (.region 9 F27.r9.toArray false) .ret)
theorem F27.t9_eq {P : Program} {Q : Post} {e : FA} {w : World} {θ : Tag (F27.t9, Q, e, w)} : cwE P F27.t9 Q e w θ = cwE P (.seq (.region 9 F27.r9.toArray false) .ret) Q e w := rfl
def F27.code : Cd := (.seq (.region 0 F27.r0.toArray false) (.seq (.block 0 (.seq (.seq (.region 1 F27.r1.toArray false) (.cond (.tmp 3) .skip (.seq (.region 2 F27.r2.toArray false) (.cond (.tmp 3) .skip (.region 3 F27.r3.toArray false))))) F27.t4)) F27.t9))
theorem F27.calls {args : Array Value} {w : World} {R : Ending → World → Prop} (hn : args.size ≤ 19) (h : cwE Tryd.prog F27.code (fnP Tryd.prog #[(.tmp 2)] R) (entry args) w) : Calls Tryd.prog 27 args w R :=
  calls_of_cwE (types := Tryd.prog.types) follows Tryd.func27 F27.code rfl (by kernel_rfl) hn h

def F28.r0 : List Oper := [
  ⟨(some 8), (.assign (.const (.int .i64 0))), 3, "", #[], none⟩,
  ⟨(some 9), (.assign (.const (.bool false))), 4, "", #[], none⟩]
def F28.r1 : List Oper := [
  ⟨(some 10), (.assign (.const (.int .i64 1))), 3, "", #[], none⟩]
def F28.r2 : List Oper := [
  ⟨(some 11), (.move (.tmp 10)), 3, "", #[], none⟩,
  ⟨(some 12), (.move (.tmp 0)), 23, "", #[], none⟩,
  ⟨(some 13), (.call ⟨(.builtin .len), #[(.tmp 12)], #[23]⟩), 3, "", #[], none⟩,
  ⟨(some 14), (.binOp .lss 3 (.tmp 11) (.tmp 13) 3), 4, "", #[], none⟩]
def F28.r4 : List Oper := [
  ⟨(some 17), (.move (.tmp 0)), 23, "", #[], none⟩,
  ⟨(some 18), (.move (.tmp 10)), 3, "", #[], none⟩,
  ⟨(some 19), (.indexAddr 23 (.tmp 17) (.tmp 18)), 0, "", #[], none⟩,
  ⟨(some 20), (.load 3 (.tmp 19)), 3, "", #[⟨0, .data⟩], none⟩,
  ⟨(some 21), (.move (.tmp 2)), 3, "", #[], none⟩,
  ⟨(some 22), (.binOp .eql 3 (.tmp 20) (.tmp 21) 3), 4, "", #[], none⟩,
  ⟨(some 23), (.move (.tmp 22)), 4, "", #[], none⟩,
  ⟨(some 24), (.move (.tmp 1)), 24, "", #[], (some (23, true))⟩,
  ⟨(some 25), (.move (.tmp 10)), 3, "", #[], (some (23, true))⟩,
  ⟨(some 26), (.indexAddr 24 (.tmp 24) (.tmp 25)), 0, "", #[], (some (23, true))⟩,
  ⟨(some 27), (.load 9 (.tmp 26)), 9, "", #[⟨0, .data⟩], (some (23, true))⟩,
  ⟨(some 28), (.move (.tmp 3)), 9, "", #[], (some (23, true))⟩,
  ⟨(some 29), (.binOp .eql 9 (.tmp 27) (.tmp 28) 9), 4, "", #[], (some (23, true))⟩,
  ⟨(some 30), (.pick (.tmp 23) (.tmp 29) (.const (.bool false))), 4, "", #[], none⟩]
def F28.r5 : List Oper := [
  ⟨(some 31), (.move (.tmp 10)), 3, "", #[], none⟩,
  ⟨(some 8), (.assign (.tmp 31)), 3, "", #[], none⟩,
  ⟨(some 9), (.assign (.const (.bool true))), 4, "", #[], none⟩]
def F28.r3 : List Oper := [
  ⟨(some 15), (.move (.tmp 10)), 3, "", #[], none⟩,
  ⟨(some 16), (.binOp .add 3 (.tmp 15) (.const (.int .i64 1)) 3), 3, "", #[], none⟩,
  ⟨(some 10), (.assign (.tmp 16)), 3, "", #[], none⟩]
def F28.r6 : List Oper := [
  ⟨(some 8), (.assign (.const (.int .i64 0))), 3, "", #[], none⟩,
  ⟨(some 9), (.assign (.const (.bool false))), 4, "", #[], none⟩]
def F28.t3 : Cd := (.region 3 F28.r3.toArray false)
theorem F28.t3_eq {P : Program} {Q : Post} {e : FA} {w : World} {θ : Tag (F28.t3, Q, e, w)} : cwE P F28.t3 Q e w θ = cwE P (.region 3 F28.r3.toArray false) Q e w := rfl
def F28.t4 : Cd := (.seq (.block 1 (.seq (.region 4 F28.r4.toArray false) (.cond (.tmp 30) (.seq (.region 5 F28.r5.toArray false) .ret) .skip))) F28.t3)
theorem F28.t4_eq {P : Program} {Q : Post} {e : FA} {w : World} {θ : Tag (F28.t4, Q, e, w)} : cwE P F28.t4 Q e w θ = cwE P (.seq (.block 1 (.seq (.region 4 F28.r4.toArray false) (.cond (.tmp 30) (.seq (.region 5 F28.r5.toArray false) .ret) .skip))) F28.t3) Q e w := rfl
def F28.t6 : Cd := (.seq (.region 6 F28.r6.toArray false) .ret)
theorem F28.t6_eq {P : Program} {Q : Post} {e : FA} {w : World} {θ : Tag (F28.t6, Q, e, w)} : cwE P F28.t6 Q e w θ = cwE P (.seq (.region 6 F28.r6.toArray false) .ret) Q e w := rfl
def F28.code : Cd := (.seq (.region 0 F28.r0.toArray false) (.seq (.seq (.region 1 F28.r1.toArray false) (.block 0 (.loop (.seq (.seq (.region 2 F28.r2.toArray false) (.cond (.tmp 14) .skip (.exit 0))) F28.t4)))) F28.t6))
theorem F28.calls {args : Array Value} {w : World} {R : Ending → World → Prop} (hn : args.size ≤ 32) (h : cwE Tryd.prog F28.code (fnP Tryd.prog #[(.tmp 8), (.tmp 9)] R) (entry args) w) : Calls Tryd.prog 28 args w R :=
  calls_of_cwE (types := Tryd.prog.types) follows Tryd.func28 F28.code rfl (by kernel_rfl) hn h

def F29.r0 : List Oper := [
  ⟨(some 2), (.alloc 56), 0, "", #[⟨0, .chain⟩], none⟩,
  ⟨(some 3), (.alloc 4), 0, "", #[⟨0, .chain⟩], none⟩]
def F29.r1 : List Oper := [
  ⟨(some 8), (.makeFunc (.func 46) #[] #[(.tmp 2), (.tmp 3)]), 1, "", #[], none⟩,
  ⟨none, (.defer ⟨(.value (.tmp 8)), #[], #[]⟩), 0, "", #[⟨0, .chain⟩], none⟩]
def F29.r2 : List Oper := [
  ⟨(some 9), (.move (.tmp 0)), 9, "", #[], none⟩,
  ⟨(some 10), (.call ⟨(.builtin .len), #[(.tmp 9)], #[9]⟩), 3, "", #[], none⟩,
  ⟨(some 11), (.binOp .gtr 3 (.tmp 10) (.const (.int .i64 255)) 3), 4, "", #[], none⟩,
  ⟨(some 12), (.move (.tmp 11)), 4, "", #[], none⟩,
  ⟨(some 13), (.move (.tmp 0)), 9, "", #[], (some (12, false))⟩,
  ⟨(some 14), (.call ⟨(.value (.func 30)), #[(.tmp 13)], #[9]⟩), 4, "", #[⟨0, .chain⟩], (some (12, false))⟩,
  ⟨(some 15), (.unOp .not 4 (.tmp 14)), 4, "", #[], (some (12, false))⟩,
  ⟨(some 16), (.pick (.tmp 12) (.const (.bool true)) (.tmp 15)), 4, "", #[], none⟩]
def F29.r3 : List Oper := [
  ⟨none, (.store 56 (.tmp 2) (.const (.slice none 0 0))), 0, "", #[⟨0, .chain⟩], none⟩,
  ⟨none, (.store 4 (.tmp 3) (.const (.bool false))), 0, "", #[⟨0, .chain⟩], none⟩]
def F29.r4 : List Oper := [
  ⟨(some 17), (.build 90 #[]), 90, "", #[], none⟩,
  ⟨(some 18), (.box 90 (.tmp 17)), 87, "", #[⟨0, .chain⟩], none⟩,
  ⟨(some 4), (.assign (.tmp 18)), 87, "", #[], none⟩]
def F29.r5 : List Oper := [
  ⟨(some 19), (.move (.tmp 0)), 9, "", #[], none⟩,
  ⟨(some 20), (.range 9 (.tmp 19)), 0, "", #[⟨0, .chain⟩], none⟩]
def F29.r6 : List Oper := [
  ⟨(some 21), (.next (.tmp 20) true), 0, "", #[⟨0, .chain⟩], none⟩,
  ⟨(some 22), (.extract (.tmp 21) 0), 4, "", #[], none⟩]
def F29.r7 : List Oper := [
  ⟨(some 23), (.extract (.tmp 21) 2), 21, "", #[], none⟩,
  ⟨(some 6), (.assign (.tmp 23)), 21, "", #[], none⟩]
def F29.r8 : List Oper := [
  ⟨(some 24), (.move (.tmp 4)), 87, "", #[], none⟩,
  ⟨(some 25), (.move (.tmp 4)), 87, "", #[], none⟩,
  ⟨(some 26), (.nilCheck (.tmp 25)), 0, "", #[], none⟩,
  ⟨(some 27), (.fieldAddr 90 (.tmp 26) 0), 0, "", #[], none⟩,
  ⟨(some 28), (.load 88 (.tmp 27)), 88, "", #[⟨0, .data⟩], none⟩,
  ⟨(some 29), (.move (.tmp 6)), 21, "", #[], none⟩,
  ⟨(some 30), (.buildSlice 88 1 #[(0, (.tmp 29))]), 88, "", #[⟨0, .chain⟩], none⟩,
  ⟨(some 31), (.call ⟨(.builtin .append), #[(.tmp 28), (.tmp 30)], #[88, 88]⟩), 88, "", #[⟨0, .chain⟩], none⟩,
  ⟨(some 32), (.nilCheck (.tmp 24)), 0, "", #[], none⟩,
  ⟨(some 33), (.fieldAddr 90 (.tmp 32) 0), 0, "", #[], none⟩,
  ⟨none, (.store 88 (.tmp 33) (.tmp 31)), 0, "", #[⟨0, .chain⟩], none⟩]
def F29.r9 : List Oper := [
  ⟨(some 34), (.move (.tmp 4)), 87, "", #[], none⟩,
  ⟨(some 35), (.call ⟨(.value (.func 47)), #[(.tmp 34)], #[87]⟩), 4, "", #[⟨0, .chain⟩], none⟩]
def F29.r10 : List Oper := [
  ⟨(some 36), (.move (.tmp 4)), 87, "", #[], none⟩,
  ⟨(some 37), (.call ⟨(.value (.func 48)), #[(.tmp 36)], #[87]⟩), 21, "", #[⟨0, .chain⟩], none⟩,
  ⟨(some 7), (.assign (.tmp 37)), 21, "", #[], none⟩]
def F29.r11 : List Oper := [
  ⟨(some 38), (.move (.tmp 7)), 21, "", #[], none⟩]
def F29.r12 : List Oper := [
  ⟨(some 40), (.binOp .eql 21 (.tmp 38) (.const (.int .i32 42)) 21), 4, "", #[], none⟩,
  ⟨(some 39), (.assign (.tmp 40)), 4, "", #[], none⟩]
def F29.r13 : List Oper := [
  ⟨(some 42), (.binOp .eql 21 (.tmp 38) (.const (.int .i32 63)) 21), 4, "", #[], none⟩,
  ⟨(some 41), (.assign (.tmp 42)), 4, "", #[], none⟩]
def F29.r14 : List Oper := [
  ⟨(some 44), (.binOp .eql 21 (.tmp 38) (.const (.int .i32 91)) 21), 4, "", #[], none⟩,
  ⟨(some 43), (.assign (.tmp 44)), 4, "", #[], none⟩]
def F29.r15 : List Oper := [
  ⟨(some 46), (.binOp .eql 21 (.tmp 38) (.const (.int .i32 92)) 21), 4, "", #[], none⟩,
  ⟨(some 45), (.assign (.tmp 46)), 4, "", #[], none⟩]
def F29.r16 : List Oper := [
  ⟨(some 47), (.load 56 (.tmp 2)), 56, "", #[⟨0, .data⟩], none⟩,
  ⟨(some 48), (.build 62 #[(0, (.const (.bool true)))]), 62, "", #[], none⟩,
  ⟨(some 49), (.buildSlice 56 1 #[(0, (.tmp 48))]), 56, "", #[⟨0, .chain⟩], none⟩,
  ⟨(some 50), (.call ⟨(.builtin .append), #[(.tmp 47), (.tmp 49)], #[56, 56]⟩), 56, "", #[⟨0, .chain⟩], none⟩,
  ⟨none, (.store 56 (.tmp 2) (.tmp 50)), 0, "", #[⟨0, .chain⟩], none⟩]
def F29.r17 : List Oper := [
  ⟨(some 51), (.load 56 (.tmp 2)), 56, "", #[⟨0, .data⟩], none⟩,
  ⟨(some 52), (.build 62 #[(1, (.const (.bool true)))]), 62, "", #[], none⟩,
  ⟨(some 53), (.buildSlice 56 1 #[(0, (.tmp 52))]), 56, "", #[⟨0, .chain⟩], none⟩,
  ⟨(some 54), (.call ⟨(.builtin .append), #[(.tmp 51), (.tmp 53)], #[56, 56]⟩), 56, "", #[⟨0, .chain⟩], none⟩,
  ⟨none, (.store 56 (.tmp 2) (.tmp 54)), 0, "", #[⟨0, .chain⟩], none⟩]
def F29.r18 : List Oper := [
  ⟨(some 56), (.move (.tmp 4)), 87, "", #[], none⟩,
  ⟨(some 55), (.load 56 (.tmp 2)), 56, "", #[⟨48, .data⟩], none⟩,
  ⟨(some 57), (.call ⟨(.value (.func 49)), #[(.tmp 56)], #[87]⟩), 62, "", #[⟨2, .chain⟩], none⟩,
  ⟨(some 58), (.buildSlice 56 1 #[(0, (.tmp 57))]), 56, "", #[⟨3, .chain⟩], none⟩,
  ⟨(some 59), (.call ⟨(.builtin .append), #[(.tmp 55), (.tmp 58)], #[56, 56]⟩), 56, "", #[⟨4, .chain⟩], none⟩,
  ⟨none, (.store 56 (.tmp 2) (.tmp 59)), 0, "", #[⟨5, .chain⟩], none⟩]
def F29.r19 : List Oper := [
  ⟨(some 60), (.move (.tmp 4)), 87, "", #[], none⟩,
  ⟨(some 61), (.call ⟨(.value (.func 48)), #[(.tmp 60)], #[87]⟩), 21, "", #[⟨0, .chain⟩], none⟩,
  ⟨(some 7), (.assign (.tmp 61)), 21, "", #[], none⟩]
def F29.r20 : List Oper := [
  ⟨(some 62), (.load 56 (.tmp 2)), 56, "", #[⟨0, .data⟩], none⟩,
  ⟨(some 63), (.move (.tmp 7)), 21, "", #[], none⟩,
  ⟨(some 64), (.move (.tmp 7)), 21, "", #[], none⟩,
  ⟨(some 65), (.build 94 #[(0, (.tmp 63)), (1, (.tmp 64))]), 94, "", #[], none⟩,
  ⟨(some 66), (.buildSlice 60 1 #[(0, (.tmp 65))]), 60, "", #[⟨0, .chain⟩], none⟩,
  ⟨(some 67), (.build 62 #[(2, (.tmp 66))]), 62, "", #[], none⟩,
  ⟨(some 68), (.buildSlice 56 1 #[(0, (.tmp 67))]), 56, "", #[⟨0, .chain⟩], none⟩,
  ⟨(some 69), (.call ⟨(.builtin .append), #[(.tmp 62), (.tmp 68)], #[56, 56]⟩), 56, "", #[⟨0, .chain⟩], none⟩,
  ⟨none, (.store 56 (.tmp 2) (.tmp 69)), 0, "", #[⟨0, .chain⟩], none⟩]
def F29.r21 : List Oper := [
  ⟨(some 70), (.load 56 (.tmp 2)), 56, "", #[⟨0, .data⟩], none⟩,
  ⟨none, (.store 56 (.tmp 2) (.tmp 70)), 0, "", #[⟨0, .chain⟩], none⟩,
  ⟨none, (.store 4 (.tmp 3) (.const (.bool true))), 0, "", #[⟨0, .chain⟩], none⟩]
def F29.t7 : Cd := (.block 1 (.seq (.region 7 F29.r7.toArray false) (.region 8 F29.r8.toArray false)))
theorem F29.t7_eq {P : Program} {Q : Post} {e : FA} {w : World} {θ : Tag (F29.t7, Q, e, w)} : cwE P F29.t7 Q e w θ = cwE P (.block 1 (.seq (.region 7 F29.r7.toArray false) (.region 8 F29.r8.toArray false))) Q e w := rfl
def F29.t15 : Cd := (.seq (.region 15 F29.r15.toArray false) (.cond (.tmp 45) (.exit 8) .skip))
theorem F29.t15_eq {P : Program} {Q : Post} {e : FA} {w : World} {θ : Tag (F29.t15, Q, e, w)} : cwE P F29.t15 Q e w θ = cwE P (.seq (.region 15 F29.r15.toArray false) (.cond (.tmp 45) (.exit 8) .skip)) Q e w := rfl
def F29.t14 : Cd := (.seq (.seq (.region 14 F29.r14.toArray false) (.cond (.tmp 43) (.exit 7) .skip)) F29.t15)
theorem F29.t14_eq {P : Program} {Q : Post} {e : FA} {w : World} {θ : Tag (F29.t14, Q, e, w)} : cwE P F29.t14 Q e w θ = cwE P (.seq (.seq (.region 14 F29.r14.toArray false) (.cond (.tmp 43) (.exit 7) .skip)) F29.t15) Q e w := rfl
def F29.t13 : Cd := (.seq (.seq (.region 13 F29.r13.toArray false) (.cond (.tmp 41) (.exit 6) .skip)) F29.t14)
theorem F29.t13_eq {P : Program} {Q : Post} {e : FA} {w : World} {θ : Tag (F29.t13, Q, e, w)} : cwE P F29.t13 Q e w θ = cwE P (.seq (.seq (.region 13 F29.r13.toArray false) (.cond (.tmp 41) (.exit 6) .skip)) F29.t14) Q e w := rfl
def F29.t16 : Cd := (.seq (.region 16 F29.r16.toArray false) (.exit 4))
theorem F29.t16_eq {P : Program} {Q : Post} {e : FA} {w : World} {θ : Tag (F29.t16, Q, e, w)} : cwE P F29.t16 Q e w θ = cwE P (.seq (.region 16 F29.r16.toArray false) (.exit 4)) Q e w := rfl
def F29.t17 : Cd := (.seq (.region 17 F29.r17.toArray false) (.exit 4))
theorem F29.t17_eq {P : Program} {Q : Post} {e : FA} {w : World} {θ : Tag (F29.t17, Q, e, w)} : cwE P F29.t17 Q e w θ = cwE P (.seq (.region 17 F29.r17.toArray false) (.exit 4)) Q e w := rfl
def F29.t18 : Cd := (.seq (.region 18 F29.r18.toArray true) (.exit 4))
theorem F29.t18_eq {P : Program} {Q : Post} {e : FA} {w : World} {θ : Tag (F29.t18, Q, e, w)} : cwE P F29.t18 Q e w θ = cwE P (.seq (.region 18 F29.r18.toArray true) (.exit 4)) Q e w := rfl
def F29.t19 : Cd := (.region 19 F29.r19.toArray false)
theorem F29.t19_eq {P : Program} {Q : Post} {e : FA} {w : World} {θ : Tag (F29.t19, Q, e, w)} : cwE P F29.t19 Q e w θ = cwE P (.region 19 F29.r19.toArray false) Q e w := rfl
def F29.t20 : Cd := (.seq (.region 20 F29.r20.toArray false) (.exit 4))
theorem F29.t20_eq {P : Program} {Q : Post} {e : FA} {w : World} {θ : Tag (F29.t20, Q, e, w)} : cwE P F29.t20 Q e w θ = cwE P (.seq (.region 20 F29.r20.toArray false) (.exit 4)) Q e w := rfl
def F29.t10 : Cd := (.block 3 (.seq (.region 10 F29.r10.toArray false) (.seq (.region 11 F29.r11.toArray false) (.block 4 (.seq (.block 9 (.seq (.block 8 (.seq (.block 7 (.seq (.block 6 (.seq (.block 5 (.seq (.seq (.seq (.region 12 F29.r12.toArray false) (.cond (.tmp 39) (.exit 5) .skip)) F29.t13) (.exit 9))) F29.t16)) F29.t17)) F29.t18)) F29.t19)) F29.t20)))))
theorem F29.t10_eq {P : Program} {Q : Post} {e : FA} {w : World} {θ : Tag (F29.t10, Q, e, w)} : cwE P F29.t10 Q e w θ = cwE P (.block 3 (.seq (.region 10 F29.r10.toArray false) (.seq (.region 11 F29.r11.toArray false) (.block 4 (.seq (.block 9 (.seq (.block 8 (.seq (.block 7 (.seq (.block 6 (.seq (.block 5 (.seq (.seq (.seq (.region 12 F29.r12.toArray false) (.cond (.tmp 39) (.exit 5) .skip)) F29.t13) (.exit 9))) F29.t16)) F29.t17)) F29.t18)) F29.t19)) F29.t20))))) Q e w := rfl
def F29.t21 : Cd := (.seq (.region 21 F29.r21.toArray false) .ret)
theorem F29.t21_eq {P : Program} {Q : Post} {e : FA} {w : World} {θ : Tag (F29.t21, Q, e, w)} : cwE P F29.t21 Q e w θ = cwE P (.seq (.region 21 F29.r21.toArray false) .ret) Q e w := rfl
def F29.t9 : Cd := (.seq (.block 2 (.loop (.seq (.seq (.region 9 F29.r9.toArray false) (.cond (.tmp 35) .skip (.exit 2))) F29.t10))) F29.t21)
theorem F29.t9_eq {P : Program} {Q : Post} {e : FA} {w : World} {θ : Tag (F29.t9, Q, e, w)} : cwE P F29.t9 Q e w θ = cwE P (.seq (.block 2 (.loop (.seq (.seq (.region 9 F29.r9.toArray false) (.cond (.tmp 35) .skip (.exit 2))) F29.t10))) F29.t21) Q e w := rfl
def F29.t4 : Cd := (.seq (.region 4 F29.r4.toArray false) (.seq (.seq (.region 5 F29.r5.toArray false) (.block 0 (.loop (.seq (.region 6 F29.r6.toArray false) (.seq (.cond (.tmp 22) .skip (.exit 0)) F29.t7))))) F29.t9))
theorem F29.t4_eq {P : Program} {Q : Post} {e : FA} {w : World} {θ : Tag (F29.t4, Q, e, w)} : cwE P F29.t4 Q e w θ = cwE P (.seq (.region 4 F29.r4.toArray false) (.seq (.seq (.region 5 F29.r5.toArray false) (.block 0 (.loop (.seq (.region 6 F29.r6.toArray false) (.seq (.cond (.tmp 22) .skip (.exit 0)) F29.t7))))) F29.t9)) Q e w := rfl
def F29.code : Cd := (.seq (.region 0 F29.r0.toArray false) (.seq (.region 1 F29.r1.toArray false) (.seq (.seq (.region 2 F29.r2.toArray false) (.cond (.tmp 16) (.seq (.region 3 F29.r3.toArray false) .ret) .skip)) F29.t4)))
theorem F29.calls {args : Array Value} {w : World} {R : Ending → World → Prop} (hn : args.size ≤ 71) (h : cwE Tryd.prog F29.code (fnP Tryd.prog #[(.cell 2 56), (.cell 3 4)] R) (entry args) w) : Calls Tryd.prog 29 args w R :=
  calls_of_cwE (types := Tryd.prog.types) follows Tryd.func29 F29.code rfl (by kernel_rfl) hn h

def F30.r0 : List Oper := [
  ⟨(some 2), (.assign (.const (.bool false))), 4, "", #[], none⟩]
def F30.r1 : List Oper := [
  ⟨(some 3), (.move (.tmp 0)), 9, "", #[], none⟩,
  ⟨(some 4), (.call ⟨(.value (.func 50)), #[(.tmp 3)], #[9]⟩), 3, "", #[⟨0, .chain⟩], none⟩,
  ⟨(some 5), (.binOp .lss 3 (.tmp 4) (.const (.int .i64 0)) 3), 4, "", #[], none⟩,
  ⟨(some 2), (.assign (.tmp 5)), 4, "", #[], none⟩]
def F30.code : Cd := (.seq (.region 0 F30.r0.toArray false) (.seq (.region 1 F30.r1.toArray false) .ret))
theorem F30.calls {args : Array Value} {w : World} {R : Ending → World → Prop} (hn : args.size ≤ 6) (h : cwE Tryd.prog F30.code (fnP Tryd.prog #[(.tmp 2)] R) (entry args) w) : Calls Tryd.prog 30 args w R :=
  calls_of_cwE (types := Tryd.prog.types) follows Tryd.func30 F30.code rfl (by kernel_rfl) hn h

def F31.r0 : List Oper := [
  ⟨(some 4), (.load 59 (.tmp 1)), 59, "", #[⟨0, .data⟩], none⟩,
  ⟨(some 5), (.move (.tmp 0)), 3, "", #[], none⟩,
  ⟨(some 6), (.indexAddr 59 (.tmp 4) (.tmp 5)), 0, "", #[], none⟩,
  ⟨none, (.store 4 (.tmp 6) (.const (.bool true))), 0, "", #[⟨0, .chain⟩], none⟩]
def F31.r1 : List Oper := [
  ⟨(some 7), (.move (.tmp 0)), 3, "", #[], none⟩,
  ⟨(some 8), (.load 56 (.tmp 2)), 56, "", #[⟨0, .data⟩], none⟩,
  ⟨(some 9), (.call ⟨(.builtin .len), #[(.tmp 8)], #[56]⟩), 3, "", #[], none⟩,
  ⟨(some 10), (.binOp .lss 3 (.tmp 7) (.tmp 9) 3), 4, "", #[], none⟩,
  ⟨(some 11), (.move (.tmp 10)), 4, "", #[], none⟩,
  ⟨(some 12), (.load 56 (.tmp 2)), 56, "", #[⟨0, .data⟩], (some (11, true))⟩,
  ⟨(some 13), (.move (.tmp 0)), 3, "", #[], (some (11, true))⟩,
  ⟨(some 14), (.indexAddr 56 (.tmp 12) (.tmp 13)), 0, "", #[], (some (11, true))⟩,
  ⟨(some 15), (.fieldAddr 62 (.tmp 14) 0), 0, "", #[], (some (11, true))⟩,
  ⟨(some 16), (.load 4 (.tmp 15)), 4, "", #[⟨0, .data⟩], (some (11, true))⟩,
  ⟨(some 17), (.pick (.tmp 11) (.tmp 16) (.const (.bool false))), 4, "", #[], none⟩]
def F31.r3 : List Oper := [
  ⟨(some 20), (.load 59 (.tmp 1)), 59, "", #[⟨0, .data⟩], none⟩,
  ⟨(some 21), (.move (.tmp 0)), 3, "", #[], none⟩,
  ⟨(some 22), (.binOp .add 3 (.tmp 21) (.const (.int .i64 1)) 3), 3, "", #[], none⟩,
  ⟨(some 23), (.indexAddr 59 (.tmp 20) (.tmp 22)), 0, "", #[], none⟩,
  ⟨none, (.store 4 (.tmp 23) (.const (.bool true))), 0, "", #[⟨0, .chain⟩], none⟩]
def F31.r2 : List Oper := [
  ⟨(some 18), (.move (.tmp 0)), 3, "", #[], none⟩,
  ⟨(some 19), (.binOp .add 3 (.tmp 18) (.const (.int .i64 1)) 3), 3, "", #[], none⟩,
  ⟨(some 0), (.assign (.tmp 19)), 3, "", #[], none⟩]
def F31.t2 : Cd := (.region 2 F31.r2.toArray false)
theorem F31.t2_eq {P : Program} {Q : Post} {e : FA} {w : World} {θ : Tag (F31.t2, Q, e, w)} : cwE P F31.t2 Q e w θ = cwE P (.region 2 F31.r2.toArray false) Q e w := rfl
def F31.t3 : Cd := (.seq (.block 1 (.region 3 F31.r3.toArray false)) F31.t2)
theorem F31.t3_eq {P : Program} {Q : Post} {e : FA} {w : World} {θ : Tag (F31.t3, Q, e, w)} : cwE P F31.t3 Q e w θ = cwE P (.seq (.block 1 (.region 3 F31.r3.toArray false)) F31.t2) Q e w := rfl
def F31.code : Cd := (.seq (.region 0 F31.r0.toArray false) (.block 0 (.loop (.seq (.seq (.region 1 F31.r1.toArray false) (.cond (.tmp 17) .skip (.exit 0))) F31.t3))))
theorem F31.calls {args : Array Value} {w : World} {R : Ending → World → Prop} (hn : args.size ≤ 24) (h : cwE Tryd.prog F31.code (fnP Tryd.prog #[] R) (entry args) w) : Calls Tryd.prog 31 args w R :=
  calls_of_cwE (types := Tryd.prog.types) follows Tryd.func31 F31.code rfl (by kernel_rfl) hn h

def F32.r0 : List Oper := [
  ⟨(some 2), (.box 62 (.tmp 0)), 0, "", #[⟨0, .chain⟩], none⟩,
  ⟨(some 4), (.assign (.const (.bool false))), 4, "", #[], none⟩]
def F32.r1 : List Oper := [
  ⟨(some 7), (.fieldAddr 62 (.tmp 2) 2), 0, "", #[], none⟩,
  ⟨(some 8), (.load 60 (.tmp 7)), 60, "", #[⟨0, .data⟩], none⟩,
  ⟨(some 9), (.call ⟨(.builtin .len), #[(.tmp 8)], #[60]⟩), 3, "", #[], none⟩,
  ⟨(some 10), (.move (.const (.int .i64 0))), 3, "", #[], none⟩]
def F32.r2 : List Oper := [
  ⟨(some 11), (.binOp .lss 3 (.tmp 10) (.tmp 9) 3), 0, "", #[], none⟩]
def F32.r3 : List Oper := [
  ⟨(some 12), (.indexAddr 60 (.tmp 8) (.tmp 10)), 0, "", #[], none⟩,
  ⟨(some 13), (.load 94 (.tmp 12)), 94, "", #[⟨0, .data⟩], none⟩,
  ⟨(some 6), (.alloc 94), 0, "", #[⟨0, .chain⟩], none⟩,
  ⟨none, (.store 94 (.tmp 6) (.tmp 13)), 0, "", #[⟨0, .chain⟩], none⟩]
def F32.r4 : List Oper := [
  ⟨(some 14), (.move (.tmp 1)), 21, "", #[], none⟩,
  ⟨(some 15), (.fieldAddr 94 (.tmp 6) 0), 0, "", #[], none⟩,
  ⟨(some 16), (.load 21 (.tmp 15)), 21, "", #[⟨0, .data⟩], none⟩,
  ⟨(some 17), (.binOp .geq 21 (.tmp 14) (.tmp 16) 21), 4, "", #[], none⟩,
  ⟨(some 18), (.move (.tmp 17)), 4, "", #[], none⟩,
  ⟨(some 19), (.move (.tmp 1)), 21, "", #[], (some (18, true))⟩,
  ⟨(some 20), (.fieldAddr 94 (.tmp 6) 1), 0, "", #[], (some (18, true))⟩,
  ⟨(some 21), (.load 21 (.tmp 20)), 21, "", #[⟨0, .data⟩], (some (18, true))⟩,
  ⟨(some 22), (.binOp .leq 21 (.tmp 19) (.tmp 21) 21), 4, "", #[], (some (18, true))⟩,
  ⟨(some 23), (.pick (.tmp 18) (.tmp 22) (.const (.bool false))), 4, "", #[], none⟩]
def F32.r5 : List Oper := [
  ⟨(some 24), (.fieldAddr 62 (.tmp 2) 1), 0, "", #[], none⟩,
  ⟨(some 25), (.load 4 (.tmp 24)), 4, "", #[⟨0, .data⟩], none⟩,
  ⟨(some 26), (.unOp .not 4 (.tmp 25)), 4, "", #[], none⟩,
  ⟨(some 4), (.assign (.tmp 26)), 4, "", #[], none⟩]
def F32.r6 : List Oper := [
  ⟨(some 27), (.binOp .add 3 (.tmp 10) (.const (.int .i64 1)) 3), 3, "", #[], none⟩,
  ⟨(some 10), (.move (.tmp 27)), 3, "", #[], none⟩]
def F32.r7 : List Oper := [
  ⟨(some 28), (.fieldAddr 62 (.tmp 2) 1), 0, "", #[], none⟩,
  ⟨(some 29), (.load 4 (.tmp 28)), 4, "", #[⟨0, .data⟩], none⟩,
  ⟨(some 4), (.assign (.tmp 29)), 4, "", #[], none⟩]
def F32.t6 : Cd := (.region 6 F32.r6.toArray false)
theorem F32.t6_eq {P : Program} {Q : Post} {e : FA} {w : World} {θ : Tag (F32.t6, Q, e, w)} : cwE P F32.t6 Q e w θ = cwE P (.region 6 F32.r6.toArray false) Q e w := rfl
def F32.t3 : Cd := (.seq (.block 1 (.seq (.region 3 F32.r3.toArray false) (.seq (.region 4 F32.r4.toArray false) (.cond (.tmp 23) (.seq (.region 5 F32.r5.toArray false) .ret) .skip)))) F32.t6)
theorem F32.t3_eq {P : Program} {Q : Post} {e : FA} {w : World} {θ : Tag (F32.t3, Q, e, w)} : cwE P F32.t3 Q e w θ = cwE P (.seq (.block 1 (.seq (.region 3 F32.r3.toArray false) (.seq (.region 4 F32.r4.toArray false) (.cond (.tmp 23) (.seq (.region 5 F32.r5.toArray false) .ret) .skip)))) F32.t6) Q e w := rfl
def F32.t7 : Cd := (.seq (.region 7 F32.r7.toArray false) .ret)
theorem F32.t7_eq {P : Program} {Q : Post} {e : FA} {w : World} {θ : Tag (F32.t7, Q, e, w)} : cwE P F32.t7 Q e w θ = cwE P (.seq (.region 7 F32.r7.toArray false) .ret) Q e w := rfl
def F32.code : Cd := (.seq (.region 0 F32.r0.toArray false) (.seq (.seq (.region 1 F32.r1.toArray false) (.block 0 (.loop (.seq (.region 2 F32.r2.toArray false) (.seq (.cond (.tmp 11) .skip (.exit 0)) F32.t3))))) F32.t7))
theorem F32.calls {args : Array Value} {w : World} {R : Ending → World → Prop} (hn : args.size ≤ 30) (h : cwE Tryd.prog F32.code (fnP Tryd.prog #[(.tmp 4)] R) (entry args) w) : Calls Tryd.prog 32 args w R :=
  calls_of_cwE (types := Tryd.prog.types) follows Tryd.func32 F32.code rfl (by kernel_rfl) hn h

def F33.r0 : List Oper := [
  ⟨(some 2), (.assign (.const (.int .i64 0))), 3, "", #[], none⟩]
def F33.r1 : List Oper := [
  ⟨(some 3), (.assign (.const (.int .i64 0))), 3, "", #[], none⟩]
def F33.r2 : List Oper := [
  ⟨(some 5), (.move (.tmp 3)), 3, "", #[], none⟩,
  ⟨(some 6), (.move (.tmp 0)), 9, "", #[], none⟩,
  ⟨(some 7), (.call ⟨(.builtin .len), #[(.tmp 6)], #[9]⟩), 3, "", #[], none⟩,
  ⟨(some 8), (.binOp .lss 3 (.tmp 5) (.tmp 7) 3), 4, "", #[], none⟩]
def F33.r3 : List Oper := [
  ⟨(some 9), (.move (.tmp 0)), 9, "", #[], none⟩,
  ⟨(some 10), (.move (.tmp 3)), 3, "", #[], none⟩,
  ⟨(some 11), (.call ⟨(.value (.func 51)), #[(.tmp 9), (.tmp 10)], #[9, 3]⟩), 3, "", #[⟨0, .chain⟩], none⟩,
  ⟨(some 4), (.assign (.tmp 11)), 3, "", #[], none⟩]
def F33.r4 : List Oper := [
  ⟨(some 12), (.move (.tmp 4)), 3, "", #[], none⟩,
  ⟨(some 13), (.binOp .eql 3 (.tmp 12) (.const (.int .i64 0)) 3), 4, "", #[], none⟩,
  ⟨(some 14), (.move (.tmp 13)), 4, "", #[], none⟩,
  ⟨(some 15), (.move (.tmp 0)), 9, "", #[], (some (14, false))⟩,
  ⟨(some 16), (.move (.tmp 3)), 3, "", #[], (some (14, false))⟩,
  ⟨(some 17), (.index 9 (.tmp 15) (.tmp 16)), 5, "", #[], (some (14, false))⟩,
  ⟨(some 18), (.binOp .eql 5 (.tmp 17) (.const (.int .u8 0)) 5), 4, "", #[], (some (14, false))⟩,
  ⟨(some 19), (.pick (.tmp 14) (.const (.bool true)) (.tmp 18)), 4, "", #[], none⟩]
def F33.r5 : List Oper := [
  ⟨(some 20), (.move (.tmp 3)), 3, "", #[], none⟩,
  ⟨(some 2), (.assign (.tmp 20)), 3, "", #[], none⟩]
def F33.r6 : List Oper := [
  ⟨(some 21), (.move (.tmp 3)), 3, "", #[], none⟩,
  ⟨(some 22), (.move (.tmp 4)), 3, "", #[], none⟩,
  ⟨(some 23), (.binOp .add 3 (.tmp 21) (.tmp 22) 3), 3, "", #[], none⟩,
  ⟨(some 3), (.assign (.tmp 23)), 3, "", #[], none⟩]
def F33.r7 : List Oper := [
  ⟨(some 24), (.move (.tmp 0)), 9, "", #[], none⟩,
  ⟨(some 25), (.call ⟨(.builtin .len), #[(.tmp 24)], #[9]⟩), 3, "", #[], none⟩,
  ⟨(some 2), (.assign (.tmp 25)), 3, "", #[], none⟩]
def F33.t6 : Cd := (.region 6 F33.r6.toArray false)
theorem F33.t6_eq {P : Program} {Q : Post} {e : FA} {w : World} {θ : Tag (F33.t6, Q, e, w)} : cwE P F33.t6 Q e w θ = cwE P (.region 6 F33.r6.toArray false) Q e w := rfl
def F33.t3 : Cd := (.block 1 (.seq (.region 3 F33.r3.toArray false) (.seq (.seq (.region 4 F33.r4.toArray false) (.cond (.tmp 19) (.seq (.region 5 F33.r5.toArray false) .ret) .skip)) F33.t6)))
theorem F33.t3_eq {P : Program} {Q : Post} {e : FA} {w : World} {θ : Tag (F33.t3, Q, e, w)} : cwE P F33.t3 Q e w θ = cwE P (.block 1 (.seq (.region 3 F33.r3.toArray false) (.seq (.seq (.region 4 F33.r4.toArray false) (.cond (.tmp 19) (.seq (.region 5 F33.r5.toArray false) .ret) .skip)) F33.t6))) Q e w := rfl
def F33.t7 : Cd := (.seq (.region 7 F33.r7.toArray false) .ret)
theorem F33.t7_eq {P : Program} {Q : Post} {e : FA} {w : World} {θ : Tag (F33.t7, Q, e, w)} : cwE P F33.t7 Q e w θ = cwE P (.seq (.region 7 F33.r7.toArray false) .ret) Q e w := rfl
def F33.code : Cd := (.seq (.region 0 F33.r0.toArray false) (.seq (.region 1 F33.r1.toArray false) (.seq (.block 0 (.loop (.seq (.seq (.region 2 F33.r2.toArray false) (.cond (.tmp 8) .skip (.exit 0))) F33.t3))) F33.t7)))
theorem F33.calls {args : Array Value} {w : World} {R : Ending → World → Prop} (hn : args.size ≤ 26) (h : cwE Tryd.prog F33.code (fnP Tryd.prog #[(.tmp 2)] R) (entry args) w) : Calls Tryd.prog 33 args w R :=
  calls_of_cwE (types := Tryd.prog.types) follows Tryd.func33 F33.code rfl (by kernel_rfl) hn h

def F34.r0 : List Oper := [
  ⟨(some 4), (.assign (.const (.string { data := #[] }))), 9, "", #[], none⟩]
def F34.r1 : List Oper := [
  ⟨(some 11), (.move (.tmp 0)), 24, "", #[], none⟩,
  ⟨(some 12), (.call ⟨(.builtin .len), #[(.tmp 11)], #[24]⟩), 3, "", #[], none⟩]
def F34.r2 : List Oper := [
  ⟨(some 14), (.binOp .eql 3 (.tmp 12) (.const (.int .i64 0)) 3), 4, "", #[], none⟩,
  ⟨(some 13), (.assign (.tmp 14)), 4, "", #[], none⟩]
def F34.r3 : List Oper := [
  ⟨(some 4), (.assign (.const (.string { data := #[] }))), 9, "", #[], none⟩]
def F34.r4 : List Oper := [
  ⟨(some 16), (.binOp .eql 3 (.tmp 12) (.const (.int .i64 1)) 3), 4, "", #[], none⟩,
  ⟨(some 15), (.assign (.tmp 16)), 4, "", #[], none⟩]
def F34.r5 : List Oper := [
  ⟨(some 17), (.move (.tmp 0)), 24, "", #[], none⟩,
  ⟨(some 18), (.indexAddr 24 (.tmp 17) (.const (.int .i64 0))), 0, "", #[], none⟩,
  ⟨(some 19), (.load 9 (.tmp 18)), 9, "", #[⟨0, .data⟩], none⟩,
  ⟨(some 4), (.assign (.tmp 19)), 9, "", #[], none⟩]
def F34.r6 : List Oper := [
  ⟨(some 5), (.assign (.const (.int .i64 0))), 3, "", #[], none⟩]
def F34.r7 : List Oper := [
  ⟨(some 20), (.move (.tmp 1)), 9, "", #[], none⟩,
  ⟨(some 21), (.call ⟨(.builtin .len), #[(.tmp 20)], #[9]⟩), 3, "", #[], none⟩,
  ⟨(some 22), (.binOp .gtr 3 (.tmp 21) (.const (.int .i64 0)) 3), 4, "", #[], none⟩]
def F34.r8 : List Oper := [
  ⟨(some 23), (.move (.tmp 1)), 9, "", #[], none⟩,
  ⟨(some 24), (.call ⟨(.builtin .len), #[(.tmp 23)], #[9]⟩), 3, "", #[], none⟩,
  ⟨(some 25), (.move (.tmp 0)), 24, "", #[], none⟩,
  ⟨(some 26), (.call ⟨(.builtin .len), #[(.tmp 25)], #[24]⟩), 3, "", #[], none⟩,
  ⟨(some 27), (.binOp .sub 3 (.tmp 26) (.const (.int .i64 1)) 3), 3, "", #[], none⟩,
  ⟨(some 28), (.binOp .quo 3 (.const (.int .i64 9223372036854775807)) (.tmp 27) 3), 3, "", #[], none⟩,
  ⟨(some 29), (.binOp .geq 3 (.tmp 24) (.tmp 28) 3), 4, "", #[], none⟩]
def F34.r9 : List Oper := [
  ⟨(some 30), (.makeInterface 9 (.const (.string { data := #[115, 116, 114, 105, 110, 103, 115, 58, 32, 74, 111, 105, 110, 32, 111, 117, 116, 112, 117, 116, 32, 108, 101, 110, 103, 116, 104, 32, 111, 118, 101, 114, 102, 108, 111, 119] }))), 20, "", #[⟨0, .data⟩], none⟩,
  ⟨none, (.panic (.tmp 30)), 0, "", #[⟨0, .chain⟩], none⟩]
def F34.r10 : List Oper := [
  ⟨(some 31), (.move (.tmp 5)), 3, "", #[], none⟩,
  ⟨(some 32), (.move (.tmp 1)), 9, "", #[], none⟩,
  ⟨(some 33), (.call ⟨(.builtin .len), #[(.tmp 32)], #[9]⟩), 3, "", #[], none⟩,
  ⟨(some 34), (.move (.tmp 0)), 24, "", #[], none⟩,
  ⟨(some 35), (.call ⟨(.builtin .len), #[(.tmp 34)], #[24]⟩), 3, "", #[], none⟩,
  ⟨(some 36), (.binOp .sub 3 (.tmp 35) (.const (.int .i64 1)) 3), 3, "", #[], none⟩,
  ⟨(some 37), (.binOp .mul 3 (.tmp 33) (.tmp 36) 3), 3, "", #[], none⟩,
  ⟨(some 38), (.binOp .add 3 (.tmp 31) (.tmp 37) 3), 3, "", #[], none⟩,
  ⟨(some 5), (.assign (.tmp 38)), 3, "", #[], none⟩]
def F34.r11 : List Oper := [
  ⟨(some 39), (.move (.tmp 0)), 24, "", #[], none⟩,
  ⟨(some 40), (.call ⟨(.builtin .len), #[(.tmp 39)], #[24]⟩), 3, "", #[], none⟩,
  ⟨(some 41), (.move (.const (.int .i64 0))), 3, "", #[], none⟩]
def F34.r12 : List Oper := [
  ⟨(some 42), (.binOp .lss 3 (.tmp 41) (.tmp 40) 3), 0, "", #[], none⟩]
def F34.r13 : List Oper := [
  ⟨(some 43), (.indexAddr 24 (.tmp 39) (.tmp 41)), 0, "", #[], none⟩,
  ⟨(some 44), (.load 9 (.tmp 43)), 9, "", #[⟨0, .data⟩], none⟩,
  ⟨(some 7), (.assign (.tmp 44)), 9, "", #[], none⟩]
def F34.r14 : List Oper := [
  ⟨(some 45), (.move (.tmp 7)), 9, "", #[], none⟩,
  ⟨(some 46), (.call ⟨(.builtin .len), #[(.tmp 45)], #[9]⟩), 3, "", #[], none⟩,
  ⟨(some 47), (.move (.tmp 5)), 3, "", #[], none⟩,
  ⟨(some 48), (.binOp .sub 3 (.const (.int .i64 9223372036854775807)) (.tmp 47) 3), 3, "", #[], none⟩,
  ⟨(some 49), (.binOp .gtr 3 (.tmp 46) (.tmp 48) 3), 4, "", #[], none⟩]
def F34.r15 : List Oper := [
  ⟨(some 50), (.makeInterface 9 (.const (.string { data := #[115, 116, 114, 105, 110, 103, 115, 58, 32, 74, 111, 105, 110, 32, 111, 117, 116, 112, 117, 116, 32, 108, 101, 110, 103, 116, 104, 32, 111, 118, 101, 114, 102, 108, 111, 119] }))), 20, "", #[⟨0, .data⟩], none⟩,
  ⟨none, (.panic (.tmp 50)), 0, "", #[⟨0, .chain⟩], none⟩]
def F34.r16 : List Oper := [
  ⟨(some 51), (.move (.tmp 5)), 3, "", #[], none⟩,
  ⟨(some 52), (.move (.tmp 7)), 9, "", #[], none⟩,
  ⟨(some 53), (.call ⟨(.builtin .len), #[(.tmp 52)], #[9]⟩), 3, "", #[], none⟩,
  ⟨(some 54), (.binOp .add 3 (.tmp 51) (.tmp 53) 3), 3, "", #[], none⟩,
  ⟨(some 5), (.assign (.tmp 54)), 3, "", #[], none⟩]
def F34.r17 : List Oper := [
  ⟨(some 55), (.binOp .add 3 (.tmp 41) (.const (.int .i64 1)) 3), 3, "", #[], none⟩,
  ⟨(some 41), (.move (.tmp 55)), 3, "", #[], none⟩]
def F34.r18 : List Oper := [
  ⟨(some 8), (.alloc 72), 0, "", #[⟨0, .chain⟩], none⟩]
def F34.r19 : List Oper := [
  ⟨(some 56), (.move (.tmp 5)), 3, "", #[], none⟩,
  ⟨(some 57), (.call ⟨(.value (.func 52)), #[(.tmp 8), (.tmp 56)], #[72, 3]⟩), 0, "", #[⟨0, .chain⟩], none⟩]
def F34.r20 : List Oper := [
  ⟨(some 58), (.move (.tmp 0)), 24, "", #[], none⟩,
  ⟨(some 59), (.indexAddr 24 (.tmp 58) (.const (.int .i64 0))), 0, "", #[], none⟩,
  ⟨(some 60), (.load 9 (.tmp 59)), 9, "", #[⟨0, .data⟩], none⟩,
  ⟨(some 61), (.call ⟨(.value (.func 39)), #[(.tmp 8), (.tmp 60)], #[72, 9]⟩), 77, "", #[⟨0, .chain⟩], none⟩]
def F34.r21 : List Oper := [
  ⟨(some 62), (.move (.tmp 0)), 24, "", #[], none⟩,
  ⟨(some 63), (.slice 24 (.tmp 62) (some (.const (.int .i64 1))) none none), 24, "", #[], none⟩,
  ⟨(some 64), (.call ⟨(.builtin .len), #[(.tmp 63)], #[24]⟩), 3, "", #[], none⟩,
  ⟨(some 65), (.move (.const (.int .i64 0))), 3, "", #[], none⟩]
def F34.r22 : List Oper := [
  ⟨(some 66), (.binOp .lss 3 (.tmp 65) (.tmp 64) 3), 0, "", #[], none⟩]
def F34.r23 : List Oper := [
  ⟨(some 67), (.indexAddr 24 (.tmp 63) (.tmp 65)), 0, "", #[], none⟩,
  ⟨(some 68), (.load 9 (.tmp 67)), 9, "", #[⟨0, .data⟩], none⟩,
  ⟨(some 10), (.assign (.tmp 68)), 9, "", #[], none⟩]
def F34.r24 : List Oper := [
  ⟨(some 69), (.move (.tmp 1)), 9, "", #[], none⟩,
  ⟨(some 70), (.call ⟨(.value (.func 39)), #[(.tmp 8), (.tmp 69)], #[72, 9]⟩), 77, "", #[⟨0, .chain⟩], none⟩]
def F34.r25 : List Oper := [
  ⟨(some 71), (.move (.tmp 10)), 9, "", #[], none⟩,
  ⟨(some 72), (.call ⟨(.value (.func 39)), #[(.tmp 8), (.tmp 71)], #[72, 9]⟩), 77, "", #[⟨0, .chain⟩], none⟩]
def F34.r26 : List Oper := [
  ⟨(some 73), (.binOp .add 3 (.tmp 65) (.const (.int .i64 1)) 3), 3, "", #[], none⟩,
  ⟨(some 65), (.move (.tmp 73)), 3, "", #[], none⟩]
def F34.r27 : List Oper := [
  ⟨(some 74), (.call ⟨(.value (.func 40)), #[(.tmp 8)], #[72]⟩), 9, "", #[⟨0, .chain⟩], none⟩,
  ⟨(some 4), (.assign (.tmp 74)), 9, "", #[], none⟩]
def F34.t10 : Cd := (.region 10 F34.r10.toArray false)
theorem F34.t10_eq {P : Program} {Q : Post} {e : FA} {w : World} {θ : Tag (F34.t10, Q, e, w)} : cwE P F34.t10 Q e w θ = cwE P (.region 10 F34.r10.toArray false) Q e w := rfl
def F34.t16 : Cd := (.region 16 F34.r16.toArray false)
theorem F34.t16_eq {P : Program} {Q : Post} {e : FA} {w : World} {θ : Tag (F34.t16, Q, e, w)} : cwE P F34.t16 Q e w θ = cwE P (.region 16 F34.r16.toArray false) Q e w := rfl
def F34.t17 : Cd := (.region 17 F34.r17.toArray false)
theorem F34.t17_eq {P : Program} {Q : Post} {e : FA} {w : World} {θ : Tag (F34.t17, Q, e, w)} : cwE P F34.t17 Q e w θ = cwE P (.region 17 F34.r17.toArray false) Q e w := rfl
def F34.t13 : Cd := (.seq (.block 2 (.seq (.region 13 F34.r13.toArray false) (.seq (.seq (.region 14 F34.r14.toArray false) (.cond (.tmp 49) (.region 15 F34.r15.toArray false) .skip)) F34.t16))) F34.t17)
theorem F34.t13_eq {P : Program} {Q : Post} {e : FA} {w : World} {θ : Tag (F34.t13, Q, e, w)} : cwE P F34.t13 Q e w θ = cwE P (.seq (.block 2 (.seq (.region 13 F34.r13.toArray false) (.seq (.seq (.region 14 F34.r14.toArray false) (.cond (.tmp 49) (.region 15 F34.r15.toArray false) .skip)) F34.t16))) F34.t17) Q e w := rfl
def F34.t26 : Cd := (.region 26 F34.r26.toArray false)
theorem F34.t26_eq {P : Program} {Q : Post} {e : FA} {w : World} {θ : Tag (F34.t26, Q, e, w)} : cwE P F34.t26 Q e w θ = cwE P (.region 26 F34.r26.toArray false) Q e w := rfl
def F34.t23 : Cd := (.seq (.block 4 (.seq (.region 23 F34.r23.toArray false) (.seq (.region 24 F34.r24.toArray false) (.region 25 F34.r25.toArray false)))) F34.t26)
theorem F34.t23_eq {P : Program} {Q : Post} {e : FA} {w : World} {θ : Tag (F34.t23, Q, e, w)} : cwE P F34.t23 Q e w θ = cwE P (.seq (.block 4 (.seq (.region 23 F34.r23.toArray false) (.seq (.region 24 F34.r24.toArray false) (.region 25 F34.r25.toArray false)))) F34.t26) Q e w := rfl
def F34.t27 : Cd := (.seq (.region 27 F34.r27.toArray false) .ret)
theorem F34.t27_eq {P : Program} {Q : Post} {e : FA} {w : World} {θ : Tag (F34.t27, Q, e, w)} : cwE P F34.t27 Q e w θ = cwE P (.seq (.region 27 F34.r27.toArray false) .ret) Q e w := rfl
def F34.t18 : Cd := (.seq (.region 18 F34.r18.toArray false) (.seq (.region 19 F34.r19.toArray false) (.seq (.region 20 F34.r20.toArray false) (.seq (.seq (.region 21 F34.r21.toArray false) (.block 3 (.loop (.seq (.region 22 F34.r22.toArray false) (.seq (.cond (.tmp 66) .skip (.exit 3)) F34.t23))))) F34.t27))))
theorem F34.t18_eq {P : Program} {Q : Post} {e : FA} {w : World} {θ : Tag (F34.t18, Q, e, w)} : cwE P F34.t18 Q e w θ = cwE P (.seq (.region 18 F34.r18.toArray false) (.seq (.region 19 F34.r19.toArray false) (.seq (.region 20 F34.r20.toArray false) (.seq (.seq (.region 21 F34.r21.toArray false) (.block 3 (.loop (.seq (.region 22 F34.r22.toArray false) (.seq (.cond (.tmp 66) .skip (.exit 3)) F34.t23))))) F34.t27)))) Q e w := rfl
def F34.t11 : Cd := (.seq (.seq (.region 11 F34.r11.toArray false) (.block 1 (.loop (.seq (.region 12 F34.r12.toArray false) (.seq (.cond (.tmp 42) .skip (.exit 1)) F34.t13))))) F34.t18)
theorem F34.t11_eq {P : Program} {Q : Post} {e : FA} {w : World} {θ : Tag (F34.t11, Q, e, w)} : cwE P F34.t11 Q e w θ = cwE P (.seq (.seq (.region 11 F34.r11.toArray false) (.block 1 (.loop (.seq (.region 12 F34.r12.toArray false) (.seq (.cond (.tmp 42) .skip (.exit 1)) F34.t13))))) F34.t18) Q e w := rfl
def F34.t6 : Cd := (.seq (.region 6 F34.r6.toArray false) (.seq (.seq (.region 7 F34.r7.toArray false) (.cond (.tmp 22) (.seq (.seq (.region 8 F34.r8.toArray false) (.cond (.tmp 29) (.region 9 F34.r9.toArray false) .skip)) F34.t10) .skip)) F34.t11))
theorem F34.t6_eq {P : Program} {Q : Post} {e : FA} {w : World} {θ : Tag (F34.t6, Q, e, w)} : cwE P F34.t6 Q e w θ = cwE P (.seq (.region 6 F34.r6.toArray false) (.seq (.seq (.region 7 F34.r7.toArray false) (.cond (.tmp 22) (.seq (.seq (.region 8 F34.r8.toArray false) (.cond (.tmp 29) (.region 9 F34.r9.toArray false) .skip)) F34.t10) .skip)) F34.t11)) Q e w := rfl
def F34.code : Cd := (.seq (.region 0 F34.r0.toArray false) (.seq (.seq (.region 1 F34.r1.toArray false) (.block 0 (.seq (.region 2 F34.r2.toArray false) (.cond (.tmp 13) (.seq (.region 3 F34.r3.toArray false) .ret) (.seq (.region 4 F34.r4.toArray false) (.cond (.tmp 15) (.seq (.region 5 F34.r5.toArray false) .ret) .skip)))))) F34.t6))
theorem F34.calls {args : Array Value} {w : World} {R : Ending → World → Prop} (hn : args.size ≤ 75) (h : cwE Tryd.prog F34.code (fnP Tryd.prog #[(.tmp 4)] R) (entry args) w) : Calls Tryd.prog 34 args w R :=
  calls_of_cwE (types := Tryd.prog.types) follows Tryd.func34 F34.code rfl (by kernel_rfl) hn h

def F35.r0 : List Oper := [
  ⟨(some 2), (.alloc 26), 0, "", #[⟨0, .chain⟩], none⟩,
  ⟨(some 3), (.assign (.const (.bool false))), 4, "", #[], none⟩]
def F35.r1 : List Oper := [
  ⟨(some 9), (.move (.tmp 0)), 9, "", #[], none⟩,
  ⟨(some 10), (.call ⟨(.value (.func 12)), #[(.tmp 9)], #[9]⟩), 30, "", #[⟨0, .chain⟩], none⟩,
  ⟨(some 8), (.move (.tmp 10)), 30, "", #[], none⟩,
  ⟨(some 11), (.extract (.tmp 8) 0), 9, "", #[], none⟩,
  ⟨(some 12), (.extract (.tmp 8) 1), 27, "", #[], none⟩,
  ⟨(some 4), (.assign (.tmp 11)), 9, "", #[], none⟩,
  ⟨(some 5), (.assign (.tmp 12)), 27, "", #[], none⟩]
def F35.r2 : List Oper := [
  ⟨(some 13), (.move (.tmp 5)), 27, "", #[], none⟩,
  ⟨(some 14), (.binOp .neq 27 (.tmp 13) (.const (.int .i64 0)) 27), 4, "", #[], none⟩,
  ⟨(some 15), (.move (.tmp 14)), 4, "", #[], none⟩,
  ⟨(some 16), (.move (.tmp 4)), 9, "", #[], (some (15, false))⟩,
  ⟨(some 17), (.move (.tmp 0)), 9, "", #[], (some (15, false))⟩,
  ⟨(some 18), (.binOp .neq 9 (.tmp 16) (.tmp 17) 9), 4, "", #[], (some (15, false))⟩,
  ⟨(some 19), (.pick (.tmp 15) (.const (.bool true)) (.tmp 18)), 4, "", #[], none⟩]
def F35.r3 : List Oper := [
  ⟨(some 20), (.build 26 #[]), 26, "", #[], none⟩,
  ⟨none, (.store 26 (.tmp 2) (.tmp 20)), 0, "", #[⟨0, .chain⟩], none⟩,
  ⟨(some 3), (.assign (.const (.bool false))), 4, "", #[], none⟩]
def F35.r4 : List Oper := [
  ⟨(some 22), (.move (.tmp 0)), 9, "", #[], none⟩,
  ⟨(some 23), (.call ⟨(.value (.func 11)), #[(.tmp 22)], #[9]⟩), 28, "", #[⟨0, .chain⟩], none⟩,
  ⟨(some 21), (.move (.tmp 23)), 28, "", #[], none⟩,
  ⟨(some 24), (.extract (.tmp 21) 0), 26, "", #[], none⟩,
  ⟨(some 25), (.extract (.tmp 21) 1), 27, "", #[], none⟩,
  ⟨(some 6), (.alloc 26), 0, "", #[⟨0, .chain⟩], none⟩,
  ⟨none, (.store 26 (.tmp 6) (.tmp 24)), 0, "", #[⟨0, .chain⟩], none⟩,
  ⟨(some 7), (.assign (.tmp 25)), 27, "", #[], none⟩]
def F35.r5 : List Oper := [
  ⟨(some 26), (.load 26 (.tmp 6)), 26, "", #[⟨0, .data⟩], none⟩,
  ⟨none, (.store 26 (.tmp 2) (.tmp 26)), 0, "", #[⟨0, .chain⟩], none⟩,
  ⟨(some 3), (.assign (.const (.bool true))), 4, "", #[], none⟩]
def F35.t4 : Cd := (.seq (.region 4 F35.r4.toArray false) (.seq (.region 5 F35.r5.toArray false) .ret))
theorem F35.t4_eq {P : Program} {Q : Post} {e : FA} {w : World} {θ : Tag (F35.t4, Q, e, w)} : cwE P F35.t4 Q e w θ = cwE P (.seq (.region 4 F35.r4.toArray false) (.seq (.region 5 F35.r5.toArray false) .ret)) Q e w := rfl
def F35.code : Cd := (.seq (.region 0 F35.r0.toArray false) (.seq (.region 1 F35.r1.toArray false) (.seq (.seq (.region 2 F35.r2.toArray false) (.cond (.tmp 19) (.seq (.region 3 F35.r3.toArray false) .ret) .skip)) F35.t4)))
theorem F35.calls {args : Array Value} {w : World} {R : Ending → World → Prop} (hn : args.size ≤ 27) (h : cwE Tryd.prog F35.code (fnP Tryd.prog #[(.cell 2 26), (.tmp 3)] R) (entry args) w) : Calls Tryd.prog 35 args w R :=
  calls_of_cwE (types := Tryd.prog.types) follows Tryd.func35 F35.code rfl (by kernel_rfl) hn h

def F36.r0 : List Oper := [
  ⟨(some 4), (.assign (.const (.bool false))), 4, "", #[], none⟩]
def F36.r1 : List Oper := [
  ⟨(some 6), (.move (.tmp 0)), 24, "", #[], none⟩,
  ⟨(some 7), (.call ⟨(.builtin .len), #[(.tmp 6)], #[24]⟩), 3, "", #[], none⟩,
  ⟨(some 8), (.move (.tmp 1)), 24, "", #[], none⟩,
  ⟨(some 9), (.call ⟨(.builtin .len), #[(.tmp 8)], #[24]⟩), 3, "", #[], none⟩,
  ⟨(some 10), (.binOp .neq 3 (.tmp 7) (.tmp 9) 3), 4, "", #[], none⟩]
def F36.r2 : List Oper := [
  ⟨(some 4), (.assign (.const (.bool false))), 4, "", #[], none⟩]
def F36.r3 : List Oper := [
  ⟨(some 11), (.move (.tmp 0)), 24, "", #[], none⟩,
  ⟨(some 12), (.call ⟨(.builtin .len), #[(.tmp 11)], #[24]⟩), 3, "", #[], none⟩,
  ⟨(some 13), (.move (.const (.int .i64 0))), 3, "", #[], none⟩]
def F36.r4 : List Oper := [
  ⟨(some 14), (.binOp .lss 3 (.tmp 13) (.tmp 12) 3), 0, "", #[], none⟩]
def F36.r5 : List Oper := [
  ⟨(some 15), (.move (.tmp 13)), 3, "", #[], none⟩,
  ⟨(some 5), (.assign (.tmp 15)), 3, "", #[], none⟩]
def F36.r6 : List Oper := [
  ⟨(some 16), (.move (.tmp 0)), 24, "", #[], none⟩,
  ⟨(some 17), (.move (.tmp 5)), 3, "", #[], none⟩,
  ⟨(some 18), (.indexAddr 24 (.tmp 16) (.tmp 17)), 0, "", #[], none⟩,
  ⟨(some 20), (.move (.tmp 1)), 24, "", #[], none⟩,
  ⟨(some 21), (.move (.tmp 5)), 3, "", #[], none⟩,
  ⟨(some 22), (.indexAddr 24 (.tmp 20) (.tmp 21)), 0, "", #[], none⟩,
  ⟨(some 19), (.load 9 (.tmp 18)), 9, "", #[⟨0, .data⟩], none⟩,
  ⟨(some 23), (.load 9 (.tmp 22)), 9, "", #[⟨0, .data⟩], none⟩,
  ⟨(some 24), (.binOp .neq 9 (.tmp 19) (.tmp 23) 9), 4, "", #[], none⟩]
def F36.r7 : List Oper := [
  ⟨(some 4), (.assign (.const (.bool false))), 4, "", #[], none⟩]
def F36.r8 : List Oper := [
  ⟨(some 25), (.binOp .add 3 (.tmp 13) (.const (.int .i64 1)) 3), 3, "", #[], none⟩,
  ⟨(some 13), (.move (.tmp 25)), 3, "", #[], none⟩]
def F36.r9 : List Oper := [
  ⟨(some 4), (.assign (.const (.bool true))), 4, "", #[], none⟩]
def F36.t8 : Cd := (.region 8 F36.r8.toArray false)
theorem F36.t8_eq {P : Program} {Q : Post} {e : FA} {w : World} {θ : Tag (F36.t8, Q, e, w)} : cwE P F36.t8 Q e w θ = cwE P (.region 8 F36.r8.toArray false) Q e w := rfl
def F36.t5 : Cd := (.seq (.block 1 (.seq (.region 5 F36.r5.toArray false) (.seq (.region 6 F36.r6.toArray true) (.cond (.tmp 24) (.seq (.region 7 F36.r7.toArray false) .ret) .skip)))) F36.t8)
theorem F36.t5_eq {P : Program} {Q : Post} {e : FA} {w : World} {θ : Tag (F36.t5, Q, e, w)} : cwE P F36.t5 Q e w θ = cwE P (.seq (.block 1 (.seq (.region 5 F36.r5.toArray false) (.seq (.region 6 F36.r6.toArray true) (.cond (.tmp 24) (.seq (.region 7 F36.r7.toArray false) .ret) .skip)))) F36.t8) Q e w := rfl
def F36.t9 : Cd := (.seq (.region 9 F36.r9.toArray false) .ret)
theorem F36.t9_eq {P : Program} {Q : Post} {e : FA} {w : World} {θ : Tag (F36.t9, Q, e, w)} : cwE P F36.t9 Q e w θ = cwE P (.seq (.region 9 F36.r9.toArray false) .ret) Q e w := rfl
def F36.t3 : Cd := (.seq (.seq (.region 3 F36.r3.toArray false) (.block 0 (.loop (.seq (.region 4 F36.r4.toArray false) (.seq (.cond (.tmp 14) .skip (.exit 0)) F36.t5))))) F36.t9)
theorem F36.t3_eq {P : Program} {Q : Post} {e : FA} {w : World} {θ : Tag (F36.t3, Q, e, w)} : cwE P F36.t3 Q e w θ = cwE P (.seq (.seq (.region 3 F36.r3.toArray false) (.block 0 (.loop (.seq (.region 4 F36.r4.toArray false) (.seq (.cond (.tmp 14) .skip (.exit 0)) F36.t5))))) F36.t9) Q e w := rfl
def F36.code : Cd := (.seq (.region 0 F36.r0.toArray false) (.seq (.seq (.region 1 F36.r1.toArray false) (.cond (.tmp 10) (.seq (.region 2 F36.r2.toArray false) .ret) .skip)) F36.t3))
theorem F36.calls {args : Array Value} {w : World} {R : Ending → World → Prop} (hn : args.size ≤ 26) (h : cwE Tryd.prog F36.code (fnP Tryd.prog #[(.tmp 4)] R) (entry args) w) : Calls Tryd.prog 36 args w R :=
  calls_of_cwE (types := Tryd.prog.types) follows Tryd.func36 F36.code rfl (by kernel_rfl) hn h

def F37.r0 : List Oper := [
  ⟨(some 4), (.assign (.const .nilIface)), 74, "", #[], none⟩]
def F37.r1 : List Oper := [
  ⟨(some 5), (.move (.tmp 0)), 69, "", #[], none⟩,
  ⟨(some 6), (.call ⟨(.value (.func 53)), #[(.tmp 5)], #[69]⟩), 0, "", #[⟨0, .chain⟩], none⟩]
def F37.r2 : List Oper := [
  ⟨(some 7), (.move (.tmp 0)), 69, "", #[], none⟩,
  ⟨(some 8), (.move (.tmp 0)), 69, "", #[], none⟩,
  ⟨(some 9), (.nilCheck (.tmp 8)), 0, "", #[], none⟩,
  ⟨(some 10), (.fieldAddr 72 (.tmp 9) 1), 0, "", #[], none⟩,
  ⟨(some 11), (.load 70 (.tmp 10)), 70, "", #[⟨0, .data⟩], none⟩,
  ⟨(some 12), (.move (.tmp 1)), 5, "", #[], none⟩,
  ⟨(some 13), (.buildSlice 70 1 #[(0, (.tmp 12))]), 70, "", #[⟨0, .chain⟩], none⟩,
  ⟨(some 14), (.call ⟨(.builtin .append), #[(.tmp 11), (.tmp 13)], #[70, 70]⟩), 70, "", #[⟨0, .chain⟩], none⟩,
  ⟨(some 15), (.nilCheck (.tmp 7)), 0, "", #[], none⟩,
  ⟨(some 16), (.fieldAddr 72 (.tmp 15) 1), 0, "", #[], none⟩,
  ⟨none, (.store 70 (.tmp 16) (.tmp 14)), 0, "", #[⟨0, .chain⟩], none⟩]
def F37.r3 : List Oper := [
  ⟨(some 4), (.assign (.const .nilIface)), 74, "", #[], none⟩]
def F37.code : Cd := (.seq (.region 0 F37.r0.toArray false) (.seq (.region 1 F37.r1.toArray false) (.seq (.region 2 F37.r2.toArray false) (.seq (.region 3 F37.r3.toArray false) .ret))))
theorem F37.calls {args : Array Value} {w : World} {R : Ending → World → Prop} (hn : args.size ≤ 17) (h : cwE Tryd.prog F37.code (fnP Tryd.prog #[(.tmp 4)] R) (entry args) w) : Calls Tryd.prog 37 args w R :=
  calls_of_cwE (types := Tryd.prog.types) follows Tryd.func37 F37.code rfl (by kernel_rfl) hn h

def F38.r0 : List Oper := [
  ⟨(some 2), (.assign (.const (.bool false))), 4, "", #[], none⟩]
def F38.r1 : List Oper := [
  ⟨(some 3), (.move (.tmp 0)), 5, "", #[], none⟩,
  ⟨(some 4), (.binOp .geq 5 (.tmp 3) (.const (.int .u8 97)) 5), 4, "", #[], none⟩,
  ⟨(some 5), (.move (.tmp 4)), 4, "", #[], none⟩,
  ⟨(some 6), (.move (.tmp 0)), 5, "", #[], (some (5, true))⟩,
  ⟨(some 7), (.binOp .leq 5 (.tmp 6) (.const (.int .u8 122)) 5), 4, "", #[], (some (5, true))⟩,
  ⟨(some 8), (.pick (.tmp 5) (.tmp 7) (.const (.bool false))), 4, "", #[], none⟩,
  ⟨(some 9), (.move (.tmp 8)), 4, "", #[], none⟩,
  ⟨(some 10), (.move (.tmp 0)), 5, "", #[], (some (9, false))⟩,
  ⟨(some 11), (.binOp .geq 5 (.tmp 10) (.const (.int .u8 65)) 5), 4, "", #[], (some (9, false))⟩,
  ⟨(some 12), (.move (.tmp 11)), 4, "", #[], (some (9, false))⟩,
  ⟨(some 13), (.move (.tmp 0)), 5, "", #[], (some (12, true))⟩,
  ⟨(some 14), (.binOp .leq 5 (.tmp 13) (.const (.int .u8 90)) 5), 4, "", #[], (some (12, true))⟩,
  ⟨(some 15), (.pick (.tmp 12) (.tmp 14) (.const (.bool false))), 4, "", #[], (some (9, false))⟩,
  ⟨(some 16), (.pick (.tmp 9) (.const (.bool true)) (.tmp 15)), 4, "", #[], none⟩,
  ⟨(some 17), (.move (.tmp 16)), 4, "", #[], none⟩,
  ⟨(some 18), (.move (.tmp 0)), 5, "", #[], (some (17, false))⟩,
  ⟨(some 19), (.binOp .geq 5 (.tmp 18) (.const (.int .u8 48)) 5), 4, "", #[], (some (17, false))⟩,
  ⟨(some 20), (.move (.tmp 19)), 4, "", #[], (some (17, false))⟩,
  ⟨(some 21), (.move (.tmp 0)), 5, "", #[], (some (20, true))⟩,
  ⟨(some 22), (.binOp .leq 5 (.tmp 21) (.const (.int .u8 57)) 5), 4, "", #[], (some (20, true))⟩,
  ⟨(some 23), (.pick (.tmp 20) (.tmp 22) (.const (.bool false))), 4, "", #[], (some (17, false))⟩,
  ⟨(some 24), (.pick (.tmp 17) (.const (.bool true)) (.tmp 23)), 4, "", #[], none⟩,
  ⟨(some 25), (.move (.tmp 24)), 4, "", #[], none⟩,
  ⟨(some 26), (.move (.tmp 0)), 5, "", #[], (some (25, false))⟩,
  ⟨(some 27), (.call ⟨(.value (.func 54)), #[(.const (.string { data := #[95, 45, 46, 47, 58, 43, 44, 64, 37, 61, 126] })), (.tmp 26)], #[9, 5]⟩), 3, "", #[⟨0, .chain⟩], (some (25, false))⟩,
  ⟨(some 28), (.binOp .geq 3 (.tmp 27) (.const (.int .i64 0)) 3), 4, "", #[], (some (25, false))⟩,
  ⟨(some 29), (.pick (.tmp 25) (.const (.bool true)) (.tmp 28)), 4, "", #[], none⟩,
  ⟨(some 2), (.assign (.tmp 29)), 4, "", #[], none⟩]
def F38.code : Cd := (.seq (.region 0 F38.r0.toArray false) (.seq (.region 1 F38.r1.toArray false) .ret))
theorem F38.calls {args : Array Value} {w : World} {R : Ending → World → Prop} (hn : args.size ≤ 30) (h : cwE Tryd.prog F38.code (fnP Tryd.prog #[(.tmp 2)] R) (entry args) w) : Calls Tryd.prog 38 args w R :=
  calls_of_cwE (types := Tryd.prog.types) follows Tryd.func38 F38.code rfl (by kernel_rfl) hn h

def F39.r0 : List Oper := [
  ⟨(some 4), (.assign (.const (.int .i64 0))), 3, "", #[], none⟩,
  ⟨(some 5), (.assign (.const .nilIface)), 74, "", #[], none⟩]
def F39.r1 : List Oper := [
  ⟨(some 6), (.move (.tmp 0)), 69, "", #[], none⟩,
  ⟨(some 7), (.call ⟨(.value (.func 53)), #[(.tmp 6)], #[69]⟩), 0, "", #[⟨0, .chain⟩], none⟩]
def F39.r2 : List Oper := [
  ⟨(some 8), (.move (.tmp 0)), 69, "", #[], none⟩,
  ⟨(some 9), (.move (.tmp 0)), 69, "", #[], none⟩,
  ⟨(some 10), (.nilCheck (.tmp 9)), 0, "", #[], none⟩,
  ⟨(some 11), (.fieldAddr 72 (.tmp 10) 1), 0, "", #[], none⟩,
  ⟨(some 12), (.load 70 (.tmp 11)), 70, "", #[⟨0, .data⟩], none⟩,
  ⟨(some 13), (.move (.tmp 1)), 9, "", #[], none⟩,
  ⟨(some 14), (.call ⟨(.builtin .append), #[(.tmp 12), (.tmp 13)], #[70, 9]⟩), 70, "", #[⟨0, .chain⟩], none⟩,
  ⟨(some 15), (.nilCheck (.tmp 8)), 0, "", #[], none⟩,
  ⟨(some 16), (.fieldAddr 72 (.tmp 15) 1), 0, "", #[], none⟩,
  ⟨none, (.store 70 (.tmp 16) (.tmp 14)), 0, "", #[⟨0, .chain⟩], none⟩]
def F39.r3 : List Oper := [
  ⟨(some 17), (.move (.tmp 1)), 9, "", #[], none⟩,
  ⟨(some 18), (.call ⟨(.builtin .len), #[(.tmp 17)], #[9]⟩), 3, "", #[], none⟩,
  ⟨(some 4), (.assign (.tmp 18)), 3, "", #[], none⟩,
  ⟨(some 5), (.assign (.const .nilIface)), 74, "", #[], none⟩]
def F39.code : Cd := (.seq (.region 0 F39.r0.toArray false) (.seq (.region 1 F39.r1.toArray false) (.seq (.region 2 F39.r2.toArray false) (.seq (.region 3 F39.r3.toArray false) .ret))))
theorem F39.calls {args : Array Value} {w : World} {R : Ending → World → Prop} (hn : args.size ≤ 19) (h : cwE Tryd.prog F39.code (fnP Tryd.prog #[(.tmp 4), (.tmp 5)] R) (entry args) w) : Calls Tryd.prog 39 args w R :=
  calls_of_cwE (types := Tryd.prog.types) follows Tryd.func39 F39.code rfl (by kernel_rfl) hn h

def F40.r0 : List Oper := [
  ⟨(some 2), (.assign (.const (.string { data := #[] }))), 9, "", #[], none⟩]
def F40.r1 : List Oper := [
  ⟨(some 3), (.move (.tmp 0)), 69, "", #[], none⟩,
  ⟨(some 4), (.nilCheck (.tmp 3)), 0, "", #[], none⟩,
  ⟨(some 5), (.fieldAddr 72 (.tmp 4) 1), 0, "", #[], none⟩,
  ⟨(some 8), (.move (.tmp 0)), 69, "", #[], none⟩,
  ⟨(some 9), (.nilCheck (.tmp 8)), 0, "", #[], none⟩,
  ⟨(some 10), (.fieldAddr 72 (.tmp 9) 1), 0, "", #[], none⟩,
  ⟨(some 6), (.load 70 (.tmp 5)), 70, "", #[⟨1040, .data⟩], none⟩,
  ⟨(some 11), (.load 70 (.tmp 10)), 70, "", #[⟨1024, .data⟩], none⟩,
  ⟨(some 12), (.call ⟨(.builtin .len), #[(.tmp 11)], #[70]⟩), 3, "", #[], none⟩,
  ⟨(some 7), (.call ⟨(.builtin .unsafeSliceData), #[(.tmp 6)], #[70]⟩), 97, "", #[⟨4, .chain⟩], none⟩,
  ⟨(some 13), (.call ⟨(.builtin .unsafeString), #[(.tmp 7), (.tmp 12)], #[97, 3]⟩), 9, "", #[⟨10, .chain⟩], none⟩,
  ⟨(some 2), (.assign (.tmp 13)), 9, "", #[], none⟩]
def F40.code : Cd := (.seq (.region 0 F40.r0.toArray false) (.seq (.region 1 F40.r1.toArray true) .ret))
theorem F40.calls {args : Array Value} {w : World} {R : Ending → World → Prop} (hn : args.size ≤ 14) (h : cwE Tryd.prog F40.code (fnP Tryd.prog #[(.tmp 2)] R) (entry args) w) : Calls Tryd.prog 40 args w R :=
  calls_of_cwE (types := Tryd.prog.types) follows Tryd.func40 F40.code rfl (by kernel_rfl) hn h

def F41.r0 : List Oper := [
  ⟨(some 5), (.call ⟨(.builtin .recover), #[], #[]⟩), 20, "", #[⟨0, .chain⟩], none⟩]
def F41.r3 : List Oper := [
  ⟨(some 7), (.binOp .eql 20 (.tmp 5) (.const .nilIface) 20), 4, "", #[], none⟩]
def F41.r4 : List Oper := [
  ⟨(some 2), (.assign (.tmp 5)), 20, "", #[], none⟩]
def F41.r5 : List Oper := [
  ⟨(some 8), (.typeAssert (.tmp 5) 20 82 true), 0, "", #[⟨0, .data⟩], none⟩,
  ⟨(some 9), (.extract (.tmp 8) 1), 4, "", #[], none⟩,
  ⟨(some 10), (.extract (.tmp 8) 0), 82, "", #[], none⟩]
def F41.r6 : List Oper := [
  ⟨(some 3), (.alloc 82), 0, "", #[⟨0, .chain⟩], none⟩,
  ⟨none, (.store 82 (.tmp 3) (.tmp 10)), 0, "", #[⟨0, .chain⟩], none⟩]
def F41.r7 : List Oper := [
  ⟨none, (.store 24 (.tmp 0) (.const (.slice none 0 0))), 0, "", #[⟨0, .chain⟩], none⟩,
  ⟨none, (.store 27 (.tmp 1) (.const (.int .i64 53))), 0, "", #[⟨0, .chain⟩], none⟩]
def F41.r1 : List Oper := [
  ⟨(some 4), (.assign (.tmp 5)), 20, "", #[], none⟩]
def F41.r2 : List Oper := [
  ⟨(some 6), (.move (.tmp 4)), 20, "", #[], none⟩,
  ⟨none, (.panic (.tmp 6)), 0, "", #[⟨0, .chain⟩], none⟩]
def F41.code : Cd := (.seq (.region 0 F41.r0.toArray false) (.block 0 (.seq (.region 3 F41.r3.toArray false) (.cond (.tmp 7) (.region 4 F41.r4.toArray false) (.seq (.region 5 F41.r5.toArray false) (.cond (.tmp 9) (.seq (.region 6 F41.r6.toArray false) (.region 7 F41.r7.toArray false)) (.seq (.region 1 F41.r1.toArray false) (.region 2 F41.r2.toArray false))))))))
theorem F41.calls {args : Array Value} {w : World} {R : Ending → World → Prop} (hn : args.size ≤ 11) (h : cwE Tryd.prog F41.code (fnP Tryd.prog #[] R) (entry args) w) : Calls Tryd.prog 41 args w R :=
  calls_of_cwE (types := Tryd.prog.types) follows Tryd.func41 F41.code rfl (by kernel_rfl) hn h

end Go.Proofs.YtlnlomjdooobdaaDoor

/- The compiled code of the functions, by program (genir.py): each with the theorem that it is what the engine makes of the loaded program's. -/
import Derived.Test.YtkijkoakloacoaaDoorSl2
import Derived.Test.YtkijkoakloacoaaDoorProg
namespace Go.Proofs.YtkijkoakloacoaaDoor
open Go
set_option maxRecDepth 100000

theorem follows : Tryd.prog.follows .mixedOrders = true := by kernel_rfl

theorem fact_aggSz_23 : aggSz Tryd.prog 23 = some none := by kernel_rfl
theorem fact_aggSz_25 : aggSz Tryd.prog 25 = some none := by kernel_rfl
theorem fact_aggSz_28 : aggSz Tryd.prog 28 = some none := by kernel_rfl
theorem fact_aggSz_3 : aggSz Tryd.prog 3 = some none := by kernel_rfl
theorem fact_aggSz_31 : aggSz Tryd.prog 31 = some none := by kernel_rfl
theorem fact_aggSz_32 : aggSz Tryd.prog 32 = some none := by kernel_rfl
theorem fact_aggSz_33 : aggSz Tryd.prog 33 = some none := by kernel_rfl
theorem fact_aggSz_4 : aggSz Tryd.prog 4 = some none := by kernel_rfl
theorem fact_aggSz_42 : aggSz Tryd.prog 42 = some none := by kernel_rfl
theorem fact_aggSz_46 : aggSz Tryd.prog 46 = some (some 4) := by kernel_rfl
theorem fact_aggSz_61 : aggSz Tryd.prog 61 = some none := by kernel_rfl
theorem fact_aggSz_69 : aggSz Tryd.prog 69 = some none := by kernel_rfl
theorem fact_aggSz_70 : aggSz Tryd.prog 70 = some none := by kernel_rfl
theorem fact_aggSz_82 : aggSz Tryd.prog 82 = some none := by kernel_rfl
theorem fact_aggSz_9 : aggSz Tryd.prog 9 = some none := by kernel_rfl
theorem fact_arrEx_9 : arrEx Tryd.prog 9 = (0, none) := by kernel_rfl
theorem fact_bldP_100 : bldP Tryd.prog 100 = some ([.int .i64 0], some [(0, 1)], 0) := by kernel_rfl
theorem fact_bldP_35 : bldP Tryd.prog 35 = some ([.slice none 0 0, .slice none 0 0, .slice none 0 0, .slice none 0 0, .slice none 0 0, .slice none 0 0], some [(0, 1), (1, 1), (2, 1), (3, 1), (4, 1), (5, 1)], 0) := by kernel_rfl
theorem fact_bldP_46 : bldP Tryd.prog 46 = some ([.string ⟨#[]⟩, .string ⟨#[]⟩, .slice none 0 0, .string ⟨#[]⟩], some [(0, 1), (1, 1), (2, 1), (3, 1)], 0) := by kernel_rfl
theorem fact_bldP_72 : bldP Tryd.prog 72 = some ([.slice none 0 0, .map none, .map none], some [(0, 1), (1, 1), (2, 1)], 0) := by kernel_rfl
theorem fact_bldP_95 : bldP Tryd.prog 95 = some ([.string ⟨#[]⟩, .string ⟨#[]⟩], some [(0, 1), (1, 1)], 0) := by kernel_rfl
theorem fact_elemOf_23 : elemOf? Tryd.prog 23 = some (none, 4) := by kernel_rfl
theorem fact_elemOf_32 : elemOf? Tryd.prog 32 = some (none, 1) := by kernel_rfl
theorem fact_elemOf_33 : elemOf? Tryd.prog 33 = some (none, 1) := by kernel_rfl
theorem fact_elemOf_49 : elemOf? Tryd.prog 49 = some (none, 3) := by kernel_rfl
theorem fact_elemOf_61 : elemOf? Tryd.prog 61 = some (none, 1) := by kernel_rfl
theorem fact_elemOf_9 : elemOf? Tryd.prog 9 = none := by kernel_rfl
theorem fact_elemOf_93 : elemOf? Tryd.prog 93 = some (none, 1) := by kernel_rfl
theorem fact_fieldOff_100_0 : fieldOff Tryd.prog 100 0 = some 0 := by kernel_rfl
theorem fact_fieldOff_35_0 : fieldOff Tryd.prog 35 0 = some 0 := by kernel_rfl
theorem fact_fieldOff_35_1 : fieldOff Tryd.prog 35 1 = some 1 := by kernel_rfl
theorem fact_fieldOff_35_2 : fieldOff Tryd.prog 35 2 = some 2 := by kernel_rfl
theorem fact_fieldOff_35_3 : fieldOff Tryd.prog 35 3 = some 3 := by kernel_rfl
theorem fact_fieldOff_35_4 : fieldOff Tryd.prog 35 4 = some 4 := by kernel_rfl
theorem fact_fieldOff_35_5 : fieldOff Tryd.prog 35 5 = some 5 := by kernel_rfl
theorem fact_fieldOff_46_0 : fieldOff Tryd.prog 46 0 = some 0 := by kernel_rfl
theorem fact_fieldOff_46_1 : fieldOff Tryd.prog 46 1 = some 1 := by kernel_rfl
theorem fact_fieldOff_46_2 : fieldOff Tryd.prog 46 2 = some 2 := by kernel_rfl
theorem fact_fieldOff_46_3 : fieldOff Tryd.prog 46 3 = some 3 := by kernel_rfl
theorem fact_fieldOff_63_0 : fieldOff Tryd.prog 63 0 = some 0 := by kernel_rfl
theorem fact_fieldOff_63_1 : fieldOff Tryd.prog 63 1 = some 1 := by kernel_rfl
theorem fact_fieldOff_63_2 : fieldOff Tryd.prog 63 2 = some 2 := by kernel_rfl
theorem fact_fieldOff_72_0 : fieldOff Tryd.prog 72 0 = some 0 := by kernel_rfl
theorem fact_fieldOff_72_1 : fieldOff Tryd.prog 72 1 = some 1 := by kernel_rfl
theorem fact_fieldOff_72_2 : fieldOff Tryd.prog 72 2 = some 2 := by kernel_rfl
theorem fact_fieldOff_84_1 : fieldOff Tryd.prog 84 1 = some 1 := by kernel_rfl
theorem fact_fnOk_10 : fnOk Tryd.prog 10 = true := by kernel_rfl
theorem fact_fnOk_102 : fnOk Tryd.prog 102 = true := by kernel_rfl
theorem fact_fnOk_103 : fnOk Tryd.prog 103 = true := by kernel_rfl
theorem fact_fnOk_104 : fnOk Tryd.prog 104 = true := by kernel_rfl
theorem fact_fnOk_11 : fnOk Tryd.prog 11 = true := by kernel_rfl
theorem fact_fnOk_12 : fnOk Tryd.prog 12 = true := by kernel_rfl
theorem fact_fnOk_13 : fnOk Tryd.prog 13 = true := by kernel_rfl
theorem fact_fnOk_14 : fnOk Tryd.prog 14 = true := by kernel_rfl
theorem fact_fnOk_15 : fnOk Tryd.prog 15 = true := by kernel_rfl
theorem fact_fnOk_16 : fnOk Tryd.prog 16 = true := by kernel_rfl
theorem fact_fnOk_17 : fnOk Tryd.prog 17 = true := by kernel_rfl
theorem fact_fnOk_18 : fnOk Tryd.prog 18 = true := by kernel_rfl
theorem fact_fnOk_19 : fnOk Tryd.prog 19 = true := by kernel_rfl
theorem fact_fnOk_20 : fnOk Tryd.prog 20 = true := by kernel_rfl
theorem fact_fnOk_21 : fnOk Tryd.prog 21 = true := by kernel_rfl
theorem fact_fnOk_22 : fnOk Tryd.prog 22 = true := by kernel_rfl
theorem fact_fnOk_23 : fnOk Tryd.prog 23 = true := by kernel_rfl
theorem fact_fnOk_24 : fnOk Tryd.prog 24 = true := by kernel_rfl
theorem fact_fnOk_25 : fnOk Tryd.prog 25 = true := by kernel_rfl
theorem fact_fnOk_26 : fnOk Tryd.prog 26 = true := by kernel_rfl
theorem fact_fnOk_27 : fnOk Tryd.prog 27 = true := by kernel_rfl
theorem fact_fnOk_28 : fnOk Tryd.prog 28 = true := by kernel_rfl
theorem fact_fnOk_29 : fnOk Tryd.prog 29 = true := by kernel_rfl
theorem fact_fnOk_30 : fnOk Tryd.prog 30 = true := by kernel_rfl
theorem fact_fnOk_31 : fnOk Tryd.prog 31 = true := by kernel_rfl
theorem fact_fnOk_32 : fnOk Tryd.prog 32 = true := by kernel_rfl
theorem fact_fnOk_33 : fnOk Tryd.prog 33 = true := by kernel_rfl
theorem fact_fnOk_34 : fnOk Tryd.prog 34 = true := by kernel_rfl
theorem fact_fnOk_35 : fnOk Tryd.prog 35 = true := by kernel_rfl
theorem fact_fnOk_36 : fnOk Tryd.prog 36 = true := by kernel_rfl
theorem fact_fnOk_37 : fnOk Tryd.prog 37 = true := by kernel_rfl
theorem fact_fnOk_38 : fnOk Tryd.prog 38 = true := by kernel_rfl
theorem fact_fnOk_39 : fnOk Tryd.prog 39 = true := by kernel_rfl
theorem fact_fnOk_40 : fnOk Tryd.prog 40 = true := by kernel_rfl
theorem fact_fnOk_41 : fnOk Tryd.prog 41 = true := by kernel_rfl
theorem fact_fnOk_42 : fnOk Tryd.prog 42 = true := by kernel_rfl
theorem fact_fnOk_43 : fnOk Tryd.prog 43 = true := by kernel_rfl
theorem fact_fnOk_44 : fnOk Tryd.prog 44 = true := by kernel_rfl
theorem fact_fnOk_45 : fnOk Tryd.prog 45 = true := by kernel_rfl
theorem fact_fnOk_46 : fnOk Tryd.prog 46 = true := by kernel_rfl
theorem fact_fnOk_47 : fnOk Tryd.prog 47 = true := by kernel_rfl
theorem fact_fnOk_48 : fnOk Tryd.prog 48 = true := by kernel_rfl
theorem fact_fnOk_49 : fnOk Tryd.prog 49 = true := by kernel_rfl
theorem fact_fnOk_50 : fnOk Tryd.prog 50 = true := by kernel_rfl
theorem fact_fnOk_51 : fnOk Tryd.prog 51 = true := by kernel_rfl
theorem fact_fnOk_52 : fnOk Tryd.prog 52 = true := by kernel_rfl
theorem fact_fnOk_53 : fnOk Tryd.prog 53 = true := by kernel_rfl
theorem fact_fnOk_54 : fnOk Tryd.prog 54 = true := by kernel_rfl
theorem fact_fnOk_55 : fnOk Tryd.prog 55 = true := by kernel_rfl
theorem fact_fnOk_56 : fnOk Tryd.prog 56 = true := by kernel_rfl
theorem fact_fnOk_57 : fnOk Tryd.prog 57 = true := by kernel_rfl
theorem fact_fnOk_58 : fnOk Tryd.prog 58 = true := by kernel_rfl
theorem fact_fnOk_59 : fnOk Tryd.prog 59 = true := by kernel_rfl
theorem fact_fnOk_60 : fnOk Tryd.prog 60 = true := by kernel_rfl
theorem fact_fnOk_61 : fnOk Tryd.prog 61 = true := by kernel_rfl
theorem fact_fnOk_62 : fnOk Tryd.prog 62 = true := by kernel_rfl
theorem fact_fnOk_63 : fnOk Tryd.prog 63 = true := by kernel_rfl
theorem fact_fnOk_64 : fnOk Tryd.prog 64 = true := by kernel_rfl
theorem fact_fnOk_65 : fnOk Tryd.prog 65 = true := by kernel_rfl
theorem fact_fnOk_66 : fnOk Tryd.prog 66 = true := by kernel_rfl
theorem fact_fnOk_67 : fnOk Tryd.prog 67 = true := by kernel_rfl
theorem fact_fnOk_68 : fnOk Tryd.prog 68 = true := by kernel_rfl
theorem fact_fnOk_69 : fnOk Tryd.prog 69 = true := by kernel_rfl
theorem fact_fnOk_70 : fnOk Tryd.prog 70 = true := by kernel_rfl
theorem fact_fnOk_71 : fnOk Tryd.prog 71 = true := by kernel_rfl
theorem fact_fnOk_88 : fnOk Tryd.prog 88 = true := by kernel_rfl
theorem fact_fnOk_89 : fnOk Tryd.prog 89 = true := by kernel_rfl
theorem fact_fnOk_90 : fnOk Tryd.prog 90 = true := by kernel_rfl
theorem fact_fnOk_92 : fnOk Tryd.prog 92 = true := by kernel_rfl
theorem fact_rowTy_23 : rowTy Tryd.prog 23 = some (46, 4, 72, [.string ⟨#[]⟩, .string ⟨#[]⟩, .slice none 0 0, .string ⟨#[]⟩]) := by kernel_rfl
theorem fact_rowTy_32 : rowTy Tryd.prog 32 = some (33, 1, 24, [.slice none 0 0]) := by kernel_rfl
theorem fact_rowTy_33 : rowTy Tryd.prog 33 = some (9, 1, 16, [.string ⟨#[]⟩]) := by kernel_rfl
theorem fact_rowTy_61 : rowTy Tryd.prog 61 = some (3, 1, 8, [.int .i64 0]) := by kernel_rfl
theorem fact_rowTy_82 : rowTy Tryd.prog 82 = some (5, 1, 1, [.int .u8 0]) := by kernel_rfl
theorem fact_rowTy_93 : rowTy Tryd.prog 93 = some (4, 1, 1, [.bool false]) := by kernel_rfl
theorem fact_szO_100 : szO Tryd.prog 100 = some 1 := by kernel_rfl
theorem fact_szO_23 : szO Tryd.prog 23 = some 1 := by kernel_rfl
theorem fact_szO_25 : szO Tryd.prog 25 = some 1 := by kernel_rfl
theorem fact_szO_28 : szO Tryd.prog 28 = some 1 := by kernel_rfl
theorem fact_szO_3 : szO Tryd.prog 3 = some 1 := by kernel_rfl
theorem fact_szO_31 : szO Tryd.prog 31 = some 1 := by kernel_rfl
theorem fact_szO_32 : szO Tryd.prog 32 = some 1 := by kernel_rfl
theorem fact_szO_33 : szO Tryd.prog 33 = some 1 := by kernel_rfl
theorem fact_szO_4 : szO Tryd.prog 4 = some 1 := by kernel_rfl
theorem fact_szO_42 : szO Tryd.prog 42 = some 1 := by kernel_rfl
theorem fact_szO_46 : szO Tryd.prog 46 = some 4 := by kernel_rfl
theorem fact_szO_61 : szO Tryd.prog 61 = some 1 := by kernel_rfl
theorem fact_szO_70 : szO Tryd.prog 70 = some 1 := by kernel_rfl
theorem fact_szO_82 : szO Tryd.prog 82 = some 1 := by kernel_rfl
theorem fact_szO_9 : szO Tryd.prog 9 = some 1 := by kernel_rfl
theorem fact_zeroV_100 : zeroV Tryd.prog 100 = some (.agg #[.int .i64 0]) := by kernel_rfl
theorem fact_zeroV_23 : zeroV Tryd.prog 23 = some (.slice none 0 0) := by kernel_rfl
theorem fact_zeroV_25 : zeroV Tryd.prog 25 = some (.int .i64 0) := by kernel_rfl
theorem fact_zeroV_28 : zeroV Tryd.prog 28 = some (.pointer none) := by kernel_rfl
theorem fact_zeroV_3 : zeroV Tryd.prog 3 = some (.int .i64 0) := by kernel_rfl
theorem fact_zeroV_31 : zeroV Tryd.prog 31 = some (.pointer none) := by kernel_rfl
theorem fact_zeroV_33 : zeroV Tryd.prog 33 = some (.slice none 0 0) := by kernel_rfl
theorem fact_zeroV_4 : zeroV Tryd.prog 4 = some (.bool false) := by kernel_rfl
theorem fact_zeroV_42 : zeroV Tryd.prog 42 = some (.nilFunc) := by kernel_rfl
theorem fact_zeroV_46 : zeroV Tryd.prog 46 = some (.agg #[.string ⟨#[]⟩, .string ⟨#[]⟩, .slice none 0 0, .string ⟨#[]⟩]) := by kernel_rfl
theorem fact_zeroV_61 : zeroV Tryd.prog 61 = some (.slice none 0 0) := by kernel_rfl
theorem fact_zeroV_84 : zeroV Tryd.prog 84 = some (.agg #[.pointer none, .slice none 0 0]) := by kernel_rfl

def F3.r0 : List Oper := [
  ⟨(some 0), (.assign (.const (.bool false))), 4, "", #[], none⟩]
def F3.r1 : List Oper := [
  ⟨(some 0), (.assign (.const (.bool false))), 4, "", #[], none⟩]
def F3.r2 : List Oper := [
  ⟨(some 1), (.move (.const (.bool true))), 4, "", #[], none⟩,
  ⟨(some 2), (.call ⟨(.value (.func 10)), #[], #[]⟩), 4, "", #[⟨0, .chain⟩], (some (1, true))⟩,
  ⟨(some 3), (.pick (.tmp 1) (.tmp 2) (.const (.bool false))), 4, "", #[], none⟩,
  ⟨(some 0), (.assign (.tmp 3)), 4, "", #[], none⟩]
def F3.t2 : Cd := (.seq (.region 2 F3.r2.toArray false) .ret)
theorem F3.t2_eq {P : Program} {Q : Post} {e : FA} {w : World} {θ : Tag (F3.t2, Q, e, w)} : cwE P F3.t2 Q e w θ = cwE P (.seq (.region 2 F3.r2.toArray false) .ret) Q e w := rfl
def F3.code : Cd := (.seq (.region 0 F3.r0.toArray false) (.seq (.cond (.const (.bool false)) (.seq (.region 1 F3.r1.toArray false) .ret) .skip) F3.t2))
theorem F3.calls {args : Array Value} {w : World} {R : Ending → World → Prop} (hn : args.size ≤ 4) (h : cwE Tryd.prog F3.code (fnP Tryd.prog #[(.tmp 0)] R) (entry args) w) : Calls Tryd.prog 3 args w R :=
  calls_of_cwE (types := Tryd.prog.types) follows Tryd.func3 F3.code rfl (by kernel_rfl) hn h

def F4.r0 : List Oper := [
  ⟨(some 2), (.assign (.const (.bool false))), 4, "", #[], none⟩]
def F4.r1 : List Oper := [
  ⟨(some 14), (.move (.tmp 0)), 23, "", #[], none⟩,
  ⟨(some 15), (.call ⟨(.value (.func 11)), #[(.tmp 14)], #[23]⟩), 3, "", #[⟨0, .chain⟩], none⟩,
  ⟨(some 16), (.binOp .gtr 3 (.tmp 15) (.const (.int .i64 8388608)) 3), 4, "", #[], none⟩]
def F4.r2 : List Oper := [
  ⟨(some 2), (.assign (.const (.bool true))), 4, "", #[], none⟩]
def F4.r3 : List Oper := [
  ⟨(some 17), (.call ⟨(.value (.func 10)), #[], #[]⟩), 4, "", #[⟨0, .chain⟩], none⟩,
  ⟨(some 3), (.assign (.tmp 17)), 4, "", #[], none⟩]
def F4.r4 : List Oper := [
  ⟨(some 19), (.move (.tmp 0)), 23, "", #[], none⟩,
  ⟨(some 20), (.call ⟨(.value (.func 12)), #[(.tmp 19)], #[23]⟩), 26, "", #[⟨0, .chain⟩], none⟩,
  ⟨(some 18), (.move (.tmp 20)), 26, "", #[], none⟩,
  ⟨(some 21), (.extract (.tmp 18) 0), 9, "", #[], none⟩,
  ⟨(some 22), (.extract (.tmp 18) 1), 25, "", #[], none⟩,
  ⟨(some 4), (.assign (.tmp 21)), 9, "", #[], none⟩,
  ⟨(some 5), (.assign (.tmp 22)), 25, "", #[], none⟩]
def F4.r5 : List Oper := [
  ⟨(some 23), (.move (.tmp 5)), 25, "", #[], none⟩,
  ⟨(some 24), (.binOp .neq 25 (.tmp 23) (.const (.int .i64 0)) 25), 4, "", #[], none⟩]
def F4.r6 : List Oper := [
  ⟨(some 25), (.move (.tmp 3)), 4, "", #[], none⟩,
  ⟨(some 26), (.move (.tmp 25)), 4, "", #[], none⟩,
  ⟨(some 27), (.move (.tmp 4)), 9, "", #[], (some (26, true))⟩,
  ⟨(some 28), (.binOp .eql 9 (.tmp 27) (.const (.string { data := #[] })) 9), 4, "", #[], (some (26, true))⟩,
  ⟨(some 29), (.pick (.tmp 26) (.tmp 28) (.const (.bool false))), 4, "", #[], none⟩,
  ⟨(some 30), (.move (.tmp 29)), 4, "", #[], none⟩,
  ⟨(some 31), (.move (.tmp 5)), 25, "", #[], (some (30, true))⟩,
  ⟨(some 32), (.binOp .eql 25 (.tmp 31) (.const (.int .i64 60)) 25), 4, "", #[], (some (30, true))⟩,
  ⟨(some 33), (.move (.tmp 32)), 4, "", #[], (some (30, true))⟩,
  ⟨(some 34), (.move (.tmp 5)), 25, "", #[], (some (33, false))⟩,
  ⟨(some 35), (.binOp .eql 25 (.tmp 34) (.const (.int .i64 61)) 25), 4, "", #[], (some (33, false))⟩,
  ⟨(some 36), (.pick (.tmp 33) (.const (.bool true)) (.tmp 35)), 4, "", #[], (some (30, true))⟩,
  ⟨(some 37), (.move (.tmp 36)), 4, "", #[], (some (30, true))⟩,
  ⟨(some 38), (.move (.tmp 5)), 25, "", #[], (some (37, false))⟩,
  ⟨(some 39), (.binOp .eql 25 (.tmp 38) (.const (.int .i64 62)) 25), 4, "", #[], (some (37, false))⟩,
  ⟨(some 40), (.pick (.tmp 37) (.const (.bool true)) (.tmp 39)), 4, "", #[], (some (30, true))⟩,
  ⟨(some 41), (.move (.tmp 40)), 4, "", #[], (some (30, true))⟩,
  ⟨(some 42), (.move (.tmp 5)), 25, "", #[], (some (41, false))⟩,
  ⟨(some 43), (.binOp .eql 25 (.tmp 42) (.const (.int .i64 1)) 25), 4, "", #[], (some (41, false))⟩,
  ⟨(some 44), (.pick (.tmp 41) (.const (.bool true)) (.tmp 43)), 4, "", #[], (some (30, true))⟩,
  ⟨(some 45), (.pick (.tmp 30) (.tmp 44) (.const (.bool false))), 4, "", #[], none⟩,
  ⟨(some 2), (.assign (.tmp 45)), 4, "", #[], none⟩]
def F4.r7 : List Oper := [
  ⟨(some 47), (.move (.tmp 4)), 9, "", #[], none⟩,
  ⟨(some 48), (.call ⟨(.value (.func 13)), #[(.tmp 47)], #[9]⟩), 29, "", #[⟨0, .chain⟩], none⟩,
  ⟨(some 46), (.move (.tmp 48)), 29, "", #[], none⟩,
  ⟨(some 49), (.extract (.tmp 46) 0), 28, "", #[], none⟩,
  ⟨(some 50), (.extract (.tmp 46) 1), 25, "", #[], none⟩,
  ⟨(some 51), (.extract (.tmp 46) 2), 3, "", #[], none⟩,
  ⟨(some 6), (.assign (.tmp 49)), 28, "", #[], none⟩,
  ⟨(some 7), (.assign (.tmp 50)), 25, "", #[], none⟩,
  ⟨(some 8), (.assign (.tmp 51)), 3, "", #[], none⟩]
def F4.r8 : List Oper := [
  ⟨(some 52), (.move (.tmp 3)), 4, "", #[], none⟩,
  ⟨(some 53), (.unOp .not 4 (.tmp 52)), 4, "", #[], none⟩,
  ⟨(some 54), (.move (.tmp 53)), 4, "", #[], none⟩,
  ⟨(some 55), (.move (.tmp 6)), 28, "", #[], (some (54, false))⟩,
  ⟨(some 56), (.binOp .eql 28 (.tmp 55) (.const (.pointer none)) 28), 4, "", #[], (some (54, false))⟩,
  ⟨(some 57), (.pick (.tmp 54) (.const (.bool true)) (.tmp 56)), 4, "", #[], none⟩,
  ⟨(some 58), (.move (.tmp 57)), 4, "", #[], none⟩,
  ⟨(some 59), (.move (.tmp 7)), 25, "", #[], (some (58, false))⟩,
  ⟨(some 60), (.binOp .neq 25 (.tmp 59) (.const (.int .i64 0)) 25), 4, "", #[], (some (58, false))⟩,
  ⟨(some 61), (.pick (.tmp 58) (.const (.bool true)) (.tmp 60)), 4, "", #[], none⟩,
  ⟨(some 62), (.move (.tmp 61)), 4, "", #[], none⟩,
  ⟨(some 63), (.move (.tmp 8)), 3, "", #[], (some (62, false))⟩,
  ⟨(some 64), (.binOp .neq 3 (.tmp 63) (.const (.int .i64 0)) 3), 4, "", #[], (some (62, false))⟩,
  ⟨(some 65), (.pick (.tmp 62) (.const (.bool true)) (.tmp 64)), 4, "", #[], none⟩]
def F4.r9 : List Oper := [
  ⟨(some 2), (.assign (.const (.bool false))), 4, "", #[], none⟩]
def F4.r10 : List Oper := [
  ⟨(some 66), (.build 35 #[]), 35, "", #[], none⟩,
  ⟨(some 67), (.box 35 (.tmp 66)), 31, "", #[⟨0, .chain⟩], none⟩,
  ⟨(some 9), (.assign (.tmp 67)), 31, "", #[], none⟩]
def F4.r11 : List Oper := [
  ⟨(some 69), (.move (.tmp 6)), 28, "", #[], none⟩,
  ⟨(some 70), (.move (.tmp 9)), 31, "", #[], none⟩,
  ⟨(some 71), (.call ⟨(.value (.func 14)), #[(.tmp 69), (.const (.int .i64 0)), (.tmp 70)], #[28, 3, 31]⟩), 36, "", #[⟨0, .chain⟩], none⟩,
  ⟨(some 68), (.move (.tmp 71)), 36, "", #[], none⟩,
  ⟨(some 72), (.extract (.tmp 68) 0), 23, "", #[], none⟩,
  ⟨(some 73), (.extract (.tmp 68) 1), 4, "", #[], none⟩,
  ⟨(some 10), (.assign (.tmp 72)), 23, "", #[], none⟩,
  ⟨(some 11), (.assign (.tmp 73)), 4, "", #[], none⟩]
def F4.r12 : List Oper := [
  ⟨(some 74), (.move (.tmp 10)), 23, "", #[], none⟩,
  ⟨(some 75), (.move (.tmp 0)), 23, "", #[], none⟩,
  ⟨(some 76), (.call ⟨(.value (.func 15)), #[(.tmp 74), (.tmp 75)], #[23, 23]⟩), 4, "", #[⟨0, .chain⟩], none⟩,
  ⟨(some 12), (.assign (.tmp 76)), 4, "", #[], none⟩]
def F4.r13 : List Oper := [
  ⟨(some 77), (.move (.tmp 9)), 31, "", #[], none⟩,
  ⟨(some 78), (.call ⟨(.value (.func 16)), #[(.tmp 77)], #[31]⟩), 4, "", #[⟨0, .chain⟩], none⟩,
  ⟨(some 13), (.assign (.tmp 78)), 4, "", #[], none⟩]
def F4.r14 : List Oper := [
  ⟨(some 79), (.move (.tmp 11)), 4, "", #[], none⟩,
  ⟨(some 80), (.move (.tmp 79)), 4, "", #[], none⟩,
  ⟨(some 81), (.move (.tmp 12)), 4, "", #[], (some (80, true))⟩,
  ⟨(some 82), (.pick (.tmp 80) (.tmp 81) (.const (.bool false))), 4, "", #[], none⟩,
  ⟨(some 83), (.move (.tmp 82)), 4, "", #[], none⟩,
  ⟨(some 84), (.move (.tmp 13)), 4, "", #[], (some (83, true))⟩,
  ⟨(some 85), (.pick (.tmp 83) (.tmp 84) (.const (.bool false))), 4, "", #[], none⟩,
  ⟨(some 86), (.move (.tmp 85)), 4, "", #[], none⟩,
  ⟨(some 87), (.move (.tmp 6)), 28, "", #[], (some (86, true))⟩,
  ⟨(some 88), (.call ⟨(.value (.func 17)), #[(.tmp 87)], #[28]⟩), 9, "", #[⟨0, .chain⟩], (some (86, true))⟩,
  ⟨(some 89), (.move (.tmp 4)), 9, "", #[], (some (86, true))⟩,
  ⟨(some 90), (.binOp .eql 9 (.tmp 88) (.tmp 89) 9), 4, "", #[], (some (86, true))⟩,
  ⟨(some 91), (.pick (.tmp 86) (.tmp 90) (.const (.bool false))), 4, "", #[], none⟩,
  ⟨(some 2), (.assign (.tmp 91)), 4, "", #[], none⟩]
def F4.t10 : Cd := (.seq (.region 10 F4.r10.toArray false) (.seq (.region 11 F4.r11.toArray false) (.seq (.region 12 F4.r12.toArray false) (.seq (.region 13 F4.r13.toArray false) (.seq (.region 14 F4.r14.toArray false) .ret)))))
theorem F4.t10_eq {P : Program} {Q : Post} {e : FA} {w : World} {θ : Tag (F4.t10, Q, e, w)} : cwE P F4.t10 Q e w θ = cwE P (.seq (.region 10 F4.r10.toArray false) (.seq (.region 11 F4.r11.toArray false) (.seq (.region 12 F4.r12.toArray false) (.seq (.region 13 F4.r13.toArray false) (.seq (.region 14 F4.r14.toArray false) .ret))))) Q e w := rfl
def F4.t7 : Cd := (.seq (.region 7 F4.r7.toArray false) (.seq (.seq (.region 8 F4.r8.toArray false) (.cond (.tmp 65) (.seq (.region 9 F4.r9.toArray false) .ret) .skip)) F4.t10))
theorem F4.t7_eq {P : Program} {Q : Post} {e : FA} {w : World} {θ : Tag (F4.t7, Q, e, w)} : cwE P F4.t7 Q e w θ = cwE P (.seq (.region 7 F4.r7.toArray false) (.seq (.seq (.region 8 F4.r8.toArray false) (.cond (.tmp 65) (.seq (.region 9 F4.r9.toArray false) .ret) .skip)) F4.t10)) Q e w := rfl
def F4.t3 : Cd := (.seq (.region 3 F4.r3.toArray false) (.seq (.region 4 F4.r4.toArray false) (.seq (.seq (.region 5 F4.r5.toArray false) (.cond (.tmp 24) (.seq (.region 6 F4.r6.toArray false) .ret) .skip)) F4.t7)))
theorem F4.t3_eq {P : Program} {Q : Post} {e : FA} {w : World} {θ : Tag (F4.t3, Q, e, w)} : cwE P F4.t3 Q e w θ = cwE P (.seq (.region 3 F4.r3.toArray false) (.seq (.region 4 F4.r4.toArray false) (.seq (.seq (.region 5 F4.r5.toArray false) (.cond (.tmp 24) (.seq (.region 6 F4.r6.toArray false) .ret) .skip)) F4.t7))) Q e w := rfl
def F4.code : Cd := (.seq (.region 0 F4.r0.toArray false) (.seq (.seq (.region 1 F4.r1.toArray false) (.cond (.tmp 16) (.seq (.region 2 F4.r2.toArray false) .ret) .skip)) F4.t3))
theorem F4.calls {args : Array Value} {w : World} {R : Ending → World → Prop} (hn : args.size ≤ 92) (h : cwE Tryd.prog F4.code (fnP Tryd.prog #[(.tmp 2)] R) (entry args) w) : Calls Tryd.prog 4 args w R :=
  calls_of_cwE (types := Tryd.prog.types) follows Tryd.func4 F4.code rfl (by kernel_rfl) hn h

def F5.r0 : List Oper := [
  ⟨(some 2), (.box 23 (.tmp 0)), 0, "", #[⟨0, .chain⟩], none⟩,
  ⟨(some 4), (.alloc 4), 0, "", #[⟨0, .chain⟩], none⟩]
def F5.r1 : List Oper := [
  ⟨(some 28), (.load 23 (.tmp 2)), 23, "", #[⟨0, .data⟩], none⟩,
  ⟨(some 29), (.call ⟨(.value (.func 11)), #[(.tmp 28)], #[23]⟩), 3, "", #[⟨0, .chain⟩], none⟩,
  ⟨(some 30), (.binOp .gtr 3 (.tmp 29) (.const (.int .i64 8388608)) 3), 4, "", #[], none⟩]
def F5.r2 : List Oper := [
  ⟨none, (.store 4 (.tmp 4) (.const (.bool true))), 0, "", #[⟨0, .chain⟩], none⟩]
def F5.r3 : List Oper := [
  ⟨(some 31), (.call ⟨(.value (.func 10)), #[], #[]⟩), 4, "", #[⟨0, .chain⟩], none⟩,
  ⟨(some 5), (.assign (.tmp 31)), 4, "", #[], none⟩]
def F5.r4 : List Oper := [
  ⟨(some 33), (.load 23 (.tmp 2)), 23, "", #[⟨0, .data⟩], none⟩,
  ⟨(some 34), (.call ⟨(.value (.func 12)), #[(.tmp 33)], #[23]⟩), 26, "", #[⟨0, .chain⟩], none⟩,
  ⟨(some 32), (.move (.tmp 34)), 26, "", #[], none⟩,
  ⟨(some 35), (.extract (.tmp 32) 0), 9, "", #[], none⟩,
  ⟨(some 36), (.extract (.tmp 32) 1), 25, "", #[], none⟩,
  ⟨(some 6), (.assign (.tmp 35)), 9, "", #[], none⟩,
  ⟨(some 7), (.assign (.tmp 36)), 25, "", #[], none⟩]
def F5.r5 : List Oper := [
  ⟨(some 37), (.move (.tmp 5)), 4, "", #[], none⟩,
  ⟨(some 38), (.unOp .not 4 (.tmp 37)), 4, "", #[], none⟩,
  ⟨(some 39), (.move (.tmp 38)), 4, "", #[], none⟩,
  ⟨(some 40), (.move (.tmp 7)), 25, "", #[], (some (39, false))⟩,
  ⟨(some 41), (.binOp .neq 25 (.tmp 40) (.const (.int .i64 0)) 25), 4, "", #[], (some (39, false))⟩,
  ⟨(some 42), (.pick (.tmp 39) (.const (.bool true)) (.tmp 41)), 4, "", #[], none⟩]
def F5.r6 : List Oper := [
  ⟨(some 43), (.move (.tmp 5)), 4, "", #[], none⟩,
  ⟨none, (.store 4 (.tmp 4) (.tmp 43)), 0, "", #[⟨0, .chain⟩], none⟩]
def F5.r7 : List Oper := [
  ⟨(some 45), (.move (.tmp 6)), 9, "", #[], none⟩,
  ⟨(some 46), (.call ⟨(.value (.func 13)), #[(.tmp 45)], #[9]⟩), 29, "", #[⟨0, .chain⟩], none⟩,
  ⟨(some 44), (.move (.tmp 46)), 29, "", #[], none⟩,
  ⟨(some 47), (.extract (.tmp 44) 0), 28, "", #[], none⟩,
  ⟨(some 48), (.extract (.tmp 44) 1), 25, "", #[], none⟩,
  ⟨(some 49), (.extract (.tmp 44) 2), 3, "", #[], none⟩,
  ⟨(some 8), (.assign (.tmp 47)), 28, "", #[], none⟩,
  ⟨(some 9), (.assign (.tmp 48)), 25, "", #[], none⟩,
  ⟨(some 10), (.assign (.tmp 49)), 3, "", #[], none⟩]
def F5.r8 : List Oper := [
  ⟨(some 50), (.move (.tmp 8)), 28, "", #[], none⟩,
  ⟨(some 51), (.binOp .eql 28 (.tmp 50) (.const (.pointer none)) 28), 4, "", #[], none⟩,
  ⟨(some 52), (.move (.tmp 51)), 4, "", #[], none⟩,
  ⟨(some 53), (.move (.tmp 9)), 25, "", #[], (some (52, false))⟩,
  ⟨(some 54), (.binOp .neq 25 (.tmp 53) (.const (.int .i64 0)) 25), 4, "", #[], (some (52, false))⟩,
  ⟨(some 55), (.pick (.tmp 52) (.const (.bool true)) (.tmp 54)), 4, "", #[], none⟩]
def F5.r9 : List Oper := [
  ⟨none, (.store 4 (.tmp 4) (.const (.bool false))), 0, "", #[⟨0, .chain⟩], none⟩]
def F5.r10 : List Oper := [
  ⟨(some 56), (.move (.tmp 8)), 28, "", #[], none⟩,
  ⟨(some 57), (.call ⟨(.value (.func 18)), #[(.tmp 56)], #[28]⟩), 42, "", #[⟨0, .chain⟩], none⟩,
  ⟨(some 11), (.alloc 42), 0, "", #[⟨0, .chain⟩], none⟩,
  ⟨none, (.store 42 (.tmp 11) (.tmp 57)), 0, "", #[⟨0, .chain⟩], none⟩]
def F5.r11 : List Oper := [
  ⟨(some 58), (.load 42 (.tmp 11)), 42, "", #[⟨0, .data⟩], none⟩,
  ⟨(some 59), (.binOp .eql 42 (.tmp 58) (.const .nilFunc) 42), 4, "", #[], none⟩]
def F5.r12 : List Oper := [
  ⟨none, (.store 4 (.tmp 4) (.const (.bool false))), 0, "", #[⟨0, .chain⟩], none⟩]
def F5.r13 : List Oper := [
  ⟨(some 60), (.build 35 #[]), 35, "", #[], none⟩,
  ⟨(some 61), (.box 35 (.tmp 60)), 31, "", #[⟨0, .chain⟩], none⟩,
  ⟨(some 12), (.alloc 31), 0, "", #[⟨0, .chain⟩], none⟩,
  ⟨none, (.store 31 (.tmp 12) (.tmp 61)), 0, "", #[⟨0, .chain⟩], none⟩]
def F5.r14 : List Oper := [
  ⟨(some 62), (.move (.tmp 1)), 3, "", #[], none⟩,
  ⟨(some 63), (.load 23 (.tmp 2)), 23, "", #[⟨0, .data⟩], none⟩,
  ⟨(some 64), (.call ⟨(.builtin .len), #[(.tmp 63)], #[23]⟩), 3, "", #[], none⟩,
  ⟨(some 65), (.binOp .add 3 (.tmp 64) (.const (.int .i64 1)) 3), 3, "", #[], none⟩,
  ⟨(some 66), (.call ⟨(.value (.func 19)), #[(.tmp 62), (.tmp 65)], #[3, 3]⟩), 3, "", #[⟨0, .chain⟩], none⟩,
  ⟨(some 67), (.binOp .add 3 (.const (.int .i64 1)) (.tmp 66) 3), 3, "", #[], none⟩,
  ⟨(some 13), (.alloc 3), 0, "", #[⟨0, .chain⟩], none⟩,
  ⟨none, (.store 3 (.tmp 13) (.tmp 67)), 0, "", #[⟨0, .chain⟩], none⟩]
def F5.r15 : List Oper := [
  ⟨(some 14), (.alloc 3), 0, "", #[⟨0, .chain⟩], none⟩,
  ⟨none, (.store 3 (.tmp 14) (.const (.int .i64 0))), 0, "", #[⟨0, .chain⟩], none⟩]
def F5.r16 : List Oper := [
  ⟨(some 68), (.load 42 (.tmp 11)), 42, "", #[⟨0, .data⟩], none⟩]
def F5.r17 : List Oper := [
  ⟨(some 15), (.alloc 46), 0, "", #[⟨0, .chain⟩], none⟩,
  ⟨none, (.store 46 (.tmp 15) (.tmp 69)), 0, "", #[⟨0, .chain⟩], none⟩]
def F5.r18 : List Oper := [
  ⟨(some 70), (.load 3 (.tmp 14)), 3, "", #[⟨0, .data⟩], none⟩,
  ⟨(some 71), (.load 23 (.tmp 2)), 23, "", #[⟨0, .data⟩], none⟩,
  ⟨(some 72), (.call ⟨(.builtin .len), #[(.tmp 71)], #[23]⟩), 3, "", #[], none⟩,
  ⟨(some 73), (.binOp .lss 3 (.tmp 70) (.tmp 72) 3), 4, "", #[], none⟩,
  ⟨(some 74), (.move (.tmp 73)), 4, "", #[], none⟩,
  ⟨(some 75), (.fieldAddr 46 (.tmp 15) 0), 0, "", #[], (some (74, true))⟩,
  ⟨(some 76), (.load 9 (.tmp 75)), 9, "", #[⟨0, .data⟩], (some (74, true))⟩,
  ⟨(some 77), (.load 23 (.tmp 2)), 23, "", #[⟨0, .data⟩], (some (74, true))⟩,
  ⟨(some 78), (.load 3 (.tmp 14)), 3, "", #[⟨0, .data⟩], (some (74, true))⟩,
  ⟨(some 79), (.indexAddr 23 (.tmp 77) (.tmp 78)), 0, "", #[], (some (74, true))⟩,
  ⟨(some 80), (.fieldAddr 46 (.tmp 79) 0), 0, "", #[], (some (74, true))⟩,
  ⟨(some 81), (.load 9 (.tmp 80)), 9, "", #[⟨0, .data⟩], (some (74, true))⟩,
  ⟨(some 82), (.binOp .eql 9 (.tmp 76) (.tmp 81) 9), 4, "", #[], (some (74, true))⟩,
  ⟨(some 83), (.pick (.tmp 74) (.tmp 82) (.const (.bool false))), 4, "", #[], none⟩,
  ⟨(some 16), (.assign (.tmp 83)), 4, "", #[], none⟩]
def F5.r19 : List Oper := [
  ⟨(some 84), (.load 31 (.tmp 12)), 31, "", #[⟨0, .data⟩], none⟩,
  ⟨(some 85), (.fieldAddr 46 (.tmp 15) 2), 0, "", #[], none⟩,
  ⟨(some 86), (.load 33 (.tmp 85)), 33, "", #[⟨0, .data⟩], none⟩,
  ⟨(some 87), (.call ⟨(.value (.func 20)), #[(.tmp 84), (.tmp 86)], #[31, 33]⟩), 0, "", #[⟨0, .chain⟩], none⟩]
def F5.r20 : List Oper := [
  ⟨(some 88), (.move (.tmp 16)), 4, "", #[], none⟩,
  ⟨(some 89), (.unOp .not 4 (.tmp 88)), 4, "", #[], none⟩]
def F5.r21 : List Oper := [
  ⟨none, (.store 4 (.tmp 4) (.const (.bool false))), 0, "", #[⟨0, .chain⟩], none⟩]
def F5.r22 : List Oper := [
  ⟨(some 90), (.load 3 (.tmp 14)), 3, "", #[⟨0, .data⟩], none⟩,
  ⟨(some 91), (.binOp .add 3 (.tmp 90) (.const (.int .i64 1)) 3), 3, "", #[], none⟩,
  ⟨none, (.store 3 (.tmp 14) (.tmp 91)), 0, "", #[⟨0, .chain⟩], none⟩]
def F5.r23 : List Oper := [
  ⟨(some 92), (.load 3 (.tmp 14)), 3, "", #[⟨0, .data⟩], none⟩,
  ⟨(some 93), (.binOp .gtr 3 (.tmp 92) (.const (.int .i64 3)) 3), 4, "", #[], none⟩]
def F5.r24 : List Oper := [
  ⟨(some 17), (.alloc 3), 0, "", #[⟨0, .chain⟩], none⟩,
  ⟨none, (.store 3 (.tmp 17) (.const (.int .i64 0))), 0, "", #[⟨0, .chain⟩], none⟩]
def F5.r25 : List Oper := [
  ⟨(some 94), (.load 42 (.tmp 11)), 42, "", #[⟨0, .data⟩], none⟩]
def F5.r26 : List Oper := [
  ⟨(some 18), (.alloc 46), 0, "", #[⟨0, .chain⟩], none⟩,
  ⟨none, (.store 46 (.tmp 18) (.tmp 95)), 0, "", #[⟨0, .chain⟩], none⟩]
def F5.r27 : List Oper := [
  ⟨(some 96), (.load 3 (.tmp 17)), 3, "", #[⟨0, .data⟩], none⟩,
  ⟨(some 97), (.load 23 (.tmp 2)), 23, "", #[⟨0, .data⟩], none⟩,
  ⟨(some 98), (.call ⟨(.builtin .len), #[(.tmp 97)], #[23]⟩), 3, "", #[], none⟩,
  ⟨(some 99), (.binOp .lss 3 (.tmp 96) (.tmp 98) 3), 4, "", #[], none⟩,
  ⟨(some 100), (.move (.tmp 99)), 4, "", #[], none⟩,
  ⟨(some 101), (.fieldAddr 46 (.tmp 18) 0), 0, "", #[], (some (100, true))⟩,
  ⟨(some 102), (.load 9 (.tmp 101)), 9, "", #[⟨0, .data⟩], (some (100, true))⟩,
  ⟨(some 103), (.load 23 (.tmp 2)), 23, "", #[⟨0, .data⟩], (some (100, true))⟩,
  ⟨(some 104), (.load 3 (.tmp 17)), 3, "", #[⟨0, .data⟩], (some (100, true))⟩,
  ⟨(some 105), (.indexAddr 23 (.tmp 103) (.tmp 104)), 0, "", #[], (some (100, true))⟩,
  ⟨(some 106), (.fieldAddr 46 (.tmp 105) 0), 0, "", #[], (some (100, true))⟩,
  ⟨(some 107), (.load 9 (.tmp 106)), 9, "", #[⟨0, .data⟩], (some (100, true))⟩,
  ⟨(some 108), (.binOp .eql 9 (.tmp 102) (.tmp 107) 9), 4, "", #[], (some (100, true))⟩,
  ⟨(some 109), (.pick (.tmp 100) (.tmp 108) (.const (.bool false))), 4, "", #[], none⟩,
  ⟨(some 110), (.move (.tmp 109)), 4, "", #[], none⟩,
  ⟨(some 111), (.fieldAddr 46 (.tmp 18) 3), 0, "", #[], (some (110, true))⟩,
  ⟨(some 112), (.load 9 (.tmp 111)), 9, "", #[⟨0, .data⟩], (some (110, true))⟩,
  ⟨(some 113), (.load 23 (.tmp 2)), 23, "", #[⟨0, .data⟩], (some (110, true))⟩,
  ⟨(some 114), (.load 3 (.tmp 17)), 3, "", #[⟨0, .data⟩], (some (110, true))⟩,
  ⟨(some 115), (.indexAddr 23 (.tmp 113) (.tmp 114)), 0, "", #[], (some (110, true))⟩,
  ⟨(some 116), (.fieldAddr 46 (.tmp 115) 3), 0, "", #[], (some (110, true))⟩,
  ⟨(some 117), (.load 9 (.tmp 116)), 9, "", #[⟨0, .data⟩], (some (110, true))⟩,
  ⟨(some 118), (.binOp .eql 9 (.tmp 112) (.tmp 117) 9), 4, "", #[], (some (110, true))⟩,
  ⟨(some 119), (.pick (.tmp 110) (.tmp 118) (.const (.bool false))), 4, "", #[], none⟩,
  ⟨(some 19), (.assign (.tmp 119)), 4, "", #[], none⟩]
def F5.r28 : List Oper := [
  ⟨(some 120), (.load 31 (.tmp 12)), 31, "", #[⟨0, .data⟩], none⟩,
  ⟨(some 121), (.fieldAddr 46 (.tmp 18) 2), 0, "", #[], none⟩,
  ⟨(some 122), (.load 33 (.tmp 121)), 33, "", #[⟨0, .data⟩], none⟩,
  ⟨(some 123), (.call ⟨(.value (.func 20)), #[(.tmp 120), (.tmp 122)], #[31, 33]⟩), 0, "", #[⟨0, .chain⟩], none⟩]
def F5.r29 : List Oper := [
  ⟨(some 124), (.move (.tmp 19)), 4, "", #[], none⟩,
  ⟨(some 125), (.unOp .not 4 (.tmp 124)), 4, "", #[], none⟩]
def F5.r30 : List Oper := [
  ⟨none, (.store 4 (.tmp 4) (.const (.bool false))), 0, "", #[⟨0, .chain⟩], none⟩]
def F5.r31 : List Oper := [
  ⟨(some 126), (.load 3 (.tmp 17)), 3, "", #[⟨0, .data⟩], none⟩,
  ⟨(some 127), (.binOp .add 3 (.tmp 126) (.const (.int .i64 1)) 3), 3, "", #[], none⟩,
  ⟨none, (.store 3 (.tmp 17) (.tmp 127)), 0, "", #[⟨0, .chain⟩], none⟩]
def F5.r32 : List Oper := [
  ⟨(some 128), (.load 3 (.tmp 17)), 3, "", #[⟨0, .data⟩], none⟩,
  ⟨(some 129), (.load 3 (.tmp 13)), 3, "", #[⟨0, .data⟩], none⟩,
  ⟨(some 130), (.binOp .eql 3 (.tmp 128) (.tmp 129) 3), 4, "", #[], none⟩]
def F5.r33 : List Oper := [
  ⟨(some 131), (.load 3 (.tmp 17)), 3, "", #[⟨0, .data⟩], none⟩,
  ⟨(some 132), (.load 3 (.tmp 13)), 3, "", #[⟨0, .data⟩], none⟩,
  ⟨(some 133), (.load 23 (.tmp 2)), 23, "", #[⟨0, .data⟩], none⟩,
  ⟨(some 134), (.call ⟨(.builtin .len), #[(.tmp 133)], #[23]⟩), 3, "", #[], none⟩,
  ⟨(some 135), (.call ⟨(.builtin .min), #[(.tmp 132), (.tmp 134)], #[3, 3]⟩), 3, "", #[], none⟩,
  ⟨(some 136), (.binOp .neq 3 (.tmp 131) (.tmp 135) 3), 4, "", #[], none⟩]
def F5.r34 : List Oper := [
  ⟨none, (.store 4 (.tmp 4) (.const (.bool false))), 0, "", #[⟨0, .chain⟩], none⟩]
def F5.r35 : List Oper := [
  ⟨(some 138), (.move (.tmp 8)), 28, "", #[], none⟩,
  ⟨(some 139), (.load 31 (.tmp 12)), 31, "", #[⟨0, .data⟩], none⟩,
  ⟨(some 140), (.call ⟨(.value (.func 14)), #[(.tmp 138), (.const (.int .i64 0)), (.tmp 139)], #[28, 3, 31]⟩), 36, "", #[⟨0, .chain⟩], none⟩,
  ⟨(some 137), (.move (.tmp 140)), 36, "", #[], none⟩,
  ⟨(some 141), (.extract (.tmp 137) 0), 23, "", #[], none⟩,
  ⟨(some 142), (.extract (.tmp 137) 1), 4, "", #[], none⟩,
  ⟨(some 20), (.assign (.tmp 141)), 23, "", #[], none⟩,
  ⟨(some 21), (.assign (.tmp 142)), 4, "", #[], none⟩]
def F5.r36 : List Oper := [
  ⟨(some 143), (.move (.tmp 20)), 23, "", #[], none⟩,
  ⟨(some 144), (.load 23 (.tmp 2)), 23, "", #[⟨0, .data⟩], none⟩,
  ⟨(some 145), (.call ⟨(.value (.func 15)), #[(.tmp 143), (.tmp 144)], #[23, 23]⟩), 4, "", #[⟨0, .chain⟩], none⟩,
  ⟨(some 22), (.assign (.tmp 145)), 4, "", #[], none⟩]
def F5.r37 : List Oper := [
  ⟨(some 146), (.load 31 (.tmp 12)), 31, "", #[⟨0, .data⟩], none⟩,
  ⟨(some 147), (.call ⟨(.value (.func 21)), #[(.tmp 146)], #[31]⟩), 4, "", #[⟨0, .chain⟩], none⟩,
  ⟨(some 23), (.assign (.tmp 147)), 4, "", #[], none⟩]
def F5.r38 : List Oper := [
  ⟨(some 149), (.move (.tmp 8)), 28, "", #[], none⟩,
  ⟨(some 150), (.load 31 (.tmp 12)), 31, "", #[⟨0, .data⟩], none⟩,
  ⟨(some 151), (.call ⟨(.value (.func 14)), #[(.tmp 149), (.const (.int .i64 0)), (.tmp 150)], #[28, 3, 31]⟩), 36, "", #[⟨0, .chain⟩], none⟩,
  ⟨(some 148), (.move (.tmp 151)), 36, "", #[], none⟩,
  ⟨(some 152), (.extract (.tmp 148) 0), 23, "", #[], none⟩,
  ⟨(some 153), (.extract (.tmp 148) 1), 4, "", #[], none⟩,
  ⟨(some 24), (.assign (.tmp 152)), 23, "", #[], none⟩,
  ⟨(some 25), (.assign (.tmp 153)), 4, "", #[], none⟩]
def F5.r39 : List Oper := [
  ⟨(some 154), (.move (.tmp 24)), 23, "", #[], none⟩,
  ⟨(some 155), (.load 23 (.tmp 2)), 23, "", #[⟨0, .data⟩], none⟩,
  ⟨(some 156), (.call ⟨(.value (.func 15)), #[(.tmp 154), (.tmp 155)], #[23, 23]⟩), 4, "", #[⟨0, .chain⟩], none⟩,
  ⟨(some 26), (.assign (.tmp 156)), 4, "", #[], none⟩]
def F5.r40 : List Oper := [
  ⟨(some 157), (.load 31 (.tmp 12)), 31, "", #[⟨0, .data⟩], none⟩,
  ⟨(some 158), (.call ⟨(.value (.func 16)), #[(.tmp 157)], #[31]⟩), 4, "", #[⟨0, .chain⟩], none⟩,
  ⟨(some 27), (.assign (.tmp 158)), 4, "", #[], none⟩]
def F5.r41 : List Oper := [
  ⟨(some 159), (.load 3 (.tmp 14)), 3, "", #[⟨0, .data⟩], none⟩,
  ⟨(some 160), (.load 23 (.tmp 2)), 23, "", #[⟨0, .data⟩], none⟩,
  ⟨(some 161), (.call ⟨(.builtin .len), #[(.tmp 160)], #[23]⟩), 3, "", #[], none⟩,
  ⟨(some 162), (.binOp .eql 3 (.tmp 159) (.tmp 161) 3), 4, "", #[], none⟩,
  ⟨(some 163), (.move (.tmp 162)), 4, "", #[], none⟩,
  ⟨(some 164), (.move (.tmp 21)), 4, "", #[], (some (163, true))⟩,
  ⟨(some 165), (.pick (.tmp 163) (.tmp 164) (.const (.bool false))), 4, "", #[], none⟩,
  ⟨(some 166), (.move (.tmp 165)), 4, "", #[], none⟩,
  ⟨(some 167), (.move (.tmp 22)), 4, "", #[], (some (166, true))⟩,
  ⟨(some 168), (.pick (.tmp 166) (.tmp 167) (.const (.bool false))), 4, "", #[], none⟩,
  ⟨(some 169), (.move (.tmp 168)), 4, "", #[], none⟩,
  ⟨(some 170), (.move (.tmp 23)), 4, "", #[], (some (169, true))⟩,
  ⟨(some 171), (.pick (.tmp 169) (.tmp 170) (.const (.bool false))), 4, "", #[], none⟩,
  ⟨(some 172), (.move (.tmp 171)), 4, "", #[], none⟩,
  ⟨(some 173), (.move (.tmp 25)), 4, "", #[], (some (172, true))⟩,
  ⟨(some 174), (.pick (.tmp 172) (.tmp 173) (.const (.bool false))), 4, "", #[], none⟩,
  ⟨(some 175), (.move (.tmp 174)), 4, "", #[], none⟩,
  ⟨(some 176), (.move (.tmp 26)), 4, "", #[], (some (175, true))⟩,
  ⟨(some 177), (.pick (.tmp 175) (.tmp 176) (.const (.bool false))), 4, "", #[], none⟩,
  ⟨(some 178), (.move (.tmp 177)), 4, "", #[], none⟩,
  ⟨(some 179), (.move (.tmp 27)), 4, "", #[], (some (178, true))⟩,
  ⟨(some 180), (.pick (.tmp 178) (.tmp 179) (.const (.bool false))), 4, "", #[], none⟩,
  ⟨none, (.store 4 (.tmp 4) (.tmp 180)), 0, "", #[⟨0, .chain⟩], none⟩]
def F5.a0 : Cd := (.region 26 F5.r26.toArray false)
def F5.b0 : Cd := (.block 3 (.seq (.region 27 F5.r27.toArray true) (.seq (.region 28 F5.r28.toArray false) (.seq (.seq (.region 29 F5.r29.toArray false) (.cond (.tmp 125) (.seq (.region 30 F5.r30.toArray false) .ret) .skip)) (.seq (.region 31 F5.r31.toArray false) (.seq (.region 32 F5.r32.toArray false) (.cond (.tmp 130) (.exit 2) .skip)))))))
def F5.a1 : Cd := (.region 17 F5.r17.toArray false)
def F5.b1 : Cd := (.block 1 (.seq (.region 18 F5.r18.toArray true) (.seq (.region 19 F5.r19.toArray false) (.seq (.seq (.region 20 F5.r20.toArray false) (.cond (.tmp 89) (.seq (.region 21 F5.r21.toArray false) .ret) .skip)) (.seq (.region 22 F5.r22.toArray false) (.seq (.seq (.region 23 F5.r23.toArray false) (.cond (.tmp 93) (.exit 1) .skip)) (.seq (.region 24 F5.r24.toArray false) (.seq (.seq (.region 25 F5.r25.toArray false) (.block 2 (.rangeFunc (.tmp 94) #[95] F5.a0 F5.b0))) (.seq (.region 33 F5.r33.toArray false) (.cond (.tmp 136) (.seq (.region 34 F5.r34.toArray false) .ret) .skip))))))))))
def F5.t35 : Cd := (.seq (.region 35 F5.r35.toArray false) (.seq (.region 36 F5.r36.toArray false) (.seq (.region 37 F5.r37.toArray false) (.seq (.region 38 F5.r38.toArray false) (.seq (.region 39 F5.r39.toArray false) (.seq (.region 40 F5.r40.toArray false) (.seq (.region 41 F5.r41.toArray false) .ret)))))))
theorem F5.t35_eq {P : Program} {Q : Post} {e : FA} {w : World} {θ : Tag (F5.t35, Q, e, w)} : cwE P F5.t35 Q e w θ = cwE P (.seq (.region 35 F5.r35.toArray false) (.seq (.region 36 F5.r36.toArray false) (.seq (.region 37 F5.r37.toArray false) (.seq (.region 38 F5.r38.toArray false) (.seq (.region 39 F5.r39.toArray false) (.seq (.region 40 F5.r40.toArray false) (.seq (.region 41 F5.r41.toArray false) .ret))))))) Q e w := rfl
def F5.t13 : Cd := (.seq (.region 13 F5.r13.toArray false) (.seq (.region 14 F5.r14.toArray false) (.seq (.region 15 F5.r15.toArray false) (.seq (.seq (.region 16 F5.r16.toArray false) (.block 0 (.rangeFunc (.tmp 68) #[69] F5.a1 F5.b1))) F5.t35))))
theorem F5.t13_eq {P : Program} {Q : Post} {e : FA} {w : World} {θ : Tag (F5.t13, Q, e, w)} : cwE P F5.t13 Q e w θ = cwE P (.seq (.region 13 F5.r13.toArray false) (.seq (.region 14 F5.r14.toArray false) (.seq (.region 15 F5.r15.toArray false) (.seq (.seq (.region 16 F5.r16.toArray false) (.block 0 (.rangeFunc (.tmp 68) #[69] F5.a1 F5.b1))) F5.t35)))) Q e w := rfl
def F5.t10 : Cd := (.seq (.region 10 F5.r10.toArray false) (.seq (.seq (.region 11 F5.r11.toArray false) (.cond (.tmp 59) (.seq (.region 12 F5.r12.toArray false) .ret) .skip)) F5.t13))
theorem F5.t10_eq {P : Program} {Q : Post} {e : FA} {w : World} {θ : Tag (F5.t10, Q, e, w)} : cwE P F5.t10 Q e w θ = cwE P (.seq (.region 10 F5.r10.toArray false) (.seq (.seq (.region 11 F5.r11.toArray false) (.cond (.tmp 59) (.seq (.region 12 F5.r12.toArray false) .ret) .skip)) F5.t13)) Q e w := rfl
def F5.t7 : Cd := (.seq (.region 7 F5.r7.toArray false) (.seq (.seq (.region 8 F5.r8.toArray false) (.cond (.tmp 55) (.seq (.region 9 F5.r9.toArray false) .ret) .skip)) F5.t10))
theorem F5.t7_eq {P : Program} {Q : Post} {e : FA} {w : World} {θ : Tag (F5.t7, Q, e, w)} : cwE P F5.t7 Q e w θ = cwE P (.seq (.region 7 F5.r7.toArray false) (.seq (.seq (.region 8 F5.r8.toArray false) (.cond (.tmp 55) (.seq (.region 9 F5.r9.toArray false) .ret) .skip)) F5.t10)) Q e w := rfl
def F5.t3 : Cd := (.seq (.region 3 F5.r3.toArray false) (.seq (.region 4 F5.r4.toArray false) (.seq (.seq (.region 5 F5.r5.toArray false) (.cond (.tmp 42) (.seq (.region 6 F5.r6.toArray false) .ret) .skip)) F5.t7)))
theorem F5.t3_eq {P : Program} {Q : Post} {e : FA} {w : World} {θ : Tag (F5.t3, Q, e, w)} : cwE P F5.t3 Q e w θ = cwE P (.seq (.region 3 F5.r3.toArray false) (.seq (.region 4 F5.r4.toArray false) (.seq (.seq (.region 5 F5.r5.toArray false) (.cond (.tmp 42) (.seq (.region 6 F5.r6.toArray false) .ret) .skip)) F5.t7))) Q e w := rfl
def F5.code : Cd := (.seq (.region 0 F5.r0.toArray false) (.seq (.seq (.region 1 F5.r1.toArray false) (.cond (.tmp 30) (.seq (.region 2 F5.r2.toArray false) .ret) .skip)) F5.t3))
theorem F5.calls {args : Array Value} {w : World} {R : Ending → World → Prop} (hn : args.size ≤ 181) (h : cwE Tryd.prog F5.code (fnP Tryd.prog #[(.cell 4 4)] R) (entry args) w) : Calls Tryd.prog 5 args w R :=
  calls_of_cwE (types := Tryd.prog.types) follows Tryd.func5 F5.code rfl (by kernel_rfl) hn h

def F6.r0 : List Oper := [
  ⟨(some 2), (.assign (.const (.bool false))), 4, "", #[], none⟩]
def F6.r1 : List Oper := [
  ⟨(some 16), (.call ⟨(.value (.func 10)), #[], #[]⟩), 4, "", #[⟨0, .chain⟩], none⟩,
  ⟨(some 3), (.assign (.tmp 16)), 4, "", #[], none⟩]
def F6.r2 : List Oper := [
  ⟨(some 17), (.move (.tmp 0)), 49, "", #[], none⟩,
  ⟨(some 18), (.call ⟨(.value (.func 22)), #[(.tmp 17)], #[49]⟩), 23, "", #[⟨0, .chain⟩], none⟩,
  ⟨(some 4), (.assign (.tmp 18)), 23, "", #[], none⟩]
def F6.r3 : List Oper := [
  ⟨(some 19), (.move (.tmp 4)), 23, "", #[], none⟩,
  ⟨(some 20), (.call ⟨(.value (.func 23)), #[(.tmp 19)], #[23]⟩), 28, "", #[⟨0, .chain⟩], none⟩,
  ⟨(some 5), (.assign (.tmp 20)), 28, "", #[], none⟩]
def F6.r4 : List Oper := [
  ⟨(some 21), (.move (.tmp 3)), 4, "", #[], none⟩,
  ⟨(some 22), (.unOp .not 4 (.tmp 21)), 4, "", #[], none⟩,
  ⟨(some 23), (.move (.tmp 22)), 4, "", #[], none⟩,
  ⟨(some 24), (.move (.tmp 5)), 28, "", #[], (some (23, false))⟩,
  ⟨(some 25), (.binOp .eql 28 (.tmp 24) (.const (.pointer none)) 28), 4, "", #[], (some (23, false))⟩,
  ⟨(some 26), (.pick (.tmp 23) (.const (.bool true)) (.tmp 25)), 4, "", #[], none⟩]
def F6.r5 : List Oper := [
  ⟨(some 2), (.assign (.const (.bool false))), 4, "", #[], none⟩]
def F6.r6 : List Oper := [
  ⟨(some 6), (.assign (.const (.int .i64 0))), 3, "", #[], none⟩]
def F6.r7 : List Oper := [
  ⟨(some 27), (.move (.tmp 6)), 3, "", #[], none⟩,
  ⟨(some 28), (.move (.tmp 4)), 23, "", #[], none⟩,
  ⟨(some 29), (.call ⟨(.builtin .len), #[(.tmp 28)], #[23]⟩), 3, "", #[], none⟩,
  ⟨(some 30), (.binOp .lss 3 (.tmp 27) (.tmp 29) 3), 4, "", #[], none⟩]
def F6.r9 : List Oper := [
  ⟨(some 33), (.move (.tmp 4)), 23, "", #[], none⟩,
  ⟨(some 34), (.move (.tmp 6)), 3, "", #[], none⟩,
  ⟨(some 35), (.indexAddr 23 (.tmp 33) (.tmp 34)), 0, "", #[], none⟩,
  ⟨(some 36), (.fieldAddr 46 (.tmp 35) 0), 0, "", #[], none⟩,
  ⟨(some 37), (.load 9 (.tmp 36)), 9, "", #[⟨0, .data⟩], none⟩,
  ⟨(some 7), (.assign (.tmp 37)), 9, "", #[], none⟩]
def F6.r10 : List Oper := [
  ⟨(some 38), (.move (.tmp 5)), 28, "", #[], none⟩,
  ⟨(some 39), (.move (.tmp 7)), 9, "", #[], none⟩,
  ⟨(some 40), (.call ⟨(.value (.func 24)), #[(.tmp 38), (.tmp 39)], #[28, 9]⟩), 33, "", #[⟨0, .chain⟩], none⟩,
  ⟨(some 8), (.assign (.tmp 40)), 33, "", #[], none⟩]
def F6.r11 : List Oper := [
  ⟨(some 9), (.assign (.const (.int .i64 0))), 3, "", #[], none⟩]
def F6.r12 : List Oper := [
  ⟨(some 10), (.assign (.const (.int .i64 0))), 3, "", #[], none⟩]
def F6.r13 : List Oper := [
  ⟨(some 41), (.move (.tmp 10)), 3, "", #[], none⟩,
  ⟨(some 42), (.move (.tmp 4)), 23, "", #[], none⟩,
  ⟨(some 43), (.call ⟨(.builtin .len), #[(.tmp 42)], #[23]⟩), 3, "", #[], none⟩,
  ⟨(some 44), (.binOp .lss 3 (.tmp 41) (.tmp 43) 3), 4, "", #[], none⟩]
def F6.r15 : List Oper := [
  ⟨(some 47), (.move (.tmp 4)), 23, "", #[], none⟩,
  ⟨(some 48), (.move (.tmp 10)), 3, "", #[], none⟩,
  ⟨(some 49), (.indexAddr 23 (.tmp 47) (.tmp 48)), 0, "", #[], none⟩,
  ⟨(some 50), (.fieldAddr 46 (.tmp 49) 2), 0, "", #[], none⟩,
  ⟨(some 51), (.load 33 (.tmp 50)), 33, "", #[⟨0, .data⟩], none⟩,
  ⟨(some 52), (.move (.tmp 7)), 9, "", #[], none⟩,
  ⟨(some 53), (.call ⟨(.value (.func 25)), #[(.tmp 51), (.tmp 52)], #[33, 9]⟩), 4, "", #[⟨0, .chain⟩], none⟩,
  ⟨(some 11), (.assign (.tmp 53)), 4, "", #[], none⟩]
def F6.r16 : List Oper := [
  ⟨(some 54), (.move (.tmp 6)), 3, "", #[], none⟩,
  ⟨(some 55), (.move (.tmp 10)), 3, "", #[], none⟩,
  ⟨(some 56), (.binOp .eql 3 (.tmp 54) (.tmp 55) 3), 4, "", #[], none⟩,
  ⟨(some 57), (.move (.tmp 56)), 4, "", #[], none⟩,
  ⟨(some 58), (.move (.tmp 11)), 4, "", #[], (some (57, false))⟩,
  ⟨(some 59), (.pick (.tmp 57) (.const (.bool true)) (.tmp 58)), 4, "", #[], none⟩,
  ⟨(some 12), (.assign (.tmp 59)), 4, "", #[], none⟩]
def F6.r17 : List Oper := [
  ⟨(some 60), (.move (.tmp 4)), 23, "", #[], none⟩,
  ⟨(some 61), (.move (.tmp 10)), 3, "", #[], none⟩,
  ⟨(some 62), (.indexAddr 23 (.tmp 60) (.tmp 61)), 0, "", #[], none⟩,
  ⟨(some 63), (.fieldAddr 46 (.tmp 62) 1), 0, "", #[], none⟩,
  ⟨(some 64), (.load 9 (.tmp 63)), 9, "", #[⟨0, .data⟩], none⟩,
  ⟨(some 65), (.move (.tmp 7)), 9, "", #[], none⟩,
  ⟨(some 66), (.binOp .eql 9 (.tmp 64) (.tmp 65) 9), 4, "", #[], none⟩,
  ⟨(some 67), (.move (.tmp 66)), 4, "", #[], none⟩,
  ⟨(some 68), (.move (.tmp 4)), 23, "", #[], (some (67, false))⟩,
  ⟨(some 69), (.move (.tmp 10)), 3, "", #[], (some (67, false))⟩,
  ⟨(some 70), (.indexAddr 23 (.tmp 68) (.tmp 69)), 0, "", #[], (some (67, false))⟩,
  ⟨(some 71), (.fieldAddr 46 (.tmp 70) 1), 0, "", #[], (some (67, false))⟩,
  ⟨(some 72), (.load 9 (.tmp 71)), 9, "", #[⟨0, .data⟩], (some (67, false))⟩,
  ⟨(some 73), (.binOp .eql 9 (.tmp 72) (.const (.string { data := #[] })) 9), 4, "", #[], (some (67, false))⟩,
  ⟨(some 74), (.move (.tmp 73)), 4, "", #[], (some (67, false))⟩,
  ⟨(some 75), (.move (.tmp 12)), 4, "", #[], (some (74, true))⟩,
  ⟨(some 76), (.pick (.tmp 74) (.tmp 75) (.const (.bool false))), 4, "", #[], (some (67, false))⟩,
  ⟨(some 77), (.pick (.tmp 67) (.const (.bool true)) (.tmp 76)), 4, "", #[], none⟩,
  ⟨(some 13), (.assign (.tmp 77)), 4, "", #[], none⟩]
def F6.r18 : List Oper := [
  ⟨(some 78), (.move (.tmp 5)), 28, "", #[], none⟩,
  ⟨(some 79), (.move (.tmp 7)), 9, "", #[], none⟩,
  ⟨(some 80), (.move (.tmp 4)), 23, "", #[], none⟩,
  ⟨(some 81), (.move (.tmp 10)), 3, "", #[], none⟩,
  ⟨(some 82), (.indexAddr 23 (.tmp 80) (.tmp 81)), 0, "", #[], none⟩,
  ⟨(some 83), (.fieldAddr 46 (.tmp 82) 0), 0, "", #[], none⟩,
  ⟨(some 84), (.load 9 (.tmp 83)), 9, "", #[⟨0, .data⟩], none⟩,
  ⟨(some 85), (.call ⟨(.value (.func 26)), #[(.tmp 78), (.tmp 79), (.tmp 84)], #[28, 9, 9]⟩), 4, "", #[⟨0, .chain⟩], none⟩,
  ⟨(some 86), (.move (.tmp 12)), 4, "", #[], none⟩,
  ⟨(some 87), (.binOp .neq 4 (.tmp 85) (.tmp 86) 4), 4, "", #[], none⟩,
  ⟨(some 88), (.move (.tmp 87)), 4, "", #[], none⟩,
  ⟨(some 89), (.move (.tmp 5)), 28, "", #[], (some (88, false))⟩,
  ⟨(some 90), (.move (.tmp 7)), 9, "", #[], (some (88, false))⟩,
  ⟨(some 91), (.move (.tmp 4)), 23, "", #[], (some (88, false))⟩,
  ⟨(some 92), (.move (.tmp 10)), 3, "", #[], (some (88, false))⟩,
  ⟨(some 93), (.indexAddr 23 (.tmp 91) (.tmp 92)), 0, "", #[], (some (88, false))⟩,
  ⟨(some 94), (.fieldAddr 46 (.tmp 93) 0), 0, "", #[], (some (88, false))⟩,
  ⟨(some 95), (.load 9 (.tmp 94)), 9, "", #[⟨0, .data⟩], (some (88, false))⟩,
  ⟨(some 96), (.call ⟨(.value (.func 27)), #[(.tmp 89), (.tmp 90), (.tmp 95)], #[28, 9, 9]⟩), 4, "", #[⟨0, .chain⟩], (some (88, false))⟩,
  ⟨(some 97), (.move (.tmp 13)), 4, "", #[], (some (88, false))⟩,
  ⟨(some 98), (.binOp .neq 4 (.tmp 96) (.tmp 97) 4), 4, "", #[], (some (88, false))⟩,
  ⟨(some 99), (.pick (.tmp 88) (.const (.bool true)) (.tmp 98)), 4, "", #[], none⟩]
def F6.r19 : List Oper := [
  ⟨(some 2), (.assign (.const (.bool false))), 4, "", #[], none⟩]
def F6.r20 : List Oper := [
  ⟨(some 100), (.move (.tmp 8)), 33, "", #[], none⟩,
  ⟨(some 101), (.move (.tmp 4)), 23, "", #[], none⟩,
  ⟨(some 102), (.move (.tmp 10)), 3, "", #[], none⟩,
  ⟨(some 103), (.indexAddr 23 (.tmp 101) (.tmp 102)), 0, "", #[], none⟩,
  ⟨(some 104), (.fieldAddr 46 (.tmp 103) 0), 0, "", #[], none⟩,
  ⟨(some 105), (.load 9 (.tmp 104)), 9, "", #[⟨0, .data⟩], none⟩,
  ⟨(some 106), (.call ⟨(.value (.func 25)), #[(.tmp 100), (.tmp 105)], #[33, 9]⟩), 4, "", #[⟨0, .chain⟩], none⟩,
  ⟨(some 14), (.assign (.tmp 106)), 4, "", #[], none⟩]
def F6.r21 : List Oper := [
  ⟨(some 107), (.move (.tmp 14)), 4, "", #[], none⟩,
  ⟨(some 108), (.move (.tmp 12)), 4, "", #[], none⟩,
  ⟨(some 109), (.binOp .neq 4 (.tmp 107) (.tmp 108) 4), 4, "", #[], none⟩]
def F6.r22 : List Oper := [
  ⟨(some 2), (.assign (.const (.bool false))), 4, "", #[], none⟩]
def F6.r23 : List Oper := [
  ⟨(some 110), (.move (.tmp 12)), 4, "", #[], none⟩]
def F6.r24 : List Oper := [
  ⟨(some 111), (.move (.tmp 9)), 3, "", #[], none⟩,
  ⟨(some 112), (.binOp .add 3 (.tmp 111) (.const (.int .i64 1)) 3), 3, "", #[], none⟩,
  ⟨(some 9), (.assign (.tmp 112)), 3, "", #[], none⟩]
def F6.r14 : List Oper := [
  ⟨(some 45), (.move (.tmp 10)), 3, "", #[], none⟩,
  ⟨(some 46), (.binOp .add 3 (.tmp 45) (.const (.int .i64 1)) 3), 3, "", #[], none⟩,
  ⟨(some 10), (.assign (.tmp 46)), 3, "", #[], none⟩]
def F6.r25 : List Oper := [
  ⟨(some 113), (.move (.tmp 8)), 33, "", #[], none⟩,
  ⟨(some 114), (.call ⟨(.builtin .len), #[(.tmp 113)], #[33]⟩), 3, "", #[], none⟩,
  ⟨(some 115), (.move (.tmp 9)), 3, "", #[], none⟩,
  ⟨(some 116), (.binOp .neq 3 (.tmp 114) (.tmp 115) 3), 4, "", #[], none⟩,
  ⟨(some 117), (.move (.tmp 116)), 4, "", #[], none⟩,
  ⟨(some 118), (.move (.tmp 5)), 28, "", #[], (some (117, false))⟩,
  ⟨(some 119), (.move (.tmp 7)), 9, "", #[], (some (117, false))⟩,
  ⟨(some 121), (.move (.tmp 4)), 23, "", #[], (some (117, false))⟩,
  ⟨(some 122), (.move (.tmp 6)), 3, "", #[], (some (117, false))⟩,
  ⟨(some 123), (.indexAddr 23 (.tmp 121) (.tmp 122)), 0, "", #[], (some (117, false))⟩,
  ⟨(some 124), (.fieldAddr 46 (.tmp 123) 3), 0, "", #[], (some (117, false))⟩,
  ⟨(some 125), (.load 9 (.tmp 124)), 9, "", #[⟨554084597760, .data⟩], (some (117, false))⟩,
  ⟨(some 120), (.call ⟨(.value (.func 28)), #[(.tmp 118), (.tmp 119)], #[28, 9]⟩), 9, "", #[⟨7, .chain⟩], (some (117, false))⟩,
  ⟨(some 126), (.binOp .neq 9 (.tmp 120) (.tmp 125) 9), 4, "", #[], (some (117, false))⟩,
  ⟨(some 127), (.pick (.tmp 117) (.const (.bool true)) (.tmp 126)), 4, "", #[], none⟩,
  ⟨(some 128), (.move (.tmp 127)), 4, "", #[], none⟩,
  ⟨(some 129), (.move (.tmp 5)), 28, "", #[], (some (128, false))⟩,
  ⟨(some 130), (.move (.tmp 7)), 9, "", #[], (some (128, false))⟩,
  ⟨(some 131), (.call ⟨(.value (.func 29)), #[(.tmp 129), (.tmp 130)], #[28, 9]⟩), 4, "", #[⟨18, .chain⟩], (some (128, false))⟩,
  ⟨(some 132), (.unOp .not 4 (.tmp 131)), 4, "", #[], (some (128, false))⟩,
  ⟨(some 133), (.pick (.tmp 128) (.const (.bool true)) (.tmp 132)), 4, "", #[], none⟩,
  ⟨(some 134), (.move (.tmp 133)), 4, "", #[], none⟩,
  ⟨(some 135), (.move (.tmp 5)), 28, "", #[], (some (134, false))⟩,
  ⟨(some 136), (.move (.tmp 7)), 9, "", #[], (some (134, false))⟩,
  ⟨(some 137), (.binOp .add 9 (.tmp 136) (.const (.string { data := #[120] })) 9), 9, "", #[], (some (134, false))⟩,
  ⟨(some 138), (.call ⟨(.value (.func 29)), #[(.tmp 135), (.tmp 137)], #[28, 9]⟩), 4, "", #[⟨25, .chain⟩], (some (134, false))⟩,
  ⟨(some 139), (.pick (.tmp 134) (.const (.bool true)) (.tmp 138)), 4, "", #[], none⟩,
  ⟨(some 140), (.move (.tmp 139)), 4, "", #[], none⟩,
  ⟨(some 141), (.move (.tmp 5)), 28, "", #[], (some (140, false))⟩,
  ⟨(some 142), (.move (.tmp 7)), 9, "", #[], (some (140, false))⟩,
  ⟨(some 143), (.move (.tmp 7)), 9, "", #[], (some (140, false))⟩,
  ⟨(some 144), (.binOp .add 9 (.tmp 143) (.const (.string { data := #[120] })) 9), 9, "", #[], (some (140, false))⟩,
  ⟨(some 145), (.call ⟨(.value (.func 26)), #[(.tmp 141), (.tmp 142), (.tmp 144)], #[28, 9, 9]⟩), 4, "", #[⟨32, .chain⟩], (some (140, false))⟩,
  ⟨(some 146), (.pick (.tmp 140) (.const (.bool true)) (.tmp 145)), 4, "", #[], none⟩,
  ⟨(some 147), (.move (.tmp 146)), 4, "", #[], none⟩,
  ⟨(some 148), (.move (.tmp 5)), 28, "", #[], (some (147, false))⟩,
  ⟨(some 149), (.move (.tmp 7)), 9, "", #[], (some (147, false))⟩,
  ⟨(some 150), (.binOp .add 9 (.tmp 149) (.const (.string { data := #[120] })) 9), 9, "", #[], (some (147, false))⟩,
  ⟨(some 151), (.move (.tmp 7)), 9, "", #[], (some (147, false))⟩,
  ⟨(some 152), (.call ⟨(.value (.func 27)), #[(.tmp 148), (.tmp 150), (.tmp 151)], #[28, 9, 9]⟩), 4, "", #[⟨39, .chain⟩], (some (147, false))⟩,
  ⟨(some 153), (.pick (.tmp 147) (.const (.bool true)) (.tmp 152)), 4, "", #[], none⟩]
def F6.r26 : List Oper := [
  ⟨(some 2), (.assign (.const (.bool false))), 4, "", #[], none⟩]
def F6.r27 : List Oper := [
  ⟨(some 15), (.assign (.const (.int .i64 1))), 3, "", #[], none⟩]
def F6.r28 : List Oper := [
  ⟨(some 154), (.move (.tmp 15)), 3, "", #[], none⟩,
  ⟨(some 155), (.move (.tmp 8)), 33, "", #[], none⟩,
  ⟨(some 156), (.call ⟨(.builtin .len), #[(.tmp 155)], #[33]⟩), 3, "", #[], none⟩,
  ⟨(some 157), (.binOp .lss 3 (.tmp 154) (.tmp 156) 3), 4, "", #[], none⟩]
def F6.r30 : List Oper := [
  ⟨(some 160), (.move (.tmp 8)), 33, "", #[], none⟩,
  ⟨(some 161), (.move (.tmp 15)), 3, "", #[], none⟩,
  ⟨(some 162), (.binOp .sub 3 (.tmp 161) (.const (.int .i64 1)) 3), 3, "", #[], none⟩,
  ⟨(some 163), (.indexAddr 33 (.tmp 160) (.tmp 162)), 0, "", #[], none⟩,
  ⟨(some 165), (.move (.tmp 8)), 33, "", #[], none⟩,
  ⟨(some 166), (.move (.tmp 15)), 3, "", #[], none⟩,
  ⟨(some 167), (.indexAddr 33 (.tmp 165) (.tmp 166)), 0, "", #[], none⟩,
  ⟨(some 164), (.load 9 (.tmp 163)), 9, "", #[⟨0, .data⟩], none⟩,
  ⟨(some 168), (.load 9 (.tmp 167)), 9, "", #[⟨0, .data⟩], none⟩,
  ⟨(some 169), (.binOp .geq 9 (.tmp 164) (.tmp 168) 9), 4, "", #[], none⟩]
def F6.r31 : List Oper := [
  ⟨(some 2), (.assign (.const (.bool false))), 4, "", #[], none⟩]
def F6.r29 : List Oper := [
  ⟨(some 158), (.move (.tmp 15)), 3, "", #[], none⟩,
  ⟨(some 159), (.binOp .add 3 (.tmp 158) (.const (.int .i64 1)) 3), 3, "", #[], none⟩,
  ⟨(some 15), (.assign (.tmp 159)), 3, "", #[], none⟩]
def F6.r8 : List Oper := [
  ⟨(some 31), (.move (.tmp 6)), 3, "", #[], none⟩,
  ⟨(some 32), (.binOp .add 3 (.tmp 31) (.const (.int .i64 1)) 3), 3, "", #[], none⟩,
  ⟨(some 6), (.assign (.tmp 32)), 3, "", #[], none⟩]
def F6.r32 : List Oper := [
  ⟨(some 2), (.assign (.const (.bool true))), 4, "", #[], none⟩]
def F6.t23 : Cd := (.seq (.region 23 F6.r23.toArray false) (.cond (.tmp 110) (.region 24 F6.r24.toArray false) .skip))
theorem F6.t23_eq {P : Program} {Q : Post} {e : FA} {w : World} {θ : Tag (F6.t23, Q, e, w)} : cwE P F6.t23 Q e w θ = cwE P (.seq (.region 23 F6.r23.toArray false) (.cond (.tmp 110) (.region 24 F6.r24.toArray false) .skip)) Q e w := rfl
def F6.t20 : Cd := (.seq (.region 20 F6.r20.toArray false) (.seq (.seq (.region 21 F6.r21.toArray false) (.cond (.tmp 109) (.seq (.region 22 F6.r22.toArray false) .ret) .skip)) F6.t23))
theorem F6.t20_eq {P : Program} {Q : Post} {e : FA} {w : World} {θ : Tag (F6.t20, Q, e, w)} : cwE P F6.t20 Q e w θ = cwE P (.seq (.region 20 F6.r20.toArray false) (.seq (.seq (.region 21 F6.r21.toArray false) (.cond (.tmp 109) (.seq (.region 22 F6.r22.toArray false) .ret) .skip)) F6.t23)) Q e w := rfl
def F6.t14 : Cd := (.region 14 F6.r14.toArray false)
theorem F6.t14_eq {P : Program} {Q : Post} {e : FA} {w : World} {θ : Tag (F6.t14, Q, e, w)} : cwE P F6.t14 Q e w θ = cwE P (.region 14 F6.r14.toArray false) Q e w := rfl
def F6.t15 : Cd := (.seq (.block 3 (.seq (.region 15 F6.r15.toArray false) (.seq (.region 16 F6.r16.toArray false) (.seq (.region 17 F6.r17.toArray false) (.seq (.seq (.region 18 F6.r18.toArray false) (.cond (.tmp 99) (.seq (.region 19 F6.r19.toArray false) .ret) .skip)) F6.t20))))) F6.t14)
theorem F6.t15_eq {P : Program} {Q : Post} {e : FA} {w : World} {θ : Tag (F6.t15, Q, e, w)} : cwE P F6.t15 Q e w θ = cwE P (.seq (.block 3 (.seq (.region 15 F6.r15.toArray false) (.seq (.region 16 F6.r16.toArray false) (.seq (.region 17 F6.r17.toArray false) (.seq (.seq (.region 18 F6.r18.toArray false) (.cond (.tmp 99) (.seq (.region 19 F6.r19.toArray false) .ret) .skip)) F6.t20))))) F6.t14) Q e w := rfl
def F6.t29 : Cd := (.region 29 F6.r29.toArray false)
theorem F6.t29_eq {P : Program} {Q : Post} {e : FA} {w : World} {θ : Tag (F6.t29, Q, e, w)} : cwE P F6.t29 Q e w θ = cwE P (.region 29 F6.r29.toArray false) Q e w := rfl
def F6.t30 : Cd := (.seq (.block 5 (.seq (.region 30 F6.r30.toArray true) (.cond (.tmp 169) (.seq (.region 31 F6.r31.toArray false) .ret) .skip))) F6.t29)
theorem F6.t30_eq {P : Program} {Q : Post} {e : FA} {w : World} {θ : Tag (F6.t30, Q, e, w)} : cwE P F6.t30 Q e w θ = cwE P (.seq (.block 5 (.seq (.region 30 F6.r30.toArray true) (.cond (.tmp 169) (.seq (.region 31 F6.r31.toArray false) .ret) .skip))) F6.t29) Q e w := rfl
def F6.t27 : Cd := (.seq (.region 27 F6.r27.toArray false) (.block 4 (.loop (.seq (.seq (.region 28 F6.r28.toArray false) (.cond (.tmp 157) .skip (.exit 4))) F6.t30))))
theorem F6.t27_eq {P : Program} {Q : Post} {e : FA} {w : World} {θ : Tag (F6.t27, Q, e, w)} : cwE P F6.t27 Q e w θ = cwE P (.seq (.region 27 F6.r27.toArray false) (.block 4 (.loop (.seq (.seq (.region 28 F6.r28.toArray false) (.cond (.tmp 157) .skip (.exit 4))) F6.t30)))) Q e w := rfl
def F6.t25 : Cd := (.seq (.seq (.region 25 F6.r25.toArray true) (.cond (.tmp 153) (.seq (.region 26 F6.r26.toArray false) .ret) .skip)) F6.t27)
theorem F6.t25_eq {P : Program} {Q : Post} {e : FA} {w : World} {θ : Tag (F6.t25, Q, e, w)} : cwE P F6.t25 Q e w θ = cwE P (.seq (.seq (.region 25 F6.r25.toArray true) (.cond (.tmp 153) (.seq (.region 26 F6.r26.toArray false) .ret) .skip)) F6.t27) Q e w := rfl
def F6.t8 : Cd := (.region 8 F6.r8.toArray false)
theorem F6.t8_eq {P : Program} {Q : Post} {e : FA} {w : World} {θ : Tag (F6.t8, Q, e, w)} : cwE P F6.t8 Q e w θ = cwE P (.region 8 F6.r8.toArray false) Q e w := rfl
def F6.t9 : Cd := (.seq (.block 1 (.seq (.region 9 F6.r9.toArray false) (.seq (.region 10 F6.r10.toArray false) (.seq (.region 11 F6.r11.toArray false) (.seq (.seq (.region 12 F6.r12.toArray false) (.block 2 (.loop (.seq (.seq (.region 13 F6.r13.toArray false) (.cond (.tmp 44) .skip (.exit 2))) F6.t15)))) F6.t25))))) F6.t8)
theorem F6.t9_eq {P : Program} {Q : Post} {e : FA} {w : World} {θ : Tag (F6.t9, Q, e, w)} : cwE P F6.t9 Q e w θ = cwE P (.seq (.block 1 (.seq (.region 9 F6.r9.toArray false) (.seq (.region 10 F6.r10.toArray false) (.seq (.region 11 F6.r11.toArray false) (.seq (.seq (.region 12 F6.r12.toArray false) (.block 2 (.loop (.seq (.seq (.region 13 F6.r13.toArray false) (.cond (.tmp 44) .skip (.exit 2))) F6.t15)))) F6.t25))))) F6.t8) Q e w := rfl
def F6.t32 : Cd := (.seq (.region 32 F6.r32.toArray false) .ret)
theorem F6.t32_eq {P : Program} {Q : Post} {e : FA} {w : World} {θ : Tag (F6.t32, Q, e, w)} : cwE P F6.t32 Q e w θ = cwE P (.seq (.region 32 F6.r32.toArray false) .ret) Q e w := rfl
def F6.t6 : Cd := (.seq (.seq (.region 6 F6.r6.toArray false) (.block 0 (.loop (.seq (.seq (.region 7 F6.r7.toArray false) (.cond (.tmp 30) .skip (.exit 0))) F6.t9)))) F6.t32)
theorem F6.t6_eq {P : Program} {Q : Post} {e : FA} {w : World} {θ : Tag (F6.t6, Q, e, w)} : cwE P F6.t6 Q e w θ = cwE P (.seq (.seq (.region 6 F6.r6.toArray false) (.block 0 (.loop (.seq (.seq (.region 7 F6.r7.toArray false) (.cond (.tmp 30) .skip (.exit 0))) F6.t9)))) F6.t32) Q e w := rfl
def F6.code : Cd := (.seq (.region 0 F6.r0.toArray false) (.seq (.region 1 F6.r1.toArray false) (.seq (.region 2 F6.r2.toArray false) (.seq (.region 3 F6.r3.toArray false) (.seq (.seq (.region 4 F6.r4.toArray false) (.cond (.tmp 26) (.seq (.region 5 F6.r5.toArray false) .ret) .skip)) F6.t6)))))
theorem F6.calls {args : Array Value} {w : World} {R : Ending → World → Prop} (hn : args.size ≤ 170) (h : cwE Tryd.prog F6.code (fnP Tryd.prog #[(.tmp 2)] R) (entry args) w) : Calls Tryd.prog 6 args w R :=
  calls_of_cwE (types := Tryd.prog.types) follows Tryd.func6 F6.code rfl (by kernel_rfl) hn h

def F7.r0 : List Oper := [
  ⟨(some 4), (.assign (.const (.bool false))), 4, "", #[], none⟩]
def F7.r1 : List Oper := [
  ⟨(some 19), (.call ⟨(.value (.func 10)), #[], #[]⟩), 4, "", #[⟨0, .chain⟩], none⟩,
  ⟨(some 5), (.assign (.tmp 19)), 4, "", #[], none⟩]
def F7.r2 : List Oper := [
  ⟨(some 20), (.move (.tmp 0)), 49, "", #[], none⟩,
  ⟨(some 21), (.call ⟨(.value (.func 22)), #[(.tmp 20)], #[49]⟩), 23, "", #[⟨0, .chain⟩], none⟩,
  ⟨(some 6), (.assign (.tmp 21)), 23, "", #[], none⟩]
def F7.r3 : List Oper := [
  ⟨(some 7), (.assign (.const (.slice none 0 0))), 23, "", #[], none⟩]
def F7.r4 : List Oper := [
  ⟨(some 8), (.assign (.const (.int .i64 0))), 3, "", #[], none⟩]
def F7.r5 : List Oper := [
  ⟨(some 22), (.move (.tmp 8)), 3, "", #[], none⟩,
  ⟨(some 23), (.move (.tmp 6)), 23, "", #[], none⟩,
  ⟨(some 24), (.call ⟨(.builtin .len), #[(.tmp 23)], #[23]⟩), 3, "", #[], none⟩,
  ⟨(some 25), (.binOp .lss 3 (.tmp 22) (.tmp 24) 3), 4, "", #[], none⟩]
def F7.r7 : List Oper := [
  ⟨(some 28), (.move (.tmp 6)), 23, "", #[], none⟩,
  ⟨(some 29), (.move (.tmp 8)), 3, "", #[], none⟩,
  ⟨(some 30), (.move (.tmp 1)), 3, "", #[], none⟩,
  ⟨(some 31), (.move (.tmp 6)), 23, "", #[], none⟩,
  ⟨(some 32), (.call ⟨(.builtin .len), #[(.tmp 31)], #[23]⟩), 3, "", #[], none⟩,
  ⟨(some 33), (.call ⟨(.value (.func 19)), #[(.tmp 30), (.tmp 32)], #[3, 3]⟩), 3, "", #[⟨0, .chain⟩], none⟩,
  ⟨(some 34), (.binOp .add 3 (.tmp 29) (.tmp 33) 3), 3, "", #[], none⟩,
  ⟨(some 35), (.move (.tmp 6)), 23, "", #[], none⟩,
  ⟨(some 36), (.call ⟨(.builtin .len), #[(.tmp 35)], #[23]⟩), 3, "", #[], none⟩,
  ⟨(some 37), (.binOp .rem 3 (.tmp 34) (.tmp 36) 3), 3, "", #[], none⟩,
  ⟨(some 38), (.indexAddr 23 (.tmp 28) (.tmp 37)), 0, "", #[], none⟩,
  ⟨(some 39), (.load 46 (.tmp 38)), 46, "", #[⟨0, .data⟩], none⟩,
  ⟨(some 9), (.alloc 46), 0, "", #[⟨0, .chain⟩], none⟩,
  ⟨none, (.store 46 (.tmp 9) (.tmp 39)), 0, "", #[⟨0, .chain⟩], none⟩]
def F7.r8 : List Oper := [
  ⟨(some 10), (.assign (.const (.slice none 0 0))), 33, "", #[], none⟩]
def F7.r9 : List Oper := [
  ⟨(some 40), (.fieldAddr 46 (.tmp 9) 2), 0, "", #[], none⟩,
  ⟨(some 41), (.load 33 (.tmp 40)), 33, "", #[⟨0, .data⟩], none⟩,
  ⟨(some 42), (.call ⟨(.builtin .len), #[(.tmp 41)], #[33]⟩), 3, "", #[], none⟩,
  ⟨(some 43), (.binOp .sub 3 (.tmp 42) (.const (.int .i64 1)) 3), 3, "", #[], none⟩,
  ⟨(some 11), (.assign (.tmp 43)), 3, "", #[], none⟩]
def F7.r10 : List Oper := [
  ⟨(some 44), (.move (.tmp 11)), 3, "", #[], none⟩,
  ⟨(some 45), (.binOp .geq 3 (.tmp 44) (.const (.int .i64 0)) 3), 4, "", #[], none⟩]
def F7.r12 : List Oper := [
  ⟨(some 48), (.move (.tmp 10)), 33, "", #[], none⟩,
  ⟨(some 49), (.fieldAddr 46 (.tmp 9) 2), 0, "", #[], none⟩,
  ⟨(some 50), (.load 33 (.tmp 49)), 33, "", #[⟨0, .data⟩], none⟩,
  ⟨(some 51), (.move (.tmp 11)), 3, "", #[], none⟩,
  ⟨(some 52), (.indexAddr 33 (.tmp 50) (.tmp 51)), 0, "", #[], none⟩,
  ⟨(some 53), (.load 9 (.tmp 52)), 9, "", #[⟨0, .data⟩], none⟩,
  ⟨(some 54), (.buildSlice 33 1 #[(0, (.tmp 53))]), 33, "", #[⟨0, .chain⟩], none⟩,
  ⟨(some 55), (.call ⟨(.builtin .append), #[(.tmp 48), (.tmp 54)], #[33, 33]⟩), 33, "", #[⟨0, .chain⟩], none⟩,
  ⟨(some 10), (.assign (.tmp 55)), 33, "", #[], none⟩]
def F7.r11 : List Oper := [
  ⟨(some 46), (.move (.tmp 11)), 3, "", #[], none⟩,
  ⟨(some 47), (.binOp .sub 3 (.tmp 46) (.const (.int .i64 1)) 3), 3, "", #[], none⟩,
  ⟨(some 11), (.assign (.tmp 47)), 3, "", #[], none⟩]
def F7.r13 : List Oper := [
  ⟨(some 56), (.move (.tmp 10)), 33, "", #[], none⟩,
  ⟨(some 57), (.fieldAddr 46 (.tmp 9) 2), 0, "", #[], none⟩,
  ⟨none, (.store 33 (.tmp 57) (.tmp 56)), 0, "", #[⟨0, .chain⟩], none⟩]
def F7.r14 : List Oper := [
  ⟨(some 58), (.move (.tmp 7)), 23, "", #[], none⟩,
  ⟨(some 59), (.load 46 (.tmp 9)), 46, "", #[⟨0, .data⟩], none⟩,
  ⟨(some 60), (.buildSlice 23 1 #[(0, (.tmp 59))]), 23, "", #[⟨0, .chain⟩], none⟩,
  ⟨(some 61), (.call ⟨(.builtin .append), #[(.tmp 58), (.tmp 60)], #[23, 23]⟩), 23, "", #[⟨0, .chain⟩], none⟩,
  ⟨(some 7), (.assign (.tmp 61)), 23, "", #[], none⟩]
def F7.r6 : List Oper := [
  ⟨(some 26), (.move (.tmp 8)), 3, "", #[], none⟩,
  ⟨(some 27), (.binOp .add 3 (.tmp 26) (.const (.int .i64 1)) 3), 3, "", #[], none⟩,
  ⟨(some 8), (.assign (.tmp 27)), 3, "", #[], none⟩]
def F7.r15 : List Oper := [
  ⟨(some 62), (.move (.tmp 6)), 23, "", #[], none⟩,
  ⟨(some 63), (.call ⟨(.value (.func 23)), #[(.tmp 62)], #[23]⟩), 28, "", #[⟨0, .chain⟩], none⟩,
  ⟨(some 12), (.assign (.tmp 63)), 28, "", #[], none⟩]
def F7.r16 : List Oper := [
  ⟨(some 64), (.move (.tmp 7)), 23, "", #[], none⟩,
  ⟨(some 65), (.call ⟨(.value (.func 23)), #[(.tmp 64)], #[23]⟩), 28, "", #[⟨0, .chain⟩], none⟩,
  ⟨(some 13), (.assign (.tmp 65)), 28, "", #[], none⟩]
def F7.r17 : List Oper := [
  ⟨(some 66), (.move (.tmp 5)), 4, "", #[], none⟩,
  ⟨(some 67), (.unOp .not 4 (.tmp 66)), 4, "", #[], none⟩,
  ⟨(some 68), (.move (.tmp 67)), 4, "", #[], none⟩,
  ⟨(some 69), (.move (.tmp 12)), 28, "", #[], (some (68, false))⟩,
  ⟨(some 70), (.binOp .eql 28 (.tmp 69) (.const (.pointer none)) 28), 4, "", #[], (some (68, false))⟩,
  ⟨(some 71), (.pick (.tmp 68) (.const (.bool true)) (.tmp 70)), 4, "", #[], none⟩,
  ⟨(some 72), (.move (.tmp 71)), 4, "", #[], none⟩,
  ⟨(some 73), (.move (.tmp 13)), 28, "", #[], (some (72, false))⟩,
  ⟨(some 74), (.binOp .eql 28 (.tmp 73) (.const (.pointer none)) 28), 4, "", #[], (some (72, false))⟩,
  ⟨(some 75), (.pick (.tmp 72) (.const (.bool true)) (.tmp 74)), 4, "", #[], none⟩]
def F7.r18 : List Oper := [
  ⟨(some 4), (.assign (.const (.bool false))), 4, "", #[], none⟩]
def F7.r19 : List Oper := [
  ⟨(some 14), (.assign (.const (.int .i64 0))), 3, "", #[], none⟩]
def F7.r20 : List Oper := [
  ⟨(some 76), (.move (.tmp 14)), 3, "", #[], none⟩,
  ⟨(some 77), (.move (.tmp 6)), 23, "", #[], none⟩,
  ⟨(some 78), (.call ⟨(.builtin .len), #[(.tmp 77)], #[23]⟩), 3, "", #[], none⟩,
  ⟨(some 79), (.binOp .lss 3 (.tmp 76) (.tmp 78) 3), 4, "", #[], none⟩]
def F7.r22 : List Oper := [
  ⟨(some 82), (.move (.tmp 12)), 28, "", #[], none⟩,
  ⟨(some 83), (.move (.tmp 6)), 23, "", #[], none⟩,
  ⟨(some 84), (.move (.tmp 14)), 3, "", #[], none⟩,
  ⟨(some 85), (.indexAddr 23 (.tmp 83) (.tmp 84)), 0, "", #[], none⟩,
  ⟨(some 86), (.fieldAddr 46 (.tmp 85) 0), 0, "", #[], none⟩,
  ⟨(some 87), (.load 9 (.tmp 86)), 9, "", #[⟨0, .data⟩], none⟩,
  ⟨(some 88), (.call ⟨(.value (.func 24)), #[(.tmp 82), (.tmp 87)], #[28, 9]⟩), 33, "", #[⟨0, .chain⟩], none⟩,
  ⟨(some 15), (.assign (.tmp 88)), 33, "", #[], none⟩]
def F7.r23 : List Oper := [
  ⟨(some 89), (.move (.tmp 13)), 28, "", #[], none⟩,
  ⟨(some 90), (.move (.tmp 6)), 23, "", #[], none⟩,
  ⟨(some 91), (.move (.tmp 14)), 3, "", #[], none⟩,
  ⟨(some 92), (.indexAddr 23 (.tmp 90) (.tmp 91)), 0, "", #[], none⟩,
  ⟨(some 93), (.fieldAddr 46 (.tmp 92) 0), 0, "", #[], none⟩,
  ⟨(some 94), (.load 9 (.tmp 93)), 9, "", #[⟨0, .data⟩], none⟩,
  ⟨(some 95), (.call ⟨(.value (.func 24)), #[(.tmp 89), (.tmp 94)], #[28, 9]⟩), 33, "", #[⟨0, .chain⟩], none⟩,
  ⟨(some 16), (.assign (.tmp 95)), 33, "", #[], none⟩]
def F7.r24 : List Oper := [
  ⟨(some 96), (.move (.tmp 15)), 33, "", #[], none⟩,
  ⟨(some 97), (.move (.tmp 16)), 33, "", #[], none⟩,
  ⟨(some 98), (.call ⟨(.value (.func 30)), #[(.tmp 96), (.tmp 97)], #[33, 33]⟩), 4, "", #[⟨0, .chain⟩], none⟩,
  ⟨(some 17), (.assign (.tmp 98)), 4, "", #[], none⟩]
def F7.r25 : List Oper := [
  ⟨(some 99), (.move (.tmp 17)), 4, "", #[], none⟩,
  ⟨(some 100), (.unOp .not 4 (.tmp 99)), 4, "", #[], none⟩,
  ⟨(some 101), (.move (.tmp 100)), 4, "", #[], none⟩,
  ⟨(some 102), (.move (.tmp 12)), 28, "", #[], (some (101, false))⟩,
  ⟨(some 103), (.move (.tmp 6)), 23, "", #[], (some (101, false))⟩,
  ⟨(some 104), (.move (.tmp 14)), 3, "", #[], (some (101, false))⟩,
  ⟨(some 105), (.indexAddr 23 (.tmp 103) (.tmp 104)), 0, "", #[], (some (101, false))⟩,
  ⟨(some 106), (.fieldAddr 46 (.tmp 105) 0), 0, "", #[], (some (101, false))⟩,
  ⟨(some 109), (.move (.tmp 13)), 28, "", #[], (some (101, false))⟩,
  ⟨(some 110), (.move (.tmp 6)), 23, "", #[], (some (101, false))⟩,
  ⟨(some 111), (.move (.tmp 14)), 3, "", #[], (some (101, false))⟩,
  ⟨(some 112), (.indexAddr 23 (.tmp 110) (.tmp 111)), 0, "", #[], (some (101, false))⟩,
  ⟨(some 113), (.fieldAddr 46 (.tmp 112) 0), 0, "", #[], (some (101, false))⟩,
  ⟨(some 107), (.load 9 (.tmp 106)), 9, "", #[⟨66048, .data⟩], (some (101, false))⟩,
  ⟨(some 114), (.load 9 (.tmp 113)), 9, "", #[⟨65536, .data⟩], (some (101, false))⟩,
  ⟨(some 108), (.call ⟨(.value (.func 28)), #[(.tmp 102), (.tmp 107)], #[28, 9]⟩), 9, "", #[⟨9, .chain⟩], (some (101, false))⟩,
  ⟨(some 115), (.call ⟨(.value (.func 28)), #[(.tmp 109), (.tmp 114)], #[28, 9]⟩), 9, "", #[⟨16, .chain⟩], (some (101, false))⟩,
  ⟨(some 116), (.binOp .neq 9 (.tmp 108) (.tmp 115) 9), 4, "", #[], (some (101, false))⟩,
  ⟨(some 117), (.pick (.tmp 101) (.const (.bool true)) (.tmp 116)), 4, "", #[], none⟩]
def F7.r26 : List Oper := [
  ⟨(some 4), (.assign (.const (.bool false))), 4, "", #[], none⟩]
def F7.r27 : List Oper := [
  ⟨(some 18), (.assign (.const (.int .i64 0))), 3, "", #[], none⟩]
def F7.r28 : List Oper := [
  ⟨(some 118), (.move (.tmp 18)), 3, "", #[], none⟩,
  ⟨(some 119), (.move (.tmp 6)), 23, "", #[], none⟩,
  ⟨(some 120), (.call ⟨(.builtin .len), #[(.tmp 119)], #[23]⟩), 3, "", #[], none⟩,
  ⟨(some 121), (.binOp .lss 3 (.tmp 118) (.tmp 120) 3), 4, "", #[], none⟩]
def F7.r30 : List Oper := [
  ⟨(some 124), (.move (.tmp 12)), 28, "", #[], none⟩,
  ⟨(some 125), (.move (.tmp 6)), 23, "", #[], none⟩,
  ⟨(some 126), (.move (.tmp 14)), 3, "", #[], none⟩,
  ⟨(some 127), (.indexAddr 23 (.tmp 125) (.tmp 126)), 0, "", #[], none⟩,
  ⟨(some 128), (.fieldAddr 46 (.tmp 127) 0), 0, "", #[], none⟩,
  ⟨(some 130), (.move (.tmp 6)), 23, "", #[], none⟩,
  ⟨(some 131), (.move (.tmp 18)), 3, "", #[], none⟩,
  ⟨(some 132), (.indexAddr 23 (.tmp 130) (.tmp 131)), 0, "", #[], none⟩,
  ⟨(some 133), (.fieldAddr 46 (.tmp 132) 0), 0, "", #[], none⟩,
  ⟨(some 136), (.move (.tmp 13)), 28, "", #[], none⟩,
  ⟨(some 137), (.move (.tmp 6)), 23, "", #[], none⟩,
  ⟨(some 138), (.move (.tmp 14)), 3, "", #[], none⟩,
  ⟨(some 139), (.indexAddr 23 (.tmp 137) (.tmp 138)), 0, "", #[], none⟩,
  ⟨(some 140), (.fieldAddr 46 (.tmp 139) 0), 0, "", #[], none⟩,
  ⟨(some 142), (.move (.tmp 6)), 23, "", #[], none⟩,
  ⟨(some 143), (.move (.tmp 18)), 3, "", #[], none⟩,
  ⟨(some 144), (.indexAddr 23 (.tmp 142) (.tmp 143)), 0, "", #[], none⟩,
  ⟨(some 145), (.fieldAddr 46 (.tmp 144) 0), 0, "", #[], none⟩,
  ⟨(some 129), (.load 9 (.tmp 128)), 9, "", #[⟨563087400765440, .data⟩], none⟩,
  ⟨(some 134), (.load 9 (.tmp 133)), 9, "", #[⟨563087400765440, .data⟩], none⟩,
  ⟨(some 141), (.load 9 (.tmp 140)), 9, "", #[⟨563087400763392, .data⟩], none⟩,
  ⟨(some 146), (.load 9 (.tmp 145)), 9, "", #[⟨563087400763392, .data⟩], none⟩,
  ⟨(some 135), (.call ⟨(.value (.func 26)), #[(.tmp 124), (.tmp 129), (.tmp 134)], #[28, 9, 9]⟩), 4, "", #[⟨11, .chain⟩], none⟩,
  ⟨(some 147), (.call ⟨(.value (.func 26)), #[(.tmp 136), (.tmp 141), (.tmp 146)], #[28, 9, 9]⟩), 4, "", #[⟨23, .chain⟩], none⟩,
  ⟨(some 148), (.binOp .neq 4 (.tmp 135) (.tmp 147) 4), 4, "", #[], none⟩,
  ⟨(some 149), (.move (.tmp 148)), 4, "", #[], none⟩,
  ⟨(some 150), (.move (.tmp 12)), 28, "", #[], (some (149, false))⟩,
  ⟨(some 151), (.move (.tmp 6)), 23, "", #[], (some (149, false))⟩,
  ⟨(some 152), (.move (.tmp 14)), 3, "", #[], (some (149, false))⟩,
  ⟨(some 153), (.indexAddr 23 (.tmp 151) (.tmp 152)), 0, "", #[], (some (149, false))⟩,
  ⟨(some 154), (.fieldAddr 46 (.tmp 153) 0), 0, "", #[], (some (149, false))⟩,
  ⟨(some 156), (.move (.tmp 6)), 23, "", #[], (some (149, false))⟩,
  ⟨(some 157), (.move (.tmp 18)), 3, "", #[], (some (149, false))⟩,
  ⟨(some 158), (.indexAddr 23 (.tmp 156) (.tmp 157)), 0, "", #[], (some (149, false))⟩,
  ⟨(some 159), (.fieldAddr 46 (.tmp 158) 0), 0, "", #[], (some (149, false))⟩,
  ⟨(some 162), (.move (.tmp 13)), 28, "", #[], (some (149, false))⟩,
  ⟨(some 163), (.move (.tmp 6)), 23, "", #[], (some (149, false))⟩,
  ⟨(some 164), (.move (.tmp 14)), 3, "", #[], (some (149, false))⟩,
  ⟨(some 165), (.indexAddr 23 (.tmp 163) (.tmp 164)), 0, "", #[], (some (149, false))⟩,
  ⟨(some 166), (.fieldAddr 46 (.tmp 165) 0), 0, "", #[], (some (149, false))⟩,
  ⟨(some 168), (.move (.tmp 6)), 23, "", #[], (some (149, false))⟩,
  ⟨(some 169), (.move (.tmp 18)), 3, "", #[], (some (149, false))⟩,
  ⟨(some 170), (.indexAddr 23 (.tmp 168) (.tmp 169)), 0, "", #[], (some (149, false))⟩,
  ⟨(some 171), (.fieldAddr 46 (.tmp 170) 0), 0, "", #[], (some (149, false))⟩,
  ⟨(some 155), (.load 9 (.tmp 154)), 9, "", #[⟨563087392374784, .data⟩], (some (149, false))⟩,
  ⟨(some 160), (.load 9 (.tmp 159)), 9, "", #[⟨563087392374784, .data⟩], (some (149, false))⟩,
  ⟨(some 167), (.load 9 (.tmp 166)), 9, "", #[⟨562949953421312, .data⟩], (some (149, false))⟩,
  ⟨(some 172), (.load 9 (.tmp 171)), 9, "", #[⟨562949953421312, .data⟩], (some (149, false))⟩,
  ⟨(some 161), (.call ⟨(.value (.func 27)), #[(.tmp 150), (.tmp 155), (.tmp 160)], #[28, 9, 9]⟩), 4, "", #[⟨37, .chain⟩], (some (149, false))⟩,
  ⟨(some 173), (.call ⟨(.value (.func 27)), #[(.tmp 162), (.tmp 167), (.tmp 172)], #[28, 9, 9]⟩), 4, "", #[⟨49, .chain⟩], (some (149, false))⟩,
  ⟨(some 174), (.binOp .neq 4 (.tmp 161) (.tmp 173) 4), 4, "", #[], (some (149, false))⟩,
  ⟨(some 175), (.pick (.tmp 149) (.const (.bool true)) (.tmp 174)), 4, "", #[], none⟩]
def F7.r31 : List Oper := [
  ⟨(some 4), (.assign (.const (.bool false))), 4, "", #[], none⟩]
def F7.r29 : List Oper := [
  ⟨(some 122), (.move (.tmp 18)), 3, "", #[], none⟩,
  ⟨(some 123), (.binOp .add 3 (.tmp 122) (.const (.int .i64 1)) 3), 3, "", #[], none⟩,
  ⟨(some 18), (.assign (.tmp 123)), 3, "", #[], none⟩]
def F7.r21 : List Oper := [
  ⟨(some 80), (.move (.tmp 14)), 3, "", #[], none⟩,
  ⟨(some 81), (.binOp .add 3 (.tmp 80) (.const (.int .i64 1)) 3), 3, "", #[], none⟩,
  ⟨(some 14), (.assign (.tmp 81)), 3, "", #[], none⟩]
def F7.r32 : List Oper := [
  ⟨(some 4), (.assign (.const (.bool true))), 4, "", #[], none⟩]
def F7.t11 : Cd := (.region 11 F7.r11.toArray false)
theorem F7.t11_eq {P : Program} {Q : Post} {e : FA} {w : World} {θ : Tag (F7.t11, Q, e, w)} : cwE P F7.t11 Q e w θ = cwE P (.region 11 F7.r11.toArray false) Q e w := rfl
def F7.t12 : Cd := (.seq (.block 3 (.region 12 F7.r12.toArray false)) F7.t11)
theorem F7.t12_eq {P : Program} {Q : Post} {e : FA} {w : World} {θ : Tag (F7.t12, Q, e, w)} : cwE P F7.t12 Q e w θ = cwE P (.seq (.block 3 (.region 12 F7.r12.toArray false)) F7.t11) Q e w := rfl
def F7.t13 : Cd := (.seq (.region 13 F7.r13.toArray false) (.region 14 F7.r14.toArray false))
theorem F7.t13_eq {P : Program} {Q : Post} {e : FA} {w : World} {θ : Tag (F7.t13, Q, e, w)} : cwE P F7.t13 Q e w θ = cwE P (.seq (.region 13 F7.r13.toArray false) (.region 14 F7.r14.toArray false)) Q e w := rfl
def F7.t6 : Cd := (.region 6 F7.r6.toArray false)
theorem F7.t6_eq {P : Program} {Q : Post} {e : FA} {w : World} {θ : Tag (F7.t6, Q, e, w)} : cwE P F7.t6 Q e w θ = cwE P (.region 6 F7.r6.toArray false) Q e w := rfl
def F7.t7 : Cd := (.seq (.block 1 (.seq (.region 7 F7.r7.toArray false) (.seq (.region 8 F7.r8.toArray false) (.seq (.seq (.region 9 F7.r9.toArray false) (.block 2 (.loop (.seq (.seq (.region 10 F7.r10.toArray false) (.cond (.tmp 45) .skip (.exit 2))) F7.t12)))) F7.t13)))) F7.t6)
theorem F7.t7_eq {P : Program} {Q : Post} {e : FA} {w : World} {θ : Tag (F7.t7, Q, e, w)} : cwE P F7.t7 Q e w θ = cwE P (.seq (.block 1 (.seq (.region 7 F7.r7.toArray false) (.seq (.region 8 F7.r8.toArray false) (.seq (.seq (.region 9 F7.r9.toArray false) (.block 2 (.loop (.seq (.seq (.region 10 F7.r10.toArray false) (.cond (.tmp 45) .skip (.exit 2))) F7.t12)))) F7.t13)))) F7.t6) Q e w := rfl
def F7.t29 : Cd := (.region 29 F7.r29.toArray false)
theorem F7.t29_eq {P : Program} {Q : Post} {e : FA} {w : World} {θ : Tag (F7.t29, Q, e, w)} : cwE P F7.t29 Q e w θ = cwE P (.region 29 F7.r29.toArray false) Q e w := rfl
def F7.t30 : Cd := (.seq (.block 7 (.seq (.region 30 F7.r30.toArray true) (.cond (.tmp 175) (.seq (.region 31 F7.r31.toArray false) .ret) .skip))) F7.t29)
theorem F7.t30_eq {P : Program} {Q : Post} {e : FA} {w : World} {θ : Tag (F7.t30, Q, e, w)} : cwE P F7.t30 Q e w θ = cwE P (.seq (.block 7 (.seq (.region 30 F7.r30.toArray true) (.cond (.tmp 175) (.seq (.region 31 F7.r31.toArray false) .ret) .skip))) F7.t29) Q e w := rfl
def F7.t27 : Cd := (.seq (.region 27 F7.r27.toArray false) (.block 6 (.loop (.seq (.seq (.region 28 F7.r28.toArray false) (.cond (.tmp 121) .skip (.exit 6))) F7.t30))))
theorem F7.t27_eq {P : Program} {Q : Post} {e : FA} {w : World} {θ : Tag (F7.t27, Q, e, w)} : cwE P F7.t27 Q e w θ = cwE P (.seq (.region 27 F7.r27.toArray false) (.block 6 (.loop (.seq (.seq (.region 28 F7.r28.toArray false) (.cond (.tmp 121) .skip (.exit 6))) F7.t30)))) Q e w := rfl
def F7.t21 : Cd := (.region 21 F7.r21.toArray false)
theorem F7.t21_eq {P : Program} {Q : Post} {e : FA} {w : World} {θ : Tag (F7.t21, Q, e, w)} : cwE P F7.t21 Q e w θ = cwE P (.region 21 F7.r21.toArray false) Q e w := rfl
def F7.t22 : Cd := (.seq (.block 5 (.seq (.region 22 F7.r22.toArray false) (.seq (.region 23 F7.r23.toArray false) (.seq (.region 24 F7.r24.toArray false) (.seq (.seq (.region 25 F7.r25.toArray true) (.cond (.tmp 117) (.seq (.region 26 F7.r26.toArray false) .ret) .skip)) F7.t27))))) F7.t21)
theorem F7.t22_eq {P : Program} {Q : Post} {e : FA} {w : World} {θ : Tag (F7.t22, Q, e, w)} : cwE P F7.t22 Q e w θ = cwE P (.seq (.block 5 (.seq (.region 22 F7.r22.toArray false) (.seq (.region 23 F7.r23.toArray false) (.seq (.region 24 F7.r24.toArray false) (.seq (.seq (.region 25 F7.r25.toArray true) (.cond (.tmp 117) (.seq (.region 26 F7.r26.toArray false) .ret) .skip)) F7.t27))))) F7.t21) Q e w := rfl
def F7.t32 : Cd := (.seq (.region 32 F7.r32.toArray false) .ret)
theorem F7.t32_eq {P : Program} {Q : Post} {e : FA} {w : World} {θ : Tag (F7.t32, Q, e, w)} : cwE P F7.t32 Q e w θ = cwE P (.seq (.region 32 F7.r32.toArray false) .ret) Q e w := rfl
def F7.t19 : Cd := (.seq (.seq (.region 19 F7.r19.toArray false) (.block 4 (.loop (.seq (.seq (.region 20 F7.r20.toArray false) (.cond (.tmp 79) .skip (.exit 4))) F7.t22)))) F7.t32)
theorem F7.t19_eq {P : Program} {Q : Post} {e : FA} {w : World} {θ : Tag (F7.t19, Q, e, w)} : cwE P F7.t19 Q e w θ = cwE P (.seq (.seq (.region 19 F7.r19.toArray false) (.block 4 (.loop (.seq (.seq (.region 20 F7.r20.toArray false) (.cond (.tmp 79) .skip (.exit 4))) F7.t22)))) F7.t32) Q e w := rfl
def F7.t15 : Cd := (.seq (.region 15 F7.r15.toArray false) (.seq (.region 16 F7.r16.toArray false) (.seq (.seq (.region 17 F7.r17.toArray false) (.cond (.tmp 75) (.seq (.region 18 F7.r18.toArray false) .ret) .skip)) F7.t19)))
theorem F7.t15_eq {P : Program} {Q : Post} {e : FA} {w : World} {θ : Tag (F7.t15, Q, e, w)} : cwE P F7.t15 Q e w θ = cwE P (.seq (.region 15 F7.r15.toArray false) (.seq (.region 16 F7.r16.toArray false) (.seq (.seq (.region 17 F7.r17.toArray false) (.cond (.tmp 75) (.seq (.region 18 F7.r18.toArray false) .ret) .skip)) F7.t19))) Q e w := rfl
def F7.code : Cd := (.seq (.region 0 F7.r0.toArray false) (.seq (.region 1 F7.r1.toArray false) (.seq (.region 2 F7.r2.toArray false) (.seq (.region 3 F7.r3.toArray false) (.seq (.seq (.region 4 F7.r4.toArray false) (.block 0 (.loop (.seq (.seq (.region 5 F7.r5.toArray false) (.cond (.tmp 25) .skip (.exit 0))) F7.t7)))) F7.t15)))))
theorem F7.calls {args : Array Value} {w : World} {R : Ending → World → Prop} (hn : args.size ≤ 176) (h : cwE Tryd.prog F7.code (fnP Tryd.prog #[(.tmp 4)] R) (entry args) w) : Calls Tryd.prog 7 args w R :=
  calls_of_cwE (types := Tryd.prog.types) follows Tryd.func7 F7.code rfl (by kernel_rfl) hn h

def F8.r0 : List Oper := [
  ⟨(some 6), (.assign (.const (.bool false))), 4, "", #[], none⟩]
def F8.r1 : List Oper := [
  ⟨(some 29), (.call ⟨(.value (.func 10)), #[], #[]⟩), 4, "", #[⟨0, .chain⟩], none⟩,
  ⟨(some 7), (.assign (.tmp 29)), 4, "", #[], none⟩]
def F8.r2 : List Oper := [
  ⟨(some 30), (.move (.tmp 0)), 49, "", #[], none⟩,
  ⟨(some 31), (.call ⟨(.value (.func 22)), #[(.tmp 30)], #[49]⟩), 23, "", #[⟨0, .chain⟩], none⟩,
  ⟨(some 8), (.assign (.tmp 31)), 23, "", #[], none⟩]
def F8.r3 : List Oper := [
  ⟨(some 32), (.move (.tmp 8)), 23, "", #[], none⟩,
  ⟨(some 33), (.call ⟨(.value (.func 23)), #[(.tmp 32)], #[23]⟩), 28, "", #[⟨0, .chain⟩], none⟩,
  ⟨(some 9), (.assign (.tmp 33)), 28, "", #[], none⟩]
def F8.r4 : List Oper := [
  ⟨(some 34), (.move (.tmp 7)), 4, "", #[], none⟩,
  ⟨(some 35), (.unOp .not 4 (.tmp 34)), 4, "", #[], none⟩,
  ⟨(some 36), (.move (.tmp 35)), 4, "", #[], none⟩,
  ⟨(some 37), (.move (.tmp 9)), 28, "", #[], (some (36, false))⟩,
  ⟨(some 38), (.binOp .eql 28 (.tmp 37) (.const (.pointer none)) 28), 4, "", #[], (some (36, false))⟩,
  ⟨(some 39), (.pick (.tmp 36) (.const (.bool true)) (.tmp 38)), 4, "", #[], none⟩]
def F8.r5 : List Oper := [
  ⟨(some 6), (.assign (.const (.bool false))), 4, "", #[], none⟩]
def F8.r6 : List Oper := [
  ⟨(some 40), (.move (.tmp 2)), 3, "", #[], none⟩,
  ⟨(some 41), (.move (.tmp 8)), 23, "", #[], none⟩,
  ⟨(some 42), (.call ⟨(.builtin .len), #[(.tmp 41)], #[23]⟩), 3, "", #[], none⟩,
  ⟨(some 43), (.binOp .add 3 (.tmp 42) (.const (.int .i64 1)) 3), 3, "", #[], none⟩,
  ⟨(some 44), (.call ⟨(.value (.func 19)), #[(.tmp 40), (.tmp 43)], #[3, 3]⟩), 3, "", #[⟨0, .chain⟩], none⟩,
  ⟨(some 10), (.assign (.tmp 44)), 3, "", #[], none⟩]
def F8.r7 : List Oper := [
  ⟨(some 11), (.assign (.const (.string { data := #[] }))), 9, "", #[], none⟩]
def F8.r8 : List Oper := [
  ⟨(some 12), (.assign (.const (.int .i64 0))), 3, "", #[], none⟩]
def F8.r9 : List Oper := [
  ⟨(some 13), (.assign (.const (.int .i64 0))), 3, "", #[], none⟩]
def F8.r10 : List Oper := [
  ⟨(some 45), (.move (.tmp 13)), 3, "", #[], none⟩,
  ⟨(some 46), (.move (.tmp 8)), 23, "", #[], none⟩,
  ⟨(some 47), (.call ⟨(.builtin .len), #[(.tmp 46)], #[23]⟩), 3, "", #[], none⟩,
  ⟨(some 48), (.binOp .leq 3 (.tmp 45) (.tmp 47) 3), 4, "", #[], none⟩]
def F8.r12 : List Oper := [
  ⟨(some 51), (.move (.tmp 13)), 3, "", #[], none⟩,
  ⟨(some 52), (.move (.tmp 10)), 3, "", #[], none⟩,
  ⟨(some 53), (.binOp .eql 3 (.tmp 51) (.tmp 52) 3), 4, "", #[], none⟩]
def F8.r13 : List Oper := [
  ⟨(some 14), (.assign (.const (.int .i64 0))), 3, "", #[], none⟩]
def F8.r14 : List Oper := [
  ⟨(some 54), (.move (.tmp 14)), 3, "", #[], none⟩,
  ⟨(some 55), (.move (.tmp 1)), 33, "", #[], none⟩,
  ⟨(some 56), (.call ⟨(.builtin .len), #[(.tmp 55)], #[33]⟩), 3, "", #[], none⟩,
  ⟨(some 57), (.binOp .lss 3 (.tmp 54) (.tmp 56) 3), 4, "", #[], none⟩,
  ⟨(some 58), (.move (.tmp 57)), 4, "", #[], none⟩,
  ⟨(some 59), (.move (.tmp 14)), 3, "", #[], (some (58, true))⟩,
  ⟨(some 60), (.binOp .lss 3 (.tmp 59) (.const (.int .i64 60)) 3), 4, "", #[], (some (58, true))⟩,
  ⟨(some 61), (.pick (.tmp 58) (.tmp 60) (.const (.bool false))), 4, "", #[], none⟩]
def F8.r16 : List Oper := [
  ⟨(some 64), (.move (.tmp 11)), 9, "", #[], none⟩,
  ⟨(some 65), (.move (.tmp 1)), 33, "", #[], none⟩,
  ⟨(some 66), (.move (.tmp 14)), 3, "", #[], none⟩,
  ⟨(some 67), (.indexAddr 33 (.tmp 65) (.tmp 66)), 0, "", #[], none⟩,
  ⟨(some 68), (.load 9 (.tmp 67)), 9, "", #[⟨0, .data⟩], none⟩,
  ⟨(some 69), (.call ⟨(.value (.func 31)), #[(.tmp 68)], #[9]⟩), 9, "", #[⟨0, .chain⟩], none⟩,
  ⟨(some 70), (.binOp .add 9 (.tmp 64) (.tmp 69) 9), 9, "", #[], none⟩,
  ⟨(some 11), (.assign (.tmp 70)), 9, "", #[], none⟩]
def F8.r17 : List Oper := [
  ⟨(some 71), (.move (.tmp 12)), 3, "", #[], none⟩,
  ⟨(some 72), (.binOp .add 3 (.tmp 71) (.const (.int .i64 1)) 3), 3, "", #[], none⟩,
  ⟨(some 12), (.assign (.tmp 72)), 3, "", #[], none⟩]
def F8.r15 : List Oper := [
  ⟨(some 62), (.move (.tmp 14)), 3, "", #[], none⟩,
  ⟨(some 63), (.binOp .add 3 (.tmp 62) (.const (.int .i64 1)) 3), 3, "", #[], none⟩,
  ⟨(some 14), (.assign (.tmp 63)), 3, "", #[], none⟩]
def F8.r18 : List Oper := [
  ⟨(some 73), (.move (.tmp 13)), 3, "", #[], none⟩,
  ⟨(some 74), (.move (.tmp 8)), 23, "", #[], none⟩,
  ⟨(some 75), (.call ⟨(.builtin .len), #[(.tmp 74)], #[23]⟩), 3, "", #[], none⟩,
  ⟨(some 76), (.binOp .lss 3 (.tmp 73) (.tmp 75) 3), 4, "", #[], none⟩]
def F8.r19 : List Oper := [
  ⟨(some 78), (.move (.tmp 8)), 23, "", #[], none⟩,
  ⟨(some 79), (.move (.tmp 13)), 3, "", #[], none⟩,
  ⟨(some 80), (.indexAddr 23 (.tmp 78) (.tmp 79)), 0, "", #[], none⟩,
  ⟨(some 81), (.fieldAddr 46 (.tmp 80) 0), 0, "", #[], none⟩,
  ⟨(some 83), (.move (.tmp 8)), 23, "", #[], none⟩,
  ⟨(some 84), (.move (.tmp 13)), 3, "", #[], none⟩,
  ⟨(some 85), (.indexAddr 23 (.tmp 83) (.tmp 84)), 0, "", #[], none⟩,
  ⟨(some 86), (.fieldAddr 46 (.tmp 85) 3), 0, "", #[], none⟩,
  ⟨(some 82), (.load 9 (.tmp 81)), 9, "", #[⟨6144, .data⟩], none⟩,
  ⟨(some 87), (.load 9 (.tmp 86)), 9, "", #[⟨6144, .data⟩], none⟩,
  ⟨(some 88), (.build 46 #[(0, (.tmp 82)), (2, (.const (.slice none 0 0))), (3, (.tmp 87))]), 46, "", #[], none⟩,
  ⟨(some 89), (.buildSlice 23 1 #[(0, (.tmp 88))]), 23, "", #[⟨11, .chain⟩], none⟩,
  ⟨(some 90), (.call ⟨(.value (.func 12)), #[(.tmp 89)], #[23]⟩), 26, "", #[⟨12, .chain⟩], none⟩,
  ⟨(some 77), (.move (.tmp 90)), 26, "", #[], none⟩,
  ⟨(some 91), (.extract (.tmp 77) 0), 9, "", #[], none⟩,
  ⟨(some 92), (.extract (.tmp 77) 1), 25, "", #[], none⟩,
  ⟨(some 15), (.assign (.tmp 91)), 9, "", #[], none⟩,
  ⟨(some 16), (.assign (.tmp 92)), 25, "", #[], none⟩]
def F8.r20 : List Oper := [
  ⟨(some 93), (.move (.tmp 16)), 25, "", #[], none⟩,
  ⟨(some 94), (.binOp .neq 25 (.tmp 93) (.const (.int .i64 0)) 25), 4, "", #[], none⟩]
def F8.r21 : List Oper := [
  ⟨(some 6), (.assign (.const (.bool false))), 4, "", #[], none⟩]
def F8.r22 : List Oper := [
  ⟨(some 95), (.move (.tmp 11)), 9, "", #[], none⟩,
  ⟨(some 96), (.move (.tmp 15)), 9, "", #[], none⟩,
  ⟨(some 97), (.binOp .add 9 (.tmp 95) (.tmp 96) 9), 9, "", #[], none⟩,
  ⟨(some 11), (.assign (.tmp 97)), 9, "", #[], none⟩]
def F8.r11 : List Oper := [
  ⟨(some 49), (.move (.tmp 13)), 3, "", #[], none⟩,
  ⟨(some 50), (.binOp .add 3 (.tmp 49) (.const (.int .i64 1)) 3), 3, "", #[], none⟩,
  ⟨(some 13), (.assign (.tmp 50)), 3, "", #[], none⟩]
def F8.r23 : List Oper := [
  ⟨(some 99), (.move (.tmp 11)), 9, "", #[], none⟩,
  ⟨(some 100), (.call ⟨(.value (.func 13)), #[(.tmp 99)], #[9]⟩), 29, "", #[⟨0, .chain⟩], none⟩,
  ⟨(some 98), (.move (.tmp 100)), 29, "", #[], none⟩,
  ⟨(some 101), (.extract (.tmp 98) 0), 28, "", #[], none⟩,
  ⟨(some 102), (.extract (.tmp 98) 1), 25, "", #[], none⟩,
  ⟨(some 103), (.extract (.tmp 98) 2), 3, "", #[], none⟩,
  ⟨(some 17), (.assign (.tmp 101)), 28, "", #[], none⟩,
  ⟨(some 18), (.assign (.tmp 102)), 25, "", #[], none⟩,
  ⟨(some 19), (.assign (.tmp 103)), 3, "", #[], none⟩]
def F8.r24 : List Oper := [
  ⟨(some 105), (.move (.tmp 11)), 9, "", #[], none⟩,
  ⟨(some 106), (.binOp .add 9 (.tmp 105) (.const (.string { data := #[97, 58, 98, 10] })) 9), 9, "", #[], none⟩,
  ⟨(some 107), (.binOp .add 9 (.tmp 106) (.const (.string { data := #[99, 58, 100, 58, 101, 58, 102, 58, 103] })) 9), 9, "", #[], none⟩,
  ⟨(some 108), (.call ⟨(.value (.func 13)), #[(.tmp 107)], #[9]⟩), 29, "", #[⟨0, .chain⟩], none⟩,
  ⟨(some 104), (.move (.tmp 108)), 29, "", #[], none⟩,
  ⟨(some 109), (.extract (.tmp 104) 0), 28, "", #[], none⟩,
  ⟨(some 110), (.extract (.tmp 104) 1), 25, "", #[], none⟩,
  ⟨(some 111), (.extract (.tmp 104) 2), 3, "", #[], none⟩,
  ⟨(some 20), (.assign (.tmp 109)), 28, "", #[], none⟩,
  ⟨(some 21), (.assign (.tmp 110)), 25, "", #[], none⟩,
  ⟨(some 22), (.assign (.tmp 111)), 3, "", #[], none⟩]
def F8.r25 : List Oper := [
  ⟨(some 113), (.move (.tmp 11)), 9, "", #[], none⟩,
  ⟨(some 114), (.binOp .add 9 (.tmp 113) (.const (.string { data := #[110, 101, 119, 58, 58, 58, 10, 110, 101, 119, 58, 58, 58] })) 9), 9, "", #[], none⟩,
  ⟨(some 115), (.call ⟨(.value (.func 13)), #[(.tmp 114)], #[9]⟩), 29, "", #[⟨0, .chain⟩], none⟩,
  ⟨(some 112), (.move (.tmp 115)), 29, "", #[], none⟩,
  ⟨(some 116), (.extract (.tmp 112) 0), 28, "", #[], none⟩,
  ⟨(some 117), (.extract (.tmp 112) 1), 25, "", #[], none⟩,
  ⟨(some 118), (.extract (.tmp 112) 2), 3, "", #[], none⟩,
  ⟨(some 23), (.assign (.tmp 116)), 28, "", #[], none⟩,
  ⟨(some 24), (.assign (.tmp 117)), 25, "", #[], none⟩,
  ⟨(some 25), (.assign (.tmp 118)), 3, "", #[], none⟩]
def F8.r26 : List Oper := [
  ⟨(some 120), (.move (.tmp 11)), 9, "", #[], none⟩,
  ⟨(some 121), (.binOp .add 9 (.tmp 120) (.const (.string { data := #[110, 101, 119, 58, 110, 111, 98, 111, 100, 121, 58, 58, 10] })) 9), 9, "", #[], none⟩,
  ⟨(some 122), (.call ⟨(.value (.func 13)), #[(.tmp 121)], #[9]⟩), 29, "", #[⟨0, .chain⟩], none⟩,
  ⟨(some 119), (.move (.tmp 122)), 29, "", #[], none⟩,
  ⟨(some 123), (.extract (.tmp 119) 0), 28, "", #[], none⟩,
  ⟨(some 124), (.extract (.tmp 119) 1), 25, "", #[], none⟩,
  ⟨(some 125), (.extract (.tmp 119) 2), 3, "", #[], none⟩,
  ⟨(some 26), (.assign (.tmp 123)), 28, "", #[], none⟩,
  ⟨(some 27), (.assign (.tmp 124)), 25, "", #[], none⟩,
  ⟨(some 28), (.assign (.tmp 125)), 3, "", #[], none⟩]
def F8.r27 : List Oper := [
  ⟨(some 126), (.move (.tmp 17)), 28, "", #[], none⟩,
  ⟨(some 127), (.binOp .eql 28 (.tmp 126) (.const (.pointer none)) 28), 4, "", #[], none⟩,
  ⟨(some 128), (.move (.tmp 127)), 4, "", #[], none⟩,
  ⟨(some 129), (.move (.tmp 18)), 25, "", #[], (some (128, false))⟩,
  ⟨(some 130), (.binOp .neq 25 (.tmp 129) (.const (.int .i64 0)) 25), 4, "", #[], (some (128, false))⟩,
  ⟨(some 131), (.pick (.tmp 128) (.const (.bool true)) (.tmp 130)), 4, "", #[], none⟩,
  ⟨(some 132), (.move (.tmp 131)), 4, "", #[], none⟩,
  ⟨(some 133), (.move (.tmp 19)), 3, "", #[], (some (132, false))⟩,
  ⟨(some 134), (.binOp .neq 3 (.tmp 133) (.const (.int .i64 0)) 3), 4, "", #[], (some (132, false))⟩,
  ⟨(some 135), (.pick (.tmp 132) (.const (.bool true)) (.tmp 134)), 4, "", #[], none⟩]
def F8.r28 : List Oper := [
  ⟨(some 6), (.assign (.const (.bool false))), 4, "", #[], none⟩]
def F8.r29 : List Oper := [
  ⟨(some 136), (.move (.tmp 20)), 28, "", #[], none⟩,
  ⟨(some 137), (.binOp .neq 28 (.tmp 136) (.const (.pointer none)) 28), 4, "", #[], none⟩,
  ⟨(some 138), (.move (.tmp 137)), 4, "", #[], none⟩,
  ⟨(some 139), (.move (.tmp 21)), 25, "", #[], (some (138, false))⟩,
  ⟨(some 140), (.binOp .neq 25 (.tmp 139) (.const (.int .i64 60)) 25), 4, "", #[], (some (138, false))⟩,
  ⟨(some 141), (.pick (.tmp 138) (.const (.bool true)) (.tmp 140)), 4, "", #[], none⟩,
  ⟨(some 142), (.move (.tmp 141)), 4, "", #[], none⟩,
  ⟨(some 143), (.move (.tmp 22)), 3, "", #[], (some (142, false))⟩,
  ⟨(some 144), (.move (.tmp 8)), 23, "", #[], (some (142, false))⟩,
  ⟨(some 145), (.call ⟨(.builtin .len), #[(.tmp 144)], #[23]⟩), 3, "", #[], (some (142, false))⟩,
  ⟨(some 146), (.move (.tmp 12)), 3, "", #[], (some (142, false))⟩,
  ⟨(some 147), (.binOp .add 3 (.tmp 145) (.tmp 146) 3), 3, "", #[], (some (142, false))⟩,
  ⟨(some 148), (.binOp .add 3 (.tmp 147) (.const (.int .i64 1)) 3), 3, "", #[], (some (142, false))⟩,
  ⟨(some 149), (.binOp .neq 3 (.tmp 143) (.tmp 148) 3), 4, "", #[], (some (142, false))⟩,
  ⟨(some 150), (.pick (.tmp 142) (.const (.bool true)) (.tmp 149)), 4, "", #[], none⟩]
def F8.r30 : List Oper := [
  ⟨(some 6), (.assign (.const (.bool false))), 4, "", #[], none⟩]
def F8.r31 : List Oper := [
  ⟨(some 151), (.move (.tmp 23)), 28, "", #[], none⟩,
  ⟨(some 152), (.binOp .neq 28 (.tmp 151) (.const (.pointer none)) 28), 4, "", #[], none⟩,
  ⟨(some 153), (.move (.tmp 152)), 4, "", #[], none⟩,
  ⟨(some 154), (.move (.tmp 24)), 25, "", #[], (some (153, false))⟩,
  ⟨(some 155), (.binOp .neq 25 (.tmp 154) (.const (.int .i64 61)) 25), 4, "", #[], (some (153, false))⟩,
  ⟨(some 156), (.pick (.tmp 153) (.const (.bool true)) (.tmp 155)), 4, "", #[], none⟩,
  ⟨(some 157), (.move (.tmp 156)), 4, "", #[], none⟩,
  ⟨(some 158), (.move (.tmp 25)), 3, "", #[], (some (157, false))⟩,
  ⟨(some 159), (.move (.tmp 8)), 23, "", #[], (some (157, false))⟩,
  ⟨(some 160), (.call ⟨(.builtin .len), #[(.tmp 159)], #[23]⟩), 3, "", #[], (some (157, false))⟩,
  ⟨(some 161), (.move (.tmp 12)), 3, "", #[], (some (157, false))⟩,
  ⟨(some 162), (.binOp .add 3 (.tmp 160) (.tmp 161) 3), 3, "", #[], (some (157, false))⟩,
  ⟨(some 163), (.binOp .add 3 (.tmp 162) (.const (.int .i64 2)) 3), 3, "", #[], (some (157, false))⟩,
  ⟨(some 164), (.binOp .neq 3 (.tmp 158) (.tmp 163) 3), 4, "", #[], (some (157, false))⟩,
  ⟨(some 165), (.pick (.tmp 157) (.const (.bool true)) (.tmp 164)), 4, "", #[], none⟩]
def F8.r32 : List Oper := [
  ⟨(some 6), (.assign (.const (.bool false))), 4, "", #[], none⟩]
def F8.r33 : List Oper := [
  ⟨(some 166), (.move (.tmp 26)), 28, "", #[], none⟩,
  ⟨(some 167), (.binOp .eql 28 (.tmp 166) (.const (.pointer none)) 28), 4, "", #[], none⟩,
  ⟨(some 168), (.move (.tmp 167)), 4, "", #[], none⟩,
  ⟨(some 169), (.move (.tmp 27)), 25, "", #[], (some (168, true))⟩,
  ⟨(some 170), (.binOp .eql 25 (.tmp 169) (.const (.int .i64 62)) 25), 4, "", #[], (some (168, true))⟩,
  ⟨(some 171), (.pick (.tmp 168) (.tmp 170) (.const (.bool false))), 4, "", #[], none⟩,
  ⟨(some 172), (.move (.tmp 171)), 4, "", #[], none⟩,
  ⟨(some 173), (.move (.tmp 28)), 3, "", #[], (some (172, true))⟩,
  ⟨(some 174), (.move (.tmp 8)), 23, "", #[], (some (172, true))⟩,
  ⟨(some 175), (.call ⟨(.builtin .len), #[(.tmp 174)], #[23]⟩), 3, "", #[], (some (172, true))⟩,
  ⟨(some 176), (.move (.tmp 12)), 3, "", #[], (some (172, true))⟩,
  ⟨(some 177), (.binOp .add 3 (.tmp 175) (.tmp 176) 3), 3, "", #[], (some (172, true))⟩,
  ⟨(some 178), (.binOp .add 3 (.tmp 177) (.const (.int .i64 1)) 3), 3, "", #[], (some (172, true))⟩,
  ⟨(some 179), (.binOp .eql 3 (.tmp 173) (.tmp 178) 3), 4, "", #[], (some (172, true))⟩,
  ⟨(some 180), (.pick (.tmp 172) (.tmp 179) (.const (.bool false))), 4, "", #[], none⟩,
  ⟨(some 6), (.assign (.tmp 180)), 4, "", #[], none⟩]
def F8.t15 : Cd := (.region 15 F8.r15.toArray false)
theorem F8.t15_eq {P : Program} {Q : Post} {e : FA} {w : World} {θ : Tag (F8.t15, Q, e, w)} : cwE P F8.t15 Q e w θ = cwE P (.region 15 F8.r15.toArray false) Q e w := rfl
def F8.t16 : Cd := (.seq (.block 3 (.seq (.region 16 F8.r16.toArray false) (.region 17 F8.r17.toArray false))) F8.t15)
theorem F8.t16_eq {P : Program} {Q : Post} {e : FA} {w : World} {θ : Tag (F8.t16, Q, e, w)} : cwE P F8.t16 Q e w θ = cwE P (.seq (.block 3 (.seq (.region 16 F8.r16.toArray false) (.region 17 F8.r17.toArray false))) F8.t15) Q e w := rfl
def F8.t22 : Cd := (.region 22 F8.r22.toArray false)
theorem F8.t22_eq {P : Program} {Q : Post} {e : FA} {w : World} {θ : Tag (F8.t22, Q, e, w)} : cwE P F8.t22 Q e w θ = cwE P (.region 22 F8.r22.toArray false) Q e w := rfl
def F8.t18 : Cd := (.seq (.region 18 F8.r18.toArray false) (.cond (.tmp 76) (.seq (.region 19 F8.r19.toArray true) (.seq (.seq (.region 20 F8.r20.toArray false) (.cond (.tmp 94) (.seq (.region 21 F8.r21.toArray false) .ret) .skip)) F8.t22)) .skip))
theorem F8.t18_eq {P : Program} {Q : Post} {e : FA} {w : World} {θ : Tag (F8.t18, Q, e, w)} : cwE P F8.t18 Q e w θ = cwE P (.seq (.region 18 F8.r18.toArray false) (.cond (.tmp 76) (.seq (.region 19 F8.r19.toArray true) (.seq (.seq (.region 20 F8.r20.toArray false) (.cond (.tmp 94) (.seq (.region 21 F8.r21.toArray false) .ret) .skip)) F8.t22)) .skip)) Q e w := rfl
def F8.t11 : Cd := (.region 11 F8.r11.toArray false)
theorem F8.t11_eq {P : Program} {Q : Post} {e : FA} {w : World} {θ : Tag (F8.t11, Q, e, w)} : cwE P F8.t11 Q e w θ = cwE P (.region 11 F8.r11.toArray false) Q e w := rfl
def F8.t12 : Cd := (.seq (.block 1 (.seq (.seq (.region 12 F8.r12.toArray false) (.cond (.tmp 53) (.seq (.region 13 F8.r13.toArray false) (.block 2 (.loop (.seq (.seq (.region 14 F8.r14.toArray false) (.cond (.tmp 61) .skip (.exit 2))) F8.t16)))) .skip)) F8.t18)) F8.t11)
theorem F8.t12_eq {P : Program} {Q : Post} {e : FA} {w : World} {θ : Tag (F8.t12, Q, e, w)} : cwE P F8.t12 Q e w θ = cwE P (.seq (.block 1 (.seq (.seq (.region 12 F8.r12.toArray false) (.cond (.tmp 53) (.seq (.region 13 F8.r13.toArray false) (.block 2 (.loop (.seq (.seq (.region 14 F8.r14.toArray false) (.cond (.tmp 61) .skip (.exit 2))) F8.t16)))) .skip)) F8.t18)) F8.t11) Q e w := rfl
def F8.t33 : Cd := (.seq (.region 33 F8.r33.toArray false) .ret)
theorem F8.t33_eq {P : Program} {Q : Post} {e : FA} {w : World} {θ : Tag (F8.t33, Q, e, w)} : cwE P F8.t33 Q e w θ = cwE P (.seq (.region 33 F8.r33.toArray false) .ret) Q e w := rfl
def F8.t31 : Cd := (.seq (.seq (.region 31 F8.r31.toArray false) (.cond (.tmp 165) (.seq (.region 32 F8.r32.toArray false) .ret) .skip)) F8.t33)
theorem F8.t31_eq {P : Program} {Q : Post} {e : FA} {w : World} {θ : Tag (F8.t31, Q, e, w)} : cwE P F8.t31 Q e w θ = cwE P (.seq (.seq (.region 31 F8.r31.toArray false) (.cond (.tmp 165) (.seq (.region 32 F8.r32.toArray false) .ret) .skip)) F8.t33) Q e w := rfl
def F8.t29 : Cd := (.seq (.seq (.region 29 F8.r29.toArray false) (.cond (.tmp 150) (.seq (.region 30 F8.r30.toArray false) .ret) .skip)) F8.t31)
theorem F8.t29_eq {P : Program} {Q : Post} {e : FA} {w : World} {θ : Tag (F8.t29, Q, e, w)} : cwE P F8.t29 Q e w θ = cwE P (.seq (.seq (.region 29 F8.r29.toArray false) (.cond (.tmp 150) (.seq (.region 30 F8.r30.toArray false) .ret) .skip)) F8.t31) Q e w := rfl
def F8.t23 : Cd := (.seq (.region 23 F8.r23.toArray false) (.seq (.region 24 F8.r24.toArray false) (.seq (.region 25 F8.r25.toArray false) (.seq (.region 26 F8.r26.toArray false) (.seq (.seq (.region 27 F8.r27.toArray false) (.cond (.tmp 135) (.seq (.region 28 F8.r28.toArray false) .ret) .skip)) F8.t29)))))
theorem F8.t23_eq {P : Program} {Q : Post} {e : FA} {w : World} {θ : Tag (F8.t23, Q, e, w)} : cwE P F8.t23 Q e w θ = cwE P (.seq (.region 23 F8.r23.toArray false) (.seq (.region 24 F8.r24.toArray false) (.seq (.region 25 F8.r25.toArray false) (.seq (.region 26 F8.r26.toArray false) (.seq (.seq (.region 27 F8.r27.toArray false) (.cond (.tmp 135) (.seq (.region 28 F8.r28.toArray false) .ret) .skip)) F8.t29))))) Q e w := rfl
def F8.t6 : Cd := (.seq (.region 6 F8.r6.toArray false) (.seq (.region 7 F8.r7.toArray false) (.seq (.region 8 F8.r8.toArray false) (.seq (.seq (.region 9 F8.r9.toArray false) (.block 0 (.loop (.seq (.seq (.region 10 F8.r10.toArray false) (.cond (.tmp 48) .skip (.exit 0))) F8.t12)))) F8.t23))))
theorem F8.t6_eq {P : Program} {Q : Post} {e : FA} {w : World} {θ : Tag (F8.t6, Q, e, w)} : cwE P F8.t6 Q e w θ = cwE P (.seq (.region 6 F8.r6.toArray false) (.seq (.region 7 F8.r7.toArray false) (.seq (.region 8 F8.r8.toArray false) (.seq (.seq (.region 9 F8.r9.toArray false) (.block 0 (.loop (.seq (.seq (.region 10 F8.r10.toArray false) (.cond (.tmp 48) .skip (.exit 0))) F8.t12)))) F8.t23)))) Q e w := rfl
def F8.code : Cd := (.seq (.region 0 F8.r0.toArray false) (.seq (.region 1 F8.r1.toArray false) (.seq (.region 2 F8.r2.toArray false) (.seq (.region 3 F8.r3.toArray false) (.seq (.seq (.region 4 F8.r4.toArray false) (.cond (.tmp 39) (.seq (.region 5 F8.r5.toArray false) .ret) .skip)) F8.t6)))))
theorem F8.calls {args : Array Value} {w : World} {R : Ending → World → Prop} (hn : args.size ≤ 181) (h : cwE Tryd.prog F8.code (fnP Tryd.prog #[(.tmp 6)] R) (entry args) w) : Calls Tryd.prog 8 args w R :=
  calls_of_cwE (types := Tryd.prog.types) follows Tryd.func8 F8.code rfl (by kernel_rfl) hn h

def F9.r0 : List Oper := [
  ⟨(some 4), (.box 63 (.tmp 1)), 0, "", #[⟨0, .chain⟩], none⟩,
  ⟨(some 6), (.assign (.const (.bool false))), 4, "", #[], none⟩]
def F9.r1 : List Oper := [
  ⟨(some 25), (.call ⟨(.value (.func 10)), #[], #[]⟩), 4, "", #[⟨0, .chain⟩], none⟩,
  ⟨(some 7), (.assign (.tmp 25)), 4, "", #[], none⟩]
def F9.r2 : List Oper := [
  ⟨(some 26), (.move (.tmp 0)), 49, "", #[], none⟩,
  ⟨(some 27), (.call ⟨(.value (.func 22)), #[(.tmp 26)], #[49]⟩), 23, "", #[⟨0, .chain⟩], none⟩,
  ⟨(some 8), (.assign (.tmp 27)), 23, "", #[], none⟩]
def F9.r3 : List Oper := [
  ⟨(some 28), (.move (.tmp 8)), 23, "", #[], none⟩,
  ⟨(some 29), (.call ⟨(.value (.func 23)), #[(.tmp 28)], #[23]⟩), 28, "", #[⟨0, .chain⟩], none⟩,
  ⟨(some 9), (.assign (.tmp 29)), 28, "", #[], none⟩]
def F9.r4 : List Oper := [
  ⟨(some 30), (.move (.tmp 7)), 4, "", #[], none⟩,
  ⟨(some 31), (.unOp .not 4 (.tmp 30)), 4, "", #[], none⟩,
  ⟨(some 32), (.move (.tmp 31)), 4, "", #[], none⟩,
  ⟨(some 33), (.move (.tmp 9)), 28, "", #[], (some (32, false))⟩,
  ⟨(some 34), (.binOp .eql 28 (.tmp 33) (.const (.pointer none)) 28), 4, "", #[], (some (32, false))⟩,
  ⟨(some 35), (.pick (.tmp 32) (.const (.bool true)) (.tmp 34)), 4, "", #[], none⟩]
def F9.r5 : List Oper := [
  ⟨(some 6), (.assign (.const (.bool false))), 4, "", #[], none⟩]
def F9.r6 : List Oper := [
  ⟨(some 36), (.move (.tmp 9)), 28, "", #[], none⟩,
  ⟨(some 37), (.call ⟨(.value (.func 17)), #[(.tmp 36)], #[28]⟩), 9, "", #[⟨0, .chain⟩], none⟩,
  ⟨(some 10), (.assign (.tmp 37)), 9, "", #[], none⟩]
def F9.r7 : List Oper := [
  ⟨(some 38), (.move (.tmp 8)), 23, "", #[], none⟩,
  ⟨(some 39), (.fieldAddr 63 (.tmp 4) 0), 0, "", #[], none⟩,
  ⟨(some 40), (.load 3 (.tmp 39)), 3, "", #[⟨0, .data⟩], none⟩,
  ⟨(some 41), (.call ⟨(.value (.func 32)), #[(.tmp 38), (.tmp 40)], #[23, 3]⟩), 9, "", #[⟨0, .chain⟩], none⟩,
  ⟨(some 42), (.binOp .add 9 (.const (.string { data := #[102, 114, 101, 115, 104, 58] })) (.tmp 41) 9), 9, "", #[], none⟩,
  ⟨(some 43), (.binOp .add 9 (.tmp 42) (.const (.string { data := #[58] })) 9), 9, "", #[], none⟩,
  ⟨(some 11), (.assign (.tmp 43)), 9, "", #[], none⟩]
def F9.r8 : List Oper := [
  ⟨(some 12), (.assign (.const (.int .i64 0))), 3, "", #[], none⟩]
def F9.r9 : List Oper := [
  ⟨(some 44), (.move (.tmp 12)), 3, "", #[], none⟩,
  ⟨(some 45), (.fieldAddr 63 (.tmp 4) 1), 0, "", #[], none⟩,
  ⟨(some 46), (.load 61 (.tmp 45)), 61, "", #[⟨0, .data⟩], none⟩,
  ⟨(some 47), (.call ⟨(.builtin .len), #[(.tmp 46)], #[61]⟩), 3, "", #[], none⟩,
  ⟨(some 48), (.binOp .lss 3 (.tmp 44) (.tmp 47) 3), 4, "", #[], none⟩,
  ⟨(some 49), (.move (.tmp 48)), 4, "", #[], none⟩,
  ⟨(some 50), (.move (.tmp 12)), 3, "", #[], (some (49, true))⟩,
  ⟨(some 51), (.move (.tmp 8)), 23, "", #[], (some (49, true))⟩,
  ⟨(some 52), (.call ⟨(.builtin .len), #[(.tmp 51)], #[23]⟩), 3, "", #[], (some (49, true))⟩,
  ⟨(some 53), (.binOp .lss 3 (.tmp 50) (.tmp 52) 3), 4, "", #[], (some (49, true))⟩,
  ⟨(some 54), (.pick (.tmp 49) (.tmp 53) (.const (.bool false))), 4, "", #[], none⟩]
def F9.r11 : List Oper := [
  ⟨(some 57), (.move (.tmp 12)), 3, "", #[], none⟩,
  ⟨(some 58), (.binOp .gtr 3 (.tmp 57) (.const (.int .i64 0)) 3), 4, "", #[], none⟩]
def F9.r12 : List Oper := [
  ⟨(some 59), (.move (.tmp 11)), 9, "", #[], none⟩,
  ⟨(some 60), (.binOp .add 9 (.tmp 59) (.const (.string { data := #[44] })) 9), 9, "", #[], none⟩,
  ⟨(some 11), (.assign (.tmp 60)), 9, "", #[], none⟩]
def F9.r13 : List Oper := [
  ⟨(some 61), (.move (.tmp 11)), 9, "", #[], none⟩,
  ⟨(some 62), (.move (.tmp 8)), 23, "", #[], none⟩,
  ⟨(some 63), (.fieldAddr 63 (.tmp 4) 1), 0, "", #[], none⟩,
  ⟨(some 64), (.load 61 (.tmp 63)), 61, "", #[⟨0, .data⟩], none⟩,
  ⟨(some 65), (.indexAddr 61 (.tmp 64) (.const (.int .i64 0))), 0, "", #[], none⟩,
  ⟨(some 66), (.load 3 (.tmp 65)), 3, "", #[⟨0, .data⟩], none⟩,
  ⟨(some 67), (.move (.tmp 8)), 23, "", #[], none⟩,
  ⟨(some 68), (.call ⟨(.builtin .len), #[(.tmp 67)], #[23]⟩), 3, "", #[], none⟩,
  ⟨(some 69), (.call ⟨(.value (.func 19)), #[(.tmp 66), (.tmp 68)], #[3, 3]⟩), 3, "", #[⟨0, .chain⟩], none⟩,
  ⟨(some 70), (.move (.tmp 12)), 3, "", #[], none⟩,
  ⟨(some 71), (.binOp .add 3 (.tmp 69) (.tmp 70) 3), 3, "", #[], none⟩,
  ⟨(some 72), (.move (.tmp 8)), 23, "", #[], none⟩,
  ⟨(some 73), (.call ⟨(.builtin .len), #[(.tmp 72)], #[23]⟩), 3, "", #[], none⟩,
  ⟨(some 74), (.binOp .rem 3 (.tmp 71) (.tmp 73) 3), 3, "", #[], none⟩,
  ⟨(some 75), (.indexAddr 23 (.tmp 62) (.tmp 74)), 0, "", #[], none⟩,
  ⟨(some 76), (.fieldAddr 46 (.tmp 75) 0), 0, "", #[], none⟩,
  ⟨(some 77), (.load 9 (.tmp 76)), 9, "", #[⟨0, .data⟩], none⟩,
  ⟨(some 78), (.binOp .add 9 (.tmp 61) (.tmp 77) 9), 9, "", #[], none⟩,
  ⟨(some 11), (.assign (.tmp 78)), 9, "", #[], none⟩]
def F9.r10 : List Oper := [
  ⟨(some 55), (.move (.tmp 12)), 3, "", #[], none⟩,
  ⟨(some 56), (.binOp .add 3 (.tmp 55) (.const (.int .i64 1)) 3), 3, "", #[], none⟩,
  ⟨(some 12), (.assign (.tmp 56)), 3, "", #[], none⟩]
def F9.r14 : List Oper := [
  ⟨(some 79), (.move (.tmp 11)), 9, "", #[], none⟩,
  ⟨(some 80), (.binOp .add 9 (.tmp 79) (.const (.string { data := #[58] })) 9), 9, "", #[], none⟩,
  ⟨(some 11), (.assign (.tmp 80)), 9, "", #[], none⟩]
def F9.r15 : List Oper := [
  ⟨(some 82), (.move (.tmp 9)), 28, "", #[], none⟩,
  ⟨(some 83), (.move (.tmp 11)), 9, "", #[], none⟩,
  ⟨(some 84), (.call ⟨(.value (.func 33)), #[(.tmp 82), (.tmp 83)], #[28, 9]⟩), 65, "", #[⟨0, .chain⟩], none⟩,
  ⟨(some 81), (.move (.tmp 84)), 65, "", #[], none⟩,
  ⟨(some 85), (.extract (.tmp 81) 0), 28, "", #[], none⟩,
  ⟨(some 86), (.extract (.tmp 81) 1), 25, "", #[], none⟩,
  ⟨(some 13), (.assign (.tmp 85)), 28, "", #[], none⟩,
  ⟨(some 14), (.assign (.tmp 86)), 25, "", #[], none⟩]
def F9.r16 : List Oper := [
  ⟨(some 87), (.move (.tmp 13)), 28, "", #[], none⟩,
  ⟨(some 88), (.binOp .eql 28 (.tmp 87) (.const (.pointer none)) 28), 4, "", #[], none⟩,
  ⟨(some 89), (.move (.tmp 88)), 4, "", #[], none⟩,
  ⟨(some 90), (.move (.tmp 14)), 25, "", #[], (some (89, false))⟩,
  ⟨(some 91), (.binOp .neq 25 (.tmp 90) (.const (.int .i64 0)) 25), 4, "", #[], (some (89, false))⟩,
  ⟨(some 92), (.pick (.tmp 89) (.const (.bool true)) (.tmp 91)), 4, "", #[], none⟩,
  ⟨(some 93), (.move (.tmp 92)), 4, "", #[], none⟩,
  ⟨(some 94), (.move (.tmp 13)), 28, "", #[], (some (93, false))⟩,
  ⟨(some 95), (.call ⟨(.value (.func 17)), #[(.tmp 94)], #[28]⟩), 9, "", #[⟨0, .chain⟩], (some (93, false))⟩,
  ⟨(some 96), (.move (.tmp 10)), 9, "", #[], (some (93, false))⟩,
  ⟨(some 97), (.move (.tmp 11)), 9, "", #[], (some (93, false))⟩,
  ⟨(some 98), (.binOp .add 9 (.tmp 96) (.tmp 97) 9), 9, "", #[], (some (93, false))⟩,
  ⟨(some 99), (.binOp .add 9 (.tmp 98) (.const (.string { data := #[10] })) 9), 9, "", #[], (some (93, false))⟩,
  ⟨(some 100), (.binOp .neq 9 (.tmp 95) (.tmp 99) 9), 4, "", #[], (some (93, false))⟩,
  ⟨(some 101), (.pick (.tmp 93) (.const (.bool true)) (.tmp 100)), 4, "", #[], none⟩,
  ⟨(some 102), (.move (.tmp 101)), 4, "", #[], none⟩,
  ⟨(some 103), (.move (.tmp 9)), 28, "", #[], (some (102, false))⟩,
  ⟨(some 104), (.call ⟨(.value (.func 17)), #[(.tmp 103)], #[28]⟩), 9, "", #[⟨0, .chain⟩], (some (102, false))⟩,
  ⟨(some 105), (.move (.tmp 10)), 9, "", #[], (some (102, false))⟩,
  ⟨(some 106), (.binOp .neq 9 (.tmp 104) (.tmp 105) 9), 4, "", #[], (some (102, false))⟩,
  ⟨(some 107), (.pick (.tmp 102) (.const (.bool true)) (.tmp 106)), 4, "", #[], none⟩]
def F9.r17 : List Oper := [
  ⟨(some 6), (.assign (.const (.bool false))), 4, "", #[], none⟩]
def F9.r18 : List Oper := [
  ⟨(some 109), (.move (.tmp 13)), 28, "", #[], none⟩,
  ⟨(some 110), (.call ⟨(.value (.func 33)), #[(.tmp 109), (.const (.string { data := #[45, 102, 114, 101, 115, 104] }))], #[28, 9]⟩), 65, "", #[⟨0, .chain⟩], none⟩,
  ⟨(some 108), (.move (.tmp 110)), 65, "", #[], none⟩,
  ⟨(some 111), (.extract (.tmp 108) 0), 28, "", #[], none⟩,
  ⟨(some 112), (.extract (.tmp 108) 1), 25, "", #[], none⟩,
  ⟨(some 15), (.assign (.tmp 111)), 28, "", #[], none⟩,
  ⟨(some 16), (.assign (.tmp 112)), 25, "", #[], none⟩]
def F9.r19 : List Oper := [
  ⟨(some 113), (.move (.tmp 15)), 28, "", #[], none⟩,
  ⟨(some 114), (.binOp .eql 28 (.tmp 113) (.const (.pointer none)) 28), 4, "", #[], none⟩,
  ⟨(some 115), (.move (.tmp 114)), 4, "", #[], none⟩,
  ⟨(some 116), (.move (.tmp 16)), 25, "", #[], (some (115, false))⟩,
  ⟨(some 117), (.binOp .neq 25 (.tmp 116) (.const (.int .i64 0)) 25), 4, "", #[], (some (115, false))⟩,
  ⟨(some 118), (.pick (.tmp 115) (.const (.bool true)) (.tmp 117)), 4, "", #[], none⟩,
  ⟨(some 119), (.move (.tmp 118)), 4, "", #[], none⟩,
  ⟨(some 120), (.move (.tmp 15)), 28, "", #[], (some (119, false))⟩,
  ⟨(some 121), (.call ⟨(.value (.func 17)), #[(.tmp 120)], #[28]⟩), 9, "", #[⟨0, .chain⟩], (some (119, false))⟩,
  ⟨(some 122), (.move (.tmp 10)), 9, "", #[], (some (119, false))⟩,
  ⟨(some 123), (.binOp .neq 9 (.tmp 121) (.tmp 122) 9), 4, "", #[], (some (119, false))⟩,
  ⟨(some 124), (.pick (.tmp 119) (.const (.bool true)) (.tmp 123)), 4, "", #[], none⟩,
  ⟨(some 125), (.move (.tmp 124)), 4, "", #[], none⟩,
  ⟨(some 126), (.move (.tmp 13)), 28, "", #[], (some (125, false))⟩,
  ⟨(some 127), (.call ⟨(.value (.func 17)), #[(.tmp 126)], #[28]⟩), 9, "", #[⟨0, .chain⟩], (some (125, false))⟩,
  ⟨(some 128), (.move (.tmp 10)), 9, "", #[], (some (125, false))⟩,
  ⟨(some 129), (.move (.tmp 11)), 9, "", #[], (some (125, false))⟩,
  ⟨(some 130), (.binOp .add 9 (.tmp 128) (.tmp 129) 9), 9, "", #[], (some (125, false))⟩,
  ⟨(some 131), (.binOp .add 9 (.tmp 130) (.const (.string { data := #[10] })) 9), 9, "", #[], (some (125, false))⟩,
  ⟨(some 132), (.binOp .neq 9 (.tmp 127) (.tmp 131) 9), 4, "", #[], (some (125, false))⟩,
  ⟨(some 133), (.pick (.tmp 125) (.const (.bool true)) (.tmp 132)), 4, "", #[], none⟩]
def F9.r20 : List Oper := [
  ⟨(some 6), (.assign (.const (.bool false))), 4, "", #[], none⟩]
def F9.r21 : List Oper := [
  ⟨(some 135), (.move (.tmp 9)), 28, "", #[], none⟩,
  ⟨(some 136), (.call ⟨(.value (.func 33)), #[(.tmp 135), (.const (.string { data := #[45, 102, 114, 101, 115, 104] }))], #[28, 9]⟩), 65, "", #[⟨0, .chain⟩], none⟩,
  ⟨(some 134), (.move (.tmp 136)), 65, "", #[], none⟩,
  ⟨(some 137), (.extract (.tmp 134) 0), 28, "", #[], none⟩,
  ⟨(some 138), (.extract (.tmp 134) 1), 25, "", #[], none⟩,
  ⟨(some 17), (.assign (.tmp 137)), 28, "", #[], none⟩,
  ⟨(some 18), (.assign (.tmp 138)), 25, "", #[], none⟩]
def F9.r22 : List Oper := [
  ⟨(some 139), (.move (.tmp 17)), 28, "", #[], none⟩,
  ⟨(some 140), (.binOp .neq 28 (.tmp 139) (.const (.pointer none)) 28), 4, "", #[], none⟩,
  ⟨(some 141), (.move (.tmp 140)), 4, "", #[], none⟩,
  ⟨(some 142), (.move (.tmp 18)), 25, "", #[], (some (141, false))⟩,
  ⟨(some 143), (.binOp .neq 25 (.tmp 142) (.const (.int .i64 62)) 25), 4, "", #[], (some (141, false))⟩,
  ⟨(some 144), (.pick (.tmp 141) (.const (.bool true)) (.tmp 143)), 4, "", #[], none⟩]
def F9.r23 : List Oper := [
  ⟨(some 6), (.assign (.const (.bool false))), 4, "", #[], none⟩]
def F9.r24 : List Oper := [
  ⟨(some 145), (.move (.tmp 8)), 23, "", #[], none⟩,
  ⟨(some 146), (.call ⟨(.builtin .len), #[(.tmp 145)], #[23]⟩), 3, "", #[], none⟩,
  ⟨(some 147), (.binOp .eql 3 (.tmp 146) (.const (.int .i64 0)) 3), 4, "", #[], none⟩]
def F9.r25 : List Oper := [
  ⟨(some 6), (.assign (.const (.bool true))), 4, "", #[], none⟩]
def F9.r26 : List Oper := [
  ⟨(some 148), (.move (.tmp 8)), 23, "", #[], none⟩,
  ⟨(some 149), (.move (.tmp 2)), 3, "", #[], none⟩,
  ⟨(some 150), (.move (.tmp 8)), 23, "", #[], none⟩,
  ⟨(some 151), (.call ⟨(.builtin .len), #[(.tmp 150)], #[23]⟩), 3, "", #[], none⟩,
  ⟨(some 152), (.call ⟨(.value (.func 19)), #[(.tmp 149), (.tmp 151)], #[3, 3]⟩), 3, "", #[⟨0, .chain⟩], none⟩,
  ⟨(some 153), (.indexAddr 23 (.tmp 148) (.tmp 152)), 0, "", #[], none⟩,
  ⟨(some 154), (.load 46 (.tmp 153)), 46, "", #[⟨0, .data⟩], none⟩,
  ⟨(some 19), (.alloc 46), 0, "", #[⟨0, .chain⟩], none⟩,
  ⟨none, (.store 46 (.tmp 19) (.tmp 154)), 0, "", #[⟨0, .chain⟩], none⟩]
def F9.r27 : List Oper := [
  ⟨(some 20), (.assign (.const (.bool false))), 4, "", #[], none⟩]
def F9.r28 : List Oper := [
  ⟨(some 21), (.assign (.const (.int .i64 0))), 3, "", #[], none⟩]
def F9.r29 : List Oper := [
  ⟨(some 155), (.move (.tmp 21)), 3, "", #[], none⟩,
  ⟨(some 156), (.move (.tmp 8)), 23, "", #[], none⟩,
  ⟨(some 157), (.call ⟨(.builtin .len), #[(.tmp 156)], #[23]⟩), 3, "", #[], none⟩,
  ⟨(some 158), (.binOp .lss 3 (.tmp 155) (.tmp 157) 3), 4, "", #[], none⟩]
def F9.r31 : List Oper := [
  ⟨(some 161), (.move (.tmp 8)), 23, "", #[], none⟩,
  ⟨(some 162), (.move (.tmp 21)), 3, "", #[], none⟩,
  ⟨(some 163), (.indexAddr 23 (.tmp 161) (.tmp 162)), 0, "", #[], none⟩,
  ⟨(some 164), (.fieldAddr 46 (.tmp 163) 2), 0, "", #[], none⟩,
  ⟨(some 166), (.fieldAddr 46 (.tmp 19) 0), 0, "", #[], none⟩,
  ⟨(some 165), (.load 33 (.tmp 164)), 33, "", #[⟨128, .data⟩], none⟩,
  ⟨(some 167), (.load 9 (.tmp 166)), 9, "", #[⟨128, .data⟩], none⟩,
  ⟨(some 168), (.call ⟨(.value (.func 25)), #[(.tmp 165), (.tmp 167)], #[33, 9]⟩), 4, "", #[⟨7, .chain⟩], none⟩,
  ⟨(some 22), (.assign (.tmp 168)), 4, "", #[], none⟩]
def F9.r32 : List Oper := [
  ⟨(some 169), (.move (.tmp 20)), 4, "", #[], none⟩,
  ⟨(some 170), (.move (.tmp 169)), 4, "", #[], none⟩,
  ⟨(some 171), (.move (.tmp 8)), 23, "", #[], (some (170, false))⟩,
  ⟨(some 172), (.move (.tmp 21)), 3, "", #[], (some (170, false))⟩,
  ⟨(some 173), (.indexAddr 23 (.tmp 171) (.tmp 172)), 0, "", #[], (some (170, false))⟩,
  ⟨(some 174), (.fieldAddr 46 (.tmp 173) 0), 0, "", #[], (some (170, false))⟩,
  ⟨(some 176), (.fieldAddr 46 (.tmp 19) 0), 0, "", #[], (some (170, false))⟩,
  ⟨(some 175), (.load 9 (.tmp 174)), 9, "", #[⟨0, .data⟩], (some (170, false))⟩,
  ⟨(some 177), (.load 9 (.tmp 176)), 9, "", #[⟨0, .data⟩], (some (170, false))⟩,
  ⟨(some 178), (.binOp .neq 9 (.tmp 175) (.tmp 177) 9), 4, "", #[], (some (170, false))⟩,
  ⟨(some 179), (.move (.tmp 178)), 4, "", #[], (some (170, false))⟩,
  ⟨(some 180), (.move (.tmp 22)), 4, "", #[], (some (179, true))⟩,
  ⟨(some 181), (.move (.tmp 180)), 4, "", #[], (some (179, true))⟩,
  ⟨(some 182), (.move (.tmp 8)), 23, "", #[], (some (181, false))⟩,
  ⟨(some 183), (.move (.tmp 21)), 3, "", #[], (some (181, false))⟩,
  ⟨(some 184), (.indexAddr 23 (.tmp 182) (.tmp 183)), 0, "", #[], (some (181, false))⟩,
  ⟨(some 185), (.fieldAddr 46 (.tmp 184) 1), 0, "", #[], (some (181, false))⟩,
  ⟨(some 187), (.fieldAddr 46 (.tmp 19) 0), 0, "", #[], (some (181, false))⟩,
  ⟨(some 186), (.load 9 (.tmp 185)), 9, "", #[⟨0, .data⟩], (some (181, false))⟩,
  ⟨(some 188), (.load 9 (.tmp 187)), 9, "", #[⟨0, .data⟩], (some (181, false))⟩,
  ⟨(some 189), (.binOp .eql 9 (.tmp 186) (.tmp 188) 9), 4, "", #[], (some (181, false))⟩,
  ⟨(some 190), (.pick (.tmp 181) (.const (.bool true)) (.tmp 189)), 4, "", #[], (some (179, true))⟩,
  ⟨(some 191), (.pick (.tmp 179) (.tmp 190) (.const (.bool false))), 4, "", #[], (some (170, false))⟩,
  ⟨(some 192), (.pick (.tmp 170) (.const (.bool true)) (.tmp 191)), 4, "", #[], none⟩,
  ⟨(some 20), (.assign (.tmp 192)), 4, "", #[], none⟩]
def F9.r30 : List Oper := [
  ⟨(some 159), (.move (.tmp 21)), 3, "", #[], none⟩,
  ⟨(some 160), (.binOp .add 3 (.tmp 159) (.const (.int .i64 1)) 3), 3, "", #[], none⟩,
  ⟨(some 21), (.assign (.tmp 160)), 3, "", #[], none⟩]
def F9.r33 : List Oper := [
  ⟨(some 194), (.move (.tmp 9)), 28, "", #[], none⟩,
  ⟨(some 195), (.fieldAddr 46 (.tmp 19) 0), 0, "", #[], none⟩,
  ⟨(some 196), (.load 9 (.tmp 195)), 9, "", #[⟨0, .data⟩], none⟩,
  ⟨(some 197), (.binOp .add 9 (.const (.string { data := #[45] })) (.tmp 196) 9), 9, "", #[], none⟩,
  ⟨(some 198), (.call ⟨(.value (.func 33)), #[(.tmp 194), (.tmp 197)], #[28, 9]⟩), 65, "", #[⟨0, .chain⟩], none⟩,
  ⟨(some 193), (.move (.tmp 198)), 65, "", #[], none⟩,
  ⟨(some 199), (.extract (.tmp 193) 0), 28, "", #[], none⟩,
  ⟨(some 200), (.extract (.tmp 193) 1), 25, "", #[], none⟩,
  ⟨(some 23), (.assign (.tmp 199)), 28, "", #[], none⟩,
  ⟨(some 24), (.assign (.tmp 200)), 25, "", #[], none⟩]
def F9.r34 : List Oper := [
  ⟨(some 201), (.move (.tmp 20)), 4, "", #[], none⟩]
def F9.r35 : List Oper := [
  ⟨(some 202), (.move (.tmp 23)), 28, "", #[], none⟩,
  ⟨(some 203), (.binOp .eql 28 (.tmp 202) (.const (.pointer none)) 28), 4, "", #[], none⟩,
  ⟨(some 204), (.move (.tmp 203)), 4, "", #[], none⟩,
  ⟨(some 205), (.move (.tmp 24)), 25, "", #[], (some (204, true))⟩,
  ⟨(some 206), (.binOp .eql 25 (.tmp 205) (.const (.int .i64 62)) 25), 4, "", #[], (some (204, true))⟩,
  ⟨(some 207), (.pick (.tmp 204) (.tmp 206) (.const (.bool false))), 4, "", #[], none⟩,
  ⟨(some 6), (.assign (.tmp 207)), 4, "", #[], none⟩]
def F9.r36 : List Oper := [
  ⟨(some 208), (.move (.tmp 23)), 28, "", #[], none⟩,
  ⟨(some 209), (.binOp .neq 28 (.tmp 208) (.const (.pointer none)) 28), 4, "", #[], none⟩,
  ⟨(some 210), (.move (.tmp 209)), 4, "", #[], none⟩,
  ⟨(some 211), (.move (.tmp 24)), 25, "", #[], (some (210, true))⟩,
  ⟨(some 212), (.binOp .eql 25 (.tmp 211) (.const (.int .i64 0)) 25), 4, "", #[], (some (210, true))⟩,
  ⟨(some 213), (.pick (.tmp 210) (.tmp 212) (.const (.bool false))), 4, "", #[], none⟩,
  ⟨(some 214), (.move (.tmp 213)), 4, "", #[], none⟩,
  ⟨(some 215), (.move (.tmp 23)), 28, "", #[], (some (214, true))⟩,
  ⟨(some 216), (.fieldAddr 46 (.tmp 19) 0), 0, "", #[], (some (214, true))⟩,
  ⟨(some 217), (.load 9 (.tmp 216)), 9, "", #[⟨0, .data⟩], (some (214, true))⟩,
  ⟨(some 218), (.call ⟨(.value (.func 29)), #[(.tmp 215), (.tmp 217)], #[28, 9]⟩), 4, "", #[⟨0, .chain⟩], (some (214, true))⟩,
  ⟨(some 219), (.unOp .not 4 (.tmp 218)), 4, "", #[], (some (214, true))⟩,
  ⟨(some 220), (.pick (.tmp 214) (.tmp 219) (.const (.bool false))), 4, "", #[], none⟩,
  ⟨(some 221), (.move (.tmp 220)), 4, "", #[], none⟩,
  ⟨(some 222), (.move (.tmp 9)), 28, "", #[], (some (221, true))⟩,
  ⟨(some 223), (.fieldAddr 46 (.tmp 19) 0), 0, "", #[], (some (221, true))⟩,
  ⟨(some 224), (.load 9 (.tmp 223)), 9, "", #[⟨0, .data⟩], (some (221, true))⟩,
  ⟨(some 225), (.call ⟨(.value (.func 29)), #[(.tmp 222), (.tmp 224)], #[28, 9]⟩), 4, "", #[⟨0, .chain⟩], (some (221, true))⟩,
  ⟨(some 226), (.pick (.tmp 221) (.tmp 225) (.const (.bool false))), 4, "", #[], none⟩,
  ⟨(some 6), (.assign (.tmp 226)), 4, "", #[], none⟩]
def F9.t13 : Cd := (.region 13 F9.r13.toArray false)
theorem F9.t13_eq {P : Program} {Q : Post} {e : FA} {w : World} {θ : Tag (F9.t13, Q, e, w)} : cwE P F9.t13 Q e w θ = cwE P (.region 13 F9.r13.toArray false) Q e w := rfl
def F9.t10 : Cd := (.region 10 F9.r10.toArray false)
theorem F9.t10_eq {P : Program} {Q : Post} {e : FA} {w : World} {θ : Tag (F9.t10, Q, e, w)} : cwE P F9.t10 Q e w θ = cwE P (.region 10 F9.r10.toArray false) Q e w := rfl
def F9.t11 : Cd := (.seq (.block 1 (.seq (.seq (.region 11 F9.r11.toArray false) (.cond (.tmp 58) (.region 12 F9.r12.toArray false) .skip)) F9.t13)) F9.t10)
theorem F9.t11_eq {P : Program} {Q : Post} {e : FA} {w : World} {θ : Tag (F9.t11, Q, e, w)} : cwE P F9.t11 Q e w θ = cwE P (.seq (.block 1 (.seq (.seq (.region 11 F9.r11.toArray false) (.cond (.tmp 58) (.region 12 F9.r12.toArray false) .skip)) F9.t13)) F9.t10) Q e w := rfl
def F9.t30 : Cd := (.region 30 F9.r30.toArray false)
theorem F9.t30_eq {P : Program} {Q : Post} {e : FA} {w : World} {θ : Tag (F9.t30, Q, e, w)} : cwE P F9.t30 Q e w θ = cwE P (.region 30 F9.r30.toArray false) Q e w := rfl
def F9.t31 : Cd := (.seq (.block 3 (.seq (.region 31 F9.r31.toArray true) (.region 32 F9.r32.toArray true))) F9.t30)
theorem F9.t31_eq {P : Program} {Q : Post} {e : FA} {w : World} {θ : Tag (F9.t31, Q, e, w)} : cwE P F9.t31 Q e w θ = cwE P (.seq (.block 3 (.seq (.region 31 F9.r31.toArray true) (.region 32 F9.r32.toArray true))) F9.t30) Q e w := rfl
def F9.t36 : Cd := (.seq (.region 36 F9.r36.toArray false) .ret)
theorem F9.t36_eq {P : Program} {Q : Post} {e : FA} {w : World} {θ : Tag (F9.t36, Q, e, w)} : cwE P F9.t36 Q e w θ = cwE P (.seq (.region 36 F9.r36.toArray false) .ret) Q e w := rfl
def F9.t33 : Cd := (.seq (.region 33 F9.r33.toArray false) (.seq (.seq (.region 34 F9.r34.toArray false) (.cond (.tmp 201) (.seq (.region 35 F9.r35.toArray false) .ret) .skip)) F9.t36))
theorem F9.t33_eq {P : Program} {Q : Post} {e : FA} {w : World} {θ : Tag (F9.t33, Q, e, w)} : cwE P F9.t33 Q e w θ = cwE P (.seq (.region 33 F9.r33.toArray false) (.seq (.seq (.region 34 F9.r34.toArray false) (.cond (.tmp 201) (.seq (.region 35 F9.r35.toArray false) .ret) .skip)) F9.t36)) Q e w := rfl
def F9.t26 : Cd := (.seq (.region 26 F9.r26.toArray false) (.seq (.region 27 F9.r27.toArray false) (.seq (.seq (.region 28 F9.r28.toArray false) (.block 2 (.loop (.seq (.seq (.region 29 F9.r29.toArray false) (.cond (.tmp 158) .skip (.exit 2))) F9.t31)))) F9.t33)))
theorem F9.t26_eq {P : Program} {Q : Post} {e : FA} {w : World} {θ : Tag (F9.t26, Q, e, w)} : cwE P F9.t26 Q e w θ = cwE P (.seq (.region 26 F9.r26.toArray false) (.seq (.region 27 F9.r27.toArray false) (.seq (.seq (.region 28 F9.r28.toArray false) (.block 2 (.loop (.seq (.seq (.region 29 F9.r29.toArray false) (.cond (.tmp 158) .skip (.exit 2))) F9.t31)))) F9.t33))) Q e w := rfl
def F9.t24 : Cd := (.seq (.seq (.region 24 F9.r24.toArray false) (.cond (.tmp 147) (.seq (.region 25 F9.r25.toArray false) .ret) .skip)) F9.t26)
theorem F9.t24_eq {P : Program} {Q : Post} {e : FA} {w : World} {θ : Tag (F9.t24, Q, e, w)} : cwE P F9.t24 Q e w θ = cwE P (.seq (.seq (.region 24 F9.r24.toArray false) (.cond (.tmp 147) (.seq (.region 25 F9.r25.toArray false) .ret) .skip)) F9.t26) Q e w := rfl
def F9.t21 : Cd := (.seq (.region 21 F9.r21.toArray false) (.seq (.seq (.region 22 F9.r22.toArray false) (.cond (.tmp 144) (.seq (.region 23 F9.r23.toArray false) .ret) .skip)) F9.t24))
theorem F9.t21_eq {P : Program} {Q : Post} {e : FA} {w : World} {θ : Tag (F9.t21, Q, e, w)} : cwE P F9.t21 Q e w θ = cwE P (.seq (.region 21 F9.r21.toArray false) (.seq (.seq (.region 22 F9.r22.toArray false) (.cond (.tmp 144) (.seq (.region 23 F9.r23.toArray false) .ret) .skip)) F9.t24)) Q e w := rfl
def F9.t18 : Cd := (.seq (.region 18 F9.r18.toArray false) (.seq (.seq (.region 19 F9.r19.toArray false) (.cond (.tmp 133) (.seq (.region 20 F9.r20.toArray false) .ret) .skip)) F9.t21))
theorem F9.t18_eq {P : Program} {Q : Post} {e : FA} {w : World} {θ : Tag (F9.t18, Q, e, w)} : cwE P F9.t18 Q e w θ = cwE P (.seq (.region 18 F9.r18.toArray false) (.seq (.seq (.region 19 F9.r19.toArray false) (.cond (.tmp 133) (.seq (.region 20 F9.r20.toArray false) .ret) .skip)) F9.t21)) Q e w := rfl
def F9.t14 : Cd := (.seq (.region 14 F9.r14.toArray false) (.seq (.region 15 F9.r15.toArray false) (.seq (.seq (.region 16 F9.r16.toArray false) (.cond (.tmp 107) (.seq (.region 17 F9.r17.toArray false) .ret) .skip)) F9.t18)))
theorem F9.t14_eq {P : Program} {Q : Post} {e : FA} {w : World} {θ : Tag (F9.t14, Q, e, w)} : cwE P F9.t14 Q e w θ = cwE P (.seq (.region 14 F9.r14.toArray false) (.seq (.region 15 F9.r15.toArray false) (.seq (.seq (.region 16 F9.r16.toArray false) (.cond (.tmp 107) (.seq (.region 17 F9.r17.toArray false) .ret) .skip)) F9.t18))) Q e w := rfl
def F9.t6 : Cd := (.seq (.region 6 F9.r6.toArray false) (.seq (.region 7 F9.r7.toArray false) (.seq (.seq (.region 8 F9.r8.toArray false) (.block 0 (.loop (.seq (.seq (.region 9 F9.r9.toArray false) (.cond (.tmp 54) .skip (.exit 0))) F9.t11)))) F9.t14)))
theorem F9.t6_eq {P : Program} {Q : Post} {e : FA} {w : World} {θ : Tag (F9.t6, Q, e, w)} : cwE P F9.t6 Q e w θ = cwE P (.seq (.region 6 F9.r6.toArray false) (.seq (.region 7 F9.r7.toArray false) (.seq (.seq (.region 8 F9.r8.toArray false) (.block 0 (.loop (.seq (.seq (.region 9 F9.r9.toArray false) (.cond (.tmp 54) .skip (.exit 0))) F9.t11)))) F9.t14))) Q e w := rfl
def F9.code : Cd := (.seq (.region 0 F9.r0.toArray false) (.seq (.region 1 F9.r1.toArray false) (.seq (.region 2 F9.r2.toArray false) (.seq (.region 3 F9.r3.toArray false) (.seq (.seq (.region 4 F9.r4.toArray false) (.cond (.tmp 35) (.seq (.region 5 F9.r5.toArray false) .ret) .skip)) F9.t6)))))
theorem F9.calls {args : Array Value} {w : World} {R : Ending → World → Prop} (hn : args.size ≤ 227) (h : cwE Tryd.prog F9.code (fnP Tryd.prog #[(.tmp 6)] R) (entry args) w) : Calls Tryd.prog 9 args w R :=
  calls_of_cwE (types := Tryd.prog.types) follows Tryd.func9 F9.code rfl (by kernel_rfl) hn h

def F10.r0 : List Oper := [
  ⟨(some 0), (.assign (.const (.bool false))), 4, "", #[], none⟩]
def F10.r1 : List Oper := [
  ⟨(some 7), (.call ⟨(.value (.func 13)), #[(.const (.string { data := #[97, 100, 109, 58, 58, 103, 108, 101, 110, 100, 97, 58, 10, 103, 108, 101, 110, 100, 97, 58, 58, 58, 107, 101, 121, 49, 10, 115, 121, 115, 58, 103, 108, 101, 110, 100, 97, 58, 97, 100, 109, 44, 103, 108, 101, 110, 100, 97, 58, 10] }))], #[9]⟩), 29, "", #[⟨0, .chain⟩], none⟩,
  ⟨(some 6), (.move (.tmp 7)), 29, "", #[], none⟩,
  ⟨(some 8), (.extract (.tmp 6) 0), 28, "", #[], none⟩,
  ⟨(some 9), (.extract (.tmp 6) 1), 25, "", #[], none⟩,
  ⟨(some 10), (.extract (.tmp 6) 2), 3, "", #[], none⟩,
  ⟨(some 1), (.assign (.tmp 8)), 28, "", #[], none⟩,
  ⟨(some 2), (.assign (.tmp 9)), 25, "", #[], none⟩,
  ⟨(some 3), (.assign (.tmp 10)), 3, "", #[], none⟩]
def F10.r2 : List Oper := [
  ⟨(some 11), (.move (.tmp 1)), 28, "", #[], none⟩,
  ⟨(some 12), (.binOp .eql 28 (.tmp 11) (.const (.pointer none)) 28), 4, "", #[], none⟩,
  ⟨(some 13), (.move (.tmp 12)), 4, "", #[], none⟩,
  ⟨(some 14), (.move (.tmp 2)), 25, "", #[], (some (13, false))⟩,
  ⟨(some 15), (.binOp .neq 25 (.tmp 14) (.const (.int .i64 0)) 25), 4, "", #[], (some (13, false))⟩,
  ⟨(some 16), (.pick (.tmp 13) (.const (.bool true)) (.tmp 15)), 4, "", #[], none⟩,
  ⟨(some 17), (.move (.tmp 16)), 4, "", #[], none⟩,
  ⟨(some 18), (.move (.tmp 3)), 3, "", #[], (some (17, false))⟩,
  ⟨(some 19), (.binOp .neq 3 (.tmp 18) (.const (.int .i64 0)) 3), 4, "", #[], (some (17, false))⟩,
  ⟨(some 20), (.pick (.tmp 17) (.const (.bool true)) (.tmp 19)), 4, "", #[], none⟩]
def F10.r3 : List Oper := [
  ⟨(some 0), (.assign (.const (.bool false))), 4, "", #[], none⟩]
def F10.r4 : List Oper := [
  ⟨(some 21), (.move (.tmp 1)), 28, "", #[], none⟩,
  ⟨(some 22), (.call ⟨(.value (.func 24)), #[(.tmp 21), (.const (.string { data := #[103, 108, 101, 110, 100, 97] }))], #[28, 9]⟩), 33, "", #[⟨0, .chain⟩], none⟩,
  ⟨(some 4), (.assign (.tmp 22)), 33, "", #[], none⟩]
def F10.r5 : List Oper := [
  ⟨(some 23), (.move (.tmp 4)), 33, "", #[], none⟩,
  ⟨(some 24), (.buildSlice 33 3 #[(0, (.const (.string { data := #[97, 100, 109] }))), (1, (.const (.string { data := #[103, 108, 101, 110, 100, 97] }))), (2, (.const (.string { data := #[115, 121, 115] })))]), 33, "", #[⟨0, .chain⟩], none⟩,
  ⟨(some 25), (.call ⟨(.value (.func 30)), #[(.tmp 23), (.tmp 24)], #[33, 33]⟩), 4, "", #[⟨0, .chain⟩], none⟩,
  ⟨(some 5), (.assign (.tmp 25)), 4, "", #[], none⟩]
def F10.r6 : List Oper := [
  ⟨(some 26), (.move (.tmp 5)), 4, "", #[], none⟩,
  ⟨(some 27), (.move (.tmp 26)), 4, "", #[], none⟩,
  ⟨(some 28), (.move (.tmp 1)), 28, "", #[], (some (27, true))⟩,
  ⟨(some 29), (.call ⟨(.value (.func 26)), #[(.tmp 28), (.const (.string { data := #[103, 108, 101, 110, 100, 97] })), (.const (.string { data := #[97, 100, 109] }))], #[28, 9, 9]⟩), 4, "", #[⟨0, .chain⟩], (some (27, true))⟩,
  ⟨(some 30), (.pick (.tmp 27) (.tmp 29) (.const (.bool false))), 4, "", #[], none⟩,
  ⟨(some 31), (.move (.tmp 30)), 4, "", #[], none⟩,
  ⟨(some 32), (.move (.tmp 1)), 28, "", #[], (some (31, true))⟩,
  ⟨(some 33), (.call ⟨(.value (.func 26)), #[(.tmp 32), (.const (.string { data := #[97, 100, 109] })), (.const (.string { data := #[103, 108, 101, 110, 100, 97] }))], #[28, 9, 9]⟩), 4, "", #[⟨0, .chain⟩], (some (31, true))⟩,
  ⟨(some 34), (.unOp .not 4 (.tmp 33)), 4, "", #[], (some (31, true))⟩,
  ⟨(some 35), (.pick (.tmp 31) (.tmp 34) (.const (.bool false))), 4, "", #[], none⟩,
  ⟨(some 36), (.move (.tmp 35)), 4, "", #[], none⟩,
  ⟨(some 37), (.move (.tmp 1)), 28, "", #[], (some (36, true))⟩,
  ⟨(some 38), (.call ⟨(.value (.func 27)), #[(.tmp 37), (.const (.string { data := #[103, 108, 101, 110, 100, 97] })), (.const (.string { data := #[115, 121, 115] }))], #[28, 9, 9]⟩), 4, "", #[⟨0, .chain⟩], (some (36, true))⟩,
  ⟨(some 39), (.pick (.tmp 36) (.tmp 38) (.const (.bool false))), 4, "", #[], none⟩,
  ⟨(some 40), (.move (.tmp 39)), 4, "", #[], none⟩,
  ⟨(some 41), (.move (.tmp 1)), 28, "", #[], (some (40, true))⟩,
  ⟨(some 42), (.call ⟨(.value (.func 27)), #[(.tmp 41), (.const (.string { data := #[97, 100, 109] })), (.const (.string { data := #[115, 121, 115] }))], #[28, 9, 9]⟩), 4, "", #[⟨0, .chain⟩], (some (40, true))⟩,
  ⟨(some 43), (.unOp .not 4 (.tmp 42)), 4, "", #[], (some (40, true))⟩,
  ⟨(some 44), (.pick (.tmp 40) (.tmp 43) (.const (.bool false))), 4, "", #[], none⟩,
  ⟨(some 45), (.move (.tmp 44)), 4, "", #[], none⟩,
  ⟨(some 46), (.move (.tmp 1)), 28, "", #[], (some (45, true))⟩,
  ⟨(some 47), (.call ⟨(.value (.func 28)), #[(.tmp 46), (.const (.string { data := #[103, 108, 101, 110, 100, 97] }))], #[28, 9]⟩), 9, "", #[⟨0, .chain⟩], (some (45, true))⟩,
  ⟨(some 48), (.binOp .eql 9 (.tmp 47) (.const (.string { data := #[107, 101, 121, 49] })) 9), 4, "", #[], (some (45, true))⟩,
  ⟨(some 49), (.pick (.tmp 45) (.tmp 48) (.const (.bool false))), 4, "", #[], none⟩,
  ⟨(some 50), (.move (.tmp 49)), 4, "", #[], none⟩,
  ⟨(some 51), (.move (.tmp 1)), 28, "", #[], (some (50, true))⟩,
  ⟨(some 52), (.call ⟨(.value (.func 29)), #[(.tmp 51), (.const (.string { data := #[97, 100, 109] }))], #[28, 9]⟩), 4, "", #[⟨0, .chain⟩], (some (50, true))⟩,
  ⟨(some 53), (.pick (.tmp 50) (.tmp 52) (.const (.bool false))), 4, "", #[], none⟩,
  ⟨(some 54), (.move (.tmp 53)), 4, "", #[], none⟩,
  ⟨(some 55), (.move (.tmp 1)), 28, "", #[], (some (54, true))⟩,
  ⟨(some 56), (.call ⟨(.value (.func 29)), #[(.tmp 55), (.const (.string { data := #[107, 101, 121, 49] }))], #[28, 9]⟩), 4, "", #[⟨0, .chain⟩], (some (54, true))⟩,
  ⟨(some 57), (.unOp .not 4 (.tmp 56)), 4, "", #[], (some (54, true))⟩,
  ⟨(some 58), (.pick (.tmp 54) (.tmp 57) (.const (.bool false))), 4, "", #[], none⟩,
  ⟨(some 0), (.assign (.tmp 58)), 4, "", #[], none⟩]
def F10.t4 : Cd := (.seq (.region 4 F10.r4.toArray false) (.seq (.region 5 F10.r5.toArray false) (.seq (.region 6 F10.r6.toArray false) .ret)))
theorem F10.t4_eq {P : Program} {Q : Post} {e : FA} {w : World} {θ : Tag (F10.t4, Q, e, w)} : cwE P F10.t4 Q e w θ = cwE P (.seq (.region 4 F10.r4.toArray false) (.seq (.region 5 F10.r5.toArray false) (.seq (.region 6 F10.r6.toArray false) .ret))) Q e w := rfl
def F10.code : Cd := (.seq (.region 0 F10.r0.toArray false) (.seq (.region 1 F10.r1.toArray false) (.seq (.seq (.region 2 F10.r2.toArray false) (.cond (.tmp 20) (.seq (.region 3 F10.r3.toArray false) .ret) .skip)) F10.t4)))
theorem F10.calls {args : Array Value} {w : World} {R : Ending → World → Prop} (hn : args.size ≤ 59) (h : cwE Tryd.prog F10.code (fnP Tryd.prog #[(.tmp 0)] R) (entry args) w) : Calls Tryd.prog 10 args w R :=
  calls_of_cwE (types := Tryd.prog.types) follows Tryd.func10 F10.code rfl (by kernel_rfl) hn h

def F11.r0 : List Oper := [
  ⟨(some 2), (.assign (.const (.int .i64 0))), 3, "", #[], none⟩]
def F11.r1 : List Oper := [
  ⟨(some 3), (.assign (.const (.int .i64 0))), 3, "", #[], none⟩]
def F11.r2 : List Oper := [
  ⟨(some 4), (.assign (.const (.int .i64 0))), 3, "", #[], none⟩]
def F11.r3 : List Oper := [
  ⟨(some 5), (.move (.tmp 4)), 3, "", #[], none⟩,
  ⟨(some 6), (.move (.tmp 0)), 23, "", #[], none⟩,
  ⟨(some 7), (.call ⟨(.builtin .len), #[(.tmp 6)], #[23]⟩), 3, "", #[], none⟩,
  ⟨(some 8), (.binOp .lss 3 (.tmp 5) (.tmp 7) 3), 4, "", #[], none⟩,
  ⟨(some 9), (.move (.tmp 8)), 4, "", #[], none⟩,
  ⟨(some 10), (.move (.tmp 3)), 3, "", #[], (some (9, true))⟩,
  ⟨(some 11), (.binOp .leq 3 (.tmp 10) (.const (.int .i64 8388608)) 3), 4, "", #[], (some (9, true))⟩,
  ⟨(some 12), (.pick (.tmp 9) (.tmp 11) (.const (.bool false))), 4, "", #[], none⟩]
def F11.r5 : List Oper := [
  ⟨(some 15), (.move (.tmp 3)), 3, "", #[], none⟩,
  ⟨(some 16), (.binOp .add 3 (.tmp 15) (.const (.int .i64 16)) 3), 3, "", #[], none⟩,
  ⟨(some 17), (.move (.tmp 0)), 23, "", #[], none⟩,
  ⟨(some 18), (.move (.tmp 4)), 3, "", #[], none⟩,
  ⟨(some 19), (.indexAddr 23 (.tmp 17) (.tmp 18)), 0, "", #[], none⟩,
  ⟨(some 20), (.fieldAddr 46 (.tmp 19) 0), 0, "", #[], none⟩,
  ⟨(some 24), (.move (.tmp 0)), 23, "", #[], none⟩,
  ⟨(some 25), (.move (.tmp 4)), 3, "", #[], none⟩,
  ⟨(some 26), (.indexAddr 23 (.tmp 24) (.tmp 25)), 0, "", #[], none⟩,
  ⟨(some 27), (.fieldAddr 46 (.tmp 26) 1), 0, "", #[], none⟩,
  ⟨(some 31), (.move (.tmp 0)), 23, "", #[], none⟩,
  ⟨(some 32), (.move (.tmp 4)), 3, "", #[], none⟩,
  ⟨(some 33), (.indexAddr 23 (.tmp 31) (.tmp 32)), 0, "", #[], none⟩,
  ⟨(some 34), (.fieldAddr 46 (.tmp 33) 3), 0, "", #[], none⟩,
  ⟨(some 38), (.move (.tmp 0)), 23, "", #[], none⟩,
  ⟨(some 39), (.move (.tmp 4)), 3, "", #[], none⟩,
  ⟨(some 40), (.indexAddr 23 (.tmp 38) (.tmp 39)), 0, "", #[], none⟩,
  ⟨(some 41), (.fieldAddr 46 (.tmp 40) 2), 0, "", #[], none⟩,
  ⟨(some 21), (.load 9 (.tmp 20)), 9, "", #[⟨0, .data⟩], none⟩,
  ⟨(some 22), (.call ⟨(.builtin .len), #[(.tmp 21)], #[9]⟩), 3, "", #[], none⟩,
  ⟨(some 23), (.binOp .add 3 (.tmp 16) (.tmp 22) 3), 3, "", #[], none⟩,
  ⟨(some 28), (.load 9 (.tmp 27)), 9, "", #[⟨0, .data⟩], none⟩,
  ⟨(some 29), (.call ⟨(.builtin .len), #[(.tmp 28)], #[9]⟩), 3, "", #[], none⟩,
  ⟨(some 30), (.binOp .add 3 (.tmp 23) (.tmp 29) 3), 3, "", #[], none⟩,
  ⟨(some 35), (.load 9 (.tmp 34)), 9, "", #[⟨0, .data⟩], none⟩,
  ⟨(some 36), (.call ⟨(.builtin .len), #[(.tmp 35)], #[9]⟩), 3, "", #[], none⟩,
  ⟨(some 37), (.binOp .add 3 (.tmp 30) (.tmp 36) 3), 3, "", #[], none⟩,
  ⟨(some 42), (.load 33 (.tmp 41)), 33, "", #[⟨268435456, .data⟩], none⟩,
  ⟨(some 43), (.call ⟨(.value (.func 34)), #[(.tmp 42)], #[33]⟩), 3, "", #[⟨28, .chain⟩], none⟩,
  ⟨(some 44), (.binOp .add 3 (.tmp 37) (.tmp 43) 3), 3, "", #[], none⟩,
  ⟨(some 3), (.assign (.tmp 44)), 3, "", #[], none⟩]
def F11.r4 : List Oper := [
  ⟨(some 13), (.move (.tmp 4)), 3, "", #[], none⟩,
  ⟨(some 14), (.binOp .add 3 (.tmp 13) (.const (.int .i64 1)) 3), 3, "", #[], none⟩,
  ⟨(some 4), (.assign (.tmp 14)), 3, "", #[], none⟩]
def F11.r6 : List Oper := [
  ⟨(some 45), (.move (.tmp 3)), 3, "", #[], none⟩,
  ⟨(some 2), (.assign (.tmp 45)), 3, "", #[], none⟩]
def F11.t4 : Cd := (.region 4 F11.r4.toArray false)
theorem F11.t4_eq {P : Program} {Q : Post} {e : FA} {w : World} {θ : Tag (F11.t4, Q, e, w)} : cwE P F11.t4 Q e w θ = cwE P (.region 4 F11.r4.toArray false) Q e w := rfl
def F11.t5 : Cd := (.seq (.block 1 (.region 5 F11.r5.toArray true)) F11.t4)
theorem F11.t5_eq {P : Program} {Q : Post} {e : FA} {w : World} {θ : Tag (F11.t5, Q, e, w)} : cwE P F11.t5 Q e w θ = cwE P (.seq (.block 1 (.region 5 F11.r5.toArray true)) F11.t4) Q e w := rfl
def F11.t6 : Cd := (.seq (.region 6 F11.r6.toArray false) .ret)
theorem F11.t6_eq {P : Program} {Q : Post} {e : FA} {w : World} {θ : Tag (F11.t6, Q, e, w)} : cwE P F11.t6 Q e w θ = cwE P (.seq (.region 6 F11.r6.toArray false) .ret) Q e w := rfl
def F11.code : Cd := (.seq (.region 0 F11.r0.toArray false) (.seq (.region 1 F11.r1.toArray false) (.seq (.seq (.region 2 F11.r2.toArray false) (.block 0 (.loop (.seq (.seq (.region 3 F11.r3.toArray false) (.cond (.tmp 12) .skip (.exit 0))) F11.t5)))) F11.t6)))
theorem F11.calls {args : Array Value} {w : World} {R : Ending → World → Prop} (hn : args.size ≤ 46) (h : cwE Tryd.prog F11.code (fnP Tryd.prog #[(.tmp 2)] R) (entry args) w) : Calls Tryd.prog 11 args w R :=
  calls_of_cwE (types := Tryd.prog.types) follows Tryd.func11 F11.code rfl (by kernel_rfl) hn h

def F12.r0 : List Oper := [
  ⟨(some 1), (.box 23 (.tmp 0)), 0, "", #[⟨0, .chain⟩], none⟩,
  ⟨(some 2), (.assign (.const (.string { data := #[] }))), 9, "", #[], none⟩,
  ⟨(some 3), (.assign (.const (.int .i64 0))), 25, "", #[], none⟩]
def F12.r1 : List Oper := [
  ⟨(some 6), (.makeMap 69 none), 69, "", #[⟨0, .chain⟩], none⟩,
  ⟨(some 7), (.build 72 #[(1, (.tmp 6))]), 72, "", #[], none⟩,
  ⟨(some 8), (.box 72 (.tmp 7)), 28, "", #[⟨0, .chain⟩], none⟩,
  ⟨(some 4), (.alloc 28), 0, "", #[⟨0, .chain⟩], none⟩,
  ⟨none, (.store 28 (.tmp 4) (.tmp 8)), 0, "", #[⟨0, .chain⟩], none⟩]
def F12.r2 : List Oper := [
  ⟨(some 9), (.makeFunc (.func 36) #[] #[(.tmp 1), (.tmp 4)]), 1, "", #[], none⟩,
  ⟨(some 10), (.call ⟨(.value (.func 35)), #[(.tmp 9)], #[1]⟩), 25, "", #[⟨0, .chain⟩], none⟩,
  ⟨(some 5), (.assign (.tmp 10)), 25, "", #[], none⟩]
def F12.r3 : List Oper := [
  ⟨(some 11), (.move (.tmp 5)), 25, "", #[], none⟩,
  ⟨(some 12), (.binOp .neq 25 (.tmp 11) (.const (.int .i64 0)) 25), 4, "", #[], none⟩]
def F12.r4 : List Oper := [
  ⟨(some 13), (.move (.tmp 5)), 25, "", #[], none⟩,
  ⟨(some 2), (.assign (.const (.string { data := #[] }))), 9, "", #[], none⟩,
  ⟨(some 3), (.assign (.tmp 13)), 25, "", #[], none⟩]
def F12.r5 : List Oper := [
  ⟨(some 14), (.load 28 (.tmp 4)), 28, "", #[⟨0, .data⟩], none⟩,
  ⟨(some 15), (.call ⟨(.value (.func 17)), #[(.tmp 14)], #[28]⟩), 9, "", #[⟨0, .chain⟩], none⟩,
  ⟨(some 2), (.assign (.tmp 15)), 9, "", #[], none⟩,
  ⟨(some 3), (.assign (.const (.int .i64 0))), 25, "", #[], none⟩]
def F12.t5 : Cd := (.seq (.region 5 F12.r5.toArray false) .ret)
theorem F12.t5_eq {P : Program} {Q : Post} {e : FA} {w : World} {θ : Tag (F12.t5, Q, e, w)} : cwE P F12.t5 Q e w θ = cwE P (.seq (.region 5 F12.r5.toArray false) .ret) Q e w := rfl
def F12.code : Cd := (.seq (.region 0 F12.r0.toArray false) (.seq (.region 1 F12.r1.toArray false) (.seq (.region 2 F12.r2.toArray false) (.seq (.seq (.region 3 F12.r3.toArray false) (.cond (.tmp 12) (.seq (.region 4 F12.r4.toArray false) .ret) .skip)) F12.t5))))
theorem F12.calls {args : Array Value} {w : World} {R : Ending → World → Prop} (hn : args.size ≤ 16) (h : cwE Tryd.prog F12.code (fnP Tryd.prog #[(.tmp 2), (.tmp 3)] R) (entry args) w) : Calls Tryd.prog 12 args w R :=
  calls_of_cwE (types := Tryd.prog.types) follows Tryd.func12 F12.code rfl (by kernel_rfl) hn h

def F13.r0 : List Oper := [
  ⟨(some 1), (.box 9 (.tmp 0)), 0, "", #[⟨0, .chain⟩], none⟩,
  ⟨(some 2), (.assign (.const (.pointer none))), 28, "", #[], none⟩,
  ⟨(some 3), (.assign (.const (.int .i64 0))), 25, "", #[], none⟩,
  ⟨(some 4), (.assign (.const (.int .i64 0))), 3, "", #[], none⟩]
def F13.r1 : List Oper := [
  ⟨(some 9), (.load 9 (.tmp 1)), 9, "", #[⟨0, .data⟩], none⟩,
  ⟨(some 10), (.call ⟨(.builtin .len), #[(.tmp 9)], #[9]⟩), 3, "", #[], none⟩,
  ⟨(some 11), (.binOp .gtr 3 (.tmp 10) (.const (.int .i64 65536)) 3), 4, "", #[], none⟩]
def F13.r2 : List Oper := [
  ⟨(some 2), (.assign (.const (.pointer none))), 28, "", #[], none⟩,
  ⟨(some 3), (.assign (.const (.int .i64 1))), 25, "", #[], none⟩,
  ⟨(some 4), (.assign (.const (.int .i64 0))), 3, "", #[], none⟩]
def F13.r3 : List Oper := [
  ⟨(some 12), (.makeMap 69 none), 69, "", #[⟨0, .chain⟩], none⟩,
  ⟨(some 13), (.build 72 #[(1, (.tmp 12))]), 72, "", #[], none⟩,
  ⟨(some 14), (.box 72 (.tmp 13)), 28, "", #[⟨0, .chain⟩], none⟩,
  ⟨(some 5), (.alloc 28), 0, "", #[⟨0, .chain⟩], none⟩,
  ⟨none, (.store 28 (.tmp 5) (.tmp 14)), 0, "", #[⟨0, .chain⟩], none⟩]
def F13.r4 : List Oper := [
  ⟨(some 6), (.alloc 3), 0, "", #[⟨0, .chain⟩], none⟩,
  ⟨none, (.store 3 (.tmp 6) (.const (.int .i64 0))), 0, "", #[⟨0, .chain⟩], none⟩]
def F13.r5 : List Oper := [
  ⟨(some 7), (.alloc 61), 0, "", #[⟨0, .chain⟩], none⟩]
def F13.r6 : List Oper := [
  ⟨(some 15), (.makeFunc (.func 42) #[] #[(.tmp 1), (.tmp 6), (.tmp 5), (.tmp 7)]), 1, "", #[], none⟩,
  ⟨(some 16), (.call ⟨(.value (.func 35)), #[(.tmp 15)], #[1]⟩), 25, "", #[⟨0, .chain⟩], none⟩,
  ⟨(some 8), (.assign (.tmp 16)), 25, "", #[], none⟩]
def F13.r7 : List Oper := [
  ⟨(some 17), (.move (.tmp 8)), 25, "", #[], none⟩,
  ⟨(some 18), (.binOp .neq 25 (.tmp 17) (.const (.int .i64 0)) 25), 4, "", #[], none⟩]
def F13.r8 : List Oper := [
  ⟨(some 19), (.move (.tmp 8)), 25, "", #[], none⟩,
  ⟨(some 2), (.assign (.const (.pointer none))), 28, "", #[], none⟩,
  ⟨(some 3), (.assign (.tmp 19)), 25, "", #[], none⟩,
  ⟨(some 20), (.load 3 (.tmp 6)), 3, "", #[⟨0, .data⟩], none⟩,
  ⟨(some 4), (.assign (.tmp 20)), 3, "", #[], none⟩]
def F13.r9 : List Oper := [
  ⟨(some 21), (.load 28 (.tmp 5)), 28, "", #[⟨0, .data⟩], none⟩,
  ⟨(some 2), (.assign (.tmp 21)), 28, "", #[], none⟩,
  ⟨(some 3), (.assign (.const (.int .i64 0))), 25, "", #[], none⟩,
  ⟨(some 4), (.assign (.const (.int .i64 0))), 3, "", #[], none⟩]
def F13.t9 : Cd := (.seq (.region 9 F13.r9.toArray false) .ret)
theorem F13.t9_eq {P : Program} {Q : Post} {e : FA} {w : World} {θ : Tag (F13.t9, Q, e, w)} : cwE P F13.t9 Q e w θ = cwE P (.seq (.region 9 F13.r9.toArray false) .ret) Q e w := rfl
def F13.t3 : Cd := (.seq (.region 3 F13.r3.toArray false) (.seq (.region 4 F13.r4.toArray false) (.seq (.region 5 F13.r5.toArray false) (.seq (.region 6 F13.r6.toArray false) (.seq (.seq (.region 7 F13.r7.toArray false) (.cond (.tmp 18) (.seq (.region 8 F13.r8.toArray true) .ret) .skip)) F13.t9)))))
theorem F13.t3_eq {P : Program} {Q : Post} {e : FA} {w : World} {θ : Tag (F13.t3, Q, e, w)} : cwE P F13.t3 Q e w θ = cwE P (.seq (.region 3 F13.r3.toArray false) (.seq (.region 4 F13.r4.toArray false) (.seq (.region 5 F13.r5.toArray false) (.seq (.region 6 F13.r6.toArray false) (.seq (.seq (.region 7 F13.r7.toArray false) (.cond (.tmp 18) (.seq (.region 8 F13.r8.toArray true) .ret) .skip)) F13.t9))))) Q e w := rfl
def F13.code : Cd := (.seq (.region 0 F13.r0.toArray false) (.seq (.seq (.region 1 F13.r1.toArray false) (.cond (.tmp 11) (.seq (.region 2 F13.r2.toArray false) .ret) .skip)) F13.t3))
theorem F13.calls {args : Array Value} {w : World} {R : Ending → World → Prop} (hn : args.size ≤ 22) (h : cwE Tryd.prog F13.code (fnP Tryd.prog #[(.tmp 2), (.tmp 3), (.tmp 4)] R) (entry args) w) : Calls Tryd.prog 13 args w R :=
  calls_of_cwE (types := Tryd.prog.types) follows Tryd.func13 F13.code rfl (by kernel_rfl) hn h

def F14.r0 : List Oper := [
  ⟨(some 4), (.box 3 (.tmp 1)), 0, "", #[⟨0, .chain⟩], none⟩,
  ⟨(some 5), (.box 31 (.tmp 2)), 0, "", #[⟨0, .chain⟩], none⟩,
  ⟨(some 6), (.assign (.const (.slice none 0 0))), 23, "", #[], none⟩,
  ⟨(some 7), (.assign (.const (.bool false))), 4, "", #[], none⟩]
def F14.r1 : List Oper := [
  ⟨(some 8), (.alloc 23), 0, "", #[⟨0, .chain⟩], none⟩]
def F14.r2 : List Oper := [
  ⟨(some 12), (.move (.tmp 0)), 28, "", #[], none⟩,
  ⟨(some 13), (.call ⟨(.value (.func 18)), #[(.tmp 12)], #[28]⟩), 42, "", #[⟨0, .chain⟩], none⟩,
  ⟨(some 9), (.assign (.tmp 13)), 42, "", #[], none⟩]
def F14.r3 : List Oper := [
  ⟨(some 14), (.move (.tmp 9)), 42, "", #[], none⟩,
  ⟨(some 15), (.binOp .eql 42 (.tmp 14) (.const .nilFunc) 42), 4, "", #[], none⟩]
def F14.r4 : List Oper := [
  ⟨(some 6), (.assign (.const (.slice none 0 0))), 23, "", #[], none⟩,
  ⟨(some 7), (.assign (.const (.bool false))), 4, "", #[], none⟩]
def F14.r5 : List Oper := [
  ⟨(some 16), (.move (.tmp 9)), 42, "", #[], none⟩]
def F14.r6 : List Oper := [
  ⟨(some 10), (.alloc 46), 0, "", #[⟨0, .chain⟩], none⟩,
  ⟨none, (.store 46 (.tmp 10) (.tmp 17)), 0, "", #[⟨0, .chain⟩], none⟩]
def F14.r7 : List Oper := [
  ⟨(some 18), (.load 46 (.tmp 10)), 46, "", #[⟨0, .data⟩], none⟩,
  ⟨(some 19), (.buildSlice 23 1 #[(0, (.tmp 18))]), 23, "", #[⟨0, .chain⟩], none⟩,
  ⟨(some 20), (.call ⟨(.value (.func 46)), #[(.tmp 19)], #[23]⟩), 23, "", #[⟨0, .chain⟩], none⟩,
  ⟨(some 11), (.assign (.tmp 20)), 23, "", #[], none⟩]
def F14.r8 : List Oper := [
  ⟨(some 21), (.load 23 (.tmp 8)), 23, "", #[⟨0, .data⟩], none⟩,
  ⟨(some 22), (.move (.tmp 11)), 23, "", #[], none⟩,
  ⟨(some 23), (.call ⟨(.builtin .append), #[(.tmp 21), (.tmp 22)], #[23, 23]⟩), 23, "", #[⟨0, .chain⟩], none⟩,
  ⟨none, (.store 23 (.tmp 8) (.tmp 23)), 0, "", #[⟨0, .chain⟩], none⟩]
def F14.r9 : List Oper := [
  ⟨(some 24), (.load 31 (.tmp 5)), 31, "", #[⟨0, .data⟩], none⟩,
  ⟨(some 25), (.fieldAddr 46 (.tmp 10) 2), 0, "", #[], none⟩,
  ⟨(some 26), (.load 33 (.tmp 25)), 33, "", #[⟨0, .data⟩], none⟩,
  ⟨(some 27), (.call ⟨(.value (.func 20)), #[(.tmp 24), (.tmp 26)], #[31, 33]⟩), 0, "", #[⟨0, .chain⟩], none⟩]
def F14.r10 : List Oper := [
  ⟨(some 28), (.load 23 (.tmp 8)), 23, "", #[⟨0, .data⟩], none⟩,
  ⟨(some 29), (.call ⟨(.builtin .len), #[(.tmp 28)], #[23]⟩), 3, "", #[], none⟩,
  ⟨(some 30), (.load 3 (.tmp 4)), 3, "", #[⟨0, .data⟩], none⟩,
  ⟨(some 31), (.binOp .eql 3 (.tmp 29) (.tmp 30) 3), 4, "", #[], none⟩]
def F14.r11 : List Oper := [
  ⟨(some 32), (.load 23 (.tmp 8)), 23, "", #[⟨0, .data⟩], none⟩,
  ⟨(some 6), (.assign (.tmp 32)), 23, "", #[], none⟩,
  ⟨(some 7), (.assign (.const (.bool true))), 4, "", #[], none⟩]
def F14.a0 : Cd := (.region 6 F14.r6.toArray false)
def F14.b0 : Cd := (.block 1 (.seq (.region 7 F14.r7.toArray false) (.seq (.region 8 F14.r8.toArray false) (.seq (.region 9 F14.r9.toArray false) (.seq (.region 10 F14.r10.toArray false) (.cond (.tmp 31) (.exit 0) .skip))))))
def F14.t11 : Cd := (.seq (.region 11 F14.r11.toArray false) .ret)
theorem F14.t11_eq {P : Program} {Q : Post} {e : FA} {w : World} {θ : Tag (F14.t11, Q, e, w)} : cwE P F14.t11 Q e w θ = cwE P (.seq (.region 11 F14.r11.toArray false) .ret) Q e w := rfl
def F14.t5 : Cd := (.seq (.seq (.region 5 F14.r5.toArray false) (.block 0 (.rangeFunc (.tmp 16) #[17] F14.a0 F14.b0))) F14.t11)
theorem F14.t5_eq {P : Program} {Q : Post} {e : FA} {w : World} {θ : Tag (F14.t5, Q, e, w)} : cwE P F14.t5 Q e w θ = cwE P (.seq (.seq (.region 5 F14.r5.toArray false) (.block 0 (.rangeFunc (.tmp 16) #[17] F14.a0 F14.b0))) F14.t11) Q e w := rfl
def F14.code : Cd := (.seq (.region 0 F14.r0.toArray false) (.seq (.region 1 F14.r1.toArray false) (.seq (.region 2 F14.r2.toArray false) (.seq (.seq (.region 3 F14.r3.toArray false) (.cond (.tmp 15) (.seq (.region 4 F14.r4.toArray false) .ret) .skip)) F14.t5))))
theorem F14.calls {args : Array Value} {w : World} {R : Ending → World → Prop} (hn : args.size ≤ 33) (h : cwE Tryd.prog F14.code (fnP Tryd.prog #[(.tmp 6), (.tmp 7)] R) (entry args) w) : Calls Tryd.prog 14 args w R :=
  calls_of_cwE (types := Tryd.prog.types) follows Tryd.func14 F14.code rfl (by kernel_rfl) hn h

def F15.r0 : List Oper := [
  ⟨(some 4), (.assign (.const (.bool false))), 4, "", #[], none⟩]
def F15.r1 : List Oper := [
  ⟨(some 7), (.move (.tmp 0)), 23, "", #[], none⟩,
  ⟨(some 8), (.call ⟨(.builtin .len), #[(.tmp 7)], #[23]⟩), 3, "", #[], none⟩,
  ⟨(some 9), (.move (.tmp 1)), 23, "", #[], none⟩,
  ⟨(some 10), (.call ⟨(.builtin .len), #[(.tmp 9)], #[23]⟩), 3, "", #[], none⟩,
  ⟨(some 11), (.binOp .neq 3 (.tmp 8) (.tmp 10) 3), 4, "", #[], none⟩]
def F15.r2 : List Oper := [
  ⟨(some 4), (.assign (.const (.bool false))), 4, "", #[], none⟩]
def F15.r3 : List Oper := [
  ⟨(some 5), (.assign (.const (.int .i64 0))), 3, "", #[], none⟩]
def F15.r4 : List Oper := [
  ⟨(some 12), (.move (.tmp 5)), 3, "", #[], none⟩,
  ⟨(some 13), (.move (.tmp 0)), 23, "", #[], none⟩,
  ⟨(some 14), (.call ⟨(.builtin .len), #[(.tmp 13)], #[23]⟩), 3, "", #[], none⟩,
  ⟨(some 15), (.binOp .lss 3 (.tmp 12) (.tmp 14) 3), 4, "", #[], none⟩]
def F15.r6 : List Oper := [
  ⟨(some 18), (.move (.tmp 0)), 23, "", #[], none⟩,
  ⟨(some 19), (.move (.tmp 5)), 3, "", #[], none⟩,
  ⟨(some 20), (.indexAddr 23 (.tmp 18) (.tmp 19)), 0, "", #[], none⟩,
  ⟨(some 22), (.move (.tmp 1)), 23, "", #[], none⟩,
  ⟨(some 23), (.move (.tmp 5)), 3, "", #[], none⟩,
  ⟨(some 24), (.indexAddr 23 (.tmp 22) (.tmp 23)), 0, "", #[], none⟩,
  ⟨(some 21), (.load 46 (.tmp 20)), 46, "", #[⟨256, .data⟩], none⟩,
  ⟨(some 25), (.load 46 (.tmp 24)), 46, "", #[⟨256, .data⟩], none⟩,
  ⟨(some 26), (.call ⟨(.value (.func 47)), #[(.tmp 21), (.tmp 25)], #[46, 46]⟩), 4, "", #[⟨8, .chain⟩], none⟩,
  ⟨(some 6), (.assign (.tmp 26)), 4, "", #[], none⟩]
def F15.r7 : List Oper := [
  ⟨(some 27), (.move (.tmp 6)), 4, "", #[], none⟩,
  ⟨(some 28), (.unOp .not 4 (.tmp 27)), 4, "", #[], none⟩]
def F15.r8 : List Oper := [
  ⟨(some 4), (.assign (.const (.bool false))), 4, "", #[], none⟩]
def F15.r5 : List Oper := [
  ⟨(some 16), (.move (.tmp 5)), 3, "", #[], none⟩,
  ⟨(some 17), (.binOp .add 3 (.tmp 16) (.const (.int .i64 1)) 3), 3, "", #[], none⟩,
  ⟨(some 5), (.assign (.tmp 17)), 3, "", #[], none⟩]
def F15.r9 : List Oper := [
  ⟨(some 4), (.assign (.const (.bool true))), 4, "", #[], none⟩]
def F15.t5 : Cd := (.region 5 F15.r5.toArray false)
theorem F15.t5_eq {P : Program} {Q : Post} {e : FA} {w : World} {θ : Tag (F15.t5, Q, e, w)} : cwE P F15.t5 Q e w θ = cwE P (.region 5 F15.r5.toArray false) Q e w := rfl
def F15.t6 : Cd := (.seq (.block 1 (.seq (.region 6 F15.r6.toArray true) (.seq (.region 7 F15.r7.toArray false) (.cond (.tmp 28) (.seq (.region 8 F15.r8.toArray false) .ret) .skip)))) F15.t5)
theorem F15.t6_eq {P : Program} {Q : Post} {e : FA} {w : World} {θ : Tag (F15.t6, Q, e, w)} : cwE P F15.t6 Q e w θ = cwE P (.seq (.block 1 (.seq (.region 6 F15.r6.toArray true) (.seq (.region 7 F15.r7.toArray false) (.cond (.tmp 28) (.seq (.region 8 F15.r8.toArray false) .ret) .skip)))) F15.t5) Q e w := rfl
def F15.t9 : Cd := (.seq (.region 9 F15.r9.toArray false) .ret)
theorem F15.t9_eq {P : Program} {Q : Post} {e : FA} {w : World} {θ : Tag (F15.t9, Q, e, w)} : cwE P F15.t9 Q e w θ = cwE P (.seq (.region 9 F15.r9.toArray false) .ret) Q e w := rfl
def F15.t3 : Cd := (.seq (.seq (.region 3 F15.r3.toArray false) (.block 0 (.loop (.seq (.seq (.region 4 F15.r4.toArray false) (.cond (.tmp 15) .skip (.exit 0))) F15.t6)))) F15.t9)
theorem F15.t3_eq {P : Program} {Q : Post} {e : FA} {w : World} {θ : Tag (F15.t3, Q, e, w)} : cwE P F15.t3 Q e w θ = cwE P (.seq (.seq (.region 3 F15.r3.toArray false) (.block 0 (.loop (.seq (.seq (.region 4 F15.r4.toArray false) (.cond (.tmp 15) .skip (.exit 0))) F15.t6)))) F15.t9) Q e w := rfl
def F15.code : Cd := (.seq (.region 0 F15.r0.toArray false) (.seq (.seq (.region 1 F15.r1.toArray false) (.cond (.tmp 11) (.seq (.region 2 F15.r2.toArray false) .ret) .skip)) F15.t3))
theorem F15.calls {args : Array Value} {w : World} {R : Ending → World → Prop} (hn : args.size ≤ 29) (h : cwE Tryd.prog F15.code (fnP Tryd.prog #[(.tmp 4)] R) (entry args) w) : Calls Tryd.prog 15 args w R :=
  calls_of_cwE (types := Tryd.prog.types) follows Tryd.func15 F15.code rfl (by kernel_rfl) hn h

def F16.r0 : List Oper := [
  ⟨(some 2), (.assign (.const (.bool false))), 4, "", #[], none⟩]
def F16.r1 : List Oper := [
  ⟨(some 5), (.move (.tmp 0)), 31, "", #[], none⟩,
  ⟨(some 6), (.call ⟨(.value (.func 21)), #[(.tmp 5)], #[31]⟩), 4, "", #[⟨0, .chain⟩], none⟩,
  ⟨(some 3), (.assign (.tmp 6)), 4, "", #[], none⟩]
def F16.r2 : List Oper := [
  ⟨(some 7), (.move (.tmp 0)), 31, "", #[], none⟩,
  ⟨(some 8), (.call ⟨(.value (.func 21)), #[(.tmp 7)], #[31]⟩), 4, "", #[⟨0, .chain⟩], none⟩,
  ⟨(some 4), (.assign (.tmp 8)), 4, "", #[], none⟩]
def F16.r3 : List Oper := [
  ⟨(some 9), (.move (.tmp 3)), 4, "", #[], none⟩,
  ⟨(some 10), (.move (.tmp 9)), 4, "", #[], none⟩,
  ⟨(some 11), (.move (.tmp 4)), 4, "", #[], (some (10, true))⟩,
  ⟨(some 12), (.pick (.tmp 10) (.tmp 11) (.const (.bool false))), 4, "", #[], none⟩,
  ⟨(some 2), (.assign (.tmp 12)), 4, "", #[], none⟩]
def F16.code : Cd := (.seq (.region 0 F16.r0.toArray false) (.seq (.region 1 F16.r1.toArray false) (.seq (.region 2 F16.r2.toArray false) (.seq (.region 3 F16.r3.toArray false) .ret))))
theorem F16.calls {args : Array Value} {w : World} {R : Ending → World → Prop} (hn : args.size ≤ 13) (h : cwE Tryd.prog F16.code (fnP Tryd.prog #[(.tmp 2)] R) (entry args) w) : Calls Tryd.prog 16 args w R :=
  calls_of_cwE (types := Tryd.prog.types) follows Tryd.func16 F16.code rfl (by kernel_rfl) hn h

def F17.r0 : List Oper := [
  ⟨(some 2), (.assign (.const (.string { data := #[] }))), 9, "", #[], none⟩]
def F17.r1 : List Oper := [
  ⟨(some 3), (.alloc 84), 0, "", #[⟨0, .chain⟩], none⟩]
def F17.r2 : List Oper := [
  ⟨(some 6), (.move (.tmp 0)), 28, "", #[], none⟩,
  ⟨(some 7), (.nilCheck (.tmp 6)), 0, "", #[], none⟩,
  ⟨(some 8), (.fieldAddr 72 (.tmp 7) 0), 0, "", #[], none⟩,
  ⟨(some 9), (.load 23 (.tmp 8)), 23, "", #[⟨0, .data⟩], none⟩,
  ⟨(some 10), (.call ⟨(.builtin .len), #[(.tmp 9)], #[23]⟩), 3, "", #[], none⟩,
  ⟨(some 11), (.move (.const (.int .i64 0))), 3, "", #[], none⟩]
def F17.r3 : List Oper := [
  ⟨(some 12), (.binOp .lss 3 (.tmp 11) (.tmp 10) 3), 0, "", #[], none⟩]
def F17.r4 : List Oper := [
  ⟨(some 13), (.indexAddr 23 (.tmp 9) (.tmp 11)), 0, "", #[], none⟩,
  ⟨(some 14), (.load 46 (.tmp 13)), 46, "", #[⟨0, .data⟩], none⟩,
  ⟨(some 5), (.alloc 46), 0, "", #[⟨0, .chain⟩], none⟩,
  ⟨none, (.store 46 (.tmp 5) (.tmp 14)), 0, "", #[⟨0, .chain⟩], none⟩]
def F17.r5 : List Oper := [
  ⟨(some 15), (.load 46 (.tmp 5)), 46, "", #[⟨0, .data⟩], none⟩,
  ⟨(some 16), (.call ⟨(.value (.func 49)), #[(.tmp 15)], #[46]⟩), 9, "", #[⟨0, .chain⟩], none⟩,
  ⟨(some 17), (.call ⟨(.value (.func 48)), #[(.tmp 3), (.tmp 16)], #[84, 9]⟩), 87, "", #[⟨0, .chain⟩], none⟩]
def F17.r6 : List Oper := [
  ⟨(some 18), (.binOp .add 3 (.tmp 11) (.const (.int .i64 1)) 3), 3, "", #[], none⟩,
  ⟨(some 11), (.move (.tmp 18)), 3, "", #[], none⟩]
def F17.r7 : List Oper := [
  ⟨(some 19), (.call ⟨(.value (.func 50)), #[(.tmp 3)], #[84]⟩), 9, "", #[⟨0, .chain⟩], none⟩,
  ⟨(some 2), (.assign (.tmp 19)), 9, "", #[], none⟩]
def F17.t6 : Cd := (.region 6 F17.r6.toArray false)
theorem F17.t6_eq {P : Program} {Q : Post} {e : FA} {w : World} {θ : Tag (F17.t6, Q, e, w)} : cwE P F17.t6 Q e w θ = cwE P (.region 6 F17.r6.toArray false) Q e w := rfl
def F17.t4 : Cd := (.seq (.block 1 (.seq (.region 4 F17.r4.toArray false) (.region 5 F17.r5.toArray false))) F17.t6)
theorem F17.t4_eq {P : Program} {Q : Post} {e : FA} {w : World} {θ : Tag (F17.t4, Q, e, w)} : cwE P F17.t4 Q e w θ = cwE P (.seq (.block 1 (.seq (.region 4 F17.r4.toArray false) (.region 5 F17.r5.toArray false))) F17.t6) Q e w := rfl
def F17.t7 : Cd := (.seq (.region 7 F17.r7.toArray false) .ret)
theorem F17.t7_eq {P : Program} {Q : Post} {e : FA} {w : World} {θ : Tag (F17.t7, Q, e, w)} : cwE P F17.t7 Q e w θ = cwE P (.seq (.region 7 F17.r7.toArray false) .ret) Q e w := rfl
def F17.code : Cd := (.seq (.region 0 F17.r0.toArray false) (.seq (.region 1 F17.r1.toArray false) (.seq (.seq (.region 2 F17.r2.toArray false) (.block 0 (.loop (.seq (.region 3 F17.r3.toArray false) (.seq (.cond (.tmp 12) .skip (.exit 0)) F17.t4))))) F17.t7)))
theorem F17.calls {args : Array Value} {w : World} {R : Ending → World → Prop} (hn : args.size ≤ 20) (h : cwE Tryd.prog F17.code (fnP Tryd.prog #[(.tmp 2)] R) (entry args) w) : Calls Tryd.prog 17 args w R :=
  calls_of_cwE (types := Tryd.prog.types) follows Tryd.func17 F17.code rfl (by kernel_rfl) hn h

def F18.r0 : List Oper := [
  ⟨(some 1), (.box 28 (.tmp 0)), 0, "", #[⟨0, .chain⟩], none⟩,
  ⟨(some 2), (.assign (.const .nilFunc)), 42, "", #[], none⟩]
def F18.r1 : List Oper := [
  ⟨(some 3), (.makeFunc (.func 51) #[] #[(.tmp 1)]), 41, "", #[], none⟩,
  ⟨(some 2), (.assign (.tmp 3)), 42, "", #[], none⟩]
def F18.code : Cd := (.seq (.region 0 F18.r0.toArray false) (.seq (.region 1 F18.r1.toArray false) .ret))
theorem F18.calls {args : Array Value} {w : World} {R : Ending → World → Prop} (hn : args.size ≤ 4) (h : cwE Tryd.prog F18.code (fnP Tryd.prog #[(.tmp 2)] R) (entry args) w) : Calls Tryd.prog 18 args w R :=
  calls_of_cwE (types := Tryd.prog.types) follows Tryd.func18 F18.code rfl (by kernel_rfl) hn h

def F19.r0 : List Oper := [
  ⟨(some 4), (.assign (.const (.int .i64 0))), 3, "", #[], none⟩]
def F19.r1 : List Oper := [
  ⟨(some 5), (.move (.tmp 0)), 3, "", #[], none⟩,
  ⟨(some 6), (.binOp .lss 3 (.tmp 5) (.const (.int .i64 0)) 3), 4, "", #[], none⟩]
def F19.r2 : List Oper := [
  ⟨(some 7), (.move (.tmp 0)), 3, "", #[], none⟩,
  ⟨(some 8), (.binOp .add 3 (.tmp 7) (.const (.int .i64 1)) 3), 3, "", #[], none⟩,
  ⟨(some 9), (.unOp .neg 3 (.tmp 8)), 3, "", #[], none⟩,
  ⟨(some 0), (.assign (.tmp 9)), 3, "", #[], none⟩]
def F19.r3 : List Oper := [
  ⟨(some 10), (.move (.tmp 0)), 3, "", #[], none⟩,
  ⟨(some 11), (.move (.tmp 1)), 3, "", #[], none⟩,
  ⟨(some 12), (.binOp .rem 3 (.tmp 10) (.tmp 11) 3), 3, "", #[], none⟩,
  ⟨(some 4), (.assign (.tmp 12)), 3, "", #[], none⟩]
def F19.t3 : Cd := (.seq (.region 3 F19.r3.toArray false) .ret)
theorem F19.t3_eq {P : Program} {Q : Post} {e : FA} {w : World} {θ : Tag (F19.t3, Q, e, w)} : cwE P F19.t3 Q e w θ = cwE P (.seq (.region 3 F19.r3.toArray false) .ret) Q e w := rfl
def F19.code : Cd := (.seq (.region 0 F19.r0.toArray false) (.seq (.seq (.region 1 F19.r1.toArray false) (.cond (.tmp 6) (.region 2 F19.r2.toArray false) .skip)) F19.t3))
theorem F19.calls {args : Array Value} {w : World} {R : Ending → World → Prop} (hn : args.size ≤ 13) (h : cwE Tryd.prog F19.code (fnP Tryd.prog #[(.tmp 4)] R) (entry args) w) : Calls Tryd.prog 19 args w R :=
  calls_of_cwE (types := Tryd.prog.types) follows Tryd.func19 F19.code rfl (by kernel_rfl) hn h

def F20.r0 : List Oper := [
  ⟨(some 4), (.assign (.const (.slice none 0 0))), 33, "", #[], none⟩]
def F20.r1 : List Oper := [
  ⟨(some 5), (.move (.tmp 4)), 33, "", #[], none⟩,
  ⟨(some 6), (.move (.tmp 1)), 33, "", #[], none⟩,
  ⟨(some 7), (.call ⟨(.builtin .append), #[(.tmp 5), (.tmp 6)], #[33, 33]⟩), 33, "", #[⟨0, .chain⟩], none⟩,
  ⟨(some 4), (.assign (.tmp 7)), 33, "", #[], none⟩]
def F20.r2 : List Oper := [
  ⟨(some 8), (.move (.tmp 0)), 31, "", #[], none⟩,
  ⟨(some 9), (.move (.tmp 0)), 31, "", #[], none⟩,
  ⟨(some 10), (.nilCheck (.tmp 9)), 0, "", #[], none⟩,
  ⟨(some 11), (.fieldAddr 35 (.tmp 10) 4), 0, "", #[], none⟩,
  ⟨(some 12), (.load 32 (.tmp 11)), 32, "", #[⟨0, .data⟩], none⟩,
  ⟨(some 13), (.move (.tmp 1)), 33, "", #[], none⟩,
  ⟨(some 14), (.buildSlice 32 1 #[(0, (.tmp 13))]), 32, "", #[⟨0, .chain⟩], none⟩,
  ⟨(some 15), (.call ⟨(.builtin .append), #[(.tmp 12), (.tmp 14)], #[32, 32]⟩), 32, "", #[⟨0, .chain⟩], none⟩,
  ⟨(some 16), (.nilCheck (.tmp 8)), 0, "", #[], none⟩,
  ⟨(some 17), (.fieldAddr 35 (.tmp 16) 4), 0, "", #[], none⟩,
  ⟨none, (.store 32 (.tmp 17) (.tmp 15)), 0, "", #[⟨0, .chain⟩], none⟩]
def F20.r3 : List Oper := [
  ⟨(some 18), (.move (.tmp 0)), 31, "", #[], none⟩,
  ⟨(some 19), (.move (.tmp 0)), 31, "", #[], none⟩,
  ⟨(some 20), (.nilCheck (.tmp 19)), 0, "", #[], none⟩,
  ⟨(some 21), (.fieldAddr 35 (.tmp 20) 5), 0, "", #[], none⟩,
  ⟨(some 22), (.load 32 (.tmp 21)), 32, "", #[⟨0, .data⟩], none⟩,
  ⟨(some 23), (.move (.tmp 4)), 33, "", #[], none⟩,
  ⟨(some 24), (.buildSlice 32 1 #[(0, (.tmp 23))]), 32, "", #[⟨0, .chain⟩], none⟩,
  ⟨(some 25), (.call ⟨(.builtin .append), #[(.tmp 22), (.tmp 24)], #[32, 32]⟩), 32, "", #[⟨0, .chain⟩], none⟩,
  ⟨(some 26), (.nilCheck (.tmp 18)), 0, "", #[], none⟩,
  ⟨(some 27), (.fieldAddr 35 (.tmp 26) 5), 0, "", #[], none⟩,
  ⟨none, (.store 32 (.tmp 27) (.tmp 25)), 0, "", #[⟨0, .chain⟩], none⟩]
def F20.code : Cd := (.seq (.region 0 F20.r0.toArray false) (.seq (.region 1 F20.r1.toArray false) (.seq (.region 2 F20.r2.toArray false) (.region 3 F20.r3.toArray false))))
theorem F20.calls {args : Array Value} {w : World} {R : Ending → World → Prop} (hn : args.size ≤ 28) (h : cwE Tryd.prog F20.code (fnP Tryd.prog #[] R) (entry args) w) : Calls Tryd.prog 20 args w R :=
  calls_of_cwE (types := Tryd.prog.types) follows Tryd.func20 F20.code rfl (by kernel_rfl) hn h

def F21.r0 : List Oper := [
  ⟨(some 2), (.assign (.const (.bool false))), 4, "", #[], none⟩]
def F21.r1 : List Oper := [
  ⟨(some 3), (.assign (.const (.bool true))), 4, "", #[], none⟩]
def F21.r2 : List Oper := [
  ⟨(some 17), (.move (.tmp 0)), 31, "", #[], none⟩,
  ⟨(some 18), (.nilCheck (.tmp 17)), 0, "", #[], none⟩,
  ⟨(some 19), (.fieldAddr 35 (.tmp 18) 0), 0, "", #[], none⟩,
  ⟨(some 20), (.load 32 (.tmp 19)), 32, "", #[⟨0, .data⟩], none⟩,
  ⟨(some 21), (.call ⟨(.builtin .len), #[(.tmp 20)], #[32]⟩), 3, "", #[], none⟩,
  ⟨(some 4), (.assign (.tmp 21)), 3, "", #[], none⟩]
def F21.r3 : List Oper := [
  ⟨(some 5), (.assign (.const (.int .i64 0))), 3, "", #[], none⟩]
def F21.r4 : List Oper := [
  ⟨(some 22), (.move (.tmp 5)), 3, "", #[], none⟩,
  ⟨(some 23), (.move (.tmp 0)), 31, "", #[], none⟩,
  ⟨(some 24), (.nilCheck (.tmp 23)), 0, "", #[], none⟩,
  ⟨(some 25), (.fieldAddr 35 (.tmp 24) 2), 0, "", #[], none⟩,
  ⟨(some 26), (.load 32 (.tmp 25)), 32, "", #[⟨0, .data⟩], none⟩,
  ⟨(some 27), (.call ⟨(.builtin .len), #[(.tmp 26)], #[32]⟩), 3, "", #[], none⟩,
  ⟨(some 28), (.binOp .lss 3 (.tmp 22) (.tmp 27) 3), 4, "", #[], none⟩]
def F21.r6 : List Oper := [
  ⟨(some 31), (.move (.tmp 0)), 31, "", #[], none⟩,
  ⟨(some 32), (.nilCheck (.tmp 31)), 0, "", #[], none⟩,
  ⟨(some 33), (.fieldAddr 35 (.tmp 32) 2), 0, "", #[], none⟩,
  ⟨(some 35), (.move (.tmp 5)), 3, "", #[], none⟩,
  ⟨(some 38), (.move (.tmp 0)), 31, "", #[], none⟩,
  ⟨(some 39), (.nilCheck (.tmp 38)), 0, "", #[], none⟩,
  ⟨(some 40), (.fieldAddr 35 (.tmp 39) 3), 0, "", #[], none⟩,
  ⟨(some 42), (.move (.tmp 5)), 3, "", #[], none⟩,
  ⟨(some 34), (.load 32 (.tmp 33)), 32, "", #[⟨16384, .data⟩], none⟩,
  ⟨(some 36), (.indexAddr 32 (.tmp 34) (.tmp 35)), 0, "", #[], none⟩,
  ⟨(some 37), (.load 33 (.tmp 36)), 33, "", #[⟨16384, .data⟩], none⟩,
  ⟨(some 41), (.load 32 (.tmp 40)), 32, "", #[⟨16384, .data⟩], none⟩,
  ⟨(some 43), (.indexAddr 32 (.tmp 41) (.tmp 42)), 0, "", #[], none⟩,
  ⟨(some 44), (.load 33 (.tmp 43)), 33, "", #[⟨16384, .data⟩], none⟩,
  ⟨(some 45), (.call ⟨(.value (.func 30)), #[(.tmp 37), (.tmp 44)], #[33, 33]⟩), 4, "", #[⟨14, .chain⟩], none⟩,
  ⟨(some 6), (.assign (.tmp 45)), 4, "", #[], none⟩]
def F21.r7 : List Oper := [
  ⟨(some 46), (.move (.tmp 3)), 4, "", #[], none⟩,
  ⟨(some 47), (.move (.tmp 46)), 4, "", #[], none⟩,
  ⟨(some 48), (.move (.tmp 6)), 4, "", #[], (some (47, true))⟩,
  ⟨(some 49), (.pick (.tmp 47) (.tmp 48) (.const (.bool false))), 4, "", #[], none⟩,
  ⟨(some 3), (.assign (.tmp 49)), 4, "", #[], none⟩]
def F21.r5 : List Oper := [
  ⟨(some 29), (.move (.tmp 5)), 3, "", #[], none⟩,
  ⟨(some 30), (.binOp .add 3 (.tmp 29) (.const (.int .i64 1)) 3), 3, "", #[], none⟩,
  ⟨(some 5), (.assign (.tmp 30)), 3, "", #[], none⟩]
def F21.r8 : List Oper := [
  ⟨(some 7), (.assign (.const (.int .i64 0))), 3, "", #[], none⟩]
def F21.r9 : List Oper := [
  ⟨(some 50), (.move (.tmp 7)), 3, "", #[], none⟩,
  ⟨(some 51), (.move (.tmp 0)), 31, "", #[], none⟩,
  ⟨(some 52), (.nilCheck (.tmp 51)), 0, "", #[], none⟩,
  ⟨(some 53), (.fieldAddr 35 (.tmp 52) 2), 0, "", #[], none⟩,
  ⟨(some 54), (.load 32 (.tmp 53)), 32, "", #[⟨0, .data⟩], none⟩,
  ⟨(some 55), (.call ⟨(.builtin .len), #[(.tmp 54)], #[32]⟩), 3, "", #[], none⟩,
  ⟨(some 56), (.binOp .lss 3 (.tmp 50) (.tmp 55) 3), 4, "", #[], none⟩]
def F21.r11 : List Oper := [
  ⟨(some 59), (.move (.tmp 0)), 31, "", #[], none⟩,
  ⟨(some 60), (.nilCheck (.tmp 59)), 0, "", #[], none⟩,
  ⟨(some 61), (.fieldAddr 35 (.tmp 60) 0), 0, "", #[], none⟩,
  ⟨(some 62), (.load 32 (.tmp 61)), 32, "", #[⟨0, .data⟩], none⟩,
  ⟨(some 63), (.call ⟨(.builtin .len), #[(.tmp 62)], #[32]⟩), 3, "", #[], none⟩,
  ⟨(some 8), (.assign (.tmp 63)), 3, "", #[], none⟩]
def F21.r12 : List Oper := [
  ⟨(some 64), (.move (.tmp 8)), 3, "", #[], none⟩,
  ⟨(some 65), (.convert 3 5 (.tmp 64)), 5, "", #[], none⟩,
  ⟨(some 66), (.move (.tmp 8)), 3, "", #[], none⟩,
  ⟨(some 67), (.binOp .quo 3 (.tmp 66) (.const (.int .i64 256)) 3), 3, "", #[], none⟩,
  ⟨(some 68), (.convert 3 5 (.tmp 67)), 5, "", #[], none⟩,
  ⟨(some 69), (.move (.tmp 8)), 3, "", #[], none⟩,
  ⟨(some 70), (.binOp .quo 3 (.tmp 69) (.const (.int .i64 65536)) 3), 3, "", #[], none⟩,
  ⟨(some 71), (.convert 3 5 (.tmp 70)), 5, "", #[], none⟩,
  ⟨(some 72), (.buildSlice 82 3 #[(0, (.tmp 65)), (1, (.tmp 68)), (2, (.tmp 71))]), 82, "", #[⟨0, .chain⟩], none⟩,
  ⟨(some 73), (.convert 82 9 (.tmp 72)), 9, "", #[⟨0, .data⟩], none⟩,
  ⟨(some 74), (.binOp .add 9 (.const (.string { data := #[35] })) (.tmp 73) 9), 9, "", #[], none⟩,
  ⟨(some 9), (.assign (.tmp 74)), 9, "", #[], none⟩]
def F21.r13 : List Oper := [
  ⟨(some 10), (.assign (.const (.int .i64 0))), 3, "", #[], none⟩]
def F21.r14 : List Oper := [
  ⟨(some 75), (.move (.tmp 10)), 3, "", #[], none⟩,
  ⟨(some 76), (.move (.tmp 0)), 31, "", #[], none⟩,
  ⟨(some 77), (.nilCheck (.tmp 76)), 0, "", #[], none⟩,
  ⟨(some 78), (.fieldAddr 35 (.tmp 77) 2), 0, "", #[], none⟩,
  ⟨(some 79), (.load 32 (.tmp 78)), 32, "", #[⟨0, .data⟩], none⟩,
  ⟨(some 80), (.move (.tmp 7)), 3, "", #[], none⟩,
  ⟨(some 81), (.indexAddr 32 (.tmp 79) (.tmp 80)), 0, "", #[], none⟩,
  ⟨(some 82), (.load 33 (.tmp 81)), 33, "", #[⟨0, .data⟩], none⟩,
  ⟨(some 83), (.call ⟨(.builtin .len), #[(.tmp 82)], #[33]⟩), 3, "", #[], none⟩,
  ⟨(some 84), (.binOp .lss 3 (.tmp 75) (.tmp 83) 3), 4, "", #[], none⟩]
def F21.r16 : List Oper := [
  ⟨(some 87), (.move (.tmp 0)), 31, "", #[], none⟩,
  ⟨(some 88), (.nilCheck (.tmp 87)), 0, "", #[], none⟩,
  ⟨(some 89), (.fieldAddr 35 (.tmp 88) 2), 0, "", #[], none⟩,
  ⟨(some 90), (.load 32 (.tmp 89)), 32, "", #[⟨0, .data⟩], none⟩,
  ⟨(some 91), (.move (.tmp 7)), 3, "", #[], none⟩,
  ⟨(some 92), (.indexAddr 32 (.tmp 90) (.tmp 91)), 0, "", #[], none⟩,
  ⟨(some 93), (.load 33 (.tmp 92)), 33, "", #[⟨0, .data⟩], none⟩,
  ⟨(some 94), (.move (.tmp 10)), 3, "", #[], none⟩,
  ⟨(some 95), (.move (.tmp 9)), 9, "", #[], none⟩,
  ⟨(some 96), (.indexAddr 33 (.tmp 93) (.tmp 94)), 0, "", #[], none⟩,
  ⟨none, (.store 9 (.tmp 96) (.tmp 95)), 0, "", #[⟨0, .chain⟩], none⟩]
def F21.r15 : List Oper := [
  ⟨(some 85), (.move (.tmp 10)), 3, "", #[], none⟩,
  ⟨(some 86), (.binOp .add 3 (.tmp 85) (.const (.int .i64 1)) 3), 3, "", #[], none⟩,
  ⟨(some 10), (.assign (.tmp 86)), 3, "", #[], none⟩]
def F21.r17 : List Oper := [
  ⟨(some 97), (.move (.tmp 0)), 31, "", #[], none⟩,
  ⟨(some 98), (.move (.tmp 0)), 31, "", #[], none⟩,
  ⟨(some 99), (.nilCheck (.tmp 98)), 0, "", #[], none⟩,
  ⟨(some 100), (.fieldAddr 35 (.tmp 99) 0), 0, "", #[], none⟩,
  ⟨(some 102), (.move (.tmp 0)), 31, "", #[], none⟩,
  ⟨(some 103), (.nilCheck (.tmp 102)), 0, "", #[], none⟩,
  ⟨(some 104), (.fieldAddr 35 (.tmp 103) 2), 0, "", #[], none⟩,
  ⟨(some 106), (.move (.tmp 7)), 3, "", #[], none⟩,
  ⟨(some 101), (.load 32 (.tmp 100)), 32, "", #[⟨73728, .data⟩], none⟩,
  ⟨(some 105), (.load 32 (.tmp 104)), 32, "", #[⟨77824, .data⟩], none⟩,
  ⟨(some 107), (.indexAddr 32 (.tmp 105) (.tmp 106)), 0, "", #[], none⟩,
  ⟨(some 108), (.load 33 (.tmp 107)), 33, "", #[⟨77824, .data⟩], none⟩,
  ⟨(some 109), (.buildSlice 32 1 #[(0, (.tmp 108))]), 32, "", #[⟨12, .chain⟩], none⟩,
  ⟨(some 110), (.call ⟨(.builtin .append), #[(.tmp 101), (.tmp 109)], #[32, 32]⟩), 32, "", #[⟨13, .chain⟩], none⟩,
  ⟨(some 111), (.nilCheck (.tmp 97)), 0, "", #[], none⟩,
  ⟨(some 112), (.fieldAddr 35 (.tmp 111) 0), 0, "", #[], none⟩,
  ⟨none, (.store 32 (.tmp 112) (.tmp 110)), 0, "", #[⟨16, .chain⟩], none⟩]
def F21.r18 : List Oper := [
  ⟨(some 113), (.move (.tmp 0)), 31, "", #[], none⟩,
  ⟨(some 114), (.move (.tmp 0)), 31, "", #[], none⟩,
  ⟨(some 115), (.nilCheck (.tmp 114)), 0, "", #[], none⟩,
  ⟨(some 116), (.fieldAddr 35 (.tmp 115) 1), 0, "", #[], none⟩,
  ⟨(some 117), (.load 33 (.tmp 116)), 33, "", #[⟨0, .data⟩], none⟩,
  ⟨(some 118), (.move (.tmp 9)), 9, "", #[], none⟩,
  ⟨(some 119), (.buildSlice 33 1 #[(0, (.tmp 118))]), 33, "", #[⟨0, .chain⟩], none⟩,
  ⟨(some 120), (.call ⟨(.builtin .append), #[(.tmp 117), (.tmp 119)], #[33, 33]⟩), 33, "", #[⟨0, .chain⟩], none⟩,
  ⟨(some 121), (.nilCheck (.tmp 113)), 0, "", #[], none⟩,
  ⟨(some 122), (.fieldAddr 35 (.tmp 121) 1), 0, "", #[], none⟩,
  ⟨none, (.store 33 (.tmp 122) (.tmp 120)), 0, "", #[⟨0, .chain⟩], none⟩]
def F21.r10 : List Oper := [
  ⟨(some 57), (.move (.tmp 7)), 3, "", #[], none⟩,
  ⟨(some 58), (.binOp .add 3 (.tmp 57) (.const (.int .i64 1)) 3), 3, "", #[], none⟩,
  ⟨(some 7), (.assign (.tmp 58)), 3, "", #[], none⟩]
def F21.r19 : List Oper := [
  ⟨(some 123), (.move (.tmp 0)), 31, "", #[], none⟩,
  ⟨(some 124), (.nilCheck (.tmp 123)), 0, "", #[], none⟩,
  ⟨(some 125), (.fieldAddr 35 (.tmp 124) 0), 0, "", #[], none⟩,
  ⟨(some 126), (.load 32 (.tmp 125)), 32, "", #[⟨0, .data⟩], none⟩,
  ⟨(some 127), (.call ⟨(.builtin .len), #[(.tmp 126)], #[32]⟩), 3, "", #[], none⟩,
  ⟨(some 11), (.assign (.tmp 127)), 3, "", #[], none⟩]
def F21.r20 : List Oper := [
  ⟨(some 128), (.move (.tmp 4)), 3, "", #[], none⟩,
  ⟨(some 12), (.assign (.tmp 128)), 3, "", #[], none⟩]
def F21.r21 : List Oper := [
  ⟨(some 129), (.move (.tmp 12)), 3, "", #[], none⟩,
  ⟨(some 130), (.move (.tmp 11)), 3, "", #[], none⟩,
  ⟨(some 131), (.binOp .lss 3 (.tmp 129) (.tmp 130) 3), 4, "", #[], none⟩]
def F21.r23 : List Oper := [
  ⟨(some 134), (.move (.tmp 0)), 31, "", #[], none⟩,
  ⟨(some 135), (.nilCheck (.tmp 134)), 0, "", #[], none⟩,
  ⟨(some 136), (.fieldAddr 35 (.tmp 135) 0), 0, "", #[], none⟩,
  ⟨(some 137), (.load 32 (.tmp 136)), 32, "", #[⟨0, .data⟩], none⟩,
  ⟨(some 138), (.move (.tmp 12)), 3, "", #[], none⟩,
  ⟨(some 139), (.indexAddr 32 (.tmp 137) (.tmp 138)), 0, "", #[], none⟩,
  ⟨(some 140), (.load 33 (.tmp 139)), 33, "", #[⟨0, .data⟩], none⟩,
  ⟨(some 13), (.assign (.tmp 140)), 33, "", #[], none⟩]
def F21.r24 : List Oper := [
  ⟨(some 14), (.assign (.const (.int .i64 0))), 3, "", #[], none⟩]
def F21.r25 : List Oper := [
  ⟨(some 141), (.move (.tmp 14)), 3, "", #[], none⟩,
  ⟨(some 142), (.binOp .lss 3 (.tmp 141) (.const (.int .i64 40)) 3), 4, "", #[], none⟩]
def F21.r27 : List Oper := [
  ⟨(some 145), (.move (.tmp 13)), 33, "", #[], none⟩,
  ⟨(some 146), (.move (.tmp 0)), 31, "", #[], none⟩,
  ⟨(some 147), (.nilCheck (.tmp 146)), 0, "", #[], none⟩,
  ⟨(some 148), (.fieldAddr 35 (.tmp 147) 1), 0, "", #[], none⟩,
  ⟨(some 149), (.load 33 (.tmp 148)), 33, "", #[⟨0, .data⟩], none⟩,
  ⟨(some 150), (.move (.tmp 12)), 3, "", #[], none⟩,
  ⟨(some 151), (.indexAddr 33 (.tmp 149) (.tmp 150)), 0, "", #[], none⟩,
  ⟨(some 152), (.load 9 (.tmp 151)), 9, "", #[⟨0, .data⟩], none⟩,
  ⟨(some 153), (.buildSlice 33 1 #[(0, (.tmp 152))]), 33, "", #[⟨0, .chain⟩], none⟩,
  ⟨(some 154), (.call ⟨(.builtin .append), #[(.tmp 145), (.tmp 153)], #[33, 33]⟩), 33, "", #[⟨0, .chain⟩], none⟩,
  ⟨(some 13), (.assign (.tmp 154)), 33, "", #[], none⟩]
def F21.r28 : List Oper := [
  ⟨(some 155), (.move (.tmp 14)), 3, "", #[], none⟩,
  ⟨(some 156), (.binOp .eql 3 (.tmp 155) (.const (.int .i64 0)) 3), 4, "", #[], none⟩,
  ⟨(some 157), (.move (.tmp 156)), 4, "", #[], none⟩,
  ⟨(some 158), (.move (.tmp 14)), 3, "", #[], (some (157, false))⟩,
  ⟨(some 159), (.binOp .eql 3 (.tmp 158) (.const (.int .i64 3)) 3), 4, "", #[], (some (157, false))⟩,
  ⟨(some 160), (.pick (.tmp 157) (.const (.bool true)) (.tmp 159)), 4, "", #[], none⟩,
  ⟨(some 161), (.move (.tmp 160)), 4, "", #[], none⟩,
  ⟨(some 162), (.move (.tmp 14)), 3, "", #[], (some (161, false))⟩,
  ⟨(some 163), (.binOp .eql 3 (.tmp 162) (.const (.int .i64 15)) 3), 4, "", #[], (some (161, false))⟩,
  ⟨(some 164), (.pick (.tmp 161) (.const (.bool true)) (.tmp 163)), 4, "", #[], none⟩,
  ⟨(some 165), (.move (.tmp 164)), 4, "", #[], none⟩,
  ⟨(some 166), (.move (.tmp 14)), 3, "", #[], (some (165, false))⟩,
  ⟨(some 167), (.binOp .eql 3 (.tmp 166) (.const (.int .i64 39)) 3), 4, "", #[], (some (165, false))⟩,
  ⟨(some 168), (.pick (.tmp 165) (.const (.bool true)) (.tmp 167)), 4, "", #[], none⟩]
def F21.r29 : List Oper := [
  ⟨(some 169), (.move (.tmp 0)), 31, "", #[], none⟩,
  ⟨(some 170), (.move (.tmp 0)), 31, "", #[], none⟩,
  ⟨(some 171), (.nilCheck (.tmp 170)), 0, "", #[], none⟩,
  ⟨(some 172), (.fieldAddr 35 (.tmp 171) 0), 0, "", #[], none⟩,
  ⟨(some 173), (.load 32 (.tmp 172)), 32, "", #[⟨0, .data⟩], none⟩,
  ⟨(some 174), (.move (.tmp 13)), 33, "", #[], none⟩,
  ⟨(some 175), (.buildSlice 32 1 #[(0, (.tmp 174))]), 32, "", #[⟨0, .chain⟩], none⟩,
  ⟨(some 176), (.call ⟨(.builtin .append), #[(.tmp 173), (.tmp 175)], #[32, 32]⟩), 32, "", #[⟨0, .chain⟩], none⟩,
  ⟨(some 177), (.nilCheck (.tmp 169)), 0, "", #[], none⟩,
  ⟨(some 178), (.fieldAddr 35 (.tmp 177) 0), 0, "", #[], none⟩,
  ⟨none, (.store 32 (.tmp 178) (.tmp 176)), 0, "", #[⟨0, .chain⟩], none⟩]
def F21.r30 : List Oper := [
  ⟨(some 179), (.move (.tmp 0)), 31, "", #[], none⟩,
  ⟨(some 180), (.move (.tmp 0)), 31, "", #[], none⟩,
  ⟨(some 181), (.nilCheck (.tmp 180)), 0, "", #[], none⟩,
  ⟨(some 182), (.fieldAddr 35 (.tmp 181) 1), 0, "", #[], none⟩,
  ⟨(some 184), (.move (.tmp 0)), 31, "", #[], none⟩,
  ⟨(some 185), (.nilCheck (.tmp 184)), 0, "", #[], none⟩,
  ⟨(some 186), (.fieldAddr 35 (.tmp 185) 1), 0, "", #[], none⟩,
  ⟨(some 188), (.move (.tmp 12)), 3, "", #[], none⟩,
  ⟨(some 183), (.load 33 (.tmp 182)), 33, "", #[⟨73728, .data⟩], none⟩,
  ⟨(some 187), (.load 33 (.tmp 186)), 33, "", #[⟨77824, .data⟩], none⟩,
  ⟨(some 189), (.indexAddr 33 (.tmp 187) (.tmp 188)), 0, "", #[], none⟩,
  ⟨(some 190), (.load 9 (.tmp 189)), 9, "", #[⟨77824, .data⟩], none⟩,
  ⟨(some 191), (.buildSlice 33 1 #[(0, (.tmp 190))]), 33, "", #[⟨12, .chain⟩], none⟩,
  ⟨(some 192), (.call ⟨(.builtin .append), #[(.tmp 183), (.tmp 191)], #[33, 33]⟩), 33, "", #[⟨13, .chain⟩], none⟩,
  ⟨(some 193), (.nilCheck (.tmp 179)), 0, "", #[], none⟩,
  ⟨(some 194), (.fieldAddr 35 (.tmp 193) 1), 0, "", #[], none⟩,
  ⟨none, (.store 33 (.tmp 194) (.tmp 192)), 0, "", #[⟨16, .chain⟩], none⟩]
def F21.r26 : List Oper := [
  ⟨(some 143), (.move (.tmp 14)), 3, "", #[], none⟩,
  ⟨(some 144), (.binOp .add 3 (.tmp 143) (.const (.int .i64 1)) 3), 3, "", #[], none⟩,
  ⟨(some 14), (.assign (.tmp 144)), 3, "", #[], none⟩]
def F21.r22 : List Oper := [
  ⟨(some 132), (.move (.tmp 12)), 3, "", #[], none⟩,
  ⟨(some 133), (.binOp .add 3 (.tmp 132) (.const (.int .i64 1)) 3), 3, "", #[], none⟩,
  ⟨(some 12), (.assign (.tmp 133)), 3, "", #[], none⟩]
def F21.r31 : List Oper := [
  ⟨(some 195), (.move (.tmp 0)), 31, "", #[], none⟩,
  ⟨(some 196), (.move (.tmp 0)), 31, "", #[], none⟩,
  ⟨(some 197), (.nilCheck (.tmp 196)), 0, "", #[], none⟩,
  ⟨(some 198), (.fieldAddr 35 (.tmp 197) 4), 0, "", #[], none⟩,
  ⟨(some 199), (.load 32 (.tmp 198)), 32, "", #[⟨0, .data⟩], none⟩,
  ⟨(some 200), (.nilCheck (.tmp 195)), 0, "", #[], none⟩,
  ⟨(some 201), (.fieldAddr 35 (.tmp 200) 2), 0, "", #[], none⟩,
  ⟨none, (.store 32 (.tmp 201) (.tmp 199)), 0, "", #[⟨0, .chain⟩], none⟩]
def F21.r32 : List Oper := [
  ⟨(some 202), (.move (.tmp 0)), 31, "", #[], none⟩,
  ⟨(some 203), (.move (.tmp 0)), 31, "", #[], none⟩,
  ⟨(some 204), (.nilCheck (.tmp 203)), 0, "", #[], none⟩,
  ⟨(some 205), (.fieldAddr 35 (.tmp 204) 5), 0, "", #[], none⟩,
  ⟨(some 206), (.load 32 (.tmp 205)), 32, "", #[⟨0, .data⟩], none⟩,
  ⟨(some 207), (.nilCheck (.tmp 202)), 0, "", #[], none⟩,
  ⟨(some 208), (.fieldAddr 35 (.tmp 207) 3), 0, "", #[], none⟩,
  ⟨none, (.store 32 (.tmp 208) (.tmp 206)), 0, "", #[⟨0, .chain⟩], none⟩]
def F21.r33 : List Oper := [
  ⟨(some 209), (.move (.tmp 0)), 31, "", #[], none⟩,
  ⟨(some 210), (.nilCheck (.tmp 209)), 0, "", #[], none⟩,
  ⟨(some 211), (.fieldAddr 35 (.tmp 210) 4), 0, "", #[], none⟩,
  ⟨none, (.store 32 (.tmp 211) (.const (.slice none 0 0))), 0, "", #[⟨0, .chain⟩], none⟩]
def F21.r34 : List Oper := [
  ⟨(some 212), (.move (.tmp 0)), 31, "", #[], none⟩,
  ⟨(some 213), (.nilCheck (.tmp 212)), 0, "", #[], none⟩,
  ⟨(some 214), (.fieldAddr 35 (.tmp 213) 5), 0, "", #[], none⟩,
  ⟨none, (.store 32 (.tmp 214) (.const (.slice none 0 0))), 0, "", #[⟨0, .chain⟩], none⟩]
def F21.r35 : List Oper := [
  ⟨(some 15), (.assign (.const (.int .i64 0))), 3, "", #[], none⟩]
def F21.r36 : List Oper := [
  ⟨(some 215), (.move (.tmp 15)), 3, "", #[], none⟩,
  ⟨(some 216), (.move (.tmp 0)), 31, "", #[], none⟩,
  ⟨(some 217), (.nilCheck (.tmp 216)), 0, "", #[], none⟩,
  ⟨(some 218), (.fieldAddr 35 (.tmp 217) 0), 0, "", #[], none⟩,
  ⟨(some 219), (.load 32 (.tmp 218)), 32, "", #[⟨0, .data⟩], none⟩,
  ⟨(some 220), (.call ⟨(.builtin .len), #[(.tmp 219)], #[32]⟩), 3, "", #[], none⟩,
  ⟨(some 221), (.binOp .lss 3 (.tmp 215) (.tmp 220) 3), 4, "", #[], none⟩]
def F21.r38 : List Oper := [
  ⟨(some 16), (.assign (.const (.int .i64 0))), 3, "", #[], none⟩]
def F21.r39 : List Oper := [
  ⟨(some 224), (.move (.tmp 16)), 3, "", #[], none⟩,
  ⟨(some 225), (.move (.tmp 0)), 31, "", #[], none⟩,
  ⟨(some 226), (.nilCheck (.tmp 225)), 0, "", #[], none⟩,
  ⟨(some 227), (.fieldAddr 35 (.tmp 226) 0), 0, "", #[], none⟩,
  ⟨(some 228), (.load 32 (.tmp 227)), 32, "", #[⟨0, .data⟩], none⟩,
  ⟨(some 229), (.move (.tmp 15)), 3, "", #[], none⟩,
  ⟨(some 230), (.indexAddr 32 (.tmp 228) (.tmp 229)), 0, "", #[], none⟩,
  ⟨(some 231), (.load 33 (.tmp 230)), 33, "", #[⟨0, .data⟩], none⟩,
  ⟨(some 232), (.call ⟨(.builtin .len), #[(.tmp 231)], #[33]⟩), 3, "", #[], none⟩,
  ⟨(some 233), (.binOp .lss 3 (.tmp 224) (.tmp 232) 3), 4, "", #[], none⟩]
def F21.r41 : List Oper := [
  ⟨(some 236), (.move (.tmp 0)), 31, "", #[], none⟩,
  ⟨(some 237), (.nilCheck (.tmp 236)), 0, "", #[], none⟩,
  ⟨(some 238), (.fieldAddr 35 (.tmp 237) 0), 0, "", #[], none⟩,
  ⟨(some 240), (.move (.tmp 15)), 3, "", #[], none⟩,
  ⟨(some 243), (.move (.tmp 16)), 3, "", #[], none⟩,
  ⟨(some 246), (.move (.tmp 0)), 31, "", #[], none⟩,
  ⟨(some 247), (.nilCheck (.tmp 246)), 0, "", #[], none⟩,
  ⟨(some 248), (.fieldAddr 35 (.tmp 247) 1), 0, "", #[], none⟩,
  ⟨(some 250), (.move (.tmp 15)), 3, "", #[], none⟩,
  ⟨(some 239), (.load 32 (.tmp 238)), 32, "", #[⟨0, .data⟩], none⟩,
  ⟨(some 241), (.indexAddr 32 (.tmp 239) (.tmp 240)), 0, "", #[], none⟩,
  ⟨(some 242), (.load 33 (.tmp 241)), 33, "", #[⟨0, .data⟩], none⟩,
  ⟨(some 244), (.indexAddr 33 (.tmp 242) (.tmp 243)), 0, "", #[], none⟩,
  ⟨(some 245), (.load 9 (.tmp 244)), 9, "", #[⟨0, .data⟩], none⟩,
  ⟨(some 249), (.load 33 (.tmp 248)), 33, "", #[⟨0, .data⟩], none⟩,
  ⟨(some 251), (.indexAddr 33 (.tmp 249) (.tmp 250)), 0, "", #[], none⟩,
  ⟨(some 252), (.load 9 (.tmp 251)), 9, "", #[⟨0, .data⟩], none⟩,
  ⟨(some 253), (.binOp .neq 9 (.tmp 245) (.tmp 252) 9), 4, "", #[], none⟩]
def F21.r42 : List Oper := [
  ⟨(some 2), (.assign (.const (.bool false))), 4, "", #[], none⟩]
def F21.r40 : List Oper := [
  ⟨(some 234), (.move (.tmp 16)), 3, "", #[], none⟩,
  ⟨(some 235), (.binOp .add 3 (.tmp 234) (.const (.int .i64 1)) 3), 3, "", #[], none⟩,
  ⟨(some 16), (.assign (.tmp 235)), 3, "", #[], none⟩]
def F21.r37 : List Oper := [
  ⟨(some 222), (.move (.tmp 15)), 3, "", #[], none⟩,
  ⟨(some 223), (.binOp .add 3 (.tmp 222) (.const (.int .i64 1)) 3), 3, "", #[], none⟩,
  ⟨(some 15), (.assign (.tmp 223)), 3, "", #[], none⟩]
def F21.r43 : List Oper := [
  ⟨(some 254), (.move (.tmp 3)), 4, "", #[], none⟩,
  ⟨(some 2), (.assign (.tmp 254)), 4, "", #[], none⟩]
def F21.t5 : Cd := (.region 5 F21.r5.toArray false)
theorem F21.t5_eq {P : Program} {Q : Post} {e : FA} {w : World} {θ : Tag (F21.t5, Q, e, w)} : cwE P F21.t5 Q e w θ = cwE P (.region 5 F21.r5.toArray false) Q e w := rfl
def F21.t6 : Cd := (.seq (.block 1 (.seq (.region 6 F21.r6.toArray true) (.region 7 F21.r7.toArray false))) F21.t5)
theorem F21.t6_eq {P : Program} {Q : Post} {e : FA} {w : World} {θ : Tag (F21.t6, Q, e, w)} : cwE P F21.t6 Q e w θ = cwE P (.seq (.block 1 (.seq (.region 6 F21.r6.toArray true) (.region 7 F21.r7.toArray false))) F21.t5) Q e w := rfl
def F21.t15 : Cd := (.region 15 F21.r15.toArray false)
theorem F21.t15_eq {P : Program} {Q : Post} {e : FA} {w : World} {θ : Tag (F21.t15, Q, e, w)} : cwE P F21.t15 Q e w θ = cwE P (.region 15 F21.r15.toArray false) Q e w := rfl
def F21.t16 : Cd := (.seq (.block 5 (.region 16 F21.r16.toArray false)) F21.t15)
theorem F21.t16_eq {P : Program} {Q : Post} {e : FA} {w : World} {θ : Tag (F21.t16, Q, e, w)} : cwE P F21.t16 Q e w θ = cwE P (.seq (.block 5 (.region 16 F21.r16.toArray false)) F21.t15) Q e w := rfl
def F21.t17 : Cd := (.seq (.region 17 F21.r17.toArray true) (.region 18 F21.r18.toArray false))
theorem F21.t17_eq {P : Program} {Q : Post} {e : FA} {w : World} {θ : Tag (F21.t17, Q, e, w)} : cwE P F21.t17 Q e w θ = cwE P (.seq (.region 17 F21.r17.toArray true) (.region 18 F21.r18.toArray false)) Q e w := rfl
def F21.t10 : Cd := (.region 10 F21.r10.toArray false)
theorem F21.t10_eq {P : Program} {Q : Post} {e : FA} {w : World} {θ : Tag (F21.t10, Q, e, w)} : cwE P F21.t10 Q e w θ = cwE P (.region 10 F21.r10.toArray false) Q e w := rfl
def F21.t11 : Cd := (.seq (.block 3 (.seq (.region 11 F21.r11.toArray false) (.seq (.region 12 F21.r12.toArray false) (.seq (.seq (.region 13 F21.r13.toArray false) (.block 4 (.loop (.seq (.seq (.region 14 F21.r14.toArray false) (.cond (.tmp 84) .skip (.exit 4))) F21.t16)))) F21.t17)))) F21.t10)
theorem F21.t11_eq {P : Program} {Q : Post} {e : FA} {w : World} {θ : Tag (F21.t11, Q, e, w)} : cwE P F21.t11 Q e w θ = cwE P (.seq (.block 3 (.seq (.region 11 F21.r11.toArray false) (.seq (.region 12 F21.r12.toArray false) (.seq (.seq (.region 13 F21.r13.toArray false) (.block 4 (.loop (.seq (.seq (.region 14 F21.r14.toArray false) (.cond (.tmp 84) .skip (.exit 4))) F21.t16)))) F21.t17)))) F21.t10) Q e w := rfl
def F21.t26 : Cd := (.region 26 F21.r26.toArray false)
theorem F21.t26_eq {P : Program} {Q : Post} {e : FA} {w : World} {θ : Tag (F21.t26, Q, e, w)} : cwE P F21.t26 Q e w θ = cwE P (.region 26 F21.r26.toArray false) Q e w := rfl
def F21.t27 : Cd := (.seq (.block 9 (.seq (.region 27 F21.r27.toArray false) (.seq (.region 28 F21.r28.toArray false) (.cond (.tmp 168) (.seq (.region 29 F21.r29.toArray false) (.region 30 F21.r30.toArray true)) .skip)))) F21.t26)
theorem F21.t27_eq {P : Program} {Q : Post} {e : FA} {w : World} {θ : Tag (F21.t27, Q, e, w)} : cwE P F21.t27 Q e w θ = cwE P (.seq (.block 9 (.seq (.region 27 F21.r27.toArray false) (.seq (.region 28 F21.r28.toArray false) (.cond (.tmp 168) (.seq (.region 29 F21.r29.toArray false) (.region 30 F21.r30.toArray true)) .skip)))) F21.t26) Q e w := rfl
def F21.t22 : Cd := (.region 22 F21.r22.toArray false)
theorem F21.t22_eq {P : Program} {Q : Post} {e : FA} {w : World} {θ : Tag (F21.t22, Q, e, w)} : cwE P F21.t22 Q e w θ = cwE P (.region 22 F21.r22.toArray false) Q e w := rfl
def F21.t23 : Cd := (.seq (.block 7 (.seq (.region 23 F21.r23.toArray false) (.seq (.region 24 F21.r24.toArray false) (.block 8 (.loop (.seq (.seq (.region 25 F21.r25.toArray false) (.cond (.tmp 142) .skip (.exit 8))) F21.t27)))))) F21.t22)
theorem F21.t23_eq {P : Program} {Q : Post} {e : FA} {w : World} {θ : Tag (F21.t23, Q, e, w)} : cwE P F21.t23 Q e w θ = cwE P (.seq (.block 7 (.seq (.region 23 F21.r23.toArray false) (.seq (.region 24 F21.r24.toArray false) (.block 8 (.loop (.seq (.seq (.region 25 F21.r25.toArray false) (.cond (.tmp 142) .skip (.exit 8))) F21.t27)))))) F21.t22) Q e w := rfl
def F21.t40 : Cd := (.region 40 F21.r40.toArray false)
theorem F21.t40_eq {P : Program} {Q : Post} {e : FA} {w : World} {θ : Tag (F21.t40, Q, e, w)} : cwE P F21.t40 Q e w θ = cwE P (.region 40 F21.r40.toArray false) Q e w := rfl
def F21.t41 : Cd := (.seq (.block 13 (.seq (.region 41 F21.r41.toArray true) (.cond (.tmp 253) (.seq (.region 42 F21.r42.toArray false) .ret) .skip))) F21.t40)
theorem F21.t41_eq {P : Program} {Q : Post} {e : FA} {w : World} {θ : Tag (F21.t41, Q, e, w)} : cwE P F21.t41 Q e w θ = cwE P (.seq (.block 13 (.seq (.region 41 F21.r41.toArray true) (.cond (.tmp 253) (.seq (.region 42 F21.r42.toArray false) .ret) .skip))) F21.t40) Q e w := rfl
def F21.t37 : Cd := (.region 37 F21.r37.toArray false)
theorem F21.t37_eq {P : Program} {Q : Post} {e : FA} {w : World} {θ : Tag (F21.t37, Q, e, w)} : cwE P F21.t37 Q e w θ = cwE P (.region 37 F21.r37.toArray false) Q e w := rfl
def F21.t38 : Cd := (.seq (.block 11 (.seq (.region 38 F21.r38.toArray false) (.block 12 (.loop (.seq (.seq (.region 39 F21.r39.toArray false) (.cond (.tmp 233) .skip (.exit 12))) F21.t41))))) F21.t37)
theorem F21.t38_eq {P : Program} {Q : Post} {e : FA} {w : World} {θ : Tag (F21.t38, Q, e, w)} : cwE P F21.t38 Q e w θ = cwE P (.seq (.block 11 (.seq (.region 38 F21.r38.toArray false) (.block 12 (.loop (.seq (.seq (.region 39 F21.r39.toArray false) (.cond (.tmp 233) .skip (.exit 12))) F21.t41))))) F21.t37) Q e w := rfl
def F21.t43 : Cd := (.seq (.region 43 F21.r43.toArray false) .ret)
theorem F21.t43_eq {P : Program} {Q : Post} {e : FA} {w : World} {θ : Tag (F21.t43, Q, e, w)} : cwE P F21.t43 Q e w θ = cwE P (.seq (.region 43 F21.r43.toArray false) .ret) Q e w := rfl
def F21.t31 : Cd := (.seq (.region 31 F21.r31.toArray false) (.seq (.region 32 F21.r32.toArray false) (.seq (.region 33 F21.r33.toArray false) (.seq (.region 34 F21.r34.toArray false) (.seq (.seq (.region 35 F21.r35.toArray false) (.block 10 (.loop (.seq (.seq (.region 36 F21.r36.toArray false) (.cond (.tmp 221) .skip (.exit 10))) F21.t38)))) F21.t43)))))
theorem F21.t31_eq {P : Program} {Q : Post} {e : FA} {w : World} {θ : Tag (F21.t31, Q, e, w)} : cwE P F21.t31 Q e w θ = cwE P (.seq (.region 31 F21.r31.toArray false) (.seq (.region 32 F21.r32.toArray false) (.seq (.region 33 F21.r33.toArray false) (.seq (.region 34 F21.r34.toArray false) (.seq (.seq (.region 35 F21.r35.toArray false) (.block 10 (.loop (.seq (.seq (.region 36 F21.r36.toArray false) (.cond (.tmp 221) .skip (.exit 10))) F21.t38)))) F21.t43))))) Q e w := rfl
def F21.t19 : Cd := (.seq (.region 19 F21.r19.toArray false) (.seq (.seq (.region 20 F21.r20.toArray false) (.block 6 (.loop (.seq (.seq (.region 21 F21.r21.toArray false) (.cond (.tmp 131) .skip (.exit 6))) F21.t23)))) F21.t31))
theorem F21.t19_eq {P : Program} {Q : Post} {e : FA} {w : World} {θ : Tag (F21.t19, Q, e, w)} : cwE P F21.t19 Q e w θ = cwE P (.seq (.region 19 F21.r19.toArray false) (.seq (.seq (.region 20 F21.r20.toArray false) (.block 6 (.loop (.seq (.seq (.region 21 F21.r21.toArray false) (.cond (.tmp 131) .skip (.exit 6))) F21.t23)))) F21.t31)) Q e w := rfl
def F21.t8 : Cd := (.seq (.seq (.region 8 F21.r8.toArray false) (.block 2 (.loop (.seq (.seq (.region 9 F21.r9.toArray false) (.cond (.tmp 56) .skip (.exit 2))) F21.t11)))) F21.t19)
theorem F21.t8_eq {P : Program} {Q : Post} {e : FA} {w : World} {θ : Tag (F21.t8, Q, e, w)} : cwE P F21.t8 Q e w θ = cwE P (.seq (.seq (.region 8 F21.r8.toArray false) (.block 2 (.loop (.seq (.seq (.region 9 F21.r9.toArray false) (.cond (.tmp 56) .skip (.exit 2))) F21.t11)))) F21.t19) Q e w := rfl
def F21.code : Cd := (.seq (.region 0 F21.r0.toArray false) (.seq (.region 1 F21.r1.toArray false) (.seq (.region 2 F21.r2.toArray false) (.seq (.seq (.region 3 F21.r3.toArray false) (.block 0 (.loop (.seq (.seq (.region 4 F21.r4.toArray false) (.cond (.tmp 28) .skip (.exit 0))) F21.t6)))) F21.t8))))
theorem F21.calls {args : Array Value} {w : World} {R : Ending → World → Prop} (hn : args.size ≤ 255) (h : cwE Tryd.prog F21.code (fnP Tryd.prog #[(.tmp 2)] R) (entry args) w) : Calls Tryd.prog 21 args w R :=
  calls_of_cwE (types := Tryd.prog.types) follows Tryd.func21 F21.code rfl (by kernel_rfl) hn h

def F22.r0 : List Oper := [
  ⟨(some 2), (.assign (.const (.slice none 0 0))), 23, "", #[], none⟩]
def F22.r1 : List Oper := [
  ⟨(some 3), (.assign (.const (.slice none 0 0))), 23, "", #[], none⟩]
def F22.r2 : List Oper := [
  ⟨(some 13), (.move (.tmp 0)), 49, "", #[], none⟩,
  ⟨(some 14), (.call ⟨(.builtin .len), #[(.tmp 13)], #[49]⟩), 3, "", #[], none⟩,
  ⟨(some 15), (.call ⟨(.builtin .min), #[(.tmp 14), (.const (.int .i64 30))], #[3, 3]⟩), 3, "", #[], none⟩,
  ⟨(some 4), (.assign (.tmp 15)), 3, "", #[], none⟩]
def F22.r3 : List Oper := [
  ⟨(some 5), (.assign (.const (.int .i64 0))), 3, "", #[], none⟩]
def F22.r4 : List Oper := [
  ⟨(some 16), (.move (.tmp 5)), 3, "", #[], none⟩,
  ⟨(some 17), (.move (.tmp 4)), 3, "", #[], none⟩,
  ⟨(some 18), (.binOp .lss 3 (.tmp 16) (.tmp 17) 3), 4, "", #[], none⟩]
def F22.r6 : List Oper := [
  ⟨(some 21), (.move (.tmp 5)), 3, "", #[], none⟩,
  ⟨(some 22), (.call ⟨(.value (.func 53)), #[(.tmp 21)], #[3]⟩), 9, "", #[⟨0, .chain⟩], none⟩,
  ⟨(some 23), (.build 46 #[(0, (.tmp 22))]), 46, "", #[], none⟩,
  ⟨(some 6), (.alloc 46), 0, "", #[⟨0, .chain⟩], none⟩,
  ⟨none, (.store 46 (.tmp 6) (.tmp 23)), 0, "", #[⟨0, .chain⟩], none⟩]
def F22.r7 : List Oper := [
  ⟨(some 24), (.move (.tmp 0)), 49, "", #[], none⟩,
  ⟨(some 25), (.move (.tmp 5)), 3, "", #[], none⟩,
  ⟨(some 26), (.indexAddr 49 (.tmp 24) (.tmp 25)), 0, "", #[], none⟩,
  ⟨(some 27), (.fieldAddr 63 (.tmp 26) 0), 0, "", #[], none⟩,
  ⟨(some 28), (.load 3 (.tmp 27)), 3, "", #[⟨0, .data⟩], none⟩,
  ⟨(some 29), (.move (.tmp 4)), 3, "", #[], none⟩,
  ⟨(some 30), (.binOp .mul 3 (.const (.int .i64 2)) (.tmp 29) 3), 3, "", #[], none⟩,
  ⟨(some 31), (.call ⟨(.value (.func 19)), #[(.tmp 28), (.tmp 30)], #[3, 3]⟩), 3, "", #[⟨0, .chain⟩], none⟩,
  ⟨(some 7), (.assign (.tmp 31)), 3, "", #[], none⟩]
def F22.r8 : List Oper := [
  ⟨(some 32), (.move (.tmp 7)), 3, "", #[], none⟩,
  ⟨(some 33), (.move (.tmp 4)), 3, "", #[], none⟩,
  ⟨(some 34), (.binOp .lss 3 (.tmp 32) (.tmp 33) 3), 4, "", #[], none⟩]
def F22.r9 : List Oper := [
  ⟨(some 35), (.move (.tmp 7)), 3, "", #[], none⟩,
  ⟨(some 36), (.call ⟨(.value (.func 53)), #[(.tmp 35)], #[3]⟩), 9, "", #[⟨0, .chain⟩], none⟩,
  ⟨(some 37), (.fieldAddr 46 (.tmp 6) 1), 0, "", #[], none⟩,
  ⟨none, (.store 9 (.tmp 37) (.tmp 36)), 0, "", #[⟨0, .chain⟩], none⟩]
def F22.r10 : List Oper := [
  ⟨(some 38), (.move (.tmp 4)), 3, "", #[], none⟩,
  ⟨(some 39), (.makeSlice 93 (.tmp 38) (.tmp 38)), 93, "", #[⟨0, .chain⟩], none⟩,
  ⟨(some 8), (.assign (.tmp 39)), 93, "", #[], none⟩]
def F22.r11 : List Oper := [
  ⟨(some 9), (.assign (.const (.int .i64 0))), 3, "", #[], none⟩]
def F22.r12 : List Oper := [
  ⟨(some 40), (.move (.tmp 9)), 3, "", #[], none⟩,
  ⟨(some 41), (.move (.tmp 0)), 49, "", #[], none⟩,
  ⟨(some 42), (.move (.tmp 5)), 3, "", #[], none⟩,
  ⟨(some 43), (.indexAddr 49 (.tmp 41) (.tmp 42)), 0, "", #[], none⟩,
  ⟨(some 44), (.fieldAddr 63 (.tmp 43) 1), 0, "", #[], none⟩,
  ⟨(some 45), (.load 61 (.tmp 44)), 61, "", #[⟨0, .data⟩], none⟩,
  ⟨(some 46), (.call ⟨(.builtin .len), #[(.tmp 45)], #[61]⟩), 3, "", #[], none⟩,
  ⟨(some 47), (.binOp .lss 3 (.tmp 40) (.tmp 46) 3), 4, "", #[], none⟩]
def F22.r14 : List Oper := [
  ⟨(some 50), (.move (.tmp 0)), 49, "", #[], none⟩,
  ⟨(some 51), (.move (.tmp 5)), 3, "", #[], none⟩,
  ⟨(some 52), (.indexAddr 49 (.tmp 50) (.tmp 51)), 0, "", #[], none⟩,
  ⟨(some 53), (.fieldAddr 63 (.tmp 52) 1), 0, "", #[], none⟩,
  ⟨(some 54), (.load 61 (.tmp 53)), 61, "", #[⟨0, .data⟩], none⟩,
  ⟨(some 55), (.move (.tmp 9)), 3, "", #[], none⟩,
  ⟨(some 56), (.indexAddr 61 (.tmp 54) (.tmp 55)), 0, "", #[], none⟩,
  ⟨(some 57), (.load 3 (.tmp 56)), 3, "", #[⟨0, .data⟩], none⟩,
  ⟨(some 58), (.move (.tmp 4)), 3, "", #[], none⟩,
  ⟨(some 59), (.call ⟨(.value (.func 19)), #[(.tmp 57), (.tmp 58)], #[3, 3]⟩), 3, "", #[⟨0, .chain⟩], none⟩,
  ⟨(some 10), (.assign (.tmp 59)), 3, "", #[], none⟩]
def F22.r15 : List Oper := [
  ⟨(some 60), (.move (.tmp 8)), 93, "", #[], none⟩,
  ⟨(some 61), (.move (.tmp 10)), 3, "", #[], none⟩,
  ⟨(some 62), (.indexAddr 93 (.tmp 60) (.tmp 61)), 0, "", #[], none⟩,
  ⟨(some 63), (.load 4 (.tmp 62)), 4, "", #[⟨0, .data⟩], none⟩,
  ⟨(some 64), (.unOp .not 4 (.tmp 63)), 4, "", #[], none⟩]
def F22.r16 : List Oper := [
  ⟨(some 65), (.fieldAddr 46 (.tmp 6) 2), 0, "", #[], none⟩,
  ⟨(some 67), (.move (.tmp 10)), 3, "", #[], none⟩,
  ⟨(some 66), (.load 33 (.tmp 65)), 33, "", #[⟨160, .data⟩], none⟩,
  ⟨(some 68), (.call ⟨(.value (.func 53)), #[(.tmp 67)], #[3]⟩), 9, "", #[⟨3, .chain⟩], none⟩,
  ⟨(some 69), (.buildSlice 33 1 #[(0, (.tmp 68))]), 33, "", #[⟨4, .chain⟩], none⟩,
  ⟨(some 70), (.call ⟨(.builtin .append), #[(.tmp 66), (.tmp 69)], #[33, 33]⟩), 33, "", #[⟨5, .chain⟩], none⟩,
  ⟨(some 71), (.fieldAddr 46 (.tmp 6) 2), 0, "", #[], none⟩,
  ⟨none, (.store 33 (.tmp 71) (.tmp 70)), 0, "", #[⟨7, .chain⟩], none⟩]
def F22.r17 : List Oper := [
  ⟨(some 72), (.move (.tmp 8)), 93, "", #[], none⟩,
  ⟨(some 73), (.move (.tmp 10)), 3, "", #[], none⟩,
  ⟨(some 74), (.indexAddr 93 (.tmp 72) (.tmp 73)), 0, "", #[], none⟩,
  ⟨none, (.store 4 (.tmp 74) (.const (.bool true))), 0, "", #[⟨0, .chain⟩], none⟩]
def F22.r13 : List Oper := [
  ⟨(some 48), (.move (.tmp 9)), 3, "", #[], none⟩,
  ⟨(some 49), (.binOp .add 3 (.tmp 48) (.const (.int .i64 1)) 3), 3, "", #[], none⟩,
  ⟨(some 9), (.assign (.tmp 49)), 3, "", #[], none⟩]
def F22.r18 : List Oper := [
  ⟨(some 11), (.assign (.const (.int .i64 0))), 3, "", #[], none⟩]
def F22.r19 : List Oper := [
  ⟨(some 75), (.move (.tmp 11)), 3, "", #[], none⟩,
  ⟨(some 76), (.move (.tmp 0)), 49, "", #[], none⟩,
  ⟨(some 77), (.move (.tmp 5)), 3, "", #[], none⟩,
  ⟨(some 78), (.indexAddr 49 (.tmp 76) (.tmp 77)), 0, "", #[], none⟩,
  ⟨(some 79), (.fieldAddr 63 (.tmp 78) 2), 0, "", #[], none⟩,
  ⟨(some 80), (.load 9 (.tmp 79)), 9, "", #[⟨0, .data⟩], none⟩,
  ⟨(some 81), (.call ⟨(.builtin .len), #[(.tmp 80)], #[9]⟩), 3, "", #[], none⟩,
  ⟨(some 82), (.binOp .lss 3 (.tmp 75) (.tmp 81) 3), 4, "", #[], none⟩,
  ⟨(some 83), (.move (.tmp 82)), 4, "", #[], none⟩,
  ⟨(some 84), (.move (.tmp 11)), 3, "", #[], (some (83, true))⟩,
  ⟨(some 85), (.binOp .lss 3 (.tmp 84) (.const (.int .i64 32)) 3), 4, "", #[], (some (83, true))⟩,
  ⟨(some 86), (.pick (.tmp 83) (.tmp 85) (.const (.bool false))), 4, "", #[], none⟩]
def F22.r21 : List Oper := [
  ⟨(some 89), (.move (.tmp 0)), 49, "", #[], none⟩,
  ⟨(some 90), (.move (.tmp 5)), 3, "", #[], none⟩,
  ⟨(some 91), (.indexAddr 49 (.tmp 89) (.tmp 90)), 0, "", #[], none⟩,
  ⟨(some 92), (.fieldAddr 63 (.tmp 91) 2), 0, "", #[], none⟩,
  ⟨(some 93), (.load 9 (.tmp 92)), 9, "", #[⟨0, .data⟩], none⟩,
  ⟨(some 94), (.move (.tmp 11)), 3, "", #[], none⟩,
  ⟨(some 95), (.index 9 (.tmp 93) (.tmp 94)), 5, "", #[], none⟩,
  ⟨(some 96), (.binOp .rem 5 (.tmp 95) (.const (.int .u8 94)) 5), 5, "", #[], none⟩,
  ⟨(some 97), (.binOp .add 5 (.const (.int .u8 33)) (.tmp 96) 5), 5, "", #[], none⟩,
  ⟨(some 12), (.assign (.tmp 97)), 5, "", #[], none⟩]
def F22.r22 : List Oper := [
  ⟨(some 98), (.move (.tmp 12)), 5, "", #[], none⟩,
  ⟨(some 99), (.binOp .neq 5 (.tmp 98) (.const (.int .u8 58)) 5), 4, "", #[], none⟩]
def F22.r23 : List Oper := [
  ⟨(some 100), (.fieldAddr 46 (.tmp 6) 3), 0, "", #[], none⟩,
  ⟨(some 101), (.load 9 (.tmp 100)), 9, "", #[⟨0, .data⟩], none⟩,
  ⟨(some 102), (.move (.tmp 12)), 5, "", #[], none⟩,
  ⟨(some 103), (.buildSlice 82 1 #[(0, (.tmp 102))]), 82, "", #[⟨0, .chain⟩], none⟩,
  ⟨(some 104), (.convert 82 9 (.tmp 103)), 9, "", #[⟨0, .data⟩], none⟩,
  ⟨(some 105), (.binOp .add 9 (.tmp 101) (.tmp 104) 9), 9, "", #[], none⟩,
  ⟨(some 106), (.fieldAddr 46 (.tmp 6) 3), 0, "", #[], none⟩,
  ⟨none, (.store 9 (.tmp 106) (.tmp 105)), 0, "", #[⟨0, .chain⟩], none⟩]
def F22.r20 : List Oper := [
  ⟨(some 87), (.move (.tmp 11)), 3, "", #[], none⟩,
  ⟨(some 88), (.binOp .add 3 (.tmp 87) (.const (.int .i64 1)) 3), 3, "", #[], none⟩,
  ⟨(some 11), (.assign (.tmp 88)), 3, "", #[], none⟩]
def F22.r24 : List Oper := [
  ⟨(some 107), (.move (.tmp 3)), 23, "", #[], none⟩,
  ⟨(some 108), (.load 46 (.tmp 6)), 46, "", #[⟨0, .data⟩], none⟩,
  ⟨(some 109), (.buildSlice 23 1 #[(0, (.tmp 108))]), 23, "", #[⟨0, .chain⟩], none⟩,
  ⟨(some 110), (.call ⟨(.builtin .append), #[(.tmp 107), (.tmp 109)], #[23, 23]⟩), 23, "", #[⟨0, .chain⟩], none⟩,
  ⟨(some 3), (.assign (.tmp 110)), 23, "", #[], none⟩]
def F22.r5 : List Oper := [
  ⟨(some 19), (.move (.tmp 5)), 3, "", #[], none⟩,
  ⟨(some 20), (.binOp .add 3 (.tmp 19) (.const (.int .i64 1)) 3), 3, "", #[], none⟩,
  ⟨(some 5), (.assign (.tmp 20)), 3, "", #[], none⟩]
def F22.r25 : List Oper := [
  ⟨(some 111), (.move (.tmp 3)), 23, "", #[], none⟩,
  ⟨(some 2), (.assign (.tmp 111)), 23, "", #[], none⟩]
def F22.t17 : Cd := (.region 17 F22.r17.toArray false)
theorem F22.t17_eq {P : Program} {Q : Post} {e : FA} {w : World} {θ : Tag (F22.t17, Q, e, w)} : cwE P F22.t17 Q e w θ = cwE P (.region 17 F22.r17.toArray false) Q e w := rfl
def F22.t13 : Cd := (.region 13 F22.r13.toArray false)
theorem F22.t13_eq {P : Program} {Q : Post} {e : FA} {w : World} {θ : Tag (F22.t13, Q, e, w)} : cwE P F22.t13 Q e w θ = cwE P (.region 13 F22.r13.toArray false) Q e w := rfl
def F22.t14 : Cd := (.seq (.block 3 (.seq (.region 14 F22.r14.toArray false) (.seq (.seq (.region 15 F22.r15.toArray false) (.cond (.tmp 64) (.region 16 F22.r16.toArray true) .skip)) F22.t17))) F22.t13)
theorem F22.t14_eq {P : Program} {Q : Post} {e : FA} {w : World} {θ : Tag (F22.t14, Q, e, w)} : cwE P F22.t14 Q e w θ = cwE P (.seq (.block 3 (.seq (.region 14 F22.r14.toArray false) (.seq (.seq (.region 15 F22.r15.toArray false) (.cond (.tmp 64) (.region 16 F22.r16.toArray true) .skip)) F22.t17))) F22.t13) Q e w := rfl
def F22.t20 : Cd := (.region 20 F22.r20.toArray false)
theorem F22.t20_eq {P : Program} {Q : Post} {e : FA} {w : World} {θ : Tag (F22.t20, Q, e, w)} : cwE P F22.t20 Q e w θ = cwE P (.region 20 F22.r20.toArray false) Q e w := rfl
def F22.t21 : Cd := (.seq (.block 5 (.seq (.region 21 F22.r21.toArray false) (.seq (.region 22 F22.r22.toArray false) (.cond (.tmp 99) (.region 23 F22.r23.toArray false) .skip)))) F22.t20)
theorem F22.t21_eq {P : Program} {Q : Post} {e : FA} {w : World} {θ : Tag (F22.t21, Q, e, w)} : cwE P F22.t21 Q e w θ = cwE P (.seq (.block 5 (.seq (.region 21 F22.r21.toArray false) (.seq (.region 22 F22.r22.toArray false) (.cond (.tmp 99) (.region 23 F22.r23.toArray false) .skip)))) F22.t20) Q e w := rfl
def F22.t24 : Cd := (.region 24 F22.r24.toArray false)
theorem F22.t24_eq {P : Program} {Q : Post} {e : FA} {w : World} {θ : Tag (F22.t24, Q, e, w)} : cwE P F22.t24 Q e w θ = cwE P (.region 24 F22.r24.toArray false) Q e w := rfl
def F22.t18 : Cd := (.seq (.seq (.region 18 F22.r18.toArray false) (.block 4 (.loop (.seq (.seq (.region 19 F22.r19.toArray false) (.cond (.tmp 86) .skip (.exit 4))) F22.t21)))) F22.t24)
theorem F22.t18_eq {P : Program} {Q : Post} {e : FA} {w : World} {θ : Tag (F22.t18, Q, e, w)} : cwE P F22.t18 Q e w θ = cwE P (.seq (.seq (.region 18 F22.r18.toArray false) (.block 4 (.loop (.seq (.seq (.region 19 F22.r19.toArray false) (.cond (.tmp 86) .skip (.exit 4))) F22.t21)))) F22.t24) Q e w := rfl
def F22.t10 : Cd := (.seq (.region 10 F22.r10.toArray false) (.seq (.seq (.region 11 F22.r11.toArray false) (.block 2 (.loop (.seq (.seq (.region 12 F22.r12.toArray false) (.cond (.tmp 47) .skip (.exit 2))) F22.t14)))) F22.t18))
theorem F22.t10_eq {P : Program} {Q : Post} {e : FA} {w : World} {θ : Tag (F22.t10, Q, e, w)} : cwE P F22.t10 Q e w θ = cwE P (.seq (.region 10 F22.r10.toArray false) (.seq (.seq (.region 11 F22.r11.toArray false) (.block 2 (.loop (.seq (.seq (.region 12 F22.r12.toArray false) (.cond (.tmp 47) .skip (.exit 2))) F22.t14)))) F22.t18)) Q e w := rfl
def F22.t5 : Cd := (.region 5 F22.r5.toArray false)
theorem F22.t5_eq {P : Program} {Q : Post} {e : FA} {w : World} {θ : Tag (F22.t5, Q, e, w)} : cwE P F22.t5 Q e w θ = cwE P (.region 5 F22.r5.toArray false) Q e w := rfl
def F22.t6 : Cd := (.seq (.block 1 (.seq (.region 6 F22.r6.toArray false) (.seq (.region 7 F22.r7.toArray false) (.seq (.seq (.region 8 F22.r8.toArray false) (.cond (.tmp 34) (.region 9 F22.r9.toArray false) .skip)) F22.t10)))) F22.t5)
theorem F22.t6_eq {P : Program} {Q : Post} {e : FA} {w : World} {θ : Tag (F22.t6, Q, e, w)} : cwE P F22.t6 Q e w θ = cwE P (.seq (.block 1 (.seq (.region 6 F22.r6.toArray false) (.seq (.region 7 F22.r7.toArray false) (.seq (.seq (.region 8 F22.r8.toArray false) (.cond (.tmp 34) (.region 9 F22.r9.toArray false) .skip)) F22.t10)))) F22.t5) Q e w := rfl
def F22.t25 : Cd := (.seq (.region 25 F22.r25.toArray false) .ret)
theorem F22.t25_eq {P : Program} {Q : Post} {e : FA} {w : World} {θ : Tag (F22.t25, Q, e, w)} : cwE P F22.t25 Q e w θ = cwE P (.seq (.region 25 F22.r25.toArray false) .ret) Q e w := rfl
def F22.code : Cd := (.seq (.region 0 F22.r0.toArray false) (.seq (.region 1 F22.r1.toArray false) (.seq (.region 2 F22.r2.toArray false) (.seq (.seq (.region 3 F22.r3.toArray false) (.block 0 (.loop (.seq (.seq (.region 4 F22.r4.toArray false) (.cond (.tmp 18) .skip (.exit 0))) F22.t6)))) F22.t25))))
theorem F22.calls {args : Array Value} {w : World} {R : Ending → World → Prop} (hn : args.size ≤ 112) (h : cwE Tryd.prog F22.code (fnP Tryd.prog #[(.tmp 2)] R) (entry args) w) : Calls Tryd.prog 22 args w R :=
  calls_of_cwE (types := Tryd.prog.types) follows Tryd.func22 F22.code rfl (by kernel_rfl) hn h

def F23.r0 : List Oper := [
  ⟨(some 2), (.assign (.const (.pointer none))), 28, "", #[], none⟩]
def F23.r1 : List Oper := [
  ⟨(some 9), (.move (.tmp 0)), 23, "", #[], none⟩,
  ⟨(some 10), (.call ⟨(.value (.func 12)), #[(.tmp 9)], #[23]⟩), 26, "", #[⟨0, .chain⟩], none⟩,
  ⟨(some 8), (.move (.tmp 10)), 26, "", #[], none⟩,
  ⟨(some 11), (.extract (.tmp 8) 0), 9, "", #[], none⟩,
  ⟨(some 12), (.extract (.tmp 8) 1), 25, "", #[], none⟩,
  ⟨(some 3), (.assign (.tmp 11)), 9, "", #[], none⟩,
  ⟨(some 4), (.assign (.tmp 12)), 25, "", #[], none⟩]
def F23.r2 : List Oper := [
  ⟨(some 14), (.move (.tmp 3)), 9, "", #[], none⟩,
  ⟨(some 15), (.call ⟨(.value (.func 13)), #[(.tmp 14)], #[9]⟩), 29, "", #[⟨0, .chain⟩], none⟩,
  ⟨(some 13), (.move (.tmp 15)), 29, "", #[], none⟩,
  ⟨(some 16), (.extract (.tmp 13) 0), 28, "", #[], none⟩,
  ⟨(some 17), (.extract (.tmp 13) 1), 25, "", #[], none⟩,
  ⟨(some 18), (.extract (.tmp 13) 2), 3, "", #[], none⟩,
  ⟨(some 5), (.assign (.tmp 16)), 28, "", #[], none⟩,
  ⟨(some 6), (.assign (.tmp 17)), 25, "", #[], none⟩,
  ⟨(some 7), (.assign (.tmp 18)), 3, "", #[], none⟩]
def F23.r3 : List Oper := [
  ⟨(some 19), (.move (.tmp 4)), 25, "", #[], none⟩,
  ⟨(some 20), (.binOp .neq 25 (.tmp 19) (.const (.int .i64 0)) 25), 4, "", #[], none⟩,
  ⟨(some 21), (.move (.tmp 20)), 4, "", #[], none⟩,
  ⟨(some 22), (.move (.tmp 6)), 25, "", #[], (some (21, false))⟩,
  ⟨(some 23), (.binOp .neq 25 (.tmp 22) (.const (.int .i64 0)) 25), 4, "", #[], (some (21, false))⟩,
  ⟨(some 24), (.pick (.tmp 21) (.const (.bool true)) (.tmp 23)), 4, "", #[], none⟩]
def F23.r4 : List Oper := [
  ⟨(some 2), (.assign (.const (.pointer none))), 28, "", #[], none⟩]
def F23.r5 : List Oper := [
  ⟨(some 25), (.move (.tmp 5)), 28, "", #[], none⟩,
  ⟨(some 2), (.assign (.tmp 25)), 28, "", #[], none⟩]
def F23.t5 : Cd := (.seq (.region 5 F23.r5.toArray false) .ret)
theorem F23.t5_eq {P : Program} {Q : Post} {e : FA} {w : World} {θ : Tag (F23.t5, Q, e, w)} : cwE P F23.t5 Q e w θ = cwE P (.seq (.region 5 F23.r5.toArray false) .ret) Q e w := rfl
def F23.code : Cd := (.seq (.region 0 F23.r0.toArray false) (.seq (.region 1 F23.r1.toArray false) (.seq (.region 2 F23.r2.toArray false) (.seq (.seq (.region 3 F23.r3.toArray false) (.cond (.tmp 24) (.seq (.region 4 F23.r4.toArray false) .ret) .skip)) F23.t5))))
theorem F23.calls {args : Array Value} {w : World} {R : Ending → World → Prop} (hn : args.size ≤ 26) (h : cwE Tryd.prog F23.code (fnP Tryd.prog #[(.tmp 2)] R) (entry args) w) : Calls Tryd.prog 23 args w R :=
  calls_of_cwE (types := Tryd.prog.types) follows Tryd.func23 F23.code rfl (by kernel_rfl) hn h

def F24.r0 : List Oper := [
  ⟨(some 2), (.box 28 (.tmp 0)), 0, "", #[⟨0, .chain⟩], none⟩,
  ⟨(some 3), (.box 9 (.tmp 1)), 0, "", #[⟨0, .chain⟩], none⟩,
  ⟨(some 4), (.assign (.const (.slice none 0 0))), 33, "", #[], none⟩]
def F24.r1 : List Oper := [
  ⟨(some 5), (.alloc 33), 0, "", #[⟨0, .chain⟩], none⟩]
def F24.r2 : List Oper := [
  ⟨(some 7), (.load 28 (.tmp 2)), 28, "", #[⟨0, .data⟩], none⟩,
  ⟨(some 8), (.call ⟨(.value (.func 18)), #[(.tmp 7)], #[28]⟩), 42, "", #[⟨0, .chain⟩], none⟩]
def F24.r3 : List Oper := [
  ⟨(some 6), (.alloc 46), 0, "", #[⟨0, .chain⟩], none⟩,
  ⟨none, (.store 46 (.tmp 6) (.tmp 9)), 0, "", #[⟨0, .chain⟩], none⟩]
def F24.r4 : List Oper := [
  ⟨(some 10), (.load 28 (.tmp 2)), 28, "", #[⟨0, .data⟩], none⟩,
  ⟨(some 11), (.load 9 (.tmp 3)), 9, "", #[⟨0, .data⟩], none⟩,
  ⟨(some 12), (.fieldAddr 46 (.tmp 6) 0), 0, "", #[], none⟩,
  ⟨(some 13), (.load 9 (.tmp 12)), 9, "", #[⟨0, .data⟩], none⟩,
  ⟨(some 14), (.call ⟨(.value (.func 26)), #[(.tmp 10), (.tmp 11), (.tmp 13)], #[28, 9, 9]⟩), 4, "", #[⟨0, .chain⟩], none⟩]
def F24.r5 : List Oper := [
  ⟨(some 15), (.load 33 (.tmp 5)), 33, "", #[⟨0, .data⟩], none⟩,
  ⟨(some 16), (.fieldAddr 46 (.tmp 6) 0), 0, "", #[], none⟩,
  ⟨(some 17), (.load 9 (.tmp 16)), 9, "", #[⟨0, .data⟩], none⟩,
  ⟨(some 18), (.buildSlice 33 1 #[(0, (.tmp 17))]), 33, "", #[⟨0, .chain⟩], none⟩,
  ⟨(some 19), (.call ⟨(.builtin .append), #[(.tmp 15), (.tmp 18)], #[33, 33]⟩), 33, "", #[⟨0, .chain⟩], none⟩,
  ⟨none, (.store 33 (.tmp 5) (.tmp 19)), 0, "", #[⟨0, .chain⟩], none⟩]
def F24.r6 : List Oper := [
  ⟨(some 20), (.load 33 (.tmp 5)), 33, "", #[⟨0, .data⟩], none⟩,
  ⟨(some 21), (.call ⟨(.value (.func 54)), #[(.tmp 20)], #[33]⟩), 0, "", #[⟨0, .chain⟩], none⟩]
def F24.r7 : List Oper := [
  ⟨(some 22), (.load 33 (.tmp 5)), 33, "", #[⟨0, .data⟩], none⟩,
  ⟨(some 4), (.assign (.tmp 22)), 33, "", #[], none⟩]
def F24.a0 : Cd := (.region 3 F24.r3.toArray false)
def F24.b0 : Cd := (.block 1 (.seq (.region 4 F24.r4.toArray false) (.cond (.tmp 14) (.region 5 F24.r5.toArray false) .skip)))
def F24.t6 : Cd := (.seq (.region 6 F24.r6.toArray false) (.seq (.region 7 F24.r7.toArray false) .ret))
theorem F24.t6_eq {P : Program} {Q : Post} {e : FA} {w : World} {θ : Tag (F24.t6, Q, e, w)} : cwE P F24.t6 Q e w θ = cwE P (.seq (.region 6 F24.r6.toArray false) (.seq (.region 7 F24.r7.toArray false) .ret)) Q e w := rfl
def F24.code : Cd := (.seq (.region 0 F24.r0.toArray false) (.seq (.region 1 F24.r1.toArray false) (.seq (.seq (.region 2 F24.r2.toArray false) (.block 0 (.rangeFunc (.tmp 8) #[9] F24.a0 F24.b0))) F24.t6)))
theorem F24.calls {args : Array Value} {w : World} {R : Ending → World → Prop} (hn : args.size ≤ 23) (h : cwE Tryd.prog F24.code (fnP Tryd.prog #[(.tmp 4)] R) (entry args) w) : Calls Tryd.prog 24 args w R :=
  calls_of_cwE (types := Tryd.prog.types) follows Tryd.func24 F24.code rfl (by kernel_rfl) hn h

def F25.r0 : List Oper := [
  ⟨(some 4), (.assign (.const (.bool false))), 4, "", #[], none⟩]
def F25.r1 : List Oper := [
  ⟨(some 5), (.assign (.const (.int .i64 0))), 3, "", #[], none⟩]
def F25.r2 : List Oper := [
  ⟨(some 6), (.move (.tmp 5)), 3, "", #[], none⟩,
  ⟨(some 7), (.move (.tmp 0)), 33, "", #[], none⟩,
  ⟨(some 8), (.call ⟨(.builtin .len), #[(.tmp 7)], #[33]⟩), 3, "", #[], none⟩,
  ⟨(some 9), (.binOp .lss 3 (.tmp 6) (.tmp 8) 3), 4, "", #[], none⟩]
def F25.r4 : List Oper := [
  ⟨(some 12), (.move (.tmp 0)), 33, "", #[], none⟩,
  ⟨(some 13), (.move (.tmp 5)), 3, "", #[], none⟩,
  ⟨(some 14), (.indexAddr 33 (.tmp 12) (.tmp 13)), 0, "", #[], none⟩,
  ⟨(some 15), (.load 9 (.tmp 14)), 9, "", #[⟨0, .data⟩], none⟩,
  ⟨(some 16), (.move (.tmp 1)), 9, "", #[], none⟩,
  ⟨(some 17), (.binOp .eql 9 (.tmp 15) (.tmp 16) 9), 4, "", #[], none⟩]
def F25.r5 : List Oper := [
  ⟨(some 4), (.assign (.const (.bool true))), 4, "", #[], none⟩]
def F25.r3 : List Oper := [
  ⟨(some 10), (.move (.tmp 5)), 3, "", #[], none⟩,
  ⟨(some 11), (.binOp .add 3 (.tmp 10) (.const (.int .i64 1)) 3), 3, "", #[], none⟩,
  ⟨(some 5), (.assign (.tmp 11)), 3, "", #[], none⟩]
def F25.r6 : List Oper := [
  ⟨(some 4), (.assign (.const (.bool false))), 4, "", #[], none⟩]
def F25.t3 : Cd := (.region 3 F25.r3.toArray false)
theorem F25.t3_eq {P : Program} {Q : Post} {e : FA} {w : World} {θ : Tag (F25.t3, Q, e, w)} : cwE P F25.t3 Q e w θ = cwE P (.region 3 F25.r3.toArray false) Q e w := rfl
def F25.t4 : Cd := (.seq (.block 1 (.seq (.region 4 F25.r4.toArray false) (.cond (.tmp 17) (.seq (.region 5 F25.r5.toArray false) .ret) .skip))) F25.t3)
theorem F25.t4_eq {P : Program} {Q : Post} {e : FA} {w : World} {θ : Tag (F25.t4, Q, e, w)} : cwE P F25.t4 Q e w θ = cwE P (.seq (.block 1 (.seq (.region 4 F25.r4.toArray false) (.cond (.tmp 17) (.seq (.region 5 F25.r5.toArray false) .ret) .skip))) F25.t3) Q e w := rfl
def F25.t6 : Cd := (.seq (.region 6 F25.r6.toArray false) .ret)
theorem F25.t6_eq {P : Program} {Q : Post} {e : FA} {w : World} {θ : Tag (F25.t6, Q, e, w)} : cwE P F25.t6 Q e w θ = cwE P (.seq (.region 6 F25.r6.toArray false) .ret) Q e w := rfl
def F25.code : Cd := (.seq (.region 0 F25.r0.toArray false) (.seq (.seq (.region 1 F25.r1.toArray false) (.block 0 (.loop (.seq (.seq (.region 2 F25.r2.toArray false) (.cond (.tmp 9) .skip (.exit 0))) F25.t4)))) F25.t6))
theorem F25.calls {args : Array Value} {w : World} {R : Ending → World → Prop} (hn : args.size ≤ 18) (h : cwE Tryd.prog F25.code (fnP Tryd.prog #[(.tmp 4)] R) (entry args) w) : Calls Tryd.prog 25 args w R :=
  calls_of_cwE (types := Tryd.prog.types) follows Tryd.func25 F25.code rfl (by kernel_rfl) hn h

def F26.r0 : List Oper := [
  ⟨(some 6), (.assign (.const (.bool false))), 4, "", #[], none⟩]
def F26.r1 : List Oper := [
  ⟨(some 10), (.move (.tmp 0)), 28, "", #[], none⟩,
  ⟨(some 11), (.nilCheck (.tmp 10)), 0, "", #[], none⟩,
  ⟨(some 12), (.fieldAddr 72 (.tmp 11) 2), 0, "", #[], none⟩,
  ⟨(some 13), (.load 70 (.tmp 12)), 70, "", #[⟨0, .data⟩], none⟩,
  ⟨(some 14), (.move (.tmp 1)), 9, "", #[], none⟩,
  ⟨(some 15), (.move (.tmp 2)), 9, "", #[], none⟩,
  ⟨(some 16), (.build 95 #[(0, (.tmp 14)), (1, (.tmp 15))]), 95, "", #[], none⟩,
  ⟨(some 17), (.lookup 70 (.tmp 13) (.tmp 16) true), 75, "", #[⟨0, .data⟩], none⟩,
  ⟨(some 9), (.move (.tmp 17)), 75, "", #[], none⟩,
  ⟨(some 18), (.extract (.tmp 9) 0), 3, "", #[], none⟩,
  ⟨(some 19), (.extract (.tmp 9) 1), 4, "", #[], none⟩,
  ⟨(some 7), (.assign (.tmp 18)), 3, "", #[], none⟩,
  ⟨(some 8), (.assign (.tmp 19)), 4, "", #[], none⟩]
def F26.r2 : List Oper := [
  ⟨(some 20), (.move (.tmp 8)), 4, "", #[], none⟩,
  ⟨(some 6), (.assign (.tmp 20)), 4, "", #[], none⟩]
def F26.code : Cd := (.seq (.region 0 F26.r0.toArray false) (.seq (.region 1 F26.r1.toArray false) (.seq (.region 2 F26.r2.toArray false) .ret)))
theorem F26.calls {args : Array Value} {w : World} {R : Ending → World → Prop} (hn : args.size ≤ 21) (h : cwE Tryd.prog F26.code (fnP Tryd.prog #[(.tmp 6)] R) (entry args) w) : Calls Tryd.prog 26 args w R :=
  calls_of_cwE (types := Tryd.prog.types) follows Tryd.func26 F26.code rfl (by kernel_rfl) hn h

def F27.r0 : List Oper := [
  ⟨(some 6), (.assign (.const (.bool false))), 4, "", #[], none⟩]
def F27.r1 : List Oper := [
  ⟨(some 11), (.move (.tmp 0)), 28, "", #[], none⟩,
  ⟨(some 12), (.nilCheck (.tmp 11)), 0, "", #[], none⟩,
  ⟨(some 13), (.fieldAddr 72 (.tmp 12) 1), 0, "", #[], none⟩,
  ⟨(some 14), (.load 69 (.tmp 13)), 69, "", #[⟨0, .data⟩], none⟩,
  ⟨(some 15), (.move (.tmp 2)), 9, "", #[], none⟩,
  ⟨(some 16), (.lookup 69 (.tmp 14) (.tmp 15) true), 75, "", #[⟨0, .data⟩], none⟩,
  ⟨(some 10), (.move (.tmp 16)), 75, "", #[], none⟩,
  ⟨(some 17), (.extract (.tmp 10) 0), 3, "", #[], none⟩,
  ⟨(some 18), (.extract (.tmp 10) 1), 4, "", #[], none⟩,
  ⟨(some 7), (.assign (.tmp 17)), 3, "", #[], none⟩,
  ⟨(some 8), (.assign (.tmp 18)), 4, "", #[], none⟩]
def F27.r2 : List Oper := [
  ⟨(some 19), (.move (.tmp 8)), 4, "", #[], none⟩,
  ⟨(some 20), (.unOp .not 4 (.tmp 19)), 4, "", #[], none⟩,
  ⟨(some 21), (.move (.tmp 20)), 4, "", #[], none⟩,
  ⟨(some 22), (.move (.tmp 0)), 28, "", #[], (some (21, false))⟩,
  ⟨(some 23), (.move (.tmp 1)), 9, "", #[], (some (21, false))⟩,
  ⟨(some 24), (.call ⟨(.value (.func 29)), #[(.tmp 22), (.tmp 23)], #[28, 9]⟩), 4, "", #[⟨0, .chain⟩], (some (21, false))⟩,
  ⟨(some 25), (.unOp .not 4 (.tmp 24)), 4, "", #[], (some (21, false))⟩,
  ⟨(some 26), (.pick (.tmp 21) (.const (.bool true)) (.tmp 25)), 4, "", #[], none⟩]
def F27.r3 : List Oper := [
  ⟨(some 6), (.assign (.const (.bool false))), 4, "", #[], none⟩]
def F27.r4 : List Oper := [
  ⟨(some 27), (.move (.tmp 0)), 28, "", #[], none⟩,
  ⟨(some 28), (.nilCheck (.tmp 27)), 0, "", #[], none⟩,
  ⟨(some 29), (.fieldAddr 72 (.tmp 28) 0), 0, "", #[], none⟩,
  ⟨(some 30), (.load 23 (.tmp 29)), 23, "", #[⟨0, .data⟩], none⟩,
  ⟨(some 31), (.move (.tmp 7)), 3, "", #[], none⟩,
  ⟨(some 32), (.indexAddr 23 (.tmp 30) (.tmp 31)), 0, "", #[], none⟩,
  ⟨(some 33), (.fieldAddr 46 (.tmp 32) 1), 0, "", #[], none⟩,
  ⟨(some 34), (.load 9 (.tmp 33)), 9, "", #[⟨0, .data⟩], none⟩,
  ⟨(some 9), (.assign (.tmp 34)), 9, "", #[], none⟩]
def F27.r5 : List Oper := [
  ⟨(some 35), (.move (.tmp 9)), 9, "", #[], none⟩,
  ⟨(some 36), (.binOp .neq 9 (.tmp 35) (.const (.string { data := #[] })) 9), 4, "", #[], none⟩]
def F27.r6 : List Oper := [
  ⟨(some 37), (.move (.tmp 9)), 9, "", #[], none⟩,
  ⟨(some 38), (.move (.tmp 1)), 9, "", #[], none⟩,
  ⟨(some 39), (.binOp .eql 9 (.tmp 37) (.tmp 38) 9), 4, "", #[], none⟩,
  ⟨(some 6), (.assign (.tmp 39)), 4, "", #[], none⟩]
def F27.r7 : List Oper := [
  ⟨(some 40), (.move (.tmp 0)), 28, "", #[], none⟩,
  ⟨(some 41), (.move (.tmp 1)), 9, "", #[], none⟩,
  ⟨(some 42), (.move (.tmp 2)), 9, "", #[], none⟩,
  ⟨(some 43), (.call ⟨(.value (.func 26)), #[(.tmp 40), (.tmp 41), (.tmp 42)], #[28, 9, 9]⟩), 4, "", #[⟨0, .chain⟩], none⟩,
  ⟨(some 6), (.assign (.tmp 43)), 4, "", #[], none⟩]
def F27.t7 : Cd := (.seq (.region 7 F27.r7.toArray false) .ret)
theorem F27.t7_eq {P : Program} {Q : Post} {e : FA} {w : World} {θ : Tag (F27.t7, Q, e, w)} : cwE P F27.t7 Q e w θ = cwE P (.seq (.region 7 F27.r7.toArray false) .ret) Q e w := rfl
def F27.t4 : Cd := (.seq (.seq (.region 4 F27.r4.toArray false) (.seq (.region 5 F27.r5.toArray false) (.cond (.tmp 36) (.seq (.region 6 F27.r6.toArray false) .ret) .skip))) F27.t7)
theorem F27.t4_eq {P : Program} {Q : Post} {e : FA} {w : World} {θ : Tag (F27.t4, Q, e, w)} : cwE P F27.t4 Q e w θ = cwE P (.seq (.seq (.region 4 F27.r4.toArray false) (.seq (.region 5 F27.r5.toArray false) (.cond (.tmp 36) (.seq (.region 6 F27.r6.toArray false) .ret) .skip))) F27.t7) Q e w := rfl
def F27.code : Cd := (.seq (.region 0 F27.r0.toArray false) (.seq (.region 1 F27.r1.toArray false) (.seq (.seq (.region 2 F27.r2.toArray false) (.cond (.tmp 26) (.seq (.region 3 F27.r3.toArray false) .ret) .skip)) F27.t4)))
theorem F27.calls {args : Array Value} {w : World} {R : Ending → World → Prop} (hn : args.size ≤ 44) (h : cwE Tryd.prog F27.code (fnP Tryd.prog #[(.tmp 6)] R) (entry args) w) : Calls Tryd.prog 27 args w R :=
  calls_of_cwE (types := Tryd.prog.types) follows Tryd.func27 F27.code rfl (by kernel_rfl) hn h

def F28.r0 : List Oper := [
  ⟨(some 4), (.assign (.const (.string { data := #[] }))), 9, "", #[], none⟩]
def F28.r1 : List Oper := [
  ⟨(some 8), (.move (.tmp 0)), 28, "", #[], none⟩,
  ⟨(some 9), (.nilCheck (.tmp 8)), 0, "", #[], none⟩,
  ⟨(some 10), (.fieldAddr 72 (.tmp 9) 1), 0, "", #[], none⟩,
  ⟨(some 11), (.load 69 (.tmp 10)), 69, "", #[⟨0, .data⟩], none⟩,
  ⟨(some 12), (.move (.tmp 1)), 9, "", #[], none⟩,
  ⟨(some 13), (.lookup 69 (.tmp 11) (.tmp 12) true), 75, "", #[⟨0, .data⟩], none⟩,
  ⟨(some 7), (.move (.tmp 13)), 75, "", #[], none⟩,
  ⟨(some 14), (.extract (.tmp 7) 0), 3, "", #[], none⟩,
  ⟨(some 15), (.extract (.tmp 7) 1), 4, "", #[], none⟩,
  ⟨(some 5), (.assign (.tmp 14)), 3, "", #[], none⟩,
  ⟨(some 6), (.assign (.tmp 15)), 4, "", #[], none⟩]
def F28.r2 : List Oper := [
  ⟨(some 16), (.move (.tmp 6)), 4, "", #[], none⟩]
def F28.r3 : List Oper := [
  ⟨(some 17), (.move (.tmp 0)), 28, "", #[], none⟩,
  ⟨(some 18), (.nilCheck (.tmp 17)), 0, "", #[], none⟩,
  ⟨(some 19), (.fieldAddr 72 (.tmp 18) 0), 0, "", #[], none⟩,
  ⟨(some 20), (.load 23 (.tmp 19)), 23, "", #[⟨0, .data⟩], none⟩,
  ⟨(some 21), (.move (.tmp 5)), 3, "", #[], none⟩,
  ⟨(some 22), (.indexAddr 23 (.tmp 20) (.tmp 21)), 0, "", #[], none⟩,
  ⟨(some 23), (.fieldAddr 46 (.tmp 22) 3), 0, "", #[], none⟩,
  ⟨(some 24), (.load 9 (.tmp 23)), 9, "", #[⟨0, .data⟩], none⟩,
  ⟨(some 4), (.assign (.tmp 24)), 9, "", #[], none⟩]
def F28.r4 : List Oper := [
  ⟨(some 4), (.assign (.const (.string { data := #[] }))), 9, "", #[], none⟩]
def F28.t4 : Cd := (.seq (.region 4 F28.r4.toArray false) .ret)
theorem F28.t4_eq {P : Program} {Q : Post} {e : FA} {w : World} {θ : Tag (F28.t4, Q, e, w)} : cwE P F28.t4 Q e w θ = cwE P (.seq (.region 4 F28.r4.toArray false) .ret) Q e w := rfl
def F28.code : Cd := (.seq (.region 0 F28.r0.toArray false) (.seq (.seq (.region 1 F28.r1.toArray false) (.seq (.region 2 F28.r2.toArray false) (.cond (.tmp 16) (.seq (.region 3 F28.r3.toArray false) .ret) .skip))) F28.t4))
theorem F28.calls {args : Array Value} {w : World} {R : Ending → World → Prop} (hn : args.size ≤ 25) (h : cwE Tryd.prog F28.code (fnP Tryd.prog #[(.tmp 4)] R) (entry args) w) : Calls Tryd.prog 28 args w R :=
  calls_of_cwE (types := Tryd.prog.types) follows Tryd.func28 F28.code rfl (by kernel_rfl) hn h

def F29.r0 : List Oper := [
  ⟨(some 4), (.assign (.const (.bool false))), 4, "", #[], none⟩]
def F29.r1 : List Oper := [
  ⟨(some 8), (.move (.tmp 0)), 28, "", #[], none⟩,
  ⟨(some 9), (.nilCheck (.tmp 8)), 0, "", #[], none⟩,
  ⟨(some 10), (.fieldAddr 72 (.tmp 9) 1), 0, "", #[], none⟩,
  ⟨(some 11), (.load 69 (.tmp 10)), 69, "", #[⟨0, .data⟩], none⟩,
  ⟨(some 12), (.move (.tmp 1)), 9, "", #[], none⟩,
  ⟨(some 13), (.lookup 69 (.tmp 11) (.tmp 12) true), 75, "", #[⟨0, .data⟩], none⟩,
  ⟨(some 7), (.move (.tmp 13)), 75, "", #[], none⟩,
  ⟨(some 14), (.extract (.tmp 7) 0), 3, "", #[], none⟩,
  ⟨(some 15), (.extract (.tmp 7) 1), 4, "", #[], none⟩,
  ⟨(some 5), (.assign (.tmp 14)), 3, "", #[], none⟩,
  ⟨(some 6), (.assign (.tmp 15)), 4, "", #[], none⟩]
def F29.r2 : List Oper := [
  ⟨(some 16), (.move (.tmp 6)), 4, "", #[], none⟩,
  ⟨(some 4), (.assign (.tmp 16)), 4, "", #[], none⟩]
def F29.code : Cd := (.seq (.region 0 F29.r0.toArray false) (.seq (.region 1 F29.r1.toArray false) (.seq (.region 2 F29.r2.toArray false) .ret)))
theorem F29.calls {args : Array Value} {w : World} {R : Ending → World → Prop} (hn : args.size ≤ 17) (h : cwE Tryd.prog F29.code (fnP Tryd.prog #[(.tmp 4)] R) (entry args) w) : Calls Tryd.prog 29 args w R :=
  calls_of_cwE (types := Tryd.prog.types) follows Tryd.func29 F29.code rfl (by kernel_rfl) hn h

def F30.r0 : List Oper := [
  ⟨(some 4), (.assign (.const (.bool false))), 4, "", #[], none⟩]
def F30.r1 : List Oper := [
  ⟨(some 6), (.move (.tmp 0)), 33, "", #[], none⟩,
  ⟨(some 7), (.call ⟨(.builtin .len), #[(.tmp 6)], #[33]⟩), 3, "", #[], none⟩,
  ⟨(some 8), (.move (.tmp 1)), 33, "", #[], none⟩,
  ⟨(some 9), (.call ⟨(.builtin .len), #[(.tmp 8)], #[33]⟩), 3, "", #[], none⟩,
  ⟨(some 10), (.binOp .neq 3 (.tmp 7) (.tmp 9) 3), 4, "", #[], none⟩]
def F30.r2 : List Oper := [
  ⟨(some 4), (.assign (.const (.bool false))), 4, "", #[], none⟩]
def F30.r3 : List Oper := [
  ⟨(some 5), (.assign (.const (.int .i64 0))), 3, "", #[], none⟩]
def F30.r4 : List Oper := [
  ⟨(some 11), (.move (.tmp 5)), 3, "", #[], none⟩,
  ⟨(some 12), (.move (.tmp 0)), 33, "", #[], none⟩,
  ⟨(some 13), (.call ⟨(.builtin .len), #[(.tmp 12)], #[33]⟩), 3, "", #[], none⟩,
  ⟨(some 14), (.binOp .lss 3 (.tmp 11) (.tmp 13) 3), 4, "", #[], none⟩]
def F30.r6 : List Oper := [
  ⟨(some 17), (.move (.tmp 0)), 33, "", #[], none⟩,
  ⟨(some 18), (.move (.tmp 5)), 3, "", #[], none⟩,
  ⟨(some 19), (.indexAddr 33 (.tmp 17) (.tmp 18)), 0, "", #[], none⟩,
  ⟨(some 21), (.move (.tmp 1)), 33, "", #[], none⟩,
  ⟨(some 22), (.move (.tmp 5)), 3, "", #[], none⟩,
  ⟨(some 23), (.indexAddr 33 (.tmp 21) (.tmp 22)), 0, "", #[], none⟩,
  ⟨(some 20), (.load 9 (.tmp 19)), 9, "", #[⟨0, .data⟩], none⟩,
  ⟨(some 24), (.load 9 (.tmp 23)), 9, "", #[⟨0, .data⟩], none⟩,
  ⟨(some 25), (.binOp .neq 9 (.tmp 20) (.tmp 24) 9), 4, "", #[], none⟩]
def F30.r7 : List Oper := [
  ⟨(some 4), (.assign (.const (.bool false))), 4, "", #[], none⟩]
def F30.r5 : List Oper := [
  ⟨(some 15), (.move (.tmp 5)), 3, "", #[], none⟩,
  ⟨(some 16), (.binOp .add 3 (.tmp 15) (.const (.int .i64 1)) 3), 3, "", #[], none⟩,
  ⟨(some 5), (.assign (.tmp 16)), 3, "", #[], none⟩]
def F30.r8 : List Oper := [
  ⟨(some 4), (.assign (.const (.bool true))), 4, "", #[], none⟩]
def F30.t5 : Cd := (.region 5 F30.r5.toArray false)
theorem F30.t5_eq {P : Program} {Q : Post} {e : FA} {w : World} {θ : Tag (F30.t5, Q, e, w)} : cwE P F30.t5 Q e w θ = cwE P (.region 5 F30.r5.toArray false) Q e w := rfl
def F30.t6 : Cd := (.seq (.block 1 (.seq (.region 6 F30.r6.toArray true) (.cond (.tmp 25) (.seq (.region 7 F30.r7.toArray false) .ret) .skip))) F30.t5)
theorem F30.t6_eq {P : Program} {Q : Post} {e : FA} {w : World} {θ : Tag (F30.t6, Q, e, w)} : cwE P F30.t6 Q e w θ = cwE P (.seq (.block 1 (.seq (.region 6 F30.r6.toArray true) (.cond (.tmp 25) (.seq (.region 7 F30.r7.toArray false) .ret) .skip))) F30.t5) Q e w := rfl
def F30.t8 : Cd := (.seq (.region 8 F30.r8.toArray false) .ret)
theorem F30.t8_eq {P : Program} {Q : Post} {e : FA} {w : World} {θ : Tag (F30.t8, Q, e, w)} : cwE P F30.t8 Q e w θ = cwE P (.seq (.region 8 F30.r8.toArray false) .ret) Q e w := rfl
def F30.t3 : Cd := (.seq (.seq (.region 3 F30.r3.toArray false) (.block 0 (.loop (.seq (.seq (.region 4 F30.r4.toArray false) (.cond (.tmp 14) .skip (.exit 0))) F30.t6)))) F30.t8)
theorem F30.t3_eq {P : Program} {Q : Post} {e : FA} {w : World} {θ : Tag (F30.t3, Q, e, w)} : cwE P F30.t3 Q e w θ = cwE P (.seq (.seq (.region 3 F30.r3.toArray false) (.block 0 (.loop (.seq (.seq (.region 4 F30.r4.toArray false) (.cond (.tmp 14) .skip (.exit 0))) F30.t6)))) F30.t8) Q e w := rfl
def F30.code : Cd := (.seq (.region 0 F30.r0.toArray false) (.seq (.seq (.region 1 F30.r1.toArray false) (.cond (.tmp 10) (.seq (.region 2 F30.r2.toArray false) .ret) .skip)) F30.t3))
theorem F30.calls {args : Array Value} {w : World} {R : Ending → World → Prop} (hn : args.size ≤ 26) (h : cwE Tryd.prog F30.code (fnP Tryd.prog #[(.tmp 4)] R) (entry args) w) : Calls Tryd.prog 30 args w R :=
  calls_of_cwE (types := Tryd.prog.types) follows Tryd.func30 F30.code rfl (by kernel_rfl) hn h

def F31.r0 : List Oper := [
  ⟨(some 2), (.assign (.const (.string { data := #[] }))), 9, "", #[], none⟩]
def F31.r1 : List Oper := [
  ⟨(some 3), (.assign (.const (.slice none 0 0))), 82, "", #[], none⟩]
def F31.r2 : List Oper := [
  ⟨(some 4), (.assign (.const (.int .i64 0))), 3, "", #[], none⟩]
def F31.r3 : List Oper := [
  ⟨(some 5), (.move (.tmp 4)), 3, "", #[], none⟩,
  ⟨(some 6), (.move (.tmp 0)), 9, "", #[], none⟩,
  ⟨(some 7), (.call ⟨(.builtin .len), #[(.tmp 6)], #[9]⟩), 3, "", #[], none⟩,
  ⟨(some 8), (.binOp .lss 3 (.tmp 5) (.tmp 7) 3), 4, "", #[], none⟩,
  ⟨(some 9), (.move (.tmp 8)), 4, "", #[], none⟩,
  ⟨(some 10), (.move (.tmp 4)), 3, "", #[], (some (9, true))⟩,
  ⟨(some 11), (.binOp .lss 3 (.tmp 10) (.const (.int .i64 60)) 3), 4, "", #[], (some (9, true))⟩,
  ⟨(some 12), (.pick (.tmp 9) (.tmp 11) (.const (.bool false))), 4, "", #[], none⟩]
def F31.r5 : List Oper := [
  ⟨(some 15), (.move (.tmp 0)), 9, "", #[], none⟩,
  ⟨(some 16), (.move (.tmp 4)), 3, "", #[], none⟩,
  ⟨(some 17), (.index 9 (.tmp 15) (.tmp 16)), 5, "", #[], none⟩,
  ⟨(some 18), (.binOp .neq 5 (.tmp 17) (.const (.int .u8 10)) 5), 4, "", #[], none⟩]
def F31.r6 : List Oper := [
  ⟨(some 19), (.move (.tmp 3)), 82, "", #[], none⟩,
  ⟨(some 20), (.move (.tmp 0)), 9, "", #[], none⟩,
  ⟨(some 21), (.move (.tmp 4)), 3, "", #[], none⟩,
  ⟨(some 22), (.index 9 (.tmp 20) (.tmp 21)), 5, "", #[], none⟩,
  ⟨(some 23), (.buildSlice 82 1 #[(0, (.tmp 22))]), 82, "", #[⟨0, .chain⟩], none⟩,
  ⟨(some 24), (.call ⟨(.builtin .append), #[(.tmp 19), (.tmp 23)], #[82, 82]⟩), 82, "", #[⟨0, .chain⟩], none⟩,
  ⟨(some 3), (.assign (.tmp 24)), 82, "", #[], none⟩]
def F31.r4 : List Oper := [
  ⟨(some 13), (.move (.tmp 4)), 3, "", #[], none⟩,
  ⟨(some 14), (.binOp .add 3 (.tmp 13) (.const (.int .i64 1)) 3), 3, "", #[], none⟩,
  ⟨(some 4), (.assign (.tmp 14)), 3, "", #[], none⟩]
def F31.r7 : List Oper := [
  ⟨(some 25), (.move (.tmp 3)), 82, "", #[], none⟩,
  ⟨(some 26), (.call ⟨(.builtin .len), #[(.tmp 25)], #[82]⟩), 3, "", #[], none⟩,
  ⟨(some 27), (.binOp .eql 3 (.tmp 26) (.const (.int .i64 0)) 3), 4, "", #[], none⟩]
def F31.r8 : List Oper := [
  ⟨(some 2), (.assign (.const (.string { data := #[10] }))), 9, "", #[], none⟩]
def F31.r9 : List Oper := [
  ⟨(some 28), (.move (.tmp 3)), 82, "", #[], none⟩,
  ⟨(some 29), (.convert 82 9 (.tmp 28)), 9, "", #[⟨0, .data⟩], none⟩,
  ⟨(some 30), (.binOp .add 9 (.const (.string { data := #[35] })) (.tmp 29) 9), 9, "", #[], none⟩,
  ⟨(some 31), (.binOp .add 9 (.tmp 30) (.const (.string { data := #[10] })) 9), 9, "", #[], none⟩,
  ⟨(some 2), (.assign (.tmp 31)), 9, "", #[], none⟩]
def F31.t4 : Cd := (.region 4 F31.r4.toArray false)
theorem F31.t4_eq {P : Program} {Q : Post} {e : FA} {w : World} {θ : Tag (F31.t4, Q, e, w)} : cwE P F31.t4 Q e w θ = cwE P (.region 4 F31.r4.toArray false) Q e w := rfl
def F31.t5 : Cd := (.seq (.block 1 (.seq (.region 5 F31.r5.toArray false) (.cond (.tmp 18) (.region 6 F31.r6.toArray false) .skip))) F31.t4)
theorem F31.t5_eq {P : Program} {Q : Post} {e : FA} {w : World} {θ : Tag (F31.t5, Q, e, w)} : cwE P F31.t5 Q e w θ = cwE P (.seq (.block 1 (.seq (.region 5 F31.r5.toArray false) (.cond (.tmp 18) (.region 6 F31.r6.toArray false) .skip))) F31.t4) Q e w := rfl
def F31.t9 : Cd := (.seq (.region 9 F31.r9.toArray false) .ret)
theorem F31.t9_eq {P : Program} {Q : Post} {e : FA} {w : World} {θ : Tag (F31.t9, Q, e, w)} : cwE P F31.t9 Q e w θ = cwE P (.seq (.region 9 F31.r9.toArray false) .ret) Q e w := rfl
def F31.t7 : Cd := (.seq (.seq (.region 7 F31.r7.toArray false) (.cond (.tmp 27) (.seq (.region 8 F31.r8.toArray false) .ret) .skip)) F31.t9)
theorem F31.t7_eq {P : Program} {Q : Post} {e : FA} {w : World} {θ : Tag (F31.t7, Q, e, w)} : cwE P F31.t7 Q e w θ = cwE P (.seq (.seq (.region 7 F31.r7.toArray false) (.cond (.tmp 27) (.seq (.region 8 F31.r8.toArray false) .ret) .skip)) F31.t9) Q e w := rfl
def F31.code : Cd := (.seq (.region 0 F31.r0.toArray false) (.seq (.region 1 F31.r1.toArray false) (.seq (.seq (.region 2 F31.r2.toArray false) (.block 0 (.loop (.seq (.seq (.region 3 F31.r3.toArray false) (.cond (.tmp 12) .skip (.exit 0))) F31.t5)))) F31.t7)))
theorem F31.calls {args : Array Value} {w : World} {R : Ending → World → Prop} (hn : args.size ≤ 32) (h : cwE Tryd.prog F31.code (fnP Tryd.prog #[(.tmp 2)] R) (entry args) w) : Calls Tryd.prog 31 args w R :=
  calls_of_cwE (types := Tryd.prog.types) follows Tryd.func31 F31.code rfl (by kernel_rfl) hn h

def F32.r0 : List Oper := [
  ⟨(some 4), (.assign (.const (.string { data := #[] }))), 9, "", #[], none⟩]
def F32.r1 : List Oper := [
  ⟨(some 6), (.move (.tmp 1)), 3, "", #[], none⟩,
  ⟨(some 7), (.move (.tmp 0)), 23, "", #[], none⟩,
  ⟨(some 8), (.call ⟨(.builtin .len), #[(.tmp 7)], #[23]⟩), 3, "", #[], none⟩,
  ⟨(some 9), (.binOp .mul 3 (.const (.int .i64 2)) (.tmp 8) 3), 3, "", #[], none⟩,
  ⟨(some 10), (.binOp .add 3 (.tmp 9) (.const (.int .i64 1)) 3), 3, "", #[], none⟩,
  ⟨(some 11), (.call ⟨(.value (.func 19)), #[(.tmp 6), (.tmp 10)], #[3, 3]⟩), 3, "", #[⟨0, .chain⟩], none⟩,
  ⟨(some 5), (.assign (.tmp 11)), 3, "", #[], none⟩]
def F32.r2 : List Oper := [
  ⟨(some 12), (.move (.tmp 5)), 3, "", #[], none⟩,
  ⟨(some 13), (.move (.tmp 0)), 23, "", #[], none⟩,
  ⟨(some 14), (.call ⟨(.builtin .len), #[(.tmp 13)], #[23]⟩), 3, "", #[], none⟩,
  ⟨(some 15), (.binOp .lss 3 (.tmp 12) (.tmp 14) 3), 4, "", #[], none⟩]
def F32.r3 : List Oper := [
  ⟨(some 16), (.move (.tmp 0)), 23, "", #[], none⟩,
  ⟨(some 17), (.move (.tmp 5)), 3, "", #[], none⟩,
  ⟨(some 18), (.indexAddr 23 (.tmp 16) (.tmp 17)), 0, "", #[], none⟩,
  ⟨(some 19), (.fieldAddr 46 (.tmp 18) 0), 0, "", #[], none⟩,
  ⟨(some 20), (.load 9 (.tmp 19)), 9, "", #[⟨0, .data⟩], none⟩,
  ⟨(some 4), (.assign (.tmp 20)), 9, "", #[], none⟩]
def F32.r4 : List Oper := [
  ⟨(some 4), (.assign (.const (.string { data := #[] }))), 9, "", #[], none⟩]
def F32.t4 : Cd := (.seq (.region 4 F32.r4.toArray false) .ret)
theorem F32.t4_eq {P : Program} {Q : Post} {e : FA} {w : World} {θ : Tag (F32.t4, Q, e, w)} : cwE P F32.t4 Q e w θ = cwE P (.seq (.region 4 F32.r4.toArray false) .ret) Q e w := rfl
def F32.code : Cd := (.seq (.region 0 F32.r0.toArray false) (.seq (.region 1 F32.r1.toArray false) (.seq (.seq (.region 2 F32.r2.toArray false) (.cond (.tmp 15) (.seq (.region 3 F32.r3.toArray false) .ret) .skip)) F32.t4)))
theorem F32.calls {args : Array Value} {w : World} {R : Ending → World → Prop} (hn : args.size ≤ 21) (h : cwE Tryd.prog F32.code (fnP Tryd.prog #[(.tmp 4)] R) (entry args) w) : Calls Tryd.prog 32 args w R :=
  calls_of_cwE (types := Tryd.prog.types) follows Tryd.func32 F32.code rfl (by kernel_rfl) hn h

def F33.r0 : List Oper := [
  ⟨(some 2), (.box 28 (.tmp 0)), 0, "", #[⟨0, .chain⟩], none⟩,
  ⟨(some 3), (.box 9 (.tmp 1)), 0, "", #[⟨0, .chain⟩], none⟩,
  ⟨(some 4), (.assign (.const (.pointer none))), 28, "", #[], none⟩,
  ⟨(some 5), (.assign (.const (.int .i64 0))), 25, "", #[], none⟩]
def F33.r1 : List Oper := [
  ⟨(some 8), (.makeMap 69 none), 69, "", #[⟨0, .chain⟩], none⟩,
  ⟨(some 9), (.build 72 #[(1, (.tmp 8))]), 72, "", #[], none⟩,
  ⟨(some 10), (.box 72 (.tmp 9)), 28, "", #[⟨0, .chain⟩], none⟩,
  ⟨(some 6), (.alloc 28), 0, "", #[⟨0, .chain⟩], none⟩,
  ⟨none, (.store 28 (.tmp 6) (.tmp 10)), 0, "", #[⟨0, .chain⟩], none⟩]
def F33.r2 : List Oper := [
  ⟨(some 11), (.makeFunc (.func 55) #[] #[(.tmp 3), (.tmp 2), (.tmp 6)]), 1, "", #[], none⟩,
  ⟨(some 12), (.call ⟨(.value (.func 35)), #[(.tmp 11)], #[1]⟩), 25, "", #[⟨0, .chain⟩], none⟩,
  ⟨(some 7), (.assign (.tmp 12)), 25, "", #[], none⟩]
def F33.r3 : List Oper := [
  ⟨(some 13), (.move (.tmp 7)), 25, "", #[], none⟩,
  ⟨(some 14), (.binOp .neq 25 (.tmp 13) (.const (.int .i64 0)) 25), 4, "", #[], none⟩]
def F33.r4 : List Oper := [
  ⟨(some 15), (.move (.tmp 7)), 25, "", #[], none⟩,
  ⟨(some 4), (.assign (.const (.pointer none))), 28, "", #[], none⟩,
  ⟨(some 5), (.assign (.tmp 15)), 25, "", #[], none⟩]
def F33.r5 : List Oper := [
  ⟨(some 16), (.load 28 (.tmp 6)), 28, "", #[⟨0, .data⟩], none⟩,
  ⟨(some 4), (.assign (.tmp 16)), 28, "", #[], none⟩,
  ⟨(some 5), (.assign (.const (.int .i64 0))), 25, "", #[], none⟩]
def F33.t5 : Cd := (.seq (.region 5 F33.r5.toArray false) .ret)
theorem F33.t5_eq {P : Program} {Q : Post} {e : FA} {w : World} {θ : Tag (F33.t5, Q, e, w)} : cwE P F33.t5 Q e w θ = cwE P (.seq (.region 5 F33.r5.toArray false) .ret) Q e w := rfl
def F33.code : Cd := (.seq (.region 0 F33.r0.toArray false) (.seq (.region 1 F33.r1.toArray false) (.seq (.region 2 F33.r2.toArray false) (.seq (.seq (.region 3 F33.r3.toArray false) (.cond (.tmp 14) (.seq (.region 4 F33.r4.toArray false) .ret) .skip)) F33.t5))))
theorem F33.calls {args : Array Value} {w : World} {R : Ending → World → Prop} (hn : args.size ≤ 17) (h : cwE Tryd.prog F33.code (fnP Tryd.prog #[(.tmp 4), (.tmp 5)] R) (entry args) w) : Calls Tryd.prog 33 args w R :=
  calls_of_cwE (types := Tryd.prog.types) follows Tryd.func33 F33.code rfl (by kernel_rfl) hn h

def F34.r0 : List Oper := [
  ⟨(some 2), (.assign (.const (.int .i64 0))), 3, "", #[], none⟩]
def F34.r1 : List Oper := [
  ⟨(some 3), (.assign (.const (.int .i64 0))), 3, "", #[], none⟩]
def F34.r2 : List Oper := [
  ⟨(some 4), (.assign (.const (.int .i64 0))), 3, "", #[], none⟩]
def F34.r3 : List Oper := [
  ⟨(some 5), (.move (.tmp 4)), 3, "", #[], none⟩,
  ⟨(some 6), (.move (.tmp 0)), 33, "", #[], none⟩,
  ⟨(some 7), (.call ⟨(.builtin .len), #[(.tmp 6)], #[33]⟩), 3, "", #[], none⟩,
  ⟨(some 8), (.binOp .lss 3 (.tmp 5) (.tmp 7) 3), 4, "", #[], none⟩,
  ⟨(some 9), (.move (.tmp 8)), 4, "", #[], none⟩,
  ⟨(some 10), (.move (.tmp 3)), 3, "", #[], (some (9, true))⟩,
  ⟨(some 11), (.binOp .leq 3 (.tmp 10) (.const (.int .i64 8388608)) 3), 4, "", #[], (some (9, true))⟩,
  ⟨(some 12), (.pick (.tmp 9) (.tmp 11) (.const (.bool false))), 4, "", #[], none⟩]
def F34.r5 : List Oper := [
  ⟨(some 15), (.move (.tmp 3)), 3, "", #[], none⟩,
  ⟨(some 16), (.binOp .add 3 (.tmp 15) (.const (.int .i64 16)) 3), 3, "", #[], none⟩,
  ⟨(some 17), (.move (.tmp 0)), 33, "", #[], none⟩,
  ⟨(some 18), (.move (.tmp 4)), 3, "", #[], none⟩,
  ⟨(some 19), (.indexAddr 33 (.tmp 17) (.tmp 18)), 0, "", #[], none⟩,
  ⟨(some 20), (.load 9 (.tmp 19)), 9, "", #[⟨0, .data⟩], none⟩,
  ⟨(some 21), (.call ⟨(.builtin .len), #[(.tmp 20)], #[9]⟩), 3, "", #[], none⟩,
  ⟨(some 22), (.binOp .add 3 (.tmp 16) (.tmp 21) 3), 3, "", #[], none⟩,
  ⟨(some 3), (.assign (.tmp 22)), 3, "", #[], none⟩]
def F34.r4 : List Oper := [
  ⟨(some 13), (.move (.tmp 4)), 3, "", #[], none⟩,
  ⟨(some 14), (.binOp .add 3 (.tmp 13) (.const (.int .i64 1)) 3), 3, "", #[], none⟩,
  ⟨(some 4), (.assign (.tmp 14)), 3, "", #[], none⟩]
def F34.r6 : List Oper := [
  ⟨(some 23), (.move (.tmp 3)), 3, "", #[], none⟩,
  ⟨(some 2), (.assign (.tmp 23)), 3, "", #[], none⟩]
def F34.t4 : Cd := (.region 4 F34.r4.toArray false)
theorem F34.t4_eq {P : Program} {Q : Post} {e : FA} {w : World} {θ : Tag (F34.t4, Q, e, w)} : cwE P F34.t4 Q e w θ = cwE P (.region 4 F34.r4.toArray false) Q e w := rfl
def F34.t5 : Cd := (.seq (.block 1 (.region 5 F34.r5.toArray false)) F34.t4)
theorem F34.t5_eq {P : Program} {Q : Post} {e : FA} {w : World} {θ : Tag (F34.t5, Q, e, w)} : cwE P F34.t5 Q e w θ = cwE P (.seq (.block 1 (.region 5 F34.r5.toArray false)) F34.t4) Q e w := rfl
def F34.t6 : Cd := (.seq (.region 6 F34.r6.toArray false) .ret)
theorem F34.t6_eq {P : Program} {Q : Post} {e : FA} {w : World} {θ : Tag (F34.t6, Q, e, w)} : cwE P F34.t6 Q e w θ = cwE P (.seq (.region 6 F34.r6.toArray false) .ret) Q e w := rfl
def F34.code : Cd := (.seq (.region 0 F34.r0.toArray false) (.seq (.region 1 F34.r1.toArray false) (.seq (.seq (.region 2 F34.r2.toArray false) (.block 0 (.loop (.seq (.seq (.region 3 F34.r3.toArray false) (.cond (.tmp 12) .skip (.exit 0))) F34.t5)))) F34.t6)))
theorem F34.calls {args : Array Value} {w : World} {R : Ending → World → Prop} (hn : args.size ≤ 24) (h : cwE Tryd.prog F34.code (fnP Tryd.prog #[(.tmp 2)] R) (entry args) w) : Calls Tryd.prog 34 args w R :=
  calls_of_cwE (types := Tryd.prog.types) follows Tryd.func34 F34.code rfl (by kernel_rfl) hn h

def F35.r0 : List Oper := [
  ⟨(some 2), (.alloc 25), 0, "", #[⟨0, .chain⟩], none⟩]
def F35.r1 : List Oper := [
  ⟨(some 3), (.makeFunc (.func 59) #[] #[(.tmp 2)]), 1, "", #[], none⟩,
  ⟨none, (.defer ⟨(.value (.tmp 3)), #[], #[]⟩), 0, "", #[⟨0, .chain⟩], none⟩]
def F35.r2 : List Oper := [
  ⟨(some 4), (.move (.tmp 0)), 1, "", #[], none⟩,
  ⟨(some 5), (.call ⟨(.value (.tmp 4)), #[], #[]⟩), 0, "", #[⟨0, .phase⟩], none⟩]
def F35.r3 : List Oper := [
  ⟨none, (.store 25 (.tmp 2) (.const (.int .i64 0))), 0, "", #[⟨0, .chain⟩], none⟩]
def F35.code : Cd := (.seq (.region 0 F35.r0.toArray false) (.seq (.region 1 F35.r1.toArray false) (.seq (.region 2 F35.r2.toArray false) (.seq (.region 3 F35.r3.toArray false) .ret))))
theorem F35.calls {args : Array Value} {w : World} {R : Ending → World → Prop} (hn : args.size ≤ 6) (h : cwE Tryd.prog F35.code (fnP Tryd.prog #[(.cell 2 25)] R) (entry args) w) : Calls Tryd.prog 35 args w R :=
  calls_of_cwE (types := Tryd.prog.types) follows Tryd.func35 F35.code rfl (by kernel_rfl) hn h

end Go.Proofs.YtkijkoakloacoaaDoor

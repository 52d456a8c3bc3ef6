/- The compiled code of the functions, by program (genir.py): each with the theorem that it is what the engine makes of the loaded program's. -/
import Derived.Test.YtijnmokpihhhcaaDoorZ1
import Derived.Test.YtijnmokpihhhcaaDoorZ2
import Derived.Test.YtijnmokpihhhcaaDoorZ3
import Derived.Test.YtijnmokpihhhcaaDoorZ4
import Derived.Test.YtijnmokpihhhcaaDoorZ5
import Derived.Test.YtijnmokpihhhcaaDoorZ6
import Derived.Test.YtijnmokpihhhcaaDoorZ7
import Derived.Test.YtijnmokpihhhcaaDoorZ8
import Derived.Test.YtijnmokpihhhcaaDoorProg
namespace Go.Proofs.YtijnmokpihhhcaaDoor
open Go
set_option maxRecDepth 100000
variable {P : Program} {Q : Post} {e : FA} {w : World} {args : Array Value} {R : Ending → World → Prop}

abbrev op (d : Nat) (o : Op) (T : TypeId) : Oper := ⟨some d, o, T, "", #[], none⟩
abbrev od (d : Nat) (o : Op) (T : TypeId) : Oper := ⟨some d, o, T, "", #[⟨0, .data⟩], none⟩
abbrev oc (d : Nat) (o : Op) (T : TypeId) : Oper := ⟨some d, o, T, "", #[⟨0, .chain⟩], none⟩
theorem follows : Tryd.prog.follows .mixedOrders = true := by kernel_rfl

theorem fact_aggSz_104 : aggSz Tryd.prog 104 = some none := by kernel_rfl
theorem fact_aggSz_121 : aggSz Tryd.prog 121 = some (some 2) := by kernel_rfl
theorem fact_aggSz_122 : aggSz Tryd.prog 122 = some none := by kernel_rfl
theorem fact_aggSz_123 : aggSz Tryd.prog 123 = some (some 256) := by kernel_rfl
theorem fact_aggSz_22 : aggSz Tryd.prog 22 = some none := by kernel_rfl
theorem fact_aggSz_24 : aggSz Tryd.prog 24 = some none := by kernel_rfl
theorem fact_aggSz_26 : aggSz Tryd.prog 26 = some none := by kernel_rfl
theorem fact_aggSz_29 : aggSz Tryd.prog 29 = some none := by kernel_rfl
theorem fact_aggSz_3 : aggSz Tryd.prog 3 = some none := by kernel_rfl
theorem fact_aggSz_30 : aggSz Tryd.prog 30 = some none := by kernel_rfl
theorem fact_aggSz_32 : aggSz Tryd.prog 32 = some (some 10) := by kernel_rfl
theorem fact_aggSz_34 : aggSz Tryd.prog 34 = some none := by kernel_rfl
theorem fact_aggSz_41 : aggSz Tryd.prog 41 = some (some 13) := by kernel_rfl
theorem fact_aggSz_5 : aggSz Tryd.prog 5 = some none := by kernel_rfl
theorem fact_aggSz_51 : aggSz Tryd.prog 51 = some none := by kernel_rfl
theorem fact_aggSz_53 : aggSz Tryd.prog 53 = some (some 20) := by kernel_rfl
theorem fact_aggSz_63 : aggSz Tryd.prog 63 = some none := by kernel_rfl
theorem fact_aggSz_69 : aggSz Tryd.prog 69 = some none := by kernel_rfl
theorem fact_aggSz_9 : aggSz Tryd.prog 9 = some none := by kernel_rfl
theorem fact_aggSz_90 : aggSz Tryd.prog 90 = some none := by kernel_rfl
theorem fact_aggSz_93 : aggSz Tryd.prog 93 = some none := by kernel_rfl
theorem fact_aggSz_94 : aggSz Tryd.prog 94 = some none := by kernel_rfl
theorem fact_arrEx_9 : arrEx Tryd.prog 9 = (0, none) := by kernel_rfl
theorem fact_bldP_101 : bldP Tryd.prog 101 = some ([.int .i32 0, .int .u32 0, .int .u32 0, .int .u32 0, .int .i32 0, .int .i32 0, .int .i64 0, .int .u64 0, .map none, .slice none 0 0, .map none], some [(0, 6), (6, 1), (7, 1), (8, 1), (9, 1), (10, 1)], 0) := by kernel_rfl
theorem fact_bldP_103 : bldP Tryd.prog 103 = some ([.int .u64 0, .int .u64 0, .string ⟨#[]⟩, .int .u32 0, .string ⟨#[]⟩, .string ⟨#[]⟩, .string ⟨#[]⟩, .int .u32 0, .int .u32 0, .int .u32 0, .int .u64 0, .int .i64 0, .int .i64 0, .slice none 0 0], some [(0, 13), (13, 1)], 0) := by kernel_rfl
theorem fact_bldP_106 : bldP Tryd.prog 106 = some ([.int .i64 0, .int .u64 0, .slice none 0 0], some [(0, 1), (1, 1), (2, 1)], 0) := by kernel_rfl
theorem fact_bldP_121 : bldP Tryd.prog 121 = some ([.int .u64 0, .string ⟨#[]⟩], some [(0, 1), (1, 1)], 0) := by kernel_rfl
theorem fact_bldP_32 : bldP Tryd.prog 32 = some ([.string ⟨#[]⟩, .string ⟨#[]⟩, .string ⟨#[]⟩, .int .u32 0, .int .u64 0, .int .u32 0, .int .i64 0, .int .i64 0, .int .i64 0, .int .i64 0], some [(0, 1), (1, 1), (2, 1), (3, 1), (4, 1), (5, 1), (6, 1), (7, 1), (8, 1), (9, 1)], 0) := by kernel_rfl
theorem fact_bldP_41 : bldP Tryd.prog 41 = some ([.int .u64 0, .int .u64 0, .string ⟨#[]⟩, .int .u32 0, .string ⟨#[]⟩, .string ⟨#[]⟩, .string ⟨#[]⟩, .int .u32 0, .int .u32 0, .int .u32 0, .int .u64 0, .int .i64 0, .int .i64 0], some [(0, 1), (1, 1), (2, 1), (3, 1), (4, 1), (5, 1), (6, 1), (7, 1), (8, 1), (9, 1), (10, 1), (11, 1), (12, 1)], 0) := by kernel_rfl
theorem fact_bldP_53 : bldP Tryd.prog 53 = some ([.int .u8 0, .int .u64 0, .string ⟨#[]⟩, .int .u8 0, .int .u64 0, .int .u64 0, .string ⟨#[]⟩, .int .u32 0, .string ⟨#[]⟩, .string ⟨#[]⟩, .string ⟨#[]⟩, .int .u32 0, .int .u32 0, .int .u32 0, .int .u64 0, .int .i64 0, .int .i64 0, .int .u64 0, .slice none 0 0, .int .i64 0], some [(0, 1), (1, 1), (2, 1), (3, 1), (4, 13), (17, 1), (18, 1), (19, 1)], 0) := by kernel_rfl
theorem fact_bldP_55 : bldP Tryd.prog 55 = some ([.slice none 0 0, .slice none 0 0], none, 1) := by kernel_rfl
theorem fact_bldP_56 : bldP Tryd.prog 56 = some ([.int .i64 0, .int .i64 0], none, 1) := by kernel_rfl
theorem fact_bldP_92 : bldP Tryd.prog 92 = some ([.int .i32 0, .int .u32 0, .int .u64 0, .int .u64 0, .string ⟨#[]⟩, .int .u32 0, .string ⟨#[]⟩, .string ⟨#[]⟩, .string ⟨#[]⟩, .int .u32 0, .int .u32 0, .int .u32 0, .int .u64 0, .int .i64 0, .int .i64 0, .slice none 0 0, .slice none 0 0], some [(0, 2), (2, 13), (15, 1), (16, 1)], 0) := by kernel_rfl
theorem fact_elemOf_104 : elemOf? Tryd.prog 104 = some (none, 14) := by kernel_rfl
theorem fact_elemOf_123 : elemOf? Tryd.prog 123 = some (some 256, 1) := by kernel_rfl
theorem fact_elemOf_23 : elemOf? Tryd.prog 23 = some (none, 1) := by kernel_rfl
theorem fact_elemOf_25 : elemOf? Tryd.prog 25 = some (none, 1) := by kernel_rfl
theorem fact_elemOf_27 : elemOf? Tryd.prog 27 = some (none, 1) := by kernel_rfl
theorem fact_elemOf_47 : elemOf? Tryd.prog 47 = some (none, 5) := by kernel_rfl
theorem fact_elemOf_51 : elemOf? Tryd.prog 51 = some (none, 1) := by kernel_rfl
theorem fact_elemOf_55 : elemOf? Tryd.prog 55 = some (some 2, 1) := by kernel_rfl
theorem fact_elemOf_56 : elemOf? Tryd.prog 56 = some (some 2, 1) := by kernel_rfl
theorem fact_elemOf_62 : elemOf? Tryd.prog 62 = some (none, 1) := by kernel_rfl
theorem fact_elemOf_63 : elemOf? Tryd.prog 63 = some (none, 1) := by kernel_rfl
theorem fact_elemOf_67 : elemOf? Tryd.prog 67 = some (none, 20) := by kernel_rfl
theorem fact_elemOf_69 : elemOf? Tryd.prog 69 = some (none, 13) := by kernel_rfl
theorem fact_elemOf_9 : elemOf? Tryd.prog 9 = none := by kernel_rfl
theorem fact_elemOf_90 : elemOf? Tryd.prog 90 = some (none, 1) := by kernel_rfl
theorem fact_fieldOff_101_0 : fieldOff Tryd.prog 101 0 = some 0 := by kernel_rfl
theorem fact_fieldOff_101_1 : fieldOff Tryd.prog 101 1 = some 6 := by kernel_rfl
theorem fact_fieldOff_101_2 : fieldOff Tryd.prog 101 2 = some 7 := by kernel_rfl
theorem fact_fieldOff_101_3 : fieldOff Tryd.prog 101 3 = some 8 := by kernel_rfl
theorem fact_fieldOff_101_4 : fieldOff Tryd.prog 101 4 = some 9 := by kernel_rfl
theorem fact_fieldOff_101_5 : fieldOff Tryd.prog 101 5 = some 10 := by kernel_rfl
theorem fact_fieldOff_103_0 : fieldOff Tryd.prog 103 0 = some 0 := by kernel_rfl
theorem fact_fieldOff_106_2 : fieldOff Tryd.prog 106 2 = some 2 := by kernel_rfl
theorem fact_fieldOff_121_0 : fieldOff Tryd.prog 121 0 = some 0 := by kernel_rfl
theorem fact_fieldOff_32_0 : fieldOff Tryd.prog 32 0 = some 0 := by kernel_rfl
theorem fact_fieldOff_32_1 : fieldOff Tryd.prog 32 1 = some 1 := by kernel_rfl
theorem fact_fieldOff_32_2 : fieldOff Tryd.prog 32 2 = some 2 := by kernel_rfl
theorem fact_fieldOff_32_3 : fieldOff Tryd.prog 32 3 = some 3 := by kernel_rfl
theorem fact_fieldOff_32_8 : fieldOff Tryd.prog 32 8 = some 8 := by kernel_rfl
theorem fact_fieldOff_41_0 : fieldOff Tryd.prog 41 0 = some 0 := by kernel_rfl
theorem fact_fieldOff_41_1 : fieldOff Tryd.prog 41 1 = some 1 := by kernel_rfl
theorem fact_fieldOff_41_10 : fieldOff Tryd.prog 41 10 = some 10 := by kernel_rfl
theorem fact_fieldOff_41_11 : fieldOff Tryd.prog 41 11 = some 11 := by kernel_rfl
theorem fact_fieldOff_41_12 : fieldOff Tryd.prog 41 12 = some 12 := by kernel_rfl
theorem fact_fieldOff_41_2 : fieldOff Tryd.prog 41 2 = some 2 := by kernel_rfl
theorem fact_fieldOff_41_3 : fieldOff Tryd.prog 41 3 = some 3 := by kernel_rfl
theorem fact_fieldOff_41_4 : fieldOff Tryd.prog 41 4 = some 4 := by kernel_rfl
theorem fact_fieldOff_41_5 : fieldOff Tryd.prog 41 5 = some 5 := by kernel_rfl
theorem fact_fieldOff_41_6 : fieldOff Tryd.prog 41 6 = some 6 := by kernel_rfl
theorem fact_fieldOff_41_7 : fieldOff Tryd.prog 41 7 = some 7 := by kernel_rfl
theorem fact_fieldOff_41_8 : fieldOff Tryd.prog 41 8 = some 8 := by kernel_rfl
theorem fact_fieldOff_41_9 : fieldOff Tryd.prog 41 9 = some 9 := by kernel_rfl
theorem fact_fieldOff_53_0 : fieldOff Tryd.prog 53 0 = some 0 := by kernel_rfl
theorem fact_fieldOff_53_1 : fieldOff Tryd.prog 53 1 = some 1 := by kernel_rfl
theorem fact_fieldOff_53_2 : fieldOff Tryd.prog 53 2 = some 2 := by kernel_rfl
theorem fact_fieldOff_53_3 : fieldOff Tryd.prog 53 3 = some 3 := by kernel_rfl
theorem fact_fieldOff_53_4 : fieldOff Tryd.prog 53 4 = some 4 := by kernel_rfl
theorem fact_fieldOff_53_5 : fieldOff Tryd.prog 53 5 = some 17 := by kernel_rfl
theorem fact_fieldOff_53_6 : fieldOff Tryd.prog 53 6 = some 18 := by kernel_rfl
theorem fact_fieldOff_53_7 : fieldOff Tryd.prog 53 7 = some 19 := by kernel_rfl
theorem fact_fieldOff_59_0 : fieldOff Tryd.prog 59 0 = some 0 := by kernel_rfl
theorem fact_fieldOff_59_1 : fieldOff Tryd.prog 59 1 = some 1 := by kernel_rfl
theorem fact_fieldOff_59_2 : fieldOff Tryd.prog 59 2 = some 2 := by kernel_rfl
theorem fact_fieldOff_59_3 : fieldOff Tryd.prog 59 3 = some 3 := by kernel_rfl
theorem fact_fieldOff_59_4 : fieldOff Tryd.prog 59 4 = some 4 := by kernel_rfl
theorem fact_fieldOff_92_0 : fieldOff Tryd.prog 92 0 = some 0 := by kernel_rfl
theorem fact_fieldOff_92_1 : fieldOff Tryd.prog 92 1 = some 2 := by kernel_rfl
theorem fact_fieldOff_92_2 : fieldOff Tryd.prog 92 2 = some 15 := by kernel_rfl
theorem fact_fieldOff_92_3 : fieldOff Tryd.prog 92 3 = some 16 := by kernel_rfl
theorem fact_flatE_41 : flatE Tryd.prog 41 = some [.int, .int, .str, .int, .str, .str, .str, .int, .int, .int, .int, .int, .int] := by kernel_rfl
theorem fact_fnOk_101 : fnOk Tryd.prog 101 = true := by kernel_rfl
theorem fact_fnOk_11 : fnOk Tryd.prog 11 = true := by kernel_rfl
theorem fact_fnOk_12 : fnOk Tryd.prog 12 = true := by kernel_rfl
theorem fact_fnOk_13 : fnOk Tryd.prog 13 = true := by kernel_rfl
theorem fact_fnOk_14 : fnOk Tryd.prog 14 = true := by kernel_rfl
theorem fact_fnOk_15 : fnOk Tryd.prog 15 = true := by kernel_rfl
theorem fact_fnOk_16 : fnOk Tryd.prog 16 = true := by kernel_rfl
theorem fact_fnOk_17 : fnOk Tryd.prog 17 = true := by kernel_rfl
theorem fact_fnOk_18 : fnOk Tryd.prog 18 = true := by kernel_rfl
theorem fact_fnOk_19 : fnOk Tryd.prog 19 = true := by kernel_rfl
theorem fact_fnOk_20 : fnOk Tryd.prog 20 = true := by kernel_rfl
theorem fact_fnOk_21 : fnOk Tryd.prog 21 = true := by kernel_rfl
theorem fact_fnOk_22 : fnOk Tryd.prog 22 = true := by kernel_rfl
theorem fact_fnOk_23 : fnOk Tryd.prog 23 = true := by kernel_rfl
theorem fact_fnOk_24 : fnOk Tryd.prog 24 = true := by kernel_rfl
theorem fact_fnOk_25 : fnOk Tryd.prog 25 = true := by kernel_rfl
theorem fact_fnOk_26 : fnOk Tryd.prog 26 = true := by kernel_rfl
theorem fact_fnOk_27 : fnOk Tryd.prog 27 = true := by kernel_rfl
theorem fact_fnOk_28 : fnOk Tryd.prog 28 = true := by kernel_rfl
theorem fact_fnOk_29 : fnOk Tryd.prog 29 = true := by kernel_rfl
theorem fact_fnOk_30 : fnOk Tryd.prog 30 = true := by kernel_rfl
theorem fact_fnOk_31 : fnOk Tryd.prog 31 = true := by kernel_rfl
theorem fact_fnOk_32 : fnOk Tryd.prog 32 = true := by kernel_rfl
theorem fact_fnOk_33 : fnOk Tryd.prog 33 = true := by kernel_rfl
theorem fact_fnOk_34 : fnOk Tryd.prog 34 = true := by kernel_rfl
theorem fact_fnOk_35 : fnOk Tryd.prog 35 = true := by kernel_rfl
theorem fact_fnOk_36 : fnOk Tryd.prog 36 = true := by kernel_rfl
theorem fact_fnOk_38 : fnOk Tryd.prog 38 = true := by kernel_rfl
theorem fact_fnOk_39 : fnOk Tryd.prog 39 = true := by kernel_rfl
theorem fact_fnOk_40 : fnOk Tryd.prog 40 = true := by kernel_rfl
theorem fact_fnOk_41 : fnOk Tryd.prog 41 = true := by kernel_rfl
theorem fact_fnOk_43 : fnOk Tryd.prog 43 = true := by kernel_rfl
theorem fact_fnOk_44 : fnOk Tryd.prog 44 = true := by kernel_rfl
theorem fact_fnOk_45 : fnOk Tryd.prog 45 = true := by kernel_rfl
theorem fact_fnOk_46 : fnOk Tryd.prog 46 = true := by kernel_rfl
theorem fact_fnOk_47 : fnOk Tryd.prog 47 = true := by kernel_rfl
theorem fact_fnOk_48 : fnOk Tryd.prog 48 = true := by kernel_rfl
theorem fact_fnOk_49 : fnOk Tryd.prog 49 = true := by kernel_rfl
theorem fact_fnOk_50 : fnOk Tryd.prog 50 = true := by kernel_rfl
theorem fact_fnOk_51 : fnOk Tryd.prog 51 = true := by kernel_rfl
theorem fact_fnOk_52 : fnOk Tryd.prog 52 = true := by kernel_rfl
theorem fact_fnOk_54 : fnOk Tryd.prog 54 = true := by kernel_rfl
theorem fact_fnOk_55 : fnOk Tryd.prog 55 = true := by kernel_rfl
theorem fact_fnOk_56 : fnOk Tryd.prog 56 = true := by kernel_rfl
theorem fact_fnOk_65 : fnOk Tryd.prog 65 = true := by kernel_rfl
theorem fact_fnOk_66 : fnOk Tryd.prog 66 = true := by kernel_rfl
theorem fact_fnOk_67 : fnOk Tryd.prog 67 = true := by kernel_rfl
theorem fact_fnOk_70 : fnOk Tryd.prog 70 = true := by kernel_rfl
theorem fact_fnOk_71 : fnOk Tryd.prog 71 = true := by kernel_rfl
theorem fact_fnOk_72 : fnOk Tryd.prog 72 = true := by kernel_rfl
theorem fact_fnOk_73 : fnOk Tryd.prog 73 = true := by kernel_rfl
theorem fact_fnOk_78 : fnOk Tryd.prog 78 = true := by kernel_rfl
theorem fact_fnOk_79 : fnOk Tryd.prog 79 = true := by kernel_rfl
theorem fact_fnOk_81 : fnOk Tryd.prog 81 = true := by kernel_rfl
theorem fact_fnOk_82 : fnOk Tryd.prog 82 = true := by kernel_rfl
theorem fact_fnOk_86 : fnOk Tryd.prog 86 = true := by kernel_rfl
theorem fact_fnOk_87 : fnOk Tryd.prog 87 = true := by kernel_rfl
theorem fact_fnOk_88 : fnOk Tryd.prog 88 = true := by kernel_rfl
theorem fact_fnOk_89 : fnOk Tryd.prog 89 = true := by kernel_rfl
theorem fact_fnOk_90 : fnOk Tryd.prog 90 = true := by kernel_rfl
theorem fact_fnOk_91 : fnOk Tryd.prog 91 = true := by kernel_rfl
theorem fact_fnOk_99 : fnOk Tryd.prog 99 = true := by kernel_rfl
theorem fact_rowTy_104 : rowTy Tryd.prog 104 = some (103, 14, 152, [.int .u64 0, .int .u64 0, .string ⟨#[]⟩, .int .u32 0, .string ⟨#[]⟩, .string ⟨#[]⟩, .string ⟨#[]⟩, .int .u32 0, .int .u32 0, .int .u32 0, .int .u64 0, .int .i64 0, .int .i64 0, .slice none 0 0]) := by kernel_rfl
theorem fact_rowTy_23 : rowTy Tryd.prog 23 = some (22, 1, 1, [.int .u8 0]) := by kernel_rfl
theorem fact_rowTy_25 : rowTy Tryd.prog 25 = some (24, 1, 1, [.int .u8 0]) := by kernel_rfl
theorem fact_rowTy_27 : rowTy Tryd.prog 27 = some (26, 1, 8, [.int .i64 0]) := by kernel_rfl
theorem fact_rowTy_51 : rowTy Tryd.prog 51 = some (5, 1, 1, [.int .u8 0]) := by kernel_rfl
theorem fact_rowTy_62 : rowTy Tryd.prog 62 = some (3, 1, 8, [.int .i64 0]) := by kernel_rfl
theorem fact_rowTy_63 : rowTy Tryd.prog 63 = some (30, 1, 8, [.int .u64 0]) := by kernel_rfl
theorem fact_rowTy_69 : rowTy Tryd.prog 69 = some (41, 13, 128, [.int .u64 0, .int .u64 0, .string ⟨#[]⟩, .int .u32 0, .string ⟨#[]⟩, .string ⟨#[]⟩, .string ⟨#[]⟩, .int .u32 0, .int .u32 0, .int .u32 0, .int .u64 0, .int .i64 0, .int .i64 0]) := by kernel_rfl
theorem fact_rowTy_90 : rowTy Tryd.prog 90 = some (122, 1, 8, [.pointer none]) := by kernel_rfl
theorem fact_szO_121 : szO Tryd.prog 121 = some 2 := by kernel_rfl
theorem fact_szO_122 : szO Tryd.prog 122 = some 1 := by kernel_rfl
theorem fact_szO_123 : szO Tryd.prog 123 = some 256 := by kernel_rfl
theorem fact_szO_29 : szO Tryd.prog 29 = some 1 := by kernel_rfl
theorem fact_szO_3 : szO Tryd.prog 3 = some 1 := by kernel_rfl
theorem fact_szO_30 : szO Tryd.prog 30 = some 1 := by kernel_rfl
theorem fact_szO_41 : szO Tryd.prog 41 = some 13 := by kernel_rfl
theorem fact_szO_5 : szO Tryd.prog 5 = some 1 := by kernel_rfl
theorem fact_szO_53 : szO Tryd.prog 53 = some 20 := by kernel_rfl
theorem fact_szO_55 : szO Tryd.prog 55 = some 2 := by kernel_rfl
theorem fact_szO_56 : szO Tryd.prog 56 = some 2 := by kernel_rfl
theorem fact_szO_63 : szO Tryd.prog 63 = some 1 := by kernel_rfl
theorem fact_szO_69 : szO Tryd.prog 69 = some 1 := by kernel_rfl
theorem fact_szO_9 : szO Tryd.prog 9 = some 1 := by kernel_rfl
theorem fact_szO_90 : szO Tryd.prog 90 = some 1 := by kernel_rfl
theorem fact_zeroV_121 : zeroV Tryd.prog 121 = some (.agg #[.int .u64 0, .string ⟨#[]⟩]) := by kernel_rfl
theorem fact_zeroV_123 : zeroV Tryd.prog 123 = some (.agg #[.int .u8 0, .int .u8 0, .int .u8 0, .int .u8 0, .int .u8 0, .int .u8 0, .int .u8 0, .int .u8 0, .int .u8 0, .int .u8 0, .int .u8 0, .int .u8 0, .int .u8 0, .int .u8 0, .int .u8 0, .int .u8 0, .int .u8 0, .int .u8 0, .int .u8 0, .int .u8 0, .int .u8 0, .int .u8 0, .int .u8 0, .int .u8 0, .int .u8 0, .int .u8 0, .int .u8 0, .int .u8 0, .int .u8 0, .int .u8 0, .int .u8 0, .int .u8 0, .int .u8 0, .int .u8 0, .int .u8 0, .int .u8 0, .int .u8 0, .int .u8 0, .int .u8 0, .int .u8 0, .int .u8 0, .int .u8 0, .int .u8 0, .int .u8 0, .int .u8 0, .int .u8 0, .int .u8 0, .int .u8 0, .int .u8 0, .int .u8 0, .int .u8 0, .int .u8 0, .int .u8 0, .int .u8 0, .int .u8 0, .int .u8 0, .int .u8 0, .int .u8 0, .int .u8 0, .int .u8 0, .int .u8 0, .int .u8 0, .int .u8 0, .int .u8 0, .int .u8 0, .int .u8 0, .int .u8 0, .int .u8 0, .int .u8 0, .int .u8 0, .int .u8 0, .int .u8 0, .int .u8 0, .int .u8 0, .int .u8 0, .int .u8 0, .int .u8 0, .int .u8 0, .int .u8 0, .int .u8 0, .int .u8 0, .int .u8 0, .int .u8 0, .int .u8 0, .int .u8 0, .int .u8 0, .int .u8 0, .int .u8 0, .int .u8 0, .int .u8 0, .int .u8 0, .int .u8 0, .int .u8 0, .int .u8 0, .int .u8 0, .int .u8 0, .int .u8 0, .int .u8 0, .int .u8 0, .int .u8 0, .int .u8 0, .int .u8 0, .int .u8 0, .int .u8 0, .int .u8 0, .int .u8 0, .int .u8 0, .int .u8 0, .int .u8 0, .int .u8 0, .int .u8 0, .int .u8 0, .int .u8 0, .int .u8 0, .int .u8 0, .int .u8 0, .int .u8 0, .int .u8 0, .int .u8 0, .int .u8 0, .int .u8 0, .int .u8 0, .int .u8 0, .int .u8 0, .int .u8 0, .int .u8 0, .int .u8 0, .int .u8 0, .int .u8 0, .int .u8 0, .int .u8 0, .int .u8 0, .int .u8 0, .int .u8 0, .int .u8 0, .int .u8 0, .int .u8 0, .int .u8 0, .int .u8 0, .int .u8 0, .int .u8 0, .int .u8 0, .int .u8 0, .int .u8 0, .int .u8 0, .int .u8 0, .int .u8 0, .int .u8 0, .int .u8 0, .int .u8 0, .int .u8 0, .int .u8 0, .int .u8 0, .int .u8 0, .int .u8 0, .int .u8 0, .int .u8 0, .int .u8 0, .int .u8 0, .int .u8 0, .int .u8 0, .int .u8 0, .int .u8 0, .int .u8 0, .int .u8 0, .int .u8 0, .int .u8 0, .int .u8 0, .int .u8 0, .int .u8 0, .int .u8 0, .int .u8 0, .int .u8 0, .int .u8 0, .int .u8 0, .int .u8 0, .int .u8 0, .int .u8 0, .int .u8 0, .int .u8 0, .int .u8 0, .int .u8 0, .int .u8 0, .int .u8 0, .int .u8 0, .int .u8 0, .int .u8 0, .int .u8 0, .int .u8 0, .int .u8 0, .int .u8 0, .int .u8 0, .int .u8 0, .int .u8 0, .int .u8 0, .int .u8 0, .int .u8 0, .int .u8 0, .int .u8 0, .int .u8 0, .int .u8 0, .int .u8 0, .int .u8 0, .int .u8 0, .int .u8 0, .int .u8 0, .int .u8 0, .int .u8 0, .int .u8 0, .int .u8 0, .int .u8 0, .int .u8 0, .int .u8 0, .int .u8 0, .int .u8 0, .int .u8 0, .int .u8 0, .int .u8 0, .int .u8 0, .int .u8 0, .int .u8 0, .int .u8 0, .int .u8 0, .int .u8 0, .int .u8 0, .int .u8 0, .int .u8 0, .int .u8 0, .int .u8 0, .int .u8 0, .int .u8 0, .int .u8 0, .int .u8 0, .int .u8 0, .int .u8 0, .int .u8 0, .int .u8 0, .int .u8 0, .int .u8 0, .int .u8 0, .int .u8 0, .int .u8 0, .int .u8 0, .int .u8 0, .int .u8 0, .int .u8 0, .int .u8 0, .int .u8 0, .int .u8 0, .int .u8 0, .int .u8 0, .int .u8 0, .int .u8 0, .int .u8 0, .int .u8 0, .int .u8 0]) := by kernel_rfl
theorem fact_zeroV_41 : zeroV Tryd.prog 41 = some (.agg #[.int .u64 0, .int .u64 0, .string ⟨#[]⟩, .int .u32 0, .string ⟨#[]⟩, .string ⟨#[]⟩, .string ⟨#[]⟩, .int .u32 0, .int .u32 0, .int .u32 0, .int .u64 0, .int .i64 0, .int .i64 0]) := by kernel_rfl
theorem fact_zeroV_53 : zeroV Tryd.prog 53 = some (.agg #[.int .u8 0, .int .u64 0, .string ⟨#[]⟩, .int .u8 0, .int .u64 0, .int .u64 0, .string ⟨#[]⟩, .int .u32 0, .string ⟨#[]⟩, .string ⟨#[]⟩, .string ⟨#[]⟩, .int .u32 0, .int .u32 0, .int .u32 0, .int .u64 0, .int .i64 0, .int .i64 0, .int .u64 0, .slice none 0 0, .int .i64 0]) := by kernel_rfl
theorem fact_zeroV_55 : zeroV Tryd.prog 55 = some (.agg #[.slice none 0 0, .slice none 0 0]) := by kernel_rfl
theorem fact_zeroV_56 : zeroV Tryd.prog 56 = some (.agg #[.int .i64 0, .int .i64 0]) := by kernel_rfl
theorem fact_zeroV_69 : zeroV Tryd.prog 69 = some (.slice none 0 0) := by kernel_rfl

def F3.r0 : List Oper := [
  op 0 (.assign (.const (.bool false))) 4]
def F3.r1 : List Oper := [
  oc 7 (.buildSlice 23 7 #[(0, (.const (.int .u8 1))), (1, (.const (.int .u8 2))), (2, (.const (.int .u8 3))), (3, (.const (.int .u8 4))), (4, (.const (.int .u8 5))), (5, (.const (.int .u8 6))), (6, (.const (.int .u8 7)))]) 23,
  op 1 (.assign (.tmp 7)) 23]
def F3.r2 : List Oper := [
  oc 8 (.buildSlice 25 7 #[(0, (.const (.int .u8 1))), (1, (.const (.int .u8 2))), (2, (.const (.int .u8 4))), (3, (.const (.int .u8 8))), (4, (.const (.int .u8 16))), (5, (.const (.int .u8 32))), (6, (.const (.int .u8 64)))]) 25,
  op 2 (.assign (.tmp 8)) 25]
def F3.r3 : List Oper := [
  oc 9 (.buildSlice 27 8 #[(0, (.const (.int .i64 80))), (1, (.const (.int .i64 81))), (2, (.const (.int .i64 82))), (3, (.const (.int .i64 83))), (4, (.const (.int .i64 84))), (5, (.const (.int .i64 85))), (6, (.const (.int .i64 86))), (7, (.const (.int .i64 87)))]) 27,
  op 3 (.assign (.tmp 9)) 27]
def F3.r4 : List Oper := [
  op 4 (.assign (.const (.int .i64 0))) 3]
def F3.r5 : List Oper := [
  op 10 (.move (.tmp 4)) 3,
  op 11 (.binOp .lss 3 (.tmp 10) (.const (.int .i64 7)) 3) 4]
def F3.r7 : List Oper := [
  ⟨(some 14), (.move (.tmp 1)), 23, "", #[], none⟩,
  ⟨(some 15), (.move (.tmp 4)), 3, "", #[], none⟩,
  ⟨(some 16), (.indexAddr 23 (.tmp 14) (.tmp 15)), 0, "", #[], none⟩,
  ⟨(some 19), (.move (.tmp 4)), 3, "", #[], none⟩,
  ⟨(some 20), (.binOp .add 3 (.tmp 19) (.const (.int .i64 1)) 3), 3, "", #[], none⟩,
  ⟨(some 17), (.load 22 (.tmp 16)), 22, "", #[⟨0, .data⟩], none⟩,
  ⟨(some 18), (.convert 22 3 (.tmp 17)), 3, "", #[], none⟩,
  ⟨(some 21), (.binOp .neq 3 (.tmp 18) (.tmp 20) 3), 4, "", #[], none⟩,
  ⟨(some 22), (.move (.tmp 21)), 4, "", #[], none⟩,
  ⟨(some 23), (.move (.tmp 2)), 25, "", #[], (some (22, false))⟩,
  ⟨(some 24), (.move (.tmp 4)), 3, "", #[], (some (22, false))⟩,
  ⟨(some 25), (.indexAddr 25 (.tmp 23) (.tmp 24)), 0, "", #[], (some (22, false))⟩,
  ⟨(some 28), (.move (.tmp 4)), 3, "", #[], (some (22, false))⟩,
  ⟨(some 29), (.binOp .shl 3 (.const (.int .i64 1)) (.tmp 28) 3), 3, "", #[], (some (22, false))⟩,
  ⟨(some 26), (.load 24 (.tmp 25)), 24, "", #[⟨0, .data⟩], (some (22, false))⟩,
  ⟨(some 27), (.convert 24 3 (.tmp 26)), 3, "", #[], (some (22, false))⟩,
  ⟨(some 30), (.binOp .neq 3 (.tmp 27) (.tmp 29) 3), 4, "", #[], (some (22, false))⟩,
  ⟨(some 31), (.pick (.tmp 22) (.const (.bool true)) (.tmp 30)), 4, "", #[], none⟩]
def F3.r8 : List Oper := [
  op 0 (.assign (.const (.bool false))) 4]
def F3.r6 : List Oper := [
  op 12 (.move (.tmp 4)) 3,
  op 13 (.binOp .add 3 (.tmp 12) (.const (.int .i64 1)) 3) 3,
  op 4 (.assign (.tmp 13)) 3]
def F3.r9 : List Oper := [
  op 5 (.assign (.const (.int .i64 0))) 3]
def F3.r10 : List Oper := [
  op 32 (.move (.tmp 5)) 3,
  op 33 (.binOp .lss 3 (.tmp 32) (.const (.int .i64 8)) 3) 4]
def F3.r12 : List Oper := [
  op 36 (.move (.tmp 3)) 27,
  op 37 (.move (.tmp 5)) 3,
  op 38 (.indexAddr 27 (.tmp 36) (.tmp 37)) 0,
  od 39 (.load 26 (.tmp 38)) 26,
  op 40 (.move (.tmp 5)) 3,
  op 41 (.binOp .add 3 (.const (.int .i64 80)) (.tmp 40) 3) 3,
  op 42 (.binOp .neq 3 (.tmp 39) (.tmp 41) 3) 4]
def F3.r13 : List Oper := [
  op 0 (.assign (.const (.bool false))) 4]
def F3.r11 : List Oper := [
  op 34 (.move (.tmp 5)) 3,
  op 35 (.binOp .add 3 (.tmp 34) (.const (.int .i64 1)) 3) 3,
  op 5 (.assign (.tmp 35)) 3]
def F3.r14 : List Oper := [
  oc 43 (.call ⟨(.value (.func 11)), #[], #[]⟩) 4,
  op 6 (.assign (.tmp 43)) 4]
def F3.r15 : List Oper := [
  op 44 (.move (.tmp 6)) 4,
  op 45 (.move (.tmp 44)) 4,
  op 46 (.pick (.tmp 45) (.const (.bool true)) (.const (.bool false))) 4,
  op 47 (.move (.tmp 46)) 4,
  op 48 (.pick (.tmp 47) (.const (.bool true)) (.const (.bool false))) 4,
  op 49 (.move (.tmp 48)) 4,
  op 50 (.pick (.tmp 49) (.const (.bool true)) (.const (.bool false))) 4,
  op 51 (.move (.tmp 50)) 4,
  op 52 (.pick (.tmp 51) (.const (.bool true)) (.const (.bool false))) 4,
  op 53 (.move (.tmp 52)) 4,
  op 54 (.pick (.tmp 53) (.const (.bool true)) (.const (.bool false))) 4,
  op 55 (.move (.tmp 54)) 4,
  op 56 (.pick (.tmp 55) (.const (.bool true)) (.const (.bool false))) 4,
  op 57 (.move (.tmp 56)) 4,
  op 58 (.pick (.tmp 57) (.const (.bool true)) (.const (.bool false))) 4,
  op 59 (.move (.tmp 58)) 4,
  op 60 (.pick (.tmp 59) (.const (.bool true)) (.const (.bool false))) 4,
  op 61 (.move (.tmp 60)) 4,
  op 62 (.pick (.tmp 61) (.const (.bool true)) (.const (.bool false))) 4,
  op 63 (.move (.tmp 62)) 4,
  op 64 (.pick (.tmp 63) (.const (.bool true)) (.const (.bool false))) 4,
  op 65 (.move (.tmp 64)) 4,
  op 66 (.pick (.tmp 65) (.const (.bool true)) (.const (.bool false))) 4,
  op 67 (.move (.tmp 66)) 4,
  op 68 (.pick (.tmp 67) (.const (.bool true)) (.const (.bool false))) 4,
  op 0 (.assign (.tmp 68)) 4]
def F3.t6 : Cd := (.region 6 F3.r6.toArray false)
theorem F3.t6_eq {θ : Tag (F3.t6, Q, e, w)} : cwE P F3.t6 Q e w θ = cwE P (.region 6 F3.r6.toArray false) Q e w := rfl
def F3.t7 : Cd := (.seq (.block 1 (.seq (.region 7 F3.r7.toArray true) (.cond (.tmp 31) (.seq (.region 8 F3.r8.toArray false) .ret) .skip))) F3.t6)
theorem F3.t7_eq {θ : Tag (F3.t7, Q, e, w)} : cwE P F3.t7 Q e w θ = cwE P (.seq (.block 1 (.seq (.region 7 F3.r7.toArray true) (.cond (.tmp 31) (.seq (.region 8 F3.r8.toArray false) .ret) .skip))) F3.t6) Q e w := rfl
def F3.t11 : Cd := (.region 11 F3.r11.toArray false)
theorem F3.t11_eq {θ : Tag (F3.t11, Q, e, w)} : cwE P F3.t11 Q e w θ = cwE P (.region 11 F3.r11.toArray false) Q e w := rfl
def F3.t12 : Cd := (.seq (.block 3 (.seq (.region 12 F3.r12.toArray false) (.cond (.tmp 42) (.seq (.region 13 F3.r13.toArray false) .ret) .skip))) F3.t11)
theorem F3.t12_eq {θ : Tag (F3.t12, Q, e, w)} : cwE P F3.t12 Q e w θ = cwE P (.seq (.block 3 (.seq (.region 12 F3.r12.toArray false) (.cond (.tmp 42) (.seq (.region 13 F3.r13.toArray false) .ret) .skip))) F3.t11) Q e w := rfl
def F3.t14 : Cd := (.seq (.region 14 F3.r14.toArray false) (.seq (.region 15 F3.r15.toArray false) .ret))
theorem F3.t14_eq {θ : Tag (F3.t14, Q, e, w)} : cwE P F3.t14 Q e w θ = cwE P (.seq (.region 14 F3.r14.toArray false) (.seq (.region 15 F3.r15.toArray false) .ret)) Q e w := rfl
def F3.t9 : Cd := (.seq (.seq (.region 9 F3.r9.toArray false) (.block 2 (.loop (.seq (.seq (.region 10 F3.r10.toArray false) (.cond (.tmp 33) .skip (.exit 2))) F3.t12)))) F3.t14)
theorem F3.t9_eq {θ : Tag (F3.t9, Q, e, w)} : cwE P F3.t9 Q e w θ = cwE P (.seq (.seq (.region 9 F3.r9.toArray false) (.block 2 (.loop (.seq (.seq (.region 10 F3.r10.toArray false) (.cond (.tmp 33) .skip (.exit 2))) F3.t12)))) F3.t14) Q e w := rfl
def F3.code : Cd := (.seq (.region 0 F3.r0.toArray false) (.seq (.region 1 F3.r1.toArray false) (.seq (.region 2 F3.r2.toArray false) (.seq (.region 3 F3.r3.toArray false) (.seq (.seq (.region 4 F3.r4.toArray false) (.block 0 (.loop (.seq (.seq (.region 5 F3.r5.toArray false) (.cond (.tmp 11) .skip (.exit 0))) F3.t7)))) F3.t9)))))
theorem F3.calls (hn : args.size ≤ 69) (h : cwE Tryd.prog F3.code (fnP Tryd.prog #[(.tmp 0)] R) (entry args) w) : Calls Tryd.prog 3 args w R :=
  calls_of_cwE (types := Tryd.prog.types) follows Tryd.func3 F3.code rfl (by kernel_rfl) hn h

def F4.r0 : List Oper := [
  oc 1 (.box 32 (.tmp 0)) 0,
  op 2 (.assign (.const (.bool false))) 4]
def F4.r1 : List Oper := [
  oc 14 (.call ⟨(.value (.func 11)), #[], #[]⟩) 4,
  op 3 (.assign (.tmp 14)) 4]
def F4.r2 : List Oper := [
  od 15 (.load 32 (.tmp 1)) 32,
  oc 16 (.call ⟨(.value (.func 12)), #[(.tmp 15)], #[32]⟩) 3,
  op 17 (.binOp .gtr 3 (.tmp 16) (.const (.int .i64 8388608)) 3) 4]
def F4.r3 : List Oper := [
  op 18 (.move (.tmp 3)) 4,
  op 2 (.assign (.tmp 18)) 4]
def F4.r4 : List Oper := [
  od 20 (.load 32 (.tmp 1)) 32,
  oc 21 (.call ⟨(.value (.func 13)), #[(.tmp 20)], #[32]⟩) 35,
  op 19 (.move (.tmp 21)) 35,
  op 22 (.extract (.tmp 19) 0) 34,
  op 23 (.extract (.tmp 19) 1) 26,
  op 4 (.assign (.tmp 22)) 34,
  op 5 (.assign (.tmp 23)) 26]
def F4.r5 : List Oper := [
  od 25 (.load 32 (.tmp 1)) 32,
  oc 26 (.call ⟨(.value (.func 14)), #[(.tmp 25)], #[32]⟩) 38,
  op 24 (.move (.tmp 26)) 38,
  op 27 (.extract (.tmp 24) 0) 37,
  op 28 (.extract (.tmp 24) 1) 26,
  op 6 (.assign (.tmp 27)) 37,
  op 7 (.assign (.tmp 28)) 26]
def F4.r6 : List Oper := [
  op 29 (.move (.tmp 5)) 26,
  op 30 (.move (.tmp 7)) 26,
  op 31 (.binOp .neq 26 (.tmp 29) (.tmp 30) 26) 4,
  op 32 (.move (.tmp 31)) 4,
  ⟨(some 33), (.move (.tmp 4)), 34, "", #[], (some (32, false))⟩,
  ⟨(some 34), (.binOp .eql 34 (.tmp 33) (.const (.pointer none)) 34), 4, "", #[], (some (32, false))⟩,
  ⟨(some 35), (.move (.tmp 5)), 26, "", #[], (some (32, false))⟩,
  ⟨(some 36), (.binOp .neq 26 (.tmp 35) (.const (.int .i64 0)) 26), 4, "", #[], (some (32, false))⟩,
  ⟨(some 37), (.binOp .neq 4 (.tmp 34) (.tmp 36) 4), 4, "", #[], (some (32, false))⟩,
  op 38 (.pick (.tmp 32) (.const (.bool true)) (.tmp 37)) 4]
def F4.r7 : List Oper := [
  op 2 (.assign (.const (.bool false))) 4]
def F4.r8 : List Oper := [
  op 39 (.move (.tmp 4)) 34,
  op 40 (.binOp .eql 34 (.tmp 39) (.const (.pointer none)) 34) 4]
def F4.r9 : List Oper := [
  op 41 (.move (.tmp 3)) 4,
  op 2 (.assign (.tmp 41)) 4]
def F4.r10 : List Oper := [
  op 43 (.move (.tmp 4)) 34,
  oc 44 (.call ⟨(.value (.func 15)), #[(.tmp 43), (.const (.int .u64 1))], #[34, 30]⟩) 42,
  op 42 (.move (.tmp 44)) 42,
  op 45 (.extract (.tmp 42) 0) 41,
  op 46 (.extract (.tmp 42) 1) 4,
  oc 8 (.alloc 41) 0,
  ⟨none, (.store 41 (.tmp 8) (.tmp 45)), 0, "", #[⟨0, .chain⟩], none⟩,
  op 9 (.assign (.tmp 46)) 4]
def F4.r11 : List Oper := [
  op 48 (.move (.tmp 6)) 37,
  oc 49 (.call ⟨(.value (.func 16)), #[(.tmp 48), (.const (.int .u64 1))], #[37, 30]⟩) 42,
  op 47 (.move (.tmp 49)) 42,
  op 50 (.extract (.tmp 47) 0) 41,
  op 51 (.extract (.tmp 47) 1) 4,
  oc 10 (.alloc 41) 0,
  ⟨none, (.store 41 (.tmp 10) (.tmp 50)), 0, "", #[⟨0, .chain⟩], none⟩,
  op 11 (.assign (.tmp 51)) 4]
def F4.r12 : List Oper := [
  op 52 (.move (.tmp 4)) 34,
  oc 53 (.call ⟨(.value (.func 17)), #[(.tmp 52)], #[34]⟩) 30,
  op 12 (.assign (.tmp 53)) 30]
def F4.r13 : List Oper := [
  op 54 (.move (.tmp 4)) 34,
  oc 55 (.call ⟨(.value (.func 18)), #[(.tmp 54)], #[34]⟩) 3,
  op 13 (.assign (.tmp 55)) 3]
def F4.r14 : List Oper := [
  op 56 (.move (.tmp 3)) 4,
  op 57 (.move (.tmp 56)) 4,
  ⟨(some 58), (.load 41 (.tmp 8)), 41, "", #[⟨0, .data⟩], (some (57, true))⟩,
  ⟨(some 59), (.load 41 (.tmp 10)), 41, "", #[⟨0, .data⟩], (some (57, true))⟩,
  ⟨(some 60), (.binOp .eql 41 (.tmp 58) (.tmp 59) 41), 4, "", #[], (some (57, true))⟩,
  op 61 (.pick (.tmp 57) (.tmp 60) (.const (.bool false))) 4,
  op 62 (.move (.tmp 61)) 4,
  ⟨(some 63), (.move (.tmp 9)), 4, "", #[], (some (62, true))⟩,
  op 64 (.pick (.tmp 62) (.tmp 63) (.const (.bool false))) 4,
  op 65 (.move (.tmp 64)) 4,
  ⟨(some 66), (.move (.tmp 11)), 4, "", #[], (some (65, true))⟩,
  op 67 (.pick (.tmp 65) (.tmp 66) (.const (.bool false))) 4,
  op 68 (.move (.tmp 67)) 4,
  ⟨(some 69), (.move (.tmp 12)), 30, "", #[], (some (68, true))⟩,
  ⟨(some 70), (.binOp .eql 30 (.tmp 69) (.const (.int .u64 2)) 30), 4, "", #[], (some (68, true))⟩,
  op 71 (.pick (.tmp 68) (.tmp 70) (.const (.bool false))) 4,
  op 72 (.move (.tmp 71)) 4,
  ⟨(some 73), (.move (.tmp 13)), 3, "", #[], (some (72, true))⟩,
  ⟨(some 74), (.binOp .eql 3 (.tmp 73) (.const (.int .i64 1)) 3), 4, "", #[], (some (72, true))⟩,
  op 75 (.pick (.tmp 72) (.tmp 74) (.const (.bool false))) 4,
  op 2 (.assign (.tmp 75)) 4]
def F4.t10 : Cd := (.seq (.region 10 F4.r10.toArray false) (.seq (.region 11 F4.r11.toArray false) (.seq (.region 12 F4.r12.toArray false) (.seq (.region 13 F4.r13.toArray false) (.seq (.region 14 F4.r14.toArray false) .ret)))))
theorem F4.t10_eq {θ : Tag (F4.t10, Q, e, w)} : cwE P F4.t10 Q e w θ = cwE P (.seq (.region 10 F4.r10.toArray false) (.seq (.region 11 F4.r11.toArray false) (.seq (.region 12 F4.r12.toArray false) (.seq (.region 13 F4.r13.toArray false) (.seq (.region 14 F4.r14.toArray false) .ret))))) Q e w := rfl
def F4.t8 : Cd := (.seq (.seq (.region 8 F4.r8.toArray false) (.cond (.tmp 40) (.seq (.region 9 F4.r9.toArray false) .ret) .skip)) F4.t10)
theorem F4.t8_eq {θ : Tag (F4.t8, Q, e, w)} : cwE P F4.t8 Q e w θ = cwE P (.seq (.seq (.region 8 F4.r8.toArray false) (.cond (.tmp 40) (.seq (.region 9 F4.r9.toArray false) .ret) .skip)) F4.t10) Q e w := rfl
def F4.t4 : Cd := (.seq (.region 4 F4.r4.toArray false) (.seq (.region 5 F4.r5.toArray false) (.seq (.seq (.region 6 F4.r6.toArray false) (.cond (.tmp 38) (.seq (.region 7 F4.r7.toArray false) .ret) .skip)) F4.t8)))
theorem F4.t4_eq {θ : Tag (F4.t4, Q, e, w)} : cwE P F4.t4 Q e w θ = cwE P (.seq (.region 4 F4.r4.toArray false) (.seq (.region 5 F4.r5.toArray false) (.seq (.seq (.region 6 F4.r6.toArray false) (.cond (.tmp 38) (.seq (.region 7 F4.r7.toArray false) .ret) .skip)) F4.t8))) Q e w := rfl
def F4.code : Cd := (.seq (.region 0 F4.r0.toArray false) (.seq (.region 1 F4.r1.toArray false) (.seq (.seq (.region 2 F4.r2.toArray false) (.cond (.tmp 17) (.seq (.region 3 F4.r3.toArray false) .ret) .skip)) F4.t4)))
theorem F4.calls (hn : args.size ≤ 76) (h : cwE Tryd.prog F4.code (fnP Tryd.prog #[(.tmp 2)] R) (entry args) w) : Calls Tryd.prog 4 args w R :=
  calls_of_cwE (types := Tryd.prog.types) follows Tryd.func4 F4.code rfl (by kernel_rfl) hn h

def F5.r0 : List Oper := [
  op 2 (.assign (.const (.bool false))) 4]
def F5.r1 : List Oper := [
  oc 29 (.call ⟨(.value (.func 11)), #[], #[]⟩) 4,
  op 3 (.assign (.tmp 29)) 4]
def F5.r2 : List Oper := [
  op 30 (.move (.tmp 0)) 47,
  op 31 (.call ⟨(.builtin .len), #[(.tmp 30)], #[47]⟩) 3,
  op 32 (.binOp .gtr 3 (.tmp 31) (.const (.int .i64 8388608)) 3) 4]
def F5.r3 : List Oper := [
  op 33 (.move (.tmp 3)) 4,
  op 2 (.assign (.tmp 33)) 4]
def F5.r4 : List Oper := [
  oc 34 (.call ⟨(.value (.func 19)), #[(.const (.int .i64 3))], #[3]⟩) 34,
  op 4 (.assign (.tmp 34)) 34]
def F5.r5 : List Oper := [
  op 35 (.move (.tmp 4)) 34,
  op 36 (.binOp .eql 34 (.tmp 35) (.const (.pointer none)) 34) 4]
def F5.r6 : List Oper := [
  op 2 (.assign (.const (.bool false))) 4]
def F5.r7 : List Oper := [
  op 38 (.move (.tmp 4)) 34,
  oc 39 (.call ⟨(.value (.func 21)), #[(.const (.int .u64 1)), (.const (.string { data := #[97] })), (.const (.int .u32 384))], #[30, 9, 29]⟩) 53,
  oc 40 (.call ⟨(.value (.func 20)), #[(.tmp 38), (.tmp 39)], #[34, 53]⟩) 49,
  op 37 (.move (.tmp 40)) 49,
  op 41 (.extract (.tmp 37) 0) 30,
  op 42 (.extract (.tmp 37) 1) 26,
  op 5 (.assign (.tmp 41)) 30,
  op 6 (.assign (.tmp 42)) 26]
def F5.r8 : List Oper := [
  op 44 (.move (.tmp 4)) 34,
  oc 45 (.call ⟨(.value (.func 21)), #[(.const (.int .u64 1)), (.const (.string { data := #[98] })), (.const (.int .u32 384))], #[30, 9, 29]⟩) 53,
  oc 46 (.call ⟨(.value (.func 20)), #[(.tmp 44), (.tmp 45)], #[34, 53]⟩) 49,
  op 43 (.move (.tmp 46)) 49,
  op 47 (.extract (.tmp 43) 0) 30,
  op 48 (.extract (.tmp 43) 1) 26,
  op 7 (.assign (.tmp 47)) 30,
  op 8 (.assign (.tmp 48)) 26]
def F5.r9 : List Oper := [
  op 49 (.move (.tmp 6)) 26,
  op 50 (.binOp .neq 26 (.tmp 49) (.const (.int .i64 0)) 26) 4,
  op 51 (.move (.tmp 50)) 4,
  ⟨(some 52), (.move (.tmp 8)), 26, "", #[], (some (51, false))⟩,
  ⟨(some 53), (.binOp .neq 26 (.tmp 52) (.const (.int .i64 0)) 26), 4, "", #[], (some (51, false))⟩,
  op 54 (.pick (.tmp 51) (.const (.bool true)) (.tmp 53)) 4,
  op 55 (.move (.tmp 54)) 4,
  ⟨(some 56), (.move (.tmp 5)), 30, "", #[], (some (55, false))⟩,
  ⟨(some 57), (.binOp .neq 30 (.tmp 56) (.const (.int .u64 2)) 30), 4, "", #[], (some (55, false))⟩,
  op 58 (.pick (.tmp 55) (.const (.bool true)) (.tmp 57)) 4,
  op 59 (.move (.tmp 58)) 4,
  ⟨(some 60), (.move (.tmp 7)), 30, "", #[], (some (59, false))⟩,
  ⟨(some 61), (.binOp .neq 30 (.tmp 60) (.const (.int .u64 3)) 30), 4, "", #[], (some (59, false))⟩,
  op 62 (.pick (.tmp 59) (.const (.bool true)) (.tmp 61)) 4]
def F5.r10 : List Oper := [
  op 2 (.assign (.const (.bool false))) 4]
def F5.r11 : PT :=
  (.alt (.op ⟨(some 63), (.makeSlice 51 (.const (.int .i64 65536)) (.const (.int .i64 65536))), 51, "", #[⟨0, .chain⟩], none⟩
  (.alt (.op ⟨(some 64), (.makeSlice 51 (.const (.int .i64 65536)) (.const (.int .i64 65536))), 51, "", #[⟨1, .chain⟩], none⟩
  (.op ⟨(some 65), (.build 55 #[(0, (.tmp 63)), (1, (.tmp 64))]), 55, "", #[], none⟩
  (.alt (.op ⟨(some 9), (.alloc 55), 0, "", #[⟨3, .chain⟩], none⟩
  (.alt (.op ⟨none, (.store 55 (.tmp 9) (.tmp 65)), 0, "", #[⟨4, .chain⟩], none⟩
  .done)
  .stop))
  .stop)))
  (.alt (.op ⟨(some 9), (.alloc 55), 0, "", #[⟨3, .chain⟩], none⟩
  (.alt (.op ⟨(some 64), (.makeSlice 51 (.const (.int .i64 65536)) (.const (.int .i64 65536))), 51, "", #[⟨1, .chain⟩], none⟩
  (.op ⟨(some 65), (.build 55 #[(0, (.tmp 63)), (1, (.tmp 64))]), 55, "", #[], none⟩
  (.alt (.op ⟨none, (.store 55 (.tmp 9) (.tmp 65)), 0, "", #[⟨4, .chain⟩], none⟩
  .done)
  .stop)))
  .stop))
  .stop)))
  (.alt (.op ⟨(some 64), (.makeSlice 51 (.const (.int .i64 65536)) (.const (.int .i64 65536))), 51, "", #[⟨1, .chain⟩], none⟩
  (.alt (.op ⟨(some 63), (.makeSlice 51 (.const (.int .i64 65536)) (.const (.int .i64 65536))), 51, "", #[⟨0, .chain⟩], none⟩
  (.op ⟨(some 65), (.build 55 #[(0, (.tmp 63)), (1, (.tmp 64))]), 55, "", #[], none⟩
  (.alt (.op ⟨(some 9), (.alloc 55), 0, "", #[⟨3, .chain⟩], none⟩
  (.alt (.op ⟨none, (.store 55 (.tmp 9) (.tmp 65)), 0, "", #[⟨4, .chain⟩], none⟩
  .done)
  .stop))
  .stop)))
  (.alt (.op ⟨(some 9), (.alloc 55), 0, "", #[⟨3, .chain⟩], none⟩
  (.alt (.op ⟨(some 63), (.makeSlice 51 (.const (.int .i64 65536)) (.const (.int .i64 65536))), 51, "", #[⟨0, .chain⟩], none⟩
  (.op ⟨(some 65), (.build 55 #[(0, (.tmp 63)), (1, (.tmp 64))]), 55, "", #[], none⟩
  (.alt (.op ⟨none, (.store 55 (.tmp 9) (.tmp 65)), 0, "", #[⟨4, .chain⟩], none⟩
  .done)
  .stop)))
  .stop))
  .stop)))
  (.alt (.op ⟨(some 9), (.alloc 55), 0, "", #[⟨3, .chain⟩], none⟩
  (.alt (.op ⟨(some 63), (.makeSlice 51 (.const (.int .i64 65536)) (.const (.int .i64 65536))), 51, "", #[⟨0, .chain⟩], none⟩
  (.alt (.op ⟨(some 64), (.makeSlice 51 (.const (.int .i64 65536)) (.const (.int .i64 65536))), 51, "", #[⟨1, .chain⟩], none⟩
  (.op ⟨(some 65), (.build 55 #[(0, (.tmp 63)), (1, (.tmp 64))]), 55, "", #[], none⟩
  (.alt (.op ⟨none, (.store 55 (.tmp 9) (.tmp 65)), 0, "", #[⟨4, .chain⟩], none⟩
  .done)
  .stop)))
  .stop))
  (.alt (.op ⟨(some 64), (.makeSlice 51 (.const (.int .i64 65536)) (.const (.int .i64 65536))), 51, "", #[⟨1, .chain⟩], none⟩
  (.alt (.op ⟨(some 63), (.makeSlice 51 (.const (.int .i64 65536)) (.const (.int .i64 65536))), 51, "", #[⟨0, .chain⟩], none⟩
  (.op ⟨(some 65), (.build 55 #[(0, (.tmp 63)), (1, (.tmp 64))]), 55, "", #[], none⟩
  (.alt (.op ⟨none, (.store 55 (.tmp 9) (.tmp 65)), 0, "", #[⟨4, .chain⟩], none⟩
  .done)
  .stop)))
  .stop))
  .stop)))
  .stop)))
def F5.r12 : List Oper := [
  op 66 (.build 56 #[(0, (.const (.int .i64 0))), (1, (.const (.int .i64 0)))]) 56,
  oc 10 (.alloc 56) 0,
  ⟨none, (.store 56 (.tmp 10) (.tmp 66)), 0, "", #[⟨0, .chain⟩], none⟩]
def F5.r13 : List Oper := [
  op 11 (.assign (.const (.int .i64 0))) 3]
def F5.r14 : List Oper := [
  op 67 (.move (.tmp 11)) 3,
  op 68 (.move (.tmp 0)) 47,
  op 69 (.call ⟨(.builtin .len), #[(.tmp 68)], #[47]⟩) 3,
  op 70 (.binOp .lss 3 (.tmp 67) (.tmp 69) 3) 4]
def F5.r16 : List Oper := [
  op 73 (.move (.tmp 0)) 47,
  op 74 (.move (.tmp 11)) 3,
  op 75 (.indexAddr 47 (.tmp 73) (.tmp 74)) 0,
  op 76 (.fieldAddr 59 (.tmp 75) 1) 0,
  od 77 (.load 3 (.tmp 76)) 3,
  oc 78 (.call ⟨(.value (.func 22)), #[(.tmp 77), (.const (.int .i64 2))], #[3, 3]⟩) 3,
  op 12 (.assign (.tmp 78)) 3]
def F5.r17 : List Oper := [
  op 79 (.move (.tmp 0)) 47,
  op 80 (.move (.tmp 11)) 3,
  op 81 (.indexAddr 47 (.tmp 79) (.tmp 80)) 0,
  op 82 (.fieldAddr 59 (.tmp 81) 2) 0,
  od 83 (.load 3 (.tmp 82)) 3,
  oc 84 (.call ⟨(.value (.func 22)), #[(.tmp 83), (.const (.int .i64 65537))], #[3, 3]⟩) 3,
  op 13 (.assign (.tmp 84)) 3]
def F5.r18 : List Oper := [
  op 85 (.move (.tmp 0)) 47,
  op 86 (.move (.tmp 11)) 3,
  op 87 (.indexAddr 47 (.tmp 85) (.tmp 86)) 0,
  op 88 (.fieldAddr 59 (.tmp 87) 3) 0,
  od 89 (.load 3 (.tmp 88)) 3,
  oc 90 (.call ⟨(.value (.func 22)), #[(.tmp 89), (.const (.int .i64 256))], #[3, 3]⟩) 3,
  op 91 (.binOp .add 3 (.const (.int .i64 1)) (.tmp 90) 3) 3,
  op 14 (.assign (.tmp 91)) 3]
def F5.r19 : List Oper := [
  op 92 (.move (.tmp 12)) 3,
  op 93 (.binOp .add 3 (.const (.int .i64 2)) (.tmp 92) 3) 3,
  op 94 (.convert 3 30 (.tmp 93)) 30,
  op 15 (.assign (.tmp 94)) 30]
def F5.r20 : List Oper := [
  op 95 (.move (.tmp 0)) 47,
  op 96 (.move (.tmp 11)) 3,
  op 97 (.indexAddr 47 (.tmp 95) (.tmp 96)) 0,
  op 98 (.fieldAddr 59 (.tmp 97) 0) 0,
  od 99 (.load 3 (.tmp 98)) 3]
def F5.r21 : List Oper := [
  op 101 (.binOp .eql 3 (.tmp 99) (.const (.int .i64 1)) 3) 4,
  op 100 (.assign (.tmp 101)) 4]
def F5.r22 : List Oper := [
  op 102 (.move (.tmp 0)) 47,
  op 103 (.move (.tmp 11)) 3,
  op 104 (.indexAddr 47 (.tmp 102) (.tmp 103)) 0,
  op 105 (.fieldAddr 59 (.tmp 104) 2) 0,
  od 106 (.load 3 (.tmp 105)) 3,
  oc 107 (.call ⟨(.value (.func 22)), #[(.tmp 106), (.const (.int .i64 65536))], #[3, 3]⟩) 3,
  op 13 (.assign (.tmp 107)) 3]
def F5.r23 : List Oper := [
  op 108 (.move (.tmp 14)) 3,
  op 109 (.move (.tmp 13)) 3,
  op 110 (.binOp .rem 3 (.tmp 109) (.const (.int .i64 256)) 3) 3,
  op 111 (.binOp .sub 3 (.const (.int .i64 256)) (.tmp 110) 3) 3,
  op 112 (.call ⟨(.builtin .min), #[(.tmp 108), (.tmp 111)], #[3, 3]⟩) 3,
  op 14 (.assign (.tmp 112)) 3]
def F5.r24 : List Oper := [
  op 113 (.move (.tmp 14)) 3,
  oc 114 (.makeSlice 51 (.tmp 113) (.tmp 113)) 51,
  op 16 (.assign (.tmp 114)) 51]
def F5.r25 : List Oper := [
  op 17 (.assign (.const (.int .i64 0))) 3]
def F5.r26 : List Oper := [
  op 115 (.move (.tmp 17)) 3,
  op 116 (.move (.tmp 14)) 3,
  op 117 (.binOp .lss 3 (.tmp 115) (.tmp 116) 3) 4]
def F5.r28 : List Oper := [
  op 120 (.move (.tmp 16)) 51,
  op 121 (.move (.tmp 17)) 3,
  op 122 (.move (.tmp 0)) 47,
  op 123 (.move (.tmp 11)) 3,
  op 124 (.indexAddr 47 (.tmp 122) (.tmp 123)) 0,
  op 125 (.fieldAddr 59 (.tmp 124) 4) 0,
  od 126 (.load 5 (.tmp 125)) 5,
  op 127 (.move (.tmp 17)) 3,
  op 128 (.convert 3 5 (.tmp 127)) 5,
  op 129 (.binOp .add 5 (.tmp 126) (.tmp 128) 5) 5,
  op 130 (.indexAddr 51 (.tmp 120) (.tmp 121)) 0,
  ⟨none, (.store 5 (.tmp 130) (.tmp 129)), 0, "", #[⟨0, .chain⟩], none⟩]
def F5.r29 : List Oper := [
  ⟨(some 131), (.move (.tmp 12)), 3, "", #[], none⟩,
  ⟨(some 132), (.indexAddr 55 (.tmp 9) (.tmp 131)), 0, "", #[], none⟩,
  ⟨(some 134), (.move (.tmp 13)), 3, "", #[], none⟩,
  ⟨(some 135), (.move (.tmp 17)), 3, "", #[], none⟩,
  ⟨(some 136), (.binOp .add 3 (.tmp 134) (.tmp 135) 3), 3, "", #[], none⟩,
  ⟨(some 137), (.move (.tmp 16)), 51, "", #[], none⟩,
  ⟨(some 138), (.move (.tmp 17)), 3, "", #[], none⟩,
  ⟨(some 139), (.indexAddr 51 (.tmp 137) (.tmp 138)), 0, "", #[], none⟩,
  ⟨(some 133), (.load 51 (.tmp 132)), 51, "", #[⟨2048, .data⟩], none⟩,
  ⟨(some 140), (.load 5 (.tmp 139)), 5, "", #[⟨2048, .data⟩], none⟩,
  ⟨(some 141), (.indexAddr 51 (.tmp 133) (.tmp 136)), 0, "", #[], none⟩,
  ⟨none, (.store 5 (.tmp 141) (.tmp 140)), 0, "", #[⟨11, .chain⟩], none⟩]
def F5.r27 : List Oper := [
  op 118 (.move (.tmp 17)) 3,
  op 119 (.binOp .add 3 (.tmp 118) (.const (.int .i64 1)) 3) 3,
  op 17 (.assign (.tmp 119)) 3]
def F5.r30 : List Oper := [
  op 142 (.move (.tmp 12)) 3,
  op 143 (.move (.tmp 12)) 3,
  op 144 (.indexAddr 56 (.tmp 10) (.tmp 143)) 0,
  od 145 (.load 3 (.tmp 144)) 3,
  op 146 (.move (.tmp 13)) 3,
  op 147 (.move (.tmp 14)) 3,
  op 148 (.binOp .add 3 (.tmp 146) (.tmp 147) 3) 3,
  op 149 (.call ⟨(.builtin .max), #[(.tmp 145), (.tmp 148)], #[3, 3]⟩) 3,
  op 150 (.indexAddr 56 (.tmp 10) (.tmp 142)) 0,
  ⟨none, (.store 3 (.tmp 150) (.tmp 149)), 0, "", #[⟨0, .chain⟩], none⟩]
def F5.r31 : List Oper := [
  op 152 (.move (.tmp 4)) 34,
  op 153 (.move (.tmp 15)) 30,
  op 154 (.move (.tmp 13)) 3,
  op 155 (.convert 3 30 (.tmp 154)) 30,
  op 156 (.move (.tmp 16)) 51,
  op 157 (.build 53 #[(0, (.const (.int .u8 6))), (1, (.tmp 153)), (5, (.tmp 155)), (6, (.tmp 156))]) 53,
  oc 158 (.call ⟨(.value (.func 20)), #[(.tmp 152), (.tmp 157)], #[34, 53]⟩) 49,
  op 151 (.move (.tmp 158)) 49,
  op 159 (.extract (.tmp 151) 0) 30,
  op 160 (.extract (.tmp 151) 1) 26,
  op 18 (.assign (.tmp 159)) 30,
  op 19 (.assign (.tmp 160)) 26]
def F5.r32 : List Oper := [
  op 161 (.move (.tmp 19)) 26,
  op 162 (.binOp .neq 26 (.tmp 161) (.const (.int .i64 0)) 26) 4]
def F5.r33 : List Oper := [
  op 2 (.assign (.const (.bool false))) 4]
def F5.r34 : List Oper := [
  op 164 (.binOp .eql 3 (.tmp 99) (.const (.int .i64 2)) 3) 4,
  op 163 (.assign (.tmp 164)) 4]
def F5.r35 : List Oper := [
  op 165 (.move (.tmp 13)) 3,
  op 20 (.assign (.tmp 165)) 3]
def F5.r36 : List Oper := [
  op 166 (.move (.tmp 20)) 3,
  op 167 (.move (.tmp 12)) 3,
  op 168 (.indexAddr 56 (.tmp 10) (.tmp 167)) 0,
  od 169 (.load 3 (.tmp 168)) 3,
  op 170 (.binOp .lss 3 (.tmp 166) (.tmp 169) 3) 4]
def F5.r38 : List Oper := [
  op 173 (.move (.tmp 12)) 3,
  op 174 (.indexAddr 55 (.tmp 9) (.tmp 173)) 0,
  od 175 (.load 51 (.tmp 174)) 51,
  op 176 (.move (.tmp 20)) 3,
  op 177 (.indexAddr 51 (.tmp 175) (.tmp 176)) 0,
  ⟨none, (.store 5 (.tmp 177) (.const (.int .u8 0))), 0, "", #[⟨0, .chain⟩], none⟩]
def F5.r37 : List Oper := [
  op 171 (.move (.tmp 20)) 3,
  op 172 (.binOp .add 3 (.tmp 171) (.const (.int .i64 1)) 3) 3,
  op 20 (.assign (.tmp 172)) 3]
def F5.r39 : List Oper := [
  op 178 (.move (.tmp 12)) 3,
  op 179 (.move (.tmp 13)) 3,
  op 180 (.indexAddr 56 (.tmp 10) (.tmp 178)) 0,
  ⟨none, (.store 3 (.tmp 180) (.tmp 179)), 0, "", #[⟨0, .chain⟩], none⟩]
def F5.r40 : List Oper := [
  op 182 (.move (.tmp 4)) 34,
  op 183 (.move (.tmp 15)) 30,
  op 184 (.move (.tmp 13)) 3,
  op 185 (.convert 3 30 (.tmp 184)) 30,
  op 186 (.build 53 #[(0, (.const (.int .u8 5))), (1, (.tmp 183)), (5, (.tmp 185))]) 53,
  oc 187 (.call ⟨(.value (.func 20)), #[(.tmp 182), (.tmp 186)], #[34, 53]⟩) 49,
  op 181 (.move (.tmp 187)) 49,
  op 188 (.extract (.tmp 181) 0) 30,
  op 189 (.extract (.tmp 181) 1) 26,
  op 21 (.assign (.tmp 188)) 30,
  op 22 (.assign (.tmp 189)) 26]
def F5.r41 : List Oper := [
  op 190 (.move (.tmp 22)) 26,
  op 191 (.binOp .neq 26 (.tmp 190) (.const (.int .i64 0)) 26) 4]
def F5.r42 : List Oper := [
  op 2 (.assign (.const (.bool false))) 4]
def F5.r43 : List Oper := [
  op 193 (.binOp .eql 3 (.tmp 99) (.const (.int .i64 3)) 3) 4,
  op 192 (.assign (.tmp 193)) 4]
def F5.r44 : List Oper := [
  op 194 (.move (.tmp 13)) 3,
  op 195 (.move (.tmp 13)) 3,
  op 196 (.move (.tmp 14)) 3,
  op 197 (.binOp .mul 3 (.const (.int .i64 16)) (.tmp 196) 3) 3,
  op 198 (.binOp .add 3 (.tmp 195) (.tmp 197) 3) 3,
  op 199 (.move (.tmp 12)) 3,
  op 200 (.indexAddr 56 (.tmp 10) (.tmp 199)) 0,
  od 201 (.load 3 (.tmp 200)) 3,
  op 202 (.call ⟨(.builtin .min), #[(.tmp 198), (.tmp 201)], #[3, 3]⟩) 3,
  op 203 (.call ⟨(.builtin .max), #[(.tmp 194), (.tmp 202)], #[3, 3]⟩) 3,
  op 23 (.assign (.tmp 203)) 3]
def F5.r45 : List Oper := [
  op 204 (.move (.tmp 4)) 34,
  op 205 (.move (.tmp 15)) 30,
  op 206 (.move (.tmp 13)) 3,
  op 207 (.convert 3 30 (.tmp 206)) 30,
  op 208 (.move (.tmp 14)) 3,
  op 209 (.binOp .mul 3 (.const (.int .i64 16)) (.tmp 208) 3) 3,
  oc 210 (.call ⟨(.value (.func 23)), #[(.tmp 204), (.tmp 205), (.tmp 207), (.tmp 209)], #[34, 30, 30, 3]⟩) 51,
  op 24 (.assign (.tmp 210)) 51]
def F5.r46 : List Oper := [
  ⟨(some 211), (.move (.tmp 24)), 51, "", #[], none⟩,
  ⟨(some 213), (.move (.tmp 12)), 3, "", #[], none⟩,
  ⟨(some 214), (.indexAddr 55 (.tmp 9) (.tmp 213)), 0, "", #[], none⟩,
  ⟨(some 216), (.move (.tmp 13)), 3, "", #[], none⟩,
  ⟨(some 217), (.move (.tmp 23)), 3, "", #[], none⟩,
  ⟨(some 212), (.convert 51 9 (.tmp 211)), 9, "", #[⟨0, .data⟩], none⟩,
  ⟨(some 215), (.load 51 (.tmp 214)), 51, "", #[⟨0, .data⟩], none⟩,
  ⟨(some 218), (.slice 51 (.tmp 215) (some (.tmp 216)) (some (.tmp 217)) none), 51, "", #[], none⟩,
  ⟨(some 219), (.convert 51 9 (.tmp 218)), 9, "", #[⟨0, .data⟩], none⟩,
  ⟨(some 220), (.binOp .neq 9 (.tmp 212) (.tmp 219) 9), 4, "", #[], none⟩]
def F5.r47 : List Oper := [
  op 2 (.assign (.const (.bool false))) 4]
def F5.r48 : List Oper := [
  op 222 (.move (.tmp 4)) 34,
  op 223 (.move (.tmp 15)) 30,
  oc 224 (.call ⟨(.value (.func 15)), #[(.tmp 222), (.tmp 223)], #[34, 30]⟩) 42,
  op 221 (.move (.tmp 224)) 42,
  op 225 (.extract (.tmp 221) 0) 41,
  op 226 (.extract (.tmp 221) 1) 4,
  oc 25 (.alloc 41) 0,
  ⟨none, (.store 41 (.tmp 25) (.tmp 225)), 0, "", #[⟨0, .chain⟩], none⟩,
  op 26 (.assign (.tmp 226)) 4]
def F5.r49 : List Oper := [
  ⟨(some 227), (.move (.tmp 26)), 4, "", #[], none⟩,
  ⟨(some 228), (.unOp .not 4 (.tmp 227)), 4, "", #[], none⟩,
  ⟨(some 229), (.move (.tmp 228)), 4, "", #[], none⟩,
  ⟨(some 230), (.fieldAddr 41 (.tmp 25) 10), 0, "", #[], (some (229, false))⟩,
  ⟨(some 232), (.move (.tmp 12)), 3, "", #[], (some (229, false))⟩,
  ⟨(some 233), (.indexAddr 56 (.tmp 10) (.tmp 232)), 0, "", #[], (some (229, false))⟩,
  ⟨(some 231), (.load 30 (.tmp 230)), 30, "", #[⟨0, .data⟩], (some (229, false))⟩,
  ⟨(some 234), (.load 3 (.tmp 233)), 3, "", #[⟨0, .data⟩], (some (229, false))⟩,
  ⟨(some 235), (.convert 3 30 (.tmp 234)), 30, "", #[], (some (229, false))⟩,
  ⟨(some 236), (.binOp .neq 30 (.tmp 231) (.tmp 235) 30), 4, "", #[], (some (229, false))⟩,
  ⟨(some 237), (.pick (.tmp 229) (.const (.bool true)) (.tmp 236)), 4, "", #[], none⟩]
def F5.r50 : List Oper := [
  op 2 (.assign (.const (.bool false))) 4]
def F5.r15 : List Oper := [
  op 71 (.move (.tmp 11)) 3,
  op 72 (.binOp .add 3 (.tmp 71) (.const (.int .i64 1)) 3) 3,
  op 11 (.assign (.tmp 72)) 3]
def F5.r51 : List Oper := [
  op 238 (.move (.tmp 4)) 34,
  oc 239 (.call ⟨(.value (.func 23)), #[(.tmp 238), (.const (.int .u64 2)), (.const (.int .u64 0)), (.const (.int .i64 65536))], #[34, 30, 30, 3]⟩) 51,
  op 27 (.assign (.tmp 239)) 51]
def F5.r52 : List Oper := [
  op 240 (.move (.tmp 4)) 34,
  oc 241 (.call ⟨(.value (.func 23)), #[(.tmp 240), (.const (.int .u64 3)), (.const (.int .u64 0)), (.const (.int .i64 70000))], #[34, 30, 30, 3]⟩) 51,
  op 28 (.assign (.tmp 241)) 51]
def F5.r53 : List Oper := [
  ⟨(some 242), (.move (.tmp 3)), 4, "", #[], none⟩,
  ⟨(some 243), (.move (.tmp 242)), 4, "", #[], none⟩,
  ⟨(some 244), (.move (.tmp 27)), 51, "", #[], (some (243, true))⟩,
  ⟨(some 246), (.indexAddr 55 (.tmp 9) (.const (.int .i64 0))), 0, "", #[], (some (243, true))⟩,
  ⟨(some 248), (.indexAddr 56 (.tmp 10) (.const (.int .i64 0))), 0, "", #[], (some (243, true))⟩,
  ⟨(some 245), (.convert 51 9 (.tmp 244)), 9, "", #[⟨0, .data⟩], (some (243, true))⟩,
  ⟨(some 247), (.load 51 (.tmp 246)), 51, "", #[⟨0, .data⟩], (some (243, true))⟩,
  ⟨(some 249), (.load 3 (.tmp 248)), 3, "", #[⟨0, .data⟩], (some (243, true))⟩,
  ⟨(some 250), (.slice 51 (.tmp 247) none (some (.tmp 249)) none), 51, "", #[], (some (243, true))⟩,
  ⟨(some 251), (.convert 51 9 (.tmp 250)), 9, "", #[⟨0, .data⟩], (some (243, true))⟩,
  ⟨(some 252), (.binOp .eql 9 (.tmp 245) (.tmp 251) 9), 4, "", #[], (some (243, true))⟩,
  ⟨(some 253), (.pick (.tmp 243) (.tmp 252) (.const (.bool false))), 4, "", #[], none⟩,
  ⟨(some 254), (.move (.tmp 253)), 4, "", #[], none⟩,
  ⟨(some 255), (.move (.tmp 28)), 51, "", #[], (some (254, true))⟩,
  ⟨(some 257), (.indexAddr 55 (.tmp 9) (.const (.int .i64 1))), 0, "", #[], (some (254, true))⟩,
  ⟨(some 259), (.indexAddr 56 (.tmp 10) (.const (.int .i64 1))), 0, "", #[], (some (254, true))⟩,
  ⟨(some 256), (.convert 51 9 (.tmp 255)), 9, "", #[⟨0, .data⟩], (some (254, true))⟩,
  ⟨(some 258), (.load 51 (.tmp 257)), 51, "", #[⟨0, .data⟩], (some (254, true))⟩,
  ⟨(some 260), (.load 3 (.tmp 259)), 3, "", #[⟨0, .data⟩], (some (254, true))⟩,
  ⟨(some 261), (.slice 51 (.tmp 258) none (some (.tmp 260)) none), 51, "", #[], (some (254, true))⟩,
  ⟨(some 262), (.convert 51 9 (.tmp 261)), 9, "", #[⟨0, .data⟩], (some (254, true))⟩,
  ⟨(some 263), (.binOp .eql 9 (.tmp 256) (.tmp 262) 9), 4, "", #[], (some (254, true))⟩,
  ⟨(some 264), (.pick (.tmp 254) (.tmp 263) (.const (.bool false))), 4, "", #[], none⟩,
  ⟨(some 2), (.assign (.tmp 264)), 4, "", #[], none⟩]
def F5.t27 : Cd := (.region 27 F5.r27.toArray false)
theorem F5.t27_eq {θ : Tag (F5.t27, Q, e, w)} : cwE P F5.t27 Q e w θ = cwE P (.region 27 F5.r27.toArray false) Q e w := rfl
def F5.t28 : Cd := (.seq (.block 4 (.seq (.region 28 F5.r28.toArray false) (.region 29 F5.r29.toArray true))) F5.t27)
theorem F5.t28_eq {θ : Tag (F5.t28, Q, e, w)} : cwE P F5.t28 Q e w θ = cwE P (.seq (.block 4 (.seq (.region 28 F5.r28.toArray false) (.region 29 F5.r29.toArray true))) F5.t27) Q e w := rfl
def F5.t30 : Cd := (.seq (.region 30 F5.r30.toArray false) (.seq (.region 31 F5.r31.toArray false) (.seq (.region 32 F5.r32.toArray false) (.cond (.tmp 162) (.seq (.region 33 F5.r33.toArray false) .ret) .skip))))
theorem F5.t30_eq {θ : Tag (F5.t30, Q, e, w)} : cwE P F5.t30 Q e w θ = cwE P (.seq (.region 30 F5.r30.toArray false) (.seq (.region 31 F5.r31.toArray false) (.seq (.region 32 F5.r32.toArray false) (.cond (.tmp 162) (.seq (.region 33 F5.r33.toArray false) .ret) .skip)))) Q e w := rfl
def F5.t37 : Cd := (.region 37 F5.r37.toArray false)
theorem F5.t37_eq {θ : Tag (F5.t37, Q, e, w)} : cwE P F5.t37 Q e w θ = cwE P (.region 37 F5.r37.toArray false) Q e w := rfl
def F5.t38 : Cd := (.seq (.block 6 (.region 38 F5.r38.toArray false)) F5.t37)
theorem F5.t38_eq {θ : Tag (F5.t38, Q, e, w)} : cwE P F5.t38 Q e w θ = cwE P (.seq (.block 6 (.region 38 F5.r38.toArray false)) F5.t37) Q e w := rfl
def F5.t39 : Cd := (.seq (.region 39 F5.r39.toArray false) (.seq (.region 40 F5.r40.toArray false) (.seq (.region 41 F5.r41.toArray false) (.cond (.tmp 191) (.seq (.region 42 F5.r42.toArray false) .ret) .skip))))
theorem F5.t39_eq {θ : Tag (F5.t39, Q, e, w)} : cwE P F5.t39 Q e w θ = cwE P (.seq (.region 39 F5.r39.toArray false) (.seq (.region 40 F5.r40.toArray false) (.seq (.region 41 F5.r41.toArray false) (.cond (.tmp 191) (.seq (.region 42 F5.r42.toArray false) .ret) .skip)))) Q e w := rfl
def F5.t48 : Cd := (.seq (.region 48 F5.r48.toArray false) (.seq (.region 49 F5.r49.toArray true) (.cond (.tmp 237) (.seq (.region 50 F5.r50.toArray false) .ret) .skip)))
theorem F5.t48_eq {θ : Tag (F5.t48, Q, e, w)} : cwE P F5.t48 Q e w θ = cwE P (.seq (.region 48 F5.r48.toArray false) (.seq (.region 49 F5.r49.toArray true) (.cond (.tmp 237) (.seq (.region 50 F5.r50.toArray false) .ret) .skip))) Q e w := rfl
def F5.t15 : Cd := (.region 15 F5.r15.toArray false)
theorem F5.t15_eq {θ : Tag (F5.t15, Q, e, w)} : cwE P F5.t15 Q e w θ = cwE P (.region 15 F5.r15.toArray false) Q e w := rfl
def F5.t16 : Cd := (.seq (.block 1 (.seq (.region 16 F5.r16.toArray false) (.seq (.region 17 F5.r17.toArray false) (.seq (.region 18 F5.r18.toArray false) (.seq (.region 19 F5.r19.toArray false) (.seq (.seq (.region 20 F5.r20.toArray false) (.block 2 (.seq (.region 21 F5.r21.toArray false) (.cond (.tmp 100) (.seq (.region 22 F5.r22.toArray false) (.seq (.region 23 F5.r23.toArray false) (.seq (.region 24 F5.r24.toArray false) (.seq (.seq (.region 25 F5.r25.toArray false) (.block 3 (.loop (.seq (.seq (.region 26 F5.r26.toArray false) (.cond (.tmp 117) .skip (.exit 3))) F5.t28)))) F5.t30)))) (.seq (.region 34 F5.r34.toArray false) (.cond (.tmp 163) (.seq (.seq (.region 35 F5.r35.toArray false) (.block 5 (.loop (.seq (.seq (.region 36 F5.r36.toArray false) (.cond (.tmp 170) .skip (.exit 5))) F5.t38)))) F5.t39) (.seq (.region 43 F5.r43.toArray false) (.cond (.tmp 192) (.seq (.region 44 F5.r44.toArray false) (.seq (.region 45 F5.r45.toArray false) (.seq (.region 46 F5.r46.toArray true) (.cond (.tmp 220) (.seq (.region 47 F5.r47.toArray false) .ret) .skip)))) .skip)))))))) F5.t48)))))) F5.t15)
theorem F5.t16_eq {θ : Tag (F5.t16, Q, e, w)} : cwE P F5.t16 Q e w θ = cwE P (.seq (.block 1 (.seq (.region 16 F5.r16.toArray false) (.seq (.region 17 F5.r17.toArray false) (.seq (.region 18 F5.r18.toArray false) (.seq (.region 19 F5.r19.toArray false) (.seq (.seq (.region 20 F5.r20.toArray false) (.block 2 (.seq (.region 21 F5.r21.toArray false) (.cond (.tmp 100) (.seq (.region 22 F5.r22.toArray false) (.seq (.region 23 F5.r23.toArray false) (.seq (.region 24 F5.r24.toArray false) (.seq (.seq (.region 25 F5.r25.toArray false) (.block 3 (.loop (.seq (.seq (.region 26 F5.r26.toArray false) (.cond (.tmp 117) .skip (.exit 3))) F5.t28)))) F5.t30)))) (.seq (.region 34 F5.r34.toArray false) (.cond (.tmp 163) (.seq (.seq (.region 35 F5.r35.toArray false) (.block 5 (.loop (.seq (.seq (.region 36 F5.r36.toArray false) (.cond (.tmp 170) .skip (.exit 5))) F5.t38)))) F5.t39) (.seq (.region 43 F5.r43.toArray false) (.cond (.tmp 192) (.seq (.region 44 F5.r44.toArray false) (.seq (.region 45 F5.r45.toArray false) (.seq (.region 46 F5.r46.toArray true) (.cond (.tmp 220) (.seq (.region 47 F5.r47.toArray false) .ret) .skip)))) .skip)))))))) F5.t48)))))) F5.t15) Q e w := rfl
def F5.t51 : Cd := (.seq (.region 51 F5.r51.toArray false) (.seq (.region 52 F5.r52.toArray false) (.seq (.region 53 F5.r53.toArray true) .ret)))
theorem F5.t51_eq {θ : Tag (F5.t51, Q, e, w)} : cwE P F5.t51 Q e w θ = cwE P (.seq (.region 51 F5.r51.toArray false) (.seq (.region 52 F5.r52.toArray false) (.seq (.region 53 F5.r53.toArray true) .ret))) Q e w := rfl
def F5.t12 : Cd := (.seq (.region 12 F5.r12.toArray false) (.seq (.seq (.region 13 F5.r13.toArray false) (.block 0 (.loop (.seq (.seq (.region 14 F5.r14.toArray false) (.cond (.tmp 70) .skip (.exit 0))) F5.t16)))) F5.t51))
theorem F5.t12_eq {θ : Tag (F5.t12, Q, e, w)} : cwE P F5.t12 Q e w θ = cwE P (.seq (.region 12 F5.r12.toArray false) (.seq (.seq (.region 13 F5.r13.toArray false) (.block 0 (.loop (.seq (.seq (.region 14 F5.r14.toArray false) (.cond (.tmp 70) .skip (.exit 0))) F5.t16)))) F5.t51)) Q e w := rfl
def F5.t11 : Cd := (.seq (.tree F5.r11) F5.t12)
theorem F5.t11_eq {θ : Tag (F5.t11, Q, e, w)} : cwE P F5.t11 Q e w θ = cwE P (.seq (.tree F5.r11) F5.t12) Q e w := rfl
def F5.t7 : Cd := (.seq (.region 7 F5.r7.toArray false) (.seq (.region 8 F5.r8.toArray false) (.seq (.seq (.region 9 F5.r9.toArray false) (.cond (.tmp 62) (.seq (.region 10 F5.r10.toArray false) .ret) .skip)) F5.t11)))
theorem F5.t7_eq {θ : Tag (F5.t7, Q, e, w)} : cwE P F5.t7 Q e w θ = cwE P (.seq (.region 7 F5.r7.toArray false) (.seq (.region 8 F5.r8.toArray false) (.seq (.seq (.region 9 F5.r9.toArray false) (.cond (.tmp 62) (.seq (.region 10 F5.r10.toArray false) .ret) .skip)) F5.t11))) Q e w := rfl
def F5.t4 : Cd := (.seq (.region 4 F5.r4.toArray false) (.seq (.seq (.region 5 F5.r5.toArray false) (.cond (.tmp 36) (.seq (.region 6 F5.r6.toArray false) .ret) .skip)) F5.t7))
theorem F5.t4_eq {θ : Tag (F5.t4, Q, e, w)} : cwE P F5.t4 Q e w θ = cwE P (.seq (.region 4 F5.r4.toArray false) (.seq (.seq (.region 5 F5.r5.toArray false) (.cond (.tmp 36) (.seq (.region 6 F5.r6.toArray false) .ret) .skip)) F5.t7)) Q e w := rfl
def F5.code : Cd := (.seq (.region 0 F5.r0.toArray false) (.seq (.region 1 F5.r1.toArray false) (.seq (.seq (.region 2 F5.r2.toArray false) (.cond (.tmp 32) (.seq (.region 3 F5.r3.toArray false) .ret) .skip)) F5.t4)))
theorem F5.calls (hn : args.size ≤ 265) (h : cwE Tryd.prog F5.code (fnP Tryd.prog #[(.tmp 2)] R) (entry args) w) : Calls Tryd.prog 5 args w R :=
  calls_of_cwE (types := Tryd.prog.types) follows Tryd.func5 F5.code rfl (by kernel_rfl) hn h

def F6.r0 : List Oper := [
  op 2 (.assign (.const (.bool false))) 4]
def F6.r1 : List Oper := [
  oc 22 (.call ⟨(.value (.func 11)), #[], #[]⟩) 4,
  op 3 (.assign (.tmp 22)) 4]
def F6.r2 : List Oper := [
  op 23 (.move (.tmp 0)) 62,
  op 24 (.call ⟨(.builtin .len), #[(.tmp 23)], #[62]⟩) 3,
  op 25 (.binOp .gtr 3 (.tmp 24) (.const (.int .i64 8388608)) 3) 4]
def F6.r3 : List Oper := [
  op 26 (.move (.tmp 3)) 4,
  op 2 (.assign (.tmp 26)) 4]
def F6.r4 : List Oper := [
  oc 27 (.call ⟨(.value (.func 19)), #[(.const (.int .i64 40))], #[3]⟩) 34,
  op 4 (.assign (.tmp 27)) 34]
def F6.r5 : List Oper := [
  op 28 (.move (.tmp 4)) 34,
  op 29 (.binOp .eql 34 (.tmp 28) (.const (.pointer none)) 34) 4]
def F6.r6 : List Oper := [
  op 2 (.assign (.const (.bool false))) 4]
def F6.r7 : List Oper := [
  op 5 (.assign (.const (.slice none 0 0))) 63]
def F6.r8 : List Oper := [
  op 6 (.assign (.const (.int .u64 1))) 30]
def F6.r9 : List Oper := [
  op 7 (.assign (.const (.int .i64 0))) 3]
def F6.r10 : List Oper := [
  op 30 (.move (.tmp 7)) 3,
  op 31 (.move (.tmp 0)) 62,
  op 32 (.call ⟨(.builtin .len), #[(.tmp 31)], #[62]⟩) 3,
  op 33 (.binOp .lss 3 (.tmp 30) (.tmp 32) 3) 4,
  op 34 (.move (.tmp 33)) 4,
  ⟨(some 35), (.move (.tmp 7)), 3, "", #[], (some (34, true))⟩,
  ⟨(some 36), (.binOp .lss 3 (.tmp 35) (.const (.int .i64 2000)) 3), 4, "", #[], (some (34, true))⟩,
  op 37 (.pick (.tmp 34) (.tmp 36) (.const (.bool false))) 4]
def F6.r12 : List Oper := [
  op 40 (.move (.tmp 0)) 62,
  op 41 (.move (.tmp 7)) 3,
  op 42 (.indexAddr 62 (.tmp 40) (.tmp 41)) 0,
  od 43 (.load 3 (.tmp 42)) 3,
  op 44 (.binOp .geq 3 (.tmp 43) (.const (.int .i64 0)) 3) 4,
  op 45 (.move (.tmp 44)) 4,
  ⟨(some 46), (.move (.tmp 5)), 63, "", #[], (some (45, true))⟩,
  ⟨(some 47), (.call ⟨(.builtin .len), #[(.tmp 46)], #[63]⟩), 3, "", #[], (some (45, true))⟩,
  ⟨(some 48), (.binOp .gtr 3 (.tmp 47) (.const (.int .i64 0)) 3), 4, "", #[], (some (45, true))⟩,
  op 49 (.pick (.tmp 45) (.tmp 48) (.const (.bool false))) 4,
  op 50 (.move (.tmp 49)) 4,
  ⟨(some 51), (.move (.tmp 5)), 63, "", #[], (some (50, false))⟩,
  ⟨(some 52), (.call ⟨(.builtin .len), #[(.tmp 51)], #[63]⟩), 3, "", #[], (some (50, false))⟩,
  ⟨(some 53), (.binOp .eql 3 (.tmp 52) (.const (.int .i64 39)) 3), 4, "", #[], (some (50, false))⟩,
  op 54 (.pick (.tmp 50) (.const (.bool true)) (.tmp 53)) 4]
def F6.r13 : List Oper := [
  op 55 (.move (.tmp 0)) 62,
  op 56 (.move (.tmp 7)) 3,
  op 57 (.indexAddr 62 (.tmp 55) (.tmp 56)) 0,
  od 58 (.load 3 (.tmp 57)) 3,
  op 59 (.move (.tmp 5)) 63,
  op 60 (.call ⟨(.builtin .len), #[(.tmp 59)], #[63]⟩) 3,
  oc 61 (.call ⟨(.value (.func 22)), #[(.tmp 58), (.tmp 60)], #[3, 3]⟩) 3,
  op 8 (.assign (.tmp 61)) 3]
def F6.r14 : List Oper := [
  op 63 (.move (.tmp 4)) 34,
  op 64 (.move (.tmp 5)) 63,
  op 65 (.move (.tmp 8)) 3,
  op 66 (.indexAddr 63 (.tmp 64) (.tmp 65)) 0,
  od 67 (.load 30 (.tmp 66)) 30,
  op 68 (.build 53 #[(0, (.const (.int .u8 2))), (1, (.tmp 67))]) 53,
  oc 69 (.call ⟨(.value (.func 20)), #[(.tmp 63), (.tmp 68)], #[34, 53]⟩) 49,
  op 62 (.move (.tmp 69)) 49,
  op 70 (.extract (.tmp 62) 0) 30,
  op 71 (.extract (.tmp 62) 1) 26,
  op 9 (.assign (.tmp 70)) 30,
  op 10 (.assign (.tmp 71)) 26]
def F6.r15 : List Oper := [
  op 72 (.move (.tmp 10)) 26,
  op 73 (.binOp .neq 26 (.tmp 72) (.const (.int .i64 0)) 26) 4]
def F6.r16 : List Oper := [
  op 2 (.assign (.const (.bool false))) 4]
def F6.r17 : List Oper := [
  op 11 (.assign (.const (.slice none 0 0))) 63]
def F6.r18 : List Oper := [
  op 74 (.move (.tmp 11)) 63,
  op 75 (.move (.tmp 5)) 63,
  op 76 (.move (.tmp 8)) 3,
  op 77 (.slice 63 (.tmp 75) none (some (.tmp 76)) none) 63,
  oc 78 (.call ⟨(.builtin .append), #[(.tmp 74), (.tmp 77)], #[63, 63]⟩) 63,
  op 11 (.assign (.tmp 78)) 63]
def F6.r19 : List Oper := [
  op 79 (.move (.tmp 11)) 63,
  op 80 (.move (.tmp 5)) 63,
  op 81 (.move (.tmp 8)) 3,
  op 82 (.binOp .add 3 (.tmp 81) (.const (.int .i64 1)) 3) 3,
  op 83 (.slice 63 (.tmp 80) (some (.tmp 82)) none none) 63,
  oc 84 (.call ⟨(.builtin .append), #[(.tmp 79), (.tmp 83)], #[63, 63]⟩) 63,
  op 11 (.assign (.tmp 84)) 63]
def F6.r20 : List Oper := [
  op 85 (.move (.tmp 11)) 63,
  op 5 (.assign (.tmp 85)) 63]
def F6.r21 : List Oper := [
  op 86 (.move (.tmp 4)) 34,
  oc 87 (.call ⟨(.value (.func 17)), #[(.tmp 86)], #[34]⟩) 30,
  op 12 (.assign (.tmp 87)) 30]
def F6.r22 : List Oper := [
  op 88 (.move (.tmp 7)) 3,
  op 89 (.binOp .rem 3 (.tmp 88) (.const (.int .i64 26)) 3) 3,
  op 90 (.binOp .add 3 (.const (.int .i64 97)) (.tmp 89) 3) 3,
  op 91 (.convert 3 5 (.tmp 90)) 5,
  op 92 (.move (.tmp 7)) 3,
  op 93 (.binOp .quo 3 (.tmp 92) (.const (.int .i64 26)) 3) 3,
  op 94 (.binOp .rem 3 (.tmp 93) (.const (.int .i64 26)) 3) 3,
  op 95 (.binOp .add 3 (.const (.int .i64 97)) (.tmp 94) 3) 3,
  op 96 (.convert 3 5 (.tmp 95)) 5,
  op 97 (.move (.tmp 7)) 3,
  op 98 (.binOp .quo 3 (.tmp 97) (.const (.int .i64 676)) 3) 3,
  op 99 (.binOp .rem 3 (.tmp 98) (.const (.int .i64 26)) 3) 3,
  op 100 (.binOp .add 3 (.const (.int .i64 97)) (.tmp 99) 3) 3,
  op 101 (.convert 3 5 (.tmp 100)) 5,
  oc 102 (.buildSlice 51 3 #[(0, (.tmp 91)), (1, (.tmp 96)), (2, (.tmp 101))]) 51,
  od 103 (.convert 51 9 (.tmp 102)) 9,
  op 13 (.assign (.tmp 103)) 9]
def F6.r23 : List Oper := [
  op 105 (.move (.tmp 4)) 34,
  op 106 (.move (.tmp 13)) 9,
  oc 107 (.call ⟨(.value (.func 21)), #[(.const (.int .u64 1)), (.tmp 106), (.const (.int .u32 384))], #[30, 9, 29]⟩) 53,
  oc 108 (.call ⟨(.value (.func 20)), #[(.tmp 105), (.tmp 107)], #[34, 53]⟩) 49,
  op 104 (.move (.tmp 108)) 49,
  op 109 (.extract (.tmp 104) 0) 30,
  op 110 (.extract (.tmp 104) 1) 26,
  op 14 (.assign (.tmp 109)) 30,
  op 15 (.assign (.tmp 110)) 26]
def F6.r24 : List Oper := [
  op 111 (.move (.tmp 15)) 26,
  op 112 (.binOp .neq 26 (.tmp 111) (.const (.int .i64 0)) 26) 4,
  op 113 (.move (.tmp 112)) 4,
  ⟨(some 114), (.move (.tmp 14)), 30, "", #[], (some (113, false))⟩,
  ⟨(some 115), (.move (.tmp 12)), 30, "", #[], (some (113, false))⟩,
  ⟨(some 116), (.binOp .neq 30 (.tmp 114) (.tmp 115) 30), 4, "", #[], (some (113, false))⟩,
  op 117 (.pick (.tmp 113) (.const (.bool true)) (.tmp 116)) 4,
  op 118 (.move (.tmp 117)) 4,
  ⟨(some 119), (.move (.tmp 14)), 30, "", #[], (some (118, false))⟩,
  ⟨(some 120), (.move (.tmp 6)), 30, "", #[], (some (118, false))⟩,
  ⟨(some 121), (.binOp .leq 30 (.tmp 119) (.tmp 120) 30), 4, "", #[], (some (118, false))⟩,
  op 122 (.pick (.tmp 118) (.const (.bool true)) (.tmp 121)) 4]
def F6.r25 : List Oper := [
  op 2 (.assign (.const (.bool false))) 4]
def F6.r26 : List Oper := [
  op 123 (.move (.tmp 14)) 30,
  op 6 (.assign (.tmp 123)) 30]
def F6.r27 : List Oper := [
  op 124 (.move (.tmp 5)) 63,
  op 125 (.move (.tmp 14)) 30,
  oc 126 (.buildSlice 63 1 #[(0, (.tmp 125))]) 63,
  oc 127 (.call ⟨(.builtin .append), #[(.tmp 124), (.tmp 126)], #[63, 63]⟩) 63,
  op 5 (.assign (.tmp 127)) 63]
def F6.r11 : List Oper := [
  op 38 (.move (.tmp 7)) 3,
  op 39 (.binOp .add 3 (.tmp 38) (.const (.int .i64 1)) 3) 3,
  op 7 (.assign (.tmp 39)) 3]
def F6.r28 : List Oper := [
  op 16 (.assign (.const (.int .u64 0))) 30]
def F6.r29 : List Oper := [
  op 17 (.assign (.const (.int .i64 0))) 3]
def F6.r30 : List Oper := [
  op 128 (.move (.tmp 17)) 3,
  op 129 (.move (.tmp 5)) 63,
  op 130 (.call ⟨(.builtin .len), #[(.tmp 129)], #[63]⟩) 3,
  op 131 (.binOp .lss 3 (.tmp 128) (.tmp 130) 3) 4]
def F6.r32 : List Oper := [
  op 135 (.move (.tmp 4)) 34,
  op 136 (.move (.tmp 16)) 30,
  oc 137 (.call ⟨(.value (.func 24)), #[(.tmp 135), (.const (.int .u64 1)), (.tmp 136)], #[34, 30, 30]⟩) 64,
  op 134 (.move (.tmp 137)) 64,
  op 138 (.extract (.tmp 134) 0) 30,
  op 139 (.extract (.tmp 134) 1) 4,
  op 18 (.assign (.tmp 138)) 30,
  op 19 (.assign (.tmp 139)) 4]
def F6.r33 : List Oper := [
  op 140 (.move (.tmp 19)) 4,
  op 141 (.unOp .not 4 (.tmp 140)) 4,
  op 142 (.move (.tmp 141)) 4,
  ⟨(some 143), (.move (.tmp 18)), 30, "", #[], (some (142, false))⟩,
  ⟨(some 144), (.move (.tmp 5)), 63, "", #[], (some (142, false))⟩,
  ⟨(some 145), (.move (.tmp 17)), 3, "", #[], (some (142, false))⟩,
  ⟨(some 146), (.indexAddr 63 (.tmp 144) (.tmp 145)), 0, "", #[], (some (142, false))⟩,
  ⟨(some 147), (.load 30 (.tmp 146)), 30, "", #[⟨0, .data⟩], (some (142, false))⟩,
  ⟨(some 148), (.binOp .neq 30 (.tmp 143) (.tmp 147) 30), 4, "", #[], (some (142, false))⟩,
  op 149 (.pick (.tmp 142) (.const (.bool true)) (.tmp 148)) 4]
def F6.r34 : List Oper := [
  op 2 (.assign (.const (.bool false))) 4]
def F6.r35 : List Oper := [
  op 150 (.move (.tmp 18)) 30,
  op 16 (.assign (.tmp 150)) 30]
def F6.r31 : List Oper := [
  op 132 (.move (.tmp 17)) 3,
  op 133 (.binOp .add 3 (.tmp 132) (.const (.int .i64 1)) 3) 3,
  op 17 (.assign (.tmp 133)) 3]
def F6.r36 : List Oper := [
  op 152 (.move (.tmp 4)) 34,
  op 153 (.move (.tmp 16)) 30,
  oc 154 (.call ⟨(.value (.func 24)), #[(.tmp 152), (.const (.int .u64 1)), (.tmp 153)], #[34, 30, 30]⟩) 64,
  op 151 (.move (.tmp 154)) 64,
  op 155 (.extract (.tmp 151) 0) 30,
  op 156 (.extract (.tmp 151) 1) 4,
  op 20 (.assign (.tmp 155)) 30,
  op 21 (.assign (.tmp 156)) 4]
def F6.r37 : List Oper := [
  op 157 (.move (.tmp 3)) 4,
  op 158 (.move (.tmp 157)) 4,
  ⟨(some 159), (.move (.tmp 21)), 4, "", #[], (some (158, true))⟩,
  ⟨(some 160), (.unOp .not 4 (.tmp 159)), 4, "", #[], (some (158, true))⟩,
  op 161 (.pick (.tmp 158) (.tmp 160) (.const (.bool false))) 4,
  op 2 (.assign (.tmp 161)) 4]
def F6.t17 : Cd := (.seq (.region 17 F6.r17.toArray false) (.seq (.region 18 F6.r18.toArray false) (.seq (.region 19 F6.r19.toArray false) (.seq (.region 20 F6.r20.toArray false) (.exit 1)))))
theorem F6.t17_eq {θ : Tag (F6.t17, Q, e, w)} : cwE P F6.t17 Q e w θ = cwE P (.seq (.region 17 F6.r17.toArray false) (.seq (.region 18 F6.r18.toArray false) (.seq (.region 19 F6.r19.toArray false) (.seq (.region 20 F6.r20.toArray false) (.exit 1))))) Q e w := rfl
def F6.t26 : Cd := (.seq (.region 26 F6.r26.toArray false) (.region 27 F6.r27.toArray false))
theorem F6.t26_eq {θ : Tag (F6.t26, Q, e, w)} : cwE P F6.t26 Q e w θ = cwE P (.seq (.region 26 F6.r26.toArray false) (.region 27 F6.r27.toArray false)) Q e w := rfl
def F6.t21 : Cd := (.seq (.region 21 F6.r21.toArray false) (.seq (.region 22 F6.r22.toArray false) (.seq (.region 23 F6.r23.toArray false) (.seq (.seq (.region 24 F6.r24.toArray false) (.cond (.tmp 122) (.seq (.region 25 F6.r25.toArray false) .ret) .skip)) F6.t26))))
theorem F6.t21_eq {θ : Tag (F6.t21, Q, e, w)} : cwE P F6.t21 Q e w θ = cwE P (.seq (.region 21 F6.r21.toArray false) (.seq (.region 22 F6.r22.toArray false) (.seq (.region 23 F6.r23.toArray false) (.seq (.seq (.region 24 F6.r24.toArray false) (.cond (.tmp 122) (.seq (.region 25 F6.r25.toArray false) .ret) .skip)) F6.t26)))) Q e w := rfl
def F6.t11 : Cd := (.region 11 F6.r11.toArray false)
theorem F6.t11_eq {θ : Tag (F6.t11, Q, e, w)} : cwE P F6.t11 Q e w θ = cwE P (.region 11 F6.r11.toArray false) Q e w := rfl
def F6.t12 : Cd := (.seq (.block 1 (.seq (.seq (.region 12 F6.r12.toArray false) (.cond (.tmp 54) (.seq (.region 13 F6.r13.toArray false) (.seq (.region 14 F6.r14.toArray false) (.seq (.seq (.region 15 F6.r15.toArray false) (.cond (.tmp 73) (.seq (.region 16 F6.r16.toArray false) .ret) .skip)) F6.t17))) .skip)) F6.t21)) F6.t11)
theorem F6.t12_eq {θ : Tag (F6.t12, Q, e, w)} : cwE P F6.t12 Q e w θ = cwE P (.seq (.block 1 (.seq (.seq (.region 12 F6.r12.toArray false) (.cond (.tmp 54) (.seq (.region 13 F6.r13.toArray false) (.seq (.region 14 F6.r14.toArray false) (.seq (.seq (.region 15 F6.r15.toArray false) (.cond (.tmp 73) (.seq (.region 16 F6.r16.toArray false) .ret) .skip)) F6.t17))) .skip)) F6.t21)) F6.t11) Q e w := rfl
def F6.t35 : Cd := (.region 35 F6.r35.toArray false)
theorem F6.t35_eq {θ : Tag (F6.t35, Q, e, w)} : cwE P F6.t35 Q e w θ = cwE P (.region 35 F6.r35.toArray false) Q e w := rfl
def F6.t31 : Cd := (.region 31 F6.r31.toArray false)
theorem F6.t31_eq {θ : Tag (F6.t31, Q, e, w)} : cwE P F6.t31 Q e w θ = cwE P (.region 31 F6.r31.toArray false) Q e w := rfl
def F6.t32 : Cd := (.seq (.block 3 (.seq (.region 32 F6.r32.toArray false) (.seq (.seq (.region 33 F6.r33.toArray false) (.cond (.tmp 149) (.seq (.region 34 F6.r34.toArray false) .ret) .skip)) F6.t35))) F6.t31)
theorem F6.t32_eq {θ : Tag (F6.t32, Q, e, w)} : cwE P F6.t32 Q e w θ = cwE P (.seq (.block 3 (.seq (.region 32 F6.r32.toArray false) (.seq (.seq (.region 33 F6.r33.toArray false) (.cond (.tmp 149) (.seq (.region 34 F6.r34.toArray false) .ret) .skip)) F6.t35))) F6.t31) Q e w := rfl
def F6.t36 : Cd := (.seq (.region 36 F6.r36.toArray false) (.seq (.region 37 F6.r37.toArray false) .ret))
theorem F6.t36_eq {θ : Tag (F6.t36, Q, e, w)} : cwE P F6.t36 Q e w θ = cwE P (.seq (.region 36 F6.r36.toArray false) (.seq (.region 37 F6.r37.toArray false) .ret)) Q e w := rfl
def F6.t28 : Cd := (.seq (.region 28 F6.r28.toArray false) (.seq (.seq (.region 29 F6.r29.toArray false) (.block 2 (.loop (.seq (.seq (.region 30 F6.r30.toArray false) (.cond (.tmp 131) .skip (.exit 2))) F6.t32)))) F6.t36))
theorem F6.t28_eq {θ : Tag (F6.t28, Q, e, w)} : cwE P F6.t28 Q e w θ = cwE P (.seq (.region 28 F6.r28.toArray false) (.seq (.seq (.region 29 F6.r29.toArray false) (.block 2 (.loop (.seq (.seq (.region 30 F6.r30.toArray false) (.cond (.tmp 131) .skip (.exit 2))) F6.t32)))) F6.t36)) Q e w := rfl
def F6.t7 : Cd := (.seq (.region 7 F6.r7.toArray false) (.seq (.region 8 F6.r8.toArray false) (.seq (.seq (.region 9 F6.r9.toArray false) (.block 0 (.loop (.seq (.seq (.region 10 F6.r10.toArray false) (.cond (.tmp 37) .skip (.exit 0))) F6.t12)))) F6.t28)))
theorem F6.t7_eq {θ : Tag (F6.t7, Q, e, w)} : cwE P F6.t7 Q e w θ = cwE P (.seq (.region 7 F6.r7.toArray false) (.seq (.region 8 F6.r8.toArray false) (.seq (.seq (.region 9 F6.r9.toArray false) (.block 0 (.loop (.seq (.seq (.region 10 F6.r10.toArray false) (.cond (.tmp 37) .skip (.exit 0))) F6.t12)))) F6.t28))) Q e w := rfl
def F6.t4 : Cd := (.seq (.region 4 F6.r4.toArray false) (.seq (.seq (.region 5 F6.r5.toArray false) (.cond (.tmp 29) (.seq (.region 6 F6.r6.toArray false) .ret) .skip)) F6.t7))
theorem F6.t4_eq {θ : Tag (F6.t4, Q, e, w)} : cwE P F6.t4 Q e w θ = cwE P (.seq (.region 4 F6.r4.toArray false) (.seq (.seq (.region 5 F6.r5.toArray false) (.cond (.tmp 29) (.seq (.region 6 F6.r6.toArray false) .ret) .skip)) F6.t7)) Q e w := rfl
def F6.code : Cd := (.seq (.region 0 F6.r0.toArray false) (.seq (.region 1 F6.r1.toArray false) (.seq (.seq (.region 2 F6.r2.toArray false) (.cond (.tmp 25) (.seq (.region 3 F6.r3.toArray false) .ret) .skip)) F6.t4)))
theorem F6.calls (hn : args.size ≤ 162) (h : cwE Tryd.prog F6.code (fnP Tryd.prog #[(.tmp 2)] R) (entry args) w) : Calls Tryd.prog 6 args w R :=
  calls_of_cwE (types := Tryd.prog.types) follows Tryd.func6 F6.code rfl (by kernel_rfl) hn h

def F7.r0 : List Oper := [
  op 4 (.assign (.const (.bool false))) 4]
def F7.r1 : List Oper := [
  oc 14 (.call ⟨(.value (.func 11)), #[], #[]⟩) 4,
  op 5 (.assign (.tmp 14)) 4]
def F7.r2 : List Oper := [
  op 15 (.move (.tmp 1)) 67,
  oc 16 (.call ⟨(.value (.func 25)), #[(.tmp 15), (.const (.int .i64 0))], #[67, 3]⟩) 3,
  op 17 (.binOp .gtr 3 (.tmp 16) (.const (.int .i64 8388608)) 3) 4]
def F7.r3 : List Oper := [
  op 18 (.move (.tmp 5)) 4,
  op 4 (.assign (.tmp 18)) 4]
def F7.r4 : List Oper := [
  op 19 (.move (.tmp 0)) 3,
  oc 20 (.call ⟨(.value (.func 22)), #[(.tmp 19), (.const (.int .i64 300))], #[3, 3]⟩) 3,
  op 21 (.binOp .add 3 (.const (.int .i64 1)) (.tmp 20) 3) 3,
  op 6 (.assign (.tmp 21)) 3]
def F7.r5 : List Oper := [
  op 22 (.move (.tmp 6)) 3,
  oc 23 (.call ⟨(.value (.func 19)), #[(.tmp 22)], #[3]⟩) 34,
  op 7 (.assign (.tmp 23)) 34]
def F7.r6 : List Oper := [
  op 24 (.move (.tmp 7)) 34,
  op 25 (.binOp .eql 34 (.tmp 24) (.const (.pointer none)) 34) 4]
def F7.r7 : List Oper := [
  op 4 (.assign (.const (.bool false))) 4]
def F7.r8 : List Oper := [
  op 8 (.assign (.const (.int .i64 0))) 3]
def F7.r9 : List Oper := [
  op 26 (.move (.tmp 8)) 3,
  op 27 (.move (.tmp 1)) 67,
  op 28 (.call ⟨(.builtin .len), #[(.tmp 27)], #[67]⟩) 3,
  op 29 (.binOp .lss 3 (.tmp 26) (.tmp 28) 3) 4]
def F7.r11 : List Oper := [
  op 32 (.move (.tmp 7)) 34,
  op 33 (.move (.tmp 1)) 67,
  op 34 (.move (.tmp 8)) 3,
  op 35 (.indexAddr 67 (.tmp 33) (.tmp 34)) 0,
  od 36 (.load 53 (.tmp 35)) 53,
  oc 37 (.call ⟨(.value (.func 20)), #[(.tmp 32), (.tmp 36)], #[34, 53]⟩) 49]
def F7.r10 : List Oper := [
  op 30 (.move (.tmp 8)) 3,
  op 31 (.binOp .add 3 (.tmp 30) (.const (.int .i64 1)) 3) 3,
  op 8 (.assign (.tmp 31)) 3]
def F7.r12 : List Oper := [
  op 38 (.move (.tmp 7)) 34,
  oc 39 (.call ⟨(.value (.func 26)), #[(.tmp 38)], #[34]⟩) 69,
  op 9 (.assign (.tmp 39)) 69]
def F7.r13 : List Oper := [
  op 40 (.move (.tmp 9)) 69,
  op 41 (.move (.tmp 6)) 3,
  oc 42 (.call ⟨(.value (.func 27)), #[(.tmp 40), (.tmp 41)], #[69, 3]⟩) 4,
  op 10 (.assign (.tmp 42)) 4]
def F7.r14 : List Oper := [
  op 43 (.move (.tmp 7)) 34,
  op 44 (.move (.tmp 9)) 69,
  oc 45 (.call ⟨(.value (.func 28)), #[(.tmp 43), (.tmp 44)], #[34, 69]⟩) 4,
  op 11 (.assign (.tmp 45)) 4]
def F7.r15 : List Oper := [
  op 46 (.move (.tmp 7)) 34,
  oc 47 (.call ⟨(.value (.func 18)), #[(.tmp 46)], #[34]⟩) 3,
  op 12 (.assign (.tmp 47)) 3]
def F7.r16 : List Oper := [
  op 48 (.move (.tmp 7)) 34,
  oc 49 (.call ⟨(.value (.func 17)), #[(.tmp 48)], #[34]⟩) 30,
  op 13 (.assign (.tmp 49)) 30]
def F7.r17 : List Oper := [
  op 50 (.move (.tmp 5)) 4,
  op 51 (.move (.tmp 50)) 4,
  ⟨(some 52), (.move (.tmp 10)), 4, "", #[], (some (51, true))⟩,
  op 53 (.pick (.tmp 51) (.tmp 52) (.const (.bool false))) 4,
  op 54 (.move (.tmp 53)) 4,
  ⟨(some 55), (.move (.tmp 11)), 4, "", #[], (some (54, true))⟩,
  op 56 (.pick (.tmp 54) (.tmp 55) (.const (.bool false))) 4,
  op 57 (.move (.tmp 56)) 4,
  ⟨(some 58), (.move (.tmp 12)), 3, "", #[], (some (57, true))⟩,
  ⟨(some 59), (.move (.tmp 9)), 69, "", #[], (some (57, true))⟩,
  ⟨(some 60), (.call ⟨(.builtin .len), #[(.tmp 59)], #[69]⟩), 3, "", #[], (some (57, true))⟩,
  ⟨(some 61), (.binOp .eql 3 (.tmp 58) (.tmp 60) 3), 4, "", #[], (some (57, true))⟩,
  op 62 (.pick (.tmp 57) (.tmp 61) (.const (.bool false))) 4,
  op 63 (.move (.tmp 62)) 4,
  ⟨(some 64), (.move (.tmp 13)), 30, "", #[], (some (63, true))⟩,
  ⟨(some 65), (.move (.tmp 9)), 69, "", #[], (some (63, true))⟩,
  ⟨(some 66), (.move (.tmp 9)), 69, "", #[], (some (63, true))⟩,
  ⟨(some 67), (.call ⟨(.builtin .len), #[(.tmp 66)], #[69]⟩), 3, "", #[], (some (63, true))⟩,
  ⟨(some 68), (.binOp .sub 3 (.tmp 67) (.const (.int .i64 1)) 3), 3, "", #[], (some (63, true))⟩,
  ⟨(some 69), (.indexAddr 69 (.tmp 65) (.tmp 68)), 0, "", #[], (some (63, true))⟩,
  ⟨(some 70), (.fieldAddr 41 (.tmp 69) 0), 0, "", #[], (some (63, true))⟩,
  ⟨(some 71), (.load 30 (.tmp 70)), 30, "", #[⟨0, .data⟩], (some (63, true))⟩,
  ⟨(some 72), (.binOp .gtr 30 (.tmp 64) (.tmp 71) 30), 4, "", #[], (some (63, true))⟩,
  op 73 (.pick (.tmp 63) (.tmp 72) (.const (.bool false))) 4,
  op 4 (.assign (.tmp 73)) 4]
def F7.t10 : Cd := (.region 10 F7.r10.toArray false)
theorem F7.t10_eq {θ : Tag (F7.t10, Q, e, w)} : cwE P F7.t10 Q e w θ = cwE P (.region 10 F7.r10.toArray false) Q e w := rfl
def F7.t11 : Cd := (.seq (.block 1 (.region 11 F7.r11.toArray false)) F7.t10)
theorem F7.t11_eq {θ : Tag (F7.t11, Q, e, w)} : cwE P F7.t11 Q e w θ = cwE P (.seq (.block 1 (.region 11 F7.r11.toArray false)) F7.t10) Q e w := rfl
def F7.t12 : Cd := (.seq (.region 12 F7.r12.toArray false) (.seq (.region 13 F7.r13.toArray false) (.seq (.region 14 F7.r14.toArray false) (.seq (.region 15 F7.r15.toArray false) (.seq (.region 16 F7.r16.toArray false) (.seq (.region 17 F7.r17.toArray false) .ret))))))
theorem F7.t12_eq {θ : Tag (F7.t12, Q, e, w)} : cwE P F7.t12 Q e w θ = cwE P (.seq (.region 12 F7.r12.toArray false) (.seq (.region 13 F7.r13.toArray false) (.seq (.region 14 F7.r14.toArray false) (.seq (.region 15 F7.r15.toArray false) (.seq (.region 16 F7.r16.toArray false) (.seq (.region 17 F7.r17.toArray false) .ret)))))) Q e w := rfl
def F7.t8 : Cd := (.seq (.seq (.region 8 F7.r8.toArray false) (.block 0 (.loop (.seq (.seq (.region 9 F7.r9.toArray false) (.cond (.tmp 29) .skip (.exit 0))) F7.t11)))) F7.t12)
theorem F7.t8_eq {θ : Tag (F7.t8, Q, e, w)} : cwE P F7.t8 Q e w θ = cwE P (.seq (.seq (.region 8 F7.r8.toArray false) (.block 0 (.loop (.seq (.seq (.region 9 F7.r9.toArray false) (.cond (.tmp 29) .skip (.exit 0))) F7.t11)))) F7.t12) Q e w := rfl
def F7.t4 : Cd := (.seq (.region 4 F7.r4.toArray false) (.seq (.region 5 F7.r5.toArray false) (.seq (.seq (.region 6 F7.r6.toArray false) (.cond (.tmp 25) (.seq (.region 7 F7.r7.toArray false) .ret) .skip)) F7.t8)))
theorem F7.t4_eq {θ : Tag (F7.t4, Q, e, w)} : cwE P F7.t4 Q e w θ = cwE P (.seq (.region 4 F7.r4.toArray false) (.seq (.region 5 F7.r5.toArray false) (.seq (.seq (.region 6 F7.r6.toArray false) (.cond (.tmp 25) (.seq (.region 7 F7.r7.toArray false) .ret) .skip)) F7.t8))) Q e w := rfl
def F7.code : Cd := (.seq (.region 0 F7.r0.toArray false) (.seq (.region 1 F7.r1.toArray false) (.seq (.seq (.region 2 F7.r2.toArray false) (.cond (.tmp 17) (.seq (.region 3 F7.r3.toArray false) .ret) .skip)) F7.t4)))
theorem F7.calls (hn : args.size ≤ 74) (h : cwE Tryd.prog F7.code (fnP Tryd.prog #[(.tmp 4)] R) (entry args) w) : Calls Tryd.prog 7 args w R :=
  calls_of_cwE (types := Tryd.prog.types) follows Tryd.func7 F7.code rfl (by kernel_rfl) hn h

def F8.r0 : List Oper := [
  oc 3 (.box 53 (.tmp 1)) 0,
  op 4 (.assign (.const (.bool false))) 4]
def F8.r1 : List Oper := [
  oc 24 (.call ⟨(.value (.func 11)), #[], #[]⟩) 4,
  op 5 (.assign (.tmp 24)) 4]
def F8.r2 : List Oper := [
  op 25 (.move (.tmp 0)) 67,
  od 26 (.load 53 (.tmp 3)) 53,
  oc 27 (.call ⟨(.value (.func 29)), #[(.tmp 26)], #[53]⟩) 3,
  oc 28 (.call ⟨(.value (.func 25)), #[(.tmp 25), (.tmp 27)], #[67, 3]⟩) 3,
  op 29 (.binOp .gtr 3 (.tmp 28) (.const (.int .i64 8388608)) 3) 4]
def F8.r3 : List Oper := [
  op 30 (.move (.tmp 5)) 4,
  op 4 (.assign (.tmp 30)) 4]
def F8.r4 : List Oper := [
  op 31 (.move (.tmp 0)) 67,
  oc 32 (.call ⟨(.value (.func 30)), #[(.tmp 31)], #[67]⟩) 34,
  op 6 (.assign (.tmp 32)) 34]
def F8.r5 : List Oper := [
  op 33 (.move (.tmp 6)) 34,
  op 34 (.binOp .eql 34 (.tmp 33) (.const (.pointer none)) 34) 4]
def F8.r6 : List Oper := [
  op 4 (.assign (.const (.bool false))) 4]
def F8.r7 : List Oper := [
  op 35 (.move (.tmp 6)) 34,
  oc 36 (.call ⟨(.value (.func 31)), #[(.tmp 35)], #[34]⟩) 34,
  op 7 (.assign (.tmp 36)) 34]
def F8.r8 : List Oper := [
  op 37 (.move (.tmp 7)) 34,
  op 38 (.binOp .eql 34 (.tmp 37) (.const (.pointer none)) 34) 4]
def F8.r9 : List Oper := [
  op 4 (.assign (.const (.bool false))) 4]
def F8.r10 : List Oper := [
  op 39 (.move (.tmp 6)) 34,
  oc 40 (.call ⟨(.value (.func 26)), #[(.tmp 39)], #[34]⟩) 69,
  op 8 (.assign (.tmp 40)) 69]
def F8.r11 : List Oper := [
  op 42 (.move (.tmp 7)) 34,
  od 43 (.load 53 (.tmp 3)) 53,
  oc 44 (.call ⟨(.value (.func 20)), #[(.tmp 42), (.tmp 43)], #[34, 53]⟩) 49,
  op 41 (.move (.tmp 44)) 49,
  op 45 (.extract (.tmp 41) 0) 30,
  op 46 (.extract (.tmp 41) 1) 26,
  op 9 (.assign (.tmp 45)) 30,
  op 10 (.assign (.tmp 46)) 26]
def F8.r12 : List Oper := [
  op 47 (.move (.tmp 7)) 34,
  oc 48 (.call ⟨(.value (.func 26)), #[(.tmp 47)], #[34]⟩) 69,
  op 11 (.assign (.tmp 48)) 69]
def F8.r13 : List Oper := [
  op 50 (.move (.tmp 6)) 34,
  op 51 (.fieldAddr 53 (.tmp 3) 1) 0,
  od 52 (.load 30 (.tmp 51)) 30,
  oc 53 (.call ⟨(.value (.func 15)), #[(.tmp 50), (.tmp 52)], #[34, 30]⟩) 42,
  op 49 (.move (.tmp 53)) 42,
  op 54 (.extract (.tmp 49) 0) 41,
  op 55 (.extract (.tmp 49) 1) 4,
  oc 12 (.alloc 41) 0,
  ⟨none, (.store 41 (.tmp 12) (.tmp 54)), 0, "", #[⟨0, .chain⟩], none⟩,
  op 13 (.assign (.tmp 55)) 4]
def F8.r14 : List Oper := [
  op 56 (.fieldAddr 53 (.tmp 3) 1) 0,
  od 57 (.load 30 (.tmp 56)) 30,
  op 14 (.assign (.tmp 57)) 30]
def F8.r15 : List Oper := [
  op 58 (.move (.tmp 10)) 26,
  op 59 (.binOp .neq 26 (.tmp 58) (.const (.int .i64 0)) 26) 4]
def F8.r16 : List Oper := [
  op 14 (.assign (.const (.int .u64 0))) 30]
def F8.r17 : List Oper := [
  op 60 (.move (.tmp 6)) 34,
  op 61 (.move (.tmp 7)) 34,
  op 62 (.move (.tmp 8)) 69,
  op 63 (.move (.tmp 14)) 30,
  oc 64 (.call ⟨(.value (.func 32)), #[(.tmp 60), (.tmp 61), (.tmp 62), (.tmp 63)], #[34, 34, 69, 30]⟩) 4,
  op 15 (.assign (.tmp 64)) 4]
def F8.r18 : List Oper := [
  op 65 (.move (.tmp 15)) 4,
  op 66 (.unOp .not 4 (.tmp 65)) 4]
def F8.r19 : List Oper := [
  op 4 (.assign (.const (.bool false))) 4]
def F8.r20 : List Oper := [
  op 16 (.assign (.const (.int .i64 0))) 3]
def F8.r21 : List Oper := [
  op 17 (.assign (.const (.int .i64 0))) 3]
def F8.r22 : List Oper := [
  op 67 (.move (.tmp 17)) 3,
  op 68 (.move (.tmp 8)) 69,
  op 69 (.call ⟨(.builtin .len), #[(.tmp 68)], #[69]⟩) 3,
  op 70 (.binOp .lss 3 (.tmp 67) (.tmp 69) 3) 4]
def F8.r24 : List Oper := [
  op 73 (.move (.tmp 8)) 69,
  op 74 (.move (.tmp 17)) 3,
  op 75 (.indexAddr 69 (.tmp 73) (.tmp 74)) 0,
  od 76 (.load 41 (.tmp 75)) 41,
  oc 18 (.alloc 41) 0,
  ⟨none, (.store 41 (.tmp 18) (.tmp 76)), 0, "", #[⟨0, .chain⟩], none⟩]
def F8.r25 : List Oper := [
  op 77 (.move (.tmp 10)) 26,
  op 78 (.binOp .eql 26 (.tmp 77) (.const (.int .i64 0)) 26) 4,
  op 79 (.move (.tmp 78)) 4,
  ⟨(some 80), (.fieldAddr 53 (.tmp 3) 0), 0, "", #[], (some (79, true))⟩,
  ⟨(some 81), (.load 22 (.tmp 80)), 22, "", #[⟨0, .data⟩], (some (79, true))⟩,
  ⟨(some 82), (.binOp .eql 22 (.tmp 81) (.const (.int .u8 2)) 22), 4, "", #[], (some (79, true))⟩,
  op 83 (.pick (.tmp 79) (.tmp 82) (.const (.bool false))) 4,
  op 84 (.move (.tmp 83)) 4,
  ⟨(some 85), (.fieldAddr 41 (.tmp 18) 0), 0, "", #[], (some (84, true))⟩,
  ⟨(some 86), (.load 30 (.tmp 85)), 30, "", #[⟨0, .data⟩], (some (84, true))⟩,
  ⟨(some 87), (.fieldAddr 53 (.tmp 3) 1), 0, "", #[], (some (84, true))⟩,
  ⟨(some 88), (.load 30 (.tmp 87)), 30, "", #[⟨0, .data⟩], (some (84, true))⟩,
  ⟨(some 89), (.binOp .eql 30 (.tmp 86) (.tmp 88) 30), 4, "", #[], (some (84, true))⟩,
  op 90 (.pick (.tmp 84) (.tmp 89) (.const (.bool false))) 4]
def F8.r26 : List Oper := [
  ⟨(some 91), (.move (.tmp 16)), 3, "", #[], none⟩,
  ⟨(some 92), (.move (.tmp 11)), 69, "", #[], none⟩,
  ⟨(some 93), (.call ⟨(.builtin .len), #[(.tmp 92)], #[69]⟩), 3, "", #[], none⟩,
  ⟨(some 94), (.binOp .geq 3 (.tmp 91) (.tmp 93) 3), 4, "", #[], none⟩,
  ⟨(some 95), (.move (.tmp 94)), 4, "", #[], none⟩,
  ⟨(some 96), (.move (.tmp 11)), 69, "", #[], (some (95, false))⟩,
  ⟨(some 97), (.move (.tmp 16)), 3, "", #[], (some (95, false))⟩,
  ⟨(some 98), (.indexAddr 69 (.tmp 96) (.tmp 97)), 0, "", #[], (some (95, false))⟩,
  ⟨(some 99), (.fieldAddr 41 (.tmp 98) 0), 0, "", #[], (some (95, false))⟩,
  ⟨(some 101), (.fieldAddr 41 (.tmp 18) 0), 0, "", #[], (some (95, false))⟩,
  ⟨(some 100), (.load 30 (.tmp 99)), 30, "", #[⟨0, .data⟩], (some (95, false))⟩,
  ⟨(some 102), (.load 30 (.tmp 101)), 30, "", #[⟨0, .data⟩], (some (95, false))⟩,
  ⟨(some 103), (.binOp .neq 30 (.tmp 100) (.tmp 102) 30), 4, "", #[], (some (95, false))⟩,
  ⟨(some 104), (.pick (.tmp 95) (.const (.bool true)) (.tmp 103)), 4, "", #[], none⟩]
def F8.r27 : List Oper := [
  op 4 (.assign (.const (.bool false))) 4]
def F8.r28 : List Oper := [
  op 105 (.move (.tmp 11)) 69,
  op 106 (.move (.tmp 16)) 3,
  op 107 (.indexAddr 69 (.tmp 105) (.tmp 106)) 0,
  od 108 (.load 41 (.tmp 107)) 41,
  oc 19 (.alloc 41) 0,
  ⟨none, (.store 41 (.tmp 19) (.tmp 108)), 0, "", #[⟨0, .chain⟩], none⟩]
def F8.r29 : List Oper := [
  op 109 (.move (.tmp 16)) 3,
  op 110 (.binOp .add 3 (.tmp 109) (.const (.int .i64 1)) 3) 3,
  op 16 (.assign (.tmp 110)) 3]
def F8.r30 : List Oper := [
  op 111 (.fieldAddr 41 (.tmp 18) 12) 0,
  od 112 (.load 3 (.tmp 111)) 3,
  op 20 (.assign (.tmp 112)) 3]
def F8.r31 : List Oper := [
  op 113 (.move (.tmp 10)) 26,
  op 114 (.binOp .eql 26 (.tmp 113) (.const (.int .i64 0)) 26) 4,
  op 115 (.move (.tmp 114)) 4,
  ⟨(some 116), (.fieldAddr 53 (.tmp 3) 0), 0, "", #[], (some (115, true))⟩,
  ⟨(some 117), (.load 22 (.tmp 116)), 22, "", #[⟨0, .data⟩], (some (115, true))⟩,
  ⟨(some 118), (.binOp .eql 22 (.tmp 117) (.const (.int .u8 1)) 22), 4, "", #[], (some (115, true))⟩,
  op 119 (.pick (.tmp 115) (.tmp 118) (.const (.bool false))) 4,
  op 120 (.move (.tmp 119)) 4,
  ⟨(some 121), (.fieldAddr 41 (.tmp 18) 0), 0, "", #[], (some (120, true))⟩,
  ⟨(some 122), (.load 30 (.tmp 121)), 30, "", #[⟨0, .data⟩], (some (120, true))⟩,
  ⟨(some 123), (.fieldAddr 53 (.tmp 3) 1), 0, "", #[], (some (120, true))⟩,
  ⟨(some 124), (.load 30 (.tmp 123)), 30, "", #[⟨0, .data⟩], (some (120, true))⟩,
  ⟨(some 125), (.binOp .eql 30 (.tmp 122) (.tmp 124) 30), 4, "", #[], (some (120, true))⟩,
  op 126 (.pick (.tmp 120) (.tmp 125) (.const (.bool false))) 4]
def F8.r32 : List Oper := [
  op 127 (.move (.tmp 20)) 3,
  op 128 (.binOp .add 3 (.tmp 127) (.const (.int .i64 1)) 3) 3,
  op 20 (.assign (.tmp 128)) 3]
def F8.r33 : List Oper := [
  op 129 (.move (.tmp 10)) 26,
  op 130 (.binOp .eql 26 (.tmp 129) (.const (.int .i64 0)) 26) 4,
  op 131 (.move (.tmp 130)) 4,
  ⟨(some 132), (.fieldAddr 53 (.tmp 3) 0), 0, "", #[], (some (131, true))⟩,
  ⟨(some 133), (.load 22 (.tmp 132)), 22, "", #[⟨0, .data⟩], (some (131, true))⟩,
  ⟨(some 134), (.binOp .eql 22 (.tmp 133) (.const (.int .u8 2)) 22), 4, "", #[], (some (131, true))⟩,
  op 135 (.pick (.tmp 131) (.tmp 134) (.const (.bool false))) 4,
  op 136 (.move (.tmp 135)) 4,
  ⟨(some 137), (.fieldAddr 41 (.tmp 18) 0), 0, "", #[], (some (136, true))⟩,
  ⟨(some 138), (.load 30 (.tmp 137)), 30, "", #[⟨0, .data⟩], (some (136, true))⟩,
  ⟨(some 139), (.fieldAddr 41 (.tmp 12) 1), 0, "", #[], (some (136, true))⟩,
  ⟨(some 140), (.load 30 (.tmp 139)), 30, "", #[⟨0, .data⟩], (some (136, true))⟩,
  ⟨(some 141), (.binOp .eql 30 (.tmp 138) (.tmp 140) 30), 4, "", #[], (some (136, true))⟩,
  op 142 (.pick (.tmp 136) (.tmp 141) (.const (.bool false))) 4]
def F8.r34 : List Oper := [
  op 143 (.move (.tmp 20)) 3,
  op 144 (.binOp .sub 3 (.tmp 143) (.const (.int .i64 1)) 3) 3,
  op 20 (.assign (.tmp 144)) 3]
def F8.r35 : List Oper := [
  op 145 (.move (.tmp 10)) 26,
  op 146 (.binOp .eql 26 (.tmp 145) (.const (.int .i64 0)) 26) 4,
  op 147 (.move (.tmp 146)) 4,
  ⟨(some 148), (.fieldAddr 41 (.tmp 18) 0), 0, "", #[], (some (147, true))⟩,
  ⟨(some 149), (.load 30 (.tmp 148)), 30, "", #[⟨0, .data⟩], (some (147, true))⟩,
  ⟨(some 150), (.fieldAddr 53 (.tmp 3) 1), 0, "", #[], (some (147, true))⟩,
  ⟨(some 151), (.load 30 (.tmp 150)), 30, "", #[⟨0, .data⟩], (some (147, true))⟩,
  ⟨(some 152), (.binOp .eql 30 (.tmp 149) (.tmp 151) 30), 4, "", #[], (some (147, true))⟩,
  op 153 (.pick (.tmp 147) (.tmp 152) (.const (.bool false))) 4,
  op 154 (.move (.tmp 153)) 4,
  ⟨(some 155), (.fieldAddr 53 (.tmp 3) 0), 0, "", #[], (some (154, true))⟩,
  ⟨(some 156), (.load 22 (.tmp 155)), 22, "", #[⟨0, .data⟩], (some (154, true))⟩,
  ⟨(some 157), (.binOp .neq 22 (.tmp 156) (.const (.int .u8 1)) 22), 4, "", #[], (some (154, true))⟩,
  op 158 (.pick (.tmp 154) (.tmp 157) (.const (.bool false))) 4,
  op 159 (.move (.tmp 158)) 4,
  ⟨(some 160), (.fieldAddr 53 (.tmp 3) 0), 0, "", #[], (some (159, true))⟩,
  ⟨(some 161), (.load 22 (.tmp 160)), 22, "", #[⟨0, .data⟩], (some (159, true))⟩,
  ⟨(some 162), (.binOp .neq 22 (.tmp 161) (.const (.int .u8 2)) 22), 4, "", #[], (some (159, true))⟩,
  op 163 (.pick (.tmp 159) (.tmp 162) (.const (.bool false))) 4,
  op 21 (.assign (.tmp 163)) 4]
def F8.r36 : List Oper := [
  ⟨(some 164), (.move (.tmp 21)), 4, "", #[], none⟩,
  ⟨(some 165), (.unOp .not 4 (.tmp 164)), 4, "", #[], none⟩,
  ⟨(some 166), (.move (.tmp 165)), 4, "", #[], none⟩,
  ⟨(some 169), (.move (.tmp 20)), 3, "", #[], (some (166, true))⟩,
  ⟨(some 167), (.load 41 (.tmp 19)), 41, "", #[⟨0, .data⟩], (some (166, true))⟩,
  ⟨(some 168), (.load 41 (.tmp 18)), 41, "", #[⟨64, .data⟩], (some (166, true))⟩,
  ⟨(some 170), (.call ⟨(.value (.func 33)), #[(.tmp 168), (.tmp 169)], #[41, 3]⟩), 41, "", #[⟨6, .chain⟩], (some (166, true))⟩,
  ⟨(some 171), (.binOp .neq 41 (.tmp 167) (.tmp 170) 41), 4, "", #[], (some (166, true))⟩,
  ⟨(some 172), (.pick (.tmp 166) (.tmp 171) (.const (.bool false))), 4, "", #[], none⟩]
def F8.r37 : List Oper := [
  op 4 (.assign (.const (.bool false))) 4]
def F8.r23 : List Oper := [
  op 71 (.move (.tmp 17)) 3,
  op 72 (.binOp .add 3 (.tmp 71) (.const (.int .i64 1)) 3) 3,
  op 17 (.assign (.tmp 72)) 3]
def F8.r38 : List Oper := [
  op 22 (.assign (.const (.int .i64 0))) 3]
def F8.r39 : List Oper := [
  op 173 (.move (.tmp 10)) 26,
  op 174 (.binOp .eql 26 (.tmp 173) (.const (.int .i64 0)) 26) 4,
  op 175 (.move (.tmp 174)) 4,
  ⟨(some 176), (.fieldAddr 53 (.tmp 3) 0), 0, "", #[], (some (175, true))⟩,
  ⟨(some 177), (.load 22 (.tmp 176)), 22, "", #[⟨0, .data⟩], (some (175, true))⟩,
  ⟨(some 178), (.binOp .eql 22 (.tmp 177) (.const (.int .u8 1)) 22), 4, "", #[], (some (175, true))⟩,
  op 179 (.pick (.tmp 175) (.tmp 178) (.const (.bool false))) 4]
def F8.r40 : List Oper := [
  op 22 (.assign (.const (.int .i64 1))) 3]
def F8.r41 : List Oper := [
  op 180 (.move (.tmp 6)) 34,
  oc 181 (.call ⟨(.value (.func 26)), #[(.tmp 180)], #[34]⟩) 69,
  op 23 (.assign (.tmp 181)) 69]
def F8.r42 : List Oper := [
  op 182 (.move (.tmp 5)) 4,
  op 183 (.move (.tmp 182)) 4,
  ⟨(some 184), (.move (.tmp 11)), 69, "", #[], (some (183, true))⟩,
  ⟨(some 185), (.call ⟨(.builtin .len), #[(.tmp 184)], #[69]⟩), 3, "", #[], (some (183, true))⟩,
  ⟨(some 186), (.move (.tmp 16)), 3, "", #[], (some (183, true))⟩,
  ⟨(some 187), (.move (.tmp 22)), 3, "", #[], (some (183, true))⟩,
  ⟨(some 188), (.binOp .add 3 (.tmp 186) (.tmp 187) 3), 3, "", #[], (some (183, true))⟩,
  ⟨(some 189), (.binOp .eql 3 (.tmp 185) (.tmp 188) 3), 4, "", #[], (some (183, true))⟩,
  op 190 (.pick (.tmp 183) (.tmp 189) (.const (.bool false))) 4,
  op 191 (.move (.tmp 190)) 4,
  ⟨(some 192), (.move (.tmp 23)), 69, "", #[], (some (191, true))⟩,
  ⟨(some 193), (.call ⟨(.builtin .len), #[(.tmp 192)], #[69]⟩), 3, "", #[], (some (191, true))⟩,
  ⟨(some 194), (.move (.tmp 8)), 69, "", #[], (some (191, true))⟩,
  ⟨(some 195), (.call ⟨(.builtin .len), #[(.tmp 194)], #[69]⟩), 3, "", #[], (some (191, true))⟩,
  ⟨(some 196), (.binOp .eql 3 (.tmp 193) (.tmp 195) 3), 4, "", #[], (some (191, true))⟩,
  op 197 (.pick (.tmp 191) (.tmp 196) (.const (.bool false))) 4,
  op 198 (.move (.tmp 197)) 4,
  ⟨(some 199), (.move (.tmp 10)), 26, "", #[], (some (198, true))⟩,
  ⟨(some 200), (.binOp .neq 26 (.tmp 199) (.const (.int .i64 0)) 26), 4, "", #[], (some (198, true))⟩,
  ⟨(some 201), (.move (.tmp 9)), 30, "", #[], (some (198, true))⟩,
  ⟨(some 202), (.binOp .eql 30 (.tmp 201) (.const (.int .u64 0)) 30), 4, "", #[], (some (198, true))⟩,
  ⟨(some 203), (.binOp .eql 4 (.tmp 200) (.tmp 202) 4), 4, "", #[], (some (198, true))⟩,
  op 204 (.pick (.tmp 198) (.tmp 203) (.const (.bool false))) 4,
  op 4 (.assign (.tmp 204)) 4]
def F8.t35 : Cd := (.seq (.region 35 F8.r35.toArray false) (.seq (.region 36 F8.r36.toArray true) (.cond (.tmp 172) (.seq (.region 37 F8.r37.toArray false) .ret) .skip)))
theorem F8.t35_eq {θ : Tag (F8.t35, Q, e, w)} : cwE P F8.t35 Q e w θ = cwE P (.seq (.region 35 F8.r35.toArray false) (.seq (.region 36 F8.r36.toArray true) (.cond (.tmp 172) (.seq (.region 37 F8.r37.toArray false) .ret) .skip))) Q e w := rfl
def F8.t33 : Cd := (.seq (.seq (.region 33 F8.r33.toArray false) (.cond (.tmp 142) (.region 34 F8.r34.toArray false) .skip)) F8.t35)
theorem F8.t33_eq {θ : Tag (F8.t33, Q, e, w)} : cwE P F8.t33 Q e w θ = cwE P (.seq (.seq (.region 33 F8.r33.toArray false) (.cond (.tmp 142) (.region 34 F8.r34.toArray false) .skip)) F8.t35) Q e w := rfl
def F8.t28 : Cd := (.seq (.region 28 F8.r28.toArray false) (.seq (.region 29 F8.r29.toArray false) (.seq (.region 30 F8.r30.toArray false) (.seq (.seq (.region 31 F8.r31.toArray false) (.cond (.tmp 126) (.region 32 F8.r32.toArray false) .skip)) F8.t33))))
theorem F8.t28_eq {θ : Tag (F8.t28, Q, e, w)} : cwE P F8.t28 Q e w θ = cwE P (.seq (.region 28 F8.r28.toArray false) (.seq (.region 29 F8.r29.toArray false) (.seq (.region 30 F8.r30.toArray false) (.seq (.seq (.region 31 F8.r31.toArray false) (.cond (.tmp 126) (.region 32 F8.r32.toArray false) .skip)) F8.t33)))) Q e w := rfl
def F8.t26 : Cd := (.seq (.seq (.region 26 F8.r26.toArray true) (.cond (.tmp 104) (.seq (.region 27 F8.r27.toArray false) .ret) .skip)) F8.t28)
theorem F8.t26_eq {θ : Tag (F8.t26, Q, e, w)} : cwE P F8.t26 Q e w θ = cwE P (.seq (.seq (.region 26 F8.r26.toArray true) (.cond (.tmp 104) (.seq (.region 27 F8.r27.toArray false) .ret) .skip)) F8.t28) Q e w := rfl
def F8.t23 : Cd := (.region 23 F8.r23.toArray false)
theorem F8.t23_eq {θ : Tag (F8.t23, Q, e, w)} : cwE P F8.t23 Q e w θ = cwE P (.region 23 F8.r23.toArray false) Q e w := rfl
def F8.t24 : Cd := (.seq (.block 1 (.seq (.region 24 F8.r24.toArray false) (.seq (.seq (.region 25 F8.r25.toArray false) (.cond (.tmp 90) (.exit 1) .skip)) F8.t26))) F8.t23)
theorem F8.t24_eq {θ : Tag (F8.t24, Q, e, w)} : cwE P F8.t24 Q e w θ = cwE P (.seq (.block 1 (.seq (.region 24 F8.r24.toArray false) (.seq (.seq (.region 25 F8.r25.toArray false) (.cond (.tmp 90) (.exit 1) .skip)) F8.t26))) F8.t23) Q e w := rfl
def F8.t41 : Cd := (.seq (.region 41 F8.r41.toArray false) (.seq (.region 42 F8.r42.toArray false) .ret))
theorem F8.t41_eq {θ : Tag (F8.t41, Q, e, w)} : cwE P F8.t41 Q e w θ = cwE P (.seq (.region 41 F8.r41.toArray false) (.seq (.region 42 F8.r42.toArray false) .ret)) Q e w := rfl
def F8.t38 : Cd := (.seq (.region 38 F8.r38.toArray false) (.seq (.seq (.region 39 F8.r39.toArray false) (.cond (.tmp 179) (.region 40 F8.r40.toArray false) .skip)) F8.t41))
theorem F8.t38_eq {θ : Tag (F8.t38, Q, e, w)} : cwE P F8.t38 Q e w θ = cwE P (.seq (.region 38 F8.r38.toArray false) (.seq (.seq (.region 39 F8.r39.toArray false) (.cond (.tmp 179) (.region 40 F8.r40.toArray false) .skip)) F8.t41)) Q e w := rfl
def F8.t20 : Cd := (.seq (.region 20 F8.r20.toArray false) (.seq (.seq (.region 21 F8.r21.toArray false) (.block 0 (.loop (.seq (.seq (.region 22 F8.r22.toArray false) (.cond (.tmp 70) .skip (.exit 0))) F8.t24)))) F8.t38))
theorem F8.t20_eq {θ : Tag (F8.t20, Q, e, w)} : cwE P F8.t20 Q e w θ = cwE P (.seq (.region 20 F8.r20.toArray false) (.seq (.seq (.region 21 F8.r21.toArray false) (.block 0 (.loop (.seq (.seq (.region 22 F8.r22.toArray false) (.cond (.tmp 70) .skip (.exit 0))) F8.t24)))) F8.t38)) Q e w := rfl
def F8.t17 : Cd := (.seq (.region 17 F8.r17.toArray false) (.seq (.seq (.region 18 F8.r18.toArray false) (.cond (.tmp 66) (.seq (.region 19 F8.r19.toArray false) .ret) .skip)) F8.t20))
theorem F8.t17_eq {θ : Tag (F8.t17, Q, e, w)} : cwE P F8.t17 Q e w θ = cwE P (.seq (.region 17 F8.r17.toArray false) (.seq (.seq (.region 18 F8.r18.toArray false) (.cond (.tmp 66) (.seq (.region 19 F8.r19.toArray false) .ret) .skip)) F8.t20)) Q e w := rfl
def F8.t10 : Cd := (.seq (.region 10 F8.r10.toArray false) (.seq (.region 11 F8.r11.toArray false) (.seq (.region 12 F8.r12.toArray false) (.seq (.region 13 F8.r13.toArray false) (.seq (.region 14 F8.r14.toArray false) (.seq (.seq (.region 15 F8.r15.toArray false) (.cond (.tmp 59) (.region 16 F8.r16.toArray false) .skip)) F8.t17))))))
theorem F8.t10_eq {θ : Tag (F8.t10, Q, e, w)} : cwE P F8.t10 Q e w θ = cwE P (.seq (.region 10 F8.r10.toArray false) (.seq (.region 11 F8.r11.toArray false) (.seq (.region 12 F8.r12.toArray false) (.seq (.region 13 F8.r13.toArray false) (.seq (.region 14 F8.r14.toArray false) (.seq (.seq (.region 15 F8.r15.toArray false) (.cond (.tmp 59) (.region 16 F8.r16.toArray false) .skip)) F8.t17)))))) Q e w := rfl
def F8.t7 : Cd := (.seq (.region 7 F8.r7.toArray false) (.seq (.seq (.region 8 F8.r8.toArray false) (.cond (.tmp 38) (.seq (.region 9 F8.r9.toArray false) .ret) .skip)) F8.t10))
theorem F8.t7_eq {θ : Tag (F8.t7, Q, e, w)} : cwE P F8.t7 Q e w θ = cwE P (.seq (.region 7 F8.r7.toArray false) (.seq (.seq (.region 8 F8.r8.toArray false) (.cond (.tmp 38) (.seq (.region 9 F8.r9.toArray false) .ret) .skip)) F8.t10)) Q e w := rfl
def F8.t4 : Cd := (.seq (.region 4 F8.r4.toArray false) (.seq (.seq (.region 5 F8.r5.toArray false) (.cond (.tmp 34) (.seq (.region 6 F8.r6.toArray false) .ret) .skip)) F8.t7))
theorem F8.t4_eq {θ : Tag (F8.t4, Q, e, w)} : cwE P F8.t4 Q e w θ = cwE P (.seq (.region 4 F8.r4.toArray false) (.seq (.seq (.region 5 F8.r5.toArray false) (.cond (.tmp 34) (.seq (.region 6 F8.r6.toArray false) .ret) .skip)) F8.t7)) Q e w := rfl
def F8.code : Cd := (.seq (.region 0 F8.r0.toArray false) (.seq (.region 1 F8.r1.toArray false) (.seq (.seq (.region 2 F8.r2.toArray false) (.cond (.tmp 29) (.seq (.region 3 F8.r3.toArray false) .ret) .skip)) F8.t4)))
theorem F8.calls (hn : args.size ≤ 205) (h : cwE Tryd.prog F8.code (fnP Tryd.prog #[(.tmp 4)] R) (entry args) w) : Calls Tryd.prog 8 args w R :=
  calls_of_cwE (types := Tryd.prog.types) follows Tryd.func8 F8.code rfl (by kernel_rfl) hn h

def F9.r0 : List Oper := [
  oc 4 (.box 53 (.tmp 1)) 0,
  oc 5 (.box 53 (.tmp 2)) 0,
  op 6 (.assign (.const (.bool false))) 4]
def F9.r1 : List Oper := [
  oc 24 (.call ⟨(.value (.func 11)), #[], #[]⟩) 4,
  op 7 (.assign (.tmp 24)) 4]
def F9.r2 : List Oper := [
  ⟨(some 25), (.move (.tmp 0)), 67, "", #[], none⟩,
  ⟨(some 26), (.load 53 (.tmp 4)), 53, "", #[⟨84, .data⟩], none⟩,
  ⟨(some 28), (.load 53 (.tmp 5)), 53, "", #[⟨80, .data⟩], none⟩,
  ⟨(some 27), (.call ⟨(.value (.func 29)), #[(.tmp 26)], #[53]⟩), 3, "", #[⟨2, .chain⟩], none⟩,
  ⟨(some 29), (.call ⟨(.value (.func 29)), #[(.tmp 28)], #[53]⟩), 3, "", #[⟨4, .chain⟩], none⟩,
  ⟨(some 30), (.binOp .add 3 (.tmp 27) (.tmp 29) 3), 3, "", #[], none⟩,
  ⟨(some 31), (.call ⟨(.value (.func 25)), #[(.tmp 25), (.tmp 30)], #[67, 3]⟩), 3, "", #[⟨6, .chain⟩], none⟩,
  ⟨(some 32), (.binOp .gtr 3 (.tmp 31) (.const (.int .i64 8388608)) 3), 4, "", #[], none⟩]
def F9.r3 : List Oper := [
  op 33 (.move (.tmp 7)) 4,
  op 6 (.assign (.tmp 33)) 4]
def F9.r4 : List Oper := [
  op 34 (.fieldAddr 53 (.tmp 4) 0) 0,
  od 35 (.load 22 (.tmp 34)) 22,
  op 36 (.binOp .eql 22 (.tmp 35) (.const (.int .u8 1)) 22) 4,
  op 37 (.move (.tmp 36)) 4,
  ⟨(some 38), (.fieldAddr 53 (.tmp 5) 0), 0, "", #[], (some (37, false))⟩,
  ⟨(some 39), (.load 22 (.tmp 38)), 22, "", #[⟨0, .data⟩], (some (37, false))⟩,
  ⟨(some 40), (.binOp .eql 22 (.tmp 39) (.const (.int .u8 1)) 22), 4, "", #[], (some (37, false))⟩,
  op 41 (.pick (.tmp 37) (.const (.bool true)) (.tmp 40)) 4,
  op 8 (.assign (.tmp 41)) 4]
def F9.r5 : List Oper := [
  op 42 (.fieldAddr 53 (.tmp 4) 0) 0,
  od 43 (.load 22 (.tmp 42)) 22,
  op 44 (.binOp .eql 22 (.tmp 43) (.const (.int .u8 2)) 22) 4,
  op 45 (.move (.tmp 44)) 4,
  ⟨(some 46), (.fieldAddr 53 (.tmp 5) 0), 0, "", #[], (some (45, false))⟩,
  ⟨(some 47), (.load 22 (.tmp 46)), 22, "", #[⟨0, .data⟩], (some (45, false))⟩,
  ⟨(some 48), (.binOp .eql 22 (.tmp 47) (.const (.int .u8 2)) 22), 4, "", #[], (some (45, false))⟩,
  op 49 (.pick (.tmp 45) (.const (.bool true)) (.tmp 48)) 4,
  op 9 (.assign (.tmp 49)) 4]
def F9.r6 : List Oper := [
  op 50 (.fieldAddr 53 (.tmp 4) 1) 0,
  od 51 (.load 30 (.tmp 50)) 30,
  op 52 (.fieldAddr 53 (.tmp 5) 1) 0,
  od 53 (.load 30 (.tmp 52)) 30,
  op 54 (.binOp .eql 30 (.tmp 51) (.tmp 53) 30) 4,
  op 55 (.move (.tmp 54)) 4,
  ⟨(some 56), (.move (.tmp 8)), 4, "", #[], (some (55, false))⟩,
  op 57 (.pick (.tmp 55) (.const (.bool true)) (.tmp 56)) 4,
  op 58 (.move (.tmp 57)) 4,
  ⟨(some 59), (.move (.tmp 9)), 4, "", #[], (some (58, false))⟩,
  op 60 (.pick (.tmp 58) (.const (.bool true)) (.tmp 59)) 4,
  op 61 (.move (.tmp 60)) 4,
  ⟨(some 62), (.fieldAddr 53 (.tmp 4) 0), 0, "", #[], (some (61, false))⟩,
  ⟨(some 63), (.load 22 (.tmp 62)), 22, "", #[⟨0, .data⟩], (some (61, false))⟩,
  ⟨(some 64), (.binOp .eql 22 (.tmp 63) (.const (.int .u8 3)) 22), 4, "", #[], (some (61, false))⟩,
  ⟨(some 65), (.move (.tmp 64)), 4, "", #[], (some (61, false))⟩,
  ⟨(some 66), (.fieldAddr 53 (.tmp 5) 0), 0, "", #[], (some (65, true))⟩,
  ⟨(some 67), (.load 22 (.tmp 66)), 22, "", #[⟨0, .data⟩], (some (65, true))⟩,
  ⟨(some 68), (.binOp .eql 22 (.tmp 67) (.const (.int .u8 3)) 22), 4, "", #[], (some (65, true))⟩,
  ⟨(some 69), (.pick (.tmp 65) (.tmp 68) (.const (.bool false))), 4, "", #[], (some (61, false))⟩,
  op 70 (.pick (.tmp 61) (.const (.bool true)) (.tmp 69)) 4]
def F9.r7 : List Oper := [
  op 71 (.move (.tmp 7)) 4,
  op 6 (.assign (.tmp 71)) 4]
def F9.r8 : List Oper := [
  op 72 (.move (.tmp 0)) 67,
  oc 73 (.call ⟨(.value (.func 30)), #[(.tmp 72)], #[67]⟩) 34,
  op 10 (.assign (.tmp 73)) 34]
def F9.r9 : List Oper := [
  op 74 (.move (.tmp 10)) 34,
  op 75 (.binOp .eql 34 (.tmp 74) (.const (.pointer none)) 34) 4]
def F9.r10 : List Oper := [
  op 6 (.assign (.const (.bool false))) 4]
def F9.r11 : List Oper := [
  op 76 (.move (.tmp 10)) 34,
  oc 77 (.call ⟨(.value (.func 31)), #[(.tmp 76)], #[34]⟩) 34,
  op 11 (.assign (.tmp 77)) 34]
def F9.r12 : List Oper := [
  op 78 (.move (.tmp 11)) 34,
  op 79 (.binOp .eql 34 (.tmp 78) (.const (.pointer none)) 34) 4]
def F9.r13 : List Oper := [
  op 6 (.assign (.const (.bool false))) 4]
def F9.r14 : List Oper := [
  op 81 (.move (.tmp 10)) 34,
  od 82 (.load 53 (.tmp 4)) 53,
  oc 83 (.call ⟨(.value (.func 20)), #[(.tmp 81), (.tmp 82)], #[34, 53]⟩) 49,
  op 80 (.move (.tmp 83)) 49,
  op 84 (.extract (.tmp 80) 0) 30,
  op 85 (.extract (.tmp 80) 1) 26,
  op 12 (.assign (.tmp 84)) 30,
  op 13 (.assign (.tmp 85)) 26]
def F9.r15 : List Oper := [
  op 87 (.move (.tmp 10)) 34,
  od 88 (.load 53 (.tmp 5)) 53,
  oc 89 (.call ⟨(.value (.func 20)), #[(.tmp 87), (.tmp 88)], #[34, 53]⟩) 49,
  op 86 (.move (.tmp 89)) 49,
  op 90 (.extract (.tmp 86) 0) 30,
  op 91 (.extract (.tmp 86) 1) 26,
  op 14 (.assign (.tmp 90)) 30,
  op 15 (.assign (.tmp 91)) 26]
def F9.r16 : List Oper := [
  op 93 (.move (.tmp 11)) 34,
  od 94 (.load 53 (.tmp 5)) 53,
  oc 95 (.call ⟨(.value (.func 20)), #[(.tmp 93), (.tmp 94)], #[34, 53]⟩) 49,
  op 92 (.move (.tmp 95)) 49,
  op 96 (.extract (.tmp 92) 0) 30,
  op 97 (.extract (.tmp 92) 1) 26,
  op 16 (.assign (.tmp 96)) 30,
  op 17 (.assign (.tmp 97)) 26]
def F9.r17 : List Oper := [
  op 99 (.move (.tmp 11)) 34,
  od 100 (.load 53 (.tmp 4)) 53,
  oc 101 (.call ⟨(.value (.func 20)), #[(.tmp 99), (.tmp 100)], #[34, 53]⟩) 49,
  op 98 (.move (.tmp 101)) 49,
  op 102 (.extract (.tmp 98) 0) 30,
  op 103 (.extract (.tmp 98) 1) 26,
  op 18 (.assign (.tmp 102)) 30,
  op 19 (.assign (.tmp 103)) 26]
def F9.r18 : List Oper := [
  op 104 (.move (.tmp 10)) 34,
  oc 105 (.call ⟨(.value (.func 26)), #[(.tmp 104)], #[34]⟩) 69,
  op 20 (.assign (.tmp 105)) 69]
def F9.r19 : List Oper := [
  op 106 (.move (.tmp 11)) 34,
  oc 107 (.call ⟨(.value (.func 26)), #[(.tmp 106)], #[34]⟩) 69,
  op 21 (.assign (.tmp 107)) 69]
def F9.r20 : List Oper := [
  op 108 (.move (.tmp 13)) 26,
  op 109 (.move (.tmp 19)) 26,
  op 110 (.binOp .neq 26 (.tmp 108) (.tmp 109) 26) 4,
  op 111 (.move (.tmp 110)) 4,
  ⟨(some 112), (.move (.tmp 15)), 26, "", #[], (some (111, false))⟩,
  ⟨(some 113), (.move (.tmp 17)), 26, "", #[], (some (111, false))⟩,
  ⟨(some 114), (.binOp .neq 26 (.tmp 112) (.tmp 113) 26), 4, "", #[], (some (111, false))⟩,
  op 115 (.pick (.tmp 111) (.const (.bool true)) (.tmp 114)) 4,
  op 116 (.move (.tmp 115)) 4,
  ⟨(some 117), (.move (.tmp 20)), 69, "", #[], (some (116, false))⟩,
  ⟨(some 118), (.call ⟨(.builtin .len), #[(.tmp 117)], #[69]⟩), 3, "", #[], (some (116, false))⟩,
  ⟨(some 119), (.move (.tmp 21)), 69, "", #[], (some (116, false))⟩,
  ⟨(some 120), (.call ⟨(.builtin .len), #[(.tmp 119)], #[69]⟩), 3, "", #[], (some (116, false))⟩,
  ⟨(some 121), (.binOp .neq 3 (.tmp 118) (.tmp 120) 3), 4, "", #[], (some (116, false))⟩,
  op 122 (.pick (.tmp 116) (.const (.bool true)) (.tmp 121)) 4]
def F9.r21 : List Oper := [
  op 6 (.assign (.const (.bool false))) 4]
def F9.r22 : List Oper := [
  op 22 (.assign (.const (.int .i64 0))) 3]
def F9.r23 : List Oper := [
  op 123 (.move (.tmp 22)) 3,
  op 124 (.move (.tmp 20)) 69,
  op 125 (.call ⟨(.builtin .len), #[(.tmp 124)], #[69]⟩) 3,
  op 126 (.binOp .lss 3 (.tmp 123) (.tmp 125) 3) 4]
def F9.r25 : List Oper := [
  ⟨(some 129), (.move (.tmp 20)), 69, "", #[], none⟩,
  ⟨(some 130), (.move (.tmp 22)), 3, "", #[], none⟩,
  ⟨(some 131), (.indexAddr 69 (.tmp 129) (.tmp 130)), 0, "", #[], none⟩,
  ⟨(some 133), (.move (.tmp 21)), 69, "", #[], none⟩,
  ⟨(some 134), (.move (.tmp 22)), 3, "", #[], none⟩,
  ⟨(some 135), (.indexAddr 69 (.tmp 133) (.tmp 134)), 0, "", #[], none⟩,
  ⟨(some 132), (.load 41 (.tmp 131)), 41, "", #[⟨0, .data⟩], none⟩,
  ⟨(some 136), (.load 41 (.tmp 135)), 41, "", #[⟨0, .data⟩], none⟩,
  ⟨(some 137), (.binOp .neq 41 (.tmp 132) (.tmp 136) 41), 4, "", #[], none⟩]
def F9.r26 : List Oper := [
  op 6 (.assign (.const (.bool false))) 4]
def F9.r24 : List Oper := [
  op 127 (.move (.tmp 22)) 3,
  op 128 (.binOp .add 3 (.tmp 127) (.const (.int .i64 1)) 3) 3,
  op 22 (.assign (.tmp 128)) 3]
def F9.r27 : List Oper := [
  op 138 (.move (.tmp 10)) 34,
  op 139 (.move (.tmp 11)) 34,
  op 140 (.move (.tmp 20)) 69,
  oc 141 (.call ⟨(.value (.func 32)), #[(.tmp 138), (.tmp 139), (.tmp 140), (.const (.int .u64 0))], #[34, 34, 69, 30]⟩) 4,
  op 23 (.assign (.tmp 141)) 4]
def F9.r28 : List Oper := [
  op 142 (.move (.tmp 7)) 4,
  op 143 (.move (.tmp 142)) 4,
  ⟨(some 144), (.move (.tmp 23)), 4, "", #[], (some (143, true))⟩,
  op 145 (.pick (.tmp 143) (.tmp 144) (.const (.bool false))) 4,
  op 6 (.assign (.tmp 145)) 4]
def F9.t24 : Cd := (.region 24 F9.r24.toArray false)
theorem F9.t24_eq {θ : Tag (F9.t24, Q, e, w)} : cwE P F9.t24 Q e w θ = cwE P (.region 24 F9.r24.toArray false) Q e w := rfl
def F9.t25 : Cd := (.seq (.block 1 (.seq (.region 25 F9.r25.toArray true) (.cond (.tmp 137) (.seq (.region 26 F9.r26.toArray false) .ret) .skip))) F9.t24)
theorem F9.t25_eq {θ : Tag (F9.t25, Q, e, w)} : cwE P F9.t25 Q e w θ = cwE P (.seq (.block 1 (.seq (.region 25 F9.r25.toArray true) (.cond (.tmp 137) (.seq (.region 26 F9.r26.toArray false) .ret) .skip))) F9.t24) Q e w := rfl
def F9.t27 : Cd := (.seq (.region 27 F9.r27.toArray false) (.seq (.region 28 F9.r28.toArray false) .ret))
theorem F9.t27_eq {θ : Tag (F9.t27, Q, e, w)} : cwE P F9.t27 Q e w θ = cwE P (.seq (.region 27 F9.r27.toArray false) (.seq (.region 28 F9.r28.toArray false) .ret)) Q e w := rfl
def F9.t22 : Cd := (.seq (.seq (.region 22 F9.r22.toArray false) (.block 0 (.loop (.seq (.seq (.region 23 F9.r23.toArray false) (.cond (.tmp 126) .skip (.exit 0))) F9.t25)))) F9.t27)
theorem F9.t22_eq {θ : Tag (F9.t22, Q, e, w)} : cwE P F9.t22 Q e w θ = cwE P (.seq (.seq (.region 22 F9.r22.toArray false) (.block 0 (.loop (.seq (.seq (.region 23 F9.r23.toArray false) (.cond (.tmp 126) .skip (.exit 0))) F9.t25)))) F9.t27) Q e w := rfl
def F9.t14 : Cd := (.seq (.region 14 F9.r14.toArray false) (.seq (.region 15 F9.r15.toArray false) (.seq (.region 16 F9.r16.toArray false) (.seq (.region 17 F9.r17.toArray false) (.seq (.region 18 F9.r18.toArray false) (.seq (.region 19 F9.r19.toArray false) (.seq (.seq (.region 20 F9.r20.toArray false) (.cond (.tmp 122) (.seq (.region 21 F9.r21.toArray false) .ret) .skip)) F9.t22)))))))
theorem F9.t14_eq {θ : Tag (F9.t14, Q, e, w)} : cwE P F9.t14 Q e w θ = cwE P (.seq (.region 14 F9.r14.toArray false) (.seq (.region 15 F9.r15.toArray false) (.seq (.region 16 F9.r16.toArray false) (.seq (.region 17 F9.r17.toArray false) (.seq (.region 18 F9.r18.toArray false) (.seq (.region 19 F9.r19.toArray false) (.seq (.seq (.region 20 F9.r20.toArray false) (.cond (.tmp 122) (.seq (.region 21 F9.r21.toArray false) .ret) .skip)) F9.t22))))))) Q e w := rfl
def F9.t11 : Cd := (.seq (.region 11 F9.r11.toArray false) (.seq (.seq (.region 12 F9.r12.toArray false) (.cond (.tmp 79) (.seq (.region 13 F9.r13.toArray false) .ret) .skip)) F9.t14))
theorem F9.t11_eq {θ : Tag (F9.t11, Q, e, w)} : cwE P F9.t11 Q e w θ = cwE P (.seq (.region 11 F9.r11.toArray false) (.seq (.seq (.region 12 F9.r12.toArray false) (.cond (.tmp 79) (.seq (.region 13 F9.r13.toArray false) .ret) .skip)) F9.t14)) Q e w := rfl
def F9.t8 : Cd := (.seq (.region 8 F9.r8.toArray false) (.seq (.seq (.region 9 F9.r9.toArray false) (.cond (.tmp 75) (.seq (.region 10 F9.r10.toArray false) .ret) .skip)) F9.t11))
theorem F9.t8_eq {θ : Tag (F9.t8, Q, e, w)} : cwE P F9.t8 Q e w θ = cwE P (.seq (.region 8 F9.r8.toArray false) (.seq (.seq (.region 9 F9.r9.toArray false) (.cond (.tmp 75) (.seq (.region 10 F9.r10.toArray false) .ret) .skip)) F9.t11)) Q e w := rfl
def F9.t4 : Cd := (.seq (.region 4 F9.r4.toArray false) (.seq (.region 5 F9.r5.toArray false) (.seq (.seq (.region 6 F9.r6.toArray false) (.cond (.tmp 70) (.seq (.region 7 F9.r7.toArray false) .ret) .skip)) F9.t8)))
theorem F9.t4_eq {θ : Tag (F9.t4, Q, e, w)} : cwE P F9.t4 Q e w θ = cwE P (.seq (.region 4 F9.r4.toArray false) (.seq (.region 5 F9.r5.toArray false) (.seq (.seq (.region 6 F9.r6.toArray false) (.cond (.tmp 70) (.seq (.region 7 F9.r7.toArray false) .ret) .skip)) F9.t8))) Q e w := rfl
def F9.code : Cd := (.seq (.region 0 F9.r0.toArray false) (.seq (.region 1 F9.r1.toArray false) (.seq (.seq (.region 2 F9.r2.toArray true) (.cond (.tmp 32) (.seq (.region 3 F9.r3.toArray false) .ret) .skip)) F9.t4)))
theorem F9.calls (hn : args.size ≤ 146) (h : cwE Tryd.prog F9.code (fnP Tryd.prog #[(.tmp 6)] R) (entry args) w) : Calls Tryd.prog 9 args w R :=
  calls_of_cwE (types := Tryd.prog.types) follows Tryd.func9 F9.code rfl (by kernel_rfl) hn h

def F10.r0 : List Oper := [
  op 4 (.assign (.const (.bool false))) 4]
def F10.r1 : List Oper := [
  oc 25 (.call ⟨(.value (.func 11)), #[], #[]⟩) 4,
  op 5 (.assign (.tmp 25)) 4]
def F10.r2 : List Oper := [
  op 26 (.move (.tmp 0)) 67,
  op 27 (.move (.tmp 1)) 67,
  oc 28 (.call ⟨(.value (.func 25)), #[(.tmp 27), (.const (.int .i64 0))], #[67, 3]⟩) 3,
  oc 29 (.call ⟨(.value (.func 25)), #[(.tmp 26), (.tmp 28)], #[67, 3]⟩) 3,
  op 30 (.binOp .gtr 3 (.tmp 29) (.const (.int .i64 8388608)) 3) 4]
def F10.r3 : List Oper := [
  op 31 (.move (.tmp 5)) 4,
  op 4 (.assign (.tmp 31)) 4]
def F10.r4 : List Oper := [
  op 32 (.move (.tmp 0)) 67,
  oc 33 (.call ⟨(.value (.func 30)), #[(.tmp 32)], #[67]⟩) 34,
  op 6 (.assign (.tmp 33)) 34]
def F10.r5 : List Oper := [
  op 34 (.move (.tmp 6)) 34,
  op 35 (.binOp .eql 34 (.tmp 34) (.const (.pointer none)) 34) 4]
def F10.r6 : List Oper := [
  op 4 (.assign (.const (.bool false))) 4]
def F10.r7 : List Oper := [
  op 36 (.move (.tmp 6)) 34,
  oc 37 (.call ⟨(.value (.func 31)), #[(.tmp 36)], #[34]⟩) 34,
  op 7 (.assign (.tmp 37)) 34]
def F10.r8 : List Oper := [
  op 38 (.move (.tmp 6)) 34,
  oc 39 (.call ⟨(.value (.func 31)), #[(.tmp 38)], #[34]⟩) 34,
  op 8 (.assign (.tmp 39)) 34]
def F10.r9 : List Oper := [
  op 40 (.move (.tmp 7)) 34,
  op 41 (.binOp .eql 34 (.tmp 40) (.const (.pointer none)) 34) 4,
  op 42 (.move (.tmp 41)) 4,
  ⟨(some 43), (.move (.tmp 8)), 34, "", #[], (some (42, false))⟩,
  ⟨(some 44), (.binOp .eql 34 (.tmp 43) (.const (.pointer none)) 34), 4, "", #[], (some (42, false))⟩,
  op 45 (.pick (.tmp 42) (.const (.bool true)) (.tmp 44)) 4]
def F10.r10 : List Oper := [
  op 4 (.assign (.const (.bool false))) 4]
def F10.r11 : List Oper := [
  op 46 (.move (.tmp 6)) 34,
  oc 47 (.call ⟨(.value (.func 26)), #[(.tmp 46)], #[34]⟩) 69,
  op 9 (.assign (.tmp 47)) 69]
def F10.r12 : List Oper := [
  op 10 (.assign (.const (.slice none 0 0))) 63]
def F10.r13 : List Oper := [
  op 11 (.assign (.const (.slice none 0 0))) 27]
def F10.r14 : List Oper := [
  op 12 (.assign (.const (.int .i64 0))) 3]
def F10.r15 : List Oper := [
  op 48 (.move (.tmp 12)) 3,
  op 49 (.move (.tmp 1)) 67,
  op 50 (.call ⟨(.builtin .len), #[(.tmp 49)], #[67]⟩) 3,
  op 51 (.binOp .lss 3 (.tmp 48) (.tmp 50) 3) 4]
def F10.r17 : List Oper := [
  op 55 (.move (.tmp 7)) 34,
  op 56 (.move (.tmp 1)) 67,
  op 57 (.move (.tmp 12)) 3,
  op 58 (.indexAddr 67 (.tmp 56) (.tmp 57)) 0,
  od 59 (.load 53 (.tmp 58)) 53,
  oc 60 (.call ⟨(.value (.func 20)), #[(.tmp 55), (.tmp 59)], #[34, 53]⟩) 49,
  op 54 (.move (.tmp 60)) 49,
  op 61 (.extract (.tmp 54) 0) 30,
  op 62 (.extract (.tmp 54) 1) 26,
  op 13 (.assign (.tmp 61)) 30,
  op 14 (.assign (.tmp 62)) 26]
def F10.r18 : List Oper := [
  op 63 (.move (.tmp 10)) 63,
  op 64 (.move (.tmp 13)) 30,
  oc 65 (.buildSlice 63 1 #[(0, (.tmp 64))]) 63,
  oc 66 (.call ⟨(.builtin .append), #[(.tmp 63), (.tmp 65)], #[63, 63]⟩) 63,
  op 10 (.assign (.tmp 66)) 63]
def F10.r19 : List Oper := [
  op 67 (.move (.tmp 11)) 27,
  op 68 (.move (.tmp 14)) 26,
  oc 69 (.buildSlice 27 1 #[(0, (.tmp 68))]) 27,
  oc 70 (.call ⟨(.builtin .append), #[(.tmp 67), (.tmp 69)], #[27, 27]⟩) 27,
  op 11 (.assign (.tmp 70)) 27]
def F10.r16 : List Oper := [
  op 52 (.move (.tmp 12)) 3,
  op 53 (.binOp .add 3 (.tmp 52) (.const (.int .i64 1)) 3) 3,
  op 12 (.assign (.tmp 53)) 3]
def F10.r20 : List Oper := [
  op 71 (.move (.tmp 6)) 34,
  oc 72 (.call ⟨(.value (.func 26)), #[(.tmp 71)], #[34]⟩) 69,
  op 15 (.assign (.tmp 72)) 69]
def F10.r21 : List Oper := [
  op 73 (.move (.tmp 6)) 34,
  op 74 (.move (.tmp 8)) 34,
  op 75 (.move (.tmp 9)) 69,
  oc 76 (.call ⟨(.value (.func 32)), #[(.tmp 73), (.tmp 74), (.tmp 75), (.const (.int .u64 0))], #[34, 34, 69, 30]⟩) 4,
  op 16 (.assign (.tmp 76)) 4]
def F10.r22 : List Oper := [
  op 77 (.move (.tmp 16)) 4,
  op 78 (.unOp .not 4 (.tmp 77)) 4,
  op 79 (.move (.tmp 78)) 4,
  ⟨(some 80), (.move (.tmp 15)), 69, "", #[], (some (79, false))⟩,
  ⟨(some 81), (.call ⟨(.builtin .len), #[(.tmp 80)], #[69]⟩), 3, "", #[], (some (79, false))⟩,
  ⟨(some 82), (.move (.tmp 9)), 69, "", #[], (some (79, false))⟩,
  ⟨(some 83), (.call ⟨(.builtin .len), #[(.tmp 82)], #[69]⟩), 3, "", #[], (some (79, false))⟩,
  ⟨(some 84), (.binOp .neq 3 (.tmp 81) (.tmp 83) 3), 4, "", #[], (some (79, false))⟩,
  op 85 (.pick (.tmp 79) (.const (.bool true)) (.tmp 84)) 4]
def F10.r23 : List Oper := [
  op 4 (.assign (.const (.bool false))) 4]
def F10.r24 : List Oper := [
  op 17 (.assign (.const (.int .i64 0))) 3]
def F10.r25 : List Oper := [
  op 86 (.move (.tmp 17)) 3,
  op 87 (.move (.tmp 9)) 69,
  op 88 (.call ⟨(.builtin .len), #[(.tmp 87)], #[69]⟩) 3,
  op 89 (.binOp .lss 3 (.tmp 86) (.tmp 88) 3) 4]
def F10.r27 : List Oper := [
  ⟨(some 92), (.move (.tmp 9)), 69, "", #[], none⟩,
  ⟨(some 93), (.move (.tmp 17)), 3, "", #[], none⟩,
  ⟨(some 94), (.indexAddr 69 (.tmp 92) (.tmp 93)), 0, "", #[], none⟩,
  ⟨(some 96), (.move (.tmp 15)), 69, "", #[], none⟩,
  ⟨(some 97), (.move (.tmp 17)), 3, "", #[], none⟩,
  ⟨(some 98), (.indexAddr 69 (.tmp 96) (.tmp 97)), 0, "", #[], none⟩,
  ⟨(some 95), (.load 41 (.tmp 94)), 41, "", #[⟨0, .data⟩], none⟩,
  ⟨(some 99), (.load 41 (.tmp 98)), 41, "", #[⟨0, .data⟩], none⟩,
  ⟨(some 100), (.binOp .neq 41 (.tmp 95) (.tmp 99) 41), 4, "", #[], none⟩]
def F10.r28 : List Oper := [
  op 4 (.assign (.const (.bool false))) 4]
def F10.r26 : List Oper := [
  op 90 (.move (.tmp 17)) 3,
  op 91 (.binOp .add 3 (.tmp 90) (.const (.int .i64 1)) 3) 3,
  op 17 (.assign (.tmp 91)) 3]
def F10.r29 : List Oper := [
  op 18 (.assign (.const (.int .i64 0))) 3]
def F10.r30 : List Oper := [
  op 101 (.move (.tmp 18)) 3,
  op 102 (.move (.tmp 1)) 67,
  op 103 (.call ⟨(.builtin .len), #[(.tmp 102)], #[67]⟩) 3,
  op 104 (.binOp .lss 3 (.tmp 101) (.tmp 103) 3) 4]
def F10.r32 : List Oper := [
  op 108 (.move (.tmp 6)) 34,
  op 109 (.move (.tmp 1)) 67,
  op 110 (.move (.tmp 18)) 3,
  op 111 (.indexAddr 67 (.tmp 109) (.tmp 110)) 0,
  od 112 (.load 53 (.tmp 111)) 53,
  oc 113 (.call ⟨(.value (.func 20)), #[(.tmp 108), (.tmp 112)], #[34, 53]⟩) 49,
  op 107 (.move (.tmp 113)) 49,
  op 114 (.extract (.tmp 107) 0) 30,
  op 115 (.extract (.tmp 107) 1) 26,
  op 19 (.assign (.tmp 114)) 30,
  op 20 (.assign (.tmp 115)) 26]
def F10.r33 : List Oper := [
  op 116 (.move (.tmp 19)) 30,
  op 117 (.move (.tmp 10)) 63,
  op 118 (.move (.tmp 18)) 3,
  op 119 (.indexAddr 63 (.tmp 117) (.tmp 118)) 0,
  od 120 (.load 30 (.tmp 119)) 30,
  op 121 (.binOp .neq 30 (.tmp 116) (.tmp 120) 30) 4,
  op 122 (.move (.tmp 121)) 4,
  ⟨(some 123), (.move (.tmp 20)), 26, "", #[], (some (122, false))⟩,
  ⟨(some 124), (.move (.tmp 11)), 27, "", #[], (some (122, false))⟩,
  ⟨(some 125), (.move (.tmp 18)), 3, "", #[], (some (122, false))⟩,
  ⟨(some 126), (.indexAddr 27 (.tmp 124) (.tmp 125)), 0, "", #[], (some (122, false))⟩,
  ⟨(some 127), (.load 26 (.tmp 126)), 26, "", #[⟨0, .data⟩], (some (122, false))⟩,
  ⟨(some 128), (.binOp .neq 26 (.tmp 123) (.tmp 127) 26), 4, "", #[], (some (122, false))⟩,
  op 129 (.pick (.tmp 122) (.const (.bool true)) (.tmp 128)) 4]
def F10.r34 : List Oper := [
  op 4 (.assign (.const (.bool false))) 4]
def F10.r31 : List Oper := [
  op 105 (.move (.tmp 18)) 3,
  op 106 (.binOp .add 3 (.tmp 105) (.const (.int .i64 1)) 3) 3,
  op 18 (.assign (.tmp 106)) 3]
def F10.r35 : List Oper := [
  op 130 (.move (.tmp 7)) 34,
  oc 131 (.call ⟨(.value (.func 26)), #[(.tmp 130)], #[34]⟩) 69,
  op 21 (.assign (.tmp 131)) 69]
def F10.r36 : List Oper := [
  op 132 (.move (.tmp 6)) 34,
  oc 133 (.call ⟨(.value (.func 26)), #[(.tmp 132)], #[34]⟩) 69,
  op 22 (.assign (.tmp 133)) 69]
def F10.r37 : List Oper := [
  op 134 (.move (.tmp 6)) 34,
  op 135 (.move (.tmp 7)) 34,
  op 136 (.move (.tmp 21)) 69,
  oc 137 (.call ⟨(.value (.func 32)), #[(.tmp 134), (.tmp 135), (.tmp 136), (.const (.int .u64 0))], #[34, 34, 69, 30]⟩) 4,
  op 23 (.assign (.tmp 137)) 4]
def F10.r38 : List Oper := [
  op 138 (.move (.tmp 21)) 69,
  op 139 (.call ⟨(.builtin .len), #[(.tmp 138)], #[69]⟩) 3,
  op 140 (.move (.tmp 22)) 69,
  op 141 (.call ⟨(.builtin .len), #[(.tmp 140)], #[69]⟩) 3,
  op 142 (.binOp .neq 3 (.tmp 139) (.tmp 141) 3) 4]
def F10.r39 : List Oper := [
  op 4 (.assign (.const (.bool false))) 4]
def F10.r40 : List Oper := [
  op 24 (.assign (.const (.int .i64 0))) 3]
def F10.r41 : List Oper := [
  op 143 (.move (.tmp 24)) 3,
  op 144 (.move (.tmp 22)) 69,
  op 145 (.call ⟨(.builtin .len), #[(.tmp 144)], #[69]⟩) 3,
  op 146 (.binOp .lss 3 (.tmp 143) (.tmp 145) 3) 4]
def F10.r43 : List Oper := [
  ⟨(some 149), (.move (.tmp 22)), 69, "", #[], none⟩,
  ⟨(some 150), (.move (.tmp 24)), 3, "", #[], none⟩,
  ⟨(some 151), (.indexAddr 69 (.tmp 149) (.tmp 150)), 0, "", #[], none⟩,
  ⟨(some 153), (.move (.tmp 21)), 69, "", #[], none⟩,
  ⟨(some 154), (.move (.tmp 24)), 3, "", #[], none⟩,
  ⟨(some 155), (.indexAddr 69 (.tmp 153) (.tmp 154)), 0, "", #[], none⟩,
  ⟨(some 152), (.load 41 (.tmp 151)), 41, "", #[⟨0, .data⟩], none⟩,
  ⟨(some 156), (.load 41 (.tmp 155)), 41, "", #[⟨0, .data⟩], none⟩,
  ⟨(some 157), (.binOp .neq 41 (.tmp 152) (.tmp 156) 41), 4, "", #[], none⟩]
def F10.r44 : List Oper := [
  op 4 (.assign (.const (.bool false))) 4]
def F10.r42 : List Oper := [
  op 147 (.move (.tmp 24)) 3,
  op 148 (.binOp .add 3 (.tmp 147) (.const (.int .i64 1)) 3) 3,
  op 24 (.assign (.tmp 148)) 3]
def F10.r45 : List Oper := [
  op 158 (.move (.tmp 5)) 4,
  op 159 (.move (.tmp 158)) 4,
  ⟨(some 160), (.move (.tmp 23)), 4, "", #[], (some (159, true))⟩,
  op 161 (.pick (.tmp 159) (.tmp 160) (.const (.bool false))) 4,
  op 4 (.assign (.tmp 161)) 4]
def F10.t16 : Cd := (.region 16 F10.r16.toArray false)
theorem F10.t16_eq {θ : Tag (F10.t16, Q, e, w)} : cwE P F10.t16 Q e w θ = cwE P (.region 16 F10.r16.toArray false) Q e w := rfl
def F10.t17 : Cd := (.seq (.block 1 (.seq (.region 17 F10.r17.toArray false) (.seq (.region 18 F10.r18.toArray false) (.region 19 F10.r19.toArray false)))) F10.t16)
theorem F10.t17_eq {θ : Tag (F10.t17, Q, e, w)} : cwE P F10.t17 Q e w θ = cwE P (.seq (.block 1 (.seq (.region 17 F10.r17.toArray false) (.seq (.region 18 F10.r18.toArray false) (.region 19 F10.r19.toArray false)))) F10.t16) Q e w := rfl
def F10.t26 : Cd := (.region 26 F10.r26.toArray false)
theorem F10.t26_eq {θ : Tag (F10.t26, Q, e, w)} : cwE P F10.t26 Q e w θ = cwE P (.region 26 F10.r26.toArray false) Q e w := rfl
def F10.t27 : Cd := (.seq (.block 3 (.seq (.region 27 F10.r27.toArray true) (.cond (.tmp 100) (.seq (.region 28 F10.r28.toArray false) .ret) .skip))) F10.t26)
theorem F10.t27_eq {θ : Tag (F10.t27, Q, e, w)} : cwE P F10.t27 Q e w θ = cwE P (.seq (.block 3 (.seq (.region 27 F10.r27.toArray true) (.cond (.tmp 100) (.seq (.region 28 F10.r28.toArray false) .ret) .skip))) F10.t26) Q e w := rfl
def F10.t31 : Cd := (.region 31 F10.r31.toArray false)
theorem F10.t31_eq {θ : Tag (F10.t31, Q, e, w)} : cwE P F10.t31 Q e w θ = cwE P (.region 31 F10.r31.toArray false) Q e w := rfl
def F10.t32 : Cd := (.seq (.block 5 (.seq (.region 32 F10.r32.toArray false) (.seq (.region 33 F10.r33.toArray false) (.cond (.tmp 129) (.seq (.region 34 F10.r34.toArray false) .ret) .skip)))) F10.t31)
theorem F10.t32_eq {θ : Tag (F10.t32, Q, e, w)} : cwE P F10.t32 Q e w θ = cwE P (.seq (.block 5 (.seq (.region 32 F10.r32.toArray false) (.seq (.region 33 F10.r33.toArray false) (.cond (.tmp 129) (.seq (.region 34 F10.r34.toArray false) .ret) .skip)))) F10.t31) Q e w := rfl
def F10.t42 : Cd := (.region 42 F10.r42.toArray false)
theorem F10.t42_eq {θ : Tag (F10.t42, Q, e, w)} : cwE P F10.t42 Q e w θ = cwE P (.region 42 F10.r42.toArray false) Q e w := rfl
def F10.t43 : Cd := (.seq (.block 7 (.seq (.region 43 F10.r43.toArray true) (.cond (.tmp 157) (.seq (.region 44 F10.r44.toArray false) .ret) .skip))) F10.t42)
theorem F10.t43_eq {θ : Tag (F10.t43, Q, e, w)} : cwE P F10.t43 Q e w θ = cwE P (.seq (.block 7 (.seq (.region 43 F10.r43.toArray true) (.cond (.tmp 157) (.seq (.region 44 F10.r44.toArray false) .ret) .skip))) F10.t42) Q e w := rfl
def F10.t45 : Cd := (.seq (.region 45 F10.r45.toArray false) .ret)
theorem F10.t45_eq {θ : Tag (F10.t45, Q, e, w)} : cwE P F10.t45 Q e w θ = cwE P (.seq (.region 45 F10.r45.toArray false) .ret) Q e w := rfl
def F10.t40 : Cd := (.seq (.seq (.region 40 F10.r40.toArray false) (.block 6 (.loop (.seq (.seq (.region 41 F10.r41.toArray false) (.cond (.tmp 146) .skip (.exit 6))) F10.t43)))) F10.t45)
theorem F10.t40_eq {θ : Tag (F10.t40, Q, e, w)} : cwE P F10.t40 Q e w θ = cwE P (.seq (.seq (.region 40 F10.r40.toArray false) (.block 6 (.loop (.seq (.seq (.region 41 F10.r41.toArray false) (.cond (.tmp 146) .skip (.exit 6))) F10.t43)))) F10.t45) Q e w := rfl
def F10.t35 : Cd := (.seq (.region 35 F10.r35.toArray false) (.seq (.region 36 F10.r36.toArray false) (.seq (.region 37 F10.r37.toArray false) (.seq (.seq (.region 38 F10.r38.toArray false) (.cond (.tmp 142) (.seq (.region 39 F10.r39.toArray false) .ret) .skip)) F10.t40))))
theorem F10.t35_eq {θ : Tag (F10.t35, Q, e, w)} : cwE P F10.t35 Q e w θ = cwE P (.seq (.region 35 F10.r35.toArray false) (.seq (.region 36 F10.r36.toArray false) (.seq (.region 37 F10.r37.toArray false) (.seq (.seq (.region 38 F10.r38.toArray false) (.cond (.tmp 142) (.seq (.region 39 F10.r39.toArray false) .ret) .skip)) F10.t40)))) Q e w := rfl
def F10.t29 : Cd := (.seq (.seq (.region 29 F10.r29.toArray false) (.block 4 (.loop (.seq (.seq (.region 30 F10.r30.toArray false) (.cond (.tmp 104) .skip (.exit 4))) F10.t32)))) F10.t35)
theorem F10.t29_eq {θ : Tag (F10.t29, Q, e, w)} : cwE P F10.t29 Q e w θ = cwE P (.seq (.seq (.region 29 F10.r29.toArray false) (.block 4 (.loop (.seq (.seq (.region 30 F10.r30.toArray false) (.cond (.tmp 104) .skip (.exit 4))) F10.t32)))) F10.t35) Q e w := rfl
def F10.t24 : Cd := (.seq (.seq (.region 24 F10.r24.toArray false) (.block 2 (.loop (.seq (.seq (.region 25 F10.r25.toArray false) (.cond (.tmp 89) .skip (.exit 2))) F10.t27)))) F10.t29)
theorem F10.t24_eq {θ : Tag (F10.t24, Q, e, w)} : cwE P F10.t24 Q e w θ = cwE P (.seq (.seq (.region 24 F10.r24.toArray false) (.block 2 (.loop (.seq (.seq (.region 25 F10.r25.toArray false) (.cond (.tmp 89) .skip (.exit 2))) F10.t27)))) F10.t29) Q e w := rfl
def F10.t20 : Cd := (.seq (.region 20 F10.r20.toArray false) (.seq (.region 21 F10.r21.toArray false) (.seq (.seq (.region 22 F10.r22.toArray false) (.cond (.tmp 85) (.seq (.region 23 F10.r23.toArray false) .ret) .skip)) F10.t24)))
theorem F10.t20_eq {θ : Tag (F10.t20, Q, e, w)} : cwE P F10.t20 Q e w θ = cwE P (.seq (.region 20 F10.r20.toArray false) (.seq (.region 21 F10.r21.toArray false) (.seq (.seq (.region 22 F10.r22.toArray false) (.cond (.tmp 85) (.seq (.region 23 F10.r23.toArray false) .ret) .skip)) F10.t24))) Q e w := rfl
def F10.t11 : Cd := (.seq (.region 11 F10.r11.toArray false) (.seq (.region 12 F10.r12.toArray false) (.seq (.region 13 F10.r13.toArray false) (.seq (.seq (.region 14 F10.r14.toArray false) (.block 0 (.loop (.seq (.seq (.region 15 F10.r15.toArray false) (.cond (.tmp 51) .skip (.exit 0))) F10.t17)))) F10.t20))))
theorem F10.t11_eq {θ : Tag (F10.t11, Q, e, w)} : cwE P F10.t11 Q e w θ = cwE P (.seq (.region 11 F10.r11.toArray false) (.seq (.region 12 F10.r12.toArray false) (.seq (.region 13 F10.r13.toArray false) (.seq (.seq (.region 14 F10.r14.toArray false) (.block 0 (.loop (.seq (.seq (.region 15 F10.r15.toArray false) (.cond (.tmp 51) .skip (.exit 0))) F10.t17)))) F10.t20)))) Q e w := rfl
def F10.t7 : Cd := (.seq (.region 7 F10.r7.toArray false) (.seq (.region 8 F10.r8.toArray false) (.seq (.seq (.region 9 F10.r9.toArray false) (.cond (.tmp 45) (.seq (.region 10 F10.r10.toArray false) .ret) .skip)) F10.t11)))
theorem F10.t7_eq {θ : Tag (F10.t7, Q, e, w)} : cwE P F10.t7 Q e w θ = cwE P (.seq (.region 7 F10.r7.toArray false) (.seq (.region 8 F10.r8.toArray false) (.seq (.seq (.region 9 F10.r9.toArray false) (.cond (.tmp 45) (.seq (.region 10 F10.r10.toArray false) .ret) .skip)) F10.t11))) Q e w := rfl
def F10.t4 : Cd := (.seq (.region 4 F10.r4.toArray false) (.seq (.seq (.region 5 F10.r5.toArray false) (.cond (.tmp 35) (.seq (.region 6 F10.r6.toArray false) .ret) .skip)) F10.t7))
theorem F10.t4_eq {θ : Tag (F10.t4, Q, e, w)} : cwE P F10.t4 Q e w θ = cwE P (.seq (.region 4 F10.r4.toArray false) (.seq (.seq (.region 5 F10.r5.toArray false) (.cond (.tmp 35) (.seq (.region 6 F10.r6.toArray false) .ret) .skip)) F10.t7)) Q e w := rfl
def F10.code : Cd := (.seq (.region 0 F10.r0.toArray false) (.seq (.region 1 F10.r1.toArray false) (.seq (.seq (.region 2 F10.r2.toArray false) (.cond (.tmp 30) (.seq (.region 3 F10.r3.toArray false) .ret) .skip)) F10.t4)))
theorem F10.calls (hn : args.size ≤ 162) (h : cwE Tryd.prog F10.code (fnP Tryd.prog #[(.tmp 4)] R) (entry args) w) : Calls Tryd.prog 10 args w R :=
  calls_of_cwE (types := Tryd.prog.types) follows Tryd.func10 F10.code rfl (by kernel_rfl) hn h

def F11.r0 : List Oper := [
  op 0 (.assign (.const (.bool false))) 4]
def F11.r1 : List Oper := [
  oc 19 (.call ⟨(.value (.func 19)), #[(.const (.int .i64 3))], #[3]⟩) 34,
  op 1 (.assign (.tmp 19)) 34]
def F11.r2 : List Oper := [
  op 20 (.move (.tmp 1)) 34,
  op 21 (.binOp .eql 34 (.tmp 20) (.const (.pointer none)) 34) 4]
def F11.r3 : List Oper := [
  op 0 (.assign (.const (.bool false))) 4]
def F11.r4 : List Oper := [
  op 22 (.move (.tmp 1)) 34,
  oc 23 (.call ⟨(.value (.func 17)), #[(.tmp 22)], #[34]⟩) 30,
  op 2 (.assign (.tmp 23)) 30]
def F11.r5 : List Oper := [
  op 25 (.move (.tmp 1)) 34,
  oc 26 (.call ⟨(.value (.func 21)), #[(.const (.int .u64 1)), (.const (.string { data := #[97] })), (.const (.int .u32 2147484096))], #[30, 9, 29]⟩) 53,
  oc 27 (.call ⟨(.value (.func 20)), #[(.tmp 25), (.tmp 26)], #[34, 53]⟩) 49,
  op 24 (.move (.tmp 27)) 49,
  op 28 (.extract (.tmp 24) 0) 30,
  op 29 (.extract (.tmp 24) 1) 26,
  op 3 (.assign (.tmp 28)) 30,
  op 4 (.assign (.tmp 29)) 26]
def F11.r6 : List Oper := [
  op 31 (.move (.tmp 1)) 34,
  oc 32 (.call ⟨(.value (.func 21)), #[(.const (.int .u64 2)), (.const (.string { data := #[98] })), (.const (.int .u32 384))], #[30, 9, 29]⟩) 53,
  oc 33 (.call ⟨(.value (.func 20)), #[(.tmp 31), (.tmp 32)], #[34, 53]⟩) 49,
  op 30 (.move (.tmp 33)) 49,
  op 34 (.extract (.tmp 30) 0) 30,
  op 35 (.extract (.tmp 30) 1) 26,
  op 5 (.assign (.tmp 34)) 30,
  op 6 (.assign (.tmp 35)) 26]
def F11.r7 : List Oper := [
  op 37 (.move (.tmp 1)) 34,
  oc 38 (.call ⟨(.value (.func 21)), #[(.const (.int .u64 2)), (.const (.string { data := #[98] })), (.const (.int .u32 384))], #[30, 9, 29]⟩) 53,
  oc 39 (.call ⟨(.value (.func 20)), #[(.tmp 37), (.tmp 38)], #[34, 53]⟩) 49,
  op 36 (.move (.tmp 39)) 49,
  op 40 (.extract (.tmp 36) 0) 30,
  op 41 (.extract (.tmp 36) 1) 26,
  op 7 (.assign (.tmp 40)) 30,
  op 8 (.assign (.tmp 41)) 26]
def F11.r8 : List Oper := [
  op 43 (.move (.tmp 1)) 34,
  oc 44 (.call ⟨(.value (.func 21)), #[(.const (.int .u64 2)), (.const (.string { data := #[99] })), (.const (.int .u32 384))], #[30, 9, 29]⟩) 53,
  oc 45 (.call ⟨(.value (.func 20)), #[(.tmp 43), (.tmp 44)], #[34, 53]⟩) 49,
  op 42 (.move (.tmp 45)) 49,
  op 46 (.extract (.tmp 42) 0) 30,
  op 47 (.extract (.tmp 42) 1) 26,
  op 9 (.assign (.tmp 46)) 30,
  op 10 (.assign (.tmp 47)) 26]
def F11.r9 : List Oper := [
  op 48 (.move (.tmp 2)) 30,
  op 49 (.binOp .neq 30 (.tmp 48) (.const (.int .u64 2)) 30) 4,
  op 50 (.move (.tmp 49)) 4,
  ⟨(some 51), (.move (.tmp 3)), 30, "", #[], (some (50, false))⟩,
  ⟨(some 52), (.binOp .neq 30 (.tmp 51) (.const (.int .u64 2)) 30), 4, "", #[], (some (50, false))⟩,
  op 53 (.pick (.tmp 50) (.const (.bool true)) (.tmp 52)) 4,
  op 54 (.move (.tmp 53)) 4,
  ⟨(some 55), (.move (.tmp 5)), 30, "", #[], (some (54, false))⟩,
  ⟨(some 56), (.binOp .neq 30 (.tmp 55) (.const (.int .u64 3)) 30), 4, "", #[], (some (54, false))⟩,
  op 57 (.pick (.tmp 54) (.const (.bool true)) (.tmp 56)) 4,
  op 58 (.move (.tmp 57)) 4,
  ⟨(some 59), (.move (.tmp 4)), 26, "", #[], (some (58, false))⟩,
  ⟨(some 60), (.binOp .neq 26 (.tmp 59) (.const (.int .i64 0)) 26), 4, "", #[], (some (58, false))⟩,
  op 61 (.pick (.tmp 58) (.const (.bool true)) (.tmp 60)) 4,
  op 62 (.move (.tmp 61)) 4,
  ⟨(some 63), (.move (.tmp 6)), 26, "", #[], (some (62, false))⟩,
  ⟨(some 64), (.binOp .neq 26 (.tmp 63) (.const (.int .i64 0)) 26), 4, "", #[], (some (62, false))⟩,
  op 65 (.pick (.tmp 62) (.const (.bool true)) (.tmp 64)) 4,
  op 66 (.move (.tmp 65)) 4,
  ⟨(some 67), (.move (.tmp 8)), 26, "", #[], (some (66, false))⟩,
  ⟨(some 68), (.binOp .neq 26 (.tmp 67) (.const (.int .i64 82)) 26), 4, "", #[], (some (66, false))⟩,
  op 69 (.pick (.tmp 66) (.const (.bool true)) (.tmp 68)) 4,
  op 70 (.move (.tmp 69)) 4,
  ⟨(some 71), (.move (.tmp 10)), 26, "", #[], (some (70, false))⟩,
  ⟨(some 72), (.binOp .neq 26 (.tmp 71) (.const (.int .i64 83)) 26), 4, "", #[], (some (70, false))⟩,
  op 73 (.pick (.tmp 70) (.const (.bool true)) (.tmp 72)) 4]
def F11.r10 : List Oper := [
  op 0 (.assign (.const (.bool false))) 4]
def F11.r11 : List Oper := [
  op 75 (.move (.tmp 1)) 34,
  oc 76 (.buildSlice 51 6 #[(0, (.const (.int .u8 1))), (1, (.const (.int .u8 2))), (2, (.const (.int .u8 3))), (3, (.const (.int .u8 4))), (4, (.const (.int .u8 5))), (5, (.const (.int .u8 6)))]) 51,
  op 77 (.build 53 #[(0, (.const (.int .u8 6))), (1, (.const (.int .u64 3))), (5, (.const (.int .u64 250))), (6, (.tmp 76))]) 53,
  oc 78 (.call ⟨(.value (.func 20)), #[(.tmp 75), (.tmp 77)], #[34, 53]⟩) 49,
  op 74 (.move (.tmp 78)) 49,
  op 79 (.extract (.tmp 74) 0) 30,
  op 80 (.extract (.tmp 74) 1) 26,
  op 11 (.assign (.tmp 79)) 30,
  op 12 (.assign (.tmp 80)) 26]
def F11.r12 : List Oper := [
  op 82 (.move (.tmp 1)) 34,
  oc 83 (.buildSlice 51 7 #[(0, (.const (.int .u8 1))), (1, (.const (.int .u8 2))), (2, (.const (.int .u8 3))), (3, (.const (.int .u8 4))), (4, (.const (.int .u8 5))), (5, (.const (.int .u8 6))), (6, (.const (.int .u8 7)))]) 51,
  op 84 (.build 53 #[(0, (.const (.int .u8 6))), (1, (.const (.int .u64 3))), (5, (.const (.int .u64 250))), (6, (.tmp 83))]) 53,
  oc 85 (.call ⟨(.value (.func 20)), #[(.tmp 82), (.tmp 84)], #[34, 53]⟩) 49,
  op 81 (.move (.tmp 85)) 49,
  op 86 (.extract (.tmp 81) 0) 30,
  op 87 (.extract (.tmp 81) 1) 26,
  op 13 (.assign (.tmp 86)) 30,
  op 14 (.assign (.tmp 87)) 26]
def F11.r13 : List Oper := [
  op 88 (.move (.tmp 1)) 34,
  oc 89 (.call ⟨(.value (.func 23)), #[(.tmp 88), (.const (.int .u64 3)), (.const (.int .u64 248)), (.const (.int .i64 4))], #[34, 30, 30, 3]⟩) 51,
  op 15 (.assign (.tmp 89)) 51]
def F11.r14 : List Oper := [
  op 91 (.move (.tmp 1)) 34,
  oc 92 (.call ⟨(.value (.func 15)), #[(.tmp 91), (.const (.int .u64 3))], #[34, 30]⟩) 42,
  op 90 (.move (.tmp 92)) 42,
  op 93 (.extract (.tmp 90) 0) 41,
  op 94 (.extract (.tmp 90) 1) 4,
  oc 16 (.alloc 41) 0,
  ⟨none, (.store 41 (.tmp 16) (.tmp 93)), 0, "", #[⟨0, .chain⟩], none⟩,
  op 17 (.assign (.tmp 94)) 4]
def F11.r15 : List Oper := [
  op 95 (.move (.tmp 1)) 34,
  oc 96 (.call ⟨(.value (.func 18)), #[(.tmp 95)], #[34]⟩) 3,
  op 18 (.assign (.tmp 96)) 3]
def F11.r16 : List Oper := [
  op 97 (.move (.tmp 12)) 26,
  op 98 (.binOp .eql 26 (.tmp 97) (.const (.int .i64 0)) 26) 4,
  op 99 (.move (.tmp 98)) 4,
  ⟨(some 100), (.move (.tmp 14)), 26, "", #[], (some (99, true))⟩,
  ⟨(some 101), (.binOp .eql 26 (.tmp 100) (.const (.int .i64 84)) 26), 4, "", #[], (some (99, true))⟩,
  op 102 (.pick (.tmp 99) (.tmp 101) (.const (.bool false))) 4,
  op 103 (.move (.tmp 102)) 4,
  ⟨(some 104), (.move (.tmp 15)), 51, "", #[], (some (103, true))⟩,
  ⟨(some 105), (.convert 51 9 (.tmp 104)), 9, "", #[⟨0, .data⟩], (some (103, true))⟩,
  ⟨(some 106), (.binOp .eql 9 (.tmp 105) (.const (.string { data := #[0, 0, 1, 2] })) 9), 4, "", #[], (some (103, true))⟩,
  op 107 (.pick (.tmp 103) (.tmp 106) (.const (.bool false))) 4,
  op 108 (.move (.tmp 107)) 4,
  ⟨(some 109), (.move (.tmp 17)), 4, "", #[], (some (108, true))⟩,
  op 110 (.pick (.tmp 108) (.tmp 109) (.const (.bool false))) 4,
  op 111 (.move (.tmp 110)) 4,
  ⟨(some 112), (.fieldAddr 41 (.tmp 16) 10), 0, "", #[], (some (111, true))⟩,
  ⟨(some 113), (.load 30 (.tmp 112)), 30, "", #[⟨0, .data⟩], (some (111, true))⟩,
  ⟨(some 114), (.binOp .eql 30 (.tmp 113) (.const (.int .u64 256)) 30), 4, "", #[], (some (111, true))⟩,
  op 115 (.pick (.tmp 111) (.tmp 114) (.const (.bool false))) 4,
  op 116 (.move (.tmp 115)) 4,
  ⟨(some 117), (.fieldAddr 41 (.tmp 16) 1), 0, "", #[], (some (116, true))⟩,
  ⟨(some 118), (.load 30 (.tmp 117)), 30, "", #[⟨0, .data⟩], (some (116, true))⟩,
  ⟨(some 119), (.binOp .eql 30 (.tmp 118) (.const (.int .u64 2)) 30), 4, "", #[], (some (116, true))⟩,
  op 120 (.pick (.tmp 116) (.tmp 119) (.const (.bool false))) 4,
  op 121 (.move (.tmp 120)) 4,
  ⟨(some 122), (.fieldAddr 41 (.tmp 16) 2), 0, "", #[], (some (121, true))⟩,
  ⟨(some 123), (.load 9 (.tmp 122)), 9, "", #[⟨0, .data⟩], (some (121, true))⟩,
  ⟨(some 124), (.binOp .eql 9 (.tmp 123) (.const (.string { data := #[98] })) 9), 4, "", #[], (some (121, true))⟩,
  op 125 (.pick (.tmp 121) (.tmp 124) (.const (.bool false))) 4,
  op 126 (.move (.tmp 125)) 4,
  ⟨(some 127), (.move (.tmp 18)), 3, "", #[], (some (126, true))⟩,
  ⟨(some 128), (.binOp .eql 3 (.tmp 127) (.const (.int .i64 3)) 3), 4, "", #[], (some (126, true))⟩,
  op 129 (.pick (.tmp 126) (.tmp 128) (.const (.bool false))) 4,
  op 0 (.assign (.tmp 129)) 4]
def F11.t11 : Cd := (.seq (.region 11 F11.r11.toArray false) (.seq (.region 12 F11.r12.toArray false) (.seq (.region 13 F11.r13.toArray false) (.seq (.region 14 F11.r14.toArray false) (.seq (.region 15 F11.r15.toArray false) (.seq (.region 16 F11.r16.toArray false) .ret))))))
theorem F11.t11_eq {θ : Tag (F11.t11, Q, e, w)} : cwE P F11.t11 Q e w θ = cwE P (.seq (.region 11 F11.r11.toArray false) (.seq (.region 12 F11.r12.toArray false) (.seq (.region 13 F11.r13.toArray false) (.seq (.region 14 F11.r14.toArray false) (.seq (.region 15 F11.r15.toArray false) (.seq (.region 16 F11.r16.toArray false) .ret)))))) Q e w := rfl
def F11.t4 : Cd := (.seq (.region 4 F11.r4.toArray false) (.seq (.region 5 F11.r5.toArray false) (.seq (.region 6 F11.r6.toArray false) (.seq (.region 7 F11.r7.toArray false) (.seq (.region 8 F11.r8.toArray false) (.seq (.seq (.region 9 F11.r9.toArray false) (.cond (.tmp 73) (.seq (.region 10 F11.r10.toArray false) .ret) .skip)) F11.t11))))))
theorem F11.t4_eq {θ : Tag (F11.t4, Q, e, w)} : cwE P F11.t4 Q e w θ = cwE P (.seq (.region 4 F11.r4.toArray false) (.seq (.region 5 F11.r5.toArray false) (.seq (.region 6 F11.r6.toArray false) (.seq (.region 7 F11.r7.toArray false) (.seq (.region 8 F11.r8.toArray false) (.seq (.seq (.region 9 F11.r9.toArray false) (.cond (.tmp 73) (.seq (.region 10 F11.r10.toArray false) .ret) .skip)) F11.t11)))))) Q e w := rfl
def F11.code : Cd := (.seq (.region 0 F11.r0.toArray false) (.seq (.region 1 F11.r1.toArray false) (.seq (.seq (.region 2 F11.r2.toArray false) (.cond (.tmp 21) (.seq (.region 3 F11.r3.toArray false) .ret) .skip)) F11.t4)))
theorem F11.calls (hn : args.size ≤ 130) (h : cwE Tryd.prog F11.code (fnP Tryd.prog #[(.tmp 0)] R) (entry args) w) : Calls Tryd.prog 11 args w R :=
  calls_of_cwE (types := Tryd.prog.types) follows Tryd.func11 F11.code rfl (by kernel_rfl) hn h

def F12.r0 : List Oper := [
  oc 1 (.box 32 (.tmp 0)) 0,
  op 2 (.assign (.const (.int .i64 0))) 3]
def F12.r1 : List Oper := [
  op 3 (.fieldAddr 32 (.tmp 1) 0) 0,
  od 4 (.load 9 (.tmp 3)) 9,
  op 5 (.call ⟨(.builtin .len), #[(.tmp 4)], #[9]⟩) 3,
  op 6 (.binOp .add 3 (.const (.int .i64 100)) (.tmp 5) 3) 3,
  op 7 (.fieldAddr 32 (.tmp 1) 1) 0,
  od 8 (.load 9 (.tmp 7)) 9,
  op 9 (.call ⟨(.builtin .len), #[(.tmp 8)], #[9]⟩) 3,
  op 10 (.binOp .add 3 (.tmp 6) (.tmp 9) 3) 3,
  op 11 (.fieldAddr 32 (.tmp 1) 2) 0,
  od 12 (.load 9 (.tmp 11)) 9,
  op 13 (.call ⟨(.builtin .len), #[(.tmp 12)], #[9]⟩) 3,
  op 14 (.binOp .add 3 (.tmp 10) (.tmp 13) 3) 3,
  op 2 (.assign (.tmp 14)) 3]
def F12.code : Cd := (.seq (.region 0 F12.r0.toArray false) (.seq (.region 1 F12.r1.toArray false) .ret))
theorem F12.calls (hn : args.size ≤ 15) (h : cwE Tryd.prog F12.code (fnP Tryd.prog #[(.tmp 2)] R) (entry args) w) : Calls Tryd.prog 12 args w R :=
  calls_of_cwE (types := Tryd.prog.types) follows Tryd.func12 F12.code rfl (by kernel_rfl) hn h

def F13.r0 : List Oper := [
  oc 1 (.box 32 (.tmp 0)) 0,
  op 2 (.assign (.const (.pointer none))) 34,
  op 3 (.assign (.const (.int .i64 0))) 26]
def F13.r1 : List Oper := [
  op 6 (.fieldAddr 32 (.tmp 1) 8) 0,
  od 7 (.load 3 (.tmp 6)) 3,
  op 8 (.binOp .lss 3 (.tmp 7) (.const (.int .i64 1)) 3) 4,
  op 9 (.move (.tmp 8)) 4,
  ⟨(some 10), (.fieldAddr 32 (.tmp 1) 8), 0, "", #[], (some (9, false))⟩,
  ⟨(some 11), (.load 3 (.tmp 10)), 3, "", #[⟨0, .data⟩], (some (9, false))⟩,
  ⟨(some 12), (.binOp .gtr 3 (.tmp 11) (.const (.int .i64 4096)) 3), 4, "", #[], (some (9, false))⟩,
  op 13 (.pick (.tmp 9) (.const (.bool true)) (.tmp 12)) 4,
  op 14 (.move (.tmp 13)) 4,
  ⟨(some 15), (.fieldAddr 32 (.tmp 1) 3), 0, "", #[], (some (14, false))⟩,
  ⟨(some 16), (.load 29 (.tmp 15)), 29, "", #[⟨0, .data⟩], (some (14, false))⟩,
  ⟨(some 17), (.binOp .andNot 29 (.tmp 16) (.const (.int .u32 511)) 29), 29, "", #[], (some (14, false))⟩,
  ⟨(some 18), (.binOp .neq 29 (.tmp 17) (.const (.int .u32 0)) 29), 4, "", #[], (some (14, false))⟩,
  op 19 (.pick (.tmp 14) (.const (.bool true)) (.tmp 18)) 4]
def F13.r2 : List Oper := [
  op 2 (.assign (.const (.pointer none))) 34,
  op 3 (.assign (.const (.int .i64 1))) 26]
def F13.r3 : List Oper := [
  op 20 (.fieldAddr 32 (.tmp 1) 1) 0,
  od 21 (.load 9 (.tmp 20)) 9,
  op 22 (.binOp .eql 9 (.tmp 21) (.const (.string { data := #[] })) 9) 4,
  op 23 (.move (.tmp 22)) 4,
  ⟨(some 24), (.fieldAddr 32 (.tmp 1) 2), 0, "", #[], (some (23, false))⟩,
  ⟨(some 25), (.load 9 (.tmp 24)), 9, "", #[⟨0, .data⟩], (some (23, false))⟩,
  ⟨(some 26), (.binOp .eql 9 (.tmp 25) (.const (.string { data := #[] })) 9), 4, "", #[], (some (23, false))⟩,
  op 27 (.pick (.tmp 23) (.const (.bool true)) (.tmp 26)) 4,
  op 28 (.move (.tmp 27)) 4,
  ⟨(some 29), (.fieldAddr 32 (.tmp 1) 1), 0, "", #[], (some (28, false))⟩,
  ⟨(some 30), (.load 9 (.tmp 29)), 9, "", #[⟨0, .data⟩], (some (28, false))⟩,
  ⟨(some 31), (.call ⟨(.value (.func 34)), #[(.tmp 30)], #[9]⟩), 4, "", #[⟨0, .chain⟩], (some (28, false))⟩,
  ⟨(some 32), (.unOp .not 4 (.tmp 31)), 4, "", #[], (some (28, false))⟩,
  op 33 (.pick (.tmp 28) (.const (.bool true)) (.tmp 32)) 4,
  op 34 (.move (.tmp 33)) 4,
  ⟨(some 35), (.fieldAddr 32 (.tmp 1) 2), 0, "", #[], (some (34, false))⟩,
  ⟨(some 36), (.load 9 (.tmp 35)), 9, "", #[⟨0, .data⟩], (some (34, false))⟩,
  ⟨(some 37), (.call ⟨(.value (.func 34)), #[(.tmp 36)], #[9]⟩), 4, "", #[⟨0, .chain⟩], (some (34, false))⟩,
  ⟨(some 38), (.unOp .not 4 (.tmp 37)), 4, "", #[], (some (34, false))⟩,
  op 39 (.pick (.tmp 34) (.const (.bool true)) (.tmp 38)) 4]
def F13.r4 : List Oper := [
  op 2 (.assign (.const (.pointer none))) 34,
  op 3 (.assign (.const (.int .i64 1))) 26]
def F13.r5 : List Oper := [
  op 40 (.fieldAddr 32 (.tmp 1) 3) 0,
  od 41 (.load 29 (.tmp 40)) 29,
  op 42 (.binOp .or 29 (.const (.int .u32 2147483648)) (.tmp 41) 29) 29,
  op 43 (.fieldAddr 32 (.tmp 1) 1) 0,
  od 44 (.load 9 (.tmp 43)) 9,
  op 45 (.fieldAddr 32 (.tmp 1) 2) 0,
  od 46 (.load 9 (.tmp 45)) 9,
  op 47 (.fieldAddr 32 (.tmp 1) 1) 0,
  od 48 (.load 9 (.tmp 47)) 9,
  op 49 (.build 41 #[(0, (.const (.int .u64 1))), (1, (.const (.int .u64 1))), (2, (.const (.string { data := #[47] }))), (3, (.tmp 42)), (4, (.tmp 44)), (5, (.tmp 46)), (6, (.tmp 48))]) 41,
  op 50 (.build 92 #[(1, (.tmp 49))]) 92,
  oc 51 (.box 92 (.tmp 50)) 83,
  op 4 (.assign (.tmp 51)) 83]
def F13.r6 : List Oper := [
  op 52 (.fieldAddr 32 (.tmp 1) 8) 0,
  od 53 (.load 3 (.tmp 52)) 3,
  oc 54 (.makeMap 93 none) 93,
  op 55 (.move (.tmp 4)) 83,
  ⟨none, (.insert 93 (.tmp 54) (.const (.int .u64 1)) (.tmp 55)), 0, "", #[⟨0, .chain⟩], none⟩,
  op 56 (.move (.tmp 54)) 93,
  oc 57 (.buildSlice 63 1 #[(0, (.const (.int .u64 1)))]) 63,
  oc 58 (.makeMap 94 none) 94,
  op 59 (.build 101 #[(1, (.tmp 53)), (2, (.const (.int .u64 2))), (3, (.tmp 56)), (4, (.tmp 57)), (5, (.tmp 58))]) 101,
  oc 60 (.box 101 (.tmp 59)) 34,
  op 5 (.assign (.tmp 60)) 34]
def F13.r7 : List Oper := [
  op 61 (.move (.tmp 5)) 34,
  op 2 (.assign (.tmp 61)) 34,
  op 3 (.assign (.const (.int .i64 0))) 26]
def F13.t5 : Cd := (.seq (.region 5 F13.r5.toArray false) (.seq (.region 6 F13.r6.toArray false) (.seq (.region 7 F13.r7.toArray false) .ret)))
theorem F13.t5_eq {θ : Tag (F13.t5, Q, e, w)} : cwE P F13.t5 Q e w θ = cwE P (.seq (.region 5 F13.r5.toArray false) (.seq (.region 6 F13.r6.toArray false) (.seq (.region 7 F13.r7.toArray false) .ret))) Q e w := rfl
def F13.t3 : Cd := (.seq (.seq (.region 3 F13.r3.toArray false) (.cond (.tmp 39) (.seq (.region 4 F13.r4.toArray false) .ret) .skip)) F13.t5)
theorem F13.t3_eq {θ : Tag (F13.t3, Q, e, w)} : cwE P F13.t3 Q e w θ = cwE P (.seq (.seq (.region 3 F13.r3.toArray false) (.cond (.tmp 39) (.seq (.region 4 F13.r4.toArray false) .ret) .skip)) F13.t5) Q e w := rfl
def F13.code : Cd := (.seq (.region 0 F13.r0.toArray false) (.seq (.seq (.region 1 F13.r1.toArray false) (.cond (.tmp 19) (.seq (.region 2 F13.r2.toArray false) .ret) .skip)) F13.t3))
theorem F13.calls (hn : args.size ≤ 62) (h : cwE Tryd.prog F13.code (fnP Tryd.prog #[(.tmp 2), (.tmp 3)] R) (entry args) w) : Calls Tryd.prog 13 args w R :=
  calls_of_cwE (types := Tryd.prog.types) follows Tryd.func13 F13.code rfl (by kernel_rfl) hn h

def F14.r0 : List Oper := [
  oc 1 (.box 32 (.tmp 0)) 0,
  op 2 (.assign (.const (.pointer none))) 37,
  op 3 (.assign (.const (.int .i64 0))) 26]
def F14.r1 : List Oper := [
  op 7 (.fieldAddr 32 (.tmp 1) 1) 0,
  od 8 (.load 9 (.tmp 7)) 9,
  oc 9 (.call ⟨(.value (.func 35)), #[(.tmp 8)], #[9]⟩) 4,
  op 4 (.assign (.tmp 9)) 4]
def F14.r2 : List Oper := [
  op 10 (.fieldAddr 32 (.tmp 1) 2) 0,
  od 11 (.load 9 (.tmp 10)) 9,
  oc 12 (.call ⟨(.value (.func 35)), #[(.tmp 11)], #[9]⟩) 4,
  op 5 (.assign (.tmp 12)) 4]
def F14.r3 : List Oper := [
  op 13 (.fieldAddr 32 (.tmp 1) 8) 0,
  od 14 (.load 3 (.tmp 13)) 3,
  op 15 (.binOp .lss 3 (.tmp 14) (.const (.int .i64 1)) 3) 4,
  op 16 (.move (.tmp 15)) 4,
  ⟨(some 17), (.fieldAddr 32 (.tmp 1) 8), 0, "", #[], (some (16, false))⟩,
  ⟨(some 18), (.load 3 (.tmp 17)), 3, "", #[⟨0, .data⟩], (some (16, false))⟩,
  ⟨(some 19), (.binOp .gtr 3 (.tmp 18) (.const (.int .i64 4096)) 3), 4, "", #[], (some (16, false))⟩,
  op 20 (.pick (.tmp 16) (.const (.bool true)) (.tmp 19)) 4,
  op 21 (.move (.tmp 20)) 4,
  ⟨(some 22), (.fieldAddr 32 (.tmp 1) 3), 0, "", #[], (some (21, false))⟩,
  ⟨(some 23), (.load 29 (.tmp 22)), 29, "", #[⟨0, .data⟩], (some (21, false))⟩,
  ⟨(some 24), (.binOp .gtr 29 (.tmp 23) (.const (.int .u32 511)) 29), 4, "", #[], (some (21, false))⟩,
  op 25 (.pick (.tmp 21) (.const (.bool true)) (.tmp 24)) 4,
  op 26 (.move (.tmp 25)) 4,
  ⟨(some 27), (.move (.tmp 4)), 4, "", #[], (some (26, false))⟩,
  ⟨(some 28), (.unOp .not 4 (.tmp 27)), 4, "", #[], (some (26, false))⟩,
  op 29 (.pick (.tmp 26) (.const (.bool true)) (.tmp 28)) 4,
  op 30 (.move (.tmp 29)) 4,
  ⟨(some 31), (.move (.tmp 5)), 4, "", #[], (some (30, false))⟩,
  ⟨(some 32), (.unOp .not 4 (.tmp 31)), 4, "", #[], (some (30, false))⟩,
  op 33 (.pick (.tmp 30) (.const (.bool true)) (.tmp 32)) 4,
  op 34 (.move (.tmp 33)) 4,
  ⟨(some 35), (.fieldAddr 32 (.tmp 1) 1), 0, "", #[], (some (34, false))⟩,
  ⟨(some 36), (.load 9 (.tmp 35)), 9, "", #[⟨0, .data⟩], (some (34, false))⟩,
  ⟨(some 37), (.binOp .eql 9 (.tmp 36) (.const (.string { data := #[] })) 9), 4, "", #[], (some (34, false))⟩,
  op 38 (.pick (.tmp 34) (.const (.bool true)) (.tmp 37)) 4,
  op 39 (.move (.tmp 38)) 4,
  ⟨(some 40), (.fieldAddr 32 (.tmp 1) 2), 0, "", #[], (some (39, false))⟩,
  ⟨(some 41), (.load 9 (.tmp 40)), 9, "", #[⟨0, .data⟩], (some (39, false))⟩,
  ⟨(some 42), (.binOp .eql 9 (.tmp 41) (.const (.string { data := #[] })) 9), 4, "", #[], (some (39, false))⟩,
  op 43 (.pick (.tmp 39) (.const (.bool true)) (.tmp 42)) 4]
def F14.r4 : List Oper := [
  op 2 (.assign (.const (.pointer none))) 37,
  op 3 (.assign (.const (.int .i64 1))) 26]
def F14.r5 : List Oper := [
  op 44 (.fieldAddr 32 (.tmp 1) 3) 0,
  od 45 (.load 29 (.tmp 44)) 29,
  op 46 (.binOp .or 29 (.const (.int .u32 2147483648)) (.tmp 45) 29) 29,
  op 47 (.fieldAddr 32 (.tmp 1) 1) 0,
  od 48 (.load 9 (.tmp 47)) 9,
  op 49 (.fieldAddr 32 (.tmp 1) 2) 0,
  od 50 (.load 9 (.tmp 49)) 9,
  op 51 (.fieldAddr 32 (.tmp 1) 1) 0,
  od 52 (.load 9 (.tmp 51)) 9,
  op 53 (.build 41 #[(0, (.const (.int .u64 1))), (1, (.const (.int .u64 1))), (2, (.const (.string { data := #[47] }))), (3, (.tmp 46)), (4, (.tmp 48)), (5, (.tmp 50)), (6, (.tmp 52))]) 41,
  oc 6 (.alloc 41) 0,
  ⟨none, (.store 41 (.tmp 6) (.tmp 53)), 0, "", #[⟨0, .chain⟩], none⟩]
def F14.r6 : List Oper := [
  op 54 (.fieldAddr 32 (.tmp 1) 8) 0,
  od 55 (.load 3 (.tmp 54)) 3,
  od 56 (.load 41 (.tmp 6)) 41,
  op 57 (.build 103 #[(0, (.tmp 56))]) 103,
  oc 58 (.buildSlice 104 1 #[(0, (.tmp 57))]) 104,
  op 59 (.build 106 #[(0, (.tmp 55)), (1, (.const (.int .u64 2))), (2, (.tmp 58))]) 106,
  oc 60 (.box 106 (.tmp 59)) 37,
  op 2 (.assign (.tmp 60)) 37,
  op 3 (.assign (.const (.int .i64 0))) 26]
def F14.t5 : Cd := (.seq (.region 5 F14.r5.toArray false) (.seq (.region 6 F14.r6.toArray false) .ret))
theorem F14.t5_eq {θ : Tag (F14.t5, Q, e, w)} : cwE P F14.t5 Q e w θ = cwE P (.seq (.region 5 F14.r5.toArray false) (.seq (.region 6 F14.r6.toArray false) .ret)) Q e w := rfl
def F14.code : Cd := (.seq (.region 0 F14.r0.toArray false) (.seq (.region 1 F14.r1.toArray false) (.seq (.region 2 F14.r2.toArray false) (.seq (.seq (.region 3 F14.r3.toArray false) (.cond (.tmp 43) (.seq (.region 4 F14.r4.toArray false) .ret) .skip)) F14.t5))))
theorem F14.calls (hn : args.size ≤ 61) (h : cwE Tryd.prog F14.code (fnP Tryd.prog #[(.tmp 2), (.tmp 3)] R) (entry args) w) : Calls Tryd.prog 14 args w R :=
  calls_of_cwE (types := Tryd.prog.types) follows Tryd.func14 F14.code rfl (by kernel_rfl) hn h

def F15.r0 : List Oper := [
  oc 4 (.alloc 41) 0,
  op 5 (.assign (.const (.bool false))) 4]
def F15.r1 : List Oper := [
  op 6 (.move (.tmp 0)) 34,
  op 7 (.nilCheck (.tmp 6)) 0,
  op 8 (.fieldAddr 101 (.tmp 7) 0) 0,
  oc 9 (.call ⟨(.value (.func 36)), #[(.tmp 8)], #[99]⟩) 0]
def F15.r2 : List Oper := [
  op 10 (.move (.tmp 0)) 34,
  op 11 (.nilCheck (.tmp 10)) 0,
  op 12 (.fieldAddr 101 (.tmp 11) 0) 0,
  ⟨none, (.defer ⟨(.value (.func 37)), #[(.tmp 12)], #[99]⟩), 0, "", #[⟨0, .chain⟩], none⟩]
def F15.r3 : List Oper := [
  op 13 (.move (.tmp 0)) 34,
  op 14 (.move (.tmp 1)) 30,
  oc 15 (.call ⟨(.value (.func 38)), #[(.tmp 13), (.tmp 14)], #[34, 30]⟩) 42,
  op 16 (.extract (.tmp 15) 0) 41,
  op 17 (.extract (.tmp 15) 1) 4,
  ⟨none, (.store 41 (.tmp 4) (.tmp 16)), 0, "", #[⟨0, .chain⟩], none⟩,
  op 5 (.assign (.tmp 17)) 4]
def F15.code : Cd := (.seq (.region 0 F15.r0.toArray false) (.seq (.region 1 F15.r1.toArray false) (.seq (.region 2 F15.r2.toArray false) (.seq (.region 3 F15.r3.toArray false) .ret))))
theorem F15.calls (hn : args.size ≤ 18) (h : cwE Tryd.prog F15.code (fnP Tryd.prog #[(.cell 4 41), (.tmp 5)] R) (entry args) w) : Calls Tryd.prog 15 args w R :=
  calls_of_cwE (types := Tryd.prog.types) follows Tryd.func15 F15.code rfl (by kernel_rfl) hn h

def F16.r0 : List Oper := [
  oc 4 (.alloc 41) 0,
  op 5 (.assign (.const (.bool false))) 4]
def F16.r1 : List Oper := [
  op 7 (.move (.tmp 0)) 37,
  op 8 (.move (.tmp 1)) 30,
  oc 9 (.call ⟨(.value (.func 39)), #[(.tmp 7), (.tmp 8)], #[37, 30]⟩) 3,
  op 6 (.assign (.tmp 9)) 3]
def F16.r2 : List Oper := [
  op 10 (.move (.tmp 6)) 3,
  op 11 (.binOp .lss 3 (.tmp 10) (.const (.int .i64 0)) 3) 4]
def F16.r3 : List Oper := [
  op 12 (.build 41 #[]) 41,
  ⟨none, (.store 41 (.tmp 4) (.tmp 12)), 0, "", #[⟨0, .chain⟩], none⟩,
  op 5 (.assign (.const (.bool false))) 4]
def F16.r4 : List Oper := [
  op 13 (.move (.tmp 0)) 37,
  op 14 (.nilCheck (.tmp 13)) 0,
  op 15 (.fieldAddr 106 (.tmp 14) 2) 0,
  od 16 (.load 104 (.tmp 15)) 104,
  op 17 (.move (.tmp 6)) 3,
  op 18 (.indexAddr 104 (.tmp 16) (.tmp 17)) 0,
  op 19 (.fieldAddr 103 (.tmp 18) 0) 0,
  od 20 (.load 41 (.tmp 19)) 41,
  ⟨none, (.store 41 (.tmp 4) (.tmp 20)), 0, "", #[⟨0, .chain⟩], none⟩,
  op 5 (.assign (.const (.bool true))) 4]
def F16.t4 : Cd := (.seq (.region 4 F16.r4.toArray false) .ret)
theorem F16.t4_eq {θ : Tag (F16.t4, Q, e, w)} : cwE P F16.t4 Q e w θ = cwE P (.seq (.region 4 F16.r4.toArray false) .ret) Q e w := rfl
def F16.code : Cd := (.seq (.region 0 F16.r0.toArray false) (.seq (.region 1 F16.r1.toArray false) (.seq (.seq (.region 2 F16.r2.toArray false) (.cond (.tmp 11) (.seq (.region 3 F16.r3.toArray false) .ret) .skip)) F16.t4)))
theorem F16.calls (hn : args.size ≤ 21) (h : cwE Tryd.prog F16.code (fnP Tryd.prog #[(.cell 4 41), (.tmp 5)] R) (entry args) w) : Calls Tryd.prog 16 args w R :=
  calls_of_cwE (types := Tryd.prog.types) follows Tryd.func16 F16.code rfl (by kernel_rfl) hn h

def F17.r0 : List Oper := [
  op 2 (.assign (.const (.int .u64 0))) 30]
def F17.r1 : List Oper := [
  op 3 (.move (.tmp 0)) 34,
  op 4 (.nilCheck (.tmp 3)) 0,
  op 5 (.fieldAddr 101 (.tmp 4) 0) 0,
  oc 6 (.call ⟨(.value (.func 36)), #[(.tmp 5)], #[99]⟩) 0]
def F17.r2 : List Oper := [
  op 7 (.move (.tmp 0)) 34,
  op 8 (.nilCheck (.tmp 7)) 0,
  op 9 (.fieldAddr 101 (.tmp 8) 0) 0,
  ⟨none, (.defer ⟨(.value (.func 37)), #[(.tmp 9)], #[99]⟩), 0, "", #[⟨0, .chain⟩], none⟩]
def F17.r3 : List Oper := [
  op 10 (.move (.tmp 0)) 34,
  op 11 (.nilCheck (.tmp 10)) 0,
  op 12 (.fieldAddr 101 (.tmp 11) 2) 0,
  od 13 (.load 30 (.tmp 12)) 30,
  op 2 (.assign (.tmp 13)) 30]
def F17.code : Cd := (.seq (.region 0 F17.r0.toArray false) (.seq (.region 1 F17.r1.toArray false) (.seq (.region 2 F17.r2.toArray false) (.seq (.region 3 F17.r3.toArray false) .ret))))
theorem F17.calls (hn : args.size ≤ 14) (h : cwE Tryd.prog F17.code (fnP Tryd.prog #[(.tmp 2)] R) (entry args) w) : Calls Tryd.prog 17 args w R :=
  calls_of_cwE (types := Tryd.prog.types) follows Tryd.func17 F17.code rfl (by kernel_rfl) hn h

def F18.r0 : List Oper := [
  op 2 (.assign (.const (.int .i64 0))) 3]
def F18.r1 : List Oper := [
  op 3 (.move (.tmp 0)) 34,
  op 4 (.nilCheck (.tmp 3)) 0,
  op 5 (.fieldAddr 101 (.tmp 4) 0) 0,
  oc 6 (.call ⟨(.value (.func 36)), #[(.tmp 5)], #[99]⟩) 0]
def F18.r2 : List Oper := [
  op 7 (.move (.tmp 0)) 34,
  op 8 (.nilCheck (.tmp 7)) 0,
  op 9 (.fieldAddr 101 (.tmp 8) 0) 0,
  ⟨none, (.defer ⟨(.value (.func 37)), #[(.tmp 9)], #[99]⟩), 0, "", #[⟨0, .chain⟩], none⟩]
def F18.r3 : List Oper := [
  op 10 (.move (.tmp 0)) 34,
  op 11 (.nilCheck (.tmp 10)) 0,
  op 12 (.fieldAddr 101 (.tmp 11) 3) 0,
  od 13 (.load 93 (.tmp 12)) 93,
  od 14 (.call ⟨(.builtin .len), #[(.tmp 13)], #[93]⟩) 3,
  op 2 (.assign (.tmp 14)) 3]
def F18.code : Cd := (.seq (.region 0 F18.r0.toArray false) (.seq (.region 1 F18.r1.toArray false) (.seq (.region 2 F18.r2.toArray false) (.seq (.region 3 F18.r3.toArray false) .ret))))
theorem F18.calls (hn : args.size ≤ 15) (h : cwE Tryd.prog F18.code (fnP Tryd.prog #[(.tmp 2)] R) (entry args) w) : Calls Tryd.prog 18 args w R :=
  calls_of_cwE (types := Tryd.prog.types) follows Tryd.func18 F18.code rfl (by kernel_rfl) hn h

def F19.r0 : List Oper := [
  op 2 (.assign (.const (.pointer none))) 34]
def F19.r1 : List Oper := [
  op 6 (.move (.tmp 0)) 3,
  op 7 (.build 32 #[(8, (.tmp 6)), (3, (.const (.int .u32 493))), (1, (.const (.string { data := #[97, 110, 110] }))), (2, (.const (.string { data := #[115, 116, 97, 102, 102] })))]) 32,
  oc 8 (.call ⟨(.value (.func 13)), #[(.tmp 7)], #[32]⟩) 35,
  op 5 (.move (.tmp 8)) 35,
  op 9 (.extract (.tmp 5) 0) 34,
  op 10 (.extract (.tmp 5) 1) 26,
  op 3 (.assign (.tmp 9)) 34,
  op 4 (.assign (.tmp 10)) 26]
def F19.r2 : List Oper := [
  op 11 (.move (.tmp 4)) 26,
  op 12 (.binOp .neq 26 (.tmp 11) (.const (.int .i64 0)) 26) 4,
  op 13 (.move (.tmp 12)) 4,
  ⟨(some 14), (.move (.tmp 3)), 34, "", #[], (some (13, false))⟩,
  ⟨(some 15), (.binOp .eql 34 (.tmp 14) (.const (.pointer none)) 34), 4, "", #[], (some (13, false))⟩,
  op 16 (.pick (.tmp 13) (.const (.bool true)) (.tmp 15)) 4]
def F19.r3 : List Oper := [
  op 2 (.assign (.const (.pointer none))) 34]
def F19.r4 : List Oper := [
  op 17 (.move (.tmp 3)) 34,
  op 2 (.assign (.tmp 17)) 34]
def F19.t4 : Cd := (.seq (.region 4 F19.r4.toArray false) .ret)
theorem F19.t4_eq {θ : Tag (F19.t4, Q, e, w)} : cwE P F19.t4 Q e w θ = cwE P (.seq (.region 4 F19.r4.toArray false) .ret) Q e w := rfl
def F19.code : Cd := (.seq (.region 0 F19.r0.toArray false) (.seq (.region 1 F19.r1.toArray false) (.seq (.seq (.region 2 F19.r2.toArray false) (.cond (.tmp 16) (.seq (.region 3 F19.r3.toArray false) .ret) .skip)) F19.t4)))
theorem F19.calls (hn : args.size ≤ 18) (h : cwE Tryd.prog F19.code (fnP Tryd.prog #[(.tmp 2)] R) (entry args) w) : Calls Tryd.prog 19 args w R :=
  calls_of_cwE (types := Tryd.prog.types) follows Tryd.func19 F19.code rfl (by kernel_rfl) hn h

def F20.r0 : List Oper := [
  oc 3 (.box 53 (.tmp 1)) 0,
  op 4 (.assign (.const (.int .u64 0))) 30,
  op 5 (.assign (.const (.int .i64 0))) 26]
def F20.r1 : List Oper := [
  op 8 (.fieldAddr 53 (.tmp 3) 0) 0,
  od 9 (.load 22 (.tmp 8)) 22]
def F20.r3 : List Oper := [
  op 11 (.binOp .eql 22 (.tmp 9) (.const (.int .u8 1)) 22) 4,
  op 10 (.assign (.tmp 11)) 4]
def F20.r4 : List Oper := [
  op 12 (.binOp .eql 22 (.tmp 9) (.const (.int .u8 2)) 22) 4,
  op 10 (.assign (.tmp 12)) 4]
def F20.r5 : List Oper := [
  op 13 (.binOp .eql 22 (.tmp 9) (.const (.int .u8 3)) 22) 4,
  op 10 (.assign (.tmp 13)) 4]
def F20.r6 : List Oper := [
  op 14 (.move (.tmp 0)) 34,
  od 15 (.load 53 (.tmp 3)) 53,
  oc 16 (.call ⟨(.value (.func 40)), #[(.tmp 14), (.tmp 15)], #[34, 53]⟩) 49,
  op 17 (.extract (.tmp 16) 0) 30,
  op 18 (.extract (.tmp 16) 1) 26,
  op 4 (.assign (.tmp 17)) 30,
  op 5 (.assign (.tmp 18)) 26]
def F20.r7 : List Oper := [
  op 20 (.binOp .eql 22 (.tmp 9) (.const (.int .u8 4)) 22) 4,
  op 19 (.assign (.tmp 20)) 4]
def F20.r8 : List Oper := [
  op 21 (.binOp .eql 22 (.tmp 9) (.const (.int .u8 5)) 22) 4,
  op 19 (.assign (.tmp 21)) 4]
def F20.r9 : List Oper := [
  op 22 (.binOp .eql 22 (.tmp 9) (.const (.int .u8 6)) 22) 4,
  op 19 (.assign (.tmp 22)) 4]
def F20.r10 : List Oper := [
  op 23 (.binOp .eql 22 (.tmp 9) (.const (.int .u8 7)) 22) 4,
  op 19 (.assign (.tmp 23)) 4]
def F20.r2 : List Oper := [
  op 4 (.assign (.const (.int .u64 0))) 30,
  op 5 (.assign (.const (.int .i64 1))) 26]
def F20.r11 : List Oper := [
  op 24 (.move (.tmp 0)) 34,
  op 25 (.nilCheck (.tmp 24)) 0,
  op 26 (.fieldAddr 101 (.tmp 25) 0) 0,
  oc 27 (.call ⟨(.value (.func 36)), #[(.tmp 26)], #[99]⟩) 0]
def F20.r12 : List Oper := [
  op 28 (.move (.tmp 0)) 34,
  op 29 (.nilCheck (.tmp 28)) 0,
  op 30 (.fieldAddr 101 (.tmp 29) 0) 0,
  ⟨none, (.defer ⟨(.value (.func 37)), #[(.tmp 30)], #[99]⟩), 0, "", #[⟨0, .chain⟩], none⟩]
def F20.r13 : List Oper := [
  ⟨(some 31), (.move (.tmp 0)), 34, "", #[], none⟩,
  ⟨(some 32), (.nilCheck (.tmp 31)), 0, "", #[], none⟩,
  ⟨(some 33), (.fieldAddr 101 (.tmp 32) 3), 0, "", #[], none⟩,
  ⟨(some 35), (.fieldAddr 53 (.tmp 3) 1), 0, "", #[], none⟩,
  ⟨(some 34), (.load 93 (.tmp 33)), 93, "", #[⟨0, .data⟩], none⟩,
  ⟨(some 36), (.load 30 (.tmp 35)), 30, "", #[⟨0, .data⟩], none⟩,
  ⟨(some 37), (.lookup 93 (.tmp 34) (.tmp 36) false), 83, "", #[⟨0, .data⟩], none⟩,
  ⟨(some 6), (.assign (.tmp 37)), 83, "", #[], none⟩]
def F20.r14 : List Oper := [
  op 38 (.move (.tmp 6)) 83,
  op 39 (.binOp .eql 83 (.tmp 38) (.const (.pointer none)) 83) 4]
def F20.r15 : List Oper := [
  op 4 (.assign (.const (.int .u64 0))) 30,
  op 5 (.assign (.const (.int .i64 80))) 26]
def F20.r16 : List Oper := [
  op 40 (.move (.tmp 6)) 83,
  op 41 (.nilCheck (.tmp 40)) 0,
  op 42 (.fieldAddr 92 (.tmp 41) 0) 0,
  oc 43 (.call ⟨(.value (.func 41)), #[(.tmp 42)], #[89]⟩) 0]
def F20.r17 : List Oper := [
  op 44 (.move (.tmp 6)) 83,
  op 45 (.nilCheck (.tmp 44)) 0,
  op 46 (.fieldAddr 92 (.tmp 45) 0) 0,
  ⟨none, (.defer ⟨(.value (.func 42)), #[(.tmp 46)], #[89]⟩), 0, "", #[⟨0, .chain⟩], none⟩]
def F20.r18 : List Oper := [
  op 7 (.assign (.const (.int .i64 0))) 26]
def F20.r19 : List Oper := [
  op 47 (.fieldAddr 53 (.tmp 3) 0) 0,
  od 48 (.load 22 (.tmp 47)) 22]
def F20.r20 : List Oper := [
  op 50 (.binOp .eql 22 (.tmp 48) (.const (.int .u8 4)) 22) 4,
  op 49 (.assign (.tmp 50)) 4]
def F20.r21 : List Oper := [
  op 51 (.move (.tmp 6)) 83,
  op 52 (.fieldAddr 53 (.tmp 3) 3) 0,
  od 53 (.load 24 (.tmp 52)) 24,
  op 54 (.fieldAddr 53 (.tmp 3) 4) 0,
  od 55 (.load 41 (.tmp 54)) 41,
  oc 56 (.call ⟨(.value (.func 43)), #[(.tmp 51), (.tmp 53), (.tmp 55)], #[83, 24, 41]⟩) 26,
  op 7 (.assign (.tmp 56)) 26]
def F20.r22 : List Oper := [
  op 58 (.binOp .eql 22 (.tmp 48) (.const (.int .u8 5)) 22) 4,
  op 57 (.assign (.tmp 58)) 4]
def F20.r23 : List Oper := [
  op 59 (.move (.tmp 6)) 83,
  op 60 (.fieldAddr 53 (.tmp 3) 5) 0,
  od 61 (.load 30 (.tmp 60)) 30,
  oc 62 (.call ⟨(.value (.func 44)), #[(.tmp 59), (.tmp 61)], #[83, 30]⟩) 26,
  op 7 (.assign (.tmp 62)) 26]
def F20.r24 : List Oper := [
  op 64 (.binOp .eql 22 (.tmp 48) (.const (.int .u8 6)) 22) 4,
  op 63 (.assign (.tmp 64)) 4]
def F20.r25 : List Oper := [
  op 65 (.move (.tmp 6)) 83,
  op 66 (.fieldAddr 53 (.tmp 3) 5) 0,
  od 67 (.load 30 (.tmp 66)) 30,
  op 68 (.fieldAddr 53 (.tmp 3) 6) 0,
  od 69 (.load 51 (.tmp 68)) 51,
  oc 70 (.call ⟨(.value (.func 45)), #[(.tmp 65), (.tmp 67), (.tmp 69)], #[83, 30, 51]⟩) 26,
  op 7 (.assign (.tmp 70)) 26]
def F20.r26 : List Oper := [
  op 72 (.binOp .eql 22 (.tmp 48) (.const (.int .u8 7)) 22) 4,
  op 71 (.assign (.tmp 72)) 4]
def F20.r27 : List Oper := [
  op 73 (.move (.tmp 6)) 83,
  op 74 (.fieldAddr 53 (.tmp 3) 7) 0,
  od 75 (.load 3 (.tmp 74)) 3,
  oc 76 (.call ⟨(.value (.func 46)), #[(.tmp 73), (.tmp 75)], #[83, 3]⟩) 26,
  op 7 (.assign (.tmp 76)) 26]
def F20.r28 : List Oper := [
  op 77 (.move (.tmp 7)) 26,
  op 78 (.binOp .neq 26 (.tmp 77) (.const (.int .i64 0)) 26) 4]
def F20.r29 : List Oper := [
  op 79 (.move (.tmp 7)) 26,
  op 4 (.assign (.const (.int .u64 0))) 30,
  op 5 (.assign (.tmp 79)) 26]
def F20.r30 : List Oper := [
  op 80 (.fieldAddr 53 (.tmp 3) 1) 0,
  od 81 (.load 30 (.tmp 80)) 30,
  op 4 (.assign (.tmp 81)) 30,
  op 5 (.assign (.const (.int .i64 0))) 26]
def F20.t2 : Cd := (.cond (.tmp 19) .skip (.seq (.region 2 F20.r2.toArray false) .ret))
theorem F20.t2_eq {θ : Tag (F20.t2, Q, e, w)} : cwE P F20.t2 Q e w θ = cwE P (.cond (.tmp 19) .skip (.seq (.region 2 F20.r2.toArray false) .ret)) Q e w := rfl
def F20.t6 : Cd := (.cond (.tmp 10) (.seq (.region 6 F20.r6.toArray false) .ret) (.seq (.seq (.region 7 F20.r7.toArray false) (.cond (.tmp 19) .skip (.seq (.region 8 F20.r8.toArray false) (.cond (.tmp 19) .skip (.seq (.region 9 F20.r9.toArray false) (.cond (.tmp 19) .skip (.region 10 F20.r10.toArray false))))))) F20.t2))
theorem F20.t6_eq {θ : Tag (F20.t6, Q, e, w)} : cwE P F20.t6 Q e w θ = cwE P (.cond (.tmp 10) (.seq (.region 6 F20.r6.toArray false) .ret) (.seq (.seq (.region 7 F20.r7.toArray false) (.cond (.tmp 19) .skip (.seq (.region 8 F20.r8.toArray false) (.cond (.tmp 19) .skip (.seq (.region 9 F20.r9.toArray false) (.cond (.tmp 19) .skip (.region 10 F20.r10.toArray false))))))) F20.t2)) Q e w := rfl
def F20.t30 : Cd := (.seq (.region 30 F20.r30.toArray false) .ret)
theorem F20.t30_eq {θ : Tag (F20.t30, Q, e, w)} : cwE P F20.t30 Q e w θ = cwE P (.seq (.region 30 F20.r30.toArray false) .ret) Q e w := rfl
def F20.t28 : Cd := (.seq (.seq (.region 28 F20.r28.toArray false) (.cond (.tmp 78) (.seq (.region 29 F20.r29.toArray false) .ret) .skip)) F20.t30)
theorem F20.t28_eq {θ : Tag (F20.t28, Q, e, w)} : cwE P F20.t28 Q e w θ = cwE P (.seq (.seq (.region 28 F20.r28.toArray false) (.cond (.tmp 78) (.seq (.region 29 F20.r29.toArray false) .ret) .skip)) F20.t30) Q e w := rfl
def F20.t16 : Cd := (.seq (.region 16 F20.r16.toArray false) (.seq (.region 17 F20.r17.toArray false) (.seq (.region 18 F20.r18.toArray false) (.seq (.seq (.region 19 F20.r19.toArray false) (.block 1 (.seq (.region 20 F20.r20.toArray false) (.cond (.tmp 49) (.region 21 F20.r21.toArray false) (.seq (.region 22 F20.r22.toArray false) (.cond (.tmp 57) (.region 23 F20.r23.toArray false) (.seq (.region 24 F20.r24.toArray false) (.cond (.tmp 63) (.region 25 F20.r25.toArray false) (.seq (.region 26 F20.r26.toArray false) (.cond (.tmp 71) (.region 27 F20.r27.toArray false) .skip)))))))))) F20.t28))))
theorem F20.t16_eq {θ : Tag (F20.t16, Q, e, w)} : cwE P F20.t16 Q e w θ = cwE P (.seq (.region 16 F20.r16.toArray false) (.seq (.region 17 F20.r17.toArray false) (.seq (.region 18 F20.r18.toArray false) (.seq (.seq (.region 19 F20.r19.toArray false) (.block 1 (.seq (.region 20 F20.r20.toArray false) (.cond (.tmp 49) (.region 21 F20.r21.toArray false) (.seq (.region 22 F20.r22.toArray false) (.cond (.tmp 57) (.region 23 F20.r23.toArray false) (.seq (.region 24 F20.r24.toArray false) (.cond (.tmp 63) (.region 25 F20.r25.toArray false) (.seq (.region 26 F20.r26.toArray false) (.cond (.tmp 71) (.region 27 F20.r27.toArray false) .skip)))))))))) F20.t28)))) Q e w := rfl
def F20.t11 : Cd := (.seq (.region 11 F20.r11.toArray false) (.seq (.region 12 F20.r12.toArray false) (.seq (.region 13 F20.r13.toArray true) (.seq (.seq (.region 14 F20.r14.toArray false) (.cond (.tmp 39) (.seq (.region 15 F20.r15.toArray false) .ret) .skip)) F20.t16))))
theorem F20.t11_eq {θ : Tag (F20.t11, Q, e, w)} : cwE P F20.t11 Q e w θ = cwE P (.seq (.region 11 F20.r11.toArray false) (.seq (.region 12 F20.r12.toArray false) (.seq (.region 13 F20.r13.toArray true) (.seq (.seq (.region 14 F20.r14.toArray false) (.cond (.tmp 39) (.seq (.region 15 F20.r15.toArray false) .ret) .skip)) F20.t16)))) Q e w := rfl
def F20.code : Cd := (.seq (.region 0 F20.r0.toArray false) (.seq (.seq (.region 1 F20.r1.toArray false) (.block 0 (.seq (.seq (.region 3 F20.r3.toArray false) (.cond (.tmp 10) .skip (.seq (.region 4 F20.r4.toArray false) (.cond (.tmp 10) .skip (.region 5 F20.r5.toArray false))))) F20.t6))) F20.t11))
theorem F20.calls (hn : args.size ≤ 82) (h : cwE Tryd.prog F20.code (fnP Tryd.prog #[(.tmp 4), (.tmp 5)] R) (entry args) w) : Calls Tryd.prog 20 args w R :=
  calls_of_cwE (types := Tryd.prog.types) follows Tryd.func20 F20.code rfl (by kernel_rfl) hn h

def F21.r0 : List Oper := [
  oc 6 (.alloc 53) 0]
def F21.r1 : List Oper := [
  op 7 (.move (.tmp 0)) 30,
  op 8 (.move (.tmp 1)) 9,
  op 9 (.move (.tmp 2)) 29,
  op 10 (.build 41 #[(2, (.tmp 8)), (3, (.tmp 9)), (4, (.const (.string { data := #[97, 110, 110] }))), (5, (.const (.string { data := #[115, 116, 97, 102, 102] }))), (6, (.const (.string { data := #[97, 110, 110] })))]) 41,
  op 11 (.build 53 #[(0, (.const (.int .u8 1))), (1, (.tmp 7)), (4, (.tmp 10))]) 53,
  ⟨none, (.store 53 (.tmp 6) (.tmp 11)), 0, "", #[⟨0, .chain⟩], none⟩]
def F21.code : Cd := (.seq (.region 0 F21.r0.toArray false) (.seq (.region 1 F21.r1.toArray false) .ret))
theorem F21.calls (hn : args.size ≤ 12) (h : cwE Tryd.prog F21.code (fnP Tryd.prog #[(.cell 6 53)] R) (entry args) w) : Calls Tryd.prog 21 args w R :=
  calls_of_cwE (types := Tryd.prog.types) follows Tryd.func21 F21.code rfl (by kernel_rfl) hn h

def F22.r0 : List Oper := [
  op 4 (.assign (.const (.int .i64 0))) 3]
def F22.r1 : List Oper := [
  op 5 (.move (.tmp 0)) 3,
  op 6 (.binOp .lss 3 (.tmp 5) (.const (.int .i64 0)) 3) 4]
def F22.r2 : List Oper := [
  op 7 (.move (.tmp 0)) 3,
  op 8 (.binOp .add 3 (.tmp 7) (.const (.int .i64 1)) 3) 3,
  op 9 (.unOp .neg 3 (.tmp 8)) 3,
  op 0 (.assign (.tmp 9)) 3]
def F22.r3 : List Oper := [
  op 10 (.move (.tmp 0)) 3,
  op 11 (.move (.tmp 1)) 3,
  op 12 (.binOp .rem 3 (.tmp 10) (.tmp 11) 3) 3,
  op 4 (.assign (.tmp 12)) 3]
def F22.t3 : Cd := (.seq (.region 3 F22.r3.toArray false) .ret)
theorem F22.t3_eq {θ : Tag (F22.t3, Q, e, w)} : cwE P F22.t3 Q e w θ = cwE P (.seq (.region 3 F22.r3.toArray false) .ret) Q e w := rfl
def F22.code : Cd := (.seq (.region 0 F22.r0.toArray false) (.seq (.seq (.region 1 F22.r1.toArray false) (.cond (.tmp 6) (.region 2 F22.r2.toArray false) .skip)) F22.t3))
theorem F22.calls (hn : args.size ≤ 13) (h : cwE Tryd.prog F22.code (fnP Tryd.prog #[(.tmp 4)] R) (entry args) w) : Calls Tryd.prog 22 args w R :=
  calls_of_cwE (types := Tryd.prog.types) follows Tryd.func22 F22.code rfl (by kernel_rfl) hn h

def F23.r0 : List Oper := [
  op 8 (.assign (.const (.slice none 0 0))) 51]
def F23.r1 : List Oper := [
  op 10 (.move (.tmp 0)) 34,
  op 11 (.nilCheck (.tmp 10)) 0,
  op 12 (.fieldAddr 101 (.tmp 11) 0) 0,
  oc 13 (.call ⟨(.value (.func 36)), #[(.tmp 12)], #[99]⟩) 0]
def F23.r2 : List Oper := [
  op 14 (.move (.tmp 0)) 34,
  op 15 (.nilCheck (.tmp 14)) 0,
  op 16 (.fieldAddr 101 (.tmp 15) 0) 0,
  ⟨none, (.defer ⟨(.value (.func 37)), #[(.tmp 16)], #[99]⟩), 0, "", #[⟨0, .chain⟩], none⟩]
def F23.r3 : List Oper := [
  op 17 (.move (.tmp 0)) 34,
  op 18 (.nilCheck (.tmp 17)) 0,
  op 19 (.fieldAddr 101 (.tmp 18) 3) 0,
  od 20 (.load 93 (.tmp 19)) 93,
  op 21 (.move (.tmp 1)) 30,
  od 22 (.lookup 93 (.tmp 20) (.tmp 21) false) 83,
  op 9 (.assign (.tmp 22)) 83]
def F23.r4 : List Oper := [
  op 23 (.move (.tmp 9)) 83,
  op 24 (.binOp .eql 83 (.tmp 23) (.const (.pointer none)) 83) 4]
def F23.r5 : List Oper := [
  op 8 (.assign (.const (.slice none 0 0))) 51]
def F23.r6 : List Oper := [
  op 25 (.move (.tmp 9)) 83,
  op 26 (.nilCheck (.tmp 25)) 0,
  op 27 (.fieldAddr 92 (.tmp 26) 0) 0,
  oc 28 (.call ⟨(.value (.func 41)), #[(.tmp 27)], #[89]⟩) 0]
def F23.r7 : List Oper := [
  op 29 (.move (.tmp 9)) 83,
  op 30 (.nilCheck (.tmp 29)) 0,
  op 31 (.fieldAddr 92 (.tmp 30) 0) 0,
  ⟨none, (.defer ⟨(.value (.func 42)), #[(.tmp 31)], #[89]⟩), 0, "", #[⟨0, .chain⟩], none⟩]
def F23.r8 : List Oper := [
  op 32 (.move (.tmp 9)) 83,
  op 33 (.move (.tmp 2)) 30,
  op 34 (.move (.tmp 3)) 3,
  oc 35 (.call ⟨(.value (.func 47)), #[(.tmp 32), (.tmp 33), (.tmp 34)], #[83, 30, 3]⟩) 51,
  op 8 (.assign (.tmp 35)) 51]
def F23.t6 : Cd := (.seq (.region 6 F23.r6.toArray false) (.seq (.region 7 F23.r7.toArray false) (.seq (.region 8 F23.r8.toArray false) .ret)))
theorem F23.t6_eq {θ : Tag (F23.t6, Q, e, w)} : cwE P F23.t6 Q e w θ = cwE P (.seq (.region 6 F23.r6.toArray false) (.seq (.region 7 F23.r7.toArray false) (.seq (.region 8 F23.r8.toArray false) .ret))) Q e w := rfl
def F23.code : Cd := (.seq (.region 0 F23.r0.toArray false) (.seq (.region 1 F23.r1.toArray false) (.seq (.region 2 F23.r2.toArray false) (.seq (.region 3 F23.r3.toArray false) (.seq (.seq (.region 4 F23.r4.toArray false) (.cond (.tmp 24) (.seq (.region 5 F23.r5.toArray false) .ret) .skip)) F23.t6)))))
theorem F23.calls (hn : args.size ≤ 36) (h : cwE Tryd.prog F23.code (fnP Tryd.prog #[(.tmp 8)] R) (entry args) w) : Calls Tryd.prog 23 args w R :=
  calls_of_cwE (types := Tryd.prog.types) follows Tryd.func23 F23.code rfl (by kernel_rfl) hn h

def F24.r0 : List Oper := [
  op 6 (.assign (.const (.int .u64 0))) 30,
  op 7 (.assign (.const (.bool false))) 4]
def F24.r1 : List Oper := [
  op 9 (.move (.tmp 0)) 34,
  op 10 (.nilCheck (.tmp 9)) 0,
  op 11 (.fieldAddr 101 (.tmp 10) 0) 0,
  oc 12 (.call ⟨(.value (.func 36)), #[(.tmp 11)], #[99]⟩) 0]
def F24.r2 : List Oper := [
  op 13 (.move (.tmp 0)) 34,
  op 14 (.nilCheck (.tmp 13)) 0,
  op 15 (.fieldAddr 101 (.tmp 14) 0) 0,
  ⟨none, (.defer ⟨(.value (.func 37)), #[(.tmp 15)], #[99]⟩), 0, "", #[⟨0, .chain⟩], none⟩]
def F24.r3 : List Oper := [
  op 16 (.move (.tmp 0)) 34,
  op 17 (.nilCheck (.tmp 16)) 0,
  op 18 (.fieldAddr 101 (.tmp 17) 3) 0,
  od 19 (.load 93 (.tmp 18)) 93,
  op 20 (.move (.tmp 1)) 30,
  od 21 (.lookup 93 (.tmp 19) (.tmp 20) false) 83,
  op 8 (.assign (.tmp 21)) 83]
def F24.r4 : List Oper := [
  op 22 (.move (.tmp 8)) 83,
  op 23 (.binOp .eql 83 (.tmp 22) (.const (.pointer none)) 83) 4]
def F24.r5 : List Oper := [
  op 6 (.assign (.const (.int .u64 0))) 30,
  op 7 (.assign (.const (.bool false))) 4]
def F24.r6 : List Oper := [
  op 24 (.move (.tmp 8)) 83,
  op 25 (.nilCheck (.tmp 24)) 0,
  op 26 (.fieldAddr 92 (.tmp 25) 2) 0,
  od 27 (.load 63 (.tmp 26)) 63,
  op 28 (.move (.tmp 2)) 30,
  oc 29 (.call ⟨(.value (.func 48)), #[(.tmp 27), (.tmp 28)], #[63, 30]⟩) 64,
  op 30 (.extract (.tmp 29) 0) 30,
  op 31 (.extract (.tmp 29) 1) 4,
  op 6 (.assign (.tmp 30)) 30,
  op 7 (.assign (.tmp 31)) 4]
def F24.t6 : Cd := (.seq (.region 6 F24.r6.toArray false) .ret)
theorem F24.t6_eq {θ : Tag (F24.t6, Q, e, w)} : cwE P F24.t6 Q e w θ = cwE P (.seq (.region 6 F24.r6.toArray false) .ret) Q e w := rfl
def F24.code : Cd := (.seq (.region 0 F24.r0.toArray false) (.seq (.region 1 F24.r1.toArray false) (.seq (.region 2 F24.r2.toArray false) (.seq (.region 3 F24.r3.toArray false) (.seq (.seq (.region 4 F24.r4.toArray false) (.cond (.tmp 23) (.seq (.region 5 F24.r5.toArray false) .ret) .skip)) F24.t6)))))
theorem F24.calls (hn : args.size ≤ 32) (h : cwE Tryd.prog F24.code (fnP Tryd.prog #[(.tmp 6), (.tmp 7)] R) (entry args) w) : Calls Tryd.prog 24 args w R :=
  calls_of_cwE (types := Tryd.prog.types) follows Tryd.func24 F24.code rfl (by kernel_rfl) hn h

def F25.r0 : List Oper := [
  op 4 (.assign (.const (.int .i64 0))) 3]
def F25.r1 : List Oper := [
  op 5 (.assign (.const (.int .i64 0))) 3]
def F25.r2 : List Oper := [
  op 6 (.move (.tmp 5)) 3,
  op 7 (.move (.tmp 0)) 67,
  op 8 (.call ⟨(.builtin .len), #[(.tmp 7)], #[67]⟩) 3,
  op 9 (.binOp .lss 3 (.tmp 6) (.tmp 8) 3) 4,
  op 10 (.move (.tmp 9)) 4,
  ⟨(some 11), (.move (.tmp 1)), 3, "", #[], (some (10, true))⟩,
  ⟨(some 12), (.binOp .leq 3 (.tmp 11) (.const (.int .i64 8388608)) 3), 4, "", #[], (some (10, true))⟩,
  op 13 (.pick (.tmp 10) (.tmp 12) (.const (.bool false))) 4]
def F25.r4 : List Oper := [
  op 16 (.move (.tmp 1)) 3,
  op 17 (.move (.tmp 0)) 67,
  op 18 (.move (.tmp 5)) 3,
  op 19 (.indexAddr 67 (.tmp 17) (.tmp 18)) 0,
  od 20 (.load 53 (.tmp 19)) 53,
  oc 21 (.call ⟨(.value (.func 29)), #[(.tmp 20)], #[53]⟩) 3,
  op 22 (.binOp .add 3 (.tmp 16) (.tmp 21) 3) 3,
  op 1 (.assign (.tmp 22)) 3]
def F25.r3 : List Oper := [
  op 14 (.move (.tmp 5)) 3,
  op 15 (.binOp .add 3 (.tmp 14) (.const (.int .i64 1)) 3) 3,
  op 5 (.assign (.tmp 15)) 3]
def F25.r5 : List Oper := [
  op 23 (.move (.tmp 1)) 3,
  op 4 (.assign (.tmp 23)) 3]
def F25.t3 : Cd := (.region 3 F25.r3.toArray false)
theorem F25.t3_eq {θ : Tag (F25.t3, Q, e, w)} : cwE P F25.t3 Q e w θ = cwE P (.region 3 F25.r3.toArray false) Q e w := rfl
def F25.t4 : Cd := (.seq (.block 1 (.region 4 F25.r4.toArray false)) F25.t3)
theorem F25.t4_eq {θ : Tag (F25.t4, Q, e, w)} : cwE P F25.t4 Q e w θ = cwE P (.seq (.block 1 (.region 4 F25.r4.toArray false)) F25.t3) Q e w := rfl
def F25.t5 : Cd := (.seq (.region 5 F25.r5.toArray false) .ret)
theorem F25.t5_eq {θ : Tag (F25.t5, Q, e, w)} : cwE P F25.t5 Q e w θ = cwE P (.seq (.region 5 F25.r5.toArray false) .ret) Q e w := rfl
def F25.code : Cd := (.seq (.region 0 F25.r0.toArray false) (.seq (.seq (.region 1 F25.r1.toArray false) (.block 0 (.loop (.seq (.seq (.region 2 F25.r2.toArray false) (.cond (.tmp 13) .skip (.exit 0))) F25.t4)))) F25.t5))
theorem F25.calls (hn : args.size ≤ 24) (h : cwE Tryd.prog F25.code (fnP Tryd.prog #[(.tmp 4)] R) (entry args) w) : Calls Tryd.prog 25 args w R :=
  calls_of_cwE (types := Tryd.prog.types) follows Tryd.func25 F25.code rfl (by kernel_rfl) hn h

def F26.r0 : List Oper := [
  op 2 (.assign (.const (.slice none 0 0))) 69]
def F26.r1 : List Oper := [
  oc 3 (.alloc 69) 0]
def F26.r2 : List Oper := [
  op 6 (.move (.tmp 0)) 34,
  oc 7 (.call ⟨(.value (.func 49)), #[(.tmp 6)], #[34]⟩) 115,
  op 4 (.assign (.tmp 7)) 115]
def F26.r3 : List Oper := [
  op 8 (.move (.tmp 4)) 115,
  op 9 (.binOp .eql 115 (.tmp 8) (.const .nilFunc) 115) 4]
def F26.r4 : List Oper := [
  op 2 (.assign (.const (.slice none 0 0))) 69]
def F26.r5 : List Oper := [
  op 10 (.move (.tmp 4)) 115]
def F26.r6 : List Oper := [
  oc 5 (.alloc 41) 0,
  ⟨none, (.store 41 (.tmp 5) (.tmp 11)), 0, "", #[⟨0, .chain⟩], none⟩]
def F26.r7 : List Oper := [
  od 12 (.load 69 (.tmp 3)) 69,
  od 13 (.load 41 (.tmp 5)) 41,
  oc 14 (.buildSlice 69 1 #[(0, (.tmp 13))]) 69,
  oc 15 (.call ⟨(.builtin .append), #[(.tmp 12), (.tmp 14)], #[69, 69]⟩) 69,
  ⟨none, (.store 69 (.tmp 3) (.tmp 15)), 0, "", #[⟨0, .chain⟩], none⟩]
def F26.r8 : List Oper := [
  od 16 (.load 69 (.tmp 3)) 69,
  op 2 (.assign (.tmp 16)) 69]
def F26.a0 : Cd := (.region 6 F26.r6.toArray false)
def F26.b0 : Cd := (.block 1 (.region 7 F26.r7.toArray false))
def F26.t8 : Cd := (.seq (.region 8 F26.r8.toArray false) .ret)
theorem F26.t8_eq {θ : Tag (F26.t8, Q, e, w)} : cwE P F26.t8 Q e w θ = cwE P (.seq (.region 8 F26.r8.toArray false) .ret) Q e w := rfl
def F26.t5 : Cd := (.seq (.seq (.region 5 F26.r5.toArray false) (.block 0 (.rangeFunc (.tmp 10) #[11] F26.a0 F26.b0))) F26.t8)
theorem F26.t5_eq {θ : Tag (F26.t5, Q, e, w)} : cwE P F26.t5 Q e w θ = cwE P (.seq (.seq (.region 5 F26.r5.toArray false) (.block 0 (.rangeFunc (.tmp 10) #[11] F26.a0 F26.b0))) F26.t8) Q e w := rfl
def F26.code : Cd := (.seq (.region 0 F26.r0.toArray false) (.seq (.region 1 F26.r1.toArray false) (.seq (.region 2 F26.r2.toArray false) (.seq (.seq (.region 3 F26.r3.toArray false) (.cond (.tmp 9) (.seq (.region 4 F26.r4.toArray false) .ret) .skip)) F26.t5))))
theorem F26.calls (hn : args.size ≤ 17) (h : cwE Tryd.prog F26.code (fnP Tryd.prog #[(.tmp 2)] R) (entry args) w) : Calls Tryd.prog 26 args w R :=
  calls_of_cwE (types := Tryd.prog.types) follows Tryd.func26 F26.code rfl (by kernel_rfl) hn h

def F27.r0 : List Oper := [
  op 4 (.assign (.const (.bool false))) 4]
def F27.r1 : List Oper := [
  op 10 (.move (.tmp 0)) 69,
  op 11 (.call ⟨(.builtin .len), #[(.tmp 10)], #[69]⟩) 3,
  op 12 (.binOp .eql 3 (.tmp 11) (.const (.int .i64 0)) 3) 4,
  op 13 (.move (.tmp 12)) 4,
  ⟨(some 14), (.move (.tmp 0)), 69, "", #[], (some (13, false))⟩,
  ⟨(some 15), (.call ⟨(.builtin .len), #[(.tmp 14)], #[69]⟩), 3, "", #[], (some (13, false))⟩,
  ⟨(some 16), (.move (.tmp 1)), 3, "", #[], (some (13, false))⟩,
  ⟨(some 17), (.binOp .gtr 3 (.tmp 15) (.tmp 16) 3), 4, "", #[], (some (13, false))⟩,
  op 18 (.pick (.tmp 13) (.const (.bool true)) (.tmp 17)) 4,
  op 19 (.move (.tmp 18)) 4,
  ⟨(some 20), (.move (.tmp 0)), 69, "", #[], (some (19, false))⟩,
  ⟨(some 21), (.indexAddr 69 (.tmp 20) (.const (.int .i64 0))), 0, "", #[], (some (19, false))⟩,
  ⟨(some 22), (.fieldAddr 41 (.tmp 21) 0), 0, "", #[], (some (19, false))⟩,
  ⟨(some 23), (.load 30 (.tmp 22)), 30, "", #[⟨0, .data⟩], (some (19, false))⟩,
  ⟨(some 24), (.binOp .neq 30 (.tmp 23) (.const (.int .u64 1)) 30), 4, "", #[], (some (19, false))⟩,
  op 25 (.pick (.tmp 19) (.const (.bool true)) (.tmp 24)) 4,
  op 26 (.move (.tmp 25)) 4,
  ⟨(some 27), (.move (.tmp 0)), 69, "", #[], (some (26, false))⟩,
  ⟨(some 28), (.indexAddr 69 (.tmp 27) (.const (.int .i64 0))), 0, "", #[], (some (26, false))⟩,
  ⟨(some 29), (.fieldAddr 41 (.tmp 28) 1), 0, "", #[], (some (26, false))⟩,
  ⟨(some 30), (.load 30 (.tmp 29)), 30, "", #[⟨0, .data⟩], (some (26, false))⟩,
  ⟨(some 31), (.binOp .neq 30 (.tmp 30) (.const (.int .u64 1)) 30), 4, "", #[], (some (26, false))⟩,
  op 32 (.pick (.tmp 26) (.const (.bool true)) (.tmp 31)) 4,
  op 33 (.move (.tmp 32)) 4,
  ⟨(some 34), (.move (.tmp 0)), 69, "", #[], (some (33, false))⟩,
  ⟨(some 35), (.indexAddr 69 (.tmp 34) (.const (.int .i64 0))), 0, "", #[], (some (33, false))⟩,
  ⟨(some 36), (.fieldAddr 41 (.tmp 35) 2), 0, "", #[], (some (33, false))⟩,
  ⟨(some 37), (.load 9 (.tmp 36)), 9, "", #[⟨0, .data⟩], (some (33, false))⟩,
  ⟨(some 38), (.binOp .neq 9 (.tmp 37) (.const (.string { data := #[47] })) 9), 4, "", #[], (some (33, false))⟩,
  op 39 (.pick (.tmp 33) (.const (.bool true)) (.tmp 38)) 4]
def F27.r2 : List Oper := [
  op 4 (.assign (.const (.bool false))) 4]
def F27.r3 : List Oper := [
  op 40 (.move (.tmp 0)) 69,
  op 41 (.call ⟨(.builtin .len), #[(.tmp 40)], #[69]⟩) 3,
  oc 42 (.makeSlice 62 (.tmp 41) (.tmp 41)) 62,
  op 5 (.assign (.tmp 42)) 62]
def F27.r4 : List Oper := [
  op 6 (.assign (.const (.int .i64 1))) 3]
def F27.r5 : List Oper := [
  op 43 (.move (.tmp 6)) 3,
  op 44 (.move (.tmp 0)) 69,
  op 45 (.call ⟨(.builtin .len), #[(.tmp 44)], #[69]⟩) 3,
  op 46 (.binOp .lss 3 (.tmp 43) (.tmp 45) 3) 4]
def F27.r7 : List Oper := [
  op 49 (.move (.tmp 0)) 69,
  op 50 (.move (.tmp 0)) 69,
  op 51 (.move (.tmp 6)) 3,
  op 52 (.indexAddr 69 (.tmp 50) (.tmp 51)) 0,
  op 53 (.fieldAddr 41 (.tmp 52) 1) 0,
  od 54 (.load 30 (.tmp 53)) 30,
  oc 55 (.call ⟨(.value (.func 50)), #[(.tmp 49), (.tmp 54)], #[69, 30]⟩) 3,
  op 7 (.assign (.tmp 55)) 3]
def F27.r8 : List Oper := [
  ⟨(some 56), (.move (.tmp 7)), 3, "", #[], none⟩,
  ⟨(some 57), (.binOp .lss 3 (.tmp 56) (.const (.int .i64 0)) 3), 4, "", #[], none⟩,
  ⟨(some 58), (.move (.tmp 57)), 4, "", #[], none⟩,
  ⟨(some 59), (.move (.tmp 7)), 3, "", #[], (some (58, false))⟩,
  ⟨(some 60), (.move (.tmp 6)), 3, "", #[], (some (58, false))⟩,
  ⟨(some 61), (.binOp .geq 3 (.tmp 59) (.tmp 60) 3), 4, "", #[], (some (58, false))⟩,
  ⟨(some 62), (.pick (.tmp 58) (.const (.bool true)) (.tmp 61)), 4, "", #[], none⟩,
  ⟨(some 63), (.move (.tmp 62)), 4, "", #[], none⟩,
  ⟨(some 64), (.move (.tmp 0)), 69, "", #[], (some (63, false))⟩,
  ⟨(some 65), (.move (.tmp 6)), 3, "", #[], (some (63, false))⟩,
  ⟨(some 66), (.indexAddr 69 (.tmp 64) (.tmp 65)), 0, "", #[], (some (63, false))⟩,
  ⟨(some 67), (.fieldAddr 41 (.tmp 66) 0), 0, "", #[], (some (63, false))⟩,
  ⟨(some 69), (.move (.tmp 0)), 69, "", #[], (some (63, false))⟩,
  ⟨(some 70), (.move (.tmp 6)), 3, "", #[], (some (63, false))⟩,
  ⟨(some 71), (.binOp .sub 3 (.tmp 70) (.const (.int .i64 1)) 3), 3, "", #[], (some (63, false))⟩,
  ⟨(some 72), (.indexAddr 69 (.tmp 69) (.tmp 71)), 0, "", #[], (some (63, false))⟩,
  ⟨(some 73), (.fieldAddr 41 (.tmp 72) 0), 0, "", #[], (some (63, false))⟩,
  ⟨(some 68), (.load 30 (.tmp 67)), 30, "", #[⟨0, .data⟩], (some (63, false))⟩,
  ⟨(some 74), (.load 30 (.tmp 73)), 30, "", #[⟨0, .data⟩], (some (63, false))⟩,
  ⟨(some 75), (.binOp .leq 30 (.tmp 68) (.tmp 74) 30), 4, "", #[], (some (63, false))⟩,
  ⟨(some 76), (.pick (.tmp 63) (.const (.bool true)) (.tmp 75)), 4, "", #[], none⟩,
  ⟨(some 77), (.move (.tmp 76)), 4, "", #[], none⟩,
  ⟨(some 78), (.move (.tmp 0)), 69, "", #[], (some (77, false))⟩,
  ⟨(some 79), (.move (.tmp 7)), 3, "", #[], (some (77, false))⟩,
  ⟨(some 80), (.indexAddr 69 (.tmp 78) (.tmp 79)), 0, "", #[], (some (77, false))⟩,
  ⟨(some 81), (.fieldAddr 41 (.tmp 80) 3), 0, "", #[], (some (77, false))⟩,
  ⟨(some 82), (.load 29 (.tmp 81)), 29, "", #[⟨0, .data⟩], (some (77, false))⟩,
  ⟨(some 83), (.binOp .lss 29 (.tmp 82) (.const (.int .u32 2147483648)) 29), 4, "", #[], (some (77, false))⟩,
  ⟨(some 84), (.pick (.tmp 77) (.const (.bool true)) (.tmp 83)), 4, "", #[], none⟩,
  ⟨(some 85), (.move (.tmp 84)), 4, "", #[], none⟩,
  ⟨(some 86), (.move (.tmp 0)), 69, "", #[], (some (85, false))⟩,
  ⟨(some 87), (.move (.tmp 6)), 3, "", #[], (some (85, false))⟩,
  ⟨(some 88), (.indexAddr 69 (.tmp 86) (.tmp 87)), 0, "", #[], (some (85, false))⟩,
  ⟨(some 89), (.fieldAddr 41 (.tmp 88) 10), 0, "", #[], (some (85, false))⟩,
  ⟨(some 90), (.load 30 (.tmp 89)), 30, "", #[⟨0, .data⟩], (some (85, false))⟩,
  ⟨(some 91), (.binOp .gtr 30 (.tmp 90) (.const (.int .u64 65536)) 30), 4, "", #[], (some (85, false))⟩,
  ⟨(some 92), (.pick (.tmp 85) (.const (.bool true)) (.tmp 91)), 4, "", #[], none⟩]
def F27.r9 : List Oper := [
  op 4 (.assign (.const (.bool false))) 4]
def F27.r10 : List Oper := [
  op 93 (.move (.tmp 5)) 62,
  op 94 (.move (.tmp 7)) 3,
  op 95 (.indexAddr 62 (.tmp 93) (.tmp 94)) 0,
  od 96 (.load 3 (.tmp 95)) 3,
  op 97 (.binOp .add 3 (.tmp 96) (.const (.int .i64 1)) 3) 3,
  op 98 (.indexAddr 62 (.tmp 93) (.tmp 94)) 0,
  ⟨none, (.store 3 (.tmp 98) (.tmp 97)), 0, "", #[⟨0, .chain⟩], none⟩]
def F27.r11 : List Oper := [
  op 8 (.assign (.const (.int .i64 1))) 3]
def F27.r12 : List Oper := [
  op 99 (.move (.tmp 8)) 3,
  op 100 (.move (.tmp 6)) 3,
  op 101 (.binOp .lss 3 (.tmp 99) (.tmp 100) 3) 4]
def F27.r14 : List Oper := [
  ⟨(some 104), (.move (.tmp 0)), 69, "", #[], none⟩,
  ⟨(some 105), (.move (.tmp 8)), 3, "", #[], none⟩,
  ⟨(some 106), (.indexAddr 69 (.tmp 104) (.tmp 105)), 0, "", #[], none⟩,
  ⟨(some 107), (.fieldAddr 41 (.tmp 106) 1), 0, "", #[], none⟩,
  ⟨(some 109), (.move (.tmp 0)), 69, "", #[], none⟩,
  ⟨(some 110), (.move (.tmp 6)), 3, "", #[], none⟩,
  ⟨(some 111), (.indexAddr 69 (.tmp 109) (.tmp 110)), 0, "", #[], none⟩,
  ⟨(some 112), (.fieldAddr 41 (.tmp 111) 1), 0, "", #[], none⟩,
  ⟨(some 108), (.load 30 (.tmp 107)), 30, "", #[⟨0, .data⟩], none⟩,
  ⟨(some 113), (.load 30 (.tmp 112)), 30, "", #[⟨0, .data⟩], none⟩,
  ⟨(some 114), (.binOp .eql 30 (.tmp 108) (.tmp 113) 30), 4, "", #[], none⟩,
  ⟨(some 115), (.move (.tmp 114)), 4, "", #[], none⟩,
  ⟨(some 116), (.move (.tmp 0)), 69, "", #[], (some (115, true))⟩,
  ⟨(some 117), (.move (.tmp 8)), 3, "", #[], (some (115, true))⟩,
  ⟨(some 118), (.indexAddr 69 (.tmp 116) (.tmp 117)), 0, "", #[], (some (115, true))⟩,
  ⟨(some 119), (.fieldAddr 41 (.tmp 118) 2), 0, "", #[], (some (115, true))⟩,
  ⟨(some 121), (.move (.tmp 0)), 69, "", #[], (some (115, true))⟩,
  ⟨(some 122), (.move (.tmp 6)), 3, "", #[], (some (115, true))⟩,
  ⟨(some 123), (.indexAddr 69 (.tmp 121) (.tmp 122)), 0, "", #[], (some (115, true))⟩,
  ⟨(some 124), (.fieldAddr 41 (.tmp 123) 2), 0, "", #[], (some (115, true))⟩,
  ⟨(some 120), (.load 9 (.tmp 119)), 9, "", #[⟨0, .data⟩], (some (115, true))⟩,
  ⟨(some 125), (.load 9 (.tmp 124)), 9, "", #[⟨0, .data⟩], (some (115, true))⟩,
  ⟨(some 126), (.binOp .eql 9 (.tmp 120) (.tmp 125) 9), 4, "", #[], (some (115, true))⟩,
  ⟨(some 127), (.pick (.tmp 115) (.tmp 126) (.const (.bool false))), 4, "", #[], none⟩]
def F27.r15 : List Oper := [
  op 4 (.assign (.const (.bool false))) 4]
def F27.r13 : List Oper := [
  op 102 (.move (.tmp 8)) 3,
  op 103 (.binOp .add 3 (.tmp 102) (.const (.int .i64 1)) 3) 3,
  op 8 (.assign (.tmp 103)) 3]
def F27.r6 : List Oper := [
  op 47 (.move (.tmp 6)) 3,
  op 48 (.binOp .add 3 (.tmp 47) (.const (.int .i64 1)) 3) 3,
  op 6 (.assign (.tmp 48)) 3]
def F27.r16 : List Oper := [
  op 9 (.assign (.const (.int .i64 0))) 3]
def F27.r17 : List Oper := [
  op 128 (.move (.tmp 9)) 3,
  op 129 (.move (.tmp 0)) 69,
  op 130 (.call ⟨(.builtin .len), #[(.tmp 129)], #[69]⟩) 3,
  op 131 (.binOp .lss 3 (.tmp 128) (.tmp 130) 3) 4]
def F27.r19 : List Oper := [
  ⟨(some 134), (.move (.tmp 0)), 69, "", #[], none⟩,
  ⟨(some 135), (.move (.tmp 9)), 3, "", #[], none⟩,
  ⟨(some 136), (.indexAddr 69 (.tmp 134) (.tmp 135)), 0, "", #[], none⟩,
  ⟨(some 137), (.fieldAddr 41 (.tmp 136) 12), 0, "", #[], none⟩,
  ⟨(some 139), (.move (.tmp 5)), 62, "", #[], none⟩,
  ⟨(some 140), (.move (.tmp 9)), 3, "", #[], none⟩,
  ⟨(some 141), (.indexAddr 62 (.tmp 139) (.tmp 140)), 0, "", #[], none⟩,
  ⟨(some 138), (.load 3 (.tmp 137)), 3, "", #[⟨0, .data⟩], none⟩,
  ⟨(some 142), (.load 3 (.tmp 141)), 3, "", #[⟨0, .data⟩], none⟩,
  ⟨(some 143), (.binOp .neq 3 (.tmp 138) (.tmp 142) 3), 4, "", #[], none⟩,
  ⟨(some 144), (.move (.tmp 143)), 4, "", #[], none⟩,
  ⟨(some 145), (.move (.tmp 0)), 69, "", #[], (some (144, false))⟩,
  ⟨(some 146), (.move (.tmp 9)), 3, "", #[], (some (144, false))⟩,
  ⟨(some 147), (.indexAddr 69 (.tmp 145) (.tmp 146)), 0, "", #[], (some (144, false))⟩,
  ⟨(some 148), (.fieldAddr 41 (.tmp 147) 11), 0, "", #[], (some (144, false))⟩,
  ⟨(some 149), (.load 3 (.tmp 148)), 3, "", #[⟨0, .data⟩], (some (144, false))⟩,
  ⟨(some 150), (.binOp .lss 3 (.tmp 149) (.const (.int .i64 0)) 3), 4, "", #[], (some (144, false))⟩,
  ⟨(some 151), (.pick (.tmp 144) (.const (.bool true)) (.tmp 150)), 4, "", #[], none⟩,
  ⟨(some 152), (.move (.tmp 151)), 4, "", #[], none⟩,
  ⟨(some 153), (.move (.tmp 0)), 69, "", #[], (some (152, false))⟩,
  ⟨(some 154), (.move (.tmp 9)), 3, "", #[], (some (152, false))⟩,
  ⟨(some 155), (.indexAddr 69 (.tmp 153) (.tmp 154)), 0, "", #[], (some (152, false))⟩,
  ⟨(some 156), (.fieldAddr 41 (.tmp 155) 3), 0, "", #[], (some (152, false))⟩,
  ⟨(some 157), (.load 29 (.tmp 156)), 29, "", #[⟨0, .data⟩], (some (152, false))⟩,
  ⟨(some 158), (.binOp .geq 29 (.tmp 157) (.const (.int .u32 2147483648)) 29), 4, "", #[], (some (152, false))⟩,
  ⟨(some 159), (.move (.tmp 158)), 4, "", #[], (some (152, false))⟩,
  ⟨(some 160), (.move (.tmp 0)), 69, "", #[], (some (159, true))⟩,
  ⟨(some 161), (.move (.tmp 9)), 3, "", #[], (some (159, true))⟩,
  ⟨(some 162), (.indexAddr 69 (.tmp 160) (.tmp 161)), 0, "", #[], (some (159, true))⟩,
  ⟨(some 163), (.fieldAddr 41 (.tmp 162) 10), 0, "", #[], (some (159, true))⟩,
  ⟨(some 164), (.load 30 (.tmp 163)), 30, "", #[⟨0, .data⟩], (some (159, true))⟩,
  ⟨(some 165), (.binOp .neq 30 (.tmp 164) (.const (.int .u64 0)) 30), 4, "", #[], (some (159, true))⟩,
  ⟨(some 166), (.pick (.tmp 159) (.tmp 165) (.const (.bool false))), 4, "", #[], (some (152, false))⟩,
  ⟨(some 167), (.pick (.tmp 152) (.const (.bool true)) (.tmp 166)), 4, "", #[], none⟩]
def F27.r20 : List Oper := [
  op 4 (.assign (.const (.bool false))) 4]
def F27.r18 : List Oper := [
  op 132 (.move (.tmp 9)) 3,
  op 133 (.binOp .add 3 (.tmp 132) (.const (.int .i64 1)) 3) 3,
  op 9 (.assign (.tmp 133)) 3]
def F27.r21 : List Oper := [
  op 4 (.assign (.const (.bool true))) 4]
def F27.t13 : Cd := (.region 13 F27.r13.toArray false)
theorem F27.t13_eq {θ : Tag (F27.t13, Q, e, w)} : cwE P F27.t13 Q e w θ = cwE P (.region 13 F27.r13.toArray false) Q e w := rfl
def F27.t14 : Cd := (.seq (.block 3 (.seq (.region 14 F27.r14.toArray true) (.cond (.tmp 127) (.seq (.region 15 F27.r15.toArray false) .ret) .skip))) F27.t13)
theorem F27.t14_eq {θ : Tag (F27.t14, Q, e, w)} : cwE P F27.t14 Q e w θ = cwE P (.seq (.block 3 (.seq (.region 14 F27.r14.toArray true) (.cond (.tmp 127) (.seq (.region 15 F27.r15.toArray false) .ret) .skip))) F27.t13) Q e w := rfl
def F27.t10 : Cd := (.seq (.region 10 F27.r10.toArray false) (.seq (.region 11 F27.r11.toArray false) (.block 2 (.loop (.seq (.seq (.region 12 F27.r12.toArray false) (.cond (.tmp 101) .skip (.exit 2))) F27.t14)))))
theorem F27.t10_eq {θ : Tag (F27.t10, Q, e, w)} : cwE P F27.t10 Q e w θ = cwE P (.seq (.region 10 F27.r10.toArray false) (.seq (.region 11 F27.r11.toArray false) (.block 2 (.loop (.seq (.seq (.region 12 F27.r12.toArray false) (.cond (.tmp 101) .skip (.exit 2))) F27.t14))))) Q e w := rfl
def F27.t6 : Cd := (.region 6 F27.r6.toArray false)
theorem F27.t6_eq {θ : Tag (F27.t6, Q, e, w)} : cwE P F27.t6 Q e w θ = cwE P (.region 6 F27.r6.toArray false) Q e w := rfl
def F27.t7 : Cd := (.seq (.block 1 (.seq (.region 7 F27.r7.toArray false) (.seq (.seq (.region 8 F27.r8.toArray true) (.cond (.tmp 92) (.seq (.region 9 F27.r9.toArray false) .ret) .skip)) F27.t10))) F27.t6)
theorem F27.t7_eq {θ : Tag (F27.t7, Q, e, w)} : cwE P F27.t7 Q e w θ = cwE P (.seq (.block 1 (.seq (.region 7 F27.r7.toArray false) (.seq (.seq (.region 8 F27.r8.toArray true) (.cond (.tmp 92) (.seq (.region 9 F27.r9.toArray false) .ret) .skip)) F27.t10))) F27.t6) Q e w := rfl
def F27.t18 : Cd := (.region 18 F27.r18.toArray false)
theorem F27.t18_eq {θ : Tag (F27.t18, Q, e, w)} : cwE P F27.t18 Q e w θ = cwE P (.region 18 F27.r18.toArray false) Q e w := rfl
def F27.t19 : Cd := (.seq (.block 5 (.seq (.region 19 F27.r19.toArray true) (.cond (.tmp 167) (.seq (.region 20 F27.r20.toArray false) .ret) .skip))) F27.t18)
theorem F27.t19_eq {θ : Tag (F27.t19, Q, e, w)} : cwE P F27.t19 Q e w θ = cwE P (.seq (.block 5 (.seq (.region 19 F27.r19.toArray true) (.cond (.tmp 167) (.seq (.region 20 F27.r20.toArray false) .ret) .skip))) F27.t18) Q e w := rfl
def F27.t21 : Cd := (.seq (.region 21 F27.r21.toArray false) .ret)
theorem F27.t21_eq {θ : Tag (F27.t21, Q, e, w)} : cwE P F27.t21 Q e w θ = cwE P (.seq (.region 21 F27.r21.toArray false) .ret) Q e w := rfl
def F27.t16 : Cd := (.seq (.seq (.region 16 F27.r16.toArray false) (.block 4 (.loop (.seq (.seq (.region 17 F27.r17.toArray false) (.cond (.tmp 131) .skip (.exit 4))) F27.t19)))) F27.t21)
theorem F27.t16_eq {θ : Tag (F27.t16, Q, e, w)} : cwE P F27.t16 Q e w θ = cwE P (.seq (.seq (.region 16 F27.r16.toArray false) (.block 4 (.loop (.seq (.seq (.region 17 F27.r17.toArray false) (.cond (.tmp 131) .skip (.exit 4))) F27.t19)))) F27.t21) Q e w := rfl
def F27.t3 : Cd := (.seq (.region 3 F27.r3.toArray false) (.seq (.seq (.region 4 F27.r4.toArray false) (.block 0 (.loop (.seq (.seq (.region 5 F27.r5.toArray false) (.cond (.tmp 46) .skip (.exit 0))) F27.t7)))) F27.t16))
theorem F27.t3_eq {θ : Tag (F27.t3, Q, e, w)} : cwE P F27.t3 Q e w θ = cwE P (.seq (.region 3 F27.r3.toArray false) (.seq (.seq (.region 4 F27.r4.toArray false) (.block 0 (.loop (.seq (.seq (.region 5 F27.r5.toArray false) (.cond (.tmp 46) .skip (.exit 0))) F27.t7)))) F27.t16)) Q e w := rfl
def F27.code : Cd := (.seq (.region 0 F27.r0.toArray false) (.seq (.seq (.region 1 F27.r1.toArray false) (.cond (.tmp 39) (.seq (.region 2 F27.r2.toArray false) .ret) .skip)) F27.t3))
theorem F27.calls (hn : args.size ≤ 168) (h : cwE Tryd.prog F27.code (fnP Tryd.prog #[(.tmp 4)] R) (entry args) w) : Calls Tryd.prog 27 args w R :=
  calls_of_cwE (types := Tryd.prog.types) follows Tryd.func27 F27.code rfl (by kernel_rfl) hn h

def F28.r0 : List Oper := [
  op 4 (.assign (.const (.bool false))) 4]
def F28.r1 : List Oper := [
  op 5 (.assign (.const (.int .i64 0))) 3]
def F28.r2 : List Oper := [
  op 14 (.move (.tmp 5)) 3,
  op 15 (.move (.tmp 1)) 69,
  op 16 (.call ⟨(.builtin .len), #[(.tmp 15)], #[69]⟩) 3,
  op 17 (.binOp .lss 3 (.tmp 14) (.tmp 16) 3) 4]
def F28.r4 : List Oper := [
  op 21 (.move (.tmp 0)) 34,
  op 22 (.move (.tmp 1)) 69,
  op 23 (.move (.tmp 5)) 3,
  op 24 (.indexAddr 69 (.tmp 22) (.tmp 23)) 0,
  op 25 (.fieldAddr 41 (.tmp 24) 0) 0,
  od 26 (.load 30 (.tmp 25)) 30,
  oc 27 (.call ⟨(.value (.func 15)), #[(.tmp 21), (.tmp 26)], #[34, 30]⟩) 42,
  op 20 (.move (.tmp 27)) 42,
  op 28 (.extract (.tmp 20) 0) 41,
  op 29 (.extract (.tmp 20) 1) 4,
  oc 6 (.alloc 41) 0,
  ⟨none, (.store 41 (.tmp 6) (.tmp 28)), 0, "", #[⟨0, .chain⟩], none⟩,
  op 7 (.assign (.tmp 29)) 4]
def F28.r5 : List Oper := [
  ⟨(some 30), (.move (.tmp 7)), 4, "", #[], none⟩,
  ⟨(some 31), (.unOp .not 4 (.tmp 30)), 4, "", #[], none⟩,
  ⟨(some 32), (.move (.tmp 31)), 4, "", #[], none⟩,
  ⟨(some 34), (.move (.tmp 1)), 69, "", #[], (some (32, false))⟩,
  ⟨(some 35), (.move (.tmp 5)), 3, "", #[], (some (32, false))⟩,
  ⟨(some 36), (.indexAddr 69 (.tmp 34) (.tmp 35)), 0, "", #[], (some (32, false))⟩,
  ⟨(some 33), (.load 41 (.tmp 6)), 41, "", #[⟨0, .data⟩], (some (32, false))⟩,
  ⟨(some 37), (.load 41 (.tmp 36)), 41, "", #[⟨0, .data⟩], (some (32, false))⟩,
  ⟨(some 38), (.binOp .neq 41 (.tmp 33) (.tmp 37) 41), 4, "", #[], (some (32, false))⟩,
  ⟨(some 39), (.pick (.tmp 32) (.const (.bool true)) (.tmp 38)), 4, "", #[], none⟩]
def F28.r6 : List Oper := [
  op 4 (.assign (.const (.bool false))) 4]
def F28.r7 : List Oper := [
  op 40 (.move (.tmp 5)) 3,
  op 41 (.binOp .eql 3 (.tmp 40) (.const (.int .i64 0)) 3) 4]
def F28.r8 : List Oper := [
  ⟨(some 43), (.move (.tmp 0)), 34, "", #[], none⟩,
  ⟨(some 44), (.move (.tmp 1)), 69, "", #[], none⟩,
  ⟨(some 45), (.move (.tmp 5)), 3, "", #[], none⟩,
  ⟨(some 46), (.indexAddr 69 (.tmp 44) (.tmp 45)), 0, "", #[], none⟩,
  ⟨(some 47), (.fieldAddr 41 (.tmp 46) 1), 0, "", #[], none⟩,
  ⟨(some 49), (.move (.tmp 1)), 69, "", #[], none⟩,
  ⟨(some 50), (.move (.tmp 5)), 3, "", #[], none⟩,
  ⟨(some 51), (.indexAddr 69 (.tmp 49) (.tmp 50)), 0, "", #[], none⟩,
  ⟨(some 52), (.fieldAddr 41 (.tmp 51) 2), 0, "", #[], none⟩,
  ⟨(some 48), (.load 30 (.tmp 47)), 30, "", #[⟨2048, .data⟩], none⟩,
  ⟨(some 53), (.load 9 (.tmp 52)), 9, "", #[⟨2048, .data⟩], none⟩,
  ⟨(some 54), (.call ⟨(.value (.func 51)), #[(.tmp 43), (.tmp 48), (.tmp 53)], #[34, 30, 9]⟩), 64, "", #[⟨11, .chain⟩], none⟩,
  ⟨(some 42), (.move (.tmp 54)), 64, "", #[], none⟩,
  ⟨(some 55), (.extract (.tmp 42) 0), 30, "", #[], none⟩,
  ⟨(some 56), (.extract (.tmp 42) 1), 4, "", #[], none⟩,
  ⟨(some 8), (.assign (.tmp 55)), 30, "", #[], none⟩,
  ⟨(some 9), (.assign (.tmp 56)), 4, "", #[], none⟩]
def F28.r9 : List Oper := [
  op 10 (.assign (.const (.int .u64 0))) 30]
def F28.r10 : List Oper := [
  op 11 (.assign (.const (.int .i64 1))) 3]
def F28.r11 : List Oper := [
  op 57 (.move (.tmp 11)) 3,
  op 58 (.move (.tmp 5)) 3,
  op 59 (.binOp .lss 3 (.tmp 57) (.tmp 58) 3) 4]
def F28.r13 : List Oper := [
  ⟨(some 62), (.move (.tmp 1)), 69, "", #[], none⟩,
  ⟨(some 63), (.move (.tmp 11)), 3, "", #[], none⟩,
  ⟨(some 64), (.indexAddr 69 (.tmp 62) (.tmp 63)), 0, "", #[], none⟩,
  ⟨(some 65), (.fieldAddr 41 (.tmp 64) 1), 0, "", #[], none⟩,
  ⟨(some 67), (.move (.tmp 1)), 69, "", #[], none⟩,
  ⟨(some 68), (.move (.tmp 5)), 3, "", #[], none⟩,
  ⟨(some 69), (.indexAddr 69 (.tmp 67) (.tmp 68)), 0, "", #[], none⟩,
  ⟨(some 70), (.fieldAddr 41 (.tmp 69) 1), 0, "", #[], none⟩,
  ⟨(some 66), (.load 30 (.tmp 65)), 30, "", #[⟨0, .data⟩], none⟩,
  ⟨(some 71), (.load 30 (.tmp 70)), 30, "", #[⟨0, .data⟩], none⟩,
  ⟨(some 72), (.binOp .eql 30 (.tmp 66) (.tmp 71) 30), 4, "", #[], none⟩]
def F28.r14 : List Oper := [
  op 73 (.move (.tmp 1)) 69,
  op 74 (.move (.tmp 11)) 3,
  op 75 (.indexAddr 69 (.tmp 73) (.tmp 74)) 0,
  op 76 (.fieldAddr 41 (.tmp 75) 0) 0,
  od 77 (.load 30 (.tmp 76)) 30,
  op 10 (.assign (.tmp 77)) 30]
def F28.r12 : List Oper := [
  op 60 (.move (.tmp 11)) 3,
  op 61 (.binOp .add 3 (.tmp 60) (.const (.int .i64 1)) 3) 3,
  op 11 (.assign (.tmp 61)) 3]
def F28.r15 : List Oper := [
  op 79 (.move (.tmp 0)) 34,
  op 80 (.move (.tmp 1)) 69,
  op 81 (.move (.tmp 5)) 3,
  op 82 (.indexAddr 69 (.tmp 80) (.tmp 81)) 0,
  op 83 (.fieldAddr 41 (.tmp 82) 1) 0,
  od 84 (.load 30 (.tmp 83)) 30,
  op 85 (.move (.tmp 10)) 30,
  oc 86 (.call ⟨(.value (.func 24)), #[(.tmp 79), (.tmp 84), (.tmp 85)], #[34, 30, 30]⟩) 64,
  op 78 (.move (.tmp 86)) 64,
  op 87 (.extract (.tmp 78) 0) 30,
  op 88 (.extract (.tmp 78) 1) 4,
  op 12 (.assign (.tmp 87)) 30,
  op 13 (.assign (.tmp 88)) 4]
def F28.r16 : List Oper := [
  op 89 (.move (.tmp 9)) 4,
  op 90 (.unOp .not 4 (.tmp 89)) 4,
  op 91 (.move (.tmp 90)) 4,
  ⟨(some 92), (.move (.tmp 8)), 30, "", #[], (some (91, false))⟩,
  ⟨(some 93), (.move (.tmp 1)), 69, "", #[], (some (91, false))⟩,
  ⟨(some 94), (.move (.tmp 5)), 3, "", #[], (some (91, false))⟩,
  ⟨(some 95), (.indexAddr 69 (.tmp 93) (.tmp 94)), 0, "", #[], (some (91, false))⟩,
  ⟨(some 96), (.fieldAddr 41 (.tmp 95) 0), 0, "", #[], (some (91, false))⟩,
  ⟨(some 97), (.load 30 (.tmp 96)), 30, "", #[⟨0, .data⟩], (some (91, false))⟩,
  ⟨(some 98), (.binOp .neq 30 (.tmp 92) (.tmp 97) 30), 4, "", #[], (some (91, false))⟩,
  op 99 (.pick (.tmp 91) (.const (.bool true)) (.tmp 98)) 4,
  op 100 (.move (.tmp 99)) 4,
  ⟨(some 101), (.move (.tmp 13)), 4, "", #[], (some (100, false))⟩,
  ⟨(some 102), (.unOp .not 4 (.tmp 101)), 4, "", #[], (some (100, false))⟩,
  op 103 (.pick (.tmp 100) (.const (.bool true)) (.tmp 102)) 4,
  op 104 (.move (.tmp 103)) 4,
  ⟨(some 105), (.move (.tmp 12)), 30, "", #[], (some (104, false))⟩,
  ⟨(some 106), (.move (.tmp 1)), 69, "", #[], (some (104, false))⟩,
  ⟨(some 107), (.move (.tmp 5)), 3, "", #[], (some (104, false))⟩,
  ⟨(some 108), (.indexAddr 69 (.tmp 106) (.tmp 107)), 0, "", #[], (some (104, false))⟩,
  ⟨(some 109), (.fieldAddr 41 (.tmp 108) 0), 0, "", #[], (some (104, false))⟩,
  ⟨(some 110), (.load 30 (.tmp 109)), 30, "", #[⟨0, .data⟩], (some (104, false))⟩,
  ⟨(some 111), (.binOp .neq 30 (.tmp 105) (.tmp 110) 30), 4, "", #[], (some (104, false))⟩,
  op 112 (.pick (.tmp 104) (.const (.bool true)) (.tmp 111)) 4]
def F28.r17 : List Oper := [
  op 4 (.assign (.const (.bool false))) 4]
def F28.r3 : List Oper := [
  op 18 (.move (.tmp 5)) 3,
  op 19 (.binOp .add 3 (.tmp 18) (.const (.int .i64 1)) 3) 3,
  op 5 (.assign (.tmp 19)) 3]
def F28.r18 : List Oper := [
  op 4 (.assign (.const (.bool true))) 4]
def F28.t12 : Cd := (.region 12 F28.r12.toArray false)
theorem F28.t12_eq {θ : Tag (F28.t12, Q, e, w)} : cwE P F28.t12 Q e w θ = cwE P (.region 12 F28.r12.toArray false) Q e w := rfl
def F28.t13 : Cd := (.seq (.block 3 (.seq (.region 13 F28.r13.toArray true) (.cond (.tmp 72) (.region 14 F28.r14.toArray false) .skip))) F28.t12)
theorem F28.t13_eq {θ : Tag (F28.t13, Q, e, w)} : cwE P F28.t13 Q e w θ = cwE P (.seq (.block 3 (.seq (.region 13 F28.r13.toArray true) (.cond (.tmp 72) (.region 14 F28.r14.toArray false) .skip))) F28.t12) Q e w := rfl
def F28.t15 : Cd := (.seq (.region 15 F28.r15.toArray false) (.seq (.region 16 F28.r16.toArray false) (.cond (.tmp 112) (.seq (.region 17 F28.r17.toArray false) .ret) .skip)))
theorem F28.t15_eq {θ : Tag (F28.t15, Q, e, w)} : cwE P F28.t15 Q e w θ = cwE P (.seq (.region 15 F28.r15.toArray false) (.seq (.region 16 F28.r16.toArray false) (.cond (.tmp 112) (.seq (.region 17 F28.r17.toArray false) .ret) .skip))) Q e w := rfl
def F28.t8 : Cd := (.seq (.region 8 F28.r8.toArray true) (.seq (.region 9 F28.r9.toArray false) (.seq (.seq (.region 10 F28.r10.toArray false) (.block 2 (.loop (.seq (.seq (.region 11 F28.r11.toArray false) (.cond (.tmp 59) .skip (.exit 2))) F28.t13)))) F28.t15)))
theorem F28.t8_eq {θ : Tag (F28.t8, Q, e, w)} : cwE P F28.t8 Q e w θ = cwE P (.seq (.region 8 F28.r8.toArray true) (.seq (.region 9 F28.r9.toArray false) (.seq (.seq (.region 10 F28.r10.toArray false) (.block 2 (.loop (.seq (.seq (.region 11 F28.r11.toArray false) (.cond (.tmp 59) .skip (.exit 2))) F28.t13)))) F28.t15))) Q e w := rfl
def F28.t7 : Cd := (.seq (.seq (.region 7 F28.r7.toArray false) (.cond (.tmp 41) (.exit 1) .skip)) F28.t8)
theorem F28.t7_eq {θ : Tag (F28.t7, Q, e, w)} : cwE P F28.t7 Q e w θ = cwE P (.seq (.seq (.region 7 F28.r7.toArray false) (.cond (.tmp 41) (.exit 1) .skip)) F28.t8) Q e w := rfl
def F28.t3 : Cd := (.region 3 F28.r3.toArray false)
theorem F28.t3_eq {θ : Tag (F28.t3, Q, e, w)} : cwE P F28.t3 Q e w θ = cwE P (.region 3 F28.r3.toArray false) Q e w := rfl
def F28.t4 : Cd := (.seq (.block 1 (.seq (.region 4 F28.r4.toArray false) (.seq (.seq (.region 5 F28.r5.toArray true) (.cond (.tmp 39) (.seq (.region 6 F28.r6.toArray false) .ret) .skip)) F28.t7))) F28.t3)
theorem F28.t4_eq {θ : Tag (F28.t4, Q, e, w)} : cwE P F28.t4 Q e w θ = cwE P (.seq (.block 1 (.seq (.region 4 F28.r4.toArray false) (.seq (.seq (.region 5 F28.r5.toArray true) (.cond (.tmp 39) (.seq (.region 6 F28.r6.toArray false) .ret) .skip)) F28.t7))) F28.t3) Q e w := rfl
def F28.t18 : Cd := (.seq (.region 18 F28.r18.toArray false) .ret)
theorem F28.t18_eq {θ : Tag (F28.t18, Q, e, w)} : cwE P F28.t18 Q e w θ = cwE P (.seq (.region 18 F28.r18.toArray false) .ret) Q e w := rfl
def F28.code : Cd := (.seq (.region 0 F28.r0.toArray false) (.seq (.seq (.region 1 F28.r1.toArray false) (.block 0 (.loop (.seq (.seq (.region 2 F28.r2.toArray false) (.cond (.tmp 17) .skip (.exit 0))) F28.t4)))) F28.t18))
theorem F28.calls (hn : args.size ≤ 113) (h : cwE Tryd.prog F28.code (fnP Tryd.prog #[(.tmp 4)] R) (entry args) w) : Calls Tryd.prog 28 args w R :=
  calls_of_cwE (types := Tryd.prog.types) follows Tryd.func28 F28.code rfl (by kernel_rfl) hn h

def F29.r0 : List Oper := [
  oc 1 (.box 53 (.tmp 0)) 0,
  op 2 (.assign (.const (.int .i64 0))) 3]
def F29.r1 : List Oper := [
  op 3 (.fieldAddr 53 (.tmp 1) 6) 0,
  od 4 (.load 51 (.tmp 3)) 51,
  op 5 (.call ⟨(.builtin .len), #[(.tmp 4)], #[51]⟩) 3,
  op 6 (.binOp .add 3 (.const (.int .i64 100)) (.tmp 5) 3) 3,
  op 7 (.fieldAddr 53 (.tmp 1) 2) 0,
  od 8 (.load 9 (.tmp 7)) 9,
  op 9 (.call ⟨(.builtin .len), #[(.tmp 8)], #[9]⟩) 3,
  op 10 (.binOp .add 3 (.tmp 6) (.tmp 9) 3) 3,
  op 11 (.fieldAddr 53 (.tmp 1) 4) 0,
  op 12 (.fieldAddr 41 (.tmp 11) 2) 0,
  od 13 (.load 9 (.tmp 12)) 9,
  op 14 (.call ⟨(.builtin .len), #[(.tmp 13)], #[9]⟩) 3,
  op 15 (.binOp .add 3 (.tmp 10) (.tmp 14) 3) 3,
  op 16 (.fieldAddr 53 (.tmp 1) 4) 0,
  op 17 (.fieldAddr 41 (.tmp 16) 4) 0,
  od 18 (.load 9 (.tmp 17)) 9,
  op 19 (.call ⟨(.builtin .len), #[(.tmp 18)], #[9]⟩) 3,
  op 20 (.binOp .add 3 (.tmp 15) (.tmp 19) 3) 3,
  op 21 (.fieldAddr 53 (.tmp 1) 4) 0,
  op 22 (.fieldAddr 41 (.tmp 21) 5) 0,
  od 23 (.load 9 (.tmp 22)) 9,
  op 24 (.call ⟨(.builtin .len), #[(.tmp 23)], #[9]⟩) 3,
  op 25 (.binOp .add 3 (.tmp 20) (.tmp 24) 3) 3,
  op 26 (.fieldAddr 53 (.tmp 1) 4) 0,
  op 27 (.fieldAddr 41 (.tmp 26) 6) 0,
  od 28 (.load 9 (.tmp 27)) 9,
  op 29 (.call ⟨(.builtin .len), #[(.tmp 28)], #[9]⟩) 3,
  op 30 (.binOp .add 3 (.tmp 25) (.tmp 29) 3) 3,
  op 2 (.assign (.tmp 30)) 3]
def F29.code : Cd := (.seq (.region 0 F29.r0.toArray false) (.seq (.region 1 F29.r1.toArray false) .ret))
theorem F29.calls (hn : args.size ≤ 31) (h : cwE Tryd.prog F29.code (fnP Tryd.prog #[(.tmp 2)] R) (entry args) w) : Calls Tryd.prog 29 args w R :=
  calls_of_cwE (types := Tryd.prog.types) follows Tryd.func29 F29.code rfl (by kernel_rfl) hn h

def F30.r0 : List Oper := [
  op 2 (.assign (.const (.pointer none))) 34]
def F30.r1 : List Oper := [
  oc 5 (.call ⟨(.value (.func 19)), #[(.const (.int .i64 100))], #[3]⟩) 34,
  op 3 (.assign (.tmp 5)) 34]
def F30.r2 : List Oper := [
  op 6 (.move (.tmp 3)) 34,
  op 7 (.binOp .eql 34 (.tmp 6) (.const (.pointer none)) 34) 4]
def F30.r3 : List Oper := [
  op 2 (.assign (.const (.pointer none))) 34]
def F30.r4 : List Oper := [
  op 4 (.assign (.const (.int .i64 0))) 3]
def F30.r5 : List Oper := [
  op 8 (.move (.tmp 4)) 3,
  op 9 (.move (.tmp 0)) 67,
  op 10 (.call ⟨(.builtin .len), #[(.tmp 9)], #[67]⟩) 3,
  op 11 (.binOp .lss 3 (.tmp 8) (.tmp 10) 3) 4]
def F30.r7 : List Oper := [
  op 14 (.move (.tmp 3)) 34,
  op 15 (.move (.tmp 0)) 67,
  op 16 (.move (.tmp 4)) 3,
  op 17 (.indexAddr 67 (.tmp 15) (.tmp 16)) 0,
  od 18 (.load 53 (.tmp 17)) 53,
  oc 19 (.call ⟨(.value (.func 20)), #[(.tmp 14), (.tmp 18)], #[34, 53]⟩) 49]
def F30.r6 : List Oper := [
  op 12 (.move (.tmp 4)) 3,
  op 13 (.binOp .add 3 (.tmp 12) (.const (.int .i64 1)) 3) 3,
  op 4 (.assign (.tmp 13)) 3]
def F30.r8 : List Oper := [
  op 20 (.move (.tmp 3)) 34,
  op 2 (.assign (.tmp 20)) 34]
def F30.t6 : Cd := (.region 6 F30.r6.toArray false)
theorem F30.t6_eq {θ : Tag (F30.t6, Q, e, w)} : cwE P F30.t6 Q e w θ = cwE P (.region 6 F30.r6.toArray false) Q e w := rfl
def F30.t7 : Cd := (.seq (.block 1 (.region 7 F30.r7.toArray false)) F30.t6)
theorem F30.t7_eq {θ : Tag (F30.t7, Q, e, w)} : cwE P F30.t7 Q e w θ = cwE P (.seq (.block 1 (.region 7 F30.r7.toArray false)) F30.t6) Q e w := rfl
def F30.t8 : Cd := (.seq (.region 8 F30.r8.toArray false) .ret)
theorem F30.t8_eq {θ : Tag (F30.t8, Q, e, w)} : cwE P F30.t8 Q e w θ = cwE P (.seq (.region 8 F30.r8.toArray false) .ret) Q e w := rfl
def F30.t4 : Cd := (.seq (.seq (.region 4 F30.r4.toArray false) (.block 0 (.loop (.seq (.seq (.region 5 F30.r5.toArray false) (.cond (.tmp 11) .skip (.exit 0))) F30.t7)))) F30.t8)
theorem F30.t4_eq {θ : Tag (F30.t4, Q, e, w)} : cwE P F30.t4 Q e w θ = cwE P (.seq (.seq (.region 4 F30.r4.toArray false) (.block 0 (.loop (.seq (.seq (.region 5 F30.r5.toArray false) (.cond (.tmp 11) .skip (.exit 0))) F30.t7)))) F30.t8) Q e w := rfl
def F30.code : Cd := (.seq (.region 0 F30.r0.toArray false) (.seq (.region 1 F30.r1.toArray false) (.seq (.seq (.region 2 F30.r2.toArray false) (.cond (.tmp 7) (.seq (.region 3 F30.r3.toArray false) .ret) .skip)) F30.t4)))
theorem F30.calls (hn : args.size ≤ 21) (h : cwE Tryd.prog F30.code (fnP Tryd.prog #[(.tmp 2)] R) (entry args) w) : Calls Tryd.prog 30 args w R :=
  calls_of_cwE (types := Tryd.prog.types) follows Tryd.func30 F30.code rfl (by kernel_rfl) hn h

def F31.r0 : List Oper := [
  op 2 (.assign (.const (.pointer none))) 34]
def F31.r1 : List Oper := [
  op 12 (.move (.tmp 0)) 34,
  op 13 (.nilCheck (.tmp 12)) 0,
  op 14 (.fieldAddr 101 (.tmp 13) 0) 0,
  oc 15 (.call ⟨(.value (.func 52)), #[(.tmp 14)], #[99]⟩) 0]
def F31.r2 : List Oper := [
  op 16 (.move (.tmp 0)) 34,
  op 17 (.nilCheck (.tmp 16)) 0,
  op 18 (.fieldAddr 101 (.tmp 17) 0) 0,
  ⟨none, (.defer ⟨(.value (.func 53)), #[(.tmp 18)], #[99]⟩), 0, "", #[⟨0, .chain⟩], none⟩]
def F31.r3 : PT :=
  (.op ⟨(some 19), (.move (.tmp 0)), 34, "", #[], none⟩
  (.op ⟨(some 20), (.nilCheck (.tmp 19)), 0, "", #[], none⟩
  (.op ⟨(some 21), (.fieldAddr 101 (.tmp 20) 1), 0, "", #[], none⟩
  (.op ⟨(some 23), (.move (.tmp 0)), 34, "", #[], none⟩
  (.op ⟨(some 24), (.nilCheck (.tmp 23)), 0, "", #[], none⟩
  (.op ⟨(some 25), (.fieldAddr 101 (.tmp 24) 2), 0, "", #[], none⟩
  (.op ⟨(some 28), (.move (.tmp 0)), 34, "", #[], none⟩
  (.op ⟨(some 29), (.nilCheck (.tmp 28)), 0, "", #[], none⟩
  (.op ⟨(some 30), (.fieldAddr 101 (.tmp 29) 4), 0, "", #[], none⟩
  (.op ⟨(some 22), (.load 3 (.tmp 21)), 3, "", #[⟨65536, .data⟩], none⟩
  (.op ⟨(some 26), (.load 30 (.tmp 25)), 30, "", #[⟨65536, .data⟩], none⟩
  (.op ⟨(some 31), (.load 63 (.tmp 30)), 63, "", #[⟨73728, .data⟩], none⟩
  (.alt (.op ⟨(some 27), (.makeMap 93 none), 93, "", #[⟨8, .chain⟩], none⟩
  (.alt (.op ⟨(some 32), (.call ⟨(.value (.func 54)), #[(.tmp 31)], #[63]⟩), 63, "", #[⟨13, .chain⟩], none⟩
  (.alt (.op ⟨(some 33), (.makeMap 94 none), 94, "", #[⟨14, .chain⟩], none⟩
  (.op ⟨(some 34), (.build 101 #[(1, (.tmp 22)), (2, (.tmp 26)), (3, (.tmp 27)), (4, (.tmp 32)), (5, (.tmp 33))]), 101, "", #[], none⟩
  (.alt (.op ⟨(some 35), (.box 101 (.tmp 34)), 34, "", #[⟨16, .chain⟩], none⟩
  (.op ⟨(some 3), (.assign (.tmp 35)), 34, "", #[], none⟩
  .done))
  .stop)))
  .stop))
  (.alt (.op ⟨(some 33), (.makeMap 94 none), 94, "", #[⟨14, .chain⟩], none⟩
  (.alt (.op ⟨(some 32), (.call ⟨(.value (.func 54)), #[(.tmp 31)], #[63]⟩), 63, "", #[⟨13, .chain⟩], none⟩
  (.op ⟨(some 34), (.build 101 #[(1, (.tmp 22)), (2, (.tmp 26)), (3, (.tmp 27)), (4, (.tmp 32)), (5, (.tmp 33))]), 101, "", #[], none⟩
  (.alt (.op ⟨(some 35), (.box 101 (.tmp 34)), 34, "", #[⟨16, .chain⟩], none⟩
  (.op ⟨(some 3), (.assign (.tmp 35)), 34, "", #[], none⟩
  .done))
  .stop)))
  .stop))
  .stop)))
  (.alt (.op ⟨(some 32), (.call ⟨(.value (.func 54)), #[(.tmp 31)], #[63]⟩), 63, "", #[⟨13, .chain⟩], none⟩
  (.alt (.op ⟨(some 27), (.makeMap 93 none), 93, "", #[⟨8, .chain⟩], none⟩
  (.alt (.op ⟨(some 33), (.makeMap 94 none), 94, "", #[⟨14, .chain⟩], none⟩
  (.op ⟨(some 34), (.build 101 #[(1, (.tmp 22)), (2, (.tmp 26)), (3, (.tmp 27)), (4, (.tmp 32)), (5, (.tmp 33))]), 101, "", #[], none⟩
  (.alt (.op ⟨(some 35), (.box 101 (.tmp 34)), 34, "", #[⟨16, .chain⟩], none⟩
  (.op ⟨(some 3), (.assign (.tmp 35)), 34, "", #[], none⟩
  .done))
  .stop)))
  .stop))
  (.alt (.op ⟨(some 33), (.makeMap 94 none), 94, "", #[⟨14, .chain⟩], none⟩
  (.alt (.op ⟨(some 27), (.makeMap 93 none), 93, "", #[⟨8, .chain⟩], none⟩
  (.op ⟨(some 34), (.build 101 #[(1, (.tmp 22)), (2, (.tmp 26)), (3, (.tmp 27)), (4, (.tmp 32)), (5, (.tmp 33))]), 101, "", #[], none⟩
  (.alt (.op ⟨(some 35), (.box 101 (.tmp 34)), 34, "", #[⟨16, .chain⟩], none⟩
  (.op ⟨(some 3), (.assign (.tmp 35)), 34, "", #[], none⟩
  .done))
  .stop)))
  .stop))
  .stop)))
  (.alt (.op ⟨(some 33), (.makeMap 94 none), 94, "", #[⟨14, .chain⟩], none⟩
  (.alt (.op ⟨(some 27), (.makeMap 93 none), 93, "", #[⟨8, .chain⟩], none⟩
  (.alt (.op ⟨(some 32), (.call ⟨(.value (.func 54)), #[(.tmp 31)], #[63]⟩), 63, "", #[⟨13, .chain⟩], none⟩
  (.op ⟨(some 34), (.build 101 #[(1, (.tmp 22)), (2, (.tmp 26)), (3, (.tmp 27)), (4, (.tmp 32)), (5, (.tmp 33))]), 101, "", #[], none⟩
  (.alt (.op ⟨(some 35), (.box 101 (.tmp 34)), 34, "", #[⟨16, .chain⟩], none⟩
  (.op ⟨(some 3), (.assign (.tmp 35)), 34, "", #[], none⟩
  .done))
  .stop)))
  .stop))
  (.alt (.op ⟨(some 32), (.call ⟨(.value (.func 54)), #[(.tmp 31)], #[63]⟩), 63, "", #[⟨13, .chain⟩], none⟩
  (.alt (.op ⟨(some 27), (.makeMap 93 none), 93, "", #[⟨8, .chain⟩], none⟩
  (.op ⟨(some 34), (.build 101 #[(1, (.tmp 22)), (2, (.tmp 26)), (3, (.tmp 27)), (4, (.tmp 32)), (5, (.tmp 33))]), 101, "", #[], none⟩
  (.alt (.op ⟨(some 35), (.box 101 (.tmp 34)), 34, "", #[⟨16, .chain⟩], none⟩
  (.op ⟨(some 3), (.assign (.tmp 35)), 34, "", #[], none⟩
  .done))
  .stop)))
  .stop))
  .stop)))
  .stop)))))))))))))))
def F31.r4 : List Oper := [
  op 36 (.move (.tmp 0)) 34,
  op 37 (.nilCheck (.tmp 36)) 0,
  op 38 (.fieldAddr 101 (.tmp 37) 5) 0,
  od 39 (.load 94 (.tmp 38)) 94,
  oc 40 (.range 94 (.tmp 39)) 0]
def F31.r5 : List Oper := [
  oc 41 (.next (.tmp 40) false) 0,
  op 42 (.extract (.tmp 41) 0) 4]
def F31.r6 : List Oper := [
  od 43 (.entry (.tmp 40)) 0,
  op 44 (.extract (.tmp 43) 0) 121,
  op 45 (.extract (.tmp 43) 1) 30,
  oc 4 (.alloc 121) 0,
  ⟨none, (.store 121 (.tmp 4) (.tmp 44)), 0, "", #[⟨0, .chain⟩], none⟩,
  op 5 (.assign (.tmp 45)) 30]
def F31.r7 : List Oper := [
  ⟨(some 46), (.move (.tmp 3)), 34, "", #[], none⟩,
  ⟨(some 47), (.nilCheck (.tmp 46)), 0, "", #[], none⟩,
  ⟨(some 48), (.fieldAddr 101 (.tmp 47) 5), 0, "", #[], none⟩,
  ⟨(some 51), (.move (.tmp 5)), 30, "", #[], none⟩,
  ⟨(some 49), (.load 94 (.tmp 48)), 94, "", #[⟨64, .data⟩], none⟩,
  ⟨(some 50), (.load 121 (.tmp 4)), 121, "", #[⟨64, .data⟩], none⟩,
  ⟨none, (.mapUpdate 94 (.tmp 49) (.tmp 50) (.tmp 51)), 0, "", #[⟨6, .chain⟩], none⟩]
def F31.r8 : List Oper := [
  op 52 (.move (.tmp 0)) 34,
  op 53 (.nilCheck (.tmp 52)) 0,
  op 54 (.fieldAddr 101 (.tmp 53) 3) 0,
  od 55 (.load 93 (.tmp 54)) 93,
  oc 56 (.range 93 (.tmp 55)) 0]
def F31.r9 : List Oper := [
  oc 57 (.next (.tmp 56) false) 0,
  op 58 (.extract (.tmp 57) 0) 4]
def F31.r10 : List Oper := [
  od 59 (.entry (.tmp 56)) 0,
  op 60 (.extract (.tmp 59) 0) 30,
  op 61 (.extract (.tmp 59) 1) 83,
  op 6 (.assign (.tmp 60)) 30,
  op 7 (.assign (.tmp 61)) 83]
def F31.r11 : List Oper := [
  ⟨(some 62), (.move (.tmp 7)), 83, "", #[], none⟩,
  ⟨(some 63), (.nilCheck (.tmp 62)), 0, "", #[], none⟩,
  ⟨(some 64), (.fieldAddr 92 (.tmp 63) 1), 0, "", #[], none⟩,
  ⟨(some 66), (.move (.tmp 7)), 83, "", #[], none⟩,
  ⟨(some 67), (.nilCheck (.tmp 66)), 0, "", #[], none⟩,
  ⟨(some 68), (.fieldAddr 92 (.tmp 67) 2), 0, "", #[], none⟩,
  ⟨(some 65), (.load 41 (.tmp 64)), 41, "", #[⟨1024, .data⟩], none⟩,
  ⟨(some 69), (.load 63 (.tmp 68)), 63, "", #[⟨1280, .data⟩], none⟩,
  ⟨(some 70), (.call ⟨(.value (.func 54)), #[(.tmp 69)], #[63]⟩), 63, "", #[⟨8, .chain⟩], none⟩,
  ⟨(some 71), (.build 92 #[(1, (.tmp 65)), (2, (.tmp 70))]), 92, "", #[], none⟩,
  ⟨(some 72), (.box 92 (.tmp 71)), 83, "", #[⟨10, .chain⟩], none⟩,
  ⟨(some 8), (.assign (.tmp 72)), 83, "", #[], none⟩]
def F31.r12 : List Oper := [
  op 73 (.move (.tmp 7)) 83,
  op 74 (.nilCheck (.tmp 73)) 0,
  op 75 (.fieldAddr 92 (.tmp 74) 3) 0,
  od 76 (.load 90 (.tmp 75)) 90,
  op 77 (.call ⟨(.builtin .len), #[(.tmp 76)], #[90]⟩) 3,
  op 78 (.move (.const (.int .i64 0))) 3]
def F31.r13 : List Oper := [
  op 79 (.binOp .lss 3 (.tmp 78) (.tmp 77) 3) 0]
def F31.r14 : List Oper := [
  op 80 (.indexAddr 90 (.tmp 76) (.tmp 78)) 0,
  od 81 (.load 122 (.tmp 80)) 122,
  op 10 (.assign (.tmp 81)) 122]
def F31.r15 : List Oper := [
  op 82 (.move (.tmp 10)) 122,
  op 83 (.binOp .neq 122 (.tmp 82) (.const (.pointer none)) 122) 4]
def F31.r16 : List Oper := [
  op 84 (.move (.tmp 10)) 122,
  op 85 (.nilCheck (.tmp 84)) 0,
  od 86 (.load 123 (.tmp 85)) 123,
  oc 11 (.alloc 123) 0,
  ⟨none, (.store 123 (.tmp 11) (.tmp 86)), 0, "", #[⟨0, .chain⟩], none⟩]
def F31.r17 : List Oper := [
  op 10 (.assign (.tmp 11)) 122]
def F31.r18 : List Oper := [
  op 87 (.move (.tmp 8)) 83,
  op 88 (.move (.tmp 8)) 83,
  op 89 (.nilCheck (.tmp 88)) 0,
  op 90 (.fieldAddr 92 (.tmp 89) 3) 0,
  od 91 (.load 90 (.tmp 90)) 90,
  op 92 (.move (.tmp 10)) 122,
  oc 93 (.buildSlice 90 1 #[(0, (.tmp 92))]) 90,
  oc 94 (.call ⟨(.builtin .append), #[(.tmp 91), (.tmp 93)], #[90, 90]⟩) 90,
  op 95 (.nilCheck (.tmp 87)) 0,
  op 96 (.fieldAddr 92 (.tmp 95) 3) 0,
  ⟨none, (.store 90 (.tmp 96) (.tmp 94)), 0, "", #[⟨0, .chain⟩], none⟩]
def F31.r19 : List Oper := [
  op 97 (.binOp .add 3 (.tmp 78) (.const (.int .i64 1)) 3) 3,
  op 78 (.move (.tmp 97)) 3]
def F31.r20 : List Oper := [
  op 98 (.move (.tmp 3)) 34,
  op 99 (.nilCheck (.tmp 98)) 0,
  op 100 (.fieldAddr 101 (.tmp 99) 3) 0,
  od 101 (.load 93 (.tmp 100)) 93,
  op 102 (.move (.tmp 6)) 30,
  op 103 (.move (.tmp 8)) 83,
  ⟨none, (.mapUpdate 93 (.tmp 101) (.tmp 102) (.tmp 103)), 0, "", #[⟨0, .chain⟩], none⟩]
def F31.r21 : List Oper := [
  op 104 (.move (.tmp 3)) 34,
  op 2 (.assign (.tmp 104)) 34]
def F31.t6 : Cd := (.block 1 (.seq (.region 6 F31.r6.toArray false) (.region 7 F31.r7.toArray true)))
theorem F31.t6_eq {θ : Tag (F31.t6, Q, e, w)} : cwE P F31.t6 Q e w θ = cwE P (.block 1 (.seq (.region 6 F31.r6.toArray false) (.region 7 F31.r7.toArray true))) Q e w := rfl
def F31.t18 : Cd := (.region 18 F31.r18.toArray false)
theorem F31.t18_eq {θ : Tag (F31.t18, Q, e, w)} : cwE P F31.t18 Q e w θ = cwE P (.region 18 F31.r18.toArray false) Q e w := rfl
def F31.t19 : Cd := (.region 19 F31.r19.toArray false)
theorem F31.t19_eq {θ : Tag (F31.t19, Q, e, w)} : cwE P F31.t19 Q e w θ = cwE P (.region 19 F31.r19.toArray false) Q e w := rfl
def F31.t14 : Cd := (.seq (.block 5 (.seq (.region 14 F31.r14.toArray false) (.seq (.seq (.region 15 F31.r15.toArray false) (.cond (.tmp 83) (.seq (.region 16 F31.r16.toArray false) (.region 17 F31.r17.toArray false)) .skip)) F31.t18))) F31.t19)
theorem F31.t14_eq {θ : Tag (F31.t14, Q, e, w)} : cwE P F31.t14 Q e w θ = cwE P (.seq (.block 5 (.seq (.region 14 F31.r14.toArray false) (.seq (.seq (.region 15 F31.r15.toArray false) (.cond (.tmp 83) (.seq (.region 16 F31.r16.toArray false) (.region 17 F31.r17.toArray false)) .skip)) F31.t18))) F31.t19) Q e w := rfl
def F31.t20 : Cd := (.region 20 F31.r20.toArray false)
theorem F31.t20_eq {θ : Tag (F31.t20, Q, e, w)} : cwE P F31.t20 Q e w θ = cwE P (.region 20 F31.r20.toArray false) Q e w := rfl
def F31.t10 : Cd := (.block 3 (.seq (.region 10 F31.r10.toArray false) (.seq (.region 11 F31.r11.toArray true) (.seq (.seq (.region 12 F31.r12.toArray false) (.block 4 (.loop (.seq (.region 13 F31.r13.toArray false) (.seq (.cond (.tmp 79) .skip (.exit 4)) F31.t14))))) F31.t20))))
theorem F31.t10_eq {θ : Tag (F31.t10, Q, e, w)} : cwE P F31.t10 Q e w θ = cwE P (.block 3 (.seq (.region 10 F31.r10.toArray false) (.seq (.region 11 F31.r11.toArray true) (.seq (.seq (.region 12 F31.r12.toArray false) (.block 4 (.loop (.seq (.region 13 F31.r13.toArray false) (.seq (.cond (.tmp 79) .skip (.exit 4)) F31.t14))))) F31.t20)))) Q e w := rfl
def F31.t21 : Cd := (.seq (.region 21 F31.r21.toArray false) .ret)
theorem F31.t21_eq {θ : Tag (F31.t21, Q, e, w)} : cwE P F31.t21 Q e w θ = cwE P (.seq (.region 21 F31.r21.toArray false) .ret) Q e w := rfl
def F31.t8 : Cd := (.seq (.seq (.region 8 F31.r8.toArray false) (.block 2 (.loop (.seq (.region 9 F31.r9.toArray false) (.seq (.cond (.tmp 58) .skip (.exit 2)) F31.t10))))) F31.t21)
theorem F31.t8_eq {θ : Tag (F31.t8, Q, e, w)} : cwE P F31.t8 Q e w θ = cwE P (.seq (.seq (.region 8 F31.r8.toArray false) (.block 2 (.loop (.seq (.region 9 F31.r9.toArray false) (.seq (.cond (.tmp 58) .skip (.exit 2)) F31.t10))))) F31.t21) Q e w := rfl
def F31.t4 : Cd := (.seq (.seq (.region 4 F31.r4.toArray false) (.block 0 (.loop (.seq (.region 5 F31.r5.toArray false) (.seq (.cond (.tmp 42) .skip (.exit 0)) F31.t6))))) F31.t8)
theorem F31.t4_eq {θ : Tag (F31.t4, Q, e, w)} : cwE P F31.t4 Q e w θ = cwE P (.seq (.seq (.region 4 F31.r4.toArray false) (.block 0 (.loop (.seq (.region 5 F31.r5.toArray false) (.seq (.cond (.tmp 42) .skip (.exit 0)) F31.t6))))) F31.t8) Q e w := rfl
def F31.code : Cd := (.seq (.region 0 F31.r0.toArray false) (.seq (.region 1 F31.r1.toArray false) (.seq (.region 2 F31.r2.toArray false) (.seq (.tree F31.r3) F31.t4))))
theorem F31.calls (hn : args.size ≤ 105) (h : cwE Tryd.prog F31.code (fnP Tryd.prog #[(.tmp 2)] R) (entry args) w) : Calls Tryd.prog 31 args w R :=
  calls_of_cwE (types := Tryd.prog.types) follows Tryd.func31 F31.code rfl (by kernel_rfl) hn h

def F32.r0 : List Oper := [
  op 8 (.assign (.const (.bool false))) 4]
def F32.r1 : List Oper := [
  op 9 (.assign (.const (.int .i64 0))) 3]
def F32.r2 : List Oper := [
  op 12 (.move (.tmp 9)) 3,
  op 13 (.move (.tmp 2)) 69,
  op 14 (.call ⟨(.builtin .len), #[(.tmp 13)], #[69]⟩) 3,
  op 15 (.binOp .lss 3 (.tmp 12) (.tmp 14) 3) 4]
def F32.r4 : List Oper := [
  op 18 (.move (.tmp 2)) 69,
  op 19 (.move (.tmp 9)) 3,
  op 20 (.indexAddr 69 (.tmp 18) (.tmp 19)) 0,
  op 21 (.fieldAddr 41 (.tmp 20) 0) 0,
  od 22 (.load 30 (.tmp 21)) 30,
  op 23 (.move (.tmp 3)) 30,
  op 24 (.binOp .eql 30 (.tmp 22) (.tmp 23) 30) 4]
def F32.r5 : List Oper := [
  op 25 (.move (.tmp 0)) 34,
  op 26 (.move (.tmp 2)) 69,
  op 27 (.move (.tmp 9)) 3,
  op 28 (.indexAddr 69 (.tmp 26) (.tmp 27)) 0,
  op 29 (.fieldAddr 41 (.tmp 28) 0) 0,
  od 30 (.load 30 (.tmp 29)) 30,
  oc 31 (.call ⟨(.value (.func 23)), #[(.tmp 25), (.tmp 30), (.const (.int .u64 0)), (.const (.int .i64 65536))], #[34, 30, 30, 3]⟩) 51,
  op 10 (.assign (.tmp 31)) 51]
def F32.r6 : List Oper := [
  op 32 (.move (.tmp 1)) 34,
  op 33 (.move (.tmp 2)) 69,
  op 34 (.move (.tmp 9)) 3,
  op 35 (.indexAddr 69 (.tmp 33) (.tmp 34)) 0,
  op 36 (.fieldAddr 41 (.tmp 35) 0) 0,
  od 37 (.load 30 (.tmp 36)) 30,
  oc 38 (.call ⟨(.value (.func 23)), #[(.tmp 32), (.tmp 37), (.const (.int .u64 0)), (.const (.int .i64 65536))], #[34, 30, 30, 3]⟩) 51,
  op 11 (.assign (.tmp 38)) 51]
def F32.r7 : List Oper := [
  op 39 (.move (.tmp 10)) 51,
  od 40 (.convert 51 9 (.tmp 39)) 9,
  op 41 (.move (.tmp 11)) 51,
  od 42 (.convert 51 9 (.tmp 41)) 9,
  op 43 (.binOp .neq 9 (.tmp 40) (.tmp 42) 9) 4]
def F32.r8 : List Oper := [
  op 8 (.assign (.const (.bool false))) 4]
def F32.r3 : List Oper := [
  op 16 (.move (.tmp 9)) 3,
  op 17 (.binOp .add 3 (.tmp 16) (.const (.int .i64 1)) 3) 3,
  op 9 (.assign (.tmp 17)) 3]
def F32.r9 : List Oper := [
  op 8 (.assign (.const (.bool true))) 4]
def F32.t5 : Cd := (.seq (.region 5 F32.r5.toArray false) (.seq (.region 6 F32.r6.toArray false) (.seq (.region 7 F32.r7.toArray false) (.cond (.tmp 43) (.seq (.region 8 F32.r8.toArray false) .ret) .skip))))
theorem F32.t5_eq {θ : Tag (F32.t5, Q, e, w)} : cwE P F32.t5 Q e w θ = cwE P (.seq (.region 5 F32.r5.toArray false) (.seq (.region 6 F32.r6.toArray false) (.seq (.region 7 F32.r7.toArray false) (.cond (.tmp 43) (.seq (.region 8 F32.r8.toArray false) .ret) .skip)))) Q e w := rfl
def F32.t3 : Cd := (.region 3 F32.r3.toArray false)
theorem F32.t3_eq {θ : Tag (F32.t3, Q, e, w)} : cwE P F32.t3 Q e w θ = cwE P (.region 3 F32.r3.toArray false) Q e w := rfl
def F32.t4 : Cd := (.seq (.block 1 (.seq (.seq (.region 4 F32.r4.toArray false) (.cond (.tmp 24) (.exit 1) .skip)) F32.t5)) F32.t3)
theorem F32.t4_eq {θ : Tag (F32.t4, Q, e, w)} : cwE P F32.t4 Q e w θ = cwE P (.seq (.block 1 (.seq (.seq (.region 4 F32.r4.toArray false) (.cond (.tmp 24) (.exit 1) .skip)) F32.t5)) F32.t3) Q e w := rfl
def F32.t9 : Cd := (.seq (.region 9 F32.r9.toArray false) .ret)
theorem F32.t9_eq {θ : Tag (F32.t9, Q, e, w)} : cwE P F32.t9 Q e w θ = cwE P (.seq (.region 9 F32.r9.toArray false) .ret) Q e w := rfl
def F32.code : Cd := (.seq (.region 0 F32.r0.toArray false) (.seq (.seq (.region 1 F32.r1.toArray false) (.block 0 (.loop (.seq (.seq (.region 2 F32.r2.toArray false) (.cond (.tmp 15) .skip (.exit 0))) F32.t4)))) F32.t9))
theorem F32.calls (hn : args.size ≤ 44) (h : cwE Tryd.prog F32.code (fnP Tryd.prog #[(.tmp 8)] R) (entry args) w) : Calls Tryd.prog 32 args w R :=
  calls_of_cwE (types := Tryd.prog.types) follows Tryd.func32 F32.code rfl (by kernel_rfl) hn h

def F33.r0 : List Oper := [
  oc 2 (.box 41 (.tmp 0)) 0,
  oc 4 (.alloc 41) 0]
def F33.r1 : List Oper := [
  op 5 (.move (.tmp 1)) 3,
  op 6 (.fieldAddr 41 (.tmp 2) 12) 0,
  ⟨none, (.store 3 (.tmp 6) (.tmp 5)), 0, "", #[⟨0, .chain⟩], none⟩]
def F33.r2 : List Oper := [
  od 7 (.load 41 (.tmp 2)) 41,
  ⟨none, (.store 41 (.tmp 4) (.tmp 7)), 0, "", #[⟨0, .chain⟩], none⟩]
def F33.code : Cd := (.seq (.region 0 F33.r0.toArray false) (.seq (.region 1 F33.r1.toArray false) (.seq (.region 2 F33.r2.toArray false) .ret)))
theorem F33.calls (hn : args.size ≤ 8) (h : cwE Tryd.prog F33.code (fnP Tryd.prog #[(.cell 4 41)] R) (entry args) w) : Calls Tryd.prog 33 args w R :=
  calls_of_cwE (types := Tryd.prog.types) follows Tryd.func33 F33.code rfl (by kernel_rfl) hn h

def F34.r0 : List Oper := [
  op 2 (.assign (.const (.bool false))) 4]
def F34.r1 : List Oper := [
  op 3 (.move (.tmp 0)) 9,
  op 4 (.call ⟨(.builtin .len), #[(.tmp 3)], #[9]⟩) 3,
  op 5 (.binOp .leq 3 (.tmp 4) (.const (.int .i64 32)) 3) 4,
  op 6 (.move (.tmp 5)) 4,
  ⟨(some 7), (.move (.tmp 0)), 9, "", #[], (some (6, true))⟩,
  ⟨(some 8), (.call ⟨(.value (.func 55)), #[(.tmp 7)], #[9]⟩), 4, "", #[⟨0, .chain⟩], (some (6, true))⟩,
  op 9 (.pick (.tmp 6) (.tmp 8) (.const (.bool false))) 4,
  op 2 (.assign (.tmp 9)) 4]
def F34.code : Cd := (.seq (.region 0 F34.r0.toArray false) (.seq (.region 1 F34.r1.toArray false) .ret))
theorem F34.calls (hn : args.size ≤ 10) (h : cwE Tryd.prog F34.code (fnP Tryd.prog #[(.tmp 2)] R) (entry args) w) : Calls Tryd.prog 34 args w R :=
  calls_of_cwE (types := Tryd.prog.types) follows Tryd.func34 F34.code rfl (by kernel_rfl) hn h

def F35.r0 : List Oper := [
  op 2 (.assign (.const (.bool false))) 4]
def F35.r1 : List Oper := [
  op 4 (.move (.tmp 0)) 9,
  oc 5 (.call ⟨(.value (.func 56)), #[(.tmp 4)], #[9]⟩) 4,
  op 3 (.assign (.tmp 5)) 4]
def F35.r2 : List Oper := [
  op 6 (.move (.tmp 3)) 4,
  op 7 (.move (.tmp 6)) 4,
  ⟨(some 8), (.move (.tmp 0)), 9, "", #[], (some (7, true))⟩,
  ⟨(some 9), (.call ⟨(.builtin .len), #[(.tmp 8)], #[9]⟩), 3, "", #[], (some (7, true))⟩,
  ⟨(some 10), (.binOp .leq 3 (.tmp 9) (.const (.int .i64 32)) 3), 4, "", #[], (some (7, true))⟩,
  op 11 (.pick (.tmp 7) (.tmp 10) (.const (.bool false))) 4,
  op 2 (.assign (.tmp 11)) 4]
def F35.code : Cd := (.seq (.region 0 F35.r0.toArray false) (.seq (.region 1 F35.r1.toArray false) (.seq (.region 2 F35.r2.toArray false) .ret)))
theorem F35.calls (hn : args.size ≤ 12) (h : cwE Tryd.prog F35.code (fnP Tryd.prog #[(.tmp 2)] R) (entry args) w) : Calls Tryd.prog 35 args w R :=
  calls_of_cwE (types := Tryd.prog.types) follows Tryd.func35 F35.code rfl (by kernel_rfl) hn h

def F38.r0 : List Oper := [
  oc 4 (.alloc 41) 0,
  op 5 (.assign (.const (.bool false))) 4]
def F38.r1 : List Oper := [
  op 8 (.move (.tmp 0)) 34,
  op 9 (.nilCheck (.tmp 8)) 0,
  op 10 (.fieldAddr 101 (.tmp 9) 3) 0,
  od 11 (.load 93 (.tmp 10)) 93,
  op 12 (.move (.tmp 1)) 30,
  od 13 (.lookup 93 (.tmp 11) (.tmp 12) false) 83,
  op 6 (.assign (.tmp 13)) 83]
def F38.r2 : List Oper := [
  op 14 (.move (.tmp 6)) 83,
  op 15 (.binOp .eql 83 (.tmp 14) (.const (.pointer none)) 83) 4]
def F38.r3 : List Oper := [
  op 16 (.build 41 #[]) 41,
  ⟨none, (.store 41 (.tmp 4) (.tmp 16)), 0, "", #[⟨0, .chain⟩], none⟩,
  op 5 (.assign (.const (.bool false))) 4]
def F38.r4 : List Oper := [
  op 17 (.move (.tmp 6)) 83,
  op 18 (.nilCheck (.tmp 17)) 0,
  op 19 (.fieldAddr 92 (.tmp 18) 0) 0,
  oc 20 (.call ⟨(.value (.func 41)), #[(.tmp 19)], #[89]⟩) 0]
def F38.r5 : List Oper := [
  op 21 (.move (.tmp 6)) 83,
  op 22 (.nilCheck (.tmp 21)) 0,
  op 23 (.fieldAddr 92 (.tmp 22) 0) 0,
  ⟨none, (.defer ⟨(.value (.func 42)), #[(.tmp 23)], #[89]⟩), 0, "", #[⟨0, .chain⟩], none⟩]
def F38.r6 : List Oper := [
  op 24 (.move (.tmp 6)) 83,
  op 25 (.nilCheck (.tmp 24)) 0,
  op 26 (.fieldAddr 92 (.tmp 25) 1) 0,
  od 27 (.load 41 (.tmp 26)) 41,
  oc 7 (.alloc 41) 0,
  ⟨none, (.store 41 (.tmp 7) (.tmp 27)), 0, "", #[⟨0, .chain⟩], none⟩]
def F38.r7 : List Oper := [
  op 28 (.move (.tmp 6)) 83,
  op 29 (.nilCheck (.tmp 28)) 0,
  op 30 (.fieldAddr 92 (.tmp 29) 2) 0,
  od 31 (.load 63 (.tmp 30)) 63,
  op 32 (.call ⟨(.builtin .len), #[(.tmp 31)], #[63]⟩) 3,
  op 33 (.fieldAddr 41 (.tmp 7) 12) 0,
  ⟨none, (.store 3 (.tmp 33) (.tmp 32)), 0, "", #[⟨0, .chain⟩], none⟩]
def F38.r8 : List Oper := [
  od 34 (.load 41 (.tmp 7)) 41,
  ⟨none, (.store 41 (.tmp 4) (.tmp 34)), 0, "", #[⟨0, .chain⟩], none⟩,
  op 5 (.assign (.const (.bool true))) 4]
def F38.t4 : Cd := (.seq (.region 4 F38.r4.toArray false) (.seq (.region 5 F38.r5.toArray false) (.seq (.region 6 F38.r6.toArray false) (.seq (.region 7 F38.r7.toArray false) (.seq (.region 8 F38.r8.toArray false) .ret)))))
theorem F38.t4_eq {θ : Tag (F38.t4, Q, e, w)} : cwE P F38.t4 Q e w θ = cwE P (.seq (.region 4 F38.r4.toArray false) (.seq (.region 5 F38.r5.toArray false) (.seq (.region 6 F38.r6.toArray false) (.seq (.region 7 F38.r7.toArray false) (.seq (.region 8 F38.r8.toArray false) .ret))))) Q e w := rfl
def F38.code : Cd := (.seq (.region 0 F38.r0.toArray false) (.seq (.region 1 F38.r1.toArray false) (.seq (.seq (.region 2 F38.r2.toArray false) (.cond (.tmp 15) (.seq (.region 3 F38.r3.toArray false) .ret) .skip)) F38.t4)))
theorem F38.calls (hn : args.size ≤ 35) (h : cwE Tryd.prog F38.code (fnP Tryd.prog #[(.cell 4 41), (.tmp 5)] R) (entry args) w) : Calls Tryd.prog 38 args w R :=
  calls_of_cwE (types := Tryd.prog.types) follows Tryd.func38 F38.code rfl (by kernel_rfl) hn h

def F39.r0 : List Oper := [
  op 4 (.assign (.const (.int .i64 0))) 3]
def F39.r1 : List Oper := [
  op 5 (.assign (.const (.int .i64 0))) 3]
def F39.r2 : List Oper := [
  op 6 (.move (.tmp 5)) 3,
  op 7 (.move (.tmp 0)) 37,
  op 8 (.nilCheck (.tmp 7)) 0,
  op 9 (.fieldAddr 106 (.tmp 8) 2) 0,
  od 10 (.load 104 (.tmp 9)) 104,
  op 11 (.call ⟨(.builtin .len), #[(.tmp 10)], #[104]⟩) 3,
  op 12 (.binOp .lss 3 (.tmp 6) (.tmp 11) 3) 4]
def F39.r4 : List Oper := [
  op 15 (.move (.tmp 0)) 37,
  op 16 (.nilCheck (.tmp 15)) 0,
  op 17 (.fieldAddr 106 (.tmp 16) 2) 0,
  od 18 (.load 104 (.tmp 17)) 104,
  op 19 (.move (.tmp 5)) 3,
  op 20 (.indexAddr 104 (.tmp 18) (.tmp 19)) 0,
  op 21 (.fieldAddr 103 (.tmp 20) 0) 0,
  op 22 (.fieldAddr 41 (.tmp 21) 0) 0,
  od 23 (.load 30 (.tmp 22)) 30,
  op 24 (.move (.tmp 1)) 30,
  op 25 (.binOp .eql 30 (.tmp 23) (.tmp 24) 30) 4]
def F39.r5 : List Oper := [
  op 26 (.move (.tmp 5)) 3,
  op 4 (.assign (.tmp 26)) 3]
def F39.r3 : List Oper := [
  op 13 (.move (.tmp 5)) 3,
  op 14 (.binOp .add 3 (.tmp 13) (.const (.int .i64 1)) 3) 3,
  op 5 (.assign (.tmp 14)) 3]
def F39.r6 : List Oper := [
  op 4 (.assign (.const (.int .i64 (-1)))) 3]
def F39.t3 : Cd := (.region 3 F39.r3.toArray false)
theorem F39.t3_eq {θ : Tag (F39.t3, Q, e, w)} : cwE P F39.t3 Q e w θ = cwE P (.region 3 F39.r3.toArray false) Q e w := rfl
def F39.t4 : Cd := (.seq (.block 1 (.seq (.region 4 F39.r4.toArray false) (.cond (.tmp 25) (.seq (.region 5 F39.r5.toArray false) .ret) .skip))) F39.t3)
theorem F39.t4_eq {θ : Tag (F39.t4, Q, e, w)} : cwE P F39.t4 Q e w θ = cwE P (.seq (.block 1 (.seq (.region 4 F39.r4.toArray false) (.cond (.tmp 25) (.seq (.region 5 F39.r5.toArray false) .ret) .skip))) F39.t3) Q e w := rfl
def F39.t6 : Cd := (.seq (.region 6 F39.r6.toArray false) .ret)
theorem F39.t6_eq {θ : Tag (F39.t6, Q, e, w)} : cwE P F39.t6 Q e w θ = cwE P (.seq (.region 6 F39.r6.toArray false) .ret) Q e w := rfl
def F39.code : Cd := (.seq (.region 0 F39.r0.toArray false) (.seq (.seq (.region 1 F39.r1.toArray false) (.block 0 (.loop (.seq (.seq (.region 2 F39.r2.toArray false) (.cond (.tmp 12) .skip (.exit 0))) F39.t4)))) F39.t6))
theorem F39.calls (hn : args.size ≤ 27) (h : cwE Tryd.prog F39.code (fnP Tryd.prog #[(.tmp 4)] R) (entry args) w) : Calls Tryd.prog 39 args w R :=
  calls_of_cwE (types := Tryd.prog.types) follows Tryd.func39 F39.code rfl (by kernel_rfl) hn h

def F40.r0 : List Oper := [
  oc 3 (.box 53 (.tmp 1)) 0,
  op 4 (.assign (.const (.int .u64 0))) 30,
  op 5 (.assign (.const (.int .i64 0))) 26]
def F40.r1 : List Oper := [
  op 7 (.move (.tmp 0)) 34,
  op 8 (.nilCheck (.tmp 7)) 0,
  op 9 (.fieldAddr 101 (.tmp 8) 0) 0,
  oc 10 (.call ⟨(.value (.func 52)), #[(.tmp 9)], #[99]⟩) 0]
def F40.r2 : List Oper := [
  op 11 (.move (.tmp 0)) 34,
  op 12 (.nilCheck (.tmp 11)) 0,
  op 13 (.fieldAddr 101 (.tmp 12) 0) 0,
  ⟨none, (.defer ⟨(.value (.func 53)), #[(.tmp 13)], #[99]⟩), 0, "", #[⟨0, .chain⟩], none⟩]
def F40.r3 : List Oper := [
  ⟨(some 14), (.move (.tmp 0)), 34, "", #[], none⟩,
  ⟨(some 15), (.nilCheck (.tmp 14)), 0, "", #[], none⟩,
  ⟨(some 16), (.fieldAddr 101 (.tmp 15) 3), 0, "", #[], none⟩,
  ⟨(some 18), (.fieldAddr 53 (.tmp 3) 1), 0, "", #[], none⟩,
  ⟨(some 17), (.load 93 (.tmp 16)), 93, "", #[⟨0, .data⟩], none⟩,
  ⟨(some 19), (.load 30 (.tmp 18)), 30, "", #[⟨0, .data⟩], none⟩,
  ⟨(some 20), (.lookup 93 (.tmp 17) (.tmp 19) false), 83, "", #[⟨0, .data⟩], none⟩,
  ⟨(some 6), (.assign (.tmp 20)), 83, "", #[], none⟩]
def F40.r4 : List Oper := [
  op 21 (.move (.tmp 6)) 83,
  op 22 (.binOp .eql 83 (.tmp 21) (.const (.pointer none)) 83) 4]
def F40.r5 : List Oper := [
  op 4 (.assign (.const (.int .u64 0))) 30,
  op 5 (.assign (.const (.int .i64 80))) 26]
def F40.r6 : List Oper := [
  op 23 (.fieldAddr 53 (.tmp 3) 0) 0,
  od 24 (.load 22 (.tmp 23)) 22]
def F40.r7 : List Oper := [
  op 26 (.binOp .eql 22 (.tmp 24) (.const (.int .u8 1)) 22) 4,
  op 25 (.assign (.tmp 26)) 4]
def F40.r8 : List Oper := [
  op 27 (.move (.tmp 0)) 34,
  op 28 (.move (.tmp 6)) 83,
  op 29 (.fieldAddr 53 (.tmp 3) 4) 0,
  od 30 (.load 41 (.tmp 29)) 41,
  oc 31 (.call ⟨(.value (.func 65)), #[(.tmp 27), (.tmp 28), (.tmp 30)], #[34, 83, 41]⟩) 49,
  op 32 (.extract (.tmp 31) 0) 30,
  op 33 (.extract (.tmp 31) 1) 26,
  op 4 (.assign (.tmp 32)) 30,
  op 5 (.assign (.tmp 33)) 26]
def F40.r9 : List Oper := [
  op 35 (.binOp .eql 22 (.tmp 24) (.const (.int .u8 2)) 22) 4,
  op 34 (.assign (.tmp 35)) 4]
def F40.r10 : List Oper := [
  op 36 (.move (.tmp 0)) 34,
  op 37 (.move (.tmp 6)) 83,
  oc 38 (.call ⟨(.value (.func 66)), #[(.tmp 36), (.tmp 37)], #[34, 83]⟩) 49,
  op 39 (.extract (.tmp 38) 0) 30,
  op 40 (.extract (.tmp 38) 1) 26,
  op 4 (.assign (.tmp 39)) 30,
  op 5 (.assign (.tmp 40)) 26]
def F40.r11 : List Oper := [
  op 41 (.move (.tmp 0)) 34,
  op 42 (.move (.tmp 6)) 83,
  op 43 (.fieldAddr 53 (.tmp 3) 2) 0,
  od 44 (.load 9 (.tmp 43)) 9,
  oc 45 (.call ⟨(.value (.func 67)), #[(.tmp 41), (.tmp 42), (.tmp 44)], #[34, 83, 9]⟩) 49,
  op 46 (.extract (.tmp 45) 0) 30,
  op 47 (.extract (.tmp 45) 1) 26,
  op 4 (.assign (.tmp 46)) 30,
  op 5 (.assign (.tmp 47)) 26]
def F40.t11 : Cd := (.seq (.region 11 F40.r11.toArray false) .ret)
theorem F40.t11_eq {θ : Tag (F40.t11, Q, e, w)} : cwE P F40.t11 Q e w θ = cwE P (.seq (.region 11 F40.r11.toArray false) .ret) Q e w := rfl
def F40.t6 : Cd := (.seq (.seq (.region 6 F40.r6.toArray false) (.block 0 (.seq (.region 7 F40.r7.toArray false) (.cond (.tmp 25) (.seq (.region 8 F40.r8.toArray false) .ret) (.seq (.region 9 F40.r9.toArray false) (.cond (.tmp 34) (.seq (.region 10 F40.r10.toArray false) .ret) .skip)))))) F40.t11)
theorem F40.t6_eq {θ : Tag (F40.t6, Q, e, w)} : cwE P F40.t6 Q e w θ = cwE P (.seq (.seq (.region 6 F40.r6.toArray false) (.block 0 (.seq (.region 7 F40.r7.toArray false) (.cond (.tmp 25) (.seq (.region 8 F40.r8.toArray false) .ret) (.seq (.region 9 F40.r9.toArray false) (.cond (.tmp 34) (.seq (.region 10 F40.r10.toArray false) .ret) .skip)))))) F40.t11) Q e w := rfl
def F40.code : Cd := (.seq (.region 0 F40.r0.toArray false) (.seq (.region 1 F40.r1.toArray false) (.seq (.region 2 F40.r2.toArray false) (.seq (.region 3 F40.r3.toArray true) (.seq (.seq (.region 4 F40.r4.toArray false) (.cond (.tmp 22) (.seq (.region 5 F40.r5.toArray false) .ret) .skip)) F40.t6)))))
theorem F40.calls (hn : args.size ≤ 48) (h : cwE Tryd.prog F40.code (fnP Tryd.prog #[(.tmp 4), (.tmp 5)] R) (entry args) w) : Calls Tryd.prog 40 args w R :=
  calls_of_cwE (types := Tryd.prog.types) follows Tryd.func40 F40.code rfl (by kernel_rfl) hn h

end Go.Proofs.YtijnmokpihhhcaaDoor

/- part 9 -/
import Derived.Test.YtijnmokpihhhcaaGreatDoorZ1
import Derived.Test.YtijnmokpihhhcaaGreatDoorZ2
import Derived.Test.YtijnmokpihhhcaaGreatDoorZ3
import Derived.Test.YtijnmokpihhhcaaGreatDoorZ4
import Derived.Test.YtijnmokpihhhcaaGreatDoorZ5
import Derived.Test.YtijnmokpihhhcaaGreatDoorZ6
import Derived.Test.YtijnmokpihhhcaaGreatDoorZ7
import Derived.Test.YtijnmokpihhhcaaGreatDoorZ8
import Derived.Test.YtijnmokpihhhcaaGreatDoorProg
namespace Go.Proofs.YtijnmokpihhhcaaGreatDoor
open Go
set_option maxRecDepth 100000
variable {P : Program} {Q : Post} {e : FA} {w : World} {args : Array Value} {R : Ending → World → Prop}
abbrev op (d : Nat) (o : Op) (T : TypeId) : Oper := ⟨some d, o, T, "", #[], none⟩
abbrev od (d : Nat) (o : Op) (T : TypeId) : Oper := ⟨some d, o, T, "", #[⟨0, .data⟩], none⟩
abbrev og (d : Nat) (o : Op) (T : TypeId) (g : Nat) (b : Bool) : Oper := ⟨some d, o, T, "", #[], some (g, b)⟩
abbrev oc (d : Nat) (o : Op) (T : TypeId) : Oper := ⟨some d, o, T, "", #[⟨0, .chain⟩], none⟩
theorem follows : Tryz.prog.follows .mixedOrders = true := by kernel_rfl
theorem fact_aggSz_102 : aggSz Tryz.prog 102 = some none := by kernel_rfl
theorem fact_aggSz_136 : aggSz Tryz.prog 136 = some none := by kernel_rfl
theorem fact_aggSz_137 : aggSz Tryz.prog 137 = some (some 256) := by kernel_rfl
theorem fact_aggSz_142 : aggSz Tryz.prog 142 = some (some 2) := by kernel_rfl
theorem fact_aggSz_27 : aggSz Tryz.prog 27 = some none := by kernel_rfl
theorem fact_aggSz_29 : aggSz Tryz.prog 29 = some none := by kernel_rfl
theorem fact_aggSz_3 : aggSz Tryz.prog 3 = some none := by kernel_rfl
theorem fact_aggSz_33 : aggSz Tryz.prog 33 = some none := by kernel_rfl
theorem fact_aggSz_34 : aggSz Tryz.prog 34 = some none := by kernel_rfl
theorem fact_aggSz_36 : aggSz Tryz.prog 36 = some (some 10) := by kernel_rfl
theorem fact_aggSz_39 : aggSz Tryz.prog 39 = some none := by kernel_rfl
theorem fact_aggSz_4 : aggSz Tryz.prog 4 = some none := by kernel_rfl
theorem fact_aggSz_40 : aggSz Tryz.prog 40 = some none := by kernel_rfl
theorem fact_aggSz_42 : aggSz Tryz.prog 42 = some (some 13) := by kernel_rfl
theorem fact_aggSz_43 : aggSz Tryz.prog 43 = some none := by kernel_rfl
theorem fact_aggSz_45 : aggSz Tryz.prog 45 = some (some 20) := by kernel_rfl
theorem fact_aggSz_5 : aggSz Tryz.prog 5 = some none := by kernel_rfl
theorem fact_aggSz_50 : aggSz Tryz.prog 50 = some none := by kernel_rfl
theorem fact_aggSz_64 : aggSz Tryz.prog 64 = some none := by kernel_rfl
theorem fact_aggSz_69 : aggSz Tryz.prog 69 = some (some 26) := by kernel_rfl
theorem fact_aggSz_82 : aggSz Tryz.prog 82 = some none := by kernel_rfl
theorem fact_aggSz_9 : aggSz Tryz.prog 9 = some none := by kernel_rfl
theorem fact_aggSz_96 : aggSz Tryz.prog 96 = some none := by kernel_rfl
theorem fact_aggSz_97 : aggSz Tryz.prog 97 = some none := by kernel_rfl
theorem fact_aggSz_98 : aggSz Tryz.prog 98 = some none := by kernel_rfl
theorem fact_arrEx_9 : arrEx Tryz.prog 9 = (0, none) := by kernel_rfl
theorem fact_bldP_100 : bldP Tryz.prog 100 = some ([.int .i32 0, .int .u32 0, .int .u32 0, .int .u32 0, .int .i32 0, .int .i32 0, .int .i64 0, .int .u64 0, .map none, .slice none 0 0, .map none], some [(0, 6), (6, 1), (7, 1), (8, 1), (9, 1), (10, 1)], 0) := by kernel_rfl
theorem fact_bldP_104 : bldP Tryz.prog 104 = some ([.int .i32 0, .int .u32 0, .int .u64 0, .int .u64 0, .string ⟨#[]⟩, .int .u32 0, .string ⟨#[]⟩, .string ⟨#[]⟩, .string ⟨#[]⟩, .int .u32 0, .int .u32 0, .int .u32 0, .int .u64 0, .int .i64 0, .int .i64 0, .slice none 0 0, .slice none 0 0], some [(0, 2), (2, 13), (15, 1), (16, 1)], 0) := by kernel_rfl
theorem fact_bldP_142 : bldP Tryz.prog 142 = some ([.int .u64 0, .string ⟨#[]⟩], some [(0, 1), (1, 1)], 0) := by kernel_rfl
theorem fact_bldP_36 : bldP Tryz.prog 36 = some ([.string ⟨#[]⟩, .string ⟨#[]⟩, .string ⟨#[]⟩, .int .u32 0, .int .u64 0, .int .u32 0, .int .i64 0, .int .i64 0, .int .i64 0, .int .i64 0], some [(0, 1), (1, 1), (2, 1), (3, 1), (4, 1), (5, 1), (6, 1), (7, 1), (8, 1), (9, 1)], 0) := by kernel_rfl
theorem fact_bldP_42 : bldP Tryz.prog 42 = some ([.int .u64 0, .int .u64 0, .string ⟨#[]⟩, .int .u32 0, .string ⟨#[]⟩, .string ⟨#[]⟩, .string ⟨#[]⟩, .int .u32 0, .int .u32 0, .int .u32 0, .int .u64 0, .int .i64 0, .int .i64 0], some [(0, 1), (1, 1), (2, 1), (3, 1), (4, 1), (5, 1), (6, 1), (7, 1), (8, 1), (9, 1), (10, 1), (11, 1), (12, 1)], 0) := by kernel_rfl
theorem fact_bldP_45 : bldP Tryz.prog 45 = some ([.int .u8 0, .int .u64 0, .string ⟨#[]⟩, .int .u8 0, .int .u64 0, .int .u64 0, .string ⟨#[]⟩, .int .u32 0, .string ⟨#[]⟩, .string ⟨#[]⟩, .string ⟨#[]⟩, .int .u32 0, .int .u32 0, .int .u32 0, .int .u64 0, .int .i64 0, .int .i64 0, .int .u64 0, .slice none 0 0, .int .i64 0], some [(0, 1), (1, 1), (2, 1), (3, 1), (4, 13), (17, 1), (18, 1), (19, 1)], 0) := by kernel_rfl
theorem fact_bldP_62 : bldP Tryz.prog 62 = some ([.pointer none, .pointer none], none, 1) := by kernel_rfl
theorem fact_bldP_63 : bldP Tryz.prog 63 = some ([.pointer none, .pointer none], none, 1) := by kernel_rfl
theorem fact_bldP_66 : bldP Tryz.prog 66 = some ([.pointer none, .pointer none, .pointer none, .pointer none, .slice none 0 0], some [(0, 2), (2, 2), (4, 1)], 0) := by kernel_rfl
theorem fact_bldP_81 : bldP Tryz.prog 81 = some ([.int .u64 0, .int .u64 0, .string ⟨#[]⟩, .int .u32 0, .string ⟨#[]⟩, .string ⟨#[]⟩, .string ⟨#[]⟩, .int .u32 0, .int .u32 0, .int .u32 0, .int .u64 0, .int .i64 0, .int .i64 0, .slice none 0 0], some [(0, 13), (13, 1)], 0) := by kernel_rfl
theorem fact_bldP_84 : bldP Tryz.prog 84 = some ([.int .i64 0, .int .u64 0, .slice none 0 0], some [(0, 1), (1, 1), (2, 1)], 0) := by kernel_rfl
theorem fact_elemOf_102 : elemOf? Tryz.prog 102 = some (none, 1) := by kernel_rfl
theorem fact_elemOf_137 : elemOf? Tryz.prog 137 = some (some 256, 1) := by kernel_rfl
theorem fact_elemOf_22 : elemOf? Tryz.prog 22 = some (none, 20) := by kernel_rfl
theorem fact_elemOf_43 : elemOf? Tryz.prog 43 = some (none, 1) := by kernel_rfl
theorem fact_elemOf_50 : elemOf? Tryz.prog 50 = some (none, 13) := by kernel_rfl
theorem fact_elemOf_56 : elemOf? Tryz.prog 56 = some (none, 26) := by kernel_rfl
theorem fact_elemOf_62 : elemOf? Tryz.prog 62 = some (some 2, 1) := by kernel_rfl
theorem fact_elemOf_63 : elemOf? Tryz.prog 63 = some (some 2, 1) := by kernel_rfl
theorem fact_elemOf_64 : elemOf? Tryz.prog 64 = some (none, 1) := by kernel_rfl
theorem fact_elemOf_82 : elemOf? Tryz.prog 82 = some (none, 14) := by kernel_rfl
theorem fact_elemOf_9 : elemOf? Tryz.prog 9 = none := by kernel_rfl
theorem fact_elemOf_97 : elemOf? Tryz.prog 97 = some (none, 1) := by kernel_rfl
theorem fact_fieldOff_100_0 : fieldOff Tryz.prog 100 0 = some 0 := by kernel_rfl
theorem fact_fieldOff_100_1 : fieldOff Tryz.prog 100 1 = some 6 := by kernel_rfl
theorem fact_fieldOff_100_2 : fieldOff Tryz.prog 100 2 = some 7 := by kernel_rfl
theorem fact_fieldOff_100_3 : fieldOff Tryz.prog 100 3 = some 8 := by kernel_rfl
theorem fact_fieldOff_100_4 : fieldOff Tryz.prog 100 4 = some 9 := by kernel_rfl
theorem fact_fieldOff_100_5 : fieldOff Tryz.prog 100 5 = some 10 := by kernel_rfl
theorem fact_fieldOff_104_0 : fieldOff Tryz.prog 104 0 = some 0 := by kernel_rfl
theorem fact_fieldOff_104_1 : fieldOff Tryz.prog 104 1 = some 2 := by kernel_rfl
theorem fact_fieldOff_104_2 : fieldOff Tryz.prog 104 2 = some 15 := by kernel_rfl
theorem fact_fieldOff_104_3 : fieldOff Tryz.prog 104 3 = some 16 := by kernel_rfl
theorem fact_fieldOff_142_0 : fieldOff Tryz.prog 142 0 = some 0 := by kernel_rfl
theorem fact_fieldOff_36_0 : fieldOff Tryz.prog 36 0 = some 0 := by kernel_rfl
theorem fact_fieldOff_36_1 : fieldOff Tryz.prog 36 1 = some 1 := by kernel_rfl
theorem fact_fieldOff_36_2 : fieldOff Tryz.prog 36 2 = some 2 := by kernel_rfl
theorem fact_fieldOff_36_3 : fieldOff Tryz.prog 36 3 = some 3 := by kernel_rfl
theorem fact_fieldOff_36_8 : fieldOff Tryz.prog 36 8 = some 8 := by kernel_rfl
theorem fact_fieldOff_42_0 : fieldOff Tryz.prog 42 0 = some 0 := by kernel_rfl
theorem fact_fieldOff_42_1 : fieldOff Tryz.prog 42 1 = some 1 := by kernel_rfl
theorem fact_fieldOff_42_10 : fieldOff Tryz.prog 42 10 = some 10 := by kernel_rfl
theorem fact_fieldOff_42_11 : fieldOff Tryz.prog 42 11 = some 11 := by kernel_rfl
theorem fact_fieldOff_42_12 : fieldOff Tryz.prog 42 12 = some 12 := by kernel_rfl
theorem fact_fieldOff_42_2 : fieldOff Tryz.prog 42 2 = some 2 := by kernel_rfl
theorem fact_fieldOff_42_3 : fieldOff Tryz.prog 42 3 = some 3 := by kernel_rfl
theorem fact_fieldOff_42_4 : fieldOff Tryz.prog 42 4 = some 4 := by kernel_rfl
theorem fact_fieldOff_42_5 : fieldOff Tryz.prog 42 5 = some 5 := by kernel_rfl
theorem fact_fieldOff_42_6 : fieldOff Tryz.prog 42 6 = some 6 := by kernel_rfl
theorem fact_fieldOff_42_7 : fieldOff Tryz.prog 42 7 = some 7 := by kernel_rfl
theorem fact_fieldOff_42_8 : fieldOff Tryz.prog 42 8 = some 8 := by kernel_rfl
theorem fact_fieldOff_42_9 : fieldOff Tryz.prog 42 9 = some 9 := by kernel_rfl
theorem fact_fieldOff_45_0 : fieldOff Tryz.prog 45 0 = some 0 := by kernel_rfl
theorem fact_fieldOff_45_1 : fieldOff Tryz.prog 45 1 = some 1 := by kernel_rfl
theorem fact_fieldOff_45_2 : fieldOff Tryz.prog 45 2 = some 2 := by kernel_rfl
theorem fact_fieldOff_45_3 : fieldOff Tryz.prog 45 3 = some 3 := by kernel_rfl
theorem fact_fieldOff_45_4 : fieldOff Tryz.prog 45 4 = some 4 := by kernel_rfl
theorem fact_fieldOff_45_5 : fieldOff Tryz.prog 45 5 = some 17 := by kernel_rfl
theorem fact_fieldOff_45_6 : fieldOff Tryz.prog 45 6 = some 18 := by kernel_rfl
theorem fact_fieldOff_45_7 : fieldOff Tryz.prog 45 7 = some 19 := by kernel_rfl
theorem fact_fieldOff_66_0 : fieldOff Tryz.prog 66 0 = some 0 := by kernel_rfl
theorem fact_fieldOff_66_1 : fieldOff Tryz.prog 66 1 = some 2 := by kernel_rfl
theorem fact_fieldOff_66_2 : fieldOff Tryz.prog 66 2 = some 4 := by kernel_rfl
theorem fact_fieldOff_69_0 : fieldOff Tryz.prog 69 0 = some 0 := by kernel_rfl
theorem fact_fieldOff_69_1 : fieldOff Tryz.prog 69 1 = some 1 := by kernel_rfl
theorem fact_fieldOff_69_2 : fieldOff Tryz.prog 69 2 = some 21 := by kernel_rfl
theorem fact_fieldOff_69_3 : fieldOff Tryz.prog 69 3 = some 22 := by kernel_rfl
theorem fact_fieldOff_69_4 : fieldOff Tryz.prog 69 4 = some 23 := by kernel_rfl
theorem fact_fieldOff_69_5 : fieldOff Tryz.prog 69 5 = some 24 := by kernel_rfl
theorem fact_fieldOff_69_6 : fieldOff Tryz.prog 69 6 = some 25 := by kernel_rfl
theorem fact_fieldOff_81_0 : fieldOff Tryz.prog 81 0 = some 0 := by kernel_rfl
theorem fact_fieldOff_81_1 : fieldOff Tryz.prog 81 1 = some 13 := by kernel_rfl
theorem fact_fieldOff_84_0 : fieldOff Tryz.prog 84 0 = some 0 := by kernel_rfl
theorem fact_fieldOff_84_1 : fieldOff Tryz.prog 84 1 = some 1 := by kernel_rfl
theorem fact_fieldOff_84_2 : fieldOff Tryz.prog 84 2 = some 2 := by kernel_rfl
theorem fact_flatE_42 : flatE Tryz.prog 42 = some [.int, .int, .str, .int, .str, .str, .str, .int, .int, .int, .int, .int, .int] := by kernel_rfl
theorem fact_fnOk_10 : fnOk Tryz.prog 10 = true := by kernel_rfl
theorem fact_fnOk_100 : fnOk Tryz.prog 100 = true := by kernel_rfl
theorem fact_fnOk_101 : fnOk Tryz.prog 101 = true := by kernel_rfl
theorem fact_fnOk_102 : fnOk Tryz.prog 102 = true := by kernel_rfl
theorem fact_fnOk_103 : fnOk Tryz.prog 103 = true := by kernel_rfl
theorem fact_fnOk_11 : fnOk Tryz.prog 11 = true := by kernel_rfl
theorem fact_fnOk_111 : fnOk Tryz.prog 111 = true := by kernel_rfl
theorem fact_fnOk_112 : fnOk Tryz.prog 112 = true := by kernel_rfl
theorem fact_fnOk_113 : fnOk Tryz.prog 113 = true := by kernel_rfl
theorem fact_fnOk_114 : fnOk Tryz.prog 114 = true := by kernel_rfl
theorem fact_fnOk_116 : fnOk Tryz.prog 116 = true := by kernel_rfl
theorem fact_fnOk_12 : fnOk Tryz.prog 12 = true := by kernel_rfl
theorem fact_fnOk_14 : fnOk Tryz.prog 14 = true := by kernel_rfl
theorem fact_fnOk_16 : fnOk Tryz.prog 16 = true := by kernel_rfl
theorem fact_fnOk_17 : fnOk Tryz.prog 17 = true := by kernel_rfl
theorem fact_fnOk_18 : fnOk Tryz.prog 18 = true := by kernel_rfl
theorem fact_fnOk_19 : fnOk Tryz.prog 19 = true := by kernel_rfl
theorem fact_fnOk_20 : fnOk Tryz.prog 20 = true := by kernel_rfl
theorem fact_fnOk_21 : fnOk Tryz.prog 21 = true := by kernel_rfl
theorem fact_fnOk_22 : fnOk Tryz.prog 22 = true := by kernel_rfl
theorem fact_fnOk_23 : fnOk Tryz.prog 23 = true := by kernel_rfl
theorem fact_fnOk_24 : fnOk Tryz.prog 24 = true := by kernel_rfl
theorem fact_fnOk_25 : fnOk Tryz.prog 25 = true := by kernel_rfl
theorem fact_fnOk_26 : fnOk Tryz.prog 26 = true := by kernel_rfl
theorem fact_fnOk_27 : fnOk Tryz.prog 27 = true := by kernel_rfl
theorem fact_fnOk_28 : fnOk Tryz.prog 28 = true := by kernel_rfl
theorem fact_fnOk_29 : fnOk Tryz.prog 29 = true := by kernel_rfl
theorem fact_fnOk_30 : fnOk Tryz.prog 30 = true := by kernel_rfl
theorem fact_fnOk_32 : fnOk Tryz.prog 32 = true := by kernel_rfl
theorem fact_fnOk_34 : fnOk Tryz.prog 34 = true := by kernel_rfl
theorem fact_fnOk_35 : fnOk Tryz.prog 35 = true := by kernel_rfl
theorem fact_fnOk_36 : fnOk Tryz.prog 36 = true := by kernel_rfl
theorem fact_fnOk_37 : fnOk Tryz.prog 37 = true := by kernel_rfl
theorem fact_fnOk_38 : fnOk Tryz.prog 38 = true := by kernel_rfl
theorem fact_fnOk_39 : fnOk Tryz.prog 39 = true := by kernel_rfl
theorem fact_fnOk_40 : fnOk Tryz.prog 40 = true := by kernel_rfl
theorem fact_fnOk_41 : fnOk Tryz.prog 41 = true := by kernel_rfl
theorem fact_fnOk_42 : fnOk Tryz.prog 42 = true := by kernel_rfl
theorem fact_fnOk_43 : fnOk Tryz.prog 43 = true := by kernel_rfl
theorem fact_fnOk_44 : fnOk Tryz.prog 44 = true := by kernel_rfl
theorem fact_fnOk_45 : fnOk Tryz.prog 45 = true := by kernel_rfl
theorem fact_fnOk_46 : fnOk Tryz.prog 46 = true := by kernel_rfl
theorem fact_fnOk_47 : fnOk Tryz.prog 47 = true := by kernel_rfl
theorem fact_fnOk_48 : fnOk Tryz.prog 48 = true := by kernel_rfl
theorem fact_fnOk_49 : fnOk Tryz.prog 49 = true := by kernel_rfl
theorem fact_fnOk_5 : fnOk Tryz.prog 5 = true := by kernel_rfl
theorem fact_fnOk_50 : fnOk Tryz.prog 50 = true := by kernel_rfl
theorem fact_fnOk_51 : fnOk Tryz.prog 51 = true := by kernel_rfl
theorem fact_fnOk_52 : fnOk Tryz.prog 52 = true := by kernel_rfl
theorem fact_fnOk_53 : fnOk Tryz.prog 53 = true := by kernel_rfl
theorem fact_fnOk_54 : fnOk Tryz.prog 54 = true := by kernel_rfl
theorem fact_fnOk_55 : fnOk Tryz.prog 55 = true := by kernel_rfl
theorem fact_fnOk_56 : fnOk Tryz.prog 56 = true := by kernel_rfl
theorem fact_fnOk_57 : fnOk Tryz.prog 57 = true := by kernel_rfl
theorem fact_fnOk_58 : fnOk Tryz.prog 58 = true := by kernel_rfl
theorem fact_fnOk_59 : fnOk Tryz.prog 59 = true := by kernel_rfl
theorem fact_fnOk_60 : fnOk Tryz.prog 60 = true := by kernel_rfl
theorem fact_fnOk_61 : fnOk Tryz.prog 61 = true := by kernel_rfl
theorem fact_fnOk_62 : fnOk Tryz.prog 62 = true := by kernel_rfl
theorem fact_fnOk_63 : fnOk Tryz.prog 63 = true := by kernel_rfl
theorem fact_fnOk_65 : fnOk Tryz.prog 65 = true := by kernel_rfl
theorem fact_fnOk_66 : fnOk Tryz.prog 66 = true := by kernel_rfl
theorem fact_fnOk_67 : fnOk Tryz.prog 67 = true := by kernel_rfl
theorem fact_fnOk_78 : fnOk Tryz.prog 78 = true := by kernel_rfl
theorem fact_fnOk_79 : fnOk Tryz.prog 79 = true := by kernel_rfl
theorem fact_fnOk_8 : fnOk Tryz.prog 8 = true := by kernel_rfl
theorem fact_fnOk_80 : fnOk Tryz.prog 80 = true := by kernel_rfl
theorem fact_fnOk_81 : fnOk Tryz.prog 81 = true := by kernel_rfl
theorem fact_fnOk_82 : fnOk Tryz.prog 82 = true := by kernel_rfl
theorem fact_fnOk_83 : fnOk Tryz.prog 83 = true := by kernel_rfl
theorem fact_fnOk_84 : fnOk Tryz.prog 84 = true := by kernel_rfl
theorem fact_fnOk_85 : fnOk Tryz.prog 85 = true := by kernel_rfl
theorem fact_fnOk_86 : fnOk Tryz.prog 86 = true := by kernel_rfl
theorem fact_fnOk_87 : fnOk Tryz.prog 87 = true := by kernel_rfl
theorem fact_fnOk_88 : fnOk Tryz.prog 88 = true := by kernel_rfl
theorem fact_fnOk_9 : fnOk Tryz.prog 9 = true := by kernel_rfl
theorem fact_fnOk_93 : fnOk Tryz.prog 93 = true := by kernel_rfl
theorem fact_fnOk_94 : fnOk Tryz.prog 94 = true := by kernel_rfl
theorem fact_fnOk_99 : fnOk Tryz.prog 99 = true := by kernel_rfl
theorem fact_rowTy_43 : rowTy Tryz.prog 43 = some (5, 1, 1, [.int .u8 0]) := by kernel_rfl
theorem fact_rowTy_64 : rowTy Tryz.prog 64 = some (43, 1, 24, [.slice none 0 0]) := by kernel_rfl
theorem fact_szO_102 : szO Tryz.prog 102 = some 1 := by kernel_rfl
theorem fact_szO_136 : szO Tryz.prog 136 = some 1 := by kernel_rfl
theorem fact_szO_137 : szO Tryz.prog 137 = some 256 := by kernel_rfl
theorem fact_szO_142 : szO Tryz.prog 142 = some 2 := by kernel_rfl
theorem fact_szO_27 : szO Tryz.prog 27 = some 1 := by kernel_rfl
theorem fact_szO_29 : szO Tryz.prog 29 = some 1 := by kernel_rfl
theorem fact_szO_3 : szO Tryz.prog 3 = some 1 := by kernel_rfl
theorem fact_szO_33 : szO Tryz.prog 33 = some 1 := by kernel_rfl
theorem fact_szO_34 : szO Tryz.prog 34 = some 1 := by kernel_rfl
theorem fact_szO_4 : szO Tryz.prog 4 = some 1 := by kernel_rfl
theorem fact_szO_42 : szO Tryz.prog 42 = some 13 := by kernel_rfl
theorem fact_szO_43 : szO Tryz.prog 43 = some 1 := by kernel_rfl
theorem fact_szO_45 : szO Tryz.prog 45 = some 20 := by kernel_rfl
theorem fact_szO_5 : szO Tryz.prog 5 = some 1 := by kernel_rfl
theorem fact_szO_50 : szO Tryz.prog 50 = some 1 := by kernel_rfl
theorem fact_szO_64 : szO Tryz.prog 64 = some 1 := by kernel_rfl
theorem fact_szO_82 : szO Tryz.prog 82 = some 1 := by kernel_rfl
theorem fact_szO_9 : szO Tryz.prog 9 = some 1 := by kernel_rfl
theorem fact_szO_97 : szO Tryz.prog 97 = some 1 := by kernel_rfl
theorem fact_zeroV_137 : zeroV Tryz.prog 137 = some (.agg #[.int .u8 0, .int .u8 0, .int .u8 0, .int .u8 0, .int .u8 0, .int .u8 0, .int .u8 0, .int .u8 0, .int .u8 0, .int .u8 0, .int .u8 0, .int .u8 0, .int .u8 0, .int .u8 0, .int .u8 0, .int .u8 0, .int .u8 0, .int .u8 0, .int .u8 0, .int .u8 0, .int .u8 0, .int .u8 0, .int .u8 0, .int .u8 0, .int .u8 0, .int .u8 0, .int .u8 0, .int .u8 0, .int .u8 0, .int .u8 0, .int .u8 0, .int .u8 0, .int .u8 0, .int .u8 0, .int .u8 0, .int .u8 0, .int .u8 0, .int .u8 0, .int .u8 0, .int .u8 0, .int .u8 0, .int .u8 0, .int .u8 0, .int .u8 0, .int .u8 0, .int .u8 0, .int .u8 0, .int .u8 0, .int .u8 0, .int .u8 0, .int .u8 0, .int .u8 0, .int .u8 0, .int .u8 0, .int .u8 0, .int .u8 0, .int .u8 0, .int .u8 0, .int .u8 0, .int .u8 0, .int .u8 0, .int .u8 0, .int .u8 0, .int .u8 0, .int .u8 0, .int .u8 0, .int .u8 0, .int .u8 0, .int .u8 0, .int .u8 0, .int .u8 0, .int .u8 0, .int .u8 0, .int .u8 0, .int .u8 0, .int .u8 0, .int .u8 0, .int .u8 0, .int .u8 0, .int .u8 0, .int .u8 0, .int .u8 0, .int .u8 0, .int .u8 0, .int .u8 0, .int .u8 0, .int .u8 0, .int .u8 0, .int .u8 0, .int .u8 0, .int .u8 0, .int .u8 0, .int .u8 0, .int .u8 0, .int .u8 0, .int .u8 0, .int .u8 0, .int .u8 0, .int .u8 0, .int .u8 0, .int .u8 0, .int .u8 0, .int .u8 0, .int .u8 0, .int .u8 0, .int .u8 0, .int .u8 0, .int .u8 0, .int .u8 0, .int .u8 0, .int .u8 0, .int .u8 0, .int .u8 0, .int .u8 0, .int .u8 0, .int .u8 0, .int .u8 0, .int .u8 0, .int .u8 0, .int .u8 0, .int .u8 0, .int .u8 0, .int .u8 0, .int .u8 0, .int .u8 0, .int .u8 0, .int .u8 0, .int .u8 0, .int .u8 0, .int .u8 0, .int .u8 0, .int .u8 0, .int .u8 0, .int .u8 0, .int .u8 0, .int .u8 0, .int .u8 0, .int .u8 0, .int .u8 0, .int .u8 0, .int .u8 0, .int .u8 0, .int .u8 0, .int .u8 0, .int .u8 0, .int .u8 0, .int .u8 0, .int .u8 0, .int .u8 0, .int .u8 0, .int .u8 0, .int .u8 0, .int .u8 0, .int .u8 0, .int .u8 0, .int .u8 0, .int .u8 0, .int .u8 0, .int .u8 0, .int .u8 0, .int .u8 0, .int .u8 0, .int .u8 0, .int .u8 0, .int .u8 0, .int .u8 0, .int .u8 0, .int .u8 0, .int .u8 0, .int .u8 0, .int .u8 0, .int .u8 0, .int .u8 0, .int .u8 0, .int .u8 0, .int .u8 0, .int .u8 0, .int .u8 0, .int .u8 0, .int .u8 0, .int .u8 0, .int .u8 0, .int .u8 0, .int .u8 0, .int .u8 0, .int .u8 0, .int .u8 0, .int .u8 0, .int .u8 0, .int .u8 0, .int .u8 0, .int .u8 0, .int .u8 0, .int .u8 0, .int .u8 0, .int .u8 0, .int .u8 0, .int .u8 0, .int .u8 0, .int .u8 0, .int .u8 0, .int .u8 0, .int .u8 0, .int .u8 0, .int .u8 0, .int .u8 0, .int .u8 0, .int .u8 0, .int .u8 0, .int .u8 0, .int .u8 0, .int .u8 0, .int .u8 0, .int .u8 0, .int .u8 0, .int .u8 0, .int .u8 0, .int .u8 0, .int .u8 0, .int .u8 0, .int .u8 0, .int .u8 0, .int .u8 0, .int .u8 0, .int .u8 0, .int .u8 0, .int .u8 0, .int .u8 0, .int .u8 0, .int .u8 0, .int .u8 0, .int .u8 0, .int .u8 0, .int .u8 0, .int .u8 0, .int .u8 0, .int .u8 0, .int .u8 0, .int .u8 0, .int .u8 0, .int .u8 0, .int .u8 0, .int .u8 0, .int .u8 0, .int .u8 0, .int .u8 0, .int .u8 0, .int .u8 0, .int .u8 0, .int .u8 0, .int .u8 0, .int .u8 0, .int .u8 0, .int .u8 0, .int .u8 0, .int .u8 0]) := by kernel_rfl
theorem fact_zeroV_142 : zeroV Tryz.prog 142 = some (.agg #[.int .u64 0, .string ⟨#[]⟩]) := by kernel_rfl
theorem fact_zeroV_3 : zeroV Tryz.prog 3 = some (.int .i64 0) := by kernel_rfl
theorem fact_zeroV_4 : zeroV Tryz.prog 4 = some (.bool false) := by kernel_rfl
theorem fact_zeroV_42 : zeroV Tryz.prog 42 = some (.agg #[.int .u64 0, .int .u64 0, .string ⟨#[]⟩, .int .u32 0, .string ⟨#[]⟩, .string ⟨#[]⟩, .string ⟨#[]⟩, .int .u32 0, .int .u32 0, .int .u32 0, .int .u64 0, .int .i64 0, .int .i64 0]) := by kernel_rfl
theorem fact_zeroV_45 : zeroV Tryz.prog 45 = some (.agg #[.int .u8 0, .int .u64 0, .string ⟨#[]⟩, .int .u8 0, .int .u64 0, .int .u64 0, .string ⟨#[]⟩, .int .u32 0, .string ⟨#[]⟩, .string ⟨#[]⟩, .string ⟨#[]⟩, .int .u32 0, .int .u32 0, .int .u32 0, .int .u64 0, .int .i64 0, .int .i64 0, .int .u64 0, .slice none 0 0, .int .i64 0]) := by kernel_rfl
theorem fact_zeroV_50 : zeroV Tryz.prog 50 = some (.slice none 0 0) := by kernel_rfl
def F4.r0 : List Oper := [
  oc 3 (.box 36 (.tmp 0)) 0,
  oc 4 (.box 36 (.tmp 1)) 0,
  op 6 (.assign (.const (.bool false))) 4]
def F4.r1 : List Oper := [
  oc 22 (.call ⟨(.value (.func 5)), #[], #[]⟩) 4,
  op 7 (.assign (.tmp 22)) 4]
def F4.r2 : List Oper := [
  ⟨(some 28), (.move (.tmp 2)), 56, "", #[], none⟩,
  ⟨(some 23), (.load 36 (.tmp 3)), 36, "", #[⟨74, .data⟩], none⟩,
  ⟨(some 25), (.load 36 (.tmp 4)), 36, "", #[⟨72, .data⟩], none⟩,
  ⟨(some 24), (.call ⟨(.value (.func 16)), #[(.tmp 23)], #[36]⟩), 3, "", #[⟨1, .chain⟩], none⟩,
  ⟨(some 26), (.call ⟨(.value (.func 16)), #[(.tmp 25)], #[36]⟩), 3, "", #[⟨3, .chain⟩], none⟩,
  ⟨(some 27), (.binOp .add 3 (.tmp 24) (.tmp 26) 3), 3, "", #[], none⟩,
  ⟨(some 29), (.call ⟨(.value (.func 17)), #[(.tmp 28)], #[56]⟩), 3, "", #[⟨6, .chain⟩], none⟩,
  ⟨(some 30), (.binOp .add 3 (.tmp 27) (.tmp 29) 3), 3, "", #[], none⟩,
  ⟨(some 31), (.binOp .gtr 3 (.tmp 30) (.const (.int .i64 8388608)) 3), 4, "", #[], none⟩]
def F4.r3 : List Oper := [
  op 32 (.move (.tmp 7)) 4,
  op 6 (.assign (.tmp 32)) 4]
def F4.r4 : List Oper := [
  od 34 (.load 36 (.tmp 3)) 36,
  oc 35 (.call ⟨(.value (.func 18)), #[(.tmp 34)], #[36]⟩) 59,
  op 33 (.move (.tmp 35)) 59,
  op 36 (.extract (.tmp 33) 0) 27,
  op 37 (.extract (.tmp 33) 1) 30,
  op 8 (.assign (.tmp 36)) 27,
  op 9 (.assign (.tmp 37)) 30]
def F4.r5 : List Oper := [
  od 39 (.load 36 (.tmp 4)) 36,
  oc 40 (.call ⟨(.value (.func 18)), #[(.tmp 39)], #[36]⟩) 59,
  op 38 (.move (.tmp 40)) 59,
  op 41 (.extract (.tmp 38) 0) 27,
  op 42 (.extract (.tmp 38) 1) 30,
  op 10 (.assign (.tmp 41)) 27,
  op 11 (.assign (.tmp 42)) 30]
def F4.r6 : List Oper := [
  od 44 (.load 36 (.tmp 3)) 36,
  oc 45 (.call ⟨(.value (.func 9)), #[(.tmp 44)], #[36]⟩) 31,
  op 43 (.move (.tmp 45)) 31,
  op 46 (.extract (.tmp 43) 0) 29,
  op 47 (.extract (.tmp 43) 1) 30,
  op 12 (.assign (.tmp 46)) 29,
  op 13 (.assign (.tmp 47)) 30]
def F4.r7 : List Oper := [
  od 49 (.load 36 (.tmp 4)) 36,
  oc 50 (.call ⟨(.value (.func 9)), #[(.tmp 49)], #[36]⟩) 31,
  op 48 (.move (.tmp 50)) 31,
  op 51 (.extract (.tmp 48) 0) 29,
  op 52 (.extract (.tmp 48) 1) 30,
  op 14 (.assign (.tmp 51)) 29,
  op 15 (.assign (.tmp 52)) 30]
def F4.r8 : List Oper := [
  op 53 (.move (.tmp 9)) 30,
  op 54 (.move (.tmp 13)) 30,
  op 55 (.binOp .neq 30 (.tmp 53) (.tmp 54) 30) 4,
  op 56 (.move (.tmp 55)) 4,
  og 57 (.move (.tmp 11)) 30 56 false,
  og 58 (.move (.tmp 15)) 30 56 false,
  og 59 (.binOp .neq 30 (.tmp 57) (.tmp 58) 30) 4 56 false,
  op 60 (.pick (.tmp 56) (.const (.bool true)) (.tmp 59)) 4,
  op 61 (.move (.tmp 60)) 4,
  og 62 (.move (.tmp 8)) 27 61 false,
  og 63 (.binOp .eql 27 (.tmp 62) (.const (.pointer none)) 27) 4 61 false,
  og 64 (.move (.tmp 13)) 30 61 false,
  og 65 (.binOp .neq 30 (.tmp 64) (.const (.int .i64 0)) 30) 4 61 false,
  og 66 (.binOp .neq 4 (.tmp 63) (.tmp 65) 4) 4 61 false,
  op 67 (.pick (.tmp 61) (.const (.bool true)) (.tmp 66)) 4,
  op 68 (.move (.tmp 67)) 4,
  og 69 (.move (.tmp 10)) 27 68 false,
  og 70 (.binOp .eql 27 (.tmp 69) (.const (.pointer none)) 27) 4 68 false,
  og 71 (.move (.tmp 15)) 30 68 false,
  og 72 (.binOp .neq 30 (.tmp 71) (.const (.int .i64 0)) 30) 4 68 false,
  og 73 (.binOp .neq 4 (.tmp 70) (.tmp 72) 4) 4 68 false,
  op 74 (.pick (.tmp 68) (.const (.bool true)) (.tmp 73)) 4]
def F4.r9 : List Oper := [
  op 6 (.assign (.const (.bool false))) 4]
def F4.r10 : List Oper := [
  op 75 (.move (.tmp 13)) 30,
  op 76 (.binOp .neq 30 (.tmp 75) (.const (.int .i64 0)) 30) 4,
  op 77 (.move (.tmp 76)) 4,
  og 78 (.move (.tmp 15)) 30 77 false,
  og 79 (.binOp .neq 30 (.tmp 78) (.const (.int .i64 0)) 30) 4 77 false,
  op 80 (.pick (.tmp 77) (.const (.bool true)) (.tmp 79)) 4]
def F4.r11 : List Oper := [
  op 81 (.move (.tmp 7)) 4,
  op 6 (.assign (.tmp 81)) 4]
def F4.r12 : List Oper := [
  op 82 (.move (.tmp 8)) 27,
  op 83 (.move (.tmp 10)) 27,
  op 84 (.build 62 #[(0, (.tmp 82)), (1, (.tmp 83))]) 62,
  op 85 (.move (.tmp 12)) 29,
  op 86 (.move (.tmp 14)) 29,
  op 87 (.build 63 #[(0, (.tmp 85)), (1, (.tmp 86))]) 63,
  op 88 (.build 66 #[(0, (.tmp 84)), (1, (.tmp 87))]) 66,
  oc 89 (.box 66 (.tmp 88)) 61,
  op 16 (.assign (.tmp 89)) 61]
def F4.r13 : List Oper := [
  op 17 (.assign (.const (.int .i64 0))) 3]
def F4.r14 : List Oper := [
  op 90 (.move (.tmp 17)) 3,
  op 91 (.move (.tmp 2)) 56,
  op 92 (.call ⟨(.builtin .len), #[(.tmp 91)], #[56]⟩) 3,
  op 93 (.binOp .lss 3 (.tmp 90) (.tmp 92) 3) 4]
def F4.r16 : List Oper := [
  op 96 (.move (.tmp 16)) 61,
  op 97 (.move (.tmp 2)) 56,
  op 98 (.move (.tmp 17)) 3,
  op 99 (.indexAddr 56 (.tmp 97) (.tmp 98)) 0,
  od 100 (.load 69 (.tmp 99)) 69,
  oc 101 (.call ⟨(.value (.func 19)), #[(.tmp 96), (.tmp 100)], #[61, 69]⟩) 4,
  op 18 (.assign (.tmp 101)) 4]
def F4.r17 : List Oper := [
  op 102 (.move (.tmp 16)) 61,
  oc 103 (.call ⟨(.value (.func 20)), #[(.tmp 102)], #[61]⟩) 4,
  op 19 (.assign (.tmp 103)) 4]
def F4.r18 : List Oper := [
  op 104 (.move (.tmp 18)) 4,
  op 105 (.unOp .not 4 (.tmp 104)) 4,
  op 106 (.move (.tmp 105)) 4,
  og 107 (.move (.tmp 19)) 4 106 false,
  og 108 (.unOp .not 4 (.tmp 107)) 4 106 false,
  op 109 (.pick (.tmp 106) (.const (.bool true)) (.tmp 108)) 4]
def F4.r19 : List Oper := [
  op 6 (.assign (.const (.bool false))) 4]
def F4.r15 : List Oper := [
  op 94 (.move (.tmp 17)) 3,
  op 95 (.binOp .add 3 (.tmp 94) (.const (.int .i64 1)) 3) 3,
  op 17 (.assign (.tmp 95)) 3]
def F4.r20 : List Oper := [
  op 110 (.move (.tmp 16)) 61,
  oc 111 (.call ⟨(.value (.func 21)), #[(.tmp 110), (.const (.int .i64 0))], #[61, 3]⟩) 4,
  op 20 (.assign (.tmp 111)) 4]
def F4.r21 : List Oper := [
  op 112 (.move (.tmp 16)) 61,
  oc 113 (.call ⟨(.value (.func 21)), #[(.tmp 112), (.const (.int .i64 1))], #[61, 3]⟩) 4,
  op 21 (.assign (.tmp 113)) 4]
def F4.r22 : List Oper := [
  op 114 (.move (.tmp 7)) 4,
  op 115 (.move (.tmp 114)) 4,
  og 116 (.move (.tmp 20)) 4 115 true,
  op 117 (.pick (.tmp 115) (.tmp 116) (.const (.bool false))) 4,
  op 118 (.move (.tmp 117)) 4,
  og 119 (.move (.tmp 21)) 4 118 true,
  op 120 (.pick (.tmp 118) (.tmp 119) (.const (.bool false))) 4,
  op 6 (.assign (.tmp 120)) 4]
def F4.t15 : Cd := (.region 15 F4.r15.toArray false)
theorem F4.t15_eq {θ : Tag (F4.t15, Q, e, w)} : cwE P F4.t15 Q e w θ = cwE P (.region 15 F4.r15.toArray false) Q e w := rfl
def F4.t16 : Cd := (.seq (.block 1 (.seq (.region 16 F4.r16.toArray false) (.seq (.region 17 F4.r17.toArray false) (.seq (.region 18 F4.r18.toArray false) (.cond (.tmp 109) (.seq (.region 19 F4.r19.toArray false) .ret) .skip))))) F4.t15)
theorem F4.t16_eq {θ : Tag (F4.t16, Q, e, w)} : cwE P F4.t16 Q e w θ = cwE P (.seq (.block 1 (.seq (.region 16 F4.r16.toArray false) (.seq (.region 17 F4.r17.toArray false) (.seq (.region 18 F4.r18.toArray false) (.cond (.tmp 109) (.seq (.region 19 F4.r19.toArray false) .ret) .skip))))) F4.t15) Q e w := rfl
def F4.t20 : Cd := (.seq (.region 20 F4.r20.toArray false) (.seq (.region 21 F4.r21.toArray false) (.seq (.region 22 F4.r22.toArray false) .ret)))
theorem F4.t20_eq {θ : Tag (F4.t20, Q, e, w)} : cwE P F4.t20 Q e w θ = cwE P (.seq (.region 20 F4.r20.toArray false) (.seq (.region 21 F4.r21.toArray false) (.seq (.region 22 F4.r22.toArray false) .ret))) Q e w := rfl
def F4.t12 : Cd := (.seq (.region 12 F4.r12.toArray false) (.seq (.seq (.region 13 F4.r13.toArray false) (.block 0 (.loop (.seq (.seq (.region 14 F4.r14.toArray false) (.cond (.tmp 93) .skip (.exit 0))) F4.t16)))) F4.t20))
theorem F4.t12_eq {θ : Tag (F4.t12, Q, e, w)} : cwE P F4.t12 Q e w θ = cwE P (.seq (.region 12 F4.r12.toArray false) (.seq (.seq (.region 13 F4.r13.toArray false) (.block 0 (.loop (.seq (.seq (.region 14 F4.r14.toArray false) (.cond (.tmp 93) .skip (.exit 0))) F4.t16)))) F4.t20)) Q e w := rfl
def F4.t10 : Cd := (.seq (.seq (.region 10 F4.r10.toArray false) (.cond (.tmp 80) (.seq (.region 11 F4.r11.toArray false) .ret) .skip)) F4.t12)
theorem F4.t10_eq {θ : Tag (F4.t10, Q, e, w)} : cwE P F4.t10 Q e w θ = cwE P (.seq (.seq (.region 10 F4.r10.toArray false) (.cond (.tmp 80) (.seq (.region 11 F4.r11.toArray false) .ret) .skip)) F4.t12) Q e w := rfl
def F4.t4 : Cd := (.seq (.region 4 F4.r4.toArray false) (.seq (.region 5 F4.r5.toArray false) (.seq (.region 6 F4.r6.toArray false) (.seq (.region 7 F4.r7.toArray false) (.seq (.seq (.region 8 F4.r8.toArray false) (.cond (.tmp 74) (.seq (.region 9 F4.r9.toArray false) .ret) .skip)) F4.t10)))))
theorem F4.t4_eq {θ : Tag (F4.t4, Q, e, w)} : cwE P F4.t4 Q e w θ = cwE P (.seq (.region 4 F4.r4.toArray false) (.seq (.region 5 F4.r5.toArray false) (.seq (.region 6 F4.r6.toArray false) (.seq (.region 7 F4.r7.toArray false) (.seq (.seq (.region 8 F4.r8.toArray false) (.cond (.tmp 74) (.seq (.region 9 F4.r9.toArray false) .ret) .skip)) F4.t10))))) Q e w := rfl
def F4.code : Cd := (.seq (.region 0 F4.r0.toArray false) (.seq (.region 1 F4.r1.toArray false) (.seq (.seq (.region 2 F4.r2.toArray true) (.cond (.tmp 31) (.seq (.region 3 F4.r3.toArray false) .ret) .skip)) F4.t4)))
theorem F4.calls (hn : args.size ≤ 121) (h : cwE Tryz.prog F4.code (fnP Tryz.prog #[(.tmp 6)] R) (entry args) w) : Calls Tryz.prog 4 args w R :=
  calls_of_cwE (types := Tryz.prog.types) follows Tryz.func4 F4.code rfl (by kernel_rfl) hn h
def F5.r0 : List Oper := [
  op 0 (.assign (.const (.bool false))) 4]
def F5.r1 : List Oper := [
  oc 19 (.call ⟨(.value (.func 8)), #[(.const (.int .i64 3))], #[3]⟩) 27,
  op 1 (.assign (.tmp 19)) 27]
def F5.r2 : List Oper := [
  op 20 (.move (.tmp 1)) 27,
  op 21 (.binOp .eql 27 (.tmp 20) (.const (.pointer none)) 27) 4]
def F5.r3 : List Oper := [
  op 0 (.assign (.const (.bool false))) 4]
def F5.r4 : List Oper := [
  op 22 (.move (.tmp 1)) 27,
  oc 23 (.call ⟨(.value (.func 22)), #[(.tmp 22)], #[27]⟩) 34,
  op 2 (.assign (.tmp 23)) 34]
def F5.r5 : List Oper := [
  op 25 (.move (.tmp 1)) 27,
  oc 26 (.call ⟨(.value (.func 23)), #[(.const (.int .u64 1)), (.const (.string { data := #[97] })), (.const (.int .u32 2147484096))], #[34, 9, 33]⟩) 45,
  oc 27 (.call ⟨(.value (.func 10)), #[(.tmp 25), (.tmp 26)], #[27, 45]⟩) 37,
  op 24 (.move (.tmp 27)) 37,
  op 28 (.extract (.tmp 24) 0) 34,
  op 29 (.extract (.tmp 24) 1) 30,
  op 3 (.assign (.tmp 28)) 34,
  op 4 (.assign (.tmp 29)) 30]
def F5.r6 : List Oper := [
  op 31 (.move (.tmp 1)) 27,
  oc 32 (.call ⟨(.value (.func 23)), #[(.const (.int .u64 2)), (.const (.string { data := #[98] })), (.const (.int .u32 384))], #[34, 9, 33]⟩) 45,
  oc 33 (.call ⟨(.value (.func 10)), #[(.tmp 31), (.tmp 32)], #[27, 45]⟩) 37,
  op 30 (.move (.tmp 33)) 37,
  op 34 (.extract (.tmp 30) 0) 34,
  op 35 (.extract (.tmp 30) 1) 30,
  op 5 (.assign (.tmp 34)) 34,
  op 6 (.assign (.tmp 35)) 30]
def F5.r7 : List Oper := [
  op 37 (.move (.tmp 1)) 27,
  oc 38 (.call ⟨(.value (.func 23)), #[(.const (.int .u64 2)), (.const (.string { data := #[98] })), (.const (.int .u32 384))], #[34, 9, 33]⟩) 45,
  oc 39 (.call ⟨(.value (.func 10)), #[(.tmp 37), (.tmp 38)], #[27, 45]⟩) 37,
  op 36 (.move (.tmp 39)) 37,
  op 40 (.extract (.tmp 36) 0) 34,
  op 41 (.extract (.tmp 36) 1) 30,
  op 7 (.assign (.tmp 40)) 34,
  op 8 (.assign (.tmp 41)) 30]
def F5.r8 : List Oper := [
  op 43 (.move (.tmp 1)) 27,
  oc 44 (.call ⟨(.value (.func 23)), #[(.const (.int .u64 2)), (.const (.string { data := #[99] })), (.const (.int .u32 384))], #[34, 9, 33]⟩) 45,
  oc 45 (.call ⟨(.value (.func 10)), #[(.tmp 43), (.tmp 44)], #[27, 45]⟩) 37,
  op 42 (.move (.tmp 45)) 37,
  op 46 (.extract (.tmp 42) 0) 34,
  op 47 (.extract (.tmp 42) 1) 30,
  op 9 (.assign (.tmp 46)) 34,
  op 10 (.assign (.tmp 47)) 30]
def F5.r9 : List Oper := [
  op 48 (.move (.tmp 2)) 34,
  op 49 (.binOp .neq 34 (.tmp 48) (.const (.int .u64 2)) 34) 4,
  op 50 (.move (.tmp 49)) 4,
  og 51 (.move (.tmp 3)) 34 50 false,
  og 52 (.binOp .neq 34 (.tmp 51) (.const (.int .u64 2)) 34) 4 50 false,
  op 53 (.pick (.tmp 50) (.const (.bool true)) (.tmp 52)) 4,
  op 54 (.move (.tmp 53)) 4,
  og 55 (.move (.tmp 5)) 34 54 false,
  og 56 (.binOp .neq 34 (.tmp 55) (.const (.int .u64 3)) 34) 4 54 false,
  op 57 (.pick (.tmp 54) (.const (.bool true)) (.tmp 56)) 4,
  op 58 (.move (.tmp 57)) 4,
  og 59 (.move (.tmp 4)) 30 58 false,
  og 60 (.binOp .neq 30 (.tmp 59) (.const (.int .i64 0)) 30) 4 58 false,
  op 61 (.pick (.tmp 58) (.const (.bool true)) (.tmp 60)) 4,
  op 62 (.move (.tmp 61)) 4,
  og 63 (.move (.tmp 6)) 30 62 false,
  og 64 (.binOp .neq 30 (.tmp 63) (.const (.int .i64 0)) 30) 4 62 false,
  op 65 (.pick (.tmp 62) (.const (.bool true)) (.tmp 64)) 4,
  op 66 (.move (.tmp 65)) 4,
  og 67 (.move (.tmp 8)) 30 66 false,
  og 68 (.binOp .neq 30 (.tmp 67) (.const (.int .i64 82)) 30) 4 66 false,
  op 69 (.pick (.tmp 66) (.const (.bool true)) (.tmp 68)) 4,
  op 70 (.move (.tmp 69)) 4,
  og 71 (.move (.tmp 10)) 30 70 false,
  og 72 (.binOp .neq 30 (.tmp 71) (.const (.int .i64 83)) 30) 4 70 false,
  op 73 (.pick (.tmp 70) (.const (.bool true)) (.tmp 72)) 4]
def F5.r10 : List Oper := [
  op 0 (.assign (.const (.bool false))) 4]
def F5.r11 : List Oper := [
  op 75 (.move (.tmp 1)) 27,
  oc 76 (.buildSlice 43 6 #[(0, (.const (.int .u8 1))), (1, (.const (.int .u8 2))), (2, (.const (.int .u8 3))), (3, (.const (.int .u8 4))), (4, (.const (.int .u8 5))), (5, (.const (.int .u8 6)))]) 43,
  op 77 (.build 45 #[(0, (.const (.int .u8 6))), (1, (.const (.int .u64 3))), (5, (.const (.int .u64 250))), (6, (.tmp 76))]) 45,
  oc 78 (.call ⟨(.value (.func 10)), #[(.tmp 75), (.tmp 77)], #[27, 45]⟩) 37,
  op 74 (.move (.tmp 78)) 37,
  op 79 (.extract (.tmp 74) 0) 34,
  op 80 (.extract (.tmp 74) 1) 30,
  op 11 (.assign (.tmp 79)) 34,
  op 12 (.assign (.tmp 80)) 30]
def F5.r12 : List Oper := [
  op 82 (.move (.tmp 1)) 27,
  oc 83 (.buildSlice 43 7 #[(0, (.const (.int .u8 1))), (1, (.const (.int .u8 2))), (2, (.const (.int .u8 3))), (3, (.const (.int .u8 4))), (4, (.const (.int .u8 5))), (5, (.const (.int .u8 6))), (6, (.const (.int .u8 7)))]) 43,
  op 84 (.build 45 #[(0, (.const (.int .u8 6))), (1, (.const (.int .u64 3))), (5, (.const (.int .u64 250))), (6, (.tmp 83))]) 45,
  oc 85 (.call ⟨(.value (.func 10)), #[(.tmp 82), (.tmp 84)], #[27, 45]⟩) 37,
  op 81 (.move (.tmp 85)) 37,
  op 86 (.extract (.tmp 81) 0) 34,
  op 87 (.extract (.tmp 81) 1) 30,
  op 13 (.assign (.tmp 86)) 34,
  op 14 (.assign (.tmp 87)) 30]
def F5.r13 : List Oper := [
  op 88 (.move (.tmp 1)) 27,
  oc 89 (.call ⟨(.value (.func 24)), #[(.tmp 88), (.const (.int .u64 3)), (.const (.int .u64 248)), (.const (.int .i64 4))], #[27, 34, 34, 3]⟩) 43,
  op 15 (.assign (.tmp 89)) 43]
def F5.r14 : List Oper := [
  op 91 (.move (.tmp 1)) 27,
  oc 92 (.call ⟨(.value (.func 25)), #[(.tmp 91), (.const (.int .u64 3))], #[27, 34]⟩) 75,
  op 90 (.move (.tmp 92)) 75,
  op 93 (.extract (.tmp 90) 0) 42,
  op 94 (.extract (.tmp 90) 1) 4,
  oc 16 (.alloc 42) 0,
  ⟨none, (.store 42 (.tmp 16) (.tmp 93)), 0, "", #[⟨0, .chain⟩], none⟩,
  op 17 (.assign (.tmp 94)) 4]
def F5.r15 : List Oper := [
  op 95 (.move (.tmp 1)) 27,
  oc 96 (.call ⟨(.value (.func 26)), #[(.tmp 95)], #[27]⟩) 3,
  op 18 (.assign (.tmp 96)) 3]
def F5.r16 : List Oper := [
  op 97 (.move (.tmp 12)) 30,
  op 98 (.binOp .eql 30 (.tmp 97) (.const (.int .i64 0)) 30) 4,
  op 99 (.move (.tmp 98)) 4,
  og 100 (.move (.tmp 14)) 30 99 true,
  og 101 (.binOp .eql 30 (.tmp 100) (.const (.int .i64 84)) 30) 4 99 true,
  op 102 (.pick (.tmp 99) (.tmp 101) (.const (.bool false))) 4,
  op 103 (.move (.tmp 102)) 4,
  og 104 (.move (.tmp 15)) 43 103 true,
  ⟨(some 105), (.convert 43 9 (.tmp 104)), 9, "", #[⟨0, .data⟩], (some (103, true))⟩,
  og 106 (.binOp .eql 9 (.tmp 105) (.const (.string { data := #[0, 0, 1, 2] })) 9) 4 103 true,
  op 107 (.pick (.tmp 103) (.tmp 106) (.const (.bool false))) 4,
  op 108 (.move (.tmp 107)) 4,
  og 109 (.move (.tmp 17)) 4 108 true,
  op 110 (.pick (.tmp 108) (.tmp 109) (.const (.bool false))) 4,
  op 111 (.move (.tmp 110)) 4,
  og 112 (.fieldAddr 42 (.tmp 16) 10) 0 111 true,
  ⟨(some 113), (.load 34 (.tmp 112)), 34, "", #[⟨0, .data⟩], (some (111, true))⟩,
  og 114 (.binOp .eql 34 (.tmp 113) (.const (.int .u64 256)) 34) 4 111 true,
  op 115 (.pick (.tmp 111) (.tmp 114) (.const (.bool false))) 4,
  op 116 (.move (.tmp 115)) 4,
  og 117 (.fieldAddr 42 (.tmp 16) 1) 0 116 true,
  ⟨(some 118), (.load 34 (.tmp 117)), 34, "", #[⟨0, .data⟩], (some (116, true))⟩,
  og 119 (.binOp .eql 34 (.tmp 118) (.const (.int .u64 2)) 34) 4 116 true,
  op 120 (.pick (.tmp 116) (.tmp 119) (.const (.bool false))) 4,
  op 121 (.move (.tmp 120)) 4,
  og 122 (.fieldAddr 42 (.tmp 16) 2) 0 121 true,
  ⟨(some 123), (.load 9 (.tmp 122)), 9, "", #[⟨0, .data⟩], (some (121, true))⟩,
  og 124 (.binOp .eql 9 (.tmp 123) (.const (.string { data := #[98] })) 9) 4 121 true,
  op 125 (.pick (.tmp 121) (.tmp 124) (.const (.bool false))) 4,
  op 126 (.move (.tmp 125)) 4,
  og 127 (.move (.tmp 18)) 3 126 true,
  og 128 (.binOp .eql 3 (.tmp 127) (.const (.int .i64 3)) 3) 4 126 true,
  op 129 (.pick (.tmp 126) (.tmp 128) (.const (.bool false))) 4,
  op 0 (.assign (.tmp 129)) 4]
def F5.t11 : Cd := (.seq (.region 11 F5.r11.toArray false) (.seq (.region 12 F5.r12.toArray false) (.seq (.region 13 F5.r13.toArray false) (.seq (.region 14 F5.r14.toArray false) (.seq (.region 15 F5.r15.toArray false) (.seq (.region 16 F5.r16.toArray false) .ret))))))
theorem F5.t11_eq {θ : Tag (F5.t11, Q, e, w)} : cwE P F5.t11 Q e w θ = cwE P (.seq (.region 11 F5.r11.toArray false) (.seq (.region 12 F5.r12.toArray false) (.seq (.region 13 F5.r13.toArray false) (.seq (.region 14 F5.r14.toArray false) (.seq (.region 15 F5.r15.toArray false) (.seq (.region 16 F5.r16.toArray false) .ret)))))) Q e w := rfl
def F5.t4 : Cd := (.seq (.region 4 F5.r4.toArray false) (.seq (.region 5 F5.r5.toArray false) (.seq (.region 6 F5.r6.toArray false) (.seq (.region 7 F5.r7.toArray false) (.seq (.region 8 F5.r8.toArray false) (.seq (.seq (.region 9 F5.r9.toArray false) (.cond (.tmp 73) (.seq (.region 10 F5.r10.toArray false) .ret) .skip)) F5.t11))))))
theorem F5.t4_eq {θ : Tag (F5.t4, Q, e, w)} : cwE P F5.t4 Q e w θ = cwE P (.seq (.region 4 F5.r4.toArray false) (.seq (.region 5 F5.r5.toArray false) (.seq (.region 6 F5.r6.toArray false) (.seq (.region 7 F5.r7.toArray false) (.seq (.region 8 F5.r8.toArray false) (.seq (.seq (.region 9 F5.r9.toArray false) (.cond (.tmp 73) (.seq (.region 10 F5.r10.toArray false) .ret) .skip)) F5.t11)))))) Q e w := rfl
def F5.code : Cd := (.seq (.region 0 F5.r0.toArray false) (.seq (.region 1 F5.r1.toArray false) (.seq (.seq (.region 2 F5.r2.toArray false) (.cond (.tmp 21) (.seq (.region 3 F5.r3.toArray false) .ret) .skip)) F5.t4)))
theorem F5.calls (hn : args.size ≤ 130) (h : cwE Tryz.prog F5.code (fnP Tryz.prog #[(.tmp 0)] R) (entry args) w) : Calls Tryz.prog 5 args w R :=
  calls_of_cwE (types := Tryz.prog.types) follows Tryz.func5 F5.code rfl (by kernel_rfl) hn h
def F6.r0 : List Oper := [
  op 4 (.assign (.const (.int .i64 0))) 3]
def F6.r1 : List Oper := [
  op 5 (.assign (.const (.int .i64 0))) 3]
def F6.r2 : List Oper := [
  op 6 (.move (.tmp 5)) 3,
  op 7 (.move (.tmp 0)) 22,
  op 8 (.call ⟨(.builtin .len), #[(.tmp 7)], #[22]⟩) 3,
  op 9 (.binOp .lss 3 (.tmp 6) (.tmp 8) 3) 4,
  op 10 (.move (.tmp 9)) 4,
  og 11 (.move (.tmp 1)) 3 10 true,
  og 12 (.binOp .leq 3 (.tmp 11) (.const (.int .i64 8388608)) 3) 4 10 true,
  op 13 (.pick (.tmp 10) (.tmp 12) (.const (.bool false))) 4]
def F6.r4 : List Oper := [
  op 16 (.move (.tmp 1)) 3,
  op 17 (.move (.tmp 0)) 22,
  op 18 (.move (.tmp 5)) 3,
  op 19 (.indexAddr 22 (.tmp 17) (.tmp 18)) 0,
  od 20 (.load 45 (.tmp 19)) 45,
  oc 21 (.call ⟨(.value (.func 27)), #[(.tmp 20)], #[45]⟩) 3,
  op 22 (.binOp .add 3 (.tmp 16) (.tmp 21) 3) 3,
  op 1 (.assign (.tmp 22)) 3]
def F6.r3 : List Oper := [
  op 14 (.move (.tmp 5)) 3,
  op 15 (.binOp .add 3 (.tmp 14) (.const (.int .i64 1)) 3) 3,
  op 5 (.assign (.tmp 15)) 3]
def F6.r5 : List Oper := [
  op 23 (.move (.tmp 1)) 3,
  op 4 (.assign (.tmp 23)) 3]
def F6.t3 : Cd := (.region 3 F6.r3.toArray false)
theorem F6.t3_eq {θ : Tag (F6.t3, Q, e, w)} : cwE P F6.t3 Q e w θ = cwE P (.region 3 F6.r3.toArray false) Q e w := rfl
def F6.t4 : Cd := (.seq (.block 1 (.region 4 F6.r4.toArray false)) F6.t3)
theorem F6.t4_eq {θ : Tag (F6.t4, Q, e, w)} : cwE P F6.t4 Q e w θ = cwE P (.seq (.block 1 (.region 4 F6.r4.toArray false)) F6.t3) Q e w := rfl
def F6.t5 : Cd := (.seq (.region 5 F6.r5.toArray false) .ret)
theorem F6.t5_eq {θ : Tag (F6.t5, Q, e, w)} : cwE P F6.t5 Q e w θ = cwE P (.seq (.region 5 F6.r5.toArray false) .ret) Q e w := rfl
def F6.code : Cd := (.seq (.region 0 F6.r0.toArray false) (.seq (.seq (.region 1 F6.r1.toArray false) (.block 0 (.loop (.seq (.seq (.region 2 F6.r2.toArray false) (.cond (.tmp 13) .skip (.exit 0))) F6.t4)))) F6.t5))
theorem F6.calls (hn : args.size ≤ 24) (h : cwE Tryz.prog F6.code (fnP Tryz.prog #[(.tmp 4)] R) (entry args) w) : Calls Tryz.prog 6 args w R :=
  calls_of_cwE (types := Tryz.prog.types) follows Tryz.func6 F6.code rfl (by kernel_rfl) hn h
def F8.r0 : List Oper := [
  op 2 (.assign (.const (.pointer none))) 27]
def F8.r1 : List Oper := [
  op 6 (.move (.tmp 0)) 3,
  op 7 (.build 36 #[(8, (.tmp 6)), (3, (.const (.int .u32 493))), (1, (.const (.string { data := #[97, 110, 110] }))), (2, (.const (.string { data := #[115, 116, 97, 102, 102] })))]) 36,
  oc 8 (.call ⟨(.value (.func 18)), #[(.tmp 7)], #[36]⟩) 59,
  op 5 (.move (.tmp 8)) 59,
  op 9 (.extract (.tmp 5) 0) 27,
  op 10 (.extract (.tmp 5) 1) 30,
  op 3 (.assign (.tmp 9)) 27,
  op 4 (.assign (.tmp 10)) 30]
def F8.r2 : List Oper := [
  op 11 (.move (.tmp 4)) 30,
  op 12 (.binOp .neq 30 (.tmp 11) (.const (.int .i64 0)) 30) 4,
  op 13 (.move (.tmp 12)) 4,
  og 14 (.move (.tmp 3)) 27 13 false,
  og 15 (.binOp .eql 27 (.tmp 14) (.const (.pointer none)) 27) 4 13 false,
  op 16 (.pick (.tmp 13) (.const (.bool true)) (.tmp 15)) 4]
def F8.r3 : List Oper := [
  op 2 (.assign (.const (.pointer none))) 27]
def F8.r4 : List Oper := [
  op 17 (.move (.tmp 3)) 27,
  op 2 (.assign (.tmp 17)) 27]
def F8.t4 : Cd := (.seq (.region 4 F8.r4.toArray false) .ret)
theorem F8.t4_eq {θ : Tag (F8.t4, Q, e, w)} : cwE P F8.t4 Q e w θ = cwE P (.seq (.region 4 F8.r4.toArray false) .ret) Q e w := rfl
def F8.code : Cd := (.seq (.region 0 F8.r0.toArray false) (.seq (.region 1 F8.r1.toArray false) (.seq (.seq (.region 2 F8.r2.toArray false) (.cond (.tmp 16) (.seq (.region 3 F8.r3.toArray false) .ret) .skip)) F8.t4)))
theorem F8.calls (hn : args.size ≤ 18) (h : cwE Tryz.prog F8.code (fnP Tryz.prog #[(.tmp 2)] R) (entry args) w) : Calls Tryz.prog 8 args w R :=
  calls_of_cwE (types := Tryz.prog.types) follows Tryz.func8 F8.code rfl (by kernel_rfl) hn h
def F9.r0 : List Oper := [
  oc 1 (.box 36 (.tmp 0)) 0,
  op 2 (.assign (.const (.pointer none))) 29,
  op 3 (.assign (.const (.int .i64 0))) 30]
def F9.r1 : List Oper := [
  op 7 (.fieldAddr 36 (.tmp 1) 1) 0,
  od 8 (.load 9 (.tmp 7)) 9,
  oc 9 (.call ⟨(.value (.func 28)), #[(.tmp 8)], #[9]⟩) 4,
  op 4 (.assign (.tmp 9)) 4]
def F9.r2 : List Oper := [
  op 10 (.fieldAddr 36 (.tmp 1) 2) 0,
  od 11 (.load 9 (.tmp 10)) 9,
  oc 12 (.call ⟨(.value (.func 28)), #[(.tmp 11)], #[9]⟩) 4,
  op 5 (.assign (.tmp 12)) 4]
def F9.r3 : List Oper := [
  op 13 (.fieldAddr 36 (.tmp 1) 8) 0,
  od 14 (.load 3 (.tmp 13)) 3,
  op 15 (.binOp .lss 3 (.tmp 14) (.const (.int .i64 1)) 3) 4,
  op 16 (.move (.tmp 15)) 4,
  og 17 (.fieldAddr 36 (.tmp 1) 8) 0 16 false,
  ⟨(some 18), (.load 3 (.tmp 17)), 3, "", #[⟨0, .data⟩], (some (16, false))⟩,
  og 19 (.binOp .gtr 3 (.tmp 18) (.const (.int .i64 4096)) 3) 4 16 false,
  op 20 (.pick (.tmp 16) (.const (.bool true)) (.tmp 19)) 4,
  op 21 (.move (.tmp 20)) 4,
  og 22 (.fieldAddr 36 (.tmp 1) 3) 0 21 false,
  ⟨(some 23), (.load 33 (.tmp 22)), 33, "", #[⟨0, .data⟩], (some (21, false))⟩,
  og 24 (.binOp .gtr 33 (.tmp 23) (.const (.int .u32 511)) 33) 4 21 false,
  op 25 (.pick (.tmp 21) (.const (.bool true)) (.tmp 24)) 4,
  op 26 (.move (.tmp 25)) 4,
  og 27 (.move (.tmp 4)) 4 26 false,
  og 28 (.unOp .not 4 (.tmp 27)) 4 26 false,
  op 29 (.pick (.tmp 26) (.const (.bool true)) (.tmp 28)) 4,
  op 30 (.move (.tmp 29)) 4,
  og 31 (.move (.tmp 5)) 4 30 false,
  og 32 (.unOp .not 4 (.tmp 31)) 4 30 false,
  op 33 (.pick (.tmp 30) (.const (.bool true)) (.tmp 32)) 4,
  op 34 (.move (.tmp 33)) 4,
  og 35 (.fieldAddr 36 (.tmp 1) 1) 0 34 false,
  ⟨(some 36), (.load 9 (.tmp 35)), 9, "", #[⟨0, .data⟩], (some (34, false))⟩,
  og 37 (.binOp .eql 9 (.tmp 36) (.const (.string { data := #[] })) 9) 4 34 false,
  op 38 (.pick (.tmp 34) (.const (.bool true)) (.tmp 37)) 4,
  op 39 (.move (.tmp 38)) 4,
  og 40 (.fieldAddr 36 (.tmp 1) 2) 0 39 false,
  ⟨(some 41), (.load 9 (.tmp 40)), 9, "", #[⟨0, .data⟩], (some (39, false))⟩,
  og 42 (.binOp .eql 9 (.tmp 41) (.const (.string { data := #[] })) 9) 4 39 false,
  op 43 (.pick (.tmp 39) (.const (.bool true)) (.tmp 42)) 4]
def F9.r4 : List Oper := [
  op 2 (.assign (.const (.pointer none))) 29,
  op 3 (.assign (.const (.int .i64 1))) 30]
def F9.r5 : List Oper := [
  op 44 (.fieldAddr 36 (.tmp 1) 3) 0,
  od 45 (.load 33 (.tmp 44)) 33,
  op 46 (.binOp .or 33 (.const (.int .u32 2147483648)) (.tmp 45) 33) 33,
  op 47 (.fieldAddr 36 (.tmp 1) 1) 0,
  od 48 (.load 9 (.tmp 47)) 9,
  op 49 (.fieldAddr 36 (.tmp 1) 2) 0,
  od 50 (.load 9 (.tmp 49)) 9,
  op 51 (.fieldAddr 36 (.tmp 1) 1) 0,
  od 52 (.load 9 (.tmp 51)) 9,
  op 53 (.build 42 #[(0, (.const (.int .u64 1))), (1, (.const (.int .u64 1))), (2, (.const (.string { data := #[47] }))), (3, (.tmp 46)), (4, (.tmp 48)), (5, (.tmp 50)), (6, (.tmp 52))]) 42,
  oc 6 (.alloc 42) 0,
  ⟨none, (.store 42 (.tmp 6) (.tmp 53)), 0, "", #[⟨0, .chain⟩], none⟩]
def F9.r6 : List Oper := [
  op 54 (.fieldAddr 36 (.tmp 1) 8) 0,
  od 55 (.load 3 (.tmp 54)) 3,
  od 56 (.load 42 (.tmp 6)) 42,
  op 57 (.build 81 #[(0, (.tmp 56))]) 81,
  oc 58 (.buildSlice 82 1 #[(0, (.tmp 57))]) 82,
  op 59 (.build 84 #[(0, (.tmp 55)), (1, (.const (.int .u64 2))), (2, (.tmp 58))]) 84,
  oc 60 (.box 84 (.tmp 59)) 29,
  op 2 (.assign (.tmp 60)) 29,
  op 3 (.assign (.const (.int .i64 0))) 30]
def F9.t5 : Cd := (.seq (.region 5 F9.r5.toArray false) (.seq (.region 6 F9.r6.toArray false) .ret))
theorem F9.t5_eq {θ : Tag (F9.t5, Q, e, w)} : cwE P F9.t5 Q e w θ = cwE P (.seq (.region 5 F9.r5.toArray false) (.seq (.region 6 F9.r6.toArray false) .ret)) Q e w := rfl
def F9.code : Cd := (.seq (.region 0 F9.r0.toArray false) (.seq (.region 1 F9.r1.toArray false) (.seq (.region 2 F9.r2.toArray false) (.seq (.seq (.region 3 F9.r3.toArray false) (.cond (.tmp 43) (.seq (.region 4 F9.r4.toArray false) .ret) .skip)) F9.t5))))
theorem F9.calls (hn : args.size ≤ 61) (h : cwE Tryz.prog F9.code (fnP Tryz.prog #[(.tmp 2), (.tmp 3)] R) (entry args) w) : Calls Tryz.prog 9 args w R :=
  calls_of_cwE (types := Tryz.prog.types) follows Tryz.func9 F9.code rfl (by kernel_rfl) hn h
def F10.r0 : List Oper := [
  oc 3 (.box 45 (.tmp 1)) 0,
  op 4 (.assign (.const (.int .u64 0))) 34,
  op 5 (.assign (.const (.int .i64 0))) 30]
def F10.r1 : List Oper := [
  op 8 (.fieldAddr 45 (.tmp 3) 0) 0,
  od 9 (.load 39 (.tmp 8)) 39]
def F10.r3 : List Oper := [
  op 11 (.binOp .eql 39 (.tmp 9) (.const (.int .u8 1)) 39) 4,
  op 10 (.assign (.tmp 11)) 4]
def F10.r4 : List Oper := [
  op 12 (.binOp .eql 39 (.tmp 9) (.const (.int .u8 2)) 39) 4,
  op 10 (.assign (.tmp 12)) 4]
def F10.r5 : List Oper := [
  op 13 (.binOp .eql 39 (.tmp 9) (.const (.int .u8 3)) 39) 4,
  op 10 (.assign (.tmp 13)) 4]
def F10.r6 : List Oper := [
  op 14 (.move (.tmp 0)) 27,
  od 15 (.load 45 (.tmp 3)) 45,
  oc 16 (.call ⟨(.value (.func 29)), #[(.tmp 14), (.tmp 15)], #[27, 45]⟩) 37,
  op 17 (.extract (.tmp 16) 0) 34,
  op 18 (.extract (.tmp 16) 1) 30,
  op 4 (.assign (.tmp 17)) 34,
  op 5 (.assign (.tmp 18)) 30]
def F10.r7 : List Oper := [
  op 20 (.binOp .eql 39 (.tmp 9) (.const (.int .u8 4)) 39) 4,
  op 19 (.assign (.tmp 20)) 4]
def F10.r8 : List Oper := [
  op 21 (.binOp .eql 39 (.tmp 9) (.const (.int .u8 5)) 39) 4,
  op 19 (.assign (.tmp 21)) 4]
def F10.r9 : List Oper := [
  op 22 (.binOp .eql 39 (.tmp 9) (.const (.int .u8 6)) 39) 4,
  op 19 (.assign (.tmp 22)) 4]
def F10.r10 : List Oper := [
  op 23 (.binOp .eql 39 (.tmp 9) (.const (.int .u8 7)) 39) 4,
  op 19 (.assign (.tmp 23)) 4]
def F10.r2 : List Oper := [
  op 4 (.assign (.const (.int .u64 0))) 34,
  op 5 (.assign (.const (.int .i64 1))) 30]
def F10.r11 : List Oper := [
  op 24 (.move (.tmp 0)) 27,
  op 25 (.nilCheck (.tmp 24)) 0,
  op 26 (.fieldAddr 100 (.tmp 25) 0) 0,
  oc 27 (.call ⟨(.value (.func 30)), #[(.tmp 26)], #[95]⟩) 0]
def F10.r12 : List Oper := [
  op 28 (.move (.tmp 0)) 27,
  op 29 (.nilCheck (.tmp 28)) 0,
  op 30 (.fieldAddr 100 (.tmp 29) 0) 0,
  ⟨none, (.defer ⟨(.value (.func 31)), #[(.tmp 30)], #[95]⟩), 0, "", #[⟨0, .chain⟩], none⟩]
def F10.r13 : List Oper := [
  ⟨(some 31), (.move (.tmp 0)), 27, "", #[], none⟩,
  ⟨(some 32), (.nilCheck (.tmp 31)), 0, "", #[], none⟩,
  ⟨(some 33), (.fieldAddr 100 (.tmp 32) 3), 0, "", #[], none⟩,
  ⟨(some 35), (.fieldAddr 45 (.tmp 3) 1), 0, "", #[], none⟩,
  ⟨(some 34), (.load 96 (.tmp 33)), 96, "", #[⟨0, .data⟩], none⟩,
  ⟨(some 36), (.load 34 (.tmp 35)), 34, "", #[⟨0, .data⟩], none⟩,
  ⟨(some 37), (.lookup 96 (.tmp 34) (.tmp 36) false), 101, "", #[⟨0, .data⟩], none⟩,
  ⟨(some 6), (.assign (.tmp 37)), 101, "", #[], none⟩]
def F10.r14 : List Oper := [
  op 38 (.move (.tmp 6)) 101,
  op 39 (.binOp .eql 101 (.tmp 38) (.const (.pointer none)) 101) 4]
def F10.r15 : List Oper := [
  op 4 (.assign (.const (.int .u64 0))) 34,
  op 5 (.assign (.const (.int .i64 80))) 30]
def F10.r16 : List Oper := [
  op 40 (.move (.tmp 6)) 101,
  op 41 (.nilCheck (.tmp 40)) 0,
  op 42 (.fieldAddr 104 (.tmp 41) 0) 0,
  oc 43 (.call ⟨(.value (.func 32)), #[(.tmp 42)], #[90]⟩) 0]
def F10.r17 : List Oper := [
  op 44 (.move (.tmp 6)) 101,
  op 45 (.nilCheck (.tmp 44)) 0,
  op 46 (.fieldAddr 104 (.tmp 45) 0) 0,
  ⟨none, (.defer ⟨(.value (.func 33)), #[(.tmp 46)], #[90]⟩), 0, "", #[⟨0, .chain⟩], none⟩]
def F10.r18 : List Oper := [
  op 7 (.assign (.const (.int .i64 0))) 30]
def F10.r19 : List Oper := [
  op 47 (.fieldAddr 45 (.tmp 3) 0) 0,
  od 48 (.load 39 (.tmp 47)) 39]
def F10.r20 : List Oper := [
  op 50 (.binOp .eql 39 (.tmp 48) (.const (.int .u8 4)) 39) 4,
  op 49 (.assign (.tmp 50)) 4]
def F10.r21 : List Oper := [
  op 51 (.move (.tmp 6)) 101,
  op 52 (.fieldAddr 45 (.tmp 3) 3) 0,
  od 53 (.load 40 (.tmp 52)) 40,
  op 54 (.fieldAddr 45 (.tmp 3) 4) 0,
  od 55 (.load 42 (.tmp 54)) 42,
  oc 56 (.call ⟨(.value (.func 34)), #[(.tmp 51), (.tmp 53), (.tmp 55)], #[101, 40, 42]⟩) 30,
  op 7 (.assign (.tmp 56)) 30]
def F10.r22 : List Oper := [
  op 58 (.binOp .eql 39 (.tmp 48) (.const (.int .u8 5)) 39) 4,
  op 57 (.assign (.tmp 58)) 4]
def F10.r23 : List Oper := [
  op 59 (.move (.tmp 6)) 101,
  op 60 (.fieldAddr 45 (.tmp 3) 5) 0,
  od 61 (.load 34 (.tmp 60)) 34,
  oc 62 (.call ⟨(.value (.func 35)), #[(.tmp 59), (.tmp 61)], #[101, 34]⟩) 30,
  op 7 (.assign (.tmp 62)) 30]
def F10.r24 : List Oper := [
  op 64 (.binOp .eql 39 (.tmp 48) (.const (.int .u8 6)) 39) 4,
  op 63 (.assign (.tmp 64)) 4]
def F10.r25 : List Oper := [
  op 65 (.move (.tmp 6)) 101,
  op 66 (.fieldAddr 45 (.tmp 3) 5) 0,
  od 67 (.load 34 (.tmp 66)) 34,
  op 68 (.fieldAddr 45 (.tmp 3) 6) 0,
  od 69 (.load 43 (.tmp 68)) 43,
  oc 70 (.call ⟨(.value (.func 36)), #[(.tmp 65), (.tmp 67), (.tmp 69)], #[101, 34, 43]⟩) 30,
  op 7 (.assign (.tmp 70)) 30]
def F10.r26 : List Oper := [
  op 72 (.binOp .eql 39 (.tmp 48) (.const (.int .u8 7)) 39) 4,
  op 71 (.assign (.tmp 72)) 4]
def F10.r27 : List Oper := [
  op 73 (.move (.tmp 6)) 101,
  op 74 (.fieldAddr 45 (.tmp 3) 7) 0,
  od 75 (.load 3 (.tmp 74)) 3,
  oc 76 (.call ⟨(.value (.func 37)), #[(.tmp 73), (.tmp 75)], #[101, 3]⟩) 30,
  op 7 (.assign (.tmp 76)) 30]
def F10.r28 : List Oper := [
  op 77 (.move (.tmp 7)) 30,
  op 78 (.binOp .neq 30 (.tmp 77) (.const (.int .i64 0)) 30) 4]
def F10.r29 : List Oper := [
  op 79 (.move (.tmp 7)) 30,
  op 4 (.assign (.const (.int .u64 0))) 34,
  op 5 (.assign (.tmp 79)) 30]
def F10.r30 : List Oper := [
  op 80 (.fieldAddr 45 (.tmp 3) 1) 0,
  od 81 (.load 34 (.tmp 80)) 34,
  op 4 (.assign (.tmp 81)) 34,
  op 5 (.assign (.const (.int .i64 0))) 30]
def F10.t2 : Cd := (.cond (.tmp 19) .skip (.seq (.region 2 F10.r2.toArray false) .ret))
theorem F10.t2_eq {θ : Tag (F10.t2, Q, e, w)} : cwE P F10.t2 Q e w θ = cwE P (.cond (.tmp 19) .skip (.seq (.region 2 F10.r2.toArray false) .ret)) Q e w := rfl
def F10.t6 : Cd := (.cond (.tmp 10) (.seq (.region 6 F10.r6.toArray false) .ret) (.seq (.seq (.region 7 F10.r7.toArray false) (.cond (.tmp 19) .skip (.seq (.region 8 F10.r8.toArray false) (.cond (.tmp 19) .skip (.seq (.region 9 F10.r9.toArray false) (.cond (.tmp 19) .skip (.region 10 F10.r10.toArray false))))))) F10.t2))
theorem F10.t6_eq {θ : Tag (F10.t6, Q, e, w)} : cwE P F10.t6 Q e w θ = cwE P (.cond (.tmp 10) (.seq (.region 6 F10.r6.toArray false) .ret) (.seq (.seq (.region 7 F10.r7.toArray false) (.cond (.tmp 19) .skip (.seq (.region 8 F10.r8.toArray false) (.cond (.tmp 19) .skip (.seq (.region 9 F10.r9.toArray false) (.cond (.tmp 19) .skip (.region 10 F10.r10.toArray false))))))) F10.t2)) Q e w := rfl
def F10.t30 : Cd := (.seq (.region 30 F10.r30.toArray false) .ret)
theorem F10.t30_eq {θ : Tag (F10.t30, Q, e, w)} : cwE P F10.t30 Q e w θ = cwE P (.seq (.region 30 F10.r30.toArray false) .ret) Q e w := rfl
def F10.t28 : Cd := (.seq (.seq (.region 28 F10.r28.toArray false) (.cond (.tmp 78) (.seq (.region 29 F10.r29.toArray false) .ret) .skip)) F10.t30)
theorem F10.t28_eq {θ : Tag (F10.t28, Q, e, w)} : cwE P F10.t28 Q e w θ = cwE P (.seq (.seq (.region 28 F10.r28.toArray false) (.cond (.tmp 78) (.seq (.region 29 F10.r29.toArray false) .ret) .skip)) F10.t30) Q e w := rfl
def F10.t16 : Cd := (.seq (.region 16 F10.r16.toArray false) (.seq (.region 17 F10.r17.toArray false) (.seq (.region 18 F10.r18.toArray false) (.seq (.seq (.region 19 F10.r19.toArray false) (.block 1 (.seq (.region 20 F10.r20.toArray false) (.cond (.tmp 49) (.region 21 F10.r21.toArray false) (.seq (.region 22 F10.r22.toArray false) (.cond (.tmp 57) (.region 23 F10.r23.toArray false) (.seq (.region 24 F10.r24.toArray false) (.cond (.tmp 63) (.region 25 F10.r25.toArray false) (.seq (.region 26 F10.r26.toArray false) (.cond (.tmp 71) (.region 27 F10.r27.toArray false) .skip)))))))))) F10.t28))))
theorem F10.t16_eq {θ : Tag (F10.t16, Q, e, w)} : cwE P F10.t16 Q e w θ = cwE P (.seq (.region 16 F10.r16.toArray false) (.seq (.region 17 F10.r17.toArray false) (.seq (.region 18 F10.r18.toArray false) (.seq (.seq (.region 19 F10.r19.toArray false) (.block 1 (.seq (.region 20 F10.r20.toArray false) (.cond (.tmp 49) (.region 21 F10.r21.toArray false) (.seq (.region 22 F10.r22.toArray false) (.cond (.tmp 57) (.region 23 F10.r23.toArray false) (.seq (.region 24 F10.r24.toArray false) (.cond (.tmp 63) (.region 25 F10.r25.toArray false) (.seq (.region 26 F10.r26.toArray false) (.cond (.tmp 71) (.region 27 F10.r27.toArray false) .skip)))))))))) F10.t28)))) Q e w := rfl
def F10.t11 : Cd := (.seq (.region 11 F10.r11.toArray false) (.seq (.region 12 F10.r12.toArray false) (.seq (.region 13 F10.r13.toArray true) (.seq (.seq (.region 14 F10.r14.toArray false) (.cond (.tmp 39) (.seq (.region 15 F10.r15.toArray false) .ret) .skip)) F10.t16))))
theorem F10.t11_eq {θ : Tag (F10.t11, Q, e, w)} : cwE P F10.t11 Q e w θ = cwE P (.seq (.region 11 F10.r11.toArray false) (.seq (.region 12 F10.r12.toArray false) (.seq (.region 13 F10.r13.toArray true) (.seq (.seq (.region 14 F10.r14.toArray false) (.cond (.tmp 39) (.seq (.region 15 F10.r15.toArray false) .ret) .skip)) F10.t16)))) Q e w := rfl
def F10.code : Cd := (.seq (.region 0 F10.r0.toArray false) (.seq (.seq (.region 1 F10.r1.toArray false) (.block 0 (.seq (.seq (.region 3 F10.r3.toArray false) (.cond (.tmp 10) .skip (.seq (.region 4 F10.r4.toArray false) (.cond (.tmp 10) .skip (.region 5 F10.r5.toArray false))))) F10.t6))) F10.t11))
theorem F10.calls (hn : args.size ≤ 82) (h : cwE Tryz.prog F10.code (fnP Tryz.prog #[(.tmp 4), (.tmp 5)] R) (entry args) w) : Calls Tryz.prog 10 args w R :=
  calls_of_cwE (types := Tryz.prog.types) follows Tryz.func10 F10.code rfl (by kernel_rfl) hn h
def F11.r0 : List Oper := [
  oc 3 (.box 45 (.tmp 1)) 0,
  op 4 (.assign (.const (.int .u64 0))) 34,
  op 5 (.assign (.const (.int .i64 0))) 30]
def F11.r1 : List Oper := [
  op 8 (.fieldAddr 45 (.tmp 3) 0) 0,
  od 9 (.load 39 (.tmp 8)) 39,
  op 10 (.convert 39 3 (.tmp 9)) 3,
  op 11 (.binOp .lss 3 (.tmp 10) (.const (.int .i64 1)) 3) 4,
  op 12 (.move (.tmp 11)) 4,
  og 13 (.fieldAddr 45 (.tmp 3) 0) 0 12 false,
  ⟨(some 14), (.load 39 (.tmp 13)), 39, "", #[⟨0, .data⟩], (some (12, false))⟩,
  og 15 (.convert 39 3 (.tmp 14)) 3 12 false,
  og 16 (.binOp .gtr 3 (.tmp 15) (.const (.int .i64 7)) 3) 4 12 false,
  op 17 (.pick (.tmp 12) (.const (.bool true)) (.tmp 16)) 4]
def F11.r2 : List Oper := [
  op 4 (.assign (.const (.int .u64 0))) 34,
  op 5 (.assign (.const (.int .i64 1))) 30]
def F11.r3 : List Oper := [
  op 18 (.move (.tmp 0)) 29,
  op 19 (.fieldAddr 45 (.tmp 3) 1) 0,
  od 20 (.load 34 (.tmp 19)) 34,
  oc 21 (.call ⟨(.value (.func 38)), #[(.tmp 18), (.tmp 20)], #[29, 34]⟩) 3,
  op 6 (.assign (.tmp 21)) 3]
def F11.r4 : List Oper := [
  op 22 (.move (.tmp 6)) 3,
  op 23 (.binOp .lss 3 (.tmp 22) (.const (.int .i64 0)) 3) 4]
def F11.r5 : List Oper := [
  op 4 (.assign (.const (.int .u64 0))) 34,
  op 5 (.assign (.const (.int .i64 80))) 30]
def F11.r6 : List Oper := [
  op 7 (.assign (.const (.int .i64 0))) 30]
def F11.r7 : List Oper := [
  op 24 (.fieldAddr 45 (.tmp 3) 0) 0,
  od 25 (.load 39 (.tmp 24)) 39,
  op 26 (.convert 39 3 (.tmp 25)) 3]
def F11.r8 : List Oper := [
  op 28 (.binOp .eql 3 (.tmp 26) (.const (.int .i64 1)) 3) 4,
  op 27 (.assign (.tmp 28)) 4]
def F11.r9 : List Oper := [
  op 29 (.move (.tmp 0)) 29,
  op 30 (.move (.tmp 6)) 3,
  od 31 (.load 45 (.tmp 3)) 45,
  oc 32 (.call ⟨(.value (.func 39)), #[(.tmp 29), (.tmp 30), (.tmp 31)], #[29, 3, 45]⟩) 37,
  op 33 (.extract (.tmp 32) 0) 34,
  op 34 (.extract (.tmp 32) 1) 30,
  op 4 (.assign (.tmp 33)) 34,
  op 5 (.assign (.tmp 34)) 30]
def F11.r10 : List Oper := [
  op 36 (.binOp .eql 3 (.tmp 26) (.const (.int .i64 2)) 3) 4,
  op 35 (.assign (.tmp 36)) 4]
def F11.r11 : List Oper := [
  op 37 (.move (.tmp 0)) 29,
  op 38 (.move (.tmp 6)) 3,
  oc 39 (.call ⟨(.value (.func 40)), #[(.tmp 37), (.tmp 38)], #[29, 3]⟩) 30,
  op 7 (.assign (.tmp 39)) 30]
def F11.r12 : List Oper := [
  op 41 (.binOp .eql 3 (.tmp 26) (.const (.int .i64 3)) 3) 4,
  op 40 (.assign (.tmp 41)) 4]
def F11.r13 : List Oper := [
  op 42 (.move (.tmp 0)) 29,
  op 43 (.move (.tmp 6)) 3,
  op 44 (.fieldAddr 45 (.tmp 3) 2) 0,
  od 45 (.load 9 (.tmp 44)) 9,
  oc 46 (.call ⟨(.value (.func 41)), #[(.tmp 42), (.tmp 43), (.tmp 45)], #[29, 3, 9]⟩) 30,
  op 7 (.assign (.tmp 46)) 30]
def F11.r14 : List Oper := [
  op 48 (.binOp .eql 3 (.tmp 26) (.const (.int .i64 4)) 3) 4,
  op 47 (.assign (.tmp 48)) 4]
def F11.r15 : List Oper := [
  op 49 (.move (.tmp 0)) 29,
  op 50 (.move (.tmp 6)) 3,
  od 51 (.load 45 (.tmp 3)) 45,
  oc 52 (.call ⟨(.value (.func 42)), #[(.tmp 49), (.tmp 50), (.tmp 51)], #[29, 3, 45]⟩) 30,
  op 7 (.assign (.tmp 52)) 30]
def F11.r16 : List Oper := [
  op 54 (.binOp .eql 3 (.tmp 26) (.const (.int .i64 5)) 3) 4,
  op 53 (.assign (.tmp 54)) 4]
def F11.r17 : List Oper := [
  op 55 (.move (.tmp 0)) 29,
  op 56 (.move (.tmp 6)) 3,
  op 57 (.fieldAddr 45 (.tmp 3) 5) 0,
  od 58 (.load 34 (.tmp 57)) 34,
  oc 59 (.call ⟨(.value (.func 43)), #[(.tmp 55), (.tmp 56), (.tmp 58)], #[29, 3, 34]⟩) 30,
  op 7 (.assign (.tmp 59)) 30]
def F11.r18 : List Oper := [
  op 61 (.binOp .eql 3 (.tmp 26) (.const (.int .i64 6)) 3) 4,
  op 60 (.assign (.tmp 61)) 4]
def F11.r19 : List Oper := [
  op 62 (.move (.tmp 0)) 29,
  op 63 (.move (.tmp 6)) 3,
  od 64 (.load 45 (.tmp 3)) 45,
  oc 65 (.call ⟨(.value (.func 44)), #[(.tmp 62), (.tmp 63), (.tmp 64)], #[29, 3, 45]⟩) 30,
  op 7 (.assign (.tmp 65)) 30]
def F11.r20 : List Oper := [
  op 67 (.binOp .eql 3 (.tmp 26) (.const (.int .i64 7)) 3) 4,
  op 66 (.assign (.tmp 67)) 4]
def F11.r21 : List Oper := [
  op 68 (.move (.tmp 0)) 29,
  op 69 (.move (.tmp 6)) 3,
  op 70 (.fieldAddr 45 (.tmp 3) 7) 0,
  od 71 (.load 3 (.tmp 70)) 3,
  oc 72 (.call ⟨(.value (.func 45)), #[(.tmp 68), (.tmp 69), (.tmp 71)], #[29, 3, 3]⟩) 30,
  op 7 (.assign (.tmp 72)) 30]
def F11.r22 : List Oper := [
  op 73 (.move (.tmp 7)) 30,
  op 74 (.binOp .neq 30 (.tmp 73) (.const (.int .i64 0)) 30) 4]
def F11.r23 : List Oper := [
  op 75 (.move (.tmp 7)) 30,
  op 4 (.assign (.const (.int .u64 0))) 34,
  op 5 (.assign (.tmp 75)) 30]
def F11.r24 : List Oper := [
  op 76 (.fieldAddr 45 (.tmp 3) 1) 0,
  od 77 (.load 34 (.tmp 76)) 34,
  op 4 (.assign (.tmp 77)) 34,
  op 5 (.assign (.const (.int .i64 0))) 30]
def F11.t24 : Cd := (.seq (.region 24 F11.r24.toArray false) .ret)
theorem F11.t24_eq {θ : Tag (F11.t24, Q, e, w)} : cwE P F11.t24 Q e w θ = cwE P (.seq (.region 24 F11.r24.toArray false) .ret) Q e w := rfl
def F11.t22 : Cd := (.seq (.seq (.region 22 F11.r22.toArray false) (.cond (.tmp 74) (.seq (.region 23 F11.r23.toArray false) .ret) .skip)) F11.t24)
theorem F11.t22_eq {θ : Tag (F11.t22, Q, e, w)} : cwE P F11.t22 Q e w θ = cwE P (.seq (.seq (.region 22 F11.r22.toArray false) (.cond (.tmp 74) (.seq (.region 23 F11.r23.toArray false) .ret) .skip)) F11.t24) Q e w := rfl
def F11.t6 : Cd := (.seq (.region 6 F11.r6.toArray false) (.seq (.seq (.region 7 F11.r7.toArray false) (.block 0 (.seq (.region 8 F11.r8.toArray false) (.cond (.tmp 27) (.seq (.region 9 F11.r9.toArray false) .ret) (.seq (.region 10 F11.r10.toArray false) (.cond (.tmp 35) (.region 11 F11.r11.toArray false) (.seq (.region 12 F11.r12.toArray false) (.cond (.tmp 40) (.region 13 F11.r13.toArray false) (.seq (.region 14 F11.r14.toArray false) (.cond (.tmp 47) (.region 15 F11.r15.toArray false) (.seq (.region 16 F11.r16.toArray false) (.cond (.tmp 53) (.region 17 F11.r17.toArray false) (.seq (.region 18 F11.r18.toArray false) (.cond (.tmp 60) (.region 19 F11.r19.toArray false) (.seq (.region 20 F11.r20.toArray false) (.cond (.tmp 66) (.region 21 F11.r21.toArray false) .skip)))))))))))))))) F11.t22))
theorem F11.t6_eq {θ : Tag (F11.t6, Q, e, w)} : cwE P F11.t6 Q e w θ = cwE P (.seq (.region 6 F11.r6.toArray false) (.seq (.seq (.region 7 F11.r7.toArray false) (.block 0 (.seq (.region 8 F11.r8.toArray false) (.cond (.tmp 27) (.seq (.region 9 F11.r9.toArray false) .ret) (.seq (.region 10 F11.r10.toArray false) (.cond (.tmp 35) (.region 11 F11.r11.toArray false) (.seq (.region 12 F11.r12.toArray false) (.cond (.tmp 40) (.region 13 F11.r13.toArray false) (.seq (.region 14 F11.r14.toArray false) (.cond (.tmp 47) (.region 15 F11.r15.toArray false) (.seq (.region 16 F11.r16.toArray false) (.cond (.tmp 53) (.region 17 F11.r17.toArray false) (.seq (.region 18 F11.r18.toArray false) (.cond (.tmp 60) (.region 19 F11.r19.toArray false) (.seq (.region 20 F11.r20.toArray false) (.cond (.tmp 66) (.region 21 F11.r21.toArray false) .skip)))))))))))))))) F11.t22)) Q e w := rfl
def F11.t3 : Cd := (.seq (.region 3 F11.r3.toArray false) (.seq (.seq (.region 4 F11.r4.toArray false) (.cond (.tmp 23) (.seq (.region 5 F11.r5.toArray false) .ret) .skip)) F11.t6))
theorem F11.t3_eq {θ : Tag (F11.t3, Q, e, w)} : cwE P F11.t3 Q e w θ = cwE P (.seq (.region 3 F11.r3.toArray false) (.seq (.seq (.region 4 F11.r4.toArray false) (.cond (.tmp 23) (.seq (.region 5 F11.r5.toArray false) .ret) .skip)) F11.t6)) Q e w := rfl
def F11.code : Cd := (.seq (.region 0 F11.r0.toArray false) (.seq (.seq (.region 1 F11.r1.toArray false) (.cond (.tmp 17) (.seq (.region 2 F11.r2.toArray false) .ret) .skip)) F11.t3))
theorem F11.calls (hn : args.size ≤ 78) (h : cwE Tryz.prog F11.code (fnP Tryz.prog #[(.tmp 4), (.tmp 5)] R) (entry args) w) : Calls Tryz.prog 11 args w R :=
  calls_of_cwE (types := Tryz.prog.types) follows Tryz.func11 F11.code rfl (by kernel_rfl) hn h
def F12.r0 : List Oper := [
  oc 1 (.box 27 (.tmp 0)) 0,
  op 2 (.assign (.const .nilFunc)) 47]
def F12.r1 : List Oper := [
  op 3 (.makeFunc (.func 46) #[] #[(.tmp 1)]) 46,
  op 2 (.assign (.tmp 3)) 47]
def F12.code : Cd := (.seq (.region 0 F12.r0.toArray false) (.seq (.region 1 F12.r1.toArray false) .ret))
theorem F12.calls (hn : args.size ≤ 4) (h : cwE Tryz.prog F12.code (fnP Tryz.prog #[(.tmp 2)] R) (entry args) w) : Calls Tryz.prog 12 args w R :=
  calls_of_cwE (types := Tryz.prog.types) follows Tryz.func12 F12.code rfl (by kernel_rfl) hn h
def F14.r0 : List Oper := [
  op 2 (.assign (.const (.slice none 0 0))) 50]
def F14.r1 : List Oper := [
  op 3 (.assign (.const (.slice none 0 0))) 50]
def F14.r2 : List Oper := [
  op 4 (.assign (.const (.int .i64 0))) 3]
def F14.r3 : List Oper := [
  op 5 (.move (.tmp 4)) 3,
  op 6 (.move (.tmp 0)) 29,
  op 7 (.nilCheck (.tmp 6)) 0,
  op 8 (.fieldAddr 84 (.tmp 7) 2) 0,
  od 9 (.load 82 (.tmp 8)) 82,
  op 10 (.call ⟨(.builtin .len), #[(.tmp 9)], #[82]⟩) 3,
  op 11 (.binOp .lss 3 (.tmp 5) (.tmp 10) 3) 4]
def F14.r5 : List Oper := [
  op 14 (.move (.tmp 3)) 50,
  op 15 (.move (.tmp 0)) 29,
  op 16 (.nilCheck (.tmp 15)) 0,
  op 17 (.fieldAddr 84 (.tmp 16) 2) 0,
  od 18 (.load 82 (.tmp 17)) 82,
  op 19 (.move (.tmp 4)) 3,
  op 20 (.indexAddr 82 (.tmp 18) (.tmp 19)) 0,
  op 21 (.fieldAddr 81 (.tmp 20) 0) 0,
  od 22 (.load 42 (.tmp 21)) 42,
  oc 23 (.buildSlice 50 1 #[(0, (.tmp 22))]) 50,
  oc 24 (.call ⟨(.builtin .append), #[(.tmp 14), (.tmp 23)], #[50, 50]⟩) 50,
  op 3 (.assign (.tmp 24)) 50]
def F14.r4 : List Oper := [
  op 12 (.move (.tmp 4)) 3,
  op 13 (.binOp .add 3 (.tmp 12) (.const (.int .i64 1)) 3) 3,
  op 4 (.assign (.tmp 13)) 3]
def F14.r6 : List Oper := [
  op 25 (.move (.tmp 3)) 50,
  op 2 (.assign (.tmp 25)) 50]
def F14.t4 : Cd := (.region 4 F14.r4.toArray false)
theorem F14.t4_eq {θ : Tag (F14.t4, Q, e, w)} : cwE P F14.t4 Q e w θ = cwE P (.region 4 F14.r4.toArray false) Q e w := rfl
def F14.t5 : Cd := (.seq (.block 1 (.region 5 F14.r5.toArray false)) F14.t4)
theorem F14.t5_eq {θ : Tag (F14.t5, Q, e, w)} : cwE P F14.t5 Q e w θ = cwE P (.seq (.block 1 (.region 5 F14.r5.toArray false)) F14.t4) Q e w := rfl
def F14.t6 : Cd := (.seq (.region 6 F14.r6.toArray false) .ret)
theorem F14.t6_eq {θ : Tag (F14.t6, Q, e, w)} : cwE P F14.t6 Q e w θ = cwE P (.seq (.region 6 F14.r6.toArray false) .ret) Q e w := rfl
def F14.code : Cd := (.seq (.region 0 F14.r0.toArray false) (.seq (.region 1 F14.r1.toArray false) (.seq (.seq (.region 2 F14.r2.toArray false) (.block 0 (.loop (.seq (.seq (.region 3 F14.r3.toArray false) (.cond (.tmp 11) .skip (.exit 0))) F14.t5)))) F14.t6)))
theorem F14.calls (hn : args.size ≤ 26) (h : cwE Tryz.prog F14.code (fnP Tryz.prog #[(.tmp 2)] R) (entry args) w) : Calls Tryz.prog 14 args w R :=
  calls_of_cwE (types := Tryz.prog.types) follows Tryz.func14 F14.code rfl (by kernel_rfl) hn h
def F16.r0 : List Oper := [
  oc 1 (.box 36 (.tmp 0)) 0,
  op 2 (.assign (.const (.int .i64 0))) 3]
def F16.r1 : List Oper := [
  op 3 (.fieldAddr 36 (.tmp 1) 0) 0,
  od 4 (.load 9 (.tmp 3)) 9,
  op 5 (.call ⟨(.builtin .len), #[(.tmp 4)], #[9]⟩) 3,
  op 6 (.binOp .add 3 (.const (.int .i64 100)) (.tmp 5) 3) 3,
  op 7 (.fieldAddr 36 (.tmp 1) 1) 0,
  od 8 (.load 9 (.tmp 7)) 9,
  op 9 (.call ⟨(.builtin .len), #[(.tmp 8)], #[9]⟩) 3,
  op 10 (.binOp .add 3 (.tmp 6) (.tmp 9) 3) 3,
  op 11 (.fieldAddr 36 (.tmp 1) 2) 0,
  od 12 (.load 9 (.tmp 11)) 9,
  op 13 (.call ⟨(.builtin .len), #[(.tmp 12)], #[9]⟩) 3,
  op 14 (.binOp .add 3 (.tmp 10) (.tmp 13) 3) 3,
  op 2 (.assign (.tmp 14)) 3]
def F16.code : Cd := (.seq (.region 0 F16.r0.toArray false) (.seq (.region 1 F16.r1.toArray false) .ret))
theorem F16.calls (hn : args.size ≤ 15) (h : cwE Tryz.prog F16.code (fnP Tryz.prog #[(.tmp 2)] R) (entry args) w) : Calls Tryz.prog 16 args w R :=
  calls_of_cwE (types := Tryz.prog.types) follows Tryz.func16 F16.code rfl (by kernel_rfl) hn h
def F17.r0 : List Oper := [
  op 2 (.assign (.const (.int .i64 0))) 3]
def F17.r1 : List Oper := [
  op 3 (.assign (.const (.int .i64 0))) 3]
def F17.r2 : List Oper := [
  op 4 (.assign (.const (.int .i64 0))) 3]
def F17.r3 : List Oper := [
  op 5 (.move (.tmp 4)) 3,
  op 6 (.move (.tmp 0)) 56,
  op 7 (.call ⟨(.builtin .len), #[(.tmp 6)], #[56]⟩) 3,
  op 8 (.binOp .lss 3 (.tmp 5) (.tmp 7) 3) 4,
  op 9 (.move (.tmp 8)) 4,
  og 10 (.move (.tmp 3)) 3 9 true,
  og 11 (.binOp .leq 3 (.tmp 10) (.const (.int .i64 8388608)) 3) 4 9 true,
  op 12 (.pick (.tmp 9) (.tmp 11) (.const (.bool false))) 4]
def F17.r5 : List Oper := [
  ⟨(some 15), (.move (.tmp 3)), 3, "", #[], none⟩,
  ⟨(some 16), (.binOp .add 3 (.tmp 15) (.const (.int .i64 50)) 3), 3, "", #[], none⟩,
  ⟨(some 17), (.move (.tmp 0)), 56, "", #[], none⟩,
  ⟨(some 18), (.move (.tmp 4)), 3, "", #[], none⟩,
  ⟨(some 19), (.indexAddr 56 (.tmp 17) (.tmp 18)), 0, "", #[], none⟩,
  ⟨(some 20), (.fieldAddr 69 (.tmp 19) 4), 0, "", #[], none⟩,
  ⟨(some 24), (.move (.tmp 0)), 56, "", #[], none⟩,
  ⟨(some 25), (.move (.tmp 4)), 3, "", #[], none⟩,
  ⟨(some 26), (.indexAddr 56 (.tmp 24) (.tmp 25)), 0, "", #[], none⟩,
  ⟨(some 27), (.fieldAddr 69 (.tmp 26) 1), 0, "", #[], none⟩,
  ⟨(some 21), (.load 9 (.tmp 20)), 9, "", #[⟨0, .data⟩], none⟩,
  ⟨(some 22), (.call ⟨(.builtin .len), #[(.tmp 21)], #[9]⟩), 3, "", #[], none⟩,
  ⟨(some 23), (.binOp .add 3 (.tmp 16) (.tmp 22) 3), 3, "", #[], none⟩,
  ⟨(some 28), (.load 45 (.tmp 27)), 45, "", #[⟨16384, .data⟩], none⟩,
  ⟨(some 29), (.call ⟨(.value (.func 27)), #[(.tmp 28)], #[45]⟩), 3, "", #[⟨14, .chain⟩], none⟩,
  ⟨(some 30), (.binOp .add 3 (.tmp 23) (.tmp 29) 3), 3, "", #[], none⟩,
  ⟨(some 3), (.assign (.tmp 30)), 3, "", #[], none⟩]
def F17.r4 : List Oper := [
  op 13 (.move (.tmp 4)) 3,
  op 14 (.binOp .add 3 (.tmp 13) (.const (.int .i64 1)) 3) 3,
  op 4 (.assign (.tmp 14)) 3]
def F17.r6 : List Oper := [
  op 31 (.move (.tmp 3)) 3,
  op 2 (.assign (.tmp 31)) 3]
def F17.t4 : Cd := (.region 4 F17.r4.toArray false)
theorem F17.t4_eq {θ : Tag (F17.t4, Q, e, w)} : cwE P F17.t4 Q e w θ = cwE P (.region 4 F17.r4.toArray false) Q e w := rfl
def F17.t5 : Cd := (.seq (.block 1 (.region 5 F17.r5.toArray true)) F17.t4)
theorem F17.t5_eq {θ : Tag (F17.t5, Q, e, w)} : cwE P F17.t5 Q e w θ = cwE P (.seq (.block 1 (.region 5 F17.r5.toArray true)) F17.t4) Q e w := rfl
def F17.t6 : Cd := (.seq (.region 6 F17.r6.toArray false) .ret)
theorem F17.t6_eq {θ : Tag (F17.t6, Q, e, w)} : cwE P F17.t6 Q e w θ = cwE P (.seq (.region 6 F17.r6.toArray false) .ret) Q e w := rfl
def F17.code : Cd := (.seq (.region 0 F17.r0.toArray false) (.seq (.region 1 F17.r1.toArray false) (.seq (.seq (.region 2 F17.r2.toArray false) (.block 0 (.loop (.seq (.seq (.region 3 F17.r3.toArray false) (.cond (.tmp 12) .skip (.exit 0))) F17.t5)))) F17.t6)))
theorem F17.calls (hn : args.size ≤ 32) (h : cwE Tryz.prog F17.code (fnP Tryz.prog #[(.tmp 2)] R) (entry args) w) : Calls Tryz.prog 17 args w R :=
  calls_of_cwE (types := Tryz.prog.types) follows Tryz.func17 F17.code rfl (by kernel_rfl) hn h
def F18.r0 : List Oper := [
  oc 1 (.box 36 (.tmp 0)) 0,
  op 2 (.assign (.const (.pointer none))) 27,
  op 3 (.assign (.const (.int .i64 0))) 30]
def F18.r1 : List Oper := [
  op 6 (.fieldAddr 36 (.tmp 1) 8) 0,
  od 7 (.load 3 (.tmp 6)) 3,
  op 8 (.binOp .lss 3 (.tmp 7) (.const (.int .i64 1)) 3) 4,
  op 9 (.move (.tmp 8)) 4,
  og 10 (.fieldAddr 36 (.tmp 1) 8) 0 9 false,
  ⟨(some 11), (.load 3 (.tmp 10)), 3, "", #[⟨0, .data⟩], (some (9, false))⟩,
  og 12 (.binOp .gtr 3 (.tmp 11) (.const (.int .i64 4096)) 3) 4 9 false,
  op 13 (.pick (.tmp 9) (.const (.bool true)) (.tmp 12)) 4,
  op 14 (.move (.tmp 13)) 4,
  og 15 (.fieldAddr 36 (.tmp 1) 3) 0 14 false,
  ⟨(some 16), (.load 33 (.tmp 15)), 33, "", #[⟨0, .data⟩], (some (14, false))⟩,
  og 17 (.binOp .andNot 33 (.tmp 16) (.const (.int .u32 511)) 33) 33 14 false,
  og 18 (.binOp .neq 33 (.tmp 17) (.const (.int .u32 0)) 33) 4 14 false,
  op 19 (.pick (.tmp 14) (.const (.bool true)) (.tmp 18)) 4]
def F18.r2 : List Oper := [
  op 2 (.assign (.const (.pointer none))) 27,
  op 3 (.assign (.const (.int .i64 1))) 30]
def F18.r3 : List Oper := [
  op 20 (.fieldAddr 36 (.tmp 1) 1) 0,
  od 21 (.load 9 (.tmp 20)) 9,
  op 22 (.binOp .eql 9 (.tmp 21) (.const (.string { data := #[] })) 9) 4,
  op 23 (.move (.tmp 22)) 4,
  og 24 (.fieldAddr 36 (.tmp 1) 2) 0 23 false,
  ⟨(some 25), (.load 9 (.tmp 24)), 9, "", #[⟨0, .data⟩], (some (23, false))⟩,
  og 26 (.binOp .eql 9 (.tmp 25) (.const (.string { data := #[] })) 9) 4 23 false,
  op 27 (.pick (.tmp 23) (.const (.bool true)) (.tmp 26)) 4,
  op 28 (.move (.tmp 27)) 4,
  og 29 (.fieldAddr 36 (.tmp 1) 1) 0 28 false,
  ⟨(some 30), (.load 9 (.tmp 29)), 9, "", #[⟨0, .data⟩], (some (28, false))⟩,
  ⟨(some 31), (.call ⟨(.value (.func 48)), #[(.tmp 30)], #[9]⟩), 4, "", #[⟨0, .chain⟩], (some (28, false))⟩,
  og 32 (.unOp .not 4 (.tmp 31)) 4 28 false,
  op 33 (.pick (.tmp 28) (.const (.bool true)) (.tmp 32)) 4,
  op 34 (.move (.tmp 33)) 4,
  og 35 (.fieldAddr 36 (.tmp 1) 2) 0 34 false,
  ⟨(some 36), (.load 9 (.tmp 35)), 9, "", #[⟨0, .data⟩], (some (34, false))⟩,
  ⟨(some 37), (.call ⟨(.value (.func 48)), #[(.tmp 36)], #[9]⟩), 4, "", #[⟨0, .chain⟩], (some (34, false))⟩,
  og 38 (.unOp .not 4 (.tmp 37)) 4 34 false,
  op 39 (.pick (.tmp 34) (.const (.bool true)) (.tmp 38)) 4]
def F18.r4 : List Oper := [
  op 2 (.assign (.const (.pointer none))) 27,
  op 3 (.assign (.const (.int .i64 1))) 30]
def F18.r5 : List Oper := [
  op 40 (.fieldAddr 36 (.tmp 1) 3) 0,
  od 41 (.load 33 (.tmp 40)) 33,
  op 42 (.binOp .or 33 (.const (.int .u32 2147483648)) (.tmp 41) 33) 33,
  op 43 (.fieldAddr 36 (.tmp 1) 1) 0,
  od 44 (.load 9 (.tmp 43)) 9,
  op 45 (.fieldAddr 36 (.tmp 1) 2) 0,
  od 46 (.load 9 (.tmp 45)) 9,
  op 47 (.fieldAddr 36 (.tmp 1) 1) 0,
  od 48 (.load 9 (.tmp 47)) 9,
  op 49 (.build 42 #[(0, (.const (.int .u64 1))), (1, (.const (.int .u64 1))), (2, (.const (.string { data := #[47] }))), (3, (.tmp 42)), (4, (.tmp 44)), (5, (.tmp 46)), (6, (.tmp 48))]) 42,
  op 50 (.build 104 #[(1, (.tmp 49))]) 104,
  oc 51 (.box 104 (.tmp 50)) 101,
  op 4 (.assign (.tmp 51)) 101]
def F18.r6 : List Oper := [
  op 52 (.fieldAddr 36 (.tmp 1) 8) 0,
  od 53 (.load 3 (.tmp 52)) 3,
  oc 54 (.makeMap 96 none) 96,
  op 55 (.move (.tmp 4)) 101,
  ⟨none, (.insert 96 (.tmp 54) (.const (.int .u64 1)) (.tmp 55)), 0, "", #[⟨0, .chain⟩], none⟩,
  op 56 (.move (.tmp 54)) 96,
  oc 57 (.buildSlice 97 1 #[(0, (.const (.int .u64 1)))]) 97,
  oc 58 (.makeMap 98 none) 98,
  op 59 (.build 100 #[(1, (.tmp 53)), (2, (.const (.int .u64 2))), (3, (.tmp 56)), (4, (.tmp 57)), (5, (.tmp 58))]) 100,
  oc 60 (.box 100 (.tmp 59)) 27,
  op 5 (.assign (.tmp 60)) 27]
def F18.r7 : List Oper := [
  op 61 (.move (.tmp 5)) 27,
  op 2 (.assign (.tmp 61)) 27,
  op 3 (.assign (.const (.int .i64 0))) 30]
def F18.t5 : Cd := (.seq (.region 5 F18.r5.toArray false) (.seq (.region 6 F18.r6.toArray false) (.seq (.region 7 F18.r7.toArray false) .ret)))
theorem F18.t5_eq {θ : Tag (F18.t5, Q, e, w)} : cwE P F18.t5 Q e w θ = cwE P (.seq (.region 5 F18.r5.toArray false) (.seq (.region 6 F18.r6.toArray false) (.seq (.region 7 F18.r7.toArray false) .ret))) Q e w := rfl
def F18.t3 : Cd := (.seq (.seq (.region 3 F18.r3.toArray false) (.cond (.tmp 39) (.seq (.region 4 F18.r4.toArray false) .ret) .skip)) F18.t5)
theorem F18.t3_eq {θ : Tag (F18.t3, Q, e, w)} : cwE P F18.t3 Q e w θ = cwE P (.seq (.seq (.region 3 F18.r3.toArray false) (.cond (.tmp 39) (.seq (.region 4 F18.r4.toArray false) .ret) .skip)) F18.t5) Q e w := rfl
def F18.code : Cd := (.seq (.region 0 F18.r0.toArray false) (.seq (.seq (.region 1 F18.r1.toArray false) (.cond (.tmp 19) (.seq (.region 2 F18.r2.toArray false) .ret) .skip)) F18.t3))
theorem F18.calls (hn : args.size ≤ 62) (h : cwE Tryz.prog F18.code (fnP Tryz.prog #[(.tmp 2), (.tmp 3)] R) (entry args) w) : Calls Tryz.prog 18 args w R :=
  calls_of_cwE (types := Tryz.prog.types) follows Tryz.func18 F18.code rfl (by kernel_rfl) hn h
def F19.r0 : List Oper := [
  oc 3 (.box 69 (.tmp 1)) 0,
  op 4 (.assign (.const (.bool false))) 4]
def F19.r1 : List Oper := [
  op 5 (.assign (.const (.int .i64 0))) 3]
def F19.r2 : List Oper := [
  op 24 (.fieldAddr 69 (.tmp 3) 6) 0,
  od 25 (.load 4 (.tmp 24)) 4]
def F19.r3 : List Oper := [
  op 5 (.assign (.const (.int .i64 1))) 3]
def F19.r4 : List Oper := [
  op 26 (.fieldAddr 69 (.tmp 3) 0) 0,
  od 27 (.load 3 (.tmp 26)) 3]
def F19.r5 : List Oper := [
  op 29 (.binOp .eql 3 (.tmp 27) (.const (.int .i64 1)) 3) 4,
  op 28 (.assign (.tmp 29)) 4]
def F19.r6 : List Oper := [
  op 30 (.move (.tmp 0)) 61,
  op 31 (.move (.tmp 5)) 3,
  op 32 (.fieldAddr 69 (.tmp 3) 1) 0,
  od 33 (.load 45 (.tmp 32)) 45,
  oc 34 (.call ⟨(.value (.func 49)), #[(.tmp 30), (.tmp 31), (.tmp 33)], #[61, 3, 45]⟩) 4,
  op 4 (.assign (.tmp 34)) 4]
def F19.r7 : List Oper := [
  op 36 (.binOp .eql 3 (.tmp 27) (.const (.int .i64 2)) 3) 4,
  op 35 (.assign (.tmp 36)) 4]
def F19.r8 : PT :=
  (.op ⟨(some 38), (.move (.tmp 0)), 61, "", #[], none⟩
  (.op ⟨(some 39), (.move (.tmp 5)), 3, "", #[], none⟩
  (.op ⟨(some 40), (.nilCheck (.tmp 38)), 0, "", #[], none⟩
  (.op ⟨(some 41), (.fieldAddr 66 (.tmp 40) 0), 0, "", #[], none⟩
  (.op ⟨(some 42), (.indexAddr 62 (.tmp 41) (.tmp 39)), 0, "", #[], none⟩
  (.op ⟨(some 44), (.fieldAddr 69 (.tmp 3) 2), 0, "", #[], none⟩
  (.op ⟨(some 43), (.load 27 (.tmp 42)), 27, "", #[⟨8448, .data⟩], none⟩
  (.op ⟨(some 45), (.load 34 (.tmp 44)), 34, "", #[⟨8448, .data⟩], none⟩
  (.alt (.op ⟨(some 46), (.call ⟨(.value (.func 25)), #[(.tmp 43), (.tmp 45)], #[27, 34]⟩), 75, "", #[⟨8, .chain⟩], none⟩
  (.op ⟨(some 37), (.move (.tmp 46)), 75, "", #[], none⟩
  (.op ⟨(some 47), (.extract (.tmp 37) 0), 42, "", #[], none⟩
  (.op ⟨(some 48), (.extract (.tmp 37) 1), 4, "", #[], none⟩
  (.alt (.op ⟨(some 6), (.alloc 42), 0, "", #[⟨12, .chain⟩], none⟩
  (.alt (.op ⟨none, (.store 42 (.tmp 6) (.tmp 47)), 0, "", #[⟨13, .chain⟩], none⟩
  (.op ⟨(some 7), (.assign (.tmp 48)), 4, "", #[], none⟩
  .done))
  .stop))
  .stop)))))
  (.alt (.op ⟨(some 6), (.alloc 42), 0, "", #[⟨12, .chain⟩], none⟩
  (.alt (.op ⟨(some 46), (.call ⟨(.value (.func 25)), #[(.tmp 43), (.tmp 45)], #[27, 34]⟩), 75, "", #[⟨8, .chain⟩], none⟩
  (.op ⟨(some 37), (.move (.tmp 46)), 75, "", #[], none⟩
  (.op ⟨(some 47), (.extract (.tmp 37) 0), 42, "", #[], none⟩
  (.op ⟨(some 48), (.extract (.tmp 37) 1), 4, "", #[], none⟩
  (.alt (.op ⟨none, (.store 42 (.tmp 6) (.tmp 47)), 0, "", #[⟨13, .chain⟩], none⟩
  (.op ⟨(some 7), (.assign (.tmp 48)), 4, "", #[], none⟩
  .done))
  .stop)))))
  .stop))
  .stop))))))))))
def F19.r9 : PT :=
  (.op ⟨(some 50), (.move (.tmp 0)), 61, "", #[], none⟩
  (.op ⟨(some 51), (.move (.tmp 5)), 3, "", #[], none⟩
  (.op ⟨(some 52), (.nilCheck (.tmp 50)), 0, "", #[], none⟩
  (.op ⟨(some 53), (.fieldAddr 66 (.tmp 52) 1), 0, "", #[], none⟩
  (.op ⟨(some 54), (.indexAddr 63 (.tmp 53) (.tmp 51)), 0, "", #[], none⟩
  (.op ⟨(some 56), (.fieldAddr 69 (.tmp 3) 2), 0, "", #[], none⟩
  (.op ⟨(some 55), (.load 29 (.tmp 54)), 29, "", #[⟨8448, .data⟩], none⟩
  (.op ⟨(some 57), (.load 34 (.tmp 56)), 34, "", #[⟨8448, .data⟩], none⟩
  (.alt (.op ⟨(some 58), (.call ⟨(.value (.func 50)), #[(.tmp 55), (.tmp 57)], #[29, 34]⟩), 75, "", #[⟨8, .chain⟩], none⟩
  (.op ⟨(some 49), (.move (.tmp 58)), 75, "", #[], none⟩
  (.op ⟨(some 59), (.extract (.tmp 49) 0), 42, "", #[], none⟩
  (.op ⟨(some 60), (.extract (.tmp 49) 1), 4, "", #[], none⟩
  (.alt (.op ⟨(some 8), (.alloc 42), 0, "", #[⟨12, .chain⟩], none⟩
  (.alt (.op ⟨none, (.store 42 (.tmp 8) (.tmp 59)), 0, "", #[⟨13, .chain⟩], none⟩
  (.op ⟨(some 9), (.assign (.tmp 60)), 4, "", #[], none⟩
  .done))
  .stop))
  .stop)))))
  (.alt (.op ⟨(some 8), (.alloc 42), 0, "", #[⟨12, .chain⟩], none⟩
  (.alt (.op ⟨(some 58), (.call ⟨(.value (.func 50)), #[(.tmp 55), (.tmp 57)], #[29, 34]⟩), 75, "", #[⟨8, .chain⟩], none⟩
  (.op ⟨(some 49), (.move (.tmp 58)), 75, "", #[], none⟩
  (.op ⟨(some 59), (.extract (.tmp 49) 0), 42, "", #[], none⟩
  (.op ⟨(some 60), (.extract (.tmp 49) 1), 4, "", #[], none⟩
  (.alt (.op ⟨none, (.store 42 (.tmp 8) (.tmp 59)), 0, "", #[⟨13, .chain⟩], none⟩
  (.op ⟨(some 9), (.assign (.tmp 60)), 4, "", #[], none⟩
  .done))
  .stop)))))
  .stop))
  .stop))))))))))
def F19.r10 : List Oper := [
  od 61 (.load 42 (.tmp 6)) 42,
  od 62 (.load 42 (.tmp 8)) 42,
  op 63 (.binOp .eql 42 (.tmp 61) (.tmp 62) 42) 4,
  op 64 (.move (.tmp 63)) 4,
  og 65 (.move (.tmp 7)) 4 64 true,
  og 66 (.move (.tmp 9)) 4 64 true,
  og 67 (.binOp .eql 4 (.tmp 65) (.tmp 66) 4) 4 64 true,
  op 68 (.pick (.tmp 64) (.tmp 67) (.const (.bool false))) 4,
  op 4 (.assign (.tmp 68)) 4]
def F19.r11 : List Oper := [
  op 70 (.binOp .eql 3 (.tmp 27) (.const (.int .i64 3)) 3) 4,
  op 69 (.assign (.tmp 70)) 4]
def F19.r12 : List Oper := [
  ⟨(some 72), (.move (.tmp 0)), 61, "", #[], none⟩,
  ⟨(some 73), (.move (.tmp 5)), 3, "", #[], none⟩,
  ⟨(some 74), (.nilCheck (.tmp 72)), 0, "", #[], none⟩,
  ⟨(some 75), (.fieldAddr 66 (.tmp 74) 0), 0, "", #[], none⟩,
  ⟨(some 76), (.indexAddr 62 (.tmp 75) (.tmp 73)), 0, "", #[], none⟩,
  ⟨(some 78), (.fieldAddr 69 (.tmp 3) 2), 0, "", #[], none⟩,
  ⟨(some 80), (.fieldAddr 69 (.tmp 3) 4), 0, "", #[], none⟩,
  ⟨(some 77), (.load 27 (.tmp 76)), 27, "", #[⟨1024, .data⟩], none⟩,
  ⟨(some 79), (.load 34 (.tmp 78)), 34, "", #[⟨1024, .data⟩], none⟩,
  ⟨(some 81), (.load 9 (.tmp 80)), 9, "", #[⟨1024, .data⟩], none⟩,
  ⟨(some 82), (.call ⟨(.value (.func 51)), #[(.tmp 77), (.tmp 79), (.tmp 81)], #[27, 34, 9]⟩), 117, "", #[⟨10, .chain⟩], none⟩,
  ⟨(some 71), (.move (.tmp 82)), 117, "", #[], none⟩,
  ⟨(some 83), (.extract (.tmp 71) 0), 34, "", #[], none⟩,
  ⟨(some 84), (.extract (.tmp 71) 1), 4, "", #[], none⟩,
  ⟨(some 10), (.assign (.tmp 83)), 34, "", #[], none⟩,
  ⟨(some 11), (.assign (.tmp 84)), 4, "", #[], none⟩]
def F19.r13 : List Oper := [
  ⟨(some 86), (.move (.tmp 0)), 61, "", #[], none⟩,
  ⟨(some 87), (.move (.tmp 5)), 3, "", #[], none⟩,
  ⟨(some 88), (.nilCheck (.tmp 86)), 0, "", #[], none⟩,
  ⟨(some 89), (.fieldAddr 66 (.tmp 88) 1), 0, "", #[], none⟩,
  ⟨(some 90), (.indexAddr 63 (.tmp 89) (.tmp 87)), 0, "", #[], none⟩,
  ⟨(some 92), (.fieldAddr 69 (.tmp 3) 2), 0, "", #[], none⟩,
  ⟨(some 94), (.fieldAddr 69 (.tmp 3) 4), 0, "", #[], none⟩,
  ⟨(some 91), (.load 29 (.tmp 90)), 29, "", #[⟨1024, .data⟩], none⟩,
  ⟨(some 93), (.load 34 (.tmp 92)), 34, "", #[⟨1024, .data⟩], none⟩,
  ⟨(some 95), (.load 9 (.tmp 94)), 9, "", #[⟨1024, .data⟩], none⟩,
  ⟨(some 96), (.call ⟨(.value (.func 52)), #[(.tmp 91), (.tmp 93), (.tmp 95)], #[29, 34, 9]⟩), 117, "", #[⟨10, .chain⟩], none⟩,
  ⟨(some 85), (.move (.tmp 96)), 117, "", #[], none⟩,
  ⟨(some 97), (.extract (.tmp 85) 0), 34, "", #[], none⟩,
  ⟨(some 98), (.extract (.tmp 85) 1), 4, "", #[], none⟩,
  ⟨(some 12), (.assign (.tmp 97)), 34, "", #[], none⟩,
  ⟨(some 13), (.assign (.tmp 98)), 4, "", #[], none⟩]
def F19.r14 : List Oper := [
  op 99 (.move (.tmp 10)) 34,
  op 100 (.move (.tmp 12)) 34,
  op 101 (.binOp .eql 34 (.tmp 99) (.tmp 100) 34) 4,
  op 102 (.move (.tmp 101)) 4,
  og 103 (.move (.tmp 11)) 4 102 true,
  og 104 (.move (.tmp 13)) 4 102 true,
  og 105 (.binOp .eql 4 (.tmp 103) (.tmp 104) 4) 4 102 true,
  op 106 (.pick (.tmp 102) (.tmp 105) (.const (.bool false))) 4,
  op 4 (.assign (.tmp 106)) 4]
def F19.r15 : List Oper := [
  op 108 (.binOp .eql 3 (.tmp 27) (.const (.int .i64 4)) 3) 4,
  op 107 (.assign (.tmp 108)) 4]
def F19.r16 : List Oper := [
  ⟨(some 110), (.move (.tmp 0)), 61, "", #[], none⟩,
  ⟨(some 111), (.move (.tmp 5)), 3, "", #[], none⟩,
  ⟨(some 112), (.nilCheck (.tmp 110)), 0, "", #[], none⟩,
  ⟨(some 113), (.fieldAddr 66 (.tmp 112) 0), 0, "", #[], none⟩,
  ⟨(some 114), (.indexAddr 62 (.tmp 113) (.tmp 111)), 0, "", #[], none⟩,
  ⟨(some 116), (.fieldAddr 69 (.tmp 3) 2), 0, "", #[], none⟩,
  ⟨(some 118), (.fieldAddr 69 (.tmp 3) 3), 0, "", #[], none⟩,
  ⟨(some 115), (.load 27 (.tmp 114)), 27, "", #[⟨1024, .data⟩], none⟩,
  ⟨(some 117), (.load 34 (.tmp 116)), 34, "", #[⟨1024, .data⟩], none⟩,
  ⟨(some 119), (.load 34 (.tmp 118)), 34, "", #[⟨1024, .data⟩], none⟩,
  ⟨(some 120), (.call ⟨(.value (.func 53)), #[(.tmp 115), (.tmp 117), (.tmp 119)], #[27, 34, 34]⟩), 117, "", #[⟨10, .chain⟩], none⟩,
  ⟨(some 109), (.move (.tmp 120)), 117, "", #[], none⟩,
  ⟨(some 121), (.extract (.tmp 109) 0), 34, "", #[], none⟩,
  ⟨(some 122), (.extract (.tmp 109) 1), 4, "", #[], none⟩,
  ⟨(some 14), (.assign (.tmp 121)), 34, "", #[], none⟩,
  ⟨(some 15), (.assign (.tmp 122)), 4, "", #[], none⟩]
def F19.r17 : List Oper := [
  ⟨(some 124), (.move (.tmp 0)), 61, "", #[], none⟩,
  ⟨(some 125), (.move (.tmp 5)), 3, "", #[], none⟩,
  ⟨(some 126), (.nilCheck (.tmp 124)), 0, "", #[], none⟩,
  ⟨(some 127), (.fieldAddr 66 (.tmp 126) 1), 0, "", #[], none⟩,
  ⟨(some 128), (.indexAddr 63 (.tmp 127) (.tmp 125)), 0, "", #[], none⟩,
  ⟨(some 130), (.fieldAddr 69 (.tmp 3) 2), 0, "", #[], none⟩,
  ⟨(some 132), (.fieldAddr 69 (.tmp 3) 3), 0, "", #[], none⟩,
  ⟨(some 129), (.load 29 (.tmp 128)), 29, "", #[⟨1024, .data⟩], none⟩,
  ⟨(some 131), (.load 34 (.tmp 130)), 34, "", #[⟨1024, .data⟩], none⟩,
  ⟨(some 133), (.load 34 (.tmp 132)), 34, "", #[⟨1024, .data⟩], none⟩,
  ⟨(some 134), (.call ⟨(.value (.func 54)), #[(.tmp 129), (.tmp 131), (.tmp 133)], #[29, 34, 34]⟩), 117, "", #[⟨10, .chain⟩], none⟩,
  ⟨(some 123), (.move (.tmp 134)), 117, "", #[], none⟩,
  ⟨(some 135), (.extract (.tmp 123) 0), 34, "", #[], none⟩,
  ⟨(some 136), (.extract (.tmp 123) 1), 4, "", #[], none⟩,
  ⟨(some 16), (.assign (.tmp 135)), 34, "", #[], none⟩,
  ⟨(some 17), (.assign (.tmp 136)), 4, "", #[], none⟩]
def F19.r18 : List Oper := [
  op 137 (.move (.tmp 14)) 34,
  op 138 (.move (.tmp 16)) 34,
  op 139 (.binOp .eql 34 (.tmp 137) (.tmp 138) 34) 4,
  op 140 (.move (.tmp 139)) 4,
  og 141 (.move (.tmp 15)) 4 140 true,
  og 142 (.move (.tmp 17)) 4 140 true,
  og 143 (.binOp .eql 4 (.tmp 141) (.tmp 142) 4) 4 140 true,
  op 144 (.pick (.tmp 140) (.tmp 143) (.const (.bool false))) 4,
  op 4 (.assign (.tmp 144)) 4]
def F19.r19 : List Oper := [
  op 146 (.binOp .eql 3 (.tmp 27) (.const (.int .i64 5)) 3) 4,
  op 145 (.assign (.tmp 146)) 4]
def F19.r20 : List Oper := [
  op 147 (.move (.tmp 0)) 61,
  op 148 (.move (.tmp 5)) 3,
  op 149 (.fieldAddr 69 (.tmp 3) 2) 0,
  od 150 (.load 34 (.tmp 149)) 34,
  op 151 (.fieldAddr 69 (.tmp 3) 3) 0,
  od 152 (.load 34 (.tmp 151)) 34,
  op 153 (.fieldAddr 69 (.tmp 3) 5) 0,
  od 154 (.load 3 (.tmp 153)) 3,
  oc 155 (.call ⟨(.value (.func 55)), #[(.tmp 147), (.tmp 148), (.tmp 150), (.tmp 152), (.tmp 154)], #[61, 3, 34, 34, 3]⟩) 4,
  op 4 (.assign (.tmp 155)) 4]
def F19.r21 : List Oper := [
  op 157 (.binOp .eql 3 (.tmp 27) (.const (.int .i64 6)) 3) 4,
  op 156 (.assign (.tmp 157)) 4]
def F19.r22 : List Oper := [
  op 158 (.move (.tmp 0)) 61,
  op 159 (.move (.tmp 5)) 3,
  op 160 (.nilCheck (.tmp 158)) 0,
  op 161 (.fieldAddr 66 (.tmp 160) 0) 0,
  op 162 (.indexAddr 62 (.tmp 161) (.tmp 159)) 0,
  od 163 (.load 27 (.tmp 162)) 27,
  oc 164 (.call ⟨(.value (.func 22)), #[(.tmp 163)], #[27]⟩) 34,
  op 18 (.assign (.tmp 164)) 34]
def F19.r23 : List Oper := [
  op 165 (.move (.tmp 0)) 61,
  op 166 (.move (.tmp 5)) 3,
  op 167 (.nilCheck (.tmp 165)) 0,
  op 168 (.fieldAddr 66 (.tmp 167) 0) 0,
  op 169 (.indexAddr 62 (.tmp 168) (.tmp 166)) 0,
  od 170 (.load 27 (.tmp 169)) 27,
  oc 171 (.call ⟨(.value (.func 26)), #[(.tmp 170)], #[27]⟩) 3,
  op 19 (.assign (.tmp 171)) 3]
def F19.r24 : List Oper := [
  op 172 (.move (.tmp 0)) 61,
  op 173 (.move (.tmp 5)) 3,
  op 174 (.nilCheck (.tmp 172)) 0,
  op 175 (.fieldAddr 66 (.tmp 174) 1) 0,
  op 176 (.indexAddr 63 (.tmp 175) (.tmp 173)) 0,
  od 177 (.load 29 (.tmp 176)) 29,
  oc 178 (.call ⟨(.value (.func 56)), #[(.tmp 177)], #[29]⟩) 34,
  op 20 (.assign (.tmp 178)) 34]
def F19.r25 : List Oper := [
  op 179 (.move (.tmp 0)) 61,
  op 180 (.move (.tmp 5)) 3,
  op 181 (.nilCheck (.tmp 179)) 0,
  op 182 (.fieldAddr 66 (.tmp 181) 1) 0,
  op 183 (.indexAddr 63 (.tmp 182) (.tmp 180)) 0,
  od 184 (.load 29 (.tmp 183)) 29,
  oc 185 (.call ⟨(.value (.func 57)), #[(.tmp 184)], #[29]⟩) 3,
  op 21 (.assign (.tmp 185)) 3]
def F19.r26 : List Oper := [
  op 186 (.move (.tmp 18)) 34,
  op 187 (.move (.tmp 20)) 34,
  op 188 (.binOp .eql 34 (.tmp 186) (.tmp 187) 34) 4,
  op 189 (.move (.tmp 188)) 4,
  og 190 (.move (.tmp 19)) 3 189 true,
  og 191 (.move (.tmp 21)) 3 189 true,
  og 192 (.binOp .eql 3 (.tmp 190) (.tmp 191) 3) 4 189 true,
  op 193 (.pick (.tmp 189) (.tmp 192) (.const (.bool false))) 4,
  op 4 (.assign (.tmp 193)) 4]
def F19.r27 : List Oper := [
  op 195 (.binOp .eql 3 (.tmp 27) (.const (.int .i64 7)) 3) 4,
  op 194 (.assign (.tmp 195)) 4]
def F19.r28 : List Oper := [
  op 196 (.move (.tmp 0)) 61,
  op 197 (.move (.tmp 5)) 3,
  oc 198 (.call ⟨(.value (.func 21)), #[(.tmp 196), (.tmp 197)], #[61, 3]⟩) 4,
  op 4 (.assign (.tmp 198)) 4]
def F19.r29 : List Oper := [
  op 200 (.binOp .eql 3 (.tmp 27) (.const (.int .i64 8)) 3) 4,
  op 199 (.assign (.tmp 200)) 4]
def F19.r30 : List Oper := [
  op 201 (.move (.tmp 0)) 61,
  op 202 (.move (.tmp 5)) 3,
  op 203 (.nilCheck (.tmp 201)) 0,
  op 204 (.fieldAddr 66 (.tmp 203) 0) 0,
  op 205 (.indexAddr 62 (.tmp 204) (.tmp 202)) 0,
  od 206 (.load 27 (.tmp 205)) 27,
  oc 207 (.call ⟨(.value (.func 58)), #[(.tmp 206)], #[27]⟩) 27,
  op 22 (.assign (.tmp 207)) 27]
def F19.r31 : List Oper := [
  op 208 (.move (.tmp 0)) 61,
  op 209 (.move (.tmp 5)) 3,
  op 210 (.nilCheck (.tmp 208)) 0,
  op 211 (.fieldAddr 66 (.tmp 210) 1) 0,
  op 212 (.indexAddr 63 (.tmp 211) (.tmp 209)) 0,
  od 213 (.load 29 (.tmp 212)) 29,
  oc 214 (.call ⟨(.value (.func 59)), #[(.tmp 213)], #[29]⟩) 29,
  op 23 (.assign (.tmp 214)) 29]
def F19.r32 : List Oper := [
  op 215 (.move (.tmp 22)) 27,
  op 216 (.binOp .eql 27 (.tmp 215) (.const (.pointer none)) 27) 4]
def F19.r33 : List Oper := [
  op 4 (.assign (.const (.bool false))) 4]
def F19.r34 : List Oper := [
  op 217 (.move (.tmp 0)) 61,
  op 218 (.move (.tmp 5)) 3,
  op 219 (.binOp .sub 3 (.const (.int .i64 1)) (.tmp 218) 3) 3,
  op 220 (.move (.tmp 22)) 27,
  op 221 (.nilCheck (.tmp 217)) 0,
  op 222 (.fieldAddr 66 (.tmp 221) 0) 0,
  op 223 (.indexAddr 62 (.tmp 222) (.tmp 219)) 0,
  ⟨none, (.store 27 (.tmp 223) (.tmp 220)), 0, "", #[⟨0, .chain⟩], none⟩]
def F19.r35 : List Oper := [
  op 224 (.move (.tmp 0)) 61,
  op 225 (.move (.tmp 5)) 3,
  op 226 (.binOp .sub 3 (.const (.int .i64 1)) (.tmp 225) 3) 3,
  op 227 (.move (.tmp 23)) 29,
  op 228 (.nilCheck (.tmp 224)) 0,
  op 229 (.fieldAddr 66 (.tmp 228) 1) 0,
  op 230 (.indexAddr 63 (.tmp 229) (.tmp 226)) 0,
  ⟨none, (.store 29 (.tmp 230) (.tmp 227)), 0, "", #[⟨0, .chain⟩], none⟩]
def F19.r36 : List Oper := [
  op 4 (.assign (.const (.bool true))) 4]
def F19.t10 : Cd := (.seq (.region 10 F19.r10.toArray false) .ret)
theorem F19.t10_eq {θ : Tag (F19.t10, Q, e, w)} : cwE P F19.t10 Q e w θ = cwE P (.seq (.region 10 F19.r10.toArray false) .ret) Q e w := rfl
def F19.t9 : Cd := (.seq (.tree F19.r9) F19.t10)
theorem F19.t9_eq {θ : Tag (F19.t9, Q, e, w)} : cwE P F19.t9 Q e w θ = cwE P (.seq (.tree F19.r9) F19.t10) Q e w := rfl
def F19.t34 : Cd := (.seq (.region 34 F19.r34.toArray false) (.region 35 F19.r35.toArray false))
theorem F19.t34_eq {θ : Tag (F19.t34, Q, e, w)} : cwE P F19.t34 Q e w θ = cwE P (.seq (.region 34 F19.r34.toArray false) (.region 35 F19.r35.toArray false)) Q e w := rfl
def F19.t36 : Cd := (.seq (.region 36 F19.r36.toArray false) .ret)
theorem F19.t36_eq {θ : Tag (F19.t36, Q, e, w)} : cwE P F19.t36 Q e w θ = cwE P (.seq (.region 36 F19.r36.toArray false) .ret) Q e w := rfl
def F19.t4 : Cd := (.seq (.seq (.region 4 F19.r4.toArray false) (.block 0 (.seq (.region 5 F19.r5.toArray false) (.cond (.tmp 28) (.seq (.region 6 F19.r6.toArray false) .ret) (.seq (.region 7 F19.r7.toArray false) (.cond (.tmp 35) (.seq (.tree F19.r8) F19.t9) (.seq (.region 11 F19.r11.toArray false) (.cond (.tmp 69) (.seq (.region 12 F19.r12.toArray true) (.seq (.region 13 F19.r13.toArray true) (.seq (.region 14 F19.r14.toArray false) .ret))) (.seq (.region 15 F19.r15.toArray false) (.cond (.tmp 107) (.seq (.region 16 F19.r16.toArray true) (.seq (.region 17 F19.r17.toArray true) (.seq (.region 18 F19.r18.toArray false) .ret))) (.seq (.region 19 F19.r19.toArray false) (.cond (.tmp 145) (.seq (.region 20 F19.r20.toArray false) .ret) (.seq (.region 21 F19.r21.toArray false) (.cond (.tmp 156) (.seq (.region 22 F19.r22.toArray false) (.seq (.region 23 F19.r23.toArray false) (.seq (.region 24 F19.r24.toArray false) (.seq (.region 25 F19.r25.toArray false) (.seq (.region 26 F19.r26.toArray false) .ret))))) (.seq (.region 27 F19.r27.toArray false) (.cond (.tmp 194) (.seq (.region 28 F19.r28.toArray false) .ret) (.seq (.region 29 F19.r29.toArray false) (.cond (.tmp 199) (.seq (.region 30 F19.r30.toArray false) (.seq (.region 31 F19.r31.toArray false) (.seq (.seq (.region 32 F19.r32.toArray false) (.cond (.tmp 216) (.seq (.region 33 F19.r33.toArray false) .ret) .skip)) F19.t34))) .skip)))))))))))))))))) F19.t36)
theorem F19.t4_eq {θ : Tag (F19.t4, Q, e, w)} : cwE P F19.t4 Q e w θ = cwE P (.seq (.seq (.region 4 F19.r4.toArray false) (.block 0 (.seq (.region 5 F19.r5.toArray false) (.cond (.tmp 28) (.seq (.region 6 F19.r6.toArray false) .ret) (.seq (.region 7 F19.r7.toArray false) (.cond (.tmp 35) (.seq (.tree F19.r8) F19.t9) (.seq (.region 11 F19.r11.toArray false) (.cond (.tmp 69) (.seq (.region 12 F19.r12.toArray true) (.seq (.region 13 F19.r13.toArray true) (.seq (.region 14 F19.r14.toArray false) .ret))) (.seq (.region 15 F19.r15.toArray false) (.cond (.tmp 107) (.seq (.region 16 F19.r16.toArray true) (.seq (.region 17 F19.r17.toArray true) (.seq (.region 18 F19.r18.toArray false) .ret))) (.seq (.region 19 F19.r19.toArray false) (.cond (.tmp 145) (.seq (.region 20 F19.r20.toArray false) .ret) (.seq (.region 21 F19.r21.toArray false) (.cond (.tmp 156) (.seq (.region 22 F19.r22.toArray false) (.seq (.region 23 F19.r23.toArray false) (.seq (.region 24 F19.r24.toArray false) (.seq (.region 25 F19.r25.toArray false) (.seq (.region 26 F19.r26.toArray false) .ret))))) (.seq (.region 27 F19.r27.toArray false) (.cond (.tmp 194) (.seq (.region 28 F19.r28.toArray false) .ret) (.seq (.region 29 F19.r29.toArray false) (.cond (.tmp 199) (.seq (.region 30 F19.r30.toArray false) (.seq (.region 31 F19.r31.toArray false) (.seq (.seq (.region 32 F19.r32.toArray false) (.cond (.tmp 216) (.seq (.region 33 F19.r33.toArray false) .ret) .skip)) F19.t34))) .skip)))))))))))))))))) F19.t36) Q e w := rfl
def F19.code : Cd := (.seq (.region 0 F19.r0.toArray false) (.seq (.region 1 F19.r1.toArray false) (.seq (.seq (.region 2 F19.r2.toArray false) (.cond (.tmp 25) (.region 3 F19.r3.toArray false) .skip)) F19.t4)))
theorem F19.calls (hn : args.size ≤ 231) (h : cwE Tryz.prog F19.code (fnP Tryz.prog #[(.tmp 4)] R) (entry args) w) : Calls Tryz.prog 19 args w R :=
  calls_of_cwE (types := Tryz.prog.types) follows Tryz.func19 F19.code rfl (by kernel_rfl) hn h
def F20.r0 : List Oper := [
  op 2 (.assign (.const (.bool false))) 4]
def F20.r1 : List Oper := [
  op 3 (.assign (.const (.int .i64 0))) 3]
def F20.r2 : List Oper := [
  op 5 (.move (.tmp 3)) 3,
  op 6 (.move (.tmp 0)) 61,
  op 7 (.nilCheck (.tmp 6)) 0,
  op 8 (.fieldAddr 66 (.tmp 7) 2) 0,
  od 9 (.load 64 (.tmp 8)) 64,
  op 10 (.call ⟨(.builtin .len), #[(.tmp 9)], #[64]⟩) 3,
  op 11 (.binOp .lss 3 (.tmp 5) (.tmp 10) 3) 4]
def F20.r4 : List Oper := [
  op 4 (.assign (.const (.int .i64 0))) 3]
def F20.r5 : List Oper := [
  op 14 (.move (.tmp 4)) 3,
  op 15 (.move (.tmp 0)) 61,
  op 16 (.nilCheck (.tmp 15)) 0,
  op 17 (.fieldAddr 66 (.tmp 16) 2) 0,
  od 18 (.load 64 (.tmp 17)) 64,
  op 19 (.move (.tmp 3)) 3,
  op 20 (.indexAddr 64 (.tmp 18) (.tmp 19)) 0,
  od 21 (.load 43 (.tmp 20)) 43,
  op 22 (.call ⟨(.builtin .len), #[(.tmp 21)], #[43]⟩) 3,
  op 23 (.binOp .lss 3 (.tmp 14) (.tmp 22) 3) 4]
def F20.r7 : List Oper := [
  op 26 (.move (.tmp 0)) 61,
  op 27 (.nilCheck (.tmp 26)) 0,
  op 28 (.fieldAddr 66 (.tmp 27) 2) 0,
  od 29 (.load 64 (.tmp 28)) 64,
  op 30 (.move (.tmp 3)) 3,
  op 31 (.indexAddr 64 (.tmp 29) (.tmp 30)) 0,
  od 32 (.load 43 (.tmp 31)) 43,
  op 33 (.move (.tmp 4)) 3,
  op 34 (.indexAddr 43 (.tmp 32) (.tmp 33)) 0,
  od 35 (.load 5 (.tmp 34)) 5,
  op 36 (.move (.tmp 3)) 3,
  op 37 (.binOp .quo 3 (.tmp 36) (.const (.int .i64 2)) 3) 3,
  op 38 (.binOp .add 3 (.const (.int .i64 1)) (.tmp 37) 3) 3,
  op 39 (.convert 3 5 (.tmp 38)) 5,
  op 40 (.binOp .neq 5 (.tmp 35) (.tmp 39) 5) 4]
def F20.r8 : List Oper := [
  op 2 (.assign (.const (.bool false))) 4]
def F20.r6 : List Oper := [
  op 24 (.move (.tmp 4)) 3,
  op 25 (.binOp .add 3 (.tmp 24) (.const (.int .i64 1)) 3) 3,
  op 4 (.assign (.tmp 25)) 3]
def F20.r3 : List Oper := [
  op 12 (.move (.tmp 3)) 3,
  op 13 (.binOp .add 3 (.tmp 12) (.const (.int .i64 1)) 3) 3,
  op 3 (.assign (.tmp 13)) 3]
def F20.r9 : List Oper := [
  op 2 (.assign (.const (.bool true))) 4]
def F20.t6 : Cd := (.region 6 F20.r6.toArray false)
theorem F20.t6_eq {θ : Tag (F20.t6, Q, e, w)} : cwE P F20.t6 Q e w θ = cwE P (.region 6 F20.r6.toArray false) Q e w := rfl
def F20.t7 : Cd := (.seq (.block 3 (.seq (.region 7 F20.r7.toArray false) (.cond (.tmp 40) (.seq (.region 8 F20.r8.toArray false) .ret) .skip))) F20.t6)
theorem F20.t7_eq {θ : Tag (F20.t7, Q, e, w)} : cwE P F20.t7 Q e w θ = cwE P (.seq (.block 3 (.seq (.region 7 F20.r7.toArray false) (.cond (.tmp 40) (.seq (.region 8 F20.r8.toArray false) .ret) .skip))) F20.t6) Q e w := rfl
def F20.t3 : Cd := (.region 3 F20.r3.toArray false)
theorem F20.t3_eq {θ : Tag (F20.t3, Q, e, w)} : cwE P F20.t3 Q e w θ = cwE P (.region 3 F20.r3.toArray false) Q e w := rfl
def F20.t4 : Cd := (.seq (.block 1 (.seq (.region 4 F20.r4.toArray false) (.block 2 (.loop (.seq (.seq (.region 5 F20.r5.toArray false) (.cond (.tmp 23) .skip (.exit 2))) F20.t7))))) F20.t3)
theorem F20.t4_eq {θ : Tag (F20.t4, Q, e, w)} : cwE P F20.t4 Q e w θ = cwE P (.seq (.block 1 (.seq (.region 4 F20.r4.toArray false) (.block 2 (.loop (.seq (.seq (.region 5 F20.r5.toArray false) (.cond (.tmp 23) .skip (.exit 2))) F20.t7))))) F20.t3) Q e w := rfl
def F20.t9 : Cd := (.seq (.region 9 F20.r9.toArray false) .ret)
theorem F20.t9_eq {θ : Tag (F20.t9, Q, e, w)} : cwE P F20.t9 Q e w θ = cwE P (.seq (.region 9 F20.r9.toArray false) .ret) Q e w := rfl
def F20.code : Cd := (.seq (.region 0 F20.r0.toArray false) (.seq (.seq (.region 1 F20.r1.toArray false) (.block 0 (.loop (.seq (.seq (.region 2 F20.r2.toArray false) (.cond (.tmp 11) .skip (.exit 0))) F20.t4)))) F20.t9))
theorem F20.calls (hn : args.size ≤ 41) (h : cwE Tryz.prog F20.code (fnP Tryz.prog #[(.tmp 2)] R) (entry args) w) : Calls Tryz.prog 20 args w R :=
  calls_of_cwE (types := Tryz.prog.types) follows Tryz.func20 F20.code rfl (by kernel_rfl) hn h
def F21.r0 : List Oper := [
  oc 4 (.alloc 4) 0]
def F21.r1 : List Oper := [
  op 12 (.move (.tmp 0)) 61,
  op 13 (.move (.tmp 1)) 3,
  op 14 (.nilCheck (.tmp 12)) 0,
  op 15 (.fieldAddr 66 (.tmp 14) 1) 0,
  op 16 (.indexAddr 63 (.tmp 15) (.tmp 13)) 0,
  od 17 (.load 29 (.tmp 16)) 29,
  oc 18 (.call ⟨(.value (.func 14)), #[(.tmp 17)], #[29]⟩) 50,
  oc 5 (.alloc 50) 0,
  ⟨none, (.store 50 (.tmp 5) (.tmp 18)), 0, "", #[⟨0, .chain⟩], none⟩]
def F21.r2 : List Oper := [
  op 19 (.move (.tmp 0)) 61,
  op 20 (.move (.tmp 1)) 3,
  op 21 (.nilCheck (.tmp 19)) 0,
  op 22 (.fieldAddr 66 (.tmp 21) 0) 0,
  op 23 (.indexAddr 62 (.tmp 22) (.tmp 20)) 0,
  od 24 (.load 27 (.tmp 23)) 27,
  oc 25 (.call ⟨(.value (.func 12)), #[(.tmp 24)], #[27]⟩) 47,
  op 6 (.assign (.tmp 25)) 47]
def F21.r3 : List Oper := [
  op 26 (.move (.tmp 6)) 47,
  op 27 (.binOp .eql 47 (.tmp 26) (.const .nilFunc) 47) 4]
def F21.r4 : List Oper := [
  ⟨none, (.store 4 (.tmp 4) (.const (.bool false))), 0, "", #[⟨0, .chain⟩], none⟩]
def F21.r5 : List Oper := [
  oc 7 (.alloc 3) 0,
  ⟨none, (.store 3 (.tmp 7) (.const (.int .i64 0))), 0, "", #[⟨0, .chain⟩], none⟩]
def F21.r6 : List Oper := [
  od 28 (.load 3 (.tmp 7)) 3,
  op 29 (.binOp .lss 3 (.tmp 28) (.const (.int .i64 3)) 3) 4]
def F21.r8 : List Oper := [
  oc 8 (.alloc 3) 0,
  ⟨none, (.store 3 (.tmp 8) (.const (.int .i64 0))), 0, "", #[⟨0, .chain⟩], none⟩]
def F21.r9 : List Oper := [
  op 32 (.move (.tmp 6)) 47]
def F21.r10 : List Oper := [
  oc 9 (.alloc 42) 0,
  ⟨none, (.store 42 (.tmp 9) (.tmp 33)), 0, "", #[⟨0, .chain⟩], none⟩]
def F21.r11 : List Oper := [
  ⟨(some 34), (.load 3 (.tmp 8)), 3, "", #[⟨0, .data⟩], none⟩,
  ⟨(some 35), (.load 50 (.tmp 5)), 50, "", #[⟨0, .data⟩], none⟩,
  ⟨(some 36), (.call ⟨(.builtin .len), #[(.tmp 35)], #[50]⟩), 3, "", #[], none⟩,
  ⟨(some 37), (.binOp .geq 3 (.tmp 34) (.tmp 36) 3), 4, "", #[], none⟩,
  ⟨(some 38), (.move (.tmp 37)), 4, "", #[], none⟩,
  ⟨(some 39), (.load 42 (.tmp 9)), 42, "", #[⟨0, .data⟩], (some (38, false))⟩,
  ⟨(some 40), (.load 50 (.tmp 5)), 50, "", #[⟨0, .data⟩], (some (38, false))⟩,
  ⟨(some 41), (.load 3 (.tmp 8)), 3, "", #[⟨0, .data⟩], (some (38, false))⟩,
  og 42 (.indexAddr 50 (.tmp 40) (.tmp 41)) 0 38 false,
  ⟨(some 43), (.load 42 (.tmp 42)), 42, "", #[⟨0, .data⟩], (some (38, false))⟩,
  og 44 (.binOp .neq 42 (.tmp 39) (.tmp 43) 42) 4 38 false,
  ⟨(some 45), (.pick (.tmp 38) (.const (.bool true)) (.tmp 44)), 4, "", #[], none⟩]
def F21.r12 : List Oper := [
  ⟨none, (.store 4 (.tmp 4) (.const (.bool false))), 0, "", #[⟨0, .chain⟩], none⟩]
def F21.r13 : List Oper := [
  od 46 (.load 3 (.tmp 8)) 3,
  op 47 (.binOp .add 3 (.tmp 46) (.const (.int .i64 1)) 3) 3,
  ⟨none, (.store 3 (.tmp 8) (.tmp 47)), 0, "", #[⟨0, .chain⟩], none⟩]
def F21.r14 : List Oper := [
  od 48 (.load 3 (.tmp 7)) 3,
  op 49 (.binOp .eql 3 (.tmp 48) (.const (.int .i64 1)) 3) 4,
  op 50 (.move (.tmp 49)) 4,
  ⟨(some 51), (.load 3 (.tmp 8)), 3, "", #[⟨0, .data⟩], (some (50, true))⟩,
  ⟨(some 52), (.load 50 (.tmp 5)), 50, "", #[⟨0, .data⟩], (some (50, true))⟩,
  og 53 (.call ⟨(.builtin .len), #[(.tmp 52)], #[50]⟩) 3 50 true,
  og 54 (.binOp .quo 3 (.tmp 53) (.const (.int .i64 2)) 3) 3 50 true,
  og 55 (.binOp .eql 3 (.tmp 51) (.tmp 54) 3) 4 50 true,
  op 56 (.pick (.tmp 50) (.tmp 55) (.const (.bool false))) 4]
def F21.r15 : List Oper := [
  od 57 (.load 3 (.tmp 7)) 3,
  op 58 (.binOp .neq 3 (.tmp 57) (.const (.int .i64 1)) 3) 4,
  op 59 (.move (.tmp 58)) 4,
  ⟨(some 60), (.load 3 (.tmp 8)), 3, "", #[⟨0, .data⟩], (some (59, true))⟩,
  ⟨(some 61), (.load 50 (.tmp 5)), 50, "", #[⟨0, .data⟩], (some (59, true))⟩,
  og 62 (.call ⟨(.builtin .len), #[(.tmp 61)], #[50]⟩) 3 59 true,
  og 63 (.binOp .neq 3 (.tmp 60) (.tmp 62) 3) 4 59 true,
  op 64 (.pick (.tmp 59) (.tmp 63) (.const (.bool false))) 4]
def F21.r16 : List Oper := [
  ⟨none, (.store 4 (.tmp 4) (.const (.bool false))), 0, "", #[⟨0, .chain⟩], none⟩]
def F21.r17 : List Oper := [
  od 65 (.load 3 (.tmp 7)) 3]
def F21.r18 : List Oper := [
  oc 7 (.alloc 3) 0,
  ⟨none, (.store 3 (.tmp 7) (.tmp 65)), 0, "", #[⟨0, .chain⟩], none⟩]
def F21.r7 : List Oper := [
  od 30 (.load 3 (.tmp 7)) 3,
  op 31 (.binOp .add 3 (.tmp 30) (.const (.int .i64 1)) 3) 3,
  ⟨none, (.store 3 (.tmp 7) (.tmp 31)), 0, "", #[⟨0, .chain⟩], none⟩]
def F21.r19 : List Oper := [
  op 10 (.assign (.const (.int .i64 0))) 3]
def F21.r20 : List Oper := [
  op 66 (.move (.tmp 10)) 3,
  od 67 (.load 50 (.tmp 5)) 50,
  op 68 (.call ⟨(.builtin .len), #[(.tmp 67)], #[50]⟩) 3,
  op 69 (.binOp .lss 3 (.tmp 66) (.tmp 68) 3) 4,
  op 70 (.move (.tmp 69)) 4,
  og 71 (.move (.tmp 10)) 3 70 true,
  og 72 (.binOp .lss 3 (.tmp 71) (.const (.int .i64 12)) 3) 4 70 true,
  op 73 (.pick (.tmp 70) (.tmp 72) (.const (.bool false))) 4]
def F21.r22 : List Oper := [
  op 76 (.move (.tmp 0)) 61,
  op 77 (.move (.tmp 1)) 3,
  od 78 (.load 50 (.tmp 5)) 50,
  op 79 (.move (.tmp 10)) 3,
  op 80 (.indexAddr 50 (.tmp 78) (.tmp 79)) 0,
  op 81 (.fieldAddr 42 (.tmp 80) 0) 0,
  od 82 (.load 34 (.tmp 81)) 34,
  oc 83 (.call ⟨(.value (.func 55)), #[(.tmp 76), (.tmp 77), (.tmp 82), (.const (.int .u64 0)), (.const (.int .i64 65536))], #[61, 3, 34, 34, 3]⟩) 4,
  op 11 (.assign (.tmp 83)) 4]
def F21.r23 : List Oper := [
  op 84 (.move (.tmp 11)) 4,
  op 85 (.unOp .not 4 (.tmp 84)) 4]
def F21.r24 : List Oper := [
  ⟨none, (.store 4 (.tmp 4) (.const (.bool false))), 0, "", #[⟨0, .chain⟩], none⟩]
def F21.r21 : List Oper := [
  op 74 (.move (.tmp 10)) 3,
  op 75 (.binOp .add 3 (.tmp 74) (.const (.int .i64 1)) 3) 3,
  op 10 (.assign (.tmp 75)) 3]
def F21.r25 : List Oper := [
  ⟨none, (.store 4 (.tmp 4) (.const (.bool true))), 0, "", #[⟨0, .chain⟩], none⟩]
def F21.a0 : Cd := (.region 10 F21.r10.toArray false)
def F21.b0 : Cd := (.block 3 (.seq (.seq (.region 11 F21.r11.toArray true) (.cond (.tmp 45) (.seq (.region 12 F21.r12.toArray false) .ret) .skip)) (.seq (.region 13 F21.r13.toArray false) (.seq (.region 14 F21.r14.toArray false) (.cond (.tmp 56) (.exit 2) .skip)))))
def F21.t15 : Cd := (.seq (.region 15 F21.r15.toArray false) (.cond (.tmp 64) (.seq (.region 16 F21.r16.toArray false) .ret) .skip))
theorem F21.t15_eq {θ : Tag (F21.t15, Q, e, w)} : cwE P F21.t15 Q e w θ = cwE P (.seq (.region 15 F21.r15.toArray false) (.cond (.tmp 64) (.seq (.region 16 F21.r16.toArray false) .ret) .skip)) Q e w := rfl
def F21.t17 : Cd := (.seq (.seq (.region 17 F21.r17.toArray false) (.region 18 F21.r18.toArray false)) (.region 7 F21.r7.toArray false))
theorem F21.t17_eq {θ : Tag (F21.t17, Q, e, w)} : cwE P F21.t17 Q e w θ = cwE P (.seq (.seq (.region 17 F21.r17.toArray false) (.region 18 F21.r18.toArray false)) (.region 7 F21.r7.toArray false)) Q e w := rfl
def F21.t8 : Cd := (.seq (.block 1 (.seq (.region 8 F21.r8.toArray false) (.seq (.seq (.region 9 F21.r9.toArray false) (.block 2 (.rangeFunc (.tmp 32) #[33] F21.a0 F21.b0))) F21.t15))) F21.t17)
theorem F21.t8_eq {θ : Tag (F21.t8, Q, e, w)} : cwE P F21.t8 Q e w θ = cwE P (.seq (.block 1 (.seq (.region 8 F21.r8.toArray false) (.seq (.seq (.region 9 F21.r9.toArray false) (.block 2 (.rangeFunc (.tmp 32) #[33] F21.a0 F21.b0))) F21.t15))) F21.t17) Q e w := rfl
def F21.t21 : Cd := (.region 21 F21.r21.toArray false)
theorem F21.t21_eq {θ : Tag (F21.t21, Q, e, w)} : cwE P F21.t21 Q e w θ = cwE P (.region 21 F21.r21.toArray false) Q e w := rfl
def F21.t22 : Cd := (.seq (.block 5 (.seq (.region 22 F21.r22.toArray false) (.seq (.region 23 F21.r23.toArray false) (.cond (.tmp 85) (.seq (.region 24 F21.r24.toArray false) .ret) .skip)))) F21.t21)
theorem F21.t22_eq {θ : Tag (F21.t22, Q, e, w)} : cwE P F21.t22 Q e w θ = cwE P (.seq (.block 5 (.seq (.region 22 F21.r22.toArray false) (.seq (.region 23 F21.r23.toArray false) (.cond (.tmp 85) (.seq (.region 24 F21.r24.toArray false) .ret) .skip)))) F21.t21) Q e w := rfl
def F21.t25 : Cd := (.seq (.region 25 F21.r25.toArray false) .ret)
theorem F21.t25_eq {θ : Tag (F21.t25, Q, e, w)} : cwE P F21.t25 Q e w θ = cwE P (.seq (.region 25 F21.r25.toArray false) .ret) Q e w := rfl
def F21.t19 : Cd := (.seq (.seq (.region 19 F21.r19.toArray false) (.block 4 (.loop (.seq (.seq (.region 20 F21.r20.toArray false) (.cond (.tmp 73) .skip (.exit 4))) F21.t22)))) F21.t25)
theorem F21.t19_eq {θ : Tag (F21.t19, Q, e, w)} : cwE P F21.t19 Q e w θ = cwE P (.seq (.seq (.region 19 F21.r19.toArray false) (.block 4 (.loop (.seq (.seq (.region 20 F21.r20.toArray false) (.cond (.tmp 73) .skip (.exit 4))) F21.t22)))) F21.t25) Q e w := rfl
def F21.t5 : Cd := (.seq (.seq (.region 5 F21.r5.toArray false) (.block 0 (.loop (.seq (.seq (.region 6 F21.r6.toArray false) (.cond (.tmp 29) .skip (.exit 0))) F21.t8)))) F21.t19)
theorem F21.t5_eq {θ : Tag (F21.t5, Q, e, w)} : cwE P F21.t5 Q e w θ = cwE P (.seq (.seq (.region 5 F21.r5.toArray false) (.block 0 (.loop (.seq (.seq (.region 6 F21.r6.toArray false) (.cond (.tmp 29) .skip (.exit 0))) F21.t8)))) F21.t19) Q e w := rfl
def F21.code : Cd := (.seq (.region 0 F21.r0.toArray false) (.seq (.region 1 F21.r1.toArray false) (.seq (.region 2 F21.r2.toArray false) (.seq (.seq (.region 3 F21.r3.toArray false) (.cond (.tmp 27) (.seq (.region 4 F21.r4.toArray false) .ret) .skip)) F21.t5))))
theorem F21.calls (hn : args.size ≤ 86) (h : cwE Tryz.prog F21.code (fnP Tryz.prog #[(.cell 4 4)] R) (entry args) w) : Calls Tryz.prog 21 args w R :=
  calls_of_cwE (types := Tryz.prog.types) follows Tryz.func21 F21.code rfl (by kernel_rfl) hn h
def F22.r0 : List Oper := [
  op 2 (.assign (.const (.int .u64 0))) 34]
def F22.r1 : List Oper := [
  op 3 (.move (.tmp 0)) 27,
  op 4 (.nilCheck (.tmp 3)) 0,
  op 5 (.fieldAddr 100 (.tmp 4) 0) 0,
  oc 6 (.call ⟨(.value (.func 30)), #[(.tmp 5)], #[95]⟩) 0]
def F22.r2 : List Oper := [
  op 7 (.move (.tmp 0)) 27,
  op 8 (.nilCheck (.tmp 7)) 0,
  op 9 (.fieldAddr 100 (.tmp 8) 0) 0,
  ⟨none, (.defer ⟨(.value (.func 31)), #[(.tmp 9)], #[95]⟩), 0, "", #[⟨0, .chain⟩], none⟩]
def F22.r3 : List Oper := [
  op 10 (.move (.tmp 0)) 27,
  op 11 (.nilCheck (.tmp 10)) 0,
  op 12 (.fieldAddr 100 (.tmp 11) 2) 0,
  od 13 (.load 34 (.tmp 12)) 34,
  op 2 (.assign (.tmp 13)) 34]
def F22.code : Cd := (.seq (.region 0 F22.r0.toArray false) (.seq (.region 1 F22.r1.toArray false) (.seq (.region 2 F22.r2.toArray false) (.seq (.region 3 F22.r3.toArray false) .ret))))
theorem F22.calls (hn : args.size ≤ 14) (h : cwE Tryz.prog F22.code (fnP Tryz.prog #[(.tmp 2)] R) (entry args) w) : Calls Tryz.prog 22 args w R :=
  calls_of_cwE (types := Tryz.prog.types) follows Tryz.func22 F22.code rfl (by kernel_rfl) hn h
def F23.r0 : List Oper := [
  oc 6 (.alloc 45) 0]
def F23.r1 : List Oper := [
  op 7 (.move (.tmp 0)) 34,
  op 8 (.move (.tmp 1)) 9,
  op 9 (.move (.tmp 2)) 33,
  op 10 (.build 42 #[(2, (.tmp 8)), (3, (.tmp 9)), (4, (.const (.string { data := #[97, 110, 110] }))), (5, (.const (.string { data := #[115, 116, 97, 102, 102] }))), (6, (.const (.string { data := #[97, 110, 110] })))]) 42,
  op 11 (.build 45 #[(0, (.const (.int .u8 1))), (1, (.tmp 7)), (4, (.tmp 10))]) 45,
  ⟨none, (.store 45 (.tmp 6) (.tmp 11)), 0, "", #[⟨0, .chain⟩], none⟩]
def F23.code : Cd := (.seq (.region 0 F23.r0.toArray false) (.seq (.region 1 F23.r1.toArray false) .ret))
theorem F23.calls (hn : args.size ≤ 12) (h : cwE Tryz.prog F23.code (fnP Tryz.prog #[(.cell 6 45)] R) (entry args) w) : Calls Tryz.prog 23 args w R :=
  calls_of_cwE (types := Tryz.prog.types) follows Tryz.func23 F23.code rfl (by kernel_rfl) hn h
def F24.r0 : List Oper := [
  op 8 (.assign (.const (.slice none 0 0))) 43]
def F24.r1 : List Oper := [
  op 10 (.move (.tmp 0)) 27,
  op 11 (.nilCheck (.tmp 10)) 0,
  op 12 (.fieldAddr 100 (.tmp 11) 0) 0,
  oc 13 (.call ⟨(.value (.func 30)), #[(.tmp 12)], #[95]⟩) 0]
def F24.r2 : List Oper := [
  op 14 (.move (.tmp 0)) 27,
  op 15 (.nilCheck (.tmp 14)) 0,
  op 16 (.fieldAddr 100 (.tmp 15) 0) 0,
  ⟨none, (.defer ⟨(.value (.func 31)), #[(.tmp 16)], #[95]⟩), 0, "", #[⟨0, .chain⟩], none⟩]
def F24.r3 : List Oper := [
  op 17 (.move (.tmp 0)) 27,
  op 18 (.nilCheck (.tmp 17)) 0,
  op 19 (.fieldAddr 100 (.tmp 18) 3) 0,
  od 20 (.load 96 (.tmp 19)) 96,
  op 21 (.move (.tmp 1)) 34,
  od 22 (.lookup 96 (.tmp 20) (.tmp 21) false) 101,
  op 9 (.assign (.tmp 22)) 101]
def F24.r4 : List Oper := [
  op 23 (.move (.tmp 9)) 101,
  op 24 (.binOp .eql 101 (.tmp 23) (.const (.pointer none)) 101) 4]
def F24.r5 : List Oper := [
  op 8 (.assign (.const (.slice none 0 0))) 43]
def F24.r6 : List Oper := [
  op 25 (.move (.tmp 9)) 101,
  op 26 (.nilCheck (.tmp 25)) 0,
  op 27 (.fieldAddr 104 (.tmp 26) 0) 0,
  oc 28 (.call ⟨(.value (.func 32)), #[(.tmp 27)], #[90]⟩) 0]
def F24.r7 : List Oper := [
  op 29 (.move (.tmp 9)) 101,
  op 30 (.nilCheck (.tmp 29)) 0,
  op 31 (.fieldAddr 104 (.tmp 30) 0) 0,
  ⟨none, (.defer ⟨(.value (.func 33)), #[(.tmp 31)], #[90]⟩), 0, "", #[⟨0, .chain⟩], none⟩]
def F24.r8 : List Oper := [
  op 32 (.move (.tmp 9)) 101,
  op 33 (.move (.tmp 2)) 34,
  op 34 (.move (.tmp 3)) 3,
  oc 35 (.call ⟨(.value (.func 60)), #[(.tmp 32), (.tmp 33), (.tmp 34)], #[101, 34, 3]⟩) 43,
  op 8 (.assign (.tmp 35)) 43]
def F24.t6 : Cd := (.seq (.region 6 F24.r6.toArray false) (.seq (.region 7 F24.r7.toArray false) (.seq (.region 8 F24.r8.toArray false) .ret)))
theorem F24.t6_eq {θ : Tag (F24.t6, Q, e, w)} : cwE P F24.t6 Q e w θ = cwE P (.seq (.region 6 F24.r6.toArray false) (.seq (.region 7 F24.r7.toArray false) (.seq (.region 8 F24.r8.toArray false) .ret))) Q e w := rfl
def F24.code : Cd := (.seq (.region 0 F24.r0.toArray false) (.seq (.region 1 F24.r1.toArray false) (.seq (.region 2 F24.r2.toArray false) (.seq (.region 3 F24.r3.toArray false) (.seq (.seq (.region 4 F24.r4.toArray false) (.cond (.tmp 24) (.seq (.region 5 F24.r5.toArray false) .ret) .skip)) F24.t6)))))
theorem F24.calls (hn : args.size ≤ 36) (h : cwE Tryz.prog F24.code (fnP Tryz.prog #[(.tmp 8)] R) (entry args) w) : Calls Tryz.prog 24 args w R :=
  calls_of_cwE (types := Tryz.prog.types) follows Tryz.func24 F24.code rfl (by kernel_rfl) hn h
def F25.r0 : List Oper := [
  oc 4 (.alloc 42) 0,
  op 5 (.assign (.const (.bool false))) 4]
def F25.r1 : List Oper := [
  op 6 (.move (.tmp 0)) 27,
  op 7 (.nilCheck (.tmp 6)) 0,
  op 8 (.fieldAddr 100 (.tmp 7) 0) 0,
  oc 9 (.call ⟨(.value (.func 30)), #[(.tmp 8)], #[95]⟩) 0]
def F25.r2 : List Oper := [
  op 10 (.move (.tmp 0)) 27,
  op 11 (.nilCheck (.tmp 10)) 0,
  op 12 (.fieldAddr 100 (.tmp 11) 0) 0,
  ⟨none, (.defer ⟨(.value (.func 31)), #[(.tmp 12)], #[95]⟩), 0, "", #[⟨0, .chain⟩], none⟩]
def F25.r3 : List Oper := [
  op 13 (.move (.tmp 0)) 27,
  op 14 (.move (.tmp 1)) 34,
  oc 15 (.call ⟨(.value (.func 61)), #[(.tmp 13), (.tmp 14)], #[27, 34]⟩) 75,
  op 16 (.extract (.tmp 15) 0) 42,
  op 17 (.extract (.tmp 15) 1) 4,
  ⟨none, (.store 42 (.tmp 4) (.tmp 16)), 0, "", #[⟨0, .chain⟩], none⟩,
  op 5 (.assign (.tmp 17)) 4]
def F25.code : Cd := (.seq (.region 0 F25.r0.toArray false) (.seq (.region 1 F25.r1.toArray false) (.seq (.region 2 F25.r2.toArray false) (.seq (.region 3 F25.r3.toArray false) .ret))))
theorem F25.calls (hn : args.size ≤ 18) (h : cwE Tryz.prog F25.code (fnP Tryz.prog #[(.cell 4 42), (.tmp 5)] R) (entry args) w) : Calls Tryz.prog 25 args w R :=
  calls_of_cwE (types := Tryz.prog.types) follows Tryz.func25 F25.code rfl (by kernel_rfl) hn h
def F26.r0 : List Oper := [
  op 2 (.assign (.const (.int .i64 0))) 3]
def F26.r1 : List Oper := [
  op 3 (.move (.tmp 0)) 27,
  op 4 (.nilCheck (.tmp 3)) 0,
  op 5 (.fieldAddr 100 (.tmp 4) 0) 0,
  oc 6 (.call ⟨(.value (.func 30)), #[(.tmp 5)], #[95]⟩) 0]
def F26.r2 : List Oper := [
  op 7 (.move (.tmp 0)) 27,
  op 8 (.nilCheck (.tmp 7)) 0,
  op 9 (.fieldAddr 100 (.tmp 8) 0) 0,
  ⟨none, (.defer ⟨(.value (.func 31)), #[(.tmp 9)], #[95]⟩), 0, "", #[⟨0, .chain⟩], none⟩]
def F26.r3 : List Oper := [
  op 10 (.move (.tmp 0)) 27,
  op 11 (.nilCheck (.tmp 10)) 0,
  op 12 (.fieldAddr 100 (.tmp 11) 3) 0,
  od 13 (.load 96 (.tmp 12)) 96,
  od 14 (.call ⟨(.builtin .len), #[(.tmp 13)], #[96]⟩) 3,
  op 2 (.assign (.tmp 14)) 3]
def F26.code : Cd := (.seq (.region 0 F26.r0.toArray false) (.seq (.region 1 F26.r1.toArray false) (.seq (.region 2 F26.r2.toArray false) (.seq (.region 3 F26.r3.toArray false) .ret))))
theorem F26.calls (hn : args.size ≤ 15) (h : cwE Tryz.prog F26.code (fnP Tryz.prog #[(.tmp 2)] R) (entry args) w) : Calls Tryz.prog 26 args w R :=
  calls_of_cwE (types := Tryz.prog.types) follows Tryz.func26 F26.code rfl (by kernel_rfl) hn h
def F27.r0 : List Oper := [
  oc 1 (.box 45 (.tmp 0)) 0,
  op 2 (.assign (.const (.int .i64 0))) 3]
def F27.r1 : List Oper := [
  op 3 (.fieldAddr 45 (.tmp 1) 6) 0,
  od 4 (.load 43 (.tmp 3)) 43,
  op 5 (.call ⟨(.builtin .len), #[(.tmp 4)], #[43]⟩) 3,
  op 6 (.binOp .add 3 (.const (.int .i64 100)) (.tmp 5) 3) 3,
  op 7 (.fieldAddr 45 (.tmp 1) 2) 0,
  od 8 (.load 9 (.tmp 7)) 9,
  op 9 (.call ⟨(.builtin .len), #[(.tmp 8)], #[9]⟩) 3,
  op 10 (.binOp .add 3 (.tmp 6) (.tmp 9) 3) 3,
  op 11 (.fieldAddr 45 (.tmp 1) 4) 0,
  op 12 (.fieldAddr 42 (.tmp 11) 2) 0,
  od 13 (.load 9 (.tmp 12)) 9,
  op 14 (.call ⟨(.builtin .len), #[(.tmp 13)], #[9]⟩) 3,
  op 15 (.binOp .add 3 (.tmp 10) (.tmp 14) 3) 3,
  op 16 (.fieldAddr 45 (.tmp 1) 4) 0,
  op 17 (.fieldAddr 42 (.tmp 16) 4) 0,
  od 18 (.load 9 (.tmp 17)) 9,
  op 19 (.call ⟨(.builtin .len), #[(.tmp 18)], #[9]⟩) 3,
  op 20 (.binOp .add 3 (.tmp 15) (.tmp 19) 3) 3,
  op 21 (.fieldAddr 45 (.tmp 1) 4) 0,
  op 22 (.fieldAddr 42 (.tmp 21) 5) 0,
  od 23 (.load 9 (.tmp 22)) 9,
  op 24 (.call ⟨(.builtin .len), #[(.tmp 23)], #[9]⟩) 3,
  op 25 (.binOp .add 3 (.tmp 20) (.tmp 24) 3) 3,
  op 26 (.fieldAddr 45 (.tmp 1) 4) 0,
  op 27 (.fieldAddr 42 (.tmp 26) 6) 0,
  od 28 (.load 9 (.tmp 27)) 9,
  op 29 (.call ⟨(.builtin .len), #[(.tmp 28)], #[9]⟩) 3,
  op 30 (.binOp .add 3 (.tmp 25) (.tmp 29) 3) 3,
  op 2 (.assign (.tmp 30)) 3]
def F27.code : Cd := (.seq (.region 0 F27.r0.toArray false) (.seq (.region 1 F27.r1.toArray false) .ret))
theorem F27.calls (hn : args.size ≤ 31) (h : cwE Tryz.prog F27.code (fnP Tryz.prog #[(.tmp 2)] R) (entry args) w) : Calls Tryz.prog 27 args w R :=
  calls_of_cwE (types := Tryz.prog.types) follows Tryz.func27 F27.code rfl (by kernel_rfl) hn h
def F28.r0 : List Oper := [
  op 2 (.assign (.const (.bool false))) 4]
def F28.r1 : List Oper := [
  op 4 (.move (.tmp 0)) 9,
  oc 5 (.call ⟨(.value (.func 62)), #[(.tmp 4)], #[9]⟩) 4,
  op 3 (.assign (.tmp 5)) 4]
def F28.r2 : List Oper := [
  op 6 (.move (.tmp 3)) 4,
  op 7 (.move (.tmp 6)) 4,
  og 8 (.move (.tmp 0)) 9 7 true,
  og 9 (.call ⟨(.builtin .len), #[(.tmp 8)], #[9]⟩) 3 7 true,
  og 10 (.binOp .leq 3 (.tmp 9) (.const (.int .i64 32)) 3) 4 7 true,
  op 11 (.pick (.tmp 7) (.tmp 10) (.const (.bool false))) 4,
  op 2 (.assign (.tmp 11)) 4]
def F28.code : Cd := (.seq (.region 0 F28.r0.toArray false) (.seq (.region 1 F28.r1.toArray false) (.seq (.region 2 F28.r2.toArray false) .ret)))
theorem F28.calls (hn : args.size ≤ 12) (h : cwE Tryz.prog F28.code (fnP Tryz.prog #[(.tmp 2)] R) (entry args) w) : Calls Tryz.prog 28 args w R :=
  calls_of_cwE (types := Tryz.prog.types) follows Tryz.func28 F28.code rfl (by kernel_rfl) hn h
def F29.r0 : List Oper := [
  oc 3 (.box 45 (.tmp 1)) 0,
  op 4 (.assign (.const (.int .u64 0))) 34,
  op 5 (.assign (.const (.int .i64 0))) 30]
def F29.r1 : List Oper := [
  op 7 (.move (.tmp 0)) 27,
  op 8 (.nilCheck (.tmp 7)) 0,
  op 9 (.fieldAddr 100 (.tmp 8) 0) 0,
  oc 10 (.call ⟨(.value (.func 63)), #[(.tmp 9)], #[95]⟩) 0]
def F29.r2 : List Oper := [
  op 11 (.move (.tmp 0)) 27,
  op 12 (.nilCheck (.tmp 11)) 0,
  op 13 (.fieldAddr 100 (.tmp 12) 0) 0,
  ⟨none, (.defer ⟨(.value (.func 64)), #[(.tmp 13)], #[95]⟩), 0, "", #[⟨0, .chain⟩], none⟩]
def F29.r3 : List Oper := [
  ⟨(some 14), (.move (.tmp 0)), 27, "", #[], none⟩,
  ⟨(some 15), (.nilCheck (.tmp 14)), 0, "", #[], none⟩,
  ⟨(some 16), (.fieldAddr 100 (.tmp 15) 3), 0, "", #[], none⟩,
  ⟨(some 18), (.fieldAddr 45 (.tmp 3) 1), 0, "", #[], none⟩,
  ⟨(some 17), (.load 96 (.tmp 16)), 96, "", #[⟨0, .data⟩], none⟩,
  ⟨(some 19), (.load 34 (.tmp 18)), 34, "", #[⟨0, .data⟩], none⟩,
  ⟨(some 20), (.lookup 96 (.tmp 17) (.tmp 19) false), 101, "", #[⟨0, .data⟩], none⟩,
  ⟨(some 6), (.assign (.tmp 20)), 101, "", #[], none⟩]
def F29.r4 : List Oper := [
  op 21 (.move (.tmp 6)) 101,
  op 22 (.binOp .eql 101 (.tmp 21) (.const (.pointer none)) 101) 4]
def F29.r5 : List Oper := [
  op 4 (.assign (.const (.int .u64 0))) 34,
  op 5 (.assign (.const (.int .i64 80))) 30]
def F29.r6 : List Oper := [
  op 23 (.fieldAddr 45 (.tmp 3) 0) 0,
  od 24 (.load 39 (.tmp 23)) 39]
def F29.r7 : List Oper := [
  op 26 (.binOp .eql 39 (.tmp 24) (.const (.int .u8 1)) 39) 4,
  op 25 (.assign (.tmp 26)) 4]
def F29.r8 : List Oper := [
  op 27 (.move (.tmp 0)) 27,
  op 28 (.move (.tmp 6)) 101,
  op 29 (.fieldAddr 45 (.tmp 3) 4) 0,
  od 30 (.load 42 (.tmp 29)) 42,
  oc 31 (.call ⟨(.value (.func 65)), #[(.tmp 27), (.tmp 28), (.tmp 30)], #[27, 101, 42]⟩) 37,
  op 32 (.extract (.tmp 31) 0) 34,
  op 33 (.extract (.tmp 31) 1) 30,
  op 4 (.assign (.tmp 32)) 34,
  op 5 (.assign (.tmp 33)) 30]
def F29.r9 : List Oper := [
  op 35 (.binOp .eql 39 (.tmp 24) (.const (.int .u8 2)) 39) 4,
  op 34 (.assign (.tmp 35)) 4]
def F29.r10 : List Oper := [
  op 36 (.move (.tmp 0)) 27,
  op 37 (.move (.tmp 6)) 101,
  oc 38 (.call ⟨(.value (.func 66)), #[(.tmp 36), (.tmp 37)], #[27, 101]⟩) 37,
  op 39 (.extract (.tmp 38) 0) 34,
  op 40 (.extract (.tmp 38) 1) 30,
  op 4 (.assign (.tmp 39)) 34,
  op 5 (.assign (.tmp 40)) 30]
def F29.r11 : List Oper := [
  op 41 (.move (.tmp 0)) 27,
  op 42 (.move (.tmp 6)) 101,
  op 43 (.fieldAddr 45 (.tmp 3) 2) 0,
  od 44 (.load 9 (.tmp 43)) 9,
  oc 45 (.call ⟨(.value (.func 67)), #[(.tmp 41), (.tmp 42), (.tmp 44)], #[27, 101, 9]⟩) 37,
  op 46 (.extract (.tmp 45) 0) 34,
  op 47 (.extract (.tmp 45) 1) 30,
  op 4 (.assign (.tmp 46)) 34,
  op 5 (.assign (.tmp 47)) 30]
def F29.t11 : Cd := (.seq (.region 11 F29.r11.toArray false) .ret)
theorem F29.t11_eq {θ : Tag (F29.t11, Q, e, w)} : cwE P F29.t11 Q e w θ = cwE P (.seq (.region 11 F29.r11.toArray false) .ret) Q e w := rfl
def F29.t6 : Cd := (.seq (.seq (.region 6 F29.r6.toArray false) (.block 0 (.seq (.region 7 F29.r7.toArray false) (.cond (.tmp 25) (.seq (.region 8 F29.r8.toArray false) .ret) (.seq (.region 9 F29.r9.toArray false) (.cond (.tmp 34) (.seq (.region 10 F29.r10.toArray false) .ret) .skip)))))) F29.t11)
theorem F29.t6_eq {θ : Tag (F29.t6, Q, e, w)} : cwE P F29.t6 Q e w θ = cwE P (.seq (.seq (.region 6 F29.r6.toArray false) (.block 0 (.seq (.region 7 F29.r7.toArray false) (.cond (.tmp 25) (.seq (.region 8 F29.r8.toArray false) .ret) (.seq (.region 9 F29.r9.toArray false) (.cond (.tmp 34) (.seq (.region 10 F29.r10.toArray false) .ret) .skip)))))) F29.t11) Q e w := rfl
def F29.code : Cd := (.seq (.region 0 F29.r0.toArray false) (.seq (.region 1 F29.r1.toArray false) (.seq (.region 2 F29.r2.toArray false) (.seq (.region 3 F29.r3.toArray true) (.seq (.seq (.region 4 F29.r4.toArray false) (.cond (.tmp 22) (.seq (.region 5 F29.r5.toArray false) .ret) .skip)) F29.t6)))))
theorem F29.calls (hn : args.size ≤ 48) (h : cwE Tryz.prog F29.code (fnP Tryz.prog #[(.tmp 4), (.tmp 5)] R) (entry args) w) : Calls Tryz.prog 29 args w R :=
  calls_of_cwE (types := Tryz.prog.types) follows Tryz.func29 F29.code rfl (by kernel_rfl) hn h
def F34.r0 : List Oper := [
  oc 5 (.box 42 (.tmp 2)) 0,
  op 6 (.assign (.const (.int .i64 0))) 30]
def F34.r1 : List Oper := [
  op 8 (.move (.tmp 1)) 40,
  op 9 (.binOp .andNot 40 (.tmp 8) (.const (.int .u8 127)) 40) 40,
  op 10 (.binOp .neq 40 (.tmp 9) (.const (.int .u8 0)) 40) 4,
  op 7 (.assign (.tmp 10)) 4]
def F34.r2 : List Oper := [
  op 11 (.move (.tmp 1)) 40,
  op 12 (.binOp .and 40 (.tmp 11) (.const (.int .u8 1)) 40) 40,
  op 13 (.binOp .neq 40 (.tmp 12) (.const (.int .u8 0)) 40) 4,
  op 14 (.move (.tmp 13)) 4,
  og 15 (.fieldAddr 42 (.tmp 5) 3) 0 14 true,
  ⟨(some 16), (.load 33 (.tmp 15)), 33, "", #[⟨0, .data⟩], (some (14, true))⟩,
  ⟨(some 17), (.call ⟨(.value (.func 78)), #[(.tmp 16)], #[33]⟩), 4, "", #[⟨0, .chain⟩], (some (14, true))⟩,
  og 18 (.unOp .not 4 (.tmp 17)) 4 14 true,
  op 19 (.pick (.tmp 14) (.tmp 18) (.const (.bool false))) 4,
  op 7 (.assign (.tmp 19)) 4]
def F34.r3 : List Oper := [
  op 20 (.move (.tmp 1)) 40,
  op 21 (.binOp .and 40 (.tmp 20) (.const (.int .u8 2)) 40) 40,
  op 22 (.binOp .neq 40 (.tmp 21) (.const (.int .u8 0)) 40) 4,
  op 23 (.move (.tmp 22)) 4,
  og 24 (.fieldAddr 42 (.tmp 5) 4) 0 23 true,
  ⟨(some 25), (.load 9 (.tmp 24)), 9, "", #[⟨0, .data⟩], (some (23, true))⟩,
  ⟨(some 26), (.call ⟨(.value (.func 48)), #[(.tmp 25)], #[9]⟩), 4, "", #[⟨0, .chain⟩], (some (23, true))⟩,
  og 27 (.unOp .not 4 (.tmp 26)) 4 23 true,
  op 28 (.pick (.tmp 23) (.tmp 27) (.const (.bool false))) 4,
  op 7 (.assign (.tmp 28)) 4]
def F34.r4 : List Oper := [
  op 29 (.move (.tmp 1)) 40,
  op 30 (.binOp .and 40 (.tmp 29) (.const (.int .u8 4)) 40) 40,
  op 31 (.binOp .neq 40 (.tmp 30) (.const (.int .u8 0)) 40) 4,
  op 32 (.move (.tmp 31)) 4,
  og 33 (.fieldAddr 42 (.tmp 5) 5) 0 32 true,
  ⟨(some 34), (.load 9 (.tmp 33)), 9, "", #[⟨0, .data⟩], (some (32, true))⟩,
  ⟨(some 35), (.call ⟨(.value (.func 48)), #[(.tmp 34)], #[9]⟩), 4, "", #[⟨0, .chain⟩], (some (32, true))⟩,
  og 36 (.unOp .not 4 (.tmp 35)) 4 32 true,
  op 37 (.pick (.tmp 32) (.tmp 36) (.const (.bool false))) 4,
  op 7 (.assign (.tmp 37)) 4]
def F34.r5 : List Oper := [
  op 38 (.move (.tmp 1)) 40,
  op 39 (.binOp .and 40 (.tmp 38) (.const (.int .u8 8)) 40) 40,
  op 40 (.binOp .neq 40 (.tmp 39) (.const (.int .u8 0)) 40) 4,
  op 41 (.move (.tmp 40)) 4,
  og 42 (.fieldAddr 42 (.tmp 5) 6) 0 41 true,
  ⟨(some 43), (.load 9 (.tmp 42)), 9, "", #[⟨0, .data⟩], (some (41, true))⟩,
  ⟨(some 44), (.call ⟨(.value (.func 48)), #[(.tmp 43)], #[9]⟩), 4, "", #[⟨0, .chain⟩], (some (41, true))⟩,
  og 45 (.unOp .not 4 (.tmp 44)) 4 41 true,
  op 46 (.pick (.tmp 41) (.tmp 45) (.const (.bool false))) 4,
  op 7 (.assign (.tmp 46)) 4]
def F34.r6 : List Oper := [
  op 6 (.assign (.const (.int .i64 1))) 30]
def F34.r7 : List Oper := [
  ⟨(some 48), (.move (.tmp 1)), 40, "", #[], none⟩,
  ⟨(some 49), (.binOp .and 40 (.tmp 48) (.const (.int .u8 1)) 40), 40, "", #[], none⟩,
  ⟨(some 50), (.binOp .neq 40 (.tmp 49) (.const (.int .u8 0)) 40), 4, "", #[], none⟩,
  ⟨(some 51), (.move (.tmp 50)), 4, "", #[], none⟩,
  og 52 (.fieldAddr 42 (.tmp 5) 3) 0 51 true,
  og 54 (.move (.tmp 0)) 101 51 true,
  og 55 (.nilCheck (.tmp 54)) 0 51 true,
  og 56 (.fieldAddr 104 (.tmp 55) 1) 0 51 true,
  og 57 (.fieldAddr 42 (.tmp 56) 3) 0 51 true,
  ⟨(some 53), (.load 33 (.tmp 52)), 33, "", #[⟨0, .data⟩], (some (51, true))⟩,
  ⟨(some 58), (.load 33 (.tmp 57)), 33, "", #[⟨0, .data⟩], (some (51, true))⟩,
  og 59 (.binOp .xor 33 (.tmp 53) (.tmp 58) 33) 33 51 true,
  og 60 (.binOp .and 33 (.tmp 59) (.const (.int .u32 2147483648)) 33) 33 51 true,
  og 61 (.binOp .neq 33 (.tmp 60) (.const (.int .u32 0)) 33) 4 51 true,
  ⟨(some 62), (.pick (.tmp 51) (.tmp 61) (.const (.bool false))), 4, "", #[], none⟩,
  ⟨(some 47), (.assign (.tmp 62)), 4, "", #[], none⟩]
def F34.r8 : List Oper := [
  op 6 (.assign (.const (.int .i64 81))) 30]
def F34.r9 : List Oper := [
  op 63 (.move (.tmp 1)) 40,
  op 64 (.binOp .and 40 (.tmp 63) (.const (.int .u8 1)) 40) 40,
  op 65 (.binOp .neq 40 (.tmp 64) (.const (.int .u8 0)) 40) 4]
def F34.r10 : List Oper := [
  op 66 (.move (.tmp 0)) 101,
  op 67 (.fieldAddr 42 (.tmp 5) 3) 0,
  od 68 (.load 33 (.tmp 67)) 33,
  op 69 (.nilCheck (.tmp 66)) 0,
  op 70 (.fieldAddr 104 (.tmp 69) 1) 0,
  op 71 (.fieldAddr 42 (.tmp 70) 3) 0,
  ⟨none, (.store 33 (.tmp 71) (.tmp 68)), 0, "", #[⟨0, .chain⟩], none⟩]
def F34.r11 : List Oper := [
  op 72 (.move (.tmp 1)) 40,
  op 73 (.binOp .and 40 (.tmp 72) (.const (.int .u8 2)) 40) 40,
  op 74 (.binOp .neq 40 (.tmp 73) (.const (.int .u8 0)) 40) 4]
def F34.r12 : List Oper := [
  op 75 (.move (.tmp 0)) 101,
  op 76 (.fieldAddr 42 (.tmp 5) 4) 0,
  od 77 (.load 9 (.tmp 76)) 9,
  op 78 (.nilCheck (.tmp 75)) 0,
  op 79 (.fieldAddr 104 (.tmp 78) 1) 0,
  op 80 (.fieldAddr 42 (.tmp 79) 4) 0,
  ⟨none, (.store 9 (.tmp 80) (.tmp 77)), 0, "", #[⟨0, .chain⟩], none⟩]
def F34.r13 : List Oper := [
  op 81 (.move (.tmp 1)) 40,
  op 82 (.binOp .and 40 (.tmp 81) (.const (.int .u8 4)) 40) 40,
  op 83 (.binOp .neq 40 (.tmp 82) (.const (.int .u8 0)) 40) 4]
def F34.r14 : List Oper := [
  op 84 (.move (.tmp 0)) 101,
  op 85 (.fieldAddr 42 (.tmp 5) 5) 0,
  od 86 (.load 9 (.tmp 85)) 9,
  op 87 (.nilCheck (.tmp 84)) 0,
  op 88 (.fieldAddr 104 (.tmp 87) 1) 0,
  op 89 (.fieldAddr 42 (.tmp 88) 5) 0,
  ⟨none, (.store 9 (.tmp 89) (.tmp 86)), 0, "", #[⟨0, .chain⟩], none⟩]
def F34.r15 : List Oper := [
  op 90 (.move (.tmp 1)) 40,
  op 91 (.binOp .and 40 (.tmp 90) (.const (.int .u8 8)) 40) 40,
  op 92 (.binOp .neq 40 (.tmp 91) (.const (.int .u8 0)) 40) 4]
def F34.r16 : List Oper := [
  op 93 (.move (.tmp 0)) 101,
  op 94 (.fieldAddr 42 (.tmp 5) 6) 0,
  od 95 (.load 9 (.tmp 94)) 9,
  op 96 (.nilCheck (.tmp 93)) 0,
  op 97 (.fieldAddr 104 (.tmp 96) 1) 0,
  op 98 (.fieldAddr 42 (.tmp 97) 6) 0,
  ⟨none, (.store 9 (.tmp 98) (.tmp 95)), 0, "", #[⟨0, .chain⟩], none⟩]
def F34.r17 : List Oper := [
  op 99 (.move (.tmp 1)) 40,
  op 100 (.binOp .and 40 (.tmp 99) (.const (.int .u8 16)) 40) 40,
  op 101 (.binOp .neq 40 (.tmp 100) (.const (.int .u8 0)) 40) 4]
def F34.r18 : List Oper := [
  op 102 (.move (.tmp 0)) 101,
  op 103 (.fieldAddr 42 (.tmp 5) 7) 0,
  od 104 (.load 33 (.tmp 103)) 33,
  op 105 (.nilCheck (.tmp 102)) 0,
  op 106 (.fieldAddr 104 (.tmp 105) 1) 0,
  op 107 (.fieldAddr 42 (.tmp 106) 7) 0,
  ⟨none, (.store 33 (.tmp 107) (.tmp 104)), 0, "", #[⟨0, .chain⟩], none⟩]
def F34.r19 : List Oper := [
  op 108 (.move (.tmp 1)) 40,
  op 109 (.binOp .and 40 (.tmp 108) (.const (.int .u8 32)) 40) 40,
  op 110 (.binOp .neq 40 (.tmp 109) (.const (.int .u8 0)) 40) 4]
def F34.r20 : List Oper := [
  op 111 (.move (.tmp 0)) 101,
  op 112 (.fieldAddr 42 (.tmp 5) 8) 0,
  od 113 (.load 33 (.tmp 112)) 33,
  op 114 (.nilCheck (.tmp 111)) 0,
  op 115 (.fieldAddr 104 (.tmp 114) 1) 0,
  op 116 (.fieldAddr 42 (.tmp 115) 8) 0,
  ⟨none, (.store 33 (.tmp 116) (.tmp 113)), 0, "", #[⟨0, .chain⟩], none⟩]
def F34.r21 : List Oper := [
  op 117 (.move (.tmp 1)) 40,
  op 118 (.binOp .and 40 (.tmp 117) (.const (.int .u8 64)) 40) 40,
  op 119 (.binOp .neq 40 (.tmp 118) (.const (.int .u8 0)) 40) 4]
def F34.r22 : List Oper := [
  op 120 (.move (.tmp 0)) 101,
  op 121 (.nilCheck (.tmp 120)) 0,
  op 122 (.fieldAddr 104 (.tmp 121) 1) 0,
  op 123 (.fieldAddr 42 (.tmp 122) 9) 0,
  od 124 (.load 33 (.tmp 123)) 33,
  op 125 (.binOp .add 33 (.tmp 124) (.const (.int .u32 1)) 33) 33,
  op 126 (.nilCheck (.tmp 120)) 0,
  op 127 (.fieldAddr 104 (.tmp 126) 1) 0,
  op 128 (.fieldAddr 42 (.tmp 127) 9) 0,
  ⟨none, (.store 33 (.tmp 128) (.tmp 125)), 0, "", #[⟨0, .chain⟩], none⟩]
def F34.r23 : List Oper := [
  op 6 (.assign (.const (.int .i64 0))) 30]
def F34.t6 : Cd := (.cond (.tmp 7) (.seq (.region 6 F34.r6.toArray false) .ret) (.seq (.region 7 F34.r7.toArray true) (.cond (.tmp 47) (.seq (.region 8 F34.r8.toArray false) .ret) .skip)))
theorem F34.t6_eq {θ : Tag (F34.t6, Q, e, w)} : cwE P F34.t6 Q e w θ = cwE P (.cond (.tmp 7) (.seq (.region 6 F34.r6.toArray false) .ret) (.seq (.region 7 F34.r7.toArray true) (.cond (.tmp 47) (.seq (.region 8 F34.r8.toArray false) .ret) .skip))) Q e w := rfl
def F34.t23 : Cd := (.seq (.region 23 F34.r23.toArray false) .ret)
theorem F34.t23_eq {θ : Tag (F34.t23, Q, e, w)} : cwE P F34.t23 Q e w θ = cwE P (.seq (.region 23 F34.r23.toArray false) .ret) Q e w := rfl
def F34.t21 : Cd := (.seq (.seq (.region 21 F34.r21.toArray false) (.cond (.tmp 119) (.region 22 F34.r22.toArray false) .skip)) F34.t23)
theorem F34.t21_eq {θ : Tag (F34.t21, Q, e, w)} : cwE P F34.t21 Q e w θ = cwE P (.seq (.seq (.region 21 F34.r21.toArray false) (.cond (.tmp 119) (.region 22 F34.r22.toArray false) .skip)) F34.t23) Q e w := rfl
def F34.t19 : Cd := (.seq (.seq (.region 19 F34.r19.toArray false) (.cond (.tmp 110) (.region 20 F34.r20.toArray false) .skip)) F34.t21)
theorem F34.t19_eq {θ : Tag (F34.t19, Q, e, w)} : cwE P F34.t19 Q e w θ = cwE P (.seq (.seq (.region 19 F34.r19.toArray false) (.cond (.tmp 110) (.region 20 F34.r20.toArray false) .skip)) F34.t21) Q e w := rfl
def F34.t17 : Cd := (.seq (.seq (.region 17 F34.r17.toArray false) (.cond (.tmp 101) (.region 18 F34.r18.toArray false) .skip)) F34.t19)
theorem F34.t17_eq {θ : Tag (F34.t17, Q, e, w)} : cwE P F34.t17 Q e w θ = cwE P (.seq (.seq (.region 17 F34.r17.toArray false) (.cond (.tmp 101) (.region 18 F34.r18.toArray false) .skip)) F34.t19) Q e w := rfl
def F34.t15 : Cd := (.seq (.seq (.region 15 F34.r15.toArray false) (.cond (.tmp 92) (.region 16 F34.r16.toArray false) .skip)) F34.t17)
theorem F34.t15_eq {θ : Tag (F34.t15, Q, e, w)} : cwE P F34.t15 Q e w θ = cwE P (.seq (.seq (.region 15 F34.r15.toArray false) (.cond (.tmp 92) (.region 16 F34.r16.toArray false) .skip)) F34.t17) Q e w := rfl
def F34.t13 : Cd := (.seq (.seq (.region 13 F34.r13.toArray false) (.cond (.tmp 83) (.region 14 F34.r14.toArray false) .skip)) F34.t15)
theorem F34.t13_eq {θ : Tag (F34.t13, Q, e, w)} : cwE P F34.t13 Q e w θ = cwE P (.seq (.seq (.region 13 F34.r13.toArray false) (.cond (.tmp 83) (.region 14 F34.r14.toArray false) .skip)) F34.t15) Q e w := rfl
def F34.t11 : Cd := (.seq (.seq (.region 11 F34.r11.toArray false) (.cond (.tmp 74) (.region 12 F34.r12.toArray false) .skip)) F34.t13)
theorem F34.t11_eq {θ : Tag (F34.t11, Q, e, w)} : cwE P F34.t11 Q e w θ = cwE P (.seq (.seq (.region 11 F34.r11.toArray false) (.cond (.tmp 74) (.region 12 F34.r12.toArray false) .skip)) F34.t13) Q e w := rfl
def F34.t9 : Cd := (.seq (.seq (.region 9 F34.r9.toArray false) (.cond (.tmp 65) (.region 10 F34.r10.toArray false) .skip)) F34.t11)
theorem F34.t9_eq {θ : Tag (F34.t9, Q, e, w)} : cwE P F34.t9 Q e w θ = cwE P (.seq (.seq (.region 9 F34.r9.toArray false) (.cond (.tmp 65) (.region 10 F34.r10.toArray false) .skip)) F34.t11) Q e w := rfl
def F34.code : Cd := (.seq (.region 0 F34.r0.toArray false) (.seq (.block 0 (.seq (.seq (.region 1 F34.r1.toArray false) (.cond (.tmp 7) .skip (.seq (.region 2 F34.r2.toArray false) (.cond (.tmp 7) .skip (.seq (.region 3 F34.r3.toArray false) (.cond (.tmp 7) .skip (.seq (.region 4 F34.r4.toArray false) (.cond (.tmp 7) .skip (.region 5 F34.r5.toArray false))))))))) F34.t6)) F34.t9))
theorem F34.calls (hn : args.size ≤ 129) (h : cwE Tryz.prog F34.code (fnP Tryz.prog #[(.tmp 6)] R) (entry args) w) : Calls Tryz.prog 34 args w R :=
  calls_of_cwE (types := Tryz.prog.types) follows Tryz.func34 F34.code rfl (by kernel_rfl) hn h
def F35.r0 : List Oper := [
  op 4 (.assign (.const (.int .i64 0))) 30]
def F35.r1 : List Oper := [
  op 8 (.move (.tmp 0)) 101,
  op 9 (.nilCheck (.tmp 8)) 0,
  op 10 (.fieldAddr 104 (.tmp 9) 1) 0,
  op 11 (.fieldAddr 42 (.tmp 10) 3) 0,
  od 12 (.load 33 (.tmp 11)) 33,
  op 13 (.binOp .and 33 (.tmp 12) (.const (.int .u32 2147483648)) 33) 33,
  op 14 (.binOp .neq 33 (.tmp 13) (.const (.int .u32 0)) 33) 4]
def F35.r2 : List Oper := [
  op 4 (.assign (.const (.int .i64 81))) 30]
def F35.r3 : List Oper := [
  op 15 (.move (.tmp 1)) 34,
  op 16 (.binOp .gtr 34 (.tmp 15) (.const (.int .u64 65536)) 34) 4]
def F35.r4 : List Oper := [
  op 4 (.assign (.const (.int .i64 86))) 30]
def F35.r5 : List Oper := [
  op 17 (.move (.tmp 1)) 34,
  op 18 (.binOp .quo 34 (.tmp 17) (.const (.int .u64 256)) 34) 34,
  op 19 (.convert 34 3 (.tmp 18)) 3,
  op 20 (.move (.tmp 1)) 34,
  op 21 (.binOp .rem 34 (.tmp 20) (.const (.int .u64 256)) 34) 34,
  op 22 (.convert 34 3 (.tmp 21)) 3,
  op 5 (.assign (.tmp 19)) 3,
  op 6 (.assign (.tmp 22)) 3]
def F35.r6 : List Oper := [
  op 23 (.move (.tmp 6)) 3,
  op 24 (.binOp .gtr 3 (.tmp 23) (.const (.int .i64 0)) 3) 4,
  op 25 (.move (.tmp 24)) 4,
  og 26 (.move (.tmp 5)) 3 25 true,
  og 27 (.move (.tmp 0)) 101 25 true,
  og 28 (.nilCheck (.tmp 27)) 0 25 true,
  og 29 (.fieldAddr 104 (.tmp 28) 3) 0 25 true,
  ⟨(some 30), (.load 102 (.tmp 29)), 102, "", #[⟨0, .data⟩], (some (25, true))⟩,
  og 31 (.call ⟨(.builtin .len), #[(.tmp 30)], #[102]⟩) 3 25 true,
  og 32 (.binOp .lss 3 (.tmp 26) (.tmp 31) 3) 4 25 true,
  op 33 (.pick (.tmp 25) (.tmp 32) (.const (.bool false))) 4]
def F35.r7 : List Oper := [
  op 34 (.move (.tmp 0)) 101,
  op 35 (.nilCheck (.tmp 34)) 0,
  op 36 (.fieldAddr 104 (.tmp 35) 3) 0,
  od 37 (.load 102 (.tmp 36)) 102,
  op 38 (.move (.tmp 5)) 3,
  op 39 (.indexAddr 102 (.tmp 37) (.tmp 38)) 0,
  od 40 (.load 136 (.tmp 39)) 136,
  op 7 (.assign (.tmp 40)) 136]
def F35.r8 : List Oper := [
  op 41 (.move (.tmp 7)) 136,
  op 42 (.binOp .neq 136 (.tmp 41) (.const (.pointer none)) 136) 4]
def F35.r9 : List Oper := [
  op 43 (.move (.tmp 7)) 136,
  op 44 (.nilCheck (.tmp 43)) 136,
  op 45 (.move (.tmp 6)) 3,
  op 46 (.slice 137 (.tmp 44) (some (.tmp 45)) none none) 43,
  ⟨none, (.call ⟨(.builtin .clear), #[(.tmp 46)], #[43]⟩), 0, "", #[⟨0, .chain⟩], none⟩]
def F35.r10 : List Oper := [
  op 47 (.move (.tmp 5)) 3,
  op 48 (.binOp .add 3 (.tmp 47) (.const (.int .i64 1)) 3) 3,
  op 5 (.assign (.tmp 48)) 3]
def F35.r11 : List Oper := [
  op 49 (.move (.tmp 5)) 3,
  op 50 (.move (.tmp 0)) 101,
  op 51 (.nilCheck (.tmp 50)) 0,
  op 52 (.fieldAddr 104 (.tmp 51) 3) 0,
  od 53 (.load 102 (.tmp 52)) 102,
  op 54 (.call ⟨(.builtin .len), #[(.tmp 53)], #[102]⟩) 3,
  op 55 (.binOp .lss 3 (.tmp 49) (.tmp 54) 3) 4]
def F35.r12 : List Oper := [
  op 56 (.move (.tmp 0)) 101,
  op 57 (.nilCheck (.tmp 56)) 0,
  op 58 (.fieldAddr 104 (.tmp 57) 3) 0,
  od 59 (.load 102 (.tmp 58)) 102,
  op 60 (.move (.tmp 5)) 3,
  op 61 (.slice 102 (.tmp 59) (some (.tmp 60)) none none) 102,
  ⟨none, (.call ⟨(.builtin .clear), #[(.tmp 61)], #[102]⟩), 0, "", #[⟨0, .chain⟩], none⟩]
def F35.r13 : List Oper := [
  op 62 (.move (.tmp 0)) 101,
  op 63 (.move (.tmp 0)) 101,
  op 64 (.nilCheck (.tmp 63)) 0,
  op 65 (.fieldAddr 104 (.tmp 64) 3) 0,
  od 66 (.load 102 (.tmp 65)) 102,
  op 67 (.move (.tmp 5)) 3,
  op 68 (.slice 102 (.tmp 66) none (some (.tmp 67)) none) 102,
  op 69 (.nilCheck (.tmp 62)) 0,
  op 70 (.fieldAddr 104 (.tmp 69) 3) 0,
  ⟨none, (.store 102 (.tmp 70) (.tmp 68)), 0, "", #[⟨0, .chain⟩], none⟩]
def F35.r14 : List Oper := [
  op 71 (.move (.tmp 0)) 101,
  op 72 (.move (.tmp 1)) 34,
  op 73 (.nilCheck (.tmp 71)) 0,
  op 74 (.fieldAddr 104 (.tmp 73) 1) 0,
  op 75 (.fieldAddr 42 (.tmp 74) 10) 0,
  ⟨none, (.store 34 (.tmp 75) (.tmp 72)), 0, "", #[⟨0, .chain⟩], none⟩]
def F35.r15 : List Oper := [
  op 4 (.assign (.const (.int .i64 0))) 30]
def F35.t10 : Cd := (.region 10 F35.r10.toArray false)
theorem F35.t10_eq {θ : Tag (F35.t10, Q, e, w)} : cwE P F35.t10 Q e w θ = cwE P (.region 10 F35.r10.toArray false) Q e w := rfl
def F35.t14 : Cd := (.seq (.region 14 F35.r14.toArray false) (.seq (.region 15 F35.r15.toArray false) .ret))
theorem F35.t14_eq {θ : Tag (F35.t14, Q, e, w)} : cwE P F35.t14 Q e w θ = cwE P (.seq (.region 14 F35.r14.toArray false) (.seq (.region 15 F35.r15.toArray false) .ret)) Q e w := rfl
def F35.t11 : Cd := (.seq (.seq (.region 11 F35.r11.toArray false) (.cond (.tmp 55) (.seq (.region 12 F35.r12.toArray false) (.region 13 F35.r13.toArray false)) .skip)) F35.t14)
theorem F35.t11_eq {θ : Tag (F35.t11, Q, e, w)} : cwE P F35.t11 Q e w θ = cwE P (.seq (.seq (.region 11 F35.r11.toArray false) (.cond (.tmp 55) (.seq (.region 12 F35.r12.toArray false) (.region 13 F35.r13.toArray false)) .skip)) F35.t14) Q e w := rfl
def F35.t5 : Cd := (.seq (.region 5 F35.r5.toArray false) (.seq (.seq (.region 6 F35.r6.toArray false) (.cond (.tmp 33) (.seq (.seq (.region 7 F35.r7.toArray false) (.seq (.region 8 F35.r8.toArray false) (.cond (.tmp 42) (.region 9 F35.r9.toArray false) .skip))) F35.t10) .skip)) F35.t11))
theorem F35.t5_eq {θ : Tag (F35.t5, Q, e, w)} : cwE P F35.t5 Q e w θ = cwE P (.seq (.region 5 F35.r5.toArray false) (.seq (.seq (.region 6 F35.r6.toArray false) (.cond (.tmp 33) (.seq (.seq (.region 7 F35.r7.toArray false) (.seq (.region 8 F35.r8.toArray false) (.cond (.tmp 42) (.region 9 F35.r9.toArray false) .skip))) F35.t10) .skip)) F35.t11)) Q e w := rfl
def F35.t3 : Cd := (.seq (.seq (.region 3 F35.r3.toArray false) (.cond (.tmp 16) (.seq (.region 4 F35.r4.toArray false) .ret) .skip)) F35.t5)
theorem F35.t3_eq {θ : Tag (F35.t3, Q, e, w)} : cwE P F35.t3 Q e w θ = cwE P (.seq (.seq (.region 3 F35.r3.toArray false) (.cond (.tmp 16) (.seq (.region 4 F35.r4.toArray false) .ret) .skip)) F35.t5) Q e w := rfl
def F35.code : Cd := (.seq (.region 0 F35.r0.toArray false) (.seq (.seq (.region 1 F35.r1.toArray false) (.cond (.tmp 14) (.seq (.region 2 F35.r2.toArray false) .ret) .skip)) F35.t3))
theorem F35.calls (hn : args.size ≤ 76) (h : cwE Tryz.prog F35.code (fnP Tryz.prog #[(.tmp 4)] R) (entry args) w) : Calls Tryz.prog 35 args w R :=
  calls_of_cwE (types := Tryz.prog.types) follows Tryz.func35 F35.code rfl (by kernel_rfl) hn h
def F36.r0 : List Oper := [
  op 6 (.assign (.const (.int .i64 0))) 30]
def F36.r1 : List Oper := [
  op 9 (.move (.tmp 0)) 101,
  op 10 (.nilCheck (.tmp 9)) 0,
  op 11 (.fieldAddr 104 (.tmp 10) 1) 0,
  op 12 (.fieldAddr 42 (.tmp 11) 3) 0,
  od 13 (.load 33 (.tmp 12)) 33,
  op 14 (.binOp .and 33 (.tmp 13) (.const (.int .u32 2147483648)) 33) 33,
  op 15 (.binOp .neq 33 (.tmp 14) (.const (.int .u32 0)) 33) 4,
  op 8 (.assign (.tmp 15)) 4]
def F36.r2 : List Oper := [
  op 6 (.assign (.const (.int .i64 81))) 30]
def F36.r3 : List Oper := [
  op 17 (.move (.tmp 2)) 43,
  op 18 (.call ⟨(.builtin .len), #[(.tmp 17)], #[43]⟩) 3,
  op 19 (.binOp .eql 3 (.tmp 18) (.const (.int .i64 0)) 3) 4,
  op 20 (.move (.tmp 19)) 4,
  og 21 (.move (.tmp 2)) 43 20 false,
  og 22 (.call ⟨(.builtin .len), #[(.tmp 21)], #[43]⟩) 3 20 false,
  og 23 (.move (.tmp 1)) 34 20 false,
  og 24 (.binOp .rem 34 (.tmp 23) (.const (.int .u64 256)) 34) 34 20 false,
  og 25 (.convert 34 3 (.tmp 24)) 3 20 false,
  og 26 (.binOp .sub 3 (.const (.int .i64 256)) (.tmp 25) 3) 3 20 false,
  og 27 (.binOp .gtr 3 (.tmp 22) (.tmp 26) 3) 4 20 false,
  op 28 (.pick (.tmp 20) (.const (.bool true)) (.tmp 27)) 4,
  op 16 (.assign (.tmp 28)) 4]
def F36.r4 : List Oper := [
  op 6 (.assign (.const (.int .i64 84))) 30]
def F36.r5 : List Oper := [
  op 30 (.move (.tmp 1)) 34,
  op 31 (.move (.tmp 2)) 43,
  op 32 (.call ⟨(.builtin .len), #[(.tmp 31)], #[43]⟩) 3,
  op 33 (.convert 3 34 (.tmp 32)) 34,
  op 34 (.binOp .sub 34 (.const (.int .u64 65536)) (.tmp 33) 34) 34,
  op 35 (.binOp .gtr 34 (.tmp 30) (.tmp 34) 34) 4,
  op 29 (.assign (.tmp 35)) 4]
def F36.r6 : List Oper := [
  op 6 (.assign (.const (.int .i64 86))) 30]
def F36.r7 : List Oper := [
  op 36 (.move (.tmp 1)) 34,
  op 37 (.binOp .quo 34 (.tmp 36) (.const (.int .u64 256)) 34) 34,
  op 38 (.convert 34 3 (.tmp 37)) 3,
  op 7 (.assign (.tmp 38)) 3]
def F36.r8 : List Oper := [
  op 39 (.move (.tmp 0)) 101,
  op 40 (.nilCheck (.tmp 39)) 0,
  op 41 (.fieldAddr 104 (.tmp 40) 3) 0,
  od 42 (.load 102 (.tmp 41)) 102,
  op 43 (.call ⟨(.builtin .len), #[(.tmp 42)], #[102]⟩) 3,
  op 44 (.move (.tmp 7)) 3,
  op 45 (.binOp .leq 3 (.tmp 43) (.tmp 44) 3) 4]
def F36.r9 : List Oper := [
  op 46 (.move (.tmp 0)) 101,
  op 47 (.move (.tmp 0)) 101,
  op 48 (.nilCheck (.tmp 47)) 0,
  op 49 (.fieldAddr 104 (.tmp 48) 3) 0,
  od 50 (.load 102 (.tmp 49)) 102,
  oc 51 (.buildSlice 102 1 #[(0, (.const (.pointer none)))]) 102,
  oc 52 (.call ⟨(.builtin .append), #[(.tmp 50), (.tmp 51)], #[102, 102]⟩) 102,
  op 53 (.nilCheck (.tmp 46)) 0,
  op 54 (.fieldAddr 104 (.tmp 53) 3) 0,
  ⟨none, (.store 102 (.tmp 54) (.tmp 52)), 0, "", #[⟨0, .chain⟩], none⟩]
def F36.r10 : List Oper := [
  op 55 (.move (.tmp 0)) 101,
  op 56 (.nilCheck (.tmp 55)) 0,
  op 57 (.fieldAddr 104 (.tmp 56) 3) 0,
  od 58 (.load 102 (.tmp 57)) 102,
  op 59 (.move (.tmp 7)) 3,
  op 60 (.indexAddr 102 (.tmp 58) (.tmp 59)) 0,
  od 61 (.load 136 (.tmp 60)) 136,
  op 62 (.binOp .eql 136 (.tmp 61) (.const (.pointer none)) 136) 4]
def F36.r11 : List Oper := [
  op 63 (.move (.tmp 0)) 101,
  op 64 (.nilCheck (.tmp 63)) 0,
  op 65 (.fieldAddr 104 (.tmp 64) 3) 0,
  od 66 (.load 102 (.tmp 65)) 102,
  op 67 (.move (.tmp 7)) 3,
  oc 68 (.alloc 137) 136,
  op 69 (.indexAddr 102 (.tmp 66) (.tmp 67)) 0,
  ⟨none, (.store 136 (.tmp 69) (.tmp 68)), 0, "", #[⟨0, .chain⟩], none⟩]
def F36.r12 : List Oper := [
  op 70 (.move (.tmp 0)) 101,
  op 71 (.nilCheck (.tmp 70)) 0,
  op 72 (.fieldAddr 104 (.tmp 71) 3) 0,
  od 73 (.load 102 (.tmp 72)) 102,
  op 74 (.move (.tmp 7)) 3,
  op 75 (.indexAddr 102 (.tmp 73) (.tmp 74)) 0,
  od 76 (.load 136 (.tmp 75)) 136,
  op 77 (.nilCheck (.tmp 76)) 136,
  op 78 (.move (.tmp 1)) 34,
  op 79 (.binOp .rem 34 (.tmp 78) (.const (.int .u64 256)) 34) 34,
  op 80 (.slice 137 (.tmp 77) (some (.tmp 79)) none none) 43,
  op 81 (.move (.tmp 2)) 43,
  oc 82 (.call ⟨(.builtin .copy), #[(.tmp 80), (.tmp 81)], #[43, 43]⟩) 3]
def F36.r13 : List Oper := [
  op 83 (.move (.tmp 0)) 101,
  op 84 (.move (.tmp 0)) 101,
  op 85 (.nilCheck (.tmp 84)) 0,
  op 86 (.fieldAddr 104 (.tmp 85) 1) 0,
  op 87 (.fieldAddr 42 (.tmp 86) 10) 0,
  od 88 (.load 34 (.tmp 87)) 34,
  op 89 (.move (.tmp 1)) 34,
  op 90 (.move (.tmp 2)) 43,
  op 91 (.call ⟨(.builtin .len), #[(.tmp 90)], #[43]⟩) 3,
  op 92 (.convert 3 34 (.tmp 91)) 34,
  op 93 (.binOp .add 34 (.tmp 89) (.tmp 92) 34) 34,
  op 94 (.call ⟨(.builtin .max), #[(.tmp 88), (.tmp 93)], #[34, 34]⟩) 34,
  op 95 (.nilCheck (.tmp 83)) 0,
  op 96 (.fieldAddr 104 (.tmp 95) 1) 0,
  op 97 (.fieldAddr 42 (.tmp 96) 10) 0,
  ⟨none, (.store 34 (.tmp 97) (.tmp 94)), 0, "", #[⟨0, .chain⟩], none⟩]
def F36.r14 : List Oper := [
  op 6 (.assign (.const (.int .i64 0))) 30]
def F36.t9 : Cd := (.block 2 (.region 9 F36.r9.toArray false))
theorem F36.t9_eq {θ : Tag (F36.t9, Q, e, w)} : cwE P F36.t9 Q e w θ = cwE P (.block 2 (.region 9 F36.r9.toArray false)) Q e w := rfl
def F36.t12 : Cd := (.seq (.region 12 F36.r12.toArray false) (.seq (.region 13 F36.r13.toArray false) (.seq (.region 14 F36.r14.toArray false) .ret)))
theorem F36.t12_eq {θ : Tag (F36.t12, Q, e, w)} : cwE P F36.t12 Q e w θ = cwE P (.seq (.region 12 F36.r12.toArray false) (.seq (.region 13 F36.r13.toArray false) (.seq (.region 14 F36.r14.toArray false) .ret))) Q e w := rfl
def F36.t10 : Cd := (.seq (.seq (.region 10 F36.r10.toArray false) (.cond (.tmp 62) (.region 11 F36.r11.toArray false) .skip)) F36.t12)
theorem F36.t10_eq {θ : Tag (F36.t10, Q, e, w)} : cwE P F36.t10 Q e w θ = cwE P (.seq (.seq (.region 10 F36.r10.toArray false) (.cond (.tmp 62) (.region 11 F36.r11.toArray false) .skip)) F36.t12) Q e w := rfl
def F36.t7 : Cd := (.seq (.region 7 F36.r7.toArray false) (.seq (.block 1 (.loop (.seq (.seq (.region 8 F36.r8.toArray false) (.cond (.tmp 45) .skip (.exit 1))) F36.t9))) F36.t10))
theorem F36.t7_eq {θ : Tag (F36.t7, Q, e, w)} : cwE P F36.t7 Q e w θ = cwE P (.seq (.region 7 F36.r7.toArray false) (.seq (.block 1 (.loop (.seq (.seq (.region 8 F36.r8.toArray false) (.cond (.tmp 45) .skip (.exit 1))) F36.t9))) F36.t10)) Q e w := rfl
def F36.code : Cd := (.seq (.region 0 F36.r0.toArray false) (.seq (.block 0 (.seq (.region 1 F36.r1.toArray false) (.cond (.tmp 8) (.seq (.region 2 F36.r2.toArray false) .ret) (.seq (.region 3 F36.r3.toArray false) (.cond (.tmp 16) (.seq (.region 4 F36.r4.toArray false) .ret) (.seq (.region 5 F36.r5.toArray false) (.cond (.tmp 29) (.seq (.region 6 F36.r6.toArray false) .ret) .skip))))))) F36.t7))
theorem F36.calls (hn : args.size ≤ 98) (h : cwE Tryz.prog F36.code (fnP Tryz.prog #[(.tmp 6)] R) (entry args) w) : Calls Tryz.prog 36 args w R :=
  calls_of_cwE (types := Tryz.prog.types) follows Tryz.func36 F36.code rfl (by kernel_rfl) hn h
def F37.r0 : List Oper := [
  op 4 (.assign (.const (.int .i64 0))) 30]
def F37.r1 : List Oper := [
  op 5 (.move (.tmp 1)) 3,
  op 6 (.move (.tmp 0)) 101,
  op 7 (.nilCheck (.tmp 6)) 0,
  op 8 (.fieldAddr 104 (.tmp 7) 1) 0,
  op 9 (.fieldAddr 42 (.tmp 8) 11) 0,
  od 10 (.load 3 (.tmp 9)) 3,
  op 11 (.unOp .neg 3 (.tmp 10)) 3,
  op 12 (.binOp .lss 3 (.tmp 5) (.tmp 11) 3) 4,
  op 13 (.move (.tmp 12)) 4,
  og 14 (.move (.tmp 1)) 3 13 false,
  og 15 (.move (.tmp 0)) 101 13 false,
  og 16 (.nilCheck (.tmp 15)) 0 13 false,
  og 17 (.fieldAddr 104 (.tmp 16) 1) 0 13 false,
  og 18 (.fieldAddr 42 (.tmp 17) 11) 0 13 false,
  ⟨(some 19), (.load 3 (.tmp 18)), 3, "", #[⟨0, .data⟩], (some (13, false))⟩,
  og 20 (.binOp .sub 3 (.const (.int .i64 2147483647)) (.tmp 19) 3) 3 13 false,
  og 21 (.binOp .gtr 3 (.tmp 14) (.tmp 20) 3) 4 13 false,
  op 22 (.pick (.tmp 13) (.const (.bool true)) (.tmp 21)) 4]
def F37.r2 : List Oper := [
  op 4 (.assign (.const (.int .i64 87))) 30]
def F37.r3 : List Oper := [
  op 23 (.move (.tmp 0)) 101,
  op 24 (.nilCheck (.tmp 23)) 0,
  op 25 (.fieldAddr 104 (.tmp 24) 1) 0,
  op 26 (.fieldAddr 42 (.tmp 25) 11) 0,
  od 27 (.load 3 (.tmp 26)) 3,
  op 28 (.move (.tmp 1)) 3,
  op 29 (.binOp .add 3 (.tmp 27) (.tmp 28) 3) 3,
  op 30 (.nilCheck (.tmp 23)) 0,
  op 31 (.fieldAddr 104 (.tmp 30) 1) 0,
  op 32 (.fieldAddr 42 (.tmp 31) 11) 0,
  ⟨none, (.store 3 (.tmp 32) (.tmp 29)), 0, "", #[⟨0, .chain⟩], none⟩]
def F37.r4 : List Oper := [
  op 4 (.assign (.const (.int .i64 0))) 30]
def F37.t3 : Cd := (.seq (.region 3 F37.r3.toArray false) (.seq (.region 4 F37.r4.toArray false) .ret))
theorem F37.t3_eq {θ : Tag (F37.t3, Q, e, w)} : cwE P F37.t3 Q e w θ = cwE P (.seq (.region 3 F37.r3.toArray false) (.seq (.region 4 F37.r4.toArray false) .ret)) Q e w := rfl
def F37.code : Cd := (.seq (.region 0 F37.r0.toArray false) (.seq (.seq (.region 1 F37.r1.toArray false) (.cond (.tmp 22) (.seq (.region 2 F37.r2.toArray false) .ret) .skip)) F37.t3))
theorem F37.calls (hn : args.size ≤ 33) (h : cwE Tryz.prog F37.code (fnP Tryz.prog #[(.tmp 4)] R) (entry args) w) : Calls Tryz.prog 37 args w R :=
  calls_of_cwE (types := Tryz.prog.types) follows Tryz.func37 F37.code rfl (by kernel_rfl) hn h
def F38.r0 : List Oper := [
  op 4 (.assign (.const (.int .i64 0))) 3]
def F38.r1 : List Oper := [
  op 5 (.assign (.const (.int .i64 0))) 3]
def F38.r2 : List Oper := [
  op 6 (.move (.tmp 5)) 3,
  op 7 (.move (.tmp 0)) 29,
  op 8 (.nilCheck (.tmp 7)) 0,
  op 9 (.fieldAddr 84 (.tmp 8) 2) 0,
  od 10 (.load 82 (.tmp 9)) 82,
  op 11 (.call ⟨(.builtin .len), #[(.tmp 10)], #[82]⟩) 3,
  op 12 (.binOp .lss 3 (.tmp 6) (.tmp 11) 3) 4]
def F38.r4 : List Oper := [
  op 15 (.move (.tmp 0)) 29,
  op 16 (.nilCheck (.tmp 15)) 0,
  op 17 (.fieldAddr 84 (.tmp 16) 2) 0,
  od 18 (.load 82 (.tmp 17)) 82,
  op 19 (.move (.tmp 5)) 3,
  op 20 (.indexAddr 82 (.tmp 18) (.tmp 19)) 0,
  op 21 (.fieldAddr 81 (.tmp 20) 0) 0,
  op 22 (.fieldAddr 42 (.tmp 21) 0) 0,
  od 23 (.load 34 (.tmp 22)) 34,
  op 24 (.move (.tmp 1)) 34,
  op 25 (.binOp .eql 34 (.tmp 23) (.tmp 24) 34) 4]
def F38.r5 : List Oper := [
  op 26 (.move (.tmp 5)) 3,
  op 4 (.assign (.tmp 26)) 3]
def F38.r3 : List Oper := [
  op 13 (.move (.tmp 5)) 3,
  op 14 (.binOp .add 3 (.tmp 13) (.const (.int .i64 1)) 3) 3,
  op 5 (.assign (.tmp 14)) 3]
def F38.r6 : List Oper := [
  op 4 (.assign (.const (.int .i64 (-1)))) 3]
def F38.t3 : Cd := (.region 3 F38.r3.toArray false)
theorem F38.t3_eq {θ : Tag (F38.t3, Q, e, w)} : cwE P F38.t3 Q e w θ = cwE P (.region 3 F38.r3.toArray false) Q e w := rfl
def F38.t4 : Cd := (.seq (.block 1 (.seq (.region 4 F38.r4.toArray false) (.cond (.tmp 25) (.seq (.region 5 F38.r5.toArray false) .ret) .skip))) F38.t3)
theorem F38.t4_eq {θ : Tag (F38.t4, Q, e, w)} : cwE P F38.t4 Q e w θ = cwE P (.seq (.block 1 (.seq (.region 4 F38.r4.toArray false) (.cond (.tmp 25) (.seq (.region 5 F38.r5.toArray false) .ret) .skip))) F38.t3) Q e w := rfl
def F38.t6 : Cd := (.seq (.region 6 F38.r6.toArray false) .ret)
theorem F38.t6_eq {θ : Tag (F38.t6, Q, e, w)} : cwE P F38.t6 Q e w θ = cwE P (.seq (.region 6 F38.r6.toArray false) .ret) Q e w := rfl
def F38.code : Cd := (.seq (.region 0 F38.r0.toArray false) (.seq (.seq (.region 1 F38.r1.toArray false) (.block 0 (.loop (.seq (.seq (.region 2 F38.r2.toArray false) (.cond (.tmp 12) .skip (.exit 0))) F38.t4)))) F38.t6))
theorem F38.calls (hn : args.size ≤ 27) (h : cwE Tryz.prog F38.code (fnP Tryz.prog #[(.tmp 4)] R) (entry args) w) : Calls Tryz.prog 38 args w R :=
  calls_of_cwE (types := Tryz.prog.types) follows Tryz.func38 F38.code rfl (by kernel_rfl) hn h
def F39.r0 : List Oper := [
  oc 5 (.box 45 (.tmp 2)) 0,
  op 6 (.assign (.const (.int .u64 0))) 34,
  op 7 (.assign (.const (.int .i64 0))) 30]
def F39.r1 : List Oper := [
  op 16 (.fieldAddr 45 (.tmp 5) 4) 0,
  od 17 (.load 42 (.tmp 16)) 42,
  oc 8 (.alloc 42) 0,
  ⟨none, (.store 42 (.tmp 8) (.tmp 17)), 0, "", #[⟨0, .chain⟩], none⟩]
def F39.r2 : List Oper := [
  op 18 (.move (.tmp 0)) 29,
  op 19 (.nilCheck (.tmp 18)) 0,
  op 20 (.fieldAddr 84 (.tmp 19) 2) 0,
  od 21 (.load 82 (.tmp 20)) 82,
  op 22 (.move (.tmp 1)) 3,
  op 23 (.indexAddr 82 (.tmp 21) (.tmp 22)) 0,
  op 24 (.fieldAddr 81 (.tmp 23) 0) 0,
  od 25 (.load 42 (.tmp 24)) 42,
  oc 26 (.call ⟨(.value (.func 79)), #[(.tmp 25)], #[42]⟩) 4,
  op 27 (.unOp .not 4 (.tmp 26)) 4]
def F39.r3 : List Oper := [
  op 6 (.assign (.const (.int .u64 0))) 34,
  op 7 (.assign (.const (.int .i64 81))) 30]
def F39.r4 : List Oper := [
  op 28 (.fieldAddr 42 (.tmp 8) 4) 0,
  od 29 (.load 9 (.tmp 28)) 9,
  oc 30 (.call ⟨(.value (.func 28)), #[(.tmp 29)], #[9]⟩) 4,
  op 9 (.assign (.tmp 30)) 4]
def F39.r5 : List Oper := [
  op 31 (.fieldAddr 42 (.tmp 8) 5) 0,
  od 32 (.load 9 (.tmp 31)) 9,
  oc 33 (.call ⟨(.value (.func 28)), #[(.tmp 32)], #[9]⟩) 4,
  op 10 (.assign (.tmp 33)) 4]
def F39.r6 : List Oper := [
  op 34 (.fieldAddr 42 (.tmp 8) 6) 0,
  od 35 (.load 9 (.tmp 34)) 9,
  oc 36 (.call ⟨(.value (.func 28)), #[(.tmp 35)], #[9]⟩) 4,
  op 11 (.assign (.tmp 36)) 4]
def F39.r7 : List Oper := [
  op 37 (.fieldAddr 42 (.tmp 8) 3) 0,
  od 38 (.load 33 (.tmp 37)) 33,
  oc 39 (.call ⟨(.value (.func 80)), #[(.tmp 38)], #[33]⟩) 4,
  op 40 (.unOp .not 4 (.tmp 39)) 4,
  op 41 (.move (.tmp 40)) 4,
  og 42 (.move (.tmp 9)) 4 41 false,
  og 43 (.unOp .not 4 (.tmp 42)) 4 41 false,
  op 44 (.pick (.tmp 41) (.const (.bool true)) (.tmp 43)) 4,
  op 45 (.move (.tmp 44)) 4,
  og 46 (.move (.tmp 10)) 4 45 false,
  og 47 (.unOp .not 4 (.tmp 46)) 4 45 false,
  op 48 (.pick (.tmp 45) (.const (.bool true)) (.tmp 47)) 4,
  op 49 (.move (.tmp 48)) 4,
  og 50 (.move (.tmp 11)) 4 49 false,
  og 51 (.unOp .not 4 (.tmp 50)) 4 49 false,
  op 52 (.pick (.tmp 49) (.const (.bool true)) (.tmp 51)) 4]
def F39.r8 : List Oper := [
  op 6 (.assign (.const (.int .u64 0))) 34,
  op 7 (.assign (.const (.int .i64 1))) 30]
def F39.r9 : List Oper := [
  op 53 (.fieldAddr 42 (.tmp 8) 2) 0,
  od 54 (.load 9 (.tmp 53)) 9,
  oc 55 (.call ⟨(.value (.func 81)), #[(.tmp 54)], #[9]⟩) 30,
  op 12 (.assign (.tmp 55)) 30]
def F39.r10 : List Oper := [
  op 56 (.move (.tmp 12)) 30,
  op 57 (.binOp .neq 30 (.tmp 56) (.const (.int .i64 0)) 30) 4]
def F39.r11 : List Oper := [
  op 58 (.move (.tmp 12)) 30,
  op 6 (.assign (.const (.int .u64 0))) 34,
  op 7 (.assign (.tmp 58)) 30]
def F39.r12 : List Oper := [
  op 60 (.move (.tmp 0)) 29,
  op 61 (.fieldAddr 45 (.tmp 5) 1) 0,
  od 62 (.load 34 (.tmp 61)) 34,
  op 63 (.fieldAddr 42 (.tmp 8) 2) 0,
  od 64 (.load 9 (.tmp 63)) 9,
  oc 65 (.call ⟨(.value (.func 52)), #[(.tmp 60), (.tmp 62), (.tmp 64)], #[29, 34, 9]⟩) 117,
  op 59 (.move (.tmp 65)) 117,
  op 66 (.extract (.tmp 59) 0) 34,
  op 67 (.extract (.tmp 59) 1) 4,
  op 13 (.assign (.tmp 66)) 34,
  op 14 (.assign (.tmp 67)) 4]
def F39.r13 : List Oper := [
  op 68 (.move (.tmp 14)) 4]
def F39.r14 : List Oper := [
  op 6 (.assign (.const (.int .u64 0))) 34,
  op 7 (.assign (.const (.int .i64 82))) 30]
def F39.r15 : List Oper := [
  ⟨(some 69), (.move (.tmp 0)), 29, "", #[], none⟩,
  ⟨(some 70), (.nilCheck (.tmp 69)), 0, "", #[], none⟩,
  ⟨(some 71), (.fieldAddr 84 (.tmp 70) 2), 0, "", #[], none⟩,
  ⟨(some 74), (.move (.tmp 0)), 29, "", #[], none⟩,
  ⟨(some 75), (.nilCheck (.tmp 74)), 0, "", #[], none⟩,
  ⟨(some 76), (.fieldAddr 84 (.tmp 75) 0), 0, "", #[], none⟩,
  ⟨(some 72), (.load 82 (.tmp 71)), 82, "", #[⟨0, .data⟩], none⟩,
  ⟨(some 73), (.call ⟨(.builtin .len), #[(.tmp 72)], #[82]⟩), 3, "", #[], none⟩,
  ⟨(some 77), (.load 3 (.tmp 76)), 3, "", #[⟨0, .data⟩], none⟩,
  ⟨(some 78), (.binOp .geq 3 (.tmp 73) (.tmp 77) 3), 4, "", #[], none⟩]
def F39.r16 : List Oper := [
  op 6 (.assign (.const (.int .u64 0))) 34,
  op 7 (.assign (.const (.int .i64 83))) 30]
def F39.r17 : List Oper := [
  op 79 (.move (.tmp 0)) 29,
  op 80 (.nilCheck (.tmp 79)) 0,
  op 81 (.fieldAddr 84 (.tmp 80) 1) 0,
  od 82 (.load 34 (.tmp 81)) 34,
  op 15 (.assign (.tmp 82)) 34]
def F39.r18 : List Oper := [
  op 83 (.move (.tmp 0)) 29,
  op 84 (.move (.tmp 15)) 34,
  op 85 (.binOp .add 34 (.tmp 84) (.const (.int .u64 1)) 34) 34,
  op 86 (.nilCheck (.tmp 83)) 0,
  op 87 (.fieldAddr 84 (.tmp 86) 1) 0,
  ⟨none, (.store 34 (.tmp 87) (.tmp 85)), 0, "", #[⟨0, .chain⟩], none⟩]
def F39.r19 : List Oper := [
  op 88 (.move (.tmp 0)) 29,
  op 89 (.nilCheck (.tmp 88)) 0,
  op 90 (.fieldAddr 84 (.tmp 89) 2) 0,
  od 91 (.load 82 (.tmp 90)) 82,
  op 92 (.move (.tmp 1)) 3,
  op 93 (.indexAddr 82 (.tmp 91) (.tmp 92)) 0,
  op 94 (.fieldAddr 81 (.tmp 93) 0) 0,
  op 95 (.fieldAddr 42 (.tmp 94) 12) 0,
  od 96 (.load 3 (.tmp 95)) 3,
  op 97 (.binOp .add 3 (.tmp 96) (.const (.int .i64 1)) 3) 3,
  op 98 (.indexAddr 82 (.tmp 91) (.tmp 92)) 0,
  op 99 (.fieldAddr 81 (.tmp 98) 0) 0,
  op 100 (.fieldAddr 42 (.tmp 99) 12) 0,
  ⟨none, (.store 3 (.tmp 100) (.tmp 97)), 0, "", #[⟨0, .chain⟩], none⟩]
def F39.r20 : List Oper := [
  ⟨(some 101), (.move (.tmp 0)), 29, "", #[], none⟩,
  ⟨(some 102), (.move (.tmp 0)), 29, "", #[], none⟩,
  ⟨(some 103), (.nilCheck (.tmp 102)), 0, "", #[], none⟩,
  ⟨(some 104), (.fieldAddr 84 (.tmp 103) 2), 0, "", #[], none⟩,
  ⟨(some 106), (.move (.tmp 15)), 34, "", #[], none⟩,
  ⟨(some 107), (.fieldAddr 45 (.tmp 5) 1), 0, "", #[], none⟩,
  ⟨(some 109), (.fieldAddr 42 (.tmp 8) 2), 0, "", #[], none⟩,
  ⟨(some 111), (.fieldAddr 42 (.tmp 8) 3), 0, "", #[], none⟩,
  ⟨(some 113), (.fieldAddr 42 (.tmp 8) 4), 0, "", #[], none⟩,
  ⟨(some 115), (.fieldAddr 42 (.tmp 8) 5), 0, "", #[], none⟩,
  ⟨(some 117), (.fieldAddr 42 (.tmp 8) 6), 0, "", #[], none⟩,
  ⟨(some 119), (.fieldAddr 42 (.tmp 8) 7), 0, "", #[], none⟩,
  ⟨(some 121), (.fieldAddr 42 (.tmp 8) 8), 0, "", #[], none⟩,
  ⟨(some 105), (.load 82 (.tmp 104)), 82, "", #[⟨301989888, .data⟩], none⟩,
  ⟨(some 108), (.load 34 (.tmp 107)), 34, "", #[⟨318767104, .data⟩], none⟩,
  ⟨(some 110), (.load 9 (.tmp 109)), 9, "", #[⟨318767104, .data⟩], none⟩,
  ⟨(some 112), (.load 33 (.tmp 111)), 33, "", #[⟨318767104, .data⟩], none⟩,
  ⟨(some 114), (.load 9 (.tmp 113)), 9, "", #[⟨318767104, .data⟩], none⟩,
  ⟨(some 116), (.load 9 (.tmp 115)), 9, "", #[⟨318767104, .data⟩], none⟩,
  ⟨(some 118), (.load 9 (.tmp 117)), 9, "", #[⟨318767104, .data⟩], none⟩,
  ⟨(some 120), (.load 33 (.tmp 119)), 33, "", #[⟨318767104, .data⟩], none⟩,
  ⟨(some 122), (.load 33 (.tmp 121)), 33, "", #[⟨318767104, .data⟩], none⟩,
  ⟨(some 123), (.build 42 #[(0, (.tmp 106)), (1, (.tmp 108)), (2, (.tmp 110)), (3, (.tmp 112)), (4, (.tmp 114)), (5, (.tmp 116)), (6, (.tmp 118)), (7, (.tmp 120)), (8, (.tmp 122))]), 42, "", #[], none⟩,
  ⟨(some 124), (.build 81 #[(0, (.tmp 123))]), 81, "", #[], none⟩,
  ⟨(some 125), (.buildSlice 82 1 #[(0, (.tmp 124))]), 82, "", #[⟨24, .chain⟩], none⟩,
  ⟨(some 126), (.call ⟨(.builtin .append), #[(.tmp 105), (.tmp 125)], #[82, 82]⟩), 82, "", #[⟨25, .chain⟩], none⟩,
  ⟨(some 127), (.nilCheck (.tmp 101)), 0, "", #[], none⟩,
  ⟨(some 128), (.fieldAddr 84 (.tmp 127) 2), 0, "", #[], none⟩,
  ⟨none, (.store 82 (.tmp 128) (.tmp 126)), 0, "", #[⟨28, .chain⟩], none⟩]
def F39.r21 : List Oper := [
  op 129 (.move (.tmp 15)) 34,
  op 6 (.assign (.tmp 129)) 34,
  op 7 (.assign (.const (.int .i64 0))) 30]
def F39.t17 : Cd := (.seq (.region 17 F39.r17.toArray false) (.seq (.region 18 F39.r18.toArray false) (.seq (.region 19 F39.r19.toArray false) (.seq (.region 20 F39.r20.toArray true) (.seq (.region 21 F39.r21.toArray false) .ret)))))
theorem F39.t17_eq {θ : Tag (F39.t17, Q, e, w)} : cwE P F39.t17 Q e w θ = cwE P (.seq (.region 17 F39.r17.toArray false) (.seq (.region 18 F39.r18.toArray false) (.seq (.region 19 F39.r19.toArray false) (.seq (.region 20 F39.r20.toArray true) (.seq (.region 21 F39.r21.toArray false) .ret))))) Q e w := rfl
def F39.t15 : Cd := (.seq (.seq (.region 15 F39.r15.toArray true) (.cond (.tmp 78) (.seq (.region 16 F39.r16.toArray false) .ret) .skip)) F39.t17)
theorem F39.t15_eq {θ : Tag (F39.t15, Q, e, w)} : cwE P F39.t15 Q e w θ = cwE P (.seq (.seq (.region 15 F39.r15.toArray true) (.cond (.tmp 78) (.seq (.region 16 F39.r16.toArray false) .ret) .skip)) F39.t17) Q e w := rfl
def F39.t12 : Cd := (.seq (.region 12 F39.r12.toArray false) (.seq (.seq (.region 13 F39.r13.toArray false) (.cond (.tmp 68) (.seq (.region 14 F39.r14.toArray false) .ret) .skip)) F39.t15))
theorem F39.t12_eq {θ : Tag (F39.t12, Q, e, w)} : cwE P F39.t12 Q e w θ = cwE P (.seq (.region 12 F39.r12.toArray false) (.seq (.seq (.region 13 F39.r13.toArray false) (.cond (.tmp 68) (.seq (.region 14 F39.r14.toArray false) .ret) .skip)) F39.t15)) Q e w := rfl
def F39.t9 : Cd := (.seq (.region 9 F39.r9.toArray false) (.seq (.seq (.region 10 F39.r10.toArray false) (.cond (.tmp 57) (.seq (.region 11 F39.r11.toArray false) .ret) .skip)) F39.t12))
theorem F39.t9_eq {θ : Tag (F39.t9, Q, e, w)} : cwE P F39.t9 Q e w θ = cwE P (.seq (.region 9 F39.r9.toArray false) (.seq (.seq (.region 10 F39.r10.toArray false) (.cond (.tmp 57) (.seq (.region 11 F39.r11.toArray false) .ret) .skip)) F39.t12)) Q e w := rfl
def F39.t4 : Cd := (.seq (.region 4 F39.r4.toArray false) (.seq (.region 5 F39.r5.toArray false) (.seq (.region 6 F39.r6.toArray false) (.seq (.seq (.region 7 F39.r7.toArray false) (.cond (.tmp 52) (.seq (.region 8 F39.r8.toArray false) .ret) .skip)) F39.t9))))
theorem F39.t4_eq {θ : Tag (F39.t4, Q, e, w)} : cwE P F39.t4 Q e w θ = cwE P (.seq (.region 4 F39.r4.toArray false) (.seq (.region 5 F39.r5.toArray false) (.seq (.region 6 F39.r6.toArray false) (.seq (.seq (.region 7 F39.r7.toArray false) (.cond (.tmp 52) (.seq (.region 8 F39.r8.toArray false) .ret) .skip)) F39.t9)))) Q e w := rfl
def F39.code : Cd := (.seq (.region 0 F39.r0.toArray false) (.seq (.region 1 F39.r1.toArray false) (.seq (.seq (.region 2 F39.r2.toArray false) (.cond (.tmp 27) (.seq (.region 3 F39.r3.toArray false) .ret) .skip)) F39.t4)))
theorem F39.calls (hn : args.size ≤ 130) (h : cwE Tryz.prog F39.code (fnP Tryz.prog #[(.tmp 6), (.tmp 7)] R) (entry args) w) : Calls Tryz.prog 39 args w R :=
  calls_of_cwE (types := Tryz.prog.types) follows Tryz.func39 F39.code rfl (by kernel_rfl) hn h
def F40.r0 : List Oper := [
  op 4 (.assign (.const (.int .i64 0))) 30]
def F40.r1 : List Oper := [
  op 8 (.move (.tmp 0)) 29,
  op 9 (.nilCheck (.tmp 8)) 0,
  op 10 (.fieldAddr 84 (.tmp 9) 2) 0,
  od 11 (.load 82 (.tmp 10)) 82,
  op 12 (.move (.tmp 1)) 3,
  op 13 (.indexAddr 82 (.tmp 11) (.tmp 12)) 0,
  op 14 (.fieldAddr 81 (.tmp 13) 0) 0,
  od 15 (.load 42 (.tmp 14)) 42,
  oc 5 (.alloc 42) 0,
  ⟨none, (.store 42 (.tmp 5) (.tmp 15)), 0, "", #[⟨0, .chain⟩], none⟩]
def F40.r2 : List Oper := [
  op 16 (.fieldAddr 42 (.tmp 5) 0) 0,
  od 17 (.load 34 (.tmp 16)) 34,
  op 18 (.binOp .eql 34 (.tmp 17) (.const (.int .u64 1)) 34) 4]
def F40.r3 : List Oper := [
  op 4 (.assign (.const (.int .i64 81))) 30]
def F40.r4 : List Oper := [
  op 19 (.fieldAddr 42 (.tmp 5) 12) 0,
  od 20 (.load 3 (.tmp 19)) 3,
  op 21 (.binOp .gtr 3 (.tmp 20) (.const (.int .i64 0)) 3) 4]
def F40.r5 : List Oper := [
  op 4 (.assign (.const (.int .i64 85))) 30]
def F40.r6 : List Oper := [
  op 22 (.move (.tmp 0)) 29,
  op 23 (.fieldAddr 42 (.tmp 5) 1) 0,
  od 24 (.load 34 (.tmp 23)) 34,
  oc 25 (.call ⟨(.value (.func 38)), #[(.tmp 22), (.tmp 24)], #[29, 34]⟩) 3,
  op 6 (.assign (.tmp 25)) 3]
def F40.r7 : List Oper := [
  op 26 (.move (.tmp 0)) 29,
  op 27 (.nilCheck (.tmp 26)) 0,
  op 28 (.fieldAddr 84 (.tmp 27) 2) 0,
  od 29 (.load 82 (.tmp 28)) 82,
  op 30 (.move (.tmp 6)) 3,
  op 31 (.indexAddr 82 (.tmp 29) (.tmp 30)) 0,
  op 32 (.fieldAddr 81 (.tmp 31) 0) 0,
  op 33 (.fieldAddr 42 (.tmp 32) 12) 0,
  od 34 (.load 3 (.tmp 33)) 3,
  op 35 (.binOp .sub 3 (.tmp 34) (.const (.int .i64 1)) 3) 3,
  op 36 (.indexAddr 82 (.tmp 29) (.tmp 30)) 0,
  op 37 (.fieldAddr 81 (.tmp 36) 0) 0,
  op 38 (.fieldAddr 42 (.tmp 37) 12) 0,
  ⟨none, (.store 3 (.tmp 38) (.tmp 35)), 0, "", #[⟨0, .chain⟩], none⟩]
def F40.r8 : List Oper := [
  op 7 (.assign (.const (.slice none 0 0))) 82]
def F40.r9 : List Oper := [
  op 39 (.move (.tmp 7)) 82,
  op 40 (.move (.tmp 0)) 29,
  op 41 (.nilCheck (.tmp 40)) 0,
  op 42 (.fieldAddr 84 (.tmp 41) 2) 0,
  od 43 (.load 82 (.tmp 42)) 82,
  op 44 (.move (.tmp 1)) 3,
  op 45 (.slice 82 (.tmp 43) none (some (.tmp 44)) none) 82,
  oc 46 (.call ⟨(.builtin .append), #[(.tmp 39), (.tmp 45)], #[82, 82]⟩) 82,
  op 7 (.assign (.tmp 46)) 82]
def F40.r10 : List Oper := [
  op 47 (.move (.tmp 7)) 82,
  op 48 (.move (.tmp 0)) 29,
  op 49 (.nilCheck (.tmp 48)) 0,
  op 50 (.fieldAddr 84 (.tmp 49) 2) 0,
  od 51 (.load 82 (.tmp 50)) 82,
  op 52 (.move (.tmp 1)) 3,
  op 53 (.binOp .add 3 (.tmp 52) (.const (.int .i64 1)) 3) 3,
  op 54 (.slice 82 (.tmp 51) (some (.tmp 53)) none none) 82,
  oc 55 (.call ⟨(.builtin .append), #[(.tmp 47), (.tmp 54)], #[82, 82]⟩) 82,
  op 7 (.assign (.tmp 55)) 82]
def F40.r11 : List Oper := [
  op 56 (.move (.tmp 0)) 29,
  op 57 (.move (.tmp 7)) 82,
  op 58 (.nilCheck (.tmp 56)) 0,
  op 59 (.fieldAddr 84 (.tmp 58) 2) 0,
  ⟨none, (.store 82 (.tmp 59) (.tmp 57)), 0, "", #[⟨0, .chain⟩], none⟩]
def F40.r12 : List Oper := [
  op 4 (.assign (.const (.int .i64 0))) 30]
def F40.t6 : Cd := (.seq (.region 6 F40.r6.toArray false) (.seq (.region 7 F40.r7.toArray false) (.seq (.region 8 F40.r8.toArray false) (.seq (.region 9 F40.r9.toArray false) (.seq (.region 10 F40.r10.toArray false) (.seq (.region 11 F40.r11.toArray false) (.seq (.region 12 F40.r12.toArray false) .ret)))))))
theorem F40.t6_eq {θ : Tag (F40.t6, Q, e, w)} : cwE P F40.t6 Q e w θ = cwE P (.seq (.region 6 F40.r6.toArray false) (.seq (.region 7 F40.r7.toArray false) (.seq (.region 8 F40.r8.toArray false) (.seq (.region 9 F40.r9.toArray false) (.seq (.region 10 F40.r10.toArray false) (.seq (.region 11 F40.r11.toArray false) (.seq (.region 12 F40.r12.toArray false) .ret))))))) Q e w := rfl
def F40.t4 : Cd := (.seq (.seq (.region 4 F40.r4.toArray false) (.cond (.tmp 21) (.seq (.region 5 F40.r5.toArray false) .ret) .skip)) F40.t6)
theorem F40.t4_eq {θ : Tag (F40.t4, Q, e, w)} : cwE P F40.t4 Q e w θ = cwE P (.seq (.seq (.region 4 F40.r4.toArray false) (.cond (.tmp 21) (.seq (.region 5 F40.r5.toArray false) .ret) .skip)) F40.t6) Q e w := rfl
def F40.code : Cd := (.seq (.region 0 F40.r0.toArray false) (.seq (.region 1 F40.r1.toArray false) (.seq (.seq (.region 2 F40.r2.toArray false) (.cond (.tmp 18) (.seq (.region 3 F40.r3.toArray false) .ret) .skip)) F40.t4)))
theorem F40.calls (hn : args.size ≤ 60) (h : cwE Tryz.prog F40.code (fnP Tryz.prog #[(.tmp 4)] R) (entry args) w) : Calls Tryz.prog 40 args w R :=
  calls_of_cwE (types := Tryz.prog.types) follows Tryz.func40 F40.code rfl (by kernel_rfl) hn h
def F41.r0 : List Oper := [
  op 6 (.assign (.const (.int .i64 0))) 30]
def F41.r1 : List Oper := [
  op 11 (.move (.tmp 0)) 29,
  op 12 (.nilCheck (.tmp 11)) 0,
  op 13 (.fieldAddr 84 (.tmp 12) 2) 0,
  od 14 (.load 82 (.tmp 13)) 82,
  op 15 (.move (.tmp 1)) 3,
  op 16 (.indexAddr 82 (.tmp 14) (.tmp 15)) 0,
  op 17 (.fieldAddr 81 (.tmp 16) 0) 0,
  od 18 (.load 42 (.tmp 17)) 42,
  oc 7 (.alloc 42) 0,
  ⟨none, (.store 42 (.tmp 7) (.tmp 18)), 0, "", #[⟨0, .chain⟩], none⟩]
def F41.r2 : List Oper := [
  op 19 (.fieldAddr 42 (.tmp 7) 0) 0,
  od 20 (.load 34 (.tmp 19)) 34,
  op 21 (.binOp .eql 34 (.tmp 20) (.const (.int .u64 1)) 34) 4]
def F41.r3 : List Oper := [
  op 6 (.assign (.const (.int .i64 81))) 30]
def F41.r4 : List Oper := [
  op 22 (.move (.tmp 2)) 9,
  oc 23 (.call ⟨(.value (.func 81)), #[(.tmp 22)], #[9]⟩) 30,
  op 8 (.assign (.tmp 23)) 30]
def F41.r5 : List Oper := [
  op 24 (.move (.tmp 8)) 30,
  op 25 (.binOp .neq 30 (.tmp 24) (.const (.int .i64 0)) 30) 4]
def F41.r6 : List Oper := [
  op 26 (.move (.tmp 8)) 30,
  op 6 (.assign (.tmp 26)) 30]
def F41.r7 : List Oper := [
  op 28 (.move (.tmp 0)) 29,
  op 29 (.fieldAddr 42 (.tmp 7) 1) 0,
  od 30 (.load 34 (.tmp 29)) 34,
  op 31 (.move (.tmp 2)) 9,
  oc 32 (.call ⟨(.value (.func 52)), #[(.tmp 28), (.tmp 30), (.tmp 31)], #[29, 34, 9]⟩) 117,
  op 27 (.move (.tmp 32)) 117,
  op 33 (.extract (.tmp 27) 0) 34,
  op 34 (.extract (.tmp 27) 1) 4,
  op 9 (.assign (.tmp 33)) 34,
  op 10 (.assign (.tmp 34)) 4]
def F41.r8 : List Oper := [
  op 35 (.move (.tmp 10)) 4,
  op 36 (.move (.tmp 35)) 4,
  og 37 (.move (.tmp 9)) 34 36 true,
  og 38 (.fieldAddr 42 (.tmp 7) 0) 0 36 true,
  ⟨(some 39), (.load 34 (.tmp 38)), 34, "", #[⟨0, .data⟩], (some (36, true))⟩,
  og 40 (.binOp .neq 34 (.tmp 37) (.tmp 39) 34) 4 36 true,
  op 41 (.pick (.tmp 36) (.tmp 40) (.const (.bool false))) 4]
def F41.r9 : List Oper := [
  op 6 (.assign (.const (.int .i64 82))) 30]
def F41.r10 : List Oper := [
  op 42 (.move (.tmp 0)) 29,
  op 43 (.nilCheck (.tmp 42)) 0,
  op 44 (.fieldAddr 84 (.tmp 43) 2) 0,
  od 45 (.load 82 (.tmp 44)) 82,
  op 46 (.move (.tmp 1)) 3,
  op 47 (.move (.tmp 2)) 9,
  op 48 (.indexAddr 82 (.tmp 45) (.tmp 46)) 0,
  op 49 (.fieldAddr 81 (.tmp 48) 0) 0,
  op 50 (.fieldAddr 42 (.tmp 49) 2) 0,
  ⟨none, (.store 9 (.tmp 50) (.tmp 47)), 0, "", #[⟨0, .chain⟩], none⟩]
def F41.r11 : List Oper := [
  op 6 (.assign (.const (.int .i64 0))) 30]
def F41.t10 : Cd := (.seq (.region 10 F41.r10.toArray false) (.seq (.region 11 F41.r11.toArray false) .ret))
theorem F41.t10_eq {θ : Tag (F41.t10, Q, e, w)} : cwE P F41.t10 Q e w θ = cwE P (.seq (.region 10 F41.r10.toArray false) (.seq (.region 11 F41.r11.toArray false) .ret)) Q e w := rfl
def F41.t7 : Cd := (.seq (.region 7 F41.r7.toArray false) (.seq (.seq (.region 8 F41.r8.toArray false) (.cond (.tmp 41) (.seq (.region 9 F41.r9.toArray false) .ret) .skip)) F41.t10))
theorem F41.t7_eq {θ : Tag (F41.t7, Q, e, w)} : cwE P F41.t7 Q e w θ = cwE P (.seq (.region 7 F41.r7.toArray false) (.seq (.seq (.region 8 F41.r8.toArray false) (.cond (.tmp 41) (.seq (.region 9 F41.r9.toArray false) .ret) .skip)) F41.t10)) Q e w := rfl
def F41.t4 : Cd := (.seq (.region 4 F41.r4.toArray false) (.seq (.seq (.region 5 F41.r5.toArray false) (.cond (.tmp 25) (.seq (.region 6 F41.r6.toArray false) .ret) .skip)) F41.t7))
theorem F41.t4_eq {θ : Tag (F41.t4, Q, e, w)} : cwE P F41.t4 Q e w θ = cwE P (.seq (.region 4 F41.r4.toArray false) (.seq (.seq (.region 5 F41.r5.toArray false) (.cond (.tmp 25) (.seq (.region 6 F41.r6.toArray false) .ret) .skip)) F41.t7)) Q e w := rfl
def F41.code : Cd := (.seq (.region 0 F41.r0.toArray false) (.seq (.region 1 F41.r1.toArray false) (.seq (.seq (.region 2 F41.r2.toArray false) (.cond (.tmp 21) (.seq (.region 3 F41.r3.toArray false) .ret) .skip)) F41.t4)))
theorem F41.calls (hn : args.size ≤ 51) (h : cwE Tryz.prog F41.code (fnP Tryz.prog #[(.tmp 6)] R) (entry args) w) : Calls Tryz.prog 41 args w R :=
  calls_of_cwE (types := Tryz.prog.types) follows Tryz.func41 F41.code rfl (by kernel_rfl) hn h
def F42.r0 : List Oper := [
  oc 5 (.box 45 (.tmp 2)) 0,
  op 6 (.assign (.const (.int .i64 0))) 30]
def F42.r1 : List Oper := [
  op 13 (.fieldAddr 45 (.tmp 5) 4) 0,
  od 14 (.load 42 (.tmp 13)) 42,
  oc 7 (.alloc 42) 0,
  ⟨none, (.store 42 (.tmp 7) (.tmp 14)), 0, "", #[⟨0, .chain⟩], none⟩]
def F42.r2 : List Oper := [
  op 15 (.fieldAddr 45 (.tmp 5) 3) 0,
  od 16 (.load 40 (.tmp 15)) 40,
  op 8 (.assign (.tmp 16)) 40]
def F42.r3 : List Oper := [
  op 17 (.fieldAddr 42 (.tmp 7) 4) 0,
  od 18 (.load 9 (.tmp 17)) 9,
  oc 19 (.call ⟨(.value (.func 28)), #[(.tmp 18)], #[9]⟩) 4,
  op 9 (.assign (.tmp 19)) 4]
def F42.r4 : List Oper := [
  op 20 (.fieldAddr 42 (.tmp 7) 5) 0,
  od 21 (.load 9 (.tmp 20)) 9,
  oc 22 (.call ⟨(.value (.func 28)), #[(.tmp 21)], #[9]⟩) 4,
  op 10 (.assign (.tmp 22)) 4]
def F42.r5 : List Oper := [
  op 23 (.fieldAddr 42 (.tmp 7) 6) 0,
  od 24 (.load 9 (.tmp 23)) 9,
  oc 25 (.call ⟨(.value (.func 28)), #[(.tmp 24)], #[9]⟩) 4,
  op 11 (.assign (.tmp 25)) 4]
def F42.r6 : List Oper := [
  op 26 (.move (.tmp 8)) 40,
  op 27 (.binOp .gtr 40 (.tmp 26) (.const (.int .u8 127)) 40) 4,
  op 28 (.move (.tmp 27)) 4,
  og 29 (.move (.tmp 8)) 40 28 false,
  ⟨(some 30), (.call ⟨(.value (.func 82)), #[(.tmp 29), (.const (.int .u8 1))], #[40, 40]⟩), 4, "", #[⟨0, .chain⟩], (some (28, false))⟩,
  og 31 (.move (.tmp 30)) 4 28 false,
  og 32 (.fieldAddr 42 (.tmp 7) 3) 0 31 true,
  ⟨(some 33), (.load 33 (.tmp 32)), 33, "", #[⟨0, .data⟩], (some (31, true))⟩,
  ⟨(some 34), (.call ⟨(.value (.func 80)), #[(.tmp 33)], #[33]⟩), 4, "", #[⟨0, .chain⟩], (some (31, true))⟩,
  og 35 (.unOp .not 4 (.tmp 34)) 4 31 true,
  og 36 (.pick (.tmp 31) (.tmp 35) (.const (.bool false))) 4 28 false,
  op 37 (.pick (.tmp 28) (.const (.bool true)) (.tmp 36)) 4,
  op 38 (.move (.tmp 37)) 4,
  og 39 (.move (.tmp 8)) 40 38 false,
  ⟨(some 40), (.call ⟨(.value (.func 82)), #[(.tmp 39), (.const (.int .u8 2))], #[40, 40]⟩), 4, "", #[⟨0, .chain⟩], (some (38, false))⟩,
  og 41 (.move (.tmp 40)) 4 38 false,
  og 42 (.move (.tmp 9)) 4 41 true,
  og 43 (.unOp .not 4 (.tmp 42)) 4 41 true,
  og 44 (.pick (.tmp 41) (.tmp 43) (.const (.bool false))) 4 38 false,
  op 45 (.pick (.tmp 38) (.const (.bool true)) (.tmp 44)) 4,
  op 46 (.move (.tmp 45)) 4,
  og 47 (.move (.tmp 8)) 40 46 false,
  ⟨(some 48), (.call ⟨(.value (.func 82)), #[(.tmp 47), (.const (.int .u8 4))], #[40, 40]⟩), 4, "", #[⟨0, .chain⟩], (some (46, false))⟩,
  og 49 (.move (.tmp 48)) 4 46 false,
  og 50 (.move (.tmp 10)) 4 49 true,
  og 51 (.unOp .not 4 (.tmp 50)) 4 49 true,
  og 52 (.pick (.tmp 49) (.tmp 51) (.const (.bool false))) 4 46 false,
  op 53 (.pick (.tmp 46) (.const (.bool true)) (.tmp 52)) 4,
  op 54 (.move (.tmp 53)) 4,
  og 55 (.move (.tmp 8)) 40 54 false,
  ⟨(some 56), (.call ⟨(.value (.func 82)), #[(.tmp 55), (.const (.int .u8 8))], #[40, 40]⟩), 4, "", #[⟨0, .chain⟩], (some (54, false))⟩,
  og 57 (.move (.tmp 56)) 4 54 false,
  og 58 (.move (.tmp 11)) 4 57 true,
  og 59 (.unOp .not 4 (.tmp 58)) 4 57 true,
  og 60 (.pick (.tmp 57) (.tmp 59) (.const (.bool false))) 4 54 false,
  op 61 (.pick (.tmp 54) (.const (.bool true)) (.tmp 60)) 4]
def F42.r7 : List Oper := [
  op 6 (.assign (.const (.int .i64 1))) 30]
def F42.r8 : List Oper := [
  op 62 (.move (.tmp 0)) 29,
  op 63 (.nilCheck (.tmp 62)) 0,
  op 64 (.fieldAddr 84 (.tmp 63) 2) 0,
  od 65 (.load 82 (.tmp 64)) 82,
  op 66 (.move (.tmp 1)) 3,
  op 67 (.indexAddr 82 (.tmp 65) (.tmp 66)) 0,
  op 68 (.fieldAddr 81 (.tmp 67) 0) 0,
  od 69 (.load 42 (.tmp 68)) 42,
  oc 12 (.alloc 42) 0,
  ⟨none, (.store 42 (.tmp 12) (.tmp 69)), 0, "", #[⟨0, .chain⟩], none⟩]
def F42.r9 : List Oper := [
  ⟨(some 70), (.move (.tmp 8)), 40, "", #[], none⟩,
  ⟨(some 71), (.call ⟨(.value (.func 82)), #[(.tmp 70), (.const (.int .u8 1))], #[40, 40]⟩), 4, "", #[⟨1, .chain⟩], none⟩,
  ⟨(some 72), (.move (.tmp 71)), 4, "", #[], none⟩,
  ⟨(some 73), (.load 42 (.tmp 7)), 42, "", #[⟨80, .data⟩], (some (72, true))⟩,
  ⟨(some 75), (.load 42 (.tmp 12)), 42, "", #[⟨64, .data⟩], (some (72, true))⟩,
  ⟨(some 74), (.call ⟨(.value (.func 79)), #[(.tmp 73)], #[42]⟩), 4, "", #[⟨4, .chain⟩], (some (72, true))⟩,
  ⟨(some 76), (.call ⟨(.value (.func 79)), #[(.tmp 75)], #[42]⟩), 4, "", #[⟨6, .chain⟩], (some (72, true))⟩,
  og 77 (.binOp .neq 4 (.tmp 74) (.tmp 76) 4) 4 72 true,
  ⟨(some 78), (.pick (.tmp 72) (.tmp 77) (.const (.bool false))), 4, "", #[], none⟩]
def F42.r10 : List Oper := [
  op 6 (.assign (.const (.int .i64 81))) 30]
def F42.r11 : List Oper := [
  op 79 (.move (.tmp 8)) 40,
  oc 80 (.call ⟨(.value (.func 82)), #[(.tmp 79), (.const (.int .u8 1))], #[40, 40]⟩) 4]
def F42.r12 : List Oper := [
  op 81 (.fieldAddr 42 (.tmp 7) 3) 0,
  od 82 (.load 33 (.tmp 81)) 33,
  op 83 (.fieldAddr 42 (.tmp 12) 3) 0,
  ⟨none, (.store 33 (.tmp 83) (.tmp 82)), 0, "", #[⟨0, .chain⟩], none⟩]
def F42.r13 : List Oper := [
  op 84 (.move (.tmp 8)) 40,
  oc 85 (.call ⟨(.value (.func 82)), #[(.tmp 84), (.const (.int .u8 2))], #[40, 40]⟩) 4]
def F42.r14 : List Oper := [
  op 86 (.fieldAddr 42 (.tmp 7) 4) 0,
  od 87 (.load 9 (.tmp 86)) 9,
  op 88 (.fieldAddr 42 (.tmp 12) 4) 0,
  ⟨none, (.store 9 (.tmp 88) (.tmp 87)), 0, "", #[⟨0, .chain⟩], none⟩]
def F42.r15 : List Oper := [
  op 89 (.move (.tmp 8)) 40,
  oc 90 (.call ⟨(.value (.func 82)), #[(.tmp 89), (.const (.int .u8 4))], #[40, 40]⟩) 4]
def F42.r16 : List Oper := [
  op 91 (.fieldAddr 42 (.tmp 7) 5) 0,
  od 92 (.load 9 (.tmp 91)) 9,
  op 93 (.fieldAddr 42 (.tmp 12) 5) 0,
  ⟨none, (.store 9 (.tmp 93) (.tmp 92)), 0, "", #[⟨0, .chain⟩], none⟩]
def F42.r17 : List Oper := [
  op 94 (.move (.tmp 8)) 40,
  oc 95 (.call ⟨(.value (.func 82)), #[(.tmp 94), (.const (.int .u8 8))], #[40, 40]⟩) 4]
def F42.r18 : List Oper := [
  op 96 (.fieldAddr 42 (.tmp 7) 6) 0,
  od 97 (.load 9 (.tmp 96)) 9,
  op 98 (.fieldAddr 42 (.tmp 12) 6) 0,
  ⟨none, (.store 9 (.tmp 98) (.tmp 97)), 0, "", #[⟨0, .chain⟩], none⟩]
def F42.r19 : List Oper := [
  op 99 (.move (.tmp 8)) 40,
  oc 100 (.call ⟨(.value (.func 82)), #[(.tmp 99), (.const (.int .u8 16))], #[40, 40]⟩) 4]
def F42.r20 : List Oper := [
  op 101 (.fieldAddr 42 (.tmp 7) 7) 0,
  od 102 (.load 33 (.tmp 101)) 33,
  op 103 (.fieldAddr 42 (.tmp 12) 7) 0,
  ⟨none, (.store 33 (.tmp 103) (.tmp 102)), 0, "", #[⟨0, .chain⟩], none⟩]
def F42.r21 : List Oper := [
  op 104 (.move (.tmp 8)) 40,
  oc 105 (.call ⟨(.value (.func 82)), #[(.tmp 104), (.const (.int .u8 32))], #[40, 40]⟩) 4]
def F42.r22 : List Oper := [
  op 106 (.fieldAddr 42 (.tmp 7) 8) 0,
  od 107 (.load 33 (.tmp 106)) 33,
  op 108 (.fieldAddr 42 (.tmp 12) 8) 0,
  ⟨none, (.store 33 (.tmp 108) (.tmp 107)), 0, "", #[⟨0, .chain⟩], none⟩]
def F42.r23 : List Oper := [
  op 109 (.move (.tmp 8)) 40,
  oc 110 (.call ⟨(.value (.func 82)), #[(.tmp 109), (.const (.int .u8 64))], #[40, 40]⟩) 4]
def F42.r24 : List Oper := [
  op 111 (.fieldAddr 42 (.tmp 12) 9) 0,
  od 112 (.load 33 (.tmp 111)) 33,
  op 113 (.binOp .add 33 (.tmp 112) (.const (.int .u32 1)) 33) 33,
  op 114 (.fieldAddr 42 (.tmp 12) 9) 0,
  ⟨none, (.store 33 (.tmp 114) (.tmp 113)), 0, "", #[⟨0, .chain⟩], none⟩]
def F42.r25 : List Oper := [
  ⟨(some 115), (.move (.tmp 0)), 29, "", #[], none⟩,
  ⟨(some 116), (.nilCheck (.tmp 115)), 0, "", #[], none⟩,
  ⟨(some 117), (.fieldAddr 84 (.tmp 116) 2), 0, "", #[], none⟩,
  ⟨(some 119), (.move (.tmp 1)), 3, "", #[], none⟩,
  ⟨(some 118), (.load 82 (.tmp 117)), 82, "", #[⟨256, .data⟩], none⟩,
  ⟨(some 120), (.load 42 (.tmp 12)), 42, "", #[⟨256, .data⟩], none⟩,
  ⟨(some 121), (.indexAddr 82 (.tmp 118) (.tmp 119)), 0, "", #[], none⟩,
  ⟨(some 122), (.fieldAddr 81 (.tmp 121) 0), 0, "", #[], none⟩,
  ⟨none, (.store 42 (.tmp 122) (.tmp 120)), 0, "", #[⟨8, .chain⟩], none⟩]
def F42.r26 : List Oper := [
  op 6 (.assign (.const (.int .i64 0))) 30]
def F42.t25 : Cd := (.seq (.region 25 F42.r25.toArray true) (.seq (.region 26 F42.r26.toArray false) .ret))
theorem F42.t25_eq {θ : Tag (F42.t25, Q, e, w)} : cwE P F42.t25 Q e w θ = cwE P (.seq (.region 25 F42.r25.toArray true) (.seq (.region 26 F42.r26.toArray false) .ret)) Q e w := rfl
def F42.t23 : Cd := (.seq (.seq (.region 23 F42.r23.toArray false) (.cond (.tmp 110) (.region 24 F42.r24.toArray false) .skip)) F42.t25)
theorem F42.t23_eq {θ : Tag (F42.t23, Q, e, w)} : cwE P F42.t23 Q e w θ = cwE P (.seq (.seq (.region 23 F42.r23.toArray false) (.cond (.tmp 110) (.region 24 F42.r24.toArray false) .skip)) F42.t25) Q e w := rfl
def F42.t21 : Cd := (.seq (.seq (.region 21 F42.r21.toArray false) (.cond (.tmp 105) (.region 22 F42.r22.toArray false) .skip)) F42.t23)
theorem F42.t21_eq {θ : Tag (F42.t21, Q, e, w)} : cwE P F42.t21 Q e w θ = cwE P (.seq (.seq (.region 21 F42.r21.toArray false) (.cond (.tmp 105) (.region 22 F42.r22.toArray false) .skip)) F42.t23) Q e w := rfl
def F42.t19 : Cd := (.seq (.seq (.region 19 F42.r19.toArray false) (.cond (.tmp 100) (.region 20 F42.r20.toArray false) .skip)) F42.t21)
theorem F42.t19_eq {θ : Tag (F42.t19, Q, e, w)} : cwE P F42.t19 Q e w θ = cwE P (.seq (.seq (.region 19 F42.r19.toArray false) (.cond (.tmp 100) (.region 20 F42.r20.toArray false) .skip)) F42.t21) Q e w := rfl
def F42.t17 : Cd := (.seq (.seq (.region 17 F42.r17.toArray false) (.cond (.tmp 95) (.region 18 F42.r18.toArray false) .skip)) F42.t19)
theorem F42.t17_eq {θ : Tag (F42.t17, Q, e, w)} : cwE P F42.t17 Q e w θ = cwE P (.seq (.seq (.region 17 F42.r17.toArray false) (.cond (.tmp 95) (.region 18 F42.r18.toArray false) .skip)) F42.t19) Q e w := rfl
def F42.t15 : Cd := (.seq (.seq (.region 15 F42.r15.toArray false) (.cond (.tmp 90) (.region 16 F42.r16.toArray false) .skip)) F42.t17)
theorem F42.t15_eq {θ : Tag (F42.t15, Q, e, w)} : cwE P F42.t15 Q e w θ = cwE P (.seq (.seq (.region 15 F42.r15.toArray false) (.cond (.tmp 90) (.region 16 F42.r16.toArray false) .skip)) F42.t17) Q e w := rfl
def F42.t13 : Cd := (.seq (.seq (.region 13 F42.r13.toArray false) (.cond (.tmp 85) (.region 14 F42.r14.toArray false) .skip)) F42.t15)
theorem F42.t13_eq {θ : Tag (F42.t13, Q, e, w)} : cwE P F42.t13 Q e w θ = cwE P (.seq (.seq (.region 13 F42.r13.toArray false) (.cond (.tmp 85) (.region 14 F42.r14.toArray false) .skip)) F42.t15) Q e w := rfl
def F42.t11 : Cd := (.seq (.seq (.region 11 F42.r11.toArray false) (.cond (.tmp 80) (.region 12 F42.r12.toArray false) .skip)) F42.t13)
theorem F42.t11_eq {θ : Tag (F42.t11, Q, e, w)} : cwE P F42.t11 Q e w θ = cwE P (.seq (.seq (.region 11 F42.r11.toArray false) (.cond (.tmp 80) (.region 12 F42.r12.toArray false) .skip)) F42.t13) Q e w := rfl
def F42.t8 : Cd := (.seq (.region 8 F42.r8.toArray false) (.seq (.seq (.region 9 F42.r9.toArray true) (.cond (.tmp 78) (.seq (.region 10 F42.r10.toArray false) .ret) .skip)) F42.t11))
theorem F42.t8_eq {θ : Tag (F42.t8, Q, e, w)} : cwE P F42.t8 Q e w θ = cwE P (.seq (.region 8 F42.r8.toArray false) (.seq (.seq (.region 9 F42.r9.toArray true) (.cond (.tmp 78) (.seq (.region 10 F42.r10.toArray false) .ret) .skip)) F42.t11)) Q e w := rfl
def F42.code : Cd := (.seq (.region 0 F42.r0.toArray false) (.seq (.region 1 F42.r1.toArray false) (.seq (.region 2 F42.r2.toArray false) (.seq (.region 3 F42.r3.toArray false) (.seq (.region 4 F42.r4.toArray false) (.seq (.region 5 F42.r5.toArray false) (.seq (.seq (.region 6 F42.r6.toArray false) (.cond (.tmp 61) (.seq (.region 7 F42.r7.toArray false) .ret) .skip)) F42.t8)))))))
theorem F42.calls (hn : args.size ≤ 123) (h : cwE Tryz.prog F42.code (fnP Tryz.prog #[(.tmp 6)] R) (entry args) w) : Calls Tryz.prog 42 args w R :=
  calls_of_cwE (types := Tryz.prog.types) follows Tryz.func42 F42.code rfl (by kernel_rfl) hn h
def F43.r0 : List Oper := [
  op 6 (.assign (.const (.int .i64 0))) 30]
def F43.r1 : List Oper := [
  op 8 (.move (.tmp 0)) 29,
  op 9 (.nilCheck (.tmp 8)) 0,
  op 10 (.fieldAddr 84 (.tmp 9) 2) 0,
  od 11 (.load 82 (.tmp 10)) 82,
  op 12 (.move (.tmp 1)) 3,
  op 13 (.indexAddr 82 (.tmp 11) (.tmp 12)) 0,
  op 14 (.fieldAddr 81 (.tmp 13) 0) 0,
  od 15 (.load 42 (.tmp 14)) 42,
  oc 16 (.call ⟨(.value (.func 79)), #[(.tmp 15)], #[42]⟩) 4]
def F43.r2 : List Oper := [
  op 6 (.assign (.const (.int .i64 81))) 30]
def F43.r3 : List Oper := [
  op 17 (.move (.tmp 2)) 34,
  op 18 (.binOp .gtr 34 (.tmp 17) (.const (.int .u64 65536)) 34) 4]
def F43.r4 : List Oper := [
  op 6 (.assign (.const (.int .i64 86))) 30]
def F43.r5 : List Oper := [
  op 19 (.move (.tmp 2)) 34,
  op 20 (.convert 34 3 (.tmp 19)) 3,
  oc 21 (.makeSlice 43 (.tmp 20) (.tmp 20)) 43,
  op 7 (.assign (.tmp 21)) 43]
def F43.r6 : List Oper := [
  op 22 (.move (.tmp 7)) 43,
  op 23 (.move (.tmp 0)) 29,
  op 24 (.nilCheck (.tmp 23)) 0,
  op 25 (.fieldAddr 84 (.tmp 24) 2) 0,
  od 26 (.load 82 (.tmp 25)) 82,
  op 27 (.move (.tmp 1)) 3,
  op 28 (.indexAddr 82 (.tmp 26) (.tmp 27)) 0,
  op 29 (.fieldAddr 81 (.tmp 28) 1) 0,
  od 30 (.load 43 (.tmp 29)) 43,
  oc 31 (.call ⟨(.builtin .copy), #[(.tmp 22), (.tmp 30)], #[43, 43]⟩) 3]
def F43.r7 : List Oper := [
  op 32 (.move (.tmp 0)) 29,
  op 33 (.nilCheck (.tmp 32)) 0,
  op 34 (.fieldAddr 84 (.tmp 33) 2) 0,
  od 35 (.load 82 (.tmp 34)) 82,
  op 36 (.move (.tmp 1)) 3,
  op 37 (.move (.tmp 7)) 43,
  op 38 (.indexAddr 82 (.tmp 35) (.tmp 36)) 0,
  op 39 (.fieldAddr 81 (.tmp 38) 1) 0,
  ⟨none, (.store 43 (.tmp 39) (.tmp 37)), 0, "", #[⟨0, .chain⟩], none⟩]
def F43.r8 : List Oper := [
  op 40 (.move (.tmp 0)) 29,
  op 41 (.nilCheck (.tmp 40)) 0,
  op 42 (.fieldAddr 84 (.tmp 41) 2) 0,
  od 43 (.load 82 (.tmp 42)) 82,
  op 44 (.move (.tmp 1)) 3,
  op 45 (.move (.tmp 2)) 34,
  op 46 (.indexAddr 82 (.tmp 43) (.tmp 44)) 0,
  op 47 (.fieldAddr 81 (.tmp 46) 0) 0,
  op 48 (.fieldAddr 42 (.tmp 47) 10) 0,
  ⟨none, (.store 34 (.tmp 48) (.tmp 45)), 0, "", #[⟨0, .chain⟩], none⟩]
def F43.r9 : List Oper := [
  op 6 (.assign (.const (.int .i64 0))) 30]
def F43.t5 : Cd := (.seq (.region 5 F43.r5.toArray false) (.seq (.region 6 F43.r6.toArray false) (.seq (.region 7 F43.r7.toArray false) (.seq (.region 8 F43.r8.toArray false) (.seq (.region 9 F43.r9.toArray false) .ret)))))
theorem F43.t5_eq {θ : Tag (F43.t5, Q, e, w)} : cwE P F43.t5 Q e w θ = cwE P (.seq (.region 5 F43.r5.toArray false) (.seq (.region 6 F43.r6.toArray false) (.seq (.region 7 F43.r7.toArray false) (.seq (.region 8 F43.r8.toArray false) (.seq (.region 9 F43.r9.toArray false) .ret))))) Q e w := rfl
def F43.t3 : Cd := (.seq (.seq (.region 3 F43.r3.toArray false) (.cond (.tmp 18) (.seq (.region 4 F43.r4.toArray false) .ret) .skip)) F43.t5)
theorem F43.t3_eq {θ : Tag (F43.t3, Q, e, w)} : cwE P F43.t3 Q e w θ = cwE P (.seq (.seq (.region 3 F43.r3.toArray false) (.cond (.tmp 18) (.seq (.region 4 F43.r4.toArray false) .ret) .skip)) F43.t5) Q e w := rfl
def F43.code : Cd := (.seq (.region 0 F43.r0.toArray false) (.seq (.seq (.region 1 F43.r1.toArray false) (.cond (.tmp 16) (.seq (.region 2 F43.r2.toArray false) .ret) .skip)) F43.t3))
theorem F43.calls (hn : args.size ≤ 49) (h : cwE Tryz.prog F43.code (fnP Tryz.prog #[(.tmp 6)] R) (entry args) w) : Calls Tryz.prog 43 args w R :=
  calls_of_cwE (types := Tryz.prog.types) follows Tryz.func43 F43.code rfl (by kernel_rfl) hn h
def F44.r0 : List Oper := [
  oc 5 (.box 45 (.tmp 2)) 0,
  op 6 (.assign (.const (.int .i64 0))) 30]
def F44.r1 : List Oper := [
  op 10 (.move (.tmp 0)) 29,
  op 11 (.nilCheck (.tmp 10)) 0,
  op 12 (.fieldAddr 84 (.tmp 11) 2) 0,
  od 13 (.load 82 (.tmp 12)) 82,
  op 14 (.move (.tmp 1)) 3,
  op 15 (.indexAddr 82 (.tmp 13) (.tmp 14)) 0,
  op 16 (.fieldAddr 81 (.tmp 15) 0) 0,
  od 17 (.load 42 (.tmp 16)) 42,
  oc 18 (.call ⟨(.value (.func 79)), #[(.tmp 17)], #[42]⟩) 4]
def F44.r2 : List Oper := [
  op 6 (.assign (.const (.int .i64 81))) 30]
def F44.r3 : List Oper := [
  op 19 (.fieldAddr 45 (.tmp 5) 6) 0,
  od 20 (.load 43 (.tmp 19)) 43,
  op 21 (.call ⟨(.builtin .len), #[(.tmp 20)], #[43]⟩) 3,
  op 7 (.assign (.tmp 21)) 3]
def F44.r4 : List Oper := [
  op 22 (.move (.tmp 7)) 3,
  op 23 (.binOp .eql 3 (.tmp 22) (.const (.int .i64 0)) 3) 4,
  op 24 (.move (.tmp 23)) 4,
  og 25 (.move (.tmp 7)) 3 24 false,
  og 26 (.binOp .gtr 3 (.tmp 25) (.const (.int .i64 256)) 3) 4 24 false,
  op 27 (.pick (.tmp 24) (.const (.bool true)) (.tmp 26)) 4,
  op 28 (.move (.tmp 27)) 4,
  og 29 (.fieldAddr 45 (.tmp 5) 5) 0 28 false,
  ⟨(some 30), (.load 34 (.tmp 29)), 34, "", #[⟨0, .data⟩], (some (28, false))⟩,
  og 31 (.binOp .rem 34 (.tmp 30) (.const (.int .u64 256)) 34) 34 28 false,
  og 32 (.convert 34 3 (.tmp 31)) 3 28 false,
  og 33 (.move (.tmp 7)) 3 28 false,
  og 34 (.binOp .add 3 (.tmp 32) (.tmp 33) 3) 3 28 false,
  og 35 (.binOp .gtr 3 (.tmp 34) (.const (.int .i64 256)) 3) 4 28 false,
  op 36 (.pick (.tmp 28) (.const (.bool true)) (.tmp 35)) 4]
def F44.r5 : List Oper := [
  op 6 (.assign (.const (.int .i64 84))) 30]
def F44.r6 : List Oper := [
  op 37 (.fieldAddr 45 (.tmp 5) 5) 0,
  od 38 (.load 34 (.tmp 37)) 34,
  op 39 (.move (.tmp 7)) 3,
  op 40 (.binOp .sub 3 (.const (.int .i64 65536)) (.tmp 39) 3) 3,
  op 41 (.convert 3 34 (.tmp 40)) 34,
  op 42 (.binOp .gtr 34 (.tmp 38) (.tmp 41) 34) 4]
def F44.r7 : List Oper := [
  op 6 (.assign (.const (.int .i64 86))) 30]
def F44.r8 : List Oper := [
  op 43 (.fieldAddr 45 (.tmp 5) 5) 0,
  od 44 (.load 34 (.tmp 43)) 34,
  op 45 (.move (.tmp 7)) 3,
  op 46 (.convert 3 34 (.tmp 45)) 34,
  op 47 (.binOp .add 34 (.tmp 44) (.tmp 46) 34) 34,
  op 8 (.assign (.tmp 47)) 34]
def F44.r9 : List Oper := [
  op 48 (.move (.tmp 8)) 34,
  op 49 (.move (.tmp 0)) 29,
  op 50 (.nilCheck (.tmp 49)) 0,
  op 51 (.fieldAddr 84 (.tmp 50) 2) 0,
  od 52 (.load 82 (.tmp 51)) 82,
  op 53 (.move (.tmp 1)) 3,
  op 54 (.indexAddr 82 (.tmp 52) (.tmp 53)) 0,
  op 55 (.fieldAddr 81 (.tmp 54) 0) 0,
  op 56 (.fieldAddr 42 (.tmp 55) 10) 0,
  od 57 (.load 34 (.tmp 56)) 34,
  op 58 (.binOp .gtr 34 (.tmp 48) (.tmp 57) 34) 4]
def F44.r10 : List Oper := [
  op 59 (.move (.tmp 0)) 29,
  op 60 (.move (.tmp 1)) 3,
  op 61 (.move (.tmp 8)) 34,
  oc 62 (.call ⟨(.value (.func 43)), #[(.tmp 59), (.tmp 60), (.tmp 61)], #[29, 3, 34]⟩) 30]
def F44.r11 : List Oper := [
  op 9 (.assign (.const (.int .i64 0))) 3]
def F44.r12 : List Oper := [
  op 63 (.move (.tmp 9)) 3,
  op 64 (.move (.tmp 7)) 3,
  op 65 (.binOp .lss 3 (.tmp 63) (.tmp 64) 3) 4]
def F44.r14 : List Oper := [
  ⟨(some 68), (.move (.tmp 0)), 29, "", #[], none⟩,
  ⟨(some 69), (.nilCheck (.tmp 68)), 0, "", #[], none⟩,
  ⟨(some 70), (.fieldAddr 84 (.tmp 69) 2), 0, "", #[], none⟩,
  ⟨(some 72), (.move (.tmp 1)), 3, "", #[], none⟩,
  ⟨(some 76), (.fieldAddr 45 (.tmp 5) 5), 0, "", #[], none⟩,
  ⟨(some 79), (.move (.tmp 9)), 3, "", #[], none⟩,
  ⟨(some 81), (.fieldAddr 45 (.tmp 5) 6), 0, "", #[], none⟩,
  ⟨(some 83), (.move (.tmp 9)), 3, "", #[], none⟩,
  ⟨(some 71), (.load 82 (.tmp 70)), 82, "", #[⟨524288, .data⟩], none⟩,
  ⟨(some 73), (.indexAddr 82 (.tmp 71) (.tmp 72)), 0, "", #[], none⟩,
  ⟨(some 74), (.fieldAddr 81 (.tmp 73) 1), 0, "", #[], none⟩,
  ⟨(some 75), (.load 43 (.tmp 74)), 43, "", #[⟨524288, .data⟩], none⟩,
  ⟨(some 77), (.load 34 (.tmp 76)), 34, "", #[⟨524288, .data⟩], none⟩,
  ⟨(some 78), (.convert 34 3 (.tmp 77)), 3, "", #[], none⟩,
  ⟨(some 80), (.binOp .add 3 (.tmp 78) (.tmp 79) 3), 3, "", #[], none⟩,
  ⟨(some 82), (.load 43 (.tmp 81)), 43, "", #[⟨524288, .data⟩], none⟩,
  ⟨(some 84), (.indexAddr 43 (.tmp 82) (.tmp 83)), 0, "", #[], none⟩,
  ⟨(some 85), (.load 5 (.tmp 84)), 5, "", #[⟨524288, .data⟩], none⟩,
  ⟨(some 86), (.indexAddr 43 (.tmp 75) (.tmp 80)), 0, "", #[], none⟩,
  ⟨none, (.store 5 (.tmp 86) (.tmp 85)), 0, "", #[⟨19, .chain⟩], none⟩]
def F44.r13 : List Oper := [
  op 66 (.move (.tmp 9)) 3,
  op 67 (.binOp .add 3 (.tmp 66) (.const (.int .i64 1)) 3) 3,
  op 9 (.assign (.tmp 67)) 3]
def F44.r15 : List Oper := [
  op 6 (.assign (.const (.int .i64 0))) 30]
def F44.t13 : Cd := (.region 13 F44.r13.toArray false)
theorem F44.t13_eq {θ : Tag (F44.t13, Q, e, w)} : cwE P F44.t13 Q e w θ = cwE P (.region 13 F44.r13.toArray false) Q e w := rfl
def F44.t14 : Cd := (.seq (.block 1 (.region 14 F44.r14.toArray true)) F44.t13)
theorem F44.t14_eq {θ : Tag (F44.t14, Q, e, w)} : cwE P F44.t14 Q e w θ = cwE P (.seq (.block 1 (.region 14 F44.r14.toArray true)) F44.t13) Q e w := rfl
def F44.t15 : Cd := (.seq (.region 15 F44.r15.toArray false) .ret)
theorem F44.t15_eq {θ : Tag (F44.t15, Q, e, w)} : cwE P F44.t15 Q e w θ = cwE P (.seq (.region 15 F44.r15.toArray false) .ret) Q e w := rfl
def F44.t11 : Cd := (.seq (.seq (.region 11 F44.r11.toArray false) (.block 0 (.loop (.seq (.seq (.region 12 F44.r12.toArray false) (.cond (.tmp 65) .skip (.exit 0))) F44.t14)))) F44.t15)
theorem F44.t11_eq {θ : Tag (F44.t11, Q, e, w)} : cwE P F44.t11 Q e w θ = cwE P (.seq (.seq (.region 11 F44.r11.toArray false) (.block 0 (.loop (.seq (.seq (.region 12 F44.r12.toArray false) (.cond (.tmp 65) .skip (.exit 0))) F44.t14)))) F44.t15) Q e w := rfl
def F44.t8 : Cd := (.seq (.region 8 F44.r8.toArray false) (.seq (.seq (.region 9 F44.r9.toArray false) (.cond (.tmp 58) (.region 10 F44.r10.toArray false) .skip)) F44.t11))
theorem F44.t8_eq {θ : Tag (F44.t8, Q, e, w)} : cwE P F44.t8 Q e w θ = cwE P (.seq (.region 8 F44.r8.toArray false) (.seq (.seq (.region 9 F44.r9.toArray false) (.cond (.tmp 58) (.region 10 F44.r10.toArray false) .skip)) F44.t11)) Q e w := rfl
def F44.t6 : Cd := (.seq (.seq (.region 6 F44.r6.toArray false) (.cond (.tmp 42) (.seq (.region 7 F44.r7.toArray false) .ret) .skip)) F44.t8)
theorem F44.t6_eq {θ : Tag (F44.t6, Q, e, w)} : cwE P F44.t6 Q e w θ = cwE P (.seq (.seq (.region 6 F44.r6.toArray false) (.cond (.tmp 42) (.seq (.region 7 F44.r7.toArray false) .ret) .skip)) F44.t8) Q e w := rfl
def F44.t3 : Cd := (.seq (.region 3 F44.r3.toArray false) (.seq (.seq (.region 4 F44.r4.toArray false) (.cond (.tmp 36) (.seq (.region 5 F44.r5.toArray false) .ret) .skip)) F44.t6))
theorem F44.t3_eq {θ : Tag (F44.t3, Q, e, w)} : cwE P F44.t3 Q e w θ = cwE P (.seq (.region 3 F44.r3.toArray false) (.seq (.seq (.region 4 F44.r4.toArray false) (.cond (.tmp 36) (.seq (.region 5 F44.r5.toArray false) .ret) .skip)) F44.t6)) Q e w := rfl
def F44.code : Cd := (.seq (.region 0 F44.r0.toArray false) (.seq (.seq (.region 1 F44.r1.toArray false) (.cond (.tmp 18) (.seq (.region 2 F44.r2.toArray false) .ret) .skip)) F44.t3))
theorem F44.calls (hn : args.size ≤ 87) (h : cwE Tryz.prog F44.code (fnP Tryz.prog #[(.tmp 6)] R) (entry args) w) : Calls Tryz.prog 44 args w R :=
  calls_of_cwE (types := Tryz.prog.types) follows Tryz.func44 F44.code rfl (by kernel_rfl) hn h
def F45.r0 : List Oper := [
  op 6 (.assign (.const (.int .i64 0))) 30]
def F45.r1 : List Oper := [
  op 8 (.move (.tmp 0)) 29,
  op 9 (.nilCheck (.tmp 8)) 0,
  op 10 (.fieldAddr 84 (.tmp 9) 2) 0,
  od 11 (.load 82 (.tmp 10)) 82,
  op 12 (.move (.tmp 1)) 3,
  op 13 (.indexAddr 82 (.tmp 11) (.tmp 12)) 0,
  op 14 (.fieldAddr 81 (.tmp 13) 0) 0,
  op 15 (.fieldAddr 42 (.tmp 14) 11) 0,
  od 16 (.load 3 (.tmp 15)) 3,
  op 7 (.assign (.tmp 16)) 3]
def F45.r2 : List Oper := [
  op 17 (.move (.tmp 2)) 3,
  op 18 (.move (.tmp 7)) 3,
  op 19 (.unOp .neg 3 (.tmp 18)) 3,
  op 20 (.binOp .lss 3 (.tmp 17) (.tmp 19) 3) 4,
  op 21 (.move (.tmp 20)) 4,
  og 22 (.move (.tmp 2)) 3 21 false,
  og 23 (.move (.tmp 7)) 3 21 false,
  og 24 (.binOp .sub 3 (.const (.int .i64 2147483647)) (.tmp 23) 3) 3 21 false,
  og 25 (.binOp .gtr 3 (.tmp 22) (.tmp 24) 3) 4 21 false,
  op 26 (.pick (.tmp 21) (.const (.bool true)) (.tmp 25)) 4]
def F45.r3 : List Oper := [
  op 6 (.assign (.const (.int .i64 87))) 30]
def F45.r4 : List Oper := [
  op 27 (.move (.tmp 0)) 29,
  op 28 (.nilCheck (.tmp 27)) 0,
  op 29 (.fieldAddr 84 (.tmp 28) 2) 0,
  od 30 (.load 82 (.tmp 29)) 82,
  op 31 (.move (.tmp 1)) 3,
  op 32 (.move (.tmp 7)) 3,
  op 33 (.move (.tmp 2)) 3,
  op 34 (.binOp .add 3 (.tmp 32) (.tmp 33) 3) 3,
  op 35 (.indexAddr 82 (.tmp 30) (.tmp 31)) 0,
  op 36 (.fieldAddr 81 (.tmp 35) 0) 0,
  op 37 (.fieldAddr 42 (.tmp 36) 11) 0,
  ⟨none, (.store 3 (.tmp 37) (.tmp 34)), 0, "", #[⟨0, .chain⟩], none⟩]
def F45.r5 : List Oper := [
  op 6 (.assign (.const (.int .i64 0))) 30]
def F45.t4 : Cd := (.seq (.region 4 F45.r4.toArray false) (.seq (.region 5 F45.r5.toArray false) .ret))
theorem F45.t4_eq {θ : Tag (F45.t4, Q, e, w)} : cwE P F45.t4 Q e w θ = cwE P (.seq (.region 4 F45.r4.toArray false) (.seq (.region 5 F45.r5.toArray false) .ret)) Q e w := rfl
def F45.code : Cd := (.seq (.region 0 F45.r0.toArray false) (.seq (.region 1 F45.r1.toArray false) (.seq (.seq (.region 2 F45.r2.toArray false) (.cond (.tmp 26) (.seq (.region 3 F45.r3.toArray false) .ret) .skip)) F45.t4)))
theorem F45.calls (hn : args.size ≤ 38) (h : cwE Tryz.prog F45.code (fnP Tryz.prog #[(.tmp 6)] R) (entry args) w) : Calls Tryz.prog 45 args w R :=
  calls_of_cwE (types := Tryz.prog.types) follows Tryz.func45 F45.code rfl (by kernel_rfl) hn h
def F46.r0 : List Oper := [
  od 6 (.load 27 (.tmp 1)) 27,
  oc 7 (.call ⟨(.value (.func 47)), #[(.tmp 6), (.const (.int .u64 0))], #[27, 34]⟩) 75,
  op 5 (.move (.tmp 7)) 75,
  op 8 (.extract (.tmp 5) 0) 42,
  op 9 (.extract (.tmp 5) 1) 4,
  oc 3 (.alloc 42) 0,
  ⟨none, (.store 42 (.tmp 3) (.tmp 8)), 0, "", #[⟨0, .chain⟩], none⟩,
  op 4 (.assign (.tmp 9)) 4]
def F46.r1 : List Oper := [
  op 10 (.move (.tmp 4)) 4,
  op 11 (.move (.tmp 10)) 4,
  og 12 (.move (.tmp 0)) 115 11 true,
  ⟨(some 13), (.load 42 (.tmp 3)), 42, "", #[⟨0, .data⟩], (some (11, true))⟩,
  ⟨(some 14), (.call ⟨(.value (.tmp 12)), #[(.tmp 13)], #[42]⟩), 4, "", #[⟨0, .phase⟩], (some (11, true))⟩,
  op 15 (.pick (.tmp 11) (.tmp 14) (.const (.bool false))) 4]
def F46.r3 : List Oper := [
  od 23 (.load 42 (.tmp 3)) 42]
def F46.r4 : List Oper := [
  oc 3 (.alloc 42) 0,
  ⟨none, (.store 42 (.tmp 3) (.tmp 23)), 0, "", #[⟨0, .chain⟩], none⟩]
def F46.r2 : List Oper := [
  od 17 (.load 27 (.tmp 1)) 27,
  op 18 (.fieldAddr 42 (.tmp 3) 0) 0,
  od 19 (.load 34 (.tmp 18)) 34,
  oc 20 (.call ⟨(.value (.func 47)), #[(.tmp 17), (.tmp 19)], #[27, 34]⟩) 75,
  op 16 (.move (.tmp 20)) 75,
  op 21 (.extract (.tmp 16) 0) 42,
  op 22 (.extract (.tmp 16) 1) 4,
  ⟨none, (.store 42 (.tmp 3) (.tmp 21)), 0, "", #[⟨0, .chain⟩], none⟩,
  op 4 (.assign (.tmp 22)) 4]
def F46.t3 : Cd := (.seq (.seq (.region 3 F46.r3.toArray false) (.region 4 F46.r4.toArray false)) (.region 2 F46.r2.toArray false))
theorem F46.t3_eq {θ : Tag (F46.t3, Q, e, w)} : cwE P F46.t3 Q e w θ = cwE P (.seq (.seq (.region 3 F46.r3.toArray false) (.region 4 F46.r4.toArray false)) (.region 2 F46.r2.toArray false)) Q e w := rfl
def F46.code : Cd := (.seq (.region 0 F46.r0.toArray false) (.block 0 (.loop (.seq (.seq (.region 1 F46.r1.toArray false) (.cond (.tmp 15) .skip (.exit 0))) (.seq (.block 1 .skip) F46.t3)))))
theorem F46.calls (hn : args.size ≤ 24) (h : cwE Tryz.prog F46.code (fnP Tryz.prog #[] R) (entry args) w) : Calls Tryz.prog 46 args w R :=
  calls_of_cwE (types := Tryz.prog.types) follows Tryz.func46 F46.code rfl (by kernel_rfl) hn h
def F47.r0 : List Oper := [
  oc 4 (.alloc 42) 0,
  op 5 (.assign (.const (.bool false))) 4]
def F47.r1 : List Oper := [
  op 8 (.move (.tmp 0)) 27,
  op 9 (.nilCheck (.tmp 8)) 0,
  op 10 (.fieldAddr 100 (.tmp 9) 0) 0,
  oc 11 (.call ⟨(.value (.func 30)), #[(.tmp 10)], #[95]⟩) 0]
def F47.r2 : List Oper := [
  op 12 (.move (.tmp 0)) 27,
  op 13 (.nilCheck (.tmp 12)) 0,
  op 14 (.fieldAddr 100 (.tmp 13) 0) 0,
  ⟨none, (.defer ⟨(.value (.func 31)), #[(.tmp 14)], #[95]⟩), 0, "", #[⟨0, .chain⟩], none⟩]
def F47.r3 : List Oper := [
  op 16 (.move (.tmp 0)) 27,
  op 17 (.nilCheck (.tmp 16)) 0,
  op 18 (.fieldAddr 100 (.tmp 17) 4) 0,
  od 19 (.load 97 (.tmp 18)) 97,
  op 20 (.move (.tmp 1)) 34,
  oc 21 (.call ⟨(.value (.func 83)), #[(.tmp 19), (.tmp 20)], #[97, 34]⟩) 117,
  op 15 (.move (.tmp 21)) 117,
  op 22 (.extract (.tmp 15) 0) 34,
  op 23 (.extract (.tmp 15) 1) 4,
  op 6 (.assign (.tmp 22)) 34,
  op 7 (.assign (.tmp 23)) 4]
def F47.r4 : List Oper := [
  op 24 (.move (.tmp 7)) 4,
  op 25 (.unOp .not 4 (.tmp 24)) 4]
def F47.r5 : List Oper := [
  op 26 (.build 42 #[]) 42,
  ⟨none, (.store 42 (.tmp 4) (.tmp 26)), 0, "", #[⟨0, .chain⟩], none⟩,
  op 5 (.assign (.const (.bool false))) 4]
def F47.r6 : List Oper := [
  op 27 (.move (.tmp 0)) 27,
  op 28 (.move (.tmp 6)) 34,
  oc 29 (.call ⟨(.value (.func 61)), #[(.tmp 27), (.tmp 28)], #[27, 34]⟩) 75,
  op 30 (.extract (.tmp 29) 0) 42,
  op 31 (.extract (.tmp 29) 1) 4,
  ⟨none, (.store 42 (.tmp 4) (.tmp 30)), 0, "", #[⟨0, .chain⟩], none⟩,
  op 5 (.assign (.tmp 31)) 4]
def F47.t6 : Cd := (.seq (.region 6 F47.r6.toArray false) .ret)
theorem F47.t6_eq {θ : Tag (F47.t6, Q, e, w)} : cwE P F47.t6 Q e w θ = cwE P (.seq (.region 6 F47.r6.toArray false) .ret) Q e w := rfl
def F47.code : Cd := (.seq (.region 0 F47.r0.toArray false) (.seq (.region 1 F47.r1.toArray false) (.seq (.region 2 F47.r2.toArray false) (.seq (.region 3 F47.r3.toArray false) (.seq (.seq (.region 4 F47.r4.toArray false) (.cond (.tmp 25) (.seq (.region 5 F47.r5.toArray false) .ret) .skip)) F47.t6)))))
theorem F47.calls (hn : args.size ≤ 32) (h : cwE Tryz.prog F47.code (fnP Tryz.prog #[(.cell 4 42), (.tmp 5)] R) (entry args) w) : Calls Tryz.prog 47 args w R :=
  calls_of_cwE (types := Tryz.prog.types) follows Tryz.func47 F47.code rfl (by kernel_rfl) hn h
def F48.r0 : List Oper := [
  op 2 (.assign (.const (.bool false))) 4]
def F48.r1 : List Oper := [
  op 3 (.move (.tmp 0)) 9,
  op 4 (.call ⟨(.builtin .len), #[(.tmp 3)], #[9]⟩) 3,
  op 5 (.binOp .leq 3 (.tmp 4) (.const (.int .i64 32)) 3) 4,
  op 6 (.move (.tmp 5)) 4,
  og 7 (.move (.tmp 0)) 9 6 true,
  ⟨(some 8), (.call ⟨(.value (.func 84)), #[(.tmp 7)], #[9]⟩), 4, "", #[⟨0, .chain⟩], (some (6, true))⟩,
  op 9 (.pick (.tmp 6) (.tmp 8) (.const (.bool false))) 4,
  op 2 (.assign (.tmp 9)) 4]
def F48.code : Cd := (.seq (.region 0 F48.r0.toArray false) (.seq (.region 1 F48.r1.toArray false) .ret))
theorem F48.calls (hn : args.size ≤ 10) (h : cwE Tryz.prog F48.code (fnP Tryz.prog #[(.tmp 2)] R) (entry args) w) : Calls Tryz.prog 48 args w R :=
  calls_of_cwE (types := Tryz.prog.types) follows Tryz.func48 F48.code rfl (by kernel_rfl) hn h
def F49.r0 : List Oper := [
  oc 5 (.box 45 (.tmp 2)) 0,
  op 6 (.assign (.const (.bool false))) 4]
def F49.r1 : List Oper := [
  op 7 (.assign (.const (.slice none 0 0))) 43]
def F49.r2 : List Oper := [
  op 16 (.move (.tmp 7)) 43,
  op 17 (.fieldAddr 45 (.tmp 5) 6) 0,
  od 18 (.load 43 (.tmp 17)) 43,
  oc 19 (.call ⟨(.builtin .append), #[(.tmp 16), (.tmp 18)], #[43, 43]⟩) 43,
  op 7 (.assign (.tmp 19)) 43]
def F49.r3 : List Oper := [
  op 20 (.move (.tmp 7)) 43,
  op 21 (.call ⟨(.builtin .len), #[(.tmp 20)], #[43]⟩) 3,
  op 22 (.binOp .add 3 (.tmp 21) (.const (.int .i64 8)) 3) 3,
  oc 23 (.makeSlice 43 (.tmp 22) (.tmp 22)) 43,
  op 8 (.assign (.tmp 23)) 43]
def F49.r4 : List Oper := [
  op 24 (.move (.tmp 8)) 43,
  op 25 (.move (.tmp 7)) 43,
  oc 26 (.call ⟨(.builtin .copy), #[(.tmp 24), (.tmp 25)], #[43, 43]⟩) 3]
def F49.r5 : List Oper := [
  op 27 (.move (.tmp 7)) 43,
  op 28 (.call ⟨(.builtin .len), #[(.tmp 27)], #[43]⟩) 3,
  op 9 (.assign (.tmp 28)) 3]
def F49.r6 : List Oper := [
  op 29 (.move (.tmp 9)) 3,
  op 30 (.move (.tmp 8)) 43,
  op 31 (.call ⟨(.builtin .len), #[(.tmp 30)], #[43]⟩) 3,
  op 32 (.binOp .lss 3 (.tmp 29) (.tmp 31) 3) 4]
def F49.r8 : List Oper := [
  op 35 (.move (.tmp 8)) 43,
  op 36 (.move (.tmp 9)) 3,
  op 37 (.indexAddr 43 (.tmp 35) (.tmp 36)) 0,
  ⟨none, (.store 5 (.tmp 37) (.const (.int .u8 238))), 0, "", #[⟨0, .chain⟩], none⟩]
def F49.r7 : List Oper := [
  op 33 (.move (.tmp 9)) 3,
  op 34 (.binOp .add 3 (.tmp 33) (.const (.int .i64 1)) 3) 3,
  op 9 (.assign (.tmp 34)) 3]
def F49.r9 : List Oper := [
  od 38 (.load 45 (.tmp 5)) 45,
  oc 10 (.alloc 45) 0,
  ⟨none, (.store 45 (.tmp 10) (.tmp 38)), 0, "", #[⟨0, .chain⟩], none⟩]
def F49.r10 : List Oper := [
  op 39 (.move (.tmp 8)) 43,
  op 40 (.move (.tmp 7)) 43,
  op 41 (.call ⟨(.builtin .len), #[(.tmp 40)], #[43]⟩) 3,
  op 42 (.slice 43 (.tmp 39) none (some (.tmp 41)) none) 43,
  op 43 (.fieldAddr 45 (.tmp 10) 6) 0,
  ⟨none, (.store 43 (.tmp 43) (.tmp 42)), 0, "", #[⟨0, .chain⟩], none⟩]
def F49.r11 : List Oper := [
  op 44 (.move (.tmp 7)) 43,
  op 45 (.fieldAddr 45 (.tmp 5) 6) 0,
  ⟨none, (.store 43 (.tmp 45) (.tmp 44)), 0, "", #[⟨0, .chain⟩], none⟩]
def F49.r12 : List Oper := [
  ⟨(some 47), (.move (.tmp 0)), 61, "", #[], none⟩,
  ⟨(some 48), (.move (.tmp 1)), 3, "", #[], none⟩,
  ⟨(some 49), (.nilCheck (.tmp 47)), 0, "", #[], none⟩,
  ⟨(some 50), (.fieldAddr 66 (.tmp 49) 0), 0, "", #[], none⟩,
  ⟨(some 51), (.indexAddr 62 (.tmp 50) (.tmp 48)), 0, "", #[], none⟩,
  ⟨(some 52), (.load 27 (.tmp 51)), 27, "", #[⟨128, .data⟩], none⟩,
  ⟨(some 53), (.load 45 (.tmp 10)), 45, "", #[⟨128, .data⟩], none⟩,
  ⟨(some 54), (.call ⟨(.value (.func 10)), #[(.tmp 52), (.tmp 53)], #[27, 45]⟩), 37, "", #[⟨7, .chain⟩], none⟩,
  ⟨(some 46), (.move (.tmp 54)), 37, "", #[], none⟩,
  ⟨(some 55), (.extract (.tmp 46) 0), 34, "", #[], none⟩,
  ⟨(some 56), (.extract (.tmp 46) 1), 30, "", #[], none⟩,
  ⟨(some 11), (.assign (.tmp 55)), 34, "", #[], none⟩,
  ⟨(some 12), (.assign (.tmp 56)), 30, "", #[], none⟩]
def F49.r13 : List Oper := [
  ⟨(some 58), (.move (.tmp 0)), 61, "", #[], none⟩,
  ⟨(some 59), (.move (.tmp 1)), 3, "", #[], none⟩,
  ⟨(some 60), (.nilCheck (.tmp 58)), 0, "", #[], none⟩,
  ⟨(some 61), (.fieldAddr 66 (.tmp 60) 1), 0, "", #[], none⟩,
  ⟨(some 62), (.indexAddr 63 (.tmp 61) (.tmp 59)), 0, "", #[], none⟩,
  ⟨(some 63), (.load 29 (.tmp 62)), 29, "", #[⟨128, .data⟩], none⟩,
  ⟨(some 64), (.load 45 (.tmp 5)), 45, "", #[⟨128, .data⟩], none⟩,
  ⟨(some 65), (.call ⟨(.value (.func 11)), #[(.tmp 63), (.tmp 64)], #[29, 45]⟩), 37, "", #[⟨7, .chain⟩], none⟩,
  ⟨(some 57), (.move (.tmp 65)), 37, "", #[], none⟩,
  ⟨(some 66), (.extract (.tmp 57) 0), 34, "", #[], none⟩,
  ⟨(some 67), (.extract (.tmp 57) 1), 30, "", #[], none⟩,
  ⟨(some 13), (.assign (.tmp 66)), 34, "", #[], none⟩,
  ⟨(some 14), (.assign (.tmp 67)), 30, "", #[], none⟩]
def F49.r14 : List Oper := [
  ⟨(some 68), (.move (.tmp 11)), 34, "", #[], none⟩,
  ⟨(some 69), (.move (.tmp 13)), 34, "", #[], none⟩,
  ⟨(some 70), (.binOp .neq 34 (.tmp 68) (.tmp 69) 34), 4, "", #[], none⟩,
  ⟨(some 71), (.move (.tmp 70)), 4, "", #[], none⟩,
  og 72 (.move (.tmp 12)) 30 71 false,
  og 73 (.move (.tmp 14)) 30 71 false,
  og 74 (.binOp .neq 30 (.tmp 72) (.tmp 73) 30) 4 71 false,
  ⟨(some 75), (.pick (.tmp 71) (.const (.bool true)) (.tmp 74)), 4, "", #[], none⟩,
  ⟨(some 76), (.move (.tmp 75)), 4, "", #[], none⟩,
  og 77 (.move (.tmp 8)) 43 76 false,
  og 78 (.move (.tmp 7)) 43 76 false,
  og 79 (.call ⟨(.builtin .len), #[(.tmp 78)], #[43]⟩) 3 76 false,
  og 80 (.slice 43 (.tmp 77) none (some (.tmp 79)) none) 43 76 false,
  og 82 (.move (.tmp 7)) 43 76 false,
  ⟨(some 81), (.convert 43 9 (.tmp 80)), 9, "", #[⟨0, .data⟩], (some (76, false))⟩,
  ⟨(some 83), (.convert 43 9 (.tmp 82)), 9, "", #[⟨0, .data⟩], (some (76, false))⟩,
  og 84 (.binOp .neq 9 (.tmp 81) (.tmp 83) 9) 4 76 false,
  ⟨(some 85), (.pick (.tmp 76) (.const (.bool true)) (.tmp 84)), 4, "", #[], none⟩,
  ⟨(some 86), (.move (.tmp 85)), 4, "", #[], none⟩,
  og 87 (.move (.tmp 8)) 43 86 false,
  og 88 (.move (.tmp 7)) 43 86 false,
  og 89 (.call ⟨(.builtin .len), #[(.tmp 88)], #[43]⟩) 3 86 false,
  og 90 (.slice 43 (.tmp 87) (some (.tmp 89)) none none) 43 86 false,
  ⟨(some 91), (.convert 43 9 (.tmp 90)), 9, "", #[⟨0, .data⟩], (some (86, false))⟩,
  og 92 (.binOp .neq 9 (.tmp 91) (.const (.string { data := #[238, 238, 238, 238, 238, 238, 238, 238] })) 9) 4 86 false,
  ⟨(some 93), (.pick (.tmp 86) (.const (.bool true)) (.tmp 92)), 4, "", #[], none⟩]
def F49.r15 : List Oper := [
  op 6 (.assign (.const (.bool false))) 4]
def F49.r16 : List Oper := [
  op 15 (.assign (.const (.int .i64 0))) 3]
def F49.r17 : List Oper := [
  op 94 (.move (.tmp 15)) 3,
  op 95 (.move (.tmp 8)) 43,
  op 96 (.call ⟨(.builtin .len), #[(.tmp 95)], #[43]⟩) 3,
  op 97 (.binOp .lss 3 (.tmp 94) (.tmp 96) 3) 4]
def F49.r19 : List Oper := [
  op 100 (.move (.tmp 8)) 43,
  op 101 (.move (.tmp 15)) 3,
  op 102 (.indexAddr 43 (.tmp 100) (.tmp 101)) 0,
  ⟨none, (.store 5 (.tmp 102) (.const (.int .u8 85))), 0, "", #[⟨0, .chain⟩], none⟩]
def F49.r18 : List Oper := [
  op 98 (.move (.tmp 15)) 3,
  op 99 (.binOp .add 3 (.tmp 98) (.const (.int .i64 1)) 3) 3,
  op 15 (.assign (.tmp 99)) 3]
def F49.r20 : List Oper := [
  op 6 (.assign (.const (.bool true))) 4]
def F49.t7 : Cd := (.region 7 F49.r7.toArray false)
theorem F49.t7_eq {θ : Tag (F49.t7, Q, e, w)} : cwE P F49.t7 Q e w θ = cwE P (.region 7 F49.r7.toArray false) Q e w := rfl
def F49.t8 : Cd := (.seq (.block 1 (.region 8 F49.r8.toArray false)) F49.t7)
theorem F49.t8_eq {θ : Tag (F49.t8, Q, e, w)} : cwE P F49.t8 Q e w θ = cwE P (.seq (.block 1 (.region 8 F49.r8.toArray false)) F49.t7) Q e w := rfl
def F49.t18 : Cd := (.region 18 F49.r18.toArray false)
theorem F49.t18_eq {θ : Tag (F49.t18, Q, e, w)} : cwE P F49.t18 Q e w θ = cwE P (.region 18 F49.r18.toArray false) Q e w := rfl
def F49.t19 : Cd := (.seq (.block 3 (.region 19 F49.r19.toArray false)) F49.t18)
theorem F49.t19_eq {θ : Tag (F49.t19, Q, e, w)} : cwE P F49.t19 Q e w θ = cwE P (.seq (.block 3 (.region 19 F49.r19.toArray false)) F49.t18) Q e w := rfl
def F49.t20 : Cd := (.seq (.region 20 F49.r20.toArray false) .ret)
theorem F49.t20_eq {θ : Tag (F49.t20, Q, e, w)} : cwE P F49.t20 Q e w θ = cwE P (.seq (.region 20 F49.r20.toArray false) .ret) Q e w := rfl
def F49.t16 : Cd := (.seq (.seq (.region 16 F49.r16.toArray false) (.block 2 (.loop (.seq (.seq (.region 17 F49.r17.toArray false) (.cond (.tmp 97) .skip (.exit 2))) F49.t19)))) F49.t20)
theorem F49.t16_eq {θ : Tag (F49.t16, Q, e, w)} : cwE P F49.t16 Q e w θ = cwE P (.seq (.seq (.region 16 F49.r16.toArray false) (.block 2 (.loop (.seq (.seq (.region 17 F49.r17.toArray false) (.cond (.tmp 97) .skip (.exit 2))) F49.t19)))) F49.t20) Q e w := rfl
def F49.t9 : Cd := (.seq (.region 9 F49.r9.toArray false) (.seq (.region 10 F49.r10.toArray false) (.seq (.region 11 F49.r11.toArray false) (.seq (.region 12 F49.r12.toArray true) (.seq (.region 13 F49.r13.toArray true) (.seq (.seq (.region 14 F49.r14.toArray true) (.cond (.tmp 93) (.seq (.region 15 F49.r15.toArray false) .ret) .skip)) F49.t16))))))
theorem F49.t9_eq {θ : Tag (F49.t9, Q, e, w)} : cwE P F49.t9 Q e w θ = cwE P (.seq (.region 9 F49.r9.toArray false) (.seq (.region 10 F49.r10.toArray false) (.seq (.region 11 F49.r11.toArray false) (.seq (.region 12 F49.r12.toArray true) (.seq (.region 13 F49.r13.toArray true) (.seq (.seq (.region 14 F49.r14.toArray true) (.cond (.tmp 93) (.seq (.region 15 F49.r15.toArray false) .ret) .skip)) F49.t16)))))) Q e w := rfl
def F49.code : Cd := (.seq (.region 0 F49.r0.toArray false) (.seq (.region 1 F49.r1.toArray false) (.seq (.region 2 F49.r2.toArray false) (.seq (.region 3 F49.r3.toArray false) (.seq (.region 4 F49.r4.toArray false) (.seq (.seq (.region 5 F49.r5.toArray false) (.block 0 (.loop (.seq (.seq (.region 6 F49.r6.toArray false) (.cond (.tmp 32) .skip (.exit 0))) F49.t8)))) F49.t9))))))
theorem F49.calls (hn : args.size ≤ 103) (h : cwE Tryz.prog F49.code (fnP Tryz.prog #[(.tmp 6)] R) (entry args) w) : Calls Tryz.prog 49 args w R :=
  calls_of_cwE (types := Tryz.prog.types) follows Tryz.func49 F49.code rfl (by kernel_rfl) hn h
def F50.r0 : List Oper := [
  oc 4 (.alloc 42) 0,
  op 5 (.assign (.const (.bool false))) 4]
def F50.r1 : List Oper := [
  op 7 (.move (.tmp 0)) 29,
  op 8 (.move (.tmp 1)) 34,
  oc 9 (.call ⟨(.value (.func 38)), #[(.tmp 7), (.tmp 8)], #[29, 34]⟩) 3,
  op 6 (.assign (.tmp 9)) 3]
def F50.r2 : List Oper := [
  op 10 (.move (.tmp 6)) 3,
  op 11 (.binOp .lss 3 (.tmp 10) (.const (.int .i64 0)) 3) 4]
def F50.r3 : List Oper := [
  op 12 (.build 42 #[]) 42,
  ⟨none, (.store 42 (.tmp 4) (.tmp 12)), 0, "", #[⟨0, .chain⟩], none⟩,
  op 5 (.assign (.const (.bool false))) 4]
def F50.r4 : List Oper := [
  op 13 (.move (.tmp 0)) 29,
  op 14 (.nilCheck (.tmp 13)) 0,
  op 15 (.fieldAddr 84 (.tmp 14) 2) 0,
  od 16 (.load 82 (.tmp 15)) 82,
  op 17 (.move (.tmp 6)) 3,
  op 18 (.indexAddr 82 (.tmp 16) (.tmp 17)) 0,
  op 19 (.fieldAddr 81 (.tmp 18) 0) 0,
  od 20 (.load 42 (.tmp 19)) 42,
  ⟨none, (.store 42 (.tmp 4) (.tmp 20)), 0, "", #[⟨0, .chain⟩], none⟩,
  op 5 (.assign (.const (.bool true))) 4]
def F50.t4 : Cd := (.seq (.region 4 F50.r4.toArray false) .ret)
theorem F50.t4_eq {θ : Tag (F50.t4, Q, e, w)} : cwE P F50.t4 Q e w θ = cwE P (.seq (.region 4 F50.r4.toArray false) .ret) Q e w := rfl
def F50.code : Cd := (.seq (.region 0 F50.r0.toArray false) (.seq (.region 1 F50.r1.toArray false) (.seq (.seq (.region 2 F50.r2.toArray false) (.cond (.tmp 11) (.seq (.region 3 F50.r3.toArray false) .ret) .skip)) F50.t4)))
theorem F50.calls (hn : args.size ≤ 21) (h : cwE Tryz.prog F50.code (fnP Tryz.prog #[(.cell 4 42), (.tmp 5)] R) (entry args) w) : Calls Tryz.prog 50 args w R :=
  calls_of_cwE (types := Tryz.prog.types) follows Tryz.func50 F50.code rfl (by kernel_rfl) hn h
def F51.r0 : List Oper := [
  op 6 (.assign (.const (.int .u64 0))) 34,
  op 7 (.assign (.const (.bool false))) 4]
def F51.r1 : List Oper := [
  op 10 (.move (.tmp 0)) 27,
  op 11 (.nilCheck (.tmp 10)) 0,
  op 12 (.fieldAddr 100 (.tmp 11) 0) 0,
  oc 13 (.call ⟨(.value (.func 30)), #[(.tmp 12)], #[95]⟩) 0]
def F51.r2 : List Oper := [
  op 14 (.move (.tmp 0)) 27,
  op 15 (.nilCheck (.tmp 14)) 0,
  op 16 (.fieldAddr 100 (.tmp 15) 0) 0,
  ⟨none, (.defer ⟨(.value (.func 31)), #[(.tmp 16)], #[95]⟩), 0, "", #[⟨0, .chain⟩], none⟩]
def F51.r3 : List Oper := [
  op 18 (.move (.tmp 0)) 27,
  op 19 (.nilCheck (.tmp 18)) 0,
  op 20 (.fieldAddr 100 (.tmp 19) 5) 0,
  od 21 (.load 98 (.tmp 20)) 98,
  op 22 (.move (.tmp 1)) 34,
  op 23 (.move (.tmp 2)) 9,
  op 24 (.build 142 #[(0, (.tmp 22)), (1, (.tmp 23))]) 142,
  od 25 (.lookup 98 (.tmp 21) (.tmp 24) true) 117,
  op 17 (.move (.tmp 25)) 117,
  op 26 (.extract (.tmp 17) 0) 34,
  op 27 (.extract (.tmp 17) 1) 4,
  op 8 (.assign (.tmp 26)) 34,
  op 9 (.assign (.tmp 27)) 4]
def F51.r4 : List Oper := [
  op 28 (.move (.tmp 8)) 34,
  op 29 (.move (.tmp 9)) 4,
  op 6 (.assign (.tmp 28)) 34,
  op 7 (.assign (.tmp 29)) 4]
def F51.code : Cd := (.seq (.region 0 F51.r0.toArray false) (.seq (.region 1 F51.r1.toArray false) (.seq (.region 2 F51.r2.toArray false) (.seq (.region 3 F51.r3.toArray false) (.seq (.region 4 F51.r4.toArray false) .ret)))))
theorem F51.calls (hn : args.size ≤ 30) (h : cwE Tryz.prog F51.code (fnP Tryz.prog #[(.tmp 6), (.tmp 7)] R) (entry args) w) : Calls Tryz.prog 51 args w R :=
  calls_of_cwE (types := Tryz.prog.types) follows Tryz.func51 F51.code rfl (by kernel_rfl) hn h
def F52.r0 : List Oper := [
  op 6 (.assign (.const (.int .u64 0))) 34,
  op 7 (.assign (.const (.bool false))) 4]
def F52.r1 : List Oper := [
  op 8 (.assign (.const (.int .i64 0))) 3]
def F52.r2 : List Oper := [
  op 10 (.move (.tmp 8)) 3,
  op 11 (.move (.tmp 0)) 29,
  op 12 (.nilCheck (.tmp 11)) 0,
  op 13 (.fieldAddr 84 (.tmp 12) 2) 0,
  od 14 (.load 82 (.tmp 13)) 82,
  op 15 (.call ⟨(.builtin .len), #[(.tmp 14)], #[82]⟩) 3,
  op 16 (.binOp .lss 3 (.tmp 10) (.tmp 15) 3) 4]
def F52.r4 : List Oper := [
  op 19 (.move (.tmp 0)) 29,
  op 20 (.nilCheck (.tmp 19)) 0,
  op 21 (.fieldAddr 84 (.tmp 20) 2) 0,
  od 22 (.load 82 (.tmp 21)) 82,
  op 23 (.move (.tmp 8)) 3,
  op 24 (.indexAddr 82 (.tmp 22) (.tmp 23)) 0,
  op 25 (.fieldAddr 81 (.tmp 24) 0) 0,
  od 26 (.load 42 (.tmp 25)) 42,
  oc 9 (.alloc 42) 0,
  ⟨none, (.store 42 (.tmp 9) (.tmp 26)), 0, "", #[⟨0, .chain⟩], none⟩]
def F52.r5 : List Oper := [
  op 27 (.fieldAddr 42 (.tmp 9) 1) 0,
  od 28 (.load 34 (.tmp 27)) 34,
  op 29 (.move (.tmp 1)) 34,
  op 30 (.binOp .eql 34 (.tmp 28) (.tmp 29) 34) 4,
  op 31 (.move (.tmp 30)) 4,
  og 32 (.fieldAddr 42 (.tmp 9) 0) 0 31 true,
  ⟨(some 33), (.load 34 (.tmp 32)), 34, "", #[⟨0, .data⟩], (some (31, true))⟩,
  og 34 (.fieldAddr 42 (.tmp 9) 1) 0 31 true,
  ⟨(some 35), (.load 34 (.tmp 34)), 34, "", #[⟨0, .data⟩], (some (31, true))⟩,
  og 36 (.binOp .neq 34 (.tmp 33) (.tmp 35) 34) 4 31 true,
  op 37 (.pick (.tmp 31) (.tmp 36) (.const (.bool false))) 4,
  op 38 (.move (.tmp 37)) 4,
  og 39 (.fieldAddr 42 (.tmp 9) 2) 0 38 true,
  ⟨(some 40), (.load 9 (.tmp 39)), 9, "", #[⟨0, .data⟩], (some (38, true))⟩,
  og 41 (.move (.tmp 2)) 9 38 true,
  og 42 (.binOp .eql 9 (.tmp 40) (.tmp 41) 9) 4 38 true,
  op 43 (.pick (.tmp 38) (.tmp 42) (.const (.bool false))) 4]
def F52.r6 : List Oper := [
  op 44 (.fieldAddr 42 (.tmp 9) 0) 0,
  od 45 (.load 34 (.tmp 44)) 34,
  op 6 (.assign (.tmp 45)) 34,
  op 7 (.assign (.const (.bool true))) 4]
def F52.r3 : List Oper := [
  op 17 (.move (.tmp 8)) 3,
  op 18 (.binOp .add 3 (.tmp 17) (.const (.int .i64 1)) 3) 3,
  op 8 (.assign (.tmp 18)) 3]
def F52.r7 : List Oper := [
  op 6 (.assign (.const (.int .u64 0))) 34,
  op 7 (.assign (.const (.bool false))) 4]
def F52.t3 : Cd := (.region 3 F52.r3.toArray false)
theorem F52.t3_eq {θ : Tag (F52.t3, Q, e, w)} : cwE P F52.t3 Q e w θ = cwE P (.region 3 F52.r3.toArray false) Q e w := rfl
def F52.t4 : Cd := (.seq (.block 1 (.seq (.region 4 F52.r4.toArray false) (.seq (.region 5 F52.r5.toArray false) (.cond (.tmp 43) (.seq (.region 6 F52.r6.toArray false) .ret) .skip)))) F52.t3)
theorem F52.t4_eq {θ : Tag (F52.t4, Q, e, w)} : cwE P F52.t4 Q e w θ = cwE P (.seq (.block 1 (.seq (.region 4 F52.r4.toArray false) (.seq (.region 5 F52.r5.toArray false) (.cond (.tmp 43) (.seq (.region 6 F52.r6.toArray false) .ret) .skip)))) F52.t3) Q e w := rfl
def F52.t7 : Cd := (.seq (.region 7 F52.r7.toArray false) .ret)
theorem F52.t7_eq {θ : Tag (F52.t7, Q, e, w)} : cwE P F52.t7 Q e w θ = cwE P (.seq (.region 7 F52.r7.toArray false) .ret) Q e w := rfl
def F52.code : Cd := (.seq (.region 0 F52.r0.toArray false) (.seq (.seq (.region 1 F52.r1.toArray false) (.block 0 (.loop (.seq (.seq (.region 2 F52.r2.toArray false) (.cond (.tmp 16) .skip (.exit 0))) F52.t4)))) F52.t7))
theorem F52.calls (hn : args.size ≤ 46) (h : cwE Tryz.prog F52.code (fnP Tryz.prog #[(.tmp 6), (.tmp 7)] R) (entry args) w) : Calls Tryz.prog 52 args w R :=
  calls_of_cwE (types := Tryz.prog.types) follows Tryz.func52 F52.code rfl (by kernel_rfl) hn h
def F53.r0 : List Oper := [
  op 6 (.assign (.const (.int .u64 0))) 34,
  op 7 (.assign (.const (.bool false))) 4]
def F53.r1 : List Oper := [
  op 9 (.move (.tmp 0)) 27,
  op 10 (.nilCheck (.tmp 9)) 0,
  op 11 (.fieldAddr 100 (.tmp 10) 0) 0,
  oc 12 (.call ⟨(.value (.func 30)), #[(.tmp 11)], #[95]⟩) 0]
def F53.r2 : List Oper := [
  op 13 (.move (.tmp 0)) 27,
  op 14 (.nilCheck (.tmp 13)) 0,
  op 15 (.fieldAddr 100 (.tmp 14) 0) 0,
  ⟨none, (.defer ⟨(.value (.func 31)), #[(.tmp 15)], #[95]⟩), 0, "", #[⟨0, .chain⟩], none⟩]
def F53.r3 : List Oper := [
  op 16 (.move (.tmp 0)) 27,
  op 17 (.nilCheck (.tmp 16)) 0,
  op 18 (.fieldAddr 100 (.tmp 17) 3) 0,
  od 19 (.load 96 (.tmp 18)) 96,
  op 20 (.move (.tmp 1)) 34,
  od 21 (.lookup 96 (.tmp 19) (.tmp 20) false) 101,
  op 8 (.assign (.tmp 21)) 101]
def F53.r4 : List Oper := [
  op 22 (.move (.tmp 8)) 101,
  op 23 (.binOp .eql 101 (.tmp 22) (.const (.pointer none)) 101) 4]
def F53.r5 : List Oper := [
  op 6 (.assign (.const (.int .u64 0))) 34,
  op 7 (.assign (.const (.bool false))) 4]
def F53.r6 : List Oper := [
  op 24 (.move (.tmp 8)) 101,
  op 25 (.nilCheck (.tmp 24)) 0,
  op 26 (.fieldAddr 104 (.tmp 25) 2) 0,
  od 27 (.load 97 (.tmp 26)) 97,
  op 28 (.move (.tmp 2)) 34,
  oc 29 (.call ⟨(.value (.func 83)), #[(.tmp 27), (.tmp 28)], #[97, 34]⟩) 117,
  op 30 (.extract (.tmp 29) 0) 34,
  op 31 (.extract (.tmp 29) 1) 4,
  op 6 (.assign (.tmp 30)) 34,
  op 7 (.assign (.tmp 31)) 4]
def F53.t6 : Cd := (.seq (.region 6 F53.r6.toArray false) .ret)
theorem F53.t6_eq {θ : Tag (F53.t6, Q, e, w)} : cwE P F53.t6 Q e w θ = cwE P (.seq (.region 6 F53.r6.toArray false) .ret) Q e w := rfl
def F53.code : Cd := (.seq (.region 0 F53.r0.toArray false) (.seq (.region 1 F53.r1.toArray false) (.seq (.region 2 F53.r2.toArray false) (.seq (.region 3 F53.r3.toArray false) (.seq (.seq (.region 4 F53.r4.toArray false) (.cond (.tmp 23) (.seq (.region 5 F53.r5.toArray false) .ret) .skip)) F53.t6)))))
theorem F53.calls (hn : args.size ≤ 32) (h : cwE Tryz.prog F53.code (fnP Tryz.prog #[(.tmp 6), (.tmp 7)] R) (entry args) w) : Calls Tryz.prog 53 args w R :=
  calls_of_cwE (types := Tryz.prog.types) follows Tryz.func53 F53.code rfl (by kernel_rfl) hn h
def F54.r0 : List Oper := [
  op 6 (.assign (.const (.int .u64 0))) 34,
  op 7 (.assign (.const (.bool false))) 4]
def F54.r1 : List Oper := [
  op 8 (.assign (.const (.int .i64 0))) 3]
def F54.r2 : List Oper := [
  op 10 (.move (.tmp 8)) 3,
  op 11 (.move (.tmp 0)) 29,
  op 12 (.nilCheck (.tmp 11)) 0,
  op 13 (.fieldAddr 84 (.tmp 12) 2) 0,
  od 14 (.load 82 (.tmp 13)) 82,
  op 15 (.call ⟨(.builtin .len), #[(.tmp 14)], #[82]⟩) 3,
  op 16 (.binOp .lss 3 (.tmp 10) (.tmp 15) 3) 4]
def F54.r4 : List Oper := [
  op 19 (.move (.tmp 0)) 29,
  op 20 (.nilCheck (.tmp 19)) 0,
  op 21 (.fieldAddr 84 (.tmp 20) 2) 0,
  od 22 (.load 82 (.tmp 21)) 82,
  op 23 (.move (.tmp 8)) 3,
  op 24 (.indexAddr 82 (.tmp 22) (.tmp 23)) 0,
  op 25 (.fieldAddr 81 (.tmp 24) 0) 0,
  od 26 (.load 42 (.tmp 25)) 42,
  oc 9 (.alloc 42) 0,
  ⟨none, (.store 42 (.tmp 9) (.tmp 26)), 0, "", #[⟨0, .chain⟩], none⟩]
def F54.r5 : List Oper := [
  op 27 (.fieldAddr 42 (.tmp 9) 1) 0,
  od 28 (.load 34 (.tmp 27)) 34,
  op 29 (.move (.tmp 1)) 34,
  op 30 (.binOp .eql 34 (.tmp 28) (.tmp 29) 34) 4,
  op 31 (.move (.tmp 30)) 4,
  og 32 (.fieldAddr 42 (.tmp 9) 0) 0 31 true,
  ⟨(some 33), (.load 34 (.tmp 32)), 34, "", #[⟨0, .data⟩], (some (31, true))⟩,
  og 34 (.fieldAddr 42 (.tmp 9) 1) 0 31 true,
  ⟨(some 35), (.load 34 (.tmp 34)), 34, "", #[⟨0, .data⟩], (some (31, true))⟩,
  og 36 (.binOp .neq 34 (.tmp 33) (.tmp 35) 34) 4 31 true,
  op 37 (.pick (.tmp 31) (.tmp 36) (.const (.bool false))) 4,
  op 38 (.move (.tmp 37)) 4,
  og 39 (.fieldAddr 42 (.tmp 9) 0) 0 38 true,
  ⟨(some 40), (.load 34 (.tmp 39)), 34, "", #[⟨0, .data⟩], (some (38, true))⟩,
  og 41 (.move (.tmp 2)) 34 38 true,
  og 42 (.binOp .gtr 34 (.tmp 40) (.tmp 41) 34) 4 38 true,
  op 43 (.pick (.tmp 38) (.tmp 42) (.const (.bool false))) 4]
def F54.r6 : List Oper := [
  op 44 (.fieldAddr 42 (.tmp 9) 0) 0,
  od 45 (.load 34 (.tmp 44)) 34,
  op 6 (.assign (.tmp 45)) 34,
  op 7 (.assign (.const (.bool true))) 4]
def F54.r3 : List Oper := [
  op 17 (.move (.tmp 8)) 3,
  op 18 (.binOp .add 3 (.tmp 17) (.const (.int .i64 1)) 3) 3,
  op 8 (.assign (.tmp 18)) 3]
def F54.r7 : List Oper := [
  op 6 (.assign (.const (.int .u64 0))) 34,
  op 7 (.assign (.const (.bool false))) 4]
def F54.t3 : Cd := (.region 3 F54.r3.toArray false)
theorem F54.t3_eq {θ : Tag (F54.t3, Q, e, w)} : cwE P F54.t3 Q e w θ = cwE P (.region 3 F54.r3.toArray false) Q e w := rfl
def F54.t4 : Cd := (.seq (.block 1 (.seq (.region 4 F54.r4.toArray false) (.seq (.region 5 F54.r5.toArray false) (.cond (.tmp 43) (.seq (.region 6 F54.r6.toArray false) .ret) .skip)))) F54.t3)
theorem F54.t4_eq {θ : Tag (F54.t4, Q, e, w)} : cwE P F54.t4 Q e w θ = cwE P (.seq (.block 1 (.seq (.region 4 F54.r4.toArray false) (.seq (.region 5 F54.r5.toArray false) (.cond (.tmp 43) (.seq (.region 6 F54.r6.toArray false) .ret) .skip)))) F54.t3) Q e w := rfl
def F54.t7 : Cd := (.seq (.region 7 F54.r7.toArray false) .ret)
theorem F54.t7_eq {θ : Tag (F54.t7, Q, e, w)} : cwE P F54.t7 Q e w θ = cwE P (.seq (.region 7 F54.r7.toArray false) .ret) Q e w := rfl
def F54.code : Cd := (.seq (.region 0 F54.r0.toArray false) (.seq (.seq (.region 1 F54.r1.toArray false) (.block 0 (.loop (.seq (.seq (.region 2 F54.r2.toArray false) (.cond (.tmp 16) .skip (.exit 0))) F54.t4)))) F54.t7))
theorem F54.calls (hn : args.size ≤ 46) (h : cwE Tryz.prog F54.code (fnP Tryz.prog #[(.tmp 6), (.tmp 7)] R) (entry args) w) : Calls Tryz.prog 54 args w R :=
  calls_of_cwE (types := Tryz.prog.types) follows Tryz.func54 F54.code rfl (by kernel_rfl) hn h
def F55.r0 : List Oper := [
  op 10 (.assign (.const (.bool false))) 4]
def F55.r1 : List Oper := [
  op 15 (.move (.tmp 0)) 61,
  op 16 (.move (.tmp 1)) 3,
  op 17 (.nilCheck (.tmp 15)) 0,
  op 18 (.fieldAddr 66 (.tmp 17) 0) 0,
  op 19 (.indexAddr 62 (.tmp 18) (.tmp 16)) 0,
  od 20 (.load 27 (.tmp 19)) 27,
  op 21 (.move (.tmp 2)) 34,
  op 22 (.move (.tmp 3)) 34,
  op 23 (.move (.tmp 4)) 3,
  oc 24 (.call ⟨(.value (.func 24)), #[(.tmp 20), (.tmp 21), (.tmp 22), (.tmp 23)], #[27, 34, 34, 3]⟩) 43,
  op 11 (.assign (.tmp 24)) 43]
def F55.r2 : List Oper := [
  op 25 (.move (.tmp 0)) 61,
  op 26 (.move (.tmp 1)) 3,
  op 27 (.nilCheck (.tmp 25)) 0,
  op 28 (.fieldAddr 66 (.tmp 27) 0) 0,
  op 29 (.indexAddr 62 (.tmp 28) (.tmp 26)) 0,
  od 30 (.load 27 (.tmp 29)) 27,
  op 31 (.move (.tmp 2)) 34,
  op 32 (.move (.tmp 3)) 34,
  op 33 (.move (.tmp 4)) 3,
  oc 34 (.call ⟨(.value (.func 24)), #[(.tmp 30), (.tmp 31), (.tmp 32), (.tmp 33)], #[27, 34, 34, 3]⟩) 43,
  op 12 (.assign (.tmp 34)) 43]
def F55.r3 : List Oper := [
  op 35 (.move (.tmp 0)) 61,
  op 36 (.move (.tmp 1)) 3,
  op 37 (.nilCheck (.tmp 35)) 0,
  op 38 (.fieldAddr 66 (.tmp 37) 1) 0,
  op 39 (.indexAddr 63 (.tmp 38) (.tmp 36)) 0,
  od 40 (.load 29 (.tmp 39)) 29,
  op 41 (.move (.tmp 2)) 34,
  op 42 (.move (.tmp 3)) 34,
  op 43 (.move (.tmp 4)) 3,
  oc 44 (.call ⟨(.value (.func 85)), #[(.tmp 40), (.tmp 41), (.tmp 42), (.tmp 43)], #[29, 34, 34, 3]⟩) 43,
  op 13 (.assign (.tmp 44)) 43]
def F55.r4 : List Oper := [
  op 45 (.move (.tmp 11)) 43,
  od 46 (.convert 43 9 (.tmp 45)) 9,
  op 47 (.move (.tmp 13)) 43,
  od 48 (.convert 43 9 (.tmp 47)) 9,
  op 49 (.binOp .eql 9 (.tmp 46) (.tmp 48) 9) 4,
  op 50 (.move (.tmp 49)) 4,
  og 51 (.move (.tmp 12)) 43 50 true,
  ⟨(some 52), (.convert 43 9 (.tmp 51)), 9, "", #[⟨0, .data⟩], (some (50, true))⟩,
  og 53 (.move (.tmp 13)) 43 50 true,
  ⟨(some 54), (.convert 43 9 (.tmp 53)), 9, "", #[⟨0, .data⟩], (some (50, true))⟩,
  og 55 (.binOp .eql 9 (.tmp 52) (.tmp 54) 9) 4 50 true,
  op 56 (.pick (.tmp 50) (.tmp 55) (.const (.bool false))) 4,
  op 14 (.assign (.tmp 56)) 4]
def F55.r5 : List Oper := [
  op 57 (.move (.tmp 0)) 61,
  op 58 (.move (.tmp 11)) 43,
  op 59 (.move (.tmp 12)) 43,
  oc 60 (.buildSlice 64 2 #[(0, (.tmp 58)), (1, (.tmp 59))]) 64,
  oc 61 (.call ⟨(.value (.func 86)), #[(.tmp 57), (.tmp 60)], #[61, 64]⟩) 0]
def F55.r6 : List Oper := [
  op 62 (.move (.tmp 14)) 4,
  op 10 (.assign (.tmp 62)) 4]
def F55.code : Cd := (.seq (.region 0 F55.r0.toArray false) (.seq (.region 1 F55.r1.toArray false) (.seq (.region 2 F55.r2.toArray false) (.seq (.region 3 F55.r3.toArray false) (.seq (.region 4 F55.r4.toArray false) (.seq (.region 5 F55.r5.toArray false) (.seq (.region 6 F55.r6.toArray false) .ret)))))))
theorem F55.calls (hn : args.size ≤ 63) (h : cwE Tryz.prog F55.code (fnP Tryz.prog #[(.tmp 10)] R) (entry args) w) : Calls Tryz.prog 55 args w R :=
  calls_of_cwE (types := Tryz.prog.types) follows Tryz.func55 F55.code rfl (by kernel_rfl) hn h
def F56.r0 : List Oper := [
  op 2 (.assign (.const (.int .u64 0))) 34]
def F56.r1 : List Oper := [
  op 3 (.move (.tmp 0)) 29,
  op 4 (.nilCheck (.tmp 3)) 0,
  op 5 (.fieldAddr 84 (.tmp 4) 1) 0,
  od 6 (.load 34 (.tmp 5)) 34,
  op 2 (.assign (.tmp 6)) 34]
def F56.code : Cd := (.seq (.region 0 F56.r0.toArray false) (.seq (.region 1 F56.r1.toArray false) .ret))
theorem F56.calls (hn : args.size ≤ 7) (h : cwE Tryz.prog F56.code (fnP Tryz.prog #[(.tmp 2)] R) (entry args) w) : Calls Tryz.prog 56 args w R :=
  calls_of_cwE (types := Tryz.prog.types) follows Tryz.func56 F56.code rfl (by kernel_rfl) hn h
def F57.r0 : List Oper := [
  op 2 (.assign (.const (.int .i64 0))) 3]
def F57.r1 : List Oper := [
  op 3 (.move (.tmp 0)) 29,
  op 4 (.nilCheck (.tmp 3)) 0,
  op 5 (.fieldAddr 84 (.tmp 4) 2) 0,
  od 6 (.load 82 (.tmp 5)) 82,
  op 7 (.call ⟨(.builtin .len), #[(.tmp 6)], #[82]⟩) 3,
  op 2 (.assign (.tmp 7)) 3]
def F57.code : Cd := (.seq (.region 0 F57.r0.toArray false) (.seq (.region 1 F57.r1.toArray false) .ret))
theorem F57.calls (hn : args.size ≤ 8) (h : cwE Tryz.prog F57.code (fnP Tryz.prog #[(.tmp 2)] R) (entry args) w) : Calls Tryz.prog 57 args w R :=
  calls_of_cwE (types := Tryz.prog.types) follows Tryz.func57 F57.code rfl (by kernel_rfl) hn h
def F58.r0 : List Oper := [
  op 2 (.assign (.const (.pointer none))) 27]
def F58.r1 : List Oper := [
  op 12 (.move (.tmp 0)) 27,
  op 13 (.nilCheck (.tmp 12)) 0,
  op 14 (.fieldAddr 100 (.tmp 13) 0) 0,
  oc 15 (.call ⟨(.value (.func 63)), #[(.tmp 14)], #[95]⟩) 0]
def F58.r2 : List Oper := [
  op 16 (.move (.tmp 0)) 27,
  op 17 (.nilCheck (.tmp 16)) 0,
  op 18 (.fieldAddr 100 (.tmp 17) 0) 0,
  ⟨none, (.defer ⟨(.value (.func 64)), #[(.tmp 18)], #[95]⟩), 0, "", #[⟨0, .chain⟩], none⟩]
def F58.r3 : PT :=
  (.op ⟨(some 19), (.move (.tmp 0)), 27, "", #[], none⟩
  (.op ⟨(some 20), (.nilCheck (.tmp 19)), 0, "", #[], none⟩
  (.op ⟨(some 21), (.fieldAddr 100 (.tmp 20) 1), 0, "", #[], none⟩
  (.op ⟨(some 23), (.move (.tmp 0)), 27, "", #[], none⟩
  (.op ⟨(some 24), (.nilCheck (.tmp 23)), 0, "", #[], none⟩
  (.op ⟨(some 25), (.fieldAddr 100 (.tmp 24) 2), 0, "", #[], none⟩
  (.op ⟨(some 28), (.move (.tmp 0)), 27, "", #[], none⟩
  (.op ⟨(some 29), (.nilCheck (.tmp 28)), 0, "", #[], none⟩
  (.op ⟨(some 30), (.fieldAddr 100 (.tmp 29) 4), 0, "", #[], none⟩
  (.op ⟨(some 22), (.load 3 (.tmp 21)), 3, "", #[⟨65536, .data⟩], none⟩
  (.op ⟨(some 26), (.load 34 (.tmp 25)), 34, "", #[⟨65536, .data⟩], none⟩
  (.op ⟨(some 31), (.load 97 (.tmp 30)), 97, "", #[⟨73728, .data⟩], none⟩
  (.alt (.op ⟨(some 27), (.makeMap 96 none), 96, "", #[⟨8, .chain⟩], none⟩
  (.alt (.op ⟨(some 32), (.call ⟨(.value (.func 87)), #[(.tmp 31)], #[97]⟩), 97, "", #[⟨13, .chain⟩], none⟩
  (.alt (.op ⟨(some 33), (.makeMap 98 none), 98, "", #[⟨14, .chain⟩], none⟩
  (.op ⟨(some 34), (.build 100 #[(1, (.tmp 22)), (2, (.tmp 26)), (3, (.tmp 27)), (4, (.tmp 32)), (5, (.tmp 33))]), 100, "", #[], none⟩
  (.alt (.op ⟨(some 35), (.box 100 (.tmp 34)), 27, "", #[⟨16, .chain⟩], none⟩
  (.op ⟨(some 3), (.assign (.tmp 35)), 27, "", #[], none⟩
  .done))
  .stop)))
  .stop))
  (.alt (.op ⟨(some 33), (.makeMap 98 none), 98, "", #[⟨14, .chain⟩], none⟩
  (.alt (.op ⟨(some 32), (.call ⟨(.value (.func 87)), #[(.tmp 31)], #[97]⟩), 97, "", #[⟨13, .chain⟩], none⟩
  (.op ⟨(some 34), (.build 100 #[(1, (.tmp 22)), (2, (.tmp 26)), (3, (.tmp 27)), (4, (.tmp 32)), (5, (.tmp 33))]), 100, "", #[], none⟩
  (.alt (.op ⟨(some 35), (.box 100 (.tmp 34)), 27, "", #[⟨16, .chain⟩], none⟩
  (.op ⟨(some 3), (.assign (.tmp 35)), 27, "", #[], none⟩
  .done))
  .stop)))
  .stop))
  .stop)))
  (.alt (.op ⟨(some 32), (.call ⟨(.value (.func 87)), #[(.tmp 31)], #[97]⟩), 97, "", #[⟨13, .chain⟩], none⟩
  (.alt (.op ⟨(some 27), (.makeMap 96 none), 96, "", #[⟨8, .chain⟩], none⟩
  (.alt (.op ⟨(some 33), (.makeMap 98 none), 98, "", #[⟨14, .chain⟩], none⟩
  (.op ⟨(some 34), (.build 100 #[(1, (.tmp 22)), (2, (.tmp 26)), (3, (.tmp 27)), (4, (.tmp 32)), (5, (.tmp 33))]), 100, "", #[], none⟩
  (.alt (.op ⟨(some 35), (.box 100 (.tmp 34)), 27, "", #[⟨16, .chain⟩], none⟩
  (.op ⟨(some 3), (.assign (.tmp 35)), 27, "", #[], none⟩
  .done))
  .stop)))
  .stop))
  (.alt (.op ⟨(some 33), (.makeMap 98 none), 98, "", #[⟨14, .chain⟩], none⟩
  (.alt (.op ⟨(some 27), (.makeMap 96 none), 96, "", #[⟨8, .chain⟩], none⟩
  (.op ⟨(some 34), (.build 100 #[(1, (.tmp 22)), (2, (.tmp 26)), (3, (.tmp 27)), (4, (.tmp 32)), (5, (.tmp 33))]), 100, "", #[], none⟩
  (.alt (.op ⟨(some 35), (.box 100 (.tmp 34)), 27, "", #[⟨16, .chain⟩], none⟩
  (.op ⟨(some 3), (.assign (.tmp 35)), 27, "", #[], none⟩
  .done))
  .stop)))
  .stop))
  .stop)))
  (.alt (.op ⟨(some 33), (.makeMap 98 none), 98, "", #[⟨14, .chain⟩], none⟩
  (.alt (.op ⟨(some 27), (.makeMap 96 none), 96, "", #[⟨8, .chain⟩], none⟩
  (.alt (.op ⟨(some 32), (.call ⟨(.value (.func 87)), #[(.tmp 31)], #[97]⟩), 97, "", #[⟨13, .chain⟩], none⟩
  (.op ⟨(some 34), (.build 100 #[(1, (.tmp 22)), (2, (.tmp 26)), (3, (.tmp 27)), (4, (.tmp 32)), (5, (.tmp 33))]), 100, "", #[], none⟩
  (.alt (.op ⟨(some 35), (.box 100 (.tmp 34)), 27, "", #[⟨16, .chain⟩], none⟩
  (.op ⟨(some 3), (.assign (.tmp 35)), 27, "", #[], none⟩
  .done))
  .stop)))
  .stop))
  (.alt (.op ⟨(some 32), (.call ⟨(.value (.func 87)), #[(.tmp 31)], #[97]⟩), 97, "", #[⟨13, .chain⟩], none⟩
  (.alt (.op ⟨(some 27), (.makeMap 96 none), 96, "", #[⟨8, .chain⟩], none⟩
  (.op ⟨(some 34), (.build 100 #[(1, (.tmp 22)), (2, (.tmp 26)), (3, (.tmp 27)), (4, (.tmp 32)), (5, (.tmp 33))]), 100, "", #[], none⟩
  (.alt (.op ⟨(some 35), (.box 100 (.tmp 34)), 27, "", #[⟨16, .chain⟩], none⟩
  (.op ⟨(some 3), (.assign (.tmp 35)), 27, "", #[], none⟩
  .done))
  .stop)))
  .stop))
  .stop)))
  .stop)))))))))))))))
def F58.r4 : List Oper := [
  op 36 (.move (.tmp 0)) 27,
  op 37 (.nilCheck (.tmp 36)) 0,
  op 38 (.fieldAddr 100 (.tmp 37) 5) 0,
  od 39 (.load 98 (.tmp 38)) 98,
  oc 40 (.range 98 (.tmp 39)) 0]
def F58.r5 : List Oper := [
  oc 41 (.next (.tmp 40) false) 0,
  op 42 (.extract (.tmp 41) 0) 4]
def F58.r6 : List Oper := [
  od 43 (.entry (.tmp 40)) 0,
  op 44 (.extract (.tmp 43) 0) 142,
  op 45 (.extract (.tmp 43) 1) 34,
  oc 4 (.alloc 142) 0,
  ⟨none, (.store 142 (.tmp 4) (.tmp 44)), 0, "", #[⟨0, .chain⟩], none⟩,
  op 5 (.assign (.tmp 45)) 34]
def F58.r7 : List Oper := [
  ⟨(some 46), (.move (.tmp 3)), 27, "", #[], none⟩,
  ⟨(some 47), (.nilCheck (.tmp 46)), 0, "", #[], none⟩,
  ⟨(some 48), (.fieldAddr 100 (.tmp 47) 5), 0, "", #[], none⟩,
  ⟨(some 51), (.move (.tmp 5)), 34, "", #[], none⟩,
  ⟨(some 49), (.load 98 (.tmp 48)), 98, "", #[⟨64, .data⟩], none⟩,
  ⟨(some 50), (.load 142 (.tmp 4)), 142, "", #[⟨64, .data⟩], none⟩,
  ⟨none, (.mapUpdate 98 (.tmp 49) (.tmp 50) (.tmp 51)), 0, "", #[⟨6, .chain⟩], none⟩]
def F58.r8 : List Oper := [
  op 52 (.move (.tmp 0)) 27,
  op 53 (.nilCheck (.tmp 52)) 0,
  op 54 (.fieldAddr 100 (.tmp 53) 3) 0,
  od 55 (.load 96 (.tmp 54)) 96,
  oc 56 (.range 96 (.tmp 55)) 0]
def F58.r9 : List Oper := [
  oc 57 (.next (.tmp 56) false) 0,
  op 58 (.extract (.tmp 57) 0) 4]
def F58.r10 : List Oper := [
  od 59 (.entry (.tmp 56)) 0,
  op 60 (.extract (.tmp 59) 0) 34,
  op 61 (.extract (.tmp 59) 1) 101,
  op 6 (.assign (.tmp 60)) 34,
  op 7 (.assign (.tmp 61)) 101]
def F58.r11 : List Oper := [
  ⟨(some 62), (.move (.tmp 7)), 101, "", #[], none⟩,
  ⟨(some 63), (.nilCheck (.tmp 62)), 0, "", #[], none⟩,
  ⟨(some 64), (.fieldAddr 104 (.tmp 63) 1), 0, "", #[], none⟩,
  ⟨(some 66), (.move (.tmp 7)), 101, "", #[], none⟩,
  ⟨(some 67), (.nilCheck (.tmp 66)), 0, "", #[], none⟩,
  ⟨(some 68), (.fieldAddr 104 (.tmp 67) 2), 0, "", #[], none⟩,
  ⟨(some 65), (.load 42 (.tmp 64)), 42, "", #[⟨1024, .data⟩], none⟩,
  ⟨(some 69), (.load 97 (.tmp 68)), 97, "", #[⟨1280, .data⟩], none⟩,
  ⟨(some 70), (.call ⟨(.value (.func 87)), #[(.tmp 69)], #[97]⟩), 97, "", #[⟨8, .chain⟩], none⟩,
  ⟨(some 71), (.build 104 #[(1, (.tmp 65)), (2, (.tmp 70))]), 104, "", #[], none⟩,
  ⟨(some 72), (.box 104 (.tmp 71)), 101, "", #[⟨10, .chain⟩], none⟩,
  ⟨(some 8), (.assign (.tmp 72)), 101, "", #[], none⟩]
def F58.r12 : List Oper := [
  op 73 (.move (.tmp 7)) 101,
  op 74 (.nilCheck (.tmp 73)) 0,
  op 75 (.fieldAddr 104 (.tmp 74) 3) 0,
  od 76 (.load 102 (.tmp 75)) 102,
  op 77 (.call ⟨(.builtin .len), #[(.tmp 76)], #[102]⟩) 3,
  op 78 (.move (.const (.int .i64 0))) 3]
def F58.r13 : List Oper := [
  op 79 (.binOp .lss 3 (.tmp 78) (.tmp 77) 3) 0]
def F58.r14 : List Oper := [
  op 80 (.indexAddr 102 (.tmp 76) (.tmp 78)) 0,
  od 81 (.load 136 (.tmp 80)) 136,
  op 10 (.assign (.tmp 81)) 136]
def F58.r15 : List Oper := [
  op 82 (.move (.tmp 10)) 136,
  op 83 (.binOp .neq 136 (.tmp 82) (.const (.pointer none)) 136) 4]
def F58.r16 : List Oper := [
  op 84 (.move (.tmp 10)) 136,
  op 85 (.nilCheck (.tmp 84)) 0,
  od 86 (.load 137 (.tmp 85)) 137,
  oc 11 (.alloc 137) 0,
  ⟨none, (.store 137 (.tmp 11) (.tmp 86)), 0, "", #[⟨0, .chain⟩], none⟩]
def F58.r17 : List Oper := [
  op 10 (.assign (.tmp 11)) 136]
def F58.r18 : List Oper := [
  op 87 (.move (.tmp 8)) 101,
  op 88 (.move (.tmp 8)) 101,
  op 89 (.nilCheck (.tmp 88)) 0,
  op 90 (.fieldAddr 104 (.tmp 89) 3) 0,
  od 91 (.load 102 (.tmp 90)) 102,
  op 92 (.move (.tmp 10)) 136,
  oc 93 (.buildSlice 102 1 #[(0, (.tmp 92))]) 102,
  oc 94 (.call ⟨(.builtin .append), #[(.tmp 91), (.tmp 93)], #[102, 102]⟩) 102,
  op 95 (.nilCheck (.tmp 87)) 0,
  op 96 (.fieldAddr 104 (.tmp 95) 3) 0,
  ⟨none, (.store 102 (.tmp 96) (.tmp 94)), 0, "", #[⟨0, .chain⟩], none⟩]
def F58.r19 : List Oper := [
  op 97 (.binOp .add 3 (.tmp 78) (.const (.int .i64 1)) 3) 3,
  op 78 (.move (.tmp 97)) 3]
def F58.r20 : List Oper := [
  op 98 (.move (.tmp 3)) 27,
  op 99 (.nilCheck (.tmp 98)) 0,
  op 100 (.fieldAddr 100 (.tmp 99) 3) 0,
  od 101 (.load 96 (.tmp 100)) 96,
  op 102 (.move (.tmp 6)) 34,
  op 103 (.move (.tmp 8)) 101,
  ⟨none, (.mapUpdate 96 (.tmp 101) (.tmp 102) (.tmp 103)), 0, "", #[⟨0, .chain⟩], none⟩]
def F58.r21 : List Oper := [
  op 104 (.move (.tmp 3)) 27,
  op 2 (.assign (.tmp 104)) 27]
def F58.t6 : Cd := (.block 1 (.seq (.region 6 F58.r6.toArray false) (.region 7 F58.r7.toArray true)))
theorem F58.t6_eq {θ : Tag (F58.t6, Q, e, w)} : cwE P F58.t6 Q e w θ = cwE P (.block 1 (.seq (.region 6 F58.r6.toArray false) (.region 7 F58.r7.toArray true))) Q e w := rfl
def F58.t18 : Cd := (.region 18 F58.r18.toArray false)
theorem F58.t18_eq {θ : Tag (F58.t18, Q, e, w)} : cwE P F58.t18 Q e w θ = cwE P (.region 18 F58.r18.toArray false) Q e w := rfl
def F58.t19 : Cd := (.region 19 F58.r19.toArray false)
theorem F58.t19_eq {θ : Tag (F58.t19, Q, e, w)} : cwE P F58.t19 Q e w θ = cwE P (.region 19 F58.r19.toArray false) Q e w := rfl
def F58.t14 : Cd := (.seq (.block 5 (.seq (.region 14 F58.r14.toArray false) (.seq (.seq (.region 15 F58.r15.toArray false) (.cond (.tmp 83) (.seq (.region 16 F58.r16.toArray false) (.region 17 F58.r17.toArray false)) .skip)) F58.t18))) F58.t19)
theorem F58.t14_eq {θ : Tag (F58.t14, Q, e, w)} : cwE P F58.t14 Q e w θ = cwE P (.seq (.block 5 (.seq (.region 14 F58.r14.toArray false) (.seq (.seq (.region 15 F58.r15.toArray false) (.cond (.tmp 83) (.seq (.region 16 F58.r16.toArray false) (.region 17 F58.r17.toArray false)) .skip)) F58.t18))) F58.t19) Q e w := rfl
def F58.t20 : Cd := (.region 20 F58.r20.toArray false)
theorem F58.t20_eq {θ : Tag (F58.t20, Q, e, w)} : cwE P F58.t20 Q e w θ = cwE P (.region 20 F58.r20.toArray false) Q e w := rfl
def F58.t10 : Cd := (.block 3 (.seq (.region 10 F58.r10.toArray false) (.seq (.region 11 F58.r11.toArray true) (.seq (.seq (.region 12 F58.r12.toArray false) (.block 4 (.loop (.seq (.region 13 F58.r13.toArray false) (.seq (.cond (.tmp 79) .skip (.exit 4)) F58.t14))))) F58.t20))))
theorem F58.t10_eq {θ : Tag (F58.t10, Q, e, w)} : cwE P F58.t10 Q e w θ = cwE P (.block 3 (.seq (.region 10 F58.r10.toArray false) (.seq (.region 11 F58.r11.toArray true) (.seq (.seq (.region 12 F58.r12.toArray false) (.block 4 (.loop (.seq (.region 13 F58.r13.toArray false) (.seq (.cond (.tmp 79) .skip (.exit 4)) F58.t14))))) F58.t20)))) Q e w := rfl
def F58.t21 : Cd := (.seq (.region 21 F58.r21.toArray false) .ret)
theorem F58.t21_eq {θ : Tag (F58.t21, Q, e, w)} : cwE P F58.t21 Q e w θ = cwE P (.seq (.region 21 F58.r21.toArray false) .ret) Q e w := rfl
def F58.t8 : Cd := (.seq (.seq (.region 8 F58.r8.toArray false) (.block 2 (.loop (.seq (.region 9 F58.r9.toArray false) (.seq (.cond (.tmp 58) .skip (.exit 2)) F58.t10))))) F58.t21)
theorem F58.t8_eq {θ : Tag (F58.t8, Q, e, w)} : cwE P F58.t8 Q e w θ = cwE P (.seq (.seq (.region 8 F58.r8.toArray false) (.block 2 (.loop (.seq (.region 9 F58.r9.toArray false) (.seq (.cond (.tmp 58) .skip (.exit 2)) F58.t10))))) F58.t21) Q e w := rfl
def F58.t4 : Cd := (.seq (.seq (.region 4 F58.r4.toArray false) (.block 0 (.loop (.seq (.region 5 F58.r5.toArray false) (.seq (.cond (.tmp 42) .skip (.exit 0)) F58.t6))))) F58.t8)
theorem F58.t4_eq {θ : Tag (F58.t4, Q, e, w)} : cwE P F58.t4 Q e w θ = cwE P (.seq (.seq (.region 4 F58.r4.toArray false) (.block 0 (.loop (.seq (.region 5 F58.r5.toArray false) (.seq (.cond (.tmp 42) .skip (.exit 0)) F58.t6))))) F58.t8) Q e w := rfl
def F58.code : Cd := (.seq (.region 0 F58.r0.toArray false) (.seq (.region 1 F58.r1.toArray false) (.seq (.region 2 F58.r2.toArray false) (.seq (.tree F58.r3) F58.t4))))
theorem F58.calls (hn : args.size ≤ 105) (h : cwE Tryz.prog F58.code (fnP Tryz.prog #[(.tmp 2)] R) (entry args) w) : Calls Tryz.prog 58 args w R :=
  calls_of_cwE (types := Tryz.prog.types) follows Tryz.func58 F58.code rfl (by kernel_rfl) hn h
end Go.Proofs.YtijnmokpihhhcaaGreatDoor

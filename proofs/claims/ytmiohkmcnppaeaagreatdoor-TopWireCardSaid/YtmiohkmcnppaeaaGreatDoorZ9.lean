/- The compiled code of the functions, by program (genir.py): each with the theorem that it is what the engine makes of the loaded program's. -/
import Derived.Test.YtmiohkmcnppaeaaGreatDoorZ1
import Derived.Test.YtmiohkmcnppaeaaGreatDoorZ2
import Derived.Test.YtmiohkmcnppaeaaGreatDoorZ3
import Derived.Test.YtmiohkmcnppaeaaGreatDoorZ4
import Derived.Test.YtmiohkmcnppaeaaGreatDoorZ5
import Derived.Test.YtmiohkmcnppaeaaGreatDoorZ6
import Derived.Test.YtmiohkmcnppaeaaGreatDoorZ7
import Derived.Test.YtmiohkmcnppaeaaGreatDoorZ8
import Derived.Test.YtmiohkmcnppaeaaGreatDoorProg
namespace Go.Proofs.YtmiohkmcnppaeaaGreatDoor
open Go
set_option maxRecDepth 100000
variable {P : Program} {Q : Post} {e : FA} {w : World} {args : Array Value} {R : Ending → World → Prop}

abbrev op (d : Nat) (o : Op) (T : TypeId) : Oper := ⟨some d, o, T, "", #[], none⟩
abbrev od (d : Nat) (o : Op) (T : TypeId) : Oper := ⟨some d, o, T, "", #[⟨0, .data⟩], none⟩
abbrev oc (d : Nat) (o : Op) (T : TypeId) : Oper := ⟨some d, o, T, "", #[⟨0, .chain⟩], none⟩
theorem follows : Tryz.prog.follows .mixedOrders = true := by kernel_rfl

theorem fact_aggSz_27 : aggSz Tryz.prog 27 = some none := by kernel_rfl
theorem fact_aggSz_28 : aggSz Tryz.prog 28 = some none := by kernel_rfl
theorem fact_aggSz_29 : aggSz Tryz.prog 29 = some none := by kernel_rfl
theorem fact_aggSz_3 : aggSz Tryz.prog 3 = some none := by kernel_rfl
theorem fact_aggSz_30 : aggSz Tryz.prog 30 = some none := by kernel_rfl
theorem fact_aggSz_31 : aggSz Tryz.prog 31 = some none := by kernel_rfl
theorem fact_aggSz_32 : aggSz Tryz.prog 32 = some none := by kernel_rfl
theorem fact_aggSz_33 : aggSz Tryz.prog 33 = some none := by kernel_rfl
theorem fact_aggSz_35 : aggSz Tryz.prog 35 = some (some 3) := by kernel_rfl
theorem fact_aggSz_37 : aggSz Tryz.prog 37 = some (some 13) := by kernel_rfl
theorem fact_aggSz_39 : aggSz Tryz.prog 39 = some (some 36) := by kernel_rfl
theorem fact_aggSz_4 : aggSz Tryz.prog 4 = some none := by kernel_rfl
theorem fact_aggSz_41 : aggSz Tryz.prog 41 = some none := by kernel_rfl
theorem fact_aggSz_5 : aggSz Tryz.prog 5 = some none := by kernel_rfl
theorem fact_aggSz_55 : aggSz Tryz.prog 55 = some (some 4) := by kernel_rfl
theorem fact_aggSz_58 : aggSz Tryz.prog 58 = some none := by kernel_rfl
theorem fact_aggSz_60 : aggSz Tryz.prog 60 = some (some 3) := by kernel_rfl
theorem fact_aggSz_63 : aggSz Tryz.prog 63 = some none := by kernel_rfl
theorem fact_aggSz_64 : aggSz Tryz.prog 64 = some none := by kernel_rfl
theorem fact_aggSz_65 : aggSz Tryz.prog 65 = some none := by kernel_rfl
theorem fact_aggSz_66 : aggSz Tryz.prog 66 = some none := by kernel_rfl
theorem fact_aggSz_67 : aggSz Tryz.prog 67 = some none := by kernel_rfl
theorem fact_aggSz_71 : aggSz Tryz.prog 71 = some (some 7) := by kernel_rfl
theorem fact_aggSz_74 : aggSz Tryz.prog 74 = some none := by kernel_rfl
theorem fact_aggSz_83 : aggSz Tryz.prog 83 = some none := by kernel_rfl
theorem fact_aggSz_9 : aggSz Tryz.prog 9 = some none := by kernel_rfl
theorem fact_aggSz_93 : aggSz Tryz.prog 93 = some none := by kernel_rfl
theorem fact_aggSz_96 : aggSz Tryz.prog 96 = some none := by kernel_rfl
theorem fact_aggSz_97 : aggSz Tryz.prog 97 = some none := by kernel_rfl
theorem fact_arrEx_55 : arrEx Tryz.prog 55 = (1, some none) := by kernel_rfl
theorem fact_bldP_104 : bldP Tryz.prog 104 = some ([.slice none 0 0, .int .i64 0, .int .i64 0, .int .i64 0, .int .i64 0], some [(0, 1), (1, 1), (2, 1), (3, 1), (4, 1)], 0) := by kernel_rfl
theorem fact_bldP_35 : bldP Tryz.prog 35 = some ([.int .u8 0, .int .u32 0, .int .u64 0], some [(0, 1), (1, 1), (2, 1)], 0) := by kernel_rfl
theorem fact_bldP_37 : bldP Tryz.prog 37 = some ([.int .u16 0, .int .u32 0, .int .u8 0, .int .u32 0, .int .u64 0, .int .u32 0, .int .u32 0, .int .u32 0, .int .u64 0, .string ⟨#[]⟩, .string ⟨#[]⟩, .string ⟨#[]⟩, .string ⟨#[]⟩], some [(0, 1), (1, 1), (2, 3), (5, 1), (6, 1), (7, 1), (8, 1), (9, 1), (10, 1), (11, 1), (12, 1)], 0) := by kernel_rfl
theorem fact_bldP_39 : bldP Tryz.prog 39 = some ([.int .u8 0, .int .u16 0, .int .u32 0, .string ⟨#[]⟩, .int .u32 0, .string ⟨#[]⟩, .string ⟨#[]⟩, .string ⟨#[]⟩, .int .u16 0, .int .u32 0, .int .u32 0, .slice none 0 0, .slice none 0 0, .int .u8 0, .int .u32 0, .int .u64 0, .int .u8 0, .int .u32 0, .string ⟨#[]⟩, .int .u32 0, .int .u64 0, .int .u32 0, .slice none 0 0, .int .u16 0, .int .u32 0, .int .u8 0, .int .u32 0, .int .u64 0, .int .u32 0, .int .u32 0, .int .u32 0, .int .u64 0, .string ⟨#[]⟩, .string ⟨#[]⟩, .string ⟨#[]⟩, .string ⟨#[]⟩], some [(0, 1), (1, 1), (2, 1), (3, 1), (4, 1), (5, 1), (6, 1), (7, 1), (8, 1), (9, 1), (10, 1), (11, 1), (12, 1), (13, 3), (16, 1), (17, 1), (18, 1), (19, 1), (20, 1), (21, 1), (22, 1), (23, 13)], 0) := by kernel_rfl
theorem fact_bldP_57 : bldP Tryz.prog 57 = some ([.int .u32 0, .int .u8 0, .int .u8 0, .int .u8 0, .int .u8 0, .int .i64 0, .slice none 0 0, .int .i64 0, .int .i64 0, .bool false, .int .i64 0], some [(0, 1), (1, 4), (5, 1), (6, 1), (7, 1), (8, 1), (9, 1), (10, 1)], 0) := by kernel_rfl
theorem fact_bldP_60 : bldP Tryz.prog 60 = some ([.int .u8 0, .string ⟨#[]⟩, .slice none 0 0], some [(0, 1), (1, 1), (2, 1)], 0) := by kernel_rfl
theorem fact_bldP_71 : bldP Tryz.prog 71 = some ([.string ⟨#[]⟩, .nilFunc, .nilFunc, .nilFunc, .nilFunc, .nilFunc, .nilFunc], some [(0, 1), (1, 1), (2, 1), (3, 1), (4, 1), (5, 1), (6, 1)], 0) := by kernel_rfl
theorem fact_bldP_99 : bldP Tryz.prog 99 = some ([.int .i64 0, .slice none 0 0, .slice none 0 0, .int .i64 0], some [(0, 1), (1, 1), (2, 1), (3, 1)], 0) := by kernel_rfl
theorem fact_elemOf_22 : elemOf? Tryz.prog 22 = some (none, 36) := by kernel_rfl
theorem fact_elemOf_23 : elemOf? Tryz.prog 23 = some (none, 1) := by kernel_rfl
theorem fact_elemOf_28 : elemOf? Tryz.prog 28 = some (none, 1) := by kernel_rfl
theorem fact_elemOf_31 : elemOf? Tryz.prog 31 = some (none, 1) := by kernel_rfl
theorem fact_elemOf_32 : elemOf? Tryz.prog 32 = some (none, 3) := by kernel_rfl
theorem fact_elemOf_55 : elemOf? Tryz.prog 55 = some (some 4, 1) := by kernel_rfl
theorem fact_elemOf_58 : elemOf? Tryz.prog 58 = some (none, 1) := by kernel_rfl
theorem fact_elemOf_89 : elemOf? Tryz.prog 89 = some (none, 3) := by kernel_rfl
theorem fact_elemOf_9 : elemOf? Tryz.prog 9 = none := by kernel_rfl
theorem fact_elemOf_97 : elemOf? Tryz.prog 97 = some (none, 1) := by kernel_rfl
theorem fact_fieldOff_104_0 : fieldOff Tryz.prog 104 0 = some 0 := by kernel_rfl
theorem fact_fieldOff_104_1 : fieldOff Tryz.prog 104 1 = some 1 := by kernel_rfl
theorem fact_fieldOff_104_2 : fieldOff Tryz.prog 104 2 = some 2 := by kernel_rfl
theorem fact_fieldOff_104_3 : fieldOff Tryz.prog 104 3 = some 3 := by kernel_rfl
theorem fact_fieldOff_104_4 : fieldOff Tryz.prog 104 4 = some 4 := by kernel_rfl
theorem fact_fieldOff_35_0 : fieldOff Tryz.prog 35 0 = some 0 := by kernel_rfl
theorem fact_fieldOff_35_1 : fieldOff Tryz.prog 35 1 = some 1 := by kernel_rfl
theorem fact_fieldOff_35_2 : fieldOff Tryz.prog 35 2 = some 2 := by kernel_rfl
theorem fact_fieldOff_37_0 : fieldOff Tryz.prog 37 0 = some 0 := by kernel_rfl
theorem fact_fieldOff_37_1 : fieldOff Tryz.prog 37 1 = some 1 := by kernel_rfl
theorem fact_fieldOff_37_10 : fieldOff Tryz.prog 37 10 = some 12 := by kernel_rfl
theorem fact_fieldOff_37_2 : fieldOff Tryz.prog 37 2 = some 2 := by kernel_rfl
theorem fact_fieldOff_37_3 : fieldOff Tryz.prog 37 3 = some 5 := by kernel_rfl
theorem fact_fieldOff_37_4 : fieldOff Tryz.prog 37 4 = some 6 := by kernel_rfl
theorem fact_fieldOff_37_5 : fieldOff Tryz.prog 37 5 = some 7 := by kernel_rfl
theorem fact_fieldOff_37_6 : fieldOff Tryz.prog 37 6 = some 8 := by kernel_rfl
theorem fact_fieldOff_37_7 : fieldOff Tryz.prog 37 7 = some 9 := by kernel_rfl
theorem fact_fieldOff_37_8 : fieldOff Tryz.prog 37 8 = some 10 := by kernel_rfl
theorem fact_fieldOff_37_9 : fieldOff Tryz.prog 37 9 = some 11 := by kernel_rfl
theorem fact_fieldOff_39_0 : fieldOff Tryz.prog 39 0 = some 0 := by kernel_rfl
theorem fact_fieldOff_39_1 : fieldOff Tryz.prog 39 1 = some 1 := by kernel_rfl
theorem fact_fieldOff_39_10 : fieldOff Tryz.prog 39 10 = some 10 := by kernel_rfl
theorem fact_fieldOff_39_11 : fieldOff Tryz.prog 39 11 = some 11 := by kernel_rfl
theorem fact_fieldOff_39_12 : fieldOff Tryz.prog 39 12 = some 12 := by kernel_rfl
theorem fact_fieldOff_39_13 : fieldOff Tryz.prog 39 13 = some 13 := by kernel_rfl
theorem fact_fieldOff_39_14 : fieldOff Tryz.prog 39 14 = some 16 := by kernel_rfl
theorem fact_fieldOff_39_15 : fieldOff Tryz.prog 39 15 = some 17 := by kernel_rfl
theorem fact_fieldOff_39_16 : fieldOff Tryz.prog 39 16 = some 18 := by kernel_rfl
theorem fact_fieldOff_39_17 : fieldOff Tryz.prog 39 17 = some 19 := by kernel_rfl
theorem fact_fieldOff_39_18 : fieldOff Tryz.prog 39 18 = some 20 := by kernel_rfl
theorem fact_fieldOff_39_19 : fieldOff Tryz.prog 39 19 = some 21 := by kernel_rfl
theorem fact_fieldOff_39_2 : fieldOff Tryz.prog 39 2 = some 2 := by kernel_rfl
theorem fact_fieldOff_39_20 : fieldOff Tryz.prog 39 20 = some 22 := by kernel_rfl
theorem fact_fieldOff_39_21 : fieldOff Tryz.prog 39 21 = some 23 := by kernel_rfl
theorem fact_fieldOff_39_3 : fieldOff Tryz.prog 39 3 = some 3 := by kernel_rfl
theorem fact_fieldOff_39_4 : fieldOff Tryz.prog 39 4 = some 4 := by kernel_rfl
theorem fact_fieldOff_39_5 : fieldOff Tryz.prog 39 5 = some 5 := by kernel_rfl
theorem fact_fieldOff_39_6 : fieldOff Tryz.prog 39 6 = some 6 := by kernel_rfl
theorem fact_fieldOff_39_7 : fieldOff Tryz.prog 39 7 = some 7 := by kernel_rfl
theorem fact_fieldOff_39_8 : fieldOff Tryz.prog 39 8 = some 8 := by kernel_rfl
theorem fact_fieldOff_39_9 : fieldOff Tryz.prog 39 9 = some 9 := by kernel_rfl
theorem fact_fieldOff_57_0 : fieldOff Tryz.prog 57 0 = some 0 := by kernel_rfl
theorem fact_fieldOff_57_1 : fieldOff Tryz.prog 57 1 = some 1 := by kernel_rfl
theorem fact_fieldOff_57_2 : fieldOff Tryz.prog 57 2 = some 5 := by kernel_rfl
theorem fact_fieldOff_57_3 : fieldOff Tryz.prog 57 3 = some 6 := by kernel_rfl
theorem fact_fieldOff_57_4 : fieldOff Tryz.prog 57 4 = some 7 := by kernel_rfl
theorem fact_fieldOff_57_5 : fieldOff Tryz.prog 57 5 = some 8 := by kernel_rfl
theorem fact_fieldOff_57_6 : fieldOff Tryz.prog 57 6 = some 9 := by kernel_rfl
theorem fact_fieldOff_57_7 : fieldOff Tryz.prog 57 7 = some 10 := by kernel_rfl
theorem fact_fieldOff_60_0 : fieldOff Tryz.prog 60 0 = some 0 := by kernel_rfl
theorem fact_fieldOff_60_2 : fieldOff Tryz.prog 60 2 = some 2 := by kernel_rfl
theorem fact_fieldOff_99_0 : fieldOff Tryz.prog 99 0 = some 0 := by kernel_rfl
theorem fact_fieldOff_99_1 : fieldOff Tryz.prog 99 1 = some 1 := by kernel_rfl
theorem fact_fieldOff_99_2 : fieldOff Tryz.prog 99 2 = some 2 := by kernel_rfl
theorem fact_fieldOff_99_3 : fieldOff Tryz.prog 99 3 = some 3 := by kernel_rfl
theorem fact_fieldTy_71_1 : fieldTy Tryz.prog 71 1 = some (64, 1) := by kernel_rfl
theorem fact_fieldTy_71_2 : fieldTy Tryz.prog 71 2 = some (65, 2) := by kernel_rfl
theorem fact_fieldTy_71_3 : fieldTy Tryz.prog 71 3 = some (66, 3) := by kernel_rfl
theorem fact_fieldTy_71_4 : fieldTy Tryz.prog 71 4 = some (67, 4) := by kernel_rfl
theorem fact_flatE_35 : flatE Tryz.prog 35 = some [.int, .int, .int] := by kernel_rfl
theorem fact_flatE_37 : flatE Tryz.prog 37 = some [.int, .int, .int, .int, .int, .int, .int, .int, .int, .str, .str, .str, .str] := by kernel_rfl
theorem fact_fnOk_10 : fnOk Tryz.prog 10 = true := by kernel_rfl
theorem fact_fnOk_102 : fnOk Tryz.prog 102 = true := by kernel_rfl
theorem fact_fnOk_104 : fnOk Tryz.prog 104 = true := by kernel_rfl
theorem fact_fnOk_11 : fnOk Tryz.prog 11 = true := by kernel_rfl
theorem fact_fnOk_110 : fnOk Tryz.prog 110 = true := by kernel_rfl
theorem fact_fnOk_111 : fnOk Tryz.prog 111 = true := by kernel_rfl
theorem fact_fnOk_112 : fnOk Tryz.prog 112 = true := by kernel_rfl
theorem fact_fnOk_117 : fnOk Tryz.prog 117 = true := by kernel_rfl
theorem fact_fnOk_118 : fnOk Tryz.prog 118 = true := by kernel_rfl
theorem fact_fnOk_12 : fnOk Tryz.prog 12 = true := by kernel_rfl
theorem fact_fnOk_125 : fnOk Tryz.prog 125 = true := by kernel_rfl
theorem fact_fnOk_126 : fnOk Tryz.prog 126 = true := by kernel_rfl
theorem fact_fnOk_13 : fnOk Tryz.prog 13 = true := by kernel_rfl
theorem fact_fnOk_131 : fnOk Tryz.prog 131 = true := by kernel_rfl
theorem fact_fnOk_134 : fnOk Tryz.prog 134 = true := by kernel_rfl
theorem fact_fnOk_136 : fnOk Tryz.prog 136 = true := by kernel_rfl
theorem fact_fnOk_138 : fnOk Tryz.prog 138 = true := by kernel_rfl
theorem fact_fnOk_14 : fnOk Tryz.prog 14 = true := by kernel_rfl
theorem fact_fnOk_145 : fnOk Tryz.prog 145 = true := by kernel_rfl
theorem fact_fnOk_146 : fnOk Tryz.prog 146 = true := by kernel_rfl
theorem fact_fnOk_148 : fnOk Tryz.prog 148 = true := by kernel_rfl
theorem fact_fnOk_149 : fnOk Tryz.prog 149 = true := by kernel_rfl
theorem fact_fnOk_15 : fnOk Tryz.prog 15 = true := by kernel_rfl
theorem fact_fnOk_151 : fnOk Tryz.prog 151 = true := by kernel_rfl
theorem fact_fnOk_158 : fnOk Tryz.prog 158 = true := by kernel_rfl
theorem fact_fnOk_16 : fnOk Tryz.prog 16 = true := by kernel_rfl
theorem fact_fnOk_160 : fnOk Tryz.prog 160 = true := by kernel_rfl
theorem fact_fnOk_169 : fnOk Tryz.prog 169 = true := by kernel_rfl
theorem fact_fnOk_17 : fnOk Tryz.prog 17 = true := by kernel_rfl
theorem fact_fnOk_174 : fnOk Tryz.prog 174 = true := by kernel_rfl
theorem fact_fnOk_175 : fnOk Tryz.prog 175 = true := by kernel_rfl
theorem fact_fnOk_177 : fnOk Tryz.prog 177 = true := by kernel_rfl
theorem fact_fnOk_178 : fnOk Tryz.prog 178 = true := by kernel_rfl
theorem fact_fnOk_179 : fnOk Tryz.prog 179 = true := by kernel_rfl
theorem fact_fnOk_18 : fnOk Tryz.prog 18 = true := by kernel_rfl
theorem fact_fnOk_180 : fnOk Tryz.prog 180 = true := by kernel_rfl
theorem fact_fnOk_181 : fnOk Tryz.prog 181 = true := by kernel_rfl
theorem fact_fnOk_19 : fnOk Tryz.prog 19 = true := by kernel_rfl
theorem fact_fnOk_198 : fnOk Tryz.prog 198 = true := by kernel_rfl
theorem fact_fnOk_20 : fnOk Tryz.prog 20 = true := by kernel_rfl
theorem fact_fnOk_21 : fnOk Tryz.prog 21 = true := by kernel_rfl
theorem fact_fnOk_22 : fnOk Tryz.prog 22 = true := by kernel_rfl
theorem fact_fnOk_23 : fnOk Tryz.prog 23 = true := by kernel_rfl
theorem fact_fnOk_24 : fnOk Tryz.prog 24 = true := by kernel_rfl
theorem fact_fnOk_25 : fnOk Tryz.prog 25 = true := by kernel_rfl
theorem fact_fnOk_26 : fnOk Tryz.prog 26 = true := by kernel_rfl
theorem fact_fnOk_27 : fnOk Tryz.prog 27 = true := by kernel_rfl
theorem fact_fnOk_28 : fnOk Tryz.prog 28 = true := by kernel_rfl
theorem fact_fnOk_29 : fnOk Tryz.prog 29 = true := by kernel_rfl
theorem fact_fnOk_30 : fnOk Tryz.prog 30 = true := by kernel_rfl
theorem fact_fnOk_31 : fnOk Tryz.prog 31 = true := by kernel_rfl
theorem fact_fnOk_32 : fnOk Tryz.prog 32 = true := by kernel_rfl
theorem fact_fnOk_33 : fnOk Tryz.prog 33 = true := by kernel_rfl
theorem fact_fnOk_4 : fnOk Tryz.prog 4 = true := by kernel_rfl
theorem fact_fnOk_41 : fnOk Tryz.prog 41 = true := by kernel_rfl
theorem fact_fnOk_47 : fnOk Tryz.prog 47 = true := by kernel_rfl
theorem fact_fnOk_48 : fnOk Tryz.prog 48 = true := by kernel_rfl
theorem fact_fnOk_49 : fnOk Tryz.prog 49 = true := by kernel_rfl
theorem fact_fnOk_5 : fnOk Tryz.prog 5 = true := by kernel_rfl
theorem fact_fnOk_50 : fnOk Tryz.prog 50 = true := by kernel_rfl
theorem fact_fnOk_51 : fnOk Tryz.prog 51 = true := by kernel_rfl
theorem fact_fnOk_52 : fnOk Tryz.prog 52 = true := by kernel_rfl
theorem fact_fnOk_53 : fnOk Tryz.prog 53 = true := by kernel_rfl
theorem fact_fnOk_54 : fnOk Tryz.prog 54 = true := by kernel_rfl
theorem fact_fnOk_56 : fnOk Tryz.prog 56 = true := by kernel_rfl
theorem fact_fnOk_57 : fnOk Tryz.prog 57 = true := by kernel_rfl
theorem fact_fnOk_58 : fnOk Tryz.prog 58 = true := by kernel_rfl
theorem fact_fnOk_59 : fnOk Tryz.prog 59 = true := by kernel_rfl
theorem fact_fnOk_6 : fnOk Tryz.prog 6 = true := by kernel_rfl
theorem fact_fnOk_61 : fnOk Tryz.prog 61 = true := by kernel_rfl
theorem fact_fnOk_63 : fnOk Tryz.prog 63 = true := by kernel_rfl
theorem fact_fnOk_64 : fnOk Tryz.prog 64 = true := by kernel_rfl
theorem fact_fnOk_65 : fnOk Tryz.prog 65 = true := by kernel_rfl
theorem fact_fnOk_66 : fnOk Tryz.prog 66 = true := by kernel_rfl
theorem fact_fnOk_67 : fnOk Tryz.prog 67 = true := by kernel_rfl
theorem fact_fnOk_68 : fnOk Tryz.prog 68 = true := by kernel_rfl
theorem fact_fnOk_69 : fnOk Tryz.prog 69 = true := by kernel_rfl
theorem fact_fnOk_7 : fnOk Tryz.prog 7 = true := by kernel_rfl
theorem fact_fnOk_70 : fnOk Tryz.prog 70 = true := by kernel_rfl
theorem fact_fnOk_72 : fnOk Tryz.prog 72 = true := by kernel_rfl
theorem fact_fnOk_8 : fnOk Tryz.prog 8 = true := by kernel_rfl
theorem fact_fnOk_85 : fnOk Tryz.prog 85 = true := by kernel_rfl
theorem fact_fnOk_87 : fnOk Tryz.prog 87 = true := by kernel_rfl
theorem fact_fnOk_9 : fnOk Tryz.prog 9 = true := by kernel_rfl
theorem fact_fnOk_92 : fnOk Tryz.prog 92 = true := by kernel_rfl
theorem fact_fnOk_94 : fnOk Tryz.prog 94 = true := by kernel_rfl
theorem fact_fnOk_96 : fnOk Tryz.prog 96 = true := by kernel_rfl
theorem fact_rowTy_22 : rowTy Tryz.prog 22 = some (39, 36, 344, [.int .u8 0, .int .u16 0, .int .u32 0, .string ⟨#[]⟩, .int .u32 0, .string ⟨#[]⟩, .string ⟨#[]⟩, .string ⟨#[]⟩, .int .u16 0, .int .u32 0, .int .u32 0, .slice none 0 0, .slice none 0 0, .int .u8 0, .int .u32 0, .int .u64 0, .int .u8 0, .int .u32 0, .string ⟨#[]⟩, .int .u32 0, .int .u64 0, .int .u32 0, .slice none 0 0, .int .u16 0, .int .u32 0, .int .u8 0, .int .u32 0, .int .u64 0, .int .u32 0, .int .u32 0, .int .u32 0, .int .u64 0, .string ⟨#[]⟩, .string ⟨#[]⟩, .string ⟨#[]⟩, .string ⟨#[]⟩]) := by kernel_rfl
theorem fact_rowTy_28 : rowTy Tryz.prog 28 = some (5, 1, 1, [.int .u8 0]) := by kernel_rfl
theorem fact_rowTy_31 : rowTy Tryz.prog 31 = some (9, 1, 16, [.string ⟨#[]⟩]) := by kernel_rfl
theorem fact_rowTy_32 : rowTy Tryz.prog 32 = some (35, 3, 16, [.int .u8 0, .int .u32 0, .int .u64 0]) := by kernel_rfl
theorem fact_rowTy_58 : rowTy Tryz.prog 58 = some (63, 1, 1, [.int .u8 0]) := by kernel_rfl
theorem fact_rowTy_89 : rowTy Tryz.prog 89 = some (60, 3, 48, [.int .u8 0, .string ⟨#[]⟩, .slice none 0 0]) := by kernel_rfl
theorem fact_rowTy_97 : rowTy Tryz.prog 97 = some (3, 1, 8, [.int .i64 0]) := by kernel_rfl
theorem fact_szO_27 : szO Tryz.prog 27 = some 1 := by kernel_rfl
theorem fact_szO_28 : szO Tryz.prog 28 = some 1 := by kernel_rfl
theorem fact_szO_3 : szO Tryz.prog 3 = some 1 := by kernel_rfl
theorem fact_szO_30 : szO Tryz.prog 30 = some 1 := by kernel_rfl
theorem fact_szO_31 : szO Tryz.prog 31 = some 1 := by kernel_rfl
theorem fact_szO_32 : szO Tryz.prog 32 = some 1 := by kernel_rfl
theorem fact_szO_33 : szO Tryz.prog 33 = some 1 := by kernel_rfl
theorem fact_szO_35 : szO Tryz.prog 35 = some 3 := by kernel_rfl
theorem fact_szO_37 : szO Tryz.prog 37 = some 13 := by kernel_rfl
theorem fact_szO_39 : szO Tryz.prog 39 = some 36 := by kernel_rfl
theorem fact_szO_4 : szO Tryz.prog 4 = some 1 := by kernel_rfl
theorem fact_szO_41 : szO Tryz.prog 41 = some 1 := by kernel_rfl
theorem fact_szO_5 : szO Tryz.prog 5 = some 1 := by kernel_rfl
theorem fact_szO_60 : szO Tryz.prog 60 = some 3 := by kernel_rfl
theorem fact_szO_71 : szO Tryz.prog 71 = some 7 := by kernel_rfl
theorem fact_szO_9 : szO Tryz.prog 9 = some 1 := by kernel_rfl
theorem fact_szO_97 : szO Tryz.prog 97 = some 1 := by kernel_rfl
theorem fact_zeroV_35 : zeroV Tryz.prog 35 = some (.agg #[.int .u8 0, .int .u32 0, .int .u64 0]) := by kernel_rfl
theorem fact_zeroV_37 : zeroV Tryz.prog 37 = some (.agg #[.int .u16 0, .int .u32 0, .int .u8 0, .int .u32 0, .int .u64 0, .int .u32 0, .int .u32 0, .int .u32 0, .int .u64 0, .string ⟨#[]⟩, .string ⟨#[]⟩, .string ⟨#[]⟩, .string ⟨#[]⟩]) := by kernel_rfl
theorem fact_zeroV_39 : zeroV Tryz.prog 39 = some (.agg #[.int .u8 0, .int .u16 0, .int .u32 0, .string ⟨#[]⟩, .int .u32 0, .string ⟨#[]⟩, .string ⟨#[]⟩, .string ⟨#[]⟩, .int .u16 0, .int .u32 0, .int .u32 0, .slice none 0 0, .slice none 0 0, .int .u8 0, .int .u32 0, .int .u64 0, .int .u8 0, .int .u32 0, .string ⟨#[]⟩, .int .u32 0, .int .u64 0, .int .u32 0, .slice none 0 0, .int .u16 0, .int .u32 0, .int .u8 0, .int .u32 0, .int .u64 0, .int .u32 0, .int .u32 0, .int .u32 0, .int .u64 0, .string ⟨#[]⟩, .string ⟨#[]⟩, .string ⟨#[]⟩, .string ⟨#[]⟩]) := by kernel_rfl
theorem fact_zeroV_60 : zeroV Tryz.prog 60 = some (.agg #[.int .u8 0, .string ⟨#[]⟩, .slice none 0 0]) := by kernel_rfl
theorem fact_zeroV_71 : zeroV Tryz.prog 71 = some (.agg #[.string ⟨#[]⟩, .nilFunc, .nilFunc, .nilFunc, .nilFunc, .nilFunc, .nilFunc]) := by kernel_rfl

def F3.r0 : List Oper := [
  op 4 (.assign (.const (.bool false))) 4]
def F3.r1 : List Oper := [
  op 20 (.move (.tmp 0)) 22,
  op 21 (.move (.tmp 1)) 23,
  op 22 (.call ⟨(.builtin .len), #[(.tmp 21)], #[23]⟩) 3,
  oc 23 (.call ⟨(.value (.func 4)), #[(.tmp 20), (.tmp 22)], #[22, 3]⟩) 4]
def F3.r2 : List Oper := [
  op 4 (.assign (.const (.bool true))) 4]
def F3.r3 : List Oper := [
  oc 24 (.call ⟨(.value (.func 5)), #[(.const (.int .u32 65536))], #[27]⟩) 25,
  op 5 (.assign (.tmp 24)) 25]
def F3.r4 : List Oper := [
  op 25 (.move (.tmp 5)) 25,
  op 26 (.binOp .eql 25 (.tmp 25) (.const (.pointer none)) 25) 4]
def F3.r5 : List Oper := [
  op 4 (.assign (.const (.bool false))) 4]
def F3.r6 : List Oper := [
  op 6 (.assign (.const (.slice none 0 0))) 28]
def F3.r7 : List Oper := [
  op 7 (.assign (.const (.slice none 0 0))) 22]
def F3.r8 : List Oper := [
  oc 27 (.call ⟨(.value (.func 6)), #[], #[]⟩) 39,
  oc 28 (.buildSlice 22 1 #[(0, (.tmp 27))]) 22,
  op 8 (.assign (.tmp 28)) 22]
def F3.r9 : List Oper := [
  op 29 (.move (.tmp 8)) 22,
  op 30 (.move (.tmp 0)) 22,
  oc 31 (.call ⟨(.builtin .append), #[(.tmp 29), (.tmp 30)], #[22, 22]⟩) 22,
  op 8 (.assign (.tmp 31)) 22]
def F3.r10 : List Oper := [
  op 9 (.assign (.const (.int .i64 0))) 3]
def F3.r11 : List Oper := [
  op 32 (.move (.tmp 9)) 3,
  op 33 (.move (.tmp 8)) 22,
  op 34 (.call ⟨(.builtin .len), #[(.tmp 33)], #[22]⟩) 3,
  op 35 (.binOp .lss 3 (.tmp 32) (.tmp 34) 3) 4]
def F3.r13 : List Oper := [
  op 39 (.move (.tmp 8)) 22,
  op 40 (.move (.tmp 9)) 3,
  op 41 (.indexAddr 22 (.tmp 39) (.tmp 40)) 0,
  od 42 (.load 39 (.tmp 41)) 39,
  oc 43 (.call ⟨(.value (.func 7)), #[(.tmp 42)], #[39]⟩) 42,
  op 38 (.move (.tmp 43)) 42,
  op 44 (.extract (.tmp 38) 0) 28,
  op 45 (.extract (.tmp 38) 1) 41,
  op 10 (.assign (.tmp 44)) 28,
  op 11 (.assign (.tmp 45)) 41]
def F3.r14 : List Oper := [
  op 46 (.move (.tmp 11)) 41,
  op 47 (.binOp .eql 41 (.tmp 46) (.const (.int .i64 0)) 41) 4]
def F3.r15 : List Oper := [
  op 48 (.move (.tmp 10)) 28,
  op 49 (.call ⟨(.builtin .len), #[(.tmp 48)], #[28]⟩) 3,
  op 50 (.binOp .lss 3 (.tmp 49) (.const (.int .i64 7)) 3) 4,
  op 51 (.move (.tmp 50)) 4,
  ⟨(some 52), (.move (.tmp 10)), 28, "", #[], (some (51, false))⟩,
  ⟨(some 53), (.call ⟨(.builtin .len), #[(.tmp 52)], #[28]⟩), 3, "", #[], (some (51, false))⟩,
  ⟨(some 54), (.move (.tmp 8)), 22, "", #[], (some (51, false))⟩,
  ⟨(some 55), (.move (.tmp 9)), 3, "", #[], (some (51, false))⟩,
  ⟨(some 56), (.indexAddr 22 (.tmp 54) (.tmp 55)), 0, "", #[], (some (51, false))⟩,
  ⟨(some 57), (.load 39 (.tmp 56)), 39, "", #[⟨0, .data⟩], (some (51, false))⟩,
  ⟨(some 58), (.call ⟨(.value (.func 8)), #[(.tmp 57)], #[39]⟩), 3, "", #[⟨0, .chain⟩], (some (51, false))⟩,
  ⟨(some 59), (.binOp .neq 3 (.tmp 53) (.tmp 58) 3), 4, "", #[], (some (51, false))⟩,
  op 60 (.pick (.tmp 51) (.const (.bool true)) (.tmp 59)) 4]
def F3.r16 : List Oper := [
  op 4 (.assign (.const (.bool false))) 4]
def F3.r17 : List Oper := [
  op 61 (.move (.tmp 6)) 28,
  op 62 (.move (.tmp 10)) 28,
  oc 63 (.call ⟨(.builtin .append), #[(.tmp 61), (.tmp 62)], #[28, 28]⟩) 28,
  op 6 (.assign (.tmp 63)) 28]
def F3.r18 : List Oper := [
  op 64 (.move (.tmp 7)) 22,
  op 65 (.move (.tmp 8)) 22,
  op 66 (.move (.tmp 9)) 3,
  op 67 (.indexAddr 22 (.tmp 65) (.tmp 66)) 0,
  od 68 (.load 39 (.tmp 67)) 39,
  oc 69 (.call ⟨(.value (.func 9)), #[(.tmp 68)], #[39]⟩) 39,
  oc 70 (.buildSlice 22 1 #[(0, (.tmp 69))]) 22,
  oc 71 (.call ⟨(.builtin .append), #[(.tmp 64), (.tmp 70)], #[22, 22]⟩) 22,
  op 7 (.assign (.tmp 71)) 22]
def F3.r12 : List Oper := [
  op 36 (.move (.tmp 9)) 3,
  op 37 (.binOp .add 3 (.tmp 36) (.const (.int .i64 1)) 3) 3,
  op 9 (.assign (.tmp 37)) 3]
def F3.r19 : List Oper := [
  ⟨(some 72), (.move (.tmp 7)), 22, "", #[], none⟩,
  ⟨(some 73), (.call ⟨(.builtin .len), #[(.tmp 72)], #[22]⟩), 3, "", #[], none⟩,
  ⟨(some 74), (.binOp .eql 3 (.tmp 73) (.const (.int .i64 0)) 3), 4, "", #[], none⟩,
  ⟨(some 75), (.move (.tmp 74)), 4, "", #[], none⟩,
  ⟨(some 76), (.move (.tmp 7)), 22, "", #[], (some (75, false))⟩,
  ⟨(some 77), (.indexAddr 22 (.tmp 76) (.const (.int .i64 0))), 0, "", #[], (some (75, false))⟩,
  ⟨(some 78), (.load 39 (.tmp 77)), 39, "", #[⟨256, .data⟩], (some (75, false))⟩,
  ⟨(some 79), (.call ⟨(.value (.func 6)), #[], #[]⟩), 39, "", #[⟨7, .chain⟩], (some (75, false))⟩,
  ⟨(some 80), (.call ⟨(.value (.func 10)), #[(.tmp 78), (.tmp 79)], #[39, 39]⟩), 4, "", #[⟨8, .chain⟩], (some (75, false))⟩,
  ⟨(some 81), (.unOp .not 4 (.tmp 80)), 4, "", #[], (some (75, false))⟩,
  ⟨(some 82), (.pick (.tmp 75) (.const (.bool true)) (.tmp 81)), 4, "", #[], none⟩]
def F3.r20 : List Oper := [
  op 4 (.assign (.const (.bool false))) 4]
def F3.r21 : List Oper := [
  op 12 (.assign (.const (.int .i64 0))) 3]
def F3.r22 : List Oper := [
  op 13 (.assign (.const (.int .i64 0))) 3]
def F3.r23 : List Oper := [
  op 83 (.move (.tmp 6)) 28,
  op 84 (.call ⟨(.builtin .len), #[(.tmp 83)], #[28]⟩) 3,
  op 85 (.binOp .gtr 3 (.tmp 84) (.const (.int .i64 0)) 3) 4,
  op 86 (.move (.tmp 85)) 4,
  ⟨(some 87), (.move (.tmp 5)), 25, "", #[], (some (86, false))⟩,
  ⟨(some 88), (.call ⟨(.value (.func 11)), #[(.tmp 87)], #[25]⟩), 4, "", #[⟨0, .chain⟩], (some (86, false))⟩,
  op 89 (.pick (.tmp 86) (.const (.bool true)) (.tmp 88)) 4]
def F3.r25 : List Oper := [
  op 92 (.move (.tmp 6)) 28,
  op 93 (.call ⟨(.builtin .len), #[(.tmp 92)], #[28]⟩) 3,
  op 14 (.assign (.tmp 93)) 3]
def F3.r26 : List Oper := [
  op 94 (.move (.tmp 13)) 3,
  op 95 (.move (.tmp 1)) 23,
  op 96 (.call ⟨(.builtin .len), #[(.tmp 95)], #[23]⟩) 3,
  op 97 (.binOp .lss 3 (.tmp 94) (.tmp 96) 3) 4,
  op 98 (.move (.tmp 97)) 4,
  ⟨(some 99), (.move (.tmp 1)), 23, "", #[], (some (98, true))⟩,
  ⟨(some 100), (.move (.tmp 13)), 3, "", #[], (some (98, true))⟩,
  ⟨(some 101), (.indexAddr 23 (.tmp 99) (.tmp 100)), 0, "", #[], (some (98, true))⟩,
  ⟨(some 102), (.load 30 (.tmp 101)), 30, "", #[⟨0, .data⟩], (some (98, true))⟩,
  ⟨(some 103), (.convert 30 3 (.tmp 102)), 3, "", #[], (some (98, true))⟩,
  ⟨(some 104), (.move (.tmp 14)), 3, "", #[], (some (98, true))⟩,
  ⟨(some 105), (.binOp .lss 3 (.tmp 103) (.tmp 104) 3), 4, "", #[], (some (98, true))⟩,
  op 106 (.pick (.tmp 98) (.tmp 105) (.const (.bool false))) 4]
def F3.r27 : List Oper := [
  op 107 (.move (.tmp 1)) 23,
  op 108 (.move (.tmp 13)) 3,
  op 109 (.indexAddr 23 (.tmp 107) (.tmp 108)) 0,
  od 110 (.load 30 (.tmp 109)) 30,
  op 111 (.convert 30 3 (.tmp 110)) 3,
  op 14 (.assign (.tmp 111)) 3]
def F3.r28 : List Oper := [
  op 112 (.move (.tmp 5)) 25,
  op 113 (.move (.tmp 6)) 28,
  op 114 (.move (.tmp 14)) 3,
  op 115 (.slice 28 (.tmp 113) none (some (.tmp 114)) none) 28,
  oc 116 (.call ⟨(.value (.func 12)), #[(.tmp 112), (.tmp 115)], #[25, 28]⟩) 3,
  op 15 (.assign (.tmp 116)) 3]
def F3.r29 : List Oper := [
  op 117 (.move (.tmp 15)) 3,
  op 118 (.binOp .lss 3 (.tmp 117) (.const (.int .i64 0)) 3) 4,
  op 119 (.move (.tmp 118)) 4,
  ⟨(some 120), (.move (.tmp 15)), 3, "", #[], (some (119, false))⟩,
  ⟨(some 121), (.move (.tmp 14)), 3, "", #[], (some (119, false))⟩,
  ⟨(some 122), (.binOp .gtr 3 (.tmp 120) (.tmp 121) 3), 4, "", #[], (some (119, false))⟩,
  op 123 (.pick (.tmp 119) (.const (.bool true)) (.tmp 122)) 4]
def F3.r30 : List Oper := [
  op 4 (.assign (.const (.bool false))) 4]
def F3.r31 : List Oper := [
  op 124 (.move (.tmp 6)) 28,
  op 125 (.move (.tmp 15)) 3,
  op 126 (.slice 28 (.tmp 124) (some (.tmp 125)) none none) 28,
  op 6 (.assign (.tmp 126)) 28]
def F3.r32 : List Oper := [
  op 128 (.move (.tmp 5)) 25,
  oc 129 (.call ⟨(.value (.func 13)), #[(.tmp 128)], #[25]⟩) 49,
  op 127 (.move (.tmp 129)) 49,
  op 130 (.extract (.tmp 127) 0) 28,
  op 131 (.extract (.tmp 127) 1) 4,
  op 16 (.assign (.tmp 130)) 28,
  op 17 (.assign (.tmp 131)) 4]
def F3.r33 : List Oper := [
  op 132 (.move (.tmp 17)) 4]
def F3.r34 : List Oper := [
  op 134 (.move (.tmp 16)) 28,
  oc 135 (.call ⟨(.value (.func 14)), #[(.tmp 134)], #[28]⟩) 51,
  op 133 (.move (.tmp 135)) 51,
  op 136 (.extract (.tmp 133) 0) 39,
  op 137 (.extract (.tmp 133) 1) 41,
  oc 18 (.alloc 39) 0,
  ⟨none, (.store 39 (.tmp 18) (.tmp 136)), 0, "", #[⟨0, .chain⟩], none⟩,
  op 19 (.assign (.tmp 137)) 41]
def F3.r35 : List Oper := [
  ⟨(some 138), (.move (.tmp 19)), 41, "", #[], none⟩,
  ⟨(some 139), (.binOp .neq 41 (.tmp 138) (.const (.int .i64 0)) 41), 4, "", #[], none⟩,
  ⟨(some 140), (.move (.tmp 139)), 4, "", #[], none⟩,
  ⟨(some 141), (.move (.tmp 12)), 3, "", #[], (some (140, false))⟩,
  ⟨(some 142), (.move (.tmp 7)), 22, "", #[], (some (140, false))⟩,
  ⟨(some 143), (.call ⟨(.builtin .len), #[(.tmp 142)], #[22]⟩), 3, "", #[], (some (140, false))⟩,
  ⟨(some 144), (.binOp .geq 3 (.tmp 141) (.tmp 143) 3), 4, "", #[], (some (140, false))⟩,
  ⟨(some 145), (.pick (.tmp 140) (.const (.bool true)) (.tmp 144)), 4, "", #[], none⟩,
  ⟨(some 146), (.move (.tmp 145)), 4, "", #[], none⟩,
  ⟨(some 148), (.move (.tmp 7)), 22, "", #[], (some (146, false))⟩,
  ⟨(some 149), (.move (.tmp 12)), 3, "", #[], (some (146, false))⟩,
  ⟨(some 150), (.indexAddr 22 (.tmp 148) (.tmp 149)), 0, "", #[], (some (146, false))⟩,
  ⟨(some 147), (.load 39 (.tmp 18)), 39, "", #[⟨16384, .data⟩], (some (146, false))⟩,
  ⟨(some 151), (.load 39 (.tmp 150)), 39, "", #[⟨16384, .data⟩], (some (146, false))⟩,
  ⟨(some 152), (.call ⟨(.value (.func 10)), #[(.tmp 147), (.tmp 151)], #[39, 39]⟩), 4, "", #[⟨14, .chain⟩], (some (146, false))⟩,
  ⟨(some 153), (.unOp .not 4 (.tmp 152)), 4, "", #[], (some (146, false))⟩,
  ⟨(some 154), (.pick (.tmp 146) (.const (.bool true)) (.tmp 153)), 4, "", #[], none⟩]
def F3.r36 : List Oper := [
  op 4 (.assign (.const (.bool false))) 4]
def F3.r37 : List Oper := [
  op 155 (.move (.tmp 12)) 3,
  op 156 (.binOp .add 3 (.tmp 155) (.const (.int .i64 1)) 3) 3,
  op 12 (.assign (.tmp 156)) 3]
def F3.r38 : List Oper := [
  op 157 (.move (.tmp 13)) 3,
  op 158 (.move (.tmp 1)) 23,
  op 159 (.call ⟨(.builtin .len), #[(.tmp 158)], #[23]⟩) 3,
  op 160 (.binOp .geq 3 (.tmp 157) (.tmp 159) 3) 4,
  op 161 (.move (.tmp 160)) 4,
  ⟨(some 162), (.move (.tmp 15)), 3, "", #[], (some (161, true))⟩,
  ⟨(some 163), (.binOp .eql 3 (.tmp 162) (.const (.int .i64 0)) 3), 4, "", #[], (some (161, true))⟩,
  op 164 (.pick (.tmp 161) (.tmp 163) (.const (.bool false))) 4]
def F3.r39 : List Oper := [
  op 4 (.assign (.const (.bool false))) 4]
def F3.r24 : List Oper := [
  op 90 (.move (.tmp 13)) 3,
  op 91 (.binOp .add 3 (.tmp 90) (.const (.int .i64 1)) 3) 3,
  op 13 (.assign (.tmp 91)) 3]
def F3.r40 : List Oper := [
  op 165 (.move (.tmp 12)) 3,
  op 166 (.move (.tmp 7)) 22,
  op 167 (.call ⟨(.builtin .len), #[(.tmp 166)], #[22]⟩) 3,
  op 168 (.binOp .eql 3 (.tmp 165) (.tmp 167) 3) 4,
  op 4 (.assign (.tmp 168)) 4]
def F3.t17 : Cd := (.seq (.region 17 F3.r17.toArray false) (.region 18 F3.r18.toArray false))
theorem F3.t17_eq {θ : Tag (F3.t17, Q, e, w)} : cwE P F3.t17 Q e w θ = cwE P (.seq (.region 17 F3.r17.toArray false) (.region 18 F3.r18.toArray false)) Q e w := rfl
def F3.t12 : Cd := (.region 12 F3.r12.toArray false)
theorem F3.t12_eq {θ : Tag (F3.t12, Q, e, w)} : cwE P F3.t12 Q e w θ = cwE P (.region 12 F3.r12.toArray false) Q e w := rfl
def F3.t13 : Cd := (.seq (.block 1 (.seq (.region 13 F3.r13.toArray false) (.seq (.region 14 F3.r14.toArray false) (.cond (.tmp 47) (.seq (.seq (.region 15 F3.r15.toArray false) (.cond (.tmp 60) (.seq (.region 16 F3.r16.toArray false) .ret) .skip)) F3.t17) .skip)))) F3.t12)
theorem F3.t13_eq {θ : Tag (F3.t13, Q, e, w)} : cwE P F3.t13 Q e w θ = cwE P (.seq (.block 1 (.seq (.region 13 F3.r13.toArray false) (.seq (.region 14 F3.r14.toArray false) (.cond (.tmp 47) (.seq (.seq (.region 15 F3.r15.toArray false) (.cond (.tmp 60) (.seq (.region 16 F3.r16.toArray false) .ret) .skip)) F3.t17) .skip)))) F3.t12) Q e w := rfl
def F3.t37 : Cd := (.region 37 F3.r37.toArray false)
theorem F3.t37_eq {θ : Tag (F3.t37, Q, e, w)} : cwE P F3.t37 Q e w θ = cwE P (.region 37 F3.r37.toArray false) Q e w := rfl
def F3.t31 : Cd := (.seq (.region 31 F3.r31.toArray false) (.seq (.region 32 F3.r32.toArray false) (.seq (.region 33 F3.r33.toArray false) (.cond (.tmp 132) (.seq (.region 34 F3.r34.toArray false) (.seq (.seq (.region 35 F3.r35.toArray true) (.cond (.tmp 154) (.seq (.region 36 F3.r36.toArray false) .ret) .skip)) F3.t37)) (.seq (.region 38 F3.r38.toArray false) (.cond (.tmp 164) (.seq (.region 39 F3.r39.toArray false) .ret) .skip))))))
theorem F3.t31_eq {θ : Tag (F3.t31, Q, e, w)} : cwE P F3.t31 Q e w θ = cwE P (.seq (.region 31 F3.r31.toArray false) (.seq (.region 32 F3.r32.toArray false) (.seq (.region 33 F3.r33.toArray false) (.cond (.tmp 132) (.seq (.region 34 F3.r34.toArray false) (.seq (.seq (.region 35 F3.r35.toArray true) (.cond (.tmp 154) (.seq (.region 36 F3.r36.toArray false) .ret) .skip)) F3.t37)) (.seq (.region 38 F3.r38.toArray false) (.cond (.tmp 164) (.seq (.region 39 F3.r39.toArray false) .ret) .skip)))))) Q e w := rfl
def F3.t28 : Cd := (.seq (.region 28 F3.r28.toArray false) (.seq (.seq (.region 29 F3.r29.toArray false) (.cond (.tmp 123) (.seq (.region 30 F3.r30.toArray false) .ret) .skip)) F3.t31))
theorem F3.t28_eq {θ : Tag (F3.t28, Q, e, w)} : cwE P F3.t28 Q e w θ = cwE P (.seq (.region 28 F3.r28.toArray false) (.seq (.seq (.region 29 F3.r29.toArray false) (.cond (.tmp 123) (.seq (.region 30 F3.r30.toArray false) .ret) .skip)) F3.t31)) Q e w := rfl
def F3.t24 : Cd := (.region 24 F3.r24.toArray false)
theorem F3.t24_eq {θ : Tag (F3.t24, Q, e, w)} : cwE P F3.t24 Q e w θ = cwE P (.region 24 F3.r24.toArray false) Q e w := rfl
def F3.t25 : Cd := (.seq (.block 3 (.seq (.region 25 F3.r25.toArray false) (.seq (.seq (.region 26 F3.r26.toArray false) (.cond (.tmp 106) (.region 27 F3.r27.toArray false) .skip)) F3.t28))) F3.t24)
theorem F3.t25_eq {θ : Tag (F3.t25, Q, e, w)} : cwE P F3.t25 Q e w θ = cwE P (.seq (.block 3 (.seq (.region 25 F3.r25.toArray false) (.seq (.seq (.region 26 F3.r26.toArray false) (.cond (.tmp 106) (.region 27 F3.r27.toArray false) .skip)) F3.t28))) F3.t24) Q e w := rfl
def F3.t40 : Cd := (.seq (.region 40 F3.r40.toArray false) .ret)
theorem F3.t40_eq {θ : Tag (F3.t40, Q, e, w)} : cwE P F3.t40 Q e w θ = cwE P (.seq (.region 40 F3.r40.toArray false) .ret) Q e w := rfl
def F3.t21 : Cd := (.seq (.region 21 F3.r21.toArray false) (.seq (.seq (.region 22 F3.r22.toArray false) (.block 2 (.loop (.seq (.seq (.region 23 F3.r23.toArray false) (.cond (.tmp 89) .skip (.exit 2))) F3.t25)))) F3.t40))
theorem F3.t21_eq {θ : Tag (F3.t21, Q, e, w)} : cwE P F3.t21 Q e w θ = cwE P (.seq (.region 21 F3.r21.toArray false) (.seq (.seq (.region 22 F3.r22.toArray false) (.block 2 (.loop (.seq (.seq (.region 23 F3.r23.toArray false) (.cond (.tmp 89) .skip (.exit 2))) F3.t25)))) F3.t40)) Q e w := rfl
def F3.t19 : Cd := (.seq (.seq (.region 19 F3.r19.toArray true) (.cond (.tmp 82) (.seq (.region 20 F3.r20.toArray false) .ret) .skip)) F3.t21)
theorem F3.t19_eq {θ : Tag (F3.t19, Q, e, w)} : cwE P F3.t19 Q e w θ = cwE P (.seq (.seq (.region 19 F3.r19.toArray true) (.cond (.tmp 82) (.seq (.region 20 F3.r20.toArray false) .ret) .skip)) F3.t21) Q e w := rfl
def F3.t6 : Cd := (.seq (.region 6 F3.r6.toArray false) (.seq (.region 7 F3.r7.toArray false) (.seq (.region 8 F3.r8.toArray false) (.seq (.region 9 F3.r9.toArray false) (.seq (.seq (.region 10 F3.r10.toArray false) (.block 0 (.loop (.seq (.seq (.region 11 F3.r11.toArray false) (.cond (.tmp 35) .skip (.exit 0))) F3.t13)))) F3.t19)))))
theorem F3.t6_eq {θ : Tag (F3.t6, Q, e, w)} : cwE P F3.t6 Q e w θ = cwE P (.seq (.region 6 F3.r6.toArray false) (.seq (.region 7 F3.r7.toArray false) (.seq (.region 8 F3.r8.toArray false) (.seq (.region 9 F3.r9.toArray false) (.seq (.seq (.region 10 F3.r10.toArray false) (.block 0 (.loop (.seq (.seq (.region 11 F3.r11.toArray false) (.cond (.tmp 35) .skip (.exit 0))) F3.t13)))) F3.t19))))) Q e w := rfl
def F3.t3 : Cd := (.seq (.region 3 F3.r3.toArray false) (.seq (.seq (.region 4 F3.r4.toArray false) (.cond (.tmp 26) (.seq (.region 5 F3.r5.toArray false) .ret) .skip)) F3.t6))
theorem F3.t3_eq {θ : Tag (F3.t3, Q, e, w)} : cwE P F3.t3 Q e w θ = cwE P (.seq (.region 3 F3.r3.toArray false) (.seq (.seq (.region 4 F3.r4.toArray false) (.cond (.tmp 26) (.seq (.region 5 F3.r5.toArray false) .ret) .skip)) F3.t6)) Q e w := rfl
def F3.code : Cd := (.seq (.region 0 F3.r0.toArray false) (.seq (.seq (.region 1 F3.r1.toArray false) (.cond (.tmp 23) (.seq (.region 2 F3.r2.toArray false) .ret) .skip)) F3.t3))
theorem F3.calls (hn : args.size ≤ 169) (h : cwE Tryz.prog F3.code (fnP Tryz.prog #[(.tmp 4)] R) (entry args) w) : Calls Tryz.prog 3 args w R :=
  calls_of_cwE (types := Tryz.prog.types) follows Tryz.func3 F3.code rfl (by kernel_rfl) hn h

def F4.r0 : List Oper := [
  op 4 (.assign (.const (.bool false))) 4]
def F4.r1 : List Oper := [
  op 7 (.move (.tmp 1)) 3,
  op 5 (.assign (.tmp 7)) 3]
def F4.r2 : List Oper := [
  op 6 (.assign (.const (.int .i64 0))) 3]
def F4.r3 : List Oper := [
  op 8 (.move (.tmp 6)) 3,
  op 9 (.move (.tmp 0)) 22,
  op 10 (.call ⟨(.builtin .len), #[(.tmp 9)], #[22]⟩) 3,
  op 11 (.binOp .lss 3 (.tmp 8) (.tmp 10) 3) 4,
  op 12 (.move (.tmp 11)) 4,
  ⟨(some 13), (.move (.tmp 5)), 3, "", #[], (some (12, true))⟩,
  ⟨(some 14), (.binOp .leq 3 (.tmp 13) (.const (.int .i64 2147483647)) 3), 4, "", #[], (some (12, true))⟩,
  op 15 (.pick (.tmp 12) (.tmp 14) (.const (.bool false))) 4]
def F4.r5 : List Oper := [
  op 18 (.move (.tmp 5)) 3,
  op 19 (.move (.tmp 0)) 22,
  op 20 (.move (.tmp 6)) 3,
  op 21 (.indexAddr 22 (.tmp 19) (.tmp 20)) 0,
  od 22 (.load 39 (.tmp 21)) 39,
  oc 23 (.call ⟨(.value (.func 15)), #[(.tmp 22)], #[39]⟩) 3,
  op 24 (.binOp .add 3 (.tmp 23) (.const (.int .i64 33373)) 3) 3,
  op 25 (.binOp .add 3 (.tmp 18) (.tmp 24) 3) 3,
  op 5 (.assign (.tmp 25)) 3]
def F4.r4 : List Oper := [
  op 16 (.move (.tmp 6)) 3,
  op 17 (.binOp .add 3 (.tmp 16) (.const (.int .i64 1)) 3) 3,
  op 6 (.assign (.tmp 17)) 3]
def F4.r6 : List Oper := [
  op 26 (.move (.tmp 5)) 3,
  op 27 (.binOp .gtr 3 (.tmp 26) (.const (.int .i64 2147483647)) 3) 4,
  op 4 (.assign (.tmp 27)) 4]
def F4.t4 : Cd := (.region 4 F4.r4.toArray false)
theorem F4.t4_eq {θ : Tag (F4.t4, Q, e, w)} : cwE P F4.t4 Q e w θ = cwE P (.region 4 F4.r4.toArray false) Q e w := rfl
def F4.t5 : Cd := (.seq (.block 1 (.region 5 F4.r5.toArray false)) F4.t4)
theorem F4.t5_eq {θ : Tag (F4.t5, Q, e, w)} : cwE P F4.t5 Q e w θ = cwE P (.seq (.block 1 (.region 5 F4.r5.toArray false)) F4.t4) Q e w := rfl
def F4.t6 : Cd := (.seq (.region 6 F4.r6.toArray false) .ret)
theorem F4.t6_eq {θ : Tag (F4.t6, Q, e, w)} : cwE P F4.t6 Q e w θ = cwE P (.seq (.region 6 F4.r6.toArray false) .ret) Q e w := rfl
def F4.code : Cd := (.seq (.region 0 F4.r0.toArray false) (.seq (.region 1 F4.r1.toArray false) (.seq (.seq (.region 2 F4.r2.toArray false) (.block 0 (.loop (.seq (.seq (.region 3 F4.r3.toArray false) (.cond (.tmp 15) .skip (.exit 0))) F4.t5)))) F4.t6)))
theorem F4.calls (hn : args.size ≤ 28) (h : cwE Tryz.prog F4.code (fnP Tryz.prog #[(.tmp 4)] R) (entry args) w) : Calls Tryz.prog 4 args w R :=
  calls_of_cwE (types := Tryz.prog.types) follows Tryz.func4 F4.code rfl (by kernel_rfl) hn h

def F5.r0 : List Oper := [
  op 2 (.assign (.const (.pointer none))) 25]
def F5.r1 : List Oper := [
  op 3 (.move (.tmp 0)) 27,
  oc 4 (.call ⟨(.value (.func 16)), #[(.tmp 3)], #[27]⟩) 4,
  op 5 (.unOp .not 4 (.tmp 4)) 4]
def F5.r2 : List Oper := [
  op 2 (.assign (.const (.pointer none))) 25]
def F5.r3 : List Oper := [
  op 6 (.move (.tmp 0)) 27,
  op 7 (.build 57 #[(0, (.tmp 6))]) 57,
  oc 8 (.box 57 (.tmp 7)) 25,
  op 2 (.assign (.tmp 8)) 25]
def F5.t3 : Cd := (.seq (.region 3 F5.r3.toArray false) .ret)
theorem F5.t3_eq {θ : Tag (F5.t3, Q, e, w)} : cwE P F5.t3 Q e w θ = cwE P (.seq (.region 3 F5.r3.toArray false) .ret) Q e w := rfl
def F5.code : Cd := (.seq (.region 0 F5.r0.toArray false) (.seq (.seq (.region 1 F5.r1.toArray false) (.cond (.tmp 5) (.seq (.region 2 F5.r2.toArray false) .ret) .skip)) F5.t3))
theorem F5.calls (hn : args.size ≤ 9) (h : cwE Tryz.prog F5.code (fnP Tryz.prog #[(.tmp 2)] R) (entry args) w) : Calls Tryz.prog 5 args w R :=
  calls_of_cwE (types := Tryz.prog.types) follows Tryz.func5 F5.code rfl (by kernel_rfl) hn h

def F6.r0 : List Oper := [
  oc 0 (.alloc 39) 0]
def F6.r1 : List Oper := [
  op 1 (.build 39 #[(0, (.const (.int .u8 100))), (1, (.const (.int .u16 65535))), (2, (.const (.int .u32 8192))), (3, (.const (.string { data := #[57, 80, 50, 48, 48, 48] })))]) 39,
  ⟨none, (.store 39 (.tmp 0) (.tmp 1)), 0, "", #[⟨0, .chain⟩], none⟩]
def F6.code : Cd := (.seq (.region 0 F6.r0.toArray false) (.seq (.region 1 F6.r1.toArray false) .ret))
theorem F6.calls (hn : args.size ≤ 2) (h : cwE Tryz.prog F6.code (fnP Tryz.prog #[(.cell 0 39)] R) (entry args) w) : Calls Tryz.prog 6 args w R :=
  calls_of_cwE (types := Tryz.prog.types) follows Tryz.func6 F6.code rfl (by kernel_rfl) hn h

def F7.r0 : List Oper := [
  oc 1 (.box 39 (.tmp 0)) 0,
  op 2 (.assign (.const (.slice none 0 0))) 28,
  op 3 (.assign (.const (.int .i64 0))) 41]
def F7.r1 : List Oper := [
  op 15 (.fieldAddr 39 (.tmp 1) 0) 0,
  od 16 (.load 29 (.tmp 15)) 29,
  oc 17 (.call ⟨(.value (.func 17)), #[(.tmp 16)], #[29]⟩) 61,
  op 14 (.move (.tmp 17)) 61,
  op 18 (.extract (.tmp 14) 0) 60,
  op 19 (.extract (.tmp 14) 1) 4,
  oc 4 (.alloc 60) 0,
  ⟨none, (.store 60 (.tmp 4) (.tmp 18)), 0, "", #[⟨0, .chain⟩], none⟩,
  op 5 (.assign (.tmp 19)) 4]
def F7.r2 : List Oper := [
  op 20 (.move (.tmp 5)) 4,
  op 21 (.unOp .not 4 (.tmp 20)) 4]
def F7.r3 : List Oper := [
  op 2 (.assign (.const (.slice none 0 0))) 28,
  op 3 (.assign (.const (.int .i64 32))) 41]
def F7.r4 : List Oper := [
  op 22 (.fieldAddr 60 (.tmp 4) 2) 0,
  od 23 (.load 58 (.tmp 22)) 58,
  op 24 (.call ⟨(.builtin .len), #[(.tmp 23)], #[58]⟩) 3,
  op 25 (.move (.const (.int .i64 0))) 3]
def F7.r5 : List Oper := [
  op 26 (.binOp .lss 3 (.tmp 25) (.tmp 24) 3) 0]
def F7.r6 : List Oper := [
  op 27 (.indexAddr 58 (.tmp 23) (.tmp 25)) 0,
  od 28 (.load 63 (.tmp 27)) 63,
  op 7 (.assign (.tmp 28)) 63]
def F7.r7 : List Oper := [
  op 29 (.move (.tmp 7)) 63,
  oc 30 (.call ⟨(.value (.func 18)), #[(.tmp 29)], #[63]⟩) 71,
  op 31 (.field 71 (.tmp 30) 1) 64,
  ⟨(some 32), (.call ⟨(.value (.tmp 31)), #[(.tmp 1)], #[73]⟩), 4, "", #[⟨0, .phase⟩], none⟩,
  op 33 (.unOp .not 4 (.tmp 32)) 4]
def F7.r8 : List Oper := [
  op 2 (.assign (.const (.slice none 0 0))) 28,
  op 3 (.assign (.const (.int .i64 30))) 41]
def F7.r9 : List Oper := [
  op 34 (.binOp .add 3 (.tmp 25) (.const (.int .i64 1)) 3) 3,
  op 25 (.move (.tmp 34)) 3]
def F7.r10 : List Oper := [
  oc 36 (.call ⟨(.value (.func 19)), #[(.const (.int .i64 65536))], #[3]⟩) 75,
  op 35 (.move (.tmp 36)) 75,
  op 37 (.extract (.tmp 35) 0) 74,
  op 38 (.extract (.tmp 35) 1) 41,
  op 8 (.assign (.tmp 37)) 74,
  op 9 (.assign (.tmp 38)) 41]
def F7.r11 : List Oper := [
  op 39 (.move (.tmp 9)) 41,
  op 40 (.binOp .neq 41 (.tmp 39) (.const (.int .i64 0)) 41) 4]
def F7.r12 : List Oper := [
  op 41 (.move (.tmp 9)) 41,
  op 2 (.assign (.const (.slice none 0 0))) 28,
  op 3 (.assign (.tmp 41)) 41]
def F7.r13 : List Oper := [
  op 42 (.move (.tmp 8)) 74,
  oc 43 (.call ⟨(.value (.func 20)), #[(.tmp 42), (.const (.int .u32 0))], #[74, 27]⟩) 0]
def F7.r14 : List Oper := [
  op 44 (.move (.tmp 8)) 74,
  op 45 (.fieldAddr 39 (.tmp 1) 0) 0,
  od 46 (.load 29 (.tmp 45)) 29,
  oc 47 (.call ⟨(.value (.func 21)), #[(.tmp 44), (.tmp 46)], #[74, 5]⟩) 0]
def F7.r15 : List Oper := [
  op 48 (.move (.tmp 8)) 74,
  op 49 (.fieldAddr 39 (.tmp 1) 1) 0,
  od 50 (.load 30 (.tmp 49)) 30,
  oc 51 (.call ⟨(.value (.func 22)), #[(.tmp 48), (.tmp 50)], #[74, 30]⟩) 0]
def F7.r16 : List Oper := [
  op 52 (.fieldAddr 60 (.tmp 4) 2) 0,
  od 53 (.load 58 (.tmp 52)) 58,
  op 54 (.call ⟨(.builtin .len), #[(.tmp 53)], #[58]⟩) 3,
  op 55 (.move (.const (.int .i64 0))) 3]
def F7.r17 : List Oper := [
  op 56 (.binOp .lss 3 (.tmp 55) (.tmp 54) 3) 0]
def F7.r18 : List Oper := [
  op 57 (.indexAddr 58 (.tmp 53) (.tmp 55)) 0,
  od 58 (.load 63 (.tmp 57)) 63,
  op 11 (.assign (.tmp 58)) 63]
def F7.r19 : List Oper := [
  op 59 (.move (.tmp 11)) 63,
  oc 60 (.call ⟨(.value (.func 18)), #[(.tmp 59)], #[63]⟩) 71,
  op 61 (.field 71 (.tmp 60) 2) 65,
  op 62 (.move (.tmp 8)) 74,
  ⟨(some 63), (.call ⟨(.value (.tmp 61)), #[(.tmp 62), (.tmp 1)], #[74, 73]⟩), 0, "", #[⟨0, .phase⟩], none⟩]
def F7.r20 : List Oper := [
  op 64 (.binOp .add 3 (.tmp 55) (.const (.int .i64 1)) 3) 3,
  op 55 (.move (.tmp 64)) 3]
def F7.r21 : List Oper := [
  op 66 (.move (.tmp 8)) 74,
  oc 67 (.call ⟨(.value (.func 23)), #[(.tmp 66)], #[74]⟩) 42,
  op 65 (.move (.tmp 67)) 42,
  op 68 (.extract (.tmp 65) 0) 28,
  op 69 (.extract (.tmp 65) 1) 41,
  op 12 (.assign (.tmp 68)) 28,
  op 9 (.assign (.tmp 69)) 41]
def F7.r22 : List Oper := [
  op 70 (.move (.tmp 9)) 41,
  op 71 (.binOp .neq 41 (.tmp 70) (.const (.int .i64 0)) 41) 4]
def F7.r23 : List Oper := [
  op 2 (.assign (.const (.slice none 0 0))) 28,
  op 3 (.assign (.const (.int .i64 31))) 41]
def F7.r24 : List Oper := [
  op 72 (.move (.const (.int .i64 0))) 3]
def F7.r25 : List Oper := [
  op 73 (.binOp .lss 3 (.tmp 72) (.const (.int .i64 4)) 3) 4]
def F7.r26 : List Oper := [
  op 74 (.move (.tmp 72)) 3,
  op 13 (.assign (.tmp 74)) 3]
def F7.r27 : List Oper := [
  op 75 (.move (.tmp 12)) 28,
  op 76 (.move (.tmp 13)) 3,
  op 77 (.move (.tmp 12)) 28,
  op 78 (.call ⟨(.builtin .len), #[(.tmp 77)], #[28]⟩) 3,
  op 79 (.move (.tmp 13)) 3,
  op 80 (.binOp .mul 3 (.const (.int .i64 8)) (.tmp 79) 3) 3,
  op 81 (.binOp .shr 3 (.tmp 78) (.tmp 80) 3) 3,
  op 82 (.convert 3 5 (.tmp 81)) 5,
  op 83 (.indexAddr 28 (.tmp 75) (.tmp 76)) 0,
  ⟨none, (.store 5 (.tmp 83) (.tmp 82)), 0, "", #[⟨0, .chain⟩], none⟩]
def F7.r28 : List Oper := [
  op 84 (.binOp .add 3 (.tmp 72) (.const (.int .i64 1)) 3) 3,
  op 72 (.move (.tmp 84)) 3]
def F7.r29 : List Oper := [
  op 85 (.move (.tmp 12)) 28,
  op 2 (.assign (.tmp 85)) 28,
  op 3 (.assign (.const (.int .i64 0))) 41]
def F7.t9 : Cd := (.region 9 F7.r9.toArray false)
theorem F7.t9_eq {θ : Tag (F7.t9, Q, e, w)} : cwE P F7.t9 Q e w θ = cwE P (.region 9 F7.r9.toArray false) Q e w := rfl
def F7.t6 : Cd := (.seq (.block 1 (.seq (.region 6 F7.r6.toArray false) (.seq (.region 7 F7.r7.toArray false) (.cond (.tmp 33) (.seq (.region 8 F7.r8.toArray false) .ret) .skip)))) F7.t9)
theorem F7.t6_eq {θ : Tag (F7.t6, Q, e, w)} : cwE P F7.t6 Q e w θ = cwE P (.seq (.block 1 (.seq (.region 6 F7.r6.toArray false) (.seq (.region 7 F7.r7.toArray false) (.cond (.tmp 33) (.seq (.region 8 F7.r8.toArray false) .ret) .skip)))) F7.t9) Q e w := rfl
def F7.t20 : Cd := (.region 20 F7.r20.toArray false)
theorem F7.t20_eq {θ : Tag (F7.t20, Q, e, w)} : cwE P F7.t20 Q e w θ = cwE P (.region 20 F7.r20.toArray false) Q e w := rfl
def F7.t18 : Cd := (.seq (.block 3 (.seq (.region 18 F7.r18.toArray false) (.region 19 F7.r19.toArray false))) F7.t20)
theorem F7.t18_eq {θ : Tag (F7.t18, Q, e, w)} : cwE P F7.t18 Q e w θ = cwE P (.seq (.block 3 (.seq (.region 18 F7.r18.toArray false) (.region 19 F7.r19.toArray false))) F7.t20) Q e w := rfl
def F7.t28 : Cd := (.region 28 F7.r28.toArray false)
theorem F7.t28_eq {θ : Tag (F7.t28, Q, e, w)} : cwE P F7.t28 Q e w θ = cwE P (.region 28 F7.r28.toArray false) Q e w := rfl
def F7.t26 : Cd := (.seq (.block 5 (.seq (.region 26 F7.r26.toArray false) (.region 27 F7.r27.toArray false))) F7.t28)
theorem F7.t26_eq {θ : Tag (F7.t26, Q, e, w)} : cwE P F7.t26 Q e w θ = cwE P (.seq (.block 5 (.seq (.region 26 F7.r26.toArray false) (.region 27 F7.r27.toArray false))) F7.t28) Q e w := rfl
def F7.t29 : Cd := (.seq (.region 29 F7.r29.toArray false) .ret)
theorem F7.t29_eq {θ : Tag (F7.t29, Q, e, w)} : cwE P F7.t29 Q e w θ = cwE P (.seq (.region 29 F7.r29.toArray false) .ret) Q e w := rfl
def F7.t24 : Cd := (.seq (.seq (.region 24 F7.r24.toArray false) (.block 4 (.loop (.seq (.region 25 F7.r25.toArray false) (.seq (.cond (.tmp 73) .skip (.exit 4)) F7.t26))))) F7.t29)
theorem F7.t24_eq {θ : Tag (F7.t24, Q, e, w)} : cwE P F7.t24 Q e w θ = cwE P (.seq (.seq (.region 24 F7.r24.toArray false) (.block 4 (.loop (.seq (.region 25 F7.r25.toArray false) (.seq (.cond (.tmp 73) .skip (.exit 4)) F7.t26))))) F7.t29) Q e w := rfl
def F7.t21 : Cd := (.seq (.region 21 F7.r21.toArray false) (.seq (.seq (.region 22 F7.r22.toArray false) (.cond (.tmp 71) (.seq (.region 23 F7.r23.toArray false) .ret) .skip)) F7.t24))
theorem F7.t21_eq {θ : Tag (F7.t21, Q, e, w)} : cwE P F7.t21 Q e w θ = cwE P (.seq (.region 21 F7.r21.toArray false) (.seq (.seq (.region 22 F7.r22.toArray false) (.cond (.tmp 71) (.seq (.region 23 F7.r23.toArray false) .ret) .skip)) F7.t24)) Q e w := rfl
def F7.t13 : Cd := (.seq (.region 13 F7.r13.toArray false) (.seq (.region 14 F7.r14.toArray false) (.seq (.region 15 F7.r15.toArray false) (.seq (.seq (.region 16 F7.r16.toArray false) (.block 2 (.loop (.seq (.region 17 F7.r17.toArray false) (.seq (.cond (.tmp 56) .skip (.exit 2)) F7.t18))))) F7.t21))))
theorem F7.t13_eq {θ : Tag (F7.t13, Q, e, w)} : cwE P F7.t13 Q e w θ = cwE P (.seq (.region 13 F7.r13.toArray false) (.seq (.region 14 F7.r14.toArray false) (.seq (.region 15 F7.r15.toArray false) (.seq (.seq (.region 16 F7.r16.toArray false) (.block 2 (.loop (.seq (.region 17 F7.r17.toArray false) (.seq (.cond (.tmp 56) .skip (.exit 2)) F7.t18))))) F7.t21)))) Q e w := rfl
def F7.t10 : Cd := (.seq (.region 10 F7.r10.toArray false) (.seq (.seq (.region 11 F7.r11.toArray false) (.cond (.tmp 40) (.seq (.region 12 F7.r12.toArray false) .ret) .skip)) F7.t13))
theorem F7.t10_eq {θ : Tag (F7.t10, Q, e, w)} : cwE P F7.t10 Q e w θ = cwE P (.seq (.region 10 F7.r10.toArray false) (.seq (.seq (.region 11 F7.r11.toArray false) (.cond (.tmp 40) (.seq (.region 12 F7.r12.toArray false) .ret) .skip)) F7.t13)) Q e w := rfl
def F7.t4 : Cd := (.seq (.seq (.region 4 F7.r4.toArray false) (.block 0 (.loop (.seq (.region 5 F7.r5.toArray false) (.seq (.cond (.tmp 26) .skip (.exit 0)) F7.t6))))) F7.t10)
theorem F7.t4_eq {θ : Tag (F7.t4, Q, e, w)} : cwE P F7.t4 Q e w θ = cwE P (.seq (.seq (.region 4 F7.r4.toArray false) (.block 0 (.loop (.seq (.region 5 F7.r5.toArray false) (.seq (.cond (.tmp 26) .skip (.exit 0)) F7.t6))))) F7.t10) Q e w := rfl
def F7.code : Cd := (.seq (.region 0 F7.r0.toArray false) (.seq (.region 1 F7.r1.toArray false) (.seq (.seq (.region 2 F7.r2.toArray false) (.cond (.tmp 21) (.seq (.region 3 F7.r3.toArray false) .ret) .skip)) F7.t4)))
theorem F7.calls (hn : args.size ≤ 86) (h : cwE Tryz.prog F7.code (fnP Tryz.prog #[(.tmp 2), (.tmp 3)] R) (entry args) w) : Calls Tryz.prog 7 args w R :=
  calls_of_cwE (types := Tryz.prog.types) follows Tryz.func7 F7.code rfl (by kernel_rfl) hn h

def F8.r0 : List Oper := [
  oc 1 (.box 39 (.tmp 0)) 0,
  op 2 (.assign (.const (.int .i64 0))) 3]
def F8.r1 : List Oper := [
  od 6 (.load 39 (.tmp 1)) 39,
  oc 7 (.call ⟨(.value (.func 7)), #[(.tmp 6)], #[39]⟩) 42,
  op 5 (.move (.tmp 7)) 42,
  op 8 (.extract (.tmp 5) 0) 28,
  op 9 (.extract (.tmp 5) 1) 41,
  op 3 (.assign (.tmp 8)) 28,
  op 4 (.assign (.tmp 9)) 41]
def F8.r2 : List Oper := [
  op 10 (.move (.tmp 3)) 28,
  op 11 (.call ⟨(.builtin .len), #[(.tmp 10)], #[28]⟩) 3,
  op 2 (.assign (.tmp 11)) 3]
def F8.code : Cd := (.seq (.region 0 F8.r0.toArray false) (.seq (.region 1 F8.r1.toArray false) (.seq (.region 2 F8.r2.toArray false) .ret)))
theorem F8.calls (hn : args.size ≤ 12) (h : cwE Tryz.prog F8.code (fnP Tryz.prog #[(.tmp 2)] R) (entry args) w) : Calls Tryz.prog 8 args w R :=
  calls_of_cwE (types := Tryz.prog.types) follows Tryz.func8 F8.code rfl (by kernel_rfl) hn h

def F9.r0 : List Oper := [
  oc 1 (.box 39 (.tmp 0)) 0,
  oc 2 (.alloc 39) 0]
def F9.r1 : List Oper := [
  op 8 (.fieldAddr 39 (.tmp 1) 0) 0,
  od 9 (.load 29 (.tmp 8)) 29,
  op 10 (.fieldAddr 39 (.tmp 1) 1) 0,
  od 11 (.load 30 (.tmp 10)) 30,
  op 12 (.build 39 #[(0, (.tmp 9)), (1, (.tmp 11))]) 39,
  oc 3 (.alloc 39) 0,
  ⟨none, (.store 39 (.tmp 3) (.tmp 12)), 0, "", #[⟨0, .chain⟩], none⟩]
def F9.r2 : List Oper := [
  op 14 (.fieldAddr 39 (.tmp 1) 0) 0,
  od 15 (.load 29 (.tmp 14)) 29,
  oc 16 (.call ⟨(.value (.func 17)), #[(.tmp 15)], #[29]⟩) 61,
  op 13 (.move (.tmp 16)) 61,
  op 17 (.extract (.tmp 13) 0) 60,
  op 18 (.extract (.tmp 13) 1) 4,
  oc 4 (.alloc 60) 0,
  ⟨none, (.store 60 (.tmp 4) (.tmp 17)), 0, "", #[⟨0, .chain⟩], none⟩,
  op 5 (.assign (.tmp 18)) 4]
def F9.r3 : List Oper := [
  op 19 (.fieldAddr 60 (.tmp 4) 2) 0,
  od 20 (.load 58 (.tmp 19)) 58,
  op 21 (.call ⟨(.builtin .len), #[(.tmp 20)], #[58]⟩) 3,
  op 22 (.move (.const (.int .i64 0))) 3]
def F9.r4 : List Oper := [
  op 23 (.binOp .lss 3 (.tmp 22) (.tmp 21) 3) 0]
def F9.r5 : List Oper := [
  op 24 (.indexAddr 58 (.tmp 20) (.tmp 22)) 0,
  od 25 (.load 63 (.tmp 24)) 63,
  op 7 (.assign (.tmp 25)) 63]
def F9.r6 : List Oper := [
  op 26 (.move (.tmp 7)) 63,
  oc 27 (.call ⟨(.value (.func 18)), #[(.tmp 26)], #[63]⟩) 71,
  op 28 (.field 71 (.tmp 27) 4) 67,
  ⟨(some 29), (.call ⟨(.value (.tmp 28)), #[(.tmp 3), (.tmp 1)], #[73, 73]⟩), 0, "", #[⟨0, .phase⟩], none⟩]
def F9.r7 : List Oper := [
  op 30 (.binOp .add 3 (.tmp 22) (.const (.int .i64 1)) 3) 3,
  op 22 (.move (.tmp 30)) 3]
def F9.r8 : List Oper := [
  od 31 (.load 39 (.tmp 3)) 39,
  ⟨none, (.store 39 (.tmp 2) (.tmp 31)), 0, "", #[⟨0, .chain⟩], none⟩]
def F9.t7 : Cd := (.region 7 F9.r7.toArray false)
theorem F9.t7_eq {θ : Tag (F9.t7, Q, e, w)} : cwE P F9.t7 Q e w θ = cwE P (.region 7 F9.r7.toArray false) Q e w := rfl
def F9.t5 : Cd := (.seq (.block 1 (.seq (.region 5 F9.r5.toArray false) (.region 6 F9.r6.toArray false))) F9.t7)
theorem F9.t5_eq {θ : Tag (F9.t5, Q, e, w)} : cwE P F9.t5 Q e w θ = cwE P (.seq (.block 1 (.seq (.region 5 F9.r5.toArray false) (.region 6 F9.r6.toArray false))) F9.t7) Q e w := rfl
def F9.t8 : Cd := (.seq (.region 8 F9.r8.toArray false) .ret)
theorem F9.t8_eq {θ : Tag (F9.t8, Q, e, w)} : cwE P F9.t8 Q e w θ = cwE P (.seq (.region 8 F9.r8.toArray false) .ret) Q e w := rfl
def F9.code : Cd := (.seq (.region 0 F9.r0.toArray false) (.seq (.region 1 F9.r1.toArray false) (.seq (.region 2 F9.r2.toArray false) (.seq (.seq (.region 3 F9.r3.toArray false) (.block 0 (.loop (.seq (.region 4 F9.r4.toArray false) (.seq (.cond (.tmp 23) .skip (.exit 0)) F9.t5))))) F9.t8))))
theorem F9.calls (hn : args.size ≤ 32) (h : cwE Tryz.prog F9.code (fnP Tryz.prog #[(.cell 2 39)] R) (entry args) w) : Calls Tryz.prog 9 args w R :=
  calls_of_cwE (types := Tryz.prog.types) follows Tryz.func9 F9.code rfl (by kernel_rfl) hn h

def F10.r0 : List Oper := [
  oc 2 (.box 39 (.tmp 0)) 0,
  oc 3 (.box 39 (.tmp 1)) 0,
  op 4 (.assign (.const (.bool false))) 4]
def F10.r1 : List Oper := [
  op 7 (.fieldAddr 39 (.tmp 2) 0) 0,
  od 8 (.load 29 (.tmp 7)) 29,
  op 9 (.fieldAddr 39 (.tmp 3) 0) 0,
  od 10 (.load 29 (.tmp 9)) 29,
  op 11 (.binOp .neq 29 (.tmp 8) (.tmp 10) 29) 4,
  op 12 (.move (.tmp 11)) 4,
  ⟨(some 13), (.fieldAddr 39 (.tmp 2) 1), 0, "", #[], (some (12, false))⟩,
  ⟨(some 14), (.load 30 (.tmp 13)), 30, "", #[⟨0, .data⟩], (some (12, false))⟩,
  ⟨(some 15), (.fieldAddr 39 (.tmp 3) 1), 0, "", #[], (some (12, false))⟩,
  ⟨(some 16), (.load 30 (.tmp 15)), 30, "", #[⟨0, .data⟩], (some (12, false))⟩,
  ⟨(some 17), (.binOp .neq 30 (.tmp 14) (.tmp 16) 30), 4, "", #[], (some (12, false))⟩,
  op 18 (.pick (.tmp 12) (.const (.bool true)) (.tmp 17)) 4,
  op 19 (.move (.tmp 18)) 4,
  ⟨(some 20), (.fieldAddr 39 (.tmp 2) 2), 0, "", #[], (some (19, false))⟩,
  ⟨(some 21), (.load 27 (.tmp 20)), 27, "", #[⟨0, .data⟩], (some (19, false))⟩,
  ⟨(some 22), (.fieldAddr 39 (.tmp 3) 2), 0, "", #[], (some (19, false))⟩,
  ⟨(some 23), (.load 27 (.tmp 22)), 27, "", #[⟨0, .data⟩], (some (19, false))⟩,
  ⟨(some 24), (.binOp .neq 27 (.tmp 21) (.tmp 23) 27), 4, "", #[], (some (19, false))⟩,
  op 25 (.pick (.tmp 19) (.const (.bool true)) (.tmp 24)) 4,
  op 26 (.move (.tmp 25)) 4,
  ⟨(some 27), (.fieldAddr 39 (.tmp 2) 3), 0, "", #[], (some (26, false))⟩,
  ⟨(some 28), (.load 9 (.tmp 27)), 9, "", #[⟨0, .data⟩], (some (26, false))⟩,
  ⟨(some 29), (.fieldAddr 39 (.tmp 3) 3), 0, "", #[], (some (26, false))⟩,
  ⟨(some 30), (.load 9 (.tmp 29)), 9, "", #[⟨0, .data⟩], (some (26, false))⟩,
  ⟨(some 31), (.binOp .neq 9 (.tmp 28) (.tmp 30) 9), 4, "", #[], (some (26, false))⟩,
  op 32 (.pick (.tmp 26) (.const (.bool true)) (.tmp 31)) 4,
  op 33 (.move (.tmp 32)) 4,
  ⟨(some 34), (.fieldAddr 39 (.tmp 2) 4), 0, "", #[], (some (33, false))⟩,
  ⟨(some 35), (.load 27 (.tmp 34)), 27, "", #[⟨0, .data⟩], (some (33, false))⟩,
  ⟨(some 36), (.fieldAddr 39 (.tmp 3) 4), 0, "", #[], (some (33, false))⟩,
  ⟨(some 37), (.load 27 (.tmp 36)), 27, "", #[⟨0, .data⟩], (some (33, false))⟩,
  ⟨(some 38), (.binOp .neq 27 (.tmp 35) (.tmp 37) 27), 4, "", #[], (some (33, false))⟩,
  op 39 (.pick (.tmp 33) (.const (.bool true)) (.tmp 38)) 4,
  op 40 (.move (.tmp 39)) 4,
  ⟨(some 41), (.fieldAddr 39 (.tmp 2) 5), 0, "", #[], (some (40, false))⟩,
  ⟨(some 42), (.load 9 (.tmp 41)), 9, "", #[⟨0, .data⟩], (some (40, false))⟩,
  ⟨(some 43), (.fieldAddr 39 (.tmp 3) 5), 0, "", #[], (some (40, false))⟩,
  ⟨(some 44), (.load 9 (.tmp 43)), 9, "", #[⟨0, .data⟩], (some (40, false))⟩,
  ⟨(some 45), (.binOp .neq 9 (.tmp 42) (.tmp 44) 9), 4, "", #[], (some (40, false))⟩,
  op 46 (.pick (.tmp 40) (.const (.bool true)) (.tmp 45)) 4,
  op 47 (.move (.tmp 46)) 4,
  ⟨(some 48), (.fieldAddr 39 (.tmp 2) 6), 0, "", #[], (some (47, false))⟩,
  ⟨(some 49), (.load 9 (.tmp 48)), 9, "", #[⟨0, .data⟩], (some (47, false))⟩,
  ⟨(some 50), (.fieldAddr 39 (.tmp 3) 6), 0, "", #[], (some (47, false))⟩,
  ⟨(some 51), (.load 9 (.tmp 50)), 9, "", #[⟨0, .data⟩], (some (47, false))⟩,
  ⟨(some 52), (.binOp .neq 9 (.tmp 49) (.tmp 51) 9), 4, "", #[], (some (47, false))⟩,
  op 53 (.pick (.tmp 47) (.const (.bool true)) (.tmp 52)) 4,
  op 54 (.move (.tmp 53)) 4,
  ⟨(some 55), (.fieldAddr 39 (.tmp 2) 7), 0, "", #[], (some (54, false))⟩,
  ⟨(some 56), (.load 9 (.tmp 55)), 9, "", #[⟨0, .data⟩], (some (54, false))⟩,
  ⟨(some 57), (.fieldAddr 39 (.tmp 3) 7), 0, "", #[], (some (54, false))⟩,
  ⟨(some 58), (.load 9 (.tmp 57)), 9, "", #[⟨0, .data⟩], (some (54, false))⟩,
  ⟨(some 59), (.binOp .neq 9 (.tmp 56) (.tmp 58) 9), 4, "", #[], (some (54, false))⟩,
  op 60 (.pick (.tmp 54) (.const (.bool true)) (.tmp 59)) 4,
  op 61 (.move (.tmp 60)) 4,
  ⟨(some 62), (.fieldAddr 39 (.tmp 2) 8), 0, "", #[], (some (61, false))⟩,
  ⟨(some 63), (.load 30 (.tmp 62)), 30, "", #[⟨0, .data⟩], (some (61, false))⟩,
  ⟨(some 64), (.fieldAddr 39 (.tmp 3) 8), 0, "", #[], (some (61, false))⟩,
  ⟨(some 65), (.load 30 (.tmp 64)), 30, "", #[⟨0, .data⟩], (some (61, false))⟩,
  ⟨(some 66), (.binOp .neq 30 (.tmp 63) (.tmp 65) 30), 4, "", #[], (some (61, false))⟩,
  op 67 (.pick (.tmp 61) (.const (.bool true)) (.tmp 66)) 4]
def F10.r2 : List Oper := [
  op 4 (.assign (.const (.bool false))) 4]
def F10.r3 : List Oper := [
  op 68 (.fieldAddr 39 (.tmp 2) 9) 0,
  od 69 (.load 27 (.tmp 68)) 27,
  op 70 (.fieldAddr 39 (.tmp 3) 9) 0,
  od 71 (.load 27 (.tmp 70)) 27,
  op 72 (.binOp .neq 27 (.tmp 69) (.tmp 71) 27) 4,
  op 73 (.move (.tmp 72)) 4,
  ⟨(some 74), (.fieldAddr 39 (.tmp 2) 10), 0, "", #[], (some (73, false))⟩,
  ⟨(some 75), (.load 27 (.tmp 74)), 27, "", #[⟨0, .data⟩], (some (73, false))⟩,
  ⟨(some 76), (.fieldAddr 39 (.tmp 3) 10), 0, "", #[], (some (73, false))⟩,
  ⟨(some 77), (.load 27 (.tmp 76)), 27, "", #[⟨0, .data⟩], (some (73, false))⟩,
  ⟨(some 78), (.binOp .neq 27 (.tmp 75) (.tmp 77) 27), 4, "", #[], (some (73, false))⟩,
  op 79 (.pick (.tmp 73) (.const (.bool true)) (.tmp 78)) 4,
  op 80 (.move (.tmp 79)) 4,
  ⟨(some 81), (.fieldAddr 39 (.tmp 2) 13), 0, "", #[], (some (80, false))⟩,
  ⟨(some 82), (.load 35 (.tmp 81)), 35, "", #[⟨0, .data⟩], (some (80, false))⟩,
  ⟨(some 83), (.fieldAddr 39 (.tmp 3) 13), 0, "", #[], (some (80, false))⟩,
  ⟨(some 84), (.load 35 (.tmp 83)), 35, "", #[⟨0, .data⟩], (some (80, false))⟩,
  ⟨(some 85), (.binOp .neq 35 (.tmp 82) (.tmp 84) 35), 4, "", #[], (some (80, false))⟩,
  op 86 (.pick (.tmp 80) (.const (.bool true)) (.tmp 85)) 4,
  op 87 (.move (.tmp 86)) 4,
  ⟨(some 88), (.fieldAddr 39 (.tmp 2) 14), 0, "", #[], (some (87, false))⟩,
  ⟨(some 89), (.load 5 (.tmp 88)), 5, "", #[⟨0, .data⟩], (some (87, false))⟩,
  ⟨(some 90), (.fieldAddr 39 (.tmp 3) 14), 0, "", #[], (some (87, false))⟩,
  ⟨(some 91), (.load 5 (.tmp 90)), 5, "", #[⟨0, .data⟩], (some (87, false))⟩,
  ⟨(some 92), (.binOp .neq 5 (.tmp 89) (.tmp 91) 5), 4, "", #[], (some (87, false))⟩,
  op 93 (.pick (.tmp 87) (.const (.bool true)) (.tmp 92)) 4,
  op 94 (.move (.tmp 93)) 4,
  ⟨(some 95), (.fieldAddr 39 (.tmp 2) 15), 0, "", #[], (some (94, false))⟩,
  ⟨(some 96), (.load 27 (.tmp 95)), 27, "", #[⟨0, .data⟩], (some (94, false))⟩,
  ⟨(some 97), (.fieldAddr 39 (.tmp 3) 15), 0, "", #[], (some (94, false))⟩,
  ⟨(some 98), (.load 27 (.tmp 97)), 27, "", #[⟨0, .data⟩], (some (94, false))⟩,
  ⟨(some 99), (.binOp .neq 27 (.tmp 96) (.tmp 98) 27), 4, "", #[], (some (94, false))⟩,
  op 100 (.pick (.tmp 94) (.const (.bool true)) (.tmp 99)) 4,
  op 101 (.move (.tmp 100)) 4,
  ⟨(some 102), (.fieldAddr 39 (.tmp 2) 16), 0, "", #[], (some (101, false))⟩,
  ⟨(some 103), (.load 9 (.tmp 102)), 9, "", #[⟨0, .data⟩], (some (101, false))⟩,
  ⟨(some 104), (.fieldAddr 39 (.tmp 3) 16), 0, "", #[], (some (101, false))⟩,
  ⟨(some 105), (.load 9 (.tmp 104)), 9, "", #[⟨0, .data⟩], (some (101, false))⟩,
  ⟨(some 106), (.binOp .neq 9 (.tmp 103) (.tmp 105) 9), 4, "", #[], (some (101, false))⟩,
  op 107 (.pick (.tmp 101) (.const (.bool true)) (.tmp 106)) 4,
  op 108 (.move (.tmp 107)) 4,
  ⟨(some 109), (.fieldAddr 39 (.tmp 2) 17), 0, "", #[], (some (108, false))⟩,
  ⟨(some 110), (.load 27 (.tmp 109)), 27, "", #[⟨0, .data⟩], (some (108, false))⟩,
  ⟨(some 111), (.fieldAddr 39 (.tmp 3) 17), 0, "", #[], (some (108, false))⟩,
  ⟨(some 112), (.load 27 (.tmp 111)), 27, "", #[⟨0, .data⟩], (some (108, false))⟩,
  ⟨(some 113), (.binOp .neq 27 (.tmp 110) (.tmp 112) 27), 4, "", #[], (some (108, false))⟩,
  op 114 (.pick (.tmp 108) (.const (.bool true)) (.tmp 113)) 4,
  op 115 (.move (.tmp 114)) 4,
  ⟨(some 116), (.fieldAddr 39 (.tmp 2) 18), 0, "", #[], (some (115, false))⟩,
  ⟨(some 117), (.load 33 (.tmp 116)), 33, "", #[⟨0, .data⟩], (some (115, false))⟩,
  ⟨(some 118), (.fieldAddr 39 (.tmp 3) 18), 0, "", #[], (some (115, false))⟩,
  ⟨(some 119), (.load 33 (.tmp 118)), 33, "", #[⟨0, .data⟩], (some (115, false))⟩,
  ⟨(some 120), (.binOp .neq 33 (.tmp 117) (.tmp 119) 33), 4, "", #[], (some (115, false))⟩,
  op 121 (.pick (.tmp 115) (.const (.bool true)) (.tmp 120)) 4,
  op 122 (.move (.tmp 121)) 4,
  ⟨(some 123), (.fieldAddr 39 (.tmp 2) 19), 0, "", #[], (some (122, false))⟩,
  ⟨(some 124), (.load 27 (.tmp 123)), 27, "", #[⟨0, .data⟩], (some (122, false))⟩,
  ⟨(some 125), (.fieldAddr 39 (.tmp 3) 19), 0, "", #[], (some (122, false))⟩,
  ⟨(some 126), (.load 27 (.tmp 125)), 27, "", #[⟨0, .data⟩], (some (122, false))⟩,
  ⟨(some 127), (.binOp .neq 27 (.tmp 124) (.tmp 126) 27), 4, "", #[], (some (122, false))⟩,
  op 128 (.pick (.tmp 122) (.const (.bool true)) (.tmp 127)) 4,
  op 129 (.move (.tmp 128)) 4,
  ⟨(some 130), (.fieldAddr 39 (.tmp 2) 21), 0, "", #[], (some (129, false))⟩,
  ⟨(some 131), (.load 37 (.tmp 130)), 37, "", #[⟨0, .data⟩], (some (129, false))⟩,
  ⟨(some 132), (.fieldAddr 39 (.tmp 3) 21), 0, "", #[], (some (129, false))⟩,
  ⟨(some 133), (.load 37 (.tmp 132)), 37, "", #[⟨0, .data⟩], (some (129, false))⟩,
  ⟨(some 134), (.binOp .neq 37 (.tmp 131) (.tmp 133) 37), 4, "", #[], (some (129, false))⟩,
  op 135 (.pick (.tmp 129) (.const (.bool true)) (.tmp 134)) 4]
def F10.r4 : List Oper := [
  op 4 (.assign (.const (.bool false))) 4]
def F10.r5 : List Oper := [
  op 136 (.fieldAddr 39 (.tmp 2) 11) 0,
  od 137 (.load 31 (.tmp 136)) 31,
  op 138 (.call ⟨(.builtin .len), #[(.tmp 137)], #[31]⟩) 3,
  op 139 (.fieldAddr 39 (.tmp 3) 11) 0,
  od 140 (.load 31 (.tmp 139)) 31,
  op 141 (.call ⟨(.builtin .len), #[(.tmp 140)], #[31]⟩) 3,
  op 142 (.binOp .neq 3 (.tmp 138) (.tmp 141) 3) 4,
  op 143 (.move (.tmp 142)) 4,
  ⟨(some 144), (.fieldAddr 39 (.tmp 2) 12), 0, "", #[], (some (143, false))⟩,
  ⟨(some 145), (.load 32 (.tmp 144)), 32, "", #[⟨0, .data⟩], (some (143, false))⟩,
  ⟨(some 146), (.call ⟨(.builtin .len), #[(.tmp 145)], #[32]⟩), 3, "", #[], (some (143, false))⟩,
  ⟨(some 147), (.fieldAddr 39 (.tmp 3) 12), 0, "", #[], (some (143, false))⟩,
  ⟨(some 148), (.load 32 (.tmp 147)), 32, "", #[⟨0, .data⟩], (some (143, false))⟩,
  ⟨(some 149), (.call ⟨(.builtin .len), #[(.tmp 148)], #[32]⟩), 3, "", #[], (some (143, false))⟩,
  ⟨(some 150), (.binOp .neq 3 (.tmp 146) (.tmp 149) 3), 4, "", #[], (some (143, false))⟩,
  op 151 (.pick (.tmp 143) (.const (.bool true)) (.tmp 150)) 4,
  op 152 (.move (.tmp 151)) 4,
  ⟨(some 153), (.fieldAddr 39 (.tmp 2) 20), 0, "", #[], (some (152, false))⟩,
  ⟨(some 154), (.load 28 (.tmp 153)), 28, "", #[⟨0, .data⟩], (some (152, false))⟩,
  ⟨(some 155), (.fieldAddr 39 (.tmp 3) 20), 0, "", #[], (some (152, false))⟩,
  ⟨(some 156), (.load 28 (.tmp 155)), 28, "", #[⟨0, .data⟩], (some (152, false))⟩,
  ⟨(some 157), (.call ⟨(.value (.func 24)), #[(.tmp 154), (.tmp 156)], #[28, 28]⟩), 4, "", #[⟨0, .chain⟩], (some (152, false))⟩,
  ⟨(some 158), (.unOp .not 4 (.tmp 157)), 4, "", #[], (some (152, false))⟩,
  op 159 (.pick (.tmp 152) (.const (.bool true)) (.tmp 158)) 4]
def F10.r6 : List Oper := [
  op 4 (.assign (.const (.bool false))) 4]
def F10.r7 : List Oper := [
  op 5 (.assign (.const (.int .i64 0))) 3]
def F10.r8 : List Oper := [
  op 160 (.move (.tmp 5)) 3,
  op 161 (.fieldAddr 39 (.tmp 2) 11) 0,
  od 162 (.load 31 (.tmp 161)) 31,
  op 163 (.call ⟨(.builtin .len), #[(.tmp 162)], #[31]⟩) 3,
  op 164 (.binOp .lss 3 (.tmp 160) (.tmp 163) 3) 4]
def F10.r10 : List Oper := [
  ⟨(some 167), (.fieldAddr 39 (.tmp 2) 11), 0, "", #[], none⟩,
  ⟨(some 169), (.move (.tmp 5)), 3, "", #[], none⟩,
  ⟨(some 172), (.fieldAddr 39 (.tmp 3) 11), 0, "", #[], none⟩,
  ⟨(some 174), (.move (.tmp 5)), 3, "", #[], none⟩,
  ⟨(some 168), (.load 31 (.tmp 167)), 31, "", #[⟨0, .data⟩], none⟩,
  ⟨(some 170), (.indexAddr 31 (.tmp 168) (.tmp 169)), 0, "", #[], none⟩,
  ⟨(some 171), (.load 9 (.tmp 170)), 9, "", #[⟨0, .data⟩], none⟩,
  ⟨(some 173), (.load 31 (.tmp 172)), 31, "", #[⟨0, .data⟩], none⟩,
  ⟨(some 175), (.indexAddr 31 (.tmp 173) (.tmp 174)), 0, "", #[], none⟩,
  ⟨(some 176), (.load 9 (.tmp 175)), 9, "", #[⟨0, .data⟩], none⟩,
  ⟨(some 177), (.binOp .neq 9 (.tmp 171) (.tmp 176) 9), 4, "", #[], none⟩]
def F10.r11 : List Oper := [
  op 4 (.assign (.const (.bool false))) 4]
def F10.r9 : List Oper := [
  op 165 (.move (.tmp 5)) 3,
  op 166 (.binOp .add 3 (.tmp 165) (.const (.int .i64 1)) 3) 3,
  op 5 (.assign (.tmp 166)) 3]
def F10.r12 : List Oper := [
  op 6 (.assign (.const (.int .i64 0))) 3]
def F10.r13 : List Oper := [
  op 178 (.move (.tmp 6)) 3,
  op 179 (.fieldAddr 39 (.tmp 2) 12) 0,
  od 180 (.load 32 (.tmp 179)) 32,
  op 181 (.call ⟨(.builtin .len), #[(.tmp 180)], #[32]⟩) 3,
  op 182 (.binOp .lss 3 (.tmp 178) (.tmp 181) 3) 4]
def F10.r15 : List Oper := [
  ⟨(some 185), (.fieldAddr 39 (.tmp 2) 12), 0, "", #[], none⟩,
  ⟨(some 187), (.move (.tmp 6)), 3, "", #[], none⟩,
  ⟨(some 190), (.fieldAddr 39 (.tmp 3) 12), 0, "", #[], none⟩,
  ⟨(some 192), (.move (.tmp 6)), 3, "", #[], none⟩,
  ⟨(some 186), (.load 32 (.tmp 185)), 32, "", #[⟨0, .data⟩], none⟩,
  ⟨(some 188), (.indexAddr 32 (.tmp 186) (.tmp 187)), 0, "", #[], none⟩,
  ⟨(some 189), (.load 35 (.tmp 188)), 35, "", #[⟨0, .data⟩], none⟩,
  ⟨(some 191), (.load 32 (.tmp 190)), 32, "", #[⟨0, .data⟩], none⟩,
  ⟨(some 193), (.indexAddr 32 (.tmp 191) (.tmp 192)), 0, "", #[], none⟩,
  ⟨(some 194), (.load 35 (.tmp 193)), 35, "", #[⟨0, .data⟩], none⟩,
  ⟨(some 195), (.binOp .neq 35 (.tmp 189) (.tmp 194) 35), 4, "", #[], none⟩]
def F10.r16 : List Oper := [
  op 4 (.assign (.const (.bool false))) 4]
def F10.r14 : List Oper := [
  op 183 (.move (.tmp 6)) 3,
  op 184 (.binOp .add 3 (.tmp 183) (.const (.int .i64 1)) 3) 3,
  op 6 (.assign (.tmp 184)) 3]
def F10.r17 : List Oper := [
  op 4 (.assign (.const (.bool true))) 4]
def F10.t9 : Cd := (.region 9 F10.r9.toArray false)
theorem F10.t9_eq {θ : Tag (F10.t9, Q, e, w)} : cwE P F10.t9 Q e w θ = cwE P (.region 9 F10.r9.toArray false) Q e w := rfl
def F10.t10 : Cd := (.seq (.block 1 (.seq (.region 10 F10.r10.toArray true) (.cond (.tmp 177) (.seq (.region 11 F10.r11.toArray false) .ret) .skip))) F10.t9)
theorem F10.t10_eq {θ : Tag (F10.t10, Q, e, w)} : cwE P F10.t10 Q e w θ = cwE P (.seq (.block 1 (.seq (.region 10 F10.r10.toArray true) (.cond (.tmp 177) (.seq (.region 11 F10.r11.toArray false) .ret) .skip))) F10.t9) Q e w := rfl
def F10.t14 : Cd := (.region 14 F10.r14.toArray false)
theorem F10.t14_eq {θ : Tag (F10.t14, Q, e, w)} : cwE P F10.t14 Q e w θ = cwE P (.region 14 F10.r14.toArray false) Q e w := rfl
def F10.t15 : Cd := (.seq (.block 3 (.seq (.region 15 F10.r15.toArray true) (.cond (.tmp 195) (.seq (.region 16 F10.r16.toArray false) .ret) .skip))) F10.t14)
theorem F10.t15_eq {θ : Tag (F10.t15, Q, e, w)} : cwE P F10.t15 Q e w θ = cwE P (.seq (.block 3 (.seq (.region 15 F10.r15.toArray true) (.cond (.tmp 195) (.seq (.region 16 F10.r16.toArray false) .ret) .skip))) F10.t14) Q e w := rfl
def F10.t17 : Cd := (.seq (.region 17 F10.r17.toArray false) .ret)
theorem F10.t17_eq {θ : Tag (F10.t17, Q, e, w)} : cwE P F10.t17 Q e w θ = cwE P (.seq (.region 17 F10.r17.toArray false) .ret) Q e w := rfl
def F10.t12 : Cd := (.seq (.seq (.region 12 F10.r12.toArray false) (.block 2 (.loop (.seq (.seq (.region 13 F10.r13.toArray false) (.cond (.tmp 182) .skip (.exit 2))) F10.t15)))) F10.t17)
theorem F10.t12_eq {θ : Tag (F10.t12, Q, e, w)} : cwE P F10.t12 Q e w θ = cwE P (.seq (.seq (.region 12 F10.r12.toArray false) (.block 2 (.loop (.seq (.seq (.region 13 F10.r13.toArray false) (.cond (.tmp 182) .skip (.exit 2))) F10.t15)))) F10.t17) Q e w := rfl
def F10.t7 : Cd := (.seq (.seq (.region 7 F10.r7.toArray false) (.block 0 (.loop (.seq (.seq (.region 8 F10.r8.toArray false) (.cond (.tmp 164) .skip (.exit 0))) F10.t10)))) F10.t12)
theorem F10.t7_eq {θ : Tag (F10.t7, Q, e, w)} : cwE P F10.t7 Q e w θ = cwE P (.seq (.seq (.region 7 F10.r7.toArray false) (.block 0 (.loop (.seq (.seq (.region 8 F10.r8.toArray false) (.cond (.tmp 164) .skip (.exit 0))) F10.t10)))) F10.t12) Q e w := rfl
def F10.t5 : Cd := (.seq (.seq (.region 5 F10.r5.toArray false) (.cond (.tmp 159) (.seq (.region 6 F10.r6.toArray false) .ret) .skip)) F10.t7)
theorem F10.t5_eq {θ : Tag (F10.t5, Q, e, w)} : cwE P F10.t5 Q e w θ = cwE P (.seq (.seq (.region 5 F10.r5.toArray false) (.cond (.tmp 159) (.seq (.region 6 F10.r6.toArray false) .ret) .skip)) F10.t7) Q e w := rfl
def F10.t3 : Cd := (.seq (.seq (.region 3 F10.r3.toArray false) (.cond (.tmp 135) (.seq (.region 4 F10.r4.toArray false) .ret) .skip)) F10.t5)
theorem F10.t3_eq {θ : Tag (F10.t3, Q, e, w)} : cwE P F10.t3 Q e w θ = cwE P (.seq (.seq (.region 3 F10.r3.toArray false) (.cond (.tmp 135) (.seq (.region 4 F10.r4.toArray false) .ret) .skip)) F10.t5) Q e w := rfl
def F10.code : Cd := (.seq (.region 0 F10.r0.toArray false) (.seq (.seq (.region 1 F10.r1.toArray false) (.cond (.tmp 67) (.seq (.region 2 F10.r2.toArray false) .ret) .skip)) F10.t3))
theorem F10.calls (hn : args.size ≤ 196) (h : cwE Tryz.prog F10.code (fnP Tryz.prog #[(.tmp 4)] R) (entry args) w) : Calls Tryz.prog 10 args w R :=
  calls_of_cwE (types := Tryz.prog.types) follows Tryz.func10 F10.code rfl (by kernel_rfl) hn h

def F11.r0 : List Oper := [
  op 2 (.assign (.const (.bool false))) 4]
def F11.r1 : List Oper := [
  ⟨(some 3), (.move (.tmp 0)), 25, "", #[], none⟩,
  ⟨(some 4), (.nilCheck (.tmp 3)), 0, "", #[], none⟩,
  ⟨(some 5), (.fieldAddr 57 (.tmp 4) 6), 0, "", #[], none⟩,
  ⟨(some 6), (.load 4 (.tmp 5)), 4, "", #[⟨1048576, .data⟩], none⟩,
  ⟨(some 7), (.unOp .not 4 (.tmp 6)), 4, "", #[], none⟩,
  ⟨(some 8), (.move (.tmp 7)), 4, "", #[], none⟩,
  ⟨(some 9), (.move (.tmp 0)), 25, "", #[], (some (8, true))⟩,
  ⟨(some 10), (.nilCheck (.tmp 9)), 0, "", #[], (some (8, true))⟩,
  ⟨(some 11), (.fieldAddr 57 (.tmp 10) 2), 0, "", #[], (some (8, true))⟩,
  ⟨(some 12), (.load 3 (.tmp 11)), 3, "", #[⟨1048576, .data⟩], (some (8, true))⟩,
  ⟨(some 13), (.binOp .eql 3 (.tmp 12) (.const (.int .i64 4)) 3), 4, "", #[], (some (8, true))⟩,
  ⟨(some 14), (.pick (.tmp 8) (.tmp 13) (.const (.bool false))), 4, "", #[], none⟩,
  ⟨(some 15), (.move (.tmp 14)), 4, "", #[], none⟩,
  ⟨(some 16), (.move (.tmp 0)), 25, "", #[], (some (15, true))⟩,
  ⟨(some 17), (.nilCheck (.tmp 16)), 0, "", #[], (some (15, true))⟩,
  ⟨(some 18), (.fieldAddr 57 (.tmp 17) 3), 0, "", #[], (some (15, true))⟩,
  ⟨(some 22), (.move (.tmp 0)), 25, "", #[], (some (15, true))⟩,
  ⟨(some 19), (.load 28 (.tmp 18)), 28, "", #[⟨0, .data⟩], (some (15, true))⟩,
  ⟨(some 20), (.call ⟨(.builtin .len), #[(.tmp 19)], #[28]⟩), 3, "", #[], (some (15, true))⟩,
  ⟨(some 21), (.binOp .add 3 (.const (.int .i64 4)) (.tmp 20) 3), 3, "", #[], (some (15, true))⟩,
  ⟨(some 23), (.call ⟨(.value (.func 25)), #[(.tmp 22)], #[25]⟩), 27, "", #[⟨20, .chain⟩], (some (15, true))⟩,
  ⟨(some 24), (.convert 27 3 (.tmp 23)), 3, "", #[], (some (15, true))⟩,
  ⟨(some 25), (.binOp .eql 3 (.tmp 21) (.tmp 24) 3), 4, "", #[], (some (15, true))⟩,
  ⟨(some 26), (.pick (.tmp 15) (.tmp 25) (.const (.bool false))), 4, "", #[], none⟩,
  ⟨(some 2), (.assign (.tmp 26)), 4, "", #[], none⟩]
def F11.code : Cd := (.seq (.region 0 F11.r0.toArray false) (.seq (.region 1 F11.r1.toArray true) .ret))
theorem F11.calls (hn : args.size ≤ 27) (h : cwE Tryz.prog F11.code (fnP Tryz.prog #[(.tmp 2)] R) (entry args) w) : Calls Tryz.prog 11 args w R :=
  calls_of_cwE (types := Tryz.prog.types) follows Tryz.func11 F11.code rfl (by kernel_rfl) hn h

def F12.r0 : List Oper := [
  op 4 (.assign (.const (.int .i64 0))) 3]
def F12.r1 : List Oper := [
  op 5 (.assign (.const (.int .i64 0))) 3]
def F12.r2 : List Oper := [
  op 7 (.move (.tmp 5)) 3,
  op 8 (.move (.tmp 1)) 28,
  op 9 (.call ⟨(.builtin .len), #[(.tmp 8)], #[28]⟩) 3,
  op 10 (.binOp .lss 3 (.tmp 7) (.tmp 9) 3) 4,
  op 11 (.move (.tmp 10)) 4,
  ⟨(some 12), (.move (.tmp 0)), 25, "", #[], (some (11, true))⟩,
  ⟨(some 13), (.nilCheck (.tmp 12)), 0, "", #[], (some (11, true))⟩,
  ⟨(some 14), (.fieldAddr 57 (.tmp 13) 2), 0, "", #[], (some (11, true))⟩,
  ⟨(some 15), (.load 3 (.tmp 14)), 3, "", #[⟨0, .data⟩], (some (11, true))⟩,
  ⟨(some 16), (.binOp .lss 3 (.tmp 15) (.const (.int .i64 4)) 3), 4, "", #[], (some (11, true))⟩,
  op 17 (.pick (.tmp 11) (.tmp 16) (.const (.bool false))) 4,
  op 18 (.move (.tmp 17)) 4,
  ⟨(some 19), (.move (.tmp 0)), 25, "", #[], (some (18, true))⟩,
  ⟨(some 20), (.nilCheck (.tmp 19)), 0, "", #[], (some (18, true))⟩,
  ⟨(some 21), (.fieldAddr 57 (.tmp 20) 6), 0, "", #[], (some (18, true))⟩,
  ⟨(some 22), (.load 4 (.tmp 21)), 4, "", #[⟨0, .data⟩], (some (18, true))⟩,
  ⟨(some 23), (.unOp .not 4 (.tmp 22)), 4, "", #[], (some (18, true))⟩,
  op 24 (.pick (.tmp 18) (.tmp 23) (.const (.bool false))) 4]
def F12.r3 : List Oper := [
  ⟨(some 25), (.move (.tmp 0)), 25, "", #[], none⟩,
  ⟨(some 26), (.move (.tmp 0)), 25, "", #[], none⟩,
  ⟨(some 27), (.nilCheck (.tmp 26)), 0, "", #[], none⟩,
  ⟨(some 28), (.fieldAddr 57 (.tmp 27) 2), 0, "", #[], none⟩,
  ⟨(some 30), (.move (.tmp 1)), 28, "", #[], none⟩,
  ⟨(some 31), (.move (.tmp 5)), 3, "", #[], none⟩,
  ⟨(some 32), (.indexAddr 28 (.tmp 30) (.tmp 31)), 0, "", #[], none⟩,
  ⟨(some 34), (.nilCheck (.tmp 25)), 0, "", #[], none⟩,
  ⟨(some 35), (.fieldAddr 57 (.tmp 34) 1), 0, "", #[], none⟩,
  ⟨(some 29), (.load 3 (.tmp 28)), 3, "", #[⟨4096, .data⟩], none⟩,
  ⟨(some 33), (.load 5 (.tmp 32)), 5, "", #[⟨4096, .data⟩], none⟩,
  ⟨(some 36), (.indexAddr 55 (.tmp 35) (.tmp 29)), 0, "", #[], none⟩,
  ⟨none, (.store 5 (.tmp 36) (.tmp 33)), 0, "", #[⟨12, .chain⟩], none⟩]
def F12.r4 : List Oper := [
  op 37 (.move (.tmp 0)) 25,
  op 38 (.nilCheck (.tmp 37)) 0,
  op 39 (.fieldAddr 57 (.tmp 38) 2) 0,
  od 40 (.load 3 (.tmp 39)) 3,
  op 41 (.binOp .add 3 (.tmp 40) (.const (.int .i64 1)) 3) 3,
  op 42 (.nilCheck (.tmp 37)) 0,
  op 43 (.fieldAddr 57 (.tmp 42) 2) 0,
  ⟨none, (.store 3 (.tmp 43) (.tmp 41)), 0, "", #[⟨0, .chain⟩], none⟩]
def F12.r5 : List Oper := [
  op 44 (.move (.tmp 5)) 3,
  op 45 (.binOp .add 3 (.tmp 44) (.const (.int .i64 1)) 3) 3,
  op 5 (.assign (.tmp 45)) 3]
def F12.r6 : List Oper := [
  ⟨(some 46), (.move (.tmp 0)), 25, "", #[], none⟩,
  ⟨(some 47), (.nilCheck (.tmp 46)), 0, "", #[], none⟩,
  ⟨(some 48), (.fieldAddr 57 (.tmp 47) 2), 0, "", #[], none⟩,
  ⟨(some 49), (.load 3 (.tmp 48)), 3, "", #[⟨2176, .data⟩], none⟩,
  ⟨(some 50), (.binOp .eql 3 (.tmp 49) (.const (.int .i64 4)) 3), 4, "", #[], none⟩,
  ⟨(some 51), (.move (.tmp 50)), 4, "", #[], none⟩,
  ⟨(some 52), (.move (.tmp 0)), 25, "", #[], (some (51, true))⟩,
  ⟨(some 53), (.call ⟨(.value (.func 25)), #[(.tmp 52)], #[25]⟩), 27, "", #[⟨7, .chain⟩], (some (51, true))⟩,
  ⟨(some 54), (.binOp .lss 27 (.tmp 53) (.const (.int .u32 7)) 27), 4, "", #[], (some (51, true))⟩,
  ⟨(some 55), (.move (.tmp 54)), 4, "", #[], (some (51, true))⟩,
  ⟨(some 56), (.move (.tmp 0)), 25, "", #[], (some (55, false))⟩,
  ⟨(some 58), (.move (.tmp 0)), 25, "", #[], (some (55, false))⟩,
  ⟨(some 59), (.nilCheck (.tmp 58)), 0, "", #[], (some (55, false))⟩,
  ⟨(some 60), (.fieldAddr 57 (.tmp 59) 0), 0, "", #[], (some (55, false))⟩,
  ⟨(some 61), (.load 27 (.tmp 60)), 27, "", #[⟨0, .data⟩], (some (55, false))⟩,
  ⟨(some 57), (.call ⟨(.value (.func 25)), #[(.tmp 56)], #[25]⟩), 27, "", #[⟨11, .chain⟩], (some (55, false))⟩,
  ⟨(some 62), (.binOp .gtr 27 (.tmp 57) (.tmp 61) 27), 4, "", #[], (some (55, false))⟩,
  ⟨(some 63), (.pick (.tmp 55) (.const (.bool true)) (.tmp 62)), 4, "", #[], (some (51, true))⟩,
  ⟨(some 64), (.pick (.tmp 51) (.tmp 63) (.const (.bool false))), 4, "", #[], none⟩]
def F12.r7 : List Oper := [
  op 65 (.move (.tmp 0)) 25,
  op 66 (.nilCheck (.tmp 65)) 0,
  op 67 (.fieldAddr 57 (.tmp 66) 6) 0,
  ⟨none, (.store 4 (.tmp 67) (.const (.bool true))), 0, "", #[⟨0, .chain⟩], none⟩]
def F12.r8 : List Oper := [
  op 68 (.move (.tmp 0)) 25,
  op 69 (.move (.tmp 0)) 25,
  op 70 (.nilCheck (.tmp 69)) 0,
  op 71 (.fieldAddr 57 (.tmp 70) 4) 0,
  od 72 (.load 3 (.tmp 71)) 3,
  op 73 (.move (.tmp 5)) 3,
  op 74 (.binOp .add 3 (.tmp 72) (.tmp 73) 3) 3,
  op 75 (.binOp .sub 3 (.tmp 74) (.const (.int .i64 4)) 3) 3,
  op 76 (.nilCheck (.tmp 68)) 0,
  op 77 (.fieldAddr 57 (.tmp 76) 7) 0,
  ⟨none, (.store 3 (.tmp 77) (.tmp 75)), 0, "", #[⟨0, .chain⟩], none⟩]
def F12.r9 : List Oper := [
  op 78 (.move (.tmp 0)) 25,
  op 79 (.nilCheck (.tmp 78)) 0,
  op 80 (.fieldAddr 57 (.tmp 79) 6) 0,
  od 81 (.load 4 (.tmp 80)) 4,
  op 82 (.unOp .not 4 (.tmp 81)) 4,
  op 83 (.move (.tmp 82)) 4,
  ⟨(some 84), (.move (.tmp 0)), 25, "", #[], (some (83, true))⟩,
  ⟨(some 85), (.nilCheck (.tmp 84)), 0, "", #[], (some (83, true))⟩,
  ⟨(some 86), (.fieldAddr 57 (.tmp 85) 2), 0, "", #[], (some (83, true))⟩,
  ⟨(some 87), (.load 3 (.tmp 86)), 3, "", #[⟨0, .data⟩], (some (83, true))⟩,
  ⟨(some 88), (.binOp .eql 3 (.tmp 87) (.const (.int .i64 4)) 3), 4, "", #[], (some (83, true))⟩,
  op 89 (.pick (.tmp 83) (.tmp 88) (.const (.bool false))) 4]
def F12.r10 : List Oper := [
  ⟨(some 90), (.move (.tmp 1)), 28, "", #[], none⟩,
  ⟨(some 91), (.call ⟨(.builtin .len), #[(.tmp 90)], #[28]⟩), 3, "", #[], none⟩,
  ⟨(some 92), (.move (.tmp 5)), 3, "", #[], none⟩,
  ⟨(some 93), (.binOp .sub 3 (.tmp 91) (.tmp 92) 3), 3, "", #[], none⟩,
  ⟨(some 94), (.move (.tmp 0)), 25, "", #[], none⟩,
  ⟨(some 98), (.move (.tmp 0)), 25, "", #[], none⟩,
  ⟨(some 99), (.nilCheck (.tmp 98)), 0, "", #[], none⟩,
  ⟨(some 100), (.fieldAddr 57 (.tmp 99) 3), 0, "", #[], none⟩,
  ⟨(some 101), (.load 28 (.tmp 100)), 28, "", #[⟨0, .data⟩], none⟩,
  ⟨(some 102), (.call ⟨(.builtin .len), #[(.tmp 101)], #[28]⟩), 3, "", #[], none⟩,
  ⟨(some 95), (.call ⟨(.value (.func 25)), #[(.tmp 94)], #[25]⟩), 27, "", #[⟨5, .chain⟩], none⟩,
  ⟨(some 96), (.convert 27 3 (.tmp 95)), 3, "", #[], none⟩,
  ⟨(some 97), (.binOp .sub 3 (.tmp 96) (.const (.int .i64 4)) 3), 3, "", #[], none⟩,
  ⟨(some 103), (.binOp .sub 3 (.tmp 97) (.tmp 102) 3), 3, "", #[], none⟩,
  ⟨(some 104), (.call ⟨(.builtin .min), #[(.tmp 93), (.tmp 103)], #[3, 3]⟩), 3, "", #[], none⟩,
  ⟨(some 6), (.assign (.tmp 104)), 3, "", #[], none⟩]
def F12.r11 : List Oper := [
  ⟨(some 105), (.move (.tmp 0)), 25, "", #[], none⟩,
  ⟨(some 106), (.move (.tmp 0)), 25, "", #[], none⟩,
  ⟨(some 107), (.nilCheck (.tmp 106)), 0, "", #[], none⟩,
  ⟨(some 108), (.fieldAddr 57 (.tmp 107) 3), 0, "", #[], none⟩,
  ⟨(some 110), (.move (.tmp 1)), 28, "", #[], none⟩,
  ⟨(some 111), (.move (.tmp 5)), 3, "", #[], none⟩,
  ⟨(some 112), (.move (.tmp 5)), 3, "", #[], none⟩,
  ⟨(some 113), (.move (.tmp 6)), 3, "", #[], none⟩,
  ⟨(some 114), (.binOp .add 3 (.tmp 112) (.tmp 113) 3), 3, "", #[], none⟩,
  ⟨(some 115), (.slice 28 (.tmp 110) (some (.tmp 111)) (some (.tmp 114)) none), 28, "", #[], none⟩,
  ⟨(some 109), (.load 28 (.tmp 108)), 28, "", #[⟨18432, .data⟩], none⟩,
  ⟨(some 116), (.call ⟨(.builtin .append), #[(.tmp 109), (.tmp 115)], #[28, 28]⟩), 28, "", #[⟨11, .chain⟩], none⟩,
  ⟨(some 117), (.nilCheck (.tmp 105)), 0, "", #[], none⟩,
  ⟨(some 118), (.fieldAddr 57 (.tmp 117) 3), 0, "", #[], none⟩,
  ⟨none, (.store 28 (.tmp 118) (.tmp 116)), 0, "", #[⟨14, .chain⟩], none⟩]
def F12.r12 : List Oper := [
  op 119 (.move (.tmp 5)) 3,
  op 120 (.move (.tmp 6)) 3,
  op 121 (.binOp .add 3 (.tmp 119) (.tmp 120) 3) 3,
  op 5 (.assign (.tmp 121)) 3]
def F12.r13 : List Oper := [
  op 122 (.move (.tmp 0)) 25,
  op 123 (.nilCheck (.tmp 122)) 0,
  op 124 (.fieldAddr 57 (.tmp 123) 4) 0,
  od 125 (.load 3 (.tmp 124)) 3,
  op 126 (.move (.tmp 5)) 3,
  op 127 (.binOp .add 3 (.tmp 125) (.tmp 126) 3) 3,
  op 128 (.nilCheck (.tmp 122)) 0,
  op 129 (.fieldAddr 57 (.tmp 128) 4) 0,
  ⟨none, (.store 3 (.tmp 129) (.tmp 127)), 0, "", #[⟨0, .chain⟩], none⟩]
def F12.r14 : List Oper := [
  op 130 (.move (.tmp 5)) 3,
  op 4 (.assign (.tmp 130)) 3]
def F12.t3 : Cd := (.block 1 (.seq (.region 3 F12.r3.toArray true) (.seq (.region 4 F12.r4.toArray false) (.seq (.region 5 F12.r5.toArray false) (.seq (.region 6 F12.r6.toArray true) (.cond (.tmp 64) (.seq (.region 7 F12.r7.toArray false) (.region 8 F12.r8.toArray false)) .skip))))))
theorem F12.t3_eq {θ : Tag (F12.t3, Q, e, w)} : cwE P F12.t3 Q e w θ = cwE P (.block 1 (.seq (.region 3 F12.r3.toArray true) (.seq (.region 4 F12.r4.toArray false) (.seq (.region 5 F12.r5.toArray false) (.seq (.region 6 F12.r6.toArray true) (.cond (.tmp 64) (.seq (.region 7 F12.r7.toArray false) (.region 8 F12.r8.toArray false)) .skip)))))) Q e w := rfl
def F12.t13 : Cd := (.seq (.region 13 F12.r13.toArray false) (.seq (.region 14 F12.r14.toArray false) .ret))
theorem F12.t13_eq {θ : Tag (F12.t13, Q, e, w)} : cwE P F12.t13 Q e w θ = cwE P (.seq (.region 13 F12.r13.toArray false) (.seq (.region 14 F12.r14.toArray false) .ret)) Q e w := rfl
def F12.t9 : Cd := (.seq (.seq (.region 9 F12.r9.toArray false) (.cond (.tmp 89) (.seq (.region 10 F12.r10.toArray true) (.seq (.region 11 F12.r11.toArray true) (.region 12 F12.r12.toArray false))) .skip)) F12.t13)
theorem F12.t9_eq {θ : Tag (F12.t9, Q, e, w)} : cwE P F12.t9 Q e w θ = cwE P (.seq (.seq (.region 9 F12.r9.toArray false) (.cond (.tmp 89) (.seq (.region 10 F12.r10.toArray true) (.seq (.region 11 F12.r11.toArray true) (.region 12 F12.r12.toArray false))) .skip)) F12.t13) Q e w := rfl
def F12.code : Cd := (.seq (.region 0 F12.r0.toArray false) (.seq (.region 1 F12.r1.toArray false) (.seq (.block 0 (.loop (.seq (.seq (.region 2 F12.r2.toArray false) (.cond (.tmp 24) .skip (.exit 0))) F12.t3))) F12.t9)))
theorem F12.calls (hn : args.size ≤ 131) (h : cwE Tryz.prog F12.code (fnP Tryz.prog #[(.tmp 4)] R) (entry args) w) : Calls Tryz.prog 12 args w R :=
  calls_of_cwE (types := Tryz.prog.types) follows Tryz.func12 F12.code rfl (by kernel_rfl) hn h

def F13.r0 : List Oper := [
  op 2 (.assign (.const (.slice none 0 0))) 28,
  op 3 (.assign (.const (.bool false))) 4]
def F13.r1 : List Oper := [
  op 5 (.move (.tmp 0)) 25,
  oc 6 (.call ⟨(.value (.func 11)), #[(.tmp 5)], #[25]⟩) 4,
  op 7 (.unOp .not 4 (.tmp 6)) 4]
def F13.r2 : List Oper := [
  op 2 (.assign (.const (.slice none 0 0))) 28,
  op 3 (.assign (.const (.bool false))) 4]
def F13.r3 : List Oper := [
  ⟨(some 8), (.move (.tmp 0)), 25, "", #[], none⟩,
  ⟨(some 9), (.nilCheck (.tmp 8)), 0, "", #[], none⟩,
  ⟨(some 10), (.fieldAddr 57 (.tmp 9) 1), 0, "", #[], none⟩,
  ⟨(some 11), (.slice 55 (.tmp 10) none none none), 28, "", #[], none⟩,
  ⟨(some 13), (.move (.tmp 0)), 25, "", #[], none⟩,
  ⟨(some 14), (.nilCheck (.tmp 13)), 0, "", #[], none⟩,
  ⟨(some 15), (.fieldAddr 57 (.tmp 14) 3), 0, "", #[], none⟩,
  ⟨(some 16), (.load 28 (.tmp 15)), 28, "", #[⟨512, .data⟩], none⟩,
  ⟨(some 12), (.call ⟨(.builtin .append), #[(.const (.slice none 0 0)), (.tmp 11)], #[28, 28]⟩), 28, "", #[⟨4, .chain⟩], none⟩,
  ⟨(some 17), (.call ⟨(.builtin .append), #[(.tmp 12), (.tmp 16)], #[28, 28]⟩), 28, "", #[⟨9, .chain⟩], none⟩,
  ⟨(some 4), (.assign (.tmp 17)), 28, "", #[], none⟩]
def F13.r4 : List Oper := [
  op 18 (.move (.tmp 0)) 25,
  op 19 (.move (.tmp 0)) 25,
  op 20 (.nilCheck (.tmp 18)) 0,
  op 21 (.fieldAddr 57 (.tmp 20) 2) 0,
  ⟨none, (.store 3 (.tmp 21) (.const (.int .i64 0))), 0, "", #[⟨0, .chain⟩], none⟩,
  op 22 (.nilCheck (.tmp 19)) 0,
  op 23 (.fieldAddr 57 (.tmp 22) 3) 0,
  ⟨none, (.store 28 (.tmp 23) (.const (.slice none 0 0))), 0, "", #[⟨0, .chain⟩], none⟩]
def F13.r5 : List Oper := [
  op 24 (.move (.tmp 0)) 25,
  op 25 (.nilCheck (.tmp 24)) 0,
  op 26 (.fieldAddr 57 (.tmp 25) 5) 0,
  od 27 (.load 3 (.tmp 26)) 3,
  op 28 (.binOp .add 3 (.tmp 27) (.const (.int .i64 1)) 3) 3,
  op 29 (.nilCheck (.tmp 24)) 0,
  op 30 (.fieldAddr 57 (.tmp 29) 5) 0,
  ⟨none, (.store 3 (.tmp 30) (.tmp 28)), 0, "", #[⟨0, .chain⟩], none⟩]
def F13.r6 : List Oper := [
  op 31 (.move (.tmp 4)) 28,
  op 2 (.assign (.tmp 31)) 28,
  op 3 (.assign (.const (.bool true))) 4]
def F13.t3 : Cd := (.seq (.region 3 F13.r3.toArray true) (.seq (.region 4 F13.r4.toArray false) (.seq (.region 5 F13.r5.toArray false) (.seq (.region 6 F13.r6.toArray false) .ret))))
theorem F13.t3_eq {θ : Tag (F13.t3, Q, e, w)} : cwE P F13.t3 Q e w θ = cwE P (.seq (.region 3 F13.r3.toArray true) (.seq (.region 4 F13.r4.toArray false) (.seq (.region 5 F13.r5.toArray false) (.seq (.region 6 F13.r6.toArray false) .ret)))) Q e w := rfl
def F13.code : Cd := (.seq (.region 0 F13.r0.toArray false) (.seq (.seq (.region 1 F13.r1.toArray false) (.cond (.tmp 7) (.seq (.region 2 F13.r2.toArray false) .ret) .skip)) F13.t3))
theorem F13.calls (hn : args.size ≤ 32) (h : cwE Tryz.prog F13.code (fnP Tryz.prog #[(.tmp 2), (.tmp 3)] R) (entry args) w) : Calls Tryz.prog 13 args w R :=
  calls_of_cwE (types := Tryz.prog.types) follows Tryz.func13 F13.code rfl (by kernel_rfl) hn h

def F14.r0 : List Oper := [
  oc 2 (.alloc 39) 0,
  op 3 (.assign (.const (.int .i64 0))) 41]
def F14.r1 : List Oper := [
  op 13 (.move (.tmp 0)) 28,
  op 14 (.call ⟨(.builtin .len), #[(.tmp 13)], #[28]⟩) 3,
  op 15 (.binOp .lss 3 (.tmp 14) (.const (.int .i64 7)) 3) 4,
  op 16 (.move (.tmp 15)) 4,
  ⟨(some 17), (.move (.tmp 0)), 28, "", #[], (some (16, false))⟩,
  ⟨(some 18), (.call ⟨(.builtin .len), #[(.tmp 17)], #[28]⟩), 3, "", #[], (some (16, false))⟩,
  ⟨(some 19), (.binOp .gtr 3 (.tmp 18) (.const (.int .i64 65536)) 3), 4, "", #[], (some (16, false))⟩,
  op 20 (.pick (.tmp 16) (.const (.bool true)) (.tmp 19)) 4]
def F14.r2 : List Oper := [
  op 21 (.build 39 #[]) 39,
  ⟨none, (.store 39 (.tmp 2) (.tmp 21)), 0, "", #[⟨0, .chain⟩], none⟩,
  op 3 (.assign (.const (.int .i64 31))) 41]
def F14.r3 : List Oper := [
  op 22 (.move (.tmp 0)) 28,
  oc 23 (.call ⟨(.value (.func 26)), #[(.tmp 22)], #[28]⟩) 83,
  op 4 (.assign (.tmp 23)) 83]
def F14.r4 : List Oper := [
  op 24 (.move (.tmp 4)) 83,
  oc 25 (.call ⟨(.value (.func 27)), #[(.tmp 24)], #[83]⟩) 27,
  op 26 (.convert 27 2 (.tmp 25)) 2,
  op 27 (.move (.tmp 0)) 28,
  op 28 (.call ⟨(.builtin .len), #[(.tmp 27)], #[28]⟩) 3,
  op 29 (.binOp .neq 2 (.tmp 26) (.tmp 28) 2) 4]
def F14.r5 : List Oper := [
  op 30 (.build 39 #[]) 39,
  ⟨none, (.store 39 (.tmp 2) (.tmp 30)), 0, "", #[⟨0, .chain⟩], none⟩,
  op 3 (.assign (.const (.int .i64 31))) 41]
def F14.r6 : List Oper := [
  op 31 (.move (.tmp 4)) 83,
  oc 32 (.call ⟨(.value (.func 28)), #[(.tmp 31)], #[83]⟩) 5,
  op 33 (.move (.tmp 4)) 83,
  oc 34 (.call ⟨(.value (.func 29)), #[(.tmp 33)], #[83]⟩) 30,
  op 35 (.build 39 #[(0, (.tmp 32)), (1, (.tmp 34))]) 39,
  oc 5 (.alloc 39) 0,
  ⟨none, (.store 39 (.tmp 5) (.tmp 35)), 0, "", #[⟨0, .chain⟩], none⟩]
def F14.r7 : List Oper := [
  op 37 (.fieldAddr 39 (.tmp 5) 0) 0,
  od 38 (.load 29 (.tmp 37)) 29,
  oc 39 (.call ⟨(.value (.func 17)), #[(.tmp 38)], #[29]⟩) 61,
  op 36 (.move (.tmp 39)) 61,
  op 40 (.extract (.tmp 36) 0) 60,
  op 41 (.extract (.tmp 36) 1) 4,
  oc 6 (.alloc 60) 0,
  ⟨none, (.store 60 (.tmp 6) (.tmp 40)), 0, "", #[⟨0, .chain⟩], none⟩,
  op 7 (.assign (.tmp 41)) 4]
def F14.r8 : List Oper := [
  op 42 (.move (.tmp 7)) 4,
  op 43 (.unOp .not 4 (.tmp 42)) 4]
def F14.r9 : List Oper := [
  od 44 (.load 39 (.tmp 5)) 39,
  ⟨none, (.store 39 (.tmp 2) (.tmp 44)), 0, "", #[⟨0, .chain⟩], none⟩,
  op 3 (.assign (.const (.int .i64 32))) 41]
def F14.r10 : List Oper := [
  od 45 (.load 39 (.tmp 5)) 39,
  oc 8 (.alloc 39) 0,
  ⟨none, (.store 39 (.tmp 8) (.tmp 45)), 0, "", #[⟨0, .chain⟩], none⟩]
def F14.r11 : List Oper := [
  op 46 (.fieldAddr 60 (.tmp 6) 2) 0,
  od 47 (.load 58 (.tmp 46)) 58,
  op 48 (.call ⟨(.builtin .len), #[(.tmp 47)], #[58]⟩) 3,
  op 49 (.move (.const (.int .i64 0))) 3]
def F14.r12 : List Oper := [
  op 50 (.binOp .lss 3 (.tmp 49) (.tmp 48) 3) 0]
def F14.r13 : List Oper := [
  op 51 (.indexAddr 58 (.tmp 47) (.tmp 49)) 0,
  od 52 (.load 63 (.tmp 51)) 63,
  op 10 (.assign (.tmp 52)) 63]
def F14.r14 : List Oper := [
  op 53 (.move (.tmp 10)) 63,
  oc 54 (.call ⟨(.value (.func 18)), #[(.tmp 53)], #[63]⟩) 71,
  op 55 (.field 71 (.tmp 54) 3) 66,
  op 56 (.move (.tmp 4)) 83,
  ⟨(some 57), (.call ⟨(.value (.tmp 55)), #[(.tmp 56), (.tmp 8)], #[83, 73]⟩), 0, "", #[⟨0, .phase⟩], none⟩]
def F14.r15 : List Oper := [
  op 58 (.binOp .add 3 (.tmp 49) (.const (.int .i64 1)) 3) 3,
  op 49 (.move (.tmp 58)) 3]
def F14.r16 : List Oper := [
  op 59 (.move (.tmp 4)) 83,
  oc 60 (.call ⟨(.value (.func 30)), #[(.tmp 59)], #[83]⟩) 0]
def F14.r17 : List Oper := [
  op 62 (.move (.tmp 4)) 83,
  oc 63 (.call ⟨(.value (.func 31)), #[(.tmp 62)], #[83]⟩) 87,
  op 61 (.move (.tmp 63)) 87,
  op 64 (.extract (.tmp 61) 0) 41,
  op 65 (.extract (.tmp 61) 1) 3,
  op 11 (.assign (.tmp 64)) 41,
  op 12 (.assign (.tmp 65)) 3]
def F14.r18 : List Oper := [
  op 66 (.move (.tmp 11)) 41,
  op 67 (.binOp .neq 41 (.tmp 66) (.const (.int .i64 0)) 41) 4]
def F14.r19 : List Oper := [
  od 68 (.load 39 (.tmp 5)) 39,
  ⟨none, (.store 39 (.tmp 2) (.tmp 68)), 0, "", #[⟨0, .chain⟩], none⟩,
  op 3 (.assign (.const (.int .i64 33))) 41]
def F14.r20 : List Oper := [
  od 69 (.load 39 (.tmp 8)) 39,
  ⟨none, (.store 39 (.tmp 2) (.tmp 69)), 0, "", #[⟨0, .chain⟩], none⟩,
  op 3 (.assign (.const (.int .i64 0))) 41]
def F14.t15 : Cd := (.region 15 F14.r15.toArray false)
theorem F14.t15_eq {θ : Tag (F14.t15, Q, e, w)} : cwE P F14.t15 Q e w θ = cwE P (.region 15 F14.r15.toArray false) Q e w := rfl
def F14.t13 : Cd := (.seq (.block 1 (.seq (.region 13 F14.r13.toArray false) (.region 14 F14.r14.toArray false))) F14.t15)
theorem F14.t13_eq {θ : Tag (F14.t13, Q, e, w)} : cwE P F14.t13 Q e w θ = cwE P (.seq (.block 1 (.seq (.region 13 F14.r13.toArray false) (.region 14 F14.r14.toArray false))) F14.t15) Q e w := rfl
def F14.t20 : Cd := (.seq (.region 20 F14.r20.toArray false) .ret)
theorem F14.t20_eq {θ : Tag (F14.t20, Q, e, w)} : cwE P F14.t20 Q e w θ = cwE P (.seq (.region 20 F14.r20.toArray false) .ret) Q e w := rfl
def F14.t16 : Cd := (.seq (.region 16 F14.r16.toArray false) (.seq (.seq (.region 17 F14.r17.toArray false) (.seq (.region 18 F14.r18.toArray false) (.cond (.tmp 67) (.seq (.region 19 F14.r19.toArray false) .ret) .skip))) F14.t20))
theorem F14.t16_eq {θ : Tag (F14.t16, Q, e, w)} : cwE P F14.t16 Q e w θ = cwE P (.seq (.region 16 F14.r16.toArray false) (.seq (.seq (.region 17 F14.r17.toArray false) (.seq (.region 18 F14.r18.toArray false) (.cond (.tmp 67) (.seq (.region 19 F14.r19.toArray false) .ret) .skip))) F14.t20)) Q e w := rfl
def F14.t10 : Cd := (.seq (.region 10 F14.r10.toArray false) (.seq (.seq (.region 11 F14.r11.toArray false) (.block 0 (.loop (.seq (.region 12 F14.r12.toArray false) (.seq (.cond (.tmp 50) .skip (.exit 0)) F14.t13))))) F14.t16))
theorem F14.t10_eq {θ : Tag (F14.t10, Q, e, w)} : cwE P F14.t10 Q e w θ = cwE P (.seq (.region 10 F14.r10.toArray false) (.seq (.seq (.region 11 F14.r11.toArray false) (.block 0 (.loop (.seq (.region 12 F14.r12.toArray false) (.seq (.cond (.tmp 50) .skip (.exit 0)) F14.t13))))) F14.t16)) Q e w := rfl
def F14.t6 : Cd := (.seq (.region 6 F14.r6.toArray false) (.seq (.region 7 F14.r7.toArray false) (.seq (.seq (.region 8 F14.r8.toArray false) (.cond (.tmp 43) (.seq (.region 9 F14.r9.toArray false) .ret) .skip)) F14.t10)))
theorem F14.t6_eq {θ : Tag (F14.t6, Q, e, w)} : cwE P F14.t6 Q e w θ = cwE P (.seq (.region 6 F14.r6.toArray false) (.seq (.region 7 F14.r7.toArray false) (.seq (.seq (.region 8 F14.r8.toArray false) (.cond (.tmp 43) (.seq (.region 9 F14.r9.toArray false) .ret) .skip)) F14.t10))) Q e w := rfl
def F14.t3 : Cd := (.seq (.region 3 F14.r3.toArray false) (.seq (.seq (.region 4 F14.r4.toArray false) (.cond (.tmp 29) (.seq (.region 5 F14.r5.toArray false) .ret) .skip)) F14.t6))
theorem F14.t3_eq {θ : Tag (F14.t3, Q, e, w)} : cwE P F14.t3 Q e w θ = cwE P (.seq (.region 3 F14.r3.toArray false) (.seq (.seq (.region 4 F14.r4.toArray false) (.cond (.tmp 29) (.seq (.region 5 F14.r5.toArray false) .ret) .skip)) F14.t6)) Q e w := rfl
def F14.code : Cd := (.seq (.region 0 F14.r0.toArray false) (.seq (.seq (.region 1 F14.r1.toArray false) (.cond (.tmp 20) (.seq (.region 2 F14.r2.toArray false) .ret) .skip)) F14.t3))
theorem F14.calls (hn : args.size ≤ 70) (h : cwE Tryz.prog F14.code (fnP Tryz.prog #[(.cell 2 39), (.tmp 3)] R) (entry args) w) : Calls Tryz.prog 14 args w R :=
  calls_of_cwE (types := Tryz.prog.types) follows Tryz.func14 F14.code rfl (by kernel_rfl) hn h

def F15.r0 : List Oper := [
  oc 1 (.box 39 (.tmp 0)) 0,
  op 2 (.assign (.const (.int .i64 0))) 3]
def F15.r1 : List Oper := [
  op 5 (.fieldAddr 39 (.tmp 1) 3) 0,
  od 6 (.load 9 (.tmp 5)) 9,
  op 7 (.call ⟨(.builtin .len), #[(.tmp 6)], #[9]⟩) 3,
  op 8 (.binOp .add 3 (.const (.int .i64 1)) (.tmp 7) 3) 3,
  op 9 (.fieldAddr 39 (.tmp 1) 5) 0,
  od 10 (.load 9 (.tmp 9)) 9,
  op 11 (.call ⟨(.builtin .len), #[(.tmp 10)], #[9]⟩) 3,
  op 12 (.binOp .add 3 (.tmp 8) (.tmp 11) 3) 3,
  op 13 (.fieldAddr 39 (.tmp 1) 6) 0,
  od 14 (.load 9 (.tmp 13)) 9,
  op 15 (.call ⟨(.builtin .len), #[(.tmp 14)], #[9]⟩) 3,
  op 16 (.binOp .add 3 (.tmp 12) (.tmp 15) 3) 3,
  op 17 (.fieldAddr 39 (.tmp 1) 7) 0,
  od 18 (.load 9 (.tmp 17)) 9,
  op 19 (.call ⟨(.builtin .len), #[(.tmp 18)], #[9]⟩) 3,
  op 20 (.binOp .add 3 (.tmp 16) (.tmp 19) 3) 3,
  op 21 (.fieldAddr 39 (.tmp 1) 16) 0,
  od 22 (.load 9 (.tmp 21)) 9,
  op 23 (.call ⟨(.builtin .len), #[(.tmp 22)], #[9]⟩) 3,
  op 24 (.binOp .add 3 (.tmp 20) (.tmp 23) 3) 3,
  op 25 (.fieldAddr 39 (.tmp 1) 20) 0,
  od 26 (.load 28 (.tmp 25)) 28,
  op 27 (.call ⟨(.builtin .len), #[(.tmp 26)], #[28]⟩) 3,
  op 28 (.binOp .add 3 (.tmp 24) (.tmp 27) 3) 3,
  op 29 (.fieldAddr 39 (.tmp 1) 12) 0,
  od 30 (.load 32 (.tmp 29)) 32,
  op 31 (.call ⟨(.builtin .len), #[(.tmp 30)], #[32]⟩) 3,
  op 32 (.binOp .mul 3 (.const (.int .i64 13)) (.tmp 31) 3) 3,
  op 33 (.binOp .add 3 (.tmp 28) (.tmp 32) 3) 3,
  op 3 (.assign (.tmp 33)) 3]
def F15.r2 : List Oper := [
  op 34 (.move (.tmp 3)) 3,
  op 35 (.fieldAddr 39 (.tmp 1) 21) 0,
  op 36 (.fieldAddr 37 (.tmp 35) 7) 0,
  od 37 (.load 9 (.tmp 36)) 9,
  op 38 (.call ⟨(.builtin .len), #[(.tmp 37)], #[9]⟩) 3,
  op 39 (.fieldAddr 39 (.tmp 1) 21) 0,
  op 40 (.fieldAddr 37 (.tmp 39) 8) 0,
  od 41 (.load 9 (.tmp 40)) 9,
  op 42 (.call ⟨(.builtin .len), #[(.tmp 41)], #[9]⟩) 3,
  op 43 (.binOp .add 3 (.tmp 38) (.tmp 42) 3) 3,
  op 44 (.fieldAddr 39 (.tmp 1) 21) 0,
  op 45 (.fieldAddr 37 (.tmp 44) 9) 0,
  od 46 (.load 9 (.tmp 45)) 9,
  op 47 (.call ⟨(.builtin .len), #[(.tmp 46)], #[9]⟩) 3,
  op 48 (.binOp .add 3 (.tmp 43) (.tmp 47) 3) 3,
  op 49 (.fieldAddr 39 (.tmp 1) 21) 0,
  op 50 (.fieldAddr 37 (.tmp 49) 10) 0,
  od 51 (.load 9 (.tmp 50)) 9,
  op 52 (.call ⟨(.builtin .len), #[(.tmp 51)], #[9]⟩) 3,
  op 53 (.binOp .add 3 (.tmp 48) (.tmp 52) 3) 3,
  op 54 (.binOp .add 3 (.tmp 34) (.tmp 53) 3) 3,
  op 3 (.assign (.tmp 54)) 3]
def F15.r3 : List Oper := [
  op 4 (.assign (.const (.int .i64 0))) 3]
def F15.r4 : List Oper := [
  op 55 (.move (.tmp 4)) 3,
  op 56 (.fieldAddr 39 (.tmp 1) 11) 0,
  od 57 (.load 31 (.tmp 56)) 31,
  op 58 (.call ⟨(.builtin .len), #[(.tmp 57)], #[31]⟩) 3,
  op 59 (.binOp .lss 3 (.tmp 55) (.tmp 58) 3) 4,
  op 60 (.move (.tmp 59)) 4,
  ⟨(some 61), (.move (.tmp 3)), 3, "", #[], (some (60, true))⟩,
  ⟨(some 62), (.binOp .leq 3 (.tmp 61) (.const (.int .i64 2147483647)) 3), 4, "", #[], (some (60, true))⟩,
  op 63 (.pick (.tmp 60) (.tmp 62) (.const (.bool false))) 4]
def F15.r6 : List Oper := [
  op 66 (.move (.tmp 3)) 3,
  op 67 (.fieldAddr 39 (.tmp 1) 11) 0,
  od 68 (.load 31 (.tmp 67)) 31,
  op 69 (.move (.tmp 4)) 3,
  op 70 (.indexAddr 31 (.tmp 68) (.tmp 69)) 0,
  od 71 (.load 9 (.tmp 70)) 9,
  op 72 (.call ⟨(.builtin .len), #[(.tmp 71)], #[9]⟩) 3,
  op 73 (.binOp .add 3 (.const (.int .i64 2)) (.tmp 72) 3) 3,
  op 74 (.binOp .add 3 (.tmp 66) (.tmp 73) 3) 3,
  op 3 (.assign (.tmp 74)) 3]
def F15.r5 : List Oper := [
  op 64 (.move (.tmp 4)) 3,
  op 65 (.binOp .add 3 (.tmp 64) (.const (.int .i64 1)) 3) 3,
  op 4 (.assign (.tmp 65)) 3]
def F15.r7 : List Oper := [
  op 75 (.move (.tmp 3)) 3,
  op 2 (.assign (.tmp 75)) 3]
def F15.t5 : Cd := (.region 5 F15.r5.toArray false)
theorem F15.t5_eq {θ : Tag (F15.t5, Q, e, w)} : cwE P F15.t5 Q e w θ = cwE P (.region 5 F15.r5.toArray false) Q e w := rfl
def F15.t6 : Cd := (.seq (.block 1 (.region 6 F15.r6.toArray false)) F15.t5)
theorem F15.t6_eq {θ : Tag (F15.t6, Q, e, w)} : cwE P F15.t6 Q e w θ = cwE P (.seq (.block 1 (.region 6 F15.r6.toArray false)) F15.t5) Q e w := rfl
def F15.t7 : Cd := (.seq (.region 7 F15.r7.toArray false) .ret)
theorem F15.t7_eq {θ : Tag (F15.t7, Q, e, w)} : cwE P F15.t7 Q e w θ = cwE P (.seq (.region 7 F15.r7.toArray false) .ret) Q e w := rfl
def F15.code : Cd := (.seq (.region 0 F15.r0.toArray false) (.seq (.region 1 F15.r1.toArray false) (.seq (.region 2 F15.r2.toArray false) (.seq (.seq (.region 3 F15.r3.toArray false) (.block 0 (.loop (.seq (.seq (.region 4 F15.r4.toArray false) (.cond (.tmp 63) .skip (.exit 0))) F15.t6)))) F15.t7))))
theorem F15.calls (hn : args.size ≤ 76) (h : cwE Tryz.prog F15.code (fnP Tryz.prog #[(.tmp 2)] R) (entry args) w) : Calls Tryz.prog 15 args w R :=
  calls_of_cwE (types := Tryz.prog.types) follows Tryz.func15 F15.code rfl (by kernel_rfl) hn h

def F16.r0 : List Oper := [
  op 2 (.assign (.const (.bool false))) 4]
def F16.r1 : List Oper := [
  op 3 (.move (.tmp 0)) 27,
  op 4 (.binOp .geq 27 (.tmp 3) (.const (.int .u32 7)) 27) 4,
  op 5 (.move (.tmp 4)) 4,
  ⟨(some 6), (.move (.tmp 0)), 27, "", #[], (some (5, true))⟩,
  ⟨(some 7), (.binOp .leq 27 (.tmp 6) (.const (.int .u32 65536)) 27), 4, "", #[], (some (5, true))⟩,
  op 8 (.pick (.tmp 5) (.tmp 7) (.const (.bool false))) 4,
  op 2 (.assign (.tmp 8)) 4]
def F16.code : Cd := (.seq (.region 0 F16.r0.toArray false) (.seq (.region 1 F16.r1.toArray false) .ret))
theorem F16.calls (hn : args.size ≤ 9) (h : cwE Tryz.prog F16.code (fnP Tryz.prog #[(.tmp 2)] R) (entry args) w) : Calls Tryz.prog 16 args w R :=
  calls_of_cwE (types := Tryz.prog.types) follows Tryz.func16 F16.code rfl (by kernel_rfl) hn h

def F17.r0 : List Oper := [
  oc 2 (.alloc 60) 0,
  op 3 (.assign (.const (.bool false))) 4]
def F17.r1 : List Oper := [
  oc 6 (.call ⟨(.value (.func 32)), #[], #[]⟩) 89,
  op 7 (.call ⟨(.builtin .len), #[(.tmp 6)], #[89]⟩) 3,
  op 8 (.move (.const (.int .i64 0))) 3]
def F17.r2 : List Oper := [
  op 9 (.binOp .lss 3 (.tmp 8) (.tmp 7) 3) 0]
def F17.r3 : List Oper := [
  op 10 (.indexAddr 89 (.tmp 6) (.tmp 8)) 0,
  od 11 (.load 60 (.tmp 10)) 60,
  oc 5 (.alloc 60) 0,
  ⟨none, (.store 60 (.tmp 5) (.tmp 11)), 0, "", #[⟨0, .chain⟩], none⟩]
def F17.r4 : List Oper := [
  op 12 (.fieldAddr 60 (.tmp 5) 0) 0,
  od 13 (.load 29 (.tmp 12)) 29,
  op 14 (.move (.tmp 0)) 29,
  op 15 (.binOp .eql 29 (.tmp 13) (.tmp 14) 29) 4]
def F17.r5 : List Oper := [
  od 16 (.load 60 (.tmp 5)) 60,
  ⟨none, (.store 60 (.tmp 2) (.tmp 16)), 0, "", #[⟨0, .chain⟩], none⟩,
  op 3 (.assign (.const (.bool true))) 4]
def F17.r6 : List Oper := [
  op 17 (.binOp .add 3 (.tmp 8) (.const (.int .i64 1)) 3) 3,
  op 8 (.move (.tmp 17)) 3]
def F17.r7 : List Oper := [
  op 18 (.build 60 #[]) 60,
  ⟨none, (.store 60 (.tmp 2) (.tmp 18)), 0, "", #[⟨0, .chain⟩], none⟩,
  op 3 (.assign (.const (.bool false))) 4]
def F17.t6 : Cd := (.region 6 F17.r6.toArray false)
theorem F17.t6_eq {θ : Tag (F17.t6, Q, e, w)} : cwE P F17.t6 Q e w θ = cwE P (.region 6 F17.r6.toArray false) Q e w := rfl
def F17.t3 : Cd := (.seq (.block 1 (.seq (.region 3 F17.r3.toArray false) (.seq (.region 4 F17.r4.toArray false) (.cond (.tmp 15) (.seq (.region 5 F17.r5.toArray false) .ret) .skip)))) F17.t6)
theorem F17.t3_eq {θ : Tag (F17.t3, Q, e, w)} : cwE P F17.t3 Q e w θ = cwE P (.seq (.block 1 (.seq (.region 3 F17.r3.toArray false) (.seq (.region 4 F17.r4.toArray false) (.cond (.tmp 15) (.seq (.region 5 F17.r5.toArray false) .ret) .skip)))) F17.t6) Q e w := rfl
def F17.t7 : Cd := (.seq (.region 7 F17.r7.toArray false) .ret)
theorem F17.t7_eq {θ : Tag (F17.t7, Q, e, w)} : cwE P F17.t7 Q e w θ = cwE P (.seq (.region 7 F17.r7.toArray false) .ret) Q e w := rfl
def F17.code : Cd := (.seq (.region 0 F17.r0.toArray false) (.seq (.seq (.region 1 F17.r1.toArray false) (.block 0 (.loop (.seq (.region 2 F17.r2.toArray false) (.seq (.cond (.tmp 9) .skip (.exit 0)) F17.t3))))) F17.t7))
theorem F17.calls (hn : args.size ≤ 19) (h : cwE Tryz.prog F17.code (fnP Tryz.prog #[(.cell 2 60), (.tmp 3)] R) (entry args) w) : Calls Tryz.prog 17 args w R :=
  calls_of_cwE (types := Tryz.prog.types) follows Tryz.func17 F17.code rfl (by kernel_rfl) hn h

def F18.r0 : List Oper := [
  oc 2 (.alloc 71) 0]
def F18.r1 : List Oper := [
  op 3 (.move (.tmp 0)) 63]
def F18.r2 : List Oper := [
  op 5 (.binOp .eql 63 (.tmp 3) (.const (.int .u8 0)) 63) 4,
  op 4 (.assign (.tmp 5)) 4]
def F18.r3 : List Oper := [
  oc 6 (.call ⟨(.value (.func 33)), #[(.const (.string { data := #[109, 115, 105, 122, 101] })), (.func 34)], #[9, 93]⟩) 71,
  ⟨none, (.store 71 (.tmp 2) (.tmp 6)), 0, "", #[⟨0, .chain⟩], none⟩]
def F18.r4 : List Oper := [
  op 8 (.binOp .eql 63 (.tmp 3) (.const (.int .u8 2)) 63) 4,
  op 7 (.assign (.tmp 8)) 4]
def F18.r5 : List Oper := [
  oc 9 (.call ⟨(.value (.func 33)), #[(.const (.string { data := #[97, 102, 105, 100] })), (.func 35)], #[9, 93]⟩) 71,
  ⟨none, (.store 71 (.tmp 2) (.tmp 9)), 0, "", #[⟨0, .chain⟩], none⟩]
def F18.r6 : List Oper := [
  op 11 (.binOp .eql 63 (.tmp 3) (.const (.int .u8 7)) 63) 4,
  op 10 (.assign (.tmp 11)) 4]
def F18.r7 : List Oper := [
  oc 12 (.call ⟨(.value (.func 33)), #[(.const (.string { data := #[102, 105, 100] })), (.func 36)], #[9, 93]⟩) 71,
  ⟨none, (.store 71 (.tmp 2) (.tmp 12)), 0, "", #[⟨0, .chain⟩], none⟩]
def F18.r8 : List Oper := [
  op 14 (.binOp .eql 63 (.tmp 3) (.const (.int .u8 8)) 63) 4,
  op 13 (.assign (.tmp 14)) 4]
def F18.r9 : List Oper := [
  oc 15 (.call ⟨(.value (.func 33)), #[(.const (.string { data := #[110, 101, 119, 102, 105, 100] })), (.func 37)], #[9, 93]⟩) 71,
  ⟨none, (.store 71 (.tmp 2) (.tmp 15)), 0, "", #[⟨0, .chain⟩], none⟩]
def F18.r10 : List Oper := [
  op 17 (.binOp .eql 63 (.tmp 3) (.const (.int .u8 13)) 63) 4,
  op 16 (.assign (.tmp 17)) 4]
def F18.r11 : List Oper := [
  oc 18 (.call ⟨(.value (.func 33)), #[(.const (.string { data := #[105, 111, 117, 110, 105, 116] })), (.func 38)], #[9, 93]⟩) 71,
  ⟨none, (.store 71 (.tmp 2) (.tmp 18)), 0, "", #[⟨0, .chain⟩], none⟩]
def F18.r12 : List Oper := [
  op 20 (.binOp .eql 63 (.tmp 3) (.const (.int .u8 15)) 63) 4,
  op 19 (.assign (.tmp 20)) 4]
def F18.r13 : List Oper := [
  oc 21 (.call ⟨(.value (.func 33)), #[(.const (.string { data := #[112, 101, 114, 109] })), (.func 39)], #[9, 93]⟩) 71,
  ⟨none, (.store 71 (.tmp 2) (.tmp 21)), 0, "", #[⟨0, .chain⟩], none⟩]
def F18.r14 : List Oper := [
  op 23 (.binOp .eql 63 (.tmp 3) (.const (.int .u8 17)) 63) 4,
  op 22 (.assign (.tmp 23)) 4]
def F18.r15 : List Oper := [
  oc 24 (.call ⟨(.value (.func 33)), #[(.const (.string { data := #[99, 111, 117, 110, 116] })), (.func 40)], #[9, 93]⟩) 71,
  ⟨none, (.store 71 (.tmp 2) (.tmp 24)), 0, "", #[⟨0, .chain⟩], none⟩]
def F18.r16 : List Oper := [
  op 26 (.binOp .eql 63 (.tmp 3) (.const (.int .u8 1)) 63) 4,
  op 25 (.assign (.tmp 26)) 4]
def F18.r17 : List Oper := [
  oc 27 (.call ⟨(.value (.func 41)), #[(.const (.string { data := #[118, 101, 114, 115, 105, 111, 110] })), (.func 42)], #[9, 96]⟩) 71,
  ⟨none, (.store 71 (.tmp 2) (.tmp 27)), 0, "", #[⟨0, .chain⟩], none⟩]
def F18.r18 : List Oper := [
  op 29 (.binOp .eql 63 (.tmp 3) (.const (.int .u8 3)) 63) 4,
  op 28 (.assign (.tmp 29)) 4]
def F18.r19 : List Oper := [
  oc 30 (.call ⟨(.value (.func 41)), #[(.const (.string { data := #[117, 110, 97, 109, 101] })), (.func 43)], #[9, 96]⟩) 71,
  ⟨none, (.store 71 (.tmp 2) (.tmp 30)), 0, "", #[⟨0, .chain⟩], none⟩]
def F18.r20 : List Oper := [
  op 32 (.binOp .eql 63 (.tmp 3) (.const (.int .u8 4)) 63) 4,
  op 31 (.assign (.tmp 32)) 4]
def F18.r21 : List Oper := [
  oc 33 (.call ⟨(.value (.func 41)), #[(.const (.string { data := #[97, 110, 97, 109, 101] })), (.func 44)], #[9, 96]⟩) 71,
  ⟨none, (.store 71 (.tmp 2) (.tmp 33)), 0, "", #[⟨0, .chain⟩], none⟩]
def F18.r22 : List Oper := [
  op 35 (.binOp .eql 63 (.tmp 3) (.const (.int .u8 5)) 63) 4,
  op 34 (.assign (.tmp 35)) 4]
def F18.r23 : List Oper := [
  oc 36 (.call ⟨(.value (.func 41)), #[(.const (.string { data := #[101, 110, 97, 109, 101] })), (.func 45)], #[9, 96]⟩) 71,
  ⟨none, (.store 71 (.tmp 2) (.tmp 36)), 0, "", #[⟨0, .chain⟩], none⟩]
def F18.r24 : List Oper := [
  op 38 (.binOp .eql 63 (.tmp 3) (.const (.int .u8 14)) 63) 4,
  op 37 (.assign (.tmp 38)) 4]
def F18.r25 : List Oper := [
  oc 39 (.call ⟨(.value (.func 41)), #[(.const (.string { data := #[110, 97, 109, 101] })), (.func 46)], #[9, 96]⟩) 71,
  ⟨none, (.store 71 (.tmp 2) (.tmp 39)), 0, "", #[⟨0, .chain⟩], none⟩]
def F18.r26 : List Oper := [
  op 40 (.move (.tmp 0)) 63,
  oc 41 (.call ⟨(.value (.func 47)), #[(.tmp 40)], #[63]⟩) 71,
  ⟨none, (.store 71 (.tmp 2) (.tmp 41)), 0, "", #[⟨0, .chain⟩], none⟩]
def F18.t26 : Cd := (.seq (.region 26 F18.r26.toArray false) .ret)
theorem F18.t26_eq {θ : Tag (F18.t26, Q, e, w)} : cwE P F18.t26 Q e w θ = cwE P (.seq (.region 26 F18.r26.toArray false) .ret) Q e w := rfl
def F18.code : Cd := (.seq (.region 0 F18.r0.toArray false) (.seq (.seq (.region 1 F18.r1.toArray false) (.block 0 (.seq (.region 2 F18.r2.toArray false) (.cond (.tmp 4) (.seq (.region 3 F18.r3.toArray false) .ret) (.seq (.region 4 F18.r4.toArray false) (.cond (.tmp 7) (.seq (.region 5 F18.r5.toArray false) .ret) (.seq (.region 6 F18.r6.toArray false) (.cond (.tmp 10) (.seq (.region 7 F18.r7.toArray false) .ret) (.seq (.region 8 F18.r8.toArray false) (.cond (.tmp 13) (.seq (.region 9 F18.r9.toArray false) .ret) (.seq (.region 10 F18.r10.toArray false) (.cond (.tmp 16) (.seq (.region 11 F18.r11.toArray false) .ret) (.seq (.region 12 F18.r12.toArray false) (.cond (.tmp 19) (.seq (.region 13 F18.r13.toArray false) .ret) (.seq (.region 14 F18.r14.toArray false) (.cond (.tmp 22) (.seq (.region 15 F18.r15.toArray false) .ret) (.seq (.region 16 F18.r16.toArray false) (.cond (.tmp 25) (.seq (.region 17 F18.r17.toArray false) .ret) (.seq (.region 18 F18.r18.toArray false) (.cond (.tmp 28) (.seq (.region 19 F18.r19.toArray false) .ret) (.seq (.region 20 F18.r20.toArray false) (.cond (.tmp 31) (.seq (.region 21 F18.r21.toArray false) .ret) (.seq (.region 22 F18.r22.toArray false) (.cond (.tmp 34) (.seq (.region 23 F18.r23.toArray false) .ret) (.seq (.region 24 F18.r24.toArray false) (.cond (.tmp 37) (.seq (.region 25 F18.r25.toArray false) .ret) .skip)))))))))))))))))))))))))) F18.t26))
theorem F18.calls (hn : args.size ≤ 42) (h : cwE Tryz.prog F18.code (fnP Tryz.prog #[(.cell 2 71)] R) (entry args) w) : Calls Tryz.prog 18 args w R :=
  calls_of_cwE (types := Tryz.prog.types) follows Tryz.func18 F18.code rfl (by kernel_rfl) hn h

def F19.r0 : List Oper := [
  op 2 (.assign (.const (.pointer none))) 74,
  op 3 (.assign (.const (.int .i64 0))) 41]
def F19.r1 : List Oper := [
  op 4 (.move (.tmp 0)) 3,
  op 5 (.binOp .lss 3 (.tmp 4) (.const (.int .i64 0)) 3) 4,
  op 6 (.move (.tmp 5)) 4,
  ⟨(some 7), (.move (.tmp 0)), 3, "", #[], (some (6, false))⟩,
  ⟨(some 8), (.binOp .gtr 3 (.tmp 7) (.const (.int .i64 16777216)) 3), 4, "", #[], (some (6, false))⟩,
  op 9 (.pick (.tmp 6) (.const (.bool true)) (.tmp 8)) 4]
def F19.r2 : List Oper := [
  op 2 (.assign (.const (.pointer none))) 74,
  op 3 (.assign (.const (.int .i64 1))) 41]
def F19.r3 : List Oper := [
  op 10 (.move (.tmp 0)) 3,
  op 11 (.build 99 #[(0, (.tmp 10))]) 99,
  oc 12 (.box 99 (.tmp 11)) 74,
  op 2 (.assign (.tmp 12)) 74,
  op 3 (.assign (.const (.int .i64 0))) 41]
def F19.t3 : Cd := (.seq (.region 3 F19.r3.toArray false) .ret)
theorem F19.t3_eq {θ : Tag (F19.t3, Q, e, w)} : cwE P F19.t3 Q e w θ = cwE P (.seq (.region 3 F19.r3.toArray false) .ret) Q e w := rfl
def F19.code : Cd := (.seq (.region 0 F19.r0.toArray false) (.seq (.seq (.region 1 F19.r1.toArray false) (.cond (.tmp 9) (.seq (.region 2 F19.r2.toArray false) .ret) .skip)) F19.t3))
theorem F19.calls (hn : args.size ≤ 13) (h : cwE Tryz.prog F19.code (fnP Tryz.prog #[(.tmp 2), (.tmp 3)] R) (entry args) w) : Calls Tryz.prog 19 args w R :=
  calls_of_cwE (types := Tryz.prog.types) follows Tryz.func19 F19.code rfl (by kernel_rfl) hn h

def F20.r0 : List Oper := [
  op 4 (.move (.tmp 0)) 74,
  op 5 (.move (.tmp 1)) 27,
  oc 6 (.call ⟨(.value (.func 48)), #[(.tmp 4), (.tmp 5), (.const (.int .i64 4))], #[74, 27, 3]⟩) 0]
def F20.code : Cd := (.region 0 F20.r0.toArray false)
theorem F20.calls (hn : args.size ≤ 7) (h : cwE Tryz.prog F20.code (fnP Tryz.prog #[] R) (entry args) w) : Calls Tryz.prog 20 args w R :=
  calls_of_cwE (types := Tryz.prog.types) follows Tryz.func20 F20.code rfl (by kernel_rfl) hn h

def F21.r0 : List Oper := [
  op 4 (.move (.tmp 0)) 74,
  op 5 (.move (.tmp 1)) 5,
  oc 6 (.call ⟨(.value (.func 49)), #[(.tmp 4), (.tmp 5), (.const (.int .i64 1))], #[74, 5, 3]⟩) 0]
def F21.code : Cd := (.region 0 F21.r0.toArray false)
theorem F21.calls (hn : args.size ≤ 7) (h : cwE Tryz.prog F21.code (fnP Tryz.prog #[] R) (entry args) w) : Calls Tryz.prog 21 args w R :=
  calls_of_cwE (types := Tryz.prog.types) follows Tryz.func21 F21.code rfl (by kernel_rfl) hn h

def F22.r0 : List Oper := [
  op 4 (.move (.tmp 0)) 74,
  op 5 (.move (.tmp 1)) 30,
  oc 6 (.call ⟨(.value (.func 50)), #[(.tmp 4), (.tmp 5), (.const (.int .i64 2))], #[74, 30, 3]⟩) 0]
def F22.code : Cd := (.region 0 F22.r0.toArray false)
theorem F22.calls (hn : args.size ≤ 7) (h : cwE Tryz.prog F22.code (fnP Tryz.prog #[] R) (entry args) w) : Calls Tryz.prog 22 args w R :=
  calls_of_cwE (types := Tryz.prog.types) follows Tryz.func22 F22.code rfl (by kernel_rfl) hn h

def F23.r0 : List Oper := [
  op 2 (.assign (.const (.slice none 0 0))) 28,
  op 3 (.assign (.const (.int .i64 0))) 41]
def F23.r1 : List Oper := [
  op 4 (.move (.tmp 0)) 74,
  op 5 (.nilCheck (.tmp 4)) 0,
  op 6 (.fieldAddr 99 (.tmp 5) 3) 0,
  od 7 (.load 41 (.tmp 6)) 41,
  op 8 (.binOp .neq 41 (.tmp 7) (.const (.int .i64 0)) 41) 4]
def F23.r2 : List Oper := [
  ⟨(some 9), (.move (.tmp 0)), 74, "", #[], none⟩,
  ⟨(some 10), (.nilCheck (.tmp 9)), 0, "", #[], none⟩,
  ⟨(some 11), (.fieldAddr 99 (.tmp 10) 3), 0, "", #[], none⟩,
  ⟨(some 2), (.assign (.const (.slice none 0 0))), 28, "", #[], none⟩,
  ⟨(some 12), (.load 41 (.tmp 11)), 41, "", #[⟨0, .data⟩], none⟩,
  ⟨(some 3), (.assign (.tmp 12)), 41, "", #[], none⟩]
def F23.r3 : List Oper := [
  op 13 (.move (.tmp 0)) 74,
  op 14 (.nilCheck (.tmp 13)) 0,
  op 15 (.fieldAddr 99 (.tmp 14) 2) 0,
  od 16 (.load 97 (.tmp 15)) 97,
  op 17 (.call ⟨(.builtin .len), #[(.tmp 16)], #[97]⟩) 3,
  op 18 (.binOp .gtr 3 (.tmp 17) (.const (.int .i64 0)) 3) 4]
def F23.r4 : List Oper := [
  op 2 (.assign (.const (.slice none 0 0))) 28,
  op 3 (.assign (.const (.int .i64 1))) 41]
def F23.r5 : List Oper := [
  op 19 (.move (.tmp 0)) 74,
  op 20 (.nilCheck (.tmp 19)) 0,
  op 21 (.fieldAddr 99 (.tmp 20) 1) 0,
  od 22 (.load 28 (.tmp 21)) 28,
  oc 23 (.call ⟨(.builtin .append), #[(.const (.slice none 0 0)), (.tmp 22)], #[28, 28]⟩) 28,
  op 2 (.assign (.tmp 23)) 28,
  op 3 (.assign (.const (.int .i64 0))) 41]
def F23.t5 : Cd := (.seq (.region 5 F23.r5.toArray false) .ret)
theorem F23.t5_eq {θ : Tag (F23.t5, Q, e, w)} : cwE P F23.t5 Q e w θ = cwE P (.seq (.region 5 F23.r5.toArray false) .ret) Q e w := rfl
def F23.t3 : Cd := (.seq (.seq (.region 3 F23.r3.toArray false) (.cond (.tmp 18) (.seq (.region 4 F23.r4.toArray false) .ret) .skip)) F23.t5)
theorem F23.t3_eq {θ : Tag (F23.t3, Q, e, w)} : cwE P F23.t3 Q e w θ = cwE P (.seq (.seq (.region 3 F23.r3.toArray false) (.cond (.tmp 18) (.seq (.region 4 F23.r4.toArray false) .ret) .skip)) F23.t5) Q e w := rfl
def F23.code : Cd := (.seq (.region 0 F23.r0.toArray false) (.seq (.seq (.region 1 F23.r1.toArray false) (.cond (.tmp 8) (.seq (.region 2 F23.r2.toArray true) .ret) .skip)) F23.t3))
theorem F23.calls (hn : args.size ≤ 24) (h : cwE Tryz.prog F23.code (fnP Tryz.prog #[(.tmp 2), (.tmp 3)] R) (entry args) w) : Calls Tryz.prog 23 args w R :=
  calls_of_cwE (types := Tryz.prog.types) follows Tryz.func23 F23.code rfl (by kernel_rfl) hn h

def F24.r0 : List Oper := [
  op 4 (.assign (.const (.bool false))) 4]
def F24.r1 : List Oper := [
  op 6 (.move (.tmp 0)) 28,
  op 7 (.call ⟨(.builtin .len), #[(.tmp 6)], #[28]⟩) 3,
  op 8 (.move (.tmp 1)) 28,
  op 9 (.call ⟨(.builtin .len), #[(.tmp 8)], #[28]⟩) 3,
  op 10 (.binOp .neq 3 (.tmp 7) (.tmp 9) 3) 4]
def F24.r2 : List Oper := [
  op 4 (.assign (.const (.bool false))) 4]
def F24.r3 : List Oper := [
  op 5 (.assign (.const (.int .i64 0))) 3]
def F24.r4 : List Oper := [
  op 11 (.move (.tmp 5)) 3,
  op 12 (.move (.tmp 0)) 28,
  op 13 (.call ⟨(.builtin .len), #[(.tmp 12)], #[28]⟩) 3,
  op 14 (.binOp .lss 3 (.tmp 11) (.tmp 13) 3) 4]
def F24.r6 : List Oper := [
  ⟨(some 17), (.move (.tmp 0)), 28, "", #[], none⟩,
  ⟨(some 18), (.move (.tmp 5)), 3, "", #[], none⟩,
  ⟨(some 19), (.indexAddr 28 (.tmp 17) (.tmp 18)), 0, "", #[], none⟩,
  ⟨(some 21), (.move (.tmp 1)), 28, "", #[], none⟩,
  ⟨(some 22), (.move (.tmp 5)), 3, "", #[], none⟩,
  ⟨(some 23), (.indexAddr 28 (.tmp 21) (.tmp 22)), 0, "", #[], none⟩,
  ⟨(some 20), (.load 5 (.tmp 19)), 5, "", #[⟨0, .data⟩], none⟩,
  ⟨(some 24), (.load 5 (.tmp 23)), 5, "", #[⟨0, .data⟩], none⟩,
  ⟨(some 25), (.binOp .neq 5 (.tmp 20) (.tmp 24) 5), 4, "", #[], none⟩]
def F24.r7 : List Oper := [
  op 4 (.assign (.const (.bool false))) 4]
def F24.r5 : List Oper := [
  op 15 (.move (.tmp 5)) 3,
  op 16 (.binOp .add 3 (.tmp 15) (.const (.int .i64 1)) 3) 3,
  op 5 (.assign (.tmp 16)) 3]
def F24.r8 : List Oper := [
  op 4 (.assign (.const (.bool true))) 4]
def F24.t5 : Cd := (.region 5 F24.r5.toArray false)
theorem F24.t5_eq {θ : Tag (F24.t5, Q, e, w)} : cwE P F24.t5 Q e w θ = cwE P (.region 5 F24.r5.toArray false) Q e w := rfl
def F24.t6 : Cd := (.seq (.block 1 (.seq (.region 6 F24.r6.toArray true) (.cond (.tmp 25) (.seq (.region 7 F24.r7.toArray false) .ret) .skip))) F24.t5)
theorem F24.t6_eq {θ : Tag (F24.t6, Q, e, w)} : cwE P F24.t6 Q e w θ = cwE P (.seq (.block 1 (.seq (.region 6 F24.r6.toArray true) (.cond (.tmp 25) (.seq (.region 7 F24.r7.toArray false) .ret) .skip))) F24.t5) Q e w := rfl
def F24.t8 : Cd := (.seq (.region 8 F24.r8.toArray false) .ret)
theorem F24.t8_eq {θ : Tag (F24.t8, Q, e, w)} : cwE P F24.t8 Q e w θ = cwE P (.seq (.region 8 F24.r8.toArray false) .ret) Q e w := rfl
def F24.t3 : Cd := (.seq (.seq (.region 3 F24.r3.toArray false) (.block 0 (.loop (.seq (.seq (.region 4 F24.r4.toArray false) (.cond (.tmp 14) .skip (.exit 0))) F24.t6)))) F24.t8)
theorem F24.t3_eq {θ : Tag (F24.t3, Q, e, w)} : cwE P F24.t3 Q e w θ = cwE P (.seq (.seq (.region 3 F24.r3.toArray false) (.block 0 (.loop (.seq (.seq (.region 4 F24.r4.toArray false) (.cond (.tmp 14) .skip (.exit 0))) F24.t6)))) F24.t8) Q e w := rfl
def F24.code : Cd := (.seq (.region 0 F24.r0.toArray false) (.seq (.seq (.region 1 F24.r1.toArray false) (.cond (.tmp 10) (.seq (.region 2 F24.r2.toArray false) .ret) .skip)) F24.t3))
theorem F24.calls (hn : args.size ≤ 26) (h : cwE Tryz.prog F24.code (fnP Tryz.prog #[(.tmp 4)] R) (entry args) w) : Calls Tryz.prog 24 args w R :=
  calls_of_cwE (types := Tryz.prog.types) follows Tryz.func24 F24.code rfl (by kernel_rfl) hn h

def F25.r0 : List Oper := [
  op 2 (.assign (.const (.int .u32 0))) 27]
def F25.r1 : List Oper := [
  op 3 (.assign (.const (.int .u32 0))) 27]
def F25.r2 : List Oper := [
  op 6 (.move (.tmp 0)) 25,
  op 7 (.nilCheck (.tmp 6)) 0,
  op 8 (.fieldAddr 57 (.tmp 7) 1) 0,
  od 9 (.load 55 (.tmp 8)) 55,
  op 10 (.move (.const (.int .i64 0))) 3]
def F25.r3 : List Oper := [
  op 11 (.binOp .lss 3 (.tmp 10) (.const (.int .i64 4)) 3) 0]
def F25.r4 : List Oper := [
  op 12 (.move (.tmp 10)) 3,
  op 13 (.index 55 (.tmp 9) (.tmp 10)) 5,
  op 4 (.assign (.tmp 12)) 3,
  op 5 (.assign (.tmp 13)) 5]
def F25.r5 : List Oper := [
  op 14 (.move (.tmp 3)) 27,
  op 15 (.move (.tmp 5)) 5,
  op 16 (.convert 5 27 (.tmp 15)) 27,
  op 17 (.move (.tmp 4)) 3,
  op 18 (.binOp .mul 3 (.const (.int .i64 8)) (.tmp 17) 3) 3,
  op 19 (.binOp .shl 27 (.tmp 16) (.tmp 18) 3) 27,
  op 20 (.binOp .or 27 (.tmp 14) (.tmp 19) 27) 27,
  op 3 (.assign (.tmp 20)) 27]
def F25.r6 : List Oper := [
  op 21 (.binOp .add 3 (.tmp 10) (.const (.int .i64 1)) 3) 3,
  op 10 (.move (.tmp 21)) 3]
def F25.r7 : List Oper := [
  op 22 (.move (.tmp 3)) 27,
  op 2 (.assign (.tmp 22)) 27]
def F25.t6 : Cd := (.region 6 F25.r6.toArray false)
theorem F25.t6_eq {θ : Tag (F25.t6, Q, e, w)} : cwE P F25.t6 Q e w θ = cwE P (.region 6 F25.r6.toArray false) Q e w := rfl
def F25.t4 : Cd := (.seq (.block 1 (.seq (.region 4 F25.r4.toArray false) (.region 5 F25.r5.toArray false))) F25.t6)
theorem F25.t4_eq {θ : Tag (F25.t4, Q, e, w)} : cwE P F25.t4 Q e w θ = cwE P (.seq (.block 1 (.seq (.region 4 F25.r4.toArray false) (.region 5 F25.r5.toArray false))) F25.t6) Q e w := rfl
def F25.t7 : Cd := (.seq (.region 7 F25.r7.toArray false) .ret)
theorem F25.t7_eq {θ : Tag (F25.t7, Q, e, w)} : cwE P F25.t7 Q e w θ = cwE P (.seq (.region 7 F25.r7.toArray false) .ret) Q e w := rfl
def F25.code : Cd := (.seq (.region 0 F25.r0.toArray false) (.seq (.region 1 F25.r1.toArray false) (.seq (.seq (.region 2 F25.r2.toArray false) (.block 0 (.loop (.seq (.region 3 F25.r3.toArray false) (.seq (.cond (.tmp 11) .skip (.exit 0)) F25.t4))))) F25.t7)))
theorem F25.calls (hn : args.size ≤ 23) (h : cwE Tryz.prog F25.code (fnP Tryz.prog #[(.tmp 2)] R) (entry args) w) : Calls Tryz.prog 25 args w R :=
  calls_of_cwE (types := Tryz.prog.types) follows Tryz.func25 F25.code rfl (by kernel_rfl) hn h

def F26.r0 : List Oper := [
  op 2 (.assign (.const (.pointer none))) 83]
def F26.r1 : List Oper := [
  op 3 (.move (.tmp 0)) 28,
  oc 4 (.call ⟨(.builtin .append), #[(.const (.slice none 0 0)), (.tmp 3)], #[28, 28]⟩) 28,
  op 5 (.build 104 #[(0, (.tmp 4))]) 104,
  oc 6 (.box 104 (.tmp 5)) 83,
  op 2 (.assign (.tmp 6)) 83]
def F26.code : Cd := (.seq (.region 0 F26.r0.toArray false) (.seq (.region 1 F26.r1.toArray false) .ret))
theorem F26.calls (hn : args.size ≤ 7) (h : cwE Tryz.prog F26.code (fnP Tryz.prog #[(.tmp 2)] R) (entry args) w) : Calls Tryz.prog 26 args w R :=
  calls_of_cwE (types := Tryz.prog.types) follows Tryz.func26 F26.code rfl (by kernel_rfl) hn h

def F27.r0 : List Oper := [
  op 2 (.assign (.const (.int .u32 0))) 27]
def F27.r1 : List Oper := [
  op 3 (.move (.tmp 0)) 83,
  oc 4 (.call ⟨(.value (.func 51)), #[(.tmp 3), (.const (.int .i64 4))], #[83, 3]⟩) 27,
  op 2 (.assign (.tmp 4)) 27]
def F27.code : Cd := (.seq (.region 0 F27.r0.toArray false) (.seq (.region 1 F27.r1.toArray false) .ret))
theorem F27.calls (hn : args.size ≤ 5) (h : cwE Tryz.prog F27.code (fnP Tryz.prog #[(.tmp 2)] R) (entry args) w) : Calls Tryz.prog 27 args w R :=
  calls_of_cwE (types := Tryz.prog.types) follows Tryz.func27 F27.code rfl (by kernel_rfl) hn h

def F28.r0 : List Oper := [
  op 2 (.assign (.const (.int .u8 0))) 5]
def F28.r1 : List Oper := [
  op 3 (.move (.tmp 0)) 83,
  oc 4 (.call ⟨(.value (.func 52)), #[(.tmp 3), (.const (.int .i64 1))], #[83, 3]⟩) 5,
  op 2 (.assign (.tmp 4)) 5]
def F28.code : Cd := (.seq (.region 0 F28.r0.toArray false) (.seq (.region 1 F28.r1.toArray false) .ret))
theorem F28.calls (hn : args.size ≤ 5) (h : cwE Tryz.prog F28.code (fnP Tryz.prog #[(.tmp 2)] R) (entry args) w) : Calls Tryz.prog 28 args w R :=
  calls_of_cwE (types := Tryz.prog.types) follows Tryz.func28 F28.code rfl (by kernel_rfl) hn h

def F29.r0 : List Oper := [
  op 2 (.assign (.const (.int .u16 0))) 30]
def F29.r1 : List Oper := [
  op 3 (.move (.tmp 0)) 83,
  oc 4 (.call ⟨(.value (.func 53)), #[(.tmp 3), (.const (.int .i64 2))], #[83, 3]⟩) 30,
  op 2 (.assign (.tmp 4)) 30]
def F29.code : Cd := (.seq (.region 0 F29.r0.toArray false) (.seq (.region 1 F29.r1.toArray false) .ret))
theorem F29.calls (hn : args.size ≤ 5) (h : cwE Tryz.prog F29.code (fnP Tryz.prog #[(.tmp 2)] R) (entry args) w) : Calls Tryz.prog 29 args w R :=
  calls_of_cwE (types := Tryz.prog.types) follows Tryz.func29 F29.code rfl (by kernel_rfl) hn h

def F30.r0 : List Oper := [
  ⟨(some 2), (.move (.tmp 0)), 83, "", #[], none⟩,
  ⟨(some 3), (.nilCheck (.tmp 2)), 0, "", #[], none⟩,
  ⟨(some 4), (.fieldAddr 104 (.tmp 3) 1), 0, "", #[], none⟩,
  ⟨(some 6), (.move (.tmp 0)), 83, "", #[], none⟩,
  ⟨(some 7), (.nilCheck (.tmp 6)), 0, "", #[], none⟩,
  ⟨(some 8), (.fieldAddr 104 (.tmp 7) 0), 0, "", #[], none⟩,
  ⟨(some 5), (.load 3 (.tmp 4)), 3, "", #[⟨0, .data⟩], none⟩,
  ⟨(some 9), (.load 28 (.tmp 8)), 28, "", #[⟨0, .data⟩], none⟩,
  ⟨(some 10), (.call ⟨(.builtin .len), #[(.tmp 9)], #[28]⟩), 3, "", #[], none⟩,
  ⟨(some 11), (.binOp .lss 3 (.tmp 5) (.tmp 10) 3), 4, "", #[], none⟩]
def F30.r1 : List Oper := [
  op 12 (.move (.tmp 0)) 83,
  oc 13 (.call ⟨(.value (.func 54)), #[(.tmp 12), (.const (.int .i64 14)), (.const (.int .i64 0))], #[83, 41, 3]⟩) 0]
def F30.code : Cd := (.seq (.region 0 F30.r0.toArray true) (.cond (.tmp 11) (.region 1 F30.r1.toArray false) .skip))
theorem F30.calls (hn : args.size ≤ 14) (h : cwE Tryz.prog F30.code (fnP Tryz.prog #[] R) (entry args) w) : Calls Tryz.prog 30 args w R :=
  calls_of_cwE (types := Tryz.prog.types) follows Tryz.func30 F30.code rfl (by kernel_rfl) hn h

def F31.r0 : List Oper := [
  op 2 (.assign (.const (.int .i64 0))) 41,
  op 3 (.assign (.const (.int .i64 0))) 3]
def F31.r1 : List Oper := [
  ⟨(some 4), (.move (.tmp 0)), 83, "", #[], none⟩,
  ⟨(some 5), (.nilCheck (.tmp 4)), 0, "", #[], none⟩,
  ⟨(some 6), (.fieldAddr 104 (.tmp 5) 3), 0, "", #[], none⟩,
  ⟨(some 8), (.move (.tmp 0)), 83, "", #[], none⟩,
  ⟨(some 9), (.nilCheck (.tmp 8)), 0, "", #[], none⟩,
  ⟨(some 10), (.fieldAddr 104 (.tmp 9) 4), 0, "", #[], none⟩,
  ⟨(some 7), (.load 41 (.tmp 6)), 41, "", #[⟨0, .data⟩], none⟩,
  ⟨(some 2), (.assign (.tmp 7)), 41, "", #[], none⟩,
  ⟨(some 11), (.load 3 (.tmp 10)), 3, "", #[⟨0, .data⟩], none⟩,
  ⟨(some 3), (.assign (.tmp 11)), 3, "", #[], none⟩]
def F31.code : Cd := (.seq (.region 0 F31.r0.toArray false) (.seq (.region 1 F31.r1.toArray true) .ret))
theorem F31.calls (hn : args.size ≤ 12) (h : cwE Tryz.prog F31.code (fnP Tryz.prog #[(.tmp 2), (.tmp 3)] R) (entry args) w) : Calls Tryz.prog 31 args w R :=
  calls_of_cwE (types := Tryz.prog.types) follows Tryz.func31 F31.code rfl (by kernel_rfl) hn h

def F32.r0 : List Oper := [
  op 0 (.assign (.const (.slice none 0 0))) 89]
def F32.r1 : List Oper := [
  oc 1 (.buildSlice 58 2 #[(0, (.const (.int .u8 0))), (1, (.const (.int .u8 1)))]) 58,
  op 2 (.build 60 #[(0, (.const (.int .u8 100))), (1, (.const (.string { data := #[84, 118, 101, 114, 115, 105, 111, 110] }))), (2, (.tmp 1))]) 60,
  oc 3 (.buildSlice 58 2 #[(0, (.const (.int .u8 0))), (1, (.const (.int .u8 1)))]) 58,
  op 4 (.build 60 #[(0, (.const (.int .u8 101))), (1, (.const (.string { data := #[82, 118, 101, 114, 115, 105, 111, 110] }))), (2, (.tmp 3))]) 60,
  oc 5 (.buildSlice 58 3 #[(0, (.const (.int .u8 2))), (1, (.const (.int .u8 3))), (2, (.const (.int .u8 4)))]) 58,
  op 6 (.build 60 #[(0, (.const (.int .u8 102))), (1, (.const (.string { data := #[84, 97, 117, 116, 104] }))), (2, (.tmp 5))]) 60,
  oc 7 (.buildSlice 58 1 #[(0, (.const (.int .u8 11)))]) 58,
  op 8 (.build 60 #[(0, (.const (.int .u8 103))), (1, (.const (.string { data := #[82, 97, 117, 116, 104] }))), (2, (.tmp 7))]) 60,
  oc 9 (.buildSlice 58 4 #[(0, (.const (.int .u8 7))), (1, (.const (.int .u8 2))), (2, (.const (.int .u8 3))), (3, (.const (.int .u8 4)))]) 58,
  op 10 (.build 60 #[(0, (.const (.int .u8 104))), (1, (.const (.string { data := #[84, 97, 116, 116, 97, 99, 104] }))), (2, (.tmp 9))]) 60,
  oc 11 (.buildSlice 58 1 #[(0, (.const (.int .u8 11)))]) 58,
  op 12 (.build 60 #[(0, (.const (.int .u8 105))), (1, (.const (.string { data := #[82, 97, 116, 116, 97, 99, 104] }))), (2, (.tmp 11))]) 60,
  oc 13 (.buildSlice 58 1 #[(0, (.const (.int .u8 5)))]) 58,
  op 14 (.build 60 #[(0, (.const (.int .u8 107))), (1, (.const (.string { data := #[82, 101, 114, 114, 111, 114] }))), (2, (.tmp 13))]) 60,
  oc 15 (.buildSlice 58 1 #[(0, (.const (.int .u8 6)))]) 58,
  op 16 (.build 60 #[(0, (.const (.int .u8 108))), (1, (.const (.string { data := #[84, 102, 108, 117, 115, 104] }))), (2, (.tmp 15))]) 60,
  op 17 (.build 60 #[(0, (.const (.int .u8 109))), (1, (.const (.string { data := #[82, 102, 108, 117, 115, 104] }))), (2, (.const (.slice none 0 0)))]) 60,
  oc 18 (.buildSlice 58 3 #[(0, (.const (.int .u8 7))), (1, (.const (.int .u8 8))), (2, (.const (.int .u8 9)))]) 58,
  op 19 (.build 60 #[(0, (.const (.int .u8 110))), (1, (.const (.string { data := #[84, 119, 97, 108, 107] }))), (2, (.tmp 18))]) 60,
  oc 20 (.buildSlice 58 1 #[(0, (.const (.int .u8 10)))]) 58,
  op 21 (.build 60 #[(0, (.const (.int .u8 111))), (1, (.const (.string { data := #[82, 119, 97, 108, 107] }))), (2, (.tmp 20))]) 60,
  oc 22 (.buildSlice 58 2 #[(0, (.const (.int .u8 7))), (1, (.const (.int .u8 12)))]) 58,
  op 23 (.build 60 #[(0, (.const (.int .u8 112))), (1, (.const (.string { data := #[84, 111, 112, 101, 110] }))), (2, (.tmp 22))]) 60,
  oc 24 (.buildSlice 58 2 #[(0, (.const (.int .u8 11))), (1, (.const (.int .u8 13)))]) 58,
  op 25 (.build 60 #[(0, (.const (.int .u8 113))), (1, (.const (.string { data := #[82, 111, 112, 101, 110] }))), (2, (.tmp 24))]) 60,
  oc 26 (.buildSlice 58 4 #[(0, (.const (.int .u8 7))), (1, (.const (.int .u8 14))), (2, (.const (.int .u8 15))), (3, (.const (.int .u8 12)))]) 58,
  op 27 (.build 60 #[(0, (.const (.int .u8 114))), (1, (.const (.string { data := #[84, 99, 114, 101, 97, 116, 101] }))), (2, (.tmp 26))]) 60,
  oc 28 (.buildSlice 58 2 #[(0, (.const (.int .u8 11))), (1, (.const (.int .u8 13)))]) 58,
  op 29 (.build 60 #[(0, (.const (.int .u8 115))), (1, (.const (.string { data := #[82, 99, 114, 101, 97, 116, 101] }))), (2, (.tmp 28))]) 60,
  oc 30 (.buildSlice 58 3 #[(0, (.const (.int .u8 7))), (1, (.const (.int .u8 16))), (2, (.const (.int .u8 17)))]) 58,
  op 31 (.build 60 #[(0, (.const (.int .u8 116))), (1, (.const (.string { data := #[84, 114, 101, 97, 100] }))), (2, (.tmp 30))]) 60,
  oc 32 (.buildSlice 58 1 #[(0, (.const (.int .u8 18)))]) 58,
  op 33 (.build 60 #[(0, (.const (.int .u8 117))), (1, (.const (.string { data := #[82, 114, 101, 97, 100] }))), (2, (.tmp 32))]) 60,
  oc 34 (.buildSlice 58 3 #[(0, (.const (.int .u8 7))), (1, (.const (.int .u8 16))), (2, (.const (.int .u8 18)))]) 58,
  op 35 (.build 60 #[(0, (.const (.int .u8 118))), (1, (.const (.string { data := #[84, 119, 114, 105, 116, 101] }))), (2, (.tmp 34))]) 60,
  oc 36 (.buildSlice 58 1 #[(0, (.const (.int .u8 17)))]) 58,
  op 37 (.build 60 #[(0, (.const (.int .u8 119))), (1, (.const (.string { data := #[82, 119, 114, 105, 116, 101] }))), (2, (.tmp 36))]) 60,
  oc 38 (.buildSlice 58 1 #[(0, (.const (.int .u8 7)))]) 58,
  op 39 (.build 60 #[(0, (.const (.int .u8 120))), (1, (.const (.string { data := #[84, 99, 108, 117, 110, 107] }))), (2, (.tmp 38))]) 60,
  op 40 (.build 60 #[(0, (.const (.int .u8 121))), (1, (.const (.string { data := #[82, 99, 108, 117, 110, 107] }))), (2, (.const (.slice none 0 0)))]) 60,
  oc 41 (.buildSlice 58 1 #[(0, (.const (.int .u8 7)))]) 58,
  op 42 (.build 60 #[(0, (.const (.int .u8 122))), (1, (.const (.string { data := #[84, 114, 101, 109, 111, 118, 101] }))), (2, (.tmp 41))]) 60,
  op 43 (.build 60 #[(0, (.const (.int .u8 123))), (1, (.const (.string { data := #[82, 114, 101, 109, 111, 118, 101] }))), (2, (.const (.slice none 0 0)))]) 60,
  oc 44 (.buildSlice 58 1 #[(0, (.const (.int .u8 7)))]) 58,
  op 45 (.build 60 #[(0, (.const (.int .u8 124))), (1, (.const (.string { data := #[84, 115, 116, 97, 116] }))), (2, (.tmp 44))]) 60,
  oc 46 (.buildSlice 58 1 #[(0, (.const (.int .u8 19)))]) 58,
  op 47 (.build 60 #[(0, (.const (.int .u8 125))), (1, (.const (.string { data := #[82, 115, 116, 97, 116] }))), (2, (.tmp 46))]) 60,
  oc 48 (.buildSlice 58 2 #[(0, (.const (.int .u8 7))), (1, (.const (.int .u8 19)))]) 58,
  op 49 (.build 60 #[(0, (.const (.int .u8 126))), (1, (.const (.string { data := #[84, 119, 115, 116, 97, 116] }))), (2, (.tmp 48))]) 60,
  op 50 (.build 60 #[(0, (.const (.int .u8 127))), (1, (.const (.string { data := #[82, 119, 115, 116, 97, 116] }))), (2, (.const (.slice none 0 0)))]) 60,
  oc 51 (.buildSlice 89 27 #[(0, (.tmp 2)), (1, (.tmp 4)), (2, (.tmp 6)), (3, (.tmp 8)), (4, (.tmp 10)), (5, (.tmp 12)), (6, (.tmp 14)), (7, (.tmp 16)), (8, (.tmp 17)), (9, (.tmp 19)), (10, (.tmp 21)), (11, (.tmp 23)), (12, (.tmp 25)), (13, (.tmp 27)), (14, (.tmp 29)), (15, (.tmp 31)), (16, (.tmp 33)), (17, (.tmp 35)), (18, (.tmp 37)), (19, (.tmp 39)), (20, (.tmp 40)), (21, (.tmp 42)), (22, (.tmp 43)), (23, (.tmp 45)), (24, (.tmp 47)), (25, (.tmp 49)), (26, (.tmp 50))]) 89,
  op 0 (.assign (.tmp 51)) 89]
def F32.code : Cd := (.seq (.region 0 F32.r0.toArray false) (.seq (.region 1 F32.r1.toArray false) .ret))
theorem F32.calls (hn : args.size ≤ 52) (h : cwE Tryz.prog F32.code (fnP Tryz.prog #[(.tmp 0)] R) (entry args) w) : Calls Tryz.prog 32 args w R :=
  calls_of_cwE (types := Tryz.prog.types) follows Tryz.func32 F32.code rfl (by kernel_rfl) hn h

def F33.r0 : List Oper := [
  oc 3 (.box 93 (.tmp 1)) 0,
  oc 4 (.alloc 71) 0]
def F33.r1 : List Oper := [
  op 5 (.move (.tmp 0)) 9,
  op 6 (.makeFunc (.func 56) #[] #[(.tmp 3)]) 65,
  op 7 (.makeFunc (.func 57) #[] #[(.tmp 3)]) 66,
  op 8 (.makeFunc (.func 58) #[] #[(.tmp 3)]) 67,
  op 9 (.makeFunc (.func 59) #[] #[(.tmp 3)]) 68,
  op 10 (.makeFunc (.func 61) #[] #[(.tmp 3)]) 69,
  op 11 (.build 71 #[(0, (.tmp 5)), (1, (.func 55)), (2, (.tmp 6)), (3, (.tmp 7)), (4, (.tmp 8)), (5, (.tmp 9)), (6, (.tmp 10))]) 71,
  ⟨none, (.store 71 (.tmp 4) (.tmp 11)), 0, "", #[⟨0, .chain⟩], none⟩]
def F33.code : Cd := (.seq (.region 0 F33.r0.toArray false) (.seq (.region 1 F33.r1.toArray false) .ret))
theorem F33.calls (hn : args.size ≤ 12) (h : cwE Tryz.prog F33.code (fnP Tryz.prog #[(.cell 4 71)] R) (entry args) w) : Calls Tryz.prog 33 args w R :=
  calls_of_cwE (types := Tryz.prog.types) follows Tryz.func33 F33.code rfl (by kernel_rfl) hn h

def F34.r0 : List Oper := [
  op 2 (.assign (.const (.pointer none))) 92]
def F34.r1 : List Oper := [
  op 3 (.move (.tmp 0)) 73,
  op 4 (.nilCheck (.tmp 3)) 0,
  op 5 (.fieldAddr 39 (.tmp 4) 2) 0,
  op 2 (.assign (.tmp 5)) 92]
def F34.code : Cd := (.seq (.region 0 F34.r0.toArray false) (.seq (.region 1 F34.r1.toArray false) .ret))
theorem F34.calls (hn : args.size ≤ 6) (h : cwE Tryz.prog F34.code (fnP Tryz.prog #[(.tmp 2)] R) (entry args) w) : Calls Tryz.prog 34 args w R :=
  calls_of_cwE (types := Tryz.prog.types) follows Tryz.func34 F34.code rfl (by kernel_rfl) hn h

def F35.r0 : List Oper := [
  op 2 (.assign (.const (.pointer none))) 92]
def F35.r1 : List Oper := [
  op 3 (.move (.tmp 0)) 73,
  op 4 (.nilCheck (.tmp 3)) 0,
  op 5 (.fieldAddr 39 (.tmp 4) 4) 0,
  op 2 (.assign (.tmp 5)) 92]
def F35.code : Cd := (.seq (.region 0 F35.r0.toArray false) (.seq (.region 1 F35.r1.toArray false) .ret))
theorem F35.calls (hn : args.size ≤ 6) (h : cwE Tryz.prog F35.code (fnP Tryz.prog #[(.tmp 2)] R) (entry args) w) : Calls Tryz.prog 35 args w R :=
  calls_of_cwE (types := Tryz.prog.types) follows Tryz.func35 F35.code rfl (by kernel_rfl) hn h

def F36.r0 : List Oper := [
  op 2 (.assign (.const (.pointer none))) 92]
def F36.r1 : List Oper := [
  op 3 (.move (.tmp 0)) 73,
  op 4 (.nilCheck (.tmp 3)) 0,
  op 5 (.fieldAddr 39 (.tmp 4) 9) 0,
  op 2 (.assign (.tmp 5)) 92]
def F36.code : Cd := (.seq (.region 0 F36.r0.toArray false) (.seq (.region 1 F36.r1.toArray false) .ret))
theorem F36.calls (hn : args.size ≤ 6) (h : cwE Tryz.prog F36.code (fnP Tryz.prog #[(.tmp 2)] R) (entry args) w) : Calls Tryz.prog 36 args w R :=
  calls_of_cwE (types := Tryz.prog.types) follows Tryz.func36 F36.code rfl (by kernel_rfl) hn h

def F37.r0 : List Oper := [
  op 2 (.assign (.const (.pointer none))) 92]
def F37.r1 : List Oper := [
  op 3 (.move (.tmp 0)) 73,
  op 4 (.nilCheck (.tmp 3)) 0,
  op 5 (.fieldAddr 39 (.tmp 4) 10) 0,
  op 2 (.assign (.tmp 5)) 92]
def F37.code : Cd := (.seq (.region 0 F37.r0.toArray false) (.seq (.region 1 F37.r1.toArray false) .ret))
theorem F37.calls (hn : args.size ≤ 6) (h : cwE Tryz.prog F37.code (fnP Tryz.prog #[(.tmp 2)] R) (entry args) w) : Calls Tryz.prog 37 args w R :=
  calls_of_cwE (types := Tryz.prog.types) follows Tryz.func37 F37.code rfl (by kernel_rfl) hn h

def F38.r0 : List Oper := [
  op 2 (.assign (.const (.pointer none))) 92]
def F38.r1 : List Oper := [
  op 3 (.move (.tmp 0)) 73,
  op 4 (.nilCheck (.tmp 3)) 0,
  op 5 (.fieldAddr 39 (.tmp 4) 15) 0,
  op 2 (.assign (.tmp 5)) 92]
def F38.code : Cd := (.seq (.region 0 F38.r0.toArray false) (.seq (.region 1 F38.r1.toArray false) .ret))
theorem F38.calls (hn : args.size ≤ 6) (h : cwE Tryz.prog F38.code (fnP Tryz.prog #[(.tmp 2)] R) (entry args) w) : Calls Tryz.prog 38 args w R :=
  calls_of_cwE (types := Tryz.prog.types) follows Tryz.func38 F38.code rfl (by kernel_rfl) hn h

def F39.r0 : List Oper := [
  op 2 (.assign (.const (.pointer none))) 92]
def F39.r1 : List Oper := [
  op 3 (.move (.tmp 0)) 73,
  op 4 (.nilCheck (.tmp 3)) 0,
  op 5 (.fieldAddr 39 (.tmp 4) 17) 0,
  op 2 (.assign (.tmp 5)) 92]
def F39.code : Cd := (.seq (.region 0 F39.r0.toArray false) (.seq (.region 1 F39.r1.toArray false) .ret))
theorem F39.calls (hn : args.size ≤ 6) (h : cwE Tryz.prog F39.code (fnP Tryz.prog #[(.tmp 2)] R) (entry args) w) : Calls Tryz.prog 39 args w R :=
  calls_of_cwE (types := Tryz.prog.types) follows Tryz.func39 F39.code rfl (by kernel_rfl) hn h

def F40.r0 : List Oper := [
  op 2 (.assign (.const (.pointer none))) 92]
def F40.r1 : List Oper := [
  op 3 (.move (.tmp 0)) 73,
  op 4 (.nilCheck (.tmp 3)) 0,
  op 5 (.fieldAddr 39 (.tmp 4) 19) 0,
  op 2 (.assign (.tmp 5)) 92]
def F40.code : Cd := (.seq (.region 0 F40.r0.toArray false) (.seq (.region 1 F40.r1.toArray false) .ret))
theorem F40.calls (hn : args.size ≤ 6) (h : cwE Tryz.prog F40.code (fnP Tryz.prog #[(.tmp 2)] R) (entry args) w) : Calls Tryz.prog 40 args w R :=
  calls_of_cwE (types := Tryz.prog.types) follows Tryz.func40 F40.code rfl (by kernel_rfl) hn h

def F41.r0 : List Oper := [
  oc 3 (.box 96 (.tmp 1)) 0,
  oc 4 (.alloc 71) 0]
def F41.r1 : List Oper := [
  op 5 (.move (.tmp 0)) 9,
  op 6 (.makeFunc (.func 63) #[] #[(.tmp 3)]) 64,
  op 7 (.makeFunc (.func 65) #[] #[(.tmp 3)]) 65,
  op 8 (.makeFunc (.func 67) #[] #[(.tmp 3)]) 66,
  op 9 (.makeFunc (.func 69) #[] #[(.tmp 3)]) 67,
  op 10 (.makeFunc (.func 70) #[] #[(.tmp 3)]) 68,
  op 11 (.makeFunc (.func 72) #[] #[(.tmp 3)]) 69,
  op 12 (.build 71 #[(0, (.tmp 5)), (1, (.tmp 6)), (2, (.tmp 7)), (3, (.tmp 8)), (4, (.tmp 9)), (5, (.tmp 10)), (6, (.tmp 11))]) 71,
  ⟨none, (.store 71 (.tmp 4) (.tmp 12)), 0, "", #[⟨0, .chain⟩], none⟩]
def F41.code : Cd := (.seq (.region 0 F41.r0.toArray false) (.seq (.region 1 F41.r1.toArray false) .ret))
theorem F41.calls (hn : args.size ≤ 13) (h : cwE Tryz.prog F41.code (fnP Tryz.prog #[(.cell 4 71)] R) (entry args) w) : Calls Tryz.prog 41 args w R :=
  calls_of_cwE (types := Tryz.prog.types) follows Tryz.func41 F41.code rfl (by kernel_rfl) hn h

def F42.r0 : List Oper := [
  op 2 (.assign (.const (.pointer none))) 95]
def F42.r1 : List Oper := [
  op 3 (.move (.tmp 0)) 73,
  op 4 (.nilCheck (.tmp 3)) 0,
  op 5 (.fieldAddr 39 (.tmp 4) 3) 0,
  op 2 (.assign (.tmp 5)) 95]
def F42.code : Cd := (.seq (.region 0 F42.r0.toArray false) (.seq (.region 1 F42.r1.toArray false) .ret))
theorem F42.calls (hn : args.size ≤ 6) (h : cwE Tryz.prog F42.code (fnP Tryz.prog #[(.tmp 2)] R) (entry args) w) : Calls Tryz.prog 42 args w R :=
  calls_of_cwE (types := Tryz.prog.types) follows Tryz.func42 F42.code rfl (by kernel_rfl) hn h

def F43.r0 : List Oper := [
  op 2 (.assign (.const (.pointer none))) 95]
def F43.r1 : List Oper := [
  op 3 (.move (.tmp 0)) 73,
  op 4 (.nilCheck (.tmp 3)) 0,
  op 5 (.fieldAddr 39 (.tmp 4) 5) 0,
  op 2 (.assign (.tmp 5)) 95]
def F43.code : Cd := (.seq (.region 0 F43.r0.toArray false) (.seq (.region 1 F43.r1.toArray false) .ret))
theorem F43.calls (hn : args.size ≤ 6) (h : cwE Tryz.prog F43.code (fnP Tryz.prog #[(.tmp 2)] R) (entry args) w) : Calls Tryz.prog 43 args w R :=
  calls_of_cwE (types := Tryz.prog.types) follows Tryz.func43 F43.code rfl (by kernel_rfl) hn h

def F44.r0 : List Oper := [
  op 2 (.assign (.const (.pointer none))) 95]
def F44.r1 : List Oper := [
  op 3 (.move (.tmp 0)) 73,
  op 4 (.nilCheck (.tmp 3)) 0,
  op 5 (.fieldAddr 39 (.tmp 4) 6) 0,
  op 2 (.assign (.tmp 5)) 95]
def F44.code : Cd := (.seq (.region 0 F44.r0.toArray false) (.seq (.region 1 F44.r1.toArray false) .ret))
theorem F44.calls (hn : args.size ≤ 6) (h : cwE Tryz.prog F44.code (fnP Tryz.prog #[(.tmp 2)] R) (entry args) w) : Calls Tryz.prog 44 args w R :=
  calls_of_cwE (types := Tryz.prog.types) follows Tryz.func44 F44.code rfl (by kernel_rfl) hn h

def F45.r0 : List Oper := [
  op 2 (.assign (.const (.pointer none))) 95]
def F45.r1 : List Oper := [
  op 3 (.move (.tmp 0)) 73,
  op 4 (.nilCheck (.tmp 3)) 0,
  op 5 (.fieldAddr 39 (.tmp 4) 7) 0,
  op 2 (.assign (.tmp 5)) 95]
def F45.code : Cd := (.seq (.region 0 F45.r0.toArray false) (.seq (.region 1 F45.r1.toArray false) .ret))
theorem F45.calls (hn : args.size ≤ 6) (h : cwE Tryz.prog F45.code (fnP Tryz.prog #[(.tmp 2)] R) (entry args) w) : Calls Tryz.prog 45 args w R :=
  calls_of_cwE (types := Tryz.prog.types) follows Tryz.func45 F45.code rfl (by kernel_rfl) hn h

def F46.r0 : List Oper := [
  op 2 (.assign (.const (.pointer none))) 95]
def F46.r1 : List Oper := [
  op 3 (.move (.tmp 0)) 73,
  op 4 (.nilCheck (.tmp 3)) 0,
  op 5 (.fieldAddr 39 (.tmp 4) 16) 0,
  op 2 (.assign (.tmp 5)) 95]
def F46.code : Cd := (.seq (.region 0 F46.r0.toArray false) (.seq (.region 1 F46.r1.toArray false) .ret))
theorem F46.calls (hn : args.size ≤ 6) (h : cwE Tryz.prog F46.code (fnP Tryz.prog #[(.tmp 2)] R) (entry args) w) : Calls Tryz.prog 46 args w R :=
  calls_of_cwE (types := Tryz.prog.types) follows Tryz.func46 F46.code rfl (by kernel_rfl) hn h

def F47.r0 : List Oper := [
  oc 2 (.alloc 71) 0]
def F47.r1 : List Oper := [
  op 3 (.move (.tmp 0)) 63]
def F47.r2 : List Oper := [
  op 5 (.binOp .eql 63 (.tmp 3) (.const (.int .u8 6)) 63) 4,
  op 4 (.assign (.tmp 5)) 4]
def F47.r3 : List Oper := [
  op 6 (.build 71 #[(0, (.const (.string { data := #[111, 108, 100, 116, 97, 103] }))), (1, (.func 55)), (2, (.func 74)), (3, (.func 75)), (4, (.func 76)), (5, (.func 77)), (6, (.func 78))]) 71,
  ⟨none, (.store 71 (.tmp 2) (.tmp 6)), 0, "", #[⟨0, .chain⟩], none⟩]
def F47.r4 : List Oper := [
  op 8 (.binOp .eql 63 (.tmp 3) (.const (.int .u8 12)) 63) 4,
  op 7 (.assign (.tmp 8)) 4]
def F47.r5 : List Oper := [
  op 9 (.build 71 #[(0, (.const (.string { data := #[109, 111, 100, 101] }))), (1, (.func 55)), (2, (.func 79)), (3, (.func 80)), (4, (.func 81)), (5, (.func 82)), (6, (.func 83))]) 71,
  ⟨none, (.store 71 (.tmp 2) (.tmp 9)), 0, "", #[⟨0, .chain⟩], none⟩]
def F47.r6 : List Oper := [
  op 11 (.binOp .eql 63 (.tmp 3) (.const (.int .u8 16)) 63) 4,
  op 10 (.assign (.tmp 11)) 4]
def F47.r7 : List Oper := [
  op 12 (.build 71 #[(0, (.const (.string { data := #[111, 102, 102, 115, 101, 116] }))), (1, (.func 55)), (2, (.func 84)), (3, (.func 86)), (4, (.func 88)), (5, (.func 89)), (6, (.func 90))]) 71,
  ⟨none, (.store 71 (.tmp 2) (.tmp 12)), 0, "", #[⟨0, .chain⟩], none⟩]
def F47.r8 : List Oper := [
  op 14 (.binOp .eql 63 (.tmp 3) (.const (.int .u8 18)) 63) 4,
  op 13 (.assign (.tmp 14)) 4]
def F47.r9 : List Oper := [
  op 15 (.build 71 #[(0, (.const (.string { data := #[100, 97, 116, 97] }))), (1, (.func 55)), (2, (.func 91)), (3, (.func 93)), (4, (.func 95)), (5, (.func 97)), (6, (.func 99))]) 71,
  ⟨none, (.store 71 (.tmp 2) (.tmp 15)), 0, "", #[⟨0, .chain⟩], none⟩]
def F47.r10 : List Oper := [
  op 17 (.binOp .eql 63 (.tmp 3) (.const (.int .u8 11)) 63) 4,
  op 16 (.assign (.tmp 17)) 4]
def F47.r11 : List Oper := [
  op 18 (.build 71 #[(0, (.const (.string { data := #[113, 105, 100] }))), (1, (.func 55)), (2, (.func 101)), (3, (.func 103)), (4, (.func 105)), (5, (.func 106)), (6, (.func 108))]) 71,
  ⟨none, (.store 71 (.tmp 2) (.tmp 18)), 0, "", #[⟨0, .chain⟩], none⟩]
def F47.r12 : List Oper := [
  op 19 (.move (.tmp 0)) 63,
  oc 20 (.call ⟨(.value (.func 110)), #[(.tmp 19)], #[63]⟩) 71,
  ⟨none, (.store 71 (.tmp 2) (.tmp 20)), 0, "", #[⟨0, .chain⟩], none⟩]
def F47.t12 : Cd := (.seq (.region 12 F47.r12.toArray false) .ret)
theorem F47.t12_eq {θ : Tag (F47.t12, Q, e, w)} : cwE P F47.t12 Q e w θ = cwE P (.seq (.region 12 F47.r12.toArray false) .ret) Q e w := rfl
def F47.code : Cd := (.seq (.region 0 F47.r0.toArray false) (.seq (.seq (.region 1 F47.r1.toArray false) (.block 0 (.seq (.region 2 F47.r2.toArray false) (.cond (.tmp 4) (.seq (.region 3 F47.r3.toArray false) .ret) (.seq (.region 4 F47.r4.toArray false) (.cond (.tmp 7) (.seq (.region 5 F47.r5.toArray false) .ret) (.seq (.region 6 F47.r6.toArray false) (.cond (.tmp 10) (.seq (.region 7 F47.r7.toArray false) .ret) (.seq (.region 8 F47.r8.toArray false) (.cond (.tmp 13) (.seq (.region 9 F47.r9.toArray false) .ret) (.seq (.region 10 F47.r10.toArray false) (.cond (.tmp 16) (.seq (.region 11 F47.r11.toArray false) .ret) .skip)))))))))))) F47.t12))
theorem F47.calls (hn : args.size ≤ 21) (h : cwE Tryz.prog F47.code (fnP Tryz.prog #[(.cell 2 71)] R) (entry args) w) : Calls Tryz.prog 47 args w R :=
  calls_of_cwE (types := Tryz.prog.types) follows Tryz.func47 F47.code rfl (by kernel_rfl) hn h

def F48.r0 : List Oper := [
  op 7 (.move (.tmp 0)) 74,
  op 8 (.move (.tmp 2)) 3,
  oc 9 (.call ⟨(.value (.func 111)), #[(.tmp 7), (.tmp 8)], #[74, 3]⟩) 4,
  op 10 (.unOp .not 4 (.tmp 9)) 4]
def F48.r1 : List Oper := [
  op 11 (.move (.tmp 1)) 27,
  op 12 (.convert 27 33 (.tmp 11)) 33,
  op 6 (.assign (.tmp 12)) 33]
def F48.r2 : List Oper := [
  op 13 (.move (.tmp 2)) 3,
  op 14 (.move (.const (.int .i64 0))) 3]
def F48.r3 : List Oper := [
  op 15 (.binOp .lss 3 (.tmp 14) (.tmp 13) 3) 4]
def F48.r4 : List Oper := [
  op 16 (.move (.tmp 0)) 74,
  op 17 (.move (.tmp 0)) 74,
  op 18 (.nilCheck (.tmp 17)) 0,
  op 19 (.fieldAddr 99 (.tmp 18) 1) 0,
  od 20 (.load 28 (.tmp 19)) 28,
  op 21 (.move (.tmp 6)) 33,
  op 22 (.convert 33 5 (.tmp 21)) 5,
  oc 23 (.buildSlice 28 1 #[(0, (.tmp 22))]) 28,
  oc 24 (.call ⟨(.builtin .append), #[(.tmp 20), (.tmp 23)], #[28, 28]⟩) 28,
  op 25 (.nilCheck (.tmp 16)) 0,
  op 26 (.fieldAddr 99 (.tmp 25) 1) 0,
  ⟨none, (.store 28 (.tmp 26) (.tmp 24)), 0, "", #[⟨0, .chain⟩], none⟩]
def F48.r5 : List Oper := [
  op 27 (.move (.tmp 6)) 33,
  op 28 (.binOp .shr 33 (.tmp 27) (.const (.int .u64 8)) 128) 33,
  op 6 (.assign (.tmp 28)) 33]
def F48.r6 : List Oper := [
  op 29 (.binOp .add 3 (.tmp 14) (.const (.int .i64 1)) 3) 3,
  op 14 (.move (.tmp 29)) 3]
def F48.t6 : Cd := (.region 6 F48.r6.toArray false)
theorem F48.t6_eq {θ : Tag (F48.t6, Q, e, w)} : cwE P F48.t6 Q e w θ = cwE P (.region 6 F48.r6.toArray false) Q e w := rfl
def F48.t4 : Cd := (.seq (.block 1 (.seq (.region 4 F48.r4.toArray false) (.region 5 F48.r5.toArray false))) F48.t6)
theorem F48.t4_eq {θ : Tag (F48.t4, Q, e, w)} : cwE P F48.t4 Q e w θ = cwE P (.seq (.block 1 (.seq (.region 4 F48.r4.toArray false) (.region 5 F48.r5.toArray false))) F48.t6) Q e w := rfl
def F48.t1 : Cd := (.seq (.region 1 F48.r1.toArray false) (.seq (.region 2 F48.r2.toArray false) (.block 0 (.loop (.seq (.region 3 F48.r3.toArray false) (.seq (.cond (.tmp 15) .skip (.exit 0)) F48.t4))))))
theorem F48.t1_eq {θ : Tag (F48.t1, Q, e, w)} : cwE P F48.t1 Q e w θ = cwE P (.seq (.region 1 F48.r1.toArray false) (.seq (.region 2 F48.r2.toArray false) (.block 0 (.loop (.seq (.region 3 F48.r3.toArray false) (.seq (.cond (.tmp 15) .skip (.exit 0)) F48.t4)))))) Q e w := rfl
def F48.code : Cd := (.seq (.seq (.region 0 F48.r0.toArray false) (.cond (.tmp 10) .ret .skip)) F48.t1)
theorem F48.calls (hn : args.size ≤ 30) (h : cwE Tryz.prog F48.code (fnP Tryz.prog #[] R) (entry args) w) : Calls Tryz.prog 48 args w R :=
  calls_of_cwE (types := Tryz.prog.types) follows Tryz.func48 F48.code rfl (by kernel_rfl) hn h

def F49.r0 : List Oper := [
  op 7 (.move (.tmp 0)) 74,
  op 8 (.move (.tmp 2)) 3,
  oc 9 (.call ⟨(.value (.func 111)), #[(.tmp 7), (.tmp 8)], #[74, 3]⟩) 4,
  op 10 (.unOp .not 4 (.tmp 9)) 4]
def F49.r1 : List Oper := [
  op 11 (.move (.tmp 1)) 5,
  op 12 (.convert 5 33 (.tmp 11)) 33,
  op 6 (.assign (.tmp 12)) 33]
def F49.r2 : List Oper := [
  op 13 (.move (.tmp 2)) 3,
  op 14 (.move (.const (.int .i64 0))) 3]
def F49.r3 : List Oper := [
  op 15 (.binOp .lss 3 (.tmp 14) (.tmp 13) 3) 4]
def F49.r4 : List Oper := [
  op 16 (.move (.tmp 0)) 74,
  op 17 (.move (.tmp 0)) 74,
  op 18 (.nilCheck (.tmp 17)) 0,
  op 19 (.fieldAddr 99 (.tmp 18) 1) 0,
  od 20 (.load 28 (.tmp 19)) 28,
  op 21 (.move (.tmp 6)) 33,
  op 22 (.convert 33 5 (.tmp 21)) 5,
  oc 23 (.buildSlice 28 1 #[(0, (.tmp 22))]) 28,
  oc 24 (.call ⟨(.builtin .append), #[(.tmp 20), (.tmp 23)], #[28, 28]⟩) 28,
  op 25 (.nilCheck (.tmp 16)) 0,
  op 26 (.fieldAddr 99 (.tmp 25) 1) 0,
  ⟨none, (.store 28 (.tmp 26) (.tmp 24)), 0, "", #[⟨0, .chain⟩], none⟩]
def F49.r5 : List Oper := [
  op 27 (.move (.tmp 6)) 33,
  op 28 (.binOp .shr 33 (.tmp 27) (.const (.int .u64 8)) 128) 33,
  op 6 (.assign (.tmp 28)) 33]
def F49.r6 : List Oper := [
  op 29 (.binOp .add 3 (.tmp 14) (.const (.int .i64 1)) 3) 3,
  op 14 (.move (.tmp 29)) 3]
def F49.t6 : Cd := (.region 6 F49.r6.toArray false)
theorem F49.t6_eq {θ : Tag (F49.t6, Q, e, w)} : cwE P F49.t6 Q e w θ = cwE P (.region 6 F49.r6.toArray false) Q e w := rfl
def F49.t4 : Cd := (.seq (.block 1 (.seq (.region 4 F49.r4.toArray false) (.region 5 F49.r5.toArray false))) F49.t6)
theorem F49.t4_eq {θ : Tag (F49.t4, Q, e, w)} : cwE P F49.t4 Q e w θ = cwE P (.seq (.block 1 (.seq (.region 4 F49.r4.toArray false) (.region 5 F49.r5.toArray false))) F49.t6) Q e w := rfl
def F49.t1 : Cd := (.seq (.region 1 F49.r1.toArray false) (.seq (.region 2 F49.r2.toArray false) (.block 0 (.loop (.seq (.region 3 F49.r3.toArray false) (.seq (.cond (.tmp 15) .skip (.exit 0)) F49.t4))))))
theorem F49.t1_eq {θ : Tag (F49.t1, Q, e, w)} : cwE P F49.t1 Q e w θ = cwE P (.seq (.region 1 F49.r1.toArray false) (.seq (.region 2 F49.r2.toArray false) (.block 0 (.loop (.seq (.region 3 F49.r3.toArray false) (.seq (.cond (.tmp 15) .skip (.exit 0)) F49.t4)))))) Q e w := rfl
def F49.code : Cd := (.seq (.seq (.region 0 F49.r0.toArray false) (.cond (.tmp 10) .ret .skip)) F49.t1)
theorem F49.calls (hn : args.size ≤ 30) (h : cwE Tryz.prog F49.code (fnP Tryz.prog #[] R) (entry args) w) : Calls Tryz.prog 49 args w R :=
  calls_of_cwE (types := Tryz.prog.types) follows Tryz.func49 F49.code rfl (by kernel_rfl) hn h

def F50.r0 : List Oper := [
  op 7 (.move (.tmp 0)) 74,
  op 8 (.move (.tmp 2)) 3,
  oc 9 (.call ⟨(.value (.func 111)), #[(.tmp 7), (.tmp 8)], #[74, 3]⟩) 4,
  op 10 (.unOp .not 4 (.tmp 9)) 4]
def F50.r1 : List Oper := [
  op 11 (.move (.tmp 1)) 30,
  op 12 (.convert 30 33 (.tmp 11)) 33,
  op 6 (.assign (.tmp 12)) 33]
def F50.r2 : List Oper := [
  op 13 (.move (.tmp 2)) 3,
  op 14 (.move (.const (.int .i64 0))) 3]
def F50.r3 : List Oper := [
  op 15 (.binOp .lss 3 (.tmp 14) (.tmp 13) 3) 4]
def F50.r4 : List Oper := [
  op 16 (.move (.tmp 0)) 74,
  op 17 (.move (.tmp 0)) 74,
  op 18 (.nilCheck (.tmp 17)) 0,
  op 19 (.fieldAddr 99 (.tmp 18) 1) 0,
  od 20 (.load 28 (.tmp 19)) 28,
  op 21 (.move (.tmp 6)) 33,
  op 22 (.convert 33 5 (.tmp 21)) 5,
  oc 23 (.buildSlice 28 1 #[(0, (.tmp 22))]) 28,
  oc 24 (.call ⟨(.builtin .append), #[(.tmp 20), (.tmp 23)], #[28, 28]⟩) 28,
  op 25 (.nilCheck (.tmp 16)) 0,
  op 26 (.fieldAddr 99 (.tmp 25) 1) 0,
  ⟨none, (.store 28 (.tmp 26) (.tmp 24)), 0, "", #[⟨0, .chain⟩], none⟩]
def F50.r5 : List Oper := [
  op 27 (.move (.tmp 6)) 33,
  op 28 (.binOp .shr 33 (.tmp 27) (.const (.int .u64 8)) 128) 33,
  op 6 (.assign (.tmp 28)) 33]
def F50.r6 : List Oper := [
  op 29 (.binOp .add 3 (.tmp 14) (.const (.int .i64 1)) 3) 3,
  op 14 (.move (.tmp 29)) 3]
def F50.t6 : Cd := (.region 6 F50.r6.toArray false)
theorem F50.t6_eq {θ : Tag (F50.t6, Q, e, w)} : cwE P F50.t6 Q e w θ = cwE P (.region 6 F50.r6.toArray false) Q e w := rfl
def F50.t4 : Cd := (.seq (.block 1 (.seq (.region 4 F50.r4.toArray false) (.region 5 F50.r5.toArray false))) F50.t6)
theorem F50.t4_eq {θ : Tag (F50.t4, Q, e, w)} : cwE P F50.t4 Q e w θ = cwE P (.seq (.block 1 (.seq (.region 4 F50.r4.toArray false) (.region 5 F50.r5.toArray false))) F50.t6) Q e w := rfl
def F50.t1 : Cd := (.seq (.region 1 F50.r1.toArray false) (.seq (.region 2 F50.r2.toArray false) (.block 0 (.loop (.seq (.region 3 F50.r3.toArray false) (.seq (.cond (.tmp 15) .skip (.exit 0)) F50.t4))))))
theorem F50.t1_eq {θ : Tag (F50.t1, Q, e, w)} : cwE P F50.t1 Q e w θ = cwE P (.seq (.region 1 F50.r1.toArray false) (.seq (.region 2 F50.r2.toArray false) (.block 0 (.loop (.seq (.region 3 F50.r3.toArray false) (.seq (.cond (.tmp 15) .skip (.exit 0)) F50.t4)))))) Q e w := rfl
def F50.code : Cd := (.seq (.seq (.region 0 F50.r0.toArray false) (.cond (.tmp 10) .ret .skip)) F50.t1)
theorem F50.calls (hn : args.size ≤ 30) (h : cwE Tryz.prog F50.code (fnP Tryz.prog #[] R) (entry args) w) : Calls Tryz.prog 50 args w R :=
  calls_of_cwE (types := Tryz.prog.types) follows Tryz.func50 F50.code rfl (by kernel_rfl) hn h

def F51.r0 : List Oper := [
  op 4 (.assign (.const (.int .u32 0))) 27]
def F51.r1 : List Oper := [
  op 7 (.move (.tmp 0)) 83,
  op 8 (.move (.tmp 1)) 3,
  oc 9 (.call ⟨(.value (.func 112)), #[(.tmp 7), (.tmp 8)], #[83, 3]⟩) 4,
  op 10 (.unOp .not 4 (.tmp 9)) 4]
def F51.r2 : List Oper := [
  op 4 (.assign (.const (.int .u32 0))) 27]
def F51.r3 : List Oper := [
  op 5 (.assign (.const (.int .u64 0))) 33]
def F51.r4 : List Oper := [
  op 11 (.move (.tmp 1)) 3,
  op 12 (.move (.const (.int .i64 0))) 3]
def F51.r5 : List Oper := [
  op 13 (.binOp .lss 3 (.tmp 12) (.tmp 11) 3) 4]
def F51.r6 : List Oper := [
  op 14 (.move (.tmp 12)) 3,
  op 6 (.assign (.tmp 14)) 3]
def F51.r7 : List Oper := [
  ⟨(some 15), (.move (.tmp 5)), 33, "", #[], none⟩,
  ⟨(some 16), (.move (.tmp 0)), 83, "", #[], none⟩,
  ⟨(some 17), (.nilCheck (.tmp 16)), 0, "", #[], none⟩,
  ⟨(some 18), (.fieldAddr 104 (.tmp 17) 0), 0, "", #[], none⟩,
  ⟨(some 20), (.move (.tmp 0)), 83, "", #[], none⟩,
  ⟨(some 21), (.nilCheck (.tmp 20)), 0, "", #[], none⟩,
  ⟨(some 22), (.fieldAddr 104 (.tmp 21) 1), 0, "", #[], none⟩,
  ⟨(some 24), (.move (.tmp 6)), 3, "", #[], none⟩,
  ⟨(some 29), (.move (.tmp 6)), 3, "", #[], none⟩,
  ⟨(some 30), (.binOp .mul 3 (.const (.int .i64 8)) (.tmp 29) 3), 3, "", #[], none⟩,
  ⟨(some 19), (.load 28 (.tmp 18)), 28, "", #[⟨0, .data⟩], none⟩,
  ⟨(some 23), (.load 3 (.tmp 22)), 3, "", #[⟨0, .data⟩], none⟩,
  ⟨(some 25), (.binOp .add 3 (.tmp 23) (.tmp 24) 3), 3, "", #[], none⟩,
  ⟨(some 26), (.indexAddr 28 (.tmp 19) (.tmp 25)), 0, "", #[], none⟩,
  ⟨(some 27), (.load 5 (.tmp 26)), 5, "", #[⟨0, .data⟩], none⟩,
  ⟨(some 28), (.convert 5 33 (.tmp 27)), 33, "", #[], none⟩,
  ⟨(some 31), (.binOp .shl 33 (.tmp 28) (.tmp 30) 3), 33, "", #[], none⟩,
  ⟨(some 32), (.binOp .or 33 (.tmp 15) (.tmp 31) 33), 33, "", #[], none⟩,
  ⟨(some 5), (.assign (.tmp 32)), 33, "", #[], none⟩]
def F51.r8 : List Oper := [
  op 33 (.binOp .add 3 (.tmp 12) (.const (.int .i64 1)) 3) 3,
  op 12 (.move (.tmp 33)) 3]
def F51.r9 : List Oper := [
  op 34 (.move (.tmp 0)) 83,
  op 35 (.nilCheck (.tmp 34)) 0,
  op 36 (.fieldAddr 104 (.tmp 35) 1) 0,
  od 37 (.load 3 (.tmp 36)) 3,
  op 38 (.move (.tmp 1)) 3,
  op 39 (.binOp .add 3 (.tmp 37) (.tmp 38) 3) 3,
  op 40 (.nilCheck (.tmp 34)) 0,
  op 41 (.fieldAddr 104 (.tmp 40) 1) 0,
  ⟨none, (.store 3 (.tmp 41) (.tmp 39)), 0, "", #[⟨0, .chain⟩], none⟩]
def F51.r10 : List Oper := [
  op 42 (.move (.tmp 5)) 33,
  op 43 (.convert 33 27 (.tmp 42)) 27,
  op 4 (.assign (.tmp 43)) 27]
def F51.t8 : Cd := (.region 8 F51.r8.toArray false)
theorem F51.t8_eq {θ : Tag (F51.t8, Q, e, w)} : cwE P F51.t8 Q e w θ = cwE P (.region 8 F51.r8.toArray false) Q e w := rfl
def F51.t6 : Cd := (.seq (.block 1 (.seq (.region 6 F51.r6.toArray false) (.region 7 F51.r7.toArray true))) F51.t8)
theorem F51.t6_eq {θ : Tag (F51.t6, Q, e, w)} : cwE P F51.t6 Q e w θ = cwE P (.seq (.block 1 (.seq (.region 6 F51.r6.toArray false) (.region 7 F51.r7.toArray true))) F51.t8) Q e w := rfl
def F51.t9 : Cd := (.seq (.region 9 F51.r9.toArray false) (.seq (.region 10 F51.r10.toArray false) .ret))
theorem F51.t9_eq {θ : Tag (F51.t9, Q, e, w)} : cwE P F51.t9 Q e w θ = cwE P (.seq (.region 9 F51.r9.toArray false) (.seq (.region 10 F51.r10.toArray false) .ret)) Q e w := rfl
def F51.t3 : Cd := (.seq (.region 3 F51.r3.toArray false) (.seq (.seq (.region 4 F51.r4.toArray false) (.block 0 (.loop (.seq (.region 5 F51.r5.toArray false) (.seq (.cond (.tmp 13) .skip (.exit 0)) F51.t6))))) F51.t9))
theorem F51.t3_eq {θ : Tag (F51.t3, Q, e, w)} : cwE P F51.t3 Q e w θ = cwE P (.seq (.region 3 F51.r3.toArray false) (.seq (.seq (.region 4 F51.r4.toArray false) (.block 0 (.loop (.seq (.region 5 F51.r5.toArray false) (.seq (.cond (.tmp 13) .skip (.exit 0)) F51.t6))))) F51.t9)) Q e w := rfl
def F51.code : Cd := (.seq (.region 0 F51.r0.toArray false) (.seq (.seq (.region 1 F51.r1.toArray false) (.cond (.tmp 10) (.seq (.region 2 F51.r2.toArray false) .ret) .skip)) F51.t3))
theorem F51.calls (hn : args.size ≤ 44) (h : cwE Tryz.prog F51.code (fnP Tryz.prog #[(.tmp 4)] R) (entry args) w) : Calls Tryz.prog 51 args w R :=
  calls_of_cwE (types := Tryz.prog.types) follows Tryz.func51 F51.code rfl (by kernel_rfl) hn h

def F52.r0 : List Oper := [
  op 4 (.assign (.const (.int .u8 0))) 5]
def F52.r1 : List Oper := [
  op 7 (.move (.tmp 0)) 83,
  op 8 (.move (.tmp 1)) 3,
  oc 9 (.call ⟨(.value (.func 112)), #[(.tmp 7), (.tmp 8)], #[83, 3]⟩) 4,
  op 10 (.unOp .not 4 (.tmp 9)) 4]
def F52.r2 : List Oper := [
  op 4 (.assign (.const (.int .u8 0))) 5]
def F52.r3 : List Oper := [
  op 5 (.assign (.const (.int .u64 0))) 33]
def F52.r4 : List Oper := [
  op 11 (.move (.tmp 1)) 3,
  op 12 (.move (.const (.int .i64 0))) 3]
def F52.r5 : List Oper := [
  op 13 (.binOp .lss 3 (.tmp 12) (.tmp 11) 3) 4]
def F52.r6 : List Oper := [
  op 14 (.move (.tmp 12)) 3,
  op 6 (.assign (.tmp 14)) 3]
def F52.r7 : List Oper := [
  ⟨(some 15), (.move (.tmp 5)), 33, "", #[], none⟩,
  ⟨(some 16), (.move (.tmp 0)), 83, "", #[], none⟩,
  ⟨(some 17), (.nilCheck (.tmp 16)), 0, "", #[], none⟩,
  ⟨(some 18), (.fieldAddr 104 (.tmp 17) 0), 0, "", #[], none⟩,
  ⟨(some 20), (.move (.tmp 0)), 83, "", #[], none⟩,
  ⟨(some 21), (.nilCheck (.tmp 20)), 0, "", #[], none⟩,
  ⟨(some 22), (.fieldAddr 104 (.tmp 21) 1), 0, "", #[], none⟩,
  ⟨(some 24), (.move (.tmp 6)), 3, "", #[], none⟩,
  ⟨(some 29), (.move (.tmp 6)), 3, "", #[], none⟩,
  ⟨(some 30), (.binOp .mul 3 (.const (.int .i64 8)) (.tmp 29) 3), 3, "", #[], none⟩,
  ⟨(some 19), (.load 28 (.tmp 18)), 28, "", #[⟨0, .data⟩], none⟩,
  ⟨(some 23), (.load 3 (.tmp 22)), 3, "", #[⟨0, .data⟩], none⟩,
  ⟨(some 25), (.binOp .add 3 (.tmp 23) (.tmp 24) 3), 3, "", #[], none⟩,
  ⟨(some 26), (.indexAddr 28 (.tmp 19) (.tmp 25)), 0, "", #[], none⟩,
  ⟨(some 27), (.load 5 (.tmp 26)), 5, "", #[⟨0, .data⟩], none⟩,
  ⟨(some 28), (.convert 5 33 (.tmp 27)), 33, "", #[], none⟩,
  ⟨(some 31), (.binOp .shl 33 (.tmp 28) (.tmp 30) 3), 33, "", #[], none⟩,
  ⟨(some 32), (.binOp .or 33 (.tmp 15) (.tmp 31) 33), 33, "", #[], none⟩,
  ⟨(some 5), (.assign (.tmp 32)), 33, "", #[], none⟩]
def F52.r8 : List Oper := [
  op 33 (.binOp .add 3 (.tmp 12) (.const (.int .i64 1)) 3) 3,
  op 12 (.move (.tmp 33)) 3]
def F52.r9 : List Oper := [
  op 34 (.move (.tmp 0)) 83,
  op 35 (.nilCheck (.tmp 34)) 0,
  op 36 (.fieldAddr 104 (.tmp 35) 1) 0,
  od 37 (.load 3 (.tmp 36)) 3,
  op 38 (.move (.tmp 1)) 3,
  op 39 (.binOp .add 3 (.tmp 37) (.tmp 38) 3) 3,
  op 40 (.nilCheck (.tmp 34)) 0,
  op 41 (.fieldAddr 104 (.tmp 40) 1) 0,
  ⟨none, (.store 3 (.tmp 41) (.tmp 39)), 0, "", #[⟨0, .chain⟩], none⟩]
def F52.r10 : List Oper := [
  op 42 (.move (.tmp 5)) 33,
  op 43 (.convert 33 5 (.tmp 42)) 5,
  op 4 (.assign (.tmp 43)) 5]
def F52.t8 : Cd := (.region 8 F52.r8.toArray false)
theorem F52.t8_eq {θ : Tag (F52.t8, Q, e, w)} : cwE P F52.t8 Q e w θ = cwE P (.region 8 F52.r8.toArray false) Q e w := rfl
def F52.t6 : Cd := (.seq (.block 1 (.seq (.region 6 F52.r6.toArray false) (.region 7 F52.r7.toArray true))) F52.t8)
theorem F52.t6_eq {θ : Tag (F52.t6, Q, e, w)} : cwE P F52.t6 Q e w θ = cwE P (.seq (.block 1 (.seq (.region 6 F52.r6.toArray false) (.region 7 F52.r7.toArray true))) F52.t8) Q e w := rfl
def F52.t9 : Cd := (.seq (.region 9 F52.r9.toArray false) (.seq (.region 10 F52.r10.toArray false) .ret))
theorem F52.t9_eq {θ : Tag (F52.t9, Q, e, w)} : cwE P F52.t9 Q e w θ = cwE P (.seq (.region 9 F52.r9.toArray false) (.seq (.region 10 F52.r10.toArray false) .ret)) Q e w := rfl
def F52.t3 : Cd := (.seq (.region 3 F52.r3.toArray false) (.seq (.seq (.region 4 F52.r4.toArray false) (.block 0 (.loop (.seq (.region 5 F52.r5.toArray false) (.seq (.cond (.tmp 13) .skip (.exit 0)) F52.t6))))) F52.t9))
theorem F52.t3_eq {θ : Tag (F52.t3, Q, e, w)} : cwE P F52.t3 Q e w θ = cwE P (.seq (.region 3 F52.r3.toArray false) (.seq (.seq (.region 4 F52.r4.toArray false) (.block 0 (.loop (.seq (.region 5 F52.r5.toArray false) (.seq (.cond (.tmp 13) .skip (.exit 0)) F52.t6))))) F52.t9)) Q e w := rfl
def F52.code : Cd := (.seq (.region 0 F52.r0.toArray false) (.seq (.seq (.region 1 F52.r1.toArray false) (.cond (.tmp 10) (.seq (.region 2 F52.r2.toArray false) .ret) .skip)) F52.t3))
theorem F52.calls (hn : args.size ≤ 44) (h : cwE Tryz.prog F52.code (fnP Tryz.prog #[(.tmp 4)] R) (entry args) w) : Calls Tryz.prog 52 args w R :=
  calls_of_cwE (types := Tryz.prog.types) follows Tryz.func52 F52.code rfl (by kernel_rfl) hn h

def F53.r0 : List Oper := [
  op 4 (.assign (.const (.int .u16 0))) 30]
def F53.r1 : List Oper := [
  op 7 (.move (.tmp 0)) 83,
  op 8 (.move (.tmp 1)) 3,
  oc 9 (.call ⟨(.value (.func 112)), #[(.tmp 7), (.tmp 8)], #[83, 3]⟩) 4,
  op 10 (.unOp .not 4 (.tmp 9)) 4]
def F53.r2 : List Oper := [
  op 4 (.assign (.const (.int .u16 0))) 30]
def F53.r3 : List Oper := [
  op 5 (.assign (.const (.int .u64 0))) 33]
def F53.r4 : List Oper := [
  op 11 (.move (.tmp 1)) 3,
  op 12 (.move (.const (.int .i64 0))) 3]
def F53.r5 : List Oper := [
  op 13 (.binOp .lss 3 (.tmp 12) (.tmp 11) 3) 4]
def F53.r6 : List Oper := [
  op 14 (.move (.tmp 12)) 3,
  op 6 (.assign (.tmp 14)) 3]
def F53.r7 : List Oper := [
  ⟨(some 15), (.move (.tmp 5)), 33, "", #[], none⟩,
  ⟨(some 16), (.move (.tmp 0)), 83, "", #[], none⟩,
  ⟨(some 17), (.nilCheck (.tmp 16)), 0, "", #[], none⟩,
  ⟨(some 18), (.fieldAddr 104 (.tmp 17) 0), 0, "", #[], none⟩,
  ⟨(some 20), (.move (.tmp 0)), 83, "", #[], none⟩,
  ⟨(some 21), (.nilCheck (.tmp 20)), 0, "", #[], none⟩,
  ⟨(some 22), (.fieldAddr 104 (.tmp 21) 1), 0, "", #[], none⟩,
  ⟨(some 24), (.move (.tmp 6)), 3, "", #[], none⟩,
  ⟨(some 29), (.move (.tmp 6)), 3, "", #[], none⟩,
  ⟨(some 30), (.binOp .mul 3 (.const (.int .i64 8)) (.tmp 29) 3), 3, "", #[], none⟩,
  ⟨(some 19), (.load 28 (.tmp 18)), 28, "", #[⟨0, .data⟩], none⟩,
  ⟨(some 23), (.load 3 (.tmp 22)), 3, "", #[⟨0, .data⟩], none⟩,
  ⟨(some 25), (.binOp .add 3 (.tmp 23) (.tmp 24) 3), 3, "", #[], none⟩,
  ⟨(some 26), (.indexAddr 28 (.tmp 19) (.tmp 25)), 0, "", #[], none⟩,
  ⟨(some 27), (.load 5 (.tmp 26)), 5, "", #[⟨0, .data⟩], none⟩,
  ⟨(some 28), (.convert 5 33 (.tmp 27)), 33, "", #[], none⟩,
  ⟨(some 31), (.binOp .shl 33 (.tmp 28) (.tmp 30) 3), 33, "", #[], none⟩,
  ⟨(some 32), (.binOp .or 33 (.tmp 15) (.tmp 31) 33), 33, "", #[], none⟩,
  ⟨(some 5), (.assign (.tmp 32)), 33, "", #[], none⟩]
def F53.r8 : List Oper := [
  op 33 (.binOp .add 3 (.tmp 12) (.const (.int .i64 1)) 3) 3,
  op 12 (.move (.tmp 33)) 3]
def F53.r9 : List Oper := [
  op 34 (.move (.tmp 0)) 83,
  op 35 (.nilCheck (.tmp 34)) 0,
  op 36 (.fieldAddr 104 (.tmp 35) 1) 0,
  od 37 (.load 3 (.tmp 36)) 3,
  op 38 (.move (.tmp 1)) 3,
  op 39 (.binOp .add 3 (.tmp 37) (.tmp 38) 3) 3,
  op 40 (.nilCheck (.tmp 34)) 0,
  op 41 (.fieldAddr 104 (.tmp 40) 1) 0,
  ⟨none, (.store 3 (.tmp 41) (.tmp 39)), 0, "", #[⟨0, .chain⟩], none⟩]
def F53.r10 : List Oper := [
  op 42 (.move (.tmp 5)) 33,
  op 43 (.convert 33 30 (.tmp 42)) 30,
  op 4 (.assign (.tmp 43)) 30]
def F53.t8 : Cd := (.region 8 F53.r8.toArray false)
theorem F53.t8_eq {θ : Tag (F53.t8, Q, e, w)} : cwE P F53.t8 Q e w θ = cwE P (.region 8 F53.r8.toArray false) Q e w := rfl
def F53.t6 : Cd := (.seq (.block 1 (.seq (.region 6 F53.r6.toArray false) (.region 7 F53.r7.toArray true))) F53.t8)
theorem F53.t6_eq {θ : Tag (F53.t6, Q, e, w)} : cwE P F53.t6 Q e w θ = cwE P (.seq (.block 1 (.seq (.region 6 F53.r6.toArray false) (.region 7 F53.r7.toArray true))) F53.t8) Q e w := rfl
def F53.t9 : Cd := (.seq (.region 9 F53.r9.toArray false) (.seq (.region 10 F53.r10.toArray false) .ret))
theorem F53.t9_eq {θ : Tag (F53.t9, Q, e, w)} : cwE P F53.t9 Q e w θ = cwE P (.seq (.region 9 F53.r9.toArray false) (.seq (.region 10 F53.r10.toArray false) .ret)) Q e w := rfl
def F53.t3 : Cd := (.seq (.region 3 F53.r3.toArray false) (.seq (.seq (.region 4 F53.r4.toArray false) (.block 0 (.loop (.seq (.region 5 F53.r5.toArray false) (.seq (.cond (.tmp 13) .skip (.exit 0)) F53.t6))))) F53.t9))
theorem F53.t3_eq {θ : Tag (F53.t3, Q, e, w)} : cwE P F53.t3 Q e w θ = cwE P (.seq (.region 3 F53.r3.toArray false) (.seq (.seq (.region 4 F53.r4.toArray false) (.block 0 (.loop (.seq (.region 5 F53.r5.toArray false) (.seq (.cond (.tmp 13) .skip (.exit 0)) F53.t6))))) F53.t9)) Q e w := rfl
def F53.code : Cd := (.seq (.region 0 F53.r0.toArray false) (.seq (.seq (.region 1 F53.r1.toArray false) (.cond (.tmp 10) (.seq (.region 2 F53.r2.toArray false) .ret) .skip)) F53.t3))
theorem F53.calls (hn : args.size ≤ 44) (h : cwE Tryz.prog F53.code (fnP Tryz.prog #[(.tmp 4)] R) (entry args) w) : Calls Tryz.prog 53 args w R :=
  calls_of_cwE (types := Tryz.prog.types) follows Tryz.func53 F53.code rfl (by kernel_rfl) hn h

def F54.r0 : List Oper := [
  op 6 (.move (.tmp 0)) 83,
  op 7 (.nilCheck (.tmp 6)) 0,
  op 8 (.fieldAddr 104 (.tmp 7) 3) 0,
  od 9 (.load 41 (.tmp 8)) 41,
  op 10 (.binOp .eql 41 (.tmp 9) (.const (.int .i64 0)) 41) 4,
  op 11 (.move (.tmp 10)) 4,
  ⟨(some 12), (.move (.tmp 1)), 41, "", #[], (some (11, true))⟩,
  ⟨(some 13), (.binOp .neq 41 (.tmp 12) (.const (.int .i64 0)) 41), 4, "", #[], (some (11, true))⟩,
  op 14 (.pick (.tmp 11) (.tmp 13) (.const (.bool false))) 4]
def F54.r1 : List Oper := [
  ⟨(some 15), (.move (.tmp 0)), 83, "", #[], none⟩,
  ⟨(some 16), (.move (.tmp 0)), 83, "", #[], none⟩,
  ⟨(some 17), (.move (.tmp 1)), 41, "", #[], none⟩,
  ⟨(some 18), (.move (.tmp 0)), 83, "", #[], none⟩,
  ⟨(some 19), (.nilCheck (.tmp 18)), 0, "", #[], none⟩,
  ⟨(some 20), (.fieldAddr 104 (.tmp 19) 2), 0, "", #[], none⟩,
  ⟨(some 22), (.move (.tmp 0)), 83, "", #[], none⟩,
  ⟨(some 23), (.nilCheck (.tmp 22)), 0, "", #[], none⟩,
  ⟨(some 24), (.fieldAddr 104 (.tmp 23) 1), 0, "", #[], none⟩,
  ⟨(some 27), (.move (.tmp 2)), 3, "", #[], none⟩,
  ⟨(some 21), (.load 3 (.tmp 20)), 3, "", #[⟨589824, .data⟩], none⟩,
  ⟨(some 25), (.load 3 (.tmp 24)), 3, "", #[⟨589824, .data⟩], none⟩,
  ⟨(some 26), (.binOp .add 3 (.tmp 21) (.tmp 25) 3), 3, "", #[], none⟩,
  ⟨(some 28), (.binOp .add 3 (.tmp 26) (.tmp 27) 3), 3, "", #[], none⟩,
  ⟨(some 29), (.nilCheck (.tmp 15)), 0, "", #[], none⟩,
  ⟨(some 30), (.fieldAddr 104 (.tmp 29) 3), 0, "", #[], none⟩,
  ⟨none, (.store 41 (.tmp 30) (.tmp 17)), 0, "", #[⟨16, .chain⟩], none⟩,
  ⟨(some 31), (.nilCheck (.tmp 16)), 0, "", #[], none⟩,
  ⟨(some 32), (.fieldAddr 104 (.tmp 31) 4), 0, "", #[], none⟩,
  ⟨none, (.store 3 (.tmp 32) (.tmp 28)), 0, "", #[⟨19, .chain⟩], none⟩]
def F54.code : Cd := (.seq (.region 0 F54.r0.toArray false) (.cond (.tmp 14) (.region 1 F54.r1.toArray true) .skip))
theorem F54.calls (hn : args.size ≤ 33) (h : cwE Tryz.prog F54.code (fnP Tryz.prog #[] R) (entry args) w) : Calls Tryz.prog 54 args w R :=
  calls_of_cwE (types := Tryz.prog.types) follows Tryz.func54 F54.code rfl (by kernel_rfl) hn h

def F55.r0 : List Oper := [
  op 2 (.assign (.const (.bool false))) 4]
def F55.r1 : List Oper := [
  op 2 (.assign (.const (.bool true))) 4]
def F55.code : Cd := (.seq (.region 0 F55.r0.toArray false) (.seq (.region 1 F55.r1.toArray false) .ret))
theorem F55.calls (hn : args.size ≤ 3) (h : cwE Tryz.prog F55.code (fnP Tryz.prog #[(.tmp 2)] R) (entry args) w) : Calls Tryz.prog 55 args w R :=
  calls_of_cwE (types := Tryz.prog.types) follows Tryz.func55 F55.code rfl (by kernel_rfl) hn h

def F56.r0 : List Oper := [
  op 5 (.move (.tmp 0)) 74,
  od 6 (.load 93 (.tmp 2)) 93,
  op 7 (.move (.tmp 1)) 73,
  ⟨(some 8), (.call ⟨(.value (.tmp 6)), #[(.tmp 7)], #[73]⟩), 92, "", #[⟨0, .phase⟩], none⟩,
  op 9 (.nilCheck (.tmp 8)) 0,
  od 10 (.load 27 (.tmp 9)) 27,
  oc 11 (.call ⟨(.value (.func 20)), #[(.tmp 5), (.tmp 10)], #[74, 27]⟩) 0]
def F56.code : Cd := (.region 0 F56.r0.toArray false)
theorem F56.calls (hn : args.size ≤ 12) (h : cwE Tryz.prog F56.code (fnP Tryz.prog #[] R) (entry args) w) : Calls Tryz.prog 56 args w R :=
  calls_of_cwE (types := Tryz.prog.types) follows Tryz.func56 F56.code rfl (by kernel_rfl) hn h

def F57.r0 : List Oper := [
  od 5 (.load 93 (.tmp 2)) 93,
  op 6 (.move (.tmp 1)) 73,
  ⟨(some 7), (.call ⟨(.value (.tmp 5)), #[(.tmp 6)], #[73]⟩), 92, "", #[⟨0, .phase⟩], none⟩,
  op 8 (.move (.tmp 0)) 83,
  oc 9 (.call ⟨(.value (.func 27)), #[(.tmp 8)], #[83]⟩) 27,
  op 10 (.nilCheck (.tmp 7)) 0,
  ⟨none, (.store 27 (.tmp 10) (.tmp 9)), 0, "", #[⟨0, .chain⟩], none⟩]
def F57.code : Cd := (.region 0 F57.r0.toArray false)
theorem F57.calls (hn : args.size ≤ 11) (h : cwE Tryz.prog F57.code (fnP Tryz.prog #[] R) (entry args) w) : Calls Tryz.prog 57 args w R :=
  calls_of_cwE (types := Tryz.prog.types) follows Tryz.func57 F57.code rfl (by kernel_rfl) hn h

def F58.r0 : List Oper := [
  ⟨(some 6), (.move (.tmp 0)), 73, "", #[], none⟩,
  ⟨(some 9), (.move (.tmp 1)), 73, "", #[], none⟩,
  ⟨(some 5), (.load 93 (.tmp 2)), 93, "", #[⟨548, .data⟩], none⟩,
  ⟨(some 8), (.load 93 (.tmp 2)), 93, "", #[⟨544, .data⟩], none⟩,
  ⟨(some 7), (.call ⟨(.value (.tmp 5)), #[(.tmp 6)], #[73]⟩), 92, "", #[⟨2, .chain⟩], none⟩,
  ⟨(some 10), (.call ⟨(.value (.tmp 8)), #[(.tmp 9)], #[73]⟩), 92, "", #[⟨5, .chain⟩], none⟩,
  ⟨(some 11), (.nilCheck (.tmp 10)), 0, "", #[], none⟩,
  ⟨(some 12), (.load 27 (.tmp 11)), 27, "", #[⟨512, .data⟩], none⟩,
  ⟨(some 13), (.nilCheck (.tmp 7)), 0, "", #[], none⟩,
  ⟨none, (.store 27 (.tmp 13) (.tmp 12)), 0, "", #[⟨9, .chain⟩], none⟩]
def F58.code : Cd := (.region 0 F58.r0.toArray true)
theorem F58.calls (hn : args.size ≤ 14) (h : cwE Tryz.prog F58.code (fnP Tryz.prog #[] R) (entry args) w) : Calls Tryz.prog 58 args w R :=
  calls_of_cwE (types := Tryz.prog.types) follows Tryz.func58 F58.code rfl (by kernel_rfl) hn h

def F63.r0 : List Oper := [
  op 3 (.assign (.const (.bool false))) 4]
def F63.r1 : List Oper := [
  od 4 (.load 96 (.tmp 1)) 96,
  op 5 (.move (.tmp 0)) 73,
  ⟨(some 6), (.call ⟨(.value (.tmp 4)), #[(.tmp 5)], #[73]⟩), 95, "", #[⟨0, .phase⟩], none⟩,
  op 7 (.nilCheck (.tmp 6)) 0,
  od 8 (.load 9 (.tmp 7)) 9,
  oc 9 (.call ⟨(.value (.func 64)), #[(.tmp 8)], #[9]⟩) 4,
  op 3 (.assign (.tmp 9)) 4]
def F63.code : Cd := (.seq (.region 0 F63.r0.toArray false) (.seq (.region 1 F63.r1.toArray false) .ret))
theorem F63.calls (hn : args.size ≤ 10) (h : cwE Tryz.prog F63.code (fnP Tryz.prog #[(.tmp 3)] R) (entry args) w) : Calls Tryz.prog 63 args w R :=
  calls_of_cwE (types := Tryz.prog.types) follows Tryz.func63 F63.code rfl (by kernel_rfl) hn h

def F64.r0 : List Oper := [
  op 2 (.assign (.const (.bool false))) 4]
def F64.r1 : List Oper := [
  op 3 (.move (.tmp 0)) 9,
  oc 4 (.call ⟨(.value (.func 117)), #[(.tmp 3)], #[9]⟩) 3,
  op 5 (.binOp .lss 3 (.tmp 4) (.const (.int .i64 0)) 3) 4,
  op 2 (.assign (.tmp 5)) 4]
def F64.code : Cd := (.seq (.region 0 F64.r0.toArray false) (.seq (.region 1 F64.r1.toArray false) .ret))
theorem F64.calls (hn : args.size ≤ 6) (h : cwE Tryz.prog F64.code (fnP Tryz.prog #[(.tmp 2)] R) (entry args) w) : Calls Tryz.prog 64 args w R :=
  calls_of_cwE (types := Tryz.prog.types) follows Tryz.func64 F64.code rfl (by kernel_rfl) hn h

def F65.r0 : List Oper := [
  op 5 (.move (.tmp 0)) 74,
  od 6 (.load 96 (.tmp 2)) 96,
  op 7 (.move (.tmp 1)) 73,
  ⟨(some 8), (.call ⟨(.value (.tmp 6)), #[(.tmp 7)], #[73]⟩), 95, "", #[⟨0, .phase⟩], none⟩,
  op 9 (.nilCheck (.tmp 8)) 0,
  od 10 (.load 9 (.tmp 9)) 9,
  oc 11 (.call ⟨(.value (.func 66)), #[(.tmp 5), (.tmp 10)], #[74, 9]⟩) 0]
def F65.code : Cd := (.region 0 F65.r0.toArray false)
theorem F65.calls (hn : args.size ≤ 12) (h : cwE Tryz.prog F65.code (fnP Tryz.prog #[] R) (entry args) w) : Calls Tryz.prog 65 args w R :=
  calls_of_cwE (types := Tryz.prog.types) follows Tryz.func65 F65.code rfl (by kernel_rfl) hn h

def F66.r0 : List Oper := [
  op 4 (.move (.tmp 0)) 74,
  op 5 (.nilCheck (.tmp 4)) 0,
  op 6 (.fieldAddr 99 (.tmp 5) 3) 0,
  od 7 (.load 41 (.tmp 6)) 41,
  op 8 (.binOp .neq 41 (.tmp 7) (.const (.int .i64 0)) 41) 4]
def F66.r1 : List Oper := [
  op 9 (.move (.tmp 1)) 9,
  op 10 (.call ⟨(.builtin .len), #[(.tmp 9)], #[9]⟩) 3,
  op 11 (.binOp .gtr 3 (.tmp 10) (.const (.int .i64 65535)) 3) 4]
def F66.r2 : List Oper := [
  op 12 (.move (.tmp 0)) 74,
  op 13 (.nilCheck (.tmp 12)) 0,
  op 14 (.fieldAddr 99 (.tmp 13) 3) 0,
  ⟨none, (.store 41 (.tmp 14) (.const (.int .i64 13))), 0, "", #[⟨0, .chain⟩], none⟩]
def F66.r3 : List Oper := [
  op 15 (.move (.tmp 1)) 9,
  oc 16 (.call ⟨(.value (.func 64)), #[(.tmp 15)], #[9]⟩) 4,
  op 17 (.unOp .not 4 (.tmp 16)) 4]
def F66.r4 : List Oper := [
  op 18 (.move (.tmp 0)) 74,
  op 19 (.nilCheck (.tmp 18)) 0,
  op 20 (.fieldAddr 99 (.tmp 19) 3) 0,
  ⟨none, (.store 41 (.tmp 20) (.const (.int .i64 12))), 0, "", #[⟨0, .chain⟩], none⟩]
def F66.r5 : List Oper := [
  op 21 (.move (.tmp 0)) 74,
  op 22 (.move (.tmp 1)) 9,
  op 23 (.call ⟨(.builtin .len), #[(.tmp 22)], #[9]⟩) 3,
  op 24 (.binOp .add 3 (.const (.int .i64 2)) (.tmp 23) 3) 3,
  oc 25 (.call ⟨(.value (.func 111)), #[(.tmp 21), (.tmp 24)], #[74, 3]⟩) 4]
def F66.r6 : List Oper := [
  op 26 (.move (.tmp 0)) 74,
  op 27 (.move (.tmp 0)) 74,
  op 28 (.nilCheck (.tmp 27)) 0,
  op 29 (.fieldAddr 99 (.tmp 28) 1) 0,
  od 30 (.load 28 (.tmp 29)) 28,
  op 31 (.move (.tmp 1)) 9,
  op 32 (.call ⟨(.builtin .len), #[(.tmp 31)], #[9]⟩) 3,
  op 33 (.convert 3 5 (.tmp 32)) 5,
  op 34 (.move (.tmp 1)) 9,
  op 35 (.call ⟨(.builtin .len), #[(.tmp 34)], #[9]⟩) 3,
  op 36 (.binOp .shr 3 (.tmp 35) (.const (.int .u64 8)) 128) 3,
  op 37 (.convert 3 5 (.tmp 36)) 5,
  oc 38 (.buildSlice 28 2 #[(0, (.tmp 33)), (1, (.tmp 37))]) 28,
  oc 39 (.call ⟨(.builtin .append), #[(.tmp 30), (.tmp 38)], #[28, 28]⟩) 28,
  op 40 (.nilCheck (.tmp 26)) 0,
  op 41 (.fieldAddr 99 (.tmp 40) 1) 0,
  ⟨none, (.store 28 (.tmp 41) (.tmp 39)), 0, "", #[⟨0, .chain⟩], none⟩]
def F66.r7 : List Oper := [
  op 42 (.move (.tmp 0)) 74,
  op 43 (.move (.tmp 0)) 74,
  op 44 (.nilCheck (.tmp 43)) 0,
  op 45 (.fieldAddr 99 (.tmp 44) 1) 0,
  od 46 (.load 28 (.tmp 45)) 28,
  op 47 (.move (.tmp 1)) 9,
  oc 48 (.call ⟨(.builtin .append), #[(.tmp 46), (.tmp 47)], #[28, 9]⟩) 28,
  op 49 (.nilCheck (.tmp 42)) 0,
  op 50 (.fieldAddr 99 (.tmp 49) 1) 0,
  ⟨none, (.store 28 (.tmp 50) (.tmp 48)), 0, "", #[⟨0, .chain⟩], none⟩]
def F66.t5 : Cd := (.seq (.region 5 F66.r5.toArray false) (.cond (.tmp 25) (.seq (.region 6 F66.r6.toArray false) (.region 7 F66.r7.toArray false)) .skip))
theorem F66.t5_eq {θ : Tag (F66.t5, Q, e, w)} : cwE P F66.t5 Q e w θ = cwE P (.seq (.region 5 F66.r5.toArray false) (.cond (.tmp 25) (.seq (.region 6 F66.r6.toArray false) (.region 7 F66.r7.toArray false)) .skip)) Q e w := rfl
def F66.t3 : Cd := (.seq (.seq (.region 3 F66.r3.toArray false) (.cond (.tmp 17) (.seq (.region 4 F66.r4.toArray false) .ret) .skip)) F66.t5)
theorem F66.t3_eq {θ : Tag (F66.t3, Q, e, w)} : cwE P F66.t3 Q e w θ = cwE P (.seq (.seq (.region 3 F66.r3.toArray false) (.cond (.tmp 17) (.seq (.region 4 F66.r4.toArray false) .ret) .skip)) F66.t5) Q e w := rfl
def F66.t1 : Cd := (.seq (.seq (.region 1 F66.r1.toArray false) (.cond (.tmp 11) (.seq (.region 2 F66.r2.toArray false) .ret) .skip)) F66.t3)
theorem F66.t1_eq {θ : Tag (F66.t1, Q, e, w)} : cwE P F66.t1 Q e w θ = cwE P (.seq (.seq (.region 1 F66.r1.toArray false) (.cond (.tmp 11) (.seq (.region 2 F66.r2.toArray false) .ret) .skip)) F66.t3) Q e w := rfl
def F66.code : Cd := (.seq (.seq (.region 0 F66.r0.toArray false) (.cond (.tmp 8) .ret .skip)) F66.t1)
theorem F66.calls (hn : args.size ≤ 51) (h : cwE Tryz.prog F66.code (fnP Tryz.prog #[] R) (entry args) w) : Calls Tryz.prog 66 args w R :=
  calls_of_cwE (types := Tryz.prog.types) follows Tryz.func66 F66.code rfl (by kernel_rfl) hn h

def F67.r0 : List Oper := [
  od 5 (.load 96 (.tmp 2)) 96,
  op 6 (.move (.tmp 1)) 73,
  ⟨(some 7), (.call ⟨(.value (.tmp 5)), #[(.tmp 6)], #[73]⟩), 95, "", #[⟨0, .phase⟩], none⟩,
  op 8 (.move (.tmp 0)) 83,
  oc 9 (.call ⟨(.value (.func 68)), #[(.tmp 8)], #[83]⟩) 9,
  op 10 (.nilCheck (.tmp 7)) 0,
  ⟨none, (.store 9 (.tmp 10) (.tmp 9)), 0, "", #[⟨0, .chain⟩], none⟩]
def F67.code : Cd := (.region 0 F67.r0.toArray false)
theorem F67.calls (hn : args.size ≤ 11) (h : cwE Tryz.prog F67.code (fnP Tryz.prog #[] R) (entry args) w) : Calls Tryz.prog 67 args w R :=
  calls_of_cwE (types := Tryz.prog.types) follows Tryz.func67 F67.code rfl (by kernel_rfl) hn h

def F68.r0 : List Oper := [
  op 2 (.assign (.const (.string { data := #[] }))) 9]
def F68.r1 : List Oper := [
  op 8 (.move (.tmp 0)) 83,
  oc 9 (.call ⟨(.value (.func 118)), #[(.tmp 8)], #[83]⟩) 140,
  op 7 (.move (.tmp 9)) 140,
  op 10 (.extract (.tmp 7) 0) 3,
  op 11 (.extract (.tmp 7) 1) 4,
  op 3 (.assign (.tmp 10)) 3,
  op 4 (.assign (.tmp 11)) 4]
def F68.r2 : List Oper := [
  op 12 (.move (.tmp 4)) 4,
  op 13 (.unOp .not 4 (.tmp 12)) 4]
def F68.r3 : List Oper := [
  op 2 (.assign (.const (.string { data := #[] }))) 9]
def F68.r4 : List Oper := [
  ⟨(some 14), (.move (.tmp 0)), 83, "", #[], none⟩,
  ⟨(some 15), (.nilCheck (.tmp 14)), 0, "", #[], none⟩,
  ⟨(some 16), (.fieldAddr 104 (.tmp 15) 0), 0, "", #[], none⟩,
  ⟨(some 18), (.move (.tmp 0)), 83, "", #[], none⟩,
  ⟨(some 19), (.nilCheck (.tmp 18)), 0, "", #[], none⟩,
  ⟨(some 20), (.fieldAddr 104 (.tmp 19) 1), 0, "", #[], none⟩,
  ⟨(some 23), (.move (.tmp 0)), 83, "", #[], none⟩,
  ⟨(some 24), (.nilCheck (.tmp 23)), 0, "", #[], none⟩,
  ⟨(some 25), (.fieldAddr 104 (.tmp 24) 1), 0, "", #[], none⟩,
  ⟨(some 28), (.move (.tmp 3)), 3, "", #[], none⟩,
  ⟨(some 17), (.load 28 (.tmp 16)), 28, "", #[⟨0, .data⟩], none⟩,
  ⟨(some 21), (.load 3 (.tmp 20)), 3, "", #[⟨0, .data⟩], none⟩,
  ⟨(some 22), (.binOp .add 3 (.tmp 21) (.const (.int .i64 2)) 3), 3, "", #[], none⟩,
  ⟨(some 26), (.load 3 (.tmp 25)), 3, "", #[⟨0, .data⟩], none⟩,
  ⟨(some 27), (.binOp .add 3 (.tmp 26) (.const (.int .i64 2)) 3), 3, "", #[], none⟩,
  ⟨(some 29), (.binOp .add 3 (.tmp 27) (.tmp 28) 3), 3, "", #[], none⟩,
  ⟨(some 30), (.slice 28 (.tmp 17) (some (.tmp 22)) (some (.tmp 29)) none), 28, "", #[], none⟩,
  ⟨(some 31), (.convert 28 9 (.tmp 30)), 9, "", #[⟨0, .data⟩], none⟩,
  ⟨(some 5), (.assign (.tmp 31)), 9, "", #[], none⟩]
def F68.r5 : List Oper := [
  op 32 (.move (.tmp 5)) 9,
  oc 33 (.call ⟨(.value (.func 117)), #[(.tmp 32)], #[9]⟩) 3,
  op 6 (.assign (.tmp 33)) 3]
def F68.r6 : List Oper := [
  op 34 (.move (.tmp 6)) 3,
  op 35 (.binOp .geq 3 (.tmp 34) (.const (.int .i64 0)) 3) 4]
def F68.r7 : List Oper := [
  op 36 (.move (.tmp 0)) 83,
  op 37 (.move (.tmp 6)) 3,
  op 38 (.binOp .add 3 (.const (.int .i64 2)) (.tmp 37) 3) 3,
  oc 39 (.call ⟨(.value (.func 54)), #[(.tmp 36), (.const (.int .i64 12)), (.tmp 38)], #[83, 41, 3]⟩) 0]
def F68.r8 : List Oper := [
  op 2 (.assign (.const (.string { data := #[] }))) 9]
def F68.r9 : List Oper := [
  op 40 (.move (.tmp 0)) 83,
  op 41 (.nilCheck (.tmp 40)) 0,
  op 42 (.fieldAddr 104 (.tmp 41) 1) 0,
  od 43 (.load 3 (.tmp 42)) 3,
  op 44 (.move (.tmp 3)) 3,
  op 45 (.binOp .add 3 (.const (.int .i64 2)) (.tmp 44) 3) 3,
  op 46 (.binOp .add 3 (.tmp 43) (.tmp 45) 3) 3,
  op 47 (.nilCheck (.tmp 40)) 0,
  op 48 (.fieldAddr 104 (.tmp 47) 1) 0,
  ⟨none, (.store 3 (.tmp 48) (.tmp 46)), 0, "", #[⟨0, .chain⟩], none⟩]
def F68.r10 : List Oper := [
  op 49 (.move (.tmp 5)) 9,
  op 2 (.assign (.tmp 49)) 9]
def F68.t9 : Cd := (.seq (.region 9 F68.r9.toArray false) (.seq (.region 10 F68.r10.toArray false) .ret))
theorem F68.t9_eq {θ : Tag (F68.t9, Q, e, w)} : cwE P F68.t9 Q e w θ = cwE P (.seq (.region 9 F68.r9.toArray false) (.seq (.region 10 F68.r10.toArray false) .ret)) Q e w := rfl
def F68.t4 : Cd := (.seq (.region 4 F68.r4.toArray true) (.seq (.seq (.region 5 F68.r5.toArray false) (.seq (.region 6 F68.r6.toArray false) (.cond (.tmp 35) (.seq (.region 7 F68.r7.toArray false) (.seq (.region 8 F68.r8.toArray false) .ret)) .skip))) F68.t9))
theorem F68.t4_eq {θ : Tag (F68.t4, Q, e, w)} : cwE P F68.t4 Q e w θ = cwE P (.seq (.region 4 F68.r4.toArray true) (.seq (.seq (.region 5 F68.r5.toArray false) (.seq (.region 6 F68.r6.toArray false) (.cond (.tmp 35) (.seq (.region 7 F68.r7.toArray false) (.seq (.region 8 F68.r8.toArray false) .ret)) .skip))) F68.t9)) Q e w := rfl
def F68.code : Cd := (.seq (.region 0 F68.r0.toArray false) (.seq (.region 1 F68.r1.toArray false) (.seq (.seq (.region 2 F68.r2.toArray false) (.cond (.tmp 13) (.seq (.region 3 F68.r3.toArray false) .ret) .skip)) F68.t4)))
theorem F68.calls (hn : args.size ≤ 50) (h : cwE Tryz.prog F68.code (fnP Tryz.prog #[(.tmp 2)] R) (entry args) w) : Calls Tryz.prog 68 args w R :=
  calls_of_cwE (types := Tryz.prog.types) follows Tryz.func68 F68.code rfl (by kernel_rfl) hn h

def F69.r0 : List Oper := [
  ⟨(some 6), (.move (.tmp 0)), 73, "", #[], none⟩,
  ⟨(some 9), (.move (.tmp 1)), 73, "", #[], none⟩,
  ⟨(some 5), (.load 96 (.tmp 2)), 96, "", #[⟨548, .data⟩], none⟩,
  ⟨(some 8), (.load 96 (.tmp 2)), 96, "", #[⟨544, .data⟩], none⟩,
  ⟨(some 7), (.call ⟨(.value (.tmp 5)), #[(.tmp 6)], #[73]⟩), 95, "", #[⟨2, .chain⟩], none⟩,
  ⟨(some 10), (.call ⟨(.value (.tmp 8)), #[(.tmp 9)], #[73]⟩), 95, "", #[⟨5, .chain⟩], none⟩,
  ⟨(some 11), (.nilCheck (.tmp 10)), 0, "", #[], none⟩,
  ⟨(some 12), (.load 9 (.tmp 11)), 9, "", #[⟨512, .data⟩], none⟩,
  ⟨(some 13), (.nilCheck (.tmp 7)), 0, "", #[], none⟩,
  ⟨none, (.store 9 (.tmp 13) (.tmp 12)), 0, "", #[⟨9, .chain⟩], none⟩]
def F69.code : Cd := (.region 0 F69.r0.toArray true)
theorem F69.calls (hn : args.size ≤ 14) (h : cwE Tryz.prog F69.code (fnP Tryz.prog #[] R) (entry args) w) : Calls Tryz.prog 69 args w R :=
  calls_of_cwE (types := Tryz.prog.types) follows Tryz.func69 F69.code rfl (by kernel_rfl) hn h

def F74.r0 : List Oper := [
  op 4 (.move (.tmp 0)) 74,
  op 5 (.move (.tmp 1)) 73,
  op 6 (.nilCheck (.tmp 5)) 0,
  op 7 (.fieldAddr 39 (.tmp 6) 8) 0,
  od 8 (.load 30 (.tmp 7)) 30,
  oc 9 (.call ⟨(.value (.func 22)), #[(.tmp 4), (.tmp 8)], #[74, 30]⟩) 0]
def F74.code : Cd := (.region 0 F74.r0.toArray false)
theorem F74.calls (hn : args.size ≤ 10) (h : cwE Tryz.prog F74.code (fnP Tryz.prog #[] R) (entry args) w) : Calls Tryz.prog 74 args w R :=
  calls_of_cwE (types := Tryz.prog.types) follows Tryz.func74 F74.code rfl (by kernel_rfl) hn h

def F75.r0 : List Oper := [
  op 4 (.move (.tmp 1)) 73,
  op 5 (.move (.tmp 0)) 83,
  oc 6 (.call ⟨(.value (.func 29)), #[(.tmp 5)], #[83]⟩) 30,
  op 7 (.nilCheck (.tmp 4)) 0,
  op 8 (.fieldAddr 39 (.tmp 7) 8) 0,
  ⟨none, (.store 30 (.tmp 8) (.tmp 6)), 0, "", #[⟨0, .chain⟩], none⟩]
def F75.code : Cd := (.region 0 F75.r0.toArray false)
theorem F75.calls (hn : args.size ≤ 9) (h : cwE Tryz.prog F75.code (fnP Tryz.prog #[] R) (entry args) w) : Calls Tryz.prog 75 args w R :=
  calls_of_cwE (types := Tryz.prog.types) follows Tryz.func75 F75.code rfl (by kernel_rfl) hn h

def F76.r0 : List Oper := [
  op 4 (.move (.tmp 0)) 73,
  op 5 (.move (.tmp 1)) 73,
  op 6 (.nilCheck (.tmp 5)) 0,
  op 7 (.fieldAddr 39 (.tmp 6) 8) 0,
  od 8 (.load 30 (.tmp 7)) 30,
  op 9 (.nilCheck (.tmp 4)) 0,
  op 10 (.fieldAddr 39 (.tmp 9) 8) 0,
  ⟨none, (.store 30 (.tmp 10) (.tmp 8)), 0, "", #[⟨0, .chain⟩], none⟩]
def F76.code : Cd := (.region 0 F76.r0.toArray false)
theorem F76.calls (hn : args.size ≤ 11) (h : cwE Tryz.prog F76.code (fnP Tryz.prog #[] R) (entry args) w) : Calls Tryz.prog 76 args w R :=
  calls_of_cwE (types := Tryz.prog.types) follows Tryz.func76 F76.code rfl (by kernel_rfl) hn h

def F79.r0 : List Oper := [
  op 4 (.move (.tmp 0)) 74,
  op 5 (.move (.tmp 1)) 73,
  op 6 (.nilCheck (.tmp 5)) 0,
  op 7 (.fieldAddr 39 (.tmp 6) 14) 0,
  od 8 (.load 5 (.tmp 7)) 5,
  oc 9 (.call ⟨(.value (.func 21)), #[(.tmp 4), (.tmp 8)], #[74, 5]⟩) 0]
def F79.code : Cd := (.region 0 F79.r0.toArray false)
theorem F79.calls (hn : args.size ≤ 10) (h : cwE Tryz.prog F79.code (fnP Tryz.prog #[] R) (entry args) w) : Calls Tryz.prog 79 args w R :=
  calls_of_cwE (types := Tryz.prog.types) follows Tryz.func79 F79.code rfl (by kernel_rfl) hn h

def F80.r0 : List Oper := [
  op 4 (.move (.tmp 1)) 73,
  op 5 (.move (.tmp 0)) 83,
  oc 6 (.call ⟨(.value (.func 28)), #[(.tmp 5)], #[83]⟩) 5,
  op 7 (.nilCheck (.tmp 4)) 0,
  op 8 (.fieldAddr 39 (.tmp 7) 14) 0,
  ⟨none, (.store 5 (.tmp 8) (.tmp 6)), 0, "", #[⟨0, .chain⟩], none⟩]
def F80.code : Cd := (.region 0 F80.r0.toArray false)
theorem F80.calls (hn : args.size ≤ 9) (h : cwE Tryz.prog F80.code (fnP Tryz.prog #[] R) (entry args) w) : Calls Tryz.prog 80 args w R :=
  calls_of_cwE (types := Tryz.prog.types) follows Tryz.func80 F80.code rfl (by kernel_rfl) hn h

def F81.r0 : List Oper := [
  op 4 (.move (.tmp 0)) 73,
  op 5 (.move (.tmp 1)) 73,
  op 6 (.nilCheck (.tmp 5)) 0,
  op 7 (.fieldAddr 39 (.tmp 6) 14) 0,
  od 8 (.load 5 (.tmp 7)) 5,
  op 9 (.nilCheck (.tmp 4)) 0,
  op 10 (.fieldAddr 39 (.tmp 9) 14) 0,
  ⟨none, (.store 5 (.tmp 10) (.tmp 8)), 0, "", #[⟨0, .chain⟩], none⟩]
def F81.code : Cd := (.region 0 F81.r0.toArray false)
theorem F81.calls (hn : args.size ≤ 11) (h : cwE Tryz.prog F81.code (fnP Tryz.prog #[] R) (entry args) w) : Calls Tryz.prog 81 args w R :=
  calls_of_cwE (types := Tryz.prog.types) follows Tryz.func81 F81.code rfl (by kernel_rfl) hn h

def F84.r0 : List Oper := [
  op 4 (.move (.tmp 0)) 74,
  op 5 (.move (.tmp 1)) 73,
  op 6 (.nilCheck (.tmp 5)) 0,
  op 7 (.fieldAddr 39 (.tmp 6) 18) 0,
  od 8 (.load 33 (.tmp 7)) 33,
  oc 9 (.call ⟨(.value (.func 85)), #[(.tmp 4), (.tmp 8)], #[74, 33]⟩) 0]
def F84.code : Cd := (.region 0 F84.r0.toArray false)
theorem F84.calls (hn : args.size ≤ 10) (h : cwE Tryz.prog F84.code (fnP Tryz.prog #[] R) (entry args) w) : Calls Tryz.prog 84 args w R :=
  calls_of_cwE (types := Tryz.prog.types) follows Tryz.func84 F84.code rfl (by kernel_rfl) hn h

def F85.r0 : List Oper := [
  op 4 (.move (.tmp 0)) 74,
  op 5 (.move (.tmp 1)) 33,
  oc 6 (.call ⟨(.value (.func 125)), #[(.tmp 4), (.tmp 5), (.const (.int .i64 8))], #[74, 33, 3]⟩) 0]
def F85.code : Cd := (.region 0 F85.r0.toArray false)
theorem F85.calls (hn : args.size ≤ 7) (h : cwE Tryz.prog F85.code (fnP Tryz.prog #[] R) (entry args) w) : Calls Tryz.prog 85 args w R :=
  calls_of_cwE (types := Tryz.prog.types) follows Tryz.func85 F85.code rfl (by kernel_rfl) hn h

def F86.r0 : List Oper := [
  op 4 (.move (.tmp 1)) 73,
  op 5 (.move (.tmp 0)) 83,
  oc 6 (.call ⟨(.value (.func 87)), #[(.tmp 5)], #[83]⟩) 33,
  op 7 (.nilCheck (.tmp 4)) 0,
  op 8 (.fieldAddr 39 (.tmp 7) 18) 0,
  ⟨none, (.store 33 (.tmp 8) (.tmp 6)), 0, "", #[⟨0, .chain⟩], none⟩]
def F86.code : Cd := (.region 0 F86.r0.toArray false)
theorem F86.calls (hn : args.size ≤ 9) (h : cwE Tryz.prog F86.code (fnP Tryz.prog #[] R) (entry args) w) : Calls Tryz.prog 86 args w R :=
  calls_of_cwE (types := Tryz.prog.types) follows Tryz.func86 F86.code rfl (by kernel_rfl) hn h

def F87.r0 : List Oper := [
  op 2 (.assign (.const (.int .u64 0))) 33]
def F87.r1 : List Oper := [
  op 3 (.move (.tmp 0)) 83,
  oc 4 (.call ⟨(.value (.func 126)), #[(.tmp 3), (.const (.int .i64 8))], #[83, 3]⟩) 33,
  op 2 (.assign (.tmp 4)) 33]
def F87.code : Cd := (.seq (.region 0 F87.r0.toArray false) (.seq (.region 1 F87.r1.toArray false) .ret))
theorem F87.calls (hn : args.size ≤ 5) (h : cwE Tryz.prog F87.code (fnP Tryz.prog #[(.tmp 2)] R) (entry args) w) : Calls Tryz.prog 87 args w R :=
  calls_of_cwE (types := Tryz.prog.types) follows Tryz.func87 F87.code rfl (by kernel_rfl) hn h

def F88.r0 : List Oper := [
  op 4 (.move (.tmp 0)) 73,
  op 5 (.move (.tmp 1)) 73,
  op 6 (.nilCheck (.tmp 5)) 0,
  op 7 (.fieldAddr 39 (.tmp 6) 18) 0,
  od 8 (.load 33 (.tmp 7)) 33,
  op 9 (.nilCheck (.tmp 4)) 0,
  op 10 (.fieldAddr 39 (.tmp 9) 18) 0,
  ⟨none, (.store 33 (.tmp 10) (.tmp 8)), 0, "", #[⟨0, .chain⟩], none⟩]
def F88.code : Cd := (.region 0 F88.r0.toArray false)
theorem F88.calls (hn : args.size ≤ 11) (h : cwE Tryz.prog F88.code (fnP Tryz.prog #[] R) (entry args) w) : Calls Tryz.prog 88 args w R :=
  calls_of_cwE (types := Tryz.prog.types) follows Tryz.func88 F88.code rfl (by kernel_rfl) hn h

def F91.r0 : List Oper := [
  op 4 (.move (.tmp 0)) 74,
  op 5 (.move (.tmp 1)) 73,
  op 6 (.nilCheck (.tmp 5)) 0,
  op 7 (.fieldAddr 39 (.tmp 6) 20) 0,
  od 8 (.load 28 (.tmp 7)) 28,
  op 9 (.call ⟨(.builtin .len), #[(.tmp 8)], #[28]⟩) 3,
  op 10 (.convert 3 27 (.tmp 9)) 27,
  oc 11 (.call ⟨(.value (.func 20)), #[(.tmp 4), (.tmp 10)], #[74, 27]⟩) 0]
def F91.r1 : List Oper := [
  op 12 (.move (.tmp 0)) 74,
  op 13 (.move (.tmp 1)) 73,
  op 14 (.nilCheck (.tmp 13)) 0,
  op 15 (.fieldAddr 39 (.tmp 14) 20) 0,
  od 16 (.load 28 (.tmp 15)) 28,
  oc 17 (.call ⟨(.value (.func 92)), #[(.tmp 12), (.tmp 16)], #[74, 28]⟩) 0]
def F91.code : Cd := (.seq (.region 0 F91.r0.toArray false) (.region 1 F91.r1.toArray false))
theorem F91.calls (hn : args.size ≤ 18) (h : cwE Tryz.prog F91.code (fnP Tryz.prog #[] R) (entry args) w) : Calls Tryz.prog 91 args w R :=
  calls_of_cwE (types := Tryz.prog.types) follows Tryz.func91 F91.code rfl (by kernel_rfl) hn h

def F92.r0 : List Oper := [
  op 4 (.move (.tmp 0)) 74,
  op 5 (.move (.tmp 1)) 28,
  op 6 (.call ⟨(.builtin .len), #[(.tmp 5)], #[28]⟩) 3,
  oc 7 (.call ⟨(.value (.func 111)), #[(.tmp 4), (.tmp 6)], #[74, 3]⟩) 4]
def F92.r1 : List Oper := [
  op 8 (.move (.tmp 0)) 74,
  op 9 (.move (.tmp 0)) 74,
  op 10 (.nilCheck (.tmp 9)) 0,
  op 11 (.fieldAddr 99 (.tmp 10) 1) 0,
  od 12 (.load 28 (.tmp 11)) 28,
  op 13 (.move (.tmp 1)) 28,
  oc 14 (.call ⟨(.builtin .append), #[(.tmp 12), (.tmp 13)], #[28, 28]⟩) 28,
  op 15 (.nilCheck (.tmp 8)) 0,
  op 16 (.fieldAddr 99 (.tmp 15) 1) 0,
  ⟨none, (.store 28 (.tmp 16) (.tmp 14)), 0, "", #[⟨0, .chain⟩], none⟩]
def F92.code : Cd := (.seq (.region 0 F92.r0.toArray false) (.cond (.tmp 7) (.region 1 F92.r1.toArray false) .skip))
theorem F92.calls (hn : args.size ≤ 17) (h : cwE Tryz.prog F92.code (fnP Tryz.prog #[] R) (entry args) w) : Calls Tryz.prog 92 args w R :=
  calls_of_cwE (types := Tryz.prog.types) follows Tryz.func92 F92.code rfl (by kernel_rfl) hn h

def F93.r0 : List Oper := [
  op 4 (.move (.tmp 1)) 73,
  op 5 (.move (.tmp 0)) 83,
  op 6 (.move (.tmp 0)) 83,
  oc 7 (.call ⟨(.value (.func 27)), #[(.tmp 6)], #[83]⟩) 27,
  op 8 (.convert 27 3 (.tmp 7)) 3,
  oc 9 (.call ⟨(.value (.func 94)), #[(.tmp 5), (.tmp 8)], #[83, 3]⟩) 28,
  op 10 (.nilCheck (.tmp 4)) 0,
  op 11 (.fieldAddr 39 (.tmp 10) 20) 0,
  ⟨none, (.store 28 (.tmp 11) (.tmp 9)), 0, "", #[⟨0, .chain⟩], none⟩]
def F93.code : Cd := (.region 0 F93.r0.toArray false)
theorem F93.calls (hn : args.size ≤ 12) (h : cwE Tryz.prog F93.code (fnP Tryz.prog #[] R) (entry args) w) : Calls Tryz.prog 93 args w R :=
  calls_of_cwE (types := Tryz.prog.types) follows Tryz.func93 F93.code rfl (by kernel_rfl) hn h

def F94.r0 : List Oper := [
  op 4 (.assign (.const (.slice none 0 0))) 28]
def F94.r1 : List Oper := [
  op 6 (.move (.tmp 1)) 3,
  op 7 (.binOp .lss 3 (.tmp 6) (.const (.int .i64 0)) 3) 4]
def F94.r2 : List Oper := [
  op 8 (.move (.tmp 0)) 83,
  oc 9 (.call ⟨(.value (.func 54)), #[(.tmp 8), (.const (.int .i64 1)), (.const (.int .i64 0))], #[83, 41, 3]⟩) 0]
def F94.r3 : List Oper := [
  op 4 (.assign (.const (.slice none 0 0))) 28]
def F94.r4 : List Oper := [
  op 10 (.move (.tmp 0)) 83,
  op 11 (.move (.tmp 1)) 3,
  oc 12 (.call ⟨(.value (.func 112)), #[(.tmp 10), (.tmp 11)], #[83, 3]⟩) 4,
  op 13 (.unOp .not 4 (.tmp 12)) 4]
def F94.r5 : List Oper := [
  op 4 (.assign (.const (.slice none 0 0))) 28]
def F94.r6 : List Oper := [
  ⟨(some 14), (.move (.tmp 0)), 83, "", #[], none⟩,
  ⟨(some 15), (.nilCheck (.tmp 14)), 0, "", #[], none⟩,
  ⟨(some 16), (.fieldAddr 104 (.tmp 15) 0), 0, "", #[], none⟩,
  ⟨(some 18), (.move (.tmp 0)), 83, "", #[], none⟩,
  ⟨(some 19), (.nilCheck (.tmp 18)), 0, "", #[], none⟩,
  ⟨(some 20), (.fieldAddr 104 (.tmp 19) 1), 0, "", #[], none⟩,
  ⟨(some 22), (.move (.tmp 0)), 83, "", #[], none⟩,
  ⟨(some 23), (.nilCheck (.tmp 22)), 0, "", #[], none⟩,
  ⟨(some 24), (.fieldAddr 104 (.tmp 23) 1), 0, "", #[], none⟩,
  ⟨(some 26), (.move (.tmp 1)), 3, "", #[], none⟩,
  ⟨(some 17), (.load 28 (.tmp 16)), 28, "", #[⟨32768, .data⟩], none⟩,
  ⟨(some 21), (.load 3 (.tmp 20)), 3, "", #[⟨32768, .data⟩], none⟩,
  ⟨(some 25), (.load 3 (.tmp 24)), 3, "", #[⟨32768, .data⟩], none⟩,
  ⟨(some 27), (.binOp .add 3 (.tmp 25) (.tmp 26) 3), 3, "", #[], none⟩,
  ⟨(some 28), (.slice 28 (.tmp 17) (some (.tmp 21)) (some (.tmp 27)) none), 28, "", #[], none⟩,
  ⟨(some 29), (.call ⟨(.builtin .append), #[(.const (.slice none 0 0)), (.tmp 28)], #[28, 28]⟩), 28, "", #[⟨15, .chain⟩], none⟩,
  ⟨(some 5), (.assign (.tmp 29)), 28, "", #[], none⟩]
def F94.r7 : List Oper := [
  op 30 (.move (.tmp 0)) 83,
  op 31 (.nilCheck (.tmp 30)) 0,
  op 32 (.fieldAddr 104 (.tmp 31) 1) 0,
  od 33 (.load 3 (.tmp 32)) 3,
  op 34 (.move (.tmp 1)) 3,
  op 35 (.binOp .add 3 (.tmp 33) (.tmp 34) 3) 3,
  op 36 (.nilCheck (.tmp 30)) 0,
  op 37 (.fieldAddr 104 (.tmp 36) 1) 0,
  ⟨none, (.store 3 (.tmp 37) (.tmp 35)), 0, "", #[⟨0, .chain⟩], none⟩]
def F94.r8 : List Oper := [
  op 38 (.move (.tmp 5)) 28,
  op 4 (.assign (.tmp 38)) 28]
def F94.t6 : Cd := (.seq (.region 6 F94.r6.toArray true) (.seq (.region 7 F94.r7.toArray false) (.seq (.region 8 F94.r8.toArray false) .ret)))
theorem F94.t6_eq {θ : Tag (F94.t6, Q, e, w)} : cwE P F94.t6 Q e w θ = cwE P (.seq (.region 6 F94.r6.toArray true) (.seq (.region 7 F94.r7.toArray false) (.seq (.region 8 F94.r8.toArray false) .ret))) Q e w := rfl
def F94.t4 : Cd := (.seq (.seq (.region 4 F94.r4.toArray false) (.cond (.tmp 13) (.seq (.region 5 F94.r5.toArray false) .ret) .skip)) F94.t6)
theorem F94.t4_eq {θ : Tag (F94.t4, Q, e, w)} : cwE P F94.t4 Q e w θ = cwE P (.seq (.seq (.region 4 F94.r4.toArray false) (.cond (.tmp 13) (.seq (.region 5 F94.r5.toArray false) .ret) .skip)) F94.t6) Q e w := rfl
def F94.code : Cd := (.seq (.region 0 F94.r0.toArray false) (.seq (.seq (.region 1 F94.r1.toArray false) (.cond (.tmp 7) (.seq (.region 2 F94.r2.toArray false) (.seq (.region 3 F94.r3.toArray false) .ret)) .skip)) F94.t4))
theorem F94.calls (hn : args.size ≤ 39) (h : cwE Tryz.prog F94.code (fnP Tryz.prog #[(.tmp 4)] R) (entry args) w) : Calls Tryz.prog 94 args w R :=
  calls_of_cwE (types := Tryz.prog.types) follows Tryz.func94 F94.code rfl (by kernel_rfl) hn h

def F95.r0 : List Oper := [
  op 4 (.move (.tmp 0)) 73,
  op 5 (.move (.tmp 1)) 73,
  op 6 (.nilCheck (.tmp 5)) 0,
  op 7 (.fieldAddr 39 (.tmp 6) 20) 0,
  od 8 (.load 28 (.tmp 7)) 28,
  oc 9 (.call ⟨(.value (.func 96)), #[(.tmp 8)], #[28]⟩) 28,
  op 10 (.nilCheck (.tmp 4)) 0,
  op 11 (.fieldAddr 39 (.tmp 10) 20) 0,
  ⟨none, (.store 28 (.tmp 11) (.tmp 9)), 0, "", #[⟨0, .chain⟩], none⟩]
def F95.code : Cd := (.region 0 F95.r0.toArray false)
theorem F95.calls (hn : args.size ≤ 12) (h : cwE Tryz.prog F95.code (fnP Tryz.prog #[] R) (entry args) w) : Calls Tryz.prog 95 args w R :=
  calls_of_cwE (types := Tryz.prog.types) follows Tryz.func95 F95.code rfl (by kernel_rfl) hn h

def F96.r0 : List Oper := [
  op 2 (.assign (.const (.slice none 0 0))) 28]
def F96.r1 : List Oper := [
  op 3 (.move (.tmp 0)) 28,
  op 4 (.binOp .eql 28 (.tmp 3) (.const (.slice none 0 0)) 28) 4]
def F96.r2 : List Oper := [
  op 2 (.assign (.const (.slice none 0 0))) 28]
def F96.r3 : List Oper := [
  oc 5 (.buildSlice 28 0 #[]) 28,
  op 6 (.move (.tmp 0)) 28,
  oc 7 (.call ⟨(.builtin .append), #[(.tmp 5), (.tmp 6)], #[28, 28]⟩) 28,
  op 2 (.assign (.tmp 7)) 28]
def F96.t3 : Cd := (.seq (.region 3 F96.r3.toArray false) .ret)
theorem F96.t3_eq {θ : Tag (F96.t3, Q, e, w)} : cwE P F96.t3 Q e w θ = cwE P (.seq (.region 3 F96.r3.toArray false) .ret) Q e w := rfl
def F96.code : Cd := (.seq (.region 0 F96.r0.toArray false) (.seq (.seq (.region 1 F96.r1.toArray false) (.cond (.tmp 4) (.seq (.region 2 F96.r2.toArray false) .ret) .skip)) F96.t3))
theorem F96.calls (hn : args.size ≤ 8) (h : cwE Tryz.prog F96.code (fnP Tryz.prog #[(.tmp 2)] R) (entry args) w) : Calls Tryz.prog 96 args w R :=
  calls_of_cwE (types := Tryz.prog.types) follows Tryz.func96 F96.code rfl (by kernel_rfl) hn h

def F101.r0 : List Oper := [
  op 4 (.move (.tmp 0)) 74,
  op 5 (.move (.tmp 1)) 73,
  op 6 (.nilCheck (.tmp 5)) 0,
  op 7 (.fieldAddr 39 (.tmp 6) 13) 0,
  od 8 (.load 35 (.tmp 7)) 35,
  oc 9 (.call ⟨(.value (.func 102)), #[(.tmp 4), (.tmp 8)], #[74, 35]⟩) 0]
def F101.code : Cd := (.region 0 F101.r0.toArray false)
theorem F101.calls (hn : args.size ≤ 10) (h : cwE Tryz.prog F101.code (fnP Tryz.prog #[] R) (entry args) w) : Calls Tryz.prog 101 args w R :=
  calls_of_cwE (types := Tryz.prog.types) follows Tryz.func101 F101.code rfl (by kernel_rfl) hn h

def F102.r0 : List Oper := [
  oc 3 (.box 35 (.tmp 1)) 0]
def F102.r1 : List Oper := [
  op 4 (.move (.tmp 0)) 74,
  op 5 (.binOp .eql 74 (.tmp 4) (.const (.pointer none)) 74) 4]
def F102.r2 : List Oper := [
  op 6 (.move (.tmp 0)) 74,
  op 7 (.fieldAddr 35 (.tmp 3) 0) 0,
  od 8 (.load 5 (.tmp 7)) 5,
  oc 9 (.call ⟨(.value (.func 21)), #[(.tmp 6), (.tmp 8)], #[74, 5]⟩) 0]
def F102.r3 : List Oper := [
  op 10 (.move (.tmp 0)) 74,
  op 11 (.fieldAddr 35 (.tmp 3) 1) 0,
  od 12 (.load 27 (.tmp 11)) 27,
  oc 13 (.call ⟨(.value (.func 20)), #[(.tmp 10), (.tmp 12)], #[74, 27]⟩) 0]
def F102.r4 : List Oper := [
  op 14 (.move (.tmp 0)) 74,
  op 15 (.fieldAddr 35 (.tmp 3) 2) 0,
  od 16 (.load 33 (.tmp 15)) 33,
  oc 17 (.call ⟨(.value (.func 85)), #[(.tmp 14), (.tmp 16)], #[74, 33]⟩) 0]
def F102.t2 : Cd := (.seq (.region 2 F102.r2.toArray false) (.seq (.region 3 F102.r3.toArray false) (.region 4 F102.r4.toArray false)))
theorem F102.t2_eq {θ : Tag (F102.t2, Q, e, w)} : cwE P F102.t2 Q e w θ = cwE P (.seq (.region 2 F102.r2.toArray false) (.seq (.region 3 F102.r3.toArray false) (.region 4 F102.r4.toArray false))) Q e w := rfl
def F102.code : Cd := (.seq (.region 0 F102.r0.toArray false) (.seq (.seq (.region 1 F102.r1.toArray false) (.cond (.tmp 5) .ret .skip)) F102.t2))
theorem F102.calls (hn : args.size ≤ 18) (h : cwE Tryz.prog F102.code (fnP Tryz.prog #[] R) (entry args) w) : Calls Tryz.prog 102 args w R :=
  calls_of_cwE (types := Tryz.prog.types) follows Tryz.func102 F102.code rfl (by kernel_rfl) hn h

def F103.r0 : List Oper := [
  op 4 (.move (.tmp 1)) 73,
  op 5 (.move (.tmp 0)) 83,
  oc 6 (.call ⟨(.value (.func 104)), #[(.tmp 5)], #[83]⟩) 35,
  op 7 (.nilCheck (.tmp 4)) 0,
  op 8 (.fieldAddr 39 (.tmp 7) 13) 0,
  ⟨none, (.store 35 (.tmp 8) (.tmp 6)), 0, "", #[⟨0, .chain⟩], none⟩]
def F103.code : Cd := (.region 0 F103.r0.toArray false)
theorem F103.calls (hn : args.size ≤ 9) (h : cwE Tryz.prog F103.code (fnP Tryz.prog #[] R) (entry args) w) : Calls Tryz.prog 103 args w R :=
  calls_of_cwE (types := Tryz.prog.types) follows Tryz.func103 F103.code rfl (by kernel_rfl) hn h

def F104.r0 : List Oper := [
  oc 2 (.alloc 35) 0]
def F104.r1 : List Oper := [
  op 8 (.move (.tmp 0)) 83,
  op 9 (.binOp .eql 83 (.tmp 8) (.const (.pointer none)) 83) 4]
def F104.r2 : List Oper := [
  op 10 (.build 35 #[]) 35,
  ⟨none, (.store 35 (.tmp 2) (.tmp 10)), 0, "", #[⟨0, .chain⟩], none⟩]
def F104.r3 : List Oper := [
  op 11 (.move (.tmp 0)) 83,
  oc 12 (.call ⟨(.value (.func 28)), #[(.tmp 11)], #[83]⟩) 5,
  op 3 (.assign (.tmp 12)) 5]
def F104.r4 : List Oper := [
  op 13 (.move (.tmp 0)) 83,
  oc 14 (.call ⟨(.value (.func 27)), #[(.tmp 13)], #[83]⟩) 27,
  op 4 (.assign (.tmp 14)) 27]
def F104.r5 : List Oper := [
  op 15 (.move (.tmp 0)) 83,
  oc 16 (.call ⟨(.value (.func 87)), #[(.tmp 15)], #[83]⟩) 33,
  op 5 (.assign (.tmp 16)) 33]
def F104.r6 : List Oper := [
  op 18 (.move (.tmp 0)) 83,
  oc 19 (.call ⟨(.value (.func 31)), #[(.tmp 18)], #[83]⟩) 87,
  op 17 (.move (.tmp 19)) 87,
  op 20 (.extract (.tmp 17) 0) 41,
  op 21 (.extract (.tmp 17) 1) 3,
  op 6 (.assign (.tmp 20)) 41,
  op 7 (.assign (.tmp 21)) 3]
def F104.r7 : List Oper := [
  op 22 (.move (.tmp 6)) 41,
  op 23 (.binOp .neq 41 (.tmp 22) (.const (.int .i64 0)) 41) 4]
def F104.r8 : List Oper := [
  op 24 (.build 35 #[]) 35,
  ⟨none, (.store 35 (.tmp 2) (.tmp 24)), 0, "", #[⟨0, .chain⟩], none⟩]
def F104.r9 : List Oper := [
  op 25 (.move (.tmp 3)) 5,
  op 26 (.move (.tmp 4)) 27,
  op 27 (.move (.tmp 5)) 33,
  op 28 (.build 35 #[(0, (.tmp 25)), (1, (.tmp 26)), (2, (.tmp 27))]) 35,
  ⟨none, (.store 35 (.tmp 2) (.tmp 28)), 0, "", #[⟨0, .chain⟩], none⟩]
def F104.t9 : Cd := (.seq (.region 9 F104.r9.toArray false) .ret)
theorem F104.t9_eq {θ : Tag (F104.t9, Q, e, w)} : cwE P F104.t9 Q e w θ = cwE P (.seq (.region 9 F104.r9.toArray false) .ret) Q e w := rfl
def F104.t3 : Cd := (.seq (.region 3 F104.r3.toArray false) (.seq (.region 4 F104.r4.toArray false) (.seq (.region 5 F104.r5.toArray false) (.seq (.seq (.region 6 F104.r6.toArray false) (.seq (.region 7 F104.r7.toArray false) (.cond (.tmp 23) (.seq (.region 8 F104.r8.toArray false) .ret) .skip))) F104.t9))))
theorem F104.t3_eq {θ : Tag (F104.t3, Q, e, w)} : cwE P F104.t3 Q e w θ = cwE P (.seq (.region 3 F104.r3.toArray false) (.seq (.region 4 F104.r4.toArray false) (.seq (.region 5 F104.r5.toArray false) (.seq (.seq (.region 6 F104.r6.toArray false) (.seq (.region 7 F104.r7.toArray false) (.cond (.tmp 23) (.seq (.region 8 F104.r8.toArray false) .ret) .skip))) F104.t9)))) Q e w := rfl
def F104.code : Cd := (.seq (.region 0 F104.r0.toArray false) (.seq (.seq (.region 1 F104.r1.toArray false) (.cond (.tmp 9) (.seq (.region 2 F104.r2.toArray false) .ret) .skip)) F104.t3))
theorem F104.calls (hn : args.size ≤ 29) (h : cwE Tryz.prog F104.code (fnP Tryz.prog #[(.cell 2 35)] R) (entry args) w) : Calls Tryz.prog 104 args w R :=
  calls_of_cwE (types := Tryz.prog.types) follows Tryz.func104 F104.code rfl (by kernel_rfl) hn h

def F105.r0 : List Oper := [
  op 4 (.move (.tmp 0)) 73,
  op 5 (.move (.tmp 1)) 73,
  op 6 (.nilCheck (.tmp 5)) 0,
  op 7 (.fieldAddr 39 (.tmp 6) 13) 0,
  od 8 (.load 35 (.tmp 7)) 35,
  op 9 (.nilCheck (.tmp 4)) 0,
  op 10 (.fieldAddr 39 (.tmp 9) 13) 0,
  ⟨none, (.store 35 (.tmp 10) (.tmp 8)), 0, "", #[⟨0, .chain⟩], none⟩]
def F105.code : Cd := (.region 0 F105.r0.toArray false)
theorem F105.calls (hn : args.size ≤ 11) (h : cwE Tryz.prog F105.code (fnP Tryz.prog #[] R) (entry args) w) : Calls Tryz.prog 105 args w R :=
  calls_of_cwE (types := Tryz.prog.types) follows Tryz.func105 F105.code rfl (by kernel_rfl) hn h

def F110.r0 : List Oper := [
  oc 2 (.alloc 71) 0]
def F110.r1 : List Oper := [
  op 3 (.move (.tmp 0)) 63]
def F110.r2 : List Oper := [
  op 5 (.binOp .eql 63 (.tmp 3) (.const (.int .u8 9)) 63) 4,
  op 4 (.assign (.tmp 5)) 4]
def F110.r3 : List Oper := [
  op 6 (.build 71 #[(0, (.const (.string { data := #[110, 97, 109, 101, 115] }))), (1, (.func 130)), (2, (.func 133)), (3, (.func 135)), (4, (.func 137)), (5, (.func 139)), (6, (.func 141))]) 71,
  ⟨none, (.store 71 (.tmp 2) (.tmp 6)), 0, "", #[⟨0, .chain⟩], none⟩]
def F110.r4 : List Oper := [
  op 8 (.binOp .eql 63 (.tmp 3) (.const (.int .u8 10)) 63) 4,
  op 7 (.assign (.tmp 8)) 4]
def F110.r5 : List Oper := [
  op 9 (.build 71 #[(0, (.const (.string { data := #[113, 105, 100, 115] }))), (1, (.func 143)), (2, (.func 144)), (3, (.func 147)), (4, (.func 150)), (5, (.func 152)), (6, (.func 154))]) 71,
  ⟨none, (.store 71 (.tmp 2) (.tmp 9)), 0, "", #[⟨0, .chain⟩], none⟩]
def F110.r6 : List Oper := [
  op 10 (.build 71 #[(0, (.const (.string { data := #[115, 116, 97, 116] }))), (1, (.func 156)), (2, (.func 157)), (3, (.func 159)), (4, (.func 161)), (5, (.func 162)), (6, (.func 164))]) 71,
  ⟨none, (.store 71 (.tmp 2) (.tmp 10)), 0, "", #[⟨0, .chain⟩], none⟩]
def F110.t6 : Cd := (.seq (.region 6 F110.r6.toArray false) .ret)
theorem F110.t6_eq {θ : Tag (F110.t6, Q, e, w)} : cwE P F110.t6 Q e w θ = cwE P (.seq (.region 6 F110.r6.toArray false) .ret) Q e w := rfl
def F110.code : Cd := (.seq (.region 0 F110.r0.toArray false) (.seq (.seq (.region 1 F110.r1.toArray false) (.block 0 (.seq (.region 2 F110.r2.toArray false) (.cond (.tmp 4) (.seq (.region 3 F110.r3.toArray false) .ret) (.seq (.region 4 F110.r4.toArray false) (.cond (.tmp 7) (.seq (.region 5 F110.r5.toArray false) .ret) .skip)))))) F110.t6))
theorem F110.calls (hn : args.size ≤ 11) (h : cwE Tryz.prog F110.code (fnP Tryz.prog #[(.cell 2 71)] R) (entry args) w) : Calls Tryz.prog 110 args w R :=
  calls_of_cwE (types := Tryz.prog.types) follows Tryz.func110 F110.code rfl (by kernel_rfl) hn h

def F111.r0 : List Oper := [
  op 4 (.assign (.const (.bool false))) 4]
def F111.r1 : List Oper := [
  op 5 (.move (.tmp 0)) 74,
  op 6 (.nilCheck (.tmp 5)) 0,
  op 7 (.fieldAddr 99 (.tmp 6) 3) 0,
  od 8 (.load 41 (.tmp 7)) 41,
  op 9 (.binOp .neq 41 (.tmp 8) (.const (.int .i64 0)) 41) 4]
def F111.r2 : List Oper := [
  op 4 (.assign (.const (.bool false))) 4]
def F111.r3 : List Oper := [
  ⟨(some 10), (.move (.tmp 1)), 3, "", #[], none⟩,
  ⟨(some 11), (.move (.tmp 0)), 74, "", #[], none⟩,
  ⟨(some 12), (.nilCheck (.tmp 11)), 0, "", #[], none⟩,
  ⟨(some 13), (.fieldAddr 99 (.tmp 12) 0), 0, "", #[], none⟩,
  ⟨(some 15), (.move (.tmp 0)), 74, "", #[], none⟩,
  ⟨(some 16), (.nilCheck (.tmp 15)), 0, "", #[], none⟩,
  ⟨(some 17), (.fieldAddr 99 (.tmp 16) 1), 0, "", #[], none⟩,
  ⟨(some 14), (.load 3 (.tmp 13)), 3, "", #[⟨0, .data⟩], none⟩,
  ⟨(some 18), (.load 28 (.tmp 17)), 28, "", #[⟨0, .data⟩], none⟩,
  ⟨(some 19), (.call ⟨(.builtin .len), #[(.tmp 18)], #[28]⟩), 3, "", #[], none⟩,
  ⟨(some 20), (.binOp .sub 3 (.tmp 14) (.tmp 19) 3), 3, "", #[], none⟩,
  ⟨(some 21), (.binOp .gtr 3 (.tmp 10) (.tmp 20) 3), 4, "", #[], none⟩]
def F111.r4 : List Oper := [
  op 22 (.move (.tmp 0)) 74,
  op 23 (.nilCheck (.tmp 22)) 0,
  op 24 (.fieldAddr 99 (.tmp 23) 3) 0,
  ⟨none, (.store 41 (.tmp 24) (.const (.int .i64 11))), 0, "", #[⟨0, .chain⟩], none⟩]
def F111.r5 : List Oper := [
  op 4 (.assign (.const (.bool false))) 4]
def F111.r6 : List Oper := [
  op 4 (.assign (.const (.bool true))) 4]
def F111.t6 : Cd := (.seq (.region 6 F111.r6.toArray false) .ret)
theorem F111.t6_eq {θ : Tag (F111.t6, Q, e, w)} : cwE P F111.t6 Q e w θ = cwE P (.seq (.region 6 F111.r6.toArray false) .ret) Q e w := rfl
def F111.t3 : Cd := (.seq (.seq (.region 3 F111.r3.toArray true) (.cond (.tmp 21) (.seq (.region 4 F111.r4.toArray false) (.seq (.region 5 F111.r5.toArray false) .ret)) .skip)) F111.t6)
theorem F111.t3_eq {θ : Tag (F111.t3, Q, e, w)} : cwE P F111.t3 Q e w θ = cwE P (.seq (.seq (.region 3 F111.r3.toArray true) (.cond (.tmp 21) (.seq (.region 4 F111.r4.toArray false) (.seq (.region 5 F111.r5.toArray false) .ret)) .skip)) F111.t6) Q e w := rfl
def F111.code : Cd := (.seq (.region 0 F111.r0.toArray false) (.seq (.seq (.region 1 F111.r1.toArray false) (.cond (.tmp 9) (.seq (.region 2 F111.r2.toArray false) .ret) .skip)) F111.t3))
theorem F111.calls (hn : args.size ≤ 25) (h : cwE Tryz.prog F111.code (fnP Tryz.prog #[(.tmp 4)] R) (entry args) w) : Calls Tryz.prog 111 args w R :=
  calls_of_cwE (types := Tryz.prog.types) follows Tryz.func111 F111.code rfl (by kernel_rfl) hn h

def F112.r0 : List Oper := [
  op 4 (.assign (.const (.bool false))) 4]
def F112.r1 : List Oper := [
  op 5 (.move (.tmp 0)) 83,
  op 6 (.nilCheck (.tmp 5)) 0,
  op 7 (.fieldAddr 104 (.tmp 6) 3) 0,
  od 8 (.load 41 (.tmp 7)) 41,
  op 9 (.binOp .neq 41 (.tmp 8) (.const (.int .i64 0)) 41) 4]
def F112.r2 : List Oper := [
  op 4 (.assign (.const (.bool false))) 4]
def F112.r3 : List Oper := [
  ⟨(some 10), (.move (.tmp 1)), 3, "", #[], none⟩,
  ⟨(some 11), (.move (.tmp 0)), 83, "", #[], none⟩,
  ⟨(some 12), (.nilCheck (.tmp 11)), 0, "", #[], none⟩,
  ⟨(some 13), (.fieldAddr 104 (.tmp 12) 0), 0, "", #[], none⟩,
  ⟨(some 16), (.move (.tmp 0)), 83, "", #[], none⟩,
  ⟨(some 17), (.nilCheck (.tmp 16)), 0, "", #[], none⟩,
  ⟨(some 18), (.fieldAddr 104 (.tmp 17) 1), 0, "", #[], none⟩,
  ⟨(some 14), (.load 28 (.tmp 13)), 28, "", #[⟨0, .data⟩], none⟩,
  ⟨(some 15), (.call ⟨(.builtin .len), #[(.tmp 14)], #[28]⟩), 3, "", #[], none⟩,
  ⟨(some 19), (.load 3 (.tmp 18)), 3, "", #[⟨0, .data⟩], none⟩,
  ⟨(some 20), (.binOp .sub 3 (.tmp 15) (.tmp 19) 3), 3, "", #[], none⟩,
  ⟨(some 21), (.binOp .gtr 3 (.tmp 10) (.tmp 20) 3), 4, "", #[], none⟩]
def F112.r4 : List Oper := [
  op 22 (.move (.tmp 0)) 83,
  oc 23 (.call ⟨(.value (.func 54)), #[(.tmp 22), (.const (.int .i64 10)), (.const (.int .i64 0))], #[83, 41, 3]⟩) 0]
def F112.r5 : List Oper := [
  op 4 (.assign (.const (.bool false))) 4]
def F112.r6 : List Oper := [
  op 4 (.assign (.const (.bool true))) 4]
def F112.t6 : Cd := (.seq (.region 6 F112.r6.toArray false) .ret)
theorem F112.t6_eq {θ : Tag (F112.t6, Q, e, w)} : cwE P F112.t6 Q e w θ = cwE P (.seq (.region 6 F112.r6.toArray false) .ret) Q e w := rfl
def F112.t3 : Cd := (.seq (.seq (.region 3 F112.r3.toArray true) (.cond (.tmp 21) (.seq (.region 4 F112.r4.toArray false) (.seq (.region 5 F112.r5.toArray false) .ret)) .skip)) F112.t6)
theorem F112.t3_eq {θ : Tag (F112.t3, Q, e, w)} : cwE P F112.t3 Q e w θ = cwE P (.seq (.seq (.region 3 F112.r3.toArray true) (.cond (.tmp 21) (.seq (.region 4 F112.r4.toArray false) (.seq (.region 5 F112.r5.toArray false) .ret)) .skip)) F112.t6) Q e w := rfl
def F112.code : Cd := (.seq (.region 0 F112.r0.toArray false) (.seq (.seq (.region 1 F112.r1.toArray false) (.cond (.tmp 9) (.seq (.region 2 F112.r2.toArray false) .ret) .skip)) F112.t3))
theorem F112.calls (hn : args.size ≤ 24) (h : cwE Tryz.prog F112.code (fnP Tryz.prog #[(.tmp 4)] R) (entry args) w) : Calls Tryz.prog 112 args w R :=
  calls_of_cwE (types := Tryz.prog.types) follows Tryz.func112 F112.code rfl (by kernel_rfl) hn h

def F117.r0 : List Oper := [
  op 2 (.assign (.const (.int .i64 0))) 3]
def F117.r1 : List Oper := [
  op 7 (.move (.tmp 0)) 9,
  oc 8 (.range 9 (.tmp 7)) 0]
def F117.r2 : List Oper := [
  oc 9 (.next (.tmp 8) true) 0,
  op 10 (.extract (.tmp 9) 0) 4]
def F117.r3 : List Oper := [
  op 11 (.extract (.tmp 9) 1) 3,
  op 12 (.extract (.tmp 9) 2) 21,
  op 3 (.assign (.tmp 11)) 3,
  op 4 (.assign (.tmp 12)) 21]
def F117.r4 : List Oper := [
  op 13 (.move (.tmp 4)) 21,
  op 14 (.binOp .eql 21 (.tmp 13) (.const (.int .i32 0)) 21) 4]
def F117.r5 : List Oper := [
  op 15 (.move (.tmp 3)) 3,
  op 2 (.assign (.tmp 15)) 3]
def F117.r6 : List Oper := [
  op 16 (.move (.tmp 4)) 21,
  op 17 (.binOp .eql 21 (.tmp 16) (.const (.int .i32 65533)) 21) 4]
def F117.r7 : List Oper := [
  op 19 (.move (.tmp 0)) 9,
  op 20 (.move (.tmp 3)) 3,
  op 21 (.slice 9 (.tmp 19) (some (.tmp 20)) none none) 9,
  oc 22 (.call ⟨(.value (.func 169)), #[(.tmp 21)], #[9]⟩) 171,
  op 18 (.move (.tmp 22)) 171,
  op 23 (.extract (.tmp 18) 0) 21,
  op 24 (.extract (.tmp 18) 1) 3,
  op 5 (.assign (.tmp 23)) 21,
  op 6 (.assign (.tmp 24)) 3]
def F117.r8 : List Oper := [
  op 25 (.move (.tmp 6)) 3,
  op 26 (.binOp .eql 3 (.tmp 25) (.const (.int .i64 1)) 3) 4]
def F117.r9 : List Oper := [
  op 27 (.move (.tmp 3)) 3,
  op 2 (.assign (.tmp 27)) 3]
def F117.r10 : List Oper := [
  op 2 (.assign (.const (.int .i64 (-1)))) 3]
def F117.t6 : Cd := (.seq (.region 6 F117.r6.toArray false) (.cond (.tmp 17) (.seq (.region 7 F117.r7.toArray false) (.seq (.region 8 F117.r8.toArray false) (.cond (.tmp 26) (.seq (.region 9 F117.r9.toArray false) .ret) .skip))) .skip))
theorem F117.t6_eq {θ : Tag (F117.t6, Q, e, w)} : cwE P F117.t6 Q e w θ = cwE P (.seq (.region 6 F117.r6.toArray false) (.cond (.tmp 17) (.seq (.region 7 F117.r7.toArray false) (.seq (.region 8 F117.r8.toArray false) (.cond (.tmp 26) (.seq (.region 9 F117.r9.toArray false) .ret) .skip))) .skip)) Q e w := rfl
def F117.t3 : Cd := (.block 1 (.seq (.region 3 F117.r3.toArray false) (.seq (.seq (.region 4 F117.r4.toArray false) (.cond (.tmp 14) (.seq (.region 5 F117.r5.toArray false) .ret) .skip)) F117.t6)))
theorem F117.t3_eq {θ : Tag (F117.t3, Q, e, w)} : cwE P F117.t3 Q e w θ = cwE P (.block 1 (.seq (.region 3 F117.r3.toArray false) (.seq (.seq (.region 4 F117.r4.toArray false) (.cond (.tmp 14) (.seq (.region 5 F117.r5.toArray false) .ret) .skip)) F117.t6))) Q e w := rfl
def F117.t10 : Cd := (.seq (.region 10 F117.r10.toArray false) .ret)
theorem F117.t10_eq {θ : Tag (F117.t10, Q, e, w)} : cwE P F117.t10 Q e w θ = cwE P (.seq (.region 10 F117.r10.toArray false) .ret) Q e w := rfl
def F117.code : Cd := (.seq (.region 0 F117.r0.toArray false) (.seq (.seq (.region 1 F117.r1.toArray false) (.block 0 (.loop (.seq (.region 2 F117.r2.toArray false) (.seq (.cond (.tmp 10) .skip (.exit 0)) F117.t3))))) F117.t10))
theorem F117.calls (hn : args.size ≤ 28) (h : cwE Tryz.prog F117.code (fnP Tryz.prog #[(.tmp 2)] R) (entry args) w) : Calls Tryz.prog 117 args w R :=
  calls_of_cwE (types := Tryz.prog.types) follows Tryz.func117 F117.code rfl (by kernel_rfl) hn h

def F118.r0 : List Oper := [
  op 2 (.assign (.const (.int .i64 0))) 3,
  op 3 (.assign (.const (.bool false))) 4]
def F118.r1 : List Oper := [
  op 5 (.move (.tmp 0)) 83,
  oc 6 (.call ⟨(.value (.func 112)), #[(.tmp 5), (.const (.int .i64 2))], #[83, 3]⟩) 4,
  op 7 (.unOp .not 4 (.tmp 6)) 4]
def F118.r2 : List Oper := [
  op 2 (.assign (.const (.int .i64 0))) 3,
  op 3 (.assign (.const (.bool false))) 4]
def F118.r3 : List Oper := [
  ⟨(some 8), (.move (.tmp 0)), 83, "", #[], none⟩,
  ⟨(some 9), (.nilCheck (.tmp 8)), 0, "", #[], none⟩,
  ⟨(some 10), (.fieldAddr 104 (.tmp 9) 0), 0, "", #[], none⟩,
  ⟨(some 12), (.move (.tmp 0)), 83, "", #[], none⟩,
  ⟨(some 13), (.nilCheck (.tmp 12)), 0, "", #[], none⟩,
  ⟨(some 14), (.fieldAddr 104 (.tmp 13) 1), 0, "", #[], none⟩,
  ⟨(some 19), (.move (.tmp 0)), 83, "", #[], none⟩,
  ⟨(some 20), (.nilCheck (.tmp 19)), 0, "", #[], none⟩,
  ⟨(some 21), (.fieldAddr 104 (.tmp 20) 0), 0, "", #[], none⟩,
  ⟨(some 23), (.move (.tmp 0)), 83, "", #[], none⟩,
  ⟨(some 24), (.nilCheck (.tmp 23)), 0, "", #[], none⟩,
  ⟨(some 25), (.fieldAddr 104 (.tmp 24) 1), 0, "", #[], none⟩,
  ⟨(some 11), (.load 28 (.tmp 10)), 28, "", #[⟨0, .data⟩], none⟩,
  ⟨(some 15), (.load 3 (.tmp 14)), 3, "", #[⟨0, .data⟩], none⟩,
  ⟨(some 16), (.indexAddr 28 (.tmp 11) (.tmp 15)), 0, "", #[], none⟩,
  ⟨(some 17), (.load 5 (.tmp 16)), 5, "", #[⟨0, .data⟩], none⟩,
  ⟨(some 18), (.convert 5 3 (.tmp 17)), 3, "", #[], none⟩,
  ⟨(some 22), (.load 28 (.tmp 21)), 28, "", #[⟨0, .data⟩], none⟩,
  ⟨(some 26), (.load 3 (.tmp 25)), 3, "", #[⟨0, .data⟩], none⟩,
  ⟨(some 27), (.binOp .add 3 (.tmp 26) (.const (.int .i64 1)) 3), 3, "", #[], none⟩,
  ⟨(some 28), (.indexAddr 28 (.tmp 22) (.tmp 27)), 0, "", #[], none⟩,
  ⟨(some 29), (.load 5 (.tmp 28)), 5, "", #[⟨0, .data⟩], none⟩,
  ⟨(some 30), (.convert 5 3 (.tmp 29)), 3, "", #[], none⟩,
  ⟨(some 31), (.binOp .shl 3 (.tmp 30) (.const (.int .u64 8)) 128), 3, "", #[], none⟩,
  ⟨(some 32), (.binOp .or 3 (.tmp 18) (.tmp 31) 3), 3, "", #[], none⟩,
  ⟨(some 4), (.assign (.tmp 32)), 3, "", #[], none⟩]
def F118.r4 : List Oper := [
  op 33 (.move (.tmp 4)) 3,
  op 34 (.move (.tmp 0)) 83,
  op 35 (.move (.tmp 4)) 3,
  op 36 (.binOp .add 3 (.const (.int .i64 2)) (.tmp 35) 3) 3,
  oc 37 (.call ⟨(.value (.func 112)), #[(.tmp 34), (.tmp 36)], #[83, 3]⟩) 4,
  op 2 (.assign (.tmp 33)) 3,
  op 3 (.assign (.tmp 37)) 4]
def F118.t3 : Cd := (.seq (.region 3 F118.r3.toArray true) (.seq (.region 4 F118.r4.toArray false) .ret))
theorem F118.t3_eq {θ : Tag (F118.t3, Q, e, w)} : cwE P F118.t3 Q e w θ = cwE P (.seq (.region 3 F118.r3.toArray true) (.seq (.region 4 F118.r4.toArray false) .ret)) Q e w := rfl
def F118.code : Cd := (.seq (.region 0 F118.r0.toArray false) (.seq (.seq (.region 1 F118.r1.toArray false) (.cond (.tmp 7) (.seq (.region 2 F118.r2.toArray false) .ret) .skip)) F118.t3))
theorem F118.calls (hn : args.size ≤ 38) (h : cwE Tryz.prog F118.code (fnP Tryz.prog #[(.tmp 2), (.tmp 3)] R) (entry args) w) : Calls Tryz.prog 118 args w R :=
  calls_of_cwE (types := Tryz.prog.types) follows Tryz.func118 F118.code rfl (by kernel_rfl) hn h

def F125.r0 : List Oper := [
  op 7 (.move (.tmp 0)) 74,
  op 8 (.move (.tmp 2)) 3,
  oc 9 (.call ⟨(.value (.func 111)), #[(.tmp 7), (.tmp 8)], #[74, 3]⟩) 4,
  op 10 (.unOp .not 4 (.tmp 9)) 4]
def F125.r1 : List Oper := [
  op 11 (.move (.tmp 1)) 33,
  op 6 (.assign (.tmp 11)) 33]
def F125.r2 : List Oper := [
  op 12 (.move (.tmp 2)) 3,
  op 13 (.move (.const (.int .i64 0))) 3]
def F125.r3 : List Oper := [
  op 14 (.binOp .lss 3 (.tmp 13) (.tmp 12) 3) 4]
def F125.r4 : List Oper := [
  op 15 (.move (.tmp 0)) 74,
  op 16 (.move (.tmp 0)) 74,
  op 17 (.nilCheck (.tmp 16)) 0,
  op 18 (.fieldAddr 99 (.tmp 17) 1) 0,
  od 19 (.load 28 (.tmp 18)) 28,
  op 20 (.move (.tmp 6)) 33,
  op 21 (.convert 33 5 (.tmp 20)) 5,
  oc 22 (.buildSlice 28 1 #[(0, (.tmp 21))]) 28,
  oc 23 (.call ⟨(.builtin .append), #[(.tmp 19), (.tmp 22)], #[28, 28]⟩) 28,
  op 24 (.nilCheck (.tmp 15)) 0,
  op 25 (.fieldAddr 99 (.tmp 24) 1) 0,
  ⟨none, (.store 28 (.tmp 25) (.tmp 23)), 0, "", #[⟨0, .chain⟩], none⟩]
def F125.r5 : List Oper := [
  op 26 (.move (.tmp 6)) 33,
  op 27 (.binOp .shr 33 (.tmp 26) (.const (.int .u64 8)) 128) 33,
  op 6 (.assign (.tmp 27)) 33]
def F125.r6 : List Oper := [
  op 28 (.binOp .add 3 (.tmp 13) (.const (.int .i64 1)) 3) 3,
  op 13 (.move (.tmp 28)) 3]
def F125.t6 : Cd := (.region 6 F125.r6.toArray false)
theorem F125.t6_eq {θ : Tag (F125.t6, Q, e, w)} : cwE P F125.t6 Q e w θ = cwE P (.region 6 F125.r6.toArray false) Q e w := rfl
def F125.t4 : Cd := (.seq (.block 1 (.seq (.region 4 F125.r4.toArray false) (.region 5 F125.r5.toArray false))) F125.t6)
theorem F125.t4_eq {θ : Tag (F125.t4, Q, e, w)} : cwE P F125.t4 Q e w θ = cwE P (.seq (.block 1 (.seq (.region 4 F125.r4.toArray false) (.region 5 F125.r5.toArray false))) F125.t6) Q e w := rfl
def F125.t1 : Cd := (.seq (.region 1 F125.r1.toArray false) (.seq (.region 2 F125.r2.toArray false) (.block 0 (.loop (.seq (.region 3 F125.r3.toArray false) (.seq (.cond (.tmp 14) .skip (.exit 0)) F125.t4))))))
theorem F125.t1_eq {θ : Tag (F125.t1, Q, e, w)} : cwE P F125.t1 Q e w θ = cwE P (.seq (.region 1 F125.r1.toArray false) (.seq (.region 2 F125.r2.toArray false) (.block 0 (.loop (.seq (.region 3 F125.r3.toArray false) (.seq (.cond (.tmp 14) .skip (.exit 0)) F125.t4)))))) Q e w := rfl
def F125.code : Cd := (.seq (.seq (.region 0 F125.r0.toArray false) (.cond (.tmp 10) .ret .skip)) F125.t1)
theorem F125.calls (hn : args.size ≤ 29) (h : cwE Tryz.prog F125.code (fnP Tryz.prog #[] R) (entry args) w) : Calls Tryz.prog 125 args w R :=
  calls_of_cwE (types := Tryz.prog.types) follows Tryz.func125 F125.code rfl (by kernel_rfl) hn h

def F126.r0 : List Oper := [
  op 4 (.assign (.const (.int .u64 0))) 33]
def F126.r1 : List Oper := [
  op 7 (.move (.tmp 0)) 83,
  op 8 (.move (.tmp 1)) 3,
  oc 9 (.call ⟨(.value (.func 112)), #[(.tmp 7), (.tmp 8)], #[83, 3]⟩) 4,
  op 10 (.unOp .not 4 (.tmp 9)) 4]
def F126.r2 : List Oper := [
  op 4 (.assign (.const (.int .u64 0))) 33]
def F126.r3 : List Oper := [
  op 5 (.assign (.const (.int .u64 0))) 33]
def F126.r4 : List Oper := [
  op 11 (.move (.tmp 1)) 3,
  op 12 (.move (.const (.int .i64 0))) 3]
def F126.r5 : List Oper := [
  op 13 (.binOp .lss 3 (.tmp 12) (.tmp 11) 3) 4]
def F126.r6 : List Oper := [
  op 14 (.move (.tmp 12)) 3,
  op 6 (.assign (.tmp 14)) 3]
def F126.r7 : List Oper := [
  ⟨(some 15), (.move (.tmp 5)), 33, "", #[], none⟩,
  ⟨(some 16), (.move (.tmp 0)), 83, "", #[], none⟩,
  ⟨(some 17), (.nilCheck (.tmp 16)), 0, "", #[], none⟩,
  ⟨(some 18), (.fieldAddr 104 (.tmp 17) 0), 0, "", #[], none⟩,
  ⟨(some 20), (.move (.tmp 0)), 83, "", #[], none⟩,
  ⟨(some 21), (.nilCheck (.tmp 20)), 0, "", #[], none⟩,
  ⟨(some 22), (.fieldAddr 104 (.tmp 21) 1), 0, "", #[], none⟩,
  ⟨(some 24), (.move (.tmp 6)), 3, "", #[], none⟩,
  ⟨(some 29), (.move (.tmp 6)), 3, "", #[], none⟩,
  ⟨(some 30), (.binOp .mul 3 (.const (.int .i64 8)) (.tmp 29) 3), 3, "", #[], none⟩,
  ⟨(some 19), (.load 28 (.tmp 18)), 28, "", #[⟨0, .data⟩], none⟩,
  ⟨(some 23), (.load 3 (.tmp 22)), 3, "", #[⟨0, .data⟩], none⟩,
  ⟨(some 25), (.binOp .add 3 (.tmp 23) (.tmp 24) 3), 3, "", #[], none⟩,
  ⟨(some 26), (.indexAddr 28 (.tmp 19) (.tmp 25)), 0, "", #[], none⟩,
  ⟨(some 27), (.load 5 (.tmp 26)), 5, "", #[⟨0, .data⟩], none⟩,
  ⟨(some 28), (.convert 5 33 (.tmp 27)), 33, "", #[], none⟩,
  ⟨(some 31), (.binOp .shl 33 (.tmp 28) (.tmp 30) 3), 33, "", #[], none⟩,
  ⟨(some 32), (.binOp .or 33 (.tmp 15) (.tmp 31) 33), 33, "", #[], none⟩,
  ⟨(some 5), (.assign (.tmp 32)), 33, "", #[], none⟩]
def F126.r8 : List Oper := [
  op 33 (.binOp .add 3 (.tmp 12) (.const (.int .i64 1)) 3) 3,
  op 12 (.move (.tmp 33)) 3]
def F126.r9 : List Oper := [
  op 34 (.move (.tmp 0)) 83,
  op 35 (.nilCheck (.tmp 34)) 0,
  op 36 (.fieldAddr 104 (.tmp 35) 1) 0,
  od 37 (.load 3 (.tmp 36)) 3,
  op 38 (.move (.tmp 1)) 3,
  op 39 (.binOp .add 3 (.tmp 37) (.tmp 38) 3) 3,
  op 40 (.nilCheck (.tmp 34)) 0,
  op 41 (.fieldAddr 104 (.tmp 40) 1) 0,
  ⟨none, (.store 3 (.tmp 41) (.tmp 39)), 0, "", #[⟨0, .chain⟩], none⟩]
def F126.r10 : List Oper := [
  op 42 (.move (.tmp 5)) 33,
  op 4 (.assign (.tmp 42)) 33]
def F126.t8 : Cd := (.region 8 F126.r8.toArray false)
theorem F126.t8_eq {θ : Tag (F126.t8, Q, e, w)} : cwE P F126.t8 Q e w θ = cwE P (.region 8 F126.r8.toArray false) Q e w := rfl
def F126.t6 : Cd := (.seq (.block 1 (.seq (.region 6 F126.r6.toArray false) (.region 7 F126.r7.toArray true))) F126.t8)
theorem F126.t6_eq {θ : Tag (F126.t6, Q, e, w)} : cwE P F126.t6 Q e w θ = cwE P (.seq (.block 1 (.seq (.region 6 F126.r6.toArray false) (.region 7 F126.r7.toArray true))) F126.t8) Q e w := rfl
def F126.t9 : Cd := (.seq (.region 9 F126.r9.toArray false) (.seq (.region 10 F126.r10.toArray false) .ret))
theorem F126.t9_eq {θ : Tag (F126.t9, Q, e, w)} : cwE P F126.t9 Q e w θ = cwE P (.seq (.region 9 F126.r9.toArray false) (.seq (.region 10 F126.r10.toArray false) .ret)) Q e w := rfl
def F126.t3 : Cd := (.seq (.region 3 F126.r3.toArray false) (.seq (.seq (.region 4 F126.r4.toArray false) (.block 0 (.loop (.seq (.region 5 F126.r5.toArray false) (.seq (.cond (.tmp 13) .skip (.exit 0)) F126.t6))))) F126.t9))
theorem F126.t3_eq {θ : Tag (F126.t3, Q, e, w)} : cwE P F126.t3 Q e w θ = cwE P (.seq (.region 3 F126.r3.toArray false) (.seq (.seq (.region 4 F126.r4.toArray false) (.block 0 (.loop (.seq (.region 5 F126.r5.toArray false) (.seq (.cond (.tmp 13) .skip (.exit 0)) F126.t6))))) F126.t9)) Q e w := rfl
def F126.code : Cd := (.seq (.region 0 F126.r0.toArray false) (.seq (.seq (.region 1 F126.r1.toArray false) (.cond (.tmp 10) (.seq (.region 2 F126.r2.toArray false) .ret) .skip)) F126.t3))
theorem F126.calls (hn : args.size ≤ 43) (h : cwE Tryz.prog F126.code (fnP Tryz.prog #[(.tmp 4)] R) (entry args) w) : Calls Tryz.prog 126 args w R :=
  calls_of_cwE (types := Tryz.prog.types) follows Tryz.func126 F126.code rfl (by kernel_rfl) hn h

def F130.r0 : List Oper := [
  op 2 (.assign (.const (.bool false))) 4]
def F130.r1 : List Oper := [
  op 3 (.move (.tmp 0)) 73,
  op 4 (.nilCheck (.tmp 3)) 0,
  op 5 (.fieldAddr 39 (.tmp 4) 11) 0,
  od 6 (.load 31 (.tmp 5)) 31,
  op 7 (.call ⟨(.builtin .len), #[(.tmp 6)], #[31]⟩) 3,
  op 8 (.binOp .leq 3 (.tmp 7) (.const (.int .i64 16)) 3) 4,
  op 9 (.move (.tmp 8)) 4,
  ⟨(some 10), (.move (.tmp 0)), 73, "", #[], (some (9, true))⟩,
  ⟨(some 11), (.nilCheck (.tmp 10)), 0, "", #[], (some (9, true))⟩,
  ⟨(some 12), (.fieldAddr 39 (.tmp 11) 11), 0, "", #[], (some (9, true))⟩,
  ⟨(some 13), (.load 31 (.tmp 12)), 31, "", #[⟨0, .data⟩], (some (9, true))⟩,
  ⟨(some 14), (.call ⟨(.value (.func 131)), #[(.tmp 13), (.func 132)], #[31, 112]⟩), 4, "", #[⟨0, .chain⟩], (some (9, true))⟩,
  ⟨(some 15), (.unOp .not 4 (.tmp 14)), 4, "", #[], (some (9, true))⟩,
  op 16 (.pick (.tmp 9) (.tmp 15) (.const (.bool false))) 4,
  op 2 (.assign (.tmp 16)) 4]
def F130.code : Cd := (.seq (.region 0 F130.r0.toArray false) (.seq (.region 1 F130.r1.toArray false) .ret))
theorem F130.calls (hn : args.size ≤ 17) (h : cwE Tryz.prog F130.code (fnP Tryz.prog #[(.tmp 2)] R) (entry args) w) : Calls Tryz.prog 130 args w R :=
  calls_of_cwE (types := Tryz.prog.types) follows Tryz.func130 F130.code rfl (by kernel_rfl) hn h

def F131.r0 : List Oper := [
  op 4 (.assign (.const (.bool false))) 4]
def F131.r1 : List Oper := [
  op 5 (.move (.tmp 0)) 31,
  op 6 (.move (.tmp 1)) 112,
  oc 7 (.call ⟨(.value (.func 174)), #[(.tmp 5), (.tmp 6)], #[31, 112]⟩) 3,
  op 8 (.binOp .geq 3 (.tmp 7) (.const (.int .i64 0)) 3) 4,
  op 4 (.assign (.tmp 8)) 4]
def F131.code : Cd := (.seq (.region 0 F131.r0.toArray false) (.seq (.region 1 F131.r1.toArray false) .ret))
theorem F131.calls (hn : args.size ≤ 9) (h : cwE Tryz.prog F131.code (fnP Tryz.prog #[(.tmp 4)] R) (entry args) w) : Calls Tryz.prog 131 args w R :=
  calls_of_cwE (types := Tryz.prog.types) follows Tryz.func131 F131.code rfl (by kernel_rfl) hn h

def F132.r0 : List Oper := [
  op 2 (.assign (.const (.bool false))) 4]
def F132.r1 : List Oper := [
  op 3 (.move (.tmp 0)) 9,
  oc 4 (.call ⟨(.value (.func 64)), #[(.tmp 3)], #[9]⟩) 4,
  op 5 (.unOp .not 4 (.tmp 4)) 4,
  op 2 (.assign (.tmp 5)) 4]
def F132.code : Cd := (.seq (.region 0 F132.r0.toArray false) (.seq (.region 1 F132.r1.toArray false) .ret))
theorem F132.calls (hn : args.size ≤ 6) (h : cwE Tryz.prog F132.code (fnP Tryz.prog #[(.tmp 2)] R) (entry args) w) : Calls Tryz.prog 132 args w R :=
  calls_of_cwE (types := Tryz.prog.types) follows Tryz.func132 F132.code rfl (by kernel_rfl) hn h

def F133.r0 : List Oper := [
  op 4 (.move (.tmp 0)) 74,
  op 5 (.move (.tmp 1)) 73,
  op 6 (.nilCheck (.tmp 5)) 0,
  op 7 (.fieldAddr 39 (.tmp 6) 11) 0,
  od 8 (.load 31 (.tmp 7)) 31,
  op 9 (.move (.tmp 0)) 74,
  op 10 (.makeFunc (.func 66) #[(.tmp 9)] #[]) 113,
  oc 11 (.call ⟨(.value (.func 134)), #[(.tmp 4), (.tmp 8), (.tmp 10)], #[74, 31, 113]⟩) 0]
def F133.code : Cd := (.region 0 F133.r0.toArray false)
theorem F133.calls (hn : args.size ≤ 12) (h : cwE Tryz.prog F133.code (fnP Tryz.prog #[] R) (entry args) w) : Calls Tryz.prog 133 args w R :=
  calls_of_cwE (types := Tryz.prog.types) follows Tryz.func133 F133.code rfl (by kernel_rfl) hn h

def F134.r0 : List Oper := [
  op 8 (.move (.tmp 0)) 74,
  op 9 (.move (.tmp 1)) 31,
  op 10 (.call ⟨(.builtin .len), #[(.tmp 9)], #[31]⟩) 3,
  op 11 (.convert 3 30 (.tmp 10)) 30,
  oc 12 (.call ⟨(.value (.func 22)), #[(.tmp 8), (.tmp 11)], #[74, 30]⟩) 0]
def F134.r1 : List Oper := [
  op 13 (.move (.tmp 1)) 31,
  op 14 (.call ⟨(.builtin .len), #[(.tmp 13)], #[31]⟩) 3,
  op 15 (.move (.const (.int .i64 0))) 3]
def F134.r2 : List Oper := [
  op 16 (.binOp .lss 3 (.tmp 15) (.tmp 14) 3) 0]
def F134.r3 : List Oper := [
  op 17 (.indexAddr 31 (.tmp 13) (.tmp 15)) 0,
  od 18 (.load 9 (.tmp 17)) 9,
  op 7 (.assign (.tmp 18)) 9]
def F134.r4 : List Oper := [
  op 19 (.move (.tmp 2)) 113,
  op 20 (.move (.tmp 7)) 9,
  ⟨(some 21), (.call ⟨(.value (.tmp 19)), #[(.tmp 20)], #[9]⟩), 0, "", #[⟨0, .phase⟩], none⟩]
def F134.r5 : List Oper := [
  op 22 (.binOp .add 3 (.tmp 15) (.const (.int .i64 1)) 3) 3,
  op 15 (.move (.tmp 22)) 3]
def F134.t5 : Cd := (.region 5 F134.r5.toArray false)
theorem F134.t5_eq {θ : Tag (F134.t5, Q, e, w)} : cwE P F134.t5 Q e w θ = cwE P (.region 5 F134.r5.toArray false) Q e w := rfl
def F134.t3 : Cd := (.seq (.block 1 (.seq (.region 3 F134.r3.toArray false) (.region 4 F134.r4.toArray false))) F134.t5)
theorem F134.t3_eq {θ : Tag (F134.t3, Q, e, w)} : cwE P F134.t3 Q e w θ = cwE P (.seq (.block 1 (.seq (.region 3 F134.r3.toArray false) (.region 4 F134.r4.toArray false))) F134.t5) Q e w := rfl
def F134.code : Cd := (.seq (.region 0 F134.r0.toArray false) (.seq (.region 1 F134.r1.toArray false) (.block 0 (.loop (.seq (.region 2 F134.r2.toArray false) (.seq (.cond (.tmp 16) .skip (.exit 0)) F134.t3))))))
theorem F134.calls (hn : args.size ≤ 23) (h : cwE Tryz.prog F134.code (fnP Tryz.prog #[] R) (entry args) w) : Calls Tryz.prog 134 args w R :=
  calls_of_cwE (types := Tryz.prog.types) follows Tryz.func134 F134.code rfl (by kernel_rfl) hn h

def F135.r0 : List Oper := [
  op 4 (.move (.tmp 1)) 73,
  op 5 (.move (.tmp 0)) 83,
  op 6 (.move (.tmp 0)) 83,
  op 7 (.makeFunc (.func 68) #[(.tmp 6)] #[]) 114,
  oc 8 (.call ⟨(.value (.func 136)), #[(.tmp 5), (.tmp 7)], #[83, 114]⟩) 31,
  op 9 (.nilCheck (.tmp 4)) 0,
  op 10 (.fieldAddr 39 (.tmp 9) 11) 0,
  ⟨none, (.store 31 (.tmp 10) (.tmp 8)), 0, "", #[⟨0, .chain⟩], none⟩]
def F135.code : Cd := (.region 0 F135.r0.toArray false)
theorem F135.calls (hn : args.size ≤ 11) (h : cwE Tryz.prog F135.code (fnP Tryz.prog #[] R) (entry args) w) : Calls Tryz.prog 135 args w R :=
  calls_of_cwE (types := Tryz.prog.types) follows Tryz.func135 F135.code rfl (by kernel_rfl) hn h

def F136.r0 : List Oper := [
  op 4 (.assign (.const (.slice none 0 0))) 31]
def F136.r1 : List Oper := [
  op 7 (.move (.tmp 0)) 83,
  oc 8 (.call ⟨(.value (.func 29)), #[(.tmp 7)], #[83]⟩) 30,
  op 9 (.convert 30 3 (.tmp 8)) 3,
  op 5 (.assign (.tmp 9)) 3]
def F136.r2 : List Oper := [
  op 10 (.move (.tmp 5)) 3,
  op 11 (.binOp .gtr 3 (.tmp 10) (.const (.int .i64 16)) 3) 4]
def F136.r3 : List Oper := [
  op 12 (.move (.tmp 0)) 83,
  oc 13 (.call ⟨(.value (.func 175)), #[(.tmp 12), (.const (.int .i64 33))], #[83, 41]⟩) 0]
def F136.r4 : List Oper := [
  op 4 (.assign (.const (.slice none 0 0))) 31]
def F136.r5 : List Oper := [
  op 6 (.assign (.const (.slice none 0 0))) 31]
def F136.r6 : List Oper := [
  op 14 (.move (.tmp 5)) 3,
  op 15 (.move (.const (.int .i64 0))) 3]
def F136.r7 : List Oper := [
  op 16 (.binOp .lss 3 (.tmp 15) (.tmp 14) 3) 4]
def F136.r8 : List Oper := [
  op 17 (.move (.tmp 6)) 31,
  op 18 (.move (.tmp 1)) 114,
  ⟨(some 19), (.call ⟨(.value (.tmp 18)), #[], #[]⟩), 9, "", #[⟨0, .phase⟩], none⟩,
  oc 20 (.buildSlice 31 1 #[(0, (.tmp 19))]) 31,
  oc 21 (.call ⟨(.builtin .append), #[(.tmp 17), (.tmp 20)], #[31, 31]⟩) 31,
  op 6 (.assign (.tmp 21)) 31]
def F136.r9 : List Oper := [
  op 22 (.binOp .add 3 (.tmp 15) (.const (.int .i64 1)) 3) 3,
  op 15 (.move (.tmp 22)) 3]
def F136.r10 : List Oper := [
  op 23 (.move (.tmp 6)) 31,
  op 4 (.assign (.tmp 23)) 31]
def F136.t9 : Cd := (.region 9 F136.r9.toArray false)
theorem F136.t9_eq {θ : Tag (F136.t9, Q, e, w)} : cwE P F136.t9 Q e w θ = cwE P (.region 9 F136.r9.toArray false) Q e w := rfl
def F136.t8 : Cd := (.seq (.block 1 (.region 8 F136.r8.toArray false)) F136.t9)
theorem F136.t8_eq {θ : Tag (F136.t8, Q, e, w)} : cwE P F136.t8 Q e w θ = cwE P (.seq (.block 1 (.region 8 F136.r8.toArray false)) F136.t9) Q e w := rfl
def F136.t10 : Cd := (.seq (.region 10 F136.r10.toArray false) .ret)
theorem F136.t10_eq {θ : Tag (F136.t10, Q, e, w)} : cwE P F136.t10 Q e w θ = cwE P (.seq (.region 10 F136.r10.toArray false) .ret) Q e w := rfl
def F136.t5 : Cd := (.seq (.region 5 F136.r5.toArray false) (.seq (.seq (.region 6 F136.r6.toArray false) (.block 0 (.loop (.seq (.region 7 F136.r7.toArray false) (.seq (.cond (.tmp 16) .skip (.exit 0)) F136.t8))))) F136.t10))
theorem F136.t5_eq {θ : Tag (F136.t5, Q, e, w)} : cwE P F136.t5 Q e w θ = cwE P (.seq (.region 5 F136.r5.toArray false) (.seq (.seq (.region 6 F136.r6.toArray false) (.block 0 (.loop (.seq (.region 7 F136.r7.toArray false) (.seq (.cond (.tmp 16) .skip (.exit 0)) F136.t8))))) F136.t10)) Q e w := rfl
def F136.code : Cd := (.seq (.region 0 F136.r0.toArray false) (.seq (.region 1 F136.r1.toArray false) (.seq (.seq (.region 2 F136.r2.toArray false) (.cond (.tmp 11) (.seq (.region 3 F136.r3.toArray false) (.seq (.region 4 F136.r4.toArray false) .ret)) .skip)) F136.t5)))
theorem F136.calls (hn : args.size ≤ 24) (h : cwE Tryz.prog F136.code (fnP Tryz.prog #[(.tmp 4)] R) (entry args) w) : Calls Tryz.prog 136 args w R :=
  calls_of_cwE (types := Tryz.prog.types) follows Tryz.func136 F136.code rfl (by kernel_rfl) hn h

def F137.r0 : List Oper := [
  op 4 (.move (.tmp 0)) 73,
  op 5 (.move (.tmp 1)) 73,
  op 6 (.nilCheck (.tmp 5)) 0,
  op 7 (.fieldAddr 39 (.tmp 6) 11) 0,
  od 8 (.load 31 (.tmp 7)) 31,
  oc 9 (.call ⟨(.value (.func 138)), #[(.tmp 8)], #[31]⟩) 31,
  op 10 (.nilCheck (.tmp 4)) 0,
  op 11 (.fieldAddr 39 (.tmp 10) 11) 0,
  ⟨none, (.store 31 (.tmp 11) (.tmp 9)), 0, "", #[⟨0, .chain⟩], none⟩]
def F137.code : Cd := (.region 0 F137.r0.toArray false)
theorem F137.calls (hn : args.size ≤ 12) (h : cwE Tryz.prog F137.code (fnP Tryz.prog #[] R) (entry args) w) : Calls Tryz.prog 137 args w R :=
  calls_of_cwE (types := Tryz.prog.types) follows Tryz.func137 F137.code rfl (by kernel_rfl) hn h

def F138.r0 : List Oper := [
  op 2 (.assign (.const (.slice none 0 0))) 31]
def F138.r1 : List Oper := [
  op 3 (.move (.tmp 0)) 31,
  op 4 (.binOp .eql 31 (.tmp 3) (.const (.slice none 0 0)) 31) 4]
def F138.r2 : List Oper := [
  op 2 (.assign (.const (.slice none 0 0))) 31]
def F138.r3 : List Oper := [
  oc 5 (.buildSlice 31 0 #[]) 31,
  op 6 (.move (.tmp 0)) 31,
  oc 7 (.call ⟨(.builtin .append), #[(.tmp 5), (.tmp 6)], #[31, 31]⟩) 31,
  op 2 (.assign (.tmp 7)) 31]
def F138.t3 : Cd := (.seq (.region 3 F138.r3.toArray false) .ret)
theorem F138.t3_eq {θ : Tag (F138.t3, Q, e, w)} : cwE P F138.t3 Q e w θ = cwE P (.seq (.region 3 F138.r3.toArray false) .ret) Q e w := rfl
def F138.code : Cd := (.seq (.region 0 F138.r0.toArray false) (.seq (.seq (.region 1 F138.r1.toArray false) (.cond (.tmp 4) (.seq (.region 2 F138.r2.toArray false) .ret) .skip)) F138.t3))
theorem F138.calls (hn : args.size ≤ 8) (h : cwE Tryz.prog F138.code (fnP Tryz.prog #[(.tmp 2)] R) (entry args) w) : Calls Tryz.prog 138 args w R :=
  calls_of_cwE (types := Tryz.prog.types) follows Tryz.func138 F138.code rfl (by kernel_rfl) hn h

def F143.r0 : List Oper := [
  op 2 (.assign (.const (.bool false))) 4]
def F143.r1 : List Oper := [
  op 3 (.move (.tmp 0)) 73,
  op 4 (.nilCheck (.tmp 3)) 0,
  op 5 (.fieldAddr 39 (.tmp 4) 12) 0,
  od 6 (.load 32 (.tmp 5)) 32,
  op 7 (.call ⟨(.builtin .len), #[(.tmp 6)], #[32]⟩) 3,
  op 8 (.binOp .leq 3 (.tmp 7) (.const (.int .i64 16)) 3) 4,
  op 2 (.assign (.tmp 8)) 4]
def F143.code : Cd := (.seq (.region 0 F143.r0.toArray false) (.seq (.region 1 F143.r1.toArray false) .ret))
theorem F143.calls (hn : args.size ≤ 9) (h : cwE Tryz.prog F143.code (fnP Tryz.prog #[(.tmp 2)] R) (entry args) w) : Calls Tryz.prog 143 args w R :=
  calls_of_cwE (types := Tryz.prog.types) follows Tryz.func143 F143.code rfl (by kernel_rfl) hn h

def F144.r0 : List Oper := [
  oc 2 (.box 74 (.tmp 0)) 0]
def F144.r1 : List Oper := [
  ⟨(some 5), (.move (.tmp 1)), 73, "", #[], none⟩,
  ⟨(some 6), (.nilCheck (.tmp 5)), 0, "", #[], none⟩,
  ⟨(some 7), (.fieldAddr 39 (.tmp 6) 12), 0, "", #[], none⟩,
  ⟨(some 9), (.makeFunc (.func 146) #[] #[(.tmp 2)]), 161, "", #[], none⟩,
  ⟨(some 4), (.load 74 (.tmp 2)), 74, "", #[⟨64, .data⟩], none⟩,
  ⟨(some 8), (.load 32 (.tmp 7)), 32, "", #[⟨64, .data⟩], none⟩,
  ⟨(some 10), (.call ⟨(.value (.func 145)), #[(.tmp 4), (.tmp 8), (.tmp 9)], #[74, 32, 161]⟩), 0, "", #[⟨6, .chain⟩], none⟩]
def F144.code : Cd := (.seq (.region 0 F144.r0.toArray false) (.region 1 F144.r1.toArray true))
theorem F144.calls (hn : args.size ≤ 11) (h : cwE Tryz.prog F144.code (fnP Tryz.prog #[] R) (entry args) w) : Calls Tryz.prog 144 args w R :=
  calls_of_cwE (types := Tryz.prog.types) follows Tryz.func144 F144.code rfl (by kernel_rfl) hn h

def F145.r0 : List Oper := [
  op 8 (.move (.tmp 0)) 74,
  op 9 (.move (.tmp 1)) 32,
  op 10 (.call ⟨(.builtin .len), #[(.tmp 9)], #[32]⟩) 3,
  op 11 (.convert 3 30 (.tmp 10)) 30,
  oc 12 (.call ⟨(.value (.func 22)), #[(.tmp 8), (.tmp 11)], #[74, 30]⟩) 0]
def F145.r1 : List Oper := [
  op 13 (.move (.tmp 1)) 32,
  op 14 (.call ⟨(.builtin .len), #[(.tmp 13)], #[32]⟩) 3,
  op 15 (.move (.const (.int .i64 0))) 3]
def F145.r2 : List Oper := [
  op 16 (.binOp .lss 3 (.tmp 15) (.tmp 14) 3) 0]
def F145.r3 : List Oper := [
  op 17 (.indexAddr 32 (.tmp 13) (.tmp 15)) 0,
  od 18 (.load 35 (.tmp 17)) 35,
  oc 7 (.alloc 35) 0,
  ⟨none, (.store 35 (.tmp 7) (.tmp 18)), 0, "", #[⟨0, .chain⟩], none⟩]
def F145.r4 : List Oper := [
  op 19 (.move (.tmp 2)) 161,
  od 20 (.load 35 (.tmp 7)) 35,
  ⟨(some 21), (.call ⟨(.value (.tmp 19)), #[(.tmp 20)], #[35]⟩), 0, "", #[⟨0, .phase⟩], none⟩]
def F145.r5 : List Oper := [
  op 22 (.binOp .add 3 (.tmp 15) (.const (.int .i64 1)) 3) 3,
  op 15 (.move (.tmp 22)) 3]
def F145.t5 : Cd := (.region 5 F145.r5.toArray false)
theorem F145.t5_eq {θ : Tag (F145.t5, Q, e, w)} : cwE P F145.t5 Q e w θ = cwE P (.region 5 F145.r5.toArray false) Q e w := rfl
def F145.t3 : Cd := (.seq (.block 1 (.seq (.region 3 F145.r3.toArray false) (.region 4 F145.r4.toArray false))) F145.t5)
theorem F145.t3_eq {θ : Tag (F145.t3, Q, e, w)} : cwE P F145.t3 Q e w θ = cwE P (.seq (.block 1 (.seq (.region 3 F145.r3.toArray false) (.region 4 F145.r4.toArray false))) F145.t5) Q e w := rfl
def F145.code : Cd := (.seq (.region 0 F145.r0.toArray false) (.seq (.region 1 F145.r1.toArray false) (.block 0 (.loop (.seq (.region 2 F145.r2.toArray false) (.seq (.cond (.tmp 16) .skip (.exit 0)) F145.t3))))))
theorem F145.calls (hn : args.size ≤ 23) (h : cwE Tryz.prog F145.code (fnP Tryz.prog #[] R) (entry args) w) : Calls Tryz.prog 145 args w R :=
  calls_of_cwE (types := Tryz.prog.types) follows Tryz.func145 F145.code rfl (by kernel_rfl) hn h

def F146.r0 : List Oper := [
  oc 2 (.box 35 (.tmp 0)) 0]
def F146.r1 : List Oper := [
  od 3 (.load 74 (.tmp 1)) 74,
  od 4 (.load 35 (.tmp 2)) 35,
  oc 5 (.call ⟨(.value (.func 102)), #[(.tmp 3), (.tmp 4)], #[74, 35]⟩) 0]
def F146.code : Cd := (.seq (.region 0 F146.r0.toArray false) (.region 1 F146.r1.toArray false))
theorem F146.calls (hn : args.size ≤ 6) (h : cwE Tryz.prog F146.code (fnP Tryz.prog #[] R) (entry args) w) : Calls Tryz.prog 146 args w R :=
  calls_of_cwE (types := Tryz.prog.types) follows Tryz.func146 F146.code rfl (by kernel_rfl) hn h

def F147.r0 : List Oper := [
  oc 2 (.box 83 (.tmp 0)) 0]
def F147.r1 : List Oper := [
  op 4 (.move (.tmp 1)) 73,
  od 5 (.load 83 (.tmp 2)) 83,
  op 6 (.makeFunc (.func 149) #[] #[(.tmp 2)]) 126,
  oc 7 (.call ⟨(.value (.func 148)), #[(.tmp 5), (.tmp 6)], #[83, 126]⟩) 32,
  op 8 (.nilCheck (.tmp 4)) 0,
  op 9 (.fieldAddr 39 (.tmp 8) 12) 0,
  ⟨none, (.store 32 (.tmp 9) (.tmp 7)), 0, "", #[⟨0, .chain⟩], none⟩]
def F147.code : Cd := (.seq (.region 0 F147.r0.toArray false) (.region 1 F147.r1.toArray false))
theorem F147.calls (hn : args.size ≤ 10) (h : cwE Tryz.prog F147.code (fnP Tryz.prog #[] R) (entry args) w) : Calls Tryz.prog 147 args w R :=
  calls_of_cwE (types := Tryz.prog.types) follows Tryz.func147 F147.code rfl (by kernel_rfl) hn h

def F148.r0 : List Oper := [
  op 4 (.assign (.const (.slice none 0 0))) 32]
def F148.r1 : List Oper := [
  op 7 (.move (.tmp 0)) 83,
  oc 8 (.call ⟨(.value (.func 29)), #[(.tmp 7)], #[83]⟩) 30,
  op 9 (.convert 30 3 (.tmp 8)) 3,
  op 5 (.assign (.tmp 9)) 3]
def F148.r2 : List Oper := [
  op 10 (.move (.tmp 5)) 3,
  op 11 (.binOp .gtr 3 (.tmp 10) (.const (.int .i64 16)) 3) 4]
def F148.r3 : List Oper := [
  op 12 (.move (.tmp 0)) 83,
  oc 13 (.call ⟨(.value (.func 175)), #[(.tmp 12), (.const (.int .i64 33))], #[83, 41]⟩) 0]
def F148.r4 : List Oper := [
  op 4 (.assign (.const (.slice none 0 0))) 32]
def F148.r5 : List Oper := [
  op 6 (.assign (.const (.slice none 0 0))) 32]
def F148.r6 : List Oper := [
  op 14 (.move (.tmp 5)) 3,
  op 15 (.move (.const (.int .i64 0))) 3]
def F148.r7 : List Oper := [
  op 16 (.binOp .lss 3 (.tmp 15) (.tmp 14) 3) 4]
def F148.r8 : List Oper := [
  op 17 (.move (.tmp 6)) 32,
  op 18 (.move (.tmp 1)) 126,
  ⟨(some 19), (.call ⟨(.value (.tmp 18)), #[], #[]⟩), 35, "", #[⟨0, .phase⟩], none⟩,
  oc 20 (.buildSlice 32 1 #[(0, (.tmp 19))]) 32,
  oc 21 (.call ⟨(.builtin .append), #[(.tmp 17), (.tmp 20)], #[32, 32]⟩) 32,
  op 6 (.assign (.tmp 21)) 32]
def F148.r9 : List Oper := [
  op 22 (.binOp .add 3 (.tmp 15) (.const (.int .i64 1)) 3) 3,
  op 15 (.move (.tmp 22)) 3]
def F148.r10 : List Oper := [
  op 23 (.move (.tmp 6)) 32,
  op 4 (.assign (.tmp 23)) 32]
def F148.t9 : Cd := (.region 9 F148.r9.toArray false)
theorem F148.t9_eq {θ : Tag (F148.t9, Q, e, w)} : cwE P F148.t9 Q e w θ = cwE P (.region 9 F148.r9.toArray false) Q e w := rfl
def F148.t8 : Cd := (.seq (.block 1 (.region 8 F148.r8.toArray false)) F148.t9)
theorem F148.t8_eq {θ : Tag (F148.t8, Q, e, w)} : cwE P F148.t8 Q e w θ = cwE P (.seq (.block 1 (.region 8 F148.r8.toArray false)) F148.t9) Q e w := rfl
def F148.t10 : Cd := (.seq (.region 10 F148.r10.toArray false) .ret)
theorem F148.t10_eq {θ : Tag (F148.t10, Q, e, w)} : cwE P F148.t10 Q e w θ = cwE P (.seq (.region 10 F148.r10.toArray false) .ret) Q e w := rfl
def F148.t5 : Cd := (.seq (.region 5 F148.r5.toArray false) (.seq (.seq (.region 6 F148.r6.toArray false) (.block 0 (.loop (.seq (.region 7 F148.r7.toArray false) (.seq (.cond (.tmp 16) .skip (.exit 0)) F148.t8))))) F148.t10))
theorem F148.t5_eq {θ : Tag (F148.t5, Q, e, w)} : cwE P F148.t5 Q e w θ = cwE P (.seq (.region 5 F148.r5.toArray false) (.seq (.seq (.region 6 F148.r6.toArray false) (.block 0 (.loop (.seq (.region 7 F148.r7.toArray false) (.seq (.cond (.tmp 16) .skip (.exit 0)) F148.t8))))) F148.t10)) Q e w := rfl
def F148.code : Cd := (.seq (.region 0 F148.r0.toArray false) (.seq (.region 1 F148.r1.toArray false) (.seq (.seq (.region 2 F148.r2.toArray false) (.cond (.tmp 11) (.seq (.region 3 F148.r3.toArray false) (.seq (.region 4 F148.r4.toArray false) .ret)) .skip)) F148.t5)))
theorem F148.calls (hn : args.size ≤ 24) (h : cwE Tryz.prog F148.code (fnP Tryz.prog #[(.tmp 4)] R) (entry args) w) : Calls Tryz.prog 148 args w R :=
  calls_of_cwE (types := Tryz.prog.types) follows Tryz.func148 F148.code rfl (by kernel_rfl) hn h

def F149.r0 : List Oper := [
  oc 1 (.alloc 35) 0]
def F149.r1 : List Oper := [
  od 2 (.load 83 (.tmp 0)) 83,
  oc 3 (.call ⟨(.value (.func 104)), #[(.tmp 2)], #[83]⟩) 35,
  ⟨none, (.store 35 (.tmp 1) (.tmp 3)), 0, "", #[⟨0, .chain⟩], none⟩]
def F149.code : Cd := (.seq (.region 0 F149.r0.toArray false) (.seq (.region 1 F149.r1.toArray false) .ret))
theorem F149.calls (hn : args.size ≤ 4) (h : cwE Tryz.prog F149.code (fnP Tryz.prog #[(.cell 1 35)] R) (entry args) w) : Calls Tryz.prog 149 args w R :=
  calls_of_cwE (types := Tryz.prog.types) follows Tryz.func149 F149.code rfl (by kernel_rfl) hn h

def F150.r0 : List Oper := [
  op 4 (.move (.tmp 0)) 73,
  op 5 (.move (.tmp 1)) 73,
  op 6 (.nilCheck (.tmp 5)) 0,
  op 7 (.fieldAddr 39 (.tmp 6) 12) 0,
  od 8 (.load 32 (.tmp 7)) 32,
  oc 9 (.call ⟨(.value (.func 151)), #[(.tmp 8)], #[32]⟩) 32,
  op 10 (.nilCheck (.tmp 4)) 0,
  op 11 (.fieldAddr 39 (.tmp 10) 12) 0,
  ⟨none, (.store 32 (.tmp 11) (.tmp 9)), 0, "", #[⟨0, .chain⟩], none⟩]
def F150.code : Cd := (.region 0 F150.r0.toArray false)
theorem F150.calls (hn : args.size ≤ 12) (h : cwE Tryz.prog F150.code (fnP Tryz.prog #[] R) (entry args) w) : Calls Tryz.prog 150 args w R :=
  calls_of_cwE (types := Tryz.prog.types) follows Tryz.func150 F150.code rfl (by kernel_rfl) hn h

def F151.r0 : List Oper := [
  op 2 (.assign (.const (.slice none 0 0))) 32]
def F151.r1 : List Oper := [
  op 3 (.move (.tmp 0)) 32,
  op 4 (.binOp .eql 32 (.tmp 3) (.const (.slice none 0 0)) 32) 4]
def F151.r2 : List Oper := [
  op 2 (.assign (.const (.slice none 0 0))) 32]
def F151.r3 : List Oper := [
  oc 5 (.buildSlice 32 0 #[]) 32,
  op 6 (.move (.tmp 0)) 32,
  oc 7 (.call ⟨(.builtin .append), #[(.tmp 5), (.tmp 6)], #[32, 32]⟩) 32,
  op 2 (.assign (.tmp 7)) 32]
def F151.t3 : Cd := (.seq (.region 3 F151.r3.toArray false) .ret)
theorem F151.t3_eq {θ : Tag (F151.t3, Q, e, w)} : cwE P F151.t3 Q e w θ = cwE P (.seq (.region 3 F151.r3.toArray false) .ret) Q e w := rfl
def F151.code : Cd := (.seq (.region 0 F151.r0.toArray false) (.seq (.seq (.region 1 F151.r1.toArray false) (.cond (.tmp 4) (.seq (.region 2 F151.r2.toArray false) .ret) .skip)) F151.t3))
theorem F151.calls (hn : args.size ≤ 8) (h : cwE Tryz.prog F151.code (fnP Tryz.prog #[(.tmp 2)] R) (entry args) w) : Calls Tryz.prog 151 args w R :=
  calls_of_cwE (types := Tryz.prog.types) follows Tryz.func151 F151.code rfl (by kernel_rfl) hn h

def F156.r0 : List Oper := [
  op 2 (.assign (.const (.bool false))) 4]
def F156.r1 : List Oper := [
  op 3 (.move (.tmp 0)) 73,
  op 4 (.nilCheck (.tmp 3)) 0,
  op 5 (.fieldAddr 39 (.tmp 4) 21) 0,
  op 6 (.fieldAddr 37 (.tmp 5) 7) 0,
  od 7 (.load 9 (.tmp 6)) 9,
  oc 8 (.call ⟨(.value (.func 64)), #[(.tmp 7)], #[9]⟩) 4,
  op 9 (.move (.tmp 8)) 4,
  ⟨(some 10), (.move (.tmp 0)), 73, "", #[], (some (9, true))⟩,
  ⟨(some 11), (.nilCheck (.tmp 10)), 0, "", #[], (some (9, true))⟩,
  ⟨(some 12), (.fieldAddr 39 (.tmp 11) 21), 0, "", #[], (some (9, true))⟩,
  ⟨(some 13), (.fieldAddr 37 (.tmp 12) 8), 0, "", #[], (some (9, true))⟩,
  ⟨(some 14), (.load 9 (.tmp 13)), 9, "", #[⟨0, .data⟩], (some (9, true))⟩,
  ⟨(some 15), (.call ⟨(.value (.func 64)), #[(.tmp 14)], #[9]⟩), 4, "", #[⟨0, .chain⟩], (some (9, true))⟩,
  op 16 (.pick (.tmp 9) (.tmp 15) (.const (.bool false))) 4,
  op 17 (.move (.tmp 16)) 4,
  ⟨(some 18), (.move (.tmp 0)), 73, "", #[], (some (17, true))⟩,
  ⟨(some 19), (.nilCheck (.tmp 18)), 0, "", #[], (some (17, true))⟩,
  ⟨(some 20), (.fieldAddr 39 (.tmp 19) 21), 0, "", #[], (some (17, true))⟩,
  ⟨(some 21), (.fieldAddr 37 (.tmp 20) 9), 0, "", #[], (some (17, true))⟩,
  ⟨(some 22), (.load 9 (.tmp 21)), 9, "", #[⟨0, .data⟩], (some (17, true))⟩,
  ⟨(some 23), (.call ⟨(.value (.func 64)), #[(.tmp 22)], #[9]⟩), 4, "", #[⟨0, .chain⟩], (some (17, true))⟩,
  op 24 (.pick (.tmp 17) (.tmp 23) (.const (.bool false))) 4,
  op 25 (.move (.tmp 24)) 4,
  ⟨(some 26), (.move (.tmp 0)), 73, "", #[], (some (25, true))⟩,
  ⟨(some 27), (.nilCheck (.tmp 26)), 0, "", #[], (some (25, true))⟩,
  ⟨(some 28), (.fieldAddr 39 (.tmp 27) 21), 0, "", #[], (some (25, true))⟩,
  ⟨(some 29), (.fieldAddr 37 (.tmp 28) 10), 0, "", #[], (some (25, true))⟩,
  ⟨(some 30), (.load 9 (.tmp 29)), 9, "", #[⟨0, .data⟩], (some (25, true))⟩,
  ⟨(some 31), (.call ⟨(.value (.func 64)), #[(.tmp 30)], #[9]⟩), 4, "", #[⟨0, .chain⟩], (some (25, true))⟩,
  op 32 (.pick (.tmp 25) (.tmp 31) (.const (.bool false))) 4,
  op 2 (.assign (.tmp 32)) 4]
def F156.code : Cd := (.seq (.region 0 F156.r0.toArray false) (.seq (.region 1 F156.r1.toArray false) .ret))
theorem F156.calls (hn : args.size ≤ 33) (h : cwE Tryz.prog F156.code (fnP Tryz.prog #[(.tmp 2)] R) (entry args) w) : Calls Tryz.prog 156 args w R :=
  calls_of_cwE (types := Tryz.prog.types) follows Tryz.func156 F156.code rfl (by kernel_rfl) hn h

def F157.r0 : List Oper := [
  op 4 (.move (.tmp 0)) 74,
  op 5 (.move (.tmp 1)) 73,
  op 6 (.nilCheck (.tmp 5)) 0,
  op 7 (.fieldAddr 39 (.tmp 6) 21) 0,
  od 8 (.load 37 (.tmp 7)) 37,
  oc 9 (.call ⟨(.value (.func 158)), #[(.tmp 4), (.tmp 8)], #[74, 37]⟩) 0]
def F157.code : Cd := (.region 0 F157.r0.toArray false)
theorem F157.calls (hn : args.size ≤ 10) (h : cwE Tryz.prog F157.code (fnP Tryz.prog #[] R) (entry args) w) : Calls Tryz.prog 157 args w R :=
  calls_of_cwE (types := Tryz.prog.types) follows Tryz.func157 F157.code rfl (by kernel_rfl) hn h

end Go.Proofs.YtmiohkmcnppaeaaGreatDoor

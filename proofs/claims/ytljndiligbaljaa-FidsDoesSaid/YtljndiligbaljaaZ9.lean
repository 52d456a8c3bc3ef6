/- part 9 -/
import Derived.Test.YtljndiligbaljaaZ1
import Derived.Test.YtljndiligbaljaaZ2
import Derived.Test.YtljndiligbaljaaZ3
import Derived.Test.YtljndiligbaljaaZ4
import Derived.Test.YtljndiligbaljaaZ5
import Derived.Test.YtljndiligbaljaaZ6
import Derived.Test.YtljndiligbaljaaZ7
import Derived.Test.YtljndiligbaljaaZ8
import Derived.Test.YtljndiligbaljaaProg
namespace Go.Proofs.Ytljndiligbaljaa
open Go
set_option maxRecDepth 100000
variable {P : Program} {Q : Post} {e : FA} {w : World} {args : Array Value} {R : Ending → World → Prop}
abbrev op (d : Nat) (o : Op) (T : TypeId) : Oper := ⟨some d, o, T, "", #[], none⟩
abbrev od (d : Nat) (o : Op) (T : TypeId) : Oper := ⟨some d, o, T, "", #[⟨0, .data⟩], none⟩
abbrev og (d : Nat) (o : Op) (T : TypeId) (g : Nat) (b : Bool) : Oper := ⟨some d, o, T, "", #[], some (g, b)⟩
abbrev oc (d : Nat) (o : Op) (T : TypeId) : Oper := ⟨some d, o, T, "", #[⟨0, .chain⟩], none⟩
theorem follows : Try.prog.follows .mixedOrders = true := by kernel_rfl
theorem fact_aggSz_122 : aggSz Try.prog 122 = some none := by kernel_rfl
theorem fact_aggSz_22 : aggSz Try.prog 22 = some none := by kernel_rfl
theorem fact_aggSz_28 : aggSz Try.prog 28 = some none := by kernel_rfl
theorem fact_aggSz_3 : aggSz Try.prog 3 = some none := by kernel_rfl
theorem fact_aggSz_32 : aggSz Try.prog 32 = some none := by kernel_rfl
theorem fact_aggSz_35 : aggSz Try.prog 35 = some none := by kernel_rfl
theorem fact_aggSz_36 : aggSz Try.prog 36 = some none := by kernel_rfl
theorem fact_aggSz_37 : aggSz Try.prog 37 = some none := by kernel_rfl
theorem fact_aggSz_38 : aggSz Try.prog 38 = some none := by kernel_rfl
theorem fact_aggSz_39 : aggSz Try.prog 39 = some none := by kernel_rfl
theorem fact_aggSz_4 : aggSz Try.prog 4 = some none := by kernel_rfl
theorem fact_aggSz_41 : aggSz Try.prog 41 = some (some 7) := by kernel_rfl
theorem fact_aggSz_43 : aggSz Try.prog 43 = some (some 14) := by kernel_rfl
theorem fact_aggSz_45 : aggSz Try.prog 45 = some (some 21) := by kernel_rfl
theorem fact_aggSz_48 : aggSz Try.prog 48 = some (some 15) := by kernel_rfl
theorem fact_aggSz_5 : aggSz Try.prog 5 = some none := by kernel_rfl
theorem fact_aggSz_61 : aggSz Try.prog 61 = some none := by kernel_rfl
theorem fact_aggSz_64 : aggSz Try.prog 64 = some none := by kernel_rfl
theorem fact_aggSz_65 : aggSz Try.prog 65 = some none := by kernel_rfl
theorem fact_aggSz_66 : aggSz Try.prog 66 = some none := by kernel_rfl
theorem fact_aggSz_67 : aggSz Try.prog 67 = some none := by kernel_rfl
theorem fact_aggSz_70 : aggSz Try.prog 70 = some none := by kernel_rfl
theorem fact_aggSz_81 : aggSz Try.prog 81 = some none := by kernel_rfl
theorem fact_aggSz_86 : aggSz Try.prog 86 = some none := by kernel_rfl
theorem fact_aggSz_9 : aggSz Try.prog 9 = some none := by kernel_rfl
theorem fact_bldP_41 : bldP Try.prog 41 = some ([.string ⟨#[]⟩, .string ⟨#[]⟩, .int .u64 0, .int .u64 0, .int .u8 0, .int .i64 0, .slice none 0 0], some [(0, 1), (1, 1), (2, 1), (3, 1), (4, 1), (5, 1), (6, 1)], 0) := by kernel_rfl
theorem fact_bldP_43 : bldP Try.prog 43 = some ([.int .u8 0, .int .u64 0, .string ⟨#[]⟩, .int .u8 0, .bool false, .int .u64 0, .int .u64 0, .string ⟨#[]⟩, .string ⟨#[]⟩, .int .u64 0, .int .u64 0, .int .u8 0, .int .i64 0, .slice none 0 0], some [(0, 1), (1, 1), (2, 1), (3, 1), (4, 1), (5, 1), (6, 1), (7, 7)], 0) := by kernel_rfl
theorem fact_bldP_45 : bldP Try.prog 45 = some ([.int .i64 0, .int .u32 0, .int .u32 0, .int .u8 0, .int .u64 0, .string ⟨#[]⟩, .int .u8 0, .bool false, .int .u64 0, .int .u64 0, .string ⟨#[]⟩, .string ⟨#[]⟩, .int .u64 0, .int .u64 0, .int .u8 0, .int .i64 0, .slice none 0 0, .int .u64 0, .int .u64 0, .int .u8 0, .bool false], some [(0, 1), (1, 1), (2, 1), (3, 14), (17, 1), (18, 1), (19, 1), (20, 1)], 0) := by kernel_rfl
theorem fact_bldP_48 : bldP Try.prog 48 = some ([.int .u32 0, .int .u8 0, .int .u64 0, .string ⟨#[]⟩, .int .u8 0, .bool false, .int .u64 0, .int .u64 0, .string ⟨#[]⟩, .string ⟨#[]⟩, .int .u64 0, .int .u64 0, .int .u8 0, .int .i64 0, .slice none 0 0], some [(0, 1), (1, 14)], 0) := by kernel_rfl
theorem fact_bldP_69 : bldP Try.prog 69 = some ([.slice none 0 0, .slice none 0 0, .slice none 0 0, .slice none 0 0], some [(0, 1), (1, 1), (2, 1), (3, 1)], 0) := by kernel_rfl
theorem fact_bldP_72 : bldP Try.prog 72 = some ([.pointer none, .pointer none], some [(0, 1), (1, 1)], 0) := by kernel_rfl
theorem fact_bldP_88 : bldP Try.prog 88 = some ([.int .i64 0, .map none], some [(0, 1), (1, 1)], 0) := by kernel_rfl
theorem fact_bldP_94 : bldP Try.prog 94 = some ([.int .i64 0, .slice none 0 0], some [(0, 1), (1, 1)], 0) := by kernel_rfl
theorem fact_elemOf_25 : elemOf? Try.prog 25 = some (none, 21) := by kernel_rfl
theorem fact_elemOf_28 : elemOf? Try.prog 28 = some (none, 15) := by kernel_rfl
theorem fact_elemOf_32 : elemOf? Try.prog 32 = some (none, 1) := by kernel_rfl
theorem fact_elemOf_39 : elemOf? Try.prog 39 = some (none, 1) := by kernel_rfl
theorem fact_elemOf_65 : elemOf? Try.prog 65 = some (none, 1) := by kernel_rfl
theorem fact_elemOf_66 : elemOf? Try.prog 66 = some (none, 1) := by kernel_rfl
theorem fact_fieldOff_41_0 : fieldOff Try.prog 41 0 = some 0 := by kernel_rfl
theorem fact_fieldOff_41_1 : fieldOff Try.prog 41 1 = some 1 := by kernel_rfl
theorem fact_fieldOff_41_2 : fieldOff Try.prog 41 2 = some 2 := by kernel_rfl
theorem fact_fieldOff_41_3 : fieldOff Try.prog 41 3 = some 3 := by kernel_rfl
theorem fact_fieldOff_41_4 : fieldOff Try.prog 41 4 = some 4 := by kernel_rfl
theorem fact_fieldOff_41_5 : fieldOff Try.prog 41 5 = some 5 := by kernel_rfl
theorem fact_fieldOff_41_6 : fieldOff Try.prog 41 6 = some 6 := by kernel_rfl
theorem fact_fieldOff_43_0 : fieldOff Try.prog 43 0 = some 0 := by kernel_rfl
theorem fact_fieldOff_43_1 : fieldOff Try.prog 43 1 = some 1 := by kernel_rfl
theorem fact_fieldOff_43_2 : fieldOff Try.prog 43 2 = some 2 := by kernel_rfl
theorem fact_fieldOff_43_3 : fieldOff Try.prog 43 3 = some 3 := by kernel_rfl
theorem fact_fieldOff_43_4 : fieldOff Try.prog 43 4 = some 4 := by kernel_rfl
theorem fact_fieldOff_43_5 : fieldOff Try.prog 43 5 = some 5 := by kernel_rfl
theorem fact_fieldOff_43_6 : fieldOff Try.prog 43 6 = some 6 := by kernel_rfl
theorem fact_fieldOff_43_7 : fieldOff Try.prog 43 7 = some 7 := by kernel_rfl
theorem fact_fieldOff_45_0 : fieldOff Try.prog 45 0 = some 0 := by kernel_rfl
theorem fact_fieldOff_45_1 : fieldOff Try.prog 45 1 = some 1 := by kernel_rfl
theorem fact_fieldOff_45_2 : fieldOff Try.prog 45 2 = some 2 := by kernel_rfl
theorem fact_fieldOff_45_3 : fieldOff Try.prog 45 3 = some 3 := by kernel_rfl
theorem fact_fieldOff_45_4 : fieldOff Try.prog 45 4 = some 17 := by kernel_rfl
theorem fact_fieldOff_45_5 : fieldOff Try.prog 45 5 = some 18 := by kernel_rfl
theorem fact_fieldOff_45_6 : fieldOff Try.prog 45 6 = some 19 := by kernel_rfl
theorem fact_fieldOff_45_7 : fieldOff Try.prog 45 7 = some 20 := by kernel_rfl
theorem fact_fieldOff_48_0 : fieldOff Try.prog 48 0 = some 0 := by kernel_rfl
theorem fact_fieldOff_48_1 : fieldOff Try.prog 48 1 = some 1 := by kernel_rfl
theorem fact_fieldOff_69_0 : fieldOff Try.prog 69 0 = some 0 := by kernel_rfl
theorem fact_fieldOff_69_1 : fieldOff Try.prog 69 1 = some 1 := by kernel_rfl
theorem fact_fieldOff_69_2 : fieldOff Try.prog 69 2 = some 2 := by kernel_rfl
theorem fact_fieldOff_69_3 : fieldOff Try.prog 69 3 = some 3 := by kernel_rfl
theorem fact_fieldOff_72_0 : fieldOff Try.prog 72 0 = some 0 := by kernel_rfl
theorem fact_fieldOff_72_1 : fieldOff Try.prog 72 1 = some 1 := by kernel_rfl
theorem fact_fieldOff_88_0 : fieldOff Try.prog 88 0 = some 0 := by kernel_rfl
theorem fact_fieldOff_88_1 : fieldOff Try.prog 88 1 = some 1 := by kernel_rfl
theorem fact_fieldOff_94_0 : fieldOff Try.prog 94 0 = some 0 := by kernel_rfl
theorem fact_fieldOff_94_1 : fieldOff Try.prog 94 1 = some 1 := by kernel_rfl
theorem fact_fnOk_11 : fnOk Try.prog 11 = true := by kernel_rfl
theorem fact_fnOk_14 : fnOk Try.prog 14 = true := by kernel_rfl
theorem fact_fnOk_16 : fnOk Try.prog 16 = true := by kernel_rfl
theorem fact_fnOk_18 : fnOk Try.prog 18 = true := by kernel_rfl
theorem fact_fnOk_19 : fnOk Try.prog 19 = true := by kernel_rfl
theorem fact_fnOk_20 : fnOk Try.prog 20 = true := by kernel_rfl
theorem fact_fnOk_21 : fnOk Try.prog 21 = true := by kernel_rfl
theorem fact_fnOk_22 : fnOk Try.prog 22 = true := by kernel_rfl
theorem fact_fnOk_23 : fnOk Try.prog 23 = true := by kernel_rfl
theorem fact_fnOk_24 : fnOk Try.prog 24 = true := by kernel_rfl
theorem fact_fnOk_25 : fnOk Try.prog 25 = true := by kernel_rfl
theorem fact_fnOk_26 : fnOk Try.prog 26 = true := by kernel_rfl
theorem fact_fnOk_27 : fnOk Try.prog 27 = true := by kernel_rfl
theorem fact_fnOk_28 : fnOk Try.prog 28 = true := by kernel_rfl
theorem fact_fnOk_29 : fnOk Try.prog 29 = true := by kernel_rfl
theorem fact_fnOk_30 : fnOk Try.prog 30 = true := by kernel_rfl
theorem fact_fnOk_31 : fnOk Try.prog 31 = true := by kernel_rfl
theorem fact_fnOk_32 : fnOk Try.prog 32 = true := by kernel_rfl
theorem fact_fnOk_33 : fnOk Try.prog 33 = true := by kernel_rfl
theorem fact_fnOk_34 : fnOk Try.prog 34 = true := by kernel_rfl
theorem fact_fnOk_35 : fnOk Try.prog 35 = true := by kernel_rfl
theorem fact_fnOk_36 : fnOk Try.prog 36 = true := by kernel_rfl
theorem fact_fnOk_37 : fnOk Try.prog 37 = true := by kernel_rfl
theorem fact_fnOk_38 : fnOk Try.prog 38 = true := by kernel_rfl
theorem fact_fnOk_39 : fnOk Try.prog 39 = true := by kernel_rfl
theorem fact_fnOk_40 : fnOk Try.prog 40 = true := by kernel_rfl
theorem fact_fnOk_41 : fnOk Try.prog 41 = true := by kernel_rfl
theorem fact_fnOk_42 : fnOk Try.prog 42 = true := by kernel_rfl
theorem fact_fnOk_43 : fnOk Try.prog 43 = true := by kernel_rfl
theorem fact_fnOk_44 : fnOk Try.prog 44 = true := by kernel_rfl
theorem fact_fnOk_45 : fnOk Try.prog 45 = true := by kernel_rfl
theorem fact_fnOk_46 : fnOk Try.prog 46 = true := by kernel_rfl
theorem fact_fnOk_47 : fnOk Try.prog 47 = true := by kernel_rfl
theorem fact_fnOk_48 : fnOk Try.prog 48 = true := by kernel_rfl
theorem fact_fnOk_49 : fnOk Try.prog 49 = true := by kernel_rfl
theorem fact_fnOk_50 : fnOk Try.prog 50 = true := by kernel_rfl
theorem fact_fnOk_51 : fnOk Try.prog 51 = true := by kernel_rfl
theorem fact_fnOk_52 : fnOk Try.prog 52 = true := by kernel_rfl
theorem fact_fnOk_53 : fnOk Try.prog 53 = true := by kernel_rfl
theorem fact_fnOk_54 : fnOk Try.prog 54 = true := by kernel_rfl
theorem fact_fnOk_55 : fnOk Try.prog 55 = true := by kernel_rfl
theorem fact_fnOk_56 : fnOk Try.prog 56 = true := by kernel_rfl
theorem fact_fnOk_57 : fnOk Try.prog 57 = true := by kernel_rfl
theorem fact_fnOk_58 : fnOk Try.prog 58 = true := by kernel_rfl
theorem fact_fnOk_59 : fnOk Try.prog 59 = true := by kernel_rfl
theorem fact_fnOk_60 : fnOk Try.prog 60 = true := by kernel_rfl
theorem fact_fnOk_61 : fnOk Try.prog 61 = true := by kernel_rfl
theorem fact_fnOk_62 : fnOk Try.prog 62 = true := by kernel_rfl
theorem fact_fnOk_63 : fnOk Try.prog 63 = true := by kernel_rfl
theorem fact_fnOk_64 : fnOk Try.prog 64 = true := by kernel_rfl
theorem fact_fnOk_65 : fnOk Try.prog 65 = true := by kernel_rfl
theorem fact_fnOk_66 : fnOk Try.prog 66 = true := by kernel_rfl
theorem fact_fnOk_67 : fnOk Try.prog 67 = true := by kernel_rfl
theorem fact_fnOk_68 : fnOk Try.prog 68 = true := by kernel_rfl
theorem fact_fnOk_69 : fnOk Try.prog 69 = true := by kernel_rfl
theorem fact_fnOk_70 : fnOk Try.prog 70 = true := by kernel_rfl
theorem fact_fnOk_71 : fnOk Try.prog 71 = true := by kernel_rfl
theorem fact_fnOk_72 : fnOk Try.prog 72 = true := by kernel_rfl
theorem fact_fnOk_73 : fnOk Try.prog 73 = true := by kernel_rfl
theorem fact_fnOk_74 : fnOk Try.prog 74 = true := by kernel_rfl
theorem fact_fnOk_75 : fnOk Try.prog 75 = true := by kernel_rfl
theorem fact_fnOk_76 : fnOk Try.prog 76 = true := by kernel_rfl
theorem fact_fnOk_77 : fnOk Try.prog 77 = true := by kernel_rfl
theorem fact_fnOk_78 : fnOk Try.prog 78 = true := by kernel_rfl
theorem fact_fnOk_79 : fnOk Try.prog 79 = true := by kernel_rfl
theorem fact_fnOk_80 : fnOk Try.prog 80 = true := by kernel_rfl
theorem fact_fnOk_81 : fnOk Try.prog 81 = true := by kernel_rfl
theorem fact_fnOk_82 : fnOk Try.prog 82 = true := by kernel_rfl
theorem fact_fnOk_83 : fnOk Try.prog 83 = true := by kernel_rfl
theorem fact_fnOk_84 : fnOk Try.prog 84 = true := by kernel_rfl
theorem fact_fnOk_85 : fnOk Try.prog 85 = true := by kernel_rfl
theorem fact_fnOk_88 : fnOk Try.prog 88 = true := by kernel_rfl
theorem fact_fnOk_89 : fnOk Try.prog 89 = true := by kernel_rfl
theorem fact_fnOk_90 : fnOk Try.prog 90 = true := by kernel_rfl
theorem fact_fnOk_91 : fnOk Try.prog 91 = true := by kernel_rfl
theorem fact_fnOk_92 : fnOk Try.prog 92 = true := by kernel_rfl
theorem fact_fnOk_93 : fnOk Try.prog 93 = true := by kernel_rfl
theorem fact_fnOk_94 : fnOk Try.prog 94 = true := by kernel_rfl
theorem fact_rowTy_25 : rowTy Try.prog 25 = some (45, 21, 184, [.int .i64 0, .int .u32 0, .int .u32 0, .int .u8 0, .int .u64 0, .string ⟨#[]⟩, .int .u8 0, .bool false, .int .u64 0, .int .u64 0, .string ⟨#[]⟩, .string ⟨#[]⟩, .int .u64 0, .int .u64 0, .int .u8 0, .int .i64 0, .slice none 0 0, .int .u64 0, .int .u64 0, .int .u8 0, .bool false]) := by kernel_rfl
theorem fact_rowTy_28 : rowTy Try.prog 28 = some (48, 15, 152, [.int .u32 0, .int .u8 0, .int .u64 0, .string ⟨#[]⟩, .int .u8 0, .bool false, .int .u64 0, .int .u64 0, .string ⟨#[]⟩, .string ⟨#[]⟩, .int .u64 0, .int .u64 0, .int .u8 0, .int .i64 0, .slice none 0 0]) := by kernel_rfl
theorem fact_rowTy_32 : rowTy Try.prog 32 = some (35, 1, 4, [.int .u32 0]) := by kernel_rfl
theorem fact_rowTy_39 : rowTy Try.prog 39 = some (5, 1, 1, [.int .u8 0]) := by kernel_rfl
theorem fact_rowTy_65 : rowTy Try.prog 65 = some (39, 1, 24, [.slice none 0 0]) := by kernel_rfl
theorem fact_rowTy_66 : rowTy Try.prog 66 = some (28, 1, 24, [.slice none 0 0]) := by kernel_rfl
theorem fact_rowTy_67 : rowTy Try.prog 67 = some (3, 1, 8, [.int .i64 0]) := by kernel_rfl
theorem fact_szO_122 : szO Try.prog 122 = some 1 := by kernel_rfl
theorem fact_szO_28 : szO Try.prog 28 = some 1 := by kernel_rfl
theorem fact_szO_3 : szO Try.prog 3 = some 1 := by kernel_rfl
theorem fact_szO_32 : szO Try.prog 32 = some 1 := by kernel_rfl
theorem fact_szO_35 : szO Try.prog 35 = some 1 := by kernel_rfl
theorem fact_szO_37 : szO Try.prog 37 = some 1 := by kernel_rfl
theorem fact_szO_39 : szO Try.prog 39 = some 1 := by kernel_rfl
theorem fact_szO_4 : szO Try.prog 4 = some 1 := by kernel_rfl
theorem fact_szO_41 : szO Try.prog 41 = some 7 := by kernel_rfl
theorem fact_szO_43 : szO Try.prog 43 = some 14 := by kernel_rfl
theorem fact_szO_45 : szO Try.prog 45 = some 21 := by kernel_rfl
theorem fact_szO_48 : szO Try.prog 48 = some 15 := by kernel_rfl
theorem fact_szO_5 : szO Try.prog 5 = some 1 := by kernel_rfl
theorem fact_szO_65 : szO Try.prog 65 = some 1 := by kernel_rfl
theorem fact_szO_66 : szO Try.prog 66 = some 1 := by kernel_rfl
theorem fact_szO_67 : szO Try.prog 67 = some 1 := by kernel_rfl
theorem fact_szO_81 : szO Try.prog 81 = some 1 := by kernel_rfl
theorem fact_zeroV_122 : zeroV Try.prog 122 = some (.int .u64 0) := by kernel_rfl
theorem fact_zeroV_28 : zeroV Try.prog 28 = some (.slice none 0 0) := by kernel_rfl
theorem fact_zeroV_3 : zeroV Try.prog 3 = some (.int .i64 0) := by kernel_rfl
theorem fact_zeroV_4 : zeroV Try.prog 4 = some (.bool false) := by kernel_rfl
theorem fact_zeroV_41 : zeroV Try.prog 41 = some (.agg #[.string ⟨#[]⟩, .string ⟨#[]⟩, .int .u64 0, .int .u64 0, .int .u8 0, .int .i64 0, .slice none 0 0]) := by kernel_rfl
theorem fact_zeroV_43 : zeroV Try.prog 43 = some (.agg #[.int .u8 0, .int .u64 0, .string ⟨#[]⟩, .int .u8 0, .bool false, .int .u64 0, .int .u64 0, .string ⟨#[]⟩, .string ⟨#[]⟩, .int .u64 0, .int .u64 0, .int .u8 0, .int .i64 0, .slice none 0 0]) := by kernel_rfl
theorem fact_zeroV_45 : zeroV Try.prog 45 = some (.agg #[.int .i64 0, .int .u32 0, .int .u32 0, .int .u8 0, .int .u64 0, .string ⟨#[]⟩, .int .u8 0, .bool false, .int .u64 0, .int .u64 0, .string ⟨#[]⟩, .string ⟨#[]⟩, .int .u64 0, .int .u64 0, .int .u8 0, .int .i64 0, .slice none 0 0, .int .u64 0, .int .u64 0, .int .u8 0, .bool false]) := by kernel_rfl
theorem fact_zeroV_48 : zeroV Try.prog 48 = some (.agg #[.int .u32 0, .int .u8 0, .int .u64 0, .string ⟨#[]⟩, .int .u8 0, .bool false, .int .u64 0, .int .u64 0, .string ⟨#[]⟩, .string ⟨#[]⟩, .int .u64 0, .int .u64 0, .int .u8 0, .int .i64 0, .slice none 0 0]) := by kernel_rfl
theorem fact_zeroV_81 : zeroV Try.prog 81 = some (.nilFunc) := by kernel_rfl
def F7.r0 : List Oper := [
  op 4 (.assign (.const (.bool false))) 4]
def F7.r1 : List Oper := [
  op 30 (.move (.tmp 1)) 25,
  oc 31 (.call ⟨(.value (.func 11)), #[(.tmp 30)], #[25]⟩) 4,
  op 5 (.assign (.tmp 31)) 4]
def F7.r2 : List Oper := [
  op 32 (.move (.tmp 5)) 4]
def F7.r3 : List Oper := [
  op 4 (.assign (.const (.bool true))) 4]
def F7.r4 : List Oper := [
  op 34 (.move (.tmp 0)) 3,
  oc 35 (.call ⟨(.value (.func 20)), #[(.tmp 34)], #[3]⟩) 57,
  op 33 (.move (.tmp 35)) 57,
  op 36 (.extract (.tmp 33) 0) 22,
  op 37 (.extract (.tmp 33) 1) 31,
  op 6 (.assign (.tmp 36)) 22,
  op 7 (.assign (.tmp 37)) 31]
def F7.r5 : List Oper := [
  op 39 (.move (.tmp 0)) 3,
  oc 40 (.call ⟨(.value (.func 23)), #[(.tmp 39)], #[3]⟩) 62,
  op 38 (.move (.tmp 40)) 62,
  op 41 (.extract (.tmp 38) 0) 61,
  op 42 (.extract (.tmp 38) 1) 31,
  op 8 (.assign (.tmp 41)) 61,
  op 9 (.assign (.tmp 42)) 31]
def F7.r6 : List Oper := [
  oc 44 (.call ⟨(.value (.func 20)), #[(.const (.int .i64 3))], #[3]⟩) 57,
  op 43 (.move (.tmp 44)) 57,
  op 45 (.extract (.tmp 43) 0) 22,
  op 46 (.extract (.tmp 43) 1) 31,
  op 10 (.assign (.tmp 45)) 22,
  op 11 (.assign (.tmp 46)) 31]
def F7.r7 : List Oper := [
  oc 48 (.call ⟨(.value (.func 23)), #[(.const (.int .i64 3))], #[3]⟩) 62,
  op 47 (.move (.tmp 48)) 62,
  op 49 (.extract (.tmp 47) 0) 61,
  op 50 (.extract (.tmp 47) 1) 31,
  op 12 (.assign (.tmp 49)) 61,
  op 13 (.assign (.tmp 50)) 31]
def F7.r8 : List Oper := [
  op 51 (.move (.tmp 7)) 31,
  op 52 (.move (.tmp 9)) 31,
  op 53 (.binOp .neq 31 (.tmp 51) (.tmp 52) 31) 4,
  op 54 (.move (.tmp 53)) 4,
  og 55 (.move (.tmp 11)) 31 54 false,
  og 56 (.move (.tmp 13)) 31 54 false,
  og 57 (.binOp .neq 31 (.tmp 55) (.tmp 56) 31) 4 54 false,
  op 58 (.pick (.tmp 54) (.const (.bool true)) (.tmp 57)) 4,
  op 59 (.move (.tmp 58)) 4,
  og 60 (.move (.tmp 6)) 22 59 false,
  og 61 (.binOp .eql 22 (.tmp 60) (.const (.pointer none)) 22) 4 59 false,
  og 62 (.move (.tmp 8)) 61 59 false,
  og 63 (.binOp .eql 61 (.tmp 62) (.const (.pointer none)) 61) 4 59 false,
  og 64 (.binOp .neq 4 (.tmp 61) (.tmp 63) 4) 4 59 false,
  op 65 (.pick (.tmp 59) (.const (.bool true)) (.tmp 64)) 4,
  op 66 (.move (.tmp 65)) 4,
  og 67 (.move (.tmp 10)) 22 66 false,
  og 68 (.binOp .eql 22 (.tmp 67) (.const (.pointer none)) 22) 4 66 false,
  op 69 (.pick (.tmp 66) (.const (.bool true)) (.tmp 68)) 4]
def F7.r9 : List Oper := [
  op 4 (.assign (.const (.bool false))) 4]
def F7.r10 : List Oper := [
  op 70 (.build 69 #[]) 69,
  oc 71 (.box 69 (.tmp 70)) 64,
  op 14 (.assign (.tmp 71)) 64]
def F7.r11 : List Oper := [
  op 72 (.move (.tmp 6)) 22,
  op 73 (.move (.tmp 8)) 61,
  op 74 (.build 72 #[(0, (.tmp 72)), (1, (.tmp 73))]) 72,
  oc 75 (.box 72 (.tmp 74)) 70,
  op 15 (.assign (.tmp 75)) 70]
def F7.r12 : List Oper := [
  op 76 (.move (.tmp 10)) 22,
  op 77 (.move (.tmp 12)) 61,
  op 78 (.build 72 #[(0, (.tmp 76)), (1, (.tmp 77))]) 72,
  oc 79 (.box 72 (.tmp 78)) 70,
  op 16 (.assign (.tmp 79)) 70]
def F7.r13 : List Oper := [
  op 80 (.move (.tmp 16)) 70,
  oc 81 (.buildSlice 39 3 #[(0, (.const (.int .u8 120))), (1, (.const (.int .u8 121))), (2, (.const (.int .u8 122)))]) 39,
  oc 82 (.convert 39 39 (.tmp 81)) 39,
  op 83 (.build 41 #[(6, (.tmp 82))]) 41,
  op 84 (.build 43 #[(0, (.const (.int .u8 3))), (2, (.const (.string { data := #[97] }))), (7, (.tmp 83))]) 43,
  op 85 (.build 45 #[(0, (.const (.int .i64 2))), (1, (.const (.int .u32 7))), (3, (.tmp 84))]) 45,
  op 86 (.move (.tmp 14)) 64,
  oc 87 (.call ⟨(.value (.func 24)), #[(.tmp 80), (.tmp 85), (.tmp 86)], #[70, 45, 64]⟩) 4,
  op 17 (.assign (.tmp 87)) 4]
def F7.r14 : List Oper := [
  op 88 (.move (.tmp 16)) 70,
  op 89 (.build 45 #[(0, (.const (.int .i64 1))), (1, (.const (.int .u32 7)))]) 45,
  op 90 (.move (.tmp 14)) 64,
  oc 91 (.call ⟨(.value (.func 24)), #[(.tmp 88), (.tmp 89), (.tmp 90)], #[70, 45, 64]⟩) 4,
  op 18 (.assign (.tmp 91)) 4]
def F7.r15 : List Oper := [
  op 92 (.move (.tmp 17)) 4,
  op 93 (.unOp .not 4 (.tmp 92)) 4,
  op 94 (.move (.tmp 93)) 4,
  og 95 (.move (.tmp 18)) 4 94 false,
  og 96 (.unOp .not 4 (.tmp 95)) 4 94 false,
  op 97 (.pick (.tmp 94) (.const (.bool true)) (.tmp 96)) 4]
def F7.r16 : List Oper := [
  op 4 (.assign (.const (.bool false))) 4]
def F7.r17 : List Oper := [
  op 98 (.move (.tmp 6)) 22,
  op 99 (.binOp .eql 22 (.tmp 98) (.const (.pointer none)) 22) 4]
def F7.r18 : List Oper := [
  op 100 (.move (.tmp 10)) 22,
  oc 101 (.call ⟨(.value (.func 25)), #[(.tmp 100)], #[22]⟩) 22,
  op 102 (.move (.tmp 12)) 61,
  oc 103 (.call ⟨(.value (.func 26)), #[(.tmp 102)], #[61]⟩) 61,
  op 104 (.build 72 #[(0, (.tmp 101)), (1, (.tmp 103))]) 72,
  oc 105 (.box 72 (.tmp 104)) 70,
  op 15 (.assign (.tmp 105)) 70]
def F7.r19 : List Oper := [
  op 106 (.move (.tmp 15)) 70,
  op 107 (.nilCheck (.tmp 106)) 0,
  op 108 (.fieldAddr 72 (.tmp 107) 0) 0,
  od 109 (.load 22 (.tmp 108)) 22,
  op 110 (.binOp .eql 22 (.tmp 109) (.const (.pointer none)) 22) 4]
def F7.r20 : List Oper := [
  op 4 (.assign (.const (.bool false))) 4]
def F7.r21 : List Oper := [
  op 19 (.assign (.const (.int .i64 0))) 3]
def F7.r22 : List Oper := [
  op 111 (.move (.tmp 19)) 3,
  op 112 (.move (.tmp 1)) 25,
  op 113 (.call ⟨(.builtin .len), #[(.tmp 112)], #[25]⟩) 3,
  op 114 (.binOp .lss 3 (.tmp 111) (.tmp 113) 3) 4]
def F7.r24 : List Oper := [
  op 117 (.move (.tmp 1)) 25,
  op 118 (.move (.tmp 19)) 3,
  op 119 (.indexAddr 25 (.tmp 117) (.tmp 118)) 0,
  od 120 (.load 45 (.tmp 119)) 45,
  oc 20 (.alloc 45) 0,
  ⟨none, (.store 45 (.tmp 20) (.tmp 120)), 0, "", #[⟨0, .chain⟩], none⟩]
def F7.r25 : List Oper := [
  op 121 (.fieldAddr 45 (.tmp 20) 0) 0,
  od 122 (.load 3 (.tmp 121)) 3]
def F7.r26 : List Oper := [
  op 124 (.binOp .eql 3 (.tmp 122) (.const (.int .i64 13)) 3) 4,
  op 123 (.assign (.tmp 124)) 4]
def F7.r27 : List Oper := [
  op 125 (.move (.tmp 15)) 70,
  op 21 (.assign (.tmp 125)) 70]
def F7.r28 : List Oper := [
  op 126 (.move (.tmp 16)) 70,
  op 15 (.assign (.tmp 126)) 70]
def F7.r29 : List Oper := [
  op 127 (.move (.tmp 21)) 70,
  op 16 (.assign (.tmp 127)) 70]
def F7.r30 : List Oper := [
  op 129 (.binOp .eql 3 (.tmp 122) (.const (.int .i64 12)) 3) 4,
  op 128 (.assign (.tmp 129)) 4]
def F7.r31 : List Oper := [
  ⟨(some 130), (.move (.tmp 15)), 70, "", #[], none⟩,
  ⟨(some 131), (.nilCheck (.tmp 130)), 0, "", #[], none⟩,
  ⟨(some 132), (.fieldAddr 72 (.tmp 131) 0), 0, "", #[], none⟩,
  ⟨(some 135), (.move (.tmp 15)), 70, "", #[], none⟩,
  ⟨(some 136), (.nilCheck (.tmp 135)), 0, "", #[], none⟩,
  ⟨(some 137), (.fieldAddr 72 (.tmp 136) 1), 0, "", #[], none⟩,
  ⟨(some 133), (.load 22 (.tmp 132)), 22, "", #[⟨2576, .data⟩], none⟩,
  ⟨(some 138), (.load 61 (.tmp 137)), 61, "", #[⟨2560, .data⟩], none⟩,
  ⟨(some 134), (.call ⟨(.value (.func 25)), #[(.tmp 133)], #[22]⟩), 22, "", #[⟨4, .chain⟩], none⟩,
  ⟨(some 139), (.call ⟨(.value (.func 26)), #[(.tmp 138)], #[61]⟩), 61, "", #[⟨9, .chain⟩], none⟩,
  ⟨(some 140), (.build 72 #[(0, (.tmp 134)), (1, (.tmp 139))]), 72, "", #[], none⟩,
  ⟨(some 141), (.box 72 (.tmp 140)), 70, "", #[⟨11, .chain⟩], none⟩,
  ⟨(some 16), (.assign (.tmp 141)), 70, "", #[], none⟩]
def F7.r32 : List Oper := [
  op 142 (.move (.tmp 16)) 70,
  op 143 (.nilCheck (.tmp 142)) 0,
  op 144 (.fieldAddr 72 (.tmp 143) 0) 0,
  od 145 (.load 22 (.tmp 144)) 22,
  op 146 (.binOp .eql 22 (.tmp 145) (.const (.pointer none)) 22) 4]
def F7.r33 : List Oper := [
  op 4 (.assign (.const (.bool false))) 4]
def F7.r34 : List Oper := [
  op 147 (.move (.tmp 15)) 70,
  od 148 (.load 45 (.tmp 20)) 45,
  op 149 (.move (.tmp 14)) 64,
  oc 150 (.call ⟨(.value (.func 24)), #[(.tmp 147), (.tmp 148), (.tmp 149)], #[70, 45, 64]⟩) 4,
  op 22 (.assign (.tmp 150)) 4]
def F7.r35 : List Oper := [
  op 151 (.move (.tmp 22)) 4,
  op 152 (.unOp .not 4 (.tmp 151)) 4]
def F7.r36 : List Oper := [
  op 4 (.assign (.const (.bool false))) 4]
def F7.r23 : List Oper := [
  op 115 (.move (.tmp 19)) 3,
  op 116 (.binOp .add 3 (.tmp 115) (.const (.int .i64 1)) 3) 3,
  op 19 (.assign (.tmp 116)) 3]
def F7.r37 : List Oper := [
  op 153 (.move (.tmp 15)) 70,
  op 154 (.move (.tmp 14)) 64,
  oc 155 (.call ⟨(.value (.func 27)), #[(.tmp 153), (.tmp 154)], #[70, 64]⟩) 4,
  op 23 (.assign (.tmp 155)) 4]
def F7.r38 : List Oper := [
  op 156 (.move (.tmp 16)) 70,
  op 157 (.move (.tmp 14)) 64,
  oc 158 (.call ⟨(.value (.func 27)), #[(.tmp 156), (.tmp 157)], #[70, 64]⟩) 4,
  op 24 (.assign (.tmp 158)) 4]
def F7.r39 : List Oper := [
  op 159 (.move (.tmp 15)) 70,
  op 160 (.move (.tmp 14)) 64,
  oc 161 (.call ⟨(.value (.func 28)), #[(.tmp 159), (.tmp 160)], #[70, 64]⟩) 4,
  op 25 (.assign (.tmp 161)) 4]
def F7.r40 : List Oper := [
  op 162 (.move (.tmp 16)) 70,
  op 163 (.move (.tmp 14)) 64,
  oc 164 (.call ⟨(.value (.func 28)), #[(.tmp 162), (.tmp 163)], #[70, 64]⟩) 4,
  op 26 (.assign (.tmp 164)) 4]
def F7.r41 : List Oper := [
  op 165 (.move (.tmp 14)) 64,
  oc 166 (.call ⟨(.value (.func 29)), #[(.tmp 165)], #[64]⟩) 4,
  op 27 (.assign (.tmp 166)) 4]
def F7.r42 : List Oper := [
  op 167 (.move (.tmp 15)) 70,
  op 168 (.move (.tmp 14)) 64,
  oc 169 (.call ⟨(.value (.func 27)), #[(.tmp 167), (.tmp 168)], #[70, 64]⟩) 4,
  op 28 (.assign (.tmp 169)) 4]
def F7.r43 : List Oper := [
  op 170 (.move (.tmp 16)) 70,
  op 171 (.move (.tmp 14)) 64,
  oc 172 (.call ⟨(.value (.func 27)), #[(.tmp 170), (.tmp 171)], #[70, 64]⟩) 4,
  op 29 (.assign (.tmp 172)) 4]
def F7.r44 : List Oper := [
  op 173 (.move (.tmp 23)) 4,
  op 174 (.move (.tmp 173)) 4,
  og 175 (.move (.tmp 24)) 4 174 true,
  op 176 (.pick (.tmp 174) (.tmp 175) (.const (.bool false))) 4,
  op 177 (.move (.tmp 176)) 4,
  og 178 (.move (.tmp 25)) 4 177 true,
  op 179 (.pick (.tmp 177) (.tmp 178) (.const (.bool false))) 4,
  op 180 (.move (.tmp 179)) 4,
  og 181 (.move (.tmp 26)) 4 180 true,
  op 182 (.pick (.tmp 180) (.tmp 181) (.const (.bool false))) 4,
  op 183 (.move (.tmp 182)) 4,
  og 184 (.move (.tmp 27)) 4 183 true,
  op 185 (.pick (.tmp 183) (.tmp 184) (.const (.bool false))) 4,
  op 186 (.move (.tmp 185)) 4,
  og 187 (.move (.tmp 28)) 4 186 true,
  op 188 (.pick (.tmp 186) (.tmp 187) (.const (.bool false))) 4,
  op 189 (.move (.tmp 188)) 4,
  og 190 (.move (.tmp 29)) 4 189 true,
  op 191 (.pick (.tmp 189) (.tmp 190) (.const (.bool false))) 4,
  op 4 (.assign (.tmp 191)) 4]
def F7.t34 : Cd := (.seq (.region 34 F7.r34.toArray false) (.seq (.region 35 F7.r35.toArray false) (.cond (.tmp 152) (.seq (.region 36 F7.r36.toArray false) .ret) .skip)))
theorem F7.t34_eq {θ : Tag (F7.t34, Q, e, w)} : cwE P F7.t34 Q e w θ = cwE P (.seq (.region 34 F7.r34.toArray false) (.seq (.region 35 F7.r35.toArray false) (.cond (.tmp 152) (.seq (.region 36 F7.r36.toArray false) .ret) .skip))) Q e w := rfl
def F7.t23 : Cd := (.region 23 F7.r23.toArray false)
theorem F7.t23_eq {θ : Tag (F7.t23, Q, e, w)} : cwE P F7.t23 Q e w θ = cwE P (.region 23 F7.r23.toArray false) Q e w := rfl
def F7.t24 : Cd := (.seq (.block 1 (.seq (.region 24 F7.r24.toArray false) (.seq (.seq (.region 25 F7.r25.toArray false) (.block 2 (.seq (.region 26 F7.r26.toArray false) (.cond (.tmp 123) (.seq (.region 27 F7.r27.toArray false) (.seq (.region 28 F7.r28.toArray false) (.region 29 F7.r29.toArray false))) (.seq (.region 30 F7.r30.toArray false) (.cond (.tmp 128) (.seq (.region 31 F7.r31.toArray true) (.seq (.region 32 F7.r32.toArray false) (.cond (.tmp 146) (.seq (.region 33 F7.r33.toArray false) .ret) .skip))) .skip)))))) F7.t34))) F7.t23)
theorem F7.t24_eq {θ : Tag (F7.t24, Q, e, w)} : cwE P F7.t24 Q e w θ = cwE P (.seq (.block 1 (.seq (.region 24 F7.r24.toArray false) (.seq (.seq (.region 25 F7.r25.toArray false) (.block 2 (.seq (.region 26 F7.r26.toArray false) (.cond (.tmp 123) (.seq (.region 27 F7.r27.toArray false) (.seq (.region 28 F7.r28.toArray false) (.region 29 F7.r29.toArray false))) (.seq (.region 30 F7.r30.toArray false) (.cond (.tmp 128) (.seq (.region 31 F7.r31.toArray true) (.seq (.region 32 F7.r32.toArray false) (.cond (.tmp 146) (.seq (.region 33 F7.r33.toArray false) .ret) .skip))) .skip)))))) F7.t34))) F7.t23) Q e w := rfl
def F7.t37 : Cd := (.seq (.region 37 F7.r37.toArray false) (.seq (.region 38 F7.r38.toArray false) (.seq (.region 39 F7.r39.toArray false) (.seq (.region 40 F7.r40.toArray false) (.seq (.region 41 F7.r41.toArray false) (.seq (.region 42 F7.r42.toArray false) (.seq (.region 43 F7.r43.toArray false) (.seq (.region 44 F7.r44.toArray false) .ret))))))))
theorem F7.t37_eq {θ : Tag (F7.t37, Q, e, w)} : cwE P F7.t37 Q e w θ = cwE P (.seq (.region 37 F7.r37.toArray false) (.seq (.region 38 F7.r38.toArray false) (.seq (.region 39 F7.r39.toArray false) (.seq (.region 40 F7.r40.toArray false) (.seq (.region 41 F7.r41.toArray false) (.seq (.region 42 F7.r42.toArray false) (.seq (.region 43 F7.r43.toArray false) (.seq (.region 44 F7.r44.toArray false) .ret)))))))) Q e w := rfl
def F7.t21 : Cd := (.seq (.seq (.region 21 F7.r21.toArray false) (.block 0 (.loop (.seq (.seq (.region 22 F7.r22.toArray false) (.cond (.tmp 114) .skip (.exit 0))) F7.t24)))) F7.t37)
theorem F7.t21_eq {θ : Tag (F7.t21, Q, e, w)} : cwE P F7.t21 Q e w θ = cwE P (.seq (.seq (.region 21 F7.r21.toArray false) (.block 0 (.loop (.seq (.seq (.region 22 F7.r22.toArray false) (.cond (.tmp 114) .skip (.exit 0))) F7.t24)))) F7.t37) Q e w := rfl
def F7.t17 : Cd := (.seq (.seq (.region 17 F7.r17.toArray false) (.cond (.tmp 99) (.seq (.region 18 F7.r18.toArray false) (.seq (.region 19 F7.r19.toArray false) (.cond (.tmp 110) (.seq (.region 20 F7.r20.toArray false) .ret) .skip))) .skip)) F7.t21)
theorem F7.t17_eq {θ : Tag (F7.t17, Q, e, w)} : cwE P F7.t17 Q e w θ = cwE P (.seq (.seq (.region 17 F7.r17.toArray false) (.cond (.tmp 99) (.seq (.region 18 F7.r18.toArray false) (.seq (.region 19 F7.r19.toArray false) (.cond (.tmp 110) (.seq (.region 20 F7.r20.toArray false) .ret) .skip))) .skip)) F7.t21) Q e w := rfl
def F7.t10 : Cd := (.seq (.region 10 F7.r10.toArray false) (.seq (.region 11 F7.r11.toArray false) (.seq (.region 12 F7.r12.toArray false) (.seq (.region 13 F7.r13.toArray false) (.seq (.region 14 F7.r14.toArray false) (.seq (.seq (.region 15 F7.r15.toArray false) (.cond (.tmp 97) (.seq (.region 16 F7.r16.toArray false) .ret) .skip)) F7.t17))))))
theorem F7.t10_eq {θ : Tag (F7.t10, Q, e, w)} : cwE P F7.t10 Q e w θ = cwE P (.seq (.region 10 F7.r10.toArray false) (.seq (.region 11 F7.r11.toArray false) (.seq (.region 12 F7.r12.toArray false) (.seq (.region 13 F7.r13.toArray false) (.seq (.region 14 F7.r14.toArray false) (.seq (.seq (.region 15 F7.r15.toArray false) (.cond (.tmp 97) (.seq (.region 16 F7.r16.toArray false) .ret) .skip)) F7.t17)))))) Q e w := rfl
def F7.t4 : Cd := (.seq (.region 4 F7.r4.toArray false) (.seq (.region 5 F7.r5.toArray false) (.seq (.region 6 F7.r6.toArray false) (.seq (.region 7 F7.r7.toArray false) (.seq (.seq (.region 8 F7.r8.toArray false) (.cond (.tmp 69) (.seq (.region 9 F7.r9.toArray false) .ret) .skip)) F7.t10)))))
theorem F7.t4_eq {θ : Tag (F7.t4, Q, e, w)} : cwE P F7.t4 Q e w θ = cwE P (.seq (.region 4 F7.r4.toArray false) (.seq (.region 5 F7.r5.toArray false) (.seq (.region 6 F7.r6.toArray false) (.seq (.region 7 F7.r7.toArray false) (.seq (.seq (.region 8 F7.r8.toArray false) (.cond (.tmp 69) (.seq (.region 9 F7.r9.toArray false) .ret) .skip)) F7.t10))))) Q e w := rfl
def F7.code : Cd := (.seq (.region 0 F7.r0.toArray false) (.seq (.region 1 F7.r1.toArray false) (.seq (.seq (.region 2 F7.r2.toArray false) (.cond (.tmp 32) (.seq (.region 3 F7.r3.toArray false) .ret) .skip)) F7.t4)))
theorem F7.calls (hn : args.size ≤ 192) (h : cwE Try.prog F7.code (fnP Try.prog #[(.tmp 4)] R) (entry args) w) : Calls Try.prog 7 args w R :=
  calls_of_cwE (types := Try.prog.types) follows Try.func7 F7.code rfl (by kernel_rfl) hn h
def F9.r0 : List Oper := [
  op 2 (.assign (.const (.pointer none))) 22]
def F9.r1 : List Oper := [
  op 9 (.move (.tmp 0)) 3,
  oc 10 (.call ⟨(.value (.func 20)), #[(.tmp 9)], #[3]⟩) 57,
  op 8 (.move (.tmp 10)) 57,
  op 11 (.extract (.tmp 8) 0) 22,
  op 12 (.extract (.tmp 8) 1) 31,
  op 3 (.assign (.tmp 11)) 22,
  op 4 (.assign (.tmp 12)) 31]
def F9.r2 : List Oper := [
  op 13 (.move (.tmp 3)) 22,
  op 14 (.binOp .eql 22 (.tmp 13) (.const (.pointer none)) 22) 4,
  op 15 (.move (.tmp 14)) 4,
  og 16 (.move (.tmp 4)) 31 15 false,
  og 17 (.binOp .neq 31 (.tmp 16) (.const (.int .i64 0)) 31) 4 15 false,
  op 18 (.pick (.tmp 15) (.const (.bool true)) (.tmp 17)) 4]
def F9.r3 : List Oper := [
  op 2 (.assign (.const (.pointer none))) 22]
def F9.r4 : List Oper := [
  op 19 (.move (.tmp 3)) 22,
  op 20 (.build 43 #[(0, (.const (.int .u8 1))), (1, (.const (.int .u64 4))), (2, (.const (.string { data := #[117] })))]) 43,
  oc 21 (.call ⟨(.value (.func 22)), #[(.tmp 19), (.const (.int .u32 9)), (.tmp 20)], #[22, 35, 43]⟩) 31,
  op 5 (.assign (.tmp 21)) 31]
def F9.r5 : List Oper := [
  op 23 (.move (.tmp 3)) 22,
  oc 24 (.call ⟨(.value (.func 30)), #[(.tmp 23), (.const (.int .u32 9))], #[22, 35]⟩) 78,
  op 22 (.move (.tmp 24)) 78,
  op 25 (.extract (.tmp 22) 0) 43,
  op 26 (.extract (.tmp 22) 1) 31,
  oc 6 (.alloc 43) 0,
  ⟨none, (.store 43 (.tmp 6) (.tmp 25)), 0, "", #[⟨0, .chain⟩], none⟩,
  op 7 (.assign (.tmp 26)) 31]
def F9.r6 : List Oper := [
  op 27 (.move (.tmp 5)) 31,
  op 28 (.binOp .neq 31 (.tmp 27) (.const (.int .i64 0)) 31) 4,
  op 29 (.move (.tmp 28)) 4,
  og 30 (.move (.tmp 7)) 31 29 false,
  og 31 (.binOp .neq 31 (.tmp 30) (.const (.int .i64 0)) 31) 4 29 false,
  op 32 (.pick (.tmp 29) (.const (.bool true)) (.tmp 31)) 4,
  op 33 (.move (.tmp 32)) 4,
  og 34 (.fieldAddr 43 (.tmp 6) 0) 0 33 false,
  ⟨(some 35), (.load 36 (.tmp 34)), 36, "", #[⟨0, .data⟩], (some (33, false))⟩,
  og 36 (.binOp .neq 36 (.tmp 35) (.const (.int .u8 1)) 36) 4 33 false,
  op 37 (.pick (.tmp 33) (.const (.bool true)) (.tmp 36)) 4,
  op 38 (.move (.tmp 37)) 4,
  og 39 (.fieldAddr 43 (.tmp 6) 1) 0 38 false,
  ⟨(some 40), (.load 37 (.tmp 39)), 37, "", #[⟨0, .data⟩], (some (38, false))⟩,
  og 41 (.binOp .neq 37 (.tmp 40) (.const (.int .u64 4)) 37) 4 38 false,
  op 42 (.pick (.tmp 38) (.const (.bool true)) (.tmp 41)) 4,
  op 43 (.move (.tmp 42)) 4,
  og 44 (.fieldAddr 43 (.tmp 6) 2) 0 43 false,
  ⟨(some 45), (.load 9 (.tmp 44)), 9, "", #[⟨0, .data⟩], (some (43, false))⟩,
  og 46 (.binOp .neq 9 (.tmp 45) (.const (.string { data := #[117] })) 9) 4 43 false,
  op 47 (.pick (.tmp 43) (.const (.bool true)) (.tmp 46)) 4]
def F9.r7 : List Oper := [
  op 2 (.assign (.const (.pointer none))) 22]
def F9.r8 : List Oper := [
  op 48 (.move (.tmp 3)) 22,
  op 2 (.assign (.tmp 48)) 22]
def F9.t8 : Cd := (.seq (.region 8 F9.r8.toArray false) .ret)
theorem F9.t8_eq {θ : Tag (F9.t8, Q, e, w)} : cwE P F9.t8 Q e w θ = cwE P (.seq (.region 8 F9.r8.toArray false) .ret) Q e w := rfl
def F9.t4 : Cd := (.seq (.region 4 F9.r4.toArray false) (.seq (.region 5 F9.r5.toArray false) (.seq (.seq (.region 6 F9.r6.toArray false) (.cond (.tmp 47) (.seq (.region 7 F9.r7.toArray false) .ret) .skip)) F9.t8)))
theorem F9.t4_eq {θ : Tag (F9.t4, Q, e, w)} : cwE P F9.t4 Q e w θ = cwE P (.seq (.region 4 F9.r4.toArray false) (.seq (.region 5 F9.r5.toArray false) (.seq (.seq (.region 6 F9.r6.toArray false) (.cond (.tmp 47) (.seq (.region 7 F9.r7.toArray false) .ret) .skip)) F9.t8))) Q e w := rfl
def F9.code : Cd := (.seq (.region 0 F9.r0.toArray false) (.seq (.region 1 F9.r1.toArray false) (.seq (.seq (.region 2 F9.r2.toArray false) (.cond (.tmp 18) (.seq (.region 3 F9.r3.toArray false) .ret) .skip)) F9.t4)))
theorem F9.calls (hn : args.size ≤ 49) (h : cwE Try.prog F9.code (fnP Try.prog #[(.tmp 2)] R) (entry args) w) : Calls Try.prog 9 args w R :=
  calls_of_cwE (types := Try.prog.types) follows Try.func9 F9.code rfl (by kernel_rfl) hn h
def F10.r0 : List Oper := [
  op 2 (.assign (.const (.int .i64 0))) 3]
def F10.r1 : List Oper := [
  op 3 (.move (.tmp 0)) 3,
  op 4 (.binOp .lss 3 (.tmp 3) (.const (.int .i64 0)) 3) 4]
def F10.r2 : List Oper := [
  op 5 (.move (.tmp 0)) 3,
  op 6 (.binOp .add 3 (.tmp 5) (.const (.int .i64 1)) 3) 3,
  op 7 (.unOp .neg 3 (.tmp 6)) 3,
  op 0 (.assign (.tmp 7)) 3]
def F10.r3 : List Oper := [
  op 8 (.move (.tmp 0)) 3,
  op 9 (.binOp .rem 3 (.tmp 8) (.const (.int .i64 256)) 3) 3,
  op 10 (.binOp .add 3 (.const (.int .i64 1)) (.tmp 9) 3) 3,
  op 2 (.assign (.tmp 10)) 3]
def F10.t3 : Cd := (.seq (.region 3 F10.r3.toArray false) .ret)
theorem F10.t3_eq {θ : Tag (F10.t3, Q, e, w)} : cwE P F10.t3 Q e w θ = cwE P (.seq (.region 3 F10.r3.toArray false) .ret) Q e w := rfl
def F10.code : Cd := (.seq (.region 0 F10.r0.toArray false) (.seq (.seq (.region 1 F10.r1.toArray false) (.cond (.tmp 4) (.region 2 F10.r2.toArray false) .skip)) F10.t3))
theorem F10.calls (hn : args.size ≤ 11) (h : cwE Try.prog F10.code (fnP Try.prog #[(.tmp 2)] R) (entry args) w) : Calls Try.prog 10 args w R :=
  calls_of_cwE (types := Try.prog.types) follows Try.func10 F10.code rfl (by kernel_rfl) hn h
def F11.r0 : List Oper := [
  op 2 (.assign (.const (.bool false))) 4]
def F11.r1 : List Oper := [
  op 3 (.assign (.const (.int .i64 0))) 3]
def F11.r2 : List Oper := [
  op 4 (.assign (.const (.int .i64 0))) 3]
def F11.r3 : List Oper := [
  op 6 (.move (.tmp 4)) 3,
  op 7 (.move (.tmp 0)) 25,
  op 8 (.call ⟨(.builtin .len), #[(.tmp 7)], #[25]⟩) 3,
  op 9 (.binOp .lss 3 (.tmp 6) (.tmp 8) 3) 4,
  op 10 (.move (.tmp 9)) 4,
  og 11 (.move (.tmp 3)) 3 10 true,
  og 12 (.binOp .leq 3 (.tmp 11) (.const (.int .i64 268435456)) 3) 4 10 true,
  op 13 (.pick (.tmp 10) (.tmp 12) (.const (.bool false))) 4]
def F11.r5 : List Oper := [
  op 16 (.move (.tmp 0)) 25,
  op 17 (.move (.tmp 4)) 3,
  op 18 (.indexAddr 25 (.tmp 16) (.tmp 17)) 0,
  op 19 (.fieldAddr 45 (.tmp 18) 3) 0,
  od 20 (.load 43 (.tmp 19)) 43,
  oc 5 (.alloc 43) 0,
  ⟨none, (.store 43 (.tmp 5) (.tmp 20)), 0, "", #[⟨0, .chain⟩], none⟩]
def F11.r6 : List Oper := [
  op 21 (.move (.tmp 3)) 3,
  op 22 (.binOp .add 3 (.tmp 21) (.const (.int .i64 200)) 3) 3,
  op 23 (.fieldAddr 43 (.tmp 5) 2) 0,
  od 24 (.load 9 (.tmp 23)) 9,
  op 25 (.call ⟨(.builtin .len), #[(.tmp 24)], #[9]⟩) 3,
  op 26 (.binOp .add 3 (.tmp 22) (.tmp 25) 3) 3,
  op 27 (.fieldAddr 43 (.tmp 5) 7) 0,
  op 28 (.fieldAddr 41 (.tmp 27) 0) 0,
  od 29 (.load 9 (.tmp 28)) 9,
  op 30 (.call ⟨(.builtin .len), #[(.tmp 29)], #[9]⟩) 3,
  op 31 (.binOp .add 3 (.tmp 26) (.tmp 30) 3) 3,
  op 32 (.fieldAddr 43 (.tmp 5) 7) 0,
  op 33 (.fieldAddr 41 (.tmp 32) 1) 0,
  od 34 (.load 9 (.tmp 33)) 9,
  op 35 (.call ⟨(.builtin .len), #[(.tmp 34)], #[9]⟩) 3,
  op 36 (.binOp .add 3 (.tmp 31) (.tmp 35) 3) 3,
  op 37 (.fieldAddr 43 (.tmp 5) 7) 0,
  op 38 (.fieldAddr 41 (.tmp 37) 6) 0,
  od 39 (.load 39 (.tmp 38)) 39,
  op 40 (.call ⟨(.builtin .len), #[(.tmp 39)], #[39]⟩) 3,
  op 41 (.binOp .add 3 (.tmp 36) (.tmp 40) 3) 3,
  op 3 (.assign (.tmp 41)) 3]
def F11.r4 : List Oper := [
  op 14 (.move (.tmp 4)) 3,
  op 15 (.binOp .add 3 (.tmp 14) (.const (.int .i64 1)) 3) 3,
  op 4 (.assign (.tmp 15)) 3]
def F11.r7 : List Oper := [
  op 42 (.move (.tmp 3)) 3,
  op 43 (.binOp .gtr 3 (.tmp 42) (.const (.int .i64 268435456)) 3) 4,
  op 2 (.assign (.tmp 43)) 4]
def F11.t4 : Cd := (.region 4 F11.r4.toArray false)
theorem F11.t4_eq {θ : Tag (F11.t4, Q, e, w)} : cwE P F11.t4 Q e w θ = cwE P (.region 4 F11.r4.toArray false) Q e w := rfl
def F11.t5 : Cd := (.seq (.block 1 (.seq (.region 5 F11.r5.toArray false) (.region 6 F11.r6.toArray false))) F11.t4)
theorem F11.t5_eq {θ : Tag (F11.t5, Q, e, w)} : cwE P F11.t5 Q e w θ = cwE P (.seq (.block 1 (.seq (.region 5 F11.r5.toArray false) (.region 6 F11.r6.toArray false))) F11.t4) Q e w := rfl
def F11.t7 : Cd := (.seq (.region 7 F11.r7.toArray false) .ret)
theorem F11.t7_eq {θ : Tag (F11.t7, Q, e, w)} : cwE P F11.t7 Q e w θ = cwE P (.seq (.region 7 F11.r7.toArray false) .ret) Q e w := rfl
def F11.code : Cd := (.seq (.region 0 F11.r0.toArray false) (.seq (.region 1 F11.r1.toArray false) (.seq (.seq (.region 2 F11.r2.toArray false) (.block 0 (.loop (.seq (.seq (.region 3 F11.r3.toArray false) (.cond (.tmp 13) .skip (.exit 0))) F11.t5)))) F11.t7)))
theorem F11.calls (hn : args.size ≤ 44) (h : cwE Try.prog F11.code (fnP Try.prog #[(.tmp 2)] R) (entry args) w) : Calls Try.prog 11 args w R :=
  calls_of_cwE (types := Try.prog.types) follows Try.func11 F11.code rfl (by kernel_rfl) hn h
def F12.r0 : List Oper := [
  op 2 (.assign (.const (.slice none 0 0))) 28,
  op 3 (.assign (.const (.bool false))) 4]
def F12.r1 : List Oper := [
  oc 4 (.alloc 28) 0]
def F12.r2 : List Oper := [
  op 8 (.move (.tmp 0)) 22,
  oc 9 (.call ⟨(.value (.func 31)), #[(.tmp 8)], #[22]⟩) 81,
  op 5 (.assign (.tmp 9)) 81]
def F12.r3 : List Oper := [
  op 10 (.move (.tmp 5)) 81,
  op 11 (.binOp .eql 81 (.tmp 10) (.const .nilFunc) 81) 4]
def F12.r4 : List Oper := [
  op 2 (.assign (.const (.slice none 0 0))) 28,
  op 3 (.assign (.const (.bool false))) 4]
def F12.r5 : List Oper := [
  op 12 (.move (.tmp 5)) 81]
def F12.r6 : List Oper := [
  op 6 (.assign (.tmp 13)) 35]
def F12.r7 : List Oper := [
  oc 7 (.alloc 43) 0,
  ⟨none, (.store 43 (.tmp 7) (.tmp 14)), 0, "", #[⟨0, .chain⟩], none⟩]
def F12.r8 : List Oper := [
  od 15 (.load 28 (.tmp 4)) 28,
  op 16 (.move (.tmp 6)) 35,
  od 17 (.load 43 (.tmp 7)) 43,
  op 18 (.build 48 #[(0, (.tmp 16)), (1, (.tmp 17))]) 48,
  oc 19 (.buildSlice 28 1 #[(0, (.tmp 18))]) 28,
  oc 20 (.call ⟨(.builtin .append), #[(.tmp 15), (.tmp 19)], #[28, 28]⟩) 28,
  ⟨none, (.store 28 (.tmp 4) (.tmp 20)), 0, "", #[⟨0, .chain⟩], none⟩]
def F12.r9 : List Oper := [
  od 21 (.load 28 (.tmp 4)) 28,
  op 2 (.assign (.tmp 21)) 28,
  op 3 (.assign (.const (.bool true))) 4]
def F12.a0 : Cd := (.seq (.region 6 F12.r6.toArray false) (.region 7 F12.r7.toArray false))
def F12.b0 : Cd := (.block 1 (.region 8 F12.r8.toArray false))
def F12.t9 : Cd := (.seq (.region 9 F12.r9.toArray false) .ret)
theorem F12.t9_eq {θ : Tag (F12.t9, Q, e, w)} : cwE P F12.t9 Q e w θ = cwE P (.seq (.region 9 F12.r9.toArray false) .ret) Q e w := rfl
def F12.t5 : Cd := (.seq (.seq (.region 5 F12.r5.toArray false) (.block 0 (.rangeFunc (.tmp 12) #[13, 14] F12.a0 F12.b0))) F12.t9)
theorem F12.t5_eq {θ : Tag (F12.t5, Q, e, w)} : cwE P F12.t5 Q e w θ = cwE P (.seq (.seq (.region 5 F12.r5.toArray false) (.block 0 (.rangeFunc (.tmp 12) #[13, 14] F12.a0 F12.b0))) F12.t9) Q e w := rfl
def F12.code : Cd := (.seq (.region 0 F12.r0.toArray false) (.seq (.region 1 F12.r1.toArray false) (.seq (.region 2 F12.r2.toArray false) (.seq (.seq (.region 3 F12.r3.toArray false) (.cond (.tmp 11) (.seq (.region 4 F12.r4.toArray false) .ret) .skip)) F12.t5))))
theorem F12.calls (hn : args.size ≤ 22) (h : cwE Try.prog F12.code (fnP Try.prog #[(.tmp 2), (.tmp 3)] R) (entry args) w) : Calls Try.prog 12 args w R :=
  calls_of_cwE (types := Try.prog.types) follows Try.func12 F12.code rfl (by kernel_rfl) hn h
def F13.r0 : List Oper := [
  oc 3 (.box 45 (.tmp 1)) 0,
  op 4 (.assign (.const (.int .i64 0))) 31,
  op 5 (.assign (.const (.slice none 0 0))) 32]
def F13.r1 : List Oper := [
  op 10 (.fieldAddr 45 (.tmp 3) 0) 0,
  od 11 (.load 3 (.tmp 10)) 3]
def F13.r2 : List Oper := [
  op 13 (.binOp .eql 3 (.tmp 11) (.const (.int .i64 2)) 3) 4,
  op 12 (.assign (.tmp 13)) 4]
def F13.r3 : PT :=
  (.op ⟨(some 14), (.move (.tmp 0)), 22, "", #[], none⟩
  (.op ⟨(some 15), (.fieldAddr 45 (.tmp 3) 1), 0, "", #[], none⟩
  (.op ⟨(some 17), (.fieldAddr 45 (.tmp 3) 3), 0, "", #[], none⟩
  (.op ⟨(some 20), (.fieldAddr 45 (.tmp 3) 1), 0, "", #[], none⟩
  (.op ⟨(some 16), (.load 35 (.tmp 15)), 35, "", #[⟨32, .data⟩], none⟩
  (.op ⟨(some 18), (.load 43 (.tmp 17)), 43, "", #[⟨32, .data⟩], none⟩
  (.op ⟨(some 21), (.load 35 (.tmp 20)), 35, "", #[⟨256, .data⟩], none⟩
  (.alt (.op ⟨(some 19), (.call ⟨(.value (.func 22)), #[(.tmp 14), (.tmp 16), (.tmp 18)], #[22, 35, 43]⟩), 31, "", #[⟨5, .chain⟩], none⟩
  (.op ⟨(some 4), (.assign (.tmp 19)), 31, "", #[], none⟩
  (.alt (.op ⟨(some 22), (.buildSlice 32 1 #[(0, (.tmp 21))]), 32, "", #[⟨8, .chain⟩], none⟩
  (.op ⟨(some 5), (.assign (.tmp 22)), 32, "", #[], none⟩
  .done))
  .stop)))
  (.alt (.op ⟨(some 22), (.buildSlice 32 1 #[(0, (.tmp 21))]), 32, "", #[⟨8, .chain⟩], none⟩
  (.alt (.op ⟨(some 19), (.call ⟨(.value (.func 22)), #[(.tmp 14), (.tmp 16), (.tmp 18)], #[22, 35, 43]⟩), 31, "", #[⟨5, .chain⟩], none⟩
  (.op ⟨(some 4), (.assign (.tmp 19)), 31, "", #[], none⟩
  (.op ⟨(some 5), (.assign (.tmp 22)), 32, "", #[], none⟩
  .done)))
  .stop))
  .stop)))))))))
def F13.r4 : List Oper := [
  op 24 (.binOp .eql 3 (.tmp 11) (.const (.int .i64 3)) 3) 4,
  op 23 (.assign (.tmp 24)) 4]
def F13.r5 : PT :=
  (.op ⟨(some 25), (.move (.tmp 0)), 22, "", #[], none⟩
  (.op ⟨(some 26), (.fieldAddr 45 (.tmp 3) 1), 0, "", #[], none⟩
  (.op ⟨(some 28), (.fieldAddr 45 (.tmp 3) 3), 0, "", #[], none⟩
  (.op ⟨(some 31), (.fieldAddr 45 (.tmp 3) 1), 0, "", #[], none⟩
  (.op ⟨(some 27), (.load 35 (.tmp 26)), 35, "", #[⟨32, .data⟩], none⟩
  (.op ⟨(some 29), (.load 43 (.tmp 28)), 43, "", #[⟨32, .data⟩], none⟩
  (.op ⟨(some 32), (.load 35 (.tmp 31)), 35, "", #[⟨256, .data⟩], none⟩
  (.alt (.op ⟨(some 30), (.call ⟨(.value (.func 32)), #[(.tmp 25), (.tmp 27), (.tmp 29)], #[22, 35, 43]⟩), 31, "", #[⟨5, .chain⟩], none⟩
  (.op ⟨(some 4), (.assign (.tmp 30)), 31, "", #[], none⟩
  (.alt (.op ⟨(some 33), (.buildSlice 32 1 #[(0, (.tmp 32))]), 32, "", #[⟨8, .chain⟩], none⟩
  (.op ⟨(some 5), (.assign (.tmp 33)), 32, "", #[], none⟩
  .done))
  .stop)))
  (.alt (.op ⟨(some 33), (.buildSlice 32 1 #[(0, (.tmp 32))]), 32, "", #[⟨8, .chain⟩], none⟩
  (.alt (.op ⟨(some 30), (.call ⟨(.value (.func 32)), #[(.tmp 25), (.tmp 27), (.tmp 29)], #[22, 35, 43]⟩), 31, "", #[⟨5, .chain⟩], none⟩
  (.op ⟨(some 4), (.assign (.tmp 30)), 31, "", #[], none⟩
  (.op ⟨(some 5), (.assign (.tmp 33)), 32, "", #[], none⟩
  .done)))
  .stop))
  .stop)))))))))
def F13.r6 : List Oper := [
  op 35 (.binOp .eql 3 (.tmp 11) (.const (.int .i64 4)) 3) 4,
  op 34 (.assign (.tmp 35)) 4]
def F13.r7 : List Oper := [
  op 37 (.move (.tmp 0)) 22,
  op 38 (.fieldAddr 45 (.tmp 3) 1) 0,
  od 39 (.load 35 (.tmp 38)) 35,
  oc 40 (.call ⟨(.value (.func 33)), #[(.tmp 37), (.tmp 39)], #[22, 35]⟩) 78,
  op 36 (.move (.tmp 40)) 78,
  op 41 (.extract (.tmp 36) 0) 43,
  op 42 (.extract (.tmp 36) 1) 31,
  oc 6 (.alloc 43) 0,
  ⟨none, (.store 43 (.tmp 6) (.tmp 41)), 0, "", #[⟨0, .chain⟩], none⟩,
  op 7 (.assign (.tmp 42)) 31]
def F13.r8 : List Oper := [
  ⟨(some 43), (.move (.tmp 7)), 31, "", #[], none⟩,
  ⟨(some 44), (.fieldAddr 45 (.tmp 3) 1), 0, "", #[], none⟩,
  ⟨(some 4), (.assign (.tmp 43)), 31, "", #[], none⟩,
  ⟨(some 45), (.load 35 (.tmp 44)), 35, "", #[⟨8, .data⟩], none⟩,
  ⟨(some 46), (.buildSlice 32 1 #[(0, (.tmp 45))]), 32, "", #[⟨3, .chain⟩], none⟩,
  ⟨(some 5), (.assign (.tmp 46)), 32, "", #[], none⟩]
def F13.r9 : List Oper := [
  op 48 (.binOp .eql 3 (.tmp 11) (.const (.int .i64 6)) 3) 4,
  op 47 (.assign (.tmp 48)) 4]
def F13.r10 : PT :=
  (.op ⟨(some 49), (.move (.tmp 0)), 22, "", #[], none⟩
  (.op ⟨(some 50), (.fieldAddr 45 (.tmp 3) 1), 0, "", #[], none⟩
  (.op ⟨(some 52), (.fieldAddr 45 (.tmp 3) 2), 0, "", #[], none⟩
  (.op ⟨(some 54), (.fieldAddr 45 (.tmp 3) 4), 0, "", #[], none⟩
  (.op ⟨(some 57), (.fieldAddr 45 (.tmp 3) 2), 0, "", #[], none⟩
  (.op ⟨(some 51), (.load 35 (.tmp 50)), 35, "", #[⟨128, .data⟩], none⟩
  (.op ⟨(some 53), (.load 35 (.tmp 52)), 35, "", #[⟨128, .data⟩], none⟩
  (.op ⟨(some 55), (.load 37 (.tmp 54)), 37, "", #[⟨128, .data⟩], none⟩
  (.op ⟨(some 58), (.load 35 (.tmp 57)), 35, "", #[⟨1024, .data⟩], none⟩
  (.alt (.op ⟨(some 56), (.call ⟨(.value (.func 34)), #[(.tmp 49), (.tmp 51), (.tmp 53), (.tmp 55)], #[22, 35, 35, 37]⟩), 31, "", #[⟨7, .chain⟩], none⟩
  (.op ⟨(some 4), (.assign (.tmp 56)), 31, "", #[], none⟩
  (.alt (.op ⟨(some 59), (.buildSlice 32 1 #[(0, (.tmp 58))]), 32, "", #[⟨10, .chain⟩], none⟩
  (.op ⟨(some 5), (.assign (.tmp 59)), 32, "", #[], none⟩
  .done))
  .stop)))
  (.alt (.op ⟨(some 59), (.buildSlice 32 1 #[(0, (.tmp 58))]), 32, "", #[⟨10, .chain⟩], none⟩
  (.alt (.op ⟨(some 56), (.call ⟨(.value (.func 34)), #[(.tmp 49), (.tmp 51), (.tmp 53), (.tmp 55)], #[22, 35, 35, 37]⟩), 31, "", #[⟨7, .chain⟩], none⟩
  (.op ⟨(some 4), (.assign (.tmp 56)), 31, "", #[], none⟩
  (.op ⟨(some 5), (.assign (.tmp 59)), 32, "", #[], none⟩
  .done)))
  .stop))
  .stop)))))))))))
def F13.r11 : List Oper := [
  op 61 (.binOp .eql 3 (.tmp 11) (.const (.int .i64 7)) 3) 4,
  op 60 (.assign (.tmp 61)) 4]
def F13.r12 : PT :=
  (.op ⟨(some 62), (.move (.tmp 0)), 22, "", #[], none⟩
  (.op ⟨(some 63), (.fieldAddr 45 (.tmp 3) 1), 0, "", #[], none⟩
  (.op ⟨(some 65), (.fieldAddr 45 (.tmp 3) 4), 0, "", #[], none⟩
  (.op ⟨(some 67), (.fieldAddr 45 (.tmp 3) 6), 0, "", #[], none⟩
  (.op ⟨(some 69), (.fieldAddr 45 (.tmp 3) 7), 0, "", #[], none⟩
  (.op ⟨(some 72), (.fieldAddr 45 (.tmp 3) 1), 0, "", #[], none⟩
  (.op ⟨(some 64), (.load 35 (.tmp 63)), 35, "", #[⟨512, .data⟩], none⟩
  (.op ⟨(some 66), (.load 37 (.tmp 65)), 37, "", #[⟨512, .data⟩], none⟩
  (.op ⟨(some 68), (.load 5 (.tmp 67)), 5, "", #[⟨512, .data⟩], none⟩
  (.op ⟨(some 70), (.load 4 (.tmp 69)), 4, "", #[⟨512, .data⟩], none⟩
  (.op ⟨(some 73), (.load 35 (.tmp 72)), 35, "", #[⟨4096, .data⟩], none⟩
  (.alt (.op ⟨(some 71), (.call ⟨(.value (.func 18)), #[(.tmp 62), (.tmp 64), (.tmp 66), (.tmp 68), (.tmp 70)], #[22, 35, 37, 5, 4]⟩), 31, "", #[⟨9, .chain⟩], none⟩
  (.op ⟨(some 4), (.assign (.tmp 71)), 31, "", #[], none⟩
  (.alt (.op ⟨(some 74), (.buildSlice 32 1 #[(0, (.tmp 73))]), 32, "", #[⟨12, .chain⟩], none⟩
  (.op ⟨(some 5), (.assign (.tmp 74)), 32, "", #[], none⟩
  .done))
  .stop)))
  (.alt (.op ⟨(some 74), (.buildSlice 32 1 #[(0, (.tmp 73))]), 32, "", #[⟨12, .chain⟩], none⟩
  (.alt (.op ⟨(some 71), (.call ⟨(.value (.func 18)), #[(.tmp 62), (.tmp 64), (.tmp 66), (.tmp 68), (.tmp 70)], #[22, 35, 37, 5, 4]⟩), 31, "", #[⟨9, .chain⟩], none⟩
  (.op ⟨(some 4), (.assign (.tmp 71)), 31, "", #[], none⟩
  (.op ⟨(some 5), (.assign (.tmp 74)), 32, "", #[], none⟩
  .done)))
  .stop))
  .stop)))))))))))))
def F13.r13 : List Oper := [
  op 76 (.binOp .eql 3 (.tmp 11) (.const (.int .i64 8)) 3) 4,
  op 75 (.assign (.tmp 76)) 4]
def F13.r14 : PT :=
  (.op ⟨(some 77), (.move (.tmp 0)), 22, "", #[], none⟩
  (.op ⟨(some 78), (.fieldAddr 45 (.tmp 3) 1), 0, "", #[], none⟩
  (.op ⟨(some 80), (.fieldAddr 45 (.tmp 3) 4), 0, "", #[], none⟩
  (.op ⟨(some 82), (.fieldAddr 45 (.tmp 3) 5), 0, "", #[], none⟩
  (.op ⟨(some 85), (.fieldAddr 45 (.tmp 3) 1), 0, "", #[], none⟩
  (.op ⟨(some 79), (.load 35 (.tmp 78)), 35, "", #[⟨128, .data⟩], none⟩
  (.op ⟨(some 81), (.load 37 (.tmp 80)), 37, "", #[⟨128, .data⟩], none⟩
  (.op ⟨(some 83), (.load 37 (.tmp 82)), 37, "", #[⟨128, .data⟩], none⟩
  (.op ⟨(some 86), (.load 35 (.tmp 85)), 35, "", #[⟨1024, .data⟩], none⟩
  (.alt (.op ⟨(some 84), (.call ⟨(.value (.func 35)), #[(.tmp 77), (.tmp 79), (.tmp 81), (.tmp 83)], #[22, 35, 37, 37]⟩), 31, "", #[⟨7, .chain⟩], none⟩
  (.op ⟨(some 4), (.assign (.tmp 84)), 31, "", #[], none⟩
  (.alt (.op ⟨(some 87), (.buildSlice 32 1 #[(0, (.tmp 86))]), 32, "", #[⟨10, .chain⟩], none⟩
  (.op ⟨(some 5), (.assign (.tmp 87)), 32, "", #[], none⟩
  .done))
  .stop)))
  (.alt (.op ⟨(some 87), (.buildSlice 32 1 #[(0, (.tmp 86))]), 32, "", #[⟨10, .chain⟩], none⟩
  (.alt (.op ⟨(some 84), (.call ⟨(.value (.func 35)), #[(.tmp 77), (.tmp 79), (.tmp 81), (.tmp 83)], #[22, 35, 37, 37]⟩), 31, "", #[⟨7, .chain⟩], none⟩
  (.op ⟨(some 4), (.assign (.tmp 84)), 31, "", #[], none⟩
  (.op ⟨(some 5), (.assign (.tmp 87)), 32, "", #[], none⟩
  .done)))
  .stop))
  .stop)))))))))))
def F13.r15 : List Oper := [
  op 89 (.binOp .eql 3 (.tmp 11) (.const (.int .i64 5)) 3) 4,
  op 88 (.assign (.tmp 89)) 4]
def F13.r16 : List Oper := [
  op 90 (.move (.tmp 0)) 22,
  op 91 (.fieldAddr 45 (.tmp 3) 1) 0,
  od 92 (.load 35 (.tmp 91)) 35,
  op 93 (.fieldAddr 45 (.tmp 3) 2) 0,
  od 94 (.load 35 (.tmp 93)) 35,
  oc 95 (.call ⟨(.value (.func 36)), #[(.tmp 90), (.tmp 92), (.tmp 94)], #[22, 35, 35]⟩) 31,
  op 4 (.assign (.tmp 95)) 31,
  op 5 (.assign (.const (.slice none 0 0))) 32]
def F13.r17 : List Oper := [
  op 97 (.binOp .eql 3 (.tmp 11) (.const (.int .i64 1)) 3) 4,
  op 96 (.assign (.tmp 97)) 4]
def F13.r18 : List Oper := [
  op 99 (.move (.tmp 0)) 22,
  op 100 (.fieldAddr 45 (.tmp 3) 1) 0,
  od 101 (.load 35 (.tmp 100)) 35,
  oc 102 (.call ⟨(.value (.func 30)), #[(.tmp 99), (.tmp 101)], #[22, 35]⟩) 78,
  op 98 (.move (.tmp 102)) 78,
  op 103 (.extract (.tmp 98) 0) 43,
  op 104 (.extract (.tmp 98) 1) 31,
  oc 8 (.alloc 43) 0,
  ⟨none, (.store 43 (.tmp 8) (.tmp 103)), 0, "", #[⟨0, .chain⟩], none⟩,
  op 9 (.assign (.tmp 104)) 31]
def F13.r19 : List Oper := [
  op 105 (.move (.tmp 9)) 31,
  op 4 (.assign (.tmp 105)) 31,
  op 5 (.assign (.const (.slice none 0 0))) 32]
def F13.r20 : List Oper := [
  op 107 (.binOp .eql 3 (.tmp 11) (.const (.int .i64 11)) 3) 4,
  op 106 (.assign (.tmp 107)) 4]
def F13.r21 : List Oper := [
  op 108 (.move (.tmp 0)) 22,
  oc 109 (.call ⟨(.value (.func 14)), #[(.tmp 108)], #[22]⟩) 3]
def F13.r22 : List Oper := [
  op 110 (.move (.tmp 0)) 22,
  op 111 (.fieldAddr 45 (.tmp 3) 4) 0,
  od 112 (.load 37 (.tmp 111)) 37,
  oc 113 (.call ⟨(.value (.func 19)), #[(.tmp 110), (.tmp 112)], #[22, 37]⟩) 3]
def F13.r23 : List Oper := [
  op 4 (.assign (.const (.int .i64 0))) 31,
  op 5 (.assign (.const (.slice none 0 0))) 32]
def F13.t23 : Cd := (.seq (.region 23 F13.r23.toArray false) .ret)
theorem F13.t23_eq {θ : Tag (F13.t23, Q, e, w)} : cwE P F13.t23 Q e w θ = cwE P (.seq (.region 23 F13.r23.toArray false) .ret) Q e w := rfl
def F13.code : Cd := (.seq (.region 0 F13.r0.toArray false) (.seq (.seq (.region 1 F13.r1.toArray false) (.block 0 (.seq (.region 2 F13.r2.toArray false) (.cond (.tmp 12) (.seq (.tree F13.r3) .ret) (.seq (.region 4 F13.r4.toArray false) (.cond (.tmp 23) (.seq (.tree F13.r5) .ret) (.seq (.region 6 F13.r6.toArray false) (.cond (.tmp 34) (.seq (.region 7 F13.r7.toArray false) (.seq (.region 8 F13.r8.toArray true) .ret)) (.seq (.region 9 F13.r9.toArray false) (.cond (.tmp 47) (.seq (.tree F13.r10) .ret) (.seq (.region 11 F13.r11.toArray false) (.cond (.tmp 60) (.seq (.tree F13.r12) .ret) (.seq (.region 13 F13.r13.toArray false) (.cond (.tmp 75) (.seq (.tree F13.r14) .ret) (.seq (.region 15 F13.r15.toArray false) (.cond (.tmp 88) (.seq (.region 16 F13.r16.toArray false) .ret) (.seq (.region 17 F13.r17.toArray false) (.cond (.tmp 96) (.seq (.region 18 F13.r18.toArray false) (.seq (.region 19 F13.r19.toArray false) .ret)) (.seq (.region 20 F13.r20.toArray false) (.cond (.tmp 106) (.seq (.region 21 F13.r21.toArray false) (.region 22 F13.r22.toArray false)) .skip)))))))))))))))))))) F13.t23))
theorem F13.calls (hn : args.size ≤ 114) (h : cwE Try.prog F13.code (fnP Try.prog #[(.tmp 4), (.tmp 5)] R) (entry args) w) : Calls Try.prog 13 args w R :=
  calls_of_cwE (types := Try.prog.types) follows Try.func13 F13.code rfl (by kernel_rfl) hn h
def F14.r0 : List Oper := [
  op 2 (.assign (.const (.int .i64 0))) 3]
def F14.r1 : List Oper := [
  op 3 (.move (.tmp 0)) 22,
  op 4 (.nilCheck (.tmp 3)) 0,
  op 5 (.fieldAddr 88 (.tmp 4) 1) 0,
  od 6 (.load 86 (.tmp 5)) 86,
  od 7 (.call ⟨(.builtin .len), #[(.tmp 6)], #[86]⟩) 3,
  op 2 (.assign (.tmp 7)) 3]
def F14.code : Cd := (.seq (.region 0 F14.r0.toArray false) (.seq (.region 1 F14.r1.toArray false) .ret))
theorem F14.calls (hn : args.size ≤ 8) (h : cwE Try.prog F14.code (fnP Try.prog #[(.tmp 2)] R) (entry args) w) : Calls Try.prog 14 args w R :=
  calls_of_cwE (types := Try.prog.types) follows Try.func14 F14.code rfl (by kernel_rfl) hn h
def F15.r0 : List Oper := [
  oc 4 (.alloc 43) 0,
  op 5 (.assign (.const (.bool false))) 4]
def F15.r1 : List Oper := [
  op 6 (.assign (.const (.int .i64 0))) 3]
def F15.r2 : List Oper := [
  op 8 (.move (.tmp 6)) 3,
  op 9 (.move (.tmp 0)) 28,
  op 10 (.call ⟨(.builtin .len), #[(.tmp 9)], #[28]⟩) 3,
  op 11 (.binOp .lss 3 (.tmp 8) (.tmp 10) 3) 4]
def F15.r4 : List Oper := [
  op 14 (.move (.tmp 0)) 28,
  op 15 (.move (.tmp 6)) 3,
  op 16 (.indexAddr 28 (.tmp 14) (.tmp 15)) 0,
  op 17 (.fieldAddr 48 (.tmp 16) 0) 0,
  od 18 (.load 35 (.tmp 17)) 35,
  op 19 (.move (.tmp 1)) 35,
  op 20 (.binOp .eql 35 (.tmp 18) (.tmp 19) 35) 4]
def F15.r5 : List Oper := [
  op 21 (.move (.tmp 0)) 28,
  op 22 (.move (.tmp 6)) 3,
  op 23 (.indexAddr 28 (.tmp 21) (.tmp 22)) 0,
  op 24 (.fieldAddr 48 (.tmp 23) 1) 0,
  od 25 (.load 43 (.tmp 24)) 43,
  ⟨none, (.store 43 (.tmp 4) (.tmp 25)), 0, "", #[⟨0, .chain⟩], none⟩,
  op 5 (.assign (.const (.bool true))) 4]
def F15.r3 : List Oper := [
  op 12 (.move (.tmp 6)) 3,
  op 13 (.binOp .add 3 (.tmp 12) (.const (.int .i64 1)) 3) 3,
  op 6 (.assign (.tmp 13)) 3]
def F15.r6 : List Oper := [
  oc 7 (.alloc 43) 0]
def F15.r7 : List Oper := [
  od 26 (.load 43 (.tmp 7)) 43,
  ⟨none, (.store 43 (.tmp 4) (.tmp 26)), 0, "", #[⟨0, .chain⟩], none⟩,
  op 5 (.assign (.const (.bool false))) 4]
def F15.t3 : Cd := (.region 3 F15.r3.toArray false)
theorem F15.t3_eq {θ : Tag (F15.t3, Q, e, w)} : cwE P F15.t3 Q e w θ = cwE P (.region 3 F15.r3.toArray false) Q e w := rfl
def F15.t4 : Cd := (.seq (.block 1 (.seq (.region 4 F15.r4.toArray false) (.cond (.tmp 20) (.seq (.region 5 F15.r5.toArray false) .ret) .skip))) F15.t3)
theorem F15.t4_eq {θ : Tag (F15.t4, Q, e, w)} : cwE P F15.t4 Q e w θ = cwE P (.seq (.block 1 (.seq (.region 4 F15.r4.toArray false) (.cond (.tmp 20) (.seq (.region 5 F15.r5.toArray false) .ret) .skip))) F15.t3) Q e w := rfl
def F15.t6 : Cd := (.seq (.region 6 F15.r6.toArray false) (.seq (.region 7 F15.r7.toArray false) .ret))
theorem F15.t6_eq {θ : Tag (F15.t6, Q, e, w)} : cwE P F15.t6 Q e w θ = cwE P (.seq (.region 6 F15.r6.toArray false) (.seq (.region 7 F15.r7.toArray false) .ret)) Q e w := rfl
def F15.code : Cd := (.seq (.region 0 F15.r0.toArray false) (.seq (.seq (.region 1 F15.r1.toArray false) (.block 0 (.loop (.seq (.seq (.region 2 F15.r2.toArray false) (.cond (.tmp 11) .skip (.exit 0))) F15.t4)))) F15.t6))
theorem F15.calls (hn : args.size ≤ 27) (h : cwE Try.prog F15.code (fnP Try.prog #[(.cell 4 43), (.tmp 5)] R) (entry args) w) : Calls Try.prog 15 args w R :=
  calls_of_cwE (types := Try.prog.types) follows Try.func15 F15.code rfl (by kernel_rfl) hn h
def F16.r0 : List Oper := [
  oc 2 (.box 43 (.tmp 0)) 0,
  oc 3 (.box 43 (.tmp 1)) 0,
  op 4 (.assign (.const (.bool false))) 4]
def F16.r1 : List Oper := [
  op 7 (.fieldAddr 43 (.tmp 2) 7) 0,
  op 8 (.fieldAddr 41 (.tmp 7) 6) 0,
  od 9 (.load 39 (.tmp 8)) 39,
  od 10 (.convert 39 9 (.tmp 9)) 9,
  op 11 (.fieldAddr 43 (.tmp 3) 7) 0,
  op 12 (.fieldAddr 41 (.tmp 11) 6) 0,
  od 13 (.load 39 (.tmp 12)) 39,
  od 14 (.convert 39 9 (.tmp 13)) 9,
  op 15 (.binOp .neq 9 (.tmp 10) (.tmp 14) 9) 4]
def F16.r2 : List Oper := [
  op 4 (.assign (.const (.bool false))) 4]
def F16.r3 : List Oper := [
  op 16 (.fieldAddr 43 (.tmp 2) 7) 0,
  od 17 (.load 41 (.tmp 16)) 41,
  oc 5 (.alloc 41) 0,
  ⟨none, (.store 41 (.tmp 5) (.tmp 17)), 0, "", #[⟨0, .chain⟩], none⟩]
def F16.r4 : List Oper := [
  op 18 (.fieldAddr 43 (.tmp 3) 7) 0,
  od 19 (.load 41 (.tmp 18)) 41,
  oc 6 (.alloc 41) 0,
  ⟨none, (.store 41 (.tmp 6) (.tmp 19)), 0, "", #[⟨0, .chain⟩], none⟩]
def F16.r5 : List Oper := [
  op 20 (.fieldAddr 43 (.tmp 2) 0) 0,
  od 21 (.load 36 (.tmp 20)) 36,
  op 22 (.fieldAddr 43 (.tmp 3) 0) 0,
  od 23 (.load 36 (.tmp 22)) 36,
  op 24 (.binOp .eql 36 (.tmp 21) (.tmp 23) 36) 4,
  op 25 (.move (.tmp 24)) 4,
  og 26 (.fieldAddr 43 (.tmp 2) 1) 0 25 true,
  ⟨(some 27), (.load 37 (.tmp 26)), 37, "", #[⟨0, .data⟩], (some (25, true))⟩,
  og 28 (.fieldAddr 43 (.tmp 3) 1) 0 25 true,
  ⟨(some 29), (.load 37 (.tmp 28)), 37, "", #[⟨0, .data⟩], (some (25, true))⟩,
  og 30 (.binOp .eql 37 (.tmp 27) (.tmp 29) 37) 4 25 true,
  op 31 (.pick (.tmp 25) (.tmp 30) (.const (.bool false))) 4,
  op 32 (.move (.tmp 31)) 4,
  og 33 (.fieldAddr 43 (.tmp 2) 2) 0 32 true,
  ⟨(some 34), (.load 9 (.tmp 33)), 9, "", #[⟨0, .data⟩], (some (32, true))⟩,
  og 35 (.fieldAddr 43 (.tmp 3) 2) 0 32 true,
  ⟨(some 36), (.load 9 (.tmp 35)), 9, "", #[⟨0, .data⟩], (some (32, true))⟩,
  og 37 (.binOp .eql 9 (.tmp 34) (.tmp 36) 9) 4 32 true,
  op 38 (.pick (.tmp 32) (.tmp 37) (.const (.bool false))) 4,
  op 39 (.move (.tmp 38)) 4,
  og 40 (.fieldAddr 43 (.tmp 2) 3) 0 39 true,
  ⟨(some 41), (.load 5 (.tmp 40)), 5, "", #[⟨0, .data⟩], (some (39, true))⟩,
  og 42 (.fieldAddr 43 (.tmp 3) 3) 0 39 true,
  ⟨(some 43), (.load 5 (.tmp 42)), 5, "", #[⟨0, .data⟩], (some (39, true))⟩,
  og 44 (.binOp .eql 5 (.tmp 41) (.tmp 43) 5) 4 39 true,
  op 45 (.pick (.tmp 39) (.tmp 44) (.const (.bool false))) 4,
  op 46 (.move (.tmp 45)) 4,
  og 47 (.fieldAddr 43 (.tmp 2) 4) 0 46 true,
  ⟨(some 48), (.load 4 (.tmp 47)), 4, "", #[⟨0, .data⟩], (some (46, true))⟩,
  og 49 (.fieldAddr 43 (.tmp 3) 4) 0 46 true,
  ⟨(some 50), (.load 4 (.tmp 49)), 4, "", #[⟨0, .data⟩], (some (46, true))⟩,
  og 51 (.binOp .eql 4 (.tmp 48) (.tmp 50) 4) 4 46 true,
  op 52 (.pick (.tmp 46) (.tmp 51) (.const (.bool false))) 4,
  op 53 (.move (.tmp 52)) 4,
  og 54 (.fieldAddr 43 (.tmp 2) 5) 0 53 true,
  ⟨(some 55), (.load 37 (.tmp 54)), 37, "", #[⟨0, .data⟩], (some (53, true))⟩,
  og 56 (.fieldAddr 43 (.tmp 3) 5) 0 53 true,
  ⟨(some 57), (.load 37 (.tmp 56)), 37, "", #[⟨0, .data⟩], (some (53, true))⟩,
  og 58 (.binOp .eql 37 (.tmp 55) (.tmp 57) 37) 4 53 true,
  op 59 (.pick (.tmp 53) (.tmp 58) (.const (.bool false))) 4,
  op 60 (.move (.tmp 59)) 4,
  og 61 (.fieldAddr 43 (.tmp 2) 6) 0 60 true,
  ⟨(some 62), (.load 37 (.tmp 61)), 37, "", #[⟨0, .data⟩], (some (60, true))⟩,
  og 63 (.fieldAddr 43 (.tmp 3) 6) 0 60 true,
  ⟨(some 64), (.load 37 (.tmp 63)), 37, "", #[⟨0, .data⟩], (some (60, true))⟩,
  og 65 (.binOp .eql 37 (.tmp 62) (.tmp 64) 37) 4 60 true,
  op 66 (.pick (.tmp 60) (.tmp 65) (.const (.bool false))) 4,
  op 67 (.move (.tmp 66)) 4,
  og 68 (.fieldAddr 41 (.tmp 5) 0) 0 67 true,
  ⟨(some 69), (.load 9 (.tmp 68)), 9, "", #[⟨0, .data⟩], (some (67, true))⟩,
  og 70 (.fieldAddr 41 (.tmp 6) 0) 0 67 true,
  ⟨(some 71), (.load 9 (.tmp 70)), 9, "", #[⟨0, .data⟩], (some (67, true))⟩,
  og 72 (.binOp .eql 9 (.tmp 69) (.tmp 71) 9) 4 67 true,
  op 73 (.pick (.tmp 67) (.tmp 72) (.const (.bool false))) 4,
  op 74 (.move (.tmp 73)) 4,
  og 75 (.fieldAddr 41 (.tmp 5) 1) 0 74 true,
  ⟨(some 76), (.load 9 (.tmp 75)), 9, "", #[⟨0, .data⟩], (some (74, true))⟩,
  og 77 (.fieldAddr 41 (.tmp 6) 1) 0 74 true,
  ⟨(some 78), (.load 9 (.tmp 77)), 9, "", #[⟨0, .data⟩], (some (74, true))⟩,
  og 79 (.binOp .eql 9 (.tmp 76) (.tmp 78) 9) 4 74 true,
  op 80 (.pick (.tmp 74) (.tmp 79) (.const (.bool false))) 4,
  op 81 (.move (.tmp 80)) 4,
  og 82 (.fieldAddr 41 (.tmp 5) 2) 0 81 true,
  ⟨(some 83), (.load 37 (.tmp 82)), 37, "", #[⟨0, .data⟩], (some (81, true))⟩,
  og 84 (.fieldAddr 41 (.tmp 6) 2) 0 81 true,
  ⟨(some 85), (.load 37 (.tmp 84)), 37, "", #[⟨0, .data⟩], (some (81, true))⟩,
  og 86 (.binOp .eql 37 (.tmp 83) (.tmp 85) 37) 4 81 true,
  op 87 (.pick (.tmp 81) (.tmp 86) (.const (.bool false))) 4,
  op 88 (.move (.tmp 87)) 4,
  og 89 (.fieldAddr 41 (.tmp 5) 3) 0 88 true,
  ⟨(some 90), (.load 37 (.tmp 89)), 37, "", #[⟨0, .data⟩], (some (88, true))⟩,
  og 91 (.fieldAddr 41 (.tmp 6) 3) 0 88 true,
  ⟨(some 92), (.load 37 (.tmp 91)), 37, "", #[⟨0, .data⟩], (some (88, true))⟩,
  og 93 (.binOp .eql 37 (.tmp 90) (.tmp 92) 37) 4 88 true,
  op 94 (.pick (.tmp 88) (.tmp 93) (.const (.bool false))) 4,
  op 95 (.move (.tmp 94)) 4,
  og 96 (.fieldAddr 41 (.tmp 5) 4) 0 95 true,
  ⟨(some 97), (.load 38 (.tmp 96)), 38, "", #[⟨0, .data⟩], (some (95, true))⟩,
  og 98 (.fieldAddr 41 (.tmp 6) 4) 0 95 true,
  ⟨(some 99), (.load 38 (.tmp 98)), 38, "", #[⟨0, .data⟩], (some (95, true))⟩,
  og 100 (.binOp .eql 38 (.tmp 97) (.tmp 99) 38) 4 95 true,
  op 101 (.pick (.tmp 95) (.tmp 100) (.const (.bool false))) 4,
  op 102 (.move (.tmp 101)) 4,
  og 103 (.fieldAddr 41 (.tmp 5) 5) 0 102 true,
  ⟨(some 104), (.load 3 (.tmp 103)), 3, "", #[⟨0, .data⟩], (some (102, true))⟩,
  og 105 (.fieldAddr 41 (.tmp 6) 5) 0 102 true,
  ⟨(some 106), (.load 3 (.tmp 105)), 3, "", #[⟨0, .data⟩], (some (102, true))⟩,
  og 107 (.binOp .eql 3 (.tmp 104) (.tmp 106) 3) 4 102 true,
  op 108 (.pick (.tmp 102) (.tmp 107) (.const (.bool false))) 4,
  op 4 (.assign (.tmp 108)) 4]
def F16.t3 : Cd := (.seq (.region 3 F16.r3.toArray false) (.seq (.region 4 F16.r4.toArray false) (.seq (.region 5 F16.r5.toArray false) .ret)))
theorem F16.t3_eq {θ : Tag (F16.t3, Q, e, w)} : cwE P F16.t3 Q e w θ = cwE P (.seq (.region 3 F16.r3.toArray false) (.seq (.region 4 F16.r4.toArray false) (.seq (.region 5 F16.r5.toArray false) .ret))) Q e w := rfl
def F16.code : Cd := (.seq (.region 0 F16.r0.toArray false) (.seq (.seq (.region 1 F16.r1.toArray false) (.cond (.tmp 15) (.seq (.region 2 F16.r2.toArray false) .ret) .skip)) F16.t3))
theorem F16.calls (hn : args.size ≤ 109) (h : cwE Try.prog F16.code (fnP Try.prog #[(.tmp 4)] R) (entry args) w) : Calls Try.prog 16 args w R :=
  calls_of_cwE (types := Try.prog.types) follows Try.func16 F16.code rfl (by kernel_rfl) hn h
def F17.r0 : List Oper := [
  op 4 (.assign (.const (.bool false))) 4]
def F17.r1 : List Oper := [
  op 5 (.assign (.const (.int .i64 0))) 3]
def F17.r2 : List Oper := [
  op 6 (.move (.tmp 5)) 3,
  op 7 (.move (.tmp 0)) 32,
  op 8 (.call ⟨(.builtin .len), #[(.tmp 7)], #[32]⟩) 3,
  op 9 (.binOp .lss 3 (.tmp 6) (.tmp 8) 3) 4]
def F17.r4 : List Oper := [
  op 12 (.move (.tmp 0)) 32,
  op 13 (.move (.tmp 5)) 3,
  op 14 (.indexAddr 32 (.tmp 12) (.tmp 13)) 0,
  od 15 (.load 35 (.tmp 14)) 35,
  op 16 (.move (.tmp 1)) 35,
  op 17 (.binOp .eql 35 (.tmp 15) (.tmp 16) 35) 4]
def F17.r5 : List Oper := [
  op 4 (.assign (.const (.bool true))) 4]
def F17.r3 : List Oper := [
  op 10 (.move (.tmp 5)) 3,
  op 11 (.binOp .add 3 (.tmp 10) (.const (.int .i64 1)) 3) 3,
  op 5 (.assign (.tmp 11)) 3]
def F17.r6 : List Oper := [
  op 4 (.assign (.const (.bool false))) 4]
def F17.t3 : Cd := (.region 3 F17.r3.toArray false)
theorem F17.t3_eq {θ : Tag (F17.t3, Q, e, w)} : cwE P F17.t3 Q e w θ = cwE P (.region 3 F17.r3.toArray false) Q e w := rfl
def F17.t4 : Cd := (.seq (.block 1 (.seq (.region 4 F17.r4.toArray false) (.cond (.tmp 17) (.seq (.region 5 F17.r5.toArray false) .ret) .skip))) F17.t3)
theorem F17.t4_eq {θ : Tag (F17.t4, Q, e, w)} : cwE P F17.t4 Q e w θ = cwE P (.seq (.block 1 (.seq (.region 4 F17.r4.toArray false) (.cond (.tmp 17) (.seq (.region 5 F17.r5.toArray false) .ret) .skip))) F17.t3) Q e w := rfl
def F17.t6 : Cd := (.seq (.region 6 F17.r6.toArray false) .ret)
theorem F17.t6_eq {θ : Tag (F17.t6, Q, e, w)} : cwE P F17.t6 Q e w θ = cwE P (.seq (.region 6 F17.r6.toArray false) .ret) Q e w := rfl
def F17.code : Cd := (.seq (.region 0 F17.r0.toArray false) (.seq (.seq (.region 1 F17.r1.toArray false) (.block 0 (.loop (.seq (.seq (.region 2 F17.r2.toArray false) (.cond (.tmp 9) .skip (.exit 0))) F17.t4)))) F17.t6))
theorem F17.calls (hn : args.size ≤ 18) (h : cwE Try.prog F17.code (fnP Try.prog #[(.tmp 4)] R) (entry args) w) : Calls Try.prog 17 args w R :=
  calls_of_cwE (types := Try.prog.types) follows Try.func17 F17.code rfl (by kernel_rfl) hn h
def F18.r0 : List Oper := [
  op 10 (.assign (.const (.int .i64 0))) 31]
def F18.r1 : List Oper := [
  op 15 (.move (.tmp 0)) 22,
  op 16 (.nilCheck (.tmp 15)) 0,
  op 17 (.fieldAddr 88 (.tmp 16) 1) 0,
  od 18 (.load 86 (.tmp 17)) 86,
  op 19 (.move (.tmp 1)) 35,
  od 20 (.lookup 86 (.tmp 18) (.tmp 19) true) 49,
  op 14 (.move (.tmp 20)) 49,
  op 21 (.extract (.tmp 14) 0) 43,
  op 22 (.extract (.tmp 14) 1) 4,
  oc 11 (.alloc 43) 0,
  ⟨none, (.store 43 (.tmp 11) (.tmp 21)), 0, "", #[⟨0, .chain⟩], none⟩,
  op 12 (.assign (.tmp 22)) 4]
def F18.r2 : List Oper := [
  op 23 (.move (.tmp 12)) 4,
  op 24 (.unOp .not 4 (.tmp 23)) 4]
def F18.r3 : List Oper := [
  op 10 (.assign (.const (.int .i64 100))) 31]
def F18.r4 : List Oper := [
  od 25 (.load 43 (.tmp 11)) 43,
  oc 26 (.call ⟨(.value (.func 37)), #[(.tmp 25)], #[43]⟩) 31,
  op 13 (.assign (.tmp 26)) 31]
def F18.r5 : List Oper := [
  op 27 (.move (.tmp 13)) 31,
  op 28 (.binOp .neq 31 (.tmp 27) (.const (.int .i64 0)) 31) 4]
def F18.r6 : List Oper := [
  op 29 (.move (.tmp 13)) 31,
  op 10 (.assign (.tmp 29)) 31]
def F18.r7 : List Oper := [
  ⟨(some 30), (.move (.tmp 0)), 22, "", #[], none⟩,
  ⟨(some 31), (.nilCheck (.tmp 30)), 0, "", #[], none⟩,
  ⟨(some 32), (.fieldAddr 88 (.tmp 31) 1), 0, "", #[], none⟩,
  ⟨(some 34), (.move (.tmp 1)), 35, "", #[], none⟩,
  ⟨(some 35), (.move (.tmp 2)), 37, "", #[], none⟩,
  ⟨(some 36), (.fieldAddr 43 (.tmp 11) 2), 0, "", #[], none⟩,
  ⟨(some 38), (.move (.tmp 3)), 5, "", #[], none⟩,
  ⟨(some 39), (.binOp .and 5 (.tmp 38) (.const (.int .u8 3)) 5), 5, "", #[], none⟩,
  ⟨(some 40), (.move (.tmp 4)), 4, "", #[], none⟩,
  ⟨(some 33), (.load 86 (.tmp 32)), 86, "", #[⟨4096, .data⟩], none⟩,
  ⟨(some 37), (.load 9 (.tmp 36)), 9, "", #[⟨4096, .data⟩], none⟩,
  ⟨(some 41), (.build 43 #[(0, (.const (.int .u8 2))), (1, (.tmp 35)), (2, (.tmp 37)), (3, (.tmp 39)), (4, (.tmp 40))]), 43, "", #[], none⟩,
  ⟨none, (.mapUpdate 86 (.tmp 33) (.tmp 34) (.tmp 41)), 0, "", #[⟨12, .chain⟩], none⟩]
def F18.r8 : List Oper := [
  op 10 (.assign (.const (.int .i64 0))) 31]
def F18.t7 : Cd := (.seq (.region 7 F18.r7.toArray true) (.seq (.region 8 F18.r8.toArray false) .ret))
theorem F18.t7_eq {θ : Tag (F18.t7, Q, e, w)} : cwE P F18.t7 Q e w θ = cwE P (.seq (.region 7 F18.r7.toArray true) (.seq (.region 8 F18.r8.toArray false) .ret)) Q e w := rfl
def F18.t4 : Cd := (.seq (.seq (.region 4 F18.r4.toArray false) (.seq (.region 5 F18.r5.toArray false) (.cond (.tmp 28) (.seq (.region 6 F18.r6.toArray false) .ret) .skip))) F18.t7)
theorem F18.t4_eq {θ : Tag (F18.t4, Q, e, w)} : cwE P F18.t4 Q e w θ = cwE P (.seq (.seq (.region 4 F18.r4.toArray false) (.seq (.region 5 F18.r5.toArray false) (.cond (.tmp 28) (.seq (.region 6 F18.r6.toArray false) .ret) .skip))) F18.t7) Q e w := rfl
def F18.code : Cd := (.seq (.region 0 F18.r0.toArray false) (.seq (.region 1 F18.r1.toArray false) (.seq (.seq (.region 2 F18.r2.toArray false) (.cond (.tmp 24) (.seq (.region 3 F18.r3.toArray false) .ret) .skip)) F18.t4)))
theorem F18.calls (hn : args.size ≤ 42) (h : cwE Try.prog F18.code (fnP Try.prog #[(.tmp 10)] R) (entry args) w) : Calls Try.prog 18 args w R :=
  calls_of_cwE (types := Try.prog.types) follows Try.func18 F18.code rfl (by kernel_rfl) hn h
def F19.r0 : List Oper := [
  op 4 (.assign (.const (.int .i64 0))) 3]
def F19.r1 : List Oper := [
  op 5 (.assign (.const (.int .i64 0))) 3]
def F19.r2 : List Oper := [
  op 8 (.move (.tmp 0)) 22,
  op 9 (.nilCheck (.tmp 8)) 0,
  op 10 (.fieldAddr 88 (.tmp 9) 1) 0,
  od 11 (.load 86 (.tmp 10)) 86,
  oc 12 (.range 86 (.tmp 11)) 0]
def F19.r3 : List Oper := [
  oc 13 (.next (.tmp 12) false) 0,
  op 14 (.extract (.tmp 13) 0) 4]
def F19.r4 : List Oper := [
  od 15 (.entry (.tmp 12)) 0,
  op 16 (.extract (.tmp 15) 1) 43,
  oc 7 (.alloc 43) 0,
  ⟨none, (.store 43 (.tmp 7) (.tmp 16)), 0, "", #[⟨0, .chain⟩], none⟩]
def F19.r5 : List Oper := [
  op 17 (.fieldAddr 43 (.tmp 7) 0) 0,
  od 18 (.load 36 (.tmp 17)) 36,
  op 19 (.binOp .eql 36 (.tmp 18) (.const (.int .u8 2)) 36) 4,
  op 20 (.move (.tmp 19)) 4,
  og 21 (.fieldAddr 43 (.tmp 7) 1) 0 20 true,
  ⟨(some 22), (.load 37 (.tmp 21)), 37, "", #[⟨0, .data⟩], (some (20, true))⟩,
  og 23 (.move (.tmp 1)) 37 20 true,
  og 24 (.binOp .eql 37 (.tmp 22) (.tmp 23) 37) 4 20 true,
  op 25 (.pick (.tmp 20) (.tmp 24) (.const (.bool false))) 4]
def F19.r6 : List Oper := [
  op 26 (.move (.tmp 5)) 3,
  op 27 (.binOp .add 3 (.tmp 26) (.const (.int .i64 1)) 3) 3,
  op 5 (.assign (.tmp 27)) 3]
def F19.r7 : List Oper := [
  op 28 (.move (.tmp 5)) 3,
  op 4 (.assign (.tmp 28)) 3]
def F19.t4 : Cd := (.block 1 (.seq (.region 4 F19.r4.toArray false) (.seq (.region 5 F19.r5.toArray false) (.cond (.tmp 25) (.region 6 F19.r6.toArray false) .skip))))
theorem F19.t4_eq {θ : Tag (F19.t4, Q, e, w)} : cwE P F19.t4 Q e w θ = cwE P (.block 1 (.seq (.region 4 F19.r4.toArray false) (.seq (.region 5 F19.r5.toArray false) (.cond (.tmp 25) (.region 6 F19.r6.toArray false) .skip)))) Q e w := rfl
def F19.t7 : Cd := (.seq (.region 7 F19.r7.toArray false) .ret)
theorem F19.t7_eq {θ : Tag (F19.t7, Q, e, w)} : cwE P F19.t7 Q e w θ = cwE P (.seq (.region 7 F19.r7.toArray false) .ret) Q e w := rfl
def F19.code : Cd := (.seq (.region 0 F19.r0.toArray false) (.seq (.region 1 F19.r1.toArray false) (.seq (.seq (.region 2 F19.r2.toArray false) (.block 0 (.loop (.seq (.region 3 F19.r3.toArray false) (.seq (.cond (.tmp 14) .skip (.exit 0)) F19.t4))))) F19.t7)))
theorem F19.calls (hn : args.size ≤ 29) (h : cwE Try.prog F19.code (fnP Try.prog #[(.tmp 4)] R) (entry args) w) : Calls Try.prog 19 args w R :=
  calls_of_cwE (types := Try.prog.types) follows Try.func19 F19.code rfl (by kernel_rfl) hn h
def F20.r0 : List Oper := [
  op 2 (.assign (.const (.pointer none))) 22,
  op 3 (.assign (.const (.int .i64 0))) 31]
def F20.r1 : List Oper := [
  op 4 (.move (.tmp 0)) 3,
  op 5 (.binOp .lss 3 (.tmp 4) (.const (.int .i64 1)) 3) 4,
  op 6 (.move (.tmp 5)) 4,
  og 7 (.move (.tmp 0)) 3 6 false,
  og 8 (.binOp .gtr 3 (.tmp 7) (.const (.int .i64 256)) 3) 4 6 false,
  op 9 (.pick (.tmp 6) (.const (.bool true)) (.tmp 8)) 4]
def F20.r2 : List Oper := [
  op 2 (.assign (.const (.pointer none))) 22,
  op 3 (.assign (.const (.int .i64 1))) 31]
def F20.r3 : List Oper := [
  op 10 (.move (.tmp 0)) 3,
  oc 11 (.makeMap 86 none) 86,
  op 12 (.build 88 #[(0, (.tmp 10)), (1, (.tmp 11))]) 88,
  oc 13 (.box 88 (.tmp 12)) 22,
  op 2 (.assign (.tmp 13)) 22,
  op 3 (.assign (.const (.int .i64 0))) 31]
def F20.t3 : Cd := (.seq (.region 3 F20.r3.toArray false) .ret)
theorem F20.t3_eq {θ : Tag (F20.t3, Q, e, w)} : cwE P F20.t3 Q e w θ = cwE P (.seq (.region 3 F20.r3.toArray false) .ret) Q e w := rfl
def F20.code : Cd := (.seq (.region 0 F20.r0.toArray false) (.seq (.seq (.region 1 F20.r1.toArray false) (.cond (.tmp 9) (.seq (.region 2 F20.r2.toArray false) .ret) .skip)) F20.t3))
theorem F20.calls (hn : args.size ≤ 14) (h : cwE Try.prog F20.code (fnP Try.prog #[(.tmp 2), (.tmp 3)] R) (entry args) w) : Calls Try.prog 20 args w R :=
  calls_of_cwE (types := Try.prog.types) follows Try.func20 F20.code rfl (by kernel_rfl) hn h
def F21.r0 : List Oper := [
  op 2 (.assign (.const (.slice none 0 0))) 28]
def F21.r1 : List Oper := [
  op 4 (.move (.tmp 0)) 22,
  oc 5 (.call ⟨(.value (.func 38)), #[(.tmp 4)], #[22]⟩) 28,
  op 3 (.assign (.tmp 5)) 28]
def F21.r2 : List Oper := [
  op 6 (.move (.tmp 0)) 22,
  op 7 (.nilCheck (.tmp 6)) 0,
  op 8 (.fieldAddr 88 (.tmp 7) 1) 0,
  od 9 (.load 86 (.tmp 8)) 86,
  ⟨none, (.call ⟨(.builtin .clear), #[(.tmp 9)], #[86]⟩), 0, "", #[⟨0, .chain⟩], none⟩]
def F21.r3 : List Oper := [
  op 10 (.move (.tmp 3)) 28,
  op 2 (.assign (.tmp 10)) 28]
def F21.code : Cd := (.seq (.region 0 F21.r0.toArray false) (.seq (.region 1 F21.r1.toArray false) (.seq (.region 2 F21.r2.toArray false) (.seq (.region 3 F21.r3.toArray false) .ret))))
theorem F21.calls (hn : args.size ≤ 11) (h : cwE Try.prog F21.code (fnP Try.prog #[(.tmp 2)] R) (entry args) w) : Calls Try.prog 21 args w R :=
  calls_of_cwE (types := Try.prog.types) follows Try.func21 F21.code rfl (by kernel_rfl) hn h
def F22.r0 : List Oper := [
  oc 5 (.box 43 (.tmp 2)) 0,
  op 6 (.assign (.const (.int .i64 0))) 31]
def F22.r1 : List Oper := [
  od 8 (.load 43 (.tmp 5)) 43,
  oc 9 (.call ⟨(.value (.func 39)), #[(.tmp 8)], #[43]⟩) 4,
  op 10 (.unOp .not 4 (.tmp 9)) 4]
def F22.r2 : List Oper := [
  op 6 (.assign (.const (.int .i64 1))) 31]
def F22.r3 : List Oper := [
  op 11 (.move (.tmp 0)) 22,
  op 12 (.move (.tmp 1)) 35,
  oc 13 (.call ⟨(.value (.func 40)), #[(.tmp 11), (.tmp 12)], #[22, 35]⟩) 31,
  op 7 (.assign (.tmp 13)) 31]
def F22.r4 : List Oper := [
  op 14 (.move (.tmp 7)) 31,
  op 15 (.binOp .neq 31 (.tmp 14) (.const (.int .i64 0)) 31) 4]
def F22.r5 : List Oper := [
  op 16 (.move (.tmp 7)) 31,
  op 6 (.assign (.tmp 16)) 31]
def F22.r6 : List Oper := [
  ⟨(some 17), (.move (.tmp 0)), 22, "", #[], none⟩,
  ⟨(some 18), (.nilCheck (.tmp 17)), 0, "", #[], none⟩,
  ⟨(some 19), (.fieldAddr 88 (.tmp 18) 1), 0, "", #[], none⟩,
  ⟨(some 21), (.move (.tmp 1)), 35, "", #[], none⟩,
  ⟨(some 20), (.load 86 (.tmp 19)), 86, "", #[⟨128, .data⟩], none⟩,
  ⟨(some 22), (.load 43 (.tmp 5)), 43, "", #[⟨192, .data⟩], none⟩,
  ⟨(some 23), (.call ⟨(.value (.func 41)), #[(.tmp 22)], #[43]⟩), 43, "", #[⟨6, .chain⟩], none⟩,
  ⟨none, (.mapUpdate 86 (.tmp 20) (.tmp 21) (.tmp 23)), 0, "", #[⟨7, .chain⟩], none⟩]
def F22.r7 : List Oper := [
  op 6 (.assign (.const (.int .i64 0))) 31]
def F22.t6 : Cd := (.seq (.region 6 F22.r6.toArray true) (.seq (.region 7 F22.r7.toArray false) .ret))
theorem F22.t6_eq {θ : Tag (F22.t6, Q, e, w)} : cwE P F22.t6 Q e w θ = cwE P (.seq (.region 6 F22.r6.toArray true) (.seq (.region 7 F22.r7.toArray false) .ret)) Q e w := rfl
def F22.t3 : Cd := (.seq (.seq (.region 3 F22.r3.toArray false) (.seq (.region 4 F22.r4.toArray false) (.cond (.tmp 15) (.seq (.region 5 F22.r5.toArray false) .ret) .skip))) F22.t6)
theorem F22.t3_eq {θ : Tag (F22.t3, Q, e, w)} : cwE P F22.t3 Q e w θ = cwE P (.seq (.seq (.region 3 F22.r3.toArray false) (.seq (.region 4 F22.r4.toArray false) (.cond (.tmp 15) (.seq (.region 5 F22.r5.toArray false) .ret) .skip))) F22.t6) Q e w := rfl
def F22.code : Cd := (.seq (.region 0 F22.r0.toArray false) (.seq (.seq (.region 1 F22.r1.toArray false) (.cond (.tmp 10) (.seq (.region 2 F22.r2.toArray false) .ret) .skip)) F22.t3))
theorem F22.calls (hn : args.size ≤ 24) (h : cwE Try.prog F22.code (fnP Try.prog #[(.tmp 6)] R) (entry args) w) : Calls Try.prog 22 args w R :=
  calls_of_cwE (types := Try.prog.types) follows Try.func22 F22.code rfl (by kernel_rfl) hn h
def F23.r0 : List Oper := [
  op 2 (.assign (.const (.pointer none))) 61,
  op 3 (.assign (.const (.int .i64 0))) 31]
def F23.r1 : List Oper := [
  op 4 (.move (.tmp 0)) 3,
  op 5 (.binOp .lss 3 (.tmp 4) (.const (.int .i64 1)) 3) 4,
  op 6 (.move (.tmp 5)) 4,
  og 7 (.move (.tmp 0)) 3 6 false,
  og 8 (.binOp .gtr 3 (.tmp 7) (.const (.int .i64 256)) 3) 4 6 false,
  op 9 (.pick (.tmp 6) (.const (.bool true)) (.tmp 8)) 4]
def F23.r2 : List Oper := [
  op 2 (.assign (.const (.pointer none))) 61,
  op 3 (.assign (.const (.int .i64 1))) 31]
def F23.r3 : List Oper := [
  op 10 (.move (.tmp 0)) 3,
  op 11 (.build 94 #[(0, (.tmp 10))]) 94,
  oc 12 (.box 94 (.tmp 11)) 61,
  op 2 (.assign (.tmp 12)) 61,
  op 3 (.assign (.const (.int .i64 0))) 31]
def F23.t3 : Cd := (.seq (.region 3 F23.r3.toArray false) .ret)
theorem F23.t3_eq {θ : Tag (F23.t3, Q, e, w)} : cwE P F23.t3 Q e w θ = cwE P (.seq (.region 3 F23.r3.toArray false) .ret) Q e w := rfl
def F23.code : Cd := (.seq (.region 0 F23.r0.toArray false) (.seq (.seq (.region 1 F23.r1.toArray false) (.cond (.tmp 9) (.seq (.region 2 F23.r2.toArray false) .ret) .skip)) F23.t3))
theorem F23.calls (hn : args.size ≤ 13) (h : cwE Try.prog F23.code (fnP Try.prog #[(.tmp 2), (.tmp 3)] R) (entry args) w) : Calls Try.prog 23 args w R :=
  calls_of_cwE (types := Try.prog.types) follows Try.func23 F23.code rfl (by kernel_rfl) hn h
def F24.r0 : List Oper := [
  oc 4 (.box 45 (.tmp 1)) 0,
  op 6 (.assign (.const (.bool false))) 4]
def F24.r1 : List Oper := [
  op 21 (.fieldAddr 45 (.tmp 4) 0) 0,
  od 22 (.load 3 (.tmp 21)) 3]
def F24.r2 : List Oper := [
  op 24 (.binOp .eql 3 (.tmp 22) (.const (.int .i64 1)) 3) 4,
  op 23 (.assign (.tmp 24)) 4]
def F24.r3 : PT :=
  (.op ⟨(some 26), (.move (.tmp 0)), 70, "", #[], none⟩
  (.op ⟨(some 27), (.nilCheck (.tmp 26)), 0, "", #[], none⟩
  (.op ⟨(some 28), (.fieldAddr 72 (.tmp 27) 0), 0, "", #[], none⟩
  (.op ⟨(some 30), (.fieldAddr 45 (.tmp 4) 1), 0, "", #[], none⟩
  (.op ⟨(some 29), (.load 22 (.tmp 28)), 22, "", #[⟨2112, .data⟩], none⟩
  (.op ⟨(some 31), (.load 35 (.tmp 30)), 35, "", #[⟨2112, .data⟩], none⟩
  (.alt (.op ⟨(some 32), (.call ⟨(.value (.func 30)), #[(.tmp 29), (.tmp 31)], #[22, 35]⟩), 78, "", #[⟨6, .chain⟩], none⟩
  (.op ⟨(some 25), (.move (.tmp 32)), 78, "", #[], none⟩
  (.op ⟨(some 33), (.extract (.tmp 25) 0), 43, "", #[], none⟩
  (.op ⟨(some 34), (.extract (.tmp 25) 1), 31, "", #[], none⟩
  (.alt (.op ⟨(some 7), (.alloc 43), 0, "", #[⟨10, .chain⟩], none⟩
  (.alt (.op ⟨none, (.store 43 (.tmp 7) (.tmp 33)), 0, "", #[⟨11, .chain⟩], none⟩
  (.op ⟨(some 8), (.assign (.tmp 34)), 31, "", #[], none⟩
  .done))
  .stop))
  .stop)))))
  (.alt (.op ⟨(some 7), (.alloc 43), 0, "", #[⟨10, .chain⟩], none⟩
  (.alt (.op ⟨(some 32), (.call ⟨(.value (.func 30)), #[(.tmp 29), (.tmp 31)], #[22, 35]⟩), 78, "", #[⟨6, .chain⟩], none⟩
  (.op ⟨(some 25), (.move (.tmp 32)), 78, "", #[], none⟩
  (.op ⟨(some 33), (.extract (.tmp 25) 0), 43, "", #[], none⟩
  (.op ⟨(some 34), (.extract (.tmp 25) 1), 31, "", #[], none⟩
  (.alt (.op ⟨none, (.store 43 (.tmp 7) (.tmp 33)), 0, "", #[⟨11, .chain⟩], none⟩
  (.op ⟨(some 8), (.assign (.tmp 34)), 31, "", #[], none⟩
  .done))
  .stop)))))
  .stop))
  .stop))))))))
def F24.r4 : PT :=
  (.op ⟨(some 36), (.move (.tmp 0)), 70, "", #[], none⟩
  (.op ⟨(some 37), (.nilCheck (.tmp 36)), 0, "", #[], none⟩
  (.op ⟨(some 38), (.fieldAddr 72 (.tmp 37) 1), 0, "", #[], none⟩
  (.op ⟨(some 40), (.fieldAddr 45 (.tmp 4) 1), 0, "", #[], none⟩
  (.op ⟨(some 39), (.load 61 (.tmp 38)), 61, "", #[⟨2112, .data⟩], none⟩
  (.op ⟨(some 41), (.load 35 (.tmp 40)), 35, "", #[⟨2112, .data⟩], none⟩
  (.alt (.op ⟨(some 42), (.call ⟨(.value (.func 42)), #[(.tmp 39), (.tmp 41)], #[61, 35]⟩), 78, "", #[⟨6, .chain⟩], none⟩
  (.op ⟨(some 35), (.move (.tmp 42)), 78, "", #[], none⟩
  (.op ⟨(some 43), (.extract (.tmp 35) 0), 43, "", #[], none⟩
  (.op ⟨(some 44), (.extract (.tmp 35) 1), 31, "", #[], none⟩
  (.alt (.op ⟨(some 9), (.alloc 43), 0, "", #[⟨10, .chain⟩], none⟩
  (.alt (.op ⟨none, (.store 43 (.tmp 9) (.tmp 43)), 0, "", #[⟨11, .chain⟩], none⟩
  (.op ⟨(some 10), (.assign (.tmp 44)), 31, "", #[], none⟩
  .done))
  .stop))
  .stop)))))
  (.alt (.op ⟨(some 9), (.alloc 43), 0, "", #[⟨10, .chain⟩], none⟩
  (.alt (.op ⟨(some 42), (.call ⟨(.value (.func 42)), #[(.tmp 39), (.tmp 41)], #[61, 35]⟩), 78, "", #[⟨6, .chain⟩], none⟩
  (.op ⟨(some 35), (.move (.tmp 42)), 78, "", #[], none⟩
  (.op ⟨(some 43), (.extract (.tmp 35) 0), 43, "", #[], none⟩
  (.op ⟨(some 44), (.extract (.tmp 35) 1), 31, "", #[], none⟩
  (.alt (.op ⟨none, (.store 43 (.tmp 9) (.tmp 43)), 0, "", #[⟨11, .chain⟩], none⟩
  (.op ⟨(some 10), (.assign (.tmp 44)), 31, "", #[], none⟩
  .done))
  .stop)))))
  .stop))
  .stop))))))))
def F24.r5 : List Oper := [
  op 45 (.move (.tmp 2)) 64,
  od 46 (.load 43 (.tmp 7)) 43,
  od 47 (.load 43 (.tmp 9)) 43,
  oc 48 (.call ⟨(.value (.func 43)), #[(.tmp 45), (.tmp 46), (.tmp 47)], #[64, 43, 43]⟩) 4,
  op 11 (.assign (.tmp 48)) 4]
def F24.r6 : PT :=
  (.op ⟨(some 50), (.move (.tmp 0)), 70, "", #[], none⟩
  (.op ⟨(some 51), (.nilCheck (.tmp 50)), 0, "", #[], none⟩
  (.op ⟨(some 52), (.fieldAddr 72 (.tmp 51) 0), 0, "", #[], none⟩
  (.op ⟨(some 54), (.fieldAddr 45 (.tmp 4) 1), 0, "", #[], none⟩
  (.op ⟨(some 53), (.load 22 (.tmp 52)), 22, "", #[⟨2112, .data⟩], none⟩
  (.op ⟨(some 55), (.load 35 (.tmp 54)), 35, "", #[⟨2112, .data⟩], none⟩
  (.alt (.op ⟨(some 56), (.call ⟨(.value (.func 30)), #[(.tmp 53), (.tmp 55)], #[22, 35]⟩), 78, "", #[⟨6, .chain⟩], none⟩
  (.op ⟨(some 49), (.move (.tmp 56)), 78, "", #[], none⟩
  (.op ⟨(some 57), (.extract (.tmp 49) 0), 43, "", #[], none⟩
  (.op ⟨(some 58), (.extract (.tmp 49) 1), 31, "", #[], none⟩
  (.alt (.op ⟨(some 12), (.alloc 43), 0, "", #[⟨10, .chain⟩], none⟩
  (.alt (.op ⟨none, (.store 43 (.tmp 12) (.tmp 57)), 0, "", #[⟨11, .chain⟩], none⟩
  (.op ⟨(some 13), (.assign (.tmp 58)), 31, "", #[], none⟩
  .done))
  .stop))
  .stop)))))
  (.alt (.op ⟨(some 12), (.alloc 43), 0, "", #[⟨10, .chain⟩], none⟩
  (.alt (.op ⟨(some 56), (.call ⟨(.value (.func 30)), #[(.tmp 53), (.tmp 55)], #[22, 35]⟩), 78, "", #[⟨6, .chain⟩], none⟩
  (.op ⟨(some 49), (.move (.tmp 56)), 78, "", #[], none⟩
  (.op ⟨(some 57), (.extract (.tmp 49) 0), 43, "", #[], none⟩
  (.op ⟨(some 58), (.extract (.tmp 49) 1), 31, "", #[], none⟩
  (.alt (.op ⟨none, (.store 43 (.tmp 12) (.tmp 57)), 0, "", #[⟨11, .chain⟩], none⟩
  (.op ⟨(some 13), (.assign (.tmp 58)), 31, "", #[], none⟩
  .done))
  .stop)))))
  .stop))
  .stop))))))))
def F24.r7 : List Oper := [
  op 59 (.move (.tmp 2)) 64,
  od 60 (.load 43 (.tmp 12)) 43,
  od 61 (.load 43 (.tmp 9)) 43,
  oc 62 (.call ⟨(.value (.func 43)), #[(.tmp 59), (.tmp 60), (.tmp 61)], #[64, 43, 43]⟩) 4,
  op 14 (.assign (.tmp 62)) 4]
def F24.r8 : List Oper := [
  op 63 (.move (.tmp 11)) 4,
  op 64 (.move (.tmp 63)) 4,
  og 65 (.move (.tmp 14)) 4 64 true,
  op 66 (.pick (.tmp 64) (.tmp 65) (.const (.bool false))) 4,
  op 67 (.move (.tmp 66)) 4,
  og 68 (.move (.tmp 8)) 31 67 true,
  og 69 (.move (.tmp 10)) 31 67 true,
  og 70 (.binOp .eql 31 (.tmp 68) (.tmp 69) 31) 4 67 true,
  op 71 (.pick (.tmp 67) (.tmp 70) (.const (.bool false))) 4,
  op 6 (.assign (.tmp 71)) 4]
def F24.r9 : List Oper := [
  op 73 (.binOp .eql 3 (.tmp 22) (.const (.int .i64 2)) 3) 4,
  op 72 (.assign (.tmp 73)) 4]
def F24.r10 : List Oper := [
  op 74 (.binOp .eql 3 (.tmp 22) (.const (.int .i64 3)) 3) 4,
  op 72 (.assign (.tmp 74)) 4]
def F24.r11 : List Oper := [
  op 75 (.move (.tmp 0)) 70,
  od 76 (.load 45 (.tmp 4)) 45,
  oc 77 (.call ⟨(.value (.func 44)), #[(.tmp 75), (.tmp 76)], #[70, 45]⟩) 4,
  op 6 (.assign (.tmp 77)) 4]
def F24.r12 : List Oper := [
  op 79 (.binOp .eql 3 (.tmp 22) (.const (.int .i64 4)) 3) 4,
  op 78 (.assign (.tmp 79)) 4]
def F24.r13 : PT :=
  (.op ⟨(some 81), (.move (.tmp 0)), 70, "", #[], none⟩
  (.op ⟨(some 82), (.nilCheck (.tmp 81)), 0, "", #[], none⟩
  (.op ⟨(some 83), (.fieldAddr 72 (.tmp 82) 0), 0, "", #[], none⟩
  (.op ⟨(some 85), (.fieldAddr 45 (.tmp 4) 1), 0, "", #[], none⟩
  (.op ⟨(some 84), (.load 22 (.tmp 83)), 22, "", #[⟨2112, .data⟩], none⟩
  (.op ⟨(some 86), (.load 35 (.tmp 85)), 35, "", #[⟨2112, .data⟩], none⟩
  (.alt (.op ⟨(some 87), (.call ⟨(.value (.func 33)), #[(.tmp 84), (.tmp 86)], #[22, 35]⟩), 78, "", #[⟨6, .chain⟩], none⟩
  (.op ⟨(some 80), (.move (.tmp 87)), 78, "", #[], none⟩
  (.op ⟨(some 88), (.extract (.tmp 80) 0), 43, "", #[], none⟩
  (.op ⟨(some 89), (.extract (.tmp 80) 1), 31, "", #[], none⟩
  (.alt (.op ⟨(some 15), (.alloc 43), 0, "", #[⟨10, .chain⟩], none⟩
  (.alt (.op ⟨none, (.store 43 (.tmp 15) (.tmp 88)), 0, "", #[⟨11, .chain⟩], none⟩
  (.op ⟨(some 16), (.assign (.tmp 89)), 31, "", #[], none⟩
  .done))
  .stop))
  .stop)))))
  (.alt (.op ⟨(some 15), (.alloc 43), 0, "", #[⟨10, .chain⟩], none⟩
  (.alt (.op ⟨(some 87), (.call ⟨(.value (.func 33)), #[(.tmp 84), (.tmp 86)], #[22, 35]⟩), 78, "", #[⟨6, .chain⟩], none⟩
  (.op ⟨(some 80), (.move (.tmp 87)), 78, "", #[], none⟩
  (.op ⟨(some 88), (.extract (.tmp 80) 0), 43, "", #[], none⟩
  (.op ⟨(some 89), (.extract (.tmp 80) 1), 31, "", #[], none⟩
  (.alt (.op ⟨none, (.store 43 (.tmp 15) (.tmp 88)), 0, "", #[⟨11, .chain⟩], none⟩
  (.op ⟨(some 16), (.assign (.tmp 89)), 31, "", #[], none⟩
  .done))
  .stop)))))
  .stop))
  .stop))))))))
def F24.r14 : PT :=
  (.op ⟨(some 91), (.move (.tmp 0)), 70, "", #[], none⟩
  (.op ⟨(some 92), (.nilCheck (.tmp 91)), 0, "", #[], none⟩
  (.op ⟨(some 93), (.fieldAddr 72 (.tmp 92) 1), 0, "", #[], none⟩
  (.op ⟨(some 95), (.fieldAddr 45 (.tmp 4) 1), 0, "", #[], none⟩
  (.op ⟨(some 94), (.load 61 (.tmp 93)), 61, "", #[⟨2112, .data⟩], none⟩
  (.op ⟨(some 96), (.load 35 (.tmp 95)), 35, "", #[⟨2112, .data⟩], none⟩
  (.alt (.op ⟨(some 97), (.call ⟨(.value (.func 45)), #[(.tmp 94), (.tmp 96)], #[61, 35]⟩), 78, "", #[⟨6, .chain⟩], none⟩
  (.op ⟨(some 90), (.move (.tmp 97)), 78, "", #[], none⟩
  (.op ⟨(some 98), (.extract (.tmp 90) 0), 43, "", #[], none⟩
  (.op ⟨(some 99), (.extract (.tmp 90) 1), 31, "", #[], none⟩
  (.alt (.op ⟨(some 17), (.alloc 43), 0, "", #[⟨10, .chain⟩], none⟩
  (.alt (.op ⟨none, (.store 43 (.tmp 17) (.tmp 98)), 0, "", #[⟨11, .chain⟩], none⟩
  (.op ⟨(some 18), (.assign (.tmp 99)), 31, "", #[], none⟩
  .done))
  .stop))
  .stop)))))
  (.alt (.op ⟨(some 17), (.alloc 43), 0, "", #[⟨10, .chain⟩], none⟩
  (.alt (.op ⟨(some 97), (.call ⟨(.value (.func 45)), #[(.tmp 94), (.tmp 96)], #[61, 35]⟩), 78, "", #[⟨6, .chain⟩], none⟩
  (.op ⟨(some 90), (.move (.tmp 97)), 78, "", #[], none⟩
  (.op ⟨(some 98), (.extract (.tmp 90) 0), 43, "", #[], none⟩
  (.op ⟨(some 99), (.extract (.tmp 90) 1), 31, "", #[], none⟩
  (.alt (.op ⟨none, (.store 43 (.tmp 17) (.tmp 98)), 0, "", #[⟨11, .chain⟩], none⟩
  (.op ⟨(some 18), (.assign (.tmp 99)), 31, "", #[], none⟩
  .done))
  .stop)))))
  .stop))
  .stop))))))))
def F24.r15 : List Oper := [
  op 100 (.move (.tmp 2)) 64,
  od 101 (.load 43 (.tmp 15)) 43,
  od 102 (.load 43 (.tmp 17)) 43,
  oc 103 (.call ⟨(.value (.func 43)), #[(.tmp 100), (.tmp 101), (.tmp 102)], #[64, 43, 43]⟩) 4,
  op 19 (.assign (.tmp 103)) 4]
def F24.r16 : List Oper := [
  op 104 (.move (.tmp 19)) 4,
  op 105 (.move (.tmp 104)) 4,
  og 106 (.move (.tmp 16)) 31 105 true,
  og 107 (.move (.tmp 18)) 31 105 true,
  og 108 (.binOp .eql 31 (.tmp 106) (.tmp 107) 31) 4 105 true,
  op 109 (.pick (.tmp 105) (.tmp 108) (.const (.bool false))) 4,
  op 6 (.assign (.tmp 109)) 4]
def F24.r17 : List Oper := [
  op 111 (.binOp .eql 3 (.tmp 22) (.const (.int .i64 9)) 3) 4,
  op 110 (.assign (.tmp 111)) 4]
def F24.r18 : List Oper := [
  op 112 (.move (.tmp 0)) 70,
  op 113 (.move (.tmp 2)) 64,
  op 114 (.fieldAddr 45 (.tmp 4) 6) 0,
  od 115 (.load 5 (.tmp 114)) 5,
  op 116 (.convert 5 3 (.tmp 115)) 3,
  op 117 (.fieldAddr 45 (.tmp 4) 2) 0,
  od 118 (.load 35 (.tmp 117)) 35,
  oc 119 (.call ⟨(.value (.func 46)), #[(.tmp 112), (.tmp 113), (.tmp 116), (.tmp 118)], #[70, 64, 3, 35]⟩) 4,
  op 6 (.assign (.tmp 119)) 4]
def F24.r19 : List Oper := [
  op 121 (.binOp .eql 3 (.tmp 22) (.const (.int .i64 10)) 3) 4,
  op 120 (.assign (.tmp 121)) 4]
def F24.r20 : List Oper := [
  op 122 (.move (.tmp 0)) 70,
  op 123 (.nilCheck (.tmp 122)) 0,
  op 124 (.fieldAddr 72 (.tmp 123) 0) 0,
  od 125 (.load 22 (.tmp 124)) 22,
  oc 126 (.call ⟨(.value (.func 21)), #[(.tmp 125)], #[22]⟩) 28,
  op 20 (.assign (.tmp 126)) 28]
def F24.r21 : List Oper := [
  op 127 (.move (.tmp 2)) 64,
  op 128 (.move (.tmp 20)) 28,
  op 129 (.move (.tmp 0)) 70,
  op 130 (.nilCheck (.tmp 129)) 0,
  op 131 (.fieldAddr 72 (.tmp 130) 1) 0,
  od 132 (.load 61 (.tmp 131)) 61,
  oc 133 (.call ⟨(.value (.func 48)), #[(.tmp 132)], #[61]⟩) 28,
  oc 134 (.call ⟨(.value (.func 47)), #[(.tmp 127), (.tmp 128), (.tmp 133)], #[64, 28, 28]⟩) 4,
  op 6 (.assign (.tmp 134)) 4]
def F24.r22 : List Oper := [
  op 135 (.move (.tmp 0)) 70,
  od 136 (.load 45 (.tmp 4)) 45,
  oc 137 (.call ⟨(.value (.func 49)), #[(.tmp 135), (.tmp 136)], #[70, 45]⟩) 4,
  op 6 (.assign (.tmp 137)) 4]
def F24.t7 : Cd := (.seq (.region 7 F24.r7.toArray false) (.seq (.region 8 F24.r8.toArray false) .ret))
theorem F24.t7_eq {θ : Tag (F24.t7, Q, e, w)} : cwE P F24.t7 Q e w θ = cwE P (.seq (.region 7 F24.r7.toArray false) (.seq (.region 8 F24.r8.toArray false) .ret)) Q e w := rfl
def F24.t5 : Cd := (.seq (.region 5 F24.r5.toArray false) (.seq (.tree F24.r6) F24.t7))
theorem F24.t5_eq {θ : Tag (F24.t5, Q, e, w)} : cwE P F24.t5 Q e w θ = cwE P (.seq (.region 5 F24.r5.toArray false) (.seq (.tree F24.r6) F24.t7)) Q e w := rfl
def F24.t4 : Cd := (.seq (.tree F24.r4) F24.t5)
theorem F24.t4_eq {θ : Tag (F24.t4, Q, e, w)} : cwE P F24.t4 Q e w θ = cwE P (.seq (.tree F24.r4) F24.t5) Q e w := rfl
def F24.t15 : Cd := (.seq (.region 15 F24.r15.toArray false) (.seq (.region 16 F24.r16.toArray false) .ret))
theorem F24.t15_eq {θ : Tag (F24.t15, Q, e, w)} : cwE P F24.t15 Q e w θ = cwE P (.seq (.region 15 F24.r15.toArray false) (.seq (.region 16 F24.r16.toArray false) .ret)) Q e w := rfl
def F24.t14 : Cd := (.seq (.tree F24.r14) F24.t15)
theorem F24.t14_eq {θ : Tag (F24.t14, Q, e, w)} : cwE P F24.t14 Q e w θ = cwE P (.seq (.tree F24.r14) F24.t15) Q e w := rfl
def F24.t11 : Cd := (.cond (.tmp 72) (.seq (.region 11 F24.r11.toArray false) .ret) (.seq (.region 12 F24.r12.toArray false) (.cond (.tmp 78) (.seq (.tree F24.r13) F24.t14) (.seq (.region 17 F24.r17.toArray false) (.cond (.tmp 110) (.seq (.region 18 F24.r18.toArray false) .ret) (.seq (.region 19 F24.r19.toArray false) (.cond (.tmp 120) (.seq (.region 20 F24.r20.toArray false) (.seq (.region 21 F24.r21.toArray false) .ret)) .skip)))))))
theorem F24.t11_eq {θ : Tag (F24.t11, Q, e, w)} : cwE P F24.t11 Q e w θ = cwE P (.cond (.tmp 72) (.seq (.region 11 F24.r11.toArray false) .ret) (.seq (.region 12 F24.r12.toArray false) (.cond (.tmp 78) (.seq (.tree F24.r13) F24.t14) (.seq (.region 17 F24.r17.toArray false) (.cond (.tmp 110) (.seq (.region 18 F24.r18.toArray false) .ret) (.seq (.region 19 F24.r19.toArray false) (.cond (.tmp 120) (.seq (.region 20 F24.r20.toArray false) (.seq (.region 21 F24.r21.toArray false) .ret)) .skip))))))) Q e w := rfl
def F24.t22 : Cd := (.seq (.region 22 F24.r22.toArray false) .ret)
theorem F24.t22_eq {θ : Tag (F24.t22, Q, e, w)} : cwE P F24.t22 Q e w θ = cwE P (.seq (.region 22 F24.r22.toArray false) .ret) Q e w := rfl
def F24.code : Cd := (.seq (.region 0 F24.r0.toArray false) (.seq (.seq (.region 1 F24.r1.toArray false) (.block 0 (.seq (.region 2 F24.r2.toArray false) (.cond (.tmp 23) (.seq (.tree F24.r3) F24.t4) (.seq (.seq (.region 9 F24.r9.toArray false) (.cond (.tmp 72) .skip (.region 10 F24.r10.toArray false))) F24.t11))))) F24.t22))
theorem F24.calls (hn : args.size ≤ 138) (h : cwE Try.prog F24.code (fnP Try.prog #[(.tmp 6)] R) (entry args) w) : Calls Try.prog 24 args w R :=
  calls_of_cwE (types := Try.prog.types) follows Try.func24 F24.code rfl (by kernel_rfl) hn h
def F25.r0 : List Oper := [
  op 2 (.assign (.const (.pointer none))) 22]
def F25.r1 : List Oper := [
  op 6 (.move (.tmp 0)) 22,
  op 7 (.nilCheck (.tmp 6)) 0,
  op 8 (.fieldAddr 88 (.tmp 7) 0) 0,
  od 9 (.load 3 (.tmp 8)) 3,
  oc 10 (.makeMap 86 none) 86,
  op 11 (.build 88 #[(0, (.tmp 9)), (1, (.tmp 10))]) 88,
  oc 12 (.box 88 (.tmp 11)) 22,
  op 3 (.assign (.tmp 12)) 22]
def F25.r2 : List Oper := [
  op 13 (.move (.tmp 0)) 22,
  op 14 (.nilCheck (.tmp 13)) 0,
  op 15 (.fieldAddr 88 (.tmp 14) 1) 0,
  od 16 (.load 86 (.tmp 15)) 86,
  oc 17 (.range 86 (.tmp 16)) 0]
def F25.r3 : List Oper := [
  oc 18 (.next (.tmp 17) false) 0,
  op 19 (.extract (.tmp 18) 0) 4]
def F25.r4 : List Oper := [
  od 20 (.entry (.tmp 17)) 0,
  op 21 (.extract (.tmp 20) 0) 35,
  op 22 (.extract (.tmp 20) 1) 43,
  oc 5 (.alloc 43) 0,
  op 4 (.assign (.tmp 21)) 35,
  ⟨none, (.store 43 (.tmp 5) (.tmp 22)), 0, "", #[⟨0, .chain⟩], none⟩]
def F25.r5 : List Oper := [
  ⟨(some 23), (.move (.tmp 3)), 22, "", #[], none⟩,
  ⟨(some 24), (.nilCheck (.tmp 23)), 0, "", #[], none⟩,
  ⟨(some 25), (.fieldAddr 88 (.tmp 24) 1), 0, "", #[], none⟩,
  ⟨(some 27), (.move (.tmp 4)), 35, "", #[], none⟩,
  ⟨(some 26), (.load 86 (.tmp 25)), 86, "", #[⟨128, .data⟩], none⟩,
  ⟨(some 28), (.load 43 (.tmp 5)), 43, "", #[⟨192, .data⟩], none⟩,
  ⟨(some 29), (.call ⟨(.value (.func 41)), #[(.tmp 28)], #[43]⟩), 43, "", #[⟨6, .chain⟩], none⟩,
  ⟨none, (.mapUpdate 86 (.tmp 26) (.tmp 27) (.tmp 29)), 0, "", #[⟨7, .chain⟩], none⟩]
def F25.r6 : List Oper := [
  op 30 (.move (.tmp 3)) 22,
  op 2 (.assign (.tmp 30)) 22]
def F25.t4 : Cd := (.block 1 (.seq (.region 4 F25.r4.toArray false) (.region 5 F25.r5.toArray true)))
theorem F25.t4_eq {θ : Tag (F25.t4, Q, e, w)} : cwE P F25.t4 Q e w θ = cwE P (.block 1 (.seq (.region 4 F25.r4.toArray false) (.region 5 F25.r5.toArray true))) Q e w := rfl
def F25.t6 : Cd := (.seq (.region 6 F25.r6.toArray false) .ret)
theorem F25.t6_eq {θ : Tag (F25.t6, Q, e, w)} : cwE P F25.t6 Q e w θ = cwE P (.seq (.region 6 F25.r6.toArray false) .ret) Q e w := rfl
def F25.code : Cd := (.seq (.region 0 F25.r0.toArray false) (.seq (.region 1 F25.r1.toArray false) (.seq (.seq (.region 2 F25.r2.toArray false) (.block 0 (.loop (.seq (.region 3 F25.r3.toArray false) (.seq (.cond (.tmp 19) .skip (.exit 0)) F25.t4))))) F25.t6)))
theorem F25.calls (hn : args.size ≤ 31) (h : cwE Try.prog F25.code (fnP Try.prog #[(.tmp 2)] R) (entry args) w) : Calls Try.prog 25 args w R :=
  calls_of_cwE (types := Try.prog.types) follows Try.func25 F25.code rfl (by kernel_rfl) hn h
def F26.r0 : List Oper := [
  op 2 (.assign (.const (.pointer none))) 61]
def F26.r1 : List Oper := [
  ⟨(some 3), (.move (.tmp 0)), 61, "", #[], none⟩,
  ⟨(some 4), (.nilCheck (.tmp 3)), 0, "", #[], none⟩,
  ⟨(some 5), (.fieldAddr 94 (.tmp 4) 0), 0, "", #[], none⟩,
  ⟨(some 7), (.move (.tmp 0)), 61, "", #[], none⟩,
  ⟨(some 6), (.load 3 (.tmp 5)), 3, "", #[⟨128, .data⟩], none⟩,
  ⟨(some 8), (.call ⟨(.value (.func 50)), #[(.tmp 7)], #[61]⟩), 28, "", #[⟨5, .chain⟩], none⟩,
  ⟨(some 9), (.build 94 #[(0, (.tmp 6)), (1, (.tmp 8))]), 94, "", #[], none⟩,
  ⟨(some 10), (.box 94 (.tmp 9)), 61, "", #[⟨7, .chain⟩], none⟩,
  ⟨(some 2), (.assign (.tmp 10)), 61, "", #[], none⟩]
def F26.code : Cd := (.seq (.region 0 F26.r0.toArray false) (.seq (.region 1 F26.r1.toArray true) .ret))
theorem F26.calls (hn : args.size ≤ 11) (h : cwE Try.prog F26.code (fnP Try.prog #[(.tmp 2)] R) (entry args) w) : Calls Try.prog 26 args w R :=
  calls_of_cwE (types := Try.prog.types) follows Try.func26 F26.code rfl (by kernel_rfl) hn h
def F27.r0 : List Oper := [
  op 4 (.assign (.const (.bool false))) 4]
def F27.r1 : List Oper := [
  op 9 (.move (.tmp 0)) 70,
  op 10 (.nilCheck (.tmp 9)) 0,
  op 11 (.fieldAddr 72 (.tmp 10) 0) 0,
  od 12 (.load 22 (.tmp 11)) 22,
  oc 13 (.call ⟨(.value (.func 25)), #[(.tmp 12)], #[22]⟩) 22,
  op 5 (.assign (.tmp 13)) 22]
def F27.r2 : List Oper := [
  op 14 (.move (.tmp 5)) 22,
  op 15 (.binOp .eql 22 (.tmp 14) (.const (.pointer none)) 22) 4]
def F27.r3 : List Oper := [
  op 4 (.assign (.const (.bool false))) 4]
def F27.r4 : List Oper := [
  op 16 (.move (.tmp 0)) 70,
  op 17 (.nilCheck (.tmp 16)) 0,
  op 18 (.fieldAddr 72 (.tmp 17) 0) 0,
  od 19 (.load 22 (.tmp 18)) 22,
  oc 20 (.call ⟨(.value (.func 14)), #[(.tmp 19)], #[22]⟩) 3,
  op 6 (.assign (.tmp 20)) 3]
def F27.r5 : List Oper := [
  op 21 (.move (.tmp 5)) 22,
  oc 22 (.call ⟨(.value (.func 21)), #[(.tmp 21)], #[22]⟩) 28,
  op 7 (.assign (.tmp 22)) 28]
def F27.r6 : List Oper := [
  op 23 (.move (.tmp 1)) 64,
  op 24 (.move (.tmp 7)) 28,
  op 25 (.move (.tmp 0)) 70,
  op 26 (.nilCheck (.tmp 25)) 0,
  op 27 (.fieldAddr 72 (.tmp 26) 1) 0,
  od 28 (.load 61 (.tmp 27)) 61,
  oc 29 (.call ⟨(.value (.func 50)), #[(.tmp 28)], #[61]⟩) 28,
  oc 30 (.call ⟨(.value (.func 47)), #[(.tmp 23), (.tmp 24), (.tmp 29)], #[64, 28, 28]⟩) 4,
  op 8 (.assign (.tmp 30)) 4]
def F27.r7 : List Oper := [
  op 31 (.move (.tmp 8)) 4,
  op 32 (.move (.tmp 31)) 4,
  og 33 (.move (.tmp 6)) 3 32 true,
  og 34 (.move (.tmp 0)) 70 32 true,
  og 35 (.nilCheck (.tmp 34)) 0 32 true,
  og 36 (.fieldAddr 72 (.tmp 35) 1) 0 32 true,
  ⟨(some 37), (.load 61 (.tmp 36)), 61, "", #[⟨0, .data⟩], (some (32, true))⟩,
  ⟨(some 38), (.call ⟨(.value (.func 51)), #[(.tmp 37)], #[61]⟩), 3, "", #[⟨0, .chain⟩], (some (32, true))⟩,
  og 39 (.binOp .eql 3 (.tmp 33) (.tmp 38) 3) 4 32 true,
  op 40 (.pick (.tmp 32) (.tmp 39) (.const (.bool false))) 4,
  op 4 (.assign (.tmp 40)) 4]
def F27.t4 : Cd := (.seq (.region 4 F27.r4.toArray false) (.seq (.region 5 F27.r5.toArray false) (.seq (.region 6 F27.r6.toArray false) (.seq (.region 7 F27.r7.toArray false) .ret))))
theorem F27.t4_eq {θ : Tag (F27.t4, Q, e, w)} : cwE P F27.t4 Q e w θ = cwE P (.seq (.region 4 F27.r4.toArray false) (.seq (.region 5 F27.r5.toArray false) (.seq (.region 6 F27.r6.toArray false) (.seq (.region 7 F27.r7.toArray false) .ret)))) Q e w := rfl
def F27.code : Cd := (.seq (.region 0 F27.r0.toArray false) (.seq (.region 1 F27.r1.toArray false) (.seq (.seq (.region 2 F27.r2.toArray false) (.cond (.tmp 15) (.seq (.region 3 F27.r3.toArray false) .ret) .skip)) F27.t4)))
theorem F27.calls (hn : args.size ≤ 41) (h : cwE Try.prog F27.code (fnP Try.prog #[(.tmp 4)] R) (entry args) w) : Calls Try.prog 27 args w R :=
  calls_of_cwE (types := Try.prog.types) follows Try.func27 F27.code rfl (by kernel_rfl) hn h
def F28.r0 : List Oper := [
  op 4 (.assign (.const (.bool false))) 4]
def F28.r1 : List Oper := [
  op 8 (.build 45 #[(0, (.const (.int .i64 10)))]) 45,
  oc 9 (.call ⟨(.value (.func 52)), #[(.const (.string { data := #[97, 98, 99] }))], #[9]⟩) 43,
  op 10 (.build 45 #[(0, (.const (.int .i64 2))), (1, (.const (.int .u32 9))), (3, (.tmp 9))]) 45,
  op 11 (.build 45 #[(0, (.const (.int .i64 1))), (1, (.const (.int .u32 9)))]) 45,
  oc 12 (.call ⟨(.value (.func 52)), #[(.const (.string { data := #[100, 101, 102, 103] }))], #[9]⟩) 43,
  op 13 (.build 45 #[(0, (.const (.int .i64 3))), (1, (.const (.int .u32 9))), (3, (.tmp 12))]) 45,
  op 14 (.build 45 #[(0, (.const (.int .i64 1))), (1, (.const (.int .u32 9)))]) 45,
  oc 15 (.buildSlice 25 5 #[(0, (.tmp 8)), (1, (.tmp 10)), (2, (.tmp 11)), (3, (.tmp 13)), (4, (.tmp 14))]) 25,
  op 5 (.assign (.tmp 15)) 25]
def F28.r2 : List Oper := [
  op 6 (.assign (.const (.int .i64 0))) 3]
def F28.r3 : List Oper := [
  op 16 (.move (.tmp 6)) 3,
  op 17 (.move (.tmp 5)) 25,
  op 18 (.call ⟨(.builtin .len), #[(.tmp 17)], #[25]⟩) 3,
  op 19 (.binOp .lss 3 (.tmp 16) (.tmp 18) 3) 4]
def F28.r5 : List Oper := [
  op 22 (.move (.tmp 0)) 70,
  op 23 (.move (.tmp 5)) 25,
  op 24 (.move (.tmp 6)) 3,
  op 25 (.indexAddr 25 (.tmp 23) (.tmp 24)) 0,
  od 26 (.load 45 (.tmp 25)) 45,
  op 27 (.move (.tmp 1)) 64,
  oc 28 (.call ⟨(.value (.func 24)), #[(.tmp 22), (.tmp 26), (.tmp 27)], #[70, 45, 64]⟩) 4,
  op 7 (.assign (.tmp 28)) 4]
def F28.r6 : List Oper := [
  op 29 (.move (.tmp 7)) 4,
  op 30 (.unOp .not 4 (.tmp 29)) 4]
def F28.r7 : List Oper := [
  op 4 (.assign (.const (.bool false))) 4]
def F28.r4 : List Oper := [
  op 20 (.move (.tmp 6)) 3,
  op 21 (.binOp .add 3 (.tmp 20) (.const (.int .i64 1)) 3) 3,
  op 6 (.assign (.tmp 21)) 3]
def F28.r8 : List Oper := [
  op 31 (.move (.tmp 0)) 70,
  op 32 (.move (.tmp 1)) 64,
  oc 33 (.call ⟨(.value (.func 27)), #[(.tmp 31), (.tmp 32)], #[70, 64]⟩) 4,
  op 4 (.assign (.tmp 33)) 4]
def F28.t4 : Cd := (.region 4 F28.r4.toArray false)
theorem F28.t4_eq {θ : Tag (F28.t4, Q, e, w)} : cwE P F28.t4 Q e w θ = cwE P (.region 4 F28.r4.toArray false) Q e w := rfl
def F28.t5 : Cd := (.seq (.block 1 (.seq (.region 5 F28.r5.toArray false) (.seq (.region 6 F28.r6.toArray false) (.cond (.tmp 30) (.seq (.region 7 F28.r7.toArray false) .ret) .skip)))) F28.t4)
theorem F28.t5_eq {θ : Tag (F28.t5, Q, e, w)} : cwE P F28.t5 Q e w θ = cwE P (.seq (.block 1 (.seq (.region 5 F28.r5.toArray false) (.seq (.region 6 F28.r6.toArray false) (.cond (.tmp 30) (.seq (.region 7 F28.r7.toArray false) .ret) .skip)))) F28.t4) Q e w := rfl
def F28.t8 : Cd := (.seq (.region 8 F28.r8.toArray false) .ret)
theorem F28.t8_eq {θ : Tag (F28.t8, Q, e, w)} : cwE P F28.t8 Q e w θ = cwE P (.seq (.region 8 F28.r8.toArray false) .ret) Q e w := rfl
def F28.code : Cd := (.seq (.region 0 F28.r0.toArray false) (.seq (.region 1 F28.r1.toArray false) (.seq (.seq (.region 2 F28.r2.toArray false) (.block 0 (.loop (.seq (.seq (.region 3 F28.r3.toArray false) (.cond (.tmp 19) .skip (.exit 0))) F28.t5)))) F28.t8)))
theorem F28.calls (hn : args.size ≤ 34) (h : cwE Try.prog F28.code (fnP Try.prog #[(.tmp 4)] R) (entry args) w) : Calls Try.prog 28 args w R :=
  calls_of_cwE (types := Try.prog.types) follows Try.func28 F28.code rfl (by kernel_rfl) hn h
def F29.r0 : List Oper := [
  op 2 (.assign (.const (.bool false))) 4]
def F29.r1 : List Oper := [
  op 13 (.move (.tmp 0)) 64,
  oc 14 (.call ⟨(.value (.func 53)), #[(.tmp 13)], #[64]⟩) 4,
  op 3 (.assign (.tmp 14)) 4]
def F29.r2 : List Oper := [
  op 15 (.move (.tmp 3)) 4,
  op 16 (.unOp .not 4 (.tmp 15)) 4]
def F29.r3 : List Oper := [
  op 2 (.assign (.const (.bool false))) 4]
def F29.r4 : List Oper := [
  op 4 (.assign (.const (.int .i64 0))) 3]
def F29.r5 : List Oper := [
  op 17 (.move (.tmp 4)) 3,
  op 18 (.move (.tmp 0)) 64,
  op 19 (.nilCheck (.tmp 18)) 0,
  op 20 (.fieldAddr 69 (.tmp 19) 2) 0,
  od 21 (.load 66 (.tmp 20)) 66,
  op 22 (.call ⟨(.builtin .len), #[(.tmp 21)], #[66]⟩) 3,
  op 23 (.binOp .lss 3 (.tmp 17) (.tmp 22) 3) 4]
def F29.r7 : List Oper := [
  op 5 (.assign (.const (.int .i64 0))) 3]
def F29.r8 : List Oper := [
  op 26 (.move (.tmp 5)) 3,
  op 27 (.move (.tmp 0)) 64,
  op 28 (.nilCheck (.tmp 27)) 0,
  op 29 (.fieldAddr 69 (.tmp 28) 2) 0,
  od 30 (.load 66 (.tmp 29)) 66,
  op 31 (.move (.tmp 4)) 3,
  op 32 (.indexAddr 66 (.tmp 30) (.tmp 31)) 0,
  od 33 (.load 28 (.tmp 32)) 28,
  op 34 (.call ⟨(.builtin .len), #[(.tmp 33)], #[28]⟩) 3,
  op 35 (.binOp .lss 3 (.tmp 26) (.tmp 34) 3) 4]
def F29.r10 : List Oper := [
  op 38 (.move (.tmp 0)) 64,
  op 39 (.nilCheck (.tmp 38)) 0,
  op 40 (.fieldAddr 69 (.tmp 39) 2) 0,
  od 41 (.load 66 (.tmp 40)) 66,
  op 42 (.move (.tmp 4)) 3,
  op 43 (.indexAddr 66 (.tmp 41) (.tmp 42)) 0,
  od 44 (.load 28 (.tmp 43)) 28,
  op 45 (.move (.tmp 5)) 3,
  op 46 (.move (.tmp 4)) 3,
  op 47 (.convert 3 35 (.tmp 46)) 35,
  op 48 (.build 48 #[(0, (.tmp 47))]) 48,
  op 49 (.indexAddr 28 (.tmp 44) (.tmp 45)) 0,
  ⟨none, (.store 48 (.tmp 49) (.tmp 48)), 0, "", #[⟨0, .chain⟩], none⟩]
def F29.r9 : List Oper := [
  op 36 (.move (.tmp 5)) 3,
  op 37 (.binOp .add 3 (.tmp 36) (.const (.int .i64 1)) 3) 3,
  op 5 (.assign (.tmp 37)) 3]
def F29.r6 : List Oper := [
  op 24 (.move (.tmp 4)) 3,
  op 25 (.binOp .add 3 (.tmp 24) (.const (.int .i64 1)) 3) 3,
  op 4 (.assign (.tmp 25)) 3]
def F29.r11 : List Oper := [
  op 6 (.assign (.const (.int .i64 0))) 3]
def F29.r12 : List Oper := [
  op 50 (.move (.tmp 6)) 3,
  op 51 (.move (.tmp 0)) 64,
  op 52 (.nilCheck (.tmp 51)) 0,
  op 53 (.fieldAddr 69 (.tmp 52) 0) 0,
  od 54 (.load 65 (.tmp 53)) 65,
  op 55 (.call ⟨(.builtin .len), #[(.tmp 54)], #[65]⟩) 3,
  op 56 (.binOp .lss 3 (.tmp 50) (.tmp 55) 3) 4]
def F29.r14 : List Oper := [
  op 7 (.assign (.const (.int .i64 0))) 3]
def F29.r15 : List Oper := [
  op 59 (.move (.tmp 7)) 3,
  op 60 (.move (.tmp 0)) 64,
  op 61 (.nilCheck (.tmp 60)) 0,
  op 62 (.fieldAddr 69 (.tmp 61) 0) 0,
  od 63 (.load 65 (.tmp 62)) 65,
  op 64 (.move (.tmp 6)) 3,
  op 65 (.indexAddr 65 (.tmp 63) (.tmp 64)) 0,
  od 66 (.load 39 (.tmp 65)) 39,
  op 67 (.call ⟨(.builtin .len), #[(.tmp 66)], #[39]⟩) 3,
  op 68 (.binOp .lss 3 (.tmp 59) (.tmp 67) 3) 4]
def F29.r17 : List Oper := [
  op 71 (.move (.tmp 0)) 64,
  op 72 (.nilCheck (.tmp 71)) 0,
  op 73 (.fieldAddr 69 (.tmp 72) 0) 0,
  od 74 (.load 65 (.tmp 73)) 65,
  op 75 (.move (.tmp 6)) 3,
  op 76 (.indexAddr 65 (.tmp 74) (.tmp 75)) 0,
  od 77 (.load 39 (.tmp 76)) 39,
  op 78 (.move (.tmp 7)) 3,
  op 79 (.move (.tmp 6)) 3,
  op 80 (.move (.tmp 7)) 3,
  op 81 (.binOp .add 3 (.tmp 79) (.tmp 80) 3) 3,
  op 82 (.convert 3 5 (.tmp 81)) 5,
  op 83 (.indexAddr 39 (.tmp 77) (.tmp 78)) 0,
  ⟨none, (.store 5 (.tmp 83) (.tmp 82)), 0, "", #[⟨0, .chain⟩], none⟩]
def F29.r18 : List Oper := [
  op 84 (.move (.tmp 0)) 64,
  op 85 (.nilCheck (.tmp 84)) 0,
  op 86 (.fieldAddr 69 (.tmp 85) 1) 0,
  od 87 (.load 65 (.tmp 86)) 65,
  op 88 (.move (.tmp 6)) 3,
  op 89 (.indexAddr 65 (.tmp 87) (.tmp 88)) 0,
  od 90 (.load 39 (.tmp 89)) 39,
  op 91 (.move (.tmp 7)) 3,
  op 92 (.move (.tmp 6)) 3,
  op 93 (.move (.tmp 7)) 3,
  op 94 (.binOp .add 3 (.tmp 92) (.tmp 93) 3) 3,
  op 95 (.convert 3 5 (.tmp 94)) 5,
  op 96 (.indexAddr 39 (.tmp 90) (.tmp 91)) 0,
  ⟨none, (.store 5 (.tmp 96) (.tmp 95)), 0, "", #[⟨0, .chain⟩], none⟩]
def F29.r16 : List Oper := [
  op 69 (.move (.tmp 7)) 3,
  op 70 (.binOp .add 3 (.tmp 69) (.const (.int .i64 1)) 3) 3,
  op 7 (.assign (.tmp 70)) 3]
def F29.r13 : List Oper := [
  op 57 (.move (.tmp 6)) 3,
  op 58 (.binOp .add 3 (.tmp 57) (.const (.int .i64 1)) 3) 3,
  op 6 (.assign (.tmp 58)) 3]
def F29.r19 : List Oper := [
  op 8 (.assign (.const (.int .i64 0))) 3]
def F29.r20 : List Oper := [
  op 97 (.move (.tmp 8)) 3,
  op 98 (.binOp .lss 3 (.tmp 97) (.const (.int .i64 40)) 3) 4]
def F29.r22 : List Oper := [
  op 9 (.assign (.const (.int .i64 0))) 3]
def F29.r23 : List Oper := [
  op 101 (.move (.tmp 9)) 3,
  op 102 (.move (.tmp 0)) 64,
  op 103 (.nilCheck (.tmp 102)) 0,
  op 104 (.fieldAddr 69 (.tmp 103) 0) 0,
  od 105 (.load 65 (.tmp 104)) 65,
  op 106 (.call ⟨(.builtin .len), #[(.tmp 105)], #[65]⟩) 3,
  op 107 (.binOp .lss 3 (.tmp 101) (.tmp 106) 3) 4]
def F29.r25 : List Oper := [
  ⟨(some 110), (.move (.tmp 0)), 64, "", #[], none⟩,
  ⟨(some 111), (.nilCheck (.tmp 110)), 0, "", #[], none⟩,
  ⟨(some 112), (.fieldAddr 69 (.tmp 111) 0), 0, "", #[], none⟩,
  ⟨(some 114), (.move (.tmp 9)), 3, "", #[], none⟩,
  ⟨(some 115), (.move (.tmp 0)), 64, "", #[], none⟩,
  ⟨(some 116), (.nilCheck (.tmp 115)), 0, "", #[], none⟩,
  ⟨(some 117), (.fieldAddr 69 (.tmp 116) 0), 0, "", #[], none⟩,
  ⟨(some 119), (.move (.tmp 9)), 3, "", #[], none⟩,
  ⟨(some 122), (.move (.tmp 9)), 3, "", #[], none⟩,
  ⟨(some 123), (.binOp .mul 3 (.const (.int .i64 7)) (.tmp 122) 3), 3, "", #[], none⟩,
  ⟨(some 124), (.move (.tmp 8)), 3, "", #[], none⟩,
  ⟨(some 125), (.binOp .add 3 (.tmp 123) (.tmp 124) 3), 3, "", #[], none⟩,
  ⟨(some 126), (.convert 3 5 (.tmp 125)), 5, "", #[], none⟩,
  ⟨(some 113), (.load 65 (.tmp 112)), 65, "", #[⟨1048576, .data⟩], none⟩,
  ⟨(some 118), (.load 65 (.tmp 117)), 65, "", #[⟨1310720, .data⟩], none⟩,
  ⟨(some 120), (.indexAddr 65 (.tmp 118) (.tmp 119)), 0, "", #[], none⟩,
  ⟨(some 121), (.load 39 (.tmp 120)), 39, "", #[⟨1310720, .data⟩], none⟩,
  ⟨(some 127), (.buildSlice 39 1 #[(0, (.tmp 126))]), 39, "", #[⟨17, .chain⟩], none⟩,
  ⟨(some 128), (.call ⟨(.builtin .append), #[(.tmp 121), (.tmp 127)], #[39, 39]⟩), 39, "", #[⟨18, .chain⟩], none⟩,
  ⟨(some 129), (.indexAddr 65 (.tmp 113) (.tmp 114)), 0, "", #[], none⟩,
  ⟨none, (.store 39 (.tmp 129) (.tmp 128)), 0, "", #[⟨20, .chain⟩], none⟩]
def F29.r26 : List Oper := [
  ⟨(some 130), (.move (.tmp 0)), 64, "", #[], none⟩,
  ⟨(some 131), (.nilCheck (.tmp 130)), 0, "", #[], none⟩,
  ⟨(some 132), (.fieldAddr 69 (.tmp 131) 1), 0, "", #[], none⟩,
  ⟨(some 134), (.move (.tmp 9)), 3, "", #[], none⟩,
  ⟨(some 135), (.move (.tmp 0)), 64, "", #[], none⟩,
  ⟨(some 136), (.nilCheck (.tmp 135)), 0, "", #[], none⟩,
  ⟨(some 137), (.fieldAddr 69 (.tmp 136) 1), 0, "", #[], none⟩,
  ⟨(some 139), (.move (.tmp 9)), 3, "", #[], none⟩,
  ⟨(some 142), (.move (.tmp 9)), 3, "", #[], none⟩,
  ⟨(some 143), (.binOp .mul 3 (.const (.int .i64 7)) (.tmp 142) 3), 3, "", #[], none⟩,
  ⟨(some 144), (.move (.tmp 8)), 3, "", #[], none⟩,
  ⟨(some 145), (.binOp .add 3 (.tmp 143) (.tmp 144) 3), 3, "", #[], none⟩,
  ⟨(some 146), (.convert 3 5 (.tmp 145)), 5, "", #[], none⟩,
  ⟨(some 133), (.load 65 (.tmp 132)), 65, "", #[⟨1048576, .data⟩], none⟩,
  ⟨(some 138), (.load 65 (.tmp 137)), 65, "", #[⟨1310720, .data⟩], none⟩,
  ⟨(some 140), (.indexAddr 65 (.tmp 138) (.tmp 139)), 0, "", #[], none⟩,
  ⟨(some 141), (.load 39 (.tmp 140)), 39, "", #[⟨1310720, .data⟩], none⟩,
  ⟨(some 147), (.buildSlice 39 1 #[(0, (.tmp 146))]), 39, "", #[⟨17, .chain⟩], none⟩,
  ⟨(some 148), (.call ⟨(.builtin .append), #[(.tmp 141), (.tmp 147)], #[39, 39]⟩), 39, "", #[⟨18, .chain⟩], none⟩,
  ⟨(some 149), (.indexAddr 65 (.tmp 133) (.tmp 134)), 0, "", #[], none⟩,
  ⟨none, (.store 39 (.tmp 149) (.tmp 148)), 0, "", #[⟨20, .chain⟩], none⟩]
def F29.r24 : List Oper := [
  op 108 (.move (.tmp 9)) 3,
  op 109 (.binOp .add 3 (.tmp 108) (.const (.int .i64 1)) 3) 3,
  op 9 (.assign (.tmp 109)) 3]
def F29.r27 : List Oper := [
  op 10 (.assign (.const (.int .i64 0))) 3]
def F29.r28 : List Oper := [
  op 150 (.move (.tmp 10)) 3,
  op 151 (.move (.tmp 0)) 64,
  op 152 (.nilCheck (.tmp 151)) 0,
  op 153 (.fieldAddr 69 (.tmp 152) 2) 0,
  od 154 (.load 66 (.tmp 153)) 66,
  op 155 (.call ⟨(.builtin .len), #[(.tmp 154)], #[66]⟩) 3,
  op 156 (.binOp .lss 3 (.tmp 150) (.tmp 155) 3) 4]
def F29.r30 : List Oper := [
  ⟨(some 159), (.move (.tmp 0)), 64, "", #[], none⟩,
  ⟨(some 160), (.nilCheck (.tmp 159)), 0, "", #[], none⟩,
  ⟨(some 161), (.fieldAddr 69 (.tmp 160) 2), 0, "", #[], none⟩,
  ⟨(some 163), (.move (.tmp 10)), 3, "", #[], none⟩,
  ⟨(some 164), (.move (.tmp 0)), 64, "", #[], none⟩,
  ⟨(some 165), (.nilCheck (.tmp 164)), 0, "", #[], none⟩,
  ⟨(some 166), (.fieldAddr 69 (.tmp 165) 2), 0, "", #[], none⟩,
  ⟨(some 168), (.move (.tmp 10)), 3, "", #[], none⟩,
  ⟨(some 171), (.move (.tmp 10)), 3, "", #[], none⟩,
  ⟨(some 172), (.convert 3 35 (.tmp 171)), 35, "", #[], none⟩,
  ⟨(some 173), (.build 48 #[(0, (.tmp 172))]), 48, "", #[], none⟩,
  ⟨(some 162), (.load 66 (.tmp 161)), 66, "", #[⟨262144, .data⟩], none⟩,
  ⟨(some 167), (.load 66 (.tmp 166)), 66, "", #[⟨327680, .data⟩], none⟩,
  ⟨(some 169), (.indexAddr 66 (.tmp 167) (.tmp 168)), 0, "", #[], none⟩,
  ⟨(some 170), (.load 28 (.tmp 169)), 28, "", #[⟨327680, .data⟩], none⟩,
  ⟨(some 174), (.buildSlice 28 1 #[(0, (.tmp 173))]), 28, "", #[⟨15, .chain⟩], none⟩,
  ⟨(some 175), (.call ⟨(.builtin .append), #[(.tmp 170), (.tmp 174)], #[28, 28]⟩), 28, "", #[⟨16, .chain⟩], none⟩,
  ⟨(some 176), (.indexAddr 66 (.tmp 162) (.tmp 163)), 0, "", #[], none⟩,
  ⟨none, (.store 28 (.tmp 176) (.tmp 175)), 0, "", #[⟨18, .chain⟩], none⟩]
def F29.r29 : List Oper := [
  op 157 (.move (.tmp 10)) 3,
  op 158 (.binOp .add 3 (.tmp 157) (.const (.int .i64 1)) 3) 3,
  op 10 (.assign (.tmp 158)) 3]
def F29.r21 : List Oper := [
  op 99 (.move (.tmp 8)) 3,
  op 100 (.binOp .add 3 (.tmp 99) (.const (.int .i64 1)) 3) 3,
  op 8 (.assign (.tmp 100)) 3]
def F29.r31 : List Oper := [
  op 11 (.assign (.const (.int .i64 0))) 3]
def F29.r32 : List Oper := [
  op 177 (.move (.tmp 11)) 3,
  op 178 (.move (.tmp 0)) 64,
  op 179 (.nilCheck (.tmp 178)) 0,
  op 180 (.fieldAddr 69 (.tmp 179) 2) 0,
  od 181 (.load 66 (.tmp 180)) 66,
  op 182 (.call ⟨(.builtin .len), #[(.tmp 181)], #[66]⟩) 3,
  op 183 (.binOp .lss 3 (.tmp 177) (.tmp 182) 3) 4]
def F29.r34 : List Oper := [
  op 12 (.assign (.const (.int .i64 0))) 3]
def F29.r35 : List Oper := [
  op 186 (.move (.tmp 12)) 3,
  op 187 (.move (.tmp 0)) 64,
  op 188 (.nilCheck (.tmp 187)) 0,
  op 189 (.fieldAddr 69 (.tmp 188) 2) 0,
  od 190 (.load 66 (.tmp 189)) 66,
  op 191 (.move (.tmp 11)) 3,
  op 192 (.indexAddr 66 (.tmp 190) (.tmp 191)) 0,
  od 193 (.load 28 (.tmp 192)) 28,
  op 194 (.call ⟨(.builtin .len), #[(.tmp 193)], #[28]⟩) 3,
  op 195 (.binOp .lss 3 (.tmp 186) (.tmp 194) 3) 4]
def F29.r37 : List Oper := [
  op 198 (.move (.tmp 0)) 64,
  op 199 (.nilCheck (.tmp 198)) 0,
  op 200 (.fieldAddr 69 (.tmp 199) 2) 0,
  od 201 (.load 66 (.tmp 200)) 66,
  op 202 (.move (.tmp 11)) 3,
  op 203 (.indexAddr 66 (.tmp 201) (.tmp 202)) 0,
  od 204 (.load 28 (.tmp 203)) 28,
  op 205 (.move (.tmp 12)) 3,
  op 206 (.indexAddr 28 (.tmp 204) (.tmp 205)) 0,
  op 207 (.fieldAddr 48 (.tmp 206) 0) 0,
  od 208 (.load 35 (.tmp 207)) 35,
  op 209 (.move (.tmp 11)) 3,
  op 210 (.convert 3 35 (.tmp 209)) 35,
  op 211 (.binOp .neq 35 (.tmp 208) (.tmp 210) 35) 4,
  op 212 (.move (.tmp 211)) 4,
  og 213 (.move (.tmp 0)) 64 212 false,
  og 214 (.nilCheck (.tmp 213)) 0 212 false,
  og 215 (.fieldAddr 69 (.tmp 214) 2) 0 212 false,
  ⟨(some 216), (.load 66 (.tmp 215)), 66, "", #[⟨0, .data⟩], (some (212, false))⟩,
  og 217 (.move (.tmp 11)) 3 212 false,
  og 218 (.indexAddr 66 (.tmp 216) (.tmp 217)) 0 212 false,
  ⟨(some 219), (.load 28 (.tmp 218)), 28, "", #[⟨0, .data⟩], (some (212, false))⟩,
  og 220 (.move (.tmp 12)) 3 212 false,
  og 221 (.indexAddr 28 (.tmp 219) (.tmp 220)) 0 212 false,
  og 222 (.fieldAddr 48 (.tmp 221) 1) 0 212 false,
  og 223 (.fieldAddr 43 (.tmp 222) 0) 0 212 false,
  ⟨(some 224), (.load 36 (.tmp 223)), 36, "", #[⟨0, .data⟩], (some (212, false))⟩,
  og 225 (.binOp .neq 36 (.tmp 224) (.const (.int .u8 0)) 36) 4 212 false,
  op 226 (.pick (.tmp 212) (.const (.bool true)) (.tmp 225)) 4]
def F29.r38 : List Oper := [
  op 2 (.assign (.const (.bool false))) 4]
def F29.r36 : List Oper := [
  op 196 (.move (.tmp 12)) 3,
  op 197 (.binOp .add 3 (.tmp 196) (.const (.int .i64 1)) 3) 3,
  op 12 (.assign (.tmp 197)) 3]
def F29.r33 : List Oper := [
  op 184 (.move (.tmp 11)) 3,
  op 185 (.binOp .add 3 (.tmp 184) (.const (.int .i64 1)) 3) 3,
  op 11 (.assign (.tmp 185)) 3]
def F29.r39 : List Oper := [
  op 227 (.move (.tmp 0)) 64,
  oc 228 (.call ⟨(.value (.func 53)), #[(.tmp 227)], #[64]⟩) 4,
  op 2 (.assign (.tmp 228)) 4]
def F29.t9 : Cd := (.region 9 F29.r9.toArray false)
theorem F29.t9_eq {θ : Tag (F29.t9, Q, e, w)} : cwE P F29.t9 Q e w θ = cwE P (.region 9 F29.r9.toArray false) Q e w := rfl
def F29.t10 : Cd := (.seq (.block 3 (.region 10 F29.r10.toArray false)) F29.t9)
theorem F29.t10_eq {θ : Tag (F29.t10, Q, e, w)} : cwE P F29.t10 Q e w θ = cwE P (.seq (.block 3 (.region 10 F29.r10.toArray false)) F29.t9) Q e w := rfl
def F29.t6 : Cd := (.region 6 F29.r6.toArray false)
theorem F29.t6_eq {θ : Tag (F29.t6, Q, e, w)} : cwE P F29.t6 Q e w θ = cwE P (.region 6 F29.r6.toArray false) Q e w := rfl
def F29.t7 : Cd := (.seq (.block 1 (.seq (.region 7 F29.r7.toArray false) (.block 2 (.loop (.seq (.seq (.region 8 F29.r8.toArray false) (.cond (.tmp 35) .skip (.exit 2))) F29.t10))))) F29.t6)
theorem F29.t7_eq {θ : Tag (F29.t7, Q, e, w)} : cwE P F29.t7 Q e w θ = cwE P (.seq (.block 1 (.seq (.region 7 F29.r7.toArray false) (.block 2 (.loop (.seq (.seq (.region 8 F29.r8.toArray false) (.cond (.tmp 35) .skip (.exit 2))) F29.t10))))) F29.t6) Q e w := rfl
def F29.t16 : Cd := (.region 16 F29.r16.toArray false)
theorem F29.t16_eq {θ : Tag (F29.t16, Q, e, w)} : cwE P F29.t16 Q e w θ = cwE P (.region 16 F29.r16.toArray false) Q e w := rfl
def F29.t17 : Cd := (.seq (.block 7 (.seq (.region 17 F29.r17.toArray false) (.region 18 F29.r18.toArray false))) F29.t16)
theorem F29.t17_eq {θ : Tag (F29.t17, Q, e, w)} : cwE P F29.t17 Q e w θ = cwE P (.seq (.block 7 (.seq (.region 17 F29.r17.toArray false) (.region 18 F29.r18.toArray false))) F29.t16) Q e w := rfl
def F29.t13 : Cd := (.region 13 F29.r13.toArray false)
theorem F29.t13_eq {θ : Tag (F29.t13, Q, e, w)} : cwE P F29.t13 Q e w θ = cwE P (.region 13 F29.r13.toArray false) Q e w := rfl
def F29.t14 : Cd := (.seq (.block 5 (.seq (.region 14 F29.r14.toArray false) (.block 6 (.loop (.seq (.seq (.region 15 F29.r15.toArray false) (.cond (.tmp 68) .skip (.exit 6))) F29.t17))))) F29.t13)
theorem F29.t14_eq {θ : Tag (F29.t14, Q, e, w)} : cwE P F29.t14 Q e w θ = cwE P (.seq (.block 5 (.seq (.region 14 F29.r14.toArray false) (.block 6 (.loop (.seq (.seq (.region 15 F29.r15.toArray false) (.cond (.tmp 68) .skip (.exit 6))) F29.t17))))) F29.t13) Q e w := rfl
def F29.t24 : Cd := (.region 24 F29.r24.toArray false)
theorem F29.t24_eq {θ : Tag (F29.t24, Q, e, w)} : cwE P F29.t24 Q e w θ = cwE P (.region 24 F29.r24.toArray false) Q e w := rfl
def F29.t25 : Cd := (.seq (.block 11 (.seq (.region 25 F29.r25.toArray true) (.region 26 F29.r26.toArray true))) F29.t24)
theorem F29.t25_eq {θ : Tag (F29.t25, Q, e, w)} : cwE P F29.t25 Q e w θ = cwE P (.seq (.block 11 (.seq (.region 25 F29.r25.toArray true) (.region 26 F29.r26.toArray true))) F29.t24) Q e w := rfl
def F29.t29 : Cd := (.region 29 F29.r29.toArray false)
theorem F29.t29_eq {θ : Tag (F29.t29, Q, e, w)} : cwE P F29.t29 Q e w θ = cwE P (.region 29 F29.r29.toArray false) Q e w := rfl
def F29.t30 : Cd := (.seq (.block 13 (.region 30 F29.r30.toArray true)) F29.t29)
theorem F29.t30_eq {θ : Tag (F29.t30, Q, e, w)} : cwE P F29.t30 Q e w θ = cwE P (.seq (.block 13 (.region 30 F29.r30.toArray true)) F29.t29) Q e w := rfl
def F29.t27 : Cd := (.seq (.region 27 F29.r27.toArray false) (.block 12 (.loop (.seq (.seq (.region 28 F29.r28.toArray false) (.cond (.tmp 156) .skip (.exit 12))) F29.t30))))
theorem F29.t27_eq {θ : Tag (F29.t27, Q, e, w)} : cwE P F29.t27 Q e w θ = cwE P (.seq (.region 27 F29.r27.toArray false) (.block 12 (.loop (.seq (.seq (.region 28 F29.r28.toArray false) (.cond (.tmp 156) .skip (.exit 12))) F29.t30)))) Q e w := rfl
def F29.t21 : Cd := (.region 21 F29.r21.toArray false)
theorem F29.t21_eq {θ : Tag (F29.t21, Q, e, w)} : cwE P F29.t21 Q e w θ = cwE P (.region 21 F29.r21.toArray false) Q e w := rfl
def F29.t22 : Cd := (.seq (.block 9 (.seq (.seq (.region 22 F29.r22.toArray false) (.block 10 (.loop (.seq (.seq (.region 23 F29.r23.toArray false) (.cond (.tmp 107) .skip (.exit 10))) F29.t25)))) F29.t27)) F29.t21)
theorem F29.t22_eq {θ : Tag (F29.t22, Q, e, w)} : cwE P F29.t22 Q e w θ = cwE P (.seq (.block 9 (.seq (.seq (.region 22 F29.r22.toArray false) (.block 10 (.loop (.seq (.seq (.region 23 F29.r23.toArray false) (.cond (.tmp 107) .skip (.exit 10))) F29.t25)))) F29.t27)) F29.t21) Q e w := rfl
def F29.t36 : Cd := (.region 36 F29.r36.toArray false)
theorem F29.t36_eq {θ : Tag (F29.t36, Q, e, w)} : cwE P F29.t36 Q e w θ = cwE P (.region 36 F29.r36.toArray false) Q e w := rfl
def F29.t37 : Cd := (.seq (.block 17 (.seq (.region 37 F29.r37.toArray false) (.cond (.tmp 226) (.seq (.region 38 F29.r38.toArray false) .ret) .skip))) F29.t36)
theorem F29.t37_eq {θ : Tag (F29.t37, Q, e, w)} : cwE P F29.t37 Q e w θ = cwE P (.seq (.block 17 (.seq (.region 37 F29.r37.toArray false) (.cond (.tmp 226) (.seq (.region 38 F29.r38.toArray false) .ret) .skip))) F29.t36) Q e w := rfl
def F29.t33 : Cd := (.region 33 F29.r33.toArray false)
theorem F29.t33_eq {θ : Tag (F29.t33, Q, e, w)} : cwE P F29.t33 Q e w θ = cwE P (.region 33 F29.r33.toArray false) Q e w := rfl
def F29.t34 : Cd := (.seq (.block 15 (.seq (.region 34 F29.r34.toArray false) (.block 16 (.loop (.seq (.seq (.region 35 F29.r35.toArray false) (.cond (.tmp 195) .skip (.exit 16))) F29.t37))))) F29.t33)
theorem F29.t34_eq {θ : Tag (F29.t34, Q, e, w)} : cwE P F29.t34 Q e w θ = cwE P (.seq (.block 15 (.seq (.region 34 F29.r34.toArray false) (.block 16 (.loop (.seq (.seq (.region 35 F29.r35.toArray false) (.cond (.tmp 195) .skip (.exit 16))) F29.t37))))) F29.t33) Q e w := rfl
def F29.t39 : Cd := (.seq (.region 39 F29.r39.toArray false) .ret)
theorem F29.t39_eq {θ : Tag (F29.t39, Q, e, w)} : cwE P F29.t39 Q e w θ = cwE P (.seq (.region 39 F29.r39.toArray false) .ret) Q e w := rfl
def F29.t31 : Cd := (.seq (.seq (.region 31 F29.r31.toArray false) (.block 14 (.loop (.seq (.seq (.region 32 F29.r32.toArray false) (.cond (.tmp 183) .skip (.exit 14))) F29.t34)))) F29.t39)
theorem F29.t31_eq {θ : Tag (F29.t31, Q, e, w)} : cwE P F29.t31 Q e w θ = cwE P (.seq (.seq (.region 31 F29.r31.toArray false) (.block 14 (.loop (.seq (.seq (.region 32 F29.r32.toArray false) (.cond (.tmp 183) .skip (.exit 14))) F29.t34)))) F29.t39) Q e w := rfl
def F29.t19 : Cd := (.seq (.seq (.region 19 F29.r19.toArray false) (.block 8 (.loop (.seq (.seq (.region 20 F29.r20.toArray false) (.cond (.tmp 98) .skip (.exit 8))) F29.t22)))) F29.t31)
theorem F29.t19_eq {θ : Tag (F29.t19, Q, e, w)} : cwE P F29.t19 Q e w θ = cwE P (.seq (.seq (.region 19 F29.r19.toArray false) (.block 8 (.loop (.seq (.seq (.region 20 F29.r20.toArray false) (.cond (.tmp 98) .skip (.exit 8))) F29.t22)))) F29.t31) Q e w := rfl
def F29.t11 : Cd := (.seq (.seq (.region 11 F29.r11.toArray false) (.block 4 (.loop (.seq (.seq (.region 12 F29.r12.toArray false) (.cond (.tmp 56) .skip (.exit 4))) F29.t14)))) F29.t19)
theorem F29.t11_eq {θ : Tag (F29.t11, Q, e, w)} : cwE P F29.t11 Q e w θ = cwE P (.seq (.seq (.region 11 F29.r11.toArray false) (.block 4 (.loop (.seq (.seq (.region 12 F29.r12.toArray false) (.cond (.tmp 56) .skip (.exit 4))) F29.t14)))) F29.t19) Q e w := rfl
def F29.t4 : Cd := (.seq (.seq (.region 4 F29.r4.toArray false) (.block 0 (.loop (.seq (.seq (.region 5 F29.r5.toArray false) (.cond (.tmp 23) .skip (.exit 0))) F29.t7)))) F29.t11)
theorem F29.t4_eq {θ : Tag (F29.t4, Q, e, w)} : cwE P F29.t4 Q e w θ = cwE P (.seq (.seq (.region 4 F29.r4.toArray false) (.block 0 (.loop (.seq (.seq (.region 5 F29.r5.toArray false) (.cond (.tmp 23) .skip (.exit 0))) F29.t7)))) F29.t11) Q e w := rfl
def F29.code : Cd := (.seq (.region 0 F29.r0.toArray false) (.seq (.region 1 F29.r1.toArray false) (.seq (.seq (.region 2 F29.r2.toArray false) (.cond (.tmp 16) (.seq (.region 3 F29.r3.toArray false) .ret) .skip)) F29.t4)))
theorem F29.calls (hn : args.size ≤ 229) (h : cwE Try.prog F29.code (fnP Try.prog #[(.tmp 2)] R) (entry args) w) : Calls Try.prog 29 args w R :=
  calls_of_cwE (types := Try.prog.types) follows Try.func29 F29.code rfl (by kernel_rfl) hn h
def F30.r0 : List Oper := [
  oc 4 (.alloc 43) 0,
  op 5 (.assign (.const (.int .i64 0))) 31]
def F30.r1 : List Oper := [
  op 9 (.move (.tmp 0)) 22,
  op 10 (.nilCheck (.tmp 9)) 0,
  op 11 (.fieldAddr 88 (.tmp 10) 1) 0,
  od 12 (.load 86 (.tmp 11)) 86,
  op 13 (.move (.tmp 1)) 35,
  od 14 (.lookup 86 (.tmp 12) (.tmp 13) true) 49,
  op 8 (.move (.tmp 14)) 49,
  op 15 (.extract (.tmp 8) 0) 43,
  op 16 (.extract (.tmp 8) 1) 4,
  oc 6 (.alloc 43) 0,
  ⟨none, (.store 43 (.tmp 6) (.tmp 15)), 0, "", #[⟨0, .chain⟩], none⟩,
  op 7 (.assign (.tmp 16)) 4]
def F30.r2 : List Oper := [
  op 17 (.move (.tmp 7)) 4,
  op 18 (.unOp .not 4 (.tmp 17)) 4]
def F30.r3 : List Oper := [
  op 19 (.build 43 #[]) 43,
  ⟨none, (.store 43 (.tmp 4) (.tmp 19)), 0, "", #[⟨0, .chain⟩], none⟩,
  op 5 (.assign (.const (.int .i64 100))) 31]
def F30.r4 : List Oper := [
  od 20 (.load 43 (.tmp 6)) 43,
  oc 21 (.call ⟨(.value (.func 41)), #[(.tmp 20)], #[43]⟩) 43,
  ⟨none, (.store 43 (.tmp 4) (.tmp 21)), 0, "", #[⟨0, .chain⟩], none⟩,
  op 5 (.assign (.const (.int .i64 0))) 31]
def F30.t4 : Cd := (.seq (.region 4 F30.r4.toArray false) .ret)
theorem F30.t4_eq {θ : Tag (F30.t4, Q, e, w)} : cwE P F30.t4 Q e w θ = cwE P (.seq (.region 4 F30.r4.toArray false) .ret) Q e w := rfl
def F30.code : Cd := (.seq (.region 0 F30.r0.toArray false) (.seq (.region 1 F30.r1.toArray false) (.seq (.seq (.region 2 F30.r2.toArray false) (.cond (.tmp 18) (.seq (.region 3 F30.r3.toArray false) .ret) .skip)) F30.t4)))
theorem F30.calls (hn : args.size ≤ 22) (h : cwE Try.prog F30.code (fnP Try.prog #[(.cell 4 43), (.tmp 5)] R) (entry args) w) : Calls Try.prog 30 args w R :=
  calls_of_cwE (types := Try.prog.types) follows Try.func30 F30.code rfl (by kernel_rfl) hn h
def F31.r0 : List Oper := [
  oc 1 (.box 22 (.tmp 0)) 0,
  op 2 (.assign (.const .nilFunc)) 81]
def F31.r1 : List Oper := [
  op 3 (.makeFunc (.func 54) #[] #[(.tmp 1)]) 80,
  op 2 (.assign (.tmp 3)) 81]
def F31.code : Cd := (.seq (.region 0 F31.r0.toArray false) (.seq (.region 1 F31.r1.toArray false) .ret))
theorem F31.calls (hn : args.size ≤ 4) (h : cwE Try.prog F31.code (fnP Try.prog #[(.tmp 2)] R) (entry args) w) : Calls Try.prog 31 args w R :=
  calls_of_cwE (types := Try.prog.types) follows Try.func31 F31.code rfl (by kernel_rfl) hn h
def F32.r0 : List Oper := [
  oc 5 (.box 43 (.tmp 2)) 0,
  op 6 (.assign (.const (.int .i64 0))) 31]
def F32.r1 : List Oper := [
  od 9 (.load 43 (.tmp 5)) 43,
  oc 10 (.call ⟨(.value (.func 39)), #[(.tmp 9)], #[43]⟩) 4,
  op 11 (.unOp .not 4 (.tmp 10)) 4]
def F32.r2 : List Oper := [
  op 6 (.assign (.const (.int .i64 1))) 31]
def F32.r3 : List Oper := [
  op 13 (.move (.tmp 0)) 22,
  op 14 (.nilCheck (.tmp 13)) 0,
  op 15 (.fieldAddr 88 (.tmp 14) 1) 0,
  od 16 (.load 86 (.tmp 15)) 86,
  op 17 (.move (.tmp 1)) 35,
  od 18 (.lookup 86 (.tmp 16) (.tmp 17) true) 49,
  op 12 (.move (.tmp 18)) 49,
  op 19 (.extract (.tmp 12) 0) 43,
  op 20 (.extract (.tmp 12) 1) 4,
  oc 7 (.alloc 43) 0,
  ⟨none, (.store 43 (.tmp 7) (.tmp 19)), 0, "", #[⟨0, .chain⟩], none⟩,
  op 8 (.assign (.tmp 20)) 4]
def F32.r4 : List Oper := [
  op 21 (.move (.tmp 8)) 4,
  op 22 (.unOp .not 4 (.tmp 21)) 4]
def F32.r5 : List Oper := [
  op 6 (.assign (.const (.int .i64 100))) 31]
def F32.r6 : List Oper := [
  ⟨(some 23), (.move (.tmp 0)), 22, "", #[], none⟩,
  ⟨(some 24), (.nilCheck (.tmp 23)), 0, "", #[], none⟩,
  ⟨(some 25), (.fieldAddr 88 (.tmp 24) 1), 0, "", #[], none⟩,
  ⟨(some 27), (.move (.tmp 1)), 35, "", #[], none⟩,
  ⟨(some 26), (.load 86 (.tmp 25)), 86, "", #[⟨128, .data⟩], none⟩,
  ⟨(some 28), (.load 43 (.tmp 5)), 43, "", #[⟨192, .data⟩], none⟩,
  ⟨(some 29), (.call ⟨(.value (.func 41)), #[(.tmp 28)], #[43]⟩), 43, "", #[⟨6, .chain⟩], none⟩,
  ⟨none, (.mapUpdate 86 (.tmp 26) (.tmp 27) (.tmp 29)), 0, "", #[⟨7, .chain⟩], none⟩]
def F32.r7 : List Oper := [
  op 6 (.assign (.const (.int .i64 0))) 31]
def F32.t6 : Cd := (.seq (.region 6 F32.r6.toArray true) (.seq (.region 7 F32.r7.toArray false) .ret))
theorem F32.t6_eq {θ : Tag (F32.t6, Q, e, w)} : cwE P F32.t6 Q e w θ = cwE P (.seq (.region 6 F32.r6.toArray true) (.seq (.region 7 F32.r7.toArray false) .ret)) Q e w := rfl
def F32.t3 : Cd := (.seq (.seq (.region 3 F32.r3.toArray false) (.seq (.region 4 F32.r4.toArray false) (.cond (.tmp 22) (.seq (.region 5 F32.r5.toArray false) .ret) .skip))) F32.t6)
theorem F32.t3_eq {θ : Tag (F32.t3, Q, e, w)} : cwE P F32.t3 Q e w θ = cwE P (.seq (.seq (.region 3 F32.r3.toArray false) (.seq (.region 4 F32.r4.toArray false) (.cond (.tmp 22) (.seq (.region 5 F32.r5.toArray false) .ret) .skip))) F32.t6) Q e w := rfl
def F32.code : Cd := (.seq (.region 0 F32.r0.toArray false) (.seq (.seq (.region 1 F32.r1.toArray false) (.cond (.tmp 11) (.seq (.region 2 F32.r2.toArray false) .ret) .skip)) F32.t3))
theorem F32.calls (hn : args.size ≤ 30) (h : cwE Try.prog F32.code (fnP Try.prog #[(.tmp 6)] R) (entry args) w) : Calls Try.prog 32 args w R :=
  calls_of_cwE (types := Try.prog.types) follows Try.func32 F32.code rfl (by kernel_rfl) hn h
def F33.r0 : List Oper := [
  oc 4 (.alloc 43) 0,
  op 5 (.assign (.const (.int .i64 0))) 31]
def F33.r1 : List Oper := [
  op 9 (.move (.tmp 0)) 22,
  op 10 (.move (.tmp 1)) 35,
  oc 11 (.call ⟨(.value (.func 30)), #[(.tmp 9), (.tmp 10)], #[22, 35]⟩) 78,
  op 8 (.move (.tmp 11)) 78,
  op 12 (.extract (.tmp 8) 0) 43,
  op 13 (.extract (.tmp 8) 1) 31,
  oc 6 (.alloc 43) 0,
  ⟨none, (.store 43 (.tmp 6) (.tmp 12)), 0, "", #[⟨0, .chain⟩], none⟩,
  op 7 (.assign (.tmp 13)) 31]
def F33.r2 : List Oper := [
  op 14 (.move (.tmp 0)) 22,
  op 15 (.nilCheck (.tmp 14)) 0,
  op 16 (.fieldAddr 88 (.tmp 15) 1) 0,
  od 17 (.load 86 (.tmp 16)) 86,
  op 18 (.move (.tmp 1)) 35,
  ⟨none, (.call ⟨(.builtin .delete), #[(.tmp 17), (.tmp 18)], #[86, 35]⟩), 0, "", #[⟨0, .chain⟩], none⟩]
def F33.r3 : List Oper := [
  od 19 (.load 43 (.tmp 6)) 43,
  op 20 (.move (.tmp 7)) 31,
  ⟨none, (.store 43 (.tmp 4) (.tmp 19)), 0, "", #[⟨0, .chain⟩], none⟩,
  op 5 (.assign (.tmp 20)) 31]
def F33.code : Cd := (.seq (.region 0 F33.r0.toArray false) (.seq (.region 1 F33.r1.toArray false) (.seq (.region 2 F33.r2.toArray false) (.seq (.region 3 F33.r3.toArray false) .ret))))
theorem F33.calls (hn : args.size ≤ 21) (h : cwE Try.prog F33.code (fnP Try.prog #[(.cell 4 43), (.tmp 5)] R) (entry args) w) : Calls Try.prog 33 args w R :=
  calls_of_cwE (types := Try.prog.types) follows Try.func33 F33.code rfl (by kernel_rfl) hn h
def F34.r0 : List Oper := [
  op 8 (.assign (.const (.int .i64 0))) 31]
def F34.r1 : List Oper := [
  op 12 (.move (.tmp 0)) 22,
  op 13 (.move (.tmp 1)) 35,
  op 14 (.move (.tmp 2)) 35,
  oc 15 (.call ⟨(.value (.func 36)), #[(.tmp 12), (.tmp 13), (.tmp 14)], #[22, 35, 35]⟩) 31,
  op 9 (.assign (.tmp 15)) 31]
def F34.r2 : List Oper := [
  op 16 (.move (.tmp 9)) 31,
  op 17 (.binOp .neq 31 (.tmp 16) (.const (.int .i64 0)) 31) 4]
def F34.r3 : List Oper := [
  op 18 (.move (.tmp 9)) 31,
  op 8 (.assign (.tmp 18)) 31]
def F34.r4 : List Oper := [
  op 19 (.move (.tmp 0)) 22,
  op 20 (.nilCheck (.tmp 19)) 0,
  op 21 (.fieldAddr 88 (.tmp 20) 1) 0,
  od 22 (.load 86 (.tmp 21)) 86,
  op 23 (.move (.tmp 1)) 35,
  od 24 (.lookup 86 (.tmp 22) (.tmp 23) false) 43,
  oc 10 (.alloc 43) 0,
  ⟨none, (.store 43 (.tmp 10) (.tmp 24)), 0, "", #[⟨0, .chain⟩], none⟩]
def F34.r5 : List Oper := [
  od 25 (.load 43 (.tmp 10)) 43,
  oc 26 (.call ⟨(.value (.func 37)), #[(.tmp 25)], #[43]⟩) 31,
  op 11 (.assign (.tmp 26)) 31]
def F34.r6 : List Oper := [
  op 27 (.move (.tmp 11)) 31,
  op 28 (.binOp .neq 31 (.tmp 27) (.const (.int .i64 0)) 31) 4]
def F34.r7 : List Oper := [
  op 29 (.move (.tmp 11)) 31,
  op 8 (.assign (.tmp 29)) 31]
def F34.r8 : List Oper := [
  ⟨(some 30), (.move (.tmp 0)), 22, "", #[], none⟩,
  ⟨(some 31), (.nilCheck (.tmp 30)), 0, "", #[], none⟩,
  ⟨(some 32), (.fieldAddr 88 (.tmp 31) 1), 0, "", #[], none⟩,
  ⟨(some 34), (.move (.tmp 2)), 35, "", #[], none⟩,
  ⟨(some 35), (.move (.tmp 3)), 37, "", #[], none⟩,
  ⟨(some 36), (.fieldAddr 43 (.tmp 10) 2), 0, "", #[], none⟩,
  ⟨(some 33), (.load 86 (.tmp 32)), 86, "", #[⟨512, .data⟩], none⟩,
  ⟨(some 37), (.load 9 (.tmp 36)), 9, "", #[⟨512, .data⟩], none⟩,
  ⟨(some 38), (.build 43 #[(0, (.const (.int .u8 1))), (1, (.tmp 35)), (2, (.tmp 37))]), 43, "", #[], none⟩,
  ⟨none, (.mapUpdate 86 (.tmp 33) (.tmp 34) (.tmp 38)), 0, "", #[⟨9, .chain⟩], none⟩]
def F34.r9 : List Oper := [
  op 8 (.assign (.const (.int .i64 0))) 31]
def F34.t8 : Cd := (.seq (.region 8 F34.r8.toArray true) (.seq (.region 9 F34.r9.toArray false) .ret))
theorem F34.t8_eq {θ : Tag (F34.t8, Q, e, w)} : cwE P F34.t8 Q e w θ = cwE P (.seq (.region 8 F34.r8.toArray true) (.seq (.region 9 F34.r9.toArray false) .ret)) Q e w := rfl
def F34.t4 : Cd := (.seq (.region 4 F34.r4.toArray false) (.seq (.seq (.region 5 F34.r5.toArray false) (.seq (.region 6 F34.r6.toArray false) (.cond (.tmp 28) (.seq (.region 7 F34.r7.toArray false) .ret) .skip))) F34.t8))
theorem F34.t4_eq {θ : Tag (F34.t4, Q, e, w)} : cwE P F34.t4 Q e w θ = cwE P (.seq (.region 4 F34.r4.toArray false) (.seq (.seq (.region 5 F34.r5.toArray false) (.seq (.region 6 F34.r6.toArray false) (.cond (.tmp 28) (.seq (.region 7 F34.r7.toArray false) .ret) .skip))) F34.t8)) Q e w := rfl
def F34.code : Cd := (.seq (.region 0 F34.r0.toArray false) (.seq (.seq (.region 1 F34.r1.toArray false) (.seq (.region 2 F34.r2.toArray false) (.cond (.tmp 17) (.seq (.region 3 F34.r3.toArray false) .ret) .skip))) F34.t4))
theorem F34.calls (hn : args.size ≤ 39) (h : cwE Try.prog F34.code (fnP Try.prog #[(.tmp 8)] R) (entry args) w) : Calls Try.prog 34 args w R :=
  calls_of_cwE (types := Try.prog.types) follows Try.func34 F34.code rfl (by kernel_rfl) hn h
def F35.r0 : List Oper := [
  op 8 (.assign (.const (.int .i64 0))) 31]
def F35.r1 : List Oper := [
  op 12 (.move (.tmp 0)) 22,
  op 13 (.nilCheck (.tmp 12)) 0,
  op 14 (.fieldAddr 88 (.tmp 13) 1) 0,
  od 15 (.load 86 (.tmp 14)) 86,
  op 16 (.move (.tmp 1)) 35,
  od 17 (.lookup 86 (.tmp 15) (.tmp 16) true) 49,
  op 11 (.move (.tmp 17)) 49,
  op 18 (.extract (.tmp 11) 0) 43,
  op 19 (.extract (.tmp 11) 1) 4,
  oc 9 (.alloc 43) 0,
  ⟨none, (.store 43 (.tmp 9) (.tmp 18)), 0, "", #[⟨0, .chain⟩], none⟩,
  op 10 (.assign (.tmp 19)) 4]
def F35.r2 : List Oper := [
  op 20 (.move (.tmp 10)) 4,
  op 21 (.unOp .not 4 (.tmp 20)) 4]
def F35.r3 : List Oper := [
  op 8 (.assign (.const (.int .i64 100))) 31]
def F35.r4 : List Oper := [
  op 22 (.fieldAddr 43 (.tmp 9) 0) 0,
  od 23 (.load 36 (.tmp 22)) 36,
  op 24 (.binOp .neq 36 (.tmp 23) (.const (.int .u8 2)) 36) 4]
def F35.r5 : List Oper := [
  op 8 (.assign (.const (.int .i64 117))) 31]
def F35.r6 : List Oper := [
  op 25 (.move (.tmp 2)) 37,
  op 26 (.move (.tmp 3)) 37,
  op 27 (.fieldAddr 43 (.tmp 9) 5) 0,
  ⟨none, (.store 37 (.tmp 27) (.tmp 25)), 0, "", #[⟨0, .chain⟩], none⟩,
  op 28 (.fieldAddr 43 (.tmp 9) 6) 0,
  ⟨none, (.store 37 (.tmp 28) (.tmp 26)), 0, "", #[⟨0, .chain⟩], none⟩]
def F35.r7 : List Oper := [
  ⟨(some 29), (.move (.tmp 0)), 22, "", #[], none⟩,
  ⟨(some 30), (.nilCheck (.tmp 29)), 0, "", #[], none⟩,
  ⟨(some 31), (.fieldAddr 88 (.tmp 30) 1), 0, "", #[], none⟩,
  ⟨(some 33), (.move (.tmp 1)), 35, "", #[], none⟩,
  ⟨(some 32), (.load 86 (.tmp 31)), 86, "", #[⟨64, .data⟩], none⟩,
  ⟨(some 34), (.load 43 (.tmp 9)), 43, "", #[⟨64, .data⟩], none⟩,
  ⟨none, (.mapUpdate 86 (.tmp 32) (.tmp 33) (.tmp 34)), 0, "", #[⟨6, .chain⟩], none⟩]
def F35.r8 : List Oper := [
  op 8 (.assign (.const (.int .i64 0))) 31]
def F35.t6 : Cd := (.seq (.region 6 F35.r6.toArray false) (.seq (.region 7 F35.r7.toArray true) (.seq (.region 8 F35.r8.toArray false) .ret)))
theorem F35.t6_eq {θ : Tag (F35.t6, Q, e, w)} : cwE P F35.t6 Q e w θ = cwE P (.seq (.region 6 F35.r6.toArray false) (.seq (.region 7 F35.r7.toArray true) (.seq (.region 8 F35.r8.toArray false) .ret))) Q e w := rfl
def F35.t4 : Cd := (.seq (.seq (.region 4 F35.r4.toArray false) (.cond (.tmp 24) (.seq (.region 5 F35.r5.toArray false) .ret) .skip)) F35.t6)
theorem F35.t4_eq {θ : Tag (F35.t4, Q, e, w)} : cwE P F35.t4 Q e w θ = cwE P (.seq (.seq (.region 4 F35.r4.toArray false) (.cond (.tmp 24) (.seq (.region 5 F35.r5.toArray false) .ret) .skip)) F35.t6) Q e w := rfl
def F35.code : Cd := (.seq (.region 0 F35.r0.toArray false) (.seq (.region 1 F35.r1.toArray false) (.seq (.seq (.region 2 F35.r2.toArray false) (.cond (.tmp 21) (.seq (.region 3 F35.r3.toArray false) .ret) .skip)) F35.t4)))
theorem F35.calls (hn : args.size ≤ 35) (h : cwE Try.prog F35.code (fnP Try.prog #[(.tmp 8)] R) (entry args) w) : Calls Try.prog 35 args w R :=
  calls_of_cwE (types := Try.prog.types) follows Try.func35 F35.code rfl (by kernel_rfl) hn h
def F36.r0 : List Oper := [
  op 6 (.assign (.const (.int .i64 0))) 31]
def F36.r1 : List Oper := [
  op 10 (.move (.tmp 0)) 22,
  op 11 (.nilCheck (.tmp 10)) 0,
  op 12 (.fieldAddr 88 (.tmp 11) 1) 0,
  od 13 (.load 86 (.tmp 12)) 86,
  op 14 (.move (.tmp 1)) 35,
  od 15 (.lookup 86 (.tmp 13) (.tmp 14) true) 49,
  op 9 (.move (.tmp 15)) 49,
  op 16 (.extract (.tmp 9) 0) 43,
  op 17 (.extract (.tmp 9) 1) 4,
  oc 7 (.alloc 43) 0,
  ⟨none, (.store 43 (.tmp 7) (.tmp 16)), 0, "", #[⟨0, .chain⟩], none⟩,
  op 8 (.assign (.tmp 17)) 4]
def F36.r2 : List Oper := [
  op 18 (.move (.tmp 8)) 4,
  op 19 (.unOp .not 4 (.tmp 18)) 4]
def F36.r3 : List Oper := [
  op 6 (.assign (.const (.int .i64 100))) 31]
def F36.r4 : List Oper := [
  op 20 (.move (.tmp 1)) 35,
  op 21 (.move (.tmp 2)) 35,
  op 22 (.binOp .eql 35 (.tmp 20) (.tmp 21) 35) 4]
def F36.r5 : List Oper := [
  op 6 (.assign (.const (.int .i64 0))) 31]
def F36.r6 : List Oper := [
  op 23 (.move (.tmp 0)) 22,
  op 24 (.move (.tmp 2)) 35,
  oc 25 (.call ⟨(.value (.func 40)), #[(.tmp 23), (.tmp 24)], #[22, 35]⟩) 31,
  op 6 (.assign (.tmp 25)) 31]
def F36.t6 : Cd := (.seq (.region 6 F36.r6.toArray false) .ret)
theorem F36.t6_eq {θ : Tag (F36.t6, Q, e, w)} : cwE P F36.t6 Q e w θ = cwE P (.seq (.region 6 F36.r6.toArray false) .ret) Q e w := rfl
def F36.t4 : Cd := (.seq (.seq (.region 4 F36.r4.toArray false) (.cond (.tmp 22) (.seq (.region 5 F36.r5.toArray false) .ret) .skip)) F36.t6)
theorem F36.t4_eq {θ : Tag (F36.t4, Q, e, w)} : cwE P F36.t4 Q e w θ = cwE P (.seq (.seq (.region 4 F36.r4.toArray false) (.cond (.tmp 22) (.seq (.region 5 F36.r5.toArray false) .ret) .skip)) F36.t6) Q e w := rfl
def F36.code : Cd := (.seq (.region 0 F36.r0.toArray false) (.seq (.seq (.region 1 F36.r1.toArray false) (.seq (.region 2 F36.r2.toArray false) (.cond (.tmp 19) (.seq (.region 3 F36.r3.toArray false) .ret) .skip))) F36.t4))
theorem F36.calls (hn : args.size ≤ 26) (h : cwE Try.prog F36.code (fnP Try.prog #[(.tmp 6)] R) (entry args) w) : Calls Try.prog 36 args w R :=
  calls_of_cwE (types := Try.prog.types) follows Try.func36 F36.code rfl (by kernel_rfl) hn h
def F37.r0 : List Oper := [
  oc 1 (.box 43 (.tmp 0)) 0,
  op 2 (.assign (.const (.int .i64 0))) 31]
def F37.r1 : List Oper := [
  op 3 (.fieldAddr 43 (.tmp 1) 0) 0,
  od 4 (.load 36 (.tmp 3)) 36]
def F37.r2 : List Oper := [
  op 6 (.binOp .eql 36 (.tmp 4) (.const (.int .u8 2)) 36) 4,
  op 5 (.assign (.tmp 6)) 4]
def F37.r3 : List Oper := [
  op 2 (.assign (.const (.int .i64 112))) 31]
def F37.r4 : List Oper := [
  op 8 (.binOp .eql 36 (.tmp 4) (.const (.int .u8 3)) 36) 4,
  op 7 (.assign (.tmp 8)) 4]
def F37.r5 : List Oper := [
  op 2 (.assign (.const (.int .i64 116))) 31]
def F37.r6 : List Oper := [
  op 2 (.assign (.const (.int .i64 0))) 31]
def F37.t6 : Cd := (.seq (.region 6 F37.r6.toArray false) .ret)
theorem F37.t6_eq {θ : Tag (F37.t6, Q, e, w)} : cwE P F37.t6 Q e w θ = cwE P (.seq (.region 6 F37.r6.toArray false) .ret) Q e w := rfl
def F37.code : Cd := (.seq (.region 0 F37.r0.toArray false) (.seq (.seq (.region 1 F37.r1.toArray false) (.block 0 (.seq (.region 2 F37.r2.toArray false) (.cond (.tmp 5) (.seq (.region 3 F37.r3.toArray false) .ret) (.seq (.region 4 F37.r4.toArray false) (.cond (.tmp 7) (.seq (.region 5 F37.r5.toArray false) .ret) .skip)))))) F37.t6))
theorem F37.calls (hn : args.size ≤ 9) (h : cwE Try.prog F37.code (fnP Try.prog #[(.tmp 2)] R) (entry args) w) : Calls Try.prog 37 args w R :=
  calls_of_cwE (types := Try.prog.types) follows Try.func37 F37.code rfl (by kernel_rfl) hn h
def F38.r0 : List Oper := [
  op 2 (.assign (.const (.slice none 0 0))) 28]
def F38.r1 : List Oper := [
  op 6 (.move (.tmp 0)) 22,
  op 7 (.nilCheck (.tmp 6)) 0,
  op 8 (.fieldAddr 88 (.tmp 7) 1) 0,
  od 9 (.load 86 (.tmp 8)) 86,
  od 10 (.call ⟨(.builtin .len), #[(.tmp 9)], #[86]⟩) 3,
  oc 11 (.makeSlice 28 (.const (.int .i64 0)) (.tmp 10)) 28,
  op 3 (.assign (.tmp 11)) 28]
def F38.r2 : List Oper := [
  op 12 (.move (.tmp 0)) 22,
  op 13 (.nilCheck (.tmp 12)) 0,
  op 14 (.fieldAddr 88 (.tmp 13) 1) 0,
  od 15 (.load 86 (.tmp 14)) 86,
  oc 16 (.call ⟨(.value (.func 56)), #[(.tmp 15)], #[86]⟩) 102,
  oc 17 (.call ⟨(.value (.func 55)), #[(.tmp 16)], #[102]⟩) 32,
  op 18 (.call ⟨(.builtin .len), #[(.tmp 17)], #[32]⟩) 3,
  op 19 (.move (.const (.int .i64 0))) 3]
def F38.r3 : List Oper := [
  op 20 (.binOp .lss 3 (.tmp 19) (.tmp 18) 3) 0]
def F38.r4 : List Oper := [
  op 21 (.indexAddr 32 (.tmp 17) (.tmp 19)) 0,
  od 22 (.load 35 (.tmp 21)) 35,
  op 5 (.assign (.tmp 22)) 35]
def F38.r5 : List Oper := [
  op 23 (.move (.tmp 3)) 28,
  op 24 (.move (.tmp 5)) 35,
  op 25 (.move (.tmp 0)) 22,
  op 26 (.nilCheck (.tmp 25)) 0,
  op 27 (.fieldAddr 88 (.tmp 26) 1) 0,
  od 28 (.load 86 (.tmp 27)) 86,
  op 29 (.move (.tmp 5)) 35,
  od 30 (.lookup 86 (.tmp 28) (.tmp 29) false) 43,
  oc 31 (.call ⟨(.value (.func 41)), #[(.tmp 30)], #[43]⟩) 43,
  op 32 (.build 48 #[(0, (.tmp 24)), (1, (.tmp 31))]) 48,
  oc 33 (.buildSlice 28 1 #[(0, (.tmp 32))]) 28,
  oc 34 (.call ⟨(.builtin .append), #[(.tmp 23), (.tmp 33)], #[28, 28]⟩) 28,
  op 3 (.assign (.tmp 34)) 28]
def F38.r6 : List Oper := [
  op 35 (.binOp .add 3 (.tmp 19) (.const (.int .i64 1)) 3) 3,
  op 19 (.move (.tmp 35)) 3]
def F38.r7 : List Oper := [
  op 36 (.move (.tmp 3)) 28,
  op 2 (.assign (.tmp 36)) 28]
def F38.t6 : Cd := (.region 6 F38.r6.toArray false)
theorem F38.t6_eq {θ : Tag (F38.t6, Q, e, w)} : cwE P F38.t6 Q e w θ = cwE P (.region 6 F38.r6.toArray false) Q e w := rfl
def F38.t4 : Cd := (.seq (.block 1 (.seq (.region 4 F38.r4.toArray false) (.region 5 F38.r5.toArray false))) F38.t6)
theorem F38.t4_eq {θ : Tag (F38.t4, Q, e, w)} : cwE P F38.t4 Q e w θ = cwE P (.seq (.block 1 (.seq (.region 4 F38.r4.toArray false) (.region 5 F38.r5.toArray false))) F38.t6) Q e w := rfl
def F38.t7 : Cd := (.seq (.region 7 F38.r7.toArray false) .ret)
theorem F38.t7_eq {θ : Tag (F38.t7, Q, e, w)} : cwE P F38.t7 Q e w θ = cwE P (.seq (.region 7 F38.r7.toArray false) .ret) Q e w := rfl
def F38.code : Cd := (.seq (.region 0 F38.r0.toArray false) (.seq (.region 1 F38.r1.toArray false) (.seq (.seq (.region 2 F38.r2.toArray false) (.block 0 (.loop (.seq (.region 3 F38.r3.toArray false) (.seq (.cond (.tmp 20) .skip (.exit 0)) F38.t4))))) F38.t7)))
theorem F38.calls (hn : args.size ≤ 37) (h : cwE Try.prog F38.code (fnP Try.prog #[(.tmp 2)] R) (entry args) w) : Calls Try.prog 38 args w R :=
  calls_of_cwE (types := Try.prog.types) follows Try.func38 F38.code rfl (by kernel_rfl) hn h
def F39.r0 : List Oper := [
  oc 1 (.box 43 (.tmp 0)) 0,
  op 2 (.assign (.const (.bool false))) 4]
def F39.r1 : List Oper := [
  op 3 (.fieldAddr 43 (.tmp 1) 0) 0,
  od 4 (.load 36 (.tmp 3)) 36]
def F39.r2 : List Oper := [
  op 6 (.binOp .eql 36 (.tmp 4) (.const (.int .u8 1)) 36) 4,
  op 5 (.assign (.tmp 6)) 4]
def F39.r3 : List Oper := [
  op 7 (.binOp .eql 36 (.tmp 4) (.const (.int .u8 2)) 36) 4,
  op 5 (.assign (.tmp 7)) 4]
def F39.r4 : List Oper := [
  op 8 (.binOp .eql 36 (.tmp 4) (.const (.int .u8 3)) 36) 4,
  op 5 (.assign (.tmp 8)) 4]
def F39.r5 : List Oper := [
  op 2 (.assign (.const (.bool true))) 4]
def F39.r6 : List Oper := [
  op 2 (.assign (.const (.bool false))) 4]
def F39.t5 : Cd := (.cond (.tmp 5) (.seq (.region 5 F39.r5.toArray false) .ret) .skip)
theorem F39.t5_eq {θ : Tag (F39.t5, Q, e, w)} : cwE P F39.t5 Q e w θ = cwE P (.cond (.tmp 5) (.seq (.region 5 F39.r5.toArray false) .ret) .skip) Q e w := rfl
def F39.t6 : Cd := (.seq (.region 6 F39.r6.toArray false) .ret)
theorem F39.t6_eq {θ : Tag (F39.t6, Q, e, w)} : cwE P F39.t6 Q e w θ = cwE P (.seq (.region 6 F39.r6.toArray false) .ret) Q e w := rfl
def F39.code : Cd := (.seq (.region 0 F39.r0.toArray false) (.seq (.seq (.region 1 F39.r1.toArray false) (.block 0 (.seq (.seq (.region 2 F39.r2.toArray false) (.cond (.tmp 5) .skip (.seq (.region 3 F39.r3.toArray false) (.cond (.tmp 5) .skip (.region 4 F39.r4.toArray false))))) F39.t5))) F39.t6))
theorem F39.calls (hn : args.size ≤ 9) (h : cwE Try.prog F39.code (fnP Try.prog #[(.tmp 2)] R) (entry args) w) : Calls Try.prog 39 args w R :=
  calls_of_cwE (types := Try.prog.types) follows Try.func39 F39.code rfl (by kernel_rfl) hn h
def F40.r0 : List Oper := [
  op 4 (.assign (.const (.int .i64 0))) 31]
def F40.r1 : List Oper := [
  op 7 (.move (.tmp 1)) 35,
  op 8 (.binOp .eql 35 (.tmp 7) (.const (.int .u32 4294967295)) 35) 4]
def F40.r2 : List Oper := [
  op 4 (.assign (.const (.int .i64 103))) 31]
def F40.r3 : List Oper := [
  op 10 (.move (.tmp 0)) 22,
  op 11 (.nilCheck (.tmp 10)) 0,
  op 12 (.fieldAddr 88 (.tmp 11) 1) 0,
  od 13 (.load 86 (.tmp 12)) 86,
  op 14 (.move (.tmp 1)) 35,
  od 15 (.lookup 86 (.tmp 13) (.tmp 14) true) 49,
  op 9 (.move (.tmp 15)) 49,
  op 16 (.extract (.tmp 9) 0) 43,
  op 17 (.extract (.tmp 9) 1) 4,
  oc 5 (.alloc 43) 0,
  ⟨none, (.store 43 (.tmp 5) (.tmp 16)), 0, "", #[⟨0, .chain⟩], none⟩,
  op 6 (.assign (.tmp 17)) 4]
def F40.r4 : List Oper := [
  op 18 (.move (.tmp 6)) 4]
def F40.r5 : List Oper := [
  op 4 (.assign (.const (.int .i64 101))) 31]
def F40.r6 : List Oper := [
  ⟨(some 19), (.move (.tmp 0)), 22, "", #[], none⟩,
  ⟨(some 20), (.nilCheck (.tmp 19)), 0, "", #[], none⟩,
  ⟨(some 21), (.fieldAddr 88 (.tmp 20) 1), 0, "", #[], none⟩,
  ⟨(some 24), (.move (.tmp 0)), 22, "", #[], none⟩,
  ⟨(some 25), (.nilCheck (.tmp 24)), 0, "", #[], none⟩,
  ⟨(some 26), (.fieldAddr 88 (.tmp 25) 0), 0, "", #[], none⟩,
  ⟨(some 22), (.load 86 (.tmp 21)), 86, "", #[⟨0, .data⟩], none⟩,
  ⟨(some 23), (.call ⟨(.builtin .len), #[(.tmp 22)], #[86]⟩), 3, "", #[⟨0, .data⟩], none⟩,
  ⟨(some 27), (.load 3 (.tmp 26)), 3, "", #[⟨0, .data⟩], none⟩,
  ⟨(some 28), (.binOp .geq 3 (.tmp 23) (.tmp 27) 3), 4, "", #[], none⟩]
def F40.r7 : List Oper := [
  op 4 (.assign (.const (.int .i64 102))) 31]
def F40.r8 : List Oper := [
  op 4 (.assign (.const (.int .i64 0))) 31]
def F40.t8 : Cd := (.seq (.region 8 F40.r8.toArray false) .ret)
theorem F40.t8_eq {θ : Tag (F40.t8, Q, e, w)} : cwE P F40.t8 Q e w θ = cwE P (.seq (.region 8 F40.r8.toArray false) .ret) Q e w := rfl
def F40.t6 : Cd := (.seq (.seq (.region 6 F40.r6.toArray true) (.cond (.tmp 28) (.seq (.region 7 F40.r7.toArray false) .ret) .skip)) F40.t8)
theorem F40.t6_eq {θ : Tag (F40.t6, Q, e, w)} : cwE P F40.t6 Q e w θ = cwE P (.seq (.seq (.region 6 F40.r6.toArray true) (.cond (.tmp 28) (.seq (.region 7 F40.r7.toArray false) .ret) .skip)) F40.t8) Q e w := rfl
def F40.t3 : Cd := (.seq (.seq (.region 3 F40.r3.toArray false) (.seq (.region 4 F40.r4.toArray false) (.cond (.tmp 18) (.seq (.region 5 F40.r5.toArray false) .ret) .skip))) F40.t6)
theorem F40.t3_eq {θ : Tag (F40.t3, Q, e, w)} : cwE P F40.t3 Q e w θ = cwE P (.seq (.seq (.region 3 F40.r3.toArray false) (.seq (.region 4 F40.r4.toArray false) (.cond (.tmp 18) (.seq (.region 5 F40.r5.toArray false) .ret) .skip))) F40.t6) Q e w := rfl
def F40.code : Cd := (.seq (.region 0 F40.r0.toArray false) (.seq (.seq (.region 1 F40.r1.toArray false) (.cond (.tmp 8) (.seq (.region 2 F40.r2.toArray false) .ret) .skip)) F40.t3))
theorem F40.calls (hn : args.size ≤ 29) (h : cwE Try.prog F40.code (fnP Try.prog #[(.tmp 4)] R) (entry args) w) : Calls Try.prog 40 args w R :=
  calls_of_cwE (types := Try.prog.types) follows Try.func40 F40.code rfl (by kernel_rfl) hn h
def F41.r0 : List Oper := [
  oc 1 (.box 43 (.tmp 0)) 0,
  oc 2 (.alloc 43) 0]
def F41.r1 : List Oper := [
  op 3 (.fieldAddr 43 (.tmp 1) 7) 0,
  op 4 (.fieldAddr 41 (.tmp 3) 6) 0,
  od 5 (.load 39 (.tmp 4)) 39,
  oc 6 (.call ⟨(.value (.func 57)), #[(.tmp 5)], #[39]⟩) 39,
  op 7 (.fieldAddr 43 (.tmp 1) 7) 0,
  op 8 (.fieldAddr 41 (.tmp 7) 6) 0,
  ⟨none, (.store 39 (.tmp 8) (.tmp 6)), 0, "", #[⟨0, .chain⟩], none⟩]
def F41.r2 : List Oper := [
  od 9 (.load 43 (.tmp 1)) 43,
  ⟨none, (.store 43 (.tmp 2) (.tmp 9)), 0, "", #[⟨0, .chain⟩], none⟩]
def F41.code : Cd := (.seq (.region 0 F41.r0.toArray false) (.seq (.region 1 F41.r1.toArray false) (.seq (.region 2 F41.r2.toArray false) .ret)))
theorem F41.calls (hn : args.size ≤ 10) (h : cwE Try.prog F41.code (fnP Try.prog #[(.cell 2 43)] R) (entry args) w) : Calls Try.prog 41 args w R :=
  calls_of_cwE (types := Try.prog.types) follows Try.func41 F41.code rfl (by kernel_rfl) hn h
def F42.r0 : List Oper := [
  oc 4 (.alloc 43) 0,
  op 5 (.assign (.const (.int .i64 0))) 31]
def F42.r1 : List Oper := [
  oc 6 (.alloc 43) 0]
def F42.r2 : List Oper := [
  op 8 (.move (.tmp 0)) 61,
  op 9 (.move (.tmp 1)) 35,
  oc 10 (.call ⟨(.value (.func 58)), #[(.tmp 8), (.tmp 9)], #[61, 35]⟩) 3,
  op 7 (.assign (.tmp 10)) 3]
def F42.r3 : List Oper := [
  op 11 (.move (.tmp 7)) 3,
  op 12 (.binOp .lss 3 (.tmp 11) (.const (.int .i64 0)) 3) 4]
def F42.r4 : List Oper := [
  od 13 (.load 43 (.tmp 6)) 43,
  ⟨none, (.store 43 (.tmp 4) (.tmp 13)), 0, "", #[⟨0, .chain⟩], none⟩,
  op 5 (.assign (.const (.int .i64 100))) 31]
def F42.r5 : List Oper := [
  op 14 (.move (.tmp 0)) 61,
  op 15 (.nilCheck (.tmp 14)) 0,
  op 16 (.fieldAddr 94 (.tmp 15) 1) 0,
  od 17 (.load 28 (.tmp 16)) 28,
  op 18 (.move (.tmp 7)) 3,
  op 19 (.indexAddr 28 (.tmp 17) (.tmp 18)) 0,
  op 20 (.fieldAddr 48 (.tmp 19) 1) 0,
  od 21 (.load 43 (.tmp 20)) 43,
  oc 22 (.call ⟨(.value (.func 59)), #[(.tmp 21)], #[43]⟩) 43,
  ⟨none, (.store 43 (.tmp 4) (.tmp 22)), 0, "", #[⟨0, .chain⟩], none⟩,
  op 5 (.assign (.const (.int .i64 0))) 31]
def F42.t5 : Cd := (.seq (.region 5 F42.r5.toArray false) .ret)
theorem F42.t5_eq {θ : Tag (F42.t5, Q, e, w)} : cwE P F42.t5 Q e w θ = cwE P (.seq (.region 5 F42.r5.toArray false) .ret) Q e w := rfl
def F42.code : Cd := (.seq (.region 0 F42.r0.toArray false) (.seq (.region 1 F42.r1.toArray false) (.seq (.region 2 F42.r2.toArray false) (.seq (.seq (.region 3 F42.r3.toArray false) (.cond (.tmp 12) (.seq (.region 4 F42.r4.toArray false) .ret) .skip)) F42.t5))))
theorem F42.calls (hn : args.size ≤ 23) (h : cwE Try.prog F42.code (fnP Try.prog #[(.cell 4 43), (.tmp 5)] R) (entry args) w) : Calls Try.prog 42 args w R :=
  calls_of_cwE (types := Try.prog.types) follows Try.func42 F42.code rfl (by kernel_rfl) hn h
def F43.r0 : List Oper := [
  oc 4 (.box 43 (.tmp 1)) 0,
  oc 5 (.box 43 (.tmp 2)) 0,
  op 6 (.assign (.const (.bool false))) 4]
def F43.r1 : List Oper := [
  op 7 (.assign (.const (.slice none 0 0))) 39]
def F43.r2 : List Oper := [
  ⟨(some 8), (.move (.tmp 0)), 64, "", #[], none⟩,
  ⟨(some 9), (.move (.tmp 0)), 64, "", #[], none⟩,
  ⟨(some 10), (.nilCheck (.tmp 9)), 0, "", #[], none⟩,
  ⟨(some 11), (.fieldAddr 69 (.tmp 10) 0), 0, "", #[], none⟩,
  ⟨(some 13), (.fieldAddr 43 (.tmp 4) 7), 0, "", #[], none⟩,
  ⟨(some 14), (.fieldAddr 41 (.tmp 13) 6), 0, "", #[], none⟩,
  ⟨(some 12), (.load 65 (.tmp 11)), 65, "", #[⟨4608, .data⟩], none⟩,
  ⟨(some 15), (.load 39 (.tmp 14)), 39, "", #[⟨4864, .data⟩], none⟩,
  ⟨(some 16), (.buildSlice 65 1 #[(0, (.tmp 15))]), 65, "", #[⟨8, .chain⟩], none⟩,
  ⟨(some 17), (.call ⟨(.builtin .append), #[(.tmp 12), (.tmp 16)], #[65, 65]⟩), 65, "", #[⟨9, .chain⟩], none⟩,
  ⟨(some 18), (.nilCheck (.tmp 8)), 0, "", #[], none⟩,
  ⟨(some 19), (.fieldAddr 69 (.tmp 18) 0), 0, "", #[], none⟩,
  ⟨none, (.store 65 (.tmp 19) (.tmp 17)), 0, "", #[⟨12, .chain⟩], none⟩]
def F43.r3 : List Oper := [
  ⟨(some 20), (.move (.tmp 0)), 64, "", #[], none⟩,
  ⟨(some 21), (.move (.tmp 0)), 64, "", #[], none⟩,
  ⟨(some 22), (.nilCheck (.tmp 21)), 0, "", #[], none⟩,
  ⟨(some 23), (.fieldAddr 69 (.tmp 22) 1), 0, "", #[], none⟩,
  ⟨(some 25), (.move (.tmp 7)), 39, "", #[], none⟩,
  ⟨(some 26), (.fieldAddr 43 (.tmp 4) 7), 0, "", #[], none⟩,
  ⟨(some 27), (.fieldAddr 41 (.tmp 26) 6), 0, "", #[], none⟩,
  ⟨(some 24), (.load 65 (.tmp 23)), 65, "", #[⟨18432, .data⟩], none⟩,
  ⟨(some 28), (.load 39 (.tmp 27)), 39, "", #[⟨19968, .data⟩], none⟩,
  ⟨(some 29), (.call ⟨(.builtin .append), #[(.tmp 25), (.tmp 28)], #[39, 39]⟩), 39, "", #[⟨9, .chain⟩], none⟩,
  ⟨(some 30), (.buildSlice 65 1 #[(0, (.tmp 29))]), 65, "", #[⟨10, .chain⟩], none⟩,
  ⟨(some 31), (.call ⟨(.builtin .append), #[(.tmp 24), (.tmp 30)], #[65, 65]⟩), 65, "", #[⟨11, .chain⟩], none⟩,
  ⟨(some 32), (.nilCheck (.tmp 20)), 0, "", #[], none⟩,
  ⟨(some 33), (.fieldAddr 69 (.tmp 32) 1), 0, "", #[], none⟩,
  ⟨none, (.store 65 (.tmp 33) (.tmp 31)), 0, "", #[⟨14, .chain⟩], none⟩]
def F43.r4 : List Oper := [
  od 34 (.load 43 (.tmp 4)) 43,
  od 35 (.load 43 (.tmp 5)) 43,
  oc 36 (.call ⟨(.value (.func 16)), #[(.tmp 34), (.tmp 35)], #[43, 43]⟩) 4,
  op 6 (.assign (.tmp 36)) 4]
def F43.code : Cd := (.seq (.region 0 F43.r0.toArray false) (.seq (.region 1 F43.r1.toArray false) (.seq (.region 2 F43.r2.toArray true) (.seq (.region 3 F43.r3.toArray true) (.seq (.region 4 F43.r4.toArray false) .ret)))))
theorem F43.calls (hn : args.size ≤ 37) (h : cwE Try.prog F43.code (fnP Try.prog #[(.tmp 6)] R) (entry args) w) : Calls Try.prog 43 args w R :=
  calls_of_cwE (types := Try.prog.types) follows Try.func43 F43.code rfl (by kernel_rfl) hn h
def F44.r0 : List Oper := [
  oc 3 (.box 45 (.tmp 1)) 0,
  op 4 (.assign (.const (.bool false))) 4]
def F44.r1 : List Oper := [
  op 9 (.fieldAddr 45 (.tmp 3) 3) 0,
  od 10 (.load 43 (.tmp 9)) 43,
  oc 11 (.call ⟨(.value (.func 60)), #[(.tmp 10)], #[43]⟩) 43,
  oc 5 (.alloc 43) 0,
  ⟨none, (.store 43 (.tmp 5) (.tmp 11)), 0, "", #[⟨0, .chain⟩], none⟩]
def F44.r2 : List Oper := [
  op 6 (.assign (.const (.int .i64 0))) 31,
  op 7 (.assign (.const (.int .i64 0))) 31]
def F44.r3 : List Oper := [
  op 12 (.fieldAddr 45 (.tmp 3) 0) 0,
  od 13 (.load 3 (.tmp 12)) 3,
  op 14 (.binOp .eql 3 (.tmp 13) (.const (.int .i64 2)) 3) 4]
def F44.r4 : List Oper := [
  ⟨(some 15), (.move (.tmp 0)), 70, "", #[], none⟩,
  ⟨(some 16), (.nilCheck (.tmp 15)), 0, "", #[], none⟩,
  ⟨(some 17), (.fieldAddr 72 (.tmp 16) 0), 0, "", #[], none⟩,
  ⟨(some 19), (.fieldAddr 45 (.tmp 3) 1), 0, "", #[], none⟩,
  ⟨(some 18), (.load 22 (.tmp 17)), 22, "", #[⟨128, .data⟩], none⟩,
  ⟨(some 20), (.load 35 (.tmp 19)), 35, "", #[⟨128, .data⟩], none⟩,
  ⟨(some 21), (.load 43 (.tmp 5)), 43, "", #[⟨128, .data⟩], none⟩,
  ⟨(some 22), (.call ⟨(.value (.func 22)), #[(.tmp 18), (.tmp 20), (.tmp 21)], #[22, 35, 43]⟩), 31, "", #[⟨7, .chain⟩], none⟩,
  ⟨(some 6), (.assign (.tmp 22)), 31, "", #[], none⟩]
def F44.r5 : List Oper := [
  ⟨(some 23), (.move (.tmp 0)), 70, "", #[], none⟩,
  ⟨(some 24), (.nilCheck (.tmp 23)), 0, "", #[], none⟩,
  ⟨(some 25), (.fieldAddr 72 (.tmp 24) 1), 0, "", #[], none⟩,
  ⟨(some 27), (.fieldAddr 45 (.tmp 3) 1), 0, "", #[], none⟩,
  ⟨(some 29), (.fieldAddr 45 (.tmp 3) 3), 0, "", #[], none⟩,
  ⟨(some 26), (.load 61 (.tmp 25)), 61, "", #[⟨256, .data⟩], none⟩,
  ⟨(some 28), (.load 35 (.tmp 27)), 35, "", #[⟨256, .data⟩], none⟩,
  ⟨(some 30), (.load 43 (.tmp 29)), 43, "", #[⟨256, .data⟩], none⟩,
  ⟨(some 31), (.call ⟨(.value (.func 61)), #[(.tmp 26), (.tmp 28), (.tmp 30)], #[61, 35, 43]⟩), 31, "", #[⟨8, .chain⟩], none⟩,
  ⟨(some 7), (.assign (.tmp 31)), 31, "", #[], none⟩]
def F44.r6 : List Oper := [
  ⟨(some 32), (.move (.tmp 0)), 70, "", #[], none⟩,
  ⟨(some 33), (.nilCheck (.tmp 32)), 0, "", #[], none⟩,
  ⟨(some 34), (.fieldAddr 72 (.tmp 33) 0), 0, "", #[], none⟩,
  ⟨(some 36), (.fieldAddr 45 (.tmp 3) 1), 0, "", #[], none⟩,
  ⟨(some 35), (.load 22 (.tmp 34)), 22, "", #[⟨128, .data⟩], none⟩,
  ⟨(some 37), (.load 35 (.tmp 36)), 35, "", #[⟨128, .data⟩], none⟩,
  ⟨(some 38), (.load 43 (.tmp 5)), 43, "", #[⟨128, .data⟩], none⟩,
  ⟨(some 39), (.call ⟨(.value (.func 32)), #[(.tmp 35), (.tmp 37), (.tmp 38)], #[22, 35, 43]⟩), 31, "", #[⟨7, .chain⟩], none⟩,
  ⟨(some 6), (.assign (.tmp 39)), 31, "", #[], none⟩]
def F44.r7 : List Oper := [
  ⟨(some 40), (.move (.tmp 0)), 70, "", #[], none⟩,
  ⟨(some 41), (.nilCheck (.tmp 40)), 0, "", #[], none⟩,
  ⟨(some 42), (.fieldAddr 72 (.tmp 41) 1), 0, "", #[], none⟩,
  ⟨(some 44), (.fieldAddr 45 (.tmp 3) 1), 0, "", #[], none⟩,
  ⟨(some 46), (.fieldAddr 45 (.tmp 3) 3), 0, "", #[], none⟩,
  ⟨(some 43), (.load 61 (.tmp 42)), 61, "", #[⟨256, .data⟩], none⟩,
  ⟨(some 45), (.load 35 (.tmp 44)), 35, "", #[⟨256, .data⟩], none⟩,
  ⟨(some 47), (.load 43 (.tmp 46)), 43, "", #[⟨256, .data⟩], none⟩,
  ⟨(some 48), (.call ⟨(.value (.func 62)), #[(.tmp 43), (.tmp 45), (.tmp 47)], #[61, 35, 43]⟩), 31, "", #[⟨8, .chain⟩], none⟩,
  ⟨(some 7), (.assign (.tmp 48)), 31, "", #[], none⟩]
def F44.r8 : List Oper := [
  od 49 (.load 43 (.tmp 5)) 43,
  op 50 (.fieldAddr 45 (.tmp 3) 3) 0,
  od 51 (.load 43 (.tmp 50)) 43,
  oc 52 (.call ⟨(.value (.func 63)), #[(.tmp 49), (.tmp 51)], #[43, 43]⟩) 4,
  op 8 (.assign (.tmp 52)) 4]
def F44.r9 : List Oper := [
  op 53 (.move (.tmp 8)) 4,
  op 54 (.move (.tmp 53)) 4,
  og 55 (.move (.tmp 6)) 31 54 true,
  og 56 (.move (.tmp 7)) 31 54 true,
  og 57 (.binOp .eql 31 (.tmp 55) (.tmp 56) 31) 4 54 true,
  op 58 (.pick (.tmp 54) (.tmp 57) (.const (.bool false))) 4,
  op 4 (.assign (.tmp 58)) 4]
def F44.t8 : Cd := (.seq (.region 8 F44.r8.toArray false) (.seq (.region 9 F44.r9.toArray false) .ret))
theorem F44.t8_eq {θ : Tag (F44.t8, Q, e, w)} : cwE P F44.t8 Q e w θ = cwE P (.seq (.region 8 F44.r8.toArray false) (.seq (.region 9 F44.r9.toArray false) .ret)) Q e w := rfl
def F44.code : Cd := (.seq (.region 0 F44.r0.toArray false) (.seq (.region 1 F44.r1.toArray false) (.seq (.region 2 F44.r2.toArray false) (.seq (.seq (.region 3 F44.r3.toArray false) (.cond (.tmp 14) (.seq (.region 4 F44.r4.toArray true) (.region 5 F44.r5.toArray true)) (.seq (.region 6 F44.r6.toArray true) (.region 7 F44.r7.toArray true)))) F44.t8))))
theorem F44.calls (hn : args.size ≤ 59) (h : cwE Try.prog F44.code (fnP Try.prog #[(.tmp 4)] R) (entry args) w) : Calls Try.prog 44 args w R :=
  calls_of_cwE (types := Try.prog.types) follows Try.func44 F44.code rfl (by kernel_rfl) hn h
def F45.r0 : List Oper := [
  oc 4 (.alloc 43) 0,
  op 5 (.assign (.const (.int .i64 0))) 31]
def F45.r1 : List Oper := [
  oc 6 (.alloc 43) 0]
def F45.r2 : List Oper := [
  op 10 (.move (.tmp 0)) 61,
  op 11 (.move (.tmp 1)) 35,
  oc 12 (.call ⟨(.value (.func 58)), #[(.tmp 10), (.tmp 11)], #[61, 35]⟩) 3,
  op 7 (.assign (.tmp 12)) 3]
def F45.r3 : List Oper := [
  op 13 (.move (.tmp 7)) 3,
  op 14 (.binOp .lss 3 (.tmp 13) (.const (.int .i64 0)) 3) 4]
def F45.r4 : List Oper := [
  od 15 (.load 43 (.tmp 6)) 43,
  ⟨none, (.store 43 (.tmp 4) (.tmp 15)), 0, "", #[⟨0, .chain⟩], none⟩,
  op 5 (.assign (.const (.int .i64 100))) 31]
def F45.r5 : List Oper := [
  op 16 (.move (.tmp 0)) 61,
  op 17 (.nilCheck (.tmp 16)) 0,
  op 18 (.fieldAddr 94 (.tmp 17) 1) 0,
  od 19 (.load 28 (.tmp 18)) 28,
  op 20 (.move (.tmp 7)) 3,
  op 21 (.indexAddr 28 (.tmp 19) (.tmp 20)) 0,
  op 22 (.fieldAddr 48 (.tmp 21) 1) 0,
  od 23 (.load 43 (.tmp 22)) 43,
  oc 8 (.alloc 43) 0,
  ⟨none, (.store 43 (.tmp 8) (.tmp 23)), 0, "", #[⟨0, .chain⟩], none⟩]
def F45.r6 : List Oper := [
  op 9 (.assign (.const (.slice none 0 0))) 28]
def F45.r7 : List Oper := [
  op 24 (.move (.tmp 9)) 28,
  op 25 (.move (.tmp 0)) 61,
  op 26 (.nilCheck (.tmp 25)) 0,
  op 27 (.fieldAddr 94 (.tmp 26) 1) 0,
  od 28 (.load 28 (.tmp 27)) 28,
  op 29 (.move (.tmp 7)) 3,
  op 30 (.slice 28 (.tmp 28) none (some (.tmp 29)) none) 28,
  oc 31 (.call ⟨(.builtin .append), #[(.tmp 24), (.tmp 30)], #[28, 28]⟩) 28,
  op 9 (.assign (.tmp 31)) 28]
def F45.r8 : List Oper := [
  op 32 (.move (.tmp 9)) 28,
  op 33 (.move (.tmp 0)) 61,
  op 34 (.nilCheck (.tmp 33)) 0,
  op 35 (.fieldAddr 94 (.tmp 34) 1) 0,
  od 36 (.load 28 (.tmp 35)) 28,
  op 37 (.move (.tmp 7)) 3,
  op 38 (.binOp .add 3 (.tmp 37) (.const (.int .i64 1)) 3) 3,
  op 39 (.slice 28 (.tmp 36) (some (.tmp 38)) none none) 28,
  oc 40 (.call ⟨(.builtin .append), #[(.tmp 32), (.tmp 39)], #[28, 28]⟩) 28,
  op 9 (.assign (.tmp 40)) 28]
def F45.r9 : List Oper := [
  op 41 (.move (.tmp 0)) 61,
  op 42 (.move (.tmp 9)) 28,
  op 43 (.nilCheck (.tmp 41)) 0,
  op 44 (.fieldAddr 94 (.tmp 43) 1) 0,
  ⟨none, (.store 28 (.tmp 44) (.tmp 42)), 0, "", #[⟨0, .chain⟩], none⟩]
def F45.r10 : List Oper := [
  od 45 (.load 43 (.tmp 8)) 43,
  ⟨none, (.store 43 (.tmp 4) (.tmp 45)), 0, "", #[⟨0, .chain⟩], none⟩,
  op 5 (.assign (.const (.int .i64 0))) 31]
def F45.t5 : Cd := (.seq (.region 5 F45.r5.toArray false) (.seq (.region 6 F45.r6.toArray false) (.seq (.region 7 F45.r7.toArray false) (.seq (.region 8 F45.r8.toArray false) (.seq (.region 9 F45.r9.toArray false) (.seq (.region 10 F45.r10.toArray false) .ret))))))
theorem F45.t5_eq {θ : Tag (F45.t5, Q, e, w)} : cwE P F45.t5 Q e w θ = cwE P (.seq (.region 5 F45.r5.toArray false) (.seq (.region 6 F45.r6.toArray false) (.seq (.region 7 F45.r7.toArray false) (.seq (.region 8 F45.r8.toArray false) (.seq (.region 9 F45.r9.toArray false) (.seq (.region 10 F45.r10.toArray false) .ret)))))) Q e w := rfl
def F45.code : Cd := (.seq (.region 0 F45.r0.toArray false) (.seq (.region 1 F45.r1.toArray false) (.seq (.region 2 F45.r2.toArray false) (.seq (.seq (.region 3 F45.r3.toArray false) (.cond (.tmp 14) (.seq (.region 4 F45.r4.toArray false) .ret) .skip)) F45.t5))))
theorem F45.calls (hn : args.size ≤ 46) (h : cwE Try.prog F45.code (fnP Try.prog #[(.cell 4 43), (.tmp 5)] R) (entry args) w) : Calls Try.prog 45 args w R :=
  calls_of_cwE (types := Try.prog.types) follows Try.func45 F45.code rfl (by kernel_rfl) hn h
def F46.r0 : List Oper := [
  oc 4 (.box 70 (.tmp 0)) 0,
  oc 5 (.box 64 (.tmp 1)) 0,
  oc 6 (.box 3 (.tmp 2)) 0,
  oc 7 (.box 35 (.tmp 3)) 0,
  oc 8 (.alloc 4) 0]
def F46.r1 : List Oper := [
  od 18 (.load 70 (.tmp 4)) 70,
  op 19 (.nilCheck (.tmp 18)) 0,
  op 20 (.fieldAddr 72 (.tmp 19) 0) 0,
  od 21 (.load 22 (.tmp 20)) 22,
  oc 22 (.call ⟨(.value (.func 31)), #[(.tmp 21)], #[22]⟩) 81,
  oc 9 (.alloc 81) 0,
  ⟨none, (.store 81 (.tmp 9) (.tmp 22)), 0, "", #[⟨0, .chain⟩], none⟩]
def F46.r2 : List Oper := [
  od 23 (.load 81 (.tmp 9)) 81,
  op 24 (.binOp .eql 81 (.tmp 23) (.const .nilFunc) 81) 4]
def F46.r3 : List Oper := [
  ⟨none, (.store 4 (.tmp 8) (.const (.bool false))), 0, "", #[⟨0, .chain⟩], none⟩]
def F46.r4 : List Oper := [
  oc 10 (.alloc 3) 0,
  ⟨none, (.store 3 (.tmp 10) (.const (.int .i64 0))), 0, "", #[⟨0, .chain⟩], none⟩]
def F46.r5 : List Oper := [
  od 25 (.load 3 (.tmp 10)) 3,
  op 26 (.binOp .lss 3 (.tmp 25) (.const (.int .i64 3)) 3) 4]
def F46.r7 : List Oper := [
  od 29 (.load 70 (.tmp 4)) 70,
  op 30 (.nilCheck (.tmp 29)) 0,
  op 31 (.fieldAddr 72 (.tmp 30) 1) 0,
  od 32 (.load 61 (.tmp 31)) 61,
  oc 33 (.call ⟨(.value (.func 50)), #[(.tmp 32)], #[61]⟩) 28,
  oc 11 (.alloc 28) 0,
  ⟨none, (.store 28 (.tmp 11) (.tmp 33)), 0, "", #[⟨0, .chain⟩], none⟩]
def F46.r8 : List Oper := [
  oc 12 (.alloc 3) 0,
  ⟨none, (.store 3 (.tmp 12) (.const (.int .i64 0))), 0, "", #[⟨0, .chain⟩], none⟩]
def F46.r9 : List Oper := [
  od 34 (.load 81 (.tmp 9)) 81]
def F46.r10 : List Oper := [
  op 13 (.assign (.tmp 35)) 35]
def F46.r11 : List Oper := [
  oc 14 (.alloc 43) 0,
  ⟨none, (.store 43 (.tmp 14) (.tmp 36)), 0, "", #[⟨0, .chain⟩], none⟩]
def F46.r12 : List Oper := [
  od 37 (.load 3 (.tmp 12)) 3,
  od 38 (.load 28 (.tmp 11)) 28,
  op 39 (.call ⟨(.builtin .len), #[(.tmp 38)], #[28]⟩) 3,
  op 40 (.binOp .geq 3 (.tmp 37) (.tmp 39) 3) 4,
  op 41 (.move (.tmp 40)) 4,
  og 42 (.move (.tmp 13)) 35 41 false,
  ⟨(some 43), (.load 28 (.tmp 11)), 28, "", #[⟨0, .data⟩], (some (41, false))⟩,
  ⟨(some 44), (.load 3 (.tmp 12)), 3, "", #[⟨0, .data⟩], (some (41, false))⟩,
  og 45 (.indexAddr 28 (.tmp 43) (.tmp 44)) 0 41 false,
  og 46 (.fieldAddr 48 (.tmp 45) 0) 0 41 false,
  ⟨(some 47), (.load 35 (.tmp 46)), 35, "", #[⟨0, .data⟩], (some (41, false))⟩,
  og 48 (.binOp .neq 35 (.tmp 42) (.tmp 47) 35) 4 41 false,
  op 49 (.pick (.tmp 41) (.const (.bool true)) (.tmp 48)) 4]
def F46.r13 : List Oper := [
  ⟨none, (.store 4 (.tmp 8) (.const (.bool false))), 0, "", #[⟨0, .chain⟩], none⟩]
def F46.r14 : List Oper := [
  ⟨(some 50), (.load 64 (.tmp 5)), 64, "", #[⟨128, .data⟩], none⟩,
  ⟨(some 51), (.load 43 (.tmp 14)), 43, "", #[⟨128, .data⟩], none⟩,
  ⟨(some 52), (.load 28 (.tmp 11)), 28, "", #[⟨128, .data⟩], none⟩,
  ⟨(some 53), (.load 3 (.tmp 12)), 3, "", #[⟨128, .data⟩], none⟩,
  ⟨(some 54), (.indexAddr 28 (.tmp 52) (.tmp 53)), 0, "", #[], none⟩,
  ⟨(some 55), (.fieldAddr 48 (.tmp 54) 1), 0, "", #[], none⟩,
  ⟨(some 56), (.load 43 (.tmp 55)), 43, "", #[⟨128, .data⟩], none⟩,
  ⟨(some 57), (.call ⟨(.value (.func 43)), #[(.tmp 50), (.tmp 51), (.tmp 56)], #[64, 43, 43]⟩), 4, "", #[⟨7, .chain⟩], none⟩,
  ⟨(some 15), (.assign (.tmp 57)), 4, "", #[], none⟩]
def F46.r15 : List Oper := [
  op 58 (.move (.tmp 15)) 4,
  op 59 (.unOp .not 4 (.tmp 58)) 4]
def F46.r16 : List Oper := [
  ⟨none, (.store 4 (.tmp 8) (.const (.bool false))), 0, "", #[⟨0, .chain⟩], none⟩]
def F46.r17 : List Oper := [
  od 60 (.load 3 (.tmp 12)) 3,
  op 61 (.binOp .add 3 (.tmp 60) (.const (.int .i64 1)) 3) 3,
  ⟨none, (.store 3 (.tmp 12) (.tmp 61)), 0, "", #[⟨0, .chain⟩], none⟩]
def F46.r18 : List Oper := [
  oc 16 (.alloc 3) 0,
  ⟨none, (.store 3 (.tmp 16) (.const (.int .i64 0))), 0, "", #[⟨0, .chain⟩], none⟩]
def F46.r19 : List Oper := [
  od 62 (.load 81 (.tmp 9)) 81]
def F46.r20 : List Oper := [
  op 17 (.assign (.tmp 63)) 35]
def F46.r21 : List Oper := [
  od 65 (.load 3 (.tmp 10)) 3,
  op 66 (.binOp .eql 3 (.tmp 65) (.const (.int .i64 1)) 3) 4,
  op 67 (.move (.tmp 66)) 4,
  ⟨(some 68), (.load 3 (.tmp 16)), 3, "", #[⟨0, .data⟩], (some (67, true))⟩,
  ⟨(some 69), (.load 28 (.tmp 11)), 28, "", #[⟨0, .data⟩], (some (67, true))⟩,
  og 70 (.call ⟨(.builtin .len), #[(.tmp 69)], #[28]⟩) 3 67 true,
  og 71 (.binOp .geq 3 (.tmp 68) (.tmp 70) 3) 4 67 true,
  og 72 (.move (.tmp 71)) 4 67 true,
  og 73 (.move (.tmp 17)) 35 72 false,
  ⟨(some 74), (.load 28 (.tmp 11)), 28, "", #[⟨0, .data⟩], (some (72, false))⟩,
  ⟨(some 75), (.load 3 (.tmp 16)), 3, "", #[⟨0, .data⟩], (some (72, false))⟩,
  og 76 (.indexAddr 28 (.tmp 74) (.tmp 75)) 0 72 false,
  og 77 (.fieldAddr 48 (.tmp 76) 0) 0 72 false,
  ⟨(some 78), (.load 35 (.tmp 77)), 35, "", #[⟨0, .data⟩], (some (72, false))⟩,
  og 79 (.binOp .neq 35 (.tmp 73) (.tmp 78) 35) 4 72 false,
  og 80 (.pick (.tmp 72) (.const (.bool true)) (.tmp 79)) 4 67 true,
  op 81 (.pick (.tmp 67) (.tmp 80) (.const (.bool false))) 4]
def F46.r22 : List Oper := [
  ⟨none, (.store 4 (.tmp 8) (.const (.bool false))), 0, "", #[⟨0, .chain⟩], none⟩]
def F46.r23 : List Oper := [
  od 82 (.load 3 (.tmp 16)) 3,
  op 83 (.binOp .add 3 (.tmp 82) (.const (.int .i64 1)) 3) 3,
  ⟨none, (.store 3 (.tmp 16) (.tmp 83)), 0, "", #[⟨0, .chain⟩], none⟩]
def F46.r24 : List Oper := [
  od 84 (.load 3 (.tmp 10)) 3,
  op 85 (.binOp .eql 3 (.tmp 84) (.const (.int .i64 0)) 3) 4,
  op 86 (.move (.tmp 85)) 4,
  ⟨(some 87), (.load 3 (.tmp 12)), 3, "", #[⟨0, .data⟩], (some (86, true))⟩,
  ⟨(some 88), (.load 3 (.tmp 6)), 3, "", #[⟨0, .data⟩], (some (86, true))⟩,
  og 89 (.binOp .eql 3 (.tmp 87) (.tmp 88) 3) 4 86 true,
  op 90 (.pick (.tmp 86) (.tmp 89) (.const (.bool false))) 4]
def F46.r25 : List Oper := [
  od 91 (.load 3 (.tmp 10)) 3,
  op 92 (.binOp .eql 3 (.tmp 91) (.const (.int .i64 2)) 3) 4,
  op 93 (.move (.tmp 92)) 4,
  ⟨(some 94), (.load 3 (.tmp 12)), 3, "", #[⟨0, .data⟩], (some (93, true))⟩,
  og 95 (.binOp .eql 3 (.tmp 94) (.const (.int .i64 1)) 3) 4 93 true,
  op 96 (.pick (.tmp 93) (.tmp 95) (.const (.bool false))) 4]
def F46.r26 : List Oper := [
  ⟨(some 97), (.load 70 (.tmp 4)), 70, "", #[⟨32, .data⟩], none⟩,
  ⟨(some 98), (.nilCheck (.tmp 97)), 0, "", #[], none⟩,
  ⟨(some 99), (.fieldAddr 72 (.tmp 98) 0), 0, "", #[], none⟩,
  ⟨(some 100), (.load 22 (.tmp 99)), 22, "", #[⟨32, .data⟩], none⟩,
  ⟨(some 101), (.load 35 (.tmp 7)), 35, "", #[⟨32, .data⟩], none⟩,
  ⟨(some 102), (.call ⟨(.value (.func 33)), #[(.tmp 100), (.tmp 101)], #[22, 35]⟩), 78, "", #[⟨5, .chain⟩], none⟩]
def F46.r27 : List Oper := [
  ⟨(some 103), (.load 70 (.tmp 4)), 70, "", #[⟨32, .data⟩], none⟩,
  ⟨(some 104), (.nilCheck (.tmp 103)), 0, "", #[], none⟩,
  ⟨(some 105), (.fieldAddr 72 (.tmp 104) 1), 0, "", #[], none⟩,
  ⟨(some 106), (.load 61 (.tmp 105)), 61, "", #[⟨32, .data⟩], none⟩,
  ⟨(some 107), (.load 35 (.tmp 7)), 35, "", #[⟨32, .data⟩], none⟩,
  ⟨(some 108), (.call ⟨(.value (.func 45)), #[(.tmp 106), (.tmp 107)], #[61, 35]⟩), 78, "", #[⟨5, .chain⟩], none⟩]
def F46.r28 : List Oper := [
  od 109 (.load 3 (.tmp 12)) 3,
  od 110 (.load 28 (.tmp 11)) 28,
  op 111 (.call ⟨(.builtin .len), #[(.tmp 110)], #[28]⟩) 3,
  op 112 (.binOp .neq 3 (.tmp 109) (.tmp 111) 3) 4,
  op 113 (.move (.tmp 112)) 4,
  ⟨(some 114), (.load 3 (.tmp 10)), 3, "", #[⟨0, .data⟩], (some (113, true))⟩,
  og 115 (.binOp .gtr 3 (.tmp 114) (.const (.int .i64 0)) 3) 4 113 true,
  og 116 (.move (.tmp 115)) 4 113 true,
  ⟨(some 117), (.load 3 (.tmp 12)), 3, "", #[⟨0, .data⟩], (some (116, false))⟩,
  ⟨(some 118), (.load 3 (.tmp 6)), 3, "", #[⟨0, .data⟩], (some (116, false))⟩,
  og 119 (.binOp .neq 3 (.tmp 117) (.tmp 118) 3) 4 116 false,
  og 120 (.pick (.tmp 116) (.const (.bool true)) (.tmp 119)) 4 113 true,
  op 121 (.pick (.tmp 113) (.tmp 120) (.const (.bool false))) 4]
def F46.r29 : List Oper := [
  ⟨none, (.store 4 (.tmp 8) (.const (.bool false))), 0, "", #[⟨0, .chain⟩], none⟩]
def F46.r30 : List Oper := [
  od 122 (.load 3 (.tmp 10)) 3]
def F46.r31 : List Oper := [
  oc 10 (.alloc 3) 0,
  ⟨none, (.store 3 (.tmp 10) (.tmp 122)), 0, "", #[⟨0, .chain⟩], none⟩]
def F46.r6 : List Oper := [
  od 27 (.load 3 (.tmp 10)) 3,
  op 28 (.binOp .add 3 (.tmp 27) (.const (.int .i64 1)) 3) 3,
  ⟨none, (.store 3 (.tmp 10) (.tmp 28)), 0, "", #[⟨0, .chain⟩], none⟩]
def F46.r32 : List Oper := [
  ⟨none, (.store 4 (.tmp 8) (.const (.bool true))), 0, "", #[⟨0, .chain⟩], none⟩]
def F46.a0 : Cd := (.region 20 F46.r20.toArray false)
def F46.b0 : Cd := (.block 5 (.seq (.seq (.region 21 F46.r21.toArray false) (.cond (.tmp 81) (.seq (.region 22 F46.r22.toArray false) .ret) .skip)) (.region 23 F46.r23.toArray false)))
def F46.a1 : Cd := (.seq (.region 10 F46.r10.toArray false) (.region 11 F46.r11.toArray false))
def F46.b1 : Cd := (.block 3 (.seq (.seq (.region 12 F46.r12.toArray false) (.cond (.tmp 49) (.seq (.region 13 F46.r13.toArray false) .ret) .skip)) (.seq (.region 14 F46.r14.toArray true) (.seq (.seq (.region 15 F46.r15.toArray false) (.cond (.tmp 59) (.seq (.region 16 F46.r16.toArray false) .ret) .skip)) (.seq (.region 17 F46.r17.toArray false) (.seq (.region 18 F46.r18.toArray false) (.seq (.seq (.region 19 F46.r19.toArray false) (.block 4 (.rangeFunc (.tmp 62) #[63, 64] F46.a0 F46.b0))) (.seq (.seq (.region 24 F46.r24.toArray false) (.cond (.tmp 90) (.exit 2) .skip)) (.seq (.region 25 F46.r25.toArray false) (.cond (.tmp 96) (.seq (.region 26 F46.r26.toArray true) (.region 27 F46.r27.toArray true)) .skip))))))))))
def F46.t28 : Cd := (.seq (.region 28 F46.r28.toArray false) (.cond (.tmp 121) (.seq (.region 29 F46.r29.toArray false) .ret) .skip))
theorem F46.t28_eq {θ : Tag (F46.t28, Q, e, w)} : cwE P F46.t28 Q e w θ = cwE P (.seq (.region 28 F46.r28.toArray false) (.cond (.tmp 121) (.seq (.region 29 F46.r29.toArray false) .ret) .skip)) Q e w := rfl
def F46.t30 : Cd := (.seq (.seq (.region 30 F46.r30.toArray false) (.region 31 F46.r31.toArray false)) (.region 6 F46.r6.toArray false))
theorem F46.t30_eq {θ : Tag (F46.t30, Q, e, w)} : cwE P F46.t30 Q e w θ = cwE P (.seq (.seq (.region 30 F46.r30.toArray false) (.region 31 F46.r31.toArray false)) (.region 6 F46.r6.toArray false)) Q e w := rfl
def F46.t7 : Cd := (.seq (.block 1 (.seq (.region 7 F46.r7.toArray false) (.seq (.region 8 F46.r8.toArray false) (.seq (.seq (.region 9 F46.r9.toArray false) (.block 2 (.rangeFunc (.tmp 34) #[35, 36] F46.a1 F46.b1))) F46.t28)))) F46.t30)
theorem F46.t7_eq {θ : Tag (F46.t7, Q, e, w)} : cwE P F46.t7 Q e w θ = cwE P (.seq (.block 1 (.seq (.region 7 F46.r7.toArray false) (.seq (.region 8 F46.r8.toArray false) (.seq (.seq (.region 9 F46.r9.toArray false) (.block 2 (.rangeFunc (.tmp 34) #[35, 36] F46.a1 F46.b1))) F46.t28)))) F46.t30) Q e w := rfl
def F46.t32 : Cd := (.seq (.region 32 F46.r32.toArray false) .ret)
theorem F46.t32_eq {θ : Tag (F46.t32, Q, e, w)} : cwE P F46.t32 Q e w θ = cwE P (.seq (.region 32 F46.r32.toArray false) .ret) Q e w := rfl
def F46.t4 : Cd := (.seq (.seq (.region 4 F46.r4.toArray false) (.block 0 (.loop (.seq (.seq (.region 5 F46.r5.toArray false) (.cond (.tmp 26) .skip (.exit 0))) F46.t7)))) F46.t32)
theorem F46.t4_eq {θ : Tag (F46.t4, Q, e, w)} : cwE P F46.t4 Q e w θ = cwE P (.seq (.seq (.region 4 F46.r4.toArray false) (.block 0 (.loop (.seq (.seq (.region 5 F46.r5.toArray false) (.cond (.tmp 26) .skip (.exit 0))) F46.t7)))) F46.t32) Q e w := rfl
def F46.code : Cd := (.seq (.region 0 F46.r0.toArray false) (.seq (.region 1 F46.r1.toArray false) (.seq (.seq (.region 2 F46.r2.toArray false) (.cond (.tmp 24) (.seq (.region 3 F46.r3.toArray false) .ret) .skip)) F46.t4)))
theorem F46.calls (hn : args.size ≤ 123) (h : cwE Try.prog F46.code (fnP Try.prog #[(.cell 8 4)] R) (entry args) w) : Calls Try.prog 46 args w R :=
  calls_of_cwE (types := Try.prog.types) follows Try.func46 F46.code rfl (by kernel_rfl) hn h
def F47.r0 : List Oper := [
  op 6 (.assign (.const (.bool false))) 4]
def F47.r1 : List Oper := [
  op 9 (.move (.tmp 1)) 28,
  op 10 (.call ⟨(.builtin .len), #[(.tmp 9)], #[28]⟩) 3,
  op 11 (.move (.tmp 2)) 28,
  op 12 (.call ⟨(.builtin .len), #[(.tmp 11)], #[28]⟩) 3,
  op 13 (.binOp .neq 3 (.tmp 10) (.tmp 12) 3) 4]
def F47.r2 : List Oper := [
  op 6 (.assign (.const (.bool false))) 4]
def F47.r3 : List Oper := [
  op 7 (.assign (.const (.int .i64 0))) 3]
def F47.r4 : List Oper := [
  op 14 (.move (.tmp 7)) 3,
  op 15 (.move (.tmp 1)) 28,
  op 16 (.call ⟨(.builtin .len), #[(.tmp 15)], #[28]⟩) 3,
  op 17 (.binOp .lss 3 (.tmp 14) (.tmp 16) 3) 4]
def F47.r6 : List Oper := [
  ⟨(some 20), (.move (.tmp 0)), 64, "", #[], none⟩,
  ⟨(some 21), (.move (.tmp 1)), 28, "", #[], none⟩,
  ⟨(some 22), (.move (.tmp 7)), 3, "", #[], none⟩,
  ⟨(some 23), (.indexAddr 28 (.tmp 21) (.tmp 22)), 0, "", #[], none⟩,
  ⟨(some 24), (.fieldAddr 48 (.tmp 23) 1), 0, "", #[], none⟩,
  ⟨(some 26), (.move (.tmp 2)), 28, "", #[], none⟩,
  ⟨(some 27), (.move (.tmp 7)), 3, "", #[], none⟩,
  ⟨(some 28), (.indexAddr 28 (.tmp 26) (.tmp 27)), 0, "", #[], none⟩,
  ⟨(some 29), (.fieldAddr 48 (.tmp 28) 1), 0, "", #[], none⟩,
  ⟨(some 25), (.load 43 (.tmp 24)), 43, "", #[⟨2048, .data⟩], none⟩,
  ⟨(some 30), (.load 43 (.tmp 29)), 43, "", #[⟨2048, .data⟩], none⟩,
  ⟨(some 31), (.call ⟨(.value (.func 43)), #[(.tmp 20), (.tmp 25), (.tmp 30)], #[64, 43, 43]⟩), 4, "", #[⟨11, .chain⟩], none⟩,
  ⟨(some 8), (.assign (.tmp 31)), 4, "", #[], none⟩]
def F47.r7 : List Oper := [
  ⟨(some 32), (.move (.tmp 8)), 4, "", #[], none⟩,
  ⟨(some 33), (.unOp .not 4 (.tmp 32)), 4, "", #[], none⟩,
  ⟨(some 34), (.move (.tmp 33)), 4, "", #[], none⟩,
  og 35 (.move (.tmp 1)) 28 34 false,
  og 36 (.move (.tmp 7)) 3 34 false,
  og 37 (.indexAddr 28 (.tmp 35) (.tmp 36)) 0 34 false,
  og 38 (.fieldAddr 48 (.tmp 37) 0) 0 34 false,
  og 40 (.move (.tmp 2)) 28 34 false,
  og 41 (.move (.tmp 7)) 3 34 false,
  og 42 (.indexAddr 28 (.tmp 40) (.tmp 41)) 0 34 false,
  og 43 (.fieldAddr 48 (.tmp 42) 0) 0 34 false,
  ⟨(some 39), (.load 35 (.tmp 38)), 35, "", #[⟨0, .data⟩], (some (34, false))⟩,
  ⟨(some 44), (.load 35 (.tmp 43)), 35, "", #[⟨0, .data⟩], (some (34, false))⟩,
  og 45 (.binOp .neq 35 (.tmp 39) (.tmp 44) 35) 4 34 false,
  ⟨(some 46), (.pick (.tmp 34) (.const (.bool true)) (.tmp 45)), 4, "", #[], none⟩]
def F47.r8 : List Oper := [
  op 6 (.assign (.const (.bool false))) 4]
def F47.r5 : List Oper := [
  op 18 (.move (.tmp 7)) 3,
  op 19 (.binOp .add 3 (.tmp 18) (.const (.int .i64 1)) 3) 3,
  op 7 (.assign (.tmp 19)) 3]
def F47.r9 : List Oper := [
  op 47 (.move (.tmp 0)) 64,
  op 48 (.move (.tmp 0)) 64,
  op 49 (.nilCheck (.tmp 48)) 0,
  op 50 (.fieldAddr 69 (.tmp 49) 2) 0,
  od 51 (.load 66 (.tmp 50)) 66,
  op 52 (.move (.tmp 1)) 28,
  oc 53 (.buildSlice 66 1 #[(0, (.tmp 52))]) 66,
  oc 54 (.call ⟨(.builtin .append), #[(.tmp 51), (.tmp 53)], #[66, 66]⟩) 66,
  op 55 (.nilCheck (.tmp 47)) 0,
  op 56 (.fieldAddr 69 (.tmp 55) 2) 0,
  ⟨none, (.store 66 (.tmp 56) (.tmp 54)), 0, "", #[⟨0, .chain⟩], none⟩]
def F47.r10 : List Oper := [
  op 57 (.move (.tmp 0)) 64,
  op 58 (.move (.tmp 0)) 64,
  op 59 (.nilCheck (.tmp 58)) 0,
  op 60 (.fieldAddr 69 (.tmp 59) 3) 0,
  od 61 (.load 67 (.tmp 60)) 67,
  op 62 (.move (.tmp 1)) 28,
  op 63 (.call ⟨(.builtin .len), #[(.tmp 62)], #[28]⟩) 3,
  oc 64 (.buildSlice 67 1 #[(0, (.tmp 63))]) 67,
  oc 65 (.call ⟨(.builtin .append), #[(.tmp 61), (.tmp 64)], #[67, 67]⟩) 67,
  op 66 (.nilCheck (.tmp 57)) 0,
  op 67 (.fieldAddr 69 (.tmp 66) 3) 0,
  ⟨none, (.store 67 (.tmp 67) (.tmp 65)), 0, "", #[⟨0, .chain⟩], none⟩]
def F47.r11 : List Oper := [
  op 6 (.assign (.const (.bool true))) 4]
def F47.t5 : Cd := (.region 5 F47.r5.toArray false)
theorem F47.t5_eq {θ : Tag (F47.t5, Q, e, w)} : cwE P F47.t5 Q e w θ = cwE P (.region 5 F47.r5.toArray false) Q e w := rfl
def F47.t6 : Cd := (.seq (.block 1 (.seq (.region 6 F47.r6.toArray true) (.seq (.region 7 F47.r7.toArray true) (.cond (.tmp 46) (.seq (.region 8 F47.r8.toArray false) .ret) .skip)))) F47.t5)
theorem F47.t6_eq {θ : Tag (F47.t6, Q, e, w)} : cwE P F47.t6 Q e w θ = cwE P (.seq (.block 1 (.seq (.region 6 F47.r6.toArray true) (.seq (.region 7 F47.r7.toArray true) (.cond (.tmp 46) (.seq (.region 8 F47.r8.toArray false) .ret) .skip)))) F47.t5) Q e w := rfl
def F47.t9 : Cd := (.seq (.region 9 F47.r9.toArray false) (.seq (.region 10 F47.r10.toArray false) (.seq (.region 11 F47.r11.toArray false) .ret)))
theorem F47.t9_eq {θ : Tag (F47.t9, Q, e, w)} : cwE P F47.t9 Q e w θ = cwE P (.seq (.region 9 F47.r9.toArray false) (.seq (.region 10 F47.r10.toArray false) (.seq (.region 11 F47.r11.toArray false) .ret))) Q e w := rfl
def F47.t3 : Cd := (.seq (.seq (.region 3 F47.r3.toArray false) (.block 0 (.loop (.seq (.seq (.region 4 F47.r4.toArray false) (.cond (.tmp 17) .skip (.exit 0))) F47.t6)))) F47.t9)
theorem F47.t3_eq {θ : Tag (F47.t3, Q, e, w)} : cwE P F47.t3 Q e w θ = cwE P (.seq (.seq (.region 3 F47.r3.toArray false) (.block 0 (.loop (.seq (.seq (.region 4 F47.r4.toArray false) (.cond (.tmp 17) .skip (.exit 0))) F47.t6)))) F47.t9) Q e w := rfl
def F47.code : Cd := (.seq (.region 0 F47.r0.toArray false) (.seq (.seq (.region 1 F47.r1.toArray false) (.cond (.tmp 13) (.seq (.region 2 F47.r2.toArray false) .ret) .skip)) F47.t3))
theorem F47.calls (hn : args.size ≤ 68) (h : cwE Try.prog F47.code (fnP Try.prog #[(.tmp 6)] R) (entry args) w) : Calls Try.prog 47 args w R :=
  calls_of_cwE (types := Try.prog.types) follows Try.func47 F47.code rfl (by kernel_rfl) hn h
def F48.r0 : List Oper := [
  op 2 (.assign (.const (.slice none 0 0))) 28]
def F48.r1 : List Oper := [
  op 4 (.move (.tmp 0)) 61,
  oc 5 (.call ⟨(.value (.func 50)), #[(.tmp 4)], #[61]⟩) 28,
  op 3 (.assign (.tmp 5)) 28]
def F48.r2 : List Oper := [
  op 6 (.move (.tmp 0)) 61,
  op 7 (.nilCheck (.tmp 6)) 0,
  op 8 (.fieldAddr 94 (.tmp 7) 1) 0,
  ⟨none, (.store 28 (.tmp 8) (.const (.slice none 0 0))), 0, "", #[⟨0, .chain⟩], none⟩]
def F48.r3 : List Oper := [
  op 9 (.move (.tmp 3)) 28,
  op 2 (.assign (.tmp 9)) 28]
def F48.code : Cd := (.seq (.region 0 F48.r0.toArray false) (.seq (.region 1 F48.r1.toArray false) (.seq (.region 2 F48.r2.toArray false) (.seq (.region 3 F48.r3.toArray false) .ret))))
theorem F48.calls (hn : args.size ≤ 10) (h : cwE Try.prog F48.code (fnP Try.prog #[(.tmp 2)] R) (entry args) w) : Calls Try.prog 48 args w R :=
  calls_of_cwE (types := Try.prog.types) follows Try.func48 F48.code rfl (by kernel_rfl) hn h
def F49.r0 : List Oper := [
  oc 3 (.box 45 (.tmp 1)) 0,
  op 4 (.assign (.const (.bool false))) 4]
def F49.r1 : List Oper := [
  op 11 (.fieldAddr 45 (.tmp 3) 0) 0,
  od 12 (.load 3 (.tmp 11)) 3]
def F49.r2 : List Oper := [
  op 14 (.binOp .eql 3 (.tmp 12) (.const (.int .i64 5)) 3) 4,
  op 13 (.assign (.tmp 14)) 4]
def F49.r3 : List Oper := [
  ⟨(some 15), (.move (.tmp 0)), 70, "", #[], none⟩,
  ⟨(some 16), (.nilCheck (.tmp 15)), 0, "", #[], none⟩,
  ⟨(some 17), (.fieldAddr 72 (.tmp 16) 0), 0, "", #[], none⟩,
  ⟨(some 19), (.fieldAddr 45 (.tmp 3) 1), 0, "", #[], none⟩,
  ⟨(some 21), (.fieldAddr 45 (.tmp 3) 2), 0, "", #[], none⟩,
  ⟨(some 18), (.load 22 (.tmp 17)), 22, "", #[⟨256, .data⟩], none⟩,
  ⟨(some 20), (.load 35 (.tmp 19)), 35, "", #[⟨256, .data⟩], none⟩,
  ⟨(some 22), (.load 35 (.tmp 21)), 35, "", #[⟨256, .data⟩], none⟩,
  ⟨(some 23), (.call ⟨(.value (.func 36)), #[(.tmp 18), (.tmp 20), (.tmp 22)], #[22, 35, 35]⟩), 31, "", #[⟨8, .chain⟩], none⟩,
  ⟨(some 5), (.assign (.tmp 23)), 31, "", #[], none⟩]
def F49.r4 : List Oper := [
  ⟨(some 24), (.move (.tmp 5)), 31, "", #[], none⟩,
  ⟨(some 25), (.move (.tmp 0)), 70, "", #[], none⟩,
  ⟨(some 26), (.nilCheck (.tmp 25)), 0, "", #[], none⟩,
  ⟨(some 27), (.fieldAddr 72 (.tmp 26) 1), 0, "", #[], none⟩,
  ⟨(some 29), (.fieldAddr 45 (.tmp 3) 1), 0, "", #[], none⟩,
  ⟨(some 31), (.fieldAddr 45 (.tmp 3) 2), 0, "", #[], none⟩,
  ⟨(some 28), (.load 61 (.tmp 27)), 61, "", #[⟨512, .data⟩], none⟩,
  ⟨(some 30), (.load 35 (.tmp 29)), 35, "", #[⟨512, .data⟩], none⟩,
  ⟨(some 32), (.load 35 (.tmp 31)), 35, "", #[⟨512, .data⟩], none⟩,
  ⟨(some 33), (.call ⟨(.value (.func 64)), #[(.tmp 28), (.tmp 30), (.tmp 32)], #[61, 35, 35]⟩), 31, "", #[⟨9, .chain⟩], none⟩,
  ⟨(some 34), (.binOp .eql 31 (.tmp 24) (.tmp 33) 31), 4, "", #[], none⟩,
  ⟨(some 4), (.assign (.tmp 34)), 4, "", #[], none⟩]
def F49.r5 : List Oper := [
  op 36 (.binOp .eql 3 (.tmp 12) (.const (.int .i64 6)) 3) 4,
  op 35 (.assign (.tmp 36)) 4]
def F49.r6 : List Oper := [
  ⟨(some 37), (.move (.tmp 0)), 70, "", #[], none⟩,
  ⟨(some 38), (.nilCheck (.tmp 37)), 0, "", #[], none⟩,
  ⟨(some 39), (.fieldAddr 72 (.tmp 38) 0), 0, "", #[], none⟩,
  ⟨(some 41), (.fieldAddr 45 (.tmp 3) 1), 0, "", #[], none⟩,
  ⟨(some 43), (.fieldAddr 45 (.tmp 3) 2), 0, "", #[], none⟩,
  ⟨(some 45), (.fieldAddr 45 (.tmp 3) 4), 0, "", #[], none⟩,
  ⟨(some 40), (.load 22 (.tmp 39)), 22, "", #[⟨1024, .data⟩], none⟩,
  ⟨(some 42), (.load 35 (.tmp 41)), 35, "", #[⟨1024, .data⟩], none⟩,
  ⟨(some 44), (.load 35 (.tmp 43)), 35, "", #[⟨1024, .data⟩], none⟩,
  ⟨(some 46), (.load 37 (.tmp 45)), 37, "", #[⟨1024, .data⟩], none⟩,
  ⟨(some 47), (.call ⟨(.value (.func 34)), #[(.tmp 40), (.tmp 42), (.tmp 44), (.tmp 46)], #[22, 35, 35, 37]⟩), 31, "", #[⟨10, .chain⟩], none⟩,
  ⟨(some 6), (.assign (.tmp 47)), 31, "", #[], none⟩]
def F49.r7 : List Oper := [
  ⟨(some 48), (.move (.tmp 6)), 31, "", #[], none⟩,
  ⟨(some 49), (.move (.tmp 0)), 70, "", #[], none⟩,
  ⟨(some 50), (.nilCheck (.tmp 49)), 0, "", #[], none⟩,
  ⟨(some 51), (.fieldAddr 72 (.tmp 50) 1), 0, "", #[], none⟩,
  ⟨(some 53), (.fieldAddr 45 (.tmp 3) 1), 0, "", #[], none⟩,
  ⟨(some 55), (.fieldAddr 45 (.tmp 3) 2), 0, "", #[], none⟩,
  ⟨(some 57), (.fieldAddr 45 (.tmp 3) 4), 0, "", #[], none⟩,
  ⟨(some 52), (.load 61 (.tmp 51)), 61, "", #[⟨2048, .data⟩], none⟩,
  ⟨(some 54), (.load 35 (.tmp 53)), 35, "", #[⟨2048, .data⟩], none⟩,
  ⟨(some 56), (.load 35 (.tmp 55)), 35, "", #[⟨2048, .data⟩], none⟩,
  ⟨(some 58), (.load 37 (.tmp 57)), 37, "", #[⟨2048, .data⟩], none⟩,
  ⟨(some 59), (.call ⟨(.value (.func 65)), #[(.tmp 52), (.tmp 54), (.tmp 56), (.tmp 58)], #[61, 35, 35, 37]⟩), 31, "", #[⟨11, .chain⟩], none⟩,
  ⟨(some 60), (.binOp .eql 31 (.tmp 48) (.tmp 59) 31), 4, "", #[], none⟩,
  ⟨(some 4), (.assign (.tmp 60)), 4, "", #[], none⟩]
def F49.r8 : List Oper := [
  op 62 (.binOp .eql 3 (.tmp 12) (.const (.int .i64 7)) 3) 4,
  op 61 (.assign (.tmp 62)) 4]
def F49.r9 : List Oper := [
  ⟨(some 63), (.move (.tmp 0)), 70, "", #[], none⟩,
  ⟨(some 64), (.nilCheck (.tmp 63)), 0, "", #[], none⟩,
  ⟨(some 65), (.fieldAddr 72 (.tmp 64) 0), 0, "", #[], none⟩,
  ⟨(some 67), (.fieldAddr 45 (.tmp 3) 1), 0, "", #[], none⟩,
  ⟨(some 69), (.fieldAddr 45 (.tmp 3) 4), 0, "", #[], none⟩,
  ⟨(some 71), (.fieldAddr 45 (.tmp 3) 6), 0, "", #[], none⟩,
  ⟨(some 73), (.fieldAddr 45 (.tmp 3) 7), 0, "", #[], none⟩,
  ⟨(some 66), (.load 22 (.tmp 65)), 22, "", #[⟨4096, .data⟩], none⟩,
  ⟨(some 68), (.load 35 (.tmp 67)), 35, "", #[⟨4096, .data⟩], none⟩,
  ⟨(some 70), (.load 37 (.tmp 69)), 37, "", #[⟨4096, .data⟩], none⟩,
  ⟨(some 72), (.load 5 (.tmp 71)), 5, "", #[⟨4096, .data⟩], none⟩,
  ⟨(some 74), (.load 4 (.tmp 73)), 4, "", #[⟨4096, .data⟩], none⟩,
  ⟨(some 75), (.call ⟨(.value (.func 18)), #[(.tmp 66), (.tmp 68), (.tmp 70), (.tmp 72), (.tmp 74)], #[22, 35, 37, 5, 4]⟩), 31, "", #[⟨12, .chain⟩], none⟩,
  ⟨(some 7), (.assign (.tmp 75)), 31, "", #[], none⟩]
def F49.r10 : List Oper := [
  ⟨(some 76), (.move (.tmp 7)), 31, "", #[], none⟩,
  ⟨(some 77), (.move (.tmp 0)), 70, "", #[], none⟩,
  ⟨(some 78), (.nilCheck (.tmp 77)), 0, "", #[], none⟩,
  ⟨(some 79), (.fieldAddr 72 (.tmp 78) 1), 0, "", #[], none⟩,
  ⟨(some 81), (.fieldAddr 45 (.tmp 3) 1), 0, "", #[], none⟩,
  ⟨(some 83), (.fieldAddr 45 (.tmp 3) 4), 0, "", #[], none⟩,
  ⟨(some 85), (.fieldAddr 45 (.tmp 3) 6), 0, "", #[], none⟩,
  ⟨(some 87), (.fieldAddr 45 (.tmp 3) 7), 0, "", #[], none⟩,
  ⟨(some 80), (.load 61 (.tmp 79)), 61, "", #[⟨8192, .data⟩], none⟩,
  ⟨(some 82), (.load 35 (.tmp 81)), 35, "", #[⟨8192, .data⟩], none⟩,
  ⟨(some 84), (.load 37 (.tmp 83)), 37, "", #[⟨8192, .data⟩], none⟩,
  ⟨(some 86), (.load 5 (.tmp 85)), 5, "", #[⟨8192, .data⟩], none⟩,
  ⟨(some 88), (.load 4 (.tmp 87)), 4, "", #[⟨8192, .data⟩], none⟩,
  ⟨(some 89), (.call ⟨(.value (.func 66)), #[(.tmp 80), (.tmp 82), (.tmp 84), (.tmp 86), (.tmp 88)], #[61, 35, 37, 5, 4]⟩), 31, "", #[⟨13, .chain⟩], none⟩,
  ⟨(some 90), (.binOp .eql 31 (.tmp 76) (.tmp 89) 31), 4, "", #[], none⟩,
  ⟨(some 4), (.assign (.tmp 90)), 4, "", #[], none⟩]
def F49.r11 : List Oper := [
  op 92 (.binOp .eql 3 (.tmp 12) (.const (.int .i64 8)) 3) 4,
  op 91 (.assign (.tmp 92)) 4]
def F49.r12 : List Oper := [
  ⟨(some 93), (.move (.tmp 0)), 70, "", #[], none⟩,
  ⟨(some 94), (.nilCheck (.tmp 93)), 0, "", #[], none⟩,
  ⟨(some 95), (.fieldAddr 72 (.tmp 94) 0), 0, "", #[], none⟩,
  ⟨(some 97), (.fieldAddr 45 (.tmp 3) 1), 0, "", #[], none⟩,
  ⟨(some 99), (.fieldAddr 45 (.tmp 3) 4), 0, "", #[], none⟩,
  ⟨(some 101), (.fieldAddr 45 (.tmp 3) 5), 0, "", #[], none⟩,
  ⟨(some 96), (.load 22 (.tmp 95)), 22, "", #[⟨1024, .data⟩], none⟩,
  ⟨(some 98), (.load 35 (.tmp 97)), 35, "", #[⟨1024, .data⟩], none⟩,
  ⟨(some 100), (.load 37 (.tmp 99)), 37, "", #[⟨1024, .data⟩], none⟩,
  ⟨(some 102), (.load 37 (.tmp 101)), 37, "", #[⟨1024, .data⟩], none⟩,
  ⟨(some 103), (.call ⟨(.value (.func 35)), #[(.tmp 96), (.tmp 98), (.tmp 100), (.tmp 102)], #[22, 35, 37, 37]⟩), 31, "", #[⟨10, .chain⟩], none⟩,
  ⟨(some 8), (.assign (.tmp 103)), 31, "", #[], none⟩]
def F49.r13 : List Oper := [
  ⟨(some 104), (.move (.tmp 8)), 31, "", #[], none⟩,
  ⟨(some 105), (.move (.tmp 0)), 70, "", #[], none⟩,
  ⟨(some 106), (.nilCheck (.tmp 105)), 0, "", #[], none⟩,
  ⟨(some 107), (.fieldAddr 72 (.tmp 106) 1), 0, "", #[], none⟩,
  ⟨(some 109), (.fieldAddr 45 (.tmp 3) 1), 0, "", #[], none⟩,
  ⟨(some 111), (.fieldAddr 45 (.tmp 3) 4), 0, "", #[], none⟩,
  ⟨(some 113), (.fieldAddr 45 (.tmp 3) 5), 0, "", #[], none⟩,
  ⟨(some 108), (.load 61 (.tmp 107)), 61, "", #[⟨2048, .data⟩], none⟩,
  ⟨(some 110), (.load 35 (.tmp 109)), 35, "", #[⟨2048, .data⟩], none⟩,
  ⟨(some 112), (.load 37 (.tmp 111)), 37, "", #[⟨2048, .data⟩], none⟩,
  ⟨(some 114), (.load 37 (.tmp 113)), 37, "", #[⟨2048, .data⟩], none⟩,
  ⟨(some 115), (.call ⟨(.value (.func 67)), #[(.tmp 108), (.tmp 110), (.tmp 112), (.tmp 114)], #[61, 35, 37, 37]⟩), 31, "", #[⟨11, .chain⟩], none⟩,
  ⟨(some 116), (.binOp .eql 31 (.tmp 104) (.tmp 115) 31), 4, "", #[], none⟩,
  ⟨(some 4), (.assign (.tmp 116)), 4, "", #[], none⟩]
def F49.r14 : List Oper := [
  op 118 (.binOp .eql 3 (.tmp 12) (.const (.int .i64 11)) 3) 4,
  op 117 (.assign (.tmp 118)) 4]
def F49.r15 : List Oper := [
  op 119 (.move (.tmp 0)) 70,
  op 120 (.nilCheck (.tmp 119)) 0,
  op 121 (.fieldAddr 72 (.tmp 120) 0) 0,
  od 122 (.load 22 (.tmp 121)) 22,
  oc 123 (.call ⟨(.value (.func 14)), #[(.tmp 122)], #[22]⟩) 3,
  op 9 (.assign (.tmp 123)) 3]
def F49.r16 : List Oper := [
  ⟨(some 124), (.move (.tmp 0)), 70, "", #[], none⟩,
  ⟨(some 125), (.nilCheck (.tmp 124)), 0, "", #[], none⟩,
  ⟨(some 126), (.fieldAddr 72 (.tmp 125) 0), 0, "", #[], none⟩,
  ⟨(some 128), (.fieldAddr 45 (.tmp 3) 4), 0, "", #[], none⟩,
  ⟨(some 127), (.load 22 (.tmp 126)), 22, "", #[⟨64, .data⟩], none⟩,
  ⟨(some 129), (.load 37 (.tmp 128)), 37, "", #[⟨64, .data⟩], none⟩,
  ⟨(some 130), (.call ⟨(.value (.func 19)), #[(.tmp 127), (.tmp 129)], #[22, 37]⟩), 3, "", #[⟨6, .chain⟩], none⟩,
  ⟨(some 10), (.assign (.tmp 130)), 3, "", #[], none⟩]
def F49.r17 : List Oper := [
  ⟨(some 131), (.move (.tmp 9)), 3, "", #[], none⟩,
  ⟨(some 132), (.move (.tmp 0)), 70, "", #[], none⟩,
  ⟨(some 133), (.nilCheck (.tmp 132)), 0, "", #[], none⟩,
  ⟨(some 134), (.fieldAddr 72 (.tmp 133) 1), 0, "", #[], none⟩,
  ⟨(some 135), (.load 61 (.tmp 134)), 61, "", #[⟨32800, .data⟩], none⟩,
  ⟨(some 136), (.call ⟨(.value (.func 51)), #[(.tmp 135)], #[61]⟩), 3, "", #[⟨5, .chain⟩], none⟩,
  ⟨(some 137), (.binOp .eql 3 (.tmp 131) (.tmp 136) 3), 4, "", #[], none⟩,
  ⟨(some 138), (.move (.tmp 137)), 4, "", #[], none⟩,
  og 139 (.move (.tmp 10)) 3 138 true,
  og 140 (.move (.tmp 0)) 70 138 true,
  og 141 (.nilCheck (.tmp 140)) 0 138 true,
  og 142 (.fieldAddr 72 (.tmp 141) 1) 0 138 true,
  og 144 (.fieldAddr 45 (.tmp 3) 4) 0 138 true,
  ⟨(some 143), (.load 61 (.tmp 142)), 61, "", #[⟨32768, .data⟩], (some (138, true))⟩,
  ⟨(some 145), (.load 37 (.tmp 144)), 37, "", #[⟨32768, .data⟩], (some (138, true))⟩,
  ⟨(some 146), (.call ⟨(.value (.func 68)), #[(.tmp 143), (.tmp 145)], #[61, 37]⟩), 3, "", #[⟨15, .chain⟩], (some (138, true))⟩,
  og 147 (.binOp .eql 3 (.tmp 139) (.tmp 146) 3) 4 138 true,
  ⟨(some 148), (.pick (.tmp 138) (.tmp 147) (.const (.bool false))), 4, "", #[], none⟩,
  ⟨(some 4), (.assign (.tmp 148)), 4, "", #[], none⟩]
def F49.r18 : List Oper := [
  op 4 (.assign (.const (.bool true))) 4]
def F49.t18 : Cd := (.seq (.region 18 F49.r18.toArray false) .ret)
theorem F49.t18_eq {θ : Tag (F49.t18, Q, e, w)} : cwE P F49.t18 Q e w θ = cwE P (.seq (.region 18 F49.r18.toArray false) .ret) Q e w := rfl
def F49.code : Cd := (.seq (.region 0 F49.r0.toArray false) (.seq (.seq (.region 1 F49.r1.toArray false) (.block 0 (.seq (.region 2 F49.r2.toArray false) (.cond (.tmp 13) (.seq (.region 3 F49.r3.toArray true) (.seq (.region 4 F49.r4.toArray true) .ret)) (.seq (.region 5 F49.r5.toArray false) (.cond (.tmp 35) (.seq (.region 6 F49.r6.toArray true) (.seq (.region 7 F49.r7.toArray true) .ret)) (.seq (.region 8 F49.r8.toArray false) (.cond (.tmp 61) (.seq (.region 9 F49.r9.toArray true) (.seq (.region 10 F49.r10.toArray true) .ret)) (.seq (.region 11 F49.r11.toArray false) (.cond (.tmp 91) (.seq (.region 12 F49.r12.toArray true) (.seq (.region 13 F49.r13.toArray true) .ret)) (.seq (.region 14 F49.r14.toArray false) (.cond (.tmp 117) (.seq (.region 15 F49.r15.toArray false) (.seq (.region 16 F49.r16.toArray true) (.seq (.region 17 F49.r17.toArray true) .ret))) .skip)))))))))))) F49.t18))
theorem F49.calls (hn : args.size ≤ 149) (h : cwE Try.prog F49.code (fnP Try.prog #[(.tmp 4)] R) (entry args) w) : Calls Try.prog 49 args w R :=
  calls_of_cwE (types := Try.prog.types) follows Try.func49 F49.code rfl (by kernel_rfl) hn h
def F50.r0 : List Oper := [
  op 2 (.assign (.const (.slice none 0 0))) 28]
def F50.r1 : List Oper := [
  op 3 (.assign (.const (.slice none 0 0))) 28]
def F50.r2 : List Oper := [
  op 4 (.assign (.const (.int .i64 0))) 3]
def F50.r3 : List Oper := [
  op 5 (.move (.tmp 4)) 3,
  op 6 (.move (.tmp 0)) 61,
  op 7 (.nilCheck (.tmp 6)) 0,
  op 8 (.fieldAddr 94 (.tmp 7) 1) 0,
  od 9 (.load 28 (.tmp 8)) 28,
  op 10 (.call ⟨(.builtin .len), #[(.tmp 9)], #[28]⟩) 3,
  op 11 (.binOp .lss 3 (.tmp 5) (.tmp 10) 3) 4]
def F50.r5 : List Oper := [
  ⟨(some 14), (.move (.tmp 3)), 28, "", #[], none⟩,
  ⟨(some 15), (.move (.tmp 0)), 61, "", #[], none⟩,
  ⟨(some 16), (.nilCheck (.tmp 15)), 0, "", #[], none⟩,
  ⟨(some 17), (.fieldAddr 94 (.tmp 16) 1), 0, "", #[], none⟩,
  ⟨(some 19), (.move (.tmp 4)), 3, "", #[], none⟩,
  ⟨(some 23), (.move (.tmp 0)), 61, "", #[], none⟩,
  ⟨(some 24), (.nilCheck (.tmp 23)), 0, "", #[], none⟩,
  ⟨(some 25), (.fieldAddr 94 (.tmp 24) 1), 0, "", #[], none⟩,
  ⟨(some 27), (.move (.tmp 4)), 3, "", #[], none⟩,
  ⟨(some 18), (.load 28 (.tmp 17)), 28, "", #[⟨1572864, .data⟩], none⟩,
  ⟨(some 20), (.indexAddr 28 (.tmp 18) (.tmp 19)), 0, "", #[], none⟩,
  ⟨(some 21), (.fieldAddr 48 (.tmp 20) 0), 0, "", #[], none⟩,
  ⟨(some 22), (.load 35 (.tmp 21)), 35, "", #[⟨1572864, .data⟩], none⟩,
  ⟨(some 26), (.load 28 (.tmp 25)), 28, "", #[⟨1703936, .data⟩], none⟩,
  ⟨(some 28), (.indexAddr 28 (.tmp 26) (.tmp 27)), 0, "", #[], none⟩,
  ⟨(some 29), (.fieldAddr 48 (.tmp 28) 1), 0, "", #[], none⟩,
  ⟨(some 30), (.load 43 (.tmp 29)), 43, "", #[⟨1703936, .data⟩], none⟩,
  ⟨(some 31), (.call ⟨(.value (.func 59)), #[(.tmp 30)], #[43]⟩), 43, "", #[⟨17, .chain⟩], none⟩,
  ⟨(some 32), (.build 48 #[(0, (.tmp 22)), (1, (.tmp 31))]), 48, "", #[], none⟩,
  ⟨(some 33), (.buildSlice 28 1 #[(0, (.tmp 32))]), 28, "", #[⟨19, .chain⟩], none⟩,
  ⟨(some 34), (.call ⟨(.builtin .append), #[(.tmp 14), (.tmp 33)], #[28, 28]⟩), 28, "", #[⟨20, .chain⟩], none⟩,
  ⟨(some 3), (.assign (.tmp 34)), 28, "", #[], none⟩]
def F50.r4 : List Oper := [
  op 12 (.move (.tmp 4)) 3,
  op 13 (.binOp .add 3 (.tmp 12) (.const (.int .i64 1)) 3) 3,
  op 4 (.assign (.tmp 13)) 3]
def F50.r6 : List Oper := [
  op 35 (.move (.tmp 3)) 28,
  op 2 (.assign (.tmp 35)) 28]
def F50.t4 : Cd := (.region 4 F50.r4.toArray false)
theorem F50.t4_eq {θ : Tag (F50.t4, Q, e, w)} : cwE P F50.t4 Q e w θ = cwE P (.region 4 F50.r4.toArray false) Q e w := rfl
def F50.t5 : Cd := (.seq (.block 1 (.region 5 F50.r5.toArray true)) F50.t4)
theorem F50.t5_eq {θ : Tag (F50.t5, Q, e, w)} : cwE P F50.t5 Q e w θ = cwE P (.seq (.block 1 (.region 5 F50.r5.toArray true)) F50.t4) Q e w := rfl
def F50.t6 : Cd := (.seq (.region 6 F50.r6.toArray false) .ret)
theorem F50.t6_eq {θ : Tag (F50.t6, Q, e, w)} : cwE P F50.t6 Q e w θ = cwE P (.seq (.region 6 F50.r6.toArray false) .ret) Q e w := rfl
def F50.code : Cd := (.seq (.region 0 F50.r0.toArray false) (.seq (.region 1 F50.r1.toArray false) (.seq (.seq (.region 2 F50.r2.toArray false) (.block 0 (.loop (.seq (.seq (.region 3 F50.r3.toArray false) (.cond (.tmp 11) .skip (.exit 0))) F50.t5)))) F50.t6)))
theorem F50.calls (hn : args.size ≤ 36) (h : cwE Try.prog F50.code (fnP Try.prog #[(.tmp 2)] R) (entry args) w) : Calls Try.prog 50 args w R :=
  calls_of_cwE (types := Try.prog.types) follows Try.func50 F50.code rfl (by kernel_rfl) hn h
def F51.r0 : List Oper := [
  op 2 (.assign (.const (.int .i64 0))) 3]
def F51.r1 : List Oper := [
  op 3 (.move (.tmp 0)) 61,
  op 4 (.nilCheck (.tmp 3)) 0,
  op 5 (.fieldAddr 94 (.tmp 4) 1) 0,
  od 6 (.load 28 (.tmp 5)) 28,
  op 7 (.call ⟨(.builtin .len), #[(.tmp 6)], #[28]⟩) 3,
  op 2 (.assign (.tmp 7)) 3]
def F51.code : Cd := (.seq (.region 0 F51.r0.toArray false) (.seq (.region 1 F51.r1.toArray false) .ret))
theorem F51.calls (hn : args.size ≤ 8) (h : cwE Try.prog F51.code (fnP Try.prog #[(.tmp 2)] R) (entry args) w) : Calls Try.prog 51 args w R :=
  calls_of_cwE (types := Try.prog.types) follows Try.func51 F51.code rfl (by kernel_rfl) hn h
def F52.r0 : List Oper := [
  oc 2 (.alloc 43) 0]
def F52.r1 : List Oper := [
  op 3 (.move (.tmp 0)) 9,
  oc 4 (.convert 9 39 (.tmp 3)) 39,
  op 5 (.build 41 #[(0, (.const (.string { data := #[97] }))), (6, (.tmp 4))]) 41,
  op 6 (.build 43 #[(0, (.const (.int .u8 3))), (2, (.const (.string { data := #[97] }))), (7, (.tmp 5))]) 43,
  ⟨none, (.store 43 (.tmp 2) (.tmp 6)), 0, "", #[⟨0, .chain⟩], none⟩]
def F52.code : Cd := (.seq (.region 0 F52.r0.toArray false) (.seq (.region 1 F52.r1.toArray false) .ret))
theorem F52.calls (hn : args.size ≤ 7) (h : cwE Try.prog F52.code (fnP Try.prog #[(.cell 2 43)] R) (entry args) w) : Calls Try.prog 52 args w R :=
  calls_of_cwE (types := Try.prog.types) follows Try.func52 F52.code rfl (by kernel_rfl) hn h
def F53.r0 : List Oper := [
  op 2 (.assign (.const (.bool false))) 4]
def F53.r1 : List Oper := [
  op 3 (.assign (.const (.int .i64 0))) 3]
def F53.r2 : List Oper := [
  op 4 (.move (.tmp 3)) 3,
  op 5 (.move (.tmp 0)) 64,
  op 6 (.nilCheck (.tmp 5)) 0,
  op 7 (.fieldAddr 69 (.tmp 6) 0) 0,
  od 8 (.load 65 (.tmp 7)) 65,
  op 9 (.call ⟨(.builtin .len), #[(.tmp 8)], #[65]⟩) 3,
  op 10 (.binOp .lss 3 (.tmp 4) (.tmp 9) 3) 4]
def F53.r4 : List Oper := [
  ⟨(some 13), (.move (.tmp 0)), 64, "", #[], none⟩,
  ⟨(some 14), (.nilCheck (.tmp 13)), 0, "", #[], none⟩,
  ⟨(some 15), (.fieldAddr 69 (.tmp 14) 0), 0, "", #[], none⟩,
  ⟨(some 17), (.move (.tmp 3)), 3, "", #[], none⟩,
  ⟨(some 21), (.move (.tmp 0)), 64, "", #[], none⟩,
  ⟨(some 22), (.nilCheck (.tmp 21)), 0, "", #[], none⟩,
  ⟨(some 23), (.fieldAddr 69 (.tmp 22) 1), 0, "", #[], none⟩,
  ⟨(some 25), (.move (.tmp 3)), 3, "", #[], none⟩,
  ⟨(some 16), (.load 65 (.tmp 15)), 65, "", #[⟨0, .data⟩], none⟩,
  ⟨(some 18), (.indexAddr 65 (.tmp 16) (.tmp 17)), 0, "", #[], none⟩,
  ⟨(some 19), (.load 39 (.tmp 18)), 39, "", #[⟨0, .data⟩], none⟩,
  ⟨(some 20), (.convert 39 9 (.tmp 19)), 9, "", #[⟨0, .data⟩], none⟩,
  ⟨(some 24), (.load 65 (.tmp 23)), 65, "", #[⟨0, .data⟩], none⟩,
  ⟨(some 26), (.indexAddr 65 (.tmp 24) (.tmp 25)), 0, "", #[], none⟩,
  ⟨(some 27), (.load 39 (.tmp 26)), 39, "", #[⟨0, .data⟩], none⟩,
  ⟨(some 28), (.convert 39 9 (.tmp 27)), 9, "", #[⟨0, .data⟩], none⟩,
  ⟨(some 29), (.binOp .neq 9 (.tmp 20) (.tmp 28) 9), 4, "", #[], none⟩]
def F53.r5 : List Oper := [
  op 2 (.assign (.const (.bool false))) 4]
def F53.r3 : List Oper := [
  op 11 (.move (.tmp 3)) 3,
  op 12 (.binOp .add 3 (.tmp 11) (.const (.int .i64 1)) 3) 3,
  op 3 (.assign (.tmp 12)) 3]
def F53.r6 : List Oper := [
  op 2 (.assign (.const (.bool true))) 4]
def F53.t3 : Cd := (.region 3 F53.r3.toArray false)
theorem F53.t3_eq {θ : Tag (F53.t3, Q, e, w)} : cwE P F53.t3 Q e w θ = cwE P (.region 3 F53.r3.toArray false) Q e w := rfl
def F53.t4 : Cd := (.seq (.block 1 (.seq (.region 4 F53.r4.toArray true) (.cond (.tmp 29) (.seq (.region 5 F53.r5.toArray false) .ret) .skip))) F53.t3)
theorem F53.t4_eq {θ : Tag (F53.t4, Q, e, w)} : cwE P F53.t4 Q e w θ = cwE P (.seq (.block 1 (.seq (.region 4 F53.r4.toArray true) (.cond (.tmp 29) (.seq (.region 5 F53.r5.toArray false) .ret) .skip))) F53.t3) Q e w := rfl
def F53.t6 : Cd := (.seq (.region 6 F53.r6.toArray false) .ret)
theorem F53.t6_eq {θ : Tag (F53.t6, Q, e, w)} : cwE P F53.t6 Q e w θ = cwE P (.seq (.region 6 F53.r6.toArray false) .ret) Q e w := rfl
def F53.code : Cd := (.seq (.region 0 F53.r0.toArray false) (.seq (.seq (.region 1 F53.r1.toArray false) (.block 0 (.loop (.seq (.seq (.region 2 F53.r2.toArray false) (.cond (.tmp 10) .skip (.exit 0))) F53.t4)))) F53.t6))
theorem F53.calls (hn : args.size ≤ 30) (h : cwE Try.prog F53.code (fnP Try.prog #[(.tmp 2)] R) (entry args) w) : Calls Try.prog 53 args w R :=
  calls_of_cwE (types := Try.prog.types) follows Try.func53 F53.code rfl (by kernel_rfl) hn h
def F54.r0 : List Oper := [
  od 5 (.load 22 (.tmp 1)) 22,
  oc 6 (.call ⟨(.value (.func 38)), #[(.tmp 5)], #[22]⟩) 28,
  op 7 (.call ⟨(.builtin .len), #[(.tmp 6)], #[28]⟩) 3,
  op 8 (.move (.const (.int .i64 0))) 3]
def F54.r1 : List Oper := [
  op 9 (.binOp .lss 3 (.tmp 8) (.tmp 7) 3) 0]
def F54.r2 : List Oper := [
  op 10 (.indexAddr 28 (.tmp 6) (.tmp 8)) 0,
  od 11 (.load 48 (.tmp 10)) 48,
  oc 4 (.alloc 48) 0,
  ⟨none, (.store 48 (.tmp 4) (.tmp 11)), 0, "", #[⟨0, .chain⟩], none⟩]
def F54.r3 : List Oper := [
  op 12 (.move (.tmp 0)) 99,
  op 13 (.fieldAddr 48 (.tmp 4) 0) 0,
  od 14 (.load 35 (.tmp 13)) 35,
  op 15 (.fieldAddr 48 (.tmp 4) 1) 0,
  od 16 (.load 43 (.tmp 15)) 43,
  ⟨(some 17), (.call ⟨(.value (.tmp 12)), #[(.tmp 14), (.tmp 16)], #[35, 43]⟩), 4, "", #[⟨0, .phase⟩], none⟩,
  op 18 (.unOp .not 4 (.tmp 17)) 4]
def F54.r4 : List Oper := [
  op 19 (.binOp .add 3 (.tmp 8) (.const (.int .i64 1)) 3) 3,
  op 8 (.move (.tmp 19)) 3]
def F54.t4 : Cd := (.region 4 F54.r4.toArray false)
theorem F54.t4_eq {θ : Tag (F54.t4, Q, e, w)} : cwE P F54.t4 Q e w θ = cwE P (.region 4 F54.r4.toArray false) Q e w := rfl
def F54.t2 : Cd := (.seq (.block 1 (.seq (.region 2 F54.r2.toArray false) (.seq (.region 3 F54.r3.toArray false) (.cond (.tmp 18) .ret .skip)))) F54.t4)
theorem F54.t2_eq {θ : Tag (F54.t2, Q, e, w)} : cwE P F54.t2 Q e w θ = cwE P (.seq (.block 1 (.seq (.region 2 F54.r2.toArray false) (.seq (.region 3 F54.r3.toArray false) (.cond (.tmp 18) .ret .skip)))) F54.t4) Q e w := rfl
def F54.code : Cd := (.seq (.region 0 F54.r0.toArray false) (.block 0 (.loop (.seq (.region 1 F54.r1.toArray false) (.seq (.cond (.tmp 9) .skip (.exit 0)) F54.t2)))))
theorem F54.calls (hn : args.size ≤ 20) (h : cwE Try.prog F54.code (fnP Try.prog #[] R) (entry args) w) : Calls Try.prog 54 args w R :=
  calls_of_cwE (types := Try.prog.types) follows Try.func54 F54.code rfl (by kernel_rfl) hn h
def F55.r0 : List Oper := [
  op 2 (.assign (.const (.slice none 0 0))) 32]
def F55.r1 : List Oper := [
  op 4 (.move (.tmp 0)) 102,
  oc 5 (.call ⟨(.value (.func 69)), #[(.tmp 4)], #[102]⟩) 32,
  op 3 (.assign (.tmp 5)) 32]
def F55.r2 : List Oper := [
  op 6 (.move (.tmp 3)) 32,
  oc 7 (.call ⟨(.value (.func 70)), #[(.tmp 6)], #[32]⟩) 0]
def F55.r3 : List Oper := [
  op 8 (.move (.tmp 3)) 32,
  op 2 (.assign (.tmp 8)) 32]
def F55.code : Cd := (.seq (.region 0 F55.r0.toArray false) (.seq (.region 1 F55.r1.toArray false) (.seq (.region 2 F55.r2.toArray false) (.seq (.region 3 F55.r3.toArray false) .ret))))
theorem F55.calls (hn : args.size ≤ 9) (h : cwE Try.prog F55.code (fnP Try.prog #[(.tmp 2)] R) (entry args) w) : Calls Try.prog 55 args w R :=
  calls_of_cwE (types := Try.prog.types) follows Try.func55 F55.code rfl (by kernel_rfl) hn h
def F56.r0 : List Oper := [
  oc 1 (.box 86 (.tmp 0)) 0,
  op 2 (.assign (.const .nilFunc)) 102]
def F56.r1 : List Oper := [
  op 3 (.makeFunc (.func 71) #[] #[(.tmp 1)]) 101,
  op 2 (.assign (.tmp 3)) 102]
def F56.code : Cd := (.seq (.region 0 F56.r0.toArray false) (.seq (.region 1 F56.r1.toArray false) .ret))
theorem F56.calls (hn : args.size ≤ 4) (h : cwE Try.prog F56.code (fnP Try.prog #[(.tmp 2)] R) (entry args) w) : Calls Try.prog 56 args w R :=
  calls_of_cwE (types := Try.prog.types) follows Try.func56 F56.code rfl (by kernel_rfl) hn h
def F57.r0 : List Oper := [
  op 2 (.assign (.const (.slice none 0 0))) 39]
def F57.r1 : List Oper := [
  op 3 (.move (.tmp 0)) 39,
  op 4 (.binOp .eql 39 (.tmp 3) (.const (.slice none 0 0)) 39) 4]
def F57.r2 : List Oper := [
  op 2 (.assign (.const (.slice none 0 0))) 39]
def F57.r3 : List Oper := [
  oc 5 (.buildSlice 39 0 #[]) 39,
  op 6 (.move (.tmp 0)) 39,
  oc 7 (.call ⟨(.builtin .append), #[(.tmp 5), (.tmp 6)], #[39, 39]⟩) 39,
  op 2 (.assign (.tmp 7)) 39]
def F57.t3 : Cd := (.seq (.region 3 F57.r3.toArray false) .ret)
theorem F57.t3_eq {θ : Tag (F57.t3, Q, e, w)} : cwE P F57.t3 Q e w θ = cwE P (.seq (.region 3 F57.r3.toArray false) .ret) Q e w := rfl
def F57.code : Cd := (.seq (.region 0 F57.r0.toArray false) (.seq (.seq (.region 1 F57.r1.toArray false) (.cond (.tmp 4) (.seq (.region 2 F57.r2.toArray false) .ret) .skip)) F57.t3))
theorem F57.calls (hn : args.size ≤ 8) (h : cwE Try.prog F57.code (fnP Try.prog #[(.tmp 2)] R) (entry args) w) : Calls Try.prog 57 args w R :=
  calls_of_cwE (types := Try.prog.types) follows Try.func57 F57.code rfl (by kernel_rfl) hn h
def F58.r0 : List Oper := [
  op 4 (.assign (.const (.int .i64 0))) 3]
def F58.r1 : List Oper := [
  op 5 (.assign (.const (.int .i64 0))) 3]
def F58.r2 : List Oper := [
  op 6 (.move (.tmp 5)) 3,
  op 7 (.move (.tmp 0)) 61,
  op 8 (.nilCheck (.tmp 7)) 0,
  op 9 (.fieldAddr 94 (.tmp 8) 1) 0,
  od 10 (.load 28 (.tmp 9)) 28,
  op 11 (.call ⟨(.builtin .len), #[(.tmp 10)], #[28]⟩) 3,
  op 12 (.binOp .lss 3 (.tmp 6) (.tmp 11) 3) 4]
def F58.r4 : List Oper := [
  op 15 (.move (.tmp 0)) 61,
  op 16 (.nilCheck (.tmp 15)) 0,
  op 17 (.fieldAddr 94 (.tmp 16) 1) 0,
  od 18 (.load 28 (.tmp 17)) 28,
  op 19 (.move (.tmp 5)) 3,
  op 20 (.indexAddr 28 (.tmp 18) (.tmp 19)) 0,
  op 21 (.fieldAddr 48 (.tmp 20) 0) 0,
  od 22 (.load 35 (.tmp 21)) 35,
  op 23 (.move (.tmp 1)) 35,
  op 24 (.binOp .eql 35 (.tmp 22) (.tmp 23) 35) 4]
def F58.r5 : List Oper := [
  op 25 (.move (.tmp 5)) 3,
  op 4 (.assign (.tmp 25)) 3]
def F58.r3 : List Oper := [
  op 13 (.move (.tmp 5)) 3,
  op 14 (.binOp .add 3 (.tmp 13) (.const (.int .i64 1)) 3) 3,
  op 5 (.assign (.tmp 14)) 3]
def F58.r6 : List Oper := [
  op 4 (.assign (.const (.int .i64 (-1)))) 3]
def F58.t3 : Cd := (.region 3 F58.r3.toArray false)
theorem F58.t3_eq {θ : Tag (F58.t3, Q, e, w)} : cwE P F58.t3 Q e w θ = cwE P (.region 3 F58.r3.toArray false) Q e w := rfl
def F58.t4 : Cd := (.seq (.block 1 (.seq (.region 4 F58.r4.toArray false) (.cond (.tmp 24) (.seq (.region 5 F58.r5.toArray false) .ret) .skip))) F58.t3)
theorem F58.t4_eq {θ : Tag (F58.t4, Q, e, w)} : cwE P F58.t4 Q e w θ = cwE P (.seq (.block 1 (.seq (.region 4 F58.r4.toArray false) (.cond (.tmp 24) (.seq (.region 5 F58.r5.toArray false) .ret) .skip))) F58.t3) Q e w := rfl
def F58.t6 : Cd := (.seq (.region 6 F58.r6.toArray false) .ret)
theorem F58.t6_eq {θ : Tag (F58.t6, Q, e, w)} : cwE P F58.t6 Q e w θ = cwE P (.seq (.region 6 F58.r6.toArray false) .ret) Q e w := rfl
def F58.code : Cd := (.seq (.region 0 F58.r0.toArray false) (.seq (.seq (.region 1 F58.r1.toArray false) (.block 0 (.loop (.seq (.seq (.region 2 F58.r2.toArray false) (.cond (.tmp 12) .skip (.exit 0))) F58.t4)))) F58.t6))
theorem F58.calls (hn : args.size ≤ 26) (h : cwE Try.prog F58.code (fnP Try.prog #[(.tmp 4)] R) (entry args) w) : Calls Try.prog 58 args w R :=
  calls_of_cwE (types := Try.prog.types) follows Try.func58 F58.code rfl (by kernel_rfl) hn h
def F59.r0 : List Oper := [
  oc 1 (.box 43 (.tmp 0)) 0,
  oc 2 (.alloc 43) 0]
def F59.r1 : List Oper := [
  op 3 (.assign (.const (.slice none 0 0))) 39]
def F59.r2 : List Oper := [
  op 4 (.move (.tmp 3)) 39,
  op 5 (.fieldAddr 43 (.tmp 1) 7) 0,
  op 6 (.fieldAddr 41 (.tmp 5) 6) 0,
  od 7 (.load 39 (.tmp 6)) 39,
  oc 8 (.call ⟨(.builtin .append), #[(.tmp 4), (.tmp 7)], #[39, 39]⟩) 39,
  op 9 (.fieldAddr 43 (.tmp 1) 7) 0,
  op 10 (.fieldAddr 41 (.tmp 9) 6) 0,
  ⟨none, (.store 39 (.tmp 10) (.tmp 8)), 0, "", #[⟨0, .chain⟩], none⟩]
def F59.r3 : List Oper := [
  od 11 (.load 43 (.tmp 1)) 43,
  ⟨none, (.store 43 (.tmp 2) (.tmp 11)), 0, "", #[⟨0, .chain⟩], none⟩]
def F59.code : Cd := (.seq (.region 0 F59.r0.toArray false) (.seq (.region 1 F59.r1.toArray false) (.seq (.region 2 F59.r2.toArray false) (.seq (.region 3 F59.r3.toArray false) .ret))))
theorem F59.calls (hn : args.size ≤ 12) (h : cwE Try.prog F59.code (fnP Try.prog #[(.cell 2 43)] R) (entry args) w) : Calls Try.prog 59 args w R :=
  calls_of_cwE (types := Try.prog.types) follows Try.func59 F59.code rfl (by kernel_rfl) hn h
def F60.r0 : List Oper := [
  oc 1 (.box 43 (.tmp 0)) 0,
  oc 2 (.alloc 43) 0]
def F60.r1 : List Oper := [
  op 5 (.fieldAddr 43 (.tmp 1) 7) 0,
  op 6 (.fieldAddr 41 (.tmp 5) 6) 0,
  od 7 (.load 39 (.tmp 6)) 39,
  op 8 (.call ⟨(.builtin .len), #[(.tmp 7)], #[39]⟩) 3,
  op 9 (.binOp .add 3 (.tmp 8) (.const (.int .i64 3)) 3) 3,
  oc 10 (.makeSlice 39 (.tmp 9) (.tmp 9)) 39,
  op 3 (.assign (.tmp 10)) 39]
def F60.r2 : List Oper := [
  op 11 (.move (.tmp 3)) 39,
  op 12 (.fieldAddr 43 (.tmp 1) 7) 0,
  op 13 (.fieldAddr 41 (.tmp 12) 6) 0,
  od 14 (.load 39 (.tmp 13)) 39,
  oc 15 (.call ⟨(.builtin .copy), #[(.tmp 11), (.tmp 14)], #[39, 39]⟩) 3]
def F60.r3 : List Oper := [
  op 16 (.fieldAddr 43 (.tmp 1) 7) 0,
  op 17 (.fieldAddr 41 (.tmp 16) 6) 0,
  od 18 (.load 39 (.tmp 17)) 39,
  op 19 (.call ⟨(.builtin .len), #[(.tmp 18)], #[39]⟩) 3,
  op 4 (.assign (.tmp 19)) 3]
def F60.r4 : List Oper := [
  op 20 (.move (.tmp 4)) 3,
  op 21 (.move (.tmp 3)) 39,
  op 22 (.call ⟨(.builtin .len), #[(.tmp 21)], #[39]⟩) 3,
  op 23 (.binOp .lss 3 (.tmp 20) (.tmp 22) 3) 4]
def F60.r6 : List Oper := [
  op 26 (.move (.tmp 3)) 39,
  op 27 (.move (.tmp 4)) 3,
  op 28 (.indexAddr 39 (.tmp 26) (.tmp 27)) 0,
  ⟨none, (.store 5 (.tmp 28) (.const (.int .u8 90))), 0, "", #[⟨0, .chain⟩], none⟩]
def F60.r5 : List Oper := [
  op 24 (.move (.tmp 4)) 3,
  op 25 (.binOp .add 3 (.tmp 24) (.const (.int .i64 1)) 3) 3,
  op 4 (.assign (.tmp 25)) 3]
def F60.r7 : List Oper := [
  op 29 (.move (.tmp 3)) 39,
  op 30 (.fieldAddr 43 (.tmp 1) 7) 0,
  op 31 (.fieldAddr 41 (.tmp 30) 6) 0,
  od 32 (.load 39 (.tmp 31)) 39,
  op 33 (.call ⟨(.builtin .len), #[(.tmp 32)], #[39]⟩) 3,
  op 34 (.slice 39 (.tmp 29) none (some (.tmp 33)) none) 39,
  op 35 (.fieldAddr 43 (.tmp 1) 7) 0,
  op 36 (.fieldAddr 41 (.tmp 35) 6) 0,
  ⟨none, (.store 39 (.tmp 36) (.tmp 34)), 0, "", #[⟨0, .chain⟩], none⟩]
def F60.r8 : List Oper := [
  od 37 (.load 43 (.tmp 1)) 43,
  ⟨none, (.store 43 (.tmp 2) (.tmp 37)), 0, "", #[⟨0, .chain⟩], none⟩]
def F60.t5 : Cd := (.region 5 F60.r5.toArray false)
theorem F60.t5_eq {θ : Tag (F60.t5, Q, e, w)} : cwE P F60.t5 Q e w θ = cwE P (.region 5 F60.r5.toArray false) Q e w := rfl
def F60.t6 : Cd := (.seq (.block 1 (.region 6 F60.r6.toArray false)) F60.t5)
theorem F60.t6_eq {θ : Tag (F60.t6, Q, e, w)} : cwE P F60.t6 Q e w θ = cwE P (.seq (.block 1 (.region 6 F60.r6.toArray false)) F60.t5) Q e w := rfl
def F60.t7 : Cd := (.seq (.region 7 F60.r7.toArray false) (.seq (.region 8 F60.r8.toArray false) .ret))
theorem F60.t7_eq {θ : Tag (F60.t7, Q, e, w)} : cwE P F60.t7 Q e w θ = cwE P (.seq (.region 7 F60.r7.toArray false) (.seq (.region 8 F60.r8.toArray false) .ret)) Q e w := rfl
def F60.code : Cd := (.seq (.region 0 F60.r0.toArray false) (.seq (.region 1 F60.r1.toArray false) (.seq (.region 2 F60.r2.toArray false) (.seq (.seq (.region 3 F60.r3.toArray false) (.block 0 (.loop (.seq (.seq (.region 4 F60.r4.toArray false) (.cond (.tmp 23) .skip (.exit 0))) F60.t6)))) F60.t7))))
theorem F60.calls (hn : args.size ≤ 38) (h : cwE Try.prog F60.code (fnP Try.prog #[(.cell 2 43)] R) (entry args) w) : Calls Try.prog 60 args w R :=
  calls_of_cwE (types := Try.prog.types) follows Try.func60 F60.code rfl (by kernel_rfl) hn h
def F61.r0 : List Oper := [
  oc 5 (.box 43 (.tmp 2)) 0,
  op 6 (.assign (.const (.int .i64 0))) 31]
def F61.r1 : List Oper := [
  od 9 (.load 43 (.tmp 5)) 43,
  oc 10 (.call ⟨(.value (.func 72)), #[(.tmp 9)], #[43]⟩) 4,
  op 11 (.unOp .not 4 (.tmp 10)) 4]
def F61.r2 : List Oper := [
  op 6 (.assign (.const (.int .i64 1))) 31]
def F61.r3 : List Oper := [
  op 12 (.move (.tmp 1)) 35,
  op 13 (.binOp .eql 35 (.tmp 12) (.const (.int .u32 4294967295)) 35) 4]
def F61.r4 : List Oper := [
  op 6 (.assign (.const (.int .i64 103))) 31]
def F61.r5 : List Oper := [
  op 14 (.move (.tmp 0)) 61,
  op 15 (.move (.tmp 1)) 35,
  oc 16 (.call ⟨(.value (.func 58)), #[(.tmp 14), (.tmp 15)], #[61, 35]⟩) 3,
  op 7 (.assign (.tmp 16)) 3]
def F61.r6 : List Oper := [
  op 17 (.move (.tmp 7)) 3,
  op 18 (.binOp .geq 3 (.tmp 17) (.const (.int .i64 0)) 3) 4]
def F61.r7 : List Oper := [
  op 6 (.assign (.const (.int .i64 101))) 31]
def F61.r8 : List Oper := [
  ⟨(some 19), (.move (.tmp 0)), 61, "", #[], none⟩,
  ⟨(some 20), (.nilCheck (.tmp 19)), 0, "", #[], none⟩,
  ⟨(some 21), (.fieldAddr 94 (.tmp 20) 1), 0, "", #[], none⟩,
  ⟨(some 24), (.move (.tmp 0)), 61, "", #[], none⟩,
  ⟨(some 25), (.nilCheck (.tmp 24)), 0, "", #[], none⟩,
  ⟨(some 26), (.fieldAddr 94 (.tmp 25) 0), 0, "", #[], none⟩,
  ⟨(some 22), (.load 28 (.tmp 21)), 28, "", #[⟨0, .data⟩], none⟩,
  ⟨(some 23), (.call ⟨(.builtin .len), #[(.tmp 22)], #[28]⟩), 3, "", #[], none⟩,
  ⟨(some 27), (.load 3 (.tmp 26)), 3, "", #[⟨0, .data⟩], none⟩,
  ⟨(some 28), (.binOp .geq 3 (.tmp 23) (.tmp 27) 3), 4, "", #[], none⟩]
def F61.r9 : List Oper := [
  op 6 (.assign (.const (.int .i64 102))) 31]
def F61.r10 : List Oper := [
  op 8 (.assign (.const (.slice none 0 0))) 28]
def F61.r11 : List Oper := [
  op 7 (.assign (.const (.int .i64 0))) 3]
def F61.r12 : List Oper := [
  op 29 (.move (.tmp 7)) 3,
  op 30 (.move (.tmp 0)) 61,
  op 31 (.nilCheck (.tmp 30)) 0,
  op 32 (.fieldAddr 94 (.tmp 31) 1) 0,
  od 33 (.load 28 (.tmp 32)) 28,
  op 34 (.call ⟨(.builtin .len), #[(.tmp 33)], #[28]⟩) 3,
  op 35 (.binOp .lss 3 (.tmp 29) (.tmp 34) 3) 4,
  op 36 (.move (.tmp 35)) 4,
  og 37 (.move (.tmp 0)) 61 36 true,
  og 38 (.nilCheck (.tmp 37)) 0 36 true,
  og 39 (.fieldAddr 94 (.tmp 38) 1) 0 36 true,
  ⟨(some 40), (.load 28 (.tmp 39)), 28, "", #[⟨0, .data⟩], (some (36, true))⟩,
  og 41 (.move (.tmp 7)) 3 36 true,
  og 42 (.indexAddr 28 (.tmp 40) (.tmp 41)) 0 36 true,
  og 43 (.fieldAddr 48 (.tmp 42) 0) 0 36 true,
  ⟨(some 44), (.load 35 (.tmp 43)), 35, "", #[⟨0, .data⟩], (some (36, true))⟩,
  og 45 (.move (.tmp 1)) 35 36 true,
  og 46 (.binOp .lss 35 (.tmp 44) (.tmp 45) 35) 4 36 true,
  op 47 (.pick (.tmp 36) (.tmp 46) (.const (.bool false))) 4]
def F61.r14 : List Oper := [
  op 50 (.move (.tmp 8)) 28,
  op 51 (.move (.tmp 0)) 61,
  op 52 (.nilCheck (.tmp 51)) 0,
  op 53 (.fieldAddr 94 (.tmp 52) 1) 0,
  od 54 (.load 28 (.tmp 53)) 28,
  op 55 (.move (.tmp 7)) 3,
  op 56 (.indexAddr 28 (.tmp 54) (.tmp 55)) 0,
  od 57 (.load 48 (.tmp 56)) 48,
  oc 58 (.buildSlice 28 1 #[(0, (.tmp 57))]) 28,
  oc 59 (.call ⟨(.builtin .append), #[(.tmp 50), (.tmp 58)], #[28, 28]⟩) 28,
  op 8 (.assign (.tmp 59)) 28]
def F61.r13 : List Oper := [
  op 48 (.move (.tmp 7)) 3,
  op 49 (.binOp .add 3 (.tmp 48) (.const (.int .i64 1)) 3) 3,
  op 7 (.assign (.tmp 49)) 3]
def F61.r15 : List Oper := [
  op 60 (.move (.tmp 8)) 28,
  op 61 (.move (.tmp 1)) 35,
  od 62 (.load 43 (.tmp 5)) 43,
  oc 63 (.call ⟨(.value (.func 59)), #[(.tmp 62)], #[43]⟩) 43,
  op 64 (.build 48 #[(0, (.tmp 61)), (1, (.tmp 63))]) 48,
  oc 65 (.buildSlice 28 1 #[(0, (.tmp 64))]) 28,
  oc 66 (.call ⟨(.builtin .append), #[(.tmp 60), (.tmp 65)], #[28, 28]⟩) 28,
  op 8 (.assign (.tmp 66)) 28]
def F61.r16 : List Oper := [
  op 67 (.move (.tmp 8)) 28,
  op 68 (.move (.tmp 0)) 61,
  op 69 (.nilCheck (.tmp 68)) 0,
  op 70 (.fieldAddr 94 (.tmp 69) 1) 0,
  od 71 (.load 28 (.tmp 70)) 28,
  op 72 (.move (.tmp 7)) 3,
  op 73 (.slice 28 (.tmp 71) (some (.tmp 72)) none none) 28,
  oc 74 (.call ⟨(.builtin .append), #[(.tmp 67), (.tmp 73)], #[28, 28]⟩) 28,
  op 8 (.assign (.tmp 74)) 28]
def F61.r17 : List Oper := [
  op 75 (.move (.tmp 0)) 61,
  op 76 (.move (.tmp 8)) 28,
  op 77 (.nilCheck (.tmp 75)) 0,
  op 78 (.fieldAddr 94 (.tmp 77) 1) 0,
  ⟨none, (.store 28 (.tmp 78) (.tmp 76)), 0, "", #[⟨0, .chain⟩], none⟩]
def F61.r18 : List Oper := [
  op 6 (.assign (.const (.int .i64 0))) 31]
def F61.t13 : Cd := (.region 13 F61.r13.toArray false)
theorem F61.t13_eq {θ : Tag (F61.t13, Q, e, w)} : cwE P F61.t13 Q e w θ = cwE P (.region 13 F61.r13.toArray false) Q e w := rfl
def F61.t14 : Cd := (.seq (.block 1 (.region 14 F61.r14.toArray false)) F61.t13)
theorem F61.t14_eq {θ : Tag (F61.t14, Q, e, w)} : cwE P F61.t14 Q e w θ = cwE P (.seq (.block 1 (.region 14 F61.r14.toArray false)) F61.t13) Q e w := rfl
def F61.t15 : Cd := (.seq (.region 15 F61.r15.toArray false) (.seq (.region 16 F61.r16.toArray false) (.seq (.region 17 F61.r17.toArray false) (.seq (.region 18 F61.r18.toArray false) .ret))))
theorem F61.t15_eq {θ : Tag (F61.t15, Q, e, w)} : cwE P F61.t15 Q e w θ = cwE P (.seq (.region 15 F61.r15.toArray false) (.seq (.region 16 F61.r16.toArray false) (.seq (.region 17 F61.r17.toArray false) (.seq (.region 18 F61.r18.toArray false) .ret)))) Q e w := rfl
def F61.t10 : Cd := (.seq (.region 10 F61.r10.toArray false) (.seq (.seq (.region 11 F61.r11.toArray false) (.block 0 (.loop (.seq (.seq (.region 12 F61.r12.toArray false) (.cond (.tmp 47) .skip (.exit 0))) F61.t14)))) F61.t15))
theorem F61.t10_eq {θ : Tag (F61.t10, Q, e, w)} : cwE P F61.t10 Q e w θ = cwE P (.seq (.region 10 F61.r10.toArray false) (.seq (.seq (.region 11 F61.r11.toArray false) (.block 0 (.loop (.seq (.seq (.region 12 F61.r12.toArray false) (.cond (.tmp 47) .skip (.exit 0))) F61.t14)))) F61.t15)) Q e w := rfl
def F61.t8 : Cd := (.seq (.seq (.region 8 F61.r8.toArray true) (.cond (.tmp 28) (.seq (.region 9 F61.r9.toArray false) .ret) .skip)) F61.t10)
theorem F61.t8_eq {θ : Tag (F61.t8, Q, e, w)} : cwE P F61.t8 Q e w θ = cwE P (.seq (.seq (.region 8 F61.r8.toArray true) (.cond (.tmp 28) (.seq (.region 9 F61.r9.toArray false) .ret) .skip)) F61.t10) Q e w := rfl
def F61.t5 : Cd := (.seq (.region 5 F61.r5.toArray false) (.seq (.seq (.region 6 F61.r6.toArray false) (.cond (.tmp 18) (.seq (.region 7 F61.r7.toArray false) .ret) .skip)) F61.t8))
theorem F61.t5_eq {θ : Tag (F61.t5, Q, e, w)} : cwE P F61.t5 Q e w θ = cwE P (.seq (.region 5 F61.r5.toArray false) (.seq (.seq (.region 6 F61.r6.toArray false) (.cond (.tmp 18) (.seq (.region 7 F61.r7.toArray false) .ret) .skip)) F61.t8)) Q e w := rfl
def F61.t3 : Cd := (.seq (.seq (.region 3 F61.r3.toArray false) (.cond (.tmp 13) (.seq (.region 4 F61.r4.toArray false) .ret) .skip)) F61.t5)
theorem F61.t3_eq {θ : Tag (F61.t3, Q, e, w)} : cwE P F61.t3 Q e w θ = cwE P (.seq (.seq (.region 3 F61.r3.toArray false) (.cond (.tmp 13) (.seq (.region 4 F61.r4.toArray false) .ret) .skip)) F61.t5) Q e w := rfl
def F61.code : Cd := (.seq (.region 0 F61.r0.toArray false) (.seq (.seq (.region 1 F61.r1.toArray false) (.cond (.tmp 11) (.seq (.region 2 F61.r2.toArray false) .ret) .skip)) F61.t3))
theorem F61.calls (hn : args.size ≤ 79) (h : cwE Try.prog F61.code (fnP Try.prog #[(.tmp 6)] R) (entry args) w) : Calls Try.prog 61 args w R :=
  calls_of_cwE (types := Try.prog.types) follows Try.func61 F61.code rfl (by kernel_rfl) hn h
def F62.r0 : List Oper := [
  oc 5 (.box 43 (.tmp 2)) 0,
  op 6 (.assign (.const (.int .i64 0))) 31]
def F62.r1 : List Oper := [
  od 8 (.load 43 (.tmp 5)) 43,
  oc 9 (.call ⟨(.value (.func 72)), #[(.tmp 8)], #[43]⟩) 4,
  op 10 (.unOp .not 4 (.tmp 9)) 4]
def F62.r2 : List Oper := [
  op 6 (.assign (.const (.int .i64 1))) 31]
def F62.r3 : List Oper := [
  op 11 (.move (.tmp 0)) 61,
  op 12 (.move (.tmp 1)) 35,
  oc 13 (.call ⟨(.value (.func 58)), #[(.tmp 11), (.tmp 12)], #[61, 35]⟩) 3,
  op 7 (.assign (.tmp 13)) 3]
def F62.r4 : List Oper := [
  op 14 (.move (.tmp 7)) 3,
  op 15 (.binOp .lss 3 (.tmp 14) (.const (.int .i64 0)) 3) 4]
def F62.r5 : List Oper := [
  op 6 (.assign (.const (.int .i64 100))) 31]
def F62.r6 : List Oper := [
  ⟨(some 16), (.move (.tmp 0)), 61, "", #[], none⟩,
  ⟨(some 17), (.nilCheck (.tmp 16)), 0, "", #[], none⟩,
  ⟨(some 18), (.fieldAddr 94 (.tmp 17) 1), 0, "", #[], none⟩,
  ⟨(some 20), (.move (.tmp 7)), 3, "", #[], none⟩,
  ⟨(some 19), (.load 28 (.tmp 18)), 28, "", #[⟨512, .data⟩], none⟩,
  ⟨(some 21), (.load 43 (.tmp 5)), 43, "", #[⟨576, .data⟩], none⟩,
  ⟨(some 22), (.call ⟨(.value (.func 59)), #[(.tmp 21)], #[43]⟩), 43, "", #[⟨6, .chain⟩], none⟩,
  ⟨(some 23), (.indexAddr 28 (.tmp 19) (.tmp 20)), 0, "", #[], none⟩,
  ⟨(some 24), (.fieldAddr 48 (.tmp 23) 1), 0, "", #[], none⟩,
  ⟨none, (.store 43 (.tmp 24) (.tmp 22)), 0, "", #[⟨9, .chain⟩], none⟩]
def F62.r7 : List Oper := [
  op 6 (.assign (.const (.int .i64 0))) 31]
def F62.t6 : Cd := (.seq (.region 6 F62.r6.toArray true) (.seq (.region 7 F62.r7.toArray false) .ret))
theorem F62.t6_eq {θ : Tag (F62.t6, Q, e, w)} : cwE P F62.t6 Q e w θ = cwE P (.seq (.region 6 F62.r6.toArray true) (.seq (.region 7 F62.r7.toArray false) .ret)) Q e w := rfl
def F62.t3 : Cd := (.seq (.region 3 F62.r3.toArray false) (.seq (.seq (.region 4 F62.r4.toArray false) (.cond (.tmp 15) (.seq (.region 5 F62.r5.toArray false) .ret) .skip)) F62.t6))
theorem F62.t3_eq {θ : Tag (F62.t3, Q, e, w)} : cwE P F62.t3 Q e w θ = cwE P (.seq (.region 3 F62.r3.toArray false) (.seq (.seq (.region 4 F62.r4.toArray false) (.cond (.tmp 15) (.seq (.region 5 F62.r5.toArray false) .ret) .skip)) F62.t6)) Q e w := rfl
def F62.code : Cd := (.seq (.region 0 F62.r0.toArray false) (.seq (.seq (.region 1 F62.r1.toArray false) (.cond (.tmp 10) (.seq (.region 2 F62.r2.toArray false) .ret) .skip)) F62.t3))
theorem F62.calls (hn : args.size ≤ 25) (h : cwE Try.prog F62.code (fnP Try.prog #[(.tmp 6)] R) (entry args) w) : Calls Try.prog 62 args w R :=
  calls_of_cwE (types := Try.prog.types) follows Try.func62 F62.code rfl (by kernel_rfl) hn h
def F63.r0 : List Oper := [
  oc 2 (.box 43 (.tmp 0)) 0,
  oc 3 (.box 43 (.tmp 1)) 0,
  op 4 (.assign (.const (.bool false))) 4]
def F63.r1 : List Oper := [
  op 9 (.fieldAddr 43 (.tmp 3) 7) 0,
  op 10 (.fieldAddr 41 (.tmp 9) 6) 0,
  od 11 (.load 39 (.tmp 10)) 39,
  op 12 (.call ⟨(.builtin .len), #[(.tmp 11)], #[39]⟩) 3,
  op 5 (.assign (.tmp 12)) 3]
def F63.r2 : List Oper := [
  op 13 (.fieldAddr 43 (.tmp 2) 7) 0,
  op 14 (.fieldAddr 41 (.tmp 13) 6) 0,
  od 15 (.load 39 (.tmp 14)) 39,
  op 16 (.move (.tmp 5)) 3,
  op 17 (.binOp .add 3 (.tmp 16) (.const (.int .i64 3)) 3) 3,
  op 18 (.slice 39 (.tmp 15) none (some (.tmp 17)) none) 39,
  op 6 (.assign (.tmp 18)) 39]
def F63.r3 : List Oper := [
  ⟨(some 19), (.move (.tmp 6)), 39, "", #[], none⟩,
  ⟨(some 20), (.move (.tmp 5)), 3, "", #[], none⟩,
  ⟨(some 21), (.slice 39 (.tmp 19) none (some (.tmp 20)) none), 39, "", #[], none⟩,
  ⟨(some 23), (.fieldAddr 43 (.tmp 3) 7), 0, "", #[], none⟩,
  ⟨(some 24), (.fieldAddr 41 (.tmp 23) 6), 0, "", #[], none⟩,
  ⟨(some 22), (.convert 39 9 (.tmp 21)), 9, "", #[⟨0, .data⟩], none⟩,
  ⟨(some 25), (.load 39 (.tmp 24)), 39, "", #[⟨0, .data⟩], none⟩,
  ⟨(some 26), (.convert 39 9 (.tmp 25)), 9, "", #[⟨0, .data⟩], none⟩,
  ⟨(some 27), (.binOp .eql 9 (.tmp 22) (.tmp 26) 9), 4, "", #[], none⟩,
  ⟨(some 28), (.move (.tmp 27)), 4, "", #[], none⟩,
  og 29 (.move (.tmp 6)) 39 28 true,
  og 30 (.move (.tmp 5)) 3 28 true,
  og 31 (.indexAddr 39 (.tmp 29) (.tmp 30)) 0 28 true,
  ⟨(some 32), (.load 5 (.tmp 31)), 5, "", #[⟨0, .data⟩], (some (28, true))⟩,
  og 33 (.binOp .eql 5 (.tmp 32) (.const (.int .u8 90)) 5) 4 28 true,
  ⟨(some 34), (.pick (.tmp 28) (.tmp 33) (.const (.bool false))), 4, "", #[], none⟩,
  ⟨(some 35), (.move (.tmp 34)), 4, "", #[], none⟩,
  og 36 (.move (.tmp 6)) 39 35 true,
  og 37 (.move (.tmp 5)) 3 35 true,
  og 38 (.binOp .add 3 (.tmp 37) (.const (.int .i64 1)) 3) 3 35 true,
  og 39 (.indexAddr 39 (.tmp 36) (.tmp 38)) 0 35 true,
  ⟨(some 40), (.load 5 (.tmp 39)), 5, "", #[⟨0, .data⟩], (some (35, true))⟩,
  og 41 (.binOp .eql 5 (.tmp 40) (.const (.int .u8 90)) 5) 4 35 true,
  ⟨(some 42), (.pick (.tmp 35) (.tmp 41) (.const (.bool false))), 4, "", #[], none⟩,
  ⟨(some 43), (.move (.tmp 42)), 4, "", #[], none⟩,
  og 44 (.move (.tmp 6)) 39 43 true,
  og 45 (.move (.tmp 5)) 3 43 true,
  og 46 (.binOp .add 3 (.tmp 45) (.const (.int .i64 2)) 3) 3 43 true,
  og 47 (.indexAddr 39 (.tmp 44) (.tmp 46)) 0 43 true,
  ⟨(some 48), (.load 5 (.tmp 47)), 5, "", #[⟨0, .data⟩], (some (43, true))⟩,
  og 49 (.binOp .eql 5 (.tmp 48) (.const (.int .u8 90)) 5) 4 43 true,
  ⟨(some 50), (.pick (.tmp 43) (.tmp 49) (.const (.bool false))), 4, "", #[], none⟩,
  ⟨(some 7), (.assign (.tmp 50)), 4, "", #[], none⟩]
def F63.r4 : List Oper := [
  op 8 (.assign (.const (.int .i64 0))) 3]
def F63.r5 : List Oper := [
  op 51 (.move (.tmp 8)) 3,
  op 52 (.move (.tmp 6)) 39,
  op 53 (.call ⟨(.builtin .len), #[(.tmp 52)], #[39]⟩) 3,
  op 54 (.binOp .lss 3 (.tmp 51) (.tmp 53) 3) 4]
def F63.r7 : List Oper := [
  op 57 (.move (.tmp 6)) 39,
  op 58 (.move (.tmp 8)) 3,
  op 59 (.indexAddr 39 (.tmp 57) (.tmp 58)) 0,
  ⟨none, (.store 5 (.tmp 59) (.const (.int .u8 238))), 0, "", #[⟨0, .chain⟩], none⟩]
def F63.r6 : List Oper := [
  op 55 (.move (.tmp 8)) 3,
  op 56 (.binOp .add 3 (.tmp 55) (.const (.int .i64 1)) 3) 3,
  op 8 (.assign (.tmp 56)) 3]
def F63.r8 : List Oper := [
  op 60 (.move (.tmp 7)) 4,
  op 4 (.assign (.tmp 60)) 4]
def F63.t6 : Cd := (.region 6 F63.r6.toArray false)
theorem F63.t6_eq {θ : Tag (F63.t6, Q, e, w)} : cwE P F63.t6 Q e w θ = cwE P (.region 6 F63.r6.toArray false) Q e w := rfl
def F63.t7 : Cd := (.seq (.block 1 (.region 7 F63.r7.toArray false)) F63.t6)
theorem F63.t7_eq {θ : Tag (F63.t7, Q, e, w)} : cwE P F63.t7 Q e w θ = cwE P (.seq (.block 1 (.region 7 F63.r7.toArray false)) F63.t6) Q e w := rfl
def F63.t8 : Cd := (.seq (.region 8 F63.r8.toArray false) .ret)
theorem F63.t8_eq {θ : Tag (F63.t8, Q, e, w)} : cwE P F63.t8 Q e w θ = cwE P (.seq (.region 8 F63.r8.toArray false) .ret) Q e w := rfl
def F63.code : Cd := (.seq (.region 0 F63.r0.toArray false) (.seq (.region 1 F63.r1.toArray false) (.seq (.region 2 F63.r2.toArray false) (.seq (.region 3 F63.r3.toArray true) (.seq (.seq (.region 4 F63.r4.toArray false) (.block 0 (.loop (.seq (.seq (.region 5 F63.r5.toArray false) (.cond (.tmp 54) .skip (.exit 0))) F63.t7)))) F63.t8)))))
theorem F63.calls (hn : args.size ≤ 61) (h : cwE Try.prog F63.code (fnP Try.prog #[(.tmp 4)] R) (entry args) w) : Calls Try.prog 63 args w R :=
  calls_of_cwE (types := Try.prog.types) follows Try.func63 F63.code rfl (by kernel_rfl) hn h
def F64.r0 : List Oper := [
  op 6 (.assign (.const (.int .i64 0))) 31]
def F64.r1 : List Oper := [
  op 9 (.move (.tmp 0)) 61,
  op 10 (.move (.tmp 1)) 35,
  oc 11 (.call ⟨(.value (.func 58)), #[(.tmp 9), (.tmp 10)], #[61, 35]⟩) 3,
  op 7 (.assign (.tmp 11)) 3]
def F64.r2 : List Oper := [
  op 12 (.move (.tmp 0)) 61,
  op 13 (.move (.tmp 2)) 35,
  oc 14 (.call ⟨(.value (.func 58)), #[(.tmp 12), (.tmp 13)], #[61, 35]⟩) 3,
  op 8 (.assign (.tmp 14)) 3]
def F64.r3 : List Oper := [
  op 15 (.move (.tmp 7)) 3,
  op 16 (.binOp .lss 3 (.tmp 15) (.const (.int .i64 0)) 3) 4]
def F64.r4 : List Oper := [
  op 6 (.assign (.const (.int .i64 100))) 31]
def F64.r5 : List Oper := [
  op 17 (.move (.tmp 2)) 35,
  op 18 (.move (.tmp 1)) 35,
  op 19 (.binOp .eql 35 (.tmp 17) (.tmp 18) 35) 4]
def F64.r6 : List Oper := [
  op 6 (.assign (.const (.int .i64 0))) 31]
def F64.r7 : List Oper := [
  op 20 (.move (.tmp 2)) 35,
  op 21 (.binOp .eql 35 (.tmp 20) (.const (.int .u32 4294967295)) 35) 4]
def F64.r8 : List Oper := [
  op 6 (.assign (.const (.int .i64 103))) 31]
def F64.r9 : List Oper := [
  op 22 (.move (.tmp 8)) 3,
  op 23 (.binOp .geq 3 (.tmp 22) (.const (.int .i64 0)) 3) 4]
def F64.r10 : List Oper := [
  op 6 (.assign (.const (.int .i64 101))) 31]
def F64.r11 : List Oper := [
  ⟨(some 24), (.move (.tmp 0)), 61, "", #[], none⟩,
  ⟨(some 25), (.nilCheck (.tmp 24)), 0, "", #[], none⟩,
  ⟨(some 26), (.fieldAddr 94 (.tmp 25) 1), 0, "", #[], none⟩,
  ⟨(some 29), (.move (.tmp 0)), 61, "", #[], none⟩,
  ⟨(some 30), (.nilCheck (.tmp 29)), 0, "", #[], none⟩,
  ⟨(some 31), (.fieldAddr 94 (.tmp 30) 0), 0, "", #[], none⟩,
  ⟨(some 27), (.load 28 (.tmp 26)), 28, "", #[⟨0, .data⟩], none⟩,
  ⟨(some 28), (.call ⟨(.builtin .len), #[(.tmp 27)], #[28]⟩), 3, "", #[], none⟩,
  ⟨(some 32), (.load 3 (.tmp 31)), 3, "", #[⟨0, .data⟩], none⟩,
  ⟨(some 33), (.binOp .geq 3 (.tmp 28) (.tmp 32) 3), 4, "", #[], none⟩]
def F64.r12 : List Oper := [
  op 6 (.assign (.const (.int .i64 102))) 31]
def F64.r13 : List Oper := [
  op 6 (.assign (.const (.int .i64 0))) 31]
def F64.t13 : Cd := (.seq (.region 13 F64.r13.toArray false) .ret)
theorem F64.t13_eq {θ : Tag (F64.t13, Q, e, w)} : cwE P F64.t13 Q e w θ = cwE P (.seq (.region 13 F64.r13.toArray false) .ret) Q e w := rfl
def F64.t11 : Cd := (.seq (.seq (.region 11 F64.r11.toArray true) (.cond (.tmp 33) (.seq (.region 12 F64.r12.toArray false) .ret) .skip)) F64.t13)
theorem F64.t11_eq {θ : Tag (F64.t11, Q, e, w)} : cwE P F64.t11 Q e w θ = cwE P (.seq (.seq (.region 11 F64.r11.toArray true) (.cond (.tmp 33) (.seq (.region 12 F64.r12.toArray false) .ret) .skip)) F64.t13) Q e w := rfl
def F64.t9 : Cd := (.seq (.seq (.region 9 F64.r9.toArray false) (.cond (.tmp 23) (.seq (.region 10 F64.r10.toArray false) .ret) .skip)) F64.t11)
theorem F64.t9_eq {θ : Tag (F64.t9, Q, e, w)} : cwE P F64.t9 Q e w θ = cwE P (.seq (.seq (.region 9 F64.r9.toArray false) (.cond (.tmp 23) (.seq (.region 10 F64.r10.toArray false) .ret) .skip)) F64.t11) Q e w := rfl
def F64.t7 : Cd := (.seq (.seq (.region 7 F64.r7.toArray false) (.cond (.tmp 21) (.seq (.region 8 F64.r8.toArray false) .ret) .skip)) F64.t9)
theorem F64.t7_eq {θ : Tag (F64.t7, Q, e, w)} : cwE P F64.t7 Q e w θ = cwE P (.seq (.seq (.region 7 F64.r7.toArray false) (.cond (.tmp 21) (.seq (.region 8 F64.r8.toArray false) .ret) .skip)) F64.t9) Q e w := rfl
def F64.t5 : Cd := (.seq (.seq (.region 5 F64.r5.toArray false) (.cond (.tmp 19) (.seq (.region 6 F64.r6.toArray false) .ret) .skip)) F64.t7)
theorem F64.t5_eq {θ : Tag (F64.t5, Q, e, w)} : cwE P F64.t5 Q e w θ = cwE P (.seq (.seq (.region 5 F64.r5.toArray false) (.cond (.tmp 19) (.seq (.region 6 F64.r6.toArray false) .ret) .skip)) F64.t7) Q e w := rfl
def F64.code : Cd := (.seq (.region 0 F64.r0.toArray false) (.seq (.region 1 F64.r1.toArray false) (.seq (.region 2 F64.r2.toArray false) (.seq (.seq (.region 3 F64.r3.toArray false) (.cond (.tmp 16) (.seq (.region 4 F64.r4.toArray false) .ret) .skip)) F64.t5))))
theorem F64.calls (hn : args.size ≤ 34) (h : cwE Try.prog F64.code (fnP Try.prog #[(.tmp 6)] R) (entry args) w) : Calls Try.prog 64 args w R :=
  calls_of_cwE (types := Try.prog.types) follows Try.func64 F64.code rfl (by kernel_rfl) hn h
def F65.r0 : List Oper := [
  op 8 (.assign (.const (.int .i64 0))) 31]
def F65.r1 : List Oper := [
  op 12 (.move (.tmp 0)) 61,
  op 13 (.move (.tmp 1)) 35,
  op 14 (.move (.tmp 2)) 35,
  oc 15 (.call ⟨(.value (.func 64)), #[(.tmp 12), (.tmp 13), (.tmp 14)], #[61, 35, 35]⟩) 31,
  op 9 (.assign (.tmp 15)) 31]
def F65.r2 : List Oper := [
  op 16 (.move (.tmp 9)) 31,
  op 17 (.binOp .neq 31 (.tmp 16) (.const (.int .i64 0)) 31) 4]
def F65.r3 : List Oper := [
  op 18 (.move (.tmp 9)) 31,
  op 8 (.assign (.tmp 18)) 31]
def F65.r4 : List Oper := [
  op 19 (.move (.tmp 0)) 61,
  op 20 (.move (.tmp 1)) 35,
  oc 21 (.call ⟨(.value (.func 58)), #[(.tmp 19), (.tmp 20)], #[61, 35]⟩) 3,
  op 10 (.assign (.tmp 21)) 3]
def F65.r5 : List Oper := [
  op 22 (.move (.tmp 0)) 61,
  op 23 (.move (.tmp 10)) 3,
  oc 24 (.call ⟨(.value (.func 73)), #[(.tmp 22), (.tmp 23)], #[61, 3]⟩) 31,
  op 9 (.assign (.tmp 24)) 31]
def F65.r6 : List Oper := [
  op 25 (.move (.tmp 9)) 31,
  op 26 (.binOp .neq 31 (.tmp 25) (.const (.int .i64 0)) 31) 4]
def F65.r7 : List Oper := [
  op 27 (.move (.tmp 9)) 31,
  op 8 (.assign (.tmp 27)) 31]
def F65.r8 : List Oper := [
  op 28 (.move (.tmp 3)) 37,
  op 29 (.move (.tmp 0)) 61,
  op 30 (.nilCheck (.tmp 29)) 0,
  op 31 (.fieldAddr 94 (.tmp 30) 1) 0,
  od 32 (.load 28 (.tmp 31)) 28,
  op 33 (.move (.tmp 10)) 3,
  op 34 (.indexAddr 28 (.tmp 32) (.tmp 33)) 0,
  op 35 (.fieldAddr 48 (.tmp 34) 1) 0,
  op 36 (.fieldAddr 43 (.tmp 35) 2) 0,
  od 37 (.load 9 (.tmp 36)) 9,
  op 38 (.build 43 #[(0, (.const (.int .u8 1))), (1, (.tmp 28)), (2, (.tmp 37))]) 43,
  oc 11 (.alloc 43) 0,
  ⟨none, (.store 43 (.tmp 11) (.tmp 38)), 0, "", #[⟨0, .chain⟩], none⟩]
def F65.r9 : List Oper := [
  op 39 (.move (.tmp 2)) 35,
  op 40 (.move (.tmp 1)) 35,
  op 41 (.binOp .eql 35 (.tmp 39) (.tmp 40) 35) 4]
def F65.r10 : List Oper := [
  op 42 (.move (.tmp 0)) 61,
  op 43 (.move (.tmp 1)) 35,
  od 44 (.load 43 (.tmp 11)) 43,
  oc 45 (.call ⟨(.value (.func 62)), #[(.tmp 42), (.tmp 43), (.tmp 44)], #[61, 35, 43]⟩) 31,
  op 8 (.assign (.tmp 45)) 31]
def F65.r11 : List Oper := [
  op 46 (.move (.tmp 0)) 61,
  op 47 (.move (.tmp 2)) 35,
  od 48 (.load 43 (.tmp 11)) 43,
  oc 49 (.call ⟨(.value (.func 61)), #[(.tmp 46), (.tmp 47), (.tmp 48)], #[61, 35, 43]⟩) 31,
  op 8 (.assign (.tmp 49)) 31]
def F65.t11 : Cd := (.seq (.region 11 F65.r11.toArray false) .ret)
theorem F65.t11_eq {θ : Tag (F65.t11, Q, e, w)} : cwE P F65.t11 Q e w θ = cwE P (.seq (.region 11 F65.r11.toArray false) .ret) Q e w := rfl
def F65.t8 : Cd := (.seq (.region 8 F65.r8.toArray false) (.seq (.seq (.region 9 F65.r9.toArray false) (.cond (.tmp 41) (.seq (.region 10 F65.r10.toArray false) .ret) .skip)) F65.t11))
theorem F65.t8_eq {θ : Tag (F65.t8, Q, e, w)} : cwE P F65.t8 Q e w θ = cwE P (.seq (.region 8 F65.r8.toArray false) (.seq (.seq (.region 9 F65.r9.toArray false) (.cond (.tmp 41) (.seq (.region 10 F65.r10.toArray false) .ret) .skip)) F65.t11)) Q e w := rfl
def F65.t4 : Cd := (.seq (.region 4 F65.r4.toArray false) (.seq (.region 5 F65.r5.toArray false) (.seq (.seq (.region 6 F65.r6.toArray false) (.cond (.tmp 26) (.seq (.region 7 F65.r7.toArray false) .ret) .skip)) F65.t8)))
theorem F65.t4_eq {θ : Tag (F65.t4, Q, e, w)} : cwE P F65.t4 Q e w θ = cwE P (.seq (.region 4 F65.r4.toArray false) (.seq (.region 5 F65.r5.toArray false) (.seq (.seq (.region 6 F65.r6.toArray false) (.cond (.tmp 26) (.seq (.region 7 F65.r7.toArray false) .ret) .skip)) F65.t8))) Q e w := rfl
def F65.code : Cd := (.seq (.region 0 F65.r0.toArray false) (.seq (.region 1 F65.r1.toArray false) (.seq (.seq (.region 2 F65.r2.toArray false) (.cond (.tmp 17) (.seq (.region 3 F65.r3.toArray false) .ret) .skip)) F65.t4)))
theorem F65.calls (hn : args.size ≤ 50) (h : cwE Try.prog F65.code (fnP Try.prog #[(.tmp 8)] R) (entry args) w) : Calls Try.prog 65 args w R :=
  calls_of_cwE (types := Try.prog.types) follows Try.func65 F65.code rfl (by kernel_rfl) hn h
def F66.r0 : List Oper := [
  op 10 (.assign (.const (.int .i64 0))) 31]
def F66.r1 : List Oper := [
  op 13 (.move (.tmp 0)) 61,
  op 14 (.move (.tmp 1)) 35,
  oc 15 (.call ⟨(.value (.func 58)), #[(.tmp 13), (.tmp 14)], #[61, 35]⟩) 3,
  op 11 (.assign (.tmp 15)) 3]
def F66.r2 : List Oper := [
  op 16 (.move (.tmp 11)) 3,
  op 17 (.binOp .lss 3 (.tmp 16) (.const (.int .i64 0)) 3) 4]
def F66.r3 : List Oper := [
  op 10 (.assign (.const (.int .i64 100))) 31]
def F66.r4 : List Oper := [
  op 18 (.move (.tmp 0)) 61,
  op 19 (.move (.tmp 11)) 3,
  oc 20 (.call ⟨(.value (.func 73)), #[(.tmp 18), (.tmp 19)], #[61, 3]⟩) 31,
  op 12 (.assign (.tmp 20)) 31]
def F66.r5 : List Oper := [
  op 21 (.move (.tmp 12)) 31,
  op 22 (.binOp .neq 31 (.tmp 21) (.const (.int .i64 0)) 31) 4]
def F66.r6 : List Oper := [
  op 23 (.move (.tmp 12)) 31,
  op 10 (.assign (.tmp 23)) 31]
def F66.r7 : List Oper := [
  ⟨(some 24), (.move (.tmp 0)), 61, "", #[], none⟩,
  ⟨(some 25), (.nilCheck (.tmp 24)), 0, "", #[], none⟩,
  ⟨(some 26), (.fieldAddr 94 (.tmp 25) 1), 0, "", #[], none⟩,
  ⟨(some 28), (.move (.tmp 11)), 3, "", #[], none⟩,
  ⟨(some 29), (.move (.tmp 2)), 37, "", #[], none⟩,
  ⟨(some 30), (.move (.tmp 0)), 61, "", #[], none⟩,
  ⟨(some 31), (.nilCheck (.tmp 30)), 0, "", #[], none⟩,
  ⟨(some 32), (.fieldAddr 94 (.tmp 31) 1), 0, "", #[], none⟩,
  ⟨(some 34), (.move (.tmp 11)), 3, "", #[], none⟩,
  ⟨(some 39), (.move (.tmp 3)), 5, "", #[], none⟩,
  ⟨(some 40), (.binOp .rem 5 (.tmp 39) (.const (.int .u8 4)) 5), 5, "", #[], none⟩,
  ⟨(some 41), (.move (.tmp 4)), 4, "", #[], none⟩,
  ⟨(some 27), (.load 28 (.tmp 26)), 28, "", #[⟨2097152, .data⟩], none⟩,
  ⟨(some 33), (.load 28 (.tmp 32)), 28, "", #[⟨2097152, .data⟩], none⟩,
  ⟨(some 35), (.indexAddr 28 (.tmp 33) (.tmp 34)), 0, "", #[], none⟩,
  ⟨(some 36), (.fieldAddr 48 (.tmp 35) 1), 0, "", #[], none⟩,
  ⟨(some 37), (.fieldAddr 43 (.tmp 36) 2), 0, "", #[], none⟩,
  ⟨(some 38), (.load 9 (.tmp 37)), 9, "", #[⟨2097152, .data⟩], none⟩,
  ⟨(some 42), (.build 43 #[(0, (.const (.int .u8 2))), (1, (.tmp 29)), (2, (.tmp 38)), (3, (.tmp 40)), (4, (.tmp 41))]), 43, "", #[], none⟩,
  ⟨(some 43), (.indexAddr 28 (.tmp 27) (.tmp 28)), 0, "", #[], none⟩,
  ⟨(some 44), (.fieldAddr 48 (.tmp 43) 1), 0, "", #[], none⟩,
  ⟨none, (.store 43 (.tmp 44) (.tmp 42)), 0, "", #[⟨21, .chain⟩], none⟩]
def F66.r8 : List Oper := [
  op 10 (.assign (.const (.int .i64 0))) 31]
def F66.t7 : Cd := (.seq (.region 7 F66.r7.toArray true) (.seq (.region 8 F66.r8.toArray false) .ret))
theorem F66.t7_eq {θ : Tag (F66.t7, Q, e, w)} : cwE P F66.t7 Q e w θ = cwE P (.seq (.region 7 F66.r7.toArray true) (.seq (.region 8 F66.r8.toArray false) .ret)) Q e w := rfl
def F66.t4 : Cd := (.seq (.region 4 F66.r4.toArray false) (.seq (.seq (.region 5 F66.r5.toArray false) (.cond (.tmp 22) (.seq (.region 6 F66.r6.toArray false) .ret) .skip)) F66.t7))
theorem F66.t4_eq {θ : Tag (F66.t4, Q, e, w)} : cwE P F66.t4 Q e w θ = cwE P (.seq (.region 4 F66.r4.toArray false) (.seq (.seq (.region 5 F66.r5.toArray false) (.cond (.tmp 22) (.seq (.region 6 F66.r6.toArray false) .ret) .skip)) F66.t7)) Q e w := rfl
def F66.code : Cd := (.seq (.region 0 F66.r0.toArray false) (.seq (.region 1 F66.r1.toArray false) (.seq (.seq (.region 2 F66.r2.toArray false) (.cond (.tmp 17) (.seq (.region 3 F66.r3.toArray false) .ret) .skip)) F66.t4)))
theorem F66.calls (hn : args.size ≤ 45) (h : cwE Try.prog F66.code (fnP Try.prog #[(.tmp 10)] R) (entry args) w) : Calls Try.prog 66 args w R :=
  calls_of_cwE (types := Try.prog.types) follows Try.func66 F66.code rfl (by kernel_rfl) hn h
def F67.r0 : List Oper := [
  op 8 (.assign (.const (.int .i64 0))) 31]
def F67.r1 : List Oper := [
  op 10 (.move (.tmp 0)) 61,
  op 11 (.move (.tmp 1)) 35,
  oc 12 (.call ⟨(.value (.func 58)), #[(.tmp 10), (.tmp 11)], #[61, 35]⟩) 3,
  op 9 (.assign (.tmp 12)) 3]
def F67.r2 : List Oper := [
  op 13 (.move (.tmp 9)) 3,
  op 14 (.binOp .lss 3 (.tmp 13) (.const (.int .i64 0)) 3) 4]
def F67.r3 : List Oper := [
  op 8 (.assign (.const (.int .i64 100))) 31]
def F67.r4 : List Oper := [
  op 15 (.move (.tmp 0)) 61,
  op 16 (.nilCheck (.tmp 15)) 0,
  op 17 (.fieldAddr 94 (.tmp 16) 1) 0,
  od 18 (.load 28 (.tmp 17)) 28,
  op 19 (.move (.tmp 9)) 3,
  op 20 (.indexAddr 28 (.tmp 18) (.tmp 19)) 0,
  op 21 (.fieldAddr 48 (.tmp 20) 1) 0,
  op 22 (.fieldAddr 43 (.tmp 21) 0) 0,
  od 23 (.load 36 (.tmp 22)) 36,
  op 24 (.binOp .neq 36 (.tmp 23) (.const (.int .u8 2)) 36) 4]
def F67.r5 : List Oper := [
  op 8 (.assign (.const (.int .i64 117))) 31]
def F67.r6 : List Oper := [
  op 25 (.move (.tmp 0)) 61,
  op 26 (.nilCheck (.tmp 25)) 0,
  op 27 (.fieldAddr 94 (.tmp 26) 1) 0,
  od 28 (.load 28 (.tmp 27)) 28,
  op 29 (.move (.tmp 9)) 3,
  op 30 (.move (.tmp 2)) 37,
  op 31 (.indexAddr 28 (.tmp 28) (.tmp 29)) 0,
  op 32 (.fieldAddr 48 (.tmp 31) 1) 0,
  op 33 (.fieldAddr 43 (.tmp 32) 5) 0,
  ⟨none, (.store 37 (.tmp 33) (.tmp 30)), 0, "", #[⟨0, .chain⟩], none⟩]
def F67.r7 : List Oper := [
  op 34 (.move (.tmp 0)) 61,
  op 35 (.nilCheck (.tmp 34)) 0,
  op 36 (.fieldAddr 94 (.tmp 35) 1) 0,
  od 37 (.load 28 (.tmp 36)) 28,
  op 38 (.move (.tmp 9)) 3,
  op 39 (.move (.tmp 3)) 37,
  op 40 (.indexAddr 28 (.tmp 37) (.tmp 38)) 0,
  op 41 (.fieldAddr 48 (.tmp 40) 1) 0,
  op 42 (.fieldAddr 43 (.tmp 41) 6) 0,
  ⟨none, (.store 37 (.tmp 42) (.tmp 39)), 0, "", #[⟨0, .chain⟩], none⟩]
def F67.r8 : List Oper := [
  op 8 (.assign (.const (.int .i64 0))) 31]
def F67.t6 : Cd := (.seq (.region 6 F67.r6.toArray false) (.seq (.region 7 F67.r7.toArray false) (.seq (.region 8 F67.r8.toArray false) .ret)))
theorem F67.t6_eq {θ : Tag (F67.t6, Q, e, w)} : cwE P F67.t6 Q e w θ = cwE P (.seq (.region 6 F67.r6.toArray false) (.seq (.region 7 F67.r7.toArray false) (.seq (.region 8 F67.r8.toArray false) .ret))) Q e w := rfl
def F67.t4 : Cd := (.seq (.seq (.region 4 F67.r4.toArray false) (.cond (.tmp 24) (.seq (.region 5 F67.r5.toArray false) .ret) .skip)) F67.t6)
theorem F67.t4_eq {θ : Tag (F67.t4, Q, e, w)} : cwE P F67.t4 Q e w θ = cwE P (.seq (.seq (.region 4 F67.r4.toArray false) (.cond (.tmp 24) (.seq (.region 5 F67.r5.toArray false) .ret) .skip)) F67.t6) Q e w := rfl
def F67.code : Cd := (.seq (.region 0 F67.r0.toArray false) (.seq (.region 1 F67.r1.toArray false) (.seq (.seq (.region 2 F67.r2.toArray false) (.cond (.tmp 14) (.seq (.region 3 F67.r3.toArray false) .ret) .skip)) F67.t4)))
theorem F67.calls (hn : args.size ≤ 43) (h : cwE Try.prog F67.code (fnP Try.prog #[(.tmp 8)] R) (entry args) w) : Calls Try.prog 67 args w R :=
  calls_of_cwE (types := Try.prog.types) follows Try.func67 F67.code rfl (by kernel_rfl) hn h
end Go.Proofs.Ytljndiligbaljaa

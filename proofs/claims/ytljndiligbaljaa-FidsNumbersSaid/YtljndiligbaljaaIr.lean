/- The compiled code of the functions, by program (genir.py): each with the theorem that it is what the engine makes of the loaded program's. -/
import Derived.Test.YtljndiligbaljaaSl2
import Derived.Test.YtljndiligbaljaaProg
namespace Go.Proofs.Ytljndiligbaljaa
open Go
set_option maxRecDepth 100000

theorem follows : Try.prog.follows .mixedOrders = true := by kernel_rfl

theorem fact_aggSz_3 : aggSz Try.prog 3 = some none := by kernel_rfl
theorem fact_aggSz_36 : aggSz Try.prog 36 = some none := by kernel_rfl
theorem fact_aggSz_37 : aggSz Try.prog 37 = some none := by kernel_rfl
theorem fact_aggSz_39 : aggSz Try.prog 39 = some none := by kernel_rfl
theorem fact_aggSz_43 : aggSz Try.prog 43 = some (some 14) := by kernel_rfl
theorem fact_aggSz_86 : aggSz Try.prog 86 = some none := by kernel_rfl
theorem fact_aggSz_9 : aggSz Try.prog 9 = some none := by kernel_rfl
theorem fact_bldP_43 : bldP Try.prog 43 = some ([.int .u8 0, .int .u64 0, .string ⟨#[]⟩, .int .u8 0, .bool false, .int .u64 0, .int .u64 0, .string ⟨#[]⟩, .string ⟨#[]⟩, .int .u64 0, .int .u64 0, .int .u8 0, .int .i64 0, .slice none 0 0], some [(0, 1), (1, 1), (2, 1), (3, 1), (4, 1), (5, 1), (6, 1), (7, 7)], 0) := by kernel_rfl
theorem fact_bldP_88 : bldP Try.prog 88 = some ([.int .i64 0, .map none], some [(0, 1), (1, 1)], 0) := by kernel_rfl
theorem fact_fieldOff_41_6 : fieldOff Try.prog 41 6 = some 6 := by kernel_rfl
theorem fact_fieldOff_43_0 : fieldOff Try.prog 43 0 = some 0 := by kernel_rfl
theorem fact_fieldOff_43_1 : fieldOff Try.prog 43 1 = some 1 := by kernel_rfl
theorem fact_fieldOff_43_2 : fieldOff Try.prog 43 2 = some 2 := by kernel_rfl
theorem fact_fieldOff_43_7 : fieldOff Try.prog 43 7 = some 7 := by kernel_rfl
theorem fact_fieldOff_88_0 : fieldOff Try.prog 88 0 = some 0 := by kernel_rfl
theorem fact_fieldOff_88_1 : fieldOff Try.prog 88 1 = some 1 := by kernel_rfl
theorem fact_fnOk_20 : fnOk Try.prog 20 = true := by kernel_rfl
theorem fact_fnOk_22 : fnOk Try.prog 22 = true := by kernel_rfl
theorem fact_fnOk_30 : fnOk Try.prog 30 = true := by kernel_rfl
theorem fact_fnOk_39 : fnOk Try.prog 39 = true := by kernel_rfl
theorem fact_fnOk_40 : fnOk Try.prog 40 = true := by kernel_rfl
theorem fact_fnOk_41 : fnOk Try.prog 41 = true := by kernel_rfl
theorem fact_fnOk_57 : fnOk Try.prog 57 = true := by kernel_rfl
theorem fact_fnOk_9 : fnOk Try.prog 9 = true := by kernel_rfl
theorem fact_rowTy_39 : rowTy Try.prog 39 = some (5, 1, 1, [.int .u8 0]) := by kernel_rfl
theorem fact_szO_39 : szO Try.prog 39 = some 1 := by kernel_rfl
theorem fact_szO_43 : szO Try.prog 43 = some 14 := by kernel_rfl
theorem fact_zeroV_43 : zeroV Try.prog 43 = some (.agg #[.int .u8 0, .int .u64 0, .string ⟨#[]⟩, .int .u8 0, .bool false, .int .u64 0, .int .u64 0, .string ⟨#[]⟩, .string ⟨#[]⟩, .int .u64 0, .int .u64 0, .int .u8 0, .int .i64 0, .slice none 0 0]) := by kernel_rfl

def F3.r0 : List Oper := [
  ⟨(some 0), (.assign (.const (.bool false))), 4, "", #[], none⟩]
def F3.r1 : List Oper := [
  ⟨(some 2), (.call ⟨(.value (.func 9)), #[(.const (.int .i64 3))], #[3]⟩), 22, "", #[⟨0, .chain⟩], none⟩,
  ⟨(some 1), (.assign (.tmp 2)), 22, "", #[], none⟩]
def F3.r2 : List Oper := [
  ⟨(some 3), (.move (.tmp 1)), 22, "", #[], none⟩,
  ⟨(some 4), (.binOp .neq 22 (.tmp 3) (.const (.pointer none)) 22), 4, "", #[], none⟩,
  ⟨(some 5), (.move (.tmp 4)), 4, "", #[], none⟩,
  ⟨(some 6), (.pick (.tmp 5) (.const (.bool true)) (.const (.bool false))), 4, "", #[], none⟩,
  ⟨(some 7), (.move (.tmp 6)), 4, "", #[], none⟩,
  ⟨(some 8), (.pick (.tmp 7) (.const (.bool true)) (.const (.bool false))), 4, "", #[], none⟩,
  ⟨(some 9), (.move (.tmp 8)), 4, "", #[], none⟩,
  ⟨(some 10), (.pick (.tmp 9) (.const (.bool true)) (.const (.bool false))), 4, "", #[], none⟩,
  ⟨(some 11), (.move (.tmp 10)), 4, "", #[], none⟩,
  ⟨(some 12), (.pick (.tmp 11) (.const (.bool true)) (.const (.bool false))), 4, "", #[], none⟩,
  ⟨(some 13), (.move (.tmp 12)), 4, "", #[], none⟩,
  ⟨(some 14), (.pick (.tmp 13) (.const (.bool true)) (.const (.bool false))), 4, "", #[], none⟩,
  ⟨(some 15), (.move (.tmp 14)), 4, "", #[], none⟩,
  ⟨(some 16), (.pick (.tmp 15) (.const (.bool true)) (.const (.bool false))), 4, "", #[], none⟩,
  ⟨(some 17), (.move (.tmp 16)), 4, "", #[], none⟩,
  ⟨(some 18), (.pick (.tmp 17) (.const (.bool true)) (.const (.bool false))), 4, "", #[], none⟩,
  ⟨(some 19), (.move (.tmp 18)), 4, "", #[], none⟩,
  ⟨(some 20), (.pick (.tmp 19) (.const (.bool true)) (.const (.bool false))), 4, "", #[], none⟩,
  ⟨(some 21), (.move (.tmp 20)), 4, "", #[], none⟩,
  ⟨(some 22), (.pick (.tmp 21) (.const (.bool true)) (.const (.bool false))), 4, "", #[], none⟩,
  ⟨(some 23), (.move (.tmp 22)), 4, "", #[], none⟩,
  ⟨(some 24), (.pick (.tmp 23) (.const (.bool true)) (.const (.bool false))), 4, "", #[], none⟩,
  ⟨(some 25), (.move (.tmp 24)), 4, "", #[], none⟩,
  ⟨(some 26), (.pick (.tmp 25) (.const (.bool true)) (.const (.bool false))), 4, "", #[], none⟩,
  ⟨(some 27), (.move (.tmp 26)), 4, "", #[], none⟩,
  ⟨(some 28), (.pick (.tmp 27) (.const (.bool true)) (.const (.bool false))), 4, "", #[], none⟩,
  ⟨(some 29), (.move (.tmp 28)), 4, "", #[], none⟩,
  ⟨(some 30), (.pick (.tmp 29) (.const (.bool true)) (.const (.bool false))), 4, "", #[], none⟩,
  ⟨(some 0), (.assign (.tmp 30)), 4, "", #[], none⟩]
def F3.code : Code := (.seq (.region 0 F3.r0.toArray false) (.seq (.region 1 F3.r1.toArray false) (.seq (.region 2 F3.r2.toArray false) .ret)))
theorem F3.calls {args : Array Value} {w : World} {R : Ending → World → Prop} (hn : args.size ≤ 31) (h : cwE Try.prog F3.code (fnP Try.prog #[(.tmp 0)] R) (entry args) w) : Calls Try.prog 3 args w R :=
  calls_of_cwE (types := Try.prog.types) follows Try.func3 F3.code rfl (by kernel_rfl) hn h

def F9.r0 : List Oper := [
  ⟨(some 2), (.assign (.const (.pointer none))), 22, "", #[], none⟩]
def F9.r1 : List Oper := [
  ⟨(some 9), (.move (.tmp 0)), 3, "", #[], none⟩,
  ⟨(some 10), (.call ⟨(.value (.func 20)), #[(.tmp 9)], #[3]⟩), 57, "", #[⟨0, .chain⟩], none⟩,
  ⟨(some 8), (.move (.tmp 10)), 57, "", #[], none⟩,
  ⟨(some 11), (.extract (.tmp 8) 0), 22, "", #[], none⟩,
  ⟨(some 12), (.extract (.tmp 8) 1), 31, "", #[], none⟩,
  ⟨(some 3), (.assign (.tmp 11)), 22, "", #[], none⟩,
  ⟨(some 4), (.assign (.tmp 12)), 31, "", #[], none⟩]
def F9.r2 : List Oper := [
  ⟨(some 13), (.move (.tmp 3)), 22, "", #[], none⟩,
  ⟨(some 14), (.binOp .eql 22 (.tmp 13) (.const (.pointer none)) 22), 4, "", #[], none⟩,
  ⟨(some 15), (.move (.tmp 14)), 4, "", #[], none⟩,
  ⟨(some 16), (.move (.tmp 4)), 31, "", #[], (some (15, false))⟩,
  ⟨(some 17), (.binOp .neq 31 (.tmp 16) (.const (.int .i64 0)) 31), 4, "", #[], (some (15, false))⟩,
  ⟨(some 18), (.pick (.tmp 15) (.const (.bool true)) (.tmp 17)), 4, "", #[], none⟩]
def F9.r3 : List Oper := [
  ⟨(some 2), (.assign (.const (.pointer none))), 22, "", #[], none⟩]
def F9.r4 : List Oper := [
  ⟨(some 19), (.move (.tmp 3)), 22, "", #[], none⟩,
  ⟨(some 20), (.build 43 #[(0, (.const (.int .u8 1))), (1, (.const (.int .u64 4))), (2, (.const (.string { data := #[117] })))]), 43, "", #[], none⟩,
  ⟨(some 21), (.call ⟨(.value (.func 22)), #[(.tmp 19), (.const (.int .u32 9)), (.tmp 20)], #[22, 35, 43]⟩), 31, "", #[⟨0, .chain⟩], none⟩,
  ⟨(some 5), (.assign (.tmp 21)), 31, "", #[], none⟩]
def F9.r5 : List Oper := [
  ⟨(some 23), (.move (.tmp 3)), 22, "", #[], none⟩,
  ⟨(some 24), (.call ⟨(.value (.func 30)), #[(.tmp 23), (.const (.int .u32 9))], #[22, 35]⟩), 78, "", #[⟨0, .chain⟩], none⟩,
  ⟨(some 22), (.move (.tmp 24)), 78, "", #[], none⟩,
  ⟨(some 25), (.extract (.tmp 22) 0), 43, "", #[], none⟩,
  ⟨(some 26), (.extract (.tmp 22) 1), 31, "", #[], none⟩,
  ⟨(some 6), (.alloc 43), 0, "", #[⟨0, .chain⟩], none⟩,
  ⟨none, (.store 43 (.tmp 6) (.tmp 25)), 0, "", #[⟨0, .chain⟩], none⟩,
  ⟨(some 7), (.assign (.tmp 26)), 31, "", #[], none⟩]
def F9.r6 : List Oper := [
  ⟨(some 27), (.move (.tmp 5)), 31, "", #[], none⟩,
  ⟨(some 28), (.binOp .neq 31 (.tmp 27) (.const (.int .i64 0)) 31), 4, "", #[], none⟩,
  ⟨(some 29), (.move (.tmp 28)), 4, "", #[], none⟩,
  ⟨(some 30), (.move (.tmp 7)), 31, "", #[], (some (29, false))⟩,
  ⟨(some 31), (.binOp .neq 31 (.tmp 30) (.const (.int .i64 0)) 31), 4, "", #[], (some (29, false))⟩,
  ⟨(some 32), (.pick (.tmp 29) (.const (.bool true)) (.tmp 31)), 4, "", #[], none⟩,
  ⟨(some 33), (.move (.tmp 32)), 4, "", #[], none⟩,
  ⟨(some 34), (.fieldAddr 43 (.tmp 6) 0), 0, "", #[], (some (33, false))⟩,
  ⟨(some 35), (.load 36 (.tmp 34)), 36, "", #[⟨0, .data⟩], (some (33, false))⟩,
  ⟨(some 36), (.binOp .neq 36 (.tmp 35) (.const (.int .u8 1)) 36), 4, "", #[], (some (33, false))⟩,
  ⟨(some 37), (.pick (.tmp 33) (.const (.bool true)) (.tmp 36)), 4, "", #[], none⟩,
  ⟨(some 38), (.move (.tmp 37)), 4, "", #[], none⟩,
  ⟨(some 39), (.fieldAddr 43 (.tmp 6) 1), 0, "", #[], (some (38, false))⟩,
  ⟨(some 40), (.load 37 (.tmp 39)), 37, "", #[⟨0, .data⟩], (some (38, false))⟩,
  ⟨(some 41), (.binOp .neq 37 (.tmp 40) (.const (.int .u64 4)) 37), 4, "", #[], (some (38, false))⟩,
  ⟨(some 42), (.pick (.tmp 38) (.const (.bool true)) (.tmp 41)), 4, "", #[], none⟩,
  ⟨(some 43), (.move (.tmp 42)), 4, "", #[], none⟩,
  ⟨(some 44), (.fieldAddr 43 (.tmp 6) 2), 0, "", #[], (some (43, false))⟩,
  ⟨(some 45), (.load 9 (.tmp 44)), 9, "", #[⟨0, .data⟩], (some (43, false))⟩,
  ⟨(some 46), (.binOp .neq 9 (.tmp 45) (.const (.string { data := #[117] })) 9), 4, "", #[], (some (43, false))⟩,
  ⟨(some 47), (.pick (.tmp 43) (.const (.bool true)) (.tmp 46)), 4, "", #[], none⟩]
def F9.r7 : List Oper := [
  ⟨(some 2), (.assign (.const (.pointer none))), 22, "", #[], none⟩]
def F9.r8 : List Oper := [
  ⟨(some 48), (.move (.tmp 3)), 22, "", #[], none⟩,
  ⟨(some 2), (.assign (.tmp 48)), 22, "", #[], none⟩]
def F9.t8 : Code := (.seq (.region 8 F9.r8.toArray false) .ret)
theorem F9.t8_eq {P : Program} {Q : Post} {e : FA} {w : World} {θ : Tag (F9.t8, Q, e, w)} : cwE P F9.t8 Q e w θ = cwE P (.seq (.region 8 F9.r8.toArray false) .ret) Q e w := rfl
def F9.t4 : Code := (.seq (.region 4 F9.r4.toArray false) (.seq (.region 5 F9.r5.toArray false) (.seq (.seq (.region 6 F9.r6.toArray false) (.cond (.tmp 47) (.seq (.region 7 F9.r7.toArray false) .ret) .skip)) F9.t8)))
theorem F9.t4_eq {P : Program} {Q : Post} {e : FA} {w : World} {θ : Tag (F9.t4, Q, e, w)} : cwE P F9.t4 Q e w θ = cwE P (.seq (.region 4 F9.r4.toArray false) (.seq (.region 5 F9.r5.toArray false) (.seq (.seq (.region 6 F9.r6.toArray false) (.cond (.tmp 47) (.seq (.region 7 F9.r7.toArray false) .ret) .skip)) F9.t8))) Q e w := rfl
def F9.code : Code := (.seq (.region 0 F9.r0.toArray false) (.seq (.region 1 F9.r1.toArray false) (.seq (.seq (.region 2 F9.r2.toArray false) (.cond (.tmp 18) (.seq (.region 3 F9.r3.toArray false) .ret) .skip)) F9.t4)))
theorem F9.calls {args : Array Value} {w : World} {R : Ending → World → Prop} (hn : args.size ≤ 49) (h : cwE Try.prog F9.code (fnP Try.prog #[(.tmp 2)] R) (entry args) w) : Calls Try.prog 9 args w R :=
  calls_of_cwE (types := Try.prog.types) follows Try.func9 F9.code rfl (by kernel_rfl) hn h

def F20.r0 : List Oper := [
  ⟨(some 2), (.assign (.const (.pointer none))), 22, "", #[], none⟩,
  ⟨(some 3), (.assign (.const (.int .i64 0))), 31, "", #[], none⟩]
def F20.r1 : List Oper := [
  ⟨(some 4), (.move (.tmp 0)), 3, "", #[], none⟩,
  ⟨(some 5), (.binOp .lss 3 (.tmp 4) (.const (.int .i64 1)) 3), 4, "", #[], none⟩,
  ⟨(some 6), (.move (.tmp 5)), 4, "", #[], none⟩,
  ⟨(some 7), (.move (.tmp 0)), 3, "", #[], (some (6, false))⟩,
  ⟨(some 8), (.binOp .gtr 3 (.tmp 7) (.const (.int .i64 256)) 3), 4, "", #[], (some (6, false))⟩,
  ⟨(some 9), (.pick (.tmp 6) (.const (.bool true)) (.tmp 8)), 4, "", #[], none⟩]
def F20.r2 : List Oper := [
  ⟨(some 2), (.assign (.const (.pointer none))), 22, "", #[], none⟩,
  ⟨(some 3), (.assign (.const (.int .i64 1))), 31, "", #[], none⟩]
def F20.r3 : List Oper := [
  ⟨(some 10), (.move (.tmp 0)), 3, "", #[], none⟩,
  ⟨(some 11), (.makeMap 86 none), 86, "", #[⟨0, .chain⟩], none⟩,
  ⟨(some 12), (.build 88 #[(0, (.tmp 10)), (1, (.tmp 11))]), 88, "", #[], none⟩,
  ⟨(some 13), (.box 88 (.tmp 12)), 22, "", #[⟨0, .chain⟩], none⟩,
  ⟨(some 2), (.assign (.tmp 13)), 22, "", #[], none⟩,
  ⟨(some 3), (.assign (.const (.int .i64 0))), 31, "", #[], none⟩]
def F20.t3 : Code := (.seq (.region 3 F20.r3.toArray false) .ret)
theorem F20.t3_eq {P : Program} {Q : Post} {e : FA} {w : World} {θ : Tag (F20.t3, Q, e, w)} : cwE P F20.t3 Q e w θ = cwE P (.seq (.region 3 F20.r3.toArray false) .ret) Q e w := rfl
def F20.code : Code := (.seq (.region 0 F20.r0.toArray false) (.seq (.seq (.region 1 F20.r1.toArray false) (.cond (.tmp 9) (.seq (.region 2 F20.r2.toArray false) .ret) .skip)) F20.t3))
theorem F20.calls {args : Array Value} {w : World} {R : Ending → World → Prop} (hn : args.size ≤ 14) (h : cwE Try.prog F20.code (fnP Try.prog #[(.tmp 2), (.tmp 3)] R) (entry args) w) : Calls Try.prog 20 args w R :=
  calls_of_cwE (types := Try.prog.types) follows Try.func20 F20.code rfl (by kernel_rfl) hn h

def F22.r0 : List Oper := [
  ⟨(some 5), (.box 43 (.tmp 2)), 0, "", #[⟨0, .chain⟩], none⟩,
  ⟨(some 6), (.assign (.const (.int .i64 0))), 31, "", #[], none⟩]
def F22.r1 : List Oper := [
  ⟨(some 8), (.load 43 (.tmp 5)), 43, "", #[⟨0, .data⟩], none⟩,
  ⟨(some 9), (.call ⟨(.value (.func 39)), #[(.tmp 8)], #[43]⟩), 4, "", #[⟨0, .chain⟩], none⟩,
  ⟨(some 10), (.unOp .not 4 (.tmp 9)), 4, "", #[], none⟩]
def F22.r2 : List Oper := [
  ⟨(some 6), (.assign (.const (.int .i64 1))), 31, "", #[], none⟩]
def F22.r3 : List Oper := [
  ⟨(some 11), (.move (.tmp 0)), 22, "", #[], none⟩,
  ⟨(some 12), (.move (.tmp 1)), 35, "", #[], none⟩,
  ⟨(some 13), (.call ⟨(.value (.func 40)), #[(.tmp 11), (.tmp 12)], #[22, 35]⟩), 31, "", #[⟨0, .chain⟩], none⟩,
  ⟨(some 7), (.assign (.tmp 13)), 31, "", #[], none⟩]
def F22.r4 : List Oper := [
  ⟨(some 14), (.move (.tmp 7)), 31, "", #[], none⟩,
  ⟨(some 15), (.binOp .neq 31 (.tmp 14) (.const (.int .i64 0)) 31), 4, "", #[], none⟩]
def F22.r5 : List Oper := [
  ⟨(some 16), (.move (.tmp 7)), 31, "", #[], none⟩,
  ⟨(some 6), (.assign (.tmp 16)), 31, "", #[], none⟩]
def F22.r6 : List Oper := [
  ⟨(some 17), (.move (.tmp 0)), 22, "", #[], none⟩,
  ⟨(some 18), (.nilCheck (.tmp 17)), 0, "", #[], none⟩,
  ⟨(some 19), (.fieldAddr 88 (.tmp 18) 1), 0, "", #[], none⟩,
  ⟨(some 21), (.move (.tmp 1)), 35, "", #[], none⟩,
  ⟨(some 20), (.load 86 (.tmp 19)), 86, "", #[⟨128, .data⟩], none⟩,
  ⟨(some 22), (.load 43 (.tmp 5)), 43, "", #[⟨192, .data⟩], none⟩,
  ⟨(some 23), (.call ⟨(.value (.func 41)), #[(.tmp 22)], #[43]⟩), 43, "", #[⟨6, .chain⟩], none⟩,
  ⟨none, (.mapUpdate 86 (.tmp 20) (.tmp 21) (.tmp 23)), 0, "", #[⟨7, .chain⟩], none⟩]
def F22.r7 : List Oper := [
  ⟨(some 6), (.assign (.const (.int .i64 0))), 31, "", #[], none⟩]
def F22.t6 : Code := (.seq (.region 6 F22.r6.toArray true) (.seq (.region 7 F22.r7.toArray false) .ret))
theorem F22.t6_eq {P : Program} {Q : Post} {e : FA} {w : World} {θ : Tag (F22.t6, Q, e, w)} : cwE P F22.t6 Q e w θ = cwE P (.seq (.region 6 F22.r6.toArray true) (.seq (.region 7 F22.r7.toArray false) .ret)) Q e w := rfl
def F22.t3 : Code := (.seq (.seq (.region 3 F22.r3.toArray false) (.seq (.region 4 F22.r4.toArray false) (.cond (.tmp 15) (.seq (.region 5 F22.r5.toArray false) .ret) .skip))) F22.t6)
theorem F22.t3_eq {P : Program} {Q : Post} {e : FA} {w : World} {θ : Tag (F22.t3, Q, e, w)} : cwE P F22.t3 Q e w θ = cwE P (.seq (.seq (.region 3 F22.r3.toArray false) (.seq (.region 4 F22.r4.toArray false) (.cond (.tmp 15) (.seq (.region 5 F22.r5.toArray false) .ret) .skip))) F22.t6) Q e w := rfl
def F22.code : Code := (.seq (.region 0 F22.r0.toArray false) (.seq (.seq (.region 1 F22.r1.toArray false) (.cond (.tmp 10) (.seq (.region 2 F22.r2.toArray false) .ret) .skip)) F22.t3))
theorem F22.calls {args : Array Value} {w : World} {R : Ending → World → Prop} (hn : args.size ≤ 24) (h : cwE Try.prog F22.code (fnP Try.prog #[(.tmp 6)] R) (entry args) w) : Calls Try.prog 22 args w R :=
  calls_of_cwE (types := Try.prog.types) follows Try.func22 F22.code rfl (by kernel_rfl) hn h

def F30.r0 : List Oper := [
  ⟨(some 4), (.alloc 43), 0, "", #[⟨0, .chain⟩], none⟩,
  ⟨(some 5), (.assign (.const (.int .i64 0))), 31, "", #[], none⟩]
def F30.r1 : List Oper := [
  ⟨(some 9), (.move (.tmp 0)), 22, "", #[], none⟩,
  ⟨(some 10), (.nilCheck (.tmp 9)), 0, "", #[], none⟩,
  ⟨(some 11), (.fieldAddr 88 (.tmp 10) 1), 0, "", #[], none⟩,
  ⟨(some 12), (.load 86 (.tmp 11)), 86, "", #[⟨0, .data⟩], none⟩,
  ⟨(some 13), (.move (.tmp 1)), 35, "", #[], none⟩,
  ⟨(some 14), (.lookup 86 (.tmp 12) (.tmp 13) true), 49, "", #[⟨0, .data⟩], none⟩,
  ⟨(some 8), (.move (.tmp 14)), 49, "", #[], none⟩,
  ⟨(some 15), (.extract (.tmp 8) 0), 43, "", #[], none⟩,
  ⟨(some 16), (.extract (.tmp 8) 1), 4, "", #[], none⟩,
  ⟨(some 6), (.alloc 43), 0, "", #[⟨0, .chain⟩], none⟩,
  ⟨none, (.store 43 (.tmp 6) (.tmp 15)), 0, "", #[⟨0, .chain⟩], none⟩,
  ⟨(some 7), (.assign (.tmp 16)), 4, "", #[], none⟩]
def F30.r2 : List Oper := [
  ⟨(some 17), (.move (.tmp 7)), 4, "", #[], none⟩,
  ⟨(some 18), (.unOp .not 4 (.tmp 17)), 4, "", #[], none⟩]
def F30.r3 : List Oper := [
  ⟨(some 19), (.build 43 #[]), 43, "", #[], none⟩,
  ⟨none, (.store 43 (.tmp 4) (.tmp 19)), 0, "", #[⟨0, .chain⟩], none⟩,
  ⟨(some 5), (.assign (.const (.int .i64 100))), 31, "", #[], none⟩]
def F30.r4 : List Oper := [
  ⟨(some 20), (.load 43 (.tmp 6)), 43, "", #[⟨0, .data⟩], none⟩,
  ⟨(some 21), (.call ⟨(.value (.func 41)), #[(.tmp 20)], #[43]⟩), 43, "", #[⟨0, .chain⟩], none⟩,
  ⟨none, (.store 43 (.tmp 4) (.tmp 21)), 0, "", #[⟨0, .chain⟩], none⟩,
  ⟨(some 5), (.assign (.const (.int .i64 0))), 31, "", #[], none⟩]
def F30.t4 : Code := (.seq (.region 4 F30.r4.toArray false) .ret)
theorem F30.t4_eq {P : Program} {Q : Post} {e : FA} {w : World} {θ : Tag (F30.t4, Q, e, w)} : cwE P F30.t4 Q e w θ = cwE P (.seq (.region 4 F30.r4.toArray false) .ret) Q e w := rfl
def F30.code : Code := (.seq (.region 0 F30.r0.toArray false) (.seq (.region 1 F30.r1.toArray false) (.seq (.seq (.region 2 F30.r2.toArray false) (.cond (.tmp 18) (.seq (.region 3 F30.r3.toArray false) .ret) .skip)) F30.t4)))
theorem F30.calls {args : Array Value} {w : World} {R : Ending → World → Prop} (hn : args.size ≤ 22) (h : cwE Try.prog F30.code (fnP Try.prog #[(.cell 4 43), (.tmp 5)] R) (entry args) w) : Calls Try.prog 30 args w R :=
  calls_of_cwE (types := Try.prog.types) follows Try.func30 F30.code rfl (by kernel_rfl) hn h

def F39.r0 : List Oper := [
  ⟨(some 1), (.box 43 (.tmp 0)), 0, "", #[⟨0, .chain⟩], none⟩,
  ⟨(some 2), (.assign (.const (.bool false))), 4, "", #[], none⟩]
def F39.r1 : List Oper := [
  ⟨(some 3), (.fieldAddr 43 (.tmp 1) 0), 0, "", #[], none⟩,
  ⟨(some 4), (.load 36 (.tmp 3)), 36, "", #[⟨0, .data⟩], none⟩]
def F39.r2 : List Oper := [
  ⟨(some 6), (.binOp .eql 36 (.tmp 4) (.const (.int .u8 1)) 36), 4, "", #[], none⟩,
  ⟨(some 5), (.assign (.tmp 6)), 4, "", #[], none⟩]
def F39.r3 : List Oper := [
  ⟨(some 7), (.binOp .eql 36 (.tmp 4) (.const (.int .u8 2)) 36), 4, "", #[], none⟩,
  ⟨(some 5), (.assign (.tmp 7)), 4, "", #[], none⟩]
def F39.r4 : List Oper := [
  ⟨(some 8), (.binOp .eql 36 (.tmp 4) (.const (.int .u8 3)) 36), 4, "", #[], none⟩,
  ⟨(some 5), (.assign (.tmp 8)), 4, "", #[], none⟩]
def F39.r5 : List Oper := [
  ⟨(some 2), (.assign (.const (.bool true))), 4, "", #[], none⟩]
def F39.r6 : List Oper := [
  ⟨(some 2), (.assign (.const (.bool false))), 4, "", #[], none⟩]
def F39.t5 : Code := (.cond (.tmp 5) (.seq (.region 5 F39.r5.toArray false) .ret) .skip)
theorem F39.t5_eq {P : Program} {Q : Post} {e : FA} {w : World} {θ : Tag (F39.t5, Q, e, w)} : cwE P F39.t5 Q e w θ = cwE P (.cond (.tmp 5) (.seq (.region 5 F39.r5.toArray false) .ret) .skip) Q e w := rfl
def F39.t6 : Code := (.seq (.region 6 F39.r6.toArray false) .ret)
theorem F39.t6_eq {P : Program} {Q : Post} {e : FA} {w : World} {θ : Tag (F39.t6, Q, e, w)} : cwE P F39.t6 Q e w θ = cwE P (.seq (.region 6 F39.r6.toArray false) .ret) Q e w := rfl
def F39.code : Code := (.seq (.region 0 F39.r0.toArray false) (.seq (.seq (.region 1 F39.r1.toArray false) (.block 0 (.seq (.seq (.region 2 F39.r2.toArray false) (.cond (.tmp 5) .skip (.seq (.region 3 F39.r3.toArray false) (.cond (.tmp 5) .skip (.region 4 F39.r4.toArray false))))) F39.t5))) F39.t6))
theorem F39.calls {args : Array Value} {w : World} {R : Ending → World → Prop} (hn : args.size ≤ 9) (h : cwE Try.prog F39.code (fnP Try.prog #[(.tmp 2)] R) (entry args) w) : Calls Try.prog 39 args w R :=
  calls_of_cwE (types := Try.prog.types) follows Try.func39 F39.code rfl (by kernel_rfl) hn h

def F40.r0 : List Oper := [
  ⟨(some 4), (.assign (.const (.int .i64 0))), 31, "", #[], none⟩]
def F40.r1 : List Oper := [
  ⟨(some 7), (.move (.tmp 1)), 35, "", #[], none⟩,
  ⟨(some 8), (.binOp .eql 35 (.tmp 7) (.const (.int .u32 4294967295)) 35), 4, "", #[], none⟩]
def F40.r2 : List Oper := [
  ⟨(some 4), (.assign (.const (.int .i64 103))), 31, "", #[], none⟩]
def F40.r3 : List Oper := [
  ⟨(some 10), (.move (.tmp 0)), 22, "", #[], none⟩,
  ⟨(some 11), (.nilCheck (.tmp 10)), 0, "", #[], none⟩,
  ⟨(some 12), (.fieldAddr 88 (.tmp 11) 1), 0, "", #[], none⟩,
  ⟨(some 13), (.load 86 (.tmp 12)), 86, "", #[⟨0, .data⟩], none⟩,
  ⟨(some 14), (.move (.tmp 1)), 35, "", #[], none⟩,
  ⟨(some 15), (.lookup 86 (.tmp 13) (.tmp 14) true), 49, "", #[⟨0, .data⟩], none⟩,
  ⟨(some 9), (.move (.tmp 15)), 49, "", #[], none⟩,
  ⟨(some 16), (.extract (.tmp 9) 0), 43, "", #[], none⟩,
  ⟨(some 17), (.extract (.tmp 9) 1), 4, "", #[], none⟩,
  ⟨(some 5), (.alloc 43), 0, "", #[⟨0, .chain⟩], none⟩,
  ⟨none, (.store 43 (.tmp 5) (.tmp 16)), 0, "", #[⟨0, .chain⟩], none⟩,
  ⟨(some 6), (.assign (.tmp 17)), 4, "", #[], none⟩]
def F40.r4 : List Oper := [
  ⟨(some 18), (.move (.tmp 6)), 4, "", #[], none⟩]
def F40.r5 : List Oper := [
  ⟨(some 4), (.assign (.const (.int .i64 101))), 31, "", #[], none⟩]
def F40.r6 : List Oper := [
  ⟨(some 19), (.move (.tmp 0)), 22, "", #[], none⟩,
  ⟨(some 20), (.nilCheck (.tmp 19)), 0, "", #[], none⟩,
  ⟨(some 21), (.fieldAddr 88 (.tmp 20) 1), 0, "", #[], none⟩,
  ⟨(some 24), (.move (.tmp 0)), 22, "", #[], none⟩,
  ⟨(some 25), (.nilCheck (.tmp 24)), 0, "", #[], none⟩,
  ⟨(some 26), (.fieldAddr 88 (.tmp 25) 0), 0, "", #[], none⟩,
  ⟨(some 22), (.load 86 (.tmp 21)), 86, "", #[⟨0, .data⟩], none⟩,
  ⟨(some 23), (.call ⟨(.builtin .len), #[(.tmp 22)], #[86]⟩), 3, "", #[⟨0, .data⟩], none⟩,
  ⟨(some 27), (.load 3 (.tmp 26)), 3, "", #[⟨0, .data⟩], none⟩,
  ⟨(some 28), (.binOp .geq 3 (.tmp 23) (.tmp 27) 3), 4, "", #[], none⟩]
def F40.r7 : List Oper := [
  ⟨(some 4), (.assign (.const (.int .i64 102))), 31, "", #[], none⟩]
def F40.r8 : List Oper := [
  ⟨(some 4), (.assign (.const (.int .i64 0))), 31, "", #[], none⟩]
def F40.t8 : Code := (.seq (.region 8 F40.r8.toArray false) .ret)
theorem F40.t8_eq {P : Program} {Q : Post} {e : FA} {w : World} {θ : Tag (F40.t8, Q, e, w)} : cwE P F40.t8 Q e w θ = cwE P (.seq (.region 8 F40.r8.toArray false) .ret) Q e w := rfl
def F40.t6 : Code := (.seq (.seq (.region 6 F40.r6.toArray true) (.cond (.tmp 28) (.seq (.region 7 F40.r7.toArray false) .ret) .skip)) F40.t8)
theorem F40.t6_eq {P : Program} {Q : Post} {e : FA} {w : World} {θ : Tag (F40.t6, Q, e, w)} : cwE P F40.t6 Q e w θ = cwE P (.seq (.seq (.region 6 F40.r6.toArray true) (.cond (.tmp 28) (.seq (.region 7 F40.r7.toArray false) .ret) .skip)) F40.t8) Q e w := rfl
def F40.t3 : Code := (.seq (.seq (.region 3 F40.r3.toArray false) (.seq (.region 4 F40.r4.toArray false) (.cond (.tmp 18) (.seq (.region 5 F40.r5.toArray false) .ret) .skip))) F40.t6)
theorem F40.t3_eq {P : Program} {Q : Post} {e : FA} {w : World} {θ : Tag (F40.t3, Q, e, w)} : cwE P F40.t3 Q e w θ = cwE P (.seq (.seq (.region 3 F40.r3.toArray false) (.seq (.region 4 F40.r4.toArray false) (.cond (.tmp 18) (.seq (.region 5 F40.r5.toArray false) .ret) .skip))) F40.t6) Q e w := rfl
def F40.code : Code := (.seq (.region 0 F40.r0.toArray false) (.seq (.seq (.region 1 F40.r1.toArray false) (.cond (.tmp 8) (.seq (.region 2 F40.r2.toArray false) .ret) .skip)) F40.t3))
theorem F40.calls {args : Array Value} {w : World} {R : Ending → World → Prop} (hn : args.size ≤ 29) (h : cwE Try.prog F40.code (fnP Try.prog #[(.tmp 4)] R) (entry args) w) : Calls Try.prog 40 args w R :=
  calls_of_cwE (types := Try.prog.types) follows Try.func40 F40.code rfl (by kernel_rfl) hn h

def F41.r0 : List Oper := [
  ⟨(some 1), (.box 43 (.tmp 0)), 0, "", #[⟨0, .chain⟩], none⟩,
  ⟨(some 2), (.alloc 43), 0, "", #[⟨0, .chain⟩], none⟩]
def F41.r1 : List Oper := [
  ⟨(some 3), (.fieldAddr 43 (.tmp 1) 7), 0, "", #[], none⟩,
  ⟨(some 4), (.fieldAddr 41 (.tmp 3) 6), 0, "", #[], none⟩,
  ⟨(some 5), (.load 39 (.tmp 4)), 39, "", #[⟨0, .data⟩], none⟩,
  ⟨(some 6), (.call ⟨(.value (.func 57)), #[(.tmp 5)], #[39]⟩), 39, "", #[⟨0, .chain⟩], none⟩,
  ⟨(some 7), (.fieldAddr 43 (.tmp 1) 7), 0, "", #[], none⟩,
  ⟨(some 8), (.fieldAddr 41 (.tmp 7) 6), 0, "", #[], none⟩,
  ⟨none, (.store 39 (.tmp 8) (.tmp 6)), 0, "", #[⟨0, .chain⟩], none⟩]
def F41.r2 : List Oper := [
  ⟨(some 9), (.load 43 (.tmp 1)), 43, "", #[⟨0, .data⟩], none⟩,
  ⟨none, (.store 43 (.tmp 2) (.tmp 9)), 0, "", #[⟨0, .chain⟩], none⟩]
def F41.code : Code := (.seq (.region 0 F41.r0.toArray false) (.seq (.region 1 F41.r1.toArray false) (.seq (.region 2 F41.r2.toArray false) .ret)))
theorem F41.calls {args : Array Value} {w : World} {R : Ending → World → Prop} (hn : args.size ≤ 10) (h : cwE Try.prog F41.code (fnP Try.prog #[(.cell 2 43)] R) (entry args) w) : Calls Try.prog 41 args w R :=
  calls_of_cwE (types := Try.prog.types) follows Try.func41 F41.code rfl (by kernel_rfl) hn h

def F57.r0 : List Oper := [
  ⟨(some 2), (.assign (.const (.slice none 0 0))), 39, "", #[], none⟩]
def F57.r1 : List Oper := [
  ⟨(some 3), (.move (.tmp 0)), 39, "", #[], none⟩,
  ⟨(some 4), (.binOp .eql 39 (.tmp 3) (.const (.slice none 0 0)) 39), 4, "", #[], none⟩]
def F57.r2 : List Oper := [
  ⟨(some 2), (.assign (.const (.slice none 0 0))), 39, "", #[], none⟩]
def F57.r3 : List Oper := [
  ⟨(some 5), (.buildSlice 39 0 #[]), 39, "", #[⟨0, .chain⟩], none⟩,
  ⟨(some 6), (.move (.tmp 0)), 39, "", #[], none⟩,
  ⟨(some 7), (.call ⟨(.builtin .append), #[(.tmp 5), (.tmp 6)], #[39, 39]⟩), 39, "", #[⟨0, .chain⟩], none⟩,
  ⟨(some 2), (.assign (.tmp 7)), 39, "", #[], none⟩]
def F57.t3 : Code := (.seq (.region 3 F57.r3.toArray false) .ret)
theorem F57.t3_eq {P : Program} {Q : Post} {e : FA} {w : World} {θ : Tag (F57.t3, Q, e, w)} : cwE P F57.t3 Q e w θ = cwE P (.seq (.region 3 F57.r3.toArray false) .ret) Q e w := rfl
def F57.code : Code := (.seq (.region 0 F57.r0.toArray false) (.seq (.seq (.region 1 F57.r1.toArray false) (.cond (.tmp 4) (.seq (.region 2 F57.r2.toArray false) .ret) .skip)) F57.t3))
theorem F57.calls {args : Array Value} {w : World} {R : Ending → World → Prop} (hn : args.size ≤ 8) (h : cwE Try.prog F57.code (fnP Try.prog #[(.tmp 2)] R) (entry args) w) : Calls Try.prog 57 args w R :=
  calls_of_cwE (types := Try.prog.types) follows Try.func57 F57.code rfl (by kernel_rfl) hn h

attribute [go_sem] fact_aggSz_3
attribute [go_sem] fact_aggSz_36
attribute [go_sem] fact_aggSz_37
attribute [go_sem] fact_aggSz_39
attribute [go_sem] fact_aggSz_43
attribute [go_sem] fact_aggSz_86
attribute [go_sem] fact_aggSz_9
attribute [go_sem] fact_bldP_43
attribute [go_sem] fact_bldP_88
attribute [go_sem] fact_fieldOff_41_6
attribute [go_sem] fact_fieldOff_43_0
attribute [go_sem] fact_fieldOff_43_1
attribute [go_sem] fact_fieldOff_43_2
attribute [go_sem] fact_fieldOff_43_7
attribute [go_sem] fact_fieldOff_88_0
attribute [go_sem] fact_fieldOff_88_1
attribute [go_sem] fact_fnOk_20
attribute [go_sem] fact_fnOk_22
attribute [go_sem] fact_fnOk_30
attribute [go_sem] fact_fnOk_39
attribute [go_sem] fact_fnOk_40
attribute [go_sem] fact_fnOk_41
attribute [go_sem] fact_fnOk_57
attribute [go_sem] fact_fnOk_9
attribute [go_sem] fact_szO_39
attribute [go_sem] fact_szO_43
attribute [go_sem] fact_zeroV_43
attribute [go_sem] Try.underlying22
attribute [go_sem] Try.underlying39
attribute [go_sem] Try.underlying86
attribute [go_sem] F3.r0
attribute [go_sem] F3.r1
attribute [go_sem] F3.r2
attribute [go_sem] F9.r0
attribute [go_sem] F9.r1
attribute [go_sem] F9.r2
attribute [go_sem] F9.r3
attribute [go_sem] F9.r4
attribute [go_sem] F9.r5
attribute [go_sem] F9.r6
attribute [go_sem] F9.r7
attribute [go_sem] F9.r8
attribute [go_sem] F20.r0
attribute [go_sem] F20.r1
attribute [go_sem] F20.r2
attribute [go_sem] F20.r3
attribute [go_sem] F22.r0
attribute [go_sem] F22.r1
attribute [go_sem] F22.r2
attribute [go_sem] F22.r3
attribute [go_sem] F22.r4
attribute [go_sem] F22.r5
attribute [go_sem] F22.r6
attribute [go_sem] F22.r7
attribute [go_sem] F30.r0
attribute [go_sem] F30.r1
attribute [go_sem] F30.r2
attribute [go_sem] F30.r3
attribute [go_sem] F30.r4
attribute [go_sem] F39.r0
attribute [go_sem] F39.r1
attribute [go_sem] F39.r2
attribute [go_sem] F39.r3
attribute [go_sem] F39.r4
attribute [go_sem] F39.r5
attribute [go_sem] F39.r6
attribute [go_sem] F40.r0
attribute [go_sem] F40.r1
attribute [go_sem] F40.r2
attribute [go_sem] F40.r3
attribute [go_sem] F40.r4
attribute [go_sem] F40.r5
attribute [go_sem] F40.r6
attribute [go_sem] F40.r7
attribute [go_sem] F40.r8
attribute [go_sem] F41.r0
attribute [go_sem] F41.r1
attribute [go_sem] F41.r2
attribute [go_sem] F57.r0
attribute [go_sem] F57.r1
attribute [go_sem] F57.r2
attribute [go_sem] F57.r3

end Go.Proofs.Ytljndiligbaljaa

/- The compiled code of the functions, by program (genir.py): each with the theorem that it is what the engine makes of the loaded program's. -/
import Derived.Test.YtfamclpajjnfbaaIrA
namespace Go.Proofs.Ytfamclpajjnfbaa
open Go
set_option maxRecDepth 100000

def F43.r0 : List Oper := [
  ⟨(some 2), (.assign (.const (.int .u64 0))), 81, "", #[], none⟩]
def F43.r1 : List Oper := [
  ⟨(some 3), (.move (.tmp 0)), 35, "", #[], none⟩,
  ⟨(some 4), (.indexAddr 35 (.tmp 3) (.const (.int .i64 0))), 0, "", #[], none⟩,
  ⟨(some 7), (.move (.tmp 0)), 35, "", #[], none⟩,
  ⟨(some 8), (.indexAddr 35 (.tmp 7) (.const (.int .i64 1))), 0, "", #[], none⟩,
  ⟨(some 13), (.move (.tmp 0)), 35, "", #[], none⟩,
  ⟨(some 14), (.indexAddr 35 (.tmp 13) (.const (.int .i64 2))), 0, "", #[], none⟩,
  ⟨(some 19), (.move (.tmp 0)), 35, "", #[], none⟩,
  ⟨(some 20), (.indexAddr 35 (.tmp 19) (.const (.int .i64 3))), 0, "", #[], none⟩,
  ⟨(some 5), (.load 5 (.tmp 4)), 5, "", #[⟨0, .data⟩], none⟩,
  ⟨(some 6), (.convert 5 81 (.tmp 5)), 81, "", #[], none⟩,
  ⟨(some 9), (.load 5 (.tmp 8)), 5, "", #[⟨0, .data⟩], none⟩,
  ⟨(some 10), (.convert 5 81 (.tmp 9)), 81, "", #[], none⟩,
  ⟨(some 11), (.binOp .mul 81 (.tmp 10) (.const (.int .u64 256)) 81), 81, "", #[], none⟩,
  ⟨(some 12), (.binOp .add 81 (.tmp 6) (.tmp 11) 81), 81, "", #[], none⟩,
  ⟨(some 15), (.load 5 (.tmp 14)), 5, "", #[⟨0, .data⟩], none⟩,
  ⟨(some 16), (.convert 5 81 (.tmp 15)), 81, "", #[], none⟩,
  ⟨(some 17), (.binOp .mul 81 (.tmp 16) (.const (.int .u64 65536)) 81), 81, "", #[], none⟩,
  ⟨(some 18), (.binOp .add 81 (.tmp 12) (.tmp 17) 81), 81, "", #[], none⟩,
  ⟨(some 21), (.load 5 (.tmp 20)), 5, "", #[⟨0, .data⟩], none⟩,
  ⟨(some 22), (.convert 5 81 (.tmp 21)), 81, "", #[], none⟩,
  ⟨(some 23), (.binOp .mul 81 (.tmp 22) (.const (.int .u64 16777216)) 81), 81, "", #[], none⟩,
  ⟨(some 24), (.binOp .add 81 (.tmp 18) (.tmp 23) 81), 81, "", #[], none⟩,
  ⟨(some 2), (.assign (.tmp 24)), 81, "", #[], none⟩]
def F43.code : Cd := (.seq (.region 0 F43.r0.toArray false) (.seq (.region 1 F43.r1.toArray true) .ret))
theorem F43.calls {args : Array Value} {w : World} {R : Ending → World → Prop} (hn : args.size ≤ 25) (h : cwE Try.prog F43.code (fnP Try.prog #[(.tmp 2)] R) (entry args) w) : Calls Try.prog 43 args w R :=
  calls_of_cwE (types := Try.prog.types) follows Try.func43 F43.code rfl (by kernel_rfl) hn h

def F44.r0 : List Oper := [
  ⟨(some 2), (.assign (.const (.slice none 0 0))), 35, "", #[], none⟩]
def F44.r1 : List Oper := [
  ⟨(some 3), (.assign (.const (.slice none 0 0))), 35, "", #[], none⟩]
def F44.r2 : List Oper := [
  ⟨(some 4), (.move (.tmp 3)), 35, "", #[], none⟩,
  ⟨(some 5), (.move (.tmp 0)), 35, "", #[], none⟩,
  ⟨(some 6), (.call ⟨(.builtin .append), #[(.tmp 4), (.tmp 5)], #[35, 35]⟩), 35, "", #[⟨0, .chain⟩], none⟩,
  ⟨(some 3), (.assign (.tmp 6)), 35, "", #[], none⟩]
def F44.r3 : List Oper := [
  ⟨(some 7), (.move (.tmp 3)), 35, "", #[], none⟩,
  ⟨(some 8), (.buildSlice 35 3 #[(0, (.const (.int .u8 90))), (1, (.const (.int .u8 165))), (2, (.const (.int .u8 105)))]), 35, "", #[⟨0, .chain⟩], none⟩,
  ⟨(some 9), (.call ⟨(.builtin .append), #[(.tmp 7), (.tmp 8)], #[35, 35]⟩), 35, "", #[⟨0, .chain⟩], none⟩,
  ⟨(some 2), (.assign (.tmp 9)), 35, "", #[], none⟩]
def F44.code : Cd := (.seq (.region 0 F44.r0.toArray false) (.seq (.region 1 F44.r1.toArray false) (.seq (.region 2 F44.r2.toArray false) (.seq (.region 3 F44.r3.toArray false) .ret))))
theorem F44.calls {args : Array Value} {w : World} {R : Ending → World → Prop} (hn : args.size ≤ 10) (h : cwE Try.prog F44.code (fnP Try.prog #[(.tmp 2)] R) (entry args) w) : Calls Try.prog 44 args w R :=
  calls_of_cwE (types := Try.prog.types) follows Try.func44 F44.code rfl (by kernel_rfl) hn h

def F45.r0 : List Oper := [
  ⟨(some 4), (.assign (.const (.bool false))), 4, "", #[], none⟩]
def F45.r1 : List Oper := [
  ⟨(some 8), (.move (.tmp 0)), 35, "", #[], none⟩,
  ⟨(some 9), (.call ⟨(.builtin .len), #[(.tmp 8)], #[35]⟩), 3, "", #[], none⟩,
  ⟨(some 10), (.binOp .sub 3 (.tmp 9) (.const (.int .i64 3)) 3), 3, "", #[], none⟩,
  ⟨(some 5), (.assign (.tmp 10)), 3, "", #[], none⟩]
def F45.r2 : List Oper := [
  ⟨(some 11), (.move (.tmp 0)), 35, "", #[], none⟩,
  ⟨(some 12), (.move (.tmp 5)), 3, "", #[], none⟩,
  ⟨(some 13), (.slice 35 (.tmp 11) none (some (.tmp 12)) none), 35, "", #[], none⟩,
  ⟨(some 14), (.move (.tmp 1)), 35, "", #[], none⟩,
  ⟨(some 15), (.call ⟨(.value (.func 31)), #[(.tmp 13), (.tmp 14)], #[35, 35]⟩), 4, "", #[⟨0, .chain⟩], none⟩,
  ⟨(some 6), (.assign (.tmp 15)), 4, "", #[], none⟩]
def F45.r3 : List Oper := [
  ⟨(some 16), (.move (.tmp 6)), 4, "", #[], none⟩,
  ⟨(some 17), (.move (.tmp 16)), 4, "", #[], none⟩,
  ⟨(some 18), (.move (.tmp 0)), 35, "", #[], (some (17, true))⟩,
  ⟨(some 19), (.move (.tmp 5)), 3, "", #[], (some (17, true))⟩,
  ⟨(some 20), (.indexAddr 35 (.tmp 18) (.tmp 19)), 0, "", #[], (some (17, true))⟩,
  ⟨(some 21), (.load 5 (.tmp 20)), 5, "", #[⟨0, .data⟩], (some (17, true))⟩,
  ⟨(some 22), (.binOp .eql 5 (.tmp 21) (.const (.int .u8 90)) 5), 4, "", #[], (some (17, true))⟩,
  ⟨(some 23), (.pick (.tmp 17) (.tmp 22) (.const (.bool false))), 4, "", #[], none⟩,
  ⟨(some 24), (.move (.tmp 23)), 4, "", #[], none⟩,
  ⟨(some 25), (.move (.tmp 0)), 35, "", #[], (some (24, true))⟩,
  ⟨(some 26), (.move (.tmp 5)), 3, "", #[], (some (24, true))⟩,
  ⟨(some 27), (.binOp .add 3 (.tmp 26) (.const (.int .i64 1)) 3), 3, "", #[], (some (24, true))⟩,
  ⟨(some 28), (.indexAddr 35 (.tmp 25) (.tmp 27)), 0, "", #[], (some (24, true))⟩,
  ⟨(some 29), (.load 5 (.tmp 28)), 5, "", #[⟨0, .data⟩], (some (24, true))⟩,
  ⟨(some 30), (.binOp .eql 5 (.tmp 29) (.const (.int .u8 165)) 5), 4, "", #[], (some (24, true))⟩,
  ⟨(some 31), (.pick (.tmp 24) (.tmp 30) (.const (.bool false))), 4, "", #[], none⟩,
  ⟨(some 32), (.move (.tmp 31)), 4, "", #[], none⟩,
  ⟨(some 33), (.move (.tmp 0)), 35, "", #[], (some (32, true))⟩,
  ⟨(some 34), (.move (.tmp 5)), 3, "", #[], (some (32, true))⟩,
  ⟨(some 35), (.binOp .add 3 (.tmp 34) (.const (.int .i64 2)) 3), 3, "", #[], (some (32, true))⟩,
  ⟨(some 36), (.indexAddr 35 (.tmp 33) (.tmp 35)), 0, "", #[], (some (32, true))⟩,
  ⟨(some 37), (.load 5 (.tmp 36)), 5, "", #[⟨0, .data⟩], (some (32, true))⟩,
  ⟨(some 38), (.binOp .eql 5 (.tmp 37) (.const (.int .u8 105)) 5), 4, "", #[], (some (32, true))⟩,
  ⟨(some 39), (.pick (.tmp 32) (.tmp 38) (.const (.bool false))), 4, "", #[], none⟩,
  ⟨(some 6), (.assign (.tmp 39)), 4, "", #[], none⟩]
def F45.r4 : List Oper := [
  ⟨(some 7), (.assign (.const (.int .i64 0))), 3, "", #[], none⟩]
def F45.r5 : List Oper := [
  ⟨(some 40), (.move (.tmp 7)), 3, "", #[], none⟩,
  ⟨(some 41), (.move (.tmp 0)), 35, "", #[], none⟩,
  ⟨(some 42), (.call ⟨(.builtin .len), #[(.tmp 41)], #[35]⟩), 3, "", #[], none⟩,
  ⟨(some 43), (.binOp .lss 3 (.tmp 40) (.tmp 42) 3), 4, "", #[], none⟩]
def F45.r7 : List Oper := [
  ⟨(some 46), (.move (.tmp 0)), 35, "", #[], none⟩,
  ⟨(some 47), (.move (.tmp 7)), 3, "", #[], none⟩,
  ⟨(some 48), (.indexAddr 35 (.tmp 46) (.tmp 47)), 0, "", #[], none⟩,
  ⟨none, (.store 5 (.tmp 48) (.const (.int .u8 238))), 0, "", #[⟨0, .chain⟩], none⟩]
def F45.r6 : List Oper := [
  ⟨(some 44), (.move (.tmp 7)), 3, "", #[], none⟩,
  ⟨(some 45), (.binOp .add 3 (.tmp 44) (.const (.int .i64 1)) 3), 3, "", #[], none⟩,
  ⟨(some 7), (.assign (.tmp 45)), 3, "", #[], none⟩]
def F45.r8 : List Oper := [
  ⟨(some 49), (.move (.tmp 6)), 4, "", #[], none⟩,
  ⟨(some 4), (.assign (.tmp 49)), 4, "", #[], none⟩]
def F45.t6 : Cd := (.region 6 F45.r6.toArray false)
theorem F45.t6_eq {P : Program} {Q : Post} {e : FA} {w : World} {θ : Tag (F45.t6, Q, e, w)} : cwE P F45.t6 Q e w θ = cwE P (.region 6 F45.r6.toArray false) Q e w := rfl
def F45.t7 : Cd := (.seq (.block 1 (.region 7 F45.r7.toArray false)) F45.t6)
theorem F45.t7_eq {P : Program} {Q : Post} {e : FA} {w : World} {θ : Tag (F45.t7, Q, e, w)} : cwE P F45.t7 Q e w θ = cwE P (.seq (.block 1 (.region 7 F45.r7.toArray false)) F45.t6) Q e w := rfl
def F45.t8 : Cd := (.seq (.region 8 F45.r8.toArray false) .ret)
theorem F45.t8_eq {P : Program} {Q : Post} {e : FA} {w : World} {θ : Tag (F45.t8, Q, e, w)} : cwE P F45.t8 Q e w θ = cwE P (.seq (.region 8 F45.r8.toArray false) .ret) Q e w := rfl
def F45.code : Cd := (.seq (.region 0 F45.r0.toArray false) (.seq (.region 1 F45.r1.toArray false) (.seq (.region 2 F45.r2.toArray false) (.seq (.region 3 F45.r3.toArray false) (.seq (.seq (.region 4 F45.r4.toArray false) (.block 0 (.loop (.seq (.seq (.region 5 F45.r5.toArray false) (.cond (.tmp 43) .skip (.exit 0))) F45.t7)))) F45.t8)))))
theorem F45.calls {args : Array Value} {w : World} {R : Ending → World → Prop} (hn : args.size ≤ 50) (h : cwE Try.prog F45.code (fnP Try.prog #[(.tmp 4)] R) (entry args) w) : Calls Try.prog 45 args w R :=
  calls_of_cwE (types := Try.prog.types) follows Try.func45 F45.code rfl (by kernel_rfl) hn h

def F46.r0 : List Oper := [
  ⟨(some 4), (.assign (.const (.slice none 0 0))), 35, "", #[], none⟩]
def F46.r1 : List Oper := [
  ⟨(some 5), (.move (.tmp 4)), 35, "", #[], none⟩,
  ⟨(some 6), (.move (.tmp 1)), 35, "", #[], none⟩,
  ⟨(some 7), (.call ⟨(.builtin .append), #[(.tmp 5), (.tmp 6)], #[35, 35]⟩), 35, "", #[⟨0, .chain⟩], none⟩,
  ⟨(some 4), (.assign (.tmp 7)), 35, "", #[], none⟩]
def F46.r2 : List Oper := [
  ⟨(some 8), (.move (.tmp 0)), 33, "", #[], none⟩,
  ⟨(some 9), (.move (.tmp 0)), 33, "", #[], none⟩,
  ⟨(some 10), (.nilCheck (.tmp 9)), 0, "", #[], none⟩,
  ⟨(some 11), (.fieldAddr 37 (.tmp 10) 4), 0, "", #[], none⟩,
  ⟨(some 12), (.load 34 (.tmp 11)), 34, "", #[⟨0, .data⟩], none⟩,
  ⟨(some 13), (.move (.tmp 1)), 35, "", #[], none⟩,
  ⟨(some 14), (.buildSlice 34 1 #[(0, (.tmp 13))]), 34, "", #[⟨0, .chain⟩], none⟩,
  ⟨(some 15), (.call ⟨(.builtin .append), #[(.tmp 12), (.tmp 14)], #[34, 34]⟩), 34, "", #[⟨0, .chain⟩], none⟩,
  ⟨(some 16), (.nilCheck (.tmp 8)), 0, "", #[], none⟩,
  ⟨(some 17), (.fieldAddr 37 (.tmp 16) 4), 0, "", #[], none⟩,
  ⟨none, (.store 34 (.tmp 17) (.tmp 15)), 0, "", #[⟨0, .chain⟩], none⟩]
def F46.r3 : List Oper := [
  ⟨(some 18), (.move (.tmp 0)), 33, "", #[], none⟩,
  ⟨(some 19), (.move (.tmp 0)), 33, "", #[], none⟩,
  ⟨(some 20), (.nilCheck (.tmp 19)), 0, "", #[], none⟩,
  ⟨(some 21), (.fieldAddr 37 (.tmp 20) 5), 0, "", #[], none⟩,
  ⟨(some 22), (.load 34 (.tmp 21)), 34, "", #[⟨0, .data⟩], none⟩,
  ⟨(some 23), (.move (.tmp 4)), 35, "", #[], none⟩,
  ⟨(some 24), (.buildSlice 34 1 #[(0, (.tmp 23))]), 34, "", #[⟨0, .chain⟩], none⟩,
  ⟨(some 25), (.call ⟨(.builtin .append), #[(.tmp 22), (.tmp 24)], #[34, 34]⟩), 34, "", #[⟨0, .chain⟩], none⟩,
  ⟨(some 26), (.nilCheck (.tmp 18)), 0, "", #[], none⟩,
  ⟨(some 27), (.fieldAddr 37 (.tmp 26) 5), 0, "", #[], none⟩,
  ⟨none, (.store 34 (.tmp 27) (.tmp 25)), 0, "", #[⟨0, .chain⟩], none⟩]
def F46.code : Cd := (.seq (.region 0 F46.r0.toArray false) (.seq (.region 1 F46.r1.toArray false) (.seq (.region 2 F46.r2.toArray false) (.region 3 F46.r3.toArray false))))
theorem F46.calls {args : Array Value} {w : World} {R : Ending → World → Prop} (hn : args.size ≤ 28) (h : cwE Try.prog F46.code (fnP Try.prog #[] R) (entry args) w) : Calls Try.prog 46 args w R :=
  calls_of_cwE (types := Try.prog.types) follows Try.func46 F46.code rfl (by kernel_rfl) hn h

def F47.r0 : List Oper := [
  ⟨(some 9), (.load 30 (.tmp 1)), 30, "", #[⟨0, .data⟩], none⟩,
  ⟨(some 10), (.call ⟨(.value (.func 11)), #[(.tmp 9)], #[30]⟩), 28, "", #[⟨0, .chain⟩], none⟩,
  ⟨(some 4), (.assign (.tmp 10)), 28, "", #[], none⟩]
def F47.r1 : List Oper := [
  ⟨(some 11), (.move (.tmp 4)), 28, "", #[], none⟩,
  ⟨(some 12), (.binOp .eql 28 (.tmp 11) (.const (.pointer none)) 28), 4, "", #[], none⟩]
def F47.r2 : List Oper := [
  ⟨(some 13), (.load 35 (.tmp 2)), 35, "", #[⟨0, .data⟩], none⟩,
  ⟨(some 5), (.assign (.tmp 13)), 35, "", #[], none⟩]
def F47.r3 : List Oper := [
  ⟨(some 14), (.move (.tmp 5)), 35, "", #[], none⟩,
  ⟨(some 15), (.call ⟨(.builtin .len), #[(.tmp 14)], #[35]⟩), 3, "", #[], none⟩,
  ⟨(some 16), (.binOp .gtr 3 (.tmp 15) (.const (.int .i64 0)) 3), 4, "", #[], none⟩]
def F47.r4 : List Oper := [
  ⟨(some 17), (.move (.tmp 4)), 28, "", #[], none⟩,
  ⟨(some 18), (.call ⟨(.value (.func 24)), #[(.tmp 17)], #[28]⟩), 4, "", #[⟨0, .chain⟩], none⟩,
  ⟨(some 19), (.unOp .not 4 (.tmp 18)), 4, "", #[], none⟩]
def F47.r5 : List Oper := [
  ⟨(some 20), (.move (.tmp 4)), 28, "", #[], none⟩,
  ⟨(some 21), (.move (.tmp 5)), 35, "", #[], none⟩,
  ⟨(some 22), (.call ⟨(.value (.func 20)), #[(.tmp 20), (.tmp 21)], #[28, 35]⟩), 3, "", #[⟨0, .chain⟩], none⟩,
  ⟨(some 6), (.assign (.tmp 22)), 3, "", #[], none⟩]
def F47.r6 : List Oper := [
  ⟨(some 23), (.move (.tmp 6)), 3, "", #[], none⟩,
  ⟨(some 24), (.binOp .eql 3 (.tmp 23) (.const (.int .i64 0)) 3), 4, "", #[], none⟩]
def F47.r7 : List Oper := [
  ⟨(some 25), (.move (.tmp 5)), 35, "", #[], none⟩,
  ⟨(some 26), (.move (.tmp 6)), 3, "", #[], none⟩,
  ⟨(some 27), (.slice 35 (.tmp 25) (some (.tmp 26)) none none), 35, "", #[], none⟩,
  ⟨(some 5), (.assign (.tmp 27)), 35, "", #[], none⟩]
def F47.r8 : List Oper := [
  ⟨(some 29), (.move (.tmp 4)), 28, "", #[], none⟩,
  ⟨(some 30), (.call ⟨(.value (.func 21)), #[(.tmp 29)], #[28]⟩), 49, "", #[⟨0, .chain⟩], none⟩,
  ⟨(some 28), (.move (.tmp 30)), 49, "", #[], none⟩,
  ⟨(some 31), (.extract (.tmp 28) 0), 35, "", #[], none⟩,
  ⟨(some 32), (.extract (.tmp 28) 1), 4, "", #[], none⟩,
  ⟨(some 7), (.assign (.tmp 31)), 35, "", #[], none⟩,
  ⟨(some 8), (.assign (.tmp 32)), 4, "", #[], none⟩]
def F47.r9 : List Oper := [
  ⟨(some 33), (.move (.tmp 8)), 4, "", #[], none⟩,
  ⟨(some 34), (.unOp .not 4 (.tmp 33)), 4, "", #[], none⟩,
  ⟨(some 35), (.move (.tmp 34)), 4, "", #[], none⟩,
  ⟨(some 36), (.move (.tmp 0)), 85, "", #[], (some (35, false))⟩,
  ⟨(some 37), (.move (.tmp 7)), 35, "", #[], (some (35, false))⟩,
  ⟨(some 38), (.call ⟨(.value (.tmp 36)), #[(.tmp 37)], #[35]⟩), 4, "", #[⟨0, .phase⟩], (some (35, false))⟩,
  ⟨(some 39), (.unOp .not 4 (.tmp 38)), 4, "", #[], (some (35, false))⟩,
  ⟨(some 40), (.pick (.tmp 35) (.const (.bool true)) (.tmp 39)), 4, "", #[], none⟩]
def F47.t7 : Cd := (.region 7 F47.r7.toArray false)
theorem F47.t7_eq {P : Program} {Q : Post} {e : FA} {w : World} {θ : Tag (F47.t7, Q, e, w)} : cwE P F47.t7 Q e w θ = cwE P (.region 7 F47.r7.toArray false) Q e w := rfl
def F47.t5 : Cd := (.block 3 (.seq (.region 5 F47.r5.toArray false) (.seq (.seq (.region 6 F47.r6.toArray false) (.cond (.tmp 24) (.exit 0) .skip)) F47.t7)))
theorem F47.t5_eq {P : Program} {Q : Post} {e : FA} {w : World} {θ : Tag (F47.t5, Q, e, w)} : cwE P F47.t5 Q e w θ = cwE P (.block 3 (.seq (.region 5 F47.r5.toArray false) (.seq (.seq (.region 6 F47.r6.toArray false) (.cond (.tmp 24) (.exit 0) .skip)) F47.t7))) Q e w := rfl
def F47.t8 : Cd := (.seq (.region 8 F47.r8.toArray false) (.seq (.region 9 F47.r9.toArray false) (.cond (.tmp 40) (.exit 0) .skip)))
theorem F47.t8_eq {P : Program} {Q : Post} {e : FA} {w : World} {θ : Tag (F47.t8, Q, e, w)} : cwE P F47.t8 Q e w θ = cwE P (.seq (.region 8 F47.r8.toArray false) (.seq (.region 9 F47.r9.toArray false) (.cond (.tmp 40) (.exit 0) .skip))) Q e w := rfl
def F47.t4 : Cd := (.block 1 (.seq (.block 2 (.loop (.seq (.seq (.region 4 F47.r4.toArray false) (.cond (.tmp 19) .skip (.exit 2))) F47.t5))) F47.t8))
theorem F47.t4_eq {P : Program} {Q : Post} {e : FA} {w : World} {θ : Tag (F47.t4, Q, e, w)} : cwE P F47.t4 Q e w θ = cwE P (.block 1 (.seq (.block 2 (.loop (.seq (.seq (.region 4 F47.r4.toArray false) (.cond (.tmp 19) .skip (.exit 2))) F47.t5))) F47.t8)) Q e w := rfl
def F47.t3 : Cd := (.block 0 (.loop (.seq (.seq (.region 3 F47.r3.toArray false) (.cond (.tmp 16) .skip (.exit 0))) F47.t4)))
theorem F47.t3_eq {P : Program} {Q : Post} {e : FA} {w : World} {θ : Tag (F47.t3, Q, e, w)} : cwE P F47.t3 Q e w θ = cwE P (.block 0 (.loop (.seq (.seq (.region 3 F47.r3.toArray false) (.cond (.tmp 16) .skip (.exit 0))) F47.t4))) Q e w := rfl
def F47.t2 : Cd := (.seq (.region 2 F47.r2.toArray false) (.seq (.label 0) F47.t3))
theorem F47.t2_eq {P : Program} {Q : Post} {e : FA} {w : World} {θ : Tag (F47.t2, Q, e, w)} : cwE P F47.t2 Q e w θ = cwE P (.seq (.region 2 F47.r2.toArray false) (.seq (.label 0) F47.t3)) Q e w := rfl
def F47.code : Cd := (.scope (.seq (.region 0 F47.r0.toArray false) (.seq (.seq (.region 1 F47.r1.toArray false) (.cond (.tmp 12) .ret .skip)) F47.t2)))
theorem F47.calls {args : Array Value} {w : World} {R : Ending → World → Prop} (hn : args.size ≤ 41) (h : cwE Try.prog F47.code (fnP Try.prog #[] R) (entry args) w) : Calls Try.prog 47 args w R :=
  calls_of_cwE (types := Try.prog.types) follows Try.func47 F47.code rfl (by kernel_rfl) hn h

def F48.r0 : List Oper := [
  ⟨(some 4), (.assign (.const (.int .i64 0))), 3, "", #[], none⟩]
def F48.r1 : List Oper := [
  ⟨(some 5), (.assign (.const (.int .i64 0))), 3, "", #[], none⟩]
def F48.r2 : List Oper := [
  ⟨(some 7), (.move (.tmp 5)), 3, "", #[], none⟩,
  ⟨(some 8), (.move (.tmp 1)), 35, "", #[], none⟩,
  ⟨(some 9), (.call ⟨(.builtin .len), #[(.tmp 8)], #[35]⟩), 3, "", #[], none⟩,
  ⟨(some 10), (.binOp .lss 3 (.tmp 7) (.tmp 9) 3), 4, "", #[], none⟩,
  ⟨(some 11), (.move (.tmp 10)), 4, "", #[], none⟩,
  ⟨(some 12), (.move (.tmp 0)), 31, "", #[], (some (11, true))⟩,
  ⟨(some 13), (.nilCheck (.tmp 12)), 0, "", #[], (some (11, true))⟩,
  ⟨(some 14), (.fieldAddr 74 (.tmp 13) 4), 0, "", #[], (some (11, true))⟩,
  ⟨(some 15), (.load 4 (.tmp 14)), 4, "", #[⟨0, .data⟩], (some (11, true))⟩,
  ⟨(some 16), (.unOp .not 4 (.tmp 15)), 4, "", #[], (some (11, true))⟩,
  ⟨(some 17), (.pick (.tmp 11) (.tmp 16) (.const (.bool false))), 4, "", #[], none⟩,
  ⟨(some 18), (.move (.tmp 17)), 4, "", #[], none⟩,
  ⟨(some 19), (.move (.tmp 0)), 31, "", #[], (some (18, true))⟩,
  ⟨(some 20), (.call ⟨(.value (.func 39)), #[(.tmp 19)], #[31]⟩), 4, "", #[⟨0, .chain⟩], (some (18, true))⟩,
  ⟨(some 21), (.unOp .not 4 (.tmp 20)), 4, "", #[], (some (18, true))⟩,
  ⟨(some 22), (.pick (.tmp 18) (.tmp 21) (.const (.bool false))), 4, "", #[], none⟩]
def F48.r3 : List Oper := [
  ⟨(some 23), (.move (.tmp 0)), 31, "", #[], none⟩,
  ⟨(some 24), (.move (.tmp 0)), 31, "", #[], none⟩,
  ⟨(some 25), (.nilCheck (.tmp 24)), 0, "", #[], none⟩,
  ⟨(some 26), (.fieldAddr 74 (.tmp 25) 1), 0, "", #[], none⟩,
  ⟨(some 28), (.move (.tmp 1)), 35, "", #[], none⟩,
  ⟨(some 29), (.move (.tmp 5)), 3, "", #[], none⟩,
  ⟨(some 30), (.indexAddr 35 (.tmp 28) (.tmp 29)), 0, "", #[], none⟩,
  ⟨(some 27), (.load 35 (.tmp 26)), 35, "", #[⟨9216, .data⟩], none⟩,
  ⟨(some 31), (.load 5 (.tmp 30)), 5, "", #[⟨9728, .data⟩], none⟩,
  ⟨(some 32), (.buildSlice 35 1 #[(0, (.tmp 31))]), 35, "", #[⟨9, .chain⟩], none⟩,
  ⟨(some 33), (.call ⟨(.builtin .append), #[(.tmp 27), (.tmp 32)], #[35, 35]⟩), 35, "", #[⟨10, .chain⟩], none⟩,
  ⟨(some 34), (.nilCheck (.tmp 23)), 0, "", #[], none⟩,
  ⟨(some 35), (.fieldAddr 74 (.tmp 34) 1), 0, "", #[], none⟩,
  ⟨none, (.store 35 (.tmp 35) (.tmp 33)), 0, "", #[⟨13, .chain⟩], none⟩]
def F48.r4 : List Oper := [
  ⟨(some 36), (.move (.tmp 5)), 3, "", #[], none⟩,
  ⟨(some 37), (.binOp .add 3 (.tmp 36) (.const (.int .i64 1)) 3), 3, "", #[], none⟩,
  ⟨(some 5), (.assign (.tmp 37)), 3, "", #[], none⟩]
def F48.r5 : List Oper := [
  ⟨(some 38), (.move (.tmp 0)), 31, "", #[], none⟩,
  ⟨(some 39), (.move (.tmp 0)), 31, "", #[], none⟩,
  ⟨(some 40), (.nilCheck (.tmp 39)), 0, "", #[], none⟩,
  ⟨(some 41), (.fieldAddr 74 (.tmp 40) 2), 0, "", #[], none⟩,
  ⟨(some 42), (.load 3 (.tmp 41)), 3, "", #[⟨0, .data⟩], none⟩,
  ⟨(some 43), (.binOp .add 3 (.tmp 42) (.const (.int .i64 1)) 3), 3, "", #[], none⟩,
  ⟨(some 44), (.nilCheck (.tmp 38)), 0, "", #[], none⟩,
  ⟨(some 45), (.fieldAddr 74 (.tmp 44) 2), 0, "", #[], none⟩,
  ⟨none, (.store 3 (.tmp 45) (.tmp 43)), 0, "", #[⟨0, .chain⟩], none⟩]
def F48.r6 : List Oper := [
  ⟨(some 46), (.move (.tmp 0)), 31, "", #[], none⟩,
  ⟨(some 47), (.nilCheck (.tmp 46)), 0, "", #[], none⟩,
  ⟨(some 48), (.fieldAddr 74 (.tmp 47) 1), 0, "", #[], none⟩,
  ⟨(some 49), (.load 35 (.tmp 48)), 35, "", #[⟨0, .data⟩], none⟩,
  ⟨(some 50), (.call ⟨(.builtin .len), #[(.tmp 49)], #[35]⟩), 3, "", #[], none⟩,
  ⟨(some 51), (.binOp .eql 3 (.tmp 50) (.const (.int .i64 4)) 3), 4, "", #[], none⟩]
def F48.r7 : List Oper := [
  ⟨(some 52), (.move (.tmp 0)), 31, "", #[], none⟩,
  ⟨(some 53), (.nilCheck (.tmp 52)), 0, "", #[], none⟩,
  ⟨(some 54), (.fieldAddr 74 (.tmp 53) 1), 0, "", #[], none⟩,
  ⟨(some 55), (.load 35 (.tmp 54)), 35, "", #[⟨0, .data⟩], none⟩,
  ⟨(some 56), (.call ⟨(.value (.func 43)), #[(.tmp 55)], #[35]⟩), 81, "", #[⟨0, .chain⟩], none⟩,
  ⟨(some 6), (.assign (.tmp 56)), 81, "", #[], none⟩]
def F48.r8 : List Oper := [
  ⟨(some 57), (.move (.tmp 6)), 81, "", #[], none⟩,
  ⟨(some 58), (.binOp .lss 81 (.tmp 57) (.const (.int .u64 7)) 81), 4, "", #[], none⟩,
  ⟨(some 59), (.move (.tmp 58)), 4, "", #[], none⟩,
  ⟨(some 60), (.move (.tmp 6)), 81, "", #[], (some (59, false))⟩,
  ⟨(some 61), (.move (.tmp 0)), 31, "", #[], (some (59, false))⟩,
  ⟨(some 62), (.nilCheck (.tmp 61)), 0, "", #[], (some (59, false))⟩,
  ⟨(some 63), (.fieldAddr 74 (.tmp 62) 0), 0, "", #[], (some (59, false))⟩,
  ⟨(some 64), (.load 30 (.tmp 63)), 30, "", #[⟨0, .data⟩], (some (59, false))⟩,
  ⟨(some 65), (.convert 30 81 (.tmp 64)), 81, "", #[], (some (59, false))⟩,
  ⟨(some 66), (.binOp .gtr 81 (.tmp 60) (.tmp 65) 81), 4, "", #[], (some (59, false))⟩,
  ⟨(some 67), (.pick (.tmp 59) (.const (.bool true)) (.tmp 66)), 4, "", #[], none⟩]
def F48.r9 : List Oper := [
  ⟨(some 68), (.move (.tmp 0)), 31, "", #[], none⟩,
  ⟨(some 69), (.nilCheck (.tmp 68)), 0, "", #[], none⟩,
  ⟨(some 70), (.fieldAddr 74 (.tmp 69) 4), 0, "", #[], none⟩,
  ⟨none, (.store 4 (.tmp 70) (.const (.bool true))), 0, "", #[⟨0, .chain⟩], none⟩]
def F48.r10 : List Oper := [
  ⟨(some 71), (.move (.tmp 0)), 31, "", #[], none⟩,
  ⟨(some 72), (.move (.tmp 0)), 31, "", #[], none⟩,
  ⟨(some 73), (.nilCheck (.tmp 72)), 0, "", #[], none⟩,
  ⟨(some 74), (.fieldAddr 74 (.tmp 73) 2), 0, "", #[], none⟩,
  ⟨(some 75), (.load 3 (.tmp 74)), 3, "", #[⟨0, .data⟩], none⟩,
  ⟨(some 76), (.binOp .sub 3 (.tmp 75) (.const (.int .i64 4)) 3), 3, "", #[], none⟩,
  ⟨(some 77), (.nilCheck (.tmp 71)), 0, "", #[], none⟩,
  ⟨(some 78), (.fieldAddr 74 (.tmp 77) 5), 0, "", #[], none⟩,
  ⟨none, (.store 3 (.tmp 78) (.tmp 76)), 0, "", #[⟨0, .chain⟩], none⟩]
def F48.r11 : List Oper := [
  ⟨(some 79), (.move (.tmp 5)), 3, "", #[], none⟩,
  ⟨(some 4), (.assign (.tmp 79)), 3, "", #[], none⟩]
def F48.t3 : Cd := (.block 1 (.seq (.region 3 F48.r3.toArray true) (.seq (.region 4 F48.r4.toArray false) (.seq (.region 5 F48.r5.toArray false) (.seq (.region 6 F48.r6.toArray false) (.cond (.tmp 51) (.seq (.region 7 F48.r7.toArray false) (.seq (.region 8 F48.r8.toArray false) (.cond (.tmp 67) (.seq (.region 9 F48.r9.toArray false) (.region 10 F48.r10.toArray false)) .skip))) .skip))))))
theorem F48.t3_eq {P : Program} {Q : Post} {e : FA} {w : World} {θ : Tag (F48.t3, Q, e, w)} : cwE P F48.t3 Q e w θ = cwE P (.block 1 (.seq (.region 3 F48.r3.toArray true) (.seq (.region 4 F48.r4.toArray false) (.seq (.region 5 F48.r5.toArray false) (.seq (.region 6 F48.r6.toArray false) (.cond (.tmp 51) (.seq (.region 7 F48.r7.toArray false) (.seq (.region 8 F48.r8.toArray false) (.cond (.tmp 67) (.seq (.region 9 F48.r9.toArray false) (.region 10 F48.r10.toArray false)) .skip))) .skip)))))) Q e w := rfl
def F48.t11 : Cd := (.seq (.region 11 F48.r11.toArray false) .ret)
theorem F48.t11_eq {P : Program} {Q : Post} {e : FA} {w : World} {θ : Tag (F48.t11, Q, e, w)} : cwE P F48.t11 Q e w θ = cwE P (.seq (.region 11 F48.r11.toArray false) .ret) Q e w := rfl
def F48.code : Cd := (.seq (.region 0 F48.r0.toArray false) (.seq (.region 1 F48.r1.toArray false) (.seq (.block 0 (.loop (.seq (.seq (.region 2 F48.r2.toArray false) (.cond (.tmp 22) .skip (.exit 0))) F48.t3))) F48.t11)))
theorem F48.calls {args : Array Value} {w : World} {R : Ending → World → Prop} (hn : args.size ≤ 80) (h : cwE Try.prog F48.code (fnP Try.prog #[(.tmp 4)] R) (entry args) w) : Calls Try.prog 48 args w R :=
  calls_of_cwE (types := Try.prog.types) follows Try.func48 F48.code rfl (by kernel_rfl) hn h

def F49.r0 : List Oper := [
  ⟨(some 2), (.assign (.const (.slice none 0 0))), 35, "", #[], none⟩,
  ⟨(some 3), (.assign (.const (.bool false))), 4, "", #[], none⟩]
def F49.r1 : List Oper := [
  ⟨(some 5), (.move (.tmp 0)), 31, "", #[], none⟩,
  ⟨(some 6), (.call ⟨(.value (.func 39)), #[(.tmp 5)], #[31]⟩), 4, "", #[⟨0, .chain⟩], none⟩,
  ⟨(some 7), (.unOp .not 4 (.tmp 6)), 4, "", #[], none⟩]
def F49.r2 : List Oper := [
  ⟨(some 2), (.assign (.const (.slice none 0 0))), 35, "", #[], none⟩,
  ⟨(some 3), (.assign (.const (.bool false))), 4, "", #[], none⟩]
def F49.r3 : List Oper := [
  ⟨(some 4), (.assign (.const (.slice none 0 0))), 35, "", #[], none⟩]
def F49.r4 : List Oper := [
  ⟨(some 8), (.move (.tmp 4)), 35, "", #[], none⟩,
  ⟨(some 9), (.move (.tmp 0)), 31, "", #[], none⟩,
  ⟨(some 10), (.nilCheck (.tmp 9)), 0, "", #[], none⟩,
  ⟨(some 11), (.fieldAddr 74 (.tmp 10) 1), 0, "", #[], none⟩,
  ⟨(some 12), (.load 35 (.tmp 11)), 35, "", #[⟨0, .data⟩], none⟩,
  ⟨(some 13), (.call ⟨(.builtin .append), #[(.tmp 8), (.tmp 12)], #[35, 35]⟩), 35, "", #[⟨0, .chain⟩], none⟩,
  ⟨(some 4), (.assign (.tmp 13)), 35, "", #[], none⟩]
def F49.r5 : List Oper := [
  ⟨(some 14), (.move (.tmp 0)), 31, "", #[], none⟩,
  ⟨(some 15), (.nilCheck (.tmp 14)), 0, "", #[], none⟩,
  ⟨(some 16), (.fieldAddr 74 (.tmp 15) 1), 0, "", #[], none⟩,
  ⟨none, (.store 35 (.tmp 16) (.const (.slice none 0 0))), 0, "", #[⟨0, .chain⟩], none⟩]
def F49.r6 : List Oper := [
  ⟨(some 17), (.move (.tmp 0)), 31, "", #[], none⟩,
  ⟨(some 18), (.move (.tmp 0)), 31, "", #[], none⟩,
  ⟨(some 19), (.nilCheck (.tmp 18)), 0, "", #[], none⟩,
  ⟨(some 20), (.fieldAddr 74 (.tmp 19) 3), 0, "", #[], none⟩,
  ⟨(some 21), (.load 3 (.tmp 20)), 3, "", #[⟨0, .data⟩], none⟩,
  ⟨(some 22), (.binOp .add 3 (.tmp 21) (.const (.int .i64 1)) 3), 3, "", #[], none⟩,
  ⟨(some 23), (.nilCheck (.tmp 17)), 0, "", #[], none⟩,
  ⟨(some 24), (.fieldAddr 74 (.tmp 23) 3), 0, "", #[], none⟩,
  ⟨none, (.store 3 (.tmp 24) (.tmp 22)), 0, "", #[⟨0, .chain⟩], none⟩]
def F49.r7 : List Oper := [
  ⟨(some 25), (.move (.tmp 4)), 35, "", #[], none⟩,
  ⟨(some 2), (.assign (.tmp 25)), 35, "", #[], none⟩,
  ⟨(some 3), (.assign (.const (.bool true))), 4, "", #[], none⟩]
def F49.t3 : Cd := (.seq (.region 3 F49.r3.toArray false) (.seq (.region 4 F49.r4.toArray false) (.seq (.region 5 F49.r5.toArray false) (.seq (.region 6 F49.r6.toArray false) (.seq (.region 7 F49.r7.toArray false) .ret)))))
theorem F49.t3_eq {P : Program} {Q : Post} {e : FA} {w : World} {θ : Tag (F49.t3, Q, e, w)} : cwE P F49.t3 Q e w θ = cwE P (.seq (.region 3 F49.r3.toArray false) (.seq (.region 4 F49.r4.toArray false) (.seq (.region 5 F49.r5.toArray false) (.seq (.region 6 F49.r6.toArray false) (.seq (.region 7 F49.r7.toArray false) .ret))))) Q e w := rfl
def F49.code : Cd := (.seq (.region 0 F49.r0.toArray false) (.seq (.seq (.region 1 F49.r1.toArray false) (.cond (.tmp 7) (.seq (.region 2 F49.r2.toArray false) .ret) .skip)) F49.t3))
theorem F49.calls {args : Array Value} {w : World} {R : Ending → World → Prop} (hn : args.size ≤ 26) (h : cwE Try.prog F49.code (fnP Try.prog #[(.tmp 2), (.tmp 3)] R) (entry args) w) : Calls Try.prog 49 args w R :=
  calls_of_cwE (types := Try.prog.types) follows Try.func49 F49.code rfl (by kernel_rfl) hn h

attribute [go_sem] fact_aggSz_24
attribute [go_sem] fact_aggSz_28
attribute [go_sem] fact_aggSz_3
attribute [go_sem] fact_aggSz_30
attribute [go_sem] fact_aggSz_31
attribute [go_sem] fact_aggSz_33
attribute [go_sem] fact_aggSz_34
attribute [go_sem] fact_aggSz_35
attribute [go_sem] fact_aggSz_4
attribute [go_sem] fact_aggSz_40
attribute [go_sem] fact_aggSz_5
attribute [go_sem] fact_aggSz_63
attribute [go_sem] fact_aggSz_70
attribute [go_sem] fact_arrEx_70
attribute [go_sem] fact_bldP_37
attribute [go_sem] fact_bldP_72
attribute [go_sem] fact_bldP_74
attribute [go_sem] fact_elemOf_23
attribute [go_sem] fact_elemOf_24
attribute [go_sem] fact_elemOf_26
attribute [go_sem] fact_elemOf_27
attribute [go_sem] fact_elemOf_34
attribute [go_sem] fact_elemOf_35
attribute [go_sem] fact_elemOf_67
attribute [go_sem] fact_elemOf_70
attribute [go_sem] fact_fieldOff_37_0
attribute [go_sem] fact_fieldOff_37_1
attribute [go_sem] fact_fieldOff_37_2
attribute [go_sem] fact_fieldOff_37_3
attribute [go_sem] fact_fieldOff_37_4
attribute [go_sem] fact_fieldOff_37_5
attribute [go_sem] fact_fieldOff_40_0
attribute [go_sem] fact_fieldOff_40_1
attribute [go_sem] fact_fieldOff_40_2
attribute [go_sem] fact_fieldOff_40_3
attribute [go_sem] fact_fieldOff_45_0
attribute [go_sem] fact_fieldOff_45_1
attribute [go_sem] fact_fieldOff_45_2
attribute [go_sem] fact_fieldOff_45_3
attribute [go_sem] fact_fieldOff_72_0
attribute [go_sem] fact_fieldOff_72_1
attribute [go_sem] fact_fieldOff_72_2
attribute [go_sem] fact_fieldOff_72_3
attribute [go_sem] fact_fieldOff_72_4
attribute [go_sem] fact_fieldOff_72_5
attribute [go_sem] fact_fieldOff_72_6
attribute [go_sem] fact_fieldOff_72_7
attribute [go_sem] fact_fieldOff_74_0
attribute [go_sem] fact_fieldOff_74_1
attribute [go_sem] fact_fieldOff_74_2
attribute [go_sem] fact_fieldOff_74_3
attribute [go_sem] fact_fieldOff_74_4
attribute [go_sem] fact_fieldOff_74_5
attribute [go_sem] fact_fnOk_10
attribute [go_sem] fact_fnOk_11
attribute [go_sem] fact_fnOk_12
attribute [go_sem] fact_fnOk_13
attribute [go_sem] fact_fnOk_14
attribute [go_sem] fact_fnOk_15
attribute [go_sem] fact_fnOk_16
attribute [go_sem] fact_fnOk_17
attribute [go_sem] fact_fnOk_18
attribute [go_sem] fact_fnOk_19
attribute [go_sem] fact_fnOk_20
attribute [go_sem] fact_fnOk_21
attribute [go_sem] fact_fnOk_22
attribute [go_sem] fact_fnOk_23
attribute [go_sem] fact_fnOk_24
attribute [go_sem] fact_fnOk_25
attribute [go_sem] fact_fnOk_26
attribute [go_sem] fact_fnOk_27
attribute [go_sem] fact_fnOk_28
attribute [go_sem] fact_fnOk_29
attribute [go_sem] fact_fnOk_30
attribute [go_sem] fact_fnOk_31
attribute [go_sem] fact_fnOk_32
attribute [go_sem] fact_fnOk_33
attribute [go_sem] fact_fnOk_34
attribute [go_sem] fact_fnOk_35
attribute [go_sem] fact_fnOk_36
attribute [go_sem] fact_fnOk_37
attribute [go_sem] fact_fnOk_38
attribute [go_sem] fact_fnOk_39
attribute [go_sem] fact_fnOk_40
attribute [go_sem] fact_fnOk_41
attribute [go_sem] fact_fnOk_42
attribute [go_sem] fact_fnOk_43
attribute [go_sem] fact_fnOk_44
attribute [go_sem] fact_fnOk_45
attribute [go_sem] fact_fnOk_46
attribute [go_sem] fact_fnOk_47
attribute [go_sem] fact_fnOk_48
attribute [go_sem] fact_fnOk_49
attribute [go_sem] fact_fnOk_9
attribute [go_sem] fact_szO_3
attribute [go_sem] fact_szO_30
attribute [go_sem] fact_szO_34
attribute [go_sem] fact_szO_35
attribute [go_sem] fact_szO_4
attribute [go_sem] fact_szO_5
attribute [go_sem] fact_szO_63
attribute [go_sem] fact_zeroV_3
attribute [go_sem] fact_zeroV_34
attribute [go_sem] fact_zeroV_35
attribute [go_sem] fact_zeroV_4
attribute [go_sem] fact_zeroV_63
attribute [go_sem] Try.underlying3
attribute [go_sem] Try.underlying4
attribute [go_sem] Try.underlying5
attribute [go_sem] Try.underlying23
attribute [go_sem] Try.underlying24
attribute [go_sem] Try.underlying26
attribute [go_sem] Try.underlying27
attribute [go_sem] Try.underlying28
attribute [go_sem] Try.underlying30
attribute [go_sem] Try.underlying31
attribute [go_sem] Try.underlying34
attribute [go_sem] Try.underlying35
attribute [go_sem] Try.underlying63
attribute [go_sem] Try.underlying67
attribute [go_sem] Try.underlying70
attribute [go_sem] Try.underlying81
attribute [go_sem] F3.r0
attribute [go_sem] F3.r1
attribute [go_sem] F4.r0
attribute [go_sem] F4.r1
attribute [go_sem] F4.r2
attribute [go_sem] F4.r3
attribute [go_sem] F4.r4
attribute [go_sem] F4.r5
attribute [go_sem] F4.r6
attribute [go_sem] F4.r7
attribute [go_sem] F4.r8
attribute [go_sem] F4.r9
attribute [go_sem] F4.r11
attribute [go_sem] F4.r12
attribute [go_sem] F4.r13
attribute [go_sem] F4.r14
attribute [go_sem] F4.r15
attribute [go_sem] F4.r16
attribute [go_sem] F4.r17
attribute [go_sem] F4.r10
attribute [go_sem] F4.r18
attribute [go_sem] F4.r19
attribute [go_sem] F4.r20
attribute [go_sem] F4.r22
attribute [go_sem] F4.r23
attribute [go_sem] F4.r24
attribute [go_sem] F4.r25
attribute [go_sem] F4.r26
attribute [go_sem] F4.r21
attribute [go_sem] F4.r27
attribute [go_sem] F4.r28
attribute [go_sem] F4.r30
attribute [go_sem] F4.r31
attribute [go_sem] F4.r32
attribute [go_sem] F4.r29
attribute [go_sem] F4.r33
attribute [go_sem] F5.r0
attribute [go_sem] F5.r1
attribute [go_sem] F5.r2
attribute [go_sem] F5.r3
attribute [go_sem] F5.r4
attribute [go_sem] F5.r5
attribute [go_sem] F5.r6
attribute [go_sem] F5.r7
attribute [go_sem] F5.r8
attribute [go_sem] F5.r9
attribute [go_sem] F5.r10
attribute [go_sem] F5.r11
attribute [go_sem] F5.r12
attribute [go_sem] F5.r14
attribute [go_sem] F5.r15
attribute [go_sem] F5.r16
attribute [go_sem] F5.r17
attribute [go_sem] F5.r18
attribute [go_sem] F5.r19
attribute [go_sem] F5.r13
attribute [go_sem] F5.r20
attribute [go_sem] F5.r21
attribute [go_sem] F5.r22
attribute [go_sem] F5.r23
attribute [go_sem] F5.r24
attribute [go_sem] F5.r25
attribute [go_sem] F5.r26
attribute [go_sem] F5.r28
attribute [go_sem] F5.r29
attribute [go_sem] F5.r30
attribute [go_sem] F5.r31
attribute [go_sem] F5.r32
attribute [go_sem] F5.r27
attribute [go_sem] F5.r33
attribute [go_sem] F5.r34
attribute [go_sem] F6.r0
attribute [go_sem] F6.r1
attribute [go_sem] F6.r2
attribute [go_sem] F6.r3
attribute [go_sem] F6.r4
attribute [go_sem] F6.r5
attribute [go_sem] F6.r6
attribute [go_sem] F6.r7
attribute [go_sem] F6.r8
attribute [go_sem] F6.r9
attribute [go_sem] F6.r10
attribute [go_sem] F6.r11
attribute [go_sem] F6.r12
attribute [go_sem] F6.r13
attribute [go_sem] F6.r14
attribute [go_sem] F6.r15
attribute [go_sem] F6.r16
attribute [go_sem] F6.r17
attribute [go_sem] F6.r18
attribute [go_sem] F6.r19
attribute [go_sem] F6.r20
attribute [go_sem] F6.r21
attribute [go_sem] F6.r22
attribute [go_sem] F7.r0
attribute [go_sem] F7.r1
attribute [go_sem] F7.r2
attribute [go_sem] F7.r3
attribute [go_sem] F7.r4
attribute [go_sem] F7.r5
attribute [go_sem] F7.r6
attribute [go_sem] F7.r7
attribute [go_sem] F7.r8
attribute [go_sem] F7.r10
attribute [go_sem] F7.r11
attribute [go_sem] F7.r12
attribute [go_sem] F7.r9
attribute [go_sem] F7.r13
attribute [go_sem] F7.r14
attribute [go_sem] F7.r15
attribute [go_sem] F7.r16
attribute [go_sem] F7.r17
attribute [go_sem] F7.r18
attribute [go_sem] F7.r19
attribute [go_sem] F7.r20
attribute [go_sem] F7.r21
attribute [go_sem] F7.r22
attribute [go_sem] F7.r23
attribute [go_sem] F7.r24
attribute [go_sem] F7.r25
attribute [go_sem] F7.r26
attribute [go_sem] F7.r27
attribute [go_sem] F7.r28
attribute [go_sem] F7.r29
attribute [go_sem] F7.r30
attribute [go_sem] F7.r32
attribute [go_sem] F7.r33
attribute [go_sem] F7.r34
attribute [go_sem] F7.r35
attribute [go_sem] F7.r36
attribute [go_sem] F7.r37
attribute [go_sem] F7.r38
attribute [go_sem] F7.r39
attribute [go_sem] F7.r40
attribute [go_sem] F7.r31
attribute [go_sem] F7.r41
attribute [go_sem] F8.r0
attribute [go_sem] F8.r1
attribute [go_sem] F8.r2
attribute [go_sem] F8.r3
attribute [go_sem] F8.r4
attribute [go_sem] F8.r5
attribute [go_sem] F8.r6
attribute [go_sem] F8.r7
attribute [go_sem] F8.r8
attribute [go_sem] F8.r9
attribute [go_sem] F8.r10
attribute [go_sem] F8.r11
attribute [go_sem] F8.r12
attribute [go_sem] F8.r14
attribute [go_sem] F8.r15
attribute [go_sem] F8.r16
attribute [go_sem] F8.r17
attribute [go_sem] F8.r18
attribute [go_sem] F8.r19
attribute [go_sem] F8.r20
attribute [go_sem] F8.r21
attribute [go_sem] F8.r22
attribute [go_sem] F8.r23
attribute [go_sem] F8.r24
attribute [go_sem] F8.r25
attribute [go_sem] F8.r26
attribute [go_sem] F8.r27
attribute [go_sem] F8.r13
attribute [go_sem] F8.r28
attribute [go_sem] F8.r29
attribute [go_sem] F8.r30
attribute [go_sem] F8.r31
attribute [go_sem] F8.r32
attribute [go_sem] F8.r33
attribute [go_sem] F8.r34
attribute [go_sem] F8.r35
attribute [go_sem] F8.r36
attribute [go_sem] F8.r37
attribute [go_sem] F8.r38
attribute [go_sem] F8.r40
attribute [go_sem] F8.r39
attribute [go_sem] F8.r41
attribute [go_sem] F8.r42
attribute [go_sem] F8.r43
attribute [go_sem] F8.r44
attribute [go_sem] F8.r45
attribute [go_sem] F8.r46
attribute [go_sem] F8.r47
attribute [go_sem] F9.r0
attribute [go_sem] F9.r1
attribute [go_sem] F9.r2
attribute [go_sem] F9.r3
attribute [go_sem] F9.r4
attribute [go_sem] F9.r5
attribute [go_sem] F9.r6
attribute [go_sem] F9.r7
attribute [go_sem] F9.r8
attribute [go_sem] F9.r9
attribute [go_sem] F9.r10
attribute [go_sem] F10.r0
attribute [go_sem] F10.r1
attribute [go_sem] F10.r2
attribute [go_sem] F10.r3
attribute [go_sem] F10.r5
attribute [go_sem] F10.r6
attribute [go_sem] F10.r7
attribute [go_sem] F10.r4
attribute [go_sem] F10.r8
attribute [go_sem] F11.r0
attribute [go_sem] F11.r1
attribute [go_sem] F11.r2
attribute [go_sem] F11.r3
attribute [go_sem] F12.r0
attribute [go_sem] F12.r1
attribute [go_sem] F12.r2
attribute [go_sem] F12.r3
attribute [go_sem] F13.r0
attribute [go_sem] F13.r1
attribute [go_sem] F13.r2
attribute [go_sem] F13.r3
attribute [go_sem] F14.r0
attribute [go_sem] F14.r1
attribute [go_sem] F14.r2
attribute [go_sem] F14.r3
attribute [go_sem] F14.r4
attribute [go_sem] F14.r5
attribute [go_sem] F14.r6
attribute [go_sem] F14.r7
attribute [go_sem] F14.r8
attribute [go_sem] F14.r10
attribute [go_sem] F14.r9
attribute [go_sem] F14.r11
attribute [go_sem] F14.r12
attribute [go_sem] F14.r13
attribute [go_sem] F14.r14
attribute [go_sem] F14.r15
attribute [go_sem] F14.r16
attribute [go_sem] F14.r17
attribute [go_sem] F14.r18
attribute [go_sem] F14.r19
attribute [go_sem] F14.r20
attribute [go_sem] F14.r21
attribute [go_sem] F14.r22
attribute [go_sem] F14.r23
attribute [go_sem] F14.r24
attribute [go_sem] F14.r25
attribute [go_sem] F15.r0
attribute [go_sem] F15.r1
attribute [go_sem] F15.r2
attribute [go_sem] F15.r3
attribute [go_sem] F15.r4
attribute [go_sem] F15.r6
attribute [go_sem] F15.r7
attribute [go_sem] F15.r5
attribute [go_sem] F15.r8
attribute [go_sem] F15.r9
attribute [go_sem] F15.r11
attribute [go_sem] F15.r12
attribute [go_sem] F15.r13
attribute [go_sem] F15.r15
attribute [go_sem] F15.r14
attribute [go_sem] F15.r16
attribute [go_sem] F15.r17
attribute [go_sem] F15.r10
attribute [go_sem] F15.r18
attribute [go_sem] F15.r19
attribute [go_sem] F15.r20
attribute [go_sem] F15.r22
attribute [go_sem] F15.r23
attribute [go_sem] F15.r24
attribute [go_sem] F15.r26
attribute [go_sem] F15.r27
attribute [go_sem] F15.r28
attribute [go_sem] F15.r29
attribute [go_sem] F15.r25
attribute [go_sem] F15.r21
attribute [go_sem] F15.r30
attribute [go_sem] F15.r31
attribute [go_sem] F15.r32
attribute [go_sem] F15.r33
attribute [go_sem] F15.r34
attribute [go_sem] F15.r35
attribute [go_sem] F15.r37
attribute [go_sem] F15.r38
attribute [go_sem] F15.r40
attribute [go_sem] F15.r41
attribute [go_sem] F15.r39
attribute [go_sem] F15.r36
attribute [go_sem] F15.r42
attribute [go_sem] F16.r0
attribute [go_sem] F16.r1
attribute [go_sem] F16.r2
attribute [go_sem] F16.r3
attribute [go_sem] F17.r0
attribute [go_sem] F17.r1
attribute [go_sem] F17.r2
attribute [go_sem] F17.r3
attribute [go_sem] F18.r0
attribute [go_sem] F18.r1
attribute [go_sem] F18.r2
attribute [go_sem] F18.r3
attribute [go_sem] F18.r5
attribute [go_sem] F18.r4
attribute [go_sem] F18.r6
attribute [go_sem] F19.r0
attribute [go_sem] F19.r1
attribute [go_sem] F19.r2
attribute [go_sem] F19.r3
attribute [go_sem] F19.r4
attribute [go_sem] F19.r5
attribute [go_sem] F19.r6
attribute [go_sem] F19.r7
attribute [go_sem] F19.r8
attribute [go_sem] F19.r9
attribute [go_sem] F20.r0
attribute [go_sem] F20.r1
attribute [go_sem] F20.r2
attribute [go_sem] F20.r3
attribute [go_sem] F20.r4
attribute [go_sem] F20.r5
attribute [go_sem] F20.r6
attribute [go_sem] F20.r7
attribute [go_sem] F20.r8
attribute [go_sem] F20.r9
attribute [go_sem] F20.r10
attribute [go_sem] F20.r11
attribute [go_sem] F20.r12
attribute [go_sem] F20.r13
attribute [go_sem] F20.r14
attribute [go_sem] F21.r0
attribute [go_sem] F21.r1
attribute [go_sem] F21.r2
attribute [go_sem] F21.r3
attribute [go_sem] F21.r4
attribute [go_sem] F21.r5
attribute [go_sem] F21.r6
attribute [go_sem] F22.r0
attribute [go_sem] F22.r1
attribute [go_sem] F22.r2
attribute [go_sem] F22.r3
attribute [go_sem] F22.r4
attribute [go_sem] F23.r0
attribute [go_sem] F23.r1
attribute [go_sem] F23.r2
attribute [go_sem] F23.r3
attribute [go_sem] F24.r0
attribute [go_sem] F24.r1
attribute [go_sem] F25.r0
attribute [go_sem] F25.r1
attribute [go_sem] F25.r2
attribute [go_sem] F25.r3
attribute [go_sem] F25.r4
attribute [go_sem] F25.r5
attribute [go_sem] F26.r0
attribute [go_sem] F26.r1
attribute [go_sem] F27.r0
attribute [go_sem] F27.r1
attribute [go_sem] F27.r2
attribute [go_sem] F27.r3
attribute [go_sem] F27.r4
attribute [go_sem] F27.r5
attribute [go_sem] F27.r6
attribute [go_sem] F27.r7
attribute [go_sem] F27.r8
attribute [go_sem] F27.r9
attribute [go_sem] F27.r10
attribute [go_sem] F27.r11
attribute [go_sem] F27.r12
attribute [go_sem] F28.r0
attribute [go_sem] F28.r1
attribute [go_sem] F28.r2
attribute [go_sem] F28.r3
attribute [go_sem] F28.r4
attribute [go_sem] F28.r5
attribute [go_sem] F28.r6
attribute [go_sem] F28.r7
attribute [go_sem] F28.r8
attribute [go_sem] F28.r9
attribute [go_sem] F28.r10
attribute [go_sem] F28.r11
attribute [go_sem] F28.r12
attribute [go_sem] F28.r13
attribute [go_sem] F28.r14
attribute [go_sem] F28.r15
attribute [go_sem] F28.r16
attribute [go_sem] F28.r17
attribute [go_sem] F28.r18
attribute [go_sem] F28.r19
attribute [go_sem] F28.r20
attribute [go_sem] F28.r21
attribute [go_sem] F28.r22
attribute [go_sem] F28.r23
attribute [go_sem] F29.r0
attribute [go_sem] F29.r1
attribute [go_sem] F29.r2
attribute [go_sem] F29.r3
attribute [go_sem] F29.r4
attribute [go_sem] F29.r6
attribute [go_sem] F29.r7
attribute [go_sem] F29.r8
attribute [go_sem] F29.r5
attribute [go_sem] F29.r9
attribute [go_sem] F30.r0
attribute [go_sem] F30.r1
attribute [go_sem] F30.r2
attribute [go_sem] F31.r0
attribute [go_sem] F31.r1
attribute [go_sem] F31.r2
attribute [go_sem] F31.r3
attribute [go_sem] F31.r4
attribute [go_sem] F31.r6
attribute [go_sem] F31.r7
attribute [go_sem] F31.r5
attribute [go_sem] F31.r8
attribute [go_sem] F32.r0
attribute [go_sem] F32.r1
attribute [go_sem] F33.r0
attribute [go_sem] F33.r1
attribute [go_sem] F34.r0
attribute [go_sem] F34.r1
attribute [go_sem] F34.r2
attribute [go_sem] F34.r3
attribute [go_sem] F34.r4
attribute [go_sem] F34.r5
attribute [go_sem] F35.r0
attribute [go_sem] F35.r1
attribute [go_sem] F35.r2
attribute [go_sem] F35.r3
attribute [go_sem] F35.r4
attribute [go_sem] F35.r5
attribute [go_sem] F36.r0
attribute [go_sem] F36.r1
attribute [go_sem] F36.r2
attribute [go_sem] F36.r3
attribute [go_sem] F36.r4
attribute [go_sem] F37.r0
attribute [go_sem] F37.r1
attribute [go_sem] F37.r2
attribute [go_sem] F37.r3
attribute [go_sem] F37.r4
attribute [go_sem] F37.r5
attribute [go_sem] F37.r6
attribute [go_sem] F37.r7
attribute [go_sem] F37.r8
attribute [go_sem] F37.r9
attribute [go_sem] F38.r0
attribute [go_sem] F38.r1
attribute [go_sem] F38.r2
attribute [go_sem] F38.r3
attribute [go_sem] F39.r0
attribute [go_sem] F39.r1
attribute [go_sem] F40.r0
attribute [go_sem] F40.r1
attribute [go_sem] F40.r2
attribute [go_sem] F40.r3
attribute [go_sem] F40.r4
attribute [go_sem] F40.r5
attribute [go_sem] F41.r0
attribute [go_sem] F41.r1
attribute [go_sem] F42.r0
attribute [go_sem] F42.r1
attribute [go_sem] F42.r2
attribute [go_sem] F42.r3
attribute [go_sem] F42.r4
attribute [go_sem] F42.r5
attribute [go_sem] F42.r6
attribute [go_sem] F42.r7
attribute [go_sem] F43.r0
attribute [go_sem] F43.r1
attribute [go_sem] F44.r0
attribute [go_sem] F44.r1
attribute [go_sem] F44.r2
attribute [go_sem] F44.r3
attribute [go_sem] F45.r0
attribute [go_sem] F45.r1
attribute [go_sem] F45.r2
attribute [go_sem] F45.r3
attribute [go_sem] F45.r4
attribute [go_sem] F45.r5
attribute [go_sem] F45.r7
attribute [go_sem] F45.r6
attribute [go_sem] F45.r8
attribute [go_sem] F46.r0
attribute [go_sem] F46.r1
attribute [go_sem] F46.r2
attribute [go_sem] F46.r3
attribute [go_sem] F47.r0
attribute [go_sem] F47.r1
attribute [go_sem] F47.r2
attribute [go_sem] F47.r3
attribute [go_sem] F47.r4
attribute [go_sem] F47.r5
attribute [go_sem] F47.r6
attribute [go_sem] F47.r7
attribute [go_sem] F47.r8
attribute [go_sem] F47.r9
attribute [go_sem] F48.r0
attribute [go_sem] F48.r1
attribute [go_sem] F48.r2
attribute [go_sem] F48.r3
attribute [go_sem] F48.r4
attribute [go_sem] F48.r5
attribute [go_sem] F48.r6
attribute [go_sem] F48.r7
attribute [go_sem] F48.r8
attribute [go_sem] F48.r9
attribute [go_sem] F48.r10
attribute [go_sem] F48.r11
attribute [go_sem] F49.r0
attribute [go_sem] F49.r1
attribute [go_sem] F49.r2
attribute [go_sem] F49.r3
attribute [go_sem] F49.r4
attribute [go_sem] F49.r5
attribute [go_sem] F49.r6
attribute [go_sem] F49.r7

end Go.Proofs.Ytfamclpajjnfbaa

/- The compiled code of the functions, by program (genir.py): each with the theorem that it is what the engine makes of the loaded program's. -/
import Derived.Test.YtacmnfpgimgigaaIrA
namespace Go.Proofs.Ytacmnfpgimgigaa
open Go
set_option maxRecDepth 100000

def F43.r0 : List Oper := [
  ⟨(some 2), (.box 74 (.tmp 0)), 0, "", #[⟨0, .chain⟩], none⟩,
  ⟨(some 3), (.assign (.const (.bool false))), 4, "", #[], none⟩]
def F43.r1 : List Oper := [
  ⟨(some 4), (.fieldAddr 74 (.tmp 2) 0), 0, "", #[], none⟩,
  ⟨(some 5), (.load 3 (.tmp 4)), 3, "", #[⟨0, .data⟩], none⟩,
  ⟨(some 6), (.load 3 (.tmp 1)), 3, "", #[⟨0, .data⟩], none⟩,
  ⟨(some 7), (.binOp .eql 3 (.tmp 5) (.tmp 6) 3), 4, "", #[], none⟩,
  ⟨(some 3), (.assign (.tmp 7)), 4, "", #[], none⟩]
def F43.code : Cd := (.seq (.region 0 F43.r0.toArray false) (.seq (.region 1 F43.r1.toArray false) .ret))
theorem F43.calls {args : Array Value} {w : World} {R : Ending → World → Prop} (hn : args.size ≤ 8) (h : cwE Try.prog F43.code (fnP Try.prog #[(.tmp 3)] R) (entry args) w) : Calls Try.prog 43 args w R :=
  calls_of_cwE (types := Try.prog.types) follows Try.func43 F43.code rfl (by kernel_rfl) hn h

def F44.r0 : List Oper := [
  ⟨(some 3), (.box 26 (.tmp 1)), 0, "", #[⟨0, .chain⟩], none⟩,
  ⟨(some 4), (.assign (.const (.slice none 0 0))), 34, "", #[], none⟩]
def F44.r1 : List Oper := [
  ⟨(some 8), (.move (.tmp 0)), 30, "", #[], none⟩,
  ⟨(some 9), (.nilCheck (.tmp 8)), 0, "", #[], none⟩,
  ⟨(some 10), (.fieldAddr 66 (.tmp 9) 0), 0, "", #[], none⟩,
  ⟨(some 11), (.load 63 (.tmp 10)), 63, "", #[⟨0, .data⟩], none⟩,
  ⟨(some 12), (.load 26 (.tmp 3)), 26, "", #[⟨0, .data⟩], none⟩,
  ⟨(some 13), (.lookup 63 (.tmp 11) (.tmp 12) false), 67, "", #[⟨0, .data⟩], none⟩,
  ⟨(some 5), (.assign (.tmp 13)), 67, "", #[], none⟩]
def F44.r2 : List Oper := [
  ⟨(some 6), (.assign (.const (.slice none 0 0))), 34, "", #[], none⟩]
def F44.r3 : List Oper := [
  ⟨(some 14), (.move (.tmp 5)), 67, "", #[], none⟩,
  ⟨(some 15), (.nilCheck (.tmp 14)), 0, "", #[], none⟩,
  ⟨(some 16), (.fieldAddr 71 (.tmp 15) 1), 0, "", #[], none⟩,
  ⟨(some 17), (.load 69 (.tmp 16)), 69, "", #[⟨0, .data⟩], none⟩,
  ⟨(some 18), (.call ⟨(.builtin .len), #[(.tmp 17)], #[69]⟩), 3, "", #[], none⟩,
  ⟨(some 19), (.binOp .gtr 3 (.tmp 18) (.const (.int .i64 0)) 3), 4, "", #[], none⟩,
  ⟨(some 20), (.move (.tmp 19)), 4, "", #[], none⟩,
  ⟨(some 21), (.move (.tmp 5)), 67, "", #[], (some (20, true))⟩,
  ⟨(some 22), (.move (.tmp 5)), 67, "", #[], (some (20, true))⟩,
  ⟨(some 23), (.nilCheck (.tmp 22)), 0, "", #[], (some (20, true))⟩,
  ⟨(some 24), (.fieldAddr 71 (.tmp 23) 1), 0, "", #[], (some (20, true))⟩,
  ⟨(some 25), (.load 69 (.tmp 24)), 69, "", #[⟨0, .data⟩], (some (20, true))⟩,
  ⟨(some 26), (.indexAddr 69 (.tmp 25) (.const (.int .i64 0))), 0, "", #[], (some (20, true))⟩,
  ⟨(some 27), (.fieldAddr 74 (.tmp 26) 1), 0, "", #[], (some (20, true))⟩,
  ⟨(some 28), (.load 4 (.tmp 27)), 4, "", #[⟨0, .data⟩], (some (20, true))⟩,
  ⟨(some 29), (.call ⟨(.value (.func 45)), #[(.tmp 21), (.tmp 28)], #[67, 4]⟩), 4, "", #[⟨0, .chain⟩], (some (20, true))⟩,
  ⟨(some 30), (.pick (.tmp 20) (.tmp 29) (.const (.bool false))), 4, "", #[], none⟩]
def F44.r4 : List Oper := [
  ⟨(some 31), (.move (.tmp 5)), 67, "", #[], none⟩,
  ⟨(some 32), (.nilCheck (.tmp 31)), 0, "", #[], none⟩,
  ⟨(some 33), (.fieldAddr 71 (.tmp 32) 1), 0, "", #[], none⟩,
  ⟨(some 34), (.load 69 (.tmp 33)), 69, "", #[⟨0, .data⟩], none⟩,
  ⟨(some 35), (.indexAddr 69 (.tmp 34) (.const (.int .i64 0))), 0, "", #[], none⟩,
  ⟨(some 36), (.load 74 (.tmp 35)), 74, "", #[⟨0, .data⟩], none⟩,
  ⟨(some 7), (.alloc 74), 0, "", #[⟨0, .chain⟩], none⟩,
  ⟨none, (.store 74 (.tmp 7) (.tmp 36)), 0, "", #[⟨0, .chain⟩], none⟩]
def F44.r5 : List Oper := [
  ⟨(some 37), (.move (.tmp 5)), 67, "", #[], none⟩,
  ⟨(some 38), (.move (.tmp 5)), 67, "", #[], none⟩,
  ⟨(some 39), (.nilCheck (.tmp 38)), 0, "", #[], none⟩,
  ⟨(some 40), (.fieldAddr 71 (.tmp 39) 1), 0, "", #[], none⟩,
  ⟨(some 42), (.move (.tmp 5)), 67, "", #[], none⟩,
  ⟨(some 43), (.nilCheck (.tmp 42)), 0, "", #[], none⟩,
  ⟨(some 44), (.fieldAddr 71 (.tmp 43) 1), 0, "", #[], none⟩,
  ⟨(some 47), (.move (.tmp 5)), 67, "", #[], none⟩,
  ⟨(some 48), (.nilCheck (.tmp 47)), 0, "", #[], none⟩,
  ⟨(some 49), (.fieldAddr 71 (.tmp 48) 1), 0, "", #[], none⟩,
  ⟨(some 41), (.load 69 (.tmp 40)), 69, "", #[⟨262144, .data⟩], none⟩,
  ⟨(some 45), (.load 69 (.tmp 44)), 69, "", #[⟨262144, .data⟩], none⟩,
  ⟨(some 46), (.call ⟨(.builtin .len), #[(.tmp 45)], #[69]⟩), 3, "", #[], none⟩,
  ⟨(some 50), (.load 69 (.tmp 49)), 69, "", #[⟨262144, .data⟩], none⟩,
  ⟨(some 51), (.call ⟨(.builtin .len), #[(.tmp 50)], #[69]⟩), 3, "", #[], none⟩,
  ⟨(some 52), (.slice 69 (.tmp 41) (some (.const (.int .i64 1))) (some (.tmp 46)) (some (.tmp 51))), 69, "", #[], none⟩,
  ⟨(some 53), (.nilCheck (.tmp 37)), 0, "", #[], none⟩,
  ⟨(some 54), (.fieldAddr 71 (.tmp 53) 1), 0, "", #[], none⟩,
  ⟨none, (.store 69 (.tmp 54) (.tmp 52)), 0, "", #[⟨18, .chain⟩], none⟩]
def F44.r6 : List Oper := [
  ⟨(some 55), (.move (.tmp 5)), 67, "", #[], none⟩,
  ⟨(some 56), (.move (.tmp 5)), 67, "", #[], none⟩,
  ⟨(some 57), (.nilCheck (.tmp 56)), 0, "", #[], none⟩,
  ⟨(some 58), (.fieldAddr 71 (.tmp 57) 0), 0, "", #[], none⟩,
  ⟨(some 59), (.load 69 (.tmp 58)), 69, "", #[⟨1152, .data⟩], none⟩,
  ⟨(some 60), (.load 74 (.tmp 7)), 74, "", #[⟨1216, .data⟩], none⟩,
  ⟨(some 61), (.buildSlice 69 1 #[(0, (.tmp 60))]), 69, "", #[⟨6, .chain⟩], none⟩,
  ⟨(some 62), (.call ⟨(.builtin .append), #[(.tmp 59), (.tmp 61)], #[69, 69]⟩), 69, "", #[⟨7, .chain⟩], none⟩,
  ⟨(some 63), (.nilCheck (.tmp 55)), 0, "", #[], none⟩,
  ⟨(some 64), (.fieldAddr 71 (.tmp 63) 0), 0, "", #[], none⟩,
  ⟨none, (.store 69 (.tmp 64) (.tmp 62)), 0, "", #[⟨10, .chain⟩], none⟩]
def F44.r7 : List Oper := [
  ⟨(some 65), (.move (.tmp 0)), 30, "", #[], none⟩,
  ⟨(some 66), (.nilCheck (.tmp 65)), 0, "", #[], none⟩,
  ⟨(some 67), (.fieldAddr 66 (.tmp 66) 1), 0, "", #[], none⟩,
  ⟨(some 69), (.fieldAddr 74 (.tmp 7) 0), 0, "", #[], none⟩,
  ⟨(some 68), (.load 64 (.tmp 67)), 64, "", #[⟨64, .data⟩], none⟩,
  ⟨(some 70), (.load 3 (.tmp 69)), 3, "", #[⟨64, .data⟩], none⟩,
  ⟨none, (.call ⟨(.builtin .delete), #[(.tmp 68), (.tmp 70)], #[64, 3]⟩), 0, "", #[⟨6, .chain⟩], none⟩]
def F44.r8 : List Oper := [
  ⟨(some 71), (.move (.tmp 6)), 34, "", #[], none⟩,
  ⟨(some 72), (.fieldAddr 74 (.tmp 7) 0), 0, "", #[], none⟩,
  ⟨(some 73), (.load 3 (.tmp 72)), 3, "", #[⟨0, .data⟩], none⟩,
  ⟨(some 74), (.buildSlice 34 1 #[(0, (.tmp 73))]), 34, "", #[⟨0, .chain⟩], none⟩,
  ⟨(some 75), (.call ⟨(.builtin .append), #[(.tmp 71), (.tmp 74)], #[34, 34]⟩), 34, "", #[⟨0, .chain⟩], none⟩,
  ⟨(some 6), (.assign (.tmp 75)), 34, "", #[], none⟩]
def F44.r9 : List Oper := [
  ⟨(some 76), (.move (.tmp 5)), 67, "", #[], none⟩,
  ⟨(some 77), (.nilCheck (.tmp 76)), 0, "", #[], none⟩,
  ⟨(some 78), (.fieldAddr 71 (.tmp 77) 0), 0, "", #[], none⟩,
  ⟨(some 79), (.load 69 (.tmp 78)), 69, "", #[⟨0, .data⟩], none⟩,
  ⟨(some 80), (.call ⟨(.builtin .len), #[(.tmp 79)], #[69]⟩), 3, "", #[], none⟩,
  ⟨(some 81), (.binOp .eql 3 (.tmp 80) (.const (.int .i64 0)) 3), 4, "", #[], none⟩]
def F44.r10 : List Oper := [
  ⟨(some 82), (.move (.tmp 0)), 30, "", #[], none⟩,
  ⟨(some 83), (.nilCheck (.tmp 82)), 0, "", #[], none⟩,
  ⟨(some 84), (.fieldAddr 66 (.tmp 83) 0), 0, "", #[], none⟩,
  ⟨(some 85), (.load 63 (.tmp 84)), 63, "", #[⟨32, .data⟩], none⟩,
  ⟨(some 86), (.load 26 (.tmp 3)), 26, "", #[⟨32, .data⟩], none⟩,
  ⟨none, (.call ⟨(.builtin .delete), #[(.tmp 85), (.tmp 86)], #[63, 26]⟩), 0, "", #[⟨5, .chain⟩], none⟩]
def F44.r11 : List Oper := [
  ⟨(some 87), (.move (.tmp 6)), 34, "", #[], none⟩,
  ⟨(some 4), (.assign (.tmp 87)), 34, "", #[], none⟩]
def F44.t4 : Cd := (.block 1 (.seq (.region 4 F44.r4.toArray false) (.seq (.region 5 F44.r5.toArray true) (.seq (.region 6 F44.r6.toArray true) (.seq (.region 7 F44.r7.toArray true) (.region 8 F44.r8.toArray false))))))
theorem F44.t4_eq {P : Program} {Q : Post} {e : FA} {w : World} {θ : Tag (F44.t4, Q, e, w)} : cwE P F44.t4 Q e w θ = cwE P (.block 1 (.seq (.region 4 F44.r4.toArray false) (.seq (.region 5 F44.r5.toArray true) (.seq (.region 6 F44.r6.toArray true) (.seq (.region 7 F44.r7.toArray true) (.region 8 F44.r8.toArray false)))))) Q e w := rfl
def F44.t11 : Cd := (.seq (.region 11 F44.r11.toArray false) .ret)
theorem F44.t11_eq {P : Program} {Q : Post} {e : FA} {w : World} {θ : Tag (F44.t11, Q, e, w)} : cwE P F44.t11 Q e w θ = cwE P (.seq (.region 11 F44.r11.toArray false) .ret) Q e w := rfl
def F44.t9 : Cd := (.seq (.seq (.region 9 F44.r9.toArray false) (.cond (.tmp 81) (.region 10 F44.r10.toArray true) .skip)) F44.t11)
theorem F44.t9_eq {P : Program} {Q : Post} {e : FA} {w : World} {θ : Tag (F44.t9, Q, e, w)} : cwE P F44.t9 Q e w θ = cwE P (.seq (.seq (.region 9 F44.r9.toArray false) (.cond (.tmp 81) (.region 10 F44.r10.toArray true) .skip)) F44.t11) Q e w := rfl
def F44.code : Cd := (.seq (.region 0 F44.r0.toArray false) (.seq (.region 1 F44.r1.toArray true) (.seq (.region 2 F44.r2.toArray false) (.seq (.block 0 (.loop (.seq (.seq (.region 3 F44.r3.toArray false) (.cond (.tmp 30) .skip (.exit 0))) F44.t4))) F44.t9))))
theorem F44.calls {args : Array Value} {w : World} {R : Ending → World → Prop} (hn : args.size ≤ 88) (h : cwE Try.prog F44.code (fnP Try.prog #[(.tmp 4)] R) (entry args) w) : Calls Try.prog 44 args w R :=
  calls_of_cwE (types := Try.prog.types) follows Try.func44 F44.code rfl (by kernel_rfl) hn h

def F45.r0 : List Oper := [
  ⟨(some 4), (.assign (.const (.bool false))), 4, "", #[], none⟩]
def F45.r1 : List Oper := [
  ⟨(some 5), (.move (.tmp 0)), 67, "", #[], none⟩,
  ⟨(some 6), (.nilCheck (.tmp 5)), 0, "", #[], none⟩,
  ⟨(some 7), (.fieldAddr 71 (.tmp 6) 0), 0, "", #[], none⟩,
  ⟨(some 8), (.load 69 (.tmp 7)), 69, "", #[⟨0, .data⟩], none⟩,
  ⟨(some 9), (.call ⟨(.builtin .len), #[(.tmp 8)], #[69]⟩), 3, "", #[], none⟩,
  ⟨(some 10), (.binOp .eql 3 (.tmp 9) (.const (.int .i64 0)) 3), 4, "", #[], none⟩,
  ⟨(some 11), (.move (.tmp 10)), 4, "", #[], none⟩,
  ⟨(some 12), (.move (.tmp 1)), 4, "", #[], (some (11, false))⟩,
  ⟨(some 13), (.unOp .not 4 (.tmp 12)), 4, "", #[], (some (11, false))⟩,
  ⟨(some 14), (.move (.tmp 13)), 4, "", #[], (some (11, false))⟩,
  ⟨(some 15), (.move (.tmp 0)), 67, "", #[], (some (14, true))⟩,
  ⟨(some 16), (.nilCheck (.tmp 15)), 0, "", #[], (some (14, true))⟩,
  ⟨(some 17), (.fieldAddr 71 (.tmp 16) 0), 0, "", #[], (some (14, true))⟩,
  ⟨(some 18), (.load 69 (.tmp 17)), 69, "", #[⟨0, .data⟩], (some (14, true))⟩,
  ⟨(some 19), (.indexAddr 69 (.tmp 18) (.const (.int .i64 0))), 0, "", #[], (some (14, true))⟩,
  ⟨(some 20), (.fieldAddr 74 (.tmp 19) 1), 0, "", #[], (some (14, true))⟩,
  ⟨(some 21), (.load 4 (.tmp 20)), 4, "", #[⟨0, .data⟩], (some (14, true))⟩,
  ⟨(some 22), (.unOp .not 4 (.tmp 21)), 4, "", #[], (some (14, true))⟩,
  ⟨(some 23), (.pick (.tmp 14) (.tmp 22) (.const (.bool false))), 4, "", #[], (some (11, false))⟩,
  ⟨(some 24), (.pick (.tmp 11) (.const (.bool true)) (.tmp 23)), 4, "", #[], none⟩,
  ⟨(some 4), (.assign (.tmp 24)), 4, "", #[], none⟩]
def F45.code : Cd := (.seq (.region 0 F45.r0.toArray false) (.seq (.region 1 F45.r1.toArray false) .ret))
theorem F45.calls {args : Array Value} {w : World} {R : Ending → World → Prop} (hn : args.size ≤ 25) (h : cwE Try.prog F45.code (fnP Try.prog #[(.tmp 4)] R) (entry args) w) : Calls Try.prog 45 args w R :=
  calls_of_cwE (types := Try.prog.types) follows Try.func45 F45.code rfl (by kernel_rfl) hn h

def F46.r0 : List Oper := [
  ⟨(some 6), (.assign (.const (.slice none 0 0))), 69, "", #[], none⟩]
def F46.r1 : List Oper := [
  ⟨(some 8), (.move (.tmp 0)), 69, "", #[], none⟩,
  ⟨(some 9), (.move (.tmp 1)), 3, "", #[], none⟩,
  ⟨(some 10), (.move (.tmp 2)), 3, "", #[], none⟩,
  ⟨(some 11), (.move (.tmp 0)), 69, "", #[], none⟩,
  ⟨(some 12), (.call ⟨(.builtin .len), #[(.tmp 11)], #[69]⟩), 3, "", #[], none⟩,
  ⟨(some 13), (.slice 69 (.tmp 8) (some (.tmp 9)) (some (.tmp 10)) (some (.tmp 12))), 69, "", #[], none⟩]
def F46.r2 : List Oper := [
  ⟨(some 14), (.move (.tmp 1)), 3, "", #[], none⟩,
  ⟨(some 15), (.move (.tmp 2)), 3, "", #[], none⟩,
  ⟨(some 16), (.binOp .eql 3 (.tmp 14) (.tmp 15) 3), 4, "", #[], none⟩]
def F46.r3 : List Oper := [
  ⟨(some 17), (.move (.tmp 0)), 69, "", #[], none⟩,
  ⟨(some 6), (.assign (.tmp 17)), 69, "", #[], none⟩]
def F46.r4 : List Oper := [
  ⟨(some 18), (.move (.tmp 0)), 69, "", #[], none⟩,
  ⟨(some 19), (.call ⟨(.builtin .len), #[(.tmp 18)], #[69]⟩), 3, "", #[], none⟩,
  ⟨(some 7), (.assign (.tmp 19)), 3, "", #[], none⟩]
def F46.r5 : List Oper := [
  ⟨(some 20), (.move (.tmp 0)), 69, "", #[], none⟩,
  ⟨(some 21), (.move (.tmp 1)), 3, "", #[], none⟩,
  ⟨(some 22), (.slice 69 (.tmp 20) none (some (.tmp 21)) none), 69, "", #[], none⟩,
  ⟨(some 23), (.move (.tmp 0)), 69, "", #[], none⟩,
  ⟨(some 24), (.move (.tmp 2)), 3, "", #[], none⟩,
  ⟨(some 25), (.slice 69 (.tmp 23) (some (.tmp 24)) none none), 69, "", #[], none⟩,
  ⟨(some 26), (.call ⟨(.builtin .append), #[(.tmp 22), (.tmp 25)], #[69, 69]⟩), 69, "", #[⟨6, .chain⟩], none⟩,
  ⟨(some 0), (.assign (.tmp 26)), 69, "", #[], none⟩]
def F46.r6 : List Oper := [
  ⟨(some 27), (.move (.tmp 0)), 69, "", #[], none⟩,
  ⟨(some 28), (.move (.tmp 0)), 69, "", #[], none⟩,
  ⟨(some 29), (.call ⟨(.builtin .len), #[(.tmp 28)], #[69]⟩), 3, "", #[], none⟩,
  ⟨(some 30), (.move (.tmp 7)), 3, "", #[], none⟩,
  ⟨(some 31), (.slice 69 (.tmp 27) (some (.tmp 29)) (some (.tmp 30)) none), 69, "", #[], none⟩,
  ⟨none, (.call ⟨(.builtin .clear), #[(.tmp 31)], #[69]⟩), 0, "", #[⟨0, .chain⟩], none⟩]
def F46.r7 : List Oper := [
  ⟨(some 32), (.move (.tmp 0)), 69, "", #[], none⟩,
  ⟨(some 6), (.assign (.tmp 32)), 69, "", #[], none⟩]
def F46.t4 : Cd := (.seq (.region 4 F46.r4.toArray false) (.seq (.region 5 F46.r5.toArray true) (.seq (.region 6 F46.r6.toArray false) (.seq (.region 7 F46.r7.toArray false) .ret))))
theorem F46.t4_eq {P : Program} {Q : Post} {e : FA} {w : World} {θ : Tag (F46.t4, Q, e, w)} : cwE P F46.t4 Q e w θ = cwE P (.seq (.region 4 F46.r4.toArray false) (.seq (.region 5 F46.r5.toArray true) (.seq (.region 6 F46.r6.toArray false) (.seq (.region 7 F46.r7.toArray false) .ret)))) Q e w := rfl
def F46.code : Cd := (.seq (.region 0 F46.r0.toArray false) (.seq (.region 1 F46.r1.toArray false) (.seq (.seq (.region 2 F46.r2.toArray false) (.cond (.tmp 16) (.seq (.region 3 F46.r3.toArray false) .ret) .skip)) F46.t4)))
theorem F46.calls {args : Array Value} {w : World} {R : Ending → World → Prop} (hn : args.size ≤ 33) (h : cwE Try.prog F46.code (fnP Try.prog #[(.tmp 6)] R) (entry args) w) : Calls Try.prog 46 args w R :=
  calls_of_cwE (types := Try.prog.types) follows Try.func46 F46.code rfl (by kernel_rfl) hn h

def F47.r0 : List Oper := [
  ⟨(some 2), (.assign (.const (.bool false))), 4, "", #[], none⟩]
def F47.r1 : List Oper := [
  ⟨(some 3), (.move (.tmp 0)), 23, "", #[], none⟩,
  ⟨(some 4), (.move (.tmp 0)), 23, "", #[], none⟩,
  ⟨(some 5), (.binOp .neq 23 (.tmp 3) (.tmp 4) 23), 4, "", #[], none⟩,
  ⟨(some 2), (.assign (.tmp 5)), 4, "", #[], none⟩]
def F47.code : Cd := (.seq (.region 0 F47.r0.toArray false) (.seq (.region 1 F47.r1.toArray false) .ret))
theorem F47.calls {args : Array Value} {w : World} {R : Ending → World → Prop} (hn : args.size ≤ 6) (h : cwE Try.prog F47.code (fnP Try.prog #[(.tmp 2)] R) (entry args) w) : Calls Try.prog 47 args w R :=
  calls_of_cwE (types := Try.prog.types) follows Try.func47 F47.code rfl (by kernel_rfl) hn h

def F48.r0 : List Oper := [
  ⟨(some 2), (.assign (.const (.bool false))), 4, "", #[], none⟩]
def F48.r1 : List Oper := [
  ⟨(some 3), (.move (.tmp 0)), 3, "", #[], none⟩,
  ⟨(some 4), (.move (.tmp 0)), 3, "", #[], none⟩,
  ⟨(some 5), (.binOp .neq 3 (.tmp 3) (.tmp 4) 3), 4, "", #[], none⟩,
  ⟨(some 2), (.assign (.tmp 5)), 4, "", #[], none⟩]
def F48.code : Cd := (.seq (.region 0 F48.r0.toArray false) (.seq (.region 1 F48.r1.toArray false) .ret))
theorem F48.calls {args : Array Value} {w : World} {R : Ending → World → Prop} (hn : args.size ≤ 6) (h : cwE Try.prog F48.code (fnP Try.prog #[(.tmp 2)] R) (entry args) w) : Calls Try.prog 48 args w R :=
  calls_of_cwE (types := Try.prog.types) follows Try.func48 F48.code rfl (by kernel_rfl) hn h

def F49.r0 : List Oper := [
  ⟨(some 2), (.assign (.const (.bool false))), 4, "", #[], none⟩]
def F49.r1 : List Oper := [
  ⟨(some 3), (.move (.tmp 0)), 24, "", #[], none⟩,
  ⟨(some 4), (.move (.tmp 0)), 24, "", #[], none⟩,
  ⟨(some 5), (.binOp .neq 24 (.tmp 3) (.tmp 4) 24), 4, "", #[], none⟩,
  ⟨(some 2), (.assign (.tmp 5)), 4, "", #[], none⟩]
def F49.code : Cd := (.seq (.region 0 F49.r0.toArray false) (.seq (.region 1 F49.r1.toArray false) .ret))
theorem F49.calls {args : Array Value} {w : World} {R : Ending → World → Prop} (hn : args.size ≤ 6) (h : cwE Try.prog F49.code (fnP Try.prog #[(.tmp 2)] R) (entry args) w) : Calls Try.prog 49 args w R :=
  calls_of_cwE (types := Try.prog.types) follows Try.func49 F49.code rfl (by kernel_rfl) hn h

def F50.r0 : List Oper := [
  ⟨(some 3), (.move (.tmp 0)), 34, "", #[], none⟩,
  ⟨(some 4), (.call ⟨(.builtin .len), #[(.tmp 3)], #[34]⟩), 3, "", #[], none⟩,
  ⟨(some 2), (.assign (.tmp 4)), 3, "", #[], none⟩]
def F50.r1 : List Oper := [
  ⟨(some 5), (.move (.tmp 0)), 34, "", #[], none⟩,
  ⟨(some 6), (.move (.tmp 2)), 3, "", #[], none⟩,
  ⟨(some 7), (.move (.tmp 2)), 3, "", #[], none⟩,
  ⟨(some 8), (.convert 3 94 (.tmp 7)), 94, "", #[], none⟩,
  ⟨(some 9), (.call ⟨(.value (.func 54)), #[(.tmp 8)], #[94]⟩), 3, "", #[⟨0, .chain⟩], none⟩,
  ⟨(some 10), (.call ⟨(.value (.func 59)), #[(.tmp 5), (.const (.int .i64 0)), (.tmp 6), (.tmp 9)], #[34, 3, 3, 3]⟩), 0, "", #[⟨0, .chain⟩], none⟩]
def F50.code : Cd := (.seq (.region 0 F50.r0.toArray false) (.region 1 F50.r1.toArray false))
theorem F50.calls {args : Array Value} {w : World} {R : Ending → World → Prop} (hn : args.size ≤ 11) (h : cwE Try.prog F50.code (fnP Try.prog #[] R) (entry args) w) : Calls Try.prog 50 args w R :=
  calls_of_cwE (types := Try.prog.types) follows Try.func50 F50.code rfl (by kernel_rfl) hn h

def F51.r0 : List Oper := [
  ⟨(some 4), (.assign (.const (.int .i64 0))), 3, "", #[], none⟩]
def F51.r1 : List Oper := [
  ⟨(some 6), (.move (.tmp 0)), 69, "", #[], none⟩,
  ⟨(some 7), (.call ⟨(.builtin .len), #[(.tmp 6)], #[69]⟩), 3, "", #[], none⟩,
  ⟨(some 8), (.move (.const (.int .i64 0))), 3, "", #[], none⟩]
def F51.r2 : List Oper := [
  ⟨(some 9), (.binOp .lss 3 (.tmp 8) (.tmp 7) 3), 0, "", #[], none⟩]
def F51.r3 : List Oper := [
  ⟨(some 10), (.move (.tmp 8)), 3, "", #[], none⟩,
  ⟨(some 5), (.assign (.tmp 10)), 3, "", #[], none⟩]
def F51.r4 : List Oper := [
  ⟨(some 11), (.move (.tmp 1)), 84, "", #[], none⟩,
  ⟨(some 12), (.move (.tmp 0)), 69, "", #[], none⟩,
  ⟨(some 13), (.move (.tmp 5)), 3, "", #[], none⟩,
  ⟨(some 14), (.indexAddr 69 (.tmp 12) (.tmp 13)), 0, "", #[], none⟩,
  ⟨(some 15), (.load 74 (.tmp 14)), 74, "", #[⟨0, .data⟩], none⟩,
  ⟨(some 16), (.call ⟨(.value (.tmp 11)), #[(.tmp 15)], #[74]⟩), 4, "", #[⟨0, .phase⟩], none⟩]
def F51.r5 : List Oper := [
  ⟨(some 17), (.move (.tmp 5)), 3, "", #[], none⟩,
  ⟨(some 4), (.assign (.tmp 17)), 3, "", #[], none⟩]
def F51.r6 : List Oper := [
  ⟨(some 18), (.binOp .add 3 (.tmp 8) (.const (.int .i64 1)) 3), 3, "", #[], none⟩,
  ⟨(some 8), (.move (.tmp 18)), 3, "", #[], none⟩]
def F51.r7 : List Oper := [
  ⟨(some 4), (.assign (.const (.int .i64 (-1)))), 3, "", #[], none⟩]
def F51.t6 : Cd := (.region 6 F51.r6.toArray false)
theorem F51.t6_eq {P : Program} {Q : Post} {e : FA} {w : World} {θ : Tag (F51.t6, Q, e, w)} : cwE P F51.t6 Q e w θ = cwE P (.region 6 F51.r6.toArray false) Q e w := rfl
def F51.t3 : Cd := (.seq (.block 1 (.seq (.region 3 F51.r3.toArray false) (.seq (.region 4 F51.r4.toArray false) (.cond (.tmp 16) (.seq (.region 5 F51.r5.toArray false) .ret) .skip)))) F51.t6)
theorem F51.t3_eq {P : Program} {Q : Post} {e : FA} {w : World} {θ : Tag (F51.t3, Q, e, w)} : cwE P F51.t3 Q e w θ = cwE P (.seq (.block 1 (.seq (.region 3 F51.r3.toArray false) (.seq (.region 4 F51.r4.toArray false) (.cond (.tmp 16) (.seq (.region 5 F51.r5.toArray false) .ret) .skip)))) F51.t6) Q e w := rfl
def F51.t7 : Cd := (.seq (.region 7 F51.r7.toArray false) .ret)
theorem F51.t7_eq {P : Program} {Q : Post} {e : FA} {w : World} {θ : Tag (F51.t7, Q, e, w)} : cwE P F51.t7 Q e w θ = cwE P (.seq (.region 7 F51.r7.toArray false) .ret) Q e w := rfl
def F51.code : Cd := (.seq (.region 0 F51.r0.toArray false) (.seq (.seq (.region 1 F51.r1.toArray false) (.block 0 (.loop (.seq (.region 2 F51.r2.toArray false) (.seq (.cond (.tmp 9) .skip (.exit 0)) F51.t3))))) F51.t7))
theorem F51.calls {args : Array Value} {w : World} {R : Ending → World → Prop} (hn : args.size ≤ 19) (h : cwE Try.prog F51.code (fnP Try.prog #[(.tmp 4)] R) (entry args) w) : Calls Try.prog 51 args w R :=
  calls_of_cwE (types := Try.prog.types) follows Try.func51 F51.code rfl (by kernel_rfl) hn h

def F52.r0 : List Oper := [
  ⟨(some 2), (.box 74 (.tmp 0)), 0, "", #[⟨0, .chain⟩], none⟩,
  ⟨(some 3), (.assign (.const (.bool false))), 4, "", #[], none⟩]
def F52.r1 : List Oper := [
  ⟨(some 4), (.fieldAddr 74 (.tmp 2) 0), 0, "", #[], none⟩,
  ⟨(some 5), (.load 3 (.tmp 4)), 3, "", #[⟨0, .data⟩], none⟩,
  ⟨(some 6), (.load 3 (.tmp 1)), 3, "", #[⟨0, .data⟩], none⟩,
  ⟨(some 7), (.binOp .eql 3 (.tmp 5) (.tmp 6) 3), 4, "", #[], none⟩,
  ⟨(some 3), (.assign (.tmp 7)), 4, "", #[], none⟩]
def F52.code : Cd := (.seq (.region 0 F52.r0.toArray false) (.seq (.region 1 F52.r1.toArray false) .ret))
theorem F52.calls {args : Array Value} {w : World} {R : Ending → World → Prop} (hn : args.size ≤ 8) (h : cwE Try.prog F52.code (fnP Try.prog #[(.tmp 3)] R) (entry args) w) : Calls Try.prog 52 args w R :=
  calls_of_cwE (types := Try.prog.types) follows Try.func52 F52.code rfl (by kernel_rfl) hn h

def F55.r0 : List Oper := [
  ⟨(some 2), (.assign (.const (.map none))), 64, "", #[], none⟩]
def F55.r1 : List Oper := [
  ⟨(some 3), (.move (.tmp 0)), 64, "", #[], none⟩,
  ⟨(some 4), (.binOp .eql 64 (.tmp 3) (.const (.map none)) 64), 4, "", #[], none⟩]
def F55.r2 : List Oper := [
  ⟨(some 2), (.assign (.const (.map none))), 64, "", #[], none⟩]
def F55.r3 : List Oper := [
  ⟨(some 5), (.move (.tmp 0)), 64, "", #[], none⟩,
  ⟨(some 6), (.makeInterface 64 (.tmp 5)), 20, "", #[⟨0, .data⟩], none⟩,
  ⟨(some 7), (.call ⟨(.value (.func 70)), #[(.tmp 6)], #[20]⟩), 20, "", #[⟨0, .chain⟩], none⟩,
  ⟨(some 8), (.typeAssert (.tmp 7) 20 64 false), 64, "", #[⟨0, .data⟩], none⟩,
  ⟨(some 2), (.assign (.tmp 8)), 64, "", #[], none⟩]
def F55.t3 : Cd := (.seq (.region 3 F55.r3.toArray false) .ret)
theorem F55.t3_eq {P : Program} {Q : Post} {e : FA} {w : World} {θ : Tag (F55.t3, Q, e, w)} : cwE P F55.t3 Q e w θ = cwE P (.seq (.region 3 F55.r3.toArray false) .ret) Q e w := rfl
def F55.code : Cd := (.seq (.region 0 F55.r0.toArray false) (.seq (.seq (.region 1 F55.r1.toArray false) (.cond (.tmp 4) (.seq (.region 2 F55.r2.toArray false) .ret) .skip)) F55.t3))
theorem F55.calls {args : Array Value} {w : World} {R : Ending → World → Prop} (hn : args.size ≤ 9) (h : cwE Try.prog F55.code (fnP Try.prog #[(.tmp 2)] R) (entry args) w) : Calls Try.prog 55 args w R :=
  calls_of_cwE (types := Try.prog.types) follows Try.func55 F55.code rfl (by kernel_rfl) hn h

def F56.r0 : List Oper := [
  ⟨(some 2), (.assign (.const (.slice none 0 0))), 69, "", #[], none⟩]
def F56.r1 : List Oper := [
  ⟨(some 3), (.move (.tmp 0)), 69, "", #[], none⟩,
  ⟨(some 4), (.binOp .eql 69 (.tmp 3) (.const (.slice none 0 0)) 69), 4, "", #[], none⟩]
def F56.r2 : List Oper := [
  ⟨(some 2), (.assign (.const (.slice none 0 0))), 69, "", #[], none⟩]
def F56.r3 : List Oper := [
  ⟨(some 5), (.buildSlice 69 0 #[]), 69, "", #[⟨0, .chain⟩], none⟩,
  ⟨(some 6), (.move (.tmp 0)), 69, "", #[], none⟩,
  ⟨(some 7), (.call ⟨(.builtin .append), #[(.tmp 5), (.tmp 6)], #[69, 69]⟩), 69, "", #[⟨0, .chain⟩], none⟩,
  ⟨(some 2), (.assign (.tmp 7)), 69, "", #[], none⟩]
def F56.t3 : Cd := (.seq (.region 3 F56.r3.toArray false) .ret)
theorem F56.t3_eq {P : Program} {Q : Post} {e : FA} {w : World} {θ : Tag (F56.t3, Q, e, w)} : cwE P F56.t3 Q e w θ = cwE P (.seq (.region 3 F56.r3.toArray false) .ret) Q e w := rfl
def F56.code : Cd := (.seq (.region 0 F56.r0.toArray false) (.seq (.seq (.region 1 F56.r1.toArray false) (.cond (.tmp 4) (.seq (.region 2 F56.r2.toArray false) .ret) .skip)) F56.t3))
theorem F56.calls {args : Array Value} {w : World} {R : Ending → World → Prop} (hn : args.size ≤ 8) (h : cwE Try.prog F56.code (fnP Try.prog #[(.tmp 2)] R) (entry args) w) : Calls Try.prog 56 args w R :=
  calls_of_cwE (types := Try.prog.types) follows Try.func56 F56.code rfl (by kernel_rfl) hn h

def F57.r0 : List Oper := [
  ⟨(some 2), (.assign (.const (.slice none 0 0))), 34, "", #[], none⟩]
def F57.r1 : List Oper := [
  ⟨(some 3), (.move (.tmp 0)), 81, "", #[], none⟩,
  ⟨(some 4), (.call ⟨(.value (.func 71)), #[(.const (.slice none 0 0)), (.tmp 3)], #[34, 81]⟩), 34, "", #[⟨0, .chain⟩], none⟩,
  ⟨(some 2), (.assign (.tmp 4)), 34, "", #[], none⟩]
def F57.code : Cd := (.seq (.region 0 F57.r0.toArray false) (.seq (.region 1 F57.r1.toArray false) .ret))
theorem F57.calls {args : Array Value} {w : World} {R : Ending → World → Prop} (hn : args.size ≤ 5) (h : cwE Try.prog F57.code (fnP Try.prog #[(.tmp 2)] R) (entry args) w) : Calls Try.prog 57 args w R :=
  calls_of_cwE (types := Try.prog.types) follows Try.func57 F57.code rfl (by kernel_rfl) hn h

def F58.r0 : List Oper := [
  ⟨(some 4), (.load 64 (.tmp 1)), 64, "", #[⟨0, .data⟩], none⟩,
  ⟨(some 5), (.range 64 (.tmp 4)), 0, "", #[⟨0, .chain⟩], none⟩]
def F58.r1 : List Oper := [
  ⟨(some 6), (.next (.tmp 5) false), 0, "", #[⟨0, .chain⟩], none⟩,
  ⟨(some 7), (.extract (.tmp 6) 0), 4, "", #[], none⟩]
def F58.r2 : List Oper := [
  ⟨(some 8), (.entry (.tmp 5)), 0, "", #[⟨0, .data⟩], none⟩,
  ⟨(some 9), (.extract (.tmp 8) 0), 3, "", #[], none⟩,
  ⟨(some 3), (.assign (.tmp 9)), 3, "", #[], none⟩]
def F58.r3 : List Oper := [
  ⟨(some 10), (.move (.tmp 0)), 88, "", #[], none⟩,
  ⟨(some 11), (.move (.tmp 3)), 3, "", #[], none⟩,
  ⟨(some 12), (.call ⟨(.value (.tmp 10)), #[(.tmp 11)], #[3]⟩), 4, "", #[⟨0, .phase⟩], none⟩,
  ⟨(some 13), (.unOp .not 4 (.tmp 12)), 4, "", #[], none⟩]
def F58.t2 : Cd := (.block 1 (.seq (.region 2 F58.r2.toArray false) (.seq (.region 3 F58.r3.toArray false) (.cond (.tmp 13) .ret .skip))))
theorem F58.t2_eq {P : Program} {Q : Post} {e : FA} {w : World} {θ : Tag (F58.t2, Q, e, w)} : cwE P F58.t2 Q e w θ = cwE P (.block 1 (.seq (.region 2 F58.r2.toArray false) (.seq (.region 3 F58.r3.toArray false) (.cond (.tmp 13) .ret .skip)))) Q e w := rfl
def F58.code : Cd := (.seq (.region 0 F58.r0.toArray false) (.block 0 (.loop (.seq (.region 1 F58.r1.toArray false) (.seq (.cond (.tmp 7) .skip (.exit 0)) F58.t2)))))
theorem F58.calls {args : Array Value} {w : World} {R : Ending → World → Prop} (hn : args.size ≤ 14) (h : cwE Try.prog F58.code (fnP Try.prog #[] R) (entry args) w) : Calls Try.prog 58 args w R :=
  calls_of_cwE (types := Try.prog.types) follows Try.func58 F58.code rfl (by kernel_rfl) hn h

def F71.r0 : List Oper := [
  ⟨(some 2), (.box 34 (.tmp 0)), 0, "", #[⟨0, .chain⟩], none⟩,
  ⟨(some 4), (.assign (.const (.slice none 0 0))), 34, "", #[], none⟩]
def F71.r1 : List Oper := [
  ⟨(some 6), (.move (.tmp 1)), 81, "", #[], none⟩]
def F71.r2 : List Oper := [
  ⟨(some 5), (.assign (.tmp 7)), 3, "", #[], none⟩]
def F71.r3 : List Oper := [
  ⟨(some 8), (.load 34 (.tmp 2)), 34, "", #[⟨0, .data⟩], none⟩,
  ⟨(some 9), (.move (.tmp 5)), 3, "", #[], none⟩,
  ⟨(some 10), (.buildSlice 34 1 #[(0, (.tmp 9))]), 34, "", #[⟨0, .chain⟩], none⟩,
  ⟨(some 11), (.call ⟨(.builtin .append), #[(.tmp 8), (.tmp 10)], #[34, 34]⟩), 34, "", #[⟨0, .chain⟩], none⟩,
  ⟨none, (.store 34 (.tmp 2) (.tmp 11)), 0, "", #[⟨0, .chain⟩], none⟩]
def F71.r4 : List Oper := [
  ⟨(some 12), (.load 34 (.tmp 2)), 34, "", #[⟨0, .data⟩], none⟩,
  ⟨(some 4), (.assign (.tmp 12)), 34, "", #[], none⟩]
def F71.a0 : Cd := (.region 2 F71.r2.toArray false)
def F71.b0 : Cd := (.block 1 (.region 3 F71.r3.toArray false))
def F71.t4 : Cd := (.seq (.region 4 F71.r4.toArray false) .ret)
theorem F71.t4_eq {P : Program} {Q : Post} {e : FA} {w : World} {θ : Tag (F71.t4, Q, e, w)} : cwE P F71.t4 Q e w θ = cwE P (.seq (.region 4 F71.r4.toArray false) .ret) Q e w := rfl
def F71.code : Cd := (.seq (.region 0 F71.r0.toArray false) (.seq (.seq (.region 1 F71.r1.toArray false) (.block 0 (.rangeFunc (.tmp 6) #[7] F71.a0 F71.b0))) F71.t4))
theorem F71.calls {args : Array Value} {w : World} {R : Ending → World → Prop} (hn : args.size ≤ 13) (h : cwE Try.prog F71.code (fnP Try.prog #[(.tmp 4)] R) (entry args) w) : Calls Try.prog 71 args w R :=
  calls_of_cwE (types := Try.prog.types) follows Try.func71 F71.code rfl (by kernel_rfl) hn h

attribute [go_sem] fact_aggSz_23
attribute [go_sem] fact_aggSz_24
attribute [go_sem] fact_aggSz_26
attribute [go_sem] fact_aggSz_3
attribute [go_sem] fact_aggSz_34
attribute [go_sem] fact_aggSz_38
attribute [go_sem] fact_aggSz_4
attribute [go_sem] fact_aggSz_44
attribute [go_sem] fact_aggSz_63
attribute [go_sem] fact_aggSz_64
attribute [go_sem] fact_aggSz_69
attribute [go_sem] fact_aggSz_74
attribute [go_sem] fact_bldP_26
attribute [go_sem] fact_bldP_38
attribute [go_sem] fact_bldP_66
attribute [go_sem] fact_bldP_71
attribute [go_sem] fact_bldP_74
attribute [go_sem] fact_elemOf_29
attribute [go_sem] fact_elemOf_32
attribute [go_sem] fact_elemOf_33
attribute [go_sem] fact_elemOf_34
attribute [go_sem] fact_elemOf_69
attribute [go_sem] fact_fieldOff_26_0
attribute [go_sem] fact_fieldOff_26_1
attribute [go_sem] fact_fieldOff_26_2
attribute [go_sem] fact_fieldOff_38_0
attribute [go_sem] fact_fieldOff_38_1
attribute [go_sem] fact_fieldOff_44_0
attribute [go_sem] fact_fieldOff_44_1
attribute [go_sem] fact_fieldOff_44_2
attribute [go_sem] fact_fieldOff_44_3
attribute [go_sem] fact_fieldOff_66_0
attribute [go_sem] fact_fieldOff_66_1
attribute [go_sem] fact_fieldOff_71_0
attribute [go_sem] fact_fieldOff_71_1
attribute [go_sem] fact_fieldOff_74_0
attribute [go_sem] fact_fieldOff_74_1
attribute [go_sem] fact_flatE_26
attribute [go_sem] fact_flatE_38
attribute [go_sem] fact_fnOk_10
attribute [go_sem] fact_fnOk_11
attribute [go_sem] fact_fnOk_12
attribute [go_sem] fact_fnOk_13
attribute [go_sem] fact_fnOk_14
attribute [go_sem] fact_fnOk_15
attribute [go_sem] fact_fnOk_16
attribute [go_sem] fact_fnOk_17
attribute [go_sem] fact_fnOk_18
attribute [go_sem] fact_fnOk_19
attribute [go_sem] fact_fnOk_20
attribute [go_sem] fact_fnOk_21
attribute [go_sem] fact_fnOk_22
attribute [go_sem] fact_fnOk_23
attribute [go_sem] fact_fnOk_24
attribute [go_sem] fact_fnOk_25
attribute [go_sem] fact_fnOk_26
attribute [go_sem] fact_fnOk_27
attribute [go_sem] fact_fnOk_28
attribute [go_sem] fact_fnOk_29
attribute [go_sem] fact_fnOk_30
attribute [go_sem] fact_fnOk_31
attribute [go_sem] fact_fnOk_32
attribute [go_sem] fact_fnOk_33
attribute [go_sem] fact_fnOk_34
attribute [go_sem] fact_fnOk_35
attribute [go_sem] fact_fnOk_36
attribute [go_sem] fact_fnOk_38
attribute [go_sem] fact_fnOk_39
attribute [go_sem] fact_fnOk_40
attribute [go_sem] fact_fnOk_41
attribute [go_sem] fact_fnOk_42
attribute [go_sem] fact_fnOk_43
attribute [go_sem] fact_fnOk_44
attribute [go_sem] fact_fnOk_45
attribute [go_sem] fact_fnOk_46
attribute [go_sem] fact_fnOk_47
attribute [go_sem] fact_fnOk_48
attribute [go_sem] fact_fnOk_49
attribute [go_sem] fact_fnOk_50
attribute [go_sem] fact_fnOk_51
attribute [go_sem] fact_fnOk_52
attribute [go_sem] fact_fnOk_53
attribute [go_sem] fact_fnOk_54
attribute [go_sem] fact_fnOk_55
attribute [go_sem] fact_fnOk_56
attribute [go_sem] fact_fnOk_57
attribute [go_sem] fact_fnOk_58
attribute [go_sem] fact_fnOk_59
attribute [go_sem] fact_fnOk_71
attribute [go_sem] fact_fnOk_9
attribute [go_sem] fact_szO_26
attribute [go_sem] fact_szO_3
attribute [go_sem] fact_szO_34
attribute [go_sem] fact_szO_38
attribute [go_sem] fact_szO_44
attribute [go_sem] fact_szO_69
attribute [go_sem] fact_szO_74
attribute [go_sem] fact_zeroV_26
attribute [go_sem] fact_zeroV_38
attribute [go_sem] fact_zeroV_44
attribute [go_sem] fact_zeroV_74
attribute [go_sem] Try.underlying3
attribute [go_sem] Try.underlying4
attribute [go_sem] Try.underlying24
attribute [go_sem] Try.underlying26
attribute [go_sem] Try.underlying29
attribute [go_sem] Try.underlying30
attribute [go_sem] Try.underlying32
attribute [go_sem] Try.underlying33
attribute [go_sem] Try.underlying34
attribute [go_sem] Try.underlying38
attribute [go_sem] Try.underlying63
attribute [go_sem] Try.underlying64
attribute [go_sem] Try.underlying67
attribute [go_sem] Try.underlying69
attribute [go_sem] Try.underlying94
attribute [go_sem] F3.r0
attribute [go_sem] F3.r1
attribute [go_sem] F4.r0
attribute [go_sem] F4.r1
attribute [go_sem] F4.r2
attribute [go_sem] F4.r3
attribute [go_sem] F4.r4
attribute [go_sem] F4.r5
attribute [go_sem] F4.r6
attribute [go_sem] F4.r7
attribute [go_sem] F4.r8
attribute [go_sem] F4.r9
attribute [go_sem] F5.r0
attribute [go_sem] F5.r1
attribute [go_sem] F5.r2
attribute [go_sem] F5.r3
attribute [go_sem] F5.r4
attribute [go_sem] F5.r5
attribute [go_sem] F5.r6
attribute [go_sem] F5.r7
attribute [go_sem] F5.r8
attribute [go_sem] F5.r10
attribute [go_sem] F5.r11
attribute [go_sem] F5.r12
attribute [go_sem] F5.r13
attribute [go_sem] F5.r15
attribute [go_sem] F5.r14
attribute [go_sem] F5.r16
attribute [go_sem] F5.r17
attribute [go_sem] F5.r19
attribute [go_sem] F5.r20
attribute [go_sem] F5.r18
attribute [go_sem] F5.r21
attribute [go_sem] F5.r22
attribute [go_sem] F5.r23
attribute [go_sem] F5.r24
attribute [go_sem] F5.r25
attribute [go_sem] F5.r26
attribute [go_sem] F5.r28
attribute [go_sem] F5.r29
attribute [go_sem] F5.r30
attribute [go_sem] F5.r31
attribute [go_sem] F5.r32
attribute [go_sem] F5.r33
attribute [go_sem] F5.r34
attribute [go_sem] F5.r35
attribute [go_sem] F5.r36
attribute [go_sem] F5.r37
attribute [go_sem] F5.r38
attribute [go_sem] F5.r39
attribute [go_sem] F5.r40
attribute [go_sem] F5.r41
attribute [go_sem] F5.r27
attribute [go_sem] F5.r42
attribute [go_sem] F5.r43
attribute [go_sem] F5.r45
attribute [go_sem] F5.r46
attribute [go_sem] F5.r47
attribute [go_sem] F5.r48
attribute [go_sem] F5.r49
attribute [go_sem] F5.r50
attribute [go_sem] F5.r52
attribute [go_sem] F5.r53
attribute [go_sem] F5.r54
attribute [go_sem] F5.r55
attribute [go_sem] F5.r51
attribute [go_sem] F5.r56
attribute [go_sem] F5.r57
attribute [go_sem] F5.r44
attribute [go_sem] F5.r9
attribute [go_sem] F5.r58
attribute [go_sem] F6.r0
attribute [go_sem] F6.r1
attribute [go_sem] F6.r2
attribute [go_sem] F6.r3
attribute [go_sem] F6.r4
attribute [go_sem] F6.r5
attribute [go_sem] F6.r6
attribute [go_sem] F6.r7
attribute [go_sem] F6.r8
attribute [go_sem] F6.r10
attribute [go_sem] F6.r11
attribute [go_sem] F6.r12
attribute [go_sem] F6.r13
attribute [go_sem] F6.r14
attribute [go_sem] F6.r15
attribute [go_sem] F6.r16
attribute [go_sem] F6.r9
attribute [go_sem] F6.r17
attribute [go_sem] F7.r0
attribute [go_sem] F7.r1
attribute [go_sem] F7.r2
attribute [go_sem] F7.r3
attribute [go_sem] F7.r4
attribute [go_sem] F7.r5
attribute [go_sem] F7.r6
attribute [go_sem] F7.r7
attribute [go_sem] F7.r8
attribute [go_sem] F7.r10
attribute [go_sem] F7.r11
attribute [go_sem] F7.r12
attribute [go_sem] F7.r13
attribute [go_sem] F7.r14
attribute [go_sem] F7.r15
attribute [go_sem] F7.r16
attribute [go_sem] F7.r17
attribute [go_sem] F7.r18
attribute [go_sem] F7.r19
attribute [go_sem] F7.r9
attribute [go_sem] F7.r20
attribute [go_sem] F7.r21
attribute [go_sem] F7.r23
attribute [go_sem] F7.r24
attribute [go_sem] F7.r26
attribute [go_sem] F7.r27
attribute [go_sem] F7.r28
attribute [go_sem] F7.r25
attribute [go_sem] F7.r22
attribute [go_sem] F7.r29
attribute [go_sem] F7.r30
attribute [go_sem] F7.r32
attribute [go_sem] F7.r33
attribute [go_sem] F7.r34
attribute [go_sem] F7.r31
attribute [go_sem] F7.r35
attribute [go_sem] F8.r0
attribute [go_sem] F8.r1
attribute [go_sem] F8.r2
attribute [go_sem] F8.r3
attribute [go_sem] F8.r4
attribute [go_sem] F8.r5
attribute [go_sem] F8.r6
attribute [go_sem] F8.r7
attribute [go_sem] F8.r8
attribute [go_sem] F8.r10
attribute [go_sem] F8.r9
attribute [go_sem] F8.r11
attribute [go_sem] F8.r12
attribute [go_sem] F8.r13
attribute [go_sem] F8.r14
attribute [go_sem] F8.r15
attribute [go_sem] F8.r16
attribute [go_sem] F8.r17
attribute [go_sem] F8.r18
attribute [go_sem] F8.r20
attribute [go_sem] F8.r21
attribute [go_sem] F8.r22
attribute [go_sem] F8.r23
attribute [go_sem] F8.r24
attribute [go_sem] F8.r25
attribute [go_sem] F8.r27
attribute [go_sem] F8.r28
attribute [go_sem] F8.r29
attribute [go_sem] F8.r30
attribute [go_sem] F8.r26
attribute [go_sem] F8.r31
attribute [go_sem] F8.r32
attribute [go_sem] F8.r19
attribute [go_sem] F8.r33
attribute [go_sem] F8.r34
attribute [go_sem] F8.r36
attribute [go_sem] F8.r37
attribute [go_sem] F8.r39
attribute [go_sem] F8.r40
attribute [go_sem] F8.r41
attribute [go_sem] F8.r38
attribute [go_sem] F8.r35
attribute [go_sem] F8.r42
attribute [go_sem] F8.r43
attribute [go_sem] F8.r44
attribute [go_sem] F8.r46
attribute [go_sem] F8.r47
attribute [go_sem] F8.r48
attribute [go_sem] F8.r49
attribute [go_sem] F8.r50
attribute [go_sem] F8.r45
attribute [go_sem] F8.r51
attribute [go_sem] F9.r0
attribute [go_sem] F9.r1
attribute [go_sem] F9.r2
attribute [go_sem] F9.r3
attribute [go_sem] F9.r4
attribute [go_sem] F9.r5
attribute [go_sem] F9.r6
attribute [go_sem] F9.r7
attribute [go_sem] F9.r8
attribute [go_sem] F9.r9
attribute [go_sem] F9.r10
attribute [go_sem] F9.r11
attribute [go_sem] F9.r12
attribute [go_sem] F9.r13
attribute [go_sem] F9.r14
attribute [go_sem] F9.r15
attribute [go_sem] F10.r0
attribute [go_sem] F10.r1
attribute [go_sem] F11.r0
attribute [go_sem] F11.r1
attribute [go_sem] F11.r2
attribute [go_sem] F11.r3
attribute [go_sem] F11.r4
attribute [go_sem] F11.r5
attribute [go_sem] F11.r6
attribute [go_sem] F11.r7
attribute [go_sem] F11.r8
attribute [go_sem] F11.r9
attribute [go_sem] F11.r10
attribute [go_sem] F11.r11
attribute [go_sem] F11.r12
attribute [go_sem] F11.r13
attribute [go_sem] F12.r0
attribute [go_sem] F12.r1
attribute [go_sem] F13.r0
attribute [go_sem] F13.r1
attribute [go_sem] F13.r2
attribute [go_sem] F13.r3
attribute [go_sem] F13.r4
attribute [go_sem] F14.r0
attribute [go_sem] F14.r1
attribute [go_sem] F15.r0
attribute [go_sem] F15.r1
attribute [go_sem] F15.r2
attribute [go_sem] F16.r0
attribute [go_sem] F16.r1
attribute [go_sem] F16.r2
attribute [go_sem] F16.r3
attribute [go_sem] F16.r4
attribute [go_sem] F16.r5
attribute [go_sem] F16.r6
attribute [go_sem] F16.r7
attribute [go_sem] F16.r8
attribute [go_sem] F16.r9
attribute [go_sem] F16.r10
attribute [go_sem] F16.r11
attribute [go_sem] F17.r0
attribute [go_sem] F17.r1
attribute [go_sem] F17.r2
attribute [go_sem] F17.r3
attribute [go_sem] F18.r0
attribute [go_sem] F18.r1
attribute [go_sem] F18.r2
attribute [go_sem] F18.r3
attribute [go_sem] F18.r5
attribute [go_sem] F18.r6
attribute [go_sem] F18.r4
attribute [go_sem] F18.r7
attribute [go_sem] F19.r0
attribute [go_sem] F19.r1
attribute [go_sem] F19.r2
attribute [go_sem] F19.r3
attribute [go_sem] F19.r5
attribute [go_sem] F19.r6
attribute [go_sem] F19.r7
attribute [go_sem] F19.r8
attribute [go_sem] F19.r4
attribute [go_sem] F19.r9
attribute [go_sem] F19.r10
attribute [go_sem] F19.r12
attribute [go_sem] F19.r13
attribute [go_sem] F19.r14
attribute [go_sem] F19.r16
attribute [go_sem] F19.r17
attribute [go_sem] F19.r18
attribute [go_sem] F19.r15
attribute [go_sem] F19.r19
attribute [go_sem] F19.r11
attribute [go_sem] F19.r20
attribute [go_sem] F20.r0
attribute [go_sem] F20.r1
attribute [go_sem] F20.r2
attribute [go_sem] F20.r3
attribute [go_sem] F20.r4
attribute [go_sem] F20.r6
attribute [go_sem] F20.r7
attribute [go_sem] F20.r5
attribute [go_sem] F20.r8
attribute [go_sem] F21.r0
attribute [go_sem] F21.r1
attribute [go_sem] F21.r2
attribute [go_sem] F21.r3
attribute [go_sem] F21.r5
attribute [go_sem] F21.r6
attribute [go_sem] F21.r7
attribute [go_sem] F21.r8
attribute [go_sem] F21.r9
attribute [go_sem] F21.r11
attribute [go_sem] F21.r12
attribute [go_sem] F21.r13
attribute [go_sem] F21.r14
attribute [go_sem] F21.r15
attribute [go_sem] F21.r16
attribute [go_sem] F21.r17
attribute [go_sem] F21.r18
attribute [go_sem] F21.r19
attribute [go_sem] F21.r20
attribute [go_sem] F21.r21
attribute [go_sem] F21.r10
attribute [go_sem] F21.r22
attribute [go_sem] F21.r23
attribute [go_sem] F21.r24
attribute [go_sem] F21.r25
attribute [go_sem] F21.r26
attribute [go_sem] F21.r28
attribute [go_sem] F21.r29
attribute [go_sem] F21.r30
attribute [go_sem] F21.r31
attribute [go_sem] F21.r32
attribute [go_sem] F21.r27
attribute [go_sem] F21.r4
attribute [go_sem] F21.r33
attribute [go_sem] F22.r0
attribute [go_sem] F22.r1
attribute [go_sem] F22.r2
attribute [go_sem] F22.r3
attribute [go_sem] F22.r4
attribute [go_sem] F22.r5
attribute [go_sem] F22.r6
attribute [go_sem] F22.r7
attribute [go_sem] F22.r8
attribute [go_sem] F22.r9
attribute [go_sem] F23.r0
attribute [go_sem] F23.r1
attribute [go_sem] F23.r2
attribute [go_sem] F23.r3
attribute [go_sem] F23.r5
attribute [go_sem] F23.r4
attribute [go_sem] F23.r6
attribute [go_sem] F24.r0
attribute [go_sem] F24.r1
attribute [go_sem] F24.r2
attribute [go_sem] F24.r3
attribute [go_sem] F24.r4
attribute [go_sem] F24.r5
attribute [go_sem] F24.r6
attribute [go_sem] F24.r7
attribute [go_sem] F24.r8
attribute [go_sem] F24.r9
attribute [go_sem] F24.r10
attribute [go_sem] F24.r11
attribute [go_sem] F24.r12
attribute [go_sem] F24.r13
attribute [go_sem] F24.r14
attribute [go_sem] F25.r0
attribute [go_sem] F25.r1
attribute [go_sem] F26.r0
attribute [go_sem] F26.r1
attribute [go_sem] F26.r2
attribute [go_sem] F26.r4
attribute [go_sem] F26.r5
attribute [go_sem] F26.r6
attribute [go_sem] F26.r7
attribute [go_sem] F26.r3
attribute [go_sem] F26.r8
attribute [go_sem] F27.r0
attribute [go_sem] F27.r1
attribute [go_sem] F27.r2
attribute [go_sem] F27.r3
attribute [go_sem] F27.r4
attribute [go_sem] F27.r5
attribute [go_sem] F27.r6
attribute [go_sem] F27.r7
attribute [go_sem] F27.r8
attribute [go_sem] F27.r9
attribute [go_sem] F27.r10
attribute [go_sem] F27.r11
attribute [go_sem] F27.r12
attribute [go_sem] F27.r13
attribute [go_sem] F27.r14
attribute [go_sem] F27.r15
attribute [go_sem] F27.r16
attribute [go_sem] F28.r0
attribute [go_sem] F28.r1
attribute [go_sem] F28.r2
attribute [go_sem] F28.r3
attribute [go_sem] F28.r4
attribute [go_sem] F28.r5
attribute [go_sem] F28.r6
attribute [go_sem] F28.r7
attribute [go_sem] F28.r8
attribute [go_sem] F29.r0
attribute [go_sem] F29.r1
attribute [go_sem] F29.r2
attribute [go_sem] F29.r3
attribute [go_sem] F29.r4
attribute [go_sem] F29.r5
attribute [go_sem] F29.r6
attribute [go_sem] F29.r7
attribute [go_sem] F29.r8
attribute [go_sem] F30.r0
attribute [go_sem] F30.r1
attribute [go_sem] F30.r2
attribute [go_sem] F30.r3
attribute [go_sem] F30.r4
attribute [go_sem] F30.r5
attribute [go_sem] F30.r6
attribute [go_sem] F30.r7
attribute [go_sem] F30.r8
attribute [go_sem] F30.r9
attribute [go_sem] F30.r10
attribute [go_sem] F30.r11
attribute [go_sem] F30.r12
attribute [go_sem] F30.r13
attribute [go_sem] F31.r0
attribute [go_sem] F31.r1
attribute [go_sem] F31.r2
attribute [go_sem] F31.r3
attribute [go_sem] F31.r4
attribute [go_sem] F31.r5
attribute [go_sem] F31.r6
attribute [go_sem] F31.r7
attribute [go_sem] F31.r8
attribute [go_sem] F31.r9
attribute [go_sem] F31.r10
attribute [go_sem] F31.r11
attribute [go_sem] F31.r12
attribute [go_sem] F31.r13
attribute [go_sem] F32.r0
attribute [go_sem] F32.r1
attribute [go_sem] F32.r2
attribute [go_sem] F32.r3
attribute [go_sem] F32.r4
attribute [go_sem] F32.r5
attribute [go_sem] F32.r6
attribute [go_sem] F32.r7
attribute [go_sem] F32.r8
attribute [go_sem] F32.r9
attribute [go_sem] F32.r10
attribute [go_sem] F32.r11
attribute [go_sem] F32.r12
attribute [go_sem] F32.r13
attribute [go_sem] F33.r0
attribute [go_sem] F33.r1
attribute [go_sem] F33.r2
attribute [go_sem] F33.r3
attribute [go_sem] F33.r4
attribute [go_sem] F33.r5
attribute [go_sem] F33.r6
attribute [go_sem] F33.r7
attribute [go_sem] F34.r0
attribute [go_sem] F34.r1
attribute [go_sem] F34.r2
attribute [go_sem] F34.r3
attribute [go_sem] F34.r4
attribute [go_sem] F34.r5
attribute [go_sem] F34.r6
attribute [go_sem] F35.r0
attribute [go_sem] F35.r1
attribute [go_sem] F36.r0
attribute [go_sem] F36.r1
attribute [go_sem] F37.r0
attribute [go_sem] F37.r1
attribute [go_sem] F38.r0
attribute [go_sem] F38.r1
attribute [go_sem] F38.r2
attribute [go_sem] F38.r3
attribute [go_sem] F38.r4
attribute [go_sem] F38.r5
attribute [go_sem] F38.r6
attribute [go_sem] F39.r0
attribute [go_sem] F39.r1
attribute [go_sem] F39.r2
attribute [go_sem] F39.r3
attribute [go_sem] F39.r4
attribute [go_sem] F39.r5
attribute [go_sem] F39.r6
attribute [go_sem] F39.r7
attribute [go_sem] F39.r8
attribute [go_sem] F39.r9
attribute [go_sem] F39.r10
attribute [go_sem] F39.r11
attribute [go_sem] F40.r0
attribute [go_sem] F40.r1
attribute [go_sem] F40.r2
attribute [go_sem] F40.r3
attribute [go_sem] F41.r0
attribute [go_sem] F41.r1
attribute [go_sem] F42.r0
attribute [go_sem] F42.r1
attribute [go_sem] F42.r2
attribute [go_sem] F42.r3
attribute [go_sem] F42.r4
attribute [go_sem] F42.r5
attribute [go_sem] F42.r7
attribute [go_sem] F42.r8
attribute [go_sem] F42.r9
attribute [go_sem] F42.r10
attribute [go_sem] F42.r6
attribute [go_sem] F42.r11
attribute [go_sem] F42.r12
attribute [go_sem] F43.r0
attribute [go_sem] F43.r1
attribute [go_sem] F44.r0
attribute [go_sem] F44.r1
attribute [go_sem] F44.r2
attribute [go_sem] F44.r3
attribute [go_sem] F44.r4
attribute [go_sem] F44.r5
attribute [go_sem] F44.r6
attribute [go_sem] F44.r7
attribute [go_sem] F44.r8
attribute [go_sem] F44.r9
attribute [go_sem] F44.r10
attribute [go_sem] F44.r11
attribute [go_sem] F45.r0
attribute [go_sem] F45.r1
attribute [go_sem] F46.r0
attribute [go_sem] F46.r1
attribute [go_sem] F46.r2
attribute [go_sem] F46.r3
attribute [go_sem] F46.r4
attribute [go_sem] F46.r5
attribute [go_sem] F46.r6
attribute [go_sem] F46.r7
attribute [go_sem] F47.r0
attribute [go_sem] F47.r1
attribute [go_sem] F48.r0
attribute [go_sem] F48.r1
attribute [go_sem] F49.r0
attribute [go_sem] F49.r1
attribute [go_sem] F50.r0
attribute [go_sem] F50.r1
attribute [go_sem] F51.r0
attribute [go_sem] F51.r1
attribute [go_sem] F51.r2
attribute [go_sem] F51.r3
attribute [go_sem] F51.r4
attribute [go_sem] F51.r5
attribute [go_sem] F51.r6
attribute [go_sem] F51.r7
attribute [go_sem] F52.r0
attribute [go_sem] F52.r1
attribute [go_sem] F55.r0
attribute [go_sem] F55.r1
attribute [go_sem] F55.r2
attribute [go_sem] F55.r3
attribute [go_sem] F56.r0
attribute [go_sem] F56.r1
attribute [go_sem] F56.r2
attribute [go_sem] F56.r3
attribute [go_sem] F57.r0
attribute [go_sem] F57.r1
attribute [go_sem] F58.r0
attribute [go_sem] F58.r1
attribute [go_sem] F58.r2
attribute [go_sem] F58.r3
attribute [go_sem] F71.r0
attribute [go_sem] F71.r1
attribute [go_sem] F71.r2
attribute [go_sem] F71.r3
attribute [go_sem] F71.r4

end Go.Proofs.Ytacmnfpgimgigaa

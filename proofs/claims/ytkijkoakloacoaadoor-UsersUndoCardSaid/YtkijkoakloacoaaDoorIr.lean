/- The compiled code of the functions, by program (genir.py): each with the theorem that it is what the engine makes of the loaded program's. -/
import Derived.Test.YtkijkoakloacoaaDoorIrA
namespace Go.Proofs.YtkijkoakloacoaaDoor
open Go
set_option maxRecDepth 100000

def F36.r0 : List Oper := [
  ⟨(some 10), (.load 23 (.tmp 0)), 23, "", #[⟨0, .data⟩], none⟩,
  ⟨(some 11), (.call ⟨(.builtin .len), #[(.tmp 10)], #[23]⟩), 3, "", #[], none⟩,
  ⟨(some 12), (.move (.const (.int .i64 0))), 3, "", #[], none⟩]
def F36.r1 : List Oper := [
  ⟨(some 13), (.binOp .lss 3 (.tmp 12) (.tmp 11) 3), 0, "", #[], none⟩]
def F36.r2 : List Oper := [
  ⟨(some 14), (.indexAddr 23 (.tmp 10) (.tmp 12)), 0, "", #[], none⟩,
  ⟨(some 15), (.load 46 (.tmp 14)), 46, "", #[⟨0, .data⟩], none⟩,
  ⟨(some 3), (.alloc 46), 0, "", #[⟨0, .chain⟩], none⟩,
  ⟨none, (.store 46 (.tmp 3) (.tmp 15)), 0, "", #[⟨0, .chain⟩], none⟩]
def F36.r3 : List Oper := [
  ⟨(some 16), (.load 46 (.tmp 3)), 46, "", #[⟨0, .data⟩], none⟩,
  ⟨(some 17), (.call ⟨(.value (.func 37)), #[(.tmp 16)], #[46]⟩), 0, "", #[⟨0, .chain⟩], none⟩]
def F36.r4 : List Oper := [
  ⟨(some 18), (.binOp .add 3 (.tmp 12) (.const (.int .i64 1)) 3), 3, "", #[], none⟩,
  ⟨(some 12), (.move (.tmp 18)), 3, "", #[], none⟩]
def F36.r5 : List Oper := [
  ⟨(some 19), (.load 23 (.tmp 0)), 23, "", #[⟨0, .data⟩], none⟩,
  ⟨(some 20), (.call ⟨(.builtin .len), #[(.tmp 19)], #[23]⟩), 3, "", #[], none⟩,
  ⟨(some 21), (.move (.const (.int .i64 0))), 3, "", #[], none⟩]
def F36.r6 : List Oper := [
  ⟨(some 22), (.binOp .lss 3 (.tmp 21) (.tmp 20) 3), 0, "", #[], none⟩]
def F36.r7 : List Oper := [
  ⟨(some 23), (.indexAddr 23 (.tmp 19) (.tmp 21)), 0, "", #[], none⟩,
  ⟨(some 24), (.load 46 (.tmp 23)), 46, "", #[⟨0, .data⟩], none⟩,
  ⟨(some 5), (.alloc 46), 0, "", #[⟨0, .chain⟩], none⟩,
  ⟨none, (.store 46 (.tmp 5) (.tmp 24)), 0, "", #[⟨0, .chain⟩], none⟩]
def F36.r8 : List Oper := [
  ⟨(some 30), (.fieldAddr 46 (.tmp 5) 0), 0, "", #[], none⟩,
  ⟨(some 26), (.load 28 (.tmp 1)), 28, "", #[⟨0, .data⟩], none⟩,
  ⟨(some 27), (.nilCheck (.tmp 26)), 0, "", #[], none⟩,
  ⟨(some 28), (.fieldAddr 72 (.tmp 27) 1), 0, "", #[], none⟩,
  ⟨(some 29), (.load 69 (.tmp 28)), 69, "", #[⟨0, .data⟩], none⟩,
  ⟨(some 31), (.load 9 (.tmp 30)), 9, "", #[⟨0, .data⟩], none⟩,
  ⟨(some 32), (.lookup 69 (.tmp 29) (.tmp 31) true), 75, "", #[⟨0, .data⟩], none⟩,
  ⟨(some 25), (.move (.tmp 32)), 75, "", #[], none⟩,
  ⟨(some 33), (.extract (.tmp 25) 0), 3, "", #[], none⟩,
  ⟨(some 34), (.extract (.tmp 25) 1), 4, "", #[], none⟩,
  ⟨(some 6), (.assign (.tmp 33)), 3, "", #[], none⟩,
  ⟨(some 7), (.assign (.tmp 34)), 4, "", #[], none⟩]
def F36.r9 : List Oper := [
  ⟨(some 35), (.move (.tmp 7)), 4, "", #[], none⟩,
  ⟨(some 36), (.unOp .not 4 (.tmp 35)), 4, "", #[], none⟩,
  ⟨(some 37), (.call ⟨(.value (.func 38)), #[(.tmp 36), (.const (.int .i64 61))], #[4, 25]⟩), 0, "", #[⟨0, .chain⟩], none⟩]
def F36.r10 : List Oper := [
  ⟨(some 38), (.load 46 (.tmp 5)), 46, "", #[⟨0, .data⟩], none⟩,
  ⟨(some 39), (.call ⟨(.value (.func 39)), #[(.tmp 38)], #[46]⟩), 0, "", #[⟨0, .chain⟩], none⟩]
def F36.r11 : List Oper := [
  ⟨(some 40), (.load 28 (.tmp 1)), 28, "", #[⟨0, .data⟩], none⟩,
  ⟨(some 41), (.load 46 (.tmp 5)), 46, "", #[⟨0, .data⟩], none⟩,
  ⟨(some 42), (.call ⟨(.value (.func 40)), #[(.tmp 40), (.tmp 41)], #[28, 46]⟩), 0, "", #[⟨0, .chain⟩], none⟩]
def F36.r12 : List Oper := [
  ⟨(some 43), (.binOp .add 3 (.tmp 21) (.const (.int .i64 1)) 3), 3, "", #[], none⟩,
  ⟨(some 21), (.move (.tmp 43)), 3, "", #[], none⟩]
def F36.r13 : List Oper := [
  ⟨(some 44), (.load 23 (.tmp 0)), 23, "", #[⟨0, .data⟩], none⟩,
  ⟨(some 45), (.call ⟨(.builtin .len), #[(.tmp 44)], #[23]⟩), 3, "", #[], none⟩,
  ⟨(some 46), (.move (.const (.int .i64 0))), 3, "", #[], none⟩]
def F36.r14 : List Oper := [
  ⟨(some 47), (.binOp .lss 3 (.tmp 46) (.tmp 45) 3), 0, "", #[], none⟩]
def F36.r15 : List Oper := [
  ⟨(some 48), (.indexAddr 23 (.tmp 44) (.tmp 46)), 0, "", #[], none⟩,
  ⟨(some 49), (.load 46 (.tmp 48)), 46, "", #[⟨0, .data⟩], none⟩,
  ⟨(some 9), (.alloc 46), 0, "", #[⟨0, .chain⟩], none⟩,
  ⟨none, (.store 46 (.tmp 9) (.tmp 49)), 0, "", #[⟨0, .chain⟩], none⟩]
def F36.r16 : List Oper := [
  ⟨(some 50), (.load 28 (.tmp 1)), 28, "", #[⟨0, .data⟩], none⟩,
  ⟨(some 51), (.load 46 (.tmp 9)), 46, "", #[⟨0, .data⟩], none⟩,
  ⟨(some 52), (.call ⟨(.value (.func 41)), #[(.tmp 50), (.tmp 51)], #[28, 46]⟩), 0, "", #[⟨0, .chain⟩], none⟩]
def F36.r17 : List Oper := [
  ⟨(some 53), (.binOp .add 3 (.tmp 46) (.const (.int .i64 1)) 3), 3, "", #[], none⟩,
  ⟨(some 46), (.move (.tmp 53)), 3, "", #[], none⟩]
def F36.r18 : List Oper := [
  ⟨(some 54), (.load 28 (.tmp 1)), 28, "", #[⟨0, .data⟩], none⟩,
  ⟨(some 55), (.call ⟨(.value (.func 17)), #[(.tmp 54)], #[28]⟩), 9, "", #[⟨0, .chain⟩], none⟩,
  ⟨(some 56), (.call ⟨(.builtin .len), #[(.tmp 55)], #[9]⟩), 3, "", #[], none⟩,
  ⟨(some 57), (.binOp .leq 3 (.tmp 56) (.const (.int .i64 65536)) 3), 4, "", #[], none⟩,
  ⟨(some 58), (.call ⟨(.value (.func 38)), #[(.tmp 57), (.const (.int .i64 1))], #[4, 25]⟩), 0, "", #[⟨0, .chain⟩], none⟩]
def F36.t4 : Cd := (.region 4 F36.r4.toArray false)
theorem F36.t4_eq {P : Program} {Q : Post} {e : FA} {w : World} {θ : Tag (F36.t4, Q, e, w)} : cwE P F36.t4 Q e w θ = cwE P (.region 4 F36.r4.toArray false) Q e w := rfl
def F36.t2 : Cd := (.seq (.block 1 (.seq (.region 2 F36.r2.toArray false) (.region 3 F36.r3.toArray false))) F36.t4)
theorem F36.t2_eq {P : Program} {Q : Post} {e : FA} {w : World} {θ : Tag (F36.t2, Q, e, w)} : cwE P F36.t2 Q e w θ = cwE P (.seq (.block 1 (.seq (.region 2 F36.r2.toArray false) (.region 3 F36.r3.toArray false))) F36.t4) Q e w := rfl
def F36.t12 : Cd := (.region 12 F36.r12.toArray false)
theorem F36.t12_eq {P : Program} {Q : Post} {e : FA} {w : World} {θ : Tag (F36.t12, Q, e, w)} : cwE P F36.t12 Q e w θ = cwE P (.region 12 F36.r12.toArray false) Q e w := rfl
def F36.t7 : Cd := (.seq (.block 3 (.seq (.region 7 F36.r7.toArray false) (.seq (.region 8 F36.r8.toArray true) (.seq (.region 9 F36.r9.toArray false) (.seq (.region 10 F36.r10.toArray false) (.region 11 F36.r11.toArray false)))))) F36.t12)
theorem F36.t7_eq {P : Program} {Q : Post} {e : FA} {w : World} {θ : Tag (F36.t7, Q, e, w)} : cwE P F36.t7 Q e w θ = cwE P (.seq (.block 3 (.seq (.region 7 F36.r7.toArray false) (.seq (.region 8 F36.r8.toArray true) (.seq (.region 9 F36.r9.toArray false) (.seq (.region 10 F36.r10.toArray false) (.region 11 F36.r11.toArray false)))))) F36.t12) Q e w := rfl
def F36.t17 : Cd := (.region 17 F36.r17.toArray false)
theorem F36.t17_eq {P : Program} {Q : Post} {e : FA} {w : World} {θ : Tag (F36.t17, Q, e, w)} : cwE P F36.t17 Q e w θ = cwE P (.region 17 F36.r17.toArray false) Q e w := rfl
def F36.t15 : Cd := (.seq (.block 5 (.seq (.region 15 F36.r15.toArray false) (.region 16 F36.r16.toArray false))) F36.t17)
theorem F36.t15_eq {P : Program} {Q : Post} {e : FA} {w : World} {θ : Tag (F36.t15, Q, e, w)} : cwE P F36.t15 Q e w θ = cwE P (.seq (.block 5 (.seq (.region 15 F36.r15.toArray false) (.region 16 F36.r16.toArray false))) F36.t17) Q e w := rfl
def F36.t18 : Cd := (.region 18 F36.r18.toArray false)
theorem F36.t18_eq {P : Program} {Q : Post} {e : FA} {w : World} {θ : Tag (F36.t18, Q, e, w)} : cwE P F36.t18 Q e w θ = cwE P (.region 18 F36.r18.toArray false) Q e w := rfl
def F36.t13 : Cd := (.seq (.seq (.region 13 F36.r13.toArray false) (.block 4 (.loop (.seq (.region 14 F36.r14.toArray false) (.seq (.cond (.tmp 47) .skip (.exit 4)) F36.t15))))) F36.t18)
theorem F36.t13_eq {P : Program} {Q : Post} {e : FA} {w : World} {θ : Tag (F36.t13, Q, e, w)} : cwE P F36.t13 Q e w θ = cwE P (.seq (.seq (.region 13 F36.r13.toArray false) (.block 4 (.loop (.seq (.region 14 F36.r14.toArray false) (.seq (.cond (.tmp 47) .skip (.exit 4)) F36.t15))))) F36.t18) Q e w := rfl
def F36.t5 : Cd := (.seq (.seq (.region 5 F36.r5.toArray false) (.block 2 (.loop (.seq (.region 6 F36.r6.toArray false) (.seq (.cond (.tmp 22) .skip (.exit 2)) F36.t7))))) F36.t13)
theorem F36.t5_eq {P : Program} {Q : Post} {e : FA} {w : World} {θ : Tag (F36.t5, Q, e, w)} : cwE P F36.t5 Q e w θ = cwE P (.seq (.seq (.region 5 F36.r5.toArray false) (.block 2 (.loop (.seq (.region 6 F36.r6.toArray false) (.seq (.cond (.tmp 22) .skip (.exit 2)) F36.t7))))) F36.t13) Q e w := rfl
def F36.code : Cd := (.seq (.seq (.region 0 F36.r0.toArray false) (.block 0 (.loop (.seq (.region 1 F36.r1.toArray false) (.seq (.cond (.tmp 13) .skip (.exit 0)) F36.t2))))) F36.t5)
theorem F36.calls {args : Array Value} {w : World} {R : Ending → World → Prop} (hn : args.size ≤ 59) (h : cwE Tryd.prog F36.code (fnP Tryd.prog #[] R) (entry args) w) : Calls Tryd.prog 36 args w R :=
  calls_of_cwE (types := Tryd.prog.types) follows Tryd.func36 F36.code rfl (by kernel_rfl) hn h

def F37.r0 : List Oper := [
  ⟨(some 1), (.box 46 (.tmp 0)), 0, "", #[⟨0, .chain⟩], none⟩]
def F37.r1 : List Oper := [
  ⟨(some 4), (.fieldAddr 46 (.tmp 1) 0), 0, "", #[], none⟩,
  ⟨(some 5), (.load 9 (.tmp 4)), 9, "", #[⟨0, .data⟩], none⟩,
  ⟨(some 6), (.call ⟨(.value (.func 57)), #[(.tmp 5)], #[9]⟩), 4, "", #[⟨0, .chain⟩], none⟩,
  ⟨(some 7), (.call ⟨(.value (.func 38)), #[(.tmp 6), (.const (.int .i64 60))], #[4, 25]⟩), 0, "", #[⟨0, .chain⟩], none⟩]
def F37.r2 : List Oper := [
  ⟨(some 8), (.fieldAddr 46 (.tmp 1) 1), 0, "", #[], none⟩,
  ⟨(some 9), (.load 9 (.tmp 8)), 9, "", #[⟨0, .data⟩], none⟩,
  ⟨(some 10), (.binOp .eql 9 (.tmp 9) (.const (.string { data := #[] })) 9), 4, "", #[], none⟩,
  ⟨(some 11), (.move (.tmp 10)), 4, "", #[], none⟩,
  ⟨(some 12), (.fieldAddr 46 (.tmp 1) 1), 0, "", #[], (some (11, false))⟩,
  ⟨(some 13), (.load 9 (.tmp 12)), 9, "", #[⟨0, .data⟩], (some (11, false))⟩,
  ⟨(some 14), (.call ⟨(.value (.func 57)), #[(.tmp 13)], #[9]⟩), 4, "", #[⟨0, .chain⟩], (some (11, false))⟩,
  ⟨(some 15), (.pick (.tmp 11) (.const (.bool true)) (.tmp 14)), 4, "", #[], none⟩,
  ⟨(some 16), (.call ⟨(.value (.func 38)), #[(.tmp 15), (.const (.int .i64 60))], #[4, 25]⟩), 0, "", #[⟨0, .chain⟩], none⟩]
def F37.r3 : List Oper := [
  ⟨(some 17), (.fieldAddr 46 (.tmp 1) 2), 0, "", #[], none⟩,
  ⟨(some 18), (.load 33 (.tmp 17)), 33, "", #[⟨0, .data⟩], none⟩,
  ⟨(some 19), (.call ⟨(.builtin .len), #[(.tmp 18)], #[33]⟩), 3, "", #[], none⟩,
  ⟨(some 20), (.move (.const (.int .i64 0))), 3, "", #[], none⟩]
def F37.r4 : List Oper := [
  ⟨(some 21), (.binOp .lss 3 (.tmp 20) (.tmp 19) 3), 0, "", #[], none⟩]
def F37.r5 : List Oper := [
  ⟨(some 22), (.indexAddr 33 (.tmp 18) (.tmp 20)), 0, "", #[], none⟩,
  ⟨(some 23), (.load 9 (.tmp 22)), 9, "", #[⟨0, .data⟩], none⟩,
  ⟨(some 3), (.assign (.tmp 23)), 9, "", #[], none⟩]
def F37.r6 : List Oper := [
  ⟨(some 24), (.move (.tmp 3)), 9, "", #[], none⟩,
  ⟨(some 25), (.call ⟨(.value (.func 57)), #[(.tmp 24)], #[9]⟩), 4, "", #[⟨0, .chain⟩], none⟩,
  ⟨(some 26), (.call ⟨(.value (.func 38)), #[(.tmp 25), (.const (.int .i64 60))], #[4, 25]⟩), 0, "", #[⟨0, .chain⟩], none⟩]
def F37.r7 : List Oper := [
  ⟨(some 27), (.binOp .add 3 (.tmp 20) (.const (.int .i64 1)) 3), 3, "", #[], none⟩,
  ⟨(some 20), (.move (.tmp 27)), 3, "", #[], none⟩]
def F37.r8 : List Oper := [
  ⟨(some 28), (.fieldAddr 46 (.tmp 1) 3), 0, "", #[], none⟩,
  ⟨(some 29), (.load 9 (.tmp 28)), 9, "", #[⟨0, .data⟩], none⟩,
  ⟨(some 30), (.call ⟨(.value (.func 60)), #[(.tmp 29)], #[9]⟩), 4, "", #[⟨0, .chain⟩], none⟩,
  ⟨(some 31), (.call ⟨(.value (.func 38)), #[(.tmp 30), (.const (.int .i64 60))], #[4, 25]⟩), 0, "", #[⟨0, .chain⟩], none⟩]
def F37.t7 : Cd := (.region 7 F37.r7.toArray false)
theorem F37.t7_eq {P : Program} {Q : Post} {e : FA} {w : World} {θ : Tag (F37.t7, Q, e, w)} : cwE P F37.t7 Q e w θ = cwE P (.region 7 F37.r7.toArray false) Q e w := rfl
def F37.t5 : Cd := (.seq (.block 1 (.seq (.region 5 F37.r5.toArray false) (.region 6 F37.r6.toArray false))) F37.t7)
theorem F37.t5_eq {P : Program} {Q : Post} {e : FA} {w : World} {θ : Tag (F37.t5, Q, e, w)} : cwE P F37.t5 Q e w θ = cwE P (.seq (.block 1 (.seq (.region 5 F37.r5.toArray false) (.region 6 F37.r6.toArray false))) F37.t7) Q e w := rfl
def F37.t8 : Cd := (.region 8 F37.r8.toArray false)
theorem F37.t8_eq {P : Program} {Q : Post} {e : FA} {w : World} {θ : Tag (F37.t8, Q, e, w)} : cwE P F37.t8 Q e w θ = cwE P (.region 8 F37.r8.toArray false) Q e w := rfl
def F37.code : Cd := (.seq (.region 0 F37.r0.toArray false) (.seq (.region 1 F37.r1.toArray false) (.seq (.region 2 F37.r2.toArray false) (.seq (.seq (.region 3 F37.r3.toArray false) (.block 0 (.loop (.seq (.region 4 F37.r4.toArray false) (.seq (.cond (.tmp 21) .skip (.exit 0)) F37.t5))))) F37.t8))))
theorem F37.calls {args : Array Value} {w : World} {R : Ending → World → Prop} (hn : args.size ≤ 32) (h : cwE Tryd.prog F37.code (fnP Tryd.prog #[] R) (entry args) w) : Calls Tryd.prog 37 args w R :=
  calls_of_cwE (types := Tryd.prog.types) follows Tryd.func37 F37.code rfl (by kernel_rfl) hn h

def F38.r0 : List Oper := [
  ⟨(some 4), (.move (.tmp 0)), 4, "", #[], none⟩,
  ⟨(some 5), (.unOp .not 4 (.tmp 4)), 4, "", #[], none⟩]
def F38.r1 : List Oper := [
  ⟨(some 6), (.move (.tmp 1)), 25, "", #[], none⟩,
  ⟨(some 7), (.build 100 #[(0, (.tmp 6))]), 100, "", #[], none⟩,
  ⟨(some 8), (.makeInterface 100 (.tmp 7)), 20, "", #[⟨0, .data⟩], none⟩,
  ⟨none, (.panic (.tmp 8)), 0, "", #[⟨0, .chain⟩], none⟩]
def F38.code : Cd := (.seq (.region 0 F38.r0.toArray false) (.cond (.tmp 5) (.region 1 F38.r1.toArray false) .skip))
theorem F38.calls {args : Array Value} {w : World} {R : Ending → World → Prop} (hn : args.size ≤ 9) (h : cwE Tryd.prog F38.code (fnP Tryd.prog #[] R) (entry args) w) : Calls Tryd.prog 38 args w R :=
  calls_of_cwE (types := Tryd.prog.types) follows Tryd.func38 F38.code rfl (by kernel_rfl) hn h

def F39.r0 : List Oper := [
  ⟨(some 1), (.box 46 (.tmp 0)), 0, "", #[⟨0, .chain⟩], none⟩]
def F39.r1 : List Oper := [
  ⟨(some 4), (.fieldAddr 46 (.tmp 1) 2), 0, "", #[], none⟩,
  ⟨(some 5), (.load 33 (.tmp 4)), 33, "", #[⟨0, .data⟩], none⟩,
  ⟨(some 6), (.call ⟨(.builtin .len), #[(.tmp 5)], #[33]⟩), 3, "", #[], none⟩,
  ⟨(some 7), (.move (.const (.int .i64 0))), 3, "", #[], none⟩]
def F39.r2 : List Oper := [
  ⟨(some 8), (.binOp .lss 3 (.tmp 7) (.tmp 6) 3), 0, "", #[], none⟩]
def F39.r3 : List Oper := [
  ⟨(some 9), (.move (.tmp 7)), 3, "", #[], none⟩,
  ⟨(some 10), (.indexAddr 33 (.tmp 5) (.tmp 7)), 0, "", #[], none⟩,
  ⟨(some 11), (.load 9 (.tmp 10)), 9, "", #[⟨0, .data⟩], none⟩,
  ⟨(some 2), (.assign (.tmp 9)), 3, "", #[], none⟩,
  ⟨(some 3), (.assign (.tmp 11)), 9, "", #[], none⟩]
def F39.r4 : List Oper := [
  ⟨(some 12), (.fieldAddr 46 (.tmp 1) 2), 0, "", #[], none⟩,
  ⟨(some 13), (.load 33 (.tmp 12)), 33, "", #[⟨0, .data⟩], none⟩,
  ⟨(some 14), (.move (.tmp 2)), 3, "", #[], none⟩,
  ⟨(some 15), (.slice 33 (.tmp 13) none (some (.tmp 14)) none), 33, "", #[], none⟩,
  ⟨(some 16), (.move (.tmp 3)), 9, "", #[], none⟩,
  ⟨(some 17), (.call ⟨(.value (.func 61)), #[(.tmp 15), (.tmp 16)], #[33, 9]⟩), 4, "", #[⟨0, .chain⟩], none⟩,
  ⟨(some 18), (.unOp .not 4 (.tmp 17)), 4, "", #[], none⟩,
  ⟨(some 19), (.call ⟨(.value (.func 38)), #[(.tmp 18), (.const (.int .i64 61))], #[4, 25]⟩), 0, "", #[⟨0, .chain⟩], none⟩]
def F39.r5 : List Oper := [
  ⟨(some 20), (.binOp .add 3 (.tmp 7) (.const (.int .i64 1)) 3), 3, "", #[], none⟩,
  ⟨(some 7), (.move (.tmp 20)), 3, "", #[], none⟩]
def F39.t5 : Cd := (.region 5 F39.r5.toArray false)
theorem F39.t5_eq {P : Program} {Q : Post} {e : FA} {w : World} {θ : Tag (F39.t5, Q, e, w)} : cwE P F39.t5 Q e w θ = cwE P (.region 5 F39.r5.toArray false) Q e w := rfl
def F39.t3 : Cd := (.seq (.block 1 (.seq (.region 3 F39.r3.toArray false) (.region 4 F39.r4.toArray false))) F39.t5)
theorem F39.t3_eq {P : Program} {Q : Post} {e : FA} {w : World} {θ : Tag (F39.t3, Q, e, w)} : cwE P F39.t3 Q e w θ = cwE P (.seq (.block 1 (.seq (.region 3 F39.r3.toArray false) (.region 4 F39.r4.toArray false))) F39.t5) Q e w := rfl
def F39.code : Cd := (.seq (.region 0 F39.r0.toArray false) (.seq (.region 1 F39.r1.toArray false) (.block 0 (.loop (.seq (.region 2 F39.r2.toArray false) (.seq (.cond (.tmp 8) .skip (.exit 0)) F39.t3))))))
theorem F39.calls {args : Array Value} {w : World} {R : Ending → World → Prop} (hn : args.size ≤ 21) (h : cwE Tryd.prog F39.code (fnP Tryd.prog #[] R) (entry args) w) : Calls Tryd.prog 39 args w R :=
  calls_of_cwE (types := Tryd.prog.types) follows Tryd.func39 F39.code rfl (by kernel_rfl) hn h

def F40.r0 : List Oper := [
  ⟨(some 3), (.box 46 (.tmp 1)), 0, "", #[⟨0, .chain⟩], none⟩]
def F40.r1 : List Oper := [
  ⟨(some 7), (.move (.tmp 0)), 28, "", #[], none⟩,
  ⟨(some 8), (.nilCheck (.tmp 7)), 0, "", #[], none⟩,
  ⟨(some 9), (.fieldAddr 72 (.tmp 8) 1), 0, "", #[], none⟩,
  ⟨(some 11), (.fieldAddr 46 (.tmp 3) 0), 0, "", #[], none⟩,
  ⟨(some 10), (.load 69 (.tmp 9)), 69, "", #[⟨0, .data⟩], none⟩,
  ⟨(some 12), (.load 9 (.tmp 11)), 9, "", #[⟨0, .data⟩], none⟩,
  ⟨(some 13), (.lookup 69 (.tmp 10) (.tmp 12) true), 75, "", #[⟨0, .data⟩], none⟩,
  ⟨(some 6), (.move (.tmp 13)), 75, "", #[], none⟩,
  ⟨(some 14), (.extract (.tmp 6) 0), 3, "", #[], none⟩,
  ⟨(some 15), (.extract (.tmp 6) 1), 4, "", #[], none⟩,
  ⟨(some 4), (.assign (.tmp 14)), 3, "", #[], none⟩,
  ⟨(some 5), (.assign (.tmp 15)), 4, "", #[], none⟩]
def F40.r2 : List Oper := [
  ⟨(some 16), (.move (.tmp 5)), 4, "", #[], none⟩]
def F40.r3 : List Oper := [
  ⟨(some 17), (.move (.tmp 0)), 28, "", #[], none⟩,
  ⟨(some 18), (.nilCheck (.tmp 17)), 0, "", #[], none⟩,
  ⟨(some 19), (.fieldAddr 72 (.tmp 18) 0), 0, "", #[], none⟩,
  ⟨(some 21), (.move (.tmp 4)), 3, "", #[], none⟩,
  ⟨(some 20), (.load 23 (.tmp 19)), 23, "", #[⟨128, .data⟩], none⟩,
  ⟨(some 22), (.load 46 (.tmp 3)), 46, "", #[⟨128, .data⟩], none⟩,
  ⟨(some 23), (.indexAddr 23 (.tmp 20) (.tmp 21)), 0, "", #[], none⟩,
  ⟨none, (.store 46 (.tmp 23) (.tmp 22)), 0, "", #[⟨7, .chain⟩], none⟩]
def F40.r4 : List Oper := [
  ⟨(some 24), (.move (.tmp 0)), 28, "", #[], none⟩,
  ⟨(some 25), (.nilCheck (.tmp 24)), 0, "", #[], none⟩,
  ⟨(some 26), (.fieldAddr 72 (.tmp 25) 1), 0, "", #[], none⟩,
  ⟨(some 28), (.fieldAddr 46 (.tmp 3) 0), 0, "", #[], none⟩,
  ⟨(some 30), (.move (.tmp 0)), 28, "", #[], none⟩,
  ⟨(some 31), (.nilCheck (.tmp 30)), 0, "", #[], none⟩,
  ⟨(some 32), (.fieldAddr 72 (.tmp 31) 0), 0, "", #[], none⟩,
  ⟨(some 27), (.load 69 (.tmp 26)), 69, "", #[⟨2048, .data⟩], none⟩,
  ⟨(some 29), (.load 9 (.tmp 28)), 9, "", #[⟨2048, .data⟩], none⟩,
  ⟨(some 33), (.load 23 (.tmp 32)), 23, "", #[⟨2048, .data⟩], none⟩,
  ⟨(some 34), (.call ⟨(.builtin .len), #[(.tmp 33)], #[23]⟩), 3, "", #[], none⟩,
  ⟨none, (.mapUpdate 69 (.tmp 27) (.tmp 29) (.tmp 34)), 0, "", #[⟨11, .chain⟩], none⟩]
def F40.r5 : List Oper := [
  ⟨(some 35), (.move (.tmp 0)), 28, "", #[], none⟩,
  ⟨(some 36), (.move (.tmp 0)), 28, "", #[], none⟩,
  ⟨(some 37), (.nilCheck (.tmp 36)), 0, "", #[], none⟩,
  ⟨(some 38), (.fieldAddr 72 (.tmp 37) 0), 0, "", #[], none⟩,
  ⟨(some 39), (.load 23 (.tmp 38)), 23, "", #[⟨1152, .data⟩], none⟩,
  ⟨(some 40), (.load 46 (.tmp 3)), 46, "", #[⟨1216, .data⟩], none⟩,
  ⟨(some 41), (.buildSlice 23 1 #[(0, (.tmp 40))]), 23, "", #[⟨6, .chain⟩], none⟩,
  ⟨(some 42), (.call ⟨(.builtin .append), #[(.tmp 39), (.tmp 41)], #[23, 23]⟩), 23, "", #[⟨7, .chain⟩], none⟩,
  ⟨(some 43), (.nilCheck (.tmp 35)), 0, "", #[], none⟩,
  ⟨(some 44), (.fieldAddr 72 (.tmp 43) 0), 0, "", #[], none⟩,
  ⟨none, (.store 23 (.tmp 44) (.tmp 42)), 0, "", #[⟨10, .chain⟩], none⟩]
def F40.t4 : Cd := (.seq (.region 4 F40.r4.toArray true) (.region 5 F40.r5.toArray true))
theorem F40.t4_eq {P : Program} {Q : Post} {e : FA} {w : World} {θ : Tag (F40.t4, Q, e, w)} : cwE P F40.t4 Q e w θ = cwE P (.seq (.region 4 F40.r4.toArray true) (.region 5 F40.r5.toArray true)) Q e w := rfl
def F40.code : Cd := (.seq (.region 0 F40.r0.toArray false) (.seq (.seq (.region 1 F40.r1.toArray true) (.seq (.region 2 F40.r2.toArray false) (.cond (.tmp 16) (.seq (.region 3 F40.r3.toArray true) .ret) .skip))) F40.t4))
theorem F40.calls {args : Array Value} {w : World} {R : Ending → World → Prop} (hn : args.size ≤ 45) (h : cwE Tryd.prog F40.code (fnP Tryd.prog #[] R) (entry args) w) : Calls Tryd.prog 40 args w R :=
  calls_of_cwE (types := Tryd.prog.types) follows Tryd.func40 F40.code rfl (by kernel_rfl) hn h

def F41.r0 : List Oper := [
  ⟨(some 3), (.box 46 (.tmp 1)), 0, "", #[⟨0, .chain⟩], none⟩]
def F41.r1 : List Oper := [
  ⟨(some 11), (.move (.tmp 0)), 28, "", #[], none⟩,
  ⟨(some 12), (.nilCheck (.tmp 11)), 0, "", #[], none⟩,
  ⟨(some 13), (.fieldAddr 72 (.tmp 12) 1), 0, "", #[], none⟩,
  ⟨(some 15), (.fieldAddr 46 (.tmp 3) 1), 0, "", #[], none⟩,
  ⟨(some 14), (.load 69 (.tmp 13)), 69, "", #[⟨0, .data⟩], none⟩,
  ⟨(some 16), (.load 9 (.tmp 15)), 9, "", #[⟨0, .data⟩], none⟩,
  ⟨(some 17), (.lookup 69 (.tmp 14) (.tmp 16) true), 75, "", #[⟨0, .data⟩], none⟩,
  ⟨(some 10), (.move (.tmp 17)), 75, "", #[], none⟩,
  ⟨(some 18), (.extract (.tmp 10) 0), 3, "", #[], none⟩,
  ⟨(some 19), (.extract (.tmp 10) 1), 4, "", #[], none⟩,
  ⟨(some 4), (.assign (.tmp 18)), 3, "", #[], none⟩,
  ⟨(some 5), (.assign (.tmp 19)), 4, "", #[], none⟩]
def F41.r2 : List Oper := [
  ⟨(some 20), (.move (.tmp 5)), 4, "", #[], none⟩,
  ⟨(some 21), (.move (.tmp 20)), 4, "", #[], none⟩,
  ⟨(some 22), (.fieldAddr 46 (.tmp 3) 1), 0, "", #[], (some (21, false))⟩,
  ⟨(some 23), (.load 9 (.tmp 22)), 9, "", #[⟨0, .data⟩], (some (21, false))⟩,
  ⟨(some 24), (.binOp .eql 9 (.tmp 23) (.const (.string { data := #[] })) 9), 4, "", #[], (some (21, false))⟩,
  ⟨(some 25), (.pick (.tmp 21) (.const (.bool true)) (.tmp 24)), 4, "", #[], none⟩,
  ⟨(some 26), (.call ⟨(.value (.func 38)), #[(.tmp 25), (.const (.int .i64 62))], #[4, 25]⟩), 0, "", #[⟨0, .chain⟩], none⟩]
def F41.r3 : List Oper := [
  ⟨(some 27), (.fieldAddr 46 (.tmp 3) 2), 0, "", #[], none⟩,
  ⟨(some 28), (.load 33 (.tmp 27)), 33, "", #[⟨0, .data⟩], none⟩,
  ⟨(some 29), (.call ⟨(.builtin .len), #[(.tmp 28)], #[33]⟩), 3, "", #[], none⟩,
  ⟨(some 30), (.move (.const (.int .i64 0))), 3, "", #[], none⟩]
def F41.r4 : List Oper := [
  ⟨(some 31), (.binOp .lss 3 (.tmp 30) (.tmp 29) 3), 0, "", #[], none⟩]
def F41.r5 : List Oper := [
  ⟨(some 32), (.indexAddr 33 (.tmp 28) (.tmp 30)), 0, "", #[], none⟩,
  ⟨(some 33), (.load 9 (.tmp 32)), 9, "", #[⟨0, .data⟩], none⟩,
  ⟨(some 7), (.assign (.tmp 33)), 9, "", #[], none⟩]
def F41.r6 : List Oper := [
  ⟨(some 35), (.move (.tmp 0)), 28, "", #[], none⟩,
  ⟨(some 36), (.nilCheck (.tmp 35)), 0, "", #[], none⟩,
  ⟨(some 37), (.fieldAddr 72 (.tmp 36) 1), 0, "", #[], none⟩,
  ⟨(some 38), (.load 69 (.tmp 37)), 69, "", #[⟨0, .data⟩], none⟩,
  ⟨(some 39), (.move (.tmp 7)), 9, "", #[], none⟩,
  ⟨(some 40), (.lookup 69 (.tmp 38) (.tmp 39) true), 75, "", #[⟨0, .data⟩], none⟩,
  ⟨(some 34), (.move (.tmp 40)), 75, "", #[], none⟩,
  ⟨(some 41), (.extract (.tmp 34) 0), 3, "", #[], none⟩,
  ⟨(some 42), (.extract (.tmp 34) 1), 4, "", #[], none⟩,
  ⟨(some 8), (.assign (.tmp 41)), 3, "", #[], none⟩,
  ⟨(some 9), (.assign (.tmp 42)), 4, "", #[], none⟩]
def F41.r7 : List Oper := [
  ⟨(some 43), (.move (.tmp 9)), 4, "", #[], none⟩,
  ⟨(some 44), (.call ⟨(.value (.func 38)), #[(.tmp 43), (.const (.int .i64 62))], #[4, 25]⟩), 0, "", #[⟨0, .chain⟩], none⟩]
def F41.r8 : List Oper := [
  ⟨(some 45), (.binOp .add 3 (.tmp 30) (.const (.int .i64 1)) 3), 3, "", #[], none⟩,
  ⟨(some 30), (.move (.tmp 45)), 3, "", #[], none⟩]
def F41.t8 : Cd := (.region 8 F41.r8.toArray false)
theorem F41.t8_eq {P : Program} {Q : Post} {e : FA} {w : World} {θ : Tag (F41.t8, Q, e, w)} : cwE P F41.t8 Q e w θ = cwE P (.region 8 F41.r8.toArray false) Q e w := rfl
def F41.t5 : Cd := (.seq (.block 1 (.seq (.region 5 F41.r5.toArray false) (.seq (.region 6 F41.r6.toArray false) (.region 7 F41.r7.toArray false)))) F41.t8)
theorem F41.t5_eq {P : Program} {Q : Post} {e : FA} {w : World} {θ : Tag (F41.t5, Q, e, w)} : cwE P F41.t5 Q e w θ = cwE P (.seq (.block 1 (.seq (.region 5 F41.r5.toArray false) (.seq (.region 6 F41.r6.toArray false) (.region 7 F41.r7.toArray false)))) F41.t8) Q e w := rfl
def F41.code : Cd := (.seq (.region 0 F41.r0.toArray false) (.seq (.region 1 F41.r1.toArray true) (.seq (.region 2 F41.r2.toArray false) (.seq (.region 3 F41.r3.toArray false) (.block 0 (.loop (.seq (.region 4 F41.r4.toArray false) (.seq (.cond (.tmp 31) .skip (.exit 0)) F41.t5))))))))
theorem F41.calls {args : Array Value} {w : World} {R : Ending → World → Prop} (hn : args.size ≤ 46) (h : cwE Tryd.prog F41.code (fnP Tryd.prog #[] R) (entry args) w) : Calls Tryd.prog 41 args w R :=
  calls_of_cwE (types := Tryd.prog.types) follows Tryd.func41 F41.code rfl (by kernel_rfl) hn h

def F42.r0 : List Oper := [
  ⟨(some 11), (.load 9 (.tmp 0)), 9, "", #[⟨0, .data⟩], none⟩,
  ⟨(some 12), (.call ⟨(.value (.func 43)), #[(.tmp 11), (.const (.string { data := #[10] }))], #[9, 9]⟩), 33, "", #[⟨0, .chain⟩], none⟩,
  ⟨(some 13), (.call ⟨(.builtin .len), #[(.tmp 12)], #[33]⟩), 3, "", #[], none⟩,
  ⟨(some 14), (.move (.const (.int .i64 0))), 3, "", #[], none⟩]
def F42.r1 : List Oper := [
  ⟨(some 15), (.binOp .lss 3 (.tmp 14) (.tmp 13) 3), 0, "", #[], none⟩]
def F42.r2 : List Oper := [
  ⟨(some 16), (.move (.tmp 14)), 3, "", #[], none⟩,
  ⟨(some 17), (.indexAddr 33 (.tmp 12) (.tmp 14)), 0, "", #[], none⟩,
  ⟨(some 18), (.load 9 (.tmp 17)), 9, "", #[⟨0, .data⟩], none⟩,
  ⟨(some 4), (.assign (.tmp 16)), 3, "", #[], none⟩,
  ⟨(some 5), (.assign (.tmp 18)), 9, "", #[], none⟩]
def F42.r3 : List Oper := [
  ⟨(some 19), (.move (.tmp 4)), 3, "", #[], none⟩,
  ⟨(some 20), (.binOp .add 3 (.tmp 19) (.const (.int .i64 1)) 3), 3, "", #[], none⟩,
  ⟨none, (.store 3 (.tmp 1) (.tmp 20)), 0, "", #[⟨0, .chain⟩], none⟩]
def F42.r4 : List Oper := [
  ⟨(some 21), (.move (.tmp 5)), 9, "", #[], none⟩,
  ⟨(some 22), (.binOp .eql 9 (.tmp 21) (.const (.string { data := #[] })) 9), 4, "", #[], none⟩,
  ⟨(some 23), (.move (.tmp 22)), 4, "", #[], none⟩,
  ⟨(some 24), (.move (.tmp 5)), 9, "", #[], (some (23, false))⟩,
  ⟨(some 25), (.index 9 (.tmp 24) (.const (.int .i64 0))), 5, "", #[], (some (23, false))⟩,
  ⟨(some 26), (.binOp .eql 5 (.tmp 25) (.const (.int .u8 35)) 5), 4, "", #[], (some (23, false))⟩,
  ⟨(some 27), (.pick (.tmp 23) (.const (.bool true)) (.tmp 26)), 4, "", #[], none⟩]
def F42.r5 : List Oper := [
  ⟨(some 28), (.move (.tmp 5)), 9, "", #[], none⟩,
  ⟨(some 29), (.call ⟨(.value (.func 44)), #[(.tmp 28)], #[9]⟩), 46, "", #[⟨0, .chain⟩], none⟩,
  ⟨(some 6), (.alloc 46), 0, "", #[⟨0, .chain⟩], none⟩,
  ⟨none, (.store 46 (.tmp 6) (.tmp 29)), 0, "", #[⟨0, .chain⟩], none⟩]
def F42.r6 : List Oper := [
  ⟨(some 35), (.fieldAddr 46 (.tmp 6) 0), 0, "", #[], none⟩,
  ⟨(some 31), (.load 28 (.tmp 2)), 28, "", #[⟨0, .data⟩], none⟩,
  ⟨(some 32), (.nilCheck (.tmp 31)), 0, "", #[], none⟩,
  ⟨(some 33), (.fieldAddr 72 (.tmp 32) 1), 0, "", #[], none⟩,
  ⟨(some 34), (.load 69 (.tmp 33)), 69, "", #[⟨0, .data⟩], none⟩,
  ⟨(some 36), (.load 9 (.tmp 35)), 9, "", #[⟨0, .data⟩], none⟩,
  ⟨(some 37), (.lookup 69 (.tmp 34) (.tmp 36) true), 75, "", #[⟨0, .data⟩], none⟩,
  ⟨(some 30), (.move (.tmp 37)), 75, "", #[], none⟩,
  ⟨(some 38), (.extract (.tmp 30) 0), 3, "", #[], none⟩,
  ⟨(some 39), (.extract (.tmp 30) 1), 4, "", #[], none⟩,
  ⟨(some 7), (.assign (.tmp 38)), 3, "", #[], none⟩,
  ⟨(some 8), (.assign (.tmp 39)), 4, "", #[], none⟩]
def F42.r7 : List Oper := [
  ⟨(some 40), (.move (.tmp 8)), 4, "", #[], none⟩,
  ⟨(some 41), (.unOp .not 4 (.tmp 40)), 4, "", #[], none⟩,
  ⟨(some 42), (.call ⟨(.value (.func 38)), #[(.tmp 41), (.const (.int .i64 61))], #[4, 25]⟩), 0, "", #[⟨0, .chain⟩], none⟩]
def F42.r8 : List Oper := [
  ⟨(some 43), (.load 46 (.tmp 6)), 46, "", #[⟨0, .data⟩], none⟩,
  ⟨(some 44), (.call ⟨(.value (.func 39)), #[(.tmp 43)], #[46]⟩), 0, "", #[⟨0, .chain⟩], none⟩]
def F42.r9 : List Oper := [
  ⟨(some 45), (.load 28 (.tmp 2)), 28, "", #[⟨0, .data⟩], none⟩,
  ⟨(some 46), (.load 46 (.tmp 6)), 46, "", #[⟨0, .data⟩], none⟩,
  ⟨(some 47), (.call ⟨(.value (.func 40)), #[(.tmp 45), (.tmp 46)], #[28, 46]⟩), 0, "", #[⟨0, .chain⟩], none⟩]
def F42.r10 : List Oper := [
  ⟨(some 48), (.load 61 (.tmp 3)), 61, "", #[⟨0, .data⟩], none⟩,
  ⟨(some 49), (.load 3 (.tmp 1)), 3, "", #[⟨0, .data⟩], none⟩,
  ⟨(some 50), (.buildSlice 61 1 #[(0, (.tmp 49))]), 61, "", #[⟨0, .chain⟩], none⟩,
  ⟨(some 51), (.call ⟨(.builtin .append), #[(.tmp 48), (.tmp 50)], #[61, 61]⟩), 61, "", #[⟨0, .chain⟩], none⟩,
  ⟨none, (.store 61 (.tmp 3) (.tmp 51)), 0, "", #[⟨0, .chain⟩], none⟩]
def F42.r11 : List Oper := [
  ⟨(some 52), (.binOp .add 3 (.tmp 14) (.const (.int .i64 1)) 3), 3, "", #[], none⟩,
  ⟨(some 14), (.move (.tmp 52)), 3, "", #[], none⟩]
def F42.r12 : List Oper := [
  ⟨(some 53), (.load 28 (.tmp 2)), 28, "", #[⟨0, .data⟩], none⟩,
  ⟨(some 54), (.nilCheck (.tmp 53)), 0, "", #[], none⟩,
  ⟨(some 55), (.fieldAddr 72 (.tmp 54) 0), 0, "", #[], none⟩,
  ⟨(some 56), (.load 23 (.tmp 55)), 23, "", #[⟨0, .data⟩], none⟩,
  ⟨(some 57), (.call ⟨(.builtin .len), #[(.tmp 56)], #[23]⟩), 3, "", #[], none⟩,
  ⟨(some 58), (.move (.const (.int .i64 0))), 3, "", #[], none⟩]
def F42.r13 : List Oper := [
  ⟨(some 59), (.binOp .lss 3 (.tmp 58) (.tmp 57) 3), 0, "", #[], none⟩]
def F42.r14 : List Oper := [
  ⟨(some 60), (.move (.tmp 58)), 3, "", #[], none⟩,
  ⟨(some 61), (.indexAddr 23 (.tmp 56) (.tmp 58)), 0, "", #[], none⟩,
  ⟨(some 62), (.load 46 (.tmp 61)), 46, "", #[⟨0, .data⟩], none⟩,
  ⟨(some 10), (.alloc 46), 0, "", #[⟨0, .chain⟩], none⟩,
  ⟨(some 9), (.assign (.tmp 60)), 3, "", #[], none⟩,
  ⟨none, (.store 46 (.tmp 10) (.tmp 62)), 0, "", #[⟨0, .chain⟩], none⟩]
def F42.r15 : List Oper := [
  ⟨(some 63), (.load 61 (.tmp 3)), 61, "", #[⟨0, .data⟩], none⟩,
  ⟨(some 64), (.move (.tmp 9)), 3, "", #[], none⟩,
  ⟨(some 65), (.indexAddr 61 (.tmp 63) (.tmp 64)), 0, "", #[], none⟩,
  ⟨(some 66), (.load 3 (.tmp 65)), 3, "", #[⟨0, .data⟩], none⟩,
  ⟨none, (.store 3 (.tmp 1) (.tmp 66)), 0, "", #[⟨0, .chain⟩], none⟩]
def F42.r16 : List Oper := [
  ⟨(some 67), (.load 28 (.tmp 2)), 28, "", #[⟨0, .data⟩], none⟩,
  ⟨(some 68), (.load 46 (.tmp 10)), 46, "", #[⟨0, .data⟩], none⟩,
  ⟨(some 69), (.call ⟨(.value (.func 41)), #[(.tmp 67), (.tmp 68)], #[28, 46]⟩), 0, "", #[⟨0, .chain⟩], none⟩]
def F42.r17 : List Oper := [
  ⟨(some 70), (.binOp .add 3 (.tmp 58) (.const (.int .i64 1)) 3), 3, "", #[], none⟩,
  ⟨(some 58), (.move (.tmp 70)), 3, "", #[], none⟩]
def F42.r18 : List Oper := [
  ⟨none, (.store 3 (.tmp 1) (.const (.int .i64 0))), 0, "", #[⟨0, .chain⟩], none⟩]
def F42.r19 : List Oper := [
  ⟨(some 71), (.load 28 (.tmp 2)), 28, "", #[⟨0, .data⟩], none⟩,
  ⟨(some 72), (.call ⟨(.value (.func 45)), #[(.tmp 71)], #[28]⟩), 0, "", #[⟨0, .chain⟩], none⟩]
def F42.t5 : Cd := (.seq (.region 5 F42.r5.toArray false) (.seq (.region 6 F42.r6.toArray true) (.seq (.region 7 F42.r7.toArray false) (.seq (.region 8 F42.r8.toArray false) (.seq (.region 9 F42.r9.toArray false) (.region 10 F42.r10.toArray false))))))
theorem F42.t5_eq {P : Program} {Q : Post} {e : FA} {w : World} {θ : Tag (F42.t5, Q, e, w)} : cwE P F42.t5 Q e w θ = cwE P (.seq (.region 5 F42.r5.toArray false) (.seq (.region 6 F42.r6.toArray true) (.seq (.region 7 F42.r7.toArray false) (.seq (.region 8 F42.r8.toArray false) (.seq (.region 9 F42.r9.toArray false) (.region 10 F42.r10.toArray false)))))) Q e w := rfl
def F42.t11 : Cd := (.region 11 F42.r11.toArray false)
theorem F42.t11_eq {P : Program} {Q : Post} {e : FA} {w : World} {θ : Tag (F42.t11, Q, e, w)} : cwE P F42.t11 Q e w θ = cwE P (.region 11 F42.r11.toArray false) Q e w := rfl
def F42.t2 : Cd := (.seq (.block 1 (.seq (.region 2 F42.r2.toArray false) (.seq (.region 3 F42.r3.toArray false) (.seq (.seq (.region 4 F42.r4.toArray false) (.cond (.tmp 27) (.exit 1) .skip)) F42.t5)))) F42.t11)
theorem F42.t2_eq {P : Program} {Q : Post} {e : FA} {w : World} {θ : Tag (F42.t2, Q, e, w)} : cwE P F42.t2 Q e w θ = cwE P (.seq (.block 1 (.seq (.region 2 F42.r2.toArray false) (.seq (.region 3 F42.r3.toArray false) (.seq (.seq (.region 4 F42.r4.toArray false) (.cond (.tmp 27) (.exit 1) .skip)) F42.t5)))) F42.t11) Q e w := rfl
def F42.t17 : Cd := (.region 17 F42.r17.toArray false)
theorem F42.t17_eq {P : Program} {Q : Post} {e : FA} {w : World} {θ : Tag (F42.t17, Q, e, w)} : cwE P F42.t17 Q e w θ = cwE P (.region 17 F42.r17.toArray false) Q e w := rfl
def F42.t14 : Cd := (.seq (.block 3 (.seq (.region 14 F42.r14.toArray false) (.seq (.region 15 F42.r15.toArray false) (.region 16 F42.r16.toArray false)))) F42.t17)
theorem F42.t14_eq {P : Program} {Q : Post} {e : FA} {w : World} {θ : Tag (F42.t14, Q, e, w)} : cwE P F42.t14 Q e w θ = cwE P (.seq (.block 3 (.seq (.region 14 F42.r14.toArray false) (.seq (.region 15 F42.r15.toArray false) (.region 16 F42.r16.toArray false)))) F42.t17) Q e w := rfl
def F42.t18 : Cd := (.seq (.region 18 F42.r18.toArray false) (.region 19 F42.r19.toArray false))
theorem F42.t18_eq {P : Program} {Q : Post} {e : FA} {w : World} {θ : Tag (F42.t18, Q, e, w)} : cwE P F42.t18 Q e w θ = cwE P (.seq (.region 18 F42.r18.toArray false) (.region 19 F42.r19.toArray false)) Q e w := rfl
def F42.t12 : Cd := (.seq (.seq (.region 12 F42.r12.toArray false) (.block 2 (.loop (.seq (.region 13 F42.r13.toArray false) (.seq (.cond (.tmp 59) .skip (.exit 2)) F42.t14))))) F42.t18)
theorem F42.t12_eq {P : Program} {Q : Post} {e : FA} {w : World} {θ : Tag (F42.t12, Q, e, w)} : cwE P F42.t12 Q e w θ = cwE P (.seq (.seq (.region 12 F42.r12.toArray false) (.block 2 (.loop (.seq (.region 13 F42.r13.toArray false) (.seq (.cond (.tmp 59) .skip (.exit 2)) F42.t14))))) F42.t18) Q e w := rfl
def F42.code : Cd := (.seq (.seq (.region 0 F42.r0.toArray false) (.block 0 (.loop (.seq (.region 1 F42.r1.toArray false) (.seq (.cond (.tmp 15) .skip (.exit 0)) F42.t2))))) F42.t12)
theorem F42.calls {args : Array Value} {w : World} {R : Ending → World → Prop} (hn : args.size ≤ 73) (h : cwE Tryd.prog F42.code (fnP Tryd.prog #[] R) (entry args) w) : Calls Tryd.prog 42 args w R :=
  calls_of_cwE (types := Tryd.prog.types) follows Tryd.func42 F42.code rfl (by kernel_rfl) hn h

def F43.r0 : List Oper := [
  ⟨(some 4), (.assign (.const (.slice none 0 0))), 33, "", #[], none⟩]
def F43.r1 : List Oper := [
  ⟨(some 5), (.move (.tmp 0)), 9, "", #[], none⟩,
  ⟨(some 6), (.move (.tmp 1)), 9, "", #[], none⟩,
  ⟨(some 7), (.call ⟨(.value (.func 62)), #[(.tmp 5), (.tmp 6), (.const (.int .i64 0)), (.const (.int .i64 (-1)))], #[9, 9, 3, 3]⟩), 33, "", #[⟨0, .chain⟩], none⟩,
  ⟨(some 4), (.assign (.tmp 7)), 33, "", #[], none⟩]
def F43.code : Cd := (.seq (.region 0 F43.r0.toArray false) (.seq (.region 1 F43.r1.toArray false) .ret))
theorem F43.calls {args : Array Value} {w : World} {R : Ending → World → Prop} (hn : args.size ≤ 8) (h : cwE Tryd.prog F43.code (fnP Tryd.prog #[(.tmp 4)] R) (entry args) w) : Calls Tryd.prog 43 args w R :=
  calls_of_cwE (types := Tryd.prog.types) follows Tryd.func43 F43.code rfl (by kernel_rfl) hn h

def F44.r0 : List Oper := [
  ⟨(some 2), (.alloc 46), 0, "", #[⟨0, .chain⟩], none⟩]
def F44.r1 : List Oper := [
  ⟨(some 5), (.move (.tmp 0)), 9, "", #[], none⟩,
  ⟨(some 6), (.call ⟨(.value (.func 43)), #[(.tmp 5), (.const (.string { data := #[58] }))], #[9, 9]⟩), 33, "", #[⟨0, .chain⟩], none⟩,
  ⟨(some 3), (.assign (.tmp 6)), 33, "", #[], none⟩]
def F44.r2 : List Oper := [
  ⟨(some 7), (.move (.tmp 3)), 33, "", #[], none⟩,
  ⟨(some 8), (.call ⟨(.builtin .len), #[(.tmp 7)], #[33]⟩), 3, "", #[], none⟩,
  ⟨(some 9), (.binOp .eql 3 (.tmp 8) (.const (.int .i64 4)) 3), 4, "", #[], none⟩,
  ⟨(some 10), (.call ⟨(.value (.func 38)), #[(.tmp 9), (.const (.int .i64 60))], #[4, 25]⟩), 0, "", #[⟨0, .chain⟩], none⟩]
def F44.r3 : List Oper := [
  ⟨(some 11), (.move (.tmp 3)), 33, "", #[], none⟩,
  ⟨(some 12), (.indexAddr 33 (.tmp 11) (.const (.int .i64 0))), 0, "", #[], none⟩,
  ⟨(some 14), (.move (.tmp 3)), 33, "", #[], none⟩,
  ⟨(some 15), (.indexAddr 33 (.tmp 14) (.const (.int .i64 1))), 0, "", #[], none⟩,
  ⟨(some 17), (.move (.tmp 3)), 33, "", #[], none⟩,
  ⟨(some 18), (.indexAddr 33 (.tmp 17) (.const (.int .i64 3))), 0, "", #[], none⟩,
  ⟨(some 13), (.load 9 (.tmp 12)), 9, "", #[⟨2048, .data⟩], none⟩,
  ⟨(some 16), (.load 9 (.tmp 15)), 9, "", #[⟨2048, .data⟩], none⟩,
  ⟨(some 19), (.load 9 (.tmp 18)), 9, "", #[⟨2048, .data⟩], none⟩,
  ⟨(some 20), (.build 46 #[(0, (.tmp 13)), (1, (.tmp 16)), (3, (.tmp 19))]), 46, "", #[], none⟩,
  ⟨(some 4), (.alloc 46), 0, "", #[⟨10, .chain⟩], none⟩,
  ⟨none, (.store 46 (.tmp 4) (.tmp 20)), 0, "", #[⟨11, .chain⟩], none⟩]
def F44.r4 : List Oper := [
  ⟨(some 21), (.move (.tmp 3)), 33, "", #[], none⟩,
  ⟨(some 22), (.indexAddr 33 (.tmp 21) (.const (.int .i64 2))), 0, "", #[], none⟩,
  ⟨(some 23), (.load 9 (.tmp 22)), 9, "", #[⟨0, .data⟩], none⟩,
  ⟨(some 24), (.binOp .neq 9 (.tmp 23) (.const (.string { data := #[] })) 9), 4, "", #[], none⟩]
def F44.r5 : List Oper := [
  ⟨(some 25), (.move (.tmp 3)), 33, "", #[], none⟩,
  ⟨(some 26), (.indexAddr 33 (.tmp 25) (.const (.int .i64 2))), 0, "", #[], none⟩,
  ⟨(some 27), (.load 9 (.tmp 26)), 9, "", #[⟨0, .data⟩], none⟩,
  ⟨(some 28), (.call ⟨(.value (.func 43)), #[(.tmp 27), (.const (.string { data := #[44] }))], #[9, 9]⟩), 33, "", #[⟨0, .chain⟩], none⟩,
  ⟨(some 29), (.fieldAddr 46 (.tmp 4) 2), 0, "", #[], none⟩,
  ⟨none, (.store 33 (.tmp 29) (.tmp 28)), 0, "", #[⟨0, .chain⟩], none⟩]
def F44.r6 : List Oper := [
  ⟨(some 30), (.load 46 (.tmp 4)), 46, "", #[⟨0, .data⟩], none⟩,
  ⟨(some 31), (.call ⟨(.value (.func 37)), #[(.tmp 30)], #[46]⟩), 0, "", #[⟨0, .chain⟩], none⟩]
def F44.r7 : List Oper := [
  ⟨(some 32), (.load 46 (.tmp 4)), 46, "", #[⟨0, .data⟩], none⟩,
  ⟨none, (.store 46 (.tmp 2) (.tmp 32)), 0, "", #[⟨0, .chain⟩], none⟩]
def F44.t6 : Cd := (.seq (.region 6 F44.r6.toArray false) (.seq (.region 7 F44.r7.toArray false) .ret))
theorem F44.t6_eq {P : Program} {Q : Post} {e : FA} {w : World} {θ : Tag (F44.t6, Q, e, w)} : cwE P F44.t6 Q e w θ = cwE P (.seq (.region 6 F44.r6.toArray false) (.seq (.region 7 F44.r7.toArray false) .ret)) Q e w := rfl
def F44.code : Cd := (.seq (.region 0 F44.r0.toArray false) (.seq (.region 1 F44.r1.toArray false) (.seq (.region 2 F44.r2.toArray false) (.seq (.region 3 F44.r3.toArray true) (.seq (.seq (.region 4 F44.r4.toArray false) (.cond (.tmp 24) (.region 5 F44.r5.toArray false) .skip)) F44.t6)))))
theorem F44.calls {args : Array Value} {w : World} {R : Ending → World → Prop} (hn : args.size ≤ 33) (h : cwE Tryd.prog F44.code (fnP Tryd.prog #[(.cell 2 46)] R) (entry args) w) : Calls Tryd.prog 44 args w R :=
  calls_of_cwE (types := Tryd.prog.types) follows Tryd.func44 F44.code rfl (by kernel_rfl) hn h

def F45.r0 : List Oper := [
  ⟨(some 6), (.move (.tmp 0)), 28, "", #[], none⟩,
  ⟨(some 7), (.call ⟨(.value (.func 17)), #[(.tmp 6)], #[28]⟩), 9, "", #[⟨0, .chain⟩], none⟩,
  ⟨(some 8), (.call ⟨(.builtin .len), #[(.tmp 7)], #[9]⟩), 3, "", #[], none⟩,
  ⟨(some 9), (.binOp .leq 3 (.tmp 8) (.const (.int .i64 65536)) 3), 4, "", #[], none⟩,
  ⟨(some 10), (.call ⟨(.value (.func 38)), #[(.tmp 9), (.const (.int .i64 1))], #[4, 25]⟩), 0, "", #[⟨0, .chain⟩], none⟩]
def F45.r1 : List Oper := [
  ⟨(some 11), (.move (.tmp 0)), 28, "", #[], none⟩,
  ⟨(some 12), (.makeMap 70 none), 70, "", #[⟨0, .chain⟩], none⟩,
  ⟨(some 13), (.nilCheck (.tmp 11)), 0, "", #[], none⟩,
  ⟨(some 14), (.fieldAddr 72 (.tmp 13) 2), 0, "", #[], none⟩,
  ⟨none, (.store 70 (.tmp 14) (.tmp 12)), 0, "", #[⟨0, .chain⟩], none⟩]
def F45.r2 : List Oper := [
  ⟨(some 15), (.move (.tmp 0)), 28, "", #[], none⟩,
  ⟨(some 16), (.nilCheck (.tmp 15)), 0, "", #[], none⟩,
  ⟨(some 17), (.fieldAddr 72 (.tmp 16) 0), 0, "", #[], none⟩,
  ⟨(some 18), (.load 23 (.tmp 17)), 23, "", #[⟨0, .data⟩], none⟩,
  ⟨(some 19), (.call ⟨(.builtin .len), #[(.tmp 18)], #[23]⟩), 3, "", #[], none⟩,
  ⟨(some 20), (.move (.const (.int .i64 0))), 3, "", #[], none⟩]
def F45.r3 : List Oper := [
  ⟨(some 21), (.binOp .lss 3 (.tmp 20) (.tmp 19) 3), 0, "", #[], none⟩]
def F45.r4 : List Oper := [
  ⟨(some 22), (.move (.tmp 20)), 3, "", #[], none⟩,
  ⟨(some 23), (.indexAddr 23 (.tmp 18) (.tmp 20)), 0, "", #[], none⟩,
  ⟨(some 24), (.load 46 (.tmp 23)), 46, "", #[⟨0, .data⟩], none⟩,
  ⟨(some 3), (.alloc 46), 0, "", #[⟨0, .chain⟩], none⟩,
  ⟨(some 2), (.assign (.tmp 22)), 3, "", #[], none⟩,
  ⟨none, (.store 46 (.tmp 3) (.tmp 24)), 0, "", #[⟨0, .chain⟩], none⟩]
def F45.r5 : List Oper := [
  ⟨(some 25), (.move (.tmp 0)), 28, "", #[], none⟩,
  ⟨(some 26), (.nilCheck (.tmp 25)), 0, "", #[], none⟩,
  ⟨(some 27), (.fieldAddr 72 (.tmp 26) 2), 0, "", #[], none⟩,
  ⟨(some 29), (.fieldAddr 46 (.tmp 3) 0), 0, "", #[], none⟩,
  ⟨(some 31), (.fieldAddr 46 (.tmp 3) 0), 0, "", #[], none⟩,
  ⟨(some 34), (.move (.tmp 2)), 3, "", #[], none⟩,
  ⟨(some 28), (.load 70 (.tmp 27)), 70, "", #[⟨1024, .data⟩], none⟩,
  ⟨(some 30), (.load 9 (.tmp 29)), 9, "", #[⟨1024, .data⟩], none⟩,
  ⟨(some 32), (.load 9 (.tmp 31)), 9, "", #[⟨1024, .data⟩], none⟩,
  ⟨(some 33), (.build 95 #[(0, (.tmp 30)), (1, (.tmp 32))]), 95, "", #[], none⟩,
  ⟨none, (.mapUpdate 70 (.tmp 28) (.tmp 33) (.tmp 34)), 0, "", #[⟨10, .chain⟩], none⟩]
def F45.r6 : List Oper := [
  ⟨(some 35), (.fieldAddr 46 (.tmp 3) 2), 0, "", #[], none⟩,
  ⟨(some 36), (.load 33 (.tmp 35)), 33, "", #[⟨0, .data⟩], none⟩,
  ⟨(some 37), (.call ⟨(.builtin .len), #[(.tmp 36)], #[33]⟩), 3, "", #[], none⟩,
  ⟨(some 38), (.move (.const (.int .i64 0))), 3, "", #[], none⟩]
def F45.r7 : List Oper := [
  ⟨(some 39), (.binOp .lss 3 (.tmp 38) (.tmp 37) 3), 0, "", #[], none⟩]
def F45.r8 : List Oper := [
  ⟨(some 40), (.indexAddr 33 (.tmp 36) (.tmp 38)), 0, "", #[], none⟩,
  ⟨(some 41), (.load 9 (.tmp 40)), 9, "", #[⟨0, .data⟩], none⟩,
  ⟨(some 5), (.assign (.tmp 41)), 9, "", #[], none⟩]
def F45.r9 : List Oper := [
  ⟨(some 42), (.move (.tmp 0)), 28, "", #[], none⟩,
  ⟨(some 43), (.nilCheck (.tmp 42)), 0, "", #[], none⟩,
  ⟨(some 44), (.fieldAddr 72 (.tmp 43) 2), 0, "", #[], none⟩,
  ⟨(some 46), (.move (.tmp 5)), 9, "", #[], none⟩,
  ⟨(some 47), (.fieldAddr 46 (.tmp 3) 0), 0, "", #[], none⟩,
  ⟨(some 50), (.move (.tmp 2)), 3, "", #[], none⟩,
  ⟨(some 45), (.load 70 (.tmp 44)), 70, "", #[⟨512, .data⟩], none⟩,
  ⟨(some 48), (.load 9 (.tmp 47)), 9, "", #[⟨512, .data⟩], none⟩,
  ⟨(some 49), (.build 95 #[(0, (.tmp 46)), (1, (.tmp 48))]), 95, "", #[], none⟩,
  ⟨none, (.mapUpdate 70 (.tmp 45) (.tmp 49) (.tmp 50)), 0, "", #[⟨9, .chain⟩], none⟩]
def F45.r10 : List Oper := [
  ⟨(some 51), (.binOp .add 3 (.tmp 38) (.const (.int .i64 1)) 3), 3, "", #[], none⟩,
  ⟨(some 38), (.move (.tmp 51)), 3, "", #[], none⟩]
def F45.r11 : List Oper := [
  ⟨(some 52), (.binOp .add 3 (.tmp 20) (.const (.int .i64 1)) 3), 3, "", #[], none⟩,
  ⟨(some 20), (.move (.tmp 52)), 3, "", #[], none⟩]
def F45.t10 : Cd := (.region 10 F45.r10.toArray false)
theorem F45.t10_eq {P : Program} {Q : Post} {e : FA} {w : World} {θ : Tag (F45.t10, Q, e, w)} : cwE P F45.t10 Q e w θ = cwE P (.region 10 F45.r10.toArray false) Q e w := rfl
def F45.t8 : Cd := (.seq (.block 3 (.seq (.region 8 F45.r8.toArray false) (.region 9 F45.r9.toArray true))) F45.t10)
theorem F45.t8_eq {P : Program} {Q : Post} {e : FA} {w : World} {θ : Tag (F45.t8, Q, e, w)} : cwE P F45.t8 Q e w θ = cwE P (.seq (.block 3 (.seq (.region 8 F45.r8.toArray false) (.region 9 F45.r9.toArray true))) F45.t10) Q e w := rfl
def F45.t11 : Cd := (.region 11 F45.r11.toArray false)
theorem F45.t11_eq {P : Program} {Q : Post} {e : FA} {w : World} {θ : Tag (F45.t11, Q, e, w)} : cwE P F45.t11 Q e w θ = cwE P (.region 11 F45.r11.toArray false) Q e w := rfl
def F45.t4 : Cd := (.seq (.block 1 (.seq (.region 4 F45.r4.toArray false) (.seq (.region 5 F45.r5.toArray true) (.seq (.region 6 F45.r6.toArray false) (.block 2 (.loop (.seq (.region 7 F45.r7.toArray false) (.seq (.cond (.tmp 39) .skip (.exit 2)) F45.t8)))))))) F45.t11)
theorem F45.t4_eq {P : Program} {Q : Post} {e : FA} {w : World} {θ : Tag (F45.t4, Q, e, w)} : cwE P F45.t4 Q e w θ = cwE P (.seq (.block 1 (.seq (.region 4 F45.r4.toArray false) (.seq (.region 5 F45.r5.toArray true) (.seq (.region 6 F45.r6.toArray false) (.block 2 (.loop (.seq (.region 7 F45.r7.toArray false) (.seq (.cond (.tmp 39) .skip (.exit 2)) F45.t8)))))))) F45.t11) Q e w := rfl
def F45.code : Cd := (.seq (.region 0 F45.r0.toArray false) (.seq (.region 1 F45.r1.toArray false) (.seq (.region 2 F45.r2.toArray false) (.block 0 (.loop (.seq (.region 3 F45.r3.toArray false) (.seq (.cond (.tmp 21) .skip (.exit 0)) F45.t4)))))))
theorem F45.calls {args : Array Value} {w : World} {R : Ending → World → Prop} (hn : args.size ≤ 53) (h : cwE Tryd.prog F45.code (fnP Tryd.prog #[] R) (entry args) w) : Calls Tryd.prog 45 args w R :=
  calls_of_cwE (types := Tryd.prog.types) follows Tryd.func45 F45.code rfl (by kernel_rfl) hn h

def F46.r0 : List Oper := [
  ⟨(some 2), (.assign (.const (.slice none 0 0))), 23, "", #[], none⟩]
def F46.r1 : List Oper := [
  ⟨(some 3), (.assign (.const (.slice none 0 0))), 23, "", #[], none⟩]
def F46.r2 : List Oper := [
  ⟨(some 4), (.assign (.const (.int .i64 0))), 3, "", #[], none⟩]
def F46.r3 : List Oper := [
  ⟨(some 7), (.move (.tmp 4)), 3, "", #[], none⟩,
  ⟨(some 8), (.move (.tmp 0)), 23, "", #[], none⟩,
  ⟨(some 9), (.call ⟨(.builtin .len), #[(.tmp 8)], #[23]⟩), 3, "", #[], none⟩,
  ⟨(some 10), (.binOp .lss 3 (.tmp 7) (.tmp 9) 3), 4, "", #[], none⟩]
def F46.r5 : List Oper := [
  ⟨(some 13), (.move (.tmp 0)), 23, "", #[], none⟩,
  ⟨(some 14), (.move (.tmp 4)), 3, "", #[], none⟩,
  ⟨(some 15), (.indexAddr 23 (.tmp 13) (.tmp 14)), 0, "", #[], none⟩,
  ⟨(some 16), (.load 46 (.tmp 15)), 46, "", #[⟨0, .data⟩], none⟩,
  ⟨(some 5), (.alloc 46), 0, "", #[⟨0, .chain⟩], none⟩,
  ⟨none, (.store 46 (.tmp 5) (.tmp 16)), 0, "", #[⟨0, .chain⟩], none⟩]
def F46.r6 : List Oper := [
  ⟨(some 6), (.assign (.const (.slice none 0 0))), 33, "", #[], none⟩]
def F46.r7 : List Oper := [
  ⟨(some 17), (.move (.tmp 6)), 33, "", #[], none⟩,
  ⟨(some 18), (.move (.tmp 0)), 23, "", #[], none⟩,
  ⟨(some 19), (.move (.tmp 4)), 3, "", #[], none⟩,
  ⟨(some 20), (.indexAddr 23 (.tmp 18) (.tmp 19)), 0, "", #[], none⟩,
  ⟨(some 21), (.fieldAddr 46 (.tmp 20) 2), 0, "", #[], none⟩,
  ⟨(some 22), (.load 33 (.tmp 21)), 33, "", #[⟨0, .data⟩], none⟩,
  ⟨(some 23), (.call ⟨(.builtin .append), #[(.tmp 17), (.tmp 22)], #[33, 33]⟩), 33, "", #[⟨0, .chain⟩], none⟩,
  ⟨(some 24), (.fieldAddr 46 (.tmp 5) 2), 0, "", #[], none⟩,
  ⟨none, (.store 33 (.tmp 24) (.tmp 23)), 0, "", #[⟨0, .chain⟩], none⟩]
def F46.r8 : List Oper := [
  ⟨(some 25), (.move (.tmp 3)), 23, "", #[], none⟩,
  ⟨(some 26), (.load 46 (.tmp 5)), 46, "", #[⟨0, .data⟩], none⟩,
  ⟨(some 27), (.buildSlice 23 1 #[(0, (.tmp 26))]), 23, "", #[⟨0, .chain⟩], none⟩,
  ⟨(some 28), (.call ⟨(.builtin .append), #[(.tmp 25), (.tmp 27)], #[23, 23]⟩), 23, "", #[⟨0, .chain⟩], none⟩,
  ⟨(some 3), (.assign (.tmp 28)), 23, "", #[], none⟩]
def F46.r4 : List Oper := [
  ⟨(some 11), (.move (.tmp 4)), 3, "", #[], none⟩,
  ⟨(some 12), (.binOp .add 3 (.tmp 11) (.const (.int .i64 1)) 3), 3, "", #[], none⟩,
  ⟨(some 4), (.assign (.tmp 12)), 3, "", #[], none⟩]
def F46.r9 : List Oper := [
  ⟨(some 29), (.move (.tmp 3)), 23, "", #[], none⟩,
  ⟨(some 2), (.assign (.tmp 29)), 23, "", #[], none⟩]
def F46.t4 : Cd := (.region 4 F46.r4.toArray false)
theorem F46.t4_eq {P : Program} {Q : Post} {e : FA} {w : World} {θ : Tag (F46.t4, Q, e, w)} : cwE P F46.t4 Q e w θ = cwE P (.region 4 F46.r4.toArray false) Q e w := rfl
def F46.t5 : Cd := (.seq (.block 1 (.seq (.region 5 F46.r5.toArray false) (.seq (.region 6 F46.r6.toArray false) (.seq (.region 7 F46.r7.toArray false) (.region 8 F46.r8.toArray false))))) F46.t4)
theorem F46.t5_eq {P : Program} {Q : Post} {e : FA} {w : World} {θ : Tag (F46.t5, Q, e, w)} : cwE P F46.t5 Q e w θ = cwE P (.seq (.block 1 (.seq (.region 5 F46.r5.toArray false) (.seq (.region 6 F46.r6.toArray false) (.seq (.region 7 F46.r7.toArray false) (.region 8 F46.r8.toArray false))))) F46.t4) Q e w := rfl
def F46.t9 : Cd := (.seq (.region 9 F46.r9.toArray false) .ret)
theorem F46.t9_eq {P : Program} {Q : Post} {e : FA} {w : World} {θ : Tag (F46.t9, Q, e, w)} : cwE P F46.t9 Q e w θ = cwE P (.seq (.region 9 F46.r9.toArray false) .ret) Q e w := rfl
def F46.code : Cd := (.seq (.region 0 F46.r0.toArray false) (.seq (.region 1 F46.r1.toArray false) (.seq (.seq (.region 2 F46.r2.toArray false) (.block 0 (.loop (.seq (.seq (.region 3 F46.r3.toArray false) (.cond (.tmp 10) .skip (.exit 0))) F46.t5)))) F46.t9)))
theorem F46.calls {args : Array Value} {w : World} {R : Ending → World → Prop} (hn : args.size ≤ 30) (h : cwE Tryd.prog F46.code (fnP Tryd.prog #[(.tmp 2)] R) (entry args) w) : Calls Tryd.prog 46 args w R :=
  calls_of_cwE (types := Tryd.prog.types) follows Tryd.func46 F46.code rfl (by kernel_rfl) hn h

def F47.r0 : List Oper := [
  ⟨(some 2), (.box 46 (.tmp 0)), 0, "", #[⟨0, .chain⟩], none⟩,
  ⟨(some 3), (.box 46 (.tmp 1)), 0, "", #[⟨0, .chain⟩], none⟩,
  ⟨(some 4), (.assign (.const (.bool false))), 4, "", #[], none⟩]
def F47.r1 : List Oper := [
  ⟨(some 6), (.fieldAddr 46 (.tmp 2) 2), 0, "", #[], none⟩,
  ⟨(some 7), (.load 33 (.tmp 6)), 33, "", #[⟨0, .data⟩], none⟩,
  ⟨(some 8), (.fieldAddr 46 (.tmp 3) 2), 0, "", #[], none⟩,
  ⟨(some 9), (.load 33 (.tmp 8)), 33, "", #[⟨0, .data⟩], none⟩,
  ⟨(some 10), (.call ⟨(.value (.func 30)), #[(.tmp 7), (.tmp 9)], #[33, 33]⟩), 4, "", #[⟨0, .chain⟩], none⟩,
  ⟨(some 5), (.assign (.tmp 10)), 4, "", #[], none⟩]
def F47.r2 : List Oper := [
  ⟨(some 11), (.move (.tmp 5)), 4, "", #[], none⟩,
  ⟨(some 12), (.move (.tmp 11)), 4, "", #[], none⟩,
  ⟨(some 13), (.fieldAddr 46 (.tmp 2) 0), 0, "", #[], (some (12, true))⟩,
  ⟨(some 14), (.load 9 (.tmp 13)), 9, "", #[⟨0, .data⟩], (some (12, true))⟩,
  ⟨(some 15), (.fieldAddr 46 (.tmp 3) 0), 0, "", #[], (some (12, true))⟩,
  ⟨(some 16), (.load 9 (.tmp 15)), 9, "", #[⟨0, .data⟩], (some (12, true))⟩,
  ⟨(some 17), (.binOp .eql 9 (.tmp 14) (.tmp 16) 9), 4, "", #[], (some (12, true))⟩,
  ⟨(some 18), (.pick (.tmp 12) (.tmp 17) (.const (.bool false))), 4, "", #[], none⟩,
  ⟨(some 19), (.move (.tmp 18)), 4, "", #[], none⟩,
  ⟨(some 20), (.fieldAddr 46 (.tmp 2) 1), 0, "", #[], (some (19, true))⟩,
  ⟨(some 21), (.load 9 (.tmp 20)), 9, "", #[⟨0, .data⟩], (some (19, true))⟩,
  ⟨(some 22), (.fieldAddr 46 (.tmp 3) 1), 0, "", #[], (some (19, true))⟩,
  ⟨(some 23), (.load 9 (.tmp 22)), 9, "", #[⟨0, .data⟩], (some (19, true))⟩,
  ⟨(some 24), (.binOp .eql 9 (.tmp 21) (.tmp 23) 9), 4, "", #[], (some (19, true))⟩,
  ⟨(some 25), (.pick (.tmp 19) (.tmp 24) (.const (.bool false))), 4, "", #[], none⟩,
  ⟨(some 26), (.move (.tmp 25)), 4, "", #[], none⟩,
  ⟨(some 27), (.fieldAddr 46 (.tmp 2) 3), 0, "", #[], (some (26, true))⟩,
  ⟨(some 28), (.load 9 (.tmp 27)), 9, "", #[⟨0, .data⟩], (some (26, true))⟩,
  ⟨(some 29), (.fieldAddr 46 (.tmp 3) 3), 0, "", #[], (some (26, true))⟩,
  ⟨(some 30), (.load 9 (.tmp 29)), 9, "", #[⟨0, .data⟩], (some (26, true))⟩,
  ⟨(some 31), (.binOp .eql 9 (.tmp 28) (.tmp 30) 9), 4, "", #[], (some (26, true))⟩,
  ⟨(some 32), (.pick (.tmp 26) (.tmp 31) (.const (.bool false))), 4, "", #[], none⟩,
  ⟨(some 4), (.assign (.tmp 32)), 4, "", #[], none⟩]
def F47.code : Cd := (.seq (.region 0 F47.r0.toArray false) (.seq (.region 1 F47.r1.toArray false) (.seq (.region 2 F47.r2.toArray false) .ret)))
theorem F47.calls {args : Array Value} {w : World} {R : Ending → World → Prop} (hn : args.size ≤ 33) (h : cwE Tryd.prog F47.code (fnP Tryd.prog #[(.tmp 4)] R) (entry args) w) : Calls Tryd.prog 47 args w R :=
  calls_of_cwE (types := Tryd.prog.types) follows Tryd.func47 F47.code rfl (by kernel_rfl) hn h

def F48.r0 : List Oper := [
  ⟨(some 4), (.assign (.const (.int .i64 0))), 3, "", #[], none⟩,
  ⟨(some 5), (.assign (.const .nilIface)), 86, "", #[], none⟩]
def F48.r1 : List Oper := [
  ⟨(some 6), (.move (.tmp 0)), 81, "", #[], none⟩,
  ⟨(some 7), (.call ⟨(.value (.func 63)), #[(.tmp 6)], #[81]⟩), 0, "", #[⟨0, .chain⟩], none⟩]
def F48.r2 : List Oper := [
  ⟨(some 8), (.move (.tmp 0)), 81, "", #[], none⟩,
  ⟨(some 9), (.move (.tmp 0)), 81, "", #[], none⟩,
  ⟨(some 10), (.nilCheck (.tmp 9)), 0, "", #[], none⟩,
  ⟨(some 11), (.fieldAddr 84 (.tmp 10) 1), 0, "", #[], none⟩,
  ⟨(some 12), (.load 82 (.tmp 11)), 82, "", #[⟨0, .data⟩], none⟩,
  ⟨(some 13), (.move (.tmp 1)), 9, "", #[], none⟩,
  ⟨(some 14), (.call ⟨(.builtin .append), #[(.tmp 12), (.tmp 13)], #[82, 9]⟩), 82, "", #[⟨0, .chain⟩], none⟩,
  ⟨(some 15), (.nilCheck (.tmp 8)), 0, "", #[], none⟩,
  ⟨(some 16), (.fieldAddr 84 (.tmp 15) 1), 0, "", #[], none⟩,
  ⟨none, (.store 82 (.tmp 16) (.tmp 14)), 0, "", #[⟨0, .chain⟩], none⟩]
def F48.r3 : List Oper := [
  ⟨(some 17), (.move (.tmp 1)), 9, "", #[], none⟩,
  ⟨(some 18), (.call ⟨(.builtin .len), #[(.tmp 17)], #[9]⟩), 3, "", #[], none⟩,
  ⟨(some 4), (.assign (.tmp 18)), 3, "", #[], none⟩,
  ⟨(some 5), (.assign (.const .nilIface)), 86, "", #[], none⟩]
def F48.code : Cd := (.seq (.region 0 F48.r0.toArray false) (.seq (.region 1 F48.r1.toArray false) (.seq (.region 2 F48.r2.toArray false) (.seq (.region 3 F48.r3.toArray false) .ret))))
theorem F48.calls {args : Array Value} {w : World} {R : Ending → World → Prop} (hn : args.size ≤ 19) (h : cwE Tryd.prog F48.code (fnP Tryd.prog #[(.tmp 4), (.tmp 5)] R) (entry args) w) : Calls Tryd.prog 48 args w R :=
  calls_of_cwE (types := Tryd.prog.types) follows Tryd.func48 F48.code rfl (by kernel_rfl) hn h

def F49.r0 : List Oper := [
  ⟨(some 1), (.box 46 (.tmp 0)), 0, "", #[⟨0, .chain⟩], none⟩,
  ⟨(some 2), (.assign (.const (.string { data := #[] }))), 9, "", #[], none⟩]
def F49.r1 : List Oper := [
  ⟨(some 3), (.fieldAddr 46 (.tmp 1) 0), 0, "", #[], none⟩,
  ⟨(some 5), (.fieldAddr 46 (.tmp 1) 1), 0, "", #[], none⟩,
  ⟨(some 7), (.fieldAddr 46 (.tmp 1) 2), 0, "", #[], none⟩,
  ⟨(some 10), (.fieldAddr 46 (.tmp 1) 3), 0, "", #[], none⟩,
  ⟨(some 4), (.load 9 (.tmp 3)), 9, "", #[⟨1536, .data⟩], none⟩,
  ⟨(some 6), (.load 9 (.tmp 5)), 9, "", #[⟨1536, .data⟩], none⟩,
  ⟨(some 8), (.load 33 (.tmp 7)), 33, "", #[⟨1600, .data⟩], none⟩,
  ⟨(some 11), (.load 9 (.tmp 10)), 9, "", #[⟨1536, .data⟩], none⟩,
  ⟨(some 9), (.call ⟨(.value (.func 64)), #[(.tmp 8), (.const (.string { data := #[44] }))], #[33, 9]⟩), 9, "", #[⟨6, .chain⟩], none⟩,
  ⟨(some 12), (.buildSlice 33 4 #[(0, (.tmp 4)), (1, (.tmp 6)), (2, (.tmp 9)), (3, (.tmp 11))]), 33, "", #[⟨9, .chain⟩], none⟩,
  ⟨(some 13), (.call ⟨(.value (.func 64)), #[(.tmp 12), (.const (.string { data := #[58] }))], #[33, 9]⟩), 9, "", #[⟨10, .chain⟩], none⟩,
  ⟨(some 14), (.binOp .add 9 (.tmp 13) (.const (.string { data := #[10] })) 9), 9, "", #[], none⟩,
  ⟨(some 2), (.assign (.tmp 14)), 9, "", #[], none⟩]
def F49.code : Cd := (.seq (.region 0 F49.r0.toArray false) (.seq (.region 1 F49.r1.toArray true) .ret))
theorem F49.calls {args : Array Value} {w : World} {R : Ending → World → Prop} (hn : args.size ≤ 15) (h : cwE Tryd.prog F49.code (fnP Tryd.prog #[(.tmp 2)] R) (entry args) w) : Calls Tryd.prog 49 args w R :=
  calls_of_cwE (types := Tryd.prog.types) follows Tryd.func49 F49.code rfl (by kernel_rfl) hn h

def F50.r0 : List Oper := [
  ⟨(some 2), (.assign (.const (.string { data := #[] }))), 9, "", #[], none⟩]
def F50.r1 : List Oper := [
  ⟨(some 3), (.move (.tmp 0)), 81, "", #[], none⟩,
  ⟨(some 4), (.nilCheck (.tmp 3)), 0, "", #[], none⟩,
  ⟨(some 5), (.fieldAddr 84 (.tmp 4) 1), 0, "", #[], none⟩,
  ⟨(some 8), (.move (.tmp 0)), 81, "", #[], none⟩,
  ⟨(some 9), (.nilCheck (.tmp 8)), 0, "", #[], none⟩,
  ⟨(some 10), (.fieldAddr 84 (.tmp 9) 1), 0, "", #[], none⟩,
  ⟨(some 6), (.load 82 (.tmp 5)), 82, "", #[⟨1040, .data⟩], none⟩,
  ⟨(some 11), (.load 82 (.tmp 10)), 82, "", #[⟨1024, .data⟩], none⟩,
  ⟨(some 12), (.call ⟨(.builtin .len), #[(.tmp 11)], #[82]⟩), 3, "", #[], none⟩,
  ⟨(some 7), (.call ⟨(.builtin .unsafeSliceData), #[(.tmp 6)], #[82]⟩), 104, "", #[⟨4, .chain⟩], none⟩,
  ⟨(some 13), (.call ⟨(.builtin .unsafeString), #[(.tmp 7), (.tmp 12)], #[104, 3]⟩), 9, "", #[⟨10, .chain⟩], none⟩,
  ⟨(some 2), (.assign (.tmp 13)), 9, "", #[], none⟩]
def F50.code : Cd := (.seq (.region 0 F50.r0.toArray false) (.seq (.region 1 F50.r1.toArray true) .ret))
theorem F50.calls {args : Array Value} {w : World} {R : Ending → World → Prop} (hn : args.size ≤ 14) (h : cwE Tryd.prog F50.code (fnP Tryd.prog #[(.tmp 2)] R) (entry args) w) : Calls Tryd.prog 50 args w R :=
  calls_of_cwE (types := Tryd.prog.types) follows Tryd.func50 F50.code rfl (by kernel_rfl) hn h

def F51.r0 : List Oper := [
  ⟨(some 5), (.load 28 (.tmp 1)), 28, "", #[⟨0, .data⟩], none⟩,
  ⟨(some 6), (.nilCheck (.tmp 5)), 0, "", #[], none⟩,
  ⟨(some 7), (.fieldAddr 72 (.tmp 6) 0), 0, "", #[], none⟩,
  ⟨(some 8), (.load 23 (.tmp 7)), 23, "", #[⟨0, .data⟩], none⟩,
  ⟨(some 9), (.call ⟨(.builtin .len), #[(.tmp 8)], #[23]⟩), 3, "", #[], none⟩,
  ⟨(some 10), (.move (.const (.int .i64 0))), 3, "", #[], none⟩]
def F51.r1 : List Oper := [
  ⟨(some 11), (.binOp .lss 3 (.tmp 10) (.tmp 9) 3), 0, "", #[], none⟩]
def F51.r2 : List Oper := [
  ⟨(some 12), (.indexAddr 23 (.tmp 8) (.tmp 10)), 0, "", #[], none⟩,
  ⟨(some 13), (.load 46 (.tmp 12)), 46, "", #[⟨0, .data⟩], none⟩,
  ⟨(some 4), (.alloc 46), 0, "", #[⟨0, .chain⟩], none⟩,
  ⟨none, (.store 46 (.tmp 4) (.tmp 13)), 0, "", #[⟨0, .chain⟩], none⟩]
def F51.r3 : List Oper := [
  ⟨(some 14), (.move (.tmp 0)), 90, "", #[], none⟩,
  ⟨(some 15), (.load 46 (.tmp 4)), 46, "", #[⟨0, .data⟩], none⟩,
  ⟨(some 16), (.call ⟨(.value (.func 52)), #[(.tmp 15)], #[46]⟩), 46, "", #[⟨0, .chain⟩], none⟩,
  ⟨(some 17), (.call ⟨(.value (.tmp 14)), #[(.tmp 16)], #[46]⟩), 4, "", #[⟨0, .phase⟩], none⟩,
  ⟨(some 18), (.unOp .not 4 (.tmp 17)), 4, "", #[], none⟩]
def F51.r4 : List Oper := [
  ⟨(some 19), (.binOp .add 3 (.tmp 10) (.const (.int .i64 1)) 3), 3, "", #[], none⟩,
  ⟨(some 10), (.move (.tmp 19)), 3, "", #[], none⟩]
def F51.t4 : Cd := (.region 4 F51.r4.toArray false)
theorem F51.t4_eq {P : Program} {Q : Post} {e : FA} {w : World} {θ : Tag (F51.t4, Q, e, w)} : cwE P F51.t4 Q e w θ = cwE P (.region 4 F51.r4.toArray false) Q e w := rfl
def F51.t2 : Cd := (.seq (.block 1 (.seq (.region 2 F51.r2.toArray false) (.seq (.region 3 F51.r3.toArray false) (.cond (.tmp 18) .ret .skip)))) F51.t4)
theorem F51.t2_eq {P : Program} {Q : Post} {e : FA} {w : World} {θ : Tag (F51.t2, Q, e, w)} : cwE P F51.t2 Q e w θ = cwE P (.seq (.block 1 (.seq (.region 2 F51.r2.toArray false) (.seq (.region 3 F51.r3.toArray false) (.cond (.tmp 18) .ret .skip)))) F51.t4) Q e w := rfl
def F51.code : Cd := (.seq (.region 0 F51.r0.toArray false) (.block 0 (.loop (.seq (.region 1 F51.r1.toArray false) (.seq (.cond (.tmp 11) .skip (.exit 0)) F51.t2)))))
theorem F51.calls {args : Array Value} {w : World} {R : Ending → World → Prop} (hn : args.size ≤ 20) (h : cwE Tryd.prog F51.code (fnP Tryd.prog #[] R) (entry args) w) : Calls Tryd.prog 51 args w R :=
  calls_of_cwE (types := Tryd.prog.types) follows Tryd.func51 F51.code rfl (by kernel_rfl) hn h

def F52.r0 : List Oper := [
  ⟨(some 1), (.box 46 (.tmp 0)), 0, "", #[⟨0, .chain⟩], none⟩,
  ⟨(some 2), (.alloc 46), 0, "", #[⟨0, .chain⟩], none⟩]
def F52.r1 : List Oper := [
  ⟨(some 3), (.fieldAddr 46 (.tmp 1) 2), 0, "", #[], none⟩,
  ⟨(some 4), (.load 33 (.tmp 3)), 33, "", #[⟨0, .data⟩], none⟩,
  ⟨(some 5), (.call ⟨(.value (.func 65)), #[(.tmp 4)], #[33]⟩), 33, "", #[⟨0, .chain⟩], none⟩,
  ⟨(some 6), (.fieldAddr 46 (.tmp 1) 2), 0, "", #[], none⟩,
  ⟨none, (.store 33 (.tmp 6) (.tmp 5)), 0, "", #[⟨0, .chain⟩], none⟩]
def F52.r2 : List Oper := [
  ⟨(some 7), (.load 46 (.tmp 1)), 46, "", #[⟨0, .data⟩], none⟩,
  ⟨none, (.store 46 (.tmp 2) (.tmp 7)), 0, "", #[⟨0, .chain⟩], none⟩]
def F52.code : Cd := (.seq (.region 0 F52.r0.toArray false) (.seq (.region 1 F52.r1.toArray false) (.seq (.region 2 F52.r2.toArray false) .ret)))
theorem F52.calls {args : Array Value} {w : World} {R : Ending → World → Prop} (hn : args.size ≤ 8) (h : cwE Tryd.prog F52.code (fnP Tryd.prog #[(.cell 2 46)] R) (entry args) w) : Calls Tryd.prog 52 args w R :=
  calls_of_cwE (types := Tryd.prog.types) follows Tryd.func52 F52.code rfl (by kernel_rfl) hn h

def F53.r0 : List Oper := [
  ⟨(some 2), (.assign (.const (.string { data := #[] }))), 9, "", #[], none⟩]
def F53.r1 : List Oper := [
  ⟨(some 3), (.move (.tmp 0)), 3, "", #[], none⟩,
  ⟨(some 4), (.binOp .rem 3 (.tmp 3) (.const (.int .i64 26)) 3), 3, "", #[], none⟩,
  ⟨(some 5), (.binOp .add 3 (.const (.int .i64 97)) (.tmp 4) 3), 3, "", #[], none⟩,
  ⟨(some 6), (.convert 3 5 (.tmp 5)), 5, "", #[], none⟩,
  ⟨(some 7), (.move (.tmp 0)), 3, "", #[], none⟩,
  ⟨(some 8), (.binOp .quo 3 (.tmp 7) (.const (.int .i64 26)) 3), 3, "", #[], none⟩,
  ⟨(some 9), (.binOp .rem 3 (.tmp 8) (.const (.int .i64 26)) 3), 3, "", #[], none⟩,
  ⟨(some 10), (.binOp .add 3 (.const (.int .i64 97)) (.tmp 9) 3), 3, "", #[], none⟩,
  ⟨(some 11), (.convert 3 5 (.tmp 10)), 5, "", #[], none⟩,
  ⟨(some 12), (.buildSlice 82 2 #[(0, (.tmp 6)), (1, (.tmp 11))]), 82, "", #[⟨0, .chain⟩], none⟩,
  ⟨(some 13), (.convert 82 9 (.tmp 12)), 9, "", #[⟨0, .data⟩], none⟩,
  ⟨(some 14), (.binOp .add 9 (.const (.string { data := #[117] })) (.tmp 13) 9), 9, "", #[], none⟩,
  ⟨(some 2), (.assign (.tmp 14)), 9, "", #[], none⟩]
def F53.code : Cd := (.seq (.region 0 F53.r0.toArray false) (.seq (.region 1 F53.r1.toArray false) .ret))
theorem F53.calls {args : Array Value} {w : World} {R : Ending → World → Prop} (hn : args.size ≤ 15) (h : cwE Tryd.prog F53.code (fnP Tryd.prog #[(.tmp 2)] R) (entry args) w) : Calls Tryd.prog 53 args w R :=
  calls_of_cwE (types := Tryd.prog.types) follows Tryd.func53 F53.code rfl (by kernel_rfl) hn h

def F54.r0 : List Oper := [
  ⟨(some 3), (.move (.tmp 0)), 33, "", #[], none⟩,
  ⟨(some 4), (.call ⟨(.builtin .len), #[(.tmp 3)], #[33]⟩), 3, "", #[], none⟩,
  ⟨(some 2), (.assign (.tmp 4)), 3, "", #[], none⟩]
def F54.r1 : List Oper := [
  ⟨(some 5), (.move (.tmp 0)), 33, "", #[], none⟩,
  ⟨(some 6), (.move (.tmp 2)), 3, "", #[], none⟩,
  ⟨(some 7), (.move (.tmp 2)), 3, "", #[], none⟩,
  ⟨(some 8), (.convert 3 108 (.tmp 7)), 108, "", #[], none⟩,
  ⟨(some 9), (.call ⟨(.value (.func 67)), #[(.tmp 8)], #[108]⟩), 3, "", #[⟨0, .chain⟩], none⟩,
  ⟨(some 10), (.call ⟨(.value (.func 66)), #[(.tmp 5), (.const (.int .i64 0)), (.tmp 6), (.tmp 9)], #[33, 3, 3, 3]⟩), 0, "", #[⟨0, .chain⟩], none⟩]
def F54.code : Cd := (.seq (.region 0 F54.r0.toArray false) (.region 1 F54.r1.toArray false))
theorem F54.calls {args : Array Value} {w : World} {R : Ending → World → Prop} (hn : args.size ≤ 11) (h : cwE Tryd.prog F54.code (fnP Tryd.prog #[] R) (entry args) w) : Calls Tryd.prog 54 args w R :=
  calls_of_cwE (types := Tryd.prog.types) follows Tryd.func54 F54.code rfl (by kernel_rfl) hn h

def F55.r0 : List Oper := [
  ⟨(some 8), (.load 9 (.tmp 0)), 9, "", #[⟨0, .data⟩], none⟩,
  ⟨(some 9), (.call ⟨(.value (.func 56)), #[(.tmp 8), (.const (.string { data := #[45] }))], #[9, 9]⟩), 96, "", #[⟨0, .chain⟩], none⟩,
  ⟨(some 7), (.move (.tmp 9)), 96, "", #[], none⟩,
  ⟨(some 10), (.extract (.tmp 7) 0), 9, "", #[], none⟩,
  ⟨(some 11), (.extract (.tmp 7) 1), 4, "", #[], none⟩,
  ⟨(some 3), (.assign (.tmp 10)), 9, "", #[], none⟩,
  ⟨(some 4), (.assign (.tmp 11)), 4, "", #[], none⟩]
def F55.r1 : List Oper := [
  ⟨(some 12), (.move (.tmp 4)), 4, "", #[], none⟩,
  ⟨(some 13), (.move (.tmp 12)), 4, "", #[], none⟩,
  ⟨(some 14), (.move (.tmp 3)), 9, "", #[], (some (13, true))⟩,
  ⟨(some 15), (.call ⟨(.value (.func 57)), #[(.tmp 14)], #[9]⟩), 4, "", #[⟨0, .chain⟩], (some (13, true))⟩,
  ⟨(some 16), (.pick (.tmp 13) (.tmp 15) (.const (.bool false))), 4, "", #[], none⟩]
def F55.r2 : List Oper := [
  ⟨(some 17), (.load 28 (.tmp 1)), 28, "", #[⟨0, .data⟩], none⟩,
  ⟨(some 18), (.move (.tmp 3)), 9, "", #[], none⟩,
  ⟨(some 19), (.call ⟨(.value (.func 58)), #[(.tmp 17), (.tmp 18)], #[28, 9]⟩), 28, "", #[⟨0, .chain⟩], none⟩,
  ⟨none, (.store 28 (.tmp 2) (.tmp 19)), 0, "", #[⟨0, .chain⟩], none⟩]
def F55.r3 : List Oper := [
  ⟨(some 20), (.load 28 (.tmp 2)), 28, "", #[⟨0, .data⟩], none⟩,
  ⟨(some 21), (.call ⟨(.value (.func 45)), #[(.tmp 20)], #[28]⟩), 0, "", #[⟨0, .chain⟩], none⟩]
def F55.r4 : List Oper := [
  ⟨(some 22), (.load 9 (.tmp 0)), 9, "", #[⟨0, .data⟩], none⟩,
  ⟨(some 23), (.call ⟨(.value (.func 44)), #[(.tmp 22)], #[9]⟩), 46, "", #[⟨0, .chain⟩], none⟩,
  ⟨(some 5), (.alloc 46), 0, "", #[⟨0, .chain⟩], none⟩,
  ⟨none, (.store 46 (.tmp 5) (.tmp 23)), 0, "", #[⟨0, .chain⟩], none⟩]
def F55.r5 : List Oper := [
  ⟨(some 24), (.fieldAddr 46 (.tmp 5) 0), 0, "", #[], none⟩,
  ⟨(some 25), (.load 9 (.tmp 24)), 9, "", #[⟨0, .data⟩], none⟩,
  ⟨(some 26), (.index 9 (.tmp 25) (.const (.int .i64 0))), 5, "", #[], none⟩,
  ⟨(some 27), (.binOp .neq 5 (.tmp 26) (.const (.int .u8 35)) 5), 4, "", #[], none⟩,
  ⟨(some 28), (.call ⟨(.value (.func 38)), #[(.tmp 27), (.const (.int .i64 60))], #[4, 25]⟩), 0, "", #[⟨0, .chain⟩], none⟩]
def F55.r6 : List Oper := [
  ⟨(some 29), (.load 46 (.tmp 5)), 46, "", #[⟨0, .data⟩], none⟩,
  ⟨(some 30), (.call ⟨(.value (.func 39)), #[(.tmp 29)], #[46]⟩), 0, "", #[⟨0, .chain⟩], none⟩]
def F55.r7 : List Oper := [
  ⟨(some 31), (.load 28 (.tmp 1)), 28, "", #[⟨0, .data⟩], none⟩,
  ⟨(some 32), (.call ⟨(.value (.func 18)), #[(.tmp 31)], #[28]⟩), 42, "", #[⟨0, .chain⟩], none⟩]
def F55.r8 : List Oper := [
  ⟨(some 6), (.alloc 46), 0, "", #[⟨0, .chain⟩], none⟩,
  ⟨none, (.store 46 (.tmp 6) (.tmp 33)), 0, "", #[⟨0, .chain⟩], none⟩]
def F55.r9 : List Oper := [
  ⟨(some 34), (.load 28 (.tmp 2)), 28, "", #[⟨0, .data⟩], none⟩,
  ⟨(some 35), (.load 46 (.tmp 6)), 46, "", #[⟨0, .data⟩], none⟩,
  ⟨(some 36), (.call ⟨(.value (.func 40)), #[(.tmp 34), (.tmp 35)], #[28, 46]⟩), 0, "", #[⟨0, .chain⟩], none⟩]
def F55.r10 : List Oper := [
  ⟨(some 37), (.load 28 (.tmp 2)), 28, "", #[⟨0, .data⟩], none⟩,
  ⟨(some 38), (.load 46 (.tmp 5)), 46, "", #[⟨0, .data⟩], none⟩,
  ⟨(some 39), (.call ⟨(.value (.func 40)), #[(.tmp 37), (.tmp 38)], #[28, 46]⟩), 0, "", #[⟨0, .chain⟩], none⟩]
def F55.r11 : List Oper := [
  ⟨(some 40), (.load 28 (.tmp 2)), 28, "", #[⟨0, .data⟩], none⟩,
  ⟨(some 41), (.load 46 (.tmp 5)), 46, "", #[⟨0, .data⟩], none⟩,
  ⟨(some 42), (.call ⟨(.value (.func 41)), #[(.tmp 40), (.tmp 41)], #[28, 46]⟩), 0, "", #[⟨0, .chain⟩], none⟩]
def F55.r12 : List Oper := [
  ⟨(some 43), (.load 28 (.tmp 2)), 28, "", #[⟨0, .data⟩], none⟩,
  ⟨(some 44), (.call ⟨(.value (.func 45)), #[(.tmp 43)], #[28]⟩), 0, "", #[⟨0, .chain⟩], none⟩]
def F55.a0 : Cd := (.region 8 F55.r8.toArray false)
def F55.b0 : Cd := (.block 1 (.region 9 F55.r9.toArray false))
def F55.t10 : Cd := (.seq (.region 10 F55.r10.toArray false) (.seq (.region 11 F55.r11.toArray false) (.region 12 F55.r12.toArray false)))
theorem F55.t10_eq {P : Program} {Q : Post} {e : FA} {w : World} {θ : Tag (F55.t10, Q, e, w)} : cwE P F55.t10 Q e w θ = cwE P (.seq (.region 10 F55.r10.toArray false) (.seq (.region 11 F55.r11.toArray false) (.region 12 F55.r12.toArray false))) Q e w := rfl
def F55.t4 : Cd := (.seq (.region 4 F55.r4.toArray false) (.seq (.region 5 F55.r5.toArray false) (.seq (.region 6 F55.r6.toArray false) (.seq (.seq (.region 7 F55.r7.toArray false) (.block 0 (.rangeFunc (.tmp 32) #[33] F55.a0 F55.b0))) F55.t10))))
theorem F55.t4_eq {P : Program} {Q : Post} {e : FA} {w : World} {θ : Tag (F55.t4, Q, e, w)} : cwE P F55.t4 Q e w θ = cwE P (.seq (.region 4 F55.r4.toArray false) (.seq (.region 5 F55.r5.toArray false) (.seq (.region 6 F55.r6.toArray false) (.seq (.seq (.region 7 F55.r7.toArray false) (.block 0 (.rangeFunc (.tmp 32) #[33] F55.a0 F55.b0))) F55.t10)))) Q e w := rfl
def F55.code : Cd := (.seq (.seq (.region 0 F55.r0.toArray false) (.seq (.region 1 F55.r1.toArray false) (.cond (.tmp 16) (.seq (.region 2 F55.r2.toArray false) (.seq (.region 3 F55.r3.toArray false) .ret)) .skip))) F55.t4)
theorem F55.calls {args : Array Value} {w : World} {R : Ending → World → Prop} (hn : args.size ≤ 45) (h : cwE Tryd.prog F55.code (fnP Tryd.prog #[] R) (entry args) w) : Calls Tryd.prog 55 args w R :=
  calls_of_cwE (types := Tryd.prog.types) follows Tryd.func55 F55.code rfl (by kernel_rfl) hn h

def F56.r0 : List Oper := [
  ⟨(some 4), (.assign (.const (.string { data := #[] }))), 9, "", #[], none⟩,
  ⟨(some 5), (.assign (.const (.bool false))), 4, "", #[], none⟩]
def F56.r1 : List Oper := [
  ⟨(some 6), (.move (.tmp 0)), 9, "", #[], none⟩,
  ⟨(some 7), (.move (.tmp 1)), 9, "", #[], none⟩,
  ⟨(some 8), (.call ⟨(.value (.func 68)), #[(.tmp 6), (.tmp 7)], #[9, 9]⟩), 96, "", #[⟨0, .chain⟩], none⟩,
  ⟨(some 9), (.extract (.tmp 8) 0), 9, "", #[], none⟩,
  ⟨(some 10), (.extract (.tmp 8) 1), 4, "", #[], none⟩,
  ⟨(some 4), (.assign (.tmp 9)), 9, "", #[], none⟩,
  ⟨(some 5), (.assign (.tmp 10)), 4, "", #[], none⟩]
def F56.code : Cd := (.seq (.region 0 F56.r0.toArray false) (.seq (.region 1 F56.r1.toArray false) .ret))
theorem F56.calls {args : Array Value} {w : World} {R : Ending → World → Prop} (hn : args.size ≤ 11) (h : cwE Tryd.prog F56.code (fnP Tryd.prog #[(.tmp 4), (.tmp 5)] R) (entry args) w) : Calls Tryd.prog 56 args w R :=
  calls_of_cwE (types := Tryd.prog.types) follows Tryd.func56 F56.code rfl (by kernel_rfl) hn h

def F57.r0 : List Oper := [
  ⟨(some 2), (.assign (.const (.bool false))), 4, "", #[], none⟩]
def F57.r1 : List Oper := [
  ⟨(some 5), (.move (.tmp 0)), 9, "", #[], none⟩,
  ⟨(some 6), (.binOp .eql 9 (.tmp 5) (.const (.string { data := #[] })) 9), 4, "", #[], none⟩,
  ⟨(some 7), (.move (.tmp 6)), 4, "", #[], none⟩,
  ⟨(some 8), (.move (.tmp 0)), 9, "", #[], (some (7, false))⟩,
  ⟨(some 9), (.call ⟨(.builtin .len), #[(.tmp 8)], #[9]⟩), 3, "", #[], (some (7, false))⟩,
  ⟨(some 10), (.binOp .gtr 3 (.tmp 9) (.const (.int .i64 32)) 3), 4, "", #[], (some (7, false))⟩,
  ⟨(some 11), (.pick (.tmp 7) (.const (.bool true)) (.tmp 10)), 4, "", #[], none⟩,
  ⟨(some 12), (.move (.tmp 11)), 4, "", #[], none⟩,
  ⟨(some 13), (.move (.tmp 0)), 9, "", #[], (some (12, false))⟩,
  ⟨(some 14), (.call ⟨(.value (.func 69)), #[(.tmp 13)], #[9]⟩), 4, "", #[⟨0, .chain⟩], (some (12, false))⟩,
  ⟨(some 15), (.unOp .not 4 (.tmp 14)), 4, "", #[], (some (12, false))⟩,
  ⟨(some 16), (.pick (.tmp 12) (.const (.bool true)) (.tmp 15)), 4, "", #[], none⟩]
def F57.r2 : List Oper := [
  ⟨(some 2), (.assign (.const (.bool false))), 4, "", #[], none⟩]
def F57.r3 : List Oper := [
  ⟨(some 17), (.move (.tmp 0)), 9, "", #[], none⟩,
  ⟨(some 18), (.range 9 (.tmp 17)), 0, "", #[⟨0, .chain⟩], none⟩]
def F57.r4 : List Oper := [
  ⟨(some 19), (.next (.tmp 18) true), 0, "", #[⟨0, .chain⟩], none⟩,
  ⟨(some 20), (.extract (.tmp 19) 0), 4, "", #[], none⟩]
def F57.r5 : List Oper := [
  ⟨(some 21), (.extract (.tmp 19) 2), 21, "", #[], none⟩,
  ⟨(some 4), (.assign (.tmp 21)), 21, "", #[], none⟩]
def F57.r6 : List Oper := [
  ⟨(some 22), (.move (.tmp 4)), 21, "", #[], none⟩,
  ⟨(some 23), (.binOp .lss 21 (.tmp 22) (.const (.int .i32 33)) 21), 4, "", #[], none⟩,
  ⟨(some 24), (.move (.tmp 23)), 4, "", #[], none⟩,
  ⟨(some 25), (.move (.tmp 4)), 21, "", #[], (some (24, false))⟩,
  ⟨(some 26), (.binOp .eql 21 (.tmp 25) (.const (.int .i32 127)) 21), 4, "", #[], (some (24, false))⟩,
  ⟨(some 27), (.pick (.tmp 24) (.const (.bool true)) (.tmp 26)), 4, "", #[], none⟩,
  ⟨(some 28), (.move (.tmp 27)), 4, "", #[], none⟩,
  ⟨(some 29), (.move (.tmp 4)), 21, "", #[], (some (28, false))⟩,
  ⟨(some 30), (.call ⟨(.value (.func 70)), #[(.const (.string { data := #[58, 44, 35, 47] })), (.tmp 29)], #[9, 21]⟩), 4, "", #[⟨0, .chain⟩], (some (28, false))⟩,
  ⟨(some 31), (.pick (.tmp 28) (.const (.bool true)) (.tmp 30)), 4, "", #[], none⟩]
def F57.r7 : List Oper := [
  ⟨(some 2), (.assign (.const (.bool false))), 4, "", #[], none⟩]
def F57.r8 : List Oper := [
  ⟨(some 2), (.assign (.const (.bool true))), 4, "", #[], none⟩]
def F57.t5 : Cd := (.block 1 (.seq (.region 5 F57.r5.toArray false) (.seq (.region 6 F57.r6.toArray false) (.cond (.tmp 31) (.seq (.region 7 F57.r7.toArray false) .ret) .skip))))
theorem F57.t5_eq {P : Program} {Q : Post} {e : FA} {w : World} {θ : Tag (F57.t5, Q, e, w)} : cwE P F57.t5 Q e w θ = cwE P (.block 1 (.seq (.region 5 F57.r5.toArray false) (.seq (.region 6 F57.r6.toArray false) (.cond (.tmp 31) (.seq (.region 7 F57.r7.toArray false) .ret) .skip)))) Q e w := rfl
def F57.t8 : Cd := (.seq (.region 8 F57.r8.toArray false) .ret)
theorem F57.t8_eq {P : Program} {Q : Post} {e : FA} {w : World} {θ : Tag (F57.t8, Q, e, w)} : cwE P F57.t8 Q e w θ = cwE P (.seq (.region 8 F57.r8.toArray false) .ret) Q e w := rfl
def F57.t3 : Cd := (.seq (.seq (.region 3 F57.r3.toArray false) (.block 0 (.loop (.seq (.region 4 F57.r4.toArray false) (.seq (.cond (.tmp 20) .skip (.exit 0)) F57.t5))))) F57.t8)
theorem F57.t3_eq {P : Program} {Q : Post} {e : FA} {w : World} {θ : Tag (F57.t3, Q, e, w)} : cwE P F57.t3 Q e w θ = cwE P (.seq (.seq (.region 3 F57.r3.toArray false) (.block 0 (.loop (.seq (.region 4 F57.r4.toArray false) (.seq (.cond (.tmp 20) .skip (.exit 0)) F57.t5))))) F57.t8) Q e w := rfl
def F57.code : Cd := (.seq (.region 0 F57.r0.toArray false) (.seq (.seq (.region 1 F57.r1.toArray false) (.cond (.tmp 16) (.seq (.region 2 F57.r2.toArray false) .ret) .skip)) F57.t3))
theorem F57.calls {args : Array Value} {w : World} {R : Ending → World → Prop} (hn : args.size ≤ 32) (h : cwE Tryd.prog F57.code (fnP Tryd.prog #[(.tmp 2)] R) (entry args) w) : Calls Tryd.prog 57 args w R :=
  calls_of_cwE (types := Tryd.prog.types) follows Tryd.func57 F57.code rfl (by kernel_rfl) hn h

def F58.r0 : List Oper := [
  ⟨(some 3), (.box 9 (.tmp 1)), 0, "", #[⟨0, .chain⟩], none⟩,
  ⟨(some 4), (.assign (.const (.pointer none))), 28, "", #[], none⟩]
def F58.r1 : List Oper := [
  ⟨(some 7), (.makeMap 69 none), 69, "", #[⟨0, .chain⟩], none⟩,
  ⟨(some 8), (.build 72 #[(1, (.tmp 7))]), 72, "", #[], none⟩,
  ⟨(some 9), (.box 72 (.tmp 8)), 28, "", #[⟨0, .chain⟩], none⟩,
  ⟨(some 5), (.alloc 28), 0, "", #[⟨0, .chain⟩], none⟩,
  ⟨none, (.store 28 (.tmp 5) (.tmp 9)), 0, "", #[⟨0, .chain⟩], none⟩]
def F58.r2 : List Oper := [
  ⟨(some 10), (.move (.tmp 0)), 28, "", #[], none⟩,
  ⟨(some 11), (.load 9 (.tmp 3)), 9, "", #[⟨0, .data⟩], none⟩,
  ⟨(some 12), (.call ⟨(.value (.func 29)), #[(.tmp 10), (.tmp 11)], #[28, 9]⟩), 4, "", #[⟨0, .chain⟩], none⟩,
  ⟨(some 13), (.call ⟨(.value (.func 38)), #[(.tmp 12), (.const (.int .i64 62))], #[4, 25]⟩), 0, "", #[⟨0, .chain⟩], none⟩]
def F58.r3 : List Oper := [
  ⟨(some 14), (.move (.tmp 0)), 28, "", #[], none⟩,
  ⟨(some 15), (.call ⟨(.value (.func 18)), #[(.tmp 14)], #[28]⟩), 42, "", #[⟨0, .chain⟩], none⟩]
def F58.r4 : List Oper := [
  ⟨(some 6), (.alloc 46), 0, "", #[⟨0, .chain⟩], none⟩,
  ⟨none, (.store 46 (.tmp 6) (.tmp 16)), 0, "", #[⟨0, .chain⟩], none⟩]
def F58.r5 : List Oper := [
  ⟨(some 17), (.fieldAddr 46 (.tmp 6) 0), 0, "", #[], none⟩,
  ⟨(some 18), (.load 9 (.tmp 17)), 9, "", #[⟨0, .data⟩], none⟩,
  ⟨(some 19), (.load 9 (.tmp 3)), 9, "", #[⟨0, .data⟩], none⟩,
  ⟨(some 20), (.binOp .eql 9 (.tmp 18) (.tmp 19) 9), 4, "", #[], none⟩]
def F58.r6 : List Oper := [
  ⟨(some 21), (.fieldAddr 46 (.tmp 6) 1), 0, "", #[], none⟩,
  ⟨(some 22), (.load 9 (.tmp 21)), 9, "", #[⟨0, .data⟩], none⟩,
  ⟨(some 23), (.load 9 (.tmp 3)), 9, "", #[⟨0, .data⟩], none⟩,
  ⟨(some 24), (.binOp .neq 9 (.tmp 22) (.tmp 23) 9), 4, "", #[], none⟩,
  ⟨(some 25), (.move (.tmp 24)), 4, "", #[], none⟩,
  ⟨(some 26), (.fieldAddr 46 (.tmp 6) 2), 0, "", #[], (some (25, true))⟩,
  ⟨(some 27), (.load 33 (.tmp 26)), 33, "", #[⟨0, .data⟩], (some (25, true))⟩,
  ⟨(some 28), (.load 9 (.tmp 3)), 9, "", #[⟨0, .data⟩], (some (25, true))⟩,
  ⟨(some 29), (.call ⟨(.value (.func 61)), #[(.tmp 27), (.tmp 28)], #[33, 9]⟩), 4, "", #[⟨0, .chain⟩], (some (25, true))⟩,
  ⟨(some 30), (.unOp .not 4 (.tmp 29)), 4, "", #[], (some (25, true))⟩,
  ⟨(some 31), (.pick (.tmp 25) (.tmp 30) (.const (.bool false))), 4, "", #[], none⟩,
  ⟨(some 32), (.call ⟨(.value (.func 38)), #[(.tmp 31), (.const (.int .i64 62))], #[4, 25]⟩), 0, "", #[⟨0, .chain⟩], none⟩]
def F58.r7 : List Oper := [
  ⟨(some 33), (.load 28 (.tmp 5)), 28, "", #[⟨0, .data⟩], none⟩,
  ⟨(some 34), (.load 46 (.tmp 6)), 46, "", #[⟨0, .data⟩], none⟩,
  ⟨(some 35), (.call ⟨(.value (.func 40)), #[(.tmp 33), (.tmp 34)], #[28, 46]⟩), 0, "", #[⟨0, .chain⟩], none⟩]
def F58.r8 : List Oper := [
  ⟨(some 36), (.load 28 (.tmp 5)), 28, "", #[⟨0, .data⟩], none⟩,
  ⟨(some 4), (.assign (.tmp 36)), 28, "", #[], none⟩]
def F58.a0 : Cd := (.region 4 F58.r4.toArray false)
def F58.b0 : Cd := (.block 1 (.seq (.seq (.region 5 F58.r5.toArray false) (.cond (.tmp 20) (.exit 1) .skip)) (.seq (.region 6 F58.r6.toArray false) (.region 7 F58.r7.toArray false))))
def F58.t8 : Cd := (.seq (.region 8 F58.r8.toArray false) .ret)
theorem F58.t8_eq {P : Program} {Q : Post} {e : FA} {w : World} {θ : Tag (F58.t8, Q, e, w)} : cwE P F58.t8 Q e w θ = cwE P (.seq (.region 8 F58.r8.toArray false) .ret) Q e w := rfl
def F58.code : Cd := (.seq (.region 0 F58.r0.toArray false) (.seq (.region 1 F58.r1.toArray false) (.seq (.region 2 F58.r2.toArray false) (.seq (.seq (.region 3 F58.r3.toArray false) (.block 0 (.rangeFunc (.tmp 15) #[16] F58.a0 F58.b0))) F58.t8))))
theorem F58.calls {args : Array Value} {w : World} {R : Ending → World → Prop} (hn : args.size ≤ 37) (h : cwE Tryd.prog F58.code (fnP Tryd.prog #[(.tmp 4)] R) (entry args) w) : Calls Tryd.prog 58 args w R :=
  calls_of_cwE (types := Tryd.prog.types) follows Tryd.func58 F58.code rfl (by kernel_rfl) hn h

def F59.r0 : List Oper := [
  ⟨(some 4), (.call ⟨(.builtin .recover), #[], #[]⟩), 20, "", #[⟨0, .chain⟩], none⟩,
  ⟨(some 1), (.assign (.tmp 4)), 20, "", #[], none⟩]
def F59.r1 : List Oper := [
  ⟨(some 5), (.move (.tmp 1)), 20, "", #[], none⟩,
  ⟨(some 6), (.binOp .neq 20 (.tmp 5) (.const .nilIface) 20), 4, "", #[], none⟩]
def F59.r2 : List Oper := [
  ⟨(some 8), (.move (.tmp 1)), 20, "", #[], none⟩,
  ⟨(some 9), (.typeAssert (.tmp 8) 20 100 true), 101, "", #[⟨0, .data⟩], none⟩,
  ⟨(some 7), (.move (.tmp 9)), 101, "", #[], none⟩,
  ⟨(some 10), (.extract (.tmp 7) 0), 100, "", #[], none⟩,
  ⟨(some 11), (.extract (.tmp 7) 1), 4, "", #[], none⟩,
  ⟨(some 2), (.alloc 100), 0, "", #[⟨0, .chain⟩], none⟩,
  ⟨none, (.store 100 (.tmp 2) (.tmp 10)), 0, "", #[⟨0, .chain⟩], none⟩,
  ⟨(some 3), (.assign (.tmp 11)), 4, "", #[], none⟩]
def F59.r3 : List Oper := [
  ⟨(some 12), (.move (.tmp 3)), 4, "", #[], none⟩,
  ⟨(some 13), (.unOp .not 4 (.tmp 12)), 4, "", #[], none⟩]
def F59.r4 : List Oper := [
  ⟨(some 14), (.move (.tmp 1)), 20, "", #[], none⟩,
  ⟨none, (.panic (.tmp 14)), 0, "", #[⟨0, .chain⟩], none⟩]
def F59.r5 : List Oper := [
  ⟨(some 15), (.fieldAddr 100 (.tmp 2) 0), 0, "", #[], none⟩,
  ⟨(some 16), (.load 25 (.tmp 15)), 25, "", #[⟨0, .data⟩], none⟩,
  ⟨none, (.store 25 (.tmp 0) (.tmp 16)), 0, "", #[⟨0, .chain⟩], none⟩]
def F59.t5 : Cd := (.region 5 F59.r5.toArray false)
theorem F59.t5_eq {P : Program} {Q : Post} {e : FA} {w : World} {θ : Tag (F59.t5, Q, e, w)} : cwE P F59.t5 Q e w θ = cwE P (.region 5 F59.r5.toArray false) Q e w := rfl
def F59.code : Cd := (.seq (.region 0 F59.r0.toArray false) (.seq (.region 1 F59.r1.toArray false) (.cond (.tmp 6) (.seq (.region 2 F59.r2.toArray false) (.seq (.seq (.region 3 F59.r3.toArray false) (.cond (.tmp 13) (.region 4 F59.r4.toArray false) .skip)) F59.t5)) .skip)))
theorem F59.calls {args : Array Value} {w : World} {R : Ending → World → Prop} (hn : args.size ≤ 17) (h : cwE Tryd.prog F59.code (fnP Tryd.prog #[] R) (entry args) w) : Calls Tryd.prog 59 args w R :=
  calls_of_cwE (types := Tryd.prog.types) follows Tryd.func59 F59.code rfl (by kernel_rfl) hn h

def F60.r0 : List Oper := [
  ⟨(some 2), (.assign (.const (.bool false))), 4, "", #[], none⟩]
def F60.r1 : List Oper := [
  ⟨(some 4), (.move (.tmp 0)), 9, "", #[], none⟩,
  ⟨(some 5), (.call ⟨(.builtin .len), #[(.tmp 4)], #[9]⟩), 3, "", #[], none⟩,
  ⟨(some 6), (.move (.const (.int .i64 0))), 3, "", #[], none⟩]
def F60.r2 : List Oper := [
  ⟨(some 7), (.binOp .lss 3 (.tmp 6) (.tmp 5) 3), 4, "", #[], none⟩]
def F60.r3 : List Oper := [
  ⟨(some 8), (.move (.tmp 6)), 3, "", #[], none⟩,
  ⟨(some 3), (.assign (.tmp 8)), 3, "", #[], none⟩]
def F60.r4 : List Oper := [
  ⟨(some 9), (.move (.tmp 0)), 9, "", #[], none⟩,
  ⟨(some 10), (.move (.tmp 3)), 3, "", #[], none⟩,
  ⟨(some 11), (.index 9 (.tmp 9) (.tmp 10)), 5, "", #[], none⟩,
  ⟨(some 12), (.binOp .lss 5 (.tmp 11) (.const (.int .u8 33)) 5), 4, "", #[], none⟩,
  ⟨(some 13), (.move (.tmp 12)), 4, "", #[], none⟩,
  ⟨(some 14), (.move (.tmp 0)), 9, "", #[], (some (13, false))⟩,
  ⟨(some 15), (.move (.tmp 3)), 3, "", #[], (some (13, false))⟩,
  ⟨(some 16), (.index 9 (.tmp 14) (.tmp 15)), 5, "", #[], (some (13, false))⟩,
  ⟨(some 17), (.binOp .gtr 5 (.tmp 16) (.const (.int .u8 126)) 5), 4, "", #[], (some (13, false))⟩,
  ⟨(some 18), (.pick (.tmp 13) (.const (.bool true)) (.tmp 17)), 4, "", #[], none⟩,
  ⟨(some 19), (.move (.tmp 18)), 4, "", #[], none⟩,
  ⟨(some 20), (.move (.tmp 0)), 9, "", #[], (some (19, false))⟩,
  ⟨(some 21), (.move (.tmp 3)), 3, "", #[], (some (19, false))⟩,
  ⟨(some 22), (.index 9 (.tmp 20) (.tmp 21)), 5, "", #[], (some (19, false))⟩,
  ⟨(some 23), (.binOp .eql 5 (.tmp 22) (.const (.int .u8 58)) 5), 4, "", #[], (some (19, false))⟩,
  ⟨(some 24), (.pick (.tmp 19) (.const (.bool true)) (.tmp 23)), 4, "", #[], none⟩]
def F60.r5 : List Oper := [
  ⟨(some 2), (.assign (.const (.bool false))), 4, "", #[], none⟩]
def F60.r6 : List Oper := [
  ⟨(some 25), (.binOp .add 3 (.tmp 6) (.const (.int .i64 1)) 3), 3, "", #[], none⟩,
  ⟨(some 6), (.move (.tmp 25)), 3, "", #[], none⟩]
def F60.r7 : List Oper := [
  ⟨(some 26), (.move (.tmp 0)), 9, "", #[], none⟩,
  ⟨(some 27), (.call ⟨(.builtin .len), #[(.tmp 26)], #[9]⟩), 3, "", #[], none⟩,
  ⟨(some 28), (.binOp .leq 3 (.tmp 27) (.const (.int .i64 32)) 3), 4, "", #[], none⟩,
  ⟨(some 2), (.assign (.tmp 28)), 4, "", #[], none⟩]
def F60.t6 : Cd := (.region 6 F60.r6.toArray false)
theorem F60.t6_eq {P : Program} {Q : Post} {e : FA} {w : World} {θ : Tag (F60.t6, Q, e, w)} : cwE P F60.t6 Q e w θ = cwE P (.region 6 F60.r6.toArray false) Q e w := rfl
def F60.t3 : Cd := (.seq (.block 1 (.seq (.region 3 F60.r3.toArray false) (.seq (.region 4 F60.r4.toArray false) (.cond (.tmp 24) (.seq (.region 5 F60.r5.toArray false) .ret) .skip)))) F60.t6)
theorem F60.t3_eq {P : Program} {Q : Post} {e : FA} {w : World} {θ : Tag (F60.t3, Q, e, w)} : cwE P F60.t3 Q e w θ = cwE P (.seq (.block 1 (.seq (.region 3 F60.r3.toArray false) (.seq (.region 4 F60.r4.toArray false) (.cond (.tmp 24) (.seq (.region 5 F60.r5.toArray false) .ret) .skip)))) F60.t6) Q e w := rfl
def F60.t7 : Cd := (.seq (.region 7 F60.r7.toArray false) .ret)
theorem F60.t7_eq {P : Program} {Q : Post} {e : FA} {w : World} {θ : Tag (F60.t7, Q, e, w)} : cwE P F60.t7 Q e w θ = cwE P (.seq (.region 7 F60.r7.toArray false) .ret) Q e w := rfl
def F60.code : Cd := (.seq (.region 0 F60.r0.toArray false) (.seq (.seq (.region 1 F60.r1.toArray false) (.block 0 (.loop (.seq (.region 2 F60.r2.toArray false) (.seq (.cond (.tmp 7) .skip (.exit 0)) F60.t3))))) F60.t7))
theorem F60.calls {args : Array Value} {w : World} {R : Ending → World → Prop} (hn : args.size ≤ 29) (h : cwE Tryd.prog F60.code (fnP Tryd.prog #[(.tmp 2)] R) (entry args) w) : Calls Tryd.prog 60 args w R :=
  calls_of_cwE (types := Tryd.prog.types) follows Tryd.func60 F60.code rfl (by kernel_rfl) hn h

def F61.r0 : List Oper := [
  ⟨(some 4), (.assign (.const (.bool false))), 4, "", #[], none⟩]
def F61.r1 : List Oper := [
  ⟨(some 5), (.move (.tmp 0)), 33, "", #[], none⟩,
  ⟨(some 6), (.move (.tmp 1)), 9, "", #[], none⟩,
  ⟨(some 7), (.call ⟨(.value (.func 71)), #[(.tmp 5), (.tmp 6)], #[33, 9]⟩), 3, "", #[⟨0, .chain⟩], none⟩,
  ⟨(some 8), (.binOp .geq 3 (.tmp 7) (.const (.int .i64 0)) 3), 4, "", #[], none⟩,
  ⟨(some 4), (.assign (.tmp 8)), 4, "", #[], none⟩]
def F61.code : Cd := (.seq (.region 0 F61.r0.toArray false) (.seq (.region 1 F61.r1.toArray false) .ret))
theorem F61.calls {args : Array Value} {w : World} {R : Ending → World → Prop} (hn : args.size ≤ 9) (h : cwE Tryd.prog F61.code (fnP Tryd.prog #[(.tmp 4)] R) (entry args) w) : Calls Tryd.prog 61 args w R :=
  calls_of_cwE (types := Tryd.prog.types) follows Tryd.func61 F61.code rfl (by kernel_rfl) hn h

def F65.r0 : List Oper := [
  ⟨(some 2), (.assign (.const (.slice none 0 0))), 33, "", #[], none⟩]
def F65.r1 : List Oper := [
  ⟨(some 3), (.move (.tmp 0)), 33, "", #[], none⟩,
  ⟨(some 4), (.binOp .eql 33 (.tmp 3) (.const (.slice none 0 0)) 33), 4, "", #[], none⟩]
def F65.r2 : List Oper := [
  ⟨(some 2), (.assign (.const (.slice none 0 0))), 33, "", #[], none⟩]
def F65.r3 : List Oper := [
  ⟨(some 5), (.buildSlice 33 0 #[]), 33, "", #[⟨0, .chain⟩], none⟩,
  ⟨(some 6), (.move (.tmp 0)), 33, "", #[], none⟩,
  ⟨(some 7), (.call ⟨(.builtin .append), #[(.tmp 5), (.tmp 6)], #[33, 33]⟩), 33, "", #[⟨0, .chain⟩], none⟩,
  ⟨(some 2), (.assign (.tmp 7)), 33, "", #[], none⟩]
def F65.t3 : Cd := (.seq (.region 3 F65.r3.toArray false) .ret)
theorem F65.t3_eq {P : Program} {Q : Post} {e : FA} {w : World} {θ : Tag (F65.t3, Q, e, w)} : cwE P F65.t3 Q e w θ = cwE P (.seq (.region 3 F65.r3.toArray false) .ret) Q e w := rfl
def F65.code : Cd := (.seq (.region 0 F65.r0.toArray false) (.seq (.seq (.region 1 F65.r1.toArray false) (.cond (.tmp 4) (.seq (.region 2 F65.r2.toArray false) .ret) .skip)) F65.t3))
theorem F65.calls {args : Array Value} {w : World} {R : Ending → World → Prop} (hn : args.size ≤ 8) (h : cwE Tryd.prog F65.code (fnP Tryd.prog #[(.tmp 2)] R) (entry args) w) : Calls Tryd.prog 65 args w R :=
  calls_of_cwE (types := Tryd.prog.types) follows Tryd.func65 F65.code rfl (by kernel_rfl) hn h

def F68.r0 : List Oper := [
  ⟨(some 4), (.assign (.const (.string { data := #[] }))), 9, "", #[], none⟩,
  ⟨(some 5), (.assign (.const (.bool false))), 4, "", #[], none⟩]
def F68.r1 : List Oper := [
  ⟨(some 6), (.move (.tmp 0)), 9, "", #[], none⟩,
  ⟨(some 7), (.move (.tmp 1)), 9, "", #[], none⟩,
  ⟨(some 8), (.call ⟨(.value (.func 88)), #[(.tmp 6), (.tmp 7)], #[9, 9]⟩), 4, "", #[⟨0, .chain⟩], none⟩,
  ⟨(some 9), (.unOp .not 4 (.tmp 8)), 4, "", #[], none⟩]
def F68.r2 : List Oper := [
  ⟨(some 10), (.move (.tmp 0)), 9, "", #[], none⟩,
  ⟨(some 4), (.assign (.tmp 10)), 9, "", #[], none⟩,
  ⟨(some 5), (.assign (.const (.bool false))), 4, "", #[], none⟩]
def F68.r3 : List Oper := [
  ⟨(some 11), (.move (.tmp 0)), 9, "", #[], none⟩,
  ⟨(some 12), (.move (.tmp 1)), 9, "", #[], none⟩,
  ⟨(some 13), (.call ⟨(.builtin .len), #[(.tmp 12)], #[9]⟩), 3, "", #[], none⟩,
  ⟨(some 14), (.slice 9 (.tmp 11) (some (.tmp 13)) none none), 9, "", #[], none⟩,
  ⟨(some 4), (.assign (.tmp 14)), 9, "", #[], none⟩,
  ⟨(some 5), (.assign (.const (.bool true))), 4, "", #[], none⟩]
def F68.t3 : Cd := (.seq (.region 3 F68.r3.toArray false) .ret)
theorem F68.t3_eq {P : Program} {Q : Post} {e : FA} {w : World} {θ : Tag (F68.t3, Q, e, w)} : cwE P F68.t3 Q e w θ = cwE P (.seq (.region 3 F68.r3.toArray false) .ret) Q e w := rfl
def F68.code : Cd := (.seq (.region 0 F68.r0.toArray false) (.seq (.seq (.region 1 F68.r1.toArray false) (.cond (.tmp 9) (.seq (.region 2 F68.r2.toArray false) .ret) .skip)) F68.t3))
theorem F68.calls {args : Array Value} {w : World} {R : Ending → World → Prop} (hn : args.size ≤ 15) (h : cwE Tryd.prog F68.code (fnP Tryd.prog #[(.tmp 4), (.tmp 5)] R) (entry args) w) : Calls Tryd.prog 68 args w R :=
  calls_of_cwE (types := Tryd.prog.types) follows Tryd.func68 F68.code rfl (by kernel_rfl) hn h

def F69.r0 : List Oper := [
  ⟨(some 2), (.assign (.const (.bool false))), 4, "", #[], none⟩]
def F69.r1 : List Oper := [
  ⟨(some 3), (.move (.tmp 0)), 9, "", #[], none⟩,
  ⟨(some 4), (.call ⟨(.value (.func 89)), #[(.tmp 3)], #[9]⟩), 3, "", #[⟨0, .chain⟩], none⟩,
  ⟨(some 5), (.binOp .lss 3 (.tmp 4) (.const (.int .i64 0)) 3), 4, "", #[], none⟩,
  ⟨(some 2), (.assign (.tmp 5)), 4, "", #[], none⟩]
def F69.code : Cd := (.seq (.region 0 F69.r0.toArray false) (.seq (.region 1 F69.r1.toArray false) .ret))
theorem F69.calls {args : Array Value} {w : World} {R : Ending → World → Prop} (hn : args.size ≤ 6) (h : cwE Tryd.prog F69.code (fnP Tryd.prog #[(.tmp 2)] R) (entry args) w) : Calls Tryd.prog 69 args w R :=
  calls_of_cwE (types := Tryd.prog.types) follows Tryd.func69 F69.code rfl (by kernel_rfl) hn h

def F70.r0 : List Oper := [
  ⟨(some 4), (.assign (.const (.bool false))), 4, "", #[], none⟩]
def F70.r1 : List Oper := [
  ⟨(some 5), (.move (.tmp 0)), 9, "", #[], none⟩,
  ⟨(some 6), (.move (.tmp 1)), 21, "", #[], none⟩,
  ⟨(some 7), (.call ⟨(.value (.func 90)), #[(.tmp 5), (.tmp 6)], #[9, 21]⟩), 3, "", #[⟨0, .chain⟩], none⟩,
  ⟨(some 8), (.binOp .geq 3 (.tmp 7) (.const (.int .i64 0)) 3), 4, "", #[], none⟩,
  ⟨(some 4), (.assign (.tmp 8)), 4, "", #[], none⟩]
def F70.code : Cd := (.seq (.region 0 F70.r0.toArray false) (.seq (.region 1 F70.r1.toArray false) .ret))
theorem F70.calls {args : Array Value} {w : World} {R : Ending → World → Prop} (hn : args.size ≤ 9) (h : cwE Tryd.prog F70.code (fnP Tryd.prog #[(.tmp 4)] R) (entry args) w) : Calls Tryd.prog 70 args w R :=
  calls_of_cwE (types := Tryd.prog.types) follows Tryd.func70 F70.code rfl (by kernel_rfl) hn h

def F71.r0 : List Oper := [
  ⟨(some 4), (.assign (.const (.int .i64 0))), 3, "", #[], none⟩]
def F71.r1 : List Oper := [
  ⟨(some 6), (.move (.tmp 0)), 33, "", #[], none⟩,
  ⟨(some 7), (.call ⟨(.builtin .len), #[(.tmp 6)], #[33]⟩), 3, "", #[], none⟩,
  ⟨(some 8), (.move (.const (.int .i64 0))), 3, "", #[], none⟩]
def F71.r2 : List Oper := [
  ⟨(some 9), (.binOp .lss 3 (.tmp 8) (.tmp 7) 3), 0, "", #[], none⟩]
def F71.r3 : List Oper := [
  ⟨(some 10), (.move (.tmp 8)), 3, "", #[], none⟩,
  ⟨(some 5), (.assign (.tmp 10)), 3, "", #[], none⟩]
def F71.r4 : List Oper := [
  ⟨(some 11), (.move (.tmp 1)), 9, "", #[], none⟩,
  ⟨(some 12), (.move (.tmp 0)), 33, "", #[], none⟩,
  ⟨(some 13), (.move (.tmp 5)), 3, "", #[], none⟩,
  ⟨(some 14), (.indexAddr 33 (.tmp 12) (.tmp 13)), 0, "", #[], none⟩,
  ⟨(some 15), (.load 9 (.tmp 14)), 9, "", #[⟨0, .data⟩], none⟩,
  ⟨(some 16), (.binOp .eql 9 (.tmp 11) (.tmp 15) 9), 4, "", #[], none⟩]
def F71.r5 : List Oper := [
  ⟨(some 17), (.move (.tmp 5)), 3, "", #[], none⟩,
  ⟨(some 4), (.assign (.tmp 17)), 3, "", #[], none⟩]
def F71.r6 : List Oper := [
  ⟨(some 18), (.binOp .add 3 (.tmp 8) (.const (.int .i64 1)) 3), 3, "", #[], none⟩,
  ⟨(some 8), (.move (.tmp 18)), 3, "", #[], none⟩]
def F71.r7 : List Oper := [
  ⟨(some 4), (.assign (.const (.int .i64 (-1)))), 3, "", #[], none⟩]
def F71.t6 : Cd := (.region 6 F71.r6.toArray false)
theorem F71.t6_eq {P : Program} {Q : Post} {e : FA} {w : World} {θ : Tag (F71.t6, Q, e, w)} : cwE P F71.t6 Q e w θ = cwE P (.region 6 F71.r6.toArray false) Q e w := rfl
def F71.t3 : Cd := (.seq (.block 1 (.seq (.region 3 F71.r3.toArray false) (.seq (.region 4 F71.r4.toArray false) (.cond (.tmp 16) (.seq (.region 5 F71.r5.toArray false) .ret) .skip)))) F71.t6)
theorem F71.t3_eq {P : Program} {Q : Post} {e : FA} {w : World} {θ : Tag (F71.t3, Q, e, w)} : cwE P F71.t3 Q e w θ = cwE P (.seq (.block 1 (.seq (.region 3 F71.r3.toArray false) (.seq (.region 4 F71.r4.toArray false) (.cond (.tmp 16) (.seq (.region 5 F71.r5.toArray false) .ret) .skip)))) F71.t6) Q e w := rfl
def F71.t7 : Cd := (.seq (.region 7 F71.r7.toArray false) .ret)
theorem F71.t7_eq {P : Program} {Q : Post} {e : FA} {w : World} {θ : Tag (F71.t7, Q, e, w)} : cwE P F71.t7 Q e w θ = cwE P (.seq (.region 7 F71.r7.toArray false) .ret) Q e w := rfl
def F71.code : Cd := (.seq (.region 0 F71.r0.toArray false) (.seq (.seq (.region 1 F71.r1.toArray false) (.block 0 (.loop (.seq (.region 2 F71.r2.toArray false) (.seq (.cond (.tmp 9) .skip (.exit 0)) F71.t3))))) F71.t7))
theorem F71.calls {args : Array Value} {w : World} {R : Ending → World → Prop} (hn : args.size ≤ 19) (h : cwE Tryd.prog F71.code (fnP Tryd.prog #[(.tmp 4)] R) (entry args) w) : Calls Tryd.prog 71 args w R :=
  calls_of_cwE (types := Tryd.prog.types) follows Tryd.func71 F71.code rfl (by kernel_rfl) hn h

def F88.r0 : List Oper := [
  ⟨(some 4), (.assign (.const (.bool false))), 4, "", #[], none⟩]
def F88.r1 : List Oper := [
  ⟨(some 5), (.move (.tmp 0)), 9, "", #[], none⟩,
  ⟨(some 6), (.call ⟨(.builtin .len), #[(.tmp 5)], #[9]⟩), 3, "", #[], none⟩,
  ⟨(some 7), (.move (.tmp 1)), 9, "", #[], none⟩,
  ⟨(some 8), (.call ⟨(.builtin .len), #[(.tmp 7)], #[9]⟩), 3, "", #[], none⟩,
  ⟨(some 9), (.binOp .geq 3 (.tmp 6) (.tmp 8) 3), 4, "", #[], none⟩,
  ⟨(some 10), (.move (.tmp 9)), 4, "", #[], none⟩,
  ⟨(some 11), (.move (.tmp 0)), 9, "", #[], (some (10, true))⟩,
  ⟨(some 12), (.move (.tmp 1)), 9, "", #[], (some (10, true))⟩,
  ⟨(some 13), (.call ⟨(.builtin .len), #[(.tmp 12)], #[9]⟩), 3, "", #[], (some (10, true))⟩,
  ⟨(some 14), (.slice 9 (.tmp 11) none (some (.tmp 13)) none), 9, "", #[], (some (10, true))⟩,
  ⟨(some 15), (.move (.tmp 1)), 9, "", #[], (some (10, true))⟩,
  ⟨(some 16), (.binOp .eql 9 (.tmp 14) (.tmp 15) 9), 4, "", #[], (some (10, true))⟩,
  ⟨(some 17), (.pick (.tmp 10) (.tmp 16) (.const (.bool false))), 4, "", #[], none⟩,
  ⟨(some 4), (.assign (.tmp 17)), 4, "", #[], none⟩]
def F88.code : Cd := (.seq (.region 0 F88.r0.toArray false) (.seq (.region 1 F88.r1.toArray false) .ret))
theorem F88.calls {args : Array Value} {w : World} {R : Ending → World → Prop} (hn : args.size ≤ 18) (h : cwE Tryd.prog F88.code (fnP Tryd.prog #[(.tmp 4)] R) (entry args) w) : Calls Tryd.prog 88 args w R :=
  calls_of_cwE (types := Tryd.prog.types) follows Tryd.func88 F88.code rfl (by kernel_rfl) hn h

def F89.r0 : List Oper := [
  ⟨(some 2), (.assign (.const (.int .i64 0))), 3, "", #[], none⟩]
def F89.r1 : List Oper := [
  ⟨(some 7), (.move (.tmp 0)), 9, "", #[], none⟩,
  ⟨(some 8), (.range 9 (.tmp 7)), 0, "", #[⟨0, .chain⟩], none⟩]
def F89.r2 : List Oper := [
  ⟨(some 9), (.next (.tmp 8) true), 0, "", #[⟨0, .chain⟩], none⟩,
  ⟨(some 10), (.extract (.tmp 9) 0), 4, "", #[], none⟩]
def F89.r3 : List Oper := [
  ⟨(some 11), (.extract (.tmp 9) 1), 3, "", #[], none⟩,
  ⟨(some 12), (.extract (.tmp 9) 2), 21, "", #[], none⟩,
  ⟨(some 3), (.assign (.tmp 11)), 3, "", #[], none⟩,
  ⟨(some 4), (.assign (.tmp 12)), 21, "", #[], none⟩]
def F89.r4 : List Oper := [
  ⟨(some 13), (.move (.tmp 4)), 21, "", #[], none⟩,
  ⟨(some 14), (.binOp .eql 21 (.tmp 13) (.const (.int .i32 0)) 21), 4, "", #[], none⟩]
def F89.r5 : List Oper := [
  ⟨(some 15), (.move (.tmp 3)), 3, "", #[], none⟩,
  ⟨(some 2), (.assign (.tmp 15)), 3, "", #[], none⟩]
def F89.r6 : List Oper := [
  ⟨(some 16), (.move (.tmp 4)), 21, "", #[], none⟩,
  ⟨(some 17), (.binOp .eql 21 (.tmp 16) (.const (.int .i32 65533)) 21), 4, "", #[], none⟩]
def F89.r7 : List Oper := [
  ⟨(some 19), (.move (.tmp 0)), 9, "", #[], none⟩,
  ⟨(some 20), (.move (.tmp 3)), 3, "", #[], none⟩,
  ⟨(some 21), (.slice 9 (.tmp 19) (some (.tmp 20)) none none), 9, "", #[], none⟩,
  ⟨(some 22), (.call ⟨(.value (.func 92)), #[(.tmp 21)], #[9]⟩), 129, "", #[⟨0, .chain⟩], none⟩,
  ⟨(some 18), (.move (.tmp 22)), 129, "", #[], none⟩,
  ⟨(some 23), (.extract (.tmp 18) 0), 21, "", #[], none⟩,
  ⟨(some 24), (.extract (.tmp 18) 1), 3, "", #[], none⟩,
  ⟨(some 5), (.assign (.tmp 23)), 21, "", #[], none⟩,
  ⟨(some 6), (.assign (.tmp 24)), 3, "", #[], none⟩]
def F89.r8 : List Oper := [
  ⟨(some 25), (.move (.tmp 6)), 3, "", #[], none⟩,
  ⟨(some 26), (.binOp .eql 3 (.tmp 25) (.const (.int .i64 1)) 3), 4, "", #[], none⟩]
def F89.r9 : List Oper := [
  ⟨(some 27), (.move (.tmp 3)), 3, "", #[], none⟩,
  ⟨(some 2), (.assign (.tmp 27)), 3, "", #[], none⟩]
def F89.r10 : List Oper := [
  ⟨(some 2), (.assign (.const (.int .i64 (-1)))), 3, "", #[], none⟩]
def F89.t6 : Cd := (.seq (.region 6 F89.r6.toArray false) (.cond (.tmp 17) (.seq (.region 7 F89.r7.toArray false) (.seq (.region 8 F89.r8.toArray false) (.cond (.tmp 26) (.seq (.region 9 F89.r9.toArray false) .ret) .skip))) .skip))
theorem F89.t6_eq {P : Program} {Q : Post} {e : FA} {w : World} {θ : Tag (F89.t6, Q, e, w)} : cwE P F89.t6 Q e w θ = cwE P (.seq (.region 6 F89.r6.toArray false) (.cond (.tmp 17) (.seq (.region 7 F89.r7.toArray false) (.seq (.region 8 F89.r8.toArray false) (.cond (.tmp 26) (.seq (.region 9 F89.r9.toArray false) .ret) .skip))) .skip)) Q e w := rfl
def F89.t3 : Cd := (.block 1 (.seq (.region 3 F89.r3.toArray false) (.seq (.seq (.region 4 F89.r4.toArray false) (.cond (.tmp 14) (.seq (.region 5 F89.r5.toArray false) .ret) .skip)) F89.t6)))
theorem F89.t3_eq {P : Program} {Q : Post} {e : FA} {w : World} {θ : Tag (F89.t3, Q, e, w)} : cwE P F89.t3 Q e w θ = cwE P (.block 1 (.seq (.region 3 F89.r3.toArray false) (.seq (.seq (.region 4 F89.r4.toArray false) (.cond (.tmp 14) (.seq (.region 5 F89.r5.toArray false) .ret) .skip)) F89.t6))) Q e w := rfl
def F89.t10 : Cd := (.seq (.region 10 F89.r10.toArray false) .ret)
theorem F89.t10_eq {P : Program} {Q : Post} {e : FA} {w : World} {θ : Tag (F89.t10, Q, e, w)} : cwE P F89.t10 Q e w θ = cwE P (.seq (.region 10 F89.r10.toArray false) .ret) Q e w := rfl
def F89.code : Cd := (.seq (.region 0 F89.r0.toArray false) (.seq (.seq (.region 1 F89.r1.toArray false) (.block 0 (.loop (.seq (.region 2 F89.r2.toArray false) (.seq (.cond (.tmp 10) .skip (.exit 0)) F89.t3))))) F89.t10))
theorem F89.calls {args : Array Value} {w : World} {R : Ending → World → Prop} (hn : args.size ≤ 28) (h : cwE Tryd.prog F89.code (fnP Tryd.prog #[(.tmp 2)] R) (entry args) w) : Calls Tryd.prog 89 args w R :=
  calls_of_cwE (types := Tryd.prog.types) follows Tryd.func89 F89.code rfl (by kernel_rfl) hn h

def F90.r0 : List Oper := [
  ⟨(some 4), (.assign (.const (.int .i64 0))), 3, "", #[], none⟩]
def F90.r34 : List Oper := [
  ⟨(some 161), (.move (.tmp 1)), 21, "", #[], none⟩,
  ⟨(some 162), (.binOp .leq 21 (.const (.int .i32 0)) (.tmp 161) 21), 4, "", #[], none⟩,
  ⟨(some 163), (.move (.tmp 162)), 4, "", #[], none⟩,
  ⟨(some 164), (.move (.tmp 1)), 21, "", #[], (some (163, true))⟩,
  ⟨(some 165), (.binOp .lss 21 (.tmp 164) (.const (.int .i32 128)) 21), 4, "", #[], (some (163, true))⟩,
  ⟨(some 166), (.pick (.tmp 163) (.tmp 165) (.const (.bool false))), 4, "", #[], none⟩,
  ⟨(some 160), (.assign (.tmp 166)), 4, "", #[], none⟩]
def F90.r35 : List Oper := [
  ⟨(some 167), (.move (.tmp 0)), 9, "", #[], none⟩,
  ⟨(some 168), (.move (.tmp 1)), 21, "", #[], none⟩,
  ⟨(some 169), (.convert 21 5 (.tmp 168)), 5, "", #[], none⟩,
  ⟨(some 170), (.call ⟨(.value (.func 102)), #[(.tmp 167), (.tmp 169)], #[9, 5]⟩), 3, "", #[⟨0, .chain⟩], none⟩,
  ⟨(some 4), (.assign (.tmp 170)), 3, "", #[], none⟩]
def F90.r36 : List Oper := [
  ⟨(some 172), (.move (.tmp 1)), 21, "", #[], none⟩,
  ⟨(some 173), (.binOp .eql 21 (.tmp 172) (.const (.int .i32 65533)) 21), 4, "", #[], none⟩,
  ⟨(some 171), (.assign (.tmp 173)), 4, "", #[], none⟩]
def F90.r37 : List Oper := [
  ⟨(some 174), (.move (.tmp 0)), 9, "", #[], none⟩,
  ⟨(some 175), (.range 9 (.tmp 174)), 0, "", #[⟨0, .chain⟩], none⟩]
def F90.r38 : List Oper := [
  ⟨(some 176), (.next (.tmp 175) true), 0, "", #[⟨0, .chain⟩], none⟩,
  ⟨(some 177), (.extract (.tmp 176) 0), 4, "", #[], none⟩]
def F90.r39 : List Oper := [
  ⟨(some 178), (.extract (.tmp 176) 1), 3, "", #[], none⟩,
  ⟨(some 179), (.extract (.tmp 176) 2), 21, "", #[], none⟩,
  ⟨(some 5), (.assign (.tmp 178)), 3, "", #[], none⟩,
  ⟨(some 6), (.assign (.tmp 179)), 21, "", #[], none⟩]
def F90.r40 : List Oper := [
  ⟨(some 180), (.move (.tmp 6)), 21, "", #[], none⟩,
  ⟨(some 181), (.binOp .eql 21 (.tmp 180) (.const (.int .i32 65533)) 21), 4, "", #[], none⟩]
def F90.r41 : List Oper := [
  ⟨(some 182), (.move (.tmp 5)), 3, "", #[], none⟩,
  ⟨(some 4), (.assign (.tmp 182)), 3, "", #[], none⟩]
def F90.r42 : List Oper := [
  ⟨(some 4), (.assign (.const (.int .i64 (-1)))), 3, "", #[], none⟩]
def F90.r43 : List Oper := [
  ⟨(some 184), (.move (.tmp 1)), 21, "", #[], none⟩,
  ⟨(some 185), (.call ⟨(.value (.func 103)), #[(.tmp 184)], #[21]⟩), 4, "", #[⟨0, .chain⟩], none⟩,
  ⟨(some 186), (.unOp .not 4 (.tmp 185)), 4, "", #[], none⟩,
  ⟨(some 183), (.assign (.tmp 186)), 4, "", #[], none⟩]
def F90.r44 : List Oper := [
  ⟨(some 4), (.assign (.const (.int .i64 (-1)))), 3, "", #[], none⟩]
def F90.r1 : List Oper := [
  ⟨(some 17), (.move (.tmp 1)), 21, "", #[], none⟩,
  ⟨(some 18), (.convert 21 9 (.tmp 17)), 9, "", #[], none⟩,
  ⟨(some 7), (.assign (.tmp 18)), 9, "", #[], none⟩]
def F90.r2 : List Oper := [
  ⟨(some 19), (.move (.tmp 7)), 9, "", #[], none⟩,
  ⟨(some 20), (.call ⟨(.builtin .len), #[(.tmp 19)], #[9]⟩), 3, "", #[], none⟩,
  ⟨(some 21), (.binOp .sub 3 (.tmp 20) (.const (.int .i64 1)) 3), 3, "", #[], none⟩,
  ⟨(some 8), (.assign (.tmp 21)), 3, "", #[], none⟩]
def F90.r3 : List Oper := [
  ⟨(some 22), (.move (.tmp 8)), 3, "", #[], none⟩,
  ⟨(some 9), (.assign (.tmp 22)), 3, "", #[], none⟩]
def F90.r4 : List Oper := [
  ⟨(some 10), (.assign (.const (.int .i64 0))), 3, "", #[], none⟩]
def F90.r5 : List Oper := [
  ⟨(some 23), (.move (.tmp 9)), 3, "", #[], none⟩,
  ⟨(some 24), (.move (.tmp 0)), 9, "", #[], none⟩,
  ⟨(some 25), (.call ⟨(.builtin .len), #[(.tmp 24)], #[9]⟩), 3, "", #[], none⟩,
  ⟨(some 26), (.binOp .lss 3 (.tmp 23) (.tmp 25) 3), 4, "", #[], none⟩]
def F90.r6 : List Oper := [
  ⟨(some 27), (.move (.tmp 0)), 9, "", #[], none⟩,
  ⟨(some 28), (.move (.tmp 9)), 3, "", #[], none⟩,
  ⟨(some 29), (.index 9 (.tmp 27) (.tmp 28)), 5, "", #[], none⟩,
  ⟨(some 30), (.move (.tmp 7)), 9, "", #[], none⟩,
  ⟨(some 31), (.move (.tmp 8)), 3, "", #[], none⟩,
  ⟨(some 32), (.index 9 (.tmp 30) (.tmp 31)), 5, "", #[], none⟩,
  ⟨(some 33), (.binOp .neq 5 (.tmp 29) (.tmp 32) 5), 4, "", #[], none⟩]
def F90.r7 : List Oper := [
  ⟨(some 34), (.move (.tmp 0)), 9, "", #[], none⟩,
  ⟨(some 35), (.move (.tmp 9)), 3, "", #[], none⟩,
  ⟨(some 36), (.binOp .add 3 (.tmp 35) (.const (.int .i64 1)) 3), 3, "", #[], none⟩,
  ⟨(some 37), (.slice 9 (.tmp 34) (some (.tmp 36)) none none), 9, "", #[], none⟩,
  ⟨(some 38), (.move (.tmp 7)), 9, "", #[], none⟩,
  ⟨(some 39), (.move (.tmp 8)), 3, "", #[], none⟩,
  ⟨(some 40), (.index 9 (.tmp 38) (.tmp 39)), 5, "", #[], none⟩,
  ⟨(some 41), (.call ⟨(.value (.func 102)), #[(.tmp 37), (.tmp 40)], #[9, 5]⟩), 3, "", #[⟨7, .chain⟩], none⟩,
  ⟨(some 11), (.assign (.tmp 41)), 3, "", #[], none⟩]
def F90.r8 : List Oper := [
  ⟨(some 42), (.move (.tmp 11)), 3, "", #[], none⟩,
  ⟨(some 43), (.binOp .lss 3 (.tmp 42) (.const (.int .i64 0)) 3), 4, "", #[], none⟩]
def F90.r9 : List Oper := [
  ⟨(some 4), (.assign (.const (.int .i64 (-1)))), 3, "", #[], none⟩]
def F90.r10 : List Oper := [
  ⟨(some 44), (.move (.tmp 9)), 3, "", #[], none⟩,
  ⟨(some 45), (.move (.tmp 11)), 3, "", #[], none⟩,
  ⟨(some 46), (.binOp .add 3 (.tmp 45) (.const (.int .i64 1)) 3), 3, "", #[], none⟩,
  ⟨(some 47), (.binOp .add 3 (.tmp 44) (.tmp 46) 3), 3, "", #[], none⟩,
  ⟨(some 9), (.assign (.tmp 47)), 3, "", #[], none⟩]
def F90.r11 : List Oper := [
  ⟨(some 12), (.assign (.const (.int .i64 1))), 3, "", #[], none⟩]
def F90.r12 : List Oper := [
  ⟨(some 48), (.move (.tmp 12)), 3, "", #[], none⟩,
  ⟨(some 49), (.move (.tmp 7)), 9, "", #[], none⟩,
  ⟨(some 50), (.call ⟨(.builtin .len), #[(.tmp 49)], #[9]⟩), 3, "", #[], none⟩,
  ⟨(some 51), (.binOp .lss 3 (.tmp 48) (.tmp 50) 3), 4, "", #[], none⟩]
def F90.r14 : List Oper := [
  ⟨(some 54), (.move (.tmp 0)), 9, "", #[], none⟩,
  ⟨(some 55), (.move (.tmp 9)), 3, "", #[], none⟩,
  ⟨(some 56), (.move (.tmp 12)), 3, "", #[], none⟩,
  ⟨(some 57), (.binOp .sub 3 (.tmp 55) (.tmp 56) 3), 3, "", #[], none⟩,
  ⟨(some 58), (.index 9 (.tmp 54) (.tmp 57)), 5, "", #[], none⟩,
  ⟨(some 59), (.move (.tmp 7)), 9, "", #[], none⟩,
  ⟨(some 60), (.move (.tmp 8)), 3, "", #[], none⟩,
  ⟨(some 61), (.move (.tmp 12)), 3, "", #[], none⟩,
  ⟨(some 62), (.binOp .sub 3 (.tmp 60) (.tmp 61) 3), 3, "", #[], none⟩,
  ⟨(some 63), (.index 9 (.tmp 59) (.tmp 62)), 5, "", #[], none⟩,
  ⟨(some 64), (.binOp .neq 5 (.tmp 58) (.tmp 63) 5), 4, "", #[], none⟩]
def F90.r13 : List Oper := [
  ⟨(some 52), (.move (.tmp 12)), 3, "", #[], none⟩,
  ⟨(some 53), (.binOp .add 3 (.tmp 52) (.const (.int .i64 1)) 3), 3, "", #[], none⟩,
  ⟨(some 12), (.assign (.tmp 53)), 3, "", #[], none⟩]
def F90.r15 : List Oper := [
  ⟨(some 65), (.move (.tmp 9)), 3, "", #[], none⟩,
  ⟨(some 66), (.move (.tmp 8)), 3, "", #[], none⟩,
  ⟨(some 67), (.binOp .sub 3 (.tmp 65) (.tmp 66) 3), 3, "", #[], none⟩,
  ⟨(some 4), (.assign (.tmp 67)), 3, "", #[], none⟩]
def F90.r16 : List Oper := [
  ⟨(some 68), (.move (.tmp 10)), 3, "", #[], none⟩,
  ⟨(some 69), (.binOp .add 3 (.tmp 68) (.const (.int .i64 1)) 3), 3, "", #[], none⟩,
  ⟨(some 10), (.assign (.tmp 69)), 3, "", #[], none⟩]
def F90.r17 : List Oper := [
  ⟨(some 70), (.move (.tmp 9)), 3, "", #[], none⟩,
  ⟨(some 71), (.binOp .add 3 (.tmp 70) (.const (.int .i64 1)) 3), 3, "", #[], none⟩,
  ⟨(some 9), (.assign (.tmp 71)), 3, "", #[], none⟩]
def F90.r18 : List Oper := [
  ⟨(some 72), (.move (.const (.bool true))), 4, "", #[], none⟩,
  ⟨(some 73), (.move (.tmp 10)), 3, "", #[], (some (72, true))⟩,
  ⟨(some 74), (.move (.tmp 9)), 3, "", #[], (some (72, true))⟩,
  ⟨(some 75), (.call ⟨(.value (.func 104)), #[(.tmp 74)], #[3]⟩), 3, "", #[⟨0, .chain⟩], (some (72, true))⟩,
  ⟨(some 76), (.binOp .gtr 3 (.tmp 73) (.tmp 75) 3), 4, "", #[], (some (72, true))⟩,
  ⟨(some 77), (.pick (.tmp 72) (.tmp 76) (.const (.bool false))), 4, "", #[], none⟩,
  ⟨(some 78), (.move (.tmp 77)), 4, "", #[], none⟩,
  ⟨(some 79), (.move (.tmp 9)), 3, "", #[], (some (78, true))⟩,
  ⟨(some 80), (.move (.tmp 0)), 9, "", #[], (some (78, true))⟩,
  ⟨(some 81), (.call ⟨(.builtin .len), #[(.tmp 80)], #[9]⟩), 3, "", #[], (some (78, true))⟩,
  ⟨(some 82), (.binOp .lss 3 (.tmp 79) (.tmp 81) 3), 4, "", #[], (some (78, true))⟩,
  ⟨(some 83), (.pick (.tmp 78) (.tmp 82) (.const (.bool false))), 4, "", #[], none⟩,
  ⟨(some 84), (.move (.tmp 83)), 4, "", #[], none⟩,
  ⟨(some 85), (.move (.const (.bool false))), 4, "", #[], (some (84, false))⟩,
  ⟨(some 86), (.move (.tmp 10)), 3, "", #[], (some (85, true))⟩,
  ⟨(some 87), (.move (.tmp 9)), 3, "", #[], (some (85, true))⟩,
  ⟨(some 88), (.binOp .shr 3 (.tmp 87) (.const (.int .u64 4)) 108), 3, "", #[], (some (85, true))⟩,
  ⟨(some 89), (.binOp .add 3 (.const (.int .i64 4)) (.tmp 88) 3), 3, "", #[], (some (85, true))⟩,
  ⟨(some 90), (.binOp .geq 3 (.tmp 86) (.tmp 89) 3), 4, "", #[], (some (85, true))⟩,
  ⟨(some 91), (.pick (.tmp 85) (.tmp 90) (.const (.bool false))), 4, "", #[], (some (84, false))⟩,
  ⟨(some 92), (.move (.tmp 91)), 4, "", #[], (some (84, false))⟩,
  ⟨(some 93), (.move (.tmp 9)), 3, "", #[], (some (92, true))⟩,
  ⟨(some 94), (.move (.tmp 0)), 9, "", #[], (some (92, true))⟩,
  ⟨(some 95), (.call ⟨(.builtin .len), #[(.tmp 94)], #[9]⟩), 3, "", #[], (some (92, true))⟩,
  ⟨(some 96), (.binOp .lss 3 (.tmp 93) (.tmp 95) 3), 4, "", #[], (some (92, true))⟩,
  ⟨(some 97), (.pick (.tmp 92) (.tmp 96) (.const (.bool false))), 4, "", #[], (some (84, false))⟩,
  ⟨(some 98), (.pick (.tmp 84) (.const (.bool true)) (.tmp 97)), 4, "", #[], none⟩]
def F90.r19 : List Oper := [
  ⟨(some 4), (.assign (.const (.int .i64 (-1)))), 3, "", #[], none⟩]
def F90.r20 : List Oper := [
  ⟨(some 99), (.move (.tmp 0)), 9, "", #[], none⟩,
  ⟨(some 100), (.move (.tmp 9)), 3, "", #[], none⟩,
  ⟨(some 101), (.move (.tmp 8)), 3, "", #[], none⟩,
  ⟨(some 102), (.binOp .sub 3 (.tmp 100) (.tmp 101) 3), 3, "", #[], none⟩,
  ⟨(some 103), (.slice 9 (.tmp 99) (some (.tmp 102)) none none), 9, "", #[], none⟩,
  ⟨(some 104), (.move (.tmp 1)), 21, "", #[], none⟩,
  ⟨(some 105), (.convert 21 9 (.tmp 104)), 9, "", #[], none⟩,
  ⟨(some 106), (.call ⟨(.value (.func 105)), #[(.tmp 103), (.tmp 105)], #[9, 9]⟩), 3, "", #[⟨0, .chain⟩], none⟩,
  ⟨(some 13), (.assign (.tmp 106)), 3, "", #[], none⟩]
def F90.r21 : List Oper := [
  ⟨(some 107), (.move (.tmp 13)), 3, "", #[], none⟩,
  ⟨(some 108), (.binOp .geq 3 (.tmp 107) (.const (.int .i64 0)) 3), 4, "", #[], none⟩]
def F90.r22 : List Oper := [
  ⟨(some 109), (.move (.tmp 9)), 3, "", #[], none⟩,
  ⟨(some 110), (.move (.tmp 13)), 3, "", #[], none⟩,
  ⟨(some 111), (.binOp .add 3 (.tmp 109) (.tmp 110) 3), 3, "", #[], none⟩,
  ⟨(some 112), (.move (.tmp 8)), 3, "", #[], none⟩,
  ⟨(some 113), (.binOp .sub 3 (.tmp 111) (.tmp 112) 3), 3, "", #[], none⟩,
  ⟨(some 4), (.assign (.tmp 113)), 3, "", #[], none⟩]
def F90.r23 : List Oper := [
  ⟨(some 114), (.move (.tmp 7)), 9, "", #[], none⟩,
  ⟨(some 115), (.move (.tmp 8)), 3, "", #[], none⟩,
  ⟨(some 116), (.index 9 (.tmp 114) (.tmp 115)), 5, "", #[], none⟩,
  ⟨(some 14), (.assign (.tmp 116)), 5, "", #[], none⟩]
def F90.r24 : List Oper := [
  ⟨(some 117), (.move (.tmp 7)), 9, "", #[], none⟩,
  ⟨(some 118), (.move (.tmp 8)), 3, "", #[], none⟩,
  ⟨(some 119), (.binOp .sub 3 (.tmp 118) (.const (.int .i64 1)) 3), 3, "", #[], none⟩,
  ⟨(some 120), (.index 9 (.tmp 117) (.tmp 119)), 5, "", #[], none⟩,
  ⟨(some 15), (.assign (.tmp 120)), 5, "", #[], none⟩]
def F90.r25 : List Oper := [
  ⟨(some 121), (.move (.tmp 9)), 3, "", #[], none⟩,
  ⟨(some 122), (.move (.tmp 0)), 9, "", #[], none⟩,
  ⟨(some 123), (.call ⟨(.builtin .len), #[(.tmp 122)], #[9]⟩), 3, "", #[], none⟩,
  ⟨(some 124), (.binOp .lss 3 (.tmp 121) (.tmp 123) 3), 4, "", #[], none⟩]
def F90.r27 : List Oper := [
  ⟨(some 127), (.move (.tmp 0)), 9, "", #[], none⟩,
  ⟨(some 128), (.move (.tmp 9)), 3, "", #[], none⟩,
  ⟨(some 129), (.index 9 (.tmp 127) (.tmp 128)), 5, "", #[], none⟩,
  ⟨(some 130), (.move (.tmp 14)), 5, "", #[], none⟩,
  ⟨(some 131), (.binOp .eql 5 (.tmp 129) (.tmp 130) 5), 4, "", #[], none⟩,
  ⟨(some 132), (.move (.tmp 131)), 4, "", #[], none⟩,
  ⟨(some 133), (.move (.tmp 0)), 9, "", #[], (some (132, true))⟩,
  ⟨(some 134), (.move (.tmp 9)), 3, "", #[], (some (132, true))⟩,
  ⟨(some 135), (.binOp .sub 3 (.tmp 134) (.const (.int .i64 1)) 3), 3, "", #[], (some (132, true))⟩,
  ⟨(some 136), (.index 9 (.tmp 133) (.tmp 135)), 5, "", #[], (some (132, true))⟩,
  ⟨(some 137), (.move (.tmp 15)), 5, "", #[], (some (132, true))⟩,
  ⟨(some 138), (.binOp .eql 5 (.tmp 136) (.tmp 137) 5), 4, "", #[], (some (132, true))⟩,
  ⟨(some 139), (.pick (.tmp 132) (.tmp 138) (.const (.bool false))), 4, "", #[], none⟩]
def F90.r28 : List Oper := [
  ⟨(some 16), (.assign (.const (.int .i64 2))), 3, "", #[], none⟩]
def F90.r29 : List Oper := [
  ⟨(some 140), (.move (.tmp 16)), 3, "", #[], none⟩,
  ⟨(some 141), (.move (.tmp 7)), 9, "", #[], none⟩,
  ⟨(some 142), (.call ⟨(.builtin .len), #[(.tmp 141)], #[9]⟩), 3, "", #[], none⟩,
  ⟨(some 143), (.binOp .lss 3 (.tmp 140) (.tmp 142) 3), 4, "", #[], none⟩]
def F90.r31 : List Oper := [
  ⟨(some 146), (.move (.tmp 0)), 9, "", #[], none⟩,
  ⟨(some 147), (.move (.tmp 9)), 3, "", #[], none⟩,
  ⟨(some 148), (.move (.tmp 16)), 3, "", #[], none⟩,
  ⟨(some 149), (.binOp .sub 3 (.tmp 147) (.tmp 148) 3), 3, "", #[], none⟩,
  ⟨(some 150), (.index 9 (.tmp 146) (.tmp 149)), 5, "", #[], none⟩,
  ⟨(some 151), (.move (.tmp 7)), 9, "", #[], none⟩,
  ⟨(some 152), (.move (.tmp 8)), 3, "", #[], none⟩,
  ⟨(some 153), (.move (.tmp 16)), 3, "", #[], none⟩,
  ⟨(some 154), (.binOp .sub 3 (.tmp 152) (.tmp 153) 3), 3, "", #[], none⟩,
  ⟨(some 155), (.index 9 (.tmp 151) (.tmp 154)), 5, "", #[], none⟩,
  ⟨(some 156), (.binOp .neq 5 (.tmp 150) (.tmp 155) 5), 4, "", #[], none⟩]
def F90.r30 : List Oper := [
  ⟨(some 144), (.move (.tmp 16)), 3, "", #[], none⟩,
  ⟨(some 145), (.binOp .add 3 (.tmp 144) (.const (.int .i64 1)) 3), 3, "", #[], none⟩,
  ⟨(some 16), (.assign (.tmp 145)), 3, "", #[], none⟩]
def F90.r32 : List Oper := [
  ⟨(some 157), (.move (.tmp 9)), 3, "", #[], none⟩,
  ⟨(some 158), (.move (.tmp 8)), 3, "", #[], none⟩,
  ⟨(some 159), (.binOp .sub 3 (.tmp 157) (.tmp 158) 3), 3, "", #[], none⟩,
  ⟨(some 4), (.assign (.tmp 159)), 3, "", #[], none⟩]
def F90.r26 : List Oper := [
  ⟨(some 125), (.move (.tmp 9)), 3, "", #[], none⟩,
  ⟨(some 126), (.binOp .add 3 (.tmp 125) (.const (.int .i64 1)) 3), 3, "", #[], none⟩,
  ⟨(some 9), (.assign (.tmp 126)), 3, "", #[], none⟩]
def F90.r33 : List Oper := [
  ⟨(some 4), (.assign (.const (.int .i64 (-1)))), 3, "", #[], none⟩]
def F90.t39 : Cd := (.block 10 (.seq (.region 39 F90.r39.toArray false) (.seq (.region 40 F90.r40.toArray false) (.cond (.tmp 181) (.seq (.region 41 F90.r41.toArray false) .ret) .skip))))
theorem F90.t39_eq {P : Program} {Q : Post} {e : FA} {w : World} {θ : Tag (F90.t39, Q, e, w)} : cwE P F90.t39 Q e w θ = cwE P (.block 10 (.seq (.region 39 F90.r39.toArray false) (.seq (.region 40 F90.r40.toArray false) (.cond (.tmp 181) (.seq (.region 41 F90.r41.toArray false) .ret) .skip)))) Q e w := rfl
def F90.t42 : Cd := (.seq (.region 42 F90.r42.toArray false) .ret)
theorem F90.t42_eq {P : Program} {Q : Post} {e : FA} {w : World} {θ : Tag (F90.t42, Q, e, w)} : cwE P F90.t42 Q e w θ = cwE P (.seq (.region 42 F90.r42.toArray false) .ret) Q e w := rfl
def F90.t10 : Cd := (.region 10 F90.r10.toArray false)
theorem F90.t10_eq {P : Program} {Q : Post} {e : FA} {w : World} {θ : Tag (F90.t10, Q, e, w)} : cwE P F90.t10 Q e w θ = cwE P (.region 10 F90.r10.toArray false) Q e w := rfl
def F90.t13 : Cd := (.region 13 F90.r13.toArray false)
theorem F90.t13_eq {P : Program} {Q : Post} {e : FA} {w : World} {θ : Tag (F90.t13, Q, e, w)} : cwE P F90.t13 Q e w θ = cwE P (.region 13 F90.r13.toArray false) Q e w := rfl
def F90.t14 : Cd := (.seq (.block 4 (.seq (.region 14 F90.r14.toArray true) (.cond (.tmp 64) (.goto 0) .skip))) F90.t13)
theorem F90.t14_eq {P : Program} {Q : Post} {e : FA} {w : World} {θ : Tag (F90.t14, Q, e, w)} : cwE P F90.t14 Q e w θ = cwE P (.seq (.block 4 (.seq (.region 14 F90.r14.toArray true) (.cond (.tmp 64) (.goto 0) .skip))) F90.t13) Q e w := rfl
def F90.t16 : Cd := (.seq (.region 16 F90.r16.toArray false) (.seq (.region 17 F90.r17.toArray false) (.seq (.region 18 F90.r18.toArray false) (.cond (.tmp 98) (.goto 1) .skip))))
theorem F90.t16_eq {P : Program} {Q : Post} {e : FA} {w : World} {θ : Tag (F90.t16, Q, e, w)} : cwE P F90.t16 Q e w θ = cwE P (.seq (.region 16 F90.r16.toArray false) (.seq (.region 17 F90.r17.toArray false) (.seq (.region 18 F90.r18.toArray false) (.cond (.tmp 98) (.goto 1) .skip)))) Q e w := rfl
def F90.t15 : Cd := (.seq (.seq (.region 15 F90.r15.toArray false) .ret) (.seq (.label 0) F90.t16))
theorem F90.t15_eq {P : Program} {Q : Post} {e : FA} {w : World} {θ : Tag (F90.t15, Q, e, w)} : cwE P F90.t15 Q e w θ = cwE P (.seq (.seq (.region 15 F90.r15.toArray false) .ret) (.seq (.label 0) F90.t16)) Q e w := rfl
def F90.t11 : Cd := (.seq (.seq (.region 11 F90.r11.toArray false) (.block 3 (.loop (.seq (.seq (.region 12 F90.r12.toArray false) (.cond (.tmp 51) .skip (.exit 3))) F90.t14)))) F90.t15)
theorem F90.t11_eq {P : Program} {Q : Post} {e : FA} {w : World} {θ : Tag (F90.t11, Q, e, w)} : cwE P F90.t11 Q e w θ = cwE P (.seq (.seq (.region 11 F90.r11.toArray false) (.block 3 (.loop (.seq (.seq (.region 12 F90.r12.toArray false) (.cond (.tmp 51) .skip (.exit 3))) F90.t14)))) F90.t15) Q e w := rfl
def F90.t6 : Cd := (.block 2 (.scope (.seq (.seq (.region 6 F90.r6.toArray true) (.cond (.tmp 33) (.seq (.region 7 F90.r7.toArray true) (.seq (.seq (.region 8 F90.r8.toArray false) (.cond (.tmp 43) (.seq (.region 9 F90.r9.toArray false) .ret) .skip)) F90.t10)) .skip)) F90.t11)))
theorem F90.t6_eq {P : Program} {Q : Post} {e : FA} {w : World} {θ : Tag (F90.t6, Q, e, w)} : cwE P F90.t6 Q e w θ = cwE P (.block 2 (.scope (.seq (.seq (.region 6 F90.r6.toArray true) (.cond (.tmp 33) (.seq (.region 7 F90.r7.toArray true) (.seq (.seq (.region 8 F90.r8.toArray false) (.cond (.tmp 43) (.seq (.region 9 F90.r9.toArray false) .ret) .skip)) F90.t10)) .skip)) F90.t11))) Q e w := rfl
def F90.t30 : Cd := (.region 30 F90.r30.toArray false)
theorem F90.t30_eq {P : Program} {Q : Post} {e : FA} {w : World} {θ : Tag (F90.t30, Q, e, w)} : cwE P F90.t30 Q e w θ = cwE P (.region 30 F90.r30.toArray false) Q e w := rfl
def F90.t31 : Cd := (.seq (.block 8 (.seq (.region 31 F90.r31.toArray true) (.cond (.tmp 156) (.exit 6) .skip))) F90.t30)
theorem F90.t31_eq {P : Program} {Q : Post} {e : FA} {w : World} {θ : Tag (F90.t31, Q, e, w)} : cwE P F90.t31 Q e w θ = cwE P (.seq (.block 8 (.seq (.region 31 F90.r31.toArray true) (.cond (.tmp 156) (.exit 6) .skip))) F90.t30) Q e w := rfl
def F90.t32 : Cd := (.seq (.region 32 F90.r32.toArray false) .ret)
theorem F90.t32_eq {P : Program} {Q : Post} {e : FA} {w : World} {θ : Tag (F90.t32, Q, e, w)} : cwE P F90.t32 Q e w θ = cwE P (.seq (.region 32 F90.r32.toArray false) .ret) Q e w := rfl
def F90.t26 : Cd := (.region 26 F90.r26.toArray false)
theorem F90.t26_eq {P : Program} {Q : Post} {e : FA} {w : World} {θ : Tag (F90.t26, Q, e, w)} : cwE P F90.t26 Q e w θ = cwE P (.region 26 F90.r26.toArray false) Q e w := rfl
def F90.t27 : Cd := (.seq (.block 6 (.seq (.region 27 F90.r27.toArray false) (.cond (.tmp 139) (.seq (.seq (.region 28 F90.r28.toArray false) (.block 7 (.loop (.seq (.seq (.region 29 F90.r29.toArray false) (.cond (.tmp 143) .skip (.exit 7))) F90.t31)))) F90.t32) .skip))) F90.t26)
theorem F90.t27_eq {P : Program} {Q : Post} {e : FA} {w : World} {θ : Tag (F90.t27, Q, e, w)} : cwE P F90.t27 Q e w θ = cwE P (.seq (.block 6 (.seq (.region 27 F90.r27.toArray false) (.cond (.tmp 139) (.seq (.seq (.region 28 F90.r28.toArray false) (.block 7 (.loop (.seq (.seq (.region 29 F90.r29.toArray false) (.cond (.tmp 143) .skip (.exit 7))) F90.t31)))) F90.t32) .skip))) F90.t26) Q e w := rfl
def F90.t25 : Cd := (.block 5 (.loop (.seq (.seq (.region 25 F90.r25.toArray false) (.cond (.tmp 124) .skip (.exit 5))) F90.t27)))
theorem F90.t25_eq {P : Program} {Q : Post} {e : FA} {w : World} {θ : Tag (F90.t25, Q, e, w)} : cwE P F90.t25 Q e w θ = cwE P (.block 5 (.loop (.seq (.seq (.region 25 F90.r25.toArray false) (.cond (.tmp 124) .skip (.exit 5))) F90.t27))) Q e w := rfl
def F90.t33 : Cd := (.seq (.region 33 F90.r33.toArray false) .ret)
theorem F90.t33_eq {P : Program} {Q : Post} {e : FA} {w : World} {θ : Tag (F90.t33, Q, e, w)} : cwE P F90.t33 Q e w θ = cwE P (.seq (.region 33 F90.r33.toArray false) .ret) Q e w := rfl
def F90.t20 : Cd := (.seq (.cond (.const (.bool true)) (.seq (.region 20 F90.r20.toArray false) (.seq (.region 21 F90.r21.toArray false) (.cond (.tmp 108) (.seq (.region 22 F90.r22.toArray false) .ret) .skip))) (.scope (.seq (.region 23 F90.r23.toArray false) (.seq (.region 24 F90.r24.toArray false) (.seq (.label 2) F90.t25))))) F90.t33)
theorem F90.t20_eq {P : Program} {Q : Post} {e : FA} {w : World} {θ : Tag (F90.t20, Q, e, w)} : cwE P F90.t20 Q e w θ = cwE P (.seq (.cond (.const (.bool true)) (.seq (.region 20 F90.r20.toArray false) (.seq (.region 21 F90.r21.toArray false) (.cond (.tmp 108) (.seq (.region 22 F90.r22.toArray false) .ret) .skip))) (.scope (.seq (.region 23 F90.r23.toArray false) (.seq (.region 24 F90.r24.toArray false) (.seq (.label 2) F90.t25))))) F90.t33) Q e w := rfl
def F90.t19 : Cd := (.seq (.seq (.region 19 F90.r19.toArray false) .ret) (.seq (.label 1) F90.t20))
theorem F90.t19_eq {P : Program} {Q : Post} {e : FA} {w : World} {θ : Tag (F90.t19, Q, e, w)} : cwE P F90.t19 Q e w θ = cwE P (.seq (.seq (.region 19 F90.r19.toArray false) .ret) (.seq (.label 1) F90.t20)) Q e w := rfl
def F90.code : Cd := (.seq (.region 0 F90.r0.toArray false) (.block 0 (.seq (.region 34 F90.r34.toArray false) (.cond (.tmp 160) (.seq (.region 35 F90.r35.toArray false) .ret) (.seq (.region 36 F90.r36.toArray false) (.cond (.tmp 171) (.seq (.seq (.region 37 F90.r37.toArray false) (.block 9 (.loop (.seq (.region 38 F90.r38.toArray false) (.seq (.cond (.tmp 177) .skip (.exit 9)) F90.t39))))) F90.t42) (.seq (.region 43 F90.r43.toArray false) (.cond (.tmp 183) (.seq (.region 44 F90.r44.toArray false) .ret) (.scope (.seq (.region 1 F90.r1.toArray false) (.seq (.region 2 F90.r2.toArray false) (.seq (.region 3 F90.r3.toArray false) (.seq (.region 4 F90.r4.toArray false) (.seq (.block 1 (.loop (.seq (.seq (.region 5 F90.r5.toArray false) (.cond (.tmp 26) .skip (.exit 1))) F90.t6))) F90.t19))))))))))))))
theorem F90.calls {args : Array Value} {w : World} {R : Ending → World → Prop} (hn : args.size ≤ 187) (h : cwE Tryd.prog F90.code (fnP Tryd.prog #[(.tmp 4)] R) (entry args) w) : Calls Tryd.prog 90 args w R :=
  calls_of_cwE (types := Tryd.prog.types) follows Tryd.func90 F90.code rfl (by kernel_rfl) hn h

def F103.r0 : List Oper := [
  ⟨(some 2), (.assign (.const (.bool false))), 4, "", #[], none⟩]
def F103.r1 : List Oper := [
  ⟨(some 4), (.move (.tmp 0)), 21, "", #[], none⟩,
  ⟨(some 5), (.binOp .leq 21 (.const (.int .i32 0)) (.tmp 4) 21), 4, "", #[], none⟩,
  ⟨(some 6), (.move (.tmp 5)), 4, "", #[], none⟩,
  ⟨(some 7), (.move (.tmp 0)), 21, "", #[], (some (6, true))⟩,
  ⟨(some 8), (.binOp .lss 21 (.tmp 7) (.const (.int .i32 55296)) 21), 4, "", #[], (some (6, true))⟩,
  ⟨(some 9), (.pick (.tmp 6) (.tmp 8) (.const (.bool false))), 4, "", #[], none⟩,
  ⟨(some 3), (.assign (.tmp 9)), 4, "", #[], none⟩]
def F103.r2 : List Oper := [
  ⟨(some 2), (.assign (.const (.bool true))), 4, "", #[], none⟩]
def F103.r3 : List Oper := [
  ⟨(some 11), (.move (.tmp 0)), 21, "", #[], none⟩,
  ⟨(some 12), (.binOp .lss 21 (.const (.int .i32 57343)) (.tmp 11) 21), 4, "", #[], none⟩,
  ⟨(some 13), (.move (.tmp 12)), 4, "", #[], none⟩,
  ⟨(some 14), (.move (.tmp 0)), 21, "", #[], (some (13, true))⟩,
  ⟨(some 15), (.binOp .leq 21 (.tmp 14) (.const (.int .i32 1114111)) 21), 4, "", #[], (some (13, true))⟩,
  ⟨(some 16), (.pick (.tmp 13) (.tmp 15) (.const (.bool false))), 4, "", #[], none⟩,
  ⟨(some 10), (.assign (.tmp 16)), 4, "", #[], none⟩]
def F103.r4 : List Oper := [
  ⟨(some 2), (.assign (.const (.bool true))), 4, "", #[], none⟩]
def F103.r5 : List Oper := [
  ⟨(some 2), (.assign (.const (.bool false))), 4, "", #[], none⟩]
def F103.t5 : Cd := (.seq (.region 5 F103.r5.toArray false) .ret)
theorem F103.t5_eq {P : Program} {Q : Post} {e : FA} {w : World} {θ : Tag (F103.t5, Q, e, w)} : cwE P F103.t5 Q e w θ = cwE P (.seq (.region 5 F103.r5.toArray false) .ret) Q e w := rfl
def F103.code : Cd := (.seq (.region 0 F103.r0.toArray false) (.seq (.block 0 (.seq (.region 1 F103.r1.toArray false) (.cond (.tmp 3) (.seq (.region 2 F103.r2.toArray false) .ret) (.seq (.region 3 F103.r3.toArray false) (.cond (.tmp 10) (.seq (.region 4 F103.r4.toArray false) .ret) .skip))))) F103.t5))
theorem F103.calls {args : Array Value} {w : World} {R : Ending → World → Prop} (hn : args.size ≤ 17) (h : cwE Tryd.prog F103.code (fnP Tryd.prog #[(.tmp 2)] R) (entry args) w) : Calls Tryd.prog 103 args w R :=
  calls_of_cwE (types := Tryd.prog.types) follows Tryd.func103 F103.code rfl (by kernel_rfl) hn h

attribute [go_sem] fact_aggSz_23
attribute [go_sem] fact_aggSz_25
attribute [go_sem] fact_aggSz_28
attribute [go_sem] fact_aggSz_3
attribute [go_sem] fact_aggSz_31
attribute [go_sem] fact_aggSz_32
attribute [go_sem] fact_aggSz_33
attribute [go_sem] fact_aggSz_4
attribute [go_sem] fact_aggSz_42
attribute [go_sem] fact_aggSz_46
attribute [go_sem] fact_aggSz_61
attribute [go_sem] fact_aggSz_69
attribute [go_sem] fact_aggSz_70
attribute [go_sem] fact_aggSz_82
attribute [go_sem] fact_aggSz_9
attribute [go_sem] fact_arrEx_9
attribute [go_sem] fact_bldP_100
attribute [go_sem] fact_bldP_35
attribute [go_sem] fact_bldP_46
attribute [go_sem] fact_bldP_72
attribute [go_sem] fact_bldP_95
attribute [go_sem] fact_elemOf_23
attribute [go_sem] fact_elemOf_32
attribute [go_sem] fact_elemOf_33
attribute [go_sem] fact_elemOf_49
attribute [go_sem] fact_elemOf_61
attribute [go_sem] fact_elemOf_9
attribute [go_sem] fact_elemOf_93
attribute [go_sem] fact_fieldOff_100_0
attribute [go_sem] fact_fieldOff_35_0
attribute [go_sem] fact_fieldOff_35_1
attribute [go_sem] fact_fieldOff_35_2
attribute [go_sem] fact_fieldOff_35_3
attribute [go_sem] fact_fieldOff_35_4
attribute [go_sem] fact_fieldOff_35_5
attribute [go_sem] fact_fieldOff_46_0
attribute [go_sem] fact_fieldOff_46_1
attribute [go_sem] fact_fieldOff_46_2
attribute [go_sem] fact_fieldOff_46_3
attribute [go_sem] fact_fieldOff_63_0
attribute [go_sem] fact_fieldOff_63_1
attribute [go_sem] fact_fieldOff_63_2
attribute [go_sem] fact_fieldOff_72_0
attribute [go_sem] fact_fieldOff_72_1
attribute [go_sem] fact_fieldOff_72_2
attribute [go_sem] fact_fieldOff_84_1
attribute [go_sem] fact_fnOk_10
attribute [go_sem] fact_fnOk_102
attribute [go_sem] fact_fnOk_103
attribute [go_sem] fact_fnOk_104
attribute [go_sem] fact_fnOk_11
attribute [go_sem] fact_fnOk_12
attribute [go_sem] fact_fnOk_13
attribute [go_sem] fact_fnOk_14
attribute [go_sem] fact_fnOk_15
attribute [go_sem] fact_fnOk_16
attribute [go_sem] fact_fnOk_17
attribute [go_sem] fact_fnOk_18
attribute [go_sem] fact_fnOk_19
attribute [go_sem] fact_fnOk_20
attribute [go_sem] fact_fnOk_21
attribute [go_sem] fact_fnOk_22
attribute [go_sem] fact_fnOk_23
attribute [go_sem] fact_fnOk_24
attribute [go_sem] fact_fnOk_25
attribute [go_sem] fact_fnOk_26
attribute [go_sem] fact_fnOk_27
attribute [go_sem] fact_fnOk_28
attribute [go_sem] fact_fnOk_29
attribute [go_sem] fact_fnOk_30
attribute [go_sem] fact_fnOk_31
attribute [go_sem] fact_fnOk_32
attribute [go_sem] fact_fnOk_33
attribute [go_sem] fact_fnOk_34
attribute [go_sem] fact_fnOk_35
attribute [go_sem] fact_fnOk_36
attribute [go_sem] fact_fnOk_37
attribute [go_sem] fact_fnOk_38
attribute [go_sem] fact_fnOk_39
attribute [go_sem] fact_fnOk_40
attribute [go_sem] fact_fnOk_41
attribute [go_sem] fact_fnOk_42
attribute [go_sem] fact_fnOk_43
attribute [go_sem] fact_fnOk_44
attribute [go_sem] fact_fnOk_45
attribute [go_sem] fact_fnOk_46
attribute [go_sem] fact_fnOk_47
attribute [go_sem] fact_fnOk_48
attribute [go_sem] fact_fnOk_49
attribute [go_sem] fact_fnOk_50
attribute [go_sem] fact_fnOk_51
attribute [go_sem] fact_fnOk_52
attribute [go_sem] fact_fnOk_53
attribute [go_sem] fact_fnOk_54
attribute [go_sem] fact_fnOk_55
attribute [go_sem] fact_fnOk_56
attribute [go_sem] fact_fnOk_57
attribute [go_sem] fact_fnOk_58
attribute [go_sem] fact_fnOk_59
attribute [go_sem] fact_fnOk_60
attribute [go_sem] fact_fnOk_61
attribute [go_sem] fact_fnOk_62
attribute [go_sem] fact_fnOk_63
attribute [go_sem] fact_fnOk_64
attribute [go_sem] fact_fnOk_65
attribute [go_sem] fact_fnOk_66
attribute [go_sem] fact_fnOk_67
attribute [go_sem] fact_fnOk_68
attribute [go_sem] fact_fnOk_69
attribute [go_sem] fact_fnOk_70
attribute [go_sem] fact_fnOk_71
attribute [go_sem] fact_fnOk_88
attribute [go_sem] fact_fnOk_89
attribute [go_sem] fact_fnOk_90
attribute [go_sem] fact_fnOk_92
attribute [go_sem] fact_szO_100
attribute [go_sem] fact_szO_23
attribute [go_sem] fact_szO_25
attribute [go_sem] fact_szO_28
attribute [go_sem] fact_szO_3
attribute [go_sem] fact_szO_31
attribute [go_sem] fact_szO_32
attribute [go_sem] fact_szO_33
attribute [go_sem] fact_szO_4
attribute [go_sem] fact_szO_42
attribute [go_sem] fact_szO_46
attribute [go_sem] fact_szO_61
attribute [go_sem] fact_szO_70
attribute [go_sem] fact_szO_82
attribute [go_sem] fact_szO_9
attribute [go_sem] fact_zeroV_100
attribute [go_sem] fact_zeroV_23
attribute [go_sem] fact_zeroV_25
attribute [go_sem] fact_zeroV_28
attribute [go_sem] fact_zeroV_3
attribute [go_sem] fact_zeroV_31
attribute [go_sem] fact_zeroV_33
attribute [go_sem] fact_zeroV_4
attribute [go_sem] fact_zeroV_42
attribute [go_sem] fact_zeroV_46
attribute [go_sem] fact_zeroV_61
attribute [go_sem] fact_zeroV_84
attribute [go_sem] Tryd.underlying3
attribute [go_sem] Tryd.underlying4
attribute [go_sem] Tryd.underlying5
attribute [go_sem] Tryd.underlying9
attribute [go_sem] Tryd.underlying20
attribute [go_sem] Tryd.underlying21
attribute [go_sem] Tryd.underlying23
attribute [go_sem] Tryd.underlying28
attribute [go_sem] Tryd.underlying32
attribute [go_sem] Tryd.underlying33
attribute [go_sem] Tryd.underlying42
attribute [go_sem] Tryd.underlying49
attribute [go_sem] Tryd.underlying61
attribute [go_sem] Tryd.underlying82
attribute [go_sem] Tryd.underlying108
attribute [go_sem] F3.r0
attribute [go_sem] F3.r1
attribute [go_sem] F3.r2
attribute [go_sem] F4.r0
attribute [go_sem] F4.r1
attribute [go_sem] F4.r2
attribute [go_sem] F4.r3
attribute [go_sem] F4.r4
attribute [go_sem] F4.r5
attribute [go_sem] F4.r6
attribute [go_sem] F4.r7
attribute [go_sem] F4.r8
attribute [go_sem] F4.r9
attribute [go_sem] F4.r10
attribute [go_sem] F4.r11
attribute [go_sem] F4.r12
attribute [go_sem] F4.r13
attribute [go_sem] F4.r14
attribute [go_sem] F5.r0
attribute [go_sem] F5.r1
attribute [go_sem] F5.r2
attribute [go_sem] F5.r3
attribute [go_sem] F5.r4
attribute [go_sem] F5.r5
attribute [go_sem] F5.r6
attribute [go_sem] F5.r7
attribute [go_sem] F5.r8
attribute [go_sem] F5.r9
attribute [go_sem] F5.r10
attribute [go_sem] F5.r11
attribute [go_sem] F5.r12
attribute [go_sem] F5.r13
attribute [go_sem] F5.r14
attribute [go_sem] F5.r15
attribute [go_sem] F5.r16
attribute [go_sem] F5.r17
attribute [go_sem] F5.r18
attribute [go_sem] F5.r19
attribute [go_sem] F5.r20
attribute [go_sem] F5.r21
attribute [go_sem] F5.r22
attribute [go_sem] F5.r23
attribute [go_sem] F5.r24
attribute [go_sem] F5.r25
attribute [go_sem] F5.r26
attribute [go_sem] F5.r27
attribute [go_sem] F5.r28
attribute [go_sem] F5.r29
attribute [go_sem] F5.r30
attribute [go_sem] F5.r31
attribute [go_sem] F5.r32
attribute [go_sem] F5.r33
attribute [go_sem] F5.r34
attribute [go_sem] F5.r35
attribute [go_sem] F5.r36
attribute [go_sem] F5.r37
attribute [go_sem] F5.r38
attribute [go_sem] F5.r39
attribute [go_sem] F5.r40
attribute [go_sem] F5.r41
attribute [go_sem] F6.r0
attribute [go_sem] F6.r1
attribute [go_sem] F6.r2
attribute [go_sem] F6.r3
attribute [go_sem] F6.r4
attribute [go_sem] F6.r5
attribute [go_sem] F6.r6
attribute [go_sem] F6.r7
attribute [go_sem] F6.r9
attribute [go_sem] F6.r10
attribute [go_sem] F6.r11
attribute [go_sem] F6.r12
attribute [go_sem] F6.r13
attribute [go_sem] F6.r15
attribute [go_sem] F6.r16
attribute [go_sem] F6.r17
attribute [go_sem] F6.r18
attribute [go_sem] F6.r19
attribute [go_sem] F6.r20
attribute [go_sem] F6.r21
attribute [go_sem] F6.r22
attribute [go_sem] F6.r23
attribute [go_sem] F6.r24
attribute [go_sem] F6.r14
attribute [go_sem] F6.r25
attribute [go_sem] F6.r26
attribute [go_sem] F6.r27
attribute [go_sem] F6.r28
attribute [go_sem] F6.r30
attribute [go_sem] F6.r31
attribute [go_sem] F6.r29
attribute [go_sem] F6.r8
attribute [go_sem] F6.r32
attribute [go_sem] F7.r0
attribute [go_sem] F7.r1
attribute [go_sem] F7.r2
attribute [go_sem] F7.r3
attribute [go_sem] F7.r4
attribute [go_sem] F7.r5
attribute [go_sem] F7.r7
attribute [go_sem] F7.r8
attribute [go_sem] F7.r9
attribute [go_sem] F7.r10
attribute [go_sem] F7.r12
attribute [go_sem] F7.r11
attribute [go_sem] F7.r13
attribute [go_sem] F7.r14
attribute [go_sem] F7.r6
attribute [go_sem] F7.r15
attribute [go_sem] F7.r16
attribute [go_sem] F7.r17
attribute [go_sem] F7.r18
attribute [go_sem] F7.r19
attribute [go_sem] F7.r20
attribute [go_sem] F7.r22
attribute [go_sem] F7.r23
attribute [go_sem] F7.r24
attribute [go_sem] F7.r25
attribute [go_sem] F7.r26
attribute [go_sem] F7.r27
attribute [go_sem] F7.r28
attribute [go_sem] F7.r30
attribute [go_sem] F7.r31
attribute [go_sem] F7.r29
attribute [go_sem] F7.r21
attribute [go_sem] F7.r32
attribute [go_sem] F8.r0
attribute [go_sem] F8.r1
attribute [go_sem] F8.r2
attribute [go_sem] F8.r3
attribute [go_sem] F8.r4
attribute [go_sem] F8.r5
attribute [go_sem] F8.r6
attribute [go_sem] F8.r7
attribute [go_sem] F8.r8
attribute [go_sem] F8.r9
attribute [go_sem] F8.r10
attribute [go_sem] F8.r12
attribute [go_sem] F8.r13
attribute [go_sem] F8.r14
attribute [go_sem] F8.r16
attribute [go_sem] F8.r17
attribute [go_sem] F8.r15
attribute [go_sem] F8.r18
attribute [go_sem] F8.r19
attribute [go_sem] F8.r20
attribute [go_sem] F8.r21
attribute [go_sem] F8.r22
attribute [go_sem] F8.r11
attribute [go_sem] F8.r23
attribute [go_sem] F8.r24
attribute [go_sem] F8.r25
attribute [go_sem] F8.r26
attribute [go_sem] F8.r27
attribute [go_sem] F8.r28
attribute [go_sem] F8.r29
attribute [go_sem] F8.r30
attribute [go_sem] F8.r31
attribute [go_sem] F8.r32
attribute [go_sem] F8.r33
attribute [go_sem] F9.r0
attribute [go_sem] F9.r1
attribute [go_sem] F9.r2
attribute [go_sem] F9.r3
attribute [go_sem] F9.r4
attribute [go_sem] F9.r5
attribute [go_sem] F9.r6
attribute [go_sem] F9.r7
attribute [go_sem] F9.r8
attribute [go_sem] F9.r9
attribute [go_sem] F9.r11
attribute [go_sem] F9.r12
attribute [go_sem] F9.r13
attribute [go_sem] F9.r10
attribute [go_sem] F9.r14
attribute [go_sem] F9.r15
attribute [go_sem] F9.r16
attribute [go_sem] F9.r17
attribute [go_sem] F9.r18
attribute [go_sem] F9.r19
attribute [go_sem] F9.r20
attribute [go_sem] F9.r21
attribute [go_sem] F9.r22
attribute [go_sem] F9.r23
attribute [go_sem] F9.r24
attribute [go_sem] F9.r25
attribute [go_sem] F9.r26
attribute [go_sem] F9.r27
attribute [go_sem] F9.r28
attribute [go_sem] F9.r29
attribute [go_sem] F9.r31
attribute [go_sem] F9.r32
attribute [go_sem] F9.r30
attribute [go_sem] F9.r33
attribute [go_sem] F9.r34
attribute [go_sem] F9.r35
attribute [go_sem] F9.r36
attribute [go_sem] F10.r0
attribute [go_sem] F10.r1
attribute [go_sem] F10.r2
attribute [go_sem] F10.r3
attribute [go_sem] F10.r4
attribute [go_sem] F10.r5
attribute [go_sem] F10.r6
attribute [go_sem] F11.r0
attribute [go_sem] F11.r1
attribute [go_sem] F11.r2
attribute [go_sem] F11.r3
attribute [go_sem] F11.r5
attribute [go_sem] F11.r4
attribute [go_sem] F11.r6
attribute [go_sem] F12.r0
attribute [go_sem] F12.r1
attribute [go_sem] F12.r2
attribute [go_sem] F12.r3
attribute [go_sem] F12.r4
attribute [go_sem] F12.r5
attribute [go_sem] F13.r0
attribute [go_sem] F13.r1
attribute [go_sem] F13.r2
attribute [go_sem] F13.r3
attribute [go_sem] F13.r4
attribute [go_sem] F13.r5
attribute [go_sem] F13.r6
attribute [go_sem] F13.r7
attribute [go_sem] F13.r8
attribute [go_sem] F13.r9
attribute [go_sem] F14.r0
attribute [go_sem] F14.r1
attribute [go_sem] F14.r2
attribute [go_sem] F14.r3
attribute [go_sem] F14.r4
attribute [go_sem] F14.r5
attribute [go_sem] F14.r6
attribute [go_sem] F14.r7
attribute [go_sem] F14.r8
attribute [go_sem] F14.r9
attribute [go_sem] F14.r10
attribute [go_sem] F14.r11
attribute [go_sem] F15.r0
attribute [go_sem] F15.r1
attribute [go_sem] F15.r2
attribute [go_sem] F15.r3
attribute [go_sem] F15.r4
attribute [go_sem] F15.r6
attribute [go_sem] F15.r7
attribute [go_sem] F15.r8
attribute [go_sem] F15.r5
attribute [go_sem] F15.r9
attribute [go_sem] F16.r0
attribute [go_sem] F16.r1
attribute [go_sem] F16.r2
attribute [go_sem] F16.r3
attribute [go_sem] F17.r0
attribute [go_sem] F17.r1
attribute [go_sem] F17.r2
attribute [go_sem] F17.r3
attribute [go_sem] F17.r4
attribute [go_sem] F17.r5
attribute [go_sem] F17.r6
attribute [go_sem] F17.r7
attribute [go_sem] F18.r0
attribute [go_sem] F18.r1
attribute [go_sem] F19.r0
attribute [go_sem] F19.r1
attribute [go_sem] F19.r2
attribute [go_sem] F19.r3
attribute [go_sem] F20.r0
attribute [go_sem] F20.r1
attribute [go_sem] F20.r2
attribute [go_sem] F20.r3
attribute [go_sem] F21.r0
attribute [go_sem] F21.r1
attribute [go_sem] F21.r2
attribute [go_sem] F21.r3
attribute [go_sem] F21.r4
attribute [go_sem] F21.r6
attribute [go_sem] F21.r7
attribute [go_sem] F21.r5
attribute [go_sem] F21.r8
attribute [go_sem] F21.r9
attribute [go_sem] F21.r11
attribute [go_sem] F21.r12
attribute [go_sem] F21.r13
attribute [go_sem] F21.r14
attribute [go_sem] F21.r16
attribute [go_sem] F21.r15
attribute [go_sem] F21.r17
attribute [go_sem] F21.r18
attribute [go_sem] F21.r10
attribute [go_sem] F21.r19
attribute [go_sem] F21.r20
attribute [go_sem] F21.r21
attribute [go_sem] F21.r23
attribute [go_sem] F21.r24
attribute [go_sem] F21.r25
attribute [go_sem] F21.r27
attribute [go_sem] F21.r28
attribute [go_sem] F21.r29
attribute [go_sem] F21.r30
attribute [go_sem] F21.r26
attribute [go_sem] F21.r22
attribute [go_sem] F21.r31
attribute [go_sem] F21.r32
attribute [go_sem] F21.r33
attribute [go_sem] F21.r34
attribute [go_sem] F21.r35
attribute [go_sem] F21.r36
attribute [go_sem] F21.r38
attribute [go_sem] F21.r39
attribute [go_sem] F21.r41
attribute [go_sem] F21.r42
attribute [go_sem] F21.r40
attribute [go_sem] F21.r37
attribute [go_sem] F21.r43
attribute [go_sem] F22.r0
attribute [go_sem] F22.r1
attribute [go_sem] F22.r2
attribute [go_sem] F22.r3
attribute [go_sem] F22.r4
attribute [go_sem] F22.r6
attribute [go_sem] F22.r7
attribute [go_sem] F22.r8
attribute [go_sem] F22.r9
attribute [go_sem] F22.r10
attribute [go_sem] F22.r11
attribute [go_sem] F22.r12
attribute [go_sem] F22.r14
attribute [go_sem] F22.r15
attribute [go_sem] F22.r16
attribute [go_sem] F22.r17
attribute [go_sem] F22.r13
attribute [go_sem] F22.r18
attribute [go_sem] F22.r19
attribute [go_sem] F22.r21
attribute [go_sem] F22.r22
attribute [go_sem] F22.r23
attribute [go_sem] F22.r20
attribute [go_sem] F22.r24
attribute [go_sem] F22.r5
attribute [go_sem] F22.r25
attribute [go_sem] F23.r0
attribute [go_sem] F23.r1
attribute [go_sem] F23.r2
attribute [go_sem] F23.r3
attribute [go_sem] F23.r4
attribute [go_sem] F23.r5
attribute [go_sem] F24.r0
attribute [go_sem] F24.r1
attribute [go_sem] F24.r2
attribute [go_sem] F24.r3
attribute [go_sem] F24.r4
attribute [go_sem] F24.r5
attribute [go_sem] F24.r6
attribute [go_sem] F24.r7
attribute [go_sem] F25.r0
attribute [go_sem] F25.r1
attribute [go_sem] F25.r2
attribute [go_sem] F25.r4
attribute [go_sem] F25.r5
attribute [go_sem] F25.r3
attribute [go_sem] F25.r6
attribute [go_sem] F26.r0
attribute [go_sem] F26.r1
attribute [go_sem] F26.r2
attribute [go_sem] F27.r0
attribute [go_sem] F27.r1
attribute [go_sem] F27.r2
attribute [go_sem] F27.r3
attribute [go_sem] F27.r4
attribute [go_sem] F27.r5
attribute [go_sem] F27.r6
attribute [go_sem] F27.r7
attribute [go_sem] F28.r0
attribute [go_sem] F28.r1
attribute [go_sem] F28.r2
attribute [go_sem] F28.r3
attribute [go_sem] F28.r4
attribute [go_sem] F29.r0
attribute [go_sem] F29.r1
attribute [go_sem] F29.r2
attribute [go_sem] F30.r0
attribute [go_sem] F30.r1
attribute [go_sem] F30.r2
attribute [go_sem] F30.r3
attribute [go_sem] F30.r4
attribute [go_sem] F30.r6
attribute [go_sem] F30.r7
attribute [go_sem] F30.r5
attribute [go_sem] F30.r8
attribute [go_sem] F31.r0
attribute [go_sem] F31.r1
attribute [go_sem] F31.r2
attribute [go_sem] F31.r3
attribute [go_sem] F31.r5
attribute [go_sem] F31.r6
attribute [go_sem] F31.r4
attribute [go_sem] F31.r7
attribute [go_sem] F31.r8
attribute [go_sem] F31.r9
attribute [go_sem] F32.r0
attribute [go_sem] F32.r1
attribute [go_sem] F32.r2
attribute [go_sem] F32.r3
attribute [go_sem] F32.r4
attribute [go_sem] F33.r0
attribute [go_sem] F33.r1
attribute [go_sem] F33.r2
attribute [go_sem] F33.r3
attribute [go_sem] F33.r4
attribute [go_sem] F33.r5
attribute [go_sem] F34.r0
attribute [go_sem] F34.r1
attribute [go_sem] F34.r2
attribute [go_sem] F34.r3
attribute [go_sem] F34.r5
attribute [go_sem] F34.r4
attribute [go_sem] F34.r6
attribute [go_sem] F35.r0
attribute [go_sem] F35.r1
attribute [go_sem] F35.r2
attribute [go_sem] F35.r3
attribute [go_sem] F36.r0
attribute [go_sem] F36.r1
attribute [go_sem] F36.r2
attribute [go_sem] F36.r3
attribute [go_sem] F36.r4
attribute [go_sem] F36.r5
attribute [go_sem] F36.r6
attribute [go_sem] F36.r7
attribute [go_sem] F36.r8
attribute [go_sem] F36.r9
attribute [go_sem] F36.r10
attribute [go_sem] F36.r11
attribute [go_sem] F36.r12
attribute [go_sem] F36.r13
attribute [go_sem] F36.r14
attribute [go_sem] F36.r15
attribute [go_sem] F36.r16
attribute [go_sem] F36.r17
attribute [go_sem] F36.r18
attribute [go_sem] F37.r0
attribute [go_sem] F37.r1
attribute [go_sem] F37.r2
attribute [go_sem] F37.r3
attribute [go_sem] F37.r4
attribute [go_sem] F37.r5
attribute [go_sem] F37.r6
attribute [go_sem] F37.r7
attribute [go_sem] F37.r8
attribute [go_sem] F38.r0
attribute [go_sem] F38.r1
attribute [go_sem] F39.r0
attribute [go_sem] F39.r1
attribute [go_sem] F39.r2
attribute [go_sem] F39.r3
attribute [go_sem] F39.r4
attribute [go_sem] F39.r5
attribute [go_sem] F40.r0
attribute [go_sem] F40.r1
attribute [go_sem] F40.r2
attribute [go_sem] F40.r3
attribute [go_sem] F40.r4
attribute [go_sem] F40.r5
attribute [go_sem] F41.r0
attribute [go_sem] F41.r1
attribute [go_sem] F41.r2
attribute [go_sem] F41.r3
attribute [go_sem] F41.r4
attribute [go_sem] F41.r5
attribute [go_sem] F41.r6
attribute [go_sem] F41.r7
attribute [go_sem] F41.r8
attribute [go_sem] F42.r0
attribute [go_sem] F42.r1
attribute [go_sem] F42.r2
attribute [go_sem] F42.r3
attribute [go_sem] F42.r4
attribute [go_sem] F42.r5
attribute [go_sem] F42.r6
attribute [go_sem] F42.r7
attribute [go_sem] F42.r8
attribute [go_sem] F42.r9
attribute [go_sem] F42.r10
attribute [go_sem] F42.r11
attribute [go_sem] F42.r12
attribute [go_sem] F42.r13
attribute [go_sem] F42.r14
attribute [go_sem] F42.r15
attribute [go_sem] F42.r16
attribute [go_sem] F42.r17
attribute [go_sem] F42.r18
attribute [go_sem] F42.r19
attribute [go_sem] F43.r0
attribute [go_sem] F43.r1
attribute [go_sem] F44.r0
attribute [go_sem] F44.r1
attribute [go_sem] F44.r2
attribute [go_sem] F44.r3
attribute [go_sem] F44.r4
attribute [go_sem] F44.r5
attribute [go_sem] F44.r6
attribute [go_sem] F44.r7
attribute [go_sem] F45.r0
attribute [go_sem] F45.r1
attribute [go_sem] F45.r2
attribute [go_sem] F45.r3
attribute [go_sem] F45.r4
attribute [go_sem] F45.r5
attribute [go_sem] F45.r6
attribute [go_sem] F45.r7
attribute [go_sem] F45.r8
attribute [go_sem] F45.r9
attribute [go_sem] F45.r10
attribute [go_sem] F45.r11
attribute [go_sem] F46.r0
attribute [go_sem] F46.r1
attribute [go_sem] F46.r2
attribute [go_sem] F46.r3
attribute [go_sem] F46.r5
attribute [go_sem] F46.r6
attribute [go_sem] F46.r7
attribute [go_sem] F46.r8
attribute [go_sem] F46.r4
attribute [go_sem] F46.r9
attribute [go_sem] F47.r0
attribute [go_sem] F47.r1
attribute [go_sem] F47.r2
attribute [go_sem] F48.r0
attribute [go_sem] F48.r1
attribute [go_sem] F48.r2
attribute [go_sem] F48.r3
attribute [go_sem] F49.r0
attribute [go_sem] F49.r1
attribute [go_sem] F50.r0
attribute [go_sem] F50.r1
attribute [go_sem] F51.r0
attribute [go_sem] F51.r1
attribute [go_sem] F51.r2
attribute [go_sem] F51.r3
attribute [go_sem] F51.r4
attribute [go_sem] F52.r0
attribute [go_sem] F52.r1
attribute [go_sem] F52.r2
attribute [go_sem] F53.r0
attribute [go_sem] F53.r1
attribute [go_sem] F54.r0
attribute [go_sem] F54.r1
attribute [go_sem] F55.r0
attribute [go_sem] F55.r1
attribute [go_sem] F55.r2
attribute [go_sem] F55.r3
attribute [go_sem] F55.r4
attribute [go_sem] F55.r5
attribute [go_sem] F55.r6
attribute [go_sem] F55.r7
attribute [go_sem] F55.r8
attribute [go_sem] F55.r9
attribute [go_sem] F55.r10
attribute [go_sem] F55.r11
attribute [go_sem] F55.r12
attribute [go_sem] F56.r0
attribute [go_sem] F56.r1
attribute [go_sem] F57.r0
attribute [go_sem] F57.r1
attribute [go_sem] F57.r2
attribute [go_sem] F57.r3
attribute [go_sem] F57.r4
attribute [go_sem] F57.r5
attribute [go_sem] F57.r6
attribute [go_sem] F57.r7
attribute [go_sem] F57.r8
attribute [go_sem] F58.r0
attribute [go_sem] F58.r1
attribute [go_sem] F58.r2
attribute [go_sem] F58.r3
attribute [go_sem] F58.r4
attribute [go_sem] F58.r5
attribute [go_sem] F58.r6
attribute [go_sem] F58.r7
attribute [go_sem] F58.r8
attribute [go_sem] F59.r0
attribute [go_sem] F59.r1
attribute [go_sem] F59.r2
attribute [go_sem] F59.r3
attribute [go_sem] F59.r4
attribute [go_sem] F59.r5
attribute [go_sem] F60.r0
attribute [go_sem] F60.r1
attribute [go_sem] F60.r2
attribute [go_sem] F60.r3
attribute [go_sem] F60.r4
attribute [go_sem] F60.r5
attribute [go_sem] F60.r6
attribute [go_sem] F60.r7
attribute [go_sem] F61.r0
attribute [go_sem] F61.r1
attribute [go_sem] F65.r0
attribute [go_sem] F65.r1
attribute [go_sem] F65.r2
attribute [go_sem] F65.r3
attribute [go_sem] F68.r0
attribute [go_sem] F68.r1
attribute [go_sem] F68.r2
attribute [go_sem] F68.r3
attribute [go_sem] F69.r0
attribute [go_sem] F69.r1
attribute [go_sem] F70.r0
attribute [go_sem] F70.r1
attribute [go_sem] F71.r0
attribute [go_sem] F71.r1
attribute [go_sem] F71.r2
attribute [go_sem] F71.r3
attribute [go_sem] F71.r4
attribute [go_sem] F71.r5
attribute [go_sem] F71.r6
attribute [go_sem] F71.r7
attribute [go_sem] F88.r0
attribute [go_sem] F88.r1
attribute [go_sem] F89.r0
attribute [go_sem] F89.r1
attribute [go_sem] F89.r2
attribute [go_sem] F89.r3
attribute [go_sem] F89.r4
attribute [go_sem] F89.r5
attribute [go_sem] F89.r6
attribute [go_sem] F89.r7
attribute [go_sem] F89.r8
attribute [go_sem] F89.r9
attribute [go_sem] F89.r10
attribute [go_sem] F90.r0
attribute [go_sem] F90.r34
attribute [go_sem] F90.r35
attribute [go_sem] F90.r36
attribute [go_sem] F90.r37
attribute [go_sem] F90.r38
attribute [go_sem] F90.r39
attribute [go_sem] F90.r40
attribute [go_sem] F90.r41
attribute [go_sem] F90.r42
attribute [go_sem] F90.r43
attribute [go_sem] F90.r44
attribute [go_sem] F90.r1
attribute [go_sem] F90.r2
attribute [go_sem] F90.r3
attribute [go_sem] F90.r4
attribute [go_sem] F90.r5
attribute [go_sem] F90.r6
attribute [go_sem] F90.r7
attribute [go_sem] F90.r8
attribute [go_sem] F90.r9
attribute [go_sem] F90.r10
attribute [go_sem] F90.r11
attribute [go_sem] F90.r12
attribute [go_sem] F90.r14
attribute [go_sem] F90.r13
attribute [go_sem] F90.r15
attribute [go_sem] F90.r16
attribute [go_sem] F90.r17
attribute [go_sem] F90.r18
attribute [go_sem] F90.r19
attribute [go_sem] F90.r20
attribute [go_sem] F90.r21
attribute [go_sem] F90.r22
attribute [go_sem] F90.r23
attribute [go_sem] F90.r24
attribute [go_sem] F90.r25
attribute [go_sem] F90.r27
attribute [go_sem] F90.r28
attribute [go_sem] F90.r29
attribute [go_sem] F90.r31
attribute [go_sem] F90.r30
attribute [go_sem] F90.r32
attribute [go_sem] F90.r26
attribute [go_sem] F90.r33
attribute [go_sem] F103.r0
attribute [go_sem] F103.r1
attribute [go_sem] F103.r2
attribute [go_sem] F103.r3
attribute [go_sem] F103.r4
attribute [go_sem] F103.r5

end Go.Proofs.YtkijkoakloacoaaDoor

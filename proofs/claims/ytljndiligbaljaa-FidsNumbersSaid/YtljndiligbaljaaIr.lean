/- The compiled code of the functions, by program (genir.py): each with the theorem that it is what the engine makes of the loaded program's. -/
import Derived.Test.YtljndiligbaljaaIrA
namespace Go.Proofs.Ytljndiligbaljaa
open Go
set_option maxRecDepth 100000

def F82.r0 : List Oper := [
  ⟨(some 6), (.assign (.const (.bool false))), 4, "", #[], none⟩]
def F82.r1 : List Oper := [
  ⟨(some 11), (.move (.tmp 1)), 3, "", #[], none⟩,
  ⟨(some 12), (.binOp .add 3 (.tmp 11) (.const (.int .i64 1)) 3), 3, "", #[], none⟩,
  ⟨(some 7), (.assign (.tmp 12)), 3, "", #[], none⟩]
def F82.r2 : List Oper := [
  ⟨(some 8), (.assign (.const (.int .i64 0))), 3, "", #[], none⟩]
def F82.r3 : List Oper := [
  ⟨(some 13), (.move (.tmp 8)), 3, "", #[], none⟩,
  ⟨(some 14), (.binOp .lss 3 (.tmp 13) (.const (.int .i64 5)) 3), 4, "", #[], none⟩]
def F82.r5 : List Oper := [
  ⟨(some 17), (.move (.tmp 7)), 3, "", #[], none⟩,
  ⟨(some 18), (.move (.tmp 2)), 3, "", #[], none⟩,
  ⟨(some 19), (.binOp .lss 3 (.tmp 17) (.tmp 18) 3), 4, "", #[], none⟩,
  ⟨(some 20), (.move (.tmp 19)), 4, "", #[], none⟩,
  ⟨(some 21), (.move (.tmp 0)), 32, "", #[], (some (20, true))⟩,
  ⟨(some 22), (.move (.tmp 7)), 3, "", #[], (some (20, true))⟩,
  ⟨(some 23), (.indexAddr 32 (.tmp 21) (.tmp 22)), 0, "", #[], (some (20, true))⟩,
  ⟨(some 25), (.move (.tmp 0)), 32, "", #[], (some (20, true))⟩,
  ⟨(some 26), (.move (.tmp 7)), 3, "", #[], (some (20, true))⟩,
  ⟨(some 27), (.binOp .sub 3 (.tmp 26) (.const (.int .i64 1)) 3), 3, "", #[], (some (20, true))⟩,
  ⟨(some 28), (.indexAddr 32 (.tmp 25) (.tmp 27)), 0, "", #[], (some (20, true))⟩,
  ⟨(some 24), (.load 35 (.tmp 23)), 35, "", #[⟨8192, .data⟩], (some (20, true))⟩,
  ⟨(some 29), (.load 35 (.tmp 28)), 35, "", #[⟨8192, .data⟩], (some (20, true))⟩,
  ⟨(some 30), (.call ⟨(.value (.func 83)), #[(.tmp 24), (.tmp 29)], #[35, 35]⟩), 4, "", #[⟨13, .chain⟩], (some (20, true))⟩,
  ⟨(some 31), (.unOp .not 4 (.tmp 30)), 4, "", #[], (some (20, true))⟩,
  ⟨(some 32), (.pick (.tmp 20) (.tmp 31) (.const (.bool false))), 4, "", #[], none⟩]
def F82.r6 : List Oper := [
  ⟨(some 33), (.move (.tmp 7)), 3, "", #[], none⟩,
  ⟨(some 34), (.binOp .add 3 (.tmp 33) (.const (.int .i64 1)) 3), 3, "", #[], none⟩,
  ⟨(some 7), (.assign (.tmp 34)), 3, "", #[], none⟩]
def F82.r7 : List Oper := [
  ⟨(some 35), (.move (.tmp 7)), 3, "", #[], none⟩,
  ⟨(some 36), (.move (.tmp 2)), 3, "", #[], none⟩,
  ⟨(some 37), (.binOp .eql 3 (.tmp 35) (.tmp 36) 3), 4, "", #[], none⟩]
def F82.r8 : List Oper := [
  ⟨(some 6), (.assign (.const (.bool true))), 4, "", #[], none⟩]
def F82.r9 : List Oper := [
  ⟨(some 38), (.move (.tmp 2)), 3, "", #[], none⟩,
  ⟨(some 39), (.move (.tmp 1)), 3, "", #[], none⟩,
  ⟨(some 40), (.binOp .sub 3 (.tmp 38) (.tmp 39) 3), 3, "", #[], none⟩,
  ⟨(some 41), (.binOp .lss 3 (.tmp 40) (.const (.int .i64 50)) 3), 4, "", #[], none⟩]
def F82.r10 : List Oper := [
  ⟨(some 6), (.assign (.const (.bool false))), 4, "", #[], none⟩]
def F82.r11 : List Oper := [
  ⟨(some 42), (.move (.tmp 0)), 32, "", #[], none⟩,
  ⟨(some 43), (.move (.tmp 7)), 3, "", #[], none⟩,
  ⟨(some 44), (.move (.tmp 0)), 32, "", #[], none⟩,
  ⟨(some 45), (.move (.tmp 7)), 3, "", #[], none⟩,
  ⟨(some 46), (.binOp .sub 3 (.tmp 45) (.const (.int .i64 1)) 3), 3, "", #[], none⟩,
  ⟨(some 47), (.move (.tmp 0)), 32, "", #[], none⟩,
  ⟨(some 48), (.move (.tmp 7)), 3, "", #[], none⟩,
  ⟨(some 49), (.binOp .sub 3 (.tmp 48) (.const (.int .i64 1)) 3), 3, "", #[], none⟩,
  ⟨(some 50), (.indexAddr 32 (.tmp 47) (.tmp 49)), 0, "", #[], none⟩,
  ⟨(some 52), (.move (.tmp 0)), 32, "", #[], none⟩,
  ⟨(some 53), (.move (.tmp 7)), 3, "", #[], none⟩,
  ⟨(some 54), (.indexAddr 32 (.tmp 52) (.tmp 53)), 0, "", #[], none⟩,
  ⟨(some 51), (.load 35 (.tmp 50)), 35, "", #[⟨163840, .data⟩], none⟩,
  ⟨(some 55), (.load 35 (.tmp 54)), 35, "", #[⟨163840, .data⟩], none⟩,
  ⟨(some 56), (.indexAddr 32 (.tmp 42) (.tmp 43)), 0, "", #[], none⟩,
  ⟨none, (.store 35 (.tmp 56) (.tmp 51)), 0, "", #[⟨15, .chain⟩], none⟩,
  ⟨(some 57), (.indexAddr 32 (.tmp 44) (.tmp 46)), 0, "", #[], none⟩,
  ⟨none, (.store 35 (.tmp 57) (.tmp 55)), 0, "", #[⟨17, .chain⟩], none⟩]
def F82.r12 : List Oper := [
  ⟨(some 58), (.move (.tmp 7)), 3, "", #[], none⟩,
  ⟨(some 59), (.move (.tmp 1)), 3, "", #[], none⟩,
  ⟨(some 60), (.binOp .sub 3 (.tmp 58) (.tmp 59) 3), 3, "", #[], none⟩,
  ⟨(some 61), (.binOp .geq 3 (.tmp 60) (.const (.int .i64 2)) 3), 4, "", #[], none⟩]
def F82.r13 : List Oper := [
  ⟨(some 62), (.move (.tmp 7)), 3, "", #[], none⟩,
  ⟨(some 63), (.binOp .sub 3 (.tmp 62) (.const (.int .i64 1)) 3), 3, "", #[], none⟩,
  ⟨(some 9), (.assign (.tmp 63)), 3, "", #[], none⟩]
def F82.r14 : List Oper := [
  ⟨(some 64), (.move (.tmp 9)), 3, "", #[], none⟩,
  ⟨(some 65), (.binOp .geq 3 (.tmp 64) (.const (.int .i64 1)) 3), 4, "", #[], none⟩]
def F82.r16 : List Oper := [
  ⟨(some 68), (.move (.tmp 0)), 32, "", #[], none⟩,
  ⟨(some 69), (.move (.tmp 9)), 3, "", #[], none⟩,
  ⟨(some 70), (.indexAddr 32 (.tmp 68) (.tmp 69)), 0, "", #[], none⟩,
  ⟨(some 72), (.move (.tmp 0)), 32, "", #[], none⟩,
  ⟨(some 73), (.move (.tmp 9)), 3, "", #[], none⟩,
  ⟨(some 74), (.binOp .sub 3 (.tmp 73) (.const (.int .i64 1)) 3), 3, "", #[], none⟩,
  ⟨(some 75), (.indexAddr 32 (.tmp 72) (.tmp 74)), 0, "", #[], none⟩,
  ⟨(some 71), (.load 35 (.tmp 70)), 35, "", #[⟨512, .data⟩], none⟩,
  ⟨(some 76), (.load 35 (.tmp 75)), 35, "", #[⟨512, .data⟩], none⟩,
  ⟨(some 77), (.call ⟨(.value (.func 83)), #[(.tmp 71), (.tmp 76)], #[35, 35]⟩), 4, "", #[⟨9, .chain⟩], none⟩,
  ⟨(some 78), (.unOp .not 4 (.tmp 77)), 4, "", #[], none⟩]
def F82.r17 : List Oper := [
  ⟨(some 79), (.move (.tmp 0)), 32, "", #[], none⟩,
  ⟨(some 80), (.move (.tmp 9)), 3, "", #[], none⟩,
  ⟨(some 81), (.move (.tmp 0)), 32, "", #[], none⟩,
  ⟨(some 82), (.move (.tmp 9)), 3, "", #[], none⟩,
  ⟨(some 83), (.binOp .sub 3 (.tmp 82) (.const (.int .i64 1)) 3), 3, "", #[], none⟩,
  ⟨(some 84), (.move (.tmp 0)), 32, "", #[], none⟩,
  ⟨(some 85), (.move (.tmp 9)), 3, "", #[], none⟩,
  ⟨(some 86), (.binOp .sub 3 (.tmp 85) (.const (.int .i64 1)) 3), 3, "", #[], none⟩,
  ⟨(some 87), (.indexAddr 32 (.tmp 84) (.tmp 86)), 0, "", #[], none⟩,
  ⟨(some 89), (.move (.tmp 0)), 32, "", #[], none⟩,
  ⟨(some 90), (.move (.tmp 9)), 3, "", #[], none⟩,
  ⟨(some 91), (.indexAddr 32 (.tmp 89) (.tmp 90)), 0, "", #[], none⟩,
  ⟨(some 88), (.load 35 (.tmp 87)), 35, "", #[⟨163840, .data⟩], none⟩,
  ⟨(some 92), (.load 35 (.tmp 91)), 35, "", #[⟨163840, .data⟩], none⟩,
  ⟨(some 93), (.indexAddr 32 (.tmp 79) (.tmp 80)), 0, "", #[], none⟩,
  ⟨none, (.store 35 (.tmp 93) (.tmp 88)), 0, "", #[⟨15, .chain⟩], none⟩,
  ⟨(some 94), (.indexAddr 32 (.tmp 81) (.tmp 83)), 0, "", #[], none⟩,
  ⟨none, (.store 35 (.tmp 94) (.tmp 92)), 0, "", #[⟨17, .chain⟩], none⟩]
def F82.r15 : List Oper := [
  ⟨(some 66), (.move (.tmp 9)), 3, "", #[], none⟩,
  ⟨(some 67), (.binOp .sub 3 (.tmp 66) (.const (.int .i64 1)) 3), 3, "", #[], none⟩,
  ⟨(some 9), (.assign (.tmp 67)), 3, "", #[], none⟩]
def F82.r18 : List Oper := [
  ⟨(some 95), (.move (.tmp 2)), 3, "", #[], none⟩,
  ⟨(some 96), (.move (.tmp 7)), 3, "", #[], none⟩,
  ⟨(some 97), (.binOp .sub 3 (.tmp 95) (.tmp 96) 3), 3, "", #[], none⟩,
  ⟨(some 98), (.binOp .geq 3 (.tmp 97) (.const (.int .i64 2)) 3), 4, "", #[], none⟩]
def F82.r19 : List Oper := [
  ⟨(some 99), (.move (.tmp 7)), 3, "", #[], none⟩,
  ⟨(some 100), (.binOp .add 3 (.tmp 99) (.const (.int .i64 1)) 3), 3, "", #[], none⟩,
  ⟨(some 10), (.assign (.tmp 100)), 3, "", #[], none⟩]
def F82.r20 : List Oper := [
  ⟨(some 101), (.move (.tmp 10)), 3, "", #[], none⟩,
  ⟨(some 102), (.move (.tmp 2)), 3, "", #[], none⟩,
  ⟨(some 103), (.binOp .lss 3 (.tmp 101) (.tmp 102) 3), 4, "", #[], none⟩]
def F82.r22 : List Oper := [
  ⟨(some 106), (.move (.tmp 0)), 32, "", #[], none⟩,
  ⟨(some 107), (.move (.tmp 10)), 3, "", #[], none⟩,
  ⟨(some 108), (.indexAddr 32 (.tmp 106) (.tmp 107)), 0, "", #[], none⟩,
  ⟨(some 110), (.move (.tmp 0)), 32, "", #[], none⟩,
  ⟨(some 111), (.move (.tmp 10)), 3, "", #[], none⟩,
  ⟨(some 112), (.binOp .sub 3 (.tmp 111) (.const (.int .i64 1)) 3), 3, "", #[], none⟩,
  ⟨(some 113), (.indexAddr 32 (.tmp 110) (.tmp 112)), 0, "", #[], none⟩,
  ⟨(some 109), (.load 35 (.tmp 108)), 35, "", #[⟨512, .data⟩], none⟩,
  ⟨(some 114), (.load 35 (.tmp 113)), 35, "", #[⟨512, .data⟩], none⟩,
  ⟨(some 115), (.call ⟨(.value (.func 83)), #[(.tmp 109), (.tmp 114)], #[35, 35]⟩), 4, "", #[⟨9, .chain⟩], none⟩,
  ⟨(some 116), (.unOp .not 4 (.tmp 115)), 4, "", #[], none⟩]
def F82.r23 : List Oper := [
  ⟨(some 117), (.move (.tmp 0)), 32, "", #[], none⟩,
  ⟨(some 118), (.move (.tmp 10)), 3, "", #[], none⟩,
  ⟨(some 119), (.move (.tmp 0)), 32, "", #[], none⟩,
  ⟨(some 120), (.move (.tmp 10)), 3, "", #[], none⟩,
  ⟨(some 121), (.binOp .sub 3 (.tmp 120) (.const (.int .i64 1)) 3), 3, "", #[], none⟩,
  ⟨(some 122), (.move (.tmp 0)), 32, "", #[], none⟩,
  ⟨(some 123), (.move (.tmp 10)), 3, "", #[], none⟩,
  ⟨(some 124), (.binOp .sub 3 (.tmp 123) (.const (.int .i64 1)) 3), 3, "", #[], none⟩,
  ⟨(some 125), (.indexAddr 32 (.tmp 122) (.tmp 124)), 0, "", #[], none⟩,
  ⟨(some 127), (.move (.tmp 0)), 32, "", #[], none⟩,
  ⟨(some 128), (.move (.tmp 10)), 3, "", #[], none⟩,
  ⟨(some 129), (.indexAddr 32 (.tmp 127) (.tmp 128)), 0, "", #[], none⟩,
  ⟨(some 126), (.load 35 (.tmp 125)), 35, "", #[⟨163840, .data⟩], none⟩,
  ⟨(some 130), (.load 35 (.tmp 129)), 35, "", #[⟨163840, .data⟩], none⟩,
  ⟨(some 131), (.indexAddr 32 (.tmp 117) (.tmp 118)), 0, "", #[], none⟩,
  ⟨none, (.store 35 (.tmp 131) (.tmp 126)), 0, "", #[⟨15, .chain⟩], none⟩,
  ⟨(some 132), (.indexAddr 32 (.tmp 119) (.tmp 121)), 0, "", #[], none⟩,
  ⟨none, (.store 35 (.tmp 132) (.tmp 130)), 0, "", #[⟨17, .chain⟩], none⟩]
def F82.r21 : List Oper := [
  ⟨(some 104), (.move (.tmp 10)), 3, "", #[], none⟩,
  ⟨(some 105), (.binOp .add 3 (.tmp 104) (.const (.int .i64 1)) 3), 3, "", #[], none⟩,
  ⟨(some 10), (.assign (.tmp 105)), 3, "", #[], none⟩]
def F82.r4 : List Oper := [
  ⟨(some 15), (.move (.tmp 8)), 3, "", #[], none⟩,
  ⟨(some 16), (.binOp .add 3 (.tmp 15) (.const (.int .i64 1)) 3), 3, "", #[], none⟩,
  ⟨(some 8), (.assign (.tmp 16)), 3, "", #[], none⟩]
def F82.r24 : List Oper := [
  ⟨(some 6), (.assign (.const (.bool false))), 4, "", #[], none⟩]
def F82.t6 : Cd := (.block 3 (.region 6 F82.r6.toArray false))
theorem F82.t6_eq {P : Program} {Q : Post} {e : FA} {w : World} {θ : Tag (F82.t6, Q, e, w)} : cwE P F82.t6 Q e w θ = cwE P (.block 3 (.region 6 F82.r6.toArray false)) Q e w := rfl
def F82.t17 : Cd := (.region 17 F82.r17.toArray true)
theorem F82.t17_eq {P : Program} {Q : Post} {e : FA} {w : World} {θ : Tag (F82.t17, Q, e, w)} : cwE P F82.t17 Q e w θ = cwE P (.region 17 F82.r17.toArray true) Q e w := rfl
def F82.t15 : Cd := (.region 15 F82.r15.toArray false)
theorem F82.t15_eq {P : Program} {Q : Post} {e : FA} {w : World} {θ : Tag (F82.t15, Q, e, w)} : cwE P F82.t15 Q e w θ = cwE P (.region 15 F82.r15.toArray false) Q e w := rfl
def F82.t16 : Cd := (.seq (.block 5 (.seq (.seq (.region 16 F82.r16.toArray true) (.cond (.tmp 78) (.exit 4) .skip)) F82.t17)) F82.t15)
theorem F82.t16_eq {P : Program} {Q : Post} {e : FA} {w : World} {θ : Tag (F82.t16, Q, e, w)} : cwE P F82.t16 Q e w θ = cwE P (.seq (.block 5 (.seq (.seq (.region 16 F82.r16.toArray true) (.cond (.tmp 78) (.exit 4) .skip)) F82.t17)) F82.t15) Q e w := rfl
def F82.t23 : Cd := (.region 23 F82.r23.toArray true)
theorem F82.t23_eq {P : Program} {Q : Post} {e : FA} {w : World} {θ : Tag (F82.t23, Q, e, w)} : cwE P F82.t23 Q e w θ = cwE P (.region 23 F82.r23.toArray true) Q e w := rfl
def F82.t21 : Cd := (.region 21 F82.r21.toArray false)
theorem F82.t21_eq {P : Program} {Q : Post} {e : FA} {w : World} {θ : Tag (F82.t21, Q, e, w)} : cwE P F82.t21 Q e w θ = cwE P (.region 21 F82.r21.toArray false) Q e w := rfl
def F82.t22 : Cd := (.seq (.block 7 (.seq (.seq (.region 22 F82.r22.toArray true) (.cond (.tmp 116) (.exit 6) .skip)) F82.t23)) F82.t21)
theorem F82.t22_eq {P : Program} {Q : Post} {e : FA} {w : World} {θ : Tag (F82.t22, Q, e, w)} : cwE P F82.t22 Q e w θ = cwE P (.seq (.block 7 (.seq (.seq (.region 22 F82.r22.toArray true) (.cond (.tmp 116) (.exit 6) .skip)) F82.t23)) F82.t21) Q e w := rfl
def F82.t18 : Cd := (.seq (.region 18 F82.r18.toArray false) (.cond (.tmp 98) (.seq (.region 19 F82.r19.toArray false) (.block 6 (.loop (.seq (.seq (.region 20 F82.r20.toArray false) (.cond (.tmp 103) .skip (.exit 6))) F82.t22)))) .skip))
theorem F82.t18_eq {P : Program} {Q : Post} {e : FA} {w : World} {θ : Tag (F82.t18, Q, e, w)} : cwE P F82.t18 Q e w θ = cwE P (.seq (.region 18 F82.r18.toArray false) (.cond (.tmp 98) (.seq (.region 19 F82.r19.toArray false) (.block 6 (.loop (.seq (.seq (.region 20 F82.r20.toArray false) (.cond (.tmp 103) .skip (.exit 6))) F82.t22)))) .skip)) Q e w := rfl
def F82.t11 : Cd := (.seq (.region 11 F82.r11.toArray true) (.seq (.seq (.region 12 F82.r12.toArray false) (.cond (.tmp 61) (.seq (.region 13 F82.r13.toArray false) (.block 4 (.loop (.seq (.seq (.region 14 F82.r14.toArray false) (.cond (.tmp 65) .skip (.exit 4))) F82.t16)))) .skip)) F82.t18))
theorem F82.t11_eq {P : Program} {Q : Post} {e : FA} {w : World} {θ : Tag (F82.t11, Q, e, w)} : cwE P F82.t11 Q e w θ = cwE P (.seq (.region 11 F82.r11.toArray true) (.seq (.seq (.region 12 F82.r12.toArray false) (.cond (.tmp 61) (.seq (.region 13 F82.r13.toArray false) (.block 4 (.loop (.seq (.seq (.region 14 F82.r14.toArray false) (.cond (.tmp 65) .skip (.exit 4))) F82.t16)))) .skip)) F82.t18)) Q e w := rfl
def F82.t9 : Cd := (.seq (.seq (.region 9 F82.r9.toArray false) (.cond (.tmp 41) (.seq (.region 10 F82.r10.toArray false) .ret) .skip)) F82.t11)
theorem F82.t9_eq {P : Program} {Q : Post} {e : FA} {w : World} {θ : Tag (F82.t9, Q, e, w)} : cwE P F82.t9 Q e w θ = cwE P (.seq (.seq (.region 9 F82.r9.toArray false) (.cond (.tmp 41) (.seq (.region 10 F82.r10.toArray false) .ret) .skip)) F82.t11) Q e w := rfl
def F82.t7 : Cd := (.seq (.seq (.region 7 F82.r7.toArray false) (.cond (.tmp 37) (.seq (.region 8 F82.r8.toArray false) .ret) .skip)) F82.t9)
theorem F82.t7_eq {P : Program} {Q : Post} {e : FA} {w : World} {θ : Tag (F82.t7, Q, e, w)} : cwE P F82.t7 Q e w θ = cwE P (.seq (.seq (.region 7 F82.r7.toArray false) (.cond (.tmp 37) (.seq (.region 8 F82.r8.toArray false) .ret) .skip)) F82.t9) Q e w := rfl
def F82.t4 : Cd := (.region 4 F82.r4.toArray false)
theorem F82.t4_eq {P : Program} {Q : Post} {e : FA} {w : World} {θ : Tag (F82.t4, Q, e, w)} : cwE P F82.t4 Q e w θ = cwE P (.region 4 F82.r4.toArray false) Q e w := rfl
def F82.t5 : Cd := (.seq (.block 1 (.seq (.block 2 (.loop (.seq (.seq (.region 5 F82.r5.toArray true) (.cond (.tmp 32) .skip (.exit 2))) F82.t6))) F82.t7)) F82.t4)
theorem F82.t5_eq {P : Program} {Q : Post} {e : FA} {w : World} {θ : Tag (F82.t5, Q, e, w)} : cwE P F82.t5 Q e w θ = cwE P (.seq (.block 1 (.seq (.block 2 (.loop (.seq (.seq (.region 5 F82.r5.toArray true) (.cond (.tmp 32) .skip (.exit 2))) F82.t6))) F82.t7)) F82.t4) Q e w := rfl
def F82.t24 : Cd := (.seq (.region 24 F82.r24.toArray false) .ret)
theorem F82.t24_eq {P : Program} {Q : Post} {e : FA} {w : World} {θ : Tag (F82.t24, Q, e, w)} : cwE P F82.t24 Q e w θ = cwE P (.seq (.region 24 F82.r24.toArray false) .ret) Q e w := rfl
def F82.code : Cd := (.seq (.region 0 F82.r0.toArray false) (.seq (.region 1 F82.r1.toArray false) (.seq (.seq (.region 2 F82.r2.toArray false) (.block 0 (.loop (.seq (.seq (.region 3 F82.r3.toArray false) (.cond (.tmp 14) .skip (.exit 0))) F82.t5)))) F82.t24)))
theorem F82.calls {args : Array Value} {w : World} {R : Ending → World → Prop} (hn : args.size ≤ 133) (h : cwE Try.prog F82.code (fnP Try.prog #[(.tmp 6)] R) (entry args) w) : Calls Try.prog 82 args w R :=
  calls_of_cwE (types := Try.prog.types) follows Try.func82 F82.code rfl (by kernel_rfl) hn h

def F83.r0 : List Oper := [
  ⟨(some 4), (.assign (.const (.bool false))), 4, "", #[], none⟩]
def F83.r1 : List Oper := [
  ⟨(some 5), (.move (.tmp 0)), 35, "", #[], none⟩,
  ⟨(some 6), (.call ⟨(.value (.func 93)), #[(.tmp 5)], #[35]⟩), 4, "", #[⟨0, .chain⟩], none⟩,
  ⟨(some 7), (.move (.tmp 6)), 4, "", #[], none⟩,
  ⟨(some 8), (.move (.tmp 1)), 35, "", #[], (some (7, true))⟩,
  ⟨(some 9), (.call ⟨(.value (.func 93)), #[(.tmp 8)], #[35]⟩), 4, "", #[⟨0, .chain⟩], (some (7, true))⟩,
  ⟨(some 10), (.unOp .not 4 (.tmp 9)), 4, "", #[], (some (7, true))⟩,
  ⟨(some 11), (.pick (.tmp 7) (.tmp 10) (.const (.bool false))), 4, "", #[], none⟩,
  ⟨(some 12), (.move (.tmp 11)), 4, "", #[], none⟩,
  ⟨(some 13), (.move (.tmp 0)), 35, "", #[], (some (12, false))⟩,
  ⟨(some 14), (.move (.tmp 1)), 35, "", #[], (some (12, false))⟩,
  ⟨(some 15), (.binOp .lss 35 (.tmp 13) (.tmp 14) 35), 4, "", #[], (some (12, false))⟩,
  ⟨(some 16), (.pick (.tmp 12) (.const (.bool true)) (.tmp 15)), 4, "", #[], none⟩,
  ⟨(some 4), (.assign (.tmp 16)), 4, "", #[], none⟩]
def F83.code : Cd := (.seq (.region 0 F83.r0.toArray false) (.seq (.region 1 F83.r1.toArray false) .ret))
theorem F83.calls {args : Array Value} {w : World} {R : Ending → World → Prop} (hn : args.size ≤ 17) (h : cwE Try.prog F83.code (fnP Try.prog #[(.tmp 4)] R) (entry args) w) : Calls Try.prog 83 args w R :=
  calls_of_cwE (types := Try.prog.types) follows Try.func83 F83.code rfl (by kernel_rfl) hn h

def F84.r0 : List Oper := [
  ⟨(some 8), (.assign (.const (.int .i64 0))), 3, "", #[], none⟩]
def F84.r1 : List Oper := [
  ⟨(some 11), (.move (.tmp 0)), 32, "", #[], none⟩,
  ⟨(some 12), (.move (.tmp 1)), 3, "", #[], none⟩,
  ⟨(some 13), (.move (.tmp 0)), 32, "", #[], none⟩,
  ⟨(some 14), (.move (.tmp 3)), 3, "", #[], none⟩,
  ⟨(some 15), (.move (.tmp 0)), 32, "", #[], none⟩,
  ⟨(some 16), (.move (.tmp 3)), 3, "", #[], none⟩,
  ⟨(some 17), (.indexAddr 32 (.tmp 15) (.tmp 16)), 0, "", #[], none⟩,
  ⟨(some 19), (.move (.tmp 0)), 32, "", #[], none⟩,
  ⟨(some 20), (.move (.tmp 1)), 3, "", #[], none⟩,
  ⟨(some 21), (.indexAddr 32 (.tmp 19) (.tmp 20)), 0, "", #[], none⟩,
  ⟨(some 18), (.load 35 (.tmp 17)), 35, "", #[⟨40960, .data⟩], none⟩,
  ⟨(some 22), (.load 35 (.tmp 21)), 35, "", #[⟨40960, .data⟩], none⟩,
  ⟨(some 23), (.indexAddr 32 (.tmp 11) (.tmp 12)), 0, "", #[], none⟩,
  ⟨none, (.store 35 (.tmp 23) (.tmp 18)), 0, "", #[⟨13, .chain⟩], none⟩,
  ⟨(some 24), (.indexAddr 32 (.tmp 13) (.tmp 14)), 0, "", #[], none⟩,
  ⟨none, (.store 35 (.tmp 24) (.tmp 22)), 0, "", #[⟨15, .chain⟩], none⟩]
def F84.r2 : List Oper := [
  ⟨(some 25), (.move (.tmp 1)), 3, "", #[], none⟩,
  ⟨(some 26), (.binOp .add 3 (.tmp 25) (.const (.int .i64 1)) 3), 3, "", #[], none⟩,
  ⟨(some 27), (.move (.tmp 2)), 3, "", #[], none⟩,
  ⟨(some 28), (.binOp .sub 3 (.tmp 27) (.const (.int .i64 1)) 3), 3, "", #[], none⟩,
  ⟨(some 9), (.assign (.tmp 26)), 3, "", #[], none⟩,
  ⟨(some 10), (.assign (.tmp 28)), 3, "", #[], none⟩]
def F84.r3 : List Oper := [
  ⟨(some 29), (.move (.tmp 9)), 3, "", #[], none⟩,
  ⟨(some 30), (.move (.tmp 10)), 3, "", #[], none⟩,
  ⟨(some 31), (.binOp .leq 3 (.tmp 29) (.tmp 30) 3), 4, "", #[], none⟩,
  ⟨(some 32), (.move (.tmp 31)), 4, "", #[], none⟩,
  ⟨(some 33), (.move (.tmp 0)), 32, "", #[], (some (32, true))⟩,
  ⟨(some 34), (.move (.tmp 1)), 3, "", #[], (some (32, true))⟩,
  ⟨(some 35), (.indexAddr 32 (.tmp 33) (.tmp 34)), 0, "", #[], (some (32, true))⟩,
  ⟨(some 37), (.move (.tmp 0)), 32, "", #[], (some (32, true))⟩,
  ⟨(some 38), (.move (.tmp 9)), 3, "", #[], (some (32, true))⟩,
  ⟨(some 39), (.indexAddr 32 (.tmp 37) (.tmp 38)), 0, "", #[], (some (32, true))⟩,
  ⟨(some 36), (.load 35 (.tmp 35)), 35, "", #[⟨4096, .data⟩], (some (32, true))⟩,
  ⟨(some 40), (.load 35 (.tmp 39)), 35, "", #[⟨4096, .data⟩], (some (32, true))⟩,
  ⟨(some 41), (.call ⟨(.value (.func 83)), #[(.tmp 36), (.tmp 40)], #[35, 35]⟩), 4, "", #[⟨12, .chain⟩], (some (32, true))⟩,
  ⟨(some 42), (.unOp .not 4 (.tmp 41)), 4, "", #[], (some (32, true))⟩,
  ⟨(some 43), (.pick (.tmp 32) (.tmp 42) (.const (.bool false))), 4, "", #[], none⟩]
def F84.r4 : List Oper := [
  ⟨(some 44), (.move (.tmp 9)), 3, "", #[], none⟩,
  ⟨(some 45), (.binOp .add 3 (.tmp 44) (.const (.int .i64 1)) 3), 3, "", #[], none⟩,
  ⟨(some 9), (.assign (.tmp 45)), 3, "", #[], none⟩]
def F84.r5 : List Oper := [
  ⟨(some 46), (.move (.tmp 9)), 3, "", #[], none⟩,
  ⟨(some 47), (.move (.tmp 10)), 3, "", #[], none⟩,
  ⟨(some 48), (.binOp .leq 3 (.tmp 46) (.tmp 47) 3), 4, "", #[], none⟩,
  ⟨(some 49), (.move (.tmp 48)), 4, "", #[], none⟩,
  ⟨(some 50), (.move (.tmp 0)), 32, "", #[], (some (49, true))⟩,
  ⟨(some 51), (.move (.tmp 1)), 3, "", #[], (some (49, true))⟩,
  ⟨(some 52), (.indexAddr 32 (.tmp 50) (.tmp 51)), 0, "", #[], (some (49, true))⟩,
  ⟨(some 54), (.move (.tmp 0)), 32, "", #[], (some (49, true))⟩,
  ⟨(some 55), (.move (.tmp 10)), 3, "", #[], (some (49, true))⟩,
  ⟨(some 56), (.indexAddr 32 (.tmp 54) (.tmp 55)), 0, "", #[], (some (49, true))⟩,
  ⟨(some 53), (.load 35 (.tmp 52)), 35, "", #[⟨4096, .data⟩], (some (49, true))⟩,
  ⟨(some 57), (.load 35 (.tmp 56)), 35, "", #[⟨4096, .data⟩], (some (49, true))⟩,
  ⟨(some 58), (.call ⟨(.value (.func 83)), #[(.tmp 53), (.tmp 57)], #[35, 35]⟩), 4, "", #[⟨12, .chain⟩], (some (49, true))⟩,
  ⟨(some 59), (.pick (.tmp 49) (.tmp 58) (.const (.bool false))), 4, "", #[], none⟩]
def F84.r6 : List Oper := [
  ⟨(some 60), (.move (.tmp 10)), 3, "", #[], none⟩,
  ⟨(some 61), (.binOp .sub 3 (.tmp 60) (.const (.int .i64 1)) 3), 3, "", #[], none⟩,
  ⟨(some 10), (.assign (.tmp 61)), 3, "", #[], none⟩]
def F84.r7 : List Oper := [
  ⟨(some 62), (.move (.tmp 9)), 3, "", #[], none⟩,
  ⟨(some 63), (.move (.tmp 10)), 3, "", #[], none⟩,
  ⟨(some 64), (.binOp .gtr 3 (.tmp 62) (.tmp 63) 3), 4, "", #[], none⟩]
def F84.r8 : List Oper := [
  ⟨(some 65), (.move (.tmp 0)), 32, "", #[], none⟩,
  ⟨(some 66), (.move (.tmp 9)), 3, "", #[], none⟩,
  ⟨(some 67), (.move (.tmp 0)), 32, "", #[], none⟩,
  ⟨(some 68), (.move (.tmp 10)), 3, "", #[], none⟩,
  ⟨(some 69), (.move (.tmp 0)), 32, "", #[], none⟩,
  ⟨(some 70), (.move (.tmp 10)), 3, "", #[], none⟩,
  ⟨(some 71), (.indexAddr 32 (.tmp 69) (.tmp 70)), 0, "", #[], none⟩,
  ⟨(some 73), (.move (.tmp 0)), 32, "", #[], none⟩,
  ⟨(some 74), (.move (.tmp 9)), 3, "", #[], none⟩,
  ⟨(some 75), (.indexAddr 32 (.tmp 73) (.tmp 74)), 0, "", #[], none⟩,
  ⟨(some 72), (.load 35 (.tmp 71)), 35, "", #[⟨40960, .data⟩], none⟩,
  ⟨(some 76), (.load 35 (.tmp 75)), 35, "", #[⟨40960, .data⟩], none⟩,
  ⟨(some 77), (.indexAddr 32 (.tmp 65) (.tmp 66)), 0, "", #[], none⟩,
  ⟨none, (.store 35 (.tmp 77) (.tmp 72)), 0, "", #[⟨13, .chain⟩], none⟩,
  ⟨(some 78), (.indexAddr 32 (.tmp 67) (.tmp 68)), 0, "", #[], none⟩,
  ⟨none, (.store 35 (.tmp 78) (.tmp 76)), 0, "", #[⟨15, .chain⟩], none⟩]
def F84.r9 : List Oper := [
  ⟨(some 79), (.move (.tmp 9)), 3, "", #[], none⟩,
  ⟨(some 80), (.binOp .add 3 (.tmp 79) (.const (.int .i64 1)) 3), 3, "", #[], none⟩,
  ⟨(some 9), (.assign (.tmp 80)), 3, "", #[], none⟩]
def F84.r10 : List Oper := [
  ⟨(some 81), (.move (.tmp 10)), 3, "", #[], none⟩,
  ⟨(some 82), (.binOp .sub 3 (.tmp 81) (.const (.int .i64 1)) 3), 3, "", #[], none⟩,
  ⟨(some 10), (.assign (.tmp 82)), 3, "", #[], none⟩]
def F84.r11 : List Oper := [
  ⟨(some 83), (.move (.tmp 9)), 3, "", #[], none⟩,
  ⟨(some 8), (.assign (.tmp 83)), 3, "", #[], none⟩]
def F84.t4 : Cd := (.block 3 (.region 4 F84.r4.toArray false))
theorem F84.t4_eq {P : Program} {Q : Post} {e : FA} {w : World} {θ : Tag (F84.t4, Q, e, w)} : cwE P F84.t4 Q e w θ = cwE P (.block 3 (.region 4 F84.r4.toArray false)) Q e w := rfl
def F84.t6 : Cd := (.block 5 (.region 6 F84.r6.toArray false))
theorem F84.t6_eq {P : Program} {Q : Post} {e : FA} {w : World} {θ : Tag (F84.t6, Q, e, w)} : cwE P F84.t6 Q e w θ = cwE P (.block 5 (.region 6 F84.r6.toArray false)) Q e w := rfl
def F84.t8 : Cd := (.seq (.region 8 F84.r8.toArray true) (.seq (.region 9 F84.r9.toArray false) (.region 10 F84.r10.toArray false)))
theorem F84.t8_eq {P : Program} {Q : Post} {e : FA} {w : World} {θ : Tag (F84.t8, Q, e, w)} : cwE P F84.t8 Q e w θ = cwE P (.seq (.region 8 F84.r8.toArray true) (.seq (.region 9 F84.r9.toArray false) (.region 10 F84.r10.toArray false))) Q e w := rfl
def F84.t7 : Cd := (.seq (.seq (.region 7 F84.r7.toArray false) (.cond (.tmp 64) (.exit 0) .skip)) F84.t8)
theorem F84.t7_eq {P : Program} {Q : Post} {e : FA} {w : World} {θ : Tag (F84.t7, Q, e, w)} : cwE P F84.t7 Q e w θ = cwE P (.seq (.seq (.region 7 F84.r7.toArray false) (.cond (.tmp 64) (.exit 0) .skip)) F84.t8) Q e w := rfl
def F84.t5 : Cd := (.seq (.block 4 (.loop (.seq (.seq (.region 5 F84.r5.toArray true) (.cond (.tmp 59) .skip (.exit 4))) F84.t6))) F84.t7)
theorem F84.t5_eq {P : Program} {Q : Post} {e : FA} {w : World} {θ : Tag (F84.t5, Q, e, w)} : cwE P F84.t5 Q e w θ = cwE P (.seq (.block 4 (.loop (.seq (.seq (.region 5 F84.r5.toArray true) (.cond (.tmp 59) .skip (.exit 4))) F84.t6))) F84.t7) Q e w := rfl
def F84.t11 : Cd := (.seq (.region 11 F84.r11.toArray false) .ret)
theorem F84.t11_eq {P : Program} {Q : Post} {e : FA} {w : World} {θ : Tag (F84.t11, Q, e, w)} : cwE P F84.t11 Q e w θ = cwE P (.seq (.region 11 F84.r11.toArray false) .ret) Q e w := rfl
def F84.code : Cd := (.seq (.region 0 F84.r0.toArray false) (.seq (.region 1 F84.r1.toArray true) (.seq (.region 2 F84.r2.toArray false) (.seq (.block 0 (.loop (.block 1 (.seq (.block 2 (.loop (.seq (.seq (.region 3 F84.r3.toArray true) (.cond (.tmp 43) .skip (.exit 2))) F84.t4))) F84.t5)))) F84.t11))))
theorem F84.calls {args : Array Value} {w : World} {R : Ending → World → Prop} (hn : args.size ≤ 84) (h : cwE Try.prog F84.code (fnP Try.prog #[(.tmp 8)] R) (entry args) w) : Calls Try.prog 84 args w R :=
  calls_of_cwE (types := Try.prog.types) follows Try.func84 F84.code rfl (by kernel_rfl) hn h

def F85.r0 : List Oper := [
  ⟨(some 8), (.assign (.const (.int .i64 0))), 3, "", #[], none⟩,
  ⟨(some 9), (.assign (.const (.bool false))), 4, "", #[], none⟩]
def F85.r1 : List Oper := [
  ⟨(some 12), (.move (.tmp 0)), 32, "", #[], none⟩,
  ⟨(some 13), (.move (.tmp 1)), 3, "", #[], none⟩,
  ⟨(some 14), (.move (.tmp 0)), 32, "", #[], none⟩,
  ⟨(some 15), (.move (.tmp 3)), 3, "", #[], none⟩,
  ⟨(some 16), (.move (.tmp 0)), 32, "", #[], none⟩,
  ⟨(some 17), (.move (.tmp 3)), 3, "", #[], none⟩,
  ⟨(some 18), (.indexAddr 32 (.tmp 16) (.tmp 17)), 0, "", #[], none⟩,
  ⟨(some 20), (.move (.tmp 0)), 32, "", #[], none⟩,
  ⟨(some 21), (.move (.tmp 1)), 3, "", #[], none⟩,
  ⟨(some 22), (.indexAddr 32 (.tmp 20) (.tmp 21)), 0, "", #[], none⟩,
  ⟨(some 19), (.load 35 (.tmp 18)), 35, "", #[⟨40960, .data⟩], none⟩,
  ⟨(some 23), (.load 35 (.tmp 22)), 35, "", #[⟨40960, .data⟩], none⟩,
  ⟨(some 24), (.indexAddr 32 (.tmp 12) (.tmp 13)), 0, "", #[], none⟩,
  ⟨none, (.store 35 (.tmp 24) (.tmp 19)), 0, "", #[⟨13, .chain⟩], none⟩,
  ⟨(some 25), (.indexAddr 32 (.tmp 14) (.tmp 15)), 0, "", #[], none⟩,
  ⟨none, (.store 35 (.tmp 25) (.tmp 23)), 0, "", #[⟨15, .chain⟩], none⟩]
def F85.r2 : List Oper := [
  ⟨(some 26), (.move (.tmp 1)), 3, "", #[], none⟩,
  ⟨(some 27), (.binOp .add 3 (.tmp 26) (.const (.int .i64 1)) 3), 3, "", #[], none⟩,
  ⟨(some 28), (.move (.tmp 2)), 3, "", #[], none⟩,
  ⟨(some 29), (.binOp .sub 3 (.tmp 28) (.const (.int .i64 1)) 3), 3, "", #[], none⟩,
  ⟨(some 10), (.assign (.tmp 27)), 3, "", #[], none⟩,
  ⟨(some 11), (.assign (.tmp 29)), 3, "", #[], none⟩]
def F85.r3 : List Oper := [
  ⟨(some 30), (.move (.tmp 10)), 3, "", #[], none⟩,
  ⟨(some 31), (.move (.tmp 11)), 3, "", #[], none⟩,
  ⟨(some 32), (.binOp .leq 3 (.tmp 30) (.tmp 31) 3), 4, "", #[], none⟩,
  ⟨(some 33), (.move (.tmp 32)), 4, "", #[], none⟩,
  ⟨(some 34), (.move (.tmp 0)), 32, "", #[], (some (33, true))⟩,
  ⟨(some 35), (.move (.tmp 10)), 3, "", #[], (some (33, true))⟩,
  ⟨(some 36), (.indexAddr 32 (.tmp 34) (.tmp 35)), 0, "", #[], (some (33, true))⟩,
  ⟨(some 38), (.move (.tmp 0)), 32, "", #[], (some (33, true))⟩,
  ⟨(some 39), (.move (.tmp 1)), 3, "", #[], (some (33, true))⟩,
  ⟨(some 40), (.indexAddr 32 (.tmp 38) (.tmp 39)), 0, "", #[], (some (33, true))⟩,
  ⟨(some 37), (.load 35 (.tmp 36)), 35, "", #[⟨4096, .data⟩], (some (33, true))⟩,
  ⟨(some 41), (.load 35 (.tmp 40)), 35, "", #[⟨4096, .data⟩], (some (33, true))⟩,
  ⟨(some 42), (.call ⟨(.value (.func 83)), #[(.tmp 37), (.tmp 41)], #[35, 35]⟩), 4, "", #[⟨12, .chain⟩], (some (33, true))⟩,
  ⟨(some 43), (.pick (.tmp 33) (.tmp 42) (.const (.bool false))), 4, "", #[], none⟩]
def F85.r4 : List Oper := [
  ⟨(some 44), (.move (.tmp 10)), 3, "", #[], none⟩,
  ⟨(some 45), (.binOp .add 3 (.tmp 44) (.const (.int .i64 1)) 3), 3, "", #[], none⟩,
  ⟨(some 10), (.assign (.tmp 45)), 3, "", #[], none⟩]
def F85.r5 : List Oper := [
  ⟨(some 46), (.move (.tmp 10)), 3, "", #[], none⟩,
  ⟨(some 47), (.move (.tmp 11)), 3, "", #[], none⟩,
  ⟨(some 48), (.binOp .leq 3 (.tmp 46) (.tmp 47) 3), 4, "", #[], none⟩,
  ⟨(some 49), (.move (.tmp 48)), 4, "", #[], none⟩,
  ⟨(some 50), (.move (.tmp 0)), 32, "", #[], (some (49, true))⟩,
  ⟨(some 51), (.move (.tmp 11)), 3, "", #[], (some (49, true))⟩,
  ⟨(some 52), (.indexAddr 32 (.tmp 50) (.tmp 51)), 0, "", #[], (some (49, true))⟩,
  ⟨(some 54), (.move (.tmp 0)), 32, "", #[], (some (49, true))⟩,
  ⟨(some 55), (.move (.tmp 1)), 3, "", #[], (some (49, true))⟩,
  ⟨(some 56), (.indexAddr 32 (.tmp 54) (.tmp 55)), 0, "", #[], (some (49, true))⟩,
  ⟨(some 53), (.load 35 (.tmp 52)), 35, "", #[⟨4096, .data⟩], (some (49, true))⟩,
  ⟨(some 57), (.load 35 (.tmp 56)), 35, "", #[⟨4096, .data⟩], (some (49, true))⟩,
  ⟨(some 58), (.call ⟨(.value (.func 83)), #[(.tmp 53), (.tmp 57)], #[35, 35]⟩), 4, "", #[⟨12, .chain⟩], (some (49, true))⟩,
  ⟨(some 59), (.unOp .not 4 (.tmp 58)), 4, "", #[], (some (49, true))⟩,
  ⟨(some 60), (.pick (.tmp 49) (.tmp 59) (.const (.bool false))), 4, "", #[], none⟩]
def F85.r6 : List Oper := [
  ⟨(some 61), (.move (.tmp 11)), 3, "", #[], none⟩,
  ⟨(some 62), (.binOp .sub 3 (.tmp 61) (.const (.int .i64 1)) 3), 3, "", #[], none⟩,
  ⟨(some 11), (.assign (.tmp 62)), 3, "", #[], none⟩]
def F85.r7 : List Oper := [
  ⟨(some 63), (.move (.tmp 10)), 3, "", #[], none⟩,
  ⟨(some 64), (.move (.tmp 11)), 3, "", #[], none⟩,
  ⟨(some 65), (.binOp .gtr 3 (.tmp 63) (.tmp 64) 3), 4, "", #[], none⟩]
def F85.r8 : List Oper := [
  ⟨(some 66), (.move (.tmp 0)), 32, "", #[], none⟩,
  ⟨(some 67), (.move (.tmp 11)), 3, "", #[], none⟩,
  ⟨(some 68), (.move (.tmp 0)), 32, "", #[], none⟩,
  ⟨(some 69), (.move (.tmp 1)), 3, "", #[], none⟩,
  ⟨(some 70), (.move (.tmp 0)), 32, "", #[], none⟩,
  ⟨(some 71), (.move (.tmp 1)), 3, "", #[], none⟩,
  ⟨(some 72), (.indexAddr 32 (.tmp 70) (.tmp 71)), 0, "", #[], none⟩,
  ⟨(some 74), (.move (.tmp 0)), 32, "", #[], none⟩,
  ⟨(some 75), (.move (.tmp 11)), 3, "", #[], none⟩,
  ⟨(some 76), (.indexAddr 32 (.tmp 74) (.tmp 75)), 0, "", #[], none⟩,
  ⟨(some 73), (.load 35 (.tmp 72)), 35, "", #[⟨40960, .data⟩], none⟩,
  ⟨(some 77), (.load 35 (.tmp 76)), 35, "", #[⟨40960, .data⟩], none⟩,
  ⟨(some 78), (.indexAddr 32 (.tmp 66) (.tmp 67)), 0, "", #[], none⟩,
  ⟨none, (.store 35 (.tmp 78) (.tmp 73)), 0, "", #[⟨13, .chain⟩], none⟩,
  ⟨(some 79), (.indexAddr 32 (.tmp 68) (.tmp 69)), 0, "", #[], none⟩,
  ⟨none, (.store 35 (.tmp 79) (.tmp 77)), 0, "", #[⟨15, .chain⟩], none⟩]
def F85.r9 : List Oper := [
  ⟨(some 80), (.move (.tmp 11)), 3, "", #[], none⟩,
  ⟨(some 8), (.assign (.tmp 80)), 3, "", #[], none⟩,
  ⟨(some 9), (.assign (.const (.bool true))), 4, "", #[], none⟩]
def F85.r10 : List Oper := [
  ⟨(some 81), (.move (.tmp 0)), 32, "", #[], none⟩,
  ⟨(some 82), (.move (.tmp 10)), 3, "", #[], none⟩,
  ⟨(some 83), (.move (.tmp 0)), 32, "", #[], none⟩,
  ⟨(some 84), (.move (.tmp 11)), 3, "", #[], none⟩,
  ⟨(some 85), (.move (.tmp 0)), 32, "", #[], none⟩,
  ⟨(some 86), (.move (.tmp 11)), 3, "", #[], none⟩,
  ⟨(some 87), (.indexAddr 32 (.tmp 85) (.tmp 86)), 0, "", #[], none⟩,
  ⟨(some 89), (.move (.tmp 0)), 32, "", #[], none⟩,
  ⟨(some 90), (.move (.tmp 10)), 3, "", #[], none⟩,
  ⟨(some 91), (.indexAddr 32 (.tmp 89) (.tmp 90)), 0, "", #[], none⟩,
  ⟨(some 88), (.load 35 (.tmp 87)), 35, "", #[⟨40960, .data⟩], none⟩,
  ⟨(some 92), (.load 35 (.tmp 91)), 35, "", #[⟨40960, .data⟩], none⟩,
  ⟨(some 93), (.indexAddr 32 (.tmp 81) (.tmp 82)), 0, "", #[], none⟩,
  ⟨none, (.store 35 (.tmp 93) (.tmp 88)), 0, "", #[⟨13, .chain⟩], none⟩,
  ⟨(some 94), (.indexAddr 32 (.tmp 83) (.tmp 84)), 0, "", #[], none⟩,
  ⟨none, (.store 35 (.tmp 94) (.tmp 92)), 0, "", #[⟨15, .chain⟩], none⟩]
def F85.r11 : List Oper := [
  ⟨(some 95), (.move (.tmp 10)), 3, "", #[], none⟩,
  ⟨(some 96), (.binOp .add 3 (.tmp 95) (.const (.int .i64 1)) 3), 3, "", #[], none⟩,
  ⟨(some 10), (.assign (.tmp 96)), 3, "", #[], none⟩]
def F85.r12 : List Oper := [
  ⟨(some 97), (.move (.tmp 11)), 3, "", #[], none⟩,
  ⟨(some 98), (.binOp .sub 3 (.tmp 97) (.const (.int .i64 1)) 3), 3, "", #[], none⟩,
  ⟨(some 11), (.assign (.tmp 98)), 3, "", #[], none⟩]
def F85.r13 : List Oper := [
  ⟨(some 99), (.move (.tmp 10)), 3, "", #[], none⟩,
  ⟨(some 100), (.move (.tmp 11)), 3, "", #[], none⟩,
  ⟨(some 101), (.binOp .leq 3 (.tmp 99) (.tmp 100) 3), 4, "", #[], none⟩,
  ⟨(some 102), (.move (.tmp 101)), 4, "", #[], none⟩,
  ⟨(some 103), (.move (.tmp 0)), 32, "", #[], (some (102, true))⟩,
  ⟨(some 104), (.move (.tmp 10)), 3, "", #[], (some (102, true))⟩,
  ⟨(some 105), (.indexAddr 32 (.tmp 103) (.tmp 104)), 0, "", #[], (some (102, true))⟩,
  ⟨(some 107), (.move (.tmp 0)), 32, "", #[], (some (102, true))⟩,
  ⟨(some 108), (.move (.tmp 1)), 3, "", #[], (some (102, true))⟩,
  ⟨(some 109), (.indexAddr 32 (.tmp 107) (.tmp 108)), 0, "", #[], (some (102, true))⟩,
  ⟨(some 106), (.load 35 (.tmp 105)), 35, "", #[⟨4096, .data⟩], (some (102, true))⟩,
  ⟨(some 110), (.load 35 (.tmp 109)), 35, "", #[⟨4096, .data⟩], (some (102, true))⟩,
  ⟨(some 111), (.call ⟨(.value (.func 83)), #[(.tmp 106), (.tmp 110)], #[35, 35]⟩), 4, "", #[⟨12, .chain⟩], (some (102, true))⟩,
  ⟨(some 112), (.pick (.tmp 102) (.tmp 111) (.const (.bool false))), 4, "", #[], none⟩]
def F85.r14 : List Oper := [
  ⟨(some 113), (.move (.tmp 10)), 3, "", #[], none⟩,
  ⟨(some 114), (.binOp .add 3 (.tmp 113) (.const (.int .i64 1)) 3), 3, "", #[], none⟩,
  ⟨(some 10), (.assign (.tmp 114)), 3, "", #[], none⟩]
def F85.r15 : List Oper := [
  ⟨(some 115), (.move (.tmp 10)), 3, "", #[], none⟩,
  ⟨(some 116), (.move (.tmp 11)), 3, "", #[], none⟩,
  ⟨(some 117), (.binOp .leq 3 (.tmp 115) (.tmp 116) 3), 4, "", #[], none⟩,
  ⟨(some 118), (.move (.tmp 117)), 4, "", #[], none⟩,
  ⟨(some 119), (.move (.tmp 0)), 32, "", #[], (some (118, true))⟩,
  ⟨(some 120), (.move (.tmp 11)), 3, "", #[], (some (118, true))⟩,
  ⟨(some 121), (.indexAddr 32 (.tmp 119) (.tmp 120)), 0, "", #[], (some (118, true))⟩,
  ⟨(some 123), (.move (.tmp 0)), 32, "", #[], (some (118, true))⟩,
  ⟨(some 124), (.move (.tmp 1)), 3, "", #[], (some (118, true))⟩,
  ⟨(some 125), (.indexAddr 32 (.tmp 123) (.tmp 124)), 0, "", #[], (some (118, true))⟩,
  ⟨(some 122), (.load 35 (.tmp 121)), 35, "", #[⟨4096, .data⟩], (some (118, true))⟩,
  ⟨(some 126), (.load 35 (.tmp 125)), 35, "", #[⟨4096, .data⟩], (some (118, true))⟩,
  ⟨(some 127), (.call ⟨(.value (.func 83)), #[(.tmp 122), (.tmp 126)], #[35, 35]⟩), 4, "", #[⟨12, .chain⟩], (some (118, true))⟩,
  ⟨(some 128), (.unOp .not 4 (.tmp 127)), 4, "", #[], (some (118, true))⟩,
  ⟨(some 129), (.pick (.tmp 118) (.tmp 128) (.const (.bool false))), 4, "", #[], none⟩]
def F85.r16 : List Oper := [
  ⟨(some 130), (.move (.tmp 11)), 3, "", #[], none⟩,
  ⟨(some 131), (.binOp .sub 3 (.tmp 130) (.const (.int .i64 1)) 3), 3, "", #[], none⟩,
  ⟨(some 11), (.assign (.tmp 131)), 3, "", #[], none⟩]
def F85.r17 : List Oper := [
  ⟨(some 132), (.move (.tmp 10)), 3, "", #[], none⟩,
  ⟨(some 133), (.move (.tmp 11)), 3, "", #[], none⟩,
  ⟨(some 134), (.binOp .gtr 3 (.tmp 132) (.tmp 133) 3), 4, "", #[], none⟩]
def F85.r18 : List Oper := [
  ⟨(some 135), (.move (.tmp 0)), 32, "", #[], none⟩,
  ⟨(some 136), (.move (.tmp 10)), 3, "", #[], none⟩,
  ⟨(some 137), (.move (.tmp 0)), 32, "", #[], none⟩,
  ⟨(some 138), (.move (.tmp 11)), 3, "", #[], none⟩,
  ⟨(some 139), (.move (.tmp 0)), 32, "", #[], none⟩,
  ⟨(some 140), (.move (.tmp 11)), 3, "", #[], none⟩,
  ⟨(some 141), (.indexAddr 32 (.tmp 139) (.tmp 140)), 0, "", #[], none⟩,
  ⟨(some 143), (.move (.tmp 0)), 32, "", #[], none⟩,
  ⟨(some 144), (.move (.tmp 10)), 3, "", #[], none⟩,
  ⟨(some 145), (.indexAddr 32 (.tmp 143) (.tmp 144)), 0, "", #[], none⟩,
  ⟨(some 142), (.load 35 (.tmp 141)), 35, "", #[⟨40960, .data⟩], none⟩,
  ⟨(some 146), (.load 35 (.tmp 145)), 35, "", #[⟨40960, .data⟩], none⟩,
  ⟨(some 147), (.indexAddr 32 (.tmp 135) (.tmp 136)), 0, "", #[], none⟩,
  ⟨none, (.store 35 (.tmp 147) (.tmp 142)), 0, "", #[⟨13, .chain⟩], none⟩,
  ⟨(some 148), (.indexAddr 32 (.tmp 137) (.tmp 138)), 0, "", #[], none⟩,
  ⟨none, (.store 35 (.tmp 148) (.tmp 146)), 0, "", #[⟨15, .chain⟩], none⟩]
def F85.r19 : List Oper := [
  ⟨(some 149), (.move (.tmp 10)), 3, "", #[], none⟩,
  ⟨(some 150), (.binOp .add 3 (.tmp 149) (.const (.int .i64 1)) 3), 3, "", #[], none⟩,
  ⟨(some 10), (.assign (.tmp 150)), 3, "", #[], none⟩]
def F85.r20 : List Oper := [
  ⟨(some 151), (.move (.tmp 11)), 3, "", #[], none⟩,
  ⟨(some 152), (.binOp .sub 3 (.tmp 151) (.const (.int .i64 1)) 3), 3, "", #[], none⟩,
  ⟨(some 11), (.assign (.tmp 152)), 3, "", #[], none⟩]
def F85.r21 : List Oper := [
  ⟨(some 153), (.move (.tmp 0)), 32, "", #[], none⟩,
  ⟨(some 154), (.move (.tmp 11)), 3, "", #[], none⟩,
  ⟨(some 155), (.move (.tmp 0)), 32, "", #[], none⟩,
  ⟨(some 156), (.move (.tmp 1)), 3, "", #[], none⟩,
  ⟨(some 157), (.move (.tmp 0)), 32, "", #[], none⟩,
  ⟨(some 158), (.move (.tmp 1)), 3, "", #[], none⟩,
  ⟨(some 159), (.indexAddr 32 (.tmp 157) (.tmp 158)), 0, "", #[], none⟩,
  ⟨(some 161), (.move (.tmp 0)), 32, "", #[], none⟩,
  ⟨(some 162), (.move (.tmp 11)), 3, "", #[], none⟩,
  ⟨(some 163), (.indexAddr 32 (.tmp 161) (.tmp 162)), 0, "", #[], none⟩,
  ⟨(some 160), (.load 35 (.tmp 159)), 35, "", #[⟨40960, .data⟩], none⟩,
  ⟨(some 164), (.load 35 (.tmp 163)), 35, "", #[⟨40960, .data⟩], none⟩,
  ⟨(some 165), (.indexAddr 32 (.tmp 153) (.tmp 154)), 0, "", #[], none⟩,
  ⟨none, (.store 35 (.tmp 165) (.tmp 160)), 0, "", #[⟨13, .chain⟩], none⟩,
  ⟨(some 166), (.indexAddr 32 (.tmp 155) (.tmp 156)), 0, "", #[], none⟩,
  ⟨none, (.store 35 (.tmp 166) (.tmp 164)), 0, "", #[⟨15, .chain⟩], none⟩]
def F85.r22 : List Oper := [
  ⟨(some 167), (.move (.tmp 11)), 3, "", #[], none⟩,
  ⟨(some 8), (.assign (.tmp 167)), 3, "", #[], none⟩,
  ⟨(some 9), (.assign (.const (.bool false))), 4, "", #[], none⟩]
def F85.t4 : Cd := (.block 1 (.region 4 F85.r4.toArray false))
theorem F85.t4_eq {P : Program} {Q : Post} {e : FA} {w : World} {θ : Tag (F85.t4, Q, e, w)} : cwE P F85.t4 Q e w θ = cwE P (.block 1 (.region 4 F85.r4.toArray false)) Q e w := rfl
def F85.t6 : Cd := (.block 3 (.region 6 F85.r6.toArray false))
theorem F85.t6_eq {P : Program} {Q : Post} {e : FA} {w : World} {θ : Tag (F85.t6, Q, e, w)} : cwE P F85.t6 Q e w θ = cwE P (.block 3 (.region 6 F85.r6.toArray false)) Q e w := rfl
def F85.t14 : Cd := (.block 7 (.region 14 F85.r14.toArray false))
theorem F85.t14_eq {P : Program} {Q : Post} {e : FA} {w : World} {θ : Tag (F85.t14, Q, e, w)} : cwE P F85.t14 Q e w θ = cwE P (.block 7 (.region 14 F85.r14.toArray false)) Q e w := rfl
def F85.t16 : Cd := (.block 9 (.region 16 F85.r16.toArray false))
theorem F85.t16_eq {P : Program} {Q : Post} {e : FA} {w : World} {θ : Tag (F85.t16, Q, e, w)} : cwE P F85.t16 Q e w θ = cwE P (.block 9 (.region 16 F85.r16.toArray false)) Q e w := rfl
def F85.t18 : Cd := (.seq (.region 18 F85.r18.toArray true) (.seq (.region 19 F85.r19.toArray false) (.region 20 F85.r20.toArray false)))
theorem F85.t18_eq {P : Program} {Q : Post} {e : FA} {w : World} {θ : Tag (F85.t18, Q, e, w)} : cwE P F85.t18 Q e w θ = cwE P (.seq (.region 18 F85.r18.toArray true) (.seq (.region 19 F85.r19.toArray false) (.region 20 F85.r20.toArray false))) Q e w := rfl
def F85.t17 : Cd := (.seq (.seq (.region 17 F85.r17.toArray false) (.cond (.tmp 134) (.exit 4) .skip)) F85.t18)
theorem F85.t17_eq {P : Program} {Q : Post} {e : FA} {w : World} {θ : Tag (F85.t17, Q, e, w)} : cwE P F85.t17 Q e w θ = cwE P (.seq (.seq (.region 17 F85.r17.toArray false) (.cond (.tmp 134) (.exit 4) .skip)) F85.t18) Q e w := rfl
def F85.t15 : Cd := (.seq (.block 8 (.loop (.seq (.seq (.region 15 F85.r15.toArray true) (.cond (.tmp 129) .skip (.exit 8))) F85.t16))) F85.t17)
theorem F85.t15_eq {P : Program} {Q : Post} {e : FA} {w : World} {θ : Tag (F85.t15, Q, e, w)} : cwE P F85.t15 Q e w θ = cwE P (.seq (.block 8 (.loop (.seq (.seq (.region 15 F85.r15.toArray true) (.cond (.tmp 129) .skip (.exit 8))) F85.t16))) F85.t17) Q e w := rfl
def F85.t21 : Cd := (.seq (.region 21 F85.r21.toArray true) (.seq (.region 22 F85.r22.toArray false) .ret))
theorem F85.t21_eq {P : Program} {Q : Post} {e : FA} {w : World} {θ : Tag (F85.t21, Q, e, w)} : cwE P F85.t21 Q e w θ = cwE P (.seq (.region 21 F85.r21.toArray true) (.seq (.region 22 F85.r22.toArray false) .ret)) Q e w := rfl
def F85.t10 : Cd := (.seq (.region 10 F85.r10.toArray true) (.seq (.region 11 F85.r11.toArray false) (.seq (.region 12 F85.r12.toArray false) (.seq (.block 4 (.loop (.block 5 (.seq (.block 6 (.loop (.seq (.seq (.region 13 F85.r13.toArray true) (.cond (.tmp 112) .skip (.exit 6))) F85.t14))) F85.t15)))) F85.t21))))
theorem F85.t10_eq {P : Program} {Q : Post} {e : FA} {w : World} {θ : Tag (F85.t10, Q, e, w)} : cwE P F85.t10 Q e w θ = cwE P (.seq (.region 10 F85.r10.toArray true) (.seq (.region 11 F85.r11.toArray false) (.seq (.region 12 F85.r12.toArray false) (.seq (.block 4 (.loop (.block 5 (.seq (.block 6 (.loop (.seq (.seq (.region 13 F85.r13.toArray true) (.cond (.tmp 112) .skip (.exit 6))) F85.t14))) F85.t15)))) F85.t21)))) Q e w := rfl
def F85.t7 : Cd := (.seq (.seq (.region 7 F85.r7.toArray false) (.cond (.tmp 65) (.seq (.region 8 F85.r8.toArray true) (.seq (.region 9 F85.r9.toArray false) .ret)) .skip)) F85.t10)
theorem F85.t7_eq {P : Program} {Q : Post} {e : FA} {w : World} {θ : Tag (F85.t7, Q, e, w)} : cwE P F85.t7 Q e w θ = cwE P (.seq (.seq (.region 7 F85.r7.toArray false) (.cond (.tmp 65) (.seq (.region 8 F85.r8.toArray true) (.seq (.region 9 F85.r9.toArray false) .ret)) .skip)) F85.t10) Q e w := rfl
def F85.t5 : Cd := (.seq (.block 2 (.loop (.seq (.seq (.region 5 F85.r5.toArray true) (.cond (.tmp 60) .skip (.exit 2))) F85.t6))) F85.t7)
theorem F85.t5_eq {P : Program} {Q : Post} {e : FA} {w : World} {θ : Tag (F85.t5, Q, e, w)} : cwE P F85.t5 Q e w θ = cwE P (.seq (.block 2 (.loop (.seq (.seq (.region 5 F85.r5.toArray true) (.cond (.tmp 60) .skip (.exit 2))) F85.t6))) F85.t7) Q e w := rfl
def F85.code : Cd := (.seq (.region 0 F85.r0.toArray false) (.seq (.region 1 F85.r1.toArray true) (.seq (.region 2 F85.r2.toArray false) (.seq (.block 0 (.loop (.seq (.seq (.region 3 F85.r3.toArray true) (.cond (.tmp 43) .skip (.exit 0))) F85.t4))) F85.t5))))
theorem F85.calls {args : Array Value} {w : World} {R : Ending → World → Prop} (hn : args.size ≤ 168) (h : cwE Try.prog F85.code (fnP Try.prog #[(.tmp 8), (.tmp 9)] R) (entry args) w) : Calls Try.prog 85 args w R :=
  calls_of_cwE (types := Try.prog.types) follows Try.func85 F85.code rfl (by kernel_rfl) hn h

def F86.r0 : List Oper := [
  ⟨(some 2), (.assign (.const (.int .i64 0))), 3, "", #[], none⟩]
def F86.r1 : List Oper := [
  ⟨(some 3), (.move (.tmp 0)), 35, "", #[], none⟩,
  ⟨(some 4), (.binOp .geq 35 (.tmp 3) (.const (.int .u32 65536)) 35), 4, "", #[], none⟩]
def F86.r2 : List Oper := [
  ⟨(some 5), (.move (.tmp 0)), 35, "", #[], none⟩,
  ⟨(some 6), (.binOp .shr 35 (.tmp 5) (.const (.int .u64 16)) 112), 35, "", #[], none⟩,
  ⟨(some 0), (.assign (.tmp 6)), 35, "", #[], none⟩]
def F86.r3 : List Oper := [
  ⟨(some 2), (.assign (.const (.int .i64 16))), 3, "", #[], none⟩]
def F86.r4 : List Oper := [
  ⟨(some 7), (.move (.tmp 0)), 35, "", #[], none⟩,
  ⟨(some 8), (.binOp .geq 35 (.tmp 7) (.const (.int .u32 256)) 35), 4, "", #[], none⟩]
def F86.r5 : List Oper := [
  ⟨(some 9), (.move (.tmp 0)), 35, "", #[], none⟩,
  ⟨(some 10), (.binOp .shr 35 (.tmp 9) (.const (.int .u64 8)) 112), 35, "", #[], none⟩,
  ⟨(some 0), (.assign (.tmp 10)), 35, "", #[], none⟩]
def F86.r6 : List Oper := [
  ⟨(some 11), (.move (.tmp 2)), 3, "", #[], none⟩,
  ⟨(some 12), (.binOp .add 3 (.tmp 11) (.const (.int .i64 8)) 3), 3, "", #[], none⟩,
  ⟨(some 2), (.assign (.tmp 12)), 3, "", #[], none⟩]
def F86.r7 : List Oper := [
  ⟨(some 13), (.move (.tmp 2)), 3, "", #[], none⟩,
  ⟨(some 14), (.move (.tmp 0)), 35, "", #[], none⟩,
  ⟨(some 15), (.convert 35 5 (.tmp 14)), 5, "", #[], none⟩,
  ⟨(some 16), (.index 9 (.const (.string { data := #[0, 1, 2, 2, 3, 3, 3, 3, 4, 4, 4, 4, 4, 4, 4, 4, 5, 5, 5, 5, 5, 5, 5, 5, 5, 5, 5, 5, 5, 5, 5, 5, 6, 6, 6, 6, 6, 6, 6, 6, 6, 6, 6, 6, 6, 6, 6, 6, 6, 6, 6, 6, 6, 6, 6, 6, 6, 6, 6, 6, 6, 6, 6, 6, 7, 7, 7, 7, 7, 7, 7, 7, 7, 7, 7, 7, 7, 7, 7, 7, 7, 7, 7, 7, 7, 7, 7, 7, 7, 7, 7, 7, 7, 7, 7, 7, 7, 7, 7, 7, 7, 7, 7, 7, 7, 7, 7, 7, 7, 7, 7, 7, 7, 7, 7, 7, 7, 7, 7, 7, 7, 7, 7, 7, 7, 7, 7, 7, 8, 8, 8, 8, 8, 8, 8, 8, 8, 8, 8, 8, 8, 8, 8, 8, 8, 8, 8, 8, 8, 8, 8, 8, 8, 8, 8, 8, 8, 8, 8, 8, 8, 8, 8, 8, 8, 8, 8, 8, 8, 8, 8, 8, 8, 8, 8, 8, 8, 8, 8, 8, 8, 8, 8, 8, 8, 8, 8, 8, 8, 8, 8, 8, 8, 8, 8, 8, 8, 8, 8, 8, 8, 8, 8, 8, 8, 8, 8, 8, 8, 8, 8, 8, 8, 8, 8, 8, 8, 8, 8, 8, 8, 8, 8, 8, 8, 8, 8, 8, 8, 8, 8, 8, 8, 8, 8, 8, 8, 8, 8, 8, 8, 8, 8, 8, 8, 8, 8, 8, 8, 8, 8, 8, 8, 8, 8, 8] })) (.tmp 15)), 5, "", #[], none⟩,
  ⟨(some 17), (.convert 5 3 (.tmp 16)), 3, "", #[], none⟩,
  ⟨(some 18), (.binOp .add 3 (.tmp 13) (.tmp 17) 3), 3, "", #[], none⟩,
  ⟨(some 2), (.assign (.tmp 18)), 3, "", #[], none⟩]
def F86.t7 : Cd := (.seq (.region 7 F86.r7.toArray false) .ret)
theorem F86.t7_eq {P : Program} {Q : Post} {e : FA} {w : World} {θ : Tag (F86.t7, Q, e, w)} : cwE P F86.t7 Q e w θ = cwE P (.seq (.region 7 F86.r7.toArray false) .ret) Q e w := rfl
def F86.t4 : Cd := (.seq (.seq (.region 4 F86.r4.toArray false) (.cond (.tmp 8) (.seq (.region 5 F86.r5.toArray false) (.region 6 F86.r6.toArray false)) .skip)) F86.t7)
theorem F86.t4_eq {P : Program} {Q : Post} {e : FA} {w : World} {θ : Tag (F86.t4, Q, e, w)} : cwE P F86.t4 Q e w θ = cwE P (.seq (.seq (.region 4 F86.r4.toArray false) (.cond (.tmp 8) (.seq (.region 5 F86.r5.toArray false) (.region 6 F86.r6.toArray false)) .skip)) F86.t7) Q e w := rfl
def F86.code : Cd := (.seq (.region 0 F86.r0.toArray false) (.seq (.seq (.region 1 F86.r1.toArray false) (.cond (.tmp 4) (.seq (.region 2 F86.r2.toArray false) (.region 3 F86.r3.toArray false)) .skip)) F86.t4))
theorem F86.calls {args : Array Value} {w : World} {R : Ending → World → Prop} (hn : args.size ≤ 19) (h : cwE Try.prog F86.code (fnP Try.prog #[(.tmp 2)] R) (entry args) w) : Calls Try.prog 86 args w R :=
  calls_of_cwE (types := Try.prog.types) follows Try.func86 F86.code rfl (by kernel_rfl) hn h

def F87.r0 : List Oper := [
  ⟨(some 2), (.assign (.const (.int .i64 0))), 3, "", #[], none⟩]
def F87.r1 : List Oper := [
  ⟨(some 3), (.move (.tmp 0)), 37, "", #[], none⟩,
  ⟨(some 4), (.binOp .geq 37 (.tmp 3) (.const (.int .u64 4294967296)) 37), 4, "", #[], none⟩]
def F87.r2 : List Oper := [
  ⟨(some 5), (.move (.tmp 0)), 37, "", #[], none⟩,
  ⟨(some 6), (.binOp .shr 37 (.tmp 5) (.const (.int .u64 32)) 112), 37, "", #[], none⟩,
  ⟨(some 0), (.assign (.tmp 6)), 37, "", #[], none⟩]
def F87.r3 : List Oper := [
  ⟨(some 2), (.assign (.const (.int .i64 32))), 3, "", #[], none⟩]
def F87.r4 : List Oper := [
  ⟨(some 7), (.move (.tmp 0)), 37, "", #[], none⟩,
  ⟨(some 8), (.binOp .geq 37 (.tmp 7) (.const (.int .u64 65536)) 37), 4, "", #[], none⟩]
def F87.r5 : List Oper := [
  ⟨(some 9), (.move (.tmp 0)), 37, "", #[], none⟩,
  ⟨(some 10), (.binOp .shr 37 (.tmp 9) (.const (.int .u64 16)) 112), 37, "", #[], none⟩,
  ⟨(some 0), (.assign (.tmp 10)), 37, "", #[], none⟩]
def F87.r6 : List Oper := [
  ⟨(some 11), (.move (.tmp 2)), 3, "", #[], none⟩,
  ⟨(some 12), (.binOp .add 3 (.tmp 11) (.const (.int .i64 16)) 3), 3, "", #[], none⟩,
  ⟨(some 2), (.assign (.tmp 12)), 3, "", #[], none⟩]
def F87.r7 : List Oper := [
  ⟨(some 13), (.move (.tmp 0)), 37, "", #[], none⟩,
  ⟨(some 14), (.binOp .geq 37 (.tmp 13) (.const (.int .u64 256)) 37), 4, "", #[], none⟩]
def F87.r8 : List Oper := [
  ⟨(some 15), (.move (.tmp 0)), 37, "", #[], none⟩,
  ⟨(some 16), (.binOp .shr 37 (.tmp 15) (.const (.int .u64 8)) 112), 37, "", #[], none⟩,
  ⟨(some 0), (.assign (.tmp 16)), 37, "", #[], none⟩]
def F87.r9 : List Oper := [
  ⟨(some 17), (.move (.tmp 2)), 3, "", #[], none⟩,
  ⟨(some 18), (.binOp .add 3 (.tmp 17) (.const (.int .i64 8)) 3), 3, "", #[], none⟩,
  ⟨(some 2), (.assign (.tmp 18)), 3, "", #[], none⟩]
def F87.r10 : List Oper := [
  ⟨(some 19), (.move (.tmp 2)), 3, "", #[], none⟩,
  ⟨(some 20), (.move (.tmp 0)), 37, "", #[], none⟩,
  ⟨(some 21), (.convert 37 5 (.tmp 20)), 5, "", #[], none⟩,
  ⟨(some 22), (.index 9 (.const (.string { data := #[0, 1, 2, 2, 3, 3, 3, 3, 4, 4, 4, 4, 4, 4, 4, 4, 5, 5, 5, 5, 5, 5, 5, 5, 5, 5, 5, 5, 5, 5, 5, 5, 6, 6, 6, 6, 6, 6, 6, 6, 6, 6, 6, 6, 6, 6, 6, 6, 6, 6, 6, 6, 6, 6, 6, 6, 6, 6, 6, 6, 6, 6, 6, 6, 7, 7, 7, 7, 7, 7, 7, 7, 7, 7, 7, 7, 7, 7, 7, 7, 7, 7, 7, 7, 7, 7, 7, 7, 7, 7, 7, 7, 7, 7, 7, 7, 7, 7, 7, 7, 7, 7, 7, 7, 7, 7, 7, 7, 7, 7, 7, 7, 7, 7, 7, 7, 7, 7, 7, 7, 7, 7, 7, 7, 7, 7, 7, 7, 8, 8, 8, 8, 8, 8, 8, 8, 8, 8, 8, 8, 8, 8, 8, 8, 8, 8, 8, 8, 8, 8, 8, 8, 8, 8, 8, 8, 8, 8, 8, 8, 8, 8, 8, 8, 8, 8, 8, 8, 8, 8, 8, 8, 8, 8, 8, 8, 8, 8, 8, 8, 8, 8, 8, 8, 8, 8, 8, 8, 8, 8, 8, 8, 8, 8, 8, 8, 8, 8, 8, 8, 8, 8, 8, 8, 8, 8, 8, 8, 8, 8, 8, 8, 8, 8, 8, 8, 8, 8, 8, 8, 8, 8, 8, 8, 8, 8, 8, 8, 8, 8, 8, 8, 8, 8, 8, 8, 8, 8, 8, 8, 8, 8, 8, 8, 8, 8, 8, 8, 8, 8, 8, 8, 8, 8, 8, 8] })) (.tmp 21)), 5, "", #[], none⟩,
  ⟨(some 23), (.convert 5 3 (.tmp 22)), 3, "", #[], none⟩,
  ⟨(some 24), (.binOp .add 3 (.tmp 19) (.tmp 23) 3), 3, "", #[], none⟩,
  ⟨(some 2), (.assign (.tmp 24)), 3, "", #[], none⟩]
def F87.t10 : Cd := (.seq (.region 10 F87.r10.toArray false) .ret)
theorem F87.t10_eq {P : Program} {Q : Post} {e : FA} {w : World} {θ : Tag (F87.t10, Q, e, w)} : cwE P F87.t10 Q e w θ = cwE P (.seq (.region 10 F87.r10.toArray false) .ret) Q e w := rfl
def F87.t7 : Cd := (.seq (.seq (.region 7 F87.r7.toArray false) (.cond (.tmp 14) (.seq (.region 8 F87.r8.toArray false) (.region 9 F87.r9.toArray false)) .skip)) F87.t10)
theorem F87.t7_eq {P : Program} {Q : Post} {e : FA} {w : World} {θ : Tag (F87.t7, Q, e, w)} : cwE P F87.t7 Q e w θ = cwE P (.seq (.seq (.region 7 F87.r7.toArray false) (.cond (.tmp 14) (.seq (.region 8 F87.r8.toArray false) (.region 9 F87.r9.toArray false)) .skip)) F87.t10) Q e w := rfl
def F87.t4 : Cd := (.seq (.seq (.region 4 F87.r4.toArray false) (.cond (.tmp 8) (.seq (.region 5 F87.r5.toArray false) (.region 6 F87.r6.toArray false)) .skip)) F87.t7)
theorem F87.t4_eq {P : Program} {Q : Post} {e : FA} {w : World} {θ : Tag (F87.t4, Q, e, w)} : cwE P F87.t4 Q e w θ = cwE P (.seq (.seq (.region 4 F87.r4.toArray false) (.cond (.tmp 8) (.seq (.region 5 F87.r5.toArray false) (.region 6 F87.r6.toArray false)) .skip)) F87.t7) Q e w := rfl
def F87.code : Cd := (.seq (.region 0 F87.r0.toArray false) (.seq (.seq (.region 1 F87.r1.toArray false) (.cond (.tmp 4) (.seq (.region 2 F87.r2.toArray false) (.region 3 F87.r3.toArray false)) .skip)) F87.t4))
theorem F87.calls {args : Array Value} {w : World} {R : Ending → World → Prop} (hn : args.size ≤ 25) (h : cwE Try.prog F87.code (fnP Try.prog #[(.tmp 2)] R) (entry args) w) : Calls Try.prog 87 args w R :=
  calls_of_cwE (types := Try.prog.types) follows Try.func87 F87.code rfl (by kernel_rfl) hn h

def F88.r0 : List Oper := [
  ⟨(some 10), (.move (.tmp 1)), 3, "", #[], none⟩,
  ⟨(some 8), (.assign (.tmp 10)), 3, "", #[], none⟩]
def F88.r1 : List Oper := [
  ⟨(some 11), (.move (.tmp 8)), 3, "", #[], none⟩,
  ⟨(some 12), (.binOp .mul 3 (.const (.int .i64 2)) (.tmp 11) 3), 3, "", #[], none⟩,
  ⟨(some 13), (.binOp .add 3 (.tmp 12) (.const (.int .i64 1)) 3), 3, "", #[], none⟩,
  ⟨(some 9), (.assign (.tmp 13)), 3, "", #[], none⟩]
def F88.r2 : List Oper := [
  ⟨(some 14), (.move (.tmp 9)), 3, "", #[], none⟩,
  ⟨(some 15), (.move (.tmp 2)), 3, "", #[], none⟩,
  ⟨(some 16), (.binOp .geq 3 (.tmp 14) (.tmp 15) 3), 4, "", #[], none⟩]
def F88.r3 : List Oper := [
  ⟨(some 17), (.move (.tmp 9)), 3, "", #[], none⟩,
  ⟨(some 18), (.binOp .add 3 (.tmp 17) (.const (.int .i64 1)) 3), 3, "", #[], none⟩,
  ⟨(some 19), (.move (.tmp 2)), 3, "", #[], none⟩,
  ⟨(some 20), (.binOp .lss 3 (.tmp 18) (.tmp 19) 3), 4, "", #[], none⟩,
  ⟨(some 21), (.move (.tmp 20)), 4, "", #[], none⟩,
  ⟨(some 22), (.move (.tmp 0)), 32, "", #[], (some (21, true))⟩,
  ⟨(some 23), (.move (.tmp 3)), 3, "", #[], (some (21, true))⟩,
  ⟨(some 24), (.move (.tmp 9)), 3, "", #[], (some (21, true))⟩,
  ⟨(some 25), (.binOp .add 3 (.tmp 23) (.tmp 24) 3), 3, "", #[], (some (21, true))⟩,
  ⟨(some 26), (.indexAddr 32 (.tmp 22) (.tmp 25)), 0, "", #[], (some (21, true))⟩,
  ⟨(some 28), (.move (.tmp 0)), 32, "", #[], (some (21, true))⟩,
  ⟨(some 29), (.move (.tmp 3)), 3, "", #[], (some (21, true))⟩,
  ⟨(some 30), (.move (.tmp 9)), 3, "", #[], (some (21, true))⟩,
  ⟨(some 31), (.binOp .add 3 (.tmp 29) (.tmp 30) 3), 3, "", #[], (some (21, true))⟩,
  ⟨(some 32), (.binOp .add 3 (.tmp 31) (.const (.int .i64 1)) 3), 3, "", #[], (some (21, true))⟩,
  ⟨(some 33), (.indexAddr 32 (.tmp 28) (.tmp 32)), 0, "", #[], (some (21, true))⟩,
  ⟨(some 27), (.load 35 (.tmp 26)), 35, "", #[⟨262144, .data⟩], (some (21, true))⟩,
  ⟨(some 34), (.load 35 (.tmp 33)), 35, "", #[⟨262144, .data⟩], (some (21, true))⟩,
  ⟨(some 35), (.call ⟨(.value (.func 83)), #[(.tmp 27), (.tmp 34)], #[35, 35]⟩), 4, "", #[⟨18, .chain⟩], (some (21, true))⟩,
  ⟨(some 36), (.pick (.tmp 21) (.tmp 35) (.const (.bool false))), 4, "", #[], none⟩]
def F88.r4 : List Oper := [
  ⟨(some 37), (.move (.tmp 9)), 3, "", #[], none⟩,
  ⟨(some 38), (.binOp .add 3 (.tmp 37) (.const (.int .i64 1)) 3), 3, "", #[], none⟩,
  ⟨(some 9), (.assign (.tmp 38)), 3, "", #[], none⟩]
def F88.r5 : List Oper := [
  ⟨(some 39), (.move (.tmp 0)), 32, "", #[], none⟩,
  ⟨(some 40), (.move (.tmp 3)), 3, "", #[], none⟩,
  ⟨(some 41), (.move (.tmp 8)), 3, "", #[], none⟩,
  ⟨(some 42), (.binOp .add 3 (.tmp 40) (.tmp 41) 3), 3, "", #[], none⟩,
  ⟨(some 43), (.indexAddr 32 (.tmp 39) (.tmp 42)), 0, "", #[], none⟩,
  ⟨(some 45), (.move (.tmp 0)), 32, "", #[], none⟩,
  ⟨(some 46), (.move (.tmp 3)), 3, "", #[], none⟩,
  ⟨(some 47), (.move (.tmp 9)), 3, "", #[], none⟩,
  ⟨(some 48), (.binOp .add 3 (.tmp 46) (.tmp 47) 3), 3, "", #[], none⟩,
  ⟨(some 49), (.indexAddr 32 (.tmp 45) (.tmp 48)), 0, "", #[], none⟩,
  ⟨(some 44), (.load 35 (.tmp 43)), 35, "", #[⟨4096, .data⟩], none⟩,
  ⟨(some 50), (.load 35 (.tmp 49)), 35, "", #[⟨4096, .data⟩], none⟩,
  ⟨(some 51), (.call ⟨(.value (.func 83)), #[(.tmp 44), (.tmp 50)], #[35, 35]⟩), 4, "", #[⟨12, .chain⟩], none⟩,
  ⟨(some 52), (.unOp .not 4 (.tmp 51)), 4, "", #[], none⟩]
def F88.r6 : List Oper := [
  ⟨(some 53), (.move (.tmp 0)), 32, "", #[], none⟩,
  ⟨(some 54), (.move (.tmp 3)), 3, "", #[], none⟩,
  ⟨(some 55), (.move (.tmp 8)), 3, "", #[], none⟩,
  ⟨(some 56), (.binOp .add 3 (.tmp 54) (.tmp 55) 3), 3, "", #[], none⟩,
  ⟨(some 57), (.move (.tmp 0)), 32, "", #[], none⟩,
  ⟨(some 58), (.move (.tmp 3)), 3, "", #[], none⟩,
  ⟨(some 59), (.move (.tmp 9)), 3, "", #[], none⟩,
  ⟨(some 60), (.binOp .add 3 (.tmp 58) (.tmp 59) 3), 3, "", #[], none⟩,
  ⟨(some 61), (.move (.tmp 0)), 32, "", #[], none⟩,
  ⟨(some 62), (.move (.tmp 3)), 3, "", #[], none⟩,
  ⟨(some 63), (.move (.tmp 9)), 3, "", #[], none⟩,
  ⟨(some 64), (.binOp .add 3 (.tmp 62) (.tmp 63) 3), 3, "", #[], none⟩,
  ⟨(some 65), (.indexAddr 32 (.tmp 61) (.tmp 64)), 0, "", #[], none⟩,
  ⟨(some 67), (.move (.tmp 0)), 32, "", #[], none⟩,
  ⟨(some 68), (.move (.tmp 3)), 3, "", #[], none⟩,
  ⟨(some 69), (.move (.tmp 8)), 3, "", #[], none⟩,
  ⟨(some 70), (.binOp .add 3 (.tmp 68) (.tmp 69) 3), 3, "", #[], none⟩,
  ⟨(some 71), (.indexAddr 32 (.tmp 67) (.tmp 70)), 0, "", #[], none⟩,
  ⟨(some 66), (.load 35 (.tmp 65)), 35, "", #[⟨10485760, .data⟩], none⟩,
  ⟨(some 72), (.load 35 (.tmp 71)), 35, "", #[⟨10485760, .data⟩], none⟩,
  ⟨(some 73), (.indexAddr 32 (.tmp 53) (.tmp 56)), 0, "", #[], none⟩,
  ⟨none, (.store 35 (.tmp 73) (.tmp 66)), 0, "", #[⟨21, .chain⟩], none⟩,
  ⟨(some 74), (.indexAddr 32 (.tmp 57) (.tmp 60)), 0, "", #[], none⟩,
  ⟨none, (.store 35 (.tmp 74) (.tmp 72)), 0, "", #[⟨23, .chain⟩], none⟩]
def F88.r7 : List Oper := [
  ⟨(some 75), (.move (.tmp 9)), 3, "", #[], none⟩,
  ⟨(some 8), (.assign (.tmp 75)), 3, "", #[], none⟩]
def F88.t6 : Cd := (.seq (.region 6 F88.r6.toArray true) (.region 7 F88.r7.toArray false))
theorem F88.t6_eq {P : Program} {Q : Post} {e : FA} {w : World} {θ : Tag (F88.t6, Q, e, w)} : cwE P F88.t6 Q e w θ = cwE P (.seq (.region 6 F88.r6.toArray true) (.region 7 F88.r7.toArray false)) Q e w := rfl
def F88.t5 : Cd := (.seq (.seq (.region 5 F88.r5.toArray true) (.cond (.tmp 52) .ret .skip)) F88.t6)
theorem F88.t5_eq {P : Program} {Q : Post} {e : FA} {w : World} {θ : Tag (F88.t5, Q, e, w)} : cwE P F88.t5 Q e w θ = cwE P (.seq (.seq (.region 5 F88.r5.toArray true) (.cond (.tmp 52) .ret .skip)) F88.t6) Q e w := rfl
def F88.t3 : Cd := (.seq (.seq (.region 3 F88.r3.toArray true) (.cond (.tmp 36) (.region 4 F88.r4.toArray false) .skip)) F88.t5)
theorem F88.t3_eq {P : Program} {Q : Post} {e : FA} {w : World} {θ : Tag (F88.t3, Q, e, w)} : cwE P F88.t3 Q e w θ = cwE P (.seq (.seq (.region 3 F88.r3.toArray true) (.cond (.tmp 36) (.region 4 F88.r4.toArray false) .skip)) F88.t5) Q e w := rfl
def F88.code : Cd := (.seq (.region 0 F88.r0.toArray false) (.block 0 (.loop (.block 1 (.seq (.region 1 F88.r1.toArray false) (.seq (.seq (.region 2 F88.r2.toArray false) (.cond (.tmp 16) (.exit 0) .skip)) F88.t3))))))
theorem F88.calls {args : Array Value} {w : World} {R : Ending → World → Prop} (hn : args.size ≤ 76) (h : cwE Try.prog F88.code (fnP Try.prog #[] R) (entry args) w) : Calls Try.prog 88 args w R :=
  calls_of_cwE (types := Try.prog.types) follows Try.func88 F88.code rfl (by kernel_rfl) hn h

def F89.r0 : List Oper := [
  ⟨(some 2), (.assign (.const (.int .u64 0))), 112, "", #[], none⟩]
def F89.r1 : List Oper := [
  ⟨(some 3), (.move (.tmp 0)), 3, "", #[], none⟩,
  ⟨(some 4), (.convert 3 112 (.tmp 3)), 112, "", #[], none⟩,
  ⟨(some 5), (.call ⟨(.value (.func 76)), #[(.tmp 4)], #[112]⟩), 3, "", #[⟨0, .chain⟩], none⟩,
  ⟨(some 6), (.binOp .shl 112 (.const (.int .u64 1)) (.tmp 5) 3), 112, "", #[], none⟩,
  ⟨(some 2), (.assign (.tmp 6)), 112, "", #[], none⟩]
def F89.code : Cd := (.seq (.region 0 F89.r0.toArray false) (.seq (.region 1 F89.r1.toArray false) .ret))
theorem F89.calls {args : Array Value} {w : World} {R : Ending → World → Prop} (hn : args.size ≤ 7) (h : cwE Try.prog F89.code (fnP Try.prog #[(.tmp 2)] R) (entry args) w) : Calls Try.prog 89 args w R :=
  calls_of_cwE (types := Try.prog.types) follows Try.func89 F89.code rfl (by kernel_rfl) hn h

def F90.r0 : List Oper := [
  ⟨(some 2), (.assign (.const (.int .u64 0))), 37, "", #[], none⟩]
def F90.r1 : List Oper := [
  ⟨(some 3), (.move (.tmp 0)), 128, "", #[], none⟩,
  ⟨(some 4), (.nilCheck (.tmp 3)), 0, "", #[], none⟩,
  ⟨(some 6), (.move (.tmp 0)), 128, "", #[], none⟩,
  ⟨(some 7), (.nilCheck (.tmp 6)), 0, "", #[], none⟩,
  ⟨(some 5), (.load 122 (.tmp 4)), 122, "", #[⟨512, .data⟩], none⟩,
  ⟨(some 8), (.load 122 (.tmp 7)), 122, "", #[⟨512, .data⟩], none⟩,
  ⟨(some 9), (.binOp .shl 122 (.tmp 8) (.const (.int .u64 13)) 112), 122, "", #[], none⟩,
  ⟨(some 10), (.binOp .xor 122 (.tmp 5) (.tmp 9) 122), 122, "", #[], none⟩,
  ⟨(some 11), (.nilCheck (.tmp 3)), 0, "", #[], none⟩,
  ⟨none, (.store 122 (.tmp 11) (.tmp 10)), 0, "", #[⟨9, .chain⟩], none⟩]
def F90.r2 : List Oper := [
  ⟨(some 12), (.move (.tmp 0)), 128, "", #[], none⟩,
  ⟨(some 13), (.nilCheck (.tmp 12)), 0, "", #[], none⟩,
  ⟨(some 15), (.move (.tmp 0)), 128, "", #[], none⟩,
  ⟨(some 16), (.nilCheck (.tmp 15)), 0, "", #[], none⟩,
  ⟨(some 14), (.load 122 (.tmp 13)), 122, "", #[⟨512, .data⟩], none⟩,
  ⟨(some 17), (.load 122 (.tmp 16)), 122, "", #[⟨512, .data⟩], none⟩,
  ⟨(some 18), (.binOp .shr 122 (.tmp 17) (.const (.int .u64 7)) 112), 122, "", #[], none⟩,
  ⟨(some 19), (.binOp .xor 122 (.tmp 14) (.tmp 18) 122), 122, "", #[], none⟩,
  ⟨(some 20), (.nilCheck (.tmp 12)), 0, "", #[], none⟩,
  ⟨none, (.store 122 (.tmp 20) (.tmp 19)), 0, "", #[⟨9, .chain⟩], none⟩]
def F90.r3 : List Oper := [
  ⟨(some 21), (.move (.tmp 0)), 128, "", #[], none⟩,
  ⟨(some 22), (.nilCheck (.tmp 21)), 0, "", #[], none⟩,
  ⟨(some 24), (.move (.tmp 0)), 128, "", #[], none⟩,
  ⟨(some 25), (.nilCheck (.tmp 24)), 0, "", #[], none⟩,
  ⟨(some 23), (.load 122 (.tmp 22)), 122, "", #[⟨512, .data⟩], none⟩,
  ⟨(some 26), (.load 122 (.tmp 25)), 122, "", #[⟨512, .data⟩], none⟩,
  ⟨(some 27), (.binOp .shl 122 (.tmp 26) (.const (.int .u64 17)) 112), 122, "", #[], none⟩,
  ⟨(some 28), (.binOp .xor 122 (.tmp 23) (.tmp 27) 122), 122, "", #[], none⟩,
  ⟨(some 29), (.nilCheck (.tmp 21)), 0, "", #[], none⟩,
  ⟨none, (.store 122 (.tmp 29) (.tmp 28)), 0, "", #[⟨9, .chain⟩], none⟩]
def F90.r4 : List Oper := [
  ⟨(some 30), (.move (.tmp 0)), 128, "", #[], none⟩,
  ⟨(some 31), (.nilCheck (.tmp 30)), 0, "", #[], none⟩,
  ⟨(some 32), (.load 122 (.tmp 31)), 122, "", #[⟨0, .data⟩], none⟩,
  ⟨(some 2), (.assign (.tmp 32)), 37, "", #[], none⟩]
def F90.code : Cd := (.seq (.region 0 F90.r0.toArray false) (.seq (.region 1 F90.r1.toArray true) (.seq (.region 2 F90.r2.toArray true) (.seq (.region 3 F90.r3.toArray true) (.seq (.region 4 F90.r4.toArray false) .ret)))))
theorem F90.calls {args : Array Value} {w : World} {R : Ending → World → Prop} (hn : args.size ≤ 33) (h : cwE Try.prog F90.code (fnP Try.prog #[(.tmp 2)] R) (entry args) w) : Calls Try.prog 90 args w R :=
  calls_of_cwE (types := Try.prog.types) follows Try.func90 F90.code rfl (by kernel_rfl) hn h

def F91.r0 : List Oper := [
  ⟨(some 6), (.assign (.const (.int .i64 0))), 3, "", #[], none⟩]
def F91.r1 : List Oper := [
  ⟨(some 7), (.move (.tmp 0)), 32, "", #[], none⟩,
  ⟨(some 8), (.move (.tmp 1)), 3, "", #[], none⟩,
  ⟨(some 9), (.binOp .sub 3 (.tmp 8) (.const (.int .i64 1)) 3), 3, "", #[], none⟩,
  ⟨(some 10), (.move (.tmp 1)), 3, "", #[], none⟩,
  ⟨(some 11), (.move (.tmp 1)), 3, "", #[], none⟩,
  ⟨(some 12), (.binOp .add 3 (.tmp 11) (.const (.int .i64 1)) 3), 3, "", #[], none⟩,
  ⟨(some 13), (.move (.tmp 2)), 126, "", #[], none⟩,
  ⟨(some 14), (.call ⟨(.value (.func 92)), #[(.tmp 7), (.tmp 9), (.tmp 10), (.tmp 12), (.tmp 13)], #[32, 3, 3, 3, 126]⟩), 3, "", #[⟨0, .chain⟩], none⟩,
  ⟨(some 6), (.assign (.tmp 14)), 3, "", #[], none⟩]
def F91.code : Cd := (.seq (.region 0 F91.r0.toArray false) (.seq (.region 1 F91.r1.toArray false) .ret))
theorem F91.calls {args : Array Value} {w : World} {R : Ending → World → Prop} (hn : args.size ≤ 15) (h : cwE Try.prog F91.code (fnP Try.prog #[(.tmp 6)] R) (entry args) w) : Calls Try.prog 91 args w R :=
  calls_of_cwE (types := Try.prog.types) follows Try.func91 F91.code rfl (by kernel_rfl) hn h

def F92.r0 : List Oper := [
  ⟨(some 10), (.assign (.const (.int .i64 0))), 3, "", #[], none⟩]
def F92.r1 : List Oper := [
  ⟨(some 12), (.move (.tmp 0)), 32, "", #[], none⟩,
  ⟨(some 13), (.move (.tmp 1)), 3, "", #[], none⟩,
  ⟨(some 14), (.move (.tmp 2)), 3, "", #[], none⟩,
  ⟨(some 15), (.move (.tmp 4)), 126, "", #[], none⟩,
  ⟨(some 16), (.call ⟨(.value (.func 94)), #[(.tmp 12), (.tmp 13), (.tmp 14), (.tmp 15)], #[32, 3, 3, 126]⟩), 129, "", #[⟨0, .chain⟩], none⟩,
  ⟨(some 11), (.move (.tmp 16)), 129, "", #[], none⟩,
  ⟨(some 17), (.extract (.tmp 11) 0), 3, "", #[], none⟩,
  ⟨(some 18), (.extract (.tmp 11) 1), 3, "", #[], none⟩,
  ⟨(some 1), (.assign (.tmp 17)), 3, "", #[], none⟩,
  ⟨(some 2), (.assign (.tmp 18)), 3, "", #[], none⟩]
def F92.r2 : List Oper := [
  ⟨(some 20), (.move (.tmp 0)), 32, "", #[], none⟩,
  ⟨(some 21), (.move (.tmp 2)), 3, "", #[], none⟩,
  ⟨(some 22), (.move (.tmp 3)), 3, "", #[], none⟩,
  ⟨(some 23), (.move (.tmp 4)), 126, "", #[], none⟩,
  ⟨(some 24), (.call ⟨(.value (.func 94)), #[(.tmp 20), (.tmp 21), (.tmp 22), (.tmp 23)], #[32, 3, 3, 126]⟩), 129, "", #[⟨0, .chain⟩], none⟩,
  ⟨(some 19), (.move (.tmp 24)), 129, "", #[], none⟩,
  ⟨(some 25), (.extract (.tmp 19) 0), 3, "", #[], none⟩,
  ⟨(some 26), (.extract (.tmp 19) 1), 3, "", #[], none⟩,
  ⟨(some 2), (.assign (.tmp 25)), 3, "", #[], none⟩,
  ⟨(some 3), (.assign (.tmp 26)), 3, "", #[], none⟩]
def F92.r3 : List Oper := [
  ⟨(some 28), (.move (.tmp 0)), 32, "", #[], none⟩,
  ⟨(some 29), (.move (.tmp 1)), 3, "", #[], none⟩,
  ⟨(some 30), (.move (.tmp 2)), 3, "", #[], none⟩,
  ⟨(some 31), (.move (.tmp 4)), 126, "", #[], none⟩,
  ⟨(some 32), (.call ⟨(.value (.func 94)), #[(.tmp 28), (.tmp 29), (.tmp 30), (.tmp 31)], #[32, 3, 3, 126]⟩), 129, "", #[⟨0, .chain⟩], none⟩,
  ⟨(some 27), (.move (.tmp 32)), 129, "", #[], none⟩,
  ⟨(some 33), (.extract (.tmp 27) 0), 3, "", #[], none⟩,
  ⟨(some 34), (.extract (.tmp 27) 1), 3, "", #[], none⟩,
  ⟨(some 1), (.assign (.tmp 33)), 3, "", #[], none⟩,
  ⟨(some 2), (.assign (.tmp 34)), 3, "", #[], none⟩]
def F92.r4 : List Oper := [
  ⟨(some 35), (.move (.tmp 2)), 3, "", #[], none⟩,
  ⟨(some 10), (.assign (.tmp 35)), 3, "", #[], none⟩]
def F92.code : Cd := (.seq (.region 0 F92.r0.toArray false) (.seq (.region 1 F92.r1.toArray false) (.seq (.region 2 F92.r2.toArray false) (.seq (.region 3 F92.r3.toArray false) (.seq (.region 4 F92.r4.toArray false) .ret)))))
theorem F92.calls {args : Array Value} {w : World} {R : Ending → World → Prop} (hn : args.size ≤ 36) (h : cwE Try.prog F92.code (fnP Try.prog #[(.tmp 10)] R) (entry args) w) : Calls Try.prog 92 args w R :=
  calls_of_cwE (types := Try.prog.types) follows Try.func92 F92.code rfl (by kernel_rfl) hn h

def F93.r0 : List Oper := [
  ⟨(some 2), (.assign (.const (.bool false))), 4, "", #[], none⟩]
def F93.r1 : List Oper := [
  ⟨(some 3), (.move (.tmp 0)), 35, "", #[], none⟩,
  ⟨(some 4), (.move (.tmp 0)), 35, "", #[], none⟩,
  ⟨(some 5), (.binOp .neq 35 (.tmp 3) (.tmp 4) 35), 4, "", #[], none⟩,
  ⟨(some 2), (.assign (.tmp 5)), 4, "", #[], none⟩]
def F93.code : Cd := (.seq (.region 0 F93.r0.toArray false) (.seq (.region 1 F93.r1.toArray false) .ret))
theorem F93.calls {args : Array Value} {w : World} {R : Ending → World → Prop} (hn : args.size ≤ 6) (h : cwE Try.prog F93.code (fnP Try.prog #[(.tmp 2)] R) (entry args) w) : Calls Try.prog 93 args w R :=
  calls_of_cwE (types := Try.prog.types) follows Try.func93 F93.code rfl (by kernel_rfl) hn h

def F94.r0 : List Oper := [
  ⟨(some 8), (.assign (.const (.int .i64 0))), 3, "", #[], none⟩,
  ⟨(some 9), (.assign (.const (.int .i64 0))), 3, "", #[], none⟩]
def F94.r1 : List Oper := [
  ⟨(some 10), (.move (.tmp 0)), 32, "", #[], none⟩,
  ⟨(some 11), (.move (.tmp 2)), 3, "", #[], none⟩,
  ⟨(some 12), (.indexAddr 32 (.tmp 10) (.tmp 11)), 0, "", #[], none⟩,
  ⟨(some 14), (.move (.tmp 0)), 32, "", #[], none⟩,
  ⟨(some 15), (.move (.tmp 1)), 3, "", #[], none⟩,
  ⟨(some 16), (.indexAddr 32 (.tmp 14) (.tmp 15)), 0, "", #[], none⟩,
  ⟨(some 13), (.load 35 (.tmp 12)), 35, "", #[⟨256, .data⟩], none⟩,
  ⟨(some 17), (.load 35 (.tmp 16)), 35, "", #[⟨256, .data⟩], none⟩,
  ⟨(some 18), (.call ⟨(.value (.func 83)), #[(.tmp 13), (.tmp 17)], #[35, 35]⟩), 4, "", #[⟨8, .chain⟩], none⟩]
def F94.r2 : List Oper := [
  ⟨(some 19), (.move (.tmp 3)), 126, "", #[], none⟩,
  ⟨(some 20), (.nilCheck (.tmp 19)), 0, "", #[], none⟩,
  ⟨(some 21), (.load 3 (.tmp 20)), 3, "", #[⟨0, .data⟩], none⟩,
  ⟨(some 22), (.binOp .add 3 (.tmp 21) (.const (.int .i64 1)) 3), 3, "", #[], none⟩,
  ⟨(some 23), (.nilCheck (.tmp 19)), 0, "", #[], none⟩,
  ⟨none, (.store 3 (.tmp 23) (.tmp 22)), 0, "", #[⟨0, .chain⟩], none⟩]
def F94.r3 : List Oper := [
  ⟨(some 24), (.move (.tmp 2)), 3, "", #[], none⟩,
  ⟨(some 25), (.move (.tmp 1)), 3, "", #[], none⟩,
  ⟨(some 8), (.assign (.tmp 24)), 3, "", #[], none⟩,
  ⟨(some 9), (.assign (.tmp 25)), 3, "", #[], none⟩]
def F94.r4 : List Oper := [
  ⟨(some 26), (.move (.tmp 1)), 3, "", #[], none⟩,
  ⟨(some 27), (.move (.tmp 2)), 3, "", #[], none⟩,
  ⟨(some 8), (.assign (.tmp 26)), 3, "", #[], none⟩,
  ⟨(some 9), (.assign (.tmp 27)), 3, "", #[], none⟩]
def F94.t4 : Cd := (.seq (.region 4 F94.r4.toArray false) .ret)
theorem F94.t4_eq {P : Program} {Q : Post} {e : FA} {w : World} {θ : Tag (F94.t4, Q, e, w)} : cwE P F94.t4 Q e w θ = cwE P (.seq (.region 4 F94.r4.toArray false) .ret) Q e w := rfl
def F94.code : Cd := (.seq (.region 0 F94.r0.toArray false) (.seq (.seq (.region 1 F94.r1.toArray true) (.cond (.tmp 18) (.seq (.region 2 F94.r2.toArray false) (.seq (.region 3 F94.r3.toArray false) .ret)) .skip)) F94.t4))
theorem F94.calls {args : Array Value} {w : World} {R : Ending → World → Prop} (hn : args.size ≤ 28) (h : cwE Try.prog F94.code (fnP Try.prog #[(.tmp 8), (.tmp 9)] R) (entry args) w) : Calls Try.prog 94 args w R :=
  calls_of_cwE (types := Try.prog.types) follows Try.func94 F94.code rfl (by kernel_rfl) hn h

attribute [go_sem] fact_aggSz_122
attribute [go_sem] fact_aggSz_22
attribute [go_sem] fact_aggSz_28
attribute [go_sem] fact_aggSz_3
attribute [go_sem] fact_aggSz_32
attribute [go_sem] fact_aggSz_35
attribute [go_sem] fact_aggSz_36
attribute [go_sem] fact_aggSz_37
attribute [go_sem] fact_aggSz_38
attribute [go_sem] fact_aggSz_39
attribute [go_sem] fact_aggSz_4
attribute [go_sem] fact_aggSz_41
attribute [go_sem] fact_aggSz_43
attribute [go_sem] fact_aggSz_45
attribute [go_sem] fact_aggSz_48
attribute [go_sem] fact_aggSz_5
attribute [go_sem] fact_aggSz_86
attribute [go_sem] fact_aggSz_9
attribute [go_sem] fact_arrEx_9
attribute [go_sem] fact_bldP_43
attribute [go_sem] fact_bldP_48
attribute [go_sem] fact_bldP_88
attribute [go_sem] fact_elemOf_25
attribute [go_sem] fact_elemOf_28
attribute [go_sem] fact_elemOf_32
attribute [go_sem] fact_fieldOff_41_0
attribute [go_sem] fact_fieldOff_41_1
attribute [go_sem] fact_fieldOff_41_2
attribute [go_sem] fact_fieldOff_41_3
attribute [go_sem] fact_fieldOff_41_4
attribute [go_sem] fact_fieldOff_41_5
attribute [go_sem] fact_fieldOff_41_6
attribute [go_sem] fact_fieldOff_43_0
attribute [go_sem] fact_fieldOff_43_1
attribute [go_sem] fact_fieldOff_43_2
attribute [go_sem] fact_fieldOff_43_3
attribute [go_sem] fact_fieldOff_43_4
attribute [go_sem] fact_fieldOff_43_5
attribute [go_sem] fact_fieldOff_43_6
attribute [go_sem] fact_fieldOff_43_7
attribute [go_sem] fact_fieldOff_45_0
attribute [go_sem] fact_fieldOff_45_1
attribute [go_sem] fact_fieldOff_45_2
attribute [go_sem] fact_fieldOff_45_3
attribute [go_sem] fact_fieldOff_45_4
attribute [go_sem] fact_fieldOff_45_5
attribute [go_sem] fact_fieldOff_45_6
attribute [go_sem] fact_fieldOff_45_7
attribute [go_sem] fact_fieldOff_48_0
attribute [go_sem] fact_fieldOff_48_1
attribute [go_sem] fact_fieldOff_88_0
attribute [go_sem] fact_fieldOff_88_1
attribute [go_sem] fact_fnOk_10
attribute [go_sem] fact_fnOk_11
attribute [go_sem] fact_fnOk_12
attribute [go_sem] fact_fnOk_13
attribute [go_sem] fact_fnOk_14
attribute [go_sem] fact_fnOk_15
attribute [go_sem] fact_fnOk_16
attribute [go_sem] fact_fnOk_17
attribute [go_sem] fact_fnOk_18
attribute [go_sem] fact_fnOk_19
attribute [go_sem] fact_fnOk_20
attribute [go_sem] fact_fnOk_21
attribute [go_sem] fact_fnOk_22
attribute [go_sem] fact_fnOk_25
attribute [go_sem] fact_fnOk_30
attribute [go_sem] fact_fnOk_31
attribute [go_sem] fact_fnOk_32
attribute [go_sem] fact_fnOk_33
attribute [go_sem] fact_fnOk_34
attribute [go_sem] fact_fnOk_35
attribute [go_sem] fact_fnOk_36
attribute [go_sem] fact_fnOk_37
attribute [go_sem] fact_fnOk_38
attribute [go_sem] fact_fnOk_39
attribute [go_sem] fact_fnOk_40
attribute [go_sem] fact_fnOk_41
attribute [go_sem] fact_fnOk_54
attribute [go_sem] fact_fnOk_55
attribute [go_sem] fact_fnOk_56
attribute [go_sem] fact_fnOk_57
attribute [go_sem] fact_fnOk_69
attribute [go_sem] fact_fnOk_70
attribute [go_sem] fact_fnOk_71
attribute [go_sem] fact_fnOk_74
attribute [go_sem] fact_fnOk_75
attribute [go_sem] fact_fnOk_76
attribute [go_sem] fact_fnOk_77
attribute [go_sem] fact_fnOk_78
attribute [go_sem] fact_fnOk_79
attribute [go_sem] fact_fnOk_80
attribute [go_sem] fact_fnOk_81
attribute [go_sem] fact_fnOk_82
attribute [go_sem] fact_fnOk_83
attribute [go_sem] fact_fnOk_84
attribute [go_sem] fact_fnOk_85
attribute [go_sem] fact_fnOk_86
attribute [go_sem] fact_fnOk_87
attribute [go_sem] fact_fnOk_88
attribute [go_sem] fact_fnOk_89
attribute [go_sem] fact_fnOk_9
attribute [go_sem] fact_fnOk_90
attribute [go_sem] fact_fnOk_91
attribute [go_sem] fact_fnOk_92
attribute [go_sem] fact_fnOk_93
attribute [go_sem] fact_fnOk_94
attribute [go_sem] fact_szO_122
attribute [go_sem] fact_szO_28
attribute [go_sem] fact_szO_3
attribute [go_sem] fact_szO_32
attribute [go_sem] fact_szO_35
attribute [go_sem] fact_szO_37
attribute [go_sem] fact_szO_39
attribute [go_sem] fact_szO_41
attribute [go_sem] fact_szO_43
attribute [go_sem] fact_szO_45
attribute [go_sem] fact_szO_48
attribute [go_sem] fact_zeroV_122
attribute [go_sem] fact_zeroV_28
attribute [go_sem] fact_zeroV_3
attribute [go_sem] fact_zeroV_41
attribute [go_sem] fact_zeroV_43
attribute [go_sem] fact_zeroV_45
attribute [go_sem] fact_zeroV_48
attribute [go_sem] Try.underlying3
attribute [go_sem] Try.underlying4
attribute [go_sem] Try.underlying5
attribute [go_sem] Try.underlying9
attribute [go_sem] Try.underlying22
attribute [go_sem] Try.underlying25
attribute [go_sem] Try.underlying28
attribute [go_sem] Try.underlying32
attribute [go_sem] Try.underlying35
attribute [go_sem] Try.underlying37
attribute [go_sem] Try.underlying39
attribute [go_sem] Try.underlying81
attribute [go_sem] Try.underlying86
attribute [go_sem] Try.underlying112
attribute [go_sem] Try.underlying122
attribute [go_sem] F3.r0
attribute [go_sem] F3.r1
attribute [go_sem] F3.r2
attribute [go_sem] F4.r0
attribute [go_sem] F4.r1
attribute [go_sem] F4.r2
attribute [go_sem] F4.r3
attribute [go_sem] F4.r4
attribute [go_sem] F4.r5
attribute [go_sem] F4.r6
attribute [go_sem] F4.r7
attribute [go_sem] F4.r8
attribute [go_sem] F4.r10
attribute [go_sem] F4.r11
attribute [go_sem] F4.r12
attribute [go_sem] F4.r13
attribute [go_sem] F4.r14
attribute [go_sem] F4.r15
attribute [go_sem] F4.r16
attribute [go_sem] F4.r17
attribute [go_sem] F4.r18
attribute [go_sem] F4.r20
attribute [go_sem] F4.r21
attribute [go_sem] F4.r22
attribute [go_sem] F4.r23
attribute [go_sem] F4.r24
attribute [go_sem] F4.r25
attribute [go_sem] F4.r26
attribute [go_sem] F4.r19
attribute [go_sem] F4.r27
attribute [go_sem] F4.r28
attribute [go_sem] F4.r30
attribute [go_sem] F4.r31
attribute [go_sem] F4.r32
attribute [go_sem] F4.r29
attribute [go_sem] F4.r9
attribute [go_sem] F4.r33
attribute [go_sem] F5.r0
attribute [go_sem] F5.r1
attribute [go_sem] F5.r2
attribute [go_sem] F5.r3
attribute [go_sem] F5.r4
attribute [go_sem] F5.r5
attribute [go_sem] F5.r6
attribute [go_sem] F5.r7
attribute [go_sem] F5.r8
attribute [go_sem] F5.r9
attribute [go_sem] F5.r10
attribute [go_sem] F5.r11
attribute [go_sem] F5.r12
attribute [go_sem] F5.r14
attribute [go_sem] F5.r15
attribute [go_sem] F5.r16
attribute [go_sem] F5.r17
attribute [go_sem] F5.r18
attribute [go_sem] F5.r19
attribute [go_sem] F5.r20
attribute [go_sem] F5.r21
attribute [go_sem] F5.r23
attribute [go_sem] F5.r24
attribute [go_sem] F5.r22
attribute [go_sem] F5.r25
attribute [go_sem] F5.r26
attribute [go_sem] F5.r27
attribute [go_sem] F5.r13
attribute [go_sem] F5.r28
attribute [go_sem] F6.r0
attribute [go_sem] F6.r1
attribute [go_sem] F6.r2
attribute [go_sem] F6.r3
attribute [go_sem] F6.r4
attribute [go_sem] F6.r5
attribute [go_sem] F6.r6
attribute [go_sem] F6.r7
attribute [go_sem] F6.r8
attribute [go_sem] F6.r9
attribute [go_sem] F6.r11
attribute [go_sem] F6.r10
attribute [go_sem] F6.r12
attribute [go_sem] F6.r13
attribute [go_sem] F6.r14
attribute [go_sem] F6.r15
attribute [go_sem] F6.r16
attribute [go_sem] F6.r17
attribute [go_sem] F6.r19
attribute [go_sem] F6.r20
attribute [go_sem] F6.r21
attribute [go_sem] F6.r18
attribute [go_sem] F6.r22
attribute [go_sem] F6.r23
attribute [go_sem] F6.r24
attribute [go_sem] F6.r25
attribute [go_sem] F6.r26
attribute [go_sem] F6.r28
attribute [go_sem] F6.r29
attribute [go_sem] F6.r30
attribute [go_sem] F6.r27
attribute [go_sem] F6.r31
attribute [go_sem] F8.r0
attribute [go_sem] F8.r1
attribute [go_sem] F8.r2
attribute [go_sem] F8.r3
attribute [go_sem] F8.r4
attribute [go_sem] F8.r5
attribute [go_sem] F8.r6
attribute [go_sem] F8.r7
attribute [go_sem] F8.r8
attribute [go_sem] F8.r9
attribute [go_sem] F8.r11
attribute [go_sem] F8.r10
attribute [go_sem] F8.r12
attribute [go_sem] F8.r13
attribute [go_sem] F8.r14
attribute [go_sem] F8.r15
attribute [go_sem] F8.r16
attribute [go_sem] F8.r17
attribute [go_sem] F8.r19
attribute [go_sem] F8.r18
attribute [go_sem] F8.r20
attribute [go_sem] F8.r21
attribute [go_sem] F8.r22
attribute [go_sem] F8.r23
attribute [go_sem] F8.r24
attribute [go_sem] F8.r25
attribute [go_sem] F8.r27
attribute [go_sem] F8.r28
attribute [go_sem] F8.r29
attribute [go_sem] F8.r26
attribute [go_sem] F8.r30
attribute [go_sem] F9.r0
attribute [go_sem] F9.r1
attribute [go_sem] F9.r2
attribute [go_sem] F9.r3
attribute [go_sem] F9.r4
attribute [go_sem] F9.r5
attribute [go_sem] F9.r6
attribute [go_sem] F9.r7
attribute [go_sem] F9.r8
attribute [go_sem] F10.r0
attribute [go_sem] F10.r1
attribute [go_sem] F10.r2
attribute [go_sem] F10.r3
attribute [go_sem] F11.r0
attribute [go_sem] F11.r1
attribute [go_sem] F11.r2
attribute [go_sem] F11.r3
attribute [go_sem] F11.r5
attribute [go_sem] F11.r6
attribute [go_sem] F11.r4
attribute [go_sem] F11.r7
attribute [go_sem] F12.r0
attribute [go_sem] F12.r1
attribute [go_sem] F12.r2
attribute [go_sem] F12.r3
attribute [go_sem] F12.r4
attribute [go_sem] F12.r5
attribute [go_sem] F12.r6
attribute [go_sem] F12.r7
attribute [go_sem] F12.r8
attribute [go_sem] F12.r9
attribute [go_sem] F13.r0
attribute [go_sem] F13.r1
attribute [go_sem] F13.r2
attribute [go_sem] F13.r3
attribute [go_sem] F13.r4
attribute [go_sem] F13.r5
attribute [go_sem] F13.r6
attribute [go_sem] F13.r7
attribute [go_sem] F13.r8
attribute [go_sem] F13.r9
attribute [go_sem] F13.r10
attribute [go_sem] F13.r11
attribute [go_sem] F13.r12
attribute [go_sem] F13.r13
attribute [go_sem] F13.r14
attribute [go_sem] F13.r15
attribute [go_sem] F13.r16
attribute [go_sem] F13.r17
attribute [go_sem] F13.r18
attribute [go_sem] F13.r19
attribute [go_sem] F13.r20
attribute [go_sem] F13.r21
attribute [go_sem] F13.r22
attribute [go_sem] F13.r23
attribute [go_sem] F14.r0
attribute [go_sem] F14.r1
attribute [go_sem] F15.r0
attribute [go_sem] F15.r1
attribute [go_sem] F15.r2
attribute [go_sem] F15.r4
attribute [go_sem] F15.r5
attribute [go_sem] F15.r3
attribute [go_sem] F15.r6
attribute [go_sem] F15.r7
attribute [go_sem] F16.r0
attribute [go_sem] F16.r1
attribute [go_sem] F16.r2
attribute [go_sem] F16.r3
attribute [go_sem] F16.r4
attribute [go_sem] F16.r5
attribute [go_sem] F17.r0
attribute [go_sem] F17.r1
attribute [go_sem] F17.r2
attribute [go_sem] F17.r4
attribute [go_sem] F17.r5
attribute [go_sem] F17.r3
attribute [go_sem] F17.r6
attribute [go_sem] F18.r0
attribute [go_sem] F18.r1
attribute [go_sem] F18.r2
attribute [go_sem] F18.r3
attribute [go_sem] F18.r4
attribute [go_sem] F18.r5
attribute [go_sem] F18.r6
attribute [go_sem] F18.r7
attribute [go_sem] F18.r8
attribute [go_sem] F19.r0
attribute [go_sem] F19.r1
attribute [go_sem] F19.r2
attribute [go_sem] F19.r3
attribute [go_sem] F19.r4
attribute [go_sem] F19.r5
attribute [go_sem] F19.r6
attribute [go_sem] F19.r7
attribute [go_sem] F20.r0
attribute [go_sem] F20.r1
attribute [go_sem] F20.r2
attribute [go_sem] F20.r3
attribute [go_sem] F21.r0
attribute [go_sem] F21.r1
attribute [go_sem] F21.r2
attribute [go_sem] F21.r3
attribute [go_sem] F22.r0
attribute [go_sem] F22.r1
attribute [go_sem] F22.r2
attribute [go_sem] F22.r3
attribute [go_sem] F22.r4
attribute [go_sem] F22.r5
attribute [go_sem] F22.r6
attribute [go_sem] F22.r7
attribute [go_sem] F25.r0
attribute [go_sem] F25.r1
attribute [go_sem] F25.r2
attribute [go_sem] F25.r3
attribute [go_sem] F25.r4
attribute [go_sem] F25.r5
attribute [go_sem] F25.r6
attribute [go_sem] F30.r0
attribute [go_sem] F30.r1
attribute [go_sem] F30.r2
attribute [go_sem] F30.r3
attribute [go_sem] F30.r4
attribute [go_sem] F31.r0
attribute [go_sem] F31.r1
attribute [go_sem] F32.r0
attribute [go_sem] F32.r1
attribute [go_sem] F32.r2
attribute [go_sem] F32.r3
attribute [go_sem] F32.r4
attribute [go_sem] F32.r5
attribute [go_sem] F32.r6
attribute [go_sem] F32.r7
attribute [go_sem] F33.r0
attribute [go_sem] F33.r1
attribute [go_sem] F33.r2
attribute [go_sem] F33.r3
attribute [go_sem] F34.r0
attribute [go_sem] F34.r1
attribute [go_sem] F34.r2
attribute [go_sem] F34.r3
attribute [go_sem] F34.r4
attribute [go_sem] F34.r5
attribute [go_sem] F34.r6
attribute [go_sem] F34.r7
attribute [go_sem] F34.r8
attribute [go_sem] F34.r9
attribute [go_sem] F35.r0
attribute [go_sem] F35.r1
attribute [go_sem] F35.r2
attribute [go_sem] F35.r3
attribute [go_sem] F35.r4
attribute [go_sem] F35.r5
attribute [go_sem] F35.r6
attribute [go_sem] F35.r7
attribute [go_sem] F35.r8
attribute [go_sem] F36.r0
attribute [go_sem] F36.r1
attribute [go_sem] F36.r2
attribute [go_sem] F36.r3
attribute [go_sem] F36.r4
attribute [go_sem] F36.r5
attribute [go_sem] F36.r6
attribute [go_sem] F37.r0
attribute [go_sem] F37.r1
attribute [go_sem] F37.r2
attribute [go_sem] F37.r3
attribute [go_sem] F37.r4
attribute [go_sem] F37.r5
attribute [go_sem] F37.r6
attribute [go_sem] F38.r0
attribute [go_sem] F38.r1
attribute [go_sem] F38.r2
attribute [go_sem] F38.r3
attribute [go_sem] F38.r4
attribute [go_sem] F38.r5
attribute [go_sem] F38.r6
attribute [go_sem] F38.r7
attribute [go_sem] F39.r0
attribute [go_sem] F39.r1
attribute [go_sem] F39.r2
attribute [go_sem] F39.r3
attribute [go_sem] F39.r4
attribute [go_sem] F39.r5
attribute [go_sem] F39.r6
attribute [go_sem] F40.r0
attribute [go_sem] F40.r1
attribute [go_sem] F40.r2
attribute [go_sem] F40.r3
attribute [go_sem] F40.r4
attribute [go_sem] F40.r5
attribute [go_sem] F40.r6
attribute [go_sem] F40.r7
attribute [go_sem] F40.r8
attribute [go_sem] F41.r0
attribute [go_sem] F41.r1
attribute [go_sem] F41.r2
attribute [go_sem] F54.r0
attribute [go_sem] F54.r1
attribute [go_sem] F54.r2
attribute [go_sem] F54.r3
attribute [go_sem] F54.r4
attribute [go_sem] F55.r0
attribute [go_sem] F55.r1
attribute [go_sem] F55.r2
attribute [go_sem] F55.r3
attribute [go_sem] F56.r0
attribute [go_sem] F56.r1
attribute [go_sem] F57.r0
attribute [go_sem] F57.r1
attribute [go_sem] F57.r2
attribute [go_sem] F57.r3
attribute [go_sem] F69.r0
attribute [go_sem] F69.r1
attribute [go_sem] F70.r0
attribute [go_sem] F70.r1
attribute [go_sem] F71.r0
attribute [go_sem] F71.r1
attribute [go_sem] F71.r2
attribute [go_sem] F71.r3
attribute [go_sem] F74.r0
attribute [go_sem] F74.r1
attribute [go_sem] F74.r2
attribute [go_sem] F74.r3
attribute [go_sem] F74.r4
attribute [go_sem] F75.r0
attribute [go_sem] F75.r1
attribute [go_sem] F75.r2
attribute [go_sem] F75.r3
attribute [go_sem] F75.r4
attribute [go_sem] F75.r5
attribute [go_sem] F75.r6
attribute [go_sem] F75.r7
attribute [go_sem] F75.r8
attribute [go_sem] F75.r9
attribute [go_sem] F75.r10
attribute [go_sem] F75.r11
attribute [go_sem] F75.r12
attribute [go_sem] F75.r13
attribute [go_sem] F75.r14
attribute [go_sem] F75.r15
attribute [go_sem] F75.r16
attribute [go_sem] F75.r17
attribute [go_sem] F75.r18
attribute [go_sem] F75.r19
attribute [go_sem] F75.r20
attribute [go_sem] F75.r21
attribute [go_sem] F75.r22
attribute [go_sem] F75.r23
attribute [go_sem] F75.r24
attribute [go_sem] F75.r25
attribute [go_sem] F75.r26
attribute [go_sem] F75.r27
attribute [go_sem] F75.r28
attribute [go_sem] F75.r29
attribute [go_sem] F75.r30
attribute [go_sem] F76.r0
attribute [go_sem] F76.r1
attribute [go_sem] F76.r2
attribute [go_sem] F77.r0
attribute [go_sem] F77.r1
attribute [go_sem] F77.r3
attribute [go_sem] F77.r4
attribute [go_sem] F77.r6
attribute [go_sem] F77.r5
attribute [go_sem] F77.r2
attribute [go_sem] F78.r0
attribute [go_sem] F78.r1
attribute [go_sem] F78.r2
attribute [go_sem] F78.r3
attribute [go_sem] F78.r4
attribute [go_sem] F78.r6
attribute [go_sem] F78.r5
attribute [go_sem] F78.r7
attribute [go_sem] F78.r8
attribute [go_sem] F78.r10
attribute [go_sem] F78.r11
attribute [go_sem] F78.r9
attribute [go_sem] F79.r0
attribute [go_sem] F79.r1
attribute [go_sem] F79.r2
attribute [go_sem] F79.r3
attribute [go_sem] F79.r4
attribute [go_sem] F79.r5
attribute [go_sem] F79.r7
attribute [go_sem] F79.r8
attribute [go_sem] F79.r9
attribute [go_sem] F79.r10
attribute [go_sem] F79.r6
attribute [go_sem] F80.r0
attribute [go_sem] F80.r1
attribute [go_sem] F80.r2
attribute [go_sem] F80.r3
attribute [go_sem] F80.r4
attribute [go_sem] F80.r5
attribute [go_sem] F80.r6
attribute [go_sem] F80.r7
attribute [go_sem] F80.r8
attribute [go_sem] F80.r9
attribute [go_sem] F80.r10
attribute [go_sem] F80.r11
attribute [go_sem] F80.r12
attribute [go_sem] F80.r14
attribute [go_sem] F80.r15
attribute [go_sem] F80.r16
attribute [go_sem] F80.r17
attribute [go_sem] F80.r13
attribute [go_sem] F81.r0
attribute [go_sem] F81.r1
attribute [go_sem] F81.r2
attribute [go_sem] F81.r3
attribute [go_sem] F81.r4
attribute [go_sem] F81.r5
attribute [go_sem] F82.r0
attribute [go_sem] F82.r1
attribute [go_sem] F82.r2
attribute [go_sem] F82.r3
attribute [go_sem] F82.r5
attribute [go_sem] F82.r6
attribute [go_sem] F82.r7
attribute [go_sem] F82.r8
attribute [go_sem] F82.r9
attribute [go_sem] F82.r10
attribute [go_sem] F82.r11
attribute [go_sem] F82.r12
attribute [go_sem] F82.r13
attribute [go_sem] F82.r14
attribute [go_sem] F82.r16
attribute [go_sem] F82.r17
attribute [go_sem] F82.r15
attribute [go_sem] F82.r18
attribute [go_sem] F82.r19
attribute [go_sem] F82.r20
attribute [go_sem] F82.r22
attribute [go_sem] F82.r23
attribute [go_sem] F82.r21
attribute [go_sem] F82.r4
attribute [go_sem] F82.r24
attribute [go_sem] F83.r0
attribute [go_sem] F83.r1
attribute [go_sem] F84.r0
attribute [go_sem] F84.r1
attribute [go_sem] F84.r2
attribute [go_sem] F84.r3
attribute [go_sem] F84.r4
attribute [go_sem] F84.r5
attribute [go_sem] F84.r6
attribute [go_sem] F84.r7
attribute [go_sem] F84.r8
attribute [go_sem] F84.r9
attribute [go_sem] F84.r10
attribute [go_sem] F84.r11
attribute [go_sem] F85.r0
attribute [go_sem] F85.r1
attribute [go_sem] F85.r2
attribute [go_sem] F85.r3
attribute [go_sem] F85.r4
attribute [go_sem] F85.r5
attribute [go_sem] F85.r6
attribute [go_sem] F85.r7
attribute [go_sem] F85.r8
attribute [go_sem] F85.r9
attribute [go_sem] F85.r10
attribute [go_sem] F85.r11
attribute [go_sem] F85.r12
attribute [go_sem] F85.r13
attribute [go_sem] F85.r14
attribute [go_sem] F85.r15
attribute [go_sem] F85.r16
attribute [go_sem] F85.r17
attribute [go_sem] F85.r18
attribute [go_sem] F85.r19
attribute [go_sem] F85.r20
attribute [go_sem] F85.r21
attribute [go_sem] F85.r22
attribute [go_sem] F86.r0
attribute [go_sem] F86.r1
attribute [go_sem] F86.r2
attribute [go_sem] F86.r3
attribute [go_sem] F86.r4
attribute [go_sem] F86.r5
attribute [go_sem] F86.r6
attribute [go_sem] F86.r7
attribute [go_sem] F87.r0
attribute [go_sem] F87.r1
attribute [go_sem] F87.r2
attribute [go_sem] F87.r3
attribute [go_sem] F87.r4
attribute [go_sem] F87.r5
attribute [go_sem] F87.r6
attribute [go_sem] F87.r7
attribute [go_sem] F87.r8
attribute [go_sem] F87.r9
attribute [go_sem] F87.r10
attribute [go_sem] F88.r0
attribute [go_sem] F88.r1
attribute [go_sem] F88.r2
attribute [go_sem] F88.r3
attribute [go_sem] F88.r4
attribute [go_sem] F88.r5
attribute [go_sem] F88.r6
attribute [go_sem] F88.r7
attribute [go_sem] F89.r0
attribute [go_sem] F89.r1
attribute [go_sem] F90.r0
attribute [go_sem] F90.r1
attribute [go_sem] F90.r2
attribute [go_sem] F90.r3
attribute [go_sem] F90.r4
attribute [go_sem] F91.r0
attribute [go_sem] F91.r1
attribute [go_sem] F92.r0
attribute [go_sem] F92.r1
attribute [go_sem] F92.r2
attribute [go_sem] F92.r3
attribute [go_sem] F92.r4
attribute [go_sem] F93.r0
attribute [go_sem] F93.r1
attribute [go_sem] F94.r0
attribute [go_sem] F94.r1
attribute [go_sem] F94.r2
attribute [go_sem] F94.r3
attribute [go_sem] F94.r4

end Go.Proofs.Ytljndiligbaljaa

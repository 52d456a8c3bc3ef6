/- part 10 -/
import Derived.Test.YtljndiligbaljaaZ1
import Derived.Test.YtljndiligbaljaaZ2
import Derived.Test.YtljndiligbaljaaZ3
import Derived.Test.YtljndiligbaljaaZ4
import Derived.Test.YtljndiligbaljaaZ5
import Derived.Test.YtljndiligbaljaaZ6
import Derived.Test.YtljndiligbaljaaZ7
import Derived.Test.YtljndiligbaljaaZ8
import Derived.Test.YtljndiligbaljaaZ9
import Derived.Sort.AssemblyPlain
import Derived.Sort.LotC
import Derived.Shelf.Small.Bits
import Derived.Test.YtljndiligbaljaaProg
import Derived.KernelRfl
import Derived.Sort.LotD1
import Derived.Sort.Row
import Derived.Sort.Grow
import Derived.Deep.Draws
namespace Go.Proofs.Ytljndiligbaljaa
open Go
set_option maxRecDepth 100000
variable {P : Program} {Q : Post} {e : FA} {w : World} {args : Array Value} {R : Ending → World → Prop}
def F68.r0 : List Oper := [
  op 4 (.assign (.const (.int .i64 0))) 3]
def F68.r1 : List Oper := [
  op 5 (.assign (.const (.int .i64 0))) 3]
def F68.r2 : List Oper := [
  op 6 (.assign (.const (.int .i64 0))) 3]
def F68.r3 : List Oper := [
  op 7 (.move (.tmp 6)) 3,
  op 8 (.move (.tmp 0)) 61,
  op 9 (.nilCheck (.tmp 8)) 0,
  op 10 (.fieldAddr 94 (.tmp 9) 1) 0,
  od 11 (.load 28 (.tmp 10)) 28,
  op 12 (.call ⟨(.builtin .len), #[(.tmp 11)], #[28]⟩) 3,
  op 13 (.binOp .lss 3 (.tmp 7) (.tmp 12) 3) 4]
def F68.r5 : List Oper := [
  op 16 (.move (.tmp 0)) 61,
  op 17 (.nilCheck (.tmp 16)) 0,
  op 18 (.fieldAddr 94 (.tmp 17) 1) 0,
  od 19 (.load 28 (.tmp 18)) 28,
  op 20 (.move (.tmp 6)) 3,
  op 21 (.indexAddr 28 (.tmp 19) (.tmp 20)) 0,
  op 22 (.fieldAddr 48 (.tmp 21) 1) 0,
  op 23 (.fieldAddr 43 (.tmp 22) 0) 0,
  od 24 (.load 36 (.tmp 23)) 36,
  op 25 (.binOp .eql 36 (.tmp 24) (.const (.int .u8 2)) 36) 4,
  op 26 (.move (.tmp 25)) 4,
  og 27 (.move (.tmp 0)) 61 26 true,
  og 28 (.nilCheck (.tmp 27)) 0 26 true,
  og 29 (.fieldAddr 94 (.tmp 28) 1) 0 26 true,
  ⟨(some 30), (.load 28 (.tmp 29)), 28, "", #[⟨0, .data⟩], (some (26, true))⟩,
  og 31 (.move (.tmp 6)) 3 26 true,
  og 32 (.indexAddr 28 (.tmp 30) (.tmp 31)) 0 26 true,
  og 33 (.fieldAddr 48 (.tmp 32) 1) 0 26 true,
  og 34 (.fieldAddr 43 (.tmp 33) 1) 0 26 true,
  ⟨(some 35), (.load 37 (.tmp 34)), 37, "", #[⟨0, .data⟩], (some (26, true))⟩,
  og 36 (.move (.tmp 1)) 37 26 true,
  og 37 (.binOp .eql 37 (.tmp 35) (.tmp 36) 37) 4 26 true,
  op 38 (.pick (.tmp 26) (.tmp 37) (.const (.bool false))) 4]
def F68.r6 : List Oper := [
  op 39 (.move (.tmp 5)) 3,
  op 40 (.binOp .add 3 (.tmp 39) (.const (.int .i64 1)) 3) 3,
  op 5 (.assign (.tmp 40)) 3]
def F68.r4 : List Oper := [
  op 14 (.move (.tmp 6)) 3,
  op 15 (.binOp .add 3 (.tmp 14) (.const (.int .i64 1)) 3) 3,
  op 6 (.assign (.tmp 15)) 3]
def F68.r7 : List Oper := [
  op 41 (.move (.tmp 5)) 3,
  op 4 (.assign (.tmp 41)) 3]
def F68.t4 : Cd := (.region 4 F68.r4.toArray false)
theorem F68.t4_eq {θ : Tag (F68.t4, Q, e, w)} : cwE P F68.t4 Q e w θ = cwE P (.region 4 F68.r4.toArray false) Q e w := rfl
def F68.t5 : Cd := (.seq (.block 1 (.seq (.region 5 F68.r5.toArray false) (.cond (.tmp 38) (.region 6 F68.r6.toArray false) .skip))) F68.t4)
theorem F68.t5_eq {θ : Tag (F68.t5, Q, e, w)} : cwE P F68.t5 Q e w θ = cwE P (.seq (.block 1 (.seq (.region 5 F68.r5.toArray false) (.cond (.tmp 38) (.region 6 F68.r6.toArray false) .skip))) F68.t4) Q e w := rfl
def F68.t7 : Cd := (.seq (.region 7 F68.r7.toArray false) .ret)
theorem F68.t7_eq {θ : Tag (F68.t7, Q, e, w)} : cwE P F68.t7 Q e w θ = cwE P (.seq (.region 7 F68.r7.toArray false) .ret) Q e w := rfl
def F68.code : Cd := (.seq (.region 0 F68.r0.toArray false) (.seq (.region 1 F68.r1.toArray false) (.seq (.seq (.region 2 F68.r2.toArray false) (.block 0 (.loop (.seq (.seq (.region 3 F68.r3.toArray false) (.cond (.tmp 13) .skip (.exit 0))) F68.t5)))) F68.t7)))
theorem F68.calls (hn : args.size ≤ 42) (h : cwE Try.prog F68.code (fnP Try.prog #[(.tmp 4)] R) (entry args) w) : Calls Try.prog 68 args w R :=
  calls_of_cwE (types := Try.prog.types) follows Try.func68 F68.code rfl (by kernel_rfl) hn h
def F69.r0 : List Oper := [
  op 2 (.assign (.const (.slice none 0 0))) 32]
def F69.r1 : List Oper := [
  op 3 (.move (.tmp 0)) 102,
  oc 4 (.call ⟨(.value (.func 74)), #[(.const (.slice none 0 0)), (.tmp 3)], #[32, 102]⟩) 32,
  op 2 (.assign (.tmp 4)) 32]
def F69.code : Cd := (.seq (.region 0 F69.r0.toArray false) (.seq (.region 1 F69.r1.toArray false) .ret))
theorem F69.calls (hn : args.size ≤ 5) (h : cwE Try.prog F69.code (fnP Try.prog #[(.tmp 2)] R) (entry args) w) : Calls Try.prog 69 args w R :=
  calls_of_cwE (types := Try.prog.types) follows Try.func69 F69.code rfl (by kernel_rfl) hn h
def F70.r0 : List Oper := [
  op 3 (.move (.tmp 0)) 32,
  op 4 (.call ⟨(.builtin .len), #[(.tmp 3)], #[32]⟩) 3,
  op 2 (.assign (.tmp 4)) 3]
def F70.r1 : List Oper := [
  op 5 (.move (.tmp 0)) 32,
  op 6 (.move (.tmp 2)) 3,
  op 7 (.move (.tmp 2)) 3,
  op 8 (.convert 3 112 (.tmp 7)) 112,
  oc 9 (.call ⟨(.value (.func 76)), #[(.tmp 8)], #[112]⟩) 3,
  oc 10 (.call ⟨(.value (.func 75)), #[(.tmp 5), (.const (.int .i64 0)), (.tmp 6), (.tmp 9)], #[32, 3, 3, 3]⟩) 0]
def F70.code : Cd := (.seq (.region 0 F70.r0.toArray false) (.region 1 F70.r1.toArray false))
theorem F70.calls (hn : args.size ≤ 11) (h : cwE Try.prog F70.code (fnP Try.prog #[] R) (entry args) w) : Calls Try.prog 70 args w R :=
  calls_of_cwE (types := Try.prog.types) follows Try.func70 F70.code rfl (by kernel_rfl) hn h
def F71.r0 : List Oper := [
  od 4 (.load 86 (.tmp 1)) 86,
  oc 5 (.range 86 (.tmp 4)) 0]
def F71.r1 : List Oper := [
  oc 6 (.next (.tmp 5) false) 0,
  op 7 (.extract (.tmp 6) 0) 4]
def F71.r2 : List Oper := [
  od 8 (.entry (.tmp 5)) 0,
  op 9 (.extract (.tmp 8) 0) 35,
  op 3 (.assign (.tmp 9)) 35]
def F71.r3 : List Oper := [
  op 10 (.move (.tmp 0)) 107,
  op 11 (.move (.tmp 3)) 35,
  ⟨(some 12), (.call ⟨(.value (.tmp 10)), #[(.tmp 11)], #[35]⟩), 4, "", #[⟨0, .phase⟩], none⟩,
  op 13 (.unOp .not 4 (.tmp 12)) 4]
def F71.t2 : Cd := (.block 1 (.seq (.region 2 F71.r2.toArray false) (.seq (.region 3 F71.r3.toArray false) (.cond (.tmp 13) .ret .skip))))
theorem F71.t2_eq {θ : Tag (F71.t2, Q, e, w)} : cwE P F71.t2 Q e w θ = cwE P (.block 1 (.seq (.region 2 F71.r2.toArray false) (.seq (.region 3 F71.r3.toArray false) (.cond (.tmp 13) .ret .skip)))) Q e w := rfl
def F71.code : Cd := (.seq (.region 0 F71.r0.toArray false) (.block 0 (.loop (.seq (.region 1 F71.r1.toArray false) (.seq (.cond (.tmp 7) .skip (.exit 0)) F71.t2)))))
theorem F71.calls (hn : args.size ≤ 14) (h : cwE Try.prog F71.code (fnP Try.prog #[] R) (entry args) w) : Calls Try.prog 71 args w R :=
  calls_of_cwE (types := Try.prog.types) follows Try.func71 F71.code rfl (by kernel_rfl) hn h
def F72.r0 : List Oper := [
  oc 1 (.box 43 (.tmp 0)) 0,
  op 2 (.assign (.const (.bool false))) 4]
def F72.r1 : List Oper := [
  op 3 (.fieldAddr 43 (.tmp 1) 0) 0,
  od 4 (.load 36 (.tmp 3)) 36,
  op 5 (.binOp .eql 36 (.tmp 4) (.const (.int .u8 1)) 36) 4,
  op 6 (.move (.tmp 5)) 4,
  og 7 (.fieldAddr 43 (.tmp 1) 0) 0 6 false,
  ⟨(some 8), (.load 36 (.tmp 7)), 36, "", #[⟨0, .data⟩], (some (6, false))⟩,
  og 9 (.binOp .eql 36 (.tmp 8) (.const (.int .u8 2)) 36) 4 6 false,
  op 10 (.pick (.tmp 6) (.const (.bool true)) (.tmp 9)) 4,
  op 11 (.move (.tmp 10)) 4,
  og 12 (.fieldAddr 43 (.tmp 1) 0) 0 11 false,
  ⟨(some 13), (.load 36 (.tmp 12)), 36, "", #[⟨0, .data⟩], (some (11, false))⟩,
  og 14 (.binOp .eql 36 (.tmp 13) (.const (.int .u8 3)) 36) 4 11 false,
  op 15 (.pick (.tmp 11) (.const (.bool true)) (.tmp 14)) 4,
  op 2 (.assign (.tmp 15)) 4]
def F72.code : Cd := (.seq (.region 0 F72.r0.toArray false) (.seq (.region 1 F72.r1.toArray false) .ret))
theorem F72.calls (hn : args.size ≤ 16) (h : cwE Try.prog F72.code (fnP Try.prog #[(.tmp 2)] R) (entry args) w) : Calls Try.prog 72 args w R :=
  calls_of_cwE (types := Try.prog.types) follows Try.func72 F72.code rfl (by kernel_rfl) hn h
def F73.r0 : List Oper := [
  op 4 (.assign (.const (.int .i64 0))) 31]
def F73.r1 : List Oper := [
  op 5 (.move (.tmp 0)) 61,
  op 6 (.nilCheck (.tmp 5)) 0,
  op 7 (.fieldAddr 94 (.tmp 6) 1) 0,
  od 8 (.load 28 (.tmp 7)) 28,
  op 9 (.move (.tmp 1)) 3,
  op 10 (.indexAddr 28 (.tmp 8) (.tmp 9)) 0,
  op 11 (.fieldAddr 48 (.tmp 10) 1) 0,
  op 12 (.fieldAddr 43 (.tmp 11) 0) 0,
  od 13 (.load 36 (.tmp 12)) 36,
  op 14 (.binOp .eql 36 (.tmp 13) (.const (.int .u8 2)) 36) 4]
def F73.r2 : List Oper := [
  op 4 (.assign (.const (.int .i64 112))) 31]
def F73.r3 : List Oper := [
  op 15 (.move (.tmp 0)) 61,
  op 16 (.nilCheck (.tmp 15)) 0,
  op 17 (.fieldAddr 94 (.tmp 16) 1) 0,
  od 18 (.load 28 (.tmp 17)) 28,
  op 19 (.move (.tmp 1)) 3,
  op 20 (.indexAddr 28 (.tmp 18) (.tmp 19)) 0,
  op 21 (.fieldAddr 48 (.tmp 20) 1) 0,
  op 22 (.fieldAddr 43 (.tmp 21) 0) 0,
  od 23 (.load 36 (.tmp 22)) 36,
  op 24 (.binOp .eql 36 (.tmp 23) (.const (.int .u8 3)) 36) 4]
def F73.r4 : List Oper := [
  op 4 (.assign (.const (.int .i64 116))) 31]
def F73.r5 : List Oper := [
  op 4 (.assign (.const (.int .i64 0))) 31]
def F73.t5 : Cd := (.seq (.region 5 F73.r5.toArray false) .ret)
theorem F73.t5_eq {θ : Tag (F73.t5, Q, e, w)} : cwE P F73.t5 Q e w θ = cwE P (.seq (.region 5 F73.r5.toArray false) .ret) Q e w := rfl
def F73.t3 : Cd := (.seq (.seq (.region 3 F73.r3.toArray false) (.cond (.tmp 24) (.seq (.region 4 F73.r4.toArray false) .ret) .skip)) F73.t5)
theorem F73.t3_eq {θ : Tag (F73.t3, Q, e, w)} : cwE P F73.t3 Q e w θ = cwE P (.seq (.seq (.region 3 F73.r3.toArray false) (.cond (.tmp 24) (.seq (.region 4 F73.r4.toArray false) .ret) .skip)) F73.t5) Q e w := rfl
def F73.code : Cd := (.seq (.region 0 F73.r0.toArray false) (.seq (.seq (.region 1 F73.r1.toArray false) (.cond (.tmp 14) (.seq (.region 2 F73.r2.toArray false) .ret) .skip)) F73.t3))
theorem F73.calls (hn : args.size ≤ 25) (h : cwE Try.prog F73.code (fnP Try.prog #[(.tmp 4)] R) (entry args) w) : Calls Try.prog 73 args w R :=
  calls_of_cwE (types := Try.prog.types) follows Try.func73 F73.code rfl (by kernel_rfl) hn h
def F74.r0 : List Oper := [
  oc 2 (.box 32 (.tmp 0)) 0,
  op 4 (.assign (.const (.slice none 0 0))) 32]
def F74.r1 : List Oper := [
  op 6 (.move (.tmp 1)) 102]
def F74.r2 : List Oper := [
  op 5 (.assign (.tmp 7)) 35]
def F74.r3 : List Oper := [
  od 8 (.load 32 (.tmp 2)) 32,
  op 9 (.move (.tmp 5)) 35,
  oc 10 (.buildSlice 32 1 #[(0, (.tmp 9))]) 32,
  oc 11 (.call ⟨(.builtin .append), #[(.tmp 8), (.tmp 10)], #[32, 32]⟩) 32,
  ⟨none, (.store 32 (.tmp 2) (.tmp 11)), 0, "", #[⟨0, .chain⟩], none⟩]
def F74.r4 : List Oper := [
  od 12 (.load 32 (.tmp 2)) 32,
  op 4 (.assign (.tmp 12)) 32]
def F74.a0 : Cd := (.region 2 F74.r2.toArray false)
def F74.b0 : Cd := (.block 1 (.region 3 F74.r3.toArray false))
def F74.t4 : Cd := (.seq (.region 4 F74.r4.toArray false) .ret)
theorem F74.t4_eq {θ : Tag (F74.t4, Q, e, w)} : cwE P F74.t4 Q e w θ = cwE P (.seq (.region 4 F74.r4.toArray false) .ret) Q e w := rfl
def F74.code : Cd := (.seq (.region 0 F74.r0.toArray false) (.seq (.seq (.region 1 F74.r1.toArray false) (.block 0 (.rangeFunc (.tmp 6) #[7] F74.a0 F74.b0))) F74.t4))
theorem F74.calls (hn : args.size ≤ 13) (h : cwE Try.prog F74.code (fnP Try.prog #[(.tmp 4)] R) (entry args) w) : Calls Try.prog 74 args w R :=
  calls_of_cwE (types := Try.prog.types) follows Try.func74 F74.code rfl (by kernel_rfl) hn h
def F75.r0 : List Oper := [
  op 8 (.assign (.const (.bool true))) 4]
def F75.r1 : List Oper := [
  op 9 (.assign (.const (.bool true))) 4]
def F75.r2 : List Oper := [
  op 19 (.move (.tmp 2)) 3,
  op 20 (.move (.tmp 1)) 3,
  op 21 (.binOp .sub 3 (.tmp 19) (.tmp 20) 3) 3,
  op 10 (.assign (.tmp 21)) 3]
def F75.r3 : List Oper := [
  op 22 (.move (.tmp 10)) 3,
  op 23 (.binOp .leq 3 (.tmp 22) (.const (.int .i64 12)) 3) 4]
def F75.r4 : List Oper := [
  op 24 (.move (.tmp 0)) 32,
  op 25 (.move (.tmp 1)) 3,
  op 26 (.move (.tmp 2)) 3,
  oc 27 (.call ⟨(.value (.func 77)), #[(.tmp 24), (.tmp 25), (.tmp 26)], #[32, 3, 3]⟩) 0]
def F75.r5 : List Oper := [
  op 28 (.move (.tmp 3)) 3,
  op 29 (.binOp .eql 3 (.tmp 28) (.const (.int .i64 0)) 3) 4]
def F75.r6 : List Oper := [
  op 30 (.move (.tmp 0)) 32,
  op 31 (.move (.tmp 1)) 3,
  op 32 (.move (.tmp 2)) 3,
  oc 33 (.call ⟨(.value (.func 78)), #[(.tmp 30), (.tmp 31), (.tmp 32)], #[32, 3, 3]⟩) 0]
def F75.r7 : List Oper := [
  op 34 (.move (.tmp 8)) 4,
  op 35 (.unOp .not 4 (.tmp 34)) 4]
def F75.r8 : List Oper := [
  op 36 (.move (.tmp 0)) 32,
  op 37 (.move (.tmp 1)) 3,
  op 38 (.move (.tmp 2)) 3,
  oc 39 (.call ⟨(.value (.func 79)), #[(.tmp 36), (.tmp 37), (.tmp 38)], #[32, 3, 3]⟩) 0]
def F75.r9 : List Oper := [
  op 40 (.move (.tmp 3)) 3,
  op 41 (.binOp .sub 3 (.tmp 40) (.const (.int .i64 1)) 3) 3,
  op 3 (.assign (.tmp 41)) 3]
def F75.r10 : List Oper := [
  op 43 (.move (.tmp 0)) 32,
  op 44 (.move (.tmp 1)) 3,
  op 45 (.move (.tmp 2)) 3,
  oc 46 (.call ⟨(.value (.func 80)), #[(.tmp 43), (.tmp 44), (.tmp 45)], #[32, 3, 3]⟩) 115,
  op 42 (.move (.tmp 46)) 115,
  op 47 (.extract (.tmp 42) 0) 3,
  op 48 (.extract (.tmp 42) 1) 114,
  op 11 (.assign (.tmp 47)) 3,
  op 12 (.assign (.tmp 48)) 114]
def F75.r11 : List Oper := [
  op 49 (.move (.tmp 12)) 114,
  op 50 (.binOp .eql 114 (.tmp 49) (.const (.int .i64 2)) 114) 4]
def F75.r12 : List Oper := [
  op 51 (.move (.tmp 0)) 32,
  op 52 (.move (.tmp 1)) 3,
  op 53 (.move (.tmp 2)) 3,
  oc 54 (.call ⟨(.value (.func 81)), #[(.tmp 51), (.tmp 52), (.tmp 53)], #[32, 3, 3]⟩) 0]
def F75.r13 : List Oper := [
  op 55 (.move (.tmp 2)) 3,
  op 56 (.binOp .sub 3 (.tmp 55) (.const (.int .i64 1)) 3) 3,
  op 57 (.move (.tmp 11)) 3,
  op 58 (.move (.tmp 1)) 3,
  op 59 (.binOp .sub 3 (.tmp 57) (.tmp 58) 3) 3,
  op 60 (.binOp .sub 3 (.tmp 56) (.tmp 59) 3) 3,
  op 11 (.assign (.tmp 60)) 3]
def F75.r14 : List Oper := [
  op 12 (.assign (.const (.int .i64 1))) 114]
def F75.r15 : List Oper := [
  op 61 (.move (.tmp 8)) 4,
  op 62 (.move (.tmp 61)) 4,
  og 63 (.move (.tmp 9)) 4 62 true,
  op 64 (.pick (.tmp 62) (.tmp 63) (.const (.bool false))) 4,
  op 65 (.move (.tmp 64)) 4,
  og 66 (.move (.tmp 12)) 114 65 true,
  og 67 (.binOp .eql 114 (.tmp 66) (.const (.int .i64 1)) 114) 4 65 true,
  op 68 (.pick (.tmp 65) (.tmp 67) (.const (.bool false))) 4]
def F75.r16 : List Oper := [
  op 69 (.move (.tmp 0)) 32,
  op 70 (.move (.tmp 1)) 3,
  op 71 (.move (.tmp 2)) 3,
  oc 72 (.call ⟨(.value (.func 82)), #[(.tmp 69), (.tmp 70), (.tmp 71)], #[32, 3, 3]⟩) 4]
def F75.r17 : List Oper := [
  ⟨(some 73), (.move (.tmp 1)), 3, "", #[], none⟩,
  ⟨(some 74), (.binOp .gtr 3 (.tmp 73) (.const (.int .i64 0)) 3), 4, "", #[], none⟩,
  ⟨(some 75), (.move (.tmp 74)), 4, "", #[], none⟩,
  og 76 (.move (.tmp 0)) 32 75 true,
  og 77 (.move (.tmp 1)) 3 75 true,
  og 78 (.binOp .sub 3 (.tmp 77) (.const (.int .i64 1)) 3) 3 75 true,
  og 79 (.indexAddr 32 (.tmp 76) (.tmp 78)) 0 75 true,
  og 81 (.move (.tmp 0)) 32 75 true,
  og 82 (.move (.tmp 11)) 3 75 true,
  og 83 (.indexAddr 32 (.tmp 81) (.tmp 82)) 0 75 true,
  ⟨(some 80), (.load 35 (.tmp 79)), 35, "", #[⟨4096, .data⟩], (some (75, true))⟩,
  ⟨(some 84), (.load 35 (.tmp 83)), 35, "", #[⟨4096, .data⟩], (some (75, true))⟩,
  ⟨(some 85), (.call ⟨(.value (.func 83)), #[(.tmp 80), (.tmp 84)], #[35, 35]⟩), 4, "", #[⟨12, .chain⟩], (some (75, true))⟩,
  og 86 (.unOp .not 4 (.tmp 85)) 4 75 true,
  ⟨(some 87), (.pick (.tmp 75) (.tmp 86) (.const (.bool false))), 4, "", #[], none⟩]
def F75.r18 : List Oper := [
  op 88 (.move (.tmp 0)) 32,
  op 89 (.move (.tmp 1)) 3,
  op 90 (.move (.tmp 2)) 3,
  op 91 (.move (.tmp 11)) 3,
  oc 92 (.call ⟨(.value (.func 84)), #[(.tmp 88), (.tmp 89), (.tmp 90), (.tmp 91)], #[32, 3, 3, 3]⟩) 3,
  op 13 (.assign (.tmp 92)) 3]
def F75.r19 : List Oper := [
  op 93 (.move (.tmp 13)) 3,
  op 1 (.assign (.tmp 93)) 3]
def F75.r20 : List Oper := [
  op 95 (.move (.tmp 0)) 32,
  op 96 (.move (.tmp 1)) 3,
  op 97 (.move (.tmp 2)) 3,
  op 98 (.move (.tmp 11)) 3,
  oc 99 (.call ⟨(.value (.func 85)), #[(.tmp 95), (.tmp 96), (.tmp 97), (.tmp 98)], #[32, 3, 3, 3]⟩) 120,
  op 94 (.move (.tmp 99)) 120,
  op 100 (.extract (.tmp 94) 0) 3,
  op 101 (.extract (.tmp 94) 1) 4,
  op 14 (.assign (.tmp 100)) 3,
  op 15 (.assign (.tmp 101)) 4]
def F75.r21 : List Oper := [
  op 102 (.move (.tmp 15)) 4,
  op 9 (.assign (.tmp 102)) 4]
def F75.r22 : List Oper := [
  op 103 (.move (.tmp 14)) 3,
  op 104 (.move (.tmp 1)) 3,
  op 105 (.binOp .sub 3 (.tmp 103) (.tmp 104) 3) 3,
  op 106 (.move (.tmp 2)) 3,
  op 107 (.move (.tmp 14)) 3,
  op 108 (.binOp .sub 3 (.tmp 106) (.tmp 107) 3) 3,
  op 16 (.assign (.tmp 105)) 3,
  op 17 (.assign (.tmp 108)) 3]
def F75.r23 : List Oper := [
  op 109 (.move (.tmp 10)) 3,
  op 110 (.binOp .quo 3 (.tmp 109) (.const (.int .i64 8)) 3) 3,
  op 18 (.assign (.tmp 110)) 3]
def F75.r24 : List Oper := [
  op 111 (.move (.tmp 16)) 3,
  op 112 (.move (.tmp 17)) 3,
  op 113 (.binOp .lss 3 (.tmp 111) (.tmp 112) 3) 4]
def F75.r25 : List Oper := [
  op 114 (.move (.tmp 16)) 3,
  op 115 (.move (.tmp 18)) 3,
  op 116 (.binOp .geq 3 (.tmp 114) (.tmp 115) 3) 4,
  op 8 (.assign (.tmp 116)) 4]
def F75.r26 : List Oper := [
  op 117 (.move (.tmp 0)) 32,
  op 118 (.move (.tmp 1)) 3,
  op 119 (.move (.tmp 14)) 3,
  op 120 (.move (.tmp 3)) 3,
  oc 121 (.call ⟨(.value (.func 75)), #[(.tmp 117), (.tmp 118), (.tmp 119), (.tmp 120)], #[32, 3, 3, 3]⟩) 0]
def F75.r27 : List Oper := [
  op 122 (.move (.tmp 14)) 3,
  op 123 (.binOp .add 3 (.tmp 122) (.const (.int .i64 1)) 3) 3,
  op 1 (.assign (.tmp 123)) 3]
def F75.r28 : List Oper := [
  op 124 (.move (.tmp 17)) 3,
  op 125 (.move (.tmp 18)) 3,
  op 126 (.binOp .geq 3 (.tmp 124) (.tmp 125) 3) 4,
  op 8 (.assign (.tmp 126)) 4]
def F75.r29 : List Oper := [
  op 127 (.move (.tmp 0)) 32,
  op 128 (.move (.tmp 14)) 3,
  op 129 (.binOp .add 3 (.tmp 128) (.const (.int .i64 1)) 3) 3,
  op 130 (.move (.tmp 2)) 3,
  op 131 (.move (.tmp 3)) 3,
  oc 132 (.call ⟨(.value (.func 75)), #[(.tmp 127), (.tmp 129), (.tmp 130), (.tmp 131)], #[32, 3, 3, 3]⟩) 0]
def F75.r30 : List Oper := [
  op 133 (.move (.tmp 14)) 3,
  op 2 (.assign (.tmp 133)) 3]
def F75.t20 : Cd := (.seq (.region 20 F75.r20.toArray false) (.seq (.region 21 F75.r21.toArray false) (.seq (.region 22 F75.r22.toArray false) (.seq (.region 23 F75.r23.toArray false) (.seq (.region 24 F75.r24.toArray false) (.cond (.tmp 113) (.seq (.region 25 F75.r25.toArray false) (.seq (.region 26 F75.r26.toArray false) (.region 27 F75.r27.toArray false))) (.seq (.region 28 F75.r28.toArray false) (.seq (.region 29 F75.r29.toArray false) (.region 30 F75.r30.toArray false)))))))))
theorem F75.t20_eq {θ : Tag (F75.t20, Q, e, w)} : cwE P F75.t20 Q e w θ = cwE P (.seq (.region 20 F75.r20.toArray false) (.seq (.region 21 F75.r21.toArray false) (.seq (.region 22 F75.r22.toArray false) (.seq (.region 23 F75.r23.toArray false) (.seq (.region 24 F75.r24.toArray false) (.cond (.tmp 113) (.seq (.region 25 F75.r25.toArray false) (.seq (.region 26 F75.r26.toArray false) (.region 27 F75.r27.toArray false))) (.seq (.region 28 F75.r28.toArray false) (.seq (.region 29 F75.r29.toArray false) (.region 30 F75.r30.toArray false))))))))) Q e w := rfl
def F75.t17 : Cd := (.seq (.seq (.region 17 F75.r17.toArray true) (.cond (.tmp 87) (.seq (.region 18 F75.r18.toArray false) (.seq (.region 19 F75.r19.toArray false) (.exit 1))) .skip)) F75.t20)
theorem F75.t17_eq {θ : Tag (F75.t17, Q, e, w)} : cwE P F75.t17 Q e w θ = cwE P (.seq (.seq (.region 17 F75.r17.toArray true) (.cond (.tmp 87) (.seq (.region 18 F75.r18.toArray false) (.seq (.region 19 F75.r19.toArray false) (.exit 1))) .skip)) F75.t20) Q e w := rfl
def F75.t15 : Cd := (.seq (.seq (.region 15 F75.r15.toArray false) (.cond (.tmp 68) (.seq (.region 16 F75.r16.toArray false) (.cond (.tmp 72) .ret .skip)) .skip)) F75.t17)
theorem F75.t15_eq {θ : Tag (F75.t15, Q, e, w)} : cwE P F75.t15 Q e w θ = cwE P (.seq (.seq (.region 15 F75.r15.toArray false) (.cond (.tmp 68) (.seq (.region 16 F75.r16.toArray false) (.cond (.tmp 72) .ret .skip)) .skip)) F75.t17) Q e w := rfl
def F75.t10 : Cd := (.seq (.region 10 F75.r10.toArray false) (.seq (.seq (.region 11 F75.r11.toArray false) (.cond (.tmp 50) (.seq (.region 12 F75.r12.toArray false) (.seq (.region 13 F75.r13.toArray false) (.region 14 F75.r14.toArray false))) .skip)) F75.t15))
theorem F75.t10_eq {θ : Tag (F75.t10, Q, e, w)} : cwE P F75.t10 Q e w θ = cwE P (.seq (.region 10 F75.r10.toArray false) (.seq (.seq (.region 11 F75.r11.toArray false) (.cond (.tmp 50) (.seq (.region 12 F75.r12.toArray false) (.seq (.region 13 F75.r13.toArray false) (.region 14 F75.r14.toArray false))) .skip)) F75.t15)) Q e w := rfl
def F75.t7 : Cd := (.seq (.seq (.region 7 F75.r7.toArray false) (.cond (.tmp 35) (.seq (.region 8 F75.r8.toArray false) (.region 9 F75.r9.toArray false)) .skip)) F75.t10)
theorem F75.t7_eq {θ : Tag (F75.t7, Q, e, w)} : cwE P F75.t7 Q e w θ = cwE P (.seq (.seq (.region 7 F75.r7.toArray false) (.cond (.tmp 35) (.seq (.region 8 F75.r8.toArray false) (.region 9 F75.r9.toArray false)) .skip)) F75.t10) Q e w := rfl
def F75.t5 : Cd := (.seq (.seq (.region 5 F75.r5.toArray false) (.cond (.tmp 29) (.seq (.region 6 F75.r6.toArray false) .ret) .skip)) F75.t7)
theorem F75.t5_eq {θ : Tag (F75.t5, Q, e, w)} : cwE P F75.t5 Q e w θ = cwE P (.seq (.seq (.region 5 F75.r5.toArray false) (.cond (.tmp 29) (.seq (.region 6 F75.r6.toArray false) .ret) .skip)) F75.t7) Q e w := rfl
def F75.code : Cd := (.seq (.region 0 F75.r0.toArray false) (.seq (.region 1 F75.r1.toArray false) (.block 0 (.loop (.block 1 (.seq (.region 2 F75.r2.toArray false) (.seq (.seq (.region 3 F75.r3.toArray false) (.cond (.tmp 23) (.seq (.region 4 F75.r4.toArray false) .ret) .skip)) F75.t5)))))))
theorem F75.calls (hn : args.size ≤ 134) (h : cwE Try.prog F75.code (fnP Try.prog #[] R) (entry args) w) : Calls Try.prog 75 args w R :=
  calls_of_cwE (types := Try.prog.types) follows Try.func75 F75.code rfl (by kernel_rfl) hn h
def F77.r0 : List Oper := [
  op 8 (.move (.tmp 1)) 3,
  op 9 (.binOp .add 3 (.tmp 8) (.const (.int .i64 1)) 3) 3,
  op 6 (.assign (.tmp 9)) 3]
def F77.r1 : List Oper := [
  op 10 (.move (.tmp 6)) 3,
  op 11 (.move (.tmp 2)) 3,
  op 12 (.binOp .lss 3 (.tmp 10) (.tmp 11) 3) 4]
def F77.r3 : List Oper := [
  op 15 (.move (.tmp 6)) 3,
  op 7 (.assign (.tmp 15)) 3]
def F77.r4 : List Oper := [
  ⟨(some 16), (.move (.tmp 7)), 3, "", #[], none⟩,
  ⟨(some 17), (.move (.tmp 1)), 3, "", #[], none⟩,
  ⟨(some 18), (.binOp .gtr 3 (.tmp 16) (.tmp 17) 3), 4, "", #[], none⟩,
  ⟨(some 19), (.move (.tmp 18)), 4, "", #[], none⟩,
  og 20 (.move (.tmp 0)) 32 19 true,
  og 21 (.move (.tmp 7)) 3 19 true,
  og 22 (.indexAddr 32 (.tmp 20) (.tmp 21)) 0 19 true,
  og 24 (.move (.tmp 0)) 32 19 true,
  og 25 (.move (.tmp 7)) 3 19 true,
  og 26 (.binOp .sub 3 (.tmp 25) (.const (.int .i64 1)) 3) 3 19 true,
  og 27 (.indexAddr 32 (.tmp 24) (.tmp 26)) 0 19 true,
  ⟨(some 23), (.load 35 (.tmp 22)), 35, "", #[⟨8192, .data⟩], (some (19, true))⟩,
  ⟨(some 28), (.load 35 (.tmp 27)), 35, "", #[⟨8192, .data⟩], (some (19, true))⟩,
  ⟨(some 29), (.call ⟨(.value (.func 83)), #[(.tmp 23), (.tmp 28)], #[35, 35]⟩), 4, "", #[⟨13, .chain⟩], (some (19, true))⟩,
  ⟨(some 30), (.pick (.tmp 19) (.tmp 29) (.const (.bool false))), 4, "", #[], none⟩]
def F77.r6 : List Oper := [
  ⟨(some 33), (.move (.tmp 0)), 32, "", #[], none⟩,
  ⟨(some 34), (.move (.tmp 7)), 3, "", #[], none⟩,
  ⟨(some 35), (.move (.tmp 0)), 32, "", #[], none⟩,
  ⟨(some 36), (.move (.tmp 7)), 3, "", #[], none⟩,
  ⟨(some 37), (.binOp .sub 3 (.tmp 36) (.const (.int .i64 1)) 3), 3, "", #[], none⟩,
  ⟨(some 38), (.move (.tmp 0)), 32, "", #[], none⟩,
  ⟨(some 39), (.move (.tmp 7)), 3, "", #[], none⟩,
  ⟨(some 40), (.binOp .sub 3 (.tmp 39) (.const (.int .i64 1)) 3), 3, "", #[], none⟩,
  ⟨(some 41), (.indexAddr 32 (.tmp 38) (.tmp 40)), 0, "", #[], none⟩,
  ⟨(some 43), (.move (.tmp 0)), 32, "", #[], none⟩,
  ⟨(some 44), (.move (.tmp 7)), 3, "", #[], none⟩,
  ⟨(some 45), (.indexAddr 32 (.tmp 43) (.tmp 44)), 0, "", #[], none⟩,
  ⟨(some 42), (.load 35 (.tmp 41)), 35, "", #[⟨163840, .data⟩], none⟩,
  ⟨(some 46), (.load 35 (.tmp 45)), 35, "", #[⟨163840, .data⟩], none⟩,
  ⟨(some 47), (.indexAddr 32 (.tmp 33) (.tmp 34)), 0, "", #[], none⟩,
  ⟨none, (.store 35 (.tmp 47) (.tmp 42)), 0, "", #[⟨15, .chain⟩], none⟩,
  ⟨(some 48), (.indexAddr 32 (.tmp 35) (.tmp 37)), 0, "", #[], none⟩,
  ⟨none, (.store 35 (.tmp 48) (.tmp 46)), 0, "", #[⟨17, .chain⟩], none⟩]
def F77.r5 : List Oper := [
  op 31 (.move (.tmp 7)) 3,
  op 32 (.binOp .sub 3 (.tmp 31) (.const (.int .i64 1)) 3) 3,
  op 7 (.assign (.tmp 32)) 3]
def F77.r2 : List Oper := [
  op 13 (.move (.tmp 6)) 3,
  op 14 (.binOp .add 3 (.tmp 13) (.const (.int .i64 1)) 3) 3,
  op 6 (.assign (.tmp 14)) 3]
def F77.t5 : Cd := (.region 5 F77.r5.toArray false)
theorem F77.t5_eq {θ : Tag (F77.t5, Q, e, w)} : cwE P F77.t5 Q e w θ = cwE P (.region 5 F77.r5.toArray false) Q e w := rfl
def F77.t6 : Cd := (.seq (.block 3 (.region 6 F77.r6.toArray true)) F77.t5)
theorem F77.t6_eq {θ : Tag (F77.t6, Q, e, w)} : cwE P F77.t6 Q e w θ = cwE P (.seq (.block 3 (.region 6 F77.r6.toArray true)) F77.t5) Q e w := rfl
def F77.t2 : Cd := (.region 2 F77.r2.toArray false)
theorem F77.t2_eq {θ : Tag (F77.t2, Q, e, w)} : cwE P F77.t2 Q e w θ = cwE P (.region 2 F77.r2.toArray false) Q e w := rfl
def F77.t3 : Cd := (.seq (.block 1 (.seq (.region 3 F77.r3.toArray false) (.block 2 (.loop (.seq (.seq (.region 4 F77.r4.toArray true) (.cond (.tmp 30) .skip (.exit 2))) F77.t6))))) F77.t2)
theorem F77.t3_eq {θ : Tag (F77.t3, Q, e, w)} : cwE P F77.t3 Q e w θ = cwE P (.seq (.block 1 (.seq (.region 3 F77.r3.toArray false) (.block 2 (.loop (.seq (.seq (.region 4 F77.r4.toArray true) (.cond (.tmp 30) .skip (.exit 2))) F77.t6))))) F77.t2) Q e w := rfl
def F77.code : Cd := (.seq (.region 0 F77.r0.toArray false) (.block 0 (.loop (.seq (.seq (.region 1 F77.r1.toArray false) (.cond (.tmp 12) .skip (.exit 0))) F77.t3))))
theorem F77.calls (hn : args.size ≤ 49) (h : cwE Try.prog F77.code (fnP Try.prog #[] R) (entry args) w) : Calls Try.prog 77 args w R :=
  calls_of_cwE (types := Try.prog.types) follows Try.func77 F77.code rfl (by kernel_rfl) hn h
def F78.r0 : List Oper := [
  op 11 (.move (.tmp 1)) 3,
  op 6 (.assign (.tmp 11)) 3]
def F78.r1 : List Oper := [
  op 7 (.assign (.const (.int .i64 0))) 3]
def F78.r2 : List Oper := [
  op 12 (.move (.tmp 2)) 3,
  op 13 (.move (.tmp 1)) 3,
  op 14 (.binOp .sub 3 (.tmp 12) (.tmp 13) 3) 3,
  op 8 (.assign (.tmp 14)) 3]
def F78.r3 : List Oper := [
  op 15 (.move (.tmp 8)) 3,
  op 16 (.binOp .sub 3 (.tmp 15) (.const (.int .i64 1)) 3) 3,
  op 17 (.binOp .quo 3 (.tmp 16) (.const (.int .i64 2)) 3) 3,
  op 9 (.assign (.tmp 17)) 3]
def F78.r4 : List Oper := [
  op 18 (.move (.tmp 9)) 3,
  op 19 (.binOp .geq 3 (.tmp 18) (.const (.int .i64 0)) 3) 4]
def F78.r6 : List Oper := [
  op 22 (.move (.tmp 0)) 32,
  op 23 (.move (.tmp 9)) 3,
  op 24 (.move (.tmp 8)) 3,
  op 25 (.move (.tmp 6)) 3,
  oc 26 (.call ⟨(.value (.func 88)), #[(.tmp 22), (.tmp 23), (.tmp 24), (.tmp 25)], #[32, 3, 3, 3]⟩) 0]
def F78.r5 : List Oper := [
  op 20 (.move (.tmp 9)) 3,
  op 21 (.binOp .sub 3 (.tmp 20) (.const (.int .i64 1)) 3) 3,
  op 9 (.assign (.tmp 21)) 3]
def F78.r7 : List Oper := [
  op 27 (.move (.tmp 8)) 3,
  op 28 (.binOp .sub 3 (.tmp 27) (.const (.int .i64 1)) 3) 3,
  op 10 (.assign (.tmp 28)) 3]
def F78.r8 : List Oper := [
  op 29 (.move (.tmp 10)) 3,
  op 30 (.binOp .geq 3 (.tmp 29) (.const (.int .i64 0)) 3) 4]
def F78.r10 : List Oper := [
  ⟨(some 33), (.move (.tmp 0)), 32, "", #[], none⟩,
  ⟨(some 34), (.move (.tmp 6)), 3, "", #[], none⟩,
  ⟨(some 35), (.move (.tmp 0)), 32, "", #[], none⟩,
  ⟨(some 36), (.move (.tmp 6)), 3, "", #[], none⟩,
  ⟨(some 37), (.move (.tmp 10)), 3, "", #[], none⟩,
  ⟨(some 38), (.binOp .add 3 (.tmp 36) (.tmp 37) 3), 3, "", #[], none⟩,
  ⟨(some 39), (.move (.tmp 0)), 32, "", #[], none⟩,
  ⟨(some 40), (.move (.tmp 6)), 3, "", #[], none⟩,
  ⟨(some 41), (.move (.tmp 10)), 3, "", #[], none⟩,
  ⟨(some 42), (.binOp .add 3 (.tmp 40) (.tmp 41) 3), 3, "", #[], none⟩,
  ⟨(some 43), (.indexAddr 32 (.tmp 39) (.tmp 42)), 0, "", #[], none⟩,
  ⟨(some 45), (.move (.tmp 0)), 32, "", #[], none⟩,
  ⟨(some 46), (.move (.tmp 6)), 3, "", #[], none⟩,
  ⟨(some 47), (.indexAddr 32 (.tmp 45) (.tmp 46)), 0, "", #[], none⟩,
  ⟨(some 44), (.load 35 (.tmp 43)), 35, "", #[⟨655360, .data⟩], none⟩,
  ⟨(some 48), (.load 35 (.tmp 47)), 35, "", #[⟨655360, .data⟩], none⟩,
  ⟨(some 49), (.indexAddr 32 (.tmp 33) (.tmp 34)), 0, "", #[], none⟩,
  ⟨none, (.store 35 (.tmp 49) (.tmp 44)), 0, "", #[⟨17, .chain⟩], none⟩,
  ⟨(some 50), (.indexAddr 32 (.tmp 35) (.tmp 38)), 0, "", #[], none⟩,
  ⟨none, (.store 35 (.tmp 50) (.tmp 48)), 0, "", #[⟨19, .chain⟩], none⟩]
def F78.r11 : List Oper := [
  op 51 (.move (.tmp 0)) 32,
  op 52 (.move (.tmp 7)) 3,
  op 53 (.move (.tmp 10)) 3,
  op 54 (.move (.tmp 6)) 3,
  oc 55 (.call ⟨(.value (.func 88)), #[(.tmp 51), (.tmp 52), (.tmp 53), (.tmp 54)], #[32, 3, 3, 3]⟩) 0]
def F78.r9 : List Oper := [
  op 31 (.move (.tmp 10)) 3,
  op 32 (.binOp .sub 3 (.tmp 31) (.const (.int .i64 1)) 3) 3,
  op 10 (.assign (.tmp 32)) 3]
def F78.t5 : Cd := (.region 5 F78.r5.toArray false)
theorem F78.t5_eq {θ : Tag (F78.t5, Q, e, w)} : cwE P F78.t5 Q e w θ = cwE P (.region 5 F78.r5.toArray false) Q e w := rfl
def F78.t6 : Cd := (.seq (.block 1 (.region 6 F78.r6.toArray false)) F78.t5)
theorem F78.t6_eq {θ : Tag (F78.t6, Q, e, w)} : cwE P F78.t6 Q e w θ = cwE P (.seq (.block 1 (.region 6 F78.r6.toArray false)) F78.t5) Q e w := rfl
def F78.t9 : Cd := (.region 9 F78.r9.toArray false)
theorem F78.t9_eq {θ : Tag (F78.t9, Q, e, w)} : cwE P F78.t9 Q e w θ = cwE P (.region 9 F78.r9.toArray false) Q e w := rfl
def F78.t10 : Cd := (.seq (.block 3 (.seq (.region 10 F78.r10.toArray true) (.region 11 F78.r11.toArray false))) F78.t9)
theorem F78.t10_eq {θ : Tag (F78.t10, Q, e, w)} : cwE P F78.t10 Q e w θ = cwE P (.seq (.block 3 (.seq (.region 10 F78.r10.toArray true) (.region 11 F78.r11.toArray false))) F78.t9) Q e w := rfl
def F78.t7 : Cd := (.seq (.region 7 F78.r7.toArray false) (.block 2 (.loop (.seq (.seq (.region 8 F78.r8.toArray false) (.cond (.tmp 30) .skip (.exit 2))) F78.t10))))
theorem F78.t7_eq {θ : Tag (F78.t7, Q, e, w)} : cwE P F78.t7 Q e w θ = cwE P (.seq (.region 7 F78.r7.toArray false) (.block 2 (.loop (.seq (.seq (.region 8 F78.r8.toArray false) (.cond (.tmp 30) .skip (.exit 2))) F78.t10)))) Q e w := rfl
def F78.code : Cd := (.seq (.region 0 F78.r0.toArray false) (.seq (.region 1 F78.r1.toArray false) (.seq (.region 2 F78.r2.toArray false) (.seq (.seq (.region 3 F78.r3.toArray false) (.block 0 (.loop (.seq (.seq (.region 4 F78.r4.toArray false) (.cond (.tmp 19) .skip (.exit 0))) F78.t6)))) F78.t7))))
theorem F78.calls (hn : args.size ≤ 56) (h : cwE Try.prog F78.code (fnP Try.prog #[] R) (entry args) w) : Calls Try.prog 78 args w R :=
  calls_of_cwE (types := Try.prog.types) follows Try.func78 F78.code rfl (by kernel_rfl) hn h
def F79.r0 : List Oper := [
  op 11 (.move (.tmp 2)) 3,
  op 12 (.move (.tmp 1)) 3,
  op 13 (.binOp .sub 3 (.tmp 11) (.tmp 12) 3) 3,
  op 6 (.assign (.tmp 13)) 3]
def F79.r1 : List Oper := [
  op 14 (.move (.tmp 6)) 3,
  op 15 (.binOp .geq 3 (.tmp 14) (.const (.int .i64 8)) 3) 4]
def F79.r2 : List Oper := [
  op 16 (.move (.tmp 6)) 3,
  op 17 (.convert 3 122 (.tmp 16)) 122,
  oc 7 (.alloc 122) 0,
  ⟨none, (.store 122 (.tmp 7) (.tmp 17)), 0, "", #[⟨0, .chain⟩], none⟩]
def F79.r3 : List Oper := [
  op 18 (.move (.tmp 6)) 3,
  oc 19 (.call ⟨(.value (.func 89)), #[(.tmp 18)], #[3]⟩) 112,
  op 8 (.assign (.tmp 19)) 112]
def F79.r4 : List Oper := [
  op 20 (.move (.tmp 1)) 3,
  op 21 (.move (.tmp 6)) 3,
  op 22 (.binOp .quo 3 (.tmp 21) (.const (.int .i64 4)) 3) 3,
  op 23 (.binOp .mul 3 (.tmp 22) (.const (.int .i64 2)) 3) 3,
  op 24 (.binOp .add 3 (.tmp 20) (.tmp 23) 3) 3,
  op 25 (.binOp .sub 3 (.tmp 24) (.const (.int .i64 1)) 3) 3,
  op 9 (.assign (.tmp 25)) 3]
def F79.r5 : List Oper := [
  op 26 (.move (.tmp 9)) 3,
  op 27 (.move (.tmp 1)) 3,
  op 28 (.move (.tmp 6)) 3,
  op 29 (.binOp .quo 3 (.tmp 28) (.const (.int .i64 4)) 3) 3,
  op 30 (.binOp .mul 3 (.tmp 29) (.const (.int .i64 2)) 3) 3,
  op 31 (.binOp .add 3 (.tmp 27) (.tmp 30) 3) 3,
  op 32 (.binOp .add 3 (.tmp 31) (.const (.int .i64 1)) 3) 3,
  op 33 (.binOp .leq 3 (.tmp 26) (.tmp 32) 3) 4]
def F79.r7 : List Oper := [
  oc 36 (.call ⟨(.value (.func 90)), #[(.tmp 7)], #[122]⟩) 37,
  op 37 (.move (.tmp 8)) 112,
  op 38 (.binOp .sub 112 (.tmp 37) (.const (.int .u64 1)) 112) 112,
  op 39 (.binOp .and 112 (.tmp 36) (.tmp 38) 112) 112,
  op 40 (.convert 112 3 (.tmp 39)) 3,
  op 10 (.assign (.tmp 40)) 3]
def F79.r8 : List Oper := [
  op 41 (.move (.tmp 10)) 3,
  op 42 (.move (.tmp 6)) 3,
  op 43 (.binOp .geq 3 (.tmp 41) (.tmp 42) 3) 4]
def F79.r9 : List Oper := [
  op 44 (.move (.tmp 10)) 3,
  op 45 (.move (.tmp 6)) 3,
  op 46 (.binOp .sub 3 (.tmp 44) (.tmp 45) 3) 3,
  op 10 (.assign (.tmp 46)) 3]
def F79.r10 : List Oper := [
  ⟨(some 47), (.move (.tmp 0)), 32, "", #[], none⟩,
  ⟨(some 48), (.move (.tmp 9)), 3, "", #[], none⟩,
  ⟨(some 49), (.move (.tmp 0)), 32, "", #[], none⟩,
  ⟨(some 50), (.move (.tmp 1)), 3, "", #[], none⟩,
  ⟨(some 51), (.move (.tmp 10)), 3, "", #[], none⟩,
  ⟨(some 52), (.binOp .add 3 (.tmp 50) (.tmp 51) 3), 3, "", #[], none⟩,
  ⟨(some 53), (.move (.tmp 0)), 32, "", #[], none⟩,
  ⟨(some 54), (.move (.tmp 1)), 3, "", #[], none⟩,
  ⟨(some 55), (.move (.tmp 10)), 3, "", #[], none⟩,
  ⟨(some 56), (.binOp .add 3 (.tmp 54) (.tmp 55) 3), 3, "", #[], none⟩,
  ⟨(some 57), (.indexAddr 32 (.tmp 53) (.tmp 56)), 0, "", #[], none⟩,
  ⟨(some 59), (.move (.tmp 0)), 32, "", #[], none⟩,
  ⟨(some 60), (.move (.tmp 9)), 3, "", #[], none⟩,
  ⟨(some 61), (.indexAddr 32 (.tmp 59) (.tmp 60)), 0, "", #[], none⟩,
  ⟨(some 58), (.load 35 (.tmp 57)), 35, "", #[⟨655360, .data⟩], none⟩,
  ⟨(some 62), (.load 35 (.tmp 61)), 35, "", #[⟨655360, .data⟩], none⟩,
  ⟨(some 63), (.indexAddr 32 (.tmp 47) (.tmp 48)), 0, "", #[], none⟩,
  ⟨none, (.store 35 (.tmp 63) (.tmp 58)), 0, "", #[⟨17, .chain⟩], none⟩,
  ⟨(some 64), (.indexAddr 32 (.tmp 49) (.tmp 52)), 0, "", #[], none⟩,
  ⟨none, (.store 35 (.tmp 64) (.tmp 62)), 0, "", #[⟨19, .chain⟩], none⟩]
def F79.r6 : List Oper := [
  op 34 (.move (.tmp 9)) 3,
  op 35 (.binOp .add 3 (.tmp 34) (.const (.int .i64 1)) 3) 3,
  op 9 (.assign (.tmp 35)) 3]
def F79.t10 : Cd := (.region 10 F79.r10.toArray true)
theorem F79.t10_eq {θ : Tag (F79.t10, Q, e, w)} : cwE P F79.t10 Q e w θ = cwE P (.region 10 F79.r10.toArray true) Q e w := rfl
def F79.t6 : Cd := (.region 6 F79.r6.toArray false)
theorem F79.t6_eq {θ : Tag (F79.t6, Q, e, w)} : cwE P F79.t6 Q e w θ = cwE P (.region 6 F79.r6.toArray false) Q e w := rfl
def F79.t7 : Cd := (.seq (.block 1 (.seq (.region 7 F79.r7.toArray false) (.seq (.seq (.region 8 F79.r8.toArray false) (.cond (.tmp 43) (.region 9 F79.r9.toArray false) .skip)) F79.t10))) F79.t6)
theorem F79.t7_eq {θ : Tag (F79.t7, Q, e, w)} : cwE P F79.t7 Q e w θ = cwE P (.seq (.block 1 (.seq (.region 7 F79.r7.toArray false) (.seq (.seq (.region 8 F79.r8.toArray false) (.cond (.tmp 43) (.region 9 F79.r9.toArray false) .skip)) F79.t10))) F79.t6) Q e w := rfl
def F79.code : Cd := (.seq (.region 0 F79.r0.toArray false) (.seq (.region 1 F79.r1.toArray false) (.cond (.tmp 15) (.seq (.region 2 F79.r2.toArray false) (.seq (.region 3 F79.r3.toArray false) (.seq (.region 4 F79.r4.toArray false) (.block 0 (.loop (.seq (.seq (.region 5 F79.r5.toArray false) (.cond (.tmp 33) .skip (.exit 0))) F79.t7)))))) .skip)))
theorem F79.calls (hn : args.size ≤ 65) (h : cwE Try.prog F79.code (fnP Try.prog #[] R) (entry args) w) : Calls Try.prog 79 args w R :=
  calls_of_cwE (types := Try.prog.types) follows Try.func79 F79.code rfl (by kernel_rfl) hn h
def F80.r0 : List Oper := [
  op 6 (.assign (.const (.int .i64 0))) 3,
  op 7 (.assign (.const (.int .i64 0))) 114]
def F80.r1 : List Oper := [
  op 13 (.move (.tmp 2)) 3,
  op 14 (.move (.tmp 1)) 3,
  op 15 (.binOp .sub 3 (.tmp 13) (.tmp 14) 3) 3,
  op 8 (.assign (.tmp 15)) 3]
def F80.r2 : List Oper := [
  oc 9 (.alloc 3) 0]
def F80.r3 : List Oper := [
  op 16 (.move (.tmp 1)) 3,
  op 17 (.move (.tmp 8)) 3,
  op 18 (.binOp .quo 3 (.tmp 17) (.const (.int .i64 4)) 3) 3,
  op 19 (.binOp .mul 3 (.tmp 18) (.const (.int .i64 1)) 3) 3,
  op 20 (.binOp .add 3 (.tmp 16) (.tmp 19) 3) 3,
  op 10 (.assign (.tmp 20)) 3]
def F80.r4 : List Oper := [
  op 21 (.move (.tmp 1)) 3,
  op 22 (.move (.tmp 8)) 3,
  op 23 (.binOp .quo 3 (.tmp 22) (.const (.int .i64 4)) 3) 3,
  op 24 (.binOp .mul 3 (.tmp 23) (.const (.int .i64 2)) 3) 3,
  op 25 (.binOp .add 3 (.tmp 21) (.tmp 24) 3) 3,
  op 11 (.assign (.tmp 25)) 3]
def F80.r5 : List Oper := [
  op 26 (.move (.tmp 1)) 3,
  op 27 (.move (.tmp 8)) 3,
  op 28 (.binOp .quo 3 (.tmp 27) (.const (.int .i64 4)) 3) 3,
  op 29 (.binOp .mul 3 (.tmp 28) (.const (.int .i64 3)) 3) 3,
  op 30 (.binOp .add 3 (.tmp 26) (.tmp 29) 3) 3,
  op 12 (.assign (.tmp 30)) 3]
def F80.r6 : List Oper := [
  op 31 (.move (.tmp 8)) 3,
  op 32 (.binOp .geq 3 (.tmp 31) (.const (.int .i64 8)) 3) 4]
def F80.r7 : List Oper := [
  op 33 (.move (.tmp 8)) 3,
  op 34 (.binOp .geq 3 (.tmp 33) (.const (.int .i64 50)) 3) 4]
def F80.r8 : List Oper := [
  op 35 (.move (.tmp 0)) 32,
  op 36 (.move (.tmp 10)) 3,
  oc 37 (.call ⟨(.value (.func 91)), #[(.tmp 35), (.tmp 36), (.tmp 9)], #[32, 3, 126]⟩) 3,
  op 10 (.assign (.tmp 37)) 3]
def F80.r9 : List Oper := [
  op 38 (.move (.tmp 0)) 32,
  op 39 (.move (.tmp 11)) 3,
  oc 40 (.call ⟨(.value (.func 91)), #[(.tmp 38), (.tmp 39), (.tmp 9)], #[32, 3, 126]⟩) 3,
  op 11 (.assign (.tmp 40)) 3]
def F80.r10 : List Oper := [
  op 41 (.move (.tmp 0)) 32,
  op 42 (.move (.tmp 12)) 3,
  oc 43 (.call ⟨(.value (.func 91)), #[(.tmp 41), (.tmp 42), (.tmp 9)], #[32, 3, 126]⟩) 3,
  op 12 (.assign (.tmp 43)) 3]
def F80.r11 : List Oper := [
  op 44 (.move (.tmp 0)) 32,
  op 45 (.move (.tmp 10)) 3,
  op 46 (.move (.tmp 11)) 3,
  op 47 (.move (.tmp 12)) 3,
  oc 48 (.call ⟨(.value (.func 92)), #[(.tmp 44), (.tmp 45), (.tmp 46), (.tmp 47), (.tmp 9)], #[32, 3, 3, 3, 126]⟩) 3,
  op 11 (.assign (.tmp 48)) 3]
def F80.r12 : List Oper := [
  od 49 (.load 3 (.tmp 9)) 3]
def F80.r14 : List Oper := [
  op 52 (.binOp .eql 3 (.tmp 49) (.const (.int .i64 0)) 3) 4,
  op 51 (.assign (.tmp 52)) 4]
def F80.r15 : List Oper := [
  op 53 (.move (.tmp 11)) 3,
  op 6 (.assign (.tmp 53)) 3,
  op 7 (.assign (.const (.int .i64 1))) 114]
def F80.r16 : List Oper := [
  op 55 (.binOp .eql 3 (.tmp 49) (.const (.int .i64 12)) 3) 4,
  op 54 (.assign (.tmp 55)) 4]
def F80.r17 : List Oper := [
  op 56 (.move (.tmp 11)) 3,
  op 6 (.assign (.tmp 56)) 3,
  op 7 (.assign (.const (.int .i64 2))) 114]
def F80.r13 : List Oper := [
  op 50 (.move (.tmp 11)) 3,
  op 6 (.assign (.tmp 50)) 3,
  op 7 (.assign (.const (.int .i64 0))) 114]
def F80.t11 : Cd := (.region 11 F80.r11.toArray false)
theorem F80.t11_eq {θ : Tag (F80.t11, Q, e, w)} : cwE P F80.t11 Q e w θ = cwE P (.region 11 F80.r11.toArray false) Q e w := rfl
def F80.t12 : Cd := (.seq (.region 12 F80.r12.toArray false) (.block 0 (.seq (.region 14 F80.r14.toArray false) (.cond (.tmp 51) (.seq (.region 15 F80.r15.toArray false) .ret) (.seq (.region 16 F80.r16.toArray false) (.cond (.tmp 54) (.seq (.region 17 F80.r17.toArray false) .ret) (.seq (.region 13 F80.r13.toArray false) .ret)))))))
theorem F80.t12_eq {θ : Tag (F80.t12, Q, e, w)} : cwE P F80.t12 Q e w θ = cwE P (.seq (.region 12 F80.r12.toArray false) (.block 0 (.seq (.region 14 F80.r14.toArray false) (.cond (.tmp 51) (.seq (.region 15 F80.r15.toArray false) .ret) (.seq (.region 16 F80.r16.toArray false) (.cond (.tmp 54) (.seq (.region 17 F80.r17.toArray false) .ret) (.seq (.region 13 F80.r13.toArray false) .ret))))))) Q e w := rfl
def F80.code : Cd := (.seq (.region 0 F80.r0.toArray false) (.seq (.region 1 F80.r1.toArray false) (.seq (.region 2 F80.r2.toArray false) (.seq (.region 3 F80.r3.toArray false) (.seq (.region 4 F80.r4.toArray false) (.seq (.region 5 F80.r5.toArray false) (.seq (.seq (.region 6 F80.r6.toArray false) (.cond (.tmp 32) (.seq (.seq (.region 7 F80.r7.toArray false) (.cond (.tmp 34) (.seq (.region 8 F80.r8.toArray false) (.seq (.region 9 F80.r9.toArray false) (.region 10 F80.r10.toArray false))) .skip)) F80.t11) .skip)) F80.t12)))))))
theorem F80.calls (hn : args.size ≤ 57) (h : cwE Try.prog F80.code (fnP Try.prog #[(.tmp 6), (.tmp 7)] R) (entry args) w) : Calls Try.prog 80 args w R :=
  calls_of_cwE (types := Try.prog.types) follows Try.func80 F80.code rfl (by kernel_rfl) hn h
def F81.r0 : List Oper := [
  op 8 (.move (.tmp 1)) 3,
  op 6 (.assign (.tmp 8)) 3]
def F81.r1 : List Oper := [
  op 9 (.move (.tmp 2)) 3,
  op 10 (.binOp .sub 3 (.tmp 9) (.const (.int .i64 1)) 3) 3,
  op 7 (.assign (.tmp 10)) 3]
def F81.r2 : List Oper := [
  op 11 (.move (.tmp 6)) 3,
  op 12 (.move (.tmp 7)) 3,
  op 13 (.binOp .lss 3 (.tmp 11) (.tmp 12) 3) 4]
def F81.r3 : List Oper := [
  ⟨(some 14), (.move (.tmp 0)), 32, "", #[], none⟩,
  ⟨(some 15), (.move (.tmp 6)), 3, "", #[], none⟩,
  ⟨(some 16), (.move (.tmp 0)), 32, "", #[], none⟩,
  ⟨(some 17), (.move (.tmp 7)), 3, "", #[], none⟩,
  ⟨(some 18), (.move (.tmp 0)), 32, "", #[], none⟩,
  ⟨(some 19), (.move (.tmp 7)), 3, "", #[], none⟩,
  ⟨(some 20), (.indexAddr 32 (.tmp 18) (.tmp 19)), 0, "", #[], none⟩,
  ⟨(some 22), (.move (.tmp 0)), 32, "", #[], none⟩,
  ⟨(some 23), (.move (.tmp 6)), 3, "", #[], none⟩,
  ⟨(some 24), (.indexAddr 32 (.tmp 22) (.tmp 23)), 0, "", #[], none⟩,
  ⟨(some 21), (.load 35 (.tmp 20)), 35, "", #[⟨40960, .data⟩], none⟩,
  ⟨(some 25), (.load 35 (.tmp 24)), 35, "", #[⟨40960, .data⟩], none⟩,
  ⟨(some 26), (.indexAddr 32 (.tmp 14) (.tmp 15)), 0, "", #[], none⟩,
  ⟨none, (.store 35 (.tmp 26) (.tmp 21)), 0, "", #[⟨13, .chain⟩], none⟩,
  ⟨(some 27), (.indexAddr 32 (.tmp 16) (.tmp 17)), 0, "", #[], none⟩,
  ⟨none, (.store 35 (.tmp 27) (.tmp 25)), 0, "", #[⟨15, .chain⟩], none⟩]
def F81.r4 : List Oper := [
  op 28 (.move (.tmp 6)) 3,
  op 29 (.binOp .add 3 (.tmp 28) (.const (.int .i64 1)) 3) 3,
  op 6 (.assign (.tmp 29)) 3]
def F81.r5 : List Oper := [
  op 30 (.move (.tmp 7)) 3,
  op 31 (.binOp .sub 3 (.tmp 30) (.const (.int .i64 1)) 3) 3,
  op 7 (.assign (.tmp 31)) 3]
def F81.t3 : Cd := (.block 1 (.seq (.region 3 F81.r3.toArray true) (.seq (.region 4 F81.r4.toArray false) (.region 5 F81.r5.toArray false))))
theorem F81.t3_eq {θ : Tag (F81.t3, Q, e, w)} : cwE P F81.t3 Q e w θ = cwE P (.block 1 (.seq (.region 3 F81.r3.toArray true) (.seq (.region 4 F81.r4.toArray false) (.region 5 F81.r5.toArray false)))) Q e w := rfl
def F81.code : Cd := (.seq (.region 0 F81.r0.toArray false) (.seq (.region 1 F81.r1.toArray false) (.block 0 (.loop (.seq (.seq (.region 2 F81.r2.toArray false) (.cond (.tmp 13) .skip (.exit 0))) F81.t3)))))
theorem F81.calls (hn : args.size ≤ 32) (h : cwE Try.prog F81.code (fnP Try.prog #[] R) (entry args) w) : Calls Try.prog 81 args w R :=
  calls_of_cwE (types := Try.prog.types) follows Try.func81 F81.code rfl (by kernel_rfl) hn h
def F82.r0 : List Oper := [
  op 6 (.assign (.const (.bool false))) 4]
def F82.r1 : List Oper := [
  op 11 (.move (.tmp 1)) 3,
  op 12 (.binOp .add 3 (.tmp 11) (.const (.int .i64 1)) 3) 3,
  op 7 (.assign (.tmp 12)) 3]
def F82.r2 : List Oper := [
  op 8 (.assign (.const (.int .i64 0))) 3]
def F82.r3 : List Oper := [
  op 13 (.move (.tmp 8)) 3,
  op 14 (.binOp .lss 3 (.tmp 13) (.const (.int .i64 5)) 3) 4]
def F82.r5 : List Oper := [
  ⟨(some 17), (.move (.tmp 7)), 3, "", #[], none⟩,
  ⟨(some 18), (.move (.tmp 2)), 3, "", #[], none⟩,
  ⟨(some 19), (.binOp .lss 3 (.tmp 17) (.tmp 18) 3), 4, "", #[], none⟩,
  ⟨(some 20), (.move (.tmp 19)), 4, "", #[], none⟩,
  og 21 (.move (.tmp 0)) 32 20 true,
  og 22 (.move (.tmp 7)) 3 20 true,
  og 23 (.indexAddr 32 (.tmp 21) (.tmp 22)) 0 20 true,
  og 25 (.move (.tmp 0)) 32 20 true,
  og 26 (.move (.tmp 7)) 3 20 true,
  og 27 (.binOp .sub 3 (.tmp 26) (.const (.int .i64 1)) 3) 3 20 true,
  og 28 (.indexAddr 32 (.tmp 25) (.tmp 27)) 0 20 true,
  ⟨(some 24), (.load 35 (.tmp 23)), 35, "", #[⟨8192, .data⟩], (some (20, true))⟩,
  ⟨(some 29), (.load 35 (.tmp 28)), 35, "", #[⟨8192, .data⟩], (some (20, true))⟩,
  ⟨(some 30), (.call ⟨(.value (.func 83)), #[(.tmp 24), (.tmp 29)], #[35, 35]⟩), 4, "", #[⟨13, .chain⟩], (some (20, true))⟩,
  og 31 (.unOp .not 4 (.tmp 30)) 4 20 true,
  ⟨(some 32), (.pick (.tmp 20) (.tmp 31) (.const (.bool false))), 4, "", #[], none⟩]
def F82.r6 : List Oper := [
  op 33 (.move (.tmp 7)) 3,
  op 34 (.binOp .add 3 (.tmp 33) (.const (.int .i64 1)) 3) 3,
  op 7 (.assign (.tmp 34)) 3]
def F82.r7 : List Oper := [
  op 35 (.move (.tmp 7)) 3,
  op 36 (.move (.tmp 2)) 3,
  op 37 (.binOp .eql 3 (.tmp 35) (.tmp 36) 3) 4]
def F82.r8 : List Oper := [
  op 6 (.assign (.const (.bool true))) 4]
def F82.r9 : List Oper := [
  op 38 (.move (.tmp 2)) 3,
  op 39 (.move (.tmp 1)) 3,
  op 40 (.binOp .sub 3 (.tmp 38) (.tmp 39) 3) 3,
  op 41 (.binOp .lss 3 (.tmp 40) (.const (.int .i64 50)) 3) 4]
def F82.r10 : List Oper := [
  op 6 (.assign (.const (.bool false))) 4]
def F82.r11 : List Oper := [
  ⟨(some 42), (.move (.tmp 0)), 32, "", #[], none⟩,
  ⟨(some 43), (.move (.tmp 7)), 3, "", #[], none⟩,
  ⟨(some 44), (.move (.tmp 0)), 32, "", #[], none⟩,
  ⟨(some 45), (.move (.tmp 7)), 3, "", #[], none⟩,
  ⟨(some 46), (.binOp .sub 3 (.tmp 45) (.const (.int .i64 1)) 3), 3, "", #[], none⟩,
  ⟨(some 47), (.move (.tmp 0)), 32, "", #[], none⟩,
  ⟨(some 48), (.move (.tmp 7)), 3, "", #[], none⟩,
  ⟨(some 49), (.binOp .sub 3 (.tmp 48) (.const (.int .i64 1)) 3), 3, "", #[], none⟩,
  ⟨(some 50), (.indexAddr 32 (.tmp 47) (.tmp 49)), 0, "", #[], none⟩,
  ⟨(some 52), (.move (.tmp 0)), 32, "", #[], none⟩,
  ⟨(some 53), (.move (.tmp 7)), 3, "", #[], none⟩,
  ⟨(some 54), (.indexAddr 32 (.tmp 52) (.tmp 53)), 0, "", #[], none⟩,
  ⟨(some 51), (.load 35 (.tmp 50)), 35, "", #[⟨163840, .data⟩], none⟩,
  ⟨(some 55), (.load 35 (.tmp 54)), 35, "", #[⟨163840, .data⟩], none⟩,
  ⟨(some 56), (.indexAddr 32 (.tmp 42) (.tmp 43)), 0, "", #[], none⟩,
  ⟨none, (.store 35 (.tmp 56) (.tmp 51)), 0, "", #[⟨15, .chain⟩], none⟩,
  ⟨(some 57), (.indexAddr 32 (.tmp 44) (.tmp 46)), 0, "", #[], none⟩,
  ⟨none, (.store 35 (.tmp 57) (.tmp 55)), 0, "", #[⟨17, .chain⟩], none⟩]
def F82.r12 : List Oper := [
  op 58 (.move (.tmp 7)) 3,
  op 59 (.move (.tmp 1)) 3,
  op 60 (.binOp .sub 3 (.tmp 58) (.tmp 59) 3) 3,
  op 61 (.binOp .geq 3 (.tmp 60) (.const (.int .i64 2)) 3) 4]
def F82.r13 : List Oper := [
  op 62 (.move (.tmp 7)) 3,
  op 63 (.binOp .sub 3 (.tmp 62) (.const (.int .i64 1)) 3) 3,
  op 9 (.assign (.tmp 63)) 3]
def F82.r14 : List Oper := [
  op 64 (.move (.tmp 9)) 3,
  op 65 (.binOp .geq 3 (.tmp 64) (.const (.int .i64 1)) 3) 4]
def F82.r16 : List Oper := [
  ⟨(some 68), (.move (.tmp 0)), 32, "", #[], none⟩,
  ⟨(some 69), (.move (.tmp 9)), 3, "", #[], none⟩,
  ⟨(some 70), (.indexAddr 32 (.tmp 68) (.tmp 69)), 0, "", #[], none⟩,
  ⟨(some 72), (.move (.tmp 0)), 32, "", #[], none⟩,
  ⟨(some 73), (.move (.tmp 9)), 3, "", #[], none⟩,
  ⟨(some 74), (.binOp .sub 3 (.tmp 73) (.const (.int .i64 1)) 3), 3, "", #[], none⟩,
  ⟨(some 75), (.indexAddr 32 (.tmp 72) (.tmp 74)), 0, "", #[], none⟩,
  ⟨(some 71), (.load 35 (.tmp 70)), 35, "", #[⟨512, .data⟩], none⟩,
  ⟨(some 76), (.load 35 (.tmp 75)), 35, "", #[⟨512, .data⟩], none⟩,
  ⟨(some 77), (.call ⟨(.value (.func 83)), #[(.tmp 71), (.tmp 76)], #[35, 35]⟩), 4, "", #[⟨9, .chain⟩], none⟩,
  ⟨(some 78), (.unOp .not 4 (.tmp 77)), 4, "", #[], none⟩]
def F82.r17 : List Oper := [
  ⟨(some 79), (.move (.tmp 0)), 32, "", #[], none⟩,
  ⟨(some 80), (.move (.tmp 9)), 3, "", #[], none⟩,
  ⟨(some 81), (.move (.tmp 0)), 32, "", #[], none⟩,
  ⟨(some 82), (.move (.tmp 9)), 3, "", #[], none⟩,
  ⟨(some 83), (.binOp .sub 3 (.tmp 82) (.const (.int .i64 1)) 3), 3, "", #[], none⟩,
  ⟨(some 84), (.move (.tmp 0)), 32, "", #[], none⟩,
  ⟨(some 85), (.move (.tmp 9)), 3, "", #[], none⟩,
  ⟨(some 86), (.binOp .sub 3 (.tmp 85) (.const (.int .i64 1)) 3), 3, "", #[], none⟩,
  ⟨(some 87), (.indexAddr 32 (.tmp 84) (.tmp 86)), 0, "", #[], none⟩,
  ⟨(some 89), (.move (.tmp 0)), 32, "", #[], none⟩,
  ⟨(some 90), (.move (.tmp 9)), 3, "", #[], none⟩,
  ⟨(some 91), (.indexAddr 32 (.tmp 89) (.tmp 90)), 0, "", #[], none⟩,
  ⟨(some 88), (.load 35 (.tmp 87)), 35, "", #[⟨163840, .data⟩], none⟩,
  ⟨(some 92), (.load 35 (.tmp 91)), 35, "", #[⟨163840, .data⟩], none⟩,
  ⟨(some 93), (.indexAddr 32 (.tmp 79) (.tmp 80)), 0, "", #[], none⟩,
  ⟨none, (.store 35 (.tmp 93) (.tmp 88)), 0, "", #[⟨15, .chain⟩], none⟩,
  ⟨(some 94), (.indexAddr 32 (.tmp 81) (.tmp 83)), 0, "", #[], none⟩,
  ⟨none, (.store 35 (.tmp 94) (.tmp 92)), 0, "", #[⟨17, .chain⟩], none⟩]
def F82.r15 : List Oper := [
  op 66 (.move (.tmp 9)) 3,
  op 67 (.binOp .sub 3 (.tmp 66) (.const (.int .i64 1)) 3) 3,
  op 9 (.assign (.tmp 67)) 3]
def F82.r18 : List Oper := [
  op 95 (.move (.tmp 2)) 3,
  op 96 (.move (.tmp 7)) 3,
  op 97 (.binOp .sub 3 (.tmp 95) (.tmp 96) 3) 3,
  op 98 (.binOp .geq 3 (.tmp 97) (.const (.int .i64 2)) 3) 4]
def F82.r19 : List Oper := [
  op 99 (.move (.tmp 7)) 3,
  op 100 (.binOp .add 3 (.tmp 99) (.const (.int .i64 1)) 3) 3,
  op 10 (.assign (.tmp 100)) 3]
def F82.r20 : List Oper := [
  op 101 (.move (.tmp 10)) 3,
  op 102 (.move (.tmp 2)) 3,
  op 103 (.binOp .lss 3 (.tmp 101) (.tmp 102) 3) 4]
def F82.r22 : List Oper := [
  ⟨(some 106), (.move (.tmp 0)), 32, "", #[], none⟩,
  ⟨(some 107), (.move (.tmp 10)), 3, "", #[], none⟩,
  ⟨(some 108), (.indexAddr 32 (.tmp 106) (.tmp 107)), 0, "", #[], none⟩,
  ⟨(some 110), (.move (.tmp 0)), 32, "", #[], none⟩,
  ⟨(some 111), (.move (.tmp 10)), 3, "", #[], none⟩,
  ⟨(some 112), (.binOp .sub 3 (.tmp 111) (.const (.int .i64 1)) 3), 3, "", #[], none⟩,
  ⟨(some 113), (.indexAddr 32 (.tmp 110) (.tmp 112)), 0, "", #[], none⟩,
  ⟨(some 109), (.load 35 (.tmp 108)), 35, "", #[⟨512, .data⟩], none⟩,
  ⟨(some 114), (.load 35 (.tmp 113)), 35, "", #[⟨512, .data⟩], none⟩,
  ⟨(some 115), (.call ⟨(.value (.func 83)), #[(.tmp 109), (.tmp 114)], #[35, 35]⟩), 4, "", #[⟨9, .chain⟩], none⟩,
  ⟨(some 116), (.unOp .not 4 (.tmp 115)), 4, "", #[], none⟩]
def F82.r23 : List Oper := [
  ⟨(some 117), (.move (.tmp 0)), 32, "", #[], none⟩,
  ⟨(some 118), (.move (.tmp 10)), 3, "", #[], none⟩,
  ⟨(some 119), (.move (.tmp 0)), 32, "", #[], none⟩,
  ⟨(some 120), (.move (.tmp 10)), 3, "", #[], none⟩,
  ⟨(some 121), (.binOp .sub 3 (.tmp 120) (.const (.int .i64 1)) 3), 3, "", #[], none⟩,
  ⟨(some 122), (.move (.tmp 0)), 32, "", #[], none⟩,
  ⟨(some 123), (.move (.tmp 10)), 3, "", #[], none⟩,
  ⟨(some 124), (.binOp .sub 3 (.tmp 123) (.const (.int .i64 1)) 3), 3, "", #[], none⟩,
  ⟨(some 125), (.indexAddr 32 (.tmp 122) (.tmp 124)), 0, "", #[], none⟩,
  ⟨(some 127), (.move (.tmp 0)), 32, "", #[], none⟩,
  ⟨(some 128), (.move (.tmp 10)), 3, "", #[], none⟩,
  ⟨(some 129), (.indexAddr 32 (.tmp 127) (.tmp 128)), 0, "", #[], none⟩,
  ⟨(some 126), (.load 35 (.tmp 125)), 35, "", #[⟨163840, .data⟩], none⟩,
  ⟨(some 130), (.load 35 (.tmp 129)), 35, "", #[⟨163840, .data⟩], none⟩,
  ⟨(some 131), (.indexAddr 32 (.tmp 117) (.tmp 118)), 0, "", #[], none⟩,
  ⟨none, (.store 35 (.tmp 131) (.tmp 126)), 0, "", #[⟨15, .chain⟩], none⟩,
  ⟨(some 132), (.indexAddr 32 (.tmp 119) (.tmp 121)), 0, "", #[], none⟩,
  ⟨none, (.store 35 (.tmp 132) (.tmp 130)), 0, "", #[⟨17, .chain⟩], none⟩]
def F82.r21 : List Oper := [
  op 104 (.move (.tmp 10)) 3,
  op 105 (.binOp .add 3 (.tmp 104) (.const (.int .i64 1)) 3) 3,
  op 10 (.assign (.tmp 105)) 3]
def F82.r4 : List Oper := [
  op 15 (.move (.tmp 8)) 3,
  op 16 (.binOp .add 3 (.tmp 15) (.const (.int .i64 1)) 3) 3,
  op 8 (.assign (.tmp 16)) 3]
def F82.r24 : List Oper := [
  op 6 (.assign (.const (.bool false))) 4]
def F82.t6 : Cd := (.block 3 (.region 6 F82.r6.toArray false))
theorem F82.t6_eq {θ : Tag (F82.t6, Q, e, w)} : cwE P F82.t6 Q e w θ = cwE P (.block 3 (.region 6 F82.r6.toArray false)) Q e w := rfl
def F82.t17 : Cd := (.region 17 F82.r17.toArray true)
theorem F82.t17_eq {θ : Tag (F82.t17, Q, e, w)} : cwE P F82.t17 Q e w θ = cwE P (.region 17 F82.r17.toArray true) Q e w := rfl
def F82.t15 : Cd := (.region 15 F82.r15.toArray false)
theorem F82.t15_eq {θ : Tag (F82.t15, Q, e, w)} : cwE P F82.t15 Q e w θ = cwE P (.region 15 F82.r15.toArray false) Q e w := rfl
def F82.t16 : Cd := (.seq (.block 5 (.seq (.seq (.region 16 F82.r16.toArray true) (.cond (.tmp 78) (.exit 4) .skip)) F82.t17)) F82.t15)
theorem F82.t16_eq {θ : Tag (F82.t16, Q, e, w)} : cwE P F82.t16 Q e w θ = cwE P (.seq (.block 5 (.seq (.seq (.region 16 F82.r16.toArray true) (.cond (.tmp 78) (.exit 4) .skip)) F82.t17)) F82.t15) Q e w := rfl
def F82.t23 : Cd := (.region 23 F82.r23.toArray true)
theorem F82.t23_eq {θ : Tag (F82.t23, Q, e, w)} : cwE P F82.t23 Q e w θ = cwE P (.region 23 F82.r23.toArray true) Q e w := rfl
def F82.t21 : Cd := (.region 21 F82.r21.toArray false)
theorem F82.t21_eq {θ : Tag (F82.t21, Q, e, w)} : cwE P F82.t21 Q e w θ = cwE P (.region 21 F82.r21.toArray false) Q e w := rfl
def F82.t22 : Cd := (.seq (.block 7 (.seq (.seq (.region 22 F82.r22.toArray true) (.cond (.tmp 116) (.exit 6) .skip)) F82.t23)) F82.t21)
theorem F82.t22_eq {θ : Tag (F82.t22, Q, e, w)} : cwE P F82.t22 Q e w θ = cwE P (.seq (.block 7 (.seq (.seq (.region 22 F82.r22.toArray true) (.cond (.tmp 116) (.exit 6) .skip)) F82.t23)) F82.t21) Q e w := rfl
def F82.t18 : Cd := (.seq (.region 18 F82.r18.toArray false) (.cond (.tmp 98) (.seq (.region 19 F82.r19.toArray false) (.block 6 (.loop (.seq (.seq (.region 20 F82.r20.toArray false) (.cond (.tmp 103) .skip (.exit 6))) F82.t22)))) .skip))
theorem F82.t18_eq {θ : Tag (F82.t18, Q, e, w)} : cwE P F82.t18 Q e w θ = cwE P (.seq (.region 18 F82.r18.toArray false) (.cond (.tmp 98) (.seq (.region 19 F82.r19.toArray false) (.block 6 (.loop (.seq (.seq (.region 20 F82.r20.toArray false) (.cond (.tmp 103) .skip (.exit 6))) F82.t22)))) .skip)) Q e w := rfl
def F82.t11 : Cd := (.seq (.region 11 F82.r11.toArray true) (.seq (.seq (.region 12 F82.r12.toArray false) (.cond (.tmp 61) (.seq (.region 13 F82.r13.toArray false) (.block 4 (.loop (.seq (.seq (.region 14 F82.r14.toArray false) (.cond (.tmp 65) .skip (.exit 4))) F82.t16)))) .skip)) F82.t18))
theorem F82.t11_eq {θ : Tag (F82.t11, Q, e, w)} : cwE P F82.t11 Q e w θ = cwE P (.seq (.region 11 F82.r11.toArray true) (.seq (.seq (.region 12 F82.r12.toArray false) (.cond (.tmp 61) (.seq (.region 13 F82.r13.toArray false) (.block 4 (.loop (.seq (.seq (.region 14 F82.r14.toArray false) (.cond (.tmp 65) .skip (.exit 4))) F82.t16)))) .skip)) F82.t18)) Q e w := rfl
def F82.t9 : Cd := (.seq (.seq (.region 9 F82.r9.toArray false) (.cond (.tmp 41) (.seq (.region 10 F82.r10.toArray false) .ret) .skip)) F82.t11)
theorem F82.t9_eq {θ : Tag (F82.t9, Q, e, w)} : cwE P F82.t9 Q e w θ = cwE P (.seq (.seq (.region 9 F82.r9.toArray false) (.cond (.tmp 41) (.seq (.region 10 F82.r10.toArray false) .ret) .skip)) F82.t11) Q e w := rfl
def F82.t7 : Cd := (.seq (.seq (.region 7 F82.r7.toArray false) (.cond (.tmp 37) (.seq (.region 8 F82.r8.toArray false) .ret) .skip)) F82.t9)
theorem F82.t7_eq {θ : Tag (F82.t7, Q, e, w)} : cwE P F82.t7 Q e w θ = cwE P (.seq (.seq (.region 7 F82.r7.toArray false) (.cond (.tmp 37) (.seq (.region 8 F82.r8.toArray false) .ret) .skip)) F82.t9) Q e w := rfl
def F82.t4 : Cd := (.region 4 F82.r4.toArray false)
theorem F82.t4_eq {θ : Tag (F82.t4, Q, e, w)} : cwE P F82.t4 Q e w θ = cwE P (.region 4 F82.r4.toArray false) Q e w := rfl
def F82.t5 : Cd := (.seq (.block 1 (.seq (.block 2 (.loop (.seq (.seq (.region 5 F82.r5.toArray true) (.cond (.tmp 32) .skip (.exit 2))) F82.t6))) F82.t7)) F82.t4)
theorem F82.t5_eq {θ : Tag (F82.t5, Q, e, w)} : cwE P F82.t5 Q e w θ = cwE P (.seq (.block 1 (.seq (.block 2 (.loop (.seq (.seq (.region 5 F82.r5.toArray true) (.cond (.tmp 32) .skip (.exit 2))) F82.t6))) F82.t7)) F82.t4) Q e w := rfl
def F82.t24 : Cd := (.seq (.region 24 F82.r24.toArray false) .ret)
theorem F82.t24_eq {θ : Tag (F82.t24, Q, e, w)} : cwE P F82.t24 Q e w θ = cwE P (.seq (.region 24 F82.r24.toArray false) .ret) Q e w := rfl
def F82.code : Cd := (.seq (.region 0 F82.r0.toArray false) (.seq (.region 1 F82.r1.toArray false) (.seq (.seq (.region 2 F82.r2.toArray false) (.block 0 (.loop (.seq (.seq (.region 3 F82.r3.toArray false) (.cond (.tmp 14) .skip (.exit 0))) F82.t5)))) F82.t24)))
theorem F82.calls (hn : args.size ≤ 133) (h : cwE Try.prog F82.code (fnP Try.prog #[(.tmp 6)] R) (entry args) w) : Calls Try.prog 82 args w R :=
  calls_of_cwE (types := Try.prog.types) follows Try.func82 F82.code rfl (by kernel_rfl) hn h
def F83.r0 : List Oper := [
  op 4 (.assign (.const (.bool false))) 4]
def F83.r1 : List Oper := [
  op 5 (.move (.tmp 0)) 35,
  oc 6 (.call ⟨(.value (.func 93)), #[(.tmp 5)], #[35]⟩) 4,
  op 7 (.move (.tmp 6)) 4,
  og 8 (.move (.tmp 1)) 35 7 true,
  ⟨(some 9), (.call ⟨(.value (.func 93)), #[(.tmp 8)], #[35]⟩), 4, "", #[⟨0, .chain⟩], (some (7, true))⟩,
  og 10 (.unOp .not 4 (.tmp 9)) 4 7 true,
  op 11 (.pick (.tmp 7) (.tmp 10) (.const (.bool false))) 4,
  op 12 (.move (.tmp 11)) 4,
  og 13 (.move (.tmp 0)) 35 12 false,
  og 14 (.move (.tmp 1)) 35 12 false,
  og 15 (.binOp .lss 35 (.tmp 13) (.tmp 14) 35) 4 12 false,
  op 16 (.pick (.tmp 12) (.const (.bool true)) (.tmp 15)) 4,
  op 4 (.assign (.tmp 16)) 4]
def F83.code : Cd := (.seq (.region 0 F83.r0.toArray false) (.seq (.region 1 F83.r1.toArray false) .ret))
theorem F83.calls (hn : args.size ≤ 17) (h : cwE Try.prog F83.code (fnP Try.prog #[(.tmp 4)] R) (entry args) w) : Calls Try.prog 83 args w R :=
  calls_of_cwE (types := Try.prog.types) follows Try.func83 F83.code rfl (by kernel_rfl) hn h
def F84.r0 : List Oper := [
  op 8 (.assign (.const (.int .i64 0))) 3]
def F84.r1 : List Oper := [
  ⟨(some 11), (.move (.tmp 0)), 32, "", #[], none⟩,
  ⟨(some 12), (.move (.tmp 1)), 3, "", #[], none⟩,
  ⟨(some 13), (.move (.tmp 0)), 32, "", #[], none⟩,
  ⟨(some 14), (.move (.tmp 3)), 3, "", #[], none⟩,
  ⟨(some 15), (.move (.tmp 0)), 32, "", #[], none⟩,
  ⟨(some 16), (.move (.tmp 3)), 3, "", #[], none⟩,
  ⟨(some 17), (.indexAddr 32 (.tmp 15) (.tmp 16)), 0, "", #[], none⟩,
  ⟨(some 19), (.move (.tmp 0)), 32, "", #[], none⟩,
  ⟨(some 20), (.move (.tmp 1)), 3, "", #[], none⟩,
  ⟨(some 21), (.indexAddr 32 (.tmp 19) (.tmp 20)), 0, "", #[], none⟩,
  ⟨(some 18), (.load 35 (.tmp 17)), 35, "", #[⟨40960, .data⟩], none⟩,
  ⟨(some 22), (.load 35 (.tmp 21)), 35, "", #[⟨40960, .data⟩], none⟩,
  ⟨(some 23), (.indexAddr 32 (.tmp 11) (.tmp 12)), 0, "", #[], none⟩,
  ⟨none, (.store 35 (.tmp 23) (.tmp 18)), 0, "", #[⟨13, .chain⟩], none⟩,
  ⟨(some 24), (.indexAddr 32 (.tmp 13) (.tmp 14)), 0, "", #[], none⟩,
  ⟨none, (.store 35 (.tmp 24) (.tmp 22)), 0, "", #[⟨15, .chain⟩], none⟩]
def F84.r2 : List Oper := [
  op 25 (.move (.tmp 1)) 3,
  op 26 (.binOp .add 3 (.tmp 25) (.const (.int .i64 1)) 3) 3,
  op 27 (.move (.tmp 2)) 3,
  op 28 (.binOp .sub 3 (.tmp 27) (.const (.int .i64 1)) 3) 3,
  op 9 (.assign (.tmp 26)) 3,
  op 10 (.assign (.tmp 28)) 3]
def F84.r3 : List Oper := [
  ⟨(some 29), (.move (.tmp 9)), 3, "", #[], none⟩,
  ⟨(some 30), (.move (.tmp 10)), 3, "", #[], none⟩,
  ⟨(some 31), (.binOp .leq 3 (.tmp 29) (.tmp 30) 3), 4, "", #[], none⟩,
  ⟨(some 32), (.move (.tmp 31)), 4, "", #[], none⟩,
  og 33 (.move (.tmp 0)) 32 32 true,
  og 34 (.move (.tmp 1)) 3 32 true,
  og 35 (.indexAddr 32 (.tmp 33) (.tmp 34)) 0 32 true,
  og 37 (.move (.tmp 0)) 32 32 true,
  og 38 (.move (.tmp 9)) 3 32 true,
  og 39 (.indexAddr 32 (.tmp 37) (.tmp 38)) 0 32 true,
  ⟨(some 36), (.load 35 (.tmp 35)), 35, "", #[⟨4096, .data⟩], (some (32, true))⟩,
  ⟨(some 40), (.load 35 (.tmp 39)), 35, "", #[⟨4096, .data⟩], (some (32, true))⟩,
  ⟨(some 41), (.call ⟨(.value (.func 83)), #[(.tmp 36), (.tmp 40)], #[35, 35]⟩), 4, "", #[⟨12, .chain⟩], (some (32, true))⟩,
  og 42 (.unOp .not 4 (.tmp 41)) 4 32 true,
  ⟨(some 43), (.pick (.tmp 32) (.tmp 42) (.const (.bool false))), 4, "", #[], none⟩]
def F84.r4 : List Oper := [
  op 44 (.move (.tmp 9)) 3,
  op 45 (.binOp .add 3 (.tmp 44) (.const (.int .i64 1)) 3) 3,
  op 9 (.assign (.tmp 45)) 3]
def F84.r5 : List Oper := [
  ⟨(some 46), (.move (.tmp 9)), 3, "", #[], none⟩,
  ⟨(some 47), (.move (.tmp 10)), 3, "", #[], none⟩,
  ⟨(some 48), (.binOp .leq 3 (.tmp 46) (.tmp 47) 3), 4, "", #[], none⟩,
  ⟨(some 49), (.move (.tmp 48)), 4, "", #[], none⟩,
  og 50 (.move (.tmp 0)) 32 49 true,
  og 51 (.move (.tmp 1)) 3 49 true,
  og 52 (.indexAddr 32 (.tmp 50) (.tmp 51)) 0 49 true,
  og 54 (.move (.tmp 0)) 32 49 true,
  og 55 (.move (.tmp 10)) 3 49 true,
  og 56 (.indexAddr 32 (.tmp 54) (.tmp 55)) 0 49 true,
  ⟨(some 53), (.load 35 (.tmp 52)), 35, "", #[⟨4096, .data⟩], (some (49, true))⟩,
  ⟨(some 57), (.load 35 (.tmp 56)), 35, "", #[⟨4096, .data⟩], (some (49, true))⟩,
  ⟨(some 58), (.call ⟨(.value (.func 83)), #[(.tmp 53), (.tmp 57)], #[35, 35]⟩), 4, "", #[⟨12, .chain⟩], (some (49, true))⟩,
  ⟨(some 59), (.pick (.tmp 49) (.tmp 58) (.const (.bool false))), 4, "", #[], none⟩]
def F84.r6 : List Oper := [
  op 60 (.move (.tmp 10)) 3,
  op 61 (.binOp .sub 3 (.tmp 60) (.const (.int .i64 1)) 3) 3,
  op 10 (.assign (.tmp 61)) 3]
def F84.r7 : List Oper := [
  op 62 (.move (.tmp 9)) 3,
  op 63 (.move (.tmp 10)) 3,
  op 64 (.binOp .gtr 3 (.tmp 62) (.tmp 63) 3) 4]
def F84.r8 : List Oper := [
  ⟨(some 65), (.move (.tmp 0)), 32, "", #[], none⟩,
  ⟨(some 66), (.move (.tmp 9)), 3, "", #[], none⟩,
  ⟨(some 67), (.move (.tmp 0)), 32, "", #[], none⟩,
  ⟨(some 68), (.move (.tmp 10)), 3, "", #[], none⟩,
  ⟨(some 69), (.move (.tmp 0)), 32, "", #[], none⟩,
  ⟨(some 70), (.move (.tmp 10)), 3, "", #[], none⟩,
  ⟨(some 71), (.indexAddr 32 (.tmp 69) (.tmp 70)), 0, "", #[], none⟩,
  ⟨(some 73), (.move (.tmp 0)), 32, "", #[], none⟩,
  ⟨(some 74), (.move (.tmp 9)), 3, "", #[], none⟩,
  ⟨(some 75), (.indexAddr 32 (.tmp 73) (.tmp 74)), 0, "", #[], none⟩,
  ⟨(some 72), (.load 35 (.tmp 71)), 35, "", #[⟨40960, .data⟩], none⟩,
  ⟨(some 76), (.load 35 (.tmp 75)), 35, "", #[⟨40960, .data⟩], none⟩,
  ⟨(some 77), (.indexAddr 32 (.tmp 65) (.tmp 66)), 0, "", #[], none⟩,
  ⟨none, (.store 35 (.tmp 77) (.tmp 72)), 0, "", #[⟨13, .chain⟩], none⟩,
  ⟨(some 78), (.indexAddr 32 (.tmp 67) (.tmp 68)), 0, "", #[], none⟩,
  ⟨none, (.store 35 (.tmp 78) (.tmp 76)), 0, "", #[⟨15, .chain⟩], none⟩]
def F84.r9 : List Oper := [
  op 79 (.move (.tmp 9)) 3,
  op 80 (.binOp .add 3 (.tmp 79) (.const (.int .i64 1)) 3) 3,
  op 9 (.assign (.tmp 80)) 3]
def F84.r10 : List Oper := [
  op 81 (.move (.tmp 10)) 3,
  op 82 (.binOp .sub 3 (.tmp 81) (.const (.int .i64 1)) 3) 3,
  op 10 (.assign (.tmp 82)) 3]
def F84.r11 : List Oper := [
  op 83 (.move (.tmp 9)) 3,
  op 8 (.assign (.tmp 83)) 3]
def F84.t4 : Cd := (.block 3 (.region 4 F84.r4.toArray false))
theorem F84.t4_eq {θ : Tag (F84.t4, Q, e, w)} : cwE P F84.t4 Q e w θ = cwE P (.block 3 (.region 4 F84.r4.toArray false)) Q e w := rfl
def F84.t6 : Cd := (.block 5 (.region 6 F84.r6.toArray false))
theorem F84.t6_eq {θ : Tag (F84.t6, Q, e, w)} : cwE P F84.t6 Q e w θ = cwE P (.block 5 (.region 6 F84.r6.toArray false)) Q e w := rfl
def F84.t8 : Cd := (.seq (.region 8 F84.r8.toArray true) (.seq (.region 9 F84.r9.toArray false) (.region 10 F84.r10.toArray false)))
theorem F84.t8_eq {θ : Tag (F84.t8, Q, e, w)} : cwE P F84.t8 Q e w θ = cwE P (.seq (.region 8 F84.r8.toArray true) (.seq (.region 9 F84.r9.toArray false) (.region 10 F84.r10.toArray false))) Q e w := rfl
def F84.t7 : Cd := (.seq (.seq (.region 7 F84.r7.toArray false) (.cond (.tmp 64) (.exit 0) .skip)) F84.t8)
theorem F84.t7_eq {θ : Tag (F84.t7, Q, e, w)} : cwE P F84.t7 Q e w θ = cwE P (.seq (.seq (.region 7 F84.r7.toArray false) (.cond (.tmp 64) (.exit 0) .skip)) F84.t8) Q e w := rfl
def F84.t5 : Cd := (.seq (.block 4 (.loop (.seq (.seq (.region 5 F84.r5.toArray true) (.cond (.tmp 59) .skip (.exit 4))) F84.t6))) F84.t7)
theorem F84.t5_eq {θ : Tag (F84.t5, Q, e, w)} : cwE P F84.t5 Q e w θ = cwE P (.seq (.block 4 (.loop (.seq (.seq (.region 5 F84.r5.toArray true) (.cond (.tmp 59) .skip (.exit 4))) F84.t6))) F84.t7) Q e w := rfl
def F84.t11 : Cd := (.seq (.region 11 F84.r11.toArray false) .ret)
theorem F84.t11_eq {θ : Tag (F84.t11, Q, e, w)} : cwE P F84.t11 Q e w θ = cwE P (.seq (.region 11 F84.r11.toArray false) .ret) Q e w := rfl
def F84.code : Cd := (.seq (.region 0 F84.r0.toArray false) (.seq (.region 1 F84.r1.toArray true) (.seq (.region 2 F84.r2.toArray false) (.seq (.block 0 (.loop (.block 1 (.seq (.block 2 (.loop (.seq (.seq (.region 3 F84.r3.toArray true) (.cond (.tmp 43) .skip (.exit 2))) F84.t4))) F84.t5)))) F84.t11))))
theorem F84.calls (hn : args.size ≤ 84) (h : cwE Try.prog F84.code (fnP Try.prog #[(.tmp 8)] R) (entry args) w) : Calls Try.prog 84 args w R :=
  calls_of_cwE (types := Try.prog.types) follows Try.func84 F84.code rfl (by kernel_rfl) hn h
def F85.r0 : List Oper := [
  op 8 (.assign (.const (.int .i64 0))) 3,
  op 9 (.assign (.const (.bool false))) 4]
def F85.r1 : List Oper := [
  ⟨(some 12), (.move (.tmp 0)), 32, "", #[], none⟩,
  ⟨(some 13), (.move (.tmp 1)), 3, "", #[], none⟩,
  ⟨(some 14), (.move (.tmp 0)), 32, "", #[], none⟩,
  ⟨(some 15), (.move (.tmp 3)), 3, "", #[], none⟩,
  ⟨(some 16), (.move (.tmp 0)), 32, "", #[], none⟩,
  ⟨(some 17), (.move (.tmp 3)), 3, "", #[], none⟩,
  ⟨(some 18), (.indexAddr 32 (.tmp 16) (.tmp 17)), 0, "", #[], none⟩,
  ⟨(some 20), (.move (.tmp 0)), 32, "", #[], none⟩,
  ⟨(some 21), (.move (.tmp 1)), 3, "", #[], none⟩,
  ⟨(some 22), (.indexAddr 32 (.tmp 20) (.tmp 21)), 0, "", #[], none⟩,
  ⟨(some 19), (.load 35 (.tmp 18)), 35, "", #[⟨40960, .data⟩], none⟩,
  ⟨(some 23), (.load 35 (.tmp 22)), 35, "", #[⟨40960, .data⟩], none⟩,
  ⟨(some 24), (.indexAddr 32 (.tmp 12) (.tmp 13)), 0, "", #[], none⟩,
  ⟨none, (.store 35 (.tmp 24) (.tmp 19)), 0, "", #[⟨13, .chain⟩], none⟩,
  ⟨(some 25), (.indexAddr 32 (.tmp 14) (.tmp 15)), 0, "", #[], none⟩,
  ⟨none, (.store 35 (.tmp 25) (.tmp 23)), 0, "", #[⟨15, .chain⟩], none⟩]
def F85.r2 : List Oper := [
  op 26 (.move (.tmp 1)) 3,
  op 27 (.binOp .add 3 (.tmp 26) (.const (.int .i64 1)) 3) 3,
  op 28 (.move (.tmp 2)) 3,
  op 29 (.binOp .sub 3 (.tmp 28) (.const (.int .i64 1)) 3) 3,
  op 10 (.assign (.tmp 27)) 3,
  op 11 (.assign (.tmp 29)) 3]
def F85.r3 : List Oper := [
  ⟨(some 30), (.move (.tmp 10)), 3, "", #[], none⟩,
  ⟨(some 31), (.move (.tmp 11)), 3, "", #[], none⟩,
  ⟨(some 32), (.binOp .leq 3 (.tmp 30) (.tmp 31) 3), 4, "", #[], none⟩,
  ⟨(some 33), (.move (.tmp 32)), 4, "", #[], none⟩,
  og 34 (.move (.tmp 0)) 32 33 true,
  og 35 (.move (.tmp 10)) 3 33 true,
  og 36 (.indexAddr 32 (.tmp 34) (.tmp 35)) 0 33 true,
  og 38 (.move (.tmp 0)) 32 33 true,
  og 39 (.move (.tmp 1)) 3 33 true,
  og 40 (.indexAddr 32 (.tmp 38) (.tmp 39)) 0 33 true,
  ⟨(some 37), (.load 35 (.tmp 36)), 35, "", #[⟨4096, .data⟩], (some (33, true))⟩,
  ⟨(some 41), (.load 35 (.tmp 40)), 35, "", #[⟨4096, .data⟩], (some (33, true))⟩,
  ⟨(some 42), (.call ⟨(.value (.func 83)), #[(.tmp 37), (.tmp 41)], #[35, 35]⟩), 4, "", #[⟨12, .chain⟩], (some (33, true))⟩,
  ⟨(some 43), (.pick (.tmp 33) (.tmp 42) (.const (.bool false))), 4, "", #[], none⟩]
def F85.r4 : List Oper := [
  op 44 (.move (.tmp 10)) 3,
  op 45 (.binOp .add 3 (.tmp 44) (.const (.int .i64 1)) 3) 3,
  op 10 (.assign (.tmp 45)) 3]
def F85.r5 : List Oper := [
  ⟨(some 46), (.move (.tmp 10)), 3, "", #[], none⟩,
  ⟨(some 47), (.move (.tmp 11)), 3, "", #[], none⟩,
  ⟨(some 48), (.binOp .leq 3 (.tmp 46) (.tmp 47) 3), 4, "", #[], none⟩,
  ⟨(some 49), (.move (.tmp 48)), 4, "", #[], none⟩,
  og 50 (.move (.tmp 0)) 32 49 true,
  og 51 (.move (.tmp 11)) 3 49 true,
  og 52 (.indexAddr 32 (.tmp 50) (.tmp 51)) 0 49 true,
  og 54 (.move (.tmp 0)) 32 49 true,
  og 55 (.move (.tmp 1)) 3 49 true,
  og 56 (.indexAddr 32 (.tmp 54) (.tmp 55)) 0 49 true,
  ⟨(some 53), (.load 35 (.tmp 52)), 35, "", #[⟨4096, .data⟩], (some (49, true))⟩,
  ⟨(some 57), (.load 35 (.tmp 56)), 35, "", #[⟨4096, .data⟩], (some (49, true))⟩,
  ⟨(some 58), (.call ⟨(.value (.func 83)), #[(.tmp 53), (.tmp 57)], #[35, 35]⟩), 4, "", #[⟨12, .chain⟩], (some (49, true))⟩,
  og 59 (.unOp .not 4 (.tmp 58)) 4 49 true,
  ⟨(some 60), (.pick (.tmp 49) (.tmp 59) (.const (.bool false))), 4, "", #[], none⟩]
def F85.r6 : List Oper := [
  op 61 (.move (.tmp 11)) 3,
  op 62 (.binOp .sub 3 (.tmp 61) (.const (.int .i64 1)) 3) 3,
  op 11 (.assign (.tmp 62)) 3]
def F85.r7 : List Oper := [
  op 63 (.move (.tmp 10)) 3,
  op 64 (.move (.tmp 11)) 3,
  op 65 (.binOp .gtr 3 (.tmp 63) (.tmp 64) 3) 4]
def F85.r8 : List Oper := [
  ⟨(some 66), (.move (.tmp 0)), 32, "", #[], none⟩,
  ⟨(some 67), (.move (.tmp 11)), 3, "", #[], none⟩,
  ⟨(some 68), (.move (.tmp 0)), 32, "", #[], none⟩,
  ⟨(some 69), (.move (.tmp 1)), 3, "", #[], none⟩,
  ⟨(some 70), (.move (.tmp 0)), 32, "", #[], none⟩,
  ⟨(some 71), (.move (.tmp 1)), 3, "", #[], none⟩,
  ⟨(some 72), (.indexAddr 32 (.tmp 70) (.tmp 71)), 0, "", #[], none⟩,
  ⟨(some 74), (.move (.tmp 0)), 32, "", #[], none⟩,
  ⟨(some 75), (.move (.tmp 11)), 3, "", #[], none⟩,
  ⟨(some 76), (.indexAddr 32 (.tmp 74) (.tmp 75)), 0, "", #[], none⟩,
  ⟨(some 73), (.load 35 (.tmp 72)), 35, "", #[⟨40960, .data⟩], none⟩,
  ⟨(some 77), (.load 35 (.tmp 76)), 35, "", #[⟨40960, .data⟩], none⟩,
  ⟨(some 78), (.indexAddr 32 (.tmp 66) (.tmp 67)), 0, "", #[], none⟩,
  ⟨none, (.store 35 (.tmp 78) (.tmp 73)), 0, "", #[⟨13, .chain⟩], none⟩,
  ⟨(some 79), (.indexAddr 32 (.tmp 68) (.tmp 69)), 0, "", #[], none⟩,
  ⟨none, (.store 35 (.tmp 79) (.tmp 77)), 0, "", #[⟨15, .chain⟩], none⟩]
def F85.r9 : List Oper := [
  op 80 (.move (.tmp 11)) 3,
  op 8 (.assign (.tmp 80)) 3,
  op 9 (.assign (.const (.bool true))) 4]
def F85.r10 : List Oper := [
  ⟨(some 81), (.move (.tmp 0)), 32, "", #[], none⟩,
  ⟨(some 82), (.move (.tmp 10)), 3, "", #[], none⟩,
  ⟨(some 83), (.move (.tmp 0)), 32, "", #[], none⟩,
  ⟨(some 84), (.move (.tmp 11)), 3, "", #[], none⟩,
  ⟨(some 85), (.move (.tmp 0)), 32, "", #[], none⟩,
  ⟨(some 86), (.move (.tmp 11)), 3, "", #[], none⟩,
  ⟨(some 87), (.indexAddr 32 (.tmp 85) (.tmp 86)), 0, "", #[], none⟩,
  ⟨(some 89), (.move (.tmp 0)), 32, "", #[], none⟩,
  ⟨(some 90), (.move (.tmp 10)), 3, "", #[], none⟩,
  ⟨(some 91), (.indexAddr 32 (.tmp 89) (.tmp 90)), 0, "", #[], none⟩,
  ⟨(some 88), (.load 35 (.tmp 87)), 35, "", #[⟨40960, .data⟩], none⟩,
  ⟨(some 92), (.load 35 (.tmp 91)), 35, "", #[⟨40960, .data⟩], none⟩,
  ⟨(some 93), (.indexAddr 32 (.tmp 81) (.tmp 82)), 0, "", #[], none⟩,
  ⟨none, (.store 35 (.tmp 93) (.tmp 88)), 0, "", #[⟨13, .chain⟩], none⟩,
  ⟨(some 94), (.indexAddr 32 (.tmp 83) (.tmp 84)), 0, "", #[], none⟩,
  ⟨none, (.store 35 (.tmp 94) (.tmp 92)), 0, "", #[⟨15, .chain⟩], none⟩]
def F85.r11 : List Oper := [
  op 95 (.move (.tmp 10)) 3,
  op 96 (.binOp .add 3 (.tmp 95) (.const (.int .i64 1)) 3) 3,
  op 10 (.assign (.tmp 96)) 3]
def F85.r12 : List Oper := [
  op 97 (.move (.tmp 11)) 3,
  op 98 (.binOp .sub 3 (.tmp 97) (.const (.int .i64 1)) 3) 3,
  op 11 (.assign (.tmp 98)) 3]
def F85.r13 : List Oper := [
  ⟨(some 99), (.move (.tmp 10)), 3, "", #[], none⟩,
  ⟨(some 100), (.move (.tmp 11)), 3, "", #[], none⟩,
  ⟨(some 101), (.binOp .leq 3 (.tmp 99) (.tmp 100) 3), 4, "", #[], none⟩,
  ⟨(some 102), (.move (.tmp 101)), 4, "", #[], none⟩,
  og 103 (.move (.tmp 0)) 32 102 true,
  og 104 (.move (.tmp 10)) 3 102 true,
  og 105 (.indexAddr 32 (.tmp 103) (.tmp 104)) 0 102 true,
  og 107 (.move (.tmp 0)) 32 102 true,
  og 108 (.move (.tmp 1)) 3 102 true,
  og 109 (.indexAddr 32 (.tmp 107) (.tmp 108)) 0 102 true,
  ⟨(some 106), (.load 35 (.tmp 105)), 35, "", #[⟨4096, .data⟩], (some (102, true))⟩,
  ⟨(some 110), (.load 35 (.tmp 109)), 35, "", #[⟨4096, .data⟩], (some (102, true))⟩,
  ⟨(some 111), (.call ⟨(.value (.func 83)), #[(.tmp 106), (.tmp 110)], #[35, 35]⟩), 4, "", #[⟨12, .chain⟩], (some (102, true))⟩,
  ⟨(some 112), (.pick (.tmp 102) (.tmp 111) (.const (.bool false))), 4, "", #[], none⟩]
def F85.r14 : List Oper := [
  op 113 (.move (.tmp 10)) 3,
  op 114 (.binOp .add 3 (.tmp 113) (.const (.int .i64 1)) 3) 3,
  op 10 (.assign (.tmp 114)) 3]
def F85.r15 : List Oper := [
  ⟨(some 115), (.move (.tmp 10)), 3, "", #[], none⟩,
  ⟨(some 116), (.move (.tmp 11)), 3, "", #[], none⟩,
  ⟨(some 117), (.binOp .leq 3 (.tmp 115) (.tmp 116) 3), 4, "", #[], none⟩,
  ⟨(some 118), (.move (.tmp 117)), 4, "", #[], none⟩,
  og 119 (.move (.tmp 0)) 32 118 true,
  og 120 (.move (.tmp 11)) 3 118 true,
  og 121 (.indexAddr 32 (.tmp 119) (.tmp 120)) 0 118 true,
  og 123 (.move (.tmp 0)) 32 118 true,
  og 124 (.move (.tmp 1)) 3 118 true,
  og 125 (.indexAddr 32 (.tmp 123) (.tmp 124)) 0 118 true,
  ⟨(some 122), (.load 35 (.tmp 121)), 35, "", #[⟨4096, .data⟩], (some (118, true))⟩,
  ⟨(some 126), (.load 35 (.tmp 125)), 35, "", #[⟨4096, .data⟩], (some (118, true))⟩,
  ⟨(some 127), (.call ⟨(.value (.func 83)), #[(.tmp 122), (.tmp 126)], #[35, 35]⟩), 4, "", #[⟨12, .chain⟩], (some (118, true))⟩,
  og 128 (.unOp .not 4 (.tmp 127)) 4 118 true,
  ⟨(some 129), (.pick (.tmp 118) (.tmp 128) (.const (.bool false))), 4, "", #[], none⟩]
def F85.r16 : List Oper := [
  op 130 (.move (.tmp 11)) 3,
  op 131 (.binOp .sub 3 (.tmp 130) (.const (.int .i64 1)) 3) 3,
  op 11 (.assign (.tmp 131)) 3]
def F85.r17 : List Oper := [
  op 132 (.move (.tmp 10)) 3,
  op 133 (.move (.tmp 11)) 3,
  op 134 (.binOp .gtr 3 (.tmp 132) (.tmp 133) 3) 4]
def F85.r18 : List Oper := [
  ⟨(some 135), (.move (.tmp 0)), 32, "", #[], none⟩,
  ⟨(some 136), (.move (.tmp 10)), 3, "", #[], none⟩,
  ⟨(some 137), (.move (.tmp 0)), 32, "", #[], none⟩,
  ⟨(some 138), (.move (.tmp 11)), 3, "", #[], none⟩,
  ⟨(some 139), (.move (.tmp 0)), 32, "", #[], none⟩,
  ⟨(some 140), (.move (.tmp 11)), 3, "", #[], none⟩,
  ⟨(some 141), (.indexAddr 32 (.tmp 139) (.tmp 140)), 0, "", #[], none⟩,
  ⟨(some 143), (.move (.tmp 0)), 32, "", #[], none⟩,
  ⟨(some 144), (.move (.tmp 10)), 3, "", #[], none⟩,
  ⟨(some 145), (.indexAddr 32 (.tmp 143) (.tmp 144)), 0, "", #[], none⟩,
  ⟨(some 142), (.load 35 (.tmp 141)), 35, "", #[⟨40960, .data⟩], none⟩,
  ⟨(some 146), (.load 35 (.tmp 145)), 35, "", #[⟨40960, .data⟩], none⟩,
  ⟨(some 147), (.indexAddr 32 (.tmp 135) (.tmp 136)), 0, "", #[], none⟩,
  ⟨none, (.store 35 (.tmp 147) (.tmp 142)), 0, "", #[⟨13, .chain⟩], none⟩,
  ⟨(some 148), (.indexAddr 32 (.tmp 137) (.tmp 138)), 0, "", #[], none⟩,
  ⟨none, (.store 35 (.tmp 148) (.tmp 146)), 0, "", #[⟨15, .chain⟩], none⟩]
def F85.r19 : List Oper := [
  op 149 (.move (.tmp 10)) 3,
  op 150 (.binOp .add 3 (.tmp 149) (.const (.int .i64 1)) 3) 3,
  op 10 (.assign (.tmp 150)) 3]
def F85.r20 : List Oper := [
  op 151 (.move (.tmp 11)) 3,
  op 152 (.binOp .sub 3 (.tmp 151) (.const (.int .i64 1)) 3) 3,
  op 11 (.assign (.tmp 152)) 3]
def F85.r21 : List Oper := [
  ⟨(some 153), (.move (.tmp 0)), 32, "", #[], none⟩,
  ⟨(some 154), (.move (.tmp 11)), 3, "", #[], none⟩,
  ⟨(some 155), (.move (.tmp 0)), 32, "", #[], none⟩,
  ⟨(some 156), (.move (.tmp 1)), 3, "", #[], none⟩,
  ⟨(some 157), (.move (.tmp 0)), 32, "", #[], none⟩,
  ⟨(some 158), (.move (.tmp 1)), 3, "", #[], none⟩,
  ⟨(some 159), (.indexAddr 32 (.tmp 157) (.tmp 158)), 0, "", #[], none⟩,
  ⟨(some 161), (.move (.tmp 0)), 32, "", #[], none⟩,
  ⟨(some 162), (.move (.tmp 11)), 3, "", #[], none⟩,
  ⟨(some 163), (.indexAddr 32 (.tmp 161) (.tmp 162)), 0, "", #[], none⟩,
  ⟨(some 160), (.load 35 (.tmp 159)), 35, "", #[⟨40960, .data⟩], none⟩,
  ⟨(some 164), (.load 35 (.tmp 163)), 35, "", #[⟨40960, .data⟩], none⟩,
  ⟨(some 165), (.indexAddr 32 (.tmp 153) (.tmp 154)), 0, "", #[], none⟩,
  ⟨none, (.store 35 (.tmp 165) (.tmp 160)), 0, "", #[⟨13, .chain⟩], none⟩,
  ⟨(some 166), (.indexAddr 32 (.tmp 155) (.tmp 156)), 0, "", #[], none⟩,
  ⟨none, (.store 35 (.tmp 166) (.tmp 164)), 0, "", #[⟨15, .chain⟩], none⟩]
def F85.r22 : List Oper := [
  op 167 (.move (.tmp 11)) 3,
  op 8 (.assign (.tmp 167)) 3,
  op 9 (.assign (.const (.bool false))) 4]
def F85.t4 : Cd := (.block 1 (.region 4 F85.r4.toArray false))
theorem F85.t4_eq {θ : Tag (F85.t4, Q, e, w)} : cwE P F85.t4 Q e w θ = cwE P (.block 1 (.region 4 F85.r4.toArray false)) Q e w := rfl
def F85.t6 : Cd := (.block 3 (.region 6 F85.r6.toArray false))
theorem F85.t6_eq {θ : Tag (F85.t6, Q, e, w)} : cwE P F85.t6 Q e w θ = cwE P (.block 3 (.region 6 F85.r6.toArray false)) Q e w := rfl
def F85.t14 : Cd := (.block 7 (.region 14 F85.r14.toArray false))
theorem F85.t14_eq {θ : Tag (F85.t14, Q, e, w)} : cwE P F85.t14 Q e w θ = cwE P (.block 7 (.region 14 F85.r14.toArray false)) Q e w := rfl
def F85.t16 : Cd := (.block 9 (.region 16 F85.r16.toArray false))
theorem F85.t16_eq {θ : Tag (F85.t16, Q, e, w)} : cwE P F85.t16 Q e w θ = cwE P (.block 9 (.region 16 F85.r16.toArray false)) Q e w := rfl
def F85.t18 : Cd := (.seq (.region 18 F85.r18.toArray true) (.seq (.region 19 F85.r19.toArray false) (.region 20 F85.r20.toArray false)))
theorem F85.t18_eq {θ : Tag (F85.t18, Q, e, w)} : cwE P F85.t18 Q e w θ = cwE P (.seq (.region 18 F85.r18.toArray true) (.seq (.region 19 F85.r19.toArray false) (.region 20 F85.r20.toArray false))) Q e w := rfl
def F85.t17 : Cd := (.seq (.seq (.region 17 F85.r17.toArray false) (.cond (.tmp 134) (.exit 4) .skip)) F85.t18)
theorem F85.t17_eq {θ : Tag (F85.t17, Q, e, w)} : cwE P F85.t17 Q e w θ = cwE P (.seq (.seq (.region 17 F85.r17.toArray false) (.cond (.tmp 134) (.exit 4) .skip)) F85.t18) Q e w := rfl
def F85.t15 : Cd := (.seq (.block 8 (.loop (.seq (.seq (.region 15 F85.r15.toArray true) (.cond (.tmp 129) .skip (.exit 8))) F85.t16))) F85.t17)
theorem F85.t15_eq {θ : Tag (F85.t15, Q, e, w)} : cwE P F85.t15 Q e w θ = cwE P (.seq (.block 8 (.loop (.seq (.seq (.region 15 F85.r15.toArray true) (.cond (.tmp 129) .skip (.exit 8))) F85.t16))) F85.t17) Q e w := rfl
def F85.t21 : Cd := (.seq (.region 21 F85.r21.toArray true) (.seq (.region 22 F85.r22.toArray false) .ret))
theorem F85.t21_eq {θ : Tag (F85.t21, Q, e, w)} : cwE P F85.t21 Q e w θ = cwE P (.seq (.region 21 F85.r21.toArray true) (.seq (.region 22 F85.r22.toArray false) .ret)) Q e w := rfl
def F85.t10 : Cd := (.seq (.region 10 F85.r10.toArray true) (.seq (.region 11 F85.r11.toArray false) (.seq (.region 12 F85.r12.toArray false) (.seq (.block 4 (.loop (.block 5 (.seq (.block 6 (.loop (.seq (.seq (.region 13 F85.r13.toArray true) (.cond (.tmp 112) .skip (.exit 6))) F85.t14))) F85.t15)))) F85.t21))))
theorem F85.t10_eq {θ : Tag (F85.t10, Q, e, w)} : cwE P F85.t10 Q e w θ = cwE P (.seq (.region 10 F85.r10.toArray true) (.seq (.region 11 F85.r11.toArray false) (.seq (.region 12 F85.r12.toArray false) (.seq (.block 4 (.loop (.block 5 (.seq (.block 6 (.loop (.seq (.seq (.region 13 F85.r13.toArray true) (.cond (.tmp 112) .skip (.exit 6))) F85.t14))) F85.t15)))) F85.t21)))) Q e w := rfl
def F85.t7 : Cd := (.seq (.seq (.region 7 F85.r7.toArray false) (.cond (.tmp 65) (.seq (.region 8 F85.r8.toArray true) (.seq (.region 9 F85.r9.toArray false) .ret)) .skip)) F85.t10)
theorem F85.t7_eq {θ : Tag (F85.t7, Q, e, w)} : cwE P F85.t7 Q e w θ = cwE P (.seq (.seq (.region 7 F85.r7.toArray false) (.cond (.tmp 65) (.seq (.region 8 F85.r8.toArray true) (.seq (.region 9 F85.r9.toArray false) .ret)) .skip)) F85.t10) Q e w := rfl
def F85.t5 : Cd := (.seq (.block 2 (.loop (.seq (.seq (.region 5 F85.r5.toArray true) (.cond (.tmp 60) .skip (.exit 2))) F85.t6))) F85.t7)
theorem F85.t5_eq {θ : Tag (F85.t5, Q, e, w)} : cwE P F85.t5 Q e w θ = cwE P (.seq (.block 2 (.loop (.seq (.seq (.region 5 F85.r5.toArray true) (.cond (.tmp 60) .skip (.exit 2))) F85.t6))) F85.t7) Q e w := rfl
def F85.code : Cd := (.seq (.region 0 F85.r0.toArray false) (.seq (.region 1 F85.r1.toArray true) (.seq (.region 2 F85.r2.toArray false) (.seq (.block 0 (.loop (.seq (.seq (.region 3 F85.r3.toArray true) (.cond (.tmp 43) .skip (.exit 0))) F85.t4))) F85.t5))))
theorem F85.calls (hn : args.size ≤ 168) (h : cwE Try.prog F85.code (fnP Try.prog #[(.tmp 8), (.tmp 9)] R) (entry args) w) : Calls Try.prog 85 args w R :=
  calls_of_cwE (types := Try.prog.types) follows Try.func85 F85.code rfl (by kernel_rfl) hn h
def F88.r0 : List Oper := [
  op 10 (.move (.tmp 1)) 3,
  op 8 (.assign (.tmp 10)) 3]
def F88.r1 : List Oper := [
  op 11 (.move (.tmp 8)) 3,
  op 12 (.binOp .mul 3 (.const (.int .i64 2)) (.tmp 11) 3) 3,
  op 13 (.binOp .add 3 (.tmp 12) (.const (.int .i64 1)) 3) 3,
  op 9 (.assign (.tmp 13)) 3]
def F88.r2 : List Oper := [
  op 14 (.move (.tmp 9)) 3,
  op 15 (.move (.tmp 2)) 3,
  op 16 (.binOp .geq 3 (.tmp 14) (.tmp 15) 3) 4]
def F88.r3 : List Oper := [
  ⟨(some 17), (.move (.tmp 9)), 3, "", #[], none⟩,
  ⟨(some 18), (.binOp .add 3 (.tmp 17) (.const (.int .i64 1)) 3), 3, "", #[], none⟩,
  ⟨(some 19), (.move (.tmp 2)), 3, "", #[], none⟩,
  ⟨(some 20), (.binOp .lss 3 (.tmp 18) (.tmp 19) 3), 4, "", #[], none⟩,
  ⟨(some 21), (.move (.tmp 20)), 4, "", #[], none⟩,
  og 22 (.move (.tmp 0)) 32 21 true,
  og 23 (.move (.tmp 3)) 3 21 true,
  og 24 (.move (.tmp 9)) 3 21 true,
  og 25 (.binOp .add 3 (.tmp 23) (.tmp 24) 3) 3 21 true,
  og 26 (.indexAddr 32 (.tmp 22) (.tmp 25)) 0 21 true,
  og 28 (.move (.tmp 0)) 32 21 true,
  og 29 (.move (.tmp 3)) 3 21 true,
  og 30 (.move (.tmp 9)) 3 21 true,
  og 31 (.binOp .add 3 (.tmp 29) (.tmp 30) 3) 3 21 true,
  og 32 (.binOp .add 3 (.tmp 31) (.const (.int .i64 1)) 3) 3 21 true,
  og 33 (.indexAddr 32 (.tmp 28) (.tmp 32)) 0 21 true,
  ⟨(some 27), (.load 35 (.tmp 26)), 35, "", #[⟨262144, .data⟩], (some (21, true))⟩,
  ⟨(some 34), (.load 35 (.tmp 33)), 35, "", #[⟨262144, .data⟩], (some (21, true))⟩,
  ⟨(some 35), (.call ⟨(.value (.func 83)), #[(.tmp 27), (.tmp 34)], #[35, 35]⟩), 4, "", #[⟨18, .chain⟩], (some (21, true))⟩,
  ⟨(some 36), (.pick (.tmp 21) (.tmp 35) (.const (.bool false))), 4, "", #[], none⟩]
def F88.r4 : List Oper := [
  op 37 (.move (.tmp 9)) 3,
  op 38 (.binOp .add 3 (.tmp 37) (.const (.int .i64 1)) 3) 3,
  op 9 (.assign (.tmp 38)) 3]
def F88.r5 : List Oper := [
  ⟨(some 39), (.move (.tmp 0)), 32, "", #[], none⟩,
  ⟨(some 40), (.move (.tmp 3)), 3, "", #[], none⟩,
  ⟨(some 41), (.move (.tmp 8)), 3, "", #[], none⟩,
  ⟨(some 42), (.binOp .add 3 (.tmp 40) (.tmp 41) 3), 3, "", #[], none⟩,
  ⟨(some 43), (.indexAddr 32 (.tmp 39) (.tmp 42)), 0, "", #[], none⟩,
  ⟨(some 45), (.move (.tmp 0)), 32, "", #[], none⟩,
  ⟨(some 46), (.move (.tmp 3)), 3, "", #[], none⟩,
  ⟨(some 47), (.move (.tmp 9)), 3, "", #[], none⟩,
  ⟨(some 48), (.binOp .add 3 (.tmp 46) (.tmp 47) 3), 3, "", #[], none⟩,
  ⟨(some 49), (.indexAddr 32 (.tmp 45) (.tmp 48)), 0, "", #[], none⟩,
  ⟨(some 44), (.load 35 (.tmp 43)), 35, "", #[⟨4096, .data⟩], none⟩,
  ⟨(some 50), (.load 35 (.tmp 49)), 35, "", #[⟨4096, .data⟩], none⟩,
  ⟨(some 51), (.call ⟨(.value (.func 83)), #[(.tmp 44), (.tmp 50)], #[35, 35]⟩), 4, "", #[⟨12, .chain⟩], none⟩,
  ⟨(some 52), (.unOp .not 4 (.tmp 51)), 4, "", #[], none⟩]
def F88.r6 : List Oper := [
  ⟨(some 53), (.move (.tmp 0)), 32, "", #[], none⟩,
  ⟨(some 54), (.move (.tmp 3)), 3, "", #[], none⟩,
  ⟨(some 55), (.move (.tmp 8)), 3, "", #[], none⟩,
  ⟨(some 56), (.binOp .add 3 (.tmp 54) (.tmp 55) 3), 3, "", #[], none⟩,
  ⟨(some 57), (.move (.tmp 0)), 32, "", #[], none⟩,
  ⟨(some 58), (.move (.tmp 3)), 3, "", #[], none⟩,
  ⟨(some 59), (.move (.tmp 9)), 3, "", #[], none⟩,
  ⟨(some 60), (.binOp .add 3 (.tmp 58) (.tmp 59) 3), 3, "", #[], none⟩,
  ⟨(some 61), (.move (.tmp 0)), 32, "", #[], none⟩,
  ⟨(some 62), (.move (.tmp 3)), 3, "", #[], none⟩,
  ⟨(some 63), (.move (.tmp 9)), 3, "", #[], none⟩,
  ⟨(some 64), (.binOp .add 3 (.tmp 62) (.tmp 63) 3), 3, "", #[], none⟩,
  ⟨(some 65), (.indexAddr 32 (.tmp 61) (.tmp 64)), 0, "", #[], none⟩,
  ⟨(some 67), (.move (.tmp 0)), 32, "", #[], none⟩,
  ⟨(some 68), (.move (.tmp 3)), 3, "", #[], none⟩,
  ⟨(some 69), (.move (.tmp 8)), 3, "", #[], none⟩,
  ⟨(some 70), (.binOp .add 3 (.tmp 68) (.tmp 69) 3), 3, "", #[], none⟩,
  ⟨(some 71), (.indexAddr 32 (.tmp 67) (.tmp 70)), 0, "", #[], none⟩,
  ⟨(some 66), (.load 35 (.tmp 65)), 35, "", #[⟨10485760, .data⟩], none⟩,
  ⟨(some 72), (.load 35 (.tmp 71)), 35, "", #[⟨10485760, .data⟩], none⟩,
  ⟨(some 73), (.indexAddr 32 (.tmp 53) (.tmp 56)), 0, "", #[], none⟩,
  ⟨none, (.store 35 (.tmp 73) (.tmp 66)), 0, "", #[⟨21, .chain⟩], none⟩,
  ⟨(some 74), (.indexAddr 32 (.tmp 57) (.tmp 60)), 0, "", #[], none⟩,
  ⟨none, (.store 35 (.tmp 74) (.tmp 72)), 0, "", #[⟨23, .chain⟩], none⟩]
def F88.r7 : List Oper := [
  op 75 (.move (.tmp 9)) 3,
  op 8 (.assign (.tmp 75)) 3]
def F88.t6 : Cd := (.seq (.region 6 F88.r6.toArray true) (.region 7 F88.r7.toArray false))
theorem F88.t6_eq {θ : Tag (F88.t6, Q, e, w)} : cwE P F88.t6 Q e w θ = cwE P (.seq (.region 6 F88.r6.toArray true) (.region 7 F88.r7.toArray false)) Q e w := rfl
def F88.t5 : Cd := (.seq (.seq (.region 5 F88.r5.toArray true) (.cond (.tmp 52) .ret .skip)) F88.t6)
theorem F88.t5_eq {θ : Tag (F88.t5, Q, e, w)} : cwE P F88.t5 Q e w θ = cwE P (.seq (.seq (.region 5 F88.r5.toArray true) (.cond (.tmp 52) .ret .skip)) F88.t6) Q e w := rfl
def F88.t3 : Cd := (.seq (.seq (.region 3 F88.r3.toArray true) (.cond (.tmp 36) (.region 4 F88.r4.toArray false) .skip)) F88.t5)
theorem F88.t3_eq {θ : Tag (F88.t3, Q, e, w)} : cwE P F88.t3 Q e w θ = cwE P (.seq (.seq (.region 3 F88.r3.toArray true) (.cond (.tmp 36) (.region 4 F88.r4.toArray false) .skip)) F88.t5) Q e w := rfl
def F88.code : Cd := (.seq (.region 0 F88.r0.toArray false) (.block 0 (.loop (.block 1 (.seq (.region 1 F88.r1.toArray false) (.seq (.seq (.region 2 F88.r2.toArray false) (.cond (.tmp 16) (.exit 0) .skip)) F88.t3))))))
theorem F88.calls (hn : args.size ≤ 76) (h : cwE Try.prog F88.code (fnP Try.prog #[] R) (entry args) w) : Calls Try.prog 88 args w R :=
  calls_of_cwE (types := Try.prog.types) follows Try.func88 F88.code rfl (by kernel_rfl) hn h
def F89.r0 : List Oper := [
  op 2 (.assign (.const (.int .u64 0))) 112]
def F89.r1 : List Oper := [
  op 3 (.move (.tmp 0)) 3,
  op 4 (.convert 3 112 (.tmp 3)) 112,
  oc 5 (.call ⟨(.value (.func 76)), #[(.tmp 4)], #[112]⟩) 3,
  op 6 (.binOp .shl 112 (.const (.int .u64 1)) (.tmp 5) 3) 112,
  op 2 (.assign (.tmp 6)) 112]
def F89.code : Cd := (.seq (.region 0 F89.r0.toArray false) (.seq (.region 1 F89.r1.toArray false) .ret))
theorem F89.calls (hn : args.size ≤ 7) (h : cwE Try.prog F89.code (fnP Try.prog #[(.tmp 2)] R) (entry args) w) : Calls Try.prog 89 args w R :=
  calls_of_cwE (types := Try.prog.types) follows Try.func89 F89.code rfl (by kernel_rfl) hn h
def F90.r0 : List Oper := [
  op 2 (.assign (.const (.int .u64 0))) 37]
def F90.r1 : List Oper := [
  ⟨(some 3), (.move (.tmp 0)), 128, "", #[], none⟩,
  ⟨(some 4), (.nilCheck (.tmp 3)), 0, "", #[], none⟩,
  ⟨(some 6), (.move (.tmp 0)), 128, "", #[], none⟩,
  ⟨(some 7), (.nilCheck (.tmp 6)), 0, "", #[], none⟩,
  ⟨(some 5), (.load 122 (.tmp 4)), 122, "", #[⟨512, .data⟩], none⟩,
  ⟨(some 8), (.load 122 (.tmp 7)), 122, "", #[⟨512, .data⟩], none⟩,
  ⟨(some 9), (.binOp .shl 122 (.tmp 8) (.const (.int .u64 13)) 112), 122, "", #[], none⟩,
  ⟨(some 10), (.binOp .xor 122 (.tmp 5) (.tmp 9) 122), 122, "", #[], none⟩,
  ⟨(some 11), (.nilCheck (.tmp 3)), 0, "", #[], none⟩,
  ⟨none, (.store 122 (.tmp 11) (.tmp 10)), 0, "", #[⟨9, .chain⟩], none⟩]
def F90.r2 : List Oper := [
  ⟨(some 12), (.move (.tmp 0)), 128, "", #[], none⟩,
  ⟨(some 13), (.nilCheck (.tmp 12)), 0, "", #[], none⟩,
  ⟨(some 15), (.move (.tmp 0)), 128, "", #[], none⟩,
  ⟨(some 16), (.nilCheck (.tmp 15)), 0, "", #[], none⟩,
  ⟨(some 14), (.load 122 (.tmp 13)), 122, "", #[⟨512, .data⟩], none⟩,
  ⟨(some 17), (.load 122 (.tmp 16)), 122, "", #[⟨512, .data⟩], none⟩,
  ⟨(some 18), (.binOp .shr 122 (.tmp 17) (.const (.int .u64 7)) 112), 122, "", #[], none⟩,
  ⟨(some 19), (.binOp .xor 122 (.tmp 14) (.tmp 18) 122), 122, "", #[], none⟩,
  ⟨(some 20), (.nilCheck (.tmp 12)), 0, "", #[], none⟩,
  ⟨none, (.store 122 (.tmp 20) (.tmp 19)), 0, "", #[⟨9, .chain⟩], none⟩]
def F90.r3 : List Oper := [
  ⟨(some 21), (.move (.tmp 0)), 128, "", #[], none⟩,
  ⟨(some 22), (.nilCheck (.tmp 21)), 0, "", #[], none⟩,
  ⟨(some 24), (.move (.tmp 0)), 128, "", #[], none⟩,
  ⟨(some 25), (.nilCheck (.tmp 24)), 0, "", #[], none⟩,
  ⟨(some 23), (.load 122 (.tmp 22)), 122, "", #[⟨512, .data⟩], none⟩,
  ⟨(some 26), (.load 122 (.tmp 25)), 122, "", #[⟨512, .data⟩], none⟩,
  ⟨(some 27), (.binOp .shl 122 (.tmp 26) (.const (.int .u64 17)) 112), 122, "", #[], none⟩,
  ⟨(some 28), (.binOp .xor 122 (.tmp 23) (.tmp 27) 122), 122, "", #[], none⟩,
  ⟨(some 29), (.nilCheck (.tmp 21)), 0, "", #[], none⟩,
  ⟨none, (.store 122 (.tmp 29) (.tmp 28)), 0, "", #[⟨9, .chain⟩], none⟩]
def F90.r4 : List Oper := [
  op 30 (.move (.tmp 0)) 128,
  op 31 (.nilCheck (.tmp 30)) 0,
  od 32 (.load 122 (.tmp 31)) 122,
  op 2 (.assign (.tmp 32)) 37]
def F90.code : Cd := (.seq (.region 0 F90.r0.toArray false) (.seq (.region 1 F90.r1.toArray true) (.seq (.region 2 F90.r2.toArray true) (.seq (.region 3 F90.r3.toArray true) (.seq (.region 4 F90.r4.toArray false) .ret)))))
theorem F90.calls (hn : args.size ≤ 33) (h : cwE Try.prog F90.code (fnP Try.prog #[(.tmp 2)] R) (entry args) w) : Calls Try.prog 90 args w R :=
  calls_of_cwE (types := Try.prog.types) follows Try.func90 F90.code rfl (by kernel_rfl) hn h
def F91.r0 : List Oper := [
  op 6 (.assign (.const (.int .i64 0))) 3]
def F91.r1 : List Oper := [
  op 7 (.move (.tmp 0)) 32,
  op 8 (.move (.tmp 1)) 3,
  op 9 (.binOp .sub 3 (.tmp 8) (.const (.int .i64 1)) 3) 3,
  op 10 (.move (.tmp 1)) 3,
  op 11 (.move (.tmp 1)) 3,
  op 12 (.binOp .add 3 (.tmp 11) (.const (.int .i64 1)) 3) 3,
  op 13 (.move (.tmp 2)) 126,
  oc 14 (.call ⟨(.value (.func 92)), #[(.tmp 7), (.tmp 9), (.tmp 10), (.tmp 12), (.tmp 13)], #[32, 3, 3, 3, 126]⟩) 3,
  op 6 (.assign (.tmp 14)) 3]
def F91.code : Cd := (.seq (.region 0 F91.r0.toArray false) (.seq (.region 1 F91.r1.toArray false) .ret))
theorem F91.calls (hn : args.size ≤ 15) (h : cwE Try.prog F91.code (fnP Try.prog #[(.tmp 6)] R) (entry args) w) : Calls Try.prog 91 args w R :=
  calls_of_cwE (types := Try.prog.types) follows Try.func91 F91.code rfl (by kernel_rfl) hn h
def F92.r0 : List Oper := [
  op 10 (.assign (.const (.int .i64 0))) 3]
def F92.r1 : List Oper := [
  op 12 (.move (.tmp 0)) 32,
  op 13 (.move (.tmp 1)) 3,
  op 14 (.move (.tmp 2)) 3,
  op 15 (.move (.tmp 4)) 126,
  oc 16 (.call ⟨(.value (.func 94)), #[(.tmp 12), (.tmp 13), (.tmp 14), (.tmp 15)], #[32, 3, 3, 126]⟩) 129,
  op 11 (.move (.tmp 16)) 129,
  op 17 (.extract (.tmp 11) 0) 3,
  op 18 (.extract (.tmp 11) 1) 3,
  op 1 (.assign (.tmp 17)) 3,
  op 2 (.assign (.tmp 18)) 3]
def F92.r2 : List Oper := [
  op 20 (.move (.tmp 0)) 32,
  op 21 (.move (.tmp 2)) 3,
  op 22 (.move (.tmp 3)) 3,
  op 23 (.move (.tmp 4)) 126,
  oc 24 (.call ⟨(.value (.func 94)), #[(.tmp 20), (.tmp 21), (.tmp 22), (.tmp 23)], #[32, 3, 3, 126]⟩) 129,
  op 19 (.move (.tmp 24)) 129,
  op 25 (.extract (.tmp 19) 0) 3,
  op 26 (.extract (.tmp 19) 1) 3,
  op 2 (.assign (.tmp 25)) 3,
  op 3 (.assign (.tmp 26)) 3]
def F92.r3 : List Oper := [
  op 28 (.move (.tmp 0)) 32,
  op 29 (.move (.tmp 1)) 3,
  op 30 (.move (.tmp 2)) 3,
  op 31 (.move (.tmp 4)) 126,
  oc 32 (.call ⟨(.value (.func 94)), #[(.tmp 28), (.tmp 29), (.tmp 30), (.tmp 31)], #[32, 3, 3, 126]⟩) 129,
  op 27 (.move (.tmp 32)) 129,
  op 33 (.extract (.tmp 27) 0) 3,
  op 34 (.extract (.tmp 27) 1) 3,
  op 1 (.assign (.tmp 33)) 3,
  op 2 (.assign (.tmp 34)) 3]
def F92.r4 : List Oper := [
  op 35 (.move (.tmp 2)) 3,
  op 10 (.assign (.tmp 35)) 3]
def F92.code : Cd := (.seq (.region 0 F92.r0.toArray false) (.seq (.region 1 F92.r1.toArray false) (.seq (.region 2 F92.r2.toArray false) (.seq (.region 3 F92.r3.toArray false) (.seq (.region 4 F92.r4.toArray false) .ret)))))
theorem F92.calls (hn : args.size ≤ 36) (h : cwE Try.prog F92.code (fnP Try.prog #[(.tmp 10)] R) (entry args) w) : Calls Try.prog 92 args w R :=
  calls_of_cwE (types := Try.prog.types) follows Try.func92 F92.code rfl (by kernel_rfl) hn h
def F93.r0 : List Oper := [
  op 2 (.assign (.const (.bool false))) 4]
def F93.r1 : List Oper := [
  op 3 (.move (.tmp 0)) 35,
  op 4 (.move (.tmp 0)) 35,
  op 5 (.binOp .neq 35 (.tmp 3) (.tmp 4) 35) 4,
  op 2 (.assign (.tmp 5)) 4]
def F93.code : Cd := (.seq (.region 0 F93.r0.toArray false) (.seq (.region 1 F93.r1.toArray false) .ret))
theorem F93.calls (hn : args.size ≤ 6) (h : cwE Try.prog F93.code (fnP Try.prog #[(.tmp 2)] R) (entry args) w) : Calls Try.prog 93 args w R :=
  calls_of_cwE (types := Try.prog.types) follows Try.func93 F93.code rfl (by kernel_rfl) hn h
def F94.r0 : List Oper := [
  op 8 (.assign (.const (.int .i64 0))) 3,
  op 9 (.assign (.const (.int .i64 0))) 3]
def F94.r1 : List Oper := [
  ⟨(some 10), (.move (.tmp 0)), 32, "", #[], none⟩,
  ⟨(some 11), (.move (.tmp 2)), 3, "", #[], none⟩,
  ⟨(some 12), (.indexAddr 32 (.tmp 10) (.tmp 11)), 0, "", #[], none⟩,
  ⟨(some 14), (.move (.tmp 0)), 32, "", #[], none⟩,
  ⟨(some 15), (.move (.tmp 1)), 3, "", #[], none⟩,
  ⟨(some 16), (.indexAddr 32 (.tmp 14) (.tmp 15)), 0, "", #[], none⟩,
  ⟨(some 13), (.load 35 (.tmp 12)), 35, "", #[⟨256, .data⟩], none⟩,
  ⟨(some 17), (.load 35 (.tmp 16)), 35, "", #[⟨256, .data⟩], none⟩,
  ⟨(some 18), (.call ⟨(.value (.func 83)), #[(.tmp 13), (.tmp 17)], #[35, 35]⟩), 4, "", #[⟨8, .chain⟩], none⟩]
def F94.r2 : List Oper := [
  op 19 (.move (.tmp 3)) 126,
  op 20 (.nilCheck (.tmp 19)) 0,
  od 21 (.load 3 (.tmp 20)) 3,
  op 22 (.binOp .add 3 (.tmp 21) (.const (.int .i64 1)) 3) 3,
  op 23 (.nilCheck (.tmp 19)) 0,
  ⟨none, (.store 3 (.tmp 23) (.tmp 22)), 0, "", #[⟨0, .chain⟩], none⟩]
def F94.r3 : List Oper := [
  op 24 (.move (.tmp 2)) 3,
  op 25 (.move (.tmp 1)) 3,
  op 8 (.assign (.tmp 24)) 3,
  op 9 (.assign (.tmp 25)) 3]
def F94.r4 : List Oper := [
  op 26 (.move (.tmp 1)) 3,
  op 27 (.move (.tmp 2)) 3,
  op 8 (.assign (.tmp 26)) 3,
  op 9 (.assign (.tmp 27)) 3]
def F94.t4 : Cd := (.seq (.region 4 F94.r4.toArray false) .ret)
theorem F94.t4_eq {θ : Tag (F94.t4, Q, e, w)} : cwE P F94.t4 Q e w θ = cwE P (.seq (.region 4 F94.r4.toArray false) .ret) Q e w := rfl
def F94.code : Cd := (.seq (.region 0 F94.r0.toArray false) (.seq (.seq (.region 1 F94.r1.toArray true) (.cond (.tmp 18) (.seq (.region 2 F94.r2.toArray false) (.seq (.region 3 F94.r3.toArray false) .ret)) .skip)) F94.t4))
theorem F94.calls (hn : args.size ≤ 28) (h : cwE Try.prog F94.code (fnP Try.prog #[(.tmp 8), (.tmp 9)] R) (entry args) w) : Calls Try.prog 94 args w R :=
  calls_of_cwE (types := Try.prog.types) follows Try.func94 F94.code rfl (by kernel_rfl) hn h
attribute [go_sem] fact_aggSz_122 fact_aggSz_22 fact_aggSz_28 fact_aggSz_3 fact_aggSz_32 fact_aggSz_35 fact_aggSz_36 fact_aggSz_37 fact_aggSz_38 fact_aggSz_39 fact_aggSz_4 fact_aggSz_41 fact_aggSz_43 fact_aggSz_45 fact_aggSz_48 fact_aggSz_5 fact_aggSz_61 fact_aggSz_64 fact_aggSz_65 fact_aggSz_66 fact_aggSz_67 fact_aggSz_70 fact_aggSz_81 fact_aggSz_86 fact_aggSz_9 fact_bldP_41 fact_bldP_43 fact_bldP_45 fact_bldP_48 fact_bldP_69 fact_bldP_72 fact_bldP_88 fact_bldP_94 fact_elemOf_25 fact_elemOf_28 fact_elemOf_32 fact_elemOf_39 fact_elemOf_65 fact_elemOf_66 fact_fieldOff_41_0 fact_fieldOff_41_1 fact_fieldOff_41_2 fact_fieldOff_41_3 fact_fieldOff_41_4 fact_fieldOff_41_5 fact_fieldOff_41_6 fact_fieldOff_43_0 fact_fieldOff_43_1 fact_fieldOff_43_2 fact_fieldOff_43_3 fact_fieldOff_43_4 fact_fieldOff_43_5 fact_fieldOff_43_6 fact_fieldOff_43_7 fact_fieldOff_45_0 fact_fieldOff_45_1 fact_fieldOff_45_2 fact_fieldOff_45_3 fact_fieldOff_45_4 fact_fieldOff_45_5 fact_fieldOff_45_6 fact_fieldOff_45_7 fact_fieldOff_48_0 fact_fieldOff_48_1 fact_fieldOff_69_0 fact_fieldOff_69_1 fact_fieldOff_69_2 fact_fieldOff_69_3 fact_fieldOff_72_0 fact_fieldOff_72_1 fact_fieldOff_88_0 fact_fieldOff_88_1 fact_fieldOff_94_0 fact_fieldOff_94_1 fact_fnOk_11 fact_fnOk_14 fact_fnOk_16 fact_fnOk_18 fact_fnOk_19 fact_fnOk_20 fact_fnOk_21 fact_fnOk_22 fact_fnOk_23 fact_fnOk_24 fact_fnOk_25 fact_fnOk_26 fact_fnOk_27 fact_fnOk_28 fact_fnOk_29 fact_fnOk_30 fact_fnOk_31 fact_fnOk_32 fact_fnOk_33 fact_fnOk_34 fact_fnOk_35 fact_fnOk_36 fact_fnOk_37 fact_fnOk_38 fact_fnOk_39 fact_fnOk_40 fact_fnOk_41 fact_fnOk_42 fact_fnOk_43 fact_fnOk_44 fact_fnOk_45 fact_fnOk_46 fact_fnOk_47 fact_fnOk_48 fact_fnOk_49 fact_fnOk_50 fact_fnOk_51 fact_fnOk_52 fact_fnOk_53 fact_fnOk_54 fact_fnOk_55 fact_fnOk_56 fact_fnOk_57 fact_fnOk_58 fact_fnOk_59 fact_fnOk_60 fact_fnOk_61 fact_fnOk_62 fact_fnOk_63 fact_fnOk_64 fact_fnOk_65 fact_fnOk_66 fact_fnOk_67 fact_fnOk_68 fact_fnOk_69 fact_fnOk_70 fact_fnOk_71 fact_fnOk_72 fact_fnOk_73 fact_fnOk_74 fact_fnOk_75 fact_fnOk_76 fact_fnOk_77 fact_fnOk_78 fact_fnOk_79 fact_fnOk_80 fact_fnOk_81 fact_fnOk_82 fact_fnOk_83 fact_fnOk_84 fact_fnOk_85 fact_fnOk_88 fact_fnOk_89 fact_fnOk_90 fact_fnOk_91 fact_fnOk_92 fact_fnOk_93 fact_fnOk_94 fact_szO_122 fact_szO_28 fact_szO_3 fact_szO_32 fact_szO_35 fact_szO_37 fact_szO_39 fact_szO_4 fact_szO_41 fact_szO_43 fact_szO_45 fact_szO_48 fact_szO_5 fact_szO_65 fact_szO_66 fact_szO_67 fact_szO_81 fact_zeroV_122 fact_zeroV_28 fact_zeroV_3 fact_zeroV_4 fact_zeroV_41 fact_zeroV_43 fact_zeroV_45 fact_zeroV_48 fact_zeroV_81 Try.underlying3 Try.underlying4 Try.underlying5 Try.underlying9 Try.underlying22 Try.underlying25 Try.underlying28 Try.underlying32 Try.underlying35 Try.underlying39 Try.underlying61 Try.underlying65 Try.underlying66 Try.underlying67 Try.underlying81 Try.underlying86 Try.underlying112 Try.underlying122 F7.r0 F7.r1 F7.r2 F7.r3 F7.r4 F7.r5 F7.r6 F7.r7 F7.r8 F7.r9 F7.r10 F7.r11 F7.r12 F7.r13 F7.r14 F7.r15 F7.r16 F7.r17 F7.r18 F7.r19 F7.r20 F7.r21 F7.r22 F7.r24 F7.r25 F7.r26 F7.r27 F7.r28 F7.r29 F7.r30 F7.r31 F7.r32 F7.r33 F7.r34 F7.r35 F7.r36 F7.r23 F7.r37 F7.r38 F7.r39 F7.r40 F7.r41 F7.r42 F7.r43 F7.r44 F9.r0 F9.r1 F9.r2 F9.r3 F9.r4 F9.r5 F9.r6 F9.r7 F9.r8 F10.r0 F10.r1 F10.r2 F10.r3 F11.r0 F11.r1 F11.r2 F11.r3 F11.r5 F11.r6 F11.r4 F11.r7 F12.r0 F12.r1 F12.r2 F12.r3 F12.r4 F12.r5 F12.r6 F12.r7 F12.r8 F12.r9 F13.r0 F13.r1 F13.r2 F13.r3 F13.r4 F13.r5 F13.r6 F13.r7 F13.r8 F13.r9 F13.r10 F13.r11 F13.r12 F13.r13 F13.r14 F13.r15 F13.r16 F13.r17 F13.r18 F13.r19 F13.r20 F13.r21 F13.r22 F13.r23 F14.r0 F14.r1 F15.r0 F15.r1 F15.r2 F15.r4 F15.r5 F15.r3 F15.r6 F15.r7 F16.r0 F16.r1 F16.r2 F16.r3 F16.r4 F16.r5 F17.r0 F17.r1 F17.r2 F17.r4 F17.r5 F17.r3 F17.r6 F18.r0 F18.r1 F18.r2 F18.r3 F18.r4 F18.r5 F18.r6 F18.r7 F18.r8 F19.r0 F19.r1 F19.r2 F19.r3 F19.r4 F19.r5 F19.r6 F19.r7 F20.r0 F20.r1 F20.r2 F20.r3 F21.r0 F21.r1 F21.r2 F21.r3 F22.r0 F22.r1 F22.r2 F22.r3 F22.r4 F22.r5 F22.r6 F22.r7 F23.r0 F23.r1 F23.r2 F23.r3 F24.r0 F24.r1 F24.r2 F24.r3 F24.r4 F24.r5 F24.r6 F24.r7 F24.r8 F24.r9 F24.r10 F24.r11 F24.r12 F24.r13 F24.r14 F24.r15 F24.r16 F24.r17 F24.r18 F24.r19 F24.r20 F24.r21 F24.r22 F25.r0 F25.r1 F25.r2 F25.r3 F25.r4 F25.r5 F25.r6 F26.r0 F26.r1 F27.r0 F27.r1 F27.r2 F27.r3 F27.r4 F27.r5 F27.r6 F27.r7 F28.r0 F28.r1 F28.r2 F28.r3 F28.r5 F28.r6 F28.r7 F28.r4 F28.r8 F29.r0 F29.r1 F29.r2 F29.r3 F29.r4 F29.r5 F29.r7 F29.r8 F29.r10 F29.r9 F29.r6 F29.r11 F29.r12 F29.r14 F29.r15 F29.r17 F29.r18 F29.r16 F29.r13 F29.r19 F29.r20 F29.r22 F29.r23 F29.r25 F29.r26 F29.r24 F29.r27 F29.r28 F29.r30 F29.r29 F29.r21 F29.r31 F29.r32 F29.r34 F29.r35 F29.r37 F29.r38 F29.r36 F29.r33 F29.r39 F30.r0 F30.r1 F30.r2 F30.r3 F30.r4 F31.r0 F31.r1 F32.r0 F32.r1 F32.r2 F32.r3 F32.r4 F32.r5 F32.r6 F32.r7 F33.r0 F33.r1 F33.r2 F33.r3 F34.r0 F34.r1 F34.r2 F34.r3 F34.r4 F34.r5 F34.r6 F34.r7 F34.r8 F34.r9 F35.r0 F35.r1 F35.r2 F35.r3 F35.r4 F35.r5 F35.r6 F35.r7 F35.r8 F36.r0 F36.r1 F36.r2 F36.r3 F36.r4 F36.r5 F36.r6 F37.r0 F37.r1 F37.r2 F37.r3 F37.r4 F37.r5 F37.r6 F38.r0 F38.r1 F38.r2 F38.r3 F38.r4 F38.r5 F38.r6 F38.r7 F39.r0 F39.r1 F39.r2 F39.r3 F39.r4 F39.r5 F39.r6 F40.r0 F40.r1 F40.r2 F40.r3 F40.r4 F40.r5 F40.r6 F40.r7 F40.r8 F41.r0 F41.r1 F41.r2 F42.r0 F42.r1 F42.r2 F42.r3 F42.r4 F42.r5 F43.r0 F43.r1 F43.r2 F43.r3 F43.r4 F44.r0 F44.r1 F44.r2 F44.r3 F44.r4 F44.r5 F44.r6 F44.r7 F44.r8 F44.r9 F45.r0 F45.r1 F45.r2 F45.r3 F45.r4 F45.r5 F45.r6 F45.r7 F45.r8 F45.r9 F45.r10 F46.r0 F46.r1 F46.r2 F46.r3 F46.r4 F46.r5 F46.r7 F46.r8 F46.r9 F46.r10 F46.r11 F46.r12 F46.r13 F46.r14 F46.r15 F46.r16 F46.r17 F46.r18 F46.r19 F46.r20 F46.r21 F46.r22 F46.r23 F46.r24 F46.r25 F46.r26 F46.r27 F46.r28 F46.r29 F46.r30 F46.r31 F46.r6 F46.r32 F47.r0 F47.r1 F47.r2 F47.r3 F47.r4 F47.r6 F47.r7 F47.r8 F47.r5 F47.r9 F47.r10 F47.r11 F48.r0 F48.r1 F48.r2 F48.r3 F49.r0 F49.r1 F49.r2 F49.r3 F49.r4 F49.r5 F49.r6 F49.r7 F49.r8 F49.r9 F49.r10 F49.r11 F49.r12 F49.r13 F49.r14 F49.r15 F49.r16 F49.r17 F49.r18 F50.r0 F50.r1 F50.r2 F50.r3 F50.r5 F50.r4 F50.r6 F51.r0 F51.r1 F52.r0 F52.r1 F53.r0 F53.r1 F53.r2 F53.r4 F53.r5 F53.r3 F53.r6 F54.r0 F54.r1 F54.r2 F54.r3 F54.r4 F55.r0 F55.r1 F55.r2 F55.r3 F56.r0 F56.r1 F57.r0 F57.r1 F57.r2 F57.r3 F58.r0 F58.r1 F58.r2 F58.r4 F58.r5 F58.r3 F58.r6 F59.r0 F59.r1 F59.r2 F59.r3 F60.r0 F60.r1 F60.r2 F60.r3 F60.r4 F60.r6 F60.r5 F60.r7 F60.r8 F61.r0 F61.r1 F61.r2 F61.r3 F61.r4 F61.r5 F61.r6 F61.r7 F61.r8 F61.r9 F61.r10 F61.r11 F61.r12 F61.r14 F61.r13 F61.r15 F61.r16 F61.r17 F61.r18 F62.r0 F62.r1 F62.r2 F62.r3 F62.r4 F62.r5 F62.r6 F62.r7 F63.r0 F63.r1 F63.r2 F63.r3 F63.r4 F63.r5 F63.r7 F63.r6 F63.r8 F64.r0 F64.r1 F64.r2 F64.r3 F64.r4 F64.r5 F64.r6 F64.r7 F64.r8 F64.r9 F64.r10 F64.r11 F64.r12 F64.r13 F65.r0 F65.r1 F65.r2 F65.r3 F65.r4 F65.r5 F65.r6 F65.r7 F65.r8 F65.r9 F65.r10 F65.r11 F66.r0 F66.r1 F66.r2 F66.r3 F66.r4 F66.r5 F66.r6 F66.r7 F66.r8 F67.r0 F67.r1 F67.r2 F67.r3 F67.r4 F67.r5 F67.r6 F67.r7 F67.r8 F68.r0 F68.r1 F68.r2 F68.r3 F68.r5 F68.r6 F68.r4 F68.r7 F69.r0 F69.r1 F70.r0 F70.r1 F71.r0 F71.r1 F71.r2 F71.r3 F72.r0 F72.r1 F73.r0 F73.r1 F73.r2 F73.r3 F73.r4 F73.r5 F74.r0 F74.r1 F74.r2 F74.r3 F74.r4 F75.r0 F75.r1 F75.r2 F75.r3 F75.r4 F75.r5 F75.r6 F75.r7 F75.r8 F75.r9 F75.r10 F75.r11 F75.r12 F75.r13 F75.r14 F75.r15 F75.r16 F75.r17 F75.r18 F75.r19 F75.r20 F75.r21 F75.r22 F75.r23 F75.r24 F75.r25 F75.r26 F75.r27 F75.r28 F75.r29 F75.r30 F77.r0 F77.r1 F77.r3 F77.r4 F77.r6 F77.r5 F77.r2 F78.r0 F78.r1 F78.r2 F78.r3 F78.r4 F78.r6 F78.r5 F78.r7 F78.r8 F78.r10 F78.r11 F78.r9 F79.r0 F79.r1 F79.r2 F79.r3 F79.r4 F79.r5 F79.r7 F79.r8 F79.r9 F79.r10 F79.r6 F80.r0 F80.r1 F80.r2 F80.r3 F80.r4 F80.r5 F80.r6 F80.r7 F80.r8 F80.r9 F80.r10 F80.r11 F80.r12 F80.r14 F80.r15 F80.r16 F80.r17 F80.r13 F81.r0 F81.r1 F81.r2 F81.r3 F81.r4 F81.r5 F82.r0 F82.r1 F82.r2 F82.r3 F82.r5 F82.r6 F82.r7 F82.r8 F82.r9 F82.r10 F82.r11 F82.r12 F82.r13 F82.r14 F82.r16 F82.r17 F82.r15 F82.r18 F82.r19 F82.r20 F82.r22 F82.r23 F82.r21 F82.r4 F82.r24 F83.r0 F83.r1 F84.r0 F84.r1 F84.r2 F84.r3 F84.r4 F84.r5 F84.r6 F84.r7 F84.r8 F84.r9 F84.r10 F84.r11 F85.r0 F85.r1 F85.r2 F85.r3 F85.r4 F85.r5 F85.r6 F85.r7 F85.r8 F85.r9 F85.r10 F85.r11 F85.r12 F85.r13 F85.r14 F85.r15 F85.r16 F85.r17 F85.r18 F85.r19 F85.r20 F85.r21 F85.r22 F88.r0 F88.r1 F88.r2 F88.r3 F88.r4 F88.r5 F88.r6 F88.r7 F89.r0 F89.r1 F90.r0 F90.r1 F90.r2 F90.r3 F90.r4 F91.r0 F91.r1 F92.r0 F92.r1 F92.r2 F92.r3 F92.r4 F93.r0 F93.r1 F94.r0 F94.r1 F94.r2 F94.r3 F94.r4
end Go.Proofs.Ytljndiligbaljaa
namespace Go.Proofs.Ytljndiligbaljaa
open Go Go.Sort
set_option linter.unusedSimpArgs false
set_option linter.unusedVariables false
set_option maxRecDepth 100000
abbrev encW : Int → Value := fun n => .int .u32 n
def SoP (g o n c : Nat) (d : Array Int) : HP := RowO 35 1 (.slice (some ⟨g, o, none⟩) n c) n (d.toList.map encW)
abbrev soV (g o n c : Nat) : Value := .slice (some ⟨g, o, none⟩) n c
section
variable {w0 w : World} {F : HP} {g o n c : Nat} {d : Array Int}
theorem SoP.size (h : St w0 (SoP g o n c d * F) w) : d.size = n := by
  have := (h.left.ent (RowO.reads _ _ _ _ _)).rd.length
  simpa using this
theorem SoP.get (h : St w0 (SoP g o n c d * F) w) {i : Nat} (hi : i < n) : w.cell? ⟨g, o + i, none⟩ = some (encW d[i]!) := by
  have hs := SoP.size h
  have r := (h.left.ent (RowO.reads _ _ _ _ _)).rd
  obtain ⟨a, c', hv, _, hr⟩ := r.form
  simp only [Value.slice.injEq, true_and] at hv
  obtain ⟨rfl, rfl⟩ := hv
  have hg : (d.toList.map encW)[i]? = some (encW d[i]!) := by
    rw [List.getElem?_map, Array.getElem?_toList, Array.getElem?_eq_getElem (by omega), getElem!_pos d i (by omega)]; rfl
  rcases hr with hr | ⟨b, o', hb, hr⟩
  · rw [hr] at hg; cases hg
  · simp only [Option.some.injEq, Addr.mk.injEq, and_true] at hb
    obtain ⟨rfl, rfl⟩ := hb
    rw [hr i (by simp; omega)]
    exact hg
theorem SoP.set {K : World → Prop} {θ : Tag K} (h : St w0 (SoP g o n c d * F) w) {i : Nat} {x : Int} (hi : i < n) (hK : ∀ w', St w0 (SoP g o n c (d.setIfInBounds i x) * F) w' → K w') : storeD (some 1) (.pointer (some ⟨g, o + i, none⟩)) (encW x) w K θ := by
  have hs := SoP.size h
  have h' : St w0 (RowO 35 1 (.slice (some ⟨g, o, none⟩) n c) n (d.toList.map encW) * F) w := h
  refine h'.rowSet1 (g := g) (o := o) (n := n) (c := c) (s := 1) (T := 35) (k := i) (xs := d.toList.map encW) (by rw [List.length_map, Array.length_toList]; omega) rfl fun w' hw => hK w' ?_
  unfold SoP
  rw [Array.toList_setIfInBounds, List.map_set]
  exact hw
end
theorem nanW_any {w : World} {x : Int} : Calls Try.prog 93 #[encW x] w fun e w' => w' = w ∧ e = .returned (.bool false) := by
  refine F93.calls (by simp) ?_
  unfold F93.code
  simp -dsimp -implicitDefEqProofs (disch := omega) only [go_sem]
theorem lessW_any {w0 w : World} {F : HP} {x y : Int} (h : St w0 F w) : Calls Try.prog 83 #[encW x, encW y] w fun e w' => St w0 F w' ∧ e = .returned (.bool (ltInt x y)) := by
  refine F83.calls (by simp) ?_
  unfold F83.code
  simp -dsimp -implicitDefEqProofs (disch := omega) only [go_sem]
  refine nanW_any.mono ?_
  rintro e w1 ⟨rfl, rfl⟩
  simp -dsimp -implicitDefEqProofs (disch := omega) only [go_sem]
  exact ⟨h, rfl⟩
theorem insInner_go {lt : Int → Int → Bool} {a j : Nat} {d : Array Int} (h1 : a < j + 1) (h2 : lt d[j + 1]! d[j]! = true) : insInner lt a (j + 1) d = insInner lt a j (swp d (j + 1) j) := by
  rw [insInner, if_pos (by simp [h2]; omega)]
theorem insInner_no {lt : Int → Int → Bool} {a j : Nat} {d : Array Int} (h2 : lt d[j + 1]! d[j]! = false) : insInner lt a (j + 1) d = d := by
  rw [insInner, if_neg (by simp [h2])]
theorem insInner_low {lt : Int → Int → Bool} {a j : Nat} {d : Array Int} (h1 : ¬ a < j) : insInner lt a j d = d := by
  cases j with
  | zero => rfl
  | succ j => rw [insInner, if_neg (by simp; omega)]
theorem insOuter_go {lt : Int → Int → Bool} {a b i : Nat} {d : Array Int} (h : i < b) : insOuter lt a b i d = insOuter lt a b (i + 1) (insInner lt a i d) := by rw [insOuter, if_pos h]
theorem insOuter_no {lt : Int → Int → Bool} {a b i : Nat} {d : Array Int} (h : ¬ i < b) : insOuter lt a b i d = d := by rw [insOuter, if_neg h]
section
attribute [local go_sem] F77.t5_eq F77.t6_eq F77.t2_eq F77.t3_eq
theorem insertion_any {w0 w : World} {F : HP} {g o n c a b : Nat} {d : Array Int} (h : St w0 (SoP g o n c d * F) w) (hb : b ≤ n) (hab : a ≤ b) (hn : n < 4611686018427387904) :
    Calls Try.prog 77 #[soV g o n c, .int .i64 a, .int .i64 b] w fun e w' => St w0 (SoP g o n c (insertionSort ltInt d a b) * F) w' ∧ e = .returned (.tuple #[]) := by
  refine F77.calls (by simp) ?_
  unfold F77.code
  simp -dsimp -implicitDefEqProofs (disch := omega) only [go_sem]
  refine loop_intro (fun e w' => e.ds = [] ∧ e.ρ 0 = soV g o n c ∧ e.ρ 1 = .int .i64 a ∧ e.ρ 2 = .int .i64 b ∧ ∃ (i : Nat) (d' : Array Int), i ≤ b + 1 ∧ e.ρ 6 = .int .i64 i ∧ insOuter ltInt a b i d' = insertionSort ltInt d a b ∧ St w0 (SoP g o n c d' * F) w')
    (fun e _ => match e.ρ 6 with | .int _ k => (b + 1 - k).toNat | _ => 0) ?_ ?_
  · exact ⟨rfl, by simp -dsimp -implicitDefEqProofs only [go_sem], by simp -dsimp -implicitDefEqProofs only [go_sem], by simp -dsimp -implicitDefEqProofs only [go_sem], a + 1, d, by omega, by simp -dsimp -implicitDefEqProofs only [go_sem]; omega, rfl, h⟩
  rintro eo w1 ⟨hdo, e0o, e1o, e2o, i, d1, hi, e6o, hd1, h1⟩
  by_cases hlt : (i : Int) < b
  case neg =>
    simp -dsimp -implicitDefEqProofs (disch := omega) only [go_sem, hdo, e0o, e1o, e2o, e6o, hlt]
    rw [insOuter_no (by omega)] at hd1
    rw [← hd1]
    exact h1
  have hib : i < b := by omega
  rw [insOuter_go hib] at hd1
  simp -dsimp -implicitDefEqProofs (disch := omega) only [go_sem, hdo, e0o, e1o, e2o, e6o, hlt]
  refine loop_intro (fun e w' => e.ds = [] ∧ e.ρ 0 = soV g o n c ∧ e.ρ 1 = .int .i64 a ∧ e.ρ 2 = .int .i64 b ∧ e.ρ 6 = .int .i64 i ∧ ∃ (j : Nat) (d' : Array Int), j ≤ i ∧ e.ρ 7 = .int .i64 j ∧ insInner ltInt a j d' = insInner ltInt a i d1 ∧ St w0 (SoP g o n c d' * F) w')
    (fun e _ => match e.ρ 7 with | .int _ k => k.toNat | _ => 0) ?_ ?_
  · exact ⟨by simp -dsimp -implicitDefEqProofs only [go_sem, hdo], by simp -dsimp -implicitDefEqProofs only [go_sem, e0o], by simp -dsimp -implicitDefEqProofs only [go_sem, e1o], by simp -dsimp -implicitDefEqProofs only [go_sem, e2o], by simp -dsimp -implicitDefEqProofs only [go_sem, e6o], i, d1, by omega, by simp -dsimp -implicitDefEqProofs only [go_sem], rfl, h1⟩
  rintro e w2 ⟨hd, e0, e1, e2, e6, j, d2, hj, e7, hd2, h2⟩
  have fin : ∀ {w' : World}, insInner ltInt a j d2 = d2 → St w0 (SoP g o n c d2 * F) w' → St w0 (SoP g o n c (insInner ltInt a i d1) * F) w' := fun hx hw => by rw [← hd2, hx]; exact hw
  by_cases hja : (a : Int) < j
  case neg =>
    simp -dsimp -implicitDefEqProofs (disch := omega) only [go_sem, hd, e0, e1, e2, e6, e7, hja, e6o]
    exact ⟨⟨i + 1, insInner ltInt a i d1, by omega, by omega, hd1, fin (insInner_low (by omega)) h2.drew⟩, by omega⟩
  obtain ⟨k, rfl⟩ : ∃ k, j = k + 1 := ⟨j - 1, by omega⟩
  have h3 := h2.drew
  have c1 := SoP.get h3 (i := k + 1) (by omega)
  have c0 := SoP.get h3 (i := k) (by omega)
  have hk1 : ((k + 1 : Nat) : Int) - 1 = k := by omega
  simp -dsimp -implicitDefEqProofs (disch := omega) only [go_sem, hd, e0, e1, e2, e6, e7, hja, hk1, c1, c0]
  refine (lessW_any h3).mono ?_
  rintro e' w3 ⟨h4, rfl⟩
  cases hl : ltInt d2[k + 1]! d2[k]!
  · simp -dsimp -implicitDefEqProofs (disch := omega) only [go_sem, hd, e0, e1, e2, e6, e7, hja, hk1, e6o]
    exact ⟨⟨i + 1, insInner ltInt a i d1, by omega, by omega, hd1, fin (insInner_no hl) h4⟩, by omega⟩
  · have h5 := h4.drew
    have c1 := SoP.get h5 (i := k + 1) (by omega)
    have c0 := SoP.get h5 (i := k) (by omega)
    simp -dsimp -implicitDefEqProofs (disch := omega) only [go_sem, hd, e0, e1, e2, e6, e7, hja, hk1, c1, c0]
    refine SoP.set h5 (i := k + 1) (by omega) fun w4 h6 => ?_
    simp -dsimp -implicitDefEqProofs (disch := omega) only [go_sem, hd, e0, e1, e2, e6, e7, hja, hk1]
    refine SoP.set h6 (i := k) (by omega) fun w5 h7 => ?_
    simp -dsimp -implicitDefEqProofs (disch := omega) only [go_sem, hd, e0, e1, e2, e6, e7, hja, hk1]
    exact ⟨⟨k, swp d2 (k + 1) k, by omega, by omega, by rw [← hd2, insInner_go (by omega) hl], h7⟩, by omega⟩
end
end Go.Proofs.Ytljndiligbaljaa
namespace Go.Proofs.Ytljndiligbaljaa
open Go Go.Sort
set_option linter.unusedSimpArgs false
set_option linter.unusedVariables false
set_option maxRecDepth 100000
theorem siftDown_end {lt : Int → Int → Bool} {hi first root : Nat} {d : Array Int} (h : hi ≤ 2 * root + 1) : siftDown lt hi first root d = d := by
  rw [siftDown, dif_pos h]
theorem siftDown_r {lt : Int → Int → Bool} {hi first root : Nat} {d : Array Int} (h : 2 * root + 2 < hi) (hl : lt d[first + (2 * root + 1)]! d[first + (2 * root + 1) + 1]! = true) :
    siftDown lt hi first root d = if lt d[first + root]! d[first + (2 * root + 2)]! = true then siftDown lt hi first (2 * root + 2) (swp d (first + root) (first + (2 * root + 2))) else d := by
  rw [siftDown, dif_neg (by omega), if_pos (by simp only [Bool.and_eq_true, decide_eq_true_eq]; exact ⟨by omega, hl⟩)]
  cases lt d[first + root]! d[first + (2 * root + 2)]! <;> simp [h]
theorem siftDown_l {lt : Int → Int → Bool} {hi first root : Nat} {d : Array Int} (h : 2 * root + 1 < hi) (hl : ¬ (2 * root + 2 < hi ∧ lt d[first + (2 * root + 1)]! d[first + (2 * root + 1) + 1]! = true)) :
    siftDown lt hi first root d = if lt d[first + root]! d[first + (2 * root + 1)]! = true then siftDown lt hi first (2 * root + 1) (swp d (first + root) (first + (2 * root + 1))) else d := by
  rw [siftDown, dif_neg (by omega), if_neg (by simp only [Bool.and_eq_true, decide_eq_true_eq]; exact fun ⟨a, b⟩ => hl ⟨by omega, b⟩)]
  cases lt d[first + root]! d[first + (2 * root + 1)]! <;> simp
section
attribute [local go_sem] F88.t6_eq F88.t5_eq F88.t3_eq
theorem siftTail_any {w0 w : World} {F : HP} {g o n c hi first root child : Nat} {d D : Array Int} {Q : Post} {e : FA} {θ : Tag (F88.t5, Q, e, w)} (h : St w0 (SoP g o n c d * F) w) (hb : first + hi ≤ n) (hn : n < 4611686018427387904) (hch : child < hi) (hrc : root < child)
    (hD : D = if ltInt d[first + root]! d[first + child]! = true then siftDown ltInt hi first child (swp d (first + root) (first + child)) else d)
    (hd : e.ds = []) (e0 : e.ρ 0 = soV g o n c) (e2 : e.ρ 2 = .int .i64 hi) (e3 : e.ρ 3 = .int .i64 first) (e8 : e.ρ 8 = .int .i64 root) (e9 : e.ρ 9 = .int .i64 child)
    (hR : ∀ (e' : FA) (w' : World), e'.ds = [] → St w0 (SoP g o n c D * F) w' → Q .ret e' w')
    (hQ : ∀ (e' : FA) (w' : World) (d' : Array Int), e'.ds = [] → e'.ρ 0 = soV g o n c → e'.ρ 2 = .int .i64 hi → e'.ρ 3 = .int .i64 first → e'.ρ 8 = .int .i64 child → siftDown ltInt hi first child d' = D → St w0 (SoP g o n c d' * F) w' → Q .normal e' w') :
    cwE Try.prog F88.t5 Q e w θ := by
  rw [F88.t5_eq]
  have h1 := h.drew
  have c0 := SoP.get h1 (i := first + root) (by omega)
  have c1 := SoP.get h1 (i := first + child) (by omega)
  have i0 : (first : Int) + root = ((first + root : Nat) : Int) := by omega
  have i1 : (first : Int) + child = ((first + child : Nat) : Int) := by omega
  simp -dsimp -implicitDefEqProofs (disch := omega) only [go_sem, hd, e0, e2, e3, e8, e9, i0, i1, c0, c1]
  refine (lessW_any h1).mono ?_
  rintro e' w1 ⟨h2, rfl⟩
  cases hl : ltInt d[first + root]! d[first + child]!
  · rw [hl, if_neg (by simp)] at hD
    simp -dsimp -implicitDefEqProofs (disch := omega) only [go_sem, hd, e0, e2, e3, e8, e9]
    rw [hD] at hR
    exact hR _ _ (by simp -dsimp -implicitDefEqProofs only [go_sem, hd]) h2
  · rw [hl, if_pos rfl] at hD
    have h3 := h2.drew
    have c0 := SoP.get h3 (i := first + root) (by omega)
    have c1 := SoP.get h3 (i := first + child) (by omega)
    simp -dsimp -implicitDefEqProofs (disch := omega) only [go_sem, hd, e0, e2, e3, e8, e9, i0, i1, c0, c1]
    refine SoP.set h3 (i := first + root) (by omega) fun w4 h6 => ?_
    simp -dsimp -implicitDefEqProofs (disch := omega) only [go_sem, hd, e0, e2, e3, e8, e9, i0, i1]
    refine SoP.set h6 (i := first + child) (by omega) fun w5 h7 => ?_
    simp -dsimp -implicitDefEqProofs (disch := omega) only [go_sem, hd, e0, e2, e3, e8, e9]
    exact hQ _ _ (swp d (first + root) (first + child)) (by simp -dsimp -implicitDefEqProofs only [go_sem, hd]) (by simp -dsimp -implicitDefEqProofs only [go_sem, e0]) (by simp -dsimp -implicitDefEqProofs only [go_sem, e2]) (by simp -dsimp -implicitDefEqProofs only [go_sem, e3]) (by simp -dsimp -implicitDefEqProofs only [go_sem]) hD.symm h7
end
section
attribute [local go_sem] F88.t6_eq F88.t3_eq
theorem sift_any {w0 w : World} {F : HP} {g o n c lo hi first : Nat} {d : Array Int} (h : St w0 (SoP g o n c d * F) w) (hb : first + hi ≤ n) (hlo : lo ≤ n) (hn : n < 2305843009213693951) :
    Calls Try.prog 88 #[soV g o n c, .int .i64 lo, .int .i64 hi, .int .i64 first] w fun e w' => St w0 (SoP g o n c (siftDown ltInt hi first lo d) * F) w' ∧ e = .returned (.tuple #[]) := by
  refine F88.calls (by simp) ?_
  unfold F88.code
  simp -dsimp -implicitDefEqProofs (disch := omega) only [go_sem]
  refine loop_intro (fun e w' => e.ds = [] ∧ e.ρ 0 = soV g o n c ∧ e.ρ 2 = .int .i64 hi ∧ e.ρ 3 = .int .i64 first ∧ ∃ (r : Nat) (d' : Array Int), r ≤ n ∧ e.ρ 8 = .int .i64 r ∧ siftDown ltInt hi first r d' = siftDown ltInt hi first lo d ∧ St w0 (SoP g o n c d' * F) w')
    (fun e _ => match e.ρ 8 with | .int _ k => (n - k).toNat | _ => 0) ?_ ?_
  · exact ⟨rfl, by simp -dsimp -implicitDefEqProofs only [go_sem], by simp -dsimp -implicitDefEqProofs only [go_sem], by simp -dsimp -implicitDefEqProofs only [go_sem], lo, d, hlo, by simp -dsimp -implicitDefEqProofs only [go_sem], rfl, h⟩
  rintro e w1 ⟨hd, e0, e2, e3, r, d1, hr, e8, hd1, h1⟩
  have i2 : 2 * (r : Int) + 1 = ((2 * r + 1 : Nat) : Int) := by omega
  by_cases hend : (hi : Int) ≤ ((2 * r + 1 : Nat) : Int)
  · simp -dsimp -implicitDefEqProofs (disch := omega) only [go_sem, hd, e0, e2, e3, e8, i2, hend]
    rw [siftDown_end (by omega)] at hd1
    rw [← hd1]
    exact h1
  have hch : 2 * r + 1 < hi := by omega
  have i3 : ((2 * r + 1 : Nat) : Int) + 1 = ((2 * r + 2 : Nat) : Int) := by omega
  have tail : ∀ {Q : Post} {e' : FA} {w' : World} {θ : Tag (F88.t5, Q, e', w')} (child : Nat), child < hi → r < child → St w0 (SoP g o n c d1 * F) w' →
      siftDown ltInt hi first lo d = (if ltInt d1[first + r]! d1[first + child]! = true then siftDown ltInt hi first child (swp d1 (first + r) (first + child)) else d1) →
      e'.ds = [] → e'.ρ 0 = soV g o n c → e'.ρ 2 = .int .i64 hi → e'.ρ 3 = .int .i64 first → e'.ρ 8 = .int .i64 r → e'.ρ 9 = .int .i64 child →
      (∀ (e' : FA) (w' : World), e'.ds = [] → St w0 (SoP g o n c (siftDown ltInt hi first lo d) * F) w' → Q .ret e' w') →
      (∀ (e' : FA) (w' : World) (d' : Array Int), e'.ds = [] → e'.ρ 0 = soV g o n c → e'.ρ 2 = .int .i64 hi → e'.ρ 3 = .int .i64 first → e'.ρ 8 = .int .i64 child → siftDown ltInt hi first child d' = siftDown ltInt hi first lo d → St w0 (SoP g o n c d' * F) w' → Q .normal e' w') → cwE Try.prog F88.t5 Q e' w' θ :=
    fun child q1 q2 hh hD f0 f1 f2 f3 f4 f5 hR hQ => siftTail_any hh hb (by omega) q1 q2 hD f0 f1 f2 f3 f4 f5 hR hQ
  have h2 := h1.drew
  by_cases hc2 : (((2 * r + 2 : Nat) : Int)) < hi
  · have c0 := SoP.get h2 (i := first + (2 * r + 1)) (by omega)
    have c1 := SoP.get h2 (i := first + (2 * r + 2)) (by omega)
    have i4 : (first : Int) + ((2 * r + 1 : Nat) : Int) = ((first + (2 * r + 1) : Nat) : Int) := by omega
    have i5 : ((first + (2 * r + 1) : Nat) : Int) + 1 = ((first + (2 * r + 2) : Nat) : Int) := by omega
    simp -dsimp -implicitDefEqProofs (disch := omega) only [go_sem, hd, e0, e2, e3, e8, i2, hend, i3, hc2, i4, i5, c0, c1]
    refine (lessW_any h2).mono ?_
    rintro e' w3 ⟨h3, rfl⟩
    cases hl : ltInt d1[first + (2 * r + 1)]! d1[first + (2 * r + 2)]!
    · simp -dsimp -implicitDefEqProofs (disch := omega) only [go_sem, hd, e0, e2, e3, e8]
      refine tail (2 * r + 1) hch (by omega) h3 ?_ (by simp -dsimp -implicitDefEqProofs only [go_sem, hd]) (by simp -dsimp -implicitDefEqProofs only [go_sem, e0]) (by simp -dsimp -implicitDefEqProofs only [go_sem, e2]) (by simp -dsimp -implicitDefEqProofs only [go_sem, e3]) (by simp -dsimp -implicitDefEqProofs only [go_sem, e8]) (by simp -dsimp -implicitDefEqProofs only [go_sem]) ?_ ?_
      · rw [← hd1, siftDown_l hch (fun ⟨_, hx⟩ => by rw [show first + (2 * r + 1) + 1 = first + (2 * r + 2) by omega, hl] at hx; cases hx)]
      · intro e' w' f0 h4
        simp -dsimp -implicitDefEqProofs (disch := omega) only [go_sem, f0]
        exact h4
      · intro e' w' d' f0 f1 f2 f3 f4 hdd h4
        simp -dsimp -implicitDefEqProofs (disch := omega) only [go_sem, f0, f1, f2, f3, f4, e8]
        exact ⟨⟨2 * r + 1, d', by omega, rfl, hdd, h4⟩, by omega⟩
    · simp -dsimp -implicitDefEqProofs (disch := omega) only [go_sem, hd, e0, e2, e3, e8, i3]
      refine tail (2 * r + 2) (by omega) (by omega) h3 ?_ (by simp -dsimp -implicitDefEqProofs only [go_sem, hd]) (by simp -dsimp -implicitDefEqProofs only [go_sem, e0]) (by simp -dsimp -implicitDefEqProofs only [go_sem, e2]) (by simp -dsimp -implicitDefEqProofs only [go_sem, e3]) (by simp -dsimp -implicitDefEqProofs only [go_sem, e8]) (by simp -dsimp -implicitDefEqProofs only [go_sem]) ?_ ?_
      · rw [← hd1, siftDown_r (by omega) (by rw [show first + (2 * r + 1) + 1 = first + (2 * r + 2) by omega]; exact hl)]
      · intro e' w' f0 h4
        simp -dsimp -implicitDefEqProofs (disch := omega) only [go_sem, f0]
        exact h4
      · intro e' w' d' f0 f1 f2 f3 f4 hdd h4
        simp -dsimp -implicitDefEqProofs (disch := omega) only [go_sem, f0, f1, f2, f3, f4, e8]
        exact ⟨⟨2 * r + 2, d', by omega, rfl, hdd, h4⟩, by omega⟩
  · simp -dsimp -implicitDefEqProofs (disch := omega) only [go_sem, hd, e0, e2, e3, e8, i2, hend, i3, hc2]
    refine tail (2 * r + 1) hch (by omega) h2 ?_ (by simp -dsimp -implicitDefEqProofs only [go_sem, hd]) (by simp -dsimp -implicitDefEqProofs only [go_sem, e0]) (by simp -dsimp -implicitDefEqProofs only [go_sem, e2]) (by simp -dsimp -implicitDefEqProofs only [go_sem, e3]) (by simp -dsimp -implicitDefEqProofs only [go_sem, e8]) (by simp -dsimp -implicitDefEqProofs only [go_sem]) ?_ ?_
    · rw [← hd1, siftDown_l hch (fun ⟨hx, _⟩ => by omega)]
    · intro e' w' f0 h4
      simp -dsimp -implicitDefEqProofs (disch := omega) only [go_sem, f0]
      exact h4
    · intro e' w' d' f0 f1 f2 f3 f4 hdd h4
      simp -dsimp -implicitDefEqProofs (disch := omega) only [go_sem, f0, f1, f2, f3, f4, e8]
      exact ⟨⟨2 * r + 1, d', by omega, rfl, hdd, h4⟩, by omega⟩
end
end Go.Proofs.Ytljndiligbaljaa
namespace Go.Proofs.Ytljndiligbaljaa
open Go Go.Sort
set_option linter.unusedSimpArgs false
set_option linter.unusedVariables false
set_option maxRecDepth 100000
section
attribute [local go_sem] F78.t5_eq F78.t6_eq F78.t9_eq F78.t10_eq F78.t7_eq
theorem heapPop_any {w0 w : World} {F : HP} {g o n c a b : Nat} {d D : Array Int} {e : FA} (h : St w0 (SoP g o n c d * F) w) (hb : b ≤ n) (hab : a ≤ b) (hn : n < 2305843009213693951) (hD : heapPop ltInt a (b - a) d = D)
    (hd : e.ds = []) (e0 : e.ρ 0 = soV g o n c) (e6 : e.ρ 6 = .int .i64 a) (e7 : e.ρ 7 = .int .i64 (0 : Nat)) (e8 : e.ρ 8 = .int .i64 ((b - a : Nat) : Int)) :
    cwE Try.prog F78.t7 (fnP Try.prog #[] fun e w' => St w0 (SoP g o n c D * F) w' ∧ e = .returned (.tuple #[])) e w := by
  rw [F78.t7_eq]
  simp -dsimp -implicitDefEqProofs (disch := omega) only [go_sem, hd, e0, e6, e7, e8]
  refine loop_intro (fun e w' => e.ds = [] ∧ e.ρ 0 = soV g o n c ∧ e.ρ 6 = .int .i64 a ∧ e.ρ 7 = .int .i64 (0 : Nat) ∧ ∃ (k : Nat) (d' : Array Int), k ≤ b - a ∧ e.ρ 10 = .int .i64 ((k : Int) - 1) ∧ heapPop ltInt a k d' = D ∧ St w0 (SoP g o n c d' * F) w')
    (fun e _ => match e.ρ 10 with | .int _ k => (k + 1).toNat | _ => 0) ?_ ?_
  · exact ⟨by simp -dsimp -implicitDefEqProofs only [go_sem, hd], by simp -dsimp -implicitDefEqProofs only [go_sem, e0], by simp -dsimp -implicitDefEqProofs only [go_sem, e6], by simp -dsimp -implicitDefEqProofs only [go_sem, e7], b - a, d, by omega, by simp -dsimp -implicitDefEqProofs only [go_sem], hD, h⟩
  rintro e w1 ⟨hd, e0, e6, e7, k, d1, hk, e10, hd1, h1⟩
  cases k with
  | zero =>
    simp -dsimp -implicitDefEqProofs (disch := omega) only [go_sem, hd, e0, e6, e7, e10]
    have : d1 = D := hd1
    rw [← this]
    exact h1
  | succ k =>
    have hk1 : ((k + 1 : Nat) : Int) - 1 = k := by omega
    have hk0 : (0 : Int) ≤ k := by omega
    rw [hk1] at e10
    have h2 := h1.drew
    have c0 := SoP.get h2 (i := a) (by omega)
    have c1 := SoP.get h2 (i := a + k) (by omega)
    have i1 : (a : Int) + k = ((a + k : Nat) : Int) := by omega
    simp -dsimp -implicitDefEqProofs (disch := omega) only [go_sem, hd, e0, e6, e7, e10, hk0, i1, c0, c1]
    refine SoP.set h2 (i := a) (by omega) fun w2 h3 => ?_
    simp -dsimp -implicitDefEqProofs (disch := omega) only [go_sem, hd, e0, e6, e7, e10, i1]
    refine SoP.set h3 (i := a + k) (by omega) fun w3 h4 => ?_
    have h4' : St w0 (SoP g o n c (swp d1 a (a + k)) * F) w3 := h4
    simp -dsimp -implicitDefEqProofs (disch := omega) only [go_sem, hd, e0, e6, e7, e10]
    refine (sift_any (lo := 0) (hi := k) (first := a) h4' (by omega) (by omega) hn).mono ?_
    rintro e' w4 ⟨h5, rfl⟩
    simp -dsimp -implicitDefEqProofs (disch := omega) only [go_sem, hd, e0, e6, e7, e10]
    exact ⟨⟨k, _, by omega, rfl, hd1, h5⟩, by omega⟩
end
section
attribute [local go_sem] F78.t5_eq F78.t6_eq F78.t9_eq F78.t10_eq
theorem heapSort_any {w0 w : World} {F : HP} {g o n c a b : Nat} {d : Array Int} (h : St w0 (SoP g o n c d * F) w) (hb : b ≤ n) (hab : a < b) (hn : n < 2305843009213693951) :
    Calls Try.prog 78 #[soV g o n c, .int .i64 a, .int .i64 b] w fun e w' => St w0 (SoP g o n c (heapSort ltInt d a b) * F) w' ∧ e = .returned (.tuple #[]) := by
  refine F78.calls (by simp) ?_
  unfold F78.code
  have i1 : (b : Int) - a = ((b - a : Nat) : Int) := by omega
  have i2 : ((b - a : Nat) : Int) - 1 = ((b - a - 1 : Nat) : Int) := by omega
  have i3 : ((b - a - 1 : Nat) : Int).tdiv 2 = (((b - a - 1) / 2 : Nat) : Int) := rfl
  simp -dsimp -implicitDefEqProofs (disch := omega) only [go_sem, i1, i2, i3]
  refine loop_intro (fun e w' => e.ds = [] ∧ e.ρ 0 = soV g o n c ∧ e.ρ 6 = .int .i64 a ∧ e.ρ 7 = .int .i64 (0 : Nat) ∧ e.ρ 8 = .int .i64 ((b - a : Nat) : Int) ∧ ∃ (k : Nat) (d' : Array Int), k ≤ (b - a - 1) / 2 + 1 ∧ e.ρ 9 = .int .i64 ((k : Int) - 1) ∧ heapBuild ltInt (b - a) a k d' = heapBuild ltInt (b - a) a ((b - a - 1) / 2 + 1) d ∧ St w0 (SoP g o n c d' * F) w')
    (fun e _ => match e.ρ 9 with | .int _ k => (k + 1).toNat | _ => 0) ?_ ?_
  · exact ⟨rfl, by simp -dsimp -implicitDefEqProofs only [go_sem], by simp -dsimp -implicitDefEqProofs only [go_sem], by simp -dsimp -implicitDefEqProofs only [go_sem], by simp -dsimp -implicitDefEqProofs only [go_sem], (b - a - 1) / 2 + 1, d, by omega, by simp -dsimp -implicitDefEqProofs only [go_sem]; omega, rfl, h⟩
  rintro e w1 ⟨hd, e0, e6, e7, e8, k, d1, hk, e9, hd1, h1⟩
  cases k with
  | zero =>
    have hm : ¬ (0 : Int) ≤ ((0 : Nat) : Int) - 1 := by omega
    simp -dsimp -implicitDefEqProofs (disch := omega) only [go_sem, hd, e0, e6, e7, e8, e9, hm]
    have hd2 : d1 = heapBuild ltInt (b - a) a ((b - a - 1) / 2 + 1) d := hd1
    exact heapPop_any (n := n) (a := a) (b := b) h1 hb (by omega) hn (by rw [hd2]; rfl) (by simp -dsimp -implicitDefEqProofs only [go_sem, hd]) (by simp -dsimp -implicitDefEqProofs only [go_sem, e0]) (by simp -dsimp -implicitDefEqProofs only [go_sem, e6]) (by simp -dsimp -implicitDefEqProofs only [go_sem, e7]) (by simp -dsimp -implicitDefEqProofs only [go_sem, e8])
  | succ k =>
    have hk1 : ((k + 1 : Nat) : Int) - 1 = k := by omega
    have hk0 : (0 : Int) ≤ k := by omega
    rw [hk1] at e9
    simp -dsimp -implicitDefEqProofs (disch := omega) only [go_sem, hd, e0, e6, e7, e8, e9, hk0]
    refine (sift_any (lo := k) (hi := b - a) (first := a) h1 (by omega) (by omega) hn).mono ?_
    rintro e' w4 ⟨h5, rfl⟩
    simp -dsimp -implicitDefEqProofs (disch := omega) only [go_sem, hd, e0, e6, e7, e8, e9]
    exact ⟨⟨k, _, by omega, rfl, hd1, h5⟩, by omega⟩
theorem reverseLoop_go {i j : Nat} {d : Array Int} (h : i < j) : reverseLoop i j d = reverseLoop (i + 1) (j - 1) (swp d i j) := by rw [reverseLoop, if_pos h]
theorem reverseLoop_no {i j : Nat} {d : Array Int} (h : ¬ i < j) : reverseLoop i j d = d := by rw [reverseLoop, if_neg h]
end
section
attribute [local go_sem] F81.t3_eq
theorem reverse_any {w0 w : World} {F : HP} {g o n c a b : Nat} {d : Array Int} (h : St w0 (SoP g o n c d * F) w) (hb : b ≤ n) (hab : a < b) (hn : n < 2305843009213693951) :
    Calls Try.prog 81 #[soV g o n c, .int .i64 a, .int .i64 b] w fun e w' => St w0 (SoP g o n c (reverseRange d a b) * F) w' ∧ e = .returned (.tuple #[]) := by
  refine F81.calls (by simp) ?_
  unfold F81.code
  simp -dsimp -implicitDefEqProofs (disch := omega) only [go_sem]
  refine loop_intro (fun e w' => e.ds = [] ∧ e.ρ 0 = soV g o n c ∧ ∃ (i j : Nat) (d' : Array Int), i ≤ j + 1 ∧ j < n ∧ e.ρ 6 = .int .i64 i ∧ e.ρ 7 = .int .i64 j ∧ reverseLoop i j d' = reverseRange d a b ∧ St w0 (SoP g o n c d' * F) w')
    (fun e _ => match e.ρ 6, e.ρ 7 with | .int _ i, .int _ j => (j + 1 - i).toNat | _, _ => 0) ?_ ?_
  · exact ⟨rfl, by simp -dsimp -implicitDefEqProofs only [go_sem], a, b - 1, d, by omega, by omega, by simp -dsimp -implicitDefEqProofs only [go_sem], by simp -dsimp -implicitDefEqProofs only [go_sem]; omega, rfl, h⟩
  rintro e w1 ⟨hd, e0, i, j, d1, hij, hj, e6, e7, hd1, h1⟩
  by_cases hlt : (i : Int) < j
  case neg =>
    simp -dsimp -implicitDefEqProofs (disch := omega) only [go_sem, hd, e0, e6, e7, hlt]
    rw [reverseLoop_no (by omega)] at hd1
    rw [← hd1]
    exact h1
  have h2 := h1.drew
  have c0 := SoP.get h2 (i := i) (by omega)
  have c1 := SoP.get h2 (i := j) (by omega)
  simp -dsimp -implicitDefEqProofs (disch := omega) only [go_sem, hd, e0, e6, e7, hlt, c0, c1]
  refine SoP.set h2 (i := i) (by omega) fun w2 h3 => ?_
  simp -dsimp -implicitDefEqProofs (disch := omega) only [go_sem, hd, e0, e6, e7]
  refine SoP.set h3 (i := j) (by omega) fun w3 h4 => ?_
  have h4' : St w0 (SoP g o n c (swp d1 i j) * F) w3 := h4
  rw [reverseLoop_go (by omega)] at hd1
  simp -dsimp -implicitDefEqProofs (disch := omega) only [go_sem, hd, e0, e6, e7]
  exact ⟨⟨i + 1, j - 1, swp d1 i j, by omega, by omega, by omega, by omega, hd1, h4'⟩, by omega⟩
def SwP (k : Nat) (s : Nat) : HP := Blk k (.cells #[.int .i64 s] 3 (0, 0))
end
section
attribute [local go_sem] F94.t4_eq
theorem order2_any {w0 w : World} {F : HP} {g o n c a b k s : Nat} {d : Array Int} (h : St w0 (SwP k s * (SoP g o n c d * F)) w) (ha : a < n) (hb : b < n) (hs : s < 1000) :
    Calls Try.prog 94 #[soV g o n c, .int .i64 a, .int .i64 b, .pointer (some ⟨k, 0, none⟩)] w fun e w' => St w0 (SwP k (order2 ltInt d a b s).2.2 * (SoP g o n c d * F)) w' ∧ e = .returned (.tuple #[.int .i64 (order2 ltInt d a b s).1, .int .i64 (order2 ltInt d a b s).2.1]) := by
  refine F94.calls (by simp) ?_
  unfold F94.code
  have h1 : St w0 (SoP g o n c d * (SwP k s * F)) w.drew := h.drew.sw2
  have c0 := SoP.get h1 (i := a) ha
  have c1 := SoP.get h1 (i := b) hb
  simp -dsimp -implicitDefEqProofs (disch := omega) only [go_sem, c0, c1]
  refine (lessW_any h1).mono ?_
  rintro e' w1 ⟨h2, rfl⟩
  have h3 : St w0 (Blk k (.cells #[.int .i64 s] 3 (0, 0)) * (SoP g o n c d * F)) w1 := h2.sw2
  cases hl : ltInt d[b]! d[a]!
  · simp -dsimp -implicitDefEqProofs (disch := omega) only [go_sem]
    simp only [order2, hl, Bool.false_eq_true, if_false]
    exact ⟨h3, trivial⟩
  · have hk := h3.cl k
    simp -dsimp -implicitDefEqProofs (disch := omega) only [go_sem, hk]
    refine h3.sto (b := k) (off := 0) (by simp) rfl fun w2 h4 => ?_
    simp -dsimp -implicitDefEqProofs (disch := omega) only [go_sem]
    simp only [order2, hl, if_true]
    refine ⟨?_, trivial⟩
    unfold SwP
    have : ((s + 1 : Nat) : Int) = (s : Int) + 1 := by omega
    rw [this]
    exact h4
theorem order2_lt {lt : Int → Int → Bool} {d : Array Int} {a b s n : Nat} (ha : a < n) (hb : b < n) : (order2 lt d a b s).1 < n ∧ (order2 lt d a b s).2.1 < n ∧ (order2 lt d a b s).2.2 ≤ s + 1 := by
  unfold order2
  split <;> simp <;> omega
end
theorem median_any {w0 w : World} {F : HP} {g o n c a b e k s : Nat} {d : Array Int} (h : St w0 (SwP k s * (SoP g o n c d * F)) w) (ha : a < n) (hb : b < n) (he : e < n) (hs : s < 900) :
    Calls Try.prog 92 #[soV g o n c, .int .i64 a, .int .i64 b, .int .i64 e, .pointer (some ⟨k, 0, none⟩)] w fun en w' => St w0 (SwP k (median ltInt d a b e s).2 * (SoP g o n c d * F)) w' ∧ en = .returned (.int .i64 (median ltInt d a b e s).1) := by
  refine F92.calls (by simp) ?_
  unfold F92.code
  simp -dsimp -implicitDefEqProofs (disch := omega) only [go_sem]
  obtain ⟨p1, p2, p3⟩ := order2_lt (lt := ltInt) (d := d) (s := s) ha hb
  refine (order2_any h ha hb (by omega)).mono ?_
  rintro e' w1 ⟨h1, rfl⟩
  unfold median
  simp only
  generalize order2 ltInt d a b s = r1 at *
  obtain ⟨x1, y1, s1⟩ := r1
  simp only at p1 p2 p3 h1
  simp -dsimp -implicitDefEqProofs (disch := omega) only [go_sem]
  obtain ⟨q1, q2, q3⟩ := order2_lt (lt := ltInt) (d := d) (s := s1) p2 he
  refine (order2_any h1 p2 he (by omega)).mono ?_
  rintro e' w2 ⟨h2, rfl⟩
  generalize order2 ltInt d y1 e s1 = r2 at *
  obtain ⟨x2, y2, s2⟩ := r2
  simp only at q1 q2 q3 h2
  simp -dsimp -implicitDefEqProofs (disch := omega) only [go_sem]
  refine (order2_any h2 p1 q1 (by omega)).mono ?_
  rintro e' w3 ⟨h3, rfl⟩
  simp -dsimp -implicitDefEqProofs (disch := omega) only [go_sem]
  exact h3
theorem median_lt {lt : Int → Int → Bool} {d : Array Int} {a b e s n : Nat} (ha : a < n) (hb : b < n) (he : e < n) : (median lt d a b e s).1 < n ∧ (median lt d a b e s).2 ≤ s + 3 := by
  unfold median
  simp only
  obtain ⟨p1, p2, p3⟩ := order2_lt (lt := lt) (d := d) (s := s) ha hb
  generalize order2 lt d a b s = r1 at *
  obtain ⟨q1, q2, q3⟩ := order2_lt (lt := lt) (d := d) (s := r1.2.2) p2 he
  generalize order2 lt d r1.2.1 e r1.2.2 = r2 at *
  obtain ⟨t1, t2, t3⟩ := order2_lt (lt := lt) (d := d) (s := r2.2.2) p1 q1
  omega
theorem medianAdj_any {w0 w : World} {F : HP} {g o n c a k s : Nat} {d : Array Int} (h : St w0 (SwP k s * (SoP g o n c d * F)) w) (ha : 1 ≤ a) (hb : a + 1 < n) (hs : s < 900) (hn : n < 2305843009213693951) :
    Calls Try.prog 91 #[soV g o n c, .int .i64 a, .pointer (some ⟨k, 0, none⟩)] w fun en w' => St w0 (SwP k (medianAdjacent ltInt d a s).2 * (SoP g o n c d * F)) w' ∧ en = .returned (.int .i64 (medianAdjacent ltInt d a s).1) := by
  refine F91.calls (by simp) ?_
  unfold F91.code
  have i1 : (a : Int) - 1 = ((a - 1 : Nat) : Int) := by omega
  have i2 : (a : Int) + 1 = ((a + 1 : Nat) : Int) := by omega
  simp -dsimp -implicitDefEqProofs (disch := omega) only [go_sem, i1, i2]
  refine (median_any h (a := a - 1) (b := a) (e := a + 1) (by omega) (by omega) hb hs).mono ?_
  rintro e' w1 ⟨h1, rfl⟩
  simp -dsimp -implicitDefEqProofs (disch := omega) only [go_sem]
  exact ⟨h1, rfl⟩
end Go.Proofs.Ytljndiligbaljaa
namespace Go.Proofs.Ytljndiligbaljaa
open Go Go.Sort
set_option linter.unusedSimpArgs false
set_option linter.unusedVariables false
set_option maxRecDepth 100000
theorem scanUp_go {p : Int → Bool} {d : Array Int} {i j : Nat} (h : i ≤ j) (hp : p d[i]! = true) : scanUp p d j i = scanUp p d j (i + 1) := by rw [scanUp, if_pos (by simp [h, hp])]
theorem scanUp_no {p : Int → Bool} {d : Array Int} {i j : Nat} (h : i ≤ j → p d[i]! = false) : scanUp p d j i = i := by
  rw [scanUp, if_neg (by simp only [Bool.and_eq_true, decide_eq_true_eq, not_and, Bool.not_eq_true]; exact h)]
theorem scanDown_go {p : Int → Bool} {d : Array Int} {i j : Nat} (h : i ≤ j + 1) (hp : p d[j + 1]! = true) : scanDown p d i (j + 1) = scanDown p d i j := by rw [scanDown, if_pos (by simp [h, hp])]
theorem scanDown_no {p : Int → Bool} {d : Array Int} {i j : Nat} (h : i ≤ j → p d[j]! = false) : scanDown p d i j = j := by
  cases j with
  | zero => rfl
  | succ j => rw [scanDown, if_neg (by simp only [Bool.and_eq_true, decide_eq_true_eq, not_and, Bool.not_eq_true]; exact h)]
section
attribute [local go_sem] F85.t4_eq F85.t6_eq F85.t14_eq F85.t16_eq F85.t18_eq F85.t17_eq F85.t15_eq F85.t21_eq F85.t10_eq F85.t7_eq F85.t5_eq
theorem up85a {w0 w : World} {F : HP} {g o n c a i j : Nat} {d : Array Int} {Q : Post} {e : FA} {θ : Tag ((.loop (.seq (.seq (.region 3 F85.r3.toArray true) (.cond (.tmp 43) .skip (.exit 0))) F85.t4) : Cd), Q, e, w)} (h : St w0 (SoP g o n c d * F) w) (ha : a < n) (hj : j < n) (hi : 1 ≤ i) (hin : i ≤ n + 1) (hn : n < 2305843009213693951)
    (hd : e.ds = []) (e0 : e.ρ 0 = soV g o n c) (e1 : e.ρ 1 = .int .i64 a) (eI : e.ρ 10 = .int .i64 i) (eJ : e.ρ 11 = .int .i64 j)
    (hQ : ∀ (e' : FA) (w' : World), e'.ds = [] → e'.ρ 0 = soV g o n c → e'.ρ 1 = .int .i64 a → e'.ρ 11 = .int .i64 j → e'.ρ 10 = .int .i64 (scanUp (fun x => ltInt x d[a]!) d j i : Nat) → St w0 (SoP g o n c d * F) w' → Q (.exit 0) e' w') :
    cwE Try.prog (.loop (.seq (.seq (.region 3 F85.r3.toArray true) (.cond (.tmp 43) .skip (.exit 0))) F85.t4)) Q e w θ := by
  refine loop_intro (fun e w' => e.ds = [] ∧ e.ρ 0 = soV g o n c ∧ e.ρ 1 = .int .i64 a ∧ e.ρ 11 = .int .i64 j ∧ ∃ k : Nat, k ≤ n + 1 ∧ e.ρ 10 = .int .i64 k ∧ scanUp (fun x => ltInt x d[a]!) d j k = scanUp (fun x => ltInt x d[a]!) d j i ∧ St w0 (SoP g o n c d * F) w')
    (fun e _ => match e.ρ 10 with | .int _ k => (j + 1 - k).toNat | _ => 0) ?_ ?_
  · exact ⟨by simp -dsimp -implicitDefEqProofs only [go_sem, hd], by simp -dsimp -implicitDefEqProofs only [go_sem, e0], by simp -dsimp -implicitDefEqProofs only [go_sem, e1], by simp -dsimp -implicitDefEqProofs only [go_sem, eJ], i, hin, by simp -dsimp -implicitDefEqProofs only [go_sem, eI], rfl, h⟩
  clear h hd e0 e1 eI eJ
  rintro e w1 ⟨hd, e0, e1, eJ, k, hk, eI, hs, h1⟩
  by_cases hlt : (k : Int) ≤ j
  case neg =>
    simp -dsimp -implicitDefEqProofs (disch := omega) only [go_sem, hd, e0, e1, eI, eJ, hlt]
    rw [scanUp_no (fun hx => by omega)] at hs
    rw [hs] at eI
    exact hQ _ _ (by simp -dsimp -implicitDefEqProofs only [go_sem, hd]) (by simp -dsimp -implicitDefEqProofs only [go_sem, e0]) (by simp -dsimp -implicitDefEqProofs only [go_sem, e1]) (by simp -dsimp -implicitDefEqProofs only [go_sem, eJ]) (by simp -dsimp -implicitDefEqProofs only [go_sem, eI]) h1.drew
  have h2 := h1.drew
  have ck := SoP.get h2 (i := k) (by omega)
  have ca := SoP.get h2 (i := a) ha
  simp -dsimp -implicitDefEqProofs (disch := omega) only [go_sem, hd, e0, e1, eI, eJ, hlt, ck, ca]
  refine (lessW_any h2).mono ?_
  rintro e' w3 ⟨h3, rfl⟩
  cases hl : ltInt d[k]! d[a]!
  · simp -dsimp -implicitDefEqProofs (disch := omega) only [go_sem, hd, e0, e1, eI, eJ]
    rw [scanUp_no (fun _ => by simp only [hl, Bool.not_false, Bool.not_true])] at hs
    rw [hs] at eI
    exact hQ _ _ (by simp -dsimp -implicitDefEqProofs only [go_sem, hd]) (by simp -dsimp -implicitDefEqProofs only [go_sem, e0]) (by simp -dsimp -implicitDefEqProofs only [go_sem, e1]) (by simp -dsimp -implicitDefEqProofs only [go_sem, eJ]) (by simp -dsimp -implicitDefEqProofs only [go_sem, eI]) h3
  · simp -dsimp -implicitDefEqProofs (disch := omega) only [go_sem, hd, e0, e1, eI, eJ]
    rw [scanUp_go (by omega) (by simp only [hl, Bool.not_false, Bool.not_true])] at hs
    exact ⟨⟨k + 1, by omega, by omega, hs, h3⟩, by omega⟩
end
section
attribute [local go_sem] F85.t4_eq F85.t6_eq F85.t14_eq F85.t16_eq F85.t18_eq F85.t17_eq F85.t15_eq F85.t21_eq F85.t10_eq F85.t7_eq F85.t5_eq
theorem down85a {w0 w : World} {F : HP} {g o n c a i j : Nat} {d : Array Int} {Q : Post} {e : FA} {θ : Tag ((.loop (.seq (.seq (.region 5 F85.r5.toArray true) (.cond (.tmp 60) .skip (.exit 2))) F85.t6) : Cd), Q, e, w)} (h : St w0 (SoP g o n c d * F) w) (ha : a < n) (hj : j < n) (hi : 1 ≤ i) (hin : i ≤ n + 1) (hn : n < 2305843009213693951)
    (hd : e.ds = []) (e0 : e.ρ 0 = soV g o n c) (e1 : e.ρ 1 = .int .i64 a) (eI : e.ρ 10 = .int .i64 i) (eJ : e.ρ 11 = .int .i64 j)
    (hQ : ∀ (e' : FA) (w' : World), e'.ds = [] → e'.ρ 0 = soV g o n c → e'.ρ 1 = .int .i64 a → e'.ρ 10 = .int .i64 i → e'.ρ 11 = .int .i64 (scanDown (fun x => !ltInt x d[a]!) d i j : Nat) → St w0 (SoP g o n c d * F) w' → Q (.exit 2) e' w') :
    cwE Try.prog (.loop (.seq (.seq (.region 5 F85.r5.toArray true) (.cond (.tmp 60) .skip (.exit 2))) F85.t6)) Q e w θ := by
  refine loop_intro (fun e w' => e.ds = [] ∧ e.ρ 0 = soV g o n c ∧ e.ρ 1 = .int .i64 a ∧ e.ρ 10 = .int .i64 i ∧ ∃ k : Nat, k ≤ j ∧ e.ρ 11 = .int .i64 k ∧ scanDown (fun x => !ltInt x d[a]!) d i k = scanDown (fun x => !ltInt x d[a]!) d i j ∧ St w0 (SoP g o n c d * F) w')
    (fun e _ => match e.ρ 11 with | .int _ k => k.toNat | _ => 0) ?_ ?_
  · exact ⟨by simp -dsimp -implicitDefEqProofs only [go_sem, hd], by simp -dsimp -implicitDefEqProofs only [go_sem, e0], by simp -dsimp -implicitDefEqProofs only [go_sem, e1], by simp -dsimp -implicitDefEqProofs only [go_sem, eI], j, Nat.le_refl _, by simp -dsimp -implicitDefEqProofs only [go_sem, eJ], rfl, h⟩
  clear h hd e0 e1 eI eJ
  rintro e w1 ⟨hd, e0, e1, eI, k, hk, eJ, hs, h1⟩
  by_cases hlt : (i : Int) ≤ k
  case neg =>
    simp -dsimp -implicitDefEqProofs (disch := omega) only [go_sem, hd, e0, e1, eI, eJ, hlt]
    rw [scanDown_no (fun hx => by omega)] at hs
    rw [hs] at eJ
    exact hQ _ _ (by simp -dsimp -implicitDefEqProofs only [go_sem, hd]) (by simp -dsimp -implicitDefEqProofs only [go_sem, e0]) (by simp -dsimp -implicitDefEqProofs only [go_sem, e1]) (by simp -dsimp -implicitDefEqProofs only [go_sem, eI]) (by simp -dsimp -implicitDefEqProofs only [go_sem, eJ]) h1.drew
  have h2 := h1.drew
  have ck := SoP.get h2 (i := k) (by omega)
  have ca := SoP.get h2 (i := a) ha
  simp -dsimp -implicitDefEqProofs (disch := omega) only [go_sem, hd, e0, e1, eI, eJ, hlt, ck, ca]
  refine (lessW_any h2).mono ?_
  rintro e' w3 ⟨h3, rfl⟩
  cases hl : ltInt d[k]! d[a]!
  · simp -dsimp -implicitDefEqProofs (disch := omega) only [go_sem, hd, e0, e1, eI, eJ]
    obtain ⟨m, rfl⟩ : ∃ m, k = m + 1 := ⟨k - 1, by omega⟩
    rw [scanDown_go (by omega) (by simp only [hl, Bool.not_false, Bool.not_true])] at hs
    exact ⟨⟨m, by omega, by omega, hs, h3⟩, by omega⟩
  · simp -dsimp -implicitDefEqProofs (disch := omega) only [go_sem, hd, e0, e1, eI, eJ]
    rw [scanDown_no (fun _ => by simp only [hl, Bool.not_false, Bool.not_true])] at hs
    rw [hs] at eJ
    exact hQ _ _ (by simp -dsimp -implicitDefEqProofs only [go_sem, hd]) (by simp -dsimp -implicitDefEqProofs only [go_sem, e0]) (by simp -dsimp -implicitDefEqProofs only [go_sem, e1]) (by simp -dsimp -implicitDefEqProofs only [go_sem, eI]) (by simp -dsimp -implicitDefEqProofs only [go_sem, eJ]) h3
end
section
attribute [local go_sem] F85.t4_eq F85.t6_eq F85.t14_eq F85.t16_eq F85.t18_eq F85.t17_eq F85.t15_eq F85.t21_eq F85.t10_eq F85.t7_eq F85.t5_eq
theorem up85b {w0 w : World} {F : HP} {g o n c a i j : Nat} {d : Array Int} {Q : Post} {e : FA} {θ : Tag ((.loop (.seq (.seq (.region 13 F85.r13.toArray true) (.cond (.tmp 112) .skip (.exit 6))) F85.t14) : Cd), Q, e, w)} (h : St w0 (SoP g o n c d * F) w) (ha : a < n) (hj : j < n) (hi : 1 ≤ i) (hin : i ≤ n + 1) (hn : n < 2305843009213693951)
    (hd : e.ds = []) (e0 : e.ρ 0 = soV g o n c) (e1 : e.ρ 1 = .int .i64 a) (eI : e.ρ 10 = .int .i64 i) (eJ : e.ρ 11 = .int .i64 j)
    (hQ : ∀ (e' : FA) (w' : World), e'.ds = [] → e'.ρ 0 = soV g o n c → e'.ρ 1 = .int .i64 a → e'.ρ 11 = .int .i64 j → e'.ρ 10 = .int .i64 (scanUp (fun x => ltInt x d[a]!) d j i : Nat) → St w0 (SoP g o n c d * F) w' → Q (.exit 6) e' w') :
    cwE Try.prog (.loop (.seq (.seq (.region 13 F85.r13.toArray true) (.cond (.tmp 112) .skip (.exit 6))) F85.t14)) Q e w θ := by
  refine loop_intro (fun e w' => e.ds = [] ∧ e.ρ 0 = soV g o n c ∧ e.ρ 1 = .int .i64 a ∧ e.ρ 11 = .int .i64 j ∧ ∃ k : Nat, k ≤ n + 1 ∧ e.ρ 10 = .int .i64 k ∧ scanUp (fun x => ltInt x d[a]!) d j k = scanUp (fun x => ltInt x d[a]!) d j i ∧ St w0 (SoP g o n c d * F) w')
    (fun e _ => match e.ρ 10 with | .int _ k => (j + 1 - k).toNat | _ => 0) ?_ ?_
  · exact ⟨by simp -dsimp -implicitDefEqProofs only [go_sem, hd], by simp -dsimp -implicitDefEqProofs only [go_sem, e0], by simp -dsimp -implicitDefEqProofs only [go_sem, e1], by simp -dsimp -implicitDefEqProofs only [go_sem, eJ], i, hin, by simp -dsimp -implicitDefEqProofs only [go_sem, eI], rfl, h⟩
  clear h hd e0 e1 eI eJ
  rintro e w1 ⟨hd, e0, e1, eJ, k, hk, eI, hs, h1⟩
  by_cases hlt : (k : Int) ≤ j
  case neg =>
    simp -dsimp -implicitDefEqProofs (disch := omega) only [go_sem, hd, e0, e1, eI, eJ, hlt]
    rw [scanUp_no (fun hx => by omega)] at hs
    rw [hs] at eI
    exact hQ _ _ (by simp -dsimp -implicitDefEqProofs only [go_sem, hd]) (by simp -dsimp -implicitDefEqProofs only [go_sem, e0]) (by simp -dsimp -implicitDefEqProofs only [go_sem, e1]) (by simp -dsimp -implicitDefEqProofs only [go_sem, eJ]) (by simp -dsimp -implicitDefEqProofs only [go_sem, eI]) h1.drew
  have h2 := h1.drew
  have ck := SoP.get h2 (i := k) (by omega)
  have ca := SoP.get h2 (i := a) ha
  simp -dsimp -implicitDefEqProofs (disch := omega) only [go_sem, hd, e0, e1, eI, eJ, hlt, ck, ca]
  refine (lessW_any h2).mono ?_
  rintro e' w3 ⟨h3, rfl⟩
  cases hl : ltInt d[k]! d[a]!
  · simp -dsimp -implicitDefEqProofs (disch := omega) only [go_sem, hd, e0, e1, eI, eJ]
    rw [scanUp_no (fun _ => by simp only [hl, Bool.not_false, Bool.not_true])] at hs
    rw [hs] at eI
    exact hQ _ _ (by simp -dsimp -implicitDefEqProofs only [go_sem, hd]) (by simp -dsimp -implicitDefEqProofs only [go_sem, e0]) (by simp -dsimp -implicitDefEqProofs only [go_sem, e1]) (by simp -dsimp -implicitDefEqProofs only [go_sem, eJ]) (by simp -dsimp -implicitDefEqProofs only [go_sem, eI]) h3
  · simp -dsimp -implicitDefEqProofs (disch := omega) only [go_sem, hd, e0, e1, eI, eJ]
    rw [scanUp_go (by omega) (by simp only [hl, Bool.not_false, Bool.not_true])] at hs
    exact ⟨⟨k + 1, by omega, by omega, hs, h3⟩, by omega⟩
end
section
attribute [local go_sem] F85.t4_eq F85.t6_eq F85.t14_eq F85.t16_eq F85.t18_eq F85.t17_eq F85.t15_eq F85.t21_eq F85.t10_eq F85.t7_eq F85.t5_eq
theorem down85b {w0 w : World} {F : HP} {g o n c a i j : Nat} {d : Array Int} {Q : Post} {e : FA} {θ : Tag ((.loop (.seq (.seq (.region 15 F85.r15.toArray true) (.cond (.tmp 129) .skip (.exit 8))) F85.t16) : Cd), Q, e, w)} (h : St w0 (SoP g o n c d * F) w) (ha : a < n) (hj : j < n) (hi : 1 ≤ i) (hin : i ≤ n + 1) (hn : n < 2305843009213693951)
    (hd : e.ds = []) (e0 : e.ρ 0 = soV g o n c) (e1 : e.ρ 1 = .int .i64 a) (eI : e.ρ 10 = .int .i64 i) (eJ : e.ρ 11 = .int .i64 j)
    (hQ : ∀ (e' : FA) (w' : World), e'.ds = [] → e'.ρ 0 = soV g o n c → e'.ρ 1 = .int .i64 a → e'.ρ 10 = .int .i64 i → e'.ρ 11 = .int .i64 (scanDown (fun x => !ltInt x d[a]!) d i j : Nat) → St w0 (SoP g o n c d * F) w' → Q (.exit 8) e' w') :
    cwE Try.prog (.loop (.seq (.seq (.region 15 F85.r15.toArray true) (.cond (.tmp 129) .skip (.exit 8))) F85.t16)) Q e w θ := by
  refine loop_intro (fun e w' => e.ds = [] ∧ e.ρ 0 = soV g o n c ∧ e.ρ 1 = .int .i64 a ∧ e.ρ 10 = .int .i64 i ∧ ∃ k : Nat, k ≤ j ∧ e.ρ 11 = .int .i64 k ∧ scanDown (fun x => !ltInt x d[a]!) d i k = scanDown (fun x => !ltInt x d[a]!) d i j ∧ St w0 (SoP g o n c d * F) w')
    (fun e _ => match e.ρ 11 with | .int _ k => k.toNat | _ => 0) ?_ ?_
  · exact ⟨by simp -dsimp -implicitDefEqProofs only [go_sem, hd], by simp -dsimp -implicitDefEqProofs only [go_sem, e0], by simp -dsimp -implicitDefEqProofs only [go_sem, e1], by simp -dsimp -implicitDefEqProofs only [go_sem, eI], j, Nat.le_refl _, by simp -dsimp -implicitDefEqProofs only [go_sem, eJ], rfl, h⟩
  clear h hd e0 e1 eI eJ
  rintro e w1 ⟨hd, e0, e1, eI, k, hk, eJ, hs, h1⟩
  by_cases hlt : (i : Int) ≤ k
  case neg =>
    simp -dsimp -implicitDefEqProofs (disch := omega) only [go_sem, hd, e0, e1, eI, eJ, hlt]
    rw [scanDown_no (fun hx => by omega)] at hs
    rw [hs] at eJ
    exact hQ _ _ (by simp -dsimp -implicitDefEqProofs only [go_sem, hd]) (by simp -dsimp -implicitDefEqProofs only [go_sem, e0]) (by simp -dsimp -implicitDefEqProofs only [go_sem, e1]) (by simp -dsimp -implicitDefEqProofs only [go_sem, eI]) (by simp -dsimp -implicitDefEqProofs only [go_sem, eJ]) h1.drew
  have h2 := h1.drew
  have ck := SoP.get h2 (i := k) (by omega)
  have ca := SoP.get h2 (i := a) ha
  simp -dsimp -implicitDefEqProofs (disch := omega) only [go_sem, hd, e0, e1, eI, eJ, hlt, ck, ca]
  refine (lessW_any h2).mono ?_
  rintro e' w3 ⟨h3, rfl⟩
  cases hl : ltInt d[k]! d[a]!
  · simp -dsimp -implicitDefEqProofs (disch := omega) only [go_sem, hd, e0, e1, eI, eJ]
    obtain ⟨m, rfl⟩ : ∃ m, k = m + 1 := ⟨k - 1, by omega⟩
    rw [scanDown_go (by omega) (by simp only [hl, Bool.not_false, Bool.not_true])] at hs
    exact ⟨⟨m, by omega, by omega, hs, h3⟩, by omega⟩
  · simp -dsimp -implicitDefEqProofs (disch := omega) only [go_sem, hd, e0, e1, eI, eJ]
    rw [scanDown_no (fun _ => by simp only [hl, Bool.not_false, Bool.not_true])] at hs
    rw [hs] at eJ
    exact hQ _ _ (by simp -dsimp -implicitDefEqProofs only [go_sem, hd]) (by simp -dsimp -implicitDefEqProofs only [go_sem, e0]) (by simp -dsimp -implicitDefEqProofs only [go_sem, e1]) (by simp -dsimp -implicitDefEqProofs only [go_sem, eI]) (by simp -dsimp -implicitDefEqProofs only [go_sem, eJ]) h3
end
section
attribute [local go_sem] F84.t4_eq F84.t6_eq F84.t8_eq F84.t7_eq F84.t5_eq F84.t11_eq
theorem up84 {w0 w : World} {F : HP} {g o n c a i j : Nat} {d : Array Int} {Q : Post} {e : FA} {θ : Tag ((.loop (.seq (.seq (.region 3 F84.r3.toArray true) (.cond (.tmp 43) .skip (.exit 2))) F84.t4) : Cd), Q, e, w)} (h : St w0 (SoP g o n c d * F) w) (ha : a < n) (hj : j < n) (hi : 1 ≤ i) (hin : i ≤ n + 1) (hn : n < 2305843009213693951)
    (hd : e.ds = []) (e0 : e.ρ 0 = soV g o n c) (e1 : e.ρ 1 = .int .i64 a) (eI : e.ρ 9 = .int .i64 i) (eJ : e.ρ 10 = .int .i64 j)
    (hQ : ∀ (e' : FA) (w' : World), e'.ds = [] → e'.ρ 0 = soV g o n c → e'.ρ 1 = .int .i64 a → e'.ρ 10 = .int .i64 j → e'.ρ 9 = .int .i64 (scanUp (fun x => !ltInt d[a]! x) d j i : Nat) → St w0 (SoP g o n c d * F) w' → Q (.exit 2) e' w') :
    cwE Try.prog (.loop (.seq (.seq (.region 3 F84.r3.toArray true) (.cond (.tmp 43) .skip (.exit 2))) F84.t4)) Q e w θ := by
  refine loop_intro (fun e w' => e.ds = [] ∧ e.ρ 0 = soV g o n c ∧ e.ρ 1 = .int .i64 a ∧ e.ρ 10 = .int .i64 j ∧ ∃ k : Nat, k ≤ n + 1 ∧ e.ρ 9 = .int .i64 k ∧ scanUp (fun x => !ltInt d[a]! x) d j k = scanUp (fun x => !ltInt d[a]! x) d j i ∧ St w0 (SoP g o n c d * F) w')
    (fun e _ => match e.ρ 9 with | .int _ k => (j + 1 - k).toNat | _ => 0) ?_ ?_
  · exact ⟨by simp -dsimp -implicitDefEqProofs only [go_sem, hd], by simp -dsimp -implicitDefEqProofs only [go_sem, e0], by simp -dsimp -implicitDefEqProofs only [go_sem, e1], by simp -dsimp -implicitDefEqProofs only [go_sem, eJ], i, hin, by simp -dsimp -implicitDefEqProofs only [go_sem, eI], rfl, h⟩
  clear h hd e0 e1 eI eJ
  rintro e w1 ⟨hd, e0, e1, eJ, k, hk, eI, hs, h1⟩
  by_cases hlt : (k : Int) ≤ j
  case neg =>
    simp -dsimp -implicitDefEqProofs (disch := omega) only [go_sem, hd, e0, e1, eI, eJ, hlt]
    rw [scanUp_no (fun hx => by omega)] at hs
    rw [hs] at eI
    exact hQ _ _ (by simp -dsimp -implicitDefEqProofs only [go_sem, hd]) (by simp -dsimp -implicitDefEqProofs only [go_sem, e0]) (by simp -dsimp -implicitDefEqProofs only [go_sem, e1]) (by simp -dsimp -implicitDefEqProofs only [go_sem, eJ]) (by simp -dsimp -implicitDefEqProofs only [go_sem, eI]) h1.drew
  have h2 := h1.drew
  have ck := SoP.get h2 (i := k) (by omega)
  have ca := SoP.get h2 (i := a) ha
  simp -dsimp -implicitDefEqProofs (disch := omega) only [go_sem, hd, e0, e1, eI, eJ, hlt, ck, ca]
  refine (lessW_any h2).mono ?_
  rintro e' w3 ⟨h3, rfl⟩
  cases hl : ltInt d[a]! d[k]!
  · simp -dsimp -implicitDefEqProofs (disch := omega) only [go_sem, hd, e0, e1, eI, eJ]
    rw [scanUp_go (by omega) (by simp only [hl, Bool.not_false, Bool.not_true])] at hs
    exact ⟨⟨k + 1, by omega, by omega, hs, h3⟩, by omega⟩
  · simp -dsimp -implicitDefEqProofs (disch := omega) only [go_sem, hd, e0, e1, eI, eJ]
    rw [scanUp_no (fun _ => by simp only [hl, Bool.not_false, Bool.not_true])] at hs
    rw [hs] at eI
    exact hQ _ _ (by simp -dsimp -implicitDefEqProofs only [go_sem, hd]) (by simp -dsimp -implicitDefEqProofs only [go_sem, e0]) (by simp -dsimp -implicitDefEqProofs only [go_sem, e1]) (by simp -dsimp -implicitDefEqProofs only [go_sem, eJ]) (by simp -dsimp -implicitDefEqProofs only [go_sem, eI]) h3
end
section
attribute [local go_sem] F84.t4_eq F84.t6_eq F84.t8_eq F84.t7_eq F84.t5_eq F84.t11_eq
theorem down84 {w0 w : World} {F : HP} {g o n c a i j : Nat} {d : Array Int} {Q : Post} {e : FA} {θ : Tag ((.loop (.seq (.seq (.region 5 F84.r5.toArray true) (.cond (.tmp 59) .skip (.exit 4))) F84.t6) : Cd), Q, e, w)} (h : St w0 (SoP g o n c d * F) w) (ha : a < n) (hj : j < n) (hi : 1 ≤ i) (hin : i ≤ n + 1) (hn : n < 2305843009213693951)
    (hd : e.ds = []) (e0 : e.ρ 0 = soV g o n c) (e1 : e.ρ 1 = .int .i64 a) (eI : e.ρ 9 = .int .i64 i) (eJ : e.ρ 10 = .int .i64 j)
    (hQ : ∀ (e' : FA) (w' : World), e'.ds = [] → e'.ρ 0 = soV g o n c → e'.ρ 1 = .int .i64 a → e'.ρ 9 = .int .i64 i → e'.ρ 10 = .int .i64 (scanDown (fun x => ltInt d[a]! x) d i j : Nat) → St w0 (SoP g o n c d * F) w' → Q (.exit 4) e' w') :
    cwE Try.prog (.loop (.seq (.seq (.region 5 F84.r5.toArray true) (.cond (.tmp 59) .skip (.exit 4))) F84.t6)) Q e w θ := by
  refine loop_intro (fun e w' => e.ds = [] ∧ e.ρ 0 = soV g o n c ∧ e.ρ 1 = .int .i64 a ∧ e.ρ 9 = .int .i64 i ∧ ∃ k : Nat, k ≤ j ∧ e.ρ 10 = .int .i64 k ∧ scanDown (fun x => ltInt d[a]! x) d i k = scanDown (fun x => ltInt d[a]! x) d i j ∧ St w0 (SoP g o n c d * F) w')
    (fun e _ => match e.ρ 10 with | .int _ k => k.toNat | _ => 0) ?_ ?_
  · exact ⟨by simp -dsimp -implicitDefEqProofs only [go_sem, hd], by simp -dsimp -implicitDefEqProofs only [go_sem, e0], by simp -dsimp -implicitDefEqProofs only [go_sem, e1], by simp -dsimp -implicitDefEqProofs only [go_sem, eI], j, Nat.le_refl _, by simp -dsimp -implicitDefEqProofs only [go_sem, eJ], rfl, h⟩
  clear h hd e0 e1 eI eJ
  rintro e w1 ⟨hd, e0, e1, eI, k, hk, eJ, hs, h1⟩
  by_cases hlt : (i : Int) ≤ k
  case neg =>
    simp -dsimp -implicitDefEqProofs (disch := omega) only [go_sem, hd, e0, e1, eI, eJ, hlt]
    rw [scanDown_no (fun hx => by omega)] at hs
    rw [hs] at eJ
    exact hQ _ _ (by simp -dsimp -implicitDefEqProofs only [go_sem, hd]) (by simp -dsimp -implicitDefEqProofs only [go_sem, e0]) (by simp -dsimp -implicitDefEqProofs only [go_sem, e1]) (by simp -dsimp -implicitDefEqProofs only [go_sem, eI]) (by simp -dsimp -implicitDefEqProofs only [go_sem, eJ]) h1.drew
  have h2 := h1.drew
  have ck := SoP.get h2 (i := k) (by omega)
  have ca := SoP.get h2 (i := a) ha
  simp -dsimp -implicitDefEqProofs (disch := omega) only [go_sem, hd, e0, e1, eI, eJ, hlt, ck, ca]
  refine (lessW_any h2).mono ?_
  rintro e' w3 ⟨h3, rfl⟩
  cases hl : ltInt d[a]! d[k]!
  · simp -dsimp -implicitDefEqProofs (disch := omega) only [go_sem, hd, e0, e1, eI, eJ]
    rw [scanDown_no (fun _ => by simp only [hl, Bool.not_false, Bool.not_true])] at hs
    rw [hs] at eJ
    exact hQ _ _ (by simp -dsimp -implicitDefEqProofs only [go_sem, hd]) (by simp -dsimp -implicitDefEqProofs only [go_sem, e0]) (by simp -dsimp -implicitDefEqProofs only [go_sem, e1]) (by simp -dsimp -implicitDefEqProofs only [go_sem, eI]) (by simp -dsimp -implicitDefEqProofs only [go_sem, eJ]) h3
  · simp -dsimp -implicitDefEqProofs (disch := omega) only [go_sem, hd, e0, e1, eI, eJ]
    obtain ⟨m, rfl⟩ : ∃ m, k = m + 1 := ⟨k - 1, by omega⟩
    rw [scanDown_go (by omega) (by simp only [hl, Bool.not_false, Bool.not_true])] at hs
    exact ⟨⟨m, by omega, by omega, hs, h3⟩, by omega⟩
end
end Go.Proofs.Ytljndiligbaljaa
namespace Go.Proofs.Ytljndiligbaljaa
open Go Go.Sort
set_option linter.unusedSimpArgs false
set_option linter.unusedVariables false
set_option maxRecDepth 100000
theorem scanUp_top {p : Int → Bool} {d : Array Int} {i j n : Nat} (hi : i ≤ n + 1) (hj : j < n) : scanUp p d j i ≤ n + 1 := by
  by_cases h : i ≤ j + 1
  · have := (scanUp_spec p d j _ i rfl).2.1 h
    omega
  · rw [scanUp_no (fun hx => by omega)]; exact hi
section
attribute [local go_sem] F85.t4_eq F85.t6_eq F85.t14_eq F85.t16_eq F85.t18_eq F85.t17_eq F85.t15_eq F85.t21_eq F85.t10_eq F85.t7_eq F85.t5_eq
theorem part21 {w0 w : World} {F : HP} {g o n c a j : Nat} {d D : Array Int} {M : Nat} {e : FA} (h : St w0 (SoP g o n c d * F) w) (ha : a < n) (hj : j < n) (hn : n < 2305843009213693951) (hM : j = M) (hD : swp d j a = D)
    (hd : e.ds = []) (e0 : e.ρ 0 = soV g o n c) (e1 : e.ρ 1 = .int .i64 a) (e11 : e.ρ 11 = .int .i64 j) :
    cwE Try.prog F85.t21 (fnP Try.prog #[.tmp 8, .tmp 9] fun e w' => St w0 (SoP g o n c D * F) w' ∧ e = .returned (.tuple #[.int .i64 M, .bool false])) e w := by
  rw [F85.t21_eq]
  have h2 := h.drew
  have ck := SoP.get h2 (i := j) hj
  have ca := SoP.get h2 (i := a) ha
  simp -dsimp -implicitDefEqProofs (disch := omega) only [go_sem, hd, e0, e1, e11, ck, ca]
  refine SoP.set h2 (i := j) hj fun w2 h3 => ?_
  simp -dsimp -implicitDefEqProofs (disch := omega) only [go_sem, hd, e0, e1, e11]
  refine SoP.set h3 (i := a) ha fun w3 h4 => ?_
  have h4' : St w0 (SoP g o n c (swp d j a) * F) w3 := h4
  subst hM
  simp -dsimp -implicitDefEqProofs (disch := omega) only [go_sem, hd, e0, e1, e11]
  rw [← hD]
  exact h4'
end
section
attribute [local go_sem] F85.t4_eq F85.t6_eq F85.t14_eq F85.t16_eq F85.t18_eq F85.t17_eq F85.t15_eq F85.t10_eq F85.t7_eq F85.t5_eq
theorem part10 {w0 w : World} {F : HP} {g o n c a i j : Nat} {d D : Array Int} {M : Nat} {e : FA} (h : St w0 (SoP g o n c d * F) w) (ha : a < n) (hi : 1 ≤ i) (hij : i ≤ j) (hj : j < n) (hn : n < 2305843009213693951)
    (hM : (partLoop ltInt a (i + 1) (j - 1) (swp d i j)).1 = M) (hD : swp (partLoop ltInt a (i + 1) (j - 1) (swp d i j)).2 (partLoop ltInt a (i + 1) (j - 1) (swp d i j)).1 a = D)
    (hd : e.ds = []) (e0 : e.ρ 0 = soV g o n c) (e1 : e.ρ 1 = .int .i64 a) (e10 : e.ρ 10 = .int .i64 i) (e11 : e.ρ 11 = .int .i64 j) :
    cwE Try.prog F85.t10 (fnP Try.prog #[.tmp 8, .tmp 9] fun e w' => St w0 (SoP g o n c D * F) w' ∧ e = .returned (.tuple #[.int .i64 M, .bool false])) e w := by
  rw [F85.t10_eq]
  have h2 := h.drew
  have ci := SoP.get h2 (i := i) (by omega)
  have cj := SoP.get h2 (i := j) hj
  simp -dsimp -implicitDefEqProofs (disch := omega) only [go_sem, hd, e0, e1, e10, e11, ci, cj]
  refine SoP.set h2 (i := i) (by omega) fun w2 h3 => ?_
  simp -dsimp -implicitDefEqProofs (disch := omega) only [go_sem, hd, e0, e1, e10, e11]
  refine SoP.set h3 (i := j) hj fun w3 h4 => ?_
  have h4' : St w0 (SoP g o n c (swp d i j) * F) w3 := h4
  have hj1 : (j : Int) - 1 = ((j - 1 : Nat) : Int) := by omega
  simp -dsimp -implicitDefEqProofs (disch := omega) only [go_sem, hd, e0, e1, e10, e11, hj1]
  generalize hR : partLoop ltInt a (i + 1) (j - 1) (swp d i j) = R at hM hD
  refine loop_intro (fun e w' => e.ds = [] ∧ e.ρ 0 = soV g o n c ∧ e.ρ 1 = .int .i64 a ∧ ∃ (i j : Nat) (d' : Array Int), 1 ≤ i ∧ i ≤ n + 1 ∧ j < n ∧ e.ρ 10 = .int .i64 i ∧ e.ρ 11 = .int .i64 j ∧ partLoop ltInt a i j d' = R ∧ St w0 (SoP g o n c d' * F) w')
    (fun e _ => match e.ρ 10, e.ρ 11 with | .int _ i, .int _ j => (j + 1 - i).toNat | _, _ => 0) ?_ ?_
  · exact ⟨by simp -dsimp -implicitDefEqProofs only [go_sem, hd], by simp -dsimp -implicitDefEqProofs only [go_sem, e0], by simp -dsimp -implicitDefEqProofs only [go_sem, e1], i + 1, j - 1, swp d i j, by omega, by omega, by omega, by simp -dsimp -implicitDefEqProofs only [go_sem]; omega, by simp -dsimp -implicitDefEqProofs only [go_sem], hR, h4'⟩
  clear hd e0 e1 e10 e11 hi hij hj hj1 hR h4' h4 h3 h2 h ci cj
  rintro e w4 ⟨hd, e0, e1, i, j, d1, hi, hin, hj, e10, e11, hp, h5⟩
  simp -dsimp -implicitDefEqProofs (disch := omega) only [go_sem, hd, e0, e1, e10, e11]
  refine up85b (i := i) (j := j) h5 ha hj hi hin hn hd e0 e1 e10 e11 ?_
  intro e' w5 f0 f1 f2 f3 f4 h6
  have hup := scanUp_spec (fun x => ltInt x d1[a]!) d1 j _ i rfl
  have htop := scanUp_top (p := fun x => ltInt x d1[a]!) (d := d1) hin hj
  rw [partLoop_eq] at hp
  generalize hI : scanUp (fun x => ltInt x d1[a]!) d1 j i = I at f4 hup hp htop
  simp -dsimp -implicitDefEqProofs (disch := omega) only [go_sem, f0, f1, f2, f3, f4]
  refine down85b (i := I) (j := j) h6 ha hj (by omega) (by omega) hn f0 f1 f2 f4 f3 ?_
  intro e'' w6 g0 g1 g2 g3 g4 h7
  have hdn := scanDown_le (fun x => !ltInt x d1[a]!) d1 I j
  generalize hJ : scanDown (fun x => !ltInt x d1[a]!) d1 I j = J at g4 hdn hp
  by_cases hgt : (J : Int) < I
  · have hgt' : I > J := by omega
    rw [if_pos hgt'] at hp
    simp -dsimp -implicitDefEqProofs (disch := omega) only [go_sem, g0, g1, g2, g3, g4, hgt]
    subst hp
    exact part21 (j := J) h7 ha (by omega) hn hM hD (by simp -dsimp -implicitDefEqProofs only [go_sem, g0]) (by simp -dsimp -implicitDefEqProofs only [go_sem, g1]) (by simp -dsimp -implicitDefEqProofs only [go_sem, g2]) (by simp -dsimp -implicitDefEqProofs only [go_sem, g4])
  · have hle : ¬ I > J := by omega
    rw [if_neg hle] at hp
    have h8 := h7.drew
    have ci := SoP.get h8 (i := I) (by omega)
    have cj := SoP.get h8 (i := J) (by omega)
    simp -dsimp -implicitDefEqProofs (disch := omega) only [go_sem, g0, g1, g2, g3, g4, hgt, ci, cj]
    refine SoP.set h8 (i := I) (by omega) fun w2 h9 => ?_
    simp -dsimp -implicitDefEqProofs (disch := omega) only [go_sem, g0, g1, g2, g3, g4]
    refine SoP.set h9 (i := J) (by omega) fun w3 h10 => ?_
    have h10' : St w0 (SoP g o n c (swp d1 I J) * F) w3 := h10
    have hj1 : (J : Int) - 1 = ((J - 1 : Nat) : Int) := by omega
    simp -dsimp -implicitDefEqProofs (disch := omega) only [go_sem, g0, g1, g2, g3, g4, e10, e11, hj1]
    exact ⟨⟨I + 1, J - 1, swp d1 I J, by omega, by omega, by omega, by omega, rfl, hp, h10'⟩, by omega⟩
end
section
attribute [local go_sem] F85.t4_eq F85.t6_eq F85.t14_eq F85.t16_eq F85.t18_eq F85.t17_eq F85.t15_eq F85.t21_eq F85.t7_eq F85.t5_eq
theorem partition_any {w0 w : World} {F : HP} {g o n c a b p : Nat} {d : Array Int} (h : St w0 (SoP g o n c d * F) w) (hb : b ≤ n) (hap : a ≤ p) (hpb : p < b) (hn : n < 2305843009213693951) :
    Calls Try.prog 85 #[soV g o n c, .int .i64 a, .int .i64 b, .int .i64 p] w fun e w' => St w0 (SoP g o n c (Sort.partition ltInt d a b p).2.2 * F) w' ∧ e = .returned (.tuple #[.int .i64 (Sort.partition ltInt d a b p).1, .bool (Sort.partition ltInt d a b p).2.1]) := by
  refine F85.calls (by simp) ?_
  unfold F85.code
  have h2 := h.drew
  have ci := SoP.get h2 (i := a) (by omega)
  have cj := SoP.get h2 (i := p) (by omega)
  simp -dsimp -implicitDefEqProofs (disch := omega) only [go_sem, ci, cj]
  refine SoP.set h2 (i := a) (by omega) fun w2 h3 => ?_
  simp -dsimp -implicitDefEqProofs (disch := omega) only [go_sem]
  refine SoP.set h3 (i := p) (by omega) fun w3 h4 => ?_
  have h4' : St w0 (SoP g o n c (swp d a p) * F) w3 := h4
  have ha1 : (a : Int) + 1 = ((a + 1 : Nat) : Int) := by omega
  have hb1 : (b : Int) - 1 = ((b - 1 : Nat) : Int) := by omega
  simp -dsimp -implicitDefEqProofs (disch := omega) only [go_sem, ha1, hb1]
  unfold Sort.partition
  simp only
  generalize swp d a p = d1 at h4'
  refine up85a (a := a) (i := a + 1) (j := b - 1) h4' (by omega) (by omega) (by omega) (by omega) hn (by simp -dsimp -implicitDefEqProofs only [go_sem]) (by simp -dsimp -implicitDefEqProofs only [go_sem]) (by simp -dsimp -implicitDefEqProofs only [go_sem]) (by simp -dsimp -implicitDefEqProofs only [go_sem]) (by simp -dsimp -implicitDefEqProofs only [go_sem]) ?_
  intro e' w5 f0 f1 f2 f3 f4 h6
  have hup := scanUp_spec (fun x => ltInt x d1[a]!) d1 (b - 1) _ (a + 1) rfl
  generalize hI : scanUp (fun x => ltInt x d1[a]!) d1 (b - 1) (a + 1) = I at f4 hup
  simp -dsimp -implicitDefEqProofs (disch := omega) only [go_sem, f0, f1, f2, f3, f4]
  refine down85a (a := a) (i := I) (j := b - 1) h6 (by omega) (by omega) (by omega) (by omega) hn f0 f1 f2 f4 f3 ?_
  intro e'' w6 g0 g1 g2 g3 g4 h7
  have hdn := scanDown_le (fun x => !ltInt x d1[a]!) d1 I (b - 1)
  generalize hJ : scanDown (fun x => !ltInt x d1[a]!) d1 I (b - 1) = J at g4 hdn
  by_cases hgt : (J : Int) < I
  · have hgt' : I > J := by omega
    have h8 := h7.drew
    have ci := SoP.get h8 (i := J) (by omega)
    have cj := SoP.get h8 (i := a) (by omega)
    simp -dsimp -implicitDefEqProofs (disch := omega) only [go_sem, g0, g1, g2, g3, g4, hgt, ci, cj]
    refine SoP.set h8 (i := J) (by omega) fun w2 h9 => ?_
    simp -dsimp -implicitDefEqProofs (disch := omega) only [go_sem, g0, g1, g2, g3, g4]
    refine SoP.set h9 (i := a) (by omega) fun w3 h10 => ?_
    have h10' : St w0 (SoP g o n c (swp d1 J a) * F) w3 := h10
    simp -dsimp -implicitDefEqProofs (disch := omega) only [go_sem, g0, g1, g2, g3, g4]
    rw [if_pos hgt']
    exact ⟨h10', rfl⟩
  · have hle : ¬ I > J := by omega
    simp -dsimp -implicitDefEqProofs (disch := omega) only [go_sem, g0, g1, g2, g3, g4, hgt]
    rw [if_neg hle]
    exact part10 (a := a) (i := I) (j := J) h7 (by omega) (by omega) (by omega) (by omega) hn rfl rfl (by simp -dsimp -implicitDefEqProofs only [go_sem, g0]) (by simp -dsimp -implicitDefEqProofs only [go_sem, g1]) (by simp -dsimp -implicitDefEqProofs only [go_sem, g2]) (by simp -dsimp -implicitDefEqProofs only [go_sem, g3]) (by simp -dsimp -implicitDefEqProofs only [go_sem, g4])
end
section
attribute [local go_sem] F84.t4_eq F84.t6_eq F84.t8_eq F84.t7_eq F84.t5_eq F84.t11_eq
theorem partEq_any {w0 w : World} {F : HP} {g o n c a b p : Nat} {d : Array Int} (h : St w0 (SoP g o n c d * F) w) (hb : b ≤ n) (hap : a ≤ p) (hpb : p < b) (hn : n < 2305843009213693951) :
    Calls Try.prog 84 #[soV g o n c, .int .i64 a, .int .i64 b, .int .i64 p] w fun e w' => St w0 (SoP g o n c (partitionEqual ltInt d a b p).2 * F) w' ∧ e = .returned (.int .i64 (partitionEqual ltInt d a b p).1) := by
  refine F84.calls (by simp) ?_
  unfold F84.code
  have h2 := h.drew
  have ci := SoP.get h2 (i := a) (by omega)
  have cj := SoP.get h2 (i := p) (by omega)
  simp -dsimp -implicitDefEqProofs (disch := omega) only [go_sem, ci, cj]
  refine SoP.set h2 (i := a) (by omega) fun w2 h3 => ?_
  simp -dsimp -implicitDefEqProofs (disch := omega) only [go_sem]
  refine SoP.set h3 (i := p) (by omega) fun w3 h4 => ?_
  have h4' : St w0 (SoP g o n c (swp d a p) * F) w3 := h4
  have ha1 : (a : Int) + 1 = ((a + 1 : Nat) : Int) := by omega
  have hb1 : (b : Int) - 1 = ((b - 1 : Nat) : Int) := by omega
  simp -dsimp -implicitDefEqProofs (disch := omega) only [go_sem, ha1, hb1]
  unfold partitionEqual
  generalize hR : partEqLoop ltInt a (a + 1) (b - 1) (swp d a p) = R
  refine loop_intro (fun e w' => e.ds = [] ∧ e.ρ 0 = soV g o n c ∧ e.ρ 1 = .int .i64 a ∧ ∃ (i j : Nat) (d' : Array Int), 1 ≤ i ∧ i ≤ n + 1 ∧ j < n ∧ e.ρ 9 = .int .i64 i ∧ e.ρ 10 = .int .i64 j ∧ partEqLoop ltInt a i j d' = R ∧ St w0 (SoP g o n c d' * F) w')
    (fun e _ => match e.ρ 9, e.ρ 10 with | .int _ i, .int _ j => (j + 1 - i).toNat | _, _ => 0) ?_ ?_
  · exact ⟨rfl, by simp -dsimp -implicitDefEqProofs only [go_sem], by simp -dsimp -implicitDefEqProofs only [go_sem], a + 1, b - 1, swp d a p, by omega, by omega, by omega, by simp -dsimp -implicitDefEqProofs only [go_sem], by simp -dsimp -implicitDefEqProofs only [go_sem], hR, h4'⟩
  rintro e w4 ⟨hd, e0, e1, i, j, d1, hi, hin, hj, e9, e10, hp, h5⟩
  have ha : a < n := by omega
  simp -dsimp -implicitDefEqProofs (disch := omega) only [go_sem, hd, e0, e1, e9, e10]
  refine up84 (i := i) (j := j) h5 ha hj hi hin hn hd e0 e1 e9 e10 ?_
  intro e' w5 f0 f1 f2 f3 f4 h6
  have hup := scanUp_spec (fun x => !ltInt d1[a]! x) d1 j _ i rfl
  have htop := scanUp_top (p := fun x => !ltInt d1[a]! x) (d := d1) hin hj
  rw [partEqLoop_eq] at hp
  generalize hI : scanUp (fun x => !ltInt d1[a]! x) d1 j i = I at f4 hup hp htop
  simp -dsimp -implicitDefEqProofs (disch := omega) only [go_sem, f0, f1, f2, f3, f4]
  refine down84 (i := I) (j := j) h6 ha hj (by omega) (by omega) hn f0 f1 f2 f4 f3 ?_
  intro e'' w6 g0 g1 g2 g3 g4 h7
  have hdn := scanDown_le (fun x => ltInt d1[a]! x) d1 I j
  generalize hJ : scanDown (fun x => ltInt d1[a]! x) d1 I j = J at g4 hdn hp
  by_cases hgt : (J : Int) < I
  · have hgt' : I > J := by omega
    rw [if_pos hgt'] at hp
    simp -dsimp -implicitDefEqProofs (disch := omega) only [go_sem, g0, g1, g2, g3, g4, hgt]
    subst hp
    exact ⟨h7, rfl⟩
  · have hle : ¬ I > J := by omega
    rw [if_neg hle] at hp
    have h8 := h7.drew
    have ci := SoP.get h8 (i := I) (by omega)
    have cj := SoP.get h8 (i := J) (by omega)
    simp -dsimp -implicitDefEqProofs (disch := omega) only [go_sem, g0, g1, g2, g3, g4, hgt, ci, cj]
    refine SoP.set h8 (i := I) (by omega) fun w2 h9 => ?_
    simp -dsimp -implicitDefEqProofs (disch := omega) only [go_sem, g0, g1, g2, g3, g4]
    refine SoP.set h9 (i := J) (by omega) fun w3 h10 => ?_
    have h10' : St w0 (SoP g o n c (swp d1 I J) * F) w3 := h10
    have hj1 : (J : Int) - 1 = ((J - 1 : Nat) : Int) := by omega
    simp -dsimp -implicitDefEqProofs (disch := omega) only [go_sem, g0, g1, g2, g3, g4, e9, e10, hj1]
    exact ⟨⟨I + 1, J - 1, swp d1 I J, by omega, by omega, by omega, by omega, rfl, hp, h10'⟩, by omega⟩
end
end Go.Proofs.Ytljndiligbaljaa
namespace Go.Proofs.Ytljndiligbaljaa
open Go Go.Sort
set_option linter.unusedSimpArgs false
set_option linter.unusedVariables false
set_option maxRecDepth 100000
def hintI : Hint → Int
  | .unknown => 0
  | .increasing => 1
  | .decreasing => 2
section
attribute [local go_sem] F80.t11_eq F80.t12_eq
theorem pivot12 {w0 w : World} {F : HP} {g o n c p s k : Nat} {d : Array Int} {R : Nat × Hint} {e : FA} (h : St w0 (SwP k s * (SoP g o n c d * F)) w) (hR : R = (p, if s = 0 then Hint.increasing else if s = 12 then .decreasing else .unknown))
    (hd : e.ds = []) (e9 : e.ρ 9 = .pointer (some ⟨k, 0, none⟩)) (e11 : e.ρ 11 = .int .i64 p) :
    cwE Try.prog F80.t12 (fnP Try.prog #[.tmp 6, .tmp 7] fun e w' => St w0 (SoP g o n c d * F) w' ∧ e = .returned (.tuple #[.int .i64 R.1, .int .i64 (hintI R.2)])) e w := by
  have h1 : St w0 (Blk k (.cells #[.int .i64 s] 3 (0, 0)) * (SoP g o n c d * F)) w := h
  have hk := h1.cl k
  subst hR
  rw [F80.t12_eq]
  by_cases h0 : (s : Int) = 0
  · have h0' : s = 0 := by omega
    subst h0'
    simp -dsimp -implicitDefEqProofs (disch := omega) only [go_sem, hd, e9, e11, hk]
    exact ⟨h1.right, rfl⟩
  · have h0' : s ≠ 0 := by omega
    by_cases h12 : (s : Int) = 12
    · have h12' : s = 12 := by omega
      subst h12'
      simp -dsimp -implicitDefEqProofs (disch := omega) only [go_sem, hd, e9, e11, hk]
      exact ⟨h1.right, rfl⟩
    · have h12' : s ≠ 12 := by omega
      simp -dsimp -implicitDefEqProofs (disch := omega) only [go_sem, hd, e9, e11, hk, h0, h12]
      rw [if_neg h0', if_neg h12']
      exact ⟨h1.right, rfl⟩
theorem choosePivot_lo {lt : Int → Int → Bool} {d : Array Int} {a b : Nat} (h : ¬ b - a ≥ 8) : choosePivot lt d a b = (a + (b - a) / 4 * 2, .increasing) := by
  unfold choosePivot
  simp only [if_neg h, if_true]
theorem choosePivot_mid {lt : Int → Int → Bool} {d : Array Int} {a b : Nat} (h : b - a ≥ 8) (h5 : ¬ b - a ≥ 50) :
    choosePivot lt d a b = ((median lt d (a + (b - a) / 4) (a + (b - a) / 4 * 2) (a + (b - a) / 4 * 3) 0).1, if (median lt d (a + (b - a) / 4) (a + (b - a) / 4 * 2) (a + (b - a) / 4 * 3) 0).2 = 0 then .increasing else if (median lt d (a + (b - a) / 4) (a + (b - a) / 4 * 2) (a + (b - a) / 4 * 3) 0).2 = 12 then .decreasing else .unknown) := by
  unfold choosePivot
  simp only [if_pos h, if_neg h5, Nat.mul_one]
theorem choosePivot_hi {lt : Int → Int → Bool} {d : Array Int} {a b : Nat} {ri rj rk r : Nat × Nat} (h : b - a ≥ 8) (h5 : b - a ≥ 50)
    (e1 : medianAdjacent lt d (a + (b - a) / 4) 0 = ri) (e2 : medianAdjacent lt d (a + (b - a) / 4 * 2) ri.2 = rj) (e3 : medianAdjacent lt d (a + (b - a) / 4 * 3) rj.2 = rk) (e4 : median lt d ri.1 rj.1 rk.1 rk.2 = r) :
    choosePivot lt d a b = (r.1, if r.2 = 0 then .increasing else if r.2 = 12 then .decreasing else .unknown) := by
  unfold choosePivot
  simp only [if_pos h, if_pos h5, Nat.mul_one, e1, e2, e3, e4]
end
section
attribute [local go_sem] F80.t11_eq
theorem pivot_any {w0 w : World} {F : HP} {g o n c a b : Nat} {d : Array Int} (h : St w0 (SoP g o n c d * F) w) (hb : b ≤ n) (hab : a < b) (hn : n < 2305843009213693951) :
    Calls Try.prog 80 #[soV g o n c, .int .i64 a, .int .i64 b] w fun e w' => St w0 (SoP g o n c d * F) w' ∧ e = .returned (.tuple #[.int .i64 (choosePivot ltInt d a b).1, .int .i64 (hintI (choosePivot ltInt d a b).2)]) := by
  refine F80.calls (by simp) ?_
  unfold F80.code
  have i1 : (b : Int) - a = ((b - a : Nat) : Int) := by omega
  have i2 : ((b - a : Nat) : Int).tdiv 4 = (((b - a) / 4 : Nat) : Int) := rfl
  have j2 : (((b - a) / 4 : Nat) : Int) * 2 = (((b - a) / 4 * 2 : Nat) : Int) := by omega
  have j3 : (((b - a) / 4 : Nat) : Int) * 3 = (((b - a) / 4 * 3 : Nat) : Int) := by omega
  have k1 : (a : Int) + (((b - a) / 4 : Nat) : Int) = ((a + (b - a) / 4 : Nat) : Int) := by omega
  have k2 : (a : Int) + (((b - a) / 4 * 2 : Nat) : Int) = ((a + (b - a) / 4 * 2 : Nat) : Int) := by omega
  have k3 : (a : Int) + (((b - a) / 4 * 3 : Nat) : Int) = ((a + (b - a) / 4 * 3 : Nat) : Int) := by omega
  simp -dsimp -implicitDefEqProofs (disch := omega) only [go_sem, i1]
  refine h.new fun k w1 h1 => ?_
  have h1' : St w0 (SwP k 0 * (SoP g o n c d * F)) w1 := h1
  by_cases h8 : (8 : Int) ≤ ((b - a : Nat) : Int)
  case neg =>
    have h8' : ¬ b - a ≥ 8 := by omega
    simp -dsimp -implicitDefEqProofs (disch := omega) only [go_sem, Int.mul_one, i1, i2, j2, j3, k1, k2, k3, h8]
    exact pivot12 (p := a + (b - a) / 4 * 2) (s := 0) h1' (choosePivot_lo h8') (by simp -dsimp -implicitDefEqProofs only [go_sem]) (by simp -dsimp -implicitDefEqProofs only [go_sem]) (by simp -dsimp -implicitDefEqProofs only [go_sem])
  have h8' : b - a ≥ 8 := by omega
  by_cases h50 : (50 : Int) ≤ ((b - a : Nat) : Int)
  case neg =>
    have h50' : ¬ b - a ≥ 50 := by omega
    simp -dsimp -implicitDefEqProofs (disch := omega) only [go_sem, Int.mul_one, i1, i2, j2, j3, k1, k2, k3, h8, h50]
    refine (median_any (a := a + (b - a) / 4) (b := a + (b - a) / 4 * 2) (e := a + (b - a) / 4 * 3) h1' (by omega) (by omega) (by omega) (by omega)).mono ?_
    rintro e' w2 ⟨h2, rfl⟩
    have hmid := choosePivot_mid (lt := ltInt) (d := d) h8' h50'
    obtain ⟨mm, hmm⟩ : ∃ mm, median ltInt d (a + (b - a) / 4) (a + (b - a) / 4 * 2) (a + (b - a) / 4 * 3) 0 = mm := ⟨_, rfl⟩
    rw [hmm] at h2 hmid
    obtain ⟨RR, hRR⟩ : ∃ RR, choosePivot ltInt d a b = RR := ⟨_, rfl⟩
    rw [hRR] at hmid
    rw [hmm, hRR]
    simp -dsimp -implicitDefEqProofs (disch := omega) only [go_sem]
    exact pivot12 (R := RR) (k := k) (d := d) (p := mm.1) (s := mm.2) h2 hmid (by simp -dsimp -implicitDefEqProofs only [go_sem]) (by simp -dsimp -implicitDefEqProofs only [go_sem]) (by simp -dsimp -implicitDefEqProofs only [go_sem])
  have h50' : b - a ≥ 50 := by omega
  simp -dsimp -implicitDefEqProofs (disch := omega) only [go_sem, Int.mul_one, i1, i2, j2, j3, k1, k2, k3, h8, h50]
  refine (medianAdj_any (a := a + (b - a) / 4) h1' (by omega) (by omega) (by omega) hn).mono ?_
  rintro e' w2 ⟨h2, rfl⟩
  have m1 : (medianAdjacent ltInt d (a + (b - a) / 4) 0).1 < n ∧ (medianAdjacent ltInt d (a + (b - a) / 4) 0).2 ≤ 0 + 3 := median_lt (by omega) (by omega) (by omega)
  obtain ⟨r1, hr1⟩ : ∃ r, medianAdjacent ltInt d (a + (b - a) / 4) 0 = r := ⟨_, rfl⟩
  rw [hr1] at h2 m1
  rw [hr1]
  simp -dsimp -implicitDefEqProofs (disch := omega) only [go_sem]
  refine (medianAdj_any (a := a + (b - a) / 4 * 2) h2 (by omega) (by omega) (by omega) hn).mono ?_
  rintro e' w3 ⟨h3, rfl⟩
  have m2 : (medianAdjacent ltInt d (a + (b - a) / 4 * 2) r1.2).1 < n ∧ (medianAdjacent ltInt d (a + (b - a) / 4 * 2) r1.2).2 ≤ r1.2 + 3 := median_lt (by omega) (by omega) (by omega)
  obtain ⟨r2, hr2⟩ : ∃ r, medianAdjacent ltInt d (a + (b - a) / 4 * 2) r1.2 = r := ⟨_, rfl⟩
  rw [hr2] at h3 m2
  rw [hr2]
  simp -dsimp -implicitDefEqProofs (disch := omega) only [go_sem]
  refine (medianAdj_any (a := a + (b - a) / 4 * 3) h3 (by omega) (by omega) (by omega) hn).mono ?_
  rintro e' w4 ⟨h4, rfl⟩
  have m3 : (medianAdjacent ltInt d (a + (b - a) / 4 * 3) r2.2).1 < n ∧ (medianAdjacent ltInt d (a + (b - a) / 4 * 3) r2.2).2 ≤ r2.2 + 3 := median_lt (by omega) (by omega) (by omega)
  obtain ⟨r3, hr3⟩ : ∃ r, medianAdjacent ltInt d (a + (b - a) / 4 * 3) r2.2 = r := ⟨_, rfl⟩
  rw [hr3] at h4 m3
  rw [hr3]
  simp -dsimp -implicitDefEqProofs (disch := omega) only [go_sem]
  refine (median_any h4 m1.1 m2.1 m3.1 (by omega)).mono ?_
  rintro e' w5 ⟨h5, rfl⟩
  have hhi := choosePivot_hi (lt := ltInt) (d := d) h8' h50' hr1 hr2 hr3 rfl
  obtain ⟨mm, hmm⟩ : ∃ mm, median ltInt d r1.1 r2.1 r3.1 r3.2 = mm := ⟨_, rfl⟩
  rw [hmm] at h5 hhi
  obtain ⟨RR, hRR⟩ : ∃ RR, choosePivot ltInt d a b = RR := ⟨_, rfl⟩
  rw [hRR] at hhi
  rw [hmm, hRR]
  simp -dsimp -implicitDefEqProofs (disch := omega) only [go_sem]
  exact pivot12 (R := RR) (k := k) (d := d) (p := mm.1) (s := mm.2) h5 hhi (by simp -dsimp -implicitDefEqProofs only [go_sem]) (by simp -dsimp -implicitDefEqProofs only [go_sem]) (by simp -dsimp -implicitDefEqProofs only [go_sem])
theorem scanSorted_go {lt : Int → Int → Bool} {b i : Nat} {d : Array Int} (h : i < b) (hl : lt d[i]! d[i - 1]! = false) : scanSorted lt d b i = scanSorted lt d b (i + 1) := by rw [scanSorted, if_pos (by simp [h, hl])]
theorem scanSorted_no {lt : Int → Int → Bool} {b i : Nat} {d : Array Int} (h : i < b → lt d[i]! d[i - 1]! = true) : scanSorted lt d b i = i := by
  rw [scanSorted, if_neg (by simp only [Bool.and_eq_true, decide_eq_true_eq, Bool.not_eq_true', not_and, Bool.not_eq_false]; exact h)]
theorem shiftDown_go {lt : Int → Int → Bool} {j : Nat} {d : Array Int} (hl : lt d[j + 1]! d[j]! = true) : shiftDown lt (j + 1) d = shiftDown lt j (swp d (j + 1) j) := by rw [shiftDown, if_neg (by simp [hl])]
theorem shiftDown_no {lt : Int → Int → Bool} {j : Nat} {d : Array Int} (hl : lt d[j + 1]! d[j]! = false) : shiftDown lt (j + 1) d = d := by rw [shiftDown, if_pos (by simp [hl])]
theorem shiftUp_go {lt : Int → Int → Bool} {b j : Nat} {d : Array Int} (h : j < b) (hl : lt d[j]! d[j - 1]! = true) : shiftUp lt b j d = shiftUp lt b (j + 1) (swp d j (j - 1)) := by rw [shiftUp, if_pos h, if_neg (by simp [hl])]
theorem shiftUp_no {lt : Int → Int → Bool} {b j : Nat} {d : Array Int} (hl : j < b → lt d[j]! d[j - 1]! = false) : shiftUp lt b j d = d := by
  rw [shiftUp]
  split
  · rename_i h; rw [if_pos (by simp [hl h])]
  · rfl
end
section
attribute [local go_sem] F82.t6_eq F82.t17_eq F82.t15_eq F82.t16_eq F82.t23_eq F82.t21_eq F82.t22_eq F82.t18_eq F82.t11_eq F82.t9_eq F82.t7_eq F82.t4_eq F82.t5_eq F82.t24_eq
theorem ins18 {w0 w : World} {F : HP} {g o n c a b i j : Nat} {d D : Array Int} {Q : Post} {e : FA} {θ : Tag (F82.t18, Q, e, w)} (h : St w0 (SoP g o n c d * F) w) (hb : b ≤ n) (hi : 1 ≤ i) (hib : i < b) (hn : n < 2305843009213693951) (hD : (if b - i ≥ 2 then shiftUp ltInt b (i + 1) d else d) = D)
    (hd : e.ds = []) (e0 : e.ρ 0 = soV g o n c) (e1 : e.ρ 1 = .int .i64 a) (e2 : e.ρ 2 = .int .i64 b) (e7 : e.ρ 7 = .int .i64 i) (e8 : e.ρ 8 = .int .i64 j)
    (hQ : ∀ (e' : FA) (w' : World), e'.ds = [] → e'.ρ 0 = soV g o n c → e'.ρ 1 = .int .i64 a → e'.ρ 2 = .int .i64 b → e'.ρ 7 = .int .i64 i → e'.ρ 8 = .int .i64 j → St w0 (SoP g o n c D * F) w' → Q .normal e' w') :
    cwE Try.prog F82.t18 Q e w θ := by
  rw [F82.t18_eq]
  have i1 : (b : Int) - i = ((b - i : Nat) : Int) := by omega
  by_cases h2 : (2 : Int) ≤ ((b - i : Nat) : Int)
  case neg =>
    rw [if_neg (by omega)] at hD
    subst hD
    simp -dsimp -implicitDefEqProofs (disch := omega) only [go_sem, hd, e0, e1, e2, e7, e8, i1, h2]
    exact hQ _ _ (by simp -dsimp -implicitDefEqProofs only [go_sem, hd]) (by simp -dsimp -implicitDefEqProofs only [go_sem, e0]) (by simp -dsimp -implicitDefEqProofs only [go_sem, e1]) (by simp -dsimp -implicitDefEqProofs only [go_sem, e2]) (by simp -dsimp -implicitDefEqProofs only [go_sem, e7]) (by simp -dsimp -implicitDefEqProofs only [go_sem, e8]) h
  rw [if_pos (by omega)] at hD
  simp -dsimp -implicitDefEqProofs (disch := omega) only [go_sem, hd, e0, e1, e2, e7, e8, i1, h2]
  refine loop_intro (fun e w' => e.ds = [] ∧ e.ρ 0 = soV g o n c ∧ e.ρ 1 = .int .i64 a ∧ e.ρ 2 = .int .i64 b ∧ e.ρ 7 = .int .i64 i ∧ e.ρ 8 = .int .i64 j ∧ ∃ (k : Nat) (d' : Array Int), 1 ≤ k ∧ k ≤ b ∧ e.ρ 10 = .int .i64 k ∧ shiftUp ltInt b k d' = D ∧ St w0 (SoP g o n c d' * F) w')
    (fun e _ => match e.ρ 10 with | .int _ k => (b - k).toNat | _ => 0) ?_ ?_
  · exact ⟨by simp -dsimp -implicitDefEqProofs only [go_sem, hd], by simp -dsimp -implicitDefEqProofs only [go_sem, e0], by simp -dsimp -implicitDefEqProofs only [go_sem, e1], by simp -dsimp -implicitDefEqProofs only [go_sem, e2], by simp -dsimp -implicitDefEqProofs only [go_sem, e7], by simp -dsimp -implicitDefEqProofs only [go_sem, e8], i + 1, d, by omega, by omega, by simp -dsimp -implicitDefEqProofs only [go_sem]; omega, hD, h⟩
  clear hd e0 e1 e2 e7 e8 h
  rintro e w1 ⟨hd, e0, e1, e2, e7, e8, k, d1, hk1, hkb, e10, hs, h1⟩
  by_cases hlt : (k : Int) < b
  case neg =>
    rw [shiftUp_no (fun hx => by omega)] at hs
    subst hs
    simp -dsimp -implicitDefEqProofs (disch := omega) only [go_sem, hd, e0, e1, e2, e7, e8, e10, hlt]
    exact hQ _ _ (by simp -dsimp -implicitDefEqProofs only [go_sem, hd]) (by simp -dsimp -implicitDefEqProofs only [go_sem, e0]) (by simp -dsimp -implicitDefEqProofs only [go_sem, e1]) (by simp -dsimp -implicitDefEqProofs only [go_sem, e2]) (by simp -dsimp -implicitDefEqProofs only [go_sem, e7]) (by simp -dsimp -implicitDefEqProofs only [go_sem, e8]) h1
  have h3 := h1.drew
  have ck := SoP.get h3 (i := k) (by omega)
  have cp := SoP.get h3 (i := k - 1) (by omega)
  have hk0 : (k : Int) - 1 = ((k - 1 : Nat) : Int) := by omega
  simp -dsimp -implicitDefEqProofs (disch := omega) only [go_sem, hd, e0, e1, e2, e7, e8, e10, hlt, hk0, ck, cp]
  refine (lessW_any h3).mono ?_
  rintro e' w3 ⟨h4, rfl⟩
  cases hl : ltInt d1[k]! d1[k - 1]!
  · rw [shiftUp_no (fun _ => hl)] at hs
    subst hs
    simp -dsimp -implicitDefEqProofs (disch := omega) only [go_sem, hd, e0, e1, e2, e7, e8, e10]
    exact hQ _ _ (by simp -dsimp -implicitDefEqProofs only [go_sem, hd]) (by simp -dsimp -implicitDefEqProofs only [go_sem, e0]) (by simp -dsimp -implicitDefEqProofs only [go_sem, e1]) (by simp -dsimp -implicitDefEqProofs only [go_sem, e2]) (by simp -dsimp -implicitDefEqProofs only [go_sem, e7]) (by simp -dsimp -implicitDefEqProofs only [go_sem, e8]) h4
  · have h5 := h4.drew
    have ck := SoP.get h5 (i := k) (by omega)
    have cp := SoP.get h5 (i := k - 1) (by omega)
    simp -dsimp -implicitDefEqProofs (disch := omega) only [go_sem, hd, e0, e1, e2, e7, e8, e10, hk0, ck, cp]
    refine SoP.set h5 (i := k) (by omega) fun w4 h6 => ?_
    simp -dsimp -implicitDefEqProofs (disch := omega) only [go_sem, hd, e0, e1, e2, e7, e8, e10, hk0]
    refine SoP.set h6 (i := k - 1) (by omega) fun w5 h7 => ?_
    have h7' : St w0 (SoP g o n c (swp d1 k (k - 1)) * F) w5 := h7
    rw [shiftUp_go (by omega) hl] at hs
    simp -dsimp -implicitDefEqProofs (disch := omega) only [go_sem, hd, e0, e1, e2, e7, e8, e10]
    exact ⟨⟨k + 1, _, by omega, by omega, by omega, hs, h7'⟩, by omega⟩
end
section
attribute [local go_sem] F82.t6_eq F82.t17_eq F82.t15_eq F82.t16_eq F82.t23_eq F82.t21_eq F82.t22_eq F82.t11_eq F82.t9_eq F82.t7_eq F82.t4_eq F82.t5_eq F82.t24_eq
theorem ins11 {w0 w : World} {F : HP} {g o n c a b i j : Nat} {d D : Array Int} {Q : Post} {e : FA} {θ : Tag (F82.t11, Q, e, w)} (h : St w0 (SoP g o n c d * F) w) (hb : b ≤ n) (hai : a < i) (hib : i < b) (hn : n < 2305843009213693951)
    (hD : (if b - i ≥ 2 then shiftUp ltInt b (i + 1) (if i - a ≥ 2 then shiftDown ltInt (i - 1) (swp d i (i - 1)) else swp d i (i - 1)) else (if i - a ≥ 2 then shiftDown ltInt (i - 1) (swp d i (i - 1)) else swp d i (i - 1))) = D)
    (hd : e.ds = []) (e0 : e.ρ 0 = soV g o n c) (e1 : e.ρ 1 = .int .i64 a) (e2 : e.ρ 2 = .int .i64 b) (e7 : e.ρ 7 = .int .i64 i) (e8 : e.ρ 8 = .int .i64 j)
    (hQ : ∀ (e' : FA) (w' : World), e'.ds = [] → e'.ρ 0 = soV g o n c → e'.ρ 1 = .int .i64 a → e'.ρ 2 = .int .i64 b → e'.ρ 7 = .int .i64 i → e'.ρ 8 = .int .i64 j → St w0 (SoP g o n c D * F) w' → Q .normal e' w') :
    cwE Try.prog F82.t11 Q e w θ := by
  rw [F82.t11_eq]
  have h3 := h.drew
  have ck := SoP.get h3 (i := i) (by omega)
  have cp := SoP.get h3 (i := i - 1) (by omega)
  have hi0 : (i : Int) - 1 = ((i - 1 : Nat) : Int) := by omega
  have hia : (i : Int) - a = ((i - a : Nat) : Int) := by omega
  simp -dsimp -implicitDefEqProofs (disch := omega) only [go_sem, hd, e0, e1, e2, e7, e8, hi0, ck, cp]
  refine SoP.set h3 (i := i) (by omega) fun w4 h6 => ?_
  simp -dsimp -implicitDefEqProofs (disch := omega) only [go_sem, hd, e0, e1, e2, e7, e8, hi0]
  refine SoP.set h6 (i := i - 1) (by omega) fun w5 h7 => ?_
  have h7' : St w0 (SoP g o n c (swp d i (i - 1)) * F) w5 := h7
  generalize swp d i (i - 1) = d1 at h7' hD
  by_cases h2 : (2 : Int) ≤ ((i - a : Nat) : Int)
  case neg =>
    rw [if_neg (show ¬ i - a ≥ 2 by omega)] at hD
    simp -dsimp -implicitDefEqProofs (disch := omega) only [go_sem, hd, e0, e1, e2, e7, e8, hia, h2]
    exact ins18 h7' hb (by omega) hib hn hD (by simp -dsimp -implicitDefEqProofs only [go_sem, hd]) (by simp -dsimp -implicitDefEqProofs only [go_sem, e0]) (by simp -dsimp -implicitDefEqProofs only [go_sem, e1]) (by simp -dsimp -implicitDefEqProofs only [go_sem, e2]) (by simp -dsimp -implicitDefEqProofs only [go_sem, e7]) (by simp -dsimp -implicitDefEqProofs only [go_sem, e8]) hQ
  rw [if_pos (show i - a ≥ 2 by omega)] at hD
  simp -dsimp -implicitDefEqProofs (disch := omega) only [go_sem, hd, e0, e1, e2, e7, e8, hia, h2, hi0]
  generalize hE : shiftDown ltInt (i - 1) d1 = E at hD
  refine loop_intro (fun e w' => e.ds = [] ∧ e.ρ 0 = soV g o n c ∧ e.ρ 1 = .int .i64 a ∧ e.ρ 2 = .int .i64 b ∧ e.ρ 7 = .int .i64 i ∧ e.ρ 8 = .int .i64 j ∧ ∃ (k : Nat) (d' : Array Int), k < i ∧ e.ρ 9 = .int .i64 k ∧ shiftDown ltInt k d' = E ∧ St w0 (SoP g o n c d' * F) w')
    (fun e _ => match e.ρ 9 with | .int _ k => k.toNat | _ => 0) ?_ ?_
  · exact ⟨by simp -dsimp -implicitDefEqProofs only [go_sem, hd], by simp -dsimp -implicitDefEqProofs only [go_sem, e0], by simp -dsimp -implicitDefEqProofs only [go_sem, e1], by simp -dsimp -implicitDefEqProofs only [go_sem, e2], by simp -dsimp -implicitDefEqProofs only [go_sem, e7], by simp -dsimp -implicitDefEqProofs only [go_sem, e8], i - 1, d1, by omega, by simp -dsimp -implicitDefEqProofs only [go_sem], hE, h7'⟩
  clear hd e0 e1 e2 e7 e8 h h3 h6 h7 h7' ck cp
  rintro e w1 ⟨hd, e0, e1, e2, e7, e8, k, d2, hki, e9, hs, h1⟩
  by_cases hlt : (1 : Int) ≤ k
  case neg =>
    have : k = 0 := by omega
    subst this
    have hs' : d2 = E := hs
    subst hs'
    simp -dsimp -implicitDefEqProofs (disch := omega) only [go_sem, hd, e0, e1, e2, e7, e8, e9, hlt]
    exact ins18 h1 hb (by omega) hib hn hD (by simp -dsimp -implicitDefEqProofs only [go_sem, hd]) (by simp -dsimp -implicitDefEqProofs only [go_sem, e0]) (by simp -dsimp -implicitDefEqProofs only [go_sem, e1]) (by simp -dsimp -implicitDefEqProofs only [go_sem, e2]) (by simp -dsimp -implicitDefEqProofs only [go_sem, e7]) (by simp -dsimp -implicitDefEqProofs only [go_sem, e8]) hQ
  obtain ⟨m, rfl⟩ : ∃ m, k = m + 1 := ⟨k - 1, by omega⟩
  have h3 := h1.drew
  have ck := SoP.get h3 (i := m + 1) (by omega)
  have cp := SoP.get h3 (i := m) (by omega)
  have hk0 : ((m + 1 : Nat) : Int) - 1 = m := by omega
  simp -dsimp -implicitDefEqProofs (disch := omega) only [go_sem, hd, e0, e1, e2, e7, e8, e9, hlt, hk0, ck, cp]
  refine (lessW_any h3).mono ?_
  rintro e' w3 ⟨h4, rfl⟩
  cases hl : ltInt d2[m + 1]! d2[m]!
  · rw [shiftDown_no hl] at hs
    subst hs
    simp -dsimp -implicitDefEqProofs (disch := omega) only [go_sem, hd, e0, e1, e2, e7, e8, e9]
    exact ins18 h4 hb (by omega) hib hn hD (by simp -dsimp -implicitDefEqProofs only [go_sem, hd]) (by simp -dsimp -implicitDefEqProofs only [go_sem, e0]) (by simp -dsimp -implicitDefEqProofs only [go_sem, e1]) (by simp -dsimp -implicitDefEqProofs only [go_sem, e2]) (by simp -dsimp -implicitDefEqProofs only [go_sem, e7]) (by simp -dsimp -implicitDefEqProofs only [go_sem, e8]) hQ
  · have h5 := h4.drew
    have ck := SoP.get h5 (i := m + 1) (by omega)
    have cp := SoP.get h5 (i := m) (by omega)
    simp -dsimp -implicitDefEqProofs (disch := omega) only [go_sem, hd, e0, e1, e2, e7, e8, e9, hk0, ck, cp]
    refine SoP.set h5 (i := m + 1) (by omega) fun w4 h6 => ?_
    simp -dsimp -implicitDefEqProofs (disch := omega) only [go_sem, hd, e0, e1, e2, e7, e8, e9, hk0]
    refine SoP.set h6 (i := m) (by omega) fun w5 h7 => ?_
    have h7' : St w0 (SoP g o n c (swp d2 (m + 1) m) * F) w5 := h7
    rw [shiftDown_go hl] at hs
    simp -dsimp -implicitDefEqProofs (disch := omega) only [go_sem, hd, e0, e1, e2, e7, e8, e9, hk0]
    exact ⟨⟨m, _, by omega, rfl, hs, h7'⟩, by omega⟩
theorem partialIns_step {lt : Int → Int → Bool} {a b s i : Nat} {d : Array Int} : partialIns lt a b (s + 1) i d =
    (if scanSorted lt d b i = b then (d, true) else if b - a < 50 then (d, false) else
      partialIns lt a b s (scanSorted lt d b i) (if b - scanSorted lt d b i ≥ 2 then shiftUp lt b (scanSorted lt d b i + 1) (if scanSorted lt d b i - a ≥ 2 then shiftDown lt (scanSorted lt d b i - 1) (swp d (scanSorted lt d b i) (scanSorted lt d b i - 1)) else swp d (scanSorted lt d b i) (scanSorted lt d b i - 1)) else (if scanSorted lt d b i - a ≥ 2 then shiftDown lt (scanSorted lt d b i - 1) (swp d (scanSorted lt d b i) (scanSorted lt d b i - 1)) else swp d (scanSorted lt d b i) (scanSorted lt d b i - 1)))) := rfl
end
section
attribute [local go_sem] F82.t6_eq F82.t17_eq F82.t15_eq F82.t16_eq F82.t23_eq F82.t21_eq F82.t22_eq F82.t18_eq F82.t9_eq F82.t4_eq F82.t5_eq F82.t24_eq
theorem partial_any {w0 w : World} {F : HP} {g o n c a b : Nat} {d : Array Int} (h : St w0 (SoP g o n c d * F) w) (hb : b ≤ n) (hab : a < b) (hn : n < 2305843009213693951) :
    Calls Try.prog 82 #[soV g o n c, .int .i64 a, .int .i64 b] w fun e w' => St w0 (SoP g o n c (partialInsertionSort ltInt d a b).1 * F) w' ∧ e = .returned (.bool (partialInsertionSort ltInt d a b).2) := by
  refine F82.calls (by simp) ?_
  unfold F82.code
  unfold partialInsertionSort
  have i1 : (b : Int) - a = ((b - a : Nat) : Int) := by omega
  simp -dsimp -implicitDefEqProofs (disch := omega) only [go_sem]
  generalize hR : partialIns ltInt a b 5 (a + 1) d = R
  refine loop_intro (fun e w' => e.ds = [] ∧ e.ρ 0 = soV g o n c ∧ e.ρ 1 = .int .i64 a ∧ e.ρ 2 = .int .i64 b ∧ ∃ (s i j : Nat) (d' : Array Int), j + s = 5 ∧ a < i ∧ i ≤ b ∧ e.ρ 7 = .int .i64 i ∧ e.ρ 8 = .int .i64 j ∧ partialIns ltInt a b s i d' = R ∧ St w0 (SoP g o n c d' * F) w')
    (fun e _ => match e.ρ 8 with | .int _ k => (5 - k).toNat | _ => 0) ?_ ?_
  · exact ⟨rfl, by simp -dsimp -implicitDefEqProofs only [go_sem], by simp -dsimp -implicitDefEqProofs only [go_sem], by simp -dsimp -implicitDefEqProofs only [go_sem], 5, a + 1, 0, d, rfl, by omega, by omega, by simp -dsimp -implicitDefEqProofs only [go_sem]; omega, by simp -dsimp -implicitDefEqProofs only [go_sem], hR, h⟩
  rintro eo w1 ⟨hdo, e0o, e1o, e2o, s, i, j, d1, hsj, hai, hib, e7o, e8o, hp, h1⟩
  cases s with
  | zero =>
    have : j = 5 := by omega
    subst this
    have hp' : (d1, false) = R := hp
    subst hp'
    simp -dsimp -implicitDefEqProofs (disch := omega) only [go_sem, hdo, e0o, e1o, e2o, e7o, e8o]
    exact h1
  | succ s =>
    have hj5 : (j : Int) < 5 := by omega
    rw [partialIns_step] at hp
    simp -dsimp -implicitDefEqProofs (disch := omega) only [go_sem, hdo, e0o, e1o, e2o, e7o, e8o, hj5]
    refine loop_intro (fun e w' => e.ds = [] ∧ e.ρ 0 = soV g o n c ∧ e.ρ 1 = .int .i64 a ∧ e.ρ 2 = .int .i64 b ∧ e.ρ 8 = .int .i64 j ∧ ∃ k : Nat, a < k ∧ k ≤ b ∧ e.ρ 7 = .int .i64 k ∧ scanSorted ltInt d1 b k = scanSorted ltInt d1 b i ∧ St w0 (SoP g o n c d1 * F) w')
      (fun e _ => match e.ρ 7 with | .int _ k => (b - k).toNat | _ => 0) ?_ ?_
    · exact ⟨by simp -dsimp -implicitDefEqProofs only [go_sem, hdo], by simp -dsimp -implicitDefEqProofs only [go_sem, e0o], by simp -dsimp -implicitDefEqProofs only [go_sem, e1o], by simp -dsimp -implicitDefEqProofs only [go_sem, e2o], by simp -dsimp -implicitDefEqProofs only [go_sem, e8o], i, hai, hib, by simp -dsimp -implicitDefEqProofs only [go_sem, e7o], rfl, h1⟩
    rintro e w2 ⟨hd, e0, e1, e2, e8, k, hak, hkb, e7, hs, h2⟩
    have stop : ∀ {Q : Post} {e' : FA} {w' : World} {θ : Tag (F82.t7, Q, e', w')}, k = scanSorted ltInt d1 b i → e'.ds = [] → e'.ρ 0 = soV g o n c → e'.ρ 1 = .int .i64 a → e'.ρ 2 = .int .i64 b → e'.ρ 7 = .int .i64 k → e'.ρ 8 = .int .i64 j → St w0 (SoP g o n c d1 * F) w' →
        (∀ (e'' : FA) (w'' : World), e''.ds = [] → e''.ρ 6 = .bool R.2 → St w0 (SoP g o n c R.1 * F) w'' → Q .ret e'' w'') →
        (∀ (e'' : FA) (w'' : World) (d'' : Array Int), k < b → e''.ds = [] → e''.ρ 0 = soV g o n c → e''.ρ 1 = .int .i64 a → e''.ρ 2 = .int .i64 b → e''.ρ 7 = .int .i64 k → e''.ρ 8 = .int .i64 j → partialIns ltInt a b s k d'' = R → St w0 (SoP g o n c d'' * F) w'' → Q .normal e'' w'') → cwE Try.prog F82.t7 Q e' w' θ := by
      intro Q e' w' θ hk f0 f1 f2 f3 f4 f5 hw hr hq
      rw [← hk] at hp
      rw [F82.t7_eq]
      by_cases hkb' : (k : Int) = b
      · rw [if_pos (by omega)] at hp
        subst hp
        simp -dsimp -implicitDefEqProofs (disch := omega) only [go_sem, f0, f1, f2, f3, f4, f5, hkb']
        exact hr _ _ (by simp -dsimp -implicitDefEqProofs only [go_sem, f0]) (by simp -dsimp -implicitDefEqProofs only [go_sem]) hw
      rw [if_neg (by omega)] at hp
      by_cases h50 : ((b - a : Nat) : Int) < 50
      · rw [if_pos (by omega)] at hp
        subst hp
        simp -dsimp -implicitDefEqProofs (disch := omega) only [go_sem, f0, f1, f2, f3, f4, f5, hkb', i1, h50]
        exact hr _ _ (by simp -dsimp -implicitDefEqProofs only [go_sem, f0]) (by simp -dsimp -implicitDefEqProofs only [go_sem]) hw
      rw [if_neg (by omega)] at hp
      simp -dsimp -implicitDefEqProofs (disch := omega) only [go_sem, f0, f1, f2, f3, f4, f5, hkb', i1, h50]
      refine ins11 (a := a) (b := b) (i := k) (j := j) hw hb hak (by omega) hn rfl (by simp -dsimp -implicitDefEqProofs only [go_sem, f0]) (by simp -dsimp -implicitDefEqProofs only [go_sem, f1]) (by simp -dsimp -implicitDefEqProofs only [go_sem, f2]) (by simp -dsimp -implicitDefEqProofs only [go_sem, f3]) (by simp -dsimp -implicitDefEqProofs only [go_sem, f4]) (by simp -dsimp -implicitDefEqProofs only [go_sem, f5]) ?_
      intro e'' w'' g0 g1 g2 g3 g4 g5 h9
      exact hq _ _ _ (by omega) g0 g1 g2 g3 g4 g5 hp h9
    have fin : ∀ {e' : FA} {w' : World}, k = scanSorted ltInt d1 b i → True := fun _ => trivial
    by_cases hlt : (k : Int) < b
    case neg =>
      rw [scanSorted_no (fun hx => by omega)] at hs
      simp -dsimp -implicitDefEqProofs (disch := omega) only [go_sem, hd, e0, e1, e2, e7, e8, hlt]
      refine stop hs (by simp -dsimp -implicitDefEqProofs only [go_sem, hd]) (by simp -dsimp -implicitDefEqProofs only [go_sem, e0]) (by simp -dsimp -implicitDefEqProofs only [go_sem, e1]) (by simp -dsimp -implicitDefEqProofs only [go_sem, e2]) (by simp -dsimp -implicitDefEqProofs only [go_sem, e7]) (by simp -dsimp -implicitDefEqProofs only [go_sem, e8]) h2.drew ?_ ?_
      · intro e'' w'' f0 f6 h9
        simp -dsimp -implicitDefEqProofs (disch := omega) only [go_sem, f0, f6]
        exact h9
      · intro e'' w'' d'' hk f0 f1 f2 f3 f4 f5 hp' h9
        omega
    have h3 := h2.drew
    have ck := SoP.get h3 (i := k) (by omega)
    have cp := SoP.get h3 (i := k - 1) (by omega)
    have hk0 : (k : Int) - 1 = ((k - 1 : Nat) : Int) := by omega
    simp -dsimp -implicitDefEqProofs (disch := omega) only [go_sem, hd, e0, e1, e2, e7, e8, hlt, hk0, ck, cp]
    refine (lessW_any h3).mono ?_
    rintro e' w3 ⟨h4, rfl⟩
    cases hl : ltInt d1[k]! d1[k - 1]!
    · rw [scanSorted_go (by omega) hl] at hs
      simp -dsimp -implicitDefEqProofs (disch := omega) only [go_sem, hd, e0, e1, e2, e7, e8, hlt]
      exact ⟨⟨k + 1, by omega, by omega, by omega, hs, h4⟩, by omega⟩
    · rw [scanSorted_no (fun _ => hl)] at hs
      simp -dsimp -implicitDefEqProofs (disch := omega) only [go_sem, hd, e0, e1, e2, e7, e8, hlt]
      refine stop hs (by simp -dsimp -implicitDefEqProofs only [go_sem, hd]) (by simp -dsimp -implicitDefEqProofs only [go_sem, e0]) (by simp -dsimp -implicitDefEqProofs only [go_sem, e1]) (by simp -dsimp -implicitDefEqProofs only [go_sem, e2]) (by simp -dsimp -implicitDefEqProofs only [go_sem, e7]) (by simp -dsimp -implicitDefEqProofs only [go_sem, e8]) h4 ?_ ?_
      · intro e'' w'' f0 f6 h9
        simp -dsimp -implicitDefEqProofs (disch := omega) only [go_sem, f0, f6]
        exact h9
      · intro e'' w'' d'' hk f0 f1 f2 f3 f4 f5 hp' h9
        simp -dsimp -implicitDefEqProofs (disch := omega) only [go_sem, f0, f1, f2, f3, f4, f5, e8o]
        exact ⟨⟨s, k, j + 1, d'', by omega, hak, by omega, rfl, by omega, hp', h9⟩, by omega⟩
end
end Go.Proofs.Ytljndiligbaljaa
namespace Go.Proofs.Ytljndiligbaljaa
open Go.Shelf
set_option maxRecDepth 100000
def bitsLenL_ren : Go.Shelf.Ren := ⟨fun | 125 => 76 | 128 => 86 | 129 => 87 | n => n, fun | 46 => 112 | 3 => 3 | 51 => 35 | 53 => 37 | 4 => 4 | 5 => 5 | 9 => 9 | n => n, fun | n => n⟩
theorem bitsLenL : Go.Proofs.Lays.n125 Try.prog bitsLenL_ren := {
  mixed := by kernel_rfl,
  f125 := Try.func76.trans (congrArg some (by kernel_rfl)),
  f128 := Try.func86.trans (congrArg some (by kernel_rfl)),
  f129 := Try.func87.trans (congrArg some (by kernel_rfl)),
  t3 := Try.underlying3,
  a3 := Try.isAgg3,
  z3 := Try.sizeOf3,
  v3 := Try.zeroValue3,
  t4 := Try.underlying4,
  a4 := Try.isAgg4,
  z4 := Try.sizeOf4,
  v4 := Try.zeroValue4,
  t5 := Try.underlying5,
  a5 := Try.isAgg5,
  z5 := Try.sizeOf5,
  v5 := Try.zeroValue5,
  t9 := Try.underlying9,
  a9 := Try.isAgg9,
  z9 := Try.sizeOf9,
  v9 := Try.zeroValue9,
  t46 := Try.underlying112,
  a46 := Try.isAgg112,
  z46 := Try.sizeOf112,
  v46 := Try.zeroValue112,
  t51 := Try.underlying35,
  a51 := Try.isAgg35,
  z51 := Try.sizeOf35,
  v51 := Try.zeroValue35,
  t53 := Try.underlying37,
  a53 := Try.isAgg37,
  z53 := Try.sizeOf37,
  v53 := Try.zeroValue37 }
end Go.Proofs.Ytljndiligbaljaa
namespace Go.Proofs.Ytljndiligbaljaa
open Go Go.Sort
set_option linter.unusedSimpArgs false
set_option linter.unusedVariables false
set_option maxRecDepth 100000
theorem bitLen_len (x : Nat) (h : x < 2 ^ 64) : Lib.bitLen x = bitsLen x := by
  induction x using Nat.strongRecOn with
  | _ x ih =>
    by_cases h0 : x = 0
    · subst h0; rfl
    · rw [Lib.bitLen_half x h0 h, ih (x / 2) (by omega) (by omega)]
      unfold bitsLen
      rw [if_neg h0, Nat.log2_def x]
      by_cases h2 : 2 ≤ x
      · rw [if_pos h2, if_neg (by omega)]; omega
      · have h1 : x = 1 := by omega
        subst h1
        simp
theorem bitsLen_any {w : World} {x : Nat} (h : x < 2 ^ 64) : Calls Try.prog 76 #[.int .u64 (x : Int)] w fun e w' => w' = w ∧ e = .returned (.int .i64 (bitsLen x : Nat)) := by
  refine (Go.Proofs.Any.bits_Len bitsLenL (x : Int) w (by omega) (by omega)).mono ?_
  rintro e w' ⟨rfl, rfl⟩
  refine ⟨rfl, ?_⟩
  rw [Int.toNat_natCast, bitLen_len x h]
theorem wrap64 (n : Nat) : IntKind.u64.wrap (n : Int) = ((n % 18446744073709551616 : Nat) : Int) := by
  unfold IntKind.wrap
  have h1 : IntKind.u64.signed = false := rfl
  have h2 : IntKind.u64.bits = 64 := rfl
  simp only [h1, h2]
  simp only [Bool.false_and, Bool.false_eq_true, if_false]
  omega
theorem xorS (r s : UInt64) : IntKind.u64.wrap ((BitVec.ofInt 64 (r.toNat : Int) ^^^ BitVec.ofInt 64 (s.toNat : Int)).toNat : Int) = ((r ^^^ s).toNat : Int) := by
  rw [wrap64]
  congr 1
  have e1 : BitVec.ofInt 64 (r.toNat : Int) = r.toBitVec := by
    apply BitVec.eq_of_toNat_eq; simp
  have e2 : BitVec.ofInt 64 (s.toNat : Int) = s.toBitVec := by
    apply BitVec.eq_of_toNat_eq; simp
  rw [e1, e2]
  have : (r.toBitVec ^^^ s.toBitVec).toNat = (r ^^^ s).toNat := by simp
  rw [this, Nat.mod_eq_of_lt (UInt64.toNat_lt _)]
theorem shlS (r : UInt64) {k : Nat} (hk : k < 64) : IntKind.u64.wrap ((r.toNat : Int) * 2 ^ k) = ((r <<< (UInt64.ofNat k)).toNat : Int) := by
  have : (r.toNat : Int) * 2 ^ k = ((r.toNat * 2 ^ k : Nat) : Int) := by push_cast; rfl
  rw [this, wrap64]
  congr 1
  rw [UInt64.toNat_shiftLeft, Nat.shiftLeft_eq]
  have : (UInt64.ofNat k).toNat % 64 = k := by
    rw [UInt64.toNat_ofNat', Nat.mod_eq_of_lt (by omega)]; omega
  rw [this]
theorem shrS (r : UInt64) {k : Nat} (hk : k < 64) : Int.fdiv (r.toNat : Int) (2 ^ k) = ((r >>> (UInt64.ofNat k)).toNat : Int) := by
  rw [UInt64.toNat_shiftRight, Nat.shiftRight_eq_div_pow]
  have : (UInt64.ofNat k).toNat % 64 = k := by
    rw [UInt64.toNat_ofNat', Nat.mod_eq_of_lt (by omega)]; omega
  rw [this]
  have e2 : ((2 : Int) ^ k) = ((2 ^ k : Nat) : Int) := by push_cast; rfl
  rw [e2]
  exact Int.fdiv_eq_ediv_of_nonneg _ (Int.natCast_nonneg _)
theorem step13 (r : UInt64) : IntKind.u64.wrap ((BitVec.ofInt IntKind.u64.bits (r.toNat : Int) ^^^ BitVec.ofInt IntKind.u64.bits (IntKind.u64.wrap ((r.toNat : Int) * 8192))).toNat : Int) = ((r ^^^ (r <<< 13)).toNat : Int) := by
  have h := shlS r (k := 13) (by omega)
  rw [show ((r.toNat : Int) * 8192) = (r.toNat : Int) * 2 ^ 13 by omega, h]
  exact xorS r (r <<< 13)
theorem step7 (r : UInt64) : IntKind.u64.wrap ((BitVec.ofInt IntKind.u64.bits (r.toNat : Int) ^^^ BitVec.ofInt IntKind.u64.bits (Int.fdiv (r.toNat : Int) 128)).toNat : Int) = ((r ^^^ (r >>> 7)).toNat : Int) := by
  have h := shrS r (k := 7) (by omega)
  rw [show (128 : Int) = 2 ^ 7 by rfl, h]
  exact xorS r (r >>> 7)
theorem step17 (r : UInt64) : IntKind.u64.wrap ((BitVec.ofInt IntKind.u64.bits (r.toNat : Int) ^^^ BitVec.ofInt IntKind.u64.bits (IntKind.u64.wrap ((r.toNat : Int) * 131072))).toNat : Int) = ((r ^^^ (r <<< 17)).toNat : Int) := by
  have h := shlS r (k := 17) (by omega)
  rw [show ((r.toNat : Int) * 131072) = (r.toNat : Int) * 2 ^ 17 by omega, h]
  exact xorS r (r <<< 17)
theorem next_any {w0 w : World} {F : HP} {R : Nat} {r : UInt64} (h : St w0 (Blk R (.cells #[.int .u64 r.toNat] 122 (0, 0)) * F) w) :
    Calls Try.prog 90 #[.pointer (some ⟨R, 0, none⟩)] w fun e w' => St w0 (Blk R (.cells #[.int .u64 (xorNext r).toNat] 122 (0, 0)) * F) w' ∧ e = .returned (.int .u64 (xorNext r).toNat) := by
  refine F90.calls (by simp) ?_
  unfold F90.code
  have h1 := h.drew
  have c1 := h1.cl R
  simp -dsimp -implicitDefEqProofs (disch := omega) only [go_sem, c1]
  rw [step13]
  refine h1.sto (b := R) (off := 0) (by simp) rfl fun w2 h2 => ?_
  have h3 : St w0 (Blk R (.cells #[.int .u64 (r ^^^ (r <<< 13)).toNat] 122 (0, 0)) * F) w2.drew := h2.drew
  have c3 := h3.cl R
  generalize hr1 : r ^^^ (r <<< 13) = r1 at h3 c3
  simp -dsimp -implicitDefEqProofs (disch := omega) only [go_sem, c3]
  rw [step7]
  refine h3.sto (b := R) (off := 0) (by simp) rfl fun w4 h4 => ?_
  have h5 : St w0 (Blk R (.cells #[.int .u64 (r1 ^^^ (r1 >>> 7)).toNat] 122 (0, 0)) * F) w4.drew := h4.drew
  have c5 := h5.cl R
  generalize hr2 : r1 ^^^ (r1 >>> 7) = r2 at h5 c5
  simp -dsimp -implicitDefEqProofs (disch := omega) only [go_sem, c5]
  rw [step17]
  refine h5.sto (b := R) (off := 0) (by simp) rfl fun w6 h6 => ?_
  have h7 : St w0 (Blk R (.cells #[.int .u64 (r2 ^^^ (r2 <<< 17)).toNat] 122 (0, 0)) * F) w6 := h6
  have c7 := h7.cl R
  have hx : xorNext r = r2 ^^^ (r2 <<< 17) := by unfold xorNext; simp only [hr1, hr2]
  simp -dsimp -implicitDefEqProofs (disch := omega) only [go_sem, c7]
  rw [hx]
  exact ⟨h7, rfl⟩
theorem pow2_any {w0 w : World} {F : HP} {L : Nat} (h : St w0 F w) (hL : L < 4611686018427387904) :
    Calls Try.prog 89 #[.int .i64 L] w fun e w' => St w0 F w' ∧ e = .returned (.int .u64 ((2 ^ bitsLen L : Nat) : Int)) := by
  refine F89.calls (by simp) ?_
  unfold F89.code
  have hb : bitsLen L ≤ 62 := (bitsLen_le_iff L 62).2 (by omega)
  simp -dsimp -implicitDefEqProofs (disch := omega) only [go_sem]
  refine (bitsLen_any (x := L) (by omega)).mono ?_
  rintro e w1 ⟨rfl, rfl⟩
  have h0 : (0 : Int) ≤ (bitsLen L : Nat) := by omega
  have h1 : min (bitsLen L) 64 = bitsLen L := by omega
  have h2 : IntKind.u64.wrap (1 * 2 ^ bitsLen L) = ((2 ^ bitsLen L : Nat) : Int) := by
    have : (1 * 2 ^ bitsLen L : Int) = ((2 ^ bitsLen L : Nat) : Int) := by push_cast; omega
    rw [this, wrap64, Nat.mod_eq_of_lt]
    calc 2 ^ bitsLen L ≤ 2 ^ 62 := Nat.pow_le_pow_right (by omega) hb
      _ < 18446744073709551616 := by omega
  simp -dsimp -implicitDefEqProofs (disch := omega) only [go_sem, binV_shl h0]
  rw [if_pos (by omega), h2]
  exact ⟨h, rfl⟩
theorem andS (r : UInt64) {m : Nat} (hm : m < 18446744073709551616) : IntKind.u64.wrap ((BitVec.ofInt IntKind.u64.bits (r.toNat : Int) &&& BitVec.ofInt IntKind.u64.bits (m : Int)).toNat : Int) = ((r.toNat &&& m : Nat) : Int) := by
  rw [wrap64]
  congr 1
  have e1 : (BitVec.ofInt IntKind.u64.bits (r.toNat : Int)).toNat = r.toNat := by
    rw [BitVec.toNat_ofInt]
    have := UInt64.toNat_lt r
    have h2 : IntKind.u64.bits = 64 := rfl
    rw [h2]; omega
  have e2 : (BitVec.ofInt IntKind.u64.bits (m : Int)).toNat = m := by
    rw [BitVec.toNat_ofInt]
    have h2 : IntKind.u64.bits = 64 := rfl
    rw [h2]; omega
  rw [BitVec.toNat_and, e1, e2]
  exact Nat.mod_eq_of_lt (Nat.lt_of_le_of_lt Nat.and_le_right hm)
def bpIt (a L M i0 : Nat) (d : Array Int) : Nat → UInt64 × Array Int
  | 0 => (UInt64.ofNat L, d)
  | t + 1 => breakStep a L M (bpIt a L M i0 d t) (i0 + t)
theorem bpIt_eq {d : Array Int} {a b : Nat} (h : b - a ≥ 8) : breakPatterns d a b = (bpIt a (b - a) (1 <<< bitsLen (b - a)) (a + (b - a) / 4 * 2 - 1) d 3).2 := by
  unfold breakPatterns
  simp only [if_pos h]
  rfl
section
attribute [local go_sem] F79.t6_eq F79.t7_eq
theorem break7 {w0 w : World} {F : HP} {g o n c a b t R : Nat} {d : Array Int} {r : UInt64} {Q : Post} {e : FA} {θ : Tag (F79.t7, Q, e, w)} (h : St w0 (Blk R (.cells #[.int .u64 r.toNat] 122 (0, 0)) * (SoP g o n c d * F)) w) (hb : b ≤ n) (h8 : 8 ≤ b - a) (ht : t < 3) (hn : n < 2305843009213693951)
    (hd : e.ds = []) (e0 : e.ρ 0 = soV g o n c) (e1 : e.ρ 1 = .int .i64 a) (e6 : e.ρ 6 = .int .i64 ((b - a : Nat) : Int)) (e7 : e.ρ 7 = .pointer (some ⟨R, 0, none⟩)) (e8 : e.ρ 8 = .int .u64 ((2 ^ bitsLen (b - a) : Nat) : Int)) (e9 : e.ρ 9 = .int .i64 ((a + (b - a) / 4 * 2 - 1 + t : Nat) : Int))
    (hQ : ∀ (e' : FA) (w' : World), e'.ds = [] → e'.ρ 0 = soV g o n c → e'.ρ 1 = .int .i64 a → e'.ρ 6 = .int .i64 ((b - a : Nat) : Int) → e'.ρ 7 = .pointer (some ⟨R, 0, none⟩) → e'.ρ 8 = .int .u64 ((2 ^ bitsLen (b - a) : Nat) : Int) → e'.ρ 9 = .int .i64 ((a + (b - a) / 4 * 2 - 1 + t : Nat) + 1 : Int) →
      St w0 (Blk R (.cells #[.int .u64 (breakStep a (b - a) (1 <<< bitsLen (b - a)) (r, d) (a + (b - a) / 4 * 2 - 1 + t)).1.toNat] 122 (0, 0)) * (SoP g o n c (breakStep a (b - a) (1 <<< bitsLen (b - a)) (r, d) (a + (b - a) / 4 * 2 - 1 + t)).2 * F)) w' → Q .normal e' w') :
    cwE Try.prog F79.t7 Q e w θ := by
  have hp1 : 2 ^ bitsLen (b - a) ≤ 2 * (b - a) := two_pow_bitsLen_le (by omega)
  have hp0 : 0 < 2 ^ bitsLen (b - a) := Nat.pow_pos (by omega)
  have hsh : 1 <<< bitsLen (b - a) = 2 ^ bitsLen (b - a) := Nat.one_shiftLeft _
  rw [hsh] at hQ
  generalize 2 ^ bitsLen (b - a) = M at hQ e8 hp0 hp1
  generalize hI : a + (b - a) / 4 * 2 - 1 + t = I at hQ e9
  generalize hL : b - a = L at *
  rw [F79.t7_eq]
  simp -dsimp -implicitDefEqProofs (disch := omega) only [go_sem, hd, e0, e1, e6, e7, e8, e9]
  refine (next_any h).mono ?_
  rintro e' w1 ⟨h1, rfl⟩
  have hM1 : (M : Int) - 1 = ((M - 1 : Nat) : Int) := by omega
  have hand : (xorNext r).toNat &&& (M - 1) ≤ M - 1 := Nat.and_le_right
  simp -dsimp -implicitDefEqProofs (disch := omega) only [go_sem, hd, e0, e1, e6, e7, e8, e9, hM1, andS (xorNext r) (show M - 1 < 18446744073709551616 by omega)]
  have hst : ∀ other, other = (if (xorNext r).toNat &&& (M - 1) ≥ L then ((xorNext r).toNat &&& (M - 1)) - L else (xorNext r).toNat &&& (M - 1)) → breakStep a L M (r, d) I = (xorNext r, swp d I (a + other)) := fun other ho => by subst ho; rfl
  generalize (xorNext r).toNat &&& (M - 1) = X at *
  have tail : ∀ {Q : Post} {e' : FA} {θ : Tag (F79.t10, Q, e', w1)} (other : Nat), other < L → other = (if X ≥ L then X - L else X) → e'.ρ 0 = soV g o n c → e'.ρ 1 = .int .i64 a → e'.ρ 9 = .int .i64 (I : Int) → e'.ρ 10 = .int .i64 (other : Int) →
      (∀ (e'' : FA) (w'' : World), e''.ds = e'.ds → (∀ k, k < 11 → e''.ρ k = e'.ρ k) → St w0 (Blk R (.cells #[.int .u64 (breakStep a L M (r, d) I).1.toNat] 122 (0, 0)) * (SoP g o n c (breakStep a L M (r, d) I).2 * F)) w'' → Q .normal e'' w'') → cwE Try.prog F79.t10 Q e' w1 θ := by
    intro Q e' θ other hlt ho f0 f1 f9 f10 hq
    rw [hst other ho] at hq
    rw [F79.t10_eq]
    have h3 : St w0 (SoP g o n c d * (Blk R (.cells #[.int .u64 (xorNext r).toNat] 122 (0, 0)) * F)) w1.drew := h1.drew.sw2
    have hIn : I < n := by omega
    have c0 := SoP.get h3 (i := I) hIn
    have c1 := SoP.get h3 (i := a + other) (by omega)
    have i1 : (a : Int) + other = ((a + other : Nat) : Int) := by omega
    simp -dsimp -implicitDefEqProofs (disch := omega) only [go_sem, f0, f1, f9, f10, i1, c0, c1]
    refine SoP.set h3 (i := I) hIn fun w4 h4 => ?_
    simp -dsimp -implicitDefEqProofs (disch := omega) only [go_sem, f0, f1, f9, f10, i1]
    refine SoP.set h4 (i := a + other) (by omega) fun w5 h5 => ?_
    have h5' : St w0 (SoP g o n c (swp d I (a + other)) * (Blk R (.cells #[.int .u64 (xorNext r).toNat] 122 (0, 0)) * F)) w5 := h5
    simp -dsimp -implicitDefEqProofs (disch := omega) only [go_sem]
    refine hq _ _ (by simp -dsimp -implicitDefEqProofs only [go_sem]) (fun k hk => ?_) h5'.sw2
    have hk' : k = 0 ∨ k = 1 ∨ k = 2 ∨ k = 3 ∨ k = 4 ∨ k = 5 ∨ k = 6 ∨ k = 7 ∨ k = 8 ∨ k = 9 ∨ k = 10 := by omega
    rcases hk' with rfl | rfl | rfl | rfl | rfl | rfl | rfl | rfl | rfl | rfl | rfl <;> simp -dsimp -implicitDefEqProofs only [go_sem]
  by_cases hge : (L : Int) ≤ X
  · have hx : (X : Int) - L = ((X - L : Nat) : Int) := by omega
    simp -dsimp -implicitDefEqProofs (disch := omega) only [go_sem, hd, e0, e1, e6, e7, e8, e9, hge, hx]
    refine tail (X - L) (by omega) (by rw [if_pos (by omega)]) (by simp -dsimp -implicitDefEqProofs only [go_sem, e0]) (by simp -dsimp -implicitDefEqProofs only [go_sem, e1]) (by simp -dsimp -implicitDefEqProofs only [go_sem, e9]) (by simp -dsimp -implicitDefEqProofs only [go_sem]) ?_
    intro e'' w'' f0 fk h9
    have g0 := fk 0 (by omega)
    have g1 := fk 1 (by omega)
    have g6 := fk 6 (by omega)
    have g7 := fk 7 (by omega)
    have g8 := fk 8 (by omega)
    have g9 := fk 9 (by omega)
    simp -dsimp -implicitDefEqProofs only [go_sem, hd, e0, e1, e6, e7, e8, e9] at f0 g0 g1 g6 g7 g8 g9
    simp -dsimp -implicitDefEqProofs (disch := omega) only [go_sem, f0, g0, g1, g6, g7, g8, g9]
    exact hQ _ _ (by simp -dsimp -implicitDefEqProofs only [go_sem, f0]) (by simp -dsimp -implicitDefEqProofs only [go_sem, g0]) (by simp -dsimp -implicitDefEqProofs only [go_sem, g1]) (by simp -dsimp -implicitDefEqProofs only [go_sem, g6]) (by simp -dsimp -implicitDefEqProofs only [go_sem, g7]) (by simp -dsimp -implicitDefEqProofs only [go_sem, g8]) (by simp -dsimp -implicitDefEqProofs only [go_sem]) h9
  · simp -dsimp -implicitDefEqProofs (disch := omega) only [go_sem, hd, e0, e1, e6, e7, e8, e9, hge]
    refine tail X (by omega) (by rw [if_neg (by omega)]) (by simp -dsimp -implicitDefEqProofs only [go_sem, e0]) (by simp -dsimp -implicitDefEqProofs only [go_sem, e1]) (by simp -dsimp -implicitDefEqProofs only [go_sem, e9]) (by simp -dsimp -implicitDefEqProofs only [go_sem]) ?_
    intro e'' w'' f0 fk h9
    have g0 := fk 0 (by omega)
    have g1 := fk 1 (by omega)
    have g6 := fk 6 (by omega)
    have g7 := fk 7 (by omega)
    have g8 := fk 8 (by omega)
    have g9 := fk 9 (by omega)
    simp -dsimp -implicitDefEqProofs only [go_sem, hd, e0, e1, e6, e7, e8, e9] at f0 g0 g1 g6 g7 g8 g9
    simp -dsimp -implicitDefEqProofs (disch := omega) only [go_sem, f0, g0, g1, g6, g7, g8, g9]
    exact hQ _ _ (by simp -dsimp -implicitDefEqProofs only [go_sem, f0]) (by simp -dsimp -implicitDefEqProofs only [go_sem, g0]) (by simp -dsimp -implicitDefEqProofs only [go_sem, g1]) (by simp -dsimp -implicitDefEqProofs only [go_sem, g6]) (by simp -dsimp -implicitDefEqProofs only [go_sem, g7]) (by simp -dsimp -implicitDefEqProofs only [go_sem, g8]) (by simp -dsimp -implicitDefEqProofs only [go_sem]) h9
end
section
attribute [local go_sem] F79.t10_eq F79.t6_eq
theorem break_any {w0 w : World} {F : HP} {g o n c a b : Nat} {d : Array Int} (h : St w0 (SoP g o n c d * F) w) (hb : b ≤ n) (hab : a ≤ b) (hn : n < 2305843009213693951) :
    Calls Try.prog 79 #[soV g o n c, .int .i64 a, .int .i64 b] w fun e w' => St w0 (SoP g o n c (breakPatterns d a b) * F) w' ∧ e = .returned (.tuple #[]) := by
  refine F79.calls (by simp) ?_
  unfold F79.code
  have i1 : (b : Int) - a = ((b - a : Nat) : Int) := by omega
  by_cases h8 : (8 : Int) ≤ ((b - a : Nat) : Int)
  case neg =>
    simp -dsimp -implicitDefEqProofs (disch := omega) only [go_sem, i1, h8]
    have : breakPatterns d a b = d := by unfold breakPatterns; simp only; rw [if_neg (by omega)]
    rw [this]
    exact h
  have h8' : b - a ≥ 8 := by omega
  have i2 : ((b - a : Nat) : Int).tdiv 4 = (((b - a) / 4 : Nat) : Int) := rfl
  have i3 : (((b - a) / 4 : Nat) : Int) * 2 = (((b - a) / 4 * 2 : Nat) : Int) := by omega
  have i4 : (a : Int) + (((b - a) / 4 * 2 : Nat) : Int) = ((a + (b - a) / 4 * 2 : Nat) : Int) := by omega
  have i5 : ((a + (b - a) / 4 * 2 : Nat) : Int) - 1 = ((a + (b - a) / 4 * 2 - 1 : Nat) : Int) := by omega
  have i6 : ((a + (b - a) / 4 * 2 : Nat) : Int) + 1 = ((a + (b - a) / 4 * 2 - 1 + 2 : Nat) : Int) := by omega
  simp -dsimp -implicitDefEqProofs (disch := omega) only [go_sem, i1, h8]
  refine h.new fun R w1 h1 => ?_
  have h1' : St w0 (Blk R (.cells #[.int .u64 0] 122 (0, 0)) * (SoP g o n c d * F)) w1 := h1
  simp -dsimp -implicitDefEqProofs (disch := omega) only [go_sem]
  refine h1'.sto (b := R) (off := 0) (by simp) rfl fun w2 h2 => ?_
  have hu : (UInt64.ofNat (b - a)).toNat = b - a := by rw [UInt64.toNat_ofNat']; omega
  have h2' : St w0 (Blk R (.cells #[.int .u64 (UInt64.ofNat (b - a)).toNat] 122 (0, 0)) * (SoP g o n c d * F)) w2 := by rw [hu]; exact h2
  simp -dsimp -implicitDefEqProofs (disch := omega) only [go_sem, i1]
  refine (pow2_any (L := b - a) h2' (by omega)).mono ?_
  rintro e' w3 ⟨h3, rfl⟩
  simp -dsimp -implicitDefEqProofs (disch := omega) only [go_sem, i1, i2, i3, i4, i5]
  rw [bpIt_eq h8']
  generalize hB : (bpIt a (b - a) (1 <<< bitsLen (b - a)) (a + (b - a) / 4 * 2 - 1) d 3).2 = B
  refine loop_intro (fun e w' => e.ds = [] ∧ e.ρ 0 = soV g o n c ∧ e.ρ 1 = .int .i64 a ∧ e.ρ 6 = .int .i64 ((b - a : Nat) : Int) ∧ e.ρ 7 = .pointer (some ⟨R, 0, none⟩) ∧ e.ρ 8 = .int .u64 ((2 ^ bitsLen (b - a) : Nat) : Int) ∧ ∃ t : Nat, t ≤ 3 ∧ e.ρ 9 = .int .i64 ((a + (b - a) / 4 * 2 - 1 + t : Nat) : Int) ∧
      St w0 (Blk R (.cells #[.int .u64 (bpIt a (b - a) (1 <<< bitsLen (b - a)) (a + (b - a) / 4 * 2 - 1) d t).1.toNat] 122 (0, 0)) * (SoP g o n c (bpIt a (b - a) (1 <<< bitsLen (b - a)) (a + (b - a) / 4 * 2 - 1) d t).2 * F)) w')
    (fun e _ => match e.ρ 9 with | .int _ k => (((a + (b - a) / 4 * 2 - 1 + 3 : Nat) : Int) - k).toNat | _ => 0) ?_ ?_
  · exact ⟨rfl, by simp -dsimp -implicitDefEqProofs only [go_sem], by simp -dsimp -implicitDefEqProofs only [go_sem], by simp -dsimp -implicitDefEqProofs only [go_sem], by simp -dsimp -implicitDefEqProofs only [go_sem], by simp -dsimp -implicitDefEqProofs only [go_sem], 0, by omega, by simp -dsimp -implicitDefEqProofs only [go_sem], h3⟩
  rintro e w4 ⟨hd, e0, e1, e6, e7, e8, t, ht, e9, h4⟩
  by_cases hlt : ((a + (b - a) / 4 * 2 - 1 + t : Nat) : Int) ≤ ((a + (b - a) / 4 * 2 - 1 + 2 : Nat) : Int)
  case neg =>
    have : t = 3 := by omega
    subst this
    simp -dsimp -implicitDefEqProofs (disch := omega) only [go_sem, hd, e0, e1, e6, e7, e8, e9, i2, i3, i4, i6, hlt]
    rw [hB] at h4
    exact h4.right
  simp -dsimp -implicitDefEqProofs (disch := omega) only [go_sem, hd, e0, e1, e6, e7, e8, e9, i2, i3, i4, i6, hlt]
  refine break7 (a := a) (b := b) (t := t) (R := R) h4 hb h8' (by omega) hn (by simp -dsimp -implicitDefEqProofs only [go_sem, hd]) (by simp -dsimp -implicitDefEqProofs only [go_sem, e0]) (by simp -dsimp -implicitDefEqProofs only [go_sem, e1]) (by simp -dsimp -implicitDefEqProofs only [go_sem, e6]) (by simp -dsimp -implicitDefEqProofs only [go_sem, e7]) (by simp -dsimp -implicitDefEqProofs only [go_sem, e8]) (by simp -dsimp -implicitDefEqProofs only [go_sem, e9]) ?_
  intro e' w5 f0 f1 f2 f3 f4 f5 f6 h5
  simp -dsimp -implicitDefEqProofs (disch := omega) only [go_sem, f0, f1, f2, f3, f4, f5, f6, e9]
  exact ⟨⟨t + 1, by omega, by omega, h5⟩, by omega⟩
end
end Go.Proofs.Ytljndiligbaljaa
namespace Go.Proofs.Ytljndiligbaljaa
open Go Go.Sort Go.RowKit
set_option linter.unusedVariables false
theorem St.exact {W W' : World} (h : St W (Old W) W') : ∃ q os, W' = grow (W.drewN q) os := by
  obtain ⟨x, l, hx⟩ := h.sat
  have ho := h.os
  have ht := h.tape
  have hu := h.output
  have hd := h.drawn
  have hs := h.size
  refine ⟨W'.drawn - W.drawn, W'.heap.extract W.heap.size W'.heap.size, ?_⟩
  have hh : W'.heap = W.heap ++ W'.heap.extract W.heap.size W'.heap.size := by
    apply Array.ext_getElem?
    intro i
    by_cases hi : i < W.heap.size
    · rw [Array.getElem?_append_left hi, Array.getElem?_eq_getElem hi]
      exact l i _ (hx i _ (Array.getElem?_eq_getElem hi))
    · rw [Array.getElem?_append_right (by omega), Array.getElem?_extract]
      by_cases hj : i < W'.heap.size
      · rw [if_pos (by omega), show W.heap.size + (i - W.heap.size) = i by omega]
      · rw [if_neg (by omega), Array.getElem?_eq_none (by omega)]
  cases W'
  cases W
  simp only [grow, World.drewN] at *
  subst ho ht hu
  simp only [World.mk.injEq, true_and, and_true]
  exact ⟨hh, by omega⟩
section
variable {β : Type} [Inhabited β] {enc : β → Value}
theorem RowO.place {T s : Nat} {v : Value} {n : Nat} {xs : List Value} {F : HP} {w0 w : World} (h : St w0 (RowO T s v n xs * F) w) : (v = .slice none 0 0 ∧ n = 0 ∧ xs = []) ∨ ∃ g o cap cur, v = .slice (some ⟨g, o, none⟩) n cap ∧ w.heap[g]? = some (.cells cur T (0, 0)) ∧ o + cap * s ≤ cur.size ∧ n ≤ cap ∧ (cur.toList.drop o).take (n * s) = xs ∧ xs.length = n * s := by
  obtain ⟨x, l, h1, _, _, l1, _, a, _⟩ := h.sat
  rcases a with a | ⟨g, o, cap, cur, e1, e2, e3, e4, e5, e6, e7⟩
  · exact .inl a
  · exact .inr ⟨g, o, cap, cur, e1, l _ _ (l1 _ _ e2), e5, e3, e6, e7⟩
theorem RowO.holds {T s g o cap n : Nat} {xs : List Value} {F : HP} {w0 w : World} {d : Array β} (h : St w0 (RowO T s (.slice (some ⟨g, o, none⟩) n cap) n xs * F) w) (hx : d.toList.map enc = xs) : Holds enc w g o d ∧ g < w.heap.size := by
  rcases RowO.place h with ⟨hv, _⟩ | ⟨g', o', cap', cur, e1, e2, e3, e4, e5, e6⟩
  · cases hv
  simp only [Value.slice.injEq, Option.some.injEq, Addr.mk.injEq, and_true, true_and] at e1
  obtain ⟨⟨rfl, rfl⟩, rfl⟩ := e1
  refine ⟨fun j hj => ?_, (Array.getElem?_eq_some_iff.1 e2).1⟩
  have hl : d.size = n * s := by rw [← e6, ← hx]; simp
  refine ⟨?_, frozen_of_heap e2 _⟩
  rw [cell_of_heap e2]
  have h1 : (xs)[j]? = some (enc d[j]!) := by rw [← hx, List.getElem?_map, Array.getElem?_toList, Array.getElem?_eq_getElem hj, getElem!_pos d j hj]; rfl
  rw [← e5, List.getElem?_take_of_lt (by omega), List.getElem?_drop, Array.getElem?_toList] at h1
  exact h1
end
theorem perm_sorted_unique {α : Type} {r : α → α → Prop} : ∀ {l l' : List α}, (∀ x ∈ l, ∀ y ∈ l, r x y → r y x → x = y) → l.Perm l' → l.Pairwise r → l'.Pairwise r → (∀ x ∈ l, r x x) → l = l'
  | [], l', _, hp, _, _, _ => (List.nil_perm.1 hp).symm
  | a :: l, [], _, hp, _, _, _ => by have := hp.length_eq; simp at this
  | a :: l, b :: l', ha, hp, h1, h2, hr => by
    have hab : a = b := by
      have hbl : b ∈ a :: l := hp.mem_iff.2 (by simp)
      have hal : a ∈ b :: l' := hp.mem_iff.1 (by simp)
      refine ha a (by simp) b hbl ?_ ?_
      · rcases List.mem_cons.1 hbl with rfl | hb
        · exact hr _ (by simp)
        · exact List.rel_of_pairwise_cons h1 hb
      · rcases List.mem_cons.1 hal with rfl | hb
        · exact hr _ (by simp)
        · exact List.rel_of_pairwise_cons h2 hb
    subst hab
    rw [perm_sorted_unique (fun x hx y hy => ha x (by simp [hx]) y (by simp [hy])) (List.Perm.cons_inv hp) (List.Pairwise.of_cons h1) (List.Pairwise.of_cons h2) (fun x hx => hr x (by simp [hx]))]
end Go.Proofs.Ytljndiligbaljaa

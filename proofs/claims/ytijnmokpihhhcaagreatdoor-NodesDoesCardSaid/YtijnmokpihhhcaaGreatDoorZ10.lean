/- part 10 -/
import Derived.Test.YtijnmokpihhhcaaGreatDoorZ1
import Derived.Test.YtijnmokpihhhcaaGreatDoorZ2
import Derived.Test.YtijnmokpihhhcaaGreatDoorZ3
import Derived.Test.YtijnmokpihhhcaaGreatDoorZ4
import Derived.Test.YtijnmokpihhhcaaGreatDoorZ5
import Derived.Test.YtijnmokpihhhcaaGreatDoorZ6
import Derived.Test.YtijnmokpihhhcaaGreatDoorZ7
import Derived.Test.YtijnmokpihhhcaaGreatDoorZ8
import Derived.Test.YtijnmokpihhhcaaGreatDoorZ9
import Derived.Lib.CountLaws
import Derived.Lib.SplitLaws
import Derived.Below
import Derived.WalkKit
import Derived.Test.YtijnmokpihhhcaaGreatDoorRows
import Derived.Lib.LaidU8
import Derived.PinnedBridge
import Derived.SizedLaws
import Derived.Lay
import Derived.Shelf.Vars
import Derived.LaidMore
import Derived.Stop.Joined
import Derived.ProofKit
import Derived.Test.YtijnmokpihhhcaaGreatDoorProg
import Derived.Conc.RwLoneW
import Derived.KernelRfl
import Derived.RecoverIn
import Derived.RangeFuncLeaves
import Derived.Laws.Build
import Derived.TacticsInMore
namespace Go.Proofs.YtijnmokpihhhcaaGreatDoor
open Go
set_option maxRecDepth 100000
variable {P : Program} {Q : Post} {e : FA} {w : World} {args : Array Value} {R : Ending → World → Prop}
def F59.r0 : List Oper := [
  op 2 (.assign (.const (.pointer none))) 29]
def F59.r1 : List Oper := [
  ⟨(some 6), (.move (.tmp 0)), 29, "", #[], none⟩,
  ⟨(some 7), (.nilCheck (.tmp 6)), 0, "", #[], none⟩,
  ⟨(some 8), (.fieldAddr 84 (.tmp 7) 0), 0, "", #[], none⟩,
  ⟨(some 10), (.move (.tmp 0)), 29, "", #[], none⟩,
  ⟨(some 11), (.nilCheck (.tmp 10)), 0, "", #[], none⟩,
  ⟨(some 12), (.fieldAddr 84 (.tmp 11) 1), 0, "", #[], none⟩,
  ⟨(some 9), (.load 3 (.tmp 8)), 3, "", #[⟨512, .data⟩], none⟩,
  ⟨(some 13), (.load 34 (.tmp 12)), 34, "", #[⟨512, .data⟩], none⟩,
  ⟨(some 14), (.build 84 #[(0, (.tmp 9)), (1, (.tmp 13))]), 84, "", #[], none⟩,
  ⟨(some 15), (.box 84 (.tmp 14)), 29, "", #[⟨9, .chain⟩], none⟩,
  ⟨(some 3), (.assign (.tmp 15)), 29, "", #[], none⟩]
def F59.r2 : List Oper := [
  op 4 (.assign (.const (.int .i64 0))) 3]
def F59.r3 : List Oper := [
  op 16 (.move (.tmp 4)) 3,
  op 17 (.move (.tmp 0)) 29,
  op 18 (.nilCheck (.tmp 17)) 0,
  op 19 (.fieldAddr 84 (.tmp 18) 2) 0,
  od 20 (.load 82 (.tmp 19)) 82,
  op 21 (.call ⟨(.builtin .len), #[(.tmp 20)], #[82]⟩) 3,
  op 22 (.binOp .lss 3 (.tmp 16) (.tmp 21) 3) 4]
def F59.r5 : List Oper := [
  op 5 (.assign (.const (.slice none 0 0))) 43]
def F59.r6 : List Oper := [
  op 25 (.move (.tmp 5)) 43,
  op 26 (.move (.tmp 0)) 29,
  op 27 (.nilCheck (.tmp 26)) 0,
  op 28 (.fieldAddr 84 (.tmp 27) 2) 0,
  od 29 (.load 82 (.tmp 28)) 82,
  op 30 (.move (.tmp 4)) 3,
  op 31 (.indexAddr 82 (.tmp 29) (.tmp 30)) 0,
  op 32 (.fieldAddr 81 (.tmp 31) 1) 0,
  od 33 (.load 43 (.tmp 32)) 43,
  oc 34 (.call ⟨(.builtin .append), #[(.tmp 25), (.tmp 33)], #[43, 43]⟩) 43,
  op 5 (.assign (.tmp 34)) 43]
def F59.r7 : List Oper := [
  ⟨(some 35), (.move (.tmp 3)), 29, "", #[], none⟩,
  ⟨(some 36), (.move (.tmp 3)), 29, "", #[], none⟩,
  ⟨(some 37), (.nilCheck (.tmp 36)), 0, "", #[], none⟩,
  ⟨(some 38), (.fieldAddr 84 (.tmp 37) 2), 0, "", #[], none⟩,
  ⟨(some 40), (.move (.tmp 0)), 29, "", #[], none⟩,
  ⟨(some 41), (.nilCheck (.tmp 40)), 0, "", #[], none⟩,
  ⟨(some 42), (.fieldAddr 84 (.tmp 41) 2), 0, "", #[], none⟩,
  ⟨(some 44), (.move (.tmp 4)), 3, "", #[], none⟩,
  ⟨(some 48), (.move (.tmp 5)), 43, "", #[], none⟩,
  ⟨(some 39), (.load 82 (.tmp 38)), 82, "", #[⟨589824, .data⟩], none⟩,
  ⟨(some 43), (.load 82 (.tmp 42)), 82, "", #[⟨622592, .data⟩], none⟩,
  ⟨(some 45), (.indexAddr 82 (.tmp 43) (.tmp 44)), 0, "", #[], none⟩,
  ⟨(some 46), (.fieldAddr 81 (.tmp 45) 0), 0, "", #[], none⟩,
  ⟨(some 47), (.load 42 (.tmp 46)), 42, "", #[⟨622592, .data⟩], none⟩,
  ⟨(some 49), (.build 81 #[(0, (.tmp 47)), (1, (.tmp 48))]), 81, "", #[], none⟩,
  ⟨(some 50), (.buildSlice 82 1 #[(0, (.tmp 49))]), 82, "", #[⟨15, .chain⟩], none⟩,
  ⟨(some 51), (.call ⟨(.builtin .append), #[(.tmp 39), (.tmp 50)], #[82, 82]⟩), 82, "", #[⟨16, .chain⟩], none⟩,
  ⟨(some 52), (.nilCheck (.tmp 35)), 0, "", #[], none⟩,
  ⟨(some 53), (.fieldAddr 84 (.tmp 52) 2), 0, "", #[], none⟩,
  ⟨none, (.store 82 (.tmp 53) (.tmp 51)), 0, "", #[⟨19, .chain⟩], none⟩]
def F59.r4 : List Oper := [
  op 23 (.move (.tmp 4)) 3,
  op 24 (.binOp .add 3 (.tmp 23) (.const (.int .i64 1)) 3) 3,
  op 4 (.assign (.tmp 24)) 3]
def F59.r8 : List Oper := [
  op 54 (.move (.tmp 3)) 29,
  op 2 (.assign (.tmp 54)) 29]
def F59.t4 : Cd := (.region 4 F59.r4.toArray false)
theorem F59.t4_eq {θ : Tag (F59.t4, Q, e, w)} : cwE P F59.t4 Q e w θ = cwE P (.region 4 F59.r4.toArray false) Q e w := rfl
def F59.t5 : Cd := (.seq (.block 1 (.seq (.region 5 F59.r5.toArray false) (.seq (.region 6 F59.r6.toArray false) (.region 7 F59.r7.toArray true)))) F59.t4)
theorem F59.t5_eq {θ : Tag (F59.t5, Q, e, w)} : cwE P F59.t5 Q e w θ = cwE P (.seq (.block 1 (.seq (.region 5 F59.r5.toArray false) (.seq (.region 6 F59.r6.toArray false) (.region 7 F59.r7.toArray true)))) F59.t4) Q e w := rfl
def F59.t8 : Cd := (.seq (.region 8 F59.r8.toArray false) .ret)
theorem F59.t8_eq {θ : Tag (F59.t8, Q, e, w)} : cwE P F59.t8 Q e w θ = cwE P (.seq (.region 8 F59.r8.toArray false) .ret) Q e w := rfl
def F59.code : Cd := (.seq (.region 0 F59.r0.toArray false) (.seq (.region 1 F59.r1.toArray true) (.seq (.seq (.region 2 F59.r2.toArray false) (.block 0 (.loop (.seq (.seq (.region 3 F59.r3.toArray false) (.cond (.tmp 22) .skip (.exit 0))) F59.t5)))) F59.t8)))
theorem F59.calls (hn : args.size ≤ 55) (h : cwE Tryz.prog F59.code (fnP Tryz.prog #[(.tmp 2)] R) (entry args) w) : Calls Tryz.prog 59 args w R :=
  calls_of_cwE (types := Tryz.prog.types) follows Tryz.func59 F59.code rfl (by kernel_rfl) hn h
def F60.r0 : List Oper := [
  op 6 (.assign (.const (.slice none 0 0))) 43]
def F60.r1 : List Oper := [
  op 13 (.move (.tmp 2)) 3,
  op 14 (.binOp .leq 3 (.tmp 13) (.const (.int .i64 0)) 3) 4,
  op 15 (.move (.tmp 14)) 4,
  og 16 (.move (.tmp 1)) 34 15 false,
  og 17 (.move (.tmp 0)) 101 15 false,
  og 18 (.nilCheck (.tmp 17)) 0 15 false,
  og 19 (.fieldAddr 104 (.tmp 18) 1) 0 15 false,
  og 20 (.fieldAddr 42 (.tmp 19) 10) 0 15 false,
  ⟨(some 21), (.load 34 (.tmp 20)), 34, "", #[⟨0, .data⟩], (some (15, false))⟩,
  og 22 (.binOp .geq 34 (.tmp 16) (.tmp 21) 34) 4 15 false,
  op 23 (.pick (.tmp 15) (.const (.bool true)) (.tmp 22)) 4]
def F60.r2 : List Oper := [
  op 6 (.assign (.const (.slice none 0 0))) 43]
def F60.r3 : List Oper := [
  op 24 (.move (.tmp 2)) 3,
  op 25 (.convert 3 34 (.tmp 24)) 34,
  op 26 (.move (.tmp 0)) 101,
  op 27 (.nilCheck (.tmp 26)) 0,
  op 28 (.fieldAddr 104 (.tmp 27) 1) 0,
  op 29 (.fieldAddr 42 (.tmp 28) 10) 0,
  od 30 (.load 34 (.tmp 29)) 34,
  op 31 (.move (.tmp 1)) 34,
  op 32 (.binOp .sub 34 (.tmp 30) (.tmp 31) 34) 34,
  op 33 (.call ⟨(.builtin .min), #[(.tmp 25), (.tmp 32)], #[34, 34]⟩) 34,
  oc 34 (.makeSlice 43 (.tmp 33) (.tmp 33)) 43,
  op 7 (.assign (.tmp 34)) 43]
def F60.r4 : List Oper := [
  op 8 (.assign (.const (.int .i64 0))) 3]
def F60.r5 : List Oper := [
  op 35 (.move (.tmp 8)) 3,
  op 36 (.move (.tmp 7)) 43,
  op 37 (.call ⟨(.builtin .len), #[(.tmp 36)], #[43]⟩) 3,
  op 38 (.binOp .lss 3 (.tmp 35) (.tmp 37) 3) 4]
def F60.r6 : List Oper := [
  op 39 (.move (.tmp 1)) 34,
  op 40 (.move (.tmp 8)) 3,
  op 41 (.convert 3 34 (.tmp 40)) 34,
  op 42 (.binOp .add 34 (.tmp 39) (.tmp 41) 34) 34,
  op 9 (.assign (.tmp 42)) 34]
def F60.r7 : List Oper := [
  op 43 (.move (.tmp 9)) 34,
  op 44 (.binOp .rem 34 (.tmp 43) (.const (.int .u64 256)) 34) 34,
  op 45 (.convert 34 3 (.tmp 44)) 3,
  op 46 (.move (.tmp 9)) 34,
  op 47 (.binOp .quo 34 (.tmp 46) (.const (.int .u64 256)) 34) 34,
  op 48 (.convert 34 3 (.tmp 47)) 3,
  op 10 (.assign (.tmp 45)) 3,
  op 11 (.assign (.tmp 48)) 3]
def F60.r8 : List Oper := [
  op 49 (.move (.tmp 7)) 43,
  op 50 (.call ⟨(.builtin .len), #[(.tmp 49)], #[43]⟩) 3,
  op 51 (.move (.tmp 8)) 3,
  op 52 (.binOp .sub 3 (.tmp 50) (.tmp 51) 3) 3,
  op 53 (.move (.tmp 10)) 3,
  op 54 (.binOp .sub 3 (.const (.int .i64 256)) (.tmp 53) 3) 3,
  op 55 (.call ⟨(.builtin .min), #[(.tmp 52), (.tmp 54)], #[3, 3]⟩) 3,
  op 12 (.assign (.tmp 55)) 3]
def F60.r9 : List Oper := [
  op 56 (.move (.tmp 11)) 3,
  op 57 (.move (.tmp 0)) 101,
  op 58 (.nilCheck (.tmp 57)) 0,
  op 59 (.fieldAddr 104 (.tmp 58) 3) 0,
  od 60 (.load 102 (.tmp 59)) 102,
  op 61 (.call ⟨(.builtin .len), #[(.tmp 60)], #[102]⟩) 3,
  op 62 (.binOp .lss 3 (.tmp 56) (.tmp 61) 3) 4,
  op 63 (.move (.tmp 62)) 4,
  og 64 (.move (.tmp 0)) 101 63 true,
  og 65 (.nilCheck (.tmp 64)) 0 63 true,
  og 66 (.fieldAddr 104 (.tmp 65) 3) 0 63 true,
  ⟨(some 67), (.load 102 (.tmp 66)), 102, "", #[⟨0, .data⟩], (some (63, true))⟩,
  og 68 (.move (.tmp 11)) 3 63 true,
  og 69 (.indexAddr 102 (.tmp 67) (.tmp 68)) 0 63 true,
  ⟨(some 70), (.load 136 (.tmp 69)), 136, "", #[⟨0, .data⟩], (some (63, true))⟩,
  og 71 (.binOp .neq 136 (.tmp 70) (.const (.pointer none)) 136) 4 63 true,
  op 72 (.pick (.tmp 63) (.tmp 71) (.const (.bool false))) 4]
def F60.r10 : List Oper := [
  ⟨(some 73), (.move (.tmp 7)), 43, "", #[], none⟩,
  ⟨(some 74), (.move (.tmp 8)), 3, "", #[], none⟩,
  ⟨(some 75), (.move (.tmp 8)), 3, "", #[], none⟩,
  ⟨(some 76), (.move (.tmp 12)), 3, "", #[], none⟩,
  ⟨(some 77), (.binOp .add 3 (.tmp 75) (.tmp 76) 3), 3, "", #[], none⟩,
  ⟨(some 78), (.slice 43 (.tmp 73) (some (.tmp 74)) (some (.tmp 77)) none), 43, "", #[], none⟩,
  ⟨(some 79), (.move (.tmp 0)), 101, "", #[], none⟩,
  ⟨(some 80), (.nilCheck (.tmp 79)), 0, "", #[], none⟩,
  ⟨(some 81), (.fieldAddr 104 (.tmp 80) 3), 0, "", #[], none⟩,
  ⟨(some 83), (.move (.tmp 11)), 3, "", #[], none⟩,
  ⟨(some 87), (.move (.tmp 10)), 3, "", #[], none⟩,
  ⟨(some 82), (.load 102 (.tmp 81)), 102, "", #[⟨65536, .data⟩], none⟩,
  ⟨(some 84), (.indexAddr 102 (.tmp 82) (.tmp 83)), 0, "", #[], none⟩,
  ⟨(some 85), (.load 136 (.tmp 84)), 136, "", #[⟨65536, .data⟩], none⟩,
  ⟨(some 86), (.nilCheck (.tmp 85)), 136, "", #[], none⟩,
  ⟨(some 88), (.slice 137 (.tmp 86) (some (.tmp 87)) none none), 43, "", #[], none⟩,
  ⟨(some 89), (.call ⟨(.builtin .copy), #[(.tmp 78), (.tmp 88)], #[43, 43]⟩), 3, "", #[⟨16, .chain⟩], none⟩]
def F60.r11 : List Oper := [
  op 90 (.move (.tmp 8)) 3,
  op 91 (.move (.tmp 12)) 3,
  op 92 (.binOp .add 3 (.tmp 90) (.tmp 91) 3) 3,
  op 8 (.assign (.tmp 92)) 3]
def F60.r12 : List Oper := [
  op 93 (.move (.tmp 7)) 43,
  op 6 (.assign (.tmp 93)) 43]
def F60.t11 : Cd := (.region 11 F60.r11.toArray false)
theorem F60.t11_eq {θ : Tag (F60.t11, Q, e, w)} : cwE P F60.t11 Q e w θ = cwE P (.region 11 F60.r11.toArray false) Q e w := rfl
def F60.t6 : Cd := (.block 1 (.seq (.region 6 F60.r6.toArray false) (.seq (.region 7 F60.r7.toArray false) (.seq (.region 8 F60.r8.toArray false) (.seq (.seq (.region 9 F60.r9.toArray false) (.cond (.tmp 72) (.region 10 F60.r10.toArray true) .skip)) F60.t11)))))
theorem F60.t6_eq {θ : Tag (F60.t6, Q, e, w)} : cwE P F60.t6 Q e w θ = cwE P (.block 1 (.seq (.region 6 F60.r6.toArray false) (.seq (.region 7 F60.r7.toArray false) (.seq (.region 8 F60.r8.toArray false) (.seq (.seq (.region 9 F60.r9.toArray false) (.cond (.tmp 72) (.region 10 F60.r10.toArray true) .skip)) F60.t11))))) Q e w := rfl
def F60.t12 : Cd := (.seq (.region 12 F60.r12.toArray false) .ret)
theorem F60.t12_eq {θ : Tag (F60.t12, Q, e, w)} : cwE P F60.t12 Q e w θ = cwE P (.seq (.region 12 F60.r12.toArray false) .ret) Q e w := rfl
def F60.t3 : Cd := (.seq (.region 3 F60.r3.toArray false) (.seq (.seq (.region 4 F60.r4.toArray false) (.block 0 (.loop (.seq (.seq (.region 5 F60.r5.toArray false) (.cond (.tmp 38) .skip (.exit 0))) F60.t6)))) F60.t12))
theorem F60.t3_eq {θ : Tag (F60.t3, Q, e, w)} : cwE P F60.t3 Q e w θ = cwE P (.seq (.region 3 F60.r3.toArray false) (.seq (.seq (.region 4 F60.r4.toArray false) (.block 0 (.loop (.seq (.seq (.region 5 F60.r5.toArray false) (.cond (.tmp 38) .skip (.exit 0))) F60.t6)))) F60.t12)) Q e w := rfl
def F60.code : Cd := (.seq (.region 0 F60.r0.toArray false) (.seq (.seq (.region 1 F60.r1.toArray false) (.cond (.tmp 23) (.seq (.region 2 F60.r2.toArray false) .ret) .skip)) F60.t3))
theorem F60.calls (hn : args.size ≤ 94) (h : cwE Tryz.prog F60.code (fnP Tryz.prog #[(.tmp 6)] R) (entry args) w) : Calls Tryz.prog 60 args w R :=
  calls_of_cwE (types := Tryz.prog.types) follows Tryz.func60 F60.code rfl (by kernel_rfl) hn h
def F61.r0 : List Oper := [
  oc 4 (.alloc 42) 0,
  op 5 (.assign (.const (.bool false))) 4]
def F61.r1 : List Oper := [
  op 8 (.move (.tmp 0)) 27,
  op 9 (.nilCheck (.tmp 8)) 0,
  op 10 (.fieldAddr 100 (.tmp 9) 3) 0,
  od 11 (.load 96 (.tmp 10)) 96,
  op 12 (.move (.tmp 1)) 34,
  od 13 (.lookup 96 (.tmp 11) (.tmp 12) false) 101,
  op 6 (.assign (.tmp 13)) 101]
def F61.r2 : List Oper := [
  op 14 (.move (.tmp 6)) 101,
  op 15 (.binOp .eql 101 (.tmp 14) (.const (.pointer none)) 101) 4]
def F61.r3 : List Oper := [
  op 16 (.build 42 #[]) 42,
  ⟨none, (.store 42 (.tmp 4) (.tmp 16)), 0, "", #[⟨0, .chain⟩], none⟩,
  op 5 (.assign (.const (.bool false))) 4]
def F61.r4 : List Oper := [
  op 17 (.move (.tmp 6)) 101,
  op 18 (.nilCheck (.tmp 17)) 0,
  op 19 (.fieldAddr 104 (.tmp 18) 0) 0,
  oc 20 (.call ⟨(.value (.func 32)), #[(.tmp 19)], #[90]⟩) 0]
def F61.r5 : List Oper := [
  op 21 (.move (.tmp 6)) 101,
  op 22 (.nilCheck (.tmp 21)) 0,
  op 23 (.fieldAddr 104 (.tmp 22) 0) 0,
  ⟨none, (.defer ⟨(.value (.func 33)), #[(.tmp 23)], #[90]⟩), 0, "", #[⟨0, .chain⟩], none⟩]
def F61.r6 : List Oper := [
  op 24 (.move (.tmp 6)) 101,
  op 25 (.nilCheck (.tmp 24)) 0,
  op 26 (.fieldAddr 104 (.tmp 25) 1) 0,
  od 27 (.load 42 (.tmp 26)) 42,
  oc 7 (.alloc 42) 0,
  ⟨none, (.store 42 (.tmp 7) (.tmp 27)), 0, "", #[⟨0, .chain⟩], none⟩]
def F61.r7 : List Oper := [
  op 28 (.move (.tmp 6)) 101,
  op 29 (.nilCheck (.tmp 28)) 0,
  op 30 (.fieldAddr 104 (.tmp 29) 2) 0,
  od 31 (.load 97 (.tmp 30)) 97,
  op 32 (.call ⟨(.builtin .len), #[(.tmp 31)], #[97]⟩) 3,
  op 33 (.fieldAddr 42 (.tmp 7) 12) 0,
  ⟨none, (.store 3 (.tmp 33) (.tmp 32)), 0, "", #[⟨0, .chain⟩], none⟩]
def F61.r8 : List Oper := [
  od 34 (.load 42 (.tmp 7)) 42,
  ⟨none, (.store 42 (.tmp 4) (.tmp 34)), 0, "", #[⟨0, .chain⟩], none⟩,
  op 5 (.assign (.const (.bool true))) 4]
def F61.t4 : Cd := (.seq (.region 4 F61.r4.toArray false) (.seq (.region 5 F61.r5.toArray false) (.seq (.region 6 F61.r6.toArray false) (.seq (.region 7 F61.r7.toArray false) (.seq (.region 8 F61.r8.toArray false) .ret)))))
theorem F61.t4_eq {θ : Tag (F61.t4, Q, e, w)} : cwE P F61.t4 Q e w θ = cwE P (.seq (.region 4 F61.r4.toArray false) (.seq (.region 5 F61.r5.toArray false) (.seq (.region 6 F61.r6.toArray false) (.seq (.region 7 F61.r7.toArray false) (.seq (.region 8 F61.r8.toArray false) .ret))))) Q e w := rfl
def F61.code : Cd := (.seq (.region 0 F61.r0.toArray false) (.seq (.region 1 F61.r1.toArray false) (.seq (.seq (.region 2 F61.r2.toArray false) (.cond (.tmp 15) (.seq (.region 3 F61.r3.toArray false) .ret) .skip)) F61.t4)))
theorem F61.calls (hn : args.size ≤ 35) (h : cwE Tryz.prog F61.code (fnP Tryz.prog #[(.cell 4 42), (.tmp 5)] R) (entry args) w) : Calls Tryz.prog 61 args w R :=
  calls_of_cwE (types := Tryz.prog.types) follows Tryz.func61 F61.code rfl (by kernel_rfl) hn h
def F62.r0 : List Oper := [
  op 2 (.assign (.const (.bool false))) 4]
def F62.r1 : List Oper := [
  op 3 (.move (.tmp 0)) 9,
  oc 4 (.call ⟨(.value (.func 88)), #[(.tmp 3)], #[9]⟩) 3,
  op 5 (.move (.tmp 0)) 9,
  op 6 (.call ⟨(.builtin .len), #[(.tmp 5)], #[9]⟩) 3,
  op 7 (.binOp .eql 3 (.tmp 4) (.tmp 6) 3) 4,
  op 2 (.assign (.tmp 7)) 4]
def F62.code : Cd := (.seq (.region 0 F62.r0.toArray false) (.seq (.region 1 F62.r1.toArray false) .ret))
theorem F62.calls (hn : args.size ≤ 8) (h : cwE Tryz.prog F62.code (fnP Tryz.prog #[(.tmp 2)] R) (entry args) w) : Calls Tryz.prog 62 args w R :=
  calls_of_cwE (types := Tryz.prog.types) follows Tryz.func62 F62.code rfl (by kernel_rfl) hn h
def F65.r0 : List Oper := [
  oc 5 (.box 42 (.tmp 2)) 0,
  op 6 (.assign (.const (.int .u64 0))) 34,
  op 7 (.assign (.const (.int .i64 0))) 30]
def F65.r1 : List Oper := [
  ⟨(some 12), (.move (.tmp 1)), 101, "", #[], none⟩,
  ⟨(some 13), (.nilCheck (.tmp 12)), 0, "", #[], none⟩,
  ⟨(some 14), (.fieldAddr 104 (.tmp 13) 1), 0, "", #[], none⟩,
  ⟨(some 15), (.fieldAddr 42 (.tmp 14) 0), 0, "", #[], none⟩,
  ⟨(some 17), (.fieldAddr 42 (.tmp 5) 2), 0, "", #[], none⟩,
  ⟨(some 16), (.load 34 (.tmp 15)), 34, "", #[⟨512, .data⟩], none⟩,
  ⟨(some 18), (.load 9 (.tmp 17)), 9, "", #[⟨512, .data⟩], none⟩,
  ⟨(some 19), (.build 142 #[(0, (.tmp 16)), (1, (.tmp 18))]), 142, "", #[], none⟩,
  ⟨(some 8), (.alloc 142), 0, "", #[⟨8, .chain⟩], none⟩,
  ⟨none, (.store 142 (.tmp 8) (.tmp 19)), 0, "", #[⟨9, .chain⟩], none⟩]
def F65.r2 : List Oper := [
  ⟨(some 21), (.move (.tmp 0)), 27, "", #[], none⟩,
  ⟨(some 22), (.nilCheck (.tmp 21)), 0, "", #[], none⟩,
  ⟨(some 23), (.fieldAddr 100 (.tmp 22) 5), 0, "", #[], none⟩,
  ⟨(some 24), (.load 98 (.tmp 23)), 98, "", #[⟨0, .data⟩], none⟩,
  ⟨(some 25), (.load 142 (.tmp 8)), 142, "", #[⟨0, .data⟩], none⟩,
  ⟨(some 26), (.lookup 98 (.tmp 24) (.tmp 25) true), 117, "", #[⟨0, .data⟩], none⟩,
  ⟨(some 20), (.move (.tmp 26)), 117, "", #[], none⟩,
  ⟨(some 27), (.extract (.tmp 20) 0), 34, "", #[], none⟩,
  ⟨(some 28), (.extract (.tmp 20) 1), 4, "", #[], none⟩,
  ⟨(some 9), (.assign (.tmp 27)), 34, "", #[], none⟩,
  ⟨(some 10), (.assign (.tmp 28)), 4, "", #[], none⟩]
def F65.r3 : List Oper := [
  op 30 (.move (.tmp 1)) 101,
  op 31 (.nilCheck (.tmp 30)) 0,
  op 32 (.fieldAddr 104 (.tmp 31) 1) 0,
  op 33 (.fieldAddr 42 (.tmp 32) 3) 0,
  od 34 (.load 33 (.tmp 33)) 33,
  op 35 (.binOp .and 33 (.tmp 34) (.const (.int .u32 2147483648)) 33) 33,
  op 36 (.binOp .eql 33 (.tmp 35) (.const (.int .u32 0)) 33) 4,
  op 29 (.assign (.tmp 36)) 4]
def F65.r4 : List Oper := [
  op 6 (.assign (.const (.int .u64 0))) 34,
  op 7 (.assign (.const (.int .i64 81))) 30]
def F65.r5 : List Oper := [
  op 38 (.fieldAddr 42 (.tmp 5) 3) 0,
  od 39 (.load 33 (.tmp 38)) 33,
  oc 40 (.call ⟨(.value (.func 78)), #[(.tmp 39)], #[33]⟩) 4,
  op 41 (.unOp .not 4 (.tmp 40)) 4,
  op 42 (.move (.tmp 41)) 4,
  og 43 (.fieldAddr 42 (.tmp 5) 4) 0 42 false,
  ⟨(some 44), (.load 9 (.tmp 43)), 9, "", #[⟨0, .data⟩], (some (42, false))⟩,
  ⟨(some 45), (.call ⟨(.value (.func 48)), #[(.tmp 44)], #[9]⟩), 4, "", #[⟨0, .chain⟩], (some (42, false))⟩,
  og 46 (.unOp .not 4 (.tmp 45)) 4 42 false,
  op 47 (.pick (.tmp 42) (.const (.bool true)) (.tmp 46)) 4,
  op 48 (.move (.tmp 47)) 4,
  og 49 (.fieldAddr 42 (.tmp 5) 5) 0 48 false,
  ⟨(some 50), (.load 9 (.tmp 49)), 9, "", #[⟨0, .data⟩], (some (48, false))⟩,
  ⟨(some 51), (.call ⟨(.value (.func 48)), #[(.tmp 50)], #[9]⟩), 4, "", #[⟨0, .chain⟩], (some (48, false))⟩,
  og 52 (.unOp .not 4 (.tmp 51)) 4 48 false,
  op 53 (.pick (.tmp 48) (.const (.bool true)) (.tmp 52)) 4,
  op 54 (.move (.tmp 53)) 4,
  og 55 (.fieldAddr 42 (.tmp 5) 6) 0 54 false,
  ⟨(some 56), (.load 9 (.tmp 55)), 9, "", #[⟨0, .data⟩], (some (54, false))⟩,
  ⟨(some 57), (.call ⟨(.value (.func 48)), #[(.tmp 56)], #[9]⟩), 4, "", #[⟨0, .chain⟩], (some (54, false))⟩,
  og 58 (.unOp .not 4 (.tmp 57)) 4 54 false,
  op 59 (.pick (.tmp 54) (.const (.bool true)) (.tmp 58)) 4,
  op 37 (.assign (.tmp 59)) 4]
def F65.r6 : List Oper := [
  op 6 (.assign (.const (.int .u64 0))) 34,
  op 7 (.assign (.const (.int .i64 1))) 30]
def F65.r7 : List Oper := [
  op 61 (.fieldAddr 42 (.tmp 5) 2) 0,
  od 62 (.load 9 (.tmp 61)) 9,
  oc 63 (.call ⟨(.value (.func 93)), #[(.tmp 62)], #[9]⟩) 30,
  op 64 (.binOp .neq 30 (.tmp 63) (.const (.int .i64 0)) 30) 4,
  op 60 (.assign (.tmp 64)) 4]
def F65.r8 : List Oper := [
  op 6 (.assign (.const (.int .u64 0))) 34,
  op 7 (.assign (.const (.int .i64 50))) 30]
def F65.r9 : List Oper := [
  op 66 (.move (.tmp 10)) 4,
  op 65 (.assign (.tmp 66)) 4]
def F65.r10 : List Oper := [
  op 6 (.assign (.const (.int .u64 0))) 34,
  op 7 (.assign (.const (.int .i64 82))) 30]
def F65.r11 : List Oper := [
  ⟨(some 68), (.move (.tmp 0)), 27, "", #[], none⟩,
  ⟨(some 69), (.nilCheck (.tmp 68)), 0, "", #[], none⟩,
  ⟨(some 70), (.fieldAddr 100 (.tmp 69) 3), 0, "", #[], none⟩,
  ⟨(some 73), (.move (.tmp 0)), 27, "", #[], none⟩,
  ⟨(some 74), (.nilCheck (.tmp 73)), 0, "", #[], none⟩,
  ⟨(some 75), (.fieldAddr 100 (.tmp 74) 1), 0, "", #[], none⟩,
  ⟨(some 71), (.load 96 (.tmp 70)), 96, "", #[⟨0, .data⟩], none⟩,
  ⟨(some 72), (.call ⟨(.builtin .len), #[(.tmp 71)], #[96]⟩), 3, "", #[⟨0, .data⟩], none⟩,
  ⟨(some 76), (.load 3 (.tmp 75)), 3, "", #[⟨0, .data⟩], none⟩,
  ⟨(some 77), (.binOp .geq 3 (.tmp 72) (.tmp 76) 3), 4, "", #[], none⟩,
  ⟨(some 67), (.assign (.tmp 77)), 4, "", #[], none⟩]
def F65.r12 : List Oper := [
  op 6 (.assign (.const (.int .u64 0))) 34,
  op 7 (.assign (.const (.int .i64 83))) 30]
def F65.r13 : List Oper := [
  op 78 (.move (.tmp 0)) 27,
  op 79 (.nilCheck (.tmp 78)) 0,
  op 80 (.fieldAddr 100 (.tmp 79) 2) 0,
  od 81 (.load 34 (.tmp 80)) 34,
  op 11 (.assign (.tmp 81)) 34]
def F65.r14 : List Oper := [
  op 82 (.move (.tmp 0)) 27,
  op 83 (.nilCheck (.tmp 82)) 0,
  op 84 (.fieldAddr 100 (.tmp 83) 2) 0,
  od 85 (.load 34 (.tmp 84)) 34,
  op 86 (.binOp .add 34 (.tmp 85) (.const (.int .u64 1)) 34) 34,
  op 87 (.nilCheck (.tmp 82)) 0,
  op 88 (.fieldAddr 100 (.tmp 87) 2) 0,
  ⟨none, (.store 34 (.tmp 88) (.tmp 86)), 0, "", #[⟨0, .chain⟩], none⟩]
def F65.r15 : List Oper := [
  ⟨(some 89), (.move (.tmp 0)), 27, "", #[], none⟩,
  ⟨(some 90), (.nilCheck (.tmp 89)), 0, "", #[], none⟩,
  ⟨(some 91), (.fieldAddr 100 (.tmp 90) 3), 0, "", #[], none⟩,
  ⟨(some 93), (.move (.tmp 11)), 34, "", #[], none⟩,
  ⟨(some 94), (.move (.tmp 11)), 34, "", #[], none⟩,
  ⟨(some 95), (.fieldAddr 142 (.tmp 8) 0), 0, "", #[], none⟩,
  ⟨(some 97), (.fieldAddr 42 (.tmp 5) 2), 0, "", #[], none⟩,
  ⟨(some 99), (.fieldAddr 42 (.tmp 5) 3), 0, "", #[], none⟩,
  ⟨(some 101), (.fieldAddr 42 (.tmp 5) 4), 0, "", #[], none⟩,
  ⟨(some 103), (.fieldAddr 42 (.tmp 5) 5), 0, "", #[], none⟩,
  ⟨(some 105), (.fieldAddr 42 (.tmp 5) 6), 0, "", #[], none⟩,
  ⟨(some 107), (.fieldAddr 42 (.tmp 5) 7), 0, "", #[], none⟩,
  ⟨(some 109), (.fieldAddr 42 (.tmp 5) 8), 0, "", #[], none⟩,
  ⟨(some 92), (.load 96 (.tmp 91)), 96, "", #[⟨33554432, .data⟩], none⟩,
  ⟨(some 96), (.load 34 (.tmp 95)), 34, "", #[⟨50331648, .data⟩], none⟩,
  ⟨(some 98), (.load 9 (.tmp 97)), 9, "", #[⟨50331648, .data⟩], none⟩,
  ⟨(some 100), (.load 33 (.tmp 99)), 33, "", #[⟨50331648, .data⟩], none⟩,
  ⟨(some 102), (.load 9 (.tmp 101)), 9, "", #[⟨50331648, .data⟩], none⟩,
  ⟨(some 104), (.load 9 (.tmp 103)), 9, "", #[⟨50331648, .data⟩], none⟩,
  ⟨(some 106), (.load 9 (.tmp 105)), 9, "", #[⟨50331648, .data⟩], none⟩,
  ⟨(some 108), (.load 33 (.tmp 107)), 33, "", #[⟨50331648, .data⟩], none⟩,
  ⟨(some 110), (.load 33 (.tmp 109)), 33, "", #[⟨50331648, .data⟩], none⟩,
  ⟨(some 111), (.build 42 #[(0, (.tmp 94)), (1, (.tmp 96)), (2, (.tmp 98)), (3, (.tmp 100)), (4, (.tmp 102)), (5, (.tmp 104)), (6, (.tmp 106)), (7, (.tmp 108)), (8, (.tmp 110))]), 42, "", #[], none⟩,
  ⟨(some 112), (.build 104 #[(1, (.tmp 111))]), 104, "", #[], none⟩,
  ⟨(some 113), (.box 104 (.tmp 112)), 101, "", #[⟨24, .chain⟩], none⟩,
  ⟨none, (.mapUpdate 96 (.tmp 92) (.tmp 93) (.tmp 113)), 0, "", #[⟨25, .chain⟩], none⟩]
def F65.r16 : List Oper := [
  op 114 (.move (.tmp 0)) 27,
  op 115 (.move (.tmp 0)) 27,
  op 116 (.nilCheck (.tmp 115)) 0,
  op 117 (.fieldAddr 100 (.tmp 116) 4) 0,
  od 118 (.load 97 (.tmp 117)) 97,
  op 119 (.move (.tmp 11)) 34,
  oc 120 (.buildSlice 97 1 #[(0, (.tmp 119))]) 97,
  oc 121 (.call ⟨(.builtin .append), #[(.tmp 118), (.tmp 120)], #[97, 97]⟩) 97,
  op 122 (.nilCheck (.tmp 114)) 0,
  op 123 (.fieldAddr 100 (.tmp 122) 4) 0,
  ⟨none, (.store 97 (.tmp 123) (.tmp 121)), 0, "", #[⟨0, .chain⟩], none⟩]
def F65.r17 : List Oper := [
  ⟨(some 124), (.move (.tmp 0)), 27, "", #[], none⟩,
  ⟨(some 125), (.nilCheck (.tmp 124)), 0, "", #[], none⟩,
  ⟨(some 126), (.fieldAddr 100 (.tmp 125) 5), 0, "", #[], none⟩,
  ⟨(some 129), (.move (.tmp 11)), 34, "", #[], none⟩,
  ⟨(some 127), (.load 98 (.tmp 126)), 98, "", #[⟨64, .data⟩], none⟩,
  ⟨(some 128), (.load 142 (.tmp 8)), 142, "", #[⟨64, .data⟩], none⟩,
  ⟨none, (.mapUpdate 98 (.tmp 127) (.tmp 128) (.tmp 129)), 0, "", #[⟨6, .chain⟩], none⟩]
def F65.r18 : List Oper := [
  op 130 (.move (.tmp 1)) 101,
  op 131 (.move (.tmp 1)) 101,
  op 132 (.nilCheck (.tmp 131)) 0,
  op 133 (.fieldAddr 104 (.tmp 132) 2) 0,
  od 134 (.load 97 (.tmp 133)) 97,
  op 135 (.move (.tmp 11)) 34,
  oc 136 (.buildSlice 97 1 #[(0, (.tmp 135))]) 97,
  oc 137 (.call ⟨(.builtin .append), #[(.tmp 134), (.tmp 136)], #[97, 97]⟩) 97,
  op 138 (.nilCheck (.tmp 130)) 0,
  op 139 (.fieldAddr 104 (.tmp 138) 2) 0,
  ⟨none, (.store 97 (.tmp 139) (.tmp 137)), 0, "", #[⟨0, .chain⟩], none⟩]
def F65.r19 : List Oper := [
  op 140 (.move (.tmp 11)) 34,
  op 6 (.assign (.tmp 140)) 34,
  op 7 (.assign (.const (.int .i64 0))) 30]
def F65.t13 : Cd := (.seq (.region 13 F65.r13.toArray false) (.seq (.region 14 F65.r14.toArray false) (.seq (.region 15 F65.r15.toArray true) (.seq (.region 16 F65.r16.toArray false) (.seq (.region 17 F65.r17.toArray true) (.seq (.region 18 F65.r18.toArray false) (.seq (.region 19 F65.r19.toArray false) .ret)))))))
theorem F65.t13_eq {θ : Tag (F65.t13, Q, e, w)} : cwE P F65.t13 Q e w θ = cwE P (.seq (.region 13 F65.r13.toArray false) (.seq (.region 14 F65.r14.toArray false) (.seq (.region 15 F65.r15.toArray true) (.seq (.region 16 F65.r16.toArray false) (.seq (.region 17 F65.r17.toArray true) (.seq (.region 18 F65.r18.toArray false) (.seq (.region 19 F65.r19.toArray false) .ret))))))) Q e w := rfl
def F65.code : Cd := (.seq (.region 0 F65.r0.toArray false) (.seq (.region 1 F65.r1.toArray true) (.seq (.seq (.region 2 F65.r2.toArray true) (.block 0 (.seq (.region 3 F65.r3.toArray false) (.cond (.tmp 29) (.seq (.region 4 F65.r4.toArray false) .ret) (.seq (.region 5 F65.r5.toArray false) (.cond (.tmp 37) (.seq (.region 6 F65.r6.toArray false) .ret) (.seq (.region 7 F65.r7.toArray false) (.cond (.tmp 60) (.seq (.region 8 F65.r8.toArray false) .ret) (.seq (.region 9 F65.r9.toArray false) (.cond (.tmp 65) (.seq (.region 10 F65.r10.toArray false) .ret) (.seq (.region 11 F65.r11.toArray true) (.cond (.tmp 67) (.seq (.region 12 F65.r12.toArray false) .ret) .skip)))))))))))) F65.t13)))
theorem F65.calls (hn : args.size ≤ 141) (h : cwE Tryz.prog F65.code (fnP Tryz.prog #[(.tmp 6), (.tmp 7)] R) (entry args) w) : Calls Tryz.prog 65 args w R :=
  calls_of_cwE (types := Tryz.prog.types) follows Tryz.func65 F65.code rfl (by kernel_rfl) hn h
def F66.r0 : List Oper := [
  op 4 (.assign (.const (.int .u64 0))) 34,
  op 5 (.assign (.const (.int .i64 0))) 30]
def F66.r1 : List Oper := [
  op 8 (.move (.tmp 1)) 101,
  op 9 (.nilCheck (.tmp 8)) 0,
  op 10 (.fieldAddr 104 (.tmp 9) 1) 0,
  op 11 (.fieldAddr 42 (.tmp 10) 0) 0,
  od 12 (.load 34 (.tmp 11)) 34,
  op 6 (.assign (.tmp 12)) 34]
def F66.r2 : List Oper := [
  op 14 (.move (.tmp 6)) 34,
  op 15 (.binOp .eql 34 (.tmp 14) (.const (.int .u64 1)) 34) 4,
  op 13 (.assign (.tmp 15)) 4]
def F66.r3 : List Oper := [
  op 4 (.assign (.const (.int .u64 0))) 34,
  op 5 (.assign (.const (.int .i64 81))) 30]
def F66.r4 : List Oper := [
  op 17 (.move (.tmp 1)) 101,
  op 18 (.nilCheck (.tmp 17)) 0,
  op 19 (.fieldAddr 104 (.tmp 18) 2) 0,
  od 20 (.load 97 (.tmp 19)) 97,
  op 21 (.call ⟨(.builtin .len), #[(.tmp 20)], #[97]⟩) 3,
  op 22 (.binOp .gtr 3 (.tmp 21) (.const (.int .i64 0)) 3) 4,
  op 16 (.assign (.tmp 22)) 4]
def F66.r5 : List Oper := [
  op 4 (.assign (.const (.int .u64 0))) 34,
  op 5 (.assign (.const (.int .i64 85))) 30]
def F66.r6 : List Oper := [
  ⟨(some 23), (.move (.tmp 0)), 27, "", #[], none⟩,
  ⟨(some 24), (.nilCheck (.tmp 23)), 0, "", #[], none⟩,
  ⟨(some 25), (.fieldAddr 100 (.tmp 24) 3), 0, "", #[], none⟩,
  ⟨(some 27), (.move (.tmp 1)), 101, "", #[], none⟩,
  ⟨(some 28), (.nilCheck (.tmp 27)), 0, "", #[], none⟩,
  ⟨(some 29), (.fieldAddr 104 (.tmp 28) 1), 0, "", #[], none⟩,
  ⟨(some 30), (.fieldAddr 42 (.tmp 29) 1), 0, "", #[], none⟩,
  ⟨(some 26), (.load 96 (.tmp 25)), 96, "", #[⟨0, .data⟩], none⟩,
  ⟨(some 31), (.load 34 (.tmp 30)), 34, "", #[⟨0, .data⟩], none⟩,
  ⟨(some 32), (.lookup 96 (.tmp 26) (.tmp 31) false), 101, "", #[⟨0, .data⟩], none⟩,
  ⟨(some 7), (.assign (.tmp 32)), 101, "", #[], none⟩]
def F66.r7 : List Oper := [
  op 33 (.move (.tmp 7)) 101,
  op 34 (.move (.tmp 7)) 101,
  op 35 (.nilCheck (.tmp 34)) 0,
  op 36 (.fieldAddr 104 (.tmp 35) 2) 0,
  od 37 (.load 97 (.tmp 36)) 97,
  op 38 (.move (.tmp 6)) 34,
  oc 39 (.call ⟨(.value (.func 94)), #[(.tmp 37), (.tmp 38)], #[97, 34]⟩) 97,
  op 40 (.nilCheck (.tmp 33)) 0,
  op 41 (.fieldAddr 104 (.tmp 40) 2) 0,
  ⟨none, (.store 97 (.tmp 41) (.tmp 39)), 0, "", #[⟨0, .chain⟩], none⟩]
def F66.r8 : List Oper := [
  op 42 (.move (.tmp 0)) 27,
  op 43 (.move (.tmp 0)) 27,
  op 44 (.nilCheck (.tmp 43)) 0,
  op 45 (.fieldAddr 100 (.tmp 44) 4) 0,
  od 46 (.load 97 (.tmp 45)) 97,
  op 47 (.move (.tmp 6)) 34,
  oc 48 (.call ⟨(.value (.func 94)), #[(.tmp 46), (.tmp 47)], #[97, 34]⟩) 97,
  op 49 (.nilCheck (.tmp 42)) 0,
  op 50 (.fieldAddr 100 (.tmp 49) 4) 0,
  ⟨none, (.store 97 (.tmp 50) (.tmp 48)), 0, "", #[⟨0, .chain⟩], none⟩]
def F66.r9 : List Oper := [
  ⟨(some 51), (.move (.tmp 0)), 27, "", #[], none⟩,
  ⟨(some 52), (.nilCheck (.tmp 51)), 0, "", #[], none⟩,
  ⟨(some 53), (.fieldAddr 100 (.tmp 52) 5), 0, "", #[], none⟩,
  ⟨(some 55), (.move (.tmp 1)), 101, "", #[], none⟩,
  ⟨(some 56), (.nilCheck (.tmp 55)), 0, "", #[], none⟩,
  ⟨(some 57), (.fieldAddr 104 (.tmp 56) 1), 0, "", #[], none⟩,
  ⟨(some 58), (.fieldAddr 42 (.tmp 57) 1), 0, "", #[], none⟩,
  ⟨(some 60), (.move (.tmp 1)), 101, "", #[], none⟩,
  ⟨(some 61), (.nilCheck (.tmp 60)), 0, "", #[], none⟩,
  ⟨(some 62), (.fieldAddr 104 (.tmp 61) 1), 0, "", #[], none⟩,
  ⟨(some 63), (.fieldAddr 42 (.tmp 62) 2), 0, "", #[], none⟩,
  ⟨(some 54), (.load 98 (.tmp 53)), 98, "", #[⟨32768, .data⟩], none⟩,
  ⟨(some 59), (.load 34 (.tmp 58)), 34, "", #[⟨32768, .data⟩], none⟩,
  ⟨(some 64), (.load 9 (.tmp 63)), 9, "", #[⟨32768, .data⟩], none⟩,
  ⟨(some 65), (.build 142 #[(0, (.tmp 59)), (1, (.tmp 64))]), 142, "", #[], none⟩,
  ⟨none, (.call ⟨(.builtin .delete), #[(.tmp 54), (.tmp 65)], #[98, 142]⟩), 0, "", #[⟨15, .chain⟩], none⟩]
def F66.r10 : List Oper := [
  op 66 (.move (.tmp 0)) 27,
  op 67 (.nilCheck (.tmp 66)) 0,
  op 68 (.fieldAddr 100 (.tmp 67) 3) 0,
  od 69 (.load 96 (.tmp 68)) 96,
  op 70 (.move (.tmp 6)) 34,
  ⟨none, (.call ⟨(.builtin .delete), #[(.tmp 69), (.tmp 70)], #[96, 34]⟩), 0, "", #[⟨0, .chain⟩], none⟩]
def F66.r11 : List Oper := [
  op 71 (.move (.tmp 6)) 34,
  op 4 (.assign (.tmp 71)) 34,
  op 5 (.assign (.const (.int .i64 0))) 30]
def F66.t6 : Cd := (.seq (.region 6 F66.r6.toArray true) (.seq (.region 7 F66.r7.toArray false) (.seq (.region 8 F66.r8.toArray false) (.seq (.region 9 F66.r9.toArray true) (.seq (.region 10 F66.r10.toArray false) (.seq (.region 11 F66.r11.toArray false) .ret))))))
theorem F66.t6_eq {θ : Tag (F66.t6, Q, e, w)} : cwE P F66.t6 Q e w θ = cwE P (.seq (.region 6 F66.r6.toArray true) (.seq (.region 7 F66.r7.toArray false) (.seq (.region 8 F66.r8.toArray false) (.seq (.region 9 F66.r9.toArray true) (.seq (.region 10 F66.r10.toArray false) (.seq (.region 11 F66.r11.toArray false) .ret)))))) Q e w := rfl
def F66.code : Cd := (.seq (.region 0 F66.r0.toArray false) (.seq (.region 1 F66.r1.toArray false) (.seq (.block 0 (.seq (.region 2 F66.r2.toArray false) (.cond (.tmp 13) (.seq (.region 3 F66.r3.toArray false) .ret) (.seq (.region 4 F66.r4.toArray false) (.cond (.tmp 16) (.seq (.region 5 F66.r5.toArray false) .ret) .skip))))) F66.t6)))
theorem F66.calls (hn : args.size ≤ 72) (h : cwE Tryz.prog F66.code (fnP Tryz.prog #[(.tmp 4), (.tmp 5)] R) (entry args) w) : Calls Tryz.prog 66 args w R :=
  calls_of_cwE (types := Tryz.prog.types) follows Tryz.func66 F66.code rfl (by kernel_rfl) hn h
def F67.r0 : List Oper := [
  op 6 (.assign (.const (.int .u64 0))) 34,
  op 7 (.assign (.const (.int .i64 0))) 30]
def F67.r1 : List Oper := [
  op 12 (.move (.tmp 1)) 101,
  op 13 (.nilCheck (.tmp 12)) 0,
  op 14 (.fieldAddr 104 (.tmp 13) 1) 0,
  op 15 (.fieldAddr 42 (.tmp 14) 0) 0,
  od 16 (.load 34 (.tmp 15)) 34,
  op 8 (.assign (.tmp 16)) 34]
def F67.r2 : List Oper := [
  op 17 (.move (.tmp 1)) 101,
  op 18 (.nilCheck (.tmp 17)) 0,
  op 19 (.fieldAddr 104 (.tmp 18) 1) 0,
  op 20 (.fieldAddr 42 (.tmp 19) 1) 0,
  od 21 (.load 34 (.tmp 20)) 34,
  op 22 (.move (.tmp 2)) 9,
  op 23 (.build 142 #[(0, (.tmp 21)), (1, (.tmp 22))]) 142,
  oc 9 (.alloc 142) 0,
  ⟨none, (.store 142 (.tmp 9) (.tmp 23)), 0, "", #[⟨0, .chain⟩], none⟩]
def F67.r3 : List Oper := [
  ⟨(some 25), (.move (.tmp 0)), 27, "", #[], none⟩,
  ⟨(some 26), (.nilCheck (.tmp 25)), 0, "", #[], none⟩,
  ⟨(some 27), (.fieldAddr 100 (.tmp 26) 5), 0, "", #[], none⟩,
  ⟨(some 28), (.load 98 (.tmp 27)), 98, "", #[⟨0, .data⟩], none⟩,
  ⟨(some 29), (.load 142 (.tmp 9)), 142, "", #[⟨0, .data⟩], none⟩,
  ⟨(some 30), (.lookup 98 (.tmp 28) (.tmp 29) true), 117, "", #[⟨0, .data⟩], none⟩,
  ⟨(some 24), (.move (.tmp 30)), 117, "", #[], none⟩,
  ⟨(some 31), (.extract (.tmp 24) 0), 34, "", #[], none⟩,
  ⟨(some 32), (.extract (.tmp 24) 1), 4, "", #[], none⟩,
  ⟨(some 10), (.assign (.tmp 31)), 34, "", #[], none⟩,
  ⟨(some 11), (.assign (.tmp 32)), 4, "", #[], none⟩]
def F67.r4 : List Oper := [
  op 34 (.move (.tmp 8)) 34,
  op 35 (.binOp .eql 34 (.tmp 34) (.const (.int .u64 1)) 34) 4,
  op 33 (.assign (.tmp 35)) 4]
def F67.r5 : List Oper := [
  op 6 (.assign (.const (.int .u64 0))) 34,
  op 7 (.assign (.const (.int .i64 81))) 30]
def F67.r6 : List Oper := [
  op 37 (.move (.tmp 2)) 9,
  oc 38 (.call ⟨(.value (.func 93)), #[(.tmp 37)], #[9]⟩) 30,
  op 39 (.binOp .neq 30 (.tmp 38) (.const (.int .i64 0)) 30) 4,
  op 36 (.assign (.tmp 39)) 4]
def F67.r7 : List Oper := [
  op 6 (.assign (.const (.int .u64 0))) 34,
  op 7 (.assign (.const (.int .i64 50))) 30]
def F67.r8 : List Oper := [
  op 41 (.move (.tmp 11)) 4,
  op 42 (.move (.tmp 41)) 4,
  og 43 (.move (.tmp 10)) 34 42 true,
  og 44 (.move (.tmp 8)) 34 42 true,
  og 45 (.binOp .neq 34 (.tmp 43) (.tmp 44) 34) 4 42 true,
  op 46 (.pick (.tmp 42) (.tmp 45) (.const (.bool false))) 4,
  op 40 (.assign (.tmp 46)) 4]
def F67.r9 : List Oper := [
  op 6 (.assign (.const (.int .u64 0))) 34,
  op 7 (.assign (.const (.int .i64 82))) 30]
def F67.r10 : List Oper := [
  ⟨(some 47), (.move (.tmp 0)), 27, "", #[], none⟩,
  ⟨(some 48), (.nilCheck (.tmp 47)), 0, "", #[], none⟩,
  ⟨(some 49), (.fieldAddr 100 (.tmp 48) 5), 0, "", #[], none⟩,
  ⟨(some 51), (.move (.tmp 1)), 101, "", #[], none⟩,
  ⟨(some 52), (.nilCheck (.tmp 51)), 0, "", #[], none⟩,
  ⟨(some 53), (.fieldAddr 104 (.tmp 52) 1), 0, "", #[], none⟩,
  ⟨(some 54), (.fieldAddr 42 (.tmp 53) 1), 0, "", #[], none⟩,
  ⟨(some 56), (.move (.tmp 1)), 101, "", #[], none⟩,
  ⟨(some 57), (.nilCheck (.tmp 56)), 0, "", #[], none⟩,
  ⟨(some 58), (.fieldAddr 104 (.tmp 57) 1), 0, "", #[], none⟩,
  ⟨(some 59), (.fieldAddr 42 (.tmp 58) 2), 0, "", #[], none⟩,
  ⟨(some 50), (.load 98 (.tmp 49)), 98, "", #[⟨32768, .data⟩], none⟩,
  ⟨(some 55), (.load 34 (.tmp 54)), 34, "", #[⟨32768, .data⟩], none⟩,
  ⟨(some 60), (.load 9 (.tmp 59)), 9, "", #[⟨32768, .data⟩], none⟩,
  ⟨(some 61), (.build 142 #[(0, (.tmp 55)), (1, (.tmp 60))]), 142, "", #[], none⟩,
  ⟨none, (.call ⟨(.builtin .delete), #[(.tmp 50), (.tmp 61)], #[98, 142]⟩), 0, "", #[⟨15, .chain⟩], none⟩]
def F67.r11 : List Oper := [
  ⟨(some 62), (.move (.tmp 0)), 27, "", #[], none⟩,
  ⟨(some 63), (.nilCheck (.tmp 62)), 0, "", #[], none⟩,
  ⟨(some 64), (.fieldAddr 100 (.tmp 63) 5), 0, "", #[], none⟩,
  ⟨(some 67), (.move (.tmp 8)), 34, "", #[], none⟩,
  ⟨(some 65), (.load 98 (.tmp 64)), 98, "", #[⟨64, .data⟩], none⟩,
  ⟨(some 66), (.load 142 (.tmp 9)), 142, "", #[⟨64, .data⟩], none⟩,
  ⟨none, (.mapUpdate 98 (.tmp 65) (.tmp 66) (.tmp 67)), 0, "", #[⟨6, .chain⟩], none⟩]
def F67.r12 : List Oper := [
  op 68 (.move (.tmp 1)) 101,
  op 69 (.move (.tmp 2)) 9,
  op 70 (.nilCheck (.tmp 68)) 0,
  op 71 (.fieldAddr 104 (.tmp 70) 1) 0,
  op 72 (.fieldAddr 42 (.tmp 71) 2) 0,
  ⟨none, (.store 9 (.tmp 72) (.tmp 69)), 0, "", #[⟨0, .chain⟩], none⟩]
def F67.r13 : List Oper := [
  op 73 (.move (.tmp 8)) 34,
  op 6 (.assign (.tmp 73)) 34,
  op 7 (.assign (.const (.int .i64 0))) 30]
def F67.t10 : Cd := (.seq (.region 10 F67.r10.toArray true) (.seq (.region 11 F67.r11.toArray true) (.seq (.region 12 F67.r12.toArray false) (.seq (.region 13 F67.r13.toArray false) .ret))))
theorem F67.t10_eq {θ : Tag (F67.t10, Q, e, w)} : cwE P F67.t10 Q e w θ = cwE P (.seq (.region 10 F67.r10.toArray true) (.seq (.region 11 F67.r11.toArray true) (.seq (.region 12 F67.r12.toArray false) (.seq (.region 13 F67.r13.toArray false) .ret)))) Q e w := rfl
def F67.code : Cd := (.seq (.region 0 F67.r0.toArray false) (.seq (.region 1 F67.r1.toArray false) (.seq (.region 2 F67.r2.toArray false) (.seq (.seq (.region 3 F67.r3.toArray true) (.block 0 (.seq (.region 4 F67.r4.toArray false) (.cond (.tmp 33) (.seq (.region 5 F67.r5.toArray false) .ret) (.seq (.region 6 F67.r6.toArray false) (.cond (.tmp 36) (.seq (.region 7 F67.r7.toArray false) .ret) (.seq (.region 8 F67.r8.toArray false) (.cond (.tmp 40) (.seq (.region 9 F67.r9.toArray false) .ret) .skip)))))))) F67.t10))))
theorem F67.calls (hn : args.size ≤ 74) (h : cwE Tryz.prog F67.code (fnP Tryz.prog #[(.tmp 6), (.tmp 7)] R) (entry args) w) : Calls Tryz.prog 67 args w R :=
  calls_of_cwE (types := Tryz.prog.types) follows Tryz.func67 F67.code rfl (by kernel_rfl) hn h
def F78.r0 : List Oper := [
  op 2 (.assign (.const (.bool false))) 4]
def F78.r1 : List Oper := [
  op 3 (.move (.tmp 0)) 33,
  op 4 (.binOp .andNot 33 (.tmp 3) (.const (.int .u32 3825205759)) 33) 33,
  op 5 (.binOp .eql 33 (.tmp 4) (.const (.int .u32 0)) 33) 4,
  op 2 (.assign (.tmp 5)) 4]
def F78.code : Cd := (.seq (.region 0 F78.r0.toArray false) (.seq (.region 1 F78.r1.toArray false) .ret))
theorem F78.calls (hn : args.size ≤ 6) (h : cwE Tryz.prog F78.code (fnP Tryz.prog #[(.tmp 2)] R) (entry args) w) : Calls Tryz.prog 78 args w R :=
  calls_of_cwE (types := Tryz.prog.types) follows Tryz.func78 F78.code rfl (by kernel_rfl) hn h
def F79.r0 : List Oper := [
  oc 1 (.box 42 (.tmp 0)) 0,
  op 2 (.assign (.const (.bool false))) 4]
def F79.r1 : List Oper := [
  op 3 (.fieldAddr 42 (.tmp 1) 3) 0,
  od 4 (.load 33 (.tmp 3)) 33,
  op 5 (.binOp .geq 33 (.tmp 4) (.const (.int .u32 2147483648)) 33) 4,
  op 2 (.assign (.tmp 5)) 4]
def F79.code : Cd := (.seq (.region 0 F79.r0.toArray false) (.seq (.region 1 F79.r1.toArray false) .ret))
theorem F79.calls (hn : args.size ≤ 6) (h : cwE Tryz.prog F79.code (fnP Tryz.prog #[(.tmp 2)] R) (entry args) w) : Calls Tryz.prog 79 args w R :=
  calls_of_cwE (types := Tryz.prog.types) follows Tryz.func79 F79.code rfl (by kernel_rfl) hn h
def F80.r0 : List Oper := [
  op 2 (.assign (.const (.bool false))) 4]
def F80.r1 : List Oper := [
  op 3 (.move (.tmp 0)) 33,
  op 4 (.binOp .andNot 33 (.tmp 3) (.const (.int .u32 3825205759)) 33) 33,
  op 0 (.assign (.tmp 4)) 33]
def F80.r2 : List Oper := [
  op 5 (.move (.tmp 0)) 33,
  op 6 (.binOp .eql 33 (.tmp 5) (.const (.int .u32 0)) 33) 4,
  op 2 (.assign (.tmp 6)) 4]
def F80.code : Cd := (.seq (.region 0 F80.r0.toArray false) (.seq (.region 1 F80.r1.toArray false) (.seq (.region 2 F80.r2.toArray false) .ret)))
theorem F80.calls (hn : args.size ≤ 7) (h : cwE Tryz.prog F80.code (fnP Tryz.prog #[(.tmp 2)] R) (entry args) w) : Calls Tryz.prog 80 args w R :=
  calls_of_cwE (types := Tryz.prog.types) follows Tryz.func80 F80.code rfl (by kernel_rfl) hn h
def F81.r0 : List Oper := [
  op 2 (.assign (.const (.int .i64 0))) 30]
def F81.r1 : List Oper := [
  op 5 (.move (.tmp 0)) 9,
  oc 6 (.call ⟨(.value (.func 62)), #[(.tmp 5)], #[9]⟩) 4,
  op 3 (.assign (.tmp 6)) 4]
def F81.r2 : List Oper := [
  op 7 (.move (.tmp 0)) 9,
  op 8 (.binOp .eql 9 (.tmp 7) (.const (.string { data := #[] })) 9) 4,
  op 9 (.move (.tmp 8)) 4,
  og 10 (.move (.tmp 0)) 9 9 false,
  og 11 (.binOp .eql 9 (.tmp 10) (.const (.string { data := #[46] })) 9) 4 9 false,
  op 12 (.pick (.tmp 9) (.const (.bool true)) (.tmp 11)) 4,
  op 13 (.move (.tmp 12)) 4,
  og 14 (.move (.tmp 0)) 9 13 false,
  og 15 (.binOp .eql 9 (.tmp 14) (.const (.string { data := #[46, 46] })) 9) 4 13 false,
  op 16 (.pick (.tmp 13) (.const (.bool true)) (.tmp 15)) 4,
  op 17 (.move (.tmp 16)) 4,
  og 18 (.move (.tmp 3)) 4 17 false,
  og 19 (.unOp .not 4 (.tmp 18)) 4 17 false,
  op 20 (.pick (.tmp 17) (.const (.bool true)) (.tmp 19)) 4,
  op 21 (.move (.tmp 20)) 4,
  og 22 (.move (.tmp 0)) 9 21 false,
  og 23 (.call ⟨(.builtin .len), #[(.tmp 22)], #[9]⟩) 3 21 false,
  og 24 (.binOp .gtr 3 (.tmp 23) (.const (.int .i64 255)) 3) 4 21 false,
  op 25 (.pick (.tmp 21) (.const (.bool true)) (.tmp 24)) 4]
def F81.r3 : List Oper := [
  op 2 (.assign (.const (.int .i64 50))) 30]
def F81.r4 : List Oper := [
  op 4 (.assign (.const (.int .i64 0))) 3]
def F81.r5 : List Oper := [
  op 26 (.move (.tmp 4)) 3,
  op 27 (.move (.tmp 0)) 9,
  op 28 (.call ⟨(.builtin .len), #[(.tmp 27)], #[9]⟩) 3,
  op 29 (.binOp .lss 3 (.tmp 26) (.tmp 28) 3) 4]
def F81.r7 : List Oper := [
  op 32 (.move (.tmp 0)) 9,
  op 33 (.move (.tmp 4)) 3,
  op 34 (.index 9 (.tmp 32) (.tmp 33)) 5,
  op 35 (.binOp .eql 5 (.tmp 34) (.const (.int .u8 47)) 5) 4]
def F81.r8 : List Oper := [
  op 2 (.assign (.const (.int .i64 50))) 30]
def F81.r6 : List Oper := [
  op 30 (.move (.tmp 4)) 3,
  op 31 (.binOp .add 3 (.tmp 30) (.const (.int .i64 1)) 3) 3,
  op 4 (.assign (.tmp 31)) 3]
def F81.r9 : List Oper := [
  op 2 (.assign (.const (.int .i64 0))) 30]
def F81.t6 : Cd := (.region 6 F81.r6.toArray false)
theorem F81.t6_eq {θ : Tag (F81.t6, Q, e, w)} : cwE P F81.t6 Q e w θ = cwE P (.region 6 F81.r6.toArray false) Q e w := rfl
def F81.t7 : Cd := (.seq (.block 1 (.seq (.region 7 F81.r7.toArray false) (.cond (.tmp 35) (.seq (.region 8 F81.r8.toArray false) .ret) .skip))) F81.t6)
theorem F81.t7_eq {θ : Tag (F81.t7, Q, e, w)} : cwE P F81.t7 Q e w θ = cwE P (.seq (.block 1 (.seq (.region 7 F81.r7.toArray false) (.cond (.tmp 35) (.seq (.region 8 F81.r8.toArray false) .ret) .skip))) F81.t6) Q e w := rfl
def F81.t9 : Cd := (.seq (.region 9 F81.r9.toArray false) .ret)
theorem F81.t9_eq {θ : Tag (F81.t9, Q, e, w)} : cwE P F81.t9 Q e w θ = cwE P (.seq (.region 9 F81.r9.toArray false) .ret) Q e w := rfl
def F81.t4 : Cd := (.seq (.seq (.region 4 F81.r4.toArray false) (.block 0 (.loop (.seq (.seq (.region 5 F81.r5.toArray false) (.cond (.tmp 29) .skip (.exit 0))) F81.t7)))) F81.t9)
theorem F81.t4_eq {θ : Tag (F81.t4, Q, e, w)} : cwE P F81.t4 Q e w θ = cwE P (.seq (.seq (.region 4 F81.r4.toArray false) (.block 0 (.loop (.seq (.seq (.region 5 F81.r5.toArray false) (.cond (.tmp 29) .skip (.exit 0))) F81.t7)))) F81.t9) Q e w := rfl
def F81.code : Cd := (.seq (.region 0 F81.r0.toArray false) (.seq (.region 1 F81.r1.toArray false) (.seq (.seq (.region 2 F81.r2.toArray false) (.cond (.tmp 25) (.seq (.region 3 F81.r3.toArray false) .ret) .skip)) F81.t4)))
theorem F81.calls (hn : args.size ≤ 36) (h : cwE Tryz.prog F81.code (fnP Tryz.prog #[(.tmp 2)] R) (entry args) w) : Calls Tryz.prog 81 args w R :=
  calls_of_cwE (types := Tryz.prog.types) follows Tryz.func81 F81.code rfl (by kernel_rfl) hn h
def F82.r0 : List Oper := [
  op 4 (.assign (.const (.bool false))) 4]
def F82.r1 : List Oper := [
  op 5 (.move (.tmp 0)) 40,
  op 6 (.move (.tmp 1)) 40,
  op 7 (.binOp .and 40 (.tmp 5) (.tmp 6) 40) 40,
  op 8 (.binOp .neq 40 (.tmp 7) (.const (.int .u8 0)) 40) 4,
  op 4 (.assign (.tmp 8)) 4]
def F82.code : Cd := (.seq (.region 0 F82.r0.toArray false) (.seq (.region 1 F82.r1.toArray false) .ret))
theorem F82.calls (hn : args.size ≤ 9) (h : cwE Tryz.prog F82.code (fnP Tryz.prog #[(.tmp 4)] R) (entry args) w) : Calls Tryz.prog 82 args w R :=
  calls_of_cwE (types := Tryz.prog.types) follows Tryz.func82 F82.code rfl (by kernel_rfl) hn h
def F83.r0 : List Oper := [
  op 4 (.assign (.const (.int .u64 0))) 34,
  op 5 (.assign (.const (.bool false))) 4]
def F83.r1 : List Oper := [
  op 9 (.move (.tmp 0)) 97,
  op 10 (.move (.tmp 1)) 34,
  oc 11 (.call ⟨(.value (.func 99)), #[(.tmp 9), (.tmp 10)], #[97, 34]⟩) 153,
  op 8 (.move (.tmp 11)) 153,
  op 12 (.extract (.tmp 8) 0) 3,
  op 13 (.extract (.tmp 8) 1) 4,
  op 6 (.assign (.tmp 12)) 3,
  op 7 (.assign (.tmp 13)) 4]
def F83.r2 : List Oper := [
  op 14 (.move (.tmp 7)) 4]
def F83.r3 : List Oper := [
  op 15 (.move (.tmp 6)) 3,
  op 16 (.binOp .add 3 (.tmp 15) (.const (.int .i64 1)) 3) 3,
  op 6 (.assign (.tmp 16)) 3]
def F83.r4 : List Oper := [
  op 17 (.move (.tmp 6)) 3,
  op 18 (.move (.tmp 0)) 97,
  op 19 (.call ⟨(.builtin .len), #[(.tmp 18)], #[97]⟩) 3,
  op 20 (.binOp .eql 3 (.tmp 17) (.tmp 19) 3) 4]
def F83.r5 : List Oper := [
  op 4 (.assign (.const (.int .u64 0))) 34,
  op 5 (.assign (.const (.bool false))) 4]
def F83.r6 : List Oper := [
  op 21 (.move (.tmp 0)) 97,
  op 22 (.move (.tmp 6)) 3,
  op 23 (.indexAddr 97 (.tmp 21) (.tmp 22)) 0,
  od 24 (.load 34 (.tmp 23)) 34,
  op 4 (.assign (.tmp 24)) 34,
  op 5 (.assign (.const (.bool true))) 4]
def F83.t6 : Cd := (.seq (.region 6 F83.r6.toArray false) .ret)
theorem F83.t6_eq {θ : Tag (F83.t6, Q, e, w)} : cwE P F83.t6 Q e w θ = cwE P (.seq (.region 6 F83.r6.toArray false) .ret) Q e w := rfl
def F83.t4 : Cd := (.seq (.seq (.region 4 F83.r4.toArray false) (.cond (.tmp 20) (.seq (.region 5 F83.r5.toArray false) .ret) .skip)) F83.t6)
theorem F83.t4_eq {θ : Tag (F83.t4, Q, e, w)} : cwE P F83.t4 Q e w θ = cwE P (.seq (.seq (.region 4 F83.r4.toArray false) (.cond (.tmp 20) (.seq (.region 5 F83.r5.toArray false) .ret) .skip)) F83.t6) Q e w := rfl
def F83.code : Cd := (.seq (.region 0 F83.r0.toArray false) (.seq (.region 1 F83.r1.toArray false) (.seq (.seq (.region 2 F83.r2.toArray false) (.cond (.tmp 14) (.region 3 F83.r3.toArray false) .skip)) F83.t4)))
theorem F83.calls (hn : args.size ≤ 25) (h : cwE Tryz.prog F83.code (fnP Tryz.prog #[(.tmp 4), (.tmp 5)] R) (entry args) w) : Calls Tryz.prog 83 args w R :=
  calls_of_cwE (types := Tryz.prog.types) follows Tryz.func83 F83.code rfl (by kernel_rfl) hn h
def F84.r0 : List Oper := [
  op 2 (.assign (.const (.bool false))) 4]
def F84.r1 : List Oper := [
  op 3 (.move (.tmp 0)) 9,
  oc 4 (.call ⟨(.value (.func 100)), #[(.tmp 3)], #[9]⟩) 3,
  op 5 (.binOp .lss 3 (.tmp 4) (.const (.int .i64 0)) 3) 4,
  op 2 (.assign (.tmp 5)) 4]
def F84.code : Cd := (.seq (.region 0 F84.r0.toArray false) (.seq (.region 1 F84.r1.toArray false) .ret))
theorem F84.calls (hn : args.size ≤ 6) (h : cwE Tryz.prog F84.code (fnP Tryz.prog #[(.tmp 2)] R) (entry args) w) : Calls Tryz.prog 84 args w R :=
  calls_of_cwE (types := Tryz.prog.types) follows Tryz.func84 F84.code rfl (by kernel_rfl) hn h
def F85.r0 : List Oper := [
  op 8 (.assign (.const (.slice none 0 0))) 43]
def F85.r1 : List Oper := [
  op 12 (.move (.tmp 0)) 29,
  op 13 (.move (.tmp 1)) 34,
  oc 14 (.call ⟨(.value (.func 38)), #[(.tmp 12), (.tmp 13)], #[29, 34]⟩) 3,
  op 9 (.assign (.tmp 14)) 3]
def F85.r2 : List Oper := [
  op 15 (.move (.tmp 9)) 3,
  op 16 (.binOp .lss 3 (.tmp 15) (.const (.int .i64 0)) 3) 4,
  op 17 (.move (.tmp 16)) 4,
  og 18 (.move (.tmp 3)) 3 17 false,
  og 19 (.binOp .leq 3 (.tmp 18) (.const (.int .i64 0)) 3) 4 17 false,
  op 20 (.pick (.tmp 17) (.const (.bool true)) (.tmp 19)) 4,
  op 21 (.move (.tmp 20)) 4,
  og 22 (.move (.tmp 2)) 34 21 false,
  og 23 (.move (.tmp 0)) 29 21 false,
  og 24 (.nilCheck (.tmp 23)) 0 21 false,
  og 25 (.fieldAddr 84 (.tmp 24) 2) 0 21 false,
  ⟨(some 26), (.load 82 (.tmp 25)), 82, "", #[⟨0, .data⟩], (some (21, false))⟩,
  og 27 (.move (.tmp 9)) 3 21 false,
  og 28 (.indexAddr 82 (.tmp 26) (.tmp 27)) 0 21 false,
  og 29 (.fieldAddr 81 (.tmp 28) 1) 0 21 false,
  ⟨(some 30), (.load 43 (.tmp 29)), 43, "", #[⟨0, .data⟩], (some (21, false))⟩,
  og 31 (.call ⟨(.builtin .len), #[(.tmp 30)], #[43]⟩) 3 21 false,
  og 32 (.convert 3 34 (.tmp 31)) 34 21 false,
  og 33 (.binOp .geq 34 (.tmp 22) (.tmp 32) 34) 4 21 false,
  op 34 (.pick (.tmp 21) (.const (.bool true)) (.tmp 33)) 4]
def F85.r3 : List Oper := [
  op 8 (.assign (.const (.slice none 0 0))) 43]
def F85.r4 : List Oper := [
  op 35 (.move (.tmp 0)) 29,
  op 36 (.nilCheck (.tmp 35)) 0,
  op 37 (.fieldAddr 84 (.tmp 36) 2) 0,
  od 38 (.load 82 (.tmp 37)) 82,
  op 39 (.move (.tmp 9)) 3,
  op 40 (.indexAddr 82 (.tmp 38) (.tmp 39)) 0,
  op 41 (.fieldAddr 81 (.tmp 40) 1) 0,
  od 42 (.load 43 (.tmp 41)) 43,
  op 43 (.move (.tmp 2)) 34,
  op 44 (.convert 34 3 (.tmp 43)) 3,
  op 45 (.slice 43 (.tmp 42) (some (.tmp 44)) none none) 43,
  op 10 (.assign (.tmp 45)) 43]
def F85.r5 : List Oper := [
  op 46 (.move (.tmp 10)) 43,
  op 47 (.call ⟨(.builtin .len), #[(.tmp 46)], #[43]⟩) 3,
  op 48 (.move (.tmp 3)) 3,
  op 49 (.binOp .gtr 3 (.tmp 47) (.tmp 48) 3) 4]
def F85.r6 : List Oper := [
  op 50 (.move (.tmp 10)) 43,
  op 51 (.move (.tmp 3)) 3,
  op 52 (.slice 43 (.tmp 50) none (some (.tmp 51)) none) 43,
  op 10 (.assign (.tmp 52)) 43]
def F85.r7 : List Oper := [
  op 11 (.assign (.const (.slice none 0 0))) 43]
def F85.r8 : List Oper := [
  op 53 (.move (.tmp 11)) 43,
  op 54 (.move (.tmp 10)) 43,
  oc 55 (.call ⟨(.builtin .append), #[(.tmp 53), (.tmp 54)], #[43, 43]⟩) 43,
  op 8 (.assign (.tmp 55)) 43]
def F85.t7 : Cd := (.seq (.region 7 F85.r7.toArray false) (.seq (.region 8 F85.r8.toArray false) .ret))
theorem F85.t7_eq {θ : Tag (F85.t7, Q, e, w)} : cwE P F85.t7 Q e w θ = cwE P (.seq (.region 7 F85.r7.toArray false) (.seq (.region 8 F85.r8.toArray false) .ret)) Q e w := rfl
def F85.t4 : Cd := (.seq (.region 4 F85.r4.toArray false) (.seq (.seq (.region 5 F85.r5.toArray false) (.cond (.tmp 49) (.region 6 F85.r6.toArray false) .skip)) F85.t7))
theorem F85.t4_eq {θ : Tag (F85.t4, Q, e, w)} : cwE P F85.t4 Q e w θ = cwE P (.seq (.region 4 F85.r4.toArray false) (.seq (.seq (.region 5 F85.r5.toArray false) (.cond (.tmp 49) (.region 6 F85.r6.toArray false) .skip)) F85.t7)) Q e w := rfl
def F85.code : Cd := (.seq (.region 0 F85.r0.toArray false) (.seq (.region 1 F85.r1.toArray false) (.seq (.seq (.region 2 F85.r2.toArray false) (.cond (.tmp 34) (.seq (.region 3 F85.r3.toArray false) .ret) .skip)) F85.t4)))
theorem F85.calls (hn : args.size ≤ 56) (h : cwE Tryz.prog F85.code (fnP Tryz.prog #[(.tmp 8)] R) (entry args) w) : Calls Tryz.prog 85 args w R :=
  calls_of_cwE (types := Tryz.prog.types) follows Tryz.func85 F85.code rfl (by kernel_rfl) hn h
def F86.r0 : List Oper := [
  op 10 (.move (.tmp 0)) 61,
  op 11 (.nilCheck (.tmp 10)) 0,
  op 12 (.fieldAddr 66 (.tmp 11) 2) 0,
  od 13 (.load 64 (.tmp 12)) 64,
  op 14 (.call ⟨(.builtin .len), #[(.tmp 13)], #[64]⟩) 3,
  op 15 (.binOp .gtr 3 (.tmp 14) (.const (.int .i64 60)) 3) 4]
def F86.r1 : List Oper := [
  op 16 (.move (.tmp 0)) 61,
  op 17 (.nilCheck (.tmp 16)) 0,
  op 18 (.fieldAddr 66 (.tmp 17) 2) 0,
  ⟨none, (.store 64 (.tmp 18) (.const (.slice none 0 0))), 0, "", #[⟨0, .chain⟩], none⟩]
def F86.r2 : List Oper := [
  op 19 (.move (.tmp 0)) 61,
  op 20 (.nilCheck (.tmp 19)) 0,
  op 21 (.fieldAddr 66 (.tmp 20) 2) 0,
  od 22 (.load 64 (.tmp 21)) 64,
  op 23 (.call ⟨(.builtin .len), #[(.tmp 22)], #[64]⟩) 3,
  op 24 (.binOp .quo 3 (.tmp 23) (.const (.int .i64 2)) 3) 3,
  op 4 (.assign (.tmp 24)) 3]
def F86.r3 : List Oper := [
  op 5 (.assign (.const (.int .i64 0))) 3]
def F86.r4 : List Oper := [
  op 25 (.move (.tmp 5)) 3,
  op 26 (.move (.tmp 1)) 64,
  op 27 (.call ⟨(.builtin .len), #[(.tmp 26)], #[64]⟩) 3,
  op 28 (.binOp .lss 3 (.tmp 25) (.tmp 27) 3) 4]
def F86.r6 : List Oper := [
  op 6 (.assign (.const (.int .i64 0))) 3]
def F86.r7 : List Oper := [
  op 31 (.move (.tmp 6)) 3,
  op 32 (.move (.tmp 1)) 64,
  op 33 (.move (.tmp 5)) 3,
  op 34 (.indexAddr 64 (.tmp 32) (.tmp 33)) 0,
  od 35 (.load 43 (.tmp 34)) 43,
  op 36 (.call ⟨(.builtin .len), #[(.tmp 35)], #[43]⟩) 3,
  op 37 (.binOp .lss 3 (.tmp 31) (.tmp 36) 3) 4]
def F86.r9 : List Oper := [
  op 40 (.move (.tmp 1)) 64,
  op 41 (.move (.tmp 5)) 3,
  op 42 (.indexAddr 64 (.tmp 40) (.tmp 41)) 0,
  od 43 (.load 43 (.tmp 42)) 43,
  op 44 (.move (.tmp 6)) 3,
  op 45 (.move (.tmp 4)) 3,
  op 46 (.binOp .add 3 (.const (.int .i64 1)) (.tmp 45) 3) 3,
  op 47 (.move (.tmp 5)) 3,
  op 48 (.binOp .add 3 (.tmp 46) (.tmp 47) 3) 3,
  op 49 (.convert 3 5 (.tmp 48)) 5,
  op 50 (.indexAddr 43 (.tmp 43) (.tmp 44)) 0,
  ⟨none, (.store 5 (.tmp 50) (.tmp 49)), 0, "", #[⟨0, .chain⟩], none⟩]
def F86.r8 : List Oper := [
  op 38 (.move (.tmp 6)) 3,
  op 39 (.binOp .add 3 (.tmp 38) (.const (.int .i64 1)) 3) 3,
  op 6 (.assign (.tmp 39)) 3]
def F86.r5 : List Oper := [
  op 29 (.move (.tmp 5)) 3,
  op 30 (.binOp .add 3 (.tmp 29) (.const (.int .i64 1)) 3) 3,
  op 5 (.assign (.tmp 30)) 3]
def F86.r10 : List Oper := [
  op 7 (.assign (.const (.int .i64 0))) 3]
def F86.r11 : List Oper := [
  op 51 (.move (.tmp 7)) 3,
  op 52 (.move (.tmp 1)) 64,
  op 53 (.call ⟨(.builtin .len), #[(.tmp 52)], #[64]⟩) 3,
  op 54 (.binOp .lss 3 (.tmp 51) (.tmp 53) 3) 4]
def F86.r13 : List Oper := [
  op 57 (.move (.tmp 1)) 64,
  op 58 (.move (.tmp 7)) 3,
  op 59 (.indexAddr 64 (.tmp 57) (.tmp 58)) 0,
  od 60 (.load 43 (.tmp 59)) 43,
  op 8 (.assign (.tmp 60)) 43]
def F86.r14 : List Oper := [
  op 9 (.assign (.const (.int .i64 0))) 3]
def F86.r15 : List Oper := [
  op 61 (.move (.tmp 9)) 3,
  op 62 (.binOp .lss 3 (.tmp 61) (.const (.int .i64 64)) 3) 4]
def F86.r17 : List Oper := [
  op 65 (.move (.tmp 8)) 43,
  op 66 (.move (.tmp 4)) 3,
  op 67 (.binOp .add 3 (.const (.int .i64 1)) (.tmp 66) 3) 3,
  op 68 (.move (.tmp 7)) 3,
  op 69 (.binOp .add 3 (.tmp 67) (.tmp 68) 3) 3,
  op 70 (.convert 3 5 (.tmp 69)) 5,
  oc 71 (.buildSlice 43 1 #[(0, (.tmp 70))]) 43,
  oc 72 (.call ⟨(.builtin .append), #[(.tmp 65), (.tmp 71)], #[43, 43]⟩) 43,
  op 8 (.assign (.tmp 72)) 43]
def F86.r16 : List Oper := [
  op 63 (.move (.tmp 9)) 3,
  op 64 (.binOp .add 3 (.tmp 63) (.const (.int .i64 1)) 3) 3,
  op 9 (.assign (.tmp 64)) 3]
def F86.r18 : List Oper := [
  ⟨(some 73), (.move (.tmp 0)), 61, "", #[], none⟩,
  ⟨(some 74), (.move (.tmp 0)), 61, "", #[], none⟩,
  ⟨(some 75), (.nilCheck (.tmp 74)), 0, "", #[], none⟩,
  ⟨(some 76), (.fieldAddr 66 (.tmp 75) 2), 0, "", #[], none⟩,
  ⟨(some 78), (.move (.tmp 1)), 64, "", #[], none⟩,
  ⟨(some 79), (.move (.tmp 7)), 3, "", #[], none⟩,
  ⟨(some 80), (.indexAddr 64 (.tmp 78) (.tmp 79)), 0, "", #[], none⟩,
  ⟨(some 82), (.move (.tmp 8)), 43, "", #[], none⟩,
  ⟨(some 77), (.load 64 (.tmp 76)), 64, "", #[⟨18432, .data⟩], none⟩,
  ⟨(some 81), (.load 43 (.tmp 80)), 43, "", #[⟨19456, .data⟩], none⟩,
  ⟨(some 83), (.buildSlice 64 2 #[(0, (.tmp 81)), (1, (.tmp 82))]), 64, "", #[⟨10, .chain⟩], none⟩,
  ⟨(some 84), (.call ⟨(.builtin .append), #[(.tmp 77), (.tmp 83)], #[64, 64]⟩), 64, "", #[⟨11, .chain⟩], none⟩,
  ⟨(some 85), (.nilCheck (.tmp 73)), 0, "", #[], none⟩,
  ⟨(some 86), (.fieldAddr 66 (.tmp 85) 2), 0, "", #[], none⟩,
  ⟨none, (.store 64 (.tmp 86) (.tmp 84)), 0, "", #[⟨14, .chain⟩], none⟩]
def F86.r12 : List Oper := [
  op 55 (.move (.tmp 7)) 3,
  op 56 (.binOp .add 3 (.tmp 55) (.const (.int .i64 1)) 3) 3,
  op 7 (.assign (.tmp 56)) 3]
def F86.t8 : Cd := (.region 8 F86.r8.toArray false)
theorem F86.t8_eq {θ : Tag (F86.t8, Q, e, w)} : cwE P F86.t8 Q e w θ = cwE P (.region 8 F86.r8.toArray false) Q e w := rfl
def F86.t9 : Cd := (.seq (.block 3 (.region 9 F86.r9.toArray false)) F86.t8)
theorem F86.t9_eq {θ : Tag (F86.t9, Q, e, w)} : cwE P F86.t9 Q e w θ = cwE P (.seq (.block 3 (.region 9 F86.r9.toArray false)) F86.t8) Q e w := rfl
def F86.t5 : Cd := (.region 5 F86.r5.toArray false)
theorem F86.t5_eq {θ : Tag (F86.t5, Q, e, w)} : cwE P F86.t5 Q e w θ = cwE P (.region 5 F86.r5.toArray false) Q e w := rfl
def F86.t6 : Cd := (.seq (.block 1 (.seq (.region 6 F86.r6.toArray false) (.block 2 (.loop (.seq (.seq (.region 7 F86.r7.toArray false) (.cond (.tmp 37) .skip (.exit 2))) F86.t9))))) F86.t5)
theorem F86.t6_eq {θ : Tag (F86.t6, Q, e, w)} : cwE P F86.t6 Q e w θ = cwE P (.seq (.block 1 (.seq (.region 6 F86.r6.toArray false) (.block 2 (.loop (.seq (.seq (.region 7 F86.r7.toArray false) (.cond (.tmp 37) .skip (.exit 2))) F86.t9))))) F86.t5) Q e w := rfl
def F86.t16 : Cd := (.region 16 F86.r16.toArray false)
theorem F86.t16_eq {θ : Tag (F86.t16, Q, e, w)} : cwE P F86.t16 Q e w θ = cwE P (.region 16 F86.r16.toArray false) Q e w := rfl
def F86.t17 : Cd := (.seq (.block 7 (.region 17 F86.r17.toArray false)) F86.t16)
theorem F86.t17_eq {θ : Tag (F86.t17, Q, e, w)} : cwE P F86.t17 Q e w θ = cwE P (.seq (.block 7 (.region 17 F86.r17.toArray false)) F86.t16) Q e w := rfl
def F86.t18 : Cd := (.region 18 F86.r18.toArray true)
theorem F86.t18_eq {θ : Tag (F86.t18, Q, e, w)} : cwE P F86.t18 Q e w θ = cwE P (.region 18 F86.r18.toArray true) Q e w := rfl
def F86.t12 : Cd := (.region 12 F86.r12.toArray false)
theorem F86.t12_eq {θ : Tag (F86.t12, Q, e, w)} : cwE P F86.t12 Q e w θ = cwE P (.region 12 F86.r12.toArray false) Q e w := rfl
def F86.t13 : Cd := (.seq (.block 5 (.seq (.region 13 F86.r13.toArray false) (.seq (.seq (.region 14 F86.r14.toArray false) (.block 6 (.loop (.seq (.seq (.region 15 F86.r15.toArray false) (.cond (.tmp 62) .skip (.exit 6))) F86.t17)))) F86.t18))) F86.t12)
theorem F86.t13_eq {θ : Tag (F86.t13, Q, e, w)} : cwE P F86.t13 Q e w θ = cwE P (.seq (.block 5 (.seq (.region 13 F86.r13.toArray false) (.seq (.seq (.region 14 F86.r14.toArray false) (.block 6 (.loop (.seq (.seq (.region 15 F86.r15.toArray false) (.cond (.tmp 62) .skip (.exit 6))) F86.t17)))) F86.t18))) F86.t12) Q e w := rfl
def F86.t10 : Cd := (.seq (.region 10 F86.r10.toArray false) (.block 4 (.loop (.seq (.seq (.region 11 F86.r11.toArray false) (.cond (.tmp 54) .skip (.exit 4))) F86.t13))))
theorem F86.t10_eq {θ : Tag (F86.t10, Q, e, w)} : cwE P F86.t10 Q e w θ = cwE P (.seq (.region 10 F86.r10.toArray false) (.block 4 (.loop (.seq (.seq (.region 11 F86.r11.toArray false) (.cond (.tmp 54) .skip (.exit 4))) F86.t13)))) Q e w := rfl
def F86.t2 : Cd := (.seq (.region 2 F86.r2.toArray false) (.seq (.seq (.region 3 F86.r3.toArray false) (.block 0 (.loop (.seq (.seq (.region 4 F86.r4.toArray false) (.cond (.tmp 28) .skip (.exit 0))) F86.t6)))) F86.t10))
theorem F86.t2_eq {θ : Tag (F86.t2, Q, e, w)} : cwE P F86.t2 Q e w θ = cwE P (.seq (.region 2 F86.r2.toArray false) (.seq (.seq (.region 3 F86.r3.toArray false) (.block 0 (.loop (.seq (.seq (.region 4 F86.r4.toArray false) (.cond (.tmp 28) .skip (.exit 0))) F86.t6)))) F86.t10)) Q e w := rfl
def F86.code : Cd := (.seq (.seq (.region 0 F86.r0.toArray false) (.cond (.tmp 15) (.region 1 F86.r1.toArray false) .skip)) F86.t2)
theorem F86.calls (hn : args.size ≤ 87) (h : cwE Tryz.prog F86.code (fnP Tryz.prog #[] R) (entry args) w) : Calls Tryz.prog 86 args w R :=
  calls_of_cwE (types := Tryz.prog.types) follows Tryz.func86 F86.code rfl (by kernel_rfl) hn h
def F87.r0 : List Oper := [
  op 2 (.assign (.const (.slice none 0 0))) 97]
def F87.r1 : List Oper := [
  op 3 (.move (.tmp 0)) 97,
  op 4 (.binOp .eql 97 (.tmp 3) (.const (.slice none 0 0)) 97) 4]
def F87.r2 : List Oper := [
  op 2 (.assign (.const (.slice none 0 0))) 97]
def F87.r3 : List Oper := [
  oc 5 (.buildSlice 97 0 #[]) 97,
  op 6 (.move (.tmp 0)) 97,
  oc 7 (.call ⟨(.builtin .append), #[(.tmp 5), (.tmp 6)], #[97, 97]⟩) 97,
  op 2 (.assign (.tmp 7)) 97]
def F87.t3 : Cd := (.seq (.region 3 F87.r3.toArray false) .ret)
theorem F87.t3_eq {θ : Tag (F87.t3, Q, e, w)} : cwE P F87.t3 Q e w θ = cwE P (.seq (.region 3 F87.r3.toArray false) .ret) Q e w := rfl
def F87.code : Cd := (.seq (.region 0 F87.r0.toArray false) (.seq (.seq (.region 1 F87.r1.toArray false) (.cond (.tmp 4) (.seq (.region 2 F87.r2.toArray false) .ret) .skip)) F87.t3))
theorem F87.calls (hn : args.size ≤ 8) (h : cwE Tryz.prog F87.code (fnP Tryz.prog #[(.tmp 2)] R) (entry args) w) : Calls Tryz.prog 87 args w R :=
  calls_of_cwE (types := Tryz.prog.types) follows Tryz.func87 F87.code rfl (by kernel_rfl) hn h
def F88.r0 : List Oper := [
  op 2 (.assign (.const (.int .i64 0))) 3]
def F88.r1 : List Oper := [
  op 3 (.assign (.const (.int .i64 0))) 3]
def F88.r2 : List Oper := [
  op 5 (.move (.tmp 3)) 3,
  op 6 (.move (.tmp 0)) 9,
  op 7 (.call ⟨(.builtin .len), #[(.tmp 6)], #[9]⟩) 3,
  op 8 (.binOp .lss 3 (.tmp 5) (.tmp 7) 3) 4]
def F88.r3 : List Oper := [
  op 9 (.move (.tmp 0)) 9,
  op 10 (.move (.tmp 3)) 3,
  oc 11 (.call ⟨(.value (.func 101)), #[(.tmp 9), (.tmp 10)], #[9, 3]⟩) 3,
  op 4 (.assign (.tmp 11)) 3]
def F88.r4 : List Oper := [
  op 12 (.move (.tmp 4)) 3,
  op 13 (.binOp .eql 3 (.tmp 12) (.const (.int .i64 0)) 3) 4,
  op 14 (.move (.tmp 13)) 4,
  og 15 (.move (.tmp 0)) 9 14 false,
  og 16 (.move (.tmp 3)) 3 14 false,
  og 17 (.index 9 (.tmp 15) (.tmp 16)) 5 14 false,
  og 18 (.binOp .eql 5 (.tmp 17) (.const (.int .u8 0)) 5) 4 14 false,
  op 19 (.pick (.tmp 14) (.const (.bool true)) (.tmp 18)) 4]
def F88.r5 : List Oper := [
  op 20 (.move (.tmp 3)) 3,
  op 2 (.assign (.tmp 20)) 3]
def F88.r6 : List Oper := [
  op 21 (.move (.tmp 3)) 3,
  op 22 (.move (.tmp 4)) 3,
  op 23 (.binOp .add 3 (.tmp 21) (.tmp 22) 3) 3,
  op 3 (.assign (.tmp 23)) 3]
def F88.r7 : List Oper := [
  op 24 (.move (.tmp 0)) 9,
  op 25 (.call ⟨(.builtin .len), #[(.tmp 24)], #[9]⟩) 3,
  op 2 (.assign (.tmp 25)) 3]
def F88.t6 : Cd := (.region 6 F88.r6.toArray false)
theorem F88.t6_eq {θ : Tag (F88.t6, Q, e, w)} : cwE P F88.t6 Q e w θ = cwE P (.region 6 F88.r6.toArray false) Q e w := rfl
def F88.t3 : Cd := (.block 1 (.seq (.region 3 F88.r3.toArray false) (.seq (.seq (.region 4 F88.r4.toArray false) (.cond (.tmp 19) (.seq (.region 5 F88.r5.toArray false) .ret) .skip)) F88.t6)))
theorem F88.t3_eq {θ : Tag (F88.t3, Q, e, w)} : cwE P F88.t3 Q e w θ = cwE P (.block 1 (.seq (.region 3 F88.r3.toArray false) (.seq (.seq (.region 4 F88.r4.toArray false) (.cond (.tmp 19) (.seq (.region 5 F88.r5.toArray false) .ret) .skip)) F88.t6))) Q e w := rfl
def F88.t7 : Cd := (.seq (.region 7 F88.r7.toArray false) .ret)
theorem F88.t7_eq {θ : Tag (F88.t7, Q, e, w)} : cwE P F88.t7 Q e w θ = cwE P (.seq (.region 7 F88.r7.toArray false) .ret) Q e w := rfl
def F88.code : Cd := (.seq (.region 0 F88.r0.toArray false) (.seq (.region 1 F88.r1.toArray false) (.seq (.block 0 (.loop (.seq (.seq (.region 2 F88.r2.toArray false) (.cond (.tmp 8) .skip (.exit 0))) F88.t3))) F88.t7)))
theorem F88.calls (hn : args.size ≤ 26) (h : cwE Tryz.prog F88.code (fnP Tryz.prog #[(.tmp 2)] R) (entry args) w) : Calls Tryz.prog 88 args w R :=
  calls_of_cwE (types := Tryz.prog.types) follows Tryz.func88 F88.code rfl (by kernel_rfl) hn h
def F93.r0 : List Oper := [
  op 2 (.assign (.const (.int .i64 0))) 30]
def F93.r1 : List Oper := [
  op 4 (.move (.tmp 0)) 9,
  op 5 (.binOp .eql 9 (.tmp 4) (.const (.string { data := #[] })) 9) 4,
  op 3 (.assign (.tmp 5)) 4]
def F93.r2 : List Oper := [
  op 6 (.move (.tmp 0)) 9,
  op 7 (.binOp .eql 9 (.tmp 6) (.const (.string { data := #[46] })) 9) 4,
  op 3 (.assign (.tmp 7)) 4]
def F93.r3 : List Oper := [
  op 8 (.move (.tmp 0)) 9,
  op 9 (.binOp .eql 9 (.tmp 8) (.const (.string { data := #[46, 46] })) 9) 4,
  op 3 (.assign (.tmp 9)) 4]
def F93.r4 : List Oper := [
  op 2 (.assign (.const (.int .i64 50))) 30]
def F93.r5 : List Oper := [
  op 11 (.move (.tmp 0)) 9,
  op 12 (.call ⟨(.builtin .len), #[(.tmp 11)], #[9]⟩) 3,
  op 13 (.binOp .gtr 3 (.tmp 12) (.const (.int .i64 255)) 3) 4,
  op 10 (.assign (.tmp 13)) 4]
def F93.r6 : List Oper := [
  op 14 (.move (.tmp 0)) 9,
  oc 15 (.call ⟨(.value (.func 102)), #[(.tmp 14), (.const (.string { data := #[47] }))], #[9, 9]⟩) 4,
  op 10 (.assign (.tmp 15)) 4]
def F93.r7 : List Oper := [
  op 16 (.move (.tmp 0)) 9,
  oc 17 (.call ⟨(.value (.func 84)), #[(.tmp 16)], #[9]⟩) 4,
  op 18 (.unOp .not 4 (.tmp 17)) 4,
  op 10 (.assign (.tmp 18)) 4]
def F93.r8 : List Oper := [
  op 2 (.assign (.const (.int .i64 50))) 30]
def F93.r9 : List Oper := [
  op 2 (.assign (.const (.int .i64 0))) 30]
def F93.t8 : Cd := (.cond (.tmp 10) (.seq (.region 8 F93.r8.toArray false) .ret) .skip)
theorem F93.t8_eq {θ : Tag (F93.t8, Q, e, w)} : cwE P F93.t8 Q e w θ = cwE P (.cond (.tmp 10) (.seq (.region 8 F93.r8.toArray false) .ret) .skip) Q e w := rfl
def F93.t4 : Cd := (.cond (.tmp 3) (.seq (.region 4 F93.r4.toArray false) .ret) (.seq (.seq (.region 5 F93.r5.toArray false) (.cond (.tmp 10) .skip (.seq (.region 6 F93.r6.toArray false) (.cond (.tmp 10) .skip (.region 7 F93.r7.toArray false))))) F93.t8))
theorem F93.t4_eq {θ : Tag (F93.t4, Q, e, w)} : cwE P F93.t4 Q e w θ = cwE P (.cond (.tmp 3) (.seq (.region 4 F93.r4.toArray false) .ret) (.seq (.seq (.region 5 F93.r5.toArray false) (.cond (.tmp 10) .skip (.seq (.region 6 F93.r6.toArray false) (.cond (.tmp 10) .skip (.region 7 F93.r7.toArray false))))) F93.t8)) Q e w := rfl
def F93.t9 : Cd := (.seq (.region 9 F93.r9.toArray false) .ret)
theorem F93.t9_eq {θ : Tag (F93.t9, Q, e, w)} : cwE P F93.t9 Q e w θ = cwE P (.seq (.region 9 F93.r9.toArray false) .ret) Q e w := rfl
def F93.code : Cd := (.seq (.region 0 F93.r0.toArray false) (.seq (.block 0 (.seq (.seq (.region 1 F93.r1.toArray false) (.cond (.tmp 3) .skip (.seq (.region 2 F93.r2.toArray false) (.cond (.tmp 3) .skip (.region 3 F93.r3.toArray false))))) F93.t4)) F93.t9))
theorem F93.calls (hn : args.size ≤ 19) (h : cwE Tryz.prog F93.code (fnP Tryz.prog #[(.tmp 2)] R) (entry args) w) : Calls Tryz.prog 93 args w R :=
  calls_of_cwE (types := Tryz.prog.types) follows Tryz.func93 F93.code rfl (by kernel_rfl) hn h
def F94.r0 : List Oper := [
  op 4 (.assign (.const (.slice none 0 0))) 97]
def F94.r1 : List Oper := [
  op 8 (.move (.tmp 0)) 97,
  op 9 (.move (.tmp 1)) 34,
  oc 10 (.call ⟨(.value (.func 99)), #[(.tmp 8), (.tmp 9)], #[97, 34]⟩) 153,
  op 7 (.move (.tmp 10)) 153,
  op 11 (.extract (.tmp 7) 0) 3,
  op 12 (.extract (.tmp 7) 1) 4,
  op 5 (.assign (.tmp 11)) 3,
  op 6 (.assign (.tmp 12)) 4]
def F94.r2 : List Oper := [
  op 13 (.move (.tmp 6)) 4]
def F94.r3 : List Oper := [
  op 14 (.move (.tmp 0)) 97,
  op 15 (.move (.tmp 5)) 3,
  op 16 (.move (.tmp 5)) 3,
  op 17 (.binOp .add 3 (.tmp 16) (.const (.int .i64 1)) 3) 3,
  oc 18 (.call ⟨(.value (.func 103)), #[(.tmp 14), (.tmp 15), (.tmp 17)], #[97, 3, 3]⟩) 97,
  op 4 (.assign (.tmp 18)) 97]
def F94.r4 : List Oper := [
  op 19 (.move (.tmp 0)) 97,
  op 4 (.assign (.tmp 19)) 97]
def F94.t4 : Cd := (.seq (.region 4 F94.r4.toArray false) .ret)
theorem F94.t4_eq {θ : Tag (F94.t4, Q, e, w)} : cwE P F94.t4 Q e w θ = cwE P (.seq (.region 4 F94.r4.toArray false) .ret) Q e w := rfl
def F94.code : Cd := (.seq (.region 0 F94.r0.toArray false) (.seq (.seq (.region 1 F94.r1.toArray false) (.seq (.region 2 F94.r2.toArray false) (.cond (.tmp 13) (.seq (.region 3 F94.r3.toArray false) .ret) .skip))) F94.t4))
theorem F94.calls (hn : args.size ≤ 20) (h : cwE Tryz.prog F94.code (fnP Tryz.prog #[(.tmp 4)] R) (entry args) w) : Calls Tryz.prog 94 args w R :=
  calls_of_cwE (types := Tryz.prog.types) follows Tryz.func94 F94.code rfl (by kernel_rfl) hn h
def F99.r0 : List Oper := [
  op 4 (.assign (.const (.int .i64 0))) 3,
  op 5 (.assign (.const (.bool false))) 4]
def F99.r1 : List Oper := [
  op 10 (.move (.tmp 0)) 97,
  op 11 (.call ⟨(.builtin .len), #[(.tmp 10)], #[97]⟩) 3,
  op 6 (.assign (.tmp 11)) 3]
def F99.r2 : List Oper := [
  op 12 (.move (.tmp 6)) 3,
  op 7 (.assign (.const (.int .i64 0))) 3,
  op 8 (.assign (.tmp 12)) 3]
def F99.r3 : List Oper := [
  op 13 (.move (.tmp 7)) 3,
  op 14 (.move (.tmp 8)) 3,
  op 15 (.binOp .lss 3 (.tmp 13) (.tmp 14) 3) 4]
def F99.r4 : List Oper := [
  op 16 (.move (.tmp 7)) 3,
  op 17 (.move (.tmp 8)) 3,
  op 18 (.binOp .add 3 (.tmp 16) (.tmp 17) 3) 3,
  op 19 (.convert 3 158 (.tmp 18)) 158,
  op 20 (.binOp .shr 158 (.tmp 19) (.const (.int .u64 1)) 158) 158,
  op 21 (.convert 158 3 (.tmp 20)) 3,
  op 9 (.assign (.tmp 21)) 3]
def F99.r5 : List Oper := [
  op 22 (.move (.tmp 0)) 97,
  op 23 (.move (.tmp 9)) 3,
  op 24 (.indexAddr 97 (.tmp 22) (.tmp 23)) 0,
  od 25 (.load 34 (.tmp 24)) 34,
  op 26 (.move (.tmp 1)) 34,
  oc 27 (.call ⟨(.value (.func 111)), #[(.tmp 25), (.tmp 26)], #[34, 34]⟩) 4]
def F99.r6 : List Oper := [
  op 28 (.move (.tmp 9)) 3,
  op 29 (.binOp .add 3 (.tmp 28) (.const (.int .i64 1)) 3) 3,
  op 7 (.assign (.tmp 29)) 3]
def F99.r7 : List Oper := [
  op 30 (.move (.tmp 9)) 3,
  op 8 (.assign (.tmp 30)) 3]
def F99.r8 : List Oper := [
  op 31 (.move (.tmp 7)) 3,
  op 32 (.move (.tmp 7)) 3,
  op 33 (.move (.tmp 6)) 3,
  op 34 (.binOp .lss 3 (.tmp 32) (.tmp 33) 3) 4,
  op 35 (.move (.tmp 34)) 4,
  og 36 (.move (.tmp 0)) 97 35 true,
  og 37 (.move (.tmp 7)) 3 35 true,
  og 38 (.indexAddr 97 (.tmp 36) (.tmp 37)) 0 35 true,
  ⟨(some 39), (.load 34 (.tmp 38)), 34, "", #[⟨0, .data⟩], (some (35, true))⟩,
  og 40 (.move (.tmp 1)) 34 35 true,
  og 41 (.binOp .eql 34 (.tmp 39) (.tmp 40) 34) 4 35 true,
  og 42 (.move (.tmp 41)) 4 35 true,
  og 43 (.move (.tmp 0)) 97 42 false,
  og 44 (.move (.tmp 7)) 3 42 false,
  og 45 (.indexAddr 97 (.tmp 43) (.tmp 44)) 0 42 false,
  ⟨(some 46), (.load 34 (.tmp 45)), 34, "", #[⟨0, .data⟩], (some (42, false))⟩,
  ⟨(some 47), (.call ⟨(.value (.func 112)), #[(.tmp 46)], #[34]⟩), 4, "", #[⟨0, .chain⟩], (some (42, false))⟩,
  og 48 (.move (.tmp 47)) 4 42 false,
  og 49 (.move (.tmp 1)) 34 48 true,
  ⟨(some 50), (.call ⟨(.value (.func 112)), #[(.tmp 49)], #[34]⟩), 4, "", #[⟨0, .chain⟩], (some (48, true))⟩,
  og 51 (.pick (.tmp 48) (.tmp 50) (.const (.bool false))) 4 42 false,
  og 52 (.pick (.tmp 42) (.const (.bool true)) (.tmp 51)) 4 35 true,
  op 53 (.pick (.tmp 35) (.tmp 52) (.const (.bool false))) 4,
  op 4 (.assign (.tmp 31)) 3,
  op 5 (.assign (.tmp 53)) 4]
def F99.t4 : Cd := (.block 1 (.seq (.region 4 F99.r4.toArray false) (.seq (.region 5 F99.r5.toArray false) (.cond (.tmp 27) (.region 6 F99.r6.toArray false) (.region 7 F99.r7.toArray false)))))
theorem F99.t4_eq {θ : Tag (F99.t4, Q, e, w)} : cwE P F99.t4 Q e w θ = cwE P (.block 1 (.seq (.region 4 F99.r4.toArray false) (.seq (.region 5 F99.r5.toArray false) (.cond (.tmp 27) (.region 6 F99.r6.toArray false) (.region 7 F99.r7.toArray false))))) Q e w := rfl
def F99.t8 : Cd := (.seq (.region 8 F99.r8.toArray false) .ret)
theorem F99.t8_eq {θ : Tag (F99.t8, Q, e, w)} : cwE P F99.t8 Q e w θ = cwE P (.seq (.region 8 F99.r8.toArray false) .ret) Q e w := rfl
def F99.code : Cd := (.seq (.region 0 F99.r0.toArray false) (.seq (.region 1 F99.r1.toArray false) (.seq (.region 2 F99.r2.toArray false) (.seq (.block 0 (.loop (.seq (.seq (.region 3 F99.r3.toArray false) (.cond (.tmp 15) .skip (.exit 0))) F99.t4))) F99.t8))))
theorem F99.calls (hn : args.size ≤ 54) (h : cwE Tryz.prog F99.code (fnP Tryz.prog #[(.tmp 4), (.tmp 5)] R) (entry args) w) : Calls Tryz.prog 99 args w R :=
  calls_of_cwE (types := Tryz.prog.types) follows Tryz.func99 F99.code rfl (by kernel_rfl) hn h
def F100.r0 : List Oper := [
  op 2 (.assign (.const (.int .i64 0))) 3]
def F100.r1 : List Oper := [
  op 7 (.move (.tmp 0)) 9,
  oc 8 (.range 9 (.tmp 7)) 0]
def F100.r2 : List Oper := [
  oc 9 (.next (.tmp 8) true) 0,
  op 10 (.extract (.tmp 9) 0) 4]
def F100.r3 : List Oper := [
  op 11 (.extract (.tmp 9) 1) 3,
  op 12 (.extract (.tmp 9) 2) 21,
  op 3 (.assign (.tmp 11)) 3,
  op 4 (.assign (.tmp 12)) 21]
def F100.r4 : List Oper := [
  op 13 (.move (.tmp 4)) 21,
  op 14 (.binOp .eql 21 (.tmp 13) (.const (.int .i32 0)) 21) 4]
def F100.r5 : List Oper := [
  op 15 (.move (.tmp 3)) 3,
  op 2 (.assign (.tmp 15)) 3]
def F100.r6 : List Oper := [
  op 16 (.move (.tmp 4)) 21,
  op 17 (.binOp .eql 21 (.tmp 16) (.const (.int .i32 65533)) 21) 4]
def F100.r7 : List Oper := [
  op 19 (.move (.tmp 0)) 9,
  op 20 (.move (.tmp 3)) 3,
  op 21 (.slice 9 (.tmp 19) (some (.tmp 20)) none none) 9,
  oc 22 (.call ⟨(.value (.func 113)), #[(.tmp 21)], #[9]⟩) 162,
  op 18 (.move (.tmp 22)) 162,
  op 23 (.extract (.tmp 18) 0) 21,
  op 24 (.extract (.tmp 18) 1) 3,
  op 5 (.assign (.tmp 23)) 21,
  op 6 (.assign (.tmp 24)) 3]
def F100.r8 : List Oper := [
  op 25 (.move (.tmp 6)) 3,
  op 26 (.binOp .eql 3 (.tmp 25) (.const (.int .i64 1)) 3) 4]
def F100.r9 : List Oper := [
  op 27 (.move (.tmp 3)) 3,
  op 2 (.assign (.tmp 27)) 3]
def F100.r10 : List Oper := [
  op 2 (.assign (.const (.int .i64 (-1)))) 3]
def F100.t6 : Cd := (.seq (.region 6 F100.r6.toArray false) (.cond (.tmp 17) (.seq (.region 7 F100.r7.toArray false) (.seq (.region 8 F100.r8.toArray false) (.cond (.tmp 26) (.seq (.region 9 F100.r9.toArray false) .ret) .skip))) .skip))
theorem F100.t6_eq {θ : Tag (F100.t6, Q, e, w)} : cwE P F100.t6 Q e w θ = cwE P (.seq (.region 6 F100.r6.toArray false) (.cond (.tmp 17) (.seq (.region 7 F100.r7.toArray false) (.seq (.region 8 F100.r8.toArray false) (.cond (.tmp 26) (.seq (.region 9 F100.r9.toArray false) .ret) .skip))) .skip)) Q e w := rfl
def F100.t3 : Cd := (.block 1 (.seq (.region 3 F100.r3.toArray false) (.seq (.seq (.region 4 F100.r4.toArray false) (.cond (.tmp 14) (.seq (.region 5 F100.r5.toArray false) .ret) .skip)) F100.t6)))
theorem F100.t3_eq {θ : Tag (F100.t3, Q, e, w)} : cwE P F100.t3 Q e w θ = cwE P (.block 1 (.seq (.region 3 F100.r3.toArray false) (.seq (.seq (.region 4 F100.r4.toArray false) (.cond (.tmp 14) (.seq (.region 5 F100.r5.toArray false) .ret) .skip)) F100.t6))) Q e w := rfl
def F100.t10 : Cd := (.seq (.region 10 F100.r10.toArray false) .ret)
theorem F100.t10_eq {θ : Tag (F100.t10, Q, e, w)} : cwE P F100.t10 Q e w θ = cwE P (.seq (.region 10 F100.r10.toArray false) .ret) Q e w := rfl
def F100.code : Cd := (.seq (.region 0 F100.r0.toArray false) (.seq (.seq (.region 1 F100.r1.toArray false) (.block 0 (.loop (.seq (.region 2 F100.r2.toArray false) (.seq (.cond (.tmp 10) .skip (.exit 0)) F100.t3))))) F100.t10))
theorem F100.calls (hn : args.size ≤ 28) (h : cwE Tryz.prog F100.code (fnP Tryz.prog #[(.tmp 2)] R) (entry args) w) : Calls Tryz.prog 100 args w R :=
  calls_of_cwE (types := Tryz.prog.types) follows Tryz.func100 F100.code rfl (by kernel_rfl) hn h
def F101.r0 : List Oper := [
  op 4 (.assign (.const (.int .i64 0))) 3]
def F101.r1 : List Oper := [
  op 7 (.move (.tmp 0)) 9,
  op 8 (.move (.tmp 1)) 3,
  oc 9 (.call ⟨(.value (.func 114)), #[(.tmp 7), (.tmp 8), (.const (.int .u8 0)), (.const (.int .u8 127))], #[9, 3, 5, 5]⟩) 4]
def F101.r2 : List Oper := [
  op 4 (.assign (.const (.int .i64 1))) 3]
def F101.r3 : List Oper := [
  op 10 (.move (.tmp 0)) 9,
  op 11 (.move (.tmp 1)) 3,
  oc 12 (.call ⟨(.value (.func 114)), #[(.tmp 10), (.tmp 11), (.const (.int .u8 194)), (.const (.int .u8 223))], #[9, 3, 5, 5]⟩) 4,
  op 13 (.move (.tmp 12)) 4,
  og 14 (.move (.tmp 0)) 9 13 true,
  og 15 (.move (.tmp 1)) 3 13 true,
  og 16 (.binOp .add 3 (.tmp 15) (.const (.int .i64 1)) 3) 3 13 true,
  ⟨(some 17), (.call ⟨(.value (.func 114)), #[(.tmp 14), (.tmp 16), (.const (.int .u8 128)), (.const (.int .u8 191))], #[9, 3, 5, 5]⟩), 4, "", #[⟨0, .chain⟩], (some (13, true))⟩,
  op 18 (.pick (.tmp 13) (.tmp 17) (.const (.bool false))) 4]
def F101.r4 : List Oper := [
  op 4 (.assign (.const (.int .i64 2))) 3]
def F101.r5 : List Oper := [
  op 5 (.assign (.const (.int .u8 128))) 5,
  op 6 (.assign (.const (.int .u8 191))) 5]
def F101.r6 : List Oper := [
  op 19 (.move (.tmp 0)) 9,
  op 20 (.move (.tmp 1)) 3,
  oc 21 (.call ⟨(.value (.func 114)), #[(.tmp 19), (.tmp 20), (.const (.int .u8 224)), (.const (.int .u8 224))], #[9, 3, 5, 5]⟩) 4]
def F101.r7 : List Oper := [
  op 5 (.assign (.const (.int .u8 160))) 5]
def F101.r8 : List Oper := [
  op 22 (.move (.tmp 0)) 9,
  op 23 (.move (.tmp 1)) 3,
  oc 24 (.call ⟨(.value (.func 114)), #[(.tmp 22), (.tmp 23), (.const (.int .u8 237)), (.const (.int .u8 237))], #[9, 3, 5, 5]⟩) 4]
def F101.r9 : List Oper := [
  op 6 (.assign (.const (.int .u8 159))) 5]
def F101.r10 : List Oper := [
  op 25 (.move (.tmp 0)) 9,
  op 26 (.move (.tmp 1)) 3,
  oc 27 (.call ⟨(.value (.func 114)), #[(.tmp 25), (.tmp 26), (.const (.int .u8 224)), (.const (.int .u8 239))], #[9, 3, 5, 5]⟩) 4,
  op 28 (.move (.tmp 27)) 4,
  og 29 (.move (.tmp 0)) 9 28 true,
  og 30 (.move (.tmp 1)) 3 28 true,
  og 31 (.binOp .add 3 (.tmp 30) (.const (.int .i64 1)) 3) 3 28 true,
  og 32 (.move (.tmp 5)) 5 28 true,
  og 33 (.move (.tmp 6)) 5 28 true,
  ⟨(some 34), (.call ⟨(.value (.func 114)), #[(.tmp 29), (.tmp 31), (.tmp 32), (.tmp 33)], #[9, 3, 5, 5]⟩), 4, "", #[⟨0, .chain⟩], (some (28, true))⟩,
  op 35 (.pick (.tmp 28) (.tmp 34) (.const (.bool false))) 4,
  op 36 (.move (.tmp 35)) 4,
  og 37 (.move (.tmp 0)) 9 36 true,
  og 38 (.move (.tmp 1)) 3 36 true,
  og 39 (.binOp .add 3 (.tmp 38) (.const (.int .i64 2)) 3) 3 36 true,
  ⟨(some 40), (.call ⟨(.value (.func 114)), #[(.tmp 37), (.tmp 39), (.const (.int .u8 128)), (.const (.int .u8 191))], #[9, 3, 5, 5]⟩), 4, "", #[⟨0, .chain⟩], (some (36, true))⟩,
  op 41 (.pick (.tmp 36) (.tmp 40) (.const (.bool false))) 4]
def F101.r11 : List Oper := [
  op 4 (.assign (.const (.int .i64 3))) 3]
def F101.r12 : List Oper := [
  op 42 (.move (.tmp 0)) 9,
  op 43 (.move (.tmp 1)) 3,
  oc 44 (.call ⟨(.value (.func 114)), #[(.tmp 42), (.tmp 43), (.const (.int .u8 240)), (.const (.int .u8 240))], #[9, 3, 5, 5]⟩) 4]
def F101.r13 : List Oper := [
  op 5 (.assign (.const (.int .u8 144))) 5]
def F101.r14 : List Oper := [
  op 45 (.move (.tmp 0)) 9,
  op 46 (.move (.tmp 1)) 3,
  oc 47 (.call ⟨(.value (.func 114)), #[(.tmp 45), (.tmp 46), (.const (.int .u8 244)), (.const (.int .u8 244))], #[9, 3, 5, 5]⟩) 4]
def F101.r15 : List Oper := [
  op 6 (.assign (.const (.int .u8 143))) 5]
def F101.r16 : List Oper := [
  op 48 (.move (.tmp 0)) 9,
  op 49 (.move (.tmp 1)) 3,
  oc 50 (.call ⟨(.value (.func 114)), #[(.tmp 48), (.tmp 49), (.const (.int .u8 240)), (.const (.int .u8 244))], #[9, 3, 5, 5]⟩) 4,
  op 51 (.move (.tmp 50)) 4,
  og 52 (.move (.tmp 0)) 9 51 true,
  og 53 (.move (.tmp 1)) 3 51 true,
  og 54 (.binOp .add 3 (.tmp 53) (.const (.int .i64 1)) 3) 3 51 true,
  og 55 (.move (.tmp 5)) 5 51 true,
  og 56 (.move (.tmp 6)) 5 51 true,
  ⟨(some 57), (.call ⟨(.value (.func 114)), #[(.tmp 52), (.tmp 54), (.tmp 55), (.tmp 56)], #[9, 3, 5, 5]⟩), 4, "", #[⟨0, .chain⟩], (some (51, true))⟩,
  op 58 (.pick (.tmp 51) (.tmp 57) (.const (.bool false))) 4,
  op 59 (.move (.tmp 58)) 4,
  og 60 (.move (.tmp 0)) 9 59 true,
  og 61 (.move (.tmp 1)) 3 59 true,
  og 62 (.binOp .add 3 (.tmp 61) (.const (.int .i64 2)) 3) 3 59 true,
  ⟨(some 63), (.call ⟨(.value (.func 114)), #[(.tmp 60), (.tmp 62), (.const (.int .u8 128)), (.const (.int .u8 191))], #[9, 3, 5, 5]⟩), 4, "", #[⟨0, .chain⟩], (some (59, true))⟩,
  op 64 (.pick (.tmp 59) (.tmp 63) (.const (.bool false))) 4,
  op 65 (.move (.tmp 64)) 4,
  og 66 (.move (.tmp 0)) 9 65 true,
  og 67 (.move (.tmp 1)) 3 65 true,
  og 68 (.binOp .add 3 (.tmp 67) (.const (.int .i64 3)) 3) 3 65 true,
  ⟨(some 69), (.call ⟨(.value (.func 114)), #[(.tmp 66), (.tmp 68), (.const (.int .u8 128)), (.const (.int .u8 191))], #[9, 3, 5, 5]⟩), 4, "", #[⟨0, .chain⟩], (some (65, true))⟩,
  op 70 (.pick (.tmp 65) (.tmp 69) (.const (.bool false))) 4]
def F101.r17 : List Oper := [
  op 4 (.assign (.const (.int .i64 4))) 3]
def F101.r18 : List Oper := [
  op 4 (.assign (.const (.int .i64 0))) 3]
def F101.t18 : Cd := (.seq (.region 18 F101.r18.toArray false) .ret)
theorem F101.t18_eq {θ : Tag (F101.t18, Q, e, w)} : cwE P F101.t18 Q e w θ = cwE P (.seq (.region 18 F101.r18.toArray false) .ret) Q e w := rfl
def F101.t16 : Cd := (.seq (.seq (.region 16 F101.r16.toArray false) (.cond (.tmp 70) (.seq (.region 17 F101.r17.toArray false) .ret) .skip)) F101.t18)
theorem F101.t16_eq {θ : Tag (F101.t16, Q, e, w)} : cwE P F101.t16 Q e w θ = cwE P (.seq (.seq (.region 16 F101.r16.toArray false) (.cond (.tmp 70) (.seq (.region 17 F101.r17.toArray false) .ret) .skip)) F101.t18) Q e w := rfl
def F101.t14 : Cd := (.seq (.seq (.region 14 F101.r14.toArray false) (.cond (.tmp 47) (.region 15 F101.r15.toArray false) .skip)) F101.t16)
theorem F101.t14_eq {θ : Tag (F101.t14, Q, e, w)} : cwE P F101.t14 Q e w θ = cwE P (.seq (.seq (.region 14 F101.r14.toArray false) (.cond (.tmp 47) (.region 15 F101.r15.toArray false) .skip)) F101.t16) Q e w := rfl
def F101.t12 : Cd := (.seq (.seq (.region 12 F101.r12.toArray false) (.cond (.tmp 44) (.region 13 F101.r13.toArray false) .skip)) F101.t14)
theorem F101.t12_eq {θ : Tag (F101.t12, Q, e, w)} : cwE P F101.t12 Q e w θ = cwE P (.seq (.seq (.region 12 F101.r12.toArray false) (.cond (.tmp 44) (.region 13 F101.r13.toArray false) .skip)) F101.t14) Q e w := rfl
def F101.t10 : Cd := (.seq (.seq (.region 10 F101.r10.toArray false) (.cond (.tmp 41) (.seq (.region 11 F101.r11.toArray false) .ret) .skip)) F101.t12)
theorem F101.t10_eq {θ : Tag (F101.t10, Q, e, w)} : cwE P F101.t10 Q e w θ = cwE P (.seq (.seq (.region 10 F101.r10.toArray false) (.cond (.tmp 41) (.seq (.region 11 F101.r11.toArray false) .ret) .skip)) F101.t12) Q e w := rfl
def F101.t8 : Cd := (.seq (.seq (.region 8 F101.r8.toArray false) (.cond (.tmp 24) (.region 9 F101.r9.toArray false) .skip)) F101.t10)
theorem F101.t8_eq {θ : Tag (F101.t8, Q, e, w)} : cwE P F101.t8 Q e w θ = cwE P (.seq (.seq (.region 8 F101.r8.toArray false) (.cond (.tmp 24) (.region 9 F101.r9.toArray false) .skip)) F101.t10) Q e w := rfl
def F101.t5 : Cd := (.seq (.region 5 F101.r5.toArray false) (.seq (.seq (.region 6 F101.r6.toArray false) (.cond (.tmp 21) (.region 7 F101.r7.toArray false) .skip)) F101.t8))
theorem F101.t5_eq {θ : Tag (F101.t5, Q, e, w)} : cwE P F101.t5 Q e w θ = cwE P (.seq (.region 5 F101.r5.toArray false) (.seq (.seq (.region 6 F101.r6.toArray false) (.cond (.tmp 21) (.region 7 F101.r7.toArray false) .skip)) F101.t8)) Q e w := rfl
def F101.t3 : Cd := (.seq (.seq (.region 3 F101.r3.toArray false) (.cond (.tmp 18) (.seq (.region 4 F101.r4.toArray false) .ret) .skip)) F101.t5)
theorem F101.t3_eq {θ : Tag (F101.t3, Q, e, w)} : cwE P F101.t3 Q e w θ = cwE P (.seq (.seq (.region 3 F101.r3.toArray false) (.cond (.tmp 18) (.seq (.region 4 F101.r4.toArray false) .ret) .skip)) F101.t5) Q e w := rfl
def F101.code : Cd := (.seq (.region 0 F101.r0.toArray false) (.seq (.seq (.region 1 F101.r1.toArray false) (.cond (.tmp 9) (.seq (.region 2 F101.r2.toArray false) .ret) .skip)) F101.t3))
theorem F101.calls (hn : args.size ≤ 71) (h : cwE Tryz.prog F101.code (fnP Tryz.prog #[(.tmp 4)] R) (entry args) w) : Calls Tryz.prog 101 args w R :=
  calls_of_cwE (types := Tryz.prog.types) follows Tryz.func101 F101.code rfl (by kernel_rfl) hn h
def F103.r0 : List Oper := [
  op 6 (.assign (.const (.slice none 0 0))) 97]
def F103.r1 : List Oper := [
  op 8 (.move (.tmp 0)) 97,
  op 9 (.move (.tmp 1)) 3,
  op 10 (.move (.tmp 2)) 3,
  op 11 (.move (.tmp 0)) 97,
  op 12 (.call ⟨(.builtin .len), #[(.tmp 11)], #[97]⟩) 3,
  op 13 (.slice 97 (.tmp 8) (some (.tmp 9)) (some (.tmp 10)) (some (.tmp 12))) 97]
def F103.r2 : List Oper := [
  op 14 (.move (.tmp 1)) 3,
  op 15 (.move (.tmp 2)) 3,
  op 16 (.binOp .eql 3 (.tmp 14) (.tmp 15) 3) 4]
def F103.r3 : List Oper := [
  op 17 (.move (.tmp 0)) 97,
  op 6 (.assign (.tmp 17)) 97]
def F103.r4 : List Oper := [
  op 18 (.move (.tmp 0)) 97,
  op 19 (.call ⟨(.builtin .len), #[(.tmp 18)], #[97]⟩) 3,
  op 7 (.assign (.tmp 19)) 3]
def F103.r5 : List Oper := [
  ⟨(some 20), (.move (.tmp 0)), 97, "", #[], none⟩,
  ⟨(some 21), (.move (.tmp 1)), 3, "", #[], none⟩,
  ⟨(some 22), (.slice 97 (.tmp 20) none (some (.tmp 21)) none), 97, "", #[], none⟩,
  ⟨(some 23), (.move (.tmp 0)), 97, "", #[], none⟩,
  ⟨(some 24), (.move (.tmp 2)), 3, "", #[], none⟩,
  ⟨(some 25), (.slice 97 (.tmp 23) (some (.tmp 24)) none none), 97, "", #[], none⟩,
  ⟨(some 26), (.call ⟨(.builtin .append), #[(.tmp 22), (.tmp 25)], #[97, 97]⟩), 97, "", #[⟨6, .chain⟩], none⟩,
  ⟨(some 0), (.assign (.tmp 26)), 97, "", #[], none⟩]
def F103.r6 : List Oper := [
  op 27 (.move (.tmp 0)) 97,
  op 28 (.move (.tmp 0)) 97,
  op 29 (.call ⟨(.builtin .len), #[(.tmp 28)], #[97]⟩) 3,
  op 30 (.move (.tmp 7)) 3,
  op 31 (.slice 97 (.tmp 27) (some (.tmp 29)) (some (.tmp 30)) none) 97,
  ⟨none, (.call ⟨(.builtin .clear), #[(.tmp 31)], #[97]⟩), 0, "", #[⟨0, .chain⟩], none⟩]
def F103.r7 : List Oper := [
  op 32 (.move (.tmp 0)) 97,
  op 6 (.assign (.tmp 32)) 97]
def F103.t4 : Cd := (.seq (.region 4 F103.r4.toArray false) (.seq (.region 5 F103.r5.toArray true) (.seq (.region 6 F103.r6.toArray false) (.seq (.region 7 F103.r7.toArray false) .ret))))
theorem F103.t4_eq {θ : Tag (F103.t4, Q, e, w)} : cwE P F103.t4 Q e w θ = cwE P (.seq (.region 4 F103.r4.toArray false) (.seq (.region 5 F103.r5.toArray true) (.seq (.region 6 F103.r6.toArray false) (.seq (.region 7 F103.r7.toArray false) .ret)))) Q e w := rfl
def F103.code : Cd := (.seq (.region 0 F103.r0.toArray false) (.seq (.region 1 F103.r1.toArray false) (.seq (.seq (.region 2 F103.r2.toArray false) (.cond (.tmp 16) (.seq (.region 3 F103.r3.toArray false) .ret) .skip)) F103.t4)))
theorem F103.calls (hn : args.size ≤ 33) (h : cwE Tryz.prog F103.code (fnP Tryz.prog #[(.tmp 6)] R) (entry args) w) : Calls Tryz.prog 103 args w R :=
  calls_of_cwE (types := Tryz.prog.types) follows Tryz.func103 F103.code rfl (by kernel_rfl) hn h
def F111.r0 : List Oper := [
  op 4 (.assign (.const (.bool false))) 4]
def F111.r1 : List Oper := [
  op 5 (.move (.tmp 0)) 34,
  oc 6 (.call ⟨(.value (.func 116)), #[(.tmp 5)], #[34]⟩) 4,
  op 7 (.move (.tmp 6)) 4,
  og 8 (.move (.tmp 1)) 34 7 true,
  ⟨(some 9), (.call ⟨(.value (.func 116)), #[(.tmp 8)], #[34]⟩), 4, "", #[⟨0, .chain⟩], (some (7, true))⟩,
  og 10 (.unOp .not 4 (.tmp 9)) 4 7 true,
  op 11 (.pick (.tmp 7) (.tmp 10) (.const (.bool false))) 4,
  op 12 (.move (.tmp 11)) 4,
  og 13 (.move (.tmp 0)) 34 12 false,
  og 14 (.move (.tmp 1)) 34 12 false,
  og 15 (.binOp .lss 34 (.tmp 13) (.tmp 14) 34) 4 12 false,
  op 16 (.pick (.tmp 12) (.const (.bool true)) (.tmp 15)) 4,
  op 4 (.assign (.tmp 16)) 4]
def F111.code : Cd := (.seq (.region 0 F111.r0.toArray false) (.seq (.region 1 F111.r1.toArray false) .ret))
theorem F111.calls (hn : args.size ≤ 17) (h : cwE Tryz.prog F111.code (fnP Tryz.prog #[(.tmp 4)] R) (entry args) w) : Calls Tryz.prog 111 args w R :=
  calls_of_cwE (types := Tryz.prog.types) follows Tryz.func111 F111.code rfl (by kernel_rfl) hn h
def F112.r0 : List Oper := [
  op 2 (.assign (.const (.bool false))) 4]
def F112.r1 : List Oper := [
  op 3 (.move (.tmp 0)) 34,
  op 4 (.move (.tmp 0)) 34,
  op 5 (.binOp .neq 34 (.tmp 3) (.tmp 4) 34) 4,
  op 2 (.assign (.tmp 5)) 4]
def F112.code : Cd := (.seq (.region 0 F112.r0.toArray false) (.seq (.region 1 F112.r1.toArray false) .ret))
theorem F112.calls (hn : args.size ≤ 6) (h : cwE Tryz.prog F112.code (fnP Tryz.prog #[(.tmp 2)] R) (entry args) w) : Calls Tryz.prog 112 args w R :=
  calls_of_cwE (types := Tryz.prog.types) follows Tryz.func112 F112.code rfl (by kernel_rfl) hn h
def F114.r0 : List Oper := [
  op 8 (.assign (.const (.bool false))) 4]
def F114.r1 : List Oper := [
  op 9 (.move (.tmp 1)) 3,
  op 10 (.move (.tmp 0)) 9,
  op 11 (.call ⟨(.builtin .len), #[(.tmp 10)], #[9]⟩) 3,
  op 12 (.binOp .lss 3 (.tmp 9) (.tmp 11) 3) 4,
  op 13 (.move (.tmp 12)) 4,
  og 14 (.move (.tmp 0)) 9 13 true,
  og 15 (.move (.tmp 1)) 3 13 true,
  og 16 (.index 9 (.tmp 14) (.tmp 15)) 5 13 true,
  og 17 (.move (.tmp 2)) 5 13 true,
  og 18 (.binOp .geq 5 (.tmp 16) (.tmp 17) 5) 4 13 true,
  op 19 (.pick (.tmp 13) (.tmp 18) (.const (.bool false))) 4,
  op 20 (.move (.tmp 19)) 4,
  og 21 (.move (.tmp 0)) 9 20 true,
  og 22 (.move (.tmp 1)) 3 20 true,
  og 23 (.index 9 (.tmp 21) (.tmp 22)) 5 20 true,
  og 24 (.move (.tmp 3)) 5 20 true,
  og 25 (.binOp .leq 5 (.tmp 23) (.tmp 24) 5) 4 20 true,
  op 26 (.pick (.tmp 20) (.tmp 25) (.const (.bool false))) 4,
  op 8 (.assign (.tmp 26)) 4]
def F114.code : Cd := (.seq (.region 0 F114.r0.toArray false) (.seq (.region 1 F114.r1.toArray false) .ret))
theorem F114.calls (hn : args.size ≤ 27) (h : cwE Tryz.prog F114.code (fnP Tryz.prog #[(.tmp 8)] R) (entry args) w) : Calls Tryz.prog 114 args w R :=
  calls_of_cwE (types := Tryz.prog.types) follows Tryz.func114 F114.code rfl (by kernel_rfl) hn h
def F116.r0 : List Oper := [
  op 2 (.assign (.const (.bool false))) 4]
def F116.r1 : List Oper := [
  op 3 (.move (.tmp 0)) 34,
  op 4 (.move (.tmp 0)) 34,
  op 5 (.binOp .neq 34 (.tmp 3) (.tmp 4) 34) 4,
  op 2 (.assign (.tmp 5)) 4]
def F116.code : Cd := (.seq (.region 0 F116.r0.toArray false) (.seq (.region 1 F116.r1.toArray false) .ret))
theorem F116.calls (hn : args.size ≤ 6) (h : cwE Tryz.prog F116.code (fnP Tryz.prog #[(.tmp 2)] R) (entry args) w) : Calls Tryz.prog 116 args w R :=
  calls_of_cwE (types := Tryz.prog.types) follows Tryz.func116 F116.code rfl (by kernel_rfl) hn h
attribute [go_sem] fact_aggSz_102 fact_aggSz_136 fact_aggSz_137 fact_aggSz_142 fact_aggSz_27 fact_aggSz_29 fact_aggSz_3 fact_aggSz_33 fact_aggSz_34 fact_aggSz_36 fact_aggSz_39 fact_aggSz_4 fact_aggSz_40 fact_aggSz_42 fact_aggSz_43 fact_aggSz_45 fact_aggSz_5 fact_aggSz_50 fact_aggSz_64 fact_aggSz_69 fact_aggSz_82 fact_aggSz_9 fact_aggSz_96 fact_aggSz_97 fact_aggSz_98 fact_arrEx_9 fact_bldP_100 fact_bldP_104 fact_bldP_142 fact_bldP_36 fact_bldP_42 fact_bldP_45 fact_bldP_62 fact_bldP_63 fact_bldP_66 fact_bldP_81 fact_bldP_84 fact_elemOf_102 fact_elemOf_137 fact_elemOf_22 fact_elemOf_43 fact_elemOf_50 fact_elemOf_56 fact_elemOf_62 fact_elemOf_63 fact_elemOf_64 fact_elemOf_82 fact_elemOf_9 fact_elemOf_97 fact_fieldOff_100_0 fact_fieldOff_100_1 fact_fieldOff_100_2 fact_fieldOff_100_3 fact_fieldOff_100_4 fact_fieldOff_100_5 fact_fieldOff_104_0 fact_fieldOff_104_1 fact_fieldOff_104_2 fact_fieldOff_104_3 fact_fieldOff_142_0 fact_fieldOff_36_0 fact_fieldOff_36_1 fact_fieldOff_36_2 fact_fieldOff_36_3 fact_fieldOff_36_8 fact_fieldOff_42_0 fact_fieldOff_42_1 fact_fieldOff_42_10 fact_fieldOff_42_11 fact_fieldOff_42_12 fact_fieldOff_42_2 fact_fieldOff_42_3 fact_fieldOff_42_4 fact_fieldOff_42_5 fact_fieldOff_42_6 fact_fieldOff_42_7 fact_fieldOff_42_8 fact_fieldOff_42_9 fact_fieldOff_45_0 fact_fieldOff_45_1 fact_fieldOff_45_2 fact_fieldOff_45_3 fact_fieldOff_45_4 fact_fieldOff_45_5 fact_fieldOff_45_6 fact_fieldOff_45_7 fact_fieldOff_66_0 fact_fieldOff_66_1 fact_fieldOff_66_2 fact_fieldOff_69_0 fact_fieldOff_69_1 fact_fieldOff_69_2 fact_fieldOff_69_3 fact_fieldOff_69_4 fact_fieldOff_69_5 fact_fieldOff_69_6 fact_fieldOff_81_0 fact_fieldOff_81_1 fact_fieldOff_84_0 fact_fieldOff_84_1 fact_fieldOff_84_2 fact_flatE_42 fact_fnOk_10 fact_fnOk_100 fact_fnOk_101 fact_fnOk_102 fact_fnOk_103 fact_fnOk_11 fact_fnOk_111 fact_fnOk_112 fact_fnOk_113 fact_fnOk_114 fact_fnOk_116 fact_fnOk_12 fact_fnOk_14 fact_fnOk_16 fact_fnOk_17 fact_fnOk_18 fact_fnOk_19 fact_fnOk_20 fact_fnOk_21 fact_fnOk_22 fact_fnOk_23 fact_fnOk_24 fact_fnOk_25 fact_fnOk_26 fact_fnOk_27 fact_fnOk_28 fact_fnOk_29 fact_fnOk_30 fact_fnOk_32 fact_fnOk_34 fact_fnOk_35 fact_fnOk_36 fact_fnOk_37 fact_fnOk_38 fact_fnOk_39 fact_fnOk_40 fact_fnOk_41 fact_fnOk_42 fact_fnOk_43 fact_fnOk_44 fact_fnOk_45 fact_fnOk_46 fact_fnOk_47 fact_fnOk_48 fact_fnOk_49 fact_fnOk_5 fact_fnOk_50 fact_fnOk_51 fact_fnOk_52 fact_fnOk_53 fact_fnOk_54 fact_fnOk_55 fact_fnOk_56 fact_fnOk_57 fact_fnOk_58 fact_fnOk_59 fact_fnOk_60 fact_fnOk_61 fact_fnOk_62 fact_fnOk_63 fact_fnOk_65 fact_fnOk_66 fact_fnOk_67 fact_fnOk_78 fact_fnOk_79 fact_fnOk_8 fact_fnOk_80 fact_fnOk_81 fact_fnOk_82 fact_fnOk_83 fact_fnOk_84 fact_fnOk_85 fact_fnOk_86 fact_fnOk_87 fact_fnOk_88 fact_fnOk_9 fact_fnOk_93 fact_fnOk_94 fact_fnOk_99 fact_szO_102 fact_szO_136 fact_szO_137 fact_szO_142 fact_szO_27 fact_szO_29 fact_szO_3 fact_szO_33 fact_szO_34 fact_szO_4 fact_szO_42 fact_szO_43 fact_szO_45 fact_szO_5 fact_szO_50 fact_szO_64 fact_szO_82 fact_szO_9 fact_szO_97 fact_zeroV_137 fact_zeroV_142 fact_zeroV_3 fact_zeroV_4 fact_zeroV_42 fact_zeroV_45 fact_zeroV_50 Tryz.underlying3 Tryz.underlying4 Tryz.underlying5 Tryz.underlying9 Tryz.underlying22 Tryz.underlying27 Tryz.underlying34 Tryz.underlying39 Tryz.underlying42 Tryz.underlying43 Tryz.underlying47 Tryz.underlying50 Tryz.underlying56 Tryz.underlying64 Tryz.underlying82 Tryz.underlying96 Tryz.underlying97 Tryz.underlying101 Tryz.underlying102 Tryz.underlying136 Tryz.underlying137 Tryz.underlying158 F4.r0 F4.r1 F4.r2 F4.r3 F4.r4 F4.r5 F4.r6 F4.r7 F4.r8 F4.r9 F4.r10 F4.r11 F4.r12 F4.r13 F4.r14 F4.r16 F4.r17 F4.r18 F4.r19 F4.r15 F4.r20 F4.r21 F4.r22 F5.r0 F5.r1 F5.r2 F5.r3 F5.r4 F5.r5 F5.r6 F5.r7 F5.r8 F5.r9 F5.r10 F5.r11 F5.r12 F5.r13 F5.r14 F5.r15 F5.r16 F6.r0 F6.r1 F6.r2 F6.r4 F6.r3 F6.r5 F8.r0 F8.r1 F8.r2 F8.r3 F8.r4 F9.r0 F9.r1 F9.r2 F9.r3 F9.r4 F9.r5 F9.r6 F10.r0 F10.r1 F10.r3 F10.r4 F10.r5 F10.r6 F10.r7 F10.r8 F10.r9 F10.r10 F10.r2 F10.r11 F10.r12 F10.r13 F10.r14 F10.r15 F10.r16 F10.r17 F10.r18 F10.r19 F10.r20 F10.r21 F10.r22 F10.r23 F10.r24 F10.r25 F10.r26 F10.r27 F10.r28 F10.r29 F10.r30 F11.r0 F11.r1 F11.r2 F11.r3 F11.r4 F11.r5 F11.r6 F11.r7 F11.r8 F11.r9 F11.r10 F11.r11 F11.r12 F11.r13 F11.r14 F11.r15 F11.r16 F11.r17 F11.r18 F11.r19 F11.r20 F11.r21 F11.r22 F11.r23 F11.r24 F12.r0 F12.r1 F14.r0 F14.r1 F14.r2 F14.r3 F14.r5 F14.r4 F14.r6 F16.r0 F16.r1 F17.r0 F17.r1 F17.r2 F17.r3 F17.r5 F17.r4 F17.r6 F18.r0 F18.r1 F18.r2 F18.r3 F18.r4 F18.r5 F18.r6 F18.r7 F19.r0 F19.r1 F19.r2 F19.r3 F19.r4 F19.r5 F19.r6 F19.r7 F19.r8 F19.r9 F19.r10 F19.r11 F19.r12 F19.r13 F19.r14 F19.r15 F19.r16 F19.r17 F19.r18 F19.r19 F19.r20 F19.r21 F19.r22 F19.r23 F19.r24 F19.r25 F19.r26 F19.r27 F19.r28 F19.r29 F19.r30 F19.r31 F19.r32 F19.r33 F19.r34 F19.r35 F19.r36 F20.r0 F20.r1 F20.r2 F20.r4 F20.r5 F20.r7 F20.r8 F20.r6 F20.r3 F20.r9 F21.r0 F21.r1 F21.r2 F21.r3 F21.r4 F21.r5 F21.r6 F21.r8 F21.r9 F21.r10 F21.r11 F21.r12 F21.r13 F21.r14 F21.r15 F21.r16 F21.r17 F21.r18 F21.r7 F21.r19 F21.r20 F21.r22 F21.r23 F21.r24 F21.r21 F21.r25 F22.r0 F22.r1 F22.r2 F22.r3 F23.r0 F23.r1 F24.r0 F24.r1 F24.r2 F24.r3 F24.r4 F24.r5 F24.r6 F24.r7 F24.r8 F25.r0 F25.r1 F25.r2 F25.r3 F26.r0 F26.r1 F26.r2 F26.r3 F27.r0 F27.r1 F28.r0 F28.r1 F28.r2 F29.r0 F29.r1 F29.r2 F29.r3 F29.r4 F29.r5 F29.r6 F29.r7 F29.r8 F29.r9 F29.r10 F29.r11 F34.r0 F34.r1 F34.r2 F34.r3 F34.r4 F34.r5 F34.r6 F34.r7 F34.r8 F34.r9 F34.r10 F34.r11 F34.r12 F34.r13 F34.r14 F34.r15 F34.r16 F34.r17 F34.r18 F34.r19 F34.r20 F34.r21 F34.r22 F34.r23 F35.r0 F35.r1 F35.r2 F35.r3 F35.r4 F35.r5 F35.r6 F35.r7 F35.r8 F35.r9 F35.r10 F35.r11 F35.r12 F35.r13 F35.r14 F35.r15 F36.r0 F36.r1 F36.r2 F36.r3 F36.r4 F36.r5 F36.r6 F36.r7 F36.r8 F36.r9 F36.r10 F36.r11 F36.r12 F36.r13 F36.r14 F37.r0 F37.r1 F37.r2 F37.r3 F37.r4 F38.r0 F38.r1 F38.r2 F38.r4 F38.r5 F38.r3 F38.r6 F39.r0 F39.r1 F39.r2 F39.r3 F39.r4 F39.r5 F39.r6 F39.r7 F39.r8 F39.r9 F39.r10 F39.r11 F39.r12 F39.r13 F39.r14 F39.r15 F39.r16 F39.r17 F39.r18 F39.r19 F39.r20 F39.r21 F40.r0 F40.r1 F40.r2 F40.r3 F40.r4 F40.r5 F40.r6 F40.r7 F40.r8 F40.r9 F40.r10 F40.r11 F40.r12 F41.r0 F41.r1 F41.r2 F41.r3 F41.r4 F41.r5 F41.r6 F41.r7 F41.r8 F41.r9 F41.r10 F41.r11 F42.r0 F42.r1 F42.r2 F42.r3 F42.r4 F42.r5 F42.r6 F42.r7 F42.r8 F42.r9 F42.r10 F42.r11 F42.r12 F42.r13 F42.r14 F42.r15 F42.r16 F42.r17 F42.r18 F42.r19 F42.r20 F42.r21 F42.r22 F42.r23 F42.r24 F42.r25 F42.r26 F43.r0 F43.r1 F43.r2 F43.r3 F43.r4 F43.r5 F43.r6 F43.r7 F43.r8 F43.r9 F44.r0 F44.r1 F44.r2 F44.r3 F44.r4 F44.r5 F44.r6 F44.r7 F44.r8 F44.r9 F44.r10 F44.r11 F44.r12 F44.r14 F44.r13 F44.r15 F45.r0 F45.r1 F45.r2 F45.r3 F45.r4 F45.r5 F46.r0 F46.r1 F46.r3 F46.r4 F46.r2 F47.r0 F47.r1 F47.r2 F47.r3 F47.r4 F47.r5 F47.r6 F48.r0 F48.r1 F49.r0 F49.r1 F49.r2 F49.r3 F49.r4 F49.r5 F49.r6 F49.r8 F49.r7 F49.r9 F49.r10 F49.r11 F49.r12 F49.r13 F49.r14 F49.r15 F49.r16 F49.r17 F49.r19 F49.r18 F49.r20 F50.r0 F50.r1 F50.r2 F50.r3 F50.r4 F51.r0 F51.r1 F51.r2 F51.r3 F51.r4 F52.r0 F52.r1 F52.r2 F52.r4 F52.r5 F52.r6 F52.r3 F52.r7 F53.r0 F53.r1 F53.r2 F53.r3 F53.r4 F53.r5 F53.r6 F54.r0 F54.r1 F54.r2 F54.r4 F54.r5 F54.r6 F54.r3 F54.r7 F55.r0 F55.r1 F55.r2 F55.r3 F55.r4 F55.r5 F55.r6 F56.r0 F56.r1 F57.r0 F57.r1 F58.r0 F58.r1 F58.r2 F58.r3 F58.r4 F58.r5 F58.r6 F58.r7 F58.r8 F58.r9 F58.r10 F58.r11 F58.r12 F58.r13 F58.r14 F58.r15 F58.r16 F58.r17 F58.r18 F58.r19 F58.r20 F58.r21 F59.r0 F59.r1 F59.r2 F59.r3 F59.r5 F59.r6 F59.r7 F59.r4 F59.r8 F60.r0 F60.r1 F60.r2 F60.r3 F60.r4 F60.r5 F60.r6 F60.r7 F60.r8 F60.r9 F60.r10 F60.r11 F60.r12 F61.r0 F61.r1 F61.r2 F61.r3 F61.r4 F61.r5 F61.r6 F61.r7 F61.r8 F62.r0 F62.r1 F65.r0 F65.r1 F65.r2 F65.r3 F65.r4 F65.r5 F65.r6 F65.r7 F65.r8 F65.r9 F65.r10 F65.r11 F65.r12 F65.r13 F65.r14 F65.r15 F65.r16 F65.r17 F65.r18 F65.r19 F66.r0 F66.r1 F66.r2 F66.r3 F66.r4 F66.r5 F66.r6 F66.r7 F66.r8 F66.r9 F66.r10 F66.r11 F67.r0 F67.r1 F67.r2 F67.r3 F67.r4 F67.r5 F67.r6 F67.r7 F67.r8 F67.r9 F67.r10 F67.r11 F67.r12 F67.r13 F78.r0 F78.r1 F79.r0 F79.r1 F80.r0 F80.r1 F80.r2 F81.r0 F81.r1 F81.r2 F81.r3 F81.r4 F81.r5 F81.r7 F81.r8 F81.r6 F81.r9 F82.r0 F82.r1 F83.r0 F83.r1 F83.r2 F83.r3 F83.r4 F83.r5 F83.r6 F84.r0 F84.r1 F85.r0 F85.r1 F85.r2 F85.r3 F85.r4 F85.r5 F85.r6 F85.r7 F85.r8 F86.r0 F86.r1 F86.r2 F86.r3 F86.r4 F86.r6 F86.r7 F86.r9 F86.r8 F86.r5 F86.r10 F86.r11 F86.r13 F86.r14 F86.r15 F86.r17 F86.r16 F86.r18 F86.r12 F87.r0 F87.r1 F87.r2 F87.r3 F88.r0 F88.r1 F88.r2 F88.r3 F88.r4 F88.r5 F88.r6 F88.r7 F93.r0 F93.r1 F93.r2 F93.r3 F93.r4 F93.r5 F93.r6 F93.r7 F93.r8 F93.r9 F94.r0 F94.r1 F94.r2 F94.r3 F94.r4 F99.r0 F99.r1 F99.r2 F99.r3 F99.r4 F99.r5 F99.r6 F99.r7 F99.r8 F100.r0 F100.r1 F100.r2 F100.r3 F100.r4 F100.r5 F100.r6 F100.r7 F100.r8 F100.r9 F100.r10 F101.r0 F101.r1 F101.r2 F101.r3 F101.r4 F101.r5 F101.r6 F101.r7 F101.r8 F101.r9 F101.r10 F101.r11 F101.r12 F101.r13 F101.r14 F101.r15 F101.r16 F101.r17 F101.r18 F103.r0 F103.r1 F103.r2 F103.r3 F103.r4 F103.r5 F103.r6 F103.r7 F111.r0 F111.r1 F112.r0 F112.r1 F114.r0 F114.r1 F116.r0 F116.r1
end Go.Proofs.YtijnmokpihhhcaaGreatDoor
namespace Go.Proofs.YtijnmokpihhhcaaGreatDoor
open Go
set_option linter.unusedVariables false
set_option linter.unusedSimpArgs false
set_option maxRecDepth 100000
def Tabs : HP := fun h =>
  (∃ cur T fr, h 0 = some (.cells cur T fr) ∧ ∀ c, c < 256 → cur[c]? = some (.int .u8 (Lib.firstT c))) ∧
  (∃ cur T fr, h 1 = some (.cells cur T fr) ∧ ∀ i, i < 16 → cur[2 * i]? = some (.int .u8 (Lib.accLo i)) ∧ cur[2 * i + 1]? = some (.int .u8 (Lib.accHi i))) ∧
  (∃ cur T fr m, h 2 = some (.cells cur T fr) ∧ cur[0]? = some (.int .i64 m))
theorem cell_of {w : World} {b : Nat} {cur : Array Value} {T : TypeId} {fr : Nat × Nat} (h : heapOf w b = some (.cells cur T fr)) (i : Nat) : w.cell? ⟨b, i, none⟩ = cur[i]? := by
  have : w.heap[b]? = some (.cells cur T fr) := h
  simp [World.cell?, this]
section
variable {w0 w : World} {A : HP}
theorem St.tabs (h : St w0 A w) [i : Gives A Tabs] : Lib.Utf8Tabs 0 1 w := by
  obtain ⟨x, l, ⟨c1, T1, f1, h1, k1⟩, ⟨c2, T2, f2, h2, k2⟩, _⟩ := (h.ent i.ent).sat
  exact ⟨fun c hc => by rw [cell_of (l _ _ h1), k1 c hc], fun j hj => by rw [cell_of (l _ _ h2), cell_of (l _ _ h2)]; exact k2 j hj⟩
end
section
variable {w0 w : World} {A : HP}
theorem contains_lib (h : St w0 A w) {l : List UInt8} :
    Calls Tryz.prog 102 #[.string (strOf l), .string (strOf [47])] w fun e w' => St w0 A w' ∧ e = .returned (.bool (decide ((47 : UInt8) ∈ l))) := by
  refine (Any.strings_Contains_one layContains (strOf l) 47 w).mono ?_
  rintro e w' ⟨rfl, rfl⟩
  refine ⟨h, ?_⟩
  rw [strOf_data]
  have : ∀ l : List UInt8, (0 ≤ Lib.indexByte l 47) ↔ (47 : UInt8) ∈ l := fun l => by
    induction l with
    | nil => simp [Lib.indexByte]
    | cons b l ih =>
      have hg := Lib.indexByte_ge l 47
      simp only [Lib.indexByte, List.mem_cons]
      by_cases hb : b = 47
      · subst hb; simp
      · have hb' : (b == 47) = false := by simpa using hb
        have hb2 : ¬ (47 : UInt8) = b := fun e => hb e.symm
        simp only [hb', hb2, false_or, ← ih, Bool.false_eq_true, if_false]
        split
        · rename_i hx; simp only [beq_iff_eq] at hx; omega
        · rename_i hx; simp only [beq_iff_eq] at hx; omega
  simp only [this]
theorem decode_lib (h : St w0 A w) [i : Gives A Tabs] {l : List UInt8} :
    Calls Tryz.prog 113 #[.string (strOf l)] w fun e w' => St w0 A w' ∧ e = .returned (.tuple #[.int .i32 (if l = [] then 65533 else (decL l).1 : Nat), .int .i64 (if l = [] then 0 else (decL l).2 : Nat)]) := by
  refine (Any.utf8_DecodeRuneInString layDecode (strOf l) w h.tabs).mono ?_
  rintro e w' ⟨rfl, hb⟩
  refine ⟨h.of_below hb, ?_⟩
  have : Lib.decodeGo (strOf l) = if l = [] then (65533, 0) else decL l := by
    unfold Lib.decodeGo
    rw [strOf_size, decode_strOf]
    by_cases e : l = []
    · simp [e]
    · have : l.length ≠ 0 := fun h => e (List.eq_nil_of_length_eq_zero h)
      simp [e, this]
  rw [this]
  split <;> rfl
end
def good (l : List UInt8) : Bool := (chs l).all fun x => !(x.1 == 0) && !(x.1 == 65533 && x.2 == 1)
theorem good_nil : good [] = true := rfl
theorem good_cons {l : List UInt8} (h : l ≠ []) : good l = ((!((decL l).1 == 0) && !((decL l).1 == 65533 && (decL l).2 == 1)) && good (l.drop (decL l).2)) := by
  unfold good
  rw [chs_cons h, List.all_cons]
section
attribute [local go_sem] F100.t6_eq F100.t3_eq F100.t10_eq
theorem bad_any {w0 w : World} {A : HP} (h : St w0 A w) [Gives A Tabs] {l : List UInt8} (hl : l.length ≤ 9223372036854775807) :
    Calls Tryz.prog 100 #[.string (strOf l)] w fun e w' => St w0 A w' ∧ ∃ k : Int, e = .returned (.int .i64 k) ∧ decide (k < 0) = good l := by
  refine F100.calls (by simp) ?_
  unfold F100.code
  simp -dsimp -implicitDefEqProofs (disch := omega) only [go_sem]
  refine h.rangeS (by kernel_rfl) fun r w1 h1 => ?_
  simp -dsimp -implicitDefEqProofs (disch := omega) only [go_sem]
  refine loop_intro (fun e w' => e.ds = [] ∧ e.ρ 0 = .string (strOf l) ∧ e.ρ 8 = .pointer (some ⟨r, 0, none⟩) ∧ ∃ pos : Nat, pos ≤ l.length ∧ good l = good (l.drop pos) ∧ St w0 (Blk r (.stringIter (strOf l) pos) * A) w')
    (fun e w' => match w'.heap[r]? with | some (.stringIter _ p) => l.length - p | _ => 0) ?_ ?_
  · exact ⟨rfl, by simp -dsimp -implicitDefEqProofs only [go_sem], by simp -dsimp -implicitDefEqProofs only [go_sem], 0, by omega, by simp, h1⟩
  · clear h1 h
    rintro e w2 ⟨hd, e0, e8, pos, hpos, hg, h2⟩
    simp -dsimp -implicitDefEqProofs (disch := omega) only [go_sem, hd, e0, e8]
    refine h2.nextS (fun hn => ?_) fun hm w3 h3 => ?_
    · have : l.drop pos = [] := List.drop_of_length_le (by omega)
      rw [this] at hg
      simp -dsimp -implicitDefEqProofs (disch := omega) only [go_sem, hd, e0, e8]
      exact ⟨h2.right, _, rfl, by rw [hg]; rfl⟩
    · have hne : l.drop pos ≠ [] := fun e => by have := congrArg List.length e; simp at this; omega
      have hw := decL_width _ hne
      have hle := decL_le (l.drop pos)
      have hdl : (l.drop pos).length = l.length - pos := by simp
      rw [good_cons hne, List.drop_drop] at hg
      obtain ⟨c, hc⟩ : ∃ c, c = (decL (l.drop pos)).1 := ⟨_, rfl⟩
      obtain ⟨n, hn⟩ : ∃ n, n = (decL (l.drop pos)).2 := ⟨_, rfl⟩
      rw [← hc] at hle hg
      rw [← hn] at hg hw h3
      rw [← hc]
      have m2 := h2.blk
      have m3 := h3.blk
      by_cases c0 : (c : Int) = 0
      · have : c = 0 := by omega
        simp -dsimp -implicitDefEqProofs (disch := omega) only [go_sem, hd, e0, e8, c0]
        exact ⟨h3.right, _, rfl, by rw [hg, this]; simp⟩
      · have c0' : ¬ c = 0 := by omega
        by_cases c1 : (c : Int) = 65533
        · have : c = 65533 := by omega
          simp -dsimp -implicitDefEqProofs (disch := omega) only [go_sem, hd, e0, e8, c0, c1]
          refine (decode_lib (l := l.drop pos) h3).mono ?_
          rintro e' w4 ⟨h4, rfl⟩
          have m4 := h4.blk
          simp only [hne, if_false, ← hn, ← hc]
          by_cases n1 : (n : Int) = 1
          · have : n = 1 := by omega
            simp -dsimp -implicitDefEqProofs (disch := omega) only [go_sem, hd, e0, e8, n1]
            exact ⟨h4.right, _, rfl, by rw [hg, this, ‹c = 65533›]; simp⟩
          · have : ¬ n = 1 := by omega
            simp -dsimp -implicitDefEqProofs (disch := omega) only [go_sem, hd, e0, e8, n1, m2, m4]
            exact ⟨⟨pos + n, by omega, by rw [hg]; simp [c0', this], h4⟩, by omega⟩
        · have : ¬ c = 65533 := by omega
          simp -dsimp -implicitDefEqProofs (disch := omega) only [go_sem, hd, e0, e8, c0, c1, m2, m3]
          exact ⟨⟨pos + n, by omega, by rw [hg]; simp [c0', this], h3⟩, by omega⟩
end
theorem good_any {w0 w : World} {A : HP} (h : St w0 A w) [Gives A Tabs] {l : List UInt8} (hl : l.length ≤ 9223372036854775807) :
    Calls Tryz.prog 84 #[.string (strOf l)] w fun e w' => St w0 A w' ∧ e = .returned (.bool (good l)) := by
  refine F84.calls (by simp) ?_
  unfold F84.code
  simp -dsimp -implicitDefEqProofs (disch := omega) only [go_sem]
  refine (bad_any h hl).mono ?_
  rintro e w1 ⟨h1, k, rfl, hk⟩
  simp -dsimp -implicitDefEqProofs (disch := omega) only [go_sem, hk]
  exact h1
def dots (l : List UInt8) : Bool := l == [] || l == [46] || l == [46, 46]
def okName (l : List UInt8) : Bool := !(dots l) && !(255 < l.length : Bool) && !((47 : UInt8) ∈ l : Bool) && good l
section
attribute [local go_sem] F93.t8_eq F93.t4_eq F93.t9_eq
theorem check_any {w0 w : World} {A : HP} (h : St w0 A w) [Gives A Tabs] {l : List UInt8} (hl : l.length ≤ 9223372036854775807) :
    Calls Tryz.prog 93 #[.string (strOf l)] w fun e w' => St w0 A w' ∧ e = .returned (.int .i64 (if okName l then 0 else 50)) := by
  refine F93.calls (by simp) ?_
  unfold F93.code
  by_cases h0 : l = []
  · have : okName l = false := by simp [okName, dots, h0]
    have e0 : decide (l = []) = true := by simp [h0]
    simp -dsimp -implicitDefEqProofs (disch := omega) only [go_sem, e0]
    simp only [this]
    exact ⟨h, rfl⟩
  by_cases h1 : l = [46]
  · have : okName l = false := by simp [okName, dots, h1]
    have e1 : decide (l = [46]) = true := by simp [h1]
    simp -dsimp -implicitDefEqProofs (disch := omega) only [go_sem, h0, e1]
    simp only [this]
    exact ⟨h, rfl⟩
  by_cases h2 : l = [46, 46]
  · have : okName l = false := by simp [okName, dots, h2]
    have e2 : decide (l = [46, 46]) = true := by simp [h2]
    simp -dsimp -implicitDefEqProofs (disch := omega) only [go_sem, h0, h1, e2]
    simp only [this]
    exact ⟨h, rfl⟩
  by_cases h3 : (255 : Int) < l.length
  · have : okName l = false := by simp [okName]; intros; omega
    simp -dsimp -implicitDefEqProofs (disch := omega) only [go_sem, h0, h1, h2, h3]
    simp only [this]
    exact ⟨h, rfl⟩
  simp -dsimp -implicitDefEqProofs (disch := omega) only [go_sem, h0, h1, h2, h3]
  refine (contains_lib h).mono ?_
  rintro e w1 ⟨hw1, rfl⟩
  by_cases h4 : (47 : UInt8) ∈ l
  · have : okName l = false := by simp [okName, h4]
    simp -dsimp -implicitDefEqProofs (disch := omega) only [go_sem, h0, h1, h2, h3, h4]
    simp only [this]
    exact ⟨hw1, rfl⟩
  simp -dsimp -implicitDefEqProofs (disch := omega) only [go_sem, h0, h1, h2, h3, h4]
  refine (good_any hw1 hl).mono ?_
  rintro e w2 ⟨hw2, rfl⟩
  cases h5 : good l with
  | false =>
    have : okName l = false := by simp [okName, h5]
    simp -dsimp -implicitDefEqProofs (disch := omega) only [go_sem, h5]
    simp only [this]
    exact ⟨hw2, rfl⟩
  | true =>
    have : okName l = true := by simp [okName, dots, h0, h1, h2, h4, h5]; omega
    simp -dsimp -implicitDefEqProofs (disch := omega) only [go_sem, h5]
    simp only [this]
    exact ⟨hw2, rfl⟩
end
theorem St.below0 {w0 w : World} (h : St w0 (Old w0) w) : RowKit.Below w0.heap.size w0 w := by
  refine ⟨h.os, h.tape, h.output, h.size, fun k hk => ?_⟩
  obtain ⟨x, l, a⟩ := h.sat
  have := l k _ (a k _ (Array.getElem?_eq_getElem hk))
  rw [Array.getElem?_eq_getElem hk]
  exact this
end Go.Proofs.YtijnmokpihhhcaaGreatDoor
namespace Go.Proofs.YtijnmokpihhhcaaGreatDoor
open Go
open Go.RowKit
set_option linter.unusedVariables false
set_option linter.unusedSimpArgs false
section
variable {H : Type} {enc : TypeId × Value → H}
theorem returns_laid {a : Assume} {C : Checked} {os : Os} {f : FuncId} {fn : Func} {s : ChangeSpec} {conds : List PathCond} {apart fresh handsOn again : Bool} {laid : List (String × DataW Unit)}
    (own : ownKnob C.prog.godebug = none) (started : os.Started) (noInit : C.prog.inits.idxOf? f = none) (hfn : C.prog.funcs[f]? = some fn)
    (witness : ∃ (w : World) (tape : Tape) (i : Input), w.os = os ∧ (w.forCall tape i).Shaped C.prog ∧ i.vars = [] ∧ Input.okWide C.prog (w.forCall tape i) .any w.heap.size f i ∧
      ((s.pre enc C.prog fn conds apart (w.forCall tape i).memory i.args ∧ laidMetH C.prog laid (w.forCall tape i).memory) ∧ sizedMet enc C.prog fn (OpenSpec.ofChange s) apart (w.forCall tape i).memory i.args) ∧ a.holds C.prog (lone (Frame.enter C.prog f i.args .normal) [] (w.forCall tape i)))
    (contract : ∀ (W : World) (base : Nat) (args : Array Value) (ds gs : List (DataW H)) (before : List MemPlace),
      (∀ (j : Nat) t v, fn.params[j]? = some t → args[j]? = some v → Value.okWide C.prog W .any base t v) →
      DataW.Whole enc C.prog fn.params.toList s.vars apart W args.toList ds gs before →
      conds.all (PathCond.test C.prog ⟨fn.params.toList, ds, s.plain.varTypes C.prog, gs⟩) = true →
      (DataW.weightsEach C.prog (fn.params.toList ++ s.plain.varTypes C.prog) (ds ++ gs)).all (· ≤ reachBytes) = true →
      laidMetH C.prog laid W → W.ShapedOpen C.prog →
      a.holds C.prog (lone (Frame.enter C.prog f args .normal) [] W) →
      Calls C.prog f args W fun e W' => ∃ v, e = .returned v ∧ s.post enc C.prog fn apart fresh handsOn again W args v W') :
    ReturnsInHanded a C os f .any (fun w args => (s.pre enc C.prog fn conds apart w args ∧ laidMetH C.prog laid w) ∧ sizedMet enc C.prog fn (OpenSpec.ofChange s) apart w args) (s.post enc C.prog fn apart fresh handsOn again) := by
  refine returnsInHanded_of_calls own started noInit witness ?_
  intro w tape i _ hsh _ hok hpre hholds
  obtain ⟨_, _, _, fn', hfn', _, _, _, _, hval⟩ := hok
  have e : fn' = fn := Option.some.inj (hfn'.symm.trans hfn)
  subst e
  obtain ⟨⟨⟨ds, gs, before, hw, hc⟩, hx⟩, hz⟩ := hpre
  have hw' := DataW.Whole.of_heap (w' := w.forCall tape i) (by rfl) hw
  refine (contract (w.forCall tape i) w.heap.size i.args ds gs before hval hw' hc (hz.weights hw) (hx.of_heap (by rfl)) hsh hholds).mono fun e W' ⟨v, he, hp⟩ => ?_
  subst he
  exact ChangeSpec.post_blind hp
end
abbrev laidU8 : List (String × DataW Unit) := [("unicode/utf8.acceptRanges", Rows.laid_unicode_utf8_acceptRanges), ("unicode/utf8.first", Rows.laid_unicode_utf8_first)]
theorem accept_eq : (Rows.laid_unicode_utf8_acceptRanges : DataW Unit) = Lib.acceptData := by kernel_rfl
theorem first_eq : Rows.laid_unicode_utf8_first = Lib.firstData := Pinned.utf8First_eq
theorem block_of_cell {w : World} {b i : Nat} {v : Value} (h : w.cell? ⟨b, i, none⟩ = some v) : ∃ cur T fr, heapOf w b = some (.cells cur T fr) := by
  unfold heapOf
  simp only [World.cell?] at h
  split at h
  · rename_i cs t f e; exact ⟨_, _, _, e⟩
  · cases h
theorem cell_at {w : World} {b i : Nat} {v : Value} {cur : Array Value} {T : TypeId} {fr : Nat × Nat} (h : w.cell? ⟨b, i, none⟩ = some v) (k : heapOf w b = some (.cells cur T fr)) : cur[i]? = some v := by
  rw [cell_of k] at h; exact h
theorem tabs_old {W : World} (hL : laidMetH Tryz.prog laidU8 W) (hs : W.ShapedOpen Tryz.prog) : Ent (Old W) Tabs := by
  have hM : laidMet Tryz.prog laidU8 W := by rwa [MakeChecks.laidMetH_plain _ _ _ (by kernel_rfl)] at hL
  have h4 : Lib.VarReads Tryz.prog W "unicode/utf8.acceptRanges" Lib.acceptData := accept_eq ▸ Lib.laidMet.reads hM (by simp [laidU8])
  have h3 : Lib.VarReads Tryz.prog W "unicode/utf8.first" Lib.firstData := first_eq ▸ Lib.laidMet.reads hM (by simp [laidU8])
  have ht : Lib.Utf8Tabs 0 1 W := utf8Tabs_of_reads (ρ := layDecode_ren) { layDecode with } ⟨by kernel_rfl, by kernel_rfl, by kernel_rfl, by kernel_rfl, by kernel_rfl, by kernel_rfl, by kernel_rfl⟩ h3 h4
  obtain ⟨m, hm⟩ := cell_of_shapedOpen_int (P := Tryz.prog) (g := 2) (t := 3) (zero := #[.int .i64 0]) hs (of_decide_eq_true (by kernel_rfl)) (by kernel_rfl) rfl (by kernel_rfl) (by kernel_rfl) Tryz.underlying3
  obtain ⟨c1, T1, f1, k1⟩ := block_of_cell (ht.1 0 (by omega))
  obtain ⟨c2, T2, f2, k2⟩ := block_of_cell (ht.2 0 (by omega)).1
  obtain ⟨c0, T0, f0, k0⟩ := block_of_cell hm
  refine Ent.of fun h a => ⟨⟨c1, T1, f1, a _ _ k1, fun c hc => cell_at (ht.1 c hc) k1⟩, ⟨c2, T2, f2, a _ _ k2, fun i hi => ⟨cell_at (ht.2 i hi).1 k2, cell_at (ht.2 i hi).2 k2⟩⟩, ⟨c0, T0, f0, m, a _ _ k0, cell_at hm k0⟩⟩
noncomputable abbrev laidWorld (os : Os) : World := World.laidAll Tryz.prog os laidU8
theorem laidWorld_met (os : Os) (args : Array Value) : laidMetH Tryz.prog laidU8 ((laidWorld os).forCall (fun _ _ => 0) ⟨#[], args, []⟩).memory := by
  rw [MakeChecks.laidMetH_plain _ _ _ (by kernel_rfl)]
  exact laidMet_laidAll _ (by kernel_rfl) (by kernel_rfl)
theorem laidWorld_shaped (os : Os) (args : Array Value) : ((laidWorld os).forCall (fun _ _ => 0) ⟨#[], args, []⟩).Shaped Tryz.prog :=
  World.shaped_of_ZipB (by kernel_rfl) (by kernel_rfl)
end Go.Proofs.YtijnmokpihhhcaaGreatDoor
namespace Go.Proofs.YtijnmokpihhhcaaGreatDoor
open Go
set_option maxRecDepth 100000
abbrev muLink : Go.Conc.Locks.MuLink := { lock := 32, unlock := 33, ilock := 76, iunlock := 77, lockSlow := 97, unlockSlow := 98, disable := 69, enable := 72, acquire := 73, relMerge := 74, cas32 := 96, add32 := 95, tMutex := 90, tIMutex := 88, tPMutex := 130, tPIMutex := 151, tPI32 := 150, tUP := 129, tNoCopy := 86, tU32 := 33 }
theorem muLib : Go.Conc.Locks.MuLib Tryz.prog muLink :=
  ⟨Tryz.func32, Tryz.func33, Tryz.func76, Tryz.func77, Tryz.func69, Tryz.func72, Tryz.func73, Tryz.func74, Tryz.func96, Tryz.func95, Tryz.underlying88, Tryz.runUnderlying88, Tryz.sizeOf88, Tryz.isAgg88, Tryz.zeroValue88, Tryz.underlying90, Tryz.runUnderlying90, Tryz.sizeOf90, Tryz.isAgg90, Tryz.zeroValue90, Tryz.underlying130, Tryz.runUnderlying130, Tryz.sizeOf130, Tryz.isAgg130, Tryz.zeroValue130, Tryz.underlying151, Tryz.runUnderlying151, Tryz.sizeOf151, Tryz.isAgg151, Tryz.zeroValue151, Tryz.underlying150, Tryz.runUnderlying150, Tryz.sizeOf150, Tryz.isAgg150, Tryz.zeroValue150, Tryz.underlying129, Tryz.runUnderlying129, Tryz.sizeOf129, Tryz.isAgg129, Tryz.zeroValue129, Tryz.underlying86, Tryz.runUnderlying86, Tryz.sizeOf86, Tryz.isAgg86, Tryz.zeroValue86, Tryz.underlying21, Tryz.runUnderlying21, Tryz.sizeOf21, Tryz.isAgg21, Tryz.zeroValue21, by kernel_rfl⟩
abbrev rwLink : Go.Conc.Locks.RwLink := { lock := 32, unlock := 33, ilock := 76, iunlock := 77, lockSlow := 97, unlockSlow := 98, disable := 69, enable := 72, acquire := 73, relMerge := 74, cas32 := 96, add32 := 95, rlock := 30, runlock := 31, wlock := 63, wunlock := 64, i32add := 70, raceRead := 68, release := 90, rUnlockSlow := 75, semacqR := 71, semacqW := 89, semrel := 92, sfatal := 91, tMutex := 90, tIMutex := 88, tPMutex := 130, tPIMutex := 151, tPI32 := 150, tUP := 129, tNoCopy := 86, tU32 := 33, tRW := 95, tPRW := 127, tAI32 := 93, tPAI32 := 148, tPU32 := 133, tANoCopy := 91 }
theorem rwCore : Go.Conc.Locks.RwCore Tryz.prog rwLink :=
  ⟨Tryz.func70, Tryz.func68, Tryz.func69, Tryz.func72, Tryz.func73, Tryz.func74, Tryz.func95, Tryz.underlying95, Tryz.runUnderlying95, Tryz.sizeOf95, Tryz.isAgg95, Tryz.zeroValue95, Tryz.underlying93, Tryz.runUnderlying93, Tryz.sizeOf93, Tryz.isAgg93, Tryz.zeroValue93, Tryz.underlying127, Tryz.runUnderlying127, Tryz.sizeOf127, Tryz.isAgg127, Tryz.zeroValue127, Tryz.underlying148, Tryz.runUnderlying148, Tryz.sizeOf148, Tryz.isAgg148, Tryz.zeroValue148, Tryz.underlying133, Tryz.runUnderlying133, Tryz.sizeOf133, Tryz.isAgg133, Tryz.zeroValue133, Tryz.underlying91, Tryz.runUnderlying91, Tryz.sizeOf91, Tryz.isAgg91, Tryz.zeroValue91, Tryz.underlying33, Tryz.runUnderlying33, Tryz.sizeOf33, Tryz.isAgg33, Tryz.zeroValue33, Tryz.underlying90, Tryz.runUnderlying90, Tryz.sizeOf90, Tryz.isAgg90, Tryz.zeroValue90, Tryz.underlying130, Tryz.runUnderlying130, Tryz.sizeOf130, Tryz.isAgg130, Tryz.zeroValue130, Tryz.underlying150, Tryz.runUnderlying150, Tryz.sizeOf150, Tryz.isAgg150, Tryz.zeroValue150, Tryz.underlying129, Tryz.runUnderlying129, Tryz.sizeOf129, Tryz.isAgg129, Tryz.zeroValue129, Tryz.underlying21, Tryz.runUnderlying21, Tryz.sizeOf21, Tryz.isAgg21, Tryz.zeroValue21, by kernel_rfl, by kernel_rfl⟩
theorem rwRLib : Go.Conc.Locks.RwRLib Tryz.prog rwLink := ⟨rwCore, Tryz.func30, Tryz.func31⟩
theorem rwWLib : Go.Conc.Locks.RwWLib Tryz.prog rwLink := ⟨rwCore, muLib, Tryz.func63, Tryz.func64, Tryz.func90, Tryz.underlying3, Tryz.runUnderlying3, Tryz.sizeOf3, Tryz.isAgg3, Tryz.zeroValue3⟩
set_option linter.unusedVariables false
set_option linter.unusedSimpArgs false
section
variable {P : Program}
def panicD (v : Value) (Pc : List PanicEntry → World → Prop) (w : World) : Prop := ∃ T u, v = .iface T u ∧ Pc [{ v := .iface T u, recovered := false }] w
theorem panicD_iface {T : TypeId} {u : Value} {Pc : List PanicEntry → World → Prop} {w : World} : panicD (.iface T u) Pc w = Pc [{ v := .iface T u, recovered := false }] w := by
  apply propext
  constructor
  · rintro ⟨T', u', h, k⟩; cases h; exact k
  · exact fun h => ⟨T, u, rfl, h⟩
theorem eqV_nilI : eqV (some (.interface #[])) .nilIface .nilIface = some true := rfl
theorem eqV_ifaceNil {m : Array (String × TypeId)} {T : TypeId} {v : Value} : eqV (some (.interface m)) (.iface T v) .nilIface = some false := rfl
theorem binV_ieql {T : TypeId} {y : Value} : binV P .eql T .nilIface y = (eqV (P.underlying T) .nilIface y).map .bool := by simp [binV]
theorem binV_jeql {T t : TypeId} {v y : Value} : binV P .eql T (.iface t v) y = (eqV (P.underlying T) (.iface t v) y).map .bool := by simp [binV]
def leaveD (P : Program) : List Deferred → FrameMode → World → (FrameMode → World → Prop) → Prop
  | [], u, w, K => K u w
  | d :: ds, u, w, K => u ≠ .run ∧ ∃ fv cap f args, d.target = .fn fv cap ∧ (invoke d.target d.args).run P w = .ok (.enter f args) w ∧
      CallsDIn (Fr none) 0 P f args u w fun
        | .returned _, u', w' => leaveD P ds (settle u') w' K
        | .panicked chain, u', w' => leaveD P ds (raised u' chain) w' K
        | .outgrown, _, _ => False
def endM (P : Program) (rs : Array ResultVar) (e : FA) (R : Ending → World → Prop) : FrameMode → World → Prop
  | .returning, w => resC P rs e R w
  | .panicking chain, w => R (.panicked chain) w
  | .run, _ => False
def fnM (P : Program) (rs : Array ResultVar) (R : Ending → World → Prop) : Post
  | .normal, e, w | .ret, e, w => leaveD P e.ds .returning w (endM P rs e R)
  | .panic chain, e, w => leaveD P e.ds (.panicking chain) w (endM P rs e R)
  | _, _, _ => False
theorem fnM_ret {rs : Array ResultVar} {R : Ending → World → Prop} {e : FA} {w : World} : fnM P rs R .ret e w = leaveD P e.ds .returning w (endM P rs e R) := rfl
theorem fnM_normal {rs : Array ResultVar} {R : Ending → World → Prop} {e : FA} {w : World} : fnM P rs R .normal e w = leaveD P e.ds .returning w (endM P rs e R) := rfl
theorem fnM_panic {rs : Array ResultVar} {R : Ending → World → Prop} {c : List PanicEntry} {e : FA} {w : World} : fnM P rs R (.panic c) e w = leaveD P e.ds (.panicking c) w (endM P rs e R) := rfl
theorem CallsDIn.mono' {F : Fence} {n : Nat} {f : FuncId} {args : Array Value} {u : FrameMode} {w : World} {R R' : Ending → FrameMode → World → Prop} (h : CallsDIn F n P f args u w R) (hr : ∀ e u' w', R e u' w' → R' e u' w') : CallsDIn F n P f args u w R' :=
  ⟨h.1, fun c cs hu hroom => let ⟨e, u', w', fr, r, rest⟩ := h.2 c cs hu hroom; ⟨e, u', w', fr, hr _ _ _ r, rest⟩⟩
theorem leaves_of_leaveD {fn : Func} {tmps : Array Value} {R : Ending → World → Prop} {K : FrameMode → World → Prop} (hK : ∀ u w, K u w → LeavesInM (Fr none) 0 P fn tmps R [] u w) :
    ∀ (ds : List Deferred) (u : FrameMode) (w : World), leaveD P ds u w K → LeavesInM (Fr none) 0 P fn tmps R ds u w
  | [], u, w, h => hK u w h
  | d :: ds, u, w, ⟨hu, fv, cap, f, args, ht, hi, hc⟩ => by
    refine ⟨hu, .inr ⟨Fr_depth _ _, fv, cap, f, args, ht, hi, fun _ _ => trivial, ?_⟩⟩
    refine CallsDIn.mono' hc fun e u' w' h => ?_
    cases e with
    | returned v => exact leaves_of_leaveD hK ds _ _ h
    | panicked c => exact leaves_of_leaveD hK ds _ _ h
    | outgrown => exact h.elim
theorem calls_of_cwM {f : FuncId} {fn : Func} {c : Code} {types : Array TypeInfo} {args : Array Value} {w : World} {R : Ending → World → Prop}
    (hm : P.follows .mixedOrders = true) (hf : P.funcs[f]? = some fn) (c' : Cd) (hb : fn.body = some c) (hc : comp types fn.ntmps c = c') (hn : args.size ≤ fn.ntmps)
    (h : cwE P c' (fnM P fn.results R) (entry args) w) : Calls P f args w R := by
  subst hc
  have h1 : cw P none (comp types fn.ntmps c) (fnM P fn.results R) (entry args) w := cw_of_cwD _ _ _ _ _ _ (fun _ _ _ h => h) h
  refine callsC_to (ro := none) (n := 0) (callsIn_of_wpB hf hb (wpB_mono (cw_soundB hm c none _ _ w (fun h => by cases h) h1 _ (N := fn.ntmps) ⟨by simp; omega, fun t => ?_, rfl⟩) ?_))
  · simp only [entry]
    rcases Nat.lt_or_ge t args.size with h1 | h1
    · simp [Array.getElem?_append, h1]
    · have : (args ++ Array.replicate (fn.ntmps - args.size) undef).getD t undef = undef := by
        rw [Array.getD_eq_getD_getElem?, Array.getElem?_append, if_neg (by omega)]
        rcases Nat.lt_or_ge (t - args.size) (fn.ntmps - args.size) with h2 | h2
        · simp [h2]
        · rw [Array.getElem?_eq_none (by simpa using h2)]; rfl
      rw [this]
      simp [Array.getElem?_eq_none h1]
  · rintro x a w ⟨e, hr, hq⟩
    have main : ∀ u, leaveD P e.ds u w (endM P fn.results e R) → LeavesInM (Fr none) 0 P fn a.tmps R a.defers u w := fun u hq => by
      rw [hr.ds]
      refine leaves_of_leaveD (fun u w h => ?_) _ _ _ hq
      cases u with
      | run => exact h.elim
      | returning =>
        obtain ⟨v, h1, h2⟩ := h
        exact ⟨v, by rw [results_eq hr]; exact h1, h2⟩
      | panicking c => exact h
    cases x with
    | normal => exact main _ hq
    | ret => exact main _ hq
    | panic c => exact main _ hq
    | exit id => exact hq.elim
    | goto l => exact hq.elim
    | outgrown => exact hq.elim
def fnR (P : Program) (rs : Array ResultVar) (u : FrameMode) (R : Ending → FrameMode → World → Prop) : Post
  | .normal, e, w | .ret, e, w => e.ds = [] ∧ resC P rs e (fun x w => R x u w) w
  | .panic chain, e, w => e.ds = [] ∧ R (.panicked chain) u w
  | _, _, _ => False
end
theorem fnR_normal {P : Program} {rs : Array ResultVar} {u : FrameMode} {R : Ending → FrameMode → World → Prop} {e : FA} {w : World} : fnR P rs u R .normal e w = (e.ds = [] ∧ resC P rs e (fun x w => R x u w) w) := rfl
attribute [go_sem] eqV_nilI eqV_ifaceNil binV_ieql binV_jeql fnR_normal panicD_iface fnM_ret fnM_normal fnM_panic
end Go.Proofs.YtijnmokpihhhcaaGreatDoor
namespace Go.Proofs.YtijnmokpihhhcaaGreatDoor
open Go
open Go.Conc.Locks
open Go.RowKit (wrap32)
open Go.MuLone (run_callFunc_enter)
set_option linter.unusedVariables false
set_option linter.unusedSimpArgs false
set_option maxRecDepth 100000
set_option maxHeartbeats 1600000 in
theorem unlockIn (a : Addr) (u : FrameMode) (w : World) (hc : w.cell? a = some (.int .i32 1)) (hz : w.frozen? a = false) :
    CallsDIn (Fr none) 0 Tryz.prog muLink.unlock #[.pointer (some a)] u w fun e u' w' => u' = u ∧ (e = .returned (.tuple #[]) ∧ w' = w.setCell a (.int .i32 0)) := by
  have H := muLib
  have hfn : ∀ f, Fence.wide.fn f := fun _ => trivial
  have hdp : Fence.wide.depth = none := rfl
  obtain ⟨⟩ := id H
  have hin := fun args w => run_callFunc_enter (P := Tryz.prog) H.f_iunlock (by kernel_rfl) rfl args w
  show CallsDIn Fence.wide 0 _ _ _ _ _ _
  refine callsDIn_of_wp H.f_unlock rfl trivial ?_
  simp only [MuLone.nt_unlock muLink, List.size_toArray, List.length_cons, List.length_nil, Nat.reduceAdd, Nat.reduceSub, Array.replicate_succ, Array.replicate_zero, List.push_toArray, List.append_toArray, List.nil_append, List.cons_append]
  simp only [unlockFn]
  gi_wp2
  refine (callsC_of (ro := none) (MuLone.iunlock_held H a _ hc hz)).mono ?_
  rintro e w' ⟨rfl, rfl⟩
  gi_wp2
  go_end0
  exact ⟨rfl, rfl⟩
set_option maxHeartbeats 1600000 in
theorem runlockIn (b off : Nat) (rc : Int) (x0 x2 : Value) (u : FrameMode) (w : World) (c0 : w.cell? ⟨b, off, none⟩ = some x0) (c2 : w.cell? ⟨b, off + 2, none⟩ = some x2)
    (hc : w.cell? ⟨b, off + 4, none⟩ = some (.int .i32 rc)) (hz : w.frozen? ⟨b, off + 4, none⟩ = false) (hge : ¬ wrap32 (rc + -1) < 0) :
    CallsDIn (Fr none) 0 Tryz.prog rwLink.runlock #[.pointer (some ⟨b, off, none⟩)] u w fun e u' w' => u' = u ∧ (e = .returned (.tuple #[]) ∧ w' = w.setCell ⟨b, off + 4, none⟩ (.int .i32 (wrap32 (rc + -1)))) := by
  have H := rwRLib
  have C := H.core
  have hfn : ∀ f, Fence.wide.fn f := fun _ => trivial
  have hdp : Fence.wide.depth = none := rfl
  obtain ⟨⟩ := id C
  have hd := RwLone.disable C
  have he := RwLone.enable C
  have hrr := RwLone.raceRead C
  have hrm := RwLone.releaseMerge C
  have v0 := run_convert_to_unsafe (P := Tryz.prog) (src := rwLink.tPMutex) (dst := rwLink.tUP) C.underlying_tPMutex C.underlying_tUP C.room_tMutex c0
  have v2 := run_convert_to_unsafe (P := Tryz.prog) (src := rwLink.tPU32) (dst := rwLink.tUP) C.underlying_tPU32 C.underlying_tUP C.room_tU32 c2
  have hin := fun args w => run_callFunc_enter (P := Tryz.prog) C.f_i32add (by kernel_rfl) rfl args w
  show CallsDIn Fence.wide 0 _ _ _ _ _ _
  refine callsDIn_of_wp H.f_runlock rfl trivial ?_
  simp only [RwLone.nt_runlock rwLink, List.size_toArray, List.length_cons, List.length_nil, Nat.reduceAdd, Nat.reduceSub, Array.replicate_succ, Array.replicate_zero, List.push_toArray, List.append_toArray, List.nil_append, List.cons_append]
  simp only [runlockFn]
  gi_wp2
  refine (callsC_of (ro := none) (RwLone.i32add_any C ⟨b, off + 4, none⟩ rc (-1) _ hc hz)).mono ?_
  rintro e w' ⟨rfl, rfl⟩
  gi_wp2
  go_end0
  exact ⟨rfl, rfl⟩
set_option maxHeartbeats 1600000 in
theorem wunlockIn (b off : Nat) (x2 x3 : Value) (u : FrameMode) (w : World) (c0 : w.cell? ⟨b, off, none⟩ = some (.int .i32 1)) (c2 : w.cell? ⟨b, off + 2, none⟩ = some x2) (c3 : w.cell? ⟨b, off + 3, none⟩ = some x3)
    (hc : w.cell? ⟨b, off + 4, none⟩ = some (.int .i32 (-1073741824))) (z0 : w.frozen? ⟨b, off, none⟩ = false) (hz : w.frozen? ⟨b, off + 4, none⟩ = false) :
    CallsDIn (Fr none) 0 Tryz.prog rwLink.wunlock #[.pointer (some ⟨b, off, none⟩)] u w fun e u' w' => u' = u ∧ (e = .returned (.tuple #[]) ∧ w' = (w.setCell ⟨b, off + 4, none⟩ (.int .i32 0)).setCell ⟨b, off, none⟩ (.int .i32 0)) := by
  have H := rwWLib
  have C := H.core
  have hfn : ∀ f, Fence.wide.fn f := fun _ => trivial
  have hdp : Fence.wide.depth = none := rfl
  obtain ⟨⟩ := id C
  have hu3 := H.underlying_t3
  have hru3 := H.runUnderlying_t3
  have hs3 := H.sizeOf_t3
  have ha3 := H.isAgg_t3
  have hz3 := H.zeroValue_t3
  have hd := RwLone.disable C
  have he := RwLone.enable C
  have hrr := RwLone.raceRead C
  have hrl := RwLone.release H
  have hrm := RwLone.releaseMerge C
  have v0 := run_convert_to_unsafe (P := Tryz.prog) (src := rwLink.tPMutex) (dst := rwLink.tUP) C.underlying_tPMutex C.underlying_tUP C.room_tMutex c0
  have v2 := run_convert_to_unsafe (P := Tryz.prog) (src := rwLink.tPU32) (dst := rwLink.tUP) C.underlying_tPU32 C.underlying_tUP C.room_tU32 c2
  have v3 := run_convert_to_unsafe (P := Tryz.prog) (src := rwLink.tPU32) (dst := rwLink.tUP) C.underlying_tPU32 C.underlying_tUP C.room_tU32 c3
  have hin1 := fun args w => run_callFunc_enter (P := Tryz.prog) H.mu.f_unlock (by kernel_rfl) rfl args w
  have hin2 := fun args w => run_callFunc_enter (P := Tryz.prog) C.f_i32add (by kernel_rfl) rfl args w
  show CallsDIn Fence.wide 0 _ _ _ _ _ _
  refine callsDIn_of_wp H.f_wunlock rfl trivial ?_
  simp only [RwLone.nt_wunlock rwLink, List.size_toArray, List.length_cons, List.length_nil, Nat.reduceAdd, Nat.reduceSub, Array.replicate_succ, Array.replicate_zero, List.push_toArray, List.append_toArray, List.nil_append, List.cons_append]
  simp only [wunlockFn]
  gi_wp2
  refine (callsC_of (ro := none) (RwLone.i32add_any C ⟨b, off + 4, none⟩ (-1073741824) 1073741824 _ hc hz)).mono ?_
  rintro e w' ⟨rfl, rfl⟩
  simp only [RwLone.up30]
  gi_wp2
  refine wpIn_loop_once ?_
  gi_wp2
  refine (callsC_of (ro := none) (MuLone.unlock_held H.mu ⟨b, off, none⟩ _ ((World.cell?_setCell_other _ ⟨b, off + 4, none⟩ ⟨b, off, none⟩ _ (by simp)).trans c0) (by simp [z0]))).mono ?_
  rintro e w' ⟨rfl, rfl⟩
  gi_wp2
  go_end0
  exact ⟨rfl, rfl⟩
end Go.Proofs.YtijnmokpihhhcaaGreatDoor
namespace Go.Proofs.YtijnmokpihhhcaaGreatDoor
open Go
set_option linter.unusedVariables false
set_option linter.unusedSimpArgs false
structure Inf where
  path : Nat
  parent : Nat
  name : List UInt8
  mode : Nat
  uid : List UInt8
  gid : List UInt8
  muid : List UInt8
  atime : Nat
  mtime : Nat
  vers : Nat
  length : Nat
  opens : Int
  kids : Int
structure NodeD where
  i : Inf
  b : List UInt8
structure SD where
  most : Nat
  next : Nat
  L : List NodeD
structure OpD where
  kind : Nat
  path : Nat
  name : List UInt8
  mask : Nat
  node : Inf
  offset : Nat
  data : List UInt8
  n : Int
def userF (l : List UInt8) : Bool := decide (l.length ≤ 32) && good l
def modeF (m : Nat) : Bool := decide (m &&& 469761536 = 0)
def dirF (m : Nat) : Bool := decide (2147483648 ≤ m)
def findN (L : List NodeD) (p : Nat) : Option NodeD := L.find? fun n => n.i.path == p
def isKid (p : Nat) (n : NodeD) : Bool := n.i.parent == p && !(n.i.path == n.i.parent)
def kidsF (L : List NodeD) (p : Nat) : List Nat := (L.filter (isKid p)).map (·.i.path)
def childF (L : List NodeD) (p : Nat) (nm : List UInt8) : Option Nat := (L.find? fun n => isKid p n && n.i.name == nm).map (·.i.path)
def afterF (L : List NodeD) (p last : Nat) : Option Nat := (kidsF L p).find? fun k => decide (last < k)
def tellF (L : List NodeD) (n : NodeD) : Inf := { n.i with kids := ((kidsF L n.i.path).length : Nat) }
def updN (L : List NodeD) (p : Nat) (f : NodeD → NodeD) : List NodeD := L.map fun n => if n.i.path = p then f n else n
def dropN (L : List NodeD) (p : Nat) : List NodeD := L.filter fun n => !(n.i.path == p)
def setF (m : Nat) (t : Inf) (n : Inf) : Except Nat Inf :=
  if m.testBit 7 || m.testBit 0 && !modeF t.mode || m.testBit 1 && !userF t.uid || m.testBit 2 && !userF t.gid || m.testBit 3 && !userF t.muid then .error 1
  else if m.testBit 0 && !(dirF t.mode == dirF n.mode) then .error 81
  else .ok { n with mode := if m.testBit 0 then t.mode else n.mode, uid := if m.testBit 1 then t.uid else n.uid, gid := if m.testBit 2 then t.gid else n.gid, muid := if m.testBit 3 then t.muid else n.muid,
                    atime := if m.testBit 4 then t.atime else n.atime, mtime := if m.testBit 5 then t.mtime else n.mtime, vers := if m.testBit 6 then (n.vers + 1) % 4294967296 else n.vers }
def padF (b : List UInt8) (k : Nat) : List UInt8 := (b ++ List.replicate (k - b.length) 0).take k
def cutF (k : Nat) (n : NodeD) : Except Nat NodeD :=
  if dirF n.i.mode then .error 81 else if 65536 < k then .error 86 else .ok ⟨{ n.i with length := k }, padF n.b k⟩
def layF (b : List UInt8) (off : Nat) (d : List UInt8) : List UInt8 :=
  let c := padF b (max b.length (off + d.length))
  c.take off ++ d ++ c.drop (off + d.length)
def bytesF (off : Nat) (d : List UInt8) (n : NodeD) : Except Nat NodeD :=
  if dirF n.i.mode then .error 81 else if d = [] ∨ 256 < off % 256 + d.length then .error 84 else if 65536 < off + d.length then .error 86
  else .ok ⟨{ n.i with length := max n.i.length (off + d.length) }, layF n.b off d⟩
def opensF (k : Int) (n : Inf) : Except Nat Inf :=
  if k < -n.opens ∨ 2147483647 - n.opens < k then .error 87 else .ok { n with opens := n.opens + k }
def readF (n : NodeD) (off : Nat) (k : Int) : List UInt8 := if k ≤ 0 then [] else (n.b.drop off).take k.toNat
def makeF (s : SD) (n : NodeD) (t : Inf) : SD × Nat × Nat :=
  if !dirF n.i.mode then (s, 0, 81)
  else if !(modeF t.mode && userF t.uid && userF t.gid && userF t.muid) then (s, 0, 1)
  else if !okName t.name then (s, 0, 50)
  else if (childF s.L n.i.path t.name).isSome then (s, 0, 82)
  else if s.most ≤ s.L.length then (s, 0, 83)
  else ({ s with next := s.next + 1, L := s.L ++ [⟨⟨s.next, n.i.path, t.name, t.mode, t.uid, t.gid, t.muid, t.atime, t.mtime, 0, 0, 0, 0⟩, []⟩] }, s.next, 0)
def delF (s : SD) (n : NodeD) : SD × Nat × Nat :=
  if n.i.path = 1 then (s, 0, 81)
  else if 0 < (kidsF s.L n.i.path).length then (s, 0, 85)
  else ({ s with L := dropN s.L n.i.path }, n.i.path, 0)
def callF (s : SD) (n : NodeD) (nm : List UInt8) : SD × Nat × Nat :=
  if n.i.path = 1 then (s, 0, 81)
  else if !okName nm then (s, 0, 50)
  else match childF s.L n.i.parent nm with
    | some q => if q = n.i.path then ({ s with L := updN s.L n.i.path fun n => ⟨{ n.i with name := nm }, n.b⟩ }, n.i.path, 0) else (s, 0, 82)
    | none => ({ s with L := updN s.L n.i.path fun n => ⟨{ n.i with name := nm }, n.b⟩ }, n.i.path, 0)
def oneF (s : SD) (p : Nat) : Except Nat NodeD → SD × Nat × Nat
  | .error e => (s, 0, e)
  | .ok n => ({ s with L := updN s.L p fun _ => n }, p, 0)
def infoF (n : NodeD) : Except Nat Inf → Except Nat NodeD
  | .error e => .error e
  | .ok i => .ok ⟨i, n.b⟩
def doF (s : SD) (o : OpD) : SD × Nat × Nat :=
  if o.kind < 1 ∨ 7 < o.kind then (s, 0, 1)
  else match findN s.L o.path with
    | none => (s, 0, 80)
    | some n =>
      if o.kind = 1 then makeF s n o.node
      else if o.kind = 2 then delF s n
      else if o.kind = 3 then callF s n o.name
      else if o.kind = 4 then oneF s o.path (infoF n (setF o.mask o.node n.i))
      else if o.kind = 5 then oneF s o.path (cutF o.offset n)
      else if o.kind = 6 then oneF s o.path (bytesF o.offset o.data n)
      else oneF s o.path (infoF n (opensF o.n n.i))
structure NodeOk (n : NodeD) : Prop where
  len : n.i.length = n.b.length
  few : n.b.length ≤ 65536
  kids : n.i.kids = 0
  mode : n.i.mode < 4294967296
  atime : n.i.atime < 4294967296
  mtime : n.i.mtime < 4294967296
  vers : n.i.vers < 4294967296
  op0 : 0 ≤ n.i.opens
  op1 : n.i.opens ≤ 2147483647
  dir : dirF n.i.mode = true → n.b = []
  name : n.i.name.length ≤ 255
  uid : n.i.uid.length ≤ 32
  gid : n.i.gid.length ≤ 32
  muid : n.i.muid.length ≤ 32
structure Wf (s : SD) : Prop where
  ok : ∀ n ∈ s.L, NodeOk n
  rise : s.L.Pairwise fun a b => a.i.path < b.i.path
  below : ∀ n ∈ s.L, 1 ≤ n.i.path ∧ n.i.path < s.next
  root : ∃ r, findN s.L 1 = some r ∧ r.i.parent = 1 ∧ dirF r.i.mode = true
  up : ∀ n ∈ s.L, n.i.path ≠ 1 → n.i.parent < n.i.path ∧ ∃ d, findN s.L n.i.parent = some d ∧ dirF d.i.mode = true
  one : ∀ a ∈ s.L, ∀ b ∈ s.L, a.i.path ≠ 1 → b.i.path ≠ 1 → a.i.parent = b.i.parent → a.i.name = b.i.name → a.i.path = b.i.path
  few : s.L.length ≤ s.most
  most : s.most ≤ 4096
theorem find_some {L : List NodeD} {p : Nat} {n : NodeD} (h : findN L p = some n) : n ∈ L ∧ n.i.path = p := by
  refine ⟨List.mem_of_find?_eq_some h, ?_⟩
  have := List.find?_some h
  simpa using this
theorem find_none {L : List NodeD} {p : Nat} (h : findN L p = none) : ∀ n ∈ L, n.i.path ≠ p := by
  intro n hn e
  have := List.find?_eq_none.1 h n hn
  simp [e] at this
theorem rise_inj {L : List NodeD} (h : L.Pairwise fun a b => a.i.path < b.i.path) {a b : NodeD} (ha : a ∈ L) (hb : b ∈ L) (e : a.i.path = b.i.path) : a = b := by
  obtain ⟨i, hi, rfl⟩ := List.getElem_of_mem ha
  obtain ⟨j, hj, rfl⟩ := List.getElem_of_mem hb
  rw [List.pairwise_iff_getElem] at h
  rcases Nat.lt_trichotomy i j with hij | hij | hij
  · have := h i j hi hj hij; omega
  · subst hij; rfl
  · have := h j i hj hi hij; omega
theorem find_of {L : List NodeD} (h : L.Pairwise fun a b => a.i.path < b.i.path) {n : NodeD} (hn : n ∈ L) : findN L n.i.path = some n := by
  cases hf : findN L n.i.path with
  | none => exact absurd rfl (find_none hf n hn)
  | some m =>
    obtain ⟨h1, h2⟩ := find_some hf
    rw [rise_inj h h1 hn h2]
structure Keeps (n n' : NodeD) : Prop where
  path : n'.i.path = n.i.path
  parent : n'.i.parent = n.i.parent
  dir : dirF n'.i.mode = dirF n.i.mode
theorem upd_mem {L : List NodeD} {p : Nat} {n' m : NodeD} (h : m ∈ updN L p fun _ => n') : (m = n' ∧ ∃ x ∈ L, x.i.path = p) ∨ (m ∈ L ∧ m.i.path ≠ p) := by
  obtain ⟨x, hx, e⟩ := List.mem_map.1 h
  split at e
  · exact .inl ⟨e.symm, x, hx, by assumption⟩
  · subst e; exact .inr ⟨hx, by assumption⟩
theorem upd_len (L : List NodeD) (p : Nat) (f : NodeD → NodeD) : (updN L p f).length = L.length := by simp [updN]
theorem upd_paths {L : List NodeD} {p : Nat} {n' : NodeD} (hp : n'.i.path = p) : (updN L p fun _ => n').map (·.i.path) = L.map (·.i.path) := by
  simp only [updN, List.map_map]
  refine List.map_congr_left fun x _ => ?_
  simp only [Function.comp]
  split
  · rename_i e; rw [hp, e]
  · rfl
theorem rise_paths {L : List NodeD} : (L.Pairwise fun a b => a.i.path < b.i.path) ↔ (L.map (·.i.path)).Pairwise (· < ·) := by rw [List.pairwise_map]
theorem find_upd {L : List NodeD} {p q : Nat} {n' : NodeD} (hp : n'.i.path = p) : findN (updN L p fun _ => n') q = if q = p then (findN L p).map fun _ => n' else findN L q := by
  induction L with
  | nil => simp [updN, findN]
  | cons x L ih =>
    simp only [updN, List.map_cons, findN, List.find?_cons] at ih ⊢
    by_cases hx : x.i.path = p
    · rw [if_pos hx]
      by_cases hq : q = p
      · rw [if_pos hq] at ih ⊢
        subst hq
        simp [hp, hx]
      · rw [if_neg hq] at ih ⊢
        have h1 : (n'.i.path == q) = false := by rw [hp]; simpa using fun e => hq e.symm
        have h2 : (x.i.path == q) = false := by rw [hx]; simpa using fun e => hq e.symm
        rw [h1, h2]
        exact ih
    · rw [if_neg hx]
      by_cases hq : q = p
      · rw [if_pos hq] at ih ⊢
        subst hq
        have h2 : (x.i.path == q) = false := by simpa using hx
        rw [h2]
        exact ih
      · rw [if_neg hq] at ih ⊢
        cases hxq : (x.i.path == q)
        · exact ih
        · rfl
theorem upd_wf {s : SD} (h : Wf s) {n n' : NodeD} (hn : n ∈ s.L) (k : Keeps n n') (ok : NodeOk n') (hnm : n.i.path ≠ 1 → ∀ m ∈ s.L, m.i.path ≠ 1 → m.i.path ≠ n.i.path → m.i.parent = n.i.parent → m.i.name ≠ n'.i.name) :
    Wf { s with L := updN s.L n.i.path fun _ => n' } := by
  have hf := find_of h.rise hn
  have fd : ∀ q d, findN s.L q = some d → ∃ d', findN (updN s.L n.i.path fun _ => n') q = some d' ∧ d'.i.parent = d.i.parent ∧ dirF d'.i.mode = dirF d.i.mode := fun q d hd => by
    rw [find_upd k.path]
    by_cases hq : q = n.i.path
    · rw [if_pos hq, hf]
      subst hq
      rw [hf] at hd
      cases hd
      exact ⟨n', rfl, k.parent, k.dir⟩
    · rw [if_neg hq]
      exact ⟨d, hd, rfl, rfl⟩
  refine ⟨fun m hm => ?_, ?_, fun m hm => ?_, ?_, fun m hm h1 => ?_, ?_, by rw [upd_len]; exact h.few, h.most⟩
  · rcases upd_mem hm with ⟨rfl, _⟩ | ⟨hm, _⟩
    · exact ok
    · exact h.ok m hm
  · rw [rise_paths, upd_paths k.path, ← rise_paths]
    exact h.rise
  · rcases upd_mem hm with ⟨rfl, _⟩ | ⟨hm, _⟩
    · rw [k.path]; exact h.below n hn
    · exact h.below m hm
  · obtain ⟨r, hr, h1, h2⟩ := h.root
    obtain ⟨r', e1, e2, e3⟩ := fd 1 r hr
    exact ⟨r', e1, e2.trans h1, e3.trans h2⟩
  · rcases upd_mem hm with ⟨rfl, _⟩ | ⟨hm, _⟩
    · rw [k.path] at h1 ⊢
      rw [k.parent]
      obtain ⟨a, d, hd, hdd⟩ := h.up n hn h1
      obtain ⟨d', e1, e2, e3⟩ := fd _ d hd
      exact ⟨a, d', e1, e3.trans hdd⟩
    · obtain ⟨a, d, hd, hdd⟩ := h.up m hm h1
      obtain ⟨d', e1, e2, e3⟩ := fd _ d hd
      exact ⟨a, d', e1, e3.trans hdd⟩
  · intro a ha b hb h1 h2 hpp hnn
    rcases upd_mem ha with ⟨ea, _⟩ | ⟨pa, pa2⟩ <;> rcases upd_mem hb with ⟨eb, _⟩ | ⟨pb, pb2⟩
    · rw [ea, eb]
    · subst ea
      rw [k.path] at h1
      rw [k.parent] at hpp
      exact absurd hnn.symm (hnm h1 b pb h2 pb2 hpp.symm)
    · subst eb
      rw [k.path] at h2
      rw [k.parent] at hpp
      exact absurd hnn (hnm h2 a pa h1 pa2 hpp)
    · exact h.one a pa b pb h1 h2 hpp hnn
theorem name_free {s : SD} (h : Wf s) {n : NodeD} (hn : n ∈ s.L) (h1 : n.i.path ≠ 1) : ∀ m ∈ s.L, m.i.path ≠ 1 → m.i.path ≠ n.i.path → m.i.parent = n.i.parent → m.i.name ≠ n.i.name := fun m hm h2 h3 h4 h5 =>
  h3 (h.one m hm n hn h2 h1 h4 h5)
theorem self_parent {s : SD} (h : Wf s) {n : NodeD} (hn : n ∈ s.L) : (n.i.path = n.i.parent) ↔ n.i.path = 1 := by
  constructor
  · intro e
    by_cases h1 : n.i.path = 1
    · exact h1
    · have := (h.up n hn h1).1; omega
  · intro e
    obtain ⟨r, hr, h1, _⟩ := h.root
    have := find_of h.rise hn
    rw [e, hr] at this
    cases this
    omega
theorem isKid_iff {s : SD} (h : Wf s) {n : NodeD} (hn : n ∈ s.L) {p : Nat} : isKid p n = true ↔ n.i.parent = p ∧ n.i.path ≠ 1 := by
  have := self_parent h hn
  simp only [isKid, Bool.and_eq_true, beq_iff_eq, Bool.not_eq_true', beq_eq_false_iff_ne, ne_eq]
  exact ⟨fun ⟨a, b⟩ => ⟨a, fun e => b (this.2 e)⟩, fun ⟨a, b⟩ => ⟨a, fun e => b (this.1 e)⟩⟩
theorem child_some {L : List NodeD} {p q : Nat} {nm : List UInt8} (h : childF L p nm = some q) : ∃ n ∈ L, n.i.path = q ∧ isKid p n = true ∧ n.i.name = nm := by
  unfold childF at h
  obtain ⟨n, hn, rfl⟩ := Option.map_eq_some_iff.1 h
  have h1 := List.find?_some hn
  simp only [Bool.and_eq_true, beq_iff_eq] at h1
  exact ⟨n, List.mem_of_find?_eq_some hn, rfl, h1.1, h1.2⟩
theorem child_none {L : List NodeD} {p : Nat} {nm : List UInt8} (h : childF L p nm = none) : ∀ n ∈ L, isKid p n = true → n.i.name ≠ nm := by
  unfold childF at h
  rw [Option.map_eq_none_iff] at h
  intro n hn hk e
  have := List.find?_eq_none.1 h n hn
  simp [hk, e] at this
theorem child_of {s : SD} (h : Wf s) {n : NodeD} (hn : n ∈ s.L) (h1 : n.i.path ≠ 1) : childF s.L n.i.parent n.i.name = some n.i.path := by
  cases hc : childF s.L n.i.parent n.i.name with
  | none => exact absurd rfl (child_none hc n hn ((isKid_iff h hn).2 ⟨rfl, h1⟩))
  | some q =>
    obtain ⟨m, hm, rfl, hk, he⟩ := child_some hc
    obtain ⟨k1, k2⟩ := (isKid_iff h hm).1 hk
    rw [h.one m hm n hn k2 h1 k1 he]
theorem make_wf {s : SD} (h : Wf s) {n x : NodeD} (hn : n ∈ s.L) (hd : dirF n.i.mode = true) (ok : NodeOk x) (hx : x.i.path = s.next) (hp : x.i.parent = n.i.path) (hc : childF s.L n.i.path x.i.name = none) (hl : s.L.length < s.most) : Wf { s with next := s.next + 1, L := s.L ++ [x] } := by
  have hb := h.below n hn
  have hnx : ∀ m ∈ s.L, m.i.path ≠ x.i.path := fun m hm => by have := (h.below m hm).2; omega
  have fd : ∀ q d, findN s.L q = some d → findN (s.L ++ [x]) q = some d := fun q d hd => by
    unfold findN at hd ⊢
    rw [List.find?_append, hd]
    rfl
  have free : ∀ m ∈ s.L, m.i.path ≠ 1 → m.i.parent = n.i.path → m.i.name ≠ x.i.name := fun m hm h1 h2 => child_none hc m hm ((isKid_iff h hm).2 ⟨h2, h1⟩)
  refine ⟨fun m hm => ?_, ?_, fun m hm => ?_, ?_, fun m hm h1 => ?_, ?_, by show (s.L ++ [x]).length ≤ s.most; simp; omega, h.most⟩
  · rcases List.mem_append.1 hm with hm | hm
    · exact h.ok m hm
    · simp only [List.mem_singleton] at hm; subst hm; exact ok
  · rw [List.pairwise_append]
    refine ⟨h.rise, by simp, fun a ha b hb => ?_⟩
    simp only [List.mem_singleton] at hb
    subst hb
    have := (h.below a ha).2
    omega
  · rcases List.mem_append.1 hm with hm | hm
    · have := h.below m hm; exact ⟨this.1, by show _ < s.next + 1; omega⟩
    · simp only [List.mem_singleton] at hm; subst hm; exact ⟨by omega, by show _ < s.next + 1; omega⟩
  · obtain ⟨r, hr, h1, h2⟩ := h.root
    exact ⟨r, fd 1 r hr, h1, h2⟩
  · rcases List.mem_append.1 hm with hm | hm
    · obtain ⟨a, d, hd, hdd⟩ := h.up m hm h1
      exact ⟨a, d, fd _ d hd, hdd⟩
    · simp only [List.mem_singleton] at hm
      subst hm
      rw [hp]
      exact ⟨by omega, n, fd _ n (find_of h.rise hn), hd⟩
  · intro a ha b hb' h1 h2 hpp hnn
    rcases List.mem_append.1 ha with pa | pa <;> rcases List.mem_append.1 hb' with pb | pb
    · exact h.one a pa b pb h1 h2 hpp hnn
    · simp only [List.mem_singleton] at pb
      subst pb
      exact absurd hnn (free a pa h1 (hpp.trans hp))
    · simp only [List.mem_singleton] at pa
      subst pa
      exact absurd hnn.symm (free b pb h2 (hpp.symm.trans hp))
    · simp only [List.mem_singleton] at pa pb
      rw [pa, pb]
theorem kids_none {s : SD} (h : Wf s) {p : Nat} (hk : ¬ 0 < (kidsF s.L p).length) : ∀ m ∈ s.L, m.i.path ≠ 1 → m.i.parent ≠ p := fun m hm h1 e => by
  have : m.i.path ∈ kidsF s.L p := List.mem_map_of_mem (f := (·.i.path)) (List.mem_filter.2 ⟨hm, (isKid_iff h hm).2 ⟨e, h1⟩⟩)
  have := List.length_pos_of_mem this
  omega
theorem drop_wf {s : SD} (h : Wf s) {n : NodeD} (hn : n ∈ s.L) (h1 : n.i.path ≠ 1) (hk : ¬ 0 < (kidsF s.L n.i.path).length) : Wf { s with L := dropN s.L n.i.path } := by
  have mem : ∀ m ∈ dropN s.L n.i.path, m ∈ s.L ∧ m.i.path ≠ n.i.path := fun m hm => by
    obtain ⟨a, b⟩ := List.mem_filter.1 hm
    exact ⟨a, by simpa using b⟩
  have hsub : (dropN s.L n.i.path).Sublist s.L := List.filter_sublist
  have rise := h.rise.sublist hsub
  have fd : ∀ q d, findN s.L q = some d → q ≠ n.i.path → findN (dropN s.L n.i.path) q = some d := fun q d hd hq => by
    obtain ⟨a, b⟩ := find_some hd
    have : d ∈ dropN s.L n.i.path := List.mem_filter.2 ⟨a, by simp [b, hq]⟩
    have := find_of rise this
    rwa [b] at this
  refine ⟨fun m hm => h.ok m (mem m hm).1, rise, fun m hm => h.below m (mem m hm).1, ?_, fun m hm h2 => ?_, fun a ha b hb => h.one a (mem a ha).1 b (mem b hb).1, Nat.le_trans hsub.length_le h.few, h.most⟩
  · obtain ⟨r, hr, e1, e2⟩ := h.root
    exact ⟨r, fd 1 r hr (fun e => h1 e.symm), e1, e2⟩
  · obtain ⟨a, b⟩ := mem m hm
    obtain ⟨c, d, hd, hdd⟩ := h.up m a h2
    exact ⟨c, d, fd _ d hd (kids_none h hk m a h2), hdd⟩
theorem padF_len (b : List UInt8) (k : Nat) : (padF b k).length = k := by
  unfold padF
  simp only [List.length_take, List.length_append, List.length_replicate]
  omega
theorem padF_get (b : List UInt8) (k i : Nat) : (padF b k).getD i 0 = if i < k then b.getD i 0 else 0 := by
  unfold padF
  simp only [List.getD_eq_getElem?_getD]
  by_cases h : i < k
  · rw [if_pos h, List.getElem?_take_of_lt h]
    by_cases hb : i < b.length
    · rw [List.getElem?_append_left hb]
    · rw [List.getElem?_append_right (by omega), List.getElem?_eq_none (l := b) (by omega), List.getElem?_replicate]
      split <;> rfl
  · rw [if_neg h, List.getElem?_eq_none (by simp; omega)]
    rfl
theorem layF_len (b : List UInt8) (off : Nat) (d : List UInt8) : (layF b off d).length = max b.length (off + d.length) := by
  unfold layF
  simp only [List.length_append, List.length_take, List.length_drop, padF_len]
  omega
theorem layF_get (b : List UInt8) (off : Nat) (d : List UInt8) (i : Nat) : (layF b off d).getD i 0 = if off ≤ i ∧ i < off + d.length then d.getD (i - off) 0 else b.getD i 0 := by
  unfold layF
  have hl := padF_len b (max b.length (off + d.length))
  have hg := padF_get b (max b.length (off + d.length))
  generalize padF b (max b.length (off + d.length)) = c at *
  have ht : (c.take off).length = off := by rw [List.length_take]; omega
  simp only [List.getD_eq_getElem?_getD, List.append_assoc] at hg ⊢
  by_cases h1 : i < off
  · rw [if_neg (by omega), List.getElem?_append_left (by omega), List.getElem?_take_of_lt h1, hg, if_pos (by omega)]
  · rw [List.getElem?_append_right (by omega), ht]
    by_cases h2 : i < off + d.length
    · rw [if_pos ⟨by omega, h2⟩, List.getElem?_append_left (by omega)]
    · rw [if_neg (by omega), List.getElem?_append_right (by omega), List.getElem?_drop, show off + d.length + (i - off - d.length) = i by omega, hg]
      split
      · rfl
      · rw [List.getElem?_eq_none (by omega)]; rfl
structure OpOk (o : OpD) : Prop where
  mode : o.node.mode < 4294967296
  atime : o.node.atime < 4294967296
  mtime : o.node.mtime < 4294967296
theorem userF_len {l : List UInt8} (h : userF l = true) : l.length ≤ 32 := by
  simp only [userF, Bool.and_eq_true, decide_eq_true_eq] at h; exact h.1
theorem okName_len {l : List UInt8} (h : okName l = true) : l.length ≤ 255 := by
  simp only [okName, Bool.and_eq_true, Bool.not_eq_true', decide_eq_false_iff_not] at h
  omega
theorem set_ok {m : Nat} {t i : Inf} {n : NodeD} (h : setF m t n.i = .ok i) (ok : NodeOk n) (h1 : t.mode < 4294967296) (h2 : t.atime < 4294967296) (h3 : t.mtime < 4294967296) : Keeps n ⟨i, n.b⟩ ∧ NodeOk ⟨i, n.b⟩ ∧ i.name = n.i.name := by
  unfold setF at h
  split at h
  · cases h
  rename_i e1
  split at h
  · cases h
  rename_i e2
  simp only [Bool.or_eq_true, Bool.and_eq_true, Bool.not_eq_true', not_or, not_and, Bool.not_eq_false, Bool.not_eq_true] at e1 e2
  obtain ⟨⟨⟨⟨_, em⟩, eu⟩, eg⟩, emu⟩ := e1
  cases h
  have hd : dirF (if m.testBit 0 = true then t.mode else n.i.mode) = dirF n.i.mode := by
    by_cases hb : m.testBit 0 = true
    · rw [if_pos hb]; simpa using e2 hb
    · rw [if_neg hb]
  refine ⟨⟨rfl, rfl, hd⟩, ⟨ok.len, ok.few, ok.kids, ?_, ?_, ?_, ?_, ok.op0, ok.op1, fun hq => ok.dir (by rw [← hd]; exact hq), ok.name, ?_, ?_, ?_⟩, rfl⟩
  · show (if _ then _ else _) < _
    split
    · exact h1
    · exact ok.mode
  · show (if _ then _ else _) < _
    split
    · exact h2
    · exact ok.atime
  · show (if _ then _ else _) < _
    split
    · exact h3
    · exact ok.mtime
  · show (if _ then _ else _) < _
    split
    · exact Nat.mod_lt _ (by decide)
    · exact ok.vers
  · show List.length (if _ then _ else _) ≤ _
    split
    · exact userF_len (eu (by assumption))
    · exact ok.uid
  · show List.length (if _ then _ else _) ≤ _
    split
    · exact userF_len (eg (by assumption))
    · exact ok.gid
  · show List.length (if _ then _ else _) ≤ _
    split
    · exact userF_len (emu (by assumption))
    · exact ok.muid
theorem cut_ok {k : Nat} {n n' : NodeD} (h : cutF k n = .ok n') (ok : NodeOk n) : Keeps n n' ∧ NodeOk n' ∧ n'.i.name = n.i.name := by
  unfold cutF at h
  split at h
  · cases h
  split at h
  · cases h
  rename_i e1 e2
  cases h
  have hl := padF_len n.b k
  refine ⟨⟨rfl, rfl, rfl⟩, ⟨hl.symm, by show (padF n.b k).length ≤ _; omega, ok.kids, ok.mode, ok.atime, ok.mtime, ok.vers, ok.op0, ok.op1, fun hq => absurd hq e1, ok.name, ok.uid, ok.gid, ok.muid⟩, rfl⟩
theorem bytes_ok {off : Nat} {d : List UInt8} {n n' : NodeD} (h : bytesF off d n = .ok n') (ok : NodeOk n) : Keeps n n' ∧ NodeOk n' ∧ n'.i.name = n.i.name := by
  unfold bytesF at h
  split at h
  · cases h
  split at h
  · cases h
  split at h
  · cases h
  rename_i e1 e2 e3
  cases h
  have hl := layF_len n.b off d
  have h1 := ok.len
  have h2 := ok.few
  refine ⟨⟨rfl, rfl, rfl⟩, ⟨by show max n.i.length _ = (layF n.b off d).length; omega, by show (layF n.b off d).length ≤ _; omega, ok.kids, ok.mode, ok.atime, ok.mtime, ok.vers, ok.op0, ok.op1, fun hq => absurd hq e1, ok.name, ok.uid, ok.gid, ok.muid⟩, rfl⟩
theorem opens_ok {k : Int} {n : NodeD} {i : Inf} (h : opensF k n.i = .ok i) (ok : NodeOk n) : Keeps n ⟨i, n.b⟩ ∧ NodeOk ⟨i, n.b⟩ ∧ i.name = n.i.name := by
  unfold opensF at h
  split at h
  · cases h
  rename_i e1
  cases h
  exact ⟨⟨rfl, rfl, rfl⟩, ⟨ok.len, ok.few, ok.kids, ok.mode, ok.atime, ok.mtime, ok.vers, by show 0 ≤ n.i.opens + k; omega, by show n.i.opens + k ≤ _; omega, ok.dir, ok.name, ok.uid, ok.gid, ok.muid⟩, rfl⟩
theorem one_wf {s : SD} (h : Wf s) {n : NodeD} (hn : n ∈ s.L) {r : Except Nat NodeD} (hr : ∀ n', r = .ok n' → Keeps n n' ∧ NodeOk n' ∧ n'.i.name = n.i.name) : Wf (oneF s n.i.path r).1 := by
  cases r with
  | error e => exact h
  | ok n' =>
    obtain ⟨k, ok, e⟩ := hr n' rfl
    exact upd_wf h hn k ok fun h1 => by rw [e]; exact name_free h hn h1
theorem info_ok {n n' : NodeD} {r : Except Nat Inf} (h : infoF n r = .ok n') : ∃ i, r = .ok i ∧ n' = ⟨i, n.b⟩ := by
  cases r with
  | error e => cases h
  | ok i => cases h; exact ⟨i, rfl, rfl⟩
theorem upd_fun {L : List NodeD} (hr : L.Pairwise fun a b => a.i.path < b.i.path) {n : NodeD} (hn : n ∈ L) (f : NodeD → NodeD) : updN L n.i.path f = updN L n.i.path fun _ => f n := by
  unfold updN
  refine List.map_congr_left fun x hx => ?_
  split
  · rename_i e; rw [rise_inj hr hx hn e]
  · rfl
theorem do_wf {s : SD} (h : Wf s) {o : OpD} (ho : OpOk o) : Wf (doF s o).1 := by
  unfold doF
  split
  · exact h
  cases hf : findN s.L o.path with
  | none => exact h
  | some n =>
    obtain ⟨hn, hp⟩ := find_some hf
    have ok := h.ok n hn
    simp only
    split
    · -- make
      unfold makeF
      split
      · exact h
      split
      · exact h
      split
      · exact h
      split
      · exact h
      split
      · exact h
      rename_i e1 e2 e3 e4 e5
      simp only [Bool.not_eq_true', Bool.not_eq_false, Bool.and_eq_true, Option.not_isSome, Option.isNone_iff_eq_none] at e1 e2 e3 e4
      refine make_wf h hn e1 ⟨rfl, by simp, rfl, ho.mode, ho.atime, ho.mtime, by simp, by simp, by simp, fun _ => rfl, okName_len e3, userF_len e2.1.1.2, userF_len e2.1.2, userF_len e2.2⟩ rfl rfl (by simpa using e4) (by omega)
    split
    · unfold delF
      split
      · exact h
      split
      · exact h
      rename_i e1 e2
      exact drop_wf h hn e1 e2
    split
    · unfold callF
      split
      · exact h
      split
      · exact h
      rename_i e1 e2
      simp only [Bool.not_eq_true', Bool.not_eq_false] at e2
      have key : (∀ m ∈ s.L, m.i.path ≠ 1 → m.i.path ≠ n.i.path → m.i.parent = n.i.parent → m.i.name ≠ o.name) → Wf { s with L := updN s.L n.i.path fun n => ⟨{ n.i with name := o.name }, n.b⟩ } := fun hfree => by
        rw [upd_fun h.rise hn]
        exact upd_wf h hn ⟨rfl, rfl, rfl⟩ ⟨ok.len, ok.few, ok.kids, ok.mode, ok.atime, ok.mtime, ok.vers, ok.op0, ok.op1, ok.dir, okName_len e2, ok.uid, ok.gid, ok.muid⟩ fun _ => hfree
      cases hc : childF s.L n.i.parent o.name with
      | none => exact key fun m hm h1 h2 h3 => child_none hc m hm ((isKid_iff h hm).2 ⟨h3, h1⟩)
      | some q =>
        simp only
        split
        · rename_i hq
          refine key fun m hm h1 h2 h3 h4 => h2 ?_
          obtain ⟨c, hcm, c1, c2, c3⟩ := child_some hc
          obtain ⟨c4, c5⟩ := (isKid_iff h hcm).1 c2
          have := h.one m hm c hcm h1 c5 (h3.trans c4.symm) (h4.trans c3.symm)
          omega
        · exact h
    split
    · rw [← hp]
      refine one_wf h hn fun n' hr => ?_
      obtain ⟨i, h1, rfl⟩ := info_ok hr
      exact set_ok h1 ok ho.mode ho.atime ho.mtime
    split
    · rw [← hp]
      exact one_wf h hn fun n' hr => cut_ok hr ok
    split
    · rw [← hp]
      exact one_wf h hn fun n' hr => bytes_ok hr ok
    · rw [← hp]
      refine one_wf h hn fun n' hr => ?_
      obtain ⟨i, h1, rfl⟩ := info_ok hr
      exact opens_ok h1 ok
end Go.Proofs.YtijnmokpihhhcaaGreatDoor
namespace Go.Proofs.YtijnmokpihhhcaaGreatDoor
open Go
open Go.RowKit (wrap32)
set_option linter.unusedVariables false
set_option linter.unusedSimpArgs false
set_option maxRecDepth 100000
section
variable {P : Program}
theorem deferF_of {K : Value → World → Prop} {D : Deferred → World → Prop} {Pc : List PanicEntry → World → Prop} {d : Option Nat} {t : Nat} {f : Nat} {ats : Array TypeId} {ty : TypeId} {p : String} {af : Array Edge} {g : Option (Nat × Bool)} {e : FA} {w : World} {θ : Tag (K, D, Pc)}
    (h : D { target := .fn (.func f) #[], args := #[e.ρ t] } w) : rawD P K D Pc (opS ⟨d, .defer { callee := .value (.func f), args := #[.tmp t], argTypes := ats }, ty, p, af, g⟩ e) w θ := by
  show upon P K D Pc ((execOp e.ev _).run P w)
  have : (execOp e.ev ⟨d, .defer { callee := .value (.func f), args := #[.tmp t], argTypes := ats }, ty, p, af, g⟩).run P w = .ok (.defer { target := .fn (.func f) #[], args := #[e.ρ t] }) w := by
    simp [execOp, resolve, FA.ev, go_sem]
  rw [this]
  exact h
theorem leaveF {f : Nat} {args : Array Value} {ds : List Deferred} {w : World} {K : FrameMode → World → Prop} {Q : World → Prop} (hf : fnOk0 P f = true)
    (h : CallsDIn (Fr none) 0 P f args .returning w fun e u' w' => u' = .returning ∧ (e = .returned (.tuple #[]) ∧ Q w'))
    (hK : ∀ w', Q w' → leaveD P ds .returning w' K) : leaveD P ({ target := .fn (.func f) #[], args := args } :: ds) .returning w K :=
  ⟨by simp, .func f, #[], f, args, rfl, by
    show (invoke (.fn (.func f) #[]) args).run P w = _
    simp only [invoke, Array.append_empty]
    exact fnOk0_run hf _ _, CallsDIn.mono' h fun e u' w' => by
      rintro ⟨rfl, rfl, q⟩
      exact hK w' q⟩
end
section
variable {w0 w : World} {A : HP} {C : HP → HP} {b : Nat} {arr : Array Value} {T : TypeId}
theorem lockH (h : St w0 A w) [i : Hole (.blk b) A (Blk b (.cells arr T (0, 0))) C] (h0 : arr[0]? = some (.int .i32 0)) :
    Calls Tryz.prog 32 #[.pointer (some ⟨b, 0, none⟩)] w fun e w' => St w0 (C (Blk b (.cells (arr.setIfInBounds 0 (.int .i32 1)) T (0, 0)))) w' ∧ e = .returned (.tuple #[]) := by
  obtain ⟨R, hR, h'⟩ := h.out (.blk b)
  refine (MuLone.lock_free muLib ⟨b, 0, none⟩ w ((h'.cells 0).trans h0) (h'.thaw 0)).mono ?_
  rintro e w' ⟨rfl, rfl⟩
  rw [hR]
  exact ⟨h'.setCell 0 _, rfl⟩
theorem unlockL (h : St w0 A w) [i : Hole (.blk b) A (Blk b (.cells arr T (0, 0))) C] (h0 : arr[0]? = some (.int .i32 1)) {ds : List Deferred} {K : FrameMode → World → Prop}
    (hK : ∀ w', St w0 (C (Blk b (.cells (arr.setIfInBounds 0 (.int .i32 0)) T (0, 0)))) w' → leaveD Tryz.prog ds .returning w' K) :
    leaveD Tryz.prog ({ target := .fn (.func 33) #[], args := #[.pointer (some ⟨b, 0, none⟩)] } :: ds) .returning w K := by
  obtain ⟨R, hR, h'⟩ := h.out (.blk b)
  refine leaveF (by kernel_rfl) (CallsDIn.mono' (unlockIn ⟨b, 0, none⟩ .returning w ((h'.cells 0).trans h0) (h'.thaw 0)) ?_) hK
  rintro e u' w' ⟨rfl, rfl, rfl⟩
  refine ⟨rfl, rfl, ?_⟩
  rw [hR]
  exact h'.setCell 0 _
theorem rlockH (h : St w0 A w) [i : Hole (.blk b) A (Blk b (.cells arr T (0, 0))) C] {x0 x3 : Value} {rc : Int} (h0 : arr[0]? = some x0) (h3 : arr[3]? = some x3) (h4 : arr[4]? = some (.int .i32 rc)) (hrc : 0 ≤ rc ∧ rc < 1000) :
    Calls Tryz.prog 30 #[.pointer (some ⟨b, 0, none⟩)] w fun e w' => St w0 (C (Blk b (.cells (arr.setIfInBounds 4 (.int .i32 (rc + 1))) T (0, 0)))) w' ∧ e = .returned (.tuple #[]) := by
  obtain ⟨R, hR, h'⟩ := h.out (.blk b)
  have hw : wrap32 (rc + 1) = rc + 1 := by unfold wrap32; omega
  have hp : ¬ wrap32 (rc + 1) < 0 := by rw [hw]; omega
  have k := RwLone.rlock_open rwRLib b 0 rc x0 x3 w ((h'.cells 0).trans h0) ((h'.cells 3).trans h3) ((h'.cells 4).trans h4) (h'.thaw 4) hp
  refine k.mono ?_
  rintro e w' ⟨rfl, rfl⟩
  rw [hR, hw]
  exact ⟨h'.setCell 4 _, rfl⟩
theorem runlockL (h : St w0 A w) [i : Hole (.blk b) A (Blk b (.cells arr T (0, 0))) C] {x0 x2 : Value} {rc : Int} (h0 : arr[0]? = some x0) (h2 : arr[2]? = some x2) (h4 : arr[4]? = some (.int .i32 (rc + 1))) (hrc : 0 ≤ rc ∧ rc < 1000) {ds : List Deferred} {K : FrameMode → World → Prop}
    (hK : ∀ w', St w0 (C (Blk b (.cells (arr.setIfInBounds 4 (.int .i32 rc)) T (0, 0)))) w' → leaveD Tryz.prog ds .returning w' K) :
    leaveD Tryz.prog ({ target := .fn (.func 31) #[], args := #[.pointer (some ⟨b, 0, none⟩)] } :: ds) .returning w K := by
  obtain ⟨R, hR, h'⟩ := h.out (.blk b)
  have hw : wrap32 (rc + 1 + -1) = rc := by unfold wrap32; omega
  have hp : ¬ wrap32 (rc + 1 + -1) < 0 := by rw [hw]; omega
  have k := runlockIn b 0 (rc + 1) x0 x2 .returning w ((h'.cells 0).trans h0) ((h'.cells 2).trans h2) ((h'.cells 4).trans h4) (h'.thaw 4) hp
  refine leaveF (by kernel_rfl) (CallsDIn.mono' k ?_) hK
  rintro e u' w' ⟨rfl, rfl, rfl⟩
  refine ⟨rfl, rfl, ?_⟩
  rw [hR, hw]
  exact h'.setCell 4 _
theorem wlockH (h : St w0 A w) [i : Hole (.blk b) A (Blk b (.cells arr T (0, 0))) C] {x2 x3 : Value} (h0 : arr[0]? = some (.int .i32 0)) (h2 : arr[2]? = some x2) (h3 : arr[3]? = some x3) (h4 : arr[4]? = some (.int .i32 0)) :
    Calls Tryz.prog 63 #[.pointer (some ⟨b, 0, none⟩)] w fun e w' => St w0 (C (Blk b (.cells ((arr.setIfInBounds 0 (.int .i32 1)).setIfInBounds 4 (.int .i32 (-1073741824))) T (0, 0)))) w' ∧ e = .returned (.tuple #[]) := by
  obtain ⟨R, hR, h'⟩ := h.out (.blk b)
  have k := RwLone.wlock_free rwWLib b 0 x2 x3 w ((h'.cells 0).trans h0) ((h'.cells 2).trans h2) ((h'.cells 3).trans h3) ((h'.cells 4).trans h4) (h'.thaw 0) (h'.thaw 4)
  refine k.mono ?_
  rintro e w' ⟨rfl, rfl⟩
  rw [hR]
  exact ⟨(h'.setCell 0 _).setCell 4 _, rfl⟩
theorem wunlockL (h : St w0 A w) [i : Hole (.blk b) A (Blk b (.cells arr T (0, 0))) C] {x2 x3 : Value} (h0 : arr[0]? = some (.int .i32 1)) (h2 : arr[2]? = some x2) (h3 : arr[3]? = some x3) (h4 : arr[4]? = some (.int .i32 (-1073741824))) {ds : List Deferred} {K : FrameMode → World → Prop}
    (hK : ∀ w', St w0 (C (Blk b (.cells ((arr.setIfInBounds 4 (.int .i32 0)).setIfInBounds 0 (.int .i32 0)) T (0, 0)))) w' → leaveD Tryz.prog ds .returning w' K) :
    leaveD Tryz.prog ({ target := .fn (.func 64) #[], args := #[.pointer (some ⟨b, 0, none⟩)] } :: ds) .returning w K := by
  obtain ⟨R, hR, h'⟩ := h.out (.blk b)
  have k := wunlockIn b 0 x2 x3 .returning w ((h'.cells 0).trans h0) ((h'.cells 2).trans h2) ((h'.cells 3).trans h3) ((h'.cells 4).trans h4) (h'.thaw 0) (h'.thaw 4)
  refine leaveF (by kernel_rfl) (CallsDIn.mono' k ?_) hK
  rintro e u' w' ⟨rfl, rfl, rfl⟩
  refine ⟨rfl, rfl, ?_⟩
  rw [hR]
  exact (h'.setCell 4 _).setCell 0 _
end
end Go.Proofs.YtijnmokpihhhcaaGreatDoor
namespace Go.Proofs.YtijnmokpihhhcaaGreatDoor
open Go
set_option linter.unusedVariables false
set_option linter.unusedSimpArgs false
section
variable {P : Program} {T : TypeId}
theorem bv_ofNat {n m : Nat} : BitVec.ofInt n (m : Int) = BitVec.ofNat n m := by simp
theorem wN32 {x : Nat} (h : x < 4294967296) : IntKind.u32.wrap (x : Int) = x := by
  simp only [IntKind.wrap, IntKind.signed, IntKind.bits, Bool.false_and, Bool.false_eq_true, if_false]
  omega
theorem wN8 {x : Nat} (h : x < 256) : IntKind.u8.wrap (x : Int) = x := by
  simp only [IntKind.wrap, IntKind.signed, IntKind.bits, Bool.false_and, Bool.false_eq_true, if_false]
  omega
theorem bvN {n m : Nat} (h : m < 2 ^ n) : (BitVec.ofInt n (m : Int)).toNat = m := by
  rw [bv_ofNat, BitVec.toNat_ofNat, Nat.mod_eq_of_lt h]
theorem bAnd32 {m : Nat} {c : Int} (hm : m < 4294967296) (hc : 0 ≤ c ∧ c < 4294967296) : binV P .and T (.int .u32 m) (.int .u32 c) = some (.int .u32 ((m &&& c.toNat : Nat) : Int)) := by
  obtain ⟨c, rfl⟩ := Int.eq_ofNat_of_zero_le hc.1
  have hc2 : c < 2 ^ 32 := by omega
  have := Nat.and_lt_two_pow m (n := 32) (y := c) hc2
  show some (Value.int .u32 (IntKind.u32.wrap ((BitVec.ofInt 32 (m:Int) &&& BitVec.ofInt 32 (c:Int)).toNat : Int))) = _
  rw [BitVec.toNat_and, bvN (n := 32) hm, bvN hc2, Int.toNat_natCast, wN32 (by omega)]
theorem bAnd8 {m : Nat} {c : Int} (hm : m < 256) (hc : 0 ≤ c ∧ c < 256) : binV P .and T (.int .u8 m) (.int .u8 c) = some (.int .u8 ((m &&& c.toNat : Nat) : Int)) := by
  obtain ⟨c, rfl⟩ := Int.eq_ofNat_of_zero_le hc.1
  have hc2 : c < 2 ^ 8 := by omega
  have := Nat.and_lt_two_pow m (n := 8) (y := c) hc2
  show some (Value.int .u8 (IntKind.u8.wrap ((BitVec.ofInt 8 (m:Int) &&& BitVec.ofInt 8 (c:Int)).toNat : Int))) = _
  rw [BitVec.toNat_and, bvN (n := 8) hm, bvN hc2, Int.toNat_natCast, wN8 (by omega)]
theorem bXor32 {m c : Nat} (hm : m < 4294967296) (hc : c < 4294967296) : binV P .xor T (.int .u32 m) (.int .u32 c) = some (.int .u32 ((m ^^^ c : Nat) : Int)) := by
  have := Nat.xor_lt_two_pow (n := 32) (x := m) (y := c) hm hc
  show some (Value.int .u32 (IntKind.u32.wrap ((BitVec.ofInt 32 (m:Int) ^^^ BitVec.ofInt 32 (c:Int)).toNat : Int))) = _
  rw [BitVec.toNat_xor, bvN (n := 32) hm, bvN (n := 32) hc, wN32 (by omega)]
theorem bOr32 {m : Nat} {c : Int} (hm : m < 4294967296) (hc : 0 ≤ c ∧ c < 4294967296) : binV P .or T (.int .u32 c) (.int .u32 m) = some (.int .u32 ((c.toNat ||| m : Nat) : Int)) := by
  obtain ⟨c, rfl⟩ := Int.eq_ofNat_of_zero_le hc.1
  have hc2 : c < 2 ^ 32 := by omega
  have := Nat.or_lt_two_pow (n := 32) (x := c) (y := m) hc2 hm
  show some (Value.int .u32 (IntKind.u32.wrap ((BitVec.ofInt 32 (c:Int) ||| BitVec.ofInt 32 (m:Int)).toNat : Int))) = _
  rw [BitVec.toNat_or, bvN (n := 32) hm, bvN hc2, Int.toNat_natCast, wN32 (by omega)]
theorem bNot32 {m : Nat} {c : Int} (hm : m < 4294967296) (hc : 0 ≤ c ∧ c < 4294967296) : binV P .andNot T (.int .u32 m) (.int .u32 c) = some (.int .u32 ((m &&& (4294967295 - c.toNat) : Nat) : Int)) := by
  obtain ⟨c, rfl⟩ := Int.eq_ofNat_of_zero_le hc.1
  have hc2 : c < 2 ^ 32 := by omega
  have := Nat.and_le_left (n := m) (m := 4294967295 - c)
  show some (Value.int .u32 (IntKind.u32.wrap ((BitVec.ofInt 32 (m:Int) &&& ~~~BitVec.ofInt 32 (c:Int)).toNat : Int))) = _
  rw [BitVec.toNat_and, BitVec.toNat_not, bvN (n := 32) hm, bvN hc2, Int.toNat_natCast, show 2 ^ 32 - 1 - c = 4294967295 - c from rfl, wN32 (by omega)]
theorem bNot8 {m : Nat} {c : Int} (hm : m < 256) (hc : 0 ≤ c ∧ c < 256) : binV P .andNot T (.int .u8 m) (.int .u8 c) = some (.int .u8 ((m &&& (255 - c.toNat) : Nat) : Int)) := by
  obtain ⟨c, rfl⟩ := Int.eq_ofNat_of_zero_le hc.1
  have hc2 : c < 2 ^ 8 := by omega
  have := Nat.and_le_left (n := m) (m := 255 - c)
  show some (Value.int .u8 (IntKind.u8.wrap ((BitVec.ofInt 8 (m:Int) &&& ~~~BitVec.ofInt 8 (c:Int)).toNat : Int))) = _
  rw [BitVec.toNat_and, BitVec.toNat_not, bvN (n := 8) hm, bvN hc2, Int.toNat_natCast, show 2 ^ 8 - 1 - c = 255 - c from rfl, wN8 (by omega)]
theorem and_bit (m k : Nat) : m &&& 2 ^ k = if m.testBit k then 2 ^ k else 0 := by
  apply Nat.eq_of_testBit_eq
  intro j
  rw [Nat.testBit_and, Nat.testBit_two_pow]
  by_cases e : k = j
  · subst e
    cases h : m.testBit k <;> simp
  · cases h : m.testBit k <;> simp [e, Nat.testBit_two_pow]
theorem dirF_bit {m : Nat} (hm : m < 4294967296) : dirF m = m.testBit 31 := by
  rw [Nat.testBit_eq_decide_div_mod_eq]
  unfold dirF
  rw [decide_eq_decide]
  omega
theorem bDir {m : Nat} (hm : m < 4294967296) : binV P .and T (.int .u32 m) (.int .u32 2147483648) = some (.int .u32 (if dirF m then 2147483648 else 0)) := by
  rw [bAnd32 hm (by omega), show (2147483648 : Int).toNat = 2 ^ 31 from rfl, and_bit, dirF_bit hm]
  cases m.testBit 31 <;> rfl
theorem bDirX {m c : Nat} (hm : m < 4294967296) (hc : c < 4294967296) : binV P .and T (.int .u32 ((m ^^^ c : Nat) : Int)) (.int .u32 2147483648) = some (.int .u32 (if dirF m == dirF c then 0 else 2147483648)) := by
  have := Nat.xor_lt_two_pow (n := 32) (x := m) (y := c) hm hc
  rw [bAnd32 this (by omega), show (2147483648 : Int).toNat = 2 ^ 31 from rfl, and_bit, dirF_bit hm, dirF_bit hc, Nat.testBit_xor]
  cases m.testBit 31 <;> cases c.testBit 31 <;> rfl
theorem bMask {m : Nat} (hm : m < 256) (k : Nat) (hk : k < 8) {c : Int} (hc : c = ((2 ^ k : Nat) : Int)) : binV P .and T (.int .u8 m) (.int .u8 c) = some (.int .u8 (if m.testBit k then c else 0)) := by
  have h2 : 2 ^ k < 256 := Nat.pow_lt_pow_right (a := 2) (by omega) hk
  subst hc
  obtain ⟨x, hx⟩ : ∃ x, x = 2 ^ k := ⟨_, rfl⟩
  rw [← hx] at h2 ⊢
  rw [bAnd8 hm (by omega), Int.toNat_natCast, hx, and_bit]
  cases m.testBit k <;> rfl
theorem bAll {m : Nat} (hm : m < 256) : binV P .andNot T (.int .u8 m) (.int .u8 127) = some (.int .u8 (if m.testBit 7 then 128 else 0)) := by
  rw [bNot8 hm (by omega), show 255 - (127 : Int).toNat = 2 ^ 7 from rfl, and_bit]
  cases m.testBit 7 <;> rfl
theorem bMode {m : Nat} (hm : m < 4294967296) : binV P .andNot T (.int .u32 m) (.int .u32 3825205759) = some (.int .u32 ((m &&& 469761536 : Nat) : Int)) := by
  rw [bNot32 hm (by omega)]
  rfl
end
section assoc
variable {κ α β : Type} [DecidableEq κ]
end assoc
section al
variable {κ α : Type} [DecidableEq κ]
end al
set_option maxRecDepth 100000
abbrev infL (i : Inf) : List Value := [.int .u64 i.path, .int .u64 i.parent, .string (strOf i.name), .int .u32 i.mode, .string (strOf i.uid), .string (strOf i.gid), .string (strOf i.muid), .int .u32 i.atime, .int .u32 i.mtime, .int .u32 i.vers, .int .u64 i.length, .int .i64 i.opens, .int .i64 i.kids]
abbrev nodeC (st : Int) (i : Inf) (vk vb : Value) : Array Value := #[.int .i32 st, .int .u32 0, .int .u64 i.path, .int .u64 i.parent, .string (strOf i.name), .int .u32 i.mode, .string (strOf i.uid), .string (strOf i.gid), .string (strOf i.muid), .int .u32 i.atime, .int .u32 i.mtime, .int .u32 i.vers, .int .u64 i.length, .int .i64 i.opens, .int .i64 i.kids, vk, vb]
abbrev NodeB (n : Nat) (st : Int) (i : Inf) (vk vb : Value) : HP := Blk n (.cells (nodeC st i vk vb) 104 (0, 0))
theorem mayMode_any {w0 w : World} {A : HP} (h : St w0 A w) {m : Nat} (hm : m < 4294967296) :
    Calls Tryz.prog 78 #[.int .u32 m] w fun e w' => St w0 A w' ∧ e = .returned (.bool (modeF m)) := by
  refine F78.calls (by simp) ?_
  unfold F78.code
  have hb : decide (((m &&& 469761536 : Nat) : Int) = 0) = modeF m := by
    unfold modeF
    rw [decide_eq_decide]
    omega
  simp -dsimp -implicitDefEqProofs (disch := omega) only [go_sem, bMode hm, hb]
  exact h
theorem mayUser_any {w0 w : World} {A : HP} (h : St w0 A w) [Gives A Tabs] {l : List UInt8} (hl : l.length ≤ 9223372036854775807) :
    Calls Tryz.prog 48 #[.string (strOf l)] w fun e w' => St w0 A w' ∧ e = .returned (.bool (userF l)) := by
  refine F48.calls (by simp) ?_
  unfold F48.code
  by_cases h0 : (l.length : Int) ≤ 32
  · have : userF l = good l := by simp [userF]; intros; omega
    simp -dsimp -implicitDefEqProofs (disch := omega) only [go_sem, h0]
    refine (good_any h hl).mono ?_
    rintro e w1 ⟨h1, rfl⟩
    simp -dsimp -implicitDefEqProofs (disch := omega) only [go_sem, h0]
    rw [this]
    exact ⟨h1, rfl⟩
  · have : userF l = false := by simp [userF]; intros; omega
    simp -dsimp -implicitDefEqProofs (disch := omega) only [go_sem, h0]
    rw [this]
    exact ⟨h, rfl⟩
section
attribute [local go_sem] F37.t3_eq
theorem opens_any {w0 w : World} {A : HP} {n : Nat} {st : Int} {i : Inf} {vk vb : Value} (h : St w0 (NodeB n st i vk vb * A) w) {k : Int} (hk : -9223372036854775808 ≤ k ∧ k ≤ 9223372036854775807) (ho : 0 ≤ i.opens ∧ i.opens ≤ 2147483647) :
    Calls Tryz.prog 37 #[.pointer (some ⟨n, 0, none⟩), .int .i64 k] w fun e w' => match opensF k i with
      | .error x => St w0 (NodeB n st i vk vb * A) w' ∧ e = .returned (.int .i64 x)
      | .ok j => St w0 (NodeB n st j vk vb * A) w' ∧ e = .returned (.int .i64 0) := by
  refine F37.calls (by simp) ?_
  unfold F37.code
  by_cases h1 : k < -i.opens
  · have : opensF k i = .error 87 := by unfold opensF; rw [if_pos (Or.inl h1)]
    rw [this]
    simp -dsimp -implicitDefEqProofs (disch := omega) only [go_sem, h.cl n, h1]
    exact h
  by_cases h2 : 2147483647 - i.opens < k
  · have : opensF k i = .error 87 := by unfold opensF; rw [if_pos (Or.inr h2)]
    rw [this]
    simp -dsimp -implicitDefEqProofs (disch := omega) only [go_sem, h.cl n, h1, h2]
    exact h
  have : opensF k i = .ok { i with opens := i.opens + k } := by unfold opensF; rw [if_neg (by omega)]
  rw [this]
  simp -dsimp -implicitDefEqProofs (disch := omega) only [go_sem, h.cl n, h1, h2]
  refine h.sto (by simp) rfl fun w1 hw1 => ?_
  simp -dsimp -implicitDefEqProofs (disch := omega) only [go_sem]
  exact hw1
def g0 (m : Nat) (t i : Inf) : Inf := { i with mode := if m.testBit 0 then t.mode else i.mode }
def g1 (m : Nat) (t i : Inf) : Inf := { i with uid := if m.testBit 1 then t.uid else i.uid }
def g2 (m : Nat) (t i : Inf) : Inf := { i with gid := if m.testBit 2 then t.gid else i.gid }
def g3 (m : Nat) (t i : Inf) : Inf := { i with muid := if m.testBit 3 then t.muid else i.muid }
def g4 (m : Nat) (t i : Inf) : Inf := { i with atime := if m.testBit 4 then t.atime else i.atime }
def g5 (m : Nat) (t i : Inf) : Inf := { i with mtime := if m.testBit 5 then t.mtime else i.mtime }
def g6 (m : Nat) (i : Inf) : Inf := { i with vers := if m.testBit 6 then (i.vers + 1) % 4294967296 else i.vers }
abbrev infB (B : Nat) (t : Inf) : HP := Blk B (.cells (infL t).toArray 42 (0, 0))
end
section
attribute [local go_sem] F34.t6_eq F34.t23_eq
end
section
variable {w0 w : World} {A : HP} {n B m : Nat} {st : Int} {t i : Inf} {vk vb : Value} {e : FA} {R : Ending → World → Prop}
theorem set_t21 (hm : m < 256) (h : St w0 (NodeB n st i vk vb * (infB B t * A)) w) (hd : e.ds = []) (e0 : e.ρ 0 = .pointer (some ⟨n, 0, none⟩)) (e1 : e.ρ 1 = .int .u8 m) (e5 : e.ρ 5 = .pointer (some ⟨B, 0, none⟩)) (hR : ∀ w', St w0 (NodeB n st (g6 m i) vk vb * (infB B t * A)) w' → R (.returned (.int .i64 0)) w') :
    cwE Tryz.prog F34.t21 (fnP Tryz.prog #[.tmp 6] R) e w := by
  rw [F34.t21_eq]
  unfold F34.t23
  have b := bMask (P := Tryz.prog) (T := 40) hm 6 (by omega) (c := 64) rfl
  cases k : m.testBit 6
  · have hg : g6 m i = i := by simp [g6, k]
    simp only [k, if_false, Bool.false_eq_true] at b
    simp -dsimp -implicitDefEqProofs (disch := omega) only [go_sem, hd, e0, e1, e5, b]
    rw [hg] at hR
    exact hR _ h
  · have hg : g6 m i = { i with vers := (i.vers + 1) % 4294967296 } := by simp [g6, k]
    have hw : IntKind.u32.wrap ((i.vers : Int) + 1) = (((i.vers + 1) % 4294967296 : Nat) : Int) := by
      simp only [IntKind.wrap, IntKind.signed, IntKind.bits, Bool.false_and, Bool.false_eq_true, if_false]
      omega
    simp only [k, if_true] at b
    simp -dsimp -implicitDefEqProofs (disch := omega) only [go_sem, hd, e0, e1, e5, b, h.cl n, h.cl B]
    rw [hw]
    refine h.sto (by simp) rfl fun w1 h1 => ?_
    simp only [List.setIfInBounds_toArray, List.set_cons_succ, List.set_cons_zero] at h1
    simp -dsimp -implicitDefEqProofs (disch := omega) only [go_sem, hd]
    rw [hg] at hR
    exact hR _ h1
theorem set_t19 (hm : m < 256) (h : St w0 (NodeB n st i vk vb * (infB B t * A)) w) (hd : e.ds = []) (e0 : e.ρ 0 = .pointer (some ⟨n, 0, none⟩)) (e1 : e.ρ 1 = .int .u8 m) (e5 : e.ρ 5 = .pointer (some ⟨B, 0, none⟩)) (hR : ∀ w', St w0 (NodeB n st (g6 m (g5 m t i)) vk vb * (infB B t * A)) w' → R (.returned (.int .i64 0)) w') :
    cwE Tryz.prog F34.t19 (fnP Tryz.prog #[.tmp 6] R) e w := by
  rw [F34.t19_eq]
  have b := bMask (P := Tryz.prog) (T := 40) hm 5 (by omega) (c := 32) rfl
  cases k : m.testBit 5
  · have hg : g5 m t i = i := by simp [g5, k]
    simp only [k, if_false, Bool.false_eq_true] at b
    simp -dsimp -implicitDefEqProofs (disch := omega) only [go_sem, hd, e0, e1, e5, b]
    rw [hg] at hR
    exact set_t21 hm h (by simp -dsimp -implicitDefEqProofs only [go_sem, hd]) (by simp -dsimp -implicitDefEqProofs only [go_sem, e0]) (by simp -dsimp -implicitDefEqProofs only [go_sem, e1]) (by simp -dsimp -implicitDefEqProofs only [go_sem, e5]) hR
  · have hg : g5 m t i = { i with mtime := t.mtime } := by simp [g5, k]
    simp only [k, if_true] at b
    simp -dsimp -implicitDefEqProofs (disch := omega) only [go_sem, hd, e0, e1, e5, b, h.cl n, h.cl B]
    refine h.sto (by simp) rfl fun w1 h1 => ?_
    simp only [List.setIfInBounds_toArray, List.set_cons_succ, List.set_cons_zero] at h1
    simp -dsimp -implicitDefEqProofs (disch := omega) only [go_sem]
    rw [hg] at hR
    exact set_t21 hm h1 (by simp -dsimp -implicitDefEqProofs only [go_sem, hd]) (by simp -dsimp -implicitDefEqProofs only [go_sem, e0]) (by simp -dsimp -implicitDefEqProofs only [go_sem, e1]) (by simp -dsimp -implicitDefEqProofs only [go_sem, e5]) hR
theorem set_t17 (hm : m < 256) (h : St w0 (NodeB n st i vk vb * (infB B t * A)) w) (hd : e.ds = []) (e0 : e.ρ 0 = .pointer (some ⟨n, 0, none⟩)) (e1 : e.ρ 1 = .int .u8 m) (e5 : e.ρ 5 = .pointer (some ⟨B, 0, none⟩)) (hR : ∀ w', St w0 (NodeB n st (g6 m (g5 m t (g4 m t i))) vk vb * (infB B t * A)) w' → R (.returned (.int .i64 0)) w') :
    cwE Tryz.prog F34.t17 (fnP Tryz.prog #[.tmp 6] R) e w := by
  rw [F34.t17_eq]
  have b := bMask (P := Tryz.prog) (T := 40) hm 4 (by omega) (c := 16) rfl
  cases k : m.testBit 4
  · have hg : g4 m t i = i := by simp [g4, k]
    simp only [k, if_false, Bool.false_eq_true] at b
    simp -dsimp -implicitDefEqProofs (disch := omega) only [go_sem, hd, e0, e1, e5, b]
    rw [hg] at hR
    exact set_t19 hm h (by simp -dsimp -implicitDefEqProofs only [go_sem, hd]) (by simp -dsimp -implicitDefEqProofs only [go_sem, e0]) (by simp -dsimp -implicitDefEqProofs only [go_sem, e1]) (by simp -dsimp -implicitDefEqProofs only [go_sem, e5]) hR
  · have hg : g4 m t i = { i with atime := t.atime } := by simp [g4, k]
    simp only [k, if_true] at b
    simp -dsimp -implicitDefEqProofs (disch := omega) only [go_sem, hd, e0, e1, e5, b, h.cl n, h.cl B]
    refine h.sto (by simp) rfl fun w1 h1 => ?_
    simp only [List.setIfInBounds_toArray, List.set_cons_succ, List.set_cons_zero] at h1
    simp -dsimp -implicitDefEqProofs (disch := omega) only [go_sem]
    rw [hg] at hR
    exact set_t19 hm h1 (by simp -dsimp -implicitDefEqProofs only [go_sem, hd]) (by simp -dsimp -implicitDefEqProofs only [go_sem, e0]) (by simp -dsimp -implicitDefEqProofs only [go_sem, e1]) (by simp -dsimp -implicitDefEqProofs only [go_sem, e5]) hR
theorem set_t15 (hm : m < 256) (h : St w0 (NodeB n st i vk vb * (infB B t * A)) w) (hd : e.ds = []) (e0 : e.ρ 0 = .pointer (some ⟨n, 0, none⟩)) (e1 : e.ρ 1 = .int .u8 m) (e5 : e.ρ 5 = .pointer (some ⟨B, 0, none⟩)) (hR : ∀ w', St w0 (NodeB n st (g6 m (g5 m t (g4 m t (g3 m t i)))) vk vb * (infB B t * A)) w' → R (.returned (.int .i64 0)) w') :
    cwE Tryz.prog F34.t15 (fnP Tryz.prog #[.tmp 6] R) e w := by
  rw [F34.t15_eq]
  have b := bMask (P := Tryz.prog) (T := 40) hm 3 (by omega) (c := 8) rfl
  cases k : m.testBit 3
  · have hg : g3 m t i = i := by simp [g3, k]
    simp only [k, if_false, Bool.false_eq_true] at b
    simp -dsimp -implicitDefEqProofs (disch := omega) only [go_sem, hd, e0, e1, e5, b]
    rw [hg] at hR
    exact set_t17 hm h (by simp -dsimp -implicitDefEqProofs only [go_sem, hd]) (by simp -dsimp -implicitDefEqProofs only [go_sem, e0]) (by simp -dsimp -implicitDefEqProofs only [go_sem, e1]) (by simp -dsimp -implicitDefEqProofs only [go_sem, e5]) hR
  · have hg : g3 m t i = { i with muid := t.muid } := by simp [g3, k]
    simp only [k, if_true] at b
    simp -dsimp -implicitDefEqProofs (disch := omega) only [go_sem, hd, e0, e1, e5, b, h.cl n, h.cl B]
    refine h.sto (by simp) rfl fun w1 h1 => ?_
    simp only [List.setIfInBounds_toArray, List.set_cons_succ, List.set_cons_zero] at h1
    simp -dsimp -implicitDefEqProofs (disch := omega) only [go_sem]
    rw [hg] at hR
    exact set_t17 hm h1 (by simp -dsimp -implicitDefEqProofs only [go_sem, hd]) (by simp -dsimp -implicitDefEqProofs only [go_sem, e0]) (by simp -dsimp -implicitDefEqProofs only [go_sem, e1]) (by simp -dsimp -implicitDefEqProofs only [go_sem, e5]) hR
theorem set_t13 (hm : m < 256) (h : St w0 (NodeB n st i vk vb * (infB B t * A)) w) (hd : e.ds = []) (e0 : e.ρ 0 = .pointer (some ⟨n, 0, none⟩)) (e1 : e.ρ 1 = .int .u8 m) (e5 : e.ρ 5 = .pointer (some ⟨B, 0, none⟩)) (hR : ∀ w', St w0 (NodeB n st (g6 m (g5 m t (g4 m t (g3 m t (g2 m t i))))) vk vb * (infB B t * A)) w' → R (.returned (.int .i64 0)) w') :
    cwE Tryz.prog F34.t13 (fnP Tryz.prog #[.tmp 6] R) e w := by
  rw [F34.t13_eq]
  have b := bMask (P := Tryz.prog) (T := 40) hm 2 (by omega) (c := 4) rfl
  cases k : m.testBit 2
  · have hg : g2 m t i = i := by simp [g2, k]
    simp only [k, if_false, Bool.false_eq_true] at b
    simp -dsimp -implicitDefEqProofs (disch := omega) only [go_sem, hd, e0, e1, e5, b]
    rw [hg] at hR
    exact set_t15 hm h (by simp -dsimp -implicitDefEqProofs only [go_sem, hd]) (by simp -dsimp -implicitDefEqProofs only [go_sem, e0]) (by simp -dsimp -implicitDefEqProofs only [go_sem, e1]) (by simp -dsimp -implicitDefEqProofs only [go_sem, e5]) hR
  · have hg : g2 m t i = { i with gid := t.gid } := by simp [g2, k]
    simp only [k, if_true] at b
    simp -dsimp -implicitDefEqProofs (disch := omega) only [go_sem, hd, e0, e1, e5, b, h.cl n, h.cl B]
    refine h.sto (by simp) rfl fun w1 h1 => ?_
    simp only [List.setIfInBounds_toArray, List.set_cons_succ, List.set_cons_zero] at h1
    simp -dsimp -implicitDefEqProofs (disch := omega) only [go_sem]
    rw [hg] at hR
    exact set_t15 hm h1 (by simp -dsimp -implicitDefEqProofs only [go_sem, hd]) (by simp -dsimp -implicitDefEqProofs only [go_sem, e0]) (by simp -dsimp -implicitDefEqProofs only [go_sem, e1]) (by simp -dsimp -implicitDefEqProofs only [go_sem, e5]) hR
theorem set_t11 (hm : m < 256) (h : St w0 (NodeB n st i vk vb * (infB B t * A)) w) (hd : e.ds = []) (e0 : e.ρ 0 = .pointer (some ⟨n, 0, none⟩)) (e1 : e.ρ 1 = .int .u8 m) (e5 : e.ρ 5 = .pointer (some ⟨B, 0, none⟩)) (hR : ∀ w', St w0 (NodeB n st (g6 m (g5 m t (g4 m t (g3 m t (g2 m t (g1 m t i)))))) vk vb * (infB B t * A)) w' → R (.returned (.int .i64 0)) w') :
    cwE Tryz.prog F34.t11 (fnP Tryz.prog #[.tmp 6] R) e w := by
  rw [F34.t11_eq]
  have b := bMask (P := Tryz.prog) (T := 40) hm 1 (by omega) (c := 2) rfl
  cases k : m.testBit 1
  · have hg : g1 m t i = i := by simp [g1, k]
    simp only [k, if_false, Bool.false_eq_true] at b
    simp -dsimp -implicitDefEqProofs (disch := omega) only [go_sem, hd, e0, e1, e5, b]
    rw [hg] at hR
    exact set_t13 hm h (by simp -dsimp -implicitDefEqProofs only [go_sem, hd]) (by simp -dsimp -implicitDefEqProofs only [go_sem, e0]) (by simp -dsimp -implicitDefEqProofs only [go_sem, e1]) (by simp -dsimp -implicitDefEqProofs only [go_sem, e5]) hR
  · have hg : g1 m t i = { i with uid := t.uid } := by simp [g1, k]
    simp only [k, if_true] at b
    simp -dsimp -implicitDefEqProofs (disch := omega) only [go_sem, hd, e0, e1, e5, b, h.cl n, h.cl B]
    refine h.sto (by simp) rfl fun w1 h1 => ?_
    simp only [List.setIfInBounds_toArray, List.set_cons_succ, List.set_cons_zero] at h1
    simp -dsimp -implicitDefEqProofs (disch := omega) only [go_sem]
    rw [hg] at hR
    exact set_t13 hm h1 (by simp -dsimp -implicitDefEqProofs only [go_sem, hd]) (by simp -dsimp -implicitDefEqProofs only [go_sem, e0]) (by simp -dsimp -implicitDefEqProofs only [go_sem, e1]) (by simp -dsimp -implicitDefEqProofs only [go_sem, e5]) hR
theorem set_t9 (hm : m < 256) (h : St w0 (NodeB n st i vk vb * (infB B t * A)) w) (hd : e.ds = []) (e0 : e.ρ 0 = .pointer (some ⟨n, 0, none⟩)) (e1 : e.ρ 1 = .int .u8 m) (e5 : e.ρ 5 = .pointer (some ⟨B, 0, none⟩)) (hR : ∀ w', St w0 (NodeB n st (g6 m (g5 m t (g4 m t (g3 m t (g2 m t (g1 m t (g0 m t i))))))) vk vb * (infB B t * A)) w' → R (.returned (.int .i64 0)) w') :
    cwE Tryz.prog F34.t9 (fnP Tryz.prog #[.tmp 6] R) e w := by
  rw [F34.t9_eq]
  have b := bMask (P := Tryz.prog) (T := 40) hm 0 (by omega) (c := 1) rfl
  cases k : m.testBit 0
  · have hg : g0 m t i = i := by simp [g0, k]
    simp only [k, if_false, Bool.false_eq_true] at b
    simp -dsimp -implicitDefEqProofs (disch := omega) only [go_sem, hd, e0, e1, e5, b]
    rw [hg] at hR
    exact set_t11 hm h (by simp -dsimp -implicitDefEqProofs only [go_sem, hd]) (by simp -dsimp -implicitDefEqProofs only [go_sem, e0]) (by simp -dsimp -implicitDefEqProofs only [go_sem, e1]) (by simp -dsimp -implicitDefEqProofs only [go_sem, e5]) hR
  · have hg : g0 m t i = { i with mode := t.mode } := by simp [g0, k]
    simp only [k, if_true] at b
    simp -dsimp -implicitDefEqProofs (disch := omega) only [go_sem, hd, e0, e1, e5, b, h.cl n, h.cl B]
    refine h.sto (by simp) rfl fun w1 h1 => ?_
    simp only [List.setIfInBounds_toArray, List.set_cons_succ, List.set_cons_zero] at h1
    simp -dsimp -implicitDefEqProofs (disch := omega) only [go_sem]
    rw [hg] at hR
    exact set_t11 hm h1 (by simp -dsimp -implicitDefEqProofs only [go_sem, hd]) (by simp -dsimp -implicitDefEqProofs only [go_sem, e0]) (by simp -dsimp -implicitDefEqProofs only [go_sem, e1]) (by simp -dsimp -implicitDefEqProofs only [go_sem, e5]) hR
end
section
variable {w0 w : World} {A : HP} [Gives A Tabs] {n B m : Nat} {st : Int} {t i : Inf} {vk vb : Value} {e : FA} {K : FA → World → Prop} {X : List PanicEntry → FA → World → Prop} {R : Ending → World → Prop}
omit [Gives A Tabs] in
theorem set_r2 (hm : m < 256) (hl : t.mode < 4294967296) (h : St w0 (NodeB n st i vk vb * (infB B t * A)) w) (hd : e.ds = []) (e0 : e.ρ 0 = .pointer (some ⟨n, 0, none⟩)) (e1 : e.ρ 1 = .int .u8 m) (e5 : e.ρ 5 = .pointer (some ⟨B, 0, none⟩))
    (hQ : ∀ e' w', St w0 (NodeB n st i vk vb * (infB B t * A)) w' → e'.ds = [] → e'.ρ 0 = .pointer (some ⟨n, 0, none⟩) → e'.ρ 1 = .int .u8 m → e'.ρ 5 = .pointer (some ⟨B, 0, none⟩) → e'.ρ 7 = .bool (m.testBit 0 && !modeF t.mode) → K e' w') :
    owE Tryz.prog X K F34.r2 e w := by
  have b := bMask (P := Tryz.prog) (T := 40) hm 0 (by omega) (c := 1) rfl
  cases k : m.testBit 0
  · simp only [k, if_false, Bool.false_eq_true] at b
    rw [k] at hQ
    simp -dsimp -implicitDefEqProofs (disch := omega) only [go_sem, hd, e0, e1, e5, b]
    exact hQ _ _ h (by simp -dsimp -implicitDefEqProofs only [go_sem, hd]) (by simp -dsimp -implicitDefEqProofs only [go_sem, e0]) (by simp -dsimp -implicitDefEqProofs only [go_sem, e1]) (by simp -dsimp -implicitDefEqProofs only [go_sem, e5]) (by simp -dsimp -implicitDefEqProofs only [go_sem])
  · simp only [k, if_true] at b
    rw [k] at hQ
    simp -dsimp -implicitDefEqProofs (disch := omega) only [go_sem, hd, e0, e1, e5, b, h.cl B]
    refine (mayMode_any h hl).mono ?_
    rintro e' w1 ⟨h1, rfl⟩
    simp -dsimp -implicitDefEqProofs (disch := omega) only [go_sem]
    exact hQ _ _ h1 (by simp -dsimp -implicitDefEqProofs only [go_sem, hd]) (by simp -dsimp -implicitDefEqProofs only [go_sem, e0]) (by simp -dsimp -implicitDefEqProofs only [go_sem, e1]) (by simp -dsimp -implicitDefEqProofs only [go_sem, e5]) (by simp -dsimp -implicitDefEqProofs only [go_sem])
theorem set_r3 (hm : m < 256) (hl : t.uid.length ≤ 9223372036854775807) (h : St w0 (NodeB n st i vk vb * (infB B t * A)) w) (hd : e.ds = []) (e0 : e.ρ 0 = .pointer (some ⟨n, 0, none⟩)) (e1 : e.ρ 1 = .int .u8 m) (e5 : e.ρ 5 = .pointer (some ⟨B, 0, none⟩))
    (hQ : ∀ e' w', St w0 (NodeB n st i vk vb * (infB B t * A)) w' → e'.ds = [] → e'.ρ 0 = .pointer (some ⟨n, 0, none⟩) → e'.ρ 1 = .int .u8 m → e'.ρ 5 = .pointer (some ⟨B, 0, none⟩) → e'.ρ 7 = .bool (m.testBit 1 && !userF t.uid) → K e' w') :
    owE Tryz.prog X K F34.r3 e w := by
  have b := bMask (P := Tryz.prog) (T := 40) hm 1 (by omega) (c := 2) rfl
  cases k : m.testBit 1
  · simp only [k, if_false, Bool.false_eq_true] at b
    rw [k] at hQ
    simp -dsimp -implicitDefEqProofs (disch := omega) only [go_sem, hd, e0, e1, e5, b]
    exact hQ _ _ h (by simp -dsimp -implicitDefEqProofs only [go_sem, hd]) (by simp -dsimp -implicitDefEqProofs only [go_sem, e0]) (by simp -dsimp -implicitDefEqProofs only [go_sem, e1]) (by simp -dsimp -implicitDefEqProofs only [go_sem, e5]) (by simp -dsimp -implicitDefEqProofs only [go_sem])
  · simp only [k, if_true] at b
    rw [k] at hQ
    simp -dsimp -implicitDefEqProofs (disch := omega) only [go_sem, hd, e0, e1, e5, b, h.cl B]
    refine (mayUser_any h hl).mono ?_
    rintro e' w1 ⟨h1, rfl⟩
    simp -dsimp -implicitDefEqProofs (disch := omega) only [go_sem]
    exact hQ _ _ h1 (by simp -dsimp -implicitDefEqProofs only [go_sem, hd]) (by simp -dsimp -implicitDefEqProofs only [go_sem, e0]) (by simp -dsimp -implicitDefEqProofs only [go_sem, e1]) (by simp -dsimp -implicitDefEqProofs only [go_sem, e5]) (by simp -dsimp -implicitDefEqProofs only [go_sem])
theorem set_r4 (hm : m < 256) (hl : t.gid.length ≤ 9223372036854775807) (h : St w0 (NodeB n st i vk vb * (infB B t * A)) w) (hd : e.ds = []) (e0 : e.ρ 0 = .pointer (some ⟨n, 0, none⟩)) (e1 : e.ρ 1 = .int .u8 m) (e5 : e.ρ 5 = .pointer (some ⟨B, 0, none⟩))
    (hQ : ∀ e' w', St w0 (NodeB n st i vk vb * (infB B t * A)) w' → e'.ds = [] → e'.ρ 0 = .pointer (some ⟨n, 0, none⟩) → e'.ρ 1 = .int .u8 m → e'.ρ 5 = .pointer (some ⟨B, 0, none⟩) → e'.ρ 7 = .bool (m.testBit 2 && !userF t.gid) → K e' w') :
    owE Tryz.prog X K F34.r4 e w := by
  have b := bMask (P := Tryz.prog) (T := 40) hm 2 (by omega) (c := 4) rfl
  cases k : m.testBit 2
  · simp only [k, if_false, Bool.false_eq_true] at b
    rw [k] at hQ
    simp -dsimp -implicitDefEqProofs (disch := omega) only [go_sem, hd, e0, e1, e5, b]
    exact hQ _ _ h (by simp -dsimp -implicitDefEqProofs only [go_sem, hd]) (by simp -dsimp -implicitDefEqProofs only [go_sem, e0]) (by simp -dsimp -implicitDefEqProofs only [go_sem, e1]) (by simp -dsimp -implicitDefEqProofs only [go_sem, e5]) (by simp -dsimp -implicitDefEqProofs only [go_sem])
  · simp only [k, if_true] at b
    rw [k] at hQ
    simp -dsimp -implicitDefEqProofs (disch := omega) only [go_sem, hd, e0, e1, e5, b, h.cl B]
    refine (mayUser_any h hl).mono ?_
    rintro e' w1 ⟨h1, rfl⟩
    simp -dsimp -implicitDefEqProofs (disch := omega) only [go_sem]
    exact hQ _ _ h1 (by simp -dsimp -implicitDefEqProofs only [go_sem, hd]) (by simp -dsimp -implicitDefEqProofs only [go_sem, e0]) (by simp -dsimp -implicitDefEqProofs only [go_sem, e1]) (by simp -dsimp -implicitDefEqProofs only [go_sem, e5]) (by simp -dsimp -implicitDefEqProofs only [go_sem])
theorem set_r5 (hm : m < 256) (hl : t.muid.length ≤ 9223372036854775807) (h : St w0 (NodeB n st i vk vb * (infB B t * A)) w) (hd : e.ds = []) (e0 : e.ρ 0 = .pointer (some ⟨n, 0, none⟩)) (e1 : e.ρ 1 = .int .u8 m) (e5 : e.ρ 5 = .pointer (some ⟨B, 0, none⟩))
    (hQ : ∀ e' w', St w0 (NodeB n st i vk vb * (infB B t * A)) w' → e'.ds = [] → e'.ρ 0 = .pointer (some ⟨n, 0, none⟩) → e'.ρ 1 = .int .u8 m → e'.ρ 5 = .pointer (some ⟨B, 0, none⟩) → e'.ρ 7 = .bool (m.testBit 3 && !userF t.muid) → K e' w') :
    owE Tryz.prog X K F34.r5 e w := by
  have b := bMask (P := Tryz.prog) (T := 40) hm 3 (by omega) (c := 8) rfl
  cases k : m.testBit 3
  · simp only [k, if_false, Bool.false_eq_true] at b
    rw [k] at hQ
    simp -dsimp -implicitDefEqProofs (disch := omega) only [go_sem, hd, e0, e1, e5, b]
    exact hQ _ _ h (by simp -dsimp -implicitDefEqProofs only [go_sem, hd]) (by simp -dsimp -implicitDefEqProofs only [go_sem, e0]) (by simp -dsimp -implicitDefEqProofs only [go_sem, e1]) (by simp -dsimp -implicitDefEqProofs only [go_sem, e5]) (by simp -dsimp -implicitDefEqProofs only [go_sem])
  · simp only [k, if_true] at b
    rw [k] at hQ
    simp -dsimp -implicitDefEqProofs (disch := omega) only [go_sem, hd, e0, e1, e5, b, h.cl B]
    refine (mayUser_any h hl).mono ?_
    rintro e' w1 ⟨h1, rfl⟩
    simp -dsimp -implicitDefEqProofs (disch := omega) only [go_sem]
    exact hQ _ _ h1 (by simp -dsimp -implicitDefEqProofs only [go_sem, hd]) (by simp -dsimp -implicitDefEqProofs only [go_sem, e0]) (by simp -dsimp -implicitDefEqProofs only [go_sem, e1]) (by simp -dsimp -implicitDefEqProofs only [go_sem, e5]) (by simp -dsimp -implicitDefEqProofs only [go_sem])
omit [Gives A Tabs] in
theorem set_t6T (hd : e.ds = []) (e0 : e.ρ 0 = .pointer (some ⟨n, 0, none⟩)) (e1 : e.ρ 1 = .int .u8 m) (e5 : e.ρ 5 = .pointer (some ⟨B, 0, none⟩)) (e7 : e.ρ 7 = .bool true) (hR : R (.returned (.int .i64 1)) w) :
    cwE Tryz.prog F34.t6 (blockP 0 (thenP (cwD Tryz.prog none F34.t9 (fnP Tryz.prog #[.tmp 6] R)) (fnP Tryz.prog #[.tmp 6] R))) e w := by
  rw [F34.t6_eq]
  simp -dsimp -implicitDefEqProofs (disch := omega) only [go_sem, hd, e7]
  exact hR
omit [Gives A Tabs] in
theorem set_t6F (hm : m < 256) (ht : t.mode < 4294967296) (hi : i.mode < 4294967296) (h : St w0 (NodeB n st i vk vb * (infB B t * A)) w) (hd : e.ds = []) (e0 : e.ρ 0 = .pointer (some ⟨n, 0, none⟩)) (e1 : e.ρ 1 = .int .u8 m) (e5 : e.ρ 5 = .pointer (some ⟨B, 0, none⟩)) (e7 : e.ρ 7 = .bool false)
    (hR : ∀ w', (m.testBit 0 && !(dirF t.mode == dirF i.mode)) = true → St w0 (NodeB n st i vk vb * (infB B t * A)) w' → R (.returned (.int .i64 81)) w')
    (hQ : ∀ e' w', (m.testBit 0 && !(dirF t.mode == dirF i.mode)) = false → St w0 (NodeB n st i vk vb * (infB B t * A)) w' → e'.ds = [] → e'.ρ 0 = .pointer (some ⟨n, 0, none⟩) → e'.ρ 1 = .int .u8 m → e'.ρ 5 = .pointer (some ⟨B, 0, none⟩) → cwE Tryz.prog F34.t9 (fnP Tryz.prog #[.tmp 6] R) e' w') :
    cwE Tryz.prog F34.t6 (blockP 0 (thenP (cwD Tryz.prog none F34.t9 (fnP Tryz.prog #[.tmp 6] R)) (fnP Tryz.prog #[.tmp 6] R))) e w := by
  rw [F34.t6_eq]
  have b := bMask (P := Tryz.prog) (T := 40) hm 0 (by omega) (c := 1) rfl
  have bx := bDirX (P := Tryz.prog) (T := 33) ht hi
  have hx : binV Tryz.prog .xor 33 (.int .u32 t.mode) (.int .u32 i.mode) = some (.int .u32 ((t.mode ^^^ i.mode : Nat) : Int)) := bXor32 ht hi
  cases k : m.testBit 0
  · simp only [k, if_false, Bool.false_eq_true] at b
    rw [k] at hQ
    simp -dsimp -implicitDefEqProofs (disch := omega) only [go_sem, hd, e0, e1, e5, e7, b]
    exact hQ _ _ rfl h.drew (by simp -dsimp -implicitDefEqProofs only [go_sem, hd]) (by simp -dsimp -implicitDefEqProofs only [go_sem, e0]) (by simp -dsimp -implicitDefEqProofs only [go_sem, e1]) (by simp -dsimp -implicitDefEqProofs only [go_sem, e5])
  · simp only [k, if_true] at b
    rw [k] at hQ hR
    cases k2 : dirF t.mode == dirF i.mode
    · simp only [k2, if_false, Bool.false_eq_true] at bx
      rw [k2] at hR
      simp -dsimp -implicitDefEqProofs (disch := omega) only [go_sem, hd, e0, e1, e5, e7, b, h.drew.cl B, h.drew.cl n, bx, hx]
      exact hR _ rfl h.drew
    · simp only [k2, if_true] at bx
      rw [k2] at hQ
      simp -dsimp -implicitDefEqProofs (disch := omega) only [go_sem, hd, e0, e1, e5, e7, b, h.drew.cl B, h.drew.cl n, bx, hx]
      exact hQ _ _ rfl h.drew (by simp -dsimp -implicitDefEqProofs only [go_sem, hd]) (by simp -dsimp -implicitDefEqProofs only [go_sem, e0]) (by simp -dsimp -implicitDefEqProofs only [go_sem, e1]) (by simp -dsimp -implicitDefEqProofs only [go_sem, e5])
end
section
attribute [local go_sem] F34.t23_eq F34.t21_eq F34.t19_eq F34.t17_eq F34.t15_eq F34.t13_eq F34.t11_eq
theorem set_any {w0 w : World} {A : HP} [Gives A Tabs] {n m : Nat} {st : Int} {t i : Inf} {vk vb : Value} (hm : m < 256) (ht : t.mode < 4294967296) (hi : i.mode < 4294967296) (hl : t.uid.length ≤ 9223372036854775807 ∧ t.gid.length ≤ 9223372036854775807 ∧ t.muid.length ≤ 9223372036854775807)
    (h : St w0 (NodeB n st i vk vb * A) w) :
    Calls Tryz.prog 34 #[.pointer (some ⟨n, 0, none⟩), .int .u8 m, .agg (infL t).toArray] w fun e w' => match setF m t i with
      | .error x => St w0 (NodeB n st i vk vb * A) w' ∧ e = .returned (.int .i64 x)
      | .ok j => St w0 (NodeB n st j vk vb * A) w' ∧ e = .returned (.int .i64 0) := by
  refine F34.calls (by simp) ?_
  unfold F34.code
  simp -dsimp -implicitDefEqProofs (disch := omega) only [go_sem]
  refine h.new fun B w1 h1 => ?_
  have h2 : St w0 (NodeB n st i vk vb * (infB B t * A)) w1 := h1.ac (by ac_rfl)
  have b := bAll (P := Tryz.prog) (T := 40) hm
  cases k7 : m.testBit 7
  case true =>
    have hr : setF m t i = .error 1 := by simp [setF, k7]
    rw [hr]
    simp only [k7, if_true] at b
    simp -dsimp -implicitDefEqProofs (disch := omega) only [go_sem, b]
    exact set_t6T (n := n) (B := B) (m := m) (by simp -dsimp -implicitDefEqProofs only [go_sem]) (by simp -dsimp -implicitDefEqProofs only [go_sem]) (by simp -dsimp -implicitDefEqProofs only [go_sem]) (by simp -dsimp -implicitDefEqProofs only [go_sem]) (by simp -dsimp -implicitDefEqProofs only [go_sem]) ⟨h2.sw2.right, rfl⟩
  simp only [k7, if_false, Bool.false_eq_true] at b
  generalize q2 : F34.r2 = r2
  generalize q3 : F34.r3 = r3
  generalize q4 : F34.r4 = r4
  generalize q5 : F34.r5 = r5
  simp -dsimp -implicitDefEqProofs (disch := omega) only [go_sem, b]
  subst q2
  refine set_r2 (t := t) hm ht h2 (by simp -dsimp -implicitDefEqProofs only [go_sem]) (by simp -dsimp -implicitDefEqProofs only [go_sem]) (by simp -dsimp -implicitDefEqProofs only [go_sem]) (by simp -dsimp -implicitDefEqProofs only [go_sem]) fun e2 w2 h3 d2 a0 a1 a5 a7 => ?_
  have out : (m.testBit 0 && !modeF t.mode || m.testBit 1 && !userF t.uid || m.testBit 2 && !userF t.gid || m.testBit 3 && !userF t.muid) = true → setF m t i = .error 1 := fun hx => by
    simp only [setF, k7, Bool.false_or, hx, if_true]
  cases x0 : (m.testBit 0 && !modeF t.mode)
  case true =>
    rw [x0] at a7
    rw [out (by rw [x0]; simp only [Bool.true_or])]
    simp -dsimp -implicitDefEqProofs (disch := omega) only [go_sem, d2, a0, a1, a5, a7]
    exact set_t6T d2 a0 a1 a5 a7 ⟨h3.sw2.right, rfl⟩
  rw [x0] at a7 out
  simp -dsimp -implicitDefEqProofs (disch := omega) only [go_sem, d2, a0, a1, a5, a7]
  subst q3
  refine set_r3 (t := t) hm hl.1 h3 d2 a0 a1 a5 fun e3 w3 h4 d3 c0 c1 c5 c7 => ?_
  cases x1 : (m.testBit 1 && !userF t.uid)
  case true =>
    rw [x1] at c7
    rw [out (by rw [x1]; simp only [Bool.or_true, Bool.true_or])]
    simp -dsimp -implicitDefEqProofs (disch := omega) only [go_sem, d3, c0, c1, c5, c7]
    exact set_t6T d3 c0 c1 c5 c7 ⟨h4.sw2.right, rfl⟩
  rw [x1] at c7 out
  simp -dsimp -implicitDefEqProofs (disch := omega) only [go_sem, d3, c0, c1, c5, c7]
  subst q4
  refine set_r4 (t := t) hm hl.2.1 h4 d3 c0 c1 c5 fun e4 w4 h5 d4 f0 f1 f5 f7 => ?_
  cases x2 : (m.testBit 2 && !userF t.gid)
  case true =>
    rw [x2] at f7
    rw [out (by rw [x2]; simp only [Bool.or_true, Bool.true_or])]
    simp -dsimp -implicitDefEqProofs (disch := omega) only [go_sem, d4, f0, f1, f5, f7]
    exact set_t6T d4 f0 f1 f5 f7 ⟨h5.sw2.right, rfl⟩
  rw [x2] at f7 out
  simp -dsimp -implicitDefEqProofs (disch := omega) only [go_sem, d4, f0, f1, f5, f7]
  subst q5
  refine set_r5 (t := t) hm hl.2.2 h5 d4 f0 f1 f5 fun e5 w5 h6 d5 j0 j1 j5 j7 => ?_
  cases x3 : (m.testBit 3 && !userF t.muid)
  case true =>
    rw [x3] at j7
    rw [out (by rw [x3]; simp only [Bool.or_true, Bool.true_or])]
    simp -dsimp -implicitDefEqProofs (disch := omega) only [go_sem, d5, j0, j1, j5, j7]
    exact set_t6T d5 j0 j1 j5 j7 ⟨h6.sw2.right, rfl⟩
  rw [x3] at j7 out
  simp -dsimp -implicitDefEqProofs (disch := omega) only [go_sem, d5, j0, j1, j5, j7]
  have in1 : (m.testBit 7 || m.testBit 0 && !modeF t.mode || m.testBit 1 && !userF t.uid || m.testBit 2 && !userF t.gid || m.testBit 3 && !userF t.muid) = false := by rw [k7, x0, x1, x2, x3]; rfl
  refine set_t6F hm ht hi h6 d5 j0 j1 j5 j7 (fun w7 hk h7 => ?_) fun e7 w7 hk h7 d7 l0 l1 l5 => ?_
  · have hr : setF m t i = .error 81 := by
      unfold setF
      rw [in1, hk]
      rfl
    rw [hr]
    exact ⟨h7.sw2.right, rfl⟩
  · have hr : setF m t i = .ok (g6 m (g5 m t (g4 m t (g3 m t (g2 m t (g1 m t (g0 m t i))))))) := by
      unfold setF
      rw [in1, hk]
      rfl
    rw [hr]
    exact set_t9 hm h7 d7 l0 l1 l5 fun w8 h8 => ⟨h8.sw2.right, rfl⟩
end
abbrev u64V (x : Nat) : Value := .int .u64 (x : Int)
abbrev RdU (v : Value) (l : List Nat) : HP := Reads 1 v l.length (l.map u64V)
abbrev RowU (v : Value) (l : List Nat) : HP := RowO 34 1 v l.length (l.map u64V)
theorem nan1_any {w0 w : World} {A : HP} (h : St w0 A w) {a : Int} : Calls Tryz.prog 112 #[.int .u64 a] w fun e w' => St w0 A w' ∧ e = .returned (.bool false) := by
  refine F112.calls (by simp) ?_
  unfold F112.code
  simp -dsimp -implicitDefEqProofs (disch := omega) only [go_sem]
  exact h
theorem nan2_any {w0 w : World} {A : HP} (h : St w0 A w) {a : Int} : Calls Tryz.prog 116 #[.int .u64 a] w fun e w' => St w0 A w' ∧ e = .returned (.bool false) := by
  refine F116.calls (by simp) ?_
  unfold F116.code
  simp -dsimp -implicitDefEqProofs (disch := omega) only [go_sem]
  exact h
theorem lessU_any {w0 w : World} {A : HP} (h : St w0 A w) {a b : Int} : Calls Tryz.prog 111 #[.int .u64 a, .int .u64 b] w fun e w' => St w0 A w' ∧ e = .returned (.bool (decide (a < b))) := by
  refine F111.calls (by simp) ?_
  unfold F111.code
  simp -dsimp -implicitDefEqProofs (disch := omega) only [go_sem]
  refine (nan2_any h).mono ?_
  rintro e w1 ⟨h1, rfl⟩
  simp -dsimp -implicitDefEqProofs (disch := omega) only [go_sem]
  exact h1
def Place (l : List Nat) (t i : Nat) : Prop := i ≤ l.length ∧ (∀ k (hk : k < l.length), k < i → l[k] < t) ∧ (∀ k (hk : k < l.length), i ≤ k → t ≤ l[k])
section
attribute [local go_sem] F99.t4_eq
theorem search_any {w0 w : World} {A : HP} (h : St w0 A w) {v : Value} {l : List Nat} [hg : Gives A (RdU v l)] {t : Nat} (hl : l.Pairwise (· < ·)) (hn : l.length ≤ 1000000000) :
    Calls Tryz.prog 99 #[v, .int .u64 t] w fun e w' => St w0 A w' ∧ ∃ i, Place l t i ∧ e = .returned (.tuple #[.int .i64 (i : Nat), .bool (decide (t ∈ l))]) := by
  obtain ⟨a, c, rfl, hnc, hx⟩ := (h.gives (B := RdU v l)).rd.form
  clear hx
  refine F99.calls (by simp) ?_
  unfold F99.code
  simp -dsimp -implicitDefEqProofs (disch := omega) only [go_sem]
  refine loop_intro (fun e w' => e.ds = [] ∧ e.ρ 0 = .slice a l.length c ∧ e.ρ 1 = .int .u64 t ∧ e.ρ 6 = .int .i64 l.length ∧ ∃ i j : Nat, i ≤ j ∧ j ≤ l.length ∧ e.ρ 7 = .int .i64 i ∧ e.ρ 8 = .int .i64 j ∧
      (∀ k (hk : k < l.length), k < i → l[k] < t) ∧ (∀ k (hk : k < l.length), j ≤ k → t ≤ l[k]) ∧ St w0 A w')
    (fun e _ => match e.ρ 7, e.ρ 8 with | .int _ i, .int _ j => (j - i).toNat | _, _ => 0) ?_ ?_
  · exact ⟨by simp -dsimp -implicitDefEqProofs only [go_sem], by simp -dsimp -implicitDefEqProofs only [go_sem], by simp -dsimp -implicitDefEqProofs only [go_sem], by simp -dsimp -implicitDefEqProofs only [go_sem], 0, l.length, by omega, by omega, by simp -dsimp -implicitDefEqProofs only [go_sem], by simp -dsimp -implicitDefEqProofs only [go_sem], by intros; omega, by intros; omega, h⟩
  clear h w
  rintro e w ⟨hd, e0, e1, e6, i, j, hij, hj, e7, e8, lo, hi, h⟩
  by_cases hlt : (i : Int) < (j : Int)
  case neg =>
    have : i = j := by omega
    subst this
    have hP : Place l t i := ⟨hj, lo, hi⟩
    have hmem : decide (t ∈ l) = true ↔ ∃ (hk : i < l.length), l[i] = t := by
      rw [decide_eq_true_iff]
      constructor
      · intro ht
        obtain ⟨k, hk, rfl⟩ := List.getElem_of_mem ht
        rcases Nat.lt_trichotomy k i with h1 | h1 | h1
        · have := lo k hk h1; omega
        · subst h1; exact ⟨hk, rfl⟩
        · have h2 := hi i (by omega) (Nat.le_refl _)
          have h3 := List.pairwise_iff_getElem.1 hl i k (by omega) hk h1
          omega
      · rintro ⟨hk, rfl⟩; exact List.getElem_mem hk
    by_cases hin : (i : Int) < (l.length : Int)
    case neg =>
      have hf : decide (t ∈ l) = false := by
        cases hb : decide (t ∈ l)
        · rfl
        · obtain ⟨hk, _⟩ := hmem.1 hb; omega
      rw [hf]
      simp -dsimp -implicitDefEqProofs (disch := omega) only [go_sem, hd, e0, e1, e6, e7, e8, hlt]
      unfold F99.t8
      simp -dsimp -implicitDefEqProofs (disch := omega) only [go_sem, hd, e0, e1, e6, e7, e8, hin]
      exact ⟨h, i, hP, rfl⟩
    have hil : i < l.length := by omega
    obtain ⟨b, o, rfl, hc⟩ := h.atS (a := a) (n := l.length) (c := c) (xs := l.map u64V) (k := i) (by simpa using hil)
    simp only [List.getElem_map] at hc
    simp -dsimp -implicitDefEqProofs (disch := omega) only [go_sem, hd, e0, e1, e6, e7, e8, hlt]
    unfold F99.t8
    by_cases he : (l[i] : Int) = (t : Int)
    · have hf : decide (t ∈ l) = true := hmem.2 ⟨hil, by omega⟩
      rw [hf]
      simp -dsimp -implicitDefEqProofs (disch := omega) only [go_sem, hd, e0, e1, e6, e7, e8, hin, hc, he]
      exact ⟨h, i, hP, rfl⟩
    · have hf : decide (t ∈ l) = false := by
        cases hb : decide (t ∈ l)
        · rfl
        · obtain ⟨hk, h2⟩ := hmem.1 hb; omega
      rw [hf]
      simp -dsimp -implicitDefEqProofs (disch := omega) only [go_sem, hd, e0, e1, e6, e7, e8, hin, hc, he]
      refine (nan1_any h).mono ?_
      rintro e' w1 ⟨h1, rfl⟩
      simp -dsimp -implicitDefEqProofs (disch := omega) only [go_sem, hd, e0, e1, e6, e7, e8, hin, hc, he]
      exact ⟨h1, i, hP, rfl⟩
  obtain ⟨m, hme⟩ : ∃ m, m = (i + j) / 2 := ⟨_, rfl⟩
  have hml : m < l.length := by omega
  have hm : IntKind.i64.wrap (((i : Int) + j).fdiv 2) = m := by
    rw [Int.fdiv_eq_ediv_of_nonneg _ (by omega), wrap_i64 (by omega) (by omega)]
    omega
  obtain ⟨b, o, rfl, hc⟩ := h.atS (a := a) (n := l.length) (c := c) (xs := l.map u64V) (k := m) (by simpa using hml)
  simp only [List.getElem_map] at hc
  simp -dsimp -implicitDefEqProofs (disch := omega) only [go_sem, hd, e0, e1, e6, e7, e8, hlt, hm, hc]
  refine (lessU_any h).mono ?_
  rintro e' w1 ⟨h1, rfl⟩
  by_cases hb : (l[m] : Int) < (t : Int)
  · simp -dsimp -implicitDefEqProofs (disch := omega) only [go_sem, hd, e0, e1, e6, e7, e8, hb]
    exact ⟨⟨m + 1, j, by omega, by omega, by omega, rfl, fun k hk hkm => by
      rcases Nat.lt_or_ge k m with h2 | h2
      · have := List.pairwise_iff_getElem.1 hl k m hk hml h2; omega
      · have : k = m := by omega
        subst this; omega, hi, h1⟩, by omega⟩
  · simp -dsimp -implicitDefEqProofs (disch := omega) only [go_sem, hd, e0, e1, e6, e7, e8, hb]
    exact ⟨⟨i, m, by omega, by omega, rfl, rfl, lo, fun k hk hkm => by
      rcases Nat.lt_or_ge m k with h2 | h2
      · have := List.pairwise_iff_getElem.1 hl m k hml hk h2; omega
      · have : k = m := by omega
        subst this; omega, h1⟩, by omega⟩
theorem find_at {p : Nat → Bool} : ∀ (l : List Nat) (q : Nat), (∀ k (hk : k < l.length), k < q → p l[k] = false) → (∀ k (hk : k < l.length), q ≤ k → p l[k] = true) → l.find? p = l[q]?
  | [], q, _, _ => by simp
  | x :: l, 0, _, h2 => by
    have := h2 0 (by simp) (by omega)
    simp only [List.getElem_cons_zero] at this
    simp [List.find?, this]
  | x :: l, q + 1, h1, h2 => by
    have := h1 0 (by simp) (by omega)
    simp only [List.getElem_cons_zero] at this
    simp only [List.find?, this, List.getElem?_cons_succ]
    exact find_at l q (fun k hk hq => h1 (k + 1) (by simpa using hk) (by omega)) (fun k hk hq => h2 (k + 1) (by simpa using hk) (by omega))
theorem find_above {l : List Nat} {t i : Nat} (hp : Place l t i) (hl : l.Pairwise (· < ·)) : l.find? (fun k => decide (t < k)) = l[if t ∈ l then i + 1 else i]? := by
  obtain ⟨h0, h1, h2⟩ := hp
  refine find_at l _ (fun k hk hq => ?_) (fun k hk hq => ?_)
  · by_cases ht : t ∈ l
    · rw [if_pos ht] at hq
      obtain ⟨m, hm, rfl⟩ := List.getElem_of_mem ht
      rcases Nat.lt_or_ge m k with h3 | h3
      · rcases Nat.lt_or_ge m i with h4 | h4
        · have := h1 m hm h4; omega
        · omega
      · rcases Nat.eq_or_lt_of_le h3 with h4 | h4
        · subst h4; simp
        · have := List.pairwise_iff_getElem.1 hl k m hk hm h4
          simp; omega
    · rw [if_neg ht] at hq
      have := h1 k hk hq
      simp; omega
  · by_cases ht : t ∈ l
    · rw [if_pos ht] at hq
      have h3 := h2 i (by omega) (Nat.le_refl _)
      have h4 := List.pairwise_iff_getElem.1 hl i k (by omega) hk (by omega)
      simp; omega
    · rw [if_neg ht] at hq
      have h3 := h2 k hk hq
      have : l[k] ≠ t := fun e => ht (e ▸ List.getElem_mem hk)
      simp; omega
end
section
attribute [local go_sem] F83.t4_eq
theorem above_any {w0 w : World} {A : HP} (h : St w0 A w) {v : Value} {l : List Nat} [hg : Gives A (RdU v l)] {t : Nat} (hl : l.Pairwise (· < ·)) (hn : l.length ≤ 1000000000) :
    Calls Tryz.prog 83 #[v, .int .u64 t] w fun e w' => St w0 A w' ∧ e = .returned (match l.find? (fun k => decide (t < k)) with | some k => .tuple #[.int .u64 k, .bool true] | none => .tuple #[.int .u64 0, .bool false]) := by
  obtain ⟨a, c, rfl, hnc, hx⟩ := (h.gives (B := RdU v l)).rd.form
  clear hx
  refine F83.calls (by simp) ?_
  unfold F83.code
  simp -dsimp -implicitDefEqProofs (disch := omega) only [go_sem]
  refine (search_any h hl hn).mono ?_
  rintro e w1 ⟨h1, i, hp, rfl⟩
  rw [find_above hp hl]
  obtain ⟨q, hq⟩ : ∃ q, q = if t ∈ l then i + 1 else i := ⟨_, rfl⟩
  rw [← hq]
  have hp0 := hp.1
  have hql : q ≤ l.length := by
    rw [hq]
    by_cases ht : t ∈ l
    · rw [if_pos ht]
      obtain ⟨m, hm, he⟩ := List.getElem_of_mem ht
      rcases Nat.lt_or_ge m i with h4 | h4
      · have := hp.2.1 m hm h4; omega
      · omega
    · rw [if_neg ht]; exact hp.1
  have go : ∀ e : FA, e.ds = [] → e.ρ 0 = .slice a l.length c → e.ρ 6 = .int .i64 q → q < l.length → cwE Tryz.prog F83.t6 (fnP Tryz.prog #[.tmp 4, .tmp 5] fun e w' => St w0 A w' ∧ e = .returned (match l[q]? with | some k => .tuple #[.int .u64 k, .bool true] | none => .tuple #[.int .u64 0, .bool false])) e w1 := by
    intro e hd e0 e6 hlt
    obtain ⟨b, o, rfl, hc⟩ := h1.atS (a := a) (n := l.length) (c := c) (xs := l.map u64V) (k := q) (by simpa using hlt)
    simp only [List.getElem_map] at hc
    unfold F83.t6
    rw [List.getElem?_eq_getElem hlt]
    simp -dsimp -implicitDefEqProofs (disch := omega) only [go_sem, hd, e0, e6, hc]
    exact h1
  have hb : q = l.length → St w0 A w1 ∧ Value.tuple #[.int .u64 0, .bool false] = (match l[q]? with | some k => .tuple #[.int .u64 k, .bool true] | none => .tuple #[.int .u64 0, .bool false]) := fun e => by
    rw [List.getElem?_eq_none (by omega)]
    exact ⟨h1, rfl⟩
  by_cases ht : t ∈ l
  · rw [if_pos ht] at hq
    by_cases hz : ((i : Int) + 1) = (l.length : Int)
    · simp -dsimp -implicitDefEqProofs (disch := omega) only [go_sem, ht, hz]
      exact hb (by omega)
    · simp -dsimp -implicitDefEqProofs (disch := omega) only [go_sem, ht, hz]
      refine go _ ?_ ?_ ?_ (by omega)
      · simp -dsimp -implicitDefEqProofs only [go_sem]
      · simp -dsimp -implicitDefEqProofs only [go_sem]
      · simp -dsimp -implicitDefEqProofs only [go_sem, hq]
        first | done | omega
  · rw [if_neg ht] at hq
    by_cases hz : (i : Int) = (l.length : Int)
    · simp -dsimp -implicitDefEqProofs (disch := omega) only [go_sem, ht, hz]
      exact hb (by omega)
    · simp -dsimp -implicitDefEqProofs (disch := omega) only [go_sem, ht, hz]
      refine go _ ?_ ?_ ?_ (by omega)
      · simp -dsimp -implicitDefEqProofs only [go_sem]
      · simp -dsimp -implicitDefEqProofs only [go_sem]
      · simp -dsimp -implicitDefEqProofs only [go_sem, hq]
        first | done | omega
end
end Go.Proofs.YtijnmokpihhhcaaGreatDoor
namespace Go.Proofs.YtijnmokpihhhcaaGreatDoor
open Go
open Go.ChangeMaps (setBlock)
section
variable {κ : Type} {P : Program}
def IterP (enc : κ → Value) (b r : Nat) (l left : List (κ × Value)) : HP :=
  HP.ex fun x : Array MapEntry × Nat × Array Nat => HP.fact ((leftOf x.1 x.2.2).toList.map (fun e => (e.key, e.val)) = left.map (fun p => (enc p.1, p.2))) (MapE enc b x.1 x.2.1 l * Blk r (.mapIter (some b) x.2.1 x.2.2 x.2.1))
def IterAt (enc : κ → Value) (b r : Nat) (l left : List (κ × Value)) (k : κ) (v : Value) : HP :=
  HP.ex fun x : Array MapEntry × Nat × Array Nat × MapEntry => HP.fact ((leftOf x.1 (x.2.2.1.push x.2.2.2.born)).toList.map (fun e => (e.key, e.val)) = left.map (fun p => (enc p.1, p.2)) ∧ x.2.2.2 ∈ x.1.toList ∧ x.2.2.2.key = enc k ∧ x.2.2.2.val = v)
    (MapE enc b x.1 x.2.1 l * Blk r (.mapIter (some b) x.2.1 (x.2.2.1.push x.2.2.2.born) x.2.1))
theorem HP.ex_intro {α : Type} {A : α → HP} {B : HP} (x : α) (h : Ent B (A x)) : Ent B (HP.ex A) := h.trans (Ent.ex A x)
theorem HP.ex_elim {α : Type} {A : α → HP} {B : HP} (h : ∀ x, Ent (A x) B) : Ent (HP.ex A) B := fun hp ⟨x, a⟩ => h x hp a
theorem HP.fact_elim {p : Prop} {A B : HP} (h : p → Ent A B) : Ent (HP.fact p A) B := fun hp ⟨q, a⟩ => h q hp a
theorem IterAt.iter (enc : κ → Value) (b r : Nat) (l left : List (κ × Value)) (k : κ) (v : Value) : Ent (IterAt enc b r l left k v) (IterP enc b r l left) :=
  HP.ex_elim fun x => HP.fact_elim fun h => HP.ex_intro (x.1, x.2.1, x.2.2.1.push x.2.2.2.born) (Ent.fact h.1 _)
theorem IterP.map (enc : κ → Value) (b r : Nat) (l left : List (κ × Value)) : Ent (IterP enc b r l left) (MapP enc b l) :=
  HP.ex_elim fun x => HP.fact_elim fun _ => (Ent.left _ _).trans (MapE.shut enc b x.1 x.2.1 l)
def iterLeft (b r : Nat) (w : World) : Nat :=
  match w.heap[b]?, w.heap[r]? with
  | some (.map es _), some (.mapIter _ _ seen _) => (leftOf es seen).size
  | _, _ => 0
theorem IterP.left {enc : κ → Value} {b r : Nat} {l left : List (κ × Value)} {w0 w : World} {F : HP} (h : St w0 (IterP enc b r l left * F) w) : iterLeft b r w = left.length := by
  obtain ⟨⟨es, clock, seen⟩, h⟩ := h.exF
  obtain ⟨hl, h⟩ := h.factF
  simp only at hl h
  have h' := h.ac (show _ = MapE enc b es clock l * (Blk r (.mapIter (some b) clock seen clock) * F) by ac_rfl)
  have hb := (MapE.heap h').1
  have hr := h'.sw2.blk
  simp only [iterLeft, hb, hr]
  have := congrArg List.length hl
  simpa using this
theorem St.range {enc : κ → Value} {b : Nat} {l : List (κ × Value)} {T kt et : TypeId} {w0 w : World} {F : HP} {K : Value → World → Prop} {θ : Tag K} (h : St w0 (MapP enc b l * F) w) (hu : P.underlying T = some (.map kt et))
    (hK : ∀ r w', St w0 (IterP enc b r l l * F) w' → K (.pointer (some ⟨r, 0, none⟩)) w') : semD P (kRange T (.map (some b))) w K θ := by
  show semD P (Instr.range T (.map (some b))) w K θ
  obtain ⟨es, clock, h1⟩ := MapP.open h
  obtain ⟨hb, hm⟩ := MapE.heap h1
  refine ⟨.pointer (some ⟨w.heap.size, 0, none⟩), w.alloc (.mapIter (some b) clock #[] clock), ?_, hK _ _ ?_⟩
  · simp only [Instr.range, Sem.run_bind, run_underlying' hu, Result.andThen_ok, MapKept.run_getObj_map hb, Sem.run_pure]
    rfl
  · have h2 := h1.alloc (.mapIter (some b) clock #[] clock)
    refine (h2.ac (show _ = (MapE enc b es clock l * Blk w.heap.size (.mapIter (some b) clock #[] clock)) * F by ac_rfl)).ent (Ent.sep (HP.ex_intro (es, clock, #[]) (Ent.fact ?_ _)) (Ent.rfl' F))
    simp only [leftOf]
    rw [← hm.list]
    simp only [Array.toList_filter]
    rw [List.filter_eq_self.2 (by simp)]
theorem leftOf_push {es : Array MapEntry} {seen : Array Nat} {j : Nat} (hn : (es.toList.map (·.born)).Nodup) (hj : j < (leftOf es seen).size) :
    (leftOf es (seen.push (leftOf es seen)[j].born)).toList = (leftOf es seen).toList.eraseIdx j := by
  have e1 : (leftOf es (seen.push (leftOf es seen)[j].born)).toList = (leftOf es seen).toList.filter (fun e => e.born != (leftOf es seen)[j].born) := by
    simp only [leftOf, Array.toList_filter, List.filter_filter]
    apply List.filter_congr
    intro x _
    simp only [Array.contains_push, Bool.not_or]
    rw [Bool.and_comm]
    first
      | rfl
      | (congr 1; done)
      | (congr 1; rw [Bool.eq_iff_iff]; simp)
  rw [e1]
  have hn2 : ((leftOf es seen).toList.map (·.born)).Nodup := by
    refine List.Nodup.sublist ?_ hn
    simp only [leftOf, Array.toList_filter]
    exact List.Sublist.map _ (List.filter_sublist)
  have hj' : j < (leftOf es seen).toList.length := by simpa using hj
  have hx : (leftOf es seen)[j].born = ((leftOf es seen).toList[j]).born := by simp
  rw [hx]
  clear hx e1 hj hn
  generalize (leftOf es seen).toList = L at hn2 hj'
  induction L generalizing j with
  | nil => simp at hj'
  | cons a L ih =>
    simp only [List.map_cons, List.nodup_cons] at hn2
    cases j with
    | zero =>
      simp only [List.getElem_cons_zero, List.filter_cons, bne_self_eq_false, Bool.false_eq_true, if_false, List.eraseIdx_cons_zero]
      rw [List.filter_eq_self]
      intro x hx
      simp only [bne_iff_ne, ne_eq]
      intro he
      exact hn2.1 (List.mem_map.2 ⟨x, hx, he⟩)
    | succ j =>
      simp only [List.length_cons, Nat.succ_lt_succ_iff] at hj'
      have hne : (a.born != (L[j]).born) = true := by
        simp only [bne_iff_ne, ne_eq]
        intro he
        exact hn2.1 (he ▸ List.mem_map.2 ⟨L[j], List.getElem_mem _, rfl⟩)
      simp only [List.getElem_cons_succ, List.filter_cons, hne, if_true, List.eraseIdx_cons_succ]
      rw [ih hn2.2 hj']
theorem St.next {enc : κ → Value} {b r : Nat} {l left : List (κ × Value)} {ty : TypeId} {w0 w : World} {F : HP} {K : Value → World → Prop} {θ : Tag K} (h : St w0 (IterP enc b r l left * F) w)
    (h0 : left = [] → K (.tuple #[.bool false]) w)
    (h1 : ∀ j (hj : j < left.length) w', St w0 (IterAt enc b r l (left.eraseIdx j) (left[j]).1 (left[j]).2 * F) w' → K (.tuple #[.bool true, enc (left[j]).1, (left[j]).2]) w') : semD P (kNext (.pointer (some ⟨r, 0, none⟩)) false ty) w K θ := by
  show semD P (Instr.next (.pointer (some ⟨r, 0, none⟩)) false ty) w K θ
  obtain ⟨⟨es, clock, seen⟩, h⟩ := h.exF
  obtain ⟨hl, h⟩ := h.factF
  simp only at hl h
  have h2 := h.ac (show _ = MapE enc b es clock l * (Blk r (.mapIter (some b) clock seen clock) * F) by ac_rfl)
  obtain ⟨hb, hm⟩ := MapE.heap h2
  have hr := h2.sw2.blk
  have hlen : (leftOf es seen).size = left.length := by simpa using congrArg List.length hl
  rcases run_next_at (P := P) w ty r b clock clock seen es clock hr hb hm.born (Nat.le_refl _) with ⟨hz, hrun⟩ | ⟨e, he, w1, hw1, hrun⟩
  · exact ⟨_, _, hrun, h0 (List.eq_nil_of_length_eq_zero (by omega))⟩
  · obtain ⟨j, hj, rfl⟩ := List.getElem_of_mem he
    have hj' : j < (leftOf es seen).size := by simpa using hj
    have hjl : j < left.length := by omega
    have hkv : ((leftOf es seen)[j].key, (leftOf es seen)[j].val) = (enc (left[j]).1, (left[j]).2) := by
      have := congrArg (fun l => l[j]?) hl
      simpa [hj', hjl] using this
    simp only [Prod.mk.injEq] at hkv
    refine ⟨_, _, hrun, ?_⟩
    simp only [Array.getElem_toList]
    rw [hkv.1, hkv.2]
    refine h1 j hjl _ ?_
    have h3 : St w0 (Blk r (.mapIter (some b) clock seen clock) * (MapE enc b es clock l * F)) w1 := by
      rcases hw1 with rfl | rfl
      · exact h2.sw2
      · exact h2.sw2.drew
    have h4 := h3.putObj (.mapIter (some b) clock (seen.push (leftOf es seen)[j].born) clock)
    refine (h4.ac (show _ = (MapE enc b es clock l * Blk r (.mapIter (some b) clock (seen.push (leftOf es seen)[j].born) clock)) * F by ac_rfl)).ent (Ent.sep (HP.ex_intro (es, clock, seen, (leftOf es seen)[j]) (Ent.fact ⟨?_, ?_, hkv.1, hkv.2⟩ _)) (Ent.rfl' F))
    · simp only [leftOf_push hm.nodup hj', ChangeMaps.map_eraseIdx, hl]
    · have : (leftOf es seen)[j] ∈ leftOf es seen := Array.getElem_mem _
      simp only [leftOf, Array.mem_filter] at this
      exact Array.mem_toList_iff.2 this.1
theorem St.entry {enc : κ → Value} {b r : Nat} {l left : List (κ × Value)} {k : κ} {v : Value} {w0 w : World} {F : HP} {K : Value → Prop} {θ : Tag K} (h : St w0 (IterAt enc b r l left k v * F) w)
    (hK : K (.tuple #[enc k, v])) : readR P (kEntry (.pointer (some ⟨r, 0, none⟩))) w K θ := by
  show readR P (Instr.entry (.pointer (some ⟨r, 0, none⟩))) w K θ
  obtain ⟨⟨es, clock, seen, e⟩, h⟩ := h.exF
  obtain ⟨⟨_, he, hk, hv⟩, h⟩ := h.factF
  simp only at he hk hv h
  have h2 := h.ac (show _ = MapE enc b es clock l * (Blk r (.mapIter (some b) clock (seen.push e.born) clock) * F) by ac_rfl)
  obtain ⟨hb, hm⟩ := MapE.heap h2
  have hr := h2.sw2.blk
  refine ⟨_, run_entry_at w r b clock seen es clock e hr hb he hm.nodup, ?_⟩
  rw [hk, hv]
  exact hK
end
end Go.Proofs.YtijnmokpihhhcaaGreatDoor
namespace Go.Proofs.YtijnmokpihhhcaaGreatDoor
open Go
set_option linter.unusedVariables false
instance {κ : Type} (enc : κ → Value) (b r : Nat) (l left : List (κ × Value)) : Face (.map b) (IterP enc b r l left) := ⟨⟩
instance {κ : Type} (enc : κ → Value) (b r : Nat) (l left : List (κ × Value)) (k : κ) (v : Value) : Face (.map b) (IterAt enc b r l left k v) := ⟨⟩
theorem perm_eraseIdx {α : Type} : ∀ (l : List α) (j : Nat) (hj : j < l.length), (l[j] :: l.eraseIdx j).Perm l
  | a :: l, 0, _ => .refl _
  | a :: l, j + 1, hj => by
    simp only [List.getElem_cons_succ, List.eraseIdx_cons_succ]
    exact (List.Perm.swap _ _ _).trans ((perm_eraseIdx l j (by simpa using hj)).cons a)
section
variable {κ : Type} {P : Program} {w0 w : World} {A F X : HP} {C : HP → HP} {enc : κ → Value} {b r : Nat} {l left : List (κ × Value)}
theorem St.mapNodup (h : St w0 A w) (b : Nat) [i : Hole (.map b) A (MapP enc b l) C] : (l.map (·.1)).Nodup := by
  obtain ⟨R, hR, h'⟩ := h.out (.map b)
  obtain ⟨es, clock, h2⟩ := MapP.open h'
  exact (MapE.heap h2).2.keys
theorem St.iterLeft (h : St w0 A w) (b : Nat) [i : Hole (.map b) A (IterP enc b r l left) C] : Go.Proofs.YtijnmokpihhhcaaGreatDoor.iterLeft b r w = left.length := by
  obtain ⟨R, hR, h'⟩ := h.out (.map b)
  exact IterP.left h'
theorem St.rangeH {T kt et : TypeId} {K : Value → World → Prop} {θ : Tag K} (h : St w0 A w) [i : Hole (.map b) A (MapP enc b l) C] (hu : P.underlying T = some (.map kt et))
    (hK : ∀ r w', St w0 (C (IterP enc b r l l)) w' → K (.pointer (some ⟨r, 0, none⟩)) w') : semD P (kRange T (.map (some b))) w K θ := by
  obtain ⟨R, hR, h'⟩ := h.out (.map b)
  exact h'.range hu fun r w' hw => hK r w' (by rw [hR]; exact hw)
theorem St.nextH {ty : TypeId} {K : Value → World → Prop} {θ : Tag K} (h : St w0 A w) (b : Nat) [i : Hole (.map b) A (IterP enc b r l left) C]
    (h0 : left = [] → K (.tuple #[.bool false]) w)
    (h1 : ∀ j (hj : j < left.length) w', St w0 (C (IterAt enc b r l (left.eraseIdx j) (left[j]).1 (left[j]).2)) w' → K (.tuple #[.bool true, enc (left[j]).1, (left[j]).2]) w') : semD P (kNext (.pointer (some ⟨r, 0, none⟩)) false ty) w K θ := by
  obtain ⟨R, hR, h'⟩ := h.out (.map b)
  exact h'.next h0 fun j hj w' hw => h1 j hj w' (by rw [hR]; exact hw)
theorem St.entryH {k : κ} {v : Value} {K : Value → Prop} {θ : Tag K} (h : St w0 A w) (b : Nat) [i : Hole (.map b) A (IterAt enc b r l left k v) C] (hK : K (.tuple #[enc k, v])) : readR P (kEntry (.pointer (some ⟨r, 0, none⟩))) w K θ := by
  obtain ⟨R, hR, h'⟩ := h.out (.map b)
  exact h'.entry hK
theorem St.iterDone {k : κ} {v : Value} (h : St w0 A w) (b : Nat) [i : Hole (.map b) A (IterAt enc b r l left k v) C] : St w0 (C (IterP enc b r l left)) w := h.turnTo (.map b) (IterAt.iter enc b r l left k v)
theorem St.iterEnd (h : St w0 A w) (b : Nat) [i : Hole (.map b) A (IterP enc b r l left) C] : St w0 (C (MapP enc b l)) w := h.turnTo (.map b) (IterP.map enc b r l left)
end
set_option linter.unusedSimpArgs false
set_option maxRecDepth 100000
def starL {α : Type} (A : α → HP) : List α → HP
  | [] => EmpH
  | x :: l => A x * starL A l
theorem Ent.embL (F : HP) : Ent F (EmpH * F) := fun h hf => ⟨h, hle.rfl' h, fun _ => none, h, fun _ => .inl rfl, (fun _ _ e => by cases e), hle.rfl' h, trivial, hf⟩
theorem starL_split {α : Type} (A : α → HP) (x : α) : ∀ l r : List α, starL A (l ++ x :: r) = A x * starL A (l ++ r)
  | [], r => rfl
  | y :: l, r => by
    show A y * starL A (l ++ x :: r) = A x * (A y * starL A (l ++ r))
    rw [starL_split A x l r]; ac_rfl
structure NN where
  d : NodeD
  n : Nat
  vk : Value
  vb : Value
  ks : List Nat
  P : List (Option (Nat × List UInt8))
def ptrV : Option (Nat × List UInt8) → Value
  | none => .pointer none
  | some p => .pointer (some ⟨p.1, 0, none⟩)
def BlkP : Option (Nat × List UInt8) → HP
  | none => EmpH
  | some p => Blk p.1 (.cells (p.2.map bv).toArray 137 (0, 0))
abbrev RowB (vb : Value) (P : List (Option (Nat × List UInt8))) : HP := RowO 136 1 vb P.length (P.map ptrV)
def BlksP (vb : Value) (P : List (Option (Nat × List UInt8))) : HP := RowB vb P * starL BlkP P
def nodeP (x : NN) : HP := NodeB x.n 0 x.d.i x.vk x.vb * (RowU x.vk x.ks * BlksP x.vb x.P)
def byteAt (P : List (Option (Nat × List UInt8))) (k : Nat) : UInt8 := match P[k / 256]? with
  | some (some p) => p.2.getD (k % 256) 0
  | _ => 0
structure BlksOk (P : List (Option (Nat × List UInt8))) (b : List UInt8) : Prop where
  few : P.length ≤ 256
  full : ∀ p, some p ∈ P → p.2.length = 256
  at_ : ∀ k, k < 65536 → byteAt P k = b.getD k 0
abbrev encU : Int → Value := fun n => .int .u64 n
abbrev KD := Nat × List UInt8
def encK (x : KD) : Value := .agg #[.int .u64 (x.1 : Int), .string (strOf x.2)]
theorem lawU : KeyLaw Tryz.prog 34 encU := KeyLaw.int Tryz.underlying34
theorem flatKey : flatE Tryz.prog 142 = some [.int, .str] := by kernel_rfl
theorem lawK : KeyLaw Tryz.prog 142 encK := by
  refine KeyLaw.agg (enc := fun x : KD => [.int .u64 (x.1 : Int), .string (strOf x.2)]) flatKey fun x y => ?_
  obtain ⟨a, b⟩ := x
  obtain ⟨c, d⟩ := y
  simp only [leafEq, Option.map_some, strOf_toList, Bool.and_true, Option.some.injEq, Prod.mk.injEq, strEq_beq, Bool.decide_and, if_true, Int.natCast_inj]
structure SX where
  N : Nat
  C : Nat
  ov : Value
  X : List NN
  cl : List (KD × Value)
def kv (x : NN) : Int × Value := ((x.d.i.path : Int), .pointer (some ⟨x.n, 0, none⟩))
abbrev storeC (st rc : Int) (most next : Nat) (vN ov vC : Value) : Array Value := #[.int .i32 st, .int .u32 0, .int .u32 0, .int .u32 0, .int .i32 rc, .int .i32 0, .int .i64 most, .int .u64 next, vN, ov, vC]
abbrev StoreB (b : Nat) (st rc : Int) (s : SD) (y : SX) : HP := Blk b (.cells (storeC st rc s.most s.next (.map (some y.N)) y.ov (.map (some y.C))) 100 (0, 0))
abbrev StoreQ (b : Nat) (st rc : Int) (s : SD) (y : SX) : HP :=
  StoreB b st rc s y * (MapP encU y.N (y.X.map kv) * (MapP encK y.C y.cl * (RowU y.ov (s.L.map (·.i.path)) * starL nodeP y.X)))
structure StoreOk (s : SD) (y : SX) : Prop where
  wf : Wf s
  perm : (y.X.map (·.d)).Perm s.L
  kids : ∀ x ∈ y.X, x.ks = kidsF s.L x.d.i.path
  bytes : ∀ x ∈ y.X, BlksOk x.P x.d.b
  child : ∀ dir nm, lk (dir, nm) y.cl = (childF s.L dir nm).map u64V
def StoreP (b : Nat) (st rc : Int) (s : SD) : HP := HP.ex fun y => HP.fact (StoreOk s y) (StoreQ b st rc s y)
theorem StoreP.shut {b : Nat} {st rc : Int} {s : SD} {y : SX} (ok : StoreOk s y) : Ent (StoreQ b st rc s y) (StoreP b st rc s) := (Ent.fact ok _).trans (Ent.ex (fun y => HP.fact (StoreOk s y) (StoreQ b st rc s y)) y)
theorem St.storeO {w0 w : World} {A : HP} {b : Nat} {st rc : Int} {s : SD} (h : St w0 (StoreP b st rc s * A) w) : ∃ y, StoreOk s y ∧ St w0 (StoreQ b st rc s y * A) w := by
  obtain ⟨y, h⟩ := h.exF
  exact ⟨y, h.factF⟩
theorem lk_mem {κ : Type} [DecidableEq κ] {x : κ} {v : Value} : ∀ {l : List (κ × Value)}, (l.map (·.1)).Nodup → (x, v) ∈ l → lk x l = some v
  | [], _, h => by cases h
  | (y, u) :: l, hn, h => by
    simp only [List.map_cons, List.nodup_cons] at hn
    simp only [lk]
    rcases List.mem_cons.1 h with h | h
    · cases h; simp
    · have : ¬ x = y := fun e => hn.1 (e ▸ List.mem_map.2 ⟨_, h, rfl⟩)
      rw [if_neg this]
      exact lk_mem hn.2 h
theorem lk_not {κ : Type} [DecidableEq κ] {x : κ} : ∀ {l : List (κ × Value)}, x ∉ l.map (·.1) → lk x l = none
  | [], _ => rfl
  | (y, u) :: l, h => by
    simp only [List.map_cons, List.mem_cons, not_or] at h
    simp only [lk, if_neg h.1]
    exact lk_not h.2
theorem StoreOk.paths {s : SD} {y : SX} (ok : StoreOk s y) : (y.X.map (fun x => x.d.i.path)).Nodup := by
  have h1 : (s.L.map (·.i.path)).Nodup := (rise_paths.1 ok.wf.rise).imp (fun h => Nat.ne_of_lt h)
  have h2 := (ok.perm.map (fun d => d.i.path)).nodup_iff.2 h1
  rwa [List.map_map] at h2
theorem StoreOk.keys {s : SD} {y : SX} (ok : StoreOk s y) : ((y.X.map kv).map (·.1)).Nodup := by
  have := ok.paths
  rw [List.map_map]
  have h2 : (y.X.map fun x => ((x.d.i.path : Nat) : Int)).Nodup := by
    have h3 := List.Pairwise.map (fun n : Nat => (n : Int)) (R := (· ≠ ·)) (S := (· ≠ ·)) (fun a b h => by omega) this
    rwa [List.map_map] at h3
  exact h2
theorem StoreOk.len {s : SD} {y : SX} (ok : StoreOk s y) : y.X.length = s.L.length := by
  have := ok.perm.length_eq
  simpa using this
theorem StoreOk.some {s : SD} {y : SX} (ok : StoreOk s y) {p : Nat} {d : NodeD} (h : findN s.L p = some d) :
    ∃ X1 x X2, y.X = X1 ++ x :: X2 ∧ x.d = d ∧ x ∈ y.X ∧ lk (p : Int) (y.X.map kv) = .some (.pointer (.some ⟨x.n, 0, none⟩)) := by
  obtain ⟨h1, h2⟩ := find_some h
  have h3 := ok.perm.mem_iff.2 h1
  obtain ⟨x, hx, rfl⟩ := List.mem_map.1 h3
  obtain ⟨X1, X2, hs⟩ := List.append_of_mem hx
  refine ⟨X1, x, X2, hs, rfl, hx, lk_mem ok.keys (List.mem_map.2 ⟨x, hx, ?_⟩)⟩
  rw [kv, h2]
theorem StoreOk.none {s : SD} {y : SX} (ok : StoreOk s y) {p : Nat} (h : findN s.L p = none) : lk (p : Int) (y.X.map kv) = none := by
  refine lk_not fun hm => ?_
  rw [List.map_map] at hm
  obtain ⟨x, hx, he⟩ := List.mem_map.1 hm
  have : x.d.i.path = p := by
    have h2 : (x.d.i.path : Int) = p := he
    omega
  exact find_none h _ (ok.perm.mem_iff.1 (List.mem_map.2 ⟨x, hx, rfl⟩)) this
end Go.Proofs.YtijnmokpihhhcaaGreatDoor

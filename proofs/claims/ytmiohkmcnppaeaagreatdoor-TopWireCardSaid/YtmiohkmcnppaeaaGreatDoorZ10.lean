/- The compiled code of the functions, by program (genir.py): each with the theorem that it is what the engine makes of the loaded program's. · DecodeRuneInString; whether a text is good. · What the start held is below. · The rows of this seat list unicode/utf8's two tables: what the walks ask of the world's start follows from the lists and the world's shape; the world of the witness; the wrap that hands both. · TopRecords: numbers as bytes; what a writer does; a record's bytes (plain laws). · A writer: room, numbers. · A writer: texts, parts, what was written. · A record is put into a writer. · A record behind its count is put. · TopWire: messages and their bytes (plain laws). · A reader without an error: numbers. · A reader without an error: texts, the end; a reader of bytes; are two lists the same. · TopWire: a message in memory; calls of function values. · Fields that are a number of four bytes, or a text: where, good, put (printed by gentw.py). · The other fields: put and good. · Lists of names and of qids: good and put. -/
import Derived.Test.YtmiohkmcnppaeaaGreatDoorZ1
import Derived.Test.YtmiohkmcnppaeaaGreatDoorZ2
import Derived.Test.YtmiohkmcnppaeaaGreatDoorZ3
import Derived.Test.YtmiohkmcnppaeaaGreatDoorZ4
import Derived.Test.YtmiohkmcnppaeaaGreatDoorZ5
import Derived.Test.YtmiohkmcnppaeaaGreatDoorZ6
import Derived.Test.YtmiohkmcnppaeaaGreatDoorZ7
import Derived.Test.YtmiohkmcnppaeaaGreatDoorZ8
import Derived.Test.YtmiohkmcnppaeaaGreatDoorZ9
import Derived.Below
import Derived.WalkKit
import Derived.Test.YtmiohkmcnppaeaaGreatDoorRows
import Derived.Lib.LaidU8
import Derived.PinnedBridge
import Derived.SizedLaws
import Derived.Lay
import Derived.Shelf.Vars
import Derived.LaidMore
import Derived.Stop.Joined
import Derived.ProofKit
namespace Go.Proofs.YtmiohkmcnppaeaaGreatDoor
open Go
set_option maxRecDepth 100000
variable {P : Program} {Q : Post} {e : FA} {w : World} {args : Array Value} {R : Ending → World → Prop}

def F158.r0 : List Oper := [
  oc 3 (.box 37 (.tmp 1)) 0]
def F158.r1 : List Oper := [
  op 5 (.move (.tmp 0)) 74,
  oc 6 (.call ⟨(.value (.func 177)), #[(.tmp 5)], #[74]⟩) 3,
  op 4 (.assign (.tmp 6)) 3]
def F158.r2 : List Oper := [
  op 7 (.move (.tmp 0)) 74,
  od 8 (.load 37 (.tmp 3)) 37,
  oc 9 (.call ⟨(.value (.func 178)), #[(.tmp 7), (.tmp 8)], #[74, 37]⟩) 0]
def F158.r3 : List Oper := [
  op 10 (.move (.tmp 0)) 74,
  op 11 (.move (.tmp 4)) 3,
  oc 12 (.call ⟨(.value (.func 179)), #[(.tmp 10), (.tmp 11)], #[74, 3]⟩) 0]
def F158.code : Cd := (.seq (.region 0 F158.r0.toArray false) (.seq (.region 1 F158.r1.toArray false) (.seq (.region 2 F158.r2.toArray false) (.region 3 F158.r3.toArray false))))
theorem F158.calls (hn : args.size ≤ 13) (h : cwE Tryz.prog F158.code (fnP Tryz.prog #[] R) (entry args) w) : Calls Tryz.prog 158 args w R :=
  calls_of_cwE (types := Tryz.prog.types) follows Tryz.func158 F158.code rfl (by kernel_rfl) hn h

def F159.r0 : List Oper := [
  op 4 (.move (.tmp 1)) 73,
  op 5 (.move (.tmp 0)) 83,
  oc 6 (.call ⟨(.value (.func 160)), #[(.tmp 5)], #[83]⟩) 37,
  op 7 (.nilCheck (.tmp 4)) 0,
  op 8 (.fieldAddr 39 (.tmp 7) 21) 0,
  ⟨none, (.store 37 (.tmp 8) (.tmp 6)), 0, "", #[⟨0, .chain⟩], none⟩]
def F159.code : Cd := (.region 0 F159.r0.toArray false)
theorem F159.calls (hn : args.size ≤ 9) (h : cwE Tryz.prog F159.code (fnP Tryz.prog #[] R) (entry args) w) : Calls Tryz.prog 159 args w R :=
  calls_of_cwE (types := Tryz.prog.types) follows Tryz.func159 F159.code rfl (by kernel_rfl) hn h

def F160.r0 : List Oper := [
  oc 2 (.alloc 37) 0]
def F160.r1 : List Oper := [
  op 4 (.move (.tmp 0)) 83,
  oc 5 (.call ⟨(.value (.func 29)), #[(.tmp 4)], #[83]⟩) 30,
  op 6 (.convert 30 3 (.tmp 5)) 3,
  op 3 (.assign (.tmp 6)) 3]
def F160.r2 : List Oper := [
  op 7 (.move (.tmp 3)) 3,
  op 8 (.move (.tmp 0)) 83,
  oc 9 (.call ⟨(.value (.func 180)), #[(.tmp 8)], #[83]⟩) 3,
  op 10 (.binOp .neq 3 (.tmp 7) (.tmp 9) 3) 4]
def F160.r3 : List Oper := [
  op 11 (.move (.tmp 0)) 83,
  oc 12 (.call ⟨(.value (.func 175)), #[(.tmp 11), (.const (.int .i64 33))], #[83, 41]⟩) 0]
def F160.r4 : List Oper := [
  op 13 (.move (.tmp 0)) 83,
  oc 14 (.call ⟨(.value (.func 181)), #[(.tmp 13)], #[83]⟩) 37,
  ⟨none, (.store 37 (.tmp 2) (.tmp 14)), 0, "", #[⟨0, .chain⟩], none⟩]
def F160.t4 : Cd := (.seq (.region 4 F160.r4.toArray false) .ret)
theorem F160.t4_eq {θ : Tag (F160.t4, Q, e, w)} : cwE P F160.t4 Q e w θ = cwE P (.seq (.region 4 F160.r4.toArray false) .ret) Q e w := rfl
def F160.code : Cd := (.seq (.region 0 F160.r0.toArray false) (.seq (.seq (.region 1 F160.r1.toArray false) (.seq (.region 2 F160.r2.toArray false) (.cond (.tmp 10) (.region 3 F160.r3.toArray false) .skip))) F160.t4))
theorem F160.calls (hn : args.size ≤ 15) (h : cwE Tryz.prog F160.code (fnP Tryz.prog #[(.cell 2 37)] R) (entry args) w) : Calls Tryz.prog 160 args w R :=
  calls_of_cwE (types := Tryz.prog.types) follows Tryz.func160 F160.code rfl (by kernel_rfl) hn h

def F161.r0 : List Oper := [
  op 4 (.move (.tmp 0)) 73,
  op 5 (.move (.tmp 1)) 73,
  op 6 (.nilCheck (.tmp 5)) 0,
  op 7 (.fieldAddr 39 (.tmp 6) 21) 0,
  od 8 (.load 37 (.tmp 7)) 37,
  op 9 (.nilCheck (.tmp 4)) 0,
  op 10 (.fieldAddr 39 (.tmp 9) 21) 0,
  ⟨none, (.store 37 (.tmp 10) (.tmp 8)), 0, "", #[⟨0, .chain⟩], none⟩]
def F161.code : Cd := (.region 0 F161.r0.toArray false)
theorem F161.calls (hn : args.size ≤ 11) (h : cwE Tryz.prog F161.code (fnP Tryz.prog #[] R) (entry args) w) : Calls Tryz.prog 161 args w R :=
  calls_of_cwE (types := Tryz.prog.types) follows Tryz.func161 F161.code rfl (by kernel_rfl) hn h

def F174.r0 : List Oper := [
  op 4 (.assign (.const (.int .i64 0))) 3]
def F174.r1 : List Oper := [
  op 6 (.move (.tmp 0)) 31,
  op 7 (.call ⟨(.builtin .len), #[(.tmp 6)], #[31]⟩) 3,
  op 8 (.move (.const (.int .i64 0))) 3]
def F174.r2 : List Oper := [
  op 9 (.binOp .lss 3 (.tmp 8) (.tmp 7) 3) 0]
def F174.r3 : List Oper := [
  op 10 (.move (.tmp 8)) 3,
  op 5 (.assign (.tmp 10)) 3]
def F174.r4 : List Oper := [
  op 11 (.move (.tmp 1)) 112,
  op 12 (.move (.tmp 0)) 31,
  op 13 (.move (.tmp 5)) 3,
  op 14 (.indexAddr 31 (.tmp 12) (.tmp 13)) 0,
  od 15 (.load 9 (.tmp 14)) 9,
  ⟨(some 16), (.call ⟨(.value (.tmp 11)), #[(.tmp 15)], #[9]⟩), 4, "", #[⟨0, .phase⟩], none⟩]
def F174.r5 : List Oper := [
  op 17 (.move (.tmp 5)) 3,
  op 4 (.assign (.tmp 17)) 3]
def F174.r6 : List Oper := [
  op 18 (.binOp .add 3 (.tmp 8) (.const (.int .i64 1)) 3) 3,
  op 8 (.move (.tmp 18)) 3]
def F174.r7 : List Oper := [
  op 4 (.assign (.const (.int .i64 (-1)))) 3]
def F174.t6 : Cd := (.region 6 F174.r6.toArray false)
theorem F174.t6_eq {θ : Tag (F174.t6, Q, e, w)} : cwE P F174.t6 Q e w θ = cwE P (.region 6 F174.r6.toArray false) Q e w := rfl
def F174.t3 : Cd := (.seq (.block 1 (.seq (.region 3 F174.r3.toArray false) (.seq (.region 4 F174.r4.toArray false) (.cond (.tmp 16) (.seq (.region 5 F174.r5.toArray false) .ret) .skip)))) F174.t6)
theorem F174.t3_eq {θ : Tag (F174.t3, Q, e, w)} : cwE P F174.t3 Q e w θ = cwE P (.seq (.block 1 (.seq (.region 3 F174.r3.toArray false) (.seq (.region 4 F174.r4.toArray false) (.cond (.tmp 16) (.seq (.region 5 F174.r5.toArray false) .ret) .skip)))) F174.t6) Q e w := rfl
def F174.t7 : Cd := (.seq (.region 7 F174.r7.toArray false) .ret)
theorem F174.t7_eq {θ : Tag (F174.t7, Q, e, w)} : cwE P F174.t7 Q e w θ = cwE P (.seq (.region 7 F174.r7.toArray false) .ret) Q e w := rfl
def F174.code : Cd := (.seq (.region 0 F174.r0.toArray false) (.seq (.seq (.region 1 F174.r1.toArray false) (.block 0 (.loop (.seq (.region 2 F174.r2.toArray false) (.seq (.cond (.tmp 9) .skip (.exit 0)) F174.t3))))) F174.t7))
theorem F174.calls (hn : args.size ≤ 19) (h : cwE Tryz.prog F174.code (fnP Tryz.prog #[(.tmp 4)] R) (entry args) w) : Calls Tryz.prog 174 args w R :=
  calls_of_cwE (types := Tryz.prog.types) follows Tryz.func174 F174.code rfl (by kernel_rfl) hn h

def F175.r0 : List Oper := [
  op 4 (.move (.tmp 0)) 83,
  op 5 (.move (.tmp 1)) 41,
  oc 6 (.call ⟨(.value (.func 54)), #[(.tmp 4), (.tmp 5), (.const (.int .i64 0))], #[83, 41, 3]⟩) 0]
def F175.code : Cd := (.region 0 F175.r0.toArray false)
theorem F175.calls (hn : args.size ≤ 7) (h : cwE Tryz.prog F175.code (fnP Tryz.prog #[] R) (entry args) w) : Calls Tryz.prog 175 args w R :=
  calls_of_cwE (types := Tryz.prog.types) follows Tryz.func175 F175.code rfl (by kernel_rfl) hn h

def F177.r0 : List Oper := [
  op 2 (.assign (.const (.int .i64 0))) 3]
def F177.r1 : List Oper := [
  op 4 (.move (.tmp 0)) 74,
  oc 5 (.call ⟨(.value (.func 111)), #[(.tmp 4), (.const (.int .i64 2))], #[74, 3]⟩) 4,
  op 6 (.unOp .not 4 (.tmp 5)) 4]
def F177.r2 : List Oper := [
  op 2 (.assign (.const (.int .i64 0))) 3]
def F177.r3 : List Oper := [
  op 7 (.move (.tmp 0)) 74,
  op 8 (.nilCheck (.tmp 7)) 0,
  op 9 (.fieldAddr 99 (.tmp 8) 1) 0,
  od 10 (.load 28 (.tmp 9)) 28,
  op 11 (.call ⟨(.builtin .len), #[(.tmp 10)], #[28]⟩) 3,
  op 3 (.assign (.tmp 11)) 3]
def F177.r4 : List Oper := [
  op 12 (.move (.tmp 0)) 74,
  op 13 (.move (.tmp 0)) 74,
  op 14 (.nilCheck (.tmp 13)) 0,
  op 15 (.fieldAddr 99 (.tmp 14) 1) 0,
  od 16 (.load 28 (.tmp 15)) 28,
  oc 17 (.buildSlice 28 2 #[(0, (.const (.int .u8 0))), (1, (.const (.int .u8 0)))]) 28,
  oc 18 (.call ⟨(.builtin .append), #[(.tmp 16), (.tmp 17)], #[28, 28]⟩) 28,
  op 19 (.nilCheck (.tmp 12)) 0,
  op 20 (.fieldAddr 99 (.tmp 19) 1) 0,
  ⟨none, (.store 28 (.tmp 20) (.tmp 18)), 0, "", #[⟨0, .chain⟩], none⟩]
def F177.r5 : List Oper := [
  op 21 (.move (.tmp 0)) 74,
  op 22 (.move (.tmp 0)) 74,
  op 23 (.nilCheck (.tmp 22)) 0,
  op 24 (.fieldAddr 99 (.tmp 23) 2) 0,
  od 25 (.load 97 (.tmp 24)) 97,
  op 26 (.move (.tmp 3)) 3,
  oc 27 (.buildSlice 97 1 #[(0, (.tmp 26))]) 97,
  oc 28 (.call ⟨(.builtin .append), #[(.tmp 25), (.tmp 27)], #[97, 97]⟩) 97,
  op 29 (.nilCheck (.tmp 21)) 0,
  op 30 (.fieldAddr 99 (.tmp 29) 2) 0,
  ⟨none, (.store 97 (.tmp 30) (.tmp 28)), 0, "", #[⟨0, .chain⟩], none⟩]
def F177.r6 : List Oper := [
  op 31 (.move (.tmp 3)) 3,
  op 2 (.assign (.tmp 31)) 3]
def F177.t3 : Cd := (.seq (.region 3 F177.r3.toArray false) (.seq (.region 4 F177.r4.toArray false) (.seq (.region 5 F177.r5.toArray false) (.seq (.region 6 F177.r6.toArray false) .ret))))
theorem F177.t3_eq {θ : Tag (F177.t3, Q, e, w)} : cwE P F177.t3 Q e w θ = cwE P (.seq (.region 3 F177.r3.toArray false) (.seq (.region 4 F177.r4.toArray false) (.seq (.region 5 F177.r5.toArray false) (.seq (.region 6 F177.r6.toArray false) .ret)))) Q e w := rfl
def F177.code : Cd := (.seq (.region 0 F177.r0.toArray false) (.seq (.seq (.region 1 F177.r1.toArray false) (.cond (.tmp 6) (.seq (.region 2 F177.r2.toArray false) .ret) .skip)) F177.t3))
theorem F177.calls (hn : args.size ≤ 32) (h : cwE Tryz.prog F177.code (fnP Tryz.prog #[(.tmp 2)] R) (entry args) w) : Calls Tryz.prog 177 args w R :=
  calls_of_cwE (types := Tryz.prog.types) follows Tryz.func177 F177.code rfl (by kernel_rfl) hn h

def F178.r0 : List Oper := [
  oc 3 (.box 37 (.tmp 1)) 0]
def F178.r1 : List Oper := [
  op 7 (.move (.tmp 0)) 74,
  op 8 (.binOp .eql 74 (.tmp 7) (.const (.pointer none)) 74) 4]
def F178.r2 : List Oper := [
  op 9 (.move (.tmp 0)) 74,
  oc 10 (.call ⟨(.value (.func 177)), #[(.tmp 9)], #[74]⟩) 3,
  op 4 (.assign (.tmp 10)) 3]
def F178.r3 : List Oper := [
  op 11 (.move (.tmp 0)) 74,
  op 12 (.fieldAddr 37 (.tmp 3) 0) 0,
  od 13 (.load 30 (.tmp 12)) 30,
  oc 14 (.call ⟨(.value (.func 22)), #[(.tmp 11), (.tmp 13)], #[74, 30]⟩) 0]
def F178.r4 : List Oper := [
  op 15 (.move (.tmp 0)) 74,
  op 16 (.fieldAddr 37 (.tmp 3) 1) 0,
  od 17 (.load 27 (.tmp 16)) 27,
  oc 18 (.call ⟨(.value (.func 20)), #[(.tmp 15), (.tmp 17)], #[74, 27]⟩) 0]
def F178.r5 : List Oper := [
  op 19 (.move (.tmp 0)) 74,
  op 20 (.fieldAddr 37 (.tmp 3) 2) 0,
  od 21 (.load 35 (.tmp 20)) 35,
  oc 22 (.call ⟨(.value (.func 102)), #[(.tmp 19), (.tmp 21)], #[74, 35]⟩) 0]
def F178.r6 : List Oper := [
  op 23 (.move (.tmp 0)) 74,
  op 24 (.fieldAddr 37 (.tmp 3) 3) 0,
  od 25 (.load 27 (.tmp 24)) 27,
  oc 26 (.call ⟨(.value (.func 20)), #[(.tmp 23), (.tmp 25)], #[74, 27]⟩) 0]
def F178.r7 : List Oper := [
  op 27 (.move (.tmp 0)) 74,
  op 28 (.fieldAddr 37 (.tmp 3) 4) 0,
  od 29 (.load 27 (.tmp 28)) 27,
  oc 30 (.call ⟨(.value (.func 20)), #[(.tmp 27), (.tmp 29)], #[74, 27]⟩) 0]
def F178.r8 : List Oper := [
  op 31 (.move (.tmp 0)) 74,
  op 32 (.fieldAddr 37 (.tmp 3) 5) 0,
  od 33 (.load 27 (.tmp 32)) 27,
  oc 34 (.call ⟨(.value (.func 20)), #[(.tmp 31), (.tmp 33)], #[74, 27]⟩) 0]
def F178.r9 : List Oper := [
  op 35 (.move (.tmp 0)) 74,
  op 36 (.fieldAddr 37 (.tmp 3) 6) 0,
  od 37 (.load 33 (.tmp 36)) 33,
  oc 38 (.call ⟨(.value (.func 85)), #[(.tmp 35), (.tmp 37)], #[74, 33]⟩) 0]
def F178.r10 : List Oper := [
  op 39 (.fieldAddr 37 (.tmp 3) 7) 0,
  od 40 (.load 9 (.tmp 39)) 9,
  op 41 (.fieldAddr 37 (.tmp 3) 8) 0,
  od 42 (.load 9 (.tmp 41)) 9,
  op 43 (.fieldAddr 37 (.tmp 3) 9) 0,
  od 44 (.load 9 (.tmp 43)) 9,
  op 45 (.fieldAddr 37 (.tmp 3) 10) 0,
  od 46 (.load 9 (.tmp 45)) 9,
  oc 47 (.buildSlice 31 4 #[(0, (.tmp 40)), (1, (.tmp 42)), (2, (.tmp 44)), (3, (.tmp 46))]) 31,
  op 48 (.call ⟨(.builtin .len), #[(.tmp 47)], #[31]⟩) 3,
  op 49 (.move (.const (.int .i64 0))) 3]
def F178.r11 : List Oper := [
  op 50 (.binOp .lss 3 (.tmp 49) (.tmp 48) 3) 0]
def F178.r12 : List Oper := [
  op 51 (.indexAddr 31 (.tmp 47) (.tmp 49)) 0,
  od 52 (.load 9 (.tmp 51)) 9,
  op 6 (.assign (.tmp 52)) 9]
def F178.r13 : List Oper := [
  op 53 (.move (.tmp 0)) 74,
  op 54 (.move (.tmp 6)) 9,
  oc 55 (.call ⟨(.value (.func 66)), #[(.tmp 53), (.tmp 54)], #[74, 9]⟩) 0]
def F178.r14 : List Oper := [
  op 56 (.binOp .add 3 (.tmp 49) (.const (.int .i64 1)) 3) 3,
  op 49 (.move (.tmp 56)) 3]
def F178.r15 : List Oper := [
  op 57 (.move (.tmp 0)) 74,
  op 58 (.move (.tmp 4)) 3,
  oc 59 (.call ⟨(.value (.func 179)), #[(.tmp 57), (.tmp 58)], #[74, 3]⟩) 0]
def F178.t14 : Cd := (.region 14 F178.r14.toArray false)
theorem F178.t14_eq {θ : Tag (F178.t14, Q, e, w)} : cwE P F178.t14 Q e w θ = cwE P (.region 14 F178.r14.toArray false) Q e w := rfl
def F178.t12 : Cd := (.seq (.block 1 (.seq (.region 12 F178.r12.toArray false) (.region 13 F178.r13.toArray false))) F178.t14)
theorem F178.t12_eq {θ : Tag (F178.t12, Q, e, w)} : cwE P F178.t12 Q e w θ = cwE P (.seq (.block 1 (.seq (.region 12 F178.r12.toArray false) (.region 13 F178.r13.toArray false))) F178.t14) Q e w := rfl
def F178.t15 : Cd := (.region 15 F178.r15.toArray false)
theorem F178.t15_eq {θ : Tag (F178.t15, Q, e, w)} : cwE P F178.t15 Q e w θ = cwE P (.region 15 F178.r15.toArray false) Q e w := rfl
def F178.t2 : Cd := (.seq (.region 2 F178.r2.toArray false) (.seq (.region 3 F178.r3.toArray false) (.seq (.region 4 F178.r4.toArray false) (.seq (.region 5 F178.r5.toArray false) (.seq (.region 6 F178.r6.toArray false) (.seq (.region 7 F178.r7.toArray false) (.seq (.region 8 F178.r8.toArray false) (.seq (.region 9 F178.r9.toArray false) (.seq (.seq (.region 10 F178.r10.toArray false) (.block 0 (.loop (.seq (.region 11 F178.r11.toArray false) (.seq (.cond (.tmp 50) .skip (.exit 0)) F178.t12))))) F178.t15)))))))))
theorem F178.t2_eq {θ : Tag (F178.t2, Q, e, w)} : cwE P F178.t2 Q e w θ = cwE P (.seq (.region 2 F178.r2.toArray false) (.seq (.region 3 F178.r3.toArray false) (.seq (.region 4 F178.r4.toArray false) (.seq (.region 5 F178.r5.toArray false) (.seq (.region 6 F178.r6.toArray false) (.seq (.region 7 F178.r7.toArray false) (.seq (.region 8 F178.r8.toArray false) (.seq (.region 9 F178.r9.toArray false) (.seq (.seq (.region 10 F178.r10.toArray false) (.block 0 (.loop (.seq (.region 11 F178.r11.toArray false) (.seq (.cond (.tmp 50) .skip (.exit 0)) F178.t12))))) F178.t15))))))))) Q e w := rfl
def F178.code : Cd := (.seq (.region 0 F178.r0.toArray false) (.seq (.seq (.region 1 F178.r1.toArray false) (.cond (.tmp 8) .ret .skip)) F178.t2))
theorem F178.calls (hn : args.size ≤ 60) (h : cwE Tryz.prog F178.code (fnP Tryz.prog #[] R) (entry args) w) : Calls Tryz.prog 178 args w R :=
  calls_of_cwE (types := Tryz.prog.types) follows Tryz.func178 F178.code rfl (by kernel_rfl) hn h

def F179.r0 : List Oper := [
  op 6 (.move (.tmp 0)) 74,
  op 7 (.nilCheck (.tmp 6)) 0,
  op 8 (.fieldAddr 99 (.tmp 7) 3) 0,
  od 9 (.load 41 (.tmp 8)) 41,
  op 10 (.binOp .neq 41 (.tmp 9) (.const (.int .i64 0)) 41) 4]
def F179.r1 : List Oper := [
  op 11 (.move (.tmp 0)) 74,
  op 12 (.nilCheck (.tmp 11)) 0,
  op 13 (.fieldAddr 99 (.tmp 12) 2) 0,
  od 14 (.load 97 (.tmp 13)) 97,
  op 15 (.call ⟨(.builtin .len), #[(.tmp 14)], #[97]⟩) 3,
  op 16 (.binOp .sub 3 (.tmp 15) (.const (.int .i64 1)) 3) 3,
  op 4 (.assign (.tmp 16)) 3]
def F179.r2 : List Oper := [
  op 17 (.move (.tmp 4)) 3,
  op 18 (.binOp .lss 3 (.tmp 17) (.const (.int .i64 0)) 3) 4,
  op 19 (.move (.tmp 18)) 4,
  ⟨(some 20), (.move (.tmp 0)), 74, "", #[], (some (19, false))⟩,
  ⟨(some 21), (.nilCheck (.tmp 20)), 0, "", #[], (some (19, false))⟩,
  ⟨(some 22), (.fieldAddr 99 (.tmp 21) 2), 0, "", #[], (some (19, false))⟩,
  ⟨(some 23), (.load 97 (.tmp 22)), 97, "", #[⟨0, .data⟩], (some (19, false))⟩,
  ⟨(some 24), (.move (.tmp 4)), 3, "", #[], (some (19, false))⟩,
  ⟨(some 25), (.indexAddr 97 (.tmp 23) (.tmp 24)), 0, "", #[], (some (19, false))⟩,
  ⟨(some 26), (.load 3 (.tmp 25)), 3, "", #[⟨0, .data⟩], (some (19, false))⟩,
  ⟨(some 27), (.move (.tmp 1)), 3, "", #[], (some (19, false))⟩,
  ⟨(some 28), (.binOp .neq 3 (.tmp 26) (.tmp 27) 3), 4, "", #[], (some (19, false))⟩,
  op 29 (.pick (.tmp 19) (.const (.bool true)) (.tmp 28)) 4]
def F179.r3 : List Oper := [
  op 30 (.move (.tmp 0)) 74,
  op 31 (.nilCheck (.tmp 30)) 0,
  op 32 (.fieldAddr 99 (.tmp 31) 3) 0,
  ⟨none, (.store 41 (.tmp 32) (.const (.int .i64 1))), 0, "", #[⟨0, .chain⟩], none⟩]
def F179.r4 : List Oper := [
  op 33 (.move (.tmp 0)) 74,
  op 34 (.nilCheck (.tmp 33)) 0,
  op 35 (.fieldAddr 99 (.tmp 34) 1) 0,
  od 36 (.load 28 (.tmp 35)) 28,
  op 37 (.call ⟨(.builtin .len), #[(.tmp 36)], #[28]⟩) 3,
  op 38 (.move (.tmp 1)) 3,
  op 39 (.binOp .sub 3 (.tmp 37) (.tmp 38) 3) 3,
  op 40 (.binOp .sub 3 (.tmp 39) (.const (.int .i64 2)) 3) 3,
  op 5 (.assign (.tmp 40)) 3]
def F179.r5 : List Oper := [
  op 41 (.move (.tmp 5)) 3,
  op 42 (.binOp .gtr 3 (.tmp 41) (.const (.int .i64 65535)) 3) 4]
def F179.r6 : List Oper := [
  op 43 (.move (.tmp 0)) 74,
  op 44 (.nilCheck (.tmp 43)) 0,
  op 45 (.fieldAddr 99 (.tmp 44) 3) 0,
  ⟨none, (.store 41 (.tmp 45) (.const (.int .i64 13))), 0, "", #[⟨0, .chain⟩], none⟩]
def F179.r7 : List Oper := [
  op 46 (.move (.tmp 0)) 74,
  op 47 (.nilCheck (.tmp 46)) 0,
  op 48 (.fieldAddr 99 (.tmp 47) 1) 0,
  od 49 (.load 28 (.tmp 48)) 28,
  op 50 (.move (.tmp 1)) 3,
  op 51 (.move (.tmp 5)) 3,
  op 52 (.convert 3 5 (.tmp 51)) 5,
  op 53 (.indexAddr 28 (.tmp 49) (.tmp 50)) 0,
  ⟨none, (.store 5 (.tmp 53) (.tmp 52)), 0, "", #[⟨0, .chain⟩], none⟩]
def F179.r8 : List Oper := [
  op 54 (.move (.tmp 0)) 74,
  op 55 (.nilCheck (.tmp 54)) 0,
  op 56 (.fieldAddr 99 (.tmp 55) 1) 0,
  od 57 (.load 28 (.tmp 56)) 28,
  op 58 (.move (.tmp 1)) 3,
  op 59 (.binOp .add 3 (.tmp 58) (.const (.int .i64 1)) 3) 3,
  op 60 (.move (.tmp 5)) 3,
  op 61 (.binOp .shr 3 (.tmp 60) (.const (.int .u64 8)) 128) 3,
  op 62 (.convert 3 5 (.tmp 61)) 5,
  op 63 (.indexAddr 28 (.tmp 57) (.tmp 59)) 0,
  ⟨none, (.store 5 (.tmp 63) (.tmp 62)), 0, "", #[⟨0, .chain⟩], none⟩]
def F179.r9 : List Oper := [
  op 64 (.move (.tmp 0)) 74,
  op 65 (.move (.tmp 0)) 74,
  op 66 (.nilCheck (.tmp 65)) 0,
  op 67 (.fieldAddr 99 (.tmp 66) 2) 0,
  od 68 (.load 97 (.tmp 67)) 97,
  op 69 (.move (.tmp 4)) 3,
  op 70 (.slice 97 (.tmp 68) none (some (.tmp 69)) none) 97,
  op 71 (.nilCheck (.tmp 64)) 0,
  op 72 (.fieldAddr 99 (.tmp 71) 2) 0,
  ⟨none, (.store 97 (.tmp 72) (.tmp 70)), 0, "", #[⟨0, .chain⟩], none⟩]
def F179.t7 : Cd := (.seq (.region 7 F179.r7.toArray false) (.seq (.region 8 F179.r8.toArray false) (.region 9 F179.r9.toArray false)))
theorem F179.t7_eq {θ : Tag (F179.t7, Q, e, w)} : cwE P F179.t7 Q e w θ = cwE P (.seq (.region 7 F179.r7.toArray false) (.seq (.region 8 F179.r8.toArray false) (.region 9 F179.r9.toArray false))) Q e w := rfl
def F179.t4 : Cd := (.seq (.region 4 F179.r4.toArray false) (.seq (.seq (.region 5 F179.r5.toArray false) (.cond (.tmp 42) (.seq (.region 6 F179.r6.toArray false) .ret) .skip)) F179.t7))
theorem F179.t4_eq {θ : Tag (F179.t4, Q, e, w)} : cwE P F179.t4 Q e w θ = cwE P (.seq (.region 4 F179.r4.toArray false) (.seq (.seq (.region 5 F179.r5.toArray false) (.cond (.tmp 42) (.seq (.region 6 F179.r6.toArray false) .ret) .skip)) F179.t7)) Q e w := rfl
def F179.t1 : Cd := (.seq (.region 1 F179.r1.toArray false) (.seq (.seq (.region 2 F179.r2.toArray false) (.cond (.tmp 29) (.seq (.region 3 F179.r3.toArray false) .ret) .skip)) F179.t4))
theorem F179.t1_eq {θ : Tag (F179.t1, Q, e, w)} : cwE P F179.t1 Q e w θ = cwE P (.seq (.region 1 F179.r1.toArray false) (.seq (.seq (.region 2 F179.r2.toArray false) (.cond (.tmp 29) (.seq (.region 3 F179.r3.toArray false) .ret) .skip)) F179.t4)) Q e w := rfl
def F179.code : Cd := (.seq (.seq (.region 0 F179.r0.toArray false) (.cond (.tmp 10) .ret .skip)) F179.t1)
theorem F179.calls (hn : args.size ≤ 73) (h : cwE Tryz.prog F179.code (fnP Tryz.prog #[] R) (entry args) w) : Calls Tryz.prog 179 args w R :=
  calls_of_cwE (types := Tryz.prog.types) follows Tryz.func179 F179.code rfl (by kernel_rfl) hn h

def F180.r0 : List Oper := [
  op 2 (.assign (.const (.int .i64 0))) 3]
def F180.r1 : List Oper := [
  op 3 (.move (.tmp 0)) 83,
  op 4 (.nilCheck (.tmp 3)) 0,
  op 5 (.fieldAddr 104 (.tmp 4) 3) 0,
  od 6 (.load 41 (.tmp 5)) 41,
  op 7 (.binOp .neq 41 (.tmp 6) (.const (.int .i64 0)) 41) 4]
def F180.r2 : List Oper := [
  op 2 (.assign (.const (.int .i64 0))) 3]
def F180.r3 : List Oper := [
  ⟨(some 8), (.move (.tmp 0)), 83, "", #[], none⟩,
  ⟨(some 9), (.nilCheck (.tmp 8)), 0, "", #[], none⟩,
  ⟨(some 10), (.fieldAddr 104 (.tmp 9) 0), 0, "", #[], none⟩,
  ⟨(some 13), (.move (.tmp 0)), 83, "", #[], none⟩,
  ⟨(some 14), (.nilCheck (.tmp 13)), 0, "", #[], none⟩,
  ⟨(some 15), (.fieldAddr 104 (.tmp 14) 1), 0, "", #[], none⟩,
  ⟨(some 11), (.load 28 (.tmp 10)), 28, "", #[⟨0, .data⟩], none⟩,
  ⟨(some 12), (.call ⟨(.builtin .len), #[(.tmp 11)], #[28]⟩), 3, "", #[], none⟩,
  ⟨(some 16), (.load 3 (.tmp 15)), 3, "", #[⟨0, .data⟩], none⟩,
  ⟨(some 17), (.binOp .sub 3 (.tmp 12) (.tmp 16) 3), 3, "", #[], none⟩,
  ⟨(some 2), (.assign (.tmp 17)), 3, "", #[], none⟩]
def F180.t3 : Cd := (.seq (.region 3 F180.r3.toArray true) .ret)
theorem F180.t3_eq {θ : Tag (F180.t3, Q, e, w)} : cwE P F180.t3 Q e w θ = cwE P (.seq (.region 3 F180.r3.toArray true) .ret) Q e w := rfl
def F180.code : Cd := (.seq (.region 0 F180.r0.toArray false) (.seq (.seq (.region 1 F180.r1.toArray false) (.cond (.tmp 7) (.seq (.region 2 F180.r2.toArray false) .ret) .skip)) F180.t3))
theorem F180.calls (hn : args.size ≤ 18) (h : cwE Tryz.prog F180.code (fnP Tryz.prog #[(.tmp 2)] R) (entry args) w) : Calls Tryz.prog 180 args w R :=
  calls_of_cwE (types := Tryz.prog.types) follows Tryz.func180 F180.code rfl (by kernel_rfl) hn h

def F181.r0 : List Oper := [
  oc 2 (.alloc 37) 0]
def F181.r1 : List Oper := [
  op 7 (.move (.tmp 0)) 83,
  op 8 (.binOp .eql 83 (.tmp 7) (.const (.pointer none)) 83) 4]
def F181.r2 : List Oper := [
  op 9 (.build 37 #[]) 37,
  ⟨none, (.store 37 (.tmp 2) (.tmp 9)), 0, "", #[⟨0, .chain⟩], none⟩]
def F181.r3 : List Oper := [
  op 10 (.move (.tmp 0)) 83,
  oc 11 (.call ⟨(.value (.func 198)), #[(.tmp 10)], #[83]⟩) 83,
  op 3 (.assign (.tmp 11)) 83]
def F181.r4 : List Oper := [
  op 12 (.move (.tmp 3)) 83,
  oc 13 (.call ⟨(.value (.func 29)), #[(.tmp 12)], #[83]⟩) 30,
  op 14 (.move (.tmp 3)) 83,
  oc 15 (.call ⟨(.value (.func 27)), #[(.tmp 14)], #[83]⟩) 27,
  op 16 (.build 37 #[(0, (.tmp 13)), (1, (.tmp 15))]) 37,
  oc 4 (.alloc 37) 0,
  ⟨none, (.store 37 (.tmp 4) (.tmp 16)), 0, "", #[⟨0, .chain⟩], none⟩]
def F181.r5 : List Oper := [
  op 17 (.move (.tmp 3)) 83,
  oc 18 (.call ⟨(.value (.func 104)), #[(.tmp 17)], #[83]⟩) 35,
  op 19 (.fieldAddr 37 (.tmp 4) 2) 0,
  ⟨none, (.store 35 (.tmp 19) (.tmp 18)), 0, "", #[⟨0, .chain⟩], none⟩]
def F181.r6 : List Oper := [
  op 20 (.move (.tmp 3)) 83,
  oc 21 (.call ⟨(.value (.func 27)), #[(.tmp 20)], #[83]⟩) 27,
  op 22 (.fieldAddr 37 (.tmp 4) 3) 0,
  ⟨none, (.store 27 (.tmp 22) (.tmp 21)), 0, "", #[⟨0, .chain⟩], none⟩]
def F181.r7 : List Oper := [
  op 23 (.move (.tmp 3)) 83,
  oc 24 (.call ⟨(.value (.func 27)), #[(.tmp 23)], #[83]⟩) 27,
  op 25 (.fieldAddr 37 (.tmp 4) 4) 0,
  ⟨none, (.store 27 (.tmp 25) (.tmp 24)), 0, "", #[⟨0, .chain⟩], none⟩]
def F181.r8 : List Oper := [
  op 26 (.move (.tmp 3)) 83,
  oc 27 (.call ⟨(.value (.func 27)), #[(.tmp 26)], #[83]⟩) 27,
  op 28 (.fieldAddr 37 (.tmp 4) 5) 0,
  ⟨none, (.store 27 (.tmp 28) (.tmp 27)), 0, "", #[⟨0, .chain⟩], none⟩]
def F181.r9 : List Oper := [
  op 29 (.move (.tmp 3)) 83,
  oc 30 (.call ⟨(.value (.func 87)), #[(.tmp 29)], #[83]⟩) 33,
  op 31 (.fieldAddr 37 (.tmp 4) 6) 0,
  ⟨none, (.store 33 (.tmp 31) (.tmp 30)), 0, "", #[⟨0, .chain⟩], none⟩]
def F181.r10 : List Oper := [
  op 32 (.move (.tmp 3)) 83,
  oc 33 (.call ⟨(.value (.func 68)), #[(.tmp 32)], #[83]⟩) 9,
  op 34 (.fieldAddr 37 (.tmp 4) 7) 0,
  ⟨none, (.store 9 (.tmp 34) (.tmp 33)), 0, "", #[⟨0, .chain⟩], none⟩]
def F181.r11 : List Oper := [
  op 35 (.move (.tmp 3)) 83,
  oc 36 (.call ⟨(.value (.func 68)), #[(.tmp 35)], #[83]⟩) 9,
  op 37 (.fieldAddr 37 (.tmp 4) 8) 0,
  ⟨none, (.store 9 (.tmp 37) (.tmp 36)), 0, "", #[⟨0, .chain⟩], none⟩]
def F181.r12 : List Oper := [
  op 38 (.move (.tmp 3)) 83,
  oc 39 (.call ⟨(.value (.func 68)), #[(.tmp 38)], #[83]⟩) 9,
  op 40 (.fieldAddr 37 (.tmp 4) 9) 0,
  ⟨none, (.store 9 (.tmp 40) (.tmp 39)), 0, "", #[⟨0, .chain⟩], none⟩]
def F181.r13 : List Oper := [
  op 41 (.move (.tmp 3)) 83,
  oc 42 (.call ⟨(.value (.func 68)), #[(.tmp 41)], #[83]⟩) 9,
  op 43 (.fieldAddr 37 (.tmp 4) 10) 0,
  ⟨none, (.store 9 (.tmp 43) (.tmp 42)), 0, "", #[⟨0, .chain⟩], none⟩]
def F181.r14 : List Oper := [
  op 44 (.move (.tmp 3)) 83,
  oc 45 (.call ⟨(.value (.func 30)), #[(.tmp 44)], #[83]⟩) 0]
def F181.r15 : List Oper := [
  op 47 (.move (.tmp 3)) 83,
  oc 48 (.call ⟨(.value (.func 31)), #[(.tmp 47)], #[83]⟩) 87,
  op 46 (.move (.tmp 48)) 87,
  op 49 (.extract (.tmp 46) 0) 41,
  op 50 (.extract (.tmp 46) 1) 3,
  op 5 (.assign (.tmp 49)) 41,
  op 6 (.assign (.tmp 50)) 3]
def F181.r16 : List Oper := [
  op 51 (.move (.tmp 5)) 41,
  op 52 (.binOp .neq 41 (.tmp 51) (.const (.int .i64 0)) 41) 4]
def F181.r17 : List Oper := [
  op 53 (.move (.tmp 0)) 83,
  op 54 (.move (.tmp 5)) 41,
  oc 55 (.call ⟨(.value (.func 175)), #[(.tmp 53), (.tmp 54)], #[83, 41]⟩) 0]
def F181.r18 : List Oper := [
  op 56 (.build 37 #[]) 37,
  ⟨none, (.store 37 (.tmp 2) (.tmp 56)), 0, "", #[⟨0, .chain⟩], none⟩]
def F181.r19 : List Oper := [
  od 57 (.load 37 (.tmp 4)) 37,
  ⟨none, (.store 37 (.tmp 2) (.tmp 57)), 0, "", #[⟨0, .chain⟩], none⟩]
def F181.t19 : Cd := (.seq (.region 19 F181.r19.toArray false) .ret)
theorem F181.t19_eq {θ : Tag (F181.t19, Q, e, w)} : cwE P F181.t19 Q e w θ = cwE P (.seq (.region 19 F181.r19.toArray false) .ret) Q e w := rfl
def F181.t3 : Cd := (.seq (.region 3 F181.r3.toArray false) (.seq (.region 4 F181.r4.toArray false) (.seq (.region 5 F181.r5.toArray false) (.seq (.region 6 F181.r6.toArray false) (.seq (.region 7 F181.r7.toArray false) (.seq (.region 8 F181.r8.toArray false) (.seq (.region 9 F181.r9.toArray false) (.seq (.region 10 F181.r10.toArray false) (.seq (.region 11 F181.r11.toArray false) (.seq (.region 12 F181.r12.toArray false) (.seq (.region 13 F181.r13.toArray false) (.seq (.region 14 F181.r14.toArray false) (.seq (.seq (.region 15 F181.r15.toArray false) (.seq (.region 16 F181.r16.toArray false) (.cond (.tmp 52) (.seq (.region 17 F181.r17.toArray false) (.seq (.region 18 F181.r18.toArray false) .ret)) .skip))) F181.t19)))))))))))))
theorem F181.t3_eq {θ : Tag (F181.t3, Q, e, w)} : cwE P F181.t3 Q e w θ = cwE P (.seq (.region 3 F181.r3.toArray false) (.seq (.region 4 F181.r4.toArray false) (.seq (.region 5 F181.r5.toArray false) (.seq (.region 6 F181.r6.toArray false) (.seq (.region 7 F181.r7.toArray false) (.seq (.region 8 F181.r8.toArray false) (.seq (.region 9 F181.r9.toArray false) (.seq (.region 10 F181.r10.toArray false) (.seq (.region 11 F181.r11.toArray false) (.seq (.region 12 F181.r12.toArray false) (.seq (.region 13 F181.r13.toArray false) (.seq (.region 14 F181.r14.toArray false) (.seq (.seq (.region 15 F181.r15.toArray false) (.seq (.region 16 F181.r16.toArray false) (.cond (.tmp 52) (.seq (.region 17 F181.r17.toArray false) (.seq (.region 18 F181.r18.toArray false) .ret)) .skip))) F181.t19))))))))))))) Q e w := rfl
def F181.code : Cd := (.seq (.region 0 F181.r0.toArray false) (.seq (.seq (.region 1 F181.r1.toArray false) (.cond (.tmp 8) (.seq (.region 2 F181.r2.toArray false) .ret) .skip)) F181.t3))
theorem F181.calls (hn : args.size ≤ 58) (h : cwE Tryz.prog F181.code (fnP Tryz.prog #[(.cell 2 37)] R) (entry args) w) : Calls Tryz.prog 181 args w R :=
  calls_of_cwE (types := Tryz.prog.types) follows Tryz.func181 F181.code rfl (by kernel_rfl) hn h

def F198.r0 : List Oper := [
  op 2 (.assign (.const (.pointer none))) 83]
def F198.r1 : List Oper := [
  op 7 (.move (.tmp 0)) 83,
  oc 8 (.call ⟨(.value (.func 118)), #[(.tmp 7)], #[83]⟩) 140,
  op 6 (.move (.tmp 8)) 140,
  op 9 (.extract (.tmp 6) 0) 3,
  op 10 (.extract (.tmp 6) 1) 4,
  op 3 (.assign (.tmp 9)) 3,
  op 4 (.assign (.tmp 10)) 4]
def F198.r2 : List Oper := [
  op 11 (.move (.tmp 4)) 4,
  op 12 (.unOp .not 4 (.tmp 11)) 4]
def F198.r3 : List Oper := [
  ⟨(some 13), (.move (.tmp 0)), 83, "", #[], none⟩,
  ⟨(some 14), (.nilCheck (.tmp 13)), 0, "", #[], none⟩,
  ⟨(some 15), (.fieldAddr 104 (.tmp 14) 4), 0, "", #[], none⟩,
  ⟨(some 17), (.move (.tmp 0)), 83, "", #[], none⟩,
  ⟨(some 18), (.nilCheck (.tmp 17)), 0, "", #[], none⟩,
  ⟨(some 19), (.fieldAddr 104 (.tmp 18) 3), 0, "", #[], none⟩,
  ⟨(some 21), (.move (.tmp 0)), 83, "", #[], none⟩,
  ⟨(some 22), (.nilCheck (.tmp 21)), 0, "", #[], none⟩,
  ⟨(some 23), (.fieldAddr 104 (.tmp 22) 4), 0, "", #[], none⟩,
  ⟨(some 16), (.load 3 (.tmp 15)), 3, "", #[⟨8192, .data⟩], none⟩,
  ⟨(some 20), (.load 41 (.tmp 19)), 41, "", #[⟨8192, .data⟩], none⟩,
  ⟨(some 24), (.load 3 (.tmp 23)), 3, "", #[⟨8192, .data⟩], none⟩,
  ⟨(some 25), (.build 104 #[(2, (.tmp 16)), (3, (.tmp 20)), (4, (.tmp 24))]), 104, "", #[], none⟩,
  ⟨(some 26), (.box 104 (.tmp 25)), 83, "", #[⟨13, .chain⟩], none⟩,
  ⟨(some 2), (.assign (.tmp 26)), 83, "", #[], none⟩]
def F198.r4 : List Oper := [
  op 27 (.move (.tmp 0)) 83,
  op 28 (.nilCheck (.tmp 27)) 0,
  op 29 (.fieldAddr 104 (.tmp 28) 1) 0,
  od 30 (.load 3 (.tmp 29)) 3,
  op 31 (.binOp .add 3 (.tmp 30) (.const (.int .i64 2)) 3) 3,
  op 5 (.assign (.tmp 31)) 3]
def F198.r5 : List Oper := [
  op 32 (.move (.tmp 0)) 83,
  op 33 (.move (.tmp 5)) 3,
  op 34 (.move (.tmp 3)) 3,
  op 35 (.binOp .add 3 (.tmp 33) (.tmp 34) 3) 3,
  op 36 (.nilCheck (.tmp 32)) 0,
  op 37 (.fieldAddr 104 (.tmp 36) 1) 0,
  ⟨none, (.store 3 (.tmp 37) (.tmp 35)), 0, "", #[⟨0, .chain⟩], none⟩]
def F198.r6 : List Oper := [
  ⟨(some 38), (.move (.tmp 0)), 83, "", #[], none⟩,
  ⟨(some 39), (.nilCheck (.tmp 38)), 0, "", #[], none⟩,
  ⟨(some 40), (.fieldAddr 104 (.tmp 39) 0), 0, "", #[], none⟩,
  ⟨(some 42), (.move (.tmp 5)), 3, "", #[], none⟩,
  ⟨(some 43), (.move (.tmp 0)), 83, "", #[], none⟩,
  ⟨(some 44), (.nilCheck (.tmp 43)), 0, "", #[], none⟩,
  ⟨(some 45), (.fieldAddr 104 (.tmp 44) 1), 0, "", #[], none⟩,
  ⟨(some 47), (.move (.tmp 0)), 83, "", #[], none⟩,
  ⟨(some 48), (.nilCheck (.tmp 47)), 0, "", #[], none⟩,
  ⟨(some 49), (.fieldAddr 104 (.tmp 48) 1), 0, "", #[], none⟩,
  ⟨(some 52), (.move (.tmp 0)), 83, "", #[], none⟩,
  ⟨(some 53), (.nilCheck (.tmp 52)), 0, "", #[], none⟩,
  ⟨(some 54), (.fieldAddr 104 (.tmp 53) 2), 0, "", #[], none⟩,
  ⟨(some 56), (.move (.tmp 5)), 3, "", #[], none⟩,
  ⟨(some 41), (.load 28 (.tmp 40)), 28, "", #[⟨2097152, .data⟩], none⟩,
  ⟨(some 46), (.load 3 (.tmp 45)), 3, "", #[⟨2097152, .data⟩], none⟩,
  ⟨(some 50), (.load 3 (.tmp 49)), 3, "", #[⟨2097152, .data⟩], none⟩,
  ⟨(some 51), (.slice 28 (.tmp 41) (some (.tmp 42)) (some (.tmp 46)) (some (.tmp 50))), 28, "", #[], none⟩,
  ⟨(some 55), (.load 3 (.tmp 54)), 3, "", #[⟨2097152, .data⟩], none⟩,
  ⟨(some 57), (.binOp .add 3 (.tmp 55) (.tmp 56) 3), 3, "", #[], none⟩,
  ⟨(some 58), (.build 104 #[(0, (.tmp 51)), (2, (.tmp 57))]), 104, "", #[], none⟩,
  ⟨(some 59), (.box 104 (.tmp 58)), 83, "", #[⟨21, .chain⟩], none⟩,
  ⟨(some 2), (.assign (.tmp 59)), 83, "", #[], none⟩]
def F198.t4 : Cd := (.seq (.region 4 F198.r4.toArray false) (.seq (.region 5 F198.r5.toArray false) (.seq (.region 6 F198.r6.toArray true) .ret)))
theorem F198.t4_eq {θ : Tag (F198.t4, Q, e, w)} : cwE P F198.t4 Q e w θ = cwE P (.seq (.region 4 F198.r4.toArray false) (.seq (.region 5 F198.r5.toArray false) (.seq (.region 6 F198.r6.toArray true) .ret))) Q e w := rfl
def F198.code : Cd := (.seq (.region 0 F198.r0.toArray false) (.seq (.region 1 F198.r1.toArray false) (.seq (.seq (.region 2 F198.r2.toArray false) (.cond (.tmp 12) (.seq (.region 3 F198.r3.toArray true) .ret) .skip)) F198.t4)))
theorem F198.calls (hn : args.size ≤ 60) (h : cwE Tryz.prog F198.code (fnP Tryz.prog #[(.tmp 2)] R) (entry args) w) : Calls Tryz.prog 198 args w R :=
  calls_of_cwE (types := Tryz.prog.types) follows Tryz.func198 F198.code rfl (by kernel_rfl) hn h

attribute [go_sem] fact_aggSz_27
attribute [go_sem] fact_aggSz_28
attribute [go_sem] fact_aggSz_29
attribute [go_sem] fact_aggSz_3
attribute [go_sem] fact_aggSz_30
attribute [go_sem] fact_aggSz_31
attribute [go_sem] fact_aggSz_32
attribute [go_sem] fact_aggSz_33
attribute [go_sem] fact_aggSz_35
attribute [go_sem] fact_aggSz_37
attribute [go_sem] fact_aggSz_39
attribute [go_sem] fact_aggSz_4
attribute [go_sem] fact_aggSz_41
attribute [go_sem] fact_aggSz_5
attribute [go_sem] fact_aggSz_55
attribute [go_sem] fact_aggSz_58
attribute [go_sem] fact_aggSz_60
attribute [go_sem] fact_aggSz_63
attribute [go_sem] fact_aggSz_64
attribute [go_sem] fact_aggSz_65
attribute [go_sem] fact_aggSz_66
attribute [go_sem] fact_aggSz_67
attribute [go_sem] fact_aggSz_71
attribute [go_sem] fact_aggSz_74
attribute [go_sem] fact_aggSz_83
attribute [go_sem] fact_aggSz_9
attribute [go_sem] fact_aggSz_93
attribute [go_sem] fact_aggSz_96
attribute [go_sem] fact_aggSz_97
attribute [go_sem] fact_arrEx_55
attribute [go_sem] fact_bldP_104
attribute [go_sem] fact_bldP_35
attribute [go_sem] fact_bldP_37
attribute [go_sem] fact_bldP_39
attribute [go_sem] fact_bldP_57
attribute [go_sem] fact_bldP_60
attribute [go_sem] fact_bldP_71
attribute [go_sem] fact_bldP_99
attribute [go_sem] fact_elemOf_22
attribute [go_sem] fact_elemOf_23
attribute [go_sem] fact_elemOf_28
attribute [go_sem] fact_elemOf_31
attribute [go_sem] fact_elemOf_32
attribute [go_sem] fact_elemOf_55
attribute [go_sem] fact_elemOf_58
attribute [go_sem] fact_elemOf_89
attribute [go_sem] fact_elemOf_9
attribute [go_sem] fact_elemOf_97
attribute [go_sem] fact_fieldOff_104_0
attribute [go_sem] fact_fieldOff_104_1
attribute [go_sem] fact_fieldOff_104_2
attribute [go_sem] fact_fieldOff_104_3
attribute [go_sem] fact_fieldOff_104_4
attribute [go_sem] fact_fieldOff_35_0
attribute [go_sem] fact_fieldOff_35_1
attribute [go_sem] fact_fieldOff_35_2
attribute [go_sem] fact_fieldOff_37_0
attribute [go_sem] fact_fieldOff_37_1
attribute [go_sem] fact_fieldOff_37_10
attribute [go_sem] fact_fieldOff_37_2
attribute [go_sem] fact_fieldOff_37_3
attribute [go_sem] fact_fieldOff_37_4
attribute [go_sem] fact_fieldOff_37_5
attribute [go_sem] fact_fieldOff_37_6
attribute [go_sem] fact_fieldOff_37_7
attribute [go_sem] fact_fieldOff_37_8
attribute [go_sem] fact_fieldOff_37_9
attribute [go_sem] fact_fieldOff_39_0
attribute [go_sem] fact_fieldOff_39_1
attribute [go_sem] fact_fieldOff_39_10
attribute [go_sem] fact_fieldOff_39_11
attribute [go_sem] fact_fieldOff_39_12
attribute [go_sem] fact_fieldOff_39_13
attribute [go_sem] fact_fieldOff_39_14
attribute [go_sem] fact_fieldOff_39_15
attribute [go_sem] fact_fieldOff_39_16
attribute [go_sem] fact_fieldOff_39_17
attribute [go_sem] fact_fieldOff_39_18
attribute [go_sem] fact_fieldOff_39_19
attribute [go_sem] fact_fieldOff_39_2
attribute [go_sem] fact_fieldOff_39_20
attribute [go_sem] fact_fieldOff_39_21
attribute [go_sem] fact_fieldOff_39_3
attribute [go_sem] fact_fieldOff_39_4
attribute [go_sem] fact_fieldOff_39_5
attribute [go_sem] fact_fieldOff_39_6
attribute [go_sem] fact_fieldOff_39_7
attribute [go_sem] fact_fieldOff_39_8
attribute [go_sem] fact_fieldOff_39_9
attribute [go_sem] fact_fieldOff_57_0
attribute [go_sem] fact_fieldOff_57_1
attribute [go_sem] fact_fieldOff_57_2
attribute [go_sem] fact_fieldOff_57_3
attribute [go_sem] fact_fieldOff_57_4
attribute [go_sem] fact_fieldOff_57_5
attribute [go_sem] fact_fieldOff_57_6
attribute [go_sem] fact_fieldOff_57_7
attribute [go_sem] fact_fieldOff_60_0
attribute [go_sem] fact_fieldOff_60_2
attribute [go_sem] fact_fieldOff_99_0
attribute [go_sem] fact_fieldOff_99_1
attribute [go_sem] fact_fieldOff_99_2
attribute [go_sem] fact_fieldOff_99_3
attribute [go_sem] fact_fieldTy_71_1
attribute [go_sem] fact_fieldTy_71_2
attribute [go_sem] fact_fieldTy_71_3
attribute [go_sem] fact_fieldTy_71_4
attribute [go_sem] fact_flatE_35
attribute [go_sem] fact_flatE_37
attribute [go_sem] fact_fnOk_10
attribute [go_sem] fact_fnOk_102
attribute [go_sem] fact_fnOk_104
attribute [go_sem] fact_fnOk_11
attribute [go_sem] fact_fnOk_110
attribute [go_sem] fact_fnOk_111
attribute [go_sem] fact_fnOk_112
attribute [go_sem] fact_fnOk_117
attribute [go_sem] fact_fnOk_118
attribute [go_sem] fact_fnOk_12
attribute [go_sem] fact_fnOk_125
attribute [go_sem] fact_fnOk_126
attribute [go_sem] fact_fnOk_13
attribute [go_sem] fact_fnOk_131
attribute [go_sem] fact_fnOk_134
attribute [go_sem] fact_fnOk_136
attribute [go_sem] fact_fnOk_138
attribute [go_sem] fact_fnOk_14
attribute [go_sem] fact_fnOk_145
attribute [go_sem] fact_fnOk_146
attribute [go_sem] fact_fnOk_148
attribute [go_sem] fact_fnOk_149
attribute [go_sem] fact_fnOk_15
attribute [go_sem] fact_fnOk_151
attribute [go_sem] fact_fnOk_158
attribute [go_sem] fact_fnOk_16
attribute [go_sem] fact_fnOk_160
attribute [go_sem] fact_fnOk_169
attribute [go_sem] fact_fnOk_17
attribute [go_sem] fact_fnOk_174
attribute [go_sem] fact_fnOk_175
attribute [go_sem] fact_fnOk_177
attribute [go_sem] fact_fnOk_178
attribute [go_sem] fact_fnOk_179
attribute [go_sem] fact_fnOk_18
attribute [go_sem] fact_fnOk_180
attribute [go_sem] fact_fnOk_181
attribute [go_sem] fact_fnOk_19
attribute [go_sem] fact_fnOk_198
attribute [go_sem] fact_fnOk_20
attribute [go_sem] fact_fnOk_21
attribute [go_sem] fact_fnOk_22
attribute [go_sem] fact_fnOk_23
attribute [go_sem] fact_fnOk_24
attribute [go_sem] fact_fnOk_25
attribute [go_sem] fact_fnOk_26
attribute [go_sem] fact_fnOk_27
attribute [go_sem] fact_fnOk_28
attribute [go_sem] fact_fnOk_29
attribute [go_sem] fact_fnOk_30
attribute [go_sem] fact_fnOk_31
attribute [go_sem] fact_fnOk_32
attribute [go_sem] fact_fnOk_33
attribute [go_sem] fact_fnOk_4
attribute [go_sem] fact_fnOk_41
attribute [go_sem] fact_fnOk_47
attribute [go_sem] fact_fnOk_48
attribute [go_sem] fact_fnOk_49
attribute [go_sem] fact_fnOk_5
attribute [go_sem] fact_fnOk_50
attribute [go_sem] fact_fnOk_51
attribute [go_sem] fact_fnOk_52
attribute [go_sem] fact_fnOk_53
attribute [go_sem] fact_fnOk_54
attribute [go_sem] fact_fnOk_56
attribute [go_sem] fact_fnOk_57
attribute [go_sem] fact_fnOk_58
attribute [go_sem] fact_fnOk_59
attribute [go_sem] fact_fnOk_6
attribute [go_sem] fact_fnOk_61
attribute [go_sem] fact_fnOk_63
attribute [go_sem] fact_fnOk_64
attribute [go_sem] fact_fnOk_65
attribute [go_sem] fact_fnOk_66
attribute [go_sem] fact_fnOk_67
attribute [go_sem] fact_fnOk_68
attribute [go_sem] fact_fnOk_69
attribute [go_sem] fact_fnOk_7
attribute [go_sem] fact_fnOk_70
attribute [go_sem] fact_fnOk_72
attribute [go_sem] fact_fnOk_8
attribute [go_sem] fact_fnOk_85
attribute [go_sem] fact_fnOk_87
attribute [go_sem] fact_fnOk_9
attribute [go_sem] fact_fnOk_92
attribute [go_sem] fact_fnOk_94
attribute [go_sem] fact_fnOk_96
attribute [go_sem] fact_szO_27
attribute [go_sem] fact_szO_28
attribute [go_sem] fact_szO_3
attribute [go_sem] fact_szO_30
attribute [go_sem] fact_szO_31
attribute [go_sem] fact_szO_32
attribute [go_sem] fact_szO_33
attribute [go_sem] fact_szO_35
attribute [go_sem] fact_szO_37
attribute [go_sem] fact_szO_39
attribute [go_sem] fact_szO_4
attribute [go_sem] fact_szO_41
attribute [go_sem] fact_szO_5
attribute [go_sem] fact_szO_60
attribute [go_sem] fact_szO_71
attribute [go_sem] fact_szO_9
attribute [go_sem] fact_szO_97
attribute [go_sem] fact_zeroV_35
attribute [go_sem] fact_zeroV_37
attribute [go_sem] fact_zeroV_39
attribute [go_sem] fact_zeroV_60
attribute [go_sem] fact_zeroV_71
attribute [go_sem] Tryz.underlying2
attribute [go_sem] Tryz.underlying3
attribute [go_sem] Tryz.underlying5
attribute [go_sem] Tryz.underlying9
attribute [go_sem] Tryz.underlying22
attribute [go_sem] Tryz.underlying23
attribute [go_sem] Tryz.underlying25
attribute [go_sem] Tryz.underlying27
attribute [go_sem] Tryz.underlying28
attribute [go_sem] Tryz.underlying30
attribute [go_sem] Tryz.underlying31
attribute [go_sem] Tryz.underlying32
attribute [go_sem] Tryz.underlying33
attribute [go_sem] Tryz.underlying35
attribute [go_sem] Tryz.underlying37
attribute [go_sem] Tryz.underlying55
attribute [go_sem] Tryz.underlying58
attribute [go_sem] Tryz.underlying74
attribute [go_sem] Tryz.underlying83
attribute [go_sem] Tryz.underlying89
attribute [go_sem] Tryz.underlying97
attribute [go_sem] F3.r0
attribute [go_sem] F3.r1
attribute [go_sem] F3.r2
attribute [go_sem] F3.r3
attribute [go_sem] F3.r4
attribute [go_sem] F3.r5
attribute [go_sem] F3.r6
attribute [go_sem] F3.r7
attribute [go_sem] F3.r8
attribute [go_sem] F3.r9
attribute [go_sem] F3.r10
attribute [go_sem] F3.r11
attribute [go_sem] F3.r13
attribute [go_sem] F3.r14
attribute [go_sem] F3.r15
attribute [go_sem] F3.r16
attribute [go_sem] F3.r17
attribute [go_sem] F3.r18
attribute [go_sem] F3.r12
attribute [go_sem] F3.r19
attribute [go_sem] F3.r20
attribute [go_sem] F3.r21
attribute [go_sem] F3.r22
attribute [go_sem] F3.r23
attribute [go_sem] F3.r25
attribute [go_sem] F3.r26
attribute [go_sem] F3.r27
attribute [go_sem] F3.r28
attribute [go_sem] F3.r29
attribute [go_sem] F3.r30
attribute [go_sem] F3.r31
attribute [go_sem] F3.r32
attribute [go_sem] F3.r33
attribute [go_sem] F3.r34
attribute [go_sem] F3.r35
attribute [go_sem] F3.r36
attribute [go_sem] F3.r37
attribute [go_sem] F3.r38
attribute [go_sem] F3.r39
attribute [go_sem] F3.r24
attribute [go_sem] F3.r40
attribute [go_sem] F4.r0
attribute [go_sem] F4.r1
attribute [go_sem] F4.r2
attribute [go_sem] F4.r3
attribute [go_sem] F4.r5
attribute [go_sem] F4.r4
attribute [go_sem] F4.r6
attribute [go_sem] F5.r0
attribute [go_sem] F5.r1
attribute [go_sem] F5.r2
attribute [go_sem] F5.r3
attribute [go_sem] F6.r0
attribute [go_sem] F6.r1
attribute [go_sem] F7.r0
attribute [go_sem] F7.r1
attribute [go_sem] F7.r2
attribute [go_sem] F7.r3
attribute [go_sem] F7.r4
attribute [go_sem] F7.r5
attribute [go_sem] F7.r6
attribute [go_sem] F7.r7
attribute [go_sem] F7.r8
attribute [go_sem] F7.r9
attribute [go_sem] F7.r10
attribute [go_sem] F7.r11
attribute [go_sem] F7.r12
attribute [go_sem] F7.r13
attribute [go_sem] F7.r14
attribute [go_sem] F7.r15
attribute [go_sem] F7.r16
attribute [go_sem] F7.r17
attribute [go_sem] F7.r18
attribute [go_sem] F7.r19
attribute [go_sem] F7.r20
attribute [go_sem] F7.r21
attribute [go_sem] F7.r22
attribute [go_sem] F7.r23
attribute [go_sem] F7.r24
attribute [go_sem] F7.r25
attribute [go_sem] F7.r26
attribute [go_sem] F7.r27
attribute [go_sem] F7.r28
attribute [go_sem] F7.r29
attribute [go_sem] F8.r0
attribute [go_sem] F8.r1
attribute [go_sem] F8.r2
attribute [go_sem] F9.r0
attribute [go_sem] F9.r1
attribute [go_sem] F9.r2
attribute [go_sem] F9.r3
attribute [go_sem] F9.r4
attribute [go_sem] F9.r5
attribute [go_sem] F9.r6
attribute [go_sem] F9.r7
attribute [go_sem] F9.r8
attribute [go_sem] F10.r0
attribute [go_sem] F10.r1
attribute [go_sem] F10.r2
attribute [go_sem] F10.r3
attribute [go_sem] F10.r4
attribute [go_sem] F10.r5
attribute [go_sem] F10.r6
attribute [go_sem] F10.r7
attribute [go_sem] F10.r8
attribute [go_sem] F10.r10
attribute [go_sem] F10.r11
attribute [go_sem] F10.r9
attribute [go_sem] F10.r12
attribute [go_sem] F10.r13
attribute [go_sem] F10.r15
attribute [go_sem] F10.r16
attribute [go_sem] F10.r14
attribute [go_sem] F10.r17
attribute [go_sem] F11.r0
attribute [go_sem] F11.r1
attribute [go_sem] F12.r0
attribute [go_sem] F12.r1
attribute [go_sem] F12.r2
attribute [go_sem] F12.r3
attribute [go_sem] F12.r4
attribute [go_sem] F12.r5
attribute [go_sem] F12.r6
attribute [go_sem] F12.r7
attribute [go_sem] F12.r8
attribute [go_sem] F12.r9
attribute [go_sem] F12.r10
attribute [go_sem] F12.r11
attribute [go_sem] F12.r12
attribute [go_sem] F12.r13
attribute [go_sem] F12.r14
attribute [go_sem] F13.r0
attribute [go_sem] F13.r1
attribute [go_sem] F13.r2
attribute [go_sem] F13.r3
attribute [go_sem] F13.r4
attribute [go_sem] F13.r5
attribute [go_sem] F13.r6
attribute [go_sem] F14.r0
attribute [go_sem] F14.r1
attribute [go_sem] F14.r2
attribute [go_sem] F14.r3
attribute [go_sem] F14.r4
attribute [go_sem] F14.r5
attribute [go_sem] F14.r6
attribute [go_sem] F14.r7
attribute [go_sem] F14.r8
attribute [go_sem] F14.r9
attribute [go_sem] F14.r10
attribute [go_sem] F14.r11
attribute [go_sem] F14.r12
attribute [go_sem] F14.r13
attribute [go_sem] F14.r14
attribute [go_sem] F14.r15
attribute [go_sem] F14.r16
attribute [go_sem] F14.r17
attribute [go_sem] F14.r18
attribute [go_sem] F14.r19
attribute [go_sem] F14.r20
attribute [go_sem] F15.r0
attribute [go_sem] F15.r1
attribute [go_sem] F15.r2
attribute [go_sem] F15.r3
attribute [go_sem] F15.r4
attribute [go_sem] F15.r6
attribute [go_sem] F15.r5
attribute [go_sem] F15.r7
attribute [go_sem] F16.r0
attribute [go_sem] F16.r1
attribute [go_sem] F17.r0
attribute [go_sem] F17.r1
attribute [go_sem] F17.r2
attribute [go_sem] F17.r3
attribute [go_sem] F17.r4
attribute [go_sem] F17.r5
attribute [go_sem] F17.r6
attribute [go_sem] F17.r7
attribute [go_sem] F18.r0
attribute [go_sem] F18.r1
attribute [go_sem] F18.r2
attribute [go_sem] F18.r3
attribute [go_sem] F18.r4
attribute [go_sem] F18.r5
attribute [go_sem] F18.r6
attribute [go_sem] F18.r7
attribute [go_sem] F18.r8
attribute [go_sem] F18.r9
attribute [go_sem] F18.r10
attribute [go_sem] F18.r11
attribute [go_sem] F18.r12
attribute [go_sem] F18.r13
attribute [go_sem] F18.r14
attribute [go_sem] F18.r15
attribute [go_sem] F18.r16
attribute [go_sem] F18.r17
attribute [go_sem] F18.r18
attribute [go_sem] F18.r19
attribute [go_sem] F18.r20
attribute [go_sem] F18.r21
attribute [go_sem] F18.r22
attribute [go_sem] F18.r23
attribute [go_sem] F18.r24
attribute [go_sem] F18.r25
attribute [go_sem] F18.r26
attribute [go_sem] F19.r0
attribute [go_sem] F19.r1
attribute [go_sem] F19.r2
attribute [go_sem] F19.r3
attribute [go_sem] F20.r0
attribute [go_sem] F21.r0
attribute [go_sem] F22.r0
attribute [go_sem] F23.r0
attribute [go_sem] F23.r1
attribute [go_sem] F23.r2
attribute [go_sem] F23.r3
attribute [go_sem] F23.r4
attribute [go_sem] F23.r5
attribute [go_sem] F24.r0
attribute [go_sem] F24.r1
attribute [go_sem] F24.r2
attribute [go_sem] F24.r3
attribute [go_sem] F24.r4
attribute [go_sem] F24.r6
attribute [go_sem] F24.r7
attribute [go_sem] F24.r5
attribute [go_sem] F24.r8
attribute [go_sem] F25.r0
attribute [go_sem] F25.r1
attribute [go_sem] F25.r2
attribute [go_sem] F25.r3
attribute [go_sem] F25.r4
attribute [go_sem] F25.r5
attribute [go_sem] F25.r6
attribute [go_sem] F25.r7
attribute [go_sem] F26.r0
attribute [go_sem] F26.r1
attribute [go_sem] F27.r0
attribute [go_sem] F27.r1
attribute [go_sem] F28.r0
attribute [go_sem] F28.r1
attribute [go_sem] F29.r0
attribute [go_sem] F29.r1
attribute [go_sem] F30.r0
attribute [go_sem] F30.r1
attribute [go_sem] F31.r0
attribute [go_sem] F31.r1
attribute [go_sem] F32.r0
attribute [go_sem] F32.r1
attribute [go_sem] F33.r0
attribute [go_sem] F33.r1
attribute [go_sem] F34.r0
attribute [go_sem] F34.r1
attribute [go_sem] F35.r0
attribute [go_sem] F35.r1
attribute [go_sem] F36.r0
attribute [go_sem] F36.r1
attribute [go_sem] F37.r0
attribute [go_sem] F37.r1
attribute [go_sem] F38.r0
attribute [go_sem] F38.r1
attribute [go_sem] F39.r0
attribute [go_sem] F39.r1
attribute [go_sem] F40.r0
attribute [go_sem] F40.r1
attribute [go_sem] F41.r0
attribute [go_sem] F41.r1
attribute [go_sem] F42.r0
attribute [go_sem] F42.r1
attribute [go_sem] F43.r0
attribute [go_sem] F43.r1
attribute [go_sem] F44.r0
attribute [go_sem] F44.r1
attribute [go_sem] F45.r0
attribute [go_sem] F45.r1
attribute [go_sem] F46.r0
attribute [go_sem] F46.r1
attribute [go_sem] F47.r0
attribute [go_sem] F47.r1
attribute [go_sem] F47.r2
attribute [go_sem] F47.r3
attribute [go_sem] F47.r4
attribute [go_sem] F47.r5
attribute [go_sem] F47.r6
attribute [go_sem] F47.r7
attribute [go_sem] F47.r8
attribute [go_sem] F47.r9
attribute [go_sem] F47.r10
attribute [go_sem] F47.r11
attribute [go_sem] F47.r12
attribute [go_sem] F48.r0
attribute [go_sem] F48.r1
attribute [go_sem] F48.r2
attribute [go_sem] F48.r3
attribute [go_sem] F48.r4
attribute [go_sem] F48.r5
attribute [go_sem] F48.r6
attribute [go_sem] F49.r0
attribute [go_sem] F49.r1
attribute [go_sem] F49.r2
attribute [go_sem] F49.r3
attribute [go_sem] F49.r4
attribute [go_sem] F49.r5
attribute [go_sem] F49.r6
attribute [go_sem] F50.r0
attribute [go_sem] F50.r1
attribute [go_sem] F50.r2
attribute [go_sem] F50.r3
attribute [go_sem] F50.r4
attribute [go_sem] F50.r5
attribute [go_sem] F50.r6
attribute [go_sem] F51.r0
attribute [go_sem] F51.r1
attribute [go_sem] F51.r2
attribute [go_sem] F51.r3
attribute [go_sem] F51.r4
attribute [go_sem] F51.r5
attribute [go_sem] F51.r6
attribute [go_sem] F51.r7
attribute [go_sem] F51.r8
attribute [go_sem] F51.r9
attribute [go_sem] F51.r10
attribute [go_sem] F52.r0
attribute [go_sem] F52.r1
attribute [go_sem] F52.r2
attribute [go_sem] F52.r3
attribute [go_sem] F52.r4
attribute [go_sem] F52.r5
attribute [go_sem] F52.r6
attribute [go_sem] F52.r7
attribute [go_sem] F52.r8
attribute [go_sem] F52.r9
attribute [go_sem] F52.r10
attribute [go_sem] F53.r0
attribute [go_sem] F53.r1
attribute [go_sem] F53.r2
attribute [go_sem] F53.r3
attribute [go_sem] F53.r4
attribute [go_sem] F53.r5
attribute [go_sem] F53.r6
attribute [go_sem] F53.r7
attribute [go_sem] F53.r8
attribute [go_sem] F53.r9
attribute [go_sem] F53.r10
attribute [go_sem] F54.r0
attribute [go_sem] F54.r1
attribute [go_sem] F55.r0
attribute [go_sem] F55.r1
attribute [go_sem] F56.r0
attribute [go_sem] F57.r0
attribute [go_sem] F58.r0
attribute [go_sem] F63.r0
attribute [go_sem] F63.r1
attribute [go_sem] F64.r0
attribute [go_sem] F64.r1
attribute [go_sem] F65.r0
attribute [go_sem] F66.r0
attribute [go_sem] F66.r1
attribute [go_sem] F66.r2
attribute [go_sem] F66.r3
attribute [go_sem] F66.r4
attribute [go_sem] F66.r5
attribute [go_sem] F66.r6
attribute [go_sem] F66.r7
attribute [go_sem] F67.r0
attribute [go_sem] F68.r0
attribute [go_sem] F68.r1
attribute [go_sem] F68.r2
attribute [go_sem] F68.r3
attribute [go_sem] F68.r4
attribute [go_sem] F68.r5
attribute [go_sem] F68.r6
attribute [go_sem] F68.r7
attribute [go_sem] F68.r8
attribute [go_sem] F68.r9
attribute [go_sem] F68.r10
attribute [go_sem] F69.r0
attribute [go_sem] F74.r0
attribute [go_sem] F75.r0
attribute [go_sem] F76.r0
attribute [go_sem] F79.r0
attribute [go_sem] F80.r0
attribute [go_sem] F81.r0
attribute [go_sem] F84.r0
attribute [go_sem] F85.r0
attribute [go_sem] F86.r0
attribute [go_sem] F87.r0
attribute [go_sem] F87.r1
attribute [go_sem] F88.r0
attribute [go_sem] F91.r0
attribute [go_sem] F91.r1
attribute [go_sem] F92.r0
attribute [go_sem] F92.r1
attribute [go_sem] F93.r0
attribute [go_sem] F94.r0
attribute [go_sem] F94.r1
attribute [go_sem] F94.r2
attribute [go_sem] F94.r3
attribute [go_sem] F94.r4
attribute [go_sem] F94.r5
attribute [go_sem] F94.r6
attribute [go_sem] F94.r7
attribute [go_sem] F94.r8
attribute [go_sem] F95.r0
attribute [go_sem] F96.r0
attribute [go_sem] F96.r1
attribute [go_sem] F96.r2
attribute [go_sem] F96.r3
attribute [go_sem] F101.r0
attribute [go_sem] F102.r0
attribute [go_sem] F102.r1
attribute [go_sem] F102.r2
attribute [go_sem] F102.r3
attribute [go_sem] F102.r4
attribute [go_sem] F103.r0
attribute [go_sem] F104.r0
attribute [go_sem] F104.r1
attribute [go_sem] F104.r2
attribute [go_sem] F104.r3
attribute [go_sem] F104.r4
attribute [go_sem] F104.r5
attribute [go_sem] F104.r6
attribute [go_sem] F104.r7
attribute [go_sem] F104.r8
attribute [go_sem] F104.r9
attribute [go_sem] F105.r0
attribute [go_sem] F110.r0
attribute [go_sem] F110.r1
attribute [go_sem] F110.r2
attribute [go_sem] F110.r3
attribute [go_sem] F110.r4
attribute [go_sem] F110.r5
attribute [go_sem] F110.r6
attribute [go_sem] F111.r0
attribute [go_sem] F111.r1
attribute [go_sem] F111.r2
attribute [go_sem] F111.r3
attribute [go_sem] F111.r4
attribute [go_sem] F111.r5
attribute [go_sem] F111.r6
attribute [go_sem] F112.r0
attribute [go_sem] F112.r1
attribute [go_sem] F112.r2
attribute [go_sem] F112.r3
attribute [go_sem] F112.r4
attribute [go_sem] F112.r5
attribute [go_sem] F112.r6
attribute [go_sem] F117.r0
attribute [go_sem] F117.r1
attribute [go_sem] F117.r2
attribute [go_sem] F117.r3
attribute [go_sem] F117.r4
attribute [go_sem] F117.r5
attribute [go_sem] F117.r6
attribute [go_sem] F117.r7
attribute [go_sem] F117.r8
attribute [go_sem] F117.r9
attribute [go_sem] F117.r10
attribute [go_sem] F118.r0
attribute [go_sem] F118.r1
attribute [go_sem] F118.r2
attribute [go_sem] F118.r3
attribute [go_sem] F118.r4
attribute [go_sem] F125.r0
attribute [go_sem] F125.r1
attribute [go_sem] F125.r2
attribute [go_sem] F125.r3
attribute [go_sem] F125.r4
attribute [go_sem] F125.r5
attribute [go_sem] F125.r6
attribute [go_sem] F126.r0
attribute [go_sem] F126.r1
attribute [go_sem] F126.r2
attribute [go_sem] F126.r3
attribute [go_sem] F126.r4
attribute [go_sem] F126.r5
attribute [go_sem] F126.r6
attribute [go_sem] F126.r7
attribute [go_sem] F126.r8
attribute [go_sem] F126.r9
attribute [go_sem] F126.r10
attribute [go_sem] F130.r0
attribute [go_sem] F130.r1
attribute [go_sem] F131.r0
attribute [go_sem] F131.r1
attribute [go_sem] F132.r0
attribute [go_sem] F132.r1
attribute [go_sem] F133.r0
attribute [go_sem] F134.r0
attribute [go_sem] F134.r1
attribute [go_sem] F134.r2
attribute [go_sem] F134.r3
attribute [go_sem] F134.r4
attribute [go_sem] F134.r5
attribute [go_sem] F135.r0
attribute [go_sem] F136.r0
attribute [go_sem] F136.r1
attribute [go_sem] F136.r2
attribute [go_sem] F136.r3
attribute [go_sem] F136.r4
attribute [go_sem] F136.r5
attribute [go_sem] F136.r6
attribute [go_sem] F136.r7
attribute [go_sem] F136.r8
attribute [go_sem] F136.r9
attribute [go_sem] F136.r10
attribute [go_sem] F137.r0
attribute [go_sem] F138.r0
attribute [go_sem] F138.r1
attribute [go_sem] F138.r2
attribute [go_sem] F138.r3
attribute [go_sem] F143.r0
attribute [go_sem] F143.r1
attribute [go_sem] F144.r0
attribute [go_sem] F144.r1
attribute [go_sem] F145.r0
attribute [go_sem] F145.r1
attribute [go_sem] F145.r2
attribute [go_sem] F145.r3
attribute [go_sem] F145.r4
attribute [go_sem] F145.r5
attribute [go_sem] F146.r0
attribute [go_sem] F146.r1
attribute [go_sem] F147.r0
attribute [go_sem] F147.r1
attribute [go_sem] F148.r0
attribute [go_sem] F148.r1
attribute [go_sem] F148.r2
attribute [go_sem] F148.r3
attribute [go_sem] F148.r4
attribute [go_sem] F148.r5
attribute [go_sem] F148.r6
attribute [go_sem] F148.r7
attribute [go_sem] F148.r8
attribute [go_sem] F148.r9
attribute [go_sem] F148.r10
attribute [go_sem] F149.r0
attribute [go_sem] F149.r1
attribute [go_sem] F150.r0
attribute [go_sem] F151.r0
attribute [go_sem] F151.r1
attribute [go_sem] F151.r2
attribute [go_sem] F151.r3
attribute [go_sem] F156.r0
attribute [go_sem] F156.r1
attribute [go_sem] F157.r0
attribute [go_sem] F158.r0
attribute [go_sem] F158.r1
attribute [go_sem] F158.r2
attribute [go_sem] F158.r3
attribute [go_sem] F159.r0
attribute [go_sem] F160.r0
attribute [go_sem] F160.r1
attribute [go_sem] F160.r2
attribute [go_sem] F160.r3
attribute [go_sem] F160.r4
attribute [go_sem] F161.r0
attribute [go_sem] F174.r0
attribute [go_sem] F174.r1
attribute [go_sem] F174.r2
attribute [go_sem] F174.r3
attribute [go_sem] F174.r4
attribute [go_sem] F174.r5
attribute [go_sem] F174.r6
attribute [go_sem] F174.r7
attribute [go_sem] F175.r0
attribute [go_sem] F177.r0
attribute [go_sem] F177.r1
attribute [go_sem] F177.r2
attribute [go_sem] F177.r3
attribute [go_sem] F177.r4
attribute [go_sem] F177.r5
attribute [go_sem] F177.r6
attribute [go_sem] F178.r0
attribute [go_sem] F178.r1
attribute [go_sem] F178.r2
attribute [go_sem] F178.r3
attribute [go_sem] F178.r4
attribute [go_sem] F178.r5
attribute [go_sem] F178.r6
attribute [go_sem] F178.r7
attribute [go_sem] F178.r8
attribute [go_sem] F178.r9
attribute [go_sem] F178.r10
attribute [go_sem] F178.r11
attribute [go_sem] F178.r12
attribute [go_sem] F178.r13
attribute [go_sem] F178.r14
attribute [go_sem] F178.r15
attribute [go_sem] F179.r0
attribute [go_sem] F179.r1
attribute [go_sem] F179.r2
attribute [go_sem] F179.r3
attribute [go_sem] F179.r4
attribute [go_sem] F179.r5
attribute [go_sem] F179.r6
attribute [go_sem] F179.r7
attribute [go_sem] F179.r8
attribute [go_sem] F179.r9
attribute [go_sem] F180.r0
attribute [go_sem] F180.r1
attribute [go_sem] F180.r2
attribute [go_sem] F180.r3
attribute [go_sem] F181.r0
attribute [go_sem] F181.r1
attribute [go_sem] F181.r2
attribute [go_sem] F181.r3
attribute [go_sem] F181.r4
attribute [go_sem] F181.r5
attribute [go_sem] F181.r6
attribute [go_sem] F181.r7
attribute [go_sem] F181.r8
attribute [go_sem] F181.r9
attribute [go_sem] F181.r10
attribute [go_sem] F181.r11
attribute [go_sem] F181.r12
attribute [go_sem] F181.r13
attribute [go_sem] F181.r14
attribute [go_sem] F181.r15
attribute [go_sem] F181.r16
attribute [go_sem] F181.r17
attribute [go_sem] F181.r18
attribute [go_sem] F181.r19
attribute [go_sem] F198.r0
attribute [go_sem] F198.r1
attribute [go_sem] F198.r2
attribute [go_sem] F198.r3
attribute [go_sem] F198.r4
attribute [go_sem] F198.r5
attribute [go_sem] F198.r6

end Go.Proofs.YtmiohkmcnppaeaaGreatDoor

namespace Go.Proofs.YtmiohkmcnppaeaaGreatDoor
open Go
set_option linter.unusedVariables false
set_option linter.unusedSimpArgs false
set_option maxRecDepth 100000

/-! ### The tables -/

def Tabs : HP := fun h =>
  (∃ cur T fr, h 3 = some (.cells cur T fr) ∧ ∀ c, c < 256 → cur[c]? = some (.int .u8 (Lib.firstT c))) ∧
  (∃ cur T fr, h 4 = some (.cells cur T fr) ∧ ∀ i, i < 16 → cur[2 * i]? = some (.int .u8 (Lib.accLo i)) ∧ cur[2 * i + 1]? = some (.int .u8 (Lib.accHi i)))

theorem cell_of {w : World} {b : Nat} {cur : Array Value} {T : TypeId} {fr : Nat × Nat} (h : heapOf w b = some (.cells cur T fr)) (i : Nat) : w.cell? ⟨b, i, none⟩ = cur[i]? := by
  have : w.heap[b]? = some (.cells cur T fr) := h
  simp [World.cell?, this]

section
variable {w0 w : World} {A : HP}
theorem St.tabs (h : St w0 A w) [i : Gives A Tabs] : Lib.Utf8Tabs 3 4 w := by
  obtain ⟨x, l, ⟨c1, T1, f1, h1, k1⟩, ⟨c2, T2, f2, h2, k2⟩⟩ := (h.ent i.ent).sat
  exact ⟨fun c hc => by rw [cell_of (l _ _ h1), k1 c hc], fun j hj => by rw [cell_of (l _ _ h2), cell_of (l _ _ h2)]; exact k2 j hj⟩
end

section
variable {w0 w : World} {A : HP}
theorem decode_lib (h : St w0 A w) [i : Gives A Tabs] {l : List UInt8} :
    Calls Tryz.prog 169 #[.string (strOf l)] w fun e w' => St w0 A w' ∧ e = .returned (.tuple #[.int .i32 (if l = [] then 65533 else (decL l).1 : Nat), .int .i64 (if l = [] then 0 else (decL l).2 : Nat)]) := by
  refine (Any.utf8_DecodeRuneInString layDecode (strOf l) w h.tabs).mono ?_
  rintro e w' ⟨rfl, hb⟩
  refine ⟨h.of_below hb, ?_⟩
  have : Lib.decodeGo (strOf l) = if l = [] then (65533, 0) else decL l := by
    unfold Lib.decodeGo
    rw [strOf_size, decode_strOf]
    by_cases e : l = []
    · simp [e]
    · have : l.length ≠ 0 := fun h => e (List.eq_nil_of_length_eq_zero h)
      simp [e, this]
  rw [this]
  split <;> rfl
end

/-! ### Is it a text? -/

/-- No character of it is NUL, or none. -/
def good (l : List UInt8) : Bool := (chs l).all fun x => !(x.1 == 0) && !(x.1 == 65533 && x.2 == 1)
theorem good_nil : good [] = true := rfl
theorem good_cons {l : List UInt8} (h : l ≠ []) : good l = ((!((decL l).1 == 0) && !((decL l).1 == 65533 && (decL l).2 == 1)) && good (l.drop (decL l).2)) := by
  unfold good
  rw [chs_cons h, List.all_cons]

section
attribute [local go_sem] F117.t6_eq F117.t3_eq F117.t10_eq
theorem bad_any {w0 w : World} {A : HP} (h : St w0 A w) [Gives A Tabs] {l : List UInt8} (hl : l.length ≤ 9223372036854775807) :
    Calls Tryz.prog 117 #[.string (strOf l)] w fun e w' => St w0 A w' ∧ ∃ k : Int, e = .returned (.int .i64 k) ∧ decide (k < 0) = good l := by
  refine F117.calls (by simp) ?_
  unfold F117.code
  simp -dsimp -implicitDefEqProofs (disch := omega) only [go_sem, reqD_of, dec_t, dec_f, wrap_i64, wrap_u32, wrap_u64, wrap_u8]
  refine h.rangeS (by kernel_rfl) fun r w1 h1 => ?_
  simp -dsimp -implicitDefEqProofs (disch := omega) only [go_sem, reqD_of, dec_t, dec_f, wrap_i64, wrap_u32, wrap_u64, wrap_u8]
  refine loop_intro (fun e w' => e.ds = [] ∧ e.ρ 0 = .string (strOf l) ∧ e.ρ 8 = .pointer (some ⟨r, 0, none⟩) ∧ ∃ pos : Nat, pos ≤ l.length ∧ good l = good (l.drop pos) ∧ St w0 (Blk r (.stringIter (strOf l) pos) * A) w')
    (fun e w' => match w'.heap[r]? with | some (.stringIter _ p) => l.length - p | _ => 0) ?_ ?_
  · exact ⟨rfl, by simp -dsimp -implicitDefEqProofs only [go_sem], by simp -dsimp -implicitDefEqProofs only [go_sem], 0, by omega, by simp, h1⟩
  · clear h1 h
    rintro e w2 ⟨hd, e0, e8, pos, hpos, hg, h2⟩
    simp -dsimp -implicitDefEqProofs (disch := omega) only [go_sem, reqD_of, dec_t, dec_f, wrap_i64, wrap_u32, wrap_u64, wrap_u8, hd, e0, e8]
    refine h2.nextS (fun hn => ?_) fun hm w3 h3 => ?_
    · have : l.drop pos = [] := List.drop_of_length_le (by omega)
      rw [this] at hg
      simp -dsimp -implicitDefEqProofs (disch := omega) only [go_sem, reqD_of, dec_t, dec_f, wrap_i64, wrap_u32, wrap_u64, wrap_u8, hd, e0, e8]
      exact ⟨h2.right, _, rfl, by rw [hg]; rfl⟩
    · have hne : l.drop pos ≠ [] := fun e => by have := congrArg List.length e; simp at this; omega
      have hw := decL_width _ hne
      have hle := decL_le (l.drop pos)
      have hdl : (l.drop pos).length = l.length - pos := by simp
      rw [good_cons hne, List.drop_drop] at hg
      obtain ⟨c, hc⟩ : ∃ c, c = (decL (l.drop pos)).1 := ⟨_, rfl⟩
      obtain ⟨n, hn⟩ : ∃ n, n = (decL (l.drop pos)).2 := ⟨_, rfl⟩
      rw [← hc] at hle hg
      rw [← hn] at hg hw h3
      rw [← hc]
      have m2 := h2.blk
      have m3 := h3.blk
      by_cases c0 : (c : Int) = 0
      · have : c = 0 := by omega
        simp -dsimp -implicitDefEqProofs (disch := omega) only [go_sem, reqD_of, dec_t, dec_f, wrap_i64, wrap_u32, wrap_u64, wrap_u8, hd, e0, e8, c0]
        exact ⟨h3.right, _, rfl, by rw [hg, this]; simp⟩
      · have c0' : ¬ c = 0 := by omega
        by_cases c1 : (c : Int) = 65533
        · have : c = 65533 := by omega
          simp -dsimp -implicitDefEqProofs (disch := omega) only [go_sem, reqD_of, dec_t, dec_f, wrap_i64, wrap_u32, wrap_u64, wrap_u8, hd, e0, e8, c0, c1]
          refine (decode_lib (l := l.drop pos) h3).mono ?_
          rintro e' w4 ⟨h4, rfl⟩
          have m4 := h4.blk
          simp only [hne, if_false, ← hn, ← hc]
          by_cases n1 : (n : Int) = 1
          · have : n = 1 := by omega
            simp -dsimp -implicitDefEqProofs (disch := omega) only [go_sem, reqD_of, dec_t, dec_f, wrap_i64, wrap_u32, wrap_u64, wrap_u8, hd, e0, e8, n1]
            exact ⟨h4.right, _, rfl, by rw [hg, this, ‹c = 65533›]; simp⟩
          · have : ¬ n = 1 := by omega
            simp -dsimp -implicitDefEqProofs (disch := omega) only [go_sem, reqD_of, dec_t, dec_f, wrap_i64, wrap_u32, wrap_u64, wrap_u8, hd, e0, e8, n1, m2, m4]
            exact ⟨⟨pos + n, by omega, by rw [hg]; simp [c0', this], h4⟩, by omega⟩
        · have : ¬ c = 65533 := by omega
          simp -dsimp -implicitDefEqProofs (disch := omega) only [go_sem, reqD_of, dec_t, dec_f, wrap_i64, wrap_u32, wrap_u64, wrap_u8, hd, e0, e8, c0, c1, m2, m3]
          exact ⟨⟨pos + n, by omega, by rw [hg]; simp [c0', this], h3⟩, by omega⟩

end

theorem good_any {w0 w : World} {A : HP} (h : St w0 A w) [Gives A Tabs] {l : List UInt8} (hl : l.length ≤ 9223372036854775807) :
    Calls Tryz.prog 64 #[.string (strOf l)] w fun e w' => St w0 A w' ∧ e = .returned (.bool (good l)) := by
  refine F64.calls (by simp) ?_
  unfold F64.code
  simp -dsimp -implicitDefEqProofs (disch := omega) only [go_sem, reqD_of, dec_t, dec_f, wrap_i64, wrap_u32, wrap_u64, wrap_u8]
  refine (bad_any h hl).mono ?_
  rintro e w1 ⟨h1, k, rfl, hk⟩
  simp -dsimp -implicitDefEqProofs (disch := omega) only [go_sem, reqD_of, dec_t, dec_f, wrap_i64, wrap_u32, wrap_u64, wrap_u8, hk]
  exact h1
end Go.Proofs.YtmiohkmcnppaeaaGreatDoor

namespace Go.Proofs.YtmiohkmcnppaeaaGreatDoor
open Go

theorem St.below0 {w0 w : World} (h : St w0 (Old w0) w) : RowKit.Below w0.heap.size w0 w := by
  refine ⟨h.os, h.tape, h.output, h.size, fun k hk => ?_⟩
  obtain ⟨x, l, a⟩ := h.sat
  have := l k _ (a k _ (Array.getElem?_eq_getElem hk))
  rw [Array.getElem?_eq_getElem hk]
  exact this

end Go.Proofs.YtmiohkmcnppaeaaGreatDoor

namespace Go.Proofs.YtmiohkmcnppaeaaGreatDoor
open Go
open Go.RowKit
set_option linter.unusedVariables false
set_option linter.unusedSimpArgs false

section
variable {H : Type} {enc : TypeId × Value → H}
theorem returns_laid {a : Assume} {C : Checked} {os : Os} {f : FuncId} {fn : Func} {s : ChangeSpec} {conds : List PathCond} {apart fresh handsOn again : Bool} {laid : List (String × DataW Unit)}
    (own : ownKnob C.prog.godebug = none) (started : os.Started) (noInit : C.prog.inits.idxOf? f = none) (hfn : C.prog.funcs[f]? = some fn)
    (witness : ∃ (w : World) (tape : Tape) (i : Input), w.os = os ∧ (w.forCall tape i).Shaped C.prog ∧ i.vars = [] ∧ Input.okWide C.prog (w.forCall tape i) .any w.heap.size f i ∧
      ((s.pre enc C.prog fn conds apart (w.forCall tape i).memory i.args ∧ laidMetH C.prog laid (w.forCall tape i).memory) ∧ sizedMet enc C.prog fn (OpenSpec.ofChange s) apart (w.forCall tape i).memory i.args) ∧ a.holds C.prog (lone (Frame.enter C.prog f i.args .normal) [] (w.forCall tape i)))
    (contract : ∀ (W : World) (base : Nat) (args : Array Value) (ds gs : List (DataW H)) (before : List MemPlace),
      (∀ (j : Nat) t v, fn.params[j]? = some t → args[j]? = some v → Value.okWide C.prog W .any base t v) →
      DataW.Whole enc C.prog fn.params.toList s.vars apart W args.toList ds gs before →
      conds.all (PathCond.test C.prog ⟨fn.params.toList, ds, s.plain.varTypes C.prog, gs⟩) = true →
      (DataW.weightsEach C.prog (fn.params.toList ++ s.plain.varTypes C.prog) (ds ++ gs)).all (· ≤ reachBytes) = true →
      laidMetH C.prog laid W → W.ShapedOpen C.prog →
      a.holds C.prog (lone (Frame.enter C.prog f args .normal) [] W) →
      Calls C.prog f args W fun e W' => ∃ v, e = .returned v ∧ s.post enc C.prog fn apart fresh handsOn again W args v W') :
    ReturnsInHanded a C os f .any (fun w args => (s.pre enc C.prog fn conds apart w args ∧ laidMetH C.prog laid w) ∧ sizedMet enc C.prog fn (OpenSpec.ofChange s) apart w args) (s.post enc C.prog fn apart fresh handsOn again) := by
  refine returnsInHanded_of_calls own started noInit witness ?_
  intro w tape i _ hsh _ hok hpre hholds
  obtain ⟨_, _, _, fn', hfn', _, _, _, _, hval⟩ := hok
  have e : fn' = fn := Option.some.inj (hfn'.symm.trans hfn)
  subst e
  obtain ⟨⟨⟨ds, gs, before, hw, hc⟩, hx⟩, hz⟩ := hpre
  have hw' := DataW.Whole.of_heap (w' := w.forCall tape i) (by rfl) hw
  refine (contract (w.forCall tape i) w.heap.size i.args ds gs before hval hw' hc (hz.weights hw) (hx.of_heap (by rfl)) hsh hholds).mono fun e W' ⟨v, he, hp⟩ => ?_
  subst he
  exact ChangeSpec.post_blind hp
end

abbrev laidU8 : List (String × DataW Unit) := [("math/bits.deBruijn32tab", Rows.laid_math_bits_deBruijn32tab), ("math/bits.deBruijn64tab", Rows.laid_math_bits_deBruijn64tab), ("internal/strconv.uint64pow10", Rows.laid_internal_strconv_uint64pow10), ("unicode/utf8.acceptRanges", Rows.laid_unicode_utf8_acceptRanges), ("strconv.ErrRange", Rows.laid_strconv_ErrRange), ("strconv.ErrSyntax", Rows.laid_strconv_ErrSyntax), ("unicode/utf8.first", Rows.laid_unicode_utf8_first)]
theorem accept_eq : (Rows.laid_unicode_utf8_acceptRanges : DataW Unit) = Lib.acceptData := by kernel_rfl
theorem first_eq : Rows.laid_unicode_utf8_first = Lib.firstData := Pinned.utf8First_eq

theorem block_of_cell {w : World} {b i : Nat} {v : Value} (h : w.cell? ⟨b, i, none⟩ = some v) : ∃ cur T fr, heapOf w b = some (.cells cur T fr) := by
  unfold heapOf
  simp only [World.cell?] at h
  split at h
  · rename_i cs t f e; exact ⟨_, _, _, e⟩
  · cases h
theorem cell_at {w : World} {b i : Nat} {v : Value} {cur : Array Value} {T : TypeId} {fr : Nat × Nat} (h : w.cell? ⟨b, i, none⟩ = some v) (k : heapOf w b = some (.cells cur T fr)) : cur[i]? = some v := by
  rw [cell_of k] at h; exact h

theorem tabs_old {W : World} (hL : laidMetH Tryz.prog laidU8 W) (hs : W.ShapedOpen Tryz.prog) : Ent (Old W) Tabs := by
  have hM : laidMet Tryz.prog laidU8 W := by rwa [MakeChecks.laidMetH_plain _ _ _ (by kernel_rfl)] at hL
  have h4 : Lib.VarReads Tryz.prog W "unicode/utf8.acceptRanges" Lib.acceptData := accept_eq ▸ Lib.laidMet.reads hM (by simp [laidU8])
  have h3 : Lib.VarReads Tryz.prog W "unicode/utf8.first" Lib.firstData := first_eq ▸ Lib.laidMet.reads hM (by simp [laidU8])
  have ht : Lib.Utf8Tabs 3 4 W := utf8Tabs_of_reads (ρ := layDecode_ren) { layDecode with } ⟨by kernel_rfl, by kernel_rfl, by kernel_rfl, by kernel_rfl, by kernel_rfl, by kernel_rfl, by kernel_rfl⟩ h3 h4
  obtain ⟨c1, T1, f1, k1⟩ := block_of_cell (ht.1 0 (by omega))
  obtain ⟨c2, T2, f2, k2⟩ := block_of_cell (ht.2 0 (by omega)).1
  refine Ent.of fun h a => ⟨⟨c1, T1, f1, a _ _ k1, fun c hc => cell_at (ht.1 c hc) k1⟩, ⟨c2, T2, f2, a _ _ k2, fun i hi => ⟨cell_at (ht.2 i hi).1 k2, cell_at (ht.2 i hi).2 k2⟩⟩⟩

noncomputable abbrev laidWorld (os : Os) : World := World.laidAll Tryz.prog os laidU8
theorem laidWorld_met (os : Os) (args : Array Value) : laidMetH Tryz.prog laidU8 ((laidWorld os).forCall (fun _ _ => 0) ⟨#[], args, []⟩).memory := by
  rw [MakeChecks.laidMetH_plain _ _ _ (by kernel_rfl)]
  exact laidMet_laidAll _ (by kernel_rfl) (by kernel_rfl)
theorem laidWorld_shaped (os : Os) (args : Array Value) : ((laidWorld os).forCall (fun _ _ => 0) ⟨#[], args, []⟩).Shaped Tryz.prog :=
  World.shaped_of_ZipB (by kernel_rfl) (by kernel_rfl)
end Go.Proofs.YtmiohkmcnppaeaaGreatDoor

namespace Go.Proofs.YtmiohkmcnppaeaaGreatDoor
open Go
set_option linter.unusedVariables false
set_option linter.unusedSimpArgs false

/-- A number, its lowest byte first. -/
def leN : Nat → Nat → List UInt8
  | 0, _ => []
  | w + 1, n => UInt8.ofNat (n % 256) :: leN w (n / 256)
theorem leN_length : ∀ (w n : Nat), (leN w n).length = w
  | 0, _ => rfl
  | w + 1, n => by simp [leN, leN_length w]
def deN : List UInt8 → Nat
  | [] => 0
  | b :: l => b.toNat + 256 * deN l
theorem ofNat_toNat {n : Nat} (h : n < 256) : (UInt8.ofNat n).toNat = n := by
  simp only [UInt8.toNat_ofNat']
  omega
theorem deN_leN : ∀ (w n : Nat), deN (leN w n) = n % 256 ^ w
  | 0, n => by simp [leN, deN, Nat.mod_one]
  | w + 1, n => by
    simp only [leN, deN]
    rw [ofNat_toNat (by omega), deN_leN w (n / 256), Nat.pow_succ, Nat.mul_comm (256 ^ w) 256, Nat.mod_mul]
theorem deN_lt : ∀ l : List UInt8, deN l < 256 ^ l.length
  | [] => by simp [deN]
  | b :: l => by
    have := deN_lt l
    have hb := b.toNat_lt
    simp only [deN, List.length_cons, Nat.pow_succ]
    omega
theorem deN_append : ∀ (a b : List UInt8), deN (a ++ b) = deN a + 256 ^ a.length * deN b
  | [], b => by simp [deN]
  | x :: a, b => by
    simp only [List.cons_append, deN, deN_append a b, List.length_cons, Nat.pow_succ]
    rw [Nat.mul_add, Nat.mul_comm (256 ^ a.length) 256, Nat.mul_assoc, Nat.add_assoc]
theorem deN_take {l : List UInt8} {i : Nat} (h : i < l.length) : deN (l.take (i + 1)) = deN (l.take i) + 256 ^ i * l[i].toNat := by
  rw [List.take_succ_eq_append_getElem h, deN_append, List.length_take, Nat.min_eq_left (by omega)]
  simp [deN]

/-- A writer. -/
structure WS where
  lim : Nat
  b : List UInt8
  op : List Nat
  err : Int
/-- So many bytes are to be written: is there room? -/
def roomS (n : Nat) (s : WS) : WS := if s.err = 0 ∧ s.lim < s.b.length + n then { s with err := 11 } else s
def hasRoom (n : Nat) (s : WS) : Bool := decide (s.err = 0 ∧ s.b.length + n ≤ s.lim)
def rawS (l : List UInt8) (s : WS) : WS := if hasRoom l.length s = true then { s with b := s.b ++ l } else roomS l.length s
def textS (l : List UInt8) (s : WS) : WS :=
  if s.err ≠ 0 then s else if 65535 < l.length then { s with err := 13 } else if good l = false then { s with err := 12 } else rawS (leN 2 l.length ++ l) s
def openS (s : WS) : WS := if hasRoom 2 s = true then { s with b := s.b ++ [0, 0], op := s.op ++ [s.b.length] } else roomS 2 s
def placeS (s : WS) : Nat := if hasRoom 2 s = true then s.b.length else 0
/-- The count of a part, in its place. -/
def setB (p n : Nat) (b : List UInt8) : List UInt8 := (b.set p (UInt8.ofNat (n % 256))).set (p + 1) (UInt8.ofNat (n / 256 % 256))
def shutS (p : Nat) (s : WS) : WS :=
  if s.err ≠ 0 then s else if 65535 < s.b.length - p - 2 then { s with err := 13 } else { s with b := setB p (s.b.length - p - 2) s.b, op := s.op.dropLast }
theorem setB_at (p q : List UInt8) (n : Nat) (x y : UInt8) : setB p.length n (p ++ x :: y :: q) = p ++ leN 2 n ++ q := by
  unfold setB leN leN leN
  rw [List.set_append_right _ _ (by omega), Nat.sub_self, List.set_cons_zero, List.set_append_right _ _ (by omega), show p.length + 1 - p.length = 1 by omega]
  simp
/-- A piece of a record: bytes, or a text. -/
inductive Pc
  | raw (l : List UInt8)
  | txt (l : List UInt8)
def Pc.bytes : Pc → List UInt8
  | .raw l => l
  | .txt l => leN 2 l.length ++ l
def Pc.ok : Pc → Bool
  | .raw _ => true
  | .txt l => decide (l.length ≤ 65535) && good l
def pcS : Pc → WS → WS
  | .raw l => rawS l
  | .txt l => textS l
def pcsS (ps : List Pc) (s : WS) : WS := ps.foldl (fun s p => pcS p s) s
def bytesL (ps : List Pc) : List UInt8 := ps.flatMap Pc.bytes
theorem rawS_err {l : List UInt8} {s : WS} (h : s.err ≠ 0) : rawS l s = s := by
  unfold rawS roomS hasRoom
  rw [if_neg (by simp [h]), if_neg (by simp [h])]
theorem rawS_ok {l : List UInt8} {s : WS} (h : s.err = 0) (hl : s.b.length + l.length ≤ s.lim) : rawS l s = { s with b := s.b ++ l } := by
  unfold rawS hasRoom
  rw [if_pos (by simp [h, hl])]
theorem rawS_full {l : List UInt8} {s : WS} (h : s.err = 0) (hl : s.lim < s.b.length + l.length) : (rawS l s).err = 11 := by
  unfold rawS roomS hasRoom
  rw [if_neg (by simp; omega), if_pos ⟨h, hl⟩]
theorem pcS_err {p : Pc} {s : WS} (h : s.err ≠ 0) : pcS p s = s := by
  cases p with
  | raw l => exact rawS_err h
  | txt l => show textS l s = s; unfold textS; rw [if_pos h]
theorem pcsS_err {ps : List Pc} {s : WS} (h : s.err ≠ 0) : pcsS ps s = s := by
  induction ps with
  | nil => rfl
  | cons p ps ih => show pcsS ps (pcS p s) = s; rw [pcS_err h]; exact ih
theorem pcS_law {p : Pc} {s : WS} (h : s.err = 0) :
    (p.ok = true ∧ s.b.length + p.bytes.length ≤ s.lim ∧ pcS p s = { s with b := s.b ++ p.bytes }) ∨ (¬ (p.ok = true ∧ s.b.length + p.bytes.length ≤ s.lim) ∧ (pcS p s).err ≠ 0) := by
  cases p with
  | raw l =>
    by_cases hl : s.b.length + l.length ≤ s.lim
    · exact .inl ⟨rfl, hl, rawS_ok h hl⟩
    · refine .inr ⟨fun k => hl k.2, ?_⟩
      show (rawS l s).err ≠ 0
      rw [rawS_full h (by omega)]
      decide
  | txt l =>
    show (_ ∧ _ ∧ textS l s = _) ∨ (_ ∧ (textS l s).err ≠ 0)
    unfold textS
    rw [if_neg (by simp [h])]
    by_cases h1 : 65535 < l.length
    · refine .inr ⟨fun k => ?_, by rw [if_pos h1]; exact (show (13 : Int) ≠ 0 by decide)⟩
      have := k.1
      simp only [Pc.ok, Bool.and_eq_true, decide_eq_true_eq] at this
      omega
    rw [if_neg h1]
    by_cases h2 : good l = false
    · refine .inr ⟨fun k => ?_, by rw [if_pos h2]; exact (show (12 : Int) ≠ 0 by decide)⟩
      have := k.1
      simp only [Pc.ok, Bool.and_eq_true, decide_eq_true_eq, h2] at this
      exact absurd this.2 (by decide)
    rw [if_neg h2]
    have h2' : good l = true := by simpa using h2
    by_cases hl : s.b.length + (leN 2 l.length ++ l).length ≤ s.lim
    · exact .inl ⟨by simp only [Pc.ok, h2', Bool.and_true, decide_eq_true_eq]; omega, hl, rawS_ok h hl⟩
    · refine .inr ⟨fun k => hl k.2, ?_⟩
      rw [rawS_full h (by omega)]
      decide
theorem pcsS_law : ∀ {ps : List Pc} {s : WS}, s.err = 0 → s.b.length ≤ s.lim →
    (ps.all Pc.ok = true ∧ s.b.length + (bytesL ps).length ≤ s.lim ∧ pcsS ps s = { s with b := s.b ++ bytesL ps }) ∨ (¬ (ps.all Pc.ok = true ∧ s.b.length + (bytesL ps).length ≤ s.lim) ∧ (pcsS ps s).err ≠ 0)
  | [], s, h, hs => .inl ⟨rfl, by simpa [bytesL] using hs, by simp [pcsS, bytesL]⟩
  | p :: ps, s, h, hs => by
    have e1 : pcsS (p :: ps) s = pcsS ps (pcS p s) := rfl
    have e2 : bytesL (p :: ps) = p.bytes ++ bytesL ps := rfl
    rw [e1, e2]
    rcases pcS_law (p := p) h with ⟨h1, h2, h3⟩ | ⟨h1, h2⟩
    · rw [h3]
      rcases pcsS_law (ps := ps) (s := { s with b := s.b ++ p.bytes }) h (by simpa using h2) with ⟨k1, k2, k3⟩ | ⟨k1, k2⟩
      · simp only [List.length_append] at k2
        exact .inl ⟨by simp [List.all_cons, h1, k1], by simp only [List.length_append]; omega, by rw [k3]; simp⟩
      · refine .inr ⟨fun k => k1 ⟨?_, ?_⟩, k2⟩
        · have := k.1; simp only [List.all_cons, Bool.and_eq_true] at this; exact this.2
        · have := k.2; simp only [List.length_append] at this ⊢; omega
    · rw [pcsS_err h2]
      refine .inr ⟨fun k => h1 ⟨?_, ?_⟩, h2⟩
      · have := k.1; simp only [List.all_cons, Bool.and_eq_true] at this; exact this.1
      · have := k.2; simp only [List.length_append] at this; omega

/-- A record. -/
structure StatD where
  ty : Nat
  dev : Nat
  qk : Nat
  qv : Nat
  qp : Nat
  mode : Nat
  at' : Nat
  mt : Nat
  len : Nat
  name : List UInt8
  uid : List UInt8
  gid : List UInt8
  muid : List UInt8
def StatD.pcs (d : StatD) : List Pc := [.raw (leN 2 d.ty), .raw (leN 4 d.dev), .raw (leN 1 d.qk), .raw (leN 4 d.qv), .raw (leN 8 d.qp), .raw (leN 4 d.mode), .raw (leN 4 d.at'), .raw (leN 4 d.mt), .raw (leN 8 d.len), .txt d.name, .txt d.uid, .txt d.gid, .txt d.muid]
def StatD.size (d : StatD) : Nat := 49 + d.name.length + d.uid.length + d.gid.length + d.muid.length
def StatD.body (d : StatD) : List UInt8 := bytesL d.pcs
theorem StatD.body_len (d : StatD) : d.body.length + 2 = d.size := by
  simp only [StatD.body, bytesL, StatD.pcs, List.flatMap_cons, List.flatMap_nil, Pc.bytes, List.length_append, leN_length, List.length_nil, StatD.size]
  omega
def StatD.bytes (d : StatD) : List UInt8 := leN 2 (d.size - 2) ++ d.body
theorem StatD.bytes_len (d : StatD) : d.bytes.length = d.size := by
  have := d.body_len
  simp only [StatD.bytes, List.length_append, leN_length]
  omega
def StatD.ok (d : StatD) : Bool := d.pcs.all Pc.ok
/-- A record is put. -/
def statS (d : StatD) (s : WS) : WS := shutS (placeS s) (pcsS d.pcs (openS s))
theorem statS_err {d : StatD} {s : WS} (h : s.err ≠ 0) : (statS d s).err ≠ 0 := by
  have e1 : openS s = s := by unfold openS hasRoom roomS; rw [if_neg (by simp [h]), if_neg (by simp [h])]
  unfold statS shutS
  rw [e1, pcsS_err h, if_pos h]
  exact h
theorem statS_law {d : StatD} {s : WS} (h : s.err = 0) (hs : s.b.length ≤ s.lim) :
    (d.ok = true ∧ s.b.length + d.size ≤ s.lim ∧ d.size ≤ 65537 ∧ statS d s = { s with b := s.b ++ d.bytes }) ∨ (¬ (d.ok = true ∧ s.b.length + d.size ≤ s.lim ∧ d.size ≤ 65537) ∧ (statS d s).err ≠ 0) := by
  have hbl := d.body_len
  by_cases h2 : s.b.length + 2 ≤ s.lim
  · have e1 : openS s = { s with b := s.b ++ [0, 0], op := s.op ++ [s.b.length] } := by unfold openS hasRoom; rw [if_pos (by simp [h, h2])]
    have e2 : placeS s = s.b.length := by unfold placeS hasRoom; rw [if_pos (by simp [h, h2])]
    unfold statS
    rw [e1, e2]
    rcases pcsS_law (ps := d.pcs) (s := { s with b := s.b ++ [0, 0], op := s.op ++ [s.b.length] }) h (by simpa using h2) with ⟨k1, k2, k3⟩ | ⟨k1, k2⟩
    · rw [k3]
      have k2' : s.b.length + 2 + d.body.length ≤ s.lim := by simpa [StatD.body] using k2
      have hn : (s.b ++ [0, 0] ++ bytesL d.pcs).length - s.b.length - 2 = d.size - 2 := by
        show (s.b ++ [0, 0] ++ d.body).length - s.b.length - 2 = d.size - 2
        simp only [List.length_append, List.length_cons, List.length_nil]
        omega
      unfold shutS
      simp only [hn, h]
      rw [if_neg (by simp)]
      by_cases h3 : 65535 < d.size - 2
      · rw [if_pos h3]
        exact .inr ⟨fun k => by omega, (show (13 : Int) ≠ 0 by decide)⟩
      · rw [if_neg h3]
        refine .inl ⟨k1, by omega, by omega, ?_⟩
        have e3 : s.b ++ [0, 0] ++ bytesL d.pcs = s.b ++ (0 : UInt8) :: 0 :: d.body := by simp [StatD.body]
        rw [e3, setB_at]
        simp [StatD.bytes, h]
    · refine .inr ⟨fun k => k1 ⟨k.1, ?_⟩, ?_⟩
      · show (s.b ++ [0, 0]).length + d.body.length ≤ s.lim
        simp only [List.length_append, List.length_cons, List.length_nil]
        omega
      · unfold shutS
        rw [if_pos k2]
        exact k2
  · have e1 : (openS s).err ≠ 0 := by
      unfold openS hasRoom roomS
      rw [if_neg (by simp; omega), if_pos ⟨h, by omega⟩]
      exact (show (11 : Int) ≠ 0 by decide)
    refine .inr ⟨fun k => ?_, ?_⟩
    · have := k.2.1
      have h49 : 49 ≤ d.size := by unfold StatD.size; omega
      omega
    · unfold statS shutS
      rw [pcsS_err e1, if_pos e1]
      exact e1
end Go.Proofs.YtmiohkmcnppaeaaGreatDoor

namespace Go.Proofs.YtmiohkmcnppaeaaGreatDoor
open Go
set_option linter.unusedVariables false
set_option linter.unusedSimpArgs false
set_option maxRecDepth 100000

abbrev byR (l : List UInt8) : List Value := l.map bv
abbrev opR (l : List Nat) : List Value := l.map fun n : Nat => .int .i64 (n : Int)
abbrev wB (s : WS) (v u : Value) : Obj := .cells #[.int .i64 s.lim, v, u, .int .i64 s.err] 99 (0, 0)
abbrev WU (W : Nat) (s : WS) (v u : Value) (F : HP) : HP := Blk W (wB s v u) * (RowO 5 1 v s.b.length (byR s.b) * (RowO 3 1 u s.op.length (opR s.op) * F))
def WP (W : Nat) (s : WS) : HP := HP.ex fun x : Value × Value => Blk W (wB s x.1 x.2) * (RowO 5 1 x.1 s.b.length (byR s.b) * RowO 3 1 x.2 s.op.length (opR s.op))
structure WOk (s : WS) : Prop where
  lim : s.lim ≤ 16777216
  b : s.b.length ≤ s.lim
  op : s.op.length ≤ 15
theorem WOk.raw {s : WS} {l : List UInt8} (h : WOk s) : WOk (rawS l s) := by
  unfold rawS
  split
  · rename_i k
    simp only [hasRoom, decide_eq_true_eq] at k
    exact ⟨h.lim, by simp only [List.length_append]; exact k.2, h.op⟩
  · unfold roomS; split <;> exact ⟨h.lim, h.b, h.op⟩
theorem WOk.room {s : WS} {n : Nat} (h : WOk s) : WOk (roomS n s) := by unfold roomS; split <;> exact ⟨h.lim, h.b, h.op⟩
theorem WOk.err {s : WS} {e : Int} (h : WOk s) : WOk { s with err := e } := ⟨h.lim, h.b, h.op⟩
theorem WOk.text {s : WS} {l : List UInt8} (h : WOk s) : WOk (textS l s) := by
  unfold textS
  split
  · exact h
  split
  · exact h.err
  split
  · exact h.err
  exact h.raw
section
variable {w0 w : World} {F : HP} {W : Nat} {s : WS} {v u : Value}
theorem WP.open (h : St w0 (WP W s * F) w) : ∃ v u, St w0 (WU W s v u F) w := by
  obtain ⟨⟨v, u⟩, h⟩ := h.exF
  exact ⟨v, u, h.ac (by unfold WU; ac_rfl)⟩
theorem WP.mk (h : St w0 (WU W s v u F) w) : St w0 (WP W s * F) w := by
  have h1 : St w0 ((Blk W (wB s v u) * (RowO 5 1 v s.b.length (byR s.b) * RowO 3 1 u s.op.length (opR s.op))) * F) w := h.ac (by unfold WU; ac_rfl)
  exact h1.ent (Ent.sep (Ent.ex (fun x : Value × Value => Blk W (wB s x.1 x.2) * (RowO 5 1 x.1 s.b.length (byR s.b) * RowO 3 1 x.2 s.op.length (opR s.op))) (v, u)) (Ent.rfl' _))
theorem WU.of {n : Nat} {xs : List Value} (hl : s.b.length = n) (hx : byR s.b = xs) (h : St w0 (Blk W (wB s v u) * (RowO 5 1 v n xs * (RowO 3 1 u s.op.length (opR s.op) * F))) w) : St w0 (WU W s v u F) w := by
  subst hl hx; exact h
section
attribute [local go_sem] F111.t6_eq F111.t3_eq
theorem room_any {n : Nat} (ok : WOk s) (hn : n ≤ 1099511627776) (h : St w0 (WU W s v u F) w) :
    Calls Tryz.prog 111 #[.pointer (some ⟨W, 0, none⟩), .int .i64 n] w fun e w' => St w0 (WU W (roomS n s) v u F) w' ∧ e = .returned (.bool (hasRoom n s)) := by
  obtain ⟨o1, o2, o3⟩ := ok
  refine F111.calls (by simp) ?_
  unfold F111.code
  obtain ⟨a, c, rfl, _⟩ := h.rowForm v
  by_cases h0 : s.err = 0
  · have hD := h.drew
    simp -dsimp -implicitDefEqProofs (disch := omega) only [go_sem, reqD_of, dec_t, dec_f, wrap_i64, wrap_u32, wrap_u64, wrap_u8, h.cl W, hD.cl W, h0]
    by_cases h1 : (n : Int) > s.lim - s.b.length
    · have h1' : ((s.lim : Int) - s.b.length) < n := by omega
      have e1 : roomS n s = { s with err := 11 } := by unfold roomS; rw [if_pos ⟨h0, by omega⟩]
      have e2 : hasRoom n s = false := by unfold hasRoom; simp; omega
      simp -dsimp -implicitDefEqProofs (disch := omega) only [go_sem, reqD_of, dec_t, dec_f, wrap_i64, wrap_u32, wrap_u64, wrap_u8, h1', h0]
      refine hD.sto (b := W) (off := 3) (by simp) rfl fun w2 h2 => ?_
      simp only [List.setIfInBounds_toArray, List.set_cons_succ, List.set_cons_zero] at h2
      simp -dsimp -implicitDefEqProofs (disch := omega) only [go_sem, reqD_of, dec_t, dec_f, wrap_i64, wrap_u32, wrap_u64, wrap_u8]
      rw [e1, e2]
      exact ⟨h2, rfl⟩
    · have h1' : ¬ ((s.lim : Int) - s.b.length) < n := by omega
      have e1 : roomS n s = s := by unfold roomS; rw [if_neg (by omega)]
      have e2 : hasRoom n s = true := by unfold hasRoom; simp [h0]; omega
      simp -dsimp -implicitDefEqProofs (disch := omega) only [go_sem, reqD_of, dec_t, dec_f, wrap_i64, wrap_u32, wrap_u64, wrap_u8, h1', h0]
      rw [e1, e2]
      exact ⟨hD, rfl⟩
  · have e1 : roomS n s = s := by unfold roomS; rw [if_neg (by omega)]
    have e2 : hasRoom n s = false := by unfold hasRoom; simp; omega
    simp -dsimp -implicitDefEqProofs (disch := omega) only [go_sem, reqD_of, dec_t, dec_f, wrap_i64, wrap_u32, wrap_u64, wrap_u8, h.cl W, h0]
    rw [e1, e2]
    exact ⟨h, rfl⟩
theorem shr8 {m : Nat} : (m : Int).fdiv 256 = ((m / 256 : Nat) : Int) := by
  rw [Int.fdiv_eq_ediv_of_nonneg _ (by decide)]
  omega
theorem byte_of {m : Nat} : Value.int .u8 (IntKind.u8.wrap (m : Int)) = bv (UInt8.ofNat (m % 256)) := by
  unfold bv
  rw [ofNat_toNat (by omega)]
  congr 1
end
section
attribute [local go_sem] F48.t6_eq F48.t4_eq F48.t1_eq
theorem putu32_any {n : Nat} {width : Nat} (ok : WOk s) (hw : width ≤ 8) (hn : n < 4294967296) (h : St w0 (WP W s * F) w) :
    Calls Tryz.prog 48 #[.pointer (some ⟨W, 0, none⟩), .int .u32 n, .int .i64 width] w fun e w' => St w0 (WP W (rawS (leN width n) s) * F) w' ∧ e = .returned (.tuple #[]) := by
  obtain ⟨v, u, h⟩ := WP.open h
  refine F48.calls (by simp) ?_
  unfold F48.code
  simp -dsimp -implicitDefEqProofs (disch := omega) only [go_sem, reqD_of, dec_t, dec_f, wrap_i64, wrap_u32, wrap_u64, wrap_u8]
  refine (room_any (n := width) ok (by omega) h).mono ?_
  rintro e w1 ⟨h1, rfl⟩
  by_cases hr : hasRoom width s = true
  · have e1 : roomS width s = s := by
      unfold hasRoom at hr
      simp only [decide_eq_true_eq] at hr
      unfold roomS; rw [if_neg (by omega)]
    have e2 : rawS (leN width n) s = { s with b := s.b ++ leN width n } := by unfold rawS; rw [leN_length, if_pos hr]
    rw [e1] at h1
    rw [e2, hr]
    obtain ⟨a0, c0, rfl, _⟩ := h1.rowForm v
    simp -dsimp -implicitDefEqProofs (disch := omega) only [go_sem, reqD_of, dec_t, dec_f, wrap_i64, wrap_u32, wrap_u64, wrap_u8]
    refine loop_intro (fun e w' => e.ds = [] ∧ e.ρ 0 = .pointer (some ⟨W, 0, none⟩) ∧ e.ρ 13 = .int .i64 width ∧ ∃ (i m : Nat) (v : Value) (done : List UInt8), i ≤ width ∧ e.ρ 14 = .int .i64 i ∧ e.ρ 6 = .int .u64 m ∧ done.length = i ∧ done ++ leN (width - i) m = leN width n ∧ m < 18446744073709551616 ∧ St w0 (WU W { s with b := s.b ++ done } v u F) w')
      (fun e _ => match e.ρ 14 with | .int _ i => (width - i).toNat | _ => 0) ?_ ?_
    · exact ⟨rfl, by simp -dsimp -implicitDefEqProofs only [go_sem], by simp -dsimp -implicitDefEqProofs only [go_sem], 0, n, _, [], by omega, by simp -dsimp -implicitDefEqProofs only [go_sem], by simp -dsimp -implicitDefEqProofs only [go_sem], rfl, by simp, by omega, by simpa using h1⟩
    clear h h1
    rintro e w2 ⟨hd, e0, e13, i, m, v, done, hi, e14, e6, hdl, hdn, hm, h2⟩
    obtain ⟨a, c, rfl, _⟩ := h2.rowForm v
    by_cases hlt : (i : Int) < width
    · obtain ⟨k, hk⟩ : ∃ k, width - i = k + 1 := ⟨width - i - 1, by omega⟩
      rw [hk] at hdn
      have hbl : (s.b ++ done).length < 17000000 := by
        have := ok.lim
        have := ok.b
        simp only [List.length_append]
        omega
      simp -dsimp -implicitDefEqProofs (disch := omega) only [go_sem, reqD_of, dec_t, dec_f, wrap_i64, wrap_u32, wrap_u64, wrap_u8, hd, e0, e13, e14, e6, hlt, h2.cl W]
      rw [byte_of]
      refine h2.lit (n := 1) (cells := byR [UInt8.ofNat (m % 256)]) fact_rowTy_28 rfl (by decide) (by decide) fun v2 w3 h3 => ?_
      simp -dsimp -implicitDefEqProofs (disch := omega) only [go_sem, reqD_of, dec_t, dec_f, wrap_i64, wrap_u32, wrap_u64, wrap_u8]
      refine h3.appR (v := .slice a (s.b ++ done).length c) (x := v2) fact_rowTy_28 Tryz.underlying28 (fun u hu => by simp only [byR, List.map_cons, List.map_nil, List.mem_cons, List.not_mem_nil, or_false] at hu; subst hu; rfl) (fun h => by simp at h) (show (s.b ++ done).length + 1 ≤ 9223372036854775807 by omega) (show ((s.b ++ done).length + 1) * 1 ≤ 140737488355328 by omega) fun v3 w4 h4 => ?_
      simp -dsimp -implicitDefEqProofs (disch := omega) only [go_sem, reqD_of, dec_t, dec_f, wrap_i64, wrap_u32, wrap_u64, wrap_u8]
      obtain ⟨a3, c3, rfl, _⟩ := h4.rowForm v3
      refine h4.sto (b := W) (off := 1) (by simp) rfl fun w5 h5 => ?_
      simp only [List.setIfInBounds_toArray, List.set_cons_succ, List.set_cons_zero] at h5
      simp -dsimp -implicitDefEqProofs (disch := omega) only [go_sem, reqD_of, dec_t, dec_f, wrap_i64, wrap_u32, wrap_u64, wrap_u8, hd, e0, e13, e14, e6]
      rw [shr8]
      refine ⟨⟨i + 1, m / 256, .slice a3 ((s.b ++ done).length + 1) c3, done ++ [UInt8.ofNat (m % 256)], by omega, by omega, by omega, by simp [hdl], ?_, by omega, ?_⟩, by omega⟩
      · rw [show width - (i + 1) = k by omega, ← hdn]
        simp [leN]
      · refine WU.of (n := (s.b ++ done).length + 1) (xs := byR (s.b ++ done) ++ byR [UInt8.ofNat (m % 256)]) (by simp; omega) (by simp [byR]) ?_
        exact (h5.ac (show _ = RowO 5 1 v2 1 (byR [UInt8.ofNat (m % 256)]) * (Blk W (wB s (.slice a3 ((s.b ++ done).length + 1) c3) u) * (RowO 5 1 (.slice a3 ((s.b ++ done).length + 1) c3) ((s.b ++ done).length + 1) (byR (s.b ++ done) ++ byR [UInt8.ofNat (m % 256)]) * (RowO 3 1 u s.op.length (opR s.op) * F))) by ac_rfl)).right
    · obtain rfl : done.length = width := by omega
      obtain rfl : i = done.length := by omega
      simp -dsimp -implicitDefEqProofs (disch := omega) only [go_sem, reqD_of, dec_t, dec_f, wrap_i64, wrap_u32, wrap_u64, wrap_u8, hd, e0, e13, e14, e6, hlt]
      rw [Nat.sub_self] at hdn
      have hdn : done = leN done.length n := by simpa [leN] using hdn
      rw [← hdn]
      exact WP.mk h2
  · have hr' : hasRoom width s = false := by simpa using hr
    have e2 : rawS (leN width n) s = roomS width s := by unfold rawS; rw [leN_length, if_neg hr]
    rw [e2, hr']
    simp -dsimp -implicitDefEqProofs (disch := omega) only [go_sem, reqD_of, dec_t, dec_f, wrap_i64, wrap_u32, wrap_u64, wrap_u8]
    exact WP.mk h1
end
section
attribute [local go_sem] F49.t6_eq F49.t4_eq F49.t1_eq
theorem putu8_any {n : Nat} {width : Nat} (ok : WOk s) (hw : width ≤ 8) (hn : n < 256) (h : St w0 (WP W s * F) w) :
    Calls Tryz.prog 49 #[.pointer (some ⟨W, 0, none⟩), .int .u8 n, .int .i64 width] w fun e w' => St w0 (WP W (rawS (leN width n) s) * F) w' ∧ e = .returned (.tuple #[]) := by
  obtain ⟨v, u, h⟩ := WP.open h
  refine F49.calls (by simp) ?_
  unfold F49.code
  simp -dsimp -implicitDefEqProofs (disch := omega) only [go_sem, reqD_of, dec_t, dec_f, wrap_i64, wrap_u32, wrap_u64, wrap_u8]
  refine (room_any (n := width) ok (by omega) h).mono ?_
  rintro e w1 ⟨h1, rfl⟩
  by_cases hr : hasRoom width s = true
  · have e1 : roomS width s = s := by
      unfold hasRoom at hr
      simp only [decide_eq_true_eq] at hr
      unfold roomS; rw [if_neg (by omega)]
    have e2 : rawS (leN width n) s = { s with b := s.b ++ leN width n } := by unfold rawS; rw [leN_length, if_pos hr]
    rw [e1] at h1
    rw [e2, hr]
    obtain ⟨a0, c0, rfl, _⟩ := h1.rowForm v
    simp -dsimp -implicitDefEqProofs (disch := omega) only [go_sem, reqD_of, dec_t, dec_f, wrap_i64, wrap_u32, wrap_u64, wrap_u8]
    refine loop_intro (fun e w' => e.ds = [] ∧ e.ρ 0 = .pointer (some ⟨W, 0, none⟩) ∧ e.ρ 13 = .int .i64 width ∧ ∃ (i m : Nat) (v : Value) (done : List UInt8), i ≤ width ∧ e.ρ 14 = .int .i64 i ∧ e.ρ 6 = .int .u64 m ∧ done.length = i ∧ done ++ leN (width - i) m = leN width n ∧ m < 18446744073709551616 ∧ St w0 (WU W { s with b := s.b ++ done } v u F) w')
      (fun e _ => match e.ρ 14 with | .int _ i => (width - i).toNat | _ => 0) ?_ ?_
    · exact ⟨rfl, by simp -dsimp -implicitDefEqProofs only [go_sem], by simp -dsimp -implicitDefEqProofs only [go_sem], 0, n, _, [], by omega, by simp -dsimp -implicitDefEqProofs only [go_sem], by simp -dsimp -implicitDefEqProofs only [go_sem], rfl, by simp, by omega, by simpa using h1⟩
    clear h h1
    rintro e w2 ⟨hd, e0, e13, i, m, v, done, hi, e14, e6, hdl, hdn, hm, h2⟩
    obtain ⟨a, c, rfl, _⟩ := h2.rowForm v
    by_cases hlt : (i : Int) < width
    · obtain ⟨k, hk⟩ : ∃ k, width - i = k + 1 := ⟨width - i - 1, by omega⟩
      rw [hk] at hdn
      have hbl : (s.b ++ done).length < 17000000 := by
        have := ok.lim
        have := ok.b
        simp only [List.length_append]
        omega
      simp -dsimp -implicitDefEqProofs (disch := omega) only [go_sem, reqD_of, dec_t, dec_f, wrap_i64, wrap_u32, wrap_u64, wrap_u8, hd, e0, e13, e14, e6, hlt, h2.cl W]
      rw [byte_of]
      refine h2.lit (n := 1) (cells := byR [UInt8.ofNat (m % 256)]) fact_rowTy_28 rfl (by decide) (by decide) fun v2 w3 h3 => ?_
      simp -dsimp -implicitDefEqProofs (disch := omega) only [go_sem, reqD_of, dec_t, dec_f, wrap_i64, wrap_u32, wrap_u64, wrap_u8]
      refine h3.appR (v := .slice a (s.b ++ done).length c) (x := v2) fact_rowTy_28 Tryz.underlying28 (fun u hu => by simp only [byR, List.map_cons, List.map_nil, List.mem_cons, List.not_mem_nil, or_false] at hu; subst hu; rfl) (fun h => by simp at h) (show (s.b ++ done).length + 1 ≤ 9223372036854775807 by omega) (show ((s.b ++ done).length + 1) * 1 ≤ 140737488355328 by omega) fun v3 w4 h4 => ?_
      simp -dsimp -implicitDefEqProofs (disch := omega) only [go_sem, reqD_of, dec_t, dec_f, wrap_i64, wrap_u32, wrap_u64, wrap_u8]
      obtain ⟨a3, c3, rfl, _⟩ := h4.rowForm v3
      refine h4.sto (b := W) (off := 1) (by simp) rfl fun w5 h5 => ?_
      simp only [List.setIfInBounds_toArray, List.set_cons_succ, List.set_cons_zero] at h5
      simp -dsimp -implicitDefEqProofs (disch := omega) only [go_sem, reqD_of, dec_t, dec_f, wrap_i64, wrap_u32, wrap_u64, wrap_u8, hd, e0, e13, e14, e6]
      rw [shr8]
      refine ⟨⟨i + 1, m / 256, .slice a3 ((s.b ++ done).length + 1) c3, done ++ [UInt8.ofNat (m % 256)], by omega, by omega, by omega, by simp [hdl], ?_, by omega, ?_⟩, by omega⟩
      · rw [show width - (i + 1) = k by omega, ← hdn]
        simp [leN]
      · refine WU.of (n := (s.b ++ done).length + 1) (xs := byR (s.b ++ done) ++ byR [UInt8.ofNat (m % 256)]) (by simp; omega) (by simp [byR]) ?_
        exact (h5.ac (show _ = RowO 5 1 v2 1 (byR [UInt8.ofNat (m % 256)]) * (Blk W (wB s (.slice a3 ((s.b ++ done).length + 1) c3) u) * (RowO 5 1 (.slice a3 ((s.b ++ done).length + 1) c3) ((s.b ++ done).length + 1) (byR (s.b ++ done) ++ byR [UInt8.ofNat (m % 256)]) * (RowO 3 1 u s.op.length (opR s.op) * F))) by ac_rfl)).right
    · obtain rfl : done.length = width := by omega
      obtain rfl : i = done.length := by omega
      simp -dsimp -implicitDefEqProofs (disch := omega) only [go_sem, reqD_of, dec_t, dec_f, wrap_i64, wrap_u32, wrap_u64, wrap_u8, hd, e0, e13, e14, e6, hlt]
      rw [Nat.sub_self] at hdn
      have hdn : done = leN done.length n := by simpa [leN] using hdn
      rw [← hdn]
      exact WP.mk h2
  · have hr' : hasRoom width s = false := by simpa using hr
    have e2 : rawS (leN width n) s = roomS width s := by unfold rawS; rw [leN_length, if_neg hr]
    rw [e2, hr']
    simp -dsimp -implicitDefEqProofs (disch := omega) only [go_sem, reqD_of, dec_t, dec_f, wrap_i64, wrap_u32, wrap_u64, wrap_u8]
    exact WP.mk h1
end
section
attribute [local go_sem] F50.t6_eq F50.t4_eq F50.t1_eq
theorem putu16_any {n : Nat} {width : Nat} (ok : WOk s) (hw : width ≤ 8) (hn : n < 65536) (h : St w0 (WP W s * F) w) :
    Calls Tryz.prog 50 #[.pointer (some ⟨W, 0, none⟩), .int .u16 n, .int .i64 width] w fun e w' => St w0 (WP W (rawS (leN width n) s) * F) w' ∧ e = .returned (.tuple #[]) := by
  obtain ⟨v, u, h⟩ := WP.open h
  refine F50.calls (by simp) ?_
  unfold F50.code
  simp -dsimp -implicitDefEqProofs (disch := omega) only [go_sem, reqD_of, dec_t, dec_f, wrap_i64, wrap_u32, wrap_u64, wrap_u8]
  refine (room_any (n := width) ok (by omega) h).mono ?_
  rintro e w1 ⟨h1, rfl⟩
  by_cases hr : hasRoom width s = true
  · have e1 : roomS width s = s := by
      unfold hasRoom at hr
      simp only [decide_eq_true_eq] at hr
      unfold roomS; rw [if_neg (by omega)]
    have e2 : rawS (leN width n) s = { s with b := s.b ++ leN width n } := by unfold rawS; rw [leN_length, if_pos hr]
    rw [e1] at h1
    rw [e2, hr]
    obtain ⟨a0, c0, rfl, _⟩ := h1.rowForm v
    simp -dsimp -implicitDefEqProofs (disch := omega) only [go_sem, reqD_of, dec_t, dec_f, wrap_i64, wrap_u32, wrap_u64, wrap_u8]
    refine loop_intro (fun e w' => e.ds = [] ∧ e.ρ 0 = .pointer (some ⟨W, 0, none⟩) ∧ e.ρ 13 = .int .i64 width ∧ ∃ (i m : Nat) (v : Value) (done : List UInt8), i ≤ width ∧ e.ρ 14 = .int .i64 i ∧ e.ρ 6 = .int .u64 m ∧ done.length = i ∧ done ++ leN (width - i) m = leN width n ∧ m < 18446744073709551616 ∧ St w0 (WU W { s with b := s.b ++ done } v u F) w')
      (fun e _ => match e.ρ 14 with | .int _ i => (width - i).toNat | _ => 0) ?_ ?_
    · exact ⟨rfl, by simp -dsimp -implicitDefEqProofs only [go_sem], by simp -dsimp -implicitDefEqProofs only [go_sem], 0, n, _, [], by omega, by simp -dsimp -implicitDefEqProofs only [go_sem], by simp -dsimp -implicitDefEqProofs only [go_sem], rfl, by simp, by omega, by simpa using h1⟩
    clear h h1
    rintro e w2 ⟨hd, e0, e13, i, m, v, done, hi, e14, e6, hdl, hdn, hm, h2⟩
    obtain ⟨a, c, rfl, _⟩ := h2.rowForm v
    by_cases hlt : (i : Int) < width
    · obtain ⟨k, hk⟩ : ∃ k, width - i = k + 1 := ⟨width - i - 1, by omega⟩
      rw [hk] at hdn
      have hbl : (s.b ++ done).length < 17000000 := by
        have := ok.lim
        have := ok.b
        simp only [List.length_append]
        omega
      simp -dsimp -implicitDefEqProofs (disch := omega) only [go_sem, reqD_of, dec_t, dec_f, wrap_i64, wrap_u32, wrap_u64, wrap_u8, hd, e0, e13, e14, e6, hlt, h2.cl W]
      rw [byte_of]
      refine h2.lit (n := 1) (cells := byR [UInt8.ofNat (m % 256)]) fact_rowTy_28 rfl (by decide) (by decide) fun v2 w3 h3 => ?_
      simp -dsimp -implicitDefEqProofs (disch := omega) only [go_sem, reqD_of, dec_t, dec_f, wrap_i64, wrap_u32, wrap_u64, wrap_u8]
      refine h3.appR (v := .slice a (s.b ++ done).length c) (x := v2) fact_rowTy_28 Tryz.underlying28 (fun u hu => by simp only [byR, List.map_cons, List.map_nil, List.mem_cons, List.not_mem_nil, or_false] at hu; subst hu; rfl) (fun h => by simp at h) (show (s.b ++ done).length + 1 ≤ 9223372036854775807 by omega) (show ((s.b ++ done).length + 1) * 1 ≤ 140737488355328 by omega) fun v3 w4 h4 => ?_
      simp -dsimp -implicitDefEqProofs (disch := omega) only [go_sem, reqD_of, dec_t, dec_f, wrap_i64, wrap_u32, wrap_u64, wrap_u8]
      obtain ⟨a3, c3, rfl, _⟩ := h4.rowForm v3
      refine h4.sto (b := W) (off := 1) (by simp) rfl fun w5 h5 => ?_
      simp only [List.setIfInBounds_toArray, List.set_cons_succ, List.set_cons_zero] at h5
      simp -dsimp -implicitDefEqProofs (disch := omega) only [go_sem, reqD_of, dec_t, dec_f, wrap_i64, wrap_u32, wrap_u64, wrap_u8, hd, e0, e13, e14, e6]
      rw [shr8]
      refine ⟨⟨i + 1, m / 256, .slice a3 ((s.b ++ done).length + 1) c3, done ++ [UInt8.ofNat (m % 256)], by omega, by omega, by omega, by simp [hdl], ?_, by omega, ?_⟩, by omega⟩
      · rw [show width - (i + 1) = k by omega, ← hdn]
        simp [leN]
      · refine WU.of (n := (s.b ++ done).length + 1) (xs := byR (s.b ++ done) ++ byR [UInt8.ofNat (m % 256)]) (by simp; omega) (by simp [byR]) ?_
        exact (h5.ac (show _ = RowO 5 1 v2 1 (byR [UInt8.ofNat (m % 256)]) * (Blk W (wB s (.slice a3 ((s.b ++ done).length + 1) c3) u) * (RowO 5 1 (.slice a3 ((s.b ++ done).length + 1) c3) ((s.b ++ done).length + 1) (byR (s.b ++ done) ++ byR [UInt8.ofNat (m % 256)]) * (RowO 3 1 u s.op.length (opR s.op) * F))) by ac_rfl)).right
    · obtain rfl : done.length = width := by omega
      obtain rfl : i = done.length := by omega
      simp -dsimp -implicitDefEqProofs (disch := omega) only [go_sem, reqD_of, dec_t, dec_f, wrap_i64, wrap_u32, wrap_u64, wrap_u8, hd, e0, e13, e14, e6, hlt]
      rw [Nat.sub_self] at hdn
      have hdn : done = leN done.length n := by simpa [leN] using hdn
      rw [← hdn]
      exact WP.mk h2
  · have hr' : hasRoom width s = false := by simpa using hr
    have e2 : rawS (leN width n) s = roomS width s := by unfold rawS; rw [leN_length, if_neg hr]
    rw [e2, hr']
    simp -dsimp -implicitDefEqProofs (disch := omega) only [go_sem, reqD_of, dec_t, dec_f, wrap_i64, wrap_u32, wrap_u64, wrap_u8]
    exact WP.mk h1
end
section
attribute [local go_sem] F125.t6_eq F125.t4_eq F125.t1_eq
theorem putu64_any {n : Nat} {width : Nat} (ok : WOk s) (hw : width ≤ 8) (hn : n < 18446744073709551616) (h : St w0 (WP W s * F) w) :
    Calls Tryz.prog 125 #[.pointer (some ⟨W, 0, none⟩), .int .u64 n, .int .i64 width] w fun e w' => St w0 (WP W (rawS (leN width n) s) * F) w' ∧ e = .returned (.tuple #[]) := by
  obtain ⟨v, u, h⟩ := WP.open h
  refine F125.calls (by simp) ?_
  unfold F125.code
  simp -dsimp -implicitDefEqProofs (disch := omega) only [go_sem, reqD_of, dec_t, dec_f, wrap_i64, wrap_u32, wrap_u64, wrap_u8]
  refine (room_any (n := width) ok (by omega) h).mono ?_
  rintro e w1 ⟨h1, rfl⟩
  by_cases hr : hasRoom width s = true
  · have e1 : roomS width s = s := by
      unfold hasRoom at hr
      simp only [decide_eq_true_eq] at hr
      unfold roomS; rw [if_neg (by omega)]
    have e2 : rawS (leN width n) s = { s with b := s.b ++ leN width n } := by unfold rawS; rw [leN_length, if_pos hr]
    rw [e1] at h1
    rw [e2, hr]
    obtain ⟨a0, c0, rfl, _⟩ := h1.rowForm v
    simp -dsimp -implicitDefEqProofs (disch := omega) only [go_sem, reqD_of, dec_t, dec_f, wrap_i64, wrap_u32, wrap_u64, wrap_u8]
    refine loop_intro (fun e w' => e.ds = [] ∧ e.ρ 0 = .pointer (some ⟨W, 0, none⟩) ∧ e.ρ 12 = .int .i64 width ∧ ∃ (i m : Nat) (v : Value) (done : List UInt8), i ≤ width ∧ e.ρ 13 = .int .i64 i ∧ e.ρ 6 = .int .u64 m ∧ done.length = i ∧ done ++ leN (width - i) m = leN width n ∧ m < 18446744073709551616 ∧ St w0 (WU W { s with b := s.b ++ done } v u F) w')
      (fun e _ => match e.ρ 13 with | .int _ i => (width - i).toNat | _ => 0) ?_ ?_
    · exact ⟨rfl, by simp -dsimp -implicitDefEqProofs only [go_sem], by simp -dsimp -implicitDefEqProofs only [go_sem], 0, n, _, [], by omega, by simp -dsimp -implicitDefEqProofs only [go_sem], by simp -dsimp -implicitDefEqProofs only [go_sem], rfl, by simp, by omega, by simpa using h1⟩
    clear h h1
    rintro e w2 ⟨hd, e0, e13, i, m, v, done, hi, e14, e6, hdl, hdn, hm, h2⟩
    obtain ⟨a, c, rfl, _⟩ := h2.rowForm v
    by_cases hlt : (i : Int) < width
    · obtain ⟨k, hk⟩ : ∃ k, width - i = k + 1 := ⟨width - i - 1, by omega⟩
      rw [hk] at hdn
      have hbl : (s.b ++ done).length < 17000000 := by
        have := ok.lim
        have := ok.b
        simp only [List.length_append]
        omega
      simp -dsimp -implicitDefEqProofs (disch := omega) only [go_sem, reqD_of, dec_t, dec_f, wrap_i64, wrap_u32, wrap_u64, wrap_u8, hd, e0, e13, e14, e6, hlt, h2.cl W]
      rw [byte_of]
      refine h2.lit (n := 1) (cells := byR [UInt8.ofNat (m % 256)]) fact_rowTy_28 rfl (by decide) (by decide) fun v2 w3 h3 => ?_
      simp -dsimp -implicitDefEqProofs (disch := omega) only [go_sem, reqD_of, dec_t, dec_f, wrap_i64, wrap_u32, wrap_u64, wrap_u8]
      refine h3.appR (v := .slice a (s.b ++ done).length c) (x := v2) fact_rowTy_28 Tryz.underlying28 (fun u hu => by simp only [byR, List.map_cons, List.map_nil, List.mem_cons, List.not_mem_nil, or_false] at hu; subst hu; rfl) (fun h => by simp at h) (show (s.b ++ done).length + 1 ≤ 9223372036854775807 by omega) (show ((s.b ++ done).length + 1) * 1 ≤ 140737488355328 by omega) fun v3 w4 h4 => ?_
      simp -dsimp -implicitDefEqProofs (disch := omega) only [go_sem, reqD_of, dec_t, dec_f, wrap_i64, wrap_u32, wrap_u64, wrap_u8]
      obtain ⟨a3, c3, rfl, _⟩ := h4.rowForm v3
      refine h4.sto (b := W) (off := 1) (by simp) rfl fun w5 h5 => ?_
      simp only [List.setIfInBounds_toArray, List.set_cons_succ, List.set_cons_zero] at h5
      simp -dsimp -implicitDefEqProofs (disch := omega) only [go_sem, reqD_of, dec_t, dec_f, wrap_i64, wrap_u32, wrap_u64, wrap_u8, hd, e0, e13, e14, e6]
      rw [shr8]
      refine ⟨⟨i + 1, m / 256, .slice a3 ((s.b ++ done).length + 1) c3, done ++ [UInt8.ofNat (m % 256)], by omega, by omega, by omega, by simp [hdl], ?_, by omega, ?_⟩, by omega⟩
      · rw [show width - (i + 1) = k by omega, ← hdn]
        simp [leN]
      · refine WU.of (n := (s.b ++ done).length + 1) (xs := byR (s.b ++ done) ++ byR [UInt8.ofNat (m % 256)]) (by simp; omega) (by simp [byR]) ?_
        exact (h5.ac (show _ = RowO 5 1 v2 1 (byR [UInt8.ofNat (m % 256)]) * (Blk W (wB s (.slice a3 ((s.b ++ done).length + 1) c3) u) * (RowO 5 1 (.slice a3 ((s.b ++ done).length + 1) c3) ((s.b ++ done).length + 1) (byR (s.b ++ done) ++ byR [UInt8.ofNat (m % 256)]) * (RowO 3 1 u s.op.length (opR s.op) * F))) by ac_rfl)).right
    · obtain rfl : done.length = width := by omega
      obtain rfl : i = done.length := by omega
      simp -dsimp -implicitDefEqProofs (disch := omega) only [go_sem, reqD_of, dec_t, dec_f, wrap_i64, wrap_u32, wrap_u64, wrap_u8, hd, e0, e13, e14, e6, hlt]
      rw [Nat.sub_self] at hdn
      have hdn : done = leN done.length n := by simpa [leN] using hdn
      rw [← hdn]
      exact WP.mk h2
  · have hr' : hasRoom width s = false := by simpa using hr
    have e2 : rawS (leN width n) s = roomS width s := by unfold rawS; rw [leN_length, if_neg hr]
    rw [e2, hr']
    simp -dsimp -implicitDefEqProofs (disch := omega) only [go_sem, reqD_of, dec_t, dec_f, wrap_i64, wrap_u32, wrap_u64, wrap_u8]
    exact WP.mk h1
end

theorem U8_any {n : Nat} (ok : WOk s) (hn : n < 256) (h : St w0 (WP W s * F) w) :
    Calls Tryz.prog 21 #[.pointer (some ⟨W, 0, none⟩), .int .u8 n] w fun e w' => St w0 (WP W (rawS (leN 1 n) s) * F) w' ∧ e = .returned (.tuple #[]) := by
  refine F21.calls (by simp) ?_
  unfold F21.code
  simp -dsimp -implicitDefEqProofs (disch := omega) only [go_sem, reqD_of, dec_t, dec_f, wrap_i64, wrap_u32, wrap_u64, wrap_u8]
  refine (putu8_any (n := n) (width := 1) ok (by decide) hn h).mono ?_
  rintro e w1 ⟨h1, rfl⟩
  simp -dsimp -implicitDefEqProofs (disch := omega) only [go_sem, reqD_of, dec_t, dec_f, wrap_i64, wrap_u32, wrap_u64, wrap_u8]
  exact h1

theorem U16_any {n : Nat} (ok : WOk s) (hn : n < 65536) (h : St w0 (WP W s * F) w) :
    Calls Tryz.prog 22 #[.pointer (some ⟨W, 0, none⟩), .int .u16 n] w fun e w' => St w0 (WP W (rawS (leN 2 n) s) * F) w' ∧ e = .returned (.tuple #[]) := by
  refine F22.calls (by simp) ?_
  unfold F22.code
  simp -dsimp -implicitDefEqProofs (disch := omega) only [go_sem, reqD_of, dec_t, dec_f, wrap_i64, wrap_u32, wrap_u64, wrap_u8]
  refine (putu16_any (n := n) (width := 2) ok (by decide) hn h).mono ?_
  rintro e w1 ⟨h1, rfl⟩
  simp -dsimp -implicitDefEqProofs (disch := omega) only [go_sem, reqD_of, dec_t, dec_f, wrap_i64, wrap_u32, wrap_u64, wrap_u8]
  exact h1

theorem U32_any {n : Nat} (ok : WOk s) (hn : n < 4294967296) (h : St w0 (WP W s * F) w) :
    Calls Tryz.prog 20 #[.pointer (some ⟨W, 0, none⟩), .int .u32 n] w fun e w' => St w0 (WP W (rawS (leN 4 n) s) * F) w' ∧ e = .returned (.tuple #[]) := by
  refine F20.calls (by simp) ?_
  unfold F20.code
  simp -dsimp -implicitDefEqProofs (disch := omega) only [go_sem, reqD_of, dec_t, dec_f, wrap_i64, wrap_u32, wrap_u64, wrap_u8]
  refine (putu32_any (n := n) (width := 4) ok (by decide) hn h).mono ?_
  rintro e w1 ⟨h1, rfl⟩
  simp -dsimp -implicitDefEqProofs (disch := omega) only [go_sem, reqD_of, dec_t, dec_f, wrap_i64, wrap_u32, wrap_u64, wrap_u8]
  exact h1

theorem U64_any {n : Nat} (ok : WOk s) (hn : n < 18446744073709551616) (h : St w0 (WP W s * F) w) :
    Calls Tryz.prog 85 #[.pointer (some ⟨W, 0, none⟩), .int .u64 n] w fun e w' => St w0 (WP W (rawS (leN 8 n) s) * F) w' ∧ e = .returned (.tuple #[]) := by
  refine F85.calls (by simp) ?_
  unfold F85.code
  simp -dsimp -implicitDefEqProofs (disch := omega) only [go_sem, reqD_of, dec_t, dec_f, wrap_i64, wrap_u32, wrap_u64, wrap_u8]
  refine (putu64_any (n := n) (width := 8) ok (by decide) hn h).mono ?_
  rintro e w1 ⟨h1, rfl⟩
  simp -dsimp -implicitDefEqProofs (disch := omega) only [go_sem, reqD_of, dec_t, dec_f, wrap_i64, wrap_u32, wrap_u64, wrap_u8]
  exact h1
end
end Go.Proofs.YtmiohkmcnppaeaaGreatDoor

namespace Go.Proofs.YtmiohkmcnppaeaaGreatDoor
open Go
set_option linter.unusedVariables false
set_option linter.unusedSimpArgs false
set_option maxRecDepth 100000

theorem St.appS {P : Program} {w0 w : World} {A : HP} {C : HP → HP} {t tx ty e bs : Nat} {zs : List Value} {v : Value} {n : Nat} {xs : List Value} {l : List UInt8} {K : Value → World → Prop} {θ : Tag K}
    (h : St w0 A w) [i : Hole (.row v) A (RowO e 1 v n xs) C] (ht : rowTy P t = some (e, 1, bs, zs)) (hk : P.underlying tx = some .string) (h63 : n + l.length ≤ maxLen) (hb : (n + l.length) * bs ≤ 140737488355328)
    (hK : ∀ v' w', St w0 (C (RowO e 1 v' (n + l.length) (xs ++ l.map bv))) w' → K v' w') : semD P (kAppend #[t, tx] ty #[v, .string (strOf l)]) w K θ := by
  obtain ⟨R, hR, h'⟩ := h.out (.row v)
  have hs : Src P 1 tx (.string (strOf l)) l.length (l.map bv) w := by
    have h1 := Src.ofString (P := P) w hk (strOf l)
    have e1 : byteCells (strOf l) = l.map bv := by simp [byteCells, strOf, bv]
    rw [e1, strOf_size] at h1
    exact h1
  exact h'.appendO ht hs h63 hb fun v' w' hw => hK v' w' (by rw [hR]; exact hw)
theorem RowO.keep {T s n k c : Nat} {a : Option Addr} {xs : List Value} (hk : k ≤ n) (hc : k ≤ c) : Ent (RowO T s (.slice a n c) n xs) (RowO T s (.slice a k c) k (xs.take (k * s))) := by
  have := RowO.cut (T := T) (s := s) (n := n) (lo := 0) (k := k) (m := c) (c := c) (a := a) (xs := xs) (by omega) (by omega) (Nat.le_refl _)
  have e : (if c = 0 then a else Option.map (fun x : Addr => x.add 0) a) = a := by
    split
    · rfl
    · cases a with
      | none => rfl
      | some x => obtain ⟨b, o, z⟩ := x; simp [Addr.add]
  simpa [e] using this
theorem St.rowSome {w0 w : World} {F : HP} {e n : Nat} {v : Value} {xs : List Value} (h : St w0 (RowO e 1 v n xs * F) w) (hn : 0 < n) : ∃ g o c, v = .slice (some ⟨g, o, none⟩) n c := by
  obtain ⟨_, _, h1, _, _, _, _, hr, _⟩ := h.sat
  rcases hr with ⟨_, rfl, _⟩ | ⟨g, o, cap, cur, rfl, _⟩
  · omega
  · exact ⟨g, o, cap, rfl⟩
section
variable {w0 w : World} {F : HP} {W : Nat} {s : WS} {v u : Value}
theorem byR_cells {l : List UInt8} : ∀ x ∈ byR l, isCell x = true := by
  intro x hx
  obtain ⟨b, _, rfl⟩ := List.mem_map.1 hx
  rfl
theorem opR_cells {l : List Nat} : ∀ x ∈ opR l, isCell x = true := by
  intro x hx
  obtain ⟨b, _, rfl⟩ := List.mem_map.1 hx
  rfl
theorem len2 {n : Nat} (h : n ≤ 65535) : [Value.int .u8 (IntKind.u8.wrap (n : Int)), Value.int .u8 (IntKind.u8.wrap ((n / 256 : Nat) : Int))] = byR (leN 2 n) := by
  rw [byte_of, byte_of]
  rfl
section
attribute [local go_sem] F66.t5_eq F66.t3_eq F66.t1_eq
theorem text_any {l : List UInt8} [Gives F Tabs] (ok : WOk s) (hl : l.length ≤ 1099511627776) (h : St w0 (WP W s * F) w) :
    Calls Tryz.prog 66 #[.pointer (some ⟨W, 0, none⟩), .string (strOf l)] w fun e w' => St w0 (WP W (textS l s) * F) w' ∧ e = .returned (.tuple #[]) := by
  obtain ⟨v, u, h⟩ := WP.open h
  refine F66.calls (by simp) ?_
  unfold F66.code textS
  by_cases h0 : s.err = 0
  case neg =>
    simp -dsimp -implicitDefEqProofs (disch := omega) only [go_sem, reqD_of, dec_t, dec_f, wrap_i64, wrap_u32, wrap_u64, wrap_u8, h.cl W, h0]
    rw [if_pos h0]
    exact WP.mk h
  by_cases h1 : 65535 < (l.length : Int)
  · simp -dsimp -implicitDefEqProofs (disch := omega) only [go_sem, reqD_of, dec_t, dec_f, wrap_i64, wrap_u32, wrap_u64, wrap_u8, h.cl W, h0, strOf_size, h1]
    refine h.sto (b := W) (off := 3) (by simp) rfl fun w2 h2 => ?_
    simp only [List.setIfInBounds_toArray, List.set_cons_succ, List.set_cons_zero] at h2
    simp -dsimp -implicitDefEqProofs (disch := omega) only [go_sem, reqD_of, dec_t, dec_f, wrap_i64, wrap_u32, wrap_u64, wrap_u8]
    rw [if_neg (by simp [h0]), if_pos (by omega)]
    exact WP.mk h2
  simp -dsimp -implicitDefEqProofs (disch := omega) only [go_sem, reqD_of, dec_t, dec_f, wrap_i64, wrap_u32, wrap_u64, wrap_u8, h.cl W, h0, strOf_size, h1]
  rw [if_neg (by simp [h0]), if_neg (by omega)]
  refine (good_any (l := l) h (by omega)).mono ?_
  rintro e w1 ⟨h1', rfl⟩
  cases hg : good l with
  | false =>
    simp -dsimp -implicitDefEqProofs (disch := omega) only [go_sem, reqD_of, dec_t, dec_f, wrap_i64, wrap_u32, wrap_u64, wrap_u8]
    refine h1'.sto (b := W) (off := 3) (by simp) rfl fun w2 h2 => ?_
    simp only [List.setIfInBounds_toArray, List.set_cons_succ, List.set_cons_zero] at h2
    simp -dsimp -implicitDefEqProofs (disch := omega) only [go_sem, reqD_of, dec_t, dec_f, wrap_i64, wrap_u32, wrap_u64, wrap_u8]
    exact WP.mk h2
  | true =>
  simp only [Bool.true_eq_false, if_false]
  simp -dsimp -implicitDefEqProofs (disch := omega) only [go_sem, reqD_of, dec_t, dec_f, wrap_i64, wrap_u32, wrap_u64, wrap_u8, strOf_size]
  rw [show (2 : Int) + (l.length : Int) = ((2 + l.length : Nat) : Int) by omega]
  refine (room_any (n := 2 + l.length) ok (by omega) h1').mono ?_
  rintro e w2 ⟨h2, rfl⟩
  have hll : (leN 2 l.length ++ l).length = 2 + l.length := by rw [List.length_append, leN_length]
  by_cases hr : hasRoom (2 + l.length) s = true
  · have e1 : roomS (2 + l.length) s = s := by
      unfold hasRoom at hr
      simp only [decide_eq_true_eq] at hr
      unfold roomS; rw [if_neg (by omega)]
    have e2 : rawS (leN 2 l.length ++ l) s = { s with b := s.b ++ (leN 2 l.length ++ l) } := by unfold rawS; rw [hll, if_pos hr]
    rw [e1] at h2
    rw [e2, hr]
    obtain ⟨a0, c0, rfl, _⟩ := h2.rowForm v
    have hb := ok.b
    have hlim := ok.lim
    simp -dsimp -implicitDefEqProofs (disch := omega) only [go_sem, reqD_of, dec_t, dec_f, wrap_i64, wrap_u32, wrap_u64, wrap_u8, h2.cl W, strOf_size]
    rw [shr8]
    refine h2.lit (n := 2) (cells := byR (leN 2 l.length)) fact_rowTy_28 (by rw [← len2 (by omega)]; rfl) (by decide) (by decide) fun v2 w3 h3 => ?_
    simp -dsimp -implicitDefEqProofs (disch := omega) only [go_sem, reqD_of, dec_t, dec_f, wrap_i64, wrap_u32, wrap_u64, wrap_u8]
    refine h3.appR (v := .slice a0 s.b.length c0) (x := v2) fact_rowTy_28 Tryz.underlying28 byR_cells (fun h => by simp [leN] at h) (show s.b.length + 2 ≤ 9223372036854775807 by omega) (show (s.b.length + 2) * 1 ≤ 140737488355328 by omega) fun v3 w4 h4 => ?_
    obtain ⟨a3, c3, rfl, _⟩ := h4.rowForm v3
    simp -dsimp -implicitDefEqProofs (disch := omega) only [go_sem, reqD_of, dec_t, dec_f, wrap_i64, wrap_u32, wrap_u64, wrap_u8]
    refine h4.sto (b := W) (off := 1) (by simp) rfl fun w5 h5 => ?_
    simp only [List.setIfInBounds_toArray, List.set_cons_succ, List.set_cons_zero] at h5
    simp -dsimp -implicitDefEqProofs (disch := omega) only [go_sem, reqD_of, dec_t, dec_f, wrap_i64, wrap_u32, wrap_u64, wrap_u8, h5.cl W]
    refine h5.appS (v := .slice a3 (s.b.length + 2) c3) (l := l) fact_rowTy_28 Tryz.underlying9 (show s.b.length + 2 + l.length ≤ 9223372036854775807 by omega) (show (s.b.length + 2 + l.length) * 1 ≤ 140737488355328 by omega) fun v4 w6 h6 => ?_
    obtain ⟨a4, c4, rfl, _⟩ := h6.rowForm v4
    simp -dsimp -implicitDefEqProofs (disch := omega) only [go_sem, reqD_of, dec_t, dec_f, wrap_i64, wrap_u32, wrap_u64, wrap_u8]
    refine h6.sto (b := W) (off := 1) (by simp) rfl fun w7 h7 => ?_
    simp only [List.setIfInBounds_toArray, List.set_cons_succ, List.set_cons_zero] at h7
    simp -dsimp -implicitDefEqProofs (disch := omega) only [go_sem, reqD_of, dec_t, dec_f, wrap_i64, wrap_u32, wrap_u64, wrap_u8]
    refine WP.mk (v := .slice a4 (s.b.length + 2 + l.length) c4) (u := u) (WU.of (n := s.b.length + 2 + l.length) (xs := byR s.b ++ byR (leN 2 l.length) ++ byR l) (by simp only [List.length_append, leN_length]; omega) (by simp [byR]) ?_)
    exact (h7.ac (show _ = RowO 5 1 v2 2 (byR (leN 2 l.length)) * (Blk W (wB s (.slice a4 (s.b.length + 2 + l.length) c4) u) * (RowO 5 1 (.slice a4 (s.b.length + 2 + l.length) c4) (s.b.length + 2 + l.length) (byR s.b ++ byR (leN 2 l.length) ++ byR l) * (RowO 3 1 u s.op.length (opR s.op) * F))) by ac_rfl)).right
  · have hr' : hasRoom (2 + l.length) s = false := by simpa using hr
    have e2 : rawS (leN 2 l.length ++ l) s = roomS (2 + l.length) s := by unfold rawS; rw [hll, if_neg hr]
    rw [e2, hr']
    simp -dsimp -implicitDefEqProofs (disch := omega) only [go_sem, reqD_of, dec_t, dec_f, wrap_i64, wrap_u32, wrap_u64, wrap_u8]
    exact WP.mk h2
end
section
attribute [local go_sem] F177.t3_eq
theorem open_any (ok : WOk s) (hop : s.op.length ≤ 10) (h : St w0 (WP W s * F) w) :
    Calls Tryz.prog 177 #[.pointer (some ⟨W, 0, none⟩)] w fun e w' => St w0 (WP W (openS s) * F) w' ∧ e = .returned (.int .i64 (placeS s : Nat)) := by
  obtain ⟨v, u, h⟩ := WP.open h
  refine F177.calls (by simp) ?_
  unfold F177.code openS placeS
  simp -dsimp -implicitDefEqProofs (disch := omega) only [go_sem, reqD_of, dec_t, dec_f, wrap_i64, wrap_u32, wrap_u64, wrap_u8]
  refine (room_any (n := 2) ok (by omega) h).mono ?_
  rintro e w2 ⟨h2, rfl⟩
  by_cases hr : hasRoom 2 s = true
  · have e1 : roomS 2 s = s := by
      unfold hasRoom at hr
      simp only [decide_eq_true_eq] at hr
      unfold roomS; rw [if_neg (by omega)]
    rw [e1] at h2
    rw [hr]
    obtain ⟨a0, c0, rfl, _⟩ := h2.rowForm v
    obtain ⟨a1, c1, rfl, _⟩ := h2.rowForm u
    have hb := ok.b
    have hlim := ok.lim
    simp -dsimp -implicitDefEqProofs (disch := omega) only [go_sem, reqD_of, dec_t, dec_f, wrap_i64, wrap_u32, wrap_u64, wrap_u8, h2.cl W]
    refine h2.lit (n := 2) (cells := byR [0, 0]) fact_rowTy_28 rfl (by decide) (by decide) fun v2 w3 h3 => ?_
    simp -dsimp -implicitDefEqProofs (disch := omega) only [go_sem, reqD_of, dec_t, dec_f, wrap_i64, wrap_u32, wrap_u64, wrap_u8]
    refine h3.appR (v := .slice a0 s.b.length c0) (x := v2) fact_rowTy_28 Tryz.underlying28 byR_cells (fun h => by simp at h) (show s.b.length + 2 ≤ 9223372036854775807 by omega) (show (s.b.length + 2) * 1 ≤ 140737488355328 by omega) fun v3 w4 h4 => ?_
    obtain ⟨a3, c3, rfl, _⟩ := h4.rowForm v3
    simp -dsimp -implicitDefEqProofs (disch := omega) only [go_sem, reqD_of, dec_t, dec_f, wrap_i64, wrap_u32, wrap_u64, wrap_u8]
    refine h4.sto (b := W) (off := 1) (by simp) rfl fun w5 h5 => ?_
    simp only [List.setIfInBounds_toArray, List.set_cons_succ, List.set_cons_zero] at h5
    simp -dsimp -implicitDefEqProofs (disch := omega) only [go_sem, reqD_of, dec_t, dec_f, wrap_i64, wrap_u32, wrap_u64, wrap_u8, h5.cl W]
    refine h5.lit (n := 1) (cells := opR [s.b.length]) fact_rowTy_97 rfl (by decide) (by decide) fun v4 w6 h6 => ?_
    simp -dsimp -implicitDefEqProofs (disch := omega) only [go_sem, reqD_of, dec_t, dec_f, wrap_i64, wrap_u32, wrap_u64, wrap_u8]
    refine h6.appR (v := .slice a1 s.op.length c1) (x := v4) fact_rowTy_97 Tryz.underlying97 opR_cells (fun h => by simp at h) (show s.op.length + 1 ≤ 9223372036854775807 by omega) (show (s.op.length + 1) * 8 ≤ 140737488355328 by omega) fun v5 w7 h7 => ?_
    obtain ⟨a5, c5, rfl, _⟩ := h7.rowForm v5
    simp -dsimp -implicitDefEqProofs (disch := omega) only [go_sem, reqD_of, dec_t, dec_f, wrap_i64, wrap_u32, wrap_u64, wrap_u8]
    refine h7.sto (b := W) (off := 2) (by simp) rfl fun w8 h8 => ?_
    simp only [List.setIfInBounds_toArray, List.set_cons_succ, List.set_cons_zero] at h8
    simp -dsimp -implicitDefEqProofs (disch := omega) only [go_sem, reqD_of, dec_t, dec_f, wrap_i64, wrap_u32, wrap_u64, wrap_u8]
    refine WP.mk (v := .slice a3 (s.b.length + 2) c3) (u := .slice a5 (s.op.length + 1) c5) (WU.of (n := s.b.length + 2) (xs := byR s.b ++ byR [0, 0]) (by simp) (by simp [byR]) ?_)
    have e2 : (s.op ++ [s.b.length]).length = s.op.length + 1 := by simp
    have e3 : opR (s.op ++ [s.b.length]) = opR s.op ++ opR [s.b.length] := by simp [opR]
    show St w0 (Blk W (wB s _ _) * (RowO _ _ _ _ _ * (RowO _ _ _ (s.op ++ [s.b.length]).length (opR (s.op ++ [s.b.length])) * F))) w8
    rw [e2, e3]
    exact (h8.ac (show _ = RowO 5 1 v2 2 (byR [0, 0]) * (RowO 3 1 v4 1 (opR [s.b.length]) * (Blk W (wB s (.slice a3 (s.b.length + 2) c3) (.slice a5 (s.op.length + 1) c5)) * (RowO 5 1 (.slice a3 (s.b.length + 2) c3) (s.b.length + 2) (byR s.b ++ byR [0, 0]) * (RowO 3 1 (.slice a5 (s.op.length + 1) c5) (s.op.length + 1) (opR s.op ++ opR [s.b.length]) * F)))) by ac_rfl)).right.right
  · have hr' : hasRoom 2 s = false := by simpa using hr
    rw [hr']
    simp -dsimp -implicitDefEqProofs (disch := omega) only [go_sem, reqD_of, dec_t, dec_f, wrap_i64, wrap_u32, wrap_u64, wrap_u8]
    exact WP.mk h2
end
section
attribute [local go_sem] F179.t7_eq F179.t4_eq F179.t1_eq
theorem shut_any {p : Nat} {op' : List Nat} (ok : WOk s) (hp : s.err = 0 → s.op = op' ++ [p] ∧ p + 2 ≤ s.b.length) (h : St w0 (WP W s * F) w) (hpb : p ≤ 16777216) :
    Calls Tryz.prog 179 #[.pointer (some ⟨W, 0, none⟩), .int .i64 p] w fun e w' => St w0 (WP W (shutS p s) * F) w' ∧ e = .returned (.tuple #[]) := by
  obtain ⟨v, u, h⟩ := WP.open h
  refine F179.calls (by simp) ?_
  unfold F179.code shutS
  by_cases h0 : s.err = 0
  case neg =>
    simp -dsimp -implicitDefEqProofs (disch := omega) only [go_sem, reqD_of, dec_t, dec_f, wrap_i64, wrap_u32, wrap_u64, wrap_u8, h.cl W, h0]
    rw [if_pos h0]
    exact WP.mk h
  obtain ⟨hop, hpl⟩ := hp h0
  rw [if_neg (by simp [h0])]
  have hol : s.op.length = op'.length + 1 := by rw [hop]; simp
  have hb := ok.b
  have hlim := ok.lim
  obtain ⟨g0, o0, c0, rfl⟩ := (h.ac (show _ = RowO 5 1 v s.b.length (byR s.b) * (Blk W (wB s v u) * (RowO 3 1 u s.op.length (opR s.op) * F)) by unfold WU; ac_rfl)).rowSome (by omega)
  obtain ⟨a1, c1, rfl, _, hcap, _⟩ := h.rowForm u
  obtain ⟨nn, hnn⟩ : ∃ nn, nn = s.b.length - p - 2 := ⟨_, rfl⟩
  have hd1 : ((s.b.length : Int) - p) = ((2 + nn : Nat) : Int) := by omega
  have hd2 : (((2 + nn : Nat) : Int) - 2) = (nn : Int) := by omega
  rw [← hnn]
  have hop2 : St w0 (Reads 1 (.slice a1 s.op.length c1) s.op.length (s.op.flatMap fun n : Nat => [Value.int .i64 n])) w := by
    rw [← List.map_eq_flatMap]
    exact h.gives (B := Reads 1 (.slice a1 s.op.length c1) s.op.length (opR s.op))
  obtain ⟨_, a', c', hv, _, hcl⟩ := St.rowsAt (k := 1) (l := s.op) (enc := fun n : Nat => [Value.int .i64 n]) (fun _ => rfl) (by decide) hop2
  simp only [Value.slice.injEq, true_and] at hv
  obtain ⟨rfl, rfl⟩ := hv
  obtain ⟨g1, o1, rfl, _, hc1⟩ := hcl op'.length (by omega)
  have hob := ok.op
  have hlast : s.op[op'.length]'(by omega) = p := by simp only [hop]; simp
  have hc1 := hc1 0 (by decide)
  rw [hlast] at hc1
  simp only [Nat.mul_one, Nat.add_zero, List.getElem?_cons_zero] at hc1
  have hl1 : ((s.op.length : Int) - 1) = (op'.length : Nat) := by omega
  have hl2 : ¬ ((op'.length : Nat) : Int) < 0 := by omega
  have hl3 : ((op'.length : Nat) : Int) < s.op.length := by omega
  have hp1 : (p : Int) < s.b.length := by omega
  have hp2 : ((p : Int) + 1) < s.b.length := by omega
  have hp3 : ((p : Int) + 1).toNat = p + 1 := by omega
  by_cases hbig : 65535 < (nn : Int)
  · simp -dsimp -implicitDefEqProofs (disch := omega) only [go_sem, reqD_of, dec_t, dec_f, wrap_i64, wrap_u32, wrap_u64, wrap_u8, h.cl W, h0, hl1, hl2, hl3, hc1, hd1, hd2, hbig]
    rw [if_pos (by omega)]
    refine h.sto (b := W) (off := 3) (by simp) rfl fun w2 h2 => ?_
    simp only [List.setIfInBounds_toArray, List.set_cons_succ, List.set_cons_zero] at h2
    simp -dsimp -implicitDefEqProofs (disch := omega) only [go_sem, reqD_of, dec_t, dec_f, wrap_i64, wrap_u32, wrap_u64, wrap_u8]
    exact WP.mk h2
  · simp -dsimp -implicitDefEqProofs (disch := omega) only [go_sem, reqD_of, dec_t, dec_f, wrap_i64, wrap_u32, wrap_u64, wrap_u8, h.cl W, h0, hl1, hl2, hl3, hc1, hd1, hd2, hbig, hp1]
    rw [if_neg (by omega)]
    rw [byte_of]
    refine h.rowSet1 (n := s.b.length) (c := c0) (k := p) (by simp; omega) rfl fun w2 h2 => ?_
    simp -dsimp -implicitDefEqProofs (disch := omega) only [go_sem, reqD_of, dec_t, dec_f, wrap_i64, wrap_u32, wrap_u64, wrap_u8, h2.cl W, hp1, hp2, hp3]
    rw [shr8, byte_of]
    refine h2.rowSet1 (n := s.b.length) (c := c0) (k := p + 1) (by simp; omega) rfl fun w3 h3 => ?_
    have hl4 : ((op'.length : Nat) : Int) ≤ c1 := by omega
    simp -dsimp -implicitDefEqProofs (disch := omega) only [go_sem, reqD_of, dec_t, dec_f, wrap_i64, wrap_u32, wrap_u64, wrap_u8, h3.cl W, hl4]
    refine h3.sto (b := W) (off := 2) (by simp) rfl fun w4 h4 => ?_
    simp only [List.setIfInBounds_toArray, List.set_cons_succ, List.set_cons_zero, ite_self] at h4
    simp -dsimp -implicitDefEqProofs (disch := omega) only [go_sem, reqD_of, dec_t, dec_f, wrap_i64, wrap_u32, wrap_u64, wrap_u8]
    refine WP.mk (v := .slice (some ⟨g0, o0, none⟩) s.b.length c0) (u := .slice (some ⟨g1, o1, none⟩) op'.length c1) (WU.of (n := s.b.length) (xs := ((byR s.b).set p (bv (UInt8.ofNat (nn % 256)))).set (p + 1) (bv (UInt8.ofNat (nn / 256 % 256)))) (by simp [setB]) (by simp [byR, setB, List.map_set]) ?_)
    have e2 : s.op.dropLast = op' := by rw [hop]; simp
    show St w0 (Blk W (wB s _ _) * (RowO _ _ _ _ _ * (RowO _ _ _ s.op.dropLast.length (opR s.op.dropLast) * F))) w4
    rw [e2]
    have h5 := h4.ac (show _ = RowO 3 1 (.slice (some ⟨g1, o1, none⟩) s.op.length c1) s.op.length (opR s.op) * (Blk W (wB s (.slice (some ⟨g0, o0, none⟩) s.b.length c0) (.slice (some ⟨g1, o1, none⟩) op'.length c1)) * (RowO 5 1 (.slice (some ⟨g0, o0, none⟩) s.b.length c0) s.b.length (((byR s.b).set p (bv (UInt8.ofNat (nn % 256)))).set (p + 1) (bv (UInt8.ofNat (nn / 256 % 256)))) * F)) by ac_rfl)
    have h6 := h5.ent (Ent.sep (RowO.keep (k := op'.length) (by omega) (by omega)) (Ent.rfl' _))
    have e3 : (opR s.op).take (op'.length * 1) = opR op' := by rw [hop]; simp [opR]
    rw [e3] at h6
    exact h6.ac (by ac_rfl)
end
section
attribute [local go_sem] F23.t5_eq F23.t3_eq
theorem done_err (h0 : s.err ≠ 0) (h : St w0 (WP W s * F) w) :
    Calls Tryz.prog 23 #[.pointer (some ⟨W, 0, none⟩)] w fun e w' => St w0 F w' ∧ e = .returned (.tuple #[.slice none 0 0, .int .i64 s.err]) := by
  obtain ⟨v, u, h⟩ := WP.open h
  refine F23.calls (by simp) ?_
  unfold F23.code
  have hD := h.drew
  simp -dsimp -implicitDefEqProofs (disch := omega) only [go_sem, reqD_of, dec_t, dec_f, wrap_i64, wrap_u32, wrap_u64, wrap_u8, h.cl W, hD.cl W, h0]
  exact hD.right.right.right
theorem done_ok (ok : WOk s) (h0 : s.err = 0) (hop : s.op = []) (h : St w0 (WP W s * F) w) :
    Calls Tryz.prog 23 #[.pointer (some ⟨W, 0, none⟩)] w fun e w' => ∃ v, St w0 (RowO 5 1 v s.b.length (byR s.b) * F) w' ∧ e = .returned (.tuple #[v, .int .i64 0]) := by
  obtain ⟨v, u, h⟩ := WP.open h
  have hb := ok.b
  have hlim := ok.lim
  refine F23.calls (by simp) ?_
  unfold F23.code
  obtain ⟨a0, c0, rfl, _⟩ := h.rowForm v
  obtain ⟨a1, c1, rfl, _⟩ := h.rowForm u
  have hop0 : (s.op.length : Int) = 0 := by rw [hop]; rfl
  simp -dsimp -implicitDefEqProofs (disch := omega) only [go_sem, reqD_of, dec_t, dec_f, wrap_i64, wrap_u32, wrap_u64, wrap_u8, h.cl W, h0, hop0]
  refine (h.nilR 5 1).app (v := .slice none 0 0) (x := .slice a0 s.b.length c0) fact_rowTy_28 ((Ent.right _ _).trans ((Ent.right _ _).trans ((Ent.left _ _).trans (RowO.reads _ _ _ _ _)))) Tryz.underlying28 byR_cells (fun h => by have := congrArg List.length h; simpa [byR] using this) (show 0 + s.b.length ≤ 9223372036854775807 by omega) (show (0 + s.b.length) * 1 ≤ 140737488355328 by omega) fun v3 w3 h3 => ?_
  rw [Nat.zero_add, List.nil_append] at h3
  simp -dsimp -implicitDefEqProofs (disch := omega) only [go_sem, reqD_of, dec_t, dec_f, wrap_i64, wrap_u32, wrap_u64, wrap_u8]
  exact ⟨v3, h3.ent (Ent.sep (Ent.rfl' _) ((Ent.right _ _).trans ((Ent.right _ _).trans (Ent.right _ _)))), rfl⟩
end
section
attribute [local go_sem] F19.t3_eq
theorem newWriter_any {n : Nat} (hn : n ≤ 16777216) (h : St w0 F w) :
    Calls Tryz.prog 19 #[.int .i64 n] w fun e w' => ∃ W, St w0 (WP W ⟨n, [], [], 0⟩ * F) w' ∧ e = .returned (.tuple #[.pointer (some ⟨W, 0, none⟩), .int .i64 0]) := by
  refine F19.calls (by simp) ?_
  unfold F19.code
  have h1 : ¬ (n : Int) < 0 := by omega
  have h2 : ¬ 16777216 < (n : Int) := by omega
  simp -dsimp -implicitDefEqProofs (disch := omega) only [go_sem, reqD_of, dec_t, dec_f, wrap_i64, wrap_u32, wrap_u64, wrap_u8, h1, h2]
  refine onV_of (v := .agg #[.int .i64 n, .slice none 0 0, .slice none 0 0, .int .i64 0]) rfl ?_
  simp -dsimp -implicitDefEqProofs (disch := omega) only [go_sem, reqD_of, dec_t, dec_f, wrap_i64, wrap_u32, wrap_u64, wrap_u8]
  refine h.new fun W w1 h3 => ?_
  simp -dsimp -implicitDefEqProofs (disch := omega) only [go_sem, reqD_of, dec_t, dec_f, wrap_i64, wrap_u32, wrap_u64, wrap_u8]
  refine ⟨W, ?_, rfl⟩
  have h4 := (h3.nilR 5 1)
  have h5 := (h4.nilR 3 1)
  exact WP.mk (s := ⟨n, [], [], 0⟩) (v := .slice none 0 0) (u := .slice none 0 0) (h5.ac (by show RowO _ _ _ _ _ * (RowO _ _ _ _ _ * (Blk W _ * F)) = Blk W _ * (RowO _ _ _ _ _ * (RowO _ _ _ _ _ * F)); ac_rfl))
end
end
end Go.Proofs.YtmiohkmcnppaeaaGreatDoor

namespace Go.Proofs.YtmiohkmcnppaeaaGreatDoor
open Go
set_option linter.unusedVariables false
set_option linter.unusedSimpArgs false
set_option maxRecDepth 100000

abbrev statC (d : StatD) : List Value := [.int .u16 d.ty, .int .u32 d.dev, .int .u8 d.qk, .int .u32 d.qv, .int .u64 d.qp, .int .u32 d.mode, .int .u32 d.at', .int .u32 d.mt, .int .u64 d.len, sv d.name, sv d.uid, sv d.gid, sv d.muid]
structure StatOk (d : StatD) : Prop where
  ty : d.ty < 65536
  dev : d.dev < 4294967296
  qk : d.qk < 256
  qv : d.qv < 4294967296
  qp : d.qp < 18446744073709551616
  mode : d.mode < 4294967296
  at' : d.at' < 4294967296
  mt : d.mt < 4294967296
  len : d.len < 18446744073709551616
  name : d.name.length ≤ 2147483648
  uid : d.uid.length ≤ 2147483648
  gid : d.gid.length ≤ 2147483648
  muid : d.muid.length ≤ 2147483648
theorem WOk.open {s : WS} (h : WOk s) (hop : s.op.length ≤ 10) : WOk (openS s) := by
  unfold openS
  split
  · rename_i k
    simp only [hasRoom, decide_eq_true_eq] at k
    exact ⟨h.lim, by simp only [List.length_append, List.length_cons, List.length_nil]; exact k.2, by simp only [List.length_append, List.length_cons, List.length_nil]; omega⟩
  · exact h.room
theorem WOk.shut {s : WS} {p : Nat} (h : WOk s) : WOk (shutS p s) := by
  unfold shutS
  split
  · exact h
  split
  · exact h.err
  · exact ⟨h.lim, by simp only [setB, List.length_set]; exact h.b, by simp only [List.length_dropLast]; have := h.op; omega⟩
theorem WOk.pc {s : WS} {p : Pc} (h : WOk s) : WOk (pcS p s) := by
  cases p with
  | raw l => exact h.raw
  | txt l => exact h.text
theorem WOk.pcs {ps : List Pc} : ∀ {s : WS}, WOk s → WOk (pcsS ps s) := by
  induction ps with
  | nil => exact fun h => h
  | cons p ps ih => exact fun h => ih h.pc
theorem WOk.stat {s : WS} {d : StatD} (h : WOk s) (hop : s.op.length ≤ 10) : WOk (statS d s) := (h.open hop).pcs.shut
theorem statS_pre {d : StatD} {s : WS} (h : WOk s) (he : (pcsS d.pcs (openS s)).err = 0) : (pcsS d.pcs (openS s)).op = s.op ++ [placeS s] ∧ placeS s + 2 ≤ (pcsS d.pcs (openS s)).b.length := by
  by_cases hr : hasRoom 2 s = true
  · have e1 : openS s = { s with b := s.b ++ [0, 0], op := s.op ++ [s.b.length] } := by unfold openS; rw [if_pos hr]
    have e2 : placeS s = s.b.length := by unfold placeS; rw [if_pos hr]
    simp only [hasRoom, decide_eq_true_eq] at hr
    rw [e1] at he ⊢
    rw [e2]
    rcases pcsS_law (ps := d.pcs) (s := { s with b := s.b ++ [0, 0], op := s.op ++ [s.b.length] }) hr.1 (by simpa using hr.2) with ⟨k1, k2, k3⟩ | ⟨k1, k2⟩
    · rw [k3]
      exact ⟨rfl, by simp only [List.length_append, List.length_cons, List.length_nil]; omega⟩
    · exact absurd he k2
  · have hx : (openS s).err ≠ 0 := by
      unfold openS roomS
      rw [if_neg hr]
      by_cases h0 : s.err = 0
      · have hr2 : s.lim < s.b.length + 2 := by
          simp only [hasRoom, decide_eq_true_eq, h0, true_and] at hr
          omega
        rw [if_pos ⟨h0, hr2⟩]
        exact (show (11 : Int) ≠ 0 by decide)
      · rw [if_neg (fun k => h0 k.1)]
        exact h0
    rw [pcsS_err hx] at he
    exact absurd he hx
theorem placeS_le {s : WS} (h : WOk s) : placeS s ≤ 16777216 := by
  unfold placeS
  have := h.b
  have := h.lim
  split <;> omega
section
variable {w0 w : World} {F : HP} {W : Nat} {s : WS} {v u : Value}
section
attribute [local go_sem] F102.t2_eq
theorem putQid_any {qk qv qp : Nat} (ok : WOk s) (h1 : qk < 256) (h2 : qv < 4294967296) (h3 : qp < 18446744073709551616) (h : St w0 (WP W s * F) w) :
    Calls Tryz.prog 102 #[.pointer (some ⟨W, 0, none⟩), .agg #[.int .u8 qk, .int .u32 qv, .int .u64 qp]] w fun e w' => St w0 (WP W (rawS (leN 8 qp) (rawS (leN 4 qv) (rawS (leN 1 qk) s))) * F) w' ∧ e = .returned (.tuple #[]) := by
  refine F102.calls (by simp) ?_
  unfold F102.code
  simp -dsimp -implicitDefEqProofs (disch := omega) only [go_sem, reqD_of, dec_t, dec_f, wrap_i64, wrap_u32, wrap_u64, wrap_u8]
  refine h.new fun X w1 k1 => ?_
  simp -dsimp -implicitDefEqProofs (disch := omega) only [go_sem, reqD_of, dec_t, dec_f, wrap_i64, wrap_u32, wrap_u64, wrap_u8, k1.cl X]
  refine (U8_any ok h1 (k1.ac (show _ = WP W s * (Blk X (.cells #[.int .u8 qk, .int .u32 qv, .int .u64 qp] 35 (0, 0)) * F) by ac_rfl))).mono ?_
  rintro e w2 ⟨k2, rfl⟩
  simp -dsimp -implicitDefEqProofs (disch := omega) only [go_sem, reqD_of, dec_t, dec_f, wrap_i64, wrap_u32, wrap_u64, wrap_u8, k2.cl X]
  refine (U32_any ok.raw h2 k2).mono ?_
  rintro e w3 ⟨k3, rfl⟩
  simp -dsimp -implicitDefEqProofs (disch := omega) only [go_sem, reqD_of, dec_t, dec_f, wrap_i64, wrap_u32, wrap_u64, wrap_u8, k3.cl X]
  refine (U64_any ok.raw.raw h3 k3).mono ?_
  rintro e w4 ⟨k4, rfl⟩
  simp -dsimp -implicitDefEqProofs (disch := omega) only [go_sem, reqD_of, dec_t, dec_f, wrap_i64, wrap_u32, wrap_u64, wrap_u8]
  exact k4.ent (Ent.sep (Ent.rfl' _) (Ent.right _ _))
end
section
attribute [local go_sem] F178.t14_eq F178.t12_eq F178.t15_eq F178.t2_eq
theorem putStat_any {d : StatD} [Gives F Tabs] (ok : WOk s) (hop : s.op.length ≤ 10) (hd : StatOk d) (h : St w0 (WP W s * F) w) :
    Calls Tryz.prog 178 #[.pointer (some ⟨W, 0, none⟩), .agg (statC d).toArray] w fun e w' => St w0 (WP W (statS d s) * F) w' ∧ e = .returned (.tuple #[]) := by
  refine F178.calls (by simp) ?_
  unfold F178.code
  simp -dsimp -implicitDefEqProofs (disch := omega) only [go_sem, reqD_of, dec_t, dec_f, wrap_i64, wrap_u32, wrap_u64, wrap_u8]
  refine h.new fun X w1 k1 => ?_
  have k1 : St w0 (Blk X (.cells (statC d).toArray 37 (0, 0)) * (WP W s * F)) w1 := k1
  simp -dsimp -implicitDefEqProofs (disch := omega) only [go_sem, reqD_of, dec_t, dec_f, wrap_i64, wrap_u32, wrap_u64, wrap_u8]
  refine (open_any ok hop (k1.ac (show _ = WP W s * (Blk X (.cells (statC d).toArray 37 (0, 0)) * F) by ac_rfl))).mono ?_
  rintro e w2 ⟨k2, rfl⟩
  have o1 := ok.open hop
  simp -dsimp -implicitDefEqProofs (disch := omega) only [go_sem, reqD_of, dec_t, dec_f, wrap_i64, wrap_u32, wrap_u64, wrap_u8, k2.cl X]
  refine (U16_any (n := d.ty) o1 hd.ty k2).mono ?_
  rintro e w3 ⟨k3, rfl⟩
  have o2 := o1.raw (l := leN 2 d.ty)
  simp -dsimp -implicitDefEqProofs (disch := omega) only [go_sem, reqD_of, dec_t, dec_f, wrap_i64, wrap_u32, wrap_u64, wrap_u8, k3.cl X]
  refine (U32_any (n := d.dev) o2 hd.dev k3).mono ?_
  rintro e w4 ⟨k4, rfl⟩
  have o3 := o2.raw (l := leN 4 d.dev)
  simp -dsimp -implicitDefEqProofs (disch := omega) only [go_sem, reqD_of, dec_t, dec_f, wrap_i64, wrap_u32, wrap_u64, wrap_u8, k4.cl X]
  refine (putQid_any o3 hd.qk hd.qv hd.qp k4).mono ?_
  rintro e w5 ⟨k5, rfl⟩
  have o4 := ((o3.raw (l := leN 1 d.qk)).raw (l := leN 4 d.qv)).raw (l := leN 8 d.qp)
  simp -dsimp -implicitDefEqProofs (disch := omega) only [go_sem, reqD_of, dec_t, dec_f, wrap_i64, wrap_u32, wrap_u64, wrap_u8, k5.cl X]
  refine (U32_any (n := d.mode) o4 hd.mode k5).mono ?_
  rintro e w6 ⟨k6, rfl⟩
  have o5 := o4.raw (l := leN 4 d.mode)
  simp -dsimp -implicitDefEqProofs (disch := omega) only [go_sem, reqD_of, dec_t, dec_f, wrap_i64, wrap_u32, wrap_u64, wrap_u8, k6.cl X]
  refine (U32_any (n := d.at') o5 hd.at' k6).mono ?_
  rintro e w7 ⟨k7, rfl⟩
  have o6 := o5.raw (l := leN 4 d.at')
  simp -dsimp -implicitDefEqProofs (disch := omega) only [go_sem, reqD_of, dec_t, dec_f, wrap_i64, wrap_u32, wrap_u64, wrap_u8, k7.cl X]
  refine (U32_any (n := d.mt) o6 hd.mt k7).mono ?_
  rintro e w8 ⟨k8, rfl⟩
  have o7 := o6.raw (l := leN 4 d.mt)
  simp -dsimp -implicitDefEqProofs (disch := omega) only [go_sem, reqD_of, dec_t, dec_f, wrap_i64, wrap_u32, wrap_u64, wrap_u8, k8.cl X]
  refine (U64_any (n := d.len) o7 hd.len k8).mono ?_
  rintro e w9 ⟨k9, rfl⟩
  have o8 := o7.raw (l := leN 8 d.len)
  simp -dsimp -implicitDefEqProofs (disch := omega) only [go_sem, reqD_of, dec_t, dec_f, wrap_i64, wrap_u32, wrap_u64, wrap_u8, k9.cl X]
  refine k9.lit (n := 4) (cells := [sv d.name, sv d.uid, sv d.gid, sv d.muid]) fact_rowTy_31 rfl (by decide) (by decide) fun v2 w10 k10 => ?_
  obtain ⟨a2, c2, rfl, _⟩ := k10.rowForm v2
  simp -dsimp -implicitDefEqProofs (disch := omega) only [go_sem, reqD_of, dec_t, dec_f, wrap_i64, wrap_u32, wrap_u64, wrap_u8]
  obtain ⟨s9, hs9⟩ : ∃ s9, s9 = rawS (leN 8 d.len) (rawS (leN 4 d.mt) (rawS (leN 4 d.at') (rawS (leN 4 d.mode) (rawS (leN 8 d.qp) (rawS (leN 4 d.qv) (rawS (leN 1 d.qk) (rawS (leN 4 d.dev) (rawS (leN 2 d.ty) (openS s))))))))) := ⟨_, rfl⟩
  rw [← hs9] at k10 o8
  have hfin : pcsS ([d.name, d.uid, d.gid, d.muid].map Pc.txt) s9 = pcsS d.pcs (openS s) := by rw [hs9]; rfl
  obtain ⟨ts, hts⟩ : ∃ ts, ts = [d.name, d.uid, d.gid, d.muid] := ⟨_, rfl⟩
  have htl : ts.length = 4 := by rw [hts]; rfl
  have htb : ∀ l ∈ ts, l.length ≤ 2147483648 := by
    intro l hl
    rw [hts] at hl
    simp only [List.mem_cons, List.not_mem_nil, or_false] at hl
    rcases hl with rfl | rfl | rfl | rfl
    · exact hd.name
    · exact hd.uid
    · exact hd.gid
    · exact hd.muid
  have hcells : [sv d.name, sv d.uid, sv d.gid, sv d.muid] = ts.flatMap fun l => [sv l] := by rw [hts]; rfl
  rw [hcells] at k10
  rw [← hts] at hfin
  have k11 : St w0 (WP W (pcsS ((ts.take 0).map Pc.txt) s9) * (RowO 9 1 (.slice a2 4 c2) 4 (ts.flatMap fun l => [sv l]) * F)) w10 := (k10.ac (show _ = Blk X (.cells (statC d).toArray 37 (0, 0)) * (WP W s9 * (RowO 9 1 (.slice a2 4 c2) 4 (ts.flatMap fun l => [sv l]) * F)) by ac_rfl)).right
  have hop10 : placeS s ≤ 16777216 := placeS_le ok
  refine loop_intro (fun e w' => e.ds = [] ∧ e.ρ 0 = .pointer (some ⟨W, 0, none⟩) ∧ e.ρ 4 = .int .i64 (placeS s : Nat) ∧ e.ρ 47 = .slice a2 4 c2 ∧ e.ρ 48 = .int .i64 4 ∧ ∃ i : Nat, i ≤ 4 ∧ e.ρ 49 = .int .i64 i ∧
      St w0 (WP W (pcsS ((ts.take i).map Pc.txt) s9) * (RowO 9 1 (.slice a2 4 c2) 4 (ts.flatMap fun l => [sv l]) * F)) w')
    (fun e _ => match e.ρ 49 with | .int _ i => (4 - i).toNat | _ => 0) ?_ ?_
  · exact ⟨rfl, by simp -dsimp -implicitDefEqProofs only [go_sem], by simp -dsimp -implicitDefEqProofs only [go_sem], by simp -dsimp -implicitDefEqProofs only [go_sem], by simp -dsimp -implicitDefEqProofs only [go_sem], 0, by omega, by simp -dsimp -implicitDefEqProofs only [go_sem], k11⟩
  clear h k1 k2 k3 k4 k5 k6 k7 k8 k9 k10 k11
  rintro e w ⟨hd, e0, e4, e47, e48, i, hi, e49, h⟩
  have o9 : WOk (pcsS ((ts.take i).map Pc.txt) s9) := o8.pcs
  by_cases hlt : (i : Int) < 4
  · have hil : i < ts.length := by omega
    obtain ⟨_, a', c', hv, _, hcl⟩ := St.rowsAt (k := 1) (l := ts) (fun _ => rfl) (by decide) ((h.ent (Ent.right _ _)).ent ((Ent.left _ _).trans (RowO.reads _ _ _ _ _)))
    simp only [Value.slice.injEq, true_and] at hv
    obtain ⟨rfl, rfl⟩ := hv
    obtain ⟨g, o, rfl, _, hc⟩ := hcl i hil
    have hc := hc 0 (by decide)
    simp only [Nat.mul_one, Nat.add_zero, List.getElem?_cons_zero] at hc
    simp -dsimp -implicitDefEqProofs (disch := omega) only [go_sem, reqD_of, dec_t, dec_f, wrap_i64, wrap_u32, wrap_u64, wrap_u8, hd, e0, e4, e47, e48, e49, hlt, hc]
    refine (text_any (l := ts[i]) o9 (by have := htb _ (List.getElem_mem hil); omega) h).mono ?_
    rintro e' w1 ⟨h1, rfl⟩
    simp -dsimp -implicitDefEqProofs (disch := omega) only [go_sem, reqD_of, dec_t, dec_f, wrap_i64, wrap_u32, wrap_u64, wrap_u8, hd, e0, e4, e47, e48, e49]
    refine ⟨⟨i + 1, by omega, by omega, ?_⟩, by omega⟩
    have e1 : pcsS ((ts.take (i + 1)).map Pc.txt) s9 = textS ts[i] (pcsS ((ts.take i).map Pc.txt) s9) := by
      rw [List.take_succ_eq_append_getElem hil]
      simp only [List.map_append, List.map_cons, List.map_nil, pcsS, List.foldl_append, List.foldl_cons, List.foldl_nil, pcS]
    rw [e1]
    exact h1
  · obtain rfl : i = 4 := by omega
    rw [List.take_of_length_le (by omega), hfin] at h o9
    simp -dsimp -implicitDefEqProofs (disch := omega) only [go_sem, reqD_of, dec_t, dec_f, wrap_i64, wrap_u32, wrap_u64, wrap_u8, hd, e0, e4, e47, e48, e49, hlt]
    have hpre := statS_pre (d := d) ok
    refine (shut_any (p := placeS s) (op' := s.op) o9 hpre h hop10).mono ?_
    rintro e' w1 ⟨h1, rfl⟩
    simp -dsimp -implicitDefEqProofs (disch := omega) only [go_sem, reqD_of, dec_t, dec_f, wrap_i64, wrap_u32, wrap_u64, wrap_u8, hd]
    exact h1.ent (Ent.sep (Ent.rfl' _) (Ent.right _ _))
end
end
end Go.Proofs.YtmiohkmcnppaeaaGreatDoor

namespace Go.Proofs.YtmiohkmcnppaeaaGreatDoor
open Go
set_option linter.unusedVariables false
set_option linter.unusedSimpArgs false
set_option maxRecDepth 100000

section
variable {w0 w : World} {F : HP} {d : StatD} {W M : Nat} {s : WS}
/-- A record behind its count. -/
def statS2 (d : StatD) (s : WS) : WS := shutS (placeS s) (statS d (openS s))
theorem WOk.stat2 (h : WOk s) (hop : s.op.length ≤ 9) : WOk (statS2 d s) := by
  have h1 := h.open (by omega)
  have h2 : (openS s).op.length ≤ 10 := by
    unfold openS roomS
    split
    · simp only [List.length_append, List.length_cons, List.length_nil]; omega
    · split <;> (show s.op.length ≤ 10; omega)
  exact (h1.stat h2).shut
theorem openS_op (hop : s.op.length ≤ 9) : (openS s).op.length ≤ 10 := by
  unfold openS roomS
  split
  · simp only [List.length_append, List.length_cons, List.length_nil]; omega
  · split <;> (show s.op.length ≤ 10; omega)
theorem openS_0 (h0 : (openS s).err = 0) : hasRoom 2 s = true := by
  cases hr : hasRoom 2 s with
  | true => rfl
  | false =>
    unfold openS roomS at h0
    rw [if_neg (by rw [hr]; decide)] at h0
    simp only [hasRoom, decide_eq_false_iff_not] at hr
    by_cases hs : s.err = 0
    · have : s.lim < s.b.length + 2 := by
        rcases Nat.lt_or_ge s.lim (s.b.length + 2) with h | h
        · exact h
        · exact absurd ⟨hs, h⟩ hr
      rw [if_pos ⟨hs, this⟩] at h0
      exact absurd h0 (show ¬ (11 : Int) = 0 by decide)
    · rw [if_neg (fun k => hs k.1)] at h0
      exact absurd h0 hs
theorem statS2_pre (ok : WOk s) (hop : s.op.length ≤ 9) (he : (statS d (openS s)).err = 0) : (statS d (openS s)).op = s.op ++ [placeS s] ∧ placeS s + 2 ≤ (statS d (openS s)).b.length := by
  have h0 : (openS s).err = 0 := by
    rcases Decidable.em ((openS s).err = 0) with h | h
    · exact h
    · exact absurd he (statS_err h)
  have hr := openS_0 h0
  have e1 : openS s = { s with b := s.b ++ [0, 0], op := s.op ++ [s.b.length] } := by unfold openS; rw [if_pos hr]
  have e2 : placeS s = s.b.length := by unfold placeS; rw [if_pos hr]
  rcases statS_law (d := d) h0 (ok.open (by omega)).b with ⟨_, _, _, hl⟩ | ⟨_, hl⟩
  · rw [hl, e2, e1]
    exact ⟨rfl, by simp only [List.length_append, List.length_cons, List.length_nil]; omega⟩
  · exact absurd he hl

theorem putStat2_any [Gives F Tabs] (ok : WOk s) (hop : s.op.length ≤ 9) (hd : StatOk d) (h : St w0 (WP W s * F) w) :
    Calls Tryz.prog 158 #[.pointer (some ⟨W, 0, none⟩), .agg (statC d).toArray] w fun e w' => St w0 (WP W (statS2 d s) * F) w' ∧ e = .returned (.tuple #[]) := by
  refine F158.calls (by simp) ?_
  unfold F158.code
  simp -dsimp -implicitDefEqProofs (disch := omega) only [go_sem, reqD_of, dec_t, dec_f, wrap_i64, wrap_u32, wrap_u64, wrap_u8]
  refine h.new fun X w1 k1 => ?_
  have k1 : St w0 (Blk X (.cells (statC d).toArray 37 (0, 0)) * (WP W s * F)) w1 := k1
  simp -dsimp -implicitDefEqProofs (disch := omega) only [go_sem, reqD_of, dec_t, dec_f, wrap_i64, wrap_u32, wrap_u64, wrap_u8]
  refine (open_any ok (by omega) (k1.ac (show _ = WP W s * (Blk X (.cells (statC d).toArray 37 (0, 0)) * F) by ac_rfl))).mono ?_
  rintro e w2 ⟨k2, rfl⟩
  simp -dsimp -implicitDefEqProofs (disch := omega) only [go_sem, reqD_of, dec_t, dec_f, wrap_i64, wrap_u32, wrap_u64, wrap_u8, k2.cl X]
  refine (putStat_any (ok.open (by omega)) (openS_op hop) hd k2).mono ?_
  rintro e w3 ⟨k3, rfl⟩
  simp -dsimp -implicitDefEqProofs (disch := omega) only [go_sem, reqD_of, dec_t, dec_f, wrap_i64, wrap_u32, wrap_u64, wrap_u8]
  refine (shut_any (p := placeS s) (op' := s.op) ((ok.open (by omega)).stat (openS_op hop)) (statS2_pre ok hop) k3 (placeS_le ok)).mono ?_
  rintro e w4 ⟨k4, rfl⟩
  simp -dsimp -implicitDefEqProofs (disch := omega) only [go_sem, reqD_of, dec_t, dec_f, wrap_i64, wrap_u32, wrap_u64, wrap_u8]
  exact k4.ent (Ent.sep (Ent.rfl' _) (Ent.right _ _))
end
theorem statS2_law {d : StatD} {s : WS} (ok : WOk s) (h : s.err = 0) :
    (d.ok = true ∧ s.b.length + 2 + d.size ≤ s.lim ∧ d.size ≤ 65535 ∧ statS2 d s = { s with b := s.b ++ (leN 2 d.size ++ d.bytes) }) ∨ (¬ (d.ok = true ∧ s.b.length + 2 + d.size ≤ s.lim ∧ d.size ≤ 65535) ∧ (statS2 d s).err ≠ 0) := by
  have hbl := d.bytes_len
  by_cases h2 : s.b.length + 2 ≤ s.lim
  · have e1 : openS s = { s with b := s.b ++ [0, 0], op := s.op ++ [s.b.length] } := by unfold openS hasRoom; rw [if_pos (by simp [h, h2])]
    have e2 : placeS s = s.b.length := by unfold placeS hasRoom; rw [if_pos (by simp [h, h2])]
    unfold statS2
    rw [e1, e2]
    rcases statS_law (d := d) (s := { s with b := s.b ++ [0, 0], op := s.op ++ [s.b.length] }) h (by simpa using h2) with ⟨k1, k2, k4, k3⟩ | ⟨k1, k2⟩
    · rw [k3]
      have k2' : s.b.length + 2 + d.size ≤ s.lim := by simpa using k2
      have hn : (s.b ++ [0, 0] ++ d.bytes).length - s.b.length - 2 = d.size := by
        simp only [List.length_append, List.length_cons, List.length_nil]
        omega
      unfold shutS
      simp only [hn, h]
      rw [if_neg (by simp)]
      by_cases h3 : 65535 < d.size
      · rw [if_pos h3]
        exact .inr ⟨fun k => by omega, (show (13 : Int) ≠ 0 by decide)⟩
      · rw [if_neg h3]
        refine .inl ⟨k1, k2', by omega, ?_⟩
        have e3 : s.b ++ [0, 0] ++ d.bytes = s.b ++ (0 : UInt8) :: 0 :: d.bytes := by simp
        rw [e3, setB_at]
        simp [h]
    · refine .inr ⟨fun k => k1 ⟨k.1, ?_, by omega⟩, ?_⟩
      · simp only [List.length_append, List.length_cons, List.length_nil]
        omega
      · unfold shutS
        rw [if_pos k2]
        exact k2
  · have e1 : (openS s).err ≠ 0 := by
      unfold openS hasRoom roomS
      rw [if_neg (by simp; omega), if_pos ⟨h, by omega⟩]
      exact (show (11 : Int) ≠ 0 by decide)
    refine .inr ⟨fun k => by omega, ?_⟩
    have e2 := statS_err (d := d) e1
    unfold statS2 shutS
    rw [if_pos e2]
    exact e2
theorem statS2_err {d : StatD} {s : WS} (h : s.err ≠ 0) : (statS2 d s).err ≠ 0 := by
  have e1 : openS s = s := by unfold openS hasRoom roomS; rw [if_neg (by simp [h]), if_neg (by simp [h])]
  have e2 := statS_err (d := d) h
  unfold statS2 shutS
  rw [e1, if_pos e2]
  exact e2
theorem shr16 {m : Nat} : (m : Int).fdiv 65536 = ((m / 256 / 256 : Nat) : Int) := by
  rw [Int.fdiv_eq_ediv_of_nonneg _ (by decide)]
  omega
theorem shr24 {m : Nat} : (m : Int).fdiv 16777216 = ((m / 256 / 256 / 256 : Nat) : Int) := by
  rw [Int.fdiv_eq_ediv_of_nonneg _ (by decide)]
  omega
end Go.Proofs.YtmiohkmcnppaeaaGreatDoor

namespace Go.Proofs.YtmiohkmcnppaeaaGreatDoor
open Go
set_option linter.unusedVariables false
set_option linter.unusedSimpArgs false

structure QidD where
  k : Nat
  v : Nat
  p : Nat
structure MsgD where
  kind : Nat
  tag : Nat
  msize : Nat
  version : List UInt8
  afid : Nat
  uname : List UInt8
  aname : List UInt8
  ename : List UInt8
  oldtag : Nat
  fid : Nat
  newfid : Nat
  names : List (List UInt8)
  qids : List QidD
  qid : QidD
  mode : Nat
  iounit : Nat
  name : List UInt8
  perm : Nat
  offset : Nat
  count : Nat
  data : List UInt8
  stat : StatD
def zeroStat : StatD := ⟨0, 0, 0, 0, 0, 0, 0, 0, 0, [], [], [], []⟩
def zeroM : MsgD := ⟨0, 0, 0, [], 0, [], [], [], 0, 0, 0, [], [], ⟨0, 0, 0⟩, 0, 0, [], 0, 0, 0, [], zeroStat⟩
def qidPcs (q : QidD) : List Pc := [.raw (leN 1 q.k), .raw (leN 4 q.v), .raw (leN 8 q.p)]
/-- What a field is written as. -/
def pcsF (n : Nat) (m : MsgD) : List Pc :=
  match n with
  | 0 => [.raw (leN 4 m.msize)]
  | 1 => [.txt m.version]
  | 2 => [.raw (leN 4 m.afid)]
  | 3 => [.txt m.uname]
  | 4 => [.txt m.aname]
  | 5 => [.txt m.ename]
  | 6 => [.raw (leN 2 m.oldtag)]
  | 7 => [.raw (leN 4 m.fid)]
  | 8 => [.raw (leN 4 m.newfid)]
  | 9 => .raw (leN 2 m.names.length) :: m.names.map Pc.txt
  | 10 => .raw (leN 2 m.qids.length) :: m.qids.flatMap qidPcs
  | 11 => qidPcs m.qid
  | 12 => [.raw (leN 1 m.mode)]
  | 13 => [.raw (leN 4 m.iounit)]
  | 14 => [.txt m.name]
  | 15 => [.raw (leN 4 m.perm)]
  | 16 => [.raw (leN 8 m.offset)]
  | 17 => [.raw (leN 4 m.count)]
  | 18 => [.raw (leN 4 m.data.length), .raw m.data]
  | _ => []
def goodF (n : Nat) (m : MsgD) : Bool :=
  match n with
  | 1 => good m.version
  | 3 => good m.uname
  | 4 => good m.aname
  | 5 => good m.ename
  | 9 => decide (m.names.length ≤ 16) && m.names.all good
  | 10 => decide (m.qids.length ≤ 16)
  | 14 => good m.name
  | 19 => [m.stat.name, m.stat.uid, m.stat.gid, m.stat.muid].all good
  | _ => true
def putF (n : Nat) (m : MsgD) (s : WS) : WS := if n = 19 then statS2 m.stat s else pcsS (pcsF n m) s
def bytesF (n : Nat) (m : MsgD) : List UInt8 := if n = 19 then leN 2 m.stat.size ++ m.stat.bytes else bytesL (pcsF n m)
def okF (n : Nat) (m : MsgD) : Bool := if n = 19 then m.stat.ok && decide (m.stat.size ≤ 65535) else (pcsF n m).all Pc.ok
theorem putF_err {n : Nat} {m : MsgD} {s : WS} (h : s.err ≠ 0) : (putF n m s).err ≠ 0 := by
  unfold putF
  split
  · exact statS2_err h
  · rw [pcsS_err h]; exact h
theorem putF_law {n : Nat} {m : MsgD} {s : WS} (ok : WOk s) (h : s.err = 0) :
    (okF n m = true ∧ s.b.length + (bytesF n m).length ≤ s.lim ∧ putF n m s = { s with b := s.b ++ bytesF n m }) ∨ (¬ (okF n m = true ∧ s.b.length + (bytesF n m).length ≤ s.lim) ∧ (putF n m s).err ≠ 0) := by
  unfold putF okF bytesF
  split
  · have hbl := m.stat.bytes_len
    have e1 : s.b.length + (leN 2 m.stat.size ++ m.stat.bytes).length = s.b.length + 2 + m.stat.size := by rw [List.length_append, leN_length, hbl]; omega
    rw [e1]
    rcases statS2_law (d := m.stat) ok h with ⟨a, b, c, d⟩ | ⟨a, b⟩
    · exact .inl ⟨by simp [a, c], b, d⟩
    · refine .inr ⟨fun k => a ⟨?_, k.2, ?_⟩, b⟩
      · have := k.1; simp only [Bool.and_eq_true] at this; exact this.1
      · have := k.1; simp only [Bool.and_eq_true, decide_eq_true_eq] at this; exact this.2
  · exact pcsS_law h ok.b
theorem putF_ok {n : Nat} {m : MsgD} {s : WS} (ok : WOk s) (hop : s.op = []) : WOk (putF n m s) := by
  unfold putF
  split
  · exact ok.stat2 (by rw [hop]; decide)
  · exact ok.pcs
theorem pcS_op (p : Pc) (s : WS) : (pcS p s).op = s.op := by
  cases p with
  | raw l => show (rawS l s).op = s.op; unfold rawS roomS; split <;> (try split) <;> rfl
  | txt l =>
    show (textS l s).op = s.op
    unfold textS rawS roomS
    split
    · rfl
    split
    · rfl
    split
    · rfl
    split <;> (try split) <;> rfl
theorem pcsS_op : ∀ (ps : List Pc) (s : WS), (pcsS ps s).op = s.op
  | [], s => rfl
  | p :: ps, s => by show (pcsS ps (pcS p s)).op = s.op; rw [pcsS_op ps, pcS_op]
/-- All fields. -/
def putA (fs : List Nat) (m : MsgD) (s : WS) : WS := fs.foldl (fun s n => putF n m s) s
def bytesA (fs : List Nat) (m : MsgD) : List UInt8 := fs.flatMap fun n => bytesF n m
theorem putA_err : ∀ {fs : List Nat} {m : MsgD} {s : WS}, s.err ≠ 0 → (putA fs m s).err ≠ 0
  | [], _, _, h => h
  | n :: fs, m, s, h => by show (putA fs m (putF n m s)).err ≠ 0; exact putA_err (putF_err h)
theorem putA_law : ∀ {fs : List Nat} {m : MsgD} {s : WS}, WOk s → s.op = [] → s.err = 0 →
    (fs.all (okF · m) = true ∧ s.b.length + (bytesA fs m).length ≤ s.lim ∧ putA fs m s = { s with b := s.b ++ bytesA fs m }) ∨ (¬ (fs.all (okF · m) = true ∧ s.b.length + (bytesA fs m).length ≤ s.lim) ∧ (putA fs m s).err ≠ 0)
  | [], m, s, ok, hop, h => .inl ⟨rfl, by simpa [bytesA] using ok.b, by simp [putA, bytesA]⟩
  | n :: fs, m, s, ok, hop, h => by
    have e1 : putA (n :: fs) m s = putA fs m (putF n m s) := rfl
    have e2 : bytesA (n :: fs) m = bytesF n m ++ bytesA fs m := rfl
    rw [e1, e2]
    have o2 := putF_ok (n := n) (m := m) ok hop
    rcases putF_law (n := n) (m := m) ok h with ⟨h1, h2, h3⟩ | ⟨h1, h2⟩
    · rw [h3] at o2 ⊢
      rcases putA_law (fs := fs) (m := m) (s := { s with b := s.b ++ bytesF n m }) o2 hop h with ⟨k1, k2, k3⟩ | ⟨k1, k2⟩
      · simp only [List.length_append] at k2
        exact .inl ⟨by simp [List.all_cons, h1, k1], by simp only [List.length_append]; omega, by rw [k3]; simp⟩
      · refine .inr ⟨fun k => k1 ⟨?_, ?_⟩, k2⟩
        · have := k.1; simp only [List.all_cons, Bool.and_eq_true] at this; exact this.2
        · have := k.2; simp only [List.length_append] at this ⊢; omega
    · refine .inr ⟨fun k => h1 ⟨?_, ?_⟩, putA_err h2⟩
      · have := k.1; simp only [List.all_cons, Bool.and_eq_true] at this; exact this.1
      · have := k.2; simp only [List.length_append] at this; omega
/-- A field is moved. -/
def moveF (n : Nat) (t f : MsgD) : MsgD :=
  match n with
  | 0 => { t with msize := f.msize }
  | 1 => { t with version := f.version }
  | 2 => { t with afid := f.afid }
  | 3 => { t with uname := f.uname }
  | 4 => { t with aname := f.aname }
  | 5 => { t with ename := f.ename }
  | 6 => { t with oldtag := f.oldtag }
  | 7 => { t with fid := f.fid }
  | 8 => { t with newfid := f.newfid }
  | 9 => { t with names := f.names }
  | 10 => { t with qids := f.qids }
  | 11 => { t with qid := f.qid }
  | 12 => { t with mode := f.mode }
  | 13 => { t with iounit := f.iounit }
  | 14 => { t with name := f.name }
  | 15 => { t with perm := f.perm }
  | 16 => { t with offset := f.offset }
  | 17 => { t with count := f.count }
  | 18 => { t with data := f.data }
  | 19 => { t with stat := f.stat }
  | _ => t
def moveA (fs : List Nat) (t f : MsgD) : MsgD := fs.foldl (fun t n => moveF n t f) t
/-- Which fields a kind has. -/
def fieldsOf (k : Nat) : Option (List Nat) :=
  match k with
  | 100 => some [0, 1]
  | 101 => some [0, 1]
  | 102 => some [2, 3, 4]
  | 103 => some [11]
  | 104 => some [7, 2, 3, 4]
  | 105 => some [11]
  | 107 => some [5]
  | 108 => some [6]
  | 109 => some []
  | 110 => some [7, 8, 9]
  | 111 => some [10]
  | 112 => some [7, 12]
  | 113 => some [11, 13]
  | 114 => some [7, 14, 15, 12]
  | 115 => some [11, 13]
  | 116 => some [7, 16, 17]
  | 117 => some [18]
  | 118 => some [7, 16, 18]
  | 119 => some [17]
  | 120 => some [7]
  | 121 => some []
  | 122 => some [7]
  | 123 => some []
  | 124 => some [7]
  | 125 => some [19]
  | 126 => some [7, 19]
  | 127 => some []
  | _ => none
/-- A message's frame, with those fields; what it may have. -/
def frameM (fs : List Nat) (m : MsgD) : List UInt8 := leN 4 (7 + (bytesA fs m).length) ++ (leN 1 m.kind ++ (leN 2 m.tag ++ bytesA fs m))
def mayM (fs : List Nat) (m : MsgD) : Prop := fs.all (goodF · m) = true ∧ fs.all (okF · m) = true ∧ 7 + (bytesA fs m).length ≤ 65536
instance {fs : List Nat} {m : MsgD} : Decidable (mayM fs m) := by unfold mayM; exact inferInstance
def encF (m : MsgD) : Option (List UInt8) := (fieldsOf m.kind).bind fun fs => if mayM fs m then some (frameM fs m) else none
def cleanF (m : MsgD) : MsgD := moveA ((fieldsOf m.kind).getD []) { zeroM with kind := m.kind, tag := m.tag } m
theorem frameM_len (fs : List Nat) (m : MsgD) : (frameM fs m).length = 7 + (bytesA fs m).length := by
  simp only [frameM, List.length_append, leN_length]
  omega
theorem encF_some {m : MsgD} {b : List UInt8} (h : encF m = some b) : ∃ fs, fieldsOf m.kind = some fs ∧ mayM fs m ∧ b = frameM fs m := by
  unfold encF at h
  cases hf : fieldsOf m.kind with
  | none => rw [hf] at h; cases h
  | some fs =>
    rw [hf] at h
    simp only [Option.bind_some] at h
    by_cases hm : mayM fs m
    · rw [if_pos hm, Option.some.injEq] at h
      exact ⟨fs, rfl, hm, h.symm⟩
    · rw [if_neg hm] at h; cases h
end Go.Proofs.YtmiohkmcnppaeaaGreatDoor

namespace Go.Proofs.YtmiohkmcnppaeaaGreatDoor
open Go
set_option linter.unusedVariables false
set_option linter.unusedSimpArgs false
set_option maxRecDepth 100000

theorem or64 {s b k : Nat} (hs : s < 2 ^ k) (hb : b < 256) (hk : k + 8 ≤ 64) :
    IntKind.u64.wrap ((BitVec.ofInt IntKind.u64.bits (s : Int) ||| BitVec.ofInt IntKind.u64.bits (IntKind.u64.wrap ((b : Int) * 2 ^ k))).toNat : Int) = ((s + 2 ^ k * b : Nat) : Int) := by
  have h2 : 2 ^ k * b < 2 ^ (k + 8) := by rw [Nat.pow_add]; exact Nat.mul_lt_mul_of_pos_left (by omega) (Nat.two_pow_pos k)
  have h3 : 2 ^ (k + 8) ≤ 2 ^ 64 := Nat.pow_le_pow_right (by omega) hk
  have h4 : 2 ^ k ≤ 2 ^ 64 := Nat.pow_le_pow_right (by omega) (by omega)
  have e1 : ((b : Int) * 2 ^ k) = ((2 ^ k * b : Nat) : Int) := by push_cast; rw [Int.mul_comm]
  have hb64 : IntKind.u64.bits = 64 := rfl
  rw [e1, wrap_u64 (n := ((2 ^ k * b : Nat) : Int)) (by omega) (by omega), hb64]
  rw [BitVec.ofInt_natCast, BitVec.ofInt_natCast, BitVec.toNat_or, BitVec.toNat_ofNat, BitVec.toNat_ofNat, Nat.mod_eq_of_lt (by omega), Nat.mod_eq_of_lt (by omega), Nat.or_comm, ← Nat.two_pow_add_eq_or_of_lt hs]
  rw [wrap_u64 (by omega) (by
    have : 2 ^ k * b + s < 2 ^ (k + 8) := by
      rw [Nat.pow_add]
      have : 2 ^ k * b + 2 ^ k ≤ 2 ^ k * 2 ^ 8 := by rw [← Nat.mul_succ]; exact Nat.mul_le_mul_left _ (by omega)
      omega
    omega)]
  omega
theorem w16 {n : Nat} (h : n < 65536) : IntKind.u16.wrap (n : Int) = n := by
  simp only [IntKind.wrap, IntKind.signed, IntKind.bits, Bool.false_and, Bool.false_eq_true, if_false]
  omega
abbrev rB (v : Value) (at' : Nat) (ba : Int) (er : Int) (wh : Int) : Obj := .cells #[v, .int .i64 at', .int .i64 ba, .int .i64 er, .int .i64 wh] 104 (0, 0)
section
variable {w0 w : World} {F : HP} {R at' : Nat} {b : List UInt8} {v : Value} {ba wh : Int}
section
attribute [local go_sem] F112.t6_eq F112.t3_eq
theorem has_any {n : Nat} (hn : at' + n ≤ b.length) (hb : b.length ≤ 16777216) (hv : Ent F (RdB v b)) (h : St w0 (Blk R (rB v at' ba 0 wh) * F) w) :
    Calls Tryz.prog 112 #[.pointer (some ⟨R, 0, none⟩), .int .i64 n] w fun e w' => St w0 (Blk R (rB v at' ba 0 wh) * F) w' ∧ e = .returned (.bool true) := by
  refine F112.calls (by simp) ?_
  unfold F112.code
  obtain ⟨a, c, rfl, _⟩ := (h.ent ((Ent.right _ _).trans hv)).bytes
  have hD := h.drew
  have h1 : ¬ ((b.length : Int) - at') < n := by omega
  simp -dsimp -implicitDefEqProofs (disch := omega) only [go_sem, reqD_of, dec_t, dec_f, wrap_i64, wrap_u32, wrap_u64, wrap_u8, h.cl R, hD.cl R, h1]
  exact hD
theorem cell_reads {a : Option Addr} {c : Nat} {A : HP} (h : St w0 A w) (hr : Ent A (RdB (.slice a b.length c) b)) {i : Nat} (hi : i < b.length) : ∃ g o, a = some ⟨g, o, none⟩ ∧ w.cell? ⟨g, o + i, none⟩ = some (.int .u8 (b[i].toNat : Int)) := by
  obtain ⟨a', c', hv, _, hc⟩ := (h.ent hr).bytes
  simp only [Value.slice.injEq, true_and] at hv
  obtain ⟨rfl, rfl⟩ := hv
  rcases hc with rfl | ⟨g, o, rfl, hc⟩
  · simp at hi
  · refine ⟨g, o, rfl, ?_⟩
    rw [hc i hi]
    simp [bv, List.getD, List.getElem?_eq_getElem hi]
end
section
attribute [local go_sem] F53.t8_eq F53.t6_eq F53.t9_eq F53.t3_eq
theorem getu16_any {n : Nat} {width : Nat} {pre post : List UInt8} (hw : width ≤ 2) (hn : n < 256 ^ width) (hb : b = pre ++ (leN width n ++ post)) (hat : at' = pre.length) (hbl : b.length ≤ 16777216) (hv : Ent F (RdB v b)) (h : St w0 (Blk R (rB v at' ba 0 wh) * F) w) :
    Calls Tryz.prog 53 #[.pointer (some ⟨R, 0, none⟩), .int .i64 width] w fun e w' => St w0 (Blk R (rB v (at' + width) ba 0 wh) * F) w' ∧ e = .returned (.int .u16 n) := by
  have hlw := leN_length width n
  have hbw : at' + width ≤ b.length := by rw [hb, hat]; simp only [List.length_append, hlw]; omega
  have hbi : ∀ (i : Nat) (hi : i < width), b[at' + i]'(by omega) = (leN width n)[i]'(by omega) := by
    intro i hi
    simp only [hb, hat]
    rw [List.getElem_append_right (by omega)]
    simp only [Nat.add_sub_cancel_left]
    rw [List.getElem_append_left (by omega)]
  refine F53.calls (by simp) ?_
  unfold F53.code
  simp -dsimp -implicitDefEqProofs (disch := omega) only [go_sem, reqD_of, dec_t, dec_f, wrap_i64, wrap_u32, wrap_u64, wrap_u8]
  refine (has_any hbw hbl hv h).mono ?_
  rintro e w1 ⟨h1, rfl⟩
  obtain ⟨a, c, rfl, _⟩ := (h1.ent ((Ent.right _ _).trans hv)).bytes
  simp -dsimp -implicitDefEqProofs (disch := omega) only [go_sem, reqD_of, dec_t, dec_f, wrap_i64, wrap_u32, wrap_u64, wrap_u8]
  refine loop_intro (fun e w' => e.ds = [] ∧ e.ρ 0 = .pointer (some ⟨R, 0, none⟩) ∧ e.ρ 1 = .int .i64 width ∧ e.ρ 11 = .int .i64 width ∧ ∃ i : Nat, i ≤ width ∧ e.ρ 12 = .int .i64 i ∧ e.ρ 5 = .int .u64 (deN ((leN width n).take i) : Nat) ∧
      St w0 (Blk R (rB (.slice a b.length c) at' ba 0 wh) * F) w')
    (fun e _ => match e.ρ 12 with | .int _ i => (width - i).toNat | _ => 0) ?_ ?_
  · exact ⟨rfl, by simp -dsimp -implicitDefEqProofs only [go_sem], by simp -dsimp -implicitDefEqProofs only [go_sem], by simp -dsimp -implicitDefEqProofs only [go_sem], 0, by omega, by simp -dsimp -implicitDefEqProofs only [go_sem], by (simp -dsimp -implicitDefEqProofs only [go_sem]; rfl), h1⟩
  clear h h1
  rintro e w ⟨hds, e0, e1, e11, i, hi, e12, e5, h⟩
  by_cases hlt : (i : Int) < width
  · have hiw : i < width := by omega
    have hai : at' + i < b.length := by omega
    have hai2 : (at' : Int) + i < b.length := by omega
    have hai3 : ((at' : Int) + i).toNat = at' + i := by omega
    have hD := h.drew
    obtain ⟨g, o, rfl, c0⟩ := cell_reads hD ((Ent.right _ _).trans hv) hai
    rw [hbi i hiw] at c0
    obtain ⟨x, hx⟩ : ∃ x, x = (leN width n)[i]'(by omega) := ⟨_, rfl⟩
    rw [← hx] at c0
    have hx256 := x.toNat_lt
    simp -dsimp -implicitDefEqProofs (disch := omega) only [go_sem, reqD_of, dec_t, dec_f, wrap_i64, wrap_u32, wrap_u64, wrap_u8, hds, e0, e1, e11, e12, e5, hlt, hD.cl R, hai2, hai3, c0]
    refine ⟨⟨i + 1, by omega, by omega, ?_, hD⟩, by omega⟩
    have hm : (if (8 * (i : Int)).toNat ≤ 64 then (8 * (i : Int)).toNat else 64) = 8 * i := by rw [if_pos (by omega)]; omega
    have hp : 2 ^ (8 * i) = 256 ^ i := by rw [Nat.pow_mul]
    have hdl : deN ((leN width n).take i) < 256 ^ i := by
      have := deN_lt ((leN width n).take i)
      rwa [List.length_take, Nat.min_eq_left (by omega)] at this
    rw [hm, or64 (by rw [hp]; exact hdl) (by omega) (by omega), deN_take (by omega), hp, hx]
  · obtain rfl : i = width := by omega
    have hdn : deN ((leN i n).take i) = n := by rw [List.take_of_length_le (by omega), deN_leN, Nat.mod_eq_of_lt hn]
    have hn2 : n < 65536 := Nat.lt_of_lt_of_le hn (Nat.pow_le_pow_right (by decide) hw)
    rw [hdn] at e5
    simp -dsimp -implicitDefEqProofs (disch := omega) only [go_sem, reqD_of, dec_t, dec_f, wrap_i64, wrap_u32, wrap_u64, wrap_u8, hds, e0, e1, e11, e12, e5, hlt, h.cl R]
    refine h.sto (b := R) (off := 1) (by simp) rfl fun w2 h2 => ?_
    simp only [List.setIfInBounds_toArray, List.set_cons_succ, List.set_cons_zero] at h2
    simp -dsimp -implicitDefEqProofs (disch := omega) only [go_sem, reqD_of, dec_t, dec_f, wrap_i64, wrap_u32, wrap_u64, wrap_u8, hds, e5]
    exact ⟨h2, w16 hn2⟩
end
section
attribute [local go_sem] F51.t8_eq F51.t6_eq F51.t9_eq F51.t3_eq
theorem getu32_any {n : Nat} {width : Nat} {pre post : List UInt8} (hw : width ≤ 4) (hn : n < 256 ^ width) (hb : b = pre ++ (leN width n ++ post)) (hat : at' = pre.length) (hbl : b.length ≤ 16777216) (hv : Ent F (RdB v b)) (h : St w0 (Blk R (rB v at' ba 0 wh) * F) w) :
    Calls Tryz.prog 51 #[.pointer (some ⟨R, 0, none⟩), .int .i64 width] w fun e w' => St w0 (Blk R (rB v (at' + width) ba 0 wh) * F) w' ∧ e = .returned (.int .u32 n) := by
  have hlw := leN_length width n
  have hbw : at' + width ≤ b.length := by rw [hb, hat]; simp only [List.length_append, hlw]; omega
  have hbi : ∀ (i : Nat) (hi : i < width), b[at' + i]'(by omega) = (leN width n)[i]'(by omega) := by
    intro i hi
    simp only [hb, hat]
    rw [List.getElem_append_right (by omega)]
    simp only [Nat.add_sub_cancel_left]
    rw [List.getElem_append_left (by omega)]
  refine F51.calls (by simp) ?_
  unfold F51.code
  simp -dsimp -implicitDefEqProofs (disch := omega) only [go_sem, reqD_of, dec_t, dec_f, wrap_i64, wrap_u32, wrap_u64, wrap_u8]
  refine (has_any hbw hbl hv h).mono ?_
  rintro e w1 ⟨h1, rfl⟩
  obtain ⟨a, c, rfl, _⟩ := (h1.ent ((Ent.right _ _).trans hv)).bytes
  simp -dsimp -implicitDefEqProofs (disch := omega) only [go_sem, reqD_of, dec_t, dec_f, wrap_i64, wrap_u32, wrap_u64, wrap_u8]
  refine loop_intro (fun e w' => e.ds = [] ∧ e.ρ 0 = .pointer (some ⟨R, 0, none⟩) ∧ e.ρ 1 = .int .i64 width ∧ e.ρ 11 = .int .i64 width ∧ ∃ i : Nat, i ≤ width ∧ e.ρ 12 = .int .i64 i ∧ e.ρ 5 = .int .u64 (deN ((leN width n).take i) : Nat) ∧
      St w0 (Blk R (rB (.slice a b.length c) at' ba 0 wh) * F) w')
    (fun e _ => match e.ρ 12 with | .int _ i => (width - i).toNat | _ => 0) ?_ ?_
  · exact ⟨rfl, by simp -dsimp -implicitDefEqProofs only [go_sem], by simp -dsimp -implicitDefEqProofs only [go_sem], by simp -dsimp -implicitDefEqProofs only [go_sem], 0, by omega, by simp -dsimp -implicitDefEqProofs only [go_sem], by (simp -dsimp -implicitDefEqProofs only [go_sem]; rfl), h1⟩
  clear h h1
  rintro e w ⟨hds, e0, e1, e11, i, hi, e12, e5, h⟩
  by_cases hlt : (i : Int) < width
  · have hiw : i < width := by omega
    have hai : at' + i < b.length := by omega
    have hai2 : (at' : Int) + i < b.length := by omega
    have hai3 : ((at' : Int) + i).toNat = at' + i := by omega
    have hD := h.drew
    obtain ⟨g, o, rfl, c0⟩ := cell_reads hD ((Ent.right _ _).trans hv) hai
    rw [hbi i hiw] at c0
    obtain ⟨x, hx⟩ : ∃ x, x = (leN width n)[i]'(by omega) := ⟨_, rfl⟩
    rw [← hx] at c0
    have hx256 := x.toNat_lt
    simp -dsimp -implicitDefEqProofs (disch := omega) only [go_sem, reqD_of, dec_t, dec_f, wrap_i64, wrap_u32, wrap_u64, wrap_u8, hds, e0, e1, e11, e12, e5, hlt, hD.cl R, hai2, hai3, c0]
    refine ⟨⟨i + 1, by omega, by omega, ?_, hD⟩, by omega⟩
    have hm : (if (8 * (i : Int)).toNat ≤ 64 then (8 * (i : Int)).toNat else 64) = 8 * i := by rw [if_pos (by omega)]; omega
    have hp : 2 ^ (8 * i) = 256 ^ i := by rw [Nat.pow_mul]
    have hdl : deN ((leN width n).take i) < 256 ^ i := by
      have := deN_lt ((leN width n).take i)
      rwa [List.length_take, Nat.min_eq_left (by omega)] at this
    rw [hm, or64 (by rw [hp]; exact hdl) (by omega) (by omega), deN_take (by omega), hp, hx]
  · obtain rfl : i = width := by omega
    have hdn : deN ((leN i n).take i) = n := by rw [List.take_of_length_le (by omega), deN_leN, Nat.mod_eq_of_lt hn]
    have hn2 : n < 4294967296 := Nat.lt_of_lt_of_le hn (Nat.pow_le_pow_right (by decide) hw)
    rw [hdn] at e5
    simp -dsimp -implicitDefEqProofs (disch := omega) only [go_sem, reqD_of, dec_t, dec_f, wrap_i64, wrap_u32, wrap_u64, wrap_u8, hds, e0, e1, e11, e12, e5, hlt, h.cl R]
    refine h.sto (b := R) (off := 1) (by simp) rfl fun w2 h2 => ?_
    simp only [List.setIfInBounds_toArray, List.set_cons_succ, List.set_cons_zero] at h2
    simp -dsimp -implicitDefEqProofs (disch := omega) only [go_sem, reqD_of, dec_t, dec_f, wrap_i64, wrap_u32, wrap_u64, wrap_u8, hds, e5]
    exact h2
end
section
attribute [local go_sem] F52.t8_eq F52.t6_eq F52.t9_eq F52.t3_eq
theorem getu8_any {n : Nat} {width : Nat} {pre post : List UInt8} (hw : width ≤ 1) (hn : n < 256 ^ width) (hb : b = pre ++ (leN width n ++ post)) (hat : at' = pre.length) (hbl : b.length ≤ 16777216) (hv : Ent F (RdB v b)) (h : St w0 (Blk R (rB v at' ba 0 wh) * F) w) :
    Calls Tryz.prog 52 #[.pointer (some ⟨R, 0, none⟩), .int .i64 width] w fun e w' => St w0 (Blk R (rB v (at' + width) ba 0 wh) * F) w' ∧ e = .returned (.int .u8 n) := by
  have hlw := leN_length width n
  have hbw : at' + width ≤ b.length := by rw [hb, hat]; simp only [List.length_append, hlw]; omega
  have hbi : ∀ (i : Nat) (hi : i < width), b[at' + i]'(by omega) = (leN width n)[i]'(by omega) := by
    intro i hi
    simp only [hb, hat]
    rw [List.getElem_append_right (by omega)]
    simp only [Nat.add_sub_cancel_left]
    rw [List.getElem_append_left (by omega)]
  refine F52.calls (by simp) ?_
  unfold F52.code
  simp -dsimp -implicitDefEqProofs (disch := omega) only [go_sem, reqD_of, dec_t, dec_f, wrap_i64, wrap_u32, wrap_u64, wrap_u8]
  refine (has_any hbw hbl hv h).mono ?_
  rintro e w1 ⟨h1, rfl⟩
  obtain ⟨a, c, rfl, _⟩ := (h1.ent ((Ent.right _ _).trans hv)).bytes
  simp -dsimp -implicitDefEqProofs (disch := omega) only [go_sem, reqD_of, dec_t, dec_f, wrap_i64, wrap_u32, wrap_u64, wrap_u8]
  refine loop_intro (fun e w' => e.ds = [] ∧ e.ρ 0 = .pointer (some ⟨R, 0, none⟩) ∧ e.ρ 1 = .int .i64 width ∧ e.ρ 11 = .int .i64 width ∧ ∃ i : Nat, i ≤ width ∧ e.ρ 12 = .int .i64 i ∧ e.ρ 5 = .int .u64 (deN ((leN width n).take i) : Nat) ∧
      St w0 (Blk R (rB (.slice a b.length c) at' ba 0 wh) * F) w')
    (fun e _ => match e.ρ 12 with | .int _ i => (width - i).toNat | _ => 0) ?_ ?_
  · exact ⟨rfl, by simp -dsimp -implicitDefEqProofs only [go_sem], by simp -dsimp -implicitDefEqProofs only [go_sem], by simp -dsimp -implicitDefEqProofs only [go_sem], 0, by omega, by simp -dsimp -implicitDefEqProofs only [go_sem], by (simp -dsimp -implicitDefEqProofs only [go_sem]; rfl), h1⟩
  clear h h1
  rintro e w ⟨hds, e0, e1, e11, i, hi, e12, e5, h⟩
  by_cases hlt : (i : Int) < width
  · have hiw : i < width := by omega
    have hai : at' + i < b.length := by omega
    have hai2 : (at' : Int) + i < b.length := by omega
    have hai3 : ((at' : Int) + i).toNat = at' + i := by omega
    have hD := h.drew
    obtain ⟨g, o, rfl, c0⟩ := cell_reads hD ((Ent.right _ _).trans hv) hai
    rw [hbi i hiw] at c0
    obtain ⟨x, hx⟩ : ∃ x, x = (leN width n)[i]'(by omega) := ⟨_, rfl⟩
    rw [← hx] at c0
    have hx256 := x.toNat_lt
    simp -dsimp -implicitDefEqProofs (disch := omega) only [go_sem, reqD_of, dec_t, dec_f, wrap_i64, wrap_u32, wrap_u64, wrap_u8, hds, e0, e1, e11, e12, e5, hlt, hD.cl R, hai2, hai3, c0]
    refine ⟨⟨i + 1, by omega, by omega, ?_, hD⟩, by omega⟩
    have hm : (if (8 * (i : Int)).toNat ≤ 64 then (8 * (i : Int)).toNat else 64) = 8 * i := by rw [if_pos (by omega)]; omega
    have hp : 2 ^ (8 * i) = 256 ^ i := by rw [Nat.pow_mul]
    have hdl : deN ((leN width n).take i) < 256 ^ i := by
      have := deN_lt ((leN width n).take i)
      rwa [List.length_take, Nat.min_eq_left (by omega)] at this
    rw [hm, or64 (by rw [hp]; exact hdl) (by omega) (by omega), deN_take (by omega), hp, hx]
  · obtain rfl : i = width := by omega
    have hdn : deN ((leN i n).take i) = n := by rw [List.take_of_length_le (by omega), deN_leN, Nat.mod_eq_of_lt hn]
    have hn2 : n < 256 := Nat.lt_of_lt_of_le hn (Nat.pow_le_pow_right (by decide) hw)
    rw [hdn] at e5
    simp -dsimp -implicitDefEqProofs (disch := omega) only [go_sem, reqD_of, dec_t, dec_f, wrap_i64, wrap_u32, wrap_u64, wrap_u8, hds, e0, e1, e11, e12, e5, hlt, h.cl R]
    refine h.sto (b := R) (off := 1) (by simp) rfl fun w2 h2 => ?_
    simp only [List.setIfInBounds_toArray, List.set_cons_succ, List.set_cons_zero] at h2
    simp -dsimp -implicitDefEqProofs (disch := omega) only [go_sem, reqD_of, dec_t, dec_f, wrap_i64, wrap_u32, wrap_u64, wrap_u8, hds, e5]
    exact h2
end
section
attribute [local go_sem] F126.t8_eq F126.t6_eq F126.t9_eq F126.t3_eq
theorem getu64_any {n : Nat} {width : Nat} {pre post : List UInt8} (hw : width ≤ 8) (hn : n < 256 ^ width) (hb : b = pre ++ (leN width n ++ post)) (hat : at' = pre.length) (hbl : b.length ≤ 16777216) (hv : Ent F (RdB v b)) (h : St w0 (Blk R (rB v at' ba 0 wh) * F) w) :
    Calls Tryz.prog 126 #[.pointer (some ⟨R, 0, none⟩), .int .i64 width] w fun e w' => St w0 (Blk R (rB v (at' + width) ba 0 wh) * F) w' ∧ e = .returned (.int .u64 n) := by
  have hlw := leN_length width n
  have hbw : at' + width ≤ b.length := by rw [hb, hat]; simp only [List.length_append, hlw]; omega
  have hbi : ∀ (i : Nat) (hi : i < width), b[at' + i]'(by omega) = (leN width n)[i]'(by omega) := by
    intro i hi
    simp only [hb, hat]
    rw [List.getElem_append_right (by omega)]
    simp only [Nat.add_sub_cancel_left]
    rw [List.getElem_append_left (by omega)]
  refine F126.calls (by simp) ?_
  unfold F126.code
  simp -dsimp -implicitDefEqProofs (disch := omega) only [go_sem, reqD_of, dec_t, dec_f, wrap_i64, wrap_u32, wrap_u64, wrap_u8]
  refine (has_any hbw hbl hv h).mono ?_
  rintro e w1 ⟨h1, rfl⟩
  obtain ⟨a, c, rfl, _⟩ := (h1.ent ((Ent.right _ _).trans hv)).bytes
  simp -dsimp -implicitDefEqProofs (disch := omega) only [go_sem, reqD_of, dec_t, dec_f, wrap_i64, wrap_u32, wrap_u64, wrap_u8]
  refine loop_intro (fun e w' => e.ds = [] ∧ e.ρ 0 = .pointer (some ⟨R, 0, none⟩) ∧ e.ρ 1 = .int .i64 width ∧ e.ρ 11 = .int .i64 width ∧ ∃ i : Nat, i ≤ width ∧ e.ρ 12 = .int .i64 i ∧ e.ρ 5 = .int .u64 (deN ((leN width n).take i) : Nat) ∧
      St w0 (Blk R (rB (.slice a b.length c) at' ba 0 wh) * F) w')
    (fun e _ => match e.ρ 12 with | .int _ i => (width - i).toNat | _ => 0) ?_ ?_
  · exact ⟨rfl, by simp -dsimp -implicitDefEqProofs only [go_sem], by simp -dsimp -implicitDefEqProofs only [go_sem], by simp -dsimp -implicitDefEqProofs only [go_sem], 0, by omega, by simp -dsimp -implicitDefEqProofs only [go_sem], by (simp -dsimp -implicitDefEqProofs only [go_sem]; rfl), h1⟩
  clear h h1
  rintro e w ⟨hds, e0, e1, e11, i, hi, e12, e5, h⟩
  by_cases hlt : (i : Int) < width
  · have hiw : i < width := by omega
    have hai : at' + i < b.length := by omega
    have hai2 : (at' : Int) + i < b.length := by omega
    have hai3 : ((at' : Int) + i).toNat = at' + i := by omega
    have hD := h.drew
    obtain ⟨g, o, rfl, c0⟩ := cell_reads hD ((Ent.right _ _).trans hv) hai
    rw [hbi i hiw] at c0
    obtain ⟨x, hx⟩ : ∃ x, x = (leN width n)[i]'(by omega) := ⟨_, rfl⟩
    rw [← hx] at c0
    have hx256 := x.toNat_lt
    simp -dsimp -implicitDefEqProofs (disch := omega) only [go_sem, reqD_of, dec_t, dec_f, wrap_i64, wrap_u32, wrap_u64, wrap_u8, hds, e0, e1, e11, e12, e5, hlt, hD.cl R, hai2, hai3, c0]
    refine ⟨⟨i + 1, by omega, by omega, ?_, hD⟩, by omega⟩
    have hm : (if (8 * (i : Int)).toNat ≤ 64 then (8 * (i : Int)).toNat else 64) = 8 * i := by rw [if_pos (by omega)]; omega
    have hp : 2 ^ (8 * i) = 256 ^ i := by rw [Nat.pow_mul]
    have hdl : deN ((leN width n).take i) < 256 ^ i := by
      have := deN_lt ((leN width n).take i)
      rwa [List.length_take, Nat.min_eq_left (by omega)] at this
    rw [hm, or64 (by rw [hp]; exact hdl) (by omega) (by omega), deN_take (by omega), hp, hx]
  · obtain rfl : i = width := by omega
    have hdn : deN ((leN i n).take i) = n := by rw [List.take_of_length_le (by omega), deN_leN, Nat.mod_eq_of_lt hn]
    have hn2 : n < 18446744073709551616 := Nat.lt_of_lt_of_le hn (Nat.pow_le_pow_right (by decide) hw)
    rw [hdn] at e5
    simp -dsimp -implicitDefEqProofs (disch := omega) only [go_sem, reqD_of, dec_t, dec_f, wrap_i64, wrap_u32, wrap_u64, wrap_u8, hds, e0, e1, e11, e12, e5, hlt, h.cl R]
    refine h.sto (b := R) (off := 1) (by simp) rfl fun w2 h2 => ?_
    simp only [List.setIfInBounds_toArray, List.set_cons_succ, List.set_cons_zero] at h2
    simp -dsimp -implicitDefEqProofs (disch := omega) only [go_sem, reqD_of, dec_t, dec_f, wrap_i64, wrap_u32, wrap_u64, wrap_u8, hds, e5]
    exact h2
end

theorem R8_any {n : Nat} {pre post : List UInt8} (hn : n < 256) (hb : b = pre ++ (leN 1 n ++ post)) (hat : at' = pre.length) (hbl : b.length ≤ 16777216) (hv : Ent F (RdB v b)) (h : St w0 (Blk R (rB v at' ba 0 wh) * F) w) :
    Calls Tryz.prog 28 #[.pointer (some ⟨R, 0, none⟩)] w fun e w' => St w0 (Blk R (rB v (at' + 1) ba 0 wh) * F) w' ∧ e = .returned (.int .u8 n) := by
  refine F28.calls (by simp) ?_
  unfold F28.code
  simp -dsimp -implicitDefEqProofs (disch := omega) only [go_sem, reqD_of, dec_t, dec_f, wrap_i64, wrap_u32, wrap_u64, wrap_u8]
  refine (getu8_any (n := n) (width := 1) (pre := pre) (post := post) (by decide) hn hb hat hbl hv h).mono ?_
  rintro e w1 ⟨h1, rfl⟩
  simp -dsimp -implicitDefEqProofs (disch := omega) only [go_sem, reqD_of, dec_t, dec_f, wrap_i64, wrap_u32, wrap_u64, wrap_u8]
  exact h1

theorem R16_any {n : Nat} {pre post : List UInt8} (hn : n < 65536) (hb : b = pre ++ (leN 2 n ++ post)) (hat : at' = pre.length) (hbl : b.length ≤ 16777216) (hv : Ent F (RdB v b)) (h : St w0 (Blk R (rB v at' ba 0 wh) * F) w) :
    Calls Tryz.prog 29 #[.pointer (some ⟨R, 0, none⟩)] w fun e w' => St w0 (Blk R (rB v (at' + 2) ba 0 wh) * F) w' ∧ e = .returned (.int .u16 n) := by
  refine F29.calls (by simp) ?_
  unfold F29.code
  simp -dsimp -implicitDefEqProofs (disch := omega) only [go_sem, reqD_of, dec_t, dec_f, wrap_i64, wrap_u32, wrap_u64, wrap_u8]
  refine (getu16_any (n := n) (width := 2) (pre := pre) (post := post) (by decide) hn hb hat hbl hv h).mono ?_
  rintro e w1 ⟨h1, rfl⟩
  simp -dsimp -implicitDefEqProofs (disch := omega) only [go_sem, reqD_of, dec_t, dec_f, wrap_i64, wrap_u32, wrap_u64, wrap_u8]
  exact h1

theorem R32_any {n : Nat} {pre post : List UInt8} (hn : n < 4294967296) (hb : b = pre ++ (leN 4 n ++ post)) (hat : at' = pre.length) (hbl : b.length ≤ 16777216) (hv : Ent F (RdB v b)) (h : St w0 (Blk R (rB v at' ba 0 wh) * F) w) :
    Calls Tryz.prog 27 #[.pointer (some ⟨R, 0, none⟩)] w fun e w' => St w0 (Blk R (rB v (at' + 4) ba 0 wh) * F) w' ∧ e = .returned (.int .u32 n) := by
  refine F27.calls (by simp) ?_
  unfold F27.code
  simp -dsimp -implicitDefEqProofs (disch := omega) only [go_sem, reqD_of, dec_t, dec_f, wrap_i64, wrap_u32, wrap_u64, wrap_u8]
  refine (getu32_any (n := n) (width := 4) (pre := pre) (post := post) (by decide) hn hb hat hbl hv h).mono ?_
  rintro e w1 ⟨h1, rfl⟩
  simp -dsimp -implicitDefEqProofs (disch := omega) only [go_sem, reqD_of, dec_t, dec_f, wrap_i64, wrap_u32, wrap_u64, wrap_u8]
  exact h1

theorem R64_any {n : Nat} {pre post : List UInt8} (hn : n < 18446744073709551616) (hb : b = pre ++ (leN 8 n ++ post)) (hat : at' = pre.length) (hbl : b.length ≤ 16777216) (hv : Ent F (RdB v b)) (h : St w0 (Blk R (rB v at' ba 0 wh) * F) w) :
    Calls Tryz.prog 87 #[.pointer (some ⟨R, 0, none⟩)] w fun e w' => St w0 (Blk R (rB v (at' + 8) ba 0 wh) * F) w' ∧ e = .returned (.int .u64 n) := by
  refine F87.calls (by simp) ?_
  unfold F87.code
  simp -dsimp -implicitDefEqProofs (disch := omega) only [go_sem, reqD_of, dec_t, dec_f, wrap_i64, wrap_u32, wrap_u64, wrap_u8]
  refine (getu64_any (n := n) (width := 8) (pre := pre) (post := post) (by decide) hn hb hat hbl hv h).mono ?_
  rintro e w1 ⟨h1, rfl⟩
  simp -dsimp -implicitDefEqProofs (disch := omega) only [go_sem, reqD_of, dec_t, dec_f, wrap_i64, wrap_u32, wrap_u64, wrap_u8]
  exact h1
end
end Go.Proofs.YtmiohkmcnppaeaaGreatDoor

namespace Go.Proofs.YtmiohkmcnppaeaaGreatDoor
open Go
set_option linter.unusedVariables false
set_option linter.unusedSimpArgs false
set_option maxRecDepth 100000

theorem orI {x y : Nat} (hx : x < 256) (hy : y < 256) : IntKind.i64.wrap ((BitVec.ofInt IntKind.i64.bits (x : Int) ||| BitVec.ofInt IntKind.i64.bits ((y : Int) * 256)).toNat : Int) = ((x + 256 * y : Nat) : Int) := by
  have hb : IntKind.i64.bits = 64 := rfl
  have e1 : ((y : Int) * 256) = ((256 * y : Nat) : Int) := by omega
  have e2 : 256 * y = 2 ^ 8 * y := rfl
  rw [e1, hb, BitVec.ofInt_natCast, BitVec.ofInt_natCast, BitVec.toNat_or, BitVec.toNat_ofNat, BitVec.toNat_ofNat, Nat.mod_eq_of_lt (by omega), Nat.mod_eq_of_lt (by omega), Nat.or_comm, e2, ← Nat.two_pow_add_eq_or_of_lt (by omega)]
  rw [wrap_i64 (by omega) (by omega)]
  omega
section
variable {w0 w : World} {F : HP} {R at' : Nat} {b : List UInt8} {v : Value} {ba wh : Int}
section
attribute [local go_sem] F118.t3_eq
theorem counted_any {n : Nat} {pre post : List UInt8} (hn : n < 65536) (hb : b = pre ++ (leN 2 n ++ post)) (hat : at' = pre.length) (hpost : n ≤ post.length) (hbl : b.length ≤ 16777216) (hv : Ent F (RdB v b)) (h : St w0 (Blk R (rB v at' ba 0 wh) * F) w) :
    Calls Tryz.prog 118 #[.pointer (some ⟨R, 0, none⟩)] w fun e w' => St w0 (Blk R (rB v at' ba 0 wh) * F) w' ∧ e = .returned (.tuple #[.int .i64 n, .bool true]) := by
  have hlw := leN_length 2 n
  have hbw : at' + (2 + n) ≤ b.length := by rw [hb, hat]; simp only [List.length_append, hlw]; omega
  have hbi : ∀ (i : Nat) (hi : i < 2), b[at' + i]'(by omega) = (leN 2 n)[i]'(by omega) := by
    intro i hi
    simp only [hb, hat]
    rw [List.getElem_append_right (by omega)]
    simp only [Nat.add_sub_cancel_left]
    rw [List.getElem_append_left (by omega)]
  refine F118.calls (by simp) ?_
  unfold F118.code
  simp -dsimp -implicitDefEqProofs (disch := omega) only [go_sem, reqD_of, dec_t, dec_f, wrap_i64, wrap_u32, wrap_u64, wrap_u8]
  refine (has_any (n := 2) (by omega) hbl hv h).mono ?_
  rintro e w1 ⟨h1, rfl⟩
  obtain ⟨a, c, rfl, _⟩ := (h1.ent ((Ent.right _ _).trans hv)).bytes
  have hD := h1.drew
  obtain ⟨g, o, rfl, c0⟩ := cell_reads hD ((Ent.right _ _).trans hv) (i := at' + 0) (by omega)
  obtain ⟨g', o', hg', c1⟩ := cell_reads hD ((Ent.right _ _).trans hv) (i := at' + 1) (by omega)
  simp only [Option.some.injEq, Addr.mk.injEq, and_true] at hg'
  obtain ⟨rfl, rfl⟩ := hg'
  rw [hbi 0 (by omega)] at c0
  rw [hbi 1 (by omega)] at c1
  rw [Nat.add_zero] at c0
  have x0 : ((leN 2 n)[0]'(by omega)).toNat = n % 256 := by simp only [leN, List.getElem_cons_zero]; rw [ofNat_toNat (by omega)]
  have x1 : ((leN 2 n)[1]'(by omega)).toNat = n / 256 := by simp only [leN, List.getElem_cons_succ, List.getElem_cons_zero]; rw [ofNat_toNat (by omega)]; omega
  rw [x0] at c0
  rw [x1] at c1
  have p1 : (at' : Int) < b.length := by omega
  have p2 : (at' : Int) + 1 < b.length := by omega
  have p3 : ((at' : Int) + 1).toNat = at' + 1 := by omega
  simp -dsimp -implicitDefEqProofs (disch := omega) only [go_sem, reqD_of, dec_t, dec_f, wrap_i64, wrap_u32, wrap_u64, wrap_u8, hD.cl R, p1, p2, p3, c0, c1]
  rw [orI (by omega) (by omega), show n % 256 + 256 * (n / 256) = n by omega, show (2 : Int) + (n : Int) = ((2 + n : Nat) : Int) by omega, wrap_i64 (n := ((2 + n : Nat) : Int)) (by omega) (by omega)]
  refine (has_any (n := 2 + n) (by omega) hbl hv hD).mono ?_
  rintro e w2 ⟨h2, rfl⟩
  simp -dsimp -implicitDefEqProofs (disch := omega) only [go_sem, reqD_of, dec_t, dec_f, wrap_i64, wrap_u32, wrap_u64, wrap_u8]
  exact h2
end
section
attribute [local go_sem] F68.t9_eq F68.t4_eq
theorem rtext_any [Gives F Tabs] {l pre post : List UInt8} (hl : l.length < 65536) (hg : good l = true) (hb : b = pre ++ (leN 2 l.length ++ (l ++ post))) (hat : at' = pre.length) (hbl : b.length ≤ 16777216) (hv : Ent F (RdB v b)) (h : St w0 (Blk R (rB v at' ba 0 wh) * F) w) :
    Calls Tryz.prog 68 #[.pointer (some ⟨R, 0, none⟩)] w fun e w' => St w0 (Blk R (rB v (at' + (2 + l.length)) ba 0 wh) * F) w' ∧ e = .returned (.string (strOf l)) := by
  have hlw := leN_length 2 l.length
  have hbw : at' + (2 + l.length) ≤ b.length := by rw [hb, hat]; simp only [List.length_append, hlw]; omega
  refine F68.calls (by simp) ?_
  unfold F68.code
  simp -dsimp -implicitDefEqProofs (disch := omega) only [go_sem, reqD_of, dec_t, dec_f, wrap_i64, wrap_u32, wrap_u64, wrap_u8]
  refine (counted_any (n := l.length) (pre := pre) (post := l ++ post) hl hb hat (by simp) hbl hv h).mono ?_
  rintro e w1 ⟨h1, rfl⟩
  obtain ⟨a, c, rfl, hbc, _⟩ := (h1.ent ((Ent.right _ _).trans hv)).bytes
  have hD := h1.drew
  have q1 : (at' : Int) + 2 ≤ b.length := by omega
  have q2 : (at' : Int) + 2 + l.length ≤ b.length := by omega
  have q3 : ((at' : Int) + 2).toNat = at' + 2 := by omega
  have q4 : ((at' : Int) + 2 + l.length).toNat = at' + 2 + l.length := by omega
  have q5 : (at' : Int) + 2 + l.length ≤ c := by omega
  have q6 : (at' : Int) + 2 ≤ (at' : Int) + 2 + l.length := by omega
  obtain ⟨g, o, rfl, _⟩ := cell_reads hD ((Ent.right _ _).trans hv) (i := at') (by omega)
  have hbl2 : (byR b).length = b.length := by simp [byR]
  have e2 : ((byR b).drop ((at' + 2) * 1)).take (l.length * 1) = byR l := by
    rw [Nat.mul_one, Nat.mul_one, byR, ← List.map_drop, ← List.map_take, hb, hat]
    congr 1
    rw [← List.append_assoc, List.drop_append_of_le_length (by simp [hlw]), List.drop_of_length_le (by simp [hlw]), List.nil_append, List.take_append_of_le_length (Nat.le_refl _), List.take_of_length_le (Nat.le_refl _)]
  have hsub : Ent (Blk R (rB (.slice (some ⟨g, o, none⟩) b.length c) at' ba 0 wh) * F) (Reads 1 (.slice (if c = at' + 2 then some ⟨g, o, none⟩ else some ⟨g, o + (at' + 2), none⟩) l.length (c - (at' + 2))) l.length (byR l)) := by
    have k := (Ent.right (Blk R (rB (.slice (some ⟨g, o, none⟩) b.length c) at' ba 0 wh)) F).trans (hv.trans (Reads.sub (lo := at' + 2) (k := l.length) (by omega)))
    rw [e2] at k
    simpa [Addr.add] using k
  have e3 : at' + 2 + l.length - (at' + 2) = l.length := by omega
  simp -dsimp -implicitDefEqProofs (disch := omega) only [go_sem, reqD_of, dec_t, dec_f, wrap_i64, wrap_u32, wrap_u64, wrap_u8, hD.cl R, q1, q2, q3, q4, q5, q6, e3]
  refine hD.str (src := 28) (e := 5) (dst := 9) (bs := l) hsub Tryz.underlying28 Tryz.underlying5 Tryz.underlying9 ?_
  simp -dsimp -implicitDefEqProofs (disch := omega) only [go_sem, reqD_of, dec_t, dec_f, wrap_i64, wrap_u32, wrap_u64, wrap_u8]
  refine (bad_any (l := l) hD (by omega)).mono ?_
  rintro e w2 ⟨h2, k, rfl, hk⟩
  rw [hg, decide_eq_true_eq] at hk
  have hk' : ¬ (0 : Int) ≤ k := by omega
  simp -dsimp -implicitDefEqProofs (disch := omega) only [go_sem, reqD_of, dec_t, dec_f, wrap_i64, wrap_u32, wrap_u64, wrap_u8, hk', h2.cl R]
  refine h2.sto (b := R) (off := 1) (by simp) rfl fun w3 h3 => ?_
  simp only [List.setIfInBounds_toArray, List.set_cons_succ, List.set_cons_zero] at h3
  simp -dsimp -implicitDefEqProofs (disch := omega) only [go_sem, reqD_of, dec_t, dec_f, wrap_i64, wrap_u32, wrap_u64, wrap_u8]
  rw [show (at' : Int) + (2 + (l.length : Int)) = ((at' + (2 + l.length) : Nat) : Int) by omega] at h3
  exact h3
end

theorem end_any (hat : at' = b.length) (hbl : b.length ≤ 16777216) (hv : Ent F (RdB v b)) (h : St w0 (Blk R (rB v at' ba 0 wh) * F) w) :
    Calls Tryz.prog 30 #[.pointer (some ⟨R, 0, none⟩)] w fun e w' => St w0 (Blk R (rB v at' ba 0 wh) * F) w' ∧ e = .returned (.tuple #[]) := by
  refine F30.calls (by simp) ?_
  unfold F30.code
  obtain ⟨a, c, rfl, _⟩ := (h.ent ((Ent.right _ _).trans hv)).bytes
  have hD := h.drew
  have h1 : ¬ (at' : Int) < b.length := by omega
  simp -dsimp -implicitDefEqProofs (disch := omega) only [go_sem, reqD_of, dec_t, dec_f, wrap_i64, wrap_u32, wrap_u64, wrap_u8, h.cl R, hD.cl R, h1]
  exact hD

theorem err_any (hv : Ent F (RdB v b)) (h : St w0 (Blk R (rB v at' ba 0 wh) * F) w) :
    Calls Tryz.prog 31 #[.pointer (some ⟨R, 0, none⟩)] w fun e w' => St w0 (Blk R (rB v at' ba 0 wh) * F) w' ∧ e = .returned (.tuple #[.int .i64 0, .int .i64 wh]) := by
  refine F31.calls (by simp) ?_
  unfold F31.code
  have hD := h.drew
  simp -dsimp -implicitDefEqProofs (disch := omega) only [go_sem, reqD_of, dec_t, dec_f, wrap_i64, wrap_u32, wrap_u64, wrap_u8, h.cl R, hD.cl R]
  exact hD

theorem newReader_any {a : Option Addr} {c : Nat} (hbl : b.length ≤ 16777216) (hv : Ent F (RdB (.slice a b.length c) b)) (h : St w0 F w) :
    Calls Tryz.prog 26 #[.slice a b.length c] w fun e w' => ∃ R v3, St w0 (Blk R (rB v3 0 0 0 0) * (RowO 5 1 v3 b.length (byR b) * F)) w' ∧ e = .returned (.pointer (some ⟨R, 0, none⟩)) := by
  refine F26.calls (by simp) ?_
  unfold F26.code
  simp -dsimp -implicitDefEqProofs (disch := omega) only [go_sem, reqD_of, dec_t, dec_f, wrap_i64, wrap_u32, wrap_u64, wrap_u8]
  refine (h.nilR 5 1).app (v := .slice none 0 0) (x := .slice a b.length c) fact_rowTy_28 ((Ent.right _ _).trans hv) Tryz.underlying28 byR_cells (fun h => by have := congrArg List.length h; simpa [byR] using this) (show 0 + b.length ≤ 9223372036854775807 by omega) (show (0 + b.length) * 1 ≤ 140737488355328 by omega) fun v3 w3 h3 => ?_
  rw [Nat.zero_add, List.nil_append] at h3
  obtain ⟨a3, c3, rfl, _⟩ := h3.rowForm v3
  simp -dsimp -implicitDefEqProofs (disch := omega) only [go_sem, reqD_of, dec_t, dec_f, wrap_i64, wrap_u32, wrap_u64, wrap_u8]
  refine onV_of (v := .agg #[.slice a3 b.length c3, .int .i64 0, .int .i64 0, .int .i64 0, .int .i64 0]) (by kernel_rfl) ?_
  simp -dsimp -implicitDefEqProofs (disch := omega) only [go_sem, reqD_of, dec_t, dec_f, wrap_i64, wrap_u32, wrap_u64, wrap_u8]
  refine h3.new fun R w4 h4 => ?_
  simp -dsimp -implicitDefEqProofs (disch := omega) only [go_sem, reqD_of, dec_t, dec_f, wrap_i64, wrap_u32, wrap_u64, wrap_u8]
  exact ⟨R, .slice a3 b.length c3, h4, rfl⟩
end
end Go.Proofs.YtmiohkmcnppaeaaGreatDoor

namespace Go.Proofs.YtmiohkmcnppaeaaGreatDoor
open Go
set_option linter.unusedVariables false
set_option linter.unusedSimpArgs false
set_option maxRecDepth 100000

abbrev qidC (q : QidD) : List Value := [.int .u8 q.k, .int .u32 q.v, .int .u64 q.p]
abbrev msgC (m : MsgD) (vn vq vd : Value) : List Value := [.int .u8 m.kind, .int .u16 m.tag, .int .u32 m.msize, sv m.version, .int .u32 m.afid, sv m.uname, sv m.aname, sv m.ename, .int .u16 m.oldtag, .int .u32 m.fid, .int .u32 m.newfid, vn, vq, .int .u8 m.qid.k, .int .u32 m.qid.v, .int .u64 m.qid.p, .int .u8 m.mode, .int .u32 m.iounit, sv m.name, .int .u32 m.perm, .int .u64 m.offset, .int .u32 m.count, vd, .int .u16 m.stat.ty, .int .u32 m.stat.dev, .int .u8 m.stat.qk, .int .u32 m.stat.qv, .int .u64 m.stat.qp, .int .u32 m.stat.mode, .int .u32 m.stat.at', .int .u32 m.stat.mt, .int .u64 m.stat.len, sv m.stat.name, sv m.stat.uid, sv m.stat.gid, sv m.stat.muid]
abbrev msgB (m : MsgD) (vn vq vd : Value) : Obj := .cells (msgC m vn vq vd).toArray 39 (0, 0)
/-- What reads as a message's lists. -/
structure MsgI (A : HP) (m : MsgD) (vn vq vd : Value) : Prop where
  names : Ent A (Reads 1 vn m.names.length (m.names.map sv))
  qids : Ent A (Reads 3 vq m.qids.length (m.qids.flatMap qidC))
  data : Ent A (RdB vd m.data)
theorem MsgI.under {A B : HP} {m : MsgD} {vn vq vd : Value} (h : MsgI A m vn vq vd) (k : Ent B A) : MsgI B m vn vq vd := ⟨k.trans h.names, k.trans h.qids, k.trans h.data⟩
/-- A message's lists, of one's own. -/
def MsgL (m : MsgD) (vn vq vd : Value) : HP := RowO 9 1 vn m.names.length (m.names.map sv) * (RowO 35 3 vq m.qids.length (m.qids.flatMap qidC) * RowO 5 1 vd m.data.length (byR m.data))
theorem MsgL.input (m : MsgD) (vn vq vd : Value) : MsgI (MsgL m vn vq vd) m vn vq vd :=
  ⟨(Ent.left _ _).trans (RowO.reads _ _ _ _ _), (Ent.right _ _).trans ((Ent.left _ _).trans (RowO.reads _ _ _ _ _)), (Ent.right _ _).trans ((Ent.right _ _).trans (RowO.reads _ _ _ _ _))⟩
def QidOk (q : QidD) : Prop := q.k < 256 ∧ q.v < 4294967296 ∧ q.p < 18446744073709551616
structure MOk (m : MsgD) : Prop where
  kind : m.kind < 256
  tag : m.tag < 65536
  msize : m.msize < 4294967296
  version : m.version.length ≤ 2147483648
  afid : m.afid < 4294967296
  uname : m.uname.length ≤ 2147483648
  aname : m.aname.length ≤ 2147483648
  ename : m.ename.length ≤ 2147483648
  oldtag : m.oldtag < 65536
  fid : m.fid < 4294967296
  newfid : m.newfid < 4294967296
  names : m.names.length ≤ 2147483648
  names1 : ∀ l ∈ m.names, l.length ≤ 2147483648
  qids : m.qids.length ≤ 2147483648
  qids1 : ∀ q ∈ m.qids, QidOk q
  qid : QidOk m.qid
  mode : m.mode < 256
  iounit : m.iounit < 4294967296
  name : m.name.length ≤ 2147483648
  perm : m.perm < 4294967296
  offset : m.offset < 18446744073709551616
  count : m.count < 4294967296
  data : m.data.length ≤ 2147483648
  stat : StatOk m.stat
/-- A function value is called. -/
def CallsV (P : Program) (g : Value) (args : Array Value) (w : World) (Q : Ending → World → Prop) : Prop := ∃ f first cap, g = .func (.func f) first cap ∧ fnOk P f = true ∧ Calls P f (first ++ args ++ cap) w Q
theorem CallsV.go {P : Program} {g : Value} {args : Array Value} {w : World} {Q R : Ending → World → Prop} {θ : Tag R} (h : CallsV P g args w Q) (hm : ∀ e w', Q e w' → R e w') : callD P g args w R θ := by
  obtain ⟨f, first, cap, rfl, hf, hc⟩ := h
  rw [callD_clos]
  unfold reqD
  exact ⟨hf, hc.mono hm⟩
end Go.Proofs.YtmiohkmcnppaeaaGreatDoor

namespace Go.Proofs.YtmiohkmcnppaeaaGreatDoor
open Go
set_option linter.unusedVariables false
set_option linter.unusedSimpArgs false
set_option maxRecDepth 100000

abbrev atN (f : Nat) : Obj := .cells #[.func (.func f) #[] #[]] 93 (0, 0)
abbrev atT (f : Nat) : Obj := .cells #[.func (.func f) #[] #[]] 96 (0, 0)
section
variable {w0 w : World} {F : HP} {W M K : Nat} {s : WS} {m : MsgD} {vn vq vd : Value}

theorem always_any (h : St w0 F w) : Calls Tryz.prog 55 #[.pointer (some ⟨M, 0, none⟩)] w fun e w' => St w0 F w' ∧ e = .returned (.bool true) := by
  refine F55.calls (by simp) ?_
  unfold F55.code
  simp -dsimp -implicitDefEqProofs (disch := omega) only [go_sem, reqD_of, dec_t, dec_f, wrap_i64, wrap_u32, wrap_u64, wrap_u8]
  exact h
theorem okAt1 : fnOk Tryz.prog 34 = true := by kernel_rfl

theorem at1 (h : St w0 F w) : Calls Tryz.prog 34 #[.pointer (some ⟨M, 0, none⟩)] w fun e w' => St w0 F w' ∧ e = .returned (.pointer (some ⟨M, 2, none⟩)) := by
  refine F34.calls (by simp) ?_
  unfold F34.code
  simp -dsimp -implicitDefEqProofs (disch := omega) only [go_sem, reqD_of, dec_t, dec_f, wrap_i64, wrap_u32, wrap_u64, wrap_u8]
  exact h
theorem okAt2 : fnOk Tryz.prog 35 = true := by kernel_rfl

theorem at2 (h : St w0 F w) : Calls Tryz.prog 35 #[.pointer (some ⟨M, 0, none⟩)] w fun e w' => St w0 F w' ∧ e = .returned (.pointer (some ⟨M, 4, none⟩)) := by
  refine F35.calls (by simp) ?_
  unfold F35.code
  simp -dsimp -implicitDefEqProofs (disch := omega) only [go_sem, reqD_of, dec_t, dec_f, wrap_i64, wrap_u32, wrap_u64, wrap_u8]
  exact h
theorem okAt3 : fnOk Tryz.prog 36 = true := by kernel_rfl

theorem at3 (h : St w0 F w) : Calls Tryz.prog 36 #[.pointer (some ⟨M, 0, none⟩)] w fun e w' => St w0 F w' ∧ e = .returned (.pointer (some ⟨M, 9, none⟩)) := by
  refine F36.calls (by simp) ?_
  unfold F36.code
  simp -dsimp -implicitDefEqProofs (disch := omega) only [go_sem, reqD_of, dec_t, dec_f, wrap_i64, wrap_u32, wrap_u64, wrap_u8]
  exact h
theorem okAt4 : fnOk Tryz.prog 37 = true := by kernel_rfl

theorem at4 (h : St w0 F w) : Calls Tryz.prog 37 #[.pointer (some ⟨M, 0, none⟩)] w fun e w' => St w0 F w' ∧ e = .returned (.pointer (some ⟨M, 10, none⟩)) := by
  refine F37.calls (by simp) ?_
  unfold F37.code
  simp -dsimp -implicitDefEqProofs (disch := omega) only [go_sem, reqD_of, dec_t, dec_f, wrap_i64, wrap_u32, wrap_u64, wrap_u8]
  exact h
theorem okAt5 : fnOk Tryz.prog 38 = true := by kernel_rfl

theorem at5 (h : St w0 F w) : Calls Tryz.prog 38 #[.pointer (some ⟨M, 0, none⟩)] w fun e w' => St w0 F w' ∧ e = .returned (.pointer (some ⟨M, 17, none⟩)) := by
  refine F38.calls (by simp) ?_
  unfold F38.code
  simp -dsimp -implicitDefEqProofs (disch := omega) only [go_sem, reqD_of, dec_t, dec_f, wrap_i64, wrap_u32, wrap_u64, wrap_u8]
  exact h
theorem okAt6 : fnOk Tryz.prog 39 = true := by kernel_rfl

theorem at6 (h : St w0 F w) : Calls Tryz.prog 39 #[.pointer (some ⟨M, 0, none⟩)] w fun e w' => St w0 F w' ∧ e = .returned (.pointer (some ⟨M, 19, none⟩)) := by
  refine F39.calls (by simp) ?_
  unfold F39.code
  simp -dsimp -implicitDefEqProofs (disch := omega) only [go_sem, reqD_of, dec_t, dec_f, wrap_i64, wrap_u32, wrap_u64, wrap_u8]
  exact h
theorem okAt7 : fnOk Tryz.prog 40 = true := by kernel_rfl

theorem at7 (h : St w0 F w) : Calls Tryz.prog 40 #[.pointer (some ⟨M, 0, none⟩)] w fun e w' => St w0 F w' ∧ e = .returned (.pointer (some ⟨M, 21, none⟩)) := by
  refine F40.calls (by simp) ?_
  unfold F40.code
  simp -dsimp -implicitDefEqProofs (disch := omega) only [go_sem, reqD_of, dec_t, dec_f, wrap_i64, wrap_u32, wrap_u64, wrap_u8]
  exact h
theorem okAt8 : fnOk Tryz.prog 42 = true := by kernel_rfl

theorem at8 (h : St w0 F w) : Calls Tryz.prog 42 #[.pointer (some ⟨M, 0, none⟩)] w fun e w' => St w0 F w' ∧ e = .returned (.pointer (some ⟨M, 3, none⟩)) := by
  refine F42.calls (by simp) ?_
  unfold F42.code
  simp -dsimp -implicitDefEqProofs (disch := omega) only [go_sem, reqD_of, dec_t, dec_f, wrap_i64, wrap_u32, wrap_u64, wrap_u8]
  exact h
theorem okAt9 : fnOk Tryz.prog 43 = true := by kernel_rfl

theorem at9 (h : St w0 F w) : Calls Tryz.prog 43 #[.pointer (some ⟨M, 0, none⟩)] w fun e w' => St w0 F w' ∧ e = .returned (.pointer (some ⟨M, 5, none⟩)) := by
  refine F43.calls (by simp) ?_
  unfold F43.code
  simp -dsimp -implicitDefEqProofs (disch := omega) only [go_sem, reqD_of, dec_t, dec_f, wrap_i64, wrap_u32, wrap_u64, wrap_u8]
  exact h
theorem okAt10 : fnOk Tryz.prog 44 = true := by kernel_rfl

theorem at10 (h : St w0 F w) : Calls Tryz.prog 44 #[.pointer (some ⟨M, 0, none⟩)] w fun e w' => St w0 F w' ∧ e = .returned (.pointer (some ⟨M, 6, none⟩)) := by
  refine F44.calls (by simp) ?_
  unfold F44.code
  simp -dsimp -implicitDefEqProofs (disch := omega) only [go_sem, reqD_of, dec_t, dec_f, wrap_i64, wrap_u32, wrap_u64, wrap_u8]
  exact h
theorem okAt11 : fnOk Tryz.prog 45 = true := by kernel_rfl

theorem at11 (h : St w0 F w) : Calls Tryz.prog 45 #[.pointer (some ⟨M, 0, none⟩)] w fun e w' => St w0 F w' ∧ e = .returned (.pointer (some ⟨M, 7, none⟩)) := by
  refine F45.calls (by simp) ?_
  unfold F45.code
  simp -dsimp -implicitDefEqProofs (disch := omega) only [go_sem, reqD_of, dec_t, dec_f, wrap_i64, wrap_u32, wrap_u64, wrap_u8]
  exact h
theorem okAt12 : fnOk Tryz.prog 46 = true := by kernel_rfl

theorem at12 (h : St w0 F w) : Calls Tryz.prog 46 #[.pointer (some ⟨M, 0, none⟩)] w fun e w' => St w0 F w' ∧ e = .returned (.pointer (some ⟨M, 18, none⟩)) := by
  refine F46.calls (by simp) ?_
  unfold F46.code
  simp -dsimp -implicitDefEqProofs (disch := omega) only [go_sem, reqD_of, dec_t, dec_f, wrap_i64, wrap_u32, wrap_u64, wrap_u8]
  exact h

theorem put0 (ok : WOk s) (hm : MOk m) (h : St w0 (WP W s * (Blk K (atN 34) * (Blk M (msgB m vn vq vd) * F))) w) :
    Calls Tryz.prog 56 #[.pointer (some ⟨W, 0, none⟩), .pointer (some ⟨M, 0, none⟩), .pointer (some ⟨K, 0, none⟩)] w fun e w' => St w0 (WP W (putF 0 m s) * (Blk K (atN 34) * (Blk M (msgB m vn vq vd) * F))) w' ∧ e = .returned (.tuple #[]) := by
  refine F56.calls (by simp) ?_
  unfold F56.code
  simp -dsimp -implicitDefEqProofs (disch := omega) only [go_sem, reqD_of, dec_t, dec_f, wrap_i64, wrap_u32, wrap_u64, wrap_u8, h.cl K, okAt1]
  refine (at1 (M := M) h).mono ?_
  rintro e w1 ⟨h1, rfl⟩
  simp -dsimp -implicitDefEqProofs (disch := omega) only [go_sem, reqD_of, dec_t, dec_f, wrap_i64, wrap_u32, wrap_u64, wrap_u8, h1.cl M]
  refine (U32_any (n := m.msize) ok hm.msize h1).mono ?_
  rintro e w2 ⟨h2, rfl⟩
  simp -dsimp -implicitDefEqProofs (disch := omega) only [go_sem, reqD_of, dec_t, dec_f, wrap_i64, wrap_u32, wrap_u64, wrap_u8]
  exact h2

theorem put2 (ok : WOk s) (hm : MOk m) (h : St w0 (WP W s * (Blk K (atN 35) * (Blk M (msgB m vn vq vd) * F))) w) :
    Calls Tryz.prog 56 #[.pointer (some ⟨W, 0, none⟩), .pointer (some ⟨M, 0, none⟩), .pointer (some ⟨K, 0, none⟩)] w fun e w' => St w0 (WP W (putF 2 m s) * (Blk K (atN 35) * (Blk M (msgB m vn vq vd) * F))) w' ∧ e = .returned (.tuple #[]) := by
  refine F56.calls (by simp) ?_
  unfold F56.code
  simp -dsimp -implicitDefEqProofs (disch := omega) only [go_sem, reqD_of, dec_t, dec_f, wrap_i64, wrap_u32, wrap_u64, wrap_u8, h.cl K, okAt2]
  refine (at2 (M := M) h).mono ?_
  rintro e w1 ⟨h1, rfl⟩
  simp -dsimp -implicitDefEqProofs (disch := omega) only [go_sem, reqD_of, dec_t, dec_f, wrap_i64, wrap_u32, wrap_u64, wrap_u8, h1.cl M]
  refine (U32_any (n := m.afid) ok hm.afid h1).mono ?_
  rintro e w2 ⟨h2, rfl⟩
  simp -dsimp -implicitDefEqProofs (disch := omega) only [go_sem, reqD_of, dec_t, dec_f, wrap_i64, wrap_u32, wrap_u64, wrap_u8]
  exact h2

theorem put7 (ok : WOk s) (hm : MOk m) (h : St w0 (WP W s * (Blk K (atN 36) * (Blk M (msgB m vn vq vd) * F))) w) :
    Calls Tryz.prog 56 #[.pointer (some ⟨W, 0, none⟩), .pointer (some ⟨M, 0, none⟩), .pointer (some ⟨K, 0, none⟩)] w fun e w' => St w0 (WP W (putF 7 m s) * (Blk K (atN 36) * (Blk M (msgB m vn vq vd) * F))) w' ∧ e = .returned (.tuple #[]) := by
  refine F56.calls (by simp) ?_
  unfold F56.code
  simp -dsimp -implicitDefEqProofs (disch := omega) only [go_sem, reqD_of, dec_t, dec_f, wrap_i64, wrap_u32, wrap_u64, wrap_u8, h.cl K, okAt3]
  refine (at3 (M := M) h).mono ?_
  rintro e w1 ⟨h1, rfl⟩
  simp -dsimp -implicitDefEqProofs (disch := omega) only [go_sem, reqD_of, dec_t, dec_f, wrap_i64, wrap_u32, wrap_u64, wrap_u8, h1.cl M]
  refine (U32_any (n := m.fid) ok hm.fid h1).mono ?_
  rintro e w2 ⟨h2, rfl⟩
  simp -dsimp -implicitDefEqProofs (disch := omega) only [go_sem, reqD_of, dec_t, dec_f, wrap_i64, wrap_u32, wrap_u64, wrap_u8]
  exact h2

theorem put8 (ok : WOk s) (hm : MOk m) (h : St w0 (WP W s * (Blk K (atN 37) * (Blk M (msgB m vn vq vd) * F))) w) :
    Calls Tryz.prog 56 #[.pointer (some ⟨W, 0, none⟩), .pointer (some ⟨M, 0, none⟩), .pointer (some ⟨K, 0, none⟩)] w fun e w' => St w0 (WP W (putF 8 m s) * (Blk K (atN 37) * (Blk M (msgB m vn vq vd) * F))) w' ∧ e = .returned (.tuple #[]) := by
  refine F56.calls (by simp) ?_
  unfold F56.code
  simp -dsimp -implicitDefEqProofs (disch := omega) only [go_sem, reqD_of, dec_t, dec_f, wrap_i64, wrap_u32, wrap_u64, wrap_u8, h.cl K, okAt4]
  refine (at4 (M := M) h).mono ?_
  rintro e w1 ⟨h1, rfl⟩
  simp -dsimp -implicitDefEqProofs (disch := omega) only [go_sem, reqD_of, dec_t, dec_f, wrap_i64, wrap_u32, wrap_u64, wrap_u8, h1.cl M]
  refine (U32_any (n := m.newfid) ok hm.newfid h1).mono ?_
  rintro e w2 ⟨h2, rfl⟩
  simp -dsimp -implicitDefEqProofs (disch := omega) only [go_sem, reqD_of, dec_t, dec_f, wrap_i64, wrap_u32, wrap_u64, wrap_u8]
  exact h2

theorem put13 (ok : WOk s) (hm : MOk m) (h : St w0 (WP W s * (Blk K (atN 38) * (Blk M (msgB m vn vq vd) * F))) w) :
    Calls Tryz.prog 56 #[.pointer (some ⟨W, 0, none⟩), .pointer (some ⟨M, 0, none⟩), .pointer (some ⟨K, 0, none⟩)] w fun e w' => St w0 (WP W (putF 13 m s) * (Blk K (atN 38) * (Blk M (msgB m vn vq vd) * F))) w' ∧ e = .returned (.tuple #[]) := by
  refine F56.calls (by simp) ?_
  unfold F56.code
  simp -dsimp -implicitDefEqProofs (disch := omega) only [go_sem, reqD_of, dec_t, dec_f, wrap_i64, wrap_u32, wrap_u64, wrap_u8, h.cl K, okAt5]
  refine (at5 (M := M) h).mono ?_
  rintro e w1 ⟨h1, rfl⟩
  simp -dsimp -implicitDefEqProofs (disch := omega) only [go_sem, reqD_of, dec_t, dec_f, wrap_i64, wrap_u32, wrap_u64, wrap_u8, h1.cl M]
  refine (U32_any (n := m.iounit) ok hm.iounit h1).mono ?_
  rintro e w2 ⟨h2, rfl⟩
  simp -dsimp -implicitDefEqProofs (disch := omega) only [go_sem, reqD_of, dec_t, dec_f, wrap_i64, wrap_u32, wrap_u64, wrap_u8]
  exact h2

theorem put15 (ok : WOk s) (hm : MOk m) (h : St w0 (WP W s * (Blk K (atN 39) * (Blk M (msgB m vn vq vd) * F))) w) :
    Calls Tryz.prog 56 #[.pointer (some ⟨W, 0, none⟩), .pointer (some ⟨M, 0, none⟩), .pointer (some ⟨K, 0, none⟩)] w fun e w' => St w0 (WP W (putF 15 m s) * (Blk K (atN 39) * (Blk M (msgB m vn vq vd) * F))) w' ∧ e = .returned (.tuple #[]) := by
  refine F56.calls (by simp) ?_
  unfold F56.code
  simp -dsimp -implicitDefEqProofs (disch := omega) only [go_sem, reqD_of, dec_t, dec_f, wrap_i64, wrap_u32, wrap_u64, wrap_u8, h.cl K, okAt6]
  refine (at6 (M := M) h).mono ?_
  rintro e w1 ⟨h1, rfl⟩
  simp -dsimp -implicitDefEqProofs (disch := omega) only [go_sem, reqD_of, dec_t, dec_f, wrap_i64, wrap_u32, wrap_u64, wrap_u8, h1.cl M]
  refine (U32_any (n := m.perm) ok hm.perm h1).mono ?_
  rintro e w2 ⟨h2, rfl⟩
  simp -dsimp -implicitDefEqProofs (disch := omega) only [go_sem, reqD_of, dec_t, dec_f, wrap_i64, wrap_u32, wrap_u64, wrap_u8]
  exact h2

theorem put17 (ok : WOk s) (hm : MOk m) (h : St w0 (WP W s * (Blk K (atN 40) * (Blk M (msgB m vn vq vd) * F))) w) :
    Calls Tryz.prog 56 #[.pointer (some ⟨W, 0, none⟩), .pointer (some ⟨M, 0, none⟩), .pointer (some ⟨K, 0, none⟩)] w fun e w' => St w0 (WP W (putF 17 m s) * (Blk K (atN 40) * (Blk M (msgB m vn vq vd) * F))) w' ∧ e = .returned (.tuple #[]) := by
  refine F56.calls (by simp) ?_
  unfold F56.code
  simp -dsimp -implicitDefEqProofs (disch := omega) only [go_sem, reqD_of, dec_t, dec_f, wrap_i64, wrap_u32, wrap_u64, wrap_u8, h.cl K, okAt7]
  refine (at7 (M := M) h).mono ?_
  rintro e w1 ⟨h1, rfl⟩
  simp -dsimp -implicitDefEqProofs (disch := omega) only [go_sem, reqD_of, dec_t, dec_f, wrap_i64, wrap_u32, wrap_u64, wrap_u8, h1.cl M]
  refine (U32_any (n := m.count) ok hm.count h1).mono ?_
  rintro e w2 ⟨h2, rfl⟩
  simp -dsimp -implicitDefEqProofs (disch := omega) only [go_sem, reqD_of, dec_t, dec_f, wrap_i64, wrap_u32, wrap_u64, wrap_u8]
  exact h2

theorem good1 [Gives F Tabs] (hm : MOk m) (h : St w0 (Blk K (atT 42) * (Blk M (msgB m vn vq vd) * F)) w) :
    Calls Tryz.prog 63 #[.pointer (some ⟨M, 0, none⟩), .pointer (some ⟨K, 0, none⟩)] w fun e w' => St w0 (Blk K (atT 42) * (Blk M (msgB m vn vq vd) * F)) w' ∧ e = .returned (.bool (goodF 1 m)) := by
  have hb := hm.version
  refine F63.calls (by simp) ?_
  unfold F63.code
  simp -dsimp -implicitDefEqProofs (disch := omega) only [go_sem, reqD_of, dec_t, dec_f, wrap_i64, wrap_u32, wrap_u64, wrap_u8, h.cl K, okAt8]
  refine (at8 (M := M) h).mono ?_
  rintro e w1 ⟨h1, rfl⟩
  simp -dsimp -implicitDefEqProofs (disch := omega) only [go_sem, reqD_of, dec_t, dec_f, wrap_i64, wrap_u32, wrap_u64, wrap_u8, h1.cl M]
  refine (good_any (l := m.version) h1 (by omega)).mono ?_
  rintro e w2 ⟨h2, rfl⟩
  simp -dsimp -implicitDefEqProofs (disch := omega) only [go_sem, reqD_of, dec_t, dec_f, wrap_i64, wrap_u32, wrap_u64, wrap_u8]
  exact ⟨h2, rfl⟩

theorem put1 [Gives F Tabs] (ok : WOk s) (hm : MOk m) (h : St w0 (WP W s * (Blk K (atT 42) * (Blk M (msgB m vn vq vd) * F))) w) :
    Calls Tryz.prog 65 #[.pointer (some ⟨W, 0, none⟩), .pointer (some ⟨M, 0, none⟩), .pointer (some ⟨K, 0, none⟩)] w fun e w' => St w0 (WP W (putF 1 m s) * (Blk K (atT 42) * (Blk M (msgB m vn vq vd) * F))) w' ∧ e = .returned (.tuple #[]) := by
  have hb := hm.version
  refine F65.calls (by simp) ?_
  unfold F65.code
  simp -dsimp -implicitDefEqProofs (disch := omega) only [go_sem, reqD_of, dec_t, dec_f, wrap_i64, wrap_u32, wrap_u64, wrap_u8, h.cl K, okAt8]
  refine (at8 (M := M) h).mono ?_
  rintro e w1 ⟨h1, rfl⟩
  simp -dsimp -implicitDefEqProofs (disch := omega) only [go_sem, reqD_of, dec_t, dec_f, wrap_i64, wrap_u32, wrap_u64, wrap_u8, h1.cl M]
  refine (text_any (l := m.version) ok (by omega) h1).mono ?_
  rintro e w2 ⟨h2, rfl⟩
  simp -dsimp -implicitDefEqProofs (disch := omega) only [go_sem, reqD_of, dec_t, dec_f, wrap_i64, wrap_u32, wrap_u64, wrap_u8]
  exact h2

theorem good3 [Gives F Tabs] (hm : MOk m) (h : St w0 (Blk K (atT 43) * (Blk M (msgB m vn vq vd) * F)) w) :
    Calls Tryz.prog 63 #[.pointer (some ⟨M, 0, none⟩), .pointer (some ⟨K, 0, none⟩)] w fun e w' => St w0 (Blk K (atT 43) * (Blk M (msgB m vn vq vd) * F)) w' ∧ e = .returned (.bool (goodF 3 m)) := by
  have hb := hm.uname
  refine F63.calls (by simp) ?_
  unfold F63.code
  simp -dsimp -implicitDefEqProofs (disch := omega) only [go_sem, reqD_of, dec_t, dec_f, wrap_i64, wrap_u32, wrap_u64, wrap_u8, h.cl K, okAt9]
  refine (at9 (M := M) h).mono ?_
  rintro e w1 ⟨h1, rfl⟩
  simp -dsimp -implicitDefEqProofs (disch := omega) only [go_sem, reqD_of, dec_t, dec_f, wrap_i64, wrap_u32, wrap_u64, wrap_u8, h1.cl M]
  refine (good_any (l := m.uname) h1 (by omega)).mono ?_
  rintro e w2 ⟨h2, rfl⟩
  simp -dsimp -implicitDefEqProofs (disch := omega) only [go_sem, reqD_of, dec_t, dec_f, wrap_i64, wrap_u32, wrap_u64, wrap_u8]
  exact ⟨h2, rfl⟩

theorem put3 [Gives F Tabs] (ok : WOk s) (hm : MOk m) (h : St w0 (WP W s * (Blk K (atT 43) * (Blk M (msgB m vn vq vd) * F))) w) :
    Calls Tryz.prog 65 #[.pointer (some ⟨W, 0, none⟩), .pointer (some ⟨M, 0, none⟩), .pointer (some ⟨K, 0, none⟩)] w fun e w' => St w0 (WP W (putF 3 m s) * (Blk K (atT 43) * (Blk M (msgB m vn vq vd) * F))) w' ∧ e = .returned (.tuple #[]) := by
  have hb := hm.uname
  refine F65.calls (by simp) ?_
  unfold F65.code
  simp -dsimp -implicitDefEqProofs (disch := omega) only [go_sem, reqD_of, dec_t, dec_f, wrap_i64, wrap_u32, wrap_u64, wrap_u8, h.cl K, okAt9]
  refine (at9 (M := M) h).mono ?_
  rintro e w1 ⟨h1, rfl⟩
  simp -dsimp -implicitDefEqProofs (disch := omega) only [go_sem, reqD_of, dec_t, dec_f, wrap_i64, wrap_u32, wrap_u64, wrap_u8, h1.cl M]
  refine (text_any (l := m.uname) ok (by omega) h1).mono ?_
  rintro e w2 ⟨h2, rfl⟩
  simp -dsimp -implicitDefEqProofs (disch := omega) only [go_sem, reqD_of, dec_t, dec_f, wrap_i64, wrap_u32, wrap_u64, wrap_u8]
  exact h2

theorem good4 [Gives F Tabs] (hm : MOk m) (h : St w0 (Blk K (atT 44) * (Blk M (msgB m vn vq vd) * F)) w) :
    Calls Tryz.prog 63 #[.pointer (some ⟨M, 0, none⟩), .pointer (some ⟨K, 0, none⟩)] w fun e w' => St w0 (Blk K (atT 44) * (Blk M (msgB m vn vq vd) * F)) w' ∧ e = .returned (.bool (goodF 4 m)) := by
  have hb := hm.aname
  refine F63.calls (by simp) ?_
  unfold F63.code
  simp -dsimp -implicitDefEqProofs (disch := omega) only [go_sem, reqD_of, dec_t, dec_f, wrap_i64, wrap_u32, wrap_u64, wrap_u8, h.cl K, okAt10]
  refine (at10 (M := M) h).mono ?_
  rintro e w1 ⟨h1, rfl⟩
  simp -dsimp -implicitDefEqProofs (disch := omega) only [go_sem, reqD_of, dec_t, dec_f, wrap_i64, wrap_u32, wrap_u64, wrap_u8, h1.cl M]
  refine (good_any (l := m.aname) h1 (by omega)).mono ?_
  rintro e w2 ⟨h2, rfl⟩
  simp -dsimp -implicitDefEqProofs (disch := omega) only [go_sem, reqD_of, dec_t, dec_f, wrap_i64, wrap_u32, wrap_u64, wrap_u8]
  exact ⟨h2, rfl⟩

theorem put4 [Gives F Tabs] (ok : WOk s) (hm : MOk m) (h : St w0 (WP W s * (Blk K (atT 44) * (Blk M (msgB m vn vq vd) * F))) w) :
    Calls Tryz.prog 65 #[.pointer (some ⟨W, 0, none⟩), .pointer (some ⟨M, 0, none⟩), .pointer (some ⟨K, 0, none⟩)] w fun e w' => St w0 (WP W (putF 4 m s) * (Blk K (atT 44) * (Blk M (msgB m vn vq vd) * F))) w' ∧ e = .returned (.tuple #[]) := by
  have hb := hm.aname
  refine F65.calls (by simp) ?_
  unfold F65.code
  simp -dsimp -implicitDefEqProofs (disch := omega) only [go_sem, reqD_of, dec_t, dec_f, wrap_i64, wrap_u32, wrap_u64, wrap_u8, h.cl K, okAt10]
  refine (at10 (M := M) h).mono ?_
  rintro e w1 ⟨h1, rfl⟩
  simp -dsimp -implicitDefEqProofs (disch := omega) only [go_sem, reqD_of, dec_t, dec_f, wrap_i64, wrap_u32, wrap_u64, wrap_u8, h1.cl M]
  refine (text_any (l := m.aname) ok (by omega) h1).mono ?_
  rintro e w2 ⟨h2, rfl⟩
  simp -dsimp -implicitDefEqProofs (disch := omega) only [go_sem, reqD_of, dec_t, dec_f, wrap_i64, wrap_u32, wrap_u64, wrap_u8]
  exact h2

theorem good5 [Gives F Tabs] (hm : MOk m) (h : St w0 (Blk K (atT 45) * (Blk M (msgB m vn vq vd) * F)) w) :
    Calls Tryz.prog 63 #[.pointer (some ⟨M, 0, none⟩), .pointer (some ⟨K, 0, none⟩)] w fun e w' => St w0 (Blk K (atT 45) * (Blk M (msgB m vn vq vd) * F)) w' ∧ e = .returned (.bool (goodF 5 m)) := by
  have hb := hm.ename
  refine F63.calls (by simp) ?_
  unfold F63.code
  simp -dsimp -implicitDefEqProofs (disch := omega) only [go_sem, reqD_of, dec_t, dec_f, wrap_i64, wrap_u32, wrap_u64, wrap_u8, h.cl K, okAt11]
  refine (at11 (M := M) h).mono ?_
  rintro e w1 ⟨h1, rfl⟩
  simp -dsimp -implicitDefEqProofs (disch := omega) only [go_sem, reqD_of, dec_t, dec_f, wrap_i64, wrap_u32, wrap_u64, wrap_u8, h1.cl M]
  refine (good_any (l := m.ename) h1 (by omega)).mono ?_
  rintro e w2 ⟨h2, rfl⟩
  simp -dsimp -implicitDefEqProofs (disch := omega) only [go_sem, reqD_of, dec_t, dec_f, wrap_i64, wrap_u32, wrap_u64, wrap_u8]
  exact ⟨h2, rfl⟩

theorem put5 [Gives F Tabs] (ok : WOk s) (hm : MOk m) (h : St w0 (WP W s * (Blk K (atT 45) * (Blk M (msgB m vn vq vd) * F))) w) :
    Calls Tryz.prog 65 #[.pointer (some ⟨W, 0, none⟩), .pointer (some ⟨M, 0, none⟩), .pointer (some ⟨K, 0, none⟩)] w fun e w' => St w0 (WP W (putF 5 m s) * (Blk K (atT 45) * (Blk M (msgB m vn vq vd) * F))) w' ∧ e = .returned (.tuple #[]) := by
  have hb := hm.ename
  refine F65.calls (by simp) ?_
  unfold F65.code
  simp -dsimp -implicitDefEqProofs (disch := omega) only [go_sem, reqD_of, dec_t, dec_f, wrap_i64, wrap_u32, wrap_u64, wrap_u8, h.cl K, okAt11]
  refine (at11 (M := M) h).mono ?_
  rintro e w1 ⟨h1, rfl⟩
  simp -dsimp -implicitDefEqProofs (disch := omega) only [go_sem, reqD_of, dec_t, dec_f, wrap_i64, wrap_u32, wrap_u64, wrap_u8, h1.cl M]
  refine (text_any (l := m.ename) ok (by omega) h1).mono ?_
  rintro e w2 ⟨h2, rfl⟩
  simp -dsimp -implicitDefEqProofs (disch := omega) only [go_sem, reqD_of, dec_t, dec_f, wrap_i64, wrap_u32, wrap_u64, wrap_u8]
  exact h2

theorem good14 [Gives F Tabs] (hm : MOk m) (h : St w0 (Blk K (atT 46) * (Blk M (msgB m vn vq vd) * F)) w) :
    Calls Tryz.prog 63 #[.pointer (some ⟨M, 0, none⟩), .pointer (some ⟨K, 0, none⟩)] w fun e w' => St w0 (Blk K (atT 46) * (Blk M (msgB m vn vq vd) * F)) w' ∧ e = .returned (.bool (goodF 14 m)) := by
  have hb := hm.name
  refine F63.calls (by simp) ?_
  unfold F63.code
  simp -dsimp -implicitDefEqProofs (disch := omega) only [go_sem, reqD_of, dec_t, dec_f, wrap_i64, wrap_u32, wrap_u64, wrap_u8, h.cl K, okAt12]
  refine (at12 (M := M) h).mono ?_
  rintro e w1 ⟨h1, rfl⟩
  simp -dsimp -implicitDefEqProofs (disch := omega) only [go_sem, reqD_of, dec_t, dec_f, wrap_i64, wrap_u32, wrap_u64, wrap_u8, h1.cl M]
  refine (good_any (l := m.name) h1 (by omega)).mono ?_
  rintro e w2 ⟨h2, rfl⟩
  simp -dsimp -implicitDefEqProofs (disch := omega) only [go_sem, reqD_of, dec_t, dec_f, wrap_i64, wrap_u32, wrap_u64, wrap_u8]
  exact ⟨h2, rfl⟩

theorem put14 [Gives F Tabs] (ok : WOk s) (hm : MOk m) (h : St w0 (WP W s * (Blk K (atT 46) * (Blk M (msgB m vn vq vd) * F))) w) :
    Calls Tryz.prog 65 #[.pointer (some ⟨W, 0, none⟩), .pointer (some ⟨M, 0, none⟩), .pointer (some ⟨K, 0, none⟩)] w fun e w' => St w0 (WP W (putF 14 m s) * (Blk K (atT 46) * (Blk M (msgB m vn vq vd) * F))) w' ∧ e = .returned (.tuple #[]) := by
  have hb := hm.name
  refine F65.calls (by simp) ?_
  unfold F65.code
  simp -dsimp -implicitDefEqProofs (disch := omega) only [go_sem, reqD_of, dec_t, dec_f, wrap_i64, wrap_u32, wrap_u64, wrap_u8, h.cl K, okAt12]
  refine (at12 (M := M) h).mono ?_
  rintro e w1 ⟨h1, rfl⟩
  simp -dsimp -implicitDefEqProofs (disch := omega) only [go_sem, reqD_of, dec_t, dec_f, wrap_i64, wrap_u32, wrap_u64, wrap_u8, h1.cl M]
  refine (text_any (l := m.name) ok (by omega) h1).mono ?_
  rintro e w2 ⟨h2, rfl⟩
  simp -dsimp -implicitDefEqProofs (disch := omega) only [go_sem, reqD_of, dec_t, dec_f, wrap_i64, wrap_u32, wrap_u64, wrap_u8]
  exact h2
end
end Go.Proofs.YtmiohkmcnppaeaaGreatDoor

namespace Go.Proofs.YtmiohkmcnppaeaaGreatDoor
open Go
set_option linter.unusedVariables false
set_option linter.unusedSimpArgs false
set_option maxRecDepth 100000

section
variable {w0 w : World} {F : HP} {W M K : Nat} {s : WS} {m : MsgD} {vn vq vd : Value}

theorem raw_any {l : List UInt8} {v : Value} (ok : WOk s) (hl : l.length ≤ 1099511627776) (hv : Ent F (RdB v l)) (h : St w0 (WP W s * F) w) :
    Calls Tryz.prog 92 #[.pointer (some ⟨W, 0, none⟩), v] w fun e w' => St w0 (WP W (rawS l s) * F) w' ∧ e = .returned (.tuple #[]) := by
  obtain ⟨a, c, rfl, _⟩ := (h.ent ((Ent.right _ _).trans hv)).bytes
  obtain ⟨vb, u, h⟩ := WP.open h
  have hb := ok.b
  have hlim := ok.lim
  refine F92.calls (by simp) ?_
  unfold F92.code
  simp -dsimp -implicitDefEqProofs (disch := omega) only [go_sem, reqD_of, dec_t, dec_f, wrap_i64, wrap_u32, wrap_u64, wrap_u8]
  refine (room_any (n := l.length) ok hl h).mono ?_
  rintro e w2 ⟨h2, rfl⟩
  by_cases hr : hasRoom l.length s = true
  · have e1 : roomS l.length s = s := by
      unfold hasRoom at hr
      simp only [decide_eq_true_eq] at hr
      unfold roomS; rw [if_neg (by omega)]
    have hr2 := hr
    unfold hasRoom at hr2
    simp only [decide_eq_true_eq] at hr2
    have e2 : rawS l s = { s with b := s.b ++ l } := by unfold rawS; rw [if_pos hr]
    rw [e1] at h2
    rw [e2, hr]
    obtain ⟨a0, c0, rfl, _⟩ := h2.rowForm vb
    simp -dsimp -implicitDefEqProofs (disch := omega) only [go_sem, reqD_of, dec_t, dec_f, wrap_i64, wrap_u32, wrap_u64, wrap_u8, h2.cl W]
    refine h2.app (v := .slice a0 s.b.length c0) (x := .slice a l.length c) fact_rowTy_28 ((Ent.right _ _).trans ((Ent.right _ _).trans ((Ent.right _ _).trans hv))) Tryz.underlying28 byR_cells (fun h => by have := congrArg List.length h; simpa [byR] using this) (show s.b.length + l.length ≤ 9223372036854775807 by omega) (show (s.b.length + l.length) * 1 ≤ 140737488355328 by omega) fun v3 w4 h4 => ?_
    obtain ⟨a3, c3, rfl, _⟩ := h4.rowForm v3
    simp -dsimp -implicitDefEqProofs (disch := omega) only [go_sem, reqD_of, dec_t, dec_f, wrap_i64, wrap_u32, wrap_u64, wrap_u8]
    refine h4.sto (b := W) (off := 1) (by simp) rfl fun w5 h5 => ?_
    simp only [List.setIfInBounds_toArray, List.set_cons_succ, List.set_cons_zero] at h5
    simp -dsimp -implicitDefEqProofs (disch := omega) only [go_sem, reqD_of, dec_t, dec_f, wrap_i64, wrap_u32, wrap_u64, wrap_u8]
    exact WP.mk (v := .slice a3 (s.b.length + l.length) c3) (u := u) (WU.of (n := s.b.length + l.length) (xs := byR s.b ++ byR l) (by simp) (by simp [byR]) h5)
  · have hr' : hasRoom l.length s = false := by simpa using hr
    have e2 : rawS l s = roomS l.length s := by unfold rawS; rw [if_neg hr]
    rw [e2, hr']
    simp -dsimp -implicitDefEqProofs (disch := omega) only [go_sem, reqD_of, dec_t, dec_f, wrap_i64, wrap_u32, wrap_u64, wrap_u8]
    exact WP.mk h2

theorem put6 (ok : WOk s) (hm : MOk m) (h : St w0 (WP W s * (Blk M (msgB m vn vq vd) * F)) w) :
    Calls Tryz.prog 74 #[.pointer (some ⟨W, 0, none⟩), .pointer (some ⟨M, 0, none⟩)] w fun e w' => St w0 (WP W (putF 6 m s) * (Blk M (msgB m vn vq vd) * F)) w' ∧ e = .returned (.tuple #[]) := by
  refine F74.calls (by simp) ?_
  unfold F74.code
  simp -dsimp -implicitDefEqProofs (disch := omega) only [go_sem, reqD_of, dec_t, dec_f, wrap_i64, wrap_u32, wrap_u64, wrap_u8, h.cl M]
  refine (U16_any (n := m.oldtag) ok hm.oldtag h).mono ?_
  rintro e w2 ⟨h2, rfl⟩
  simp -dsimp -implicitDefEqProofs (disch := omega) only [go_sem, reqD_of, dec_t, dec_f, wrap_i64, wrap_u32, wrap_u64, wrap_u8]
  exact h2

theorem put12 (ok : WOk s) (hm : MOk m) (h : St w0 (WP W s * (Blk M (msgB m vn vq vd) * F)) w) :
    Calls Tryz.prog 79 #[.pointer (some ⟨W, 0, none⟩), .pointer (some ⟨M, 0, none⟩)] w fun e w' => St w0 (WP W (putF 12 m s) * (Blk M (msgB m vn vq vd) * F)) w' ∧ e = .returned (.tuple #[]) := by
  refine F79.calls (by simp) ?_
  unfold F79.code
  simp -dsimp -implicitDefEqProofs (disch := omega) only [go_sem, reqD_of, dec_t, dec_f, wrap_i64, wrap_u32, wrap_u64, wrap_u8, h.cl M]
  refine (U8_any (n := m.mode) ok hm.mode h).mono ?_
  rintro e w2 ⟨h2, rfl⟩
  simp -dsimp -implicitDefEqProofs (disch := omega) only [go_sem, reqD_of, dec_t, dec_f, wrap_i64, wrap_u32, wrap_u64, wrap_u8]
  exact h2

theorem put16 (ok : WOk s) (hm : MOk m) (h : St w0 (WP W s * (Blk M (msgB m vn vq vd) * F)) w) :
    Calls Tryz.prog 84 #[.pointer (some ⟨W, 0, none⟩), .pointer (some ⟨M, 0, none⟩)] w fun e w' => St w0 (WP W (putF 16 m s) * (Blk M (msgB m vn vq vd) * F)) w' ∧ e = .returned (.tuple #[]) := by
  refine F84.calls (by simp) ?_
  unfold F84.code
  simp -dsimp -implicitDefEqProofs (disch := omega) only [go_sem, reqD_of, dec_t, dec_f, wrap_i64, wrap_u32, wrap_u64, wrap_u8, h.cl M]
  refine (U64_any (n := m.offset) ok hm.offset h).mono ?_
  rintro e w2 ⟨h2, rfl⟩
  simp -dsimp -implicitDefEqProofs (disch := omega) only [go_sem, reqD_of, dec_t, dec_f, wrap_i64, wrap_u32, wrap_u64, wrap_u8]
  exact h2

theorem put11 (ok : WOk s) (hm : MOk m) (h : St w0 (WP W s * (Blk M (msgB m vn vq vd) * F)) w) :
    Calls Tryz.prog 101 #[.pointer (some ⟨W, 0, none⟩), .pointer (some ⟨M, 0, none⟩)] w fun e w' => St w0 (WP W (putF 11 m s) * (Blk M (msgB m vn vq vd) * F)) w' ∧ e = .returned (.tuple #[]) := by
  refine F101.calls (by simp) ?_
  unfold F101.code
  simp -dsimp -implicitDefEqProofs (disch := omega) only [go_sem, reqD_of, dec_t, dec_f, wrap_i64, wrap_u32, wrap_u64, wrap_u8, h.cl M]
  refine (putQid_any ok hm.qid.1 hm.qid.2.1 hm.qid.2.2 h).mono ?_
  rintro e w2 ⟨h2, rfl⟩
  simp -dsimp -implicitDefEqProofs (disch := omega) only [go_sem, reqD_of, dec_t, dec_f, wrap_i64, wrap_u32, wrap_u64, wrap_u8]
  exact h2

theorem put18 (ok : WOk s) (hm : MOk m) (hi : MsgI F m vn vq vd) (h : St w0 (WP W s * (Blk M (msgB m vn vq vd) * F)) w) :
    Calls Tryz.prog 91 #[.pointer (some ⟨W, 0, none⟩), .pointer (some ⟨M, 0, none⟩)] w fun e w' => St w0 (WP W (putF 18 m s) * (Blk M (msgB m vn vq vd) * F)) w' ∧ e = .returned (.tuple #[]) := by
  obtain ⟨a, c, rfl, _⟩ := (h.ent ((Ent.right _ _).trans ((Ent.right _ _).trans hi.data))).bytes
  have hd := hm.data
  refine F91.calls (by simp) ?_
  unfold F91.code
  simp -dsimp -implicitDefEqProofs (disch := omega) only [go_sem, reqD_of, dec_t, dec_f, wrap_i64, wrap_u32, wrap_u64, wrap_u8, h.cl M]
  refine (U32_any (n := m.data.length) ok (by omega) h).mono ?_
  rintro e w2 ⟨h2, rfl⟩
  simp -dsimp -implicitDefEqProofs (disch := omega) only [go_sem, reqD_of, dec_t, dec_f, wrap_i64, wrap_u32, wrap_u64, wrap_u8, h2.cl M]
  refine (raw_any (l := m.data) ok.raw (by omega) ((Ent.right _ _).trans hi.data) h2).mono ?_
  rintro e w3 ⟨h3, rfl⟩
  simp -dsimp -implicitDefEqProofs (disch := omega) only [go_sem, reqD_of, dec_t, dec_f, wrap_i64, wrap_u32, wrap_u64, wrap_u8]
  exact h3

theorem put19 [Gives F Tabs] (ok : WOk s) (hop : s.op = []) (hm : MOk m) (h : St w0 (WP W s * (Blk M (msgB m vn vq vd) * F)) w) :
    Calls Tryz.prog 157 #[.pointer (some ⟨W, 0, none⟩), .pointer (some ⟨M, 0, none⟩)] w fun e w' => St w0 (WP W (putF 19 m s) * (Blk M (msgB m vn vq vd) * F)) w' ∧ e = .returned (.tuple #[]) := by
  refine F157.calls (by simp) ?_
  unfold F157.code
  simp -dsimp -implicitDefEqProofs (disch := omega) only [go_sem, reqD_of, dec_t, dec_f, wrap_i64, wrap_u32, wrap_u64, wrap_u8, h.cl M]
  refine (putStat2_any (d := m.stat) ok (by rw [hop]; decide) hm.stat h).mono ?_
  rintro e w2 ⟨h2, rfl⟩
  simp -dsimp -implicitDefEqProofs (disch := omega) only [go_sem, reqD_of, dec_t, dec_f, wrap_i64, wrap_u32, wrap_u64, wrap_u8]
  exact h2

theorem good19 [Gives F Tabs] (hm : MOk m) (h : St w0 (Blk M (msgB m vn vq vd) * F) w) :
    Calls Tryz.prog 156 #[.pointer (some ⟨M, 0, none⟩)] w fun e w' => St w0 (Blk M (msgB m vn vq vd) * F) w' ∧ e = .returned (.bool (goodF 19 m)) := by
  have b1 := hm.stat.name
  have b2 := hm.stat.uid
  have b3 := hm.stat.gid
  have b4 := hm.stat.muid
  have hall : goodF 19 m = (good m.stat.name && (good m.stat.uid && (good m.stat.gid && good m.stat.muid))) := by simp [goodF]
  rw [hall]
  refine F156.calls (by simp) ?_
  unfold F156.code
  simp -dsimp -implicitDefEqProofs (disch := omega) only [go_sem, reqD_of, dec_t, dec_f, wrap_i64, wrap_u32, wrap_u64, wrap_u8, h.cl M]
  refine (good_any (l := m.stat.name) h (by omega)).mono ?_
  rintro e w1 ⟨h1, rfl⟩
  cases g1 : good m.stat.name with
  | false => simp -dsimp -implicitDefEqProofs (disch := omega) only [go_sem, reqD_of, dec_t, dec_f, wrap_i64, wrap_u32, wrap_u64, wrap_u8, h1.cl M]; exact h1
  | true =>
  simp -dsimp -implicitDefEqProofs (disch := omega) only [go_sem, reqD_of, dec_t, dec_f, wrap_i64, wrap_u32, wrap_u64, wrap_u8, h1.cl M]
  refine (good_any (l := m.stat.uid) h1 (by omega)).mono ?_
  rintro e w2 ⟨h2, rfl⟩
  cases g2 : good m.stat.uid with
  | false => simp -dsimp -implicitDefEqProofs (disch := omega) only [go_sem, reqD_of, dec_t, dec_f, wrap_i64, wrap_u32, wrap_u64, wrap_u8, h2.cl M]; exact h2
  | true =>
  simp -dsimp -implicitDefEqProofs (disch := omega) only [go_sem, reqD_of, dec_t, dec_f, wrap_i64, wrap_u32, wrap_u64, wrap_u8, h2.cl M]
  refine (good_any (l := m.stat.gid) h2 (by omega)).mono ?_
  rintro e w3 ⟨h3, rfl⟩
  cases g3 : good m.stat.gid with
  | false => simp -dsimp -implicitDefEqProofs (disch := omega) only [go_sem, reqD_of, dec_t, dec_f, wrap_i64, wrap_u32, wrap_u64, wrap_u8, h3.cl M]; exact h3
  | true =>
  simp -dsimp -implicitDefEqProofs (disch := omega) only [go_sem, reqD_of, dec_t, dec_f, wrap_i64, wrap_u32, wrap_u64, wrap_u8, h3.cl M]
  refine (good_any (l := m.stat.muid) h3 (by omega)).mono ?_
  rintro e w4 ⟨h4, rfl⟩
  cases g4 : good m.stat.muid with
  | false => simp -dsimp -implicitDefEqProofs (disch := omega) only [go_sem, reqD_of, dec_t, dec_f, wrap_i64, wrap_u32, wrap_u64, wrap_u8, h4.cl M]; exact h4
  | true => simp -dsimp -implicitDefEqProofs (disch := omega) only [go_sem, reqD_of, dec_t, dec_f, wrap_i64, wrap_u32, wrap_u64, wrap_u8, h4.cl M]; exact h4

theorem good10 (hm : MOk m) (hi : MsgI F m vn vq vd) (h : St w0 (Blk M (msgB m vn vq vd) * F) w) :
    Calls Tryz.prog 143 #[.pointer (some ⟨M, 0, none⟩)] w fun e w' => St w0 (Blk M (msgB m vn vq vd) * F) w' ∧ e = .returned (.bool (goodF 10 m)) := by
  obtain ⟨_, a, c, rfl, _, _⟩ := St.rowsAt (k := 3) (l := m.qids) (enc := qidC) (fun _ => rfl) (by decide) (h.ent ((Ent.right _ _).trans hi.qids))
  have hb := hm.qids
  refine F143.calls (by simp) ?_
  unfold F143.code
  simp -dsimp -implicitDefEqProofs (disch := omega) only [go_sem, reqD_of, dec_t, dec_f, wrap_i64, wrap_u32, wrap_u64, wrap_u8, h.cl M]
  refine ⟨h, ?_⟩
  show _ = decide (m.qids.length ≤ 16)
  by_cases hx : m.qids.length ≤ 16
  · simp [hx]; omega
  · simp [hx]; omega
end
end Go.Proofs.YtmiohkmcnppaeaaGreatDoor

namespace Go.Proofs.YtmiohkmcnppaeaaGreatDoor
open Go
set_option linter.unusedVariables false
set_option linter.unusedSimpArgs false
set_option maxRecDepth 100000

theorem cells_map {ls : List (List UInt8)} : ls.map sv = ls.flatMap fun l => [sv l] := by rw [List.map_eq_flatMap]
section
variable {w0 w : World} {F : HP} {W M K : Nat} {s : WS} {m : MsgD} {vn vq vd : Value} {ls : List (List UInt8)} {a : Option Addr} {c : Nat}
theorem St.textAt (h : St w0 F w) (hv : Ent F (Reads 1 (.slice a ls.length c) ls.length (ls.map sv))) {i : Nat} (hi : i < ls.length) : ∃ g o, a = some ⟨g, o, none⟩ ∧ w.cell? ⟨g, o + i, none⟩ = some (sv ls[i]) := by
  rw [cells_map] at hv
  obtain ⟨_, a', c', hv', _, hcl⟩ := St.rowsAt (k := 1) (l := ls) (enc := fun l => [sv l]) (fun _ => rfl) (by decide) (h.ent hv)
  simp only [Value.slice.injEq, true_and] at hv'
  obtain ⟨rfl, rfl⟩ := hv'
  obtain ⟨g, o, rfl, _, hc⟩ := hcl i hi
  have hc := hc 0 (by decide)
  simp only [Nat.mul_one, Nat.add_zero, List.getElem?_cons_zero] at hc
  exact ⟨g, o, rfl, hc⟩
theorem St.textsForm {v : Value} (h : St w0 F w) (hv : Ent F (Reads 1 v ls.length (ls.map sv))) : ∃ a c, v = .slice a ls.length c := by
  rw [cells_map] at hv
  obtain ⟨_, a, c, rfl, _, _⟩ := St.rowsAt (k := 1) (l := ls) (enc := fun l => [sv l]) (fun _ => rfl) (by decide) (h.ent hv)
  exact ⟨a, c, rfl⟩
theorem okGF : fnOk Tryz.prog 132 = true := by kernel_rfl

theorem notGood_any [Gives F Tabs] {l : List UInt8} (hl : l.length ≤ 9223372036854775807) (h : St w0 F w) : Calls Tryz.prog 132 #[sv l] w fun e w' => St w0 F w' ∧ e = .returned (.bool (!good l)) := by
  refine F132.calls (by simp) ?_
  unfold F132.code
  simp -dsimp -implicitDefEqProofs (disch := omega) only [go_sem, reqD_of, dec_t, dec_f, wrap_i64, wrap_u32, wrap_u64, wrap_u8]
  refine (good_any (l := l) h hl).mono ?_
  rintro e w1 ⟨h1, rfl⟩
  simp -dsimp -implicitDefEqProofs (disch := omega) only [go_sem, reqD_of, dec_t, dec_f, wrap_i64, wrap_u32, wrap_u64, wrap_u8]
  exact h1
section
attribute [local go_sem] F174.t6_eq F174.t3_eq F174.t7_eq
theorem indexBad_any [Gives F Tabs] (hn : ls.length ≤ 16) (hb : ∀ l ∈ ls, l.length ≤ 2147483648) (hv : Ent F (Reads 1 (.slice a ls.length c) ls.length (ls.map sv))) (h : St w0 F w) :
    Calls Tryz.prog 174 #[.slice a ls.length c, .func (.func 132) #[] #[]] w fun e w' => ∃ k : Int, St w0 F w' ∧ e = .returned (.int .i64 k) ∧ decide (0 ≤ k) = !ls.all good := by
  refine F174.calls (by simp) ?_
  unfold F174.code
  simp -dsimp -implicitDefEqProofs (disch := omega) only [go_sem, reqD_of, dec_t, dec_f, wrap_i64, wrap_u32, wrap_u64, wrap_u8]
  refine loop_intro (fun e w' => e.ds = [] ∧ e.ρ 0 = .slice a ls.length c ∧ e.ρ 1 = .func (.func 132) #[] #[] ∧ e.ρ 7 = .int .i64 ls.length ∧ ∃ i : Nat, i ≤ ls.length ∧ e.ρ 8 = .int .i64 i ∧ (ls.take i).all good = true ∧ St w0 F w')
    (fun e _ => match e.ρ 8 with | .int _ i => (ls.length - i).toNat | _ => 0) ?_ ?_
  · exact ⟨rfl, by simp -dsimp -implicitDefEqProofs only [go_sem], by simp -dsimp -implicitDefEqProofs only [go_sem], by simp -dsimp -implicitDefEqProofs only [go_sem], 0, by omega, by simp -dsimp -implicitDefEqProofs only [go_sem], rfl, h⟩
  clear h
  rintro e w ⟨hds, e0, e1, e7, i, hi, e8, hall, h⟩
  by_cases hlt : (i : Int) < ls.length
  · have hil : i < ls.length := by omega
    obtain ⟨g, o, rfl, hc⟩ := h.textAt hv hil
    have hlb := hb _ (List.getElem_mem hil)
    obtain ⟨l, hl⟩ : ∃ l, l = ls[i] := ⟨_, rfl⟩
    rw [← hl] at hc hlb
    simp -dsimp -implicitDefEqProofs (disch := omega) only [go_sem, reqD_of, dec_t, dec_f, wrap_i64, wrap_u32, wrap_u64, wrap_u8, hds, e0, e1, e7, e8, hlt, hc, okGF]
    refine (notGood_any (l := l) (by omega) h).mono ?_
    rintro e' w1 ⟨h1, rfl⟩
    cases hg : good l with
    | false =>
      simp -dsimp -implicitDefEqProofs (disch := omega) only [go_sem, reqD_of, dec_t, dec_f, wrap_i64, wrap_u32, wrap_u64, wrap_u8, hds, e0, e1, e7, e8]
      refine ⟨(i : Int), h1, rfl, ?_⟩
      have : ls.all good = false := by
        rw [List.all_eq_false]
        exact ⟨l, by rw [hl]; exact List.getElem_mem hil, by rw [hg]; decide⟩
      rw [this]
      simp
    | true =>
      simp -dsimp -implicitDefEqProofs (disch := omega) only [go_sem, reqD_of, dec_t, dec_f, wrap_i64, wrap_u32, wrap_u64, wrap_u8, hds, e0, e1, e7, e8]
      refine ⟨⟨i + 1, by omega, by omega, ?_, h1⟩, by omega⟩
      rw [List.take_succ_eq_append_getElem hil, List.all_append, hall, ← hl]
      simp [hg]
  · obtain rfl : i = ls.length := by omega
    rw [List.take_of_length_le (by omega)] at hall
    simp -dsimp -implicitDefEqProofs (disch := omega) only [go_sem, reqD_of, dec_t, dec_f, wrap_i64, wrap_u32, wrap_u64, wrap_u8, hds, e0, e1, e7, e8, hlt]
    exact ⟨-1, h, rfl, by rw [hall]; decide⟩
end

theorem containsBad_any [Gives F Tabs] (hn : ls.length ≤ 16) (hb : ∀ l ∈ ls, l.length ≤ 2147483648) (hv : Ent F (Reads 1 (.slice a ls.length c) ls.length (ls.map sv))) (h : St w0 F w) :
    Calls Tryz.prog 131 #[.slice a ls.length c, .func (.func 132) #[] #[]] w fun e w' => St w0 F w' ∧ e = .returned (.bool (!ls.all good)) := by
  refine F131.calls (by simp) ?_
  unfold F131.code
  simp -dsimp -implicitDefEqProofs (disch := omega) only [go_sem, reqD_of, dec_t, dec_f, wrap_i64, wrap_u32, wrap_u64, wrap_u8]
  refine (indexBad_any hn hb hv h).mono ?_
  rintro e w1 ⟨k, h1, rfl, hk⟩
  simp -dsimp -implicitDefEqProofs (disch := omega) only [go_sem, reqD_of, dec_t, dec_f, wrap_i64, wrap_u32, wrap_u64, wrap_u8, hk]
  exact h1

theorem good9 [Gives F Tabs] (hm : MOk m) (hi : MsgI F m vn vq vd) (h : St w0 (Blk M (msgB m vn vq vd) * F) w) :
    Calls Tryz.prog 130 #[.pointer (some ⟨M, 0, none⟩)] w fun e w' => St w0 (Blk M (msgB m vn vq vd) * F) w' ∧ e = .returned (.bool (goodF 9 m)) := by
  obtain ⟨a, c, rfl⟩ := h.textsForm ((Ent.right _ _).trans hi.names)
  have hb := hm.names
  refine F130.calls (by simp) ?_
  unfold F130.code
  by_cases hx : (m.names.length : Int) ≤ 16
  · simp -dsimp -implicitDefEqProofs (disch := omega) only [go_sem, reqD_of, dec_t, dec_f, wrap_i64, wrap_u32, wrap_u64, wrap_u8, h.cl M, hx]
    refine (containsBad_any (ls := m.names) (by omega) hm.names1 ((Ent.right _ _).trans hi.names) h).mono ?_
    rintro e w1 ⟨h1, rfl⟩
    simp -dsimp -implicitDefEqProofs (disch := omega) only [go_sem, reqD_of, dec_t, dec_f, wrap_i64, wrap_u32, wrap_u64, wrap_u8, hx]
    refine ⟨h1, ?_⟩
    show _ = (decide (m.names.length ≤ 16) && m.names.all good)
    rw [decide_eq_true (by omega : m.names.length ≤ 16)]
    cases m.names.all good <;> rfl
  · simp -dsimp -implicitDefEqProofs (disch := omega) only [go_sem, reqD_of, dec_t, dec_f, wrap_i64, wrap_u32, wrap_u64, wrap_u8, h.cl M, hx]
    refine ⟨h, ?_⟩
    show _ = (decide (m.names.length ≤ 16) && m.names.all good)
    rw [decide_eq_false (by omega : ¬ m.names.length ≤ 16)]
    rfl
theorem okText : fnOk Tryz.prog 66 = true := by kernel_rfl
section
attribute [local go_sem] F134.t5_eq F134.t3_eq
theorem putNames_any [Gives F Tabs] (ok : WOk s) (hn : ls.length ≤ 16) (hb : ∀ l ∈ ls, l.length ≤ 2147483648) (hv : Ent F (Reads 1 (.slice a ls.length c) ls.length (ls.map sv))) (h : St w0 (WP W s * F) w) :
    Calls Tryz.prog 134 #[.pointer (some ⟨W, 0, none⟩), .slice a ls.length c, .func (.func 66) #[.pointer (some ⟨W, 0, none⟩)] #[]] w fun e w' => St w0 (WP W (pcsS (.raw (leN 2 ls.length) :: ls.map Pc.txt) s) * F) w' ∧ e = .returned (.tuple #[]) := by
  refine F134.calls (by simp) ?_
  unfold F134.code
  have hw : IntKind.u16.wrap ((ls.length : Nat) : Int) = (ls.length : Nat) := w16 (by omega)
  simp -dsimp -implicitDefEqProofs (disch := omega) only [go_sem, reqD_of, dec_t, dec_f, wrap_i64, wrap_u32, wrap_u64, wrap_u8, hw]
  refine (U16_any (n := ls.length) ok (by omega) h).mono ?_
  rintro e w1 ⟨h1, rfl⟩
  simp -dsimp -implicitDefEqProofs (disch := omega) only [go_sem, reqD_of, dec_t, dec_f, wrap_i64, wrap_u32, wrap_u64, wrap_u8]
  refine loop_intro (fun e w' => e.ds = [] ∧ e.ρ 2 = .func (.func 66) #[.pointer (some ⟨W, 0, none⟩)] #[] ∧ e.ρ 13 = .slice a ls.length c ∧ e.ρ 14 = .int .i64 ls.length ∧ ∃ i : Nat, i ≤ ls.length ∧ e.ρ 15 = .int .i64 i ∧ St w0 (WP W (pcsS (.raw (leN 2 ls.length) :: (ls.take i).map Pc.txt) s) * F) w')
    (fun e _ => match e.ρ 15 with | .int _ i => (ls.length - i).toNat | _ => 0) ?_ ?_
  · exact ⟨rfl, by simp -dsimp -implicitDefEqProofs only [go_sem], by simp -dsimp -implicitDefEqProofs only [go_sem], by simp -dsimp -implicitDefEqProofs only [go_sem], 0, by omega, by simp -dsimp -implicitDefEqProofs only [go_sem], h1⟩
  clear h h1
  rintro e w ⟨hds, e2, e13, e14, i, hi, e15, h⟩
  have o2 : WOk (pcsS (.raw (leN 2 ls.length) :: (ls.take i).map Pc.txt) s) := ok.pcs
  by_cases hlt : (i : Int) < ls.length
  · have hil : i < ls.length := by omega
    obtain ⟨g, o, rfl, hc⟩ := h.textAt ((Ent.right _ _).trans hv) hil
    have hlb := hb _ (List.getElem_mem hil)
    simp -dsimp -implicitDefEqProofs (disch := omega) only [go_sem, reqD_of, dec_t, dec_f, wrap_i64, wrap_u32, wrap_u64, wrap_u8, hds, e2, e13, e14, e15, hlt, hc, okText, callY_clos]
    refine (text_any (l := ls[i]) o2 (by omega) h).mono ?_
    rintro e' w1 ⟨h1, rfl⟩
    simp -dsimp -implicitDefEqProofs (disch := omega) only [go_sem, reqD_of, dec_t, dec_f, wrap_i64, wrap_u32, wrap_u64, wrap_u8, hds, e2, e13, e14, e15]
    refine ⟨⟨i + 1, by omega, by omega, ?_⟩, by omega⟩
    have e1 : pcsS (.raw (leN 2 ls.length) :: (ls.take (i + 1)).map Pc.txt) s = textS ls[i] (pcsS (.raw (leN 2 ls.length) :: (ls.take i).map Pc.txt) s) := by
      rw [List.take_succ_eq_append_getElem hil]
      simp only [List.map_append, List.map_cons, List.map_nil, pcsS, List.foldl_append, List.foldl_cons, List.foldl_nil, pcS]
    rw [e1]
    exact h1
  · obtain rfl : i = ls.length := by omega
    rw [List.take_of_length_le (by omega)] at h
    simp -dsimp -implicitDefEqProofs (disch := omega) only [go_sem, reqD_of, dec_t, dec_f, wrap_i64, wrap_u32, wrap_u64, wrap_u8, hds, e2, e13, e14, e15, hlt]
    exact h
end

theorem put9 [Gives F Tabs] (ok : WOk s) (hm : MOk m) (hg : goodF 9 m = true) (hi : MsgI F m vn vq vd) (h : St w0 (WP W s * (Blk M (msgB m vn vq vd) * F)) w) :
    Calls Tryz.prog 133 #[.pointer (some ⟨W, 0, none⟩), .pointer (some ⟨M, 0, none⟩)] w fun e w' => St w0 (WP W (putF 9 m s) * (Blk M (msgB m vn vq vd) * F)) w' ∧ e = .returned (.tuple #[]) := by
  obtain ⟨a, c, rfl⟩ := h.textsForm ((Ent.right _ _).trans ((Ent.right _ _).trans hi.names))
  have hg2 : m.names.length ≤ 16 := by
    simp only [goodF, Bool.and_eq_true, decide_eq_true_eq] at hg
    exact hg.1
  refine F133.calls (by simp) ?_
  unfold F133.code
  simp -dsimp -implicitDefEqProofs (disch := omega) only [go_sem, reqD_of, dec_t, dec_f, wrap_i64, wrap_u32, wrap_u64, wrap_u8, h.cl M]
  refine (putNames_any (ls := m.names) ok hg2 hm.names1 ((Ent.right _ _).trans hi.names) h).mono ?_
  rintro e w1 ⟨h1, rfl⟩
  simp -dsimp -implicitDefEqProofs (disch := omega) only [go_sem, reqD_of, dec_t, dec_f, wrap_i64, wrap_u32, wrap_u64, wrap_u8]
  exact h1
end
end Go.Proofs.YtmiohkmcnppaeaaGreatDoor

/- The compiled code of the functions, by program (genir.py): each with the theorem that it is what the engine makes of the loaded program's. · Maps of one's own: made, looked up, written, gone through. · Variables of more cells than one: read and written whole. · Rows of one's own that begin anywhere in their block: cut, appended to, cleared. · Loops over functions: what a loop asks of the function it ranges over, in parts of memory. · Walks of the locks package: a lock's rows. · Walks of the locks package: a lock's two rows: who is in them, whether one more is let in, one is taken out. · Association lists: what a map's entries are, and a star over them. · The table of locks: what it is in memory, and its calls. · The table of locks: New, Idle, Ask. · The table of locks: Queue, who is let in, Free. · The table of locks: who is let in; Free. · The document's example of locks. · Compare, the document's and the program's. · Parts of memory, found by what they are about: the frame is looked through by instances. -/
import Derived.Test.YtacmnfpgimgigaaGreatZ1
import Derived.Test.YtacmnfpgimgigaaGreatZ2
import Derived.Test.YtacmnfpgimgigaaGreatZ3
import Derived.Test.YtacmnfpgimgigaaGreatZ4
import Derived.Test.YtacmnfpgimgigaaGreatZ5
import Derived.Test.YtacmnfpgimgigaaGreatZ6
import Derived.Test.YtacmnfpgimgigaaGreatZ7
import Derived.Test.YtacmnfpgimgigaaGreatZ8
import Derived.Test.YtacmnfpgimgigaaGreatZ9
import Derived.MapKept
import Derived.Maps.RangeRun
import Derived.Carry
import Derived.WideKeyRuns
import Derived.Lib.SliceRun
namespace Go.Proofs.YtacmnfpgimgigaaGreat
open Go
set_option maxRecDepth 100000
variable {P : Program} {Q : Post} {e : FA} {w : World} {args : Array Value} {R : Ending → World → Prop}

def F63.r0 : List Oper := [
  op 4 (.assign (.const (.int .i64 0))) 3]
def F63.r1 : List Oper := [
  op 6 (.move (.tmp 0)) 71,
  op 7 (.call ⟨(.builtin .len), #[(.tmp 6)], #[71]⟩) 3,
  op 8 (.move (.const (.int .i64 0))) 3]
def F63.r2 : List Oper := [
  op 9 (.binOp .lss 3 (.tmp 8) (.tmp 7) 3) 0]
def F63.r3 : List Oper := [
  op 10 (.move (.tmp 8)) 3,
  op 5 (.assign (.tmp 10)) 3]
def F63.r4 : List Oper := [
  op 11 (.move (.tmp 1)) 88,
  op 12 (.move (.tmp 0)) 71,
  op 13 (.move (.tmp 5)) 3,
  op 14 (.indexAddr 71 (.tmp 12) (.tmp 13)) 0,
  od 15 (.load 76 (.tmp 14)) 76,
  ⟨(some 16), (.call ⟨(.value (.tmp 11)), #[(.tmp 15)], #[76]⟩), 4, "", #[⟨0, .phase⟩], none⟩]
def F63.r5 : List Oper := [
  op 17 (.move (.tmp 5)) 3,
  op 4 (.assign (.tmp 17)) 3]
def F63.r6 : List Oper := [
  op 18 (.binOp .add 3 (.tmp 8) (.const (.int .i64 1)) 3) 3,
  op 8 (.move (.tmp 18)) 3]
def F63.r7 : List Oper := [
  op 4 (.assign (.const (.int .i64 (-1)))) 3]
def F63.t6 : Cd := (.region 6 F63.r6.toArray false)
theorem F63.t6_eq {θ : Tag (F63.t6, Q, e, w)} : cwE P F63.t6 Q e w θ = cwE P (.region 6 F63.r6.toArray false) Q e w := rfl
def F63.t3 : Cd := (.seq (.block 1 (.seq (.region 3 F63.r3.toArray false) (.seq (.region 4 F63.r4.toArray false) (.cond (.tmp 16) (.seq (.region 5 F63.r5.toArray false) .ret) .skip)))) F63.t6)
theorem F63.t3_eq {θ : Tag (F63.t3, Q, e, w)} : cwE P F63.t3 Q e w θ = cwE P (.seq (.block 1 (.seq (.region 3 F63.r3.toArray false) (.seq (.region 4 F63.r4.toArray false) (.cond (.tmp 16) (.seq (.region 5 F63.r5.toArray false) .ret) .skip)))) F63.t6) Q e w := rfl
def F63.t7 : Cd := (.seq (.region 7 F63.r7.toArray false) .ret)
theorem F63.t7_eq {θ : Tag (F63.t7, Q, e, w)} : cwE P F63.t7 Q e w θ = cwE P (.seq (.region 7 F63.r7.toArray false) .ret) Q e w := rfl
def F63.code : Cd := (.seq (.region 0 F63.r0.toArray false) (.seq (.seq (.region 1 F63.r1.toArray false) (.block 0 (.loop (.seq (.region 2 F63.r2.toArray false) (.seq (.cond (.tmp 9) .skip (.exit 0)) F63.t3))))) F63.t7))
theorem F63.calls (hn : args.size ≤ 19) (h : cwE Tryz.prog F63.code (fnP Tryz.prog #[(.tmp 4)] R) (entry args) w) : Calls Tryz.prog 63 args w R :=
  calls_of_cwE (types := Tryz.prog.types) follows Tryz.func63 F63.code rfl (by kernel_rfl) hn h

def F64.r0 : List Oper := [
  oc 2 (.box 76 (.tmp 0)) 0,
  op 3 (.assign (.const (.bool false))) 4]
def F64.r1 : List Oper := [
  op 4 (.fieldAddr 76 (.tmp 2) 0) 0,
  od 5 (.load 3 (.tmp 4)) 3,
  od 6 (.load 3 (.tmp 1)) 3,
  op 7 (.binOp .eql 3 (.tmp 5) (.tmp 6) 3) 4,
  op 3 (.assign (.tmp 7)) 4]
def F64.code : Cd := (.seq (.region 0 F64.r0.toArray false) (.seq (.region 1 F64.r1.toArray false) .ret))
theorem F64.calls (hn : args.size ≤ 8) (h : cwE Tryz.prog F64.code (fnP Tryz.prog #[(.tmp 3)] R) (entry args) w) : Calls Tryz.prog 64 args w R :=
  calls_of_cwE (types := Tryz.prog.types) follows Tryz.func64 F64.code rfl (by kernel_rfl) hn h

def F67.r0 : List Oper := [
  op 2 (.assign (.const (.int .i64 0))) 3]
def F67.r1 : List Oper := [
  op 3 (.assign (.const (.int .i64 0))) 3]
def F67.r2 : List Oper := [
  op 6 (.move (.tmp 0)) 32,
  op 7 (.call ⟨(.builtin .len), #[(.tmp 6)], #[32]⟩) 3,
  op 8 (.move (.const (.int .i64 0))) 3]
def F67.r3 : List Oper := [
  op 9 (.binOp .lss 3 (.tmp 8) (.tmp 7) 3) 0]
def F67.r4 : List Oper := [
  op 10 (.indexAddr 32 (.tmp 6) (.tmp 8)) 0,
  od 11 (.load 3 (.tmp 10)) 3,
  op 5 (.assign (.tmp 11)) 3]
def F67.r5 : List Oper := [
  op 12 (.move (.tmp 5)) 3,
  op 13 (.move (.tmp 3)) 3,
  op 14 (.binOp .neq 3 (.tmp 12) (.tmp 13) 3) 4]
def F67.r6 : List Oper := [
  op 15 (.move (.tmp 5)) 3,
  op 2 (.assign (.tmp 15)) 3]
def F67.r7 : List Oper := [
  op 16 (.binOp .add 3 (.tmp 8) (.const (.int .i64 1)) 3) 3,
  op 8 (.move (.tmp 16)) 3]
def F67.r8 : List Oper := [
  op 17 (.move (.tmp 3)) 3,
  op 2 (.assign (.tmp 17)) 3]
def F67.t7 : Cd := (.region 7 F67.r7.toArray false)
theorem F67.t7_eq {θ : Tag (F67.t7, Q, e, w)} : cwE P F67.t7 Q e w θ = cwE P (.region 7 F67.r7.toArray false) Q e w := rfl
def F67.t4 : Cd := (.seq (.block 1 (.seq (.region 4 F67.r4.toArray false) (.seq (.region 5 F67.r5.toArray false) (.cond (.tmp 14) (.seq (.region 6 F67.r6.toArray false) .ret) .skip)))) F67.t7)
theorem F67.t4_eq {θ : Tag (F67.t4, Q, e, w)} : cwE P F67.t4 Q e w θ = cwE P (.seq (.block 1 (.seq (.region 4 F67.r4.toArray false) (.seq (.region 5 F67.r5.toArray false) (.cond (.tmp 14) (.seq (.region 6 F67.r6.toArray false) .ret) .skip)))) F67.t7) Q e w := rfl
def F67.t8 : Cd := (.seq (.region 8 F67.r8.toArray false) .ret)
theorem F67.t8_eq {θ : Tag (F67.t8, Q, e, w)} : cwE P F67.t8 Q e w θ = cwE P (.seq (.region 8 F67.r8.toArray false) .ret) Q e w := rfl
def F67.code : Cd := (.seq (.region 0 F67.r0.toArray false) (.seq (.region 1 F67.r1.toArray false) (.seq (.seq (.region 2 F67.r2.toArray false) (.block 0 (.loop (.seq (.region 3 F67.r3.toArray false) (.seq (.cond (.tmp 9) .skip (.exit 0)) F67.t4))))) F67.t8)))
theorem F67.calls (hn : args.size ≤ 18) (h : cwE Tryz.prog F67.code (fnP Tryz.prog #[(.tmp 2)] R) (entry args) w) : Calls Tryz.prog 67 args w R :=
  calls_of_cwE (types := Tryz.prog.types) follows Tryz.func67 F67.code rfl (by kernel_rfl) hn h

def F68.r0 : List Oper := [
  op 4 (.assign (.const (.int .i64 0))) 3]
def F68.r1 : List Oper := [
  op 7 (.move (.tmp 0)) 37,
  oc 8 (.call ⟨(.value (.func 86)), #[(.tmp 7)], #[37]⟩) 4,
  op 5 (.assign (.tmp 8)) 4]
def F68.r2 : List Oper := [
  op 9 (.move (.tmp 1)) 37,
  oc 10 (.call ⟨(.value (.func 86)), #[(.tmp 9)], #[37]⟩) 4,
  op 6 (.assign (.tmp 10)) 4]
def F68.r3 : List Oper := [
  op 11 (.move (.tmp 5)) 4]
def F68.r4 : List Oper := [
  op 12 (.move (.tmp 6)) 4]
def F68.r5 : List Oper := [
  op 4 (.assign (.const (.int .i64 0))) 3]
def F68.r6 : List Oper := [
  op 4 (.assign (.const (.int .i64 (-1)))) 3]
def F68.r7 : List Oper := [
  op 13 (.move (.tmp 6)) 4]
def F68.r8 : List Oper := [
  op 4 (.assign (.const (.int .i64 1))) 3]
def F68.r9 : List Oper := [
  op 14 (.move (.tmp 0)) 37,
  op 15 (.move (.tmp 1)) 37,
  op 16 (.binOp .lss 37 (.tmp 14) (.tmp 15) 37) 4]
def F68.r10 : List Oper := [
  op 4 (.assign (.const (.int .i64 (-1)))) 3]
def F68.r11 : List Oper := [
  op 17 (.move (.tmp 0)) 37,
  op 18 (.move (.tmp 1)) 37,
  op 19 (.binOp .gtr 37 (.tmp 17) (.tmp 18) 37) 4]
def F68.r12 : List Oper := [
  op 4 (.assign (.const (.int .i64 1))) 3]
def F68.r13 : List Oper := [
  op 4 (.assign (.const (.int .i64 0))) 3]
def F68.t6 : Cd := (.seq (.region 6 F68.r6.toArray false) .ret)
theorem F68.t6_eq {θ : Tag (F68.t6, Q, e, w)} : cwE P F68.t6 Q e w θ = cwE P (.seq (.region 6 F68.r6.toArray false) .ret) Q e w := rfl
def F68.t13 : Cd := (.seq (.region 13 F68.r13.toArray false) .ret)
theorem F68.t13_eq {θ : Tag (F68.t13, Q, e, w)} : cwE P F68.t13 Q e w θ = cwE P (.seq (.region 13 F68.r13.toArray false) .ret) Q e w := rfl
def F68.t11 : Cd := (.seq (.seq (.region 11 F68.r11.toArray false) (.cond (.tmp 19) (.seq (.region 12 F68.r12.toArray false) .ret) .skip)) F68.t13)
theorem F68.t11_eq {θ : Tag (F68.t11, Q, e, w)} : cwE P F68.t11 Q e w θ = cwE P (.seq (.seq (.region 11 F68.r11.toArray false) (.cond (.tmp 19) (.seq (.region 12 F68.r12.toArray false) .ret) .skip)) F68.t13) Q e w := rfl
def F68.t9 : Cd := (.seq (.seq (.region 9 F68.r9.toArray false) (.cond (.tmp 16) (.seq (.region 10 F68.r10.toArray false) .ret) .skip)) F68.t11)
theorem F68.t9_eq {θ : Tag (F68.t9, Q, e, w)} : cwE P F68.t9 Q e w θ = cwE P (.seq (.seq (.region 9 F68.r9.toArray false) (.cond (.tmp 16) (.seq (.region 10 F68.r10.toArray false) .ret) .skip)) F68.t11) Q e w := rfl
def F68.t7 : Cd := (.seq (.seq (.region 7 F68.r7.toArray false) (.cond (.tmp 13) (.seq (.region 8 F68.r8.toArray false) .ret) .skip)) F68.t9)
theorem F68.t7_eq {θ : Tag (F68.t7, Q, e, w)} : cwE P F68.t7 Q e w θ = cwE P (.seq (.seq (.region 7 F68.r7.toArray false) (.cond (.tmp 13) (.seq (.region 8 F68.r8.toArray false) .ret) .skip)) F68.t9) Q e w := rfl
def F68.code : Cd := (.seq (.region 0 F68.r0.toArray false) (.seq (.region 1 F68.r1.toArray false) (.seq (.region 2 F68.r2.toArray false) (.seq (.seq (.region 3 F68.r3.toArray false) (.cond (.tmp 11) (.seq (.seq (.region 4 F68.r4.toArray false) (.cond (.tmp 12) (.seq (.region 5 F68.r5.toArray false) .ret) .skip)) F68.t6) .skip)) F68.t7))))
theorem F68.calls (hn : args.size ≤ 20) (h : cwE Tryz.prog F68.code (fnP Tryz.prog #[(.tmp 4)] R) (entry args) w) : Calls Tryz.prog 68 args w R :=
  calls_of_cwE (types := Tryz.prog.types) follows Tryz.func68 F68.code rfl (by kernel_rfl) hn h

def F69.r0 : List Oper := [
  op 4 (.assign (.const (.int .i64 0))) 3]
def F69.r1 : List Oper := [
  op 7 (.move (.tmp 0)) 3,
  oc 8 (.call ⟨(.value (.func 87)), #[(.tmp 7)], #[3]⟩) 4,
  op 5 (.assign (.tmp 8)) 4]
def F69.r2 : List Oper := [
  op 9 (.move (.tmp 1)) 3,
  oc 10 (.call ⟨(.value (.func 87)), #[(.tmp 9)], #[3]⟩) 4,
  op 6 (.assign (.tmp 10)) 4]
def F69.r3 : List Oper := [
  op 11 (.move (.tmp 5)) 4]
def F69.r4 : List Oper := [
  op 12 (.move (.tmp 6)) 4]
def F69.r5 : List Oper := [
  op 4 (.assign (.const (.int .i64 0))) 3]
def F69.r6 : List Oper := [
  op 4 (.assign (.const (.int .i64 (-1)))) 3]
def F69.r7 : List Oper := [
  op 13 (.move (.tmp 6)) 4]
def F69.r8 : List Oper := [
  op 4 (.assign (.const (.int .i64 1))) 3]
def F69.r9 : List Oper := [
  op 14 (.move (.tmp 0)) 3,
  op 15 (.move (.tmp 1)) 3,
  op 16 (.binOp .lss 3 (.tmp 14) (.tmp 15) 3) 4]
def F69.r10 : List Oper := [
  op 4 (.assign (.const (.int .i64 (-1)))) 3]
def F69.r11 : List Oper := [
  op 17 (.move (.tmp 0)) 3,
  op 18 (.move (.tmp 1)) 3,
  op 19 (.binOp .gtr 3 (.tmp 17) (.tmp 18) 3) 4]
def F69.r12 : List Oper := [
  op 4 (.assign (.const (.int .i64 1))) 3]
def F69.r13 : List Oper := [
  op 4 (.assign (.const (.int .i64 0))) 3]
def F69.t6 : Cd := (.seq (.region 6 F69.r6.toArray false) .ret)
theorem F69.t6_eq {θ : Tag (F69.t6, Q, e, w)} : cwE P F69.t6 Q e w θ = cwE P (.seq (.region 6 F69.r6.toArray false) .ret) Q e w := rfl
def F69.t13 : Cd := (.seq (.region 13 F69.r13.toArray false) .ret)
theorem F69.t13_eq {θ : Tag (F69.t13, Q, e, w)} : cwE P F69.t13 Q e w θ = cwE P (.seq (.region 13 F69.r13.toArray false) .ret) Q e w := rfl
def F69.t11 : Cd := (.seq (.seq (.region 11 F69.r11.toArray false) (.cond (.tmp 19) (.seq (.region 12 F69.r12.toArray false) .ret) .skip)) F69.t13)
theorem F69.t11_eq {θ : Tag (F69.t11, Q, e, w)} : cwE P F69.t11 Q e w θ = cwE P (.seq (.seq (.region 11 F69.r11.toArray false) (.cond (.tmp 19) (.seq (.region 12 F69.r12.toArray false) .ret) .skip)) F69.t13) Q e w := rfl
def F69.t9 : Cd := (.seq (.seq (.region 9 F69.r9.toArray false) (.cond (.tmp 16) (.seq (.region 10 F69.r10.toArray false) .ret) .skip)) F69.t11)
theorem F69.t9_eq {θ : Tag (F69.t9, Q, e, w)} : cwE P F69.t9 Q e w θ = cwE P (.seq (.seq (.region 9 F69.r9.toArray false) (.cond (.tmp 16) (.seq (.region 10 F69.r10.toArray false) .ret) .skip)) F69.t11) Q e w := rfl
def F69.t7 : Cd := (.seq (.seq (.region 7 F69.r7.toArray false) (.cond (.tmp 13) (.seq (.region 8 F69.r8.toArray false) .ret) .skip)) F69.t9)
theorem F69.t7_eq {θ : Tag (F69.t7, Q, e, w)} : cwE P F69.t7 Q e w θ = cwE P (.seq (.seq (.region 7 F69.r7.toArray false) (.cond (.tmp 13) (.seq (.region 8 F69.r8.toArray false) .ret) .skip)) F69.t9) Q e w := rfl
def F69.code : Cd := (.seq (.region 0 F69.r0.toArray false) (.seq (.region 1 F69.r1.toArray false) (.seq (.region 2 F69.r2.toArray false) (.seq (.seq (.region 3 F69.r3.toArray false) (.cond (.tmp 11) (.seq (.seq (.region 4 F69.r4.toArray false) (.cond (.tmp 12) (.seq (.region 5 F69.r5.toArray false) .ret) .skip)) F69.t6) .skip)) F69.t7))))
theorem F69.calls (hn : args.size ≤ 20) (h : cwE Tryz.prog F69.code (fnP Tryz.prog #[(.tmp 4)] R) (entry args) w) : Calls Tryz.prog 69 args w R :=
  calls_of_cwE (types := Tryz.prog.types) follows Tryz.func69 F69.code rfl (by kernel_rfl) hn h

def F70.r0 : List Oper := [
  op 4 (.assign (.const (.int .i64 0))) 3]
def F70.r1 : List Oper := [
  op 7 (.move (.tmp 0)) 38,
  oc 8 (.call ⟨(.value (.func 88)), #[(.tmp 7)], #[38]⟩) 4,
  op 5 (.assign (.tmp 8)) 4]
def F70.r2 : List Oper := [
  op 9 (.move (.tmp 1)) 38,
  oc 10 (.call ⟨(.value (.func 88)), #[(.tmp 9)], #[38]⟩) 4,
  op 6 (.assign (.tmp 10)) 4]
def F70.r3 : List Oper := [
  op 11 (.move (.tmp 5)) 4]
def F70.r4 : List Oper := [
  op 12 (.move (.tmp 6)) 4]
def F70.r5 : List Oper := [
  op 4 (.assign (.const (.int .i64 0))) 3]
def F70.r6 : List Oper := [
  op 4 (.assign (.const (.int .i64 (-1)))) 3]
def F70.r7 : List Oper := [
  op 13 (.move (.tmp 6)) 4]
def F70.r8 : List Oper := [
  op 4 (.assign (.const (.int .i64 1))) 3]
def F70.r9 : List Oper := [
  op 14 (.move (.tmp 0)) 38,
  op 15 (.move (.tmp 1)) 38,
  op 16 (.binOp .lss 38 (.tmp 14) (.tmp 15) 38) 4]
def F70.r10 : List Oper := [
  op 4 (.assign (.const (.int .i64 (-1)))) 3]
def F70.r11 : List Oper := [
  op 17 (.move (.tmp 0)) 38,
  op 18 (.move (.tmp 1)) 38,
  op 19 (.binOp .gtr 38 (.tmp 17) (.tmp 18) 38) 4]
def F70.r12 : List Oper := [
  op 4 (.assign (.const (.int .i64 1))) 3]
def F70.r13 : List Oper := [
  op 4 (.assign (.const (.int .i64 0))) 3]
def F70.t6 : Cd := (.seq (.region 6 F70.r6.toArray false) .ret)
theorem F70.t6_eq {θ : Tag (F70.t6, Q, e, w)} : cwE P F70.t6 Q e w θ = cwE P (.seq (.region 6 F70.r6.toArray false) .ret) Q e w := rfl
def F70.t13 : Cd := (.seq (.region 13 F70.r13.toArray false) .ret)
theorem F70.t13_eq {θ : Tag (F70.t13, Q, e, w)} : cwE P F70.t13 Q e w θ = cwE P (.seq (.region 13 F70.r13.toArray false) .ret) Q e w := rfl
def F70.t11 : Cd := (.seq (.seq (.region 11 F70.r11.toArray false) (.cond (.tmp 19) (.seq (.region 12 F70.r12.toArray false) .ret) .skip)) F70.t13)
theorem F70.t11_eq {θ : Tag (F70.t11, Q, e, w)} : cwE P F70.t11 Q e w θ = cwE P (.seq (.seq (.region 11 F70.r11.toArray false) (.cond (.tmp 19) (.seq (.region 12 F70.r12.toArray false) .ret) .skip)) F70.t13) Q e w := rfl
def F70.t9 : Cd := (.seq (.seq (.region 9 F70.r9.toArray false) (.cond (.tmp 16) (.seq (.region 10 F70.r10.toArray false) .ret) .skip)) F70.t11)
theorem F70.t9_eq {θ : Tag (F70.t9, Q, e, w)} : cwE P F70.t9 Q e w θ = cwE P (.seq (.seq (.region 9 F70.r9.toArray false) (.cond (.tmp 16) (.seq (.region 10 F70.r10.toArray false) .ret) .skip)) F70.t11) Q e w := rfl
def F70.t7 : Cd := (.seq (.seq (.region 7 F70.r7.toArray false) (.cond (.tmp 13) (.seq (.region 8 F70.r8.toArray false) .ret) .skip)) F70.t9)
theorem F70.t7_eq {θ : Tag (F70.t7, Q, e, w)} : cwE P F70.t7 Q e w θ = cwE P (.seq (.seq (.region 7 F70.r7.toArray false) (.cond (.tmp 13) (.seq (.region 8 F70.r8.toArray false) .ret) .skip)) F70.t9) Q e w := rfl
def F70.code : Cd := (.seq (.region 0 F70.r0.toArray false) (.seq (.region 1 F70.r1.toArray false) (.seq (.region 2 F70.r2.toArray false) (.seq (.seq (.region 3 F70.r3.toArray false) (.cond (.tmp 11) (.seq (.seq (.region 4 F70.r4.toArray false) (.cond (.tmp 12) (.seq (.region 5 F70.r5.toArray false) .ret) .skip)) F70.t6) .skip)) F70.t7))))
theorem F70.calls (hn : args.size ≤ 20) (h : cwE Tryz.prog F70.code (fnP Tryz.prog #[(.tmp 4)] R) (entry args) w) : Calls Tryz.prog 70 args w R :=
  calls_of_cwE (types := Tryz.prog.types) follows Tryz.func70 F70.code rfl (by kernel_rfl) hn h

def F73.r0 : List Oper := [
  op 2 (.assign (.const (.slice none 0 0))) 71]
def F73.r1 : List Oper := [
  op 3 (.move (.tmp 0)) 71,
  op 4 (.binOp .eql 71 (.tmp 3) (.const (.slice none 0 0)) 71) 4]
def F73.r2 : List Oper := [
  op 2 (.assign (.const (.slice none 0 0))) 71]
def F73.r3 : List Oper := [
  oc 5 (.buildSlice 71 0 #[]) 71,
  op 6 (.move (.tmp 0)) 71,
  oc 7 (.call ⟨(.builtin .append), #[(.tmp 5), (.tmp 6)], #[71, 71]⟩) 71,
  op 2 (.assign (.tmp 7)) 71]
def F73.t3 : Cd := (.seq (.region 3 F73.r3.toArray false) .ret)
theorem F73.t3_eq {θ : Tag (F73.t3, Q, e, w)} : cwE P F73.t3 Q e w θ = cwE P (.seq (.region 3 F73.r3.toArray false) .ret) Q e w := rfl
def F73.code : Cd := (.seq (.region 0 F73.r0.toArray false) (.seq (.seq (.region 1 F73.r1.toArray false) (.cond (.tmp 4) (.seq (.region 2 F73.r2.toArray false) .ret) .skip)) F73.t3))
theorem F73.calls (hn : args.size ≤ 8) (h : cwE Tryz.prog F73.code (fnP Tryz.prog #[(.tmp 2)] R) (entry args) w) : Calls Tryz.prog 73 args w R :=
  calls_of_cwE (types := Tryz.prog.types) follows Tryz.func73 F73.code rfl (by kernel_rfl) hn h

def F74.r0 : List Oper := [
  op 2 (.assign (.const (.slice none 0 0))) 32]
def F74.r1 : List Oper := [
  op 3 (.move (.tmp 0)) 97,
  oc 4 (.call ⟨(.value (.func 99)), #[(.const (.slice none 0 0)), (.tmp 3)], #[32, 97]⟩) 32,
  op 2 (.assign (.tmp 4)) 32]
def F74.code : Cd := (.seq (.region 0 F74.r0.toArray false) (.seq (.region 1 F74.r1.toArray false) .ret))
theorem F74.calls (hn : args.size ≤ 5) (h : cwE Tryz.prog F74.code (fnP Tryz.prog #[(.tmp 2)] R) (entry args) w) : Calls Tryz.prog 74 args w R :=
  calls_of_cwE (types := Tryz.prog.types) follows Tryz.func74 F74.code rfl (by kernel_rfl) hn h

def F75.r0 : List Oper := [
  od 4 (.load 56 (.tmp 1)) 56,
  oc 5 (.range 56 (.tmp 4)) 0]
def F75.r1 : List Oper := [
  oc 6 (.next (.tmp 5) false) 0,
  op 7 (.extract (.tmp 6) 0) 4]
def F75.r2 : List Oper := [
  od 8 (.entry (.tmp 5)) 0,
  op 9 (.extract (.tmp 8) 0) 3,
  op 3 (.assign (.tmp 9)) 3]
def F75.r3 : List Oper := [
  op 10 (.move (.tmp 0)) 110,
  op 11 (.move (.tmp 3)) 3,
  ⟨(some 12), (.call ⟨(.value (.tmp 10)), #[(.tmp 11)], #[3]⟩), 4, "", #[⟨0, .phase⟩], none⟩,
  op 13 (.unOp .not 4 (.tmp 12)) 4]
def F75.t2 : Cd := (.block 1 (.seq (.region 2 F75.r2.toArray false) (.seq (.region 3 F75.r3.toArray false) (.cond (.tmp 13) .ret .skip))))
theorem F75.t2_eq {θ : Tag (F75.t2, Q, e, w)} : cwE P F75.t2 Q e w θ = cwE P (.block 1 (.seq (.region 2 F75.r2.toArray false) (.seq (.region 3 F75.r3.toArray false) (.cond (.tmp 13) .ret .skip)))) Q e w := rfl
def F75.code : Cd := (.seq (.region 0 F75.r0.toArray false) (.block 0 (.loop (.seq (.region 1 F75.r1.toArray false) (.seq (.cond (.tmp 7) .skip (.exit 0)) F75.t2)))))
theorem F75.calls (hn : args.size ≤ 14) (h : cwE Tryz.prog F75.code (fnP Tryz.prog #[] R) (entry args) w) : Calls Tryz.prog 75 args w R :=
  calls_of_cwE (types := Tryz.prog.types) follows Tryz.func75 F75.code rfl (by kernel_rfl) hn h

def F86.r0 : List Oper := [
  op 2 (.assign (.const (.bool false))) 4]
def F86.r1 : List Oper := [
  op 3 (.move (.tmp 0)) 37,
  op 4 (.move (.tmp 0)) 37,
  op 5 (.binOp .neq 37 (.tmp 3) (.tmp 4) 37) 4,
  op 2 (.assign (.tmp 5)) 4]
def F86.code : Cd := (.seq (.region 0 F86.r0.toArray false) (.seq (.region 1 F86.r1.toArray false) .ret))
theorem F86.calls (hn : args.size ≤ 6) (h : cwE Tryz.prog F86.code (fnP Tryz.prog #[(.tmp 2)] R) (entry args) w) : Calls Tryz.prog 86 args w R :=
  calls_of_cwE (types := Tryz.prog.types) follows Tryz.func86 F86.code rfl (by kernel_rfl) hn h

def F87.r0 : List Oper := [
  op 2 (.assign (.const (.bool false))) 4]
def F87.r1 : List Oper := [
  op 3 (.move (.tmp 0)) 3,
  op 4 (.move (.tmp 0)) 3,
  op 5 (.binOp .neq 3 (.tmp 3) (.tmp 4) 3) 4,
  op 2 (.assign (.tmp 5)) 4]
def F87.code : Cd := (.seq (.region 0 F87.r0.toArray false) (.seq (.region 1 F87.r1.toArray false) .ret))
theorem F87.calls (hn : args.size ≤ 6) (h : cwE Tryz.prog F87.code (fnP Tryz.prog #[(.tmp 2)] R) (entry args) w) : Calls Tryz.prog 87 args w R :=
  calls_of_cwE (types := Tryz.prog.types) follows Tryz.func87 F87.code rfl (by kernel_rfl) hn h

def F88.r0 : List Oper := [
  op 2 (.assign (.const (.bool false))) 4]
def F88.r1 : List Oper := [
  op 3 (.move (.tmp 0)) 38,
  op 4 (.move (.tmp 0)) 38,
  op 5 (.binOp .neq 38 (.tmp 3) (.tmp 4) 38) 4,
  op 2 (.assign (.tmp 5)) 4]
def F88.code : Cd := (.seq (.region 0 F88.r0.toArray false) (.seq (.region 1 F88.r1.toArray false) .ret))
theorem F88.calls (hn : args.size ≤ 6) (h : cwE Tryz.prog F88.code (fnP Tryz.prog #[(.tmp 2)] R) (entry args) w) : Calls Tryz.prog 88 args w R :=
  calls_of_cwE (types := Tryz.prog.types) follows Tryz.func88 F88.code rfl (by kernel_rfl) hn h

def F99.r0 : List Oper := [
  oc 2 (.box 32 (.tmp 0)) 0,
  op 4 (.assign (.const (.slice none 0 0))) 32]
def F99.r1 : List Oper := [
  op 6 (.move (.tmp 1)) 97]
def F99.r2 : List Oper := [
  op 5 (.assign (.tmp 7)) 3]
def F99.r3 : List Oper := [
  od 8 (.load 32 (.tmp 2)) 32,
  op 9 (.move (.tmp 5)) 3,
  oc 10 (.buildSlice 32 1 #[(0, (.tmp 9))]) 32,
  oc 11 (.call ⟨(.builtin .append), #[(.tmp 8), (.tmp 10)], #[32, 32]⟩) 32,
  ⟨none, (.store 32 (.tmp 2) (.tmp 11)), 0, "", #[⟨0, .chain⟩], none⟩]
def F99.r4 : List Oper := [
  od 12 (.load 32 (.tmp 2)) 32,
  op 4 (.assign (.tmp 12)) 32]
def F99.a0 : Cd := (.region 2 F99.r2.toArray false)
def F99.b0 : Cd := (.block 1 (.region 3 F99.r3.toArray false))
def F99.t4 : Cd := (.seq (.region 4 F99.r4.toArray false) .ret)
theorem F99.t4_eq {θ : Tag (F99.t4, Q, e, w)} : cwE P F99.t4 Q e w θ = cwE P (.seq (.region 4 F99.r4.toArray false) .ret) Q e w := rfl
def F99.code : Cd := (.seq (.region 0 F99.r0.toArray false) (.seq (.seq (.region 1 F99.r1.toArray false) (.block 0 (.rangeFunc (.tmp 6) #[7] F99.a0 F99.b0))) F99.t4))
theorem F99.calls (hn : args.size ≤ 13) (h : cwE Tryz.prog F99.code (fnP Tryz.prog #[(.tmp 4)] R) (entry args) w) : Calls Tryz.prog 99 args w R :=
  calls_of_cwE (types := Tryz.prog.types) follows Tryz.func99 F99.code rfl (by kernel_rfl) hn h

attribute [go_sem] fact_aggSz_26
attribute [go_sem] fact_aggSz_28
attribute [go_sem] fact_aggSz_3
attribute [go_sem] fact_aggSz_31
attribute [go_sem] fact_aggSz_32
attribute [go_sem] fact_aggSz_33
attribute [go_sem] fact_aggSz_37
attribute [go_sem] fact_aggSz_38
attribute [go_sem] fact_aggSz_4
attribute [go_sem] fact_aggSz_40
attribute [go_sem] fact_aggSz_42
attribute [go_sem] fact_aggSz_44
attribute [go_sem] fact_aggSz_55
attribute [go_sem] fact_aggSz_56
attribute [go_sem] fact_aggSz_59
attribute [go_sem] fact_aggSz_63
attribute [go_sem] fact_aggSz_71
attribute [go_sem] fact_aggSz_76
attribute [go_sem] fact_aggSz_84
attribute [go_sem] fact_bldP_35
attribute [go_sem] fact_bldP_40
attribute [go_sem] fact_bldP_42
attribute [go_sem] fact_bldP_44
attribute [go_sem] fact_bldP_58
attribute [go_sem] fact_bldP_61
attribute [go_sem] fact_bldP_73
attribute [go_sem] fact_bldP_76
attribute [go_sem] fact_bldP_84
attribute [go_sem] fact_elemOf_22
attribute [go_sem] fact_elemOf_24
attribute [go_sem] fact_elemOf_25
attribute [go_sem] fact_elemOf_31
attribute [go_sem] fact_elemOf_32
attribute [go_sem] fact_elemOf_33
attribute [go_sem] fact_elemOf_59
attribute [go_sem] fact_elemOf_63
attribute [go_sem] fact_elemOf_71
attribute [go_sem] fact_fieldOff_35_0
attribute [go_sem] fact_fieldOff_35_1
attribute [go_sem] fact_fieldOff_35_10
attribute [go_sem] fact_fieldOff_35_11
attribute [go_sem] fact_fieldOff_35_2
attribute [go_sem] fact_fieldOff_35_3
attribute [go_sem] fact_fieldOff_35_4
attribute [go_sem] fact_fieldOff_35_5
attribute [go_sem] fact_fieldOff_35_6
attribute [go_sem] fact_fieldOff_35_7
attribute [go_sem] fact_fieldOff_35_8
attribute [go_sem] fact_fieldOff_35_9
attribute [go_sem] fact_fieldOff_40_0
attribute [go_sem] fact_fieldOff_40_1
attribute [go_sem] fact_fieldOff_40_2
attribute [go_sem] fact_fieldOff_42_0
attribute [go_sem] fact_fieldOff_42_1
attribute [go_sem] fact_fieldOff_44_0
attribute [go_sem] fact_fieldOff_44_1
attribute [go_sem] fact_fieldOff_44_2
attribute [go_sem] fact_fieldOff_44_3
attribute [go_sem] fact_fieldOff_58_0
attribute [go_sem] fact_fieldOff_58_1
attribute [go_sem] fact_fieldOff_61_0
attribute [go_sem] fact_fieldOff_61_1
attribute [go_sem] fact_fieldOff_73_0
attribute [go_sem] fact_fieldOff_73_1
attribute [go_sem] fact_fieldOff_76_0
attribute [go_sem] fact_fieldOff_76_1
attribute [go_sem] fact_fieldOff_84_0
attribute [go_sem] fact_fieldOff_84_1
attribute [go_sem] fact_flatE_40
attribute [go_sem] fact_flatE_42
attribute [go_sem] fact_fnOk_10
attribute [go_sem] fact_fnOk_11
attribute [go_sem] fact_fnOk_12
attribute [go_sem] fact_fnOk_13
attribute [go_sem] fact_fnOk_14
attribute [go_sem] fact_fnOk_15
attribute [go_sem] fact_fnOk_16
attribute [go_sem] fact_fnOk_17
attribute [go_sem] fact_fnOk_18
attribute [go_sem] fact_fnOk_19
attribute [go_sem] fact_fnOk_20
attribute [go_sem] fact_fnOk_21
attribute [go_sem] fact_fnOk_22
attribute [go_sem] fact_fnOk_23
attribute [go_sem] fact_fnOk_24
attribute [go_sem] fact_fnOk_25
attribute [go_sem] fact_fnOk_26
attribute [go_sem] fact_fnOk_27
attribute [go_sem] fact_fnOk_28
attribute [go_sem] fact_fnOk_29
attribute [go_sem] fact_fnOk_30
attribute [go_sem] fact_fnOk_31
attribute [go_sem] fact_fnOk_32
attribute [go_sem] fact_fnOk_33
attribute [go_sem] fact_fnOk_34
attribute [go_sem] fact_fnOk_35
attribute [go_sem] fact_fnOk_36
attribute [go_sem] fact_fnOk_37
attribute [go_sem] fact_fnOk_38
attribute [go_sem] fact_fnOk_39
attribute [go_sem] fact_fnOk_4
attribute [go_sem] fact_fnOk_40
attribute [go_sem] fact_fnOk_41
attribute [go_sem] fact_fnOk_42
attribute [go_sem] fact_fnOk_43
attribute [go_sem] fact_fnOk_44
attribute [go_sem] fact_fnOk_45
attribute [go_sem] fact_fnOk_46
attribute [go_sem] fact_fnOk_47
attribute [go_sem] fact_fnOk_48
attribute [go_sem] fact_fnOk_49
attribute [go_sem] fact_fnOk_5
attribute [go_sem] fact_fnOk_50
attribute [go_sem] fact_fnOk_51
attribute [go_sem] fact_fnOk_52
attribute [go_sem] fact_fnOk_54
attribute [go_sem] fact_fnOk_55
attribute [go_sem] fact_fnOk_56
attribute [go_sem] fact_fnOk_57
attribute [go_sem] fact_fnOk_58
attribute [go_sem] fact_fnOk_59
attribute [go_sem] fact_fnOk_6
attribute [go_sem] fact_fnOk_60
attribute [go_sem] fact_fnOk_61
attribute [go_sem] fact_fnOk_62
attribute [go_sem] fact_fnOk_63
attribute [go_sem] fact_fnOk_64
attribute [go_sem] fact_fnOk_65
attribute [go_sem] fact_fnOk_66
attribute [go_sem] fact_fnOk_67
attribute [go_sem] fact_fnOk_68
attribute [go_sem] fact_fnOk_69
attribute [go_sem] fact_fnOk_7
attribute [go_sem] fact_fnOk_70
attribute [go_sem] fact_fnOk_71
attribute [go_sem] fact_fnOk_72
attribute [go_sem] fact_fnOk_73
attribute [go_sem] fact_fnOk_74
attribute [go_sem] fact_fnOk_75
attribute [go_sem] fact_fnOk_8
attribute [go_sem] fact_fnOk_86
attribute [go_sem] fact_fnOk_87
attribute [go_sem] fact_fnOk_88
attribute [go_sem] fact_fnOk_9
attribute [go_sem] fact_fnOk_99
attribute [go_sem] fact_szO_3
attribute [go_sem] fact_szO_31
attribute [go_sem] fact_szO_32
attribute [go_sem] fact_szO_33
attribute [go_sem] fact_szO_38
attribute [go_sem] fact_szO_40
attribute [go_sem] fact_szO_42
attribute [go_sem] fact_szO_59
attribute [go_sem] fact_szO_71
attribute [go_sem] fact_szO_76
attribute [go_sem] fact_szO_84
attribute [go_sem] fact_zeroV_40
attribute [go_sem] fact_zeroV_42
attribute [go_sem] fact_zeroV_76
attribute [go_sem] fact_zeroV_84
attribute [go_sem] Tryz.underlying3
attribute [go_sem] Tryz.underlying4
attribute [go_sem] Tryz.underlying22
attribute [go_sem] Tryz.underlying24
attribute [go_sem] Tryz.underlying25
attribute [go_sem] Tryz.underlying26
attribute [go_sem] Tryz.underlying31
attribute [go_sem] Tryz.underlying32
attribute [go_sem] Tryz.underlying33
attribute [go_sem] Tryz.underlying38
attribute [go_sem] Tryz.underlying40
attribute [go_sem] Tryz.underlying42
attribute [go_sem] Tryz.underlying55
attribute [go_sem] Tryz.underlying59
attribute [go_sem] Tryz.underlying63
attribute [go_sem] Tryz.underlying70
attribute [go_sem] Tryz.underlying71
attribute [go_sem] Tryz.underlying103
attribute [go_sem] F3.r0
attribute [go_sem] F3.r1
attribute [go_sem] F3.r2
attribute [go_sem] F3.r3
attribute [go_sem] F3.r4
attribute [go_sem] F3.r5
attribute [go_sem] F3.r6
attribute [go_sem] F3.r7
attribute [go_sem] F3.r8
attribute [go_sem] F3.r9
attribute [go_sem] F3.r11
attribute [go_sem] F3.r12
attribute [go_sem] F3.r13
attribute [go_sem] F3.r14
attribute [go_sem] F3.r15
attribute [go_sem] F3.r10
attribute [go_sem] F3.r16
attribute [go_sem] F3.r17
attribute [go_sem] F3.r18
attribute [go_sem] F3.r20
attribute [go_sem] F3.r21
attribute [go_sem] F3.r22
attribute [go_sem] F3.r23
attribute [go_sem] F3.r24
attribute [go_sem] F3.r25
attribute [go_sem] F3.r19
attribute [go_sem] F3.r26
attribute [go_sem] F3.r27
attribute [go_sem] F3.r29
attribute [go_sem] F3.r30
attribute [go_sem] F3.r31
attribute [go_sem] F3.r28
attribute [go_sem] F3.r32
attribute [go_sem] F4.r0
attribute [go_sem] F4.r1
attribute [go_sem] F4.r2
attribute [go_sem] F4.r3
attribute [go_sem] F4.r4
attribute [go_sem] F4.r5
attribute [go_sem] F4.r6
attribute [go_sem] F4.r7
attribute [go_sem] F4.r8
attribute [go_sem] F4.r9
attribute [go_sem] F4.r10
attribute [go_sem] F4.r11
attribute [go_sem] F4.r12
attribute [go_sem] F4.r13
attribute [go_sem] F4.r14
attribute [go_sem] F4.r15
attribute [go_sem] F5.r0
attribute [go_sem] F5.r1
attribute [go_sem] F6.r0
attribute [go_sem] F6.r1
attribute [go_sem] F7.r0
attribute [go_sem] F7.r1
attribute [go_sem] F7.r2
attribute [go_sem] F7.r3
attribute [go_sem] F8.r0
attribute [go_sem] F8.r1
attribute [go_sem] F8.r2
attribute [go_sem] F8.r3
attribute [go_sem] F8.r4
attribute [go_sem] F8.r5
attribute [go_sem] F8.r6
attribute [go_sem] F8.r7
attribute [go_sem] F8.r8
attribute [go_sem] F8.r9
attribute [go_sem] F8.r10
attribute [go_sem] F8.r11
attribute [go_sem] F8.r12
attribute [go_sem] F8.r13
attribute [go_sem] F8.r14
attribute [go_sem] F8.r15
attribute [go_sem] F8.r16
attribute [go_sem] F8.r17
attribute [go_sem] F8.r18
attribute [go_sem] F8.r19
attribute [go_sem] F8.r20
attribute [go_sem] F8.r21
attribute [go_sem] F8.r22
attribute [go_sem] F8.r23
attribute [go_sem] F8.r24
attribute [go_sem] F8.r25
attribute [go_sem] F8.r26
attribute [go_sem] F8.r27
attribute [go_sem] F8.r28
attribute [go_sem] F8.r29
attribute [go_sem] F8.r30
attribute [go_sem] F8.r31
attribute [go_sem] F8.r32
attribute [go_sem] F8.r33
attribute [go_sem] F8.r34
attribute [go_sem] F8.r35
attribute [go_sem] F8.r36
attribute [go_sem] F8.r37
attribute [go_sem] F8.r38
attribute [go_sem] F9.r0
attribute [go_sem] F9.r1
attribute [go_sem] F9.r2
attribute [go_sem] F9.r3
attribute [go_sem] F9.r4
attribute [go_sem] F9.r5
attribute [go_sem] F9.r6
attribute [go_sem] F9.r7
attribute [go_sem] F9.r8
attribute [go_sem] F9.r9
attribute [go_sem] F9.r10
attribute [go_sem] F9.r11
attribute [go_sem] F9.r12
attribute [go_sem] F9.r13
attribute [go_sem] F9.r14
attribute [go_sem] F9.r15
attribute [go_sem] F9.r16
attribute [go_sem] F9.r17
attribute [go_sem] F9.r18
attribute [go_sem] F9.r19
attribute [go_sem] F9.r20
attribute [go_sem] F9.r21
attribute [go_sem] F9.r22
attribute [go_sem] F9.r23
attribute [go_sem] F9.r24
attribute [go_sem] F9.r25
attribute [go_sem] F9.r26
attribute [go_sem] F9.r27
attribute [go_sem] F10.r0
attribute [go_sem] F10.r1
attribute [go_sem] F10.r2
attribute [go_sem] F10.r3
attribute [go_sem] F10.r5
attribute [go_sem] F10.r6
attribute [go_sem] F10.r4
attribute [go_sem] F10.r7
attribute [go_sem] F10.r8
attribute [go_sem] F10.r10
attribute [go_sem] F10.r11
attribute [go_sem] F10.r9
attribute [go_sem] F10.r12
attribute [go_sem] F10.r13
attribute [go_sem] F10.r14
attribute [go_sem] F10.r15
attribute [go_sem] F10.r16
attribute [go_sem] F10.r17
attribute [go_sem] F10.r18
attribute [go_sem] F10.r19
attribute [go_sem] F10.r20
attribute [go_sem] F10.r21
attribute [go_sem] F10.r22
attribute [go_sem] F11.r0
attribute [go_sem] F11.r1
attribute [go_sem] F11.r2
attribute [go_sem] F11.r3
attribute [go_sem] F12.r0
attribute [go_sem] F12.r1
attribute [go_sem] F13.r0
attribute [go_sem] F13.r1
attribute [go_sem] F13.r2
attribute [go_sem] F13.r3
attribute [go_sem] F13.r4
attribute [go_sem] F13.r5
attribute [go_sem] F13.r6
attribute [go_sem] F13.r7
attribute [go_sem] F13.r8
attribute [go_sem] F13.r9
attribute [go_sem] F13.r10
attribute [go_sem] F13.r11
attribute [go_sem] F13.r12
attribute [go_sem] F13.r13
attribute [go_sem] F13.r14
attribute [go_sem] F13.r15
attribute [go_sem] F13.r16
attribute [go_sem] F14.r0
attribute [go_sem] F14.r1
attribute [go_sem] F14.r2
attribute [go_sem] F14.r3
attribute [go_sem] F14.r4
attribute [go_sem] F15.r0
attribute [go_sem] F15.r1
attribute [go_sem] F15.r2
attribute [go_sem] F15.r3
attribute [go_sem] F15.r4
attribute [go_sem] F15.r5
attribute [go_sem] F15.r6
attribute [go_sem] F15.r7
attribute [go_sem] F15.r8
attribute [go_sem] F16.r0
attribute [go_sem] F16.r1
attribute [go_sem] F16.r2
attribute [go_sem] F16.r3
attribute [go_sem] F16.r4
attribute [go_sem] F16.r6
attribute [go_sem] F16.r7
attribute [go_sem] F16.r5
attribute [go_sem] F16.r8
attribute [go_sem] F17.r0
attribute [go_sem] F17.r1
attribute [go_sem] F18.r0
attribute [go_sem] F18.r1
attribute [go_sem] F18.r2
attribute [go_sem] F18.r3
attribute [go_sem] F18.r4
attribute [go_sem] F18.r5
attribute [go_sem] F18.r6
attribute [go_sem] F18.r7
attribute [go_sem] F18.r8
attribute [go_sem] F18.r9
attribute [go_sem] F19.r0
attribute [go_sem] F19.r1
attribute [go_sem] F19.r2
attribute [go_sem] F19.r3
attribute [go_sem] F19.r4
attribute [go_sem] F19.r5
attribute [go_sem] F20.r0
attribute [go_sem] F20.r1
attribute [go_sem] F20.r2
attribute [go_sem] F20.r3
attribute [go_sem] F21.r0
attribute [go_sem] F21.r1
attribute [go_sem] F21.r2
attribute [go_sem] F21.r3
attribute [go_sem] F21.r4
attribute [go_sem] F21.r5
attribute [go_sem] F21.r6
attribute [go_sem] F21.r7
attribute [go_sem] F21.r8
attribute [go_sem] F21.r9
attribute [go_sem] F21.r10
attribute [go_sem] F21.r11
attribute [go_sem] F21.r12
attribute [go_sem] F21.r13
attribute [go_sem] F21.r14
attribute [go_sem] F22.r0
attribute [go_sem] F22.r1
attribute [go_sem] F22.r2
attribute [go_sem] F22.r3
attribute [go_sem] F22.r4
attribute [go_sem] F22.r5
attribute [go_sem] F22.r6
attribute [go_sem] F22.r7
attribute [go_sem] F22.r8
attribute [go_sem] F22.r9
attribute [go_sem] F22.r10
attribute [go_sem] F22.r12
attribute [go_sem] F22.r13
attribute [go_sem] F22.r11
attribute [go_sem] F22.r14
attribute [go_sem] F23.r0
attribute [go_sem] F23.r1
attribute [go_sem] F23.r2
attribute [go_sem] F23.r3
attribute [go_sem] F23.r5
attribute [go_sem] F23.r6
attribute [go_sem] F23.r7
attribute [go_sem] F23.r8
attribute [go_sem] F23.r10
attribute [go_sem] F23.r11
attribute [go_sem] F23.r12
attribute [go_sem] F23.r9
attribute [go_sem] F23.r4
attribute [go_sem] F23.r13
attribute [go_sem] F24.r0
attribute [go_sem] F24.r1
attribute [go_sem] F24.r2
attribute [go_sem] F24.r3
attribute [go_sem] F24.r5
attribute [go_sem] F24.r6
attribute [go_sem] F24.r4
attribute [go_sem] F24.r7
attribute [go_sem] F25.r0
attribute [go_sem] F25.r1
attribute [go_sem] F25.r2
attribute [go_sem] F25.r3
attribute [go_sem] F25.r4
attribute [go_sem] F25.r5
attribute [go_sem] F25.r6
attribute [go_sem] F25.r7
attribute [go_sem] F25.r8
attribute [go_sem] F25.r9
attribute [go_sem] F26.r0
attribute [go_sem] F26.r1
attribute [go_sem] F26.r2
attribute [go_sem] F26.r3
attribute [go_sem] F26.r4
attribute [go_sem] F26.r6
attribute [go_sem] F26.r7
attribute [go_sem] F26.r5
attribute [go_sem] F26.r8
attribute [go_sem] F27.r0
attribute [go_sem] F27.r1
attribute [go_sem] F27.r2
attribute [go_sem] F28.r0
attribute [go_sem] F28.r1
attribute [go_sem] F28.r2
attribute [go_sem] F29.r0
attribute [go_sem] F29.r1
attribute [go_sem] F29.r2
attribute [go_sem] F29.r3
attribute [go_sem] F29.r4
attribute [go_sem] F30.r0
attribute [go_sem] F30.r1
attribute [go_sem] F30.r2
attribute [go_sem] F30.r3
attribute [go_sem] F30.r4
attribute [go_sem] F30.r5
attribute [go_sem] F30.r6
attribute [go_sem] F31.r0
attribute [go_sem] F31.r1
attribute [go_sem] F31.r2
attribute [go_sem] F31.r3
attribute [go_sem] F31.r5
attribute [go_sem] F31.r6
attribute [go_sem] F31.r4
attribute [go_sem] F31.r7
attribute [go_sem] F32.r0
attribute [go_sem] F32.r1
attribute [go_sem] F32.r2
attribute [go_sem] F32.r3
attribute [go_sem] F32.r5
attribute [go_sem] F32.r4
attribute [go_sem] F32.r6
attribute [go_sem] F33.r0
attribute [go_sem] F33.r1
attribute [go_sem] F33.r2
attribute [go_sem] F33.r3
attribute [go_sem] F33.r4
attribute [go_sem] F33.r5
attribute [go_sem] F33.r6
attribute [go_sem] F33.r7
attribute [go_sem] F33.r8
attribute [go_sem] F33.r10
attribute [go_sem] F33.r9
attribute [go_sem] F33.r11
attribute [go_sem] F34.r0
attribute [go_sem] F34.r1
attribute [go_sem] F35.r0
attribute [go_sem] F35.r1
attribute [go_sem] F35.r2
attribute [go_sem] F35.r4
attribute [go_sem] F35.r5
attribute [go_sem] F35.r6
attribute [go_sem] F35.r8
attribute [go_sem] F35.r7
attribute [go_sem] F35.r9
attribute [go_sem] F35.r10
attribute [go_sem] F35.r3
attribute [go_sem] F35.r11
attribute [go_sem] F35.r12
attribute [go_sem] F35.r13
attribute [go_sem] F35.r15
attribute [go_sem] F35.r16
attribute [go_sem] F35.r17
attribute [go_sem] F35.r19
attribute [go_sem] F35.r20
attribute [go_sem] F35.r21
attribute [go_sem] F35.r22
attribute [go_sem] F35.r18
attribute [go_sem] F35.r14
attribute [go_sem] F35.r23
attribute [go_sem] F35.r24
attribute [go_sem] F35.r25
attribute [go_sem] F35.r27
attribute [go_sem] F35.r28
attribute [go_sem] F35.r29
attribute [go_sem] F35.r31
attribute [go_sem] F35.r30
attribute [go_sem] F35.r32
attribute [go_sem] F35.r33
attribute [go_sem] F35.r26
attribute [go_sem] F35.r34
attribute [go_sem] F35.r35
attribute [go_sem] F35.r36
attribute [go_sem] F35.r38
attribute [go_sem] F35.r39
attribute [go_sem] F35.r40
attribute [go_sem] F35.r42
attribute [go_sem] F35.r43
attribute [go_sem] F35.r44
attribute [go_sem] F35.r45
attribute [go_sem] F35.r41
attribute [go_sem] F35.r37
attribute [go_sem] F36.r0
attribute [go_sem] F36.r1
attribute [go_sem] F36.r2
attribute [go_sem] F36.r4
attribute [go_sem] F36.r5
attribute [go_sem] F36.r7
attribute [go_sem] F36.r8
attribute [go_sem] F36.r6
attribute [go_sem] F36.r3
attribute [go_sem] F36.r9
attribute [go_sem] F36.r10
attribute [go_sem] F36.r12
attribute [go_sem] F36.r13
attribute [go_sem] F36.r15
attribute [go_sem] F36.r16
attribute [go_sem] F36.r14
attribute [go_sem] F36.r11
attribute [go_sem] F36.r17
attribute [go_sem] F37.r0
attribute [go_sem] F37.r1
attribute [go_sem] F38.r0
attribute [go_sem] F38.r1
attribute [go_sem] F39.r0
attribute [go_sem] F39.r1
attribute [go_sem] F39.r2
attribute [go_sem] F39.r3
attribute [go_sem] F39.r4
attribute [go_sem] F39.r5
attribute [go_sem] F39.r6
attribute [go_sem] F39.r7
attribute [go_sem] F40.r0
attribute [go_sem] F40.r1
attribute [go_sem] F40.r2
attribute [go_sem] F40.r3
attribute [go_sem] F40.r4
attribute [go_sem] F40.r5
attribute [go_sem] F40.r6
attribute [go_sem] F40.r7
attribute [go_sem] F41.r0
attribute [go_sem] F41.r1
attribute [go_sem] F41.r2
attribute [go_sem] F41.r3
attribute [go_sem] F41.r4
attribute [go_sem] F41.r5
attribute [go_sem] F41.r6
attribute [go_sem] F41.r7
attribute [go_sem] F41.r8
attribute [go_sem] F41.r9
attribute [go_sem] F41.r10
attribute [go_sem] F41.r11
attribute [go_sem] F42.r0
attribute [go_sem] F42.r1
attribute [go_sem] F42.r2
attribute [go_sem] F42.r4
attribute [go_sem] F42.r5
attribute [go_sem] F42.r3
attribute [go_sem] F42.r6
attribute [go_sem] F43.r0
attribute [go_sem] F43.r1
attribute [go_sem] F43.r2
attribute [go_sem] F43.r4
attribute [go_sem] F43.r5
attribute [go_sem] F43.r3
attribute [go_sem] F43.r6
attribute [go_sem] F44.r0
attribute [go_sem] F44.r1
attribute [go_sem] F44.r2
attribute [go_sem] F44.r4
attribute [go_sem] F44.r5
attribute [go_sem] F44.r3
attribute [go_sem] F44.r6
attribute [go_sem] F45.r0
attribute [go_sem] F45.r1
attribute [go_sem] F45.r2
attribute [go_sem] F45.r3
attribute [go_sem] F45.r5
attribute [go_sem] F45.r6
attribute [go_sem] F45.r4
attribute [go_sem] F45.r7
attribute [go_sem] F46.r0
attribute [go_sem] F46.r1
attribute [go_sem] F46.r2
attribute [go_sem] F46.r3
attribute [go_sem] F46.r4
attribute [go_sem] F46.r5
attribute [go_sem] F46.r6
attribute [go_sem] F46.r7
attribute [go_sem] F46.r8
attribute [go_sem] F46.r9
attribute [go_sem] F47.r0
attribute [go_sem] F47.r1
attribute [go_sem] F47.r2
attribute [go_sem] F48.r0
attribute [go_sem] F48.r1
attribute [go_sem] F48.r2
attribute [go_sem] F48.r3
attribute [go_sem] F48.r4
attribute [go_sem] F48.r5
attribute [go_sem] F48.r7
attribute [go_sem] F48.r8
attribute [go_sem] F48.r9
attribute [go_sem] F48.r10
attribute [go_sem] F48.r6
attribute [go_sem] F48.r11
attribute [go_sem] F48.r12
attribute [go_sem] F49.r0
attribute [go_sem] F49.r1
attribute [go_sem] F50.r0
attribute [go_sem] F50.r1
attribute [go_sem] F50.r2
attribute [go_sem] F50.r3
attribute [go_sem] F50.r4
attribute [go_sem] F50.r5
attribute [go_sem] F50.r6
attribute [go_sem] F50.r7
attribute [go_sem] F50.r8
attribute [go_sem] F50.r9
attribute [go_sem] F50.r10
attribute [go_sem] F50.r11
attribute [go_sem] F50.r12
attribute [go_sem] F50.r13
attribute [go_sem] F51.r0
attribute [go_sem] F51.r1
attribute [go_sem] F51.r2
attribute [go_sem] F51.r3
attribute [go_sem] F51.r5
attribute [go_sem] F51.r6
attribute [go_sem] F51.r7
attribute [go_sem] F51.r4
attribute [go_sem] F51.r8
attribute [go_sem] F52.r0
attribute [go_sem] F52.r1
attribute [go_sem] F53.r0
attribute [go_sem] F53.r1
attribute [go_sem] F54.r0
attribute [go_sem] F54.r1
attribute [go_sem] F55.r0
attribute [go_sem] F55.r1
attribute [go_sem] F56.r0
attribute [go_sem] F56.r1
attribute [go_sem] F56.r2
attribute [go_sem] F56.r3
attribute [go_sem] F56.r4
attribute [go_sem] F56.r5
attribute [go_sem] F56.r6
attribute [go_sem] F57.r0
attribute [go_sem] F57.r1
attribute [go_sem] F57.r2
attribute [go_sem] F57.r3
attribute [go_sem] F57.r4
attribute [go_sem] F57.r5
attribute [go_sem] F57.r6
attribute [go_sem] F57.r7
attribute [go_sem] F57.r8
attribute [go_sem] F57.r9
attribute [go_sem] F57.r10
attribute [go_sem] F57.r11
attribute [go_sem] F58.r0
attribute [go_sem] F58.r1
attribute [go_sem] F58.r2
attribute [go_sem] F58.r3
attribute [go_sem] F59.r0
attribute [go_sem] F59.r1
attribute [go_sem] F60.r0
attribute [go_sem] F60.r1
attribute [go_sem] F60.r2
attribute [go_sem] F60.r3
attribute [go_sem] F60.r4
attribute [go_sem] F61.r0
attribute [go_sem] F61.r1
attribute [go_sem] F61.r2
attribute [go_sem] F61.r4
attribute [go_sem] F61.r5
attribute [go_sem] F61.r3
attribute [go_sem] F61.r6
attribute [go_sem] F62.r0
attribute [go_sem] F62.r1
attribute [go_sem] F63.r0
attribute [go_sem] F63.r1
attribute [go_sem] F63.r2
attribute [go_sem] F63.r3
attribute [go_sem] F63.r4
attribute [go_sem] F63.r5
attribute [go_sem] F63.r6
attribute [go_sem] F63.r7
attribute [go_sem] F64.r0
attribute [go_sem] F64.r1
attribute [go_sem] F67.r0
attribute [go_sem] F67.r1
attribute [go_sem] F67.r2
attribute [go_sem] F67.r3
attribute [go_sem] F67.r4
attribute [go_sem] F67.r5
attribute [go_sem] F67.r6
attribute [go_sem] F67.r7
attribute [go_sem] F67.r8
attribute [go_sem] F68.r0
attribute [go_sem] F68.r1
attribute [go_sem] F68.r2
attribute [go_sem] F68.r3
attribute [go_sem] F68.r4
attribute [go_sem] F68.r5
attribute [go_sem] F68.r6
attribute [go_sem] F68.r7
attribute [go_sem] F68.r8
attribute [go_sem] F68.r9
attribute [go_sem] F68.r10
attribute [go_sem] F68.r11
attribute [go_sem] F68.r12
attribute [go_sem] F68.r13
attribute [go_sem] F69.r0
attribute [go_sem] F69.r1
attribute [go_sem] F69.r2
attribute [go_sem] F69.r3
attribute [go_sem] F69.r4
attribute [go_sem] F69.r5
attribute [go_sem] F69.r6
attribute [go_sem] F69.r7
attribute [go_sem] F69.r8
attribute [go_sem] F69.r9
attribute [go_sem] F69.r10
attribute [go_sem] F69.r11
attribute [go_sem] F69.r12
attribute [go_sem] F69.r13
attribute [go_sem] F70.r0
attribute [go_sem] F70.r1
attribute [go_sem] F70.r2
attribute [go_sem] F70.r3
attribute [go_sem] F70.r4
attribute [go_sem] F70.r5
attribute [go_sem] F70.r6
attribute [go_sem] F70.r7
attribute [go_sem] F70.r8
attribute [go_sem] F70.r9
attribute [go_sem] F70.r10
attribute [go_sem] F70.r11
attribute [go_sem] F70.r12
attribute [go_sem] F70.r13
attribute [go_sem] F73.r0
attribute [go_sem] F73.r1
attribute [go_sem] F73.r2
attribute [go_sem] F73.r3
attribute [go_sem] F74.r0
attribute [go_sem] F74.r1
attribute [go_sem] F75.r0
attribute [go_sem] F75.r1
attribute [go_sem] F75.r2
attribute [go_sem] F75.r3
attribute [go_sem] F86.r0
attribute [go_sem] F86.r1
attribute [go_sem] F87.r0
attribute [go_sem] F87.r1
attribute [go_sem] F88.r0
attribute [go_sem] F88.r1
attribute [go_sem] F99.r0
attribute [go_sem] F99.r1
attribute [go_sem] F99.r2
attribute [go_sem] F99.r3
attribute [go_sem] F99.r4

end Go.Proofs.YtacmnfpgimgigaaGreat

namespace Go.Proofs.YtacmnfpgimgigaaGreat
open Go

section lists
variable {κ : Type} [DecidableEq κ]

def ixOf (x : κ) : List (κ × Value) → Nat → Option (Nat × Value)
  | [], _ => none
  | (y, v) :: l, i => if x = y then some (i, v) else ixOf x l (i + 1)
def lk (x : κ) : List (κ × Value) → Option Value
  | [] => none
  | (y, v) :: l => if x = y then some v else lk x l
def upd (x : κ) (v : Value) : List (κ × Value) → List (κ × Value)
  | [] => [(x, v)]
  | (y, u) :: l => if x = y then (x, v) :: l else (y, u) :: upd x v l
def del (x : κ) : List (κ × Value) → List (κ × Value)
  | [] => []
  | (y, u) :: l => if x = y then l else (y, u) :: del x l

theorem ixOf_lk (x : κ) : ∀ (l : List (κ × Value)) (i : Nat), (ixOf x l i).map (·.2) = lk x l
  | [], _ => rfl
  | (y, v) :: l, i => by
    simp only [ixOf, lk]
    split
    · rfl
    · exact ixOf_lk x l (i + 1)

theorem ixOf_none (x : κ) : ∀ (l : List (κ × Value)) (i : Nat) (v : Value), ixOf x l i = none → upd x v l = l ++ [(x, v)] ∧ del x l = l ∧ x ∉ l.map (·.1)
  | [], _, _, _ => ⟨rfl, rfl, by simp⟩
  | (y, u) :: l, i, v, h => by
    simp only [ixOf] at h
    split at h
    · cases h
    · rename_i hne
      obtain ⟨a, b, c⟩ := ixOf_none x l (i + 1) v h
      refine ⟨by simp [upd, hne, a], by simp [del, hne, b], ?_⟩
      simp only [List.map_cons, List.mem_cons, not_or]
      exact ⟨hne, c⟩

theorem ixOf_some (x : κ) : ∀ (l : List (κ × Value)) (i j : Nat) (u v : Value), ixOf x l i = some (j, u) → ∃ k, j = i + k ∧ l[k]? = some (x, u) ∧ upd x v l = l.set k (x, v) ∧ del x l = l.eraseIdx k
  | [], _, _, _, _, h => by cases h
  | (y, u') :: l, i, j, u, v, h => by
    simp only [ixOf] at h
    split at h
    · rename_i he
      subst he
      simp only [Option.some.injEq, Prod.mk.injEq] at h
      obtain ⟨rfl, rfl⟩ := h
      exact ⟨0, rfl, rfl, by simp [upd], by simp [del]⟩
    · rename_i hne
      obtain ⟨k, hk, h1, h2, h3⟩ := ixOf_some x l (i + 1) j u v h
      exact ⟨k + 1, by omega, by simpa using h1, by simp [upd, hne, h2], by simp [del, hne, h3]⟩

theorem upd_keys (x : κ) (v : Value) (l : List (κ × Value)) : (upd x v l).map (·.1) = if x ∈ l.map (·.1) then l.map (·.1) else l.map (·.1) ++ [x] := by
  induction l with
  | nil => simp [upd]
  | cons p l ih =>
    obtain ⟨y, u⟩ := p
    by_cases h : x = y
    · subst h; simp [upd]
    · simp only [upd, h, if_false, List.map_cons, ih, List.mem_cons, false_or]
      split <;> rfl
end lists

/-- Keys of a type: they are found by their being the same. -/
structure KeyLaw (P : Program) (kt : TypeId) {κ : Type} [DecidableEq κ] (enc : κ → Value) : Prop where
  check : ∀ (b : Bool) (w : World) (x : κ), (Instr.checkKey b 10000 kt (enc x)).run P w = .ok () w
  find : ∀ (w : World) (x : κ) (l : List MapEntry) (ks : List (κ × Value)), l.map (fun e => (e.key, e.val)) = ks.map (fun p => (enc p.1, p.2)) → (Instr.findKey kt (enc x) l).run P w = .ok (ixOf x ks 0) w
  same : ∀ x : κ, Instr.sameBits 10000 (enc x) (enc x) = true

theorem KeyLaw.int {P : Program} {kt : TypeId} {k : IntKind} (hu : P.underlying kt = some (.int k)) : KeyLaw P kt (fun n : Int => Value.int k n) := by
  refine ⟨fun b w x => MapKept.run_checkKey hu (by simp [MapKept.IsKey]) b 9999, fun w x l ks h => MapKept.run_findKey hu ?_, fun x => by simp [Instr.sameBits]⟩
  generalize 0 = i
  induction l generalizing ks i with
  | nil => cases ks with
    | nil => rfl
    | cons p ks => simp at h
  | cons e l ih => cases ks with
    | nil => simp at h
    | cons p ks =>
      simp only [List.map_cons, List.cons.injEq, Prod.mk.injEq] at h
      obtain ⟨⟨hk, hv⟩, h⟩ := h
      simp only [Instr.findNow, hk, Instr.sameNow, if_true, ixOf]
      by_cases hx : x = p.1
      · simp [hx, hv]
      · have : (x == p.1) = false := by simp [hx]
        simp only [this, if_neg hx]
        exact ih ks h (i + 1)

theorem KeyLaw.str {P : Program} {kt : TypeId} (hu : P.underlying kt = some .string) : KeyLaw P kt (fun s : ByteArray => Value.string s) := by
  refine ⟨fun b w x => MapKept.run_checkKey hu (by simp [MapKept.IsKey]) b 9999, fun w x l ks h => MapKept.run_findKey hu ?_, fun x => by simp [Instr.sameBits, MapKept.bytes_beq]⟩
  generalize 0 = i
  induction l generalizing ks i with
  | nil => cases ks with
    | nil => rfl
    | cons p ks => simp at h
  | cons e l ih => cases ks with
    | nil => simp at h
    | cons p ks =>
      simp only [List.map_cons, List.cons.injEq, Prod.mk.injEq] at h
      obtain ⟨⟨hk, hv⟩, h⟩ := h
      simp only [Instr.findNow, hk, Instr.sameNow, ixOf]
      by_cases hx : x = p.1
      · have : (x == p.1) = true := (MapKept.bytes_beq _ _).2 hx
        simp only [this, if_pos hx, hv]
      · have : (x == p.1) = false := by
          cases hb : x == p.1 with
          | false => rfl
          | true => exact (hx ((MapKept.bytes_beq _ _).1 hb)).elim
        simp only [this, if_neg hx]
        exact ih ks h (i + 1)

/-! ### Keys that are rows of plain cells -/

def ChkOk (P : Program) (em : Bool) (d : Nat) (T : TypeId) (ks : List Leaf) : Prop :=
  ∀ (w : World) (m : Nat) (xs : Array Value) (off : Nat) (b : Bool), leafEq ks ((xs.toList.drop off).take ks.length) ((xs.toList.drop off).take ks.length) = some b →
    ∃ u, (part T xs off).run P w = .ok u w ∧ (Instr.checkKey em (d + m) T u).run P w = .ok () w

theorem run_chkFs {P : Program} {em : Bool} {d : Nat} (ih : ∀ T ks, flatK P d T = some ks → (P.info? T).map (·.size) = some ks.length → ChkOk P em d T ks) (w : World) (m : Nat) (X : Array Value) :
    ∀ (fs : List Field) (o : Nat) (ks : List Leaf) (b : Bool), flatFs P (flatK P d) fs o = some ks → leafEq ks ((X.toList.drop o).take ks.length) ((X.toList.drop o).take ks.length) = some b →
      (forIn (m := Sem) fs PUnit.unit fun f _ => do
        if f.name ≠ "_" then Instr.checkKey em (d + m) f.type (← part f.type X f.offset)
        pure (ForInStep.yield PUnit.unit)).run P w = .ok PUnit.unit w
  | [], o, ks, b, h, hb => by simp
  | f :: fs, o, ks, b, h, hb => by
    unfold flatFs at h
    split at h
    · cases h
    · rename_i hn
      simp only [not_or, Decidable.not_not] at hn
      obtain ⟨hn, ho⟩ := hn
      split at h
      · cases h
      · rename_i ks1 hk
        split at h
        · rename_i hsz
          obtain ⟨ks2, h2, rfl⟩ := Option.map_eq_some_iff.1 h
          obtain ⟨b1, b2, e1, e2, rfl⟩ := leafEq_app ks1 ks2 _ _ b hb
          rw [List.take_take, List.length_append, Nat.min_eq_left (by omega)] at e1
          rw [List.drop_take, List.drop_drop, List.length_append, show ks1.length + ks2.length - ks1.length = ks2.length by omega] at e2
          obtain ⟨u, p1, p2⟩ := ih f.type ks1 hk hsz w m X o b1 e1
          have r := run_chkFs ih w m X fs (o + ks1.length) ks2 b2 h2 e2
          rw [ho.symm] at p1
          simp only [List.forIn_cons, Sem.run_bind, hn, ne_eq, not_false_eq_true, if_true, p1, p2, Result.andThen_ok, Sem.run_pure]
          exact r
        · cases h

theorem run_chkK {P : Program} {em : Bool} : ∀ (d : Nat) (T : TypeId) (ks : List Leaf), flatK P d T = some ks → (P.info? T).map (·.size) = some ks.length → ChkOk P em d T ks
  | 0, _, _, h, _ => by cases h
  | d + 1, T, ks, h, hs => by
    intro w m xs off b hb
    rw [show d + 1 + m = d + m + 1 by omega]
    unfold flatK at h
    split at h
    · rename_i k hu
      simp only [Option.some.injEq] at h
      subst h
      have hp : P.plainKey T = true := by simp [Program.plainKey, hu]
      obtain ⟨k1, x, y, e1, e2, rfl⟩ := leafEq_int hb
      exact ⟨_, run_part_plain w hp (getElem?_of_chunk e1), by simp [Instr.checkKey, run_underlying hu]⟩
    · rename_i hu
      simp only [Option.some.injEq] at h
      subst h
      have hp : P.plainKey T = true := by simp [Program.plainKey, hu]
      obtain ⟨x, y, e1, e2, rfl⟩ := leafEq_bool hb
      exact ⟨_, run_part_plain w hp (getElem?_of_chunk e1), by simp [Instr.checkKey, run_underlying hu]⟩
    · rename_i hu
      simp only [Option.some.injEq] at h
      subst h
      have hp : P.plainKey T = true := by simp [Program.plainKey, hu]
      obtain ⟨x, y, e1, e2, rfl⟩ := leafEq_str hb
      exact ⟨_, run_part_plain w hp (getElem?_of_chunk e1), by simp [Instr.checkKey, run_underlying hu]⟩
    · rename_i fs hu
      split at h
      · cases h
      · rename_i hst
        refine ⟨_, run_part_struct hu hs w xs off, ?_⟩
        have hx : ∀ zs : Array Value, ((zs.extract off (off + ks.length)).toList.drop 0).take ks.length = (zs.toList.drop off).take ks.length := by
          intro zs
          rw [Array.toList_extract, List.drop_zero, List.extract_eq_take_drop, Nat.add_sub_cancel_left, List.take_take, Nat.min_self]
        have r := run_chkFs (em := em) (run_chkK d) w m (xs.extract off (off + ks.length)) fs.toList 0 ks b h (by rw [hx]; exact hb)
        rw [Instr.checkKey]
        simp only [Sem.run_bind, run_underlying hu, Result.andThen_ok]
        rw [← Array.forIn_toList]
        simp at r ⊢
        rw [r]; rfl
    · cases h

theorem leafEq_plain : ∀ (ks : List Leaf) (l1 l2 : List Value) (b : Bool), leafEq ks l1 l2 = some b → l1.length = ks.length ∧ l2.length = ks.length ∧ ∀ v ∈ l1, ∀ m, Instr.sameBits m v v = true := by
  intro ks
  induction ks with
  | nil => intro l1 l2 b h; obtain ⟨rfl, rfl, _⟩ := leafEq_nil h; simp
  | cons k ks ih =>
    intro l1 l2 b h
    obtain ⟨b1, b2, h1, h2, _⟩ := leafEq_app [k] ks l1 l2 b h
    obtain ⟨e1, e2, e3⟩ := ih _ _ _ h2
    have : ∃ u v, l1.take 1 = [u] ∧ l2.take 1 = [v] ∧ ∀ m, Instr.sameBits m u u = true := by
      cases k
      · obtain ⟨_, _, _, e1, e2, _⟩ := leafEq_int h1; exact ⟨_, _, e1, e2, fun m => by simp [Instr.sameBits]⟩
      · obtain ⟨_, _, e1, e2, _⟩ := leafEq_bool h1; exact ⟨_, _, e1, e2, fun m => by simp [Instr.sameBits]⟩
      · obtain ⟨_, _, e1, e2, _⟩ := leafEq_str h1; exact ⟨_, _, e1, e2, fun m => by simp [Instr.sameBits, MapKept.bytes_beq]⟩
    obtain ⟨u, v, f1, f2, hs⟩ := this
    have g1 := congrArg List.length f1
    have g2 := congrArg List.length f2
    simp only [List.length_drop, List.length_cons, List.length_nil, List.length_take] at e1 e2 g1 g2 ⊢
    refine ⟨by omega, by omega, fun v hv m => ?_⟩
    rcases l1 with _ | ⟨x, l1⟩
    · simp at hv
    · simp only [List.take_succ_cons, List.take_zero, List.cons.injEq, and_true] at f1
      subst f1
      rcases List.mem_cons.1 hv with rfl | hv
      · exact hs m
      · exact e3 v (by simpa using hv) m

theorem KeyLaw.agg {P : Program} {kt : TypeId} {κ : Type} [DecidableEq κ] {enc : κ → List Value} {ks : List Leaf} (hk : flatE P kt = some ks) (he : ∀ x y : κ, leafEq ks (enc x) (enc y) = some (decide (x = y))) : KeyLaw P kt (fun x : κ => Value.agg (enc x).toArray) := by
  have hk' := hk
  unfold flatE at hk'
  split at hk' <;> try (cases hk'; done)
  rename_i fs hu
  split at hk' <;> try (cases hk'; done)
  have hk2 := hk'
  unfold flatK at hk2
  rw [hu] at hk2
  simp only at hk2
  split at hk2 <;> try (cases hk2; done)
  have hlen : ∀ x : κ, (enc x).length = ks.length := fun x => (leafEq_plain _ _ _ _ (he x x)).1
  refine ⟨fun b w x => ?_, fun w x l es h => ?_, fun x => ?_⟩
  · show (Instr.checkKey b (9999 + 1) kt (.agg (enc x).toArray)).run P w = .ok () w
    rw [Instr.checkKey]
    simp only [Sem.run_bind, run_underlying hu, Result.andThen_ok]
    rw [← Array.forIn_toList]
    have r := run_chkFs (em := b) (run_chkK 19) w 9980 (enc x).toArray fs.toList 0 ks _ hk2 (by rw [List.drop_zero, List.take_of_length_le (by simp [hlen])]; exact he x x)
    simp at r ⊢
    rw [r]; rfl
  · rw [run_findKey_eq w (by simp [hu])]
    generalize 0 = i
    induction l generalizing es i with
    | nil => cases es with
      | nil => simp [Instr.findAsking, ixOf]
      | cons p es => simp at h
    | cons e l ih => cases es with
      | nil => simp at h
      | cons p es =>
        simp only [List.map_cons, List.cons.injEq, Prod.mk.injEq] at h
        obtain ⟨⟨hkk, hv⟩, h⟩ := h
        have r := (run_aggEq (P := P) (T := kt) (xs := (enc x).toArray) (ys := (enc p.1).toArray) (b := decide (x = p.1)) (by rw [hk]; exact he x p.1) w).1
        simp only [Instr.findAsking, hkk, Sem.run_bind, r, Result.andThen_ok, ixOf]
        by_cases hx : x = p.1
        · simp [hx, hv]
        · simp only [hx, decide_false, Bool.false_eq_true, if_false]
          exact ih es h (i + 1)
  · show Instr.sameBits (9999 + 1) (.agg (enc x).toArray) (.agg (enc x).toArray) = true
    simp only [Instr.sameBits, beq_self_eq_true, Bool.true_and, List.all_eq_true]
    intro p hp
    obtain ⟨i, hi, e⟩ := List.getElem_of_mem hp
    rw [List.getElem_zip] at e
    rw [← e]
    exact (leafEq_plain _ _ _ _ (he x x)).2.2 _ (List.getElem_mem _) _

section maps
variable {κ : Type} {P : Program}

/-- What a map's block is: its entries in their order. -/
structure MapIs (enc : κ → Value) (es : Array MapEntry) (clock : Nat) (l : List (κ × Value)) : Prop where
  list : es.toList.map (fun e => (e.key, e.val)) = l.map (fun p => (enc p.1, p.2))
  born : ∀ e ∈ es.toList, e.born < clock
  nodup : (es.toList.map (·.born)).Nodup
  keys : (l.map (·.1)).Nodup

def MapE (enc : κ → Value) (b : Nat) (es : Array MapEntry) (clock : Nat) (l : List (κ × Value)) : HP := fun h => h b = some (.map es clock) ∧ MapIs enc es clock l
/-- The map b is one's own; its entries. -/
def MapP (enc : κ → Value) (b : Nat) (l : List (κ × Value)) : HP := fun h => ∃ es clock, MapE enc b es clock l h

theorem MapIs.length {enc : κ → Value} {es : Array MapEntry} {clock : Nat} {l : List (κ × Value)} (h : MapIs enc es clock l) : es.size = l.length := by
  have := congrArg List.length h.list
  simpa using this

theorem MapP.open {enc : κ → Value} {b : Nat} {l : List (κ × Value)} {w0 w : World} {F : HP} (h : St w0 (MapP enc b l * F) w) : ∃ es clock, St w0 (MapE enc b es clock l * F) w := by
  obtain ⟨x, hl, h1, h2, hd, l1, l2, ⟨es, clock, hm⟩, hf⟩ := h.sat
  exact ⟨es, clock, h.os, h.tape, h.output, h.drawn, h.size, x, hl, h1, h2, hd, l1, l2, hm, hf⟩
theorem MapE.shut (enc : κ → Value) (b : Nat) (es : Array MapEntry) (clock : Nat) (l : List (κ × Value)) : Ent (MapE enc b es clock l) (MapP enc b l) := Ent.of fun _ h => ⟨es, clock, h⟩
theorem MapE.heap {enc : κ → Value} {b : Nat} {es : Array MapEntry} {clock : Nat} {l : List (κ × Value)} {w0 w : World} {F : HP} (h : St w0 (MapE enc b es clock l * F) w) : w.heap[b]? = some (.map es clock) ∧ MapIs enc es clock l := by
  obtain ⟨x, hl, h1, h2, hd, l1, l2, ⟨hb, hm⟩, hf⟩ := h.sat
  exact ⟨hl _ _ (l1 _ _ hb), hm⟩

theorem MapP.turn {enc : κ → Value} {b : Nat} {es' : Array MapEntry} {clock' : Nat} {l l' : List (κ × Value)} {w0 w : World} {F : HP} (h : St w0 (MapP enc b l * F) w) (hm : MapIs enc es' clock' l') :
    St w0 (MapP enc b l' * F) { w with heap := w.heap.setIfInBounds b (.map es' clock') } := by
  obtain ⟨es, clock, h1⟩ := MapP.open h
  have hb := (MapE.heap h1).1
  obtain ⟨q1, q2⟩ := MapKept.heap_set (o' := .map es' clock') hb
  refine h.turn (b := b) rfl rfl rfl (by simp) (fun _ ⟨_, _, h, _⟩ => ⟨_, h⟩) (fun k hk _ => q2 k hk) ⟨fun k => if k = b then some (.map es' clock') else none, fun k o e => by by_cases hkb : k = b <;> simp_all, fun k o e => ?_, ⟨es', clock', by simp, hm⟩⟩
  by_cases hkb : k = b
  · subst hkb; simp only [if_true] at e; cases e; exact q1
  · simp [hkb] at e

theorem MapIs.nil (enc : κ → Value) (clock : Nat) : MapIs enc #[] clock [] := ⟨rfl, by simp, by simp, by simp⟩

theorem MapIs.push {enc : κ → Value} {es : Array MapEntry} {clock : Nat} {l : List (κ × Value)} (h : MapIs enc es clock l) {x : κ} (hx : x ∉ l.map (·.1)) (v : Value) :
    MapIs enc (es.push { key := enc x, val := v, born := clock }) (clock + 1) (l ++ [(x, v)]) := by
  refine ⟨by simp [h.list], ?_, ?_, ?_⟩
  · intro e he
    simp only [Array.toList_push, List.mem_append, List.mem_singleton] at he
    rcases he with he | rfl
    · exact Nat.lt_succ_of_lt (h.born e he)
    · exact Nat.lt_succ_self _
  · simp only [Array.toList_push, List.map_append, List.map_cons, List.map_nil]
    refine List.nodup_append.2 ⟨h.nodup, by simp, ?_⟩
    intro a ha b hb
    simp only [List.mem_singleton] at hb
    subst hb
    obtain ⟨e, he, rfl⟩ := List.mem_map.1 ha
    exact Nat.ne_of_lt (h.born e he)
  · simp only [List.map_append, List.map_cons, List.map_nil]
    refine List.nodup_append.2 ⟨h.keys, by simp, ?_⟩
    intro a ha b hb
    simp only [List.mem_singleton] at hb
    subst hb
    rintro rfl
    exact hx ha

theorem MapIs.set {enc : κ → Value} {es : Array MapEntry} {clock : Nat} {l : List (κ × Value)} (h : MapIs enc es clock l) {x : κ} {k : Nat} {u : Value} (hk : l[k]? = some (x, u)) (v : Value) :
    MapIs enc (es.modify k fun e => { e with key := enc x, val := v }) clock (l.set k (x, v)) := by
  have hborn : (es.modify k fun e => { e with key := enc x, val := v }).toList.map (·.born) = es.toList.map (·.born) := by
    apply List.ext_getElem?
    intro j
    simp only [List.getElem?_map, Array.getElem?_toList, Array.getElem?_modify]
    split
    · subst_vars; cases es[j]? <;> rfl
    · rfl
  refine ⟨?_, ?_, by rw [hborn]; exact h.nodup, ?_⟩
  · apply List.ext_getElem?
    intro j
    have hj := congrArg (fun l => l[j]?) h.list
    simp only [List.getElem?_map, Array.getElem?_toList, Array.getElem?_modify, List.getElem?_set] at hj ⊢
    split
    · rename_i hkj
      subst hkj
      have hlt : k < l.length := (List.getElem?_eq_some_iff.1 hk).1
      have hlt' : k < es.size := by rw [h.length]; exact hlt
      simp [hlt, hlt']
    · exact hj
  · intro e he
    have : e.born ∈ (es.modify k fun e => { e with key := enc x, val := v }).toList.map (·.born) := List.mem_map_of_mem he
    rw [hborn] at this
    obtain ⟨e', he', hb⟩ := List.mem_map.1 this
    rw [← hb]; exact h.born e' he'
  · have : (l.set k (x, v)).map (·.1) = l.map (·.1) := by
      apply List.ext_getElem?
      intro j
      simp only [List.getElem?_map, List.getElem?_set]
      split
      · rename_i hkj
        subst hkj
        have hlt : k < l.length := (List.getElem?_eq_some_iff.1 hk).1
        have := (List.getElem?_eq_some_iff.1 hk).2
        simp [hlt, this]
      · rfl
    rw [this]; exact h.keys

theorem MapIs.erase {enc : κ → Value} {es : Array MapEntry} {clock : Nat} {l : List (κ × Value)} (h : MapIs enc es clock l) {k : Nat} (hk : k < l.length) :
    MapIs enc (es.eraseIdxIfInBounds k) clock (l.eraseIdx k) := by
  have hlt : k < es.size := by rw [h.length]; exact hk
  have he : (es.eraseIdxIfInBounds k).toList = es.toList.eraseIdx k := by simp [Array.eraseIdxIfInBounds, hlt]
  have hmap : ∀ {α β : Type} (f : α → β) (l : List α) (k : Nat), (l.eraseIdx k).map f = (l.map f).eraseIdx k := by
    intro α β f l
    induction l with
    | nil => intro k; rfl
    | cons a l ih => intro k; cases k <;> simp [ih]
  refine ⟨by rw [he, hmap, hmap, h.list], ?_, ?_, ?_⟩
  · intro e hx
    rw [he] at hx
    exact h.born e (List.mem_of_mem_eraseIdx hx)
  · rw [he, hmap]; exact List.Nodup.sublist (List.eraseIdx_sublist _ _) h.nodup
  · rw [hmap]; exact List.Nodup.sublist (List.eraseIdx_sublist _ _) h.keys

/-- What a look-up hands out. -/
def lkV (z : Value) (ok : Bool) : Option Value → Value
  | some v => if ok = true then .tuple #[v, .bool true] else v
  | none => if ok = true then .tuple #[z, .bool false] else z
theorem lkV_some {z v : Value} : lkV z false (some v) = v := rfl
theorem lkV_none {z : Value} : lkV z false none = z := rfl
theorem lkV_someOk {z v : Value} : lkV z true (some v) = .tuple #[v, .bool true] := rfl
theorem lkV_noneOk {z : Value} : lkV z true none = .tuple #[z, .bool false] := rfl

theorem run_zeroV {t : TypeId} {z : Value} {w : World} (hz : zeroV P t = some z) : (zeroValue t).run P w = .ok z w := by
  unfold zeroV at hz
  obtain ⟨i, hi, hz⟩ := Option.bind_eq_some_iff.1 hz
  simp only [zeroValue, Sem.run_bind, run_typeInfo' hi, hz, Result.andThen_ok]
  rfl

theorem St.lookup [DecidableEq κ] {w0 w : World} {F : HP} {enc : κ → Value} {b : Nat} {l : List (κ × Value)} {T kt et : TypeId} {z : Value} {ok : Bool} {x : κ} {K : Value → Prop} {θ : Tag K} (h : St w0 (MapP enc b l * F) w) (hu : P.underlying T = some (.map kt et)) (law : KeyLaw P kt enc) (hz : zeroV P et = some z)
    (hK : K (lkV z ok (lk x l))) : readR P (kLookup T (.map (some b)) (enc x) ok) w K θ := by
  show readR P (Instr.lookup T (.map (some b)) (enc x) ok) w K θ
  obtain ⟨es, clock, h1⟩ := MapP.open h
  obtain ⟨hb, hm⟩ := MapE.heap h1
  refine ⟨_, ?_, hK⟩
  have hf := law.find w x es.toList l hm.list
  have hx := ixOf_lk x l 0
  unfold Instr.lookup
  cases hi : ixOf x l 0 with
  | none =>
    rw [hi] at hx hf
    simp only [Option.map_none] at hx
    rw [← hx]
    simp only [Sem.run_bind, run_underlying' hu, Result.andThen_ok, MapKept.run_getObj_map hb, Sem.run_pure, law.check, hf, run_zeroV hz]
    cases ok <;> rfl
  | some p =>
    rw [hi] at hx hf
    simp only [Option.map_some] at hx
    rw [← hx]
    simp only [Sem.run_bind, run_underlying' hu, Result.andThen_ok, MapKept.run_getObj_map hb, Sem.run_pure, law.check, hf]
    cases ok <;> rfl

/-- A look-up in a map that is nil. -/
theorem St.lookupNil [DecidableEq κ] {w : World} {enc : κ → Value} {T kt et : TypeId} {z : Value} {ok : Bool} {x : κ} {K : Value → Prop} {θ : Tag K} (hu : P.underlying T = some (.map kt et)) (law : KeyLaw P kt enc) (hz : zeroV P et = some z)
    (hK : K (lkV z ok none)) : readR P (kLookup T (.map none) (enc x) ok) w K θ := by
  show readR P (Instr.lookup T (.map none) (enc x) ok) w K θ
  refine ⟨_, ?_, hK⟩
  have hf := law.find w x [] [] rfl
  unfold Instr.lookup
  simp only [Sem.run_bind, run_underlying' hu, Result.andThen_ok, Sem.run_pure, law.check, hf, ixOf, run_zeroV hz]
  cases ok <;> rfl

theorem St.update [DecidableEq κ] {w0 w : World} {F : HP} {enc : κ → Value} {b : Nat} {l : List (κ × Value)} {T kt et : TypeId} {x : κ} {v : Value} {K : World → Prop} {θ : Tag K} (h : St w0 (MapP enc b l * F) w) (hu : P.underlying T = some (.map kt et)) (law : KeyLaw P kt enc)
    (hK : ∀ w', St w0 (MapP enc b (upd x v l) * F) w' → K w') : semU P (kMapUpdate T (.map (some b)) (enc x) v) w K θ := by
  show semU P (Instr.mapUpdate T (.map (some b)) (enc x) v) w K θ
  obtain ⟨es, clock, h1⟩ := MapP.open h
  obtain ⟨hb, hm⟩ := MapE.heap h1
  have hf := law.find w x es.toList l hm.list
  cases hi : ixOf x l 0 with
  | none =>
    obtain ⟨e1, _, e3⟩ := ixOf_none x l 0 v hi
    rw [hi] at hf
    refine ⟨{ w with heap := w.heap.setIfInBounds b (.map (es.push { key := enc x, val := v, born := clock }) (clock + 1)) }, ?_, hK _ ?_⟩
    · simp only [Instr.mapUpdate, Sem.run_bind, run_underlying' hu, Result.andThen_ok, MapKept.run_getObj_map hb, law.check, hf, MapKept.run_setObj_map _ hb]
    · rw [e1]; exact MapP.turn h (hm.push e3 v)
  | some p =>
    obtain ⟨j, u⟩ := p
    obtain ⟨k, hk, hg, e1, _⟩ := ixOf_some x l 0 j u v hi
    rw [Nat.zero_add] at hk
    subst hk
    rw [hi] at hf
    have hkey : ((es[j]?).map (·.key)).getD (enc x) = enc x := by
      have := congrArg (fun l => l[j]?) hm.list
      simp only [List.getElem?_map, hg, Option.map_some, Array.getElem?_toList] at this
      obtain ⟨e, he, hx⟩ := Option.map_eq_some_iff.1 this
      simp only [Prod.mk.injEq] at hx
      simp [he, hx.1]
    refine ⟨{ w with heap := w.heap.setIfInBounds b (.map (es.modify j fun e => { e with key := enc x, val := v }) clock) }, ?_, hK _ ?_⟩
    · simp only [Instr.mapUpdate, Sem.run_bind, run_underlying' hu, Result.andThen_ok, MapKept.run_getObj_map hb, law.check, hf, hkey, Instr.keyThatStays, law.same, if_true, Sem.run_pure, MapKept.run_setObj_map _ hb]
    · rw [e1]; exact MapP.turn h (hm.set hg v)

theorem St.delete [DecidableEq κ] {w0 w : World} {F : HP} {enc : κ → Value} {b : Nat} {l : List (κ × Value)} {T kt et ty kt' : TypeId} {x : κ} {K : Value → World → Prop} {θ : Tag K} (h : St w0 (MapP enc b l * F) w) (hu : P.underlying T = some (.map kt et)) (law : KeyLaw P kt enc)
    (hK : ∀ w', St w0 (MapP enc b (del x l) * F) w' → K (.tuple #[]) w') : semD P (kDelete #[T, kt'] ty #[.map (some b), enc x]) w K θ := by
  show semD P (Builtin.delete_ #[T, kt'] ty #[.map (some b), enc x]) w K θ
  obtain ⟨es, clock, h1⟩ := MapP.open h
  obtain ⟨hb, hm⟩ := MapE.heap h1
  have hf := law.find w x es.toList l hm.list
  cases hi : ixOf x l 0 with
  | none =>
    obtain ⟨_, e2, _⟩ := ixOf_none x l 0 undef hi
    rw [hi] at hf
    refine ⟨.tuple #[], { w with heap := w.heap.setIfInBounds b (.map es clock) }, ?_, hK _ ?_⟩
    · simp [Builtin.delete_, Sem.run_bind, run_underlying' hu, Result.andThen_ok, MapKept.run_getObj_map hb, law.check, hf, MapKept.run_setObj_map _ hb]
    · rw [e2]; exact MapP.turn h hm
  | some p =>
    obtain ⟨j, u⟩ := p
    obtain ⟨k, hk, hg, _, e2⟩ := ixOf_some x l 0 j u undef hi
    rw [Nat.zero_add] at hk
    subst hk
    rw [hi] at hf
    refine ⟨.tuple #[], { w with heap := w.heap.setIfInBounds b (.map (es.eraseIdxIfInBounds j) clock) }, ?_, hK _ ?_⟩
    · simp [Builtin.delete_, Sem.run_bind, run_underlying' hu, Result.andThen_ok, MapKept.run_getObj_map hb, law.check, hf, MapKept.run_setObj_map _ hb]
    · rw [e2]; exact MapP.turn h (hm.erase (List.getElem?_eq_some_iff.1 hg).1)

theorem St.clearMap {w0 w : World} {F : HP} {enc : κ → Value} {b : Nat} {l : List (κ × Value)} {T kt et ty : TypeId} {K : Value → World → Prop} {θ : Tag K} (h : St w0 (MapP enc b l * F) w) (hu : P.underlying T = some (.map kt et))
    (hK : ∀ w', St w0 (MapP enc b [] * F) w' → K (.tuple #[]) w') : semD P (kClear #[T] ty #[.map (some b)]) w K θ := by
  show semD P (Builtin.clear_ #[T] ty #[.map (some b)]) w K θ
  obtain ⟨es, clock, h1⟩ := MapP.open h
  obtain ⟨hb, hm⟩ := MapE.heap h1
  refine ⟨.tuple #[], { w with heap := w.heap.setIfInBounds b (.map #[] clock) }, ?_, hK _ (MapP.turn h (MapIs.nil enc clock))⟩
  simp [Builtin.clear_, Sem.run_bind, run_underlying' hu, Result.andThen_ok, MapKept.run_getObj_map hb, MapKept.run_setObj_map _ hb]

theorem St.lenMap {w0 w : World} {F : HP} {enc : κ → Value} {b : Nat} {l : List (κ × Value)} {T kt et ty : TypeId} {K : Value → Prop} {θ : Tag K} (h : St w0 (MapP enc b l * F) w) (hu : P.underlying T = some (.map kt et))
    (hK : K (.int .i64 l.length)) : readR P (kLen #[T] ty #[.map (some b)]) w K θ := by
  show readR P (Builtin.len_ #[T] ty #[.map (some b)]) w K θ
  obtain ⟨es, clock, h1⟩ := MapP.open h
  obtain ⟨hb, hm⟩ := MapE.heap h1
  refine ⟨_, ?_, hK⟩
  simp [Builtin.len_, Sem.run_bind, run_underlying' hu, Result.andThen_ok, MapKept.run_getObj_map hb, hm.length, goInt]

theorem St.makeMap {w0 w : World} {F : HP} {enc : κ → Value} {T : TypeId} {K : Value → World → Prop} {θ : Tag K} (h : St w0 F w) (hK : ∀ b w', St w0 (MapP enc b [] * F) w' → K (.map (some b)) w') : semD P (kMakeMap T none) w K θ :=
  ⟨_, _, RowKit.run_makeMap T w, hK _ _ ((h.alloc _).ent (Ent.sep (Ent.of fun _ hb => ⟨#[], 0, hb, MapIs.nil enc 0⟩) (Ent.rfl' F)))⟩

/-! ### A map is gone through, in whatever order -/

/-- The map b, gone through by the iterator r: the entries that are left. -/
def RangeP (enc : κ → Value) (b r : Nat) (l left : List (κ × Value)) : HP := fun h => ∃ es clock seen, h b = some (.map es clock) ∧ h r = some (.mapIter (some b) clock seen clock) ∧ MapIs enc es clock l ∧
  (leftOf es seen).toList.map (fun e => (e.key, e.val)) = left.map (fun p => (enc p.1, p.2)) ∧ b ≠ r

end maps

end Go.Proofs.YtacmnfpgimgigaaGreat

namespace Go.Proofs.YtacmnfpgimgigaaGreat
open Go

theorem cellsFrom_blk {w : World} {b : Nat} {arr : Array Value} {T : TypeId} {fr : Nat × Nat} (h : w.heap[b]? = some (.cells arr T fr)) (o : Nat) : ∀ (n i : Nat), o + i + n ≤ arr.size → cellsFrom w ⟨b, o, none⟩ i n = some ((arr.toList.drop (o + i)).take n)
  | 0, _, _ => by simp [cellsFrom]
  | n + 1, i, hn => by
    have ih := cellsFrom_blk h o n (i + 1) (by omega)
    have hlt : o + i < arr.size := by omega
    simp only [cellsFrom, add_lit, cell_of_heap h, Array.getElem?_eq_getElem hlt, ih]
    have : arr.toList.drop (o + i) = arr[o + i] :: arr.toList.drop (o + (i + 1)) := by
      have := List.drop_eq_getElem_cons (l := arr.toList) (i := o + i) (by simpa using hlt)
      simpa [Nat.add_assoc] using this
    rw [this, List.take_succ_cons]

theorem rowV_blk {w : World} {b : Nat} {arr : Array Value} {T : TypeId} {fr : Nat × Nat} (h : w.heap[b]? = some (.cells arr T fr)) {o n : Nat} (hn : o + n ≤ arr.size) : rowV w ⟨b, o, none⟩ n = some (.agg ((arr.toList.drop o).take n).toArray) := by
  unfold rowV
  have := cellsFrom_blk h o n 0 (by omega)
  rw [this]
  simp

/-- The whole of a block of one's own. -/
theorem St.row {w0 w : World} {b n : Nat} {arr : Array Value} {T : TypeId} {fr : Nat × Nat} {F : HP} (h : St w0 (Blk b (.cells arr T fr) * F) w) (hn : arr.size = n) : rowV w ⟨b, 0, none⟩ n = some (.agg arr) := by
  rw [rowV_blk h.blk (by omega), List.drop_zero, List.take_of_length_le (by simp; omega)]

theorem St.rowAt {w0 w : World} {b o n : Nat} {arr : Array Value} {T : TypeId} {fr : Nat × Nat} {F : HP} (h : St w0 (Blk b (.cells arr T fr) * F) w) (hn : o + n ≤ arr.size) : rowV w ⟨b, o, none⟩ n = some (.agg ((arr.toList.drop o).take n).toArray) := rowV_blk h.blk hn

/-- A row stored into a block of one's own. -/
theorem St.storeRow {w0 w : World} {F : HP} {c off n : Nat} {arr : Array Value} {cs : List Value} {T : TypeId} {K : World → Prop} {θ : Tag K} (h : St w0 (Blk c (.cells arr T (0, 0)) * F) w) (hn : cs.length = n) (hs : off + n ≤ arr.size) (hc : ∀ v ∈ cs, isCell v = true)
    (hK : ∀ w', St w0 (Blk c (.cells (setRowL arr.toList off cs).toArray T (0, 0)) * F) w' → K w') : storeD (some n) (.pointer (some ⟨c, off, none⟩)) (.agg cs.toArray) w K θ := by
  have key : ∀ (l : List Value) (i : Nat) (arr : Array Value) (w : World), (∀ v ∈ l, isCell v = true) → off + i + l.length ≤ arr.size → St w0 (Blk c (.cells arr T (0, 0)) * F) w →
      (∀ w', St w0 (Blk c (.cells (setRowL arr.toList (off + i) l).toArray T (0, 0)) * F) w' → K w') → stD w ⟨c, off, none⟩ K i l := by
    intro l
    induction l with
    | nil => intro i arr w _ _ h hK; exact hK _ (by simpa [setRowL] using h)
    | cons v l ih =>
      intro i arr w hc hs h hK
      simp only [List.length_cons] at hs
      refine ⟨⟨?_, ?_⟩, ?_⟩
      · rw [add_lit, h.cells]; simp; omega
      · rw [add_lit]; exact h.thaw _
      · rw [add_lit]
        refine ih (i + 1) (arr.setIfInBounds (off + i) v) _ (fun u hu => hc u (by simp [hu])) (by simp; omega) (h.setCell (off + i) v) fun w' h' => hK w' ?_
        simpa [setRowL, Nat.add_assoc] using h'
  refine ⟨⟨by simp [Value.cells, hn], by simpa [Value.cells] using hc⟩, ?_⟩
  have := key cs 0 arr w hc (by omega) h (by simpa using hK)
  simpa [Value.cells] using this

theorem setRowL_all {cs : List Value} : ∀ (vs : List Value), vs.length = cs.length → setRowL cs 0 vs = vs := by
  intro vs hv
  have := take_setRowL (vs := vs) (cs := cs) (o := 0) (by omega)
  rw [List.take_zero, List.nil_append, Nat.zero_add] at this
  rw [List.take_of_length_le (by rw [length_setRowL]; omega)] at this
  exact this

/-- A variable of one's own is written over. -/
theorem St.storeAll {w0 w : World} {F : HP} {c n : Nat} {arr : Array Value} {cs : List Value} {T : TypeId} {K : World → Prop} {θ : Tag K} (h : St w0 (Blk c (.cells arr T (0, 0)) * F) w) (hn : cs.length = n) (hs : arr.size = n) (hc : ∀ v ∈ cs, isCell v = true)
    (hK : ∀ w', St w0 (Blk c (.cells cs.toArray T (0, 0)) * F) w' → K w') : storeD (some n) (.pointer (some ⟨c, 0, none⟩)) (.agg cs.toArray) w K θ :=
  h.storeRow hn (by omega) hc fun w' h' => hK w' (by rwa [setRowL_all cs (by simp; omega)] at h')

end Go.Proofs.YtacmnfpgimgigaaGreat

namespace Go.Proofs.YtacmnfpgimgigaaGreat
open Go

/-- The slice value v owns the cells xs: n elements of s cells each, of type T, somewhere in a block of one's own. -/
def RowO (T : TypeId) (s : Nat) (v : Value) (n : Nat) (xs : List Value) : HP := fun h =>
  (v = .slice none 0 0 ∧ n = 0 ∧ xs = []) ∨
  ∃ g o cap cur, v = .slice (some ⟨g, o, none⟩) n cap ∧ h g = some (.cells cur T (0, 0)) ∧ n ≤ cap ∧ cap ≤ maxLen ∧ o + cap * s ≤ cur.size ∧ (cur.toList.drop o).take (n * s) = xs ∧ xs.length = n * s

theorem RowO.length {T s : Nat} {v : Value} {n : Nat} {xs : List Value} {h : Heap} (k : RowO T s v n xs h) : xs.length = n * s := by
  rcases k with ⟨_, rfl, rfl⟩ | ⟨_, _, _, _, _, _, _, _, _, _, hl⟩
  · simp
  · exact hl

theorem Row.rowO (T s : Nat) (v : Value) (n : Nat) (xs : List Value) : Ent (Row T s v n xs) (RowO T s v n xs) := by
  refine Ent.of fun h k => ?_
  rcases k with k | ⟨g, cap, cur, hv, hg, hn, hc, hs, ht, hl⟩
  · exact .inl k
  · exact .inr ⟨g, 0, cap, cur, hv, hg, hn, hc, by omega, by simpa using ht, hl⟩

theorem RowO.nil (T s : Nat) : ∀ h, RowO T s (.slice none 0 0) 0 [] h := fun _ => .inl ⟨rfl, rfl, rfl⟩
theorem Ent.nilRowO (T s : Nat) (F : HP) : Ent F (RowO T s (.slice none 0 0) 0 [] * F) :=
  (Ent.nilRow T s F).trans (Ent.sep (Row.rowO _ _ _ _ _) (Ent.rfl' _))

theorem RowO.form {w0 w : World} {T s : Nat} {v : Value} {n : Nat} {xs : List Value} {F : HP} (h : St w0 (RowO T s v n xs * F) w) : ∃ a c, v = .slice a n c ∧ xs.length = n * s ∧ n ≤ c ∧ c ≤ maxLen := by
  obtain ⟨_, _, h1, _, _, _, _, hr, _⟩ := h.sat
  rcases hr with ⟨rfl, rfl, rfl⟩ | ⟨g, o, cap, cur, rfl, _, hn, hm, _, _, hl⟩
  · exact ⟨_, _, rfl, by simp, Nat.le_refl _, by simp [maxLen]⟩
  · exact ⟨_, _, rfl, hl, hn, hm⟩

theorem RowO.reads (T s : Nat) (v : Value) (n : Nat) (xs : List Value) : Ent (RowO T s v n xs) (Reads s v n xs) := by
  refine Ent.of fun h k => ⟨k.length, ?_⟩
  rcases k with ⟨rfl, rfl, rfl⟩ | ⟨g, o, cap, cur, rfl, hg, hn, hc, hs, ht, hl⟩
  · exact ⟨none, 0, rfl, Nat.le_refl _, .inl rfl⟩
  · refine ⟨_, _, rfl, hn, .inr ⟨g, o, cur, T, (0, 0), rfl, hg, fun j hj => ?_⟩⟩
    rw [← ht, List.getElem?_take, if_pos (by omega)]
    simp

/-- A part of it: what lies about it is given up. -/
theorem RowO.cut {T s n lo k m c : Nat} {a : Option Addr} {xs : List Value} (h1 : lo + k ≤ n) (h2 : lo + k ≤ m) (h3 : m ≤ c) :
    Ent (RowO T s (.slice a n c) n xs) (RowO T s (.slice (if m = lo then a else a.map (·.add (lo * s))) k (m - lo)) k ((xs.drop (lo * s)).take (k * s))) := by
  refine Ent.of fun hp hr => ?_
  rcases hr with ⟨hv, rfl, rfl⟩ | ⟨g, o, cap, cur, hv, hg, hn, hc, hs, ht, hl⟩
  · simp only [Value.slice.injEq, true_and] at hv
    obtain ⟨rfl, rfl⟩ := hv
    have : lo = 0 ∧ k = 0 ∧ m = 0 := by omega
    obtain ⟨rfl, rfl, rfl⟩ := this
    exact .inl ⟨by simp, rfl, by simp⟩
  · simp only [Value.slice.injEq, true_and] at hv
    obtain ⟨rfl, rfl⟩ := hv
    have hms : m * s ≤ c * s := Nat.mul_le_mul_right _ h3
    have hxs : (xs.drop (lo * s)).take (k * s) = (cur.toList.drop (o + lo * s)).take (k * s) := by
      rw [← ht, List.drop_take, List.take_take, List.drop_drop, Nat.min_eq_left]
      rw [← Nat.sub_mul]
      exact Nat.mul_le_mul_right _ (by omega)
    have hl2 : ((xs.drop (lo * s)).take (k * s)).length = k * s := by
      have : lo * s + k * s ≤ n * s := by rw [← Nat.add_mul]; exact Nat.mul_le_mul_right _ h1
      simp; omega
    by_cases hm : m = lo
    · subst hm
      have hk : k = 0 := by omega
      subst hk
      rw [if_pos rfl]
      exact .inr ⟨g, o, 0, cur, by simp, hg, Nat.le_refl _, by simp [maxLen], by simp; omega, by simp, by simp⟩
    · rw [if_neg hm]
      refine .inr ⟨g, o + lo * s, m - lo, cur, by simp [add_lit], hg, by omega, by omega, ?_, hxs.symm, hl2⟩
      rw [Nat.sub_mul]
      have : lo * s ≤ m * s := Nat.mul_le_mul_right _ (by omega)
      omega

/-- append, to a row of one's own, from whatever source. -/
theorem St.appendO {P : Program} {w0 w : World} {F : HP} {t tx ty e s bs : Nat} {zs : List Value} {v x : Value} {n m : Nat} {xs news : List Value} {K : Value → World → Prop} {θ : Tag K}
    (h : St w0 (RowO e s v n xs * F) w) (ht : rowTy P t = some (e, s, bs, zs)) (hs : Src P s tx x m news w) (h63 : n + m ≤ maxLen) (hb : (n + m) * bs ≤ 140737488355328)
    (hK : ∀ v' w', St w0 (RowO e s v' (n + m) (xs ++ news) * F) w' → K v' w') : semD P (kAppend #[t, tx] ty #[v, x]) w K θ := by
  show semD P (Builtin.append_ #[t, tx] ty #[v, x]) w K θ
  obtain ⟨hu, i, z, hi, hz, rfl, rfl, hzs, rfl⟩ := rowTy_some ht
  obtain ⟨hh, hl, h1, h2, hd, l1, l2, hr, hf⟩ := h.sat
  have hnl : xs.length = n * i.size := RowO.length hr
  have h63' : ((n + m : Nat) : Int) ≤ 9223372036854775807 := by simp only [maxLen] at h63; omega
  have grow : ∀ (base : Option Addr) (cap : Nat), v = .slice base n cap → cap < n + m → (Builtin.firstCells i.size n (.slice base n cap)).run P w.drew = .ok xs.toArray w.drew →
      semD P (Builtin.append_ #[t, tx] ty #[v, x]) w K θ := by
    intro base cap hv hc hold
    subst hv
    have := run_append_grow_src (P := P) w t tx ty e i z hu hi hz base n cap xs hold x m news hs hc h63' (growslice_fits hc hb)
    refine ⟨_, _, this, hK _ _ ?_⟩
    have hg := grownCap_ge w (n + m) cap e
    have hcm := grownCap_le_maxLen w (n + m) cap e h63
    have hst : St w0 F w.drew := (St.drew h).right
    refine (hst.alloc _).ent (Ent.sep (Ent.of fun k hk => .inr ⟨w.heap.size, 0, grownCap w (n + m) cap e, _, rfl, hk, hg, hcm, ?_, ?_, ?_⟩) (Ent.rfl' F))
    · simp only [Array.size_append, List.size_toArray, List.length_append, size_zeroCells, hzs, hnl, hs.newsLen, ← Nat.add_mul]
      rw [Nat.zero_add]
      refine Nat.le_of_eq ?_
      congr 1
      omega
    · have hlen : (xs ++ news).length = (n + m) * i.size := by rw [List.length_append, hnl, hs.newsLen, Nat.add_mul]
      simp only [Array.toList_append, List.drop_zero]
      rw [← hlen]
      exact List.take_left
    · rw [List.length_append, hnl, hs.newsLen, Nat.add_mul]
  rcases hr with ⟨rfl, rfl, rfl⟩ | ⟨g, o, cap, cur, rfl, hg, hnc, hcm, hcs, htake, _⟩
  · by_cases hm : m = 0
    · subst hm
      have hn : news = [] := List.eq_nil_of_length_eq_zero (by simpa using hs.newsLen)
      subst hn
      refine ⟨.slice none 0 0, w, ?_, hK _ _ h⟩
      rcases hs.kind with ⟨e', hk⟩ | hk <;>
        simp [Builtin.append_, run_underlying hu, run_underlying hk, sizeOf, typeInfo, hi, hs.len, hs.cells]
    · exact grow none 0 rfl (by omega) (by simp [Builtin.firstCells])
  · have hgw : w.heap[g]? = some (.cells cur e (0, 0)) := hl g _ (l1 g _ hg)
    by_cases hroom : n + m ≤ cap
    · have hle : (n + m) * i.size ≤ cap * i.size := Nat.mul_le_mul_right _ hroom
      have hfit : o + n * i.size + news.length ≤ cur.size := by rw [hs.newsLen]; rw [Nat.add_mul] at hle; omega
      have := run_append_room_src (P := P) w t tx ty e i hu hi g o n cap x m news hs hroom
        (fun j hj => by rw [cell_of_heap hgw]; simp [show o + n * i.size + j < cur.size by omega]) (fun j _ => frozen_of_heap hgw _)
      refine ⟨_, _, this, hK _ _ ?_⟩
      obtain ⟨a1, a2, a3, a4, a5, a6⟩ := heap_setCells g e (0, 0) news (o + n * i.size) w cur hgw
      refine h.turn (b := g) a4 a5 a6 (by omega) (fun k hk => ?_) (fun k hk _ => a2 k hk) ⟨fun k => if k = g then some (.cells (setRowL cur.toList (o + n * i.size) news).toArray e (0, 0)) else none, fun k o he => ?_, fun k o he => ?_, ?_⟩
      · rcases hk with ⟨hv, _⟩ | ⟨g', o', cap', cur', hv, hk, _⟩
        · cases hv
        · simp only [Value.slice.injEq, Option.some.injEq, Addr.mk.injEq] at hv
          obtain ⟨⟨rfl, rfl, _⟩, _⟩ := hv
          exact ⟨_, hk⟩
      · by_cases hkg : k = g <;> simp_all
      · by_cases hkg : k = g
        · subst hkg
          simp only [if_true] at he
          exact a1.trans he
        · simp [hkg] at he
      · refine .inr ⟨g, o, cap, (setRowL cur.toList (o + n * i.size) news).toArray, rfl, if_pos rfl, by omega, hcm, by simp [length_setRowL, hcs], ?_, ?_⟩
        · have := take_setRowL (vs := news) (cs := cur.toList) (o := o + n * i.size) (by simpa using hfit)
          have h2 := congrArg (List.drop o) this
          rw [List.drop_take, List.drop_append_of_le_length (by simp; omega), List.drop_take, show o + n * i.size + news.length - o = (n + m) * i.size by rw [hs.newsLen, Nat.add_mul]; omega, show o + n * i.size - o = n * i.size by omega, htake] at h2
          exact h2
        · rw [List.length_append, hnl, hs.newsLen, Nat.add_mul]
    · refine grow (some ⟨g, o, none⟩) cap rfl (by omega) ?_
      have hc : ∀ j u, xs[j]? = some u → w.drew.cell? ((⟨g, o, none⟩ : Addr).add j) = some u := by
        intro j u hu
        rw [add_lit]
        have : w.drew.cell? ⟨g, o + j, none⟩ = cur[o + j]? := cell_of_heap (w := w.drew) hgw (o + j)
        rw [this]
        rw [← htake, List.getElem?_take] at hu
        split at hu
        · simpa [List.getElem?_drop] using hu
        · cases hu
      exact run_firstCells_some w.drew i.size n ⟨g, o, none⟩ n cap xs hnl hc


/-- append where there is room: the slice keeps its place. -/
theorem St.appendIn {P : Program} {w0 w : World} {F : HP} {t tx ty e s bs : Nat} {zs : List Value} {a : Addr} {cap : Nat} {x : Value} {n m : Nat} {xs news : List Value} {K : Value → World → Prop} {θ : Tag K}
    (h : St w0 (RowO e s (.slice (some a) n cap) n xs * F) w) (ht : rowTy P t = some (e, s, bs, zs)) (hs : Src P s tx x m news w) (hroom : n + m ≤ cap)
    (hK : ∀ w', St w0 (RowO e s (.slice (some a) (n + m) cap) (n + m) (xs ++ news) * F) w' → K (.slice (some a) (n + m) cap) w') : semD P (kAppend #[t, tx] ty #[.slice (some a) n cap, x]) w K θ := by
  show semD P (Builtin.append_ #[t, tx] ty #[.slice (some a) n cap, x]) w K θ
  obtain ⟨hu, i, z, hi, hz, rfl, rfl, hzs, rfl⟩ := rowTy_some ht
  obtain ⟨hh, hl, h1, h2, hd, l1, l2, hr, hf⟩ := h.sat
  have hnl : xs.length = n * i.size := RowO.length hr
  rcases hr with ⟨hv, _, _⟩ | ⟨g, o, cap', cur, hv, hg, hnc, hcm, hcs, htake, _⟩
  · simp at hv
  simp only [Value.slice.injEq, Option.some.injEq, true_and] at hv
  obtain ⟨rfl, rfl⟩ := hv
  have hgw : w.heap[g]? = some (.cells cur e (0, 0)) := hl g _ (l1 g _ hg)
  have hle : (n + m) * i.size ≤ cap * i.size := Nat.mul_le_mul_right _ hroom
  have hfit : o + n * i.size + news.length ≤ cur.size := by rw [hs.newsLen]; rw [Nat.add_mul] at hle; omega
  have := run_append_room_src (P := P) w t tx ty e i hu hi g o n cap x m news hs hroom
    (fun j hj => by rw [cell_of_heap hgw]; simp [show o + n * i.size + j < cur.size by omega]) (fun j _ => frozen_of_heap hgw _)
  refine ⟨_, _, this, hK _ ?_⟩
  obtain ⟨a1, a2, a3, a4, a5, a6⟩ := heap_setCells g e (0, 0) news (o + n * i.size) w cur hgw
  refine h.turn (b := g) a4 a5 a6 (by omega) (fun k hk => ?_) (fun k hk _ => a2 k hk) ⟨fun k => if k = g then some (.cells (setRowL cur.toList (o + n * i.size) news).toArray e (0, 0)) else none, fun k o he => ?_, fun k o he => ?_, ?_⟩
  · rcases hk with ⟨hv, _⟩ | ⟨g', o', cap', cur', hv, hk, _⟩
    · cases hv
    · simp only [Value.slice.injEq, Option.some.injEq, Addr.mk.injEq] at hv
      obtain ⟨⟨rfl, rfl, _⟩, _⟩ := hv
      exact ⟨_, hk⟩
  · by_cases hkg : k = g <;> simp_all
  · by_cases hkg : k = g
    · subst hkg
      simp only [if_true] at he
      exact a1.trans he
    · simp [hkg] at he
  · refine .inr ⟨g, o, cap, (setRowL cur.toList (o + n * i.size) news).toArray, rfl, if_pos rfl, by omega, hcm, by simp [length_setRowL, hcs], ?_, ?_⟩
    · have := take_setRowL (vs := news) (cs := cur.toList) (o := o + n * i.size) (by simpa using hfit)
      have h2 := congrArg (List.drop o) this
      rw [List.drop_take, List.drop_append_of_le_length (by simp; omega), List.drop_take, show o + n * i.size + news.length - o = (n + m) * i.size by rw [hs.newsLen, Nat.add_mul]; omega, show o + n * i.size - o = n * i.size by omega, htake] at h2
      exact h2
    · rw [List.length_append, hnl, hs.newsLen, Nat.add_mul]

theorem mem_zeroCells {cs : Array Value} {n : Nat} {v : Value} (h : v ∈ (Builtin.zeroCells cs n).toList) : v ∈ cs.toList := by
  simp only [Builtin.zeroCells, Array.toList_map, List.mem_map] at h
  obtain ⟨i, hi, rfl⟩ := h
  have hpos : 0 < cs.size := by
    rcases Nat.eq_zero_or_pos cs.size with h0 | h0
    · simp [h0] at hi
    · exact h0
  have hlt := Nat.mod_lt i hpos
  rw [getElem!_pos cs _ hlt]
  simp

/-- clear behind the elements that count. -/
theorem St.clearTail {P : Program} {w0 w : World} {F : HP} {t ty e s bs : Nat} {zs : List Value} {g o cap n k m c : Nat} {xs : List Value} {K : Value → World → Prop} {θ : Tag K}
    (h : St w0 (RowO e s (.slice (some ⟨g, o, none⟩) n cap) n xs * F) w) (ht : rowTy P t = some (e, s, bs, zs)) (hz : ∀ v ∈ zs, isCell v = true) (hk : n ≤ k) (hm : k + m ≤ cap) (hm0 : 0 < m)
    (hK : ∀ w', St w0 (RowO e s (.slice (some ⟨g, o, none⟩) n cap) n xs * F) w' → K (.tuple #[]) w') : semD P (kClear #[t] ty #[.slice (some ⟨g, o + k * s, none⟩) m c]) w K θ := by
  show semD P (Builtin.clear_ #[t] ty #[.slice (some ⟨g, o + k * s, none⟩) m c]) w K θ
  obtain ⟨hu, i, z, hi, hzz, rfl, rfl, hzs, rfl⟩ := rowTy_some ht
  obtain ⟨hh, hl, h1, h2, hd, l1, l2, hr, hf⟩ := h.sat
  rcases hr with ⟨hv, _, _⟩ | ⟨g', o', cap', cur, hv, hg, hnc, hcm, hcs, htake, hxl⟩
  · simp at hv
  simp only [Value.slice.injEq, Option.some.injEq, Addr.mk.injEq, true_and, and_true] at hv
  obtain ⟨⟨rfl, rfl⟩, rfl⟩ := hv
  have hgw : w.heap[g]? = some (.cells cur e (0, 0)) := hl g _ (l1 g _ hg)
  have hzero : (zeroValue e).run P w = .ok z w := by
    simp only [zeroValue, Sem.run_bind, run_typeInfo' hi, hzz, Result.andThen_ok]; rfl
  have hlen : (Builtin.zeroCells z.cells m).toList.length = m * i.size := by rw [Array.length_toList, size_zeroCells, hzs]
  have hkm : (k + m) * i.size ≤ cap * i.size := Nat.mul_le_mul_right _ hm
  have hnk : n * i.size ≤ k * i.size := Nat.mul_le_mul_right _ hk
  rw [Nat.add_mul] at hkm
  have hst := run_storeCells_cells (P := P) g (o + k * i.size) (Builtin.zeroCells z.cells m).toList 0 w (fun j hj => by rw [cell_of_heap hgw]; simp; omega) (fun j _ => frozen_of_heap hgw _) (fun v hv => by rw [← isCell_eq]; exact hz v (mem_zeroCells hv))
  simp only [Nat.add_zero] at hst
  obtain ⟨m', rfl⟩ : ∃ m', m = m' + 1 := ⟨m - 1, by omega⟩
  refine ⟨.tuple #[], w.setCells g (o + k * i.size) (Builtin.zeroCells z.cells (m' + 1)).toList, ?_, hK _ ?_⟩
  · simp [Builtin.clear_, run_underlying hu, hzero, hst]
  · obtain ⟨a1, a2, a3, a4, a5, a6⟩ := heap_setCells g e (0, 0) (Builtin.zeroCells z.cells (m' + 1)).toList (o + k * i.size) w cur hgw
    refine h.turn (b := g) a4 a5 a6 (by omega) (fun k hk => ?_) (fun k hk _ => a2 k hk) ⟨fun k' => if k' = g then some (.cells (setRowL cur.toList (o + k * i.size) (Builtin.zeroCells z.cells (m' + 1)).toList).toArray e (0, 0)) else none, fun k o he => ?_, fun k o he => ?_, ?_⟩
    · rcases hk with ⟨hv, _⟩ | ⟨g', o', cap', cur', hv, hk, _⟩
      · cases hv
      · simp only [Value.slice.injEq, Option.some.injEq, Addr.mk.injEq] at hv
        obtain ⟨⟨rfl, rfl, _⟩, _⟩ := hv
        exact ⟨_, hk⟩
    · by_cases hkg : k = g <;> simp_all
    · by_cases hkg : k = g
      · subst hkg
        simp only [if_true] at he
        exact a1.trans he
      · simp [hkg] at he
    · refine .inr ⟨g, o, cap, (setRowL cur.toList (o + k * i.size) (Builtin.zeroCells z.cells (m' + 1)).toList).toArray, rfl, if_pos rfl, hnc, hcm, by simp [length_setRowL, hcs], ?_, hxl⟩
      rw [← htake]
      apply List.ext_getElem?
      intro j
      simp only [List.getElem?_take, List.getElem?_drop]
      split
      · exact getElem?_setRowL_lt _ _ _ _ (by omega)
      · rfl

end Go.Proofs.YtacmnfpgimgigaaGreat

namespace Go.Proofs.YtacmnfpgimgigaaGreat
open Go

/-- A block becomes another object. -/
theorem St.putObj {w0 w : World} {b : Nat} {o : Obj} {F : HP} (h : St w0 (Blk b o * F) w) (o' : Obj) : St w0 (Blk b o' * F) (w.putObj b o') := by
  have hb := h.blk
  have hlt := (Array.getElem?_eq_some_iff.1 hb).1
  exact h.blk_turn rfl rfl rfl (by simp) (World.putObj_heap_same hlt) fun k hk _ => World.putObj_heap_other hk

/-- A loop's record lies here. -/
def LoopHere (l : Nat) : HP := fun h => ∃ r, h l = some (.loop r)

/-- The yield of the loop l: handed an element, it goes on (J), or leaves (X). -/
def YieldsTo {α : Type} (P : Program) (w0 : World) (l : Nat) (Pass : α → Array Value → HP) (Ok : List α → Prop) (J X : List α → HP) : Prop :=
  ∀ (G : HP) (pre : List α) (x : α) (args : Array Value) (w : World), Ok (pre ++ [x]) → St w0 (J pre * (Pass x args * G)) w →
    YieldC P l args w fun e w' => (e = .returned (.bool true) ∧ St w0 (J (pre ++ [x]) * G) w') ∨ (e = .returned (.bool false) ∧ St w0 (X (pre ++ [x]) * G) w')

/-- How a round's body ends. -/
def roundQ (w0 : World) (A : HP) (B : Code → HP) : Post
  | .normal, _, w => St w0 A w
  | .ret, _, w => St w0 (B .ret) w
  | .exit id, _, w => St w0 (B (.exit id)) w
  | .goto t, _, w => St w0 (B (.goto t)) w
  | _, _, _ => False

section
variable {w0 w : World} {A : HP} {B : Code → HP} {e : FA}
theorem roundQ_normal : roundQ w0 A B .normal e w = St w0 A w := rfl
theorem roundQ_ret : roundQ w0 A B .ret e w = St w0 (B .ret) w := rfl
theorem roundQ_exit {i : Nat} : roundQ w0 A B (.exit i) e w = St w0 (B (.exit i)) w := rfl
theorem putArgs_nil {ps : List Tmp} : putArgs ps [] e = e := by cases ps <;> rfl
theorem putArgs_nil' {vs : List Value} : putArgs [] vs e = e := by cases vs <;> rfl
theorem putArgs_cons {p : Nat} {ps : List Tmp} {v : Value} {vs : List Value} : putArgs (p :: ps) (v :: vs) e = putArgs ps vs (e.put (some p) v) := rfl
theorem jumpP_ret {Q : Post} : jumpP Q (some .ret) e w = Q .ret e w := rfl
theorem jumpP_exit {Q : Post} {i : Nat} : jumpP Q (some (.exit i)) e w = Q (.exit i) e w := rfl
end

def EmpH : HP := fun _ => True
/-- What the loop's own code promises of one round. -/
def RoundOk {α : Type} (P : Program) (w0 : World) (e : FA) (ps : Array Tmp) (asg body : Cd) (Pass : α → Array Value → HP) (Ok : List α → Prop) (J : List α → HP) (X : Code → List α → HP) : Prop :=
  ∀ (l : Nat) (pre : List α) (x : α) (args : Array Value) (G : HP) (W : World), Ok (pre ++ [x]) → St w0 (J pre * (Pass x args * G)) W →
    args.size = ps.size ∧ cwRE P l asg (onlyP fun e1 W1 => St w0 (J pre * (Pass x args * G)) W1 ∧
      ∀ (G2 : HP) (W2 : World), Ent G2 (LoopHere l) → St w0 (J pre * (Pass x args * G2)) W2 → cwRE P l body (roundQ w0 (J (pre ++ [x]) * G2) fun c => X c (pre ++ [x]) * G2) e1 W2) (putArgs ps.toList args.toList { e with ds := [] }) W

/-- What the function that is ranged over promises, whatever the loop. -/
def IterOk {α : Type} (P : Program) (w0 : World) (gf : Nat) (lb : Array Value) (Pass : α → Array Value → HP) (Ok S : List α → Prop) (G G' : HP) : Prop :=
  ∀ (l : Nat) (w1 : World) (J X : List α → HP), YieldsTo P w0 l Pass Ok J X → St w0 (J [] * G) w1 →
    Calls P gf (#[.func (.yield l) #[] #[]] ++ lb) w1 fun e w' => (∃ v, e = .returned v) ∧ ((∃ xs, S xs ∧ St w0 (J xs * G') w') ∨ ∃ pre, St w0 (X pre * G') w')

theorem mk_yields {α : Type} {P : Program} {w0 : World} {e : FA} {ps : Array Tmp} {asg body : Cd} {Pass : α → Array Value → HP} {Ok : List α → Prop} {J : List α → HP} {X : Code → List α → HP} {l : Nat} {Rec : LoopState → Option Code → Obj} {Dp : HP}
    (hro : RoundOk P w0 e ps asg body Pass Ok J X)
    (hrec : LoopRec P l Rec fun args W R => args.size = ps.size ∧ cw P (some l) asg (onlyP fun e1 W1 => W1.heap[l]? = some (Rec .ready none) ∧
      cw P (some l) body (roundP l Rec R) e1 (W1.putObj l (Rec .busy none))) (putArgs ps.toList args.toList { e with ds := [] }) W) :
    YieldsTo P w0 l Pass Ok (fun pre => Blk l (Rec .ready none) * (Dp * J pre)) (fun pre => HP.ex fun c => Blk l (Rec .done (some c)) * (Dp * X c pre)) := by
  intro G pre x args w hok h
  simp only at h ⊢
  refine hrec.yield args w _ h.left.blk ?_
  have h1 : St w0 (J pre * (Pass x args * (Blk l (Rec .ready none) * (Dp * G)))) w := h.ac (by ac_rfl)
  obtain ⟨hsz, hcode⟩ := hro l pre x args _ w hok h1
  refine ⟨hsz, ?_⟩
  refine cw_of_cwD _ _ _ _ _ _ (fun ex e1 W1 hx => ?_) hcode
  cases ex with
  | normal =>
    obtain ⟨h2, hb⟩ := hx
    have h3 : St w0 (Blk l (Rec .ready none) * (J pre * (Pass x args * (Dp * G)))) W1 := h2.ac (by ac_rfl)
    refine ⟨h3.blk, ?_⟩
    have h4 := h3.putObj (Rec .busy none)
    have h5 : St w0 (J pre * (Pass x args * (Blk l (Rec .busy none) * (Dp * G)))) (W1.putObj l (Rec .busy none)) := h4.ac (by ac_rfl)
    have hl : Ent (Blk l (Rec .busy none) * (Dp * G)) (LoopHere l) := (Ent.left _ _).trans (Ent.of fun h hb => by
      obtain ⟨r, hr⟩ := hrec.isLoop .busy none
      exact ⟨r, by rw [← hr]; exact hb⟩)
    refine cw_of_cwD _ _ _ _ _ _ (fun ex e2 W2 hx => ?_) (hb _ _ hl h5)
    have stop : ∀ c, St w0 (X c (pre ++ [x]) * (Blk l (Rec .busy none) * (Dp * G))) W2 → W2.heap[l]? = some (Rec .busy none) ∧
        ((Ending.returned (.bool false) = .returned (.bool true) ∧ St w0 ((Blk l (Rec .ready none) * (Dp * J (pre ++ [x]))) * G) (W2.putObj l (Rec .done (some c)))) ∨
          (Ending.returned (.bool false) = .returned (.bool false) ∧ St w0 ((HP.ex fun c => Blk l (Rec .done (some c)) * (Dp * X c (pre ++ [x]))) * G) (W2.putObj l (Rec .done (some c))))) := fun c hx => by
      have h6 : St w0 (Blk l (Rec .busy none) * (Dp * X c (pre ++ [x]) * G)) W2 := hx.ac (by ac_rfl)
      refine ⟨h6.blk, .inr ⟨rfl, ?_⟩⟩
      have h7 := h6.putObj (Rec .done (some c))
      exact (h7.ac (by ac_rfl : _ = (Blk l (Rec .done (some c)) * (Dp * X c (pre ++ [x]))) * G)).ent (Ent.sep (Ent.ex (fun c => Blk l (Rec .done (some c)) * (Dp * X c (pre ++ [x]))) c) (Ent.rfl' _))
    cases ex with
    | normal =>
      have h6 : St w0 (Blk l (Rec .busy none) * (Dp * J (pre ++ [x]) * G)) W2 := St.ac hx (by ac_rfl)
      refine ⟨h6.blk, .inl ⟨rfl, ?_⟩⟩
      exact (h6.putObj (Rec .ready none)).ac (by ac_rfl)
    | ret => exact stop _ hx
    | exit i => exact stop _ hx
    | goto t => exact stop _ hx
    | panic c => exact hx.elim
    | outgrown => exact hx.elim
  | exit i => exact hx.elim
  | goto t => exact hx.elim
  | ret => exact hx.elim
  | panic c => exact hx.elim
  | outgrown => exact hx.elim

theorem range_intro {α : Type} {P : Program} {w0 w : World} {F G G' : HP} {e : FA} {g : Operand} {ps : Array Tmp} {asg body : Cd} {Q : Post} {θ : Tag ((.rangeFunc g ps asg body : Cd), Q, e, w)} (h : St w0 F w) {gf : Nat} {lb : Array Value}
    (hg : e.ev g = .func (.func gf) #[] lb) (hf : fnOk P gf = true) {Pass : α → Array Value → HP} {Ok S : List α → Prop} (J : List α → HP) (X : Code → List α → HP) (h0 : Ent F (J [] * G))
    (hround : RoundOk P w0 e ps asg body Pass Ok J X) (hcall : IterOk P w0 gf lb Pass Ok S G G')
    (hdone : ∀ (D : Nat) (xs : List α) (w' : World), S xs → St w0 (Blk D (.deferred (some [])) * (J xs * G')) w' → Q .normal { e with ds := { target := .collected D, args := #[] } :: e.ds } w')
    (hstop : ∀ (D : Nat) (c : Code) (pre : List α) (w' : World), St w0 (Blk D (.deferred (some [])) * (X c pre * G')) w' → jumpP Q (some c) { e with ds := { target := .collected D, args := #[] } :: e.ds } w') :
    cwE P (.rangeFunc g ps asg body) Q e w θ := by
  refine ⟨fun l h => (by cases h), gf, lb, hg, hf, fun Rec hrec => ?_⟩
  have h1 := (h.ent h0).alloc (.deferred (some []))
  have h2 := h1.alloc (Rec .ready none)
  have hs : (w.alloc (.deferred (some []))).heap.size = w.heap.size + 1 := World.size_alloc _ _
  rw [hs] at h2
  have hy := mk_yields (Dp := Blk w.heap.size (.deferred (some []))) hround hrec
  refine (hcall _ _ _ _ hy (h2.ac ?_)).mono ?_
  · simp only [loopAt]; ac_rfl
  · rintro ex W ⟨⟨v, rfl⟩, hq⟩
    rcases hq with ⟨xs, hS, hq⟩ | ⟨pre, hq⟩
    · have h3 : St w0 (Blk (w.heap.size + 1) (Rec .ready none) * (Blk w.heap.size (.deferred (some [])) * (J xs * G'))) W := hq.ac (by simp only [loopAt]; ac_rfl)
      exact ⟨.ready, none, h3.blk, by simp, hdone _ xs _ hS (h3.putObj (Rec .exhausted none)).right⟩
    · have hq := hq
      obtain ⟨c, hq⟩ := St.exF hq
      have h3 : St w0 (Blk (w.heap.size + 1) (Rec .done (some c)) * (Blk w.heap.size (.deferred (some [])) * (X c pre * G'))) W := hq.ac (by simp only [loopAt]; ac_rfl)
      exact ⟨.done, some c, h3.blk, by simp, hstop _ c pre _ (h3.putObj (Rec .exhausted (some c))).right⟩

/-- .. in a round of another loop. -/
theorem range_introR {α : Type} {P : Program} {w0 w : World} {F G G' : HP} {e : FA} {l0 : Nat} {g : Operand} {ps : Array Tmp} {asg body : Cd} {Q : Post} {θ : Tag ((.rangeFunc g ps asg body : Cd), Q, e, w)} (h : St w0 F w) (hl0 : Ent F (LoopHere l0)) {gf : Nat} {lb : Array Value}
    (hg : e.ev g = .func (.func gf) #[] lb) (hf : fnOk P gf = true) {Pass : α → Array Value → HP} {Ok S : List α → Prop} (J : List α → HP) (X : Code → List α → HP) (h0 : Ent F (J [] * G))
    (hround : RoundOk P w0 e ps asg body Pass Ok J X) (hcall : IterOk P w0 gf lb Pass Ok S G G')
    (hdone : ∀ (xs : List α) (w' : World), S xs → St w0 (J xs * G') w' → Q .normal e w')
    (hstop : ∀ (c : Code) (pre : List α) (w' : World), St w0 (X c pre * G') w' → jumpP Q (some c) e w') :
    cwRE P l0 (.rangeFunc g ps asg body) Q e w θ := by
  refine ⟨fun l hl => ?_, gf, lb, hg, hf, fun Rec hrec => ?_⟩
  · simp only [Option.some.injEq] at hl
    subst hl
    obtain ⟨y, ly, r, hr⟩ := (h.ent hl0).sat
    exact ⟨r, ly _ _ hr⟩
  have h2 := (h.ent h0).alloc (Rec .ready none)
  have hy := mk_yields (Dp := EmpH) hround hrec
  have hE : ∀ (A : HP), Ent A (EmpH * A) := fun A => Ent.of fun h a => ⟨fun _ => none, h, fun _ => .inl rfl, (fun _ _ e => by cases e), hle.rfl' h, trivial, a⟩
  refine (hcall _ _ _ _ hy ((h2.ent (Ent.sep (Ent.rfl' _) (hE _))).ac ?_)).mono ?_
  · simp only [loopAt]; ac_rfl
  · rintro ex W ⟨⟨v, rfl⟩, hq⟩
    have hds : ∀ e : FA, ({ e with ds := (loopAt (some l0) w Rec).2.2 ++ e.ds } : FA) = e := fun e => rfl
    rcases hq with ⟨xs, hS, hq⟩ | ⟨pre, hq⟩
    · have h3 : St w0 (Blk w.heap.size (Rec .ready none) * (EmpH * (J xs * G'))) W := hq.ac (by simp only [loopAt]; ac_rfl)
      refine ⟨.ready, none, h3.blk, by simp, ?_⟩
      rw [hds]
      exact hdone xs _ hS (h3.putObj (Rec .exhausted none)).right.right
    · have hq := hq
      obtain ⟨c, hq⟩ := St.exF hq
      have h3 : St w0 (Blk w.heap.size (Rec .done (some c)) * (EmpH * (X c pre * G'))) W := hq.ac (by simp only [loopAt]; ac_rfl)
      refine ⟨.done, some c, h3.blk, by simp, ?_⟩
      rw [hds]
      exact hstop c pre _ (h3.putObj (Rec .exhausted (some c))).right.right

/-- A mark among the deferred calls, at a function's end. -/
theorem St.mark {P : Program} {w0 w : World} {D : Nat} {F : HP} {asg : Array Value} {ds : List Deferred} {A : World → Prop} (h : St w0 (Blk D (.deferred (some [])) * F) w) (hA : ∀ w', St w0 (Blk D (.deferred none) * F) w' → retD P ds A w') : retD P ({ target := .collected D, args := asg } :: ds) A w :=
  ⟨D, rfl, h.blk, hA _ (h.putObj _)⟩

theorem St.mark1 {P : Program} {w0 w : World} {D : Nat} {F : HP} {ar : Array Value} {A : World → Prop} (h : St w0 (Blk D (.deferred (some [])) * F) w) (hA : ∀ w', St w0 (Blk D (.deferred none) * F) w' → A w') : retD P [{ target := .collected D, args := ar }] A w :=
  St.mark h hA

attribute [go_sem ↓] roundQ_normal
attribute [go_sem ↓] roundQ_ret
attribute [go_sem ↓] roundQ_exit
attribute [go_sem] putArgs_nil
attribute [go_sem] putArgs_nil'
attribute [go_sem] putArgs_cons
attribute [go_sem] jumpP_ret
attribute [go_sem] jumpP_exit

end Go.Proofs.YtacmnfpgimgigaaGreat

namespace Go.Proofs.YtacmnfpgimgigaaGreat
open Go
set_option linter.unusedSimpArgs false
set_option linter.unusedVariables false
set_option maxRecDepth 100000

/-- Who, and whether alone. -/
abbrev Claim := Int × Bool
def clC (c : Claim) : List Value := [.int .i64 c.1, .bool c.2]
def clR : List Claim → List Value
  | [] => []
  | c :: l => .int .i64 c.1 :: .bool c.2 :: clR l
theorem clR_length : ∀ l : List Claim, (clR l).length = l.length * 2
  | [] => rfl
  | c :: l => by simp only [clR, List.length_cons, clR_length l]; omega
theorem clR_app : ∀ l m : List Claim, clR (l ++ m) = clR l ++ clR m
  | [], m => rfl
  | c :: l, m => by simp [clR, clR_app l m]
theorem clR_drop : ∀ (i : Nat) (l : List Claim), (clR l).drop (i * 2) = clR (l.drop i)
  | 0, l => by simp
  | i + 1, [] => by simp [clR]
  | i + 1, c :: l => by rw [show (i + 1) * 2 = i * 2 + 1 + 1 by omega]; simp [clR, clR_drop i l]
theorem clR_take : ∀ (i : Nat) (l : List Claim), (clR l).take (i * 2) = clR (l.take i)
  | 0, l => by simp [clR]
  | i + 1, [] => by simp [clR]
  | i + 1, c :: l => by rw [show (i + 1) * 2 = i * 2 + 1 + 1 by omega]; simp [clR, clR_take i l]
theorem clR_cells (l : List Claim) : ∀ v ∈ clR l, isCell v = true := by
  induction l with
  | nil => simp [clR]
  | cons c l ih => simp only [clR, List.mem_cons]; rintro v (rfl | rfl | h); (· rfl); (· rfl); exact ih v h
theorem clR_at {l : List Claim} {i : Nat} (h : i < l.length) : (clR l)[i * 2]? = some (.int .i64 (l[i]).1) ∧ (clR l)[i * 2 + 1]? = some (.bool (l[i]).2) := by
  have e : clR l = clR (l.take i) ++ clR (l.drop i) := by rw [← clR_app, List.take_append_drop]
  have hl : (clR (l.take i)).length = i * 2 := by rw [clR_length, List.length_take]; omega
  rw [e, List.getElem?_append_right (by omega), List.getElem?_append_right (by omega), hl, Nat.sub_self, show i * 2 + 1 - i * 2 = 1 by omega, List.drop_eq_getElem_cons h]
  exact ⟨rfl, rfl⟩

theorem addr_row {w : World} {b o : Nat} {x y : Value} (h0 : w.cell? ⟨b, o, none⟩ = some x) (h1 : w.cell? ⟨b, o + 1, none⟩ = some y) : rowV w ⟨b, o, none⟩ 2 = some (.agg #[x, y]) := by
  simp only [rowV, cellsFrom, add_lit, Nat.add_zero, h0, h1, Option.map_some]

/-- A claim of a row is read. -/
theorem claimAt {w0 w : World} {v : Value} {n : Nat} {l : List Claim} (h : St w0 (Reads 2 v n (clR l)) w) : n = l.length ∧ ∃ a c, v = .slice a n c ∧ n ≤ c ∧ ∀ i (hi : i < l.length), ∃ b o, a = some ⟨b, o, none⟩ ∧
    rowV w ⟨b, o + i * 2, none⟩ 2 = some (.agg #[.int .i64 (l[i]).1, .bool (l[i]).2]) ∧ w.cell? ⟨b, o + i * 2, none⟩ = some (.int .i64 (l[i]).1) ∧ w.cell? ⟨b, o + i * 2 + 1, none⟩ = some (.bool (l[i]).2) := by
  have r := h.rd
  have hn : n = l.length := by have := r.length; rw [clR_length] at this; omega
  obtain ⟨a, c, rfl, hnc, hr⟩ := r.form
  refine ⟨hn, a, c, rfl, hnc, fun i hi => ?_⟩
  rcases hr with hr | ⟨b, o, rfl, hr⟩
  · have := congrArg List.length hr
    rw [clR_length, List.length_nil] at this
    omega
  · obtain ⟨q0, q1⟩ := clR_at hi
    have h0 := hr (i * 2) (by rw [clR_length]; omega)
    have h1 := hr (i * 2 + 1) (by rw [clR_length]; omega)
    rw [q0] at h0
    rw [q1, ← Nat.add_assoc] at h1
    exact ⟨b, o, rfl, addr_row h0 h1, h0, h1⟩

/-- Where somebody's claim is. -/
def posC (who : Int) : List Claim → Nat → Int
  | [], _ => -1
  | c :: l, i => if c.1 = who then i else posC who l (i + 1)

theorem Ent.blkE (b : Nat) (o : Obj) : Ent (Blk b o) (Blk b o * EmpH) := fun h hb => ⟨h, hle.rfl' h, h, fun _ => none, fun _ => .inr rfl, hle.rfl' h, (fun _ _ e => by cases e), hb, trivial⟩


theorem isWho_any {w0 w : World} {F : HP} {p : Nat} {T : TypeId} {who x : Int} {y : Bool} (h : St w0 F w) (hp : Ent F (Blk p (.cells #[.int .i64 who] T (0, 0)))) :
    Calls Tryz.prog 64 #[.agg #[.int .i64 x, .bool y], .pointer (some ⟨p, 0, none⟩)] w fun e w' => St w0 F w' ∧ e = .returned (.bool (decide (x = who))) := by
  refine F64.calls (by simp) ?_
  unfold F64.code
  simp -dsimp -implicitDefEqProofs (disch := omega) only [go_sem, reqD_of, dec_t, dec_f, wrap_i64, wrap_u32, wrap_u64, wrap_u8]
  refine h.new fun B w1 h1 => ?_
  have hc := h1.cells
  have hq := (((h1.right.ent (Ent.trans hp (Ent.rfl' _))).ent (Ent.blkE _ _))).blk
  have hq0 := cell_of_heap hq 0
  simp -dsimp -implicitDefEqProofs (disch := omega) only [go_sem, reqD_of, dec_t, dec_f, wrap_i64, wrap_u32, wrap_u64, wrap_u8, hc, hq0]
  exact h1.right

section
attribute [local go_sem] F63.t6_eq F63.t3_eq F63.t7_eq
theorem index_gen {w0 w : World} {F : HP} {g p : Nat} {who : Int} {v : Value} {n : Nat} {l : List Claim} (hg : fnOk Tryz.prog g = true)
    (hcall : ∀ {w : World} {x : Int} {y : Bool}, St w0 F w → Calls Tryz.prog g #[.agg #[.int .i64 x, .bool y], .pointer (some ⟨p, 0, none⟩)] w fun e w' => St w0 F w' ∧ e = .returned (.bool (decide (x = who)))) (h : St w0 F w) (hr : Ent F (Reads 2 v n (clR l))) (hl : l.length < 1099511627776) :
    Calls Tryz.prog 63 #[v, .func (.func g) #[] #[.pointer (some ⟨p, 0, none⟩)]] w fun e w' => St w0 F w' ∧ e = .returned (.int .i64 (posC who l 0)) := by
  obtain ⟨rfl, a, c, rfl, hnc, _⟩ := claimAt (h.ent hr)
  refine F63.calls (by simp) ?_
  unfold F63.code
  simp -dsimp -implicitDefEqProofs (disch := omega) only [go_sem, reqD_of, dec_t, dec_f, wrap_i64, wrap_u32, wrap_u64, wrap_u8]
  refine loop_intro (fun e w' => St w0 F w' ∧ e.ds = [] ∧ e.ρ 0 = .slice a l.length c ∧ e.ρ 1 = .func (.func g) #[] #[.pointer (some ⟨p, 0, none⟩)] ∧ e.ρ 7 = .int .i64 l.length ∧ ∃ i : Nat, i ≤ l.length ∧ e.ρ 8 = .int .i64 i ∧ posC who l 0 = posC who (l.drop i) i)
    (fun e _ => match e.ρ 8 with | .int _ n => (l.length - n).toNat | _ => 0) ?_ ?_
  · exact ⟨h, rfl, by simp -dsimp -implicitDefEqProofs only [go_sem], by simp -dsimp -implicitDefEqProofs only [go_sem], by simp -dsimp -implicitDefEqProofs only [go_sem], 0, by omega, rfl, rfl⟩
  rintro e w1 ⟨h1, hd, e0, e1, e7, i, hi, e8, hpos⟩
  by_cases hlt : (i : Int) < l.length
  case neg =>
    have : i = l.length := by omega
    subst this
    simp -dsimp -implicitDefEqProofs (disch := omega) only [go_sem, reqD_of, dec_t, dec_f, wrap_i64, wrap_u32, wrap_u64, wrap_u8, hd, e0, e1, e7, e8, hlt]
    exact ⟨h1, by rw [hpos, List.drop_length]; rfl⟩
  have hil : i < l.length := by omega
  obtain ⟨_, a', c', hv, _, hcl⟩ := claimAt (h1.ent hr)
  simp only [Value.slice.injEq, true_and] at hv
  obtain ⟨rfl, rfl⟩ := hv
  obtain ⟨b, o, rfl, hrow, _, _⟩ := hcl i hil
  rw [List.drop_eq_getElem_cons hil] at hpos
  simp -dsimp -implicitDefEqProofs (disch := omega) only [go_sem, reqD_of, dec_t, dec_f, wrap_i64, wrap_u32, wrap_u64, wrap_u8, hd, e0, e1, e7, e8, hlt, hrow, callY_clos, hg]
  refine (hcall h1).mono ?_
  rintro e' w2 ⟨h2, rfl⟩
  by_cases hw : (l[i]).1 = who
  · simp -dsimp -implicitDefEqProofs (disch := omega) only [go_sem, reqD_of, dec_t, dec_f, wrap_i64, wrap_u32, wrap_u64, wrap_u8, hd, e0, e1, e7, e8, hw]
    exact ⟨h2, by rw [hpos]; simp [posC, hw]⟩
  · simp -dsimp -implicitDefEqProofs (disch := omega) only [go_sem, reqD_of, dec_t, dec_f, wrap_i64, wrap_u32, wrap_u64, wrap_u8, hd, e0, e1, e7, e8, hw]
    refine ⟨⟨h2, i + 1, by omega, by simp, ?_⟩, by omega⟩
    rw [hpos]; simp [posC, hw]

theorem index_any {w0 w : World} {F : HP} {p : Nat} {T : TypeId} {who : Int} {v : Value} {n : Nat} {l : List Claim} (h : St w0 F w) (hp : Ent F (Blk p (.cells #[.int .i64 who] T (0, 0)))) (hr : Ent F (Reads 2 v n (clR l))) (hl : l.length < 1099511627776) :
    Calls Tryz.prog 63 #[v, .func (.func 64) #[] #[.pointer (some ⟨p, 0, none⟩)]] w fun e w' => St w0 F w' ∧ e = .returned (.int .i64 (posC who l 0)) :=
  index_gen fact_fnOk_64 (fun h => isWho_any h hp) h hr hl

end
end Go.Proofs.YtacmnfpgimgigaaGreat

namespace Go.Proofs.YtacmnfpgimgigaaGreat
open Go
set_option linter.unusedSimpArgs false
set_option linter.unusedVariables false
set_option maxRecDepth 100000

def LkQ (b : Nat) (v1 v2 : Value) (hs q : List Claim) : HP := Blk b (.cells #[v1, v2] 73 (0, 0)) * (RowO 76 2 v1 hs.length (clR hs) * RowO 76 2 v2 q.length (clR q))

theorem LkQ.blk {w0 w : World} {b : Nat} {v1 v2 : Value} {hs q : List Claim} {F : HP} (h : St w0 (LkQ b v1 v2 hs q * F) w) (i : Nat) : w.cell? ⟨b, i, none⟩ = (#[v1, v2] : Array Value)[i]? :=
  (h.ac (show LkQ b v1 v2 hs q * F = Blk b (.cells #[v1, v2] 73 (0, 0)) * (RowO 76 2 v1 hs.length (clR hs) * RowO 76 2 v2 q.length (clR q) * F) by unfold LkQ; ac_rfl)).cells i
theorem LkQ.held (b : Nat) (v1 v2 : Value) (hs q : List Claim) (F : HP) : Ent (LkQ b v1 v2 hs q * F) (Reads 2 v1 hs.length (clR hs)) :=
  (Ent.left _ _).trans ((Ent.right _ _).trans ((Ent.left _ _).trans (RowO.reads _ _ _ _ _)))
theorem LkQ.queue (b : Nat) (v1 v2 : Value) (hs q : List Claim) (F : HP) : Ent (LkQ b v1 v2 hs q * F) (Reads 2 v2 q.length (clR q)) :=
  (Ent.left _ _).trans ((Ent.right _ _).trans ((Ent.right _ _).trans (RowO.reads _ _ _ _ _)))


theorem holds_any {w0 w : World} {F : HP} {b : Nat} {v1 v2 : Value} {hs q : List Claim} {who : Int} (h : St w0 (LkQ b v1 v2 hs q * F) w) (hl : hs.length < 1099511627776) :
    Calls Tryz.prog 37 #[.pointer (some ⟨b, 0, none⟩), .int .i64 who] w fun e w' => St w0 (LkQ b v1 v2 hs q * F) w' ∧ e = .returned (.int .i64 (posC who hs 0)) := by
  refine F37.calls (by simp) ?_
  unfold F37.code
  simp -dsimp -implicitDefEqProofs (disch := omega) only [go_sem, reqD_of, dec_t, dec_f, wrap_i64, wrap_u32, wrap_u64, wrap_u8]
  refine h.new fun B w1 h1 => ?_
  have hc := LkQ.blk h1.right
  have hc0 := hc 0
  simp -dsimp -implicitDefEqProofs (disch := omega) only [go_sem, reqD_of, dec_t, dec_f, wrap_i64, wrap_u32, wrap_u64, wrap_u8, hc]
  refine (index_any h1 (T := 3) (Ent.left _ _) ((Ent.right _ _).trans (LkQ.held _ _ _ _ _ _)) hl).mono ?_
  rintro e w2 ⟨h2, rfl⟩
  simp -dsimp -implicitDefEqProofs (disch := omega) only [go_sem, reqD_of, dec_t, dec_f, wrap_i64, wrap_u32, wrap_u64, wrap_u8]
  exact h2.right

/-- Is one let in beside those who hold it? -/
def letsB : List Claim → Bool → Bool
  | [], _ => true
  | c :: _, a => !a && !c.2


theorem lets_any {w0 w : World} {F : HP} {b : Nat} {v1 v2 : Value} {hs q : List Claim} {al : Bool} (h : St w0 (LkQ b v1 v2 hs q * F) w) :
    Calls Tryz.prog 38 #[.pointer (some ⟨b, 0, none⟩), .bool al] w fun e w' => St w0 (LkQ b v1 v2 hs q * F) w' ∧ e = .returned (.bool (letsB hs al)) := by
  refine F38.calls (by simp) ?_
  unfold F38.code
  have hc := LkQ.blk h
  obtain ⟨_, a, c, rfl, hnc, hcl⟩ := claimAt (h.ent (LkQ.held _ _ _ _ _ _))
  rcases hs with _ | ⟨x, hs⟩
  · simp -dsimp -implicitDefEqProofs (disch := omega) only [go_sem, reqD_of, dec_t, dec_f, wrap_i64, wrap_u32, wrap_u64, wrap_u8, hc, List.length_nil]
    exact ⟨h, rfl⟩
  · obtain ⟨g, o, rfl, _, _, hx⟩ := hcl 0 (by simp)
    simp only [Nat.zero_mul, Nat.add_zero, List.getElem_cons_zero] at hx
    have hne : ¬ ((x :: hs).length : Int) = 0 := by simp only [List.length_cons]; omega
    have hlt : (0 : Int) < ((x :: hs).length : Int) := by simp only [List.length_cons]; omega
    cases al
    · simp -dsimp -implicitDefEqProofs (disch := omega) only [go_sem, reqD_of, dec_t, dec_f, wrap_i64, wrap_u32, wrap_u64, wrap_u8, hc, hx, hne, hlt]
      exact ⟨h, by simp [letsB]⟩
    · simp -dsimp -implicitDefEqProofs (disch := omega) only [go_sem, reqD_of, dec_t, dec_f, wrap_i64, wrap_u32, wrap_u64, wrap_u8, hc, hx, hne, hlt]
      exact ⟨h, by simp [letsB]⟩

section
attribute [local go_sem] F40.t4_eq
theorem delete_any {w0 w : World} {F : HP} {v : Value} {l : List Claim} {i : Nat} (h : St w0 (RowO 76 2 v l.length (clR l) * F) w) (hi : i < l.length) (hl : l.length < 1099511627776) :
    Calls Tryz.prog 40 #[v, .int .i64 i, .int .i64 ((i : Int) + 1)] w fun e w' => ∃ v', St w0 (RowO 76 2 v' (l.eraseIdx i).length (clR (l.eraseIdx i)) * F) w' ∧ e = .returned v' := by
  obtain ⟨a, c, rfl, _, hnc, hcm⟩ := RowO.form h
  obtain ⟨_, a', c', hv, _, hcl⟩ := claimAt (h.left.ent (RowO.reads _ _ _ _ _))
  simp only [Value.slice.injEq, true_and] at hv
  obtain ⟨rfl, rfl⟩ := hv
  obtain ⟨g, o, rfl, _⟩ := hcl i hi
  refine F40.calls (by simp) ?_
  unfold F40.code
  have e1 : ((i : Int) + 1).toNat = i + 1 := by omega
  have r2 := (h.drew.left.ent (RowO.reads _ _ _ _ _)).ent (Reads.sub (lo := i + 1) (k := l.length - (i + 1)) (by omega))
  rw [clR_drop, clR_take, List.take_of_length_le (by simp)] at r2
  simp only [Option.map_some, add_lit] at r2
  have hcut := h.drew.ent (Ent.sep (RowO.cut (lo := 0) (k := i) (m := c) (by omega) (by omega) (Nat.le_refl _)) (Ent.rfl' _))
  simp only [Nat.zero_mul, Option.map_some, add_lit, Nat.add_zero, ite_self, Nat.sub_zero, List.drop_zero, clR_take] at hcut
  simp -dsimp -implicitDefEqProofs (disch := omega) only [go_sem, reqD_of, dec_t, dec_f, wrap_i64, wrap_u32, wrap_u64, wrap_u8]
  simp only [ite_self, Nat.sub_zero, e1]
  refine hcut.appendIn fact_rowTy_71 (r2.rd.src Tryz.underlying71 (clR_cells _) (fun hh => ?_)) (by omega) fun w1 h1 => ?_
  · have := congrArg List.length hh
    rw [clR_length, List.length_drop, List.length_nil] at this
    omega
  rw [← clR_app, ← List.eraseIdx_eq_take_drop_succ] at h1
  have hn : i + (l.length - (i + 1)) = l.length - 1 := by omega
  have hel : (l.eraseIdx i).length = l.length - 1 := by rw [List.length_eraseIdx, if_pos hi]
  rw [hn] at h1 ⊢
  simp -dsimp -implicitDefEqProofs (disch := omega) only [go_sem, reqD_of, dec_t, dec_f, wrap_i64, wrap_u32, wrap_u64, wrap_u8]
  rw [if_neg (by omega)]
  refine h1.clearTail fact_rowTy_71 (by intro v hv; simp only [List.mem_cons, List.not_mem_nil, or_false] at hv; rcases hv with rfl | rfl <;> rfl) (Nat.le_refl _) (by omega) (by omega) fun w2 h2 => ?_
  simp -dsimp -implicitDefEqProofs (disch := omega) only [go_sem, reqD_of, dec_t, dec_f, wrap_i64, wrap_u32, wrap_u64, wrap_u8]
  rw [hel]
  exact ⟨_, h2, rfl⟩

/-- The numbers of those who have claims. -/
def whoR (l : List Claim) : List Value := l.map fun c => .int .i64 c.1
def intR (l : List Int) : List Value := l.map fun n => .int .i64 n
theorem intR_cells (l : List Int) : ∀ v ∈ intR l, isCell v = true := by
  intro v hv
  obtain ⟨n, _, rfl⟩ := List.mem_map.1 hv
  rfl

end
section
attribute [local go_sem] F39.t6_eq F39.t4_eq F39.t7_eq
theorem whose_any {w0 w : World} {F : HP} {v : Value} {n : Nat} {l : List Claim} (h : St w0 F w) (hr : Ent F (Reads 2 v n (clR l))) (hl : l.length < 1099511627776) :
    Calls Tryz.prog 39 #[v] w fun e w' => ∃ v', St w0 (RowO 3 1 v' l.length (intR (l.map (·.1))) * F) w' ∧ e = .returned v' := by
  obtain ⟨rfl, a, c, rfl, hnc, _⟩ := claimAt (h.ent hr)
  refine F39.calls (by simp) ?_
  unfold F39.code
  simp -dsimp -implicitDefEqProofs (disch := omega) only [go_sem, reqD_of, dec_t, dec_f, wrap_i64, wrap_u32, wrap_u64, wrap_u8]
  refine loop_intro (fun e w' => e.ds = [] ∧ e.ρ 6 = .slice a l.length c ∧ e.ρ 7 = .int .i64 l.length ∧ ∃ (i : Nat) (v : Value), i ≤ l.length ∧ e.ρ 8 = .int .i64 i ∧ e.ρ 3 = v ∧ St w0 (RowO 3 1 v i (intR ((l.take i).map (·.1))) * F) w')
    (fun e _ => match e.ρ 8 with | .int _ n => (l.length - n).toNat | _ => 0) ?_ ?_
  · exact ⟨rfl, by simp -dsimp -implicitDefEqProofs only [go_sem], by simp -dsimp -implicitDefEqProofs only [go_sem], 0, _, by omega, rfl, rfl, h.ent (Ent.nilRowO 3 1 F)⟩
  rintro e w1 ⟨hd, e6, e7, i, v, hi, e8, e3, h1⟩
  by_cases hlt : (i : Int) < l.length
  case neg =>
    have : i = l.length := by omega
    subst this
    simp -dsimp -implicitDefEqProofs (disch := omega) only [go_sem, reqD_of, dec_t, dec_f, wrap_i64, wrap_u32, wrap_u64, wrap_u8, hd, e6, e7, e8, e3, hlt]
    rw [List.take_length] at h1
    exact ⟨_, h1, rfl⟩
  have hil : i < l.length := by omega
  obtain ⟨_, a', c', hv, _, hcl⟩ := claimAt (h1.right.ent hr)
  simp only [Value.slice.injEq, true_and] at hv
  obtain ⟨rfl, rfl⟩ := hv
  obtain ⟨b, o, rfl, hrow, _, _⟩ := hcl i hil
  simp -dsimp -implicitDefEqProofs (disch := omega) only [go_sem, reqD_of, dec_t, dec_f, wrap_i64, wrap_u32, wrap_u64, wrap_u8, hd, e6, e7, e8, e3, hlt, hrow]
  refine h1.new fun B w2 h2 => ?_
  simp -dsimp -implicitDefEqProofs (disch := omega) only [go_sem, reqD_of, dec_t, dec_f, wrap_i64, wrap_u32, wrap_u64, wrap_u8]
  refine h2.storeAll (cs := [.int .i64 (l[i]).1, .bool (l[i]).2]) rfl rfl (by intro v hv; simp only [List.mem_cons, List.not_mem_nil, or_false] at hv; rcases hv with rfl | rfl <;> rfl) fun w3 h3 => ?_
  have hc := h3.cells
  simp -dsimp -implicitDefEqProofs (disch := omega) only [go_sem, reqD_of, dec_t, dec_f, wrap_i64, wrap_u32, wrap_u64, wrap_u8, hc, e3]
  refine h3.buildSlice (s := 1) fact_rowTy_32 (cells := [.int .i64 (l[i]).1]) rfl (by decide) (by decide) fun v1 w4 h4 => ?_
  simp -dsimp -implicitDefEqProofs (disch := omega) only [go_sem, reqD_of, dec_t, dec_f, wrap_i64, wrap_u32, wrap_u64, wrap_u8, e3]
  have h5 := h4.ac (show _ = RowO 3 1 v i (intR ((l.take i).map (·.1))) * (Row 3 1 v1 1 [.int .i64 (l[i]).1] * (Blk B (.cells #[.int .i64 (l[i]).1, .bool (l[i]).2] 76 (0, 0)) * F)) by ac_rfl)
  refine h5.appendO fact_rowTy_32 (((h5.right.left.ent (Row.reads _ _ _ _ _)).rd).src Tryz.underlying32 (intR_cells [(l[i]).1]) (by simp)) (by simp [maxLen]; omega) (by omega) fun v2 w5 h6 => ?_
  simp -dsimp -implicitDefEqProofs (disch := omega) only [go_sem, reqD_of, dec_t, dec_f, wrap_i64, wrap_u32, wrap_u64, wrap_u8, hd, e6, e7, e8, e3]
  refine ⟨⟨i + 1, by omega, by omega, ?_⟩, by omega⟩
  have : intR ((l.take i).map (·.1)) ++ [Value.int .i64 (l[i]).1] = intR ((l.take (i + 1)).map (·.1)) := by
    rw [List.take_succ_eq_append_getElem hil]
    simp only [intR, List.map_append, List.map_cons, List.map_nil]
  rw [this] at h6
  exact ⟨by omega, rfl, h6.drop2.drop2⟩

theorem intAt {w0 w : World} {v : Value} {n : Nat} {l : List Int} (h : St w0 (Reads 1 v n (intR l)) w) : n = l.length ∧ ∃ a c, v = .slice a n c ∧ n ≤ c ∧ ∀ i (hi : i < l.length), ∃ b o, a = some ⟨b, o, none⟩ ∧ w.cell? ⟨b, o + i, none⟩ = some (.int .i64 l[i]) := by
  have r := h.rd
  have hn : n = l.length := by have := r.length; simp [intR] at this; omega
  obtain ⟨a, c, rfl, hnc, hr⟩ := r.form
  refine ⟨hn, a, c, rfl, hnc, fun i hi => ?_⟩
  rcases hr with hr | ⟨b, o, rfl, hr⟩
  · have := congrArg List.length hr
    simp [intR] at this
    subst this
    simp at hi
  · have h0 := hr i (by simpa [intR] using hi)
    rw [show (intR l)[i]? = some (.int .i64 l[i]) by simp [intR, hi]] at h0
    exact ⟨b, o, rfl, h0⟩

end
section
attribute [local go_sem] F16.t5_eq F16.t6_eq F16.t8_eq F16.t3_eq
theorem sameInts_any {w0 w : World} {F : HP} {va vb : Value} {na nb : Nat} {xs ys : List Int} (h : St w0 F w) (ha : Ent F (Reads 1 va na (intR xs))) (hb : Ent F (Reads 1 vb nb (intR ys))) (hl : xs.length < 9223372036854775807) :
    Calls Tryz.prog 16 #[va, vb] w fun e w' => St w0 F w' ∧ e = .returned (.bool (decide (xs = ys))) := by
  obtain ⟨rfl, pa, ca, rfl, _, _⟩ := intAt (h.ent ha)
  obtain ⟨rfl, pb, cb, rfl, _, _⟩ := intAt (h.ent hb)
  refine F16.calls (by simp) ?_
  unfold F16.code
  by_cases hlen : (xs.length : Int) = ys.length
  case neg =>
    simp -dsimp -implicitDefEqProofs only [go_sem, hlen]
    exact ⟨h, by rw [dec_f]; intro hx; exact hlen (by rw [hx])⟩
  simp -dsimp -implicitDefEqProofs only [go_sem, hlen]
  refine loop_intro (fun e w' => St w0 F w' ∧ e.ds = [] ∧ e.ρ 0 = .slice pa xs.length ca ∧ e.ρ 1 = .slice pb ys.length cb ∧ ∃ k : Nat, k ≤ xs.length ∧ e.ρ 5 = .int .i64 k ∧ xs.take k = ys.take k)
    (fun e _ => match e.ρ 5 with | .int _ n => (xs.length - n).toNat | _ => 0) ?_ ?_
  · exact ⟨h, rfl, by simp -dsimp -implicitDefEqProofs only [go_sem, hlen], by simp -dsimp -implicitDefEqProofs only [go_sem, hlen], 0, by omega, rfl, rfl⟩
  rintro e w1 ⟨h1, hd, e0, e1, k, hk, e5, hpre⟩
  have hlen' : xs.length = ys.length := by omega
  by_cases hlt : (k : Int) < xs.length
  case neg =>
    have : k = xs.length := by omega
    subst this
    simp -dsimp -implicitDefEqProofs only [go_sem, hlt, e0, e1, e5, hd]
    rw [List.take_length, hlen', List.take_length] at hpre
    exact ⟨h1, by rw [dec_t hpre]⟩
  have hka : k < xs.length := by omega
  have hkb : k < ys.length := by omega
  have h1' := h1.drew
  obtain ⟨_, qa, _, hv, _, hra1⟩ := intAt (h1'.ent ha)
  obtain ⟨_, qb, _, hv', _, hrb1⟩ := intAt (h1'.ent hb)
  simp only [Value.slice.injEq, true_and] at hv hv'
  obtain ⟨rfl, rfl⟩ := hv
  obtain ⟨rfl, rfl⟩ := hv'
  obtain ⟨ba, oa, rfl, hra⟩ := hra1 k hka
  obtain ⟨bb, ob, rfl, hrb⟩ := hrb1 k hkb
  by_cases hab : xs[k] = ys[k]
  · simp -dsimp -implicitDefEqProofs (disch := omega) only [go_sem, reqD_of, dec_t, dec_f, wrap_i64, wrap_u32, wrap_u64, wrap_u8, hlt, e0, e1, e5, hd, hra, hrb, hab]
    refine ⟨⟨h1', ⟨k + 1, by omega, by omega, ?_⟩⟩, by omega⟩
    rw [List.take_succ_eq_append_getElem hka, List.take_succ_eq_append_getElem hkb, hpre, hab]
  · simp -dsimp -implicitDefEqProofs (disch := omega) only [go_sem, reqD_of, dec_t, dec_f, wrap_i64, wrap_u32, wrap_u64, wrap_u8, hlt, e0, e1, e5, hd, hra, hrb, hab]
    refine ⟨h1', ?_⟩
    rw [dec_f]
    rintro rfl
    exact hab rfl

end
end Go.Proofs.YtacmnfpgimgigaaGreat

namespace Go.Proofs.YtacmnfpgimgigaaGreat
open Go

section assoc
variable {κ α β : Type} [DecidableEq κ]

def agt (x : κ) : List (κ × α) → Option α
  | [] => none
  | (y, v) :: l => if x = y then some v else agt x l
def aset (x : κ) (v : α) : List (κ × α) → List (κ × α)
  | [] => [(x, v)]
  | (y, u) :: l => if x = y then (x, v) :: l else (y, u) :: aset x v l
def adel (x : κ) : List (κ × α) → List (κ × α)
  | [] => []
  | (y, u) :: l => if x = y then l else (y, u) :: adel x l
def amap (f : α → β) (l : List (κ × α)) : List (κ × β) := l.map fun p => (p.1, f p.2)

omit [DecidableEq κ] in
theorem amap_keys (f : α → β) (l : List (κ × α)) : (amap f l).map (·.1) = l.map (·.1) := by simp only [amap, List.map_map]; rfl
theorem agt_amap (f : α → β) (x : κ) : ∀ l : List (κ × α), agt x (amap f l) = (agt x l).map f
  | [] => rfl
  | (y, v) :: l => by
    have ih := agt_amap f x l
    simp only [amap, List.map_cons, agt] at ih ⊢
    split
    · rfl
    · exact ih
theorem aset_amap (f : α → β) (x : κ) (v : α) : ∀ l : List (κ × α), aset x (f v) (amap f l) = amap f (aset x v l)
  | [] => rfl
  | (y, u) :: l => by
    have ih := aset_amap f x v l
    simp only [amap, List.map_cons, aset] at ih ⊢
    split
    · rfl
    · simp only [List.map_cons, ih]
theorem adel_amap (f : α → β) (x : κ) : ∀ l : List (κ × α), adel x (amap f l) = amap f (adel x l)
  | [] => rfl
  | (y, u) :: l => by
    have ih := adel_amap f x l
    simp only [amap, List.map_cons, adel] at ih ⊢
    split
    · rfl
    · simp only [List.map_cons, ih]
theorem lk_amap (f : α → Value) (x : κ) (l : List (κ × α)) : lk x (amap f l) = (agt x l).map f := by
  have : ∀ m : List (κ × Value), lk x m = agt x m := fun m => by
    induction m with
    | nil => rfl
    | cons p m ih => simp only [lk, agt, ih]
  rw [this, agt_amap]
theorem upd_amap (f : α → Value) (x : κ) (v : α) (l : List (κ × α)) : upd x (f v) (amap f l) = amap f (aset x v l) := by
  have : ∀ m : List (κ × Value), upd x (f v) m = aset x (f v) m := fun m => by
    induction m with
    | nil => rfl
    | cons p m ih => simp only [upd, aset, ih]
  rw [this, aset_amap]
theorem del_amap (f : α → Value) (x : κ) (l : List (κ × α)) : del x (amap f l) = amap f (adel x l) := by
  have : ∀ m : List (κ × Value), del x m = adel x m := fun m => by
    induction m with
    | nil => rfl
    | cons p m ih => simp only [del, adel, ih]
  rw [this, adel_amap]
/-- Where x is there already, a new value of the same face leaves the faces as they are. -/
theorem amap_aset_same (f : α → β) (x : κ) (u v : α) (hf : f u = f v) : ∀ l : List (κ × α), agt x l = some u → amap f (aset x v l) = amap f l
  | [], h => by cases h
  | (y, w) :: l, h => by
    simp only [agt, aset] at h ⊢
    split
    · rename_i hx
      rw [if_pos hx] at h
      simp only [Option.some.injEq] at h
      subst h
      simp [amap, hx, hf]
    · rename_i hx
      rw [if_neg hx] at h
      have := amap_aset_same f x u v hf l h
      simp only [amap, List.map_cons] at this ⊢
      rw [this]
theorem aset_same (x : κ) (v : α) : ∀ l : List (κ × α), agt x l = some v → aset x v l = l
  | [], h => by cases h
  | (y, w) :: l, h => by
    simp only [agt, aset] at h ⊢
    split
    · rename_i hx
      rw [if_pos hx] at h
      simp only [Option.some.injEq] at h
      subst h
      rw [hx]
    · rename_i hx
      rw [if_neg hx] at h
      rw [aset_same x v l h]
theorem aset_aset (x : κ) (u v : α) : ∀ l : List (κ × α), aset x v (aset x u l) = aset x v l
  | [] => by simp [aset]
  | (y, w) :: l => by
    simp only [aset]
    split
    · simp [aset]
    · rename_i hx
      simp only [aset, if_neg hx, aset_aset x u v l]
theorem agt_aset (x : κ) (v : α) : ∀ l : List (κ × α), agt x (aset x v l) = some v
  | [] => by simp [aset, agt]
  | (y, w) :: l => by
    simp only [aset]
    split
    · simp [agt]
    · rename_i hx
      simp only [agt, if_neg hx, agt_aset x v l]

/-- A star over a list. -/
def stars (A : κ × α → HP) : List (κ × α) → HP
  | [] => EmpH
  | p :: l => A p * stars A l
theorem stars_aset (A : κ × α → HP) (x : κ) (u v : α) : ∀ l : List (κ × α), agt x l = some u → stars A (aset x v l) = A (x, v) * stars A (adel x l)
  | [], h => by cases h
  | (y, w) :: l, h => by
    simp only [agt, aset, adel] at h ⊢
    split
    · rfl
    · rename_i hx
      rw [if_neg hx] at h
      simp only [stars, stars_aset A x u v l h]
      ac_rfl
theorem stars_open (A : κ × α → HP) (x : κ) (u : α) (l : List (κ × α)) (h : agt x l = some u) : stars A l = A (x, u) * stars A (adel x l) := by
  have := stars_aset A x u u l h
  rwa [aset_same x u l h] at this
theorem stars_new (A : κ × α → HP) (x : κ) (v : α) : ∀ l : List (κ × α), agt x l = none → stars A (aset x v l) = A (x, v) * stars A l
  | [], _ => rfl
  | (y, w) :: l, h => by
    simp only [agt, aset] at h ⊢
    split
    · rename_i hx
      rw [if_pos hx] at h
      cases h
    · rename_i hx
      rw [if_neg hx] at h
      simp only [stars, stars_new A x v l h]
      ac_rfl
end assoc

end Go.Proofs.YtacmnfpgimgigaaGreat

namespace Go.Proofs.YtacmnfpgimgigaaGreat
open Go
set_option linter.unusedSimpArgs false
set_option linter.unusedVariables false
set_option maxRecDepth 100000

/-- A lock's name: kind, connection, number. -/
abbrev Nam := Int × Int × Int
def namC (x : Nam) : List Value := [.int .u8 x.1, .int .i64 x.2.1, .int .u64 x.2.2]
abbrev namV (x : Nam) : Value := .agg (namC x).toArray
theorem flat26 : flatE Tryz.prog 40 = some [.int, .int, .int] := by kernel_rfl
theorem lawN : KeyLaw Tryz.prog 40 namV := by
  refine KeyLaw.agg flat26 fun x y => ?_
  simp only [namC, leafEq_ints, leafEq_nils, Option.map_some, Option.some.injEq]
  obtain ⟨a, b, c⟩ := x
  obtain ⟨a', b', c'⟩ := y
  rw [Bool.eq_iff_iff]
  simp
abbrev encI : Int → Value := fun n => .int .i64 n
theorem lawI : KeyLaw Tryz.prog 3 encI := KeyLaw.int Tryz.underlying3

/-- A need: a lock, alone or not. -/
abbrev Nee := Nam × Bool
def needC (n : Nee) : List Value := [.int .u8 n.1.1, .int .i64 n.1.2.1, .int .u64 n.1.2.2, .bool n.2]
abbrev needV (n : Nee) : Value := .agg (needC n).toArray
theorem needC_cells (n : Nee) : ∀ v ∈ needC n, isCell v = true := by
  intro v hv
  simp only [needC, List.mem_cons, List.not_mem_nil, or_false] at hv
  rcases hv with rfl | rfl | rfl | rfl <;> rfl
theorem namC_cells (n : Nam) : ∀ v ∈ namC n, isCell v = true := by
  intro v hv
  simp only [namC, List.mem_cons, List.not_mem_nil, or_false] at hv
  rcases hv with rfl | rfl | rfl <;> rfl

abbrev LkS := List Claim × List Claim
def LkP (b : Nat) (s : LkS) : HP := HP.ex fun p : Value × Value => LkQ b p.1 p.2 s.1 s.2
theorem LkQ.shut (b : Nat) (v1 v2 : Value) (hs q : List Claim) : Ent (LkQ b v1 v2 hs q) (LkP b (hs, q)) := Ent.ex (fun p : Value × Value => LkQ b p.1 p.2 hs q) (v1, v2)

def ptrV (p : Nat × LkS) : Value := .pointer (some ⟨p.1, 0, none⟩)
abbrev Ptrs := List (Nam × (Nat × LkS))
/-- The table with its two maps in hand. -/
def TabQ (B m1 m2 : Nat) (ps : Ptrs) (ws : List (Int × Nee)) : HP :=
  Blk B (.cells #[.map (some m1), .map (some m2)] 58 (0, 0)) * (MapP namV m1 (amap ptrV ps) * (MapP encI m2 (amap needV ws) * stars (fun p => LkP p.2.1 p.2.2) ps))
/-- A table: who holds each lock and waits for it; what each waits for. -/
def TabP (B : Nat) (ls : List (Nam × LkS)) (ws : List (Int × Nee)) : HP := HP.ex fun x : Nat × Nat × Ptrs => HP.fact (amap (·.2) x.2.2 = ls) (TabQ B x.1 x.2.1 x.2.2 ws)

theorem TabQ.shut (B m1 m2 : Nat) (ps : Ptrs) (ws : List (Int × Nee)) {ls : List (Nam × LkS)} (h : amap (·.2) ps = ls) : Ent (TabQ B m1 m2 ps ws) (TabP B ls ws) :=
  (Ent.fact h _).trans (Ent.ex (fun x : Nat × Nat × Ptrs => HP.fact (amap (·.2) x.2.2 = ls) (TabQ B x.1 x.2.1 x.2.2 ws)) (m1, m2, ps))
theorem TabP.open {w0 w : World} {B : Nat} {ls : List (Nam × LkS)} {ws : List (Int × Nee)} {F : HP} (h : St w0 (TabP B ls ws * F) w) : ∃ m1 m2 ps, amap (·.2) ps = ls ∧ St w0 (TabQ B m1 m2 ps ws * F) w := by
  obtain ⟨⟨m1, m2, ps⟩, h⟩ := h.exF
  obtain ⟨e, h⟩ := h.factF
  exact ⟨m1, m2, ps, e, h⟩

section tab
variable {w0 w : World} {F : HP} {B m1 m2 : Nat} {ps : Ptrs} {ws : List (Int × Nee)}
theorem TabQ.root (h : St w0 (TabQ B m1 m2 ps ws * F) w) (i : Nat) : w.cell? ⟨B, i, none⟩ = (#[.map (some m1), .map (some m2)] : Array Value)[i]? :=
  (h.ac (show TabQ B m1 m2 ps ws * F = Blk B (.cells #[.map (some m1), .map (some m2)] 58 (0, 0)) * (MapP namV m1 (amap ptrV ps) * (MapP encI m2 (amap needV ws) * stars (fun p => LkP p.2.1 p.2.2) ps) * F) by unfold TabQ; ac_rfl)).cells i
theorem TabQ.map1 : TabQ B m1 m2 ps ws * F = MapP namV m1 (amap ptrV ps) * (Blk B (.cells #[.map (some m1), .map (some m2)] 58 (0, 0)) * (MapP encI m2 (amap needV ws) * (stars (fun p => LkP p.2.1 p.2.2) ps * F))) := by unfold TabQ; ac_rfl
theorem TabQ.map2 : TabQ B m1 m2 ps ws * F = MapP encI m2 (amap needV ws) * (Blk B (.cells #[.map (some m1), .map (some m2)] 58 (0, 0)) * (MapP namV m1 (amap ptrV ps) * (stars (fun p => LkP p.2.1 p.2.2) ps * F))) := by unfold TabQ; ac_rfl
/-- All but the locks' own blocks. -/
def TabR (B m1 m2 : Nat) (ps : Ptrs) (ws : List (Int × Nee)) (x : Nam) : HP :=
  Blk B (.cells #[.map (some m1), .map (some m2)] 58 (0, 0)) * (MapP namV m1 (amap ptrV ps) * (MapP encI m2 (amap needV ws) * stars (fun p => LkP p.2.1 p.2.2) (adel x ps)))
theorem TabQ.lock {x : Nam} {b : Nat} {s : LkS} (h : agt x ps = some (b, s)) : TabQ B m1 m2 ps ws * F = LkP b s * (TabR B m1 m2 ps ws x * F) := by
  unfold TabQ TabR
  rw [stars_open _ x (b, s) ps h]
  ac_rfl
theorem TabQ.unlock {x : Nam} {b : Nat} {s s' : LkS} (h : agt x ps = some (b, s)) : LkP b s' * (TabR B m1 m2 ps ws x * F) = TabQ B m1 m2 (aset x (b, s') ps) ws * F := by
  unfold TabQ TabR
  rw [stars_aset _ x (b, s) (b, s') ps h, amap_aset_same ptrV x (b, s) (b, s') rfl ps h]
  ac_rfl
end tab

end Go.Proofs.YtacmnfpgimgigaaGreat

namespace Go.Proofs.YtacmnfpgimgigaaGreat
open Go
set_option linter.unusedSimpArgs false
set_option linter.unusedVariables false
set_option maxRecDepth 100000

theorem Ent.empL (F : HP) : Ent F (EmpH * F) := fun h hf => ⟨h, hle.rfl' h, fun _ => none, h, fun _ => .inl rfl, (fun _ _ e => by cases e), hle.rfl' h, trivial, hf⟩


theorem new_any {w0 w : World} {F : HP} (h : St w0 F w) : Calls Tryz.prog 5 #[] w fun e w' => ∃ B, St w0 (TabP B [] [] * F) w' ∧ e = .returned (.pointer (some ⟨B, 0, none⟩)) := by
  refine F5.calls (by simp) ?_
  unfold F5.code
  simp -dsimp -implicitDefEqProofs (disch := omega) only [go_sem, reqD_of, dec_t, dec_f, wrap_i64, wrap_u32, wrap_u64, wrap_u8]
  refine St.makeMap (enc := namV) h fun b1 w1 h1 => ?_
  simp -dsimp -implicitDefEqProofs (disch := omega) only [go_sem, reqD_of, dec_t, dec_f, wrap_i64, wrap_u32, wrap_u64, wrap_u8]
  refine St.makeMap (enc := encI) h1 fun b2 w2 h2 => ?_
  simp -dsimp -implicitDefEqProofs (disch := omega) only [go_sem, reqD_of, dec_t, dec_f, wrap_i64, wrap_u32, wrap_u64, wrap_u8]
  refine onV_of (v := .agg #[.map (some b1), .map (some b2)]) rfl ?_
  simp -dsimp -implicitDefEqProofs (disch := omega) only [go_sem, reqD_of, dec_t, dec_f, wrap_i64, wrap_u32, wrap_u64, wrap_u8]
  refine h2.new fun B w3 h3 => ?_
  simp -dsimp -implicitDefEqProofs (disch := omega) only [go_sem, reqD_of, dec_t, dec_f, wrap_i64, wrap_u32, wrap_u64, wrap_u8]
  refine ⟨B, ?_, rfl⟩
  refine (h3.ac (show _ = Blk B (.cells #[.map (some b1), .map (some b2)] 58 (0, 0)) * (MapP namV b1 [] * (MapP encI b2 [] * F)) by ac_rfl)).ent ?_
  refine Ent.trans ?_ (Ent.sep (TabQ.shut B b1 b2 [] [] rfl) (Ent.rfl' F))
  unfold TabQ
  have : ∀ A B' C F : HP, Ent (A * (B' * (C * F))) ((A * (B' * (C * EmpH))) * F) := fun A B' C F => by
    rw [show A * (B' * (C * EmpH)) * F = A * (B' * (C * (EmpH * F))) by ac_rfl]
    exact Ent.sep (Ent.rfl' _) (Ent.sep (Ent.rfl' _) (Ent.sep (Ent.rfl' _) (Ent.empL F)))
  exact this _ _ _ _


theorem idle_any {w0 w : World} {F : HP} {B : Nat} {ls : List (Nam × LkS)} {ws : List (Int × Nee)} (h : St w0 (TabP B ls ws * F) w) :
    Calls Tryz.prog 17 #[.pointer (some ⟨B, 0, none⟩)] w fun e w' => St w0 (TabP B ls ws * F) w' ∧ e = .returned (.bool (decide (ls = []))) := by
  obtain ⟨m1, m2, ps, hps, h1⟩ := TabP.open h
  have hc := TabQ.root h1
  refine F17.calls (by simp) ?_
  unfold F17.code
  simp -dsimp -implicitDefEqProofs (disch := omega) only [go_sem, reqD_of, dec_t, dec_f, wrap_i64, wrap_u32, wrap_u64, wrap_u8, hc]
  refine (h1.ac TabQ.map1).lenMap Tryz.underlying55 ?_
  simp -dsimp -implicitDefEqProofs (disch := omega) only [go_sem, reqD_of, dec_t, dec_f, wrap_i64, wrap_u32, wrap_u64, wrap_u8]
  refine ⟨h, ?_⟩
  subst hps
  rcases ps with _ | ⟨p, ps⟩
  · rfl
  · simp only [amap, List.map_cons, List.length_cons]
    rw [dec_f (by omega), dec_f (by simp)]

/-- What Ask does with a lock: what it tells; the lock; whether one waits. -/
def askT (who : Int) (al : Bool) (s : LkS) : (Bool × Int) × LkS × Bool :=
  if 0 ≤ posC who s.1 0 then ((false, 130), s, false)
  else if s.2 = [] ∧ letsB s.1 al = true then ((true, 0), (s.1 ++ [(who, al)], s.2), false)
  else ((false, 0), (s.1, s.2 ++ [(who, al)]), true)

def askS (who : Int) (n : Nee) (ls : List (Nam × LkS)) (ws : List (Int × Nee)) : (Bool × Int) × List (Nam × LkS) × List (Int × Nee) :=
  match agt who ws with
  | some _ => ((false, 131), ls, ws)
  | none => ((askT who n.2 ((agt n.1 ls).getD ([], []))).1, aset n.1 (askT who n.2 ((agt n.1 ls).getD ([], []))).2.1 ls, if (askT who n.2 ((agt n.1 ls).getD ([], []))).2.2 = true then aset who n ws else ws)

theorem TabQ.done {B m1 m2 b : Nat} {ps : Ptrs} {ws : List (Int × Nee)} {x : Nam} {s s' : LkS} {v1 v2 : Value} {A F : HP} (hk : agt x ps = some (b, s)) :
    Ent (LkQ b v1 v2 s'.1 s'.2 * (TabR B m1 m2 ps ws x * (A * F))) (TabP B (aset x s' (amap (·.2) ps)) ws * F) := by
  refine (Ent.sep (LkQ.shut b v1 v2 s'.1 s'.2) (Ent.rfl' _)).trans ?_
  rw [TabQ.unlock hk]
  refine Ent.trans ?_ (Ent.sep (TabQ.shut B m1 m2 (aset x (b, s') ps) ws (by rw [← aset_amap])) (Ent.rfl' F))
  exact Ent.sep (Ent.rfl' _) (Ent.right A F)

/-- A lock's block goes back to its table. -/
theorem TabQ.ins {B m1 m2 b : Nat} {ps : Ptrs} {ws : List (Int × Nee)} {x : Nam} {s s' : LkS} {v1 v2 : Value} {F : HP} (hk : agt x ps = some (b, s)) :
    Ent (LkQ b v1 v2 s'.1 s'.2 * (TabR B m1 m2 ps ws x * F)) (TabQ B m1 m2 (aset x (b, s') ps) ws * F) := by
  refine (Ent.sep (LkQ.shut b v1 v2 s'.1 s'.2) (Ent.rfl' _)).trans ?_
  rw [TabQ.unlock hk]
  exact Ent.rfl' _

section
attribute [local go_sem] F13.t14_eq F13.t10_eq F13.t8_eq F13.t4_eq
theorem ask_wait {w0 w : World} {F : HP} {B m1 m2 N C b : Nat} {ps : Ptrs} {ws : List (Int × Nee)} {n : Nee} {hs q : List Claim} {s : LkS} {v1 v2 : Value} {who : Int} {e : FA}
    (h : St w0 (Blk C (.cells (clC (who, n.2)).toArray 76 (0, 0)) * (LkQ b v1 v2 hs q * (TabR B m1 m2 ps ws n.1 * (Blk N (.cells (needC n).toArray 42 (0, 0)) * F)))) w) (hk : agt n.1 ps = some (b, s))
    (hd : e.ds = []) (e0 : e.ρ 0 = .pointer (some ⟨B, 0, none⟩)) (e1 : e.ρ 1 = .int .i64 who) (e5 : e.ρ 5 = .pointer (some ⟨N, 0, none⟩)) (e10 : e.ρ 10 = .pointer (some ⟨b, 0, none⟩)) (e11 : e.ρ 11 = .pointer (some ⟨C, 0, none⟩)) (hl2 : q.length < 1099511627776) :
    cwE Tryz.prog F13.t14 (fnP Tryz.prog #[.tmp 6, .tmp 7] fun e w' => St w0 (TabP B (aset n.1 (hs, q ++ [(who, n.2)]) (amap (·.2) ps)) (aset who n ws) * F) w' ∧
      e = .returned (.tuple #[.bool false, .int .i64 0])) e w := by
  obtain ⟨a2, c2, rfl, _, _, _⟩ := RowO.form (h.ac (show _ = RowO 76 2 v2 q.length (clR q) * (Blk b (.cells #[v1, v2] 73 (0, 0)) * (RowO 76 2 v1 hs.length (clR hs) * (Blk C (.cells (clC (who, n.2)).toArray 76 (0, 0)) * (TabR B m1 m2 ps ws n.1 * (Blk N (.cells (needC n).toArray 42 (0, 0)) * F))))) by unfold LkQ; ac_rfl))
  have hb := LkQ.blk h.drew.right
  have hC : rowV w.drew ⟨C, 0, none⟩ 2 = some (.agg #[.int .i64 who, .bool n.2]) := h.drew.row (n := 2) rfl
  rw [F13.t14_eq]
  simp -dsimp -implicitDefEqProofs (disch := omega) only [go_sem, reqD_of, dec_t, dec_f, wrap_i64, wrap_u32, wrap_u64, wrap_u8, hd, e0, e1, e5, e10, e11, hb, hC]
  refine h.drew.buildSlice (s := 2) fact_rowTy_71 (cells := clR [(who, n.2)]) rfl (by decide) (by decide) fun v3 w1 h1 => ?_
  have hb1 := LkQ.blk h1.right.right
  simp -dsimp -implicitDefEqProofs (disch := omega) only [go_sem, reqD_of, dec_t, dec_f, wrap_i64, wrap_u32, wrap_u64, wrap_u8, hb1]
  have h2 := h1.ac (show _ = RowO 76 2 (.slice a2 q.length c2) q.length (clR q) * (Row 76 2 v3 1 (clR [(who, n.2)]) * (Blk b (.cells #[v1, .slice a2 q.length c2] 73 (0, 0)) * (RowO 76 2 v1 hs.length (clR hs) * (Blk C (.cells (clC (who, n.2)).toArray 76 (0, 0)) * (TabR B m1 m2 ps ws n.1 * (Blk N (.cells (needC n).toArray 42 (0, 0)) * F)))))) by unfold LkQ; ac_rfl)
  refine h2.appendO fact_rowTy_71 (((h2.right.left.ent (Row.reads _ _ _ _ _)).rd).src Tryz.underlying71 (clR_cells _) (by simp [clR])) (by simp [maxLen]; omega) (by omega) fun v4 w2 h3 => ?_
  rw [← clR_app] at h3
  have h4 := h3.ac (show _ = Blk b (.cells #[v1, .slice a2 q.length c2] 73 (0, 0)) * (RowO 76 2 v4 (q.length + 1) (clR (q ++ [(who, n.2)])) * (Row 76 2 v3 1 (clR [(who, n.2)]) * (RowO 76 2 v1 hs.length (clR hs) * (Blk C (.cells (clC (who, n.2)).toArray 76 (0, 0)) * (TabR B m1 m2 ps ws n.1 * (Blk N (.cells (needC n).toArray 42 (0, 0)) * F)))))) by ac_rfl)
  obtain ⟨a4, c4, rfl, _⟩ := RowO.form h3
  have hb4 := h4.cells
  simp -dsimp -implicitDefEqProofs (disch := omega) only [go_sem, reqD_of, dec_t, dec_f, wrap_i64, wrap_u32, wrap_u64, wrap_u8, hb4]
  refine h4.store (arr' := #[v1, .slice a4 (q.length + 1) c4]) rfl (by simp) rfl fun w3 h5 => ?_
  simp -dsimp -implicitDefEqProofs (disch := omega) only [go_sem, reqD_of, dec_t, dec_f, wrap_i64, wrap_u32, wrap_u64, wrap_u8, hd, e0, e1, e5, e10, e11]
  have h6 := h5.drew.ac (show _ = LkQ b v1 (.slice a4 (q.length + 1) c4) hs (q ++ [(who, n.2)]) * (TabR B m1 m2 ps ws n.1 * (Blk N (.cells (needC n).toArray 42 (0, 0)) * (Row 76 2 v3 1 (clR [(who, n.2)]) * (Blk C (.cells (clC (who, n.2)).toArray 76 (0, 0)) * F)))) by unfold LkQ; rw [List.length_append]; simp only [List.length_cons, List.length_nil, Nat.zero_add]; ac_rfl)
  have h7 := h6.ent (TabQ.ins (s' := (hs, q ++ [(who, n.2)])) hk)
  have hr := TabQ.root h7
  have hNw : rowV w3.drew ⟨N, 0, none⟩ 4 = some (.agg (needC n).toArray) := (h7.sw2).row (n := 4) rfl
  simp -dsimp -implicitDefEqProofs (disch := omega) only [go_sem, reqD_of, dec_t, dec_f, wrap_i64, wrap_u32, wrap_u64, wrap_u8, hd, e0, e1, e5, hr, hNw]
  refine St.update (h7.ac TabQ.map2) Tryz.underlying56 lawI fun w4 h8 => ?_
  rw [show upd who (Value.agg (needC n).toArray) (amap needV ws) = amap needV (aset who n ws) from upd_amap needV who n ws] at h8
  simp -dsimp -implicitDefEqProofs (disch := omega) only [go_sem, reqD_of, dec_t, dec_f, wrap_i64, wrap_u32, wrap_u64, wrap_u8, hd]
  refine (h8.ac TabQ.map2.symm).ent ?_
  refine (Ent.sep (TabQ.shut B m1 m2 (aset n.1 (b, (hs, q ++ [(who, n.2)])) ps) (aset who n ws) (by rw [← aset_amap])) (Ent.rfl' _)).trans ?_
  exact Ent.sep (Ent.rfl' _) ((Ent.right _ _).trans ((Ent.right _ _).trans (Ent.right _ _)))

end
section
attribute [local go_sem] F13.t10_eq F13.t8_eq F13.t4_eq
theorem ask_tail {w0 w : World} {F : HP} {B m1 m2 N b : Nat} {ps : Ptrs} {ws : List (Int × Nee)} {n : Nee} {s : LkS} {who : Int} {r1 wt : Bool} {r2 : Int} {s' : LkS} {e : FA} (hRR : askT who n.2 s = ((r1, r2), s', wt)) (h : St w0 (TabQ B m1 m2 ps ws * (Blk N (.cells (needC n).toArray 42 (0, 0)) * F)) w) (hk : agt n.1 ps = some (b, s))
    (hd : e.ds = []) (e0 : e.ρ 0 = .pointer (some ⟨B, 0, none⟩)) (e1 : e.ρ 1 = .int .i64 who) (e5 : e.ρ 5 = .pointer (some ⟨N, 0, none⟩)) (e10 : e.ρ 10 = .pointer (some ⟨b, 0, none⟩)) (hl1 : s.1.length < 1099511627776) (hl2 : s.2.length < 1099511627776) :
    cwE Tryz.prog F13.t8 (fnP Tryz.prog #[.tmp 6, .tmp 7] fun e w' => St w0 (TabP B (aset n.1 s' (amap (·.2) ps)) (if wt = true then aset who n ws else ws) * F) w' ∧
      e = .returned (.tuple #[.bool r1, .int .i64 r2])) e w := by
  rw [TabQ.lock hk] at h
  unfold LkP at h
  obtain ⟨⟨v1, v2⟩, h⟩ := h.exF
  simp only at h
  rw [F13.t8_eq]
  simp -dsimp -implicitDefEqProofs (disch := omega) only [go_sem, reqD_of, dec_t, dec_f, wrap_i64, wrap_u32, wrap_u64, wrap_u8, hd, e0, e1, e5, e10]
  refine (holds_any h hl1).mono ?_
  rintro e' w1 ⟨h1, rfl⟩
  by_cases hp : 0 ≤ posC who s.1 0
  · obtain ⟨⟨rfl, rfl⟩, rfl, rfl⟩ : (r1 = false ∧ r2 = 130) ∧ s' = s ∧ wt = false := by have := hRR.symm; simpa [askT, hp] using this
    simp -dsimp -implicitDefEqProofs (disch := omega) only [go_sem, reqD_of, dec_t, dec_f, wrap_i64, wrap_u32, wrap_u64, wrap_u8, hd, e0, e1, e5, e10, hp]
    exact h1.ent (TabQ.done hk)
  obtain ⟨a1, c1, rfl, _, _, _⟩ := RowO.form (h1.ac (show _ = RowO 76 2 v1 s.1.length (clR s.1) * (Blk b (.cells #[v1, v2] 73 (0, 0)) * (RowO 76 2 v2 s.2.length (clR s.2) * (TabR B m1 m2 ps ws n.1 * (Blk N (.cells (needC n).toArray 42 (0, 0)) * F)))) by unfold LkQ; ac_rfl))
  obtain ⟨a2, c2, rfl, _, _, _⟩ := RowO.form (h1.ac (show _ = RowO 76 2 v2 s.2.length (clR s.2) * (Blk b (.cells #[.slice a1 s.1.length c1, v2] 73 (0, 0)) * (RowO 76 2 (.slice a1 s.1.length c1) s.1.length (clR s.1) * (TabR B m1 m2 ps ws n.1 * (Blk N (.cells (needC n).toArray 42 (0, 0)) * F)))) by unfold LkQ; ac_rfl))
  have hN := (h1.ac (show _ = Blk N (.cells (needC n).toArray 42 (0, 0)) * (LkQ b (.slice a1 s.1.length c1) (.slice a2 s.2.length c2) s.1 s.2 * (TabR B m1 m2 ps ws n.1 * F)) by ac_rfl)).cells
  unfold needC at hN
  simp -dsimp -implicitDefEqProofs (disch := omega) only [go_sem, reqD_of, dec_t, dec_f, wrap_i64, wrap_u32, wrap_u64, wrap_u8, hd, e0, e1, e5, e10, hp, hN]
  refine onV_of (v := .agg (clC (who, n.2)).toArray) rfl ?_
  simp -dsimp -implicitDefEqProofs (disch := omega) only [go_sem, reqD_of, dec_t, dec_f, wrap_i64, wrap_u32, wrap_u64, wrap_u8]
  refine h1.new fun C w2 h2 => ?_
  simp -dsimp -implicitDefEqProofs (disch := omega) only [go_sem, reqD_of, dec_t, dec_f, wrap_i64, wrap_u32, wrap_u64, wrap_u8]
  refine h2.storeAll (cs := clC (who, n.2)) rfl rfl (by intro v hv; simp only [clC, List.mem_cons, List.not_mem_nil, or_false] at hv; rcases hv with rfl | rfl <;> rfl) fun w3 h3 => ?_
  have hb := LkQ.blk h3.right
  have hN3 := (h3.ac (show _ = Blk N (.cells (needC n).toArray 42 (0, 0)) * (Blk C (.cells (clC (who, n.2)).toArray 76 (0, 0)) * (LkQ b (.slice a1 s.1.length c1) (.slice a2 s.2.length c2) s.1 s.2 * (TabR B m1 m2 ps ws n.1 * F))) by ac_rfl)).cells
  unfold needC at hN3
  have hR : (¬ s.2 = [] ∨ letsB s.1 n.2 = false) → askT who n.2 s = ((false, 0), (s.1, s.2 ++ [(who, n.2)]), true) := by
    intro hx
    rcases hx with hx | hx <;> simp [askT, hp, hx]
  by_cases hq : (s.2.length : Int) = 0
  · have hq' : s.2 = [] := List.eq_nil_of_length_eq_zero (by omega)
    cases hlet : letsB s.1 n.2
    · obtain ⟨⟨rfl, rfl⟩, rfl, rfl⟩ : (r1 = false ∧ r2 = 0) ∧ s' = (s.1, s.2 ++ [(who, n.2)]) ∧ wt = true := by have := hRR.symm.trans (hR (Or.inr hlet)); simpa using this
      simp -dsimp -implicitDefEqProofs (disch := omega) only [go_sem, reqD_of, dec_t, dec_f, wrap_i64, wrap_u32, wrap_u64, wrap_u8, hd, e0, e1, e5, e10, hb, hN3, hq]
      refine (lets_any h3.sw2).mono ?_
      rintro e' w4 ⟨h4, rfl⟩
      simp -dsimp -implicitDefEqProofs (disch := omega) only [go_sem, reqD_of, dec_t, dec_f, wrap_i64, wrap_u32, wrap_u64, wrap_u8, hd, e0, e1, e5, e10, hlet]
      exact ask_wait h4.sw2 hk (by simp -dsimp -implicitDefEqProofs only [go_sem, hd]) (by simp -dsimp -implicitDefEqProofs only [go_sem, e0]) (by simp -dsimp -implicitDefEqProofs only [go_sem, e1]) (by simp -dsimp -implicitDefEqProofs only [go_sem, e5]) (by simp -dsimp -implicitDefEqProofs only [go_sem, e10]) (by simp -dsimp -implicitDefEqProofs only [go_sem]) hl2
    · obtain ⟨⟨rfl, rfl⟩, rfl, rfl⟩ : (r1 = true ∧ r2 = 0) ∧ s' = (s.1 ++ [(who, n.2)], s.2) ∧ wt = false := by have := hRR.symm; simpa [askT, hp, hq', hlet] using this
      simp -dsimp -implicitDefEqProofs (disch := omega) only [go_sem, reqD_of, dec_t, dec_f, wrap_i64, wrap_u32, wrap_u64, wrap_u8, hd, e0, e1, e5, e10, hb, hN3, hq]
      refine (lets_any h3.sw2).mono ?_
      rintro e' w4 ⟨h4, rfl⟩
      have hb4 := LkQ.blk h4.drew
      have hC : rowV w4.drew ⟨C, 0, none⟩ 2 = some (.agg #[.int .i64 who, .bool n.2]) := h4.drew.sw2.row (n := 2) rfl
      simp -dsimp -implicitDefEqProofs (disch := omega) only [go_sem, reqD_of, dec_t, dec_f, wrap_i64, wrap_u32, wrap_u64, wrap_u8, hd, e0, e1, e5, e10, hlet, hb4, hC]
      refine h4.drew.buildSlice (s := 2) fact_rowTy_71 (cells := clR [(who, n.2)]) rfl (by decide) (by decide) fun v3 w5 h5 => ?_
      have hb5 := LkQ.blk h5.right
      simp -dsimp -implicitDefEqProofs (disch := omega) only [go_sem, reqD_of, dec_t, dec_f, wrap_i64, wrap_u32, wrap_u64, wrap_u8, hb5]
      have h6 := h5.ac (show _ = RowO 76 2 (.slice a1 s.1.length c1) s.1.length (clR s.1) * (Row 76 2 v3 1 (clR [(who, n.2)]) * (Blk b (.cells #[.slice a1 s.1.length c1, .slice a2 s.2.length c2] 73 (0, 0)) * (RowO 76 2 (.slice a2 s.2.length c2) s.2.length (clR s.2) * (Blk C (.cells (clC (who, n.2)).toArray 76 (0, 0)) * (TabR B m1 m2 ps ws n.1 * (Blk N (.cells (needC n).toArray 42 (0, 0)) * F)))))) by unfold LkQ; ac_rfl)
      refine h6.appendO fact_rowTy_71 (((h6.right.left.ent (Row.reads _ _ _ _ _)).rd).src Tryz.underlying71 (clR_cells _) (by simp [clR])) (by simp [maxLen]; omega) (by omega) fun v4 w6 h7 => ?_
      rw [← clR_app] at h7
      have h8 := h7.ac (show _ = Blk b (.cells #[.slice a1 s.1.length c1, .slice a2 s.2.length c2] 73 (0, 0)) * (RowO 76 2 v4 (s.1.length + 1) (clR (s.1 ++ [(who, n.2)])) * (RowO 76 2 (.slice a2 s.2.length c2) s.2.length (clR s.2) * (TabR B m1 m2 ps ws n.1 * (Blk N (.cells (needC n).toArray 42 (0, 0)) * (Row 76 2 v3 1 (clR [(who, n.2)]) * (Blk C (.cells (clC (who, n.2)).toArray 76 (0, 0)) * F)))))) by ac_rfl)
      obtain ⟨a4, c4, rfl, _⟩ := RowO.form h7
      have hb8 := h8.cells
      simp -dsimp -implicitDefEqProofs (disch := omega) only [go_sem, reqD_of, dec_t, dec_f, wrap_i64, wrap_u32, wrap_u64, wrap_u8, hb8]
      refine h8.store (arr' := #[.slice a4 (s.1.length + 1) c4, .slice a2 s.2.length c2]) rfl (by simp) rfl fun w7 h9 => ?_
      simp -dsimp -implicitDefEqProofs (disch := omega) only [go_sem, reqD_of, dec_t, dec_f, wrap_i64, wrap_u32, wrap_u64, wrap_u8, hd]
      have h10 := h9.ac (show _ = LkQ b (.slice a4 (s.1.length + 1) c4) (.slice a2 s.2.length c2) (s.1 ++ [(who, n.2)]) s.2 * (TabR B m1 m2 ps ws n.1 * ((Blk N (.cells (needC n).toArray 42 (0, 0)) * (Row 76 2 v3 1 (clR [(who, n.2)]) * Blk C (.cells (clC (who, n.2)).toArray 76 (0, 0)))) * F)) by unfold LkQ; rw [List.length_append]; simp only [List.length_cons, List.length_nil, Nat.zero_add]; ac_rfl)
      exact h10.ent (TabQ.done (s' := (s.1 ++ [(who, n.2)], s.2)) hk)
  · obtain ⟨⟨rfl, rfl⟩, rfl, rfl⟩ : (r1 = false ∧ r2 = 0) ∧ s' = (s.1, s.2 ++ [(who, n.2)]) ∧ wt = true := by have := hRR.symm.trans (hR (Or.inl (fun hx => hq (by rw [hx]; rfl)))); simpa using this
    simp -dsimp -implicitDefEqProofs (disch := omega) only [go_sem, reqD_of, dec_t, dec_f, wrap_i64, wrap_u32, wrap_u64, wrap_u8, hd, e0, e1, e5, e10, hb, hN3, hq]
    exact ask_wait h3 hk (by simp -dsimp -implicitDefEqProofs only [go_sem, hd]) (by simp -dsimp -implicitDefEqProofs only [go_sem, e0]) (by simp -dsimp -implicitDefEqProofs only [go_sem, e1]) (by simp -dsimp -implicitDefEqProofs only [go_sem, e5]) (by simp -dsimp -implicitDefEqProofs only [go_sem, e10]) (by simp -dsimp -implicitDefEqProofs only [go_sem]) hl2

theorem zeroV67 : zeroV Tryz.prog 70 = some (.pointer none) := by kernel_rfl
theorem zeroV38 : zeroV Tryz.prog 42 = some (needV ((0, 0, 0), false)) := by kernel_rfl

/-- A new lock comes into the table. -/
theorem TabQ.new {B m1 m2 b : Nat} {ps : Ptrs} {ws : List (Int × Nee)} {x : Nam} {F : HP} (hk : agt x ps = none) :
    Ent (MapP namV m1 (amap ptrV (aset x (b, ([], [])) ps)) * (Blk B (.cells #[.map (some m1), .map (some m2)] 58 (0, 0)) * (MapP encI m2 (amap needV ws) * (stars (fun p => LkP p.2.1 p.2.2) ps * (Blk b (.cells #[.slice none 0 0, .slice none 0 0] 73 (0, 0)) * F)))))
      (TabQ B m1 m2 (aset x (b, ([], [])) ps) ws * F) := by
  unfold TabQ
  rw [stars_new _ x (b, ([], [])) ps hk]
  have : Ent (Blk b (.cells #[.slice none 0 0, .slice none 0 0] 73 (0, 0))) (LkP b ([], [])) := by
    refine Ent.trans ?_ (LkQ.shut b (.slice none 0 0) (.slice none 0 0) [] [])
    refine (Ent.nilRowO 76 2 _).trans ?_
    refine (Ent.nilRowO 76 2 _).trans ?_
    unfold LkQ
    exact Ent.of_eq (by simp only [List.length_nil, clR]; ac_rfl)
  refine Ent.trans (Ent.sep (Ent.rfl' _) (Ent.sep (Ent.rfl' _) (Ent.sep (Ent.rfl' _) (Ent.sep (Ent.rfl' _) (Ent.sep this (Ent.rfl' _)))))) ?_
  exact Ent.of_eq (by ac_rfl)

end
section
attribute [local go_sem] F13.t10_eq F13.t4_eq
theorem ask_any {w0 w : World} {F : HP} {B : Nat} {ls : List (Nam × LkS)} {ws : List (Int × Nee)} {n : Nee} {who : Int} {r1 : Bool} {r2 : Int} {ls' : List (Nam × LkS)} {ws' : List (Int × Nee)} (h : St w0 (TabP B ls ws * F) w) (hR : askS who n ls ws = ((r1, r2), ls', ws'))
    (hl1 : ((agt n.1 ls).getD ([], [])).1.length < 1099511627776) (hl2 : ((agt n.1 ls).getD ([], [])).2.length < 1099511627776) :
    Calls Tryz.prog 13 #[.pointer (some ⟨B, 0, none⟩), .int .i64 who, needV n] w fun e w' => St w0 (TabP B ls' ws' * F) w' ∧ e = .returned (.tuple #[.bool r1, .int .i64 r2]) := by
  refine F13.calls (by simp) ?_
  unfold F13.code
  simp -dsimp -implicitDefEqProofs (disch := omega) only [go_sem, reqD_of, dec_t, dec_f, wrap_i64, wrap_u32, wrap_u64, wrap_u8]
  refine h.new fun N w1 h1 => ?_
  obtain ⟨m1, m2, ps, hps, h2⟩ := TabP.open h1.sw2
  have hr := TabQ.root h2
  simp -dsimp -implicitDefEqProofs (disch := omega) only [go_sem, reqD_of, dec_t, dec_f, wrap_i64, wrap_u32, wrap_u64, wrap_u8, hr]
  refine (h2.ac TabQ.map2).lookup Tryz.underlying56 lawI zeroV38 ?_
  rw [lk_amap]
  cases hw : agt who ws with
  | some v =>
    obtain ⟨⟨rfl, rfl⟩, rfl, rfl⟩ : (r1 = false ∧ r2 = 131) ∧ ls' = ls ∧ ws' = ws := by have := hR.symm; simpa [askS, hw] using this
    rw [Option.map_some]
    simp -dsimp -implicitDefEqProofs (disch := omega) only [go_sem, reqD_of, dec_t, dec_f, wrap_i64, wrap_u32, wrap_u64, wrap_u8, lkV_someOk]
    refine h2.new fun C w2 h3 => ?_
    simp -dsimp -implicitDefEqProofs (disch := omega) only [go_sem, reqD_of, dec_t, dec_f, wrap_i64, wrap_u32, wrap_u64, wrap_u8]
    refine h3.storeAll (cs := needC v) rfl rfl (needC_cells v) fun w3 h4 => ?_
    simp -dsimp -implicitDefEqProofs (disch := omega) only [go_sem, reqD_of, dec_t, dec_f, wrap_i64, wrap_u32, wrap_u64, wrap_u8]
    refine (h4.right).ent ?_
    exact Ent.sep (TabQ.shut B m1 m2 ps _ hps) (Ent.right _ _)
  | none =>
    rw [Option.map_none]
    simp -dsimp -implicitDefEqProofs (disch := omega) only [go_sem, reqD_of, dec_t, dec_f, wrap_i64, wrap_u32, wrap_u64, wrap_u8, lkV_noneOk]
    refine h2.new fun C w2 h3 => ?_
    simp -dsimp -implicitDefEqProofs (disch := omega) only [go_sem, reqD_of, dec_t, dec_f, wrap_i64, wrap_u32, wrap_u64, wrap_u8]
    refine h3.storeAll (cs := needC ((0, 0, 0), false)) rfl rfl (needC_cells _) fun w3 h4 => ?_
    have h5 := h4.right.drew
    have hr5 := TabQ.root h5
    have hN : rowV w3.drew ⟨N, 0, none⟩ 3 = some (namV n.1) := (h5.sw2).rowAt (n := 3) (o := 0) (by simp [needC])
    simp -dsimp -implicitDefEqProofs (disch := omega) only [go_sem, reqD_of, dec_t, dec_f, wrap_i64, wrap_u32, wrap_u64, wrap_u8, hr5, hN]
    refine (h5.ac TabQ.map1).lookup Tryz.underlying55 lawN zeroV67 ?_
    rw [lk_amap]
    cases hk : agt n.1 ps with
    | some bs =>
      obtain ⟨b, s⟩ := bs
      have hls : agt n.1 ls = some s := by rw [← hps, agt_amap, hk]; rfl
      rw [hls] at hl1 hl2
      simp only [Option.getD_some] at hl1 hl2
      obtain ⟨⟨⟨a1, a2⟩, s', wt⟩, hT⟩ : ∃ x, askT who n.2 s = x := ⟨_, rfl⟩
      obtain ⟨⟨rfl, rfl⟩, rfl, rfl⟩ : (r1 = a1 ∧ r2 = a2) ∧ ls' = aset n.1 s' ls ∧ ws' = (if wt = true then aset who n ws else ws) := by have := hR.symm; simpa [askS, hw, hls, hT] using this
      rw [Option.map_some]
      simp -dsimp -implicitDefEqProofs (disch := omega) only [go_sem, reqD_of, dec_t, dec_f, wrap_i64, wrap_u32, wrap_u64, wrap_u8, lkV_some, ptrV, hr5, hN]
      subst hps
      exact ask_tail hT h5 hk (by simp -dsimp -implicitDefEqProofs only [go_sem]) (by simp -dsimp -implicitDefEqProofs only [go_sem]) (by simp -dsimp -implicitDefEqProofs only [go_sem]) (by simp -dsimp -implicitDefEqProofs only [go_sem]) (by simp -dsimp -implicitDefEqProofs only [go_sem]) hl1 hl2
    | none =>
      have hls : agt n.1 ls = none := by rw [← hps, agt_amap, hk]; rfl
      obtain ⟨⟨⟨a1, a2⟩, s', wt⟩, hT⟩ : ∃ x, askT who n.2 ([], []) = x := ⟨_, rfl⟩
      obtain ⟨⟨rfl, rfl⟩, rfl, rfl⟩ : (r1 = a1 ∧ r2 = a2) ∧ ls' = aset n.1 s' ls ∧ ws' = (if wt = true then aset who n ws else ws) := by have := hR.symm; simpa [askS, hw, hls, hT] using this
      rw [Option.map_none]
      simp -dsimp -implicitDefEqProofs (disch := omega) only [go_sem, reqD_of, dec_t, dec_f, wrap_i64, wrap_u32, wrap_u64, wrap_u8, lkV_none, hr5, hN]
      refine onV_of (v := .agg #[.slice none 0 0, .slice none 0 0]) rfl ?_
      simp -dsimp -implicitDefEqProofs (disch := omega) only [go_sem, reqD_of, dec_t, dec_f, wrap_i64, wrap_u32, wrap_u64, wrap_u8]
      refine h5.new fun b w4 h6 => ?_
      have h7 := h6.drew.sw2
      have hr7 := TabQ.root h7
      have hN7 : rowV w4.drew ⟨N, 0, none⟩ 3 = some (namV n.1) := (h7.ac (show _ = Blk N (.cells (needC n).toArray 42 (0, 0)) * (TabQ B m1 m2 ps ws * (Blk b (.cells #[.slice none 0 0, .slice none 0 0] 73 (0, 0)) * F)) by ac_rfl)).rowAt (n := 3) (o := 0) (by simp [needC])
      simp -dsimp -implicitDefEqProofs (disch := omega) only [go_sem, reqD_of, dec_t, dec_f, wrap_i64, wrap_u32, wrap_u64, wrap_u8, hr7, hN7]
      refine St.update (h7.ac TabQ.map1) Tryz.underlying55 lawN fun w5 h8 => ?_
      rw [show upd n.1 (.pointer (some ⟨b, 0, none⟩)) (amap ptrV ps) = amap ptrV (aset n.1 (b, ([], [])) ps) from upd_amap ptrV n.1 (b, ([], [])) ps] at h8
      have h9 := h8.ent (TabQ.new hk)
      have hr9 := TabQ.root h9
      have hN9 : rowV w5 ⟨N, 0, none⟩ 3 = some (namV n.1) := (h9.sw2).rowAt (n := 3) (o := 0) (by simp [needC])
      simp -dsimp -implicitDefEqProofs (disch := omega) only [go_sem, reqD_of, dec_t, dec_f, wrap_i64, wrap_u32, wrap_u64, wrap_u8, hr9, hN9]
      subst hps
      have e9 : aset n.1 s' (amap (·.2) ps) = aset n.1 s' (amap (·.2) (aset n.1 (b, ([], [])) ps)) := by rw [← aset_amap, aset_aset]
      rw [e9]
      exact ask_tail hT h9 (agt_aset _ _ _) (by simp -dsimp -implicitDefEqProofs only [go_sem]) (by simp -dsimp -implicitDefEqProofs only [go_sem]) (by simp -dsimp -implicitDefEqProofs only [go_sem]) (by simp -dsimp -implicitDefEqProofs only [go_sem]) (by simp -dsimp -implicitDefEqProofs only [go_sem]) (by simp) (by simp)

end
end Go.Proofs.YtacmnfpgimgigaaGreat

namespace Go.Proofs.YtacmnfpgimgigaaGreat
open Go
set_option linter.unusedSimpArgs false
set_option linter.unusedVariables false
set_option maxRecDepth 100000

section
attribute [local go_sem] F14.t4_eq
theorem queue_any {w0 w : World} {F : HP} {B : Nat} {ls : List (Nam × LkS)} {ws : List (Int × Nee)} {x : Nam} {q : List Claim} (h : St w0 (TabP B ls ws * F) w) (hq : ((agt x ls).getD ([], [])).2 = q) (hl : q.length < 1099511627776) :
    Calls Tryz.prog 14 #[.pointer (some ⟨B, 0, none⟩), namV x] w fun e w' => ∃ v, St w0 (RowO 3 1 v q.length (intR (q.map (·.1))) * (TabP B ls ws * F)) w' ∧ e = .returned v := by
  refine F14.calls (by simp) ?_
  unfold F14.code
  simp -dsimp -implicitDefEqProofs (disch := omega) only [go_sem, reqD_of, dec_t, dec_f, wrap_i64, wrap_u32, wrap_u64, wrap_u8]
  refine h.new fun N w1 h1 => ?_
  obtain ⟨m1, m2, ps, hps, h2⟩ := TabP.open h1.drew.sw2
  have hr := TabQ.root h2
  have hN : rowV w1.drew ⟨N, 0, none⟩ 3 = some (namV x) := (h2.sw2).row (n := 3) (arr := (namC x).toArray) rfl
  simp -dsimp -implicitDefEqProofs (disch := omega) only [go_sem, reqD_of, dec_t, dec_f, wrap_i64, wrap_u32, wrap_u64, wrap_u8, hr, hN]
  refine (h2.ac TabQ.map1).lookup Tryz.underlying55 lawN zeroV67 ?_
  rw [lk_amap]
  cases hk : agt x ps with
  | none =>
    have hls : agt x ls = none := by rw [← hps, agt_amap, hk]; rfl
    rw [hls] at hq
    simp only [Option.getD_none] at hq
    subst hq
    rw [Option.map_none]
    simp -dsimp -implicitDefEqProofs (disch := omega) only [go_sem, reqD_of, dec_t, dec_f, wrap_i64, wrap_u32, wrap_u64, wrap_u8, lkV_none, hr, hN]
    refine ⟨_, ?_, rfl⟩
    refine (h2.ent (Ent.sep (TabQ.shut B m1 m2 ps ws hps) (Ent.right _ _))).ent ?_
    exact Ent.nilRowO 3 1 _
  | some bs =>
    obtain ⟨b, s⟩ := bs
    have hls : agt x ls = some s := by rw [← hps, agt_amap, hk]; rfl
    rw [hls] at hq
    simp only [Option.getD_some] at hq
    subst hq
    rw [Option.map_some]
    have h3 := h2
    rw [TabQ.lock hk] at h3
    unfold LkP at h3
    obtain ⟨⟨v1, v2⟩, h3⟩ := h3.exF
    simp only at h3
    have hb := LkQ.blk h3
    simp -dsimp -implicitDefEqProofs (disch := omega) only [go_sem, reqD_of, dec_t, dec_f, wrap_i64, wrap_u32, wrap_u64, wrap_u8, lkV_some, ptrV, hr, hN, hb]
    refine (whose_any h3 (LkQ.queue _ _ _ _ _ _) hl).mono ?_
    rintro e w2 ⟨v, h4, rfl⟩
    simp -dsimp -implicitDefEqProofs (disch := omega) only [go_sem, reqD_of, dec_t, dec_f, wrap_i64, wrap_u32, wrap_u64, wrap_u8]
    refine ⟨_, ?_, rfl⟩
    refine h4.ent (Ent.sep (Ent.rfl' _) ((TabQ.ins hk).trans (Ent.sep (TabQ.shut B m1 m2 _ ws ?_) (Ent.right _ _))))
    rw [← aset_amap, aset_same x s _ (by rw [hps]; exact hls), hps]

/-- Whom a lock lets in: who holds it then, who waits still, who came in. -/
def adm : List Claim → List Claim → List Claim × List Claim × List Claim
  | h, [] => (h, [], [])
  | h, c :: q => if letsB h c.2 = true then ((adm (h ++ [c]) q).1, (adm (h ++ [c]) q).2.1, c :: (adm (h ++ [c]) q).2.2) else (h, c :: q, [])

def delAll (l : List Claim) (ws : List (Int × Nee)) : List (Int × Nee) := l.foldl (fun ws c => adel c.1 ws) ws

def admS (x : Nam) (s : LkS) (ls : List (Nam × LkS)) (ws : List (Int × Nee)) : List (Nam × LkS) × List (Int × Nee) :=
  (if (adm s.1 s.2).1 = [] then adel x ls else aset x ((adm s.1 s.2).1, (adm s.1 s.2).2.1) ls, delAll (adm s.1 s.2).2.2 ws)

end
section
attribute [local go_sem] F41.t4_eq F41.t11_eq F41.t9_eq
theorem admit_end {w0 w : World} {F : HP} {B m1 m2 N b : Nat} {ps : Ptrs} {ws : List (Int × Nee)} {x : Nam} {s : LkS} {hs q l : List Claim} {v1 v2 v : Value} {e : FA}
    (h : St w0 (RowO 3 1 v l.length (intR (l.map (·.1))) * (LkQ b v1 v2 hs q * (TabR B m1 m2 ps ws x * (Blk N (.cells (namC x).toArray 40 (0, 0)) * F)))) w) (hk : agt x ps = some (b, s))
    (hd : e.ds = []) (e0 : e.ρ 0 = .pointer (some ⟨B, 0, none⟩)) (e3 : e.ρ 3 = .pointer (some ⟨N, 0, none⟩)) (e5 : e.ρ 5 = .pointer (some ⟨b, 0, none⟩)) (e6 : e.ρ 6 = v) :
    cwE Tryz.prog F41.t9 (fnP Tryz.prog #[.tmp 4] fun e w' => ∃ v, St w0 (RowO 3 1 v l.length (intR (l.map (·.1))) * (TabP B (if hs = [] then adel x (amap (·.2) ps) else aset x (hs, q) (amap (·.2) ps)) ws * F)) w' ∧ e = .returned v) e w := by
  have hb := LkQ.blk h.sw2
  obtain ⟨a1, c1, rfl, _, _, _⟩ := RowO.form (h.ac (show _ = RowO 76 2 v1 hs.length (clR hs) * (Blk b (.cells #[v1, v2] 73 (0, 0)) * (RowO 76 2 v2 q.length (clR q) * (RowO 3 1 v l.length (intR (l.map (·.1))) * (TabR B m1 m2 ps ws x * (Blk N (.cells (namC x).toArray 40 (0, 0)) * F))))) by unfold LkQ; ac_rfl))
  rw [F41.t9_eq]
  by_cases hh : (hs.length : Int) = 0
  · have hh' : hs = [] := List.eq_nil_of_length_eq_zero (by omega)
    rw [if_pos hh']
    have h2 := h.drew.ac (show _ = MapP namV m1 (amap ptrV ps) * (Blk B (.cells #[.map (some m1), .map (some m2)] 58 (0, 0)) * (MapP encI m2 (amap needV ws) * (stars (fun p => LkP p.2.1 p.2.2) (adel x ps) * (RowO 3 1 v l.length (intR (l.map (·.1))) * (LkQ b (.slice a1 hs.length c1) v2 hs q * (Blk N (.cells (namC x).toArray 40 (0, 0)) * F)))))) by unfold TabR; ac_rfl)
    have hr := h2.sw2.cells
    have hN : rowV w.drew ⟨N, 0, none⟩ 3 = some (namV x) := (h2.ac (show _ = Blk N (.cells (namC x).toArray 40 (0, 0)) * (MapP namV m1 (amap ptrV ps) * (Blk B (.cells #[.map (some m1), .map (some m2)] 58 (0, 0)) * (MapP encI m2 (amap needV ws) * (stars (fun p => LkP p.2.1 p.2.2) (adel x ps) * (RowO 3 1 v l.length (intR (l.map (·.1))) * (LkQ b (.slice a1 hs.length c1) v2 hs q * F)))))) by ac_rfl)).row (n := 3) rfl
    simp -dsimp -implicitDefEqProofs (disch := omega) only [go_sem, reqD_of, dec_t, dec_f, wrap_i64, wrap_u32, wrap_u64, wrap_u8, hd, e0, e3, e5, e6, hb, hh, hr, hN]
    refine h2.delete Tryz.underlying55 lawN fun w1 h3 => ?_
    rw [del_amap] at h3
    have hr3 := h3.sw2.cells
    have hN3 : rowV w1 ⟨N, 0, none⟩ 3 = some (namV x) := (h3.ac (show _ = Blk N (.cells (namC x).toArray 40 (0, 0)) * (MapP namV m1 (amap ptrV (adel x ps)) * (Blk B (.cells #[.map (some m1), .map (some m2)] 58 (0, 0)) * (MapP encI m2 (amap needV ws) * (stars (fun p => LkP p.2.1 p.2.2) (adel x ps) * (RowO 3 1 v l.length (intR (l.map (·.1))) * (LkQ b (.slice a1 hs.length c1) v2 hs q * F)))))) by ac_rfl)).row (n := 3) rfl
    simp -dsimp -implicitDefEqProofs (disch := omega) only [go_sem, reqD_of, dec_t, dec_f, wrap_i64, wrap_u32, wrap_u64, wrap_u8, hd, e0, e3, e5, e6, hr3, hN3]
    refine ⟨_, ?_, rfl⟩
    refine (h3.ac (show _ = RowO 3 1 v l.length (intR (l.map (·.1))) * (TabQ B m1 m2 (adel x ps) ws * (LkQ b (.slice a1 hs.length c1) v2 hs q * (Blk N (.cells (namC x).toArray 40 (0, 0)) * F))) by unfold TabQ; ac_rfl)).ent ?_
    exact Ent.sep (Ent.rfl' _) (Ent.sep (TabQ.shut B m1 m2 _ ws (by rw [← adel_amap])) ((Ent.right _ _).trans (Ent.right _ _)))
  · rw [if_neg (by intro hx; exact hh (by rw [hx]; rfl))]
    simp -dsimp -implicitDefEqProofs (disch := omega) only [go_sem, reqD_of, dec_t, dec_f, wrap_i64, wrap_u32, wrap_u64, wrap_u8, hd, e0, e3, e5, e6, hb, hh]
    refine ⟨_, ?_, rfl⟩
    refine h.ent (Ent.sep (Ent.rfl' _) ?_)
    refine ((TabQ.ins (s' := (hs, q)) hk).trans (Ent.sep (TabQ.shut B m1 m2 _ ws ?_) (Ent.right _ _)))
    rw [← aset_amap]

end
end Go.Proofs.YtacmnfpgimgigaaGreat

namespace Go.Proofs.YtacmnfpgimgigaaGreat
open Go
set_option linter.unusedSimpArgs false
set_option linter.unusedVariables false
set_option maxRecDepth 100000

theorem adm_stop {h : List Claim} {c : Claim} {q : List Claim} (hx : letsB h c.2 = false) : adm h (c :: q) = (h, c :: q, []) := by
  rw [adm, if_neg (by simp [hx])]
theorem adm_go {h : List Claim} {c : Claim} {q : List Claim} (hx : letsB h c.2 = true) : adm h (c :: q) = ((adm (h ++ [c]) q).1, (adm (h ++ [c]) q).2.1, c :: (adm (h ++ [c]) q).2.2) := by
  rw [adm, if_pos hx]

/-- Where the table stands in the midst of letting in. -/
def AdmI (B m1 m2 N b : Nat) (ps : Ptrs) (ws : List (Int × Nee)) (x : Nam) (v1 v2 v : Value) (hs q l : List Claim) (F : HP) : HP :=
  RowO 3 1 v l.length (intR (l.map (·.1))) * (LkQ b v1 v2 hs q * (TabR B m1 m2 ps ws x * (Blk N (.cells (namC x).toArray 40 (0, 0)) * F)))

theorem delAll_app (l : List Claim) (c : Claim) (ws : List (Int × Nee)) : delAll (l ++ [c]) ws = adel c.1 (delAll l ws) := by simp [delAll]

section
attribute [local go_sem] F41.t4_eq F41.t11_eq
theorem admit_any {w0 w : World} {F : HP} {B : Nat} {ls : List (Nam × LkS)} {ws0 : List (Int × Nee)} {x : Nam} {s : LkS} {hs' q' l' : List Claim} (h : St w0 (TabP B ls ws0 * F) w) (hls : agt x ls = some s) (hA : adm s.1 s.2 = (hs', q', l')) (hl : s.1.length + s.2.length < 1099511627776) :
    Calls Tryz.prog 41 #[.pointer (some ⟨B, 0, none⟩), namV x] w fun e w' => ∃ v, St w0 (RowO 3 1 v l'.length (intR (l'.map (·.1))) * (TabP B (if hs' = [] then adel x ls else aset x (hs', q') ls) (delAll l' ws0) * F)) w' ∧ e = .returned v := by
  refine F41.calls (by simp) ?_
  unfold F41.code
  simp -dsimp -implicitDefEqProofs (disch := omega) only [go_sem, reqD_of, dec_t, dec_f, wrap_i64, wrap_u32, wrap_u64, wrap_u8]
  refine h.new fun N w1 h1 => ?_
  obtain ⟨m1, m2, ps, hps, h2⟩ := TabP.open h1.drew.sw2
  have hr := TabQ.root h2
  have hN : rowV w1.drew ⟨N, 0, none⟩ 3 = some (namV x) := (h2.sw2).row (n := 3) (arr := (namC x).toArray) rfl
  simp -dsimp -implicitDefEqProofs (disch := omega) only [go_sem, reqD_of, dec_t, dec_f, wrap_i64, wrap_u32, wrap_u64, wrap_u8, hr, hN]
  refine (h2.ac TabQ.map1).lookup Tryz.underlying55 lawN zeroV67 ?_
  rw [lk_amap]
  obtain ⟨⟨b, s0⟩, hk, rfl⟩ : ∃ bs, agt x ps = some bs ∧ bs.2 = s := by
    rw [← hps, agt_amap] at hls
    obtain ⟨bs, h1, h2⟩ := Option.map_eq_some_iff.1 hls
    exact ⟨bs, h1, h2⟩
  simp only at hA hl hls
  rw [hk, Option.map_some]
  subst hps
  have h3 := h2
  rw [TabQ.lock hk] at h3
  unfold LkP at h3
  obtain ⟨⟨v1, v2⟩, h3⟩ := h3.exF
  simp only at h3
  simp -dsimp -implicitDefEqProofs (disch := omega) only [go_sem, reqD_of, dec_t, dec_f, wrap_i64, wrap_u32, wrap_u64, wrap_u8, lkV_some, ptrV, hr, hN]
  refine loop_intro (fun e w' => e.ds = [] ∧ e.ρ 0 = .pointer (some ⟨B, 0, none⟩) ∧ e.ρ 3 = .pointer (some ⟨N, 0, none⟩) ∧ e.ρ 5 = .pointer (some ⟨b, 0, none⟩) ∧
      ∃ (v1 v2 v : Value) (hs q l : List Claim), e.ρ 6 = v ∧ St w0 (AdmI B m1 m2 N b ps (delAll l ws0) x v1 v2 v hs q l F) w' ∧ adm s0.1 s0.2 = ((adm hs q).1, (adm hs q).2.1, l ++ (adm hs q).2.2) ∧ hs.length + q.length < 1099511627776 ∧ l.length + q.length < 1099511627776)
    (fun _ w => match w.cell? ⟨b, 1, none⟩ with | some (.slice _ n _) => n | _ => 0) ?_ ?_
  · refine ⟨rfl, by simp -dsimp -implicitDefEqProofs only [go_sem], by simp -dsimp -implicitDefEqProofs only [go_sem], by simp -dsimp -implicitDefEqProofs only [go_sem], v1, v2, _, s0.1, s0.2, [], rfl, ?_, by simp, hl, by simp; omega⟩
    exact h3.ent (Ent.nilRowO 3 1 _)
  rintro e w ⟨hd, e0, e3, e5, v1, v2, v, hs, q, l, e6, h, hadm, hb1, hb2⟩
  unfold AdmI at h
  have hb := LkQ.blk h.sw2
  obtain ⟨a1, c1, rfl, _, _, _⟩ := RowO.form (h.ac (show _ = RowO 76 2 v1 hs.length (clR hs) * (Blk b (.cells #[v1, v2] 73 (0, 0)) * (RowO 76 2 v2 q.length (clR q) * (RowO 3 1 v l.length (intR (l.map (·.1))) * (TabR B m1 m2 ps (delAll l ws0) x * (Blk N (.cells (namC x).toArray 40 (0, 0)) * F))))) by unfold LkQ; ac_rfl))
  obtain ⟨a2, c2, rfl, _, hqc, _⟩ := RowO.form (h.ac (show _ = RowO 76 2 v2 q.length (clR q) * (Blk b (.cells #[.slice a1 hs.length c1, v2] 73 (0, 0)) * (RowO 76 2 (.slice a1 hs.length c1) hs.length (clR hs) * (RowO 3 1 v l.length (intR (l.map (·.1))) * (TabR B m1 m2 ps (delAll l ws0) x * (Blk N (.cells (namC x).toArray 40 (0, 0)) * F))))) by unfold LkQ; ac_rfl))
  obtain ⟨a3, c3, rfl, _, _, _⟩ := RowO.form h
  rcases q with _ | ⟨c, q⟩
  · simp only [adm, List.append_nil] at hadm
    have hx := hA.symm.trans hadm
    simp only [Prod.mk.injEq] at hx
    obtain ⟨rfl, rfl, rfl⟩ := hx
    simp -dsimp -implicitDefEqProofs (disch := omega) only [go_sem, reqD_of, dec_t, dec_f, wrap_i64, wrap_u32, wrap_u64, wrap_u8, hd, e0, e3, e5, e6, hb, List.length_nil]
    exact admit_end h hk (by simp -dsimp -implicitDefEqProofs only [go_sem, hd]) (by simp -dsimp -implicitDefEqProofs only [go_sem, e0]) (by simp -dsimp -implicitDefEqProofs only [go_sem, e3]) (by simp -dsimp -implicitDefEqProofs only [go_sem, e5]) (by simp -dsimp -implicitDefEqProofs only [go_sem, e6])
  obtain ⟨_, a2', c2', hv, _, hcl⟩ := claimAt (h.sw2.ent (LkQ.queue _ _ _ _ _ _))
  simp only [Value.slice.injEq, true_and] at hv
  obtain ⟨rfl, rfl⟩ := hv
  obtain ⟨g, o, rfl, hrow, hx0, hx1⟩ := hcl 0 (by simp)
  simp only [Nat.zero_mul, Nat.add_zero, List.getElem_cons_zero] at hrow hx0 hx1
  have hpos : (0 : Int) < ((c :: q).length : Int) := by simp only [List.length_cons]; omega
  cases hlet : letsB hs c.2
  · rw [adm_stop hlet] at hadm
    simp only [List.append_nil] at hadm
    have hx := hA.symm.trans hadm
    simp only [Prod.mk.injEq] at hx
    obtain ⟨rfl, rfl, rfl⟩ := hx
    simp -dsimp -implicitDefEqProofs (disch := omega) only [go_sem, reqD_of, dec_t, dec_f, wrap_i64, wrap_u32, wrap_u64, wrap_u8, hd, e0, e3, e5, e6, hb, hpos, hx1]
    refine (lets_any h.sw2).mono ?_
    rintro e' w1 ⟨h1, rfl⟩
    simp -dsimp -implicitDefEqProofs (disch := omega) only [go_sem, reqD_of, dec_t, dec_f, wrap_i64, wrap_u32, wrap_u64, wrap_u8, hd, e0, e3, e5, e6, hlet]
    exact admit_end h1.sw2 hk (by simp -dsimp -implicitDefEqProofs only [go_sem, hd]) (by simp -dsimp -implicitDefEqProofs only [go_sem, e0]) (by simp -dsimp -implicitDefEqProofs only [go_sem, e3]) (by simp -dsimp -implicitDefEqProofs only [go_sem, e5]) (by simp -dsimp -implicitDefEqProofs only [go_sem, e6])
  simp -dsimp -implicitDefEqProofs (disch := omega) only [go_sem, reqD_of, dec_t, dec_f, wrap_i64, wrap_u32, wrap_u64, wrap_u8, hd, e0, e3, e5, e6, hb, hpos, hx1]
  refine (lets_any h.sw2).mono ?_
  rintro e' w1 ⟨h1, rfl⟩
  have hb1' := LkQ.blk h1
  obtain ⟨_, a2', c2', hv, _, hcl⟩ := claimAt (h1.ent (LkQ.queue _ _ _ _ _ _))
  simp only [Value.slice.injEq, true_and] at hv
  obtain ⟨rfl, rfl⟩ := hv
  obtain ⟨g', o', hv, hrow, hx0, hx1⟩ := hcl 0 (by simp)
  simp only [Option.some.injEq, Addr.mk.injEq, and_true] at hv
  obtain ⟨rfl, rfl⟩ := hv
  simp only [Nat.zero_mul, Nat.add_zero, List.getElem_cons_zero] at hrow hx0 hx1
  simp -dsimp -implicitDefEqProofs (disch := omega) only [go_sem, reqD_of, dec_t, dec_f, wrap_i64, wrap_u32, wrap_u64, wrap_u8, hd, e0, e3, e5, e6, hlet, hb1', hpos, hrow]
  refine h1.new fun C w2 h2 => ?_
  simp -dsimp -implicitDefEqProofs (disch := omega) only [go_sem, reqD_of, dec_t, dec_f, wrap_i64, wrap_u32, wrap_u64, wrap_u8]
  refine h2.storeAll (cs := clC c) rfl rfl (by intro v hv; simp only [clC, List.mem_cons, List.not_mem_nil, or_false] at hv; rcases hv with rfl | rfl <;> rfl) fun w3 h3 => ?_
  have h4 := h3.drew
  have hb4 := LkQ.blk h4.right
  simp -dsimp -implicitDefEqProofs (disch := omega) only [go_sem, reqD_of, dec_t, dec_f, wrap_i64, wrap_u32, wrap_u64, wrap_u8, hd, e0, e3, e5, e6, hb4]
  obtain ⟨v2', hv2'⟩ : ∃ v, v = Value.slice (if (c :: q).length = 1 then some ⟨g, o, none⟩ else some ⟨g, o + 2, none⟩) ((c :: q).length - 1) ((c :: q).length - 1) := ⟨_, rfl⟩
  have hqq : (c :: q).length - 1 = q.length := rfl
  rw [← hv2']
  rw [hqq] at hv2'
  have h5 := h4.ac (show _ = Blk b (.cells #[.slice a1 hs.length c1, .slice (some ⟨g, o, none⟩) (c :: q).length c2] 73 (0, 0)) * (RowO 76 2 (.slice (some ⟨g, o, none⟩) (c :: q).length c2) (c :: q).length (clR (c :: q)) * (RowO 76 2 (.slice a1 hs.length c1) hs.length (clR hs) * (Blk C (.cells (clC c).toArray 76 (0, 0)) * (RowO 3 1 (.slice a3 l.length c3) l.length (intR (l.map (·.1))) * (TabR B m1 m2 ps (delAll l ws0) x * (Blk N (.cells (namC x).toArray 40 (0, 0)) * F)))))) by unfold LkQ; ac_rfl)
  refine h5.store (arr' := #[.slice a1 hs.length c1, v2']) rfl (by simp) (by rw [hv2']; rfl) fun w4 h6 => ?_
  have hcut := RowO.cut (T := 76) (s := 2) (n := (c :: q).length) (c := c2) (a := some ⟨g, o, none⟩) (xs := clR (c :: q)) (lo := 1) (k := q.length) (m := (c :: q).length) (by simp only [List.length_cons]; omega) (by simp only [List.length_cons]; omega) hqc
  rw [clR_drop, clR_take, List.drop_succ_cons, List.drop_zero, List.take_length, hqq] at hcut
  simp only [Option.map_some, add_lit, Nat.one_mul, ← hv2'] at hcut
  have h7 : St w0 (Blk b (.cells #[.slice a1 hs.length c1, v2'] 73 (0, 0)) * (RowO 76 2 v2' q.length (clR q) * (RowO 76 2 (.slice a1 hs.length c1) hs.length (clR hs) * (Blk C (.cells (clC c).toArray 76 (0, 0)) * (RowO 3 1 (.slice a3 l.length c3) l.length (intR (l.map (·.1))) * (TabR B m1 m2 ps (delAll l ws0) x * (Blk N (.cells (namC x).toArray 40 (0, 0)) * F))))))) w4 := h6.ent (Ent.sep (Ent.rfl' _) (Ent.sep hcut (Ent.rfl' _)))
  have h8 := h7.drew
  have hb8 := h8.cells
  have hC8 : rowV w4.drew ⟨C, 0, none⟩ 2 = some (.agg #[.int .i64 c.1, .bool c.2]) := (h8.ac (show _ = Blk C (.cells (clC c).toArray 76 (0, 0)) * (Blk b (.cells #[.slice a1 hs.length c1, v2'] 73 (0, 0)) * (RowO 76 2 v2' q.length (clR q) * (RowO 76 2 (.slice a1 hs.length c1) hs.length (clR hs) * (RowO 3 1 (.slice a3 l.length c3) l.length (intR (l.map (·.1))) * (TabR B m1 m2 ps (delAll l ws0) x * (Blk N (.cells (namC x).toArray 40 (0, 0)) * F)))))) by ac_rfl)).row (n := 2) rfl
  simp -dsimp -implicitDefEqProofs (disch := omega) only [go_sem, reqD_of, dec_t, dec_f, wrap_i64, wrap_u32, wrap_u64, wrap_u8, hd, e0, e3, e5, e6, hb8, hC8]
  refine h8.buildSlice (s := 2) fact_rowTy_71 (cells := clR [c]) rfl (by decide) (by decide) fun v3 w5 h9 => ?_
  have hb9 := h9.sw2.cells
  simp -dsimp -implicitDefEqProofs (disch := omega) only [go_sem, reqD_of, dec_t, dec_f, wrap_i64, wrap_u32, wrap_u64, wrap_u8, hb9]
  have h10 := h9.ac (show _ = RowO 76 2 (.slice a1 hs.length c1) hs.length (clR hs) * (Row 76 2 v3 1 (clR [c]) * (Blk b (.cells #[.slice a1 hs.length c1, v2'] 73 (0, 0)) * (RowO 76 2 v2' q.length (clR q) * (Blk C (.cells (clC c).toArray 76 (0, 0)) * (RowO 3 1 (.slice a3 l.length c3) l.length (intR (l.map (·.1))) * (TabR B m1 m2 ps (delAll l ws0) x * (Blk N (.cells (namC x).toArray 40 (0, 0)) * F))))))) by ac_rfl)
  simp only [List.length_cons] at hb1 hb2
  refine h10.appendO fact_rowTy_71 (((h10.right.left.ent (Row.reads _ _ _ _ _)).rd).src Tryz.underlying71 (clR_cells _) (by simp [clR])) (by simp [maxLen]; omega) (by omega) fun v4 w6 h11 => ?_
  rw [← clR_app] at h11
  obtain ⟨a4, c4, rfl, _⟩ := RowO.form h11
  have h12 := h11.ac (show _ = Blk b (.cells #[.slice a1 hs.length c1, v2'] 73 (0, 0)) * (RowO 76 2 (.slice a4 (hs.length + 1) c4) (hs.length + 1) (clR (hs ++ [c])) * (Row 76 2 v3 1 (clR [c]) * (RowO 76 2 v2' q.length (clR q) * (Blk C (.cells (clC c).toArray 76 (0, 0)) * (RowO 3 1 (.slice a3 l.length c3) l.length (intR (l.map (·.1))) * (TabR B m1 m2 ps (delAll l ws0) x * (Blk N (.cells (namC x).toArray 40 (0, 0)) * F))))))) by ac_rfl)
  have hb12 := h12.cells
  simp -dsimp -implicitDefEqProofs (disch := omega) only [go_sem, reqD_of, dec_t, dec_f, wrap_i64, wrap_u32, wrap_u64, wrap_u8, hb12]
  refine h12.store (arr' := #[.slice a4 (hs.length + 1) c4, v2']) rfl (by simp) rfl fun w7 h13 => ?_
  have h14 := h13.drew.ac (show _ = MapP encI m2 (amap needV (delAll l ws0)) * (Blk B (.cells #[.map (some m1), .map (some m2)] 58 (0, 0)) * (Blk C (.cells (clC c).toArray 76 (0, 0)) * (LkQ b (.slice a4 (hs.length + 1) c4) v2' (hs ++ [c]) q * (Row 76 2 v3 1 (clR [c]) * (RowO 3 1 (.slice a3 l.length c3) l.length (intR (l.map (·.1))) * (MapP namV m1 (amap ptrV ps) * (stars (fun p => LkP p.2.1 p.2.2) (adel x ps) * (Blk N (.cells (namC x).toArray 40 (0, 0)) * F)))))))) by
    unfold LkQ TabR; rw [List.length_append]; simp only [List.length_cons, List.length_nil, Nat.zero_add]; ac_rfl)
  have hr14 := h14.sw2.cells
  have hC14 := h14.sw3.cells
  unfold clC at hC14
  simp -dsimp -implicitDefEqProofs (disch := omega) only [go_sem, reqD_of, dec_t, dec_f, wrap_i64, wrap_u32, wrap_u64, wrap_u8, hd, e0, e3, e5, e6, hr14, hC14]
  refine h14.delete Tryz.underlying56 lawI fun w8 h15 => ?_
  rw [del_amap, ← delAll_app] at h15
  have hr15 := h15.sw2.cells
  have hC15 := h15.sw3.cells
  unfold clC at hC15
  simp -dsimp -implicitDefEqProofs (disch := omega) only [go_sem, reqD_of, dec_t, dec_f, wrap_i64, wrap_u32, wrap_u64, wrap_u8, hd, e0, e3, e5, e6, hr15, hC15]
  refine h15.buildSlice (s := 1) fact_rowTy_32 (cells := [.int .i64 c.1]) rfl (by decide) (by decide) fun v5 w9 h16 => ?_
  simp -dsimp -implicitDefEqProofs (disch := omega) only [go_sem, reqD_of, dec_t, dec_f, wrap_i64, wrap_u32, wrap_u64, wrap_u8, e6]
  have h17 := h16.ac (show _ = RowO 3 1 (.slice a3 l.length c3) l.length (intR (l.map (·.1))) * (Row 3 1 v5 1 [.int .i64 c.1] * (LkQ b (.slice a4 (hs.length + 1) c4) v2' (hs ++ [c]) q * (TabR B m1 m2 ps (delAll (l ++ [c]) ws0) x * (Blk N (.cells (namC x).toArray 40 (0, 0)) * (Row 76 2 v3 1 (clR [c]) * (Blk C (.cells (clC c).toArray 76 (0, 0)) * F)))))) by unfold TabR; ac_rfl)
  refine h17.appendO fact_rowTy_32 (((h17.right.left.ent (Row.reads _ _ _ _ _)).rd).src Tryz.underlying32 (intR_cells [c.1]) (by simp)) (by simp [maxLen]; omega) (by omega) fun v6 w10 h18 => ?_
  have hin : intR (l.map (·.1)) ++ [Value.int .i64 c.1] = intR ((l ++ [c]).map (·.1)) := by simp [intR]
  rw [hin] at h18
  have h19 : St w0 (AdmI B m1 m2 N b ps (delAll (l ++ [c]) ws0) x (.slice a4 (hs.length + 1) c4) v2' v6 (hs ++ [c]) q (l ++ [c]) F) w10 := by
    unfold AdmI
    rw [List.length_append]
    refine h18.ent (Ent.sep (Ent.rfl' _) ((Ent.right _ _).trans (Ent.sep (Ent.rfl' _) (Ent.sep (Ent.rfl' _) (Ent.sep (Ent.rfl' _) ((Ent.right _ _).trans (Ent.right _ _)))))))
  have hcell := LkQ.blk (show St w0 (LkQ b (.slice a4 (hs.length + 1) c4) v2' (hs ++ [c]) q * (RowO 3 1 v6 (l ++ [c]).length (intR ((l ++ [c]).map (·.1))) * (TabR B m1 m2 ps (delAll (l ++ [c]) ws0) x * (Blk N (.cells (namC x).toArray 40 (0, 0)) * F)))) w10 from h19.sw2)
  rw [adm_go hlet] at hadm
  simp -dsimp -implicitDefEqProofs (disch := omega) only [go_sem, reqD_of, dec_t, dec_f, wrap_i64, wrap_u32, wrap_u64, wrap_u8, hd, e0, e3, e5, e6]
  refine ⟨⟨_, v2', v6, hs ++ [c], q, l ++ [c], rfl, h19, by rw [hadm]; simp, by rw [List.length_append]; simp only [List.length_cons, List.length_nil]; omega, by rw [List.length_append]; simp only [List.length_cons, List.length_nil]; omega⟩, ?_⟩
  rw [hcell 1, hb 1, hv2']
  simp

/-- Where a claim is, as a place. -/
theorem posC_spec (who : Int) : ∀ (l : List Claim) (k : Nat), posC who l k = -1 ∨ ∃ i, i < l.length ∧ posC who l k = ((k + i : Nat) : Int)
  | [], k => .inl rfl
  | c :: l, k => by
    unfold posC
    split
    · exact .inr ⟨0, by simp, by simp⟩
    · rcases posC_spec who l (k + 1) with h | ⟨i, hi, h⟩
      · exact .inl h
      · exact .inr ⟨i + 1, by simpa using hi, by rw [h]; omega⟩

/-- What Free does: whom it let in, the error, the table. -/
def freeS (who : Int) (x : Nam) (ls : List (Nam × LkS)) (ws : List (Int × Nee)) : (List Claim × Int) × List (Nam × LkS) × List (Int × Nee) :=
  match agt x ls with
  | none => (([], 1), ls, ws)
  | some s =>
    if posC who s.1 0 < 0 then (([], 1), ls, ws)
    else (((adm (s.1.eraseIdx (posC who s.1 0).toNat) s.2).2.2, 0),
      if (adm (s.1.eraseIdx (posC who s.1 0).toNat) s.2).1 = [] then adel x (aset x (s.1.eraseIdx (posC who s.1 0).toNat, s.2) ls) else aset x ((adm (s.1.eraseIdx (posC who s.1 0).toNat) s.2).1, (adm (s.1.eraseIdx (posC who s.1 0).toNat) s.2).2.1) (aset x (s.1.eraseIdx (posC who s.1 0).toNat, s.2) ls),
      delAll (adm (s.1.eraseIdx (posC who s.1 0).toNat) s.2).2.2 ws)

end
section
attribute [local go_sem] F15.t7_eq F15.t4_eq
theorem free_any {w0 w : World} {F : HP} {B : Nat} {ls : List (Nam × LkS)} {ws : List (Int × Nee)} {x : Nam} {who : Int} {l : List Claim} {er : Int} {ls' : List (Nam × LkS)} {ws' : List (Int × Nee)} (h : St w0 (TabP B ls ws * F) w) (hR : freeS who x ls ws = ((l, er), ls', ws'))
    (hl : ((agt x ls).getD ([], [])).1.length + ((agt x ls).getD ([], [])).2.length < 1099511627776) :
    Calls Tryz.prog 15 #[.pointer (some ⟨B, 0, none⟩), .int .i64 who, namV x] w fun e w' => ∃ v, St w0 (RowO 3 1 v l.length (intR (l.map (·.1))) * (TabP B ls' ws' * F)) w' ∧ e = .returned (.tuple #[v, .int .i64 er]) := by
  refine F15.calls (by simp) ?_
  unfold F15.code
  simp -dsimp -implicitDefEqProofs (disch := omega) only [go_sem, reqD_of, dec_t, dec_f, wrap_i64, wrap_u32, wrap_u64, wrap_u8]
  refine h.new fun N w1 h1 => ?_
  obtain ⟨m1, m2, ps, hps, h2⟩ := TabP.open h1.drew.sw2
  have hr := TabQ.root h2
  have hN : rowV w1.drew ⟨N, 0, none⟩ 3 = some (namV x) := (h2.sw2).row (n := 3) (arr := (namC x).toArray) rfl
  simp -dsimp -implicitDefEqProofs (disch := omega) only [go_sem, reqD_of, dec_t, dec_f, wrap_i64, wrap_u32, wrap_u64, wrap_u8, hr, hN]
  refine (h2.ac TabQ.map1).lookup Tryz.underlying55 lawN zeroV67 ?_
  rw [lk_amap]
  cases hk : agt x ps with
  | none =>
    have hls : agt x ls = none := by rw [← hps, agt_amap, hk]; rfl
    obtain ⟨⟨rfl, rfl⟩, rfl, rfl⟩ : (l = [] ∧ er = 1) ∧ ls' = ls ∧ ws' = ws := by have := hR.symm; simpa [freeS, hls] using this
    rw [Option.map_none]
    simp -dsimp -implicitDefEqProofs (disch := omega) only [go_sem, reqD_of, dec_t, dec_f, wrap_i64, wrap_u32, wrap_u64, wrap_u8, lkV_none, hr, hN]
    refine ⟨_, ?_, rfl⟩
    refine (h2.ent (Ent.sep (TabQ.shut B m1 m2 ps _ hps) (Ent.right _ _))).ent ?_
    exact Ent.nilRowO 3 1 _
  | some bs =>
    obtain ⟨b, s⟩ := bs
    have hls : agt x ls = some s := by rw [← hps, agt_amap, hk]; rfl
    rw [hls] at hl
    simp only [Option.getD_some] at hl
    rw [Option.map_some]
    have h3 := h2
    rw [TabQ.lock hk] at h3
    unfold LkP at h3
    obtain ⟨⟨v1, v2⟩, h3⟩ := h3.exF
    simp only at h3
    simp -dsimp -implicitDefEqProofs (disch := omega) only [go_sem, reqD_of, dec_t, dec_f, wrap_i64, wrap_u32, wrap_u64, wrap_u8, lkV_some, ptrV, hr, hN]
    refine (holds_any h3 (by omega)).mono ?_
    rintro e w2 ⟨h4, rfl⟩
    rcases posC_spec who s.1 0 with hp | ⟨i, hi, hp⟩
    · obtain ⟨⟨rfl, rfl⟩, rfl, rfl⟩ : (l = [] ∧ er = 1) ∧ ls' = ls ∧ ws' = ws := by have := hR.symm; simpa [freeS, hls, hp] using this
      simp -dsimp -implicitDefEqProofs (disch := omega) only [go_sem, reqD_of, dec_t, dec_f, wrap_i64, wrap_u32, wrap_u64, wrap_u8, hp]
      refine ⟨_, ?_, rfl⟩
      refine h4.ent (((TabQ.ins hk).trans (Ent.sep (TabQ.shut B m1 m2 _ _ ?_) (Ent.right _ _))).trans (Ent.nilRowO 3 1 _))
      rw [← aset_amap, aset_same x s _ (by rw [hps]; exact hls), hps]
    · rw [Nat.zero_add] at hp
      have hp2 : ¬ ((i : Int) < 0) := by omega
      have hb4 := LkQ.blk h4
      obtain ⟨⟨hs', q', l0⟩, hA⟩ : ∃ y, adm (s.1.eraseIdx i) s.2 = y := ⟨_, rfl⟩
      obtain ⟨⟨rfl, rfl⟩, rfl, rfl⟩ : (l = l0 ∧ er = 0) ∧ ls' = (if hs' = [] then adel x (aset x (s.1.eraseIdx i, s.2) ls) else aset x (hs', q') (aset x (s.1.eraseIdx i, s.2) ls)) ∧ ws' = delAll l0 ws := by
        have := hR.symm; simp only [freeS, hls, hp, if_neg hp2, Int.toNat_natCast, hA, Prod.mk.injEq] at this; exact this
      simp -dsimp -implicitDefEqProofs (disch := omega) only [go_sem, reqD_of, dec_t, dec_f, wrap_i64, wrap_u32, wrap_u64, wrap_u8, hp, hp2, hb4]
      refine (delete_any (h4.ac (show _ = RowO 76 2 v1 s.1.length (clR s.1) * (Blk b (.cells #[v1, v2] 73 (0, 0)) * (RowO 76 2 v2 s.2.length (clR s.2) * (TabR B m1 m2 ps ws x * (Blk N (.cells (namC x).toArray 40 (0, 0)) * F)))) by unfold LkQ; ac_rfl)) hi (by omega)).mono ?_
      rintro e w3 ⟨v1', h5, rfl⟩
      obtain ⟨a1, c1, rfl, _, _, _⟩ := RowO.form h5
      simp -dsimp -implicitDefEqProofs (disch := omega) only [go_sem, reqD_of, dec_t, dec_f, wrap_i64, wrap_u32, wrap_u64, wrap_u8]
      refine (h5.sw2).store (arr' := #[.slice a1 (s.1.eraseIdx i).length c1, v2]) rfl (by simp) rfl fun w4 h6 => ?_
      have h7 := h6.ac (show _ = LkQ b (.slice a1 (s.1.eraseIdx i).length c1) v2 (s.1.eraseIdx i) s.2 * (TabR B m1 m2 ps ws x * (Blk N (.cells (namC x).toArray 40 (0, 0)) * F)) by unfold LkQ; ac_rfl)
      have h8 := h7.ent (TabQ.ins (s' := (s.1.eraseIdx i, s.2)) hk)
      have hN8 : rowV w4 ⟨N, 0, none⟩ 3 = some (namV x) := (h8.sw2).row (n := 3) (arr := (namC x).toArray) rfl
      simp -dsimp -implicitDefEqProofs (disch := omega) only [go_sem, reqD_of, dec_t, dec_f, wrap_i64, wrap_u32, wrap_u64, wrap_u8, hN8]
      have h9 := h8.ent (Ent.sep (TabQ.shut B m1 m2 _ ws (ls := aset x (s.1.eraseIdx i, s.2) ls) (by rw [← aset_amap, hps])) (Ent.rfl' _))
      have hlen : (s.1.eraseIdx i).length ≤ s.1.length := by rw [List.length_eraseIdx]; split <;> omega
      refine (admit_any h9 (agt_aset _ _ _) hA (show (s.1.eraseIdx i).length + s.2.length < _ by omega)).mono ?_
      rintro e w5 ⟨v, h10, rfl⟩
      simp -dsimp -implicitDefEqProofs (disch := omega) only [go_sem, reqD_of, dec_t, dec_f, wrap_i64, wrap_u32, wrap_u64, wrap_u8]
      refine ⟨_, ?_, rfl⟩
      exact h10.ent (Ent.sep (Ent.rfl' _) (Ent.sep (Ent.rfl' _) (Ent.right _ _)))

end
end Go.Proofs.YtacmnfpgimgigaaGreat

namespace Go.Proofs.YtacmnfpgimgigaaGreat
open Go
set_option linter.unusedSimpArgs false
set_option linter.unusedVariables false
set_option maxRecDepth 100000


theorem one_any {w0 w : World} {F : HP} (h : St w0 F w) : Calls Tryz.prog 12 #[.int .i64 5] w fun e w' => St w0 F w' ∧ e = .returned (namV (3, 0, 5)) := by
  refine F12.calls (by simp) ?_
  unfold F12.code
  simp -dsimp -implicitDefEqProofs (disch := omega) only [go_sem, reqD_of, dec_t, dec_f, wrap_i64, wrap_u32, wrap_u64, wrap_u8]
  refine h.new fun B w1 h1 => ?_
  simp -dsimp -implicitDefEqProofs (disch := omega) only [go_sem, reqD_of, dec_t, dec_f, wrap_i64, wrap_u32, wrap_u64, wrap_u8]
  refine onV_of (v := namV (3, 0, 5)) rfl ?_
  simp -dsimp -implicitDefEqProofs (disch := omega) only [go_sem, reqD_of, dec_t, dec_f, wrap_i64, wrap_u32, wrap_u64, wrap_u8]
  refine h1.storeAll (cs := namC (3, 0, 5)) rfl rfl (namC_cells _) fun w2 h2 => ?_
  have hrow := h2.row (n := 3) rfl
  simp -dsimp -implicitDefEqProofs (disch := omega) only [go_sem, reqD_of, dec_t, dec_f, wrap_i64, wrap_u32, wrap_u64, wrap_u8]
  refine resC_1 (a := ⟨B, 0, none⟩) (v := namV (3, 0, 5)) (by simp -dsimp -implicitDefEqProofs only [go_sem]) (run_loadVar_row fact_aggSz_40 (by rw [hrow])) ?_
  exact ⟨h2.right, rfl⟩

def exA : Nam := (3, 0, 5)
theorem ex1 : askS 1 (exA, false) [] [] = ((true, 0), [(exA, ([(1, false)], []))], []) := rfl
theorem ex2 : askS 2 (exA, false) [(exA, ([(1, false)], []))] [] = ((true, 0), [(exA, ([(1, false), (2, false)], []))], []) := rfl
theorem ex3 : askS 3 (exA, true) [(exA, ([(1, false), (2, false)], []))] [] = ((false, 0), [(exA, ([(1, false), (2, false)], [(3, true)]))], [(3, (exA, true))]) := rfl
theorem ex4 : askS 4 (exA, false) [(exA, ([(1, false), (2, false)], [(3, true)]))] [(3, (exA, true))] = ((false, 0), [(exA, ([(1, false), (2, false)], [(3, true), (4, false)]))], [(3, (exA, true)), (4, (exA, false))]) := rfl
theorem ex5 : freeS 1 exA [(exA, ([(1, false), (2, false)], [(3, true), (4, false)]))] [(3, (exA, true)), (4, (exA, false))] = (([], 0), [(exA, ([(2, false)], [(3, true), (4, false)]))], [(3, (exA, true)), (4, (exA, false))]) := rfl
theorem ex6 : freeS 2 exA [(exA, ([(2, false)], [(3, true), (4, false)]))] [(3, (exA, true)), (4, (exA, false))] = (([(3, true)], 0), [(exA, ([(3, true)], [(4, false)]))], [(4, (exA, false))]) := rfl
theorem ex7 : freeS 3 exA [(exA, ([(3, true)], [(4, false)]))] [(4, (exA, false))] = (([(4, false)], 0), [(exA, ([(4, false)], []))], []) := rfl

section
attribute [local go_sem] F4.t11_eq F4.t4_eq
theorem known_any {w0 w : World} {F : HP} (h : St w0 F w) : Calls Tryz.prog 4 #[] w fun e w' => St w0 F w' ∧ e = .returned (.bool true) := by
  refine F4.calls (by simp) ?_
  unfold F4.code
  simp -dsimp -implicitDefEqProofs (disch := omega) only [go_sem, reqD_of, dec_t, dec_f, wrap_i64, wrap_u32, wrap_u64, wrap_u8]
  refine (new_any h).mono ?_
  rintro e w1 ⟨B, h1, rfl⟩
  simp -dsimp -implicitDefEqProofs (disch := omega) only [go_sem, reqD_of, dec_t, dec_f, wrap_i64, wrap_u32, wrap_u64, wrap_u8]
  refine (one_any h1).mono ?_
  rintro e w2 ⟨h2, rfl⟩
  simp -dsimp -implicitDefEqProofs (disch := omega) only [go_sem, reqD_of, dec_t, dec_f, wrap_i64, wrap_u32, wrap_u64, wrap_u8]
  refine h2.new fun A w3 h3 => ?_
  simp -dsimp -implicitDefEqProofs (disch := omega) only [go_sem, reqD_of, dec_t, dec_f, wrap_i64, wrap_u32, wrap_u64, wrap_u8]
  refine h3.storeAll (cs := namC exA) rfl rfl (namC_cells _) fun w4 h4 => ?_
  have hA4 : rowV w4 ⟨A, 0, none⟩ 3 = some (namV exA) := h4.row (n := 3) rfl
  simp -dsimp -implicitDefEqProofs (disch := omega) only [go_sem, reqD_of, dec_t, dec_f, wrap_i64, wrap_u32, wrap_u64, wrap_u8, hA4]
  refine onV_of (v := needV (exA, false)) rfl ?_
  simp -dsimp -implicitDefEqProofs (disch := omega) only [go_sem, reqD_of, dec_t, dec_f, wrap_i64, wrap_u32, wrap_u64, wrap_u8]
  refine (ask_any (n := (exA, false)) h4.sw2 ex1 (by decide) (by decide)).mono ?_
  rintro e w5 ⟨h5, rfl⟩
  have hA5 : rowV w5 ⟨A, 0, none⟩ 3 = some (namV exA) := h5.sw2.row (n := 3) rfl
  simp -dsimp -implicitDefEqProofs (disch := omega) only [go_sem, reqD_of, dec_t, dec_f, wrap_i64, wrap_u32, wrap_u64, wrap_u8, hA5]
  refine onV_of (v := needV (exA, false)) rfl ?_
  simp -dsimp -implicitDefEqProofs (disch := omega) only [go_sem, reqD_of, dec_t, dec_f, wrap_i64, wrap_u32, wrap_u64, wrap_u8]
  refine (ask_any (n := (exA, false)) h5 ex2 (by decide) (by decide)).mono ?_
  rintro e w6 ⟨h6, rfl⟩
  have hA6 : rowV w6 ⟨A, 0, none⟩ 3 = some (namV exA) := h6.sw2.row (n := 3) rfl
  simp -dsimp -implicitDefEqProofs (disch := omega) only [go_sem, reqD_of, dec_t, dec_f, wrap_i64, wrap_u32, wrap_u64, wrap_u8, hA6]
  refine onV_of (v := needV (exA, true)) rfl ?_
  simp -dsimp -implicitDefEqProofs (disch := omega) only [go_sem, reqD_of, dec_t, dec_f, wrap_i64, wrap_u32, wrap_u64, wrap_u8]
  refine (ask_any (n := (exA, true)) h6 ex3 (by decide) (by decide)).mono ?_
  rintro e w7 ⟨h7, rfl⟩
  have hA7 : rowV w7 ⟨A, 0, none⟩ 3 = some (namV exA) := h7.sw2.row (n := 3) rfl
  simp -dsimp -implicitDefEqProofs (disch := omega) only [go_sem, reqD_of, dec_t, dec_f, wrap_i64, wrap_u32, wrap_u64, wrap_u8, hA7]
  refine onV_of (v := needV (exA, false)) rfl ?_
  simp -dsimp -implicitDefEqProofs (disch := omega) only [go_sem, reqD_of, dec_t, dec_f, wrap_i64, wrap_u32, wrap_u64, wrap_u8]
  refine (ask_any (n := (exA, false)) h7 ex4 (by decide) (by decide)).mono ?_
  rintro e w8 ⟨h8, rfl⟩
  have hA8 : rowV w8 ⟨A, 0, none⟩ 3 = some (namV exA) := h8.sw2.row (n := 3) rfl
  simp -dsimp -implicitDefEqProofs (disch := omega) only [go_sem, reqD_of, dec_t, dec_f, wrap_i64, wrap_u32, wrap_u64, wrap_u8, hA8]
  refine (queue_any (x := exA) (q := [(3, true), (4, false)]) h8 rfl (by decide)).mono ?_
  rintro e w9 ⟨vq, h9, rfl⟩
  have hA9 := h9.sw3.cells
  unfold namC exA at hA9
  simp -dsimp -implicitDefEqProofs (disch := omega) only [go_sem, reqD_of, dec_t, dec_f, wrap_i64, wrap_u32, wrap_u64, wrap_u8, hA9]
  refine (free_any (x := exA) h9.sw2 ex5 (by decide)).mono ?_
  rintro e w10 ⟨v1, h10, rfl⟩
  have h10' := h10.ac (show _ = Blk A (.cells (namC exA).toArray 40 (0, 0)) * (TabP B [(exA, ([(2, false)], [(3, true), (4, false)]))] [(3, (exA, true)), (4, (exA, false))] * (RowO 3 1 v1 0 [] * (RowO 3 1 vq 2 (intR [3, 4]) * F))) by simp only [List.length_nil, List.map_nil, intR, List.length_cons, List.map_cons, Nat.zero_add, Nat.reduceAdd]; ac_rfl)
  have hA10 := h10'.cells
  unfold namC exA at hA10
  simp -dsimp -implicitDefEqProofs (disch := omega) only [go_sem, reqD_of, dec_t, dec_f, wrap_i64, wrap_u32, wrap_u64, wrap_u8, hA10]
  refine (free_any (x := exA) h10'.sw2 ex6 (by decide)).mono ?_
  rintro e w11 ⟨v2, h11, rfl⟩
  have h11' := h11.ac (show _ = Blk A (.cells (namC exA).toArray 40 (0, 0)) * (TabP B [(exA, ([(3, true)], [(4, false)]))] [(4, (exA, false))] * (RowO 3 1 v2 1 (intR [3]) * (RowO 3 1 v1 0 [] * (RowO 3 1 vq 2 (intR [3, 4]) * F)))) by simp only [List.length_nil, List.map_nil, intR, List.length_cons, List.map_cons, Nat.zero_add]; ac_rfl)
  have hA11 := h11'.cells
  unfold namC exA at hA11
  simp -dsimp -implicitDefEqProofs (disch := omega) only [go_sem, reqD_of, dec_t, dec_f, wrap_i64, wrap_u32, wrap_u64, wrap_u8, hA11]
  refine (free_any (x := exA) h11'.sw2 ex7 (by decide)).mono ?_
  rintro e w12 ⟨v3, h12, rfl⟩
  have h12' := h12.ac (show _ = TabP B [(exA, ([(4, false)], []))] [] * (RowO 3 1 v3 1 (intR [4]) * (RowO 3 1 v2 1 (intR [3]) * (RowO 3 1 v1 0 [] * (RowO 3 1 vq 2 (intR [3, 4]) * (Blk A (.cells (namC exA).toArray 40 (0, 0)) * F))))) by simp only [List.length_nil, List.map_nil, intR, List.length_cons, List.map_cons, Nat.zero_add]; ac_rfl)
  obtain ⟨a1, c1, rfl, _, _, _⟩ := RowO.form h12'.sw4
  simp -dsimp -implicitDefEqProofs (disch := omega) only [go_sem, reqD_of, dec_t, dec_f, wrap_i64, wrap_u32, wrap_u64, wrap_u8]
  refine h12'.buildSlice (s := 1) fact_rowTy_32 (cells := intR [3, 4]) rfl (by decide) (by decide) fun v4 w13 h13 => ?_
  simp -dsimp -implicitDefEqProofs (disch := omega) only [go_sem, reqD_of, dec_t, dec_f, wrap_i64, wrap_u32, wrap_u64, wrap_u8]
  refine (sameInts_any (xs := [3, 4]) (ys := [3, 4]) (na := 2) (nb := 2) h13 ?_ ((Ent.left _ _).trans (Row.reads _ _ _ _ _)) (by decide)).mono ?_
  · exact (Ent.right _ _).trans ((Ent.right _ _).trans ((Ent.right _ _).trans ((Ent.right _ _).trans ((Ent.right _ _).trans ((Ent.left _ _).trans (RowO.reads _ _ _ _ _))))))
  rintro e w14 ⟨h14, rfl⟩
  simp -dsimp -implicitDefEqProofs (disch := omega) only [go_sem, reqD_of, dec_t, dec_f, wrap_i64, wrap_u32, wrap_u64, wrap_u8]
  refine (h14.right).buildSlice (s := 1) fact_rowTy_32 (cells := intR [3]) rfl (by decide) (by decide) fun v5 w15 h15 => ?_
  simp -dsimp -implicitDefEqProofs (disch := omega) only [go_sem, reqD_of, dec_t, dec_f, wrap_i64, wrap_u32, wrap_u64, wrap_u8]
  refine (sameInts_any (xs := [3]) (ys := [3]) (na := 1) (nb := 1) h15 ?_ ((Ent.left _ _).trans (Row.reads _ _ _ _ _)) (by decide)).mono ?_
  · exact (Ent.right _ _).trans ((Ent.right _ _).trans ((Ent.right _ _).trans ((Ent.left _ _).trans (RowO.reads _ _ _ _ _))))
  rintro e w16 ⟨h16, rfl⟩
  simp -dsimp -implicitDefEqProofs (disch := omega) only [go_sem, reqD_of, dec_t, dec_f, wrap_i64, wrap_u32, wrap_u64, wrap_u8]
  refine (h16.right).buildSlice (s := 1) fact_rowTy_32 (cells := intR [4]) rfl (by decide) (by decide) fun v6 w17 h17 => ?_
  simp -dsimp -implicitDefEqProofs (disch := omega) only [go_sem, reqD_of, dec_t, dec_f, wrap_i64, wrap_u32, wrap_u64, wrap_u8]
  refine (sameInts_any (xs := [4]) (ys := [4]) (na := 1) (nb := 1) h17 ?_ ((Ent.left _ _).trans (Row.reads _ _ _ _ _)) (by decide)).mono ?_
  · exact (Ent.right _ _).trans ((Ent.right _ _).trans ((Ent.left _ _).trans (RowO.reads _ _ _ _ _)))
  rintro e w18 ⟨h18, rfl⟩
  simp -dsimp -implicitDefEqProofs (disch := omega) only [go_sem, reqD_of, dec_t, dec_f, wrap_i64, wrap_u32, wrap_u64, wrap_u8]
  refine (idle_any h18.right).mono ?_
  rintro e w19 ⟨h19, rfl⟩
  simp -dsimp -implicitDefEqProofs (disch := omega) only [go_sem, reqD_of, dec_t, dec_f, wrap_i64, wrap_u32, wrap_u64, wrap_u8]
  exact h19.right.right.right.right.right.right

theorem St.below0 {w0 w : World} (h : St w0 (Old w0) w) : RowKit.Below w0.heap.size w0 w := by
  refine ⟨h.os, h.tape, h.output, h.size, fun k hk => ?_⟩
  obtain ⟨x, l, a⟩ := h.sat
  have := l k _ (a k _ (Array.getElem?_eq_getElem hk))
  rw [Array.getElem?_eq_getElem hk]
  exact this

end
end Go.Proofs.YtacmnfpgimgigaaGreat

namespace Go.Proofs.YtacmnfpgimgigaaGreat
open Go
set_option linter.unusedSimpArgs false
set_option linter.unusedVariables false
set_option maxRecDepth 100000

def cmp3 (a b : Int) : Int := if a < b then -1 else if b < a then 1 else 0


theorem nan8_any {w : World} {n : Int} : Calls Tryz.prog 86 #[.int .u8 n] w fun e w' => w' = w ∧ e = .returned (.bool false) := by
  refine F86.calls (by simp) ?_
  unfold F86.code
  simp -dsimp -implicitDefEqProofs (disch := omega) only [go_sem, reqD_of, dec_t, dec_f, wrap_i64, wrap_u32, wrap_u64, wrap_u8, decide_true]

theorem nanI_any {w : World} {n : Int} : Calls Tryz.prog 87 #[.int .i64 n] w fun e w' => w' = w ∧ e = .returned (.bool false) := by
  refine F87.calls (by simp) ?_
  unfold F87.code
  simp -dsimp -implicitDefEqProofs (disch := omega) only [go_sem, reqD_of, dec_t, dec_f, wrap_i64, wrap_u32, wrap_u64, wrap_u8, decide_true]

theorem nan64_any {w : World} {n : Int} : Calls Tryz.prog 88 #[.int .u64 n] w fun e w' => w' = w ∧ e = .returned (.bool false) := by
  refine F88.calls (by simp) ?_
  unfold F88.code
  simp -dsimp -implicitDefEqProofs (disch := omega) only [go_sem, reqD_of, dec_t, dec_f, wrap_i64, wrap_u32, wrap_u64, wrap_u8, decide_true]

section
attribute [local go_sem] F68.t6_eq F68.t13_eq F68.t11_eq F68.t9_eq F68.t7_eq
theorem cmp8_any {w : World} {a b : Int} : Calls Tryz.prog 68 #[.int .u8 a, .int .u8 b] w fun e w' => w' = w ∧ e = .returned (.int .i64 (cmp3 a b)) := by
  refine F68.calls (by simp) ?_
  unfold F68.code
  simp -dsimp -implicitDefEqProofs (disch := omega) only [go_sem, reqD_of, dec_t, dec_f, wrap_i64, wrap_u32, wrap_u64, wrap_u8]
  refine nan8_any.mono ?_
  rintro e w1 ⟨rfl, rfl⟩
  simp -dsimp -implicitDefEqProofs (disch := omega) only [go_sem, reqD_of, dec_t, dec_f, wrap_i64, wrap_u32, wrap_u64, wrap_u8]
  refine nan8_any.mono ?_
  rintro e w1 ⟨rfl, rfl⟩
  by_cases h1 : a < b
  · simp -dsimp -implicitDefEqProofs (disch := omega) only [go_sem, reqD_of, dec_t, dec_f, wrap_i64, wrap_u32, wrap_u64, wrap_u8, h1]
    simp [cmp3, h1]
  · by_cases h2 : b < a
    · simp -dsimp -implicitDefEqProofs (disch := omega) only [go_sem, reqD_of, dec_t, dec_f, wrap_i64, wrap_u32, wrap_u64, wrap_u8, h1, h2]
      simp [cmp3, h1, h2]
    · simp -dsimp -implicitDefEqProofs (disch := omega) only [go_sem, reqD_of, dec_t, dec_f, wrap_i64, wrap_u32, wrap_u64, wrap_u8, h1, h2]
      simp [cmp3, h1, h2]
end
section
attribute [local go_sem] F69.t6_eq F69.t13_eq F69.t11_eq F69.t9_eq F69.t7_eq
theorem cmpI_any {w : World} {a b : Int} : Calls Tryz.prog 69 #[.int .i64 a, .int .i64 b] w fun e w' => w' = w ∧ e = .returned (.int .i64 (cmp3 a b)) := by
  refine F69.calls (by simp) ?_
  unfold F69.code
  simp -dsimp -implicitDefEqProofs (disch := omega) only [go_sem, reqD_of, dec_t, dec_f, wrap_i64, wrap_u32, wrap_u64, wrap_u8]
  refine nanI_any.mono ?_
  rintro e w1 ⟨rfl, rfl⟩
  simp -dsimp -implicitDefEqProofs (disch := omega) only [go_sem, reqD_of, dec_t, dec_f, wrap_i64, wrap_u32, wrap_u64, wrap_u8]
  refine nanI_any.mono ?_
  rintro e w1 ⟨rfl, rfl⟩
  by_cases h1 : a < b
  · simp -dsimp -implicitDefEqProofs (disch := omega) only [go_sem, reqD_of, dec_t, dec_f, wrap_i64, wrap_u32, wrap_u64, wrap_u8, h1]
    simp [cmp3, h1]
  · by_cases h2 : b < a
    · simp -dsimp -implicitDefEqProofs (disch := omega) only [go_sem, reqD_of, dec_t, dec_f, wrap_i64, wrap_u32, wrap_u64, wrap_u8, h1, h2]
      simp [cmp3, h1, h2]
    · simp -dsimp -implicitDefEqProofs (disch := omega) only [go_sem, reqD_of, dec_t, dec_f, wrap_i64, wrap_u32, wrap_u64, wrap_u8, h1, h2]
      simp [cmp3, h1, h2]
end
section
attribute [local go_sem] F70.t6_eq F70.t13_eq F70.t11_eq F70.t9_eq F70.t7_eq
theorem cmp64_any {w : World} {a b : Int} : Calls Tryz.prog 70 #[.int .u64 a, .int .u64 b] w fun e w' => w' = w ∧ e = .returned (.int .i64 (cmp3 a b)) := by
  refine F70.calls (by simp) ?_
  unfold F70.code
  simp -dsimp -implicitDefEqProofs (disch := omega) only [go_sem, reqD_of, dec_t, dec_f, wrap_i64, wrap_u32, wrap_u64, wrap_u8]
  refine nan64_any.mono ?_
  rintro e w1 ⟨rfl, rfl⟩
  simp -dsimp -implicitDefEqProofs (disch := omega) only [go_sem, reqD_of, dec_t, dec_f, wrap_i64, wrap_u32, wrap_u64, wrap_u8]
  refine nan64_any.mono ?_
  rintro e w1 ⟨rfl, rfl⟩
  by_cases h1 : a < b
  · simp -dsimp -implicitDefEqProofs (disch := omega) only [go_sem, reqD_of, dec_t, dec_f, wrap_i64, wrap_u32, wrap_u64, wrap_u8, h1]
    simp [cmp3, h1]
  · by_cases h2 : b < a
    · simp -dsimp -implicitDefEqProofs (disch := omega) only [go_sem, reqD_of, dec_t, dec_f, wrap_i64, wrap_u32, wrap_u64, wrap_u8, h1, h2]
      simp [cmp3, h1, h2]
    · simp -dsimp -implicitDefEqProofs (disch := omega) only [go_sem, reqD_of, dec_t, dec_f, wrap_i64, wrap_u32, wrap_u64, wrap_u8, h1, h2]
      simp [cmp3, h1, h2]

/-- The first that is not 0. -/
def orL : List Int → Int
  | [] => 0
  | n :: l => if n = 0 then orL l else n

end
section
attribute [local go_sem] F67.t7_eq F67.t4_eq F67.t8_eq
theorem or_any {w0 w : World} {F : HP} {v : Value} {n : Nat} {l : List Int} (h : St w0 F w) (hr : Ent F (Reads 1 v n (intR l))) (hl : l.length < 1099511627776) :
    Calls Tryz.prog 67 #[v] w fun e w' => St w0 F w' ∧ e = .returned (.int .i64 (orL l)) := by
  obtain ⟨rfl, a, c, rfl, hnc, _⟩ := intAt (h.ent hr)
  refine F67.calls (by simp) ?_
  unfold F67.code
  simp -dsimp -implicitDefEqProofs (disch := omega) only [go_sem, reqD_of, dec_t, dec_f, wrap_i64, wrap_u32, wrap_u64, wrap_u8]
  refine loop_intro (fun e w' => St w0 F w' ∧ e.ds = [] ∧ e.ρ 3 = .int .i64 0 ∧ e.ρ 6 = .slice a l.length c ∧ e.ρ 7 = .int .i64 l.length ∧ ∃ i : Nat, i ≤ l.length ∧ e.ρ 8 = .int .i64 i ∧ orL l = orL (l.drop i))
    (fun e _ => match e.ρ 8 with | .int _ n => (l.length - n).toNat | _ => 0) ?_ ?_
  · exact ⟨h, rfl, by simp -dsimp -implicitDefEqProofs only [go_sem], by simp -dsimp -implicitDefEqProofs only [go_sem], by simp -dsimp -implicitDefEqProofs only [go_sem], 0, by omega, rfl, rfl⟩
  rintro e w1 ⟨h1, hd, e3, e6, e7, i, hi, e8, hpos⟩
  by_cases hlt : (i : Int) < l.length
  case neg =>
    have : i = l.length := by omega
    subst this
    simp -dsimp -implicitDefEqProofs (disch := omega) only [go_sem, reqD_of, dec_t, dec_f, wrap_i64, wrap_u32, wrap_u64, wrap_u8, hd, e3, e6, e7, e8, hlt]
    exact ⟨h1, by rw [hpos, List.drop_length]; rfl⟩
  have hil : i < l.length := by omega
  obtain ⟨_, a', c', hv, _, hcl⟩ := intAt (h1.ent hr)
  simp only [Value.slice.injEq, true_and] at hv
  obtain ⟨rfl, rfl⟩ := hv
  obtain ⟨b, o, rfl, hx⟩ := hcl i hil
  rw [List.drop_eq_getElem_cons hil, orL] at hpos
  by_cases hz : l[i] = 0
  · rw [if_pos hz] at hpos
    simp -dsimp -implicitDefEqProofs (disch := omega) only [go_sem, reqD_of, dec_t, dec_f, wrap_i64, wrap_u32, wrap_u64, wrap_u8, hd, e3, e6, e7, e8, hlt, hx, hz]
    exact ⟨⟨h1, i + 1, by omega, by simp, hpos⟩, by omega⟩
  · rw [if_neg hz] at hpos
    simp -dsimp -implicitDefEqProofs (disch := omega) only [go_sem, reqD_of, dec_t, dec_f, wrap_i64, wrap_u32, wrap_u64, wrap_u8, hd, e3, e6, e7, e8, hlt, hx, hz]
    exact ⟨h1, by rw [hpos]⟩

def cmpN (a b : Nam) : Int := orL [cmp3 a.1 b.1, cmp3 a.2.1 b.2.1, cmp3 a.2.2 b.2.2]

end

theorem compare_any {w0 w : World} {F : HP} {a b : Nam} (h : St w0 F w) : Calls Tryz.prog 54 #[namV a, namV b] w fun e w' => St w0 F w' ∧ e = .returned (.int .i64 (cmpN a b)) := by
  refine F54.calls (by simp) ?_
  unfold F54.code
  simp -dsimp -implicitDefEqProofs (disch := omega) only [go_sem, reqD_of, dec_t, dec_f, wrap_i64, wrap_u32, wrap_u64, wrap_u8]
  refine h.new fun X w1 h1 => ?_
  simp -dsimp -implicitDefEqProofs (disch := omega) only [go_sem, reqD_of, dec_t, dec_f, wrap_i64, wrap_u32, wrap_u64, wrap_u8]
  refine h1.new fun Y w2 h2 => ?_
  have hY := h2.drew.cells
  have hX := h2.drew.sw2.cells
  simp only [Value.cells, namC] at hX hY
  simp -dsimp -implicitDefEqProofs (disch := omega) only [go_sem, reqD_of, dec_t, dec_f, wrap_i64, wrap_u32, wrap_u64, wrap_u8, hX, hY]
  refine cmp8_any.mono ?_
  rintro e w3 ⟨rfl, rfl⟩
  simp -dsimp -implicitDefEqProofs (disch := omega) only [go_sem, reqD_of, dec_t, dec_f, wrap_i64, wrap_u32, wrap_u64, wrap_u8, hX, hY]
  refine cmpI_any.mono ?_
  rintro e w3 ⟨rfl, rfl⟩
  simp -dsimp -implicitDefEqProofs (disch := omega) only [go_sem, reqD_of, dec_t, dec_f, wrap_i64, wrap_u32, wrap_u64, wrap_u8, hX, hY]
  refine cmp64_any.mono ?_
  rintro e w3 ⟨rfl, rfl⟩
  simp -dsimp -implicitDefEqProofs (disch := omega) only [go_sem, reqD_of, dec_t, dec_f, wrap_i64, wrap_u32, wrap_u64, wrap_u8, hX, hY]
  refine h2.drew.buildSlice (s := 1) fact_rowTy_32 (cells := intR [cmp3 a.1 b.1, cmp3 a.2.1 b.2.1, cmp3 a.2.2 b.2.2]) rfl (by decide) (by decide) fun v3 w4 h4 => ?_
  have hY4 := h4.sw2.cells
  have hX4 := h4.sw3.cells
  simp only [Value.cells, namC] at hX4 hY4
  simp -dsimp -implicitDefEqProofs (disch := omega) only [go_sem, reqD_of, dec_t, dec_f, wrap_i64, wrap_u32, wrap_u64, wrap_u8, hX4, hY4]
  refine (or_any h4 ((Ent.left _ _).trans (Row.reads _ _ _ _ _)) (by simp)).mono ?_
  rintro e w5 ⟨h5, rfl⟩
  have hY5 := h5.sw2.cells
  have hX5 := h5.sw3.cells
  simp only [Value.cells, namC] at hX5 hY5
  simp -dsimp -implicitDefEqProofs (disch := omega) only [go_sem, reqD_of, dec_t, dec_f, wrap_i64, wrap_u32, wrap_u64, wrap_u8, hX5, hY5]
  exact ⟨h5.right.right.right, rfl⟩

theorem cmp3_lt {a b : Int} (h : a < b) : cmp3 a b = -1 := by simp [cmp3, h]
theorem cmp3_gt {a b : Int} (h : b < a) : cmp3 a b = 1 := by simp [cmp3, h, show ¬ a < b by omega]
theorem cmp3_eq (a : Int) : cmp3 a a = 0 := by simp [cmp3]

section
attribute [local go_sem] F50.t4_eq F50.t8_eq F50.t12_eq F50.t13_eq F50.t9_eq F50.t5_eq
theorem refCompare_any {w0 w : World} {F : HP} {a b : Nam} (h : St w0 F w) : Calls Tryz.prog 50 #[namV a, namV b] w fun e w' => St w0 F w' ∧ e = .returned (.int .i64 (cmpN a b)) := by
  refine F50.calls (by simp) ?_
  unfold F50.code
  simp -dsimp -implicitDefEqProofs (disch := omega) only [go_sem, reqD_of, dec_t, dec_f, wrap_i64, wrap_u32, wrap_u64, wrap_u8]
  refine h.new fun X w1 h1 => ?_
  simp -dsimp -implicitDefEqProofs (disch := omega) only [go_sem, reqD_of, dec_t, dec_f, wrap_i64, wrap_u32, wrap_u64, wrap_u8]
  refine h1.new fun Y w2 h2 => ?_
  have hY := h2.cells
  have hX := h2.sw2.cells
  simp only [Value.cells, namC] at hX hY
  obtain ⟨a1, a2, a3⟩ := a
  obtain ⟨b1, b2, b3⟩ := b
  simp only at hX hY
  by_cases q1 : a1 = b1
  · by_cases q2 : a2 = b2
    · by_cases q3 : a3 = b3
      · subst q1 q2 q3
        simp -dsimp -implicitDefEqProofs (disch := omega) only [go_sem, reqD_of, dec_t, dec_f, wrap_i64, wrap_u32, wrap_u64, wrap_u8, hX, hY, decide_true]
        exact ⟨h2.right.right, by simp [cmpN, orL, cmp3_eq]⟩
      · subst q1 q2
        rcases Int.lt_or_gt_of_ne q3 with q | q
        · simp -dsimp -implicitDefEqProofs (disch := omega) only [go_sem, reqD_of, dec_t, dec_f, wrap_i64, wrap_u32, wrap_u64, wrap_u8, hX, hY, q, q3, decide_true]
          exact ⟨h2.right.right, by simp [cmpN, orL, cmp3_eq, cmp3_lt q]⟩
        · have q' : ¬ a3 < b3 := by omega
          simp -dsimp -implicitDefEqProofs (disch := omega) only [go_sem, reqD_of, dec_t, dec_f, wrap_i64, wrap_u32, wrap_u64, wrap_u8, hX, hY, q', q3, decide_true]
          exact ⟨h2.right.right, by simp [cmpN, orL, cmp3_eq, cmp3_gt q]⟩
    · subst q1
      rcases Int.lt_or_gt_of_ne q2 with q | q
      · simp -dsimp -implicitDefEqProofs (disch := omega) only [go_sem, reqD_of, dec_t, dec_f, wrap_i64, wrap_u32, wrap_u64, wrap_u8, hX, hY, q, q2, decide_true]
        exact ⟨h2.right.right, by simp [cmpN, orL, cmp3_eq, cmp3_lt q]⟩
      · have q' : ¬ a2 < b2 := by omega
        simp -dsimp -implicitDefEqProofs (disch := omega) only [go_sem, reqD_of, dec_t, dec_f, wrap_i64, wrap_u32, wrap_u64, wrap_u8, hX, hY, q', q2, decide_true]
        exact ⟨h2.right.right, by simp [cmpN, orL, cmp3_eq, cmp3_gt q]⟩
  · rcases Int.lt_or_gt_of_ne q1 with q | q
    · simp -dsimp -implicitDefEqProofs (disch := omega) only [go_sem, reqD_of, dec_t, dec_f, wrap_i64, wrap_u32, wrap_u64, wrap_u8, hX, hY, q, q1]
      exact ⟨h2.right.right, by simp [cmpN, orL, cmp3_lt q]⟩
    · have q' : ¬ a1 < b1 := by omega
      simp -dsimp -implicitDefEqProofs (disch := omega) only [go_sem, reqD_of, dec_t, dec_f, wrap_i64, wrap_u32, wrap_u64, wrap_u8, hX, hY, q', q1]
      exact ⟨h2.right.right, by simp [cmpN, orL, cmp3_gt q]⟩

/-! ### The plain law: an order -/

theorem cmp3_cases (a b : Int) : (a < b ∧ cmp3 a b = -1) ∨ (a = b ∧ cmp3 a b = 0) ∨ (b < a ∧ cmp3 a b = 1) := by
  rcases Int.lt_trichotomy a b with h | h | h
  · exact .inl ⟨h, cmp3_lt h⟩
  · exact .inr (.inl ⟨h, by rw [h, cmp3_eq]⟩)
  · exact .inr (.inr ⟨h, cmp3_gt h⟩)
theorem cmpN_cases (a b : Nam) : (cmpN a b = -1 ∧ (a.1 < b.1 ∨ a.1 = b.1 ∧ (a.2.1 < b.2.1 ∨ a.2.1 = b.2.1 ∧ a.2.2 < b.2.2))) ∨ (cmpN a b = 0 ∧ a.1 = b.1 ∧ a.2.1 = b.2.1 ∧ a.2.2 = b.2.2) ∨
    (cmpN a b = 1 ∧ (b.1 < a.1 ∨ a.1 = b.1 ∧ (b.2.1 < a.2.1 ∨ a.2.1 = b.2.1 ∧ b.2.2 < a.2.2))) := by
  unfold cmpN
  rcases cmp3_cases a.1 b.1 with ⟨h1, e1⟩ | ⟨h1, e1⟩ | ⟨h1, e1⟩ <;> rcases cmp3_cases a.2.1 b.2.1 with ⟨h2, e2⟩ | ⟨h2, e2⟩ | ⟨h2, e2⟩ <;> rcases cmp3_cases a.2.2 b.2.2 with ⟨h3, e3⟩ | ⟨h3, e3⟩ | ⟨h3, e3⟩ <;>
    simp [orL, e1, e2, e3] <;> omega

end
end Go.Proofs.YtacmnfpgimgigaaGreat

namespace Go.Proofs.YtacmnfpgimgigaaGreat
open Go
set_option linter.unusedVariables false

/-- What a part is about. -/
inductive Key where
  | blk (b : Nat)
  | row (v : Value)
  | map (b : Nat)
  | obj (b : Nat)

class Face (k : Key) (X : HP) : Prop
instance (b : Nat) (o : Obj) : Face (.blk b) (Blk b o) := ⟨⟩
instance (T s : Nat) (v : Value) (n : Nat) (xs : List Value) : Face (.row v) (RowO T s v n xs) := ⟨⟩
instance (T s : Nat) (v : Value) (n : Nat) (xs : List Value) : Face (.row v) (Row T s v n xs) := ⟨⟩
instance {κ : Type} (enc : κ → Value) (b : Nat) (l : List (κ × Value)) : Face (.map b) (MapP enc b l) := ⟨⟩

/-- A has the part X, about k; with Y in X's place it is C Y. -/
class Hole (k : Key) (A : HP) (X : outParam HP) (C : outParam (HP → HP)) : Prop where
  eq : A = C X
  fr : ∃ R, ∀ Y, C Y = Y * R

section holes
variable {k : Key} {A B X F : HP} {C : HP → HP}
instance (priority := 1300) Hole.l [Face k X] : Hole k (X * F) X (fun Y => Y * F) := ⟨rfl, F, fun _ => rfl⟩
instance (priority := 1200) Hole.r [Face k X] : Hole k (F * X) X (fun Y => F * Y) := ⟨rfl, F, fun Y => sep_comm F Y⟩
instance (priority := 1100) Hole.dr [i : Hole k B X C] : Hole k (A * B) X (fun Y => A * C Y) :=
  ⟨congrArg (A * ·) i.eq, by obtain ⟨R, h⟩ := i.fr; exact ⟨A * R, fun Y => by rw [h]; ac_rfl⟩⟩
instance Hole.dl [i : Hole k A X C] : Hole k (A * B) X (fun Y => C Y * B) :=
  ⟨congrArg (· * B) i.eq, by obtain ⟨R, h⟩ := i.fr; exact ⟨R * B, fun Y => by rw [h]; ac_rfl⟩⟩
end holes

/-- The part about k, taken out of A; the rest. -/
class Take (k : Key) (A : HP) (X R : outParam HP) : Prop where
  eq : A = X * R
section take
variable {k : Key} {A B X F R : HP}
instance (priority := 1300) Take.l [Face k X] : Take k (X * F) X F := ⟨rfl⟩
instance (priority := 1200) Take.r [Face k X] : Take k (F * X) X F := ⟨sep_comm F X⟩
instance (priority := 1100) Take.dr [i : Take k B X R] : Take k (A * B) X (A * R) := ⟨by rw [i.eq]; ac_rfl⟩
instance Take.dl [i : Take k A X R] : Take k (A * B) X (R * B) := ⟨by rw [i.eq]; ac_rfl⟩
end take

/-- What is true of A's memory is true of a part that B tells of. -/
class Gives (A B : HP) : Prop where
  ent : Ent A B
section gives
variable {A B X : HP}
instance (priority := 1300) Gives.rfl' : Gives A A := ⟨Ent.rfl' A⟩
instance (priority := 1200) Gives.l [i : Gives A X] : Gives (A * B) X := ⟨(Ent.left A B).trans i.ent⟩
instance (priority := 1100) Gives.r [i : Gives B X] : Gives (A * B) X := ⟨(Ent.right A B).trans i.ent⟩
instance (T s : Nat) (v : Value) (n : Nat) (xs : List Value) : Gives (RowO T s v n xs) (Reads s v n xs) := ⟨RowO.reads T s v n xs⟩
instance (T s : Nat) (v : Value) (n : Nat) (xs : List Value) : Gives (Row T s v n xs) (Reads s v n xs) := ⟨Row.reads T s v n xs⟩
end gives

/-- X is taken out of A; the rest. -/
class Pull (A X : HP) (R : outParam HP) : Prop where
  eq : A = X * R
section pull
variable {A B X F R : HP}
instance (priority := 1300) Pull.l : Pull (X * F) X F := ⟨rfl⟩
instance (priority := 1200) Pull.r : Pull (F * X) X F := ⟨sep_comm F X⟩
instance (priority := 1100) Pull.dr [i : Pull B X R] : Pull (A * B) X (A * R) := ⟨by rw [i.eq]; ac_rfl⟩
instance Pull.dl [i : Pull A X R] : Pull (A * B) X (R * B) := ⟨by rw [i.eq]; ac_rfl⟩
end pull

/-- B is a part of A, as the parts stand there. -/
class Sub (A B : HP) : Prop where
  ent : Ent A B
section sub
variable {A B X R : HP}
instance (priority := 1300) Sub.rfl' : Sub A A := ⟨Ent.rfl' A⟩
instance (priority := 1200) Sub.star [i : Pull A X R] [j : Sub R B] : Sub A (X * B) := ⟨by rw [i.eq]; exact Ent.sep (Ent.rfl' X) j.ent⟩
instance (priority := 1100) Sub.base [i : Pull A X R] : Sub A X := ⟨by rw [i.eq]; exact Ent.left X R⟩
end sub

section ops
variable {P : Program} {w0 w : World} {A F X : HP} {C : HP → HP}

theorem St.sub {B : HP} (h : St w0 A w) [i : Sub A B] : St w0 B w := h.ent i.ent
theorem St.gives {B : HP} (h : St w0 A w) [i : Gives A B] : St w0 B w := h.ent i.ent

/-- The part about k to the front. -/
theorem St.take {R : HP} (h : St w0 A w) (k : Key) [i : Take k A X R] : St w0 (X * R) w := h.ac i.eq

/-- The part about k, taken out; whatever comes back goes into its place. -/
theorem St.out (h : St w0 A w) (k : Key) [i : Hole k A X C] : ∃ R, (∀ Y, C Y = Y * R) ∧ St w0 (X * R) w := by
  obtain ⟨R, hR⟩ := i.fr
  exact ⟨R, hR, h.ac (by rw [i.eq, hR])⟩

/-- The part about k becomes something that it entails. -/
theorem St.turnTo {Y : HP} (h : St w0 A w) (k : Key) [i : Hole k A X C] (e : Ent X Y) : St w0 (C Y) w := by
  obtain ⟨R, hR, h'⟩ := h.out k
  rw [hR]
  exact h'.ent (Ent.sep e (Ent.rfl' R))

theorem St.outEx {α : Type} {Y : α → HP} (h : St w0 A w) (k : Key) [i : Hole k A (HP.ex Y) C] : ∃ x, St w0 (C (Y x)) w := by
  obtain ⟨R, hR, h'⟩ := h.out k
  obtain ⟨x, hx⟩ := h'.exF
  exact ⟨x, by rw [hR]; exact hx⟩

theorem St.cl (h : St w0 A w) : ∀ (b : Nat) {arr : Array Value} {T : TypeId} {fr : Nat × Nat} {C : HP → HP} [Hole (.blk b) A (Blk b (.cells arr T fr)) C] (i : Nat), w.cell? ⟨b, i, none⟩ = arr[i]? := by
  intro b arr T fr C _ i
  obtain ⟨R, hR, h'⟩ := h.out (.blk b)
  exact h'.cells i

theorem St.rowH (h : St w0 A w) (b n : Nat) {arr : Array Value} {T : TypeId} {fr : Nat × Nat} {C : HP → HP} [Hole (.blk b) A (Blk b (.cells arr T fr)) C] (hn : arr.size = n) : rowV w ⟨b, 0, none⟩ n = some (.agg arr) := by
  obtain ⟨R, hR, h'⟩ := h.out (.blk b)
  exact h'.row hn

theorem St.rowAtH (h : St w0 A w) (b o n : Nat) {arr : Array Value} {T : TypeId} {fr : Nat × Nat} {C : HP → HP} [Hole (.blk b) A (Blk b (.cells arr T fr)) C] (hn : o + n ≤ arr.size) : rowV w ⟨b, o, none⟩ n = some (.agg ((arr.toList.drop o).take n).toArray) := by
  obtain ⟨R, hR, h'⟩ := h.out (.blk b)
  exact h'.rowAt hn

theorem St.sto {b off : Nat} {arr : Array Value} {T : TypeId} {v : Value} {K : World → Prop} {θ : Tag K} (h : St w0 A w) [i : Hole (.blk b) A (Blk b (.cells arr T (0, 0))) C] (hi : off < arr.size) (hv : isCell v = true)
    (hK : ∀ w', St w0 (C (Blk b (.cells (arr.setIfInBounds off v) T (0, 0)))) w' → K w') : storeD (some 1) (.pointer (some ⟨b, off, none⟩)) v w K θ := by
  obtain ⟨R, hR, h'⟩ := h.out (.blk b)
  exact h'.store rfl hi hv fun w' hw => hK w' (by rw [hR]; exact hw)

theorem St.stoRow {b off n : Nat} {arr : Array Value} {cs : List Value} {T : TypeId} {K : World → Prop} {θ : Tag K} (h : St w0 A w) [i : Hole (.blk b) A (Blk b (.cells arr T (0, 0))) C] (hn : cs.length = n) (hs : off + n ≤ arr.size) (hc : ∀ v ∈ cs, isCell v = true)
    (hK : ∀ w', St w0 (C (Blk b (.cells (setRowL arr.toList off cs).toArray T (0, 0)))) w' → K w') : storeD (some n) (.pointer (some ⟨b, off, none⟩)) (.agg cs.toArray) w K θ := by
  obtain ⟨R, hR, h'⟩ := h.out (.blk b)
  exact h'.storeRow hn hs hc fun w' hw => hK w' (by rw [hR]; exact hw)

theorem St.stoAll {b n : Nat} {arr : Array Value} {cs : List Value} {T : TypeId} {K : World → Prop} {θ : Tag K} (h : St w0 A w) [i : Hole (.blk b) A (Blk b (.cells arr T (0, 0))) C] (hn : cs.length = n) (hs : arr.size = n) (hc : ∀ v ∈ cs, isCell v = true)
    (hK : ∀ w', St w0 (C (Blk b (.cells cs.toArray T (0, 0)))) w' → K w') : storeD (some n) (.pointer (some ⟨b, 0, none⟩)) (.agg cs.toArray) w K θ := by
  obtain ⟨R, hR, h'⟩ := h.out (.blk b)
  exact h'.storeAll hn hs hc fun w' hw => hK w' (by rw [hR]; exact hw)

theorem St.nilR (h : St w0 A w) (T s : Nat) : St w0 (RowO T s (.slice none 0 0) 0 [] * A) w := h.ent (Ent.nilRowO T s A)

theorem St.rowForm (h : St w0 A w) (v : Value) {T s n : Nat} {xs : List Value} [i : Hole (.row v) A (RowO T s v n xs) C] : ∃ a c, v = .slice a n c ∧ xs.length = n * s ∧ n ≤ c ∧ c ≤ maxLen := by
  obtain ⟨R, hR, h'⟩ := h.out (.row v)
  exact RowO.form h'

theorem St.lit {t e s bs n : Nat} {zs cells : List Value} {parts : List (Nat × Value)} {K : Value → World → Prop} {θ : Tag K}
    (h : St w0 F w) (ht : rowTy P t = some (e, s, bs, zs)) (hf : fillL (fun i => some (i * s, s)) (mkZeros zs (n * s)) parts = some cells) (hsz : 0 < n * s) (hsz2 : n * s ≤ 16777216)
    (hK : ∀ v w', St w0 (RowO e s v n cells * F) w' → K v w') : semD P (kBuildSlice t n parts.toArray) w K θ :=
  h.buildSlice ht hf hsz hsz2 fun v w' h' => hK v w' (h'.ent (Ent.sep (Row.rowO e s v n cells) (Ent.rfl' F)))

/-- append to a row of one's own, from whatever reads as a row. -/
theorem St.app {t tx ty e e' s bs : Nat} {zs : List Value} {v x : Value} {n m : Nat} {xs news : List Value} {K : Value → World → Prop} {θ : Tag K}
    (h : St w0 A w) [i : Hole (.row v) A (RowO e s v n xs) C] (ht : rowTy P t = some (e, s, bs, zs)) (hx : Ent A (Reads s x m news)) (hu : P.underlying tx = some (.slice e')) (hc : ∀ u ∈ news, isCell u = true) (h0 : news = [] → m = 0)
    (h63 : n + m ≤ maxLen) (hb : (n + m) * bs ≤ 140737488355328)
    (hK : ∀ v' w', St w0 (C (RowO e s v' (n + m) (xs ++ news))) w' → K v' w') : semD P (kAppend #[t, tx] ty #[v, x]) w K θ := by
  have hs : Src P s tx x m news w := ((h.ent hx).rd).src hu hc h0
  obtain ⟨R, hR, h'⟩ := h.out (.row v)
  exact h'.appendO ht hs h63 hb fun v' w' hw => hK v' w' (by rw [hR]; exact hw)

/-- append of another row of one's own, which is let go in the end by whoever asks. -/
theorem St.appR {t tx ty e e' s bs T' : Nat} {C' : HP → HP} {zs : List Value} {v x : Value} {n m : Nat} {xs news : List Value} {K : Value → World → Prop} {θ : Tag K}
    (h : St w0 A w) [i : Hole (.row v) A (RowO e s v n xs) C] [j : Hole (.row x) A (RowO T' s x m news) C'] (ht : rowTy P t = some (e, s, bs, zs)) (hu : P.underlying tx = some (.slice e')) (hc : ∀ u ∈ news, isCell u = true) (h0 : news = [] → m = 0)
    (h63 : n + m ≤ maxLen) (hb : (n + m) * bs ≤ 140737488355328)
    (hK : ∀ v' w', St w0 (C (RowO e s v' (n + m) (xs ++ news))) w' → K v' w') : semD P (kAppend #[t, tx] ty #[v, x]) w K θ := by
  refine h.app ht ?_ hu hc h0 h63 hb hK
  obtain ⟨R, hR⟩ := j.fr
  rw [j.eq, hR]
  exact (Ent.left _ _).trans (RowO.reads T' s x m news)

end ops

section maps
variable {κ : Type} {P : Program} {w0 w : World} {A F X : HP} {C : HP → HP}
theorem St.lkH [DecidableEq κ] {enc : κ → Value} {b : Nat} {l : List (κ × Value)} {T kt et : TypeId} {z : Value} {ok : Bool} {x : κ} {K : Value → Prop} {θ : Tag K} (h : St w0 A w) [i : Hole (.map b) A (MapP enc b l) C] (hu : P.underlying T = some (.map kt et)) (law : KeyLaw P kt enc) (hz : zeroV P et = some z)
    (hK : K (lkV z ok (lk x l))) : readR P (kLookup T (.map (some b)) (enc x) ok) w K θ := by
  obtain ⟨R, hR, h'⟩ := h.out (.map b)
  exact h'.lookup hu law hz hK
theorem St.updH [DecidableEq κ] {enc : κ → Value} {b : Nat} {l : List (κ × Value)} {T kt et : TypeId} {x : κ} {v : Value} {K : World → Prop} {θ : Tag K} (h : St w0 A w) [i : Hole (.map b) A (MapP enc b l) C] (hu : P.underlying T = some (.map kt et)) (law : KeyLaw P kt enc)
    (hK : ∀ w', St w0 (C (MapP enc b (upd x v l))) w' → K w') : semU P (kMapUpdate T (.map (some b)) (enc x) v) w K θ := by
  obtain ⟨R, hR, h'⟩ := h.out (.map b)
  exact h'.update hu law fun w' hw => hK w' (by rw [hR]; exact hw)
theorem St.delH [DecidableEq κ] {enc : κ → Value} {b : Nat} {l : List (κ × Value)} {T kt et ty kt' : TypeId} {x : κ} {K : Value → World → Prop} {θ : Tag K} (h : St w0 A w) [i : Hole (.map b) A (MapP enc b l) C] (hu : P.underlying T = some (.map kt et)) (law : KeyLaw P kt enc)
    (hK : ∀ w', St w0 (C (MapP enc b (del x l))) w' → K (.tuple #[]) w') : semD P (kDelete #[T, kt'] ty #[.map (some b), enc x]) w K θ := by
  obtain ⟨R, hR, h'⟩ := h.out (.map b)
  exact h'.delete hu law fun w' hw => hK w' (by rw [hR]; exact hw)
theorem St.clearH {enc : κ → Value} {b : Nat} {l : List (κ × Value)} {T kt et ty : TypeId} {K : Value → World → Prop} {θ : Tag K} (h : St w0 A w) [i : Hole (.map b) A (MapP enc b l) C] (hu : P.underlying T = some (.map kt et))
    (hK : ∀ w', St w0 (C (MapP enc b [])) w' → K (.tuple #[]) w') : semD P (kClear #[T] ty #[.map (some b)]) w K θ := by
  obtain ⟨R, hR, h'⟩ := h.out (.map b)
  exact h'.clearMap hu fun w' hw => hK w' (by rw [hR]; exact hw)
theorem St.lenH {enc : κ → Value} {b : Nat} {l : List (κ × Value)} {T kt et ty : TypeId} {K : Value → Prop} {θ : Tag K} (h : St w0 A w) [i : Hole (.map b) A (MapP enc b l) C] (hu : P.underlying T = some (.map kt et))
    (hK : K (.int .i64 l.length)) : readR P (kLen #[T] ty #[.map (some b)]) w K θ := by
  obtain ⟨R, hR, h'⟩ := h.out (.map b)
  exact h'.lenMap hu hK
end maps

/-! ### Rows of structs are read -/
theorem cellsFrom_of (w : World) (a : Addr) : ∀ (n i : Nat) (xs : List Value), xs.length = n → (∀ j, j < n → w.cell? (a.add (i + j)) = xs[j]?) → cellsFrom w a i n = some xs
  | 0, i, [], _, _ => rfl
  | n + 1, i, x :: xs, hl, h => by
    have h0 := h 0 (by omega)
    simp only [Nat.add_zero, List.getElem?_cons_zero] at h0
    have ih := cellsFrom_of w a n (i + 1) xs (by simpa using hl) fun j hj => by
      have := h (j + 1) (by omega)
      rw [List.getElem?_cons_succ] at this
      rw [← this]; congr 2; omega
    simp only [cellsFrom, h0, ih]
theorem flatMap_length {α : Type} {enc : α → List Value} {k : Nat} (hk : ∀ x, (enc x).length = k) : ∀ l : List α, (l.flatMap enc).length = l.length * k
  | [] => by simp
  | x :: l => by rw [List.flatMap_cons, List.length_append, hk, flatMap_length hk l, List.length_cons, Nat.add_mul]; omega
theorem flatMap_at {α : Type} {enc : α → List Value} {k : Nat} (hk : ∀ x, (enc x).length = k) : ∀ (l : List α) (i j : Nat) (hi : i < l.length), j < k → (l.flatMap enc)[i * k + j]? = (enc l[i])[j]?
  | x :: l, 0, j, _, hj => by rw [List.flatMap_cons, Nat.zero_mul, Nat.zero_add, List.getElem?_append_left (by rw [hk]; exact hj)]; rfl
  | x :: l, i + 1, j, hi, hj => by
    rw [List.flatMap_cons, List.getElem?_append_right (by rw [hk, Nat.add_mul]; omega), hk, show (i + 1) * k + j - k = i * k + j by rw [Nat.add_mul]; omega, flatMap_at hk l i j (by simpa using hi) hj]
    rfl
theorem St.rowsAt {α : Type} {enc : α → List Value} {k : Nat} (hk : ∀ x, (enc x).length = k) (k0 : 0 < k) {w0 w : World} {v : Value} {n : Nat} {l : List α} (h : St w0 (Reads k v n (l.flatMap enc)) w) :
    n = l.length ∧ ∃ a c, v = .slice a n c ∧ n ≤ c ∧ ∀ i (hi : i < l.length), ∃ b o, a = some ⟨b, o, none⟩ ∧ rowV w ⟨b, o + i * k, none⟩ k = some (.agg (enc l[i]).toArray) ∧ ∀ j, j < k → w.cell? ⟨b, o + i * k + j, none⟩ = (enc l[i])[j]? := by
  have r := h.rd
  have hlen := r.length
  rw [flatMap_length hk] at hlen
  have hn : n = l.length := (Nat.eq_of_mul_eq_mul_right k0 hlen).symm
  obtain ⟨a, c, rfl, hnc, hr⟩ := r.form
  refine ⟨hn, a, c, rfl, hnc, fun i hi => ?_⟩
  have hik : i * k + k ≤ l.length * k := by
    have := Nat.mul_le_mul_right k (show i + 1 ≤ l.length from hi)
    rwa [Nat.add_mul, Nat.one_mul] at this
  rcases hr with hr | ⟨b, o, rfl, hr⟩
  · have := congrArg List.length hr
    rw [flatMap_length hk, List.length_nil] at this
    omega
  · have hc : ∀ j, j < k → w.cell? ⟨b, o + i * k + j, none⟩ = (enc l[i])[j]? := fun j hj => by
      have := hr (i * k + j) (by rw [flatMap_length hk]; omega)
      rwa [flatMap_at hk l i j hi hj, ← Nat.add_assoc] at this
    refine ⟨b, o, rfl, ?_, hc⟩
    unfold rowV
    rw [cellsFrom_of w _ k 0 (enc l[i]) (hk _) fun j hj => by rw [Nat.zero_add, add_lit]; exact hc j hj]
    rfl

/-! ### Rows of one's own are written into -/
theorem setRowL_part {cur cs : List Value} {o k N : Nat} (h1 : k + cs.length ≤ N) (h2 : o + N ≤ cur.length) : ((setRowL cur (o + k) cs).drop o).take N = setRowL ((cur.drop o).take N) k cs := by
  have hl : ((cur.drop o).take N).length = N := by rw [List.length_take, List.length_drop]; omega
  apply List.ext_getElem?
  intro j
  by_cases hj : j < N
  · rw [List.getElem?_take_of_lt hj, List.getElem?_drop]
    rcases Nat.lt_or_ge j k with h | h
    · rw [getElem?_setRowL_lt _ _ _ _ h, getElem?_setRowL_lt _ _ _ _ (by omega), List.getElem?_take_of_lt hj, List.getElem?_drop]
    · rcases Nat.lt_or_ge j (k + cs.length) with h' | h'
      · obtain ⟨i, rfl⟩ : ∃ i, j = k + i := ⟨j - k, by omega⟩
        rw [getElem?_setRowL_in _ _ _ _ (by omega) (by omega), ← Nat.add_assoc, getElem?_setRowL_in _ _ _ _ (by omega) (by omega)]
      · rw [getElem?_setRowL_ge _ _ _ _ h', getElem?_setRowL_ge _ _ _ _ (by omega), List.getElem?_take_of_lt hj, List.getElem?_drop]
  · rw [List.getElem?_take_eq_none (by omega), List.getElem?_eq_none (by rw [length_setRowL, hl]; omega)]

theorem RowO.openE (T s g o n c : Nat) (xs : List Value) : Ent (RowO T s (.slice (some ⟨g, o, none⟩) n c) n xs)
    (HP.ex fun cur : Array Value => HP.fact (n ≤ c ∧ c ≤ maxLen ∧ o + c * s ≤ cur.size ∧ (cur.toList.drop o).take (n * s) = xs ∧ xs.length = n * s) (Blk g (.cells cur T (0, 0)))) := by
  refine Ent.of fun h a => ?_
  rcases a with ⟨hv, _⟩ | ⟨g', o', cap, cur, e1, e2, e3, e4, e5, e6, e7⟩
  · cases hv
  · simp only [Value.slice.injEq, Option.some.injEq, Addr.mk.injEq, and_true, true_and] at e1
    obtain ⟨⟨rfl, rfl⟩, rfl⟩ := e1
    exact ⟨cur, ⟨e3, e4, e5, e6, e7⟩, e2⟩
theorem RowO.shutE {T s g o n c : Nat} {xs : List Value} {cur : Array Value} (h : n ≤ c ∧ c ≤ maxLen ∧ o + c * s ≤ cur.size ∧ (cur.toList.drop o).take (n * s) = xs ∧ xs.length = n * s) : Ent (Blk g (.cells cur T (0, 0))) (RowO T s (.slice (some ⟨g, o, none⟩) n c) n xs) :=
  Ent.of fun _ a => .inr ⟨g, o, c, cur, rfl, a, h.1, h.2.1, h.2.2.1, h.2.2.2.1, h.2.2.2.2⟩

theorem St.rowSet {w0 w : World} {A : HP} {C : HP → HP} {T s g o n c k m : Nat} {xs cs : List Value} {K : World → Prop} {θ : Tag K} (h : St w0 A w) [i : Hole (.row (.slice (some ⟨g, o, none⟩) n c)) A (RowO T s (.slice (some ⟨g, o, none⟩) n c) n xs) C]
    (hn : cs.length = m) (hk : k + m ≤ xs.length) (hc : ∀ v ∈ cs, isCell v = true)
    (hK : ∀ w', St w0 (C (RowO T s (.slice (some ⟨g, o, none⟩) n c) n (setRowL xs k cs))) w' → K w') : storeD (some m) (.pointer (some ⟨g, o + k, none⟩)) (.agg cs.toArray) w K θ := by
  obtain ⟨R, hR, h'⟩ := h.out (.row (.slice (some ⟨g, o, none⟩) n c))
  obtain ⟨cur, h'⟩ := (h'.ent (Ent.sep (RowO.openE T s g o n c xs) (Ent.rfl' R))).exF
  obtain ⟨⟨a1, a2, a3, a4, a5⟩, h'⟩ := h'.factF
  have hcs : n * s ≤ c * s := Nat.mul_le_mul_right s a1
  refine h'.storeRow hn (by omega) hc fun w' hw => hK w' ?_
  rw [hR]
  refine hw.ent (Ent.sep (RowO.shutE ⟨a1, a2, ?_, ?_, ?_⟩) (Ent.rfl' R))
  · simpa [length_setRowL] using a3
  · rw [List.toList_toArray, setRowL_part (by omega) (by simp only [Array.length_toList]; omega), a4]
  · rw [length_setRowL, a5]

theorem St.rowSet1 {w0 w : World} {A : HP} {C : HP → HP} {T s g o n c k : Nat} {v : Value} {xs : List Value} {K : World → Prop} {θ : Tag K} (h : St w0 A w) [i : Hole (.row (.slice (some ⟨g, o, none⟩) n c)) A (RowO T s (.slice (some ⟨g, o, none⟩) n c) n xs) C]
    (hk : k < xs.length) (hc : isCell v = true)
    (hK : ∀ w', St w0 (C (RowO T s (.slice (some ⟨g, o, none⟩) n c) n (xs.set k v))) w' → K w') : storeD (some 1) (.pointer (some ⟨g, o + k, none⟩)) v w K θ := by
  obtain ⟨R, hR, h'⟩ := h.out (.row (.slice (some ⟨g, o, none⟩) n c))
  obtain ⟨cur, h'⟩ := (h'.ent (Ent.sep (RowO.openE T s g o n c xs) (Ent.rfl' R))).exF
  obtain ⟨⟨a1, a2, a3, a4, a5⟩, h'⟩ := h'.factF
  have hcs : n * s ≤ c * s := Nat.mul_le_mul_right s a1
  refine h'.store rfl (by omega) hc fun w' hw => hK w' ?_
  rw [hR]
  refine hw.ent (Ent.sep (RowO.shutE ⟨a1, a2, by simpa using a3, ?_, by rw [List.length_set, a5]⟩) (Ent.rfl' R))
  rw [Array.toList_setIfInBounds, List.drop_set, if_neg (by omega), show o + k - o = k by omega, List.take_set, a4]

theorem flatMap_at_all {α : Type} {enc : α → List Value} {k : Nat} (hk : ∀ x, (enc x).length = k) (l : List α) (t : Nat) (ht : t < l.length * k) : ∃ (i j : Nat) (hi : i < l.length), j < k ∧ t = i * k + j ∧ (l.flatMap enc)[t]? = (enc l[i])[j]? := by
  have k0 : 0 < k := by rcases Nat.eq_zero_or_pos k with h | h; · subst h; simp at ht
                        · exact h
  have hi : t / k < l.length := Nat.div_lt_of_lt_mul (by rw [Nat.mul_comm]; exact ht)
  have e : t = t / k * k + t % k := by rw [Nat.mul_comm]; exact (Nat.div_add_mod t k).symm
  refine ⟨t / k, t % k, hi, Nat.mod_lt _ k0, e, ?_⟩
  have := flatMap_at hk l (t / k) (t % k) hi (Nat.mod_lt _ k0)
  rwa [← e] at this

/-- A look-up that may fail, as one value. -/
theorem lkV_get {α : Type} {f : α → Value} {d : α} (o : Option α) : lkV (f d) true (o.map f) = .tuple #[f (o.getD d), .bool o.isSome] := by cases o <;> rfl
theorem lkV_get1 {α : Type} {f : α → Value} {d : α} (o : Option α) : lkV (f d) false (o.map f) = f (o.getD d) := by cases o <;> rfl

/-- The raw number that speaks of one of n things. -/
def pickI (c n : Int) : Int := (if c < 0 then -(c + 1) else c).tmod n
theorem pickI_range {c n : Int} (h : 0 < n) : 0 ≤ pickI c n ∧ pickI c n < n := by
  unfold pickI
  have : 0 ≤ (if c < 0 then -(c + 1) else c) := by split <;> omega
  exact ⟨Int.tmod_nonneg _ this, Int.tmod_lt_of_pos _ h⟩
end Go.Proofs.YtacmnfpgimgigaaGreat

/- The compiled code of the functions, by program (genir.py): each with the theorem that it is what the engine makes of the loaded program's. -/
import Derived.Test.YtkijkoakloacoaaGreatDoorIrA
namespace Go.Proofs.YtkijkoakloacoaaGreatDoor
open Go
set_option maxRecDepth 100000
variable {P : Program} {Q : Post} {e : FA} {w : World} {args : Array Value} {R : Ending → World → Prop}

def F80.r0 : List Oper := [
  op 4 (.assign (.const (.string { data := #[] }))) 9,
  op 5 (.assign (.const (.bool false))) 4]
def F80.r1 : List Oper := [
  op 6 (.move (.tmp 0)) 9,
  op 7 (.move (.tmp 1)) 9,
  oc 8 (.call ⟨(.value (.func 94)), #[(.tmp 6), (.tmp 7)], #[9, 9]⟩) 4,
  op 9 (.unOp .not 4 (.tmp 8)) 4]
def F80.r2 : List Oper := [
  op 10 (.move (.tmp 0)) 9,
  op 4 (.assign (.tmp 10)) 9,
  op 5 (.assign (.const (.bool false))) 4]
def F80.r3 : List Oper := [
  op 11 (.move (.tmp 0)) 9,
  op 12 (.move (.tmp 1)) 9,
  op 13 (.call ⟨(.builtin .len), #[(.tmp 12)], #[9]⟩) 3,
  op 14 (.slice 9 (.tmp 11) (some (.tmp 13)) none none) 9,
  op 4 (.assign (.tmp 14)) 9,
  op 5 (.assign (.const (.bool true))) 4]
def F80.t3 : Cd := (.seq (.region 3 F80.r3.toArray false) .ret)
theorem F80.t3_eq {θ : Tag (F80.t3, Q, e, w)} : cwE P F80.t3 Q e w θ = cwE P (.seq (.region 3 F80.r3.toArray false) .ret) Q e w := rfl
def F80.code : Cd := (.seq (.region 0 F80.r0.toArray false) (.seq (.seq (.region 1 F80.r1.toArray false) (.cond (.tmp 9) (.seq (.region 2 F80.r2.toArray false) .ret) .skip)) F80.t3))
theorem F80.calls (hn : args.size ≤ 15) (h : cwE Tryz.prog F80.code (fnP Tryz.prog #[(.tmp 4), (.tmp 5)] R) (entry args) w) : Calls Tryz.prog 80 args w R :=
  calls_of_cwE (types := Tryz.prog.types) follows Tryz.func80 F80.code rfl (by kernel_rfl) hn h

def F81.r0 : List Oper := [
  op 2 (.assign (.const (.bool false))) 4]
def F81.r1 : List Oper := [
  op 3 (.move (.tmp 0)) 9,
  oc 4 (.call ⟨(.value (.func 95)), #[(.tmp 3)], #[9]⟩) 3,
  op 5 (.binOp .lss 3 (.tmp 4) (.const (.int .i64 0)) 3) 4,
  op 2 (.assign (.tmp 5)) 4]
def F81.code : Cd := (.seq (.region 0 F81.r0.toArray false) (.seq (.region 1 F81.r1.toArray false) .ret))
theorem F81.calls (hn : args.size ≤ 6) (h : cwE Tryz.prog F81.code (fnP Tryz.prog #[(.tmp 2)] R) (entry args) w) : Calls Tryz.prog 81 args w R :=
  calls_of_cwE (types := Tryz.prog.types) follows Tryz.func81 F81.code rfl (by kernel_rfl) hn h

def F82.r0 : List Oper := [
  op 4 (.assign (.const (.bool false))) 4]
def F82.r1 : List Oper := [
  op 5 (.move (.tmp 0)) 9,
  op 6 (.move (.tmp 1)) 21,
  oc 7 (.call ⟨(.value (.func 96)), #[(.tmp 5), (.tmp 6)], #[9, 21]⟩) 3,
  op 8 (.binOp .geq 3 (.tmp 7) (.const (.int .i64 0)) 3) 4,
  op 4 (.assign (.tmp 8)) 4]
def F82.code : Cd := (.seq (.region 0 F82.r0.toArray false) (.seq (.region 1 F82.r1.toArray false) .ret))
theorem F82.calls (hn : args.size ≤ 9) (h : cwE Tryz.prog F82.code (fnP Tryz.prog #[(.tmp 4)] R) (entry args) w) : Calls Tryz.prog 82 args w R :=
  calls_of_cwE (types := Tryz.prog.types) follows Tryz.func82 F82.code rfl (by kernel_rfl) hn h

def F83.r0 : List Oper := [
  od 5 (.load 25 (.tmp 1)) 25,
  op 6 (.nilCheck (.tmp 5)) 0,
  op 7 (.fieldAddr 67 (.tmp 6) 0) 0,
  od 8 (.load 38 (.tmp 7)) 38,
  op 9 (.call ⟨(.builtin .len), #[(.tmp 8)], #[38]⟩) 3,
  op 10 (.move (.const (.int .i64 0))) 3]
def F83.r1 : List Oper := [
  op 11 (.binOp .lss 3 (.tmp 10) (.tmp 9) 3) 0]
def F83.r2 : List Oper := [
  op 12 (.indexAddr 38 (.tmp 8) (.tmp 10)) 0,
  od 13 (.load 72 (.tmp 12)) 72,
  oc 4 (.alloc 72) 0,
  ⟨none, (.store 72 (.tmp 4) (.tmp 13)), 0, "", #[⟨0, .chain⟩], none⟩]
def F83.r3 : List Oper := [
  op 14 (.move (.tmp 0)) 91,
  od 15 (.load 72 (.tmp 4)) 72,
  oc 16 (.call ⟨(.value (.func 84)), #[(.tmp 15)], #[72]⟩) 72,
  ⟨(some 17), (.call ⟨(.value (.tmp 14)), #[(.tmp 16)], #[72]⟩), 4, "", #[⟨0, .phase⟩], none⟩,
  op 18 (.unOp .not 4 (.tmp 17)) 4]
def F83.r4 : List Oper := [
  op 19 (.binOp .add 3 (.tmp 10) (.const (.int .i64 1)) 3) 3,
  op 10 (.move (.tmp 19)) 3]
def F83.t4 : Cd := (.region 4 F83.r4.toArray false)
theorem F83.t4_eq {θ : Tag (F83.t4, Q, e, w)} : cwE P F83.t4 Q e w θ = cwE P (.region 4 F83.r4.toArray false) Q e w := rfl
def F83.t2 : Cd := (.seq (.block 1 (.seq (.region 2 F83.r2.toArray false) (.seq (.region 3 F83.r3.toArray false) (.cond (.tmp 18) .ret .skip)))) F83.t4)
theorem F83.t2_eq {θ : Tag (F83.t2, Q, e, w)} : cwE P F83.t2 Q e w θ = cwE P (.seq (.block 1 (.seq (.region 2 F83.r2.toArray false) (.seq (.region 3 F83.r3.toArray false) (.cond (.tmp 18) .ret .skip)))) F83.t4) Q e w := rfl
def F83.code : Cd := (.seq (.region 0 F83.r0.toArray false) (.block 0 (.loop (.seq (.region 1 F83.r1.toArray false) (.seq (.cond (.tmp 11) .skip (.exit 0)) F83.t2)))))
theorem F83.calls (hn : args.size ≤ 20) (h : cwE Tryz.prog F83.code (fnP Tryz.prog #[] R) (entry args) w) : Calls Tryz.prog 83 args w R :=
  calls_of_cwE (types := Tryz.prog.types) follows Tryz.func83 F83.code rfl (by kernel_rfl) hn h

def F84.r0 : List Oper := [
  oc 1 (.box 72 (.tmp 0)) 0,
  oc 2 (.alloc 72) 0]
def F84.r1 : List Oper := [
  op 3 (.fieldAddr 72 (.tmp 1) 2) 0,
  od 4 (.load 22 (.tmp 3)) 22,
  oc 5 (.call ⟨(.value (.func 97)), #[(.tmp 4)], #[22]⟩) 22,
  op 6 (.fieldAddr 72 (.tmp 1) 2) 0,
  ⟨none, (.store 22 (.tmp 6) (.tmp 5)), 0, "", #[⟨0, .chain⟩], none⟩]
def F84.r2 : List Oper := [
  od 7 (.load 72 (.tmp 1)) 72,
  ⟨none, (.store 72 (.tmp 2) (.tmp 7)), 0, "", #[⟨0, .chain⟩], none⟩]
def F84.code : Cd := (.seq (.region 0 F84.r0.toArray false) (.seq (.region 1 F84.r1.toArray false) (.seq (.region 2 F84.r2.toArray false) .ret)))
theorem F84.calls (hn : args.size ≤ 8) (h : cwE Tryz.prog F84.code (fnP Tryz.prog #[(.cell 2 72)] R) (entry args) w) : Calls Tryz.prog 84 args w R :=
  calls_of_cwE (types := Tryz.prog.types) follows Tryz.func84 F84.code rfl (by kernel_rfl) hn h

def F85.r0 : List Oper := [
  op 2 (.assign (.const (.bool false))) 4]
def F85.r1 : List Oper := [
  op 3 (.move (.tmp 0)) 9,
  oc 4 (.call ⟨(.value (.func 98)), #[(.tmp 3)], #[9]⟩) 3,
  op 5 (.move (.tmp 0)) 9,
  op 6 (.call ⟨(.builtin .len), #[(.tmp 5)], #[9]⟩) 3,
  op 7 (.binOp .eql 3 (.tmp 4) (.tmp 6) 3) 4,
  op 2 (.assign (.tmp 7)) 4]
def F85.code : Cd := (.seq (.region 0 F85.r0.toArray false) (.seq (.region 1 F85.r1.toArray false) .ret))
theorem F85.calls (hn : args.size ≤ 8) (h : cwE Tryz.prog F85.code (fnP Tryz.prog #[(.tmp 2)] R) (entry args) w) : Calls Tryz.prog 85 args w R :=
  calls_of_cwE (types := Tryz.prog.types) follows Tryz.func85 F85.code rfl (by kernel_rfl) hn h

def F91.r0 : List Oper := [
  op 4 (.assign (.const (.int .i64 0))) 3]
def F91.r1 : List Oper := [
  op 6 (.move (.tmp 0)) 22,
  op 7 (.call ⟨(.builtin .len), #[(.tmp 6)], #[22]⟩) 3,
  op 8 (.move (.const (.int .i64 0))) 3]
def F91.r2 : List Oper := [
  op 9 (.binOp .lss 3 (.tmp 8) (.tmp 7) 3) 0]
def F91.r3 : List Oper := [
  op 10 (.move (.tmp 8)) 3,
  op 5 (.assign (.tmp 10)) 3]
def F91.r4 : List Oper := [
  op 11 (.move (.tmp 1)) 9,
  op 12 (.move (.tmp 0)) 22,
  op 13 (.move (.tmp 5)) 3,
  op 14 (.indexAddr 22 (.tmp 12) (.tmp 13)) 0,
  od 15 (.load 9 (.tmp 14)) 9,
  op 16 (.binOp .eql 9 (.tmp 11) (.tmp 15) 9) 4]
def F91.r5 : List Oper := [
  op 17 (.move (.tmp 5)) 3,
  op 4 (.assign (.tmp 17)) 3]
def F91.r6 : List Oper := [
  op 18 (.binOp .add 3 (.tmp 8) (.const (.int .i64 1)) 3) 3,
  op 8 (.move (.tmp 18)) 3]
def F91.r7 : List Oper := [
  op 4 (.assign (.const (.int .i64 (-1)))) 3]
def F91.t6 : Cd := (.region 6 F91.r6.toArray false)
theorem F91.t6_eq {θ : Tag (F91.t6, Q, e, w)} : cwE P F91.t6 Q e w θ = cwE P (.region 6 F91.r6.toArray false) Q e w := rfl
def F91.t3 : Cd := (.seq (.block 1 (.seq (.region 3 F91.r3.toArray false) (.seq (.region 4 F91.r4.toArray false) (.cond (.tmp 16) (.seq (.region 5 F91.r5.toArray false) .ret) .skip)))) F91.t6)
theorem F91.t3_eq {θ : Tag (F91.t3, Q, e, w)} : cwE P F91.t3 Q e w θ = cwE P (.seq (.block 1 (.seq (.region 3 F91.r3.toArray false) (.seq (.region 4 F91.r4.toArray false) (.cond (.tmp 16) (.seq (.region 5 F91.r5.toArray false) .ret) .skip)))) F91.t6) Q e w := rfl
def F91.t7 : Cd := (.seq (.region 7 F91.r7.toArray false) .ret)
theorem F91.t7_eq {θ : Tag (F91.t7, Q, e, w)} : cwE P F91.t7 Q e w θ = cwE P (.seq (.region 7 F91.r7.toArray false) .ret) Q e w := rfl
def F91.code : Cd := (.seq (.region 0 F91.r0.toArray false) (.seq (.seq (.region 1 F91.r1.toArray false) (.block 0 (.loop (.seq (.region 2 F91.r2.toArray false) (.seq (.cond (.tmp 9) .skip (.exit 0)) F91.t3))))) F91.t7))
theorem F91.calls (hn : args.size ≤ 19) (h : cwE Tryz.prog F91.code (fnP Tryz.prog #[(.tmp 4)] R) (entry args) w) : Calls Tryz.prog 91 args w R :=
  calls_of_cwE (types := Tryz.prog.types) follows Tryz.func91 F91.code rfl (by kernel_rfl) hn h

def F94.r0 : List Oper := [
  op 4 (.assign (.const (.bool false))) 4]
def F94.r1 : List Oper := [
  op 5 (.move (.tmp 0)) 9,
  op 6 (.call ⟨(.builtin .len), #[(.tmp 5)], #[9]⟩) 3,
  op 7 (.move (.tmp 1)) 9,
  op 8 (.call ⟨(.builtin .len), #[(.tmp 7)], #[9]⟩) 3,
  op 9 (.binOp .geq 3 (.tmp 6) (.tmp 8) 3) 4,
  op 10 (.move (.tmp 9)) 4,
  ⟨(some 11), (.move (.tmp 0)), 9, "", #[], (some (10, true))⟩,
  ⟨(some 12), (.move (.tmp 1)), 9, "", #[], (some (10, true))⟩,
  ⟨(some 13), (.call ⟨(.builtin .len), #[(.tmp 12)], #[9]⟩), 3, "", #[], (some (10, true))⟩,
  ⟨(some 14), (.slice 9 (.tmp 11) none (some (.tmp 13)) none), 9, "", #[], (some (10, true))⟩,
  ⟨(some 15), (.move (.tmp 1)), 9, "", #[], (some (10, true))⟩,
  ⟨(some 16), (.binOp .eql 9 (.tmp 14) (.tmp 15) 9), 4, "", #[], (some (10, true))⟩,
  op 17 (.pick (.tmp 10) (.tmp 16) (.const (.bool false))) 4,
  op 4 (.assign (.tmp 17)) 4]
def F94.code : Cd := (.seq (.region 0 F94.r0.toArray false) (.seq (.region 1 F94.r1.toArray false) .ret))
theorem F94.calls (hn : args.size ≤ 18) (h : cwE Tryz.prog F94.code (fnP Tryz.prog #[(.tmp 4)] R) (entry args) w) : Calls Tryz.prog 94 args w R :=
  calls_of_cwE (types := Tryz.prog.types) follows Tryz.func94 F94.code rfl (by kernel_rfl) hn h

def F95.r0 : List Oper := [
  op 2 (.assign (.const (.int .i64 0))) 3]
def F95.r1 : List Oper := [
  op 7 (.move (.tmp 0)) 9,
  oc 8 (.range 9 (.tmp 7)) 0]
def F95.r2 : List Oper := [
  oc 9 (.next (.tmp 8) true) 0,
  op 10 (.extract (.tmp 9) 0) 4]
def F95.r3 : List Oper := [
  op 11 (.extract (.tmp 9) 1) 3,
  op 12 (.extract (.tmp 9) 2) 21,
  op 3 (.assign (.tmp 11)) 3,
  op 4 (.assign (.tmp 12)) 21]
def F95.r4 : List Oper := [
  op 13 (.move (.tmp 4)) 21,
  op 14 (.binOp .eql 21 (.tmp 13) (.const (.int .i32 0)) 21) 4]
def F95.r5 : List Oper := [
  op 15 (.move (.tmp 3)) 3,
  op 2 (.assign (.tmp 15)) 3]
def F95.r6 : List Oper := [
  op 16 (.move (.tmp 4)) 21,
  op 17 (.binOp .eql 21 (.tmp 16) (.const (.int .i32 65533)) 21) 4]
def F95.r7 : List Oper := [
  op 19 (.move (.tmp 0)) 9,
  op 20 (.move (.tmp 3)) 3,
  op 21 (.slice 9 (.tmp 19) (some (.tmp 20)) none none) 9,
  oc 22 (.call ⟨(.value (.func 111)), #[(.tmp 21)], #[9]⟩) 142,
  op 18 (.move (.tmp 22)) 142,
  op 23 (.extract (.tmp 18) 0) 21,
  op 24 (.extract (.tmp 18) 1) 3,
  op 5 (.assign (.tmp 23)) 21,
  op 6 (.assign (.tmp 24)) 3]
def F95.r8 : List Oper := [
  op 25 (.move (.tmp 6)) 3,
  op 26 (.binOp .eql 3 (.tmp 25) (.const (.int .i64 1)) 3) 4]
def F95.r9 : List Oper := [
  op 27 (.move (.tmp 3)) 3,
  op 2 (.assign (.tmp 27)) 3]
def F95.r10 : List Oper := [
  op 2 (.assign (.const (.int .i64 (-1)))) 3]
def F95.t6 : Cd := (.seq (.region 6 F95.r6.toArray false) (.cond (.tmp 17) (.seq (.region 7 F95.r7.toArray false) (.seq (.region 8 F95.r8.toArray false) (.cond (.tmp 26) (.seq (.region 9 F95.r9.toArray false) .ret) .skip))) .skip))
theorem F95.t6_eq {θ : Tag (F95.t6, Q, e, w)} : cwE P F95.t6 Q e w θ = cwE P (.seq (.region 6 F95.r6.toArray false) (.cond (.tmp 17) (.seq (.region 7 F95.r7.toArray false) (.seq (.region 8 F95.r8.toArray false) (.cond (.tmp 26) (.seq (.region 9 F95.r9.toArray false) .ret) .skip))) .skip)) Q e w := rfl
def F95.t3 : Cd := (.block 1 (.seq (.region 3 F95.r3.toArray false) (.seq (.seq (.region 4 F95.r4.toArray false) (.cond (.tmp 14) (.seq (.region 5 F95.r5.toArray false) .ret) .skip)) F95.t6)))
theorem F95.t3_eq {θ : Tag (F95.t3, Q, e, w)} : cwE P F95.t3 Q e w θ = cwE P (.block 1 (.seq (.region 3 F95.r3.toArray false) (.seq (.seq (.region 4 F95.r4.toArray false) (.cond (.tmp 14) (.seq (.region 5 F95.r5.toArray false) .ret) .skip)) F95.t6))) Q e w := rfl
def F95.t10 : Cd := (.seq (.region 10 F95.r10.toArray false) .ret)
theorem F95.t10_eq {θ : Tag (F95.t10, Q, e, w)} : cwE P F95.t10 Q e w θ = cwE P (.seq (.region 10 F95.r10.toArray false) .ret) Q e w := rfl
def F95.code : Cd := (.seq (.region 0 F95.r0.toArray false) (.seq (.seq (.region 1 F95.r1.toArray false) (.block 0 (.loop (.seq (.region 2 F95.r2.toArray false) (.seq (.cond (.tmp 10) .skip (.exit 0)) F95.t3))))) F95.t10))
theorem F95.calls (hn : args.size ≤ 28) (h : cwE Tryz.prog F95.code (fnP Tryz.prog #[(.tmp 2)] R) (entry args) w) : Calls Tryz.prog 95 args w R :=
  calls_of_cwE (types := Tryz.prog.types) follows Tryz.func95 F95.code rfl (by kernel_rfl) hn h

def F96.r0 : List Oper := [
  op 4 (.assign (.const (.int .i64 0))) 3]
def F96.r34 : List Oper := [
  op 161 (.move (.tmp 1)) 21,
  op 162 (.binOp .leq 21 (.const (.int .i32 0)) (.tmp 161) 21) 4,
  op 163 (.move (.tmp 162)) 4,
  ⟨(some 164), (.move (.tmp 1)), 21, "", #[], (some (163, true))⟩,
  ⟨(some 165), (.binOp .lss 21 (.tmp 164) (.const (.int .i32 128)) 21), 4, "", #[], (some (163, true))⟩,
  op 166 (.pick (.tmp 163) (.tmp 165) (.const (.bool false))) 4,
  op 160 (.assign (.tmp 166)) 4]
def F96.r35 : List Oper := [
  op 167 (.move (.tmp 0)) 9,
  op 168 (.move (.tmp 1)) 21,
  op 169 (.convert 21 5 (.tmp 168)) 5,
  oc 170 (.call ⟨(.value (.func 116)), #[(.tmp 167), (.tmp 169)], #[9, 5]⟩) 3,
  op 4 (.assign (.tmp 170)) 3]
def F96.r36 : List Oper := [
  op 172 (.move (.tmp 1)) 21,
  op 173 (.binOp .eql 21 (.tmp 172) (.const (.int .i32 65533)) 21) 4,
  op 171 (.assign (.tmp 173)) 4]
def F96.r37 : List Oper := [
  op 174 (.move (.tmp 0)) 9,
  oc 175 (.range 9 (.tmp 174)) 0]
def F96.r38 : List Oper := [
  oc 176 (.next (.tmp 175) true) 0,
  op 177 (.extract (.tmp 176) 0) 4]
def F96.r39 : List Oper := [
  op 178 (.extract (.tmp 176) 1) 3,
  op 179 (.extract (.tmp 176) 2) 21,
  op 5 (.assign (.tmp 178)) 3,
  op 6 (.assign (.tmp 179)) 21]
def F96.r40 : List Oper := [
  op 180 (.move (.tmp 6)) 21,
  op 181 (.binOp .eql 21 (.tmp 180) (.const (.int .i32 65533)) 21) 4]
def F96.r41 : List Oper := [
  op 182 (.move (.tmp 5)) 3,
  op 4 (.assign (.tmp 182)) 3]
def F96.r42 : List Oper := [
  op 4 (.assign (.const (.int .i64 (-1)))) 3]
def F96.r43 : List Oper := [
  op 184 (.move (.tmp 1)) 21,
  oc 185 (.call ⟨(.value (.func 117)), #[(.tmp 184)], #[21]⟩) 4,
  op 186 (.unOp .not 4 (.tmp 185)) 4,
  op 183 (.assign (.tmp 186)) 4]
def F96.r44 : List Oper := [
  op 4 (.assign (.const (.int .i64 (-1)))) 3]
def F96.r1 : List Oper := [
  op 17 (.move (.tmp 1)) 21,
  op 18 (.convert 21 9 (.tmp 17)) 9,
  op 7 (.assign (.tmp 18)) 9]
def F96.r2 : List Oper := [
  op 19 (.move (.tmp 7)) 9,
  op 20 (.call ⟨(.builtin .len), #[(.tmp 19)], #[9]⟩) 3,
  op 21 (.binOp .sub 3 (.tmp 20) (.const (.int .i64 1)) 3) 3,
  op 8 (.assign (.tmp 21)) 3]
def F96.r3 : List Oper := [
  op 22 (.move (.tmp 8)) 3,
  op 9 (.assign (.tmp 22)) 3]
def F96.r4 : List Oper := [
  op 10 (.assign (.const (.int .i64 0))) 3]
def F96.r5 : List Oper := [
  op 23 (.move (.tmp 9)) 3,
  op 24 (.move (.tmp 0)) 9,
  op 25 (.call ⟨(.builtin .len), #[(.tmp 24)], #[9]⟩) 3,
  op 26 (.binOp .lss 3 (.tmp 23) (.tmp 25) 3) 4]
def F96.r6 : List Oper := [
  ⟨(some 27), (.move (.tmp 0)), 9, "", #[], none⟩,
  ⟨(some 28), (.move (.tmp 9)), 3, "", #[], none⟩,
  ⟨(some 29), (.index 9 (.tmp 27) (.tmp 28)), 5, "", #[], none⟩,
  ⟨(some 30), (.move (.tmp 7)), 9, "", #[], none⟩,
  ⟨(some 31), (.move (.tmp 8)), 3, "", #[], none⟩,
  ⟨(some 32), (.index 9 (.tmp 30) (.tmp 31)), 5, "", #[], none⟩,
  ⟨(some 33), (.binOp .neq 5 (.tmp 29) (.tmp 32) 5), 4, "", #[], none⟩]
def F96.r7 : List Oper := [
  ⟨(some 34), (.move (.tmp 0)), 9, "", #[], none⟩,
  ⟨(some 35), (.move (.tmp 9)), 3, "", #[], none⟩,
  ⟨(some 36), (.binOp .add 3 (.tmp 35) (.const (.int .i64 1)) 3), 3, "", #[], none⟩,
  ⟨(some 37), (.slice 9 (.tmp 34) (some (.tmp 36)) none none), 9, "", #[], none⟩,
  ⟨(some 38), (.move (.tmp 7)), 9, "", #[], none⟩,
  ⟨(some 39), (.move (.tmp 8)), 3, "", #[], none⟩,
  ⟨(some 40), (.index 9 (.tmp 38) (.tmp 39)), 5, "", #[], none⟩,
  ⟨(some 41), (.call ⟨(.value (.func 116)), #[(.tmp 37), (.tmp 40)], #[9, 5]⟩), 3, "", #[⟨7, .chain⟩], none⟩,
  ⟨(some 11), (.assign (.tmp 41)), 3, "", #[], none⟩]
def F96.r8 : List Oper := [
  op 42 (.move (.tmp 11)) 3,
  op 43 (.binOp .lss 3 (.tmp 42) (.const (.int .i64 0)) 3) 4]
def F96.r9 : List Oper := [
  op 4 (.assign (.const (.int .i64 (-1)))) 3]
def F96.r10 : List Oper := [
  op 44 (.move (.tmp 9)) 3,
  op 45 (.move (.tmp 11)) 3,
  op 46 (.binOp .add 3 (.tmp 45) (.const (.int .i64 1)) 3) 3,
  op 47 (.binOp .add 3 (.tmp 44) (.tmp 46) 3) 3,
  op 9 (.assign (.tmp 47)) 3]
def F96.r11 : List Oper := [
  op 12 (.assign (.const (.int .i64 1))) 3]
def F96.r12 : List Oper := [
  op 48 (.move (.tmp 12)) 3,
  op 49 (.move (.tmp 7)) 9,
  op 50 (.call ⟨(.builtin .len), #[(.tmp 49)], #[9]⟩) 3,
  op 51 (.binOp .lss 3 (.tmp 48) (.tmp 50) 3) 4]
def F96.r14 : List Oper := [
  ⟨(some 54), (.move (.tmp 0)), 9, "", #[], none⟩,
  ⟨(some 55), (.move (.tmp 9)), 3, "", #[], none⟩,
  ⟨(some 56), (.move (.tmp 12)), 3, "", #[], none⟩,
  ⟨(some 57), (.binOp .sub 3 (.tmp 55) (.tmp 56) 3), 3, "", #[], none⟩,
  ⟨(some 58), (.index 9 (.tmp 54) (.tmp 57)), 5, "", #[], none⟩,
  ⟨(some 59), (.move (.tmp 7)), 9, "", #[], none⟩,
  ⟨(some 60), (.move (.tmp 8)), 3, "", #[], none⟩,
  ⟨(some 61), (.move (.tmp 12)), 3, "", #[], none⟩,
  ⟨(some 62), (.binOp .sub 3 (.tmp 60) (.tmp 61) 3), 3, "", #[], none⟩,
  ⟨(some 63), (.index 9 (.tmp 59) (.tmp 62)), 5, "", #[], none⟩,
  ⟨(some 64), (.binOp .neq 5 (.tmp 58) (.tmp 63) 5), 4, "", #[], none⟩]
def F96.r13 : List Oper := [
  op 52 (.move (.tmp 12)) 3,
  op 53 (.binOp .add 3 (.tmp 52) (.const (.int .i64 1)) 3) 3,
  op 12 (.assign (.tmp 53)) 3]
def F96.r15 : List Oper := [
  op 65 (.move (.tmp 9)) 3,
  op 66 (.move (.tmp 8)) 3,
  op 67 (.binOp .sub 3 (.tmp 65) (.tmp 66) 3) 3,
  op 4 (.assign (.tmp 67)) 3]
def F96.r16 : List Oper := [
  op 68 (.move (.tmp 10)) 3,
  op 69 (.binOp .add 3 (.tmp 68) (.const (.int .i64 1)) 3) 3,
  op 10 (.assign (.tmp 69)) 3]
def F96.r17 : List Oper := [
  op 70 (.move (.tmp 9)) 3,
  op 71 (.binOp .add 3 (.tmp 70) (.const (.int .i64 1)) 3) 3,
  op 9 (.assign (.tmp 71)) 3]
def F96.r18 : List Oper := [
  op 72 (.move (.const (.bool true))) 4,
  ⟨(some 73), (.move (.tmp 10)), 3, "", #[], (some (72, true))⟩,
  ⟨(some 74), (.move (.tmp 9)), 3, "", #[], (some (72, true))⟩,
  ⟨(some 75), (.call ⟨(.value (.func 118)), #[(.tmp 74)], #[3]⟩), 3, "", #[⟨0, .chain⟩], (some (72, true))⟩,
  ⟨(some 76), (.binOp .gtr 3 (.tmp 73) (.tmp 75) 3), 4, "", #[], (some (72, true))⟩,
  op 77 (.pick (.tmp 72) (.tmp 76) (.const (.bool false))) 4,
  op 78 (.move (.tmp 77)) 4,
  ⟨(some 79), (.move (.tmp 9)), 3, "", #[], (some (78, true))⟩,
  ⟨(some 80), (.move (.tmp 0)), 9, "", #[], (some (78, true))⟩,
  ⟨(some 81), (.call ⟨(.builtin .len), #[(.tmp 80)], #[9]⟩), 3, "", #[], (some (78, true))⟩,
  ⟨(some 82), (.binOp .lss 3 (.tmp 79) (.tmp 81) 3), 4, "", #[], (some (78, true))⟩,
  op 83 (.pick (.tmp 78) (.tmp 82) (.const (.bool false))) 4,
  op 84 (.move (.tmp 83)) 4,
  ⟨(some 85), (.move (.const (.bool false))), 4, "", #[], (some (84, false))⟩,
  ⟨(some 86), (.move (.tmp 10)), 3, "", #[], (some (85, true))⟩,
  ⟨(some 87), (.move (.tmp 9)), 3, "", #[], (some (85, true))⟩,
  ⟨(some 88), (.binOp .shr 3 (.tmp 87) (.const (.int .u64 4)) 122), 3, "", #[], (some (85, true))⟩,
  ⟨(some 89), (.binOp .add 3 (.const (.int .i64 4)) (.tmp 88) 3), 3, "", #[], (some (85, true))⟩,
  ⟨(some 90), (.binOp .geq 3 (.tmp 86) (.tmp 89) 3), 4, "", #[], (some (85, true))⟩,
  ⟨(some 91), (.pick (.tmp 85) (.tmp 90) (.const (.bool false))), 4, "", #[], (some (84, false))⟩,
  ⟨(some 92), (.move (.tmp 91)), 4, "", #[], (some (84, false))⟩,
  ⟨(some 93), (.move (.tmp 9)), 3, "", #[], (some (92, true))⟩,
  ⟨(some 94), (.move (.tmp 0)), 9, "", #[], (some (92, true))⟩,
  ⟨(some 95), (.call ⟨(.builtin .len), #[(.tmp 94)], #[9]⟩), 3, "", #[], (some (92, true))⟩,
  ⟨(some 96), (.binOp .lss 3 (.tmp 93) (.tmp 95) 3), 4, "", #[], (some (92, true))⟩,
  ⟨(some 97), (.pick (.tmp 92) (.tmp 96) (.const (.bool false))), 4, "", #[], (some (84, false))⟩,
  op 98 (.pick (.tmp 84) (.const (.bool true)) (.tmp 97)) 4]
def F96.r19 : List Oper := [
  op 4 (.assign (.const (.int .i64 (-1)))) 3]
def F96.r20 : List Oper := [
  op 99 (.move (.tmp 0)) 9,
  op 100 (.move (.tmp 9)) 3,
  op 101 (.move (.tmp 8)) 3,
  op 102 (.binOp .sub 3 (.tmp 100) (.tmp 101) 3) 3,
  op 103 (.slice 9 (.tmp 99) (some (.tmp 102)) none none) 9,
  op 104 (.move (.tmp 1)) 21,
  op 105 (.convert 21 9 (.tmp 104)) 9,
  oc 106 (.call ⟨(.value (.func 119)), #[(.tmp 103), (.tmp 105)], #[9, 9]⟩) 3,
  op 13 (.assign (.tmp 106)) 3]
def F96.r21 : List Oper := [
  op 107 (.move (.tmp 13)) 3,
  op 108 (.binOp .geq 3 (.tmp 107) (.const (.int .i64 0)) 3) 4]
def F96.r22 : List Oper := [
  op 109 (.move (.tmp 9)) 3,
  op 110 (.move (.tmp 13)) 3,
  op 111 (.binOp .add 3 (.tmp 109) (.tmp 110) 3) 3,
  op 112 (.move (.tmp 8)) 3,
  op 113 (.binOp .sub 3 (.tmp 111) (.tmp 112) 3) 3,
  op 4 (.assign (.tmp 113)) 3]
def F96.r23 : List Oper := [
  op 114 (.move (.tmp 7)) 9,
  op 115 (.move (.tmp 8)) 3,
  op 116 (.index 9 (.tmp 114) (.tmp 115)) 5,
  op 14 (.assign (.tmp 116)) 5]
def F96.r24 : List Oper := [
  op 117 (.move (.tmp 7)) 9,
  op 118 (.move (.tmp 8)) 3,
  op 119 (.binOp .sub 3 (.tmp 118) (.const (.int .i64 1)) 3) 3,
  op 120 (.index 9 (.tmp 117) (.tmp 119)) 5,
  op 15 (.assign (.tmp 120)) 5]
def F96.r25 : List Oper := [
  op 121 (.move (.tmp 9)) 3,
  op 122 (.move (.tmp 0)) 9,
  op 123 (.call ⟨(.builtin .len), #[(.tmp 122)], #[9]⟩) 3,
  op 124 (.binOp .lss 3 (.tmp 121) (.tmp 123) 3) 4]
def F96.r27 : List Oper := [
  op 127 (.move (.tmp 0)) 9,
  op 128 (.move (.tmp 9)) 3,
  op 129 (.index 9 (.tmp 127) (.tmp 128)) 5,
  op 130 (.move (.tmp 14)) 5,
  op 131 (.binOp .eql 5 (.tmp 129) (.tmp 130) 5) 4,
  op 132 (.move (.tmp 131)) 4,
  ⟨(some 133), (.move (.tmp 0)), 9, "", #[], (some (132, true))⟩,
  ⟨(some 134), (.move (.tmp 9)), 3, "", #[], (some (132, true))⟩,
  ⟨(some 135), (.binOp .sub 3 (.tmp 134) (.const (.int .i64 1)) 3), 3, "", #[], (some (132, true))⟩,
  ⟨(some 136), (.index 9 (.tmp 133) (.tmp 135)), 5, "", #[], (some (132, true))⟩,
  ⟨(some 137), (.move (.tmp 15)), 5, "", #[], (some (132, true))⟩,
  ⟨(some 138), (.binOp .eql 5 (.tmp 136) (.tmp 137) 5), 4, "", #[], (some (132, true))⟩,
  op 139 (.pick (.tmp 132) (.tmp 138) (.const (.bool false))) 4]
def F96.r28 : List Oper := [
  op 16 (.assign (.const (.int .i64 2))) 3]
def F96.r29 : List Oper := [
  op 140 (.move (.tmp 16)) 3,
  op 141 (.move (.tmp 7)) 9,
  op 142 (.call ⟨(.builtin .len), #[(.tmp 141)], #[9]⟩) 3,
  op 143 (.binOp .lss 3 (.tmp 140) (.tmp 142) 3) 4]
def F96.r31 : List Oper := [
  ⟨(some 146), (.move (.tmp 0)), 9, "", #[], none⟩,
  ⟨(some 147), (.move (.tmp 9)), 3, "", #[], none⟩,
  ⟨(some 148), (.move (.tmp 16)), 3, "", #[], none⟩,
  ⟨(some 149), (.binOp .sub 3 (.tmp 147) (.tmp 148) 3), 3, "", #[], none⟩,
  ⟨(some 150), (.index 9 (.tmp 146) (.tmp 149)), 5, "", #[], none⟩,
  ⟨(some 151), (.move (.tmp 7)), 9, "", #[], none⟩,
  ⟨(some 152), (.move (.tmp 8)), 3, "", #[], none⟩,
  ⟨(some 153), (.move (.tmp 16)), 3, "", #[], none⟩,
  ⟨(some 154), (.binOp .sub 3 (.tmp 152) (.tmp 153) 3), 3, "", #[], none⟩,
  ⟨(some 155), (.index 9 (.tmp 151) (.tmp 154)), 5, "", #[], none⟩,
  ⟨(some 156), (.binOp .neq 5 (.tmp 150) (.tmp 155) 5), 4, "", #[], none⟩]
def F96.r30 : List Oper := [
  op 144 (.move (.tmp 16)) 3,
  op 145 (.binOp .add 3 (.tmp 144) (.const (.int .i64 1)) 3) 3,
  op 16 (.assign (.tmp 145)) 3]
def F96.r32 : List Oper := [
  op 157 (.move (.tmp 9)) 3,
  op 158 (.move (.tmp 8)) 3,
  op 159 (.binOp .sub 3 (.tmp 157) (.tmp 158) 3) 3,
  op 4 (.assign (.tmp 159)) 3]
def F96.r26 : List Oper := [
  op 125 (.move (.tmp 9)) 3,
  op 126 (.binOp .add 3 (.tmp 125) (.const (.int .i64 1)) 3) 3,
  op 9 (.assign (.tmp 126)) 3]
def F96.r33 : List Oper := [
  op 4 (.assign (.const (.int .i64 (-1)))) 3]
def F96.t39 : Cd := (.block 10 (.seq (.region 39 F96.r39.toArray false) (.seq (.region 40 F96.r40.toArray false) (.cond (.tmp 181) (.seq (.region 41 F96.r41.toArray false) .ret) .skip))))
theorem F96.t39_eq {θ : Tag (F96.t39, Q, e, w)} : cwE P F96.t39 Q e w θ = cwE P (.block 10 (.seq (.region 39 F96.r39.toArray false) (.seq (.region 40 F96.r40.toArray false) (.cond (.tmp 181) (.seq (.region 41 F96.r41.toArray false) .ret) .skip)))) Q e w := rfl
def F96.t42 : Cd := (.seq (.region 42 F96.r42.toArray false) .ret)
theorem F96.t42_eq {θ : Tag (F96.t42, Q, e, w)} : cwE P F96.t42 Q e w θ = cwE P (.seq (.region 42 F96.r42.toArray false) .ret) Q e w := rfl
def F96.t10 : Cd := (.region 10 F96.r10.toArray false)
theorem F96.t10_eq {θ : Tag (F96.t10, Q, e, w)} : cwE P F96.t10 Q e w θ = cwE P (.region 10 F96.r10.toArray false) Q e w := rfl
def F96.t13 : Cd := (.region 13 F96.r13.toArray false)
theorem F96.t13_eq {θ : Tag (F96.t13, Q, e, w)} : cwE P F96.t13 Q e w θ = cwE P (.region 13 F96.r13.toArray false) Q e w := rfl
def F96.t14 : Cd := (.seq (.block 4 (.seq (.region 14 F96.r14.toArray true) (.cond (.tmp 64) (.goto 0) .skip))) F96.t13)
theorem F96.t14_eq {θ : Tag (F96.t14, Q, e, w)} : cwE P F96.t14 Q e w θ = cwE P (.seq (.block 4 (.seq (.region 14 F96.r14.toArray true) (.cond (.tmp 64) (.goto 0) .skip))) F96.t13) Q e w := rfl
def F96.t16 : Cd := (.seq (.region 16 F96.r16.toArray false) (.seq (.region 17 F96.r17.toArray false) (.seq (.region 18 F96.r18.toArray false) (.cond (.tmp 98) (.goto 1) .skip))))
theorem F96.t16_eq {θ : Tag (F96.t16, Q, e, w)} : cwE P F96.t16 Q e w θ = cwE P (.seq (.region 16 F96.r16.toArray false) (.seq (.region 17 F96.r17.toArray false) (.seq (.region 18 F96.r18.toArray false) (.cond (.tmp 98) (.goto 1) .skip)))) Q e w := rfl
def F96.t15 : Cd := (.seq (.seq (.region 15 F96.r15.toArray false) .ret) (.seq (.label 0) F96.t16))
theorem F96.t15_eq {θ : Tag (F96.t15, Q, e, w)} : cwE P F96.t15 Q e w θ = cwE P (.seq (.seq (.region 15 F96.r15.toArray false) .ret) (.seq (.label 0) F96.t16)) Q e w := rfl
def F96.t11 : Cd := (.seq (.seq (.region 11 F96.r11.toArray false) (.block 3 (.loop (.seq (.seq (.region 12 F96.r12.toArray false) (.cond (.tmp 51) .skip (.exit 3))) F96.t14)))) F96.t15)
theorem F96.t11_eq {θ : Tag (F96.t11, Q, e, w)} : cwE P F96.t11 Q e w θ = cwE P (.seq (.seq (.region 11 F96.r11.toArray false) (.block 3 (.loop (.seq (.seq (.region 12 F96.r12.toArray false) (.cond (.tmp 51) .skip (.exit 3))) F96.t14)))) F96.t15) Q e w := rfl
def F96.t6 : Cd := (.block 2 (.scope (.seq (.seq (.region 6 F96.r6.toArray true) (.cond (.tmp 33) (.seq (.region 7 F96.r7.toArray true) (.seq (.seq (.region 8 F96.r8.toArray false) (.cond (.tmp 43) (.seq (.region 9 F96.r9.toArray false) .ret) .skip)) F96.t10)) .skip)) F96.t11)))
theorem F96.t6_eq {θ : Tag (F96.t6, Q, e, w)} : cwE P F96.t6 Q e w θ = cwE P (.block 2 (.scope (.seq (.seq (.region 6 F96.r6.toArray true) (.cond (.tmp 33) (.seq (.region 7 F96.r7.toArray true) (.seq (.seq (.region 8 F96.r8.toArray false) (.cond (.tmp 43) (.seq (.region 9 F96.r9.toArray false) .ret) .skip)) F96.t10)) .skip)) F96.t11))) Q e w := rfl
def F96.t30 : Cd := (.region 30 F96.r30.toArray false)
theorem F96.t30_eq {θ : Tag (F96.t30, Q, e, w)} : cwE P F96.t30 Q e w θ = cwE P (.region 30 F96.r30.toArray false) Q e w := rfl
def F96.t31 : Cd := (.seq (.block 8 (.seq (.region 31 F96.r31.toArray true) (.cond (.tmp 156) (.exit 6) .skip))) F96.t30)
theorem F96.t31_eq {θ : Tag (F96.t31, Q, e, w)} : cwE P F96.t31 Q e w θ = cwE P (.seq (.block 8 (.seq (.region 31 F96.r31.toArray true) (.cond (.tmp 156) (.exit 6) .skip))) F96.t30) Q e w := rfl
def F96.t32 : Cd := (.seq (.region 32 F96.r32.toArray false) .ret)
theorem F96.t32_eq {θ : Tag (F96.t32, Q, e, w)} : cwE P F96.t32 Q e w θ = cwE P (.seq (.region 32 F96.r32.toArray false) .ret) Q e w := rfl
def F96.t26 : Cd := (.region 26 F96.r26.toArray false)
theorem F96.t26_eq {θ : Tag (F96.t26, Q, e, w)} : cwE P F96.t26 Q e w θ = cwE P (.region 26 F96.r26.toArray false) Q e w := rfl
def F96.t27 : Cd := (.seq (.block 6 (.seq (.region 27 F96.r27.toArray false) (.cond (.tmp 139) (.seq (.seq (.region 28 F96.r28.toArray false) (.block 7 (.loop (.seq (.seq (.region 29 F96.r29.toArray false) (.cond (.tmp 143) .skip (.exit 7))) F96.t31)))) F96.t32) .skip))) F96.t26)
theorem F96.t27_eq {θ : Tag (F96.t27, Q, e, w)} : cwE P F96.t27 Q e w θ = cwE P (.seq (.block 6 (.seq (.region 27 F96.r27.toArray false) (.cond (.tmp 139) (.seq (.seq (.region 28 F96.r28.toArray false) (.block 7 (.loop (.seq (.seq (.region 29 F96.r29.toArray false) (.cond (.tmp 143) .skip (.exit 7))) F96.t31)))) F96.t32) .skip))) F96.t26) Q e w := rfl
def F96.t25 : Cd := (.block 5 (.loop (.seq (.seq (.region 25 F96.r25.toArray false) (.cond (.tmp 124) .skip (.exit 5))) F96.t27)))
theorem F96.t25_eq {θ : Tag (F96.t25, Q, e, w)} : cwE P F96.t25 Q e w θ = cwE P (.block 5 (.loop (.seq (.seq (.region 25 F96.r25.toArray false) (.cond (.tmp 124) .skip (.exit 5))) F96.t27))) Q e w := rfl
def F96.t33 : Cd := (.seq (.region 33 F96.r33.toArray false) .ret)
theorem F96.t33_eq {θ : Tag (F96.t33, Q, e, w)} : cwE P F96.t33 Q e w θ = cwE P (.seq (.region 33 F96.r33.toArray false) .ret) Q e w := rfl
def F96.t20 : Cd := (.seq (.cond (.const (.bool true)) (.seq (.region 20 F96.r20.toArray false) (.seq (.region 21 F96.r21.toArray false) (.cond (.tmp 108) (.seq (.region 22 F96.r22.toArray false) .ret) .skip))) (.scope (.seq (.region 23 F96.r23.toArray false) (.seq (.region 24 F96.r24.toArray false) (.seq (.label 2) F96.t25))))) F96.t33)
theorem F96.t20_eq {θ : Tag (F96.t20, Q, e, w)} : cwE P F96.t20 Q e w θ = cwE P (.seq (.cond (.const (.bool true)) (.seq (.region 20 F96.r20.toArray false) (.seq (.region 21 F96.r21.toArray false) (.cond (.tmp 108) (.seq (.region 22 F96.r22.toArray false) .ret) .skip))) (.scope (.seq (.region 23 F96.r23.toArray false) (.seq (.region 24 F96.r24.toArray false) (.seq (.label 2) F96.t25))))) F96.t33) Q e w := rfl
def F96.t19 : Cd := (.seq (.seq (.region 19 F96.r19.toArray false) .ret) (.seq (.label 1) F96.t20))
theorem F96.t19_eq {θ : Tag (F96.t19, Q, e, w)} : cwE P F96.t19 Q e w θ = cwE P (.seq (.seq (.region 19 F96.r19.toArray false) .ret) (.seq (.label 1) F96.t20)) Q e w := rfl
def F96.code : Cd := (.seq (.region 0 F96.r0.toArray false) (.block 0 (.seq (.region 34 F96.r34.toArray false) (.cond (.tmp 160) (.seq (.region 35 F96.r35.toArray false) .ret) (.seq (.region 36 F96.r36.toArray false) (.cond (.tmp 171) (.seq (.seq (.region 37 F96.r37.toArray false) (.block 9 (.loop (.seq (.region 38 F96.r38.toArray false) (.seq (.cond (.tmp 177) .skip (.exit 9)) F96.t39))))) F96.t42) (.seq (.region 43 F96.r43.toArray false) (.cond (.tmp 183) (.seq (.region 44 F96.r44.toArray false) .ret) (.scope (.seq (.region 1 F96.r1.toArray false) (.seq (.region 2 F96.r2.toArray false) (.seq (.region 3 F96.r3.toArray false) (.seq (.region 4 F96.r4.toArray false) (.seq (.block 1 (.loop (.seq (.seq (.region 5 F96.r5.toArray false) (.cond (.tmp 26) .skip (.exit 1))) F96.t6))) F96.t19))))))))))))))
theorem F96.calls (hn : args.size ≤ 187) (h : cwE Tryz.prog F96.code (fnP Tryz.prog #[(.tmp 4)] R) (entry args) w) : Calls Tryz.prog 96 args w R :=
  calls_of_cwE (types := Tryz.prog.types) follows Tryz.func96 F96.code rfl (by kernel_rfl) hn h

def F97.r0 : List Oper := [
  op 2 (.assign (.const (.slice none 0 0))) 22]
def F97.r1 : List Oper := [
  op 3 (.move (.tmp 0)) 22,
  op 4 (.binOp .eql 22 (.tmp 3) (.const (.slice none 0 0)) 22) 4]
def F97.r2 : List Oper := [
  op 2 (.assign (.const (.slice none 0 0))) 22]
def F97.r3 : List Oper := [
  oc 5 (.buildSlice 22 0 #[]) 22,
  op 6 (.move (.tmp 0)) 22,
  oc 7 (.call ⟨(.builtin .append), #[(.tmp 5), (.tmp 6)], #[22, 22]⟩) 22,
  op 2 (.assign (.tmp 7)) 22]
def F97.t3 : Cd := (.seq (.region 3 F97.r3.toArray false) .ret)
theorem F97.t3_eq {θ : Tag (F97.t3, Q, e, w)} : cwE P F97.t3 Q e w θ = cwE P (.seq (.region 3 F97.r3.toArray false) .ret) Q e w := rfl
def F97.code : Cd := (.seq (.region 0 F97.r0.toArray false) (.seq (.seq (.region 1 F97.r1.toArray false) (.cond (.tmp 4) (.seq (.region 2 F97.r2.toArray false) .ret) .skip)) F97.t3))
theorem F97.calls (hn : args.size ≤ 8) (h : cwE Tryz.prog F97.code (fnP Tryz.prog #[(.tmp 2)] R) (entry args) w) : Calls Tryz.prog 97 args w R :=
  calls_of_cwE (types := Tryz.prog.types) follows Tryz.func97 F97.code rfl (by kernel_rfl) hn h

def F98.r0 : List Oper := [
  op 2 (.assign (.const (.int .i64 0))) 3]
def F98.r1 : List Oper := [
  op 3 (.assign (.const (.int .i64 0))) 3]
def F98.r2 : List Oper := [
  op 5 (.move (.tmp 3)) 3,
  op 6 (.move (.tmp 0)) 9,
  op 7 (.call ⟨(.builtin .len), #[(.tmp 6)], #[9]⟩) 3,
  op 8 (.binOp .lss 3 (.tmp 5) (.tmp 7) 3) 4]
def F98.r3 : List Oper := [
  op 9 (.move (.tmp 0)) 9,
  op 10 (.move (.tmp 3)) 3,
  oc 11 (.call ⟨(.value (.func 120)), #[(.tmp 9), (.tmp 10)], #[9, 3]⟩) 3,
  op 4 (.assign (.tmp 11)) 3]
def F98.r4 : List Oper := [
  op 12 (.move (.tmp 4)) 3,
  op 13 (.binOp .eql 3 (.tmp 12) (.const (.int .i64 0)) 3) 4,
  op 14 (.move (.tmp 13)) 4,
  ⟨(some 15), (.move (.tmp 0)), 9, "", #[], (some (14, false))⟩,
  ⟨(some 16), (.move (.tmp 3)), 3, "", #[], (some (14, false))⟩,
  ⟨(some 17), (.index 9 (.tmp 15) (.tmp 16)), 5, "", #[], (some (14, false))⟩,
  ⟨(some 18), (.binOp .eql 5 (.tmp 17) (.const (.int .u8 0)) 5), 4, "", #[], (some (14, false))⟩,
  op 19 (.pick (.tmp 14) (.const (.bool true)) (.tmp 18)) 4]
def F98.r5 : List Oper := [
  op 20 (.move (.tmp 3)) 3,
  op 2 (.assign (.tmp 20)) 3]
def F98.r6 : List Oper := [
  op 21 (.move (.tmp 3)) 3,
  op 22 (.move (.tmp 4)) 3,
  op 23 (.binOp .add 3 (.tmp 21) (.tmp 22) 3) 3,
  op 3 (.assign (.tmp 23)) 3]
def F98.r7 : List Oper := [
  op 24 (.move (.tmp 0)) 9,
  op 25 (.call ⟨(.builtin .len), #[(.tmp 24)], #[9]⟩) 3,
  op 2 (.assign (.tmp 25)) 3]
def F98.t6 : Cd := (.region 6 F98.r6.toArray false)
theorem F98.t6_eq {θ : Tag (F98.t6, Q, e, w)} : cwE P F98.t6 Q e w θ = cwE P (.region 6 F98.r6.toArray false) Q e w := rfl
def F98.t3 : Cd := (.block 1 (.seq (.region 3 F98.r3.toArray false) (.seq (.seq (.region 4 F98.r4.toArray false) (.cond (.tmp 19) (.seq (.region 5 F98.r5.toArray false) .ret) .skip)) F98.t6)))
theorem F98.t3_eq {θ : Tag (F98.t3, Q, e, w)} : cwE P F98.t3 Q e w θ = cwE P (.block 1 (.seq (.region 3 F98.r3.toArray false) (.seq (.seq (.region 4 F98.r4.toArray false) (.cond (.tmp 19) (.seq (.region 5 F98.r5.toArray false) .ret) .skip)) F98.t6))) Q e w := rfl
def F98.t7 : Cd := (.seq (.region 7 F98.r7.toArray false) .ret)
theorem F98.t7_eq {θ : Tag (F98.t7, Q, e, w)} : cwE P F98.t7 Q e w θ = cwE P (.seq (.region 7 F98.r7.toArray false) .ret) Q e w := rfl
def F98.code : Cd := (.seq (.region 0 F98.r0.toArray false) (.seq (.region 1 F98.r1.toArray false) (.seq (.block 0 (.loop (.seq (.seq (.region 2 F98.r2.toArray false) (.cond (.tmp 8) .skip (.exit 0))) F98.t3))) F98.t7)))
theorem F98.calls (hn : args.size ≤ 26) (h : cwE Tryz.prog F98.code (fnP Tryz.prog #[(.tmp 2)] R) (entry args) w) : Calls Tryz.prog 98 args w R :=
  calls_of_cwE (types := Tryz.prog.types) follows Tryz.func98 F98.code rfl (by kernel_rfl) hn h

def F117.r0 : List Oper := [
  op 2 (.assign (.const (.bool false))) 4]
def F117.r1 : List Oper := [
  op 4 (.move (.tmp 0)) 21,
  op 5 (.binOp .leq 21 (.const (.int .i32 0)) (.tmp 4) 21) 4,
  op 6 (.move (.tmp 5)) 4,
  ⟨(some 7), (.move (.tmp 0)), 21, "", #[], (some (6, true))⟩,
  ⟨(some 8), (.binOp .lss 21 (.tmp 7) (.const (.int .i32 55296)) 21), 4, "", #[], (some (6, true))⟩,
  op 9 (.pick (.tmp 6) (.tmp 8) (.const (.bool false))) 4,
  op 3 (.assign (.tmp 9)) 4]
def F117.r2 : List Oper := [
  op 2 (.assign (.const (.bool true))) 4]
def F117.r3 : List Oper := [
  op 11 (.move (.tmp 0)) 21,
  op 12 (.binOp .lss 21 (.const (.int .i32 57343)) (.tmp 11) 21) 4,
  op 13 (.move (.tmp 12)) 4,
  ⟨(some 14), (.move (.tmp 0)), 21, "", #[], (some (13, true))⟩,
  ⟨(some 15), (.binOp .leq 21 (.tmp 14) (.const (.int .i32 1114111)) 21), 4, "", #[], (some (13, true))⟩,
  op 16 (.pick (.tmp 13) (.tmp 15) (.const (.bool false))) 4,
  op 10 (.assign (.tmp 16)) 4]
def F117.r4 : List Oper := [
  op 2 (.assign (.const (.bool true))) 4]
def F117.r5 : List Oper := [
  op 2 (.assign (.const (.bool false))) 4]
def F117.t5 : Cd := (.seq (.region 5 F117.r5.toArray false) .ret)
theorem F117.t5_eq {θ : Tag (F117.t5, Q, e, w)} : cwE P F117.t5 Q e w θ = cwE P (.seq (.region 5 F117.r5.toArray false) .ret) Q e w := rfl
def F117.code : Cd := (.seq (.region 0 F117.r0.toArray false) (.seq (.block 0 (.seq (.region 1 F117.r1.toArray false) (.cond (.tmp 3) (.seq (.region 2 F117.r2.toArray false) .ret) (.seq (.region 3 F117.r3.toArray false) (.cond (.tmp 10) (.seq (.region 4 F117.r4.toArray false) .ret) .skip))))) F117.t5))
theorem F117.calls (hn : args.size ≤ 17) (h : cwE Tryz.prog F117.code (fnP Tryz.prog #[(.tmp 2)] R) (entry args) w) : Calls Tryz.prog 117 args w R :=
  calls_of_cwE (types := Tryz.prog.types) follows Tryz.func117 F117.code rfl (by kernel_rfl) hn h

def F120.r0 : List Oper := [
  op 4 (.assign (.const (.int .i64 0))) 3]
def F120.r1 : List Oper := [
  op 7 (.move (.tmp 0)) 9,
  op 8 (.move (.tmp 1)) 3,
  oc 9 (.call ⟨(.value (.func 131)), #[(.tmp 7), (.tmp 8), (.const (.int .u8 0)), (.const (.int .u8 127))], #[9, 3, 5, 5]⟩) 4]
def F120.r2 : List Oper := [
  op 4 (.assign (.const (.int .i64 1))) 3]
def F120.r3 : List Oper := [
  op 10 (.move (.tmp 0)) 9,
  op 11 (.move (.tmp 1)) 3,
  oc 12 (.call ⟨(.value (.func 131)), #[(.tmp 10), (.tmp 11), (.const (.int .u8 194)), (.const (.int .u8 223))], #[9, 3, 5, 5]⟩) 4,
  op 13 (.move (.tmp 12)) 4,
  ⟨(some 14), (.move (.tmp 0)), 9, "", #[], (some (13, true))⟩,
  ⟨(some 15), (.move (.tmp 1)), 3, "", #[], (some (13, true))⟩,
  ⟨(some 16), (.binOp .add 3 (.tmp 15) (.const (.int .i64 1)) 3), 3, "", #[], (some (13, true))⟩,
  ⟨(some 17), (.call ⟨(.value (.func 131)), #[(.tmp 14), (.tmp 16), (.const (.int .u8 128)), (.const (.int .u8 191))], #[9, 3, 5, 5]⟩), 4, "", #[⟨0, .chain⟩], (some (13, true))⟩,
  op 18 (.pick (.tmp 13) (.tmp 17) (.const (.bool false))) 4]
def F120.r4 : List Oper := [
  op 4 (.assign (.const (.int .i64 2))) 3]
def F120.r5 : List Oper := [
  op 5 (.assign (.const (.int .u8 128))) 5,
  op 6 (.assign (.const (.int .u8 191))) 5]
def F120.r6 : List Oper := [
  op 19 (.move (.tmp 0)) 9,
  op 20 (.move (.tmp 1)) 3,
  oc 21 (.call ⟨(.value (.func 131)), #[(.tmp 19), (.tmp 20), (.const (.int .u8 224)), (.const (.int .u8 224))], #[9, 3, 5, 5]⟩) 4]
def F120.r7 : List Oper := [
  op 5 (.assign (.const (.int .u8 160))) 5]
def F120.r8 : List Oper := [
  op 22 (.move (.tmp 0)) 9,
  op 23 (.move (.tmp 1)) 3,
  oc 24 (.call ⟨(.value (.func 131)), #[(.tmp 22), (.tmp 23), (.const (.int .u8 237)), (.const (.int .u8 237))], #[9, 3, 5, 5]⟩) 4]
def F120.r9 : List Oper := [
  op 6 (.assign (.const (.int .u8 159))) 5]
def F120.r10 : List Oper := [
  op 25 (.move (.tmp 0)) 9,
  op 26 (.move (.tmp 1)) 3,
  oc 27 (.call ⟨(.value (.func 131)), #[(.tmp 25), (.tmp 26), (.const (.int .u8 224)), (.const (.int .u8 239))], #[9, 3, 5, 5]⟩) 4,
  op 28 (.move (.tmp 27)) 4,
  ⟨(some 29), (.move (.tmp 0)), 9, "", #[], (some (28, true))⟩,
  ⟨(some 30), (.move (.tmp 1)), 3, "", #[], (some (28, true))⟩,
  ⟨(some 31), (.binOp .add 3 (.tmp 30) (.const (.int .i64 1)) 3), 3, "", #[], (some (28, true))⟩,
  ⟨(some 32), (.move (.tmp 5)), 5, "", #[], (some (28, true))⟩,
  ⟨(some 33), (.move (.tmp 6)), 5, "", #[], (some (28, true))⟩,
  ⟨(some 34), (.call ⟨(.value (.func 131)), #[(.tmp 29), (.tmp 31), (.tmp 32), (.tmp 33)], #[9, 3, 5, 5]⟩), 4, "", #[⟨0, .chain⟩], (some (28, true))⟩,
  op 35 (.pick (.tmp 28) (.tmp 34) (.const (.bool false))) 4,
  op 36 (.move (.tmp 35)) 4,
  ⟨(some 37), (.move (.tmp 0)), 9, "", #[], (some (36, true))⟩,
  ⟨(some 38), (.move (.tmp 1)), 3, "", #[], (some (36, true))⟩,
  ⟨(some 39), (.binOp .add 3 (.tmp 38) (.const (.int .i64 2)) 3), 3, "", #[], (some (36, true))⟩,
  ⟨(some 40), (.call ⟨(.value (.func 131)), #[(.tmp 37), (.tmp 39), (.const (.int .u8 128)), (.const (.int .u8 191))], #[9, 3, 5, 5]⟩), 4, "", #[⟨0, .chain⟩], (some (36, true))⟩,
  op 41 (.pick (.tmp 36) (.tmp 40) (.const (.bool false))) 4]
def F120.r11 : List Oper := [
  op 4 (.assign (.const (.int .i64 3))) 3]
def F120.r12 : List Oper := [
  op 42 (.move (.tmp 0)) 9,
  op 43 (.move (.tmp 1)) 3,
  oc 44 (.call ⟨(.value (.func 131)), #[(.tmp 42), (.tmp 43), (.const (.int .u8 240)), (.const (.int .u8 240))], #[9, 3, 5, 5]⟩) 4]
def F120.r13 : List Oper := [
  op 5 (.assign (.const (.int .u8 144))) 5]
def F120.r14 : List Oper := [
  op 45 (.move (.tmp 0)) 9,
  op 46 (.move (.tmp 1)) 3,
  oc 47 (.call ⟨(.value (.func 131)), #[(.tmp 45), (.tmp 46), (.const (.int .u8 244)), (.const (.int .u8 244))], #[9, 3, 5, 5]⟩) 4]
def F120.r15 : List Oper := [
  op 6 (.assign (.const (.int .u8 143))) 5]
def F120.r16 : List Oper := [
  op 48 (.move (.tmp 0)) 9,
  op 49 (.move (.tmp 1)) 3,
  oc 50 (.call ⟨(.value (.func 131)), #[(.tmp 48), (.tmp 49), (.const (.int .u8 240)), (.const (.int .u8 244))], #[9, 3, 5, 5]⟩) 4,
  op 51 (.move (.tmp 50)) 4,
  ⟨(some 52), (.move (.tmp 0)), 9, "", #[], (some (51, true))⟩,
  ⟨(some 53), (.move (.tmp 1)), 3, "", #[], (some (51, true))⟩,
  ⟨(some 54), (.binOp .add 3 (.tmp 53) (.const (.int .i64 1)) 3), 3, "", #[], (some (51, true))⟩,
  ⟨(some 55), (.move (.tmp 5)), 5, "", #[], (some (51, true))⟩,
  ⟨(some 56), (.move (.tmp 6)), 5, "", #[], (some (51, true))⟩,
  ⟨(some 57), (.call ⟨(.value (.func 131)), #[(.tmp 52), (.tmp 54), (.tmp 55), (.tmp 56)], #[9, 3, 5, 5]⟩), 4, "", #[⟨0, .chain⟩], (some (51, true))⟩,
  op 58 (.pick (.tmp 51) (.tmp 57) (.const (.bool false))) 4,
  op 59 (.move (.tmp 58)) 4,
  ⟨(some 60), (.move (.tmp 0)), 9, "", #[], (some (59, true))⟩,
  ⟨(some 61), (.move (.tmp 1)), 3, "", #[], (some (59, true))⟩,
  ⟨(some 62), (.binOp .add 3 (.tmp 61) (.const (.int .i64 2)) 3), 3, "", #[], (some (59, true))⟩,
  ⟨(some 63), (.call ⟨(.value (.func 131)), #[(.tmp 60), (.tmp 62), (.const (.int .u8 128)), (.const (.int .u8 191))], #[9, 3, 5, 5]⟩), 4, "", #[⟨0, .chain⟩], (some (59, true))⟩,
  op 64 (.pick (.tmp 59) (.tmp 63) (.const (.bool false))) 4,
  op 65 (.move (.tmp 64)) 4,
  ⟨(some 66), (.move (.tmp 0)), 9, "", #[], (some (65, true))⟩,
  ⟨(some 67), (.move (.tmp 1)), 3, "", #[], (some (65, true))⟩,
  ⟨(some 68), (.binOp .add 3 (.tmp 67) (.const (.int .i64 3)) 3), 3, "", #[], (some (65, true))⟩,
  ⟨(some 69), (.call ⟨(.value (.func 131)), #[(.tmp 66), (.tmp 68), (.const (.int .u8 128)), (.const (.int .u8 191))], #[9, 3, 5, 5]⟩), 4, "", #[⟨0, .chain⟩], (some (65, true))⟩,
  op 70 (.pick (.tmp 65) (.tmp 69) (.const (.bool false))) 4]
def F120.r17 : List Oper := [
  op 4 (.assign (.const (.int .i64 4))) 3]
def F120.r18 : List Oper := [
  op 4 (.assign (.const (.int .i64 0))) 3]
def F120.t18 : Cd := (.seq (.region 18 F120.r18.toArray false) .ret)
theorem F120.t18_eq {θ : Tag (F120.t18, Q, e, w)} : cwE P F120.t18 Q e w θ = cwE P (.seq (.region 18 F120.r18.toArray false) .ret) Q e w := rfl
def F120.t16 : Cd := (.seq (.seq (.region 16 F120.r16.toArray false) (.cond (.tmp 70) (.seq (.region 17 F120.r17.toArray false) .ret) .skip)) F120.t18)
theorem F120.t16_eq {θ : Tag (F120.t16, Q, e, w)} : cwE P F120.t16 Q e w θ = cwE P (.seq (.seq (.region 16 F120.r16.toArray false) (.cond (.tmp 70) (.seq (.region 17 F120.r17.toArray false) .ret) .skip)) F120.t18) Q e w := rfl
def F120.t14 : Cd := (.seq (.seq (.region 14 F120.r14.toArray false) (.cond (.tmp 47) (.region 15 F120.r15.toArray false) .skip)) F120.t16)
theorem F120.t14_eq {θ : Tag (F120.t14, Q, e, w)} : cwE P F120.t14 Q e w θ = cwE P (.seq (.seq (.region 14 F120.r14.toArray false) (.cond (.tmp 47) (.region 15 F120.r15.toArray false) .skip)) F120.t16) Q e w := rfl
def F120.t12 : Cd := (.seq (.seq (.region 12 F120.r12.toArray false) (.cond (.tmp 44) (.region 13 F120.r13.toArray false) .skip)) F120.t14)
theorem F120.t12_eq {θ : Tag (F120.t12, Q, e, w)} : cwE P F120.t12 Q e w θ = cwE P (.seq (.seq (.region 12 F120.r12.toArray false) (.cond (.tmp 44) (.region 13 F120.r13.toArray false) .skip)) F120.t14) Q e w := rfl
def F120.t10 : Cd := (.seq (.seq (.region 10 F120.r10.toArray false) (.cond (.tmp 41) (.seq (.region 11 F120.r11.toArray false) .ret) .skip)) F120.t12)
theorem F120.t10_eq {θ : Tag (F120.t10, Q, e, w)} : cwE P F120.t10 Q e w θ = cwE P (.seq (.seq (.region 10 F120.r10.toArray false) (.cond (.tmp 41) (.seq (.region 11 F120.r11.toArray false) .ret) .skip)) F120.t12) Q e w := rfl
def F120.t8 : Cd := (.seq (.seq (.region 8 F120.r8.toArray false) (.cond (.tmp 24) (.region 9 F120.r9.toArray false) .skip)) F120.t10)
theorem F120.t8_eq {θ : Tag (F120.t8, Q, e, w)} : cwE P F120.t8 Q e w θ = cwE P (.seq (.seq (.region 8 F120.r8.toArray false) (.cond (.tmp 24) (.region 9 F120.r9.toArray false) .skip)) F120.t10) Q e w := rfl
def F120.t5 : Cd := (.seq (.region 5 F120.r5.toArray false) (.seq (.seq (.region 6 F120.r6.toArray false) (.cond (.tmp 21) (.region 7 F120.r7.toArray false) .skip)) F120.t8))
theorem F120.t5_eq {θ : Tag (F120.t5, Q, e, w)} : cwE P F120.t5 Q e w θ = cwE P (.seq (.region 5 F120.r5.toArray false) (.seq (.seq (.region 6 F120.r6.toArray false) (.cond (.tmp 21) (.region 7 F120.r7.toArray false) .skip)) F120.t8)) Q e w := rfl
def F120.t3 : Cd := (.seq (.seq (.region 3 F120.r3.toArray false) (.cond (.tmp 18) (.seq (.region 4 F120.r4.toArray false) .ret) .skip)) F120.t5)
theorem F120.t3_eq {θ : Tag (F120.t3, Q, e, w)} : cwE P F120.t3 Q e w θ = cwE P (.seq (.seq (.region 3 F120.r3.toArray false) (.cond (.tmp 18) (.seq (.region 4 F120.r4.toArray false) .ret) .skip)) F120.t5) Q e w := rfl
def F120.code : Cd := (.seq (.region 0 F120.r0.toArray false) (.seq (.seq (.region 1 F120.r1.toArray false) (.cond (.tmp 9) (.seq (.region 2 F120.r2.toArray false) .ret) .skip)) F120.t3))
theorem F120.calls (hn : args.size ≤ 71) (h : cwE Tryz.prog F120.code (fnP Tryz.prog #[(.tmp 4)] R) (entry args) w) : Calls Tryz.prog 120 args w R :=
  calls_of_cwE (types := Tryz.prog.types) follows Tryz.func120 F120.code rfl (by kernel_rfl) hn h

def F131.r0 : List Oper := [
  op 8 (.assign (.const (.bool false))) 4]
def F131.r1 : List Oper := [
  op 9 (.move (.tmp 1)) 3,
  op 10 (.move (.tmp 0)) 9,
  op 11 (.call ⟨(.builtin .len), #[(.tmp 10)], #[9]⟩) 3,
  op 12 (.binOp .lss 3 (.tmp 9) (.tmp 11) 3) 4,
  op 13 (.move (.tmp 12)) 4,
  ⟨(some 14), (.move (.tmp 0)), 9, "", #[], (some (13, true))⟩,
  ⟨(some 15), (.move (.tmp 1)), 3, "", #[], (some (13, true))⟩,
  ⟨(some 16), (.index 9 (.tmp 14) (.tmp 15)), 5, "", #[], (some (13, true))⟩,
  ⟨(some 17), (.move (.tmp 2)), 5, "", #[], (some (13, true))⟩,
  ⟨(some 18), (.binOp .geq 5 (.tmp 16) (.tmp 17) 5), 4, "", #[], (some (13, true))⟩,
  op 19 (.pick (.tmp 13) (.tmp 18) (.const (.bool false))) 4,
  op 20 (.move (.tmp 19)) 4,
  ⟨(some 21), (.move (.tmp 0)), 9, "", #[], (some (20, true))⟩,
  ⟨(some 22), (.move (.tmp 1)), 3, "", #[], (some (20, true))⟩,
  ⟨(some 23), (.index 9 (.tmp 21) (.tmp 22)), 5, "", #[], (some (20, true))⟩,
  ⟨(some 24), (.move (.tmp 3)), 5, "", #[], (some (20, true))⟩,
  ⟨(some 25), (.binOp .leq 5 (.tmp 23) (.tmp 24) 5), 4, "", #[], (some (20, true))⟩,
  op 26 (.pick (.tmp 20) (.tmp 25) (.const (.bool false))) 4,
  op 8 (.assign (.tmp 26)) 4]
def F131.code : Cd := (.seq (.region 0 F131.r0.toArray false) (.seq (.region 1 F131.r1.toArray false) .ret))
theorem F131.calls (hn : args.size ≤ 27) (h : cwE Tryz.prog F131.code (fnP Tryz.prog #[(.tmp 8)] R) (entry args) w) : Calls Tryz.prog 131 args w R :=
  calls_of_cwE (types := Tryz.prog.types) follows Tryz.func131 F131.code rfl (by kernel_rfl) hn h

attribute [go_sem] fact_aggSz_112
attribute [go_sem] fact_aggSz_22
attribute [go_sem] fact_aggSz_25
attribute [go_sem] fact_aggSz_26
attribute [go_sem] fact_aggSz_29
attribute [go_sem] fact_aggSz_3
attribute [go_sem] fact_aggSz_32
attribute [go_sem] fact_aggSz_33
attribute [go_sem] fact_aggSz_38
attribute [go_sem] fact_aggSz_64
attribute [go_sem] fact_aggSz_65
attribute [go_sem] fact_aggSz_68
attribute [go_sem] fact_aggSz_72
attribute [go_sem] fact_aggSz_9
attribute [go_sem] fact_arrEx_9
attribute [go_sem] fact_bldP_102
attribute [go_sem] fact_bldP_104
attribute [go_sem] fact_bldP_35
attribute [go_sem] fact_bldP_67
attribute [go_sem] fact_bldP_72
attribute [go_sem] fact_bldP_84
attribute [go_sem] fact_elemOf_22
attribute [go_sem] fact_elemOf_33
attribute [go_sem] fact_elemOf_38
attribute [go_sem] fact_elemOf_48
attribute [go_sem] fact_elemOf_51
attribute [go_sem] fact_elemOf_52
attribute [go_sem] fact_elemOf_68
attribute [go_sem] fact_elemOf_9
attribute [go_sem] fact_fieldOff_104_0
attribute [go_sem] fact_fieldOff_114_1
attribute [go_sem] fact_fieldOff_35_0
attribute [go_sem] fact_fieldOff_35_1
attribute [go_sem] fact_fieldOff_35_2
attribute [go_sem] fact_fieldOff_35_3
attribute [go_sem] fact_fieldOff_35_4
attribute [go_sem] fact_fieldOff_35_5
attribute [go_sem] fact_fieldOff_50_0
attribute [go_sem] fact_fieldOff_50_1
attribute [go_sem] fact_fieldOff_67_0
attribute [go_sem] fact_fieldOff_67_1
attribute [go_sem] fact_fieldOff_67_2
attribute [go_sem] fact_fieldOff_72_0
attribute [go_sem] fact_fieldOff_72_1
attribute [go_sem] fact_fieldOff_72_2
attribute [go_sem] fact_fieldOff_72_3
attribute [go_sem] fact_fieldOff_84_0
attribute [go_sem] fact_fnOk_10
attribute [go_sem] fact_fnOk_11
attribute [go_sem] fact_fnOk_111
attribute [go_sem] fact_fnOk_116
attribute [go_sem] fact_fnOk_117
attribute [go_sem] fact_fnOk_118
attribute [go_sem] fact_fnOk_120
attribute [go_sem] fact_fnOk_131
attribute [go_sem] fact_fnOk_18
attribute [go_sem] fact_fnOk_19
attribute [go_sem] fact_fnOk_20
attribute [go_sem] fact_fnOk_21
attribute [go_sem] fact_fnOk_22
attribute [go_sem] fact_fnOk_23
attribute [go_sem] fact_fnOk_24
attribute [go_sem] fact_fnOk_25
attribute [go_sem] fact_fnOk_26
attribute [go_sem] fact_fnOk_27
attribute [go_sem] fact_fnOk_28
attribute [go_sem] fact_fnOk_29
attribute [go_sem] fact_fnOk_30
attribute [go_sem] fact_fnOk_31
attribute [go_sem] fact_fnOk_32
attribute [go_sem] fact_fnOk_33
attribute [go_sem] fact_fnOk_34
attribute [go_sem] fact_fnOk_35
attribute [go_sem] fact_fnOk_36
attribute [go_sem] fact_fnOk_37
attribute [go_sem] fact_fnOk_38
attribute [go_sem] fact_fnOk_39
attribute [go_sem] fact_fnOk_40
attribute [go_sem] fact_fnOk_41
attribute [go_sem] fact_fnOk_42
attribute [go_sem] fact_fnOk_43
attribute [go_sem] fact_fnOk_44
attribute [go_sem] fact_fnOk_45
attribute [go_sem] fact_fnOk_46
attribute [go_sem] fact_fnOk_47
attribute [go_sem] fact_fnOk_48
attribute [go_sem] fact_fnOk_50
attribute [go_sem] fact_fnOk_51
attribute [go_sem] fact_fnOk_52
attribute [go_sem] fact_fnOk_53
attribute [go_sem] fact_fnOk_54
attribute [go_sem] fact_fnOk_55
attribute [go_sem] fact_fnOk_56
attribute [go_sem] fact_fnOk_57
attribute [go_sem] fact_fnOk_58
attribute [go_sem] fact_fnOk_59
attribute [go_sem] fact_fnOk_6
attribute [go_sem] fact_fnOk_60
attribute [go_sem] fact_fnOk_61
attribute [go_sem] fact_fnOk_62
attribute [go_sem] fact_fnOk_63
attribute [go_sem] fact_fnOk_64
attribute [go_sem] fact_fnOk_65
attribute [go_sem] fact_fnOk_66
attribute [go_sem] fact_fnOk_67
attribute [go_sem] fact_fnOk_68
attribute [go_sem] fact_fnOk_69
attribute [go_sem] fact_fnOk_7
attribute [go_sem] fact_fnOk_70
attribute [go_sem] fact_fnOk_71
attribute [go_sem] fact_fnOk_72
attribute [go_sem] fact_fnOk_73
attribute [go_sem] fact_fnOk_74
attribute [go_sem] fact_fnOk_75
attribute [go_sem] fact_fnOk_76
attribute [go_sem] fact_fnOk_77
attribute [go_sem] fact_fnOk_78
attribute [go_sem] fact_fnOk_79
attribute [go_sem] fact_fnOk_8
attribute [go_sem] fact_fnOk_80
attribute [go_sem] fact_fnOk_81
attribute [go_sem] fact_fnOk_82
attribute [go_sem] fact_fnOk_83
attribute [go_sem] fact_fnOk_84
attribute [go_sem] fact_fnOk_85
attribute [go_sem] fact_fnOk_86
attribute [go_sem] fact_fnOk_87
attribute [go_sem] fact_fnOk_9
attribute [go_sem] fact_fnOk_91
attribute [go_sem] fact_fnOk_92
attribute [go_sem] fact_fnOk_93
attribute [go_sem] fact_fnOk_94
attribute [go_sem] fact_fnOk_95
attribute [go_sem] fact_fnOk_96
attribute [go_sem] fact_fnOk_97
attribute [go_sem] fact_fnOk_98
attribute [go_sem] fact_szO_104
attribute [go_sem] fact_szO_112
attribute [go_sem] fact_szO_22
attribute [go_sem] fact_szO_25
attribute [go_sem] fact_szO_26
attribute [go_sem] fact_szO_3
attribute [go_sem] fact_szO_33
attribute [go_sem] fact_szO_38
attribute [go_sem] fact_szO_65
attribute [go_sem] fact_szO_68
attribute [go_sem] fact_szO_72
attribute [go_sem] fact_szO_9
attribute [go_sem] fact_zeroV_104
attribute [go_sem] fact_zeroV_114
attribute [go_sem] fact_zeroV_22
attribute [go_sem] fact_zeroV_25
attribute [go_sem] fact_zeroV_26
attribute [go_sem] fact_zeroV_3
attribute [go_sem] fact_zeroV_38
attribute [go_sem] fact_zeroV_68
attribute [go_sem] fact_zeroV_72
attribute [go_sem] Tryz.underlying3
attribute [go_sem] Tryz.underlying4
attribute [go_sem] Tryz.underlying5
attribute [go_sem] Tryz.underlying9
attribute [go_sem] Tryz.underlying20
attribute [go_sem] Tryz.underlying21
attribute [go_sem] Tryz.underlying22
attribute [go_sem] Tryz.underlying25
attribute [go_sem] Tryz.underlying29
attribute [go_sem] Tryz.underlying33
attribute [go_sem] Tryz.underlying38
attribute [go_sem] Tryz.underlying48
attribute [go_sem] Tryz.underlying51
attribute [go_sem] Tryz.underlying52
attribute [go_sem] Tryz.underlying68
attribute [go_sem] Tryz.underlying98
attribute [go_sem] Tryz.underlying112
attribute [go_sem] Tryz.underlying122
attribute [go_sem] F5.r0
attribute [go_sem] F5.r1
attribute [go_sem] F5.r2
attribute [go_sem] F5.r3
attribute [go_sem] F5.r4
attribute [go_sem] F5.r5
attribute [go_sem] F5.r6
attribute [go_sem] F5.r7
attribute [go_sem] F5.r8
attribute [go_sem] F5.r10
attribute [go_sem] F5.r9
attribute [go_sem] F5.r11
attribute [go_sem] F5.r12
attribute [go_sem] F5.r13
attribute [go_sem] F5.r14
attribute [go_sem] F5.r15
attribute [go_sem] F5.r16
attribute [go_sem] F5.r17
attribute [go_sem] F5.r18
attribute [go_sem] F5.r19
attribute [go_sem] F5.r20
attribute [go_sem] F5.r21
attribute [go_sem] F5.r22
attribute [go_sem] F5.r23
attribute [go_sem] F5.r25
attribute [go_sem] F5.r26
attribute [go_sem] F5.r27
attribute [go_sem] F5.r28
attribute [go_sem] F5.r29
attribute [go_sem] F5.r30
attribute [go_sem] F5.r31
attribute [go_sem] F5.r32
attribute [go_sem] F5.r33
attribute [go_sem] F5.r34
attribute [go_sem] F5.r35
attribute [go_sem] F5.r24
attribute [go_sem] F5.r36
attribute [go_sem] F5.r37
attribute [go_sem] F5.r39
attribute [go_sem] F5.r40
attribute [go_sem] F5.r41
attribute [go_sem] F5.r38
attribute [go_sem] F5.r42
attribute [go_sem] F6.r0
attribute [go_sem] F6.r1
attribute [go_sem] F6.r2
attribute [go_sem] F6.r3
attribute [go_sem] F6.r4
attribute [go_sem] F6.r5
attribute [go_sem] F6.r6
attribute [go_sem] F7.r0
attribute [go_sem] F7.r1
attribute [go_sem] F7.r2
attribute [go_sem] F7.r3
attribute [go_sem] F7.r5
attribute [go_sem] F7.r4
attribute [go_sem] F7.r6
attribute [go_sem] F8.r0
attribute [go_sem] F8.r1
attribute [go_sem] F8.r2
attribute [go_sem] F8.r3
attribute [go_sem] F8.r4
attribute [go_sem] F8.r5
attribute [go_sem] F8.r6
attribute [go_sem] F8.r7
attribute [go_sem] F8.r8
attribute [go_sem] F8.r9
attribute [go_sem] F9.r0
attribute [go_sem] F9.r1
attribute [go_sem] F9.r2
attribute [go_sem] F9.r3
attribute [go_sem] F9.r4
attribute [go_sem] F9.r5
attribute [go_sem] F9.r6
attribute [go_sem] F9.r7
attribute [go_sem] F9.r9
attribute [go_sem] F9.r10
attribute [go_sem] F9.r11
attribute [go_sem] F9.r12
attribute [go_sem] F9.r13
attribute [go_sem] F9.r14
attribute [go_sem] F9.r15
attribute [go_sem] F9.r16
attribute [go_sem] F9.r8
attribute [go_sem] F9.r17
attribute [go_sem] F9.r18
attribute [go_sem] F9.r20
attribute [go_sem] F9.r21
attribute [go_sem] F9.r19
attribute [go_sem] F9.r22
attribute [go_sem] F9.r23
attribute [go_sem] F9.r24
attribute [go_sem] F10.r0
attribute [go_sem] F10.r1
attribute [go_sem] F10.r2
attribute [go_sem] F10.r3
attribute [go_sem] F10.r4
attribute [go_sem] F10.r5
attribute [go_sem] F10.r6
attribute [go_sem] F10.r7
attribute [go_sem] F10.r8
attribute [go_sem] F10.r9
attribute [go_sem] F10.r11
attribute [go_sem] F10.r10
attribute [go_sem] F10.r12
attribute [go_sem] F10.r13
attribute [go_sem] F10.r15
attribute [go_sem] F10.r16
attribute [go_sem] F10.r18
attribute [go_sem] F10.r19
attribute [go_sem] F10.r20
attribute [go_sem] F10.r17
attribute [go_sem] F10.r14
attribute [go_sem] F10.r21
attribute [go_sem] F11.r0
attribute [go_sem] F11.r1
attribute [go_sem] F11.r2
attribute [go_sem] F11.r3
attribute [go_sem] F12.r0
attribute [go_sem] F12.r1
attribute [go_sem] F12.r2
attribute [go_sem] F12.r3
attribute [go_sem] F12.r5
attribute [go_sem] F12.r4
attribute [go_sem] F12.r6
attribute [go_sem] F18.r0
attribute [go_sem] F18.r1
attribute [go_sem] F18.r2
attribute [go_sem] F18.r3
attribute [go_sem] F19.r0
attribute [go_sem] F19.r1
attribute [go_sem] F19.r2
attribute [go_sem] F19.r3
attribute [go_sem] F19.r4
attribute [go_sem] F19.r5
attribute [go_sem] F20.r0
attribute [go_sem] F20.r1
attribute [go_sem] F20.r2
attribute [go_sem] F20.r3
attribute [go_sem] F20.r4
attribute [go_sem] F20.r5
attribute [go_sem] F20.r6
attribute [go_sem] F20.r7
attribute [go_sem] F20.r8
attribute [go_sem] F20.r9
attribute [go_sem] F20.r10
attribute [go_sem] F20.r11
attribute [go_sem] F20.r12
attribute [go_sem] F20.r13
attribute [go_sem] F20.r14
attribute [go_sem] F20.r15
attribute [go_sem] F20.r16
attribute [go_sem] F20.r17
attribute [go_sem] F21.r0
attribute [go_sem] F21.r1
attribute [go_sem] F21.r2
attribute [go_sem] F21.r3
attribute [go_sem] F21.r4
attribute [go_sem] F21.r5
attribute [go_sem] F21.r6
attribute [go_sem] F21.r7
attribute [go_sem] F22.r0
attribute [go_sem] F22.r1
attribute [go_sem] F22.r2
attribute [go_sem] F22.r3
attribute [go_sem] F22.r4
attribute [go_sem] F22.r6
attribute [go_sem] F22.r7
attribute [go_sem] F22.r5
attribute [go_sem] F22.r8
attribute [go_sem] F23.r0
attribute [go_sem] F23.r1
attribute [go_sem] F23.r2
attribute [go_sem] F24.r0
attribute [go_sem] F24.r1
attribute [go_sem] F24.r2
attribute [go_sem] F24.r3
attribute [go_sem] F24.r4
attribute [go_sem] F24.r5
attribute [go_sem] F24.r6
attribute [go_sem] F24.r7
attribute [go_sem] F25.r0
attribute [go_sem] F25.r1
attribute [go_sem] F25.r2
attribute [go_sem] F25.r3
attribute [go_sem] F25.r4
attribute [go_sem] F26.r0
attribute [go_sem] F26.r1
attribute [go_sem] F26.r2
attribute [go_sem] F27.r0
attribute [go_sem] F27.r1
attribute [go_sem] F27.r2
attribute [go_sem] F27.r3
attribute [go_sem] F28.r0
attribute [go_sem] F28.r1
attribute [go_sem] F28.r2
attribute [go_sem] F28.r3
attribute [go_sem] F28.r4
attribute [go_sem] F28.r5
attribute [go_sem] F28.r6
attribute [go_sem] F28.r7
attribute [go_sem] F28.r8
attribute [go_sem] F28.r9
attribute [go_sem] F28.r10
attribute [go_sem] F28.r11
attribute [go_sem] F28.r12
attribute [go_sem] F28.r13
attribute [go_sem] F28.r14
attribute [go_sem] F28.r15
attribute [go_sem] F28.r16
attribute [go_sem] F28.r17
attribute [go_sem] F28.r18
attribute [go_sem] F28.r19
attribute [go_sem] F29.r0
attribute [go_sem] F29.r1
attribute [go_sem] F30.r0
attribute [go_sem] F30.r1
attribute [go_sem] F30.r2
attribute [go_sem] F30.r3
attribute [go_sem] F30.r4
attribute [go_sem] F30.r5
attribute [go_sem] F30.r6
attribute [go_sem] F30.r7
attribute [go_sem] F31.r0
attribute [go_sem] F31.r1
attribute [go_sem] F32.r0
attribute [go_sem] F32.r1
attribute [go_sem] F32.r2
attribute [go_sem] F32.r3
attribute [go_sem] F32.r4
attribute [go_sem] F32.r5
attribute [go_sem] F33.r0
attribute [go_sem] F33.r1
attribute [go_sem] F33.r2
attribute [go_sem] F33.r3
attribute [go_sem] F33.r4
attribute [go_sem] F33.r5
attribute [go_sem] F34.r0
attribute [go_sem] F34.r1
attribute [go_sem] F34.r2
attribute [go_sem] F34.r3
attribute [go_sem] F34.r4
attribute [go_sem] F34.r5
attribute [go_sem] F34.r6
attribute [go_sem] F34.r7
attribute [go_sem] F34.r8
attribute [go_sem] F35.r0
attribute [go_sem] F35.r1
attribute [go_sem] F35.r2
attribute [go_sem] F35.r3
attribute [go_sem] F35.r4
attribute [go_sem] F35.r5
attribute [go_sem] F35.r6
attribute [go_sem] F35.r7
attribute [go_sem] F35.r8
attribute [go_sem] F35.r9
attribute [go_sem] F35.r10
attribute [go_sem] F35.r11
attribute [go_sem] F36.r0
attribute [go_sem] F36.r1
attribute [go_sem] F36.r2
attribute [go_sem] F36.r3
attribute [go_sem] F36.r4
attribute [go_sem] F36.r6
attribute [go_sem] F36.r7
attribute [go_sem] F36.r8
attribute [go_sem] F36.r5
attribute [go_sem] F36.r9
attribute [go_sem] F37.r0
attribute [go_sem] F37.r1
attribute [go_sem] F37.r2
attribute [go_sem] F37.r3
attribute [go_sem] F37.r4
attribute [go_sem] F37.r5
attribute [go_sem] F37.r6
attribute [go_sem] F37.r7
attribute [go_sem] F37.r8
attribute [go_sem] F37.r9
attribute [go_sem] F38.r0
attribute [go_sem] F38.r1
attribute [go_sem] F38.r2
attribute [go_sem] F38.r4
attribute [go_sem] F38.r5
attribute [go_sem] F38.r3
attribute [go_sem] F38.r6
attribute [go_sem] F39.r0
attribute [go_sem] F39.r1
attribute [go_sem] F39.r2
attribute [go_sem] F39.r4
attribute [go_sem] F39.r5
attribute [go_sem] F39.r3
attribute [go_sem] F39.r6
attribute [go_sem] F40.r0
attribute [go_sem] F40.r1
attribute [go_sem] F40.r2
attribute [go_sem] F40.r3
attribute [go_sem] F40.r4
attribute [go_sem] F40.r6
attribute [go_sem] F40.r7
attribute [go_sem] F40.r5
attribute [go_sem] F40.r8
attribute [go_sem] F41.r0
attribute [go_sem] F41.r1
attribute [go_sem] F41.r2
attribute [go_sem] F41.r3
attribute [go_sem] F41.r5
attribute [go_sem] F41.r4
attribute [go_sem] F41.r6
attribute [go_sem] F42.r0
attribute [go_sem] F42.r1
attribute [go_sem] F42.r2
attribute [go_sem] F42.r3
attribute [go_sem] F42.r4
attribute [go_sem] F42.r5
attribute [go_sem] F42.r6
attribute [go_sem] F42.r7
attribute [go_sem] F42.r8
attribute [go_sem] F42.r9
attribute [go_sem] F42.r10
attribute [go_sem] F42.r11
attribute [go_sem] F43.r0
attribute [go_sem] F43.r1
attribute [go_sem] F43.r2
attribute [go_sem] F43.r3
attribute [go_sem] F43.r5
attribute [go_sem] F43.r4
attribute [go_sem] F43.r6
attribute [go_sem] F44.r0
attribute [go_sem] F44.r1
attribute [go_sem] F44.r2
attribute [go_sem] F44.r3
attribute [go_sem] F44.r4
attribute [go_sem] F44.r6
attribute [go_sem] F44.r7
attribute [go_sem] F44.r8
attribute [go_sem] F44.r5
attribute [go_sem] F44.r9
attribute [go_sem] F45.r0
attribute [go_sem] F45.r1
attribute [go_sem] F45.r2
attribute [go_sem] F45.r3
attribute [go_sem] F45.r4
attribute [go_sem] F45.r5
attribute [go_sem] F45.r6
attribute [go_sem] F45.r7
attribute [go_sem] F46.r0
attribute [go_sem] F46.r1
attribute [go_sem] F47.r0
attribute [go_sem] F47.r1
attribute [go_sem] F47.r2
attribute [go_sem] F47.r3
attribute [go_sem] F47.r4
attribute [go_sem] F47.r5
attribute [go_sem] F47.r6
attribute [go_sem] F48.r0
attribute [go_sem] F48.r1
attribute [go_sem] F48.r2
attribute [go_sem] F48.r3
attribute [go_sem] F48.r4
attribute [go_sem] F48.r6
attribute [go_sem] F48.r7
attribute [go_sem] F48.r5
attribute [go_sem] F48.r8
attribute [go_sem] F48.r9
attribute [go_sem] F48.r11
attribute [go_sem] F48.r12
attribute [go_sem] F48.r13
attribute [go_sem] F48.r14
attribute [go_sem] F48.r16
attribute [go_sem] F48.r15
attribute [go_sem] F48.r17
attribute [go_sem] F48.r18
attribute [go_sem] F48.r10
attribute [go_sem] F48.r19
attribute [go_sem] F48.r20
attribute [go_sem] F48.r21
attribute [go_sem] F48.r23
attribute [go_sem] F48.r24
attribute [go_sem] F48.r25
attribute [go_sem] F48.r27
attribute [go_sem] F48.r28
attribute [go_sem] F48.r29
attribute [go_sem] F48.r30
attribute [go_sem] F48.r26
attribute [go_sem] F48.r22
attribute [go_sem] F48.r31
attribute [go_sem] F48.r32
attribute [go_sem] F48.r33
attribute [go_sem] F48.r34
attribute [go_sem] F48.r35
attribute [go_sem] F48.r36
attribute [go_sem] F48.r38
attribute [go_sem] F48.r39
attribute [go_sem] F48.r41
attribute [go_sem] F48.r42
attribute [go_sem] F48.r40
attribute [go_sem] F48.r37
attribute [go_sem] F48.r43
attribute [go_sem] F50.r0
attribute [go_sem] F50.r1
attribute [go_sem] F50.r2
attribute [go_sem] F50.r3
attribute [go_sem] F50.r4
attribute [go_sem] F50.r5
attribute [go_sem] F50.r6
attribute [go_sem] F50.r7
attribute [go_sem] F50.r8
attribute [go_sem] F51.r0
attribute [go_sem] F51.r1
attribute [go_sem] F51.r2
attribute [go_sem] F51.r3
attribute [go_sem] F51.r4
attribute [go_sem] F51.r6
attribute [go_sem] F51.r7
attribute [go_sem] F51.r5
attribute [go_sem] F51.r8
attribute [go_sem] F52.r0
attribute [go_sem] F52.r1
attribute [go_sem] F52.r2
attribute [go_sem] F52.r3
attribute [go_sem] F52.r5
attribute [go_sem] F52.r4
attribute [go_sem] F52.r6
attribute [go_sem] F53.r0
attribute [go_sem] F53.r1
attribute [go_sem] F53.r2
attribute [go_sem] F54.r0
attribute [go_sem] F54.r1
attribute [go_sem] F54.r2
attribute [go_sem] F54.r3
attribute [go_sem] F54.r4
attribute [go_sem] F54.r5
attribute [go_sem] F54.r6
attribute [go_sem] F54.r7
attribute [go_sem] F54.r8
attribute [go_sem] F54.r9
attribute [go_sem] F54.r10
attribute [go_sem] F54.r11
attribute [go_sem] F54.r12
attribute [go_sem] F55.r0
attribute [go_sem] F55.r1
attribute [go_sem] F56.r0
attribute [go_sem] F56.r1
attribute [go_sem] F56.r2
attribute [go_sem] F56.r3
attribute [go_sem] F56.r4
attribute [go_sem] F56.r5
attribute [go_sem] F56.r6
attribute [go_sem] F56.r7
attribute [go_sem] F56.r8
attribute [go_sem] F57.r0
attribute [go_sem] F57.r1
attribute [go_sem] F57.r2
attribute [go_sem] F57.r3
attribute [go_sem] F57.r4
attribute [go_sem] F57.r5
attribute [go_sem] F57.r6
attribute [go_sem] F57.r7
attribute [go_sem] F57.r8
attribute [go_sem] F58.r0
attribute [go_sem] F58.r1
attribute [go_sem] F59.r0
attribute [go_sem] F59.r1
attribute [go_sem] F59.r2
attribute [go_sem] F59.r3
attribute [go_sem] F59.r4
attribute [go_sem] F59.r6
attribute [go_sem] F59.r7
attribute [go_sem] F59.r8
attribute [go_sem] F59.r5
attribute [go_sem] F59.r9
attribute [go_sem] F60.r0
attribute [go_sem] F60.r1
attribute [go_sem] F60.r2
attribute [go_sem] F60.r3
attribute [go_sem] F60.r4
attribute [go_sem] F60.r5
attribute [go_sem] F60.r6
attribute [go_sem] F60.r8
attribute [go_sem] F60.r9
attribute [go_sem] F60.r10
attribute [go_sem] F60.r11
attribute [go_sem] F60.r7
attribute [go_sem] F60.r12
attribute [go_sem] F61.r0
attribute [go_sem] F61.r1
attribute [go_sem] F62.r0
attribute [go_sem] F62.r1
attribute [go_sem] F62.r2
attribute [go_sem] F62.r3
attribute [go_sem] F62.r4
attribute [go_sem] F62.r5
attribute [go_sem] F64.r0
attribute [go_sem] F64.r1
attribute [go_sem] F65.r0
attribute [go_sem] F65.r1
attribute [go_sem] F65.r2
attribute [go_sem] F65.r4
attribute [go_sem] F65.r5
attribute [go_sem] F65.r3
attribute [go_sem] F65.r6
attribute [go_sem] F66.r0
attribute [go_sem] F66.r1
attribute [go_sem] F66.r2
attribute [go_sem] F66.r3
attribute [go_sem] F66.r5
attribute [go_sem] F66.r6
attribute [go_sem] F66.r7
attribute [go_sem] F66.r4
attribute [go_sem] F66.r8
attribute [go_sem] F67.r0
attribute [go_sem] F67.r1
attribute [go_sem] F67.r2
attribute [go_sem] F67.r3
attribute [go_sem] F67.r5
attribute [go_sem] F67.r6
attribute [go_sem] F67.r7
attribute [go_sem] F67.r8
attribute [go_sem] F67.r4
attribute [go_sem] F67.r9
attribute [go_sem] F68.r0
attribute [go_sem] F68.r1
attribute [go_sem] F68.r2
attribute [go_sem] F68.r3
attribute [go_sem] F69.r0
attribute [go_sem] F69.r1
attribute [go_sem] F69.r2
attribute [go_sem] F69.r3
attribute [go_sem] F69.r4
attribute [go_sem] F70.r0
attribute [go_sem] F70.r1
attribute [go_sem] F70.r2
attribute [go_sem] F70.r3
attribute [go_sem] F71.r0
attribute [go_sem] F71.r1
attribute [go_sem] F72.r0
attribute [go_sem] F72.r1
attribute [go_sem] F73.r0
attribute [go_sem] F73.r1
attribute [go_sem] F73.r2
attribute [go_sem] F73.r3
attribute [go_sem] F73.r4
attribute [go_sem] F73.r5
attribute [go_sem] F73.r7
attribute [go_sem] F73.r8
attribute [go_sem] F73.r9
attribute [go_sem] F73.r10
attribute [go_sem] F73.r11
attribute [go_sem] F73.r13
attribute [go_sem] F73.r14
attribute [go_sem] F73.r15
attribute [go_sem] F73.r12
attribute [go_sem] F73.r6
attribute [go_sem] F73.r16
attribute [go_sem] F74.r0
attribute [go_sem] F74.r1
attribute [go_sem] F75.r0
attribute [go_sem] F75.r1
attribute [go_sem] F75.r2
attribute [go_sem] F75.r3
attribute [go_sem] F75.r4
attribute [go_sem] F76.r0
attribute [go_sem] F76.r1
attribute [go_sem] F76.r2
attribute [go_sem] F76.r3
attribute [go_sem] F76.r4
attribute [go_sem] F76.r5
attribute [go_sem] F77.r0
attribute [go_sem] F77.r1
attribute [go_sem] F77.r2
attribute [go_sem] F77.r3
attribute [go_sem] F77.r4
attribute [go_sem] F77.r5
attribute [go_sem] F77.r6
attribute [go_sem] F77.r7
attribute [go_sem] F78.r0
attribute [go_sem] F78.r1
attribute [go_sem] F78.r2
attribute [go_sem] F78.r3
attribute [go_sem] F78.r4
attribute [go_sem] F78.r5
attribute [go_sem] F78.r6
attribute [go_sem] F78.r7
attribute [go_sem] F79.r0
attribute [go_sem] F79.r1
attribute [go_sem] F79.r2
attribute [go_sem] F79.r3
attribute [go_sem] F79.r4
attribute [go_sem] F79.r6
attribute [go_sem] F79.r7
attribute [go_sem] F79.r5
attribute [go_sem] F79.r8
attribute [go_sem] F80.r0
attribute [go_sem] F80.r1
attribute [go_sem] F80.r2
attribute [go_sem] F80.r3
attribute [go_sem] F81.r0
attribute [go_sem] F81.r1
attribute [go_sem] F82.r0
attribute [go_sem] F82.r1
attribute [go_sem] F83.r0
attribute [go_sem] F83.r1
attribute [go_sem] F83.r2
attribute [go_sem] F83.r3
attribute [go_sem] F83.r4
attribute [go_sem] F84.r0
attribute [go_sem] F84.r1
attribute [go_sem] F84.r2
attribute [go_sem] F85.r0
attribute [go_sem] F85.r1
attribute [go_sem] F91.r0
attribute [go_sem] F91.r1
attribute [go_sem] F91.r2
attribute [go_sem] F91.r3
attribute [go_sem] F91.r4
attribute [go_sem] F91.r5
attribute [go_sem] F91.r6
attribute [go_sem] F91.r7
attribute [go_sem] F94.r0
attribute [go_sem] F94.r1
attribute [go_sem] F95.r0
attribute [go_sem] F95.r1
attribute [go_sem] F95.r2
attribute [go_sem] F95.r3
attribute [go_sem] F95.r4
attribute [go_sem] F95.r5
attribute [go_sem] F95.r6
attribute [go_sem] F95.r7
attribute [go_sem] F95.r8
attribute [go_sem] F95.r9
attribute [go_sem] F95.r10
attribute [go_sem] F96.r0
attribute [go_sem] F96.r34
attribute [go_sem] F96.r35
attribute [go_sem] F96.r36
attribute [go_sem] F96.r37
attribute [go_sem] F96.r38
attribute [go_sem] F96.r39
attribute [go_sem] F96.r40
attribute [go_sem] F96.r41
attribute [go_sem] F96.r42
attribute [go_sem] F96.r43
attribute [go_sem] F96.r44
attribute [go_sem] F96.r1
attribute [go_sem] F96.r2
attribute [go_sem] F96.r3
attribute [go_sem] F96.r4
attribute [go_sem] F96.r5
attribute [go_sem] F96.r6
attribute [go_sem] F96.r7
attribute [go_sem] F96.r8
attribute [go_sem] F96.r9
attribute [go_sem] F96.r10
attribute [go_sem] F96.r11
attribute [go_sem] F96.r12
attribute [go_sem] F96.r14
attribute [go_sem] F96.r13
attribute [go_sem] F96.r15
attribute [go_sem] F96.r16
attribute [go_sem] F96.r17
attribute [go_sem] F96.r18
attribute [go_sem] F96.r19
attribute [go_sem] F96.r20
attribute [go_sem] F96.r21
attribute [go_sem] F96.r22
attribute [go_sem] F96.r23
attribute [go_sem] F96.r24
attribute [go_sem] F96.r25
attribute [go_sem] F96.r27
attribute [go_sem] F96.r28
attribute [go_sem] F96.r29
attribute [go_sem] F96.r31
attribute [go_sem] F96.r30
attribute [go_sem] F96.r32
attribute [go_sem] F96.r26
attribute [go_sem] F96.r33
attribute [go_sem] F97.r0
attribute [go_sem] F97.r1
attribute [go_sem] F97.r2
attribute [go_sem] F97.r3
attribute [go_sem] F98.r0
attribute [go_sem] F98.r1
attribute [go_sem] F98.r2
attribute [go_sem] F98.r3
attribute [go_sem] F98.r4
attribute [go_sem] F98.r5
attribute [go_sem] F98.r6
attribute [go_sem] F98.r7
attribute [go_sem] F117.r0
attribute [go_sem] F117.r1
attribute [go_sem] F117.r2
attribute [go_sem] F117.r3
attribute [go_sem] F117.r4
attribute [go_sem] F117.r5
attribute [go_sem] F120.r0
attribute [go_sem] F120.r1
attribute [go_sem] F120.r2
attribute [go_sem] F120.r3
attribute [go_sem] F120.r4
attribute [go_sem] F120.r5
attribute [go_sem] F120.r6
attribute [go_sem] F120.r7
attribute [go_sem] F120.r8
attribute [go_sem] F120.r9
attribute [go_sem] F120.r10
attribute [go_sem] F120.r11
attribute [go_sem] F120.r12
attribute [go_sem] F120.r13
attribute [go_sem] F120.r14
attribute [go_sem] F120.r15
attribute [go_sem] F120.r16
attribute [go_sem] F120.r17
attribute [go_sem] F120.r18
attribute [go_sem] F131.r0
attribute [go_sem] F131.r1

end Go.Proofs.YtkijkoakloacoaaGreatDoor

/- The compiled code of the functions, by program (genir.py): each with the theorem that it is what the engine makes of the loaded program's. -/
import Derived.Test.YtlnlomjdooobdaaDoorIrA
namespace Go.Proofs.YtlnlomjdooobdaaDoor
open Go
set_option maxRecDepth 100000

def F42.r0 : List Oper := [
  ⟨(some 4), (.assign (.const (.slice none 0 0))), 70, "", #[], none⟩,
  ⟨(some 5), (.assign (.const (.int .i64 0))), 3, "", #[], none⟩]
def F42.r1 : List Oper := [
  ⟨(some 6), (.assign (.const (.int .i64 1))), 3, "", #[], none⟩]
def F42.r2 : List Oper := [
  ⟨(some 9), (.move (.tmp 6)), 3, "", #[], none⟩,
  ⟨(some 10), (.move (.tmp 1)), 9, "", #[], none⟩,
  ⟨(some 11), (.call ⟨(.builtin .len), #[(.tmp 10)], #[9]⟩), 3, "", #[], none⟩,
  ⟨(some 12), (.binOp .lss 3 (.tmp 9) (.tmp 11) 3), 4, "", #[], none⟩]
def F42.r4 : List Oper := [
  ⟨(some 15), (.move (.tmp 1)), 9, "", #[], none⟩,
  ⟨(some 16), (.move (.tmp 6)), 3, "", #[], none⟩,
  ⟨(some 17), (.index 9 (.tmp 15) (.tmp 16)), 5, "", #[], none⟩]
def F42.r6 : List Oper := [
  ⟨(some 25), (.binOp .eql 5 (.tmp 17) (.const (.int .u8 39)) 5), 4, "", #[], none⟩,
  ⟨(some 24), (.assign (.tmp 25)), 4, "", #[], none⟩]
def F42.r7 : List Oper := [
  ⟨(some 26), (.move (.tmp 0)), 70, "", #[], none⟩,
  ⟨(some 27), (.move (.tmp 6)), 3, "", #[], none⟩,
  ⟨(some 28), (.binOp .add 3 (.tmp 27) (.const (.int .i64 1)) 3), 3, "", #[], none⟩,
  ⟨(some 4), (.assign (.tmp 26)), 70, "", #[], none⟩,
  ⟨(some 5), (.assign (.tmp 28)), 3, "", #[], none⟩]
def F42.r8 : List Oper := [
  ⟨(some 30), (.binOp .eql 5 (.tmp 17) (.const (.int .u8 92)) 5), 4, "", #[], none⟩,
  ⟨(some 29), (.assign (.tmp 30)), 4, "", #[], none⟩]
def F42.r9 : List Oper := [
  ⟨(some 32), (.move (.tmp 1)), 9, "", #[], none⟩,
  ⟨(some 33), (.move (.tmp 6)), 3, "", #[], none⟩,
  ⟨(some 34), (.binOp .add 3 (.tmp 33) (.const (.int .i64 1)) 3), 3, "", #[], none⟩,
  ⟨(some 35), (.slice 9 (.tmp 32) (some (.tmp 34)) none none), 9, "", #[], none⟩,
  ⟨(some 36), (.call ⟨(.value (.func 55)), #[(.tmp 35)], #[9]⟩), 98, "", #[⟨0, .chain⟩], none⟩,
  ⟨(some 31), (.move (.tmp 36)), 98, "", #[], none⟩,
  ⟨(some 37), (.extract (.tmp 31) 0), 5, "", #[], none⟩,
  ⟨(some 38), (.extract (.tmp 31) 1), 3, "", #[], none⟩,
  ⟨(some 7), (.assign (.tmp 37)), 5, "", #[], none⟩,
  ⟨(some 8), (.assign (.tmp 38)), 3, "", #[], none⟩]
def F42.r10 : List Oper := [
  ⟨(some 39), (.move (.tmp 0)), 70, "", #[], none⟩,
  ⟨(some 40), (.move (.tmp 7)), 5, "", #[], none⟩,
  ⟨(some 41), (.buildSlice 70 1 #[(0, (.tmp 40))]), 70, "", #[⟨0, .chain⟩], none⟩,
  ⟨(some 42), (.call ⟨(.builtin .append), #[(.tmp 39), (.tmp 41)], #[70, 70]⟩), 70, "", #[⟨0, .chain⟩], none⟩,
  ⟨(some 0), (.assign (.tmp 42)), 70, "", #[], none⟩]
def F42.r11 : List Oper := [
  ⟨(some 43), (.move (.tmp 6)), 3, "", #[], none⟩,
  ⟨(some 44), (.move (.tmp 8)), 3, "", #[], none⟩,
  ⟨(some 45), (.binOp .add 3 (.tmp 43) (.tmp 44) 3), 3, "", #[], none⟩,
  ⟨(some 6), (.assign (.tmp 45)), 3, "", #[], none⟩]
def F42.r5 : List Oper := [
  ⟨(some 18), (.move (.tmp 0)), 70, "", #[], none⟩,
  ⟨(some 19), (.move (.tmp 1)), 9, "", #[], none⟩,
  ⟨(some 20), (.move (.tmp 6)), 3, "", #[], none⟩,
  ⟨(some 21), (.index 9 (.tmp 19) (.tmp 20)), 5, "", #[], none⟩,
  ⟨(some 22), (.buildSlice 70 1 #[(0, (.tmp 21))]), 70, "", #[⟨0, .chain⟩], none⟩,
  ⟨(some 23), (.call ⟨(.builtin .append), #[(.tmp 18), (.tmp 22)], #[70, 70]⟩), 70, "", #[⟨0, .chain⟩], none⟩,
  ⟨(some 0), (.assign (.tmp 23)), 70, "", #[], none⟩]
def F42.r3 : List Oper := [
  ⟨(some 13), (.move (.tmp 6)), 3, "", #[], none⟩,
  ⟨(some 14), (.binOp .add 3 (.tmp 13) (.const (.int .i64 1)) 3), 3, "", #[], none⟩,
  ⟨(some 6), (.assign (.tmp 14)), 3, "", #[], none⟩]
def F42.r12 : List Oper := [
  ⟨(some 46), (.build 82 #[]), 82, "", #[], none⟩,
  ⟨(some 47), (.makeInterface 82 (.tmp 46)), 20, "", #[⟨0, .data⟩], none⟩,
  ⟨none, (.panic (.tmp 47)), 0, "", #[⟨0, .chain⟩], none⟩]
def F42.t3 : Cd := (.region 3 F42.r3.toArray false)
theorem F42.t3_eq {P : Program} {Q : Post} {e : FA} {w : World} {θ : Tag (F42.t3, Q, e, w)} : cwE P F42.t3 Q e w θ = cwE P (.region 3 F42.r3.toArray false) Q e w := rfl
def F42.t4 : Cd := (.seq (.block 1 (.seq (.region 4 F42.r4.toArray false) (.block 2 (.seq (.region 6 F42.r6.toArray false) (.cond (.tmp 24) (.seq (.region 7 F42.r7.toArray false) .ret) (.seq (.region 8 F42.r8.toArray false) (.cond (.tmp 29) (.seq (.region 9 F42.r9.toArray false) (.seq (.region 10 F42.r10.toArray false) (.region 11 F42.r11.toArray false))) (.region 5 F42.r5.toArray false)))))))) F42.t3)
theorem F42.t4_eq {P : Program} {Q : Post} {e : FA} {w : World} {θ : Tag (F42.t4, Q, e, w)} : cwE P F42.t4 Q e w θ = cwE P (.seq (.block 1 (.seq (.region 4 F42.r4.toArray false) (.block 2 (.seq (.region 6 F42.r6.toArray false) (.cond (.tmp 24) (.seq (.region 7 F42.r7.toArray false) .ret) (.seq (.region 8 F42.r8.toArray false) (.cond (.tmp 29) (.seq (.region 9 F42.r9.toArray false) (.seq (.region 10 F42.r10.toArray false) (.region 11 F42.r11.toArray false))) (.region 5 F42.r5.toArray false)))))))) F42.t3) Q e w := rfl
def F42.t12 : Cd := (.region 12 F42.r12.toArray false)
theorem F42.t12_eq {P : Program} {Q : Post} {e : FA} {w : World} {θ : Tag (F42.t12, Q, e, w)} : cwE P F42.t12 Q e w θ = cwE P (.region 12 F42.r12.toArray false) Q e w := rfl
def F42.code : Cd := (.seq (.region 0 F42.r0.toArray false) (.seq (.seq (.region 1 F42.r1.toArray false) (.block 0 (.loop (.seq (.seq (.region 2 F42.r2.toArray false) (.cond (.tmp 12) .skip (.exit 0))) F42.t4)))) F42.t12))
theorem F42.calls {args : Array Value} {w : World} {R : Ending → World → Prop} (hn : args.size ≤ 48) (h : cwE Tryd.prog F42.code (fnP Tryd.prog #[(.tmp 4), (.tmp 5)] R) (entry args) w) : Calls Tryd.prog 42 args w R :=
  calls_of_cwE (types := Tryd.prog.types) follows Tryd.func42 F42.code rfl (by kernel_rfl) hn h

def F43.r0 : List Oper := [
  ⟨(some 4), (.assign (.const (.bool false))), 4, "", #[], none⟩]
def F43.r1 : List Oper := [
  ⟨(some 5), (.move (.tmp 0)), 9, "", #[], none⟩,
  ⟨(some 6), (.call ⟨(.builtin .len), #[(.tmp 5)], #[9]⟩), 3, "", #[], none⟩,
  ⟨(some 7), (.move (.tmp 1)), 9, "", #[], none⟩,
  ⟨(some 8), (.call ⟨(.builtin .len), #[(.tmp 7)], #[9]⟩), 3, "", #[], none⟩,
  ⟨(some 9), (.binOp .geq 3 (.tmp 6) (.tmp 8) 3), 4, "", #[], none⟩,
  ⟨(some 10), (.move (.tmp 9)), 4, "", #[], none⟩,
  ⟨(some 11), (.move (.tmp 0)), 9, "", #[], (some (10, true))⟩,
  ⟨(some 12), (.move (.tmp 1)), 9, "", #[], (some (10, true))⟩,
  ⟨(some 13), (.call ⟨(.builtin .len), #[(.tmp 12)], #[9]⟩), 3, "", #[], (some (10, true))⟩,
  ⟨(some 14), (.slice 9 (.tmp 11) none (some (.tmp 13)) none), 9, "", #[], (some (10, true))⟩,
  ⟨(some 15), (.move (.tmp 1)), 9, "", #[], (some (10, true))⟩,
  ⟨(some 16), (.binOp .eql 9 (.tmp 14) (.tmp 15) 9), 4, "", #[], (some (10, true))⟩,
  ⟨(some 17), (.pick (.tmp 10) (.tmp 16) (.const (.bool false))), 4, "", #[], none⟩,
  ⟨(some 4), (.assign (.tmp 17)), 4, "", #[], none⟩]
def F43.code : Cd := (.seq (.region 0 F43.r0.toArray false) (.seq (.region 1 F43.r1.toArray false) .ret))
theorem F43.calls {args : Array Value} {w : World} {R : Ending → World → Prop} (hn : args.size ≤ 18) (h : cwE Tryd.prog F43.code (fnP Tryd.prog #[(.tmp 4)] R) (entry args) w) : Calls Tryd.prog 43 args w R :=
  calls_of_cwE (types := Tryd.prog.types) follows Tryd.func43 F43.code rfl (by kernel_rfl) hn h

def F44.r0 : List Oper := [
  ⟨(some 8), (.assign (.const (.slice none 0 0))), 24, "", #[], none⟩]
def F44.r1 : List Oper := [
  ⟨(some 12), (.move (.tmp 3)), 3, "", #[], none⟩,
  ⟨(some 13), (.binOp .eql 3 (.tmp 12) (.const (.int .i64 0)) 3), 4, "", #[], none⟩]
def F44.r2 : List Oper := [
  ⟨(some 8), (.assign (.const (.slice none 0 0))), 24, "", #[], none⟩]
def F44.r3 : List Oper := [
  ⟨(some 14), (.move (.tmp 1)), 9, "", #[], none⟩,
  ⟨(some 15), (.binOp .eql 9 (.tmp 14) (.const (.string { data := #[] })) 9), 4, "", #[], none⟩]
def F44.r4 : List Oper := [
  ⟨(some 16), (.move (.tmp 0)), 9, "", #[], none⟩,
  ⟨(some 17), (.move (.tmp 3)), 3, "", #[], none⟩,
  ⟨(some 18), (.call ⟨(.value (.func 56)), #[(.tmp 16), (.tmp 17)], #[9, 3]⟩), 24, "", #[⟨0, .chain⟩], none⟩,
  ⟨(some 8), (.assign (.tmp 18)), 24, "", #[], none⟩]
def F44.r5 : List Oper := [
  ⟨(some 19), (.move (.tmp 3)), 3, "", #[], none⟩,
  ⟨(some 20), (.binOp .lss 3 (.tmp 19) (.const (.int .i64 0)) 3), 4, "", #[], none⟩]
def F44.r6 : List Oper := [
  ⟨(some 21), (.move (.tmp 0)), 9, "", #[], none⟩,
  ⟨(some 22), (.move (.tmp 1)), 9, "", #[], none⟩,
  ⟨(some 23), (.call ⟨(.value (.func 57)), #[(.tmp 21), (.tmp 22)], #[9, 9]⟩), 3, "", #[⟨0, .chain⟩], none⟩,
  ⟨(some 24), (.binOp .add 3 (.tmp 23) (.const (.int .i64 1)) 3), 3, "", #[], none⟩,
  ⟨(some 3), (.assign (.tmp 24)), 3, "", #[], none⟩]
def F44.r7 : List Oper := [
  ⟨(some 25), (.move (.tmp 3)), 3, "", #[], none⟩,
  ⟨(some 26), (.move (.tmp 0)), 9, "", #[], none⟩,
  ⟨(some 27), (.call ⟨(.builtin .len), #[(.tmp 26)], #[9]⟩), 3, "", #[], none⟩,
  ⟨(some 28), (.binOp .add 3 (.tmp 27) (.const (.int .i64 1)) 3), 3, "", #[], none⟩,
  ⟨(some 29), (.call ⟨(.builtin .min), #[(.tmp 25), (.tmp 28)], #[3, 3]⟩), 3, "", #[], none⟩,
  ⟨(some 3), (.assign (.tmp 29)), 3, "", #[], none⟩]
def F44.r8 : List Oper := [
  ⟨(some 30), (.move (.tmp 3)), 3, "", #[], none⟩,
  ⟨(some 31), (.makeSlice 24 (.tmp 30) (.tmp 30)), 24, "", #[⟨0, .chain⟩], none⟩,
  ⟨(some 9), (.assign (.tmp 31)), 24, "", #[], none⟩]
def F44.r9 : List Oper := [
  ⟨(some 32), (.move (.tmp 3)), 3, "", #[], none⟩,
  ⟨(some 33), (.binOp .sub 3 (.tmp 32) (.const (.int .i64 1)) 3), 3, "", #[], none⟩,
  ⟨(some 3), (.assign (.tmp 33)), 3, "", #[], none⟩]
def F44.r10 : List Oper := [
  ⟨(some 10), (.assign (.const (.int .i64 0))), 3, "", #[], none⟩]
def F44.r11 : List Oper := [
  ⟨(some 34), (.move (.tmp 10)), 3, "", #[], none⟩,
  ⟨(some 35), (.move (.tmp 3)), 3, "", #[], none⟩,
  ⟨(some 36), (.binOp .lss 3 (.tmp 34) (.tmp 35) 3), 4, "", #[], none⟩]
def F44.r12 : List Oper := [
  ⟨(some 37), (.move (.tmp 0)), 9, "", #[], none⟩,
  ⟨(some 38), (.move (.tmp 1)), 9, "", #[], none⟩,
  ⟨(some 39), (.call ⟨(.value (.func 58)), #[(.tmp 37), (.tmp 38)], #[9, 9]⟩), 3, "", #[⟨0, .chain⟩], none⟩,
  ⟨(some 11), (.assign (.tmp 39)), 3, "", #[], none⟩]
def F44.r13 : List Oper := [
  ⟨(some 40), (.move (.tmp 11)), 3, "", #[], none⟩,
  ⟨(some 41), (.binOp .lss 3 (.tmp 40) (.const (.int .i64 0)) 3), 4, "", #[], none⟩]
def F44.r14 : List Oper := [
  ⟨(some 42), (.move (.tmp 9)), 24, "", #[], none⟩,
  ⟨(some 43), (.move (.tmp 10)), 3, "", #[], none⟩,
  ⟨(some 44), (.move (.tmp 0)), 9, "", #[], none⟩,
  ⟨(some 45), (.move (.tmp 11)), 3, "", #[], none⟩,
  ⟨(some 46), (.move (.tmp 2)), 3, "", #[], none⟩,
  ⟨(some 47), (.binOp .add 3 (.tmp 45) (.tmp 46) 3), 3, "", #[], none⟩,
  ⟨(some 48), (.slice 9 (.tmp 44) none (some (.tmp 47)) none), 9, "", #[], none⟩,
  ⟨(some 49), (.indexAddr 24 (.tmp 42) (.tmp 43)), 0, "", #[], none⟩,
  ⟨none, (.store 9 (.tmp 49) (.tmp 48)), 0, "", #[⟨0, .chain⟩], none⟩]
def F44.r15 : List Oper := [
  ⟨(some 50), (.move (.tmp 0)), 9, "", #[], none⟩,
  ⟨(some 51), (.move (.tmp 11)), 3, "", #[], none⟩,
  ⟨(some 52), (.move (.tmp 1)), 9, "", #[], none⟩,
  ⟨(some 53), (.call ⟨(.builtin .len), #[(.tmp 52)], #[9]⟩), 3, "", #[], none⟩,
  ⟨(some 54), (.binOp .add 3 (.tmp 51) (.tmp 53) 3), 3, "", #[], none⟩,
  ⟨(some 55), (.slice 9 (.tmp 50) (some (.tmp 54)) none none), 9, "", #[], none⟩,
  ⟨(some 0), (.assign (.tmp 55)), 9, "", #[], none⟩]
def F44.r16 : List Oper := [
  ⟨(some 56), (.move (.tmp 10)), 3, "", #[], none⟩,
  ⟨(some 57), (.binOp .add 3 (.tmp 56) (.const (.int .i64 1)) 3), 3, "", #[], none⟩,
  ⟨(some 10), (.assign (.tmp 57)), 3, "", #[], none⟩]
def F44.r17 : List Oper := [
  ⟨(some 58), (.move (.tmp 9)), 24, "", #[], none⟩,
  ⟨(some 59), (.move (.tmp 10)), 3, "", #[], none⟩,
  ⟨(some 60), (.move (.tmp 0)), 9, "", #[], none⟩,
  ⟨(some 61), (.indexAddr 24 (.tmp 58) (.tmp 59)), 0, "", #[], none⟩,
  ⟨none, (.store 9 (.tmp 61) (.tmp 60)), 0, "", #[⟨0, .chain⟩], none⟩]
def F44.r18 : List Oper := [
  ⟨(some 62), (.move (.tmp 9)), 24, "", #[], none⟩,
  ⟨(some 63), (.move (.tmp 10)), 3, "", #[], none⟩,
  ⟨(some 64), (.binOp .add 3 (.tmp 63) (.const (.int .i64 1)) 3), 3, "", #[], none⟩,
  ⟨(some 65), (.slice 24 (.tmp 62) none (some (.tmp 64)) none), 24, "", #[], none⟩,
  ⟨(some 8), (.assign (.tmp 65)), 24, "", #[], none⟩]
def F44.t14 : Cd := (.seq (.region 14 F44.r14.toArray false) (.seq (.region 15 F44.r15.toArray false) (.region 16 F44.r16.toArray false)))
theorem F44.t14_eq {P : Program} {Q : Post} {e : FA} {w : World} {θ : Tag (F44.t14, Q, e, w)} : cwE P F44.t14 Q e w θ = cwE P (.seq (.region 14 F44.r14.toArray false) (.seq (.region 15 F44.r15.toArray false) (.region 16 F44.r16.toArray false))) Q e w := rfl
def F44.t12 : Cd := (.block 1 (.seq (.region 12 F44.r12.toArray false) (.seq (.seq (.region 13 F44.r13.toArray false) (.cond (.tmp 41) (.exit 0) .skip)) F44.t14)))
theorem F44.t12_eq {P : Program} {Q : Post} {e : FA} {w : World} {θ : Tag (F44.t12, Q, e, w)} : cwE P F44.t12 Q e w θ = cwE P (.block 1 (.seq (.region 12 F44.r12.toArray false) (.seq (.seq (.region 13 F44.r13.toArray false) (.cond (.tmp 41) (.exit 0) .skip)) F44.t14))) Q e w := rfl
def F44.t17 : Cd := (.seq (.region 17 F44.r17.toArray false) (.seq (.region 18 F44.r18.toArray false) .ret))
theorem F44.t17_eq {P : Program} {Q : Post} {e : FA} {w : World} {θ : Tag (F44.t17, Q, e, w)} : cwE P F44.t17 Q e w θ = cwE P (.seq (.region 17 F44.r17.toArray false) (.seq (.region 18 F44.r18.toArray false) .ret)) Q e w := rfl
def F44.t7 : Cd := (.seq (.region 7 F44.r7.toArray false) (.seq (.region 8 F44.r8.toArray false) (.seq (.region 9 F44.r9.toArray false) (.seq (.region 10 F44.r10.toArray false) (.seq (.block 0 (.loop (.seq (.seq (.region 11 F44.r11.toArray false) (.cond (.tmp 36) .skip (.exit 0))) F44.t12))) F44.t17)))))
theorem F44.t7_eq {P : Program} {Q : Post} {e : FA} {w : World} {θ : Tag (F44.t7, Q, e, w)} : cwE P F44.t7 Q e w θ = cwE P (.seq (.region 7 F44.r7.toArray false) (.seq (.region 8 F44.r8.toArray false) (.seq (.region 9 F44.r9.toArray false) (.seq (.region 10 F44.r10.toArray false) (.seq (.block 0 (.loop (.seq (.seq (.region 11 F44.r11.toArray false) (.cond (.tmp 36) .skip (.exit 0))) F44.t12))) F44.t17))))) Q e w := rfl
def F44.t5 : Cd := (.seq (.seq (.region 5 F44.r5.toArray false) (.cond (.tmp 20) (.region 6 F44.r6.toArray false) .skip)) F44.t7)
theorem F44.t5_eq {P : Program} {Q : Post} {e : FA} {w : World} {θ : Tag (F44.t5, Q, e, w)} : cwE P F44.t5 Q e w θ = cwE P (.seq (.seq (.region 5 F44.r5.toArray false) (.cond (.tmp 20) (.region 6 F44.r6.toArray false) .skip)) F44.t7) Q e w := rfl
def F44.t3 : Cd := (.seq (.seq (.region 3 F44.r3.toArray false) (.cond (.tmp 15) (.seq (.region 4 F44.r4.toArray false) .ret) .skip)) F44.t5)
theorem F44.t3_eq {P : Program} {Q : Post} {e : FA} {w : World} {θ : Tag (F44.t3, Q, e, w)} : cwE P F44.t3 Q e w θ = cwE P (.seq (.seq (.region 3 F44.r3.toArray false) (.cond (.tmp 15) (.seq (.region 4 F44.r4.toArray false) .ret) .skip)) F44.t5) Q e w := rfl
def F44.code : Cd := (.seq (.region 0 F44.r0.toArray false) (.seq (.seq (.region 1 F44.r1.toArray false) (.cond (.tmp 13) (.seq (.region 2 F44.r2.toArray false) .ret) .skip)) F44.t3))
theorem F44.calls {args : Array Value} {w : World} {R : Ending → World → Prop} (hn : args.size ≤ 66) (h : cwE Tryd.prog F44.code (fnP Tryd.prog #[(.tmp 8)] R) (entry args) w) : Calls Tryd.prog 44 args w R :=
  calls_of_cwE (types := Tryd.prog.types) follows Tryd.func44 F44.code rfl (by kernel_rfl) hn h

def F45.r0 : List Oper := [
  ⟨(some 4), (.assign (.const (.bool false))), 4, "", #[], none⟩]
def F45.r1 : List Oper := [
  ⟨(some 5), (.move (.tmp 0)), 9, "", #[], none⟩,
  ⟨(some 6), (.move (.tmp 1)), 9, "", #[], none⟩,
  ⟨(some 7), (.call ⟨(.value (.func 58)), #[(.tmp 5), (.tmp 6)], #[9, 9]⟩), 3, "", #[⟨0, .chain⟩], none⟩,
  ⟨(some 8), (.binOp .geq 3 (.tmp 7) (.const (.int .i64 0)) 3), 4, "", #[], none⟩,
  ⟨(some 4), (.assign (.tmp 8)), 4, "", #[], none⟩]
def F45.code : Cd := (.seq (.region 0 F45.r0.toArray false) (.seq (.region 1 F45.r1.toArray false) .ret))
theorem F45.calls {args : Array Value} {w : World} {R : Ending → World → Prop} (hn : args.size ≤ 9) (h : cwE Tryd.prog F45.code (fnP Tryd.prog #[(.tmp 4)] R) (entry args) w) : Calls Tryd.prog 45 args w R :=
  calls_of_cwE (types := Tryd.prog.types) follows Tryd.func45 F45.code rfl (by kernel_rfl) hn h

def F46.r0 : List Oper := [
  ⟨(some 5), (.call ⟨(.builtin .recover), #[], #[]⟩), 20, "", #[⟨0, .chain⟩], none⟩]
def F46.r3 : List Oper := [
  ⟨(some 7), (.binOp .eql 20 (.tmp 5) (.const .nilIface) 20), 4, "", #[], none⟩]
def F46.r4 : List Oper := [
  ⟨(some 2), (.assign (.tmp 5)), 20, "", #[], none⟩]
def F46.r5 : List Oper := [
  ⟨(some 8), (.typeAssert (.tmp 5) 20 86 true), 0, "", #[⟨0, .data⟩], none⟩,
  ⟨(some 9), (.extract (.tmp 8) 1), 4, "", #[], none⟩,
  ⟨(some 10), (.extract (.tmp 8) 0), 86, "", #[], none⟩]
def F46.r6 : List Oper := [
  ⟨(some 3), (.alloc 86), 0, "", #[⟨0, .chain⟩], none⟩,
  ⟨none, (.store 86 (.tmp 3) (.tmp 10)), 0, "", #[⟨0, .chain⟩], none⟩]
def F46.r7 : List Oper := [
  ⟨none, (.store 56 (.tmp 0) (.const (.slice none 0 0))), 0, "", #[⟨0, .chain⟩], none⟩,
  ⟨none, (.store 4 (.tmp 1) (.const (.bool false))), 0, "", #[⟨0, .chain⟩], none⟩]
def F46.r1 : List Oper := [
  ⟨(some 4), (.assign (.tmp 5)), 20, "", #[], none⟩]
def F46.r2 : List Oper := [
  ⟨(some 6), (.move (.tmp 4)), 20, "", #[], none⟩,
  ⟨none, (.panic (.tmp 6)), 0, "", #[⟨0, .chain⟩], none⟩]
def F46.code : Cd := (.seq (.region 0 F46.r0.toArray false) (.block 0 (.seq (.region 3 F46.r3.toArray false) (.cond (.tmp 7) (.region 4 F46.r4.toArray false) (.seq (.region 5 F46.r5.toArray false) (.cond (.tmp 9) (.seq (.region 6 F46.r6.toArray false) (.region 7 F46.r7.toArray false)) (.seq (.region 1 F46.r1.toArray false) (.region 2 F46.r2.toArray false))))))))
theorem F46.calls {args : Array Value} {w : World} {R : Ending → World → Prop} (hn : args.size ≤ 11) (h : cwE Tryd.prog F46.code (fnP Tryd.prog #[] R) (entry args) w) : Calls Tryd.prog 46 args w R :=
  calls_of_cwE (types := Tryd.prog.types) follows Tryd.func46 F46.code rfl (by kernel_rfl) hn h

def F47.r0 : List Oper := [
  ⟨(some 2), (.assign (.const (.bool false))), 4, "", #[], none⟩]
def F47.r1 : List Oper := [
  ⟨(some 3), (.move (.tmp 0)), 87, "", #[], none⟩,
  ⟨(some 4), (.nilCheck (.tmp 3)), 0, "", #[], none⟩,
  ⟨(some 5), (.fieldAddr 90 (.tmp 4) 1), 0, "", #[], none⟩,
  ⟨(some 7), (.move (.tmp 0)), 87, "", #[], none⟩,
  ⟨(some 8), (.nilCheck (.tmp 7)), 0, "", #[], none⟩,
  ⟨(some 9), (.fieldAddr 90 (.tmp 8) 0), 0, "", #[], none⟩,
  ⟨(some 6), (.load 3 (.tmp 5)), 3, "", #[⟨0, .data⟩], none⟩,
  ⟨(some 10), (.load 88 (.tmp 9)), 88, "", #[⟨0, .data⟩], none⟩,
  ⟨(some 11), (.call ⟨(.builtin .len), #[(.tmp 10)], #[88]⟩), 3, "", #[], none⟩,
  ⟨(some 12), (.binOp .lss 3 (.tmp 6) (.tmp 11) 3), 4, "", #[], none⟩,
  ⟨(some 2), (.assign (.tmp 12)), 4, "", #[], none⟩]
def F47.code : Cd := (.seq (.region 0 F47.r0.toArray false) (.seq (.region 1 F47.r1.toArray true) .ret))
theorem F47.calls {args : Array Value} {w : World} {R : Ending → World → Prop} (hn : args.size ≤ 13) (h : cwE Tryd.prog F47.code (fnP Tryd.prog #[(.tmp 2)] R) (entry args) w) : Calls Tryd.prog 47 args w R :=
  calls_of_cwE (types := Tryd.prog.types) follows Tryd.func47 F47.code rfl (by kernel_rfl) hn h

def F48.r0 : List Oper := [
  ⟨(some 2), (.assign (.const (.int .i32 0))), 21, "", #[], none⟩]
def F48.r1 : List Oper := [
  ⟨(some 4), (.move (.tmp 0)), 87, "", #[], none⟩,
  ⟨(some 5), (.call ⟨(.value (.func 59)), #[(.tmp 4)], #[87]⟩), 21, "", #[⟨0, .chain⟩], none⟩,
  ⟨(some 3), (.assign (.tmp 5)), 21, "", #[], none⟩]
def F48.r2 : List Oper := [
  ⟨(some 6), (.move (.tmp 0)), 87, "", #[], none⟩,
  ⟨(some 7), (.nilCheck (.tmp 6)), 0, "", #[], none⟩,
  ⟨(some 8), (.fieldAddr 90 (.tmp 7) 1), 0, "", #[], none⟩,
  ⟨(some 9), (.load 3 (.tmp 8)), 3, "", #[⟨0, .data⟩], none⟩,
  ⟨(some 10), (.binOp .add 3 (.tmp 9) (.const (.int .i64 1)) 3), 3, "", #[], none⟩,
  ⟨(some 11), (.nilCheck (.tmp 6)), 0, "", #[], none⟩,
  ⟨(some 12), (.fieldAddr 90 (.tmp 11) 1), 0, "", #[], none⟩,
  ⟨none, (.store 3 (.tmp 12) (.tmp 10)), 0, "", #[⟨0, .chain⟩], none⟩]
def F48.r3 : List Oper := [
  ⟨(some 13), (.move (.tmp 3)), 21, "", #[], none⟩,
  ⟨(some 2), (.assign (.tmp 13)), 21, "", #[], none⟩]
def F48.code : Cd := (.seq (.region 0 F48.r0.toArray false) (.seq (.region 1 F48.r1.toArray false) (.seq (.region 2 F48.r2.toArray false) (.seq (.region 3 F48.r3.toArray false) .ret))))
theorem F48.calls {args : Array Value} {w : World} {R : Ending → World → Prop} (hn : args.size ≤ 14) (h : cwE Tryd.prog F48.code (fnP Tryd.prog #[(.tmp 2)] R) (entry args) w) : Calls Tryd.prog 48 args w R :=
  calls_of_cwE (types := Tryd.prog.types) follows Tryd.func48 F48.code rfl (by kernel_rfl) hn h

def F49.r0 : List Oper := [
  ⟨(some 2), (.alloc 62), 0, "", #[⟨0, .chain⟩], none⟩]
def F49.r1 : List Oper := [
  ⟨(some 3), (.alloc 62), 0, "", #[⟨0, .chain⟩], none⟩]
def F49.r2 : List Oper := [
  ⟨(some 5), (.move (.tmp 0)), 87, "", #[], none⟩,
  ⟨(some 6), (.call ⟨(.value (.func 59)), #[(.tmp 5)], #[87]⟩), 21, "", #[⟨0, .chain⟩], none⟩,
  ⟨(some 7), (.binOp .eql 21 (.tmp 6) (.const (.int .i32 94)) 21), 4, "", #[], none⟩]
def F49.r3 : List Oper := [
  ⟨(some 8), (.fieldAddr 62 (.tmp 3) 1), 0, "", #[], none⟩,
  ⟨none, (.store 4 (.tmp 8) (.const (.bool true))), 0, "", #[⟨0, .chain⟩], none⟩]
def F49.r4 : List Oper := [
  ⟨(some 9), (.move (.tmp 0)), 87, "", #[], none⟩,
  ⟨(some 10), (.nilCheck (.tmp 9)), 0, "", #[], none⟩,
  ⟨(some 11), (.fieldAddr 90 (.tmp 10) 1), 0, "", #[], none⟩,
  ⟨(some 12), (.load 3 (.tmp 11)), 3, "", #[⟨0, .data⟩], none⟩,
  ⟨(some 13), (.binOp .add 3 (.tmp 12) (.const (.int .i64 1)) 3), 3, "", #[], none⟩,
  ⟨(some 14), (.nilCheck (.tmp 9)), 0, "", #[], none⟩,
  ⟨(some 15), (.fieldAddr 90 (.tmp 14) 1), 0, "", #[], none⟩,
  ⟨none, (.store 3 (.tmp 15) (.tmp 13)), 0, "", #[⟨0, .chain⟩], none⟩]
def F49.r5 : List Oper := [
  ⟨(some 16), (.move (.tmp 0)), 87, "", #[], none⟩,
  ⟨(some 17), (.call ⟨(.value (.func 60)), #[(.tmp 16)], #[87]⟩), 21, "", #[⟨0, .chain⟩], none⟩,
  ⟨(some 18), (.build 94 #[(0, (.tmp 17))]), 94, "", #[], none⟩,
  ⟨(some 4), (.alloc 94), 0, "", #[⟨0, .chain⟩], none⟩,
  ⟨none, (.store 94 (.tmp 4) (.tmp 18)), 0, "", #[⟨0, .chain⟩], none⟩]
def F49.r6 : List Oper := [
  ⟨(some 19), (.fieldAddr 94 (.tmp 4) 0), 0, "", #[], none⟩,
  ⟨(some 20), (.load 21 (.tmp 19)), 21, "", #[⟨0, .data⟩], none⟩,
  ⟨(some 21), (.fieldAddr 94 (.tmp 4) 1), 0, "", #[], none⟩,
  ⟨none, (.store 21 (.tmp 21) (.tmp 20)), 0, "", #[⟨0, .chain⟩], none⟩]
def F49.r7 : List Oper := [
  ⟨(some 22), (.move (.tmp 0)), 87, "", #[], none⟩,
  ⟨(some 23), (.call ⟨(.value (.func 59)), #[(.tmp 22)], #[87]⟩), 21, "", #[⟨0, .chain⟩], none⟩,
  ⟨(some 24), (.binOp .eql 21 (.tmp 23) (.const (.int .i32 45)) 21), 4, "", #[], none⟩]
def F49.r8 : List Oper := [
  ⟨(some 25), (.move (.tmp 0)), 87, "", #[], none⟩,
  ⟨(some 26), (.nilCheck (.tmp 25)), 0, "", #[], none⟩,
  ⟨(some 27), (.fieldAddr 90 (.tmp 26) 1), 0, "", #[], none⟩,
  ⟨(some 28), (.load 3 (.tmp 27)), 3, "", #[⟨0, .data⟩], none⟩,
  ⟨(some 29), (.binOp .add 3 (.tmp 28) (.const (.int .i64 1)) 3), 3, "", #[], none⟩,
  ⟨(some 30), (.nilCheck (.tmp 25)), 0, "", #[], none⟩,
  ⟨(some 31), (.fieldAddr 90 (.tmp 30) 1), 0, "", #[], none⟩,
  ⟨none, (.store 3 (.tmp 31) (.tmp 29)), 0, "", #[⟨0, .chain⟩], none⟩]
def F49.r9 : List Oper := [
  ⟨(some 32), (.move (.tmp 0)), 87, "", #[], none⟩,
  ⟨(some 33), (.call ⟨(.value (.func 60)), #[(.tmp 32)], #[87]⟩), 21, "", #[⟨0, .chain⟩], none⟩,
  ⟨(some 34), (.fieldAddr 94 (.tmp 4) 1), 0, "", #[], none⟩,
  ⟨none, (.store 21 (.tmp 34) (.tmp 33)), 0, "", #[⟨0, .chain⟩], none⟩]
def F49.r10 : List Oper := [
  ⟨(some 35), (.fieldAddr 94 (.tmp 4) 1), 0, "", #[], none⟩,
  ⟨(some 36), (.load 21 (.tmp 35)), 21, "", #[⟨0, .data⟩], none⟩,
  ⟨(some 37), (.fieldAddr 94 (.tmp 4) 0), 0, "", #[], none⟩,
  ⟨(some 38), (.load 21 (.tmp 37)), 21, "", #[⟨0, .data⟩], none⟩,
  ⟨(some 39), (.binOp .lss 21 (.tmp 36) (.tmp 38) 21), 4, "", #[], none⟩]
def F49.r11 : List Oper := [
  ⟨(some 40), (.build 86 #[]), 86, "", #[], none⟩,
  ⟨(some 41), (.makeInterface 86 (.tmp 40)), 20, "", #[⟨0, .data⟩], none⟩,
  ⟨none, (.panic (.tmp 41)), 0, "", #[⟨0, .chain⟩], none⟩]
def F49.r12 : List Oper := [
  ⟨(some 42), (.fieldAddr 62 (.tmp 3) 2), 0, "", #[], none⟩,
  ⟨(some 43), (.load 60 (.tmp 42)), 60, "", #[⟨0, .data⟩], none⟩,
  ⟨(some 44), (.load 94 (.tmp 4)), 94, "", #[⟨0, .data⟩], none⟩,
  ⟨(some 45), (.buildSlice 60 1 #[(0, (.tmp 44))]), 60, "", #[⟨0, .chain⟩], none⟩,
  ⟨(some 46), (.call ⟨(.builtin .append), #[(.tmp 43), (.tmp 45)], #[60, 60]⟩), 60, "", #[⟨0, .chain⟩], none⟩,
  ⟨(some 47), (.fieldAddr 62 (.tmp 3) 2), 0, "", #[], none⟩,
  ⟨none, (.store 60 (.tmp 47) (.tmp 46)), 0, "", #[⟨0, .chain⟩], none⟩]
def F49.r13 : List Oper := [
  ⟨(some 48), (.move (.tmp 0)), 87, "", #[], none⟩,
  ⟨(some 49), (.call ⟨(.value (.func 59)), #[(.tmp 48)], #[87]⟩), 21, "", #[⟨0, .chain⟩], none⟩,
  ⟨(some 50), (.binOp .eql 21 (.tmp 49) (.const (.int .i32 93)) 21), 4, "", #[], none⟩]
def F49.r14 : List Oper := [
  ⟨(some 51), (.move (.tmp 0)), 87, "", #[], none⟩,
  ⟨(some 52), (.nilCheck (.tmp 51)), 0, "", #[], none⟩,
  ⟨(some 53), (.fieldAddr 90 (.tmp 52) 1), 0, "", #[], none⟩,
  ⟨(some 54), (.load 3 (.tmp 53)), 3, "", #[⟨0, .data⟩], none⟩,
  ⟨(some 55), (.binOp .add 3 (.tmp 54) (.const (.int .i64 1)) 3), 3, "", #[], none⟩,
  ⟨(some 56), (.nilCheck (.tmp 51)), 0, "", #[], none⟩,
  ⟨(some 57), (.fieldAddr 90 (.tmp 56) 1), 0, "", #[], none⟩,
  ⟨none, (.store 3 (.tmp 57) (.tmp 55)), 0, "", #[⟨0, .chain⟩], none⟩]
def F49.r15 : List Oper := [
  ⟨(some 58), (.load 62 (.tmp 3)), 62, "", #[⟨0, .data⟩], none⟩,
  ⟨none, (.store 62 (.tmp 2) (.tmp 58)), 0, "", #[⟨0, .chain⟩], none⟩]
def F49.t12 : Cd := (.seq (.region 12 F49.r12.toArray false) (.seq (.region 13 F49.r13.toArray false) (.cond (.tmp 50) (.seq (.region 14 F49.r14.toArray false) (.seq (.region 15 F49.r15.toArray false) .ret)) .skip)))
theorem F49.t12_eq {P : Program} {Q : Post} {e : FA} {w : World} {θ : Tag (F49.t12, Q, e, w)} : cwE P F49.t12 Q e w θ = cwE P (.seq (.region 12 F49.r12.toArray false) (.seq (.region 13 F49.r13.toArray false) (.cond (.tmp 50) (.seq (.region 14 F49.r14.toArray false) (.seq (.region 15 F49.r15.toArray false) .ret)) .skip))) Q e w := rfl
def F49.t5 : Cd := (.block 0 (.loop (.block 1 (.seq (.region 5 F49.r5.toArray false) (.seq (.region 6 F49.r6.toArray false) (.seq (.seq (.region 7 F49.r7.toArray false) (.cond (.tmp 24) (.seq (.region 8 F49.r8.toArray false) (.seq (.region 9 F49.r9.toArray false) (.seq (.region 10 F49.r10.toArray false) (.cond (.tmp 39) (.region 11 F49.r11.toArray false) .skip)))) .skip)) F49.t12))))))
theorem F49.t5_eq {P : Program} {Q : Post} {e : FA} {w : World} {θ : Tag (F49.t5, Q, e, w)} : cwE P F49.t5 Q e w θ = cwE P (.block 0 (.loop (.block 1 (.seq (.region 5 F49.r5.toArray false) (.seq (.region 6 F49.r6.toArray false) (.seq (.seq (.region 7 F49.r7.toArray false) (.cond (.tmp 24) (.seq (.region 8 F49.r8.toArray false) (.seq (.region 9 F49.r9.toArray false) (.seq (.region 10 F49.r10.toArray false) (.cond (.tmp 39) (.region 11 F49.r11.toArray false) .skip)))) .skip)) F49.t12)))))) Q e w := rfl
def F49.code : Cd := (.seq (.region 0 F49.r0.toArray false) (.seq (.region 1 F49.r1.toArray false) (.seq (.seq (.region 2 F49.r2.toArray false) (.cond (.tmp 7) (.seq (.region 3 F49.r3.toArray false) (.region 4 F49.r4.toArray false)) .skip)) F49.t5)))
theorem F49.calls {args : Array Value} {w : World} {R : Ending → World → Prop} (hn : args.size ≤ 59) (h : cwE Tryd.prog F49.code (fnP Tryd.prog #[(.cell 2 62)] R) (entry args) w) : Calls Tryd.prog 49 args w R :=
  calls_of_cwE (types := Tryd.prog.types) follows Tryd.func49 F49.code rfl (by kernel_rfl) hn h

def F50.r0 : List Oper := [
  ⟨(some 2), (.assign (.const (.int .i64 0))), 3, "", #[], none⟩]
def F50.r1 : List Oper := [
  ⟨(some 7), (.move (.tmp 0)), 9, "", #[], none⟩,
  ⟨(some 8), (.range 9 (.tmp 7)), 0, "", #[⟨0, .chain⟩], none⟩]
def F50.r2 : List Oper := [
  ⟨(some 9), (.next (.tmp 8) true), 0, "", #[⟨0, .chain⟩], none⟩,
  ⟨(some 10), (.extract (.tmp 9) 0), 4, "", #[], none⟩]
def F50.r3 : List Oper := [
  ⟨(some 11), (.extract (.tmp 9) 1), 3, "", #[], none⟩,
  ⟨(some 12), (.extract (.tmp 9) 2), 21, "", #[], none⟩,
  ⟨(some 3), (.assign (.tmp 11)), 3, "", #[], none⟩,
  ⟨(some 4), (.assign (.tmp 12)), 21, "", #[], none⟩]
def F50.r4 : List Oper := [
  ⟨(some 13), (.move (.tmp 4)), 21, "", #[], none⟩,
  ⟨(some 14), (.binOp .eql 21 (.tmp 13) (.const (.int .i32 0)) 21), 4, "", #[], none⟩]
def F50.r5 : List Oper := [
  ⟨(some 15), (.move (.tmp 3)), 3, "", #[], none⟩,
  ⟨(some 2), (.assign (.tmp 15)), 3, "", #[], none⟩]
def F50.r6 : List Oper := [
  ⟨(some 16), (.move (.tmp 4)), 21, "", #[], none⟩,
  ⟨(some 17), (.binOp .eql 21 (.tmp 16) (.const (.int .i32 65533)) 21), 4, "", #[], none⟩]
def F50.r7 : List Oper := [
  ⟨(some 19), (.move (.tmp 0)), 9, "", #[], none⟩,
  ⟨(some 20), (.move (.tmp 3)), 3, "", #[], none⟩,
  ⟨(some 21), (.slice 9 (.tmp 19) (some (.tmp 20)) none none), 9, "", #[], none⟩,
  ⟨(some 22), (.call ⟨(.value (.func 61)), #[(.tmp 21)], #[9]⟩), 102, "", #[⟨0, .chain⟩], none⟩,
  ⟨(some 18), (.move (.tmp 22)), 102, "", #[], none⟩,
  ⟨(some 23), (.extract (.tmp 18) 0), 21, "", #[], none⟩,
  ⟨(some 24), (.extract (.tmp 18) 1), 3, "", #[], none⟩,
  ⟨(some 5), (.assign (.tmp 23)), 21, "", #[], none⟩,
  ⟨(some 6), (.assign (.tmp 24)), 3, "", #[], none⟩]
def F50.r8 : List Oper := [
  ⟨(some 25), (.move (.tmp 6)), 3, "", #[], none⟩,
  ⟨(some 26), (.binOp .eql 3 (.tmp 25) (.const (.int .i64 1)) 3), 4, "", #[], none⟩]
def F50.r9 : List Oper := [
  ⟨(some 27), (.move (.tmp 3)), 3, "", #[], none⟩,
  ⟨(some 2), (.assign (.tmp 27)), 3, "", #[], none⟩]
def F50.r10 : List Oper := [
  ⟨(some 2), (.assign (.const (.int .i64 (-1)))), 3, "", #[], none⟩]
def F50.t6 : Cd := (.seq (.region 6 F50.r6.toArray false) (.cond (.tmp 17) (.seq (.region 7 F50.r7.toArray false) (.seq (.region 8 F50.r8.toArray false) (.cond (.tmp 26) (.seq (.region 9 F50.r9.toArray false) .ret) .skip))) .skip))
theorem F50.t6_eq {P : Program} {Q : Post} {e : FA} {w : World} {θ : Tag (F50.t6, Q, e, w)} : cwE P F50.t6 Q e w θ = cwE P (.seq (.region 6 F50.r6.toArray false) (.cond (.tmp 17) (.seq (.region 7 F50.r7.toArray false) (.seq (.region 8 F50.r8.toArray false) (.cond (.tmp 26) (.seq (.region 9 F50.r9.toArray false) .ret) .skip))) .skip)) Q e w := rfl
def F50.t3 : Cd := (.block 1 (.seq (.region 3 F50.r3.toArray false) (.seq (.seq (.region 4 F50.r4.toArray false) (.cond (.tmp 14) (.seq (.region 5 F50.r5.toArray false) .ret) .skip)) F50.t6)))
theorem F50.t3_eq {P : Program} {Q : Post} {e : FA} {w : World} {θ : Tag (F50.t3, Q, e, w)} : cwE P F50.t3 Q e w θ = cwE P (.block 1 (.seq (.region 3 F50.r3.toArray false) (.seq (.seq (.region 4 F50.r4.toArray false) (.cond (.tmp 14) (.seq (.region 5 F50.r5.toArray false) .ret) .skip)) F50.t6))) Q e w := rfl
def F50.t10 : Cd := (.seq (.region 10 F50.r10.toArray false) .ret)
theorem F50.t10_eq {P : Program} {Q : Post} {e : FA} {w : World} {θ : Tag (F50.t10, Q, e, w)} : cwE P F50.t10 Q e w θ = cwE P (.seq (.region 10 F50.r10.toArray false) .ret) Q e w := rfl
def F50.code : Cd := (.seq (.region 0 F50.r0.toArray false) (.seq (.seq (.region 1 F50.r1.toArray false) (.block 0 (.loop (.seq (.region 2 F50.r2.toArray false) (.seq (.cond (.tmp 10) .skip (.exit 0)) F50.t3))))) F50.t10))
theorem F50.calls {args : Array Value} {w : World} {R : Ending → World → Prop} (hn : args.size ≤ 28) (h : cwE Tryd.prog F50.code (fnP Tryd.prog #[(.tmp 2)] R) (entry args) w) : Calls Tryd.prog 50 args w R :=
  calls_of_cwE (types := Tryd.prog.types) follows Tryd.func50 F50.code rfl (by kernel_rfl) hn h

def F51.r0 : List Oper := [
  ⟨(some 4), (.assign (.const (.int .i64 0))), 3, "", #[], none⟩]
def F51.r1 : List Oper := [
  ⟨(some 7), (.move (.tmp 0)), 9, "", #[], none⟩,
  ⟨(some 8), (.move (.tmp 1)), 3, "", #[], none⟩,
  ⟨(some 9), (.call ⟨(.value (.func 62)), #[(.tmp 7), (.tmp 8), (.const (.int .u8 0)), (.const (.int .u8 127))], #[9, 3, 5, 5]⟩), 4, "", #[⟨0, .chain⟩], none⟩]
def F51.r2 : List Oper := [
  ⟨(some 4), (.assign (.const (.int .i64 1))), 3, "", #[], none⟩]
def F51.r3 : List Oper := [
  ⟨(some 10), (.move (.tmp 0)), 9, "", #[], none⟩,
  ⟨(some 11), (.move (.tmp 1)), 3, "", #[], none⟩,
  ⟨(some 12), (.call ⟨(.value (.func 62)), #[(.tmp 10), (.tmp 11), (.const (.int .u8 194)), (.const (.int .u8 223))], #[9, 3, 5, 5]⟩), 4, "", #[⟨0, .chain⟩], none⟩,
  ⟨(some 13), (.move (.tmp 12)), 4, "", #[], none⟩,
  ⟨(some 14), (.move (.tmp 0)), 9, "", #[], (some (13, true))⟩,
  ⟨(some 15), (.move (.tmp 1)), 3, "", #[], (some (13, true))⟩,
  ⟨(some 16), (.binOp .add 3 (.tmp 15) (.const (.int .i64 1)) 3), 3, "", #[], (some (13, true))⟩,
  ⟨(some 17), (.call ⟨(.value (.func 62)), #[(.tmp 14), (.tmp 16), (.const (.int .u8 128)), (.const (.int .u8 191))], #[9, 3, 5, 5]⟩), 4, "", #[⟨0, .chain⟩], (some (13, true))⟩,
  ⟨(some 18), (.pick (.tmp 13) (.tmp 17) (.const (.bool false))), 4, "", #[], none⟩]
def F51.r4 : List Oper := [
  ⟨(some 4), (.assign (.const (.int .i64 2))), 3, "", #[], none⟩]
def F51.r5 : List Oper := [
  ⟨(some 5), (.assign (.const (.int .u8 128))), 5, "", #[], none⟩,
  ⟨(some 6), (.assign (.const (.int .u8 191))), 5, "", #[], none⟩]
def F51.r6 : List Oper := [
  ⟨(some 19), (.move (.tmp 0)), 9, "", #[], none⟩,
  ⟨(some 20), (.move (.tmp 1)), 3, "", #[], none⟩,
  ⟨(some 21), (.call ⟨(.value (.func 62)), #[(.tmp 19), (.tmp 20), (.const (.int .u8 224)), (.const (.int .u8 224))], #[9, 3, 5, 5]⟩), 4, "", #[⟨0, .chain⟩], none⟩]
def F51.r7 : List Oper := [
  ⟨(some 5), (.assign (.const (.int .u8 160))), 5, "", #[], none⟩]
def F51.r8 : List Oper := [
  ⟨(some 22), (.move (.tmp 0)), 9, "", #[], none⟩,
  ⟨(some 23), (.move (.tmp 1)), 3, "", #[], none⟩,
  ⟨(some 24), (.call ⟨(.value (.func 62)), #[(.tmp 22), (.tmp 23), (.const (.int .u8 237)), (.const (.int .u8 237))], #[9, 3, 5, 5]⟩), 4, "", #[⟨0, .chain⟩], none⟩]
def F51.r9 : List Oper := [
  ⟨(some 6), (.assign (.const (.int .u8 159))), 5, "", #[], none⟩]
def F51.r10 : List Oper := [
  ⟨(some 25), (.move (.tmp 0)), 9, "", #[], none⟩,
  ⟨(some 26), (.move (.tmp 1)), 3, "", #[], none⟩,
  ⟨(some 27), (.call ⟨(.value (.func 62)), #[(.tmp 25), (.tmp 26), (.const (.int .u8 224)), (.const (.int .u8 239))], #[9, 3, 5, 5]⟩), 4, "", #[⟨0, .chain⟩], none⟩,
  ⟨(some 28), (.move (.tmp 27)), 4, "", #[], none⟩,
  ⟨(some 29), (.move (.tmp 0)), 9, "", #[], (some (28, true))⟩,
  ⟨(some 30), (.move (.tmp 1)), 3, "", #[], (some (28, true))⟩,
  ⟨(some 31), (.binOp .add 3 (.tmp 30) (.const (.int .i64 1)) 3), 3, "", #[], (some (28, true))⟩,
  ⟨(some 32), (.move (.tmp 5)), 5, "", #[], (some (28, true))⟩,
  ⟨(some 33), (.move (.tmp 6)), 5, "", #[], (some (28, true))⟩,
  ⟨(some 34), (.call ⟨(.value (.func 62)), #[(.tmp 29), (.tmp 31), (.tmp 32), (.tmp 33)], #[9, 3, 5, 5]⟩), 4, "", #[⟨0, .chain⟩], (some (28, true))⟩,
  ⟨(some 35), (.pick (.tmp 28) (.tmp 34) (.const (.bool false))), 4, "", #[], none⟩,
  ⟨(some 36), (.move (.tmp 35)), 4, "", #[], none⟩,
  ⟨(some 37), (.move (.tmp 0)), 9, "", #[], (some (36, true))⟩,
  ⟨(some 38), (.move (.tmp 1)), 3, "", #[], (some (36, true))⟩,
  ⟨(some 39), (.binOp .add 3 (.tmp 38) (.const (.int .i64 2)) 3), 3, "", #[], (some (36, true))⟩,
  ⟨(some 40), (.call ⟨(.value (.func 62)), #[(.tmp 37), (.tmp 39), (.const (.int .u8 128)), (.const (.int .u8 191))], #[9, 3, 5, 5]⟩), 4, "", #[⟨0, .chain⟩], (some (36, true))⟩,
  ⟨(some 41), (.pick (.tmp 36) (.tmp 40) (.const (.bool false))), 4, "", #[], none⟩]
def F51.r11 : List Oper := [
  ⟨(some 4), (.assign (.const (.int .i64 3))), 3, "", #[], none⟩]
def F51.r12 : List Oper := [
  ⟨(some 42), (.move (.tmp 0)), 9, "", #[], none⟩,
  ⟨(some 43), (.move (.tmp 1)), 3, "", #[], none⟩,
  ⟨(some 44), (.call ⟨(.value (.func 62)), #[(.tmp 42), (.tmp 43), (.const (.int .u8 240)), (.const (.int .u8 240))], #[9, 3, 5, 5]⟩), 4, "", #[⟨0, .chain⟩], none⟩]
def F51.r13 : List Oper := [
  ⟨(some 5), (.assign (.const (.int .u8 144))), 5, "", #[], none⟩]
def F51.r14 : List Oper := [
  ⟨(some 45), (.move (.tmp 0)), 9, "", #[], none⟩,
  ⟨(some 46), (.move (.tmp 1)), 3, "", #[], none⟩,
  ⟨(some 47), (.call ⟨(.value (.func 62)), #[(.tmp 45), (.tmp 46), (.const (.int .u8 244)), (.const (.int .u8 244))], #[9, 3, 5, 5]⟩), 4, "", #[⟨0, .chain⟩], none⟩]
def F51.r15 : List Oper := [
  ⟨(some 6), (.assign (.const (.int .u8 143))), 5, "", #[], none⟩]
def F51.r16 : List Oper := [
  ⟨(some 48), (.move (.tmp 0)), 9, "", #[], none⟩,
  ⟨(some 49), (.move (.tmp 1)), 3, "", #[], none⟩,
  ⟨(some 50), (.call ⟨(.value (.func 62)), #[(.tmp 48), (.tmp 49), (.const (.int .u8 240)), (.const (.int .u8 244))], #[9, 3, 5, 5]⟩), 4, "", #[⟨0, .chain⟩], none⟩,
  ⟨(some 51), (.move (.tmp 50)), 4, "", #[], none⟩,
  ⟨(some 52), (.move (.tmp 0)), 9, "", #[], (some (51, true))⟩,
  ⟨(some 53), (.move (.tmp 1)), 3, "", #[], (some (51, true))⟩,
  ⟨(some 54), (.binOp .add 3 (.tmp 53) (.const (.int .i64 1)) 3), 3, "", #[], (some (51, true))⟩,
  ⟨(some 55), (.move (.tmp 5)), 5, "", #[], (some (51, true))⟩,
  ⟨(some 56), (.move (.tmp 6)), 5, "", #[], (some (51, true))⟩,
  ⟨(some 57), (.call ⟨(.value (.func 62)), #[(.tmp 52), (.tmp 54), (.tmp 55), (.tmp 56)], #[9, 3, 5, 5]⟩), 4, "", #[⟨0, .chain⟩], (some (51, true))⟩,
  ⟨(some 58), (.pick (.tmp 51) (.tmp 57) (.const (.bool false))), 4, "", #[], none⟩,
  ⟨(some 59), (.move (.tmp 58)), 4, "", #[], none⟩,
  ⟨(some 60), (.move (.tmp 0)), 9, "", #[], (some (59, true))⟩,
  ⟨(some 61), (.move (.tmp 1)), 3, "", #[], (some (59, true))⟩,
  ⟨(some 62), (.binOp .add 3 (.tmp 61) (.const (.int .i64 2)) 3), 3, "", #[], (some (59, true))⟩,
  ⟨(some 63), (.call ⟨(.value (.func 62)), #[(.tmp 60), (.tmp 62), (.const (.int .u8 128)), (.const (.int .u8 191))], #[9, 3, 5, 5]⟩), 4, "", #[⟨0, .chain⟩], (some (59, true))⟩,
  ⟨(some 64), (.pick (.tmp 59) (.tmp 63) (.const (.bool false))), 4, "", #[], none⟩,
  ⟨(some 65), (.move (.tmp 64)), 4, "", #[], none⟩,
  ⟨(some 66), (.move (.tmp 0)), 9, "", #[], (some (65, true))⟩,
  ⟨(some 67), (.move (.tmp 1)), 3, "", #[], (some (65, true))⟩,
  ⟨(some 68), (.binOp .add 3 (.tmp 67) (.const (.int .i64 3)) 3), 3, "", #[], (some (65, true))⟩,
  ⟨(some 69), (.call ⟨(.value (.func 62)), #[(.tmp 66), (.tmp 68), (.const (.int .u8 128)), (.const (.int .u8 191))], #[9, 3, 5, 5]⟩), 4, "", #[⟨0, .chain⟩], (some (65, true))⟩,
  ⟨(some 70), (.pick (.tmp 65) (.tmp 69) (.const (.bool false))), 4, "", #[], none⟩]
def F51.r17 : List Oper := [
  ⟨(some 4), (.assign (.const (.int .i64 4))), 3, "", #[], none⟩]
def F51.r18 : List Oper := [
  ⟨(some 4), (.assign (.const (.int .i64 0))), 3, "", #[], none⟩]
def F51.t18 : Cd := (.seq (.region 18 F51.r18.toArray false) .ret)
theorem F51.t18_eq {P : Program} {Q : Post} {e : FA} {w : World} {θ : Tag (F51.t18, Q, e, w)} : cwE P F51.t18 Q e w θ = cwE P (.seq (.region 18 F51.r18.toArray false) .ret) Q e w := rfl
def F51.t16 : Cd := (.seq (.seq (.region 16 F51.r16.toArray false) (.cond (.tmp 70) (.seq (.region 17 F51.r17.toArray false) .ret) .skip)) F51.t18)
theorem F51.t16_eq {P : Program} {Q : Post} {e : FA} {w : World} {θ : Tag (F51.t16, Q, e, w)} : cwE P F51.t16 Q e w θ = cwE P (.seq (.seq (.region 16 F51.r16.toArray false) (.cond (.tmp 70) (.seq (.region 17 F51.r17.toArray false) .ret) .skip)) F51.t18) Q e w := rfl
def F51.t14 : Cd := (.seq (.seq (.region 14 F51.r14.toArray false) (.cond (.tmp 47) (.region 15 F51.r15.toArray false) .skip)) F51.t16)
theorem F51.t14_eq {P : Program} {Q : Post} {e : FA} {w : World} {θ : Tag (F51.t14, Q, e, w)} : cwE P F51.t14 Q e w θ = cwE P (.seq (.seq (.region 14 F51.r14.toArray false) (.cond (.tmp 47) (.region 15 F51.r15.toArray false) .skip)) F51.t16) Q e w := rfl
def F51.t12 : Cd := (.seq (.seq (.region 12 F51.r12.toArray false) (.cond (.tmp 44) (.region 13 F51.r13.toArray false) .skip)) F51.t14)
theorem F51.t12_eq {P : Program} {Q : Post} {e : FA} {w : World} {θ : Tag (F51.t12, Q, e, w)} : cwE P F51.t12 Q e w θ = cwE P (.seq (.seq (.region 12 F51.r12.toArray false) (.cond (.tmp 44) (.region 13 F51.r13.toArray false) .skip)) F51.t14) Q e w := rfl
def F51.t10 : Cd := (.seq (.seq (.region 10 F51.r10.toArray false) (.cond (.tmp 41) (.seq (.region 11 F51.r11.toArray false) .ret) .skip)) F51.t12)
theorem F51.t10_eq {P : Program} {Q : Post} {e : FA} {w : World} {θ : Tag (F51.t10, Q, e, w)} : cwE P F51.t10 Q e w θ = cwE P (.seq (.seq (.region 10 F51.r10.toArray false) (.cond (.tmp 41) (.seq (.region 11 F51.r11.toArray false) .ret) .skip)) F51.t12) Q e w := rfl
def F51.t8 : Cd := (.seq (.seq (.region 8 F51.r8.toArray false) (.cond (.tmp 24) (.region 9 F51.r9.toArray false) .skip)) F51.t10)
theorem F51.t8_eq {P : Program} {Q : Post} {e : FA} {w : World} {θ : Tag (F51.t8, Q, e, w)} : cwE P F51.t8 Q e w θ = cwE P (.seq (.seq (.region 8 F51.r8.toArray false) (.cond (.tmp 24) (.region 9 F51.r9.toArray false) .skip)) F51.t10) Q e w := rfl
def F51.t5 : Cd := (.seq (.region 5 F51.r5.toArray false) (.seq (.seq (.region 6 F51.r6.toArray false) (.cond (.tmp 21) (.region 7 F51.r7.toArray false) .skip)) F51.t8))
theorem F51.t5_eq {P : Program} {Q : Post} {e : FA} {w : World} {θ : Tag (F51.t5, Q, e, w)} : cwE P F51.t5 Q e w θ = cwE P (.seq (.region 5 F51.r5.toArray false) (.seq (.seq (.region 6 F51.r6.toArray false) (.cond (.tmp 21) (.region 7 F51.r7.toArray false) .skip)) F51.t8)) Q e w := rfl
def F51.t3 : Cd := (.seq (.seq (.region 3 F51.r3.toArray false) (.cond (.tmp 18) (.seq (.region 4 F51.r4.toArray false) .ret) .skip)) F51.t5)
theorem F51.t3_eq {P : Program} {Q : Post} {e : FA} {w : World} {θ : Tag (F51.t3, Q, e, w)} : cwE P F51.t3 Q e w θ = cwE P (.seq (.seq (.region 3 F51.r3.toArray false) (.cond (.tmp 18) (.seq (.region 4 F51.r4.toArray false) .ret) .skip)) F51.t5) Q e w := rfl
def F51.code : Cd := (.seq (.region 0 F51.r0.toArray false) (.seq (.seq (.region 1 F51.r1.toArray false) (.cond (.tmp 9) (.seq (.region 2 F51.r2.toArray false) .ret) .skip)) F51.t3))
theorem F51.calls {args : Array Value} {w : World} {R : Ending → World → Prop} (hn : args.size ≤ 71) (h : cwE Tryd.prog F51.code (fnP Tryd.prog #[(.tmp 4)] R) (entry args) w) : Calls Tryd.prog 51 args w R :=
  calls_of_cwE (types := Tryd.prog.types) follows Tryd.func51 F51.code rfl (by kernel_rfl) hn h

def F52.r0 : List Oper := [
  ⟨(some 4), (.move (.tmp 0)), 69, "", #[], none⟩,
  ⟨(some 5), (.call ⟨(.value (.func 53)), #[(.tmp 4)], #[69]⟩), 0, "", #[⟨0, .chain⟩], none⟩]
def F52.r1 : List Oper := [
  ⟨(some 6), (.move (.tmp 1)), 3, "", #[], none⟩,
  ⟨(some 7), (.binOp .lss 3 (.tmp 6) (.const (.int .i64 0)) 3), 4, "", #[], none⟩]
def F52.r2 : List Oper := [
  ⟨(some 8), (.makeInterface 9 (.const (.string { data := #[115, 116, 114, 105, 110, 103, 115, 46, 66, 117, 105, 108, 100, 101, 114, 46, 71, 114, 111, 119, 58, 32, 110, 101, 103, 97, 116, 105, 118, 101, 32, 99, 111, 117, 110, 116] }))), 20, "", #[⟨0, .data⟩], none⟩,
  ⟨none, (.panic (.tmp 8)), 0, "", #[⟨0, .chain⟩], none⟩]
def F52.r3 : List Oper := [
  ⟨(some 9), (.move (.tmp 0)), 69, "", #[], none⟩,
  ⟨(some 10), (.nilCheck (.tmp 9)), 0, "", #[], none⟩,
  ⟨(some 11), (.fieldAddr 72 (.tmp 10) 1), 0, "", #[], none⟩,
  ⟨(some 14), (.move (.tmp 0)), 69, "", #[], none⟩,
  ⟨(some 15), (.nilCheck (.tmp 14)), 0, "", #[], none⟩,
  ⟨(some 16), (.fieldAddr 72 (.tmp 15) 1), 0, "", #[], none⟩,
  ⟨(some 20), (.move (.tmp 1)), 3, "", #[], none⟩,
  ⟨(some 12), (.load 70 (.tmp 11)), 70, "", #[⟨0, .data⟩], none⟩,
  ⟨(some 13), (.call ⟨(.builtin .cap), #[(.tmp 12)], #[70]⟩), 3, "", #[], none⟩,
  ⟨(some 17), (.load 70 (.tmp 16)), 70, "", #[⟨0, .data⟩], none⟩,
  ⟨(some 18), (.call ⟨(.builtin .len), #[(.tmp 17)], #[70]⟩), 3, "", #[], none⟩,
  ⟨(some 19), (.binOp .sub 3 (.tmp 13) (.tmp 18) 3), 3, "", #[], none⟩,
  ⟨(some 21), (.binOp .lss 3 (.tmp 19) (.tmp 20) 3), 4, "", #[], none⟩]
def F52.r4 : List Oper := [
  ⟨(some 22), (.move (.tmp 0)), 69, "", #[], none⟩,
  ⟨(some 23), (.move (.tmp 1)), 3, "", #[], none⟩,
  ⟨(some 24), (.call ⟨(.value (.func 63)), #[(.tmp 22), (.tmp 23)], #[69, 3]⟩), 0, "", #[⟨0, .chain⟩], none⟩]
def F52.t3 : Cd := (.seq (.region 3 F52.r3.toArray true) (.cond (.tmp 21) (.region 4 F52.r4.toArray false) .skip))
theorem F52.t3_eq {P : Program} {Q : Post} {e : FA} {w : World} {θ : Tag (F52.t3, Q, e, w)} : cwE P F52.t3 Q e w θ = cwE P (.seq (.region 3 F52.r3.toArray true) (.cond (.tmp 21) (.region 4 F52.r4.toArray false) .skip)) Q e w := rfl
def F52.code : Cd := (.seq (.region 0 F52.r0.toArray false) (.seq (.seq (.region 1 F52.r1.toArray false) (.cond (.tmp 7) (.region 2 F52.r2.toArray false) .skip)) F52.t3))
theorem F52.calls {args : Array Value} {w : World} {R : Ending → World → Prop} (hn : args.size ≤ 25) (h : cwE Tryd.prog F52.code (fnP Tryd.prog #[] R) (entry args) w) : Calls Tryd.prog 52 args w R :=
  calls_of_cwE (types := Tryd.prog.types) follows Tryd.func52 F52.code rfl (by kernel_rfl) hn h

def F53.r0 : List Oper := [
  ⟨(some 2), (.move (.tmp 0)), 69, "", #[], none⟩,
  ⟨(some 3), (.nilCheck (.tmp 2)), 0, "", #[], none⟩,
  ⟨(some 4), (.fieldAddr 72 (.tmp 3) 0), 0, "", #[], none⟩,
  ⟨(some 5), (.load 69 (.tmp 4)), 69, "", #[⟨0, .data⟩], none⟩,
  ⟨(some 6), (.binOp .eql 69 (.tmp 5) (.const (.pointer none)) 69), 4, "", #[], none⟩]
def F53.r1 : List Oper := [
  ⟨(some 7), (.move (.tmp 0)), 69, "", #[], none⟩,
  ⟨(some 8), (.move (.tmp 0)), 69, "", #[], none⟩,
  ⟨(some 9), (.convert 69 105 (.tmp 8)), 105, "", #[], none⟩,
  ⟨(some 10), (.call ⟨(.value (.func 64)), #[(.tmp 9)], #[105]⟩), 105, "", #[⟨0, .chain⟩], none⟩,
  ⟨(some 11), (.convert 105 69 (.tmp 10)), 69, "", #[], none⟩,
  ⟨(some 12), (.nilCheck (.tmp 7)), 0, "", #[], none⟩,
  ⟨(some 13), (.fieldAddr 72 (.tmp 12) 0), 0, "", #[], none⟩,
  ⟨none, (.store 69 (.tmp 13) (.tmp 11)), 0, "", #[⟨0, .chain⟩], none⟩]
def F53.r2 : List Oper := [
  ⟨(some 14), (.move (.tmp 0)), 69, "", #[], none⟩,
  ⟨(some 15), (.nilCheck (.tmp 14)), 0, "", #[], none⟩,
  ⟨(some 16), (.fieldAddr 72 (.tmp 15) 0), 0, "", #[], none⟩,
  ⟨(some 17), (.load 69 (.tmp 16)), 69, "", #[⟨0, .data⟩], none⟩,
  ⟨(some 18), (.move (.tmp 0)), 69, "", #[], none⟩,
  ⟨(some 19), (.binOp .neq 69 (.tmp 17) (.tmp 18) 69), 4, "", #[], none⟩]
def F53.code : Cd := (.seq (.region 0 F53.r0.toArray false) (.cond (.tmp 6) (.region 1 F53.r1.toArray false) (.seq (.region 2 F53.r2.toArray false) (.cond (.tmp 19) (.refuse "(*strings.Builder).copyCheck builder.go:41: unsupported: a written strings.Builder's value in another place: whether the library's copy check passes hangs on where the compiler lays the two") .skip))))
theorem F53.calls {args : Array Value} {w : World} {R : Ending → World → Prop} (hn : args.size ≤ 20) (h : cwE Tryd.prog F53.code (fnP Tryd.prog #[] R) (entry args) w) : Calls Tryd.prog 53 args w R :=
  calls_of_cwE (types := Tryd.prog.types) follows Tryd.func53 F53.code rfl (by kernel_rfl) hn h

def F54.r0 : List Oper := [
  ⟨(some 4), (.assign (.const (.int .i64 0))), 3, "", #[], none⟩]
def F54.r1 : List Oper := [
  ⟨(some 5), (.move (.tmp 0)), 9, "", #[], none⟩,
  ⟨(some 6), (.move (.tmp 1)), 5, "", #[], none⟩,
  ⟨(some 7), (.call ⟨(.value (.func 65)), #[(.tmp 5), (.tmp 6)], #[9, 5]⟩), 3, "", #[⟨0, .chain⟩], none⟩,
  ⟨(some 4), (.assign (.tmp 7)), 3, "", #[], none⟩]
def F54.code : Cd := (.seq (.region 0 F54.r0.toArray false) (.seq (.region 1 F54.r1.toArray false) .ret))
theorem F54.calls {args : Array Value} {w : World} {R : Ending → World → Prop} (hn : args.size ≤ 8) (h : cwE Tryd.prog F54.code (fnP Tryd.prog #[(.tmp 4)] R) (entry args) w) : Calls Tryd.prog 54 args w R :=
  calls_of_cwE (types := Tryd.prog.types) follows Tryd.func54 F54.code rfl (by kernel_rfl) hn h

def F55.r0 : List Oper := [
  ⟨(some 2), (.assign (.const (.int .u8 0))), 5, "", #[], none⟩,
  ⟨(some 3), (.assign (.const (.int .i64 0))), 3, "", #[], none⟩]
def F55.r1 : List Oper := [
  ⟨(some 6), (.move (.tmp 0)), 9, "", #[], none⟩,
  ⟨(some 7), (.binOp .neq 9 (.tmp 6) (.const (.string { data := #[] })) 9), 4, "", #[], none⟩,
  ⟨(some 8), (.move (.tmp 7)), 4, "", #[], none⟩,
  ⟨(some 9), (.move (.tmp 0)), 9, "", #[], (some (8, true))⟩,
  ⟨(some 10), (.index 9 (.tmp 9) (.const (.int .i64 0))), 5, "", #[], (some (8, true))⟩,
  ⟨(some 11), (.binOp .eql 5 (.tmp 10) (.const (.int .u8 92)) 5), 4, "", #[], (some (8, true))⟩,
  ⟨(some 12), (.move (.tmp 11)), 4, "", #[], (some (8, true))⟩,
  ⟨(some 13), (.move (.tmp 0)), 9, "", #[], (some (12, false))⟩,
  ⟨(some 14), (.index 9 (.tmp 13) (.const (.int .i64 0))), 5, "", #[], (some (12, false))⟩,
  ⟨(some 15), (.binOp .eql 5 (.tmp 14) (.const (.int .u8 39)) 5), 4, "", #[], (some (12, false))⟩,
  ⟨(some 16), (.pick (.tmp 12) (.const (.bool true)) (.tmp 15)), 4, "", #[], (some (8, true))⟩,
  ⟨(some 17), (.pick (.tmp 8) (.tmp 16) (.const (.bool false))), 4, "", #[], none⟩]
def F55.r2 : List Oper := [
  ⟨(some 18), (.move (.tmp 0)), 9, "", #[], none⟩,
  ⟨(some 19), (.index 9 (.tmp 18) (.const (.int .i64 0))), 5, "", #[], none⟩,
  ⟨(some 2), (.assign (.tmp 19)), 5, "", #[], none⟩,
  ⟨(some 3), (.assign (.const (.int .i64 1))), 3, "", #[], none⟩]
def F55.r3 : List Oper := [
  ⟨(some 20), (.move (.tmp 0)), 9, "", #[], none⟩,
  ⟨(some 21), (.call ⟨(.builtin .len), #[(.tmp 20)], #[9]⟩), 3, "", #[], none⟩,
  ⟨(some 22), (.binOp .geq 3 (.tmp 21) (.const (.int .i64 3)) 3), 4, "", #[], none⟩,
  ⟨(some 23), (.move (.tmp 22)), 4, "", #[], none⟩,
  ⟨(some 24), (.move (.tmp 0)), 9, "", #[], (some (23, true))⟩,
  ⟨(some 25), (.index 9 (.tmp 24) (.const (.int .i64 0))), 5, "", #[], (some (23, true))⟩,
  ⟨(some 26), (.binOp .eql 5 (.tmp 25) (.const (.int .u8 120)) 5), 4, "", #[], (some (23, true))⟩,
  ⟨(some 27), (.pick (.tmp 23) (.tmp 26) (.const (.bool false))), 4, "", #[], none⟩]
def F55.r4 : List Oper := [
  ⟨(some 28), (.move (.tmp 0)), 9, "", #[], none⟩,
  ⟨(some 29), (.index 9 (.tmp 28) (.const (.int .i64 1))), 5, "", #[], none⟩,
  ⟨(some 31), (.move (.tmp 0)), 9, "", #[], none⟩,
  ⟨(some 32), (.index 9 (.tmp 31) (.const (.int .i64 2))), 5, "", #[], none⟩,
  ⟨(some 30), (.call ⟨(.value (.func 54)), #[(.const (.string { data := #[48, 49, 50, 51, 52, 53, 54, 55, 56, 57, 97, 98, 99, 100, 101, 102] })), (.tmp 29)], #[9, 5]⟩), 3, "", #[⟨2, .chain⟩], none⟩,
  ⟨(some 33), (.call ⟨(.value (.func 54)), #[(.const (.string { data := #[48, 49, 50, 51, 52, 53, 54, 55, 56, 57, 97, 98, 99, 100, 101, 102] })), (.tmp 32)], #[9, 5]⟩), 3, "", #[⟨5, .chain⟩], none⟩,
  ⟨(some 4), (.assign (.tmp 30)), 3, "", #[], none⟩,
  ⟨(some 5), (.assign (.tmp 33)), 3, "", #[], none⟩]
def F55.r5 : List Oper := [
  ⟨(some 34), (.move (.tmp 4)), 3, "", #[], none⟩,
  ⟨(some 35), (.binOp .geq 3 (.tmp 34) (.const (.int .i64 0)) 3), 4, "", #[], none⟩,
  ⟨(some 36), (.move (.tmp 35)), 4, "", #[], none⟩,
  ⟨(some 37), (.move (.tmp 5)), 3, "", #[], (some (36, true))⟩,
  ⟨(some 38), (.binOp .geq 3 (.tmp 37) (.const (.int .i64 0)) 3), 4, "", #[], (some (36, true))⟩,
  ⟨(some 39), (.pick (.tmp 36) (.tmp 38) (.const (.bool false))), 4, "", #[], none⟩]
def F55.r6 : List Oper := [
  ⟨(some 40), (.move (.tmp 4)), 3, "", #[], none⟩,
  ⟨(some 41), (.binOp .shl 3 (.tmp 40) (.const (.int .u64 4)) 79), 3, "", #[], none⟩,
  ⟨(some 42), (.move (.tmp 5)), 3, "", #[], none⟩,
  ⟨(some 43), (.binOp .or 3 (.tmp 41) (.tmp 42) 3), 3, "", #[], none⟩,
  ⟨(some 44), (.convert 3 5 (.tmp 43)), 5, "", #[], none⟩,
  ⟨(some 2), (.assign (.tmp 44)), 5, "", #[], none⟩,
  ⟨(some 3), (.assign (.const (.int .i64 3))), 3, "", #[], none⟩]
def F55.r7 : List Oper := [
  ⟨(some 45), (.build 82 #[]), 82, "", #[], none⟩,
  ⟨(some 46), (.makeInterface 82 (.tmp 45)), 20, "", #[⟨0, .data⟩], none⟩,
  ⟨none, (.panic (.tmp 46)), 0, "", #[⟨0, .chain⟩], none⟩]
def F55.t7 : Cd := (.region 7 F55.r7.toArray false)
theorem F55.t7_eq {P : Program} {Q : Post} {e : FA} {w : World} {θ : Tag (F55.t7, Q, e, w)} : cwE P F55.t7 Q e w θ = cwE P (.region 7 F55.r7.toArray false) Q e w := rfl
def F55.t3 : Cd := (.seq (.seq (.region 3 F55.r3.toArray false) (.cond (.tmp 27) (.seq (.region 4 F55.r4.toArray true) (.seq (.region 5 F55.r5.toArray false) (.cond (.tmp 39) (.seq (.region 6 F55.r6.toArray false) .ret) .skip))) .skip)) F55.t7)
theorem F55.t3_eq {P : Program} {Q : Post} {e : FA} {w : World} {θ : Tag (F55.t3, Q, e, w)} : cwE P F55.t3 Q e w θ = cwE P (.seq (.seq (.region 3 F55.r3.toArray false) (.cond (.tmp 27) (.seq (.region 4 F55.r4.toArray true) (.seq (.region 5 F55.r5.toArray false) (.cond (.tmp 39) (.seq (.region 6 F55.r6.toArray false) .ret) .skip))) .skip)) F55.t7) Q e w := rfl
def F55.code : Cd := (.seq (.region 0 F55.r0.toArray false) (.seq (.seq (.region 1 F55.r1.toArray false) (.cond (.tmp 17) (.seq (.region 2 F55.r2.toArray false) .ret) .skip)) F55.t3))
theorem F55.calls {args : Array Value} {w : World} {R : Ending → World → Prop} (hn : args.size ≤ 47) (h : cwE Tryd.prog F55.code (fnP Tryd.prog #[(.tmp 2), (.tmp 3)] R) (entry args) w) : Calls Tryd.prog 55 args w R :=
  calls_of_cwE (types := Tryd.prog.types) follows Tryd.func55 F55.code rfl (by kernel_rfl) hn h

def F56.r0 : List Oper := [
  ⟨(some 4), (.assign (.const (.slice none 0 0))), 24, "", #[], none⟩]
def F56.r1 : List Oper := [
  ⟨(some 10), (.move (.tmp 0)), 9, "", #[], none⟩,
  ⟨(some 11), (.call ⟨(.value (.func 66)), #[(.tmp 10)], #[9]⟩), 3, "", #[⟨0, .chain⟩], none⟩,
  ⟨(some 5), (.assign (.tmp 11)), 3, "", #[], none⟩]
def F56.r2 : List Oper := [
  ⟨(some 12), (.move (.tmp 1)), 3, "", #[], none⟩,
  ⟨(some 13), (.binOp .lss 3 (.tmp 12) (.const (.int .i64 0)) 3), 4, "", #[], none⟩,
  ⟨(some 14), (.move (.tmp 13)), 4, "", #[], none⟩,
  ⟨(some 15), (.move (.tmp 1)), 3, "", #[], (some (14, false))⟩,
  ⟨(some 16), (.move (.tmp 5)), 3, "", #[], (some (14, false))⟩,
  ⟨(some 17), (.binOp .gtr 3 (.tmp 15) (.tmp 16) 3), 4, "", #[], (some (14, false))⟩,
  ⟨(some 18), (.pick (.tmp 14) (.const (.bool true)) (.tmp 17)), 4, "", #[], none⟩]
def F56.r3 : List Oper := [
  ⟨(some 19), (.move (.tmp 5)), 3, "", #[], none⟩,
  ⟨(some 1), (.assign (.tmp 19)), 3, "", #[], none⟩]
def F56.r4 : List Oper := [
  ⟨(some 20), (.move (.tmp 1)), 3, "", #[], none⟩,
  ⟨(some 21), (.makeSlice 24 (.tmp 20) (.tmp 20)), 24, "", #[⟨0, .chain⟩], none⟩,
  ⟨(some 6), (.assign (.tmp 21)), 24, "", #[], none⟩]
def F56.r5 : List Oper := [
  ⟨(some 7), (.assign (.const (.int .i64 0))), 3, "", #[], none⟩]
def F56.r6 : List Oper := [
  ⟨(some 22), (.move (.tmp 7)), 3, "", #[], none⟩,
  ⟨(some 23), (.move (.tmp 1)), 3, "", #[], none⟩,
  ⟨(some 24), (.binOp .sub 3 (.tmp 23) (.const (.int .i64 1)) 3), 3, "", #[], none⟩,
  ⟨(some 25), (.binOp .lss 3 (.tmp 22) (.tmp 24) 3), 4, "", #[], none⟩]
def F56.r8 : List Oper := [
  ⟨(some 29), (.move (.tmp 0)), 9, "", #[], none⟩,
  ⟨(some 30), (.call ⟨(.value (.func 61)), #[(.tmp 29)], #[9]⟩), 102, "", #[⟨0, .chain⟩], none⟩,
  ⟨(some 28), (.move (.tmp 30)), 102, "", #[], none⟩,
  ⟨(some 31), (.extract (.tmp 28) 0), 21, "", #[], none⟩,
  ⟨(some 32), (.extract (.tmp 28) 1), 3, "", #[], none⟩,
  ⟨(some 8), (.assign (.tmp 31)), 21, "", #[], none⟩,
  ⟨(some 9), (.assign (.tmp 32)), 3, "", #[], none⟩]
def F56.r9 : List Oper := [
  ⟨(some 33), (.move (.tmp 6)), 24, "", #[], none⟩,
  ⟨(some 34), (.move (.tmp 7)), 3, "", #[], none⟩,
  ⟨(some 35), (.move (.tmp 0)), 9, "", #[], none⟩,
  ⟨(some 36), (.move (.tmp 9)), 3, "", #[], none⟩,
  ⟨(some 37), (.slice 9 (.tmp 35) none (some (.tmp 36)) none), 9, "", #[], none⟩,
  ⟨(some 38), (.indexAddr 24 (.tmp 33) (.tmp 34)), 0, "", #[], none⟩,
  ⟨none, (.store 9 (.tmp 38) (.tmp 37)), 0, "", #[⟨0, .chain⟩], none⟩]
def F56.r10 : List Oper := [
  ⟨(some 39), (.move (.tmp 0)), 9, "", #[], none⟩,
  ⟨(some 40), (.move (.tmp 9)), 3, "", #[], none⟩,
  ⟨(some 41), (.slice 9 (.tmp 39) (some (.tmp 40)) none none), 9, "", #[], none⟩,
  ⟨(some 0), (.assign (.tmp 41)), 9, "", #[], none⟩]
def F56.r7 : List Oper := [
  ⟨(some 26), (.move (.tmp 7)), 3, "", #[], none⟩,
  ⟨(some 27), (.binOp .add 3 (.tmp 26) (.const (.int .i64 1)) 3), 3, "", #[], none⟩,
  ⟨(some 7), (.assign (.tmp 27)), 3, "", #[], none⟩]
def F56.r11 : List Oper := [
  ⟨(some 42), (.move (.tmp 1)), 3, "", #[], none⟩,
  ⟨(some 43), (.binOp .gtr 3 (.tmp 42) (.const (.int .i64 0)) 3), 4, "", #[], none⟩]
def F56.r12 : List Oper := [
  ⟨(some 44), (.move (.tmp 6)), 24, "", #[], none⟩,
  ⟨(some 45), (.move (.tmp 1)), 3, "", #[], none⟩,
  ⟨(some 46), (.binOp .sub 3 (.tmp 45) (.const (.int .i64 1)) 3), 3, "", #[], none⟩,
  ⟨(some 47), (.move (.tmp 0)), 9, "", #[], none⟩,
  ⟨(some 48), (.indexAddr 24 (.tmp 44) (.tmp 46)), 0, "", #[], none⟩,
  ⟨none, (.store 9 (.tmp 48) (.tmp 47)), 0, "", #[⟨0, .chain⟩], none⟩]
def F56.r13 : List Oper := [
  ⟨(some 49), (.move (.tmp 6)), 24, "", #[], none⟩,
  ⟨(some 4), (.assign (.tmp 49)), 24, "", #[], none⟩]
def F56.t7 : Cd := (.region 7 F56.r7.toArray false)
theorem F56.t7_eq {P : Program} {Q : Post} {e : FA} {w : World} {θ : Tag (F56.t7, Q, e, w)} : cwE P F56.t7 Q e w θ = cwE P (.region 7 F56.r7.toArray false) Q e w := rfl
def F56.t8 : Cd := (.seq (.block 1 (.seq (.region 8 F56.r8.toArray false) (.seq (.region 9 F56.r9.toArray false) (.region 10 F56.r10.toArray false)))) F56.t7)
theorem F56.t8_eq {P : Program} {Q : Post} {e : FA} {w : World} {θ : Tag (F56.t8, Q, e, w)} : cwE P F56.t8 Q e w θ = cwE P (.seq (.block 1 (.seq (.region 8 F56.r8.toArray false) (.seq (.region 9 F56.r9.toArray false) (.region 10 F56.r10.toArray false)))) F56.t7) Q e w := rfl
def F56.t13 : Cd := (.seq (.region 13 F56.r13.toArray false) .ret)
theorem F56.t13_eq {P : Program} {Q : Post} {e : FA} {w : World} {θ : Tag (F56.t13, Q, e, w)} : cwE P F56.t13 Q e w θ = cwE P (.seq (.region 13 F56.r13.toArray false) .ret) Q e w := rfl
def F56.t11 : Cd := (.seq (.seq (.region 11 F56.r11.toArray false) (.cond (.tmp 43) (.region 12 F56.r12.toArray false) .skip)) F56.t13)
theorem F56.t11_eq {P : Program} {Q : Post} {e : FA} {w : World} {θ : Tag (F56.t11, Q, e, w)} : cwE P F56.t11 Q e w θ = cwE P (.seq (.seq (.region 11 F56.r11.toArray false) (.cond (.tmp 43) (.region 12 F56.r12.toArray false) .skip)) F56.t13) Q e w := rfl
def F56.t4 : Cd := (.seq (.region 4 F56.r4.toArray false) (.seq (.seq (.region 5 F56.r5.toArray false) (.block 0 (.loop (.seq (.seq (.region 6 F56.r6.toArray false) (.cond (.tmp 25) .skip (.exit 0))) F56.t8)))) F56.t11))
theorem F56.t4_eq {P : Program} {Q : Post} {e : FA} {w : World} {θ : Tag (F56.t4, Q, e, w)} : cwE P F56.t4 Q e w θ = cwE P (.seq (.region 4 F56.r4.toArray false) (.seq (.seq (.region 5 F56.r5.toArray false) (.block 0 (.loop (.seq (.seq (.region 6 F56.r6.toArray false) (.cond (.tmp 25) .skip (.exit 0))) F56.t8)))) F56.t11)) Q e w := rfl
def F56.code : Cd := (.seq (.region 0 F56.r0.toArray false) (.seq (.region 1 F56.r1.toArray false) (.seq (.seq (.region 2 F56.r2.toArray false) (.cond (.tmp 18) (.region 3 F56.r3.toArray false) .skip)) F56.t4)))
theorem F56.calls {args : Array Value} {w : World} {R : Ending → World → Prop} (hn : args.size ≤ 50) (h : cwE Tryd.prog F56.code (fnP Tryd.prog #[(.tmp 4)] R) (entry args) w) : Calls Tryd.prog 56 args w R :=
  calls_of_cwE (types := Tryd.prog.types) follows Tryd.func56 F56.code rfl (by kernel_rfl) hn h

def F57.r0 : List Oper := [
  ⟨(some 4), (.assign (.const (.int .i64 0))), 3, "", #[], none⟩]
def F57.r1 : List Oper := [
  ⟨(some 7), (.move (.tmp 1)), 9, "", #[], none⟩,
  ⟨(some 8), (.call ⟨(.builtin .len), #[(.tmp 7)], #[9]⟩), 3, "", #[], none⟩,
  ⟨(some 9), (.binOp .eql 3 (.tmp 8) (.const (.int .i64 0)) 3), 4, "", #[], none⟩]
def F57.r2 : List Oper := [
  ⟨(some 10), (.move (.tmp 0)), 9, "", #[], none⟩,
  ⟨(some 11), (.call ⟨(.value (.func 66)), #[(.tmp 10)], #[9]⟩), 3, "", #[⟨0, .chain⟩], none⟩,
  ⟨(some 12), (.binOp .add 3 (.tmp 11) (.const (.int .i64 1)) 3), 3, "", #[], none⟩,
  ⟨(some 4), (.assign (.tmp 12)), 3, "", #[], none⟩]
def F57.r3 : List Oper := [
  ⟨(some 13), (.move (.tmp 1)), 9, "", #[], none⟩,
  ⟨(some 14), (.call ⟨(.builtin .len), #[(.tmp 13)], #[9]⟩), 3, "", #[], none⟩,
  ⟨(some 15), (.binOp .eql 3 (.tmp 14) (.const (.int .i64 1)) 3), 4, "", #[], none⟩]
def F57.r4 : List Oper := [
  ⟨(some 16), (.move (.tmp 0)), 9, "", #[], none⟩,
  ⟨(some 17), (.move (.tmp 1)), 9, "", #[], none⟩,
  ⟨(some 18), (.index 9 (.tmp 17) (.const (.int .i64 0))), 5, "", #[], none⟩,
  ⟨(some 19), (.call ⟨(.value (.func 67)), #[(.tmp 16), (.tmp 18)], #[9, 5]⟩), 3, "", #[⟨0, .chain⟩], none⟩,
  ⟨(some 4), (.assign (.tmp 19)), 3, "", #[], none⟩]
def F57.r5 : List Oper := [
  ⟨(some 5), (.assign (.const (.int .i64 0))), 3, "", #[], none⟩]
def F57.r6 : List Oper := [
  ⟨(some 20), (.move (.tmp 0)), 9, "", #[], none⟩,
  ⟨(some 21), (.move (.tmp 1)), 9, "", #[], none⟩,
  ⟨(some 22), (.call ⟨(.value (.func 58)), #[(.tmp 20), (.tmp 21)], #[9, 9]⟩), 3, "", #[⟨0, .chain⟩], none⟩,
  ⟨(some 6), (.assign (.tmp 22)), 3, "", #[], none⟩]
def F57.r7 : List Oper := [
  ⟨(some 23), (.move (.tmp 6)), 3, "", #[], none⟩,
  ⟨(some 24), (.binOp .eql 3 (.tmp 23) (.const (.int .i64 (-1))) 3), 4, "", #[], none⟩]
def F57.r8 : List Oper := [
  ⟨(some 25), (.move (.tmp 5)), 3, "", #[], none⟩,
  ⟨(some 4), (.assign (.tmp 25)), 3, "", #[], none⟩]
def F57.r9 : List Oper := [
  ⟨(some 26), (.move (.tmp 5)), 3, "", #[], none⟩,
  ⟨(some 27), (.binOp .add 3 (.tmp 26) (.const (.int .i64 1)) 3), 3, "", #[], none⟩,
  ⟨(some 5), (.assign (.tmp 27)), 3, "", #[], none⟩]
def F57.r10 : List Oper := [
  ⟨(some 28), (.move (.tmp 0)), 9, "", #[], none⟩,
  ⟨(some 29), (.move (.tmp 6)), 3, "", #[], none⟩,
  ⟨(some 30), (.move (.tmp 1)), 9, "", #[], none⟩,
  ⟨(some 31), (.call ⟨(.builtin .len), #[(.tmp 30)], #[9]⟩), 3, "", #[], none⟩,
  ⟨(some 32), (.binOp .add 3 (.tmp 29) (.tmp 31) 3), 3, "", #[], none⟩,
  ⟨(some 33), (.slice 9 (.tmp 28) (some (.tmp 32)) none none), 9, "", #[], none⟩,
  ⟨(some 0), (.assign (.tmp 33)), 9, "", #[], none⟩]
def F57.t9 : Cd := (.seq (.region 9 F57.r9.toArray false) (.region 10 F57.r10.toArray false))
theorem F57.t9_eq {P : Program} {Q : Post} {e : FA} {w : World} {θ : Tag (F57.t9, Q, e, w)} : cwE P F57.t9 Q e w θ = cwE P (.seq (.region 9 F57.r9.toArray false) (.region 10 F57.r10.toArray false)) Q e w := rfl
def F57.t5 : Cd := (.seq (.region 5 F57.r5.toArray false) (.block 0 (.loop (.block 1 (.seq (.region 6 F57.r6.toArray false) (.seq (.seq (.region 7 F57.r7.toArray false) (.cond (.tmp 24) (.seq (.region 8 F57.r8.toArray false) .ret) .skip)) F57.t9))))))
theorem F57.t5_eq {P : Program} {Q : Post} {e : FA} {w : World} {θ : Tag (F57.t5, Q, e, w)} : cwE P F57.t5 Q e w θ = cwE P (.seq (.region 5 F57.r5.toArray false) (.block 0 (.loop (.block 1 (.seq (.region 6 F57.r6.toArray false) (.seq (.seq (.region 7 F57.r7.toArray false) (.cond (.tmp 24) (.seq (.region 8 F57.r8.toArray false) .ret) .skip)) F57.t9)))))) Q e w := rfl
def F57.t3 : Cd := (.seq (.seq (.region 3 F57.r3.toArray false) (.cond (.tmp 15) (.seq (.region 4 F57.r4.toArray false) .ret) .skip)) F57.t5)
theorem F57.t3_eq {P : Program} {Q : Post} {e : FA} {w : World} {θ : Tag (F57.t3, Q, e, w)} : cwE P F57.t3 Q e w θ = cwE P (.seq (.seq (.region 3 F57.r3.toArray false) (.cond (.tmp 15) (.seq (.region 4 F57.r4.toArray false) .ret) .skip)) F57.t5) Q e w := rfl
def F57.code : Cd := (.seq (.region 0 F57.r0.toArray false) (.seq (.seq (.region 1 F57.r1.toArray false) (.cond (.tmp 9) (.seq (.region 2 F57.r2.toArray false) .ret) .skip)) F57.t3))
theorem F57.calls {args : Array Value} {w : World} {R : Ending → World → Prop} (hn : args.size ≤ 34) (h : cwE Tryd.prog F57.code (fnP Tryd.prog #[(.tmp 4)] R) (entry args) w) : Calls Tryd.prog 57 args w R :=
  calls_of_cwE (types := Tryd.prog.types) follows Tryd.func57 F57.code rfl (by kernel_rfl) hn h

def F58.r0 : List Oper := [
  ⟨(some 4), (.assign (.const (.int .i64 0))), 3, "", #[], none⟩]
def F58.r1 : List Oper := [
  ⟨(some 5), (.move (.tmp 0)), 9, "", #[], none⟩,
  ⟨(some 6), (.move (.tmp 1)), 9, "", #[], none⟩,
  ⟨(some 7), (.call ⟨(.value (.func 68)), #[(.tmp 5), (.tmp 6)], #[9, 9]⟩), 3, "", #[⟨0, .chain⟩], none⟩,
  ⟨(some 4), (.assign (.tmp 7)), 3, "", #[], none⟩]
def F58.code : Cd := (.seq (.region 0 F58.r0.toArray false) (.seq (.region 1 F58.r1.toArray false) .ret))
theorem F58.calls {args : Array Value} {w : World} {R : Ending → World → Prop} (hn : args.size ≤ 8) (h : cwE Tryd.prog F58.code (fnP Tryd.prog #[(.tmp 4)] R) (entry args) w) : Calls Tryd.prog 58 args w R :=
  calls_of_cwE (types := Tryd.prog.types) follows Tryd.func58 F58.code rfl (by kernel_rfl) hn h

def F59.r0 : List Oper := [
  ⟨(some 2), (.assign (.const (.int .i32 0))), 21, "", #[], none⟩]
def F59.r1 : List Oper := [
  ⟨(some 3), (.move (.tmp 0)), 87, "", #[], none⟩,
  ⟨(some 4), (.call ⟨(.value (.func 47)), #[(.tmp 3)], #[87]⟩), 4, "", #[⟨0, .chain⟩], none⟩,
  ⟨(some 5), (.unOp .not 4 (.tmp 4)), 4, "", #[], none⟩]
def F59.r2 : List Oper := [
  ⟨(some 6), (.build 86 #[]), 86, "", #[], none⟩,
  ⟨(some 7), (.makeInterface 86 (.tmp 6)), 20, "", #[⟨0, .data⟩], none⟩,
  ⟨none, (.panic (.tmp 7)), 0, "", #[⟨0, .chain⟩], none⟩]
def F59.r3 : List Oper := [
  ⟨(some 8), (.move (.tmp 0)), 87, "", #[], none⟩,
  ⟨(some 9), (.nilCheck (.tmp 8)), 0, "", #[], none⟩,
  ⟨(some 10), (.fieldAddr 90 (.tmp 9) 0), 0, "", #[], none⟩,
  ⟨(some 12), (.move (.tmp 0)), 87, "", #[], none⟩,
  ⟨(some 13), (.nilCheck (.tmp 12)), 0, "", #[], none⟩,
  ⟨(some 14), (.fieldAddr 90 (.tmp 13) 1), 0, "", #[], none⟩,
  ⟨(some 11), (.load 88 (.tmp 10)), 88, "", #[⟨0, .data⟩], none⟩,
  ⟨(some 15), (.load 3 (.tmp 14)), 3, "", #[⟨0, .data⟩], none⟩,
  ⟨(some 16), (.indexAddr 88 (.tmp 11) (.tmp 15)), 0, "", #[], none⟩,
  ⟨(some 17), (.load 21 (.tmp 16)), 21, "", #[⟨0, .data⟩], none⟩,
  ⟨(some 2), (.assign (.tmp 17)), 21, "", #[], none⟩]
def F59.t3 : Cd := (.seq (.region 3 F59.r3.toArray true) .ret)
theorem F59.t3_eq {P : Program} {Q : Post} {e : FA} {w : World} {θ : Tag (F59.t3, Q, e, w)} : cwE P F59.t3 Q e w θ = cwE P (.seq (.region 3 F59.r3.toArray true) .ret) Q e w := rfl
def F59.code : Cd := (.seq (.region 0 F59.r0.toArray false) (.seq (.seq (.region 1 F59.r1.toArray false) (.cond (.tmp 5) (.region 2 F59.r2.toArray false) .skip)) F59.t3))
theorem F59.calls {args : Array Value} {w : World} {R : Ending → World → Prop} (hn : args.size ≤ 18) (h : cwE Tryd.prog F59.code (fnP Tryd.prog #[(.tmp 2)] R) (entry args) w) : Calls Tryd.prog 59 args w R :=
  calls_of_cwE (types := Tryd.prog.types) follows Tryd.func59 F59.code rfl (by kernel_rfl) hn h

def F60.r0 : List Oper := [
  ⟨(some 2), (.assign (.const (.int .i32 0))), 21, "", #[], none⟩]
def F60.r1 : List Oper := [
  ⟨(some 4), (.move (.tmp 0)), 87, "", #[], none⟩,
  ⟨(some 5), (.call ⟨(.value (.func 48)), #[(.tmp 4)], #[87]⟩), 21, "", #[⟨0, .chain⟩], none⟩,
  ⟨(some 3), (.assign (.tmp 5)), 21, "", #[], none⟩]
def F60.r2 : List Oper := [
  ⟨(some 6), (.move (.tmp 3)), 21, "", #[], none⟩]
def F60.r3 : List Oper := [
  ⟨(some 8), (.binOp .eql 21 (.tmp 6) (.const (.int .i32 92)) 21), 4, "", #[], none⟩,
  ⟨(some 7), (.assign (.tmp 8)), 4, "", #[], none⟩]
def F60.r4 : List Oper := [
  ⟨(some 9), (.move (.tmp 0)), 87, "", #[], none⟩,
  ⟨(some 10), (.call ⟨(.value (.func 48)), #[(.tmp 9)], #[87]⟩), 21, "", #[⟨0, .chain⟩], none⟩,
  ⟨(some 2), (.assign (.tmp 10)), 21, "", #[], none⟩]
def F60.r5 : List Oper := [
  ⟨(some 12), (.binOp .eql 21 (.tmp 6) (.const (.int .i32 93)) 21), 4, "", #[], none⟩,
  ⟨(some 11), (.assign (.tmp 12)), 4, "", #[], none⟩]
def F60.r6 : List Oper := [
  ⟨(some 13), (.binOp .eql 21 (.tmp 6) (.const (.int .i32 45)) 21), 4, "", #[], none⟩,
  ⟨(some 11), (.assign (.tmp 13)), 4, "", #[], none⟩]
def F60.r7 : List Oper := [
  ⟨(some 14), (.build 86 #[]), 86, "", #[], none⟩,
  ⟨(some 15), (.makeInterface 86 (.tmp 14)), 20, "", #[⟨0, .data⟩], none⟩,
  ⟨none, (.panic (.tmp 15)), 0, "", #[⟨0, .chain⟩], none⟩]
def F60.r8 : List Oper := [
  ⟨(some 16), (.move (.tmp 3)), 21, "", #[], none⟩,
  ⟨(some 2), (.assign (.tmp 16)), 21, "", #[], none⟩]
def F60.t7 : Cd := (.cond (.tmp 11) (.region 7 F60.r7.toArray false) .skip)
theorem F60.t7_eq {P : Program} {Q : Post} {e : FA} {w : World} {θ : Tag (F60.t7, Q, e, w)} : cwE P F60.t7 Q e w θ = cwE P (.cond (.tmp 11) (.region 7 F60.r7.toArray false) .skip) Q e w := rfl
def F60.t8 : Cd := (.seq (.region 8 F60.r8.toArray false) .ret)
theorem F60.t8_eq {P : Program} {Q : Post} {e : FA} {w : World} {θ : Tag (F60.t8, Q, e, w)} : cwE P F60.t8 Q e w θ = cwE P (.seq (.region 8 F60.r8.toArray false) .ret) Q e w := rfl
def F60.code : Cd := (.seq (.region 0 F60.r0.toArray false) (.seq (.region 1 F60.r1.toArray false) (.seq (.seq (.region 2 F60.r2.toArray false) (.block 0 (.seq (.region 3 F60.r3.toArray false) (.cond (.tmp 7) (.seq (.region 4 F60.r4.toArray false) .ret) (.seq (.seq (.region 5 F60.r5.toArray false) (.cond (.tmp 11) .skip (.region 6 F60.r6.toArray false))) F60.t7))))) F60.t8)))
theorem F60.calls {args : Array Value} {w : World} {R : Ending → World → Prop} (hn : args.size ≤ 17) (h : cwE Tryd.prog F60.code (fnP Tryd.prog #[(.tmp 2)] R) (entry args) w) : Calls Tryd.prog 60 args w R :=
  calls_of_cwE (types := Tryd.prog.types) follows Tryd.func60 F60.code rfl (by kernel_rfl) hn h

def F61.r0 : List Oper := [
  ⟨(some 2), (.assign (.const (.int .i32 0))), 21, "", #[], none⟩,
  ⟨(some 3), (.assign (.const (.int .i64 0))), 3, "", #[], none⟩]
def F61.r1 : List Oper := [
  ⟨(some 4), (.move (.tmp 0)), 9, "", #[], none⟩,
  ⟨(some 5), (.binOp .neq 9 (.tmp 4) (.const (.string { data := #[] })) 9), 4, "", #[], none⟩,
  ⟨(some 6), (.move (.tmp 5)), 4, "", #[], none⟩,
  ⟨(some 7), (.move (.tmp 0)), 9, "", #[], (some (6, true))⟩,
  ⟨(some 8), (.index 9 (.tmp 7) (.const (.int .i64 0))), 5, "", #[], (some (6, true))⟩,
  ⟨(some 9), (.binOp .lss 5 (.tmp 8) (.const (.int .u8 128)) 5), 4, "", #[], (some (6, true))⟩,
  ⟨(some 10), (.pick (.tmp 6) (.tmp 9) (.const (.bool false))), 4, "", #[], none⟩]
def F61.r2 : List Oper := [
  ⟨(some 11), (.move (.tmp 0)), 9, "", #[], none⟩,
  ⟨(some 12), (.index 9 (.tmp 11) (.const (.int .i64 0))), 5, "", #[], none⟩,
  ⟨(some 13), (.convert 5 21 (.tmp 12)), 21, "", #[], none⟩,
  ⟨(some 2), (.assign (.tmp 13)), 21, "", #[], none⟩,
  ⟨(some 3), (.assign (.const (.int .i64 1))), 3, "", #[], none⟩]
def F61.r3 : List Oper := [
  ⟨(some 15), (.move (.tmp 0)), 9, "", #[], none⟩,
  ⟨(some 16), (.call ⟨(.value (.func 69)), #[(.tmp 15)], #[9]⟩), 102, "", #[⟨0, .chain⟩], none⟩,
  ⟨(some 14), (.move (.tmp 16)), 102, "", #[], none⟩,
  ⟨(some 17), (.extract (.tmp 14) 0), 21, "", #[], none⟩,
  ⟨(some 18), (.extract (.tmp 14) 1), 3, "", #[], none⟩,
  ⟨(some 2), (.assign (.tmp 17)), 21, "", #[], none⟩,
  ⟨(some 3), (.assign (.tmp 18)), 3, "", #[], none⟩]
def F61.code : Cd := (.seq (.region 0 F61.r0.toArray false) (.seq (.seq (.region 1 F61.r1.toArray false) (.cond (.tmp 10) (.seq (.region 2 F61.r2.toArray false) .ret) (.region 3 F61.r3.toArray false))) .ret))
theorem F61.calls {args : Array Value} {w : World} {R : Ending → World → Prop} (hn : args.size ≤ 19) (h : cwE Tryd.prog F61.code (fnP Tryd.prog #[(.tmp 2), (.tmp 3)] R) (entry args) w) : Calls Tryd.prog 61 args w R :=
  calls_of_cwE (types := Tryd.prog.types) follows Tryd.func61 F61.code rfl (by kernel_rfl) hn h

def F62.r0 : List Oper := [
  ⟨(some 8), (.assign (.const (.bool false))), 4, "", #[], none⟩]
def F62.r1 : List Oper := [
  ⟨(some 9), (.move (.tmp 1)), 3, "", #[], none⟩,
  ⟨(some 10), (.move (.tmp 0)), 9, "", #[], none⟩,
  ⟨(some 11), (.call ⟨(.builtin .len), #[(.tmp 10)], #[9]⟩), 3, "", #[], none⟩,
  ⟨(some 12), (.binOp .lss 3 (.tmp 9) (.tmp 11) 3), 4, "", #[], none⟩,
  ⟨(some 13), (.move (.tmp 12)), 4, "", #[], none⟩,
  ⟨(some 14), (.move (.tmp 0)), 9, "", #[], (some (13, true))⟩,
  ⟨(some 15), (.move (.tmp 1)), 3, "", #[], (some (13, true))⟩,
  ⟨(some 16), (.index 9 (.tmp 14) (.tmp 15)), 5, "", #[], (some (13, true))⟩,
  ⟨(some 17), (.move (.tmp 2)), 5, "", #[], (some (13, true))⟩,
  ⟨(some 18), (.binOp .geq 5 (.tmp 16) (.tmp 17) 5), 4, "", #[], (some (13, true))⟩,
  ⟨(some 19), (.pick (.tmp 13) (.tmp 18) (.const (.bool false))), 4, "", #[], none⟩,
  ⟨(some 20), (.move (.tmp 19)), 4, "", #[], none⟩,
  ⟨(some 21), (.move (.tmp 0)), 9, "", #[], (some (20, true))⟩,
  ⟨(some 22), (.move (.tmp 1)), 3, "", #[], (some (20, true))⟩,
  ⟨(some 23), (.index 9 (.tmp 21) (.tmp 22)), 5, "", #[], (some (20, true))⟩,
  ⟨(some 24), (.move (.tmp 3)), 5, "", #[], (some (20, true))⟩,
  ⟨(some 25), (.binOp .leq 5 (.tmp 23) (.tmp 24) 5), 4, "", #[], (some (20, true))⟩,
  ⟨(some 26), (.pick (.tmp 20) (.tmp 25) (.const (.bool false))), 4, "", #[], none⟩,
  ⟨(some 8), (.assign (.tmp 26)), 4, "", #[], none⟩]
def F62.code : Cd := (.seq (.region 0 F62.r0.toArray false) (.seq (.region 1 F62.r1.toArray false) .ret))
theorem F62.calls {args : Array Value} {w : World} {R : Ending → World → Prop} (hn : args.size ≤ 27) (h : cwE Tryd.prog F62.code (fnP Tryd.prog #[(.tmp 8)] R) (entry args) w) : Calls Tryd.prog 62 args w R :=
  calls_of_cwE (types := Tryd.prog.types) follows Tryd.func62 F62.code rfl (by kernel_rfl) hn h

def F63.r0 : List Oper := [
  ⟨(some 5), (.move (.tmp 0)), 69, "", #[], none⟩,
  ⟨(some 6), (.nilCheck (.tmp 5)), 0, "", #[], none⟩,
  ⟨(some 7), (.fieldAddr 72 (.tmp 6) 1), 0, "", #[], none⟩,
  ⟨(some 11), (.move (.tmp 1)), 3, "", #[], none⟩,
  ⟨(some 14), (.move (.tmp 0)), 69, "", #[], none⟩,
  ⟨(some 15), (.nilCheck (.tmp 14)), 0, "", #[], none⟩,
  ⟨(some 16), (.fieldAddr 72 (.tmp 15) 1), 0, "", #[], none⟩,
  ⟨(some 8), (.load 70 (.tmp 7)), 70, "", #[⟨256, .data⟩], none⟩,
  ⟨(some 9), (.call ⟨(.builtin .cap), #[(.tmp 8)], #[70]⟩), 3, "", #[], none⟩,
  ⟨(some 10), (.binOp .mul 3 (.const (.int .i64 2)) (.tmp 9) 3), 3, "", #[], none⟩,
  ⟨(some 12), (.binOp .add 3 (.tmp 10) (.tmp 11) 3), 3, "", #[], none⟩,
  ⟨(some 17), (.load 70 (.tmp 16)), 70, "", #[⟨0, .data⟩], none⟩,
  ⟨(some 18), (.call ⟨(.builtin .len), #[(.tmp 17)], #[70]⟩), 3, "", #[], none⟩,
  ⟨(some 13), (.call ⟨(.value (.func 70)), #[(.tmp 12)], #[3]⟩), 70, "", #[⟨8, .chain⟩], none⟩,
  ⟨(some 19), (.slice 70 (.tmp 13) none (some (.tmp 18)) none), 70, "", #[], none⟩,
  ⟨(some 4), (.assign (.tmp 19)), 70, "", #[], none⟩]
def F63.r1 : List Oper := [
  ⟨(some 20), (.move (.tmp 4)), 70, "", #[], none⟩,
  ⟨(some 21), (.move (.tmp 0)), 69, "", #[], none⟩,
  ⟨(some 22), (.nilCheck (.tmp 21)), 0, "", #[], none⟩,
  ⟨(some 23), (.fieldAddr 72 (.tmp 22) 1), 0, "", #[], none⟩,
  ⟨(some 24), (.load 70 (.tmp 23)), 70, "", #[⟨0, .data⟩], none⟩,
  ⟨(some 25), (.call ⟨(.builtin .copy), #[(.tmp 20), (.tmp 24)], #[70, 70]⟩), 3, "", #[⟨0, .chain⟩], none⟩]
def F63.r2 : List Oper := [
  ⟨(some 26), (.move (.tmp 0)), 69, "", #[], none⟩,
  ⟨(some 27), (.move (.tmp 4)), 70, "", #[], none⟩,
  ⟨(some 28), (.nilCheck (.tmp 26)), 0, "", #[], none⟩,
  ⟨(some 29), (.fieldAddr 72 (.tmp 28) 1), 0, "", #[], none⟩,
  ⟨none, (.store 70 (.tmp 29) (.tmp 27)), 0, "", #[⟨0, .chain⟩], none⟩]
def F63.code : Cd := (.seq (.region 0 F63.r0.toArray true) (.seq (.region 1 F63.r1.toArray false) (.region 2 F63.r2.toArray false)))
theorem F63.calls {args : Array Value} {w : World} {R : Ending → World → Prop} (hn : args.size ≤ 30) (h : cwE Tryd.prog F63.code (fnP Tryd.prog #[] R) (entry args) w) : Calls Tryd.prog 63 args w R :=
  calls_of_cwE (types := Tryd.prog.types) follows Tryd.func63 F63.code rfl (by kernel_rfl) hn h

def F65.r0 : List Oper := [
  ⟨(some 4), (.assign (.const (.int .i64 0))), 3, "", #[], none⟩]
def F65.r1 : List Oper := [
  ⟨(some 5), (.move (.tmp 0)), 9, "", #[], none⟩,
  ⟨(some 6), (.move (.tmp 1)), 5, "", #[], none⟩,
  ⟨(some 7), (.call ⟨(.value (.func 71)), #[(.tmp 5), (.tmp 6)], #[9, 5]⟩), 3, "", #[⟨0, .chain⟩], none⟩,
  ⟨(some 4), (.assign (.tmp 7)), 3, "", #[], none⟩]
def F65.code : Cd := (.seq (.region 0 F65.r0.toArray false) (.seq (.region 1 F65.r1.toArray false) .ret))
theorem F65.calls {args : Array Value} {w : World} {R : Ending → World → Prop} (hn : args.size ≤ 8) (h : cwE Tryd.prog F65.code (fnP Tryd.prog #[(.tmp 4)] R) (entry args) w) : Calls Tryd.prog 65 args w R :=
  calls_of_cwE (types := Tryd.prog.types) follows Tryd.func65 F65.code rfl (by kernel_rfl) hn h

def F66.r0 : List Oper := [
  ⟨(some 2), (.assign (.const (.int .i64 0))), 3, "", #[], none⟩]
def F66.r1 : List Oper := [
  ⟨(some 3), (.move (.tmp 0)), 9, "", #[], none⟩,
  ⟨(some 4), (.range 9 (.tmp 3)), 0, "", #[⟨0, .chain⟩], none⟩]
def F66.r2 : List Oper := [
  ⟨(some 5), (.next (.tmp 4) true), 0, "", #[⟨0, .chain⟩], none⟩,
  ⟨(some 6), (.extract (.tmp 5) 0), 4, "", #[], none⟩]
def F66.r3 : List Oper := [
  ⟨(some 7), (.move (.tmp 2)), 3, "", #[], none⟩,
  ⟨(some 8), (.binOp .add 3 (.tmp 7) (.const (.int .i64 1)) 3), 3, "", #[], none⟩,
  ⟨(some 2), (.assign (.tmp 8)), 3, "", #[], none⟩]
def F66.r4 : List Oper := [
  ⟨(some 9), (.move (.tmp 2)), 3, "", #[], none⟩,
  ⟨(some 2), (.assign (.tmp 9)), 3, "", #[], none⟩]
def F66.t3 : Cd := (.block 1 (.region 3 F66.r3.toArray false))
theorem F66.t3_eq {P : Program} {Q : Post} {e : FA} {w : World} {θ : Tag (F66.t3, Q, e, w)} : cwE P F66.t3 Q e w θ = cwE P (.block 1 (.region 3 F66.r3.toArray false)) Q e w := rfl
def F66.t4 : Cd := (.seq (.region 4 F66.r4.toArray false) .ret)
theorem F66.t4_eq {P : Program} {Q : Post} {e : FA} {w : World} {θ : Tag (F66.t4, Q, e, w)} : cwE P F66.t4 Q e w θ = cwE P (.seq (.region 4 F66.r4.toArray false) .ret) Q e w := rfl
def F66.code : Cd := (.seq (.region 0 F66.r0.toArray false) (.seq (.seq (.region 1 F66.r1.toArray false) (.block 0 (.loop (.seq (.region 2 F66.r2.toArray false) (.seq (.cond (.tmp 6) .skip (.exit 0)) F66.t3))))) F66.t4))
theorem F66.calls {args : Array Value} {w : World} {R : Ending → World → Prop} (hn : args.size ≤ 10) (h : cwE Tryd.prog F66.code (fnP Tryd.prog #[(.tmp 2)] R) (entry args) w) : Calls Tryd.prog 66 args w R :=
  calls_of_cwE (types := Tryd.prog.types) follows Tryd.func66 F66.code rfl (by kernel_rfl) hn h

def F68.r0 : List Oper := [
  ⟨(some 4), (.assign (.const (.int .i64 0))), 3, "", #[], none⟩]
def F68.r1 : List Oper := [
  ⟨(some 14), (.move (.tmp 1)), 9, "", #[], none⟩,
  ⟨(some 15), (.call ⟨(.builtin .len), #[(.tmp 14)], #[9]⟩), 3, "", #[], none⟩,
  ⟨(some 5), (.assign (.tmp 15)), 3, "", #[], none⟩]
def F68.r2 : List Oper := [
  ⟨(some 17), (.move (.tmp 5)), 3, "", #[], none⟩,
  ⟨(some 18), (.binOp .eql 3 (.tmp 17) (.const (.int .i64 0)) 3), 4, "", #[], none⟩,
  ⟨(some 19), (.move (.tmp 18)), 4, "", #[], none⟩,
  ⟨(some 20), (.move (.tmp 1)), 9, "", #[], (some (19, false))⟩,
  ⟨(some 21), (.move (.tmp 0)), 9, "", #[], (some (19, false))⟩,
  ⟨(some 22), (.binOp .eql 9 (.tmp 20) (.tmp 21) 9), 4, "", #[], (some (19, false))⟩,
  ⟨(some 23), (.pick (.tmp 19) (.const (.bool true)) (.tmp 22)), 4, "", #[], none⟩,
  ⟨(some 16), (.assign (.tmp 23)), 4, "", #[], none⟩]
def F68.r3 : List Oper := [
  ⟨(some 4), (.assign (.const (.int .i64 0))), 3, "", #[], none⟩]
def F68.r4 : List Oper := [
  ⟨(some 25), (.move (.tmp 5)), 3, "", #[], none⟩,
  ⟨(some 26), (.binOp .eql 3 (.tmp 25) (.const (.int .i64 1)) 3), 4, "", #[], none⟩,
  ⟨(some 24), (.assign (.tmp 26)), 4, "", #[], none⟩]
def F68.r5 : List Oper := [
  ⟨(some 27), (.move (.tmp 0)), 9, "", #[], none⟩,
  ⟨(some 28), (.move (.tmp 1)), 9, "", #[], none⟩,
  ⟨(some 29), (.index 9 (.tmp 28) (.const (.int .i64 0))), 5, "", #[], none⟩,
  ⟨(some 30), (.call ⟨(.value (.func 65)), #[(.tmp 27), (.tmp 29)], #[9, 5]⟩), 3, "", #[⟨0, .chain⟩], none⟩,
  ⟨(some 4), (.assign (.tmp 30)), 3, "", #[], none⟩]
def F68.r6 : List Oper := [
  ⟨(some 32), (.move (.tmp 5)), 3, "", #[], none⟩,
  ⟨(some 33), (.move (.tmp 0)), 9, "", #[], none⟩,
  ⟨(some 34), (.call ⟨(.builtin .len), #[(.tmp 33)], #[9]⟩), 3, "", #[], none⟩,
  ⟨(some 35), (.binOp .geq 3 (.tmp 32) (.tmp 34) 3), 4, "", #[], none⟩,
  ⟨(some 31), (.assign (.tmp 35)), 4, "", #[], none⟩]
def F68.r7 : List Oper := [
  ⟨(some 4), (.assign (.const (.int .i64 (-1)))), 3, "", #[], none⟩]
def F68.r8 : List Oper := [
  ⟨(some 37), (.move (.tmp 5)), 3, "", #[], none⟩,
  ⟨(some 38), (.load 3 (.global 0)), 3, "", #[⟨0, .data⟩], none⟩,
  ⟨(some 39), (.binOp .leq 3 (.tmp 37) (.tmp 38) 3), 4, "", #[], none⟩,
  ⟨(some 40), (.move (.tmp 39)), 4, "", #[], none⟩,
  ⟨(some 41), (.move (.tmp 0)), 9, "", #[], (some (40, true))⟩,
  ⟨(some 42), (.call ⟨(.builtin .len), #[(.tmp 41)], #[9]⟩), 3, "", #[], (some (40, true))⟩,
  ⟨(some 43), (.binOp .leq 3 (.tmp 42) (.const (.int .i64 64)) 3), 4, "", #[], (some (40, true))⟩,
  ⟨(some 44), (.pick (.tmp 40) (.tmp 43) (.const (.bool false))), 4, "", #[], none⟩,
  ⟨(some 36), (.assign (.tmp 44)), 4, "", #[], none⟩]
def F68.r9 : List Oper := [
  ⟨(some 45), (.move (.tmp 0)), 9, "", #[], none⟩,
  ⟨(some 46), (.move (.tmp 1)), 9, "", #[], none⟩,
  ⟨(some 47), (.call ⟨(.value (.func 72)), #[(.tmp 45), (.tmp 46)], #[9, 9]⟩), 3, "", #[⟨0, .chain⟩], none⟩,
  ⟨(some 4), (.assign (.tmp 47)), 3, "", #[], none⟩]
def F68.r10 : List Oper := [
  ⟨(some 48), (.move (.tmp 1)), 9, "", #[], none⟩,
  ⟨(some 49), (.index 9 (.tmp 48) (.const (.int .i64 0))), 5, "", #[], none⟩,
  ⟨(some 6), (.assign (.tmp 49)), 5, "", #[], none⟩]
def F68.r11 : List Oper := [
  ⟨(some 50), (.move (.tmp 1)), 9, "", #[], none⟩,
  ⟨(some 51), (.index 9 (.tmp 50) (.const (.int .i64 1))), 5, "", #[], none⟩,
  ⟨(some 7), (.assign (.tmp 51)), 5, "", #[], none⟩]
def F68.r12 : List Oper := [
  ⟨(some 8), (.assign (.const (.int .i64 0))), 3, "", #[], none⟩]
def F68.r13 : List Oper := [
  ⟨(some 52), (.move (.tmp 0)), 9, "", #[], none⟩,
  ⟨(some 53), (.call ⟨(.builtin .len), #[(.tmp 52)], #[9]⟩), 3, "", #[], none⟩,
  ⟨(some 54), (.move (.tmp 5)), 3, "", #[], none⟩,
  ⟨(some 55), (.binOp .sub 3 (.tmp 53) (.tmp 54) 3), 3, "", #[], none⟩,
  ⟨(some 56), (.binOp .add 3 (.tmp 55) (.const (.int .i64 1)) 3), 3, "", #[], none⟩,
  ⟨(some 9), (.assign (.tmp 56)), 3, "", #[], none⟩]
def F68.r14 : List Oper := [
  ⟨(some 10), (.assign (.const (.int .i64 0))), 3, "", #[], none⟩]
def F68.r15 : List Oper := [
  ⟨(some 57), (.move (.tmp 8)), 3, "", #[], none⟩,
  ⟨(some 58), (.move (.tmp 9)), 3, "", #[], none⟩,
  ⟨(some 59), (.binOp .lss 3 (.tmp 57) (.tmp 58) 3), 4, "", #[], none⟩]
def F68.r16 : List Oper := [
  ⟨(some 60), (.move (.tmp 0)), 9, "", #[], none⟩,
  ⟨(some 61), (.move (.tmp 8)), 3, "", #[], none⟩,
  ⟨(some 62), (.index 9 (.tmp 60) (.tmp 61)), 5, "", #[], none⟩,
  ⟨(some 63), (.move (.tmp 6)), 5, "", #[], none⟩,
  ⟨(some 64), (.binOp .neq 5 (.tmp 62) (.tmp 63) 5), 4, "", #[], none⟩]
def F68.r17 : List Oper := [
  ⟨(some 65), (.move (.tmp 0)), 9, "", #[], none⟩,
  ⟨(some 66), (.move (.tmp 8)), 3, "", #[], none⟩,
  ⟨(some 67), (.binOp .add 3 (.tmp 66) (.const (.int .i64 1)) 3), 3, "", #[], none⟩,
  ⟨(some 68), (.move (.tmp 9)), 3, "", #[], none⟩,
  ⟨(some 69), (.slice 9 (.tmp 65) (some (.tmp 67)) (some (.tmp 68)) none), 9, "", #[], none⟩,
  ⟨(some 70), (.move (.tmp 6)), 5, "", #[], none⟩,
  ⟨(some 71), (.call ⟨(.value (.func 65)), #[(.tmp 69), (.tmp 70)], #[9, 5]⟩), 3, "", #[⟨0, .chain⟩], none⟩,
  ⟨(some 11), (.assign (.tmp 71)), 3, "", #[], none⟩]
def F68.r18 : List Oper := [
  ⟨(some 72), (.move (.tmp 11)), 3, "", #[], none⟩,
  ⟨(some 73), (.binOp .lss 3 (.tmp 72) (.const (.int .i64 0)) 3), 4, "", #[], none⟩]
def F68.r19 : List Oper := [
  ⟨(some 4), (.assign (.const (.int .i64 (-1)))), 3, "", #[], none⟩]
def F68.r20 : List Oper := [
  ⟨(some 74), (.move (.tmp 8)), 3, "", #[], none⟩,
  ⟨(some 75), (.move (.tmp 11)), 3, "", #[], none⟩,
  ⟨(some 76), (.binOp .add 3 (.tmp 75) (.const (.int .i64 1)) 3), 3, "", #[], none⟩,
  ⟨(some 77), (.binOp .add 3 (.tmp 74) (.tmp 76) 3), 3, "", #[], none⟩,
  ⟨(some 8), (.assign (.tmp 77)), 3, "", #[], none⟩]
def F68.r21 : List Oper := [
  ⟨(some 78), (.move (.tmp 0)), 9, "", #[], none⟩,
  ⟨(some 79), (.move (.tmp 8)), 3, "", #[], none⟩,
  ⟨(some 80), (.binOp .add 3 (.tmp 79) (.const (.int .i64 1)) 3), 3, "", #[], none⟩,
  ⟨(some 81), (.index 9 (.tmp 78) (.tmp 80)), 5, "", #[], none⟩,
  ⟨(some 82), (.move (.tmp 7)), 5, "", #[], none⟩,
  ⟨(some 83), (.binOp .eql 5 (.tmp 81) (.tmp 82) 5), 4, "", #[], none⟩,
  ⟨(some 84), (.move (.tmp 83)), 4, "", #[], none⟩,
  ⟨(some 85), (.move (.tmp 0)), 9, "", #[], (some (84, true))⟩,
  ⟨(some 86), (.move (.tmp 8)), 3, "", #[], (some (84, true))⟩,
  ⟨(some 87), (.move (.tmp 8)), 3, "", #[], (some (84, true))⟩,
  ⟨(some 88), (.move (.tmp 5)), 3, "", #[], (some (84, true))⟩,
  ⟨(some 89), (.binOp .add 3 (.tmp 87) (.tmp 88) 3), 3, "", #[], (some (84, true))⟩,
  ⟨(some 90), (.slice 9 (.tmp 85) (some (.tmp 86)) (some (.tmp 89)) none), 9, "", #[], (some (84, true))⟩,
  ⟨(some 91), (.move (.tmp 1)), 9, "", #[], (some (84, true))⟩,
  ⟨(some 92), (.binOp .eql 9 (.tmp 90) (.tmp 91) 9), 4, "", #[], (some (84, true))⟩,
  ⟨(some 93), (.pick (.tmp 84) (.tmp 92) (.const (.bool false))), 4, "", #[], none⟩]
def F68.r22 : List Oper := [
  ⟨(some 94), (.move (.tmp 8)), 3, "", #[], none⟩,
  ⟨(some 4), (.assign (.tmp 94)), 3, "", #[], none⟩]
def F68.r23 : List Oper := [
  ⟨(some 95), (.move (.tmp 8)), 3, "", #[], none⟩,
  ⟨(some 96), (.binOp .add 3 (.tmp 95) (.const (.int .i64 1)) 3), 3, "", #[], none⟩,
  ⟨(some 8), (.assign (.tmp 96)), 3, "", #[], none⟩]
def F68.r24 : List Oper := [
  ⟨(some 97), (.move (.tmp 10)), 3, "", #[], none⟩,
  ⟨(some 98), (.binOp .add 3 (.tmp 97) (.const (.int .i64 1)) 3), 3, "", #[], none⟩,
  ⟨(some 10), (.assign (.tmp 98)), 3, "", #[], none⟩]
def F68.r25 : List Oper := [
  ⟨(some 99), (.move (.tmp 5)), 3, "", #[], none⟩,
  ⟨(some 100), (.load 3 (.global 0)), 3, "", #[⟨0, .data⟩], none⟩,
  ⟨(some 101), (.binOp .leq 3 (.tmp 99) (.tmp 100) 3), 4, "", #[], none⟩,
  ⟨(some 102), (.move (.tmp 101)), 4, "", #[], none⟩,
  ⟨(some 103), (.move (.tmp 10)), 3, "", #[], (some (102, true))⟩,
  ⟨(some 104), (.move (.tmp 8)), 3, "", #[], (some (102, true))⟩,
  ⟨(some 105), (.call ⟨(.value (.func 73)), #[(.tmp 104)], #[3]⟩), 3, "", #[⟨0, .chain⟩], (some (102, true))⟩,
  ⟨(some 106), (.binOp .gtr 3 (.tmp 103) (.tmp 105) 3), 4, "", #[], (some (102, true))⟩,
  ⟨(some 107), (.pick (.tmp 102) (.tmp 106) (.const (.bool false))), 4, "", #[], none⟩]
def F68.r26 : List Oper := [
  ⟨(some 108), (.move (.tmp 0)), 9, "", #[], none⟩,
  ⟨(some 109), (.move (.tmp 8)), 3, "", #[], none⟩,
  ⟨(some 110), (.slice 9 (.tmp 108) (some (.tmp 109)) none none), 9, "", #[], none⟩,
  ⟨(some 111), (.move (.tmp 1)), 9, "", #[], none⟩,
  ⟨(some 112), (.call ⟨(.value (.func 72)), #[(.tmp 110), (.tmp 111)], #[9, 9]⟩), 3, "", #[⟨0, .chain⟩], none⟩,
  ⟨(some 12), (.assign (.tmp 112)), 3, "", #[], none⟩]
def F68.r27 : List Oper := [
  ⟨(some 113), (.move (.tmp 12)), 3, "", #[], none⟩,
  ⟨(some 114), (.binOp .geq 3 (.tmp 113) (.const (.int .i64 0)) 3), 4, "", #[], none⟩]
def F68.r28 : List Oper := [
  ⟨(some 115), (.move (.tmp 12)), 3, "", #[], none⟩,
  ⟨(some 116), (.move (.tmp 8)), 3, "", #[], none⟩,
  ⟨(some 117), (.binOp .add 3 (.tmp 115) (.tmp 116) 3), 3, "", #[], none⟩,
  ⟨(some 4), (.assign (.tmp 117)), 3, "", #[], none⟩]
def F68.r29 : List Oper := [
  ⟨(some 4), (.assign (.const (.int .i64 (-1)))), 3, "", #[], none⟩]
def F68.r30 : List Oper := [
  ⟨(some 118), (.move (.tmp 5)), 3, "", #[], none⟩,
  ⟨(some 119), (.load 3 (.global 0)), 3, "", #[⟨0, .data⟩], none⟩,
  ⟨(some 120), (.binOp .gtr 3 (.tmp 118) (.tmp 119) 3), 4, "", #[], none⟩,
  ⟨(some 121), (.move (.tmp 120)), 4, "", #[], none⟩,
  ⟨(some 122), (.move (.tmp 10)), 3, "", #[], (some (121, true))⟩,
  ⟨(some 123), (.move (.tmp 8)), 3, "", #[], (some (121, true))⟩,
  ⟨(some 124), (.binOp .shr 3 (.tmp 123) (.const (.int .u64 4)) 79), 3, "", #[], (some (121, true))⟩,
  ⟨(some 125), (.binOp .add 3 (.const (.int .i64 4)) (.tmp 124) 3), 3, "", #[], (some (121, true))⟩,
  ⟨(some 126), (.binOp .geq 3 (.tmp 122) (.tmp 125) 3), 4, "", #[], (some (121, true))⟩,
  ⟨(some 127), (.pick (.tmp 121) (.tmp 126) (.const (.bool false))), 4, "", #[], none⟩,
  ⟨(some 128), (.move (.tmp 127)), 4, "", #[], none⟩,
  ⟨(some 129), (.move (.tmp 8)), 3, "", #[], (some (128, true))⟩,
  ⟨(some 130), (.move (.tmp 9)), 3, "", #[], (some (128, true))⟩,
  ⟨(some 131), (.binOp .lss 3 (.tmp 129) (.tmp 130) 3), 4, "", #[], (some (128, true))⟩,
  ⟨(some 132), (.pick (.tmp 128) (.tmp 131) (.const (.bool false))), 4, "", #[], none⟩]
def F68.r31 : List Oper := [
  ⟨(some 133), (.move (.tmp 0)), 9, "", #[], none⟩,
  ⟨(some 134), (.move (.tmp 8)), 3, "", #[], none⟩,
  ⟨(some 135), (.slice 9 (.tmp 133) (some (.tmp 134)) none none), 9, "", #[], none⟩,
  ⟨(some 136), (.move (.tmp 1)), 9, "", #[], none⟩,
  ⟨(some 137), (.call ⟨(.value (.func 74)), #[(.tmp 135), (.tmp 136)], #[9, 9]⟩), 3, "", #[⟨0, .chain⟩], none⟩,
  ⟨(some 13), (.assign (.tmp 137)), 3, "", #[], none⟩]
def F68.r32 : List Oper := [
  ⟨(some 138), (.move (.tmp 13)), 3, "", #[], none⟩,
  ⟨(some 139), (.binOp .lss 3 (.tmp 138) (.const (.int .i64 0)) 3), 4, "", #[], none⟩]
def F68.r33 : List Oper := [
  ⟨(some 4), (.assign (.const (.int .i64 (-1)))), 3, "", #[], none⟩]
def F68.r34 : List Oper := [
  ⟨(some 140), (.move (.tmp 8)), 3, "", #[], none⟩,
  ⟨(some 141), (.move (.tmp 13)), 3, "", #[], none⟩,
  ⟨(some 142), (.binOp .add 3 (.tmp 140) (.tmp 141) 3), 3, "", #[], none⟩,
  ⟨(some 4), (.assign (.tmp 142)), 3, "", #[], none⟩]
def F68.r35 : List Oper := [
  ⟨(some 4), (.assign (.const (.int .i64 (-1)))), 3, "", #[], none⟩]
def F68.t20 : Cd := (.region 20 F68.r20.toArray false)
theorem F68.t20_eq {P : Program} {Q : Post} {e : FA} {w : World} {θ : Tag (F68.t20, Q, e, w)} : cwE P F68.t20 Q e w θ = cwE P (.region 20 F68.r20.toArray false) Q e w := rfl
def F68.t29 : Cd := (.seq (.region 29 F68.r29.toArray false) .ret)
theorem F68.t29_eq {P : Program} {Q : Post} {e : FA} {w : World} {θ : Tag (F68.t29, Q, e, w)} : cwE P F68.t29 Q e w θ = cwE P (.seq (.region 29 F68.r29.toArray false) .ret) Q e w := rfl
def F68.t34 : Cd := (.seq (.region 34 F68.r34.toArray false) .ret)
theorem F68.t34_eq {P : Program} {Q : Post} {e : FA} {w : World} {θ : Tag (F68.t34, Q, e, w)} : cwE P F68.t34 Q e w θ = cwE P (.seq (.region 34 F68.r34.toArray false) .ret) Q e w := rfl
def F68.t23 : Cd := (.seq (.region 23 F68.r23.toArray false) (.seq (.region 24 F68.r24.toArray false) (.seq (.region 25 F68.r25.toArray false) (.cond (.tmp 107) (.seq (.region 26 F68.r26.toArray false) (.seq (.seq (.region 27 F68.r27.toArray false) (.cond (.tmp 114) (.seq (.region 28 F68.r28.toArray false) .ret) .skip)) F68.t29)) (.seq (.region 30 F68.r30.toArray false) (.cond (.tmp 132) (.seq (.region 31 F68.r31.toArray false) (.seq (.seq (.region 32 F68.r32.toArray false) (.cond (.tmp 139) (.seq (.region 33 F68.r33.toArray false) .ret) .skip)) F68.t34)) .skip))))))
theorem F68.t23_eq {P : Program} {Q : Post} {e : FA} {w : World} {θ : Tag (F68.t23, Q, e, w)} : cwE P F68.t23 Q e w θ = cwE P (.seq (.region 23 F68.r23.toArray false) (.seq (.region 24 F68.r24.toArray false) (.seq (.region 25 F68.r25.toArray false) (.cond (.tmp 107) (.seq (.region 26 F68.r26.toArray false) (.seq (.seq (.region 27 F68.r27.toArray false) (.cond (.tmp 114) (.seq (.region 28 F68.r28.toArray false) .ret) .skip)) F68.t29)) (.seq (.region 30 F68.r30.toArray false) (.cond (.tmp 132) (.seq (.region 31 F68.r31.toArray false) (.seq (.seq (.region 32 F68.r32.toArray false) (.cond (.tmp 139) (.seq (.region 33 F68.r33.toArray false) .ret) .skip)) F68.t34)) .skip)))))) Q e w := rfl
def F68.t21 : Cd := (.seq (.seq (.region 21 F68.r21.toArray false) (.cond (.tmp 93) (.seq (.region 22 F68.r22.toArray false) .ret) .skip)) F68.t23)
theorem F68.t21_eq {P : Program} {Q : Post} {e : FA} {w : World} {θ : Tag (F68.t21, Q, e, w)} : cwE P F68.t21 Q e w θ = cwE P (.seq (.seq (.region 21 F68.r21.toArray false) (.cond (.tmp 93) (.seq (.region 22 F68.r22.toArray false) .ret) .skip)) F68.t23) Q e w := rfl
def F68.t16 : Cd := (.block 2 (.seq (.seq (.region 16 F68.r16.toArray false) (.cond (.tmp 64) (.seq (.region 17 F68.r17.toArray false) (.seq (.seq (.region 18 F68.r18.toArray false) (.cond (.tmp 73) (.seq (.region 19 F68.r19.toArray false) .ret) .skip)) F68.t20)) .skip)) F68.t21))
theorem F68.t16_eq {P : Program} {Q : Post} {e : FA} {w : World} {θ : Tag (F68.t16, Q, e, w)} : cwE P F68.t16 Q e w θ = cwE P (.block 2 (.seq (.seq (.region 16 F68.r16.toArray false) (.cond (.tmp 64) (.seq (.region 17 F68.r17.toArray false) (.seq (.seq (.region 18 F68.r18.toArray false) (.cond (.tmp 73) (.seq (.region 19 F68.r19.toArray false) .ret) .skip)) F68.t20)) .skip)) F68.t21)) Q e w := rfl
def F68.t35 : Cd := (.seq (.region 35 F68.r35.toArray false) .ret)
theorem F68.t35_eq {P : Program} {Q : Post} {e : FA} {w : World} {θ : Tag (F68.t35, Q, e, w)} : cwE P F68.t35 Q e w θ = cwE P (.seq (.region 35 F68.r35.toArray false) .ret) Q e w := rfl
def F68.t10 : Cd := (.seq (.region 10 F68.r10.toArray false) (.seq (.region 11 F68.r11.toArray false) (.seq (.region 12 F68.r12.toArray false) (.seq (.region 13 F68.r13.toArray false) (.seq (.region 14 F68.r14.toArray false) (.seq (.block 1 (.loop (.seq (.seq (.region 15 F68.r15.toArray false) (.cond (.tmp 59) .skip (.exit 1))) F68.t16))) F68.t35))))))
theorem F68.t10_eq {P : Program} {Q : Post} {e : FA} {w : World} {θ : Tag (F68.t10, Q, e, w)} : cwE P F68.t10 Q e w θ = cwE P (.seq (.region 10 F68.r10.toArray false) (.seq (.region 11 F68.r11.toArray false) (.seq (.region 12 F68.r12.toArray false) (.seq (.region 13 F68.r13.toArray false) (.seq (.region 14 F68.r14.toArray false) (.seq (.block 1 (.loop (.seq (.seq (.region 15 F68.r15.toArray false) (.cond (.tmp 59) .skip (.exit 1))) F68.t16))) F68.t35)))))) Q e w := rfl
def F68.code : Cd := (.seq (.region 0 F68.r0.toArray false) (.seq (.region 1 F68.r1.toArray false) (.seq (.block 0 (.seq (.region 2 F68.r2.toArray false) (.cond (.tmp 16) (.seq (.region 3 F68.r3.toArray false) .ret) (.seq (.region 4 F68.r4.toArray false) (.cond (.tmp 24) (.seq (.region 5 F68.r5.toArray false) .ret) (.seq (.region 6 F68.r6.toArray false) (.cond (.tmp 31) (.seq (.region 7 F68.r7.toArray false) .ret) (.seq (.region 8 F68.r8.toArray false) (.cond (.tmp 36) (.seq (.region 9 F68.r9.toArray false) .ret) .skip))))))))) F68.t10)))
theorem F68.calls {args : Array Value} {w : World} {R : Ending → World → Prop} (hn : args.size ≤ 143) (h : cwE Tryd.prog F68.code (fnP Tryd.prog #[(.tmp 4)] R) (entry args) w) : Calls Tryd.prog 68 args w R :=
  calls_of_cwE (types := Tryd.prog.types) follows Tryd.func68 F68.code rfl (by kernel_rfl) hn h

def F69.r0 : List Oper := [
  ⟨(some 2), (.assign (.const (.int .i32 0))), 21, "", #[], none⟩,
  ⟨(some 3), (.assign (.const (.int .i64 0))), 3, "", #[], none⟩]
def F69.r1 : List Oper := [
  ⟨(some 13), (.move (.tmp 0)), 9, "", #[], none⟩,
  ⟨(some 14), (.call ⟨(.builtin .len), #[(.tmp 13)], #[9]⟩), 3, "", #[], none⟩,
  ⟨(some 4), (.assign (.tmp 14)), 3, "", #[], none⟩]
def F69.r2 : List Oper := [
  ⟨(some 15), (.move (.tmp 4)), 3, "", #[], none⟩,
  ⟨(some 16), (.binOp .lss 3 (.tmp 15) (.const (.int .i64 1)) 3), 4, "", #[], none⟩]
def F69.r3 : List Oper := [
  ⟨(some 2), (.assign (.const (.int .i32 65533))), 21, "", #[], none⟩,
  ⟨(some 3), (.assign (.const (.int .i64 0))), 3, "", #[], none⟩]
def F69.r4 : List Oper := [
  ⟨(some 17), (.move (.tmp 0)), 9, "", #[], none⟩,
  ⟨(some 18), (.index 9 (.tmp 17) (.const (.int .i64 0))), 5, "", #[], none⟩,
  ⟨(some 5), (.assign (.tmp 18)), 5, "", #[], none⟩]
def F69.r5 : List Oper := [
  ⟨(some 19), (.move (.tmp 5)), 5, "", #[], none⟩,
  ⟨(some 20), (.indexAddr 109 (.global 1) (.tmp 19)), 0, "", #[], none⟩,
  ⟨(some 21), (.load 5 (.tmp 20)), 5, "", #[⟨0, .data⟩], none⟩,
  ⟨(some 6), (.assign (.tmp 21)), 5, "", #[], none⟩]
def F69.r6 : List Oper := [
  ⟨(some 22), (.move (.tmp 6)), 5, "", #[], none⟩,
  ⟨(some 23), (.binOp .geq 5 (.tmp 22) (.const (.int .u8 240)) 5), 4, "", #[], none⟩]
def F69.r7 : List Oper := [
  ⟨(some 24), (.move (.tmp 6)), 5, "", #[], none⟩,
  ⟨(some 25), (.convert 5 21 (.tmp 24)), 21, "", #[], none⟩,
  ⟨(some 26), (.binOp .shl 21 (.tmp 25) (.const (.int .u64 31)) 79), 21, "", #[], none⟩,
  ⟨(some 27), (.binOp .shr 21 (.tmp 26) (.const (.int .u64 31)) 79), 21, "", #[], none⟩,
  ⟨(some 7), (.assign (.tmp 27)), 21, "", #[], none⟩]
def F69.r8 : List Oper := [
  ⟨(some 28), (.move (.tmp 0)), 9, "", #[], none⟩,
  ⟨(some 29), (.index 9 (.tmp 28) (.const (.int .i64 0))), 5, "", #[], none⟩,
  ⟨(some 30), (.convert 5 21 (.tmp 29)), 21, "", #[], none⟩,
  ⟨(some 31), (.move (.tmp 7)), 21, "", #[], none⟩,
  ⟨(some 32), (.binOp .andNot 21 (.tmp 30) (.tmp 31) 21), 21, "", #[], none⟩,
  ⟨(some 33), (.move (.tmp 7)), 21, "", #[], none⟩,
  ⟨(some 34), (.binOp .and 21 (.const (.int .i32 65533)) (.tmp 33) 21), 21, "", #[], none⟩,
  ⟨(some 35), (.binOp .or 21 (.tmp 32) (.tmp 34) 21), 21, "", #[], none⟩,
  ⟨(some 2), (.assign (.tmp 35)), 21, "", #[], none⟩,
  ⟨(some 3), (.assign (.const (.int .i64 1))), 3, "", #[], none⟩]
def F69.r9 : List Oper := [
  ⟨(some 36), (.move (.tmp 6)), 5, "", #[], none⟩,
  ⟨(some 37), (.binOp .and 5 (.tmp 36) (.const (.int .u8 7)) 5), 5, "", #[], none⟩,
  ⟨(some 38), (.convert 5 3 (.tmp 37)), 3, "", #[], none⟩,
  ⟨(some 8), (.assign (.tmp 38)), 3, "", #[], none⟩]
def F69.r10 : List Oper := [
  ⟨(some 39), (.move (.tmp 6)), 5, "", #[], none⟩,
  ⟨(some 40), (.binOp .shr 5 (.tmp 39) (.const (.int .u64 4)) 79), 5, "", #[], none⟩,
  ⟨(some 41), (.indexAddr 112 (.global 2) (.tmp 40)), 0, "", #[], none⟩,
  ⟨(some 42), (.load 111 (.tmp 41)), 111, "", #[⟨0, .data⟩], none⟩,
  ⟨(some 9), (.alloc 111), 0, "", #[⟨0, .chain⟩], none⟩,
  ⟨none, (.store 111 (.tmp 9) (.tmp 42)), 0, "", #[⟨0, .chain⟩], none⟩]
def F69.r11 : List Oper := [
  ⟨(some 43), (.move (.tmp 4)), 3, "", #[], none⟩,
  ⟨(some 44), (.move (.tmp 8)), 3, "", #[], none⟩,
  ⟨(some 45), (.binOp .lss 3 (.tmp 43) (.tmp 44) 3), 4, "", #[], none⟩]
def F69.r12 : List Oper := [
  ⟨(some 2), (.assign (.const (.int .i32 65533))), 21, "", #[], none⟩,
  ⟨(some 3), (.assign (.const (.int .i64 1))), 3, "", #[], none⟩]
def F69.r13 : List Oper := [
  ⟨(some 46), (.move (.tmp 0)), 9, "", #[], none⟩,
  ⟨(some 47), (.index 9 (.tmp 46) (.const (.int .i64 1))), 5, "", #[], none⟩,
  ⟨(some 10), (.assign (.tmp 47)), 5, "", #[], none⟩]
def F69.r14 : List Oper := [
  ⟨(some 48), (.move (.tmp 10)), 5, "", #[], none⟩,
  ⟨(some 49), (.fieldAddr 111 (.tmp 9) 0), 0, "", #[], none⟩,
  ⟨(some 50), (.load 5 (.tmp 49)), 5, "", #[⟨0, .data⟩], none⟩,
  ⟨(some 51), (.binOp .lss 5 (.tmp 48) (.tmp 50) 5), 4, "", #[], none⟩,
  ⟨(some 52), (.move (.tmp 51)), 4, "", #[], none⟩,
  ⟨(some 53), (.fieldAddr 111 (.tmp 9) 1), 0, "", #[], (some (52, false))⟩,
  ⟨(some 54), (.load 5 (.tmp 53)), 5, "", #[⟨0, .data⟩], (some (52, false))⟩,
  ⟨(some 55), (.move (.tmp 10)), 5, "", #[], (some (52, false))⟩,
  ⟨(some 56), (.binOp .lss 5 (.tmp 54) (.tmp 55) 5), 4, "", #[], (some (52, false))⟩,
  ⟨(some 57), (.pick (.tmp 52) (.const (.bool true)) (.tmp 56)), 4, "", #[], none⟩]
def F69.r15 : List Oper := [
  ⟨(some 2), (.assign (.const (.int .i32 65533))), 21, "", #[], none⟩,
  ⟨(some 3), (.assign (.const (.int .i64 1))), 3, "", #[], none⟩]
def F69.r16 : List Oper := [
  ⟨(some 58), (.move (.tmp 8)), 3, "", #[], none⟩,
  ⟨(some 59), (.binOp .leq 3 (.tmp 58) (.const (.int .i64 2)) 3), 4, "", #[], none⟩]
def F69.r17 : List Oper := [
  ⟨(some 60), (.move (.tmp 5)), 5, "", #[], none⟩,
  ⟨(some 61), (.binOp .and 5 (.tmp 60) (.const (.int .u8 31)) 5), 5, "", #[], none⟩,
  ⟨(some 62), (.convert 5 21 (.tmp 61)), 21, "", #[], none⟩,
  ⟨(some 63), (.binOp .shl 21 (.tmp 62) (.const (.int .u64 6)) 79), 21, "", #[], none⟩,
  ⟨(some 64), (.move (.tmp 10)), 5, "", #[], none⟩,
  ⟨(some 65), (.binOp .and 5 (.tmp 64) (.const (.int .u8 63)) 5), 5, "", #[], none⟩,
  ⟨(some 66), (.convert 5 21 (.tmp 65)), 21, "", #[], none⟩,
  ⟨(some 67), (.binOp .or 21 (.tmp 63) (.tmp 66) 21), 21, "", #[], none⟩,
  ⟨(some 2), (.assign (.tmp 67)), 21, "", #[], none⟩,
  ⟨(some 3), (.assign (.const (.int .i64 2))), 3, "", #[], none⟩]
def F69.r18 : List Oper := [
  ⟨(some 68), (.move (.tmp 0)), 9, "", #[], none⟩,
  ⟨(some 69), (.index 9 (.tmp 68) (.const (.int .i64 2))), 5, "", #[], none⟩,
  ⟨(some 11), (.assign (.tmp 69)), 5, "", #[], none⟩]
def F69.r19 : List Oper := [
  ⟨(some 70), (.move (.tmp 11)), 5, "", #[], none⟩,
  ⟨(some 71), (.binOp .lss 5 (.tmp 70) (.const (.int .u8 128)) 5), 4, "", #[], none⟩,
  ⟨(some 72), (.move (.tmp 71)), 4, "", #[], none⟩,
  ⟨(some 73), (.move (.tmp 11)), 5, "", #[], (some (72, false))⟩,
  ⟨(some 74), (.binOp .lss 5 (.const (.int .u8 191)) (.tmp 73) 5), 4, "", #[], (some (72, false))⟩,
  ⟨(some 75), (.pick (.tmp 72) (.const (.bool true)) (.tmp 74)), 4, "", #[], none⟩]
def F69.r20 : List Oper := [
  ⟨(some 2), (.assign (.const (.int .i32 65533))), 21, "", #[], none⟩,
  ⟨(some 3), (.assign (.const (.int .i64 1))), 3, "", #[], none⟩]
def F69.r21 : List Oper := [
  ⟨(some 76), (.move (.tmp 8)), 3, "", #[], none⟩,
  ⟨(some 77), (.binOp .leq 3 (.tmp 76) (.const (.int .i64 3)) 3), 4, "", #[], none⟩]
def F69.r22 : List Oper := [
  ⟨(some 78), (.move (.tmp 5)), 5, "", #[], none⟩,
  ⟨(some 79), (.binOp .and 5 (.tmp 78) (.const (.int .u8 15)) 5), 5, "", #[], none⟩,
  ⟨(some 80), (.convert 5 21 (.tmp 79)), 21, "", #[], none⟩,
  ⟨(some 81), (.binOp .shl 21 (.tmp 80) (.const (.int .u64 12)) 79), 21, "", #[], none⟩,
  ⟨(some 82), (.move (.tmp 10)), 5, "", #[], none⟩,
  ⟨(some 83), (.binOp .and 5 (.tmp 82) (.const (.int .u8 63)) 5), 5, "", #[], none⟩,
  ⟨(some 84), (.convert 5 21 (.tmp 83)), 21, "", #[], none⟩,
  ⟨(some 85), (.binOp .shl 21 (.tmp 84) (.const (.int .u64 6)) 79), 21, "", #[], none⟩,
  ⟨(some 86), (.binOp .or 21 (.tmp 81) (.tmp 85) 21), 21, "", #[], none⟩,
  ⟨(some 87), (.move (.tmp 11)), 5, "", #[], none⟩,
  ⟨(some 88), (.binOp .and 5 (.tmp 87) (.const (.int .u8 63)) 5), 5, "", #[], none⟩,
  ⟨(some 89), (.convert 5 21 (.tmp 88)), 21, "", #[], none⟩,
  ⟨(some 90), (.binOp .or 21 (.tmp 86) (.tmp 89) 21), 21, "", #[], none⟩,
  ⟨(some 2), (.assign (.tmp 90)), 21, "", #[], none⟩,
  ⟨(some 3), (.assign (.const (.int .i64 3))), 3, "", #[], none⟩]
def F69.r23 : List Oper := [
  ⟨(some 91), (.move (.tmp 0)), 9, "", #[], none⟩,
  ⟨(some 92), (.index 9 (.tmp 91) (.const (.int .i64 3))), 5, "", #[], none⟩,
  ⟨(some 12), (.assign (.tmp 92)), 5, "", #[], none⟩]
def F69.r24 : List Oper := [
  ⟨(some 93), (.move (.tmp 12)), 5, "", #[], none⟩,
  ⟨(some 94), (.binOp .lss 5 (.tmp 93) (.const (.int .u8 128)) 5), 4, "", #[], none⟩,
  ⟨(some 95), (.move (.tmp 94)), 4, "", #[], none⟩,
  ⟨(some 96), (.move (.tmp 12)), 5, "", #[], (some (95, false))⟩,
  ⟨(some 97), (.binOp .lss 5 (.const (.int .u8 191)) (.tmp 96) 5), 4, "", #[], (some (95, false))⟩,
  ⟨(some 98), (.pick (.tmp 95) (.const (.bool true)) (.tmp 97)), 4, "", #[], none⟩]
def F69.r25 : List Oper := [
  ⟨(some 2), (.assign (.const (.int .i32 65533))), 21, "", #[], none⟩,
  ⟨(some 3), (.assign (.const (.int .i64 1))), 3, "", #[], none⟩]
def F69.r26 : List Oper := [
  ⟨(some 99), (.move (.tmp 5)), 5, "", #[], none⟩,
  ⟨(some 100), (.binOp .and 5 (.tmp 99) (.const (.int .u8 7)) 5), 5, "", #[], none⟩,
  ⟨(some 101), (.convert 5 21 (.tmp 100)), 21, "", #[], none⟩,
  ⟨(some 102), (.binOp .shl 21 (.tmp 101) (.const (.int .u64 18)) 79), 21, "", #[], none⟩,
  ⟨(some 103), (.move (.tmp 10)), 5, "", #[], none⟩,
  ⟨(some 104), (.binOp .and 5 (.tmp 103) (.const (.int .u8 63)) 5), 5, "", #[], none⟩,
  ⟨(some 105), (.convert 5 21 (.tmp 104)), 21, "", #[], none⟩,
  ⟨(some 106), (.binOp .shl 21 (.tmp 105) (.const (.int .u64 12)) 79), 21, "", #[], none⟩,
  ⟨(some 107), (.binOp .or 21 (.tmp 102) (.tmp 106) 21), 21, "", #[], none⟩,
  ⟨(some 108), (.move (.tmp 11)), 5, "", #[], none⟩,
  ⟨(some 109), (.binOp .and 5 (.tmp 108) (.const (.int .u8 63)) 5), 5, "", #[], none⟩,
  ⟨(some 110), (.convert 5 21 (.tmp 109)), 21, "", #[], none⟩,
  ⟨(some 111), (.binOp .shl 21 (.tmp 110) (.const (.int .u64 6)) 79), 21, "", #[], none⟩,
  ⟨(some 112), (.binOp .or 21 (.tmp 107) (.tmp 111) 21), 21, "", #[], none⟩,
  ⟨(some 113), (.move (.tmp 12)), 5, "", #[], none⟩,
  ⟨(some 114), (.binOp .and 5 (.tmp 113) (.const (.int .u8 63)) 5), 5, "", #[], none⟩,
  ⟨(some 115), (.convert 5 21 (.tmp 114)), 21, "", #[], none⟩,
  ⟨(some 116), (.binOp .or 21 (.tmp 112) (.tmp 115) 21), 21, "", #[], none⟩,
  ⟨(some 2), (.assign (.tmp 116)), 21, "", #[], none⟩,
  ⟨(some 3), (.assign (.const (.int .i64 4))), 3, "", #[], none⟩]
def F69.t26 : Cd := (.seq (.region 26 F69.r26.toArray false) .ret)
theorem F69.t26_eq {P : Program} {Q : Post} {e : FA} {w : World} {θ : Tag (F69.t26, Q, e, w)} : cwE P F69.t26 Q e w θ = cwE P (.seq (.region 26 F69.r26.toArray false) .ret) Q e w := rfl
def F69.t23 : Cd := (.seq (.region 23 F69.r23.toArray false) (.seq (.seq (.region 24 F69.r24.toArray false) (.cond (.tmp 98) (.seq (.region 25 F69.r25.toArray false) .ret) .skip)) F69.t26))
theorem F69.t23_eq {P : Program} {Q : Post} {e : FA} {w : World} {θ : Tag (F69.t23, Q, e, w)} : cwE P F69.t23 Q e w θ = cwE P (.seq (.region 23 F69.r23.toArray false) (.seq (.seq (.region 24 F69.r24.toArray false) (.cond (.tmp 98) (.seq (.region 25 F69.r25.toArray false) .ret) .skip)) F69.t26)) Q e w := rfl
def F69.t21 : Cd := (.seq (.seq (.region 21 F69.r21.toArray false) (.cond (.tmp 77) (.seq (.region 22 F69.r22.toArray false) .ret) .skip)) F69.t23)
theorem F69.t21_eq {P : Program} {Q : Post} {e : FA} {w : World} {θ : Tag (F69.t21, Q, e, w)} : cwE P F69.t21 Q e w θ = cwE P (.seq (.seq (.region 21 F69.r21.toArray false) (.cond (.tmp 77) (.seq (.region 22 F69.r22.toArray false) .ret) .skip)) F69.t23) Q e w := rfl
def F69.t18 : Cd := (.seq (.region 18 F69.r18.toArray false) (.seq (.seq (.region 19 F69.r19.toArray false) (.cond (.tmp 75) (.seq (.region 20 F69.r20.toArray false) .ret) .skip)) F69.t21))
theorem F69.t18_eq {P : Program} {Q : Post} {e : FA} {w : World} {θ : Tag (F69.t18, Q, e, w)} : cwE P F69.t18 Q e w θ = cwE P (.seq (.region 18 F69.r18.toArray false) (.seq (.seq (.region 19 F69.r19.toArray false) (.cond (.tmp 75) (.seq (.region 20 F69.r20.toArray false) .ret) .skip)) F69.t21)) Q e w := rfl
def F69.t16 : Cd := (.seq (.seq (.region 16 F69.r16.toArray false) (.cond (.tmp 59) (.seq (.region 17 F69.r17.toArray false) .ret) .skip)) F69.t18)
theorem F69.t16_eq {P : Program} {Q : Post} {e : FA} {w : World} {θ : Tag (F69.t16, Q, e, w)} : cwE P F69.t16 Q e w θ = cwE P (.seq (.seq (.region 16 F69.r16.toArray false) (.cond (.tmp 59) (.seq (.region 17 F69.r17.toArray false) .ret) .skip)) F69.t18) Q e w := rfl
def F69.t13 : Cd := (.seq (.region 13 F69.r13.toArray false) (.seq (.seq (.region 14 F69.r14.toArray false) (.cond (.tmp 57) (.seq (.region 15 F69.r15.toArray false) .ret) .skip)) F69.t16))
theorem F69.t13_eq {P : Program} {Q : Post} {e : FA} {w : World} {θ : Tag (F69.t13, Q, e, w)} : cwE P F69.t13 Q e w θ = cwE P (.seq (.region 13 F69.r13.toArray false) (.seq (.seq (.region 14 F69.r14.toArray false) (.cond (.tmp 57) (.seq (.region 15 F69.r15.toArray false) .ret) .skip)) F69.t16)) Q e w := rfl
def F69.t9 : Cd := (.seq (.region 9 F69.r9.toArray false) (.seq (.region 10 F69.r10.toArray false) (.seq (.seq (.region 11 F69.r11.toArray false) (.cond (.tmp 45) (.seq (.region 12 F69.r12.toArray false) .ret) .skip)) F69.t13)))
theorem F69.t9_eq {P : Program} {Q : Post} {e : FA} {w : World} {θ : Tag (F69.t9, Q, e, w)} : cwE P F69.t9 Q e w θ = cwE P (.seq (.region 9 F69.r9.toArray false) (.seq (.region 10 F69.r10.toArray false) (.seq (.seq (.region 11 F69.r11.toArray false) (.cond (.tmp 45) (.seq (.region 12 F69.r12.toArray false) .ret) .skip)) F69.t13))) Q e w := rfl
def F69.t4 : Cd := (.seq (.region 4 F69.r4.toArray false) (.seq (.region 5 F69.r5.toArray false) (.seq (.seq (.region 6 F69.r6.toArray false) (.cond (.tmp 23) (.seq (.region 7 F69.r7.toArray false) (.seq (.region 8 F69.r8.toArray false) .ret)) .skip)) F69.t9)))
theorem F69.t4_eq {P : Program} {Q : Post} {e : FA} {w : World} {θ : Tag (F69.t4, Q, e, w)} : cwE P F69.t4 Q e w θ = cwE P (.seq (.region 4 F69.r4.toArray false) (.seq (.region 5 F69.r5.toArray false) (.seq (.seq (.region 6 F69.r6.toArray false) (.cond (.tmp 23) (.seq (.region 7 F69.r7.toArray false) (.seq (.region 8 F69.r8.toArray false) .ret)) .skip)) F69.t9))) Q e w := rfl
def F69.code : Cd := (.seq (.region 0 F69.r0.toArray false) (.seq (.region 1 F69.r1.toArray false) (.seq (.seq (.region 2 F69.r2.toArray false) (.cond (.tmp 16) (.seq (.region 3 F69.r3.toArray false) .ret) .skip)) F69.t4)))
theorem F69.calls {args : Array Value} {w : World} {R : Ending → World → Prop} (hn : args.size ≤ 117) (h : cwE Tryd.prog F69.code (fnP Tryd.prog #[(.tmp 2), (.tmp 3)] R) (entry args) w) : Calls Tryd.prog 69 args w R :=
  calls_of_cwE (types := Tryd.prog.types) follows Tryd.func69 F69.code rfl (by kernel_rfl) hn h

def F73.r0 : List Oper := [
  ⟨(some 2), (.assign (.const (.int .i64 0))), 3, "", #[], none⟩]
def F73.r1 : List Oper := [
  ⟨(some 3), (.move (.tmp 0)), 3, "", #[], none⟩,
  ⟨(some 4), (.binOp .add 3 (.tmp 3) (.const (.int .i64 16)) 3), 3, "", #[], none⟩,
  ⟨(some 5), (.binOp .quo 3 (.tmp 4) (.const (.int .i64 8)) 3), 3, "", #[], none⟩,
  ⟨(some 2), (.assign (.tmp 5)), 3, "", #[], none⟩]
def F73.code : Cd := (.seq (.region 0 F73.r0.toArray false) (.seq (.region 1 F73.r1.toArray false) .ret))
theorem F73.calls {args : Array Value} {w : World} {R : Ending → World → Prop} (hn : args.size ≤ 6) (h : cwE Tryd.prog F73.code (fnP Tryd.prog #[(.tmp 2)] R) (entry args) w) : Calls Tryd.prog 73 args w R :=
  calls_of_cwE (types := Tryd.prog.types) follows Tryd.func73 F73.code rfl (by kernel_rfl) hn h

def F74.r0 : List Oper := [
  ⟨(some 4), (.assign (.const (.int .i64 0))), 3, "", #[], none⟩]
def F74.r1 : List Oper := [
  ⟨(some 12), (.move (.tmp 1)), 9, "", #[], none⟩,
  ⟨(some 13), (.call ⟨(.value (.func 75)), #[(.tmp 12)], #[9]⟩), 114, "", #[⟨0, .chain⟩], none⟩,
  ⟨(some 11), (.move (.tmp 13)), 114, "", #[], none⟩,
  ⟨(some 14), (.extract (.tmp 11) 0), 113, "", #[], none⟩,
  ⟨(some 15), (.extract (.tmp 11) 1), 113, "", #[], none⟩,
  ⟨(some 5), (.assign (.tmp 14)), 113, "", #[], none⟩,
  ⟨(some 6), (.assign (.tmp 15)), 113, "", #[], none⟩]
def F74.r2 : List Oper := [
  ⟨(some 16), (.move (.tmp 1)), 9, "", #[], none⟩,
  ⟨(some 17), (.call ⟨(.builtin .len), #[(.tmp 16)], #[9]⟩), 3, "", #[], none⟩,
  ⟨(some 7), (.assign (.tmp 17)), 3, "", #[], none⟩]
def F74.r3 : List Oper := [
  ⟨(some 8), (.assign (.const (.int .u32 0))), 113, "", #[], none⟩]
def F74.r4 : List Oper := [
  ⟨(some 9), (.assign (.const (.int .i64 0))), 3, "", #[], none⟩]
def F74.r5 : List Oper := [
  ⟨(some 18), (.move (.tmp 9)), 3, "", #[], none⟩,
  ⟨(some 19), (.move (.tmp 7)), 3, "", #[], none⟩,
  ⟨(some 20), (.binOp .lss 3 (.tmp 18) (.tmp 19) 3), 4, "", #[], none⟩]
def F74.r7 : List Oper := [
  ⟨(some 23), (.move (.tmp 8)), 113, "", #[], none⟩,
  ⟨(some 24), (.binOp .mul 113 (.tmp 23) (.const (.int .u32 16777619)) 113), 113, "", #[], none⟩,
  ⟨(some 25), (.move (.tmp 0)), 9, "", #[], none⟩,
  ⟨(some 26), (.move (.tmp 9)), 3, "", #[], none⟩,
  ⟨(some 27), (.index 9 (.tmp 25) (.tmp 26)), 5, "", #[], none⟩,
  ⟨(some 28), (.convert 5 113 (.tmp 27)), 113, "", #[], none⟩,
  ⟨(some 29), (.binOp .add 113 (.tmp 24) (.tmp 28) 113), 113, "", #[], none⟩,
  ⟨(some 8), (.assign (.tmp 29)), 113, "", #[], none⟩]
def F74.r6 : List Oper := [
  ⟨(some 21), (.move (.tmp 9)), 3, "", #[], none⟩,
  ⟨(some 22), (.binOp .add 3 (.tmp 21) (.const (.int .i64 1)) 3), 3, "", #[], none⟩,
  ⟨(some 9), (.assign (.tmp 22)), 3, "", #[], none⟩]
def F74.r8 : List Oper := [
  ⟨(some 30), (.move (.tmp 8)), 113, "", #[], none⟩,
  ⟨(some 31), (.move (.tmp 5)), 113, "", #[], none⟩,
  ⟨(some 32), (.binOp .eql 113 (.tmp 30) (.tmp 31) 113), 4, "", #[], none⟩,
  ⟨(some 33), (.move (.tmp 32)), 4, "", #[], none⟩,
  ⟨(some 34), (.move (.tmp 0)), 9, "", #[], (some (33, true))⟩,
  ⟨(some 35), (.move (.tmp 7)), 3, "", #[], (some (33, true))⟩,
  ⟨(some 36), (.slice 9 (.tmp 34) none (some (.tmp 35)) none), 9, "", #[], (some (33, true))⟩,
  ⟨(some 37), (.move (.tmp 1)), 9, "", #[], (some (33, true))⟩,
  ⟨(some 38), (.binOp .eql 9 (.tmp 36) (.tmp 37) 9), 4, "", #[], (some (33, true))⟩,
  ⟨(some 39), (.pick (.tmp 33) (.tmp 38) (.const (.bool false))), 4, "", #[], none⟩]
def F74.r9 : List Oper := [
  ⟨(some 4), (.assign (.const (.int .i64 0))), 3, "", #[], none⟩]
def F74.r10 : List Oper := [
  ⟨(some 40), (.move (.tmp 7)), 3, "", #[], none⟩,
  ⟨(some 10), (.assign (.tmp 40)), 3, "", #[], none⟩]
def F74.r11 : List Oper := [
  ⟨(some 41), (.move (.tmp 10)), 3, "", #[], none⟩,
  ⟨(some 42), (.move (.tmp 0)), 9, "", #[], none⟩,
  ⟨(some 43), (.call ⟨(.builtin .len), #[(.tmp 42)], #[9]⟩), 3, "", #[], none⟩,
  ⟨(some 44), (.binOp .lss 3 (.tmp 41) (.tmp 43) 3), 4, "", #[], none⟩]
def F74.r12 : List Oper := [
  ⟨(some 45), (.move (.tmp 8)), 113, "", #[], none⟩,
  ⟨(some 46), (.binOp .mul 113 (.tmp 45) (.const (.int .u32 16777619)) 113), 113, "", #[], none⟩,
  ⟨(some 8), (.assign (.tmp 46)), 113, "", #[], none⟩]
def F74.r13 : List Oper := [
  ⟨(some 47), (.move (.tmp 8)), 113, "", #[], none⟩,
  ⟨(some 48), (.move (.tmp 0)), 9, "", #[], none⟩,
  ⟨(some 49), (.move (.tmp 10)), 3, "", #[], none⟩,
  ⟨(some 50), (.index 9 (.tmp 48) (.tmp 49)), 5, "", #[], none⟩,
  ⟨(some 51), (.convert 5 113 (.tmp 50)), 113, "", #[], none⟩,
  ⟨(some 52), (.binOp .add 113 (.tmp 47) (.tmp 51) 113), 113, "", #[], none⟩,
  ⟨(some 8), (.assign (.tmp 52)), 113, "", #[], none⟩]
def F74.r14 : List Oper := [
  ⟨(some 53), (.move (.tmp 8)), 113, "", #[], none⟩,
  ⟨(some 54), (.move (.tmp 6)), 113, "", #[], none⟩,
  ⟨(some 55), (.move (.tmp 0)), 9, "", #[], none⟩,
  ⟨(some 56), (.move (.tmp 10)), 3, "", #[], none⟩,
  ⟨(some 57), (.move (.tmp 7)), 3, "", #[], none⟩,
  ⟨(some 58), (.binOp .sub 3 (.tmp 56) (.tmp 57) 3), 3, "", #[], none⟩,
  ⟨(some 59), (.index 9 (.tmp 55) (.tmp 58)), 5, "", #[], none⟩,
  ⟨(some 60), (.convert 5 113 (.tmp 59)), 113, "", #[], none⟩,
  ⟨(some 61), (.binOp .mul 113 (.tmp 54) (.tmp 60) 113), 113, "", #[], none⟩,
  ⟨(some 62), (.binOp .sub 113 (.tmp 53) (.tmp 61) 113), 113, "", #[], none⟩,
  ⟨(some 8), (.assign (.tmp 62)), 113, "", #[], none⟩]
def F74.r15 : List Oper := [
  ⟨(some 63), (.move (.tmp 10)), 3, "", #[], none⟩,
  ⟨(some 64), (.binOp .add 3 (.tmp 63) (.const (.int .i64 1)) 3), 3, "", #[], none⟩,
  ⟨(some 10), (.assign (.tmp 64)), 3, "", #[], none⟩]
def F74.r16 : List Oper := [
  ⟨(some 65), (.move (.tmp 8)), 113, "", #[], none⟩,
  ⟨(some 66), (.move (.tmp 5)), 113, "", #[], none⟩,
  ⟨(some 67), (.binOp .eql 113 (.tmp 65) (.tmp 66) 113), 4, "", #[], none⟩,
  ⟨(some 68), (.move (.tmp 67)), 4, "", #[], none⟩,
  ⟨(some 69), (.move (.tmp 0)), 9, "", #[], (some (68, true))⟩,
  ⟨(some 70), (.move (.tmp 10)), 3, "", #[], (some (68, true))⟩,
  ⟨(some 71), (.move (.tmp 7)), 3, "", #[], (some (68, true))⟩,
  ⟨(some 72), (.binOp .sub 3 (.tmp 70) (.tmp 71) 3), 3, "", #[], (some (68, true))⟩,
  ⟨(some 73), (.move (.tmp 10)), 3, "", #[], (some (68, true))⟩,
  ⟨(some 74), (.slice 9 (.tmp 69) (some (.tmp 72)) (some (.tmp 73)) none), 9, "", #[], (some (68, true))⟩,
  ⟨(some 75), (.move (.tmp 1)), 9, "", #[], (some (68, true))⟩,
  ⟨(some 76), (.binOp .eql 9 (.tmp 74) (.tmp 75) 9), 4, "", #[], (some (68, true))⟩,
  ⟨(some 77), (.pick (.tmp 68) (.tmp 76) (.const (.bool false))), 4, "", #[], none⟩]
def F74.r17 : List Oper := [
  ⟨(some 78), (.move (.tmp 10)), 3, "", #[], none⟩,
  ⟨(some 79), (.move (.tmp 7)), 3, "", #[], none⟩,
  ⟨(some 80), (.binOp .sub 3 (.tmp 78) (.tmp 79) 3), 3, "", #[], none⟩,
  ⟨(some 4), (.assign (.tmp 80)), 3, "", #[], none⟩]
def F74.r18 : List Oper := [
  ⟨(some 4), (.assign (.const (.int .i64 (-1)))), 3, "", #[], none⟩]
def F74.t6 : Cd := (.region 6 F74.r6.toArray false)
theorem F74.t6_eq {P : Program} {Q : Post} {e : FA} {w : World} {θ : Tag (F74.t6, Q, e, w)} : cwE P F74.t6 Q e w θ = cwE P (.region 6 F74.r6.toArray false) Q e w := rfl
def F74.t7 : Cd := (.seq (.block 1 (.region 7 F74.r7.toArray false)) F74.t6)
theorem F74.t7_eq {P : Program} {Q : Post} {e : FA} {w : World} {θ : Tag (F74.t7, Q, e, w)} : cwE P F74.t7 Q e w θ = cwE P (.seq (.block 1 (.region 7 F74.r7.toArray false)) F74.t6) Q e w := rfl
def F74.t12 : Cd := (.block 3 (.seq (.region 12 F74.r12.toArray false) (.seq (.region 13 F74.r13.toArray false) (.seq (.region 14 F74.r14.toArray false) (.seq (.region 15 F74.r15.toArray false) (.seq (.region 16 F74.r16.toArray false) (.cond (.tmp 77) (.seq (.region 17 F74.r17.toArray false) .ret) .skip)))))))
theorem F74.t12_eq {P : Program} {Q : Post} {e : FA} {w : World} {θ : Tag (F74.t12, Q, e, w)} : cwE P F74.t12 Q e w θ = cwE P (.block 3 (.seq (.region 12 F74.r12.toArray false) (.seq (.region 13 F74.r13.toArray false) (.seq (.region 14 F74.r14.toArray false) (.seq (.region 15 F74.r15.toArray false) (.seq (.region 16 F74.r16.toArray false) (.cond (.tmp 77) (.seq (.region 17 F74.r17.toArray false) .ret) .skip))))))) Q e w := rfl
def F74.t18 : Cd := (.seq (.region 18 F74.r18.toArray false) .ret)
theorem F74.t18_eq {P : Program} {Q : Post} {e : FA} {w : World} {θ : Tag (F74.t18, Q, e, w)} : cwE P F74.t18 Q e w θ = cwE P (.seq (.region 18 F74.r18.toArray false) .ret) Q e w := rfl
def F74.t10 : Cd := (.seq (.seq (.region 10 F74.r10.toArray false) (.block 2 (.loop (.seq (.seq (.region 11 F74.r11.toArray false) (.cond (.tmp 44) .skip (.exit 2))) F74.t12)))) F74.t18)
theorem F74.t10_eq {P : Program} {Q : Post} {e : FA} {w : World} {θ : Tag (F74.t10, Q, e, w)} : cwE P F74.t10 Q e w θ = cwE P (.seq (.seq (.region 10 F74.r10.toArray false) (.block 2 (.loop (.seq (.seq (.region 11 F74.r11.toArray false) (.cond (.tmp 44) .skip (.exit 2))) F74.t12)))) F74.t18) Q e w := rfl
def F74.t8 : Cd := (.seq (.seq (.region 8 F74.r8.toArray false) (.cond (.tmp 39) (.seq (.region 9 F74.r9.toArray false) .ret) .skip)) F74.t10)
theorem F74.t8_eq {P : Program} {Q : Post} {e : FA} {w : World} {θ : Tag (F74.t8, Q, e, w)} : cwE P F74.t8 Q e w θ = cwE P (.seq (.seq (.region 8 F74.r8.toArray false) (.cond (.tmp 39) (.seq (.region 9 F74.r9.toArray false) .ret) .skip)) F74.t10) Q e w := rfl
def F74.code : Cd := (.seq (.region 0 F74.r0.toArray false) (.seq (.region 1 F74.r1.toArray false) (.seq (.region 2 F74.r2.toArray false) (.seq (.region 3 F74.r3.toArray false) (.seq (.seq (.region 4 F74.r4.toArray false) (.block 0 (.loop (.seq (.seq (.region 5 F74.r5.toArray false) (.cond (.tmp 20) .skip (.exit 0))) F74.t7)))) F74.t8)))))
theorem F74.calls {args : Array Value} {w : World} {R : Ending → World → Prop} (hn : args.size ≤ 81) (h : cwE Tryd.prog F74.code (fnP Tryd.prog #[(.tmp 4)] R) (entry args) w) : Calls Tryd.prog 74 args w R :=
  calls_of_cwE (types := Tryd.prog.types) follows Tryd.func74 F74.code rfl (by kernel_rfl) hn h

def F75.r0 : List Oper := [
  ⟨(some 2), (.assign (.const (.int .u32 0))), 113, "", #[], none⟩,
  ⟨(some 3), (.assign (.const (.int .u32 0))), 113, "", #[], none⟩]
def F75.r1 : List Oper := [
  ⟨(some 4), (.assign (.const (.int .u32 0))), 113, "", #[], none⟩]
def F75.r2 : List Oper := [
  ⟨(some 5), (.assign (.const (.int .i64 0))), 3, "", #[], none⟩]
def F75.r3 : List Oper := [
  ⟨(some 9), (.move (.tmp 5)), 3, "", #[], none⟩,
  ⟨(some 10), (.move (.tmp 0)), 9, "", #[], none⟩,
  ⟨(some 11), (.call ⟨(.builtin .len), #[(.tmp 10)], #[9]⟩), 3, "", #[], none⟩,
  ⟨(some 12), (.binOp .lss 3 (.tmp 9) (.tmp 11) 3), 4, "", #[], none⟩]
def F75.r5 : List Oper := [
  ⟨(some 15), (.move (.tmp 4)), 113, "", #[], none⟩,
  ⟨(some 16), (.binOp .mul 113 (.tmp 15) (.const (.int .u32 16777619)) 113), 113, "", #[], none⟩,
  ⟨(some 17), (.move (.tmp 0)), 9, "", #[], none⟩,
  ⟨(some 18), (.move (.tmp 5)), 3, "", #[], none⟩,
  ⟨(some 19), (.index 9 (.tmp 17) (.tmp 18)), 5, "", #[], none⟩,
  ⟨(some 20), (.convert 5 113 (.tmp 19)), 113, "", #[], none⟩,
  ⟨(some 21), (.binOp .add 113 (.tmp 16) (.tmp 20) 113), 113, "", #[], none⟩,
  ⟨(some 4), (.assign (.tmp 21)), 113, "", #[], none⟩]
def F75.r4 : List Oper := [
  ⟨(some 13), (.move (.tmp 5)), 3, "", #[], none⟩,
  ⟨(some 14), (.binOp .add 3 (.tmp 13) (.const (.int .i64 1)) 3), 3, "", #[], none⟩,
  ⟨(some 5), (.assign (.tmp 14)), 3, "", #[], none⟩]
def F75.r6 : List Oper := [
  ⟨(some 6), (.assign (.const (.int .u32 1))), 113, "", #[], none⟩,
  ⟨(some 7), (.assign (.const (.int .u32 16777619))), 113, "", #[], none⟩]
def F75.r7 : List Oper := [
  ⟨(some 22), (.move (.tmp 0)), 9, "", #[], none⟩,
  ⟨(some 23), (.call ⟨(.builtin .len), #[(.tmp 22)], #[9]⟩), 3, "", #[], none⟩,
  ⟨(some 8), (.assign (.tmp 23)), 3, "", #[], none⟩]
def F75.r8 : List Oper := [
  ⟨(some 24), (.move (.tmp 8)), 3, "", #[], none⟩,
  ⟨(some 25), (.binOp .gtr 3 (.tmp 24) (.const (.int .i64 0)) 3), 4, "", #[], none⟩]
def F75.r10 : List Oper := [
  ⟨(some 28), (.move (.tmp 8)), 3, "", #[], none⟩,
  ⟨(some 29), (.binOp .and 3 (.tmp 28) (.const (.int .i64 1)) 3), 3, "", #[], none⟩,
  ⟨(some 30), (.binOp .neq 3 (.tmp 29) (.const (.int .i64 0)) 3), 4, "", #[], none⟩]
def F75.r11 : List Oper := [
  ⟨(some 31), (.move (.tmp 6)), 113, "", #[], none⟩,
  ⟨(some 32), (.move (.tmp 7)), 113, "", #[], none⟩,
  ⟨(some 33), (.binOp .mul 113 (.tmp 31) (.tmp 32) 113), 113, "", #[], none⟩,
  ⟨(some 6), (.assign (.tmp 33)), 113, "", #[], none⟩]
def F75.r12 : List Oper := [
  ⟨(some 34), (.move (.tmp 7)), 113, "", #[], none⟩,
  ⟨(some 35), (.move (.tmp 7)), 113, "", #[], none⟩,
  ⟨(some 36), (.binOp .mul 113 (.tmp 34) (.tmp 35) 113), 113, "", #[], none⟩,
  ⟨(some 7), (.assign (.tmp 36)), 113, "", #[], none⟩]
def F75.r9 : List Oper := [
  ⟨(some 26), (.move (.tmp 8)), 3, "", #[], none⟩,
  ⟨(some 27), (.binOp .shr 3 (.tmp 26) (.const (.int .u64 1)) 79), 3, "", #[], none⟩,
  ⟨(some 8), (.assign (.tmp 27)), 3, "", #[], none⟩]
def F75.r13 : List Oper := [
  ⟨(some 37), (.move (.tmp 4)), 113, "", #[], none⟩,
  ⟨(some 38), (.move (.tmp 6)), 113, "", #[], none⟩,
  ⟨(some 2), (.assign (.tmp 37)), 113, "", #[], none⟩,
  ⟨(some 3), (.assign (.tmp 38)), 113, "", #[], none⟩]
def F75.t4 : Cd := (.region 4 F75.r4.toArray false)
theorem F75.t4_eq {P : Program} {Q : Post} {e : FA} {w : World} {θ : Tag (F75.t4, Q, e, w)} : cwE P F75.t4 Q e w θ = cwE P (.region 4 F75.r4.toArray false) Q e w := rfl
def F75.t5 : Cd := (.seq (.block 1 (.region 5 F75.r5.toArray false)) F75.t4)
theorem F75.t5_eq {P : Program} {Q : Post} {e : FA} {w : World} {θ : Tag (F75.t5, Q, e, w)} : cwE P F75.t5 Q e w θ = cwE P (.seq (.block 1 (.region 5 F75.r5.toArray false)) F75.t4) Q e w := rfl
def F75.t12 : Cd := (.region 12 F75.r12.toArray false)
theorem F75.t12_eq {P : Program} {Q : Post} {e : FA} {w : World} {θ : Tag (F75.t12, Q, e, w)} : cwE P F75.t12 Q e w θ = cwE P (.region 12 F75.r12.toArray false) Q e w := rfl
def F75.t9 : Cd := (.region 9 F75.r9.toArray false)
theorem F75.t9_eq {P : Program} {Q : Post} {e : FA} {w : World} {θ : Tag (F75.t9, Q, e, w)} : cwE P F75.t9 Q e w θ = cwE P (.region 9 F75.r9.toArray false) Q e w := rfl
def F75.t10 : Cd := (.seq (.block 3 (.seq (.seq (.region 10 F75.r10.toArray false) (.cond (.tmp 30) (.region 11 F75.r11.toArray false) .skip)) F75.t12)) F75.t9)
theorem F75.t10_eq {P : Program} {Q : Post} {e : FA} {w : World} {θ : Tag (F75.t10, Q, e, w)} : cwE P F75.t10 Q e w θ = cwE P (.seq (.block 3 (.seq (.seq (.region 10 F75.r10.toArray false) (.cond (.tmp 30) (.region 11 F75.r11.toArray false) .skip)) F75.t12)) F75.t9) Q e w := rfl
def F75.t13 : Cd := (.seq (.region 13 F75.r13.toArray false) .ret)
theorem F75.t13_eq {P : Program} {Q : Post} {e : FA} {w : World} {θ : Tag (F75.t13, Q, e, w)} : cwE P F75.t13 Q e w θ = cwE P (.seq (.region 13 F75.r13.toArray false) .ret) Q e w := rfl
def F75.t6 : Cd := (.seq (.region 6 F75.r6.toArray false) (.seq (.seq (.region 7 F75.r7.toArray false) (.block 2 (.loop (.seq (.seq (.region 8 F75.r8.toArray false) (.cond (.tmp 25) .skip (.exit 2))) F75.t10)))) F75.t13))
theorem F75.t6_eq {P : Program} {Q : Post} {e : FA} {w : World} {θ : Tag (F75.t6, Q, e, w)} : cwE P F75.t6 Q e w θ = cwE P (.seq (.region 6 F75.r6.toArray false) (.seq (.seq (.region 7 F75.r7.toArray false) (.block 2 (.loop (.seq (.seq (.region 8 F75.r8.toArray false) (.cond (.tmp 25) .skip (.exit 2))) F75.t10)))) F75.t13)) Q e w := rfl
def F75.code : Cd := (.seq (.region 0 F75.r0.toArray false) (.seq (.region 1 F75.r1.toArray false) (.seq (.seq (.region 2 F75.r2.toArray false) (.block 0 (.loop (.seq (.seq (.region 3 F75.r3.toArray false) (.cond (.tmp 12) .skip (.exit 0))) F75.t5)))) F75.t6)))
theorem F75.calls {args : Array Value} {w : World} {R : Ending → World → Prop} (hn : args.size ≤ 39) (h : cwE Tryd.prog F75.code (fnP Tryd.prog #[(.tmp 2), (.tmp 3)] R) (entry args) w) : Calls Tryd.prog 75 args w R :=
  calls_of_cwE (types := Tryd.prog.types) follows Tryd.func75 F75.code rfl (by kernel_rfl) hn h

attribute [go_sem] fact_aggSz_111
attribute [go_sem] fact_aggSz_21
attribute [go_sem] fact_aggSz_24
attribute [go_sem] fact_aggSz_26
attribute [go_sem] fact_aggSz_27
attribute [go_sem] fact_aggSz_3
attribute [go_sem] fact_aggSz_4
attribute [go_sem] fact_aggSz_5
attribute [go_sem] fact_aggSz_56
attribute [go_sem] fact_aggSz_59
attribute [go_sem] fact_aggSz_60
attribute [go_sem] fact_aggSz_62
attribute [go_sem] fact_aggSz_69
attribute [go_sem] fact_aggSz_70
attribute [go_sem] fact_aggSz_88
attribute [go_sem] fact_aggSz_9
attribute [go_sem] fact_aggSz_94
attribute [go_sem] fact_arrEx_9
attribute [go_sem] fact_bldP_26
attribute [go_sem] fact_bldP_62
attribute [go_sem] fact_bldP_82
attribute [go_sem] fact_bldP_86
attribute [go_sem] fact_bldP_90
attribute [go_sem] fact_bldP_94
attribute [go_sem] fact_elemOf_109
attribute [go_sem] fact_elemOf_112
attribute [go_sem] fact_elemOf_23
attribute [go_sem] fact_elemOf_24
attribute [go_sem] fact_elemOf_56
attribute [go_sem] fact_elemOf_59
attribute [go_sem] fact_elemOf_60
attribute [go_sem] fact_elemOf_70
attribute [go_sem] fact_elemOf_88
attribute [go_sem] fact_elemOf_9
attribute [go_sem] fact_fieldOff_111_0
attribute [go_sem] fact_fieldOff_111_1
attribute [go_sem] fact_fieldOff_26_0
attribute [go_sem] fact_fieldOff_26_1
attribute [go_sem] fact_fieldOff_62_0
attribute [go_sem] fact_fieldOff_62_1
attribute [go_sem] fact_fieldOff_62_2
attribute [go_sem] fact_fieldOff_72_0
attribute [go_sem] fact_fieldOff_72_1
attribute [go_sem] fact_fieldOff_90_0
attribute [go_sem] fact_fieldOff_90_1
attribute [go_sem] fact_fieldOff_94_0
attribute [go_sem] fact_fieldOff_94_1
attribute [go_sem] fact_fnOk_10
attribute [go_sem] fact_fnOk_11
attribute [go_sem] fact_fnOk_12
attribute [go_sem] fact_fnOk_13
attribute [go_sem] fact_fnOk_14
attribute [go_sem] fact_fnOk_15
attribute [go_sem] fact_fnOk_16
attribute [go_sem] fact_fnOk_17
attribute [go_sem] fact_fnOk_18
attribute [go_sem] fact_fnOk_19
attribute [go_sem] fact_fnOk_20
attribute [go_sem] fact_fnOk_21
attribute [go_sem] fact_fnOk_22
attribute [go_sem] fact_fnOk_23
attribute [go_sem] fact_fnOk_24
attribute [go_sem] fact_fnOk_25
attribute [go_sem] fact_fnOk_26
attribute [go_sem] fact_fnOk_27
attribute [go_sem] fact_fnOk_28
attribute [go_sem] fact_fnOk_29
attribute [go_sem] fact_fnOk_30
attribute [go_sem] fact_fnOk_31
attribute [go_sem] fact_fnOk_32
attribute [go_sem] fact_fnOk_33
attribute [go_sem] fact_fnOk_34
attribute [go_sem] fact_fnOk_35
attribute [go_sem] fact_fnOk_36
attribute [go_sem] fact_fnOk_37
attribute [go_sem] fact_fnOk_38
attribute [go_sem] fact_fnOk_39
attribute [go_sem] fact_fnOk_40
attribute [go_sem] fact_fnOk_41
attribute [go_sem] fact_fnOk_42
attribute [go_sem] fact_fnOk_43
attribute [go_sem] fact_fnOk_44
attribute [go_sem] fact_fnOk_45
attribute [go_sem] fact_fnOk_46
attribute [go_sem] fact_fnOk_47
attribute [go_sem] fact_fnOk_48
attribute [go_sem] fact_fnOk_49
attribute [go_sem] fact_fnOk_50
attribute [go_sem] fact_fnOk_51
attribute [go_sem] fact_fnOk_52
attribute [go_sem] fact_fnOk_53
attribute [go_sem] fact_fnOk_54
attribute [go_sem] fact_fnOk_55
attribute [go_sem] fact_fnOk_56
attribute [go_sem] fact_fnOk_57
attribute [go_sem] fact_fnOk_58
attribute [go_sem] fact_fnOk_59
attribute [go_sem] fact_fnOk_60
attribute [go_sem] fact_fnOk_61
attribute [go_sem] fact_fnOk_62
attribute [go_sem] fact_fnOk_63
attribute [go_sem] fact_fnOk_65
attribute [go_sem] fact_fnOk_66
attribute [go_sem] fact_fnOk_68
attribute [go_sem] fact_fnOk_69
attribute [go_sem] fact_fnOk_73
attribute [go_sem] fact_fnOk_74
attribute [go_sem] fact_fnOk_75
attribute [go_sem] fact_szO_111
attribute [go_sem] fact_szO_21
attribute [go_sem] fact_szO_24
attribute [go_sem] fact_szO_26
attribute [go_sem] fact_szO_27
attribute [go_sem] fact_szO_3
attribute [go_sem] fact_szO_4
attribute [go_sem] fact_szO_56
attribute [go_sem] fact_szO_59
attribute [go_sem] fact_szO_60
attribute [go_sem] fact_szO_62
attribute [go_sem] fact_szO_69
attribute [go_sem] fact_szO_70
attribute [go_sem] fact_szO_82
attribute [go_sem] fact_szO_86
attribute [go_sem] fact_szO_88
attribute [go_sem] fact_szO_9
attribute [go_sem] fact_szO_94
attribute [go_sem] fact_zeroV_111
attribute [go_sem] fact_zeroV_24
attribute [go_sem] fact_zeroV_26
attribute [go_sem] fact_zeroV_27
attribute [go_sem] fact_zeroV_4
attribute [go_sem] fact_zeroV_56
attribute [go_sem] fact_zeroV_59
attribute [go_sem] fact_zeroV_62
attribute [go_sem] fact_zeroV_72
attribute [go_sem] fact_zeroV_82
attribute [go_sem] fact_zeroV_86
attribute [go_sem] fact_zeroV_94
attribute [go_sem] Tryd.underlying3
attribute [go_sem] Tryd.underlying4
attribute [go_sem] Tryd.underlying5
attribute [go_sem] Tryd.underlying9
attribute [go_sem] Tryd.underlying20
attribute [go_sem] Tryd.underlying21
attribute [go_sem] Tryd.underlying23
attribute [go_sem] Tryd.underlying24
attribute [go_sem] Tryd.underlying56
attribute [go_sem] Tryd.underlying60
attribute [go_sem] Tryd.underlying69
attribute [go_sem] Tryd.underlying70
attribute [go_sem] Tryd.underlying88
attribute [go_sem] Tryd.underlying105
attribute [go_sem] Tryd.underlying113
attribute [go_sem] F3.r0
attribute [go_sem] F3.r1
attribute [go_sem] F3.r2
attribute [go_sem] F4.r0
attribute [go_sem] F4.r1
attribute [go_sem] F4.r2
attribute [go_sem] F4.r3
attribute [go_sem] F4.r4
attribute [go_sem] F4.r5
attribute [go_sem] F4.r6
attribute [go_sem] F4.r7
attribute [go_sem] F4.r8
attribute [go_sem] F4.r9
attribute [go_sem] F4.r10
attribute [go_sem] F4.r11
attribute [go_sem] F4.r12
attribute [go_sem] F4.r13
attribute [go_sem] F4.r14
attribute [go_sem] F4.r15
attribute [go_sem] F4.r16
attribute [go_sem] F4.r17
attribute [go_sem] F4.r18
attribute [go_sem] F4.r19
attribute [go_sem] F4.r20
attribute [go_sem] F4.r21
attribute [go_sem] F4.r22
attribute [go_sem] F4.r23
attribute [go_sem] F5.r0
attribute [go_sem] F5.r1
attribute [go_sem] F5.r2
attribute [go_sem] F5.r3
attribute [go_sem] F5.r4
attribute [go_sem] F5.r5
attribute [go_sem] F5.r6
attribute [go_sem] F5.r7
attribute [go_sem] F5.r8
attribute [go_sem] F5.r9
attribute [go_sem] F5.r10
attribute [go_sem] F5.r11
attribute [go_sem] F5.r12
attribute [go_sem] F5.r13
attribute [go_sem] F5.r14
attribute [go_sem] F5.r15
attribute [go_sem] F5.r16
attribute [go_sem] F5.r17
attribute [go_sem] F6.r0
attribute [go_sem] F6.r1
attribute [go_sem] F6.r2
attribute [go_sem] F6.r3
attribute [go_sem] F6.r4
attribute [go_sem] F6.r5
attribute [go_sem] F6.r6
attribute [go_sem] F6.r7
attribute [go_sem] F6.r8
attribute [go_sem] F6.r9
attribute [go_sem] F6.r10
attribute [go_sem] F6.r11
attribute [go_sem] F6.r12
attribute [go_sem] F6.r14
attribute [go_sem] F6.r15
attribute [go_sem] F6.r13
attribute [go_sem] F6.r16
attribute [go_sem] F6.r17
attribute [go_sem] F6.r18
attribute [go_sem] F6.r19
attribute [go_sem] F6.r20
attribute [go_sem] F6.r21
attribute [go_sem] F6.r22
attribute [go_sem] F6.r23
attribute [go_sem] F7.r0
attribute [go_sem] F7.r1
attribute [go_sem] F7.r2
attribute [go_sem] F7.r3
attribute [go_sem] F7.r4
attribute [go_sem] F7.r5
attribute [go_sem] F7.r6
attribute [go_sem] F7.r7
attribute [go_sem] F7.r8
attribute [go_sem] F7.r9
attribute [go_sem] F7.r10
attribute [go_sem] F7.r11
attribute [go_sem] F7.r12
attribute [go_sem] F7.r13
attribute [go_sem] F7.r14
attribute [go_sem] F7.r15
attribute [go_sem] F7.r16
attribute [go_sem] F7.r18
attribute [go_sem] F7.r19
attribute [go_sem] F7.r20
attribute [go_sem] F7.r21
attribute [go_sem] F7.r17
attribute [go_sem] F7.r22
attribute [go_sem] F7.r23
attribute [go_sem] F7.r24
attribute [go_sem] F8.r0
attribute [go_sem] F8.r1
attribute [go_sem] F8.r2
attribute [go_sem] F8.r3
attribute [go_sem] F8.r4
attribute [go_sem] F8.r5
attribute [go_sem] F8.r6
attribute [go_sem] F8.r7
attribute [go_sem] F8.r8
attribute [go_sem] F8.r9
attribute [go_sem] F8.r10
attribute [go_sem] F8.r11
attribute [go_sem] F8.r12
attribute [go_sem] F8.r14
attribute [go_sem] F8.r15
attribute [go_sem] F8.r16
attribute [go_sem] F8.r17
attribute [go_sem] F8.r13
attribute [go_sem] F8.r18
attribute [go_sem] F8.r19
attribute [go_sem] F8.r20
attribute [go_sem] F8.r21
attribute [go_sem] F8.r22
attribute [go_sem] F8.r23
attribute [go_sem] F8.r24
attribute [go_sem] F8.r25
attribute [go_sem] F8.r26
attribute [go_sem] F8.r27
attribute [go_sem] F9.r0
attribute [go_sem] F9.r1
attribute [go_sem] F9.r2
attribute [go_sem] F9.r3
attribute [go_sem] F9.r4
attribute [go_sem] F9.r5
attribute [go_sem] F9.r6
attribute [go_sem] F9.r7
attribute [go_sem] F9.r8
attribute [go_sem] F9.r10
attribute [go_sem] F9.r11
attribute [go_sem] F9.r12
attribute [go_sem] F9.r13
attribute [go_sem] F9.r14
attribute [go_sem] F9.r15
attribute [go_sem] F9.r16
attribute [go_sem] F9.r17
attribute [go_sem] F9.r18
attribute [go_sem] F9.r19
attribute [go_sem] F9.r20
attribute [go_sem] F9.r21
attribute [go_sem] F9.r22
attribute [go_sem] F9.r24
attribute [go_sem] F9.r25
attribute [go_sem] F9.r23
attribute [go_sem] F9.r26
attribute [go_sem] F9.r27
attribute [go_sem] F9.r28
attribute [go_sem] F9.r29
attribute [go_sem] F9.r30
attribute [go_sem] F9.r9
attribute [go_sem] F9.r31
attribute [go_sem] F9.r32
attribute [go_sem] F9.r33
attribute [go_sem] F10.r0
attribute [go_sem] F10.r1
attribute [go_sem] F10.r2
attribute [go_sem] F10.r3
attribute [go_sem] F10.r4
attribute [go_sem] F11.r0
attribute [go_sem] F11.r1
attribute [go_sem] F11.r2
attribute [go_sem] F11.r3
attribute [go_sem] F11.r4
attribute [go_sem] F11.r6
attribute [go_sem] F11.r7
attribute [go_sem] F11.r8
attribute [go_sem] F11.r9
attribute [go_sem] F11.r10
attribute [go_sem] F11.r5
attribute [go_sem] F11.r11
attribute [go_sem] F11.r12
attribute [go_sem] F12.r0
attribute [go_sem] F12.r1
attribute [go_sem] F12.r2
attribute [go_sem] F12.r3
attribute [go_sem] F12.r4
attribute [go_sem] F12.r5
attribute [go_sem] F12.r6
attribute [go_sem] F12.r7
attribute [go_sem] F12.r8
attribute [go_sem] F12.r9
attribute [go_sem] F12.r10
attribute [go_sem] F12.r11
attribute [go_sem] F12.r12
attribute [go_sem] F12.r13
attribute [go_sem] F12.r14
attribute [go_sem] F12.r15
attribute [go_sem] F12.r16
attribute [go_sem] F13.r0
attribute [go_sem] F13.r1
attribute [go_sem] F13.r2
attribute [go_sem] F13.r3
attribute [go_sem] F13.r4
attribute [go_sem] F13.r6
attribute [go_sem] F13.r7
attribute [go_sem] F13.r8
attribute [go_sem] F13.r9
attribute [go_sem] F13.r10
attribute [go_sem] F13.r11
attribute [go_sem] F13.r12
attribute [go_sem] F13.r13
attribute [go_sem] F13.r14
attribute [go_sem] F13.r5
attribute [go_sem] F13.r15
attribute [go_sem] F14.r0
attribute [go_sem] F14.r1
attribute [go_sem] F14.r2
attribute [go_sem] F14.r3
attribute [go_sem] F14.r5
attribute [go_sem] F14.r6
attribute [go_sem] F14.r7
attribute [go_sem] F14.r8
attribute [go_sem] F14.r9
attribute [go_sem] F14.r10
attribute [go_sem] F14.r4
attribute [go_sem] F14.r11
attribute [go_sem] F15.r0
attribute [go_sem] F15.r1
attribute [go_sem] F15.r2
attribute [go_sem] F15.r3
attribute [go_sem] F15.r4
attribute [go_sem] F15.r5
attribute [go_sem] F15.r6
attribute [go_sem] F15.r7
attribute [go_sem] F15.r8
attribute [go_sem] F15.r9
attribute [go_sem] F15.r10
attribute [go_sem] F15.r11
attribute [go_sem] F15.r12
attribute [go_sem] F15.r13
attribute [go_sem] F15.r14
attribute [go_sem] F15.r15
attribute [go_sem] F15.r16
attribute [go_sem] F15.r17
attribute [go_sem] F15.r18
attribute [go_sem] F15.r19
attribute [go_sem] F15.r20
attribute [go_sem] F15.r21
attribute [go_sem] F15.r22
attribute [go_sem] F16.r0
attribute [go_sem] F16.r1
attribute [go_sem] F17.r0
attribute [go_sem] F17.r1
attribute [go_sem] F17.r2
attribute [go_sem] F17.r3
attribute [go_sem] F17.r4
attribute [go_sem] F17.r5
attribute [go_sem] F17.r6
attribute [go_sem] F17.r7
attribute [go_sem] F17.r8
attribute [go_sem] F17.r9
attribute [go_sem] F17.r10
attribute [go_sem] F17.r11
attribute [go_sem] F17.r12
attribute [go_sem] F17.r13
attribute [go_sem] F17.r14
attribute [go_sem] F17.r15
attribute [go_sem] F18.r0
attribute [go_sem] F18.r1
attribute [go_sem] F18.r2
attribute [go_sem] F18.r3
attribute [go_sem] F18.r4
attribute [go_sem] F18.r5
attribute [go_sem] F18.r6
attribute [go_sem] F19.r0
attribute [go_sem] F19.r1
attribute [go_sem] F19.r2
attribute [go_sem] F19.r3
attribute [go_sem] F19.r4
attribute [go_sem] F19.r5
attribute [go_sem] F19.r6
attribute [go_sem] F19.r7
attribute [go_sem] F19.r8
attribute [go_sem] F19.r9
attribute [go_sem] F20.r0
attribute [go_sem] F20.r1
attribute [go_sem] F20.r2
attribute [go_sem] F20.r3
attribute [go_sem] F20.r5
attribute [go_sem] F20.r4
attribute [go_sem] F20.r6
attribute [go_sem] F21.r0
attribute [go_sem] F21.r1
attribute [go_sem] F21.r2
attribute [go_sem] F21.r3
attribute [go_sem] F21.r4
attribute [go_sem] F21.r5
attribute [go_sem] F21.r7
attribute [go_sem] F21.r8
attribute [go_sem] F21.r6
attribute [go_sem] F21.r9
attribute [go_sem] F22.r0
attribute [go_sem] F22.r1
attribute [go_sem] F22.r2
attribute [go_sem] F22.r3
attribute [go_sem] F22.r4
attribute [go_sem] F22.r5
attribute [go_sem] F22.r7
attribute [go_sem] F22.r8
attribute [go_sem] F22.r10
attribute [go_sem] F22.r11
attribute [go_sem] F22.r12
attribute [go_sem] F22.r13
attribute [go_sem] F22.r14
attribute [go_sem] F22.r15
attribute [go_sem] F22.r16
attribute [go_sem] F22.r9
attribute [go_sem] F22.r6
attribute [go_sem] F22.r17
attribute [go_sem] F22.r18
attribute [go_sem] F22.r19
attribute [go_sem] F22.r20
attribute [go_sem] F23.r0
attribute [go_sem] F23.r1
attribute [go_sem] F23.r2
attribute [go_sem] F23.r3
attribute [go_sem] F23.r4
attribute [go_sem] F23.r5
attribute [go_sem] F23.r7
attribute [go_sem] F23.r8
attribute [go_sem] F23.r11
attribute [go_sem] F23.r12
attribute [go_sem] F23.r13
attribute [go_sem] F23.r14
attribute [go_sem] F23.r15
attribute [go_sem] F23.r16
attribute [go_sem] F23.r17
attribute [go_sem] F23.r18
attribute [go_sem] F23.r19
attribute [go_sem] F23.r20
attribute [go_sem] F23.r9
attribute [go_sem] F23.r10
attribute [go_sem] F23.r6
attribute [go_sem] F23.r21
attribute [go_sem] F23.r22
attribute [go_sem] F23.r23
attribute [go_sem] F24.r0
attribute [go_sem] F24.r1
attribute [go_sem] F24.r2
attribute [go_sem] F24.r3
attribute [go_sem] F24.r4
attribute [go_sem] F24.r6
attribute [go_sem] F24.r7
attribute [go_sem] F24.r5
attribute [go_sem] F24.r8
attribute [go_sem] F25.r0
attribute [go_sem] F25.r1
attribute [go_sem] F26.r0
attribute [go_sem] F26.r1
attribute [go_sem] F27.r0
attribute [go_sem] F27.r1
attribute [go_sem] F27.r2
attribute [go_sem] F27.r3
attribute [go_sem] F27.r4
attribute [go_sem] F27.r5
attribute [go_sem] F27.r6
attribute [go_sem] F27.r7
attribute [go_sem] F27.r8
attribute [go_sem] F27.r9
attribute [go_sem] F28.r0
attribute [go_sem] F28.r1
attribute [go_sem] F28.r2
attribute [go_sem] F28.r4
attribute [go_sem] F28.r5
attribute [go_sem] F28.r3
attribute [go_sem] F28.r6
attribute [go_sem] F29.r0
attribute [go_sem] F29.r1
attribute [go_sem] F29.r2
attribute [go_sem] F29.r3
attribute [go_sem] F29.r4
attribute [go_sem] F29.r5
attribute [go_sem] F29.r6
attribute [go_sem] F29.r7
attribute [go_sem] F29.r8
attribute [go_sem] F29.r9
attribute [go_sem] F29.r10
attribute [go_sem] F29.r11
attribute [go_sem] F29.r12
attribute [go_sem] F29.r13
attribute [go_sem] F29.r14
attribute [go_sem] F29.r15
attribute [go_sem] F29.r16
attribute [go_sem] F29.r17
attribute [go_sem] F29.r18
attribute [go_sem] F29.r19
attribute [go_sem] F29.r20
attribute [go_sem] F29.r21
attribute [go_sem] F30.r0
attribute [go_sem] F30.r1
attribute [go_sem] F31.r0
attribute [go_sem] F31.r1
attribute [go_sem] F31.r3
attribute [go_sem] F31.r2
attribute [go_sem] F32.r0
attribute [go_sem] F32.r1
attribute [go_sem] F32.r2
attribute [go_sem] F32.r3
attribute [go_sem] F32.r4
attribute [go_sem] F32.r5
attribute [go_sem] F32.r6
attribute [go_sem] F32.r7
attribute [go_sem] F33.r0
attribute [go_sem] F33.r1
attribute [go_sem] F33.r2
attribute [go_sem] F33.r3
attribute [go_sem] F33.r4
attribute [go_sem] F33.r5
attribute [go_sem] F33.r6
attribute [go_sem] F33.r7
attribute [go_sem] F34.r0
attribute [go_sem] F34.r1
attribute [go_sem] F34.r2
attribute [go_sem] F34.r3
attribute [go_sem] F34.r4
attribute [go_sem] F34.r5
attribute [go_sem] F34.r6
attribute [go_sem] F34.r7
attribute [go_sem] F34.r8
attribute [go_sem] F34.r9
attribute [go_sem] F34.r10
attribute [go_sem] F34.r11
attribute [go_sem] F34.r12
attribute [go_sem] F34.r13
attribute [go_sem] F34.r14
attribute [go_sem] F34.r15
attribute [go_sem] F34.r16
attribute [go_sem] F34.r17
attribute [go_sem] F34.r18
attribute [go_sem] F34.r19
attribute [go_sem] F34.r20
attribute [go_sem] F34.r21
attribute [go_sem] F34.r22
attribute [go_sem] F34.r23
attribute [go_sem] F34.r24
attribute [go_sem] F34.r25
attribute [go_sem] F34.r26
attribute [go_sem] F34.r27
attribute [go_sem] F35.r0
attribute [go_sem] F35.r1
attribute [go_sem] F35.r2
attribute [go_sem] F35.r3
attribute [go_sem] F35.r4
attribute [go_sem] F35.r5
attribute [go_sem] F36.r0
attribute [go_sem] F36.r1
attribute [go_sem] F36.r2
attribute [go_sem] F36.r3
attribute [go_sem] F36.r4
attribute [go_sem] F36.r5
attribute [go_sem] F36.r6
attribute [go_sem] F36.r7
attribute [go_sem] F36.r8
attribute [go_sem] F36.r9
attribute [go_sem] F37.r0
attribute [go_sem] F37.r1
attribute [go_sem] F37.r2
attribute [go_sem] F37.r3
attribute [go_sem] F38.r0
attribute [go_sem] F38.r1
attribute [go_sem] F39.r0
attribute [go_sem] F39.r1
attribute [go_sem] F39.r2
attribute [go_sem] F39.r3
attribute [go_sem] F40.r0
attribute [go_sem] F40.r1
attribute [go_sem] F41.r0
attribute [go_sem] F41.r3
attribute [go_sem] F41.r4
attribute [go_sem] F41.r5
attribute [go_sem] F41.r6
attribute [go_sem] F41.r7
attribute [go_sem] F41.r1
attribute [go_sem] F41.r2
attribute [go_sem] F42.r0
attribute [go_sem] F42.r1
attribute [go_sem] F42.r2
attribute [go_sem] F42.r4
attribute [go_sem] F42.r6
attribute [go_sem] F42.r7
attribute [go_sem] F42.r8
attribute [go_sem] F42.r9
attribute [go_sem] F42.r10
attribute [go_sem] F42.r11
attribute [go_sem] F42.r5
attribute [go_sem] F42.r3
attribute [go_sem] F42.r12
attribute [go_sem] F43.r0
attribute [go_sem] F43.r1
attribute [go_sem] F44.r0
attribute [go_sem] F44.r1
attribute [go_sem] F44.r2
attribute [go_sem] F44.r3
attribute [go_sem] F44.r4
attribute [go_sem] F44.r5
attribute [go_sem] F44.r6
attribute [go_sem] F44.r7
attribute [go_sem] F44.r8
attribute [go_sem] F44.r9
attribute [go_sem] F44.r10
attribute [go_sem] F44.r11
attribute [go_sem] F44.r12
attribute [go_sem] F44.r13
attribute [go_sem] F44.r14
attribute [go_sem] F44.r15
attribute [go_sem] F44.r16
attribute [go_sem] F44.r17
attribute [go_sem] F44.r18
attribute [go_sem] F45.r0
attribute [go_sem] F45.r1
attribute [go_sem] F46.r0
attribute [go_sem] F46.r3
attribute [go_sem] F46.r4
attribute [go_sem] F46.r5
attribute [go_sem] F46.r6
attribute [go_sem] F46.r7
attribute [go_sem] F46.r1
attribute [go_sem] F46.r2
attribute [go_sem] F47.r0
attribute [go_sem] F47.r1
attribute [go_sem] F48.r0
attribute [go_sem] F48.r1
attribute [go_sem] F48.r2
attribute [go_sem] F48.r3
attribute [go_sem] F49.r0
attribute [go_sem] F49.r1
attribute [go_sem] F49.r2
attribute [go_sem] F49.r3
attribute [go_sem] F49.r4
attribute [go_sem] F49.r5
attribute [go_sem] F49.r6
attribute [go_sem] F49.r7
attribute [go_sem] F49.r8
attribute [go_sem] F49.r9
attribute [go_sem] F49.r10
attribute [go_sem] F49.r11
attribute [go_sem] F49.r12
attribute [go_sem] F49.r13
attribute [go_sem] F49.r14
attribute [go_sem] F49.r15
attribute [go_sem] F50.r0
attribute [go_sem] F50.r1
attribute [go_sem] F50.r2
attribute [go_sem] F50.r3
attribute [go_sem] F50.r4
attribute [go_sem] F50.r5
attribute [go_sem] F50.r6
attribute [go_sem] F50.r7
attribute [go_sem] F50.r8
attribute [go_sem] F50.r9
attribute [go_sem] F50.r10
attribute [go_sem] F51.r0
attribute [go_sem] F51.r1
attribute [go_sem] F51.r2
attribute [go_sem] F51.r3
attribute [go_sem] F51.r4
attribute [go_sem] F51.r5
attribute [go_sem] F51.r6
attribute [go_sem] F51.r7
attribute [go_sem] F51.r8
attribute [go_sem] F51.r9
attribute [go_sem] F51.r10
attribute [go_sem] F51.r11
attribute [go_sem] F51.r12
attribute [go_sem] F51.r13
attribute [go_sem] F51.r14
attribute [go_sem] F51.r15
attribute [go_sem] F51.r16
attribute [go_sem] F51.r17
attribute [go_sem] F51.r18
attribute [go_sem] F52.r0
attribute [go_sem] F52.r1
attribute [go_sem] F52.r2
attribute [go_sem] F52.r3
attribute [go_sem] F52.r4
attribute [go_sem] F53.r0
attribute [go_sem] F53.r1
attribute [go_sem] F53.r2
attribute [go_sem] F54.r0
attribute [go_sem] F54.r1
attribute [go_sem] F55.r0
attribute [go_sem] F55.r1
attribute [go_sem] F55.r2
attribute [go_sem] F55.r3
attribute [go_sem] F55.r4
attribute [go_sem] F55.r5
attribute [go_sem] F55.r6
attribute [go_sem] F55.r7
attribute [go_sem] F56.r0
attribute [go_sem] F56.r1
attribute [go_sem] F56.r2
attribute [go_sem] F56.r3
attribute [go_sem] F56.r4
attribute [go_sem] F56.r5
attribute [go_sem] F56.r6
attribute [go_sem] F56.r8
attribute [go_sem] F56.r9
attribute [go_sem] F56.r10
attribute [go_sem] F56.r7
attribute [go_sem] F56.r11
attribute [go_sem] F56.r12
attribute [go_sem] F56.r13
attribute [go_sem] F57.r0
attribute [go_sem] F57.r1
attribute [go_sem] F57.r2
attribute [go_sem] F57.r3
attribute [go_sem] F57.r4
attribute [go_sem] F57.r5
attribute [go_sem] F57.r6
attribute [go_sem] F57.r7
attribute [go_sem] F57.r8
attribute [go_sem] F57.r9
attribute [go_sem] F57.r10
attribute [go_sem] F58.r0
attribute [go_sem] F58.r1
attribute [go_sem] F59.r0
attribute [go_sem] F59.r1
attribute [go_sem] F59.r2
attribute [go_sem] F59.r3
attribute [go_sem] F60.r0
attribute [go_sem] F60.r1
attribute [go_sem] F60.r2
attribute [go_sem] F60.r3
attribute [go_sem] F60.r4
attribute [go_sem] F60.r5
attribute [go_sem] F60.r6
attribute [go_sem] F60.r7
attribute [go_sem] F60.r8
attribute [go_sem] F61.r0
attribute [go_sem] F61.r1
attribute [go_sem] F61.r2
attribute [go_sem] F61.r3
attribute [go_sem] F62.r0
attribute [go_sem] F62.r1
attribute [go_sem] F63.r0
attribute [go_sem] F63.r1
attribute [go_sem] F63.r2
attribute [go_sem] F65.r0
attribute [go_sem] F65.r1
attribute [go_sem] F66.r0
attribute [go_sem] F66.r1
attribute [go_sem] F66.r2
attribute [go_sem] F66.r3
attribute [go_sem] F66.r4
attribute [go_sem] F68.r0
attribute [go_sem] F68.r1
attribute [go_sem] F68.r2
attribute [go_sem] F68.r3
attribute [go_sem] F68.r4
attribute [go_sem] F68.r5
attribute [go_sem] F68.r6
attribute [go_sem] F68.r7
attribute [go_sem] F68.r8
attribute [go_sem] F68.r9
attribute [go_sem] F68.r10
attribute [go_sem] F68.r11
attribute [go_sem] F68.r12
attribute [go_sem] F68.r13
attribute [go_sem] F68.r14
attribute [go_sem] F68.r15
attribute [go_sem] F68.r16
attribute [go_sem] F68.r17
attribute [go_sem] F68.r18
attribute [go_sem] F68.r19
attribute [go_sem] F68.r20
attribute [go_sem] F68.r21
attribute [go_sem] F68.r22
attribute [go_sem] F68.r23
attribute [go_sem] F68.r24
attribute [go_sem] F68.r25
attribute [go_sem] F68.r26
attribute [go_sem] F68.r27
attribute [go_sem] F68.r28
attribute [go_sem] F68.r29
attribute [go_sem] F68.r30
attribute [go_sem] F68.r31
attribute [go_sem] F68.r32
attribute [go_sem] F68.r33
attribute [go_sem] F68.r34
attribute [go_sem] F68.r35
attribute [go_sem] F69.r0
attribute [go_sem] F69.r1
attribute [go_sem] F69.r2
attribute [go_sem] F69.r3
attribute [go_sem] F69.r4
attribute [go_sem] F69.r5
attribute [go_sem] F69.r6
attribute [go_sem] F69.r7
attribute [go_sem] F69.r8
attribute [go_sem] F69.r9
attribute [go_sem] F69.r10
attribute [go_sem] F69.r11
attribute [go_sem] F69.r12
attribute [go_sem] F69.r13
attribute [go_sem] F69.r14
attribute [go_sem] F69.r15
attribute [go_sem] F69.r16
attribute [go_sem] F69.r17
attribute [go_sem] F69.r18
attribute [go_sem] F69.r19
attribute [go_sem] F69.r20
attribute [go_sem] F69.r21
attribute [go_sem] F69.r22
attribute [go_sem] F69.r23
attribute [go_sem] F69.r24
attribute [go_sem] F69.r25
attribute [go_sem] F69.r26
attribute [go_sem] F73.r0
attribute [go_sem] F73.r1
attribute [go_sem] F74.r0
attribute [go_sem] F74.r1
attribute [go_sem] F74.r2
attribute [go_sem] F74.r3
attribute [go_sem] F74.r4
attribute [go_sem] F74.r5
attribute [go_sem] F74.r7
attribute [go_sem] F74.r6
attribute [go_sem] F74.r8
attribute [go_sem] F74.r9
attribute [go_sem] F74.r10
attribute [go_sem] F74.r11
attribute [go_sem] F74.r12
attribute [go_sem] F74.r13
attribute [go_sem] F74.r14
attribute [go_sem] F74.r15
attribute [go_sem] F74.r16
attribute [go_sem] F74.r17
attribute [go_sem] F74.r18
attribute [go_sem] F75.r0
attribute [go_sem] F75.r1
attribute [go_sem] F75.r2
attribute [go_sem] F75.r3
attribute [go_sem] F75.r5
attribute [go_sem] F75.r4
attribute [go_sem] F75.r6
attribute [go_sem] F75.r7
attribute [go_sem] F75.r8
attribute [go_sem] F75.r10
attribute [go_sem] F75.r11
attribute [go_sem] F75.r12
attribute [go_sem] F75.r9
attribute [go_sem] F75.r13

end Go.Proofs.YtlnlomjdooobdaaDoor

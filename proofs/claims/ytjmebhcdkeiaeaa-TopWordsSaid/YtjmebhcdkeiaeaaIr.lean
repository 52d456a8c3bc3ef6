/- The compiled code of the functions, by program (genir.py): each with the theorem that it is what the engine makes of the loaded program's. -/
import Derived.Test.YtjmebhcdkeiaeaaSl2
import Derived.Test.YtjmebhcdkeiaeaaProg
namespace Go.Proofs.Ytjmebhcdkeiaeaa
open Go
set_option maxRecDepth 100000

theorem follows : Try.prog.follows .mixedOrders = true := by kernel_rfl

theorem fact_aggSz_23 : aggSz Try.prog 23 = some none := by kernel_rfl
theorem fact_aggSz_29 : aggSz Try.prog 29 = some none := by kernel_rfl
theorem fact_aggSz_3 : aggSz Try.prog 3 = some none := by kernel_rfl
theorem fact_elemOf_26 : elemOf? Try.prog 26 = some (none, 1) := by kernel_rfl
theorem fact_elemOf_27 : elemOf? Try.prog 27 = some (none, 1) := by kernel_rfl
theorem fact_elemOf_30 : elemOf? Try.prog 30 = some (none, 1) := by kernel_rfl
theorem fact_fnOk_10 : fnOk Try.prog 10 = true := by kernel_rfl
theorem fact_fnOk_11 : fnOk Try.prog 11 = true := by kernel_rfl
theorem fact_fnOk_12 : fnOk Try.prog 12 = true := by kernel_rfl
theorem fact_fnOk_13 : fnOk Try.prog 13 = true := by kernel_rfl
theorem fact_fnOk_14 : fnOk Try.prog 14 = true := by kernel_rfl
theorem fact_fnOk_15 : fnOk Try.prog 15 = true := by kernel_rfl
theorem fact_fnOk_16 : fnOk Try.prog 16 = true := by kernel_rfl
theorem fact_fnOk_17 : fnOk Try.prog 17 = true := by kernel_rfl
theorem fact_fnOk_18 : fnOk Try.prog 18 = true := by kernel_rfl
theorem fact_fnOk_19 : fnOk Try.prog 19 = true := by kernel_rfl
theorem fact_fnOk_5 : fnOk Try.prog 5 = true := by kernel_rfl
theorem fact_fnOk_6 : fnOk Try.prog 6 = true := by kernel_rfl
theorem fact_fnOk_7 : fnOk Try.prog 7 = true := by kernel_rfl
theorem fact_fnOk_8 : fnOk Try.prog 8 = true := by kernel_rfl
theorem fact_fnOk_9 : fnOk Try.prog 9 = true := by kernel_rfl
theorem fact_rowTy_26 : rowTy Try.prog 26 = some (23, 1, 8, [.int .i64 0]) := by kernel_rfl
theorem fact_rowTy_27 : rowTy Try.prog 27 = some (3, 1, 8, [.int .i64 0]) := by kernel_rfl
theorem fact_rowTy_30 : rowTy Try.prog 30 = some (29, 1, 1, [.int .u8 0]) := by kernel_rfl

def F3.r0 : List Oper := [
  ⟨(some 0), (.assign (.const (.bool false))), 4, "", #[], none⟩]
def F3.r1 : List Oper := [
  ⟨(some 1), (.call ⟨(.value (.func 5)), #[], #[]⟩), 4, "", #[⟨0, .chain⟩], none⟩,
  ⟨(some 2), (.move (.tmp 1)), 4, "", #[], none⟩,
  ⟨(some 3), (.call ⟨(.value (.func 6)), #[], #[]⟩), 4, "", #[⟨0, .chain⟩], (some (2, true))⟩,
  ⟨(some 4), (.pick (.tmp 2) (.tmp 3) (.const (.bool false))), 4, "", #[], none⟩,
  ⟨(some 5), (.move (.tmp 4)), 4, "", #[], none⟩,
  ⟨(some 6), (.call ⟨(.value (.func 7)), #[], #[]⟩), 4, "", #[⟨0, .chain⟩], (some (5, true))⟩,
  ⟨(some 7), (.pick (.tmp 5) (.tmp 6) (.const (.bool false))), 4, "", #[], none⟩,
  ⟨(some 8), (.move (.tmp 7)), 4, "", #[], none⟩,
  ⟨(some 9), (.call ⟨(.value (.func 8)), #[], #[]⟩), 4, "", #[⟨0, .chain⟩], (some (8, true))⟩,
  ⟨(some 10), (.pick (.tmp 8) (.tmp 9) (.const (.bool false))), 4, "", #[], none⟩,
  ⟨(some 11), (.move (.tmp 10)), 4, "", #[], none⟩,
  ⟨(some 12), (.call ⟨(.value (.func 9)), #[], #[]⟩), 4, "", #[⟨0, .chain⟩], (some (11, true))⟩,
  ⟨(some 13), (.pick (.tmp 11) (.tmp 12) (.const (.bool false))), 4, "", #[], none⟩,
  ⟨(some 14), (.move (.tmp 13)), 4, "", #[], none⟩,
  ⟨(some 15), (.call ⟨(.value (.func 10)), #[], #[]⟩), 4, "", #[⟨0, .chain⟩], (some (14, true))⟩,
  ⟨(some 16), (.pick (.tmp 14) (.tmp 15) (.const (.bool false))), 4, "", #[], none⟩,
  ⟨(some 17), (.move (.tmp 16)), 4, "", #[], none⟩,
  ⟨(some 18), (.call ⟨(.value (.func 11)), #[], #[]⟩), 4, "", #[⟨0, .chain⟩], (some (17, true))⟩,
  ⟨(some 19), (.pick (.tmp 17) (.tmp 18) (.const (.bool false))), 4, "", #[], none⟩,
  ⟨(some 0), (.assign (.tmp 19)), 4, "", #[], none⟩]
def F3.code : Code := (.seq (.region 0 F3.r0.toArray false) (.seq (.region 1 F3.r1.toArray false) .ret))
theorem F3.calls {args : Array Value} {w : World} {R : Ending → World → Prop} (hn : args.size ≤ 20) (h : cwE Try.prog F3.code (fnP Try.prog #[(.tmp 0)] R) (entry args) w) : Calls Try.prog 3 args w R :=
  calls_of_cwE (types := Try.prog.types) follows Try.func3 F3.code rfl (by kernel_rfl) hn h

def F4.r0 : List Oper := [
  ⟨(some 0), (.assign (.const (.bool false))), 4, "", #[], none⟩]
def F4.r1 : List Oper := [
  ⟨(some 1), (.assign (.const (.int .i64 0))), 3, "", #[], none⟩]
def F4.r2 : List Oper := [
  ⟨(some 4), (.move (.tmp 1)), 3, "", #[], none⟩,
  ⟨(some 5), (.binOp .lss 3 (.tmp 4) (.const (.int .i64 300)) 3), 4, "", #[], none⟩]
def F4.r4 : List Oper := [
  ⟨(some 8), (.move (.tmp 1)), 3, "", #[], none⟩,
  ⟨(some 9), (.call ⟨(.value (.func 12)), #[(.tmp 8)], #[23]⟩), 9, "", #[⟨0, .chain⟩], none⟩,
  ⟨(some 2), (.assign (.tmp 9)), 9, "", #[], none⟩]
def F4.r5 : List Oper := [
  ⟨(some 10), (.move (.tmp 2)), 9, "", #[], none⟩,
  ⟨(some 11), (.move (.tmp 1)), 3, "", #[], none⟩,
  ⟨(some 12), (.call ⟨(.value (.func 13)), #[(.tmp 11)], #[23]⟩), 9, "", #[⟨0, .chain⟩], none⟩,
  ⟨(some 13), (.binOp .neq 9 (.tmp 10) (.tmp 12) 9), 4, "", #[], none⟩,
  ⟨(some 14), (.move (.tmp 13)), 4, "", #[], none⟩,
  ⟨(some 15), (.move (.tmp 2)), 9, "", #[], (some (14, false))⟩,
  ⟨(some 16), (.binOp .eql 9 (.tmp 15) (.const (.string { data := #[] })) 9), 4, "", #[], (some (14, false))⟩,
  ⟨(some 17), (.pick (.tmp 14) (.const (.bool true)) (.tmp 16)), 4, "", #[], none⟩]
def F4.r6 : List Oper := [
  ⟨(some 0), (.assign (.const (.bool false))), 4, "", #[], none⟩]
def F4.r7 : List Oper := [
  ⟨(some 3), (.assign (.const (.int .i64 0))), 3, "", #[], none⟩]
def F4.r8 : List Oper := [
  ⟨(some 18), (.move (.tmp 3)), 3, "", #[], none⟩,
  ⟨(some 19), (.move (.tmp 1)), 3, "", #[], none⟩,
  ⟨(some 20), (.binOp .lss 3 (.tmp 18) (.tmp 19) 3), 4, "", #[], none⟩]
def F4.r10 : List Oper := [
  ⟨(some 23), (.move (.tmp 2)), 9, "", #[], none⟩,
  ⟨(some 24), (.binOp .neq 9 (.tmp 23) (.const (.string { data := #[101, 114, 114, 111, 114] })) 9), 4, "", #[], none⟩,
  ⟨(some 25), (.move (.tmp 24)), 4, "", #[], none⟩,
  ⟨(some 26), (.move (.tmp 3)), 3, "", #[], (some (25, true))⟩,
  ⟨(some 27), (.call ⟨(.value (.func 12)), #[(.tmp 26)], #[23]⟩), 9, "", #[⟨0, .chain⟩], (some (25, true))⟩,
  ⟨(some 28), (.move (.tmp 2)), 9, "", #[], (some (25, true))⟩,
  ⟨(some 29), (.binOp .eql 9 (.tmp 27) (.tmp 28) 9), 4, "", #[], (some (25, true))⟩,
  ⟨(some 30), (.pick (.tmp 25) (.tmp 29) (.const (.bool false))), 4, "", #[], none⟩]
def F4.r11 : List Oper := [
  ⟨(some 0), (.assign (.const (.bool false))), 4, "", #[], none⟩]
def F4.r9 : List Oper := [
  ⟨(some 21), (.move (.tmp 3)), 3, "", #[], none⟩,
  ⟨(some 22), (.binOp .add 3 (.tmp 21) (.const (.int .i64 1)) 3), 3, "", #[], none⟩,
  ⟨(some 3), (.assign (.tmp 22)), 3, "", #[], none⟩]
def F4.r3 : List Oper := [
  ⟨(some 6), (.move (.tmp 1)), 3, "", #[], none⟩,
  ⟨(some 7), (.binOp .add 3 (.tmp 6) (.const (.int .i64 1)) 3), 3, "", #[], none⟩,
  ⟨(some 1), (.assign (.tmp 7)), 3, "", #[], none⟩]
def F4.r12 : List Oper := [
  ⟨(some 31), (.call ⟨(.value (.func 12)), #[(.const (.int .i64 (-1)))], #[23]⟩), 9, "", #[⟨0, .chain⟩], none⟩,
  ⟨(some 32), (.binOp .eql 9 (.tmp 31) (.const (.string { data := #[101, 114, 114, 111, 114] })) 9), 4, "", #[], none⟩,
  ⟨(some 0), (.assign (.tmp 32)), 4, "", #[], none⟩]
def F4.t9 : Code := (.region 9 F4.r9.toArray false)
theorem F4.t9_eq {P : Program} {Q : Post} {e : FA} {w : World} {θ : Tag (F4.t9, Q, e, w)} : cwE P F4.t9 Q e w θ = cwE P (.region 9 F4.r9.toArray false) Q e w := rfl
def F4.t10 : Code := (.seq (.block 3 (.seq (.region 10 F4.r10.toArray false) (.cond (.tmp 30) (.seq (.region 11 F4.r11.toArray false) .ret) .skip))) F4.t9)
theorem F4.t10_eq {P : Program} {Q : Post} {e : FA} {w : World} {θ : Tag (F4.t10, Q, e, w)} : cwE P F4.t10 Q e w θ = cwE P (.seq (.block 3 (.seq (.region 10 F4.r10.toArray false) (.cond (.tmp 30) (.seq (.region 11 F4.r11.toArray false) .ret) .skip))) F4.t9) Q e w := rfl
def F4.t7 : Code := (.seq (.region 7 F4.r7.toArray false) (.block 2 (.loop (.seq (.seq (.region 8 F4.r8.toArray false) (.cond (.tmp 20) .skip (.exit 2))) F4.t10))))
theorem F4.t7_eq {P : Program} {Q : Post} {e : FA} {w : World} {θ : Tag (F4.t7, Q, e, w)} : cwE P F4.t7 Q e w θ = cwE P (.seq (.region 7 F4.r7.toArray false) (.block 2 (.loop (.seq (.seq (.region 8 F4.r8.toArray false) (.cond (.tmp 20) .skip (.exit 2))) F4.t10)))) Q e w := rfl
def F4.t3 : Code := (.region 3 F4.r3.toArray false)
theorem F4.t3_eq {P : Program} {Q : Post} {e : FA} {w : World} {θ : Tag (F4.t3, Q, e, w)} : cwE P F4.t3 Q e w θ = cwE P (.region 3 F4.r3.toArray false) Q e w := rfl
def F4.t4 : Code := (.seq (.block 1 (.seq (.region 4 F4.r4.toArray false) (.seq (.seq (.region 5 F4.r5.toArray false) (.cond (.tmp 17) (.seq (.region 6 F4.r6.toArray false) .ret) .skip)) F4.t7))) F4.t3)
theorem F4.t4_eq {P : Program} {Q : Post} {e : FA} {w : World} {θ : Tag (F4.t4, Q, e, w)} : cwE P F4.t4 Q e w θ = cwE P (.seq (.block 1 (.seq (.region 4 F4.r4.toArray false) (.seq (.seq (.region 5 F4.r5.toArray false) (.cond (.tmp 17) (.seq (.region 6 F4.r6.toArray false) .ret) .skip)) F4.t7))) F4.t3) Q e w := rfl
def F4.t12 : Code := (.seq (.region 12 F4.r12.toArray false) .ret)
theorem F4.t12_eq {P : Program} {Q : Post} {e : FA} {w : World} {θ : Tag (F4.t12, Q, e, w)} : cwE P F4.t12 Q e w θ = cwE P (.seq (.region 12 F4.r12.toArray false) .ret) Q e w := rfl
def F4.code : Code := (.seq (.region 0 F4.r0.toArray false) (.seq (.seq (.region 1 F4.r1.toArray false) (.block 0 (.loop (.seq (.seq (.region 2 F4.r2.toArray false) (.cond (.tmp 5) .skip (.exit 0))) F4.t4)))) F4.t12))
theorem F4.calls {args : Array Value} {w : World} {R : Ending → World → Prop} (hn : args.size ≤ 33) (h : cwE Try.prog F4.code (fnP Try.prog #[(.tmp 0)] R) (entry args) w) : Calls Try.prog 4 args w R :=
  calls_of_cwE (types := Try.prog.types) follows Try.func4 F4.code rfl (by kernel_rfl) hn h

def F5.r0 : List Oper := [
  ⟨(some 0), (.assign (.const (.bool false))), 4, "", #[], none⟩]
def F5.r1 : List Oper := [
  ⟨(some 3), (.buildSlice 26 29 #[(0, (.const (.int .i64 0))), (1, (.const (.int .i64 1))), (2, (.const (.int .i64 10))), (3, (.const (.int .i64 11))), (4, (.const (.int .i64 12))), (5, (.const (.int .i64 13))), (6, (.const (.int .i64 14))), (7, (.const (.int .i64 20))), (8, (.const (.int .i64 21))), (9, (.const (.int .i64 30))), (10, (.const (.int .i64 31))), (11, (.const (.int .i64 32))), (12, (.const (.int .i64 33))), (13, (.const (.int .i64 34))), (14, (.const (.int .i64 40))), (15, (.const (.int .i64 50))), (16, (.const (.int .i64 51))), (17, (.const (.int .i64 52))), (18, (.const (.int .i64 53))), (19, (.const (.int .i64 60))), (20, (.const (.int .i64 61))), (21, (.const (.int .i64 62))), (22, (.const (.int .i64 70))), (23, (.const (.int .i64 71))), (24, (.const (.int .i64 72))), (25, (.const (.int .i64 80))), (26, (.const (.int .i64 81))), (27, (.const (.int .i64 82))), (28, (.const (.int .i64 83)))]), 26, "", #[⟨0, .chain⟩], none⟩,
  ⟨(some 1), (.assign (.tmp 3)), 26, "", #[], none⟩]
def F5.r2 : List Oper := [
  ⟨(some 4), (.buildSlice 27 29 #[(0, (.const (.int .i64 0))), (1, (.const (.int .i64 1))), (2, (.const (.int .i64 10))), (3, (.const (.int .i64 11))), (4, (.const (.int .i64 12))), (5, (.const (.int .i64 13))), (6, (.const (.int .i64 14))), (7, (.const (.int .i64 20))), (8, (.const (.int .i64 21))), (9, (.const (.int .i64 30))), (10, (.const (.int .i64 31))), (11, (.const (.int .i64 32))), (12, (.const (.int .i64 33))), (13, (.const (.int .i64 34))), (14, (.const (.int .i64 40))), (15, (.const (.int .i64 50))), (16, (.const (.int .i64 51))), (17, (.const (.int .i64 52))), (18, (.const (.int .i64 53))), (19, (.const (.int .i64 60))), (20, (.const (.int .i64 61))), (21, (.const (.int .i64 62))), (22, (.const (.int .i64 70))), (23, (.const (.int .i64 71))), (24, (.const (.int .i64 72))), (25, (.const (.int .i64 80))), (26, (.const (.int .i64 81))), (27, (.const (.int .i64 82))), (28, (.const (.int .i64 83)))]), 27, "", #[⟨0, .chain⟩], none⟩,
  ⟨(some 2), (.assign (.tmp 4)), 27, "", #[], none⟩]
def F5.r3 : List Oper := [
  ⟨(some 5), (.move (.tmp 1)), 26, "", #[], none⟩,
  ⟨(some 6), (.move (.tmp 2)), 27, "", #[], none⟩,
  ⟨(some 7), (.call ⟨(.value (.func 14)), #[(.tmp 5), (.tmp 6)], #[26, 27]⟩), 4, "", #[⟨0, .chain⟩], none⟩,
  ⟨(some 0), (.assign (.tmp 7)), 4, "", #[], none⟩]
def F5.code : Code := (.seq (.region 0 F5.r0.toArray false) (.seq (.region 1 F5.r1.toArray false) (.seq (.region 2 F5.r2.toArray false) (.seq (.region 3 F5.r3.toArray false) .ret))))
theorem F5.calls {args : Array Value} {w : World} {R : Ending → World → Prop} (hn : args.size ≤ 8) (h : cwE Try.prog F5.code (fnP Try.prog #[(.tmp 0)] R) (entry args) w) : Calls Try.prog 5 args w R :=
  calls_of_cwE (types := Try.prog.types) follows Try.func5 F5.code rfl (by kernel_rfl) hn h

def F6.r0 : List Oper := [
  ⟨(some 0), (.assign (.const (.bool false))), 4, "", #[], none⟩]
def F6.r1 : List Oper := [
  ⟨(some 3), (.buildSlice 26 29 #[(0, (.const (.int .i64 84))), (1, (.const (.int .i64 85))), (2, (.const (.int .i64 86))), (3, (.const (.int .i64 87))), (4, (.const (.int .i64 90))), (5, (.const (.int .i64 91))), (6, (.const (.int .i64 92))), (7, (.const (.int .i64 93))), (8, (.const (.int .i64 94))), (9, (.const (.int .i64 95))), (10, (.const (.int .i64 96))), (11, (.const (.int .i64 97))), (12, (.const (.int .i64 98))), (13, (.const (.int .i64 99))), (14, (.const (.int .i64 100))), (15, (.const (.int .i64 101))), (16, (.const (.int .i64 102))), (17, (.const (.int .i64 103))), (18, (.const (.int .i64 110))), (19, (.const (.int .i64 111))), (20, (.const (.int .i64 112))), (21, (.const (.int .i64 113))), (22, (.const (.int .i64 114))), (23, (.const (.int .i64 115))), (24, (.const (.int .i64 116))), (25, (.const (.int .i64 117))), (26, (.const (.int .i64 118))), (27, (.const (.int .i64 119))), (28, (.const (.int .i64 120)))]), 26, "", #[⟨0, .chain⟩], none⟩,
  ⟨(some 1), (.assign (.tmp 3)), 26, "", #[], none⟩]
def F6.r2 : List Oper := [
  ⟨(some 4), (.buildSlice 27 29 #[(0, (.const (.int .i64 84))), (1, (.const (.int .i64 85))), (2, (.const (.int .i64 86))), (3, (.const (.int .i64 87))), (4, (.const (.int .i64 90))), (5, (.const (.int .i64 91))), (6, (.const (.int .i64 92))), (7, (.const (.int .i64 93))), (8, (.const (.int .i64 94))), (9, (.const (.int .i64 95))), (10, (.const (.int .i64 96))), (11, (.const (.int .i64 97))), (12, (.const (.int .i64 98))), (13, (.const (.int .i64 99))), (14, (.const (.int .i64 100))), (15, (.const (.int .i64 101))), (16, (.const (.int .i64 102))), (17, (.const (.int .i64 103))), (18, (.const (.int .i64 110))), (19, (.const (.int .i64 111))), (20, (.const (.int .i64 112))), (21, (.const (.int .i64 113))), (22, (.const (.int .i64 114))), (23, (.const (.int .i64 115))), (24, (.const (.int .i64 116))), (25, (.const (.int .i64 117))), (26, (.const (.int .i64 118))), (27, (.const (.int .i64 119))), (28, (.const (.int .i64 120)))]), 27, "", #[⟨0, .chain⟩], none⟩,
  ⟨(some 2), (.assign (.tmp 4)), 27, "", #[], none⟩]
def F6.r3 : List Oper := [
  ⟨(some 5), (.move (.tmp 1)), 26, "", #[], none⟩,
  ⟨(some 6), (.move (.tmp 2)), 27, "", #[], none⟩,
  ⟨(some 7), (.call ⟨(.value (.func 14)), #[(.tmp 5), (.tmp 6)], #[26, 27]⟩), 4, "", #[⟨0, .chain⟩], none⟩,
  ⟨(some 0), (.assign (.tmp 7)), 4, "", #[], none⟩]
def F6.code : Code := (.seq (.region 0 F6.r0.toArray false) (.seq (.region 1 F6.r1.toArray false) (.seq (.region 2 F6.r2.toArray false) (.seq (.region 3 F6.r3.toArray false) .ret))))
theorem F6.calls {args : Array Value} {w : World} {R : Ending → World → Prop} (hn : args.size ≤ 8) (h : cwE Try.prog F6.code (fnP Try.prog #[(.tmp 0)] R) (entry args) w) : Calls Try.prog 6 args w R :=
  calls_of_cwE (types := Try.prog.types) follows Try.func6 F6.code rfl (by kernel_rfl) hn h

def F7.r0 : List Oper := [
  ⟨(some 0), (.assign (.const (.bool false))), 4, "", #[], none⟩]
def F7.r1 : List Oper := [
  ⟨(some 3), (.buildSlice 26 29 #[(0, (.const (.int .i64 121))), (1, (.const (.int .i64 122))), (2, (.const (.int .i64 123))), (3, (.const (.int .i64 130))), (4, (.const (.int .i64 131))), (5, (.const (.int .i64 140))), (6, (.const (.int .i64 141))), (7, (.const (.int .i64 142))), (8, (.const (.int .i64 150))), (9, (.const (.int .i64 151))), (10, (.const (.int .i64 160))), (11, (.const (.int .i64 161))), (12, (.const (.int .i64 170))), (13, (.const (.int .i64 171))), (14, (.const (.int .i64 172))), (15, (.const (.int .i64 173))), (16, (.const (.int .i64 180))), (17, (.const (.int .i64 181))), (18, (.const (.int .i64 190))), (19, (.const (.int .i64 191))), (20, (.const (.int .i64 192))), (21, (.const (.int .i64 193))), (22, (.const (.int .i64 200))), (23, (.const (.int .i64 201))), (24, (.const (.int .i64 210))), (25, (.const (.int .i64 211))), (26, (.const (.int .i64 220))), (27, (.const (.int .i64 230))), (28, (.const (.int .i64 231)))]), 26, "", #[⟨0, .chain⟩], none⟩,
  ⟨(some 1), (.assign (.tmp 3)), 26, "", #[], none⟩]
def F7.r2 : List Oper := [
  ⟨(some 4), (.buildSlice 27 29 #[(0, (.const (.int .i64 121))), (1, (.const (.int .i64 122))), (2, (.const (.int .i64 123))), (3, (.const (.int .i64 130))), (4, (.const (.int .i64 131))), (5, (.const (.int .i64 140))), (6, (.const (.int .i64 141))), (7, (.const (.int .i64 142))), (8, (.const (.int .i64 150))), (9, (.const (.int .i64 151))), (10, (.const (.int .i64 160))), (11, (.const (.int .i64 161))), (12, (.const (.int .i64 170))), (13, (.const (.int .i64 171))), (14, (.const (.int .i64 172))), (15, (.const (.int .i64 173))), (16, (.const (.int .i64 180))), (17, (.const (.int .i64 181))), (18, (.const (.int .i64 190))), (19, (.const (.int .i64 191))), (20, (.const (.int .i64 192))), (21, (.const (.int .i64 193))), (22, (.const (.int .i64 200))), (23, (.const (.int .i64 201))), (24, (.const (.int .i64 210))), (25, (.const (.int .i64 211))), (26, (.const (.int .i64 220))), (27, (.const (.int .i64 230))), (28, (.const (.int .i64 231)))]), 27, "", #[⟨0, .chain⟩], none⟩,
  ⟨(some 2), (.assign (.tmp 4)), 27, "", #[], none⟩]
def F7.r3 : List Oper := [
  ⟨(some 5), (.move (.tmp 1)), 26, "", #[], none⟩,
  ⟨(some 6), (.move (.tmp 2)), 27, "", #[], none⟩,
  ⟨(some 7), (.call ⟨(.value (.func 14)), #[(.tmp 5), (.tmp 6)], #[26, 27]⟩), 4, "", #[⟨0, .chain⟩], none⟩,
  ⟨(some 0), (.assign (.tmp 7)), 4, "", #[], none⟩]
def F7.code : Code := (.seq (.region 0 F7.r0.toArray false) (.seq (.region 1 F7.r1.toArray false) (.seq (.region 2 F7.r2.toArray false) (.seq (.region 3 F7.r3.toArray false) .ret))))
theorem F7.calls {args : Array Value} {w : World} {R : Ending → World → Prop} (hn : args.size ≤ 8) (h : cwE Try.prog F7.code (fnP Try.prog #[(.tmp 0)] R) (entry args) w) : Calls Try.prog 7 args w R :=
  calls_of_cwE (types := Try.prog.types) follows Try.func7 F7.code rfl (by kernel_rfl) hn h

def F8.r0 : List Oper := [
  ⟨(some 0), (.assign (.const (.bool false))), 4, "", #[], none⟩]
def F8.r1 : List Oper := [
  ⟨(some 0), (.assign (.const (.bool true))), 4, "", #[], none⟩]
def F8.code : Code := (.seq (.region 0 F8.r0.toArray false) (.seq (.region 1 F8.r1.toArray false) .ret))
theorem F8.calls {args : Array Value} {w : World} {R : Ending → World → Prop} (hn : args.size ≤ 1) (h : cwE Try.prog F8.code (fnP Try.prog #[(.tmp 0)] R) (entry args) w) : Calls Try.prog 8 args w R :=
  calls_of_cwE (types := Try.prog.types) follows Try.func8 F8.code rfl (by kernel_rfl) hn h

def F9.r0 : List Oper := [
  ⟨(some 0), (.assign (.const (.bool false))), 4, "", #[], none⟩]
def F9.r1 : List Oper := [
  ⟨(some 3), (.buildSlice 30 28 #[(0, (.const (.int .u8 100))), (1, (.const (.int .u8 101))), (2, (.const (.int .u8 102))), (3, (.const (.int .u8 103))), (4, (.const (.int .u8 104))), (5, (.const (.int .u8 105))), (6, (.const (.int .u8 106))), (7, (.const (.int .u8 107))), (8, (.const (.int .u8 108))), (9, (.const (.int .u8 109))), (10, (.const (.int .u8 110))), (11, (.const (.int .u8 111))), (12, (.const (.int .u8 112))), (13, (.const (.int .u8 113))), (14, (.const (.int .u8 114))), (15, (.const (.int .u8 115))), (16, (.const (.int .u8 116))), (17, (.const (.int .u8 117))), (18, (.const (.int .u8 118))), (19, (.const (.int .u8 119))), (20, (.const (.int .u8 120))), (21, (.const (.int .u8 121))), (22, (.const (.int .u8 122))), (23, (.const (.int .u8 123))), (24, (.const (.int .u8 124))), (25, (.const (.int .u8 125))), (26, (.const (.int .u8 126))), (27, (.const (.int .u8 127)))]), 30, "", #[⟨0, .chain⟩], none⟩,
  ⟨(some 1), (.assign (.tmp 3)), 30, "", #[], none⟩]
def F9.r2 : List Oper := [
  ⟨(some 2), (.assign (.const (.int .i64 0))), 3, "", #[], none⟩]
def F9.r3 : List Oper := [
  ⟨(some 4), (.move (.tmp 2)), 3, "", #[], none⟩,
  ⟨(some 5), (.move (.tmp 1)), 30, "", #[], none⟩,
  ⟨(some 6), (.call ⟨(.builtin .len), #[(.tmp 5)], #[30]⟩), 3, "", #[], none⟩,
  ⟨(some 7), (.binOp .lss 3 (.tmp 4) (.tmp 6) 3), 4, "", #[], none⟩]
def F9.r5 : List Oper := [
  ⟨(some 10), (.move (.tmp 1)), 30, "", #[], none⟩,
  ⟨(some 11), (.move (.tmp 2)), 3, "", #[], none⟩,
  ⟨(some 12), (.indexAddr 30 (.tmp 10) (.tmp 11)), 0, "", #[], none⟩,
  ⟨(some 13), (.load 29 (.tmp 12)), 29, "", #[⟨0, .data⟩], none⟩,
  ⟨(some 14), (.convert 29 3 (.tmp 13)), 3, "", #[], none⟩,
  ⟨(some 15), (.move (.tmp 2)), 3, "", #[], none⟩,
  ⟨(some 16), (.binOp .add 3 (.const (.int .i64 100)) (.tmp 15) 3), 3, "", #[], none⟩,
  ⟨(some 17), (.binOp .neq 3 (.tmp 14) (.tmp 16) 3), 4, "", #[], none⟩]
def F9.r6 : List Oper := [
  ⟨(some 0), (.assign (.const (.bool false))), 4, "", #[], none⟩]
def F9.r4 : List Oper := [
  ⟨(some 8), (.move (.tmp 2)), 3, "", #[], none⟩,
  ⟨(some 9), (.binOp .add 3 (.tmp 8) (.const (.int .i64 1)) 3), 3, "", #[], none⟩,
  ⟨(some 2), (.assign (.tmp 9)), 3, "", #[], none⟩]
def F9.r7 : List Oper := [
  ⟨(some 0), (.assign (.const (.bool true))), 4, "", #[], none⟩]
def F9.t4 : Code := (.region 4 F9.r4.toArray false)
theorem F9.t4_eq {P : Program} {Q : Post} {e : FA} {w : World} {θ : Tag (F9.t4, Q, e, w)} : cwE P F9.t4 Q e w θ = cwE P (.region 4 F9.r4.toArray false) Q e w := rfl
def F9.t5 : Code := (.seq (.block 1 (.seq (.region 5 F9.r5.toArray false) (.cond (.tmp 17) (.seq (.region 6 F9.r6.toArray false) .ret) .skip))) F9.t4)
theorem F9.t5_eq {P : Program} {Q : Post} {e : FA} {w : World} {θ : Tag (F9.t5, Q, e, w)} : cwE P F9.t5 Q e w θ = cwE P (.seq (.block 1 (.seq (.region 5 F9.r5.toArray false) (.cond (.tmp 17) (.seq (.region 6 F9.r6.toArray false) .ret) .skip))) F9.t4) Q e w := rfl
def F9.t7 : Code := (.seq (.region 7 F9.r7.toArray false) .ret)
theorem F9.t7_eq {P : Program} {Q : Post} {e : FA} {w : World} {θ : Tag (F9.t7, Q, e, w)} : cwE P F9.t7 Q e w θ = cwE P (.seq (.region 7 F9.r7.toArray false) .ret) Q e w := rfl
def F9.code : Code := (.seq (.region 0 F9.r0.toArray false) (.seq (.region 1 F9.r1.toArray false) (.seq (.seq (.region 2 F9.r2.toArray false) (.block 0 (.loop (.seq (.seq (.region 3 F9.r3.toArray false) (.cond (.tmp 7) .skip (.exit 0))) F9.t5)))) F9.t7)))
theorem F9.calls {args : Array Value} {w : World} {R : Ending → World → Prop} (hn : args.size ≤ 18) (h : cwE Try.prog F9.code (fnP Try.prog #[(.tmp 0)] R) (entry args) w) : Calls Try.prog 9 args w R :=
  calls_of_cwE (types := Try.prog.types) follows Try.func9 F9.code rfl (by kernel_rfl) hn h

def F10.r0 : List Oper := [
  ⟨(some 0), (.assign (.const (.bool false))), 4, "", #[], none⟩]
def F10.r1 : List Oper := [
  ⟨(some 0), (.assign (.const (.bool true))), 4, "", #[], none⟩]
def F10.code : Code := (.seq (.region 0 F10.r0.toArray false) (.seq (.region 1 F10.r1.toArray false) .ret))
theorem F10.calls {args : Array Value} {w : World} {R : Ending → World → Prop} (hn : args.size ≤ 1) (h : cwE Try.prog F10.code (fnP Try.prog #[(.tmp 0)] R) (entry args) w) : Calls Try.prog 10 args w R :=
  calls_of_cwE (types := Try.prog.types) follows Try.func10 F10.code rfl (by kernel_rfl) hn h

def F11.r0 : List Oper := [
  ⟨(some 0), (.assign (.const (.bool false))), 4, "", #[], none⟩]
def F11.r1 : List Oper := [
  ⟨(some 0), (.assign (.const (.bool true))), 4, "", #[], none⟩]
def F11.code : Code := (.seq (.region 0 F11.r0.toArray false) (.seq (.region 1 F11.r1.toArray false) .ret))
theorem F11.calls {args : Array Value} {w : World} {R : Ending → World → Prop} (hn : args.size ≤ 1) (h : cwE Try.prog F11.code (fnP Try.prog #[(.tmp 0)] R) (entry args) w) : Calls Try.prog 11 args w R :=
  calls_of_cwE (types := Try.prog.types) follows Try.func11 F11.code rfl (by kernel_rfl) hn h

def F12.r0 : List Oper := [
  ⟨(some 2), (.assign (.const (.string { data := #[] }))), 9, "", #[], none⟩]
def F12.r1 : List Oper := [
  ⟨(some 3), (.move (.tmp 0)), 23, "", #[], none⟩]
def F12.r2 : List Oper := [
  ⟨(some 5), (.binOp .eql 23 (.tmp 3) (.const (.int .i64 0)) 23), 4, "", #[], none⟩,
  ⟨(some 4), (.assign (.tmp 5)), 4, "", #[], none⟩]
def F12.r3 : List Oper := [
  ⟨(some 2), (.assign (.const (.string { data := #[110, 111, 32, 101, 114, 114, 111, 114] }))), 9, "", #[], none⟩]
def F12.r4 : List Oper := [
  ⟨(some 7), (.binOp .eql 23 (.tmp 3) (.const (.int .i64 1)) 23), 4, "", #[], none⟩,
  ⟨(some 6), (.assign (.tmp 7)), 4, "", #[], none⟩]
def F12.r5 : List Oper := [
  ⟨(some 2), (.assign (.const (.string { data := #[98, 97, 100, 32, 97, 114, 103, 117, 109, 101, 110, 116] }))), 9, "", #[], none⟩]
def F12.r6 : List Oper := [
  ⟨(some 9), (.binOp .eql 23 (.tmp 3) (.const (.int .i64 10)) 23), 4, "", #[], none⟩,
  ⟨(some 8), (.assign (.tmp 9)), 4, "", #[], none⟩]
def F12.r7 : List Oper := [
  ⟨(some 2), (.assign (.const (.string { data := #[116, 111, 111, 32, 102, 101, 119, 32, 98, 121, 116, 101, 115] }))), 9, "", #[], none⟩]
def F12.r8 : List Oper := [
  ⟨(some 11), (.binOp .eql 23 (.tmp 3) (.const (.int .i64 11)) 23), 4, "", #[], none⟩,
  ⟨(some 10), (.assign (.tmp 11)), 4, "", #[], none⟩]
def F12.r9 : List Oper := [
  ⟨(some 2), (.assign (.const (.string { data := #[110, 111, 32, 114, 111, 111, 109, 32, 105, 115, 32, 108, 101, 102, 116] }))), 9, "", #[], none⟩]
def F12.r10 : List Oper := [
  ⟨(some 13), (.binOp .eql 23 (.tmp 3) (.const (.int .i64 12)) 23), 4, "", #[], none⟩,
  ⟨(some 12), (.assign (.tmp 13)), 4, "", #[], none⟩]
def F12.r11 : List Oper := [
  ⟨(some 2), (.assign (.const (.string { data := #[110, 111, 32, 118, 97, 108, 105, 100, 32, 116, 101, 120, 116] }))), 9, "", #[], none⟩]
def F12.r12 : List Oper := [
  ⟨(some 15), (.binOp .eql 23 (.tmp 3) (.const (.int .i64 13)) 23), 4, "", #[], none⟩,
  ⟨(some 14), (.assign (.tmp 15)), 4, "", #[], none⟩]
def F12.r13 : List Oper := [
  ⟨(some 2), (.assign (.const (.string { data := #[116, 111, 111, 32, 108, 111, 110, 103, 32, 116, 111, 32, 98, 101, 32, 99, 111, 117, 110, 116, 101, 100] }))), 9, "", #[], none⟩]
def F12.r14 : List Oper := [
  ⟨(some 17), (.binOp .eql 23 (.tmp 3) (.const (.int .i64 14)) 23), 4, "", #[], none⟩,
  ⟨(some 16), (.assign (.tmp 17)), 4, "", #[], none⟩]
def F12.r15 : List Oper := [
  ⟨(some 2), (.assign (.const (.string { data := #[98, 121, 116, 101, 115, 32, 97, 114, 101, 32, 108, 101, 102, 116] }))), 9, "", #[], none⟩]
def F12.r16 : List Oper := [
  ⟨(some 19), (.binOp .eql 23 (.tmp 3) (.const (.int .i64 20)) 23), 4, "", #[], none⟩,
  ⟨(some 18), (.assign (.tmp 19)), 4, "", #[], none⟩]
def F12.r17 : List Oper := [
  ⟨(some 2), (.assign (.const (.string { data := #[98, 97, 100, 32, 114, 101, 99, 111, 114, 100] }))), 9, "", #[], none⟩]
def F12.r18 : List Oper := [
  ⟨(some 21), (.binOp .eql 23 (.tmp 3) (.const (.int .i64 21)) 23), 4, "", #[], none⟩,
  ⟨(some 20), (.assign (.tmp 21)), 4, "", #[], none⟩]
def F12.r19 : List Oper := [
  ⟨(some 2), (.assign (.const (.string { data := #[98, 97, 100, 32, 109, 111, 100, 101] }))), 9, "", #[], none⟩]
def F12.r20 : List Oper := [
  ⟨(some 23), (.binOp .eql 23 (.tmp 3) (.const (.int .i64 30)) 23), 4, "", #[], none⟩,
  ⟨(some 22), (.assign (.tmp 23)), 4, "", #[], none⟩]
def F12.r21 : List Oper := [
  ⟨(some 2), (.assign (.const (.string { data := #[109, 101, 115, 115, 97, 103, 101, 32, 99, 97, 110, 39, 116, 32, 98, 101, 32, 119, 114, 105, 116, 116, 101, 110] }))), 9, "", #[], none⟩]
def F12.r22 : List Oper := [
  ⟨(some 25), (.binOp .eql 23 (.tmp 3) (.const (.int .i64 31)) 23), 4, "", #[], none⟩,
  ⟨(some 24), (.assign (.tmp 25)), 4, "", #[], none⟩]
def F12.r23 : List Oper := [
  ⟨(some 2), (.assign (.const (.string { data := #[98, 97, 100, 32, 109, 101, 115, 115, 97, 103, 101, 32, 115, 105, 122, 101] }))), 9, "", #[], none⟩]
def F12.r24 : List Oper := [
  ⟨(some 27), (.binOp .eql 23 (.tmp 3) (.const (.int .i64 32)) 23), 4, "", #[], none⟩,
  ⟨(some 26), (.assign (.tmp 27)), 4, "", #[], none⟩]
def F12.r25 : List Oper := [
  ⟨(some 2), (.assign (.const (.string { data := #[117, 110, 107, 110, 111, 119, 110, 32, 109, 101, 115, 115, 97, 103, 101] }))), 9, "", #[], none⟩]
def F12.r26 : List Oper := [
  ⟨(some 29), (.binOp .eql 23 (.tmp 3) (.const (.int .i64 33)) 23), 4, "", #[], none⟩,
  ⟨(some 28), (.assign (.tmp 29)), 4, "", #[], none⟩]
def F12.r27 : List Oper := [
  ⟨(some 2), (.assign (.const (.string { data := #[98, 97, 100, 32, 109, 101, 115, 115, 97, 103, 101] }))), 9, "", #[], none⟩]
def F12.r28 : List Oper := [
  ⟨(some 31), (.binOp .eql 23 (.tmp 3) (.const (.int .i64 34)) 23), 4, "", #[], none⟩,
  ⟨(some 30), (.assign (.tmp 31)), 4, "", #[], none⟩]
def F12.r29 : List Oper := [
  ⟨(some 2), (.assign (.const (.string { data := #[98, 97, 100, 32, 109, 101, 115, 115, 97, 103, 101, 32, 116, 101, 120, 116] }))), 9, "", #[], none⟩]
def F12.r30 : List Oper := [
  ⟨(some 33), (.binOp .eql 23 (.tmp 3) (.const (.int .i64 40)) 23), 4, "", #[], none⟩,
  ⟨(some 32), (.assign (.tmp 33)), 4, "", #[], none⟩]
def F12.r31 : List Oper := [
  ⟨(some 2), (.assign (.const (.string { data := #[98, 97, 100, 32, 102, 114, 97, 109, 101] }))), 9, "", #[], none⟩]
def F12.r32 : List Oper := [
  ⟨(some 35), (.binOp .eql 23 (.tmp 3) (.const (.int .i64 50)) 23), 4, "", #[], none⟩,
  ⟨(some 34), (.assign (.tmp 35)), 4, "", #[], none⟩]
def F12.r33 : List Oper := [
  ⟨(some 2), (.assign (.const (.string { data := #[98, 97, 100, 32, 102, 105, 108, 101, 32, 110, 97, 109, 101] }))), 9, "", #[], none⟩]
def F12.r34 : List Oper := [
  ⟨(some 37), (.binOp .eql 23 (.tmp 3) (.const (.int .i64 51)) 23), 4, "", #[], none⟩,
  ⟨(some 36), (.assign (.tmp 37)), 4, "", #[], none⟩]
def F12.r35 : List Oper := [
  ⟨(some 2), (.assign (.const (.string { data := #[98, 97, 100, 32, 112, 97, 116, 104, 32, 110, 97, 109, 101] }))), 9, "", #[], none⟩]
def F12.r36 : List Oper := [
  ⟨(some 39), (.binOp .eql 23 (.tmp 3) (.const (.int .i64 52)) 23), 4, "", #[], none⟩,
  ⟨(some 38), (.assign (.tmp 39)), 4, "", #[], none⟩]
def F12.r37 : List Oper := [
  ⟨(some 2), (.assign (.const (.string { data := #[98, 97, 100, 32, 112, 97, 116, 116, 101, 114, 110] }))), 9, "", #[], none⟩]
def F12.r38 : List Oper := [
  ⟨(some 41), (.binOp .eql 23 (.tmp 3) (.const (.int .i64 53)) 23), 4, "", #[], none⟩,
  ⟨(some 40), (.assign (.tmp 41)), 4, "", #[], none⟩]
def F12.r39 : List Oper := [
  ⟨(some 2), (.assign (.const (.string { data := #[98, 97, 100, 32, 113, 117, 111, 116, 101, 115] }))), 9, "", #[], none⟩]
def F12.r40 : List Oper := [
  ⟨(some 43), (.binOp .eql 23 (.tmp 3) (.const (.int .i64 60)) 23), 4, "", #[], none⟩,
  ⟨(some 42), (.assign (.tmp 43)), 4, "", #[], none⟩]
def F12.r41 : List Oper := [
  ⟨(some 2), (.assign (.const (.string { data := #[98, 97, 100, 32, 117, 115, 101, 114, 115, 32, 108, 105, 110, 101] }))), 9, "", #[], none⟩]
def F12.r42 : List Oper := [
  ⟨(some 45), (.binOp .eql 23 (.tmp 3) (.const (.int .i64 61)) 23), 4, "", #[], none⟩,
  ⟨(some 44), (.assign (.tmp 45)), 4, "", #[], none⟩]
def F12.r43 : List Oper := [
  ⟨(some 2), (.assign (.const (.string { data := #[117, 115, 101, 114, 32, 115, 116, 97, 110, 100, 115, 32, 116, 119, 105, 99, 101] }))), 9, "", #[], none⟩]
def F12.r44 : List Oper := [
  ⟨(some 47), (.binOp .eql 23 (.tmp 3) (.const (.int .i64 62)) 23), 4, "", #[], none⟩,
  ⟨(some 46), (.assign (.tmp 47)), 4, "", #[], none⟩]
def F12.r45 : List Oper := [
  ⟨(some 2), (.assign (.const (.string { data := #[117, 115, 101, 114, 32, 119, 105, 116, 104, 111, 117, 116, 32, 97, 32, 108, 105, 110, 101] }))), 9, "", #[], none⟩]
def F12.r46 : List Oper := [
  ⟨(some 48), (.move (.tmp 0)), 23, "", #[], none⟩,
  ⟨(some 49), (.call ⟨(.value (.func 15)), #[(.tmp 48)], #[23]⟩), 9, "", #[⟨0, .chain⟩], none⟩,
  ⟨(some 2), (.assign (.tmp 49)), 9, "", #[], none⟩]
def F12.t46 : Code := (.seq (.region 46 F12.r46.toArray false) .ret)
theorem F12.t46_eq {P : Program} {Q : Post} {e : FA} {w : World} {θ : Tag (F12.t46, Q, e, w)} : cwE P F12.t46 Q e w θ = cwE P (.seq (.region 46 F12.r46.toArray false) .ret) Q e w := rfl
def F12.code : Code := (.seq (.region 0 F12.r0.toArray false) (.seq (.seq (.region 1 F12.r1.toArray false) (.block 0 (.seq (.region 2 F12.r2.toArray false) (.cond (.tmp 4) (.seq (.region 3 F12.r3.toArray false) .ret) (.seq (.region 4 F12.r4.toArray false) (.cond (.tmp 6) (.seq (.region 5 F12.r5.toArray false) .ret) (.seq (.region 6 F12.r6.toArray false) (.cond (.tmp 8) (.seq (.region 7 F12.r7.toArray false) .ret) (.seq (.region 8 F12.r8.toArray false) (.cond (.tmp 10) (.seq (.region 9 F12.r9.toArray false) .ret) (.seq (.region 10 F12.r10.toArray false) (.cond (.tmp 12) (.seq (.region 11 F12.r11.toArray false) .ret) (.seq (.region 12 F12.r12.toArray false) (.cond (.tmp 14) (.seq (.region 13 F12.r13.toArray false) .ret) (.seq (.region 14 F12.r14.toArray false) (.cond (.tmp 16) (.seq (.region 15 F12.r15.toArray false) .ret) (.seq (.region 16 F12.r16.toArray false) (.cond (.tmp 18) (.seq (.region 17 F12.r17.toArray false) .ret) (.seq (.region 18 F12.r18.toArray false) (.cond (.tmp 20) (.seq (.region 19 F12.r19.toArray false) .ret) (.seq (.region 20 F12.r20.toArray false) (.cond (.tmp 22) (.seq (.region 21 F12.r21.toArray false) .ret) (.seq (.region 22 F12.r22.toArray false) (.cond (.tmp 24) (.seq (.region 23 F12.r23.toArray false) .ret) (.seq (.region 24 F12.r24.toArray false) (.cond (.tmp 26) (.seq (.region 25 F12.r25.toArray false) .ret) (.seq (.region 26 F12.r26.toArray false) (.cond (.tmp 28) (.seq (.region 27 F12.r27.toArray false) .ret) (.seq (.region 28 F12.r28.toArray false) (.cond (.tmp 30) (.seq (.region 29 F12.r29.toArray false) .ret) (.seq (.region 30 F12.r30.toArray false) (.cond (.tmp 32) (.seq (.region 31 F12.r31.toArray false) .ret) (.seq (.region 32 F12.r32.toArray false) (.cond (.tmp 34) (.seq (.region 33 F12.r33.toArray false) .ret) (.seq (.region 34 F12.r34.toArray false) (.cond (.tmp 36) (.seq (.region 35 F12.r35.toArray false) .ret) (.seq (.region 36 F12.r36.toArray false) (.cond (.tmp 38) (.seq (.region 37 F12.r37.toArray false) .ret) (.seq (.region 38 F12.r38.toArray false) (.cond (.tmp 40) (.seq (.region 39 F12.r39.toArray false) .ret) (.seq (.region 40 F12.r40.toArray false) (.cond (.tmp 42) (.seq (.region 41 F12.r41.toArray false) .ret) (.seq (.region 42 F12.r42.toArray false) (.cond (.tmp 44) (.seq (.region 43 F12.r43.toArray false) .ret) (.seq (.region 44 F12.r44.toArray false) (.cond (.tmp 46) (.seq (.region 45 F12.r45.toArray false) .ret) .skip)))))))))))))))))))))))))))))))))))))))))))))) F12.t46))
theorem F12.calls {args : Array Value} {w : World} {R : Ending → World → Prop} (hn : args.size ≤ 50) (h : cwE Try.prog F12.code (fnP Try.prog #[(.tmp 2)] R) (entry args) w) : Calls Try.prog 12 args w R :=
  calls_of_cwE (types := Try.prog.types) follows Try.func12 F12.code rfl (by kernel_rfl) hn h

def F13.r0 : List Oper := [
  ⟨(some 2), (.assign (.const (.string { data := #[] }))), 9, "", #[], none⟩]
def F13.r1 : List Oper := [
  ⟨(some 4), (.move (.tmp 0)), 23, "", #[], none⟩,
  ⟨(some 3), (.assign (.tmp 4)), 3, "", #[], none⟩]
def F13.r2 : List Oper := [
  ⟨(some 5), (.move (.tmp 3)), 3, "", #[], none⟩,
  ⟨(some 6), (.binOp .lss 3 (.tmp 5) (.const (.int .i64 60)) 3), 4, "", #[], none⟩]
def F13.r3 : List Oper := [
  ⟨(some 7), (.move (.tmp 3)), 3, "", #[], none⟩,
  ⟨(some 8), (.call ⟨(.value (.func 16)), #[(.tmp 7)], #[3]⟩), 9, "", #[⟨0, .chain⟩], none⟩,
  ⟨(some 2), (.assign (.tmp 8)), 9, "", #[], none⟩]
def F13.r4 : List Oper := [
  ⟨(some 9), (.move (.tmp 3)), 3, "", #[], none⟩,
  ⟨(some 10), (.binOp .lss 3 (.tmp 9) (.const (.int .i64 100)) 3), 4, "", #[], none⟩]
def F13.r5 : List Oper := [
  ⟨(some 11), (.move (.tmp 3)), 3, "", #[], none⟩,
  ⟨(some 12), (.call ⟨(.value (.func 17)), #[(.tmp 11)], #[3]⟩), 9, "", #[⟨0, .chain⟩], none⟩,
  ⟨(some 2), (.assign (.tmp 12)), 9, "", #[], none⟩]
def F13.r6 : List Oper := [
  ⟨(some 13), (.move (.tmp 3)), 3, "", #[], none⟩,
  ⟨(some 14), (.call ⟨(.value (.func 18)), #[(.tmp 13)], #[3]⟩), 9, "", #[⟨0, .chain⟩], none⟩,
  ⟨(some 2), (.assign (.tmp 14)), 9, "", #[], none⟩]
def F13.t6 : Code := (.seq (.region 6 F13.r6.toArray false) .ret)
theorem F13.t6_eq {P : Program} {Q : Post} {e : FA} {w : World} {θ : Tag (F13.t6, Q, e, w)} : cwE P F13.t6 Q e w θ = cwE P (.seq (.region 6 F13.r6.toArray false) .ret) Q e w := rfl
def F13.t4 : Code := (.seq (.seq (.region 4 F13.r4.toArray false) (.cond (.tmp 10) (.seq (.region 5 F13.r5.toArray false) .ret) .skip)) F13.t6)
theorem F13.t4_eq {P : Program} {Q : Post} {e : FA} {w : World} {θ : Tag (F13.t4, Q, e, w)} : cwE P F13.t4 Q e w θ = cwE P (.seq (.seq (.region 4 F13.r4.toArray false) (.cond (.tmp 10) (.seq (.region 5 F13.r5.toArray false) .ret) .skip)) F13.t6) Q e w := rfl
def F13.code : Code := (.seq (.region 0 F13.r0.toArray false) (.seq (.region 1 F13.r1.toArray false) (.seq (.seq (.region 2 F13.r2.toArray false) (.cond (.tmp 6) (.seq (.region 3 F13.r3.toArray false) .ret) .skip)) F13.t4)))
theorem F13.calls {args : Array Value} {w : World} {R : Ending → World → Prop} (hn : args.size ≤ 15) (h : cwE Try.prog F13.code (fnP Try.prog #[(.tmp 2)] R) (entry args) w) : Calls Try.prog 13 args w R :=
  calls_of_cwE (types := Try.prog.types) follows Try.func13 F13.code rfl (by kernel_rfl) hn h

def F14.r0 : List Oper := [
  ⟨(some 4), (.assign (.const (.bool false))), 4, "", #[], none⟩]
def F14.r1 : List Oper := [
  ⟨(some 6), (.move (.tmp 0)), 26, "", #[], none⟩,
  ⟨(some 7), (.call ⟨(.builtin .len), #[(.tmp 6)], #[26]⟩), 3, "", #[], none⟩,
  ⟨(some 8), (.move (.tmp 1)), 27, "", #[], none⟩,
  ⟨(some 9), (.call ⟨(.builtin .len), #[(.tmp 8)], #[27]⟩), 3, "", #[], none⟩,
  ⟨(some 10), (.binOp .neq 3 (.tmp 7) (.tmp 9) 3), 4, "", #[], none⟩]
def F14.r2 : List Oper := [
  ⟨(some 4), (.assign (.const (.bool false))), 4, "", #[], none⟩]
def F14.r3 : List Oper := [
  ⟨(some 5), (.assign (.const (.int .i64 0))), 3, "", #[], none⟩]
def F14.r4 : List Oper := [
  ⟨(some 11), (.move (.tmp 5)), 3, "", #[], none⟩,
  ⟨(some 12), (.move (.tmp 0)), 26, "", #[], none⟩,
  ⟨(some 13), (.call ⟨(.builtin .len), #[(.tmp 12)], #[26]⟩), 3, "", #[], none⟩,
  ⟨(some 14), (.binOp .lss 3 (.tmp 11) (.tmp 13) 3), 4, "", #[], none⟩]
def F14.r6 : List Oper := [
  ⟨(some 17), (.move (.tmp 0)), 26, "", #[], none⟩,
  ⟨(some 18), (.move (.tmp 5)), 3, "", #[], none⟩,
  ⟨(some 19), (.indexAddr 26 (.tmp 17) (.tmp 18)), 0, "", #[], none⟩,
  ⟨(some 21), (.move (.tmp 1)), 27, "", #[], none⟩,
  ⟨(some 22), (.move (.tmp 5)), 3, "", #[], none⟩,
  ⟨(some 23), (.indexAddr 27 (.tmp 21) (.tmp 22)), 0, "", #[], none⟩,
  ⟨(some 20), (.load 23 (.tmp 19)), 23, "", #[⟨0, .data⟩], none⟩,
  ⟨(some 24), (.load 3 (.tmp 23)), 3, "", #[⟨0, .data⟩], none⟩,
  ⟨(some 25), (.binOp .neq 3 (.tmp 20) (.tmp 24) 3), 4, "", #[], none⟩]
def F14.r7 : List Oper := [
  ⟨(some 4), (.assign (.const (.bool false))), 4, "", #[], none⟩]
def F14.r5 : List Oper := [
  ⟨(some 15), (.move (.tmp 5)), 3, "", #[], none⟩,
  ⟨(some 16), (.binOp .add 3 (.tmp 15) (.const (.int .i64 1)) 3), 3, "", #[], none⟩,
  ⟨(some 5), (.assign (.tmp 16)), 3, "", #[], none⟩]
def F14.r8 : List Oper := [
  ⟨(some 4), (.assign (.const (.bool true))), 4, "", #[], none⟩]
def F14.t5 : Code := (.region 5 F14.r5.toArray false)
theorem F14.t5_eq {P : Program} {Q : Post} {e : FA} {w : World} {θ : Tag (F14.t5, Q, e, w)} : cwE P F14.t5 Q e w θ = cwE P (.region 5 F14.r5.toArray false) Q e w := rfl
def F14.t6 : Code := (.seq (.block 1 (.seq (.region 6 F14.r6.toArray true) (.cond (.tmp 25) (.seq (.region 7 F14.r7.toArray false) .ret) .skip))) F14.t5)
theorem F14.t6_eq {P : Program} {Q : Post} {e : FA} {w : World} {θ : Tag (F14.t6, Q, e, w)} : cwE P F14.t6 Q e w θ = cwE P (.seq (.block 1 (.seq (.region 6 F14.r6.toArray true) (.cond (.tmp 25) (.seq (.region 7 F14.r7.toArray false) .ret) .skip))) F14.t5) Q e w := rfl
def F14.t8 : Code := (.seq (.region 8 F14.r8.toArray false) .ret)
theorem F14.t8_eq {P : Program} {Q : Post} {e : FA} {w : World} {θ : Tag (F14.t8, Q, e, w)} : cwE P F14.t8 Q e w θ = cwE P (.seq (.region 8 F14.r8.toArray false) .ret) Q e w := rfl
def F14.t3 : Code := (.seq (.seq (.region 3 F14.r3.toArray false) (.block 0 (.loop (.seq (.seq (.region 4 F14.r4.toArray false) (.cond (.tmp 14) .skip (.exit 0))) F14.t6)))) F14.t8)
theorem F14.t3_eq {P : Program} {Q : Post} {e : FA} {w : World} {θ : Tag (F14.t3, Q, e, w)} : cwE P F14.t3 Q e w θ = cwE P (.seq (.seq (.region 3 F14.r3.toArray false) (.block 0 (.loop (.seq (.seq (.region 4 F14.r4.toArray false) (.cond (.tmp 14) .skip (.exit 0))) F14.t6)))) F14.t8) Q e w := rfl
def F14.code : Code := (.seq (.region 0 F14.r0.toArray false) (.seq (.seq (.region 1 F14.r1.toArray false) (.cond (.tmp 10) (.seq (.region 2 F14.r2.toArray false) .ret) .skip)) F14.t3))
theorem F14.calls {args : Array Value} {w : World} {R : Ending → World → Prop} (hn : args.size ≤ 26) (h : cwE Try.prog F14.code (fnP Try.prog #[(.tmp 4)] R) (entry args) w) : Calls Try.prog 14 args w R :=
  calls_of_cwE (types := Try.prog.types) follows Try.func14 F14.code rfl (by kernel_rfl) hn h

def F15.r0 : List Oper := [
  ⟨(some 2), (.assign (.const (.string { data := #[] }))), 9, "", #[], none⟩]
def F15.r1 : List Oper := [
  ⟨(some 3), (.move (.tmp 0)), 23, "", #[], none⟩]
def F15.r2 : List Oper := [
  ⟨(some 5), (.binOp .eql 23 (.tmp 3) (.const (.int .i64 70)) 23), 4, "", #[], none⟩,
  ⟨(some 4), (.assign (.tmp 5)), 4, "", #[], none⟩]
def F15.r3 : List Oper := [
  ⟨(some 2), (.assign (.const (.string { data := #[98, 97, 100, 32, 97, 117, 116, 104, 101, 110, 116, 105, 99, 97, 116, 105, 111, 110, 32, 116, 101, 120, 116] }))), 9, "", #[], none⟩]
def F15.r4 : List Oper := [
  ⟨(some 7), (.binOp .eql 23 (.tmp 3) (.const (.int .i64 71)) 23), 4, "", #[], none⟩,
  ⟨(some 6), (.assign (.tmp 7)), 4, "", #[], none⟩]
def F15.r5 : List Oper := [
  ⟨(some 2), (.assign (.const (.string { data := #[97, 117, 116, 104, 101, 110, 116, 105, 99, 97, 116, 105, 111, 110, 32, 105, 115, 32, 111, 118, 101, 114] }))), 9, "", #[], none⟩]
def F15.r6 : List Oper := [
  ⟨(some 9), (.binOp .eql 23 (.tmp 3) (.const (.int .i64 72)) 23), 4, "", #[], none⟩,
  ⟨(some 8), (.assign (.tmp 9)), 4, "", #[], none⟩]
def F15.r7 : List Oper := [
  ⟨(some 2), (.assign (.const (.string { data := #[97, 117, 116, 104, 101, 110, 116, 105, 99, 97, 116, 105, 111, 110, 32, 102, 97, 105, 108, 101, 100] }))), 9, "", #[], none⟩]
def F15.r8 : List Oper := [
  ⟨(some 11), (.binOp .eql 23 (.tmp 3) (.const (.int .i64 80)) 23), 4, "", #[], none⟩,
  ⟨(some 10), (.assign (.tmp 11)), 4, "", #[], none⟩]
def F15.r9 : List Oper := [
  ⟨(some 2), (.assign (.const (.string { data := #[110, 111, 32, 115, 117, 99, 104, 32, 110, 111, 100, 101] }))), 9, "", #[], none⟩]
def F15.r10 : List Oper := [
  ⟨(some 13), (.binOp .eql 23 (.tmp 3) (.const (.int .i64 81)) 23), 4, "", #[], none⟩,
  ⟨(some 12), (.assign (.tmp 13)), 4, "", #[], none⟩]
def F15.r11 : List Oper := [
  ⟨(some 2), (.assign (.const (.string { data := #[119, 114, 111, 110, 103, 32, 107, 105, 110, 100, 32, 111, 102, 32, 110, 111, 100, 101] }))), 9, "", #[], none⟩]
def F15.r12 : List Oper := [
  ⟨(some 15), (.binOp .eql 23 (.tmp 3) (.const (.int .i64 82)) 23), 4, "", #[], none⟩,
  ⟨(some 14), (.assign (.tmp 15)), 4, "", #[], none⟩]
def F15.r13 : List Oper := [
  ⟨(some 2), (.assign (.const (.string { data := #[110, 97, 109, 101, 32, 105, 115, 32, 116, 97, 107, 101, 110] }))), 9, "", #[], none⟩]
def F15.r14 : List Oper := [
  ⟨(some 17), (.binOp .eql 23 (.tmp 3) (.const (.int .i64 83)) 23), 4, "", #[], none⟩,
  ⟨(some 16), (.assign (.tmp 17)), 4, "", #[], none⟩]
def F15.r15 : List Oper := [
  ⟨(some 2), (.assign (.const (.string { data := #[102, 105, 108, 101, 32, 115, 121, 115, 116, 101, 109, 32, 105, 115, 32, 102, 117, 108, 108] }))), 9, "", #[], none⟩]
def F15.r16 : List Oper := [
  ⟨(some 19), (.binOp .eql 23 (.tmp 3) (.const (.int .i64 84)) 23), 4, "", #[], none⟩,
  ⟨(some 18), (.assign (.tmp 19)), 4, "", #[], none⟩]
def F15.r17 : List Oper := [
  ⟨(some 2), (.assign (.const (.string { data := #[98, 121, 116, 101, 115, 32, 98, 101, 121, 111, 110, 100, 32, 97, 32, 98, 108, 111, 99, 107] }))), 9, "", #[], none⟩]
def F15.r18 : List Oper := [
  ⟨(some 21), (.binOp .eql 23 (.tmp 3) (.const (.int .i64 85)) 23), 4, "", #[], none⟩,
  ⟨(some 20), (.assign (.tmp 21)), 4, "", #[], none⟩]
def F15.r19 : List Oper := [
  ⟨(some 2), (.assign (.const (.string { data := #[110, 111, 100, 101, 32, 104, 97, 115, 32, 99, 104, 105, 108, 100, 114, 101, 110] }))), 9, "", #[], none⟩]
def F15.r20 : List Oper := [
  ⟨(some 23), (.binOp .eql 23 (.tmp 3) (.const (.int .i64 86)) 23), 4, "", #[], none⟩,
  ⟨(some 22), (.assign (.tmp 23)), 4, "", #[], none⟩]
def F15.r21 : List Oper := [
  ⟨(some 2), (.assign (.const (.string { data := #[98, 121, 116, 101, 115, 32, 98, 101, 121, 111, 110, 100, 32, 116, 104, 101, 32, 103, 114, 101, 97, 116, 101, 115, 116, 32, 102, 105, 108, 101] }))), 9, "", #[], none⟩]
def F15.r22 : List Oper := [
  ⟨(some 25), (.binOp .eql 23 (.tmp 3) (.const (.int .i64 87)) 23), 4, "", #[], none⟩,
  ⟨(some 24), (.assign (.tmp 25)), 4, "", #[], none⟩]
def F15.r23 : List Oper := [
  ⟨(some 2), (.assign (.const (.string { data := #[102, 101, 119, 101, 114, 32, 116, 104, 97, 110, 32, 110, 111, 110, 101] }))), 9, "", #[], none⟩]
def F15.r24 : List Oper := [
  ⟨(some 27), (.binOp .eql 23 (.tmp 3) (.const (.int .i64 90)) 23), 4, "", #[], none⟩,
  ⟨(some 26), (.assign (.tmp 27)), 4, "", #[], none⟩]
def F15.r25 : List Oper := [
  ⟨(some 2), (.assign (.const (.string { data := #[112, 101, 114, 109, 105, 115, 115, 105, 111, 110, 32, 100, 101, 110, 105, 101, 100] }))), 9, "", #[], none⟩]
def F15.r26 : List Oper := [
  ⟨(some 29), (.binOp .eql 23 (.tmp 3) (.const (.int .i64 91)) 23), 4, "", #[], none⟩,
  ⟨(some 28), (.assign (.tmp 29)), 4, "", #[], none⟩]
def F15.r27 : List Oper := [
  ⟨(some 2), (.assign (.const (.string { data := #[98, 97, 100, 32, 111, 112, 101, 110, 32, 109, 111, 100, 101] }))), 9, "", #[], none⟩]
def F15.r28 : List Oper := [
  ⟨(some 31), (.binOp .eql 23 (.tmp 3) (.const (.int .i64 92)) 23), 4, "", #[], none⟩,
  ⟨(some 30), (.assign (.tmp 31)), 4, "", #[], none⟩]
def F15.r29 : List Oper := [
  ⟨(some 2), (.assign (.const (.string { data := #[102, 105, 108, 101, 32, 105, 115, 32, 97, 32, 100, 105, 114, 101, 99, 116, 111, 114, 121] }))), 9, "", #[], none⟩]
def F15.r30 : List Oper := [
  ⟨(some 33), (.binOp .eql 23 (.tmp 3) (.const (.int .i64 93)) 23), 4, "", #[], none⟩,
  ⟨(some 32), (.assign (.tmp 33)), 4, "", #[], none⟩]
def F15.r31 : List Oper := [
  ⟨(some 2), (.assign (.const (.string { data := #[110, 111, 116, 32, 97, 32, 100, 105, 114, 101, 99, 116, 111, 114, 121] }))), 9, "", #[], none⟩]
def F15.r32 : List Oper := [
  ⟨(some 35), (.binOp .eql 23 (.tmp 3) (.const (.int .i64 94)) 23), 4, "", #[], none⟩,
  ⟨(some 34), (.assign (.tmp 35)), 4, "", #[], none⟩]
def F15.r33 : List Oper := [
  ⟨(some 2), (.assign (.const (.string { data := #[102, 105, 108, 101, 32, 105, 115, 32, 105, 110, 32, 101, 120, 99, 108, 117, 115, 105, 118, 101, 32, 117, 115, 101] }))), 9, "", #[], none⟩]
def F15.r34 : List Oper := [
  ⟨(some 37), (.binOp .eql 23 (.tmp 3) (.const (.int .i64 95)) 23), 4, "", #[], none⟩,
  ⟨(some 36), (.assign (.tmp 37)), 4, "", #[], none⟩]
def F15.r35 : List Oper := [
  ⟨(some 2), (.assign (.const (.string { data := #[102, 105, 108, 101, 32, 101, 120, 105, 115, 116, 115] }))), 9, "", #[], none⟩]
def F15.r36 : List Oper := [
  ⟨(some 39), (.binOp .eql 23 (.tmp 3) (.const (.int .i64 96)) 23), 4, "", #[], none⟩,
  ⟨(some 38), (.assign (.tmp 39)), 4, "", #[], none⟩]
def F15.r37 : List Oper := [
  ⟨(some 2), (.assign (.const (.string { data := #[100, 105, 114, 101, 99, 116, 111, 114, 121, 32, 105, 115, 32, 110, 111, 116, 32, 101, 109, 112, 116, 121] }))), 9, "", #[], none⟩]
def F15.r38 : List Oper := [
  ⟨(some 41), (.binOp .eql 23 (.tmp 3) (.const (.int .i64 97)) 23), 4, "", #[], none⟩,
  ⟨(some 40), (.assign (.tmp 41)), 4, "", #[], none⟩]
def F15.r39 : List Oper := [
  ⟨(some 2), (.assign (.const (.string { data := #[98, 97, 100, 32, 99, 104, 97, 110, 103, 101, 32, 111, 102, 32, 97, 32, 114, 101, 99, 111, 114, 100] }))), 9, "", #[], none⟩]
def F15.r40 : List Oper := [
  ⟨(some 43), (.binOp .eql 23 (.tmp 3) (.const (.int .i64 98)) 23), 4, "", #[], none⟩,
  ⟨(some 42), (.assign (.tmp 43)), 4, "", #[], none⟩]
def F15.r41 : List Oper := [
  ⟨(some 2), (.assign (.const (.string { data := #[102, 105, 108, 101, 32, 105, 115, 32, 116, 111, 111, 32, 98, 105, 103] }))), 9, "", #[], none⟩]
def F15.r42 : List Oper := [
  ⟨(some 45), (.binOp .eql 23 (.tmp 3) (.const (.int .i64 99)) 23), 4, "", #[], none⟩,
  ⟨(some 44), (.assign (.tmp 45)), 4, "", #[], none⟩]
def F15.r43 : List Oper := [
  ⟨(some 2), (.assign (.const (.string { data := #[117, 110, 107, 110, 111, 119, 110, 32, 103, 114, 111, 117, 112] }))), 9, "", #[], none⟩]
def F15.r44 : List Oper := [
  ⟨(some 47), (.binOp .eql 23 (.tmp 3) (.const (.int .i64 100)) 23), 4, "", #[], none⟩,
  ⟨(some 46), (.assign (.tmp 47)), 4, "", #[], none⟩]
def F15.r45 : List Oper := [
  ⟨(some 2), (.assign (.const (.string { data := #[117, 110, 107, 110, 111, 119, 110, 32, 102, 105, 100] }))), 9, "", #[], none⟩]
def F15.r46 : List Oper := [
  ⟨(some 49), (.binOp .eql 23 (.tmp 3) (.const (.int .i64 101)) 23), 4, "", #[], none⟩,
  ⟨(some 48), (.assign (.tmp 49)), 4, "", #[], none⟩]
def F15.r47 : List Oper := [
  ⟨(some 2), (.assign (.const (.string { data := #[102, 105, 100, 32, 105, 115, 32, 105, 110, 32, 117, 115, 101] }))), 9, "", #[], none⟩]
def F15.r48 : List Oper := [
  ⟨(some 51), (.binOp .eql 23 (.tmp 3) (.const (.int .i64 102)) 23), 4, "", #[], none⟩,
  ⟨(some 50), (.assign (.tmp 51)), 4, "", #[], none⟩]
def F15.r49 : List Oper := [
  ⟨(some 2), (.assign (.const (.string { data := #[116, 111, 111, 32, 109, 97, 110, 121, 32, 102, 105, 100, 115] }))), 9, "", #[], none⟩]
def F15.r50 : List Oper := [
  ⟨(some 53), (.binOp .eql 23 (.tmp 3) (.const (.int .i64 103)) 23), 4, "", #[], none⟩,
  ⟨(some 52), (.assign (.tmp 53)), 4, "", #[], none⟩]
def F15.r51 : List Oper := [
  ⟨(some 2), (.assign (.const (.string { data := #[98, 97, 100, 32, 102, 105, 100] }))), 9, "", #[], none⟩]
def F15.r52 : List Oper := [
  ⟨(some 55), (.binOp .eql 23 (.tmp 3) (.const (.int .i64 110)) 23), 4, "", #[], none⟩,
  ⟨(some 54), (.assign (.tmp 55)), 4, "", #[], none⟩]
def F15.r53 : List Oper := [
  ⟨(some 2), (.assign (.const (.string { data := #[98, 97, 100, 32, 99, 111, 110, 102, 105, 103, 117, 114, 97, 116, 105, 111, 110] }))), 9, "", #[], none⟩]
def F15.r54 : List Oper := [
  ⟨(some 57), (.binOp .eql 23 (.tmp 3) (.const (.int .i64 111)) 23), 4, "", #[], none⟩,
  ⟨(some 56), (.assign (.tmp 57)), 4, "", #[], none⟩]
def F15.r55 : List Oper := [
  ⟨(some 2), (.assign (.const (.string { data := #[102, 105, 108, 101, 32, 104, 97, 115, 32, 98, 101, 101, 110, 32, 114, 101, 109, 111, 118, 101, 100] }))), 9, "", #[], none⟩]
def F15.r56 : List Oper := [
  ⟨(some 59), (.binOp .eql 23 (.tmp 3) (.const (.int .i64 112)) 23), 4, "", #[], none⟩,
  ⟨(some 58), (.assign (.tmp 59)), 4, "", #[], none⟩]
def F15.r57 : List Oper := [
  ⟨(some 2), (.assign (.const (.string { data := #[102, 105, 100, 32, 105, 115, 32, 111, 112, 101, 110] }))), 9, "", #[], none⟩]
def F15.r58 : List Oper := [
  ⟨(some 61), (.binOp .eql 23 (.tmp 3) (.const (.int .i64 113)) 23), 4, "", #[], none⟩,
  ⟨(some 60), (.assign (.tmp 61)), 4, "", #[], none⟩]
def F15.r59 : List Oper := [
  ⟨(some 2), (.assign (.const (.string { data := #[102, 105, 108, 101, 32, 100, 111, 101, 115, 32, 110, 111, 116, 32, 101, 120, 105, 115, 116] }))), 9, "", #[], none⟩]
def F15.r60 : List Oper := [
  ⟨(some 62), (.move (.tmp 0)), 23, "", #[], none⟩,
  ⟨(some 63), (.call ⟨(.value (.func 19)), #[(.tmp 62)], #[23]⟩), 9, "", #[⟨0, .chain⟩], none⟩,
  ⟨(some 2), (.assign (.tmp 63)), 9, "", #[], none⟩]
def F15.t60 : Code := (.seq (.region 60 F15.r60.toArray false) .ret)
theorem F15.t60_eq {P : Program} {Q : Post} {e : FA} {w : World} {θ : Tag (F15.t60, Q, e, w)} : cwE P F15.t60 Q e w θ = cwE P (.seq (.region 60 F15.r60.toArray false) .ret) Q e w := rfl
def F15.code : Code := (.seq (.region 0 F15.r0.toArray false) (.seq (.seq (.region 1 F15.r1.toArray false) (.block 0 (.seq (.region 2 F15.r2.toArray false) (.cond (.tmp 4) (.seq (.region 3 F15.r3.toArray false) .ret) (.seq (.region 4 F15.r4.toArray false) (.cond (.tmp 6) (.seq (.region 5 F15.r5.toArray false) .ret) (.seq (.region 6 F15.r6.toArray false) (.cond (.tmp 8) (.seq (.region 7 F15.r7.toArray false) .ret) (.seq (.region 8 F15.r8.toArray false) (.cond (.tmp 10) (.seq (.region 9 F15.r9.toArray false) .ret) (.seq (.region 10 F15.r10.toArray false) (.cond (.tmp 12) (.seq (.region 11 F15.r11.toArray false) .ret) (.seq (.region 12 F15.r12.toArray false) (.cond (.tmp 14) (.seq (.region 13 F15.r13.toArray false) .ret) (.seq (.region 14 F15.r14.toArray false) (.cond (.tmp 16) (.seq (.region 15 F15.r15.toArray false) .ret) (.seq (.region 16 F15.r16.toArray false) (.cond (.tmp 18) (.seq (.region 17 F15.r17.toArray false) .ret) (.seq (.region 18 F15.r18.toArray false) (.cond (.tmp 20) (.seq (.region 19 F15.r19.toArray false) .ret) (.seq (.region 20 F15.r20.toArray false) (.cond (.tmp 22) (.seq (.region 21 F15.r21.toArray false) .ret) (.seq (.region 22 F15.r22.toArray false) (.cond (.tmp 24) (.seq (.region 23 F15.r23.toArray false) .ret) (.seq (.region 24 F15.r24.toArray false) (.cond (.tmp 26) (.seq (.region 25 F15.r25.toArray false) .ret) (.seq (.region 26 F15.r26.toArray false) (.cond (.tmp 28) (.seq (.region 27 F15.r27.toArray false) .ret) (.seq (.region 28 F15.r28.toArray false) (.cond (.tmp 30) (.seq (.region 29 F15.r29.toArray false) .ret) (.seq (.region 30 F15.r30.toArray false) (.cond (.tmp 32) (.seq (.region 31 F15.r31.toArray false) .ret) (.seq (.region 32 F15.r32.toArray false) (.cond (.tmp 34) (.seq (.region 33 F15.r33.toArray false) .ret) (.seq (.region 34 F15.r34.toArray false) (.cond (.tmp 36) (.seq (.region 35 F15.r35.toArray false) .ret) (.seq (.region 36 F15.r36.toArray false) (.cond (.tmp 38) (.seq (.region 37 F15.r37.toArray false) .ret) (.seq (.region 38 F15.r38.toArray false) (.cond (.tmp 40) (.seq (.region 39 F15.r39.toArray false) .ret) (.seq (.region 40 F15.r40.toArray false) (.cond (.tmp 42) (.seq (.region 41 F15.r41.toArray false) .ret) (.seq (.region 42 F15.r42.toArray false) (.cond (.tmp 44) (.seq (.region 43 F15.r43.toArray false) .ret) (.seq (.region 44 F15.r44.toArray false) (.cond (.tmp 46) (.seq (.region 45 F15.r45.toArray false) .ret) (.seq (.region 46 F15.r46.toArray false) (.cond (.tmp 48) (.seq (.region 47 F15.r47.toArray false) .ret) (.seq (.region 48 F15.r48.toArray false) (.cond (.tmp 50) (.seq (.region 49 F15.r49.toArray false) .ret) (.seq (.region 50 F15.r50.toArray false) (.cond (.tmp 52) (.seq (.region 51 F15.r51.toArray false) .ret) (.seq (.region 52 F15.r52.toArray false) (.cond (.tmp 54) (.seq (.region 53 F15.r53.toArray false) .ret) (.seq (.region 54 F15.r54.toArray false) (.cond (.tmp 56) (.seq (.region 55 F15.r55.toArray false) .ret) (.seq (.region 56 F15.r56.toArray false) (.cond (.tmp 58) (.seq (.region 57 F15.r57.toArray false) .ret) (.seq (.region 58 F15.r58.toArray false) (.cond (.tmp 60) (.seq (.region 59 F15.r59.toArray false) .ret) .skip)))))))))))))))))))))))))))))))))))))))))))))))))))))))))))) F15.t60))
theorem F15.calls {args : Array Value} {w : World} {R : Ending → World → Prop} (hn : args.size ≤ 64) (h : cwE Try.prog F15.code (fnP Try.prog #[(.tmp 2)] R) (entry args) w) : Calls Try.prog 15 args w R :=
  calls_of_cwE (types := Try.prog.types) follows Try.func15 F15.code rfl (by kernel_rfl) hn h

def F16.r0 : List Oper := [
  ⟨(some 2), (.assign (.const (.string { data := #[] }))), 9, "", #[], none⟩]
def F16.r1 : List Oper := [
  ⟨(some 3), (.move (.tmp 0)), 3, "", #[], none⟩]
def F16.r2 : List Oper := [
  ⟨(some 5), (.binOp .eql 3 (.tmp 3) (.const (.int .i64 0)) 3), 4, "", #[], none⟩,
  ⟨(some 4), (.assign (.tmp 5)), 4, "", #[], none⟩]
def F16.r3 : List Oper := [
  ⟨(some 2), (.assign (.const (.string { data := #[110, 111, 32, 101, 114, 114, 111, 114] }))), 9, "", #[], none⟩]
def F16.r4 : List Oper := [
  ⟨(some 7), (.binOp .eql 3 (.tmp 3) (.const (.int .i64 1)) 3), 4, "", #[], none⟩,
  ⟨(some 6), (.assign (.tmp 7)), 4, "", #[], none⟩]
def F16.r5 : List Oper := [
  ⟨(some 2), (.assign (.const (.string { data := #[98, 97, 100, 32, 97, 114, 103, 117, 109, 101, 110, 116] }))), 9, "", #[], none⟩]
def F16.r6 : List Oper := [
  ⟨(some 9), (.binOp .eql 3 (.tmp 3) (.const (.int .i64 10)) 3), 4, "", #[], none⟩,
  ⟨(some 8), (.assign (.tmp 9)), 4, "", #[], none⟩]
def F16.r7 : List Oper := [
  ⟨(some 2), (.assign (.const (.string { data := #[116, 111, 111, 32, 102, 101, 119, 32, 98, 121, 116, 101, 115] }))), 9, "", #[], none⟩]
def F16.r8 : List Oper := [
  ⟨(some 11), (.binOp .eql 3 (.tmp 3) (.const (.int .i64 11)) 3), 4, "", #[], none⟩,
  ⟨(some 10), (.assign (.tmp 11)), 4, "", #[], none⟩]
def F16.r9 : List Oper := [
  ⟨(some 2), (.assign (.const (.string { data := #[110, 111, 32, 114, 111, 111, 109, 32, 105, 115, 32, 108, 101, 102, 116] }))), 9, "", #[], none⟩]
def F16.r10 : List Oper := [
  ⟨(some 13), (.binOp .eql 3 (.tmp 3) (.const (.int .i64 12)) 3), 4, "", #[], none⟩,
  ⟨(some 12), (.assign (.tmp 13)), 4, "", #[], none⟩]
def F16.r11 : List Oper := [
  ⟨(some 2), (.assign (.const (.string { data := #[110, 111, 32, 118, 97, 108, 105, 100, 32, 116, 101, 120, 116] }))), 9, "", #[], none⟩]
def F16.r12 : List Oper := [
  ⟨(some 15), (.binOp .eql 3 (.tmp 3) (.const (.int .i64 13)) 3), 4, "", #[], none⟩,
  ⟨(some 14), (.assign (.tmp 15)), 4, "", #[], none⟩]
def F16.r13 : List Oper := [
  ⟨(some 2), (.assign (.const (.string { data := #[116, 111, 111, 32, 108, 111, 110, 103, 32, 116, 111, 32, 98, 101, 32, 99, 111, 117, 110, 116, 101, 100] }))), 9, "", #[], none⟩]
def F16.r14 : List Oper := [
  ⟨(some 17), (.binOp .eql 3 (.tmp 3) (.const (.int .i64 14)) 3), 4, "", #[], none⟩,
  ⟨(some 16), (.assign (.tmp 17)), 4, "", #[], none⟩]
def F16.r15 : List Oper := [
  ⟨(some 2), (.assign (.const (.string { data := #[98, 121, 116, 101, 115, 32, 97, 114, 101, 32, 108, 101, 102, 116] }))), 9, "", #[], none⟩]
def F16.r16 : List Oper := [
  ⟨(some 19), (.binOp .eql 3 (.tmp 3) (.const (.int .i64 20)) 3), 4, "", #[], none⟩,
  ⟨(some 18), (.assign (.tmp 19)), 4, "", #[], none⟩]
def F16.r17 : List Oper := [
  ⟨(some 2), (.assign (.const (.string { data := #[98, 97, 100, 32, 114, 101, 99, 111, 114, 100] }))), 9, "", #[], none⟩]
def F16.r18 : List Oper := [
  ⟨(some 21), (.binOp .eql 3 (.tmp 3) (.const (.int .i64 21)) 3), 4, "", #[], none⟩,
  ⟨(some 20), (.assign (.tmp 21)), 4, "", #[], none⟩]
def F16.r19 : List Oper := [
  ⟨(some 2), (.assign (.const (.string { data := #[98, 97, 100, 32, 109, 111, 100, 101] }))), 9, "", #[], none⟩]
def F16.r20 : List Oper := [
  ⟨(some 23), (.binOp .eql 3 (.tmp 3) (.const (.int .i64 30)) 3), 4, "", #[], none⟩,
  ⟨(some 22), (.assign (.tmp 23)), 4, "", #[], none⟩]
def F16.r21 : List Oper := [
  ⟨(some 2), (.assign (.const (.string { data := #[109, 101, 115, 115, 97, 103, 101, 32, 99, 97, 110, 39, 116, 32, 98, 101, 32, 119, 114, 105, 116, 116, 101, 110] }))), 9, "", #[], none⟩]
def F16.r22 : List Oper := [
  ⟨(some 25), (.binOp .eql 3 (.tmp 3) (.const (.int .i64 31)) 3), 4, "", #[], none⟩,
  ⟨(some 24), (.assign (.tmp 25)), 4, "", #[], none⟩]
def F16.r23 : List Oper := [
  ⟨(some 2), (.assign (.const (.string { data := #[98, 97, 100, 32, 109, 101, 115, 115, 97, 103, 101, 32, 115, 105, 122, 101] }))), 9, "", #[], none⟩]
def F16.r24 : List Oper := [
  ⟨(some 27), (.binOp .eql 3 (.tmp 3) (.const (.int .i64 32)) 3), 4, "", #[], none⟩,
  ⟨(some 26), (.assign (.tmp 27)), 4, "", #[], none⟩]
def F16.r25 : List Oper := [
  ⟨(some 2), (.assign (.const (.string { data := #[117, 110, 107, 110, 111, 119, 110, 32, 109, 101, 115, 115, 97, 103, 101] }))), 9, "", #[], none⟩]
def F16.r26 : List Oper := [
  ⟨(some 29), (.binOp .eql 3 (.tmp 3) (.const (.int .i64 33)) 3), 4, "", #[], none⟩,
  ⟨(some 28), (.assign (.tmp 29)), 4, "", #[], none⟩]
def F16.r27 : List Oper := [
  ⟨(some 2), (.assign (.const (.string { data := #[98, 97, 100, 32, 109, 101, 115, 115, 97, 103, 101] }))), 9, "", #[], none⟩]
def F16.r28 : List Oper := [
  ⟨(some 31), (.binOp .eql 3 (.tmp 3) (.const (.int .i64 34)) 3), 4, "", #[], none⟩,
  ⟨(some 30), (.assign (.tmp 31)), 4, "", #[], none⟩]
def F16.r29 : List Oper := [
  ⟨(some 2), (.assign (.const (.string { data := #[98, 97, 100, 32, 109, 101, 115, 115, 97, 103, 101, 32, 116, 101, 120, 116] }))), 9, "", #[], none⟩]
def F16.r30 : List Oper := [
  ⟨(some 33), (.binOp .eql 3 (.tmp 3) (.const (.int .i64 40)) 3), 4, "", #[], none⟩,
  ⟨(some 32), (.assign (.tmp 33)), 4, "", #[], none⟩]
def F16.r31 : List Oper := [
  ⟨(some 2), (.assign (.const (.string { data := #[98, 97, 100, 32, 102, 114, 97, 109, 101] }))), 9, "", #[], none⟩]
def F16.r32 : List Oper := [
  ⟨(some 35), (.binOp .eql 3 (.tmp 3) (.const (.int .i64 50)) 3), 4, "", #[], none⟩,
  ⟨(some 34), (.assign (.tmp 35)), 4, "", #[], none⟩]
def F16.r33 : List Oper := [
  ⟨(some 2), (.assign (.const (.string { data := #[98, 97, 100, 32, 102, 105, 108, 101, 32, 110, 97, 109, 101] }))), 9, "", #[], none⟩]
def F16.r34 : List Oper := [
  ⟨(some 37), (.binOp .eql 3 (.tmp 3) (.const (.int .i64 51)) 3), 4, "", #[], none⟩,
  ⟨(some 36), (.assign (.tmp 37)), 4, "", #[], none⟩]
def F16.r35 : List Oper := [
  ⟨(some 2), (.assign (.const (.string { data := #[98, 97, 100, 32, 112, 97, 116, 104, 32, 110, 97, 109, 101] }))), 9, "", #[], none⟩]
def F16.r36 : List Oper := [
  ⟨(some 39), (.binOp .eql 3 (.tmp 3) (.const (.int .i64 52)) 3), 4, "", #[], none⟩,
  ⟨(some 38), (.assign (.tmp 39)), 4, "", #[], none⟩]
def F16.r37 : List Oper := [
  ⟨(some 2), (.assign (.const (.string { data := #[98, 97, 100, 32, 112, 97, 116, 116, 101, 114, 110] }))), 9, "", #[], none⟩]
def F16.r38 : List Oper := [
  ⟨(some 41), (.binOp .eql 3 (.tmp 3) (.const (.int .i64 53)) 3), 4, "", #[], none⟩,
  ⟨(some 40), (.assign (.tmp 41)), 4, "", #[], none⟩]
def F16.r39 : List Oper := [
  ⟨(some 2), (.assign (.const (.string { data := #[98, 97, 100, 32, 113, 117, 111, 116, 101, 115] }))), 9, "", #[], none⟩]
def F16.r40 : List Oper := [
  ⟨(some 2), (.assign (.const (.string { data := #[101, 114, 114, 111, 114] }))), 9, "", #[], none⟩]
def F16.t40 : Code := (.seq (.region 40 F16.r40.toArray false) .ret)
theorem F16.t40_eq {P : Program} {Q : Post} {e : FA} {w : World} {θ : Tag (F16.t40, Q, e, w)} : cwE P F16.t40 Q e w θ = cwE P (.seq (.region 40 F16.r40.toArray false) .ret) Q e w := rfl
def F16.code : Code := (.seq (.region 0 F16.r0.toArray false) (.seq (.seq (.region 1 F16.r1.toArray false) (.block 0 (.seq (.region 2 F16.r2.toArray false) (.cond (.tmp 4) (.seq (.region 3 F16.r3.toArray false) .ret) (.seq (.region 4 F16.r4.toArray false) (.cond (.tmp 6) (.seq (.region 5 F16.r5.toArray false) .ret) (.seq (.region 6 F16.r6.toArray false) (.cond (.tmp 8) (.seq (.region 7 F16.r7.toArray false) .ret) (.seq (.region 8 F16.r8.toArray false) (.cond (.tmp 10) (.seq (.region 9 F16.r9.toArray false) .ret) (.seq (.region 10 F16.r10.toArray false) (.cond (.tmp 12) (.seq (.region 11 F16.r11.toArray false) .ret) (.seq (.region 12 F16.r12.toArray false) (.cond (.tmp 14) (.seq (.region 13 F16.r13.toArray false) .ret) (.seq (.region 14 F16.r14.toArray false) (.cond (.tmp 16) (.seq (.region 15 F16.r15.toArray false) .ret) (.seq (.region 16 F16.r16.toArray false) (.cond (.tmp 18) (.seq (.region 17 F16.r17.toArray false) .ret) (.seq (.region 18 F16.r18.toArray false) (.cond (.tmp 20) (.seq (.region 19 F16.r19.toArray false) .ret) (.seq (.region 20 F16.r20.toArray false) (.cond (.tmp 22) (.seq (.region 21 F16.r21.toArray false) .ret) (.seq (.region 22 F16.r22.toArray false) (.cond (.tmp 24) (.seq (.region 23 F16.r23.toArray false) .ret) (.seq (.region 24 F16.r24.toArray false) (.cond (.tmp 26) (.seq (.region 25 F16.r25.toArray false) .ret) (.seq (.region 26 F16.r26.toArray false) (.cond (.tmp 28) (.seq (.region 27 F16.r27.toArray false) .ret) (.seq (.region 28 F16.r28.toArray false) (.cond (.tmp 30) (.seq (.region 29 F16.r29.toArray false) .ret) (.seq (.region 30 F16.r30.toArray false) (.cond (.tmp 32) (.seq (.region 31 F16.r31.toArray false) .ret) (.seq (.region 32 F16.r32.toArray false) (.cond (.tmp 34) (.seq (.region 33 F16.r33.toArray false) .ret) (.seq (.region 34 F16.r34.toArray false) (.cond (.tmp 36) (.seq (.region 35 F16.r35.toArray false) .ret) (.seq (.region 36 F16.r36.toArray false) (.cond (.tmp 38) (.seq (.region 37 F16.r37.toArray false) .ret) (.seq (.region 38 F16.r38.toArray false) (.cond (.tmp 40) (.seq (.region 39 F16.r39.toArray false) .ret) .skip)))))))))))))))))))))))))))))))))))))))) F16.t40))
theorem F16.calls {args : Array Value} {w : World} {R : Ending → World → Prop} (hn : args.size ≤ 42) (h : cwE Try.prog F16.code (fnP Try.prog #[(.tmp 2)] R) (entry args) w) : Calls Try.prog 16 args w R :=
  calls_of_cwE (types := Try.prog.types) follows Try.func16 F16.code rfl (by kernel_rfl) hn h

def F17.r0 : List Oper := [
  ⟨(some 2), (.assign (.const (.string { data := #[] }))), 9, "", #[], none⟩]
def F17.r1 : List Oper := [
  ⟨(some 3), (.move (.tmp 0)), 3, "", #[], none⟩]
def F17.r2 : List Oper := [
  ⟨(some 5), (.binOp .eql 3 (.tmp 3) (.const (.int .i64 60)) 3), 4, "", #[], none⟩,
  ⟨(some 4), (.assign (.tmp 5)), 4, "", #[], none⟩]
def F17.r3 : List Oper := [
  ⟨(some 2), (.assign (.const (.string { data := #[98, 97, 100, 32, 117, 115, 101, 114, 115, 32, 108, 105, 110, 101] }))), 9, "", #[], none⟩]
def F17.r4 : List Oper := [
  ⟨(some 7), (.binOp .eql 3 (.tmp 3) (.const (.int .i64 61)) 3), 4, "", #[], none⟩,
  ⟨(some 6), (.assign (.tmp 7)), 4, "", #[], none⟩]
def F17.r5 : List Oper := [
  ⟨(some 2), (.assign (.const (.string { data := #[117, 115, 101, 114, 32, 115, 116, 97, 110, 100, 115, 32, 116, 119, 105, 99, 101] }))), 9, "", #[], none⟩]
def F17.r6 : List Oper := [
  ⟨(some 9), (.binOp .eql 3 (.tmp 3) (.const (.int .i64 62)) 3), 4, "", #[], none⟩,
  ⟨(some 8), (.assign (.tmp 9)), 4, "", #[], none⟩]
def F17.r7 : List Oper := [
  ⟨(some 2), (.assign (.const (.string { data := #[117, 115, 101, 114, 32, 119, 105, 116, 104, 111, 117, 116, 32, 97, 32, 108, 105, 110, 101] }))), 9, "", #[], none⟩]
def F17.r8 : List Oper := [
  ⟨(some 11), (.binOp .eql 3 (.tmp 3) (.const (.int .i64 70)) 3), 4, "", #[], none⟩,
  ⟨(some 10), (.assign (.tmp 11)), 4, "", #[], none⟩]
def F17.r9 : List Oper := [
  ⟨(some 2), (.assign (.const (.string { data := #[98, 97, 100, 32, 97, 117, 116, 104, 101, 110, 116, 105, 99, 97, 116, 105, 111, 110, 32, 116, 101, 120, 116] }))), 9, "", #[], none⟩]
def F17.r10 : List Oper := [
  ⟨(some 13), (.binOp .eql 3 (.tmp 3) (.const (.int .i64 71)) 3), 4, "", #[], none⟩,
  ⟨(some 12), (.assign (.tmp 13)), 4, "", #[], none⟩]
def F17.r11 : List Oper := [
  ⟨(some 2), (.assign (.const (.string { data := #[97, 117, 116, 104, 101, 110, 116, 105, 99, 97, 116, 105, 111, 110, 32, 105, 115, 32, 111, 118, 101, 114] }))), 9, "", #[], none⟩]
def F17.r12 : List Oper := [
  ⟨(some 15), (.binOp .eql 3 (.tmp 3) (.const (.int .i64 72)) 3), 4, "", #[], none⟩,
  ⟨(some 14), (.assign (.tmp 15)), 4, "", #[], none⟩]
def F17.r13 : List Oper := [
  ⟨(some 2), (.assign (.const (.string { data := #[97, 117, 116, 104, 101, 110, 116, 105, 99, 97, 116, 105, 111, 110, 32, 102, 97, 105, 108, 101, 100] }))), 9, "", #[], none⟩]
def F17.r14 : List Oper := [
  ⟨(some 17), (.binOp .eql 3 (.tmp 3) (.const (.int .i64 80)) 3), 4, "", #[], none⟩,
  ⟨(some 16), (.assign (.tmp 17)), 4, "", #[], none⟩]
def F17.r15 : List Oper := [
  ⟨(some 2), (.assign (.const (.string { data := #[110, 111, 32, 115, 117, 99, 104, 32, 110, 111, 100, 101] }))), 9, "", #[], none⟩]
def F17.r16 : List Oper := [
  ⟨(some 19), (.binOp .eql 3 (.tmp 3) (.const (.int .i64 81)) 3), 4, "", #[], none⟩,
  ⟨(some 18), (.assign (.tmp 19)), 4, "", #[], none⟩]
def F17.r17 : List Oper := [
  ⟨(some 2), (.assign (.const (.string { data := #[119, 114, 111, 110, 103, 32, 107, 105, 110, 100, 32, 111, 102, 32, 110, 111, 100, 101] }))), 9, "", #[], none⟩]
def F17.r18 : List Oper := [
  ⟨(some 21), (.binOp .eql 3 (.tmp 3) (.const (.int .i64 82)) 3), 4, "", #[], none⟩,
  ⟨(some 20), (.assign (.tmp 21)), 4, "", #[], none⟩]
def F17.r19 : List Oper := [
  ⟨(some 2), (.assign (.const (.string { data := #[110, 97, 109, 101, 32, 105, 115, 32, 116, 97, 107, 101, 110] }))), 9, "", #[], none⟩]
def F17.r20 : List Oper := [
  ⟨(some 23), (.binOp .eql 3 (.tmp 3) (.const (.int .i64 83)) 3), 4, "", #[], none⟩,
  ⟨(some 22), (.assign (.tmp 23)), 4, "", #[], none⟩]
def F17.r21 : List Oper := [
  ⟨(some 2), (.assign (.const (.string { data := #[102, 105, 108, 101, 32, 115, 121, 115, 116, 101, 109, 32, 105, 115, 32, 102, 117, 108, 108] }))), 9, "", #[], none⟩]
def F17.r22 : List Oper := [
  ⟨(some 25), (.binOp .eql 3 (.tmp 3) (.const (.int .i64 84)) 3), 4, "", #[], none⟩,
  ⟨(some 24), (.assign (.tmp 25)), 4, "", #[], none⟩]
def F17.r23 : List Oper := [
  ⟨(some 2), (.assign (.const (.string { data := #[98, 121, 116, 101, 115, 32, 98, 101, 121, 111, 110, 100, 32, 97, 32, 98, 108, 111, 99, 107] }))), 9, "", #[], none⟩]
def F17.r24 : List Oper := [
  ⟨(some 27), (.binOp .eql 3 (.tmp 3) (.const (.int .i64 85)) 3), 4, "", #[], none⟩,
  ⟨(some 26), (.assign (.tmp 27)), 4, "", #[], none⟩]
def F17.r25 : List Oper := [
  ⟨(some 2), (.assign (.const (.string { data := #[110, 111, 100, 101, 32, 104, 97, 115, 32, 99, 104, 105, 108, 100, 114, 101, 110] }))), 9, "", #[], none⟩]
def F17.r26 : List Oper := [
  ⟨(some 29), (.binOp .eql 3 (.tmp 3) (.const (.int .i64 86)) 3), 4, "", #[], none⟩,
  ⟨(some 28), (.assign (.tmp 29)), 4, "", #[], none⟩]
def F17.r27 : List Oper := [
  ⟨(some 2), (.assign (.const (.string { data := #[98, 121, 116, 101, 115, 32, 98, 101, 121, 111, 110, 100, 32, 116, 104, 101, 32, 103, 114, 101, 97, 116, 101, 115, 116, 32, 102, 105, 108, 101] }))), 9, "", #[], none⟩]
def F17.r28 : List Oper := [
  ⟨(some 31), (.binOp .eql 3 (.tmp 3) (.const (.int .i64 87)) 3), 4, "", #[], none⟩,
  ⟨(some 30), (.assign (.tmp 31)), 4, "", #[], none⟩]
def F17.r29 : List Oper := [
  ⟨(some 2), (.assign (.const (.string { data := #[102, 101, 119, 101, 114, 32, 116, 104, 97, 110, 32, 110, 111, 110, 101] }))), 9, "", #[], none⟩]
def F17.r30 : List Oper := [
  ⟨(some 33), (.binOp .eql 3 (.tmp 3) (.const (.int .i64 90)) 3), 4, "", #[], none⟩,
  ⟨(some 32), (.assign (.tmp 33)), 4, "", #[], none⟩]
def F17.r31 : List Oper := [
  ⟨(some 2), (.assign (.const (.string { data := #[112, 101, 114, 109, 105, 115, 115, 105, 111, 110, 32, 100, 101, 110, 105, 101, 100] }))), 9, "", #[], none⟩]
def F17.r32 : List Oper := [
  ⟨(some 35), (.binOp .eql 3 (.tmp 3) (.const (.int .i64 91)) 3), 4, "", #[], none⟩,
  ⟨(some 34), (.assign (.tmp 35)), 4, "", #[], none⟩]
def F17.r33 : List Oper := [
  ⟨(some 2), (.assign (.const (.string { data := #[98, 97, 100, 32, 111, 112, 101, 110, 32, 109, 111, 100, 101] }))), 9, "", #[], none⟩]
def F17.r34 : List Oper := [
  ⟨(some 37), (.binOp .eql 3 (.tmp 3) (.const (.int .i64 92)) 3), 4, "", #[], none⟩,
  ⟨(some 36), (.assign (.tmp 37)), 4, "", #[], none⟩]
def F17.r35 : List Oper := [
  ⟨(some 2), (.assign (.const (.string { data := #[102, 105, 108, 101, 32, 105, 115, 32, 97, 32, 100, 105, 114, 101, 99, 116, 111, 114, 121] }))), 9, "", #[], none⟩]
def F17.r36 : List Oper := [
  ⟨(some 39), (.binOp .eql 3 (.tmp 3) (.const (.int .i64 93)) 3), 4, "", #[], none⟩,
  ⟨(some 38), (.assign (.tmp 39)), 4, "", #[], none⟩]
def F17.r37 : List Oper := [
  ⟨(some 2), (.assign (.const (.string { data := #[110, 111, 116, 32, 97, 32, 100, 105, 114, 101, 99, 116, 111, 114, 121] }))), 9, "", #[], none⟩]
def F17.r38 : List Oper := [
  ⟨(some 41), (.binOp .eql 3 (.tmp 3) (.const (.int .i64 94)) 3), 4, "", #[], none⟩,
  ⟨(some 40), (.assign (.tmp 41)), 4, "", #[], none⟩]
def F17.r39 : List Oper := [
  ⟨(some 2), (.assign (.const (.string { data := #[102, 105, 108, 101, 32, 105, 115, 32, 105, 110, 32, 101, 120, 99, 108, 117, 115, 105, 118, 101, 32, 117, 115, 101] }))), 9, "", #[], none⟩]
def F17.r40 : List Oper := [
  ⟨(some 43), (.binOp .eql 3 (.tmp 3) (.const (.int .i64 95)) 3), 4, "", #[], none⟩,
  ⟨(some 42), (.assign (.tmp 43)), 4, "", #[], none⟩]
def F17.r41 : List Oper := [
  ⟨(some 2), (.assign (.const (.string { data := #[102, 105, 108, 101, 32, 101, 120, 105, 115, 116, 115] }))), 9, "", #[], none⟩]
def F17.r42 : List Oper := [
  ⟨(some 45), (.binOp .eql 3 (.tmp 3) (.const (.int .i64 96)) 3), 4, "", #[], none⟩,
  ⟨(some 44), (.assign (.tmp 45)), 4, "", #[], none⟩]
def F17.r43 : List Oper := [
  ⟨(some 2), (.assign (.const (.string { data := #[100, 105, 114, 101, 99, 116, 111, 114, 121, 32, 105, 115, 32, 110, 111, 116, 32, 101, 109, 112, 116, 121] }))), 9, "", #[], none⟩]
def F17.r44 : List Oper := [
  ⟨(some 47), (.binOp .eql 3 (.tmp 3) (.const (.int .i64 97)) 3), 4, "", #[], none⟩,
  ⟨(some 46), (.assign (.tmp 47)), 4, "", #[], none⟩]
def F17.r45 : List Oper := [
  ⟨(some 2), (.assign (.const (.string { data := #[98, 97, 100, 32, 99, 104, 97, 110, 103, 101, 32, 111, 102, 32, 97, 32, 114, 101, 99, 111, 114, 100] }))), 9, "", #[], none⟩]
def F17.r46 : List Oper := [
  ⟨(some 49), (.binOp .eql 3 (.tmp 3) (.const (.int .i64 98)) 3), 4, "", #[], none⟩,
  ⟨(some 48), (.assign (.tmp 49)), 4, "", #[], none⟩]
def F17.r47 : List Oper := [
  ⟨(some 2), (.assign (.const (.string { data := #[102, 105, 108, 101, 32, 105, 115, 32, 116, 111, 111, 32, 98, 105, 103] }))), 9, "", #[], none⟩]
def F17.r48 : List Oper := [
  ⟨(some 51), (.binOp .eql 3 (.tmp 3) (.const (.int .i64 99)) 3), 4, "", #[], none⟩,
  ⟨(some 50), (.assign (.tmp 51)), 4, "", #[], none⟩]
def F17.r49 : List Oper := [
  ⟨(some 2), (.assign (.const (.string { data := #[117, 110, 107, 110, 111, 119, 110, 32, 103, 114, 111, 117, 112] }))), 9, "", #[], none⟩]
def F17.r50 : List Oper := [
  ⟨(some 2), (.assign (.const (.string { data := #[101, 114, 114, 111, 114] }))), 9, "", #[], none⟩]
def F17.t50 : Code := (.seq (.region 50 F17.r50.toArray false) .ret)
theorem F17.t50_eq {P : Program} {Q : Post} {e : FA} {w : World} {θ : Tag (F17.t50, Q, e, w)} : cwE P F17.t50 Q e w θ = cwE P (.seq (.region 50 F17.r50.toArray false) .ret) Q e w := rfl
def F17.code : Code := (.seq (.region 0 F17.r0.toArray false) (.seq (.seq (.region 1 F17.r1.toArray false) (.block 0 (.seq (.region 2 F17.r2.toArray false) (.cond (.tmp 4) (.seq (.region 3 F17.r3.toArray false) .ret) (.seq (.region 4 F17.r4.toArray false) (.cond (.tmp 6) (.seq (.region 5 F17.r5.toArray false) .ret) (.seq (.region 6 F17.r6.toArray false) (.cond (.tmp 8) (.seq (.region 7 F17.r7.toArray false) .ret) (.seq (.region 8 F17.r8.toArray false) (.cond (.tmp 10) (.seq (.region 9 F17.r9.toArray false) .ret) (.seq (.region 10 F17.r10.toArray false) (.cond (.tmp 12) (.seq (.region 11 F17.r11.toArray false) .ret) (.seq (.region 12 F17.r12.toArray false) (.cond (.tmp 14) (.seq (.region 13 F17.r13.toArray false) .ret) (.seq (.region 14 F17.r14.toArray false) (.cond (.tmp 16) (.seq (.region 15 F17.r15.toArray false) .ret) (.seq (.region 16 F17.r16.toArray false) (.cond (.tmp 18) (.seq (.region 17 F17.r17.toArray false) .ret) (.seq (.region 18 F17.r18.toArray false) (.cond (.tmp 20) (.seq (.region 19 F17.r19.toArray false) .ret) (.seq (.region 20 F17.r20.toArray false) (.cond (.tmp 22) (.seq (.region 21 F17.r21.toArray false) .ret) (.seq (.region 22 F17.r22.toArray false) (.cond (.tmp 24) (.seq (.region 23 F17.r23.toArray false) .ret) (.seq (.region 24 F17.r24.toArray false) (.cond (.tmp 26) (.seq (.region 25 F17.r25.toArray false) .ret) (.seq (.region 26 F17.r26.toArray false) (.cond (.tmp 28) (.seq (.region 27 F17.r27.toArray false) .ret) (.seq (.region 28 F17.r28.toArray false) (.cond (.tmp 30) (.seq (.region 29 F17.r29.toArray false) .ret) (.seq (.region 30 F17.r30.toArray false) (.cond (.tmp 32) (.seq (.region 31 F17.r31.toArray false) .ret) (.seq (.region 32 F17.r32.toArray false) (.cond (.tmp 34) (.seq (.region 33 F17.r33.toArray false) .ret) (.seq (.region 34 F17.r34.toArray false) (.cond (.tmp 36) (.seq (.region 35 F17.r35.toArray false) .ret) (.seq (.region 36 F17.r36.toArray false) (.cond (.tmp 38) (.seq (.region 37 F17.r37.toArray false) .ret) (.seq (.region 38 F17.r38.toArray false) (.cond (.tmp 40) (.seq (.region 39 F17.r39.toArray false) .ret) (.seq (.region 40 F17.r40.toArray false) (.cond (.tmp 42) (.seq (.region 41 F17.r41.toArray false) .ret) (.seq (.region 42 F17.r42.toArray false) (.cond (.tmp 44) (.seq (.region 43 F17.r43.toArray false) .ret) (.seq (.region 44 F17.r44.toArray false) (.cond (.tmp 46) (.seq (.region 45 F17.r45.toArray false) .ret) (.seq (.region 46 F17.r46.toArray false) (.cond (.tmp 48) (.seq (.region 47 F17.r47.toArray false) .ret) (.seq (.region 48 F17.r48.toArray false) (.cond (.tmp 50) (.seq (.region 49 F17.r49.toArray false) .ret) .skip)))))))))))))))))))))))))))))))))))))))))))))))))) F17.t50))
theorem F17.calls {args : Array Value} {w : World} {R : Ending → World → Prop} (hn : args.size ≤ 52) (h : cwE Try.prog F17.code (fnP Try.prog #[(.tmp 2)] R) (entry args) w) : Calls Try.prog 17 args w R :=
  calls_of_cwE (types := Try.prog.types) follows Try.func17 F17.code rfl (by kernel_rfl) hn h

def F18.r0 : List Oper := [
  ⟨(some 2), (.assign (.const (.string { data := #[] }))), 9, "", #[], none⟩]
def F18.r1 : List Oper := [
  ⟨(some 3), (.move (.tmp 0)), 3, "", #[], none⟩]
def F18.r2 : List Oper := [
  ⟨(some 5), (.binOp .eql 3 (.tmp 3) (.const (.int .i64 100)) 3), 4, "", #[], none⟩,
  ⟨(some 4), (.assign (.tmp 5)), 4, "", #[], none⟩]
def F18.r3 : List Oper := [
  ⟨(some 2), (.assign (.const (.string { data := #[117, 110, 107, 110, 111, 119, 110, 32, 102, 105, 100] }))), 9, "", #[], none⟩]
def F18.r4 : List Oper := [
  ⟨(some 7), (.binOp .eql 3 (.tmp 3) (.const (.int .i64 101)) 3), 4, "", #[], none⟩,
  ⟨(some 6), (.assign (.tmp 7)), 4, "", #[], none⟩]
def F18.r5 : List Oper := [
  ⟨(some 2), (.assign (.const (.string { data := #[102, 105, 100, 32, 105, 115, 32, 105, 110, 32, 117, 115, 101] }))), 9, "", #[], none⟩]
def F18.r6 : List Oper := [
  ⟨(some 9), (.binOp .eql 3 (.tmp 3) (.const (.int .i64 102)) 3), 4, "", #[], none⟩,
  ⟨(some 8), (.assign (.tmp 9)), 4, "", #[], none⟩]
def F18.r7 : List Oper := [
  ⟨(some 2), (.assign (.const (.string { data := #[116, 111, 111, 32, 109, 97, 110, 121, 32, 102, 105, 100, 115] }))), 9, "", #[], none⟩]
def F18.r8 : List Oper := [
  ⟨(some 11), (.binOp .eql 3 (.tmp 3) (.const (.int .i64 103)) 3), 4, "", #[], none⟩,
  ⟨(some 10), (.assign (.tmp 11)), 4, "", #[], none⟩]
def F18.r9 : List Oper := [
  ⟨(some 2), (.assign (.const (.string { data := #[98, 97, 100, 32, 102, 105, 100] }))), 9, "", #[], none⟩]
def F18.r10 : List Oper := [
  ⟨(some 13), (.binOp .eql 3 (.tmp 3) (.const (.int .i64 110)) 3), 4, "", #[], none⟩,
  ⟨(some 12), (.assign (.tmp 13)), 4, "", #[], none⟩]
def F18.r11 : List Oper := [
  ⟨(some 2), (.assign (.const (.string { data := #[98, 97, 100, 32, 99, 111, 110, 102, 105, 103, 117, 114, 97, 116, 105, 111, 110] }))), 9, "", #[], none⟩]
def F18.r12 : List Oper := [
  ⟨(some 15), (.binOp .eql 3 (.tmp 3) (.const (.int .i64 111)) 3), 4, "", #[], none⟩,
  ⟨(some 14), (.assign (.tmp 15)), 4, "", #[], none⟩]
def F18.r13 : List Oper := [
  ⟨(some 2), (.assign (.const (.string { data := #[102, 105, 108, 101, 32, 104, 97, 115, 32, 98, 101, 101, 110, 32, 114, 101, 109, 111, 118, 101, 100] }))), 9, "", #[], none⟩]
def F18.r14 : List Oper := [
  ⟨(some 17), (.binOp .eql 3 (.tmp 3) (.const (.int .i64 112)) 3), 4, "", #[], none⟩,
  ⟨(some 16), (.assign (.tmp 17)), 4, "", #[], none⟩]
def F18.r15 : List Oper := [
  ⟨(some 2), (.assign (.const (.string { data := #[102, 105, 100, 32, 105, 115, 32, 111, 112, 101, 110] }))), 9, "", #[], none⟩]
def F18.r16 : List Oper := [
  ⟨(some 19), (.binOp .eql 3 (.tmp 3) (.const (.int .i64 113)) 3), 4, "", #[], none⟩,
  ⟨(some 18), (.assign (.tmp 19)), 4, "", #[], none⟩]
def F18.r17 : List Oper := [
  ⟨(some 2), (.assign (.const (.string { data := #[102, 105, 108, 101, 32, 100, 111, 101, 115, 32, 110, 111, 116, 32, 101, 120, 105, 115, 116] }))), 9, "", #[], none⟩]
def F18.r18 : List Oper := [
  ⟨(some 21), (.binOp .eql 3 (.tmp 3) (.const (.int .i64 114)) 3), 4, "", #[], none⟩,
  ⟨(some 20), (.assign (.tmp 21)), 4, "", #[], none⟩]
def F18.r19 : List Oper := [
  ⟨(some 2), (.assign (.const (.string { data := #[117, 110, 107, 110, 111, 119, 110, 32, 117, 115, 101, 114] }))), 9, "", #[], none⟩]
def F18.r20 : List Oper := [
  ⟨(some 23), (.binOp .eql 3 (.tmp 3) (.const (.int .i64 115)) 3), 4, "", #[], none⟩,
  ⟨(some 22), (.assign (.tmp 23)), 4, "", #[], none⟩]
def F18.r21 : List Oper := [
  ⟨(some 2), (.assign (.const (.string { data := #[117, 110, 107, 110, 111, 119, 110, 32, 116, 114, 101, 101] }))), 9, "", #[], none⟩]
def F18.r22 : List Oper := [
  ⟨(some 25), (.binOp .eql 3 (.tmp 3) (.const (.int .i64 116)) 3), 4, "", #[], none⟩,
  ⟨(some 24), (.assign (.tmp 25)), 4, "", #[], none⟩]
def F18.r23 : List Oper := [
  ⟨(some 2), (.assign (.const (.string { data := #[97, 117, 116, 104, 101, 110, 116, 105, 99, 97, 116, 105, 111, 110, 32, 105, 115, 32, 119, 114, 111, 110, 103, 32, 104, 101, 114, 101] }))), 9, "", #[], none⟩]
def F18.r24 : List Oper := [
  ⟨(some 27), (.binOp .eql 3 (.tmp 3) (.const (.int .i64 117)) 3), 4, "", #[], none⟩,
  ⟨(some 26), (.assign (.tmp 27)), 4, "", #[], none⟩]
def F18.r25 : List Oper := [
  ⟨(some 2), (.assign (.const (.string { data := #[102, 105, 100, 32, 105, 115, 32, 110, 111, 116, 32, 111, 112, 101, 110, 32, 102, 111, 114, 32, 116, 104, 105, 115] }))), 9, "", #[], none⟩]
def F18.r26 : List Oper := [
  ⟨(some 29), (.binOp .eql 3 (.tmp 3) (.const (.int .i64 118)) 3), 4, "", #[], none⟩,
  ⟨(some 28), (.assign (.tmp 29)), 4, "", #[], none⟩]
def F18.r27 : List Oper := [
  ⟨(some 2), (.assign (.const (.string { data := #[98, 97, 100, 32, 111, 102, 102, 115, 101, 116, 32, 105, 110, 32, 97, 32, 100, 105, 114, 101, 99, 116, 111, 114, 121] }))), 9, "", #[], none⟩]
def F18.r28 : List Oper := [
  ⟨(some 31), (.binOp .eql 3 (.tmp 3) (.const (.int .i64 119)) 3), 4, "", #[], none⟩,
  ⟨(some 30), (.assign (.tmp 31)), 4, "", #[], none⟩]
def F18.r29 : List Oper := [
  ⟨(some 2), (.assign (.const (.string { data := #[99, 111, 117, 110, 116, 32, 105, 115, 32, 116, 111, 111, 32, 115, 109, 97, 108, 108] }))), 9, "", #[], none⟩]
def F18.r30 : List Oper := [
  ⟨(some 33), (.binOp .eql 3 (.tmp 3) (.const (.int .i64 120)) 3), 4, "", #[], none⟩,
  ⟨(some 32), (.assign (.tmp 33)), 4, "", #[], none⟩]
def F18.r31 : List Oper := [
  ⟨(some 2), (.assign (.const (.string { data := #[98, 97, 100, 32, 116, 97, 103] }))), 9, "", #[], none⟩]
def F18.r32 : List Oper := [
  ⟨(some 35), (.binOp .eql 3 (.tmp 3) (.const (.int .i64 121)) 3), 4, "", #[], none⟩,
  ⟨(some 34), (.assign (.tmp 35)), 4, "", #[], none⟩]
def F18.r33 : List Oper := [
  ⟨(some 2), (.assign (.const (.string { data := #[110, 111, 32, 118, 101, 114, 115, 105, 111, 110, 32, 119, 97, 115, 32, 97, 103, 114, 101, 101, 100, 32, 111, 110] }))), 9, "", #[], none⟩]
def F18.r34 : List Oper := [
  ⟨(some 37), (.binOp .eql 3 (.tmp 3) (.const (.int .i64 122)) 3), 4, "", #[], none⟩,
  ⟨(some 36), (.assign (.tmp 37)), 4, "", #[], none⟩]
def F18.r35 : List Oper := [
  ⟨(some 2), (.assign (.const (.string { data := #[109, 101, 115, 115, 97, 103, 101, 32, 115, 105, 122, 101, 32, 105, 115, 32, 116, 111, 111, 32, 115, 109, 97, 108, 108] }))), 9, "", #[], none⟩]
def F18.r36 : List Oper := [
  ⟨(some 39), (.binOp .eql 3 (.tmp 3) (.const (.int .i64 123)) 3), 4, "", #[], none⟩,
  ⟨(some 38), (.assign (.tmp 39)), 4, "", #[], none⟩]
def F18.r37 : List Oper := [
  ⟨(some 2), (.assign (.const (.string { data := #[99, 111, 110, 110, 101, 99, 116, 105, 111, 110, 32, 105, 115, 32, 99, 108, 111, 115, 101, 100] }))), 9, "", #[], none⟩]
def F18.r38 : List Oper := [
  ⟨(some 41), (.binOp .eql 3 (.tmp 3) (.const (.int .i64 140)) 3), 4, "", #[], none⟩,
  ⟨(some 40), (.assign (.tmp 41)), 4, "", #[], none⟩]
def F18.r39 : List Oper := [
  ⟨(some 2), (.assign (.const (.string { data := #[116, 97, 103, 32, 105, 115, 32, 105, 110, 32, 117, 115, 101] }))), 9, "", #[], none⟩]
def F18.r40 : List Oper := [
  ⟨(some 43), (.binOp .eql 3 (.tmp 3) (.const (.int .i64 141)) 3), 4, "", #[], none⟩,
  ⟨(some 42), (.assign (.tmp 43)), 4, "", #[], none⟩]
def F18.r41 : List Oper := [
  ⟨(some 2), (.assign (.const (.string { data := #[116, 111, 111, 32, 109, 97, 110, 121, 32, 114, 101, 113, 117, 101, 115, 116, 115] }))), 9, "", #[], none⟩]
def F18.r42 : List Oper := [
  ⟨(some 45), (.binOp .eql 3 (.tmp 3) (.const (.int .i64 180)) 3), 4, "", #[], none⟩,
  ⟨(some 44), (.assign (.tmp 45)), 4, "", #[], none⟩]
def F18.r43 : List Oper := [
  ⟨(some 2), (.assign (.const (.string { data := #[115, 101, 114, 118, 101, 114, 32, 100, 111, 101, 115, 32, 110, 111, 116, 32, 97, 110, 115, 119, 101, 114] }))), 9, "", #[], none⟩]
def F18.r44 : List Oper := [
  ⟨(some 47), (.binOp .eql 3 (.tmp 3) (.const (.int .i64 181)) 3), 4, "", #[], none⟩,
  ⟨(some 46), (.assign (.tmp 47)), 4, "", #[], none⟩]
def F18.r45 : List Oper := [
  ⟨(some 2), (.assign (.const (.string { data := #[117, 110, 101, 120, 112, 101, 99, 116, 101, 100, 32, 114, 101, 112, 108, 121] }))), 9, "", #[], none⟩]
def F18.r46 : List Oper := [
  ⟨(some 2), (.assign (.const (.string { data := #[101, 114, 114, 111, 114] }))), 9, "", #[], none⟩]
def F18.t46 : Code := (.seq (.region 46 F18.r46.toArray false) .ret)
theorem F18.t46_eq {P : Program} {Q : Post} {e : FA} {w : World} {θ : Tag (F18.t46, Q, e, w)} : cwE P F18.t46 Q e w θ = cwE P (.seq (.region 46 F18.r46.toArray false) .ret) Q e w := rfl
def F18.code : Code := (.seq (.region 0 F18.r0.toArray false) (.seq (.seq (.region 1 F18.r1.toArray false) (.block 0 (.seq (.region 2 F18.r2.toArray false) (.cond (.tmp 4) (.seq (.region 3 F18.r3.toArray false) .ret) (.seq (.region 4 F18.r4.toArray false) (.cond (.tmp 6) (.seq (.region 5 F18.r5.toArray false) .ret) (.seq (.region 6 F18.r6.toArray false) (.cond (.tmp 8) (.seq (.region 7 F18.r7.toArray false) .ret) (.seq (.region 8 F18.r8.toArray false) (.cond (.tmp 10) (.seq (.region 9 F18.r9.toArray false) .ret) (.seq (.region 10 F18.r10.toArray false) (.cond (.tmp 12) (.seq (.region 11 F18.r11.toArray false) .ret) (.seq (.region 12 F18.r12.toArray false) (.cond (.tmp 14) (.seq (.region 13 F18.r13.toArray false) .ret) (.seq (.region 14 F18.r14.toArray false) (.cond (.tmp 16) (.seq (.region 15 F18.r15.toArray false) .ret) (.seq (.region 16 F18.r16.toArray false) (.cond (.tmp 18) (.seq (.region 17 F18.r17.toArray false) .ret) (.seq (.region 18 F18.r18.toArray false) (.cond (.tmp 20) (.seq (.region 19 F18.r19.toArray false) .ret) (.seq (.region 20 F18.r20.toArray false) (.cond (.tmp 22) (.seq (.region 21 F18.r21.toArray false) .ret) (.seq (.region 22 F18.r22.toArray false) (.cond (.tmp 24) (.seq (.region 23 F18.r23.toArray false) .ret) (.seq (.region 24 F18.r24.toArray false) (.cond (.tmp 26) (.seq (.region 25 F18.r25.toArray false) .ret) (.seq (.region 26 F18.r26.toArray false) (.cond (.tmp 28) (.seq (.region 27 F18.r27.toArray false) .ret) (.seq (.region 28 F18.r28.toArray false) (.cond (.tmp 30) (.seq (.region 29 F18.r29.toArray false) .ret) (.seq (.region 30 F18.r30.toArray false) (.cond (.tmp 32) (.seq (.region 31 F18.r31.toArray false) .ret) (.seq (.region 32 F18.r32.toArray false) (.cond (.tmp 34) (.seq (.region 33 F18.r33.toArray false) .ret) (.seq (.region 34 F18.r34.toArray false) (.cond (.tmp 36) (.seq (.region 35 F18.r35.toArray false) .ret) (.seq (.region 36 F18.r36.toArray false) (.cond (.tmp 38) (.seq (.region 37 F18.r37.toArray false) .ret) (.seq (.region 38 F18.r38.toArray false) (.cond (.tmp 40) (.seq (.region 39 F18.r39.toArray false) .ret) (.seq (.region 40 F18.r40.toArray false) (.cond (.tmp 42) (.seq (.region 41 F18.r41.toArray false) .ret) (.seq (.region 42 F18.r42.toArray false) (.cond (.tmp 44) (.seq (.region 43 F18.r43.toArray false) .ret) (.seq (.region 44 F18.r44.toArray false) (.cond (.tmp 46) (.seq (.region 45 F18.r45.toArray false) .ret) .skip)))))))))))))))))))))))))))))))))))))))))))))) F18.t46))
theorem F18.calls {args : Array Value} {w : World} {R : Ending → World → Prop} (hn : args.size ≤ 48) (h : cwE Try.prog F18.code (fnP Try.prog #[(.tmp 2)] R) (entry args) w) : Calls Try.prog 18 args w R :=
  calls_of_cwE (types := Try.prog.types) follows Try.func18 F18.code rfl (by kernel_rfl) hn h

def F19.r0 : List Oper := [
  ⟨(some 2), (.assign (.const (.string { data := #[] }))), 9, "", #[], none⟩]
def F19.r1 : List Oper := [
  ⟨(some 3), (.move (.tmp 0)), 23, "", #[], none⟩]
def F19.r2 : List Oper := [
  ⟨(some 5), (.binOp .eql 23 (.tmp 3) (.const (.int .i64 114)) 23), 4, "", #[], none⟩,
  ⟨(some 4), (.assign (.tmp 5)), 4, "", #[], none⟩]
def F19.r3 : List Oper := [
  ⟨(some 2), (.assign (.const (.string { data := #[117, 110, 107, 110, 111, 119, 110, 32, 117, 115, 101, 114] }))), 9, "", #[], none⟩]
def F19.r4 : List Oper := [
  ⟨(some 7), (.binOp .eql 23 (.tmp 3) (.const (.int .i64 115)) 23), 4, "", #[], none⟩,
  ⟨(some 6), (.assign (.tmp 7)), 4, "", #[], none⟩]
def F19.r5 : List Oper := [
  ⟨(some 2), (.assign (.const (.string { data := #[117, 110, 107, 110, 111, 119, 110, 32, 116, 114, 101, 101] }))), 9, "", #[], none⟩]
def F19.r6 : List Oper := [
  ⟨(some 9), (.binOp .eql 23 (.tmp 3) (.const (.int .i64 116)) 23), 4, "", #[], none⟩,
  ⟨(some 8), (.assign (.tmp 9)), 4, "", #[], none⟩]
def F19.r7 : List Oper := [
  ⟨(some 2), (.assign (.const (.string { data := #[97, 117, 116, 104, 101, 110, 116, 105, 99, 97, 116, 105, 111, 110, 32, 105, 115, 32, 119, 114, 111, 110, 103, 32, 104, 101, 114, 101] }))), 9, "", #[], none⟩]
def F19.r8 : List Oper := [
  ⟨(some 11), (.binOp .eql 23 (.tmp 3) (.const (.int .i64 117)) 23), 4, "", #[], none⟩,
  ⟨(some 10), (.assign (.tmp 11)), 4, "", #[], none⟩]
def F19.r9 : List Oper := [
  ⟨(some 2), (.assign (.const (.string { data := #[102, 105, 100, 32, 105, 115, 32, 110, 111, 116, 32, 111, 112, 101, 110, 32, 102, 111, 114, 32, 116, 104, 105, 115] }))), 9, "", #[], none⟩]
def F19.r10 : List Oper := [
  ⟨(some 13), (.binOp .eql 23 (.tmp 3) (.const (.int .i64 118)) 23), 4, "", #[], none⟩,
  ⟨(some 12), (.assign (.tmp 13)), 4, "", #[], none⟩]
def F19.r11 : List Oper := [
  ⟨(some 2), (.assign (.const (.string { data := #[98, 97, 100, 32, 111, 102, 102, 115, 101, 116, 32, 105, 110, 32, 97, 32, 100, 105, 114, 101, 99, 116, 111, 114, 121] }))), 9, "", #[], none⟩]
def F19.r12 : List Oper := [
  ⟨(some 15), (.binOp .eql 23 (.tmp 3) (.const (.int .i64 119)) 23), 4, "", #[], none⟩,
  ⟨(some 14), (.assign (.tmp 15)), 4, "", #[], none⟩]
def F19.r13 : List Oper := [
  ⟨(some 2), (.assign (.const (.string { data := #[99, 111, 117, 110, 116, 32, 105, 115, 32, 116, 111, 111, 32, 115, 109, 97, 108, 108] }))), 9, "", #[], none⟩]
def F19.r14 : List Oper := [
  ⟨(some 17), (.binOp .eql 23 (.tmp 3) (.const (.int .i64 120)) 23), 4, "", #[], none⟩,
  ⟨(some 16), (.assign (.tmp 17)), 4, "", #[], none⟩]
def F19.r15 : List Oper := [
  ⟨(some 2), (.assign (.const (.string { data := #[98, 97, 100, 32, 116, 97, 103] }))), 9, "", #[], none⟩]
def F19.r16 : List Oper := [
  ⟨(some 19), (.binOp .eql 23 (.tmp 3) (.const (.int .i64 121)) 23), 4, "", #[], none⟩,
  ⟨(some 18), (.assign (.tmp 19)), 4, "", #[], none⟩]
def F19.r17 : List Oper := [
  ⟨(some 2), (.assign (.const (.string { data := #[110, 111, 32, 118, 101, 114, 115, 105, 111, 110, 32, 119, 97, 115, 32, 97, 103, 114, 101, 101, 100, 32, 111, 110] }))), 9, "", #[], none⟩]
def F19.r18 : List Oper := [
  ⟨(some 21), (.binOp .eql 23 (.tmp 3) (.const (.int .i64 122)) 23), 4, "", #[], none⟩,
  ⟨(some 20), (.assign (.tmp 21)), 4, "", #[], none⟩]
def F19.r19 : List Oper := [
  ⟨(some 2), (.assign (.const (.string { data := #[109, 101, 115, 115, 97, 103, 101, 32, 115, 105, 122, 101, 32, 105, 115, 32, 116, 111, 111, 32, 115, 109, 97, 108, 108] }))), 9, "", #[], none⟩]
def F19.r20 : List Oper := [
  ⟨(some 23), (.binOp .eql 23 (.tmp 3) (.const (.int .i64 123)) 23), 4, "", #[], none⟩,
  ⟨(some 22), (.assign (.tmp 23)), 4, "", #[], none⟩]
def F19.r21 : List Oper := [
  ⟨(some 2), (.assign (.const (.string { data := #[99, 111, 110, 110, 101, 99, 116, 105, 111, 110, 32, 105, 115, 32, 99, 108, 111, 115, 101, 100] }))), 9, "", #[], none⟩]
def F19.r22 : List Oper := [
  ⟨(some 25), (.binOp .eql 23 (.tmp 3) (.const (.int .i64 140)) 23), 4, "", #[], none⟩,
  ⟨(some 24), (.assign (.tmp 25)), 4, "", #[], none⟩]
def F19.r23 : List Oper := [
  ⟨(some 2), (.assign (.const (.string { data := #[116, 97, 103, 32, 105, 115, 32, 105, 110, 32, 117, 115, 101] }))), 9, "", #[], none⟩]
def F19.r24 : List Oper := [
  ⟨(some 27), (.binOp .eql 23 (.tmp 3) (.const (.int .i64 141)) 23), 4, "", #[], none⟩,
  ⟨(some 26), (.assign (.tmp 27)), 4, "", #[], none⟩]
def F19.r25 : List Oper := [
  ⟨(some 2), (.assign (.const (.string { data := #[116, 111, 111, 32, 109, 97, 110, 121, 32, 114, 101, 113, 117, 101, 115, 116, 115] }))), 9, "", #[], none⟩]
def F19.r26 : List Oper := [
  ⟨(some 29), (.binOp .eql 23 (.tmp 3) (.const (.int .i64 180)) 23), 4, "", #[], none⟩,
  ⟨(some 28), (.assign (.tmp 29)), 4, "", #[], none⟩]
def F19.r27 : List Oper := [
  ⟨(some 2), (.assign (.const (.string { data := #[115, 101, 114, 118, 101, 114, 32, 100, 111, 101, 115, 32, 110, 111, 116, 32, 97, 110, 115, 119, 101, 114] }))), 9, "", #[], none⟩]
def F19.r28 : List Oper := [
  ⟨(some 31), (.binOp .eql 23 (.tmp 3) (.const (.int .i64 181)) 23), 4, "", #[], none⟩,
  ⟨(some 30), (.assign (.tmp 31)), 4, "", #[], none⟩]
def F19.r29 : List Oper := [
  ⟨(some 2), (.assign (.const (.string { data := #[117, 110, 101, 120, 112, 101, 99, 116, 101, 100, 32, 114, 101, 112, 108, 121] }))), 9, "", #[], none⟩]
def F19.r30 : List Oper := [
  ⟨(some 2), (.assign (.const (.string { data := #[101, 114, 114, 111, 114] }))), 9, "", #[], none⟩]
def F19.t30 : Code := (.seq (.region 30 F19.r30.toArray false) .ret)
theorem F19.t30_eq {P : Program} {Q : Post} {e : FA} {w : World} {θ : Tag (F19.t30, Q, e, w)} : cwE P F19.t30 Q e w θ = cwE P (.seq (.region 30 F19.r30.toArray false) .ret) Q e w := rfl
def F19.code : Code := (.seq (.region 0 F19.r0.toArray false) (.seq (.seq (.region 1 F19.r1.toArray false) (.block 0 (.seq (.region 2 F19.r2.toArray false) (.cond (.tmp 4) (.seq (.region 3 F19.r3.toArray false) .ret) (.seq (.region 4 F19.r4.toArray false) (.cond (.tmp 6) (.seq (.region 5 F19.r5.toArray false) .ret) (.seq (.region 6 F19.r6.toArray false) (.cond (.tmp 8) (.seq (.region 7 F19.r7.toArray false) .ret) (.seq (.region 8 F19.r8.toArray false) (.cond (.tmp 10) (.seq (.region 9 F19.r9.toArray false) .ret) (.seq (.region 10 F19.r10.toArray false) (.cond (.tmp 12) (.seq (.region 11 F19.r11.toArray false) .ret) (.seq (.region 12 F19.r12.toArray false) (.cond (.tmp 14) (.seq (.region 13 F19.r13.toArray false) .ret) (.seq (.region 14 F19.r14.toArray false) (.cond (.tmp 16) (.seq (.region 15 F19.r15.toArray false) .ret) (.seq (.region 16 F19.r16.toArray false) (.cond (.tmp 18) (.seq (.region 17 F19.r17.toArray false) .ret) (.seq (.region 18 F19.r18.toArray false) (.cond (.tmp 20) (.seq (.region 19 F19.r19.toArray false) .ret) (.seq (.region 20 F19.r20.toArray false) (.cond (.tmp 22) (.seq (.region 21 F19.r21.toArray false) .ret) (.seq (.region 22 F19.r22.toArray false) (.cond (.tmp 24) (.seq (.region 23 F19.r23.toArray false) .ret) (.seq (.region 24 F19.r24.toArray false) (.cond (.tmp 26) (.seq (.region 25 F19.r25.toArray false) .ret) (.seq (.region 26 F19.r26.toArray false) (.cond (.tmp 28) (.seq (.region 27 F19.r27.toArray false) .ret) (.seq (.region 28 F19.r28.toArray false) (.cond (.tmp 30) (.seq (.region 29 F19.r29.toArray false) .ret) .skip)))))))))))))))))))))))))))))) F19.t30))
theorem F19.calls {args : Array Value} {w : World} {R : Ending → World → Prop} (hn : args.size ≤ 32) (h : cwE Try.prog F19.code (fnP Try.prog #[(.tmp 2)] R) (entry args) w) : Calls Try.prog 19 args w R :=
  calls_of_cwE (types := Try.prog.types) follows Try.func19 F19.code rfl (by kernel_rfl) hn h

attribute [go_sem] fact_aggSz_23
attribute [go_sem] fact_aggSz_29
attribute [go_sem] fact_aggSz_3
attribute [go_sem] fact_elemOf_26
attribute [go_sem] fact_elemOf_27
attribute [go_sem] fact_elemOf_30
attribute [go_sem] fact_fnOk_10
attribute [go_sem] fact_fnOk_11
attribute [go_sem] fact_fnOk_12
attribute [go_sem] fact_fnOk_13
attribute [go_sem] fact_fnOk_14
attribute [go_sem] fact_fnOk_15
attribute [go_sem] fact_fnOk_16
attribute [go_sem] fact_fnOk_17
attribute [go_sem] fact_fnOk_18
attribute [go_sem] fact_fnOk_19
attribute [go_sem] fact_fnOk_5
attribute [go_sem] fact_fnOk_6
attribute [go_sem] fact_fnOk_7
attribute [go_sem] fact_fnOk_8
attribute [go_sem] fact_fnOk_9
attribute [go_sem] Try.underlying3
attribute [go_sem] Try.underlying26
attribute [go_sem] Try.underlying27
attribute [go_sem] Try.underlying29
attribute [go_sem] Try.underlying30
attribute [go_sem] F3.r0
attribute [go_sem] F3.r1
attribute [go_sem] F4.r0
attribute [go_sem] F4.r1
attribute [go_sem] F4.r2
attribute [go_sem] F4.r4
attribute [go_sem] F4.r5
attribute [go_sem] F4.r6
attribute [go_sem] F4.r7
attribute [go_sem] F4.r8
attribute [go_sem] F4.r10
attribute [go_sem] F4.r11
attribute [go_sem] F4.r9
attribute [go_sem] F4.r3
attribute [go_sem] F4.r12
attribute [go_sem] F5.r0
attribute [go_sem] F5.r1
attribute [go_sem] F5.r2
attribute [go_sem] F5.r3
attribute [go_sem] F6.r0
attribute [go_sem] F6.r1
attribute [go_sem] F6.r2
attribute [go_sem] F6.r3
attribute [go_sem] F7.r0
attribute [go_sem] F7.r1
attribute [go_sem] F7.r2
attribute [go_sem] F7.r3
attribute [go_sem] F8.r0
attribute [go_sem] F8.r1
attribute [go_sem] F9.r0
attribute [go_sem] F9.r1
attribute [go_sem] F9.r2
attribute [go_sem] F9.r3
attribute [go_sem] F9.r5
attribute [go_sem] F9.r6
attribute [go_sem] F9.r4
attribute [go_sem] F9.r7
attribute [go_sem] F10.r0
attribute [go_sem] F10.r1
attribute [go_sem] F11.r0
attribute [go_sem] F11.r1
attribute [go_sem] F12.r0
attribute [go_sem] F12.r1
attribute [go_sem] F12.r2
attribute [go_sem] F12.r3
attribute [go_sem] F12.r4
attribute [go_sem] F12.r5
attribute [go_sem] F12.r6
attribute [go_sem] F12.r7
attribute [go_sem] F12.r8
attribute [go_sem] F12.r9
attribute [go_sem] F12.r10
attribute [go_sem] F12.r11
attribute [go_sem] F12.r12
attribute [go_sem] F12.r13
attribute [go_sem] F12.r14
attribute [go_sem] F12.r15
attribute [go_sem] F12.r16
attribute [go_sem] F12.r17
attribute [go_sem] F12.r18
attribute [go_sem] F12.r19
attribute [go_sem] F12.r20
attribute [go_sem] F12.r21
attribute [go_sem] F12.r22
attribute [go_sem] F12.r23
attribute [go_sem] F12.r24
attribute [go_sem] F12.r25
attribute [go_sem] F12.r26
attribute [go_sem] F12.r27
attribute [go_sem] F12.r28
attribute [go_sem] F12.r29
attribute [go_sem] F12.r30
attribute [go_sem] F12.r31
attribute [go_sem] F12.r32
attribute [go_sem] F12.r33
attribute [go_sem] F12.r34
attribute [go_sem] F12.r35
attribute [go_sem] F12.r36
attribute [go_sem] F12.r37
attribute [go_sem] F12.r38
attribute [go_sem] F12.r39
attribute [go_sem] F12.r40
attribute [go_sem] F12.r41
attribute [go_sem] F12.r42
attribute [go_sem] F12.r43
attribute [go_sem] F12.r44
attribute [go_sem] F12.r45
attribute [go_sem] F12.r46
attribute [go_sem] F13.r0
attribute [go_sem] F13.r1
attribute [go_sem] F13.r2
attribute [go_sem] F13.r3
attribute [go_sem] F13.r4
attribute [go_sem] F13.r5
attribute [go_sem] F13.r6
attribute [go_sem] F14.r0
attribute [go_sem] F14.r1
attribute [go_sem] F14.r2
attribute [go_sem] F14.r3
attribute [go_sem] F14.r4
attribute [go_sem] F14.r6
attribute [go_sem] F14.r7
attribute [go_sem] F14.r5
attribute [go_sem] F14.r8
attribute [go_sem] F15.r0
attribute [go_sem] F15.r1
attribute [go_sem] F15.r2
attribute [go_sem] F15.r3
attribute [go_sem] F15.r4
attribute [go_sem] F15.r5
attribute [go_sem] F15.r6
attribute [go_sem] F15.r7
attribute [go_sem] F15.r8
attribute [go_sem] F15.r9
attribute [go_sem] F15.r10
attribute [go_sem] F15.r11
attribute [go_sem] F15.r12
attribute [go_sem] F15.r13
attribute [go_sem] F15.r14
attribute [go_sem] F15.r15
attribute [go_sem] F15.r16
attribute [go_sem] F15.r17
attribute [go_sem] F15.r18
attribute [go_sem] F15.r19
attribute [go_sem] F15.r20
attribute [go_sem] F15.r21
attribute [go_sem] F15.r22
attribute [go_sem] F15.r23
attribute [go_sem] F15.r24
attribute [go_sem] F15.r25
attribute [go_sem] F15.r26
attribute [go_sem] F15.r27
attribute [go_sem] F15.r28
attribute [go_sem] F15.r29
attribute [go_sem] F15.r30
attribute [go_sem] F15.r31
attribute [go_sem] F15.r32
attribute [go_sem] F15.r33
attribute [go_sem] F15.r34
attribute [go_sem] F15.r35
attribute [go_sem] F15.r36
attribute [go_sem] F15.r37
attribute [go_sem] F15.r38
attribute [go_sem] F15.r39
attribute [go_sem] F15.r40
attribute [go_sem] F15.r41
attribute [go_sem] F15.r42
attribute [go_sem] F15.r43
attribute [go_sem] F15.r44
attribute [go_sem] F15.r45
attribute [go_sem] F15.r46
attribute [go_sem] F15.r47
attribute [go_sem] F15.r48
attribute [go_sem] F15.r49
attribute [go_sem] F15.r50
attribute [go_sem] F15.r51
attribute [go_sem] F15.r52
attribute [go_sem] F15.r53
attribute [go_sem] F15.r54
attribute [go_sem] F15.r55
attribute [go_sem] F15.r56
attribute [go_sem] F15.r57
attribute [go_sem] F15.r58
attribute [go_sem] F15.r59
attribute [go_sem] F15.r60
attribute [go_sem] F16.r0
attribute [go_sem] F16.r1
attribute [go_sem] F16.r2
attribute [go_sem] F16.r3
attribute [go_sem] F16.r4
attribute [go_sem] F16.r5
attribute [go_sem] F16.r6
attribute [go_sem] F16.r7
attribute [go_sem] F16.r8
attribute [go_sem] F16.r9
attribute [go_sem] F16.r10
attribute [go_sem] F16.r11
attribute [go_sem] F16.r12
attribute [go_sem] F16.r13
attribute [go_sem] F16.r14
attribute [go_sem] F16.r15
attribute [go_sem] F16.r16
attribute [go_sem] F16.r17
attribute [go_sem] F16.r18
attribute [go_sem] F16.r19
attribute [go_sem] F16.r20
attribute [go_sem] F16.r21
attribute [go_sem] F16.r22
attribute [go_sem] F16.r23
attribute [go_sem] F16.r24
attribute [go_sem] F16.r25
attribute [go_sem] F16.r26
attribute [go_sem] F16.r27
attribute [go_sem] F16.r28
attribute [go_sem] F16.r29
attribute [go_sem] F16.r30
attribute [go_sem] F16.r31
attribute [go_sem] F16.r32
attribute [go_sem] F16.r33
attribute [go_sem] F16.r34
attribute [go_sem] F16.r35
attribute [go_sem] F16.r36
attribute [go_sem] F16.r37
attribute [go_sem] F16.r38
attribute [go_sem] F16.r39
attribute [go_sem] F16.r40
attribute [go_sem] F17.r0
attribute [go_sem] F17.r1
attribute [go_sem] F17.r2
attribute [go_sem] F17.r3
attribute [go_sem] F17.r4
attribute [go_sem] F17.r5
attribute [go_sem] F17.r6
attribute [go_sem] F17.r7
attribute [go_sem] F17.r8
attribute [go_sem] F17.r9
attribute [go_sem] F17.r10
attribute [go_sem] F17.r11
attribute [go_sem] F17.r12
attribute [go_sem] F17.r13
attribute [go_sem] F17.r14
attribute [go_sem] F17.r15
attribute [go_sem] F17.r16
attribute [go_sem] F17.r17
attribute [go_sem] F17.r18
attribute [go_sem] F17.r19
attribute [go_sem] F17.r20
attribute [go_sem] F17.r21
attribute [go_sem] F17.r22
attribute [go_sem] F17.r23
attribute [go_sem] F17.r24
attribute [go_sem] F17.r25
attribute [go_sem] F17.r26
attribute [go_sem] F17.r27
attribute [go_sem] F17.r28
attribute [go_sem] F17.r29
attribute [go_sem] F17.r30
attribute [go_sem] F17.r31
attribute [go_sem] F17.r32
attribute [go_sem] F17.r33
attribute [go_sem] F17.r34
attribute [go_sem] F17.r35
attribute [go_sem] F17.r36
attribute [go_sem] F17.r37
attribute [go_sem] F17.r38
attribute [go_sem] F17.r39
attribute [go_sem] F17.r40
attribute [go_sem] F17.r41
attribute [go_sem] F17.r42
attribute [go_sem] F17.r43
attribute [go_sem] F17.r44
attribute [go_sem] F17.r45
attribute [go_sem] F17.r46
attribute [go_sem] F17.r47
attribute [go_sem] F17.r48
attribute [go_sem] F17.r49
attribute [go_sem] F17.r50
attribute [go_sem] F18.r0
attribute [go_sem] F18.r1
attribute [go_sem] F18.r2
attribute [go_sem] F18.r3
attribute [go_sem] F18.r4
attribute [go_sem] F18.r5
attribute [go_sem] F18.r6
attribute [go_sem] F18.r7
attribute [go_sem] F18.r8
attribute [go_sem] F18.r9
attribute [go_sem] F18.r10
attribute [go_sem] F18.r11
attribute [go_sem] F18.r12
attribute [go_sem] F18.r13
attribute [go_sem] F18.r14
attribute [go_sem] F18.r15
attribute [go_sem] F18.r16
attribute [go_sem] F18.r17
attribute [go_sem] F18.r18
attribute [go_sem] F18.r19
attribute [go_sem] F18.r20
attribute [go_sem] F18.r21
attribute [go_sem] F18.r22
attribute [go_sem] F18.r23
attribute [go_sem] F18.r24
attribute [go_sem] F18.r25
attribute [go_sem] F18.r26
attribute [go_sem] F18.r27
attribute [go_sem] F18.r28
attribute [go_sem] F18.r29
attribute [go_sem] F18.r30
attribute [go_sem] F18.r31
attribute [go_sem] F18.r32
attribute [go_sem] F18.r33
attribute [go_sem] F18.r34
attribute [go_sem] F18.r35
attribute [go_sem] F18.r36
attribute [go_sem] F18.r37
attribute [go_sem] F18.r38
attribute [go_sem] F18.r39
attribute [go_sem] F18.r40
attribute [go_sem] F18.r41
attribute [go_sem] F18.r42
attribute [go_sem] F18.r43
attribute [go_sem] F18.r44
attribute [go_sem] F18.r45
attribute [go_sem] F18.r46
attribute [go_sem] F19.r0
attribute [go_sem] F19.r1
attribute [go_sem] F19.r2
attribute [go_sem] F19.r3
attribute [go_sem] F19.r4
attribute [go_sem] F19.r5
attribute [go_sem] F19.r6
attribute [go_sem] F19.r7
attribute [go_sem] F19.r8
attribute [go_sem] F19.r9
attribute [go_sem] F19.r10
attribute [go_sem] F19.r11
attribute [go_sem] F19.r12
attribute [go_sem] F19.r13
attribute [go_sem] F19.r14
attribute [go_sem] F19.r15
attribute [go_sem] F19.r16
attribute [go_sem] F19.r17
attribute [go_sem] F19.r18
attribute [go_sem] F19.r19
attribute [go_sem] F19.r20
attribute [go_sem] F19.r21
attribute [go_sem] F19.r22
attribute [go_sem] F19.r23
attribute [go_sem] F19.r24
attribute [go_sem] F19.r25
attribute [go_sem] F19.r26
attribute [go_sem] F19.r27
attribute [go_sem] F19.r28
attribute [go_sem] F19.r29
attribute [go_sem] F19.r30

end Go.Proofs.Ytjmebhcdkeiaeaa

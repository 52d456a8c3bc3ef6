/- The compiled code of the functions, by program (genir.py): each with the theorem that it is what the engine makes of the loaded program's. · The library's calls, in the worlds' own words: Contains, DecodeRuneInString; whether a text is good; a file's name. · What the start held is below. · The rows of this seat list unicode/utf8's two tables: what the walks ask of the world's start follows from the lists and the world's shape; the world of the witness; the wrap that hands both. · The numbers under which this dump holds the library's locks' functions and types, and that it holds them (printed by locklink.py). · Panics, deferred calls, recover. · The library's locks, put off: as deferred calls inside this engine's fence. · A tree of nodes, changed by small operations: the plain law. · A tree of nodes: what is always so stays so. · A tree of nodes: every operation leaves a tree. · Locks over parts of memory: taken, given back, given back at a function's end. · Bits of whole numbers without sign. · Association lists: what a map's entries are, and a star over them. · Lists under a key: agt, aset, adel. Plain. -/
import Derived.Test.YtijnmokpihhhcaaDoorZ1
import Derived.Test.YtijnmokpihhhcaaDoorZ2
import Derived.Test.YtijnmokpihhhcaaDoorZ3
import Derived.Test.YtijnmokpihhhcaaDoorZ4
import Derived.Test.YtijnmokpihhhcaaDoorZ5
import Derived.Test.YtijnmokpihhhcaaDoorZ6
import Derived.Test.YtijnmokpihhhcaaDoorZ7
import Derived.Test.YtijnmokpihhhcaaDoorZ8
import Derived.Test.YtijnmokpihhhcaaDoorZ9
import Derived.Lib.CountLaws
import Derived.Lib.SplitLaws
import Derived.Below
import Derived.WalkKit
import Derived.Test.YtijnmokpihhhcaaDoorRows
import Derived.Lib.LaidU8
import Derived.PinnedBridge
import Derived.SizedLaws
import Derived.Lay
import Derived.Shelf.Vars
import Derived.LaidMore
import Derived.Stop.Joined
import Derived.ProofKit
import Derived.Test.YtijnmokpihhhcaaDoorProg
import Derived.Conc.RwLoneW
import Derived.KernelRfl
import Derived.RecoverIn
import Derived.RangeFuncLeaves
import Derived.Laws.Build
import Derived.TacticsInMore
namespace Go.Proofs.YtijnmokpihhhcaaDoor
open Go
set_option maxRecDepth 100000
variable {P : Program} {Q : Post} {e : FA} {w : World} {args : Array Value} {R : Ending → World → Prop}

def F43.r0 : List Oper := [
  oc 5 (.box 41 (.tmp 2)) 0,
  op 6 (.assign (.const (.int .i64 0))) 26]
def F43.r1 : List Oper := [
  op 8 (.move (.tmp 1)) 24,
  op 9 (.binOp .andNot 24 (.tmp 8) (.const (.int .u8 127)) 24) 24,
  op 10 (.binOp .neq 24 (.tmp 9) (.const (.int .u8 0)) 24) 4,
  op 7 (.assign (.tmp 10)) 4]
def F43.r2 : List Oper := [
  op 11 (.move (.tmp 1)) 24,
  op 12 (.binOp .and 24 (.tmp 11) (.const (.int .u8 1)) 24) 24,
  op 13 (.binOp .neq 24 (.tmp 12) (.const (.int .u8 0)) 24) 4,
  op 14 (.move (.tmp 13)) 4,
  ⟨(some 15), (.fieldAddr 41 (.tmp 5) 3), 0, "", #[], (some (14, true))⟩,
  ⟨(some 16), (.load 29 (.tmp 15)), 29, "", #[⟨0, .data⟩], (some (14, true))⟩,
  ⟨(some 17), (.call ⟨(.value (.func 70)), #[(.tmp 16)], #[29]⟩), 4, "", #[⟨0, .chain⟩], (some (14, true))⟩,
  ⟨(some 18), (.unOp .not 4 (.tmp 17)), 4, "", #[], (some (14, true))⟩,
  op 19 (.pick (.tmp 14) (.tmp 18) (.const (.bool false))) 4,
  op 7 (.assign (.tmp 19)) 4]
def F43.r3 : List Oper := [
  op 20 (.move (.tmp 1)) 24,
  op 21 (.binOp .and 24 (.tmp 20) (.const (.int .u8 2)) 24) 24,
  op 22 (.binOp .neq 24 (.tmp 21) (.const (.int .u8 0)) 24) 4,
  op 23 (.move (.tmp 22)) 4,
  ⟨(some 24), (.fieldAddr 41 (.tmp 5) 4), 0, "", #[], (some (23, true))⟩,
  ⟨(some 25), (.load 9 (.tmp 24)), 9, "", #[⟨0, .data⟩], (some (23, true))⟩,
  ⟨(some 26), (.call ⟨(.value (.func 34)), #[(.tmp 25)], #[9]⟩), 4, "", #[⟨0, .chain⟩], (some (23, true))⟩,
  ⟨(some 27), (.unOp .not 4 (.tmp 26)), 4, "", #[], (some (23, true))⟩,
  op 28 (.pick (.tmp 23) (.tmp 27) (.const (.bool false))) 4,
  op 7 (.assign (.tmp 28)) 4]
def F43.r4 : List Oper := [
  op 29 (.move (.tmp 1)) 24,
  op 30 (.binOp .and 24 (.tmp 29) (.const (.int .u8 4)) 24) 24,
  op 31 (.binOp .neq 24 (.tmp 30) (.const (.int .u8 0)) 24) 4,
  op 32 (.move (.tmp 31)) 4,
  ⟨(some 33), (.fieldAddr 41 (.tmp 5) 5), 0, "", #[], (some (32, true))⟩,
  ⟨(some 34), (.load 9 (.tmp 33)), 9, "", #[⟨0, .data⟩], (some (32, true))⟩,
  ⟨(some 35), (.call ⟨(.value (.func 34)), #[(.tmp 34)], #[9]⟩), 4, "", #[⟨0, .chain⟩], (some (32, true))⟩,
  ⟨(some 36), (.unOp .not 4 (.tmp 35)), 4, "", #[], (some (32, true))⟩,
  op 37 (.pick (.tmp 32) (.tmp 36) (.const (.bool false))) 4,
  op 7 (.assign (.tmp 37)) 4]
def F43.r5 : List Oper := [
  op 38 (.move (.tmp 1)) 24,
  op 39 (.binOp .and 24 (.tmp 38) (.const (.int .u8 8)) 24) 24,
  op 40 (.binOp .neq 24 (.tmp 39) (.const (.int .u8 0)) 24) 4,
  op 41 (.move (.tmp 40)) 4,
  ⟨(some 42), (.fieldAddr 41 (.tmp 5) 6), 0, "", #[], (some (41, true))⟩,
  ⟨(some 43), (.load 9 (.tmp 42)), 9, "", #[⟨0, .data⟩], (some (41, true))⟩,
  ⟨(some 44), (.call ⟨(.value (.func 34)), #[(.tmp 43)], #[9]⟩), 4, "", #[⟨0, .chain⟩], (some (41, true))⟩,
  ⟨(some 45), (.unOp .not 4 (.tmp 44)), 4, "", #[], (some (41, true))⟩,
  op 46 (.pick (.tmp 41) (.tmp 45) (.const (.bool false))) 4,
  op 7 (.assign (.tmp 46)) 4]
def F43.r6 : List Oper := [
  op 6 (.assign (.const (.int .i64 1))) 26]
def F43.r7 : List Oper := [
  ⟨(some 48), (.move (.tmp 1)), 24, "", #[], none⟩,
  ⟨(some 49), (.binOp .and 24 (.tmp 48) (.const (.int .u8 1)) 24), 24, "", #[], none⟩,
  ⟨(some 50), (.binOp .neq 24 (.tmp 49) (.const (.int .u8 0)) 24), 4, "", #[], none⟩,
  ⟨(some 51), (.move (.tmp 50)), 4, "", #[], none⟩,
  ⟨(some 52), (.fieldAddr 41 (.tmp 5) 3), 0, "", #[], (some (51, true))⟩,
  ⟨(some 54), (.move (.tmp 0)), 83, "", #[], (some (51, true))⟩,
  ⟨(some 55), (.nilCheck (.tmp 54)), 0, "", #[], (some (51, true))⟩,
  ⟨(some 56), (.fieldAddr 92 (.tmp 55) 1), 0, "", #[], (some (51, true))⟩,
  ⟨(some 57), (.fieldAddr 41 (.tmp 56) 3), 0, "", #[], (some (51, true))⟩,
  ⟨(some 53), (.load 29 (.tmp 52)), 29, "", #[⟨0, .data⟩], (some (51, true))⟩,
  ⟨(some 58), (.load 29 (.tmp 57)), 29, "", #[⟨0, .data⟩], (some (51, true))⟩,
  ⟨(some 59), (.binOp .xor 29 (.tmp 53) (.tmp 58) 29), 29, "", #[], (some (51, true))⟩,
  ⟨(some 60), (.binOp .and 29 (.tmp 59) (.const (.int .u32 2147483648)) 29), 29, "", #[], (some (51, true))⟩,
  ⟨(some 61), (.binOp .neq 29 (.tmp 60) (.const (.int .u32 0)) 29), 4, "", #[], (some (51, true))⟩,
  ⟨(some 62), (.pick (.tmp 51) (.tmp 61) (.const (.bool false))), 4, "", #[], none⟩,
  ⟨(some 47), (.assign (.tmp 62)), 4, "", #[], none⟩]
def F43.r8 : List Oper := [
  op 6 (.assign (.const (.int .i64 81))) 26]
def F43.r9 : List Oper := [
  op 63 (.move (.tmp 1)) 24,
  op 64 (.binOp .and 24 (.tmp 63) (.const (.int .u8 1)) 24) 24,
  op 65 (.binOp .neq 24 (.tmp 64) (.const (.int .u8 0)) 24) 4]
def F43.r10 : List Oper := [
  op 66 (.move (.tmp 0)) 83,
  op 67 (.fieldAddr 41 (.tmp 5) 3) 0,
  od 68 (.load 29 (.tmp 67)) 29,
  op 69 (.nilCheck (.tmp 66)) 0,
  op 70 (.fieldAddr 92 (.tmp 69) 1) 0,
  op 71 (.fieldAddr 41 (.tmp 70) 3) 0,
  ⟨none, (.store 29 (.tmp 71) (.tmp 68)), 0, "", #[⟨0, .chain⟩], none⟩]
def F43.r11 : List Oper := [
  op 72 (.move (.tmp 1)) 24,
  op 73 (.binOp .and 24 (.tmp 72) (.const (.int .u8 2)) 24) 24,
  op 74 (.binOp .neq 24 (.tmp 73) (.const (.int .u8 0)) 24) 4]
def F43.r12 : List Oper := [
  op 75 (.move (.tmp 0)) 83,
  op 76 (.fieldAddr 41 (.tmp 5) 4) 0,
  od 77 (.load 9 (.tmp 76)) 9,
  op 78 (.nilCheck (.tmp 75)) 0,
  op 79 (.fieldAddr 92 (.tmp 78) 1) 0,
  op 80 (.fieldAddr 41 (.tmp 79) 4) 0,
  ⟨none, (.store 9 (.tmp 80) (.tmp 77)), 0, "", #[⟨0, .chain⟩], none⟩]
def F43.r13 : List Oper := [
  op 81 (.move (.tmp 1)) 24,
  op 82 (.binOp .and 24 (.tmp 81) (.const (.int .u8 4)) 24) 24,
  op 83 (.binOp .neq 24 (.tmp 82) (.const (.int .u8 0)) 24) 4]
def F43.r14 : List Oper := [
  op 84 (.move (.tmp 0)) 83,
  op 85 (.fieldAddr 41 (.tmp 5) 5) 0,
  od 86 (.load 9 (.tmp 85)) 9,
  op 87 (.nilCheck (.tmp 84)) 0,
  op 88 (.fieldAddr 92 (.tmp 87) 1) 0,
  op 89 (.fieldAddr 41 (.tmp 88) 5) 0,
  ⟨none, (.store 9 (.tmp 89) (.tmp 86)), 0, "", #[⟨0, .chain⟩], none⟩]
def F43.r15 : List Oper := [
  op 90 (.move (.tmp 1)) 24,
  op 91 (.binOp .and 24 (.tmp 90) (.const (.int .u8 8)) 24) 24,
  op 92 (.binOp .neq 24 (.tmp 91) (.const (.int .u8 0)) 24) 4]
def F43.r16 : List Oper := [
  op 93 (.move (.tmp 0)) 83,
  op 94 (.fieldAddr 41 (.tmp 5) 6) 0,
  od 95 (.load 9 (.tmp 94)) 9,
  op 96 (.nilCheck (.tmp 93)) 0,
  op 97 (.fieldAddr 92 (.tmp 96) 1) 0,
  op 98 (.fieldAddr 41 (.tmp 97) 6) 0,
  ⟨none, (.store 9 (.tmp 98) (.tmp 95)), 0, "", #[⟨0, .chain⟩], none⟩]
def F43.r17 : List Oper := [
  op 99 (.move (.tmp 1)) 24,
  op 100 (.binOp .and 24 (.tmp 99) (.const (.int .u8 16)) 24) 24,
  op 101 (.binOp .neq 24 (.tmp 100) (.const (.int .u8 0)) 24) 4]
def F43.r18 : List Oper := [
  op 102 (.move (.tmp 0)) 83,
  op 103 (.fieldAddr 41 (.tmp 5) 7) 0,
  od 104 (.load 29 (.tmp 103)) 29,
  op 105 (.nilCheck (.tmp 102)) 0,
  op 106 (.fieldAddr 92 (.tmp 105) 1) 0,
  op 107 (.fieldAddr 41 (.tmp 106) 7) 0,
  ⟨none, (.store 29 (.tmp 107) (.tmp 104)), 0, "", #[⟨0, .chain⟩], none⟩]
def F43.r19 : List Oper := [
  op 108 (.move (.tmp 1)) 24,
  op 109 (.binOp .and 24 (.tmp 108) (.const (.int .u8 32)) 24) 24,
  op 110 (.binOp .neq 24 (.tmp 109) (.const (.int .u8 0)) 24) 4]
def F43.r20 : List Oper := [
  op 111 (.move (.tmp 0)) 83,
  op 112 (.fieldAddr 41 (.tmp 5) 8) 0,
  od 113 (.load 29 (.tmp 112)) 29,
  op 114 (.nilCheck (.tmp 111)) 0,
  op 115 (.fieldAddr 92 (.tmp 114) 1) 0,
  op 116 (.fieldAddr 41 (.tmp 115) 8) 0,
  ⟨none, (.store 29 (.tmp 116) (.tmp 113)), 0, "", #[⟨0, .chain⟩], none⟩]
def F43.r21 : List Oper := [
  op 117 (.move (.tmp 1)) 24,
  op 118 (.binOp .and 24 (.tmp 117) (.const (.int .u8 64)) 24) 24,
  op 119 (.binOp .neq 24 (.tmp 118) (.const (.int .u8 0)) 24) 4]
def F43.r22 : List Oper := [
  op 120 (.move (.tmp 0)) 83,
  op 121 (.nilCheck (.tmp 120)) 0,
  op 122 (.fieldAddr 92 (.tmp 121) 1) 0,
  op 123 (.fieldAddr 41 (.tmp 122) 9) 0,
  od 124 (.load 29 (.tmp 123)) 29,
  op 125 (.binOp .add 29 (.tmp 124) (.const (.int .u32 1)) 29) 29,
  op 126 (.nilCheck (.tmp 120)) 0,
  op 127 (.fieldAddr 92 (.tmp 126) 1) 0,
  op 128 (.fieldAddr 41 (.tmp 127) 9) 0,
  ⟨none, (.store 29 (.tmp 128) (.tmp 125)), 0, "", #[⟨0, .chain⟩], none⟩]
def F43.r23 : List Oper := [
  op 6 (.assign (.const (.int .i64 0))) 26]
def F43.t6 : Cd := (.cond (.tmp 7) (.seq (.region 6 F43.r6.toArray false) .ret) (.seq (.region 7 F43.r7.toArray true) (.cond (.tmp 47) (.seq (.region 8 F43.r8.toArray false) .ret) .skip)))
theorem F43.t6_eq {θ : Tag (F43.t6, Q, e, w)} : cwE P F43.t6 Q e w θ = cwE P (.cond (.tmp 7) (.seq (.region 6 F43.r6.toArray false) .ret) (.seq (.region 7 F43.r7.toArray true) (.cond (.tmp 47) (.seq (.region 8 F43.r8.toArray false) .ret) .skip))) Q e w := rfl
def F43.t23 : Cd := (.seq (.region 23 F43.r23.toArray false) .ret)
theorem F43.t23_eq {θ : Tag (F43.t23, Q, e, w)} : cwE P F43.t23 Q e w θ = cwE P (.seq (.region 23 F43.r23.toArray false) .ret) Q e w := rfl
def F43.t21 : Cd := (.seq (.seq (.region 21 F43.r21.toArray false) (.cond (.tmp 119) (.region 22 F43.r22.toArray false) .skip)) F43.t23)
theorem F43.t21_eq {θ : Tag (F43.t21, Q, e, w)} : cwE P F43.t21 Q e w θ = cwE P (.seq (.seq (.region 21 F43.r21.toArray false) (.cond (.tmp 119) (.region 22 F43.r22.toArray false) .skip)) F43.t23) Q e w := rfl
def F43.t19 : Cd := (.seq (.seq (.region 19 F43.r19.toArray false) (.cond (.tmp 110) (.region 20 F43.r20.toArray false) .skip)) F43.t21)
theorem F43.t19_eq {θ : Tag (F43.t19, Q, e, w)} : cwE P F43.t19 Q e w θ = cwE P (.seq (.seq (.region 19 F43.r19.toArray false) (.cond (.tmp 110) (.region 20 F43.r20.toArray false) .skip)) F43.t21) Q e w := rfl
def F43.t17 : Cd := (.seq (.seq (.region 17 F43.r17.toArray false) (.cond (.tmp 101) (.region 18 F43.r18.toArray false) .skip)) F43.t19)
theorem F43.t17_eq {θ : Tag (F43.t17, Q, e, w)} : cwE P F43.t17 Q e w θ = cwE P (.seq (.seq (.region 17 F43.r17.toArray false) (.cond (.tmp 101) (.region 18 F43.r18.toArray false) .skip)) F43.t19) Q e w := rfl
def F43.t15 : Cd := (.seq (.seq (.region 15 F43.r15.toArray false) (.cond (.tmp 92) (.region 16 F43.r16.toArray false) .skip)) F43.t17)
theorem F43.t15_eq {θ : Tag (F43.t15, Q, e, w)} : cwE P F43.t15 Q e w θ = cwE P (.seq (.seq (.region 15 F43.r15.toArray false) (.cond (.tmp 92) (.region 16 F43.r16.toArray false) .skip)) F43.t17) Q e w := rfl
def F43.t13 : Cd := (.seq (.seq (.region 13 F43.r13.toArray false) (.cond (.tmp 83) (.region 14 F43.r14.toArray false) .skip)) F43.t15)
theorem F43.t13_eq {θ : Tag (F43.t13, Q, e, w)} : cwE P F43.t13 Q e w θ = cwE P (.seq (.seq (.region 13 F43.r13.toArray false) (.cond (.tmp 83) (.region 14 F43.r14.toArray false) .skip)) F43.t15) Q e w := rfl
def F43.t11 : Cd := (.seq (.seq (.region 11 F43.r11.toArray false) (.cond (.tmp 74) (.region 12 F43.r12.toArray false) .skip)) F43.t13)
theorem F43.t11_eq {θ : Tag (F43.t11, Q, e, w)} : cwE P F43.t11 Q e w θ = cwE P (.seq (.seq (.region 11 F43.r11.toArray false) (.cond (.tmp 74) (.region 12 F43.r12.toArray false) .skip)) F43.t13) Q e w := rfl
def F43.t9 : Cd := (.seq (.seq (.region 9 F43.r9.toArray false) (.cond (.tmp 65) (.region 10 F43.r10.toArray false) .skip)) F43.t11)
theorem F43.t9_eq {θ : Tag (F43.t9, Q, e, w)} : cwE P F43.t9 Q e w θ = cwE P (.seq (.seq (.region 9 F43.r9.toArray false) (.cond (.tmp 65) (.region 10 F43.r10.toArray false) .skip)) F43.t11) Q e w := rfl
def F43.code : Cd := (.seq (.region 0 F43.r0.toArray false) (.seq (.block 0 (.seq (.seq (.region 1 F43.r1.toArray false) (.cond (.tmp 7) .skip (.seq (.region 2 F43.r2.toArray false) (.cond (.tmp 7) .skip (.seq (.region 3 F43.r3.toArray false) (.cond (.tmp 7) .skip (.seq (.region 4 F43.r4.toArray false) (.cond (.tmp 7) .skip (.region 5 F43.r5.toArray false))))))))) F43.t6)) F43.t9))
theorem F43.calls (hn : args.size ≤ 129) (h : cwE Tryd.prog F43.code (fnP Tryd.prog #[(.tmp 6)] R) (entry args) w) : Calls Tryd.prog 43 args w R :=
  calls_of_cwE (types := Tryd.prog.types) follows Tryd.func43 F43.code rfl (by kernel_rfl) hn h

def F44.r0 : List Oper := [
  op 4 (.assign (.const (.int .i64 0))) 26]
def F44.r1 : List Oper := [
  op 8 (.move (.tmp 0)) 83,
  op 9 (.nilCheck (.tmp 8)) 0,
  op 10 (.fieldAddr 92 (.tmp 9) 1) 0,
  op 11 (.fieldAddr 41 (.tmp 10) 3) 0,
  od 12 (.load 29 (.tmp 11)) 29,
  op 13 (.binOp .and 29 (.tmp 12) (.const (.int .u32 2147483648)) 29) 29,
  op 14 (.binOp .neq 29 (.tmp 13) (.const (.int .u32 0)) 29) 4]
def F44.r2 : List Oper := [
  op 4 (.assign (.const (.int .i64 81))) 26]
def F44.r3 : List Oper := [
  op 15 (.move (.tmp 1)) 30,
  op 16 (.binOp .gtr 30 (.tmp 15) (.const (.int .u64 65536)) 30) 4]
def F44.r4 : List Oper := [
  op 4 (.assign (.const (.int .i64 86))) 26]
def F44.r5 : List Oper := [
  op 17 (.move (.tmp 1)) 30,
  op 18 (.binOp .quo 30 (.tmp 17) (.const (.int .u64 256)) 30) 30,
  op 19 (.convert 30 3 (.tmp 18)) 3,
  op 20 (.move (.tmp 1)) 30,
  op 21 (.binOp .rem 30 (.tmp 20) (.const (.int .u64 256)) 30) 30,
  op 22 (.convert 30 3 (.tmp 21)) 3,
  op 5 (.assign (.tmp 19)) 3,
  op 6 (.assign (.tmp 22)) 3]
def F44.r6 : List Oper := [
  op 23 (.move (.tmp 6)) 3,
  op 24 (.binOp .gtr 3 (.tmp 23) (.const (.int .i64 0)) 3) 4,
  op 25 (.move (.tmp 24)) 4,
  ⟨(some 26), (.move (.tmp 5)), 3, "", #[], (some (25, true))⟩,
  ⟨(some 27), (.move (.tmp 0)), 83, "", #[], (some (25, true))⟩,
  ⟨(some 28), (.nilCheck (.tmp 27)), 0, "", #[], (some (25, true))⟩,
  ⟨(some 29), (.fieldAddr 92 (.tmp 28) 3), 0, "", #[], (some (25, true))⟩,
  ⟨(some 30), (.load 90 (.tmp 29)), 90, "", #[⟨0, .data⟩], (some (25, true))⟩,
  ⟨(some 31), (.call ⟨(.builtin .len), #[(.tmp 30)], #[90]⟩), 3, "", #[], (some (25, true))⟩,
  ⟨(some 32), (.binOp .lss 3 (.tmp 26) (.tmp 31) 3), 4, "", #[], (some (25, true))⟩,
  op 33 (.pick (.tmp 25) (.tmp 32) (.const (.bool false))) 4]
def F44.r7 : List Oper := [
  op 34 (.move (.tmp 0)) 83,
  op 35 (.nilCheck (.tmp 34)) 0,
  op 36 (.fieldAddr 92 (.tmp 35) 3) 0,
  od 37 (.load 90 (.tmp 36)) 90,
  op 38 (.move (.tmp 5)) 3,
  op 39 (.indexAddr 90 (.tmp 37) (.tmp 38)) 0,
  od 40 (.load 122 (.tmp 39)) 122,
  op 7 (.assign (.tmp 40)) 122]
def F44.r8 : List Oper := [
  op 41 (.move (.tmp 7)) 122,
  op 42 (.binOp .neq 122 (.tmp 41) (.const (.pointer none)) 122) 4]
def F44.r9 : List Oper := [
  op 43 (.move (.tmp 7)) 122,
  op 44 (.nilCheck (.tmp 43)) 122,
  op 45 (.move (.tmp 6)) 3,
  op 46 (.slice 123 (.tmp 44) (some (.tmp 45)) none none) 51,
  ⟨none, (.call ⟨(.builtin .clear), #[(.tmp 46)], #[51]⟩), 0, "", #[⟨0, .chain⟩], none⟩]
def F44.r10 : List Oper := [
  op 47 (.move (.tmp 5)) 3,
  op 48 (.binOp .add 3 (.tmp 47) (.const (.int .i64 1)) 3) 3,
  op 5 (.assign (.tmp 48)) 3]
def F44.r11 : List Oper := [
  op 49 (.move (.tmp 5)) 3,
  op 50 (.move (.tmp 0)) 83,
  op 51 (.nilCheck (.tmp 50)) 0,
  op 52 (.fieldAddr 92 (.tmp 51) 3) 0,
  od 53 (.load 90 (.tmp 52)) 90,
  op 54 (.call ⟨(.builtin .len), #[(.tmp 53)], #[90]⟩) 3,
  op 55 (.binOp .lss 3 (.tmp 49) (.tmp 54) 3) 4]
def F44.r12 : List Oper := [
  op 56 (.move (.tmp 0)) 83,
  op 57 (.nilCheck (.tmp 56)) 0,
  op 58 (.fieldAddr 92 (.tmp 57) 3) 0,
  od 59 (.load 90 (.tmp 58)) 90,
  op 60 (.move (.tmp 5)) 3,
  op 61 (.slice 90 (.tmp 59) (some (.tmp 60)) none none) 90,
  ⟨none, (.call ⟨(.builtin .clear), #[(.tmp 61)], #[90]⟩), 0, "", #[⟨0, .chain⟩], none⟩]
def F44.r13 : List Oper := [
  op 62 (.move (.tmp 0)) 83,
  op 63 (.move (.tmp 0)) 83,
  op 64 (.nilCheck (.tmp 63)) 0,
  op 65 (.fieldAddr 92 (.tmp 64) 3) 0,
  od 66 (.load 90 (.tmp 65)) 90,
  op 67 (.move (.tmp 5)) 3,
  op 68 (.slice 90 (.tmp 66) none (some (.tmp 67)) none) 90,
  op 69 (.nilCheck (.tmp 62)) 0,
  op 70 (.fieldAddr 92 (.tmp 69) 3) 0,
  ⟨none, (.store 90 (.tmp 70) (.tmp 68)), 0, "", #[⟨0, .chain⟩], none⟩]
def F44.r14 : List Oper := [
  op 71 (.move (.tmp 0)) 83,
  op 72 (.move (.tmp 1)) 30,
  op 73 (.nilCheck (.tmp 71)) 0,
  op 74 (.fieldAddr 92 (.tmp 73) 1) 0,
  op 75 (.fieldAddr 41 (.tmp 74) 10) 0,
  ⟨none, (.store 30 (.tmp 75) (.tmp 72)), 0, "", #[⟨0, .chain⟩], none⟩]
def F44.r15 : List Oper := [
  op 4 (.assign (.const (.int .i64 0))) 26]
def F44.t10 : Cd := (.region 10 F44.r10.toArray false)
theorem F44.t10_eq {θ : Tag (F44.t10, Q, e, w)} : cwE P F44.t10 Q e w θ = cwE P (.region 10 F44.r10.toArray false) Q e w := rfl
def F44.t14 : Cd := (.seq (.region 14 F44.r14.toArray false) (.seq (.region 15 F44.r15.toArray false) .ret))
theorem F44.t14_eq {θ : Tag (F44.t14, Q, e, w)} : cwE P F44.t14 Q e w θ = cwE P (.seq (.region 14 F44.r14.toArray false) (.seq (.region 15 F44.r15.toArray false) .ret)) Q e w := rfl
def F44.t11 : Cd := (.seq (.seq (.region 11 F44.r11.toArray false) (.cond (.tmp 55) (.seq (.region 12 F44.r12.toArray false) (.region 13 F44.r13.toArray false)) .skip)) F44.t14)
theorem F44.t11_eq {θ : Tag (F44.t11, Q, e, w)} : cwE P F44.t11 Q e w θ = cwE P (.seq (.seq (.region 11 F44.r11.toArray false) (.cond (.tmp 55) (.seq (.region 12 F44.r12.toArray false) (.region 13 F44.r13.toArray false)) .skip)) F44.t14) Q e w := rfl
def F44.t5 : Cd := (.seq (.region 5 F44.r5.toArray false) (.seq (.seq (.region 6 F44.r6.toArray false) (.cond (.tmp 33) (.seq (.seq (.region 7 F44.r7.toArray false) (.seq (.region 8 F44.r8.toArray false) (.cond (.tmp 42) (.region 9 F44.r9.toArray false) .skip))) F44.t10) .skip)) F44.t11))
theorem F44.t5_eq {θ : Tag (F44.t5, Q, e, w)} : cwE P F44.t5 Q e w θ = cwE P (.seq (.region 5 F44.r5.toArray false) (.seq (.seq (.region 6 F44.r6.toArray false) (.cond (.tmp 33) (.seq (.seq (.region 7 F44.r7.toArray false) (.seq (.region 8 F44.r8.toArray false) (.cond (.tmp 42) (.region 9 F44.r9.toArray false) .skip))) F44.t10) .skip)) F44.t11)) Q e w := rfl
def F44.t3 : Cd := (.seq (.seq (.region 3 F44.r3.toArray false) (.cond (.tmp 16) (.seq (.region 4 F44.r4.toArray false) .ret) .skip)) F44.t5)
theorem F44.t3_eq {θ : Tag (F44.t3, Q, e, w)} : cwE P F44.t3 Q e w θ = cwE P (.seq (.seq (.region 3 F44.r3.toArray false) (.cond (.tmp 16) (.seq (.region 4 F44.r4.toArray false) .ret) .skip)) F44.t5) Q e w := rfl
def F44.code : Cd := (.seq (.region 0 F44.r0.toArray false) (.seq (.seq (.region 1 F44.r1.toArray false) (.cond (.tmp 14) (.seq (.region 2 F44.r2.toArray false) .ret) .skip)) F44.t3))
theorem F44.calls (hn : args.size ≤ 76) (h : cwE Tryd.prog F44.code (fnP Tryd.prog #[(.tmp 4)] R) (entry args) w) : Calls Tryd.prog 44 args w R :=
  calls_of_cwE (types := Tryd.prog.types) follows Tryd.func44 F44.code rfl (by kernel_rfl) hn h

def F45.r0 : List Oper := [
  op 6 (.assign (.const (.int .i64 0))) 26]
def F45.r1 : List Oper := [
  op 9 (.move (.tmp 0)) 83,
  op 10 (.nilCheck (.tmp 9)) 0,
  op 11 (.fieldAddr 92 (.tmp 10) 1) 0,
  op 12 (.fieldAddr 41 (.tmp 11) 3) 0,
  od 13 (.load 29 (.tmp 12)) 29,
  op 14 (.binOp .and 29 (.tmp 13) (.const (.int .u32 2147483648)) 29) 29,
  op 15 (.binOp .neq 29 (.tmp 14) (.const (.int .u32 0)) 29) 4,
  op 8 (.assign (.tmp 15)) 4]
def F45.r2 : List Oper := [
  op 6 (.assign (.const (.int .i64 81))) 26]
def F45.r3 : List Oper := [
  op 17 (.move (.tmp 2)) 51,
  op 18 (.call ⟨(.builtin .len), #[(.tmp 17)], #[51]⟩) 3,
  op 19 (.binOp .eql 3 (.tmp 18) (.const (.int .i64 0)) 3) 4,
  op 20 (.move (.tmp 19)) 4,
  ⟨(some 21), (.move (.tmp 2)), 51, "", #[], (some (20, false))⟩,
  ⟨(some 22), (.call ⟨(.builtin .len), #[(.tmp 21)], #[51]⟩), 3, "", #[], (some (20, false))⟩,
  ⟨(some 23), (.move (.tmp 1)), 30, "", #[], (some (20, false))⟩,
  ⟨(some 24), (.binOp .rem 30 (.tmp 23) (.const (.int .u64 256)) 30), 30, "", #[], (some (20, false))⟩,
  ⟨(some 25), (.convert 30 3 (.tmp 24)), 3, "", #[], (some (20, false))⟩,
  ⟨(some 26), (.binOp .sub 3 (.const (.int .i64 256)) (.tmp 25) 3), 3, "", #[], (some (20, false))⟩,
  ⟨(some 27), (.binOp .gtr 3 (.tmp 22) (.tmp 26) 3), 4, "", #[], (some (20, false))⟩,
  op 28 (.pick (.tmp 20) (.const (.bool true)) (.tmp 27)) 4,
  op 16 (.assign (.tmp 28)) 4]
def F45.r4 : List Oper := [
  op 6 (.assign (.const (.int .i64 84))) 26]
def F45.r5 : List Oper := [
  op 30 (.move (.tmp 1)) 30,
  op 31 (.move (.tmp 2)) 51,
  op 32 (.call ⟨(.builtin .len), #[(.tmp 31)], #[51]⟩) 3,
  op 33 (.convert 3 30 (.tmp 32)) 30,
  op 34 (.binOp .sub 30 (.const (.int .u64 65536)) (.tmp 33) 30) 30,
  op 35 (.binOp .gtr 30 (.tmp 30) (.tmp 34) 30) 4,
  op 29 (.assign (.tmp 35)) 4]
def F45.r6 : List Oper := [
  op 6 (.assign (.const (.int .i64 86))) 26]
def F45.r7 : List Oper := [
  op 36 (.move (.tmp 1)) 30,
  op 37 (.binOp .quo 30 (.tmp 36) (.const (.int .u64 256)) 30) 30,
  op 38 (.convert 30 3 (.tmp 37)) 3,
  op 7 (.assign (.tmp 38)) 3]
def F45.r8 : List Oper := [
  op 39 (.move (.tmp 0)) 83,
  op 40 (.nilCheck (.tmp 39)) 0,
  op 41 (.fieldAddr 92 (.tmp 40) 3) 0,
  od 42 (.load 90 (.tmp 41)) 90,
  op 43 (.call ⟨(.builtin .len), #[(.tmp 42)], #[90]⟩) 3,
  op 44 (.move (.tmp 7)) 3,
  op 45 (.binOp .leq 3 (.tmp 43) (.tmp 44) 3) 4]
def F45.r9 : List Oper := [
  op 46 (.move (.tmp 0)) 83,
  op 47 (.move (.tmp 0)) 83,
  op 48 (.nilCheck (.tmp 47)) 0,
  op 49 (.fieldAddr 92 (.tmp 48) 3) 0,
  od 50 (.load 90 (.tmp 49)) 90,
  oc 51 (.buildSlice 90 1 #[(0, (.const (.pointer none)))]) 90,
  oc 52 (.call ⟨(.builtin .append), #[(.tmp 50), (.tmp 51)], #[90, 90]⟩) 90,
  op 53 (.nilCheck (.tmp 46)) 0,
  op 54 (.fieldAddr 92 (.tmp 53) 3) 0,
  ⟨none, (.store 90 (.tmp 54) (.tmp 52)), 0, "", #[⟨0, .chain⟩], none⟩]
def F45.r10 : List Oper := [
  op 55 (.move (.tmp 0)) 83,
  op 56 (.nilCheck (.tmp 55)) 0,
  op 57 (.fieldAddr 92 (.tmp 56) 3) 0,
  od 58 (.load 90 (.tmp 57)) 90,
  op 59 (.move (.tmp 7)) 3,
  op 60 (.indexAddr 90 (.tmp 58) (.tmp 59)) 0,
  od 61 (.load 122 (.tmp 60)) 122,
  op 62 (.binOp .eql 122 (.tmp 61) (.const (.pointer none)) 122) 4]
def F45.r11 : List Oper := [
  op 63 (.move (.tmp 0)) 83,
  op 64 (.nilCheck (.tmp 63)) 0,
  op 65 (.fieldAddr 92 (.tmp 64) 3) 0,
  od 66 (.load 90 (.tmp 65)) 90,
  op 67 (.move (.tmp 7)) 3,
  oc 68 (.alloc 123) 122,
  op 69 (.indexAddr 90 (.tmp 66) (.tmp 67)) 0,
  ⟨none, (.store 122 (.tmp 69) (.tmp 68)), 0, "", #[⟨0, .chain⟩], none⟩]
def F45.r12 : List Oper := [
  op 70 (.move (.tmp 0)) 83,
  op 71 (.nilCheck (.tmp 70)) 0,
  op 72 (.fieldAddr 92 (.tmp 71) 3) 0,
  od 73 (.load 90 (.tmp 72)) 90,
  op 74 (.move (.tmp 7)) 3,
  op 75 (.indexAddr 90 (.tmp 73) (.tmp 74)) 0,
  od 76 (.load 122 (.tmp 75)) 122,
  op 77 (.nilCheck (.tmp 76)) 122,
  op 78 (.move (.tmp 1)) 30,
  op 79 (.binOp .rem 30 (.tmp 78) (.const (.int .u64 256)) 30) 30,
  op 80 (.slice 123 (.tmp 77) (some (.tmp 79)) none none) 51,
  op 81 (.move (.tmp 2)) 51,
  oc 82 (.call ⟨(.builtin .copy), #[(.tmp 80), (.tmp 81)], #[51, 51]⟩) 3]
def F45.r13 : List Oper := [
  op 83 (.move (.tmp 0)) 83,
  op 84 (.move (.tmp 0)) 83,
  op 85 (.nilCheck (.tmp 84)) 0,
  op 86 (.fieldAddr 92 (.tmp 85) 1) 0,
  op 87 (.fieldAddr 41 (.tmp 86) 10) 0,
  od 88 (.load 30 (.tmp 87)) 30,
  op 89 (.move (.tmp 1)) 30,
  op 90 (.move (.tmp 2)) 51,
  op 91 (.call ⟨(.builtin .len), #[(.tmp 90)], #[51]⟩) 3,
  op 92 (.convert 3 30 (.tmp 91)) 30,
  op 93 (.binOp .add 30 (.tmp 89) (.tmp 92) 30) 30,
  op 94 (.call ⟨(.builtin .max), #[(.tmp 88), (.tmp 93)], #[30, 30]⟩) 30,
  op 95 (.nilCheck (.tmp 83)) 0,
  op 96 (.fieldAddr 92 (.tmp 95) 1) 0,
  op 97 (.fieldAddr 41 (.tmp 96) 10) 0,
  ⟨none, (.store 30 (.tmp 97) (.tmp 94)), 0, "", #[⟨0, .chain⟩], none⟩]
def F45.r14 : List Oper := [
  op 6 (.assign (.const (.int .i64 0))) 26]
def F45.t9 : Cd := (.block 2 (.region 9 F45.r9.toArray false))
theorem F45.t9_eq {θ : Tag (F45.t9, Q, e, w)} : cwE P F45.t9 Q e w θ = cwE P (.block 2 (.region 9 F45.r9.toArray false)) Q e w := rfl
def F45.t12 : Cd := (.seq (.region 12 F45.r12.toArray false) (.seq (.region 13 F45.r13.toArray false) (.seq (.region 14 F45.r14.toArray false) .ret)))
theorem F45.t12_eq {θ : Tag (F45.t12, Q, e, w)} : cwE P F45.t12 Q e w θ = cwE P (.seq (.region 12 F45.r12.toArray false) (.seq (.region 13 F45.r13.toArray false) (.seq (.region 14 F45.r14.toArray false) .ret))) Q e w := rfl
def F45.t10 : Cd := (.seq (.seq (.region 10 F45.r10.toArray false) (.cond (.tmp 62) (.region 11 F45.r11.toArray false) .skip)) F45.t12)
theorem F45.t10_eq {θ : Tag (F45.t10, Q, e, w)} : cwE P F45.t10 Q e w θ = cwE P (.seq (.seq (.region 10 F45.r10.toArray false) (.cond (.tmp 62) (.region 11 F45.r11.toArray false) .skip)) F45.t12) Q e w := rfl
def F45.t7 : Cd := (.seq (.region 7 F45.r7.toArray false) (.seq (.block 1 (.loop (.seq (.seq (.region 8 F45.r8.toArray false) (.cond (.tmp 45) .skip (.exit 1))) F45.t9))) F45.t10))
theorem F45.t7_eq {θ : Tag (F45.t7, Q, e, w)} : cwE P F45.t7 Q e w θ = cwE P (.seq (.region 7 F45.r7.toArray false) (.seq (.block 1 (.loop (.seq (.seq (.region 8 F45.r8.toArray false) (.cond (.tmp 45) .skip (.exit 1))) F45.t9))) F45.t10)) Q e w := rfl
def F45.code : Cd := (.seq (.region 0 F45.r0.toArray false) (.seq (.block 0 (.seq (.region 1 F45.r1.toArray false) (.cond (.tmp 8) (.seq (.region 2 F45.r2.toArray false) .ret) (.seq (.region 3 F45.r3.toArray false) (.cond (.tmp 16) (.seq (.region 4 F45.r4.toArray false) .ret) (.seq (.region 5 F45.r5.toArray false) (.cond (.tmp 29) (.seq (.region 6 F45.r6.toArray false) .ret) .skip))))))) F45.t7))
theorem F45.calls (hn : args.size ≤ 98) (h : cwE Tryd.prog F45.code (fnP Tryd.prog #[(.tmp 6)] R) (entry args) w) : Calls Tryd.prog 45 args w R :=
  calls_of_cwE (types := Tryd.prog.types) follows Tryd.func45 F45.code rfl (by kernel_rfl) hn h

def F46.r0 : List Oper := [
  op 4 (.assign (.const (.int .i64 0))) 26]
def F46.r1 : List Oper := [
  op 5 (.move (.tmp 1)) 3,
  op 6 (.move (.tmp 0)) 83,
  op 7 (.nilCheck (.tmp 6)) 0,
  op 8 (.fieldAddr 92 (.tmp 7) 1) 0,
  op 9 (.fieldAddr 41 (.tmp 8) 11) 0,
  od 10 (.load 3 (.tmp 9)) 3,
  op 11 (.unOp .neg 3 (.tmp 10)) 3,
  op 12 (.binOp .lss 3 (.tmp 5) (.tmp 11) 3) 4,
  op 13 (.move (.tmp 12)) 4,
  ⟨(some 14), (.move (.tmp 1)), 3, "", #[], (some (13, false))⟩,
  ⟨(some 15), (.move (.tmp 0)), 83, "", #[], (some (13, false))⟩,
  ⟨(some 16), (.nilCheck (.tmp 15)), 0, "", #[], (some (13, false))⟩,
  ⟨(some 17), (.fieldAddr 92 (.tmp 16) 1), 0, "", #[], (some (13, false))⟩,
  ⟨(some 18), (.fieldAddr 41 (.tmp 17) 11), 0, "", #[], (some (13, false))⟩,
  ⟨(some 19), (.load 3 (.tmp 18)), 3, "", #[⟨0, .data⟩], (some (13, false))⟩,
  ⟨(some 20), (.binOp .sub 3 (.const (.int .i64 2147483647)) (.tmp 19) 3), 3, "", #[], (some (13, false))⟩,
  ⟨(some 21), (.binOp .gtr 3 (.tmp 14) (.tmp 20) 3), 4, "", #[], (some (13, false))⟩,
  op 22 (.pick (.tmp 13) (.const (.bool true)) (.tmp 21)) 4]
def F46.r2 : List Oper := [
  op 4 (.assign (.const (.int .i64 87))) 26]
def F46.r3 : List Oper := [
  op 23 (.move (.tmp 0)) 83,
  op 24 (.nilCheck (.tmp 23)) 0,
  op 25 (.fieldAddr 92 (.tmp 24) 1) 0,
  op 26 (.fieldAddr 41 (.tmp 25) 11) 0,
  od 27 (.load 3 (.tmp 26)) 3,
  op 28 (.move (.tmp 1)) 3,
  op 29 (.binOp .add 3 (.tmp 27) (.tmp 28) 3) 3,
  op 30 (.nilCheck (.tmp 23)) 0,
  op 31 (.fieldAddr 92 (.tmp 30) 1) 0,
  op 32 (.fieldAddr 41 (.tmp 31) 11) 0,
  ⟨none, (.store 3 (.tmp 32) (.tmp 29)), 0, "", #[⟨0, .chain⟩], none⟩]
def F46.r4 : List Oper := [
  op 4 (.assign (.const (.int .i64 0))) 26]
def F46.t3 : Cd := (.seq (.region 3 F46.r3.toArray false) (.seq (.region 4 F46.r4.toArray false) .ret))
theorem F46.t3_eq {θ : Tag (F46.t3, Q, e, w)} : cwE P F46.t3 Q e w θ = cwE P (.seq (.region 3 F46.r3.toArray false) (.seq (.region 4 F46.r4.toArray false) .ret)) Q e w := rfl
def F46.code : Cd := (.seq (.region 0 F46.r0.toArray false) (.seq (.seq (.region 1 F46.r1.toArray false) (.cond (.tmp 22) (.seq (.region 2 F46.r2.toArray false) .ret) .skip)) F46.t3))
theorem F46.calls (hn : args.size ≤ 33) (h : cwE Tryd.prog F46.code (fnP Tryd.prog #[(.tmp 4)] R) (entry args) w) : Calls Tryd.prog 46 args w R :=
  calls_of_cwE (types := Tryd.prog.types) follows Tryd.func46 F46.code rfl (by kernel_rfl) hn h

def F47.r0 : List Oper := [
  op 6 (.assign (.const (.slice none 0 0))) 51]
def F47.r1 : List Oper := [
  op 13 (.move (.tmp 2)) 3,
  op 14 (.binOp .leq 3 (.tmp 13) (.const (.int .i64 0)) 3) 4,
  op 15 (.move (.tmp 14)) 4,
  ⟨(some 16), (.move (.tmp 1)), 30, "", #[], (some (15, false))⟩,
  ⟨(some 17), (.move (.tmp 0)), 83, "", #[], (some (15, false))⟩,
  ⟨(some 18), (.nilCheck (.tmp 17)), 0, "", #[], (some (15, false))⟩,
  ⟨(some 19), (.fieldAddr 92 (.tmp 18) 1), 0, "", #[], (some (15, false))⟩,
  ⟨(some 20), (.fieldAddr 41 (.tmp 19) 10), 0, "", #[], (some (15, false))⟩,
  ⟨(some 21), (.load 30 (.tmp 20)), 30, "", #[⟨0, .data⟩], (some (15, false))⟩,
  ⟨(some 22), (.binOp .geq 30 (.tmp 16) (.tmp 21) 30), 4, "", #[], (some (15, false))⟩,
  op 23 (.pick (.tmp 15) (.const (.bool true)) (.tmp 22)) 4]
def F47.r2 : List Oper := [
  op 6 (.assign (.const (.slice none 0 0))) 51]
def F47.r3 : List Oper := [
  op 24 (.move (.tmp 2)) 3,
  op 25 (.convert 3 30 (.tmp 24)) 30,
  op 26 (.move (.tmp 0)) 83,
  op 27 (.nilCheck (.tmp 26)) 0,
  op 28 (.fieldAddr 92 (.tmp 27) 1) 0,
  op 29 (.fieldAddr 41 (.tmp 28) 10) 0,
  od 30 (.load 30 (.tmp 29)) 30,
  op 31 (.move (.tmp 1)) 30,
  op 32 (.binOp .sub 30 (.tmp 30) (.tmp 31) 30) 30,
  op 33 (.call ⟨(.builtin .min), #[(.tmp 25), (.tmp 32)], #[30, 30]⟩) 30,
  oc 34 (.makeSlice 51 (.tmp 33) (.tmp 33)) 51,
  op 7 (.assign (.tmp 34)) 51]
def F47.r4 : List Oper := [
  op 8 (.assign (.const (.int .i64 0))) 3]
def F47.r5 : List Oper := [
  op 35 (.move (.tmp 8)) 3,
  op 36 (.move (.tmp 7)) 51,
  op 37 (.call ⟨(.builtin .len), #[(.tmp 36)], #[51]⟩) 3,
  op 38 (.binOp .lss 3 (.tmp 35) (.tmp 37) 3) 4]
def F47.r6 : List Oper := [
  op 39 (.move (.tmp 1)) 30,
  op 40 (.move (.tmp 8)) 3,
  op 41 (.convert 3 30 (.tmp 40)) 30,
  op 42 (.binOp .add 30 (.tmp 39) (.tmp 41) 30) 30,
  op 9 (.assign (.tmp 42)) 30]
def F47.r7 : List Oper := [
  op 43 (.move (.tmp 9)) 30,
  op 44 (.binOp .rem 30 (.tmp 43) (.const (.int .u64 256)) 30) 30,
  op 45 (.convert 30 3 (.tmp 44)) 3,
  op 46 (.move (.tmp 9)) 30,
  op 47 (.binOp .quo 30 (.tmp 46) (.const (.int .u64 256)) 30) 30,
  op 48 (.convert 30 3 (.tmp 47)) 3,
  op 10 (.assign (.tmp 45)) 3,
  op 11 (.assign (.tmp 48)) 3]
def F47.r8 : List Oper := [
  op 49 (.move (.tmp 7)) 51,
  op 50 (.call ⟨(.builtin .len), #[(.tmp 49)], #[51]⟩) 3,
  op 51 (.move (.tmp 8)) 3,
  op 52 (.binOp .sub 3 (.tmp 50) (.tmp 51) 3) 3,
  op 53 (.move (.tmp 10)) 3,
  op 54 (.binOp .sub 3 (.const (.int .i64 256)) (.tmp 53) 3) 3,
  op 55 (.call ⟨(.builtin .min), #[(.tmp 52), (.tmp 54)], #[3, 3]⟩) 3,
  op 12 (.assign (.tmp 55)) 3]
def F47.r9 : List Oper := [
  op 56 (.move (.tmp 11)) 3,
  op 57 (.move (.tmp 0)) 83,
  op 58 (.nilCheck (.tmp 57)) 0,
  op 59 (.fieldAddr 92 (.tmp 58) 3) 0,
  od 60 (.load 90 (.tmp 59)) 90,
  op 61 (.call ⟨(.builtin .len), #[(.tmp 60)], #[90]⟩) 3,
  op 62 (.binOp .lss 3 (.tmp 56) (.tmp 61) 3) 4,
  op 63 (.move (.tmp 62)) 4,
  ⟨(some 64), (.move (.tmp 0)), 83, "", #[], (some (63, true))⟩,
  ⟨(some 65), (.nilCheck (.tmp 64)), 0, "", #[], (some (63, true))⟩,
  ⟨(some 66), (.fieldAddr 92 (.tmp 65) 3), 0, "", #[], (some (63, true))⟩,
  ⟨(some 67), (.load 90 (.tmp 66)), 90, "", #[⟨0, .data⟩], (some (63, true))⟩,
  ⟨(some 68), (.move (.tmp 11)), 3, "", #[], (some (63, true))⟩,
  ⟨(some 69), (.indexAddr 90 (.tmp 67) (.tmp 68)), 0, "", #[], (some (63, true))⟩,
  ⟨(some 70), (.load 122 (.tmp 69)), 122, "", #[⟨0, .data⟩], (some (63, true))⟩,
  ⟨(some 71), (.binOp .neq 122 (.tmp 70) (.const (.pointer none)) 122), 4, "", #[], (some (63, true))⟩,
  op 72 (.pick (.tmp 63) (.tmp 71) (.const (.bool false))) 4]
def F47.r10 : List Oper := [
  ⟨(some 73), (.move (.tmp 7)), 51, "", #[], none⟩,
  ⟨(some 74), (.move (.tmp 8)), 3, "", #[], none⟩,
  ⟨(some 75), (.move (.tmp 8)), 3, "", #[], none⟩,
  ⟨(some 76), (.move (.tmp 12)), 3, "", #[], none⟩,
  ⟨(some 77), (.binOp .add 3 (.tmp 75) (.tmp 76) 3), 3, "", #[], none⟩,
  ⟨(some 78), (.slice 51 (.tmp 73) (some (.tmp 74)) (some (.tmp 77)) none), 51, "", #[], none⟩,
  ⟨(some 79), (.move (.tmp 0)), 83, "", #[], none⟩,
  ⟨(some 80), (.nilCheck (.tmp 79)), 0, "", #[], none⟩,
  ⟨(some 81), (.fieldAddr 92 (.tmp 80) 3), 0, "", #[], none⟩,
  ⟨(some 83), (.move (.tmp 11)), 3, "", #[], none⟩,
  ⟨(some 87), (.move (.tmp 10)), 3, "", #[], none⟩,
  ⟨(some 82), (.load 90 (.tmp 81)), 90, "", #[⟨65536, .data⟩], none⟩,
  ⟨(some 84), (.indexAddr 90 (.tmp 82) (.tmp 83)), 0, "", #[], none⟩,
  ⟨(some 85), (.load 122 (.tmp 84)), 122, "", #[⟨65536, .data⟩], none⟩,
  ⟨(some 86), (.nilCheck (.tmp 85)), 122, "", #[], none⟩,
  ⟨(some 88), (.slice 123 (.tmp 86) (some (.tmp 87)) none none), 51, "", #[], none⟩,
  ⟨(some 89), (.call ⟨(.builtin .copy), #[(.tmp 78), (.tmp 88)], #[51, 51]⟩), 3, "", #[⟨16, .chain⟩], none⟩]
def F47.r11 : List Oper := [
  op 90 (.move (.tmp 8)) 3,
  op 91 (.move (.tmp 12)) 3,
  op 92 (.binOp .add 3 (.tmp 90) (.tmp 91) 3) 3,
  op 8 (.assign (.tmp 92)) 3]
def F47.r12 : List Oper := [
  op 93 (.move (.tmp 7)) 51,
  op 6 (.assign (.tmp 93)) 51]
def F47.t11 : Cd := (.region 11 F47.r11.toArray false)
theorem F47.t11_eq {θ : Tag (F47.t11, Q, e, w)} : cwE P F47.t11 Q e w θ = cwE P (.region 11 F47.r11.toArray false) Q e w := rfl
def F47.t6 : Cd := (.block 1 (.seq (.region 6 F47.r6.toArray false) (.seq (.region 7 F47.r7.toArray false) (.seq (.region 8 F47.r8.toArray false) (.seq (.seq (.region 9 F47.r9.toArray false) (.cond (.tmp 72) (.region 10 F47.r10.toArray true) .skip)) F47.t11)))))
theorem F47.t6_eq {θ : Tag (F47.t6, Q, e, w)} : cwE P F47.t6 Q e w θ = cwE P (.block 1 (.seq (.region 6 F47.r6.toArray false) (.seq (.region 7 F47.r7.toArray false) (.seq (.region 8 F47.r8.toArray false) (.seq (.seq (.region 9 F47.r9.toArray false) (.cond (.tmp 72) (.region 10 F47.r10.toArray true) .skip)) F47.t11))))) Q e w := rfl
def F47.t12 : Cd := (.seq (.region 12 F47.r12.toArray false) .ret)
theorem F47.t12_eq {θ : Tag (F47.t12, Q, e, w)} : cwE P F47.t12 Q e w θ = cwE P (.seq (.region 12 F47.r12.toArray false) .ret) Q e w := rfl
def F47.t3 : Cd := (.seq (.region 3 F47.r3.toArray false) (.seq (.seq (.region 4 F47.r4.toArray false) (.block 0 (.loop (.seq (.seq (.region 5 F47.r5.toArray false) (.cond (.tmp 38) .skip (.exit 0))) F47.t6)))) F47.t12))
theorem F47.t3_eq {θ : Tag (F47.t3, Q, e, w)} : cwE P F47.t3 Q e w θ = cwE P (.seq (.region 3 F47.r3.toArray false) (.seq (.seq (.region 4 F47.r4.toArray false) (.block 0 (.loop (.seq (.seq (.region 5 F47.r5.toArray false) (.cond (.tmp 38) .skip (.exit 0))) F47.t6)))) F47.t12)) Q e w := rfl
def F47.code : Cd := (.seq (.region 0 F47.r0.toArray false) (.seq (.seq (.region 1 F47.r1.toArray false) (.cond (.tmp 23) (.seq (.region 2 F47.r2.toArray false) .ret) .skip)) F47.t3))
theorem F47.calls (hn : args.size ≤ 94) (h : cwE Tryd.prog F47.code (fnP Tryd.prog #[(.tmp 6)] R) (entry args) w) : Calls Tryd.prog 47 args w R :=
  calls_of_cwE (types := Tryd.prog.types) follows Tryd.func47 F47.code rfl (by kernel_rfl) hn h

def F48.r0 : List Oper := [
  op 4 (.assign (.const (.int .u64 0))) 30,
  op 5 (.assign (.const (.bool false))) 4]
def F48.r1 : List Oper := [
  op 9 (.move (.tmp 0)) 63,
  op 10 (.move (.tmp 1)) 30,
  oc 11 (.call ⟨(.value (.func 71)), #[(.tmp 9), (.tmp 10)], #[63, 30]⟩) 136,
  op 8 (.move (.tmp 11)) 136,
  op 12 (.extract (.tmp 8) 0) 3,
  op 13 (.extract (.tmp 8) 1) 4,
  op 6 (.assign (.tmp 12)) 3,
  op 7 (.assign (.tmp 13)) 4]
def F48.r2 : List Oper := [
  op 14 (.move (.tmp 7)) 4]
def F48.r3 : List Oper := [
  op 15 (.move (.tmp 6)) 3,
  op 16 (.binOp .add 3 (.tmp 15) (.const (.int .i64 1)) 3) 3,
  op 6 (.assign (.tmp 16)) 3]
def F48.r4 : List Oper := [
  op 17 (.move (.tmp 6)) 3,
  op 18 (.move (.tmp 0)) 63,
  op 19 (.call ⟨(.builtin .len), #[(.tmp 18)], #[63]⟩) 3,
  op 20 (.binOp .eql 3 (.tmp 17) (.tmp 19) 3) 4]
def F48.r5 : List Oper := [
  op 4 (.assign (.const (.int .u64 0))) 30,
  op 5 (.assign (.const (.bool false))) 4]
def F48.r6 : List Oper := [
  op 21 (.move (.tmp 0)) 63,
  op 22 (.move (.tmp 6)) 3,
  op 23 (.indexAddr 63 (.tmp 21) (.tmp 22)) 0,
  od 24 (.load 30 (.tmp 23)) 30,
  op 4 (.assign (.tmp 24)) 30,
  op 5 (.assign (.const (.bool true))) 4]
def F48.t6 : Cd := (.seq (.region 6 F48.r6.toArray false) .ret)
theorem F48.t6_eq {θ : Tag (F48.t6, Q, e, w)} : cwE P F48.t6 Q e w θ = cwE P (.seq (.region 6 F48.r6.toArray false) .ret) Q e w := rfl
def F48.t4 : Cd := (.seq (.seq (.region 4 F48.r4.toArray false) (.cond (.tmp 20) (.seq (.region 5 F48.r5.toArray false) .ret) .skip)) F48.t6)
theorem F48.t4_eq {θ : Tag (F48.t4, Q, e, w)} : cwE P F48.t4 Q e w θ = cwE P (.seq (.seq (.region 4 F48.r4.toArray false) (.cond (.tmp 20) (.seq (.region 5 F48.r5.toArray false) .ret) .skip)) F48.t6) Q e w := rfl
def F48.code : Cd := (.seq (.region 0 F48.r0.toArray false) (.seq (.region 1 F48.r1.toArray false) (.seq (.seq (.region 2 F48.r2.toArray false) (.cond (.tmp 14) (.region 3 F48.r3.toArray false) .skip)) F48.t4)))
theorem F48.calls (hn : args.size ≤ 25) (h : cwE Tryd.prog F48.code (fnP Tryd.prog #[(.tmp 4), (.tmp 5)] R) (entry args) w) : Calls Tryd.prog 48 args w R :=
  calls_of_cwE (types := Tryd.prog.types) follows Tryd.func48 F48.code rfl (by kernel_rfl) hn h

def F49.r0 : List Oper := [
  oc 1 (.box 34 (.tmp 0)) 0,
  op 2 (.assign (.const .nilFunc)) 115]
def F49.r1 : List Oper := [
  op 3 (.makeFunc (.func 72) #[] #[(.tmp 1)]) 114,
  op 2 (.assign (.tmp 3)) 115]
def F49.code : Cd := (.seq (.region 0 F49.r0.toArray false) (.seq (.region 1 F49.r1.toArray false) .ret))
theorem F49.calls (hn : args.size ≤ 4) (h : cwE Tryd.prog F49.code (fnP Tryd.prog #[(.tmp 2)] R) (entry args) w) : Calls Tryd.prog 49 args w R :=
  calls_of_cwE (types := Tryd.prog.types) follows Tryd.func49 F49.code rfl (by kernel_rfl) hn h

def F50.r0 : List Oper := [
  op 4 (.assign (.const (.int .i64 0))) 3]
def F50.r1 : List Oper := [
  op 5 (.assign (.const (.int .i64 0))) 3]
def F50.r2 : List Oper := [
  op 6 (.move (.tmp 5)) 3,
  op 7 (.move (.tmp 0)) 69,
  op 8 (.call ⟨(.builtin .len), #[(.tmp 7)], #[69]⟩) 3,
  op 9 (.binOp .lss 3 (.tmp 6) (.tmp 8) 3) 4]
def F50.r4 : List Oper := [
  op 12 (.move (.tmp 0)) 69,
  op 13 (.move (.tmp 5)) 3,
  op 14 (.indexAddr 69 (.tmp 12) (.tmp 13)) 0,
  op 15 (.fieldAddr 41 (.tmp 14) 0) 0,
  od 16 (.load 30 (.tmp 15)) 30,
  op 17 (.move (.tmp 1)) 30,
  op 18 (.binOp .eql 30 (.tmp 16) (.tmp 17) 30) 4]
def F50.r5 : List Oper := [
  op 19 (.move (.tmp 5)) 3,
  op 4 (.assign (.tmp 19)) 3]
def F50.r3 : List Oper := [
  op 10 (.move (.tmp 5)) 3,
  op 11 (.binOp .add 3 (.tmp 10) (.const (.int .i64 1)) 3) 3,
  op 5 (.assign (.tmp 11)) 3]
def F50.r6 : List Oper := [
  op 4 (.assign (.const (.int .i64 (-1)))) 3]
def F50.t3 : Cd := (.region 3 F50.r3.toArray false)
theorem F50.t3_eq {θ : Tag (F50.t3, Q, e, w)} : cwE P F50.t3 Q e w θ = cwE P (.region 3 F50.r3.toArray false) Q e w := rfl
def F50.t4 : Cd := (.seq (.block 1 (.seq (.region 4 F50.r4.toArray false) (.cond (.tmp 18) (.seq (.region 5 F50.r5.toArray false) .ret) .skip))) F50.t3)
theorem F50.t4_eq {θ : Tag (F50.t4, Q, e, w)} : cwE P F50.t4 Q e w θ = cwE P (.seq (.block 1 (.seq (.region 4 F50.r4.toArray false) (.cond (.tmp 18) (.seq (.region 5 F50.r5.toArray false) .ret) .skip))) F50.t3) Q e w := rfl
def F50.t6 : Cd := (.seq (.region 6 F50.r6.toArray false) .ret)
theorem F50.t6_eq {θ : Tag (F50.t6, Q, e, w)} : cwE P F50.t6 Q e w θ = cwE P (.seq (.region 6 F50.r6.toArray false) .ret) Q e w := rfl
def F50.code : Cd := (.seq (.region 0 F50.r0.toArray false) (.seq (.seq (.region 1 F50.r1.toArray false) (.block 0 (.loop (.seq (.seq (.region 2 F50.r2.toArray false) (.cond (.tmp 9) .skip (.exit 0))) F50.t4)))) F50.t6))
theorem F50.calls (hn : args.size ≤ 20) (h : cwE Tryd.prog F50.code (fnP Tryd.prog #[(.tmp 4)] R) (entry args) w) : Calls Tryd.prog 50 args w R :=
  calls_of_cwE (types := Tryd.prog.types) follows Tryd.func50 F50.code rfl (by kernel_rfl) hn h

def F51.r0 : List Oper := [
  op 6 (.assign (.const (.int .u64 0))) 30,
  op 7 (.assign (.const (.bool false))) 4]
def F51.r1 : List Oper := [
  op 10 (.move (.tmp 0)) 34,
  op 11 (.nilCheck (.tmp 10)) 0,
  op 12 (.fieldAddr 101 (.tmp 11) 0) 0,
  oc 13 (.call ⟨(.value (.func 36)), #[(.tmp 12)], #[99]⟩) 0]
def F51.r2 : List Oper := [
  op 14 (.move (.tmp 0)) 34,
  op 15 (.nilCheck (.tmp 14)) 0,
  op 16 (.fieldAddr 101 (.tmp 15) 0) 0,
  ⟨none, (.defer ⟨(.value (.func 37)), #[(.tmp 16)], #[99]⟩), 0, "", #[⟨0, .chain⟩], none⟩]
def F51.r3 : List Oper := [
  op 18 (.move (.tmp 0)) 34,
  op 19 (.nilCheck (.tmp 18)) 0,
  op 20 (.fieldAddr 101 (.tmp 19) 5) 0,
  od 21 (.load 94 (.tmp 20)) 94,
  op 22 (.move (.tmp 1)) 30,
  op 23 (.move (.tmp 2)) 9,
  op 24 (.build 121 #[(0, (.tmp 22)), (1, (.tmp 23))]) 121,
  od 25 (.lookup 94 (.tmp 21) (.tmp 24) true) 64,
  op 17 (.move (.tmp 25)) 64,
  op 26 (.extract (.tmp 17) 0) 30,
  op 27 (.extract (.tmp 17) 1) 4,
  op 8 (.assign (.tmp 26)) 30,
  op 9 (.assign (.tmp 27)) 4]
def F51.r4 : List Oper := [
  op 28 (.move (.tmp 8)) 30,
  op 29 (.move (.tmp 9)) 4,
  op 6 (.assign (.tmp 28)) 30,
  op 7 (.assign (.tmp 29)) 4]
def F51.code : Cd := (.seq (.region 0 F51.r0.toArray false) (.seq (.region 1 F51.r1.toArray false) (.seq (.region 2 F51.r2.toArray false) (.seq (.region 3 F51.r3.toArray false) (.seq (.region 4 F51.r4.toArray false) .ret)))))
theorem F51.calls (hn : args.size ≤ 30) (h : cwE Tryd.prog F51.code (fnP Tryd.prog #[(.tmp 6), (.tmp 7)] R) (entry args) w) : Calls Tryd.prog 51 args w R :=
  calls_of_cwE (types := Tryd.prog.types) follows Tryd.func51 F51.code rfl (by kernel_rfl) hn h

def F54.r0 : List Oper := [
  op 2 (.assign (.const (.slice none 0 0))) 63]
def F54.r1 : List Oper := [
  op 3 (.move (.tmp 0)) 63,
  op 4 (.binOp .eql 63 (.tmp 3) (.const (.slice none 0 0)) 63) 4]
def F54.r2 : List Oper := [
  op 2 (.assign (.const (.slice none 0 0))) 63]
def F54.r3 : List Oper := [
  oc 5 (.buildSlice 63 0 #[]) 63,
  op 6 (.move (.tmp 0)) 63,
  oc 7 (.call ⟨(.builtin .append), #[(.tmp 5), (.tmp 6)], #[63, 63]⟩) 63,
  op 2 (.assign (.tmp 7)) 63]
def F54.t3 : Cd := (.seq (.region 3 F54.r3.toArray false) .ret)
theorem F54.t3_eq {θ : Tag (F54.t3, Q, e, w)} : cwE P F54.t3 Q e w θ = cwE P (.seq (.region 3 F54.r3.toArray false) .ret) Q e w := rfl
def F54.code : Cd := (.seq (.region 0 F54.r0.toArray false) (.seq (.seq (.region 1 F54.r1.toArray false) (.cond (.tmp 4) (.seq (.region 2 F54.r2.toArray false) .ret) .skip)) F54.t3))
theorem F54.calls (hn : args.size ≤ 8) (h : cwE Tryd.prog F54.code (fnP Tryd.prog #[(.tmp 2)] R) (entry args) w) : Calls Tryd.prog 54 args w R :=
  calls_of_cwE (types := Tryd.prog.types) follows Tryd.func54 F54.code rfl (by kernel_rfl) hn h

def F55.r0 : List Oper := [
  op 2 (.assign (.const (.bool false))) 4]
def F55.r1 : List Oper := [
  op 3 (.move (.tmp 0)) 9,
  oc 4 (.call ⟨(.value (.func 78)), #[(.tmp 3)], #[9]⟩) 3,
  op 5 (.binOp .lss 3 (.tmp 4) (.const (.int .i64 0)) 3) 4,
  op 2 (.assign (.tmp 5)) 4]
def F55.code : Cd := (.seq (.region 0 F55.r0.toArray false) (.seq (.region 1 F55.r1.toArray false) .ret))
theorem F55.calls (hn : args.size ≤ 6) (h : cwE Tryd.prog F55.code (fnP Tryd.prog #[(.tmp 2)] R) (entry args) w) : Calls Tryd.prog 55 args w R :=
  calls_of_cwE (types := Tryd.prog.types) follows Tryd.func55 F55.code rfl (by kernel_rfl) hn h

def F56.r0 : List Oper := [
  op 2 (.assign (.const (.bool false))) 4]
def F56.r1 : List Oper := [
  op 3 (.move (.tmp 0)) 9,
  oc 4 (.call ⟨(.value (.func 79)), #[(.tmp 3)], #[9]⟩) 3,
  op 5 (.move (.tmp 0)) 9,
  op 6 (.call ⟨(.builtin .len), #[(.tmp 5)], #[9]⟩) 3,
  op 7 (.binOp .eql 3 (.tmp 4) (.tmp 6) 3) 4,
  op 2 (.assign (.tmp 7)) 4]
def F56.code : Cd := (.seq (.region 0 F56.r0.toArray false) (.seq (.region 1 F56.r1.toArray false) .ret))
theorem F56.calls (hn : args.size ≤ 8) (h : cwE Tryd.prog F56.code (fnP Tryd.prog #[(.tmp 2)] R) (entry args) w) : Calls Tryd.prog 56 args w R :=
  calls_of_cwE (types := Tryd.prog.types) follows Tryd.func56 F56.code rfl (by kernel_rfl) hn h

def F65.r0 : List Oper := [
  oc 5 (.box 41 (.tmp 2)) 0,
  op 6 (.assign (.const (.int .u64 0))) 30,
  op 7 (.assign (.const (.int .i64 0))) 26]
def F65.r1 : List Oper := [
  ⟨(some 12), (.move (.tmp 1)), 83, "", #[], none⟩,
  ⟨(some 13), (.nilCheck (.tmp 12)), 0, "", #[], none⟩,
  ⟨(some 14), (.fieldAddr 92 (.tmp 13) 1), 0, "", #[], none⟩,
  ⟨(some 15), (.fieldAddr 41 (.tmp 14) 0), 0, "", #[], none⟩,
  ⟨(some 17), (.fieldAddr 41 (.tmp 5) 2), 0, "", #[], none⟩,
  ⟨(some 16), (.load 30 (.tmp 15)), 30, "", #[⟨512, .data⟩], none⟩,
  ⟨(some 18), (.load 9 (.tmp 17)), 9, "", #[⟨512, .data⟩], none⟩,
  ⟨(some 19), (.build 121 #[(0, (.tmp 16)), (1, (.tmp 18))]), 121, "", #[], none⟩,
  ⟨(some 8), (.alloc 121), 0, "", #[⟨8, .chain⟩], none⟩,
  ⟨none, (.store 121 (.tmp 8) (.tmp 19)), 0, "", #[⟨9, .chain⟩], none⟩]
def F65.r2 : List Oper := [
  ⟨(some 21), (.move (.tmp 0)), 34, "", #[], none⟩,
  ⟨(some 22), (.nilCheck (.tmp 21)), 0, "", #[], none⟩,
  ⟨(some 23), (.fieldAddr 101 (.tmp 22) 5), 0, "", #[], none⟩,
  ⟨(some 24), (.load 94 (.tmp 23)), 94, "", #[⟨0, .data⟩], none⟩,
  ⟨(some 25), (.load 121 (.tmp 8)), 121, "", #[⟨0, .data⟩], none⟩,
  ⟨(some 26), (.lookup 94 (.tmp 24) (.tmp 25) true), 64, "", #[⟨0, .data⟩], none⟩,
  ⟨(some 20), (.move (.tmp 26)), 64, "", #[], none⟩,
  ⟨(some 27), (.extract (.tmp 20) 0), 30, "", #[], none⟩,
  ⟨(some 28), (.extract (.tmp 20) 1), 4, "", #[], none⟩,
  ⟨(some 9), (.assign (.tmp 27)), 30, "", #[], none⟩,
  ⟨(some 10), (.assign (.tmp 28)), 4, "", #[], none⟩]
def F65.r3 : List Oper := [
  op 30 (.move (.tmp 1)) 83,
  op 31 (.nilCheck (.tmp 30)) 0,
  op 32 (.fieldAddr 92 (.tmp 31) 1) 0,
  op 33 (.fieldAddr 41 (.tmp 32) 3) 0,
  od 34 (.load 29 (.tmp 33)) 29,
  op 35 (.binOp .and 29 (.tmp 34) (.const (.int .u32 2147483648)) 29) 29,
  op 36 (.binOp .eql 29 (.tmp 35) (.const (.int .u32 0)) 29) 4,
  op 29 (.assign (.tmp 36)) 4]
def F65.r4 : List Oper := [
  op 6 (.assign (.const (.int .u64 0))) 30,
  op 7 (.assign (.const (.int .i64 81))) 26]
def F65.r5 : List Oper := [
  op 38 (.fieldAddr 41 (.tmp 5) 3) 0,
  od 39 (.load 29 (.tmp 38)) 29,
  oc 40 (.call ⟨(.value (.func 70)), #[(.tmp 39)], #[29]⟩) 4,
  op 41 (.unOp .not 4 (.tmp 40)) 4,
  op 42 (.move (.tmp 41)) 4,
  ⟨(some 43), (.fieldAddr 41 (.tmp 5) 4), 0, "", #[], (some (42, false))⟩,
  ⟨(some 44), (.load 9 (.tmp 43)), 9, "", #[⟨0, .data⟩], (some (42, false))⟩,
  ⟨(some 45), (.call ⟨(.value (.func 34)), #[(.tmp 44)], #[9]⟩), 4, "", #[⟨0, .chain⟩], (some (42, false))⟩,
  ⟨(some 46), (.unOp .not 4 (.tmp 45)), 4, "", #[], (some (42, false))⟩,
  op 47 (.pick (.tmp 42) (.const (.bool true)) (.tmp 46)) 4,
  op 48 (.move (.tmp 47)) 4,
  ⟨(some 49), (.fieldAddr 41 (.tmp 5) 5), 0, "", #[], (some (48, false))⟩,
  ⟨(some 50), (.load 9 (.tmp 49)), 9, "", #[⟨0, .data⟩], (some (48, false))⟩,
  ⟨(some 51), (.call ⟨(.value (.func 34)), #[(.tmp 50)], #[9]⟩), 4, "", #[⟨0, .chain⟩], (some (48, false))⟩,
  ⟨(some 52), (.unOp .not 4 (.tmp 51)), 4, "", #[], (some (48, false))⟩,
  op 53 (.pick (.tmp 48) (.const (.bool true)) (.tmp 52)) 4,
  op 54 (.move (.tmp 53)) 4,
  ⟨(some 55), (.fieldAddr 41 (.tmp 5) 6), 0, "", #[], (some (54, false))⟩,
  ⟨(some 56), (.load 9 (.tmp 55)), 9, "", #[⟨0, .data⟩], (some (54, false))⟩,
  ⟨(some 57), (.call ⟨(.value (.func 34)), #[(.tmp 56)], #[9]⟩), 4, "", #[⟨0, .chain⟩], (some (54, false))⟩,
  ⟨(some 58), (.unOp .not 4 (.tmp 57)), 4, "", #[], (some (54, false))⟩,
  op 59 (.pick (.tmp 54) (.const (.bool true)) (.tmp 58)) 4,
  op 37 (.assign (.tmp 59)) 4]
def F65.r6 : List Oper := [
  op 6 (.assign (.const (.int .u64 0))) 30,
  op 7 (.assign (.const (.int .i64 1))) 26]
def F65.r7 : List Oper := [
  op 61 (.fieldAddr 41 (.tmp 5) 2) 0,
  od 62 (.load 9 (.tmp 61)) 9,
  oc 63 (.call ⟨(.value (.func 81)), #[(.tmp 62)], #[9]⟩) 26,
  op 64 (.binOp .neq 26 (.tmp 63) (.const (.int .i64 0)) 26) 4,
  op 60 (.assign (.tmp 64)) 4]
def F65.r8 : List Oper := [
  op 6 (.assign (.const (.int .u64 0))) 30,
  op 7 (.assign (.const (.int .i64 50))) 26]
def F65.r9 : List Oper := [
  op 66 (.move (.tmp 10)) 4,
  op 65 (.assign (.tmp 66)) 4]
def F65.r10 : List Oper := [
  op 6 (.assign (.const (.int .u64 0))) 30,
  op 7 (.assign (.const (.int .i64 82))) 26]
def F65.r11 : List Oper := [
  ⟨(some 68), (.move (.tmp 0)), 34, "", #[], none⟩,
  ⟨(some 69), (.nilCheck (.tmp 68)), 0, "", #[], none⟩,
  ⟨(some 70), (.fieldAddr 101 (.tmp 69) 3), 0, "", #[], none⟩,
  ⟨(some 73), (.move (.tmp 0)), 34, "", #[], none⟩,
  ⟨(some 74), (.nilCheck (.tmp 73)), 0, "", #[], none⟩,
  ⟨(some 75), (.fieldAddr 101 (.tmp 74) 1), 0, "", #[], none⟩,
  ⟨(some 71), (.load 93 (.tmp 70)), 93, "", #[⟨0, .data⟩], none⟩,
  ⟨(some 72), (.call ⟨(.builtin .len), #[(.tmp 71)], #[93]⟩), 3, "", #[⟨0, .data⟩], none⟩,
  ⟨(some 76), (.load 3 (.tmp 75)), 3, "", #[⟨0, .data⟩], none⟩,
  ⟨(some 77), (.binOp .geq 3 (.tmp 72) (.tmp 76) 3), 4, "", #[], none⟩,
  ⟨(some 67), (.assign (.tmp 77)), 4, "", #[], none⟩]
def F65.r12 : List Oper := [
  op 6 (.assign (.const (.int .u64 0))) 30,
  op 7 (.assign (.const (.int .i64 83))) 26]
def F65.r13 : List Oper := [
  op 78 (.move (.tmp 0)) 34,
  op 79 (.nilCheck (.tmp 78)) 0,
  op 80 (.fieldAddr 101 (.tmp 79) 2) 0,
  od 81 (.load 30 (.tmp 80)) 30,
  op 11 (.assign (.tmp 81)) 30]
def F65.r14 : List Oper := [
  op 82 (.move (.tmp 0)) 34,
  op 83 (.nilCheck (.tmp 82)) 0,
  op 84 (.fieldAddr 101 (.tmp 83) 2) 0,
  od 85 (.load 30 (.tmp 84)) 30,
  op 86 (.binOp .add 30 (.tmp 85) (.const (.int .u64 1)) 30) 30,
  op 87 (.nilCheck (.tmp 82)) 0,
  op 88 (.fieldAddr 101 (.tmp 87) 2) 0,
  ⟨none, (.store 30 (.tmp 88) (.tmp 86)), 0, "", #[⟨0, .chain⟩], none⟩]
def F65.r15 : List Oper := [
  ⟨(some 89), (.move (.tmp 0)), 34, "", #[], none⟩,
  ⟨(some 90), (.nilCheck (.tmp 89)), 0, "", #[], none⟩,
  ⟨(some 91), (.fieldAddr 101 (.tmp 90) 3), 0, "", #[], none⟩,
  ⟨(some 93), (.move (.tmp 11)), 30, "", #[], none⟩,
  ⟨(some 94), (.move (.tmp 11)), 30, "", #[], none⟩,
  ⟨(some 95), (.fieldAddr 121 (.tmp 8) 0), 0, "", #[], none⟩,
  ⟨(some 97), (.fieldAddr 41 (.tmp 5) 2), 0, "", #[], none⟩,
  ⟨(some 99), (.fieldAddr 41 (.tmp 5) 3), 0, "", #[], none⟩,
  ⟨(some 101), (.fieldAddr 41 (.tmp 5) 4), 0, "", #[], none⟩,
  ⟨(some 103), (.fieldAddr 41 (.tmp 5) 5), 0, "", #[], none⟩,
  ⟨(some 105), (.fieldAddr 41 (.tmp 5) 6), 0, "", #[], none⟩,
  ⟨(some 107), (.fieldAddr 41 (.tmp 5) 7), 0, "", #[], none⟩,
  ⟨(some 109), (.fieldAddr 41 (.tmp 5) 8), 0, "", #[], none⟩,
  ⟨(some 92), (.load 93 (.tmp 91)), 93, "", #[⟨33554432, .data⟩], none⟩,
  ⟨(some 96), (.load 30 (.tmp 95)), 30, "", #[⟨50331648, .data⟩], none⟩,
  ⟨(some 98), (.load 9 (.tmp 97)), 9, "", #[⟨50331648, .data⟩], none⟩,
  ⟨(some 100), (.load 29 (.tmp 99)), 29, "", #[⟨50331648, .data⟩], none⟩,
  ⟨(some 102), (.load 9 (.tmp 101)), 9, "", #[⟨50331648, .data⟩], none⟩,
  ⟨(some 104), (.load 9 (.tmp 103)), 9, "", #[⟨50331648, .data⟩], none⟩,
  ⟨(some 106), (.load 9 (.tmp 105)), 9, "", #[⟨50331648, .data⟩], none⟩,
  ⟨(some 108), (.load 29 (.tmp 107)), 29, "", #[⟨50331648, .data⟩], none⟩,
  ⟨(some 110), (.load 29 (.tmp 109)), 29, "", #[⟨50331648, .data⟩], none⟩,
  ⟨(some 111), (.build 41 #[(0, (.tmp 94)), (1, (.tmp 96)), (2, (.tmp 98)), (3, (.tmp 100)), (4, (.tmp 102)), (5, (.tmp 104)), (6, (.tmp 106)), (7, (.tmp 108)), (8, (.tmp 110))]), 41, "", #[], none⟩,
  ⟨(some 112), (.build 92 #[(1, (.tmp 111))]), 92, "", #[], none⟩,
  ⟨(some 113), (.box 92 (.tmp 112)), 83, "", #[⟨24, .chain⟩], none⟩,
  ⟨none, (.mapUpdate 93 (.tmp 92) (.tmp 93) (.tmp 113)), 0, "", #[⟨25, .chain⟩], none⟩]
def F65.r16 : List Oper := [
  op 114 (.move (.tmp 0)) 34,
  op 115 (.move (.tmp 0)) 34,
  op 116 (.nilCheck (.tmp 115)) 0,
  op 117 (.fieldAddr 101 (.tmp 116) 4) 0,
  od 118 (.load 63 (.tmp 117)) 63,
  op 119 (.move (.tmp 11)) 30,
  oc 120 (.buildSlice 63 1 #[(0, (.tmp 119))]) 63,
  oc 121 (.call ⟨(.builtin .append), #[(.tmp 118), (.tmp 120)], #[63, 63]⟩) 63,
  op 122 (.nilCheck (.tmp 114)) 0,
  op 123 (.fieldAddr 101 (.tmp 122) 4) 0,
  ⟨none, (.store 63 (.tmp 123) (.tmp 121)), 0, "", #[⟨0, .chain⟩], none⟩]
def F65.r17 : List Oper := [
  ⟨(some 124), (.move (.tmp 0)), 34, "", #[], none⟩,
  ⟨(some 125), (.nilCheck (.tmp 124)), 0, "", #[], none⟩,
  ⟨(some 126), (.fieldAddr 101 (.tmp 125) 5), 0, "", #[], none⟩,
  ⟨(some 129), (.move (.tmp 11)), 30, "", #[], none⟩,
  ⟨(some 127), (.load 94 (.tmp 126)), 94, "", #[⟨64, .data⟩], none⟩,
  ⟨(some 128), (.load 121 (.tmp 8)), 121, "", #[⟨64, .data⟩], none⟩,
  ⟨none, (.mapUpdate 94 (.tmp 127) (.tmp 128) (.tmp 129)), 0, "", #[⟨6, .chain⟩], none⟩]
def F65.r18 : List Oper := [
  op 130 (.move (.tmp 1)) 83,
  op 131 (.move (.tmp 1)) 83,
  op 132 (.nilCheck (.tmp 131)) 0,
  op 133 (.fieldAddr 92 (.tmp 132) 2) 0,
  od 134 (.load 63 (.tmp 133)) 63,
  op 135 (.move (.tmp 11)) 30,
  oc 136 (.buildSlice 63 1 #[(0, (.tmp 135))]) 63,
  oc 137 (.call ⟨(.builtin .append), #[(.tmp 134), (.tmp 136)], #[63, 63]⟩) 63,
  op 138 (.nilCheck (.tmp 130)) 0,
  op 139 (.fieldAddr 92 (.tmp 138) 2) 0,
  ⟨none, (.store 63 (.tmp 139) (.tmp 137)), 0, "", #[⟨0, .chain⟩], none⟩]
def F65.r19 : List Oper := [
  op 140 (.move (.tmp 11)) 30,
  op 6 (.assign (.tmp 140)) 30,
  op 7 (.assign (.const (.int .i64 0))) 26]
def F65.t13 : Cd := (.seq (.region 13 F65.r13.toArray false) (.seq (.region 14 F65.r14.toArray false) (.seq (.region 15 F65.r15.toArray true) (.seq (.region 16 F65.r16.toArray false) (.seq (.region 17 F65.r17.toArray true) (.seq (.region 18 F65.r18.toArray false) (.seq (.region 19 F65.r19.toArray false) .ret)))))))
theorem F65.t13_eq {θ : Tag (F65.t13, Q, e, w)} : cwE P F65.t13 Q e w θ = cwE P (.seq (.region 13 F65.r13.toArray false) (.seq (.region 14 F65.r14.toArray false) (.seq (.region 15 F65.r15.toArray true) (.seq (.region 16 F65.r16.toArray false) (.seq (.region 17 F65.r17.toArray true) (.seq (.region 18 F65.r18.toArray false) (.seq (.region 19 F65.r19.toArray false) .ret))))))) Q e w := rfl
def F65.code : Cd := (.seq (.region 0 F65.r0.toArray false) (.seq (.region 1 F65.r1.toArray true) (.seq (.seq (.region 2 F65.r2.toArray true) (.block 0 (.seq (.region 3 F65.r3.toArray false) (.cond (.tmp 29) (.seq (.region 4 F65.r4.toArray false) .ret) (.seq (.region 5 F65.r5.toArray false) (.cond (.tmp 37) (.seq (.region 6 F65.r6.toArray false) .ret) (.seq (.region 7 F65.r7.toArray false) (.cond (.tmp 60) (.seq (.region 8 F65.r8.toArray false) .ret) (.seq (.region 9 F65.r9.toArray false) (.cond (.tmp 65) (.seq (.region 10 F65.r10.toArray false) .ret) (.seq (.region 11 F65.r11.toArray true) (.cond (.tmp 67) (.seq (.region 12 F65.r12.toArray false) .ret) .skip)))))))))))) F65.t13)))
theorem F65.calls (hn : args.size ≤ 141) (h : cwE Tryd.prog F65.code (fnP Tryd.prog #[(.tmp 6), (.tmp 7)] R) (entry args) w) : Calls Tryd.prog 65 args w R :=
  calls_of_cwE (types := Tryd.prog.types) follows Tryd.func65 F65.code rfl (by kernel_rfl) hn h

def F66.r0 : List Oper := [
  op 4 (.assign (.const (.int .u64 0))) 30,
  op 5 (.assign (.const (.int .i64 0))) 26]
def F66.r1 : List Oper := [
  op 8 (.move (.tmp 1)) 83,
  op 9 (.nilCheck (.tmp 8)) 0,
  op 10 (.fieldAddr 92 (.tmp 9) 1) 0,
  op 11 (.fieldAddr 41 (.tmp 10) 0) 0,
  od 12 (.load 30 (.tmp 11)) 30,
  op 6 (.assign (.tmp 12)) 30]
def F66.r2 : List Oper := [
  op 14 (.move (.tmp 6)) 30,
  op 15 (.binOp .eql 30 (.tmp 14) (.const (.int .u64 1)) 30) 4,
  op 13 (.assign (.tmp 15)) 4]
def F66.r3 : List Oper := [
  op 4 (.assign (.const (.int .u64 0))) 30,
  op 5 (.assign (.const (.int .i64 81))) 26]
def F66.r4 : List Oper := [
  op 17 (.move (.tmp 1)) 83,
  op 18 (.nilCheck (.tmp 17)) 0,
  op 19 (.fieldAddr 92 (.tmp 18) 2) 0,
  od 20 (.load 63 (.tmp 19)) 63,
  op 21 (.call ⟨(.builtin .len), #[(.tmp 20)], #[63]⟩) 3,
  op 22 (.binOp .gtr 3 (.tmp 21) (.const (.int .i64 0)) 3) 4,
  op 16 (.assign (.tmp 22)) 4]
def F66.r5 : List Oper := [
  op 4 (.assign (.const (.int .u64 0))) 30,
  op 5 (.assign (.const (.int .i64 85))) 26]
def F66.r6 : List Oper := [
  ⟨(some 23), (.move (.tmp 0)), 34, "", #[], none⟩,
  ⟨(some 24), (.nilCheck (.tmp 23)), 0, "", #[], none⟩,
  ⟨(some 25), (.fieldAddr 101 (.tmp 24) 3), 0, "", #[], none⟩,
  ⟨(some 27), (.move (.tmp 1)), 83, "", #[], none⟩,
  ⟨(some 28), (.nilCheck (.tmp 27)), 0, "", #[], none⟩,
  ⟨(some 29), (.fieldAddr 92 (.tmp 28) 1), 0, "", #[], none⟩,
  ⟨(some 30), (.fieldAddr 41 (.tmp 29) 1), 0, "", #[], none⟩,
  ⟨(some 26), (.load 93 (.tmp 25)), 93, "", #[⟨0, .data⟩], none⟩,
  ⟨(some 31), (.load 30 (.tmp 30)), 30, "", #[⟨0, .data⟩], none⟩,
  ⟨(some 32), (.lookup 93 (.tmp 26) (.tmp 31) false), 83, "", #[⟨0, .data⟩], none⟩,
  ⟨(some 7), (.assign (.tmp 32)), 83, "", #[], none⟩]
def F66.r7 : List Oper := [
  op 33 (.move (.tmp 7)) 83,
  op 34 (.move (.tmp 7)) 83,
  op 35 (.nilCheck (.tmp 34)) 0,
  op 36 (.fieldAddr 92 (.tmp 35) 2) 0,
  od 37 (.load 63 (.tmp 36)) 63,
  op 38 (.move (.tmp 6)) 30,
  oc 39 (.call ⟨(.value (.func 82)), #[(.tmp 37), (.tmp 38)], #[63, 30]⟩) 63,
  op 40 (.nilCheck (.tmp 33)) 0,
  op 41 (.fieldAddr 92 (.tmp 40) 2) 0,
  ⟨none, (.store 63 (.tmp 41) (.tmp 39)), 0, "", #[⟨0, .chain⟩], none⟩]
def F66.r8 : List Oper := [
  op 42 (.move (.tmp 0)) 34,
  op 43 (.move (.tmp 0)) 34,
  op 44 (.nilCheck (.tmp 43)) 0,
  op 45 (.fieldAddr 101 (.tmp 44) 4) 0,
  od 46 (.load 63 (.tmp 45)) 63,
  op 47 (.move (.tmp 6)) 30,
  oc 48 (.call ⟨(.value (.func 82)), #[(.tmp 46), (.tmp 47)], #[63, 30]⟩) 63,
  op 49 (.nilCheck (.tmp 42)) 0,
  op 50 (.fieldAddr 101 (.tmp 49) 4) 0,
  ⟨none, (.store 63 (.tmp 50) (.tmp 48)), 0, "", #[⟨0, .chain⟩], none⟩]
def F66.r9 : List Oper := [
  ⟨(some 51), (.move (.tmp 0)), 34, "", #[], none⟩,
  ⟨(some 52), (.nilCheck (.tmp 51)), 0, "", #[], none⟩,
  ⟨(some 53), (.fieldAddr 101 (.tmp 52) 5), 0, "", #[], none⟩,
  ⟨(some 55), (.move (.tmp 1)), 83, "", #[], none⟩,
  ⟨(some 56), (.nilCheck (.tmp 55)), 0, "", #[], none⟩,
  ⟨(some 57), (.fieldAddr 92 (.tmp 56) 1), 0, "", #[], none⟩,
  ⟨(some 58), (.fieldAddr 41 (.tmp 57) 1), 0, "", #[], none⟩,
  ⟨(some 60), (.move (.tmp 1)), 83, "", #[], none⟩,
  ⟨(some 61), (.nilCheck (.tmp 60)), 0, "", #[], none⟩,
  ⟨(some 62), (.fieldAddr 92 (.tmp 61) 1), 0, "", #[], none⟩,
  ⟨(some 63), (.fieldAddr 41 (.tmp 62) 2), 0, "", #[], none⟩,
  ⟨(some 54), (.load 94 (.tmp 53)), 94, "", #[⟨32768, .data⟩], none⟩,
  ⟨(some 59), (.load 30 (.tmp 58)), 30, "", #[⟨32768, .data⟩], none⟩,
  ⟨(some 64), (.load 9 (.tmp 63)), 9, "", #[⟨32768, .data⟩], none⟩,
  ⟨(some 65), (.build 121 #[(0, (.tmp 59)), (1, (.tmp 64))]), 121, "", #[], none⟩,
  ⟨none, (.call ⟨(.builtin .delete), #[(.tmp 54), (.tmp 65)], #[94, 121]⟩), 0, "", #[⟨15, .chain⟩], none⟩]
def F66.r10 : List Oper := [
  op 66 (.move (.tmp 0)) 34,
  op 67 (.nilCheck (.tmp 66)) 0,
  op 68 (.fieldAddr 101 (.tmp 67) 3) 0,
  od 69 (.load 93 (.tmp 68)) 93,
  op 70 (.move (.tmp 6)) 30,
  ⟨none, (.call ⟨(.builtin .delete), #[(.tmp 69), (.tmp 70)], #[93, 30]⟩), 0, "", #[⟨0, .chain⟩], none⟩]
def F66.r11 : List Oper := [
  op 71 (.move (.tmp 6)) 30,
  op 4 (.assign (.tmp 71)) 30,
  op 5 (.assign (.const (.int .i64 0))) 26]
def F66.t6 : Cd := (.seq (.region 6 F66.r6.toArray true) (.seq (.region 7 F66.r7.toArray false) (.seq (.region 8 F66.r8.toArray false) (.seq (.region 9 F66.r9.toArray true) (.seq (.region 10 F66.r10.toArray false) (.seq (.region 11 F66.r11.toArray false) .ret))))))
theorem F66.t6_eq {θ : Tag (F66.t6, Q, e, w)} : cwE P F66.t6 Q e w θ = cwE P (.seq (.region 6 F66.r6.toArray true) (.seq (.region 7 F66.r7.toArray false) (.seq (.region 8 F66.r8.toArray false) (.seq (.region 9 F66.r9.toArray true) (.seq (.region 10 F66.r10.toArray false) (.seq (.region 11 F66.r11.toArray false) .ret)))))) Q e w := rfl
def F66.code : Cd := (.seq (.region 0 F66.r0.toArray false) (.seq (.region 1 F66.r1.toArray false) (.seq (.block 0 (.seq (.region 2 F66.r2.toArray false) (.cond (.tmp 13) (.seq (.region 3 F66.r3.toArray false) .ret) (.seq (.region 4 F66.r4.toArray false) (.cond (.tmp 16) (.seq (.region 5 F66.r5.toArray false) .ret) .skip))))) F66.t6)))
theorem F66.calls (hn : args.size ≤ 72) (h : cwE Tryd.prog F66.code (fnP Tryd.prog #[(.tmp 4), (.tmp 5)] R) (entry args) w) : Calls Tryd.prog 66 args w R :=
  calls_of_cwE (types := Tryd.prog.types) follows Tryd.func66 F66.code rfl (by kernel_rfl) hn h

def F67.r0 : List Oper := [
  op 6 (.assign (.const (.int .u64 0))) 30,
  op 7 (.assign (.const (.int .i64 0))) 26]
def F67.r1 : List Oper := [
  op 12 (.move (.tmp 1)) 83,
  op 13 (.nilCheck (.tmp 12)) 0,
  op 14 (.fieldAddr 92 (.tmp 13) 1) 0,
  op 15 (.fieldAddr 41 (.tmp 14) 0) 0,
  od 16 (.load 30 (.tmp 15)) 30,
  op 8 (.assign (.tmp 16)) 30]
def F67.r2 : List Oper := [
  op 17 (.move (.tmp 1)) 83,
  op 18 (.nilCheck (.tmp 17)) 0,
  op 19 (.fieldAddr 92 (.tmp 18) 1) 0,
  op 20 (.fieldAddr 41 (.tmp 19) 1) 0,
  od 21 (.load 30 (.tmp 20)) 30,
  op 22 (.move (.tmp 2)) 9,
  op 23 (.build 121 #[(0, (.tmp 21)), (1, (.tmp 22))]) 121,
  oc 9 (.alloc 121) 0,
  ⟨none, (.store 121 (.tmp 9) (.tmp 23)), 0, "", #[⟨0, .chain⟩], none⟩]
def F67.r3 : List Oper := [
  ⟨(some 25), (.move (.tmp 0)), 34, "", #[], none⟩,
  ⟨(some 26), (.nilCheck (.tmp 25)), 0, "", #[], none⟩,
  ⟨(some 27), (.fieldAddr 101 (.tmp 26) 5), 0, "", #[], none⟩,
  ⟨(some 28), (.load 94 (.tmp 27)), 94, "", #[⟨0, .data⟩], none⟩,
  ⟨(some 29), (.load 121 (.tmp 9)), 121, "", #[⟨0, .data⟩], none⟩,
  ⟨(some 30), (.lookup 94 (.tmp 28) (.tmp 29) true), 64, "", #[⟨0, .data⟩], none⟩,
  ⟨(some 24), (.move (.tmp 30)), 64, "", #[], none⟩,
  ⟨(some 31), (.extract (.tmp 24) 0), 30, "", #[], none⟩,
  ⟨(some 32), (.extract (.tmp 24) 1), 4, "", #[], none⟩,
  ⟨(some 10), (.assign (.tmp 31)), 30, "", #[], none⟩,
  ⟨(some 11), (.assign (.tmp 32)), 4, "", #[], none⟩]
def F67.r4 : List Oper := [
  op 34 (.move (.tmp 8)) 30,
  op 35 (.binOp .eql 30 (.tmp 34) (.const (.int .u64 1)) 30) 4,
  op 33 (.assign (.tmp 35)) 4]
def F67.r5 : List Oper := [
  op 6 (.assign (.const (.int .u64 0))) 30,
  op 7 (.assign (.const (.int .i64 81))) 26]
def F67.r6 : List Oper := [
  op 37 (.move (.tmp 2)) 9,
  oc 38 (.call ⟨(.value (.func 81)), #[(.tmp 37)], #[9]⟩) 26,
  op 39 (.binOp .neq 26 (.tmp 38) (.const (.int .i64 0)) 26) 4,
  op 36 (.assign (.tmp 39)) 4]
def F67.r7 : List Oper := [
  op 6 (.assign (.const (.int .u64 0))) 30,
  op 7 (.assign (.const (.int .i64 50))) 26]
def F67.r8 : List Oper := [
  op 41 (.move (.tmp 11)) 4,
  op 42 (.move (.tmp 41)) 4,
  ⟨(some 43), (.move (.tmp 10)), 30, "", #[], (some (42, true))⟩,
  ⟨(some 44), (.move (.tmp 8)), 30, "", #[], (some (42, true))⟩,
  ⟨(some 45), (.binOp .neq 30 (.tmp 43) (.tmp 44) 30), 4, "", #[], (some (42, true))⟩,
  op 46 (.pick (.tmp 42) (.tmp 45) (.const (.bool false))) 4,
  op 40 (.assign (.tmp 46)) 4]
def F67.r9 : List Oper := [
  op 6 (.assign (.const (.int .u64 0))) 30,
  op 7 (.assign (.const (.int .i64 82))) 26]
def F67.r10 : List Oper := [
  ⟨(some 47), (.move (.tmp 0)), 34, "", #[], none⟩,
  ⟨(some 48), (.nilCheck (.tmp 47)), 0, "", #[], none⟩,
  ⟨(some 49), (.fieldAddr 101 (.tmp 48) 5), 0, "", #[], none⟩,
  ⟨(some 51), (.move (.tmp 1)), 83, "", #[], none⟩,
  ⟨(some 52), (.nilCheck (.tmp 51)), 0, "", #[], none⟩,
  ⟨(some 53), (.fieldAddr 92 (.tmp 52) 1), 0, "", #[], none⟩,
  ⟨(some 54), (.fieldAddr 41 (.tmp 53) 1), 0, "", #[], none⟩,
  ⟨(some 56), (.move (.tmp 1)), 83, "", #[], none⟩,
  ⟨(some 57), (.nilCheck (.tmp 56)), 0, "", #[], none⟩,
  ⟨(some 58), (.fieldAddr 92 (.tmp 57) 1), 0, "", #[], none⟩,
  ⟨(some 59), (.fieldAddr 41 (.tmp 58) 2), 0, "", #[], none⟩,
  ⟨(some 50), (.load 94 (.tmp 49)), 94, "", #[⟨32768, .data⟩], none⟩,
  ⟨(some 55), (.load 30 (.tmp 54)), 30, "", #[⟨32768, .data⟩], none⟩,
  ⟨(some 60), (.load 9 (.tmp 59)), 9, "", #[⟨32768, .data⟩], none⟩,
  ⟨(some 61), (.build 121 #[(0, (.tmp 55)), (1, (.tmp 60))]), 121, "", #[], none⟩,
  ⟨none, (.call ⟨(.builtin .delete), #[(.tmp 50), (.tmp 61)], #[94, 121]⟩), 0, "", #[⟨15, .chain⟩], none⟩]
def F67.r11 : List Oper := [
  ⟨(some 62), (.move (.tmp 0)), 34, "", #[], none⟩,
  ⟨(some 63), (.nilCheck (.tmp 62)), 0, "", #[], none⟩,
  ⟨(some 64), (.fieldAddr 101 (.tmp 63) 5), 0, "", #[], none⟩,
  ⟨(some 67), (.move (.tmp 8)), 30, "", #[], none⟩,
  ⟨(some 65), (.load 94 (.tmp 64)), 94, "", #[⟨64, .data⟩], none⟩,
  ⟨(some 66), (.load 121 (.tmp 9)), 121, "", #[⟨64, .data⟩], none⟩,
  ⟨none, (.mapUpdate 94 (.tmp 65) (.tmp 66) (.tmp 67)), 0, "", #[⟨6, .chain⟩], none⟩]
def F67.r12 : List Oper := [
  op 68 (.move (.tmp 1)) 83,
  op 69 (.move (.tmp 2)) 9,
  op 70 (.nilCheck (.tmp 68)) 0,
  op 71 (.fieldAddr 92 (.tmp 70) 1) 0,
  op 72 (.fieldAddr 41 (.tmp 71) 2) 0,
  ⟨none, (.store 9 (.tmp 72) (.tmp 69)), 0, "", #[⟨0, .chain⟩], none⟩]
def F67.r13 : List Oper := [
  op 73 (.move (.tmp 8)) 30,
  op 6 (.assign (.tmp 73)) 30,
  op 7 (.assign (.const (.int .i64 0))) 26]
def F67.t10 : Cd := (.seq (.region 10 F67.r10.toArray true) (.seq (.region 11 F67.r11.toArray true) (.seq (.region 12 F67.r12.toArray false) (.seq (.region 13 F67.r13.toArray false) .ret))))
theorem F67.t10_eq {θ : Tag (F67.t10, Q, e, w)} : cwE P F67.t10 Q e w θ = cwE P (.seq (.region 10 F67.r10.toArray true) (.seq (.region 11 F67.r11.toArray true) (.seq (.region 12 F67.r12.toArray false) (.seq (.region 13 F67.r13.toArray false) .ret)))) Q e w := rfl
def F67.code : Cd := (.seq (.region 0 F67.r0.toArray false) (.seq (.region 1 F67.r1.toArray false) (.seq (.region 2 F67.r2.toArray false) (.seq (.seq (.region 3 F67.r3.toArray true) (.block 0 (.seq (.region 4 F67.r4.toArray false) (.cond (.tmp 33) (.seq (.region 5 F67.r5.toArray false) .ret) (.seq (.region 6 F67.r6.toArray false) (.cond (.tmp 36) (.seq (.region 7 F67.r7.toArray false) .ret) (.seq (.region 8 F67.r8.toArray false) (.cond (.tmp 40) (.seq (.region 9 F67.r9.toArray false) .ret) .skip)))))))) F67.t10))))
theorem F67.calls (hn : args.size ≤ 74) (h : cwE Tryd.prog F67.code (fnP Tryd.prog #[(.tmp 6), (.tmp 7)] R) (entry args) w) : Calls Tryd.prog 67 args w R :=
  calls_of_cwE (types := Tryd.prog.types) follows Tryd.func67 F67.code rfl (by kernel_rfl) hn h

def F70.r0 : List Oper := [
  op 2 (.assign (.const (.bool false))) 4]
def F70.r1 : List Oper := [
  op 3 (.move (.tmp 0)) 29,
  op 4 (.binOp .andNot 29 (.tmp 3) (.const (.int .u32 3825205759)) 29) 29,
  op 5 (.binOp .eql 29 (.tmp 4) (.const (.int .u32 0)) 29) 4,
  op 2 (.assign (.tmp 5)) 4]
def F70.code : Cd := (.seq (.region 0 F70.r0.toArray false) (.seq (.region 1 F70.r1.toArray false) .ret))
theorem F70.calls (hn : args.size ≤ 6) (h : cwE Tryd.prog F70.code (fnP Tryd.prog #[(.tmp 2)] R) (entry args) w) : Calls Tryd.prog 70 args w R :=
  calls_of_cwE (types := Tryd.prog.types) follows Tryd.func70 F70.code rfl (by kernel_rfl) hn h

def F71.r0 : List Oper := [
  op 4 (.assign (.const (.int .i64 0))) 3,
  op 5 (.assign (.const (.bool false))) 4]
def F71.r1 : List Oper := [
  op 10 (.move (.tmp 0)) 63,
  op 11 (.call ⟨(.builtin .len), #[(.tmp 10)], #[63]⟩) 3,
  op 6 (.assign (.tmp 11)) 3]
def F71.r2 : List Oper := [
  op 12 (.move (.tmp 6)) 3,
  op 7 (.assign (.const (.int .i64 0))) 3,
  op 8 (.assign (.tmp 12)) 3]
def F71.r3 : List Oper := [
  op 13 (.move (.tmp 7)) 3,
  op 14 (.move (.tmp 8)) 3,
  op 15 (.binOp .lss 3 (.tmp 13) (.tmp 14) 3) 4]
def F71.r4 : List Oper := [
  op 16 (.move (.tmp 7)) 3,
  op 17 (.move (.tmp 8)) 3,
  op 18 (.binOp .add 3 (.tmp 16) (.tmp 17) 3) 3,
  op 19 (.convert 3 148 (.tmp 18)) 148,
  op 20 (.binOp .shr 148 (.tmp 19) (.const (.int .u64 1)) 148) 148,
  op 21 (.convert 148 3 (.tmp 20)) 3,
  op 9 (.assign (.tmp 21)) 3]
def F71.r5 : List Oper := [
  op 22 (.move (.tmp 0)) 63,
  op 23 (.move (.tmp 9)) 3,
  op 24 (.indexAddr 63 (.tmp 22) (.tmp 23)) 0,
  od 25 (.load 30 (.tmp 24)) 30,
  op 26 (.move (.tmp 1)) 30,
  oc 27 (.call ⟨(.value (.func 86)), #[(.tmp 25), (.tmp 26)], #[30, 30]⟩) 4]
def F71.r6 : List Oper := [
  op 28 (.move (.tmp 9)) 3,
  op 29 (.binOp .add 3 (.tmp 28) (.const (.int .i64 1)) 3) 3,
  op 7 (.assign (.tmp 29)) 3]
def F71.r7 : List Oper := [
  op 30 (.move (.tmp 9)) 3,
  op 8 (.assign (.tmp 30)) 3]
def F71.r8 : List Oper := [
  op 31 (.move (.tmp 7)) 3,
  op 32 (.move (.tmp 7)) 3,
  op 33 (.move (.tmp 6)) 3,
  op 34 (.binOp .lss 3 (.tmp 32) (.tmp 33) 3) 4,
  op 35 (.move (.tmp 34)) 4,
  ⟨(some 36), (.move (.tmp 0)), 63, "", #[], (some (35, true))⟩,
  ⟨(some 37), (.move (.tmp 7)), 3, "", #[], (some (35, true))⟩,
  ⟨(some 38), (.indexAddr 63 (.tmp 36) (.tmp 37)), 0, "", #[], (some (35, true))⟩,
  ⟨(some 39), (.load 30 (.tmp 38)), 30, "", #[⟨0, .data⟩], (some (35, true))⟩,
  ⟨(some 40), (.move (.tmp 1)), 30, "", #[], (some (35, true))⟩,
  ⟨(some 41), (.binOp .eql 30 (.tmp 39) (.tmp 40) 30), 4, "", #[], (some (35, true))⟩,
  ⟨(some 42), (.move (.tmp 41)), 4, "", #[], (some (35, true))⟩,
  ⟨(some 43), (.move (.tmp 0)), 63, "", #[], (some (42, false))⟩,
  ⟨(some 44), (.move (.tmp 7)), 3, "", #[], (some (42, false))⟩,
  ⟨(some 45), (.indexAddr 63 (.tmp 43) (.tmp 44)), 0, "", #[], (some (42, false))⟩,
  ⟨(some 46), (.load 30 (.tmp 45)), 30, "", #[⟨0, .data⟩], (some (42, false))⟩,
  ⟨(some 47), (.call ⟨(.value (.func 87)), #[(.tmp 46)], #[30]⟩), 4, "", #[⟨0, .chain⟩], (some (42, false))⟩,
  ⟨(some 48), (.move (.tmp 47)), 4, "", #[], (some (42, false))⟩,
  ⟨(some 49), (.move (.tmp 1)), 30, "", #[], (some (48, true))⟩,
  ⟨(some 50), (.call ⟨(.value (.func 87)), #[(.tmp 49)], #[30]⟩), 4, "", #[⟨0, .chain⟩], (some (48, true))⟩,
  ⟨(some 51), (.pick (.tmp 48) (.tmp 50) (.const (.bool false))), 4, "", #[], (some (42, false))⟩,
  ⟨(some 52), (.pick (.tmp 42) (.const (.bool true)) (.tmp 51)), 4, "", #[], (some (35, true))⟩,
  op 53 (.pick (.tmp 35) (.tmp 52) (.const (.bool false))) 4,
  op 4 (.assign (.tmp 31)) 3,
  op 5 (.assign (.tmp 53)) 4]
def F71.t4 : Cd := (.block 1 (.seq (.region 4 F71.r4.toArray false) (.seq (.region 5 F71.r5.toArray false) (.cond (.tmp 27) (.region 6 F71.r6.toArray false) (.region 7 F71.r7.toArray false)))))
theorem F71.t4_eq {θ : Tag (F71.t4, Q, e, w)} : cwE P F71.t4 Q e w θ = cwE P (.block 1 (.seq (.region 4 F71.r4.toArray false) (.seq (.region 5 F71.r5.toArray false) (.cond (.tmp 27) (.region 6 F71.r6.toArray false) (.region 7 F71.r7.toArray false))))) Q e w := rfl
def F71.t8 : Cd := (.seq (.region 8 F71.r8.toArray false) .ret)
theorem F71.t8_eq {θ : Tag (F71.t8, Q, e, w)} : cwE P F71.t8 Q e w θ = cwE P (.seq (.region 8 F71.r8.toArray false) .ret) Q e w := rfl
def F71.code : Cd := (.seq (.region 0 F71.r0.toArray false) (.seq (.region 1 F71.r1.toArray false) (.seq (.region 2 F71.r2.toArray false) (.seq (.block 0 (.loop (.seq (.seq (.region 3 F71.r3.toArray false) (.cond (.tmp 15) .skip (.exit 0))) F71.t4))) F71.t8))))
theorem F71.calls (hn : args.size ≤ 54) (h : cwE Tryd.prog F71.code (fnP Tryd.prog #[(.tmp 4), (.tmp 5)] R) (entry args) w) : Calls Tryd.prog 71 args w R :=
  calls_of_cwE (types := Tryd.prog.types) follows Tryd.func71 F71.code rfl (by kernel_rfl) hn h

def F72.r0 : List Oper := [
  od 6 (.load 34 (.tmp 1)) 34,
  oc 7 (.call ⟨(.value (.func 73)), #[(.tmp 6), (.const (.int .u64 0))], #[34, 30]⟩) 42,
  op 5 (.move (.tmp 7)) 42,
  op 8 (.extract (.tmp 5) 0) 41,
  op 9 (.extract (.tmp 5) 1) 4,
  oc 3 (.alloc 41) 0,
  ⟨none, (.store 41 (.tmp 3) (.tmp 8)), 0, "", #[⟨0, .chain⟩], none⟩,
  op 4 (.assign (.tmp 9)) 4]
def F72.r1 : List Oper := [
  op 10 (.move (.tmp 4)) 4,
  op 11 (.move (.tmp 10)) 4,
  ⟨(some 12), (.move (.tmp 0)), 138, "", #[], (some (11, true))⟩,
  ⟨(some 13), (.load 41 (.tmp 3)), 41, "", #[⟨0, .data⟩], (some (11, true))⟩,
  ⟨(some 14), (.call ⟨(.value (.tmp 12)), #[(.tmp 13)], #[41]⟩), 4, "", #[⟨0, .phase⟩], (some (11, true))⟩,
  op 15 (.pick (.tmp 11) (.tmp 14) (.const (.bool false))) 4]
def F72.r3 : List Oper := [
  od 23 (.load 41 (.tmp 3)) 41]
def F72.r4 : List Oper := [
  oc 3 (.alloc 41) 0,
  ⟨none, (.store 41 (.tmp 3) (.tmp 23)), 0, "", #[⟨0, .chain⟩], none⟩]
def F72.r2 : List Oper := [
  od 17 (.load 34 (.tmp 1)) 34,
  op 18 (.fieldAddr 41 (.tmp 3) 0) 0,
  od 19 (.load 30 (.tmp 18)) 30,
  oc 20 (.call ⟨(.value (.func 73)), #[(.tmp 17), (.tmp 19)], #[34, 30]⟩) 42,
  op 16 (.move (.tmp 20)) 42,
  op 21 (.extract (.tmp 16) 0) 41,
  op 22 (.extract (.tmp 16) 1) 4,
  ⟨none, (.store 41 (.tmp 3) (.tmp 21)), 0, "", #[⟨0, .chain⟩], none⟩,
  op 4 (.assign (.tmp 22)) 4]
def F72.t3 : Cd := (.seq (.seq (.region 3 F72.r3.toArray false) (.region 4 F72.r4.toArray false)) (.region 2 F72.r2.toArray false))
theorem F72.t3_eq {θ : Tag (F72.t3, Q, e, w)} : cwE P F72.t3 Q e w θ = cwE P (.seq (.seq (.region 3 F72.r3.toArray false) (.region 4 F72.r4.toArray false)) (.region 2 F72.r2.toArray false)) Q e w := rfl
def F72.code : Cd := (.seq (.region 0 F72.r0.toArray false) (.block 0 (.loop (.seq (.seq (.region 1 F72.r1.toArray false) (.cond (.tmp 15) .skip (.exit 0))) (.seq (.block 1 .skip) F72.t3)))))
theorem F72.calls (hn : args.size ≤ 24) (h : cwE Tryd.prog F72.code (fnP Tryd.prog #[] R) (entry args) w) : Calls Tryd.prog 72 args w R :=
  calls_of_cwE (types := Tryd.prog.types) follows Tryd.func72 F72.code rfl (by kernel_rfl) hn h

def F73.r0 : List Oper := [
  oc 4 (.alloc 41) 0,
  op 5 (.assign (.const (.bool false))) 4]
def F73.r1 : List Oper := [
  op 8 (.move (.tmp 0)) 34,
  op 9 (.nilCheck (.tmp 8)) 0,
  op 10 (.fieldAddr 101 (.tmp 9) 0) 0,
  oc 11 (.call ⟨(.value (.func 36)), #[(.tmp 10)], #[99]⟩) 0]
def F73.r2 : List Oper := [
  op 12 (.move (.tmp 0)) 34,
  op 13 (.nilCheck (.tmp 12)) 0,
  op 14 (.fieldAddr 101 (.tmp 13) 0) 0,
  ⟨none, (.defer ⟨(.value (.func 37)), #[(.tmp 14)], #[99]⟩), 0, "", #[⟨0, .chain⟩], none⟩]
def F73.r3 : List Oper := [
  op 16 (.move (.tmp 0)) 34,
  op 17 (.nilCheck (.tmp 16)) 0,
  op 18 (.fieldAddr 101 (.tmp 17) 4) 0,
  od 19 (.load 63 (.tmp 18)) 63,
  op 20 (.move (.tmp 1)) 30,
  oc 21 (.call ⟨(.value (.func 48)), #[(.tmp 19), (.tmp 20)], #[63, 30]⟩) 64,
  op 15 (.move (.tmp 21)) 64,
  op 22 (.extract (.tmp 15) 0) 30,
  op 23 (.extract (.tmp 15) 1) 4,
  op 6 (.assign (.tmp 22)) 30,
  op 7 (.assign (.tmp 23)) 4]
def F73.r4 : List Oper := [
  op 24 (.move (.tmp 7)) 4,
  op 25 (.unOp .not 4 (.tmp 24)) 4]
def F73.r5 : List Oper := [
  op 26 (.build 41 #[]) 41,
  ⟨none, (.store 41 (.tmp 4) (.tmp 26)), 0, "", #[⟨0, .chain⟩], none⟩,
  op 5 (.assign (.const (.bool false))) 4]
def F73.r6 : List Oper := [
  op 27 (.move (.tmp 0)) 34,
  op 28 (.move (.tmp 6)) 30,
  oc 29 (.call ⟨(.value (.func 38)), #[(.tmp 27), (.tmp 28)], #[34, 30]⟩) 42,
  op 30 (.extract (.tmp 29) 0) 41,
  op 31 (.extract (.tmp 29) 1) 4,
  ⟨none, (.store 41 (.tmp 4) (.tmp 30)), 0, "", #[⟨0, .chain⟩], none⟩,
  op 5 (.assign (.tmp 31)) 4]
def F73.t6 : Cd := (.seq (.region 6 F73.r6.toArray false) .ret)
theorem F73.t6_eq {θ : Tag (F73.t6, Q, e, w)} : cwE P F73.t6 Q e w θ = cwE P (.seq (.region 6 F73.r6.toArray false) .ret) Q e w := rfl
def F73.code : Cd := (.seq (.region 0 F73.r0.toArray false) (.seq (.region 1 F73.r1.toArray false) (.seq (.region 2 F73.r2.toArray false) (.seq (.region 3 F73.r3.toArray false) (.seq (.seq (.region 4 F73.r4.toArray false) (.cond (.tmp 25) (.seq (.region 5 F73.r5.toArray false) .ret) .skip)) F73.t6)))))
theorem F73.calls (hn : args.size ≤ 32) (h : cwE Tryd.prog F73.code (fnP Tryd.prog #[(.cell 4 41), (.tmp 5)] R) (entry args) w) : Calls Tryd.prog 73 args w R :=
  calls_of_cwE (types := Tryd.prog.types) follows Tryd.func73 F73.code rfl (by kernel_rfl) hn h

def F78.r0 : List Oper := [
  op 2 (.assign (.const (.int .i64 0))) 3]
def F78.r1 : List Oper := [
  op 7 (.move (.tmp 0)) 9,
  oc 8 (.range 9 (.tmp 7)) 0]
def F78.r2 : List Oper := [
  oc 9 (.next (.tmp 8) true) 0,
  op 10 (.extract (.tmp 9) 0) 4]
def F78.r3 : List Oper := [
  op 11 (.extract (.tmp 9) 1) 3,
  op 12 (.extract (.tmp 9) 2) 21,
  op 3 (.assign (.tmp 11)) 3,
  op 4 (.assign (.tmp 12)) 21]
def F78.r4 : List Oper := [
  op 13 (.move (.tmp 4)) 21,
  op 14 (.binOp .eql 21 (.tmp 13) (.const (.int .i32 0)) 21) 4]
def F78.r5 : List Oper := [
  op 15 (.move (.tmp 3)) 3,
  op 2 (.assign (.tmp 15)) 3]
def F78.r6 : List Oper := [
  op 16 (.move (.tmp 4)) 21,
  op 17 (.binOp .eql 21 (.tmp 16) (.const (.int .i32 65533)) 21) 4]
def F78.r7 : List Oper := [
  op 19 (.move (.tmp 0)) 9,
  op 20 (.move (.tmp 3)) 3,
  op 21 (.slice 9 (.tmp 19) (some (.tmp 20)) none none) 9,
  oc 22 (.call ⟨(.value (.func 88)), #[(.tmp 21)], #[9]⟩) 151,
  op 18 (.move (.tmp 22)) 151,
  op 23 (.extract (.tmp 18) 0) 21,
  op 24 (.extract (.tmp 18) 1) 3,
  op 5 (.assign (.tmp 23)) 21,
  op 6 (.assign (.tmp 24)) 3]
def F78.r8 : List Oper := [
  op 25 (.move (.tmp 6)) 3,
  op 26 (.binOp .eql 3 (.tmp 25) (.const (.int .i64 1)) 3) 4]
def F78.r9 : List Oper := [
  op 27 (.move (.tmp 3)) 3,
  op 2 (.assign (.tmp 27)) 3]
def F78.r10 : List Oper := [
  op 2 (.assign (.const (.int .i64 (-1)))) 3]
def F78.t6 : Cd := (.seq (.region 6 F78.r6.toArray false) (.cond (.tmp 17) (.seq (.region 7 F78.r7.toArray false) (.seq (.region 8 F78.r8.toArray false) (.cond (.tmp 26) (.seq (.region 9 F78.r9.toArray false) .ret) .skip))) .skip))
theorem F78.t6_eq {θ : Tag (F78.t6, Q, e, w)} : cwE P F78.t6 Q e w θ = cwE P (.seq (.region 6 F78.r6.toArray false) (.cond (.tmp 17) (.seq (.region 7 F78.r7.toArray false) (.seq (.region 8 F78.r8.toArray false) (.cond (.tmp 26) (.seq (.region 9 F78.r9.toArray false) .ret) .skip))) .skip)) Q e w := rfl
def F78.t3 : Cd := (.block 1 (.seq (.region 3 F78.r3.toArray false) (.seq (.seq (.region 4 F78.r4.toArray false) (.cond (.tmp 14) (.seq (.region 5 F78.r5.toArray false) .ret) .skip)) F78.t6)))
theorem F78.t3_eq {θ : Tag (F78.t3, Q, e, w)} : cwE P F78.t3 Q e w θ = cwE P (.block 1 (.seq (.region 3 F78.r3.toArray false) (.seq (.seq (.region 4 F78.r4.toArray false) (.cond (.tmp 14) (.seq (.region 5 F78.r5.toArray false) .ret) .skip)) F78.t6))) Q e w := rfl
def F78.t10 : Cd := (.seq (.region 10 F78.r10.toArray false) .ret)
theorem F78.t10_eq {θ : Tag (F78.t10, Q, e, w)} : cwE P F78.t10 Q e w θ = cwE P (.seq (.region 10 F78.r10.toArray false) .ret) Q e w := rfl
def F78.code : Cd := (.seq (.region 0 F78.r0.toArray false) (.seq (.seq (.region 1 F78.r1.toArray false) (.block 0 (.loop (.seq (.region 2 F78.r2.toArray false) (.seq (.cond (.tmp 10) .skip (.exit 0)) F78.t3))))) F78.t10))
theorem F78.calls (hn : args.size ≤ 28) (h : cwE Tryd.prog F78.code (fnP Tryd.prog #[(.tmp 2)] R) (entry args) w) : Calls Tryd.prog 78 args w R :=
  calls_of_cwE (types := Tryd.prog.types) follows Tryd.func78 F78.code rfl (by kernel_rfl) hn h

def F79.r0 : List Oper := [
  op 2 (.assign (.const (.int .i64 0))) 3]
def F79.r1 : List Oper := [
  op 3 (.assign (.const (.int .i64 0))) 3]
def F79.r2 : List Oper := [
  op 5 (.move (.tmp 3)) 3,
  op 6 (.move (.tmp 0)) 9,
  op 7 (.call ⟨(.builtin .len), #[(.tmp 6)], #[9]⟩) 3,
  op 8 (.binOp .lss 3 (.tmp 5) (.tmp 7) 3) 4]
def F79.r3 : List Oper := [
  op 9 (.move (.tmp 0)) 9,
  op 10 (.move (.tmp 3)) 3,
  oc 11 (.call ⟨(.value (.func 89)), #[(.tmp 9), (.tmp 10)], #[9, 3]⟩) 3,
  op 4 (.assign (.tmp 11)) 3]
def F79.r4 : List Oper := [
  op 12 (.move (.tmp 4)) 3,
  op 13 (.binOp .eql 3 (.tmp 12) (.const (.int .i64 0)) 3) 4,
  op 14 (.move (.tmp 13)) 4,
  ⟨(some 15), (.move (.tmp 0)), 9, "", #[], (some (14, false))⟩,
  ⟨(some 16), (.move (.tmp 3)), 3, "", #[], (some (14, false))⟩,
  ⟨(some 17), (.index 9 (.tmp 15) (.tmp 16)), 5, "", #[], (some (14, false))⟩,
  ⟨(some 18), (.binOp .eql 5 (.tmp 17) (.const (.int .u8 0)) 5), 4, "", #[], (some (14, false))⟩,
  op 19 (.pick (.tmp 14) (.const (.bool true)) (.tmp 18)) 4]
def F79.r5 : List Oper := [
  op 20 (.move (.tmp 3)) 3,
  op 2 (.assign (.tmp 20)) 3]
def F79.r6 : List Oper := [
  op 21 (.move (.tmp 3)) 3,
  op 22 (.move (.tmp 4)) 3,
  op 23 (.binOp .add 3 (.tmp 21) (.tmp 22) 3) 3,
  op 3 (.assign (.tmp 23)) 3]
def F79.r7 : List Oper := [
  op 24 (.move (.tmp 0)) 9,
  op 25 (.call ⟨(.builtin .len), #[(.tmp 24)], #[9]⟩) 3,
  op 2 (.assign (.tmp 25)) 3]
def F79.t6 : Cd := (.region 6 F79.r6.toArray false)
theorem F79.t6_eq {θ : Tag (F79.t6, Q, e, w)} : cwE P F79.t6 Q e w θ = cwE P (.region 6 F79.r6.toArray false) Q e w := rfl
def F79.t3 : Cd := (.block 1 (.seq (.region 3 F79.r3.toArray false) (.seq (.seq (.region 4 F79.r4.toArray false) (.cond (.tmp 19) (.seq (.region 5 F79.r5.toArray false) .ret) .skip)) F79.t6)))
theorem F79.t3_eq {θ : Tag (F79.t3, Q, e, w)} : cwE P F79.t3 Q e w θ = cwE P (.block 1 (.seq (.region 3 F79.r3.toArray false) (.seq (.seq (.region 4 F79.r4.toArray false) (.cond (.tmp 19) (.seq (.region 5 F79.r5.toArray false) .ret) .skip)) F79.t6))) Q e w := rfl
def F79.t7 : Cd := (.seq (.region 7 F79.r7.toArray false) .ret)
theorem F79.t7_eq {θ : Tag (F79.t7, Q, e, w)} : cwE P F79.t7 Q e w θ = cwE P (.seq (.region 7 F79.r7.toArray false) .ret) Q e w := rfl
def F79.code : Cd := (.seq (.region 0 F79.r0.toArray false) (.seq (.region 1 F79.r1.toArray false) (.seq (.block 0 (.loop (.seq (.seq (.region 2 F79.r2.toArray false) (.cond (.tmp 8) .skip (.exit 0))) F79.t3))) F79.t7)))
theorem F79.calls (hn : args.size ≤ 26) (h : cwE Tryd.prog F79.code (fnP Tryd.prog #[(.tmp 2)] R) (entry args) w) : Calls Tryd.prog 79 args w R :=
  calls_of_cwE (types := Tryd.prog.types) follows Tryd.func79 F79.code rfl (by kernel_rfl) hn h

def F81.r0 : List Oper := [
  op 2 (.assign (.const (.int .i64 0))) 26]
def F81.r1 : List Oper := [
  op 4 (.move (.tmp 0)) 9,
  op 5 (.binOp .eql 9 (.tmp 4) (.const (.string { data := #[] })) 9) 4,
  op 3 (.assign (.tmp 5)) 4]
def F81.r2 : List Oper := [
  op 6 (.move (.tmp 0)) 9,
  op 7 (.binOp .eql 9 (.tmp 6) (.const (.string { data := #[46] })) 9) 4,
  op 3 (.assign (.tmp 7)) 4]
def F81.r3 : List Oper := [
  op 8 (.move (.tmp 0)) 9,
  op 9 (.binOp .eql 9 (.tmp 8) (.const (.string { data := #[46, 46] })) 9) 4,
  op 3 (.assign (.tmp 9)) 4]
def F81.r4 : List Oper := [
  op 2 (.assign (.const (.int .i64 50))) 26]
def F81.r5 : List Oper := [
  op 11 (.move (.tmp 0)) 9,
  op 12 (.call ⟨(.builtin .len), #[(.tmp 11)], #[9]⟩) 3,
  op 13 (.binOp .gtr 3 (.tmp 12) (.const (.int .i64 255)) 3) 4,
  op 10 (.assign (.tmp 13)) 4]
def F81.r6 : List Oper := [
  op 14 (.move (.tmp 0)) 9,
  oc 15 (.call ⟨(.value (.func 90)), #[(.tmp 14), (.const (.string { data := #[47] }))], #[9, 9]⟩) 4,
  op 10 (.assign (.tmp 15)) 4]
def F81.r7 : List Oper := [
  op 16 (.move (.tmp 0)) 9,
  oc 17 (.call ⟨(.value (.func 55)), #[(.tmp 16)], #[9]⟩) 4,
  op 18 (.unOp .not 4 (.tmp 17)) 4,
  op 10 (.assign (.tmp 18)) 4]
def F81.r8 : List Oper := [
  op 2 (.assign (.const (.int .i64 50))) 26]
def F81.r9 : List Oper := [
  op 2 (.assign (.const (.int .i64 0))) 26]
def F81.t8 : Cd := (.cond (.tmp 10) (.seq (.region 8 F81.r8.toArray false) .ret) .skip)
theorem F81.t8_eq {θ : Tag (F81.t8, Q, e, w)} : cwE P F81.t8 Q e w θ = cwE P (.cond (.tmp 10) (.seq (.region 8 F81.r8.toArray false) .ret) .skip) Q e w := rfl
def F81.t4 : Cd := (.cond (.tmp 3) (.seq (.region 4 F81.r4.toArray false) .ret) (.seq (.seq (.region 5 F81.r5.toArray false) (.cond (.tmp 10) .skip (.seq (.region 6 F81.r6.toArray false) (.cond (.tmp 10) .skip (.region 7 F81.r7.toArray false))))) F81.t8))
theorem F81.t4_eq {θ : Tag (F81.t4, Q, e, w)} : cwE P F81.t4 Q e w θ = cwE P (.cond (.tmp 3) (.seq (.region 4 F81.r4.toArray false) .ret) (.seq (.seq (.region 5 F81.r5.toArray false) (.cond (.tmp 10) .skip (.seq (.region 6 F81.r6.toArray false) (.cond (.tmp 10) .skip (.region 7 F81.r7.toArray false))))) F81.t8)) Q e w := rfl
def F81.t9 : Cd := (.seq (.region 9 F81.r9.toArray false) .ret)
theorem F81.t9_eq {θ : Tag (F81.t9, Q, e, w)} : cwE P F81.t9 Q e w θ = cwE P (.seq (.region 9 F81.r9.toArray false) .ret) Q e w := rfl
def F81.code : Cd := (.seq (.region 0 F81.r0.toArray false) (.seq (.block 0 (.seq (.seq (.region 1 F81.r1.toArray false) (.cond (.tmp 3) .skip (.seq (.region 2 F81.r2.toArray false) (.cond (.tmp 3) .skip (.region 3 F81.r3.toArray false))))) F81.t4)) F81.t9))
theorem F81.calls (hn : args.size ≤ 19) (h : cwE Tryd.prog F81.code (fnP Tryd.prog #[(.tmp 2)] R) (entry args) w) : Calls Tryd.prog 81 args w R :=
  calls_of_cwE (types := Tryd.prog.types) follows Tryd.func81 F81.code rfl (by kernel_rfl) hn h

def F82.r0 : List Oper := [
  op 4 (.assign (.const (.slice none 0 0))) 63]
def F82.r1 : List Oper := [
  op 8 (.move (.tmp 0)) 63,
  op 9 (.move (.tmp 1)) 30,
  oc 10 (.call ⟨(.value (.func 71)), #[(.tmp 8), (.tmp 9)], #[63, 30]⟩) 136,
  op 7 (.move (.tmp 10)) 136,
  op 11 (.extract (.tmp 7) 0) 3,
  op 12 (.extract (.tmp 7) 1) 4,
  op 5 (.assign (.tmp 11)) 3,
  op 6 (.assign (.tmp 12)) 4]
def F82.r2 : List Oper := [
  op 13 (.move (.tmp 6)) 4]
def F82.r3 : List Oper := [
  op 14 (.move (.tmp 0)) 63,
  op 15 (.move (.tmp 5)) 3,
  op 16 (.move (.tmp 5)) 3,
  op 17 (.binOp .add 3 (.tmp 16) (.const (.int .i64 1)) 3) 3,
  oc 18 (.call ⟨(.value (.func 91)), #[(.tmp 14), (.tmp 15), (.tmp 17)], #[63, 3, 3]⟩) 63,
  op 4 (.assign (.tmp 18)) 63]
def F82.r4 : List Oper := [
  op 19 (.move (.tmp 0)) 63,
  op 4 (.assign (.tmp 19)) 63]
def F82.t4 : Cd := (.seq (.region 4 F82.r4.toArray false) .ret)
theorem F82.t4_eq {θ : Tag (F82.t4, Q, e, w)} : cwE P F82.t4 Q e w θ = cwE P (.seq (.region 4 F82.r4.toArray false) .ret) Q e w := rfl
def F82.code : Cd := (.seq (.region 0 F82.r0.toArray false) (.seq (.seq (.region 1 F82.r1.toArray false) (.seq (.region 2 F82.r2.toArray false) (.cond (.tmp 13) (.seq (.region 3 F82.r3.toArray false) .ret) .skip))) F82.t4))
theorem F82.calls (hn : args.size ≤ 20) (h : cwE Tryd.prog F82.code (fnP Tryd.prog #[(.tmp 4)] R) (entry args) w) : Calls Tryd.prog 82 args w R :=
  calls_of_cwE (types := Tryd.prog.types) follows Tryd.func82 F82.code rfl (by kernel_rfl) hn h

def F86.r0 : List Oper := [
  op 4 (.assign (.const (.bool false))) 4]
def F86.r1 : List Oper := [
  op 5 (.move (.tmp 0)) 30,
  oc 6 (.call ⟨(.value (.func 99)), #[(.tmp 5)], #[30]⟩) 4,
  op 7 (.move (.tmp 6)) 4,
  ⟨(some 8), (.move (.tmp 1)), 30, "", #[], (some (7, true))⟩,
  ⟨(some 9), (.call ⟨(.value (.func 99)), #[(.tmp 8)], #[30]⟩), 4, "", #[⟨0, .chain⟩], (some (7, true))⟩,
  ⟨(some 10), (.unOp .not 4 (.tmp 9)), 4, "", #[], (some (7, true))⟩,
  op 11 (.pick (.tmp 7) (.tmp 10) (.const (.bool false))) 4,
  op 12 (.move (.tmp 11)) 4,
  ⟨(some 13), (.move (.tmp 0)), 30, "", #[], (some (12, false))⟩,
  ⟨(some 14), (.move (.tmp 1)), 30, "", #[], (some (12, false))⟩,
  ⟨(some 15), (.binOp .lss 30 (.tmp 13) (.tmp 14) 30), 4, "", #[], (some (12, false))⟩,
  op 16 (.pick (.tmp 12) (.const (.bool true)) (.tmp 15)) 4,
  op 4 (.assign (.tmp 16)) 4]
def F86.code : Cd := (.seq (.region 0 F86.r0.toArray false) (.seq (.region 1 F86.r1.toArray false) .ret))
theorem F86.calls (hn : args.size ≤ 17) (h : cwE Tryd.prog F86.code (fnP Tryd.prog #[(.tmp 4)] R) (entry args) w) : Calls Tryd.prog 86 args w R :=
  calls_of_cwE (types := Tryd.prog.types) follows Tryd.func86 F86.code rfl (by kernel_rfl) hn h

def F87.r0 : List Oper := [
  op 2 (.assign (.const (.bool false))) 4]
def F87.r1 : List Oper := [
  op 3 (.move (.tmp 0)) 30,
  op 4 (.move (.tmp 0)) 30,
  op 5 (.binOp .neq 30 (.tmp 3) (.tmp 4) 30) 4,
  op 2 (.assign (.tmp 5)) 4]
def F87.code : Cd := (.seq (.region 0 F87.r0.toArray false) (.seq (.region 1 F87.r1.toArray false) .ret))
theorem F87.calls (hn : args.size ≤ 6) (h : cwE Tryd.prog F87.code (fnP Tryd.prog #[(.tmp 2)] R) (entry args) w) : Calls Tryd.prog 87 args w R :=
  calls_of_cwE (types := Tryd.prog.types) follows Tryd.func87 F87.code rfl (by kernel_rfl) hn h

def F89.r0 : List Oper := [
  op 4 (.assign (.const (.int .i64 0))) 3]
def F89.r1 : List Oper := [
  op 7 (.move (.tmp 0)) 9,
  op 8 (.move (.tmp 1)) 3,
  oc 9 (.call ⟨(.value (.func 101)), #[(.tmp 7), (.tmp 8), (.const (.int .u8 0)), (.const (.int .u8 127))], #[9, 3, 5, 5]⟩) 4]
def F89.r2 : List Oper := [
  op 4 (.assign (.const (.int .i64 1))) 3]
def F89.r3 : List Oper := [
  op 10 (.move (.tmp 0)) 9,
  op 11 (.move (.tmp 1)) 3,
  oc 12 (.call ⟨(.value (.func 101)), #[(.tmp 10), (.tmp 11), (.const (.int .u8 194)), (.const (.int .u8 223))], #[9, 3, 5, 5]⟩) 4,
  op 13 (.move (.tmp 12)) 4,
  ⟨(some 14), (.move (.tmp 0)), 9, "", #[], (some (13, true))⟩,
  ⟨(some 15), (.move (.tmp 1)), 3, "", #[], (some (13, true))⟩,
  ⟨(some 16), (.binOp .add 3 (.tmp 15) (.const (.int .i64 1)) 3), 3, "", #[], (some (13, true))⟩,
  ⟨(some 17), (.call ⟨(.value (.func 101)), #[(.tmp 14), (.tmp 16), (.const (.int .u8 128)), (.const (.int .u8 191))], #[9, 3, 5, 5]⟩), 4, "", #[⟨0, .chain⟩], (some (13, true))⟩,
  op 18 (.pick (.tmp 13) (.tmp 17) (.const (.bool false))) 4]
def F89.r4 : List Oper := [
  op 4 (.assign (.const (.int .i64 2))) 3]
def F89.r5 : List Oper := [
  op 5 (.assign (.const (.int .u8 128))) 5,
  op 6 (.assign (.const (.int .u8 191))) 5]
def F89.r6 : List Oper := [
  op 19 (.move (.tmp 0)) 9,
  op 20 (.move (.tmp 1)) 3,
  oc 21 (.call ⟨(.value (.func 101)), #[(.tmp 19), (.tmp 20), (.const (.int .u8 224)), (.const (.int .u8 224))], #[9, 3, 5, 5]⟩) 4]
def F89.r7 : List Oper := [
  op 5 (.assign (.const (.int .u8 160))) 5]
def F89.r8 : List Oper := [
  op 22 (.move (.tmp 0)) 9,
  op 23 (.move (.tmp 1)) 3,
  oc 24 (.call ⟨(.value (.func 101)), #[(.tmp 22), (.tmp 23), (.const (.int .u8 237)), (.const (.int .u8 237))], #[9, 3, 5, 5]⟩) 4]
def F89.r9 : List Oper := [
  op 6 (.assign (.const (.int .u8 159))) 5]
def F89.r10 : List Oper := [
  op 25 (.move (.tmp 0)) 9,
  op 26 (.move (.tmp 1)) 3,
  oc 27 (.call ⟨(.value (.func 101)), #[(.tmp 25), (.tmp 26), (.const (.int .u8 224)), (.const (.int .u8 239))], #[9, 3, 5, 5]⟩) 4,
  op 28 (.move (.tmp 27)) 4,
  ⟨(some 29), (.move (.tmp 0)), 9, "", #[], (some (28, true))⟩,
  ⟨(some 30), (.move (.tmp 1)), 3, "", #[], (some (28, true))⟩,
  ⟨(some 31), (.binOp .add 3 (.tmp 30) (.const (.int .i64 1)) 3), 3, "", #[], (some (28, true))⟩,
  ⟨(some 32), (.move (.tmp 5)), 5, "", #[], (some (28, true))⟩,
  ⟨(some 33), (.move (.tmp 6)), 5, "", #[], (some (28, true))⟩,
  ⟨(some 34), (.call ⟨(.value (.func 101)), #[(.tmp 29), (.tmp 31), (.tmp 32), (.tmp 33)], #[9, 3, 5, 5]⟩), 4, "", #[⟨0, .chain⟩], (some (28, true))⟩,
  op 35 (.pick (.tmp 28) (.tmp 34) (.const (.bool false))) 4,
  op 36 (.move (.tmp 35)) 4,
  ⟨(some 37), (.move (.tmp 0)), 9, "", #[], (some (36, true))⟩,
  ⟨(some 38), (.move (.tmp 1)), 3, "", #[], (some (36, true))⟩,
  ⟨(some 39), (.binOp .add 3 (.tmp 38) (.const (.int .i64 2)) 3), 3, "", #[], (some (36, true))⟩,
  ⟨(some 40), (.call ⟨(.value (.func 101)), #[(.tmp 37), (.tmp 39), (.const (.int .u8 128)), (.const (.int .u8 191))], #[9, 3, 5, 5]⟩), 4, "", #[⟨0, .chain⟩], (some (36, true))⟩,
  op 41 (.pick (.tmp 36) (.tmp 40) (.const (.bool false))) 4]
def F89.r11 : List Oper := [
  op 4 (.assign (.const (.int .i64 3))) 3]
def F89.r12 : List Oper := [
  op 42 (.move (.tmp 0)) 9,
  op 43 (.move (.tmp 1)) 3,
  oc 44 (.call ⟨(.value (.func 101)), #[(.tmp 42), (.tmp 43), (.const (.int .u8 240)), (.const (.int .u8 240))], #[9, 3, 5, 5]⟩) 4]
def F89.r13 : List Oper := [
  op 5 (.assign (.const (.int .u8 144))) 5]
def F89.r14 : List Oper := [
  op 45 (.move (.tmp 0)) 9,
  op 46 (.move (.tmp 1)) 3,
  oc 47 (.call ⟨(.value (.func 101)), #[(.tmp 45), (.tmp 46), (.const (.int .u8 244)), (.const (.int .u8 244))], #[9, 3, 5, 5]⟩) 4]
def F89.r15 : List Oper := [
  op 6 (.assign (.const (.int .u8 143))) 5]
def F89.r16 : List Oper := [
  op 48 (.move (.tmp 0)) 9,
  op 49 (.move (.tmp 1)) 3,
  oc 50 (.call ⟨(.value (.func 101)), #[(.tmp 48), (.tmp 49), (.const (.int .u8 240)), (.const (.int .u8 244))], #[9, 3, 5, 5]⟩) 4,
  op 51 (.move (.tmp 50)) 4,
  ⟨(some 52), (.move (.tmp 0)), 9, "", #[], (some (51, true))⟩,
  ⟨(some 53), (.move (.tmp 1)), 3, "", #[], (some (51, true))⟩,
  ⟨(some 54), (.binOp .add 3 (.tmp 53) (.const (.int .i64 1)) 3), 3, "", #[], (some (51, true))⟩,
  ⟨(some 55), (.move (.tmp 5)), 5, "", #[], (some (51, true))⟩,
  ⟨(some 56), (.move (.tmp 6)), 5, "", #[], (some (51, true))⟩,
  ⟨(some 57), (.call ⟨(.value (.func 101)), #[(.tmp 52), (.tmp 54), (.tmp 55), (.tmp 56)], #[9, 3, 5, 5]⟩), 4, "", #[⟨0, .chain⟩], (some (51, true))⟩,
  op 58 (.pick (.tmp 51) (.tmp 57) (.const (.bool false))) 4,
  op 59 (.move (.tmp 58)) 4,
  ⟨(some 60), (.move (.tmp 0)), 9, "", #[], (some (59, true))⟩,
  ⟨(some 61), (.move (.tmp 1)), 3, "", #[], (some (59, true))⟩,
  ⟨(some 62), (.binOp .add 3 (.tmp 61) (.const (.int .i64 2)) 3), 3, "", #[], (some (59, true))⟩,
  ⟨(some 63), (.call ⟨(.value (.func 101)), #[(.tmp 60), (.tmp 62), (.const (.int .u8 128)), (.const (.int .u8 191))], #[9, 3, 5, 5]⟩), 4, "", #[⟨0, .chain⟩], (some (59, true))⟩,
  op 64 (.pick (.tmp 59) (.tmp 63) (.const (.bool false))) 4,
  op 65 (.move (.tmp 64)) 4,
  ⟨(some 66), (.move (.tmp 0)), 9, "", #[], (some (65, true))⟩,
  ⟨(some 67), (.move (.tmp 1)), 3, "", #[], (some (65, true))⟩,
  ⟨(some 68), (.binOp .add 3 (.tmp 67) (.const (.int .i64 3)) 3), 3, "", #[], (some (65, true))⟩,
  ⟨(some 69), (.call ⟨(.value (.func 101)), #[(.tmp 66), (.tmp 68), (.const (.int .u8 128)), (.const (.int .u8 191))], #[9, 3, 5, 5]⟩), 4, "", #[⟨0, .chain⟩], (some (65, true))⟩,
  op 70 (.pick (.tmp 65) (.tmp 69) (.const (.bool false))) 4]
def F89.r17 : List Oper := [
  op 4 (.assign (.const (.int .i64 4))) 3]
def F89.r18 : List Oper := [
  op 4 (.assign (.const (.int .i64 0))) 3]
def F89.t18 : Cd := (.seq (.region 18 F89.r18.toArray false) .ret)
theorem F89.t18_eq {θ : Tag (F89.t18, Q, e, w)} : cwE P F89.t18 Q e w θ = cwE P (.seq (.region 18 F89.r18.toArray false) .ret) Q e w := rfl
def F89.t16 : Cd := (.seq (.seq (.region 16 F89.r16.toArray false) (.cond (.tmp 70) (.seq (.region 17 F89.r17.toArray false) .ret) .skip)) F89.t18)
theorem F89.t16_eq {θ : Tag (F89.t16, Q, e, w)} : cwE P F89.t16 Q e w θ = cwE P (.seq (.seq (.region 16 F89.r16.toArray false) (.cond (.tmp 70) (.seq (.region 17 F89.r17.toArray false) .ret) .skip)) F89.t18) Q e w := rfl
def F89.t14 : Cd := (.seq (.seq (.region 14 F89.r14.toArray false) (.cond (.tmp 47) (.region 15 F89.r15.toArray false) .skip)) F89.t16)
theorem F89.t14_eq {θ : Tag (F89.t14, Q, e, w)} : cwE P F89.t14 Q e w θ = cwE P (.seq (.seq (.region 14 F89.r14.toArray false) (.cond (.tmp 47) (.region 15 F89.r15.toArray false) .skip)) F89.t16) Q e w := rfl
def F89.t12 : Cd := (.seq (.seq (.region 12 F89.r12.toArray false) (.cond (.tmp 44) (.region 13 F89.r13.toArray false) .skip)) F89.t14)
theorem F89.t12_eq {θ : Tag (F89.t12, Q, e, w)} : cwE P F89.t12 Q e w θ = cwE P (.seq (.seq (.region 12 F89.r12.toArray false) (.cond (.tmp 44) (.region 13 F89.r13.toArray false) .skip)) F89.t14) Q e w := rfl
def F89.t10 : Cd := (.seq (.seq (.region 10 F89.r10.toArray false) (.cond (.tmp 41) (.seq (.region 11 F89.r11.toArray false) .ret) .skip)) F89.t12)
theorem F89.t10_eq {θ : Tag (F89.t10, Q, e, w)} : cwE P F89.t10 Q e w θ = cwE P (.seq (.seq (.region 10 F89.r10.toArray false) (.cond (.tmp 41) (.seq (.region 11 F89.r11.toArray false) .ret) .skip)) F89.t12) Q e w := rfl
def F89.t8 : Cd := (.seq (.seq (.region 8 F89.r8.toArray false) (.cond (.tmp 24) (.region 9 F89.r9.toArray false) .skip)) F89.t10)
theorem F89.t8_eq {θ : Tag (F89.t8, Q, e, w)} : cwE P F89.t8 Q e w θ = cwE P (.seq (.seq (.region 8 F89.r8.toArray false) (.cond (.tmp 24) (.region 9 F89.r9.toArray false) .skip)) F89.t10) Q e w := rfl
def F89.t5 : Cd := (.seq (.region 5 F89.r5.toArray false) (.seq (.seq (.region 6 F89.r6.toArray false) (.cond (.tmp 21) (.region 7 F89.r7.toArray false) .skip)) F89.t8))
theorem F89.t5_eq {θ : Tag (F89.t5, Q, e, w)} : cwE P F89.t5 Q e w θ = cwE P (.seq (.region 5 F89.r5.toArray false) (.seq (.seq (.region 6 F89.r6.toArray false) (.cond (.tmp 21) (.region 7 F89.r7.toArray false) .skip)) F89.t8)) Q e w := rfl
def F89.t3 : Cd := (.seq (.seq (.region 3 F89.r3.toArray false) (.cond (.tmp 18) (.seq (.region 4 F89.r4.toArray false) .ret) .skip)) F89.t5)
theorem F89.t3_eq {θ : Tag (F89.t3, Q, e, w)} : cwE P F89.t3 Q e w θ = cwE P (.seq (.seq (.region 3 F89.r3.toArray false) (.cond (.tmp 18) (.seq (.region 4 F89.r4.toArray false) .ret) .skip)) F89.t5) Q e w := rfl
def F89.code : Cd := (.seq (.region 0 F89.r0.toArray false) (.seq (.seq (.region 1 F89.r1.toArray false) (.cond (.tmp 9) (.seq (.region 2 F89.r2.toArray false) .ret) .skip)) F89.t3))
theorem F89.calls (hn : args.size ≤ 71) (h : cwE Tryd.prog F89.code (fnP Tryd.prog #[(.tmp 4)] R) (entry args) w) : Calls Tryd.prog 89 args w R :=
  calls_of_cwE (types := Tryd.prog.types) follows Tryd.func89 F89.code rfl (by kernel_rfl) hn h

def F91.r0 : List Oper := [
  op 6 (.assign (.const (.slice none 0 0))) 63]
def F91.r1 : List Oper := [
  op 8 (.move (.tmp 0)) 63,
  op 9 (.move (.tmp 1)) 3,
  op 10 (.move (.tmp 2)) 3,
  op 11 (.move (.tmp 0)) 63,
  op 12 (.call ⟨(.builtin .len), #[(.tmp 11)], #[63]⟩) 3,
  op 13 (.slice 63 (.tmp 8) (some (.tmp 9)) (some (.tmp 10)) (some (.tmp 12))) 63]
def F91.r2 : List Oper := [
  op 14 (.move (.tmp 1)) 3,
  op 15 (.move (.tmp 2)) 3,
  op 16 (.binOp .eql 3 (.tmp 14) (.tmp 15) 3) 4]
def F91.r3 : List Oper := [
  op 17 (.move (.tmp 0)) 63,
  op 6 (.assign (.tmp 17)) 63]
def F91.r4 : List Oper := [
  op 18 (.move (.tmp 0)) 63,
  op 19 (.call ⟨(.builtin .len), #[(.tmp 18)], #[63]⟩) 3,
  op 7 (.assign (.tmp 19)) 3]
def F91.r5 : List Oper := [
  ⟨(some 20), (.move (.tmp 0)), 63, "", #[], none⟩,
  ⟨(some 21), (.move (.tmp 1)), 3, "", #[], none⟩,
  ⟨(some 22), (.slice 63 (.tmp 20) none (some (.tmp 21)) none), 63, "", #[], none⟩,
  ⟨(some 23), (.move (.tmp 0)), 63, "", #[], none⟩,
  ⟨(some 24), (.move (.tmp 2)), 3, "", #[], none⟩,
  ⟨(some 25), (.slice 63 (.tmp 23) (some (.tmp 24)) none none), 63, "", #[], none⟩,
  ⟨(some 26), (.call ⟨(.builtin .append), #[(.tmp 22), (.tmp 25)], #[63, 63]⟩), 63, "", #[⟨6, .chain⟩], none⟩,
  ⟨(some 0), (.assign (.tmp 26)), 63, "", #[], none⟩]
def F91.r6 : List Oper := [
  op 27 (.move (.tmp 0)) 63,
  op 28 (.move (.tmp 0)) 63,
  op 29 (.call ⟨(.builtin .len), #[(.tmp 28)], #[63]⟩) 3,
  op 30 (.move (.tmp 7)) 3,
  op 31 (.slice 63 (.tmp 27) (some (.tmp 29)) (some (.tmp 30)) none) 63,
  ⟨none, (.call ⟨(.builtin .clear), #[(.tmp 31)], #[63]⟩), 0, "", #[⟨0, .chain⟩], none⟩]
def F91.r7 : List Oper := [
  op 32 (.move (.tmp 0)) 63,
  op 6 (.assign (.tmp 32)) 63]
def F91.t4 : Cd := (.seq (.region 4 F91.r4.toArray false) (.seq (.region 5 F91.r5.toArray true) (.seq (.region 6 F91.r6.toArray false) (.seq (.region 7 F91.r7.toArray false) .ret))))
theorem F91.t4_eq {θ : Tag (F91.t4, Q, e, w)} : cwE P F91.t4 Q e w θ = cwE P (.seq (.region 4 F91.r4.toArray false) (.seq (.region 5 F91.r5.toArray true) (.seq (.region 6 F91.r6.toArray false) (.seq (.region 7 F91.r7.toArray false) .ret)))) Q e w := rfl
def F91.code : Cd := (.seq (.region 0 F91.r0.toArray false) (.seq (.region 1 F91.r1.toArray false) (.seq (.seq (.region 2 F91.r2.toArray false) (.cond (.tmp 16) (.seq (.region 3 F91.r3.toArray false) .ret) .skip)) F91.t4)))
theorem F91.calls (hn : args.size ≤ 33) (h : cwE Tryd.prog F91.code (fnP Tryd.prog #[(.tmp 6)] R) (entry args) w) : Calls Tryd.prog 91 args w R :=
  calls_of_cwE (types := Tryd.prog.types) follows Tryd.func91 F91.code rfl (by kernel_rfl) hn h

def F99.r0 : List Oper := [
  op 2 (.assign (.const (.bool false))) 4]
def F99.r1 : List Oper := [
  op 3 (.move (.tmp 0)) 30,
  op 4 (.move (.tmp 0)) 30,
  op 5 (.binOp .neq 30 (.tmp 3) (.tmp 4) 30) 4,
  op 2 (.assign (.tmp 5)) 4]
def F99.code : Cd := (.seq (.region 0 F99.r0.toArray false) (.seq (.region 1 F99.r1.toArray false) .ret))
theorem F99.calls (hn : args.size ≤ 6) (h : cwE Tryd.prog F99.code (fnP Tryd.prog #[(.tmp 2)] R) (entry args) w) : Calls Tryd.prog 99 args w R :=
  calls_of_cwE (types := Tryd.prog.types) follows Tryd.func99 F99.code rfl (by kernel_rfl) hn h

def F101.r0 : List Oper := [
  op 8 (.assign (.const (.bool false))) 4]
def F101.r1 : List Oper := [
  op 9 (.move (.tmp 1)) 3,
  op 10 (.move (.tmp 0)) 9,
  op 11 (.call ⟨(.builtin .len), #[(.tmp 10)], #[9]⟩) 3,
  op 12 (.binOp .lss 3 (.tmp 9) (.tmp 11) 3) 4,
  op 13 (.move (.tmp 12)) 4,
  ⟨(some 14), (.move (.tmp 0)), 9, "", #[], (some (13, true))⟩,
  ⟨(some 15), (.move (.tmp 1)), 3, "", #[], (some (13, true))⟩,
  ⟨(some 16), (.index 9 (.tmp 14) (.tmp 15)), 5, "", #[], (some (13, true))⟩,
  ⟨(some 17), (.move (.tmp 2)), 5, "", #[], (some (13, true))⟩,
  ⟨(some 18), (.binOp .geq 5 (.tmp 16) (.tmp 17) 5), 4, "", #[], (some (13, true))⟩,
  op 19 (.pick (.tmp 13) (.tmp 18) (.const (.bool false))) 4,
  op 20 (.move (.tmp 19)) 4,
  ⟨(some 21), (.move (.tmp 0)), 9, "", #[], (some (20, true))⟩,
  ⟨(some 22), (.move (.tmp 1)), 3, "", #[], (some (20, true))⟩,
  ⟨(some 23), (.index 9 (.tmp 21) (.tmp 22)), 5, "", #[], (some (20, true))⟩,
  ⟨(some 24), (.move (.tmp 3)), 5, "", #[], (some (20, true))⟩,
  ⟨(some 25), (.binOp .leq 5 (.tmp 23) (.tmp 24) 5), 4, "", #[], (some (20, true))⟩,
  op 26 (.pick (.tmp 20) (.tmp 25) (.const (.bool false))) 4,
  op 8 (.assign (.tmp 26)) 4]
def F101.code : Cd := (.seq (.region 0 F101.r0.toArray false) (.seq (.region 1 F101.r1.toArray false) .ret))
theorem F101.calls (hn : args.size ≤ 27) (h : cwE Tryd.prog F101.code (fnP Tryd.prog #[(.tmp 8)] R) (entry args) w) : Calls Tryd.prog 101 args w R :=
  calls_of_cwE (types := Tryd.prog.types) follows Tryd.func101 F101.code rfl (by kernel_rfl) hn h

attribute [go_sem] fact_aggSz_104
attribute [go_sem] fact_aggSz_121
attribute [go_sem] fact_aggSz_122
attribute [go_sem] fact_aggSz_123
attribute [go_sem] fact_aggSz_22
attribute [go_sem] fact_aggSz_24
attribute [go_sem] fact_aggSz_26
attribute [go_sem] fact_aggSz_29
attribute [go_sem] fact_aggSz_3
attribute [go_sem] fact_aggSz_30
attribute [go_sem] fact_aggSz_32
attribute [go_sem] fact_aggSz_34
attribute [go_sem] fact_aggSz_41
attribute [go_sem] fact_aggSz_5
attribute [go_sem] fact_aggSz_51
attribute [go_sem] fact_aggSz_53
attribute [go_sem] fact_aggSz_63
attribute [go_sem] fact_aggSz_69
attribute [go_sem] fact_aggSz_9
attribute [go_sem] fact_aggSz_90
attribute [go_sem] fact_aggSz_93
attribute [go_sem] fact_aggSz_94
attribute [go_sem] fact_arrEx_9
attribute [go_sem] fact_bldP_101
attribute [go_sem] fact_bldP_103
attribute [go_sem] fact_bldP_106
attribute [go_sem] fact_bldP_121
attribute [go_sem] fact_bldP_32
attribute [go_sem] fact_bldP_41
attribute [go_sem] fact_bldP_53
attribute [go_sem] fact_bldP_55
attribute [go_sem] fact_bldP_56
attribute [go_sem] fact_bldP_92
attribute [go_sem] fact_elemOf_104
attribute [go_sem] fact_elemOf_123
attribute [go_sem] fact_elemOf_23
attribute [go_sem] fact_elemOf_25
attribute [go_sem] fact_elemOf_27
attribute [go_sem] fact_elemOf_47
attribute [go_sem] fact_elemOf_51
attribute [go_sem] fact_elemOf_55
attribute [go_sem] fact_elemOf_56
attribute [go_sem] fact_elemOf_62
attribute [go_sem] fact_elemOf_63
attribute [go_sem] fact_elemOf_67
attribute [go_sem] fact_elemOf_69
attribute [go_sem] fact_elemOf_9
attribute [go_sem] fact_elemOf_90
attribute [go_sem] fact_fieldOff_101_0
attribute [go_sem] fact_fieldOff_101_1
attribute [go_sem] fact_fieldOff_101_2
attribute [go_sem] fact_fieldOff_101_3
attribute [go_sem] fact_fieldOff_101_4
attribute [go_sem] fact_fieldOff_101_5
attribute [go_sem] fact_fieldOff_103_0
attribute [go_sem] fact_fieldOff_106_2
attribute [go_sem] fact_fieldOff_121_0
attribute [go_sem] fact_fieldOff_32_0
attribute [go_sem] fact_fieldOff_32_1
attribute [go_sem] fact_fieldOff_32_2
attribute [go_sem] fact_fieldOff_32_3
attribute [go_sem] fact_fieldOff_32_8
attribute [go_sem] fact_fieldOff_41_0
attribute [go_sem] fact_fieldOff_41_1
attribute [go_sem] fact_fieldOff_41_10
attribute [go_sem] fact_fieldOff_41_11
attribute [go_sem] fact_fieldOff_41_12
attribute [go_sem] fact_fieldOff_41_2
attribute [go_sem] fact_fieldOff_41_3
attribute [go_sem] fact_fieldOff_41_4
attribute [go_sem] fact_fieldOff_41_5
attribute [go_sem] fact_fieldOff_41_6
attribute [go_sem] fact_fieldOff_41_7
attribute [go_sem] fact_fieldOff_41_8
attribute [go_sem] fact_fieldOff_41_9
attribute [go_sem] fact_fieldOff_53_0
attribute [go_sem] fact_fieldOff_53_1
attribute [go_sem] fact_fieldOff_53_2
attribute [go_sem] fact_fieldOff_53_3
attribute [go_sem] fact_fieldOff_53_4
attribute [go_sem] fact_fieldOff_53_5
attribute [go_sem] fact_fieldOff_53_6
attribute [go_sem] fact_fieldOff_53_7
attribute [go_sem] fact_fieldOff_59_0
attribute [go_sem] fact_fieldOff_59_1
attribute [go_sem] fact_fieldOff_59_2
attribute [go_sem] fact_fieldOff_59_3
attribute [go_sem] fact_fieldOff_59_4
attribute [go_sem] fact_fieldOff_92_0
attribute [go_sem] fact_fieldOff_92_1
attribute [go_sem] fact_fieldOff_92_2
attribute [go_sem] fact_fieldOff_92_3
attribute [go_sem] fact_flatE_41
attribute [go_sem] fact_fnOk_101
attribute [go_sem] fact_fnOk_11
attribute [go_sem] fact_fnOk_12
attribute [go_sem] fact_fnOk_13
attribute [go_sem] fact_fnOk_14
attribute [go_sem] fact_fnOk_15
attribute [go_sem] fact_fnOk_16
attribute [go_sem] fact_fnOk_17
attribute [go_sem] fact_fnOk_18
attribute [go_sem] fact_fnOk_19
attribute [go_sem] fact_fnOk_20
attribute [go_sem] fact_fnOk_21
attribute [go_sem] fact_fnOk_22
attribute [go_sem] fact_fnOk_23
attribute [go_sem] fact_fnOk_24
attribute [go_sem] fact_fnOk_25
attribute [go_sem] fact_fnOk_26
attribute [go_sem] fact_fnOk_27
attribute [go_sem] fact_fnOk_28
attribute [go_sem] fact_fnOk_29
attribute [go_sem] fact_fnOk_30
attribute [go_sem] fact_fnOk_31
attribute [go_sem] fact_fnOk_32
attribute [go_sem] fact_fnOk_33
attribute [go_sem] fact_fnOk_34
attribute [go_sem] fact_fnOk_35
attribute [go_sem] fact_fnOk_36
attribute [go_sem] fact_fnOk_38
attribute [go_sem] fact_fnOk_39
attribute [go_sem] fact_fnOk_40
attribute [go_sem] fact_fnOk_41
attribute [go_sem] fact_fnOk_43
attribute [go_sem] fact_fnOk_44
attribute [go_sem] fact_fnOk_45
attribute [go_sem] fact_fnOk_46
attribute [go_sem] fact_fnOk_47
attribute [go_sem] fact_fnOk_48
attribute [go_sem] fact_fnOk_49
attribute [go_sem] fact_fnOk_50
attribute [go_sem] fact_fnOk_51
attribute [go_sem] fact_fnOk_52
attribute [go_sem] fact_fnOk_54
attribute [go_sem] fact_fnOk_55
attribute [go_sem] fact_fnOk_56
attribute [go_sem] fact_fnOk_65
attribute [go_sem] fact_fnOk_66
attribute [go_sem] fact_fnOk_67
attribute [go_sem] fact_fnOk_70
attribute [go_sem] fact_fnOk_71
attribute [go_sem] fact_fnOk_72
attribute [go_sem] fact_fnOk_73
attribute [go_sem] fact_fnOk_78
attribute [go_sem] fact_fnOk_79
attribute [go_sem] fact_fnOk_81
attribute [go_sem] fact_fnOk_82
attribute [go_sem] fact_fnOk_86
attribute [go_sem] fact_fnOk_87
attribute [go_sem] fact_fnOk_88
attribute [go_sem] fact_fnOk_89
attribute [go_sem] fact_fnOk_90
attribute [go_sem] fact_fnOk_91
attribute [go_sem] fact_fnOk_99
attribute [go_sem] fact_szO_121
attribute [go_sem] fact_szO_122
attribute [go_sem] fact_szO_123
attribute [go_sem] fact_szO_29
attribute [go_sem] fact_szO_3
attribute [go_sem] fact_szO_30
attribute [go_sem] fact_szO_41
attribute [go_sem] fact_szO_5
attribute [go_sem] fact_szO_53
attribute [go_sem] fact_szO_55
attribute [go_sem] fact_szO_56
attribute [go_sem] fact_szO_63
attribute [go_sem] fact_szO_69
attribute [go_sem] fact_szO_9
attribute [go_sem] fact_szO_90
attribute [go_sem] fact_zeroV_121
attribute [go_sem] fact_zeroV_123
attribute [go_sem] fact_zeroV_41
attribute [go_sem] fact_zeroV_53
attribute [go_sem] fact_zeroV_55
attribute [go_sem] fact_zeroV_56
attribute [go_sem] fact_zeroV_69
attribute [go_sem] Tryd.underlying3
attribute [go_sem] Tryd.underlying4
attribute [go_sem] Tryd.underlying5
attribute [go_sem] Tryd.underlying9
attribute [go_sem] Tryd.underlying22
attribute [go_sem] Tryd.underlying24
attribute [go_sem] Tryd.underlying27
attribute [go_sem] Tryd.underlying30
attribute [go_sem] Tryd.underlying34
attribute [go_sem] Tryd.underlying41
attribute [go_sem] Tryd.underlying47
attribute [go_sem] Tryd.underlying51
attribute [go_sem] Tryd.underlying62
attribute [go_sem] Tryd.underlying63
attribute [go_sem] Tryd.underlying67
attribute [go_sem] Tryd.underlying69
attribute [go_sem] Tryd.underlying83
attribute [go_sem] Tryd.underlying90
attribute [go_sem] Tryd.underlying93
attribute [go_sem] Tryd.underlying104
attribute [go_sem] Tryd.underlying115
attribute [go_sem] Tryd.underlying122
attribute [go_sem] Tryd.underlying123
attribute [go_sem] Tryd.underlying148
attribute [go_sem] F3.r0
attribute [go_sem] F3.r1
attribute [go_sem] F3.r2
attribute [go_sem] F3.r3
attribute [go_sem] F3.r4
attribute [go_sem] F3.r5
attribute [go_sem] F3.r7
attribute [go_sem] F3.r8
attribute [go_sem] F3.r6
attribute [go_sem] F3.r9
attribute [go_sem] F3.r10
attribute [go_sem] F3.r12
attribute [go_sem] F3.r13
attribute [go_sem] F3.r11
attribute [go_sem] F3.r14
attribute [go_sem] F3.r15
attribute [go_sem] F4.r0
attribute [go_sem] F4.r1
attribute [go_sem] F4.r2
attribute [go_sem] F4.r3
attribute [go_sem] F4.r4
attribute [go_sem] F4.r5
attribute [go_sem] F4.r6
attribute [go_sem] F4.r7
attribute [go_sem] F4.r8
attribute [go_sem] F4.r9
attribute [go_sem] F4.r10
attribute [go_sem] F4.r11
attribute [go_sem] F4.r12
attribute [go_sem] F4.r13
attribute [go_sem] F4.r14
attribute [go_sem] F5.r0
attribute [go_sem] F5.r1
attribute [go_sem] F5.r2
attribute [go_sem] F5.r3
attribute [go_sem] F5.r4
attribute [go_sem] F5.r5
attribute [go_sem] F5.r6
attribute [go_sem] F5.r7
attribute [go_sem] F5.r8
attribute [go_sem] F5.r9
attribute [go_sem] F5.r10
attribute [go_sem] F5.r11
attribute [go_sem] F5.r12
attribute [go_sem] F5.r13
attribute [go_sem] F5.r14
attribute [go_sem] F5.r16
attribute [go_sem] F5.r17
attribute [go_sem] F5.r18
attribute [go_sem] F5.r19
attribute [go_sem] F5.r20
attribute [go_sem] F5.r21
attribute [go_sem] F5.r22
attribute [go_sem] F5.r23
attribute [go_sem] F5.r24
attribute [go_sem] F5.r25
attribute [go_sem] F5.r26
attribute [go_sem] F5.r28
attribute [go_sem] F5.r29
attribute [go_sem] F5.r27
attribute [go_sem] F5.r30
attribute [go_sem] F5.r31
attribute [go_sem] F5.r32
attribute [go_sem] F5.r33
attribute [go_sem] F5.r34
attribute [go_sem] F5.r35
attribute [go_sem] F5.r36
attribute [go_sem] F5.r38
attribute [go_sem] F5.r37
attribute [go_sem] F5.r39
attribute [go_sem] F5.r40
attribute [go_sem] F5.r41
attribute [go_sem] F5.r42
attribute [go_sem] F5.r43
attribute [go_sem] F5.r44
attribute [go_sem] F5.r45
attribute [go_sem] F5.r46
attribute [go_sem] F5.r47
attribute [go_sem] F5.r48
attribute [go_sem] F5.r49
attribute [go_sem] F5.r50
attribute [go_sem] F5.r15
attribute [go_sem] F5.r51
attribute [go_sem] F5.r52
attribute [go_sem] F5.r53
attribute [go_sem] F6.r0
attribute [go_sem] F6.r1
attribute [go_sem] F6.r2
attribute [go_sem] F6.r3
attribute [go_sem] F6.r4
attribute [go_sem] F6.r5
attribute [go_sem] F6.r6
attribute [go_sem] F6.r7
attribute [go_sem] F6.r8
attribute [go_sem] F6.r9
attribute [go_sem] F6.r10
attribute [go_sem] F6.r12
attribute [go_sem] F6.r13
attribute [go_sem] F6.r14
attribute [go_sem] F6.r15
attribute [go_sem] F6.r16
attribute [go_sem] F6.r17
attribute [go_sem] F6.r18
attribute [go_sem] F6.r19
attribute [go_sem] F6.r20
attribute [go_sem] F6.r21
attribute [go_sem] F6.r22
attribute [go_sem] F6.r23
attribute [go_sem] F6.r24
attribute [go_sem] F6.r25
attribute [go_sem] F6.r26
attribute [go_sem] F6.r27
attribute [go_sem] F6.r11
attribute [go_sem] F6.r28
attribute [go_sem] F6.r29
attribute [go_sem] F6.r30
attribute [go_sem] F6.r32
attribute [go_sem] F6.r33
attribute [go_sem] F6.r34
attribute [go_sem] F6.r35
attribute [go_sem] F6.r31
attribute [go_sem] F6.r36
attribute [go_sem] F6.r37
attribute [go_sem] F7.r0
attribute [go_sem] F7.r1
attribute [go_sem] F7.r2
attribute [go_sem] F7.r3
attribute [go_sem] F7.r4
attribute [go_sem] F7.r5
attribute [go_sem] F7.r6
attribute [go_sem] F7.r7
attribute [go_sem] F7.r8
attribute [go_sem] F7.r9
attribute [go_sem] F7.r11
attribute [go_sem] F7.r10
attribute [go_sem] F7.r12
attribute [go_sem] F7.r13
attribute [go_sem] F7.r14
attribute [go_sem] F7.r15
attribute [go_sem] F7.r16
attribute [go_sem] F7.r17
attribute [go_sem] F8.r0
attribute [go_sem] F8.r1
attribute [go_sem] F8.r2
attribute [go_sem] F8.r3
attribute [go_sem] F8.r4
attribute [go_sem] F8.r5
attribute [go_sem] F8.r6
attribute [go_sem] F8.r7
attribute [go_sem] F8.r8
attribute [go_sem] F8.r9
attribute [go_sem] F8.r10
attribute [go_sem] F8.r11
attribute [go_sem] F8.r12
attribute [go_sem] F8.r13
attribute [go_sem] F8.r14
attribute [go_sem] F8.r15
attribute [go_sem] F8.r16
attribute [go_sem] F8.r17
attribute [go_sem] F8.r18
attribute [go_sem] F8.r19
attribute [go_sem] F8.r20
attribute [go_sem] F8.r21
attribute [go_sem] F8.r22
attribute [go_sem] F8.r24
attribute [go_sem] F8.r25
attribute [go_sem] F8.r26
attribute [go_sem] F8.r27
attribute [go_sem] F8.r28
attribute [go_sem] F8.r29
attribute [go_sem] F8.r30
attribute [go_sem] F8.r31
attribute [go_sem] F8.r32
attribute [go_sem] F8.r33
attribute [go_sem] F8.r34
attribute [go_sem] F8.r35
attribute [go_sem] F8.r36
attribute [go_sem] F8.r37
attribute [go_sem] F8.r23
attribute [go_sem] F8.r38
attribute [go_sem] F8.r39
attribute [go_sem] F8.r40
attribute [go_sem] F8.r41
attribute [go_sem] F8.r42
attribute [go_sem] F9.r0
attribute [go_sem] F9.r1
attribute [go_sem] F9.r2
attribute [go_sem] F9.r3
attribute [go_sem] F9.r4
attribute [go_sem] F9.r5
attribute [go_sem] F9.r6
attribute [go_sem] F9.r7
attribute [go_sem] F9.r8
attribute [go_sem] F9.r9
attribute [go_sem] F9.r10
attribute [go_sem] F9.r11
attribute [go_sem] F9.r12
attribute [go_sem] F9.r13
attribute [go_sem] F9.r14
attribute [go_sem] F9.r15
attribute [go_sem] F9.r16
attribute [go_sem] F9.r17
attribute [go_sem] F9.r18
attribute [go_sem] F9.r19
attribute [go_sem] F9.r20
attribute [go_sem] F9.r21
attribute [go_sem] F9.r22
attribute [go_sem] F9.r23
attribute [go_sem] F9.r25
attribute [go_sem] F9.r26
attribute [go_sem] F9.r24
attribute [go_sem] F9.r27
attribute [go_sem] F9.r28
attribute [go_sem] F10.r0
attribute [go_sem] F10.r1
attribute [go_sem] F10.r2
attribute [go_sem] F10.r3
attribute [go_sem] F10.r4
attribute [go_sem] F10.r5
attribute [go_sem] F10.r6
attribute [go_sem] F10.r7
attribute [go_sem] F10.r8
attribute [go_sem] F10.r9
attribute [go_sem] F10.r10
attribute [go_sem] F10.r11
attribute [go_sem] F10.r12
attribute [go_sem] F10.r13
attribute [go_sem] F10.r14
attribute [go_sem] F10.r15
attribute [go_sem] F10.r17
attribute [go_sem] F10.r18
attribute [go_sem] F10.r19
attribute [go_sem] F10.r16
attribute [go_sem] F10.r20
attribute [go_sem] F10.r21
attribute [go_sem] F10.r22
attribute [go_sem] F10.r23
attribute [go_sem] F10.r24
attribute [go_sem] F10.r25
attribute [go_sem] F10.r27
attribute [go_sem] F10.r28
attribute [go_sem] F10.r26
attribute [go_sem] F10.r29
attribute [go_sem] F10.r30
attribute [go_sem] F10.r32
attribute [go_sem] F10.r33
attribute [go_sem] F10.r34
attribute [go_sem] F10.r31
attribute [go_sem] F10.r35
attribute [go_sem] F10.r36
attribute [go_sem] F10.r37
attribute [go_sem] F10.r38
attribute [go_sem] F10.r39
attribute [go_sem] F10.r40
attribute [go_sem] F10.r41
attribute [go_sem] F10.r43
attribute [go_sem] F10.r44
attribute [go_sem] F10.r42
attribute [go_sem] F10.r45
attribute [go_sem] F11.r0
attribute [go_sem] F11.r1
attribute [go_sem] F11.r2
attribute [go_sem] F11.r3
attribute [go_sem] F11.r4
attribute [go_sem] F11.r5
attribute [go_sem] F11.r6
attribute [go_sem] F11.r7
attribute [go_sem] F11.r8
attribute [go_sem] F11.r9
attribute [go_sem] F11.r10
attribute [go_sem] F11.r11
attribute [go_sem] F11.r12
attribute [go_sem] F11.r13
attribute [go_sem] F11.r14
attribute [go_sem] F11.r15
attribute [go_sem] F11.r16
attribute [go_sem] F12.r0
attribute [go_sem] F12.r1
attribute [go_sem] F13.r0
attribute [go_sem] F13.r1
attribute [go_sem] F13.r2
attribute [go_sem] F13.r3
attribute [go_sem] F13.r4
attribute [go_sem] F13.r5
attribute [go_sem] F13.r6
attribute [go_sem] F13.r7
attribute [go_sem] F14.r0
attribute [go_sem] F14.r1
attribute [go_sem] F14.r2
attribute [go_sem] F14.r3
attribute [go_sem] F14.r4
attribute [go_sem] F14.r5
attribute [go_sem] F14.r6
attribute [go_sem] F15.r0
attribute [go_sem] F15.r1
attribute [go_sem] F15.r2
attribute [go_sem] F15.r3
attribute [go_sem] F16.r0
attribute [go_sem] F16.r1
attribute [go_sem] F16.r2
attribute [go_sem] F16.r3
attribute [go_sem] F16.r4
attribute [go_sem] F17.r0
attribute [go_sem] F17.r1
attribute [go_sem] F17.r2
attribute [go_sem] F17.r3
attribute [go_sem] F18.r0
attribute [go_sem] F18.r1
attribute [go_sem] F18.r2
attribute [go_sem] F18.r3
attribute [go_sem] F19.r0
attribute [go_sem] F19.r1
attribute [go_sem] F19.r2
attribute [go_sem] F19.r3
attribute [go_sem] F19.r4
attribute [go_sem] F20.r0
attribute [go_sem] F20.r1
attribute [go_sem] F20.r3
attribute [go_sem] F20.r4
attribute [go_sem] F20.r5
attribute [go_sem] F20.r6
attribute [go_sem] F20.r7
attribute [go_sem] F20.r8
attribute [go_sem] F20.r9
attribute [go_sem] F20.r10
attribute [go_sem] F20.r2
attribute [go_sem] F20.r11
attribute [go_sem] F20.r12
attribute [go_sem] F20.r13
attribute [go_sem] F20.r14
attribute [go_sem] F20.r15
attribute [go_sem] F20.r16
attribute [go_sem] F20.r17
attribute [go_sem] F20.r18
attribute [go_sem] F20.r19
attribute [go_sem] F20.r20
attribute [go_sem] F20.r21
attribute [go_sem] F20.r22
attribute [go_sem] F20.r23
attribute [go_sem] F20.r24
attribute [go_sem] F20.r25
attribute [go_sem] F20.r26
attribute [go_sem] F20.r27
attribute [go_sem] F20.r28
attribute [go_sem] F20.r29
attribute [go_sem] F20.r30
attribute [go_sem] F21.r0
attribute [go_sem] F21.r1
attribute [go_sem] F22.r0
attribute [go_sem] F22.r1
attribute [go_sem] F22.r2
attribute [go_sem] F22.r3
attribute [go_sem] F23.r0
attribute [go_sem] F23.r1
attribute [go_sem] F23.r2
attribute [go_sem] F23.r3
attribute [go_sem] F23.r4
attribute [go_sem] F23.r5
attribute [go_sem] F23.r6
attribute [go_sem] F23.r7
attribute [go_sem] F23.r8
attribute [go_sem] F24.r0
attribute [go_sem] F24.r1
attribute [go_sem] F24.r2
attribute [go_sem] F24.r3
attribute [go_sem] F24.r4
attribute [go_sem] F24.r5
attribute [go_sem] F24.r6
attribute [go_sem] F25.r0
attribute [go_sem] F25.r1
attribute [go_sem] F25.r2
attribute [go_sem] F25.r4
attribute [go_sem] F25.r3
attribute [go_sem] F25.r5
attribute [go_sem] F26.r0
attribute [go_sem] F26.r1
attribute [go_sem] F26.r2
attribute [go_sem] F26.r3
attribute [go_sem] F26.r4
attribute [go_sem] F26.r5
attribute [go_sem] F26.r6
attribute [go_sem] F26.r7
attribute [go_sem] F26.r8
attribute [go_sem] F27.r0
attribute [go_sem] F27.r1
attribute [go_sem] F27.r2
attribute [go_sem] F27.r3
attribute [go_sem] F27.r4
attribute [go_sem] F27.r5
attribute [go_sem] F27.r7
attribute [go_sem] F27.r8
attribute [go_sem] F27.r9
attribute [go_sem] F27.r10
attribute [go_sem] F27.r11
attribute [go_sem] F27.r12
attribute [go_sem] F27.r14
attribute [go_sem] F27.r15
attribute [go_sem] F27.r13
attribute [go_sem] F27.r6
attribute [go_sem] F27.r16
attribute [go_sem] F27.r17
attribute [go_sem] F27.r19
attribute [go_sem] F27.r20
attribute [go_sem] F27.r18
attribute [go_sem] F27.r21
attribute [go_sem] F28.r0
attribute [go_sem] F28.r1
attribute [go_sem] F28.r2
attribute [go_sem] F28.r4
attribute [go_sem] F28.r5
attribute [go_sem] F28.r6
attribute [go_sem] F28.r7
attribute [go_sem] F28.r8
attribute [go_sem] F28.r9
attribute [go_sem] F28.r10
attribute [go_sem] F28.r11
attribute [go_sem] F28.r13
attribute [go_sem] F28.r14
attribute [go_sem] F28.r12
attribute [go_sem] F28.r15
attribute [go_sem] F28.r16
attribute [go_sem] F28.r17
attribute [go_sem] F28.r3
attribute [go_sem] F28.r18
attribute [go_sem] F29.r0
attribute [go_sem] F29.r1
attribute [go_sem] F30.r0
attribute [go_sem] F30.r1
attribute [go_sem] F30.r2
attribute [go_sem] F30.r3
attribute [go_sem] F30.r4
attribute [go_sem] F30.r5
attribute [go_sem] F30.r7
attribute [go_sem] F30.r6
attribute [go_sem] F30.r8
attribute [go_sem] F31.r0
attribute [go_sem] F31.r1
attribute [go_sem] F31.r2
attribute [go_sem] F31.r3
attribute [go_sem] F31.r4
attribute [go_sem] F31.r5
attribute [go_sem] F31.r6
attribute [go_sem] F31.r7
attribute [go_sem] F31.r8
attribute [go_sem] F31.r9
attribute [go_sem] F31.r10
attribute [go_sem] F31.r11
attribute [go_sem] F31.r12
attribute [go_sem] F31.r13
attribute [go_sem] F31.r14
attribute [go_sem] F31.r15
attribute [go_sem] F31.r16
attribute [go_sem] F31.r17
attribute [go_sem] F31.r18
attribute [go_sem] F31.r19
attribute [go_sem] F31.r20
attribute [go_sem] F31.r21
attribute [go_sem] F32.r0
attribute [go_sem] F32.r1
attribute [go_sem] F32.r2
attribute [go_sem] F32.r4
attribute [go_sem] F32.r5
attribute [go_sem] F32.r6
attribute [go_sem] F32.r7
attribute [go_sem] F32.r8
attribute [go_sem] F32.r3
attribute [go_sem] F32.r9
attribute [go_sem] F33.r0
attribute [go_sem] F33.r1
attribute [go_sem] F33.r2
attribute [go_sem] F34.r0
attribute [go_sem] F34.r1
attribute [go_sem] F35.r0
attribute [go_sem] F35.r1
attribute [go_sem] F35.r2
attribute [go_sem] F38.r0
attribute [go_sem] F38.r1
attribute [go_sem] F38.r2
attribute [go_sem] F38.r3
attribute [go_sem] F38.r4
attribute [go_sem] F38.r5
attribute [go_sem] F38.r6
attribute [go_sem] F38.r7
attribute [go_sem] F38.r8
attribute [go_sem] F39.r0
attribute [go_sem] F39.r1
attribute [go_sem] F39.r2
attribute [go_sem] F39.r4
attribute [go_sem] F39.r5
attribute [go_sem] F39.r3
attribute [go_sem] F39.r6
attribute [go_sem] F40.r0
attribute [go_sem] F40.r1
attribute [go_sem] F40.r2
attribute [go_sem] F40.r3
attribute [go_sem] F40.r4
attribute [go_sem] F40.r5
attribute [go_sem] F40.r6
attribute [go_sem] F40.r7
attribute [go_sem] F40.r8
attribute [go_sem] F40.r9
attribute [go_sem] F40.r10
attribute [go_sem] F40.r11
attribute [go_sem] F43.r0
attribute [go_sem] F43.r1
attribute [go_sem] F43.r2
attribute [go_sem] F43.r3
attribute [go_sem] F43.r4
attribute [go_sem] F43.r5
attribute [go_sem] F43.r6
attribute [go_sem] F43.r7
attribute [go_sem] F43.r8
attribute [go_sem] F43.r9
attribute [go_sem] F43.r10
attribute [go_sem] F43.r11
attribute [go_sem] F43.r12
attribute [go_sem] F43.r13
attribute [go_sem] F43.r14
attribute [go_sem] F43.r15
attribute [go_sem] F43.r16
attribute [go_sem] F43.r17
attribute [go_sem] F43.r18
attribute [go_sem] F43.r19
attribute [go_sem] F43.r20
attribute [go_sem] F43.r21
attribute [go_sem] F43.r22
attribute [go_sem] F43.r23
attribute [go_sem] F44.r0
attribute [go_sem] F44.r1
attribute [go_sem] F44.r2
attribute [go_sem] F44.r3
attribute [go_sem] F44.r4
attribute [go_sem] F44.r5
attribute [go_sem] F44.r6
attribute [go_sem] F44.r7
attribute [go_sem] F44.r8
attribute [go_sem] F44.r9
attribute [go_sem] F44.r10
attribute [go_sem] F44.r11
attribute [go_sem] F44.r12
attribute [go_sem] F44.r13
attribute [go_sem] F44.r14
attribute [go_sem] F44.r15
attribute [go_sem] F45.r0
attribute [go_sem] F45.r1
attribute [go_sem] F45.r2
attribute [go_sem] F45.r3
attribute [go_sem] F45.r4
attribute [go_sem] F45.r5
attribute [go_sem] F45.r6
attribute [go_sem] F45.r7
attribute [go_sem] F45.r8
attribute [go_sem] F45.r9
attribute [go_sem] F45.r10
attribute [go_sem] F45.r11
attribute [go_sem] F45.r12
attribute [go_sem] F45.r13
attribute [go_sem] F45.r14
attribute [go_sem] F46.r0
attribute [go_sem] F46.r1
attribute [go_sem] F46.r2
attribute [go_sem] F46.r3
attribute [go_sem] F46.r4
attribute [go_sem] F47.r0
attribute [go_sem] F47.r1
attribute [go_sem] F47.r2
attribute [go_sem] F47.r3
attribute [go_sem] F47.r4
attribute [go_sem] F47.r5
attribute [go_sem] F47.r6
attribute [go_sem] F47.r7
attribute [go_sem] F47.r8
attribute [go_sem] F47.r9
attribute [go_sem] F47.r10
attribute [go_sem] F47.r11
attribute [go_sem] F47.r12
attribute [go_sem] F48.r0
attribute [go_sem] F48.r1
attribute [go_sem] F48.r2
attribute [go_sem] F48.r3
attribute [go_sem] F48.r4
attribute [go_sem] F48.r5
attribute [go_sem] F48.r6
attribute [go_sem] F49.r0
attribute [go_sem] F49.r1
attribute [go_sem] F50.r0
attribute [go_sem] F50.r1
attribute [go_sem] F50.r2
attribute [go_sem] F50.r4
attribute [go_sem] F50.r5
attribute [go_sem] F50.r3
attribute [go_sem] F50.r6
attribute [go_sem] F51.r0
attribute [go_sem] F51.r1
attribute [go_sem] F51.r2
attribute [go_sem] F51.r3
attribute [go_sem] F51.r4
attribute [go_sem] F54.r0
attribute [go_sem] F54.r1
attribute [go_sem] F54.r2
attribute [go_sem] F54.r3
attribute [go_sem] F55.r0
attribute [go_sem] F55.r1
attribute [go_sem] F56.r0
attribute [go_sem] F56.r1
attribute [go_sem] F65.r0
attribute [go_sem] F65.r1
attribute [go_sem] F65.r2
attribute [go_sem] F65.r3
attribute [go_sem] F65.r4
attribute [go_sem] F65.r5
attribute [go_sem] F65.r6
attribute [go_sem] F65.r7
attribute [go_sem] F65.r8
attribute [go_sem] F65.r9
attribute [go_sem] F65.r10
attribute [go_sem] F65.r11
attribute [go_sem] F65.r12
attribute [go_sem] F65.r13
attribute [go_sem] F65.r14
attribute [go_sem] F65.r15
attribute [go_sem] F65.r16
attribute [go_sem] F65.r17
attribute [go_sem] F65.r18
attribute [go_sem] F65.r19
attribute [go_sem] F66.r0
attribute [go_sem] F66.r1
attribute [go_sem] F66.r2
attribute [go_sem] F66.r3
attribute [go_sem] F66.r4
attribute [go_sem] F66.r5
attribute [go_sem] F66.r6
attribute [go_sem] F66.r7
attribute [go_sem] F66.r8
attribute [go_sem] F66.r9
attribute [go_sem] F66.r10
attribute [go_sem] F66.r11
attribute [go_sem] F67.r0
attribute [go_sem] F67.r1
attribute [go_sem] F67.r2
attribute [go_sem] F67.r3
attribute [go_sem] F67.r4
attribute [go_sem] F67.r5
attribute [go_sem] F67.r6
attribute [go_sem] F67.r7
attribute [go_sem] F67.r8
attribute [go_sem] F67.r9
attribute [go_sem] F67.r10
attribute [go_sem] F67.r11
attribute [go_sem] F67.r12
attribute [go_sem] F67.r13
attribute [go_sem] F70.r0
attribute [go_sem] F70.r1
attribute [go_sem] F71.r0
attribute [go_sem] F71.r1
attribute [go_sem] F71.r2
attribute [go_sem] F71.r3
attribute [go_sem] F71.r4
attribute [go_sem] F71.r5
attribute [go_sem] F71.r6
attribute [go_sem] F71.r7
attribute [go_sem] F71.r8
attribute [go_sem] F72.r0
attribute [go_sem] F72.r1
attribute [go_sem] F72.r3
attribute [go_sem] F72.r4
attribute [go_sem] F72.r2
attribute [go_sem] F73.r0
attribute [go_sem] F73.r1
attribute [go_sem] F73.r2
attribute [go_sem] F73.r3
attribute [go_sem] F73.r4
attribute [go_sem] F73.r5
attribute [go_sem] F73.r6
attribute [go_sem] F78.r0
attribute [go_sem] F78.r1
attribute [go_sem] F78.r2
attribute [go_sem] F78.r3
attribute [go_sem] F78.r4
attribute [go_sem] F78.r5
attribute [go_sem] F78.r6
attribute [go_sem] F78.r7
attribute [go_sem] F78.r8
attribute [go_sem] F78.r9
attribute [go_sem] F78.r10
attribute [go_sem] F79.r0
attribute [go_sem] F79.r1
attribute [go_sem] F79.r2
attribute [go_sem] F79.r3
attribute [go_sem] F79.r4
attribute [go_sem] F79.r5
attribute [go_sem] F79.r6
attribute [go_sem] F79.r7
attribute [go_sem] F81.r0
attribute [go_sem] F81.r1
attribute [go_sem] F81.r2
attribute [go_sem] F81.r3
attribute [go_sem] F81.r4
attribute [go_sem] F81.r5
attribute [go_sem] F81.r6
attribute [go_sem] F81.r7
attribute [go_sem] F81.r8
attribute [go_sem] F81.r9
attribute [go_sem] F82.r0
attribute [go_sem] F82.r1
attribute [go_sem] F82.r2
attribute [go_sem] F82.r3
attribute [go_sem] F82.r4
attribute [go_sem] F86.r0
attribute [go_sem] F86.r1
attribute [go_sem] F87.r0
attribute [go_sem] F87.r1
attribute [go_sem] F89.r0
attribute [go_sem] F89.r1
attribute [go_sem] F89.r2
attribute [go_sem] F89.r3
attribute [go_sem] F89.r4
attribute [go_sem] F89.r5
attribute [go_sem] F89.r6
attribute [go_sem] F89.r7
attribute [go_sem] F89.r8
attribute [go_sem] F89.r9
attribute [go_sem] F89.r10
attribute [go_sem] F89.r11
attribute [go_sem] F89.r12
attribute [go_sem] F89.r13
attribute [go_sem] F89.r14
attribute [go_sem] F89.r15
attribute [go_sem] F89.r16
attribute [go_sem] F89.r17
attribute [go_sem] F89.r18
attribute [go_sem] F91.r0
attribute [go_sem] F91.r1
attribute [go_sem] F91.r2
attribute [go_sem] F91.r3
attribute [go_sem] F91.r4
attribute [go_sem] F91.r5
attribute [go_sem] F91.r6
attribute [go_sem] F91.r7
attribute [go_sem] F99.r0
attribute [go_sem] F99.r1
attribute [go_sem] F101.r0
attribute [go_sem] F101.r1

end Go.Proofs.YtijnmokpihhhcaaDoor

namespace Go.Proofs.YtijnmokpihhhcaaDoor
open Go
set_option linter.unusedVariables false
set_option linter.unusedSimpArgs false
set_option maxRecDepth 100000

/-! ### The tables -/

def Tabs : HP := fun h =>
  (∃ cur T fr, h 0 = some (.cells cur T fr) ∧ ∀ c, c < 256 → cur[c]? = some (.int .u8 (Lib.firstT c))) ∧
  (∃ cur T fr, h 1 = some (.cells cur T fr) ∧ ∀ i, i < 16 → cur[2 * i]? = some (.int .u8 (Lib.accLo i)) ∧ cur[2 * i + 1]? = some (.int .u8 (Lib.accHi i))) ∧
  (∃ cur T fr m, h 2 = some (.cells cur T fr) ∧ cur[0]? = some (.int .i64 m))

theorem cell_of {w : World} {b : Nat} {cur : Array Value} {T : TypeId} {fr : Nat × Nat} (h : heapOf w b = some (.cells cur T fr)) (i : Nat) : w.cell? ⟨b, i, none⟩ = cur[i]? := by
  have : w.heap[b]? = some (.cells cur T fr) := h
  simp [World.cell?, this]

section
variable {w0 w : World} {A : HP}
theorem St.tabs (h : St w0 A w) [i : Gives A Tabs] : Lib.Utf8Tabs 0 1 w := by
  obtain ⟨x, l, ⟨c1, T1, f1, h1, k1⟩, ⟨c2, T2, f2, h2, k2⟩, _⟩ := (h.ent i.ent).sat
  exact ⟨fun c hc => by rw [cell_of (l _ _ h1), k1 c hc], fun j hj => by rw [cell_of (l _ _ h2), cell_of (l _ _ h2)]; exact k2 j hj⟩
theorem St.maxLenT (h : St w0 A w) [i : Gives A Tabs] : ∃ m, w.cell? ⟨2, 0, none⟩ = some (.int .i64 m) := by
  obtain ⟨x, l, _, _, ⟨c0, T0, f0, m, h0, k0⟩⟩ := (h.ent i.ent).sat
  exact ⟨m, by rw [cell_of (l _ _ h0), k0]⟩
end

section
variable {w0 w : World} {A : HP}
theorem contains_lib (h : St w0 A w) {l : List UInt8} :
    Calls Tryd.prog 90 #[.string (strOf l), .string (strOf [47])] w fun e w' => St w0 A w' ∧ e = .returned (.bool (decide ((47 : UInt8) ∈ l))) := by
  refine (Any.strings_Contains_one layContains (strOf l) 47 w).mono ?_
  rintro e w' ⟨rfl, rfl⟩
  refine ⟨h, ?_⟩
  rw [strOf_data]
  have : ∀ l : List UInt8, (0 ≤ Lib.indexByte l 47) ↔ (47 : UInt8) ∈ l := fun l => by
    induction l with
    | nil => simp [Lib.indexByte]
    | cons b l ih =>
      have hg := Lib.indexByte_ge l 47
      simp only [Lib.indexByte, List.mem_cons]
      by_cases hb : b = 47
      · subst hb; simp
      · have hb' : (b == 47) = false := by simpa using hb
        have hb2 : ¬ (47 : UInt8) = b := fun e => hb e.symm
        simp only [hb', hb2, false_or, ← ih, Bool.false_eq_true, if_false]
        split
        · rename_i hx; simp only [beq_iff_eq] at hx; omega
        · rename_i hx; simp only [beq_iff_eq] at hx; omega
  simp only [this]

theorem decode_lib (h : St w0 A w) [i : Gives A Tabs] {l : List UInt8} :
    Calls Tryd.prog 88 #[.string (strOf l)] w fun e w' => St w0 A w' ∧ e = .returned (.tuple #[.int .i32 (if l = [] then 65533 else (decL l).1 : Nat), .int .i64 (if l = [] then 0 else (decL l).2 : Nat)]) := by
  refine (Any.utf8_DecodeRuneInString layDecode (strOf l) w h.tabs).mono ?_
  rintro e w' ⟨rfl, hb⟩
  refine ⟨h.of_below hb, ?_⟩
  have : Lib.decodeGo (strOf l) = if l = [] then (65533, 0) else decL l := by
    unfold Lib.decodeGo
    rw [strOf_size, decode_strOf]
    by_cases e : l = []
    · simp [e]
    · have : l.length ≠ 0 := fun h => e (List.eq_nil_of_length_eq_zero h)
      simp [e, this]
  rw [this]
  split <;> rfl
end

/-! ### Is it a text? -/

/-- No character of it is NUL, or none. -/
def good (l : List UInt8) : Bool := (chs l).all fun x => !(x.1 == 0) && !(x.1 == 65533 && x.2 == 1)
theorem good_nil : good [] = true := rfl
theorem good_cons {l : List UInt8} (h : l ≠ []) : good l = ((!((decL l).1 == 0) && !((decL l).1 == 65533 && (decL l).2 == 1)) && good (l.drop (decL l).2)) := by
  unfold good
  rw [chs_cons h, List.all_cons]

section
attribute [local go_sem] F78.t6_eq F78.t3_eq F78.t10_eq
theorem bad_any {w0 w : World} {A : HP} (h : St w0 A w) [Gives A Tabs] {l : List UInt8} (hl : l.length ≤ 9223372036854775807) :
    Calls Tryd.prog 78 #[.string (strOf l)] w fun e w' => St w0 A w' ∧ ∃ k : Int, e = .returned (.int .i64 k) ∧ decide (k < 0) = good l := by
  refine F78.calls (by simp) ?_
  unfold F78.code
  simp -dsimp -implicitDefEqProofs (disch := omega) only [go_sem, reqD_of, dec_t, dec_f, wrap_i64, wrap_u32, wrap_u64, wrap_u8]
  refine h.rangeS (by kernel_rfl) fun r w1 h1 => ?_
  simp -dsimp -implicitDefEqProofs (disch := omega) only [go_sem, reqD_of, dec_t, dec_f, wrap_i64, wrap_u32, wrap_u64, wrap_u8]
  refine loop_intro (fun e w' => e.ds = [] ∧ e.ρ 0 = .string (strOf l) ∧ e.ρ 8 = .pointer (some ⟨r, 0, none⟩) ∧ ∃ pos : Nat, pos ≤ l.length ∧ good l = good (l.drop pos) ∧ St w0 (Blk r (.stringIter (strOf l) pos) * A) w')
    (fun e w' => match w'.heap[r]? with | some (.stringIter _ p) => l.length - p | _ => 0) ?_ ?_
  · exact ⟨rfl, by simp -dsimp -implicitDefEqProofs only [go_sem], by simp -dsimp -implicitDefEqProofs only [go_sem], 0, by omega, by simp, h1⟩
  · clear h1 h
    rintro e w2 ⟨hd, e0, e8, pos, hpos, hg, h2⟩
    simp -dsimp -implicitDefEqProofs (disch := omega) only [go_sem, reqD_of, dec_t, dec_f, wrap_i64, wrap_u32, wrap_u64, wrap_u8, hd, e0, e8]
    refine h2.nextS (fun hn => ?_) fun hm w3 h3 => ?_
    · have : l.drop pos = [] := List.drop_of_length_le (by omega)
      rw [this] at hg
      simp -dsimp -implicitDefEqProofs (disch := omega) only [go_sem, reqD_of, dec_t, dec_f, wrap_i64, wrap_u32, wrap_u64, wrap_u8, hd, e0, e8]
      exact ⟨h2.right, _, rfl, by rw [hg]; rfl⟩
    · have hne : l.drop pos ≠ [] := fun e => by have := congrArg List.length e; simp at this; omega
      have hw := decL_width _ hne
      have hle := decL_le (l.drop pos)
      have hdl : (l.drop pos).length = l.length - pos := by simp
      rw [good_cons hne, List.drop_drop] at hg
      obtain ⟨c, hc⟩ : ∃ c, c = (decL (l.drop pos)).1 := ⟨_, rfl⟩
      obtain ⟨n, hn⟩ : ∃ n, n = (decL (l.drop pos)).2 := ⟨_, rfl⟩
      rw [← hc] at hle hg
      rw [← hn] at hg hw h3
      rw [← hc]
      have m2 := h2.blk
      have m3 := h3.blk
      by_cases c0 : (c : Int) = 0
      · have : c = 0 := by omega
        simp -dsimp -implicitDefEqProofs (disch := omega) only [go_sem, reqD_of, dec_t, dec_f, wrap_i64, wrap_u32, wrap_u64, wrap_u8, hd, e0, e8, c0]
        exact ⟨h3.right, _, rfl, by rw [hg, this]; simp⟩
      · have c0' : ¬ c = 0 := by omega
        by_cases c1 : (c : Int) = 65533
        · have : c = 65533 := by omega
          simp -dsimp -implicitDefEqProofs (disch := omega) only [go_sem, reqD_of, dec_t, dec_f, wrap_i64, wrap_u32, wrap_u64, wrap_u8, hd, e0, e8, c0, c1]
          refine (decode_lib (l := l.drop pos) h3).mono ?_
          rintro e' w4 ⟨h4, rfl⟩
          have m4 := h4.blk
          simp only [hne, if_false, ← hn, ← hc]
          by_cases n1 : (n : Int) = 1
          · have : n = 1 := by omega
            simp -dsimp -implicitDefEqProofs (disch := omega) only [go_sem, reqD_of, dec_t, dec_f, wrap_i64, wrap_u32, wrap_u64, wrap_u8, hd, e0, e8, n1]
            exact ⟨h4.right, _, rfl, by rw [hg, this, ‹c = 65533›]; simp⟩
          · have : ¬ n = 1 := by omega
            simp -dsimp -implicitDefEqProofs (disch := omega) only [go_sem, reqD_of, dec_t, dec_f, wrap_i64, wrap_u32, wrap_u64, wrap_u8, hd, e0, e8, n1, m2, m4]
            exact ⟨⟨pos + n, by omega, by rw [hg]; simp [c0', this], h4⟩, by omega⟩
        · have : ¬ c = 65533 := by omega
          simp -dsimp -implicitDefEqProofs (disch := omega) only [go_sem, reqD_of, dec_t, dec_f, wrap_i64, wrap_u32, wrap_u64, wrap_u8, hd, e0, e8, c0, c1, m2, m3]
          exact ⟨⟨pos + n, by omega, by rw [hg]; simp [c0', this], h3⟩, by omega⟩

end

theorem good_any {w0 w : World} {A : HP} (h : St w0 A w) [Gives A Tabs] {l : List UInt8} (hl : l.length ≤ 9223372036854775807) :
    Calls Tryd.prog 55 #[.string (strOf l)] w fun e w' => St w0 A w' ∧ e = .returned (.bool (good l)) := by
  refine F55.calls (by simp) ?_
  unfold F55.code
  simp -dsimp -implicitDefEqProofs (disch := omega) only [go_sem, reqD_of, dec_t, dec_f, wrap_i64, wrap_u32, wrap_u64, wrap_u8]
  refine (bad_any h hl).mono ?_
  rintro e w1 ⟨h1, k, rfl, hk⟩
  simp -dsimp -implicitDefEqProofs (disch := omega) only [go_sem, reqD_of, dec_t, dec_f, wrap_i64, wrap_u32, wrap_u64, wrap_u8, hk]
  exact h1

/-! ### A file's name -/

def dots (l : List UInt8) : Bool := l == [] || l == [46] || l == [46, 46]
def okName (l : List UInt8) : Bool := !(dots l) && !(255 < l.length : Bool) && !((47 : UInt8) ∈ l : Bool) && good l

section
attribute [local go_sem] F81.t8_eq F81.t4_eq F81.t9_eq
theorem check_any {w0 w : World} {A : HP} (h : St w0 A w) [Gives A Tabs] {l : List UInt8} (hl : l.length ≤ 9223372036854775807) :
    Calls Tryd.prog 81 #[.string (strOf l)] w fun e w' => St w0 A w' ∧ e = .returned (.int .i64 (if okName l then 0 else 50)) := by
  refine F81.calls (by simp) ?_
  unfold F81.code
  by_cases h0 : l = []
  · have : okName l = false := by simp [okName, dots, h0]
    have e0 : decide (l = []) = true := by simp [h0]
    simp -dsimp -implicitDefEqProofs (disch := omega) only [go_sem, reqD_of, dec_t, dec_f, wrap_i64, wrap_u32, wrap_u64, wrap_u8, e0]
    simp only [this]
    exact ⟨h, rfl⟩
  by_cases h1 : l = [46]
  · have : okName l = false := by simp [okName, dots, h1]
    have e1 : decide (l = [46]) = true := by simp [h1]
    simp -dsimp -implicitDefEqProofs (disch := omega) only [go_sem, reqD_of, dec_t, dec_f, wrap_i64, wrap_u32, wrap_u64, wrap_u8, h0, e1]
    simp only [this]
    exact ⟨h, rfl⟩
  by_cases h2 : l = [46, 46]
  · have : okName l = false := by simp [okName, dots, h2]
    have e2 : decide (l = [46, 46]) = true := by simp [h2]
    simp -dsimp -implicitDefEqProofs (disch := omega) only [go_sem, reqD_of, dec_t, dec_f, wrap_i64, wrap_u32, wrap_u64, wrap_u8, h0, h1, e2]
    simp only [this]
    exact ⟨h, rfl⟩
  by_cases h3 : (255 : Int) < l.length
  · have : okName l = false := by simp [okName]; intros; omega
    simp -dsimp -implicitDefEqProofs (disch := omega) only [go_sem, reqD_of, dec_t, dec_f, wrap_i64, wrap_u32, wrap_u64, wrap_u8, h0, h1, h2, h3]
    simp only [this]
    exact ⟨h, rfl⟩
  simp -dsimp -implicitDefEqProofs (disch := omega) only [go_sem, reqD_of, dec_t, dec_f, wrap_i64, wrap_u32, wrap_u64, wrap_u8, h0, h1, h2, h3]
  refine (contains_lib h).mono ?_
  rintro e w1 ⟨hw1, rfl⟩
  by_cases h4 : (47 : UInt8) ∈ l
  · have : okName l = false := by simp [okName, h4]
    simp -dsimp -implicitDefEqProofs (disch := omega) only [go_sem, reqD_of, dec_t, dec_f, wrap_i64, wrap_u32, wrap_u64, wrap_u8, h0, h1, h2, h3, h4]
    simp only [this]
    exact ⟨hw1, rfl⟩
  simp -dsimp -implicitDefEqProofs (disch := omega) only [go_sem, reqD_of, dec_t, dec_f, wrap_i64, wrap_u32, wrap_u64, wrap_u8, h0, h1, h2, h3, h4]
  refine (good_any hw1 hl).mono ?_
  rintro e w2 ⟨hw2, rfl⟩
  cases h5 : good l with
  | false =>
    have : okName l = false := by simp [okName, h5]
    simp -dsimp -implicitDefEqProofs (disch := omega) only [go_sem, reqD_of, dec_t, dec_f, wrap_i64, wrap_u32, wrap_u64, wrap_u8, h5]
    simp only [this]
    exact ⟨hw2, rfl⟩
  | true =>
    have : okName l = true := by simp [okName, dots, h0, h1, h2, h4, h5]; omega
    simp -dsimp -implicitDefEqProofs (disch := omega) only [go_sem, reqD_of, dec_t, dec_f, wrap_i64, wrap_u32, wrap_u64, wrap_u8, h5]
    simp only [this]
    exact ⟨hw2, rfl⟩

end
end Go.Proofs.YtijnmokpihhhcaaDoor

namespace Go.Proofs.YtijnmokpihhhcaaDoor
open Go

theorem St.below0 {w0 w : World} (h : St w0 (Old w0) w) : RowKit.Below w0.heap.size w0 w := by
  refine ⟨h.os, h.tape, h.output, h.size, fun k hk => ?_⟩
  obtain ⟨x, l, a⟩ := h.sat
  have := l k _ (a k _ (Array.getElem?_eq_getElem hk))
  rw [Array.getElem?_eq_getElem hk]
  exact this

end Go.Proofs.YtijnmokpihhhcaaDoor

namespace Go.Proofs.YtijnmokpihhhcaaDoor
open Go
open Go.RowKit
set_option linter.unusedVariables false
set_option linter.unusedSimpArgs false

section
variable {H : Type} {enc : TypeId × Value → H}
theorem returns_laid {a : Assume} {C : Checked} {os : Os} {f : FuncId} {fn : Func} {s : ChangeSpec} {conds : List PathCond} {apart fresh handsOn again : Bool} {laid : List (String × DataW Unit)}
    (own : ownKnob C.prog.godebug = none) (started : os.Started) (noInit : C.prog.inits.idxOf? f = none) (hfn : C.prog.funcs[f]? = some fn)
    (witness : ∃ (w : World) (tape : Tape) (i : Input), w.os = os ∧ (w.forCall tape i).Shaped C.prog ∧ i.vars = [] ∧ Input.okWide C.prog (w.forCall tape i) .any w.heap.size f i ∧
      ((s.pre enc C.prog fn conds apart (w.forCall tape i).memory i.args ∧ laidMetH C.prog laid (w.forCall tape i).memory) ∧ sizedMet enc C.prog fn (OpenSpec.ofChange s) apart (w.forCall tape i).memory i.args) ∧ a.holds C.prog (lone (Frame.enter C.prog f i.args .normal) [] (w.forCall tape i)))
    (contract : ∀ (W : World) (base : Nat) (args : Array Value) (ds gs : List (DataW H)) (before : List MemPlace),
      (∀ (j : Nat) t v, fn.params[j]? = some t → args[j]? = some v → Value.okWide C.prog W .any base t v) →
      DataW.Whole enc C.prog fn.params.toList s.vars apart W args.toList ds gs before →
      conds.all (PathCond.test C.prog ⟨fn.params.toList, ds, s.plain.varTypes C.prog, gs⟩) = true →
      (DataW.weightsEach C.prog (fn.params.toList ++ s.plain.varTypes C.prog) (ds ++ gs)).all (· ≤ reachBytes) = true →
      laidMetH C.prog laid W → W.ShapedOpen C.prog →
      a.holds C.prog (lone (Frame.enter C.prog f args .normal) [] W) →
      Calls C.prog f args W fun e W' => ∃ v, e = .returned v ∧ s.post enc C.prog fn apart fresh handsOn again W args v W') :
    ReturnsInHanded a C os f .any (fun w args => (s.pre enc C.prog fn conds apart w args ∧ laidMetH C.prog laid w) ∧ sizedMet enc C.prog fn (OpenSpec.ofChange s) apart w args) (s.post enc C.prog fn apart fresh handsOn again) := by
  refine returnsInHanded_of_calls own started noInit witness ?_
  intro w tape i _ hsh _ hok hpre hholds
  obtain ⟨_, _, _, fn', hfn', _, _, _, _, hval⟩ := hok
  have e : fn' = fn := Option.some.inj (hfn'.symm.trans hfn)
  subst e
  obtain ⟨⟨⟨ds, gs, before, hw, hc⟩, hx⟩, hz⟩ := hpre
  have hw' := DataW.Whole.of_heap (w' := w.forCall tape i) (by rfl) hw
  refine (contract (w.forCall tape i) w.heap.size i.args ds gs before hval hw' hc (hz.weights hw) (hx.of_heap (by rfl)) hsh hholds).mono fun e W' ⟨v, he, hp⟩ => ?_
  subst he
  exact ChangeSpec.post_blind hp
end

abbrev laidU8 : List (String × DataW Unit) := [("unicode/utf8.acceptRanges", Rows.laid_unicode_utf8_acceptRanges), ("unicode/utf8.first", Rows.laid_unicode_utf8_first)]
theorem accept_eq : (Rows.laid_unicode_utf8_acceptRanges : DataW Unit) = Lib.acceptData := by kernel_rfl
theorem first_eq : Rows.laid_unicode_utf8_first = Lib.firstData := Pinned.utf8First_eq

theorem block_of_cell {w : World} {b i : Nat} {v : Value} (h : w.cell? ⟨b, i, none⟩ = some v) : ∃ cur T fr, heapOf w b = some (.cells cur T fr) := by
  unfold heapOf
  simp only [World.cell?] at h
  split at h
  · rename_i cs t f e; exact ⟨_, _, _, e⟩
  · cases h
theorem cell_at {w : World} {b i : Nat} {v : Value} {cur : Array Value} {T : TypeId} {fr : Nat × Nat} (h : w.cell? ⟨b, i, none⟩ = some v) (k : heapOf w b = some (.cells cur T fr)) : cur[i]? = some v := by
  rw [cell_of k] at h; exact h

theorem tabs_old {W : World} (hL : laidMetH Tryd.prog laidU8 W) (hs : W.ShapedOpen Tryd.prog) : Ent (Old W) Tabs := by
  have hM : laidMet Tryd.prog laidU8 W := by rwa [MakeChecks.laidMetH_plain _ _ _ (by kernel_rfl)] at hL
  have h4 : Lib.VarReads Tryd.prog W "unicode/utf8.acceptRanges" Lib.acceptData := accept_eq ▸ Lib.laidMet.reads hM (by simp [laidU8])
  have h3 : Lib.VarReads Tryd.prog W "unicode/utf8.first" Lib.firstData := first_eq ▸ Lib.laidMet.reads hM (by simp [laidU8])
  have ht : Lib.Utf8Tabs 0 1 W := utf8Tabs_of_reads (ρ := layDecode_ren) { layDecode with } ⟨by kernel_rfl, by kernel_rfl, by kernel_rfl, by kernel_rfl, by kernel_rfl, by kernel_rfl, by kernel_rfl⟩ h3 h4
  obtain ⟨m, hm⟩ := cell_of_shapedOpen_int (P := Tryd.prog) (g := 2) (t := 3) (zero := #[.int .i64 0]) hs (of_decide_eq_true (by kernel_rfl)) (by kernel_rfl) rfl (by kernel_rfl) (by kernel_rfl) Tryd.underlying3
  obtain ⟨c1, T1, f1, k1⟩ := block_of_cell (ht.1 0 (by omega))
  obtain ⟨c2, T2, f2, k2⟩ := block_of_cell (ht.2 0 (by omega)).1
  obtain ⟨c0, T0, f0, k0⟩ := block_of_cell hm
  refine Ent.of fun h a => ⟨⟨c1, T1, f1, a _ _ k1, fun c hc => cell_at (ht.1 c hc) k1⟩, ⟨c2, T2, f2, a _ _ k2, fun i hi => ⟨cell_at (ht.2 i hi).1 k2, cell_at (ht.2 i hi).2 k2⟩⟩, ⟨c0, T0, f0, m, a _ _ k0, cell_at hm k0⟩⟩

noncomputable abbrev laidWorld (os : Os) : World := World.laidAll Tryd.prog os laidU8
theorem laidWorld_met (os : Os) (args : Array Value) : laidMetH Tryd.prog laidU8 ((laidWorld os).forCall (fun _ _ => 0) ⟨#[], args, []⟩).memory := by
  rw [MakeChecks.laidMetH_plain _ _ _ (by kernel_rfl)]
  exact laidMet_laidAll _ (by kernel_rfl) (by kernel_rfl)
theorem laidWorld_shaped (os : Os) (args : Array Value) : ((laidWorld os).forCall (fun _ _ => 0) ⟨#[], args, []⟩).Shaped Tryd.prog :=
  World.shaped_of_ZipB (by kernel_rfl) (by kernel_rfl)
end Go.Proofs.YtijnmokpihhhcaaDoor

namespace Go.Proofs.YtijnmokpihhhcaaDoor
open Go
set_option maxRecDepth 100000
abbrev muLink : Go.Conc.Locks.MuLink := { lock := 41, unlock := 42, ilock := 68, iunlock := 69, lockSlow := 84, unlockSlow := 85, disable := 58, enable := 61, acquire := 62, relMerge := 63, cas32 := 83, add32 := 80, tMutex := 89, tIMutex := 87, tPMutex := 127, tPIMutex := 146, tPI32 := 143, tUP := 126, tNoCopy := 85, tU32 := 29 }
theorem muLib : Go.Conc.Locks.MuLib Tryd.prog muLink :=
  ⟨Tryd.func41, Tryd.func42, Tryd.func68, Tryd.func69, Tryd.func58, Tryd.func61, Tryd.func62, Tryd.func63, Tryd.func83, Tryd.func80, Tryd.underlying87, Tryd.runUnderlying87, Tryd.sizeOf87, Tryd.isAgg87, Tryd.zeroValue87, Tryd.underlying89, Tryd.runUnderlying89, Tryd.sizeOf89, Tryd.isAgg89, Tryd.zeroValue89, Tryd.underlying127, Tryd.runUnderlying127, Tryd.sizeOf127, Tryd.isAgg127, Tryd.zeroValue127, Tryd.underlying146, Tryd.runUnderlying146, Tryd.sizeOf146, Tryd.isAgg146, Tryd.zeroValue146, Tryd.underlying143, Tryd.runUnderlying143, Tryd.sizeOf143, Tryd.isAgg143, Tryd.zeroValue143, Tryd.underlying126, Tryd.runUnderlying126, Tryd.sizeOf126, Tryd.isAgg126, Tryd.zeroValue126, Tryd.underlying85, Tryd.runUnderlying85, Tryd.sizeOf85, Tryd.isAgg85, Tryd.zeroValue85, Tryd.underlying21, Tryd.runUnderlying21, Tryd.sizeOf21, Tryd.isAgg21, Tryd.zeroValue21, by kernel_rfl⟩
abbrev rwLink : Go.Conc.Locks.RwLink := { lock := 41, unlock := 42, ilock := 68, iunlock := 69, lockSlow := 84, unlockSlow := 85, disable := 58, enable := 61, acquire := 62, relMerge := 63, cas32 := 83, add32 := 80, rlock := 36, runlock := 37, wlock := 52, wunlock := 53, i32add := 59, raceRead := 57, release := 75, rUnlockSlow := 64, semacqR := 60, semacqW := 74, semrel := 77, sfatal := 76, tMutex := 89, tIMutex := 87, tPMutex := 127, tPIMutex := 146, tPI32 := 143, tUP := 126, tNoCopy := 85, tU32 := 29, tRW := 99, tPRW := 124, tAI32 := 97, tPAI32 := 141, tPU32 := 130, tANoCopy := 95 }
theorem rwCore : Go.Conc.Locks.RwCore Tryd.prog rwLink :=
  ⟨Tryd.func59, Tryd.func57, Tryd.func58, Tryd.func61, Tryd.func62, Tryd.func63, Tryd.func80, Tryd.underlying99, Tryd.runUnderlying99, Tryd.sizeOf99, Tryd.isAgg99, Tryd.zeroValue99, Tryd.underlying97, Tryd.runUnderlying97, Tryd.sizeOf97, Tryd.isAgg97, Tryd.zeroValue97, Tryd.underlying124, Tryd.runUnderlying124, Tryd.sizeOf124, Tryd.isAgg124, Tryd.zeroValue124, Tryd.underlying141, Tryd.runUnderlying141, Tryd.sizeOf141, Tryd.isAgg141, Tryd.zeroValue141, Tryd.underlying130, Tryd.runUnderlying130, Tryd.sizeOf130, Tryd.isAgg130, Tryd.zeroValue130, Tryd.underlying95, Tryd.runUnderlying95, Tryd.sizeOf95, Tryd.isAgg95, Tryd.zeroValue95, Tryd.underlying29, Tryd.runUnderlying29, Tryd.sizeOf29, Tryd.isAgg29, Tryd.zeroValue29, Tryd.underlying89, Tryd.runUnderlying89, Tryd.sizeOf89, Tryd.isAgg89, Tryd.zeroValue89, Tryd.underlying127, Tryd.runUnderlying127, Tryd.sizeOf127, Tryd.isAgg127, Tryd.zeroValue127, Tryd.underlying143, Tryd.runUnderlying143, Tryd.sizeOf143, Tryd.isAgg143, Tryd.zeroValue143, Tryd.underlying126, Tryd.runUnderlying126, Tryd.sizeOf126, Tryd.isAgg126, Tryd.zeroValue126, Tryd.underlying21, Tryd.runUnderlying21, Tryd.sizeOf21, Tryd.isAgg21, Tryd.zeroValue21, by kernel_rfl, by kernel_rfl⟩
theorem rwRLib : Go.Conc.Locks.RwRLib Tryd.prog rwLink := ⟨rwCore, Tryd.func36, Tryd.func37⟩
theorem rwWLib : Go.Conc.Locks.RwWLib Tryd.prog rwLink := ⟨rwCore, muLib, Tryd.func52, Tryd.func53, Tryd.func75, Tryd.underlying3, Tryd.runUnderlying3, Tryd.sizeOf3, Tryd.isAgg3, Tryd.zeroValue3⟩
end Go.Proofs.YtijnmokpihhhcaaDoor

namespace Go.Proofs.YtijnmokpihhhcaaDoor
open Go
set_option linter.unusedVariables false
set_option linter.unusedSimpArgs false

section
variable {P : Program}

/-- panic(x). -/
def panicD (v : Value) (Pc : List PanicEntry → World → Prop) (w : World) : Prop := ∃ T u, v = .iface T u ∧ Pc [{ v := .iface T u, recovered := false }] w
theorem panicD_iface {T : TypeId} {u : Value} {Pc : List PanicEntry → World → Prop} {w : World} : panicD (.iface T u) Pc w = Pc [{ v := .iface T u, recovered := false }] w := by
  apply propext
  constructor
  · rintro ⟨T', u', h, k⟩; cases h; exact k
  · exact fun h => ⟨T, u, rfl, h⟩

theorem panic_of {K : Value → World → Prop} {D : Deferred → World → Prop} {Pc : List PanicEntry → World → Prop} {d : Option Nat} {x : Operand} {ty : TypeId} {p : String} {af : Array Edge} {g : Option (Nat × Bool)} {e : FA} {w : World} {θ : Tag (K, D, Pc)}
    (h : panicD (e.ev x) Pc w) : rawD P K D Pc (opS ⟨d, .panic x, ty, p, af, g⟩ e) w θ := by
  obtain ⟨T, u, hv, h⟩ := h
  show upon P K D Pc ((execOp e.ev _).run P w)
  have : (execOp e.ev ⟨d, .panic x, ty, p, af, g⟩).run P w = .halt (.panic (.iface T u)) w := by
    simp [execOp, hv, Instr.panic, goPanic, go_sem]
  rw [this]
  exact h

theorem mkI_of {T : TypeId} {v : Value} {w : World} {K : Value → Prop} {θ : Tag K} (hc : P.concrete T = true) (hK : K (.iface T v)) : readR P (kMakeInterface T v) w K θ :=
  ⟨_, run_makeInterface w T v hc, hK⟩

/-- v, ok := x.(T), of a type that is no interface. -/
theorem assert_of {T T' : TypeId} {v : Value} {w : World} {K : Value → Prop} {θ : Tag K} {u : TypeDesc} (hu : P.underlying T' = some u) (hn : ∀ m, u ≠ .interface m) (hK : K (.tuple #[v, .bool true])) : readR P (kTypeAssert (.iface T' v) T T' true) w K θ := by
  refine ⟨_, ?_, hK⟩
  show (Instr.typeAssert _ _ _ _).run P w = _
  unfold Instr.typeAssert
  simp only [Sem.run_bind, run_underlying hu, Result.andThen]
  cases u <;> first | exact absurd rfl (hn _) | simp

/-- A call is put off. -/
theorem defer_of {K : Value → World → Prop} {D : Deferred → World → Prop} {Pc : List PanicEntry → World → Prop} {d : Option Nat} {t : Nat} {f : Nat} {cap : Array Value} {ty : TypeId} {p : String} {af : Array Edge} {g : Option (Nat × Bool)} {e : FA} {w : World} {θ : Tag (K, D, Pc)}
    (hv : e.ρ t = .func (.func f) #[] cap) (h : D { target := .fn (.func f) cap, args := #[] } w) : rawD P K D Pc (opS ⟨d, .defer { callee := .value (.tmp t), args := #[], argTypes := #[] }, ty, p, af, g⟩ e) w θ := by
  show upon P K D Pc ((execOp e.ev _).run P w)
  have : (execOp e.ev ⟨d, .defer { callee := .value (.tmp t), args := #[], argTypes := #[] }, ty, p, af, g⟩).run P w = .ok (.defer { target := .fn (.func f) cap, args := #[] }) w := by
    simp [execOp, resolve, FA.ev, hv, go_sem]
  rw [this]
  exact h

theorem resC_CC {x y : Nat} {T U : TypeId} {a b : Addr} {v u : Value} {R : Ending → World → Prop} {e : FA} {w : World} (hx : e.ρ x = .pointer (some a)) (hv : (loadVar T a).run P w = .ok v w) (hy : e.ρ y = .pointer (some b)) (hu : (loadVar U b).run P w = .ok u w) (h : R (.returned (.tuple #[v, u])) w) : resC P #[.cell x T, .cell y U] e R w :=
  ⟨.tuple #[v, u], by simp [resF, hx, hy, asAddr, hv, hu], h⟩
theorem eqV_nilI : eqV (some (.interface #[])) .nilIface .nilIface = some true := rfl
theorem eqV_ifaceNil {m : Array (String × TypeId)} {T : TypeId} {v : Value} : eqV (some (.interface m)) (.iface T v) .nilIface = some false := rfl
theorem binV_ieql {T : TypeId} {y : Value} : binV P .eql T .nilIface y = (eqV (P.underlying T) .nilIface y).map .bool := by simp [binV]
theorem binV_jeql {T t : TypeId} {v y : Value} : binV P .eql T (.iface t v) y = (eqV (P.underlying T) (.iface t v) y).map .bool := by simp [binV]

/-! ### Leaving a function that has put off calls -/

/-- What is asked of the calls that were put off, one by one. -/
def leaveD (P : Program) : List Deferred → FrameMode → World → (FrameMode → World → Prop) → Prop
  | [], u, w, K => K u w
  | d :: ds, u, w, K => u ≠ .run ∧ ∃ fv cap f args, d.target = .fn fv cap ∧ (invoke d.target d.args).run P w = .ok (.enter f args) w ∧
      CallsDIn (Fr none) 0 P f args u w fun
        | .returned _, u', w' => leaveD P ds (settle u') w' K
        | .panicked chain, u', w' => leaveD P ds (raised u' chain) w' K
        | .outgrown, _, _ => False

def endM (P : Program) (rs : Array ResultVar) (e : FA) (R : Ending → World → Prop) : FrameMode → World → Prop
  | .returning, w => resC P rs e R w
  | .panicking chain, w => R (.panicked chain) w
  | .run, _ => False

def fnM (P : Program) (rs : Array ResultVar) (R : Ending → World → Prop) : Post
  | .normal, e, w | .ret, e, w => leaveD P e.ds .returning w (endM P rs e R)
  | .panic chain, e, w => leaveD P e.ds (.panicking chain) w (endM P rs e R)
  | _, _, _ => False

theorem fnM_ret {rs : Array ResultVar} {R : Ending → World → Prop} {e : FA} {w : World} : fnM P rs R .ret e w = leaveD P e.ds .returning w (endM P rs e R) := rfl
theorem fnM_normal {rs : Array ResultVar} {R : Ending → World → Prop} {e : FA} {w : World} : fnM P rs R .normal e w = leaveD P e.ds .returning w (endM P rs e R) := rfl
theorem fnM_panic {rs : Array ResultVar} {R : Ending → World → Prop} {c : List PanicEntry} {e : FA} {w : World} : fnM P rs R (.panic c) e w = leaveD P e.ds (.panicking c) w (endM P rs e R) := rfl

theorem CallsDIn.mono' {F : Fence} {n : Nat} {f : FuncId} {args : Array Value} {u : FrameMode} {w : World} {R R' : Ending → FrameMode → World → Prop} (h : CallsDIn F n P f args u w R) (hr : ∀ e u' w', R e u' w' → R' e u' w') : CallsDIn F n P f args u w R' :=
  ⟨h.1, fun c cs hu hroom => let ⟨e, u', w', fr, r, rest⟩ := h.2 c cs hu hroom; ⟨e, u', w', fr, hr _ _ _ r, rest⟩⟩

theorem leave1 {f : Nat} {cap : Array Value} {ds : List Deferred} {u : FrameMode} {w : World} {K : FrameMode → World → Prop} (hu : u ≠ .run) (hf : fnOk0 P f = true)
    (h : CallsDIn (Fr none) 0 P f cap u w fun
        | .returned _, u', w' => leaveD P ds (settle u') w' K
        | .panicked chain, u', w' => leaveD P ds (raised u' chain) w' K
        | .outgrown, _, _ => False) : leaveD P ({ target := .fn (.func f) cap, args := #[] } :: ds) u w K :=
  ⟨hu, .func f, cap, f, cap, rfl, by
    show (invoke (.fn (.func f) cap) #[]).run P w = _
    simp only [invoke, Array.empty_append]
    exact fnOk0_run hf _ _, h⟩

theorem leaves_of_leaveD {fn : Func} {tmps : Array Value} {R : Ending → World → Prop} {K : FrameMode → World → Prop} (hK : ∀ u w, K u w → LeavesInM (Fr none) 0 P fn tmps R [] u w) :
    ∀ (ds : List Deferred) (u : FrameMode) (w : World), leaveD P ds u w K → LeavesInM (Fr none) 0 P fn tmps R ds u w
  | [], u, w, h => hK u w h
  | d :: ds, u, w, ⟨hu, fv, cap, f, args, ht, hi, hc⟩ => by
    refine ⟨hu, .inr ⟨Fr_depth _ _, fv, cap, f, args, ht, hi, fun _ _ => trivial, ?_⟩⟩
    refine CallsDIn.mono' hc fun e u' w' h => ?_
    cases e with
    | returned v => exact leaves_of_leaveD hK ds _ _ h
    | panicked c => exact leaves_of_leaveD hK ds _ _ h
    | outgrown => exact h.elim

theorem calls_of_cwM {f : FuncId} {fn : Func} {c : Code} {types : Array TypeInfo} {args : Array Value} {w : World} {R : Ending → World → Prop}
    (hm : P.follows .mixedOrders = true) (hf : P.funcs[f]? = some fn) (c' : Cd) (hb : fn.body = some c) (hc : comp types fn.ntmps c = c') (hn : args.size ≤ fn.ntmps)
    (h : cwE P c' (fnM P fn.results R) (entry args) w) : Calls P f args w R := by
  subst hc
  have h1 : cw P none (comp types fn.ntmps c) (fnM P fn.results R) (entry args) w := cw_of_cwD _ _ _ _ _ _ (fun _ _ _ h => h) h
  refine callsC_to (ro := none) (n := 0) (callsIn_of_wpB hf hb (wpB_mono (cw_soundB hm c none _ _ w (fun h => by cases h) h1 _ (N := fn.ntmps) ⟨by simp; omega, fun t => ?_, rfl⟩) ?_))
  · simp only [entry]
    rcases Nat.lt_or_ge t args.size with h1 | h1
    · simp [Array.getElem?_append, h1]
    · have : (args ++ Array.replicate (fn.ntmps - args.size) undef).getD t undef = undef := by
        rw [Array.getD_eq_getD_getElem?, Array.getElem?_append, if_neg (by omega)]
        rcases Nat.lt_or_ge (t - args.size) (fn.ntmps - args.size) with h2 | h2
        · simp [h2]
        · rw [Array.getElem?_eq_none (by simpa using h2)]; rfl
      rw [this]
      simp [Array.getElem?_eq_none h1]
  · rintro x a w ⟨e, hr, hq⟩
    have main : ∀ u, leaveD P e.ds u w (endM P fn.results e R) → LeavesInM (Fr none) 0 P fn a.tmps R a.defers u w := fun u hq => by
      rw [hr.ds]
      refine leaves_of_leaveD (fun u w h => ?_) _ _ _ hq
      cases u with
      | run => exact h.elim
      | returning =>
        obtain ⟨v, h1, h2⟩ := h
        exact ⟨v, by rw [results_eq hr]; exact h1, h2⟩
      | panicking c => exact h
    cases x with
    | normal => exact main _ hq
    | ret => exact main _ hq
    | panic c => exact main _ hq
    | exit id => exact hq.elim
    | goto l => exact hq.elim
    | outgrown => exact hq.elim

/-! ### A function that is put off and recovers first of all -/

/-- What recover finds, and the caller's way behind it. -/
def recM : FrameMode → Value × FrameMode
  | .panicking ({ v, recovered := false, goexit := false } :: older) => (v, .panicking ({ v, recovered := true } :: older))
  | u => (.nilIface, u)

def fnR (P : Program) (rs : Array ResultVar) (u : FrameMode) (R : Ending → FrameMode → World → Prop) : Post
  | .normal, e, w | .ret, e, w => e.ds = [] ∧ resC P rs e (fun x w => R x u w) w
  | .panic chain, e, w => e.ds = [] ∧ R (.panicked chain) u w
  | _, _, _ => False

theorem recoverD_recM (c : Frame) (cs : List Frame) : recoverD (c :: cs) = some ((recM c.mode).1, { c with mode := (recM c.mode).2 } :: cs) ∨ (recoverD (c :: cs) = none ∧ recM c.mode = (.nilIface, c.mode)) := by
  cases hm : c.mode with
  | run => right; simp [recoverD, recM, hm]
  | returning => right; simp [recoverD, recM, hm]
  | panicking l =>
    cases l with
    | nil => right; simp [recoverD, recM, hm]
    | cons x l =>
      obtain ⟨v, r, g⟩ := x
      cases r <;> cases g <;> simp [recoverD, recM, hm]

theorem callsD_recover {f : FuncId} {fn : Func} {i d : Nat} {ops : Array Oper} {o : Oper} {c : Code} {types : Array TypeInfo} {x c' : Cd} {args : Array Value} {u : FrameMode} {w : World} {R : Ending → FrameMode → World → Prop} {ts : Array TypeId}
    (hm : P.follows .mixedOrders = true) (hf : P.funcs[f]? = some fn) (hb : fn.body = some (.seq (.region i ops false) c)) (hs : ops.size = 1) (ho : ops[0]? = some o) (hop : o.op = .call { callee := .builtin .recover, args := #[], argTypes := ts }) (hg : o.guard = none) (hd : o.dst = some d) (hdn : d < fn.ntmps)
    (hc : comp types fn.ntmps (.seq (.region i ops false) c) = .seq x c') (hn : args.size ≤ fn.ntmps) (hnr : noRange c = true)
    (h : cwE P c' (fnR P fn.results (recM u).2 R) ((entry args).put (some d) (recM u).1) w) : CallsDIn (Fr none) 0 P f args u w R := by
  have hcc : comp types fn.ntmps c = c' := by
    simp only [comp, Cd.seq.injEq] at hc
    exact hc.2
  subst hcc
  have h1 : cw P none (comp types fn.ntmps c) (fnR P fn.results (recM u).2 R) ((entry args).put (some d) (recM u).1) w := cw_of_cwD _ _ _ _ _ _ (fun _ _ _ h => h) h
  refine callsDIn_of_wpSIn hf hb trivial fun c₀ cs hu => ?_
  refine wpSIn_seq (wpSIn_region ?_)
  have hrel : Rel fn.ntmps { tmps := args ++ Array.replicate (fn.ntmps - args.size) undef, defers := [] } (entry args) := ⟨by simp; omega, fun t => by
    simp only [entry]
    rcases Nat.lt_or_ge t args.size with h1 | h1
    · simp [Array.getElem?_append, h1]
    · have : (args ++ Array.replicate (fn.ntmps - args.size) undef).getD t undef = undef := by
        rw [Array.getD_eq_getD_getElem?, Array.getElem?_append, if_neg (by omega)]
        rcases Nat.lt_or_ge (t - args.size) (fn.ntmps - args.size) with h2 | h2
        · simp [h2]
        · rw [Array.getElem?_eq_none (by simpa using h2)]; rfl
      rw [this]
      simp [Array.getElem?_eq_none h1], rfl⟩
  rw [hs]
  have hr1 : List.range 1 = [0] := rfl
  rw [hr1]
  unfold wpOpsSIn
  rw [ho]
  simp only
  refine ⟨fun _ _ => trivial, ?_⟩
  have hw : Region.wanted o (yielded ops (args ++ Array.replicate (fn.ntmps - args.size) undef)) = true := by unfold Region.wanted; rw [hg]
  rw [if_pos hw]
  have hx : ∀ ρ, (execOp ρ o).run P w = .ok .recover w := fun ρ => by
    unfold execOp
    rw [hop]
    simp [resolve, invoke, go_sem]
  rw [hx]
  have fin : ∀ (v : Value) (u' : FrameMode), recM u = (v, u') → Exit.thenS (c.wpSIn (Fr none) 0 P (bodyPostS P fn c₀ cs R)) (bodyPostS P fn c₀ cs R) .normal (({ tmps := args ++ Array.replicate (fn.ntmps - args.size) undef, defers := [] } : Act).put (some d) v) ({ c₀ with mode := u' } :: cs) w := by
    intro v u' he
    show c.wpSIn _ _ _ _ _ _ _
    rw [he] at h1
    refine wpSIn_of_wpIn rfl (wpIn_mono (cw_sound hm c none _ _ w hnr (fun h => by cases h) h1 _ (hrel.put (d := some d) (by simpa [dstOk] using hdn) v) 0) ?_)
    rintro y a w ⟨e, hr, hq⟩
    have ret : e.ds = [] ∧ resC P fn.results e (fun x w => R x u' w) w → a.defers = [] ∧ ∃ u'', { c₀ with mode := u' } :: cs = { c₀ with mode := u'' } :: cs ∧ ∃ v, (results fn a.tmps).run P w = .ok v w ∧ R (.returned v) u'' w := by
      rintro ⟨hd, v, h1, h2⟩
      exact ⟨by rw [hr.ds, hd], u', rfl, v, by rw [results_eq hr]; exact h1, h2⟩
    cases y with
    | normal => exact ret hq
    | ret => exact ret hq
    | panic ch => exact ⟨by rw [hr.ds, hq.1], u', rfl, hq.2⟩
    | exit id => exact hq.elim
    | goto l => exact hq.elim
    | outgrown => exact hq.elim
  have hrm := recoverD_recM c₀ cs
  rw [hu] at hrm
  rw [hd]
  unfold wpOpsSIn
  rcases hrm with hrm | ⟨hrm, he⟩
  · rw [hrm]
    exact fin _ _ rfl
  · rw [hrm]
    have := fin _ _ he
    have hcc : ({ c₀ with mode := u } : Frame) = c₀ := by rw [← hu]
    rw [hcc] at this
    exact this
end

theorem fnR_normal {P : Program} {rs : Array ResultVar} {u : FrameMode} {R : Ending → FrameMode → World → Prop} {e : FA} {w : World} : fnR P rs u R .normal e w = (e.ds = [] ∧ resC P rs e (fun x w => R x u w) w) := rfl
attribute [go_sem] eqV_nilI eqV_ifaceNil binV_ieql binV_jeql fnR_normal panicD_iface fnM_ret fnM_normal fnM_panic
end Go.Proofs.YtijnmokpihhhcaaDoor

namespace Go.Proofs.YtijnmokpihhhcaaDoor
open Go
open Go.Conc.Locks
open Go.RowKit (wrap32)
open Go.MuLone (run_callFunc_enter)
set_option linter.unusedVariables false
set_option linter.unusedSimpArgs false
set_option maxRecDepth 100000

set_option maxHeartbeats 1600000 in
theorem unlockIn (a : Addr) (u : FrameMode) (w : World) (hc : w.cell? a = some (.int .i32 1)) (hz : w.frozen? a = false) :
    CallsDIn (Fr none) 0 Tryd.prog muLink.unlock #[.pointer (some a)] u w fun e u' w' => u' = u ∧ (e = .returned (.tuple #[]) ∧ w' = w.setCell a (.int .i32 0)) := by
  have H := muLib
  have hfn : ∀ f, Fence.wide.fn f := fun _ => trivial
  have hdp : Fence.wide.depth = none := rfl
  obtain ⟨⟩ := id H
  have hin := fun args w => run_callFunc_enter (P := Tryd.prog) H.f_iunlock (by kernel_rfl) rfl args w
  show CallsDIn Fence.wide 0 _ _ _ _ _ _
  refine callsDIn_of_wp H.f_unlock rfl trivial ?_
  simp only [MuLone.nt_unlock muLink, List.size_toArray, List.length_cons, List.length_nil, Nat.reduceAdd, Nat.reduceSub, Array.replicate_succ, Array.replicate_zero, List.push_toArray, List.append_toArray, List.nil_append, List.cons_append]
  simp only [unlockFn]
  gi_wp2
  refine (callsC_of (ro := none) (MuLone.iunlock_held H a _ hc hz)).mono ?_
  rintro e w' ⟨rfl, rfl⟩
  gi_wp2
  go_end0
  exact ⟨rfl, rfl⟩
set_option maxHeartbeats 1600000 in
theorem runlockIn (b off : Nat) (rc : Int) (x0 x2 : Value) (u : FrameMode) (w : World) (c0 : w.cell? ⟨b, off, none⟩ = some x0) (c2 : w.cell? ⟨b, off + 2, none⟩ = some x2)
    (hc : w.cell? ⟨b, off + 4, none⟩ = some (.int .i32 rc)) (hz : w.frozen? ⟨b, off + 4, none⟩ = false) (hge : ¬ wrap32 (rc + -1) < 0) :
    CallsDIn (Fr none) 0 Tryd.prog rwLink.runlock #[.pointer (some ⟨b, off, none⟩)] u w fun e u' w' => u' = u ∧ (e = .returned (.tuple #[]) ∧ w' = w.setCell ⟨b, off + 4, none⟩ (.int .i32 (wrap32 (rc + -1)))) := by
  have H := rwRLib
  have C := H.core
  have hfn : ∀ f, Fence.wide.fn f := fun _ => trivial
  have hdp : Fence.wide.depth = none := rfl
  obtain ⟨⟩ := id C
  have hd := RwLone.disable C
  have he := RwLone.enable C
  have hrr := RwLone.raceRead C
  have hrm := RwLone.releaseMerge C
  have v0 := run_convert_to_unsafe (P := Tryd.prog) (src := rwLink.tPMutex) (dst := rwLink.tUP) C.underlying_tPMutex C.underlying_tUP C.room_tMutex c0
  have v2 := run_convert_to_unsafe (P := Tryd.prog) (src := rwLink.tPU32) (dst := rwLink.tUP) C.underlying_tPU32 C.underlying_tUP C.room_tU32 c2
  have hin := fun args w => run_callFunc_enter (P := Tryd.prog) C.f_i32add (by kernel_rfl) rfl args w
  show CallsDIn Fence.wide 0 _ _ _ _ _ _
  refine callsDIn_of_wp H.f_runlock rfl trivial ?_
  simp only [RwLone.nt_runlock rwLink, List.size_toArray, List.length_cons, List.length_nil, Nat.reduceAdd, Nat.reduceSub, Array.replicate_succ, Array.replicate_zero, List.push_toArray, List.append_toArray, List.nil_append, List.cons_append]
  simp only [runlockFn]
  gi_wp2
  refine (callsC_of (ro := none) (RwLone.i32add_any C ⟨b, off + 4, none⟩ rc (-1) _ hc hz)).mono ?_
  rintro e w' ⟨rfl, rfl⟩
  gi_wp2
  go_end0
  exact ⟨rfl, rfl⟩
set_option maxHeartbeats 1600000 in
theorem wunlockIn (b off : Nat) (x2 x3 : Value) (u : FrameMode) (w : World) (c0 : w.cell? ⟨b, off, none⟩ = some (.int .i32 1)) (c2 : w.cell? ⟨b, off + 2, none⟩ = some x2) (c3 : w.cell? ⟨b, off + 3, none⟩ = some x3)
    (hc : w.cell? ⟨b, off + 4, none⟩ = some (.int .i32 (-1073741824))) (z0 : w.frozen? ⟨b, off, none⟩ = false) (hz : w.frozen? ⟨b, off + 4, none⟩ = false) :
    CallsDIn (Fr none) 0 Tryd.prog rwLink.wunlock #[.pointer (some ⟨b, off, none⟩)] u w fun e u' w' => u' = u ∧ (e = .returned (.tuple #[]) ∧ w' = (w.setCell ⟨b, off + 4, none⟩ (.int .i32 0)).setCell ⟨b, off, none⟩ (.int .i32 0)) := by
  have H := rwWLib
  have C := H.core
  have hfn : ∀ f, Fence.wide.fn f := fun _ => trivial
  have hdp : Fence.wide.depth = none := rfl
  obtain ⟨⟩ := id C
  have hu3 := H.underlying_t3
  have hru3 := H.runUnderlying_t3
  have hs3 := H.sizeOf_t3
  have ha3 := H.isAgg_t3
  have hz3 := H.zeroValue_t3
  have hd := RwLone.disable C
  have he := RwLone.enable C
  have hrr := RwLone.raceRead C
  have hrl := RwLone.release H
  have hrm := RwLone.releaseMerge C
  have v0 := run_convert_to_unsafe (P := Tryd.prog) (src := rwLink.tPMutex) (dst := rwLink.tUP) C.underlying_tPMutex C.underlying_tUP C.room_tMutex c0
  have v2 := run_convert_to_unsafe (P := Tryd.prog) (src := rwLink.tPU32) (dst := rwLink.tUP) C.underlying_tPU32 C.underlying_tUP C.room_tU32 c2
  have v3 := run_convert_to_unsafe (P := Tryd.prog) (src := rwLink.tPU32) (dst := rwLink.tUP) C.underlying_tPU32 C.underlying_tUP C.room_tU32 c3
  have hin1 := fun args w => run_callFunc_enter (P := Tryd.prog) H.mu.f_unlock (by kernel_rfl) rfl args w
  have hin2 := fun args w => run_callFunc_enter (P := Tryd.prog) C.f_i32add (by kernel_rfl) rfl args w
  show CallsDIn Fence.wide 0 _ _ _ _ _ _
  refine callsDIn_of_wp H.f_wunlock rfl trivial ?_
  simp only [RwLone.nt_wunlock rwLink, List.size_toArray, List.length_cons, List.length_nil, Nat.reduceAdd, Nat.reduceSub, Array.replicate_succ, Array.replicate_zero, List.push_toArray, List.append_toArray, List.nil_append, List.cons_append]
  simp only [wunlockFn]
  gi_wp2
  refine (callsC_of (ro := none) (RwLone.i32add_any C ⟨b, off + 4, none⟩ (-1073741824) 1073741824 _ hc hz)).mono ?_
  rintro e w' ⟨rfl, rfl⟩
  simp only [RwLone.up30]
  gi_wp2
  refine wpIn_loop_once ?_
  gi_wp2
  refine (callsC_of (ro := none) (MuLone.unlock_held H.mu ⟨b, off, none⟩ _ ((World.cell?_setCell_other _ ⟨b, off + 4, none⟩ ⟨b, off, none⟩ _ (by simp)).trans c0) (by simp [z0]))).mono ?_
  rintro e w' ⟨rfl, rfl⟩
  gi_wp2
  go_end0
  exact ⟨rfl, rfl⟩
end Go.Proofs.YtijnmokpihhhcaaDoor

namespace Go.Proofs.YtijnmokpihhhcaaDoor
open Go
set_option linter.unusedVariables false
set_option linter.unusedSimpArgs false

/-! ### What a node is, what an operation asks -/

/-- What is told of a node. -/
structure Inf where
  path : Nat
  parent : Nat
  name : List UInt8
  mode : Nat
  uid : List UInt8
  gid : List UInt8
  muid : List UInt8
  atime : Nat
  mtime : Nat
  vers : Nat
  length : Nat
  opens : Int
  kids : Int
structure NodeD where
  i : Inf
  b : List UInt8
structure SD where
  most : Nat
  next : Nat
  L : List NodeD
structure OpD where
  kind : Nat
  path : Nat
  name : List UInt8
  mask : Nat
  node : Inf
  offset : Nat
  data : List UInt8
  n : Int

def userF (l : List UInt8) : Bool := decide (l.length ≤ 32) && good l
def modeF (m : Nat) : Bool := decide (m &&& 469761536 = 0)
def dirF (m : Nat) : Bool := decide (2147483648 ≤ m)
def findN (L : List NodeD) (p : Nat) : Option NodeD := L.find? fun n => n.i.path == p
def isKid (p : Nat) (n : NodeD) : Bool := n.i.parent == p && !(n.i.path == n.i.parent)
def kidsF (L : List NodeD) (p : Nat) : List Nat := (L.filter (isKid p)).map (·.i.path)
def childF (L : List NodeD) (p : Nat) (nm : List UInt8) : Option Nat := (L.find? fun n => isKid p n && n.i.name == nm).map (·.i.path)
def afterF (L : List NodeD) (p last : Nat) : Option Nat := (kidsF L p).find? fun k => decide (last < k)
def tellF (L : List NodeD) (n : NodeD) : Inf := { n.i with kids := ((kidsF L n.i.path).length : Nat) }
def updN (L : List NodeD) (p : Nat) (f : NodeD → NodeD) : List NodeD := L.map fun n => if n.i.path = p then f n else n
def dropN (L : List NodeD) (p : Nat) : List NodeD := L.filter fun n => !(n.i.path == p)

/-! ### One node's operations -/

def bitF (m k : Nat) : Bool := m.testBit k
def setF (m : Nat) (t : Inf) (n : Inf) : Except Nat Inf :=
  if m.testBit 7 || m.testBit 0 && !modeF t.mode || m.testBit 1 && !userF t.uid || m.testBit 2 && !userF t.gid || m.testBit 3 && !userF t.muid then .error 1
  else if m.testBit 0 && !(dirF t.mode == dirF n.mode) then .error 81
  else .ok { n with mode := if m.testBit 0 then t.mode else n.mode, uid := if m.testBit 1 then t.uid else n.uid, gid := if m.testBit 2 then t.gid else n.gid, muid := if m.testBit 3 then t.muid else n.muid,
                    atime := if m.testBit 4 then t.atime else n.atime, mtime := if m.testBit 5 then t.mtime else n.mtime, vers := if m.testBit 6 then (n.vers + 1) % 4294967296 else n.vers }
/-- So many bytes: cut, or noughts behind. -/
def padF (b : List UInt8) (k : Nat) : List UInt8 := (b ++ List.replicate (k - b.length) 0).take k
def cutF (k : Nat) (n : NodeD) : Except Nat NodeD :=
  if dirF n.i.mode then .error 81 else if 65536 < k then .error 86 else .ok ⟨{ n.i with length := k }, padF n.b k⟩
def layF (b : List UInt8) (off : Nat) (d : List UInt8) : List UInt8 :=
  let c := padF b (max b.length (off + d.length))
  c.take off ++ d ++ c.drop (off + d.length)
def bytesF (off : Nat) (d : List UInt8) (n : NodeD) : Except Nat NodeD :=
  if dirF n.i.mode then .error 81 else if d = [] ∨ 256 < off % 256 + d.length then .error 84 else if 65536 < off + d.length then .error 86
  else .ok ⟨{ n.i with length := max n.i.length (off + d.length) }, layF n.b off d⟩
def opensF (k : Int) (n : Inf) : Except Nat Inf :=
  if k < -n.opens ∨ 2147483647 - n.opens < k then .error 87 else .ok { n with opens := n.opens + k }
def readF (n : NodeD) (off : Nat) (k : Int) : List UInt8 := if k ≤ 0 then [] else (n.b.drop off).take k.toNat

/-! ### Operations on the whole -/

def makeF (s : SD) (n : NodeD) (t : Inf) : SD × Nat × Nat :=
  if !dirF n.i.mode then (s, 0, 81)
  else if !(modeF t.mode && userF t.uid && userF t.gid && userF t.muid) then (s, 0, 1)
  else if !okName t.name then (s, 0, 50)
  else if (childF s.L n.i.path t.name).isSome then (s, 0, 82)
  else if s.most ≤ s.L.length then (s, 0, 83)
  else ({ s with next := s.next + 1, L := s.L ++ [⟨⟨s.next, n.i.path, t.name, t.mode, t.uid, t.gid, t.muid, t.atime, t.mtime, 0, 0, 0, 0⟩, []⟩] }, s.next, 0)
def delF (s : SD) (n : NodeD) : SD × Nat × Nat :=
  if n.i.path = 1 then (s, 0, 81)
  else if 0 < (kidsF s.L n.i.path).length then (s, 0, 85)
  else ({ s with L := dropN s.L n.i.path }, n.i.path, 0)
def callF (s : SD) (n : NodeD) (nm : List UInt8) : SD × Nat × Nat :=
  if n.i.path = 1 then (s, 0, 81)
  else if !okName nm then (s, 0, 50)
  else match childF s.L n.i.parent nm with
    | some q => if q = n.i.path then ({ s with L := updN s.L n.i.path fun n => ⟨{ n.i with name := nm }, n.b⟩ }, n.i.path, 0) else (s, 0, 82)
    | none => ({ s with L := updN s.L n.i.path fun n => ⟨{ n.i with name := nm }, n.b⟩ }, n.i.path, 0)
/-- What comes of a change of one node. -/
def oneF (s : SD) (p : Nat) : Except Nat NodeD → SD × Nat × Nat
  | .error e => (s, 0, e)
  | .ok n => ({ s with L := updN s.L p fun _ => n }, p, 0)
def infoF (n : NodeD) : Except Nat Inf → Except Nat NodeD
  | .error e => .error e
  | .ok i => .ok ⟨i, n.b⟩
def doF (s : SD) (o : OpD) : SD × Nat × Nat :=
  if o.kind < 1 ∨ 7 < o.kind then (s, 0, 1)
  else match findN s.L o.path with
    | none => (s, 0, 80)
    | some n =>
      if o.kind = 1 then makeF s n o.node
      else if o.kind = 2 then delF s n
      else if o.kind = 3 then callF s n o.name
      else if o.kind = 4 then oneF s o.path (infoF n (setF o.mask o.node n.i))
      else if o.kind = 5 then oneF s o.path (cutF o.offset n)
      else if o.kind = 6 then oneF s o.path (bytesF o.offset o.data n)
      else oneF s o.path (infoF n (opensF o.n n.i))

/-! ### What is always so -/

structure NodeOk (n : NodeD) : Prop where
  len : n.i.length = n.b.length
  few : n.b.length ≤ 65536
  kids : n.i.kids = 0
  mode : n.i.mode < 4294967296
  atime : n.i.atime < 4294967296
  mtime : n.i.mtime < 4294967296
  vers : n.i.vers < 4294967296
  op0 : 0 ≤ n.i.opens
  op1 : n.i.opens ≤ 2147483647
  dir : dirF n.i.mode = true → n.b = []
  name : n.i.name.length ≤ 255
  uid : n.i.uid.length ≤ 32
  gid : n.i.gid.length ≤ 32
  muid : n.i.muid.length ≤ 32
structure Wf (s : SD) : Prop where
  ok : ∀ n ∈ s.L, NodeOk n
  rise : s.L.Pairwise fun a b => a.i.path < b.i.path
  below : ∀ n ∈ s.L, 1 ≤ n.i.path ∧ n.i.path < s.next
  root : ∃ r, findN s.L 1 = some r ∧ r.i.parent = 1 ∧ dirF r.i.mode = true
  up : ∀ n ∈ s.L, n.i.path ≠ 1 → n.i.parent < n.i.path ∧ ∃ d, findN s.L n.i.parent = some d ∧ dirF d.i.mode = true
  one : ∀ a ∈ s.L, ∀ b ∈ s.L, a.i.path ≠ 1 → b.i.path ≠ 1 → a.i.parent = b.i.parent → a.i.name = b.i.name → a.i.path = b.i.path
  few : s.L.length ≤ s.most
  most : s.most ≤ 4096

theorem find_some {L : List NodeD} {p : Nat} {n : NodeD} (h : findN L p = some n) : n ∈ L ∧ n.i.path = p := by
  refine ⟨List.mem_of_find?_eq_some h, ?_⟩
  have := List.find?_some h
  simpa using this
theorem find_none {L : List NodeD} {p : Nat} (h : findN L p = none) : ∀ n ∈ L, n.i.path ≠ p := by
  intro n hn e
  have := List.find?_eq_none.1 h n hn
  simp [e] at this
theorem rise_inj {L : List NodeD} (h : L.Pairwise fun a b => a.i.path < b.i.path) {a b : NodeD} (ha : a ∈ L) (hb : b ∈ L) (e : a.i.path = b.i.path) : a = b := by
  obtain ⟨i, hi, rfl⟩ := List.getElem_of_mem ha
  obtain ⟨j, hj, rfl⟩ := List.getElem_of_mem hb
  rw [List.pairwise_iff_getElem] at h
  rcases Nat.lt_trichotomy i j with hij | hij | hij
  · have := h i j hi hj hij; omega
  · subst hij; rfl
  · have := h j i hj hi hij; omega
theorem find_of {L : List NodeD} (h : L.Pairwise fun a b => a.i.path < b.i.path) {n : NodeD} (hn : n ∈ L) : findN L n.i.path = some n := by
  cases hf : findN L n.i.path with
  | none => exact absurd rfl (find_none hf n hn)
  | some m =>
    obtain ⟨h1, h2⟩ := find_some hf
    rw [rise_inj h h1 hn h2]
end Go.Proofs.YtijnmokpihhhcaaDoor

namespace Go.Proofs.YtijnmokpihhhcaaDoor
open Go
set_option linter.unusedVariables false
set_option linter.unusedSimpArgs false

/-! ### One node is changed -/

/-- A change that leaves a node where it is, and a directory a directory. -/
structure Keeps (n n' : NodeD) : Prop where
  path : n'.i.path = n.i.path
  parent : n'.i.parent = n.i.parent
  dir : dirF n'.i.mode = dirF n.i.mode
theorem upd_mem {L : List NodeD} {p : Nat} {n' m : NodeD} (h : m ∈ updN L p fun _ => n') : (m = n' ∧ ∃ x ∈ L, x.i.path = p) ∨ (m ∈ L ∧ m.i.path ≠ p) := by
  obtain ⟨x, hx, e⟩ := List.mem_map.1 h
  split at e
  · exact .inl ⟨e.symm, x, hx, by assumption⟩
  · subst e; exact .inr ⟨hx, by assumption⟩
theorem upd_len (L : List NodeD) (p : Nat) (f : NodeD → NodeD) : (updN L p f).length = L.length := by simp [updN]
theorem upd_paths {L : List NodeD} {p : Nat} {n' : NodeD} (hp : n'.i.path = p) : (updN L p fun _ => n').map (·.i.path) = L.map (·.i.path) := by
  simp only [updN, List.map_map]
  refine List.map_congr_left fun x _ => ?_
  simp only [Function.comp]
  split
  · rename_i e; rw [hp, e]
  · rfl
theorem rise_paths {L : List NodeD} : (L.Pairwise fun a b => a.i.path < b.i.path) ↔ (L.map (·.i.path)).Pairwise (· < ·) := by rw [List.pairwise_map]
theorem find_upd {L : List NodeD} {p q : Nat} {n' : NodeD} (hp : n'.i.path = p) : findN (updN L p fun _ => n') q = if q = p then (findN L p).map fun _ => n' else findN L q := by
  induction L with
  | nil => simp [updN, findN]
  | cons x L ih =>
    simp only [updN, List.map_cons, findN, List.find?_cons] at ih ⊢
    by_cases hx : x.i.path = p
    · rw [if_pos hx]
      by_cases hq : q = p
      · rw [if_pos hq] at ih ⊢
        subst hq
        simp [hp, hx]
      · rw [if_neg hq] at ih ⊢
        have h1 : (n'.i.path == q) = false := by rw [hp]; simpa using fun e => hq e.symm
        have h2 : (x.i.path == q) = false := by rw [hx]; simpa using fun e => hq e.symm
        rw [h1, h2]
        exact ih
    · rw [if_neg hx]
      by_cases hq : q = p
      · rw [if_pos hq] at ih ⊢
        subst hq
        have h2 : (x.i.path == q) = false := by simpa using hx
        rw [h2]
        exact ih
      · rw [if_neg hq] at ih ⊢
        cases hxq : (x.i.path == q)
        · exact ih
        · rfl
theorem upd_wf {s : SD} (h : Wf s) {n n' : NodeD} (hn : n ∈ s.L) (k : Keeps n n') (ok : NodeOk n') (hnm : n.i.path ≠ 1 → ∀ m ∈ s.L, m.i.path ≠ 1 → m.i.path ≠ n.i.path → m.i.parent = n.i.parent → m.i.name ≠ n'.i.name) :
    Wf { s with L := updN s.L n.i.path fun _ => n' } := by
  have hf := find_of h.rise hn
  have fd : ∀ q d, findN s.L q = some d → ∃ d', findN (updN s.L n.i.path fun _ => n') q = some d' ∧ d'.i.parent = d.i.parent ∧ dirF d'.i.mode = dirF d.i.mode := fun q d hd => by
    rw [find_upd k.path]
    by_cases hq : q = n.i.path
    · rw [if_pos hq, hf]
      subst hq
      rw [hf] at hd
      cases hd
      exact ⟨n', rfl, k.parent, k.dir⟩
    · rw [if_neg hq]
      exact ⟨d, hd, rfl, rfl⟩
  refine ⟨fun m hm => ?_, ?_, fun m hm => ?_, ?_, fun m hm h1 => ?_, ?_, by rw [upd_len]; exact h.few, h.most⟩
  · rcases upd_mem hm with ⟨rfl, _⟩ | ⟨hm, _⟩
    · exact ok
    · exact h.ok m hm
  · rw [rise_paths, upd_paths k.path, ← rise_paths]
    exact h.rise
  · rcases upd_mem hm with ⟨rfl, _⟩ | ⟨hm, _⟩
    · rw [k.path]; exact h.below n hn
    · exact h.below m hm
  · obtain ⟨r, hr, h1, h2⟩ := h.root
    obtain ⟨r', e1, e2, e3⟩ := fd 1 r hr
    exact ⟨r', e1, e2.trans h1, e3.trans h2⟩
  · rcases upd_mem hm with ⟨rfl, _⟩ | ⟨hm, _⟩
    · rw [k.path] at h1 ⊢
      rw [k.parent]
      obtain ⟨a, d, hd, hdd⟩ := h.up n hn h1
      obtain ⟨d', e1, e2, e3⟩ := fd _ d hd
      exact ⟨a, d', e1, e3.trans hdd⟩
    · obtain ⟨a, d, hd, hdd⟩ := h.up m hm h1
      obtain ⟨d', e1, e2, e3⟩ := fd _ d hd
      exact ⟨a, d', e1, e3.trans hdd⟩
  · intro a ha b hb h1 h2 hpp hnn
    rcases upd_mem ha with ⟨ea, _⟩ | ⟨pa, pa2⟩ <;> rcases upd_mem hb with ⟨eb, _⟩ | ⟨pb, pb2⟩
    · rw [ea, eb]
    · subst ea
      rw [k.path] at h1
      rw [k.parent] at hpp
      exact absurd hnn.symm (hnm h1 b pb h2 pb2 hpp.symm)
    · subst eb
      rw [k.path] at h2
      rw [k.parent] at hpp
      exact absurd hnn (hnm h2 a pa h1 pa2 hpp)
    · exact h.one a pa b pb h1 h2 hpp hnn
/-- A name that stays is free of all others. -/
theorem name_free {s : SD} (h : Wf s) {n : NodeD} (hn : n ∈ s.L) (h1 : n.i.path ≠ 1) : ∀ m ∈ s.L, m.i.path ≠ 1 → m.i.path ≠ n.i.path → m.i.parent = n.i.parent → m.i.name ≠ n.i.name := fun m hm h2 h3 h4 h5 =>
  h3 (h.one m hm n hn h2 h1 h4 h5)
theorem self_parent {s : SD} (h : Wf s) {n : NodeD} (hn : n ∈ s.L) : (n.i.path = n.i.parent) ↔ n.i.path = 1 := by
  constructor
  · intro e
    by_cases h1 : n.i.path = 1
    · exact h1
    · have := (h.up n hn h1).1; omega
  · intro e
    obtain ⟨r, hr, h1, _⟩ := h.root
    have := find_of h.rise hn
    rw [e, hr] at this
    cases this
    omega
theorem isKid_iff {s : SD} (h : Wf s) {n : NodeD} (hn : n ∈ s.L) {p : Nat} : isKid p n = true ↔ n.i.parent = p ∧ n.i.path ≠ 1 := by
  have := self_parent h hn
  simp only [isKid, Bool.and_eq_true, beq_iff_eq, Bool.not_eq_true', beq_eq_false_iff_ne, ne_eq]
  exact ⟨fun ⟨a, b⟩ => ⟨a, fun e => b (this.2 e)⟩, fun ⟨a, b⟩ => ⟨a, fun e => b (this.1 e)⟩⟩
theorem child_some {L : List NodeD} {p q : Nat} {nm : List UInt8} (h : childF L p nm = some q) : ∃ n ∈ L, n.i.path = q ∧ isKid p n = true ∧ n.i.name = nm := by
  unfold childF at h
  obtain ⟨n, hn, rfl⟩ := Option.map_eq_some_iff.1 h
  have h1 := List.find?_some hn
  simp only [Bool.and_eq_true, beq_iff_eq] at h1
  exact ⟨n, List.mem_of_find?_eq_some hn, rfl, h1.1, h1.2⟩
theorem child_none {L : List NodeD} {p : Nat} {nm : List UInt8} (h : childF L p nm = none) : ∀ n ∈ L, isKid p n = true → n.i.name ≠ nm := by
  unfold childF at h
  rw [Option.map_eq_none_iff] at h
  intro n hn hk e
  have := List.find?_eq_none.1 h n hn
  simp [hk, e] at this
theorem child_of {s : SD} (h : Wf s) {n : NodeD} (hn : n ∈ s.L) (h1 : n.i.path ≠ 1) : childF s.L n.i.parent n.i.name = some n.i.path := by
  cases hc : childF s.L n.i.parent n.i.name with
  | none => exact absurd rfl (child_none hc n hn ((isKid_iff h hn).2 ⟨rfl, h1⟩))
  | some q =>
    obtain ⟨m, hm, rfl, hk, he⟩ := child_some hc
    obtain ⟨k1, k2⟩ := (isKid_iff h hm).1 hk
    rw [h.one m hm n hn k2 h1 k1 he]

/-! ### A node is made, one is no more -/

theorem make_wf {s : SD} (h : Wf s) {n x : NodeD} (hn : n ∈ s.L) (hd : dirF n.i.mode = true) (ok : NodeOk x) (hx : x.i.path = s.next) (hp : x.i.parent = n.i.path) (hc : childF s.L n.i.path x.i.name = none) (hl : s.L.length < s.most) : Wf { s with next := s.next + 1, L := s.L ++ [x] } := by
  have hb := h.below n hn
  have hnx : ∀ m ∈ s.L, m.i.path ≠ x.i.path := fun m hm => by have := (h.below m hm).2; omega
  have fd : ∀ q d, findN s.L q = some d → findN (s.L ++ [x]) q = some d := fun q d hd => by
    unfold findN at hd ⊢
    rw [List.find?_append, hd]
    rfl
  have free : ∀ m ∈ s.L, m.i.path ≠ 1 → m.i.parent = n.i.path → m.i.name ≠ x.i.name := fun m hm h1 h2 => child_none hc m hm ((isKid_iff h hm).2 ⟨h2, h1⟩)
  refine ⟨fun m hm => ?_, ?_, fun m hm => ?_, ?_, fun m hm h1 => ?_, ?_, by show (s.L ++ [x]).length ≤ s.most; simp; omega, h.most⟩
  · rcases List.mem_append.1 hm with hm | hm
    · exact h.ok m hm
    · simp only [List.mem_singleton] at hm; subst hm; exact ok
  · rw [List.pairwise_append]
    refine ⟨h.rise, by simp, fun a ha b hb => ?_⟩
    simp only [List.mem_singleton] at hb
    subst hb
    have := (h.below a ha).2
    omega
  · rcases List.mem_append.1 hm with hm | hm
    · have := h.below m hm; exact ⟨this.1, by show _ < s.next + 1; omega⟩
    · simp only [List.mem_singleton] at hm; subst hm; exact ⟨by omega, by show _ < s.next + 1; omega⟩
  · obtain ⟨r, hr, h1, h2⟩ := h.root
    exact ⟨r, fd 1 r hr, h1, h2⟩
  · rcases List.mem_append.1 hm with hm | hm
    · obtain ⟨a, d, hd, hdd⟩ := h.up m hm h1
      exact ⟨a, d, fd _ d hd, hdd⟩
    · simp only [List.mem_singleton] at hm
      subst hm
      rw [hp]
      exact ⟨by omega, n, fd _ n (find_of h.rise hn), hd⟩
  · intro a ha b hb' h1 h2 hpp hnn
    rcases List.mem_append.1 ha with pa | pa <;> rcases List.mem_append.1 hb' with pb | pb
    · exact h.one a pa b pb h1 h2 hpp hnn
    · simp only [List.mem_singleton] at pb
      subst pb
      exact absurd hnn (free a pa h1 (hpp.trans hp))
    · simp only [List.mem_singleton] at pa
      subst pa
      exact absurd hnn.symm (free b pb h2 (hpp.symm.trans hp))
    · simp only [List.mem_singleton] at pa pb
      rw [pa, pb]
theorem kids_none {s : SD} (h : Wf s) {p : Nat} (hk : ¬ 0 < (kidsF s.L p).length) : ∀ m ∈ s.L, m.i.path ≠ 1 → m.i.parent ≠ p := fun m hm h1 e => by
  have : m.i.path ∈ kidsF s.L p := List.mem_map_of_mem (f := (·.i.path)) (List.mem_filter.2 ⟨hm, (isKid_iff h hm).2 ⟨e, h1⟩⟩)
  have := List.length_pos_of_mem this
  omega
theorem drop_wf {s : SD} (h : Wf s) {n : NodeD} (hn : n ∈ s.L) (h1 : n.i.path ≠ 1) (hk : ¬ 0 < (kidsF s.L n.i.path).length) : Wf { s with L := dropN s.L n.i.path } := by
  have mem : ∀ m ∈ dropN s.L n.i.path, m ∈ s.L ∧ m.i.path ≠ n.i.path := fun m hm => by
    obtain ⟨a, b⟩ := List.mem_filter.1 hm
    exact ⟨a, by simpa using b⟩
  have hsub : (dropN s.L n.i.path).Sublist s.L := List.filter_sublist
  have rise := h.rise.sublist hsub
  have fd : ∀ q d, findN s.L q = some d → q ≠ n.i.path → findN (dropN s.L n.i.path) q = some d := fun q d hd hq => by
    obtain ⟨a, b⟩ := find_some hd
    have : d ∈ dropN s.L n.i.path := List.mem_filter.2 ⟨a, by simp [b, hq]⟩
    have := find_of rise this
    rwa [b] at this
  refine ⟨fun m hm => h.ok m (mem m hm).1, rise, fun m hm => h.below m (mem m hm).1, ?_, fun m hm h2 => ?_, fun a ha b hb => h.one a (mem a ha).1 b (mem b hb).1, Nat.le_trans hsub.length_le h.few, h.most⟩
  · obtain ⟨r, hr, e1, e2⟩ := h.root
    exact ⟨r, fd 1 r hr (fun e => h1 e.symm), e1, e2⟩
  · obtain ⟨a, b⟩ := mem m hm
    obtain ⟨c, d, hd, hdd⟩ := h.up m a h2
    exact ⟨c, d, fd _ d hd (kids_none h hk m a h2), hdd⟩
end Go.Proofs.YtijnmokpihhhcaaDoor

namespace Go.Proofs.YtijnmokpihhhcaaDoor
open Go
set_option linter.unusedVariables false
set_option linter.unusedSimpArgs false

theorem padF_len (b : List UInt8) (k : Nat) : (padF b k).length = k := by
  unfold padF
  simp only [List.length_take, List.length_append, List.length_replicate]
  omega
theorem padF_get (b : List UInt8) (k i : Nat) : (padF b k).getD i 0 = if i < k then b.getD i 0 else 0 := by
  unfold padF
  simp only [List.getD_eq_getElem?_getD]
  by_cases h : i < k
  · rw [if_pos h, List.getElem?_take_of_lt h]
    by_cases hb : i < b.length
    · rw [List.getElem?_append_left hb]
    · rw [List.getElem?_append_right (by omega), List.getElem?_eq_none (l := b) (by omega), List.getElem?_replicate]
      split <;> rfl
  · rw [if_neg h, List.getElem?_eq_none (by simp; omega)]
    rfl
theorem layF_len (b : List UInt8) (off : Nat) (d : List UInt8) : (layF b off d).length = max b.length (off + d.length) := by
  unfold layF
  simp only [List.length_append, List.length_take, List.length_drop, padF_len]
  omega
theorem layF_get (b : List UInt8) (off : Nat) (d : List UInt8) (i : Nat) : (layF b off d).getD i 0 = if off ≤ i ∧ i < off + d.length then d.getD (i - off) 0 else b.getD i 0 := by
  unfold layF
  have hl := padF_len b (max b.length (off + d.length))
  have hg := padF_get b (max b.length (off + d.length))
  generalize padF b (max b.length (off + d.length)) = c at *
  have ht : (c.take off).length = off := by rw [List.length_take]; omega
  simp only [List.getD_eq_getElem?_getD, List.append_assoc] at hg ⊢
  by_cases h1 : i < off
  · rw [if_neg (by omega), List.getElem?_append_left (by omega), List.getElem?_take_of_lt h1, hg, if_pos (by omega)]
  · rw [List.getElem?_append_right (by omega), ht]
    by_cases h2 : i < off + d.length
    · rw [if_pos ⟨by omega, h2⟩, List.getElem?_append_left (by omega)]
    · rw [if_neg (by omega), List.getElem?_append_right (by omega), List.getElem?_drop, show off + d.length + (i - off - d.length) = i by omega, hg]
      split
      · rfl
      · rw [List.getElem?_eq_none (by omega)]; rfl

structure OpOk (o : OpD) : Prop where
  mode : o.node.mode < 4294967296
  atime : o.node.atime < 4294967296
  mtime : o.node.mtime < 4294967296

theorem userF_len {l : List UInt8} (h : userF l = true) : l.length ≤ 32 := by
  simp only [userF, Bool.and_eq_true, decide_eq_true_eq] at h; exact h.1
theorem okName_len {l : List UInt8} (h : okName l = true) : l.length ≤ 255 := by
  simp only [okName, Bool.and_eq_true, Bool.not_eq_true', decide_eq_false_iff_not] at h
  omega

theorem set_ok {m : Nat} {t i : Inf} {n : NodeD} (h : setF m t n.i = .ok i) (ok : NodeOk n) (h1 : t.mode < 4294967296) (h2 : t.atime < 4294967296) (h3 : t.mtime < 4294967296) : Keeps n ⟨i, n.b⟩ ∧ NodeOk ⟨i, n.b⟩ ∧ i.name = n.i.name := by
  unfold setF at h
  split at h
  · cases h
  rename_i e1
  split at h
  · cases h
  rename_i e2
  simp only [Bool.or_eq_true, Bool.and_eq_true, Bool.not_eq_true', not_or, not_and, Bool.not_eq_false, Bool.not_eq_true] at e1 e2
  obtain ⟨⟨⟨⟨_, em⟩, eu⟩, eg⟩, emu⟩ := e1
  cases h
  have hd : dirF (if m.testBit 0 = true then t.mode else n.i.mode) = dirF n.i.mode := by
    by_cases hb : m.testBit 0 = true
    · rw [if_pos hb]; simpa using e2 hb
    · rw [if_neg hb]
  refine ⟨⟨rfl, rfl, hd⟩, ⟨ok.len, ok.few, ok.kids, ?_, ?_, ?_, ?_, ok.op0, ok.op1, fun hq => ok.dir (by rw [← hd]; exact hq), ok.name, ?_, ?_, ?_⟩, rfl⟩
  · show (if _ then _ else _) < _
    split
    · exact h1
    · exact ok.mode
  · show (if _ then _ else _) < _
    split
    · exact h2
    · exact ok.atime
  · show (if _ then _ else _) < _
    split
    · exact h3
    · exact ok.mtime
  · show (if _ then _ else _) < _
    split
    · exact Nat.mod_lt _ (by decide)
    · exact ok.vers
  · show List.length (if _ then _ else _) ≤ _
    split
    · exact userF_len (eu (by assumption))
    · exact ok.uid
  · show List.length (if _ then _ else _) ≤ _
    split
    · exact userF_len (eg (by assumption))
    · exact ok.gid
  · show List.length (if _ then _ else _) ≤ _
    split
    · exact userF_len (emu (by assumption))
    · exact ok.muid
theorem cut_ok {k : Nat} {n n' : NodeD} (h : cutF k n = .ok n') (ok : NodeOk n) : Keeps n n' ∧ NodeOk n' ∧ n'.i.name = n.i.name := by
  unfold cutF at h
  split at h
  · cases h
  split at h
  · cases h
  rename_i e1 e2
  cases h
  have hl := padF_len n.b k
  refine ⟨⟨rfl, rfl, rfl⟩, ⟨hl.symm, by show (padF n.b k).length ≤ _; omega, ok.kids, ok.mode, ok.atime, ok.mtime, ok.vers, ok.op0, ok.op1, fun hq => absurd hq e1, ok.name, ok.uid, ok.gid, ok.muid⟩, rfl⟩
theorem bytes_ok {off : Nat} {d : List UInt8} {n n' : NodeD} (h : bytesF off d n = .ok n') (ok : NodeOk n) : Keeps n n' ∧ NodeOk n' ∧ n'.i.name = n.i.name := by
  unfold bytesF at h
  split at h
  · cases h
  split at h
  · cases h
  split at h
  · cases h
  rename_i e1 e2 e3
  cases h
  have hl := layF_len n.b off d
  have h1 := ok.len
  have h2 := ok.few
  refine ⟨⟨rfl, rfl, rfl⟩, ⟨by show max n.i.length _ = (layF n.b off d).length; omega, by show (layF n.b off d).length ≤ _; omega, ok.kids, ok.mode, ok.atime, ok.mtime, ok.vers, ok.op0, ok.op1, fun hq => absurd hq e1, ok.name, ok.uid, ok.gid, ok.muid⟩, rfl⟩
theorem opens_ok {k : Int} {n : NodeD} {i : Inf} (h : opensF k n.i = .ok i) (ok : NodeOk n) : Keeps n ⟨i, n.b⟩ ∧ NodeOk ⟨i, n.b⟩ ∧ i.name = n.i.name := by
  unfold opensF at h
  split at h
  · cases h
  rename_i e1
  cases h
  exact ⟨⟨rfl, rfl, rfl⟩, ⟨ok.len, ok.few, ok.kids, ok.mode, ok.atime, ok.mtime, ok.vers, by show 0 ≤ n.i.opens + k; omega, by show n.i.opens + k ≤ _; omega, ok.dir, ok.name, ok.uid, ok.gid, ok.muid⟩, rfl⟩
theorem one_wf {s : SD} (h : Wf s) {n : NodeD} (hn : n ∈ s.L) {r : Except Nat NodeD} (hr : ∀ n', r = .ok n' → Keeps n n' ∧ NodeOk n' ∧ n'.i.name = n.i.name) : Wf (oneF s n.i.path r).1 := by
  cases r with
  | error e => exact h
  | ok n' =>
    obtain ⟨k, ok, e⟩ := hr n' rfl
    exact upd_wf h hn k ok fun h1 => by rw [e]; exact name_free h hn h1
theorem info_ok {n n' : NodeD} {r : Except Nat Inf} (h : infoF n r = .ok n') : ∃ i, r = .ok i ∧ n' = ⟨i, n.b⟩ := by
  cases r with
  | error e => cases h
  | ok i => cases h; exact ⟨i, rfl, rfl⟩
theorem upd_fun {L : List NodeD} (hr : L.Pairwise fun a b => a.i.path < b.i.path) {n : NodeD} (hn : n ∈ L) (f : NodeD → NodeD) : updN L n.i.path f = updN L n.i.path fun _ => f n := by
  unfold updN
  refine List.map_congr_left fun x hx => ?_
  split
  · rename_i e; rw [rise_inj hr hx hn e]
  · rfl

theorem do_wf {s : SD} (h : Wf s) {o : OpD} (ho : OpOk o) : Wf (doF s o).1 := by
  unfold doF
  split
  · exact h
  cases hf : findN s.L o.path with
  | none => exact h
  | some n =>
    obtain ⟨hn, hp⟩ := find_some hf
    have ok := h.ok n hn
    simp only
    split
    · -- make
      unfold makeF
      split
      · exact h
      split
      · exact h
      split
      · exact h
      split
      · exact h
      split
      · exact h
      rename_i e1 e2 e3 e4 e5
      simp only [Bool.not_eq_true', Bool.not_eq_false, Bool.and_eq_true, Option.not_isSome, Option.isNone_iff_eq_none] at e1 e2 e3 e4
      refine make_wf h hn e1 ⟨rfl, by simp, rfl, ho.mode, ho.atime, ho.mtime, by simp, by simp, by simp, fun _ => rfl, okName_len e3, userF_len e2.1.1.2, userF_len e2.1.2, userF_len e2.2⟩ rfl rfl (by simpa using e4) (by omega)
    split
    · unfold delF
      split
      · exact h
      split
      · exact h
      rename_i e1 e2
      exact drop_wf h hn e1 e2
    split
    · unfold callF
      split
      · exact h
      split
      · exact h
      rename_i e1 e2
      simp only [Bool.not_eq_true', Bool.not_eq_false] at e2
      have key : (∀ m ∈ s.L, m.i.path ≠ 1 → m.i.path ≠ n.i.path → m.i.parent = n.i.parent → m.i.name ≠ o.name) → Wf { s with L := updN s.L n.i.path fun n => ⟨{ n.i with name := o.name }, n.b⟩ } := fun hfree => by
        rw [upd_fun h.rise hn]
        exact upd_wf h hn ⟨rfl, rfl, rfl⟩ ⟨ok.len, ok.few, ok.kids, ok.mode, ok.atime, ok.mtime, ok.vers, ok.op0, ok.op1, ok.dir, okName_len e2, ok.uid, ok.gid, ok.muid⟩ fun _ => hfree
      cases hc : childF s.L n.i.parent o.name with
      | none => exact key fun m hm h1 h2 h3 => child_none hc m hm ((isKid_iff h hm).2 ⟨h3, h1⟩)
      | some q =>
        simp only
        split
        · rename_i hq
          refine key fun m hm h1 h2 h3 h4 => h2 ?_
          obtain ⟨c, hcm, c1, c2, c3⟩ := child_some hc
          obtain ⟨c4, c5⟩ := (isKid_iff h hcm).1 c2
          have := h.one m hm c hcm h1 c5 (h3.trans c4.symm) (h4.trans c3.symm)
          omega
        · exact h
    split
    · rw [← hp]
      refine one_wf h hn fun n' hr => ?_
      obtain ⟨i, h1, rfl⟩ := info_ok hr
      exact set_ok h1 ok ho.mode ho.atime ho.mtime
    split
    · rw [← hp]
      exact one_wf h hn fun n' hr => cut_ok hr ok
    split
    · rw [← hp]
      exact one_wf h hn fun n' hr => bytes_ok hr ok
    · rw [← hp]
      refine one_wf h hn fun n' hr => ?_
      obtain ⟨i, h1, rfl⟩ := info_ok hr
      exact opens_ok h1 ok
end Go.Proofs.YtijnmokpihhhcaaDoor

namespace Go.Proofs.YtijnmokpihhhcaaDoor
open Go
open Go.RowKit (wrap32)
set_option linter.unusedVariables false
set_option linter.unusedSimpArgs false
set_option maxRecDepth 100000

section
variable {P : Program}
/-- A call of a named function, with one argument, is put off. -/
theorem deferF_of {K : Value → World → Prop} {D : Deferred → World → Prop} {Pc : List PanicEntry → World → Prop} {d : Option Nat} {t : Nat} {f : Nat} {ats : Array TypeId} {ty : TypeId} {p : String} {af : Array Edge} {g : Option (Nat × Bool)} {e : FA} {w : World} {θ : Tag (K, D, Pc)}
    (h : D { target := .fn (.func f) #[], args := #[e.ρ t] } w) : rawD P K D Pc (opS ⟨d, .defer { callee := .value (.func f), args := #[.tmp t], argTypes := ats }, ty, p, af, g⟩ e) w θ := by
  show upon P K D Pc ((execOp e.ev _).run P w)
  have : (execOp e.ev ⟨d, .defer { callee := .value (.func f), args := #[.tmp t], argTypes := ats }, ty, p, af, g⟩).run P w = .ok (.defer { target := .fn (.func f) #[], args := #[e.ρ t] }) w := by
    simp [execOp, resolve, FA.ev, go_sem]
  rw [this]
  exact h

theorem leaveF {f : Nat} {args : Array Value} {ds : List Deferred} {w : World} {K : FrameMode → World → Prop} {Q : World → Prop} (hf : fnOk0 P f = true)
    (h : CallsDIn (Fr none) 0 P f args .returning w fun e u' w' => u' = .returning ∧ (e = .returned (.tuple #[]) ∧ Q w'))
    (hK : ∀ w', Q w' → leaveD P ds .returning w' K) : leaveD P ({ target := .fn (.func f) #[], args := args } :: ds) .returning w K :=
  ⟨by simp, .func f, #[], f, args, rfl, by
    show (invoke (.fn (.func f) #[]) args).run P w = _
    simp only [invoke, Array.append_empty]
    exact fnOk0_run hf _ _, CallsDIn.mono' h fun e u' w' => by
      rintro ⟨rfl, rfl, q⟩
      exact hK w' q⟩
end

section
variable {w0 w : World} {A : HP} {C : HP → HP} {b : Nat} {arr : Array Value} {T : TypeId}

theorem lockH (h : St w0 A w) [i : Hole (.blk b) A (Blk b (.cells arr T (0, 0))) C] (h0 : arr[0]? = some (.int .i32 0)) :
    Calls Tryd.prog 41 #[.pointer (some ⟨b, 0, none⟩)] w fun e w' => St w0 (C (Blk b (.cells (arr.setIfInBounds 0 (.int .i32 1)) T (0, 0)))) w' ∧ e = .returned (.tuple #[]) := by
  obtain ⟨R, hR, h'⟩ := h.out (.blk b)
  refine (MuLone.lock_free muLib ⟨b, 0, none⟩ w ((h'.cells 0).trans h0) (h'.thaw 0)).mono ?_
  rintro e w' ⟨rfl, rfl⟩
  rw [hR]
  exact ⟨h'.setCell 0 _, rfl⟩

theorem unlockL (h : St w0 A w) [i : Hole (.blk b) A (Blk b (.cells arr T (0, 0))) C] (h0 : arr[0]? = some (.int .i32 1)) {ds : List Deferred} {K : FrameMode → World → Prop}
    (hK : ∀ w', St w0 (C (Blk b (.cells (arr.setIfInBounds 0 (.int .i32 0)) T (0, 0)))) w' → leaveD Tryd.prog ds .returning w' K) :
    leaveD Tryd.prog ({ target := .fn (.func 42) #[], args := #[.pointer (some ⟨b, 0, none⟩)] } :: ds) .returning w K := by
  obtain ⟨R, hR, h'⟩ := h.out (.blk b)
  refine leaveF (by kernel_rfl) (CallsDIn.mono' (unlockIn ⟨b, 0, none⟩ .returning w ((h'.cells 0).trans h0) (h'.thaw 0)) ?_) hK
  rintro e u' w' ⟨rfl, rfl, rfl⟩
  refine ⟨rfl, rfl, ?_⟩
  rw [hR]
  exact h'.setCell 0 _

theorem rlockH (h : St w0 A w) [i : Hole (.blk b) A (Blk b (.cells arr T (0, 0))) C] {x0 x3 : Value} {rc : Int} (h0 : arr[0]? = some x0) (h3 : arr[3]? = some x3) (h4 : arr[4]? = some (.int .i32 rc)) (hrc : 0 ≤ rc ∧ rc < 1000) :
    Calls Tryd.prog 36 #[.pointer (some ⟨b, 0, none⟩)] w fun e w' => St w0 (C (Blk b (.cells (arr.setIfInBounds 4 (.int .i32 (rc + 1))) T (0, 0)))) w' ∧ e = .returned (.tuple #[]) := by
  obtain ⟨R, hR, h'⟩ := h.out (.blk b)
  have hw : wrap32 (rc + 1) = rc + 1 := by unfold wrap32; omega
  have hp : ¬ wrap32 (rc + 1) < 0 := by rw [hw]; omega
  have k := RwLone.rlock_open rwRLib b 0 rc x0 x3 w ((h'.cells 0).trans h0) ((h'.cells 3).trans h3) ((h'.cells 4).trans h4) (h'.thaw 4) hp
  refine k.mono ?_
  rintro e w' ⟨rfl, rfl⟩
  rw [hR, hw]
  exact ⟨h'.setCell 4 _, rfl⟩

theorem runlockL (h : St w0 A w) [i : Hole (.blk b) A (Blk b (.cells arr T (0, 0))) C] {x0 x2 : Value} {rc : Int} (h0 : arr[0]? = some x0) (h2 : arr[2]? = some x2) (h4 : arr[4]? = some (.int .i32 (rc + 1))) (hrc : 0 ≤ rc ∧ rc < 1000) {ds : List Deferred} {K : FrameMode → World → Prop}
    (hK : ∀ w', St w0 (C (Blk b (.cells (arr.setIfInBounds 4 (.int .i32 rc)) T (0, 0)))) w' → leaveD Tryd.prog ds .returning w' K) :
    leaveD Tryd.prog ({ target := .fn (.func 37) #[], args := #[.pointer (some ⟨b, 0, none⟩)] } :: ds) .returning w K := by
  obtain ⟨R, hR, h'⟩ := h.out (.blk b)
  have hw : wrap32 (rc + 1 + -1) = rc := by unfold wrap32; omega
  have hp : ¬ wrap32 (rc + 1 + -1) < 0 := by rw [hw]; omega
  have k := runlockIn b 0 (rc + 1) x0 x2 .returning w ((h'.cells 0).trans h0) ((h'.cells 2).trans h2) ((h'.cells 4).trans h4) (h'.thaw 4) hp
  refine leaveF (by kernel_rfl) (CallsDIn.mono' k ?_) hK
  rintro e u' w' ⟨rfl, rfl, rfl⟩
  refine ⟨rfl, rfl, ?_⟩
  rw [hR, hw]
  exact h'.setCell 4 _

theorem wlockH (h : St w0 A w) [i : Hole (.blk b) A (Blk b (.cells arr T (0, 0))) C] {x2 x3 : Value} (h0 : arr[0]? = some (.int .i32 0)) (h2 : arr[2]? = some x2) (h3 : arr[3]? = some x3) (h4 : arr[4]? = some (.int .i32 0)) :
    Calls Tryd.prog 52 #[.pointer (some ⟨b, 0, none⟩)] w fun e w' => St w0 (C (Blk b (.cells ((arr.setIfInBounds 0 (.int .i32 1)).setIfInBounds 4 (.int .i32 (-1073741824))) T (0, 0)))) w' ∧ e = .returned (.tuple #[]) := by
  obtain ⟨R, hR, h'⟩ := h.out (.blk b)
  have k := RwLone.wlock_free rwWLib b 0 x2 x3 w ((h'.cells 0).trans h0) ((h'.cells 2).trans h2) ((h'.cells 3).trans h3) ((h'.cells 4).trans h4) (h'.thaw 0) (h'.thaw 4)
  refine k.mono ?_
  rintro e w' ⟨rfl, rfl⟩
  rw [hR]
  exact ⟨(h'.setCell 0 _).setCell 4 _, rfl⟩

theorem wunlockL (h : St w0 A w) [i : Hole (.blk b) A (Blk b (.cells arr T (0, 0))) C] {x2 x3 : Value} (h0 : arr[0]? = some (.int .i32 1)) (h2 : arr[2]? = some x2) (h3 : arr[3]? = some x3) (h4 : arr[4]? = some (.int .i32 (-1073741824))) {ds : List Deferred} {K : FrameMode → World → Prop}
    (hK : ∀ w', St w0 (C (Blk b (.cells ((arr.setIfInBounds 4 (.int .i32 0)).setIfInBounds 0 (.int .i32 0)) T (0, 0)))) w' → leaveD Tryd.prog ds .returning w' K) :
    leaveD Tryd.prog ({ target := .fn (.func 53) #[], args := #[.pointer (some ⟨b, 0, none⟩)] } :: ds) .returning w K := by
  obtain ⟨R, hR, h'⟩ := h.out (.blk b)
  have k := wunlockIn b 0 x2 x3 .returning w ((h'.cells 0).trans h0) ((h'.cells 2).trans h2) ((h'.cells 3).trans h3) ((h'.cells 4).trans h4) (h'.thaw 0) (h'.thaw 4)
  refine leaveF (by kernel_rfl) (CallsDIn.mono' k ?_) hK
  rintro e u' w' ⟨rfl, rfl, rfl⟩
  refine ⟨rfl, rfl, ?_⟩
  rw [hR]
  exact (h'.setCell 4 _).setCell 0 _
end
end Go.Proofs.YtijnmokpihhhcaaDoor

namespace Go.Proofs.YtijnmokpihhhcaaDoor
open Go
set_option linter.unusedVariables false
set_option linter.unusedSimpArgs false
section
variable {P : Program} {T : TypeId}
theorem bv_ofNat {n m : Nat} : BitVec.ofInt n (m : Int) = BitVec.ofNat n m := by simp
theorem wN32 {x : Nat} (h : x < 4294967296) : IntKind.u32.wrap (x : Int) = x := by
  simp only [IntKind.wrap, IntKind.signed, IntKind.bits, Bool.false_and, Bool.false_eq_true, if_false]
  omega
theorem wN8 {x : Nat} (h : x < 256) : IntKind.u8.wrap (x : Int) = x := by
  simp only [IntKind.wrap, IntKind.signed, IntKind.bits, Bool.false_and, Bool.false_eq_true, if_false]
  omega
theorem bvN {n m : Nat} (h : m < 2 ^ n) : (BitVec.ofInt n (m : Int)).toNat = m := by
  rw [bv_ofNat, BitVec.toNat_ofNat, Nat.mod_eq_of_lt h]
theorem bAnd32 {m : Nat} {c : Int} (hm : m < 4294967296) (hc : 0 ≤ c ∧ c < 4294967296) : binV P .and T (.int .u32 m) (.int .u32 c) = some (.int .u32 ((m &&& c.toNat : Nat) : Int)) := by
  obtain ⟨c, rfl⟩ := Int.eq_ofNat_of_zero_le hc.1
  have hc2 : c < 2 ^ 32 := by omega
  have := Nat.and_lt_two_pow m (n := 32) (y := c) hc2
  show some (Value.int .u32 (IntKind.u32.wrap ((BitVec.ofInt 32 (m:Int) &&& BitVec.ofInt 32 (c:Int)).toNat : Int))) = _
  rw [BitVec.toNat_and, bvN (n := 32) hm, bvN hc2, Int.toNat_natCast, wN32 (by omega)]
theorem bAnd8 {m : Nat} {c : Int} (hm : m < 256) (hc : 0 ≤ c ∧ c < 256) : binV P .and T (.int .u8 m) (.int .u8 c) = some (.int .u8 ((m &&& c.toNat : Nat) : Int)) := by
  obtain ⟨c, rfl⟩ := Int.eq_ofNat_of_zero_le hc.1
  have hc2 : c < 2 ^ 8 := by omega
  have := Nat.and_lt_two_pow m (n := 8) (y := c) hc2
  show some (Value.int .u8 (IntKind.u8.wrap ((BitVec.ofInt 8 (m:Int) &&& BitVec.ofInt 8 (c:Int)).toNat : Int))) = _
  rw [BitVec.toNat_and, bvN (n := 8) hm, bvN hc2, Int.toNat_natCast, wN8 (by omega)]
theorem bXor32 {m c : Nat} (hm : m < 4294967296) (hc : c < 4294967296) : binV P .xor T (.int .u32 m) (.int .u32 c) = some (.int .u32 ((m ^^^ c : Nat) : Int)) := by
  have := Nat.xor_lt_two_pow (n := 32) (x := m) (y := c) hm hc
  show some (Value.int .u32 (IntKind.u32.wrap ((BitVec.ofInt 32 (m:Int) ^^^ BitVec.ofInt 32 (c:Int)).toNat : Int))) = _
  rw [BitVec.toNat_xor, bvN (n := 32) hm, bvN (n := 32) hc, wN32 (by omega)]
theorem bOr32 {m : Nat} {c : Int} (hm : m < 4294967296) (hc : 0 ≤ c ∧ c < 4294967296) : binV P .or T (.int .u32 c) (.int .u32 m) = some (.int .u32 ((c.toNat ||| m : Nat) : Int)) := by
  obtain ⟨c, rfl⟩ := Int.eq_ofNat_of_zero_le hc.1
  have hc2 : c < 2 ^ 32 := by omega
  have := Nat.or_lt_two_pow (n := 32) (x := c) (y := m) hc2 hm
  show some (Value.int .u32 (IntKind.u32.wrap ((BitVec.ofInt 32 (c:Int) ||| BitVec.ofInt 32 (m:Int)).toNat : Int))) = _
  rw [BitVec.toNat_or, bvN (n := 32) hm, bvN hc2, Int.toNat_natCast, wN32 (by omega)]
theorem bNot32 {m : Nat} {c : Int} (hm : m < 4294967296) (hc : 0 ≤ c ∧ c < 4294967296) : binV P .andNot T (.int .u32 m) (.int .u32 c) = some (.int .u32 ((m &&& (4294967295 - c.toNat) : Nat) : Int)) := by
  obtain ⟨c, rfl⟩ := Int.eq_ofNat_of_zero_le hc.1
  have hc2 : c < 2 ^ 32 := by omega
  have := Nat.and_le_left (n := m) (m := 4294967295 - c)
  show some (Value.int .u32 (IntKind.u32.wrap ((BitVec.ofInt 32 (m:Int) &&& ~~~BitVec.ofInt 32 (c:Int)).toNat : Int))) = _
  rw [BitVec.toNat_and, BitVec.toNat_not, bvN (n := 32) hm, bvN hc2, Int.toNat_natCast, show 2 ^ 32 - 1 - c = 4294967295 - c from rfl, wN32 (by omega)]
theorem bNot8 {m : Nat} {c : Int} (hm : m < 256) (hc : 0 ≤ c ∧ c < 256) : binV P .andNot T (.int .u8 m) (.int .u8 c) = some (.int .u8 ((m &&& (255 - c.toNat) : Nat) : Int)) := by
  obtain ⟨c, rfl⟩ := Int.eq_ofNat_of_zero_le hc.1
  have hc2 : c < 2 ^ 8 := by omega
  have := Nat.and_le_left (n := m) (m := 255 - c)
  show some (Value.int .u8 (IntKind.u8.wrap ((BitVec.ofInt 8 (m:Int) &&& ~~~BitVec.ofInt 8 (c:Int)).toNat : Int))) = _
  rw [BitVec.toNat_and, BitVec.toNat_not, bvN (n := 8) hm, bvN hc2, Int.toNat_natCast, show 2 ^ 8 - 1 - c = 255 - c from rfl, wN8 (by omega)]

/-! ### One bit -/
theorem and_bit (m k : Nat) : m &&& 2 ^ k = if m.testBit k then 2 ^ k else 0 := by
  apply Nat.eq_of_testBit_eq
  intro j
  rw [Nat.testBit_and, Nat.testBit_two_pow]
  by_cases e : k = j
  · subst e
    cases h : m.testBit k <;> simp
  · cases h : m.testBit k <;> simp [e, Nat.testBit_two_pow]
theorem dirF_bit {m : Nat} (hm : m < 4294967296) : dirF m = m.testBit 31 := by
  rw [Nat.testBit_eq_decide_div_mod_eq]
  unfold dirF
  rw [decide_eq_decide]
  omega
/-- Is it a directory's mode? -/
theorem bDir {m : Nat} (hm : m < 4294967296) : binV P .and T (.int .u32 m) (.int .u32 2147483648) = some (.int .u32 (if dirF m then 2147483648 else 0)) := by
  rw [bAnd32 hm (by omega), show (2147483648 : Int).toNat = 2 ^ 31 from rfl, and_bit, dirF_bit hm]
  cases m.testBit 31 <;> rfl
theorem bDirX {m c : Nat} (hm : m < 4294967296) (hc : c < 4294967296) : binV P .and T (.int .u32 ((m ^^^ c : Nat) : Int)) (.int .u32 2147483648) = some (.int .u32 (if dirF m == dirF c then 0 else 2147483648)) := by
  have := Nat.xor_lt_two_pow (n := 32) (x := m) (y := c) hm hc
  rw [bAnd32 this (by omega), show (2147483648 : Int).toNat = 2 ^ 31 from rfl, and_bit, dirF_bit hm, dirF_bit hc, Nat.testBit_xor]
  cases m.testBit 31 <;> cases c.testBit 31 <;> rfl
theorem bMask {m : Nat} (hm : m < 256) (k : Nat) (hk : k < 8) {c : Int} (hc : c = ((2 ^ k : Nat) : Int)) : binV P .and T (.int .u8 m) (.int .u8 c) = some (.int .u8 (if m.testBit k then c else 0)) := by
  have h2 : 2 ^ k < 256 := Nat.pow_lt_pow_right (a := 2) (by omega) hk
  subst hc
  obtain ⟨x, hx⟩ : ∃ x, x = 2 ^ k := ⟨_, rfl⟩
  rw [← hx] at h2 ⊢
  rw [bAnd8 hm (by omega), Int.toNat_natCast, hx, and_bit]
  cases m.testBit k <;> rfl
theorem bAll {m : Nat} (hm : m < 256) : binV P .andNot T (.int .u8 m) (.int .u8 127) = some (.int .u8 (if m.testBit 7 then 128 else 0)) := by
  rw [bNot8 hm (by omega), show 255 - (127 : Int).toNat = 2 ^ 7 from rfl, and_bit]
  cases m.testBit 7 <;> rfl
theorem bMode {m : Nat} (hm : m < 4294967296) : binV P .andNot T (.int .u32 m) (.int .u32 3825205759) = some (.int .u32 ((m &&& 469761536 : Nat) : Int)) := by
  rw [bNot32 hm (by omega)]
  rfl
end
end Go.Proofs.YtijnmokpihhhcaaDoor

namespace Go.Proofs.YtijnmokpihhhcaaDoor
open Go

section assoc
variable {κ α β : Type} [DecidableEq κ]

def agt (x : κ) : List (κ × α) → Option α
  | [] => none
  | (y, v) :: l => if x = y then some v else agt x l
def aset (x : κ) (v : α) : List (κ × α) → List (κ × α)
  | [] => [(x, v)]
  | (y, u) :: l => if x = y then (x, v) :: l else (y, u) :: aset x v l
def adel (x : κ) : List (κ × α) → List (κ × α)
  | [] => []
  | (y, u) :: l => if x = y then l else (y, u) :: adel x l
def amap (f : α → β) (l : List (κ × α)) : List (κ × β) := l.map fun p => (p.1, f p.2)

omit [DecidableEq κ] in
theorem amap_keys (f : α → β) (l : List (κ × α)) : (amap f l).map (·.1) = l.map (·.1) := by simp only [amap, List.map_map]; rfl
theorem agt_amap (f : α → β) (x : κ) : ∀ l : List (κ × α), agt x (amap f l) = (agt x l).map f
  | [] => rfl
  | (y, v) :: l => by
    have ih := agt_amap f x l
    simp only [amap, List.map_cons, agt] at ih ⊢
    split
    · rfl
    · exact ih
theorem aset_amap (f : α → β) (x : κ) (v : α) : ∀ l : List (κ × α), aset x (f v) (amap f l) = amap f (aset x v l)
  | [] => rfl
  | (y, u) :: l => by
    have ih := aset_amap f x v l
    simp only [amap, List.map_cons, aset] at ih ⊢
    split
    · rfl
    · simp only [List.map_cons, ih]
theorem adel_amap (f : α → β) (x : κ) : ∀ l : List (κ × α), adel x (amap f l) = amap f (adel x l)
  | [] => rfl
  | (y, u) :: l => by
    have ih := adel_amap f x l
    simp only [amap, List.map_cons, adel] at ih ⊢
    split
    · rfl
    · simp only [List.map_cons, ih]
theorem lk_amap (f : α → Value) (x : κ) (l : List (κ × α)) : lk x (amap f l) = (agt x l).map f := by
  have : ∀ m : List (κ × Value), lk x m = agt x m := fun m => by
    induction m with
    | nil => rfl
    | cons p m ih => simp only [lk, agt, ih]
  rw [this, agt_amap]
theorem upd_amap (f : α → Value) (x : κ) (v : α) (l : List (κ × α)) : upd x (f v) (amap f l) = amap f (aset x v l) := by
  have : ∀ m : List (κ × Value), upd x (f v) m = aset x (f v) m := fun m => by
    induction m with
    | nil => rfl
    | cons p m ih => simp only [upd, aset, ih]
  rw [this, aset_amap]
theorem del_amap (f : α → Value) (x : κ) (l : List (κ × α)) : del x (amap f l) = amap f (adel x l) := by
  have : ∀ m : List (κ × Value), del x m = adel x m := fun m => by
    induction m with
    | nil => rfl
    | cons p m ih => simp only [del, adel, ih]
  rw [this, adel_amap]
/-- Where x is there already, a new value of the same face leaves the faces as they are. -/
theorem amap_aset_same (f : α → β) (x : κ) (u v : α) (hf : f u = f v) : ∀ l : List (κ × α), agt x l = some u → amap f (aset x v l) = amap f l
  | [], h => by cases h
  | (y, w) :: l, h => by
    simp only [agt, aset] at h ⊢
    split
    · rename_i hx
      rw [if_pos hx] at h
      simp only [Option.some.injEq] at h
      subst h
      simp [amap, hx, hf]
    · rename_i hx
      rw [if_neg hx] at h
      have := amap_aset_same f x u v hf l h
      simp only [amap, List.map_cons] at this ⊢
      rw [this]
theorem aset_same (x : κ) (v : α) : ∀ l : List (κ × α), agt x l = some v → aset x v l = l
  | [], h => by cases h
  | (y, w) :: l, h => by
    simp only [agt, aset] at h ⊢
    split
    · rename_i hx
      rw [if_pos hx] at h
      simp only [Option.some.injEq] at h
      subst h
      rw [hx]
    · rename_i hx
      rw [if_neg hx] at h
      rw [aset_same x v l h]
theorem aset_aset (x : κ) (u v : α) : ∀ l : List (κ × α), aset x v (aset x u l) = aset x v l
  | [] => by simp [aset]
  | (y, w) :: l => by
    simp only [aset]
    split
    · simp [aset]
    · rename_i hx
      simp only [aset, if_neg hx, aset_aset x u v l]
theorem agt_aset (x : κ) (v : α) : ∀ l : List (κ × α), agt x (aset x v l) = some v
  | [] => by simp [aset, agt]
  | (y, w) :: l => by
    simp only [aset]
    split
    · simp [agt]
    · rename_i hx
      simp only [agt, if_neg hx, agt_aset x v l]

/-- A star over a list. -/
def stars (A : κ × α → HP) : List (κ × α) → HP
  | [] => EmpH
  | p :: l => A p * stars A l
theorem stars_aset (A : κ × α → HP) (x : κ) (u v : α) : ∀ l : List (κ × α), agt x l = some u → stars A (aset x v l) = A (x, v) * stars A (adel x l)
  | [], h => by cases h
  | (y, w) :: l, h => by
    simp only [agt, aset, adel] at h ⊢
    split
    · rfl
    · rename_i hx
      rw [if_neg hx] at h
      simp only [stars, stars_aset A x u v l h]
      ac_rfl
theorem stars_open (A : κ × α → HP) (x : κ) (u : α) (l : List (κ × α)) (h : agt x l = some u) : stars A l = A (x, u) * stars A (adel x l) := by
  have := stars_aset A x u u l h
  rwa [aset_same x u l h] at this
theorem stars_new (A : κ × α → HP) (x : κ) (v : α) : ∀ l : List (κ × α), agt x l = none → stars A (aset x v l) = A (x, v) * stars A l
  | [], _ => rfl
  | (y, w) :: l, h => by
    simp only [agt, aset] at h ⊢
    split
    · rename_i hx
      rw [if_pos hx] at h
      cases h
    · rename_i hx
      rw [if_neg hx] at h
      simp only [stars, stars_new A x v l h]
      ac_rfl
end assoc

end Go.Proofs.YtijnmokpihhhcaaDoor

namespace Go.Proofs.YtijnmokpihhhcaaDoor
open Go
section al
variable {κ α : Type} [DecidableEq κ]
theorem agt_of_mem {x : κ} {v : α} : ∀ {l : List (κ × α)}, (l.map (·.1)).Nodup → (x, v) ∈ l → agt x l = some v
  | (y, u) :: l, hn, hm => by
    simp only [List.map_cons, List.nodup_cons] at hn
    rcases List.mem_cons.1 hm with h | h
    · simp only [Prod.mk.injEq] at h
      simp [agt, h.1, h.2]
    · have : x ≠ y := fun e => hn.1 (e ▸ List.mem_map.2 ⟨(x, v), h, rfl⟩)
      simp only [agt, if_neg this]
      exact agt_of_mem hn.2 h
theorem mem_of_agt {x : κ} {v : α} : ∀ {l : List (κ × α)}, agt x l = some v → (x, v) ∈ l
  | (y, u) :: l, h => by
    simp only [agt] at h
    split at h
    · rename_i e
      simp only [Option.some.injEq] at h
      subst e h
      simp
    · exact List.mem_cons_of_mem _ (mem_of_agt h)
theorem agt_aset_if (x y : κ) (v : α) : ∀ l : List (κ × α), agt y (aset x v l) = if y = x then some v else agt y l
  | [] => by simp only [aset, agt]
  | (z, u) :: l => by
    have ih := agt_aset_if x y v l
    by_cases h : x = z
    · subst h
      by_cases hy : y = x <;> simp [aset, agt, hy]
    · by_cases hy : y = x
      · subst hy
        simp [aset, agt, h, ih]
      · by_cases hz : y = z
        · subst hz
          simp [aset, agt, h, hy]
        · simp [aset, agt, h, hy, hz, ih]
theorem agt_none_of_notin {x : κ} : ∀ {l : List (κ × α)}, x ∉ l.map (·.1) → agt x l = none
  | [], _ => rfl
  | (z, u) :: l, h => by
    simp only [List.map_cons, List.mem_cons, not_or] at h
    simp [agt, h.1, agt_none_of_notin h.2]
theorem agt_adel_if {x y : κ} : ∀ {l : List (κ × α)}, (l.map (·.1)).Nodup → agt y (adel x l) = if y = x then none else agt y l
  | [], _ => by simp [adel, agt]
  | (z, u) :: l, hn => by
    simp only [List.map_cons, List.nodup_cons] at hn
    have ih := agt_adel_if (x := x) (y := y) hn.2
    by_cases h : x = z
    · subst h
      by_cases hy : y = x
      · subst hy
        simp [adel, agt_none_of_notin hn.1]
      · simp [adel, agt, hy]
    · by_cases hy : y = x
      · subst hy
        simp [adel, agt, h, ih]
      · by_cases hz : y = z
        · subst hz
          simp [adel, agt, h, hy]
        · simp [adel, agt, h, hy, hz, ih]
theorem adel_keys (x : κ) : ∀ l : List (κ × α), ((adel x l).map (·.1)).Sublist (l.map (·.1))
  | [] => .slnil
  | (z, u) :: l => by
    simp only [adel]
    split
    · exact List.sublist_cons_self _ _
    · exact (adel_keys x l).cons_cons _
theorem adel_nodup {x : κ} {l : List (κ × α)} (h : (l.map (·.1)).Nodup) : ((adel x l).map (·.1)).Nodup := (adel_keys x l).nodup h
theorem aset_keys (x : κ) (v : α) : ∀ l : List (κ × α), ∀ y ∈ (aset x v l).map (·.1), y = x ∨ y ∈ l.map (·.1)
  | [], y, h => by simpa [aset] using h
  | (z, u) :: l, y, h => by
    simp only [aset] at h
    split at h
    · rename_i e
      simp only [List.map_cons, List.mem_cons] at h ⊢
      rcases h with h | h
      · exact .inl h
      · exact .inr (.inr h)
    · simp only [List.map_cons, List.mem_cons] at h ⊢
      rcases h with h | h
      · exact .inr (.inl h)
      · rcases aset_keys x v l y h with h | h
        · exact .inl h
        · exact .inr (.inr h)
theorem aset_nodup {x : κ} {v : α} : ∀ {l : List (κ × α)}, (l.map (·.1)).Nodup → ((aset x v l).map (·.1)).Nodup
  | [], _ => by simp [aset]
  | (z, u) :: l, hn => by
    simp only [List.map_cons, List.nodup_cons] at hn
    simp only [aset]
    split
    · rename_i e
      subst e
      simpa using hn
    · rename_i e
      simp only [List.map_cons, List.nodup_cons]
      refine ⟨fun h => ?_, aset_nodup hn.2⟩
      rcases aset_keys x v l z h with h | h
      · exact e h.symm
      · exact hn.1 h
theorem agt_isSome_iff {x : κ} : ∀ {l : List (κ × α)}, (agt x l).isSome = true ↔ x ∈ l.map (·.1)
  | [] => by simp [agt]
  | (z, u) :: l => by
    have ih := agt_isSome_iff (x := x) (l := l)
    simp only [agt, List.map_cons, List.mem_cons]
    split
    · rename_i h; simp [h]
    · rename_i h; rw [ih]; simp [h]
theorem agt_perm {l l' : List (κ × α)} (hp : l.Perm l') (hn : (l'.map (·.1)).Nodup) (x : κ) : agt x l = agt x l' := by
  have hn' : (l.map (·.1)).Nodup := (hp.map (·.1)).nodup_iff.2 hn
  cases h : agt x l' with
  | some v => exact agt_of_mem hn' (hp.mem_iff.2 (mem_of_agt h))
  | none =>
    cases h2 : agt x l with
    | none => rfl
    | some v => rw [agt_of_mem hn (hp.mem_iff.1 (mem_of_agt h2))] at h; cases h
end al
end Go.Proofs.YtijnmokpihhhcaaDoor

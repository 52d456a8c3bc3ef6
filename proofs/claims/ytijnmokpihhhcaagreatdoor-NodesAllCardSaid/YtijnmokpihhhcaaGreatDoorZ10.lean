/- The compiled code of the functions, by program (genir.py): each with the theorem that it is what the engine makes of the loaded program's. · The library's calls, in the worlds' own words: Contains, DecodeRuneInString; whether a text is good; a file's name. · What the start held is below. · The rows of this seat list unicode/utf8's two tables: what the walks ask of the world's start follows from the lists and the world's shape; the world of the witness; the wrap that hands both. · The numbers under which this dump holds the library's locks' functions and types, and that it holds them (printed by locklink.py). · Panics, deferred calls, recover. · The library's locks, put off: as deferred calls inside this engine's fence. · A tree of nodes, changed by small operations: the plain law. · A tree of nodes: what is always so stays so. · A tree of nodes: every operation leaves a tree. · Locks over parts of memory: taken, given back, given back at a function's end. · Bits of whole numbers without sign. · Association lists: what a map's entries are, and a star over them. · Lists under a key: agt, aset, adel. Plain. · A node in memory; small checks; opens, set. · Looked for in a rising list of numbers. · Maps of one's own gone through, in whatever order. · Maps gone through, the frame looked through by instances. · A store in memory. · Blocks: what stands where, after a cut, after bytes are laid. · copy and clear over elements of one cell. · What is told of a store. -/
import Derived.Test.YtijnmokpihhhcaaGreatDoorZ1
import Derived.Test.YtijnmokpihhhcaaGreatDoorZ2
import Derived.Test.YtijnmokpihhhcaaGreatDoorZ3
import Derived.Test.YtijnmokpihhhcaaGreatDoorZ4
import Derived.Test.YtijnmokpihhhcaaGreatDoorZ5
import Derived.Test.YtijnmokpihhhcaaGreatDoorZ6
import Derived.Test.YtijnmokpihhhcaaGreatDoorZ7
import Derived.Test.YtijnmokpihhhcaaGreatDoorZ8
import Derived.Test.YtijnmokpihhhcaaGreatDoorZ9
import Derived.Lib.CountLaws
import Derived.Lib.SplitLaws
import Derived.Below
import Derived.WalkKit
import Derived.Test.YtijnmokpihhhcaaGreatDoorRows
import Derived.Lib.LaidU8
import Derived.PinnedBridge
import Derived.SizedLaws
import Derived.Lay
import Derived.Shelf.Vars
import Derived.LaidMore
import Derived.Stop.Joined
import Derived.ProofKit
import Derived.Test.YtijnmokpihhhcaaGreatDoorProg
import Derived.Conc.RwLoneW
import Derived.KernelRfl
import Derived.RecoverIn
import Derived.RangeFuncLeaves
import Derived.Laws.Build
import Derived.TacticsInMore
import Derived.Laws.IdiomCopy
namespace Go.Proofs.YtijnmokpihhhcaaGreatDoor
open Go
set_option maxRecDepth 100000
variable {P : Program} {Q : Post} {e : FA} {w : World} {args : Array Value} {R : Ending → World → Prop}

def F94.r0 : List Oper := [
  op 4 (.assign (.const (.slice none 0 0))) 97]
def F94.r1 : List Oper := [
  op 8 (.move (.tmp 0)) 97,
  op 9 (.move (.tmp 1)) 34,
  oc 10 (.call ⟨(.value (.func 99)), #[(.tmp 8), (.tmp 9)], #[97, 34]⟩) 153,
  op 7 (.move (.tmp 10)) 153,
  op 11 (.extract (.tmp 7) 0) 3,
  op 12 (.extract (.tmp 7) 1) 4,
  op 5 (.assign (.tmp 11)) 3,
  op 6 (.assign (.tmp 12)) 4]
def F94.r2 : List Oper := [
  op 13 (.move (.tmp 6)) 4]
def F94.r3 : List Oper := [
  op 14 (.move (.tmp 0)) 97,
  op 15 (.move (.tmp 5)) 3,
  op 16 (.move (.tmp 5)) 3,
  op 17 (.binOp .add 3 (.tmp 16) (.const (.int .i64 1)) 3) 3,
  oc 18 (.call ⟨(.value (.func 103)), #[(.tmp 14), (.tmp 15), (.tmp 17)], #[97, 3, 3]⟩) 97,
  op 4 (.assign (.tmp 18)) 97]
def F94.r4 : List Oper := [
  op 19 (.move (.tmp 0)) 97,
  op 4 (.assign (.tmp 19)) 97]
def F94.t4 : Cd := (.seq (.region 4 F94.r4.toArray false) .ret)
theorem F94.t4_eq {θ : Tag (F94.t4, Q, e, w)} : cwE P F94.t4 Q e w θ = cwE P (.seq (.region 4 F94.r4.toArray false) .ret) Q e w := rfl
def F94.code : Cd := (.seq (.region 0 F94.r0.toArray false) (.seq (.seq (.region 1 F94.r1.toArray false) (.seq (.region 2 F94.r2.toArray false) (.cond (.tmp 13) (.seq (.region 3 F94.r3.toArray false) .ret) .skip))) F94.t4))
theorem F94.calls (hn : args.size ≤ 20) (h : cwE Tryz.prog F94.code (fnP Tryz.prog #[(.tmp 4)] R) (entry args) w) : Calls Tryz.prog 94 args w R :=
  calls_of_cwE (types := Tryz.prog.types) follows Tryz.func94 F94.code rfl (by kernel_rfl) hn h

def F99.r0 : List Oper := [
  op 4 (.assign (.const (.int .i64 0))) 3,
  op 5 (.assign (.const (.bool false))) 4]
def F99.r1 : List Oper := [
  op 10 (.move (.tmp 0)) 97,
  op 11 (.call ⟨(.builtin .len), #[(.tmp 10)], #[97]⟩) 3,
  op 6 (.assign (.tmp 11)) 3]
def F99.r2 : List Oper := [
  op 12 (.move (.tmp 6)) 3,
  op 7 (.assign (.const (.int .i64 0))) 3,
  op 8 (.assign (.tmp 12)) 3]
def F99.r3 : List Oper := [
  op 13 (.move (.tmp 7)) 3,
  op 14 (.move (.tmp 8)) 3,
  op 15 (.binOp .lss 3 (.tmp 13) (.tmp 14) 3) 4]
def F99.r4 : List Oper := [
  op 16 (.move (.tmp 7)) 3,
  op 17 (.move (.tmp 8)) 3,
  op 18 (.binOp .add 3 (.tmp 16) (.tmp 17) 3) 3,
  op 19 (.convert 3 158 (.tmp 18)) 158,
  op 20 (.binOp .shr 158 (.tmp 19) (.const (.int .u64 1)) 158) 158,
  op 21 (.convert 158 3 (.tmp 20)) 3,
  op 9 (.assign (.tmp 21)) 3]
def F99.r5 : List Oper := [
  op 22 (.move (.tmp 0)) 97,
  op 23 (.move (.tmp 9)) 3,
  op 24 (.indexAddr 97 (.tmp 22) (.tmp 23)) 0,
  od 25 (.load 34 (.tmp 24)) 34,
  op 26 (.move (.tmp 1)) 34,
  oc 27 (.call ⟨(.value (.func 111)), #[(.tmp 25), (.tmp 26)], #[34, 34]⟩) 4]
def F99.r6 : List Oper := [
  op 28 (.move (.tmp 9)) 3,
  op 29 (.binOp .add 3 (.tmp 28) (.const (.int .i64 1)) 3) 3,
  op 7 (.assign (.tmp 29)) 3]
def F99.r7 : List Oper := [
  op 30 (.move (.tmp 9)) 3,
  op 8 (.assign (.tmp 30)) 3]
def F99.r8 : List Oper := [
  op 31 (.move (.tmp 7)) 3,
  op 32 (.move (.tmp 7)) 3,
  op 33 (.move (.tmp 6)) 3,
  op 34 (.binOp .lss 3 (.tmp 32) (.tmp 33) 3) 4,
  op 35 (.move (.tmp 34)) 4,
  ⟨(some 36), (.move (.tmp 0)), 97, "", #[], (some (35, true))⟩,
  ⟨(some 37), (.move (.tmp 7)), 3, "", #[], (some (35, true))⟩,
  ⟨(some 38), (.indexAddr 97 (.tmp 36) (.tmp 37)), 0, "", #[], (some (35, true))⟩,
  ⟨(some 39), (.load 34 (.tmp 38)), 34, "", #[⟨0, .data⟩], (some (35, true))⟩,
  ⟨(some 40), (.move (.tmp 1)), 34, "", #[], (some (35, true))⟩,
  ⟨(some 41), (.binOp .eql 34 (.tmp 39) (.tmp 40) 34), 4, "", #[], (some (35, true))⟩,
  ⟨(some 42), (.move (.tmp 41)), 4, "", #[], (some (35, true))⟩,
  ⟨(some 43), (.move (.tmp 0)), 97, "", #[], (some (42, false))⟩,
  ⟨(some 44), (.move (.tmp 7)), 3, "", #[], (some (42, false))⟩,
  ⟨(some 45), (.indexAddr 97 (.tmp 43) (.tmp 44)), 0, "", #[], (some (42, false))⟩,
  ⟨(some 46), (.load 34 (.tmp 45)), 34, "", #[⟨0, .data⟩], (some (42, false))⟩,
  ⟨(some 47), (.call ⟨(.value (.func 112)), #[(.tmp 46)], #[34]⟩), 4, "", #[⟨0, .chain⟩], (some (42, false))⟩,
  ⟨(some 48), (.move (.tmp 47)), 4, "", #[], (some (42, false))⟩,
  ⟨(some 49), (.move (.tmp 1)), 34, "", #[], (some (48, true))⟩,
  ⟨(some 50), (.call ⟨(.value (.func 112)), #[(.tmp 49)], #[34]⟩), 4, "", #[⟨0, .chain⟩], (some (48, true))⟩,
  ⟨(some 51), (.pick (.tmp 48) (.tmp 50) (.const (.bool false))), 4, "", #[], (some (42, false))⟩,
  ⟨(some 52), (.pick (.tmp 42) (.const (.bool true)) (.tmp 51)), 4, "", #[], (some (35, true))⟩,
  op 53 (.pick (.tmp 35) (.tmp 52) (.const (.bool false))) 4,
  op 4 (.assign (.tmp 31)) 3,
  op 5 (.assign (.tmp 53)) 4]
def F99.t4 : Cd := (.block 1 (.seq (.region 4 F99.r4.toArray false) (.seq (.region 5 F99.r5.toArray false) (.cond (.tmp 27) (.region 6 F99.r6.toArray false) (.region 7 F99.r7.toArray false)))))
theorem F99.t4_eq {θ : Tag (F99.t4, Q, e, w)} : cwE P F99.t4 Q e w θ = cwE P (.block 1 (.seq (.region 4 F99.r4.toArray false) (.seq (.region 5 F99.r5.toArray false) (.cond (.tmp 27) (.region 6 F99.r6.toArray false) (.region 7 F99.r7.toArray false))))) Q e w := rfl
def F99.t8 : Cd := (.seq (.region 8 F99.r8.toArray false) .ret)
theorem F99.t8_eq {θ : Tag (F99.t8, Q, e, w)} : cwE P F99.t8 Q e w θ = cwE P (.seq (.region 8 F99.r8.toArray false) .ret) Q e w := rfl
def F99.code : Cd := (.seq (.region 0 F99.r0.toArray false) (.seq (.region 1 F99.r1.toArray false) (.seq (.region 2 F99.r2.toArray false) (.seq (.block 0 (.loop (.seq (.seq (.region 3 F99.r3.toArray false) (.cond (.tmp 15) .skip (.exit 0))) F99.t4))) F99.t8))))
theorem F99.calls (hn : args.size ≤ 54) (h : cwE Tryz.prog F99.code (fnP Tryz.prog #[(.tmp 4), (.tmp 5)] R) (entry args) w) : Calls Tryz.prog 99 args w R :=
  calls_of_cwE (types := Tryz.prog.types) follows Tryz.func99 F99.code rfl (by kernel_rfl) hn h

def F100.r0 : List Oper := [
  op 2 (.assign (.const (.int .i64 0))) 3]
def F100.r1 : List Oper := [
  op 7 (.move (.tmp 0)) 9,
  oc 8 (.range 9 (.tmp 7)) 0]
def F100.r2 : List Oper := [
  oc 9 (.next (.tmp 8) true) 0,
  op 10 (.extract (.tmp 9) 0) 4]
def F100.r3 : List Oper := [
  op 11 (.extract (.tmp 9) 1) 3,
  op 12 (.extract (.tmp 9) 2) 21,
  op 3 (.assign (.tmp 11)) 3,
  op 4 (.assign (.tmp 12)) 21]
def F100.r4 : List Oper := [
  op 13 (.move (.tmp 4)) 21,
  op 14 (.binOp .eql 21 (.tmp 13) (.const (.int .i32 0)) 21) 4]
def F100.r5 : List Oper := [
  op 15 (.move (.tmp 3)) 3,
  op 2 (.assign (.tmp 15)) 3]
def F100.r6 : List Oper := [
  op 16 (.move (.tmp 4)) 21,
  op 17 (.binOp .eql 21 (.tmp 16) (.const (.int .i32 65533)) 21) 4]
def F100.r7 : List Oper := [
  op 19 (.move (.tmp 0)) 9,
  op 20 (.move (.tmp 3)) 3,
  op 21 (.slice 9 (.tmp 19) (some (.tmp 20)) none none) 9,
  oc 22 (.call ⟨(.value (.func 113)), #[(.tmp 21)], #[9]⟩) 162,
  op 18 (.move (.tmp 22)) 162,
  op 23 (.extract (.tmp 18) 0) 21,
  op 24 (.extract (.tmp 18) 1) 3,
  op 5 (.assign (.tmp 23)) 21,
  op 6 (.assign (.tmp 24)) 3]
def F100.r8 : List Oper := [
  op 25 (.move (.tmp 6)) 3,
  op 26 (.binOp .eql 3 (.tmp 25) (.const (.int .i64 1)) 3) 4]
def F100.r9 : List Oper := [
  op 27 (.move (.tmp 3)) 3,
  op 2 (.assign (.tmp 27)) 3]
def F100.r10 : List Oper := [
  op 2 (.assign (.const (.int .i64 (-1)))) 3]
def F100.t6 : Cd := (.seq (.region 6 F100.r6.toArray false) (.cond (.tmp 17) (.seq (.region 7 F100.r7.toArray false) (.seq (.region 8 F100.r8.toArray false) (.cond (.tmp 26) (.seq (.region 9 F100.r9.toArray false) .ret) .skip))) .skip))
theorem F100.t6_eq {θ : Tag (F100.t6, Q, e, w)} : cwE P F100.t6 Q e w θ = cwE P (.seq (.region 6 F100.r6.toArray false) (.cond (.tmp 17) (.seq (.region 7 F100.r7.toArray false) (.seq (.region 8 F100.r8.toArray false) (.cond (.tmp 26) (.seq (.region 9 F100.r9.toArray false) .ret) .skip))) .skip)) Q e w := rfl
def F100.t3 : Cd := (.block 1 (.seq (.region 3 F100.r3.toArray false) (.seq (.seq (.region 4 F100.r4.toArray false) (.cond (.tmp 14) (.seq (.region 5 F100.r5.toArray false) .ret) .skip)) F100.t6)))
theorem F100.t3_eq {θ : Tag (F100.t3, Q, e, w)} : cwE P F100.t3 Q e w θ = cwE P (.block 1 (.seq (.region 3 F100.r3.toArray false) (.seq (.seq (.region 4 F100.r4.toArray false) (.cond (.tmp 14) (.seq (.region 5 F100.r5.toArray false) .ret) .skip)) F100.t6))) Q e w := rfl
def F100.t10 : Cd := (.seq (.region 10 F100.r10.toArray false) .ret)
theorem F100.t10_eq {θ : Tag (F100.t10, Q, e, w)} : cwE P F100.t10 Q e w θ = cwE P (.seq (.region 10 F100.r10.toArray false) .ret) Q e w := rfl
def F100.code : Cd := (.seq (.region 0 F100.r0.toArray false) (.seq (.seq (.region 1 F100.r1.toArray false) (.block 0 (.loop (.seq (.region 2 F100.r2.toArray false) (.seq (.cond (.tmp 10) .skip (.exit 0)) F100.t3))))) F100.t10))
theorem F100.calls (hn : args.size ≤ 28) (h : cwE Tryz.prog F100.code (fnP Tryz.prog #[(.tmp 2)] R) (entry args) w) : Calls Tryz.prog 100 args w R :=
  calls_of_cwE (types := Tryz.prog.types) follows Tryz.func100 F100.code rfl (by kernel_rfl) hn h

def F101.r0 : List Oper := [
  op 4 (.assign (.const (.int .i64 0))) 3]
def F101.r1 : List Oper := [
  op 7 (.move (.tmp 0)) 9,
  op 8 (.move (.tmp 1)) 3,
  oc 9 (.call ⟨(.value (.func 114)), #[(.tmp 7), (.tmp 8), (.const (.int .u8 0)), (.const (.int .u8 127))], #[9, 3, 5, 5]⟩) 4]
def F101.r2 : List Oper := [
  op 4 (.assign (.const (.int .i64 1))) 3]
def F101.r3 : List Oper := [
  op 10 (.move (.tmp 0)) 9,
  op 11 (.move (.tmp 1)) 3,
  oc 12 (.call ⟨(.value (.func 114)), #[(.tmp 10), (.tmp 11), (.const (.int .u8 194)), (.const (.int .u8 223))], #[9, 3, 5, 5]⟩) 4,
  op 13 (.move (.tmp 12)) 4,
  ⟨(some 14), (.move (.tmp 0)), 9, "", #[], (some (13, true))⟩,
  ⟨(some 15), (.move (.tmp 1)), 3, "", #[], (some (13, true))⟩,
  ⟨(some 16), (.binOp .add 3 (.tmp 15) (.const (.int .i64 1)) 3), 3, "", #[], (some (13, true))⟩,
  ⟨(some 17), (.call ⟨(.value (.func 114)), #[(.tmp 14), (.tmp 16), (.const (.int .u8 128)), (.const (.int .u8 191))], #[9, 3, 5, 5]⟩), 4, "", #[⟨0, .chain⟩], (some (13, true))⟩,
  op 18 (.pick (.tmp 13) (.tmp 17) (.const (.bool false))) 4]
def F101.r4 : List Oper := [
  op 4 (.assign (.const (.int .i64 2))) 3]
def F101.r5 : List Oper := [
  op 5 (.assign (.const (.int .u8 128))) 5,
  op 6 (.assign (.const (.int .u8 191))) 5]
def F101.r6 : List Oper := [
  op 19 (.move (.tmp 0)) 9,
  op 20 (.move (.tmp 1)) 3,
  oc 21 (.call ⟨(.value (.func 114)), #[(.tmp 19), (.tmp 20), (.const (.int .u8 224)), (.const (.int .u8 224))], #[9, 3, 5, 5]⟩) 4]
def F101.r7 : List Oper := [
  op 5 (.assign (.const (.int .u8 160))) 5]
def F101.r8 : List Oper := [
  op 22 (.move (.tmp 0)) 9,
  op 23 (.move (.tmp 1)) 3,
  oc 24 (.call ⟨(.value (.func 114)), #[(.tmp 22), (.tmp 23), (.const (.int .u8 237)), (.const (.int .u8 237))], #[9, 3, 5, 5]⟩) 4]
def F101.r9 : List Oper := [
  op 6 (.assign (.const (.int .u8 159))) 5]
def F101.r10 : List Oper := [
  op 25 (.move (.tmp 0)) 9,
  op 26 (.move (.tmp 1)) 3,
  oc 27 (.call ⟨(.value (.func 114)), #[(.tmp 25), (.tmp 26), (.const (.int .u8 224)), (.const (.int .u8 239))], #[9, 3, 5, 5]⟩) 4,
  op 28 (.move (.tmp 27)) 4,
  ⟨(some 29), (.move (.tmp 0)), 9, "", #[], (some (28, true))⟩,
  ⟨(some 30), (.move (.tmp 1)), 3, "", #[], (some (28, true))⟩,
  ⟨(some 31), (.binOp .add 3 (.tmp 30) (.const (.int .i64 1)) 3), 3, "", #[], (some (28, true))⟩,
  ⟨(some 32), (.move (.tmp 5)), 5, "", #[], (some (28, true))⟩,
  ⟨(some 33), (.move (.tmp 6)), 5, "", #[], (some (28, true))⟩,
  ⟨(some 34), (.call ⟨(.value (.func 114)), #[(.tmp 29), (.tmp 31), (.tmp 32), (.tmp 33)], #[9, 3, 5, 5]⟩), 4, "", #[⟨0, .chain⟩], (some (28, true))⟩,
  op 35 (.pick (.tmp 28) (.tmp 34) (.const (.bool false))) 4,
  op 36 (.move (.tmp 35)) 4,
  ⟨(some 37), (.move (.tmp 0)), 9, "", #[], (some (36, true))⟩,
  ⟨(some 38), (.move (.tmp 1)), 3, "", #[], (some (36, true))⟩,
  ⟨(some 39), (.binOp .add 3 (.tmp 38) (.const (.int .i64 2)) 3), 3, "", #[], (some (36, true))⟩,
  ⟨(some 40), (.call ⟨(.value (.func 114)), #[(.tmp 37), (.tmp 39), (.const (.int .u8 128)), (.const (.int .u8 191))], #[9, 3, 5, 5]⟩), 4, "", #[⟨0, .chain⟩], (some (36, true))⟩,
  op 41 (.pick (.tmp 36) (.tmp 40) (.const (.bool false))) 4]
def F101.r11 : List Oper := [
  op 4 (.assign (.const (.int .i64 3))) 3]
def F101.r12 : List Oper := [
  op 42 (.move (.tmp 0)) 9,
  op 43 (.move (.tmp 1)) 3,
  oc 44 (.call ⟨(.value (.func 114)), #[(.tmp 42), (.tmp 43), (.const (.int .u8 240)), (.const (.int .u8 240))], #[9, 3, 5, 5]⟩) 4]
def F101.r13 : List Oper := [
  op 5 (.assign (.const (.int .u8 144))) 5]
def F101.r14 : List Oper := [
  op 45 (.move (.tmp 0)) 9,
  op 46 (.move (.tmp 1)) 3,
  oc 47 (.call ⟨(.value (.func 114)), #[(.tmp 45), (.tmp 46), (.const (.int .u8 244)), (.const (.int .u8 244))], #[9, 3, 5, 5]⟩) 4]
def F101.r15 : List Oper := [
  op 6 (.assign (.const (.int .u8 143))) 5]
def F101.r16 : List Oper := [
  op 48 (.move (.tmp 0)) 9,
  op 49 (.move (.tmp 1)) 3,
  oc 50 (.call ⟨(.value (.func 114)), #[(.tmp 48), (.tmp 49), (.const (.int .u8 240)), (.const (.int .u8 244))], #[9, 3, 5, 5]⟩) 4,
  op 51 (.move (.tmp 50)) 4,
  ⟨(some 52), (.move (.tmp 0)), 9, "", #[], (some (51, true))⟩,
  ⟨(some 53), (.move (.tmp 1)), 3, "", #[], (some (51, true))⟩,
  ⟨(some 54), (.binOp .add 3 (.tmp 53) (.const (.int .i64 1)) 3), 3, "", #[], (some (51, true))⟩,
  ⟨(some 55), (.move (.tmp 5)), 5, "", #[], (some (51, true))⟩,
  ⟨(some 56), (.move (.tmp 6)), 5, "", #[], (some (51, true))⟩,
  ⟨(some 57), (.call ⟨(.value (.func 114)), #[(.tmp 52), (.tmp 54), (.tmp 55), (.tmp 56)], #[9, 3, 5, 5]⟩), 4, "", #[⟨0, .chain⟩], (some (51, true))⟩,
  op 58 (.pick (.tmp 51) (.tmp 57) (.const (.bool false))) 4,
  op 59 (.move (.tmp 58)) 4,
  ⟨(some 60), (.move (.tmp 0)), 9, "", #[], (some (59, true))⟩,
  ⟨(some 61), (.move (.tmp 1)), 3, "", #[], (some (59, true))⟩,
  ⟨(some 62), (.binOp .add 3 (.tmp 61) (.const (.int .i64 2)) 3), 3, "", #[], (some (59, true))⟩,
  ⟨(some 63), (.call ⟨(.value (.func 114)), #[(.tmp 60), (.tmp 62), (.const (.int .u8 128)), (.const (.int .u8 191))], #[9, 3, 5, 5]⟩), 4, "", #[⟨0, .chain⟩], (some (59, true))⟩,
  op 64 (.pick (.tmp 59) (.tmp 63) (.const (.bool false))) 4,
  op 65 (.move (.tmp 64)) 4,
  ⟨(some 66), (.move (.tmp 0)), 9, "", #[], (some (65, true))⟩,
  ⟨(some 67), (.move (.tmp 1)), 3, "", #[], (some (65, true))⟩,
  ⟨(some 68), (.binOp .add 3 (.tmp 67) (.const (.int .i64 3)) 3), 3, "", #[], (some (65, true))⟩,
  ⟨(some 69), (.call ⟨(.value (.func 114)), #[(.tmp 66), (.tmp 68), (.const (.int .u8 128)), (.const (.int .u8 191))], #[9, 3, 5, 5]⟩), 4, "", #[⟨0, .chain⟩], (some (65, true))⟩,
  op 70 (.pick (.tmp 65) (.tmp 69) (.const (.bool false))) 4]
def F101.r17 : List Oper := [
  op 4 (.assign (.const (.int .i64 4))) 3]
def F101.r18 : List Oper := [
  op 4 (.assign (.const (.int .i64 0))) 3]
def F101.t18 : Cd := (.seq (.region 18 F101.r18.toArray false) .ret)
theorem F101.t18_eq {θ : Tag (F101.t18, Q, e, w)} : cwE P F101.t18 Q e w θ = cwE P (.seq (.region 18 F101.r18.toArray false) .ret) Q e w := rfl
def F101.t16 : Cd := (.seq (.seq (.region 16 F101.r16.toArray false) (.cond (.tmp 70) (.seq (.region 17 F101.r17.toArray false) .ret) .skip)) F101.t18)
theorem F101.t16_eq {θ : Tag (F101.t16, Q, e, w)} : cwE P F101.t16 Q e w θ = cwE P (.seq (.seq (.region 16 F101.r16.toArray false) (.cond (.tmp 70) (.seq (.region 17 F101.r17.toArray false) .ret) .skip)) F101.t18) Q e w := rfl
def F101.t14 : Cd := (.seq (.seq (.region 14 F101.r14.toArray false) (.cond (.tmp 47) (.region 15 F101.r15.toArray false) .skip)) F101.t16)
theorem F101.t14_eq {θ : Tag (F101.t14, Q, e, w)} : cwE P F101.t14 Q e w θ = cwE P (.seq (.seq (.region 14 F101.r14.toArray false) (.cond (.tmp 47) (.region 15 F101.r15.toArray false) .skip)) F101.t16) Q e w := rfl
def F101.t12 : Cd := (.seq (.seq (.region 12 F101.r12.toArray false) (.cond (.tmp 44) (.region 13 F101.r13.toArray false) .skip)) F101.t14)
theorem F101.t12_eq {θ : Tag (F101.t12, Q, e, w)} : cwE P F101.t12 Q e w θ = cwE P (.seq (.seq (.region 12 F101.r12.toArray false) (.cond (.tmp 44) (.region 13 F101.r13.toArray false) .skip)) F101.t14) Q e w := rfl
def F101.t10 : Cd := (.seq (.seq (.region 10 F101.r10.toArray false) (.cond (.tmp 41) (.seq (.region 11 F101.r11.toArray false) .ret) .skip)) F101.t12)
theorem F101.t10_eq {θ : Tag (F101.t10, Q, e, w)} : cwE P F101.t10 Q e w θ = cwE P (.seq (.seq (.region 10 F101.r10.toArray false) (.cond (.tmp 41) (.seq (.region 11 F101.r11.toArray false) .ret) .skip)) F101.t12) Q e w := rfl
def F101.t8 : Cd := (.seq (.seq (.region 8 F101.r8.toArray false) (.cond (.tmp 24) (.region 9 F101.r9.toArray false) .skip)) F101.t10)
theorem F101.t8_eq {θ : Tag (F101.t8, Q, e, w)} : cwE P F101.t8 Q e w θ = cwE P (.seq (.seq (.region 8 F101.r8.toArray false) (.cond (.tmp 24) (.region 9 F101.r9.toArray false) .skip)) F101.t10) Q e w := rfl
def F101.t5 : Cd := (.seq (.region 5 F101.r5.toArray false) (.seq (.seq (.region 6 F101.r6.toArray false) (.cond (.tmp 21) (.region 7 F101.r7.toArray false) .skip)) F101.t8))
theorem F101.t5_eq {θ : Tag (F101.t5, Q, e, w)} : cwE P F101.t5 Q e w θ = cwE P (.seq (.region 5 F101.r5.toArray false) (.seq (.seq (.region 6 F101.r6.toArray false) (.cond (.tmp 21) (.region 7 F101.r7.toArray false) .skip)) F101.t8)) Q e w := rfl
def F101.t3 : Cd := (.seq (.seq (.region 3 F101.r3.toArray false) (.cond (.tmp 18) (.seq (.region 4 F101.r4.toArray false) .ret) .skip)) F101.t5)
theorem F101.t3_eq {θ : Tag (F101.t3, Q, e, w)} : cwE P F101.t3 Q e w θ = cwE P (.seq (.seq (.region 3 F101.r3.toArray false) (.cond (.tmp 18) (.seq (.region 4 F101.r4.toArray false) .ret) .skip)) F101.t5) Q e w := rfl
def F101.code : Cd := (.seq (.region 0 F101.r0.toArray false) (.seq (.seq (.region 1 F101.r1.toArray false) (.cond (.tmp 9) (.seq (.region 2 F101.r2.toArray false) .ret) .skip)) F101.t3))
theorem F101.calls (hn : args.size ≤ 71) (h : cwE Tryz.prog F101.code (fnP Tryz.prog #[(.tmp 4)] R) (entry args) w) : Calls Tryz.prog 101 args w R :=
  calls_of_cwE (types := Tryz.prog.types) follows Tryz.func101 F101.code rfl (by kernel_rfl) hn h

def F103.r0 : List Oper := [
  op 6 (.assign (.const (.slice none 0 0))) 97]
def F103.r1 : List Oper := [
  op 8 (.move (.tmp 0)) 97,
  op 9 (.move (.tmp 1)) 3,
  op 10 (.move (.tmp 2)) 3,
  op 11 (.move (.tmp 0)) 97,
  op 12 (.call ⟨(.builtin .len), #[(.tmp 11)], #[97]⟩) 3,
  op 13 (.slice 97 (.tmp 8) (some (.tmp 9)) (some (.tmp 10)) (some (.tmp 12))) 97]
def F103.r2 : List Oper := [
  op 14 (.move (.tmp 1)) 3,
  op 15 (.move (.tmp 2)) 3,
  op 16 (.binOp .eql 3 (.tmp 14) (.tmp 15) 3) 4]
def F103.r3 : List Oper := [
  op 17 (.move (.tmp 0)) 97,
  op 6 (.assign (.tmp 17)) 97]
def F103.r4 : List Oper := [
  op 18 (.move (.tmp 0)) 97,
  op 19 (.call ⟨(.builtin .len), #[(.tmp 18)], #[97]⟩) 3,
  op 7 (.assign (.tmp 19)) 3]
def F103.r5 : List Oper := [
  ⟨(some 20), (.move (.tmp 0)), 97, "", #[], none⟩,
  ⟨(some 21), (.move (.tmp 1)), 3, "", #[], none⟩,
  ⟨(some 22), (.slice 97 (.tmp 20) none (some (.tmp 21)) none), 97, "", #[], none⟩,
  ⟨(some 23), (.move (.tmp 0)), 97, "", #[], none⟩,
  ⟨(some 24), (.move (.tmp 2)), 3, "", #[], none⟩,
  ⟨(some 25), (.slice 97 (.tmp 23) (some (.tmp 24)) none none), 97, "", #[], none⟩,
  ⟨(some 26), (.call ⟨(.builtin .append), #[(.tmp 22), (.tmp 25)], #[97, 97]⟩), 97, "", #[⟨6, .chain⟩], none⟩,
  ⟨(some 0), (.assign (.tmp 26)), 97, "", #[], none⟩]
def F103.r6 : List Oper := [
  op 27 (.move (.tmp 0)) 97,
  op 28 (.move (.tmp 0)) 97,
  op 29 (.call ⟨(.builtin .len), #[(.tmp 28)], #[97]⟩) 3,
  op 30 (.move (.tmp 7)) 3,
  op 31 (.slice 97 (.tmp 27) (some (.tmp 29)) (some (.tmp 30)) none) 97,
  ⟨none, (.call ⟨(.builtin .clear), #[(.tmp 31)], #[97]⟩), 0, "", #[⟨0, .chain⟩], none⟩]
def F103.r7 : List Oper := [
  op 32 (.move (.tmp 0)) 97,
  op 6 (.assign (.tmp 32)) 97]
def F103.t4 : Cd := (.seq (.region 4 F103.r4.toArray false) (.seq (.region 5 F103.r5.toArray true) (.seq (.region 6 F103.r6.toArray false) (.seq (.region 7 F103.r7.toArray false) .ret))))
theorem F103.t4_eq {θ : Tag (F103.t4, Q, e, w)} : cwE P F103.t4 Q e w θ = cwE P (.seq (.region 4 F103.r4.toArray false) (.seq (.region 5 F103.r5.toArray true) (.seq (.region 6 F103.r6.toArray false) (.seq (.region 7 F103.r7.toArray false) .ret)))) Q e w := rfl
def F103.code : Cd := (.seq (.region 0 F103.r0.toArray false) (.seq (.region 1 F103.r1.toArray false) (.seq (.seq (.region 2 F103.r2.toArray false) (.cond (.tmp 16) (.seq (.region 3 F103.r3.toArray false) .ret) .skip)) F103.t4)))
theorem F103.calls (hn : args.size ≤ 33) (h : cwE Tryz.prog F103.code (fnP Tryz.prog #[(.tmp 6)] R) (entry args) w) : Calls Tryz.prog 103 args w R :=
  calls_of_cwE (types := Tryz.prog.types) follows Tryz.func103 F103.code rfl (by kernel_rfl) hn h

def F111.r0 : List Oper := [
  op 4 (.assign (.const (.bool false))) 4]
def F111.r1 : List Oper := [
  op 5 (.move (.tmp 0)) 34,
  oc 6 (.call ⟨(.value (.func 116)), #[(.tmp 5)], #[34]⟩) 4,
  op 7 (.move (.tmp 6)) 4,
  ⟨(some 8), (.move (.tmp 1)), 34, "", #[], (some (7, true))⟩,
  ⟨(some 9), (.call ⟨(.value (.func 116)), #[(.tmp 8)], #[34]⟩), 4, "", #[⟨0, .chain⟩], (some (7, true))⟩,
  ⟨(some 10), (.unOp .not 4 (.tmp 9)), 4, "", #[], (some (7, true))⟩,
  op 11 (.pick (.tmp 7) (.tmp 10) (.const (.bool false))) 4,
  op 12 (.move (.tmp 11)) 4,
  ⟨(some 13), (.move (.tmp 0)), 34, "", #[], (some (12, false))⟩,
  ⟨(some 14), (.move (.tmp 1)), 34, "", #[], (some (12, false))⟩,
  ⟨(some 15), (.binOp .lss 34 (.tmp 13) (.tmp 14) 34), 4, "", #[], (some (12, false))⟩,
  op 16 (.pick (.tmp 12) (.const (.bool true)) (.tmp 15)) 4,
  op 4 (.assign (.tmp 16)) 4]
def F111.code : Cd := (.seq (.region 0 F111.r0.toArray false) (.seq (.region 1 F111.r1.toArray false) .ret))
theorem F111.calls (hn : args.size ≤ 17) (h : cwE Tryz.prog F111.code (fnP Tryz.prog #[(.tmp 4)] R) (entry args) w) : Calls Tryz.prog 111 args w R :=
  calls_of_cwE (types := Tryz.prog.types) follows Tryz.func111 F111.code rfl (by kernel_rfl) hn h

def F112.r0 : List Oper := [
  op 2 (.assign (.const (.bool false))) 4]
def F112.r1 : List Oper := [
  op 3 (.move (.tmp 0)) 34,
  op 4 (.move (.tmp 0)) 34,
  op 5 (.binOp .neq 34 (.tmp 3) (.tmp 4) 34) 4,
  op 2 (.assign (.tmp 5)) 4]
def F112.code : Cd := (.seq (.region 0 F112.r0.toArray false) (.seq (.region 1 F112.r1.toArray false) .ret))
theorem F112.calls (hn : args.size ≤ 6) (h : cwE Tryz.prog F112.code (fnP Tryz.prog #[(.tmp 2)] R) (entry args) w) : Calls Tryz.prog 112 args w R :=
  calls_of_cwE (types := Tryz.prog.types) follows Tryz.func112 F112.code rfl (by kernel_rfl) hn h

def F114.r0 : List Oper := [
  op 8 (.assign (.const (.bool false))) 4]
def F114.r1 : List Oper := [
  op 9 (.move (.tmp 1)) 3,
  op 10 (.move (.tmp 0)) 9,
  op 11 (.call ⟨(.builtin .len), #[(.tmp 10)], #[9]⟩) 3,
  op 12 (.binOp .lss 3 (.tmp 9) (.tmp 11) 3) 4,
  op 13 (.move (.tmp 12)) 4,
  ⟨(some 14), (.move (.tmp 0)), 9, "", #[], (some (13, true))⟩,
  ⟨(some 15), (.move (.tmp 1)), 3, "", #[], (some (13, true))⟩,
  ⟨(some 16), (.index 9 (.tmp 14) (.tmp 15)), 5, "", #[], (some (13, true))⟩,
  ⟨(some 17), (.move (.tmp 2)), 5, "", #[], (some (13, true))⟩,
  ⟨(some 18), (.binOp .geq 5 (.tmp 16) (.tmp 17) 5), 4, "", #[], (some (13, true))⟩,
  op 19 (.pick (.tmp 13) (.tmp 18) (.const (.bool false))) 4,
  op 20 (.move (.tmp 19)) 4,
  ⟨(some 21), (.move (.tmp 0)), 9, "", #[], (some (20, true))⟩,
  ⟨(some 22), (.move (.tmp 1)), 3, "", #[], (some (20, true))⟩,
  ⟨(some 23), (.index 9 (.tmp 21) (.tmp 22)), 5, "", #[], (some (20, true))⟩,
  ⟨(some 24), (.move (.tmp 3)), 5, "", #[], (some (20, true))⟩,
  ⟨(some 25), (.binOp .leq 5 (.tmp 23) (.tmp 24) 5), 4, "", #[], (some (20, true))⟩,
  op 26 (.pick (.tmp 20) (.tmp 25) (.const (.bool false))) 4,
  op 8 (.assign (.tmp 26)) 4]
def F114.code : Cd := (.seq (.region 0 F114.r0.toArray false) (.seq (.region 1 F114.r1.toArray false) .ret))
theorem F114.calls (hn : args.size ≤ 27) (h : cwE Tryz.prog F114.code (fnP Tryz.prog #[(.tmp 8)] R) (entry args) w) : Calls Tryz.prog 114 args w R :=
  calls_of_cwE (types := Tryz.prog.types) follows Tryz.func114 F114.code rfl (by kernel_rfl) hn h

def F116.r0 : List Oper := [
  op 2 (.assign (.const (.bool false))) 4]
def F116.r1 : List Oper := [
  op 3 (.move (.tmp 0)) 34,
  op 4 (.move (.tmp 0)) 34,
  op 5 (.binOp .neq 34 (.tmp 3) (.tmp 4) 34) 4,
  op 2 (.assign (.tmp 5)) 4]
def F116.code : Cd := (.seq (.region 0 F116.r0.toArray false) (.seq (.region 1 F116.r1.toArray false) .ret))
theorem F116.calls (hn : args.size ≤ 6) (h : cwE Tryz.prog F116.code (fnP Tryz.prog #[(.tmp 2)] R) (entry args) w) : Calls Tryz.prog 116 args w R :=
  calls_of_cwE (types := Tryz.prog.types) follows Tryz.func116 F116.code rfl (by kernel_rfl) hn h

attribute [go_sem] fact_aggSz_102
attribute [go_sem] fact_aggSz_136
attribute [go_sem] fact_aggSz_142
attribute [go_sem] fact_aggSz_23
attribute [go_sem] fact_aggSz_27
attribute [go_sem] fact_aggSz_29
attribute [go_sem] fact_aggSz_3
attribute [go_sem] fact_aggSz_33
attribute [go_sem] fact_aggSz_34
attribute [go_sem] fact_aggSz_39
attribute [go_sem] fact_aggSz_4
attribute [go_sem] fact_aggSz_40
attribute [go_sem] fact_aggSz_42
attribute [go_sem] fact_aggSz_43
attribute [go_sem] fact_aggSz_45
attribute [go_sem] fact_aggSz_47
attribute [go_sem] fact_aggSz_5
attribute [go_sem] fact_aggSz_82
attribute [go_sem] fact_aggSz_9
attribute [go_sem] fact_aggSz_96
attribute [go_sem] fact_aggSz_97
attribute [go_sem] fact_aggSz_98
attribute [go_sem] fact_arrEx_9
attribute [go_sem] fact_bldP_100
attribute [go_sem] fact_bldP_104
attribute [go_sem] fact_bldP_142
attribute [go_sem] fact_bldP_36
attribute [go_sem] fact_bldP_42
attribute [go_sem] fact_bldP_45
attribute [go_sem] fact_bldP_81
attribute [go_sem] fact_bldP_84
attribute [go_sem] fact_elemOf_102
attribute [go_sem] fact_elemOf_137
attribute [go_sem] fact_elemOf_22
attribute [go_sem] fact_elemOf_23
attribute [go_sem] fact_elemOf_43
attribute [go_sem] fact_elemOf_50
attribute [go_sem] fact_elemOf_82
attribute [go_sem] fact_elemOf_9
attribute [go_sem] fact_elemOf_97
attribute [go_sem] fact_fieldOff_100_0
attribute [go_sem] fact_fieldOff_100_1
attribute [go_sem] fact_fieldOff_100_2
attribute [go_sem] fact_fieldOff_100_3
attribute [go_sem] fact_fieldOff_100_4
attribute [go_sem] fact_fieldOff_100_5
attribute [go_sem] fact_fieldOff_104_0
attribute [go_sem] fact_fieldOff_104_1
attribute [go_sem] fact_fieldOff_104_2
attribute [go_sem] fact_fieldOff_104_3
attribute [go_sem] fact_fieldOff_142_0
attribute [go_sem] fact_fieldOff_36_0
attribute [go_sem] fact_fieldOff_36_1
attribute [go_sem] fact_fieldOff_36_2
attribute [go_sem] fact_fieldOff_36_3
attribute [go_sem] fact_fieldOff_36_8
attribute [go_sem] fact_fieldOff_42_0
attribute [go_sem] fact_fieldOff_42_1
attribute [go_sem] fact_fieldOff_42_10
attribute [go_sem] fact_fieldOff_42_11
attribute [go_sem] fact_fieldOff_42_12
attribute [go_sem] fact_fieldOff_42_2
attribute [go_sem] fact_fieldOff_42_3
attribute [go_sem] fact_fieldOff_42_4
attribute [go_sem] fact_fieldOff_42_5
attribute [go_sem] fact_fieldOff_42_6
attribute [go_sem] fact_fieldOff_42_7
attribute [go_sem] fact_fieldOff_42_8
attribute [go_sem] fact_fieldOff_42_9
attribute [go_sem] fact_fieldOff_45_0
attribute [go_sem] fact_fieldOff_45_1
attribute [go_sem] fact_fieldOff_45_2
attribute [go_sem] fact_fieldOff_45_3
attribute [go_sem] fact_fieldOff_45_4
attribute [go_sem] fact_fieldOff_45_5
attribute [go_sem] fact_fieldOff_45_6
attribute [go_sem] fact_fieldOff_45_7
attribute [go_sem] fact_fieldOff_54_0
attribute [go_sem] fact_fieldOff_54_1
attribute [go_sem] fact_fieldOff_81_0
attribute [go_sem] fact_fieldOff_81_1
attribute [go_sem] fact_fieldOff_84_0
attribute [go_sem] fact_fieldOff_84_1
attribute [go_sem] fact_fieldOff_84_2
attribute [go_sem] fact_flatE_42
attribute [go_sem] fact_fnOk_10
attribute [go_sem] fact_fnOk_100
attribute [go_sem] fact_fnOk_101
attribute [go_sem] fact_fnOk_102
attribute [go_sem] fact_fnOk_103
attribute [go_sem] fact_fnOk_11
attribute [go_sem] fact_fnOk_111
attribute [go_sem] fact_fnOk_112
attribute [go_sem] fact_fnOk_113
attribute [go_sem] fact_fnOk_114
attribute [go_sem] fact_fnOk_116
attribute [go_sem] fact_fnOk_12
attribute [go_sem] fact_fnOk_13
attribute [go_sem] fact_fnOk_14
attribute [go_sem] fact_fnOk_15
attribute [go_sem] fact_fnOk_18
attribute [go_sem] fact_fnOk_22
attribute [go_sem] fact_fnOk_23
attribute [go_sem] fact_fnOk_24
attribute [go_sem] fact_fnOk_25
attribute [go_sem] fact_fnOk_26
attribute [go_sem] fact_fnOk_27
attribute [go_sem] fact_fnOk_28
attribute [go_sem] fact_fnOk_29
attribute [go_sem] fact_fnOk_30
attribute [go_sem] fact_fnOk_32
attribute [go_sem] fact_fnOk_34
attribute [go_sem] fact_fnOk_35
attribute [go_sem] fact_fnOk_36
attribute [go_sem] fact_fnOk_37
attribute [go_sem] fact_fnOk_38
attribute [go_sem] fact_fnOk_39
attribute [go_sem] fact_fnOk_40
attribute [go_sem] fact_fnOk_41
attribute [go_sem] fact_fnOk_42
attribute [go_sem] fact_fnOk_43
attribute [go_sem] fact_fnOk_44
attribute [go_sem] fact_fnOk_45
attribute [go_sem] fact_fnOk_46
attribute [go_sem] fact_fnOk_47
attribute [go_sem] fact_fnOk_48
attribute [go_sem] fact_fnOk_5
attribute [go_sem] fact_fnOk_52
attribute [go_sem] fact_fnOk_6
attribute [go_sem] fact_fnOk_60
attribute [go_sem] fact_fnOk_61
attribute [go_sem] fact_fnOk_62
attribute [go_sem] fact_fnOk_63
attribute [go_sem] fact_fnOk_65
attribute [go_sem] fact_fnOk_66
attribute [go_sem] fact_fnOk_67
attribute [go_sem] fact_fnOk_7
attribute [go_sem] fact_fnOk_78
attribute [go_sem] fact_fnOk_79
attribute [go_sem] fact_fnOk_8
attribute [go_sem] fact_fnOk_80
attribute [go_sem] fact_fnOk_81
attribute [go_sem] fact_fnOk_82
attribute [go_sem] fact_fnOk_83
attribute [go_sem] fact_fnOk_84
attribute [go_sem] fact_fnOk_88
attribute [go_sem] fact_fnOk_9
attribute [go_sem] fact_fnOk_93
attribute [go_sem] fact_fnOk_94
attribute [go_sem] fact_fnOk_99
attribute [go_sem] fact_szO_102
attribute [go_sem] fact_szO_136
attribute [go_sem] fact_szO_142
attribute [go_sem] fact_szO_27
attribute [go_sem] fact_szO_29
attribute [go_sem] fact_szO_3
attribute [go_sem] fact_szO_33
attribute [go_sem] fact_szO_34
attribute [go_sem] fact_szO_4
attribute [go_sem] fact_szO_42
attribute [go_sem] fact_szO_43
attribute [go_sem] fact_szO_45
attribute [go_sem] fact_szO_47
attribute [go_sem] fact_szO_5
attribute [go_sem] fact_szO_82
attribute [go_sem] fact_szO_9
attribute [go_sem] fact_szO_97
attribute [go_sem] fact_zeroV_137
attribute [go_sem] fact_zeroV_142
attribute [go_sem] fact_zeroV_27
attribute [go_sem] fact_zeroV_29
attribute [go_sem] fact_zeroV_3
attribute [go_sem] fact_zeroV_34
attribute [go_sem] fact_zeroV_4
attribute [go_sem] fact_zeroV_42
attribute [go_sem] fact_zeroV_45
attribute [go_sem] fact_zeroV_47
attribute [go_sem] Tryz.underlying3
attribute [go_sem] Tryz.underlying4
attribute [go_sem] Tryz.underlying9
attribute [go_sem] Tryz.underlying22
attribute [go_sem] Tryz.underlying23
attribute [go_sem] Tryz.underlying27
attribute [go_sem] Tryz.underlying34
attribute [go_sem] Tryz.underlying39
attribute [go_sem] Tryz.underlying42
attribute [go_sem] Tryz.underlying43
attribute [go_sem] Tryz.underlying47
attribute [go_sem] Tryz.underlying50
attribute [go_sem] Tryz.underlying82
attribute [go_sem] Tryz.underlying96
attribute [go_sem] Tryz.underlying97
attribute [go_sem] Tryz.underlying101
attribute [go_sem] Tryz.underlying102
attribute [go_sem] Tryz.underlying136
attribute [go_sem] Tryz.underlying137
attribute [go_sem] Tryz.underlying158
attribute [go_sem] F3.r0
attribute [go_sem] F3.r1
attribute [go_sem] F3.r2
attribute [go_sem] F3.r3
attribute [go_sem] F3.r4
attribute [go_sem] F3.r5
attribute [go_sem] F3.r6
attribute [go_sem] F3.r7
attribute [go_sem] F3.r8
attribute [go_sem] F3.r9
attribute [go_sem] F3.r11
attribute [go_sem] F3.r12
attribute [go_sem] F3.r10
attribute [go_sem] F3.r13
attribute [go_sem] F3.r14
attribute [go_sem] F3.r15
attribute [go_sem] F3.r16
attribute [go_sem] F3.r17
attribute [go_sem] F3.r18
attribute [go_sem] F3.r19
attribute [go_sem] F3.r20
attribute [go_sem] F3.r21
attribute [go_sem] F3.r22
attribute [go_sem] F3.r23
attribute [go_sem] F3.r24
attribute [go_sem] F3.r25
attribute [go_sem] F3.r27
attribute [go_sem] F3.r28
attribute [go_sem] F3.r29
attribute [go_sem] F3.r26
attribute [go_sem] F3.r30
attribute [go_sem] F3.r31
attribute [go_sem] F3.r32
attribute [go_sem] F3.r33
attribute [go_sem] F3.r34
attribute [go_sem] F3.r35
attribute [go_sem] F3.r36
attribute [go_sem] F5.r0
attribute [go_sem] F5.r1
attribute [go_sem] F5.r2
attribute [go_sem] F5.r3
attribute [go_sem] F5.r4
attribute [go_sem] F5.r5
attribute [go_sem] F5.r6
attribute [go_sem] F5.r7
attribute [go_sem] F5.r8
attribute [go_sem] F5.r9
attribute [go_sem] F5.r10
attribute [go_sem] F5.r11
attribute [go_sem] F5.r12
attribute [go_sem] F5.r13
attribute [go_sem] F5.r14
attribute [go_sem] F5.r15
attribute [go_sem] F5.r16
attribute [go_sem] F6.r0
attribute [go_sem] F6.r1
attribute [go_sem] F6.r2
attribute [go_sem] F6.r4
attribute [go_sem] F6.r3
attribute [go_sem] F6.r5
attribute [go_sem] F7.r0
attribute [go_sem] F7.r1
attribute [go_sem] F7.r2
attribute [go_sem] F7.r3
attribute [go_sem] F7.r5
attribute [go_sem] F7.r4
attribute [go_sem] F7.r6
attribute [go_sem] F8.r0
attribute [go_sem] F8.r1
attribute [go_sem] F8.r2
attribute [go_sem] F8.r3
attribute [go_sem] F8.r4
attribute [go_sem] F9.r0
attribute [go_sem] F9.r1
attribute [go_sem] F9.r2
attribute [go_sem] F9.r3
attribute [go_sem] F9.r4
attribute [go_sem] F9.r5
attribute [go_sem] F9.r6
attribute [go_sem] F10.r0
attribute [go_sem] F10.r1
attribute [go_sem] F10.r3
attribute [go_sem] F10.r4
attribute [go_sem] F10.r5
attribute [go_sem] F10.r6
attribute [go_sem] F10.r7
attribute [go_sem] F10.r8
attribute [go_sem] F10.r9
attribute [go_sem] F10.r10
attribute [go_sem] F10.r2
attribute [go_sem] F10.r11
attribute [go_sem] F10.r12
attribute [go_sem] F10.r13
attribute [go_sem] F10.r14
attribute [go_sem] F10.r15
attribute [go_sem] F10.r16
attribute [go_sem] F10.r17
attribute [go_sem] F10.r18
attribute [go_sem] F10.r19
attribute [go_sem] F10.r20
attribute [go_sem] F10.r21
attribute [go_sem] F10.r22
attribute [go_sem] F10.r23
attribute [go_sem] F10.r24
attribute [go_sem] F10.r25
attribute [go_sem] F10.r26
attribute [go_sem] F10.r27
attribute [go_sem] F10.r28
attribute [go_sem] F10.r29
attribute [go_sem] F10.r30
attribute [go_sem] F11.r0
attribute [go_sem] F11.r1
attribute [go_sem] F11.r2
attribute [go_sem] F11.r3
attribute [go_sem] F11.r4
attribute [go_sem] F11.r5
attribute [go_sem] F11.r6
attribute [go_sem] F11.r7
attribute [go_sem] F11.r8
attribute [go_sem] F11.r9
attribute [go_sem] F11.r10
attribute [go_sem] F11.r11
attribute [go_sem] F11.r12
attribute [go_sem] F11.r13
attribute [go_sem] F11.r14
attribute [go_sem] F11.r15
attribute [go_sem] F11.r16
attribute [go_sem] F11.r17
attribute [go_sem] F11.r18
attribute [go_sem] F11.r19
attribute [go_sem] F11.r20
attribute [go_sem] F11.r21
attribute [go_sem] F11.r22
attribute [go_sem] F11.r23
attribute [go_sem] F11.r24
attribute [go_sem] F12.r0
attribute [go_sem] F12.r1
attribute [go_sem] F13.r0
attribute [go_sem] F13.r1
attribute [go_sem] F13.r2
attribute [go_sem] F13.r4
attribute [go_sem] F13.r5
attribute [go_sem] F13.r3
attribute [go_sem] F13.r6
attribute [go_sem] F14.r0
attribute [go_sem] F14.r1
attribute [go_sem] F14.r2
attribute [go_sem] F14.r3
attribute [go_sem] F14.r5
attribute [go_sem] F14.r4
attribute [go_sem] F14.r6
attribute [go_sem] F15.r0
attribute [go_sem] F15.r1
attribute [go_sem] F15.r2
attribute [go_sem] F15.r3
attribute [go_sem] F16.r0
attribute [go_sem] F16.r1
attribute [go_sem] F18.r0
attribute [go_sem] F18.r1
attribute [go_sem] F18.r2
attribute [go_sem] F18.r3
attribute [go_sem] F18.r4
attribute [go_sem] F18.r5
attribute [go_sem] F18.r6
attribute [go_sem] F18.r7
attribute [go_sem] F22.r0
attribute [go_sem] F22.r1
attribute [go_sem] F22.r2
attribute [go_sem] F22.r3
attribute [go_sem] F23.r0
attribute [go_sem] F23.r1
attribute [go_sem] F24.r0
attribute [go_sem] F24.r1
attribute [go_sem] F24.r2
attribute [go_sem] F24.r3
attribute [go_sem] F24.r4
attribute [go_sem] F24.r5
attribute [go_sem] F24.r6
attribute [go_sem] F24.r7
attribute [go_sem] F24.r8
attribute [go_sem] F25.r0
attribute [go_sem] F25.r1
attribute [go_sem] F25.r2
attribute [go_sem] F25.r3
attribute [go_sem] F26.r0
attribute [go_sem] F26.r1
attribute [go_sem] F26.r2
attribute [go_sem] F26.r3
attribute [go_sem] F27.r0
attribute [go_sem] F27.r1
attribute [go_sem] F28.r0
attribute [go_sem] F28.r1
attribute [go_sem] F28.r2
attribute [go_sem] F29.r0
attribute [go_sem] F29.r1
attribute [go_sem] F29.r2
attribute [go_sem] F29.r3
attribute [go_sem] F29.r4
attribute [go_sem] F29.r5
attribute [go_sem] F29.r6
attribute [go_sem] F29.r7
attribute [go_sem] F29.r8
attribute [go_sem] F29.r9
attribute [go_sem] F29.r10
attribute [go_sem] F29.r11
attribute [go_sem] F34.r0
attribute [go_sem] F34.r1
attribute [go_sem] F34.r2
attribute [go_sem] F34.r3
attribute [go_sem] F34.r4
attribute [go_sem] F34.r5
attribute [go_sem] F34.r6
attribute [go_sem] F34.r7
attribute [go_sem] F34.r8
attribute [go_sem] F34.r9
attribute [go_sem] F34.r10
attribute [go_sem] F34.r11
attribute [go_sem] F34.r12
attribute [go_sem] F34.r13
attribute [go_sem] F34.r14
attribute [go_sem] F34.r15
attribute [go_sem] F34.r16
attribute [go_sem] F34.r17
attribute [go_sem] F34.r18
attribute [go_sem] F34.r19
attribute [go_sem] F34.r20
attribute [go_sem] F34.r21
attribute [go_sem] F34.r22
attribute [go_sem] F34.r23
attribute [go_sem] F35.r0
attribute [go_sem] F35.r1
attribute [go_sem] F35.r2
attribute [go_sem] F35.r3
attribute [go_sem] F35.r4
attribute [go_sem] F35.r5
attribute [go_sem] F35.r6
attribute [go_sem] F35.r7
attribute [go_sem] F35.r8
attribute [go_sem] F35.r9
attribute [go_sem] F35.r10
attribute [go_sem] F35.r11
attribute [go_sem] F35.r12
attribute [go_sem] F35.r13
attribute [go_sem] F35.r14
attribute [go_sem] F35.r15
attribute [go_sem] F36.r0
attribute [go_sem] F36.r1
attribute [go_sem] F36.r2
attribute [go_sem] F36.r3
attribute [go_sem] F36.r4
attribute [go_sem] F36.r5
attribute [go_sem] F36.r6
attribute [go_sem] F36.r7
attribute [go_sem] F36.r8
attribute [go_sem] F36.r9
attribute [go_sem] F36.r10
attribute [go_sem] F36.r11
attribute [go_sem] F36.r12
attribute [go_sem] F36.r13
attribute [go_sem] F36.r14
attribute [go_sem] F37.r0
attribute [go_sem] F37.r1
attribute [go_sem] F37.r2
attribute [go_sem] F37.r3
attribute [go_sem] F37.r4
attribute [go_sem] F38.r0
attribute [go_sem] F38.r1
attribute [go_sem] F38.r2
attribute [go_sem] F38.r4
attribute [go_sem] F38.r5
attribute [go_sem] F38.r3
attribute [go_sem] F38.r6
attribute [go_sem] F39.r0
attribute [go_sem] F39.r1
attribute [go_sem] F39.r2
attribute [go_sem] F39.r3
attribute [go_sem] F39.r4
attribute [go_sem] F39.r5
attribute [go_sem] F39.r6
attribute [go_sem] F39.r7
attribute [go_sem] F39.r8
attribute [go_sem] F39.r9
attribute [go_sem] F39.r10
attribute [go_sem] F39.r11
attribute [go_sem] F39.r12
attribute [go_sem] F39.r13
attribute [go_sem] F39.r14
attribute [go_sem] F39.r15
attribute [go_sem] F39.r16
attribute [go_sem] F39.r17
attribute [go_sem] F39.r18
attribute [go_sem] F39.r19
attribute [go_sem] F39.r20
attribute [go_sem] F39.r21
attribute [go_sem] F40.r0
attribute [go_sem] F40.r1
attribute [go_sem] F40.r2
attribute [go_sem] F40.r3
attribute [go_sem] F40.r4
attribute [go_sem] F40.r5
attribute [go_sem] F40.r6
attribute [go_sem] F40.r7
attribute [go_sem] F40.r8
attribute [go_sem] F40.r9
attribute [go_sem] F40.r10
attribute [go_sem] F40.r11
attribute [go_sem] F40.r12
attribute [go_sem] F41.r0
attribute [go_sem] F41.r1
attribute [go_sem] F41.r2
attribute [go_sem] F41.r3
attribute [go_sem] F41.r4
attribute [go_sem] F41.r5
attribute [go_sem] F41.r6
attribute [go_sem] F41.r7
attribute [go_sem] F41.r8
attribute [go_sem] F41.r9
attribute [go_sem] F41.r10
attribute [go_sem] F41.r11
attribute [go_sem] F42.r0
attribute [go_sem] F42.r1
attribute [go_sem] F42.r2
attribute [go_sem] F42.r3
attribute [go_sem] F42.r4
attribute [go_sem] F42.r5
attribute [go_sem] F42.r6
attribute [go_sem] F42.r7
attribute [go_sem] F42.r8
attribute [go_sem] F42.r9
attribute [go_sem] F42.r10
attribute [go_sem] F42.r11
attribute [go_sem] F42.r12
attribute [go_sem] F42.r13
attribute [go_sem] F42.r14
attribute [go_sem] F42.r15
attribute [go_sem] F42.r16
attribute [go_sem] F42.r17
attribute [go_sem] F42.r18
attribute [go_sem] F42.r19
attribute [go_sem] F42.r20
attribute [go_sem] F42.r21
attribute [go_sem] F42.r22
attribute [go_sem] F42.r23
attribute [go_sem] F42.r24
attribute [go_sem] F42.r25
attribute [go_sem] F42.r26
attribute [go_sem] F43.r0
attribute [go_sem] F43.r1
attribute [go_sem] F43.r2
attribute [go_sem] F43.r3
attribute [go_sem] F43.r4
attribute [go_sem] F43.r5
attribute [go_sem] F43.r6
attribute [go_sem] F43.r7
attribute [go_sem] F43.r8
attribute [go_sem] F43.r9
attribute [go_sem] F44.r0
attribute [go_sem] F44.r1
attribute [go_sem] F44.r2
attribute [go_sem] F44.r3
attribute [go_sem] F44.r4
attribute [go_sem] F44.r5
attribute [go_sem] F44.r6
attribute [go_sem] F44.r7
attribute [go_sem] F44.r8
attribute [go_sem] F44.r9
attribute [go_sem] F44.r10
attribute [go_sem] F44.r11
attribute [go_sem] F44.r12
attribute [go_sem] F44.r14
attribute [go_sem] F44.r13
attribute [go_sem] F44.r15
attribute [go_sem] F45.r0
attribute [go_sem] F45.r1
attribute [go_sem] F45.r2
attribute [go_sem] F45.r3
attribute [go_sem] F45.r4
attribute [go_sem] F45.r5
attribute [go_sem] F46.r0
attribute [go_sem] F46.r1
attribute [go_sem] F46.r3
attribute [go_sem] F46.r4
attribute [go_sem] F46.r2
attribute [go_sem] F47.r0
attribute [go_sem] F47.r1
attribute [go_sem] F47.r2
attribute [go_sem] F47.r3
attribute [go_sem] F47.r4
attribute [go_sem] F47.r5
attribute [go_sem] F47.r6
attribute [go_sem] F48.r0
attribute [go_sem] F48.r1
attribute [go_sem] F50.r0
attribute [go_sem] F50.r1
attribute [go_sem] F50.r2
attribute [go_sem] F50.r3
attribute [go_sem] F50.r4
attribute [go_sem] F51.r0
attribute [go_sem] F51.r1
attribute [go_sem] F51.r2
attribute [go_sem] F51.r3
attribute [go_sem] F51.r4
attribute [go_sem] F52.r0
attribute [go_sem] F52.r1
attribute [go_sem] F52.r2
attribute [go_sem] F52.r4
attribute [go_sem] F52.r5
attribute [go_sem] F52.r6
attribute [go_sem] F52.r3
attribute [go_sem] F52.r7
attribute [go_sem] F53.r0
attribute [go_sem] F53.r1
attribute [go_sem] F53.r2
attribute [go_sem] F53.r3
attribute [go_sem] F53.r4
attribute [go_sem] F53.r5
attribute [go_sem] F53.r6
attribute [go_sem] F54.r0
attribute [go_sem] F54.r1
attribute [go_sem] F54.r2
attribute [go_sem] F54.r4
attribute [go_sem] F54.r5
attribute [go_sem] F54.r6
attribute [go_sem] F54.r3
attribute [go_sem] F54.r7
attribute [go_sem] F56.r0
attribute [go_sem] F56.r1
attribute [go_sem] F57.r0
attribute [go_sem] F57.r1
attribute [go_sem] F60.r0
attribute [go_sem] F60.r1
attribute [go_sem] F60.r2
attribute [go_sem] F60.r3
attribute [go_sem] F60.r4
attribute [go_sem] F60.r5
attribute [go_sem] F60.r6
attribute [go_sem] F60.r7
attribute [go_sem] F60.r8
attribute [go_sem] F60.r9
attribute [go_sem] F60.r10
attribute [go_sem] F60.r11
attribute [go_sem] F60.r12
attribute [go_sem] F61.r0
attribute [go_sem] F61.r1
attribute [go_sem] F61.r2
attribute [go_sem] F61.r3
attribute [go_sem] F61.r4
attribute [go_sem] F61.r5
attribute [go_sem] F61.r6
attribute [go_sem] F61.r7
attribute [go_sem] F61.r8
attribute [go_sem] F62.r0
attribute [go_sem] F62.r1
attribute [go_sem] F65.r0
attribute [go_sem] F65.r1
attribute [go_sem] F65.r2
attribute [go_sem] F65.r3
attribute [go_sem] F65.r4
attribute [go_sem] F65.r5
attribute [go_sem] F65.r6
attribute [go_sem] F65.r7
attribute [go_sem] F65.r8
attribute [go_sem] F65.r9
attribute [go_sem] F65.r10
attribute [go_sem] F65.r11
attribute [go_sem] F65.r12
attribute [go_sem] F65.r13
attribute [go_sem] F65.r14
attribute [go_sem] F65.r15
attribute [go_sem] F65.r16
attribute [go_sem] F65.r17
attribute [go_sem] F65.r18
attribute [go_sem] F65.r19
attribute [go_sem] F66.r0
attribute [go_sem] F66.r1
attribute [go_sem] F66.r2
attribute [go_sem] F66.r3
attribute [go_sem] F66.r4
attribute [go_sem] F66.r5
attribute [go_sem] F66.r6
attribute [go_sem] F66.r7
attribute [go_sem] F66.r8
attribute [go_sem] F66.r9
attribute [go_sem] F66.r10
attribute [go_sem] F66.r11
attribute [go_sem] F67.r0
attribute [go_sem] F67.r1
attribute [go_sem] F67.r2
attribute [go_sem] F67.r3
attribute [go_sem] F67.r4
attribute [go_sem] F67.r5
attribute [go_sem] F67.r6
attribute [go_sem] F67.r7
attribute [go_sem] F67.r8
attribute [go_sem] F67.r9
attribute [go_sem] F67.r10
attribute [go_sem] F67.r11
attribute [go_sem] F67.r12
attribute [go_sem] F67.r13
attribute [go_sem] F78.r0
attribute [go_sem] F78.r1
attribute [go_sem] F79.r0
attribute [go_sem] F79.r1
attribute [go_sem] F80.r0
attribute [go_sem] F80.r1
attribute [go_sem] F80.r2
attribute [go_sem] F81.r0
attribute [go_sem] F81.r1
attribute [go_sem] F81.r2
attribute [go_sem] F81.r3
attribute [go_sem] F81.r4
attribute [go_sem] F81.r5
attribute [go_sem] F81.r7
attribute [go_sem] F81.r8
attribute [go_sem] F81.r6
attribute [go_sem] F81.r9
attribute [go_sem] F82.r0
attribute [go_sem] F82.r1
attribute [go_sem] F83.r0
attribute [go_sem] F83.r1
attribute [go_sem] F83.r2
attribute [go_sem] F83.r3
attribute [go_sem] F83.r4
attribute [go_sem] F83.r5
attribute [go_sem] F83.r6
attribute [go_sem] F84.r0
attribute [go_sem] F84.r1
attribute [go_sem] F85.r0
attribute [go_sem] F85.r1
attribute [go_sem] F85.r2
attribute [go_sem] F85.r3
attribute [go_sem] F85.r4
attribute [go_sem] F85.r5
attribute [go_sem] F85.r6
attribute [go_sem] F85.r7
attribute [go_sem] F85.r8
attribute [go_sem] F88.r0
attribute [go_sem] F88.r1
attribute [go_sem] F88.r2
attribute [go_sem] F88.r3
attribute [go_sem] F88.r4
attribute [go_sem] F88.r5
attribute [go_sem] F88.r6
attribute [go_sem] F88.r7
attribute [go_sem] F93.r0
attribute [go_sem] F93.r1
attribute [go_sem] F93.r2
attribute [go_sem] F93.r3
attribute [go_sem] F93.r4
attribute [go_sem] F93.r5
attribute [go_sem] F93.r6
attribute [go_sem] F93.r7
attribute [go_sem] F93.r8
attribute [go_sem] F93.r9
attribute [go_sem] F94.r0
attribute [go_sem] F94.r1
attribute [go_sem] F94.r2
attribute [go_sem] F94.r3
attribute [go_sem] F94.r4
attribute [go_sem] F99.r0
attribute [go_sem] F99.r1
attribute [go_sem] F99.r2
attribute [go_sem] F99.r3
attribute [go_sem] F99.r4
attribute [go_sem] F99.r5
attribute [go_sem] F99.r6
attribute [go_sem] F99.r7
attribute [go_sem] F99.r8
attribute [go_sem] F100.r0
attribute [go_sem] F100.r1
attribute [go_sem] F100.r2
attribute [go_sem] F100.r3
attribute [go_sem] F100.r4
attribute [go_sem] F100.r5
attribute [go_sem] F100.r6
attribute [go_sem] F100.r7
attribute [go_sem] F100.r8
attribute [go_sem] F100.r9
attribute [go_sem] F100.r10
attribute [go_sem] F101.r0
attribute [go_sem] F101.r1
attribute [go_sem] F101.r2
attribute [go_sem] F101.r3
attribute [go_sem] F101.r4
attribute [go_sem] F101.r5
attribute [go_sem] F101.r6
attribute [go_sem] F101.r7
attribute [go_sem] F101.r8
attribute [go_sem] F101.r9
attribute [go_sem] F101.r10
attribute [go_sem] F101.r11
attribute [go_sem] F101.r12
attribute [go_sem] F101.r13
attribute [go_sem] F101.r14
attribute [go_sem] F101.r15
attribute [go_sem] F101.r16
attribute [go_sem] F101.r17
attribute [go_sem] F101.r18
attribute [go_sem] F103.r0
attribute [go_sem] F103.r1
attribute [go_sem] F103.r2
attribute [go_sem] F103.r3
attribute [go_sem] F103.r4
attribute [go_sem] F103.r5
attribute [go_sem] F103.r6
attribute [go_sem] F103.r7
attribute [go_sem] F111.r0
attribute [go_sem] F111.r1
attribute [go_sem] F112.r0
attribute [go_sem] F112.r1
attribute [go_sem] F114.r0
attribute [go_sem] F114.r1
attribute [go_sem] F116.r0
attribute [go_sem] F116.r1

end Go.Proofs.YtijnmokpihhhcaaGreatDoor

namespace Go.Proofs.YtijnmokpihhhcaaGreatDoor
open Go
set_option linter.unusedVariables false
set_option linter.unusedSimpArgs false
set_option maxRecDepth 100000

/-! ### The tables -/

def Tabs : HP := fun h =>
  (∃ cur T fr, h 0 = some (.cells cur T fr) ∧ ∀ c, c < 256 → cur[c]? = some (.int .u8 (Lib.firstT c))) ∧
  (∃ cur T fr, h 1 = some (.cells cur T fr) ∧ ∀ i, i < 16 → cur[2 * i]? = some (.int .u8 (Lib.accLo i)) ∧ cur[2 * i + 1]? = some (.int .u8 (Lib.accHi i))) ∧
  (∃ cur T fr m, h 2 = some (.cells cur T fr) ∧ cur[0]? = some (.int .i64 m))

theorem cell_of {w : World} {b : Nat} {cur : Array Value} {T : TypeId} {fr : Nat × Nat} (h : heapOf w b = some (.cells cur T fr)) (i : Nat) : w.cell? ⟨b, i, none⟩ = cur[i]? := by
  have : w.heap[b]? = some (.cells cur T fr) := h
  simp [World.cell?, this]

section
variable {w0 w : World} {A : HP}
theorem St.tabs (h : St w0 A w) [i : Gives A Tabs] : Lib.Utf8Tabs 0 1 w := by
  obtain ⟨x, l, ⟨c1, T1, f1, h1, k1⟩, ⟨c2, T2, f2, h2, k2⟩, _⟩ := (h.ent i.ent).sat
  exact ⟨fun c hc => by rw [cell_of (l _ _ h1), k1 c hc], fun j hj => by rw [cell_of (l _ _ h2), cell_of (l _ _ h2)]; exact k2 j hj⟩
theorem St.maxLenT (h : St w0 A w) [i : Gives A Tabs] : ∃ m, w.cell? ⟨2, 0, none⟩ = some (.int .i64 m) := by
  obtain ⟨x, l, _, _, ⟨c0, T0, f0, m, h0, k0⟩⟩ := (h.ent i.ent).sat
  exact ⟨m, by rw [cell_of (l _ _ h0), k0]⟩
end

section
variable {w0 w : World} {A : HP}
theorem contains_lib (h : St w0 A w) {l : List UInt8} :
    Calls Tryz.prog 102 #[.string (strOf l), .string (strOf [47])] w fun e w' => St w0 A w' ∧ e = .returned (.bool (decide ((47 : UInt8) ∈ l))) := by
  refine (Any.strings_Contains_one layContains (strOf l) 47 w).mono ?_
  rintro e w' ⟨rfl, rfl⟩
  refine ⟨h, ?_⟩
  rw [strOf_data]
  have : ∀ l : List UInt8, (0 ≤ Lib.indexByte l 47) ↔ (47 : UInt8) ∈ l := fun l => by
    induction l with
    | nil => simp [Lib.indexByte]
    | cons b l ih =>
      have hg := Lib.indexByte_ge l 47
      simp only [Lib.indexByte, List.mem_cons]
      by_cases hb : b = 47
      · subst hb; simp
      · have hb' : (b == 47) = false := by simpa using hb
        have hb2 : ¬ (47 : UInt8) = b := fun e => hb e.symm
        simp only [hb', hb2, false_or, ← ih, Bool.false_eq_true, if_false]
        split
        · rename_i hx; simp only [beq_iff_eq] at hx; omega
        · rename_i hx; simp only [beq_iff_eq] at hx; omega
  simp only [this]

theorem decode_lib (h : St w0 A w) [i : Gives A Tabs] {l : List UInt8} :
    Calls Tryz.prog 113 #[.string (strOf l)] w fun e w' => St w0 A w' ∧ e = .returned (.tuple #[.int .i32 (if l = [] then 65533 else (decL l).1 : Nat), .int .i64 (if l = [] then 0 else (decL l).2 : Nat)]) := by
  refine (Any.utf8_DecodeRuneInString layDecode (strOf l) w h.tabs).mono ?_
  rintro e w' ⟨rfl, hb⟩
  refine ⟨h.of_below hb, ?_⟩
  have : Lib.decodeGo (strOf l) = if l = [] then (65533, 0) else decL l := by
    unfold Lib.decodeGo
    rw [strOf_size, decode_strOf]
    by_cases e : l = []
    · simp [e]
    · have : l.length ≠ 0 := fun h => e (List.eq_nil_of_length_eq_zero h)
      simp [e, this]
  rw [this]
  split <;> rfl
end

/-! ### Is it a text? -/

/-- No character of it is NUL, or none. -/
def good (l : List UInt8) : Bool := (chs l).all fun x => !(x.1 == 0) && !(x.1 == 65533 && x.2 == 1)
theorem good_nil : good [] = true := rfl
theorem good_cons {l : List UInt8} (h : l ≠ []) : good l = ((!((decL l).1 == 0) && !((decL l).1 == 65533 && (decL l).2 == 1)) && good (l.drop (decL l).2)) := by
  unfold good
  rw [chs_cons h, List.all_cons]

section
attribute [local go_sem] F100.t6_eq F100.t3_eq F100.t10_eq
theorem bad_any {w0 w : World} {A : HP} (h : St w0 A w) [Gives A Tabs] {l : List UInt8} (hl : l.length ≤ 9223372036854775807) :
    Calls Tryz.prog 100 #[.string (strOf l)] w fun e w' => St w0 A w' ∧ ∃ k : Int, e = .returned (.int .i64 k) ∧ decide (k < 0) = good l := by
  refine F100.calls (by simp) ?_
  unfold F100.code
  simp -dsimp -implicitDefEqProofs (disch := omega) only [go_sem, reqD_of, dec_t, dec_f, wrap_i64, wrap_u32, wrap_u64, wrap_u8]
  refine h.rangeS (by kernel_rfl) fun r w1 h1 => ?_
  simp -dsimp -implicitDefEqProofs (disch := omega) only [go_sem, reqD_of, dec_t, dec_f, wrap_i64, wrap_u32, wrap_u64, wrap_u8]
  refine loop_intro (fun e w' => e.ds = [] ∧ e.ρ 0 = .string (strOf l) ∧ e.ρ 8 = .pointer (some ⟨r, 0, none⟩) ∧ ∃ pos : Nat, pos ≤ l.length ∧ good l = good (l.drop pos) ∧ St w0 (Blk r (.stringIter (strOf l) pos) * A) w')
    (fun e w' => match w'.heap[r]? with | some (.stringIter _ p) => l.length - p | _ => 0) ?_ ?_
  · exact ⟨rfl, by simp -dsimp -implicitDefEqProofs only [go_sem], by simp -dsimp -implicitDefEqProofs only [go_sem], 0, by omega, by simp, h1⟩
  · clear h1 h
    rintro e w2 ⟨hd, e0, e8, pos, hpos, hg, h2⟩
    simp -dsimp -implicitDefEqProofs (disch := omega) only [go_sem, reqD_of, dec_t, dec_f, wrap_i64, wrap_u32, wrap_u64, wrap_u8, hd, e0, e8]
    refine h2.nextS (fun hn => ?_) fun hm w3 h3 => ?_
    · have : l.drop pos = [] := List.drop_of_length_le (by omega)
      rw [this] at hg
      simp -dsimp -implicitDefEqProofs (disch := omega) only [go_sem, reqD_of, dec_t, dec_f, wrap_i64, wrap_u32, wrap_u64, wrap_u8, hd, e0, e8]
      exact ⟨h2.right, _, rfl, by rw [hg]; rfl⟩
    · have hne : l.drop pos ≠ [] := fun e => by have := congrArg List.length e; simp at this; omega
      have hw := decL_width _ hne
      have hle := decL_le (l.drop pos)
      have hdl : (l.drop pos).length = l.length - pos := by simp
      rw [good_cons hne, List.drop_drop] at hg
      obtain ⟨c, hc⟩ : ∃ c, c = (decL (l.drop pos)).1 := ⟨_, rfl⟩
      obtain ⟨n, hn⟩ : ∃ n, n = (decL (l.drop pos)).2 := ⟨_, rfl⟩
      rw [← hc] at hle hg
      rw [← hn] at hg hw h3
      rw [← hc]
      have m2 := h2.blk
      have m3 := h3.blk
      by_cases c0 : (c : Int) = 0
      · have : c = 0 := by omega
        simp -dsimp -implicitDefEqProofs (disch := omega) only [go_sem, reqD_of, dec_t, dec_f, wrap_i64, wrap_u32, wrap_u64, wrap_u8, hd, e0, e8, c0]
        exact ⟨h3.right, _, rfl, by rw [hg, this]; simp⟩
      · have c0' : ¬ c = 0 := by omega
        by_cases c1 : (c : Int) = 65533
        · have : c = 65533 := by omega
          simp -dsimp -implicitDefEqProofs (disch := omega) only [go_sem, reqD_of, dec_t, dec_f, wrap_i64, wrap_u32, wrap_u64, wrap_u8, hd, e0, e8, c0, c1]
          refine (decode_lib (l := l.drop pos) h3).mono ?_
          rintro e' w4 ⟨h4, rfl⟩
          have m4 := h4.blk
          simp only [hne, if_false, ← hn, ← hc]
          by_cases n1 : (n : Int) = 1
          · have : n = 1 := by omega
            simp -dsimp -implicitDefEqProofs (disch := omega) only [go_sem, reqD_of, dec_t, dec_f, wrap_i64, wrap_u32, wrap_u64, wrap_u8, hd, e0, e8, n1]
            exact ⟨h4.right, _, rfl, by rw [hg, this, ‹c = 65533›]; simp⟩
          · have : ¬ n = 1 := by omega
            simp -dsimp -implicitDefEqProofs (disch := omega) only [go_sem, reqD_of, dec_t, dec_f, wrap_i64, wrap_u32, wrap_u64, wrap_u8, hd, e0, e8, n1, m2, m4]
            exact ⟨⟨pos + n, by omega, by rw [hg]; simp [c0', this], h4⟩, by omega⟩
        · have : ¬ c = 65533 := by omega
          simp -dsimp -implicitDefEqProofs (disch := omega) only [go_sem, reqD_of, dec_t, dec_f, wrap_i64, wrap_u32, wrap_u64, wrap_u8, hd, e0, e8, c0, c1, m2, m3]
          exact ⟨⟨pos + n, by omega, by rw [hg]; simp [c0', this], h3⟩, by omega⟩

end

theorem good_any {w0 w : World} {A : HP} (h : St w0 A w) [Gives A Tabs] {l : List UInt8} (hl : l.length ≤ 9223372036854775807) :
    Calls Tryz.prog 84 #[.string (strOf l)] w fun e w' => St w0 A w' ∧ e = .returned (.bool (good l)) := by
  refine F84.calls (by simp) ?_
  unfold F84.code
  simp -dsimp -implicitDefEqProofs (disch := omega) only [go_sem, reqD_of, dec_t, dec_f, wrap_i64, wrap_u32, wrap_u64, wrap_u8]
  refine (bad_any h hl).mono ?_
  rintro e w1 ⟨h1, k, rfl, hk⟩
  simp -dsimp -implicitDefEqProofs (disch := omega) only [go_sem, reqD_of, dec_t, dec_f, wrap_i64, wrap_u32, wrap_u64, wrap_u8, hk]
  exact h1

/-! ### A file's name -/

def dots (l : List UInt8) : Bool := l == [] || l == [46] || l == [46, 46]
def okName (l : List UInt8) : Bool := !(dots l) && !(255 < l.length : Bool) && !((47 : UInt8) ∈ l : Bool) && good l

section
attribute [local go_sem] F93.t8_eq F93.t4_eq F93.t9_eq
theorem check_any {w0 w : World} {A : HP} (h : St w0 A w) [Gives A Tabs] {l : List UInt8} (hl : l.length ≤ 9223372036854775807) :
    Calls Tryz.prog 93 #[.string (strOf l)] w fun e w' => St w0 A w' ∧ e = .returned (.int .i64 (if okName l then 0 else 50)) := by
  refine F93.calls (by simp) ?_
  unfold F93.code
  by_cases h0 : l = []
  · have : okName l = false := by simp [okName, dots, h0]
    have e0 : decide (l = []) = true := by simp [h0]
    simp -dsimp -implicitDefEqProofs (disch := omega) only [go_sem, reqD_of, dec_t, dec_f, wrap_i64, wrap_u32, wrap_u64, wrap_u8, e0]
    simp only [this]
    exact ⟨h, rfl⟩
  by_cases h1 : l = [46]
  · have : okName l = false := by simp [okName, dots, h1]
    have e1 : decide (l = [46]) = true := by simp [h1]
    simp -dsimp -implicitDefEqProofs (disch := omega) only [go_sem, reqD_of, dec_t, dec_f, wrap_i64, wrap_u32, wrap_u64, wrap_u8, h0, e1]
    simp only [this]
    exact ⟨h, rfl⟩
  by_cases h2 : l = [46, 46]
  · have : okName l = false := by simp [okName, dots, h2]
    have e2 : decide (l = [46, 46]) = true := by simp [h2]
    simp -dsimp -implicitDefEqProofs (disch := omega) only [go_sem, reqD_of, dec_t, dec_f, wrap_i64, wrap_u32, wrap_u64, wrap_u8, h0, h1, e2]
    simp only [this]
    exact ⟨h, rfl⟩
  by_cases h3 : (255 : Int) < l.length
  · have : okName l = false := by simp [okName]; intros; omega
    simp -dsimp -implicitDefEqProofs (disch := omega) only [go_sem, reqD_of, dec_t, dec_f, wrap_i64, wrap_u32, wrap_u64, wrap_u8, h0, h1, h2, h3]
    simp only [this]
    exact ⟨h, rfl⟩
  simp -dsimp -implicitDefEqProofs (disch := omega) only [go_sem, reqD_of, dec_t, dec_f, wrap_i64, wrap_u32, wrap_u64, wrap_u8, h0, h1, h2, h3]
  refine (contains_lib h).mono ?_
  rintro e w1 ⟨hw1, rfl⟩
  by_cases h4 : (47 : UInt8) ∈ l
  · have : okName l = false := by simp [okName, h4]
    simp -dsimp -implicitDefEqProofs (disch := omega) only [go_sem, reqD_of, dec_t, dec_f, wrap_i64, wrap_u32, wrap_u64, wrap_u8, h0, h1, h2, h3, h4]
    simp only [this]
    exact ⟨hw1, rfl⟩
  simp -dsimp -implicitDefEqProofs (disch := omega) only [go_sem, reqD_of, dec_t, dec_f, wrap_i64, wrap_u32, wrap_u64, wrap_u8, h0, h1, h2, h3, h4]
  refine (good_any hw1 hl).mono ?_
  rintro e w2 ⟨hw2, rfl⟩
  cases h5 : good l with
  | false =>
    have : okName l = false := by simp [okName, h5]
    simp -dsimp -implicitDefEqProofs (disch := omega) only [go_sem, reqD_of, dec_t, dec_f, wrap_i64, wrap_u32, wrap_u64, wrap_u8, h5]
    simp only [this]
    exact ⟨hw2, rfl⟩
  | true =>
    have : okName l = true := by simp [okName, dots, h0, h1, h2, h4, h5]; omega
    simp -dsimp -implicitDefEqProofs (disch := omega) only [go_sem, reqD_of, dec_t, dec_f, wrap_i64, wrap_u32, wrap_u64, wrap_u8, h5]
    simp only [this]
    exact ⟨hw2, rfl⟩

end
end Go.Proofs.YtijnmokpihhhcaaGreatDoor

namespace Go.Proofs.YtijnmokpihhhcaaGreatDoor
open Go

theorem St.below0 {w0 w : World} (h : St w0 (Old w0) w) : RowKit.Below w0.heap.size w0 w := by
  refine ⟨h.os, h.tape, h.output, h.size, fun k hk => ?_⟩
  obtain ⟨x, l, a⟩ := h.sat
  have := l k _ (a k _ (Array.getElem?_eq_getElem hk))
  rw [Array.getElem?_eq_getElem hk]
  exact this

end Go.Proofs.YtijnmokpihhhcaaGreatDoor

namespace Go.Proofs.YtijnmokpihhhcaaGreatDoor
open Go
open Go.RowKit
set_option linter.unusedVariables false
set_option linter.unusedSimpArgs false

section
variable {H : Type} {enc : TypeId × Value → H}
theorem returns_laid {a : Assume} {C : Checked} {os : Os} {f : FuncId} {fn : Func} {s : ChangeSpec} {conds : List PathCond} {apart fresh handsOn again : Bool} {laid : List (String × DataW Unit)}
    (own : ownKnob C.prog.godebug = none) (started : os.Started) (noInit : C.prog.inits.idxOf? f = none) (hfn : C.prog.funcs[f]? = some fn)
    (witness : ∃ (w : World) (tape : Tape) (i : Input), w.os = os ∧ (w.forCall tape i).Shaped C.prog ∧ i.vars = [] ∧ Input.okWide C.prog (w.forCall tape i) .any w.heap.size f i ∧
      ((s.pre enc C.prog fn conds apart (w.forCall tape i).memory i.args ∧ laidMetH C.prog laid (w.forCall tape i).memory) ∧ sizedMet enc C.prog fn (OpenSpec.ofChange s) apart (w.forCall tape i).memory i.args) ∧ a.holds C.prog (lone (Frame.enter C.prog f i.args .normal) [] (w.forCall tape i)))
    (contract : ∀ (W : World) (base : Nat) (args : Array Value) (ds gs : List (DataW H)) (before : List MemPlace),
      (∀ (j : Nat) t v, fn.params[j]? = some t → args[j]? = some v → Value.okWide C.prog W .any base t v) →
      DataW.Whole enc C.prog fn.params.toList s.vars apart W args.toList ds gs before →
      conds.all (PathCond.test C.prog ⟨fn.params.toList, ds, s.plain.varTypes C.prog, gs⟩) = true →
      (DataW.weightsEach C.prog (fn.params.toList ++ s.plain.varTypes C.prog) (ds ++ gs)).all (· ≤ reachBytes) = true →
      laidMetH C.prog laid W → W.ShapedOpen C.prog →
      a.holds C.prog (lone (Frame.enter C.prog f args .normal) [] W) →
      Calls C.prog f args W fun e W' => ∃ v, e = .returned v ∧ s.post enc C.prog fn apart fresh handsOn again W args v W') :
    ReturnsInHanded a C os f .any (fun w args => (s.pre enc C.prog fn conds apart w args ∧ laidMetH C.prog laid w) ∧ sizedMet enc C.prog fn (OpenSpec.ofChange s) apart w args) (s.post enc C.prog fn apart fresh handsOn again) := by
  refine returnsInHanded_of_calls own started noInit witness ?_
  intro w tape i _ hsh _ hok hpre hholds
  obtain ⟨_, _, _, fn', hfn', _, _, _, _, hval⟩ := hok
  have e : fn' = fn := Option.some.inj (hfn'.symm.trans hfn)
  subst e
  obtain ⟨⟨⟨ds, gs, before, hw, hc⟩, hx⟩, hz⟩ := hpre
  have hw' := DataW.Whole.of_heap (w' := w.forCall tape i) (by rfl) hw
  refine (contract (w.forCall tape i) w.heap.size i.args ds gs before hval hw' hc (hz.weights hw) (hx.of_heap (by rfl)) hsh hholds).mono fun e W' ⟨v, he, hp⟩ => ?_
  subst he
  exact ChangeSpec.post_blind hp
end

abbrev laidU8 : List (String × DataW Unit) := [("unicode/utf8.acceptRanges", Rows.laid_unicode_utf8_acceptRanges), ("unicode/utf8.first", Rows.laid_unicode_utf8_first)]
theorem accept_eq : (Rows.laid_unicode_utf8_acceptRanges : DataW Unit) = Lib.acceptData := by kernel_rfl
theorem first_eq : Rows.laid_unicode_utf8_first = Lib.firstData := Pinned.utf8First_eq

theorem block_of_cell {w : World} {b i : Nat} {v : Value} (h : w.cell? ⟨b, i, none⟩ = some v) : ∃ cur T fr, heapOf w b = some (.cells cur T fr) := by
  unfold heapOf
  simp only [World.cell?] at h
  split at h
  · rename_i cs t f e; exact ⟨_, _, _, e⟩
  · cases h
theorem cell_at {w : World} {b i : Nat} {v : Value} {cur : Array Value} {T : TypeId} {fr : Nat × Nat} (h : w.cell? ⟨b, i, none⟩ = some v) (k : heapOf w b = some (.cells cur T fr)) : cur[i]? = some v := by
  rw [cell_of k] at h; exact h

theorem tabs_old {W : World} (hL : laidMetH Tryz.prog laidU8 W) (hs : W.ShapedOpen Tryz.prog) : Ent (Old W) Tabs := by
  have hM : laidMet Tryz.prog laidU8 W := by rwa [MakeChecks.laidMetH_plain _ _ _ (by kernel_rfl)] at hL
  have h4 : Lib.VarReads Tryz.prog W "unicode/utf8.acceptRanges" Lib.acceptData := accept_eq ▸ Lib.laidMet.reads hM (by simp [laidU8])
  have h3 : Lib.VarReads Tryz.prog W "unicode/utf8.first" Lib.firstData := first_eq ▸ Lib.laidMet.reads hM (by simp [laidU8])
  have ht : Lib.Utf8Tabs 0 1 W := utf8Tabs_of_reads (ρ := layDecode_ren) { layDecode with } ⟨by kernel_rfl, by kernel_rfl, by kernel_rfl, by kernel_rfl, by kernel_rfl, by kernel_rfl, by kernel_rfl⟩ h3 h4
  obtain ⟨m, hm⟩ := cell_of_shapedOpen_int (P := Tryz.prog) (g := 2) (t := 3) (zero := #[.int .i64 0]) hs (of_decide_eq_true (by kernel_rfl)) (by kernel_rfl) rfl (by kernel_rfl) (by kernel_rfl) Tryz.underlying3
  obtain ⟨c1, T1, f1, k1⟩ := block_of_cell (ht.1 0 (by omega))
  obtain ⟨c2, T2, f2, k2⟩ := block_of_cell (ht.2 0 (by omega)).1
  obtain ⟨c0, T0, f0, k0⟩ := block_of_cell hm
  refine Ent.of fun h a => ⟨⟨c1, T1, f1, a _ _ k1, fun c hc => cell_at (ht.1 c hc) k1⟩, ⟨c2, T2, f2, a _ _ k2, fun i hi => ⟨cell_at (ht.2 i hi).1 k2, cell_at (ht.2 i hi).2 k2⟩⟩, ⟨c0, T0, f0, m, a _ _ k0, cell_at hm k0⟩⟩

noncomputable abbrev laidWorld (os : Os) : World := World.laidAll Tryz.prog os laidU8
theorem laidWorld_met (os : Os) (args : Array Value) : laidMetH Tryz.prog laidU8 ((laidWorld os).forCall (fun _ _ => 0) ⟨#[], args, []⟩).memory := by
  rw [MakeChecks.laidMetH_plain _ _ _ (by kernel_rfl)]
  exact laidMet_laidAll _ (by kernel_rfl) (by kernel_rfl)
theorem laidWorld_shaped (os : Os) (args : Array Value) : ((laidWorld os).forCall (fun _ _ => 0) ⟨#[], args, []⟩).Shaped Tryz.prog :=
  World.shaped_of_ZipB (by kernel_rfl) (by kernel_rfl)
end Go.Proofs.YtijnmokpihhhcaaGreatDoor

namespace Go.Proofs.YtijnmokpihhhcaaGreatDoor
open Go
set_option maxRecDepth 100000
abbrev muLink : Go.Conc.Locks.MuLink := { lock := 32, unlock := 33, ilock := 76, iunlock := 77, lockSlow := 97, unlockSlow := 98, disable := 69, enable := 72, acquire := 73, relMerge := 74, cas32 := 96, add32 := 95, tMutex := 90, tIMutex := 88, tPMutex := 130, tPIMutex := 151, tPI32 := 150, tUP := 129, tNoCopy := 86, tU32 := 33 }
theorem muLib : Go.Conc.Locks.MuLib Tryz.prog muLink :=
  ⟨Tryz.func32, Tryz.func33, Tryz.func76, Tryz.func77, Tryz.func69, Tryz.func72, Tryz.func73, Tryz.func74, Tryz.func96, Tryz.func95, Tryz.underlying88, Tryz.runUnderlying88, Tryz.sizeOf88, Tryz.isAgg88, Tryz.zeroValue88, Tryz.underlying90, Tryz.runUnderlying90, Tryz.sizeOf90, Tryz.isAgg90, Tryz.zeroValue90, Tryz.underlying130, Tryz.runUnderlying130, Tryz.sizeOf130, Tryz.isAgg130, Tryz.zeroValue130, Tryz.underlying151, Tryz.runUnderlying151, Tryz.sizeOf151, Tryz.isAgg151, Tryz.zeroValue151, Tryz.underlying150, Tryz.runUnderlying150, Tryz.sizeOf150, Tryz.isAgg150, Tryz.zeroValue150, Tryz.underlying129, Tryz.runUnderlying129, Tryz.sizeOf129, Tryz.isAgg129, Tryz.zeroValue129, Tryz.underlying86, Tryz.runUnderlying86, Tryz.sizeOf86, Tryz.isAgg86, Tryz.zeroValue86, Tryz.underlying21, Tryz.runUnderlying21, Tryz.sizeOf21, Tryz.isAgg21, Tryz.zeroValue21, by kernel_rfl⟩
abbrev rwLink : Go.Conc.Locks.RwLink := { lock := 32, unlock := 33, ilock := 76, iunlock := 77, lockSlow := 97, unlockSlow := 98, disable := 69, enable := 72, acquire := 73, relMerge := 74, cas32 := 96, add32 := 95, rlock := 30, runlock := 31, wlock := 63, wunlock := 64, i32add := 70, raceRead := 68, release := 90, rUnlockSlow := 75, semacqR := 71, semacqW := 89, semrel := 92, sfatal := 91, tMutex := 90, tIMutex := 88, tPMutex := 130, tPIMutex := 151, tPI32 := 150, tUP := 129, tNoCopy := 86, tU32 := 33, tRW := 95, tPRW := 127, tAI32 := 93, tPAI32 := 148, tPU32 := 133, tANoCopy := 91 }
theorem rwCore : Go.Conc.Locks.RwCore Tryz.prog rwLink :=
  ⟨Tryz.func70, Tryz.func68, Tryz.func69, Tryz.func72, Tryz.func73, Tryz.func74, Tryz.func95, Tryz.underlying95, Tryz.runUnderlying95, Tryz.sizeOf95, Tryz.isAgg95, Tryz.zeroValue95, Tryz.underlying93, Tryz.runUnderlying93, Tryz.sizeOf93, Tryz.isAgg93, Tryz.zeroValue93, Tryz.underlying127, Tryz.runUnderlying127, Tryz.sizeOf127, Tryz.isAgg127, Tryz.zeroValue127, Tryz.underlying148, Tryz.runUnderlying148, Tryz.sizeOf148, Tryz.isAgg148, Tryz.zeroValue148, Tryz.underlying133, Tryz.runUnderlying133, Tryz.sizeOf133, Tryz.isAgg133, Tryz.zeroValue133, Tryz.underlying91, Tryz.runUnderlying91, Tryz.sizeOf91, Tryz.isAgg91, Tryz.zeroValue91, Tryz.underlying33, Tryz.runUnderlying33, Tryz.sizeOf33, Tryz.isAgg33, Tryz.zeroValue33, Tryz.underlying90, Tryz.runUnderlying90, Tryz.sizeOf90, Tryz.isAgg90, Tryz.zeroValue90, Tryz.underlying130, Tryz.runUnderlying130, Tryz.sizeOf130, Tryz.isAgg130, Tryz.zeroValue130, Tryz.underlying150, Tryz.runUnderlying150, Tryz.sizeOf150, Tryz.isAgg150, Tryz.zeroValue150, Tryz.underlying129, Tryz.runUnderlying129, Tryz.sizeOf129, Tryz.isAgg129, Tryz.zeroValue129, Tryz.underlying21, Tryz.runUnderlying21, Tryz.sizeOf21, Tryz.isAgg21, Tryz.zeroValue21, by kernel_rfl, by kernel_rfl⟩
theorem rwRLib : Go.Conc.Locks.RwRLib Tryz.prog rwLink := ⟨rwCore, Tryz.func30, Tryz.func31⟩
theorem rwWLib : Go.Conc.Locks.RwWLib Tryz.prog rwLink := ⟨rwCore, muLib, Tryz.func63, Tryz.func64, Tryz.func90, Tryz.underlying3, Tryz.runUnderlying3, Tryz.sizeOf3, Tryz.isAgg3, Tryz.zeroValue3⟩
end Go.Proofs.YtijnmokpihhhcaaGreatDoor

namespace Go.Proofs.YtijnmokpihhhcaaGreatDoor
open Go
set_option linter.unusedVariables false
set_option linter.unusedSimpArgs false

section
variable {P : Program}

/-- panic(x). -/
def panicD (v : Value) (Pc : List PanicEntry → World → Prop) (w : World) : Prop := ∃ T u, v = .iface T u ∧ Pc [{ v := .iface T u, recovered := false }] w
theorem panicD_iface {T : TypeId} {u : Value} {Pc : List PanicEntry → World → Prop} {w : World} : panicD (.iface T u) Pc w = Pc [{ v := .iface T u, recovered := false }] w := by
  apply propext
  constructor
  · rintro ⟨T', u', h, k⟩; cases h; exact k
  · exact fun h => ⟨T, u, rfl, h⟩

theorem panic_of {K : Value → World → Prop} {D : Deferred → World → Prop} {Pc : List PanicEntry → World → Prop} {d : Option Nat} {x : Operand} {ty : TypeId} {p : String} {af : Array Edge} {g : Option (Nat × Bool)} {e : FA} {w : World} {θ : Tag (K, D, Pc)}
    (h : panicD (e.ev x) Pc w) : rawD P K D Pc (opS ⟨d, .panic x, ty, p, af, g⟩ e) w θ := by
  obtain ⟨T, u, hv, h⟩ := h
  show upon P K D Pc ((execOp e.ev _).run P w)
  have : (execOp e.ev ⟨d, .panic x, ty, p, af, g⟩).run P w = .halt (.panic (.iface T u)) w := by
    simp [execOp, hv, Instr.panic, goPanic, go_sem]
  rw [this]
  exact h

theorem mkI_of {T : TypeId} {v : Value} {w : World} {K : Value → Prop} {θ : Tag K} (hc : P.concrete T = true) (hK : K (.iface T v)) : readR P (kMakeInterface T v) w K θ :=
  ⟨_, run_makeInterface w T v hc, hK⟩

/-- v, ok := x.(T), of a type that is no interface. -/
theorem assert_of {T T' : TypeId} {v : Value} {w : World} {K : Value → Prop} {θ : Tag K} {u : TypeDesc} (hu : P.underlying T' = some u) (hn : ∀ m, u ≠ .interface m) (hK : K (.tuple #[v, .bool true])) : readR P (kTypeAssert (.iface T' v) T T' true) w K θ := by
  refine ⟨_, ?_, hK⟩
  show (Instr.typeAssert _ _ _ _).run P w = _
  unfold Instr.typeAssert
  simp only [Sem.run_bind, run_underlying hu, Result.andThen]
  cases u <;> first | exact absurd rfl (hn _) | simp

/-- A call is put off. -/
theorem defer_of {K : Value → World → Prop} {D : Deferred → World → Prop} {Pc : List PanicEntry → World → Prop} {d : Option Nat} {t : Nat} {f : Nat} {cap : Array Value} {ty : TypeId} {p : String} {af : Array Edge} {g : Option (Nat × Bool)} {e : FA} {w : World} {θ : Tag (K, D, Pc)}
    (hv : e.ρ t = .func (.func f) #[] cap) (h : D { target := .fn (.func f) cap, args := #[] } w) : rawD P K D Pc (opS ⟨d, .defer { callee := .value (.tmp t), args := #[], argTypes := #[] }, ty, p, af, g⟩ e) w θ := by
  show upon P K D Pc ((execOp e.ev _).run P w)
  have : (execOp e.ev ⟨d, .defer { callee := .value (.tmp t), args := #[], argTypes := #[] }, ty, p, af, g⟩).run P w = .ok (.defer { target := .fn (.func f) cap, args := #[] }) w := by
    simp [execOp, resolve, FA.ev, hv, go_sem]
  rw [this]
  exact h

theorem resC_CC {x y : Nat} {T U : TypeId} {a b : Addr} {v u : Value} {R : Ending → World → Prop} {e : FA} {w : World} (hx : e.ρ x = .pointer (some a)) (hv : (loadVar T a).run P w = .ok v w) (hy : e.ρ y = .pointer (some b)) (hu : (loadVar U b).run P w = .ok u w) (h : R (.returned (.tuple #[v, u])) w) : resC P #[.cell x T, .cell y U] e R w :=
  ⟨.tuple #[v, u], by simp [resF, hx, hy, asAddr, hv, hu], h⟩
theorem eqV_nilI : eqV (some (.interface #[])) .nilIface .nilIface = some true := rfl
theorem eqV_ifaceNil {m : Array (String × TypeId)} {T : TypeId} {v : Value} : eqV (some (.interface m)) (.iface T v) .nilIface = some false := rfl
theorem binV_ieql {T : TypeId} {y : Value} : binV P .eql T .nilIface y = (eqV (P.underlying T) .nilIface y).map .bool := by simp [binV]
theorem binV_jeql {T t : TypeId} {v y : Value} : binV P .eql T (.iface t v) y = (eqV (P.underlying T) (.iface t v) y).map .bool := by simp [binV]

/-! ### Leaving a function that has put off calls -/

/-- What is asked of the calls that were put off, one by one. -/
def leaveD (P : Program) : List Deferred → FrameMode → World → (FrameMode → World → Prop) → Prop
  | [], u, w, K => K u w
  | d :: ds, u, w, K => u ≠ .run ∧ ∃ fv cap f args, d.target = .fn fv cap ∧ (invoke d.target d.args).run P w = .ok (.enter f args) w ∧
      CallsDIn (Fr none) 0 P f args u w fun
        | .returned _, u', w' => leaveD P ds (settle u') w' K
        | .panicked chain, u', w' => leaveD P ds (raised u' chain) w' K
        | .outgrown, _, _ => False

def endM (P : Program) (rs : Array ResultVar) (e : FA) (R : Ending → World → Prop) : FrameMode → World → Prop
  | .returning, w => resC P rs e R w
  | .panicking chain, w => R (.panicked chain) w
  | .run, _ => False

def fnM (P : Program) (rs : Array ResultVar) (R : Ending → World → Prop) : Post
  | .normal, e, w | .ret, e, w => leaveD P e.ds .returning w (endM P rs e R)
  | .panic chain, e, w => leaveD P e.ds (.panicking chain) w (endM P rs e R)
  | _, _, _ => False

theorem fnM_ret {rs : Array ResultVar} {R : Ending → World → Prop} {e : FA} {w : World} : fnM P rs R .ret e w = leaveD P e.ds .returning w (endM P rs e R) := rfl
theorem fnM_normal {rs : Array ResultVar} {R : Ending → World → Prop} {e : FA} {w : World} : fnM P rs R .normal e w = leaveD P e.ds .returning w (endM P rs e R) := rfl
theorem fnM_panic {rs : Array ResultVar} {R : Ending → World → Prop} {c : List PanicEntry} {e : FA} {w : World} : fnM P rs R (.panic c) e w = leaveD P e.ds (.panicking c) w (endM P rs e R) := rfl

theorem CallsDIn.mono' {F : Fence} {n : Nat} {f : FuncId} {args : Array Value} {u : FrameMode} {w : World} {R R' : Ending → FrameMode → World → Prop} (h : CallsDIn F n P f args u w R) (hr : ∀ e u' w', R e u' w' → R' e u' w') : CallsDIn F n P f args u w R' :=
  ⟨h.1, fun c cs hu hroom => let ⟨e, u', w', fr, r, rest⟩ := h.2 c cs hu hroom; ⟨e, u', w', fr, hr _ _ _ r, rest⟩⟩

theorem leave1 {f : Nat} {cap : Array Value} {ds : List Deferred} {u : FrameMode} {w : World} {K : FrameMode → World → Prop} (hu : u ≠ .run) (hf : fnOk0 P f = true)
    (h : CallsDIn (Fr none) 0 P f cap u w fun
        | .returned _, u', w' => leaveD P ds (settle u') w' K
        | .panicked chain, u', w' => leaveD P ds (raised u' chain) w' K
        | .outgrown, _, _ => False) : leaveD P ({ target := .fn (.func f) cap, args := #[] } :: ds) u w K :=
  ⟨hu, .func f, cap, f, cap, rfl, by
    show (invoke (.fn (.func f) cap) #[]).run P w = _
    simp only [invoke, Array.empty_append]
    exact fnOk0_run hf _ _, h⟩

theorem leaves_of_leaveD {fn : Func} {tmps : Array Value} {R : Ending → World → Prop} {K : FrameMode → World → Prop} (hK : ∀ u w, K u w → LeavesInM (Fr none) 0 P fn tmps R [] u w) :
    ∀ (ds : List Deferred) (u : FrameMode) (w : World), leaveD P ds u w K → LeavesInM (Fr none) 0 P fn tmps R ds u w
  | [], u, w, h => hK u w h
  | d :: ds, u, w, ⟨hu, fv, cap, f, args, ht, hi, hc⟩ => by
    refine ⟨hu, .inr ⟨Fr_depth _ _, fv, cap, f, args, ht, hi, fun _ _ => trivial, ?_⟩⟩
    refine CallsDIn.mono' hc fun e u' w' h => ?_
    cases e with
    | returned v => exact leaves_of_leaveD hK ds _ _ h
    | panicked c => exact leaves_of_leaveD hK ds _ _ h
    | outgrown => exact h.elim

theorem calls_of_cwM {f : FuncId} {fn : Func} {c : Code} {types : Array TypeInfo} {args : Array Value} {w : World} {R : Ending → World → Prop}
    (hm : P.follows .mixedOrders = true) (hf : P.funcs[f]? = some fn) (c' : Cd) (hb : fn.body = some c) (hc : comp types fn.ntmps c = c') (hn : args.size ≤ fn.ntmps)
    (h : cwE P c' (fnM P fn.results R) (entry args) w) : Calls P f args w R := by
  subst hc
  have h1 : cw P none (comp types fn.ntmps c) (fnM P fn.results R) (entry args) w := cw_of_cwD _ _ _ _ _ _ (fun _ _ _ h => h) h
  refine callsC_to (ro := none) (n := 0) (callsIn_of_wpB hf hb (wpB_mono (cw_soundB hm c none _ _ w (fun h => by cases h) h1 _ (N := fn.ntmps) ⟨by simp; omega, fun t => ?_, rfl⟩) ?_))
  · simp only [entry]
    rcases Nat.lt_or_ge t args.size with h1 | h1
    · simp [Array.getElem?_append, h1]
    · have : (args ++ Array.replicate (fn.ntmps - args.size) undef).getD t undef = undef := by
        rw [Array.getD_eq_getD_getElem?, Array.getElem?_append, if_neg (by omega)]
        rcases Nat.lt_or_ge (t - args.size) (fn.ntmps - args.size) with h2 | h2
        · simp [h2]
        · rw [Array.getElem?_eq_none (by simpa using h2)]; rfl
      rw [this]
      simp [Array.getElem?_eq_none h1]
  · rintro x a w ⟨e, hr, hq⟩
    have main : ∀ u, leaveD P e.ds u w (endM P fn.results e R) → LeavesInM (Fr none) 0 P fn a.tmps R a.defers u w := fun u hq => by
      rw [hr.ds]
      refine leaves_of_leaveD (fun u w h => ?_) _ _ _ hq
      cases u with
      | run => exact h.elim
      | returning =>
        obtain ⟨v, h1, h2⟩ := h
        exact ⟨v, by rw [results_eq hr]; exact h1, h2⟩
      | panicking c => exact h
    cases x with
    | normal => exact main _ hq
    | ret => exact main _ hq
    | panic c => exact main _ hq
    | exit id => exact hq.elim
    | goto l => exact hq.elim
    | outgrown => exact hq.elim

/-! ### A function that is put off and recovers first of all -/

/-- What recover finds, and the caller's way behind it. -/
def recM : FrameMode → Value × FrameMode
  | .panicking ({ v, recovered := false, goexit := false } :: older) => (v, .panicking ({ v, recovered := true } :: older))
  | u => (.nilIface, u)

def fnR (P : Program) (rs : Array ResultVar) (u : FrameMode) (R : Ending → FrameMode → World → Prop) : Post
  | .normal, e, w | .ret, e, w => e.ds = [] ∧ resC P rs e (fun x w => R x u w) w
  | .panic chain, e, w => e.ds = [] ∧ R (.panicked chain) u w
  | _, _, _ => False

theorem recoverD_recM (c : Frame) (cs : List Frame) : recoverD (c :: cs) = some ((recM c.mode).1, { c with mode := (recM c.mode).2 } :: cs) ∨ (recoverD (c :: cs) = none ∧ recM c.mode = (.nilIface, c.mode)) := by
  cases hm : c.mode with
  | run => right; simp [recoverD, recM, hm]
  | returning => right; simp [recoverD, recM, hm]
  | panicking l =>
    cases l with
    | nil => right; simp [recoverD, recM, hm]
    | cons x l =>
      obtain ⟨v, r, g⟩ := x
      cases r <;> cases g <;> simp [recoverD, recM, hm]

theorem callsD_recover {f : FuncId} {fn : Func} {i d : Nat} {ops : Array Oper} {o : Oper} {c : Code} {types : Array TypeInfo} {x c' : Cd} {args : Array Value} {u : FrameMode} {w : World} {R : Ending → FrameMode → World → Prop} {ts : Array TypeId}
    (hm : P.follows .mixedOrders = true) (hf : P.funcs[f]? = some fn) (hb : fn.body = some (.seq (.region i ops false) c)) (hs : ops.size = 1) (ho : ops[0]? = some o) (hop : o.op = .call { callee := .builtin .recover, args := #[], argTypes := ts }) (hg : o.guard = none) (hd : o.dst = some d) (hdn : d < fn.ntmps)
    (hc : comp types fn.ntmps (.seq (.region i ops false) c) = .seq x c') (hn : args.size ≤ fn.ntmps) (hnr : noRange c = true)
    (h : cwE P c' (fnR P fn.results (recM u).2 R) ((entry args).put (some d) (recM u).1) w) : CallsDIn (Fr none) 0 P f args u w R := by
  have hcc : comp types fn.ntmps c = c' := by
    simp only [comp, Cd.seq.injEq] at hc
    exact hc.2
  subst hcc
  have h1 : cw P none (comp types fn.ntmps c) (fnR P fn.results (recM u).2 R) ((entry args).put (some d) (recM u).1) w := cw_of_cwD _ _ _ _ _ _ (fun _ _ _ h => h) h
  refine callsDIn_of_wpSIn hf hb trivial fun c₀ cs hu => ?_
  refine wpSIn_seq (wpSIn_region ?_)
  have hrel : Rel fn.ntmps { tmps := args ++ Array.replicate (fn.ntmps - args.size) undef, defers := [] } (entry args) := ⟨by simp; omega, fun t => by
    simp only [entry]
    rcases Nat.lt_or_ge t args.size with h1 | h1
    · simp [Array.getElem?_append, h1]
    · have : (args ++ Array.replicate (fn.ntmps - args.size) undef).getD t undef = undef := by
        rw [Array.getD_eq_getD_getElem?, Array.getElem?_append, if_neg (by omega)]
        rcases Nat.lt_or_ge (t - args.size) (fn.ntmps - args.size) with h2 | h2
        · simp [h2]
        · rw [Array.getElem?_eq_none (by simpa using h2)]; rfl
      rw [this]
      simp [Array.getElem?_eq_none h1], rfl⟩
  rw [hs]
  have hr1 : List.range 1 = [0] := rfl
  rw [hr1]
  unfold wpOpsSIn
  rw [ho]
  simp only
  refine ⟨fun _ _ => trivial, ?_⟩
  have hw : Region.wanted o (yielded ops (args ++ Array.replicate (fn.ntmps - args.size) undef)) = true := by unfold Region.wanted; rw [hg]
  rw [if_pos hw]
  have hx : ∀ ρ, (execOp ρ o).run P w = .ok .recover w := fun ρ => by
    unfold execOp
    rw [hop]
    simp [resolve, invoke, go_sem]
  rw [hx]
  have fin : ∀ (v : Value) (u' : FrameMode), recM u = (v, u') → Exit.thenS (c.wpSIn (Fr none) 0 P (bodyPostS P fn c₀ cs R)) (bodyPostS P fn c₀ cs R) .normal (({ tmps := args ++ Array.replicate (fn.ntmps - args.size) undef, defers := [] } : Act).put (some d) v) ({ c₀ with mode := u' } :: cs) w := by
    intro v u' he
    show c.wpSIn _ _ _ _ _ _ _
    rw [he] at h1
    refine wpSIn_of_wpIn rfl (wpIn_mono (cw_sound hm c none _ _ w hnr (fun h => by cases h) h1 _ (hrel.put (d := some d) (by simpa [dstOk] using hdn) v) 0) ?_)
    rintro y a w ⟨e, hr, hq⟩
    have ret : e.ds = [] ∧ resC P fn.results e (fun x w => R x u' w) w → a.defers = [] ∧ ∃ u'', { c₀ with mode := u' } :: cs = { c₀ with mode := u'' } :: cs ∧ ∃ v, (results fn a.tmps).run P w = .ok v w ∧ R (.returned v) u'' w := by
      rintro ⟨hd, v, h1, h2⟩
      exact ⟨by rw [hr.ds, hd], u', rfl, v, by rw [results_eq hr]; exact h1, h2⟩
    cases y with
    | normal => exact ret hq
    | ret => exact ret hq
    | panic ch => exact ⟨by rw [hr.ds, hq.1], u', rfl, hq.2⟩
    | exit id => exact hq.elim
    | goto l => exact hq.elim
    | outgrown => exact hq.elim
  have hrm := recoverD_recM c₀ cs
  rw [hu] at hrm
  rw [hd]
  unfold wpOpsSIn
  rcases hrm with hrm | ⟨hrm, he⟩
  · rw [hrm]
    exact fin _ _ rfl
  · rw [hrm]
    have := fin _ _ he
    have hcc : ({ c₀ with mode := u } : Frame) = c₀ := by rw [← hu]
    rw [hcc] at this
    exact this
end

theorem fnR_normal {P : Program} {rs : Array ResultVar} {u : FrameMode} {R : Ending → FrameMode → World → Prop} {e : FA} {w : World} : fnR P rs u R .normal e w = (e.ds = [] ∧ resC P rs e (fun x w => R x u w) w) := rfl
attribute [go_sem] eqV_nilI eqV_ifaceNil binV_ieql binV_jeql fnR_normal panicD_iface fnM_ret fnM_normal fnM_panic
end Go.Proofs.YtijnmokpihhhcaaGreatDoor

namespace Go.Proofs.YtijnmokpihhhcaaGreatDoor
open Go
open Go.Conc.Locks
open Go.RowKit (wrap32)
open Go.MuLone (run_callFunc_enter)
set_option linter.unusedVariables false
set_option linter.unusedSimpArgs false
set_option maxRecDepth 100000

set_option maxHeartbeats 1600000 in
theorem unlockIn (a : Addr) (u : FrameMode) (w : World) (hc : w.cell? a = some (.int .i32 1)) (hz : w.frozen? a = false) :
    CallsDIn (Fr none) 0 Tryz.prog muLink.unlock #[.pointer (some a)] u w fun e u' w' => u' = u ∧ (e = .returned (.tuple #[]) ∧ w' = w.setCell a (.int .i32 0)) := by
  have H := muLib
  have hfn : ∀ f, Fence.wide.fn f := fun _ => trivial
  have hdp : Fence.wide.depth = none := rfl
  obtain ⟨⟩ := id H
  have hin := fun args w => run_callFunc_enter (P := Tryz.prog) H.f_iunlock (by kernel_rfl) rfl args w
  show CallsDIn Fence.wide 0 _ _ _ _ _ _
  refine callsDIn_of_wp H.f_unlock rfl trivial ?_
  simp only [MuLone.nt_unlock muLink, List.size_toArray, List.length_cons, List.length_nil, Nat.reduceAdd, Nat.reduceSub, Array.replicate_succ, Array.replicate_zero, List.push_toArray, List.append_toArray, List.nil_append, List.cons_append]
  simp only [unlockFn]
  gi_wp2
  refine (callsC_of (ro := none) (MuLone.iunlock_held H a _ hc hz)).mono ?_
  rintro e w' ⟨rfl, rfl⟩
  gi_wp2
  go_end0
  exact ⟨rfl, rfl⟩
set_option maxHeartbeats 1600000 in
theorem runlockIn (b off : Nat) (rc : Int) (x0 x2 : Value) (u : FrameMode) (w : World) (c0 : w.cell? ⟨b, off, none⟩ = some x0) (c2 : w.cell? ⟨b, off + 2, none⟩ = some x2)
    (hc : w.cell? ⟨b, off + 4, none⟩ = some (.int .i32 rc)) (hz : w.frozen? ⟨b, off + 4, none⟩ = false) (hge : ¬ wrap32 (rc + -1) < 0) :
    CallsDIn (Fr none) 0 Tryz.prog rwLink.runlock #[.pointer (some ⟨b, off, none⟩)] u w fun e u' w' => u' = u ∧ (e = .returned (.tuple #[]) ∧ w' = w.setCell ⟨b, off + 4, none⟩ (.int .i32 (wrap32 (rc + -1)))) := by
  have H := rwRLib
  have C := H.core
  have hfn : ∀ f, Fence.wide.fn f := fun _ => trivial
  have hdp : Fence.wide.depth = none := rfl
  obtain ⟨⟩ := id C
  have hd := RwLone.disable C
  have he := RwLone.enable C
  have hrr := RwLone.raceRead C
  have hrm := RwLone.releaseMerge C
  have v0 := run_convert_to_unsafe (P := Tryz.prog) (src := rwLink.tPMutex) (dst := rwLink.tUP) C.underlying_tPMutex C.underlying_tUP C.room_tMutex c0
  have v2 := run_convert_to_unsafe (P := Tryz.prog) (src := rwLink.tPU32) (dst := rwLink.tUP) C.underlying_tPU32 C.underlying_tUP C.room_tU32 c2
  have hin := fun args w => run_callFunc_enter (P := Tryz.prog) C.f_i32add (by kernel_rfl) rfl args w
  show CallsDIn Fence.wide 0 _ _ _ _ _ _
  refine callsDIn_of_wp H.f_runlock rfl trivial ?_
  simp only [RwLone.nt_runlock rwLink, List.size_toArray, List.length_cons, List.length_nil, Nat.reduceAdd, Nat.reduceSub, Array.replicate_succ, Array.replicate_zero, List.push_toArray, List.append_toArray, List.nil_append, List.cons_append]
  simp only [runlockFn]
  gi_wp2
  refine (callsC_of (ro := none) (RwLone.i32add_any C ⟨b, off + 4, none⟩ rc (-1) _ hc hz)).mono ?_
  rintro e w' ⟨rfl, rfl⟩
  gi_wp2
  go_end0
  exact ⟨rfl, rfl⟩
set_option maxHeartbeats 1600000 in
theorem wunlockIn (b off : Nat) (x2 x3 : Value) (u : FrameMode) (w : World) (c0 : w.cell? ⟨b, off, none⟩ = some (.int .i32 1)) (c2 : w.cell? ⟨b, off + 2, none⟩ = some x2) (c3 : w.cell? ⟨b, off + 3, none⟩ = some x3)
    (hc : w.cell? ⟨b, off + 4, none⟩ = some (.int .i32 (-1073741824))) (z0 : w.frozen? ⟨b, off, none⟩ = false) (hz : w.frozen? ⟨b, off + 4, none⟩ = false) :
    CallsDIn (Fr none) 0 Tryz.prog rwLink.wunlock #[.pointer (some ⟨b, off, none⟩)] u w fun e u' w' => u' = u ∧ (e = .returned (.tuple #[]) ∧ w' = (w.setCell ⟨b, off + 4, none⟩ (.int .i32 0)).setCell ⟨b, off, none⟩ (.int .i32 0)) := by
  have H := rwWLib
  have C := H.core
  have hfn : ∀ f, Fence.wide.fn f := fun _ => trivial
  have hdp : Fence.wide.depth = none := rfl
  obtain ⟨⟩ := id C
  have hu3 := H.underlying_t3
  have hru3 := H.runUnderlying_t3
  have hs3 := H.sizeOf_t3
  have ha3 := H.isAgg_t3
  have hz3 := H.zeroValue_t3
  have hd := RwLone.disable C
  have he := RwLone.enable C
  have hrr := RwLone.raceRead C
  have hrl := RwLone.release H
  have hrm := RwLone.releaseMerge C
  have v0 := run_convert_to_unsafe (P := Tryz.prog) (src := rwLink.tPMutex) (dst := rwLink.tUP) C.underlying_tPMutex C.underlying_tUP C.room_tMutex c0
  have v2 := run_convert_to_unsafe (P := Tryz.prog) (src := rwLink.tPU32) (dst := rwLink.tUP) C.underlying_tPU32 C.underlying_tUP C.room_tU32 c2
  have v3 := run_convert_to_unsafe (P := Tryz.prog) (src := rwLink.tPU32) (dst := rwLink.tUP) C.underlying_tPU32 C.underlying_tUP C.room_tU32 c3
  have hin1 := fun args w => run_callFunc_enter (P := Tryz.prog) H.mu.f_unlock (by kernel_rfl) rfl args w
  have hin2 := fun args w => run_callFunc_enter (P := Tryz.prog) C.f_i32add (by kernel_rfl) rfl args w
  show CallsDIn Fence.wide 0 _ _ _ _ _ _
  refine callsDIn_of_wp H.f_wunlock rfl trivial ?_
  simp only [RwLone.nt_wunlock rwLink, List.size_toArray, List.length_cons, List.length_nil, Nat.reduceAdd, Nat.reduceSub, Array.replicate_succ, Array.replicate_zero, List.push_toArray, List.append_toArray, List.nil_append, List.cons_append]
  simp only [wunlockFn]
  gi_wp2
  refine (callsC_of (ro := none) (RwLone.i32add_any C ⟨b, off + 4, none⟩ (-1073741824) 1073741824 _ hc hz)).mono ?_
  rintro e w' ⟨rfl, rfl⟩
  simp only [RwLone.up30]
  gi_wp2
  refine wpIn_loop_once ?_
  gi_wp2
  refine (callsC_of (ro := none) (MuLone.unlock_held H.mu ⟨b, off, none⟩ _ ((World.cell?_setCell_other _ ⟨b, off + 4, none⟩ ⟨b, off, none⟩ _ (by simp)).trans c0) (by simp [z0]))).mono ?_
  rintro e w' ⟨rfl, rfl⟩
  gi_wp2
  go_end0
  exact ⟨rfl, rfl⟩
end Go.Proofs.YtijnmokpihhhcaaGreatDoor

namespace Go.Proofs.YtijnmokpihhhcaaGreatDoor
open Go
set_option linter.unusedVariables false
set_option linter.unusedSimpArgs false

/-! ### What a node is, what an operation asks -/

/-- What is told of a node. -/
structure Inf where
  path : Nat
  parent : Nat
  name : List UInt8
  mode : Nat
  uid : List UInt8
  gid : List UInt8
  muid : List UInt8
  atime : Nat
  mtime : Nat
  vers : Nat
  length : Nat
  opens : Int
  kids : Int
structure NodeD where
  i : Inf
  b : List UInt8
structure SD where
  most : Nat
  next : Nat
  L : List NodeD
structure OpD where
  kind : Nat
  path : Nat
  name : List UInt8
  mask : Nat
  node : Inf
  offset : Nat
  data : List UInt8
  n : Int

def userF (l : List UInt8) : Bool := decide (l.length ≤ 32) && good l
def modeF (m : Nat) : Bool := decide (m &&& 469761536 = 0)
def dirF (m : Nat) : Bool := decide (2147483648 ≤ m)
def findN (L : List NodeD) (p : Nat) : Option NodeD := L.find? fun n => n.i.path == p
def isKid (p : Nat) (n : NodeD) : Bool := n.i.parent == p && !(n.i.path == n.i.parent)
def kidsF (L : List NodeD) (p : Nat) : List Nat := (L.filter (isKid p)).map (·.i.path)
def childF (L : List NodeD) (p : Nat) (nm : List UInt8) : Option Nat := (L.find? fun n => isKid p n && n.i.name == nm).map (·.i.path)
def afterF (L : List NodeD) (p last : Nat) : Option Nat := (kidsF L p).find? fun k => decide (last < k)
def tellF (L : List NodeD) (n : NodeD) : Inf := { n.i with kids := ((kidsF L n.i.path).length : Nat) }
def updN (L : List NodeD) (p : Nat) (f : NodeD → NodeD) : List NodeD := L.map fun n => if n.i.path = p then f n else n
def dropN (L : List NodeD) (p : Nat) : List NodeD := L.filter fun n => !(n.i.path == p)

/-! ### One node's operations -/

def bitF (m k : Nat) : Bool := m.testBit k
def setF (m : Nat) (t : Inf) (n : Inf) : Except Nat Inf :=
  if m.testBit 7 || m.testBit 0 && !modeF t.mode || m.testBit 1 && !userF t.uid || m.testBit 2 && !userF t.gid || m.testBit 3 && !userF t.muid then .error 1
  else if m.testBit 0 && !(dirF t.mode == dirF n.mode) then .error 81
  else .ok { n with mode := if m.testBit 0 then t.mode else n.mode, uid := if m.testBit 1 then t.uid else n.uid, gid := if m.testBit 2 then t.gid else n.gid, muid := if m.testBit 3 then t.muid else n.muid,
                    atime := if m.testBit 4 then t.atime else n.atime, mtime := if m.testBit 5 then t.mtime else n.mtime, vers := if m.testBit 6 then (n.vers + 1) % 4294967296 else n.vers }
/-- So many bytes: cut, or noughts behind. -/
def padF (b : List UInt8) (k : Nat) : List UInt8 := (b ++ List.replicate (k - b.length) 0).take k
def cutF (k : Nat) (n : NodeD) : Except Nat NodeD :=
  if dirF n.i.mode then .error 81 else if 65536 < k then .error 86 else .ok ⟨{ n.i with length := k }, padF n.b k⟩
def layF (b : List UInt8) (off : Nat) (d : List UInt8) : List UInt8 :=
  let c := padF b (max b.length (off + d.length))
  c.take off ++ d ++ c.drop (off + d.length)
def bytesF (off : Nat) (d : List UInt8) (n : NodeD) : Except Nat NodeD :=
  if dirF n.i.mode then .error 81 else if d = [] ∨ 256 < off % 256 + d.length then .error 84 else if 65536 < off + d.length then .error 86
  else .ok ⟨{ n.i with length := max n.i.length (off + d.length) }, layF n.b off d⟩
def opensF (k : Int) (n : Inf) : Except Nat Inf :=
  if k < -n.opens ∨ 2147483647 - n.opens < k then .error 87 else .ok { n with opens := n.opens + k }
def readF (n : NodeD) (off : Nat) (k : Int) : List UInt8 := if k ≤ 0 then [] else (n.b.drop off).take k.toNat

/-! ### Operations on the whole -/

def makeF (s : SD) (n : NodeD) (t : Inf) : SD × Nat × Nat :=
  if !dirF n.i.mode then (s, 0, 81)
  else if !(modeF t.mode && userF t.uid && userF t.gid && userF t.muid) then (s, 0, 1)
  else if !okName t.name then (s, 0, 50)
  else if (childF s.L n.i.path t.name).isSome then (s, 0, 82)
  else if s.most ≤ s.L.length then (s, 0, 83)
  else ({ s with next := s.next + 1, L := s.L ++ [⟨⟨s.next, n.i.path, t.name, t.mode, t.uid, t.gid, t.muid, t.atime, t.mtime, 0, 0, 0, 0⟩, []⟩] }, s.next, 0)
def delF (s : SD) (n : NodeD) : SD × Nat × Nat :=
  if n.i.path = 1 then (s, 0, 81)
  else if 0 < (kidsF s.L n.i.path).length then (s, 0, 85)
  else ({ s with L := dropN s.L n.i.path }, n.i.path, 0)
def callF (s : SD) (n : NodeD) (nm : List UInt8) : SD × Nat × Nat :=
  if n.i.path = 1 then (s, 0, 81)
  else if !okName nm then (s, 0, 50)
  else match childF s.L n.i.parent nm with
    | some q => if q = n.i.path then ({ s with L := updN s.L n.i.path fun n => ⟨{ n.i with name := nm }, n.b⟩ }, n.i.path, 0) else (s, 0, 82)
    | none => ({ s with L := updN s.L n.i.path fun n => ⟨{ n.i with name := nm }, n.b⟩ }, n.i.path, 0)
/-- What comes of a change of one node. -/
def oneF (s : SD) (p : Nat) : Except Nat NodeD → SD × Nat × Nat
  | .error e => (s, 0, e)
  | .ok n => ({ s with L := updN s.L p fun _ => n }, p, 0)
def infoF (n : NodeD) : Except Nat Inf → Except Nat NodeD
  | .error e => .error e
  | .ok i => .ok ⟨i, n.b⟩
def doF (s : SD) (o : OpD) : SD × Nat × Nat :=
  if o.kind < 1 ∨ 7 < o.kind then (s, 0, 1)
  else match findN s.L o.path with
    | none => (s, 0, 80)
    | some n =>
      if o.kind = 1 then makeF s n o.node
      else if o.kind = 2 then delF s n
      else if o.kind = 3 then callF s n o.name
      else if o.kind = 4 then oneF s o.path (infoF n (setF o.mask o.node n.i))
      else if o.kind = 5 then oneF s o.path (cutF o.offset n)
      else if o.kind = 6 then oneF s o.path (bytesF o.offset o.data n)
      else oneF s o.path (infoF n (opensF o.n n.i))

/-! ### What is always so -/

structure NodeOk (n : NodeD) : Prop where
  len : n.i.length = n.b.length
  few : n.b.length ≤ 65536
  kids : n.i.kids = 0
  mode : n.i.mode < 4294967296
  atime : n.i.atime < 4294967296
  mtime : n.i.mtime < 4294967296
  vers : n.i.vers < 4294967296
  op0 : 0 ≤ n.i.opens
  op1 : n.i.opens ≤ 2147483647
  dir : dirF n.i.mode = true → n.b = []
  name : n.i.name.length ≤ 255
  uid : n.i.uid.length ≤ 32
  gid : n.i.gid.length ≤ 32
  muid : n.i.muid.length ≤ 32
structure Wf (s : SD) : Prop where
  ok : ∀ n ∈ s.L, NodeOk n
  rise : s.L.Pairwise fun a b => a.i.path < b.i.path
  below : ∀ n ∈ s.L, 1 ≤ n.i.path ∧ n.i.path < s.next
  root : ∃ r, findN s.L 1 = some r ∧ r.i.parent = 1 ∧ dirF r.i.mode = true
  up : ∀ n ∈ s.L, n.i.path ≠ 1 → n.i.parent < n.i.path ∧ ∃ d, findN s.L n.i.parent = some d ∧ dirF d.i.mode = true
  one : ∀ a ∈ s.L, ∀ b ∈ s.L, a.i.path ≠ 1 → b.i.path ≠ 1 → a.i.parent = b.i.parent → a.i.name = b.i.name → a.i.path = b.i.path
  few : s.L.length ≤ s.most
  most : s.most ≤ 4096

theorem find_some {L : List NodeD} {p : Nat} {n : NodeD} (h : findN L p = some n) : n ∈ L ∧ n.i.path = p := by
  refine ⟨List.mem_of_find?_eq_some h, ?_⟩
  have := List.find?_some h
  simpa using this
theorem find_none {L : List NodeD} {p : Nat} (h : findN L p = none) : ∀ n ∈ L, n.i.path ≠ p := by
  intro n hn e
  have := List.find?_eq_none.1 h n hn
  simp [e] at this
theorem rise_inj {L : List NodeD} (h : L.Pairwise fun a b => a.i.path < b.i.path) {a b : NodeD} (ha : a ∈ L) (hb : b ∈ L) (e : a.i.path = b.i.path) : a = b := by
  obtain ⟨i, hi, rfl⟩ := List.getElem_of_mem ha
  obtain ⟨j, hj, rfl⟩ := List.getElem_of_mem hb
  rw [List.pairwise_iff_getElem] at h
  rcases Nat.lt_trichotomy i j with hij | hij | hij
  · have := h i j hi hj hij; omega
  · subst hij; rfl
  · have := h j i hj hi hij; omega
theorem find_of {L : List NodeD} (h : L.Pairwise fun a b => a.i.path < b.i.path) {n : NodeD} (hn : n ∈ L) : findN L n.i.path = some n := by
  cases hf : findN L n.i.path with
  | none => exact absurd rfl (find_none hf n hn)
  | some m =>
    obtain ⟨h1, h2⟩ := find_some hf
    rw [rise_inj h h1 hn h2]
end Go.Proofs.YtijnmokpihhhcaaGreatDoor

namespace Go.Proofs.YtijnmokpihhhcaaGreatDoor
open Go
set_option linter.unusedVariables false
set_option linter.unusedSimpArgs false

/-! ### One node is changed -/

/-- A change that leaves a node where it is, and a directory a directory. -/
structure Keeps (n n' : NodeD) : Prop where
  path : n'.i.path = n.i.path
  parent : n'.i.parent = n.i.parent
  dir : dirF n'.i.mode = dirF n.i.mode
theorem upd_mem {L : List NodeD} {p : Nat} {n' m : NodeD} (h : m ∈ updN L p fun _ => n') : (m = n' ∧ ∃ x ∈ L, x.i.path = p) ∨ (m ∈ L ∧ m.i.path ≠ p) := by
  obtain ⟨x, hx, e⟩ := List.mem_map.1 h
  split at e
  · exact .inl ⟨e.symm, x, hx, by assumption⟩
  · subst e; exact .inr ⟨hx, by assumption⟩
theorem upd_len (L : List NodeD) (p : Nat) (f : NodeD → NodeD) : (updN L p f).length = L.length := by simp [updN]
theorem upd_paths {L : List NodeD} {p : Nat} {n' : NodeD} (hp : n'.i.path = p) : (updN L p fun _ => n').map (·.i.path) = L.map (·.i.path) := by
  simp only [updN, List.map_map]
  refine List.map_congr_left fun x _ => ?_
  simp only [Function.comp]
  split
  · rename_i e; rw [hp, e]
  · rfl
theorem rise_paths {L : List NodeD} : (L.Pairwise fun a b => a.i.path < b.i.path) ↔ (L.map (·.i.path)).Pairwise (· < ·) := by rw [List.pairwise_map]
theorem find_upd {L : List NodeD} {p q : Nat} {n' : NodeD} (hp : n'.i.path = p) : findN (updN L p fun _ => n') q = if q = p then (findN L p).map fun _ => n' else findN L q := by
  induction L with
  | nil => simp [updN, findN]
  | cons x L ih =>
    simp only [updN, List.map_cons, findN, List.find?_cons] at ih ⊢
    by_cases hx : x.i.path = p
    · rw [if_pos hx]
      by_cases hq : q = p
      · rw [if_pos hq] at ih ⊢
        subst hq
        simp [hp, hx]
      · rw [if_neg hq] at ih ⊢
        have h1 : (n'.i.path == q) = false := by rw [hp]; simpa using fun e => hq e.symm
        have h2 : (x.i.path == q) = false := by rw [hx]; simpa using fun e => hq e.symm
        rw [h1, h2]
        exact ih
    · rw [if_neg hx]
      by_cases hq : q = p
      · rw [if_pos hq] at ih ⊢
        subst hq
        have h2 : (x.i.path == q) = false := by simpa using hx
        rw [h2]
        exact ih
      · rw [if_neg hq] at ih ⊢
        cases hxq : (x.i.path == q)
        · exact ih
        · rfl
theorem upd_wf {s : SD} (h : Wf s) {n n' : NodeD} (hn : n ∈ s.L) (k : Keeps n n') (ok : NodeOk n') (hnm : n.i.path ≠ 1 → ∀ m ∈ s.L, m.i.path ≠ 1 → m.i.path ≠ n.i.path → m.i.parent = n.i.parent → m.i.name ≠ n'.i.name) :
    Wf { s with L := updN s.L n.i.path fun _ => n' } := by
  have hf := find_of h.rise hn
  have fd : ∀ q d, findN s.L q = some d → ∃ d', findN (updN s.L n.i.path fun _ => n') q = some d' ∧ d'.i.parent = d.i.parent ∧ dirF d'.i.mode = dirF d.i.mode := fun q d hd => by
    rw [find_upd k.path]
    by_cases hq : q = n.i.path
    · rw [if_pos hq, hf]
      subst hq
      rw [hf] at hd
      cases hd
      exact ⟨n', rfl, k.parent, k.dir⟩
    · rw [if_neg hq]
      exact ⟨d, hd, rfl, rfl⟩
  refine ⟨fun m hm => ?_, ?_, fun m hm => ?_, ?_, fun m hm h1 => ?_, ?_, by rw [upd_len]; exact h.few, h.most⟩
  · rcases upd_mem hm with ⟨rfl, _⟩ | ⟨hm, _⟩
    · exact ok
    · exact h.ok m hm
  · rw [rise_paths, upd_paths k.path, ← rise_paths]
    exact h.rise
  · rcases upd_mem hm with ⟨rfl, _⟩ | ⟨hm, _⟩
    · rw [k.path]; exact h.below n hn
    · exact h.below m hm
  · obtain ⟨r, hr, h1, h2⟩ := h.root
    obtain ⟨r', e1, e2, e3⟩ := fd 1 r hr
    exact ⟨r', e1, e2.trans h1, e3.trans h2⟩
  · rcases upd_mem hm with ⟨rfl, _⟩ | ⟨hm, _⟩
    · rw [k.path] at h1 ⊢
      rw [k.parent]
      obtain ⟨a, d, hd, hdd⟩ := h.up n hn h1
      obtain ⟨d', e1, e2, e3⟩ := fd _ d hd
      exact ⟨a, d', e1, e3.trans hdd⟩
    · obtain ⟨a, d, hd, hdd⟩ := h.up m hm h1
      obtain ⟨d', e1, e2, e3⟩ := fd _ d hd
      exact ⟨a, d', e1, e3.trans hdd⟩
  · intro a ha b hb h1 h2 hpp hnn
    rcases upd_mem ha with ⟨ea, _⟩ | ⟨pa, pa2⟩ <;> rcases upd_mem hb with ⟨eb, _⟩ | ⟨pb, pb2⟩
    · rw [ea, eb]
    · subst ea
      rw [k.path] at h1
      rw [k.parent] at hpp
      exact absurd hnn.symm (hnm h1 b pb h2 pb2 hpp.symm)
    · subst eb
      rw [k.path] at h2
      rw [k.parent] at hpp
      exact absurd hnn (hnm h2 a pa h1 pa2 hpp)
    · exact h.one a pa b pb h1 h2 hpp hnn
/-- A name that stays is free of all others. -/
theorem name_free {s : SD} (h : Wf s) {n : NodeD} (hn : n ∈ s.L) (h1 : n.i.path ≠ 1) : ∀ m ∈ s.L, m.i.path ≠ 1 → m.i.path ≠ n.i.path → m.i.parent = n.i.parent → m.i.name ≠ n.i.name := fun m hm h2 h3 h4 h5 =>
  h3 (h.one m hm n hn h2 h1 h4 h5)
theorem self_parent {s : SD} (h : Wf s) {n : NodeD} (hn : n ∈ s.L) : (n.i.path = n.i.parent) ↔ n.i.path = 1 := by
  constructor
  · intro e
    by_cases h1 : n.i.path = 1
    · exact h1
    · have := (h.up n hn h1).1; omega
  · intro e
    obtain ⟨r, hr, h1, _⟩ := h.root
    have := find_of h.rise hn
    rw [e, hr] at this
    cases this
    omega
theorem isKid_iff {s : SD} (h : Wf s) {n : NodeD} (hn : n ∈ s.L) {p : Nat} : isKid p n = true ↔ n.i.parent = p ∧ n.i.path ≠ 1 := by
  have := self_parent h hn
  simp only [isKid, Bool.and_eq_true, beq_iff_eq, Bool.not_eq_true', beq_eq_false_iff_ne, ne_eq]
  exact ⟨fun ⟨a, b⟩ => ⟨a, fun e => b (this.2 e)⟩, fun ⟨a, b⟩ => ⟨a, fun e => b (this.1 e)⟩⟩
theorem child_some {L : List NodeD} {p q : Nat} {nm : List UInt8} (h : childF L p nm = some q) : ∃ n ∈ L, n.i.path = q ∧ isKid p n = true ∧ n.i.name = nm := by
  unfold childF at h
  obtain ⟨n, hn, rfl⟩ := Option.map_eq_some_iff.1 h
  have h1 := List.find?_some hn
  simp only [Bool.and_eq_true, beq_iff_eq] at h1
  exact ⟨n, List.mem_of_find?_eq_some hn, rfl, h1.1, h1.2⟩
theorem child_none {L : List NodeD} {p : Nat} {nm : List UInt8} (h : childF L p nm = none) : ∀ n ∈ L, isKid p n = true → n.i.name ≠ nm := by
  unfold childF at h
  rw [Option.map_eq_none_iff] at h
  intro n hn hk e
  have := List.find?_eq_none.1 h n hn
  simp [hk, e] at this
theorem child_of {s : SD} (h : Wf s) {n : NodeD} (hn : n ∈ s.L) (h1 : n.i.path ≠ 1) : childF s.L n.i.parent n.i.name = some n.i.path := by
  cases hc : childF s.L n.i.parent n.i.name with
  | none => exact absurd rfl (child_none hc n hn ((isKid_iff h hn).2 ⟨rfl, h1⟩))
  | some q =>
    obtain ⟨m, hm, rfl, hk, he⟩ := child_some hc
    obtain ⟨k1, k2⟩ := (isKid_iff h hm).1 hk
    rw [h.one m hm n hn k2 h1 k1 he]

/-! ### A node is made, one is no more -/

theorem make_wf {s : SD} (h : Wf s) {n x : NodeD} (hn : n ∈ s.L) (hd : dirF n.i.mode = true) (ok : NodeOk x) (hx : x.i.path = s.next) (hp : x.i.parent = n.i.path) (hc : childF s.L n.i.path x.i.name = none) (hl : s.L.length < s.most) : Wf { s with next := s.next + 1, L := s.L ++ [x] } := by
  have hb := h.below n hn
  have hnx : ∀ m ∈ s.L, m.i.path ≠ x.i.path := fun m hm => by have := (h.below m hm).2; omega
  have fd : ∀ q d, findN s.L q = some d → findN (s.L ++ [x]) q = some d := fun q d hd => by
    unfold findN at hd ⊢
    rw [List.find?_append, hd]
    rfl
  have free : ∀ m ∈ s.L, m.i.path ≠ 1 → m.i.parent = n.i.path → m.i.name ≠ x.i.name := fun m hm h1 h2 => child_none hc m hm ((isKid_iff h hm).2 ⟨h2, h1⟩)
  refine ⟨fun m hm => ?_, ?_, fun m hm => ?_, ?_, fun m hm h1 => ?_, ?_, by show (s.L ++ [x]).length ≤ s.most; simp; omega, h.most⟩
  · rcases List.mem_append.1 hm with hm | hm
    · exact h.ok m hm
    · simp only [List.mem_singleton] at hm; subst hm; exact ok
  · rw [List.pairwise_append]
    refine ⟨h.rise, by simp, fun a ha b hb => ?_⟩
    simp only [List.mem_singleton] at hb
    subst hb
    have := (h.below a ha).2
    omega
  · rcases List.mem_append.1 hm with hm | hm
    · have := h.below m hm; exact ⟨this.1, by show _ < s.next + 1; omega⟩
    · simp only [List.mem_singleton] at hm; subst hm; exact ⟨by omega, by show _ < s.next + 1; omega⟩
  · obtain ⟨r, hr, h1, h2⟩ := h.root
    exact ⟨r, fd 1 r hr, h1, h2⟩
  · rcases List.mem_append.1 hm with hm | hm
    · obtain ⟨a, d, hd, hdd⟩ := h.up m hm h1
      exact ⟨a, d, fd _ d hd, hdd⟩
    · simp only [List.mem_singleton] at hm
      subst hm
      rw [hp]
      exact ⟨by omega, n, fd _ n (find_of h.rise hn), hd⟩
  · intro a ha b hb' h1 h2 hpp hnn
    rcases List.mem_append.1 ha with pa | pa <;> rcases List.mem_append.1 hb' with pb | pb
    · exact h.one a pa b pb h1 h2 hpp hnn
    · simp only [List.mem_singleton] at pb
      subst pb
      exact absurd hnn (free a pa h1 (hpp.trans hp))
    · simp only [List.mem_singleton] at pa
      subst pa
      exact absurd hnn.symm (free b pb h2 (hpp.symm.trans hp))
    · simp only [List.mem_singleton] at pa pb
      rw [pa, pb]
theorem kids_none {s : SD} (h : Wf s) {p : Nat} (hk : ¬ 0 < (kidsF s.L p).length) : ∀ m ∈ s.L, m.i.path ≠ 1 → m.i.parent ≠ p := fun m hm h1 e => by
  have : m.i.path ∈ kidsF s.L p := List.mem_map_of_mem (f := (·.i.path)) (List.mem_filter.2 ⟨hm, (isKid_iff h hm).2 ⟨e, h1⟩⟩)
  have := List.length_pos_of_mem this
  omega
theorem drop_wf {s : SD} (h : Wf s) {n : NodeD} (hn : n ∈ s.L) (h1 : n.i.path ≠ 1) (hk : ¬ 0 < (kidsF s.L n.i.path).length) : Wf { s with L := dropN s.L n.i.path } := by
  have mem : ∀ m ∈ dropN s.L n.i.path, m ∈ s.L ∧ m.i.path ≠ n.i.path := fun m hm => by
    obtain ⟨a, b⟩ := List.mem_filter.1 hm
    exact ⟨a, by simpa using b⟩
  have hsub : (dropN s.L n.i.path).Sublist s.L := List.filter_sublist
  have rise := h.rise.sublist hsub
  have fd : ∀ q d, findN s.L q = some d → q ≠ n.i.path → findN (dropN s.L n.i.path) q = some d := fun q d hd hq => by
    obtain ⟨a, b⟩ := find_some hd
    have : d ∈ dropN s.L n.i.path := List.mem_filter.2 ⟨a, by simp [b, hq]⟩
    have := find_of rise this
    rwa [b] at this
  refine ⟨fun m hm => h.ok m (mem m hm).1, rise, fun m hm => h.below m (mem m hm).1, ?_, fun m hm h2 => ?_, fun a ha b hb => h.one a (mem a ha).1 b (mem b hb).1, Nat.le_trans hsub.length_le h.few, h.most⟩
  · obtain ⟨r, hr, e1, e2⟩ := h.root
    exact ⟨r, fd 1 r hr (fun e => h1 e.symm), e1, e2⟩
  · obtain ⟨a, b⟩ := mem m hm
    obtain ⟨c, d, hd, hdd⟩ := h.up m a h2
    exact ⟨c, d, fd _ d hd (kids_none h hk m a h2), hdd⟩
end Go.Proofs.YtijnmokpihhhcaaGreatDoor

namespace Go.Proofs.YtijnmokpihhhcaaGreatDoor
open Go
set_option linter.unusedVariables false
set_option linter.unusedSimpArgs false

theorem padF_len (b : List UInt8) (k : Nat) : (padF b k).length = k := by
  unfold padF
  simp only [List.length_take, List.length_append, List.length_replicate]
  omega
theorem padF_get (b : List UInt8) (k i : Nat) : (padF b k).getD i 0 = if i < k then b.getD i 0 else 0 := by
  unfold padF
  simp only [List.getD_eq_getElem?_getD]
  by_cases h : i < k
  · rw [if_pos h, List.getElem?_take_of_lt h]
    by_cases hb : i < b.length
    · rw [List.getElem?_append_left hb]
    · rw [List.getElem?_append_right (by omega), List.getElem?_eq_none (l := b) (by omega), List.getElem?_replicate]
      split <;> rfl
  · rw [if_neg h, List.getElem?_eq_none (by simp; omega)]
    rfl
theorem layF_len (b : List UInt8) (off : Nat) (d : List UInt8) : (layF b off d).length = max b.length (off + d.length) := by
  unfold layF
  simp only [List.length_append, List.length_take, List.length_drop, padF_len]
  omega
theorem layF_get (b : List UInt8) (off : Nat) (d : List UInt8) (i : Nat) : (layF b off d).getD i 0 = if off ≤ i ∧ i < off + d.length then d.getD (i - off) 0 else b.getD i 0 := by
  unfold layF
  have hl := padF_len b (max b.length (off + d.length))
  have hg := padF_get b (max b.length (off + d.length))
  generalize padF b (max b.length (off + d.length)) = c at *
  have ht : (c.take off).length = off := by rw [List.length_take]; omega
  simp only [List.getD_eq_getElem?_getD, List.append_assoc] at hg ⊢
  by_cases h1 : i < off
  · rw [if_neg (by omega), List.getElem?_append_left (by omega), List.getElem?_take_of_lt h1, hg, if_pos (by omega)]
  · rw [List.getElem?_append_right (by omega), ht]
    by_cases h2 : i < off + d.length
    · rw [if_pos ⟨by omega, h2⟩, List.getElem?_append_left (by omega)]
    · rw [if_neg (by omega), List.getElem?_append_right (by omega), List.getElem?_drop, show off + d.length + (i - off - d.length) = i by omega, hg]
      split
      · rfl
      · rw [List.getElem?_eq_none (by omega)]; rfl

structure OpOk (o : OpD) : Prop where
  mode : o.node.mode < 4294967296
  atime : o.node.atime < 4294967296
  mtime : o.node.mtime < 4294967296

theorem userF_len {l : List UInt8} (h : userF l = true) : l.length ≤ 32 := by
  simp only [userF, Bool.and_eq_true, decide_eq_true_eq] at h; exact h.1
theorem okName_len {l : List UInt8} (h : okName l = true) : l.length ≤ 255 := by
  simp only [okName, Bool.and_eq_true, Bool.not_eq_true', decide_eq_false_iff_not] at h
  omega

theorem set_ok {m : Nat} {t i : Inf} {n : NodeD} (h : setF m t n.i = .ok i) (ok : NodeOk n) (h1 : t.mode < 4294967296) (h2 : t.atime < 4294967296) (h3 : t.mtime < 4294967296) : Keeps n ⟨i, n.b⟩ ∧ NodeOk ⟨i, n.b⟩ ∧ i.name = n.i.name := by
  unfold setF at h
  split at h
  · cases h
  rename_i e1
  split at h
  · cases h
  rename_i e2
  simp only [Bool.or_eq_true, Bool.and_eq_true, Bool.not_eq_true', not_or, not_and, Bool.not_eq_false, Bool.not_eq_true] at e1 e2
  obtain ⟨⟨⟨⟨_, em⟩, eu⟩, eg⟩, emu⟩ := e1
  cases h
  have hd : dirF (if m.testBit 0 = true then t.mode else n.i.mode) = dirF n.i.mode := by
    by_cases hb : m.testBit 0 = true
    · rw [if_pos hb]; simpa using e2 hb
    · rw [if_neg hb]
  refine ⟨⟨rfl, rfl, hd⟩, ⟨ok.len, ok.few, ok.kids, ?_, ?_, ?_, ?_, ok.op0, ok.op1, fun hq => ok.dir (by rw [← hd]; exact hq), ok.name, ?_, ?_, ?_⟩, rfl⟩
  · show (if _ then _ else _) < _
    split
    · exact h1
    · exact ok.mode
  · show (if _ then _ else _) < _
    split
    · exact h2
    · exact ok.atime
  · show (if _ then _ else _) < _
    split
    · exact h3
    · exact ok.mtime
  · show (if _ then _ else _) < _
    split
    · exact Nat.mod_lt _ (by decide)
    · exact ok.vers
  · show List.length (if _ then _ else _) ≤ _
    split
    · exact userF_len (eu (by assumption))
    · exact ok.uid
  · show List.length (if _ then _ else _) ≤ _
    split
    · exact userF_len (eg (by assumption))
    · exact ok.gid
  · show List.length (if _ then _ else _) ≤ _
    split
    · exact userF_len (emu (by assumption))
    · exact ok.muid
theorem cut_ok {k : Nat} {n n' : NodeD} (h : cutF k n = .ok n') (ok : NodeOk n) : Keeps n n' ∧ NodeOk n' ∧ n'.i.name = n.i.name := by
  unfold cutF at h
  split at h
  · cases h
  split at h
  · cases h
  rename_i e1 e2
  cases h
  have hl := padF_len n.b k
  refine ⟨⟨rfl, rfl, rfl⟩, ⟨hl.symm, by show (padF n.b k).length ≤ _; omega, ok.kids, ok.mode, ok.atime, ok.mtime, ok.vers, ok.op0, ok.op1, fun hq => absurd hq e1, ok.name, ok.uid, ok.gid, ok.muid⟩, rfl⟩
theorem bytes_ok {off : Nat} {d : List UInt8} {n n' : NodeD} (h : bytesF off d n = .ok n') (ok : NodeOk n) : Keeps n n' ∧ NodeOk n' ∧ n'.i.name = n.i.name := by
  unfold bytesF at h
  split at h
  · cases h
  split at h
  · cases h
  split at h
  · cases h
  rename_i e1 e2 e3
  cases h
  have hl := layF_len n.b off d
  have h1 := ok.len
  have h2 := ok.few
  refine ⟨⟨rfl, rfl, rfl⟩, ⟨by show max n.i.length _ = (layF n.b off d).length; omega, by show (layF n.b off d).length ≤ _; omega, ok.kids, ok.mode, ok.atime, ok.mtime, ok.vers, ok.op0, ok.op1, fun hq => absurd hq e1, ok.name, ok.uid, ok.gid, ok.muid⟩, rfl⟩
theorem opens_ok {k : Int} {n : NodeD} {i : Inf} (h : opensF k n.i = .ok i) (ok : NodeOk n) : Keeps n ⟨i, n.b⟩ ∧ NodeOk ⟨i, n.b⟩ ∧ i.name = n.i.name := by
  unfold opensF at h
  split at h
  · cases h
  rename_i e1
  cases h
  exact ⟨⟨rfl, rfl, rfl⟩, ⟨ok.len, ok.few, ok.kids, ok.mode, ok.atime, ok.mtime, ok.vers, by show 0 ≤ n.i.opens + k; omega, by show n.i.opens + k ≤ _; omega, ok.dir, ok.name, ok.uid, ok.gid, ok.muid⟩, rfl⟩
theorem one_wf {s : SD} (h : Wf s) {n : NodeD} (hn : n ∈ s.L) {r : Except Nat NodeD} (hr : ∀ n', r = .ok n' → Keeps n n' ∧ NodeOk n' ∧ n'.i.name = n.i.name) : Wf (oneF s n.i.path r).1 := by
  cases r with
  | error e => exact h
  | ok n' =>
    obtain ⟨k, ok, e⟩ := hr n' rfl
    exact upd_wf h hn k ok fun h1 => by rw [e]; exact name_free h hn h1
theorem info_ok {n n' : NodeD} {r : Except Nat Inf} (h : infoF n r = .ok n') : ∃ i, r = .ok i ∧ n' = ⟨i, n.b⟩ := by
  cases r with
  | error e => cases h
  | ok i => cases h; exact ⟨i, rfl, rfl⟩
theorem upd_fun {L : List NodeD} (hr : L.Pairwise fun a b => a.i.path < b.i.path) {n : NodeD} (hn : n ∈ L) (f : NodeD → NodeD) : updN L n.i.path f = updN L n.i.path fun _ => f n := by
  unfold updN
  refine List.map_congr_left fun x hx => ?_
  split
  · rename_i e; rw [rise_inj hr hx hn e]
  · rfl

theorem do_wf {s : SD} (h : Wf s) {o : OpD} (ho : OpOk o) : Wf (doF s o).1 := by
  unfold doF
  split
  · exact h
  cases hf : findN s.L o.path with
  | none => exact h
  | some n =>
    obtain ⟨hn, hp⟩ := find_some hf
    have ok := h.ok n hn
    simp only
    split
    · -- make
      unfold makeF
      split
      · exact h
      split
      · exact h
      split
      · exact h
      split
      · exact h
      split
      · exact h
      rename_i e1 e2 e3 e4 e5
      simp only [Bool.not_eq_true', Bool.not_eq_false, Bool.and_eq_true, Option.not_isSome, Option.isNone_iff_eq_none] at e1 e2 e3 e4
      refine make_wf h hn e1 ⟨rfl, by simp, rfl, ho.mode, ho.atime, ho.mtime, by simp, by simp, by simp, fun _ => rfl, okName_len e3, userF_len e2.1.1.2, userF_len e2.1.2, userF_len e2.2⟩ rfl rfl (by simpa using e4) (by omega)
    split
    · unfold delF
      split
      · exact h
      split
      · exact h
      rename_i e1 e2
      exact drop_wf h hn e1 e2
    split
    · unfold callF
      split
      · exact h
      split
      · exact h
      rename_i e1 e2
      simp only [Bool.not_eq_true', Bool.not_eq_false] at e2
      have key : (∀ m ∈ s.L, m.i.path ≠ 1 → m.i.path ≠ n.i.path → m.i.parent = n.i.parent → m.i.name ≠ o.name) → Wf { s with L := updN s.L n.i.path fun n => ⟨{ n.i with name := o.name }, n.b⟩ } := fun hfree => by
        rw [upd_fun h.rise hn]
        exact upd_wf h hn ⟨rfl, rfl, rfl⟩ ⟨ok.len, ok.few, ok.kids, ok.mode, ok.atime, ok.mtime, ok.vers, ok.op0, ok.op1, ok.dir, okName_len e2, ok.uid, ok.gid, ok.muid⟩ fun _ => hfree
      cases hc : childF s.L n.i.parent o.name with
      | none => exact key fun m hm h1 h2 h3 => child_none hc m hm ((isKid_iff h hm).2 ⟨h3, h1⟩)
      | some q =>
        simp only
        split
        · rename_i hq
          refine key fun m hm h1 h2 h3 h4 => h2 ?_
          obtain ⟨c, hcm, c1, c2, c3⟩ := child_some hc
          obtain ⟨c4, c5⟩ := (isKid_iff h hcm).1 c2
          have := h.one m hm c hcm h1 c5 (h3.trans c4.symm) (h4.trans c3.symm)
          omega
        · exact h
    split
    · rw [← hp]
      refine one_wf h hn fun n' hr => ?_
      obtain ⟨i, h1, rfl⟩ := info_ok hr
      exact set_ok h1 ok ho.mode ho.atime ho.mtime
    split
    · rw [← hp]
      exact one_wf h hn fun n' hr => cut_ok hr ok
    split
    · rw [← hp]
      exact one_wf h hn fun n' hr => bytes_ok hr ok
    · rw [← hp]
      refine one_wf h hn fun n' hr => ?_
      obtain ⟨i, h1, rfl⟩ := info_ok hr
      exact opens_ok h1 ok
end Go.Proofs.YtijnmokpihhhcaaGreatDoor

namespace Go.Proofs.YtijnmokpihhhcaaGreatDoor
open Go
open Go.RowKit (wrap32)
set_option linter.unusedVariables false
set_option linter.unusedSimpArgs false
set_option maxRecDepth 100000

section
variable {P : Program}
/-- A call of a named function, with one argument, is put off. -/
theorem deferF_of {K : Value → World → Prop} {D : Deferred → World → Prop} {Pc : List PanicEntry → World → Prop} {d : Option Nat} {t : Nat} {f : Nat} {ats : Array TypeId} {ty : TypeId} {p : String} {af : Array Edge} {g : Option (Nat × Bool)} {e : FA} {w : World} {θ : Tag (K, D, Pc)}
    (h : D { target := .fn (.func f) #[], args := #[e.ρ t] } w) : rawD P K D Pc (opS ⟨d, .defer { callee := .value (.func f), args := #[.tmp t], argTypes := ats }, ty, p, af, g⟩ e) w θ := by
  show upon P K D Pc ((execOp e.ev _).run P w)
  have : (execOp e.ev ⟨d, .defer { callee := .value (.func f), args := #[.tmp t], argTypes := ats }, ty, p, af, g⟩).run P w = .ok (.defer { target := .fn (.func f) #[], args := #[e.ρ t] }) w := by
    simp [execOp, resolve, FA.ev, go_sem]
  rw [this]
  exact h

theorem leaveF {f : Nat} {args : Array Value} {ds : List Deferred} {w : World} {K : FrameMode → World → Prop} {Q : World → Prop} (hf : fnOk0 P f = true)
    (h : CallsDIn (Fr none) 0 P f args .returning w fun e u' w' => u' = .returning ∧ (e = .returned (.tuple #[]) ∧ Q w'))
    (hK : ∀ w', Q w' → leaveD P ds .returning w' K) : leaveD P ({ target := .fn (.func f) #[], args := args } :: ds) .returning w K :=
  ⟨by simp, .func f, #[], f, args, rfl, by
    show (invoke (.fn (.func f) #[]) args).run P w = _
    simp only [invoke, Array.append_empty]
    exact fnOk0_run hf _ _, CallsDIn.mono' h fun e u' w' => by
      rintro ⟨rfl, rfl, q⟩
      exact hK w' q⟩
end

section
variable {w0 w : World} {A : HP} {C : HP → HP} {b : Nat} {arr : Array Value} {T : TypeId}

theorem lockH (h : St w0 A w) [i : Hole (.blk b) A (Blk b (.cells arr T (0, 0))) C] (h0 : arr[0]? = some (.int .i32 0)) :
    Calls Tryz.prog 32 #[.pointer (some ⟨b, 0, none⟩)] w fun e w' => St w0 (C (Blk b (.cells (arr.setIfInBounds 0 (.int .i32 1)) T (0, 0)))) w' ∧ e = .returned (.tuple #[]) := by
  obtain ⟨R, hR, h'⟩ := h.out (.blk b)
  refine (MuLone.lock_free muLib ⟨b, 0, none⟩ w ((h'.cells 0).trans h0) (h'.thaw 0)).mono ?_
  rintro e w' ⟨rfl, rfl⟩
  rw [hR]
  exact ⟨h'.setCell 0 _, rfl⟩

theorem unlockL (h : St w0 A w) [i : Hole (.blk b) A (Blk b (.cells arr T (0, 0))) C] (h0 : arr[0]? = some (.int .i32 1)) {ds : List Deferred} {K : FrameMode → World → Prop}
    (hK : ∀ w', St w0 (C (Blk b (.cells (arr.setIfInBounds 0 (.int .i32 0)) T (0, 0)))) w' → leaveD Tryz.prog ds .returning w' K) :
    leaveD Tryz.prog ({ target := .fn (.func 33) #[], args := #[.pointer (some ⟨b, 0, none⟩)] } :: ds) .returning w K := by
  obtain ⟨R, hR, h'⟩ := h.out (.blk b)
  refine leaveF (by kernel_rfl) (CallsDIn.mono' (unlockIn ⟨b, 0, none⟩ .returning w ((h'.cells 0).trans h0) (h'.thaw 0)) ?_) hK
  rintro e u' w' ⟨rfl, rfl, rfl⟩
  refine ⟨rfl, rfl, ?_⟩
  rw [hR]
  exact h'.setCell 0 _

theorem rlockH (h : St w0 A w) [i : Hole (.blk b) A (Blk b (.cells arr T (0, 0))) C] {x0 x3 : Value} {rc : Int} (h0 : arr[0]? = some x0) (h3 : arr[3]? = some x3) (h4 : arr[4]? = some (.int .i32 rc)) (hrc : 0 ≤ rc ∧ rc < 1000) :
    Calls Tryz.prog 30 #[.pointer (some ⟨b, 0, none⟩)] w fun e w' => St w0 (C (Blk b (.cells (arr.setIfInBounds 4 (.int .i32 (rc + 1))) T (0, 0)))) w' ∧ e = .returned (.tuple #[]) := by
  obtain ⟨R, hR, h'⟩ := h.out (.blk b)
  have hw : wrap32 (rc + 1) = rc + 1 := by unfold wrap32; omega
  have hp : ¬ wrap32 (rc + 1) < 0 := by rw [hw]; omega
  have k := RwLone.rlock_open rwRLib b 0 rc x0 x3 w ((h'.cells 0).trans h0) ((h'.cells 3).trans h3) ((h'.cells 4).trans h4) (h'.thaw 4) hp
  refine k.mono ?_
  rintro e w' ⟨rfl, rfl⟩
  rw [hR, hw]
  exact ⟨h'.setCell 4 _, rfl⟩

theorem runlockL (h : St w0 A w) [i : Hole (.blk b) A (Blk b (.cells arr T (0, 0))) C] {x0 x2 : Value} {rc : Int} (h0 : arr[0]? = some x0) (h2 : arr[2]? = some x2) (h4 : arr[4]? = some (.int .i32 (rc + 1))) (hrc : 0 ≤ rc ∧ rc < 1000) {ds : List Deferred} {K : FrameMode → World → Prop}
    (hK : ∀ w', St w0 (C (Blk b (.cells (arr.setIfInBounds 4 (.int .i32 rc)) T (0, 0)))) w' → leaveD Tryz.prog ds .returning w' K) :
    leaveD Tryz.prog ({ target := .fn (.func 31) #[], args := #[.pointer (some ⟨b, 0, none⟩)] } :: ds) .returning w K := by
  obtain ⟨R, hR, h'⟩ := h.out (.blk b)
  have hw : wrap32 (rc + 1 + -1) = rc := by unfold wrap32; omega
  have hp : ¬ wrap32 (rc + 1 + -1) < 0 := by rw [hw]; omega
  have k := runlockIn b 0 (rc + 1) x0 x2 .returning w ((h'.cells 0).trans h0) ((h'.cells 2).trans h2) ((h'.cells 4).trans h4) (h'.thaw 4) hp
  refine leaveF (by kernel_rfl) (CallsDIn.mono' k ?_) hK
  rintro e u' w' ⟨rfl, rfl, rfl⟩
  refine ⟨rfl, rfl, ?_⟩
  rw [hR, hw]
  exact h'.setCell 4 _

theorem wlockH (h : St w0 A w) [i : Hole (.blk b) A (Blk b (.cells arr T (0, 0))) C] {x2 x3 : Value} (h0 : arr[0]? = some (.int .i32 0)) (h2 : arr[2]? = some x2) (h3 : arr[3]? = some x3) (h4 : arr[4]? = some (.int .i32 0)) :
    Calls Tryz.prog 63 #[.pointer (some ⟨b, 0, none⟩)] w fun e w' => St w0 (C (Blk b (.cells ((arr.setIfInBounds 0 (.int .i32 1)).setIfInBounds 4 (.int .i32 (-1073741824))) T (0, 0)))) w' ∧ e = .returned (.tuple #[]) := by
  obtain ⟨R, hR, h'⟩ := h.out (.blk b)
  have k := RwLone.wlock_free rwWLib b 0 x2 x3 w ((h'.cells 0).trans h0) ((h'.cells 2).trans h2) ((h'.cells 3).trans h3) ((h'.cells 4).trans h4) (h'.thaw 0) (h'.thaw 4)
  refine k.mono ?_
  rintro e w' ⟨rfl, rfl⟩
  rw [hR]
  exact ⟨(h'.setCell 0 _).setCell 4 _, rfl⟩

theorem wunlockL (h : St w0 A w) [i : Hole (.blk b) A (Blk b (.cells arr T (0, 0))) C] {x2 x3 : Value} (h0 : arr[0]? = some (.int .i32 1)) (h2 : arr[2]? = some x2) (h3 : arr[3]? = some x3) (h4 : arr[4]? = some (.int .i32 (-1073741824))) {ds : List Deferred} {K : FrameMode → World → Prop}
    (hK : ∀ w', St w0 (C (Blk b (.cells ((arr.setIfInBounds 4 (.int .i32 0)).setIfInBounds 0 (.int .i32 0)) T (0, 0)))) w' → leaveD Tryz.prog ds .returning w' K) :
    leaveD Tryz.prog ({ target := .fn (.func 64) #[], args := #[.pointer (some ⟨b, 0, none⟩)] } :: ds) .returning w K := by
  obtain ⟨R, hR, h'⟩ := h.out (.blk b)
  have k := wunlockIn b 0 x2 x3 .returning w ((h'.cells 0).trans h0) ((h'.cells 2).trans h2) ((h'.cells 3).trans h3) ((h'.cells 4).trans h4) (h'.thaw 0) (h'.thaw 4)
  refine leaveF (by kernel_rfl) (CallsDIn.mono' k ?_) hK
  rintro e u' w' ⟨rfl, rfl, rfl⟩
  refine ⟨rfl, rfl, ?_⟩
  rw [hR]
  exact (h'.setCell 4 _).setCell 0 _
end
end Go.Proofs.YtijnmokpihhhcaaGreatDoor

namespace Go.Proofs.YtijnmokpihhhcaaGreatDoor
open Go
set_option linter.unusedVariables false
set_option linter.unusedSimpArgs false
section
variable {P : Program} {T : TypeId}
theorem bv_ofNat {n m : Nat} : BitVec.ofInt n (m : Int) = BitVec.ofNat n m := by simp
theorem wN32 {x : Nat} (h : x < 4294967296) : IntKind.u32.wrap (x : Int) = x := by
  simp only [IntKind.wrap, IntKind.signed, IntKind.bits, Bool.false_and, Bool.false_eq_true, if_false]
  omega
theorem wN8 {x : Nat} (h : x < 256) : IntKind.u8.wrap (x : Int) = x := by
  simp only [IntKind.wrap, IntKind.signed, IntKind.bits, Bool.false_and, Bool.false_eq_true, if_false]
  omega
theorem bvN {n m : Nat} (h : m < 2 ^ n) : (BitVec.ofInt n (m : Int)).toNat = m := by
  rw [bv_ofNat, BitVec.toNat_ofNat, Nat.mod_eq_of_lt h]
theorem bAnd32 {m : Nat} {c : Int} (hm : m < 4294967296) (hc : 0 ≤ c ∧ c < 4294967296) : binV P .and T (.int .u32 m) (.int .u32 c) = some (.int .u32 ((m &&& c.toNat : Nat) : Int)) := by
  obtain ⟨c, rfl⟩ := Int.eq_ofNat_of_zero_le hc.1
  have hc2 : c < 2 ^ 32 := by omega
  have := Nat.and_lt_two_pow m (n := 32) (y := c) hc2
  show some (Value.int .u32 (IntKind.u32.wrap ((BitVec.ofInt 32 (m:Int) &&& BitVec.ofInt 32 (c:Int)).toNat : Int))) = _
  rw [BitVec.toNat_and, bvN (n := 32) hm, bvN hc2, Int.toNat_natCast, wN32 (by omega)]
theorem bAnd8 {m : Nat} {c : Int} (hm : m < 256) (hc : 0 ≤ c ∧ c < 256) : binV P .and T (.int .u8 m) (.int .u8 c) = some (.int .u8 ((m &&& c.toNat : Nat) : Int)) := by
  obtain ⟨c, rfl⟩ := Int.eq_ofNat_of_zero_le hc.1
  have hc2 : c < 2 ^ 8 := by omega
  have := Nat.and_lt_two_pow m (n := 8) (y := c) hc2
  show some (Value.int .u8 (IntKind.u8.wrap ((BitVec.ofInt 8 (m:Int) &&& BitVec.ofInt 8 (c:Int)).toNat : Int))) = _
  rw [BitVec.toNat_and, bvN (n := 8) hm, bvN hc2, Int.toNat_natCast, wN8 (by omega)]
theorem bXor32 {m c : Nat} (hm : m < 4294967296) (hc : c < 4294967296) : binV P .xor T (.int .u32 m) (.int .u32 c) = some (.int .u32 ((m ^^^ c : Nat) : Int)) := by
  have := Nat.xor_lt_two_pow (n := 32) (x := m) (y := c) hm hc
  show some (Value.int .u32 (IntKind.u32.wrap ((BitVec.ofInt 32 (m:Int) ^^^ BitVec.ofInt 32 (c:Int)).toNat : Int))) = _
  rw [BitVec.toNat_xor, bvN (n := 32) hm, bvN (n := 32) hc, wN32 (by omega)]
theorem bOr32 {m : Nat} {c : Int} (hm : m < 4294967296) (hc : 0 ≤ c ∧ c < 4294967296) : binV P .or T (.int .u32 c) (.int .u32 m) = some (.int .u32 ((c.toNat ||| m : Nat) : Int)) := by
  obtain ⟨c, rfl⟩ := Int.eq_ofNat_of_zero_le hc.1
  have hc2 : c < 2 ^ 32 := by omega
  have := Nat.or_lt_two_pow (n := 32) (x := c) (y := m) hc2 hm
  show some (Value.int .u32 (IntKind.u32.wrap ((BitVec.ofInt 32 (c:Int) ||| BitVec.ofInt 32 (m:Int)).toNat : Int))) = _
  rw [BitVec.toNat_or, bvN (n := 32) hm, bvN hc2, Int.toNat_natCast, wN32 (by omega)]
theorem bNot32 {m : Nat} {c : Int} (hm : m < 4294967296) (hc : 0 ≤ c ∧ c < 4294967296) : binV P .andNot T (.int .u32 m) (.int .u32 c) = some (.int .u32 ((m &&& (4294967295 - c.toNat) : Nat) : Int)) := by
  obtain ⟨c, rfl⟩ := Int.eq_ofNat_of_zero_le hc.1
  have hc2 : c < 2 ^ 32 := by omega
  have := Nat.and_le_left (n := m) (m := 4294967295 - c)
  show some (Value.int .u32 (IntKind.u32.wrap ((BitVec.ofInt 32 (m:Int) &&& ~~~BitVec.ofInt 32 (c:Int)).toNat : Int))) = _
  rw [BitVec.toNat_and, BitVec.toNat_not, bvN (n := 32) hm, bvN hc2, Int.toNat_natCast, show 2 ^ 32 - 1 - c = 4294967295 - c from rfl, wN32 (by omega)]
theorem bNot8 {m : Nat} {c : Int} (hm : m < 256) (hc : 0 ≤ c ∧ c < 256) : binV P .andNot T (.int .u8 m) (.int .u8 c) = some (.int .u8 ((m &&& (255 - c.toNat) : Nat) : Int)) := by
  obtain ⟨c, rfl⟩ := Int.eq_ofNat_of_zero_le hc.1
  have hc2 : c < 2 ^ 8 := by omega
  have := Nat.and_le_left (n := m) (m := 255 - c)
  show some (Value.int .u8 (IntKind.u8.wrap ((BitVec.ofInt 8 (m:Int) &&& ~~~BitVec.ofInt 8 (c:Int)).toNat : Int))) = _
  rw [BitVec.toNat_and, BitVec.toNat_not, bvN (n := 8) hm, bvN hc2, Int.toNat_natCast, show 2 ^ 8 - 1 - c = 255 - c from rfl, wN8 (by omega)]

/-! ### One bit -/
theorem and_bit (m k : Nat) : m &&& 2 ^ k = if m.testBit k then 2 ^ k else 0 := by
  apply Nat.eq_of_testBit_eq
  intro j
  rw [Nat.testBit_and, Nat.testBit_two_pow]
  by_cases e : k = j
  · subst e
    cases h : m.testBit k <;> simp
  · cases h : m.testBit k <;> simp [e, Nat.testBit_two_pow]
theorem dirF_bit {m : Nat} (hm : m < 4294967296) : dirF m = m.testBit 31 := by
  rw [Nat.testBit_eq_decide_div_mod_eq]
  unfold dirF
  rw [decide_eq_decide]
  omega
/-- Is it a directory's mode? -/
theorem bDir {m : Nat} (hm : m < 4294967296) : binV P .and T (.int .u32 m) (.int .u32 2147483648) = some (.int .u32 (if dirF m then 2147483648 else 0)) := by
  rw [bAnd32 hm (by omega), show (2147483648 : Int).toNat = 2 ^ 31 from rfl, and_bit, dirF_bit hm]
  cases m.testBit 31 <;> rfl
theorem bDirX {m c : Nat} (hm : m < 4294967296) (hc : c < 4294967296) : binV P .and T (.int .u32 ((m ^^^ c : Nat) : Int)) (.int .u32 2147483648) = some (.int .u32 (if dirF m == dirF c then 0 else 2147483648)) := by
  have := Nat.xor_lt_two_pow (n := 32) (x := m) (y := c) hm hc
  rw [bAnd32 this (by omega), show (2147483648 : Int).toNat = 2 ^ 31 from rfl, and_bit, dirF_bit hm, dirF_bit hc, Nat.testBit_xor]
  cases m.testBit 31 <;> cases c.testBit 31 <;> rfl
theorem bMask {m : Nat} (hm : m < 256) (k : Nat) (hk : k < 8) {c : Int} (hc : c = ((2 ^ k : Nat) : Int)) : binV P .and T (.int .u8 m) (.int .u8 c) = some (.int .u8 (if m.testBit k then c else 0)) := by
  have h2 : 2 ^ k < 256 := Nat.pow_lt_pow_right (a := 2) (by omega) hk
  subst hc
  obtain ⟨x, hx⟩ : ∃ x, x = 2 ^ k := ⟨_, rfl⟩
  rw [← hx] at h2 ⊢
  rw [bAnd8 hm (by omega), Int.toNat_natCast, hx, and_bit]
  cases m.testBit k <;> rfl
theorem bAll {m : Nat} (hm : m < 256) : binV P .andNot T (.int .u8 m) (.int .u8 127) = some (.int .u8 (if m.testBit 7 then 128 else 0)) := by
  rw [bNot8 hm (by omega), show 255 - (127 : Int).toNat = 2 ^ 7 from rfl, and_bit]
  cases m.testBit 7 <;> rfl
theorem bMode {m : Nat} (hm : m < 4294967296) : binV P .andNot T (.int .u32 m) (.int .u32 3825205759) = some (.int .u32 ((m &&& 469761536 : Nat) : Int)) := by
  rw [bNot32 hm (by omega)]
  rfl
end
end Go.Proofs.YtijnmokpihhhcaaGreatDoor

namespace Go.Proofs.YtijnmokpihhhcaaGreatDoor
open Go

section assoc
variable {κ α β : Type} [DecidableEq κ]

def agt (x : κ) : List (κ × α) → Option α
  | [] => none
  | (y, v) :: l => if x = y then some v else agt x l
def aset (x : κ) (v : α) : List (κ × α) → List (κ × α)
  | [] => [(x, v)]
  | (y, u) :: l => if x = y then (x, v) :: l else (y, u) :: aset x v l
def adel (x : κ) : List (κ × α) → List (κ × α)
  | [] => []
  | (y, u) :: l => if x = y then l else (y, u) :: adel x l
def amap (f : α → β) (l : List (κ × α)) : List (κ × β) := l.map fun p => (p.1, f p.2)

omit [DecidableEq κ] in
theorem amap_keys (f : α → β) (l : List (κ × α)) : (amap f l).map (·.1) = l.map (·.1) := by simp only [amap, List.map_map]; rfl
theorem agt_amap (f : α → β) (x : κ) : ∀ l : List (κ × α), agt x (amap f l) = (agt x l).map f
  | [] => rfl
  | (y, v) :: l => by
    have ih := agt_amap f x l
    simp only [amap, List.map_cons, agt] at ih ⊢
    split
    · rfl
    · exact ih
theorem aset_amap (f : α → β) (x : κ) (v : α) : ∀ l : List (κ × α), aset x (f v) (amap f l) = amap f (aset x v l)
  | [] => rfl
  | (y, u) :: l => by
    have ih := aset_amap f x v l
    simp only [amap, List.map_cons, aset] at ih ⊢
    split
    · rfl
    · simp only [List.map_cons, ih]
theorem adel_amap (f : α → β) (x : κ) : ∀ l : List (κ × α), adel x (amap f l) = amap f (adel x l)
  | [] => rfl
  | (y, u) :: l => by
    have ih := adel_amap f x l
    simp only [amap, List.map_cons, adel] at ih ⊢
    split
    · rfl
    · simp only [List.map_cons, ih]
theorem lk_amap (f : α → Value) (x : κ) (l : List (κ × α)) : lk x (amap f l) = (agt x l).map f := by
  have : ∀ m : List (κ × Value), lk x m = agt x m := fun m => by
    induction m with
    | nil => rfl
    | cons p m ih => simp only [lk, agt, ih]
  rw [this, agt_amap]
theorem upd_amap (f : α → Value) (x : κ) (v : α) (l : List (κ × α)) : upd x (f v) (amap f l) = amap f (aset x v l) := by
  have : ∀ m : List (κ × Value), upd x (f v) m = aset x (f v) m := fun m => by
    induction m with
    | nil => rfl
    | cons p m ih => simp only [upd, aset, ih]
  rw [this, aset_amap]
theorem del_amap (f : α → Value) (x : κ) (l : List (κ × α)) : del x (amap f l) = amap f (adel x l) := by
  have : ∀ m : List (κ × Value), del x m = adel x m := fun m => by
    induction m with
    | nil => rfl
    | cons p m ih => simp only [del, adel, ih]
  rw [this, adel_amap]
/-- Where x is there already, a new value of the same face leaves the faces as they are. -/
theorem amap_aset_same (f : α → β) (x : κ) (u v : α) (hf : f u = f v) : ∀ l : List (κ × α), agt x l = some u → amap f (aset x v l) = amap f l
  | [], h => by cases h
  | (y, w) :: l, h => by
    simp only [agt, aset] at h ⊢
    split
    · rename_i hx
      rw [if_pos hx] at h
      simp only [Option.some.injEq] at h
      subst h
      simp [amap, hx, hf]
    · rename_i hx
      rw [if_neg hx] at h
      have := amap_aset_same f x u v hf l h
      simp only [amap, List.map_cons] at this ⊢
      rw [this]
theorem aset_same (x : κ) (v : α) : ∀ l : List (κ × α), agt x l = some v → aset x v l = l
  | [], h => by cases h
  | (y, w) :: l, h => by
    simp only [agt, aset] at h ⊢
    split
    · rename_i hx
      rw [if_pos hx] at h
      simp only [Option.some.injEq] at h
      subst h
      rw [hx]
    · rename_i hx
      rw [if_neg hx] at h
      rw [aset_same x v l h]
theorem aset_aset (x : κ) (u v : α) : ∀ l : List (κ × α), aset x v (aset x u l) = aset x v l
  | [] => by simp [aset]
  | (y, w) :: l => by
    simp only [aset]
    split
    · simp [aset]
    · rename_i hx
      simp only [aset, if_neg hx, aset_aset x u v l]
theorem agt_aset (x : κ) (v : α) : ∀ l : List (κ × α), agt x (aset x v l) = some v
  | [] => by simp [aset, agt]
  | (y, w) :: l => by
    simp only [aset]
    split
    · simp [agt]
    · rename_i hx
      simp only [agt, if_neg hx, agt_aset x v l]

/-- A star over a list. -/
def stars (A : κ × α → HP) : List (κ × α) → HP
  | [] => EmpH
  | p :: l => A p * stars A l
theorem stars_aset (A : κ × α → HP) (x : κ) (u v : α) : ∀ l : List (κ × α), agt x l = some u → stars A (aset x v l) = A (x, v) * stars A (adel x l)
  | [], h => by cases h
  | (y, w) :: l, h => by
    simp only [agt, aset, adel] at h ⊢
    split
    · rfl
    · rename_i hx
      rw [if_neg hx] at h
      simp only [stars, stars_aset A x u v l h]
      ac_rfl
theorem stars_open (A : κ × α → HP) (x : κ) (u : α) (l : List (κ × α)) (h : agt x l = some u) : stars A l = A (x, u) * stars A (adel x l) := by
  have := stars_aset A x u u l h
  rwa [aset_same x u l h] at this
theorem stars_new (A : κ × α → HP) (x : κ) (v : α) : ∀ l : List (κ × α), agt x l = none → stars A (aset x v l) = A (x, v) * stars A l
  | [], _ => rfl
  | (y, w) :: l, h => by
    simp only [agt, aset] at h ⊢
    split
    · rename_i hx
      rw [if_pos hx] at h
      cases h
    · rename_i hx
      rw [if_neg hx] at h
      simp only [stars, stars_new A x v l h]
      ac_rfl
end assoc

end Go.Proofs.YtijnmokpihhhcaaGreatDoor

namespace Go.Proofs.YtijnmokpihhhcaaGreatDoor
open Go
section al
variable {κ α : Type} [DecidableEq κ]
theorem agt_of_mem {x : κ} {v : α} : ∀ {l : List (κ × α)}, (l.map (·.1)).Nodup → (x, v) ∈ l → agt x l = some v
  | (y, u) :: l, hn, hm => by
    simp only [List.map_cons, List.nodup_cons] at hn
    rcases List.mem_cons.1 hm with h | h
    · simp only [Prod.mk.injEq] at h
      simp [agt, h.1, h.2]
    · have : x ≠ y := fun e => hn.1 (e ▸ List.mem_map.2 ⟨(x, v), h, rfl⟩)
      simp only [agt, if_neg this]
      exact agt_of_mem hn.2 h
theorem mem_of_agt {x : κ} {v : α} : ∀ {l : List (κ × α)}, agt x l = some v → (x, v) ∈ l
  | (y, u) :: l, h => by
    simp only [agt] at h
    split at h
    · rename_i e
      simp only [Option.some.injEq] at h
      subst e h
      simp
    · exact List.mem_cons_of_mem _ (mem_of_agt h)
theorem agt_aset_if (x y : κ) (v : α) : ∀ l : List (κ × α), agt y (aset x v l) = if y = x then some v else agt y l
  | [] => by simp only [aset, agt]
  | (z, u) :: l => by
    have ih := agt_aset_if x y v l
    by_cases h : x = z
    · subst h
      by_cases hy : y = x <;> simp [aset, agt, hy]
    · by_cases hy : y = x
      · subst hy
        simp [aset, agt, h, ih]
      · by_cases hz : y = z
        · subst hz
          simp [aset, agt, h, hy]
        · simp [aset, agt, h, hy, hz, ih]
theorem agt_none_of_notin {x : κ} : ∀ {l : List (κ × α)}, x ∉ l.map (·.1) → agt x l = none
  | [], _ => rfl
  | (z, u) :: l, h => by
    simp only [List.map_cons, List.mem_cons, not_or] at h
    simp [agt, h.1, agt_none_of_notin h.2]
theorem agt_adel_if {x y : κ} : ∀ {l : List (κ × α)}, (l.map (·.1)).Nodup → agt y (adel x l) = if y = x then none else agt y l
  | [], _ => by simp [adel, agt]
  | (z, u) :: l, hn => by
    simp only [List.map_cons, List.nodup_cons] at hn
    have ih := agt_adel_if (x := x) (y := y) hn.2
    by_cases h : x = z
    · subst h
      by_cases hy : y = x
      · subst hy
        simp [adel, agt_none_of_notin hn.1]
      · simp [adel, agt, hy]
    · by_cases hy : y = x
      · subst hy
        simp [adel, agt, h, ih]
      · by_cases hz : y = z
        · subst hz
          simp [adel, agt, h, hy]
        · simp [adel, agt, h, hy, hz, ih]
theorem adel_keys (x : κ) : ∀ l : List (κ × α), ((adel x l).map (·.1)).Sublist (l.map (·.1))
  | [] => .slnil
  | (z, u) :: l => by
    simp only [adel]
    split
    · exact List.sublist_cons_self _ _
    · exact (adel_keys x l).cons_cons _
theorem adel_nodup {x : κ} {l : List (κ × α)} (h : (l.map (·.1)).Nodup) : ((adel x l).map (·.1)).Nodup := (adel_keys x l).nodup h
theorem aset_keys (x : κ) (v : α) : ∀ l : List (κ × α), ∀ y ∈ (aset x v l).map (·.1), y = x ∨ y ∈ l.map (·.1)
  | [], y, h => by simpa [aset] using h
  | (z, u) :: l, y, h => by
    simp only [aset] at h
    split at h
    · rename_i e
      simp only [List.map_cons, List.mem_cons] at h ⊢
      rcases h with h | h
      · exact .inl h
      · exact .inr (.inr h)
    · simp only [List.map_cons, List.mem_cons] at h ⊢
      rcases h with h | h
      · exact .inr (.inl h)
      · rcases aset_keys x v l y h with h | h
        · exact .inl h
        · exact .inr (.inr h)
theorem aset_nodup {x : κ} {v : α} : ∀ {l : List (κ × α)}, (l.map (·.1)).Nodup → ((aset x v l).map (·.1)).Nodup
  | [], _ => by simp [aset]
  | (z, u) :: l, hn => by
    simp only [List.map_cons, List.nodup_cons] at hn
    simp only [aset]
    split
    · rename_i e
      subst e
      simpa using hn
    · rename_i e
      simp only [List.map_cons, List.nodup_cons]
      refine ⟨fun h => ?_, aset_nodup hn.2⟩
      rcases aset_keys x v l z h with h | h
      · exact e h.symm
      · exact hn.1 h
theorem agt_isSome_iff {x : κ} : ∀ {l : List (κ × α)}, (agt x l).isSome = true ↔ x ∈ l.map (·.1)
  | [] => by simp [agt]
  | (z, u) :: l => by
    have ih := agt_isSome_iff (x := x) (l := l)
    simp only [agt, List.map_cons, List.mem_cons]
    split
    · rename_i h; simp [h]
    · rename_i h; rw [ih]; simp [h]
theorem agt_perm {l l' : List (κ × α)} (hp : l.Perm l') (hn : (l'.map (·.1)).Nodup) (x : κ) : agt x l = agt x l' := by
  have hn' : (l.map (·.1)).Nodup := (hp.map (·.1)).nodup_iff.2 hn
  cases h : agt x l' with
  | some v => exact agt_of_mem hn' (hp.mem_iff.2 (mem_of_agt h))
  | none =>
    cases h2 : agt x l with
    | none => rfl
    | some v => rw [agt_of_mem hn (hp.mem_iff.1 (mem_of_agt h2))] at h; cases h
end al
end Go.Proofs.YtijnmokpihhhcaaGreatDoor

namespace Go.Proofs.YtijnmokpihhhcaaGreatDoor
open Go
set_option linter.unusedVariables false
set_option linter.unusedSimpArgs false
set_option maxRecDepth 100000

/-- What is told of a node, cell by cell. -/
abbrev infL (i : Inf) : List Value := [.int .u64 i.path, .int .u64 i.parent, .string (strOf i.name), .int .u32 i.mode, .string (strOf i.uid), .string (strOf i.gid), .string (strOf i.muid), .int .u32 i.atime, .int .u32 i.mtime, .int .u32 i.vers, .int .u64 i.length, .int .i64 i.opens, .int .i64 i.kids]
/-- A node's cells: its lock, what is told of it, its children, its blocks. -/
abbrev nodeC (st : Int) (i : Inf) (vk vb : Value) : Array Value := #[.int .i32 st, .int .u32 0, .int .u64 i.path, .int .u64 i.parent, .string (strOf i.name), .int .u32 i.mode, .string (strOf i.uid), .string (strOf i.gid), .string (strOf i.muid), .int .u32 i.atime, .int .u32 i.mtime, .int .u32 i.vers, .int .u64 i.length, .int .i64 i.opens, .int .i64 i.kids, vk, vb]
abbrev NodeB (n : Nat) (st : Int) (i : Inf) (vk vb : Value) : HP := Blk n (.cells (nodeC st i vk vb) 104 (0, 0))


theorem mayMode_any {w0 w : World} {A : HP} (h : St w0 A w) {m : Nat} (hm : m < 4294967296) :
    Calls Tryz.prog 78 #[.int .u32 m] w fun e w' => St w0 A w' ∧ e = .returned (.bool (modeF m)) := by
  refine F78.calls (by simp) ?_
  unfold F78.code
  have hb : decide (((m &&& 469761536 : Nat) : Int) = 0) = modeF m := by
    unfold modeF
    rw [decide_eq_decide]
    omega
  simp -dsimp -implicitDefEqProofs (disch := omega) only [go_sem, reqD_of, dec_t, dec_f, wrap_i64, wrap_u32, wrap_u64, wrap_u8, bMode hm, hb]
  exact h


theorem mayUser_any {w0 w : World} {A : HP} (h : St w0 A w) [Gives A Tabs] {l : List UInt8} (hl : l.length ≤ 9223372036854775807) :
    Calls Tryz.prog 48 #[.string (strOf l)] w fun e w' => St w0 A w' ∧ e = .returned (.bool (userF l)) := by
  refine F48.calls (by simp) ?_
  unfold F48.code
  by_cases h0 : (l.length : Int) ≤ 32
  · have : userF l = good l := by simp [userF]; intros; omega
    simp -dsimp -implicitDefEqProofs (disch := omega) only [go_sem, reqD_of, dec_t, dec_f, wrap_i64, wrap_u32, wrap_u64, wrap_u8, h0]
    refine (good_any h hl).mono ?_
    rintro e w1 ⟨h1, rfl⟩
    simp -dsimp -implicitDefEqProofs (disch := omega) only [go_sem, reqD_of, dec_t, dec_f, wrap_i64, wrap_u32, wrap_u64, wrap_u8, h0]
    rw [this]
    exact ⟨h1, rfl⟩
  · have : userF l = false := by simp [userF]; intros; omega
    simp -dsimp -implicitDefEqProofs (disch := omega) only [go_sem, reqD_of, dec_t, dec_f, wrap_i64, wrap_u32, wrap_u64, wrap_u8, h0]
    rw [this]
    exact ⟨h, rfl⟩

section
attribute [local go_sem] F37.t3_eq
theorem opens_any {w0 w : World} {A : HP} {n : Nat} {st : Int} {i : Inf} {vk vb : Value} (h : St w0 (NodeB n st i vk vb * A) w) {k : Int} (hk : -9223372036854775808 ≤ k ∧ k ≤ 9223372036854775807) (ho : 0 ≤ i.opens ∧ i.opens ≤ 2147483647) :
    Calls Tryz.prog 37 #[.pointer (some ⟨n, 0, none⟩), .int .i64 k] w fun e w' => match opensF k i with
      | .error x => St w0 (NodeB n st i vk vb * A) w' ∧ e = .returned (.int .i64 x)
      | .ok j => St w0 (NodeB n st j vk vb * A) w' ∧ e = .returned (.int .i64 0) := by
  refine F37.calls (by simp) ?_
  unfold F37.code
  by_cases h1 : k < -i.opens
  · have : opensF k i = .error 87 := by unfold opensF; rw [if_pos (Or.inl h1)]
    rw [this]
    simp -dsimp -implicitDefEqProofs (disch := omega) only [go_sem, reqD_of, dec_t, dec_f, wrap_i64, wrap_u32, wrap_u64, wrap_u8, h.cl n, h1]
    exact h
  by_cases h2 : 2147483647 - i.opens < k
  · have : opensF k i = .error 87 := by unfold opensF; rw [if_pos (Or.inr h2)]
    rw [this]
    simp -dsimp -implicitDefEqProofs (disch := omega) only [go_sem, reqD_of, dec_t, dec_f, wrap_i64, wrap_u32, wrap_u64, wrap_u8, h.cl n, h1, h2]
    exact h
  have : opensF k i = .ok { i with opens := i.opens + k } := by unfold opensF; rw [if_neg (by omega)]
  rw [this]
  simp -dsimp -implicitDefEqProofs (disch := omega) only [go_sem, reqD_of, dec_t, dec_f, wrap_i64, wrap_u32, wrap_u64, wrap_u8, h.cl n, h1, h2]
  refine h.sto (by simp) rfl fun w1 hw1 => ?_
  simp -dsimp -implicitDefEqProofs (disch := omega) only [go_sem, reqD_of, dec_t, dec_f, wrap_i64, wrap_u32, wrap_u64, wrap_u8]
  exact hw1

/-! ### set -/

def g0 (m : Nat) (t i : Inf) : Inf := { i with mode := if m.testBit 0 then t.mode else i.mode }
def g1 (m : Nat) (t i : Inf) : Inf := { i with uid := if m.testBit 1 then t.uid else i.uid }
def g2 (m : Nat) (t i : Inf) : Inf := { i with gid := if m.testBit 2 then t.gid else i.gid }
def g3 (m : Nat) (t i : Inf) : Inf := { i with muid := if m.testBit 3 then t.muid else i.muid }
def g4 (m : Nat) (t i : Inf) : Inf := { i with atime := if m.testBit 4 then t.atime else i.atime }
def g5 (m : Nat) (t i : Inf) : Inf := { i with mtime := if m.testBit 5 then t.mtime else i.mtime }
def g6 (m : Nat) (i : Inf) : Inf := { i with vers := if m.testBit 6 then (i.vers + 1) % 4294967296 else i.vers }

abbrev infB (B : Nat) (t : Inf) : HP := Blk B (.cells (infL t).toArray 42 (0, 0))

end
section
attribute [local go_sem] F34.t6_eq F34.t23_eq
end
section
variable {w0 w : World} {A : HP} {n B m : Nat} {st : Int} {t i : Inf} {vk vb : Value} {e : FA} {R : Ending → World → Prop}
theorem set_t21 (hm : m < 256) (h : St w0 (NodeB n st i vk vb * (infB B t * A)) w) (hd : e.ds = []) (e0 : e.ρ 0 = .pointer (some ⟨n, 0, none⟩)) (e1 : e.ρ 1 = .int .u8 m) (e5 : e.ρ 5 = .pointer (some ⟨B, 0, none⟩)) (hR : ∀ w', St w0 (NodeB n st (g6 m i) vk vb * (infB B t * A)) w' → R (.returned (.int .i64 0)) w') :
    cwE Tryz.prog F34.t21 (fnP Tryz.prog #[.tmp 6] R) e w := by
  rw [F34.t21_eq]
  unfold F34.t23
  have b := bMask (P := Tryz.prog) (T := 40) hm 6 (by omega) (c := 64) rfl
  cases k : m.testBit 6
  · have hg : g6 m i = i := by simp [g6, k]
    simp only [k, if_false, Bool.false_eq_true] at b
    simp -dsimp -implicitDefEqProofs (disch := omega) only [go_sem, reqD_of, dec_t, dec_f, wrap_i64, wrap_u32, wrap_u64, wrap_u8, hd, e0, e1, e5, b]
    rw [hg] at hR
    exact hR _ h
  · have hg : g6 m i = { i with vers := (i.vers + 1) % 4294967296 } := by simp [g6, k]
    have hw : IntKind.u32.wrap ((i.vers : Int) + 1) = (((i.vers + 1) % 4294967296 : Nat) : Int) := by
      simp only [IntKind.wrap, IntKind.signed, IntKind.bits, Bool.false_and, Bool.false_eq_true, if_false]
      omega
    simp only [k, if_true] at b
    simp -dsimp -implicitDefEqProofs (disch := omega) only [go_sem, reqD_of, dec_t, dec_f, wrap_i64, wrap_u32, wrap_u64, wrap_u8, hd, e0, e1, e5, b, h.cl n, h.cl B]
    rw [hw]
    refine h.sto (by simp) rfl fun w1 h1 => ?_
    simp only [List.setIfInBounds_toArray, List.set_cons_succ, List.set_cons_zero] at h1
    simp -dsimp -implicitDefEqProofs (disch := omega) only [go_sem, reqD_of, dec_t, dec_f, wrap_i64, wrap_u32, wrap_u64, wrap_u8, hd]
    rw [hg] at hR
    exact hR _ h1
theorem set_t19 (hm : m < 256) (h : St w0 (NodeB n st i vk vb * (infB B t * A)) w) (hd : e.ds = []) (e0 : e.ρ 0 = .pointer (some ⟨n, 0, none⟩)) (e1 : e.ρ 1 = .int .u8 m) (e5 : e.ρ 5 = .pointer (some ⟨B, 0, none⟩)) (hR : ∀ w', St w0 (NodeB n st (g6 m (g5 m t i)) vk vb * (infB B t * A)) w' → R (.returned (.int .i64 0)) w') :
    cwE Tryz.prog F34.t19 (fnP Tryz.prog #[.tmp 6] R) e w := by
  rw [F34.t19_eq]

  have b := bMask (P := Tryz.prog) (T := 40) hm 5 (by omega) (c := 32) rfl
  cases k : m.testBit 5
  · have hg : g5 m t i = i := by simp [g5, k]
    simp only [k, if_false, Bool.false_eq_true] at b
    simp -dsimp -implicitDefEqProofs (disch := omega) only [go_sem, reqD_of, dec_t, dec_f, wrap_i64, wrap_u32, wrap_u64, wrap_u8, hd, e0, e1, e5, b]
    rw [hg] at hR
    exact set_t21 hm h (by simp -dsimp -implicitDefEqProofs only [go_sem, hd]) (by simp -dsimp -implicitDefEqProofs only [go_sem, e0]) (by simp -dsimp -implicitDefEqProofs only [go_sem, e1]) (by simp -dsimp -implicitDefEqProofs only [go_sem, e5]) hR
  · have hg : g5 m t i = { i with mtime := t.mtime } := by simp [g5, k]
    simp only [k, if_true] at b
    simp -dsimp -implicitDefEqProofs (disch := omega) only [go_sem, reqD_of, dec_t, dec_f, wrap_i64, wrap_u32, wrap_u64, wrap_u8, hd, e0, e1, e5, b, h.cl n, h.cl B]
    
    refine h.sto (by simp) rfl fun w1 h1 => ?_
    simp only [List.setIfInBounds_toArray, List.set_cons_succ, List.set_cons_zero] at h1
    simp -dsimp -implicitDefEqProofs (disch := omega) only [go_sem, reqD_of, dec_t, dec_f, wrap_i64, wrap_u32, wrap_u64, wrap_u8]
    rw [hg] at hR
    exact set_t21 hm h1 (by simp -dsimp -implicitDefEqProofs only [go_sem, hd]) (by simp -dsimp -implicitDefEqProofs only [go_sem, e0]) (by simp -dsimp -implicitDefEqProofs only [go_sem, e1]) (by simp -dsimp -implicitDefEqProofs only [go_sem, e5]) hR
theorem set_t17 (hm : m < 256) (h : St w0 (NodeB n st i vk vb * (infB B t * A)) w) (hd : e.ds = []) (e0 : e.ρ 0 = .pointer (some ⟨n, 0, none⟩)) (e1 : e.ρ 1 = .int .u8 m) (e5 : e.ρ 5 = .pointer (some ⟨B, 0, none⟩)) (hR : ∀ w', St w0 (NodeB n st (g6 m (g5 m t (g4 m t i))) vk vb * (infB B t * A)) w' → R (.returned (.int .i64 0)) w') :
    cwE Tryz.prog F34.t17 (fnP Tryz.prog #[.tmp 6] R) e w := by
  rw [F34.t17_eq]

  have b := bMask (P := Tryz.prog) (T := 40) hm 4 (by omega) (c := 16) rfl
  cases k : m.testBit 4
  · have hg : g4 m t i = i := by simp [g4, k]
    simp only [k, if_false, Bool.false_eq_true] at b
    simp -dsimp -implicitDefEqProofs (disch := omega) only [go_sem, reqD_of, dec_t, dec_f, wrap_i64, wrap_u32, wrap_u64, wrap_u8, hd, e0, e1, e5, b]
    rw [hg] at hR
    exact set_t19 hm h (by simp -dsimp -implicitDefEqProofs only [go_sem, hd]) (by simp -dsimp -implicitDefEqProofs only [go_sem, e0]) (by simp -dsimp -implicitDefEqProofs only [go_sem, e1]) (by simp -dsimp -implicitDefEqProofs only [go_sem, e5]) hR
  · have hg : g4 m t i = { i with atime := t.atime } := by simp [g4, k]
    simp only [k, if_true] at b
    simp -dsimp -implicitDefEqProofs (disch := omega) only [go_sem, reqD_of, dec_t, dec_f, wrap_i64, wrap_u32, wrap_u64, wrap_u8, hd, e0, e1, e5, b, h.cl n, h.cl B]
    
    refine h.sto (by simp) rfl fun w1 h1 => ?_
    simp only [List.setIfInBounds_toArray, List.set_cons_succ, List.set_cons_zero] at h1
    simp -dsimp -implicitDefEqProofs (disch := omega) only [go_sem, reqD_of, dec_t, dec_f, wrap_i64, wrap_u32, wrap_u64, wrap_u8]
    rw [hg] at hR
    exact set_t19 hm h1 (by simp -dsimp -implicitDefEqProofs only [go_sem, hd]) (by simp -dsimp -implicitDefEqProofs only [go_sem, e0]) (by simp -dsimp -implicitDefEqProofs only [go_sem, e1]) (by simp -dsimp -implicitDefEqProofs only [go_sem, e5]) hR
theorem set_t15 (hm : m < 256) (h : St w0 (NodeB n st i vk vb * (infB B t * A)) w) (hd : e.ds = []) (e0 : e.ρ 0 = .pointer (some ⟨n, 0, none⟩)) (e1 : e.ρ 1 = .int .u8 m) (e5 : e.ρ 5 = .pointer (some ⟨B, 0, none⟩)) (hR : ∀ w', St w0 (NodeB n st (g6 m (g5 m t (g4 m t (g3 m t i)))) vk vb * (infB B t * A)) w' → R (.returned (.int .i64 0)) w') :
    cwE Tryz.prog F34.t15 (fnP Tryz.prog #[.tmp 6] R) e w := by
  rw [F34.t15_eq]

  have b := bMask (P := Tryz.prog) (T := 40) hm 3 (by omega) (c := 8) rfl
  cases k : m.testBit 3
  · have hg : g3 m t i = i := by simp [g3, k]
    simp only [k, if_false, Bool.false_eq_true] at b
    simp -dsimp -implicitDefEqProofs (disch := omega) only [go_sem, reqD_of, dec_t, dec_f, wrap_i64, wrap_u32, wrap_u64, wrap_u8, hd, e0, e1, e5, b]
    rw [hg] at hR
    exact set_t17 hm h (by simp -dsimp -implicitDefEqProofs only [go_sem, hd]) (by simp -dsimp -implicitDefEqProofs only [go_sem, e0]) (by simp -dsimp -implicitDefEqProofs only [go_sem, e1]) (by simp -dsimp -implicitDefEqProofs only [go_sem, e5]) hR
  · have hg : g3 m t i = { i with muid := t.muid } := by simp [g3, k]
    simp only [k, if_true] at b
    simp -dsimp -implicitDefEqProofs (disch := omega) only [go_sem, reqD_of, dec_t, dec_f, wrap_i64, wrap_u32, wrap_u64, wrap_u8, hd, e0, e1, e5, b, h.cl n, h.cl B]
    
    refine h.sto (by simp) rfl fun w1 h1 => ?_
    simp only [List.setIfInBounds_toArray, List.set_cons_succ, List.set_cons_zero] at h1
    simp -dsimp -implicitDefEqProofs (disch := omega) only [go_sem, reqD_of, dec_t, dec_f, wrap_i64, wrap_u32, wrap_u64, wrap_u8]
    rw [hg] at hR
    exact set_t17 hm h1 (by simp -dsimp -implicitDefEqProofs only [go_sem, hd]) (by simp -dsimp -implicitDefEqProofs only [go_sem, e0]) (by simp -dsimp -implicitDefEqProofs only [go_sem, e1]) (by simp -dsimp -implicitDefEqProofs only [go_sem, e5]) hR
theorem set_t13 (hm : m < 256) (h : St w0 (NodeB n st i vk vb * (infB B t * A)) w) (hd : e.ds = []) (e0 : e.ρ 0 = .pointer (some ⟨n, 0, none⟩)) (e1 : e.ρ 1 = .int .u8 m) (e5 : e.ρ 5 = .pointer (some ⟨B, 0, none⟩)) (hR : ∀ w', St w0 (NodeB n st (g6 m (g5 m t (g4 m t (g3 m t (g2 m t i))))) vk vb * (infB B t * A)) w' → R (.returned (.int .i64 0)) w') :
    cwE Tryz.prog F34.t13 (fnP Tryz.prog #[.tmp 6] R) e w := by
  rw [F34.t13_eq]

  have b := bMask (P := Tryz.prog) (T := 40) hm 2 (by omega) (c := 4) rfl
  cases k : m.testBit 2
  · have hg : g2 m t i = i := by simp [g2, k]
    simp only [k, if_false, Bool.false_eq_true] at b
    simp -dsimp -implicitDefEqProofs (disch := omega) only [go_sem, reqD_of, dec_t, dec_f, wrap_i64, wrap_u32, wrap_u64, wrap_u8, hd, e0, e1, e5, b]
    rw [hg] at hR
    exact set_t15 hm h (by simp -dsimp -implicitDefEqProofs only [go_sem, hd]) (by simp -dsimp -implicitDefEqProofs only [go_sem, e0]) (by simp -dsimp -implicitDefEqProofs only [go_sem, e1]) (by simp -dsimp -implicitDefEqProofs only [go_sem, e5]) hR
  · have hg : g2 m t i = { i with gid := t.gid } := by simp [g2, k]
    simp only [k, if_true] at b
    simp -dsimp -implicitDefEqProofs (disch := omega) only [go_sem, reqD_of, dec_t, dec_f, wrap_i64, wrap_u32, wrap_u64, wrap_u8, hd, e0, e1, e5, b, h.cl n, h.cl B]
    
    refine h.sto (by simp) rfl fun w1 h1 => ?_
    simp only [List.setIfInBounds_toArray, List.set_cons_succ, List.set_cons_zero] at h1
    simp -dsimp -implicitDefEqProofs (disch := omega) only [go_sem, reqD_of, dec_t, dec_f, wrap_i64, wrap_u32, wrap_u64, wrap_u8]
    rw [hg] at hR
    exact set_t15 hm h1 (by simp -dsimp -implicitDefEqProofs only [go_sem, hd]) (by simp -dsimp -implicitDefEqProofs only [go_sem, e0]) (by simp -dsimp -implicitDefEqProofs only [go_sem, e1]) (by simp -dsimp -implicitDefEqProofs only [go_sem, e5]) hR
theorem set_t11 (hm : m < 256) (h : St w0 (NodeB n st i vk vb * (infB B t * A)) w) (hd : e.ds = []) (e0 : e.ρ 0 = .pointer (some ⟨n, 0, none⟩)) (e1 : e.ρ 1 = .int .u8 m) (e5 : e.ρ 5 = .pointer (some ⟨B, 0, none⟩)) (hR : ∀ w', St w0 (NodeB n st (g6 m (g5 m t (g4 m t (g3 m t (g2 m t (g1 m t i)))))) vk vb * (infB B t * A)) w' → R (.returned (.int .i64 0)) w') :
    cwE Tryz.prog F34.t11 (fnP Tryz.prog #[.tmp 6] R) e w := by
  rw [F34.t11_eq]

  have b := bMask (P := Tryz.prog) (T := 40) hm 1 (by omega) (c := 2) rfl
  cases k : m.testBit 1
  · have hg : g1 m t i = i := by simp [g1, k]
    simp only [k, if_false, Bool.false_eq_true] at b
    simp -dsimp -implicitDefEqProofs (disch := omega) only [go_sem, reqD_of, dec_t, dec_f, wrap_i64, wrap_u32, wrap_u64, wrap_u8, hd, e0, e1, e5, b]
    rw [hg] at hR
    exact set_t13 hm h (by simp -dsimp -implicitDefEqProofs only [go_sem, hd]) (by simp -dsimp -implicitDefEqProofs only [go_sem, e0]) (by simp -dsimp -implicitDefEqProofs only [go_sem, e1]) (by simp -dsimp -implicitDefEqProofs only [go_sem, e5]) hR
  · have hg : g1 m t i = { i with uid := t.uid } := by simp [g1, k]
    simp only [k, if_true] at b
    simp -dsimp -implicitDefEqProofs (disch := omega) only [go_sem, reqD_of, dec_t, dec_f, wrap_i64, wrap_u32, wrap_u64, wrap_u8, hd, e0, e1, e5, b, h.cl n, h.cl B]
    
    refine h.sto (by simp) rfl fun w1 h1 => ?_
    simp only [List.setIfInBounds_toArray, List.set_cons_succ, List.set_cons_zero] at h1
    simp -dsimp -implicitDefEqProofs (disch := omega) only [go_sem, reqD_of, dec_t, dec_f, wrap_i64, wrap_u32, wrap_u64, wrap_u8]
    rw [hg] at hR
    exact set_t13 hm h1 (by simp -dsimp -implicitDefEqProofs only [go_sem, hd]) (by simp -dsimp -implicitDefEqProofs only [go_sem, e0]) (by simp -dsimp -implicitDefEqProofs only [go_sem, e1]) (by simp -dsimp -implicitDefEqProofs only [go_sem, e5]) hR
theorem set_t9 (hm : m < 256) (h : St w0 (NodeB n st i vk vb * (infB B t * A)) w) (hd : e.ds = []) (e0 : e.ρ 0 = .pointer (some ⟨n, 0, none⟩)) (e1 : e.ρ 1 = .int .u8 m) (e5 : e.ρ 5 = .pointer (some ⟨B, 0, none⟩)) (hR : ∀ w', St w0 (NodeB n st (g6 m (g5 m t (g4 m t (g3 m t (g2 m t (g1 m t (g0 m t i))))))) vk vb * (infB B t * A)) w' → R (.returned (.int .i64 0)) w') :
    cwE Tryz.prog F34.t9 (fnP Tryz.prog #[.tmp 6] R) e w := by
  rw [F34.t9_eq]

  have b := bMask (P := Tryz.prog) (T := 40) hm 0 (by omega) (c := 1) rfl
  cases k : m.testBit 0
  · have hg : g0 m t i = i := by simp [g0, k]
    simp only [k, if_false, Bool.false_eq_true] at b
    simp -dsimp -implicitDefEqProofs (disch := omega) only [go_sem, reqD_of, dec_t, dec_f, wrap_i64, wrap_u32, wrap_u64, wrap_u8, hd, e0, e1, e5, b]
    rw [hg] at hR
    exact set_t11 hm h (by simp -dsimp -implicitDefEqProofs only [go_sem, hd]) (by simp -dsimp -implicitDefEqProofs only [go_sem, e0]) (by simp -dsimp -implicitDefEqProofs only [go_sem, e1]) (by simp -dsimp -implicitDefEqProofs only [go_sem, e5]) hR
  · have hg : g0 m t i = { i with mode := t.mode } := by simp [g0, k]
    simp only [k, if_true] at b
    simp -dsimp -implicitDefEqProofs (disch := omega) only [go_sem, reqD_of, dec_t, dec_f, wrap_i64, wrap_u32, wrap_u64, wrap_u8, hd, e0, e1, e5, b, h.cl n, h.cl B]
    
    refine h.sto (by simp) rfl fun w1 h1 => ?_
    simp only [List.setIfInBounds_toArray, List.set_cons_succ, List.set_cons_zero] at h1
    simp -dsimp -implicitDefEqProofs (disch := omega) only [go_sem, reqD_of, dec_t, dec_f, wrap_i64, wrap_u32, wrap_u64, wrap_u8]
    rw [hg] at hR
    exact set_t11 hm h1 (by simp -dsimp -implicitDefEqProofs only [go_sem, hd]) (by simp -dsimp -implicitDefEqProofs only [go_sem, e0]) (by simp -dsimp -implicitDefEqProofs only [go_sem, e1]) (by simp -dsimp -implicitDefEqProofs only [go_sem, e5]) hR
end


section
variable {w0 w : World} {A : HP} [Gives A Tabs] {n B m : Nat} {st : Int} {t i : Inf} {vk vb : Value} {e : FA} {K : FA → World → Prop} {X : List PanicEntry → FA → World → Prop} {R : Ending → World → Prop}
omit [Gives A Tabs] in
theorem set_r2 (hm : m < 256) (hl : t.mode < 4294967296) (h : St w0 (NodeB n st i vk vb * (infB B t * A)) w) (hd : e.ds = []) (e0 : e.ρ 0 = .pointer (some ⟨n, 0, none⟩)) (e1 : e.ρ 1 = .int .u8 m) (e5 : e.ρ 5 = .pointer (some ⟨B, 0, none⟩))
    (hQ : ∀ e' w', St w0 (NodeB n st i vk vb * (infB B t * A)) w' → e'.ds = [] → e'.ρ 0 = .pointer (some ⟨n, 0, none⟩) → e'.ρ 1 = .int .u8 m → e'.ρ 5 = .pointer (some ⟨B, 0, none⟩) → e'.ρ 7 = .bool (m.testBit 0 && !modeF t.mode) → K e' w') :
    owE Tryz.prog X K F34.r2 e w := by
  have b := bMask (P := Tryz.prog) (T := 40) hm 0 (by omega) (c := 1) rfl
  cases k : m.testBit 0
  · simp only [k, if_false, Bool.false_eq_true] at b
    rw [k] at hQ
    simp -dsimp -implicitDefEqProofs (disch := omega) only [go_sem, reqD_of, dec_t, dec_f, wrap_i64, wrap_u32, wrap_u64, wrap_u8, hd, e0, e1, e5, b]
    exact hQ _ _ h (by simp -dsimp -implicitDefEqProofs only [go_sem, hd]) (by simp -dsimp -implicitDefEqProofs only [go_sem, e0]) (by simp -dsimp -implicitDefEqProofs only [go_sem, e1]) (by simp -dsimp -implicitDefEqProofs only [go_sem, e5]) (by simp -dsimp -implicitDefEqProofs only [go_sem])
  · simp only [k, if_true] at b
    rw [k] at hQ
    simp -dsimp -implicitDefEqProofs (disch := omega) only [go_sem, reqD_of, dec_t, dec_f, wrap_i64, wrap_u32, wrap_u64, wrap_u8, hd, e0, e1, e5, b, h.cl B]
    refine (mayMode_any h hl).mono ?_
    rintro e' w1 ⟨h1, rfl⟩
    simp -dsimp -implicitDefEqProofs (disch := omega) only [go_sem, reqD_of, dec_t, dec_f, wrap_i64, wrap_u32, wrap_u64, wrap_u8]
    exact hQ _ _ h1 (by simp -dsimp -implicitDefEqProofs only [go_sem, hd]) (by simp -dsimp -implicitDefEqProofs only [go_sem, e0]) (by simp -dsimp -implicitDefEqProofs only [go_sem, e1]) (by simp -dsimp -implicitDefEqProofs only [go_sem, e5]) (by simp -dsimp -implicitDefEqProofs only [go_sem])
theorem set_r3 (hm : m < 256) (hl : t.uid.length ≤ 9223372036854775807) (h : St w0 (NodeB n st i vk vb * (infB B t * A)) w) (hd : e.ds = []) (e0 : e.ρ 0 = .pointer (some ⟨n, 0, none⟩)) (e1 : e.ρ 1 = .int .u8 m) (e5 : e.ρ 5 = .pointer (some ⟨B, 0, none⟩))
    (hQ : ∀ e' w', St w0 (NodeB n st i vk vb * (infB B t * A)) w' → e'.ds = [] → e'.ρ 0 = .pointer (some ⟨n, 0, none⟩) → e'.ρ 1 = .int .u8 m → e'.ρ 5 = .pointer (some ⟨B, 0, none⟩) → e'.ρ 7 = .bool (m.testBit 1 && !userF t.uid) → K e' w') :
    owE Tryz.prog X K F34.r3 e w := by
  have b := bMask (P := Tryz.prog) (T := 40) hm 1 (by omega) (c := 2) rfl
  cases k : m.testBit 1
  · simp only [k, if_false, Bool.false_eq_true] at b
    rw [k] at hQ
    simp -dsimp -implicitDefEqProofs (disch := omega) only [go_sem, reqD_of, dec_t, dec_f, wrap_i64, wrap_u32, wrap_u64, wrap_u8, hd, e0, e1, e5, b]
    exact hQ _ _ h (by simp -dsimp -implicitDefEqProofs only [go_sem, hd]) (by simp -dsimp -implicitDefEqProofs only [go_sem, e0]) (by simp -dsimp -implicitDefEqProofs only [go_sem, e1]) (by simp -dsimp -implicitDefEqProofs only [go_sem, e5]) (by simp -dsimp -implicitDefEqProofs only [go_sem])
  · simp only [k, if_true] at b
    rw [k] at hQ
    simp -dsimp -implicitDefEqProofs (disch := omega) only [go_sem, reqD_of, dec_t, dec_f, wrap_i64, wrap_u32, wrap_u64, wrap_u8, hd, e0, e1, e5, b, h.cl B]
    refine (mayUser_any h hl).mono ?_
    rintro e' w1 ⟨h1, rfl⟩
    simp -dsimp -implicitDefEqProofs (disch := omega) only [go_sem, reqD_of, dec_t, dec_f, wrap_i64, wrap_u32, wrap_u64, wrap_u8]
    exact hQ _ _ h1 (by simp -dsimp -implicitDefEqProofs only [go_sem, hd]) (by simp -dsimp -implicitDefEqProofs only [go_sem, e0]) (by simp -dsimp -implicitDefEqProofs only [go_sem, e1]) (by simp -dsimp -implicitDefEqProofs only [go_sem, e5]) (by simp -dsimp -implicitDefEqProofs only [go_sem])
theorem set_r4 (hm : m < 256) (hl : t.gid.length ≤ 9223372036854775807) (h : St w0 (NodeB n st i vk vb * (infB B t * A)) w) (hd : e.ds = []) (e0 : e.ρ 0 = .pointer (some ⟨n, 0, none⟩)) (e1 : e.ρ 1 = .int .u8 m) (e5 : e.ρ 5 = .pointer (some ⟨B, 0, none⟩))
    (hQ : ∀ e' w', St w0 (NodeB n st i vk vb * (infB B t * A)) w' → e'.ds = [] → e'.ρ 0 = .pointer (some ⟨n, 0, none⟩) → e'.ρ 1 = .int .u8 m → e'.ρ 5 = .pointer (some ⟨B, 0, none⟩) → e'.ρ 7 = .bool (m.testBit 2 && !userF t.gid) → K e' w') :
    owE Tryz.prog X K F34.r4 e w := by
  have b := bMask (P := Tryz.prog) (T := 40) hm 2 (by omega) (c := 4) rfl
  cases k : m.testBit 2
  · simp only [k, if_false, Bool.false_eq_true] at b
    rw [k] at hQ
    simp -dsimp -implicitDefEqProofs (disch := omega) only [go_sem, reqD_of, dec_t, dec_f, wrap_i64, wrap_u32, wrap_u64, wrap_u8, hd, e0, e1, e5, b]
    exact hQ _ _ h (by simp -dsimp -implicitDefEqProofs only [go_sem, hd]) (by simp -dsimp -implicitDefEqProofs only [go_sem, e0]) (by simp -dsimp -implicitDefEqProofs only [go_sem, e1]) (by simp -dsimp -implicitDefEqProofs only [go_sem, e5]) (by simp -dsimp -implicitDefEqProofs only [go_sem])
  · simp only [k, if_true] at b
    rw [k] at hQ
    simp -dsimp -implicitDefEqProofs (disch := omega) only [go_sem, reqD_of, dec_t, dec_f, wrap_i64, wrap_u32, wrap_u64, wrap_u8, hd, e0, e1, e5, b, h.cl B]
    refine (mayUser_any h hl).mono ?_
    rintro e' w1 ⟨h1, rfl⟩
    simp -dsimp -implicitDefEqProofs (disch := omega) only [go_sem, reqD_of, dec_t, dec_f, wrap_i64, wrap_u32, wrap_u64, wrap_u8]
    exact hQ _ _ h1 (by simp -dsimp -implicitDefEqProofs only [go_sem, hd]) (by simp -dsimp -implicitDefEqProofs only [go_sem, e0]) (by simp -dsimp -implicitDefEqProofs only [go_sem, e1]) (by simp -dsimp -implicitDefEqProofs only [go_sem, e5]) (by simp -dsimp -implicitDefEqProofs only [go_sem])
theorem set_r5 (hm : m < 256) (hl : t.muid.length ≤ 9223372036854775807) (h : St w0 (NodeB n st i vk vb * (infB B t * A)) w) (hd : e.ds = []) (e0 : e.ρ 0 = .pointer (some ⟨n, 0, none⟩)) (e1 : e.ρ 1 = .int .u8 m) (e5 : e.ρ 5 = .pointer (some ⟨B, 0, none⟩))
    (hQ : ∀ e' w', St w0 (NodeB n st i vk vb * (infB B t * A)) w' → e'.ds = [] → e'.ρ 0 = .pointer (some ⟨n, 0, none⟩) → e'.ρ 1 = .int .u8 m → e'.ρ 5 = .pointer (some ⟨B, 0, none⟩) → e'.ρ 7 = .bool (m.testBit 3 && !userF t.muid) → K e' w') :
    owE Tryz.prog X K F34.r5 e w := by
  have b := bMask (P := Tryz.prog) (T := 40) hm 3 (by omega) (c := 8) rfl
  cases k : m.testBit 3
  · simp only [k, if_false, Bool.false_eq_true] at b
    rw [k] at hQ
    simp -dsimp -implicitDefEqProofs (disch := omega) only [go_sem, reqD_of, dec_t, dec_f, wrap_i64, wrap_u32, wrap_u64, wrap_u8, hd, e0, e1, e5, b]
    exact hQ _ _ h (by simp -dsimp -implicitDefEqProofs only [go_sem, hd]) (by simp -dsimp -implicitDefEqProofs only [go_sem, e0]) (by simp -dsimp -implicitDefEqProofs only [go_sem, e1]) (by simp -dsimp -implicitDefEqProofs only [go_sem, e5]) (by simp -dsimp -implicitDefEqProofs only [go_sem])
  · simp only [k, if_true] at b
    rw [k] at hQ
    simp -dsimp -implicitDefEqProofs (disch := omega) only [go_sem, reqD_of, dec_t, dec_f, wrap_i64, wrap_u32, wrap_u64, wrap_u8, hd, e0, e1, e5, b, h.cl B]
    refine (mayUser_any h hl).mono ?_
    rintro e' w1 ⟨h1, rfl⟩
    simp -dsimp -implicitDefEqProofs (disch := omega) only [go_sem, reqD_of, dec_t, dec_f, wrap_i64, wrap_u32, wrap_u64, wrap_u8]
    exact hQ _ _ h1 (by simp -dsimp -implicitDefEqProofs only [go_sem, hd]) (by simp -dsimp -implicitDefEqProofs only [go_sem, e0]) (by simp -dsimp -implicitDefEqProofs only [go_sem, e1]) (by simp -dsimp -implicitDefEqProofs only [go_sem, e5]) (by simp -dsimp -implicitDefEqProofs only [go_sem])
omit [Gives A Tabs] in
theorem set_t6T (hd : e.ds = []) (e0 : e.ρ 0 = .pointer (some ⟨n, 0, none⟩)) (e1 : e.ρ 1 = .int .u8 m) (e5 : e.ρ 5 = .pointer (some ⟨B, 0, none⟩)) (e7 : e.ρ 7 = .bool true) (hR : R (.returned (.int .i64 1)) w) :
    cwE Tryz.prog F34.t6 (blockP 0 (thenP (cwD Tryz.prog none F34.t9 (fnP Tryz.prog #[.tmp 6] R)) (fnP Tryz.prog #[.tmp 6] R))) e w := by
  rw [F34.t6_eq]
  simp -dsimp -implicitDefEqProofs (disch := omega) only [go_sem, reqD_of, dec_t, dec_f, wrap_i64, wrap_u32, wrap_u64, wrap_u8, hd, e7]
  exact hR
omit [Gives A Tabs] in
theorem set_t6F (hm : m < 256) (ht : t.mode < 4294967296) (hi : i.mode < 4294967296) (h : St w0 (NodeB n st i vk vb * (infB B t * A)) w) (hd : e.ds = []) (e0 : e.ρ 0 = .pointer (some ⟨n, 0, none⟩)) (e1 : e.ρ 1 = .int .u8 m) (e5 : e.ρ 5 = .pointer (some ⟨B, 0, none⟩)) (e7 : e.ρ 7 = .bool false)
    (hR : ∀ w', (m.testBit 0 && !(dirF t.mode == dirF i.mode)) = true → St w0 (NodeB n st i vk vb * (infB B t * A)) w' → R (.returned (.int .i64 81)) w')
    (hQ : ∀ e' w', (m.testBit 0 && !(dirF t.mode == dirF i.mode)) = false → St w0 (NodeB n st i vk vb * (infB B t * A)) w' → e'.ds = [] → e'.ρ 0 = .pointer (some ⟨n, 0, none⟩) → e'.ρ 1 = .int .u8 m → e'.ρ 5 = .pointer (some ⟨B, 0, none⟩) → cwE Tryz.prog F34.t9 (fnP Tryz.prog #[.tmp 6] R) e' w') :
    cwE Tryz.prog F34.t6 (blockP 0 (thenP (cwD Tryz.prog none F34.t9 (fnP Tryz.prog #[.tmp 6] R)) (fnP Tryz.prog #[.tmp 6] R))) e w := by
  rw [F34.t6_eq]
  have b := bMask (P := Tryz.prog) (T := 40) hm 0 (by omega) (c := 1) rfl
  have bx := bDirX (P := Tryz.prog) (T := 33) ht hi
  have hx : binV Tryz.prog .xor 33 (.int .u32 t.mode) (.int .u32 i.mode) = some (.int .u32 ((t.mode ^^^ i.mode : Nat) : Int)) := bXor32 ht hi
  cases k : m.testBit 0
  · simp only [k, if_false, Bool.false_eq_true] at b
    rw [k] at hQ
    simp -dsimp -implicitDefEqProofs (disch := omega) only [go_sem, reqD_of, dec_t, dec_f, wrap_i64, wrap_u32, wrap_u64, wrap_u8, hd, e0, e1, e5, e7, b]
    exact hQ _ _ rfl h.drew (by simp -dsimp -implicitDefEqProofs only [go_sem, hd]) (by simp -dsimp -implicitDefEqProofs only [go_sem, e0]) (by simp -dsimp -implicitDefEqProofs only [go_sem, e1]) (by simp -dsimp -implicitDefEqProofs only [go_sem, e5])
  · simp only [k, if_true] at b
    rw [k] at hQ hR
    cases k2 : dirF t.mode == dirF i.mode
    · simp only [k2, if_false, Bool.false_eq_true] at bx
      rw [k2] at hR
      simp -dsimp -implicitDefEqProofs (disch := omega) only [go_sem, reqD_of, dec_t, dec_f, wrap_i64, wrap_u32, wrap_u64, wrap_u8, hd, e0, e1, e5, e7, b, h.drew.cl B, h.drew.cl n, bx, hx]
      exact hR _ rfl h.drew
    · simp only [k2, if_true] at bx
      rw [k2] at hQ
      simp -dsimp -implicitDefEqProofs (disch := omega) only [go_sem, reqD_of, dec_t, dec_f, wrap_i64, wrap_u32, wrap_u64, wrap_u8, hd, e0, e1, e5, e7, b, h.drew.cl B, h.drew.cl n, bx, hx]
      exact hQ _ _ rfl h.drew (by simp -dsimp -implicitDefEqProofs only [go_sem, hd]) (by simp -dsimp -implicitDefEqProofs only [go_sem, e0]) (by simp -dsimp -implicitDefEqProofs only [go_sem, e1]) (by simp -dsimp -implicitDefEqProofs only [go_sem, e5])
end

section
attribute [local go_sem] F34.t23_eq F34.t21_eq F34.t19_eq F34.t17_eq F34.t15_eq F34.t13_eq F34.t11_eq
theorem set_any {w0 w : World} {A : HP} [Gives A Tabs] {n m : Nat} {st : Int} {t i : Inf} {vk vb : Value} (hm : m < 256) (ht : t.mode < 4294967296) (hi : i.mode < 4294967296) (hl : t.uid.length ≤ 9223372036854775807 ∧ t.gid.length ≤ 9223372036854775807 ∧ t.muid.length ≤ 9223372036854775807)
    (h : St w0 (NodeB n st i vk vb * A) w) :
    Calls Tryz.prog 34 #[.pointer (some ⟨n, 0, none⟩), .int .u8 m, .agg (infL t).toArray] w fun e w' => match setF m t i with
      | .error x => St w0 (NodeB n st i vk vb * A) w' ∧ e = .returned (.int .i64 x)
      | .ok j => St w0 (NodeB n st j vk vb * A) w' ∧ e = .returned (.int .i64 0) := by
  refine F34.calls (by simp) ?_
  unfold F34.code
  simp -dsimp -implicitDefEqProofs (disch := omega) only [go_sem, reqD_of, dec_t, dec_f, wrap_i64, wrap_u32, wrap_u64, wrap_u8]
  refine h.new fun B w1 h1 => ?_
  have h2 : St w0 (NodeB n st i vk vb * (infB B t * A)) w1 := h1.ac (by ac_rfl)
  have b := bAll (P := Tryz.prog) (T := 40) hm
  cases k7 : m.testBit 7
  case true =>
    have hr : setF m t i = .error 1 := by simp [setF, k7]
    rw [hr]
    simp only [k7, if_true] at b
    simp -dsimp -implicitDefEqProofs (disch := omega) only [go_sem, reqD_of, dec_t, dec_f, wrap_i64, wrap_u32, wrap_u64, wrap_u8, b]
    exact set_t6T (n := n) (B := B) (m := m) (by simp -dsimp -implicitDefEqProofs only [go_sem]) (by simp -dsimp -implicitDefEqProofs only [go_sem]) (by simp -dsimp -implicitDefEqProofs only [go_sem]) (by simp -dsimp -implicitDefEqProofs only [go_sem]) (by simp -dsimp -implicitDefEqProofs only [go_sem]) ⟨h2.sw2.right, rfl⟩
  simp only [k7, if_false, Bool.false_eq_true] at b
  generalize q2 : F34.r2 = r2
  generalize q3 : F34.r3 = r3
  generalize q4 : F34.r4 = r4
  generalize q5 : F34.r5 = r5
  simp -dsimp -implicitDefEqProofs (disch := omega) only [go_sem, reqD_of, dec_t, dec_f, wrap_i64, wrap_u32, wrap_u64, wrap_u8, b]
  subst q2
  refine set_r2 (t := t) hm ht h2 (by simp -dsimp -implicitDefEqProofs only [go_sem]) (by simp -dsimp -implicitDefEqProofs only [go_sem]) (by simp -dsimp -implicitDefEqProofs only [go_sem]) (by simp -dsimp -implicitDefEqProofs only [go_sem]) fun e2 w2 h3 d2 a0 a1 a5 a7 => ?_
  have out : (m.testBit 0 && !modeF t.mode || m.testBit 1 && !userF t.uid || m.testBit 2 && !userF t.gid || m.testBit 3 && !userF t.muid) = true → setF m t i = .error 1 := fun hx => by
    simp only [setF, k7, Bool.false_or, hx, if_true]
  cases x0 : (m.testBit 0 && !modeF t.mode)
  case true =>
    rw [x0] at a7
    rw [out (by rw [x0]; simp only [Bool.true_or])]
    simp -dsimp -implicitDefEqProofs (disch := omega) only [go_sem, reqD_of, dec_t, dec_f, wrap_i64, wrap_u32, wrap_u64, wrap_u8, d2, a0, a1, a5, a7]
    exact set_t6T d2 a0 a1 a5 a7 ⟨h3.sw2.right, rfl⟩
  rw [x0] at a7 out
  simp -dsimp -implicitDefEqProofs (disch := omega) only [go_sem, reqD_of, dec_t, dec_f, wrap_i64, wrap_u32, wrap_u64, wrap_u8, d2, a0, a1, a5, a7]
  subst q3
  refine set_r3 (t := t) hm hl.1 h3 d2 a0 a1 a5 fun e3 w3 h4 d3 c0 c1 c5 c7 => ?_
  cases x1 : (m.testBit 1 && !userF t.uid)
  case true =>
    rw [x1] at c7
    rw [out (by rw [x1]; simp only [Bool.or_true, Bool.true_or])]
    simp -dsimp -implicitDefEqProofs (disch := omega) only [go_sem, reqD_of, dec_t, dec_f, wrap_i64, wrap_u32, wrap_u64, wrap_u8, d3, c0, c1, c5, c7]
    exact set_t6T d3 c0 c1 c5 c7 ⟨h4.sw2.right, rfl⟩
  rw [x1] at c7 out
  simp -dsimp -implicitDefEqProofs (disch := omega) only [go_sem, reqD_of, dec_t, dec_f, wrap_i64, wrap_u32, wrap_u64, wrap_u8, d3, c0, c1, c5, c7]
  subst q4
  refine set_r4 (t := t) hm hl.2.1 h4 d3 c0 c1 c5 fun e4 w4 h5 d4 f0 f1 f5 f7 => ?_
  cases x2 : (m.testBit 2 && !userF t.gid)
  case true =>
    rw [x2] at f7
    rw [out (by rw [x2]; simp only [Bool.or_true, Bool.true_or])]
    simp -dsimp -implicitDefEqProofs (disch := omega) only [go_sem, reqD_of, dec_t, dec_f, wrap_i64, wrap_u32, wrap_u64, wrap_u8, d4, f0, f1, f5, f7]
    exact set_t6T d4 f0 f1 f5 f7 ⟨h5.sw2.right, rfl⟩
  rw [x2] at f7 out
  simp -dsimp -implicitDefEqProofs (disch := omega) only [go_sem, reqD_of, dec_t, dec_f, wrap_i64, wrap_u32, wrap_u64, wrap_u8, d4, f0, f1, f5, f7]
  subst q5
  refine set_r5 (t := t) hm hl.2.2 h5 d4 f0 f1 f5 fun e5 w5 h6 d5 j0 j1 j5 j7 => ?_
  cases x3 : (m.testBit 3 && !userF t.muid)
  case true =>
    rw [x3] at j7
    rw [out (by rw [x3]; simp only [Bool.or_true, Bool.true_or])]
    simp -dsimp -implicitDefEqProofs (disch := omega) only [go_sem, reqD_of, dec_t, dec_f, wrap_i64, wrap_u32, wrap_u64, wrap_u8, d5, j0, j1, j5, j7]
    exact set_t6T d5 j0 j1 j5 j7 ⟨h6.sw2.right, rfl⟩
  rw [x3] at j7 out
  simp -dsimp -implicitDefEqProofs (disch := omega) only [go_sem, reqD_of, dec_t, dec_f, wrap_i64, wrap_u32, wrap_u64, wrap_u8, d5, j0, j1, j5, j7]
  have in1 : (m.testBit 7 || m.testBit 0 && !modeF t.mode || m.testBit 1 && !userF t.uid || m.testBit 2 && !userF t.gid || m.testBit 3 && !userF t.muid) = false := by rw [k7, x0, x1, x2, x3]; rfl
  refine set_t6F hm ht hi h6 d5 j0 j1 j5 j7 (fun w7 hk h7 => ?_) fun e7 w7 hk h7 d7 l0 l1 l5 => ?_
  · have hr : setF m t i = .error 81 := by
      unfold setF
      rw [in1, hk]
      rfl
    rw [hr]
    exact ⟨h7.sw2.right, rfl⟩
  · have hr : setF m t i = .ok (g6 m (g5 m t (g4 m t (g3 m t (g2 m t (g1 m t (g0 m t i))))))) := by
      unfold setF
      rw [in1, hk]
      rfl
    rw [hr]
    exact set_t9 hm h7 d7 l0 l1 l5 fun w8 h8 => ⟨h8.sw2.right, rfl⟩
end
end Go.Proofs.YtijnmokpihhhcaaGreatDoor

namespace Go.Proofs.YtijnmokpihhhcaaGreatDoor
open Go
set_option linter.unusedVariables false
set_option linter.unusedSimpArgs false
set_option maxRecDepth 100000

abbrev u64V (x : Nat) : Value := .int .u64 (x : Int)
abbrev RdU (v : Value) (l : List Nat) : HP := Reads 1 v l.length (l.map u64V)
abbrev RowU (v : Value) (l : List Nat) : HP := RowO 34 1 v l.length (l.map u64V)


theorem nan1_any {w0 w : World} {A : HP} (h : St w0 A w) {a : Int} : Calls Tryz.prog 112 #[.int .u64 a] w fun e w' => St w0 A w' ∧ e = .returned (.bool false) := by
  refine F112.calls (by simp) ?_
  unfold F112.code
  simp -dsimp -implicitDefEqProofs (disch := omega) only [go_sem, reqD_of, dec_t, dec_f, wrap_i64, wrap_u32, wrap_u64, wrap_u8]
  exact h

theorem nan2_any {w0 w : World} {A : HP} (h : St w0 A w) {a : Int} : Calls Tryz.prog 116 #[.int .u64 a] w fun e w' => St w0 A w' ∧ e = .returned (.bool false) := by
  refine F116.calls (by simp) ?_
  unfold F116.code
  simp -dsimp -implicitDefEqProofs (disch := omega) only [go_sem, reqD_of, dec_t, dec_f, wrap_i64, wrap_u32, wrap_u64, wrap_u8]
  exact h

theorem lessU_any {w0 w : World} {A : HP} (h : St w0 A w) {a b : Int} : Calls Tryz.prog 111 #[.int .u64 a, .int .u64 b] w fun e w' => St w0 A w' ∧ e = .returned (.bool (decide (a < b))) := by
  refine F111.calls (by simp) ?_
  unfold F111.code
  simp -dsimp -implicitDefEqProofs (disch := omega) only [go_sem, reqD_of, dec_t, dec_f, wrap_i64, wrap_u32, wrap_u64, wrap_u8]
  refine (nan2_any h).mono ?_
  rintro e w1 ⟨h1, rfl⟩
  simp -dsimp -implicitDefEqProofs (disch := omega) only [go_sem, reqD_of, dec_t, dec_f, wrap_i64, wrap_u32, wrap_u64, wrap_u8]
  exact h1

/-- Where t stands in a rising list, or would stand. -/
def Place (l : List Nat) (t i : Nat) : Prop := i ≤ l.length ∧ (∀ k (hk : k < l.length), k < i → l[k] < t) ∧ (∀ k (hk : k < l.length), i ≤ k → t ≤ l[k])

section
attribute [local go_sem] F99.t4_eq
theorem search_any {w0 w : World} {A : HP} (h : St w0 A w) {v : Value} {l : List Nat} [hg : Gives A (RdU v l)] {t : Nat} (hl : l.Pairwise (· < ·)) (hn : l.length ≤ 1000000000) :
    Calls Tryz.prog 99 #[v, .int .u64 t] w fun e w' => St w0 A w' ∧ ∃ i, Place l t i ∧ e = .returned (.tuple #[.int .i64 (i : Nat), .bool (decide (t ∈ l))]) := by
  obtain ⟨a, c, rfl, hnc, hx⟩ := (h.gives (B := RdU v l)).rd.form
  clear hx
  refine F99.calls (by simp) ?_
  unfold F99.code
  simp -dsimp -implicitDefEqProofs (disch := omega) only [go_sem, reqD_of, dec_t, dec_f, wrap_i64, wrap_u32, wrap_u64, wrap_u8]
  refine loop_intro (fun e w' => e.ds = [] ∧ e.ρ 0 = .slice a l.length c ∧ e.ρ 1 = .int .u64 t ∧ e.ρ 6 = .int .i64 l.length ∧ ∃ i j : Nat, i ≤ j ∧ j ≤ l.length ∧ e.ρ 7 = .int .i64 i ∧ e.ρ 8 = .int .i64 j ∧
      (∀ k (hk : k < l.length), k < i → l[k] < t) ∧ (∀ k (hk : k < l.length), j ≤ k → t ≤ l[k]) ∧ St w0 A w')
    (fun e _ => match e.ρ 7, e.ρ 8 with | .int _ i, .int _ j => (j - i).toNat | _, _ => 0) ?_ ?_
  · exact ⟨by simp -dsimp -implicitDefEqProofs only [go_sem], by simp -dsimp -implicitDefEqProofs only [go_sem], by simp -dsimp -implicitDefEqProofs only [go_sem], by simp -dsimp -implicitDefEqProofs only [go_sem], 0, l.length, by omega, by omega, by simp -dsimp -implicitDefEqProofs only [go_sem], by simp -dsimp -implicitDefEqProofs only [go_sem], by intros; omega, by intros; omega, h⟩
  clear h w
  rintro e w ⟨hd, e0, e1, e6, i, j, hij, hj, e7, e8, lo, hi, h⟩
  by_cases hlt : (i : Int) < (j : Int)
  case neg =>
    have : i = j := by omega
    subst this
    have hP : Place l t i := ⟨hj, lo, hi⟩
    have hmem : decide (t ∈ l) = true ↔ ∃ (hk : i < l.length), l[i] = t := by
      rw [decide_eq_true_iff]
      constructor
      · intro ht
        obtain ⟨k, hk, rfl⟩ := List.getElem_of_mem ht
        rcases Nat.lt_trichotomy k i with h1 | h1 | h1
        · have := lo k hk h1; omega
        · subst h1; exact ⟨hk, rfl⟩
        · have h2 := hi i (by omega) (Nat.le_refl _)
          have h3 := List.pairwise_iff_getElem.1 hl i k (by omega) hk h1
          omega
      · rintro ⟨hk, rfl⟩; exact List.getElem_mem hk
    by_cases hin : (i : Int) < (l.length : Int)
    case neg =>
      have hf : decide (t ∈ l) = false := by
        cases hb : decide (t ∈ l)
        · rfl
        · obtain ⟨hk, _⟩ := hmem.1 hb; omega
      rw [hf]
      simp -dsimp -implicitDefEqProofs (disch := omega) only [go_sem, reqD_of, dec_t, dec_f, wrap_i64, wrap_u32, wrap_u64, wrap_u8, hd, e0, e1, e6, e7, e8, hlt]
      unfold F99.t8
      simp -dsimp -implicitDefEqProofs (disch := omega) only [go_sem, reqD_of, dec_t, dec_f, wrap_i64, wrap_u32, wrap_u64, wrap_u8, hd, e0, e1, e6, e7, e8, hin]
      exact ⟨h, i, hP, rfl⟩
    have hil : i < l.length := by omega
    obtain ⟨b, o, rfl, hc⟩ := h.atS (a := a) (n := l.length) (c := c) (xs := l.map u64V) (k := i) (by simpa using hil)
    simp only [List.getElem_map] at hc
    simp -dsimp -implicitDefEqProofs (disch := omega) only [go_sem, reqD_of, dec_t, dec_f, wrap_i64, wrap_u32, wrap_u64, wrap_u8, hd, e0, e1, e6, e7, e8, hlt]
    unfold F99.t8
    by_cases he : (l[i] : Int) = (t : Int)
    · have hf : decide (t ∈ l) = true := hmem.2 ⟨hil, by omega⟩
      rw [hf]
      simp -dsimp -implicitDefEqProofs (disch := omega) only [go_sem, reqD_of, dec_t, dec_f, wrap_i64, wrap_u32, wrap_u64, wrap_u8, hd, e0, e1, e6, e7, e8, hin, hc, he]
      exact ⟨h, i, hP, rfl⟩
    · have hf : decide (t ∈ l) = false := by
        cases hb : decide (t ∈ l)
        · rfl
        · obtain ⟨hk, h2⟩ := hmem.1 hb; omega
      rw [hf]
      simp -dsimp -implicitDefEqProofs (disch := omega) only [go_sem, reqD_of, dec_t, dec_f, wrap_i64, wrap_u32, wrap_u64, wrap_u8, hd, e0, e1, e6, e7, e8, hin, hc, he]
      refine (nan1_any h).mono ?_
      rintro e' w1 ⟨h1, rfl⟩
      simp -dsimp -implicitDefEqProofs (disch := omega) only [go_sem, reqD_of, dec_t, dec_f, wrap_i64, wrap_u32, wrap_u64, wrap_u8, hd, e0, e1, e6, e7, e8, hin, hc, he]
      exact ⟨h1, i, hP, rfl⟩
  obtain ⟨m, hme⟩ : ∃ m, m = (i + j) / 2 := ⟨_, rfl⟩
  have hml : m < l.length := by omega
  have hm : IntKind.i64.wrap (((i : Int) + j).fdiv 2) = m := by
    rw [Int.fdiv_eq_ediv_of_nonneg _ (by omega), wrap_i64 (by omega) (by omega)]
    omega
  obtain ⟨b, o, rfl, hc⟩ := h.atS (a := a) (n := l.length) (c := c) (xs := l.map u64V) (k := m) (by simpa using hml)
  simp only [List.getElem_map] at hc
  simp -dsimp -implicitDefEqProofs (disch := omega) only [go_sem, reqD_of, dec_t, dec_f, wrap_i64, wrap_u32, wrap_u64, wrap_u8, hd, e0, e1, e6, e7, e8, hlt, hm, hc]
  refine (lessU_any h).mono ?_
  rintro e' w1 ⟨h1, rfl⟩
  by_cases hb : (l[m] : Int) < (t : Int)
  · simp -dsimp -implicitDefEqProofs (disch := omega) only [go_sem, reqD_of, dec_t, dec_f, wrap_i64, wrap_u32, wrap_u64, wrap_u8, hd, e0, e1, e6, e7, e8, hb]
    exact ⟨⟨m + 1, j, by omega, by omega, by omega, rfl, fun k hk hkm => by
      rcases Nat.lt_or_ge k m with h2 | h2
      · have := List.pairwise_iff_getElem.1 hl k m hk hml h2; omega
      · have : k = m := by omega
        subst this; omega, hi, h1⟩, by omega⟩
  · simp -dsimp -implicitDefEqProofs (disch := omega) only [go_sem, reqD_of, dec_t, dec_f, wrap_i64, wrap_u32, wrap_u64, wrap_u8, hd, e0, e1, e6, e7, e8, hb]
    exact ⟨⟨i, m, by omega, by omega, rfl, rfl, lo, fun k hk hkm => by
      rcases Nat.lt_or_ge m k with h2 | h2
      · have := List.pairwise_iff_getElem.1 hl m k hml hk h2; omega
      · have : k = m := by omega
        subst this; omega, h1⟩, by omega⟩

theorem find_at {p : Nat → Bool} : ∀ (l : List Nat) (q : Nat), (∀ k (hk : k < l.length), k < q → p l[k] = false) → (∀ k (hk : k < l.length), q ≤ k → p l[k] = true) → l.find? p = l[q]?
  | [], q, _, _ => by simp
  | x :: l, 0, _, h2 => by
    have := h2 0 (by simp) (by omega)
    simp only [List.getElem_cons_zero] at this
    simp [List.find?, this]
  | x :: l, q + 1, h1, h2 => by
    have := h1 0 (by simp) (by omega)
    simp only [List.getElem_cons_zero] at this
    simp only [List.find?, this, List.getElem?_cons_succ]
    exact find_at l q (fun k hk hq => h1 (k + 1) (by simpa using hk) (by omega)) (fun k hk hq => h2 (k + 1) (by simpa using hk) (by omega))
/-- The first that is greater. -/
theorem find_above {l : List Nat} {t i : Nat} (hp : Place l t i) (hl : l.Pairwise (· < ·)) : l.find? (fun k => decide (t < k)) = l[if t ∈ l then i + 1 else i]? := by
  obtain ⟨h0, h1, h2⟩ := hp
  refine find_at l _ (fun k hk hq => ?_) (fun k hk hq => ?_)
  · by_cases ht : t ∈ l
    · rw [if_pos ht] at hq
      obtain ⟨m, hm, rfl⟩ := List.getElem_of_mem ht
      rcases Nat.lt_or_ge m k with h3 | h3
      · rcases Nat.lt_or_ge m i with h4 | h4
        · have := h1 m hm h4; omega
        · omega
      · rcases Nat.eq_or_lt_of_le h3 with h4 | h4
        · subst h4; simp
        · have := List.pairwise_iff_getElem.1 hl k m hk hm h4
          simp; omega
    · rw [if_neg ht] at hq
      have := h1 k hk hq
      simp; omega
  · by_cases ht : t ∈ l
    · rw [if_pos ht] at hq
      have h3 := h2 i (by omega) (Nat.le_refl _)
      have h4 := List.pairwise_iff_getElem.1 hl i k (by omega) hk (by omega)
      simp; omega
    · rw [if_neg ht] at hq
      have h3 := h2 k hk hq
      have : l[k] ≠ t := fun e => ht (e ▸ List.getElem_mem hk)
      simp; omega

end
section
attribute [local go_sem] F83.t4_eq
theorem above_any {w0 w : World} {A : HP} (h : St w0 A w) {v : Value} {l : List Nat} [hg : Gives A (RdU v l)] {t : Nat} (hl : l.Pairwise (· < ·)) (hn : l.length ≤ 1000000000) :
    Calls Tryz.prog 83 #[v, .int .u64 t] w fun e w' => St w0 A w' ∧ e = .returned (match l.find? (fun k => decide (t < k)) with | some k => .tuple #[.int .u64 k, .bool true] | none => .tuple #[.int .u64 0, .bool false]) := by
  obtain ⟨a, c, rfl, hnc, hx⟩ := (h.gives (B := RdU v l)).rd.form
  clear hx
  refine F83.calls (by simp) ?_
  unfold F83.code
  simp -dsimp -implicitDefEqProofs (disch := omega) only [go_sem, reqD_of, dec_t, dec_f, wrap_i64, wrap_u32, wrap_u64, wrap_u8]
  refine (search_any h hl hn).mono ?_
  rintro e w1 ⟨h1, i, hp, rfl⟩
  rw [find_above hp hl]
  obtain ⟨q, hq⟩ : ∃ q, q = if t ∈ l then i + 1 else i := ⟨_, rfl⟩
  rw [← hq]
  have hp0 := hp.1
  have hql : q ≤ l.length := by
    rw [hq]
    by_cases ht : t ∈ l
    · rw [if_pos ht]
      obtain ⟨m, hm, he⟩ := List.getElem_of_mem ht
      rcases Nat.lt_or_ge m i with h4 | h4
      · have := hp.2.1 m hm h4; omega
      · omega
    · rw [if_neg ht]; exact hp.1
  have go : ∀ e : FA, e.ds = [] → e.ρ 0 = .slice a l.length c → e.ρ 6 = .int .i64 q → q < l.length → cwE Tryz.prog F83.t6 (fnP Tryz.prog #[.tmp 4, .tmp 5] fun e w' => St w0 A w' ∧ e = .returned (match l[q]? with | some k => .tuple #[.int .u64 k, .bool true] | none => .tuple #[.int .u64 0, .bool false])) e w1 := by
    intro e hd e0 e6 hlt
    obtain ⟨b, o, rfl, hc⟩ := h1.atS (a := a) (n := l.length) (c := c) (xs := l.map u64V) (k := q) (by simpa using hlt)
    simp only [List.getElem_map] at hc
    unfold F83.t6
    rw [List.getElem?_eq_getElem hlt]
    simp -dsimp -implicitDefEqProofs (disch := omega) only [go_sem, reqD_of, dec_t, dec_f, wrap_i64, wrap_u32, wrap_u64, wrap_u8, hd, e0, e6, hc]
    exact h1
  have hb : q = l.length → St w0 A w1 ∧ Value.tuple #[.int .u64 0, .bool false] = (match l[q]? with | some k => .tuple #[.int .u64 k, .bool true] | none => .tuple #[.int .u64 0, .bool false]) := fun e => by
    rw [List.getElem?_eq_none (by omega)]
    exact ⟨h1, rfl⟩
  by_cases ht : t ∈ l
  · rw [if_pos ht] at hq
    by_cases hz : ((i : Int) + 1) = (l.length : Int)
    · simp -dsimp -implicitDefEqProofs (disch := omega) only [go_sem, reqD_of, dec_t, dec_f, wrap_i64, wrap_u32, wrap_u64, wrap_u8, ht, hz]
      exact hb (by omega)
    · simp -dsimp -implicitDefEqProofs (disch := omega) only [go_sem, reqD_of, dec_t, dec_f, wrap_i64, wrap_u32, wrap_u64, wrap_u8, ht, hz]
      refine go _ ?_ ?_ ?_ (by omega)
      · simp -dsimp -implicitDefEqProofs only [go_sem]
      · simp -dsimp -implicitDefEqProofs only [go_sem]
      · simp -dsimp -implicitDefEqProofs only [go_sem, hq]
        first | done | omega
  · rw [if_neg ht] at hq
    by_cases hz : (i : Int) = (l.length : Int)
    · simp -dsimp -implicitDefEqProofs (disch := omega) only [go_sem, reqD_of, dec_t, dec_f, wrap_i64, wrap_u32, wrap_u64, wrap_u8, ht, hz]
      exact hb (by omega)
    · simp -dsimp -implicitDefEqProofs (disch := omega) only [go_sem, reqD_of, dec_t, dec_f, wrap_i64, wrap_u32, wrap_u64, wrap_u8, ht, hz]
      refine go _ ?_ ?_ ?_ (by omega)
      · simp -dsimp -implicitDefEqProofs only [go_sem]
      · simp -dsimp -implicitDefEqProofs only [go_sem]
      · simp -dsimp -implicitDefEqProofs only [go_sem, hq]
        first | done | omega
end
end Go.Proofs.YtijnmokpihhhcaaGreatDoor

namespace Go.Proofs.YtijnmokpihhhcaaGreatDoor
open Go
open Go.ChangeMaps (setBlock)

section
variable {κ : Type} {P : Program}

/-- The map b is gone through by the iterator r: what is left. -/
def IterP (enc : κ → Value) (b r : Nat) (l left : List (κ × Value)) : HP :=
  HP.ex fun x : Array MapEntry × Nat × Array Nat => HP.fact ((leftOf x.1 x.2.2).toList.map (fun e => (e.key, e.val)) = left.map (fun p => (enc p.1, p.2))) (MapE enc b x.1 x.2.1 l * Blk r (.mapIter (some b) x.2.1 x.2.2 x.2.1))

/-- The same behind a step that handed out k and v. -/
def IterAt (enc : κ → Value) (b r : Nat) (l left : List (κ × Value)) (k : κ) (v : Value) : HP :=
  HP.ex fun x : Array MapEntry × Nat × Array Nat × MapEntry => HP.fact ((leftOf x.1 (x.2.2.1.push x.2.2.2.born)).toList.map (fun e => (e.key, e.val)) = left.map (fun p => (enc p.1, p.2)) ∧ x.2.2.2 ∈ x.1.toList ∧ x.2.2.2.key = enc k ∧ x.2.2.2.val = v)
    (MapE enc b x.1 x.2.1 l * Blk r (.mapIter (some b) x.2.1 (x.2.2.1.push x.2.2.2.born) x.2.1))

theorem HP.ex_intro {α : Type} {A : α → HP} {B : HP} (x : α) (h : Ent B (A x)) : Ent B (HP.ex A) := h.trans (Ent.ex A x)
theorem HP.ex_elim {α : Type} {A : α → HP} {B : HP} (h : ∀ x, Ent (A x) B) : Ent (HP.ex A) B := fun hp ⟨x, a⟩ => h x hp a
theorem HP.fact_elim {p : Prop} {A B : HP} (h : p → Ent A B) : Ent (HP.fact p A) B := fun hp ⟨q, a⟩ => h q hp a

theorem IterAt.iter (enc : κ → Value) (b r : Nat) (l left : List (κ × Value)) (k : κ) (v : Value) : Ent (IterAt enc b r l left k v) (IterP enc b r l left) :=
  HP.ex_elim fun x => HP.fact_elim fun h => HP.ex_intro (x.1, x.2.1, x.2.2.1.push x.2.2.2.born) (Ent.fact h.1 _)
theorem IterP.map (enc : κ → Value) (b r : Nat) (l left : List (κ × Value)) : Ent (IterP enc b r l left) (MapP enc b l) :=
  HP.ex_elim fun x => HP.fact_elim fun _ => (Ent.left _ _).trans (MapE.shut enc b x.1 x.2.1 l)

/-- How much is left, in the world. -/
def iterLeft (b r : Nat) (w : World) : Nat :=
  match w.heap[b]?, w.heap[r]? with
  | some (.map es _), some (.mapIter _ _ seen _) => (leftOf es seen).size
  | _, _ => 0

theorem IterP.left {enc : κ → Value} {b r : Nat} {l left : List (κ × Value)} {w0 w : World} {F : HP} (h : St w0 (IterP enc b r l left * F) w) : iterLeft b r w = left.length := by
  obtain ⟨⟨es, clock, seen⟩, h⟩ := h.exF
  obtain ⟨hl, h⟩ := h.factF
  simp only at hl h
  have h' := h.ac (show _ = MapE enc b es clock l * (Blk r (.mapIter (some b) clock seen clock) * F) by ac_rfl)
  have hb := (MapE.heap h').1
  have hr := h'.sw2.blk
  simp only [iterLeft, hb, hr]
  have := congrArg List.length hl
  simpa using this

theorem St.range {enc : κ → Value} {b : Nat} {l : List (κ × Value)} {T kt et : TypeId} {w0 w : World} {F : HP} {K : Value → World → Prop} {θ : Tag K} (h : St w0 (MapP enc b l * F) w) (hu : P.underlying T = some (.map kt et))
    (hK : ∀ r w', St w0 (IterP enc b r l l * F) w' → K (.pointer (some ⟨r, 0, none⟩)) w') : semD P (kRange T (.map (some b))) w K θ := by
  show semD P (Instr.range T (.map (some b))) w K θ
  obtain ⟨es, clock, h1⟩ := MapP.open h
  obtain ⟨hb, hm⟩ := MapE.heap h1
  refine ⟨.pointer (some ⟨w.heap.size, 0, none⟩), w.alloc (.mapIter (some b) clock #[] clock), ?_, hK _ _ ?_⟩
  · simp only [Instr.range, Sem.run_bind, run_underlying' hu, Result.andThen_ok, MapKept.run_getObj_map hb, Sem.run_pure]
    rfl
  · have h2 := h1.alloc (.mapIter (some b) clock #[] clock)
    refine (h2.ac (show _ = (MapE enc b es clock l * Blk w.heap.size (.mapIter (some b) clock #[] clock)) * F by ac_rfl)).ent (Ent.sep (HP.ex_intro (es, clock, #[]) (Ent.fact ?_ _)) (Ent.rfl' F))
    simp only [leftOf]
    rw [← hm.list]
    simp only [Array.toList_filter]
    rw [List.filter_eq_self.2 (by simp)]

theorem leftOf_push {es : Array MapEntry} {seen : Array Nat} {j : Nat} (hn : (es.toList.map (·.born)).Nodup) (hj : j < (leftOf es seen).size) :
    (leftOf es (seen.push (leftOf es seen)[j].born)).toList = (leftOf es seen).toList.eraseIdx j := by
  have e1 : (leftOf es (seen.push (leftOf es seen)[j].born)).toList = (leftOf es seen).toList.filter (fun e => e.born != (leftOf es seen)[j].born) := by
    simp only [leftOf, Array.toList_filter, List.filter_filter]
    apply List.filter_congr
    intro x _
    simp only [Array.contains_push, Bool.not_or]
    rw [Bool.and_comm]
    first
      | rfl
      | (congr 1; done)
      | (congr 1; rw [Bool.eq_iff_iff]; simp)
  rw [e1]
  have hn2 : ((leftOf es seen).toList.map (·.born)).Nodup := by
    refine List.Nodup.sublist ?_ hn
    simp only [leftOf, Array.toList_filter]
    exact List.Sublist.map _ (List.filter_sublist)
  have hj' : j < (leftOf es seen).toList.length := by simpa using hj
  have hx : (leftOf es seen)[j].born = ((leftOf es seen).toList[j]).born := by simp
  rw [hx]
  clear hx e1 hj hn
  generalize (leftOf es seen).toList = L at hn2 hj'
  induction L generalizing j with
  | nil => simp at hj'
  | cons a L ih =>
    simp only [List.map_cons, List.nodup_cons] at hn2
    cases j with
    | zero =>
      simp only [List.getElem_cons_zero, List.filter_cons, bne_self_eq_false, Bool.false_eq_true, if_false, List.eraseIdx_cons_zero]
      rw [List.filter_eq_self]
      intro x hx
      simp only [bne_iff_ne, ne_eq]
      intro he
      exact hn2.1 (List.mem_map.2 ⟨x, hx, he⟩)
    | succ j =>
      simp only [List.length_cons, Nat.succ_lt_succ_iff] at hj'
      have hne : (a.born != (L[j]).born) = true := by
        simp only [bne_iff_ne, ne_eq]
        intro he
        exact hn2.1 (he ▸ List.mem_map.2 ⟨L[j], List.getElem_mem _, rfl⟩)
      simp only [List.getElem_cons_succ, List.filter_cons, hne, if_true, List.eraseIdx_cons_succ]
      rw [ih hn2.2 hj']

theorem St.next {enc : κ → Value} {b r : Nat} {l left : List (κ × Value)} {ty : TypeId} {w0 w : World} {F : HP} {K : Value → World → Prop} {θ : Tag K} (h : St w0 (IterP enc b r l left * F) w)
    (h0 : left = [] → K (.tuple #[.bool false]) w)
    (h1 : ∀ j (hj : j < left.length) w', St w0 (IterAt enc b r l (left.eraseIdx j) (left[j]).1 (left[j]).2 * F) w' → K (.tuple #[.bool true, enc (left[j]).1, (left[j]).2]) w') : semD P (kNext (.pointer (some ⟨r, 0, none⟩)) false ty) w K θ := by
  show semD P (Instr.next (.pointer (some ⟨r, 0, none⟩)) false ty) w K θ
  obtain ⟨⟨es, clock, seen⟩, h⟩ := h.exF
  obtain ⟨hl, h⟩ := h.factF
  simp only at hl h
  have h2 := h.ac (show _ = MapE enc b es clock l * (Blk r (.mapIter (some b) clock seen clock) * F) by ac_rfl)
  obtain ⟨hb, hm⟩ := MapE.heap h2
  have hr := h2.sw2.blk
  have hlen : (leftOf es seen).size = left.length := by simpa using congrArg List.length hl
  rcases run_next_at (P := P) w ty r b clock clock seen es clock hr hb hm.born (Nat.le_refl _) with ⟨hz, hrun⟩ | ⟨e, he, w1, hw1, hrun⟩
  · exact ⟨_, _, hrun, h0 (List.eq_nil_of_length_eq_zero (by omega))⟩
  · obtain ⟨j, hj, rfl⟩ := List.getElem_of_mem he
    have hj' : j < (leftOf es seen).size := by simpa using hj
    have hjl : j < left.length := by omega
    have hkv : ((leftOf es seen)[j].key, (leftOf es seen)[j].val) = (enc (left[j]).1, (left[j]).2) := by
      have := congrArg (fun l => l[j]?) hl
      simpa [hj', hjl] using this
    simp only [Prod.mk.injEq] at hkv
    refine ⟨_, _, hrun, ?_⟩
    simp only [Array.getElem_toList]
    rw [hkv.1, hkv.2]
    refine h1 j hjl _ ?_
    have h3 : St w0 (Blk r (.mapIter (some b) clock seen clock) * (MapE enc b es clock l * F)) w1 := by
      rcases hw1 with rfl | rfl
      · exact h2.sw2
      · exact h2.sw2.drew
    have h4 := h3.putObj (.mapIter (some b) clock (seen.push (leftOf es seen)[j].born) clock)
    refine (h4.ac (show _ = (MapE enc b es clock l * Blk r (.mapIter (some b) clock (seen.push (leftOf es seen)[j].born) clock)) * F by ac_rfl)).ent (Ent.sep (HP.ex_intro (es, clock, seen, (leftOf es seen)[j]) (Ent.fact ⟨?_, ?_, hkv.1, hkv.2⟩ _)) (Ent.rfl' F))
    · simp only [leftOf_push hm.nodup hj', ChangeMaps.map_eraseIdx, hl]
    · have : (leftOf es seen)[j] ∈ leftOf es seen := Array.getElem_mem _
      simp only [leftOf, Array.mem_filter] at this
      exact Array.mem_toList_iff.2 this.1

theorem St.entry {enc : κ → Value} {b r : Nat} {l left : List (κ × Value)} {k : κ} {v : Value} {w0 w : World} {F : HP} {K : Value → Prop} {θ : Tag K} (h : St w0 (IterAt enc b r l left k v * F) w)
    (hK : K (.tuple #[enc k, v])) : readR P (kEntry (.pointer (some ⟨r, 0, none⟩))) w K θ := by
  show readR P (Instr.entry (.pointer (some ⟨r, 0, none⟩))) w K θ
  obtain ⟨⟨es, clock, seen, e⟩, h⟩ := h.exF
  obtain ⟨⟨_, he, hk, hv⟩, h⟩ := h.factF
  simp only at he hk hv h
  have h2 := h.ac (show _ = MapE enc b es clock l * (Blk r (.mapIter (some b) clock (seen.push e.born) clock) * F) by ac_rfl)
  obtain ⟨hb, hm⟩ := MapE.heap h2
  have hr := h2.sw2.blk
  refine ⟨_, run_entry_at w r b clock seen es clock e hr hb he hm.nodup, ?_⟩
  rw [hk, hv]
  exact hK

end

end Go.Proofs.YtijnmokpihhhcaaGreatDoor

namespace Go.Proofs.YtijnmokpihhhcaaGreatDoor
open Go
set_option linter.unusedVariables false
instance {κ : Type} (enc : κ → Value) (b r : Nat) (l left : List (κ × Value)) : Face (.map b) (IterP enc b r l left) := ⟨⟩
instance {κ : Type} (enc : κ → Value) (b r : Nat) (l left : List (κ × Value)) (k : κ) (v : Value) : Face (.map b) (IterAt enc b r l left k v) := ⟨⟩

theorem perm_eraseIdx {α : Type} : ∀ (l : List α) (j : Nat) (hj : j < l.length), (l[j] :: l.eraseIdx j).Perm l
  | a :: l, 0, _ => .refl _
  | a :: l, j + 1, hj => by
    simp only [List.getElem_cons_succ, List.eraseIdx_cons_succ]
    exact (List.Perm.swap _ _ _).trans ((perm_eraseIdx l j (by simpa using hj)).cons a)

section
variable {κ : Type} {P : Program} {w0 w : World} {A F X : HP} {C : HP → HP} {enc : κ → Value} {b r : Nat} {l left : List (κ × Value)}

theorem St.mapNodup (h : St w0 A w) (b : Nat) [i : Hole (.map b) A (MapP enc b l) C] : (l.map (·.1)).Nodup := by
  obtain ⟨R, hR, h'⟩ := h.out (.map b)
  obtain ⟨es, clock, h2⟩ := MapP.open h'
  exact (MapE.heap h2).2.keys
theorem St.iterLeft (h : St w0 A w) (b : Nat) [i : Hole (.map b) A (IterP enc b r l left) C] : Go.Proofs.YtijnmokpihhhcaaGreatDoor.iterLeft b r w = left.length := by
  obtain ⟨R, hR, h'⟩ := h.out (.map b)
  exact IterP.left h'
theorem St.rangeH {T kt et : TypeId} {K : Value → World → Prop} {θ : Tag K} (h : St w0 A w) [i : Hole (.map b) A (MapP enc b l) C] (hu : P.underlying T = some (.map kt et))
    (hK : ∀ r w', St w0 (C (IterP enc b r l l)) w' → K (.pointer (some ⟨r, 0, none⟩)) w') : semD P (kRange T (.map (some b))) w K θ := by
  obtain ⟨R, hR, h'⟩ := h.out (.map b)
  exact h'.range hu fun r w' hw => hK r w' (by rw [hR]; exact hw)
theorem St.nextH {ty : TypeId} {K : Value → World → Prop} {θ : Tag K} (h : St w0 A w) (b : Nat) [i : Hole (.map b) A (IterP enc b r l left) C]
    (h0 : left = [] → K (.tuple #[.bool false]) w)
    (h1 : ∀ j (hj : j < left.length) w', St w0 (C (IterAt enc b r l (left.eraseIdx j) (left[j]).1 (left[j]).2)) w' → K (.tuple #[.bool true, enc (left[j]).1, (left[j]).2]) w') : semD P (kNext (.pointer (some ⟨r, 0, none⟩)) false ty) w K θ := by
  obtain ⟨R, hR, h'⟩ := h.out (.map b)
  exact h'.next h0 fun j hj w' hw => h1 j hj w' (by rw [hR]; exact hw)
theorem St.entryH {k : κ} {v : Value} {K : Value → Prop} {θ : Tag K} (h : St w0 A w) (b : Nat) [i : Hole (.map b) A (IterAt enc b r l left k v) C] (hK : K (.tuple #[enc k, v])) : readR P (kEntry (.pointer (some ⟨r, 0, none⟩))) w K θ := by
  obtain ⟨R, hR, h'⟩ := h.out (.map b)
  exact h'.entry hK
theorem St.iterDone {k : κ} {v : Value} (h : St w0 A w) (b : Nat) [i : Hole (.map b) A (IterAt enc b r l left k v) C] : St w0 (C (IterP enc b r l left)) w := h.turnTo (.map b) (IterAt.iter enc b r l left k v)
theorem St.iterEnd (h : St w0 A w) (b : Nat) [i : Hole (.map b) A (IterP enc b r l left) C] : St w0 (C (MapP enc b l)) w := h.turnTo (.map b) (IterP.map enc b r l left)

/-- A step, the entries being those of a list of one's own. -/
theorem St.nextP {α : Type} {f : α → Value} {lf : List (κ × α)} {ty : TypeId} {K : Value → World → Prop} {θ : Tag K} (h : St w0 A w) (b : Nat) [i : Hole (.map b) A (IterP enc b r l (amap f lf)) C]
    (h0 : lf = [] → K (.tuple #[.bool false]) w)
    (h1 : ∀ (x : κ × α) (rest : List (κ × α)) w', (x :: rest).Perm lf → St w0 (C (IterAt enc b r l (amap f rest) x.1 (f x.2))) w' → K (.tuple #[.bool true, enc x.1, f x.2]) w') : semD P (kNext (.pointer (some ⟨r, 0, none⟩)) false ty) w K θ := by
  refine h.nextH b (fun e => h0 (by simpa [amap] using e)) fun j hj w' hw => ?_
  have hj' : j < lf.length := by simpa [amap] using hj
  have e1 : (amap f lf)[j] = ((lf[j]).1, f (lf[j]).2) := by simp [amap]
  have e2 : (amap f lf).eraseIdx j = amap f (lf.eraseIdx j) := by simp only [amap, ChangeMaps.map_eraseIdx]
  rw [e1] at hw ⊢
  rw [e2] at hw
  exact h1 lf[j] (lf.eraseIdx j) w' (perm_eraseIdx lf j hj') hw
end
end Go.Proofs.YtijnmokpihhhcaaGreatDoor

namespace Go.Proofs.YtijnmokpihhhcaaGreatDoor
open Go
set_option linter.unusedVariables false
set_option linter.unusedSimpArgs false
set_option maxRecDepth 100000

def starL {α : Type} (A : α → HP) : List α → HP
  | [] => EmpH
  | x :: l => A x * starL A l
theorem Ent.embL (F : HP) : Ent F (EmpH * F) := fun h hf => ⟨h, hle.rfl' h, fun _ => none, h, fun _ => .inl rfl, (fun _ _ e => by cases e), hle.rfl' h, trivial, hf⟩
theorem starL_split {α : Type} (A : α → HP) (x : α) : ∀ l r : List α, starL A (l ++ x :: r) = A x * starL A (l ++ r)
  | [], r => rfl
  | y :: l, r => by
    show A y * starL A (l ++ x :: r) = A x * (A y * starL A (l ++ r))
    rw [starL_split A x l r]; ac_rfl

/-! ### A node -/

/-- A node: what it is; where; its children's list, its blocks' list; these. -/
structure NN where
  d : NodeD
  n : Nat
  vk : Value
  vb : Value
  ks : List Nat
  P : List (Option (Nat × List UInt8))

def ptrV : Option (Nat × List UInt8) → Value
  | none => .pointer none
  | some p => .pointer (some ⟨p.1, 0, none⟩)
def BlkP : Option (Nat × List UInt8) → HP
  | none => EmpH
  | some p => Blk p.1 (.cells (p.2.map bv).toArray 137 (0, 0))
abbrev RowB (vb : Value) (P : List (Option (Nat × List UInt8))) : HP := RowO 136 1 vb P.length (P.map ptrV)
/-- Blocks, and the list that leads to them. -/
def BlksP (vb : Value) (P : List (Option (Nat × List UInt8))) : HP := RowB vb P * starL BlkP P
def nodeP (x : NN) : HP := NodeB x.n 0 x.d.i x.vk x.vb * (RowU x.vk x.ks * BlksP x.vb x.P)
/-- What stands at a place. -/
def byteAt (P : List (Option (Nat × List UInt8))) (k : Nat) : UInt8 := match P[k / 256]? with
  | some (some p) => p.2.getD (k % 256) 0
  | _ => 0
structure BlksOk (P : List (Option (Nat × List UInt8))) (b : List UInt8) : Prop where
  few : P.length ≤ 256
  full : ∀ p, some p ∈ P → p.2.length = 256
  at_ : ∀ k, k < 65536 → byteAt P k = b.getD k 0

/-! ### The whole -/

abbrev encU : Int → Value := fun n => .int .u64 n
abbrev KD := Nat × List UInt8
def encK (x : KD) : Value := .agg #[.int .u64 (x.1 : Int), .string (strOf x.2)]
theorem lawU : KeyLaw Tryz.prog 34 encU := KeyLaw.int Tryz.underlying34
theorem flatKey : flatE Tryz.prog 142 = some [.int, .str] := by kernel_rfl
theorem lawK : KeyLaw Tryz.prog 142 encK := by
  refine KeyLaw.agg (enc := fun x : KD => [.int .u64 (x.1 : Int), .string (strOf x.2)]) flatKey fun x y => ?_
  obtain ⟨a, b⟩ := x
  obtain ⟨c, d⟩ := y
  simp only [leafEq, Option.map_some, strOf_toList, Bool.and_true, Option.some.injEq, Prod.mk.injEq, strEq_beq, Bool.decide_and, if_true, Int.natCast_inj]

structure SX where
  N : Nat
  C : Nat
  ov : Value
  X : List NN
  cl : List (KD × Value)
def kv (x : NN) : Int × Value := ((x.d.i.path : Int), .pointer (some ⟨x.n, 0, none⟩))
abbrev storeC (st rc : Int) (most next : Nat) (vN ov vC : Value) : Array Value := #[.int .i32 st, .int .u32 0, .int .u32 0, .int .u32 0, .int .i32 rc, .int .i32 0, .int .i64 most, .int .u64 next, vN, ov, vC]
abbrev StoreB (b : Nat) (st rc : Int) (s : SD) (y : SX) : HP := Blk b (.cells (storeC st rc s.most s.next (.map (some y.N)) y.ov (.map (some y.C))) 100 (0, 0))
abbrev StoreQ (b : Nat) (st rc : Int) (s : SD) (y : SX) : HP :=
  StoreB b st rc s y * (MapP encU y.N (y.X.map kv) * (MapP encK y.C y.cl * (RowU y.ov (s.L.map (·.i.path)) * starL nodeP y.X)))
structure StoreOk (s : SD) (y : SX) : Prop where
  wf : Wf s
  perm : (y.X.map (·.d)).Perm s.L
  kids : ∀ x ∈ y.X, x.ks = kidsF s.L x.d.i.path
  bytes : ∀ x ∈ y.X, BlksOk x.P x.d.b
  child : ∀ dir nm, lk (dir, nm) y.cl = (childF s.L dir nm).map u64V
def StoreP (b : Nat) (st rc : Int) (s : SD) : HP := HP.ex fun y => HP.fact (StoreOk s y) (StoreQ b st rc s y)

theorem StoreP.shut {b : Nat} {st rc : Int} {s : SD} {y : SX} (ok : StoreOk s y) : Ent (StoreQ b st rc s y) (StoreP b st rc s) := (Ent.fact ok _).trans (Ent.ex (fun y => HP.fact (StoreOk s y) (StoreQ b st rc s y)) y)
theorem St.storeO {w0 w : World} {A : HP} {b : Nat} {st rc : Int} {s : SD} (h : St w0 (StoreP b st rc s * A) w) : ∃ y, StoreOk s y ∧ St w0 (StoreQ b st rc s y * A) w := by
  obtain ⟨y, h⟩ := h.exF
  exact ⟨y, h.factF⟩

/-! ### Looked up -/

theorem lk_mem {κ : Type} [DecidableEq κ] {x : κ} {v : Value} : ∀ {l : List (κ × Value)}, (l.map (·.1)).Nodup → (x, v) ∈ l → lk x l = some v
  | [], _, h => by cases h
  | (y, u) :: l, hn, h => by
    simp only [List.map_cons, List.nodup_cons] at hn
    simp only [lk]
    rcases List.mem_cons.1 h with h | h
    · cases h; simp
    · have : ¬ x = y := fun e => hn.1 (e ▸ List.mem_map.2 ⟨_, h, rfl⟩)
      rw [if_neg this]
      exact lk_mem hn.2 h
theorem lk_not {κ : Type} [DecidableEq κ] {x : κ} : ∀ {l : List (κ × Value)}, x ∉ l.map (·.1) → lk x l = none
  | [], _ => rfl
  | (y, u) :: l, h => by
    simp only [List.map_cons, List.mem_cons, not_or] at h
    simp only [lk, if_neg h.1]
    exact lk_not h.2

theorem StoreOk.paths {s : SD} {y : SX} (ok : StoreOk s y) : (y.X.map (fun x => x.d.i.path)).Nodup := by
  have h1 : (s.L.map (·.i.path)).Nodup := (rise_paths.1 ok.wf.rise).imp (fun h => Nat.ne_of_lt h)
  have h2 := (ok.perm.map (fun d => d.i.path)).nodup_iff.2 h1
  rwa [List.map_map] at h2
theorem StoreOk.keys {s : SD} {y : SX} (ok : StoreOk s y) : ((y.X.map kv).map (·.1)).Nodup := by
  have := ok.paths
  rw [List.map_map]
  have h2 : (y.X.map fun x => ((x.d.i.path : Nat) : Int)).Nodup := by
    have h3 := List.Pairwise.map (fun n : Nat => (n : Int)) (R := (· ≠ ·)) (S := (· ≠ ·)) (fun a b h => by omega) this
    rwa [List.map_map] at h3
  exact h2
theorem StoreOk.len {s : SD} {y : SX} (ok : StoreOk s y) : y.X.length = s.L.length := by
  have := ok.perm.length_eq
  simpa using this

theorem StoreOk.some {s : SD} {y : SX} (ok : StoreOk s y) {p : Nat} {d : NodeD} (h : findN s.L p = some d) :
    ∃ X1 x X2, y.X = X1 ++ x :: X2 ∧ x.d = d ∧ x ∈ y.X ∧ lk (p : Int) (y.X.map kv) = .some (.pointer (.some ⟨x.n, 0, none⟩)) := by
  obtain ⟨h1, h2⟩ := find_some h
  have h3 := ok.perm.mem_iff.2 h1
  obtain ⟨x, hx, rfl⟩ := List.mem_map.1 h3
  obtain ⟨X1, X2, hs⟩ := List.append_of_mem hx
  refine ⟨X1, x, X2, hs, rfl, hx, lk_mem ok.keys (List.mem_map.2 ⟨x, hx, ?_⟩)⟩
  rw [kv, h2]
theorem StoreOk.none {s : SD} {y : SX} (ok : StoreOk s y) {p : Nat} (h : findN s.L p = none) : lk (p : Int) (y.X.map kv) = none := by
  refine lk_not fun hm => ?_
  rw [List.map_map] at hm
  obtain ⟨x, hx, he⟩ := List.mem_map.1 hm
  have : x.d.i.path = p := by
    have h2 : (x.d.i.path : Int) = p := he
    omega
  exact find_none h _ (ok.perm.mem_iff.1 (List.mem_map.2 ⟨x, hx, rfl⟩)) this
end Go.Proofs.YtijnmokpihhhcaaGreatDoor

namespace Go.Proofs.YtijnmokpihhhcaaGreatDoor
open Go
set_option linter.unusedVariables false
set_option linter.unusedSimpArgs false

abbrev BL := List (Option (Nat × List UInt8))

theorem byteAt_none {P : BL} {k : Nat} (h : P.length ≤ k / 256) : byteAt P k = 0 := by
  unfold byteAt; rw [List.getElem?_eq_none h]
theorem byteAt_set {P : BL} {q : Nat} {a : Nat} {bs : List UInt8} (hq : q < P.length) (k : Nat) : byteAt (P.set q (some (a, bs))) k = if k / 256 = q then bs.getD (k % 256) 0 else byteAt P k := by
  unfold byteAt
  by_cases e : k / 256 = q
  · rw [e, List.getElem?_set_self (by omega), if_pos rfl]
  · rw [List.getElem?_set_ne (fun h => e h.symm), if_neg e]
theorem byteAt_some {P : BL} {q : Nat} {a : Nat} {bs : List UInt8} (hq : P[q]? = some (some (a, bs))) {k : Nat} (hk : k / 256 = q) : byteAt P k = bs.getD (k % 256) 0 := by
  unfold byteAt; rw [hk, hq]
theorem byteAt_nil {P : BL} {q : Nat} (hq : P[q]? = some none) {k : Nat} (hk : k / 256 = q) : byteAt P k = 0 := by
  unfold byteAt; rw [hk, hq]
theorem byteAt_take {P : BL} {n k : Nat} : byteAt (P.take n) k = if k / 256 < n then byteAt P k else 0 := by
  unfold byteAt
  rw [List.getElem?_take]
  by_cases h : k / 256 < n
  · rw [if_pos h, if_pos h]
  · rw [if_neg h, if_neg h]
theorem byteAt_app {P : BL} {n k : Nat} : byteAt (P ++ List.replicate n none) k = byteAt P k := by
  unfold byteAt
  rcases Nat.lt_or_ge (k / 256) P.length with h | h
  · rw [List.getElem?_append_left h]
  · rw [List.getElem?_append_right h, List.getElem?_eq_none (l := P) h, List.getElem?_replicate]
    split <;> (first | rfl | (rename_i h2; split at h2 <;> simp_all))

/-- The bytes of a block behind a place are noughts. -/
def zeroF (bs : List UInt8) (p : Nat) : List UInt8 := bs.take p ++ List.replicate (256 - p) 0
theorem zeroF_len {bs : List UInt8} {p : Nat} (h : bs.length = 256) (hp : p ≤ 256) : (zeroF bs p).length = 256 := by simp [zeroF]; omega
theorem zeroF_get {bs : List UInt8} {p : Nat} (h : bs.length = 256) (hp : p ≤ 256) (j : Nat) : (zeroF bs p).getD j 0 = if j < p then bs.getD j 0 else 0 := by
  unfold zeroF
  simp only [List.getD_eq_getElem?_getD]
  rcases Nat.lt_or_ge j p with h1 | h1
  · rw [if_pos h1, List.getElem?_append_left (by simp; omega), List.getElem?_take_of_lt h1]
  · rw [if_neg (by omega), List.getElem?_append_right (by simp; omega), List.getElem?_replicate]
    split <;> rfl
/-- Bytes in a block are written over. -/
def overF (bs : List UInt8) (p : Nat) (d : List UInt8) : List UInt8 := bs.take p ++ d ++ bs.drop (p + d.length)
theorem overF_len {bs d : List UInt8} {p : Nat} (h : p + d.length ≤ bs.length) : (overF bs p d).length = bs.length := by simp [overF]; omega
theorem overF_get {bs d : List UInt8} {p : Nat} (h : p + d.length ≤ bs.length) (j : Nat) : (overF bs p d).getD j 0 = if p ≤ j ∧ j < p + d.length then d.getD (j - p) 0 else bs.getD j 0 := by
  unfold overF
  simp only [List.getD_eq_getElem?_getD]
  rcases Nat.lt_or_ge j p with h1 | h1
  · rw [if_neg (by omega), List.append_assoc, List.getElem?_append_left (by simp; omega), List.getElem?_take_of_lt h1]
  · rcases Nat.lt_or_ge j (p + d.length) with h2 | h2
    · rw [if_pos ⟨h1, h2⟩, List.append_assoc, List.getElem?_append_right (by simp; omega), List.getElem?_append_left (by simp; omega)]
      congr 2
      simp; omega
    · rw [if_neg (by omega), List.getElem?_append_right (by simp; omega), List.getElem?_drop]
      congr 2
      simp; omega

theorem mem_set {P : BL} {q : Nat} {x y : Option (Nat × List UInt8)} (h : y ∈ P.set q x) : y = x ∨ y ∈ P := by
  rcases List.mem_or_eq_of_mem_set h with h | h
  · exact .inr h
  · exact .inl h

/-- A cut. -/
theorem BlksOk.cut {P P' : BL} {b : List UInt8} (ok : BlksOk P b) {k W : Nat} (hk : k ≤ 65536)
    (hP : (W = k / 256 ∧ P' = P ∧ (k % 256 = 0 ∨ P.length ≤ k / 256)) ∨ (W = k / 256 + 1 ∧ 0 < k % 256 ∧ k / 256 < P.length ∧ ((P[k / 256]? = some none ∧ P' = P) ∨ ∃ a bs, P[k / 256]? = some (some (a, bs)) ∧ P' = P.set (k / 256) (some (a, zeroF bs (k % 256)))))) :
    BlksOk (P'.take W) (padF b k) := by
  have hlen : P'.length = P.length := by
    rcases hP with ⟨_, rfl, _⟩ | ⟨_, _, _, ⟨_, rfl⟩ | ⟨a, bs, _, rfl⟩⟩ <;> simp
  refine ⟨by rw [List.length_take, hlen]; have := ok.few; omega, fun p hp => ?_, fun j hj => ?_⟩
  · have hp := List.mem_of_mem_take hp
    rcases hP with ⟨_, rfl, _⟩ | ⟨_, _, _, ⟨_, rfl⟩ | ⟨a, bs, hb, rfl⟩⟩
    · exact ok.full p hp
    · exact ok.full p hp
    · rcases mem_set hp with h | h
      · simp only [Option.some.injEq] at h
        subst h
        exact zeroF_len (ok.full (a, bs) (List.mem_of_getElem? hb)) (by omega)
      · exact ok.full p h
  · rw [padF_get, byteAt_take]
    have hj' := ok.at_ j hj
    rcases hP with ⟨rfl, rfl, hz⟩ | ⟨rfl, h0, hq, ⟨hn, rfl⟩ | ⟨a, bs, hb, rfl⟩⟩
    · by_cases h1 : j / 256 < k / 256
      · rw [if_pos h1, if_pos (by omega), hj']
      · rw [if_neg h1]
        split
        · rename_i h2
          rcases hz with hz | hz
          · omega
          · rw [← hj', byteAt_none (by omega)]
        · rfl
    · by_cases h1 : j / 256 < k / 256 + 1
      · rw [if_pos h1, hj']
        split
        · rfl
        · rw [← hj', byteAt_nil hn (by omega)]
      · rw [if_neg h1, if_neg (by omega)]
    · by_cases h1 : j / 256 < k / 256 + 1
      · rw [if_pos h1, byteAt_set hq]
        by_cases h2 : j / 256 = k / 256
        · rw [if_pos h2, zeroF_get (ok.full (a, bs) (List.mem_of_getElem? hb)) (by omega)]
          have := byteAt_some hb h2
          by_cases h3 : j < k
          · rw [if_pos (by omega), if_pos h3, ← this, hj']
          · rw [if_neg (by omega), if_neg h3]
        · rw [if_neg h2, if_pos (by omega), hj']
      · rw [if_neg h1, if_neg (by omega)]

/-- Bytes within one block. -/
theorem BlksOk.lay {P : BL} {b d : List UInt8} (ok : BlksOk P b) {off : Nat} (h1 : off % 256 + d.length ≤ 256) (h0 : d ≠ []) (h2 : off + d.length ≤ 65536) {a : Nat} {bs : List UInt8}
    {n : Nat} (hn : off / 256 < (P ++ List.replicate n none).length) (hl : (P ++ List.replicate n none).length ≤ 256) (hb : (P[off / 256]? = some (some (a, bs))) ∨ ((P ++ List.replicate n none)[off / 256]? = some none ∧ bs = List.replicate 256 0)) :
    BlksOk ((P ++ List.replicate n none).set (off / 256) (some (a, overF bs (off % 256) d))) (layF b off d) := by
  have d0 : 0 < d.length := List.length_pos_iff.2 h0
  have hbs : bs.length = 256 := by
    rcases hb with hb | ⟨_, rfl⟩
    · exact ok.full (a, bs) (List.mem_of_getElem? hb)
    · exact List.length_replicate
  refine ⟨by rw [List.length_set]; exact hl, fun p hp => ?_, fun j hj => ?_⟩
  · rcases mem_set hp with h | h
    · simp only [Option.some.injEq] at h
      subst h
      show (overF bs (off % 256) d).length = 256
      rw [overF_len (by omega), hbs]
    · rcases List.mem_append.1 h with h | h
      · exact ok.full p h
      · have := (List.mem_replicate.1 h).2
        cases this
  · rw [byteAt_set hn, layF_get, byteAt_app, ok.at_ j hj]
    by_cases e : j / 256 = off / 256
    · rw [if_pos e, overF_get (by omega)]
      have hby : bs.getD (j % 256) 0 = b.getD j 0 := by
        rw [← ok.at_ j hj]
        rcases hb with hb | ⟨hb, rfl⟩
        · exact (byteAt_some hb e).symm
        · rw [← byteAt_app (n := n), byteAt_nil hb e, List.getD_eq_getElem?_getD, List.getElem?_replicate]
          split <;> rfl
      rw [hby]
      by_cases h3 : off ≤ j ∧ j < off + d.length
      · rw [if_pos (by omega), if_pos h3]
        congr 1
        omega
      · rw [if_neg (by omega), if_neg h3]
    · rw [if_neg e, if_neg (by omega)]
end Go.Proofs.YtijnmokpihhhcaaGreatDoor

namespace Go.Proofs.YtijnmokpihhhcaaGreatDoor
open Go
set_option linter.unusedVariables false

section
variable {P : Program} {w0 w : World} {A F : HP} {C : HP → HP}

theorem St.setCells {g : Nat} {cur : Array Value} {T : TypeId} {fr : Nat × Nat} (h : St w0 (Blk g (.cells cur T fr) * F) w) (o : Nat) (vs : List Value) :
    St w0 (Blk g (.cells (setRowL cur.toList o vs).toArray T fr) * F) (w.setCells g o vs) := by
  obtain ⟨a1, a2, a3, a4, a5, a6⟩ := heap_setCells g T fr vs o w cur h.blk
  exact h.blk_turn a4 a5 a6 (by omega) a1 fun k hk _ => a2 k hk

/-- copy into a block, from whatever reads as a row. -/
theorem St.copyH {g o dl dc n : Nat} {cur : Array Value} {T dT sT ty elem : TypeId} {v : Value} {xs : List Value} {K : Value → World → Prop} {θ : Tag K}
    (h : St w0 A w) [i : Hole (.blk g) A (Blk g (.cells cur T (0, 0))) C] (hu : P.underlying dT = some (.slice elem)) (hs : (P.info? elem).map (·.size) = some 1)
    (hr : Rd 1 v n xs w) (hc : ∀ u ∈ xs, isCell u = true) (hfit : o + min n dl ≤ cur.size)
    (hK : ∀ w', St w0 (C (Blk g (.cells (setRowL cur.toList o (xs.take dl)).toArray T (0, 0)))) w' → K (.int .i64 (min n dl : Nat)) w') :
    semD P (kCopy #[dT, sT] ty #[.slice (some ⟨g, o, none⟩) dl dc, v]) w K θ := by
  obtain ⟨R, hR, h'⟩ := h.out (.blk g)
  obtain ⟨hl, a, c, rfl, hnc, hx⟩ := hr
  have hn : xs.length = n := by omega
  have hgw := h'.blk
  show semD P (Builtin.copy_ #[dT, sT] ty #[.slice (some ⟨g, o, none⟩) dl dc, .slice a n c]) w K θ
  rcases hx with rfl | ⟨b, q, rfl, hj⟩
  · have h0 : n = 0 := by simpa using hn.symm
    subst h0
    refine ⟨.int .i64 0, w, run_copy_none w dT sT ty elem _ _ dl dc 0 c hu hs (by simp), ?_⟩
    have := hK w (by rw [hR]; simpa [setRowL] using h')
    simpa using this
  · have hlen : (xs.take dl).length = Nat.min n dl := by rw [List.length_take, hn]; exact Nat.min_comm _ _
    have hmin : Nat.min n dl = min n dl := rfl
    refine ⟨.int .i64 (min n dl : Nat), w.setCells g o (xs.take dl), ?_, hK _ (by rw [hR]; exact h'.setCells o _)⟩
    rw [run_copy_cells (P := P) w dT sT ty elem g o dl dc ⟨b, q, none⟩ n c (xs.take dl) hu hs hlen (fun j u hu' => ?_) (fun j hj' => ?_) (fun j hj' => frozen_of_heap hgw _) fun u hu' => by rw [← isCell_eq]; exact hc u (List.mem_of_mem_take hu')]
    · rw [hlen]; rfl
    · rw [List.getElem?_take] at hu'
      split at hu'
      · have hjl : j < xs.length := by
          rcases Nat.lt_or_ge j xs.length with h1 | h1
          · exact h1
          · rw [List.getElem?_eq_none h1] at hu'; cases hu'
        have : (⟨b, q, none⟩ : Addr).add j = ⟨b, q + j, none⟩ := by unfold Addr.add; split <;> simp_all
        rw [this, hj j hjl, hu']
      · cases hu'
    · rw [cell_of_heap hgw]
      have : o + j < cur.size := by omega
      simp [this]

/-- clear of a part of a block. -/
theorem St.clearB {t ty e bs g o m c : Nat} {z : Value} {cur : Array Value} {T : TypeId} {K : Value → World → Prop} {θ : Tag K}
    (h : St w0 A w) [i : Hole (.blk g) A (Blk g (.cells cur T (0, 0))) C] (ht : rowTy P t = some (e, 1, bs, [z])) (hz : isCell z = true) (hm0 : 0 < m) (hfit : o + m ≤ cur.size)
    (hK : ∀ w', St w0 (C (Blk g (.cells (setRowL cur.toList o (List.replicate m z)).toArray T (0, 0)))) w' → K (.tuple #[]) w') :
    semD P (kClear #[t] ty #[.slice (some ⟨g, o, none⟩) m c]) w K θ := by
  obtain ⟨R, hR, h'⟩ := h.out (.blk g)
  show semD P (Builtin.clear_ #[t] ty #[.slice (some ⟨g, o, none⟩) m c]) w K θ
  obtain ⟨hu, i, z', hi, hzz, _, _, _, hzl⟩ := rowTy_some ht
  have hgw := h'.blk
  have hzero : (zeroValue e).run P w = .ok z' w := by
    simp only [zeroValue, Sem.run_bind, run_typeInfo' hi, hzz, Result.andThen_ok]; rfl
  have hrep : (Builtin.zeroCells z'.cells m).toList = List.replicate m z := by
    have h2 : z'.cells = #[z] := by rw [← Array.toList_inj]; exact hzl
    rw [h2]
    apply List.ext_getElem
    · simp [Builtin.zeroCells]
    · intro k hk _
      simp [Builtin.zeroCells, Nat.mod_one]
  obtain ⟨m', rfl⟩ : ∃ m', m = m' + 1 := ⟨m - 1, by omega⟩
  have hst := run_storeCells_cells (P := P) g o (List.replicate (m' + 1) z) 0 w (fun j hj => by rw [cell_of_heap hgw]; simp at hj ⊢; omega) (fun j _ => frozen_of_heap hgw _) (fun v hv => by rw [← isCell_eq, (List.mem_replicate.1 hv).2]; exact hz)
  simp only [Nat.add_zero] at hst
  refine ⟨.tuple #[], w.setCells g o (List.replicate (m' + 1) z), ?_, hK _ (by rw [hR]; exact h'.setCells o _)⟩
  simp [Builtin.clear_, run_underlying hu, hzero, hrep, hst]
end

section
variable {P : Program} {w0 w : World} {A F : HP} {C : HP → HP}
/-- copy into a row of one's own. -/
theorem St.copyRow {g o k n c dl dc m : Nat} {T dT sT ty elem : TypeId} {v : Value} {xs ys : List Value} {K : Value → World → Prop} {θ : Tag K}
    (h : St w0 A w) [i : Hole (.row (.slice (some ⟨g, o, none⟩) n c)) A (RowO T 1 (.slice (some ⟨g, o, none⟩) n c) n xs) C] (hu : P.underlying dT = some (.slice elem)) (hs : (P.info? elem).map (·.size) = some 1)
    (hr : Rd 1 v m ys w) (hc : ∀ u ∈ ys, isCell u = true) (hfit : k + min m dl ≤ n)
    (hK : ∀ w', St w0 (C (RowO T 1 (.slice (some ⟨g, o, none⟩) n c) n (setRowL xs k (ys.take dl)))) w' → K (.int .i64 (min m dl : Nat)) w') :
    semD P (kCopy #[dT, sT] ty #[.slice (some ⟨g, o + k, none⟩) dl dc, v]) w K θ := by
  obtain ⟨R, hR, h'⟩ := h.out (.row (.slice (some ⟨g, o, none⟩) n c))
  obtain ⟨cur, h'⟩ := (h'.ent (Ent.sep (RowO.openE T 1 g o n c xs) (Ent.rfl' R))).exF
  obtain ⟨⟨a1, a2, a3, a4, a5⟩, h'⟩ := h'.factF
  have hyl := hr.length
  have htl : (ys.take dl).length = min m dl := by rw [List.length_take]; omega
  refine h'.copyH hu hs hr hc (by omega) fun w' hw => hK w' ?_
  rw [hR]
  refine hw.ent (Ent.sep (RowO.shutE ⟨a1, a2, ?_, ?_, ?_⟩) (Ent.rfl' R))
  · simpa [length_setRowL] using a3
  · rw [List.toList_toArray, setRowL_part (by omega) (by simp only [Array.length_toList]; omega), a4]
  · rw [length_setRowL, a5]
/-- clear of a part of a row of one's own. -/
theorem St.clearRow {t ty e bs g o k n c m mc : Nat} {T : TypeId} {z : Value} {xs : List Value} {K : Value → World → Prop} {θ : Tag K}
    (h : St w0 A w) [i : Hole (.row (.slice (some ⟨g, o, none⟩) n c)) A (RowO T 1 (.slice (some ⟨g, o, none⟩) n c) n xs) C] (ht : rowTy P t = some (e, 1, bs, [z])) (hz : isCell z = true) (hm0 : 0 < m) (hfit : k + m ≤ n)
    (hK : ∀ w', St w0 (C (RowO T 1 (.slice (some ⟨g, o, none⟩) n c) n (setRowL xs k (List.replicate m z)))) w' → K (.tuple #[]) w') :
    semD P (kClear #[t] ty #[.slice (some ⟨g, o + k, none⟩) m mc]) w K θ := by
  obtain ⟨R, hR, h'⟩ := h.out (.row (.slice (some ⟨g, o, none⟩) n c))
  obtain ⟨cur, h'⟩ := (h'.ent (Ent.sep (RowO.openE T 1 g o n c xs) (Ent.rfl' R))).exF
  obtain ⟨⟨a1, a2, a3, a4, a5⟩, h'⟩ := h'.factF
  have htl : (List.replicate m z).length = m := List.length_replicate
  refine h'.clearB ht hz hm0 (by omega) fun w' hw => hK w' ?_
  rw [hR]
  refine hw.ent (Ent.sep (RowO.shutE ⟨a1, a2, ?_, ?_, ?_⟩) (Ent.rfl' R))
  · simpa [length_setRowL] using a3
  · rw [List.toList_toArray, setRowL_part (by omega) (by simp only [Array.length_toList]; omega), a4]
  · rw [length_setRowL, a5]
end
end Go.Proofs.YtijnmokpihhhcaaGreatDoor

namespace Go.Proofs.YtijnmokpihhhcaaGreatDoor
open Go
set_option linter.unusedVariables false
set_option linter.unusedSimpArgs false
set_option maxRecDepth 100000

section
variable {w0 w : World} {A : HP} {b : Nat} {s : SD} {y : SX}
theorem rlockS (h : St w0 (StoreQ b 0 0 s y * A) w) : Calls Tryz.prog 30 #[.pointer (some ⟨b, 0, none⟩)] w fun e w' => St w0 (StoreQ b 0 1 s y * A) w' ∧ e = .returned (.tuple #[]) :=
  rlockH (b := b) (rc := 0) (arr := storeC 0 0 s.most s.next (.map (some y.N)) y.ov (.map (some y.C))) h rfl rfl rfl ⟨by decide, by decide⟩
theorem runlockS (h : St w0 (StoreQ b 0 1 s y * A) w) {ds : List Deferred} {K : FrameMode → World → Prop} (hK : ∀ w', St w0 (StoreQ b 0 0 s y * A) w' → leaveD Tryz.prog ds .returning w' K) :
    leaveD Tryz.prog ({ target := .fn (.func 31) #[], args := #[.pointer (some ⟨b, 0, none⟩)] } :: ds) .returning w K :=
  runlockL (rc := 0) h rfl rfl rfl ⟨by decide, by decide⟩ hK
theorem wlockS (h : St w0 (StoreQ b 0 0 s y * A) w) : Calls Tryz.prog 63 #[.pointer (some ⟨b, 0, none⟩)] w fun e w' => St w0 (StoreQ b 1 (-1073741824) s y * A) w' ∧ e = .returned (.tuple #[]) :=
  wlockH (b := b) (arr := storeC 0 0 s.most s.next (.map (some y.N)) y.ov (.map (some y.C))) h rfl rfl rfl rfl
theorem wunlockS (h : St w0 (StoreQ b 1 (-1073741824) s y * A) w) {ds : List Deferred} {K : FrameMode → World → Prop} (hK : ∀ w', St w0 (StoreQ b 0 0 s y * A) w' → leaveD Tryz.prog ds .returning w' K) :
    leaveD Tryz.prog ({ target := .fn (.func 64) #[], args := #[.pointer (some ⟨b, 0, none⟩)] } :: ds) .returning w K :=
  wunlockL h rfl rfl rfl rfl hK
end

/-! ### Ends -/
section
variable {P : Program} {e : FA} {R : Ending → World → Prop} {w : World}
theorem endT1 {t : Nat} (h : R (.returned (e.ρ t)) w) : leaveD P [] .returning w (endM P #[.tmp t] e R) := ⟨_, fin1, h⟩
theorem endT2 {t u : Nat} (h : R (.returned (.tuple #[e.ρ t, e.ρ u])) w) : leaveD P [] .returning w (endM P #[.tmp t, .tmp u] e R) := ⟨_, fin2, h⟩
theorem endC2 {t u n : Nat} {T : TypeId} {a : Addr} {v : Value} (hx : e.ρ t = .pointer (some a)) (hs : aggSz P T = some (some n)) (hv : rowV w a n = some v) (h : R (.returned (.tuple #[v, e.ρ u])) w) : leaveD P [] .returning w (endM P #[.cell t T, .tmp u] e R) :=
  resC_2 hx (run_loadVar_row hs hv) h
end


theorem next_any {w0 w : World} {A : HP} {b : Nat} {s : SD} (h : St w0 (StoreP b 0 0 s * A) w) :
    Calls Tryz.prog 22 #[.pointer (some ⟨b, 0, none⟩)] w fun e w' => St w0 (StoreP b 0 0 s * A) w' ∧ e = .returned (.int .u64 s.next) := by
  obtain ⟨y, ok, h⟩ := h.storeO
  refine calls_of_cwM (types := Tryz.prog.types) follows Tryz.func22 F22.code rfl (by kernel_rfl) (by show 1 ≤ 14; decide) ?_
  show cwE _ _ (fnM _ #[.tmp 2] _) _ _
  unfold F22.code
  simp -dsimp -implicitDefEqProofs (disch := omega) only [go_sem, reqD_of, dec_t, dec_f, wrap_i64, wrap_u32, wrap_u64, wrap_u8]
  refine (rlockS h).mono ?_
  rintro e w1 ⟨h1, rfl⟩
  simp -dsimp -implicitDefEqProofs (disch := omega) only [go_sem, reqD_of, dec_t, dec_f, wrap_i64, wrap_u32, wrap_u64, wrap_u8]
  refine deferF_of ?_
  simp -dsimp -implicitDefEqProofs (disch := omega) only [go_sem, reqD_of, dec_t, dec_f, wrap_i64, wrap_u32, wrap_u64, wrap_u8, h1.cl b]
  refine runlockS h1 fun w2 h2 => ?_
  refine endT1 ⟨h2.ent (Ent.sep (StoreP.shut ok) (Ent.rfl' A)), ?_⟩
  simp -dsimp -implicitDefEqProofs only [go_sem]

theorem count_any {w0 w : World} {A : HP} {b : Nat} {s : SD} (h : St w0 (StoreP b 0 0 s * A) w) :
    Calls Tryz.prog 26 #[.pointer (some ⟨b, 0, none⟩)] w fun e w' => St w0 (StoreP b 0 0 s * A) w' ∧ e = .returned (.int .i64 s.L.length) := by
  obtain ⟨y, ok, h⟩ := h.storeO
  refine calls_of_cwM (types := Tryz.prog.types) follows Tryz.func26 F26.code rfl (by kernel_rfl) (by show 1 ≤ 15; decide) ?_
  show cwE _ _ (fnM _ #[.tmp 2] _) _ _
  unfold F26.code
  simp -dsimp -implicitDefEqProofs (disch := omega) only [go_sem, reqD_of, dec_t, dec_f, wrap_i64, wrap_u32, wrap_u64, wrap_u8]
  refine (rlockS h).mono ?_
  rintro e w1 ⟨h1, rfl⟩
  simp -dsimp -implicitDefEqProofs (disch := omega) only [go_sem, reqD_of, dec_t, dec_f, wrap_i64, wrap_u32, wrap_u64, wrap_u8]
  refine deferF_of ?_
  simp -dsimp -implicitDefEqProofs (disch := omega) only [go_sem, reqD_of, dec_t, dec_f, wrap_i64, wrap_u32, wrap_u64, wrap_u8, h1.cl b]
  refine h1.lenH (b := y.N) Tryz.underlying96 ?_
  rw [List.length_map, ok.len]
  simp -dsimp -implicitDefEqProofs (disch := omega) only [go_sem, reqD_of, dec_t, dec_f, wrap_i64, wrap_u32, wrap_u64, wrap_u8]
  refine runlockS h1 fun w2 h2 => ?_
  refine endT1 ⟨h2.ent (Ent.sep (StoreP.shut ok) (Ent.rfl' A)), ?_⟩
  simp -dsimp -implicitDefEqProofs only [go_sem]

theorem child_any {w0 w : World} {A : HP} {b : Nat} {s : SD} (h : St w0 (StoreP b 0 0 s * A) w) {p : Nat} {nm : List UInt8} :
    Calls Tryz.prog 51 #[.pointer (some ⟨b, 0, none⟩), .int .u64 p, .string (strOf nm)] w fun e w' => St w0 (StoreP b 0 0 s * A) w' ∧ e = .returned (match childF s.L p nm with | some q => .tuple #[.int .u64 q, .bool true] | none => .tuple #[.int .u64 0, .bool false]) := by
  obtain ⟨y, ok, h⟩ := h.storeO
  refine calls_of_cwM (types := Tryz.prog.types) follows Tryz.func51 F51.code rfl (by kernel_rfl) (by show 3 ≤ 30; decide) ?_
  show cwE _ _ (fnM _ #[.tmp 6, .tmp 7] _) _ _
  unfold F51.code
  simp -dsimp -implicitDefEqProofs (disch := omega) only [go_sem, reqD_of, dec_t, dec_f, wrap_i64, wrap_u32, wrap_u64, wrap_u8]
  refine (rlockS h).mono ?_
  rintro e w1 ⟨h1, rfl⟩
  simp -dsimp -implicitDefEqProofs (disch := omega) only [go_sem, reqD_of, dec_t, dec_f, wrap_i64, wrap_u32, wrap_u64, wrap_u8]
  refine deferF_of ?_
  simp -dsimp -implicitDefEqProofs (disch := omega) only [go_sem, reqD_of, dec_t, dec_f, wrap_i64, wrap_u32, wrap_u64, wrap_u8, h1.cl b]
  refine onV_of (v := encK (p, nm)) (by kernel_rfl) ?_
  simp -dsimp -implicitDefEqProofs (disch := omega) only [go_sem, reqD_of, dec_t, dec_f, wrap_i64, wrap_u32, wrap_u64, wrap_u8]
  refine h1.lkH (b := y.C) (x := (p, nm)) Tryz.underlying98 lawK (z := .int .u64 0) (by kernel_rfl) ?_
  rw [ok.child]
  cases hc : childF s.L p nm with
  | none =>
    simp only [Option.map_none]
    simp -dsimp -implicitDefEqProofs (disch := omega) only [go_sem, reqD_of, dec_t, dec_f, wrap_i64, wrap_u32, wrap_u64, wrap_u8, lkV]
    refine runlockS h1 fun w2 h2 => ?_
    refine endT2 ⟨h2.ent (Ent.sep (StoreP.shut ok) (Ent.rfl' A)), ?_⟩
    simp -dsimp -implicitDefEqProofs only [go_sem]
  | some q =>
    simp only [Option.map_some]
    simp -dsimp -implicitDefEqProofs (disch := omega) only [go_sem, reqD_of, dec_t, dec_f, wrap_i64, wrap_u32, wrap_u64, wrap_u8, lkV]
    refine runlockS h1 fun w2 h2 => ?_
    refine endT2 ⟨h2.ent (Ent.sep (StoreP.shut ok) (Ent.rfl' A)), ?_⟩
    simp -dsimp -implicitDefEqProofs only [go_sem]
end Go.Proofs.YtijnmokpihhhcaaGreatDoor

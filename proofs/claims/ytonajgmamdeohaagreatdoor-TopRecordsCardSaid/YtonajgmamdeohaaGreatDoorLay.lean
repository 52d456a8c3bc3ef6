/- The library's sorts and their like, laid at this program (by the kit's own command, in plain words). -/
import Derived.Shelf.Unicode.DecodeAny
import Derived.Test.YtonajgmamdeohaaGreatDoorProg
import Derived.KernelRfl
namespace Go.Proofs.YtonajgmamdeohaaGreatDoor
open Go.Shelf
set_option maxRecDepth 100000

def layDecode_ren : Go.Shelf.Ren := ⟨fun | 197 => 59 | 260 => 112 | n => n, fun | 9 => 9 | 21 => 21 | 3 => 3 | 4 => 4 | 5 => 5 | 105 => 108 | 119 => 158 | 0 => 0 | 46 => 42 | 139 => 161 | 138 => 160 | n => n, fun | 3 => 0 | 4 => 1 | n => n⟩

theorem layDecode : Go.Proofs.Lays.n197 Tryz.prog layDecode_ren := {
  mixed := by kernel_rfl,
  f197 := Tryz.func59.trans (congrArg some (by kernel_rfl)),
  f260 := Tryz.func112.trans (congrArg some (by kernel_rfl)),
  t0 := Tryz.underlying0,
  a0 := Tryz.isAgg0,
  z0 := Tryz.sizeOf0,
  v0 := Tryz.zeroValue0,
  t3 := Tryz.underlying3,
  a3 := Tryz.isAgg3,
  z3 := Tryz.sizeOf3,
  v3 := Tryz.zeroValue3,
  t4 := Tryz.underlying4,
  a4 := Tryz.isAgg4,
  z4 := Tryz.sizeOf4,
  v4 := Tryz.zeroValue4,
  t5 := Tryz.underlying5,
  a5 := Tryz.isAgg5,
  z5 := Tryz.sizeOf5,
  v5 := Tryz.zeroValue5,
  t9 := Tryz.underlying9,
  a9 := Tryz.isAgg9,
  z9 := Tryz.sizeOf9,
  v9 := Tryz.zeroValue9,
  t21 := Tryz.underlying21,
  a21 := Tryz.isAgg21,
  z21 := Tryz.sizeOf21,
  v21 := Tryz.zeroValue21,
  t46 := Tryz.underlying42,
  a46 := Tryz.isAgg42,
  z46 := Tryz.sizeOf42,
  v46 := Tryz.zeroValue42,
  t105 := Tryz.underlying108,
  a105 := Tryz.isAgg108,
  z105 := Tryz.sizeOf108,
  v105 := Tryz.zeroValue108,
  t119 := Tryz.underlying158,
  a119 := Tryz.isAgg158,
  z119 := Tryz.sizeOf158,
  t138 := Tryz.underlying160,
  a138 := Tryz.isAgg160,
  z138 := Tryz.sizeOf160,
  v138 := Tryz.zeroValue160,
  t139 := Tryz.underlying161,
  a139 := Tryz.isAgg161,
  z139 := Tryz.sizeOf161,
  v139 := Tryz.zeroValue161,
  g3 := by kernel_rfl,
  g4 := by kernel_rfl }

end Go.Proofs.YtonajgmamdeohaaGreatDoor

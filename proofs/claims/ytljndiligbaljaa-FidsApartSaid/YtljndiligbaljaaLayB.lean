/- The library's sorts and their like, laid at this program (by the kit's own command, in plain words). -/
import Derived.Shelf.Small.Bits
import Derived.Test.YtljndiligbaljaaProg
import Derived.KernelRfl
namespace Go.Proofs.Ytljndiligbaljaa
open Go.Shelf
set_option maxRecDepth 100000

def bitsLenL_ren : Go.Shelf.Ren := ⟨fun | 125 => 76 | 128 => 86 | 129 => 87 | n => n, fun | 46 => 112 | 3 => 3 | 51 => 35 | 53 => 37 | 4 => 4 | 5 => 5 | 9 => 9 | n => n, fun | n => n⟩

theorem bitsLenL : Go.Proofs.Lays.n125 Try.prog bitsLenL_ren := {
  mixed := by kernel_rfl,
  f125 := Try.func76.trans (congrArg some (by kernel_rfl)),
  f128 := Try.func86.trans (congrArg some (by kernel_rfl)),
  f129 := Try.func87.trans (congrArg some (by kernel_rfl)),
  t3 := Try.underlying3,
  a3 := Try.isAgg3,
  z3 := Try.sizeOf3,
  v3 := Try.zeroValue3,
  t4 := Try.underlying4,
  a4 := Try.isAgg4,
  z4 := Try.sizeOf4,
  v4 := Try.zeroValue4,
  t5 := Try.underlying5,
  a5 := Try.isAgg5,
  z5 := Try.sizeOf5,
  v5 := Try.zeroValue5,
  t9 := Try.underlying9,
  a9 := Try.isAgg9,
  z9 := Try.sizeOf9,
  v9 := Try.zeroValue9,
  t46 := Try.underlying112,
  a46 := Try.isAgg112,
  z46 := Try.sizeOf112,
  v46 := Try.zeroValue112,
  t51 := Try.underlying35,
  a51 := Try.isAgg35,
  z51 := Try.sizeOf35,
  v51 := Try.zeroValue35,
  t53 := Try.underlying37,
  a53 := Try.isAgg37,
  z53 := Try.sizeOf37,
  v53 := Try.zeroValue37 }

end Go.Proofs.Ytljndiligbaljaa

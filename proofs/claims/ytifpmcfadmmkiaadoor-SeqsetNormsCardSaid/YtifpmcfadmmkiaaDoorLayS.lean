/- The library functions slices.nextPowerOfTwo and xorshift.Next: what of them the proofs ask, laid at this program. -/
import Derived.Shelf.SlSortCmp.Xorshift
import Derived.Test.YtifpmcfadmmkiaaDoorProg
namespace Go.Proofs
open Go.Shelf
def Tryd.nptL_ren : Go.Shelf.Ren := ⟨fun | 47 => 84 | 15 => 50 | 28 => 68 | 29 => 69 | n => n, fun | 3 => 3 | 39 => 77 | 53 => 95 | 55 => 35 | 4 => 4 | 5 => 5 | 9 => 9 | n => n, fun | n => n⟩
theorem Tryd.nptL : Go.Proofs.SlLaysF0.n47 Tryd.prog Tryd.nptL_ren := {
  mixed := by kernel_rfl
  f15 := Tryd.func50.trans (congrArg some (by kernel_rfl))
  f28 := Tryd.func68.trans (congrArg some (by kernel_rfl))
  f29 := Tryd.func69.trans (congrArg some (by kernel_rfl))
  f47 := Tryd.func84.trans (congrArg some (by kernel_rfl))
  t3 := Tryd.underlying3
  a3 := Tryd.isAgg3
  z3 := Tryd.sizeOf3
  v3 := Tryd.zeroValue3
  t4 := Tryd.underlying4
  a4 := Tryd.isAgg4
  z4 := Tryd.sizeOf4
  v4 := Tryd.zeroValue4
  t5 := Tryd.underlying5
  a5 := Tryd.isAgg5
  z5 := Tryd.sizeOf5
  v5 := Tryd.zeroValue5
  t9 := Tryd.underlying9
  a9 := Tryd.isAgg9
  z9 := Tryd.sizeOf9
  v9 := Tryd.zeroValue9
  t39 := Tryd.underlying77
  a39 := Tryd.isAgg77
  z39 := Tryd.sizeOf77
  v39 := Tryd.zeroValue77
  t53 := Tryd.underlying95
  a53 := Tryd.isAgg95
  z53 := Tryd.sizeOf95
  v53 := Tryd.zeroValue95
  t55 := Tryd.underlying35
  a55 := Tryd.isAgg35
  z55 := Tryd.sizeOf35
  v55 := Tryd.zeroValue35 }
def Tryd.xorL_ren : Go.Shelf.Ren := ⟨fun | 48 => 85 | n => n, fun | 76 => 126 | 55 => 35 | 0 => 0 | 66 => 108 | 39 => 77 | n => n, fun | n => n⟩
theorem Tryd.xorL : Go.Proofs.SlLaysF0.n48 Tryd.prog Tryd.xorL_ren := {
  mixed := by kernel_rfl
  f48 := Tryd.func85.trans (congrArg some (by kernel_rfl))
  t0 := Tryd.underlying0
  a0 := Tryd.isAgg0
  z0 := Tryd.sizeOf0
  v0 := Tryd.zeroValue0
  t39 := Tryd.underlying77
  a39 := Tryd.isAgg77
  z39 := Tryd.sizeOf77
  v39 := Tryd.zeroValue77
  t55 := Tryd.underlying35
  a55 := Tryd.isAgg35
  z55 := Tryd.sizeOf35
  v55 := Tryd.zeroValue35
  t66 := Tryd.underlying108
  a66 := Tryd.isAgg108
  z66 := Tryd.sizeOf108
  v66 := Tryd.zeroValue108
  t76 := Tryd.underlying126
  a76 := Tryd.isAgg126
  z76 := Tryd.sizeOf126
  v76 := Tryd.zeroValue126 }
end Go.Proofs

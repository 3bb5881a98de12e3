/- The library functions slices.nextPowerOfTwo and xorshift.Next: what of them the proofs ask, laid at this program. -/
import Derived.Shelf.SlSortCmp.Xorshift
import Derived.Test.YtcnebfmlelcliaaProg
namespace Go.Proofs
open Go.Shelf
def Try.nptL_ren : Go.Shelf.Ren := ⟨fun | 47 => 87 | 15 => 67 | 28 => 81 | 29 => 82 | n => n, fun | 3 => 3 | 39 => 117 | 53 => 131 | 55 => 22 | 4 => 4 | 5 => 5 | 9 => 9 | n => n, fun | n => n⟩
theorem Try.nptL : Go.Proofs.SlLaysF0.n47 Try.prog Try.nptL_ren := {
  mixed := by kernel_rfl
  f15 := Try.func67.trans (congrArg some (by kernel_rfl))
  f28 := Try.func81.trans (congrArg some (by kernel_rfl))
  f29 := Try.func82.trans (congrArg some (by kernel_rfl))
  f47 := Try.func87.trans (congrArg some (by kernel_rfl))
  t3 := Try.underlying3
  a3 := Try.isAgg3
  z3 := Try.sizeOf3
  v3 := Try.zeroValue3
  t4 := Try.underlying4
  a4 := Try.isAgg4
  z4 := Try.sizeOf4
  v4 := Try.zeroValue4
  t5 := Try.underlying5
  a5 := Try.isAgg5
  z5 := Try.sizeOf5
  v5 := Try.zeroValue5
  t9 := Try.underlying9
  a9 := Try.isAgg9
  z9 := Try.sizeOf9
  v9 := Try.zeroValue9
  t39 := Try.underlying117
  a39 := Try.isAgg117
  z39 := Try.sizeOf117
  v39 := Try.zeroValue117
  t53 := Try.underlying131
  a53 := Try.isAgg131
  z53 := Try.sizeOf131
  v53 := Try.zeroValue131
  t55 := Try.underlying22
  a55 := Try.isAgg22
  z55 := Try.sizeOf22
  v55 := Try.zeroValue22 }
def Try.xorL_ren : Go.Shelf.Ren := ⟨fun | 48 => 88 | n => n, fun | 76 => 144 | 55 => 22 | 0 => 0 | 66 => 137 | 39 => 117 | n => n, fun | n => n⟩
theorem Try.xorL : Go.Proofs.SlLaysF0.n48 Try.prog Try.xorL_ren := {
  mixed := by kernel_rfl
  f48 := Try.func88.trans (congrArg some (by kernel_rfl))
  t0 := Try.underlying0
  a0 := Try.isAgg0
  z0 := Try.sizeOf0
  v0 := Try.zeroValue0
  t39 := Try.underlying117
  a39 := Try.isAgg117
  z39 := Try.sizeOf117
  v39 := Try.zeroValue117
  t55 := Try.underlying22
  a55 := Try.isAgg22
  z55 := Try.sizeOf22
  v55 := Try.zeroValue22
  t66 := Try.underlying137
  a66 := Try.isAgg137
  z66 := Try.sizeOf137
  v66 := Try.zeroValue137
  t76 := Try.underlying144
  a76 := Try.isAgg144
  z76 := Try.sizeOf144
  v76 := Try.zeroValue144 }
end Go.Proofs

/- Contracts of Go library functions over iterators at this program, as the kit's own tools lay them. -/
import Derived.Shelf.SlGeneric
import Derived.Shelf.SlIter.Collect
import Derived.Shelf.SlIterI.Collect
import Derived.Ground.GgzProg
import Derived.Test.YtmejoococajikaaGreatProg
namespace Go.Proofs
open Go.Shelf
def Tryz.txApp_ren : Go.Shelf.Ren := ⟨fun | 11 => 64 | n => n, fun | 24 => 22 | 26 => 9 | 28 => 54 | 0 => 0 | 33 => 42 | 4 => 4 | n => n, fun | n => n⟩
theorem Tryz.txApp : Go.Proofs.SlLaysZ.n11 Tryz.prog Tryz.txApp_ren := {
  mixed := by kernel_rfl
  f11 := ⟨Tryz.f64.name, by decide, Tryz.func64.trans (congrArg some (by kernel_rfl))⟩
  t0 := Tryz.underlying0
  a0 := Tryz.isAgg0
  z0 := Tryz.sizeOf0
  v0 := Tryz.zeroValue0
  t24 := Tryz.underlying22
  a24 := Tryz.isAgg22
  z24 := Tryz.sizeOf22
  v24 := Tryz.zeroValue22
  t26 := Tryz.underlying9
  a26 := Tryz.isAgg9
  z26 := Tryz.sizeOf9
  v26 := Tryz.zeroValue9
  t28 := Tryz.underlying54
  a28 := Tryz.isAgg54
  z28 := Tryz.sizeOf54
  v28 := Tryz.zeroValue54
  i26 := by kernel_rfl }
def Tryz.txKeys_ren : Go.Shelf.Ren := ⟨fun | 7 => 47 | 10 => 68 | n => n, fun | 23 => 56 | 26 => 3 | 3 => 38 | 28 => 79 | 0 => 0 | 27 => 78 | 33 => 101 | 4 => 4 | n => n, fun | n => n⟩
theorem Tryz.txKeys : Go.Proofs.SlLaysZI.n7 Tryz.prog Tryz.txKeys_ren := {
  mixed := by kernel_rfl
  f7 := ⟨Tryz.f47.name, by decide, Tryz.func47.trans (congrArg some (by kernel_rfl))⟩
  f10 := ⟨Tryz.f68.name, by decide, Tryz.func68.trans (congrArg some (by kernel_rfl))⟩
  t0 := Tryz.underlying0
  a0 := Tryz.isAgg0
  z0 := Tryz.sizeOf0
  v0 := Tryz.zeroValue0
  t4 := Tryz.underlying4
  a4 := Tryz.isAgg4
  z4 := Tryz.sizeOf4
  v4 := Tryz.zeroValue4
  t23 := Tryz.underlying56
  a23 := Tryz.isAgg56
  z23 := Tryz.sizeOf56
  v23 := Tryz.zeroValue56
  t26 := Tryz.underlying3
  a26 := Tryz.isAgg3
  z26 := Tryz.sizeOf3
  v26 := Tryz.zeroValue3
  t27 := Tryz.underlying78
  a27 := Tryz.isAgg78
  z27 := Tryz.sizeOf78
  v27 := Tryz.zeroValue78
  t28 := Tryz.underlying79
  a28 := Tryz.isAgg79
  z28 := Tryz.sizeOf79
  v28 := Tryz.zeroValue79
  t33 := Tryz.underlying101
  a33 := Tryz.isAgg101
  z33 := Tryz.sizeOf101
  v33 := Tryz.zeroValue101 }
def Tryz.txColl_ren : Go.Shelf.Ren := ⟨fun | 8 => 46 | 11 => 67 | n => n, fun | 26 => 3 | 28 => 79 | 24 => 46 | 0 => 0 | 33 => 101 | 4 => 4 | n => n, fun | n => n⟩
theorem Tryz.txColl : Go.Proofs.SlLaysZI.n8 Tryz.prog Tryz.txColl_ren := {
  mixed := by kernel_rfl
  f8 := ⟨Tryz.f46.name, by decide, Tryz.func46.trans (congrArg some (by kernel_rfl))⟩
  f11 := ⟨Tryz.f67.name, by decide, Tryz.func67.trans (congrArg some (by kernel_rfl))⟩
  t0 := Tryz.underlying0
  a0 := Tryz.isAgg0
  z0 := Tryz.sizeOf0
  v0 := Tryz.zeroValue0
  t24 := Tryz.underlying46
  a24 := Tryz.isAgg46
  z24 := Tryz.sizeOf46
  v24 := Tryz.zeroValue46
  t26 := Tryz.underlying3
  a26 := Tryz.isAgg3
  z26 := Tryz.sizeOf3
  v26 := Tryz.zeroValue3
  t28 := Tryz.underlying79
  a28 := Tryz.isAgg79
  z28 := Tryz.sizeOf79
  v28 := Tryz.zeroValue79
  i26 := by kernel_rfl }
def Tryz.txKeys1_ren : Go.Shelf.Ren := ⟨fun | 10 => 68 | n => n, fun | 33 => 101 | 23 => 56 | 0 => 0 | 4 => 4 | 26 => 3 | 3 => 38 | n => n, fun | n => n⟩
theorem Tryz.txKeys1 : Go.Proofs.SlLaysZI.n10 Tryz.prog Tryz.txKeys1_ren := {
  mixed := by kernel_rfl
  f10 := ⟨Tryz.f68.name, by decide, Tryz.func68.trans (congrArg some (by kernel_rfl))⟩
  t0 := Tryz.underlying0
  a0 := Tryz.isAgg0
  z0 := Tryz.sizeOf0
  v0 := Tryz.zeroValue0
  t4 := Tryz.underlying4
  a4 := Tryz.isAgg4
  z4 := Tryz.sizeOf4
  v4 := Tryz.zeroValue4
  t23 := Tryz.underlying56
  a23 := Tryz.isAgg56
  z23 := Tryz.sizeOf56
  v23 := Tryz.zeroValue56
  t26 := Tryz.underlying3
  a26 := Tryz.isAgg3
  z26 := Tryz.sizeOf3
  v26 := Tryz.zeroValue3
  t33 := Tryz.underlying101
  a33 := Tryz.isAgg101
  z33 := Tryz.sizeOf101
  v33 := Tryz.zeroValue101 }
end Go.Proofs

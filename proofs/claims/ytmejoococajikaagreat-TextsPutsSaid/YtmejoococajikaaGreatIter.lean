/- Contracts of Go library functions over iterators at this program, as the kit's own tools lay them. -/
import Derived.Shelf.SlGeneric
import Derived.Shelf.SlIter.Collect
import Derived.Ground.GgzProg
import Derived.Test.YtmejoococajikaaGreatProg
namespace Go.Proofs
open Go.Shelf
def Tryz.txApp_ren : Go.Shelf.Ren := ⟨fun | 11 => 64 | n => n, fun | 24 => 22 | 26 => 9 | 28 => 54 | 0 => 0 | 33 => 42 | 4 => 4 | n => n, fun | n => n⟩
theorem Tryz.txApp : Go.Proofs.SlLaysZ.n11 Tryz.prog Tryz.txApp_ren := {
  mixed := by kernel_rfl
  f11 := ⟨Tryz.f64.name, by decide, Tryz.func64.trans (congrArg some (by kernel_rfl))⟩
  t0 := Tryz.underlying0
  a0 := Tryz.isAgg0
  z0 := Tryz.sizeOf0
  v0 := Tryz.zeroValue0
  t24 := Tryz.underlying22
  a24 := Tryz.isAgg22
  z24 := Tryz.sizeOf22
  v24 := Tryz.zeroValue22
  t26 := Tryz.underlying9
  a26 := Tryz.isAgg9
  z26 := Tryz.sizeOf9
  v26 := Tryz.zeroValue9
  t28 := Tryz.underlying54
  a28 := Tryz.isAgg54
  z28 := Tryz.sizeOf54
  v28 := Tryz.zeroValue54
  i26 := by kernel_rfl }
end Go.Proofs

/- Contracts of Go library functions over iterators at this program, as the kit's own tools lay them. -/
import Derived.Shelf.SlGeneric
import Derived.Shelf.SlIter.Collect
import Derived.Ground.GgzProg
import Derived.Test.YtmejoococajikaaProg
namespace Go.Proofs
open Go.Shelf
def Try.txApp_ren : Go.Shelf.Ren := ⟨fun | 11 => 59 | n => n, fun | 24 => 22 | 26 => 9 | 28 => 54 | 0 => 0 | 33 => 57 | 4 => 4 | n => n, fun | n => n⟩
theorem Try.txApp : Go.Proofs.SlLaysZ.n11 Try.prog Try.txApp_ren := {
  mixed := by kernel_rfl
  f11 := ⟨Try.f59.name, by decide, Try.func59.trans (congrArg some (by kernel_rfl))⟩
  t0 := Try.underlying0
  a0 := Try.isAgg0
  z0 := Try.sizeOf0
  v0 := Try.zeroValue0
  t24 := Try.underlying22
  a24 := Try.isAgg22
  z24 := Try.sizeOf22
  v24 := Try.zeroValue22
  t26 := Try.underlying9
  a26 := Try.isAgg9
  z26 := Try.sizeOf9
  v26 := Try.zeroValue9
  t28 := Try.underlying54
  a28 := Try.isAgg54
  z28 := Try.sizeOf54
  v28 := Try.zeroValue54
  i26 := by kernel_rfl }
end Go.Proofs

/- Package bits: fits, Size, the closure, Pack. -/
import Derived.Test.YtekdcnlbdgikoaaDoorPutC
import Derived.Test.YtekdcnlbdgikoaaDoorPlainB
import Derived.Test.YtekdcnlbdgikoaaDoorMost
import Derived.Deep.OwnRows
namespace Go.Proofs.YtekdcnlbdgikoaaDoor
open Go.RowKit

def bytesArr (X N : Nat) : Array Value := ((bytesOf X N).map (Value.int .u8)).toArray
theorem bytesArr_get (X N j : Nat) (h : j < N) : (bytesArr X N)[j]? = some (.int .u8 (byteAt X N j : Int)) := by
  simp [bytesArr, bytesOf_get X N j h]
theorem bytesArr_add (X N j d : Nat) (hj : j < N) (hd : byteAt X N j + d < 256) :
    (bytesArr X N).setIfInBounds j (.int .u8 ((byteAt X N j + d : Nat) : Int)) = bytesArr (X + d * 256 ^ (N - 1 - j)) N := by
  unfold bytesArr
  rw [bytesOf_add X N j d hj hd]
  simp [List.map_set]
theorem cast_shl (c k : Nat) : (c : Int) * 2 ^ k % 256 = ((c * 2 ^ k % 256 : Nat) : Int) := by
  rw [Int.natCast_emod, Int.natCast_mul, Int.natCast_pow]; rfl
theorem cast_shr (c k : Nat) : (c : Int) / 2 ^ k = ((c / 2 ^ k : Nat) : Int) := by
  rw [Int.natCast_ediv, Int.natCast_pow]; rfl

theorem bytesOf_u8 (X N : Nat) : U8 (bytesOf X N) := by
  intro y hy
  obtain ⟨j, _, rfl⟩ := List.mem_map.1 hy
  have := byteAt_lt X N j
  omega
def fitsB (m x : Int) : Bool := decide (0 ≤ m ∧ m ≤ 4096 ∧ 0 ≤ x ∧ x ≤ 64)
def sizeN (m x : Int) : Int := if fitsB m x then (m * x + 7) / 8 else 0
end Go.Proofs.YtekdcnlbdgikoaaDoor

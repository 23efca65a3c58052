/- Plain laws on what repeat lays down. -/
import Derived.Test.YtfkpifppahbfmaaRepR
namespace Go.Proofs.Ytfkpifppahbfmaa
open Go.RowKit

theorem strOf_toList (l : List Int) : (strOf l).toList = l.map fun n => UInt8.ofNat n.toNat := by rw [ByteArray.toList_eq]; rfl
theorem hiB_u8 (u k : Nat) : U8 (hiB u k) := by
  induction k with
  | zero => intro x hx; cases hx
  | succ k ih =>
    intro x hx
    rcases List.mem_cons.1 hx with rfl | h
    · exact ⟨Int.emod_nonneg _ (by omega), Int.emod_lt_of_pos _ (by omega)⟩
    · exact ih x h
theorem putR_u8 (x t : Int) (s : Bool) (hx0 : -9223372036854775808 ≤ x) (hx1 : x < 9223372036854775808) : U8 (putR x t s).1 := by
  unfold putR
  split
  · intro x hx; cases hx
  · rename_i h
    have hz := zig_range x hx0 hx1
    have hu : plainU x s < 18446744073709551616 := by unfold plainU; split <;> omega
    have := longN_range (plainU x s).toNat (by omega)
    intro y hy
    rcases List.mem_cons.1 hy with rfl | h'
    · omega
    · exact hiB_u8 _ _ y h'
theorem putR_er (x t : Int) (s : Bool) : 0 ≤ (putR x t s).2 ∧ (putR x t s).2 ≤ 1 := by
  unfold putR; split <;> simp
end Go.Proofs.Ytfkpifppahbfmaa

/- The walk through RepeatPuts. -/
import Derived.Test.YtbkdhnlhhampfaaRepR
namespace Go.Proofs.Ytbkdhnlhhampfaa
open Go.RowKit

theorem strOf_toList (l : List Int) : (strOf l).toList = l.map fun n => UInt8.ofNat n.toNat := by rw [ByteArray.toList_eq]; rfl
theorem hiB_u8 (u k : Nat) : U8 (hiB u k) := by
  induction k with
  | zero => intro x hx; cases hx
  | succ k ih =>
    intro x hx
    rcases List.mem_cons.1 hx with rfl | h
    · exact ⟨Int.emod_nonneg _ (by omega), Int.emod_lt_of_pos _ (by omega)⟩
    · exact ih x h
theorem putR_u8 (x t : Int) (s : Bool) (hx0 : -9223372036854775808 ≤ x) (hx1 : x < 9223372036854775808) : U8 (putR x t s).1 := by
  unfold putR
  split
  · intro x hx; cases hx
  · rename_i h
    have hz := zig_range x hx0 hx1
    have hu : plainU x s < 18446744073709551616 := by unfold plainU; split <;> omega
    have := longN_range (plainU x s).toNat (by omega)
    intro y hy
    rcases List.mem_cons.1 hy with rfl | h'
    · omega
    · exact hiB_u8 _ _ y h'
theorem putR_er (x t : Int) (s : Bool) : 0 ≤ (putR x t s).2 ∧ (putR x t s).2 ≤ 1 := by
  unfold putR; split <;> simp

set_option maxHeartbeats 1000000 in
theorem shown07_any (w : World) :
    Calls Try.prog 18 #[] w fun e w' => e = .returned (.bool true) ∧ Below w.heap.size w w' := by
  go_enter Try.func18, Try.ntmps18
  go_wp2_with fail
  refine (Put_any _ _ _ _ (by omega) (by omega) [10, 39, 16] 0 (by decide)).mono ?_; rintro e w1 ⟨G1, n1, c1, rfl, hr1, hb1⟩
  go_wp2_with fail
  refine (Put_any _ _ _ _ (by omega) (by omega) [0, 1] 0 (by decide)).mono ?_; rintro e w2 ⟨G2, n2, c2, rfl, hr2, hb2⟩
  go_wp2_with fail
  refine (Put_any _ _ _ _ (by omega) (by omega) [] 1 (by decide)).mono ?_; rintro e w3 ⟨G3, n3, c3, rfl, hr3, hb3⟩
  go_wp2_with fail
  refine (Put_any _ _ _ _ (by omega) (by omega) [] 1 (by decide)).mono ?_; rintro e w4 ⟨G4, n4, c4, rfl, hr4, hb4⟩
  have cv1 := conv_any (c := c1) (((hr1.1.below hb2).below hb3).below hb4)
  have cv2 := conv_any (c := c2) ((hr2.1.below hb3).below hb4)
  have s1 : (strOf [10, 39, 16]).toList = [10, 39, 16] := strOf_toList _
  have s2 : (strOf [0, 1]).toList = [0, 1] := strOf_toList _
  clear hr1 hr2 hr3 hr4
  go_wp2_with fail
  go_ret
  exact ⟨rfl, on (on (on hb1 hb2) hb3) hb4⟩

set_option maxHeartbeats 1000000 in
theorem RepeatPuts_walk (w : World) (x : Int) (hx : -9223372036854775808 ≤ x ∧ x < 9223372036854775808) (t : Int) (_ht : -9223372036854775808 ≤ t ∧ t < 9223372036854775808) (s : Bool) :
    Calls Try.prog 3 #[.int .i64 x, .int .i64 t, .bool s] w fun e w' => e = .returned (.bool true) ∧ Below w.heap.size w w' := by
  obtain ⟨l, er, hl⟩ : ∃ l er, putR x t s = (l, er) := ⟨_, _, rfl⟩
  have HL := Lib.hid hl; clear hl
  go_enter Try.func3, Try.ntmps3
  go_wp2_with fail
  refine (shown07_any _).mono ?_; rintro e w1 ⟨rfl, hb1⟩
  go_wp2_with fail
  refine (Put_any _ _ _ _ hx.1 hx.2 l er HL.out).mono ?_; rintro e w2 ⟨G1, n1, c1, rfl, hr1, hb2⟩
  go_wp2_with fail
  refine (refPut_any _ _ _ _ hx.1 hx.2 l er HL.out).mono ?_; rintro e w3 ⟨G2, n2, c2, rfl, hr2, hb3⟩
  have cv1 := conv_any (c := c1) (hr1.1.below hb3)
  have cv2 := conv_any (c := c2) hr2.1
  clear hr1 hr2
  go_wp2_with fail
  go_ret
  exact ⟨rfl, on (on hb1 hb2) hb3⟩
end Go.Proofs.Ytbkdhnlhhampfaa

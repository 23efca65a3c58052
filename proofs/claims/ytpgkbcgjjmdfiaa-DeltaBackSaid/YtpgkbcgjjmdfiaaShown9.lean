/- delta's laws: the head. -/
import Derived.Test.YtpgkbcgjjmdfiaaDPut
import Derived.Test.YtpgkbcgjjmdfiaaPlainW
namespace Go.Proofs.Ytpgkbcgjjmdfiaa
open Go.RowKit

set_option maxRecDepth 100000 in
set_option maxHeartbeats 1000000 in
theorem shown09_any (w : World) :
    Calls Try.prog 14 #[] w fun e w' => e = .returned (.bool true) ∧ Below w.heap.size w w' := by
  go_enter Try.func14, Try.ntmps14
  go_wp2_with fail
  refine (DePut_any _ _ 10 10 [2, 3, 5, 7, 11, 13, 17, 19, 23, 29] (Ri_lit _ _ _ _ _ rfl _ rfl) (by unfold I64; decide) (by omega) (by omega) (by omega) false [196, 9, 2, 2, 74, 40, 166] 0 (by decide +kernel)).mono ?_; rintro e w1 ⟨G1, n1, c1, rfl, hr1, hb1⟩
  have H1 := Lib.hid hr1.1
  have HB1 := Lib.hid (on ((Below.refl w.heap.size w).alloc (Nat.le_refl _) _) hb1)
  clear hr1 hb1
  go_wp2_with fail
  refine (DePut_any _ _ 3 3 [5, 5, 5] (Ri_lit _ _ _ _ _ rfl _ rfl) (by unfold I64; decide) (by omega) (by omega) (by omega) true [192, 2, 10, 0] 0 (by decide +kernel)).mono ?_; rintro e w2 ⟨G2, n2, c2, rfl, hr2, hb2⟩
  have H2 := Lib.hid hr2.1
  have HB2 := Lib.hid (on ((Below.refl w1.heap.size w1).alloc (Nat.le_refl _) _) hb2)
  clear hr2 hb2
  go_wp2_with fail
  refine (DePut_any _ _ 3 3 [1, 3, 2] (Ri_lit _ _ _ _ _ rfl _ rfl) (by unfold I64; decide) (by omega) (by omega) (by omega) true [] 1 (by decide +kernel)).mono ?_; rintro e w3 ⟨G3, n3, c3, rfl, hr3, hb3⟩
  have HB3 := Lib.hid (on ((Below.refl w2.heap.size w2).alloc (Nat.le_refl _) _) hb3)
  clear hr3 hb3
  have cv1 := conv_any (c := c1) ((H1.out.below HB2.out).below HB3.out)
  have cv2 := conv_any (c := c2) (H2.out.below HB3.out)
  have s1 : (strOf [196, 9, 2, 2, 74, 40, 166]).toList = [196, 9, 2, 2, 74, 40, 166] := strOf_toList _
  have s2 : (strOf [192, 2, 10, 0]).toList = [192, 2, 10, 0] := strOf_toList _
  go_wp2_with fail
  go_ret
  exact ⟨rfl, on (on HB1.out HB2.out) HB3.out⟩
end Go.Proofs.Ytpgkbcgjjmdfiaa

/- The walk through PatchedPuts. -/
import Derived.Test.YtpngbljfboceeaaShown10
import Derived.Test.YtpngbljfboceeaaRefPPut
import Derived.Test.YtpngbljfboceeaaSame8
namespace Go.Proofs.Ytpngbljfboceeaa
open Go.RowKit

set_option maxRecDepth 100000 in
set_option maxHeartbeats 1000000 in
theorem PatchedPuts_walk (w : World) (A : Option Addr) (n cap : Nat) (l : List Int) (hr : Ri w .i64 A n l) (hu : I64 l) (hc : n ≤ cap) (hm : cap ≤ maxLen) (x : Int) (hx : -9223372036854775808 ≤ x ∧ x < 9223372036854775808) (s : Bool) :
    Calls Try.prog 3 #[.slice A n cap, .int .i64 x, .bool s] w fun e w' => e = .returned (.bool true) ∧ Below w.heap.size w w' := by
  unfold maxLen at hm
  have HU : Hid (I64 (l.take 600)) := Lib.hid fun x hx => hu x (List.mem_of_mem_take hx)
  have HR := Lib.hid hr; clear hr hu
  obtain ⟨r, er, hl⟩ : ∃ r er, putPa (l.take 600) x s = (r, er) := ⟨_, _, rfl⟩
  have HLL := Lib.hid hl; clear hl
  go_enter Try.func3, Try.ntmps3
  go_wp2_with fail
  refine (shown10_any _).mono ?_; rintro e w1 ⟨rfl, hb1⟩
  go_wp2_with fail
  refine (few10_any _ _ _ _ l (HR.out.below hb1) hc hm).mono ?_; rintro e w1' ⟨m, c2, rfl, rfl, hmc, hcm2, hm42, hmn, hr2⟩
  have H2 := Lib.hid hr2; clear hr2
  go_wp2_with (at_builtin; refine wpList_i64 _ rfl _ _ rfl w1'.heap.size _ 0 [] rfl (own_empty w1' _ 1) _ _ _ (l.take 600) rfl (H2.out.alloc _) (by omega) (by simp) ?_; intro G3 c3 w3 hown hgr hcc)
  have hb3 := push0 ((Below.refl w1'.heap.size w1').alloc (Nat.le_refl _) _) (Nat.le_refl _) (own_empty w1' _ 1) hgr
  rw [Nat.zero_add, List.nil_append] at hown
  have hc3 := own_cap hown
  have HO := Lib.hid (Ri.of_own hown); have HB3 := Lib.hid hb3
  clear hown hgr hcc hb3
  go_wp2_with fail
  refine (PPut_any _ _ _ _ (l.take 600) HO.out HU.out hc3.1 hc3.2 (by omega) x hx s r er HLL.out).mono ?_; rintro e w4 ⟨G4, n4, c4, rfl, hr4, hb4⟩
  have H24 := Lib.hid ((H2.out.below HB3.out).below hb4); have HO4 := Lib.hid (HO.out.below hb4)
  go_wp2_with fail
  refine (refPPut_any _ _ _ _ (l.take 600) H24.out HU.out (by omega) x hx s r er HLL.out).mono ?_; rintro e w5 ⟨G5, n5, c5, rfl, hr5, hb5⟩
  go_wp2_with fail
  refine (Same8_any _ _ _ _ _ _ _ (l.take 600) (l.take 600) (HO4.out.below hb5) (H24.out.below hb5) (by omega) (by omega) HU.out HU.out).mono ?_; rintro e w6 ⟨rfl, hb6⟩
  rw [decide_eq_true rfl]
  have cv1 := conv_any (c := c4) ((hr4.1.below hb5).below hb6)
  have cv2 := conv_any (c := c5) (hr5.1.below hb6)
  have st := strOf_same r
  generalize strOf r = S at *
  have HB := Lib.hid (on (on (on (on hb1 HB3.out) hb4) hb5) hb6)
  clear hr4 hr5 hb1 hb4 hb5 hb6
  go_wp2_with fail
  go_ret
  exact ⟨rfl, HB.out⟩
end Go.Proofs.Ytpngbljfboceeaa

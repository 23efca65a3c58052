/- The walks through DirectPuts, DirectPlain and DirectHeads. -/
import Derived.Test.YtglfbjaiofjlpaaRefDirect
import Derived.Test.YtglfbjaiofjlpaaSame8
import Derived.Test.YtglfbjaiofjlpaaPlainW
import Derived.Test.YtglfbjaiofjlpaaOpenArr
namespace Go.Proofs.Ytglfbjaiofjlpaa
open Go.RowKit

set_option maxRecDepth 100000 in
set_option maxHeartbeats 1000000 in
theorem shown08_any (w : World) :
    Calls Try.prog 8 #[] w fun e w' => e = .returned (.bool true) ∧ Below w.heap.size w w' := by
  go_enter Try.func8, Try.ntmps8
  go_wp2_with fail
  refine (DPut_any _ _ 4 4 [23713, 43806, 57005, 48879] (Ri_lit _ _ _ _ _ rfl _ rfl) (by unfold I64; decide) (by omega) false [94, 3, 92, 161, 171, 30, 222, 173, 190, 239] 0 (by decide +kernel)).mono ?_; rintro e w1 ⟨G1, n1, c1, rfl, hr1, hb1⟩
  have hb1' := on ((Below.refl w.heap.size w).alloc (Nat.le_refl _) _) hb1
  have cv1 := conv_any (c := c1) hr1.1
  have s1 : (strOf [94, 3, 92, 161, 171, 30, 222, 173, 190, 239]).toList = [94, 3, 92, 161, 171, 30, 222, 173, 190, 239] := strOf_toList _
  go_wp2_with fail
  go_ret
  exact ⟨rfl, hb1'⟩
def FewOut8 (w : World) (A : Option Addr) (n k : Nat) (l : List Int) (kd : IntKind) (e : Ending) (w' : World) : Prop :=
  ∃ m c, e = .returned (.slice A m c) ∧ w' = w ∧ m ≤ c ∧ c ≤ 9223372036854775807 ∧ m ≤ k ∧ m ≤ n ∧ Ri w kd A m (l.take k)
set_option maxHeartbeats 400000 in
theorem few8_any (w : World) (A : Option Addr) (n c : Nat) (l : List Int) (hr : Ri w .i64 A n l) (hc : n ≤ c) (hcm : c ≤ 9223372036854775807) :
    Calls Try.prog 9 #[.slice A n c] w (FewOut8 w A n 600 l .i64) := by
  have HR := Lib.hid hr; clear hr
  rcases Nat.lt_or_ge 600 n with h | h
  · go_enter Try.func9, Try.ntmps9
    go_wp2_with fail
    go_ret
    exact ⟨600, c, rfl, rfl, by omega, hcm, Nat.le_refl _, by omega, HR.out.first (by omega)⟩
  · go_enter Try.func9, Try.ntmps9
    go_wp2_with fail
    go_ret
    exact ⟨n, c, rfl, rfl, hc, hcm, h, Nat.le_refl _, by rw [List.take_of_length_le (by rw [HR.out.len]; exact h)]; exact HR.out⟩
theorem I64.take {l : List Int} (h : I64 l) (k : Nat) : I64 (l.take k) := fun x hx => h x (List.mem_of_mem_take hx)

set_option maxRecDepth 100000 in
set_option maxHeartbeats 1000000 in
theorem DirectPuts_walk (w : World) (A : Option Addr) (n cap : Nat) (l : List Int) (hr : Ri w .i64 A n l) (hu : I64 l) (hc : n ≤ cap) (hm : cap ≤ maxLen) (s : Bool) :
    Calls Try.prog 3 #[.slice A n cap, .bool s] w fun e w' => e = .returned (.bool true) ∧ Below w.heap.size w w' := by
  unfold maxLen at hm
  have HU := Lib.hid (hu.take 600); have HR := Lib.hid hr; clear hr hu
  obtain ⟨r, er, hl⟩ : ∃ r er, putD (l.take 600) s = (r, er) := ⟨_, _, rfl⟩
  have HLL := Lib.hid hl; clear hl
  go_enter Try.func3, Try.ntmps3
  go_wp2_with fail
  refine (shown08_any _).mono ?_; rintro e w1 ⟨rfl, hb1⟩
  go_wp2_with fail
  refine (few8_any _ _ _ _ l (HR.out.below hb1) hc hm).mono ?_; rintro e w1' ⟨m, c2, rfl, rfl, hmc, hcm2, hm42, hmn, hr2⟩
  have H2 := Lib.hid hr2; clear hr2
  go_wp2_with fail
  refine (DPut_any _ _ _ _ _ H2.out HU.out (by omega) s r er HLL.out).mono ?_; rintro e w4 ⟨G4, n4, c4, rfl, hr4, hb4⟩
  go_wp2_with fail
  refine (refDPut_any _ _ _ _ _ (H2.out.below hb4) HU.out (by omega) s r er HLL.out).mono ?_; rintro e w5 ⟨G5, n5, c5, rfl, hr5, hb5⟩
  have cv1 := conv_any (c := c4) (hr4.1.below hb5)
  have cv2 := conv_any (c := c5) hr5.1
  have st := strOf_same r
  generalize strOf r = S at *
  have HB := Lib.hid (on (on hb1 hb4) hb5)
  clear hr4 hr5 hb1 hb4 hb5
  go_wp2_with fail
  go_ret
  exact ⟨rfl, HB.out⟩
end Go.Proofs.Ytglfbjaiofjlpaa

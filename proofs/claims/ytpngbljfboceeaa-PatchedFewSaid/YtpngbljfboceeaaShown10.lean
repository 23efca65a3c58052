/- patched's laws: the head. -/
import Derived.Test.YtpngbljfboceeaaPPut
import Derived.Test.YtpngbljfboceeaaPlainW
namespace Go.Proofs.Ytpngbljfboceeaa
open Go.RowKit

set_option maxRecDepth 100000 in
set_option maxHeartbeats 1000000 in
theorem shown10_any (w : World) :
    Calls Try.prog 13 #[] w fun e w' => e = .returned (.bool true) ∧ Below w.heap.size w w' := by
  go_enter Try.func13, Try.ntmps13
  go_wp2_with fail
  refine (PPut_any _ _ 10 10 [2030, 2000, 2020, 1000000, 2040, 2050, 2060, 2070, 2080, 2090] (Ri_lit _ _ _ _ _ rfl _ rfl) (by unfold I64; decide) (by omega) (by omega) (by omega) 8 (by unfold I64x; omega) false [142, 9, 43, 33, 7, 208, 30, 0, 20, 112, 40, 50, 60, 70, 80, 90, 252, 232] 0 (by decide +kernel)).mono ?_; rintro e w1 ⟨G1, n1, c1, rfl, hr1, hb1⟩
  have HB1 := Lib.hid (on ((Below.refl w.heap.size w).alloc (Nat.le_refl _) _) hb1)
  have cv1 := conv_any (c := c1) hr1.1
  have s1 : (strOf [142, 9, 43, 33, 7, 208, 30, 0, 20, 112, 40, 50, 60, 70, 80, 90, 252, 232]).toList = [142, 9, 43, 33, 7, 208, 30, 0, 20, 112, 40, 50, 60, 70, 80, 90, 252, 232] := strOf_toList _
  clear hr1 hb1
  go_wp2_with fail
  go_ret
  exact ⟨rfl, HB1.out⟩

def FewOut10 (w : World) (A : Option Addr) (n k : Nat) (l : List Int) (kd : IntKind) (e : Ending) (w' : World) : Prop :=
  ∃ m c, e = .returned (.slice A m c) ∧ w' = w ∧ m ≤ c ∧ c ≤ 9223372036854775807 ∧ m ≤ k ∧ m ≤ n ∧ Ri w kd A m (l.take k)
set_option maxHeartbeats 400000 in
theorem few10_any (w : World) (A : Option Addr) (n c : Nat) (l : List Int) (hr : Ri w .i64 A n l) (hc : n ≤ c) (hcm : c ≤ 9223372036854775807) :
    Calls Try.prog 14 #[.slice A n c] w (FewOut10 w A n 600 l .i64) := by
  have HR := Lib.hid hr; clear hr
  rcases Nat.lt_or_ge 600 n with h | h
  · go_enter Try.func14, Try.ntmps14
    go_wp2_with fail
    go_ret
    exact ⟨600, c, rfl, rfl, by omega, hcm, Nat.le_refl _, by omega, HR.out.first (by omega)⟩
  · go_enter Try.func14, Try.ntmps14
    go_wp2_with fail
    go_ret
    exact ⟨n, c, rfl, rfl, hc, hcm, h, Nat.le_refl _, by rw [List.take_of_length_le (by rw [HR.out.len]; exact h)]; exact HR.out⟩
end Go.Proofs.Ytpngbljfboceeaa

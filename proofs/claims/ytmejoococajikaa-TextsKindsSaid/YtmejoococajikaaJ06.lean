/- Joined texts: Zig. Each has its own head line. No condition beyond those that its theorems state. -/
import Derived.PlainAid
import Derived.Test.YtmejoococajikaaProg
import Derived.Test.YtmejoococajikaaJ01
set_option linter.unusedVariables false

/- Numbers with a sign, as numbers without: varint.Zig, Zag and their references. -/
namespace Go.Proofs.Ytmejoococajikaa
open Go.RowKit

def zig (x : Int) : Int := if x < 0 then -2 * x - 1 else 2 * x
def zag (u : Int) : Int := if u % 2 = 1 then -(u / 2) - 1 else u / 2
theorem zig_range (x : Int) (h0 : -9223372036854775808 ≤ x) (h1 : x < 9223372036854775808) : 0 ≤ zig x ∧ zig x < 18446744073709551616 := by unfold zig; omega
theorem zag_range (u : Int) (h0 : 0 ≤ u) (h1 : u < 18446744073709551616) : -9223372036854775808 ≤ zag u ∧ zag u < 9223372036854775808 := by unfold zag; omega
theorem zag_zig (x : Int) : zag (zig x) = x := by unfold zag zig; omega
theorem zig_zag (u : Int) (h : 0 ≤ u) : zig (zag u) = u := by unfold zag zig; omega

theorem xor_ones (b : Nat) (hb : b < 2 ^ 64) : b ^^^ (2 ^ 64 - 1) = 2 ^ 64 - 1 - b := by
  apply Nat.eq_of_testBit_eq
  intro i
  rw [Nat.testBit_xor, Nat.testBit_two_pow_sub_one, show 2 ^ 64 - 1 - b = 2 ^ 64 - (b + 1) from by omega, Nat.testBit_two_pow_sub_succ hb]
  by_cases h : i < 64
  · simp [h]
  · have : b.testBit i = false := Nat.testBit_lt_two_pow (Nat.lt_of_lt_of_le hb (Nat.pow_le_pow_right (by omega) (by omega)))
    simp [h, this]

theorem xor_neg (x : Int) (h0 : -9223372036854775808 ≤ x) (h1 : x < 0) :
    bits .xor .u64 (IntKind.u64.wrap (IntKind.u64.wrap x * 2)) (IntKind.u64.wrap (-1)) = zig x := by
  have e1 : IntKind.u64.wrap (-1) = ((2 ^ 64 - 1 : Nat) : Int) := by rw [IntKind.wrap_u64]; decide
  obtain ⟨m, hm⟩ : ∃ m : Nat, IntKind.u64.wrap (IntKind.u64.wrap x * 2) = (m : Int) ∧ (m : Int) = 18446744073709551616 + 2 * x := by
    rw [IntKind.wrap_u64, IntKind.wrap_u64]
    exact ⟨(18446744073709551616 + 2 * x).toNat, by omega, by omega⟩
  rw [e1, hm.1, u64_xor_nat _ _ (by omega) (by omega), xor_ones m (by omega)]
  unfold zig
  rw [if_pos h1]
  have := hm.2
  omega
theorem xor_nonneg (x : Int) (h0 : 0 ≤ x) (h1 : x < 9223372036854775808) : bits .xor .u64 (x * 2) 0 = zig x := by
  obtain ⟨m, rfl⟩ := Int.eq_ofNat_of_zero_le h0
  have := u64_xor_nat (m * 2) 0 (by omega) (by omega)
  rw [Nat.xor_zero] at this
  rw [show ((m : Int) * 2) = ((m * 2 : Nat) : Int) from by omega, show (0 : Int) = ((0 : Nat) : Int) from rfl, this]
  unfold zig
  rw [if_neg (by omega)]
  omega

set_option maxRecDepth 100000 in
set_option maxHeartbeats 400000 in
theorem Zig_any (x : Int) (w : World) (h0 : -9223372036854775808 ≤ x) (h1 : x < 9223372036854775808) :
    Calls Try.prog 33 #[.int .i64 x] w fun e w' => e = .returned (.int .u64 (zig x)) ∧ w = w' := by
  by_cases hx : x < 0
  · have e1 : x / 9223372036854775808 = -1 := by omega
    go_enter Try.func33, Try.ntmps33
    go_wp2
    go_ret
    exact ⟨ret_int (xor_neg x h0 hx), rfl⟩
  · have e1 : x / 9223372036854775808 = 0 := by omega
    go_enter Try.func33, Try.ntmps33
    go_wp2
    go_ret
    exact ⟨ret_int (xor_nonneg x (by omega) h1), rfl⟩

theorem xor_zag (x : Int) (h0 : 0 ≤ x) (h1 : x < 18446744073709551616) : bits BinOp.xor IntKind.i64 (x / 2) (wrap64 (-wrap64 (bits BinOp.and IntKind.u64 x 1))) = zag x := by
  rw [and_one_u64 x h0 (by omega), IntWalk.wrap64_in (x % 2) (by omega), IntWalk.wrap64_in _ (by omega)]
  obtain ⟨m, hm⟩ : ∃ m : Nat, (m : Int) = x / 2 := ⟨(x / 2).toNat, by omega⟩
  have hm2 : m < 2 ^ 63 := by omega
  unfold zag
  rw [← hm]
  have ofm : (BitVec.ofInt 64 (m : Int)).toNat = m := by
    rw [BitVec.ofInt_natCast, BitVec.toNat_ofNat]; exact Nat.mod_eq_of_lt (by omega)
  by_cases h : x % 2 = 1
  · rw [if_pos h, h]
    show IntKind.i64.wrap ((BitVec.ofInt 64 (m : Int) ^^^ BitVec.ofInt 64 (-1)).toNat : Int) = _
    rw [BitVec.toNat_xor, ofm, show (BitVec.ofInt 64 (-1)).toNat = 2 ^ 64 - 1 from by decide, xor_ones m (by omega), IntKind.wrap_i64]
    omega
  · rw [if_neg h, show x % 2 = 0 from by omega]
    show IntKind.i64.wrap ((BitVec.ofInt 64 (m : Int) ^^^ BitVec.ofInt 64 0).toNat : Int) = _
    rw [BitVec.toNat_xor, ofm, show (BitVec.ofInt 64 0).toNat = 0 from by decide, Nat.xor_zero, IntKind.wrap_i64]
    omega

set_option maxRecDepth 100000 in
set_option maxHeartbeats 400000 in
theorem Zag_any (x : Int) (w : World) (h0 : 0 ≤ x) (h1 : x < 18446744073709551616) :
    Calls Try.prog 35 #[.int .u64 x] w fun e w' => e = .returned (.int .i64 (zag x)) ∧ w = w' := by
  go_enter Try.func35, Try.ntmps35
  go_wp2
  go_ret
  exact ⟨ret_int (xor_zag x h0 h1), rfl⟩
set_option maxRecDepth 100000 in
set_option maxHeartbeats 400000 in
theorem refZig_any (x : Int) (w : World) (h0 : -9223372036854775808 ≤ x) (h1 : x < 9223372036854775808) :
    Calls Try.prog 53 #[.int .i64 x] w fun e w' => e = .returned (.int .u64 (zig x)) ∧ w = w' := by
  by_cases hx : x < 0
  · go_enter Try.func53, Try.ntmps53
    go_wp2
    go_ret
    exact ⟨ret_int (by unfold zig; omega), rfl⟩
  · go_enter Try.func53, Try.ntmps53
    go_wp2
    go_ret
    exact ⟨ret_int (by unfold zig; omega), rfl⟩
set_option maxRecDepth 100000 in
set_option maxHeartbeats 400000 in
theorem refZag_any (x : Int) (w : World) (h0 : 0 ≤ x) (h1 : x < 18446744073709551616) :
    Calls Try.prog 54 #[.int .u64 x] w fun e w' => e = .returned (.int .i64 (zag x)) ∧ w = w' := by
  by_cases h : x % 2 = 1
  · have hb : (x % 2 == 1) = true := by simpa using h
    go_enter Try.func54, Try.ntmps54
    go_wp2
    go_ret
    exact ⟨ret_int (by unfold zag; omega), rfl⟩
  · have hb : (x % 2 == 1) = false := by simpa using h
    go_enter Try.func54, Try.ntmps54
    go_wp2
    go_ret
    exact ⟨ret_int (by unfold zag; omega), rfl⟩
end Go.Proofs.Ytmejoococajikaa

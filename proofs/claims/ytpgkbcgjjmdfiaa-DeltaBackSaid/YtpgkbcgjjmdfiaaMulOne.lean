/- math/bits.Mul by one; a row that is overwritten. -/
import Derived.Test.YtpgkbcgjjmdfiaaRows2
import Derived.Test.YtpgkbcgjjmdfiaaBitsA
import Derived.Laws.CopyOwn
import Derived.Deep.RegionLaw
namespace Go.Proofs.Ytpgkbcgjjmdfiaa
open Go.RowKit

theorem and32 (n : Nat) (h : n < 4294967296) : bits BinOp.and IntKind.u64 (n : Int) 4294967295 = n := by
  rw [show (4294967295 : Int) = ((2 ^ 32 - 1 : Nat) : Int) from rfl, u64_and_nat _ _ (by omega) (by decide), Nat.and_two_pow_sub_one_eq_mod, Nat.mod_eq_of_lt h]
set_option maxHeartbeats 400000 in
theorem Mul64_one (n : Nat) (hn : n ≤ 1000000) (w : World) :
    Calls Try.prog 89 #[.int .u64 1, .int .u64 n] w fun e w' => e = .returned (.tuple #[.int .u64 0, .int .u64 n]) ∧ w = w' := by
  have h1 := and32 n (by omega)
  have h2 : (n : Int) / 4294967296 = 0 := by omega
  have h3 : bits BinOp.and IntKind.u64 1 4294967295 = 1 := by decide
  have h4 : bits BinOp.and IntKind.u64 0 4294967295 = 0 := by decide
  go_enter Try.func89, Try.ntmps89
  go_wp2_with fail
  go_ret2
  exact ⟨by simp, rfl⟩
set_option maxHeartbeats 400000 in
theorem Mul_one (n : Nat) (hn : n ≤ 1000000) (w : World) :
    Calls Try.prog 84 #[.int .u64 1, .int .u64 n] w fun e w' => e = .returned (.tuple #[.int .u64 0, .int .u64 n]) ∧ w = w' := by
  go_enter Try.func84, Try.ntmps84
  go_wp2_with fail
  refine (Mul64_one _ hn _).mono ?_; rintro e w' ⟨rfl, rfl⟩
  go_wp2_with fail
  go_ret2
  exact ⟨rfl, rfl⟩
theorem splice_get {cur : List Value} {q m : Nat} {x : Value} (hq : q + m ≤ cur.length) (h : ∀ j, j < q → cur[j]? = some x) (j : Nat) (hj : j < q + m) : (splice cur q (List.replicate m x))[j]? = some x := by
  unfold splice
  rcases Nat.lt_or_ge j q with h1 | h1
  · rw [List.getElem?_append_left (by rw [List.length_take]; omega), List.getElem?_take_of_lt h1]
    exact h j h1
  · rw [List.getElem?_append_right (by rw [List.length_take]; omega), List.getElem?_append_left (by rw [List.length_replicate, List.length_take]; omega), List.getElem?_replicate, if_pos (by rw [List.length_take]; omega)]
end Go.Proofs.Ytpgkbcgjjmdfiaa

/- The walks through the laws of widths. -/
import Derived.Test.YtbkdhnlhhampfaaRefW
namespace Go.Proofs.Ytbkdhnlhhampfaa
open Go.RowKit

set_option maxHeartbeats 1000000 in
theorem WidthsCodes_walk (w : World) (c : Int) (_hc : -9223372036854775808 ≤ c ∧ c < 9223372036854775808) (x : Int) (_hx : -9223372036854775808 ≤ x ∧ x < 9223372036854775808) (b : Int) (_hb : -9223372036854775808 ≤ b ∧ b < 9223372036854775808) :
    Calls Try.prog 4 #[.int .i64 c, .int .i64 x, .int .i64 b] w fun e w' => e = .returned (.bool true) ∧ Below w.heap.size w w' := by
  go_enter Try.func4, Try.ntmps4
  go_wp2_with fail
  refine (shown02_any _).mono ?_; rintro e w1 ⟨rfl, hb1⟩
  go_wp2_with fail
  refine (Of_any _ _).mono ?_; rintro e w2 ⟨rfl, hb2⟩
  go_wp2_with fail
  refine (refOf_any _ _ (by omega) (by omega)).mono ?_; rintro e w' ⟨rfl, rfl⟩
  go_wp2_with fail
  refine (Code_any _ _).mono ?_; rintro e w3 ⟨rfl, hb3⟩
  go_wp2_with fail
  refine (refCode_any _ _).mono ?_; rintro e w' ⟨rfl, rfl⟩
  go_wp2_with fail
  refine (Closest_any _ _).mono ?_; rintro e w4 ⟨rfl, hb4⟩
  go_wp2_with fail
  refine (refClosest_any _ _).mono ?_; rintro e w' ⟨rfl, rfl⟩
  go_wp2_with fail
  go_ret
  exact ⟨rfl, on (on (on hb1 hb2) hb3) hb4⟩
theorem and31 (a : Int) : 0 ≤ bits BinOp.and IntKind.i64 a 31 ∧ bits BinOp.and IntKind.i64 a 31 ≤ 31 := by
  have h : (BitVec.ofInt 64 a &&& BitVec.ofInt 64 31).toNat ≤ 31 := by
    rw [BitVec.toNat_and]
    exact Nat.and_le_right
  show 0 ≤ IntKind.i64.wrap ((BitVec.ofInt 64 a &&& BitVec.ofInt 64 31).toNat : Int) ∧ IntKind.i64.wrap ((BitVec.ofInt 64 a &&& BitVec.ofInt 64 31).toNat : Int) ≤ 31
  rw [IntWalk.i64_in _ (by omega)]
  omega
set_option maxHeartbeats 1000000 in
theorem WidthsBack_walk (w : World) (a : Int) (_ha : -9223372036854775808 ≤ a ∧ a < 9223372036854775808) (b : Int) (_hb : -9223372036854775808 ≤ b ∧ b < 9223372036854775808) :
    Calls Try.prog 5 #[.int .i64 a, .int .i64 b] w fun e w' => e = .returned (.bool true) ∧ Below w.heap.size w w' := by
  have qa := and31 a; have qb := and31 b
  go_enter Try.func5, Try.ntmps5
  go_wp2_with fail
  refine (shown02_any _).mono ?_; rintro e w1 ⟨rfl, hb1⟩
  go_wp2_with fail
  generalize bits BinOp.and IntKind.i64 a 31 = x at *
  generalize bits BinOp.and IntKind.i64 b 31 = y at *
  refine (Of_any _ _).mono ?_; rintro e w2 ⟨rfl, hb2⟩
  go_wp2_with fail
  refine (Of_any _ _).mono ?_; rintro e w3 ⟨rfl, hb3⟩
  obtain ⟨v1, v2, v3, v4⟩ := wOf_in x ⟨by omega, by omega⟩
  obtain ⟨u1, u2, u3, u4⟩ := wOf_in y ⟨by omega, by omega⟩
  have hlt := wOf_lt_iff x y ⟨by omega, by omega⟩ ⟨by omega, by omega⟩
  generalize wOf x = v at *
  generalize wOf y = u at *
  have V3 := Lib.hid v3; have V4 := Lib.hid v4; clear v3 v4 u3 u4
  by_cases hxy : x < y
  · have huv := hlt.2 hxy
    clear hlt
    go_wp2_with fail
    refine (Code_any _ _).mono ?_; rintro e w4 ⟨rfl, hb4⟩
    rw [V3.out]
    go_wp2_with fail
    refine (Closest_any _ _).mono ?_; rintro e w5 ⟨rfl, hb5⟩
    rw [V4.out]
    go_wp2_with fail
    go_ret
    exact ⟨rfl, on (on (on (on hb1 hb2) hb3) hb4) hb5⟩
  · have huv : ¬ v < u := fun h => hxy (hlt.1 h)
    clear hlt
    go_wp2_with fail
    refine (Code_any _ _).mono ?_; rintro e w4 ⟨rfl, hb4⟩
    rw [V3.out]
    go_wp2_with fail
    refine (Closest_any _ _).mono ?_; rintro e w5 ⟨rfl, hb5⟩
    rw [V4.out]
    go_wp2_with fail
    go_ret
    exact ⟨rfl, on (on (on (on hb1 hb2) hb3) hb4) hb5⟩
theorem wrap_pow (t : Int) (h0 : 0 ≤ t) (h1 : t < 64) : IntKind.u64.wrap (2 ^ t.toNat) = ((2 ^ t.toNat : Nat) : Int) := by
  have h : 2 ^ t.toNat ≤ 2 ^ 63 := Nat.pow_le_pow_right (by omega) (by omega)
  have e : (2 : Int) ^ t.toNat = ((2 ^ t.toNat : Nat) : Int) := by rw [Int.natCast_pow]; rfl
  have hp := Nat.two_pow_pos t.toNat
  rw [e]
  generalize 2 ^ t.toNat = m at *
  exact IntWalk.u64_in _ (by omega)
/-- A number has room in a width of at least its bits; and none in fewer. -/
theorem pow_fits (x t : Int) (hx : 0 ≤ x) (n : Nat) (hn : n = blen x.toNat) (h0 : (n : Int) ≤ t) (h1 : t < 64) : x < IntKind.u64.wrap (2 ^ t.toNat) := by
  rw [wrap_pow t (by omega) h1]
  have h := blen_lt x.toNat
  have h2 : 2 ^ blen x.toNat ≤ 2 ^ t.toNat := Nat.pow_le_pow_right (by omega) (by omega)
  omega
theorem pow_less (x t : Int) (hx : 0 ≤ x) (n : Nat) (hn : n = blen x.toNat) (h0 : 0 ≤ t) (h1 : t < (n : Int)) (h2 : n ≤ 64) : IntKind.u64.wrap (2 ^ t.toNat) ≤ x := by
  rw [wrap_pow t h0 (by omega)]
  have h3 : x.toNat ≠ 0 := fun e => by rw [e, blen_zero] at hn; omega
  have h4 := (blen_ge x.toNat h3).2
  have h5 : 2 ^ t.toNat ≤ 2 ^ (blen x.toNat - 1) := Nat.pow_le_pow_right (by omega) (by omega)
  omega

set_option maxHeartbeats 2000000 in
theorem WidthsRoom_walk (w : World) (x : Int) (hx : 0 ≤ x ∧ x < 18446744073709551616) :
    Calls Try.prog 6 #[.int .u64 x] w fun e w' => e = .returned (.bool true) ∧ Below w.heap.size w w' := by
  have hn := blen_64 x.toNat (by omega)
  obtain ⟨n, hnn⟩ : ∃ n, n = blen x.toNat := ⟨_, rfl⟩
  have hr := wClosest_room (n : Int) (by omega) (by omega)
  have hz : (((n : Int) == 0) == (x == 0)) = true := by
    have e := blen_eq_zero x.toNat
    by_cases h : x = 0
    · have h2 : n = 0 := by rw [hnn]; exact e.2 (by omega)
      rw [h, h2]; rfl
    · have h2 : ¬ n = 0 := fun h3 => h (by have := e.1 (hnn ▸ h3); omega)
      have h4 : ((n : Int) == 0) = false := by simpa using h2
      have h5 : (x == 0) = false := by simpa using h
      rw [h4, h5]; rfl
  have HZ := Lib.hid hz; clear hz
  go_enter Try.func6, Try.ntmps6
  go_wp2_with fail
  refine (shown02_any _).mono ?_; rintro e w1 ⟨rfl, hb1⟩
  go_wp2_with fail
  refine (Bits_any _ _ (by omega) (by omega)).mono ?_; rintro e w' ⟨rfl, rfl⟩
  rw [← hnn] at hn ⊢
  have HN := Lib.hid hnn; clear hnn
  go_wp2_with fail
  refine (Closest_any _ _).mono ?_; rintro e w2 ⟨rfl, hb2⟩
  obtain ⟨r1, r2, r3, r4, r5⟩ := hr
  obtain ⟨v, hv⟩ : ∃ v, v = wClosest n := ⟨_, rfl⟩
  rw [← hv] at r1 r2 r3 r4 r5 ⊢
  clear hv
  have R5 := Lib.hid r5; clear r5
  have n0 : (0 : Int) ≤ n := by omega
  have n1 : (n : Int) ≤ 64 := by omega
  by_cases h64 : v = 64
  · subst h64
    go_wp2_with fail
    refine (Code_any _ _).mono ?_; rintro e w3 ⟨rfl, hb3⟩
    have r6 := R5.out
    rw [show wCode 64 = 31 from by decide] at r6 ⊢
    go_wp2_with fail
    refine (Of_any _ _).mono ?_; rintro e w4 ⟨rfl, hb4⟩
    rw [show wOf 30 = 56 from by decide]
    have h56 : (72057594037927936 : Int) ≤ x := by
      have r7 := r6 (by decide)
      rw [show wOf (31 - 1) = 56 from by decide] at r7
      have := pow_less x 56 hx.1 n HN.out (by omega) r7.2.1 hn
      rw [wrap_pow 56 (by omega) (by omega)] at this
      exact this
    clear r6
    have hz2 := HZ.out
    go_wp2_with fail
    go_ret
    exact ⟨rfl, on (on (on hb1 hb2) hb3) hb4⟩
  · have h64' : (v == 64) = false := by simpa using h64
    have hfit := pow_fits x v hx.1 n HN.out r1 (by omega)
    go_wp2_with fail
    refine (Code_any _ _).mono ?_; rintro e w3 ⟨rfl, hb3⟩
    obtain ⟨c, hc⟩ : ∃ c, c = wCode v := ⟨_, rfl⟩
    have cr := wCode_range v
    have r6 := R5.out
    rw [← hc] at r4 r6 cr ⊢
    clear hc R5
    by_cases h0 : c = 0
    · subst h0
      clear r6
      go_wp2_with fail
      go_ret
      exact ⟨ret_bool HZ.out, on (on hb1 hb2) hb3⟩
    · obtain ⟨q1, q2, q3⟩ := r6 (by omega)
      have h0' : (c == 0) = false := by simpa using h0
      have hle := pow_less x (wOf (c - 1)) hx.1 n HN.out (by omega) q2 hn
      clear r6
      go_wp2_with fail
      refine (Of_any _ _).mono ?_; rintro e w4 ⟨rfl, hb4⟩
      generalize wOf (c - 1) = t at *
      go_wp2_with fail
      go_ret
      exact ⟨ret_bool HZ.out, on (on (on hb1 hb2) hb3) hb4⟩
end Go.Proofs.Ytbkdhnlhhampfaa

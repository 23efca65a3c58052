/- The reference of widths.Bits and widths.Most. -/
import Derived.Test.YtpngbljfboceeaaMost
namespace Go.Proofs.Ytpngbljfboceeaa
open Go.RowKit

set_option maxRecDepth 100000 in
set_option maxHeartbeats 400000 in
theorem refBits_any (x : Nat) (w : World) (h1 : x < 18446744073709551616) :
    Calls Try.prog 56 #[.int .u64 x] w fun e w' => e = .returned (.int .i64 (blen x)) ∧ w = w' := by
  go_enter Try.func56, Try.ntmps56
  go_wp2_with fail
  go_loop [0, 3] (fun y n => ∃ k m : Nat, k ≤ 64 ∧ n = .int .i64 k ∧ y = .int .u64 m ∧ m ≤ x ∧ Hid (m = x / 2 ^ k) ∧ Hid (k = 0 ∨ 2 ^ (k - 1) ≤ x)) (fun y _ => (intOf y).toNat)
  case atStart => exact ⟨0, x, Nat.zero_le _, rfl, rfl, by omega, Lib.hid (by simp), .inl rfl⟩
  case round =>
    obtain ⟨k, m, hk, rfl, rfl, hm, hmo, hlo⟩ := hrel
    by_cases hz : 0 < m
    · have hk64 : k < 64 := by
        by_cases e : k = 64
        · subst e
          have : m = 0 := by rw [hmo.out]; exact Nat.div_eq_of_lt (by omega)
          omega
        · omega
      go_wp2
      go_round
      case rel =>
        refine ⟨k + 1, m / 2, by omega, by go_num, rfl, by omega, Lib.hid (by rw [hmo.out, div2_pow]), .inr ?_⟩
        have : 1 ≤ x / 2 ^ k := by rw [← hmo.out]; exact hz
        have := (Nat.le_div_iff_mul_le (Nat.two_pow_pos k)).1 this
        simpa using this
      case measure => simp [intOf]; omega
    · go_wp2
      go_ret
      refine ⟨ret_int ?_, rfl⟩
      have h0 : x / 2 ^ k = 0 := by rw [← hmo.out]; omega
      have h2 : x < 2 ^ k := by
        rcases (Nat.div_eq_zero_iff).1 h0 with h | h
        · have := Nat.two_pow_pos k; omega
        · exact h
      rw [blen_of x k h2 hlo.out]

set_option maxRecDepth 100000 in
set_option maxHeartbeats 400000 in
theorem refMost_any (l : List Int) (A : Option Addr) (n cap : Nat) (w : World) (hr : Ri w .u64 A n l) (hu : U64 l) (hc : n ≤ 9223372036854775807) :
    Calls Try.prog 57 #[.slice A n cap] w fun e w' => e = .returned (.int .i64 (mostBits l)) ∧ w = w' := by
  have HN := Lib.hid hr.len
  have HR := Lib.hid hr; clear hr
  have HU := Lib.hid hu; clear hu
  go_enter Try.func57, Try.ntmps57
  go_wp2_with fail
  go_loop [3, 4] (fun a i => ∃ k m : Nat, k ≤ n ∧ i = .int .i64 k ∧ a = .int .i64 m ∧ m ≤ 64 ∧ Hid (m = mostBits (l.take k))) (fun _ i => n - (intOf i).toNat)
  case atStart => exact ⟨0, 0, Nat.zero_le _, rfl, rfl, by omega, Lib.hid (by simp [mostBits])⟩
  case round =>
    obtain ⟨k, m, hk, rfl, rfl, hm, hmo⟩ := hrel
    by_cases hlt : k < n
    · have hkl : k < l.length := by rw [HN.out]; exact hlt
      obtain ⟨b, o, hA, _, hcell⟩ := HR.out.at_ hlt
      subst hA
      have hy := HU.out _ (getD_mem l k hkl)
      obtain ⟨y, hyy⟩ : ∃ y : Nat, (y : Int) = l.getD k 0 := ⟨(l.getD k 0).toNat, by omega⟩
      rw [← hyy] at hcell hy
      obtain ⟨_, hy1⟩ := hy
      have HY := Lib.hid hyy; clear hyy hkl
      have hb := blen_64 y (by omega)
      go_wp2_with fail
      refine (refBits_any _ _ (by omega)).mono ?_
      rintro e w' ⟨rfl, rfl⟩
      obtain ⟨t, ht⟩ : ∃ t, t = blen y := ⟨_, rfl⟩
      rw [← ht] at hb ⊢
      have HT := Lib.hid ht; clear ht
      by_cases hmt : m ≤ t
      · go_wp2_with fail
        go_round
        case rel =>
          refine ⟨k + 1, max m t, by omega, by go_num, by go_num, by omega, Lib.hid ?_⟩
          rw [take_snoc l k (by rw [HN.out]; exact hlt), mostBits_snoc, ← hmo.out, ← HY.out, Int.toNat_natCast, ← HT.out]
        case measure => simp [intOf]; omega
      · go_wp2_with fail
        go_round
        case rel =>
          refine ⟨k + 1, max m t, by omega, by go_num, by go_num, by omega, Lib.hid ?_⟩
          rw [take_snoc l k (by rw [HN.out]; exact hlt), mostBits_snoc, ← hmo.out, ← HY.out, Int.toNat_natCast, ← HT.out]
        case measure => simp [intOf]; omega
    · go_wp2_with fail
      go_ret
      refine ⟨ret_int ?_, rfl⟩
      rw [hmo.out, List.take_of_length_le (by rw [HN.out]; omega)]
end Go.Proofs.Ytpngbljfboceeaa

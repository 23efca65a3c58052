/- The reference's codes and closest widths; the document's examples. -/
import Derived.Test.YtbkdhnlhhampfaaMost
namespace Go.Proofs.Ytbkdhnlhhampfaa
open Go.RowKit

set_option maxHeartbeats 400000 in
theorem refCode_any (x : Int) (w : World) :
    Calls Try.prog 25 #[.int .i64 x] w fun e w' => e = .returned (.int .i64 (wCode x)) ∧ w = w' := by
  go_enter Try.func25, Try.ntmps25
  go_wp2_with fail
  go_loop [3] (fun i => ∃ k : Nat, k ≤ 32 ∧ i = .int .i64 k ∧ Hid (∀ d : Nat, d < k → wOf d ≠ x)) (fun i => 32 - (intOf i).toNat)
  case atStart => exact ⟨0, Nat.zero_le _, rfl, Lib.hid (fun d hd => absurd hd (by omega))⟩
  case round =>
    obtain ⟨k, hk, rfl, hno⟩ := hrel
    by_cases hlt : k < 32
    · have hr := wOf_range k
      go_wp2_with fail
      refine (refOf_any _ _ (by omega) (by omega)).mono ?_
      rintro e w' ⟨rfl, rfl⟩
      obtain ⟨t, ht⟩ : ∃ t, t = wOf k := ⟨_, rfl⟩
      rw [← ht] at hr ⊢
      have HT := Lib.hid ht; clear ht
      by_cases hx : t = x
      · subst hx
        go_wp2_with fail
        go_ret
        exact ⟨ret_int (wCode_of k _ (by omega) (by omega) HT.out.symm).symm, rfl⟩
      · have hne : (t == x) = false := by simpa using hx
        go_wp2_with fail
        go_round
        case rel =>
          refine ⟨k + 1, by omega, by go_num, Lib.hid fun d hd => ?_⟩
          by_cases e : d = k
          · subst e; rw [← HT.out]; exact hx
          · exact hno.out d (by omega)
        case measure => simp [intOf]; omega
    · go_wp2_with fail
      go_ret
      exact ⟨ret_int (wCode_none x fun c hc => hno.out c (by omega)).symm, rfl⟩

set_option maxHeartbeats 400000 in
theorem refClosest_any (x : Int) (w : World) :
    Calls Try.prog 27 #[.int .i64 x] w fun e w' => e = .returned (.int .i64 (wClosest x)) ∧ w = w' := by
  go_enter Try.func27, Try.ntmps27
  go_wp2_with fail
  go_loop [3] (fun i => ∃ k : Nat, k ≤ 32 ∧ i = .int .i64 k ∧ Hid (∀ d : Nat, d < k → wOf d < x)) (fun i => 32 - (intOf i).toNat)
  case atStart => exact ⟨0, Nat.zero_le _, rfl, Lib.hid (fun d hd => absurd hd (by omega))⟩
  case round =>
    obtain ⟨k, hk, rfl, hno⟩ := hrel
    by_cases hlt : k < 32
    · have hr := wOf_range k
      go_wp2_with fail
      refine (refOf_any _ _ (by omega) (by omega)).mono ?_
      rintro e w' ⟨rfl, rfl⟩
      obtain ⟨t, ht⟩ : ∃ t, t = wOf k := ⟨_, rfl⟩
      rw [← ht] at hr ⊢
      have HT := Lib.hid ht; clear ht
      by_cases hx : x ≤ t
      · go_wp2_with fail
        refine (refOf_any _ _ (by omega) (by omega)).mono ?_
        rintro e w' ⟨rfl, rfl⟩
        go_wp2_with fail
        go_ret
        exact ⟨ret_int (wClosest_of x k hlt (by rw [← HT.out]; exact hx) fun d hd => by have := hno.out d hd; omega), rfl⟩
      · go_wp2_with fail
        go_round
        case rel =>
          refine ⟨k + 1, by omega, by go_num, Lib.hid fun d hd => ?_⟩
          by_cases e : d = k
          · subst e; rw [← HT.out]; omega
          · exact hno.out d (by omega)
        case measure => simp [intOf]; omega
    · go_wp2_with fail
      go_ret
      exact ⟨ret_int (wClosest_none x fun c hc => by have := hno.out c (by omega); omega).symm, rfl⟩

set_option maxHeartbeats 1000000 in
theorem shown02_any (w : World) :
    Calls Try.prog 21 #[] w fun e w' => e = .returned (.bool true) ∧ Below w.heap.size w w' := by
  go_enter Try.func21, Try.ntmps21
  go_wp2_with fail
  refine (Of_any _ _).mono ?_; rintro e w1 ⟨rfl, hb1⟩
  rw [show wOf 23 = 24 from by decide]
  go_wp2_with fail
  refine (Of_any _ _).mono ?_; rintro e w2 ⟨rfl, hb2⟩
  rw [show wOf 24 = 26 from by decide]
  go_wp2_with fail
  refine (Of_any _ _).mono ?_; rintro e w3 ⟨rfl, hb3⟩
  rw [show wOf 31 = 64 from by decide]
  go_wp2_with fail
  refine (Of_any _ _).mono ?_; rintro e w4 ⟨rfl, hb4⟩
  rw [show wOf 32 = 0 from by decide]
  go_wp2_with fail
  refine (Code_any _ _).mono ?_; rintro e w5 ⟨rfl, hb5⟩
  rw [show wCode 25 = -1 from by decide]
  go_wp2_with fail
  refine (Closest_any _ _).mono ?_; rintro e w6 ⟨rfl, hb6⟩
  rw [show wClosest 25 = 26 from by decide]
  go_wp2_with fail
  refine (Closest_any _ _).mono ?_; rintro e w7 ⟨rfl, hb7⟩
  rw [show wClosest 33 = 40 from by decide]
  go_wp2_with fail
  go_ret
  have z1 := hb1.size; have z2 := hb2.size; have z3 := hb3.size; have z4 := hb4.size; have z5 := hb5.size; have z6 := hb6.size
  exact ⟨rfl, (((((hb1.trans (hb2.mono (by omega))).trans (hb3.mono (by omega))).trans (hb4.mono (by omega))).trans (hb5.mono (by omega))).trans (hb6.mono (by omega))).trans (hb7.mono (by omega))⟩
end Go.Proofs.Ytbkdhnlhhampfaa

/- The reference's codes and closest widths; the document's examples. -/
import Derived.Test.YtpngbljfboceeaaMost
namespace Go.Proofs.Ytpngbljfboceeaa
open Go.RowKit

set_option maxRecDepth 100000 in
set_option maxHeartbeats 400000 in
theorem refCode_any (x : Int) (w : World) :
    Calls Try.prog 39 #[.int .i64 x] w fun e w' => e = .returned (.int .i64 (wCode x)) ∧ w = w' := by
  go_enter Try.func39, Try.ntmps39
  go_wp2_with fail
  go_loop [3] (fun i => ∃ k : Nat, k ≤ 32 ∧ i = .int .i64 k ∧ Hid (∀ d : Nat, d < k → wOf d ≠ x)) (fun i => 32 - (intOf i).toNat)
  case atStart => exact ⟨0, Nat.zero_le _, rfl, Lib.hid (fun d hd => absurd hd (by omega))⟩
  case round =>
    obtain ⟨k, hk, rfl, hno⟩ := hrel
    by_cases hlt : k < 32
    · have hr := wOf_range k
      go_wp2_with fail
      refine (refOf_any _ _ (by omega) (by omega)).mono ?_
      rintro e w' ⟨rfl, rfl⟩
      obtain ⟨t, ht⟩ : ∃ t, t = wOf k := ⟨_, rfl⟩
      rw [← ht] at hr ⊢
      have HT := Lib.hid ht; clear ht
      by_cases hx : t = x
      · subst hx
        go_wp2_with fail
        go_ret
        exact ⟨ret_int (wCode_of k _ (by omega) (by omega) HT.out.symm).symm, rfl⟩
      · have hne : (t == x) = false := by simpa using hx
        go_wp2_with fail
        go_round
        case rel =>
          refine ⟨k + 1, by omega, by go_num, Lib.hid fun d hd => ?_⟩
          by_cases e : d = k
          · subst e; rw [← HT.out]; exact hx
          · exact hno.out d (by omega)
        case measure => simp [intOf]; omega
    · go_wp2_with fail
      go_ret
      exact ⟨ret_int (wCode_none x fun c hc => hno.out c (by omega)).symm, rfl⟩

set_option maxRecDepth 100000 in
set_option maxHeartbeats 400000 in
theorem refClosest_any (x : Int) (w : World) :
    Calls Try.prog 41 #[.int .i64 x] w fun e w' => e = .returned (.int .i64 (wClosest x)) ∧ w = w' := by
  go_enter Try.func41, Try.ntmps41
  go_wp2_with fail
  go_loop [3] (fun i => ∃ k : Nat, k ≤ 32 ∧ i = .int .i64 k ∧ Hid (∀ d : Nat, d < k → wOf d < x)) (fun i => 32 - (intOf i).toNat)
  case atStart => exact ⟨0, Nat.zero_le _, rfl, Lib.hid (fun d hd => absurd hd (by omega))⟩
  case round =>
    obtain ⟨k, hk, rfl, hno⟩ := hrel
    by_cases hlt : k < 32
    · have hr := wOf_range k
      go_wp2_with fail
      refine (refOf_any _ _ (by omega) (by omega)).mono ?_
      rintro e w' ⟨rfl, rfl⟩
      obtain ⟨t, ht⟩ : ∃ t, t = wOf k := ⟨_, rfl⟩
      rw [← ht] at hr ⊢
      have HT := Lib.hid ht; clear ht
      by_cases hx : x ≤ t
      · go_wp2_with fail
        refine (refOf_any _ _ (by omega) (by omega)).mono ?_
        rintro e w' ⟨rfl, rfl⟩
        go_wp2_with fail
        go_ret
        exact ⟨ret_int (wClosest_of x k hlt (by rw [← HT.out]; exact hx) fun d hd => by have := hno.out d hd; omega), rfl⟩
      · go_wp2_with fail
        go_round
        case rel =>
          refine ⟨k + 1, by omega, by go_num, Lib.hid fun d hd => ?_⟩
          by_cases e : d = k
          · subst e; rw [← HT.out]; omega
          · exact hno.out d (by omega)
        case measure => simp [intOf]; omega
    · go_wp2_with fail
      go_ret
      exact ⟨ret_int (wClosest_none x fun c hc => by have := hno.out c (by omega); omega).symm, rfl⟩
end Go.Proofs.Ytpngbljfboceeaa

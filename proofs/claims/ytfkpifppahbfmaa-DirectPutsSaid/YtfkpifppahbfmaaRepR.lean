/- The reference of a number a few times: Made and Put. -/
import Derived.Test.YtfkpifppahbfmaaRepP
import Derived.Test.YtfkpifppahbfmaaMost
namespace Go.Proofs.Ytfkpifppahbfmaa
open Go.RowKit

def madeR (u : Int) (s : Bool) : Int × Bool := if s then (zag u, true) else if 9223372036854775808 ≤ u then (0, false) else (u, true)
set_option maxRecDepth 100000 in
theorem refMade_any (u : Int) (s : Bool) (w : World) (h0 : 0 ≤ u) (hu : u < 18446744073709551616) (x : Int) (ok : Bool) (hx : madeR u s = (x, ok)) :
    Calls Try.prog 112 #[.int .u64 u, .bool s] w fun e w' => e = .returned (.tuple #[.int .i64 x, .bool ok]) ∧ w = w' := by
  unfold madeR at hx
  cases s
  · by_cases h : 9223372036854775808 ≤ u
    · simp only [Bool.false_eq_true, if_false, if_pos h] at hx
      injection hx with e1 e2
      subst e1 e2
      go_enter Try.func112, Try.ntmps112
      go_wp2_with fail
      go_ret2
      exact ⟨rfl, rfl⟩
    · simp only [Bool.false_eq_true, if_false, if_neg h] at hx
      injection hx with e1 e2
      subst e1 e2
      go_enter Try.func112, Try.ntmps112
      go_wp2_with fail
      go_ret2
      exact ⟨rfl, rfl⟩
  · simp only [if_true] at hx
    injection hx with e1 e2
    subst e2
    have HE := Lib.hid e1; clear e1
    go_enter Try.func112, Try.ntmps112
    go_wp2_with fail
    refine (refZag_any _ _ (by omega) (by omega)).mono ?_; rintro e w' ⟨rfl, rfl⟩
    rw [HE.out]
    go_wp2_with fail
    go_ret2
    exact ⟨rfl, rfl⟩

set_option maxRecDepth 100000 in
set_option maxHeartbeats 1000000 in
theorem refPut_any (x t : Int) (s : Bool) (w : World) (h0 : -9223372036854775808 ≤ x) (h1 : x < 9223372036854775808) (l : List Int) (er : Int) (hl : putR x t s = (l, er)) :
    Calls Try.prog 151 #[.int .i64 x, .int .i64 t, .bool s] w (BytesErr w l er) := by
  by_cases hbad : t < 3 ∨ 10 < t ∨ (s = false ∧ x < 0)
  · unfold putR at hl
    rw [if_pos hbad] at hl
    injection hl with hl1 hl2
    subst hl1 hl2
    have hd : (3 ≤ t ∧ t ≤ 10 ∧ (s || decide (0 ≤ x)) = false) ∨ t < 3 ∨ 10 < t := by
      cases s
      · simp at hbad ⊢; omega
      · simp at hbad ⊢; omega
    clear hbad
    go_enter Try.func151, Try.ntmps151
    go_wp2_with fail
    refine (refPlain_any _ _ _ h0 h1).mono ?_; rintro e w' ⟨rfl, rfl⟩
    generalize (s || decide (0 ≤ x)) = ok at *
    generalize (if s = true then zig x else max x 0) = u at *
    rcases hd with ⟨ht1, ht2, rfl⟩ | ht | ht
    all_goals
      go_wp2_with fail
      go_ret2
      exact ⟨none, 0, 0, rfl, Sl.nil _ _, Below.refl _ _⟩
  · have hok : (s || decide (0 ≤ x)) = true := by
      cases s
      · simp at hbad ⊢; omega
      · rfl
    have hu : (if s then zig x else max x 0) = plainU x s := by
      unfold plainU
      cases s
      · simp only [Bool.false_eq_true, if_false]
        simp at hok; omega
      · rfl
    have hur : 0 ≤ plainU x s ∧ plainU x s < 18446744073709551616 := by
      have := zig_range x h0 h1
      unfold plainU
      cases s <;> simp at hok ⊢ <;> omega
    obtain ⟨u, huu⟩ : ∃ u : Nat, (u : Int) = plainU x s := ⟨(plainU x s).toNat, by omega⟩
    unfold putR at hl
    rw [if_neg hbad, ← huu, Int.toNat_natCast] at hl
    injection hl with hl1 hl2
    subst hl2
    have ht1 : 3 ≤ t := by omega
    have ht2 : t ≤ 10 := by omega
    have hul : u < 18446744073709551616 := by omega
    clear hbad hur
    have hln := longN_range u hul
    obtain ⟨n, hn⟩ : ∃ n, n = longN u := ⟨_, rfl⟩
    rw [← hn] at hln hl1
    unfold longN at hn
    have HL1 := Lib.hid hl1; clear hl1
    obtain ⟨i0, hi, hz0, hz1, hz2⟩ := info_parts info_u8
    go_enter Try.func151, Try.ntmps151
    go_wp2_with fail
    refine (refPlain_any _ _ _ h0 h1).mono ?_; rintro e w' ⟨rfl, rfl⟩
    rw [hu, ← huu, hok]
    clear hu hok huu
    go_wp2_with fail
    refine (refBits_any _ _ hul).mono ?_; rintro e w' ⟨rfl, rfl⟩
    have hbl := blen_64 u hul
    generalize blen u = b at *
    have hcase : ((1 : Int) < ((b : Int) + 7) / 8 ∧ Hid ((n : Int) = ((b : Int) + 7) / 8)) ∨ (((b : Int) + 7) / 8 ≤ 1 ∧ Hid ((n : Int) = 1)) := by
      rcases Nat.lt_or_ge 8 b with h | h
      · refine .inl ⟨by omega, ?_⟩
        show (n : Int) = _; omega
      · refine .inr ⟨by omega, ?_⟩
        show (n : Int) = 1; omega
    clear hn
    rcases hcase with ⟨hc, HN⟩ | ⟨hc, HN⟩
    all_goals
      go_wp2_with fail
      go_loopw [11, 12] (fun v i wr => ∃ (k p : Nat) (acc : List Int), k + p = n ∧ i = .int .i64 ((p : Int) - 1) ∧ Hid (acc ++ hiB u p = l) ∧ Hid (wr.ownsRow w.heap.size 5 1 v (1 + k) (acc.map (Value.int .u8))) ∧ Below w.heap.size w wr) (fun _ i _ => (intOf i + 1).toNat)
      case atStart =>
        refine ⟨0, n, [8 * ((n : Int) - 1) + t - 3], by omega, (by rw [HN.out] <;> rfl), Lib.hid (by rw [← HL1.out]; rfl), Lib.hid ?_, (Below.refl _ _).alloc (Nat.le_refl _) _⟩
        have h := World.ownsRow_lit (base := w.heap.size) (e := 5) (size := 1) w #[.int .u8 (8 * ((n : Int) - 1) + t - 3)] 1 (Nat.le_refl _) (by unfold maxLen; omega) rfl
        rw [HN.out] at h ⊢
        first | exact h | (simpa using h)
      case round =>
        obtain ⟨k, p, acc, hk, rfl, hacc, ho, hbw⟩ := hrel
        have hsz := hbw.size
        by_cases hp : 0 < p
        · obtain ⟨q, rfl⟩ : ∃ q, p = q + 1 := ⟨p - 1, by omega⟩
          go_wp2_with (at_builtin; refine wpList_append_any _ rfl _ _ 25 rfl w.heap.size 5 i0 (.int .u8 0) 1 1 Try.underlying25 hi hz0 hz1 hz2 rfl (by decide) _ _ _ rfl (ho.out.alloc _) _ 1 _ [.int .u8 (↑u / 2 ^ (8 * q) % 256)] rfl (Rd.one _ _ _) (by intro u hu; simp at hu; subst hu; rfl) (by unfold maxLen; omega) (by omega) (by simp; omega) ?_; intro G cap w1 hown1 hgr _ _)
          have HOWN := Lib.hid hown1; clear hown1
          go_wp2_with fail
          go_roundw
          case rel =>
            refine ⟨k + 1, q, acc ++ [(u : Int) / 2 ^ (8 * q) % 256], by omega, rfl, Lib.hid ?_, Lib.hid ?_, push_ hbw (Nat.le_refl _) ho.out hgr⟩
            · rw [← hacc.out, List.append_assoc]; rfl
            · rw [List.map_append]; exact HOWN.out
          case measure => simp [intOf]
        · obtain rfl : p = 0 := by omega
          have ha : acc = l := by have := hacc.out; simpa [hiB] using this
          have ho' := ho.out
          rw [ha] at ho'
          have HO' := Lib.hid ho'
          clear ha ho' ho hacc
          go_wp2_with fail
          go_ret2
          obtain ⟨G, c, rfl⟩ := own_form HO'.out
          exact ⟨G, 1 + k, c, rfl, Sl.of_own HO'.out, hbw⟩
end Go.Proofs.Ytfkpifppahbfmaa

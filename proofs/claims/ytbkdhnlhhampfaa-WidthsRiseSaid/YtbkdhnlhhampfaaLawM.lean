/- The walks through the laws of widths that take several numbers. -/
import Derived.Test.YtbkdhnlhhampfaaRefW
namespace Go.Proofs.Ytbkdhnlhhampfaa
open Go.RowKit

set_option maxHeartbeats 1000000 in
theorem WidthsBits_walk (w : World) (x : Int) (hx : 0 ≤ x ∧ x < 18446744073709551616) (A : Option Addr) (n cap : Nat) (l : List Int) (hr : Ri w .u64 A n l) (hu : U64 l) (hc : n ≤ cap) (hm : cap ≤ maxLen) :
    Calls Try.prog 7 #[.int .u64 x, .slice A n cap] w fun e w' => e = .returned (.bool true) ∧ Below w.heap.size w w' := by
  unfold maxLen at hm
  obtain ⟨y, rfl⟩ := Int.eq_ofNat_of_zero_le hx.1
  have HU := Lib.hid hu; clear hu
  have HR := Lib.hid hr; clear hr
  have hpair : (n ≤ 200 ∧ Hid (∃ l2, Ri w .u64 A n l2 ∧ U64 l2)) ∨ (200 < n ∧ Hid (∃ l2, Ri w .u64 A 200 l2 ∧ U64 l2) ∧ ∃ b o, A = some ⟨b, o, none⟩) := by
    rcases Nat.lt_or_ge 200 n with h | h
    · obtain ⟨b, o, e, _⟩ := HR.out.all (by omega)
      exact .inr ⟨h, ⟨_, HR.out.first (by omega), HU.out.take _⟩, b, o, e⟩
    · exact .inl ⟨h, ⟨_, HR.out, HU.out⟩⟩
  rcases hpair with ⟨h200, h2⟩ | ⟨h200, h2, b, o, rfl⟩
  all_goals
    go_enter Try.func7, Try.ntmps7
    go_wp2_with fail
    refine (shown02_any _).mono ?_; rintro e w1 ⟨rfl, hb1⟩
    go_wp2_with fail
    refine (Bits_any _ _ (by omega) (by omega)).mono ?_; rintro e w' ⟨rfl, rfl⟩
    rw [Int.toNat_natCast]
    go_wp2_with fail
    refine (refBits_any _ _ (by omega)).mono ?_; rintro e w' ⟨rfl, rfl⟩
    go_wp2_with fail
    obtain ⟨l2, hr2, hu2⟩ := h2.out
    refine (Most_any l2 _ _ _ _ (hr2.below hb1) hu2 (by omega)).mono ?_; rintro e w' ⟨rfl, rfl⟩
    go_wp2_with fail
    refine (refMost_any l2 _ _ _ _ (hr2.below hb1) hu2 (by omega)).mono ?_; rintro e w' ⟨rfl, rfl⟩
    go_wp2_with fail
    go_ret
    exact ⟨rfl, hb1⟩

def maxAll (l : List Int) : Nat := l.foldl (fun m x => max m x.toNat) 0
theorem maxAll_snoc (l : List Int) (x : Int) : maxAll (l ++ [x]) = max (maxAll l) x.toNat := by simp [maxAll]
theorem blen_maxAll (l : List Int) : blen (maxAll l) = mostBits l := by
  have : ∀ (l : List Int) (m : Nat), blen (l.foldl (fun m x => max m x.toNat) m) = l.foldl (fun m x => max m (blen x.toNat)) (blen m) := by
    intro l
    induction l with
    | nil => intro m; rfl
    | cons a l ih => intro m; rw [List.foldl_cons, List.foldl_cons, ih, blen_max]
  exact this l 0

set_option maxHeartbeats 1000000 in
theorem WidthsRise_walk0 (w : World) (x y : Nat) (hx : x < 18446744073709551616) (hy : y < 18446744073709551616) (A : Option Addr) (n cap : Nat) (l : List Int) (hr : Ri w .u64 A n l) (hu : U64 l) (hc : n ≤ cap) (hm : cap ≤ maxLen) :
    Calls Try.prog 8 #[.int .u64 x, .int .u64 y, .slice A n cap] w fun e w' => e = .returned (.bool true) ∧ Below w.heap.size w w' := by
  unfold maxLen at hm
  have HU := Lib.hid hu; clear hu
  have HR := Lib.hid hr; clear hr
  have hpair : (n ≤ 200 ∧ Hid (∃ l2, Ri w .u64 A n l2 ∧ U64 l2)) ∨ (200 < n ∧ Hid (∃ l2, Ri w .u64 A 200 l2 ∧ U64 l2) ∧ ∃ b o, A = some ⟨b, o, none⟩) := by
    rcases Nat.lt_or_ge 200 n with h | h
    · obtain ⟨b, o, e, _⟩ := HR.out.all (by omega)
      exact .inr ⟨h, ⟨_, HR.out.first (by omega), HU.out.take _⟩, b, o, e⟩
    · exact .inl ⟨h, ⟨_, HR.out, HU.out⟩⟩
  obtain ⟨p, q, hpq, hq, hpick⟩ : ∃ p q : Nat, p ≤ q ∧ q < 18446744073709551616 ∧ ((y < x ∧ Hid (p = y ∧ q = x)) ∨ (x ≤ y ∧ Hid (p = x ∧ q = y))) := by
    rcases Nat.lt_or_ge y x with h | h
    · exact ⟨y, x, by omega, by omega, .inl ⟨h, rfl, rfl⟩⟩
    · exact ⟨x, y, by omega, by omega, .inr ⟨h, rfl, rfl⟩⟩
  rcases hpick with ⟨hxy, hp⟩ | ⟨hxy, hp⟩
  all_goals
    obtain ⟨rfl, rfl⟩ := hp.out
    have e1 := blen_mono hpq
    have e2 := blen_64 _ hq
    have e3 := wClosest_mono _ _ (Int.ofNat_le.2 e1) (by omega)
    clear hpq
    rcases hpair with ⟨h200, h2⟩ | ⟨h200, h2, b, o, rfl⟩
    all_goals
      go_enter Try.func8, Try.ntmps8
      go_wp2_with fail
      refine (shown02_any _).mono ?_; rintro e w1 ⟨rfl, hb1⟩
      go_wp2_with fail
      obtain ⟨l2, hr2, hu2⟩ := h2.out
      have hr2 := hr2.below hb1
      have HL := Lib.hid hr2.len
      have HR2 := Lib.hid hr2; clear hr2
      have HU2 := Lib.hid hu2; clear hu2
      clear hr2 h2 HR HU hc hm
      generalize hN : (200 : Nat) = N at *
      have hN1 : N ≤ 200 := by omega
      have HN := Lib.hid hN; clear hN
      go_loop [8, 9] (fun t i => ∃ k m : Nat, k ≤ N ∧ i = .int .i64 k ∧ t = .int .u64 m ∧ m < 18446744073709551616 ∧ Hid (k ≤ l2.length ∧ m = maxAll (l2.take k))) (fun _ i => N - (intOf i).toNat)
      case atStart => exact ⟨0, 0, by omega, rfl, rfl, by omega, by omega, rfl⟩
      case round =>
        obtain ⟨k, m, hk, rfl, rfl, hm2, hmo⟩ := hrel
        by_cases hlt : k < l2.length
        · rw [HL.out] at hlt
          obtain ⟨b2, o2, hA, _, hcell⟩ := HR2.out.at_ hlt
          first | subst hA | (simp only [Option.some.injEq, Addr.mk.injEq, and_true] at hA; obtain ⟨rfl, rfl⟩ := hA)
          have hz := HU2.out _ (getD_mem l2 k (by rw [HL.out]; exact hlt))
          obtain ⟨z, hzz⟩ : ∃ z : Nat, (z : Int) = l2.getD k 0 := ⟨(l2.getD k 0).toNat, by omega⟩
          rw [← hzz] at hcell hz
          obtain ⟨_, hz1⟩ := hz
          have HZ := Lib.hid hzz; clear hzz
          by_cases hmz : m ≤ z
          all_goals
            go_wp2_with fail
            go_round
            case rel =>
              refine ⟨k + 1, max m z, by omega, by go_num, by go_num, by omega, by rw [HL.out]; omega, ?_⟩
              rw [take_snoc l2 k (by rw [HL.out]; exact hlt), maxAll_snoc, ← HZ.out, ← hmo.out.2]; rfl
            case measure => simp [intOf]; omega
        · have hlt' := hlt
          rw [HL.out] at hlt'
          have hfin : Hid (blen m = mostBits l2) := by
            show blen m = mostBits l2
            rw [hmo.out.2, List.take_of_length_le (by omega), blen_maxAll]
          clear hlt
          go_wp2_with fail
          refine (Bits_any _ _ (by omega) (by omega)).mono ?_; rintro e w' ⟨rfl, rfl⟩
          rw [Int.toNat_natCast]
          go_wp2_with fail
          refine (Bits_any _ _ (by omega) (by omega)).mono ?_; rintro e w' ⟨rfl, rfl⟩
          rw [Int.toNat_natCast]
          go_wp2_with fail
          refine (Bits_any _ _ (by omega) (by omega)).mono ?_; rintro e w' ⟨rfl, rfl⟩
          rw [Int.toNat_natCast]
          go_wp2_with fail
          refine (Closest_any _ _).mono ?_; rintro e w2 ⟨rfl, hb2⟩
          go_wp2_with fail
          refine (Bits_any _ _ (by omega) (by omega)).mono ?_; rintro e w' ⟨rfl, rfl⟩
          rw [Int.toNat_natCast]
          go_wp2_with fail
          refine (Closest_any _ _).mono ?_; rintro e w3 ⟨rfl, hb3⟩
          go_wp2_with fail
          refine (Most_any l2 _ _ _ _ ((HR2.out.below hb2).below hb3) HU2.out (by omega)).mono ?_; rintro e w' ⟨rfl, rfl⟩
          go_wp2_with fail
          refine (Bits_any _ _ (by omega) (by omega)).mono ?_; rintro e w' ⟨rfl, rfl⟩
          rw [Int.toNat_natCast, hfin.out]
          go_wp2_with fail
          go_ret
          exact ⟨rfl, on (on hb1 hb2) hb3⟩

theorem WidthsRise_walk (w : World) (x : Int) (hx : 0 ≤ x ∧ x < 18446744073709551616) (y : Int) (hy : 0 ≤ y ∧ y < 18446744073709551616) (A : Option Addr) (n cap : Nat) (l : List Int) (hr : Ri w .u64 A n l) (hu : U64 l) (hc : n ≤ cap) (hm : cap ≤ maxLen) :
    Calls Try.prog 8 #[.int .u64 x, .int .u64 y, .slice A n cap] w fun e w' => e = .returned (.bool true) ∧ Below w.heap.size w w' := by
  obtain ⟨a, rfl⟩ := Int.eq_ofNat_of_zero_le hx.1
  obtain ⟨b, rfl⟩ := Int.eq_ofNat_of_zero_le hy.1
  exact WidthsRise_walk0 w a b (by omega) (by omega) A n cap l hr hu hc hm
end Go.Proofs.Ytbkdhnlhhampfaa

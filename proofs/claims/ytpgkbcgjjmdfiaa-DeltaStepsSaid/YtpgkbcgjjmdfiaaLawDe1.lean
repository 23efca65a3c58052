/- The walks through DeltaDiffs and DeltaSteps. -/
import Derived.Test.YtpgkbcgjjmdfiaaShown9
import Derived.Test.YtpgkbcgjjmdfiaaOpenArr
namespace Go.Proofs.Ytpgkbcgjjmdfiaa
open Go.RowKit

set_option maxRecDepth 100000 in
set_option maxHeartbeats 1000000 in
theorem DeltaDiffs_walk (w : World) (x y z : Int) (hx : -9223372036854775808 ≤ x ∧ x < 9223372036854775808) (hy : -9223372036854775808 ≤ y ∧ y < 9223372036854775808) (hz : -9223372036854775808 ≤ z ∧ z < 9223372036854775808)
    (u : Int) (hu : 0 ≤ u ∧ u < 18446744073709551616) (f : Bool) :
    Calls Try.prog 4 #[.agg #[.int .i64 x, .int .i64 y, .int .i64 z], .int .u64 u, .bool f] w fun e w' => e = .returned (.bool true) ∧ Below w.heap.size w w' := by
  obtain ⟨du, df, dk, hd⟩ : ∃ du df dk, diffR x y = (du, df, dk) := ⟨_, _, _, rfl⟩
  obtain ⟨sx, sk, hs⟩ : ∃ sx sk, stepR z u f = (sx, sk) := ⟨_, _, rfl⟩
  have HD := Lib.hid hd; have HS := Lib.hid hs
  have HX := Lib.hid hx; have HY := Lib.hid hy; have HZ := Lib.hid hz; have HU := Lib.hid hu
  clear hd hs hx hy hz hu
  go_enter Try.func4, Try.ntmps4
  go_wp2_with fail
  refine (shown09_any _).mono ?_; rintro e w1 ⟨rfl, hb1⟩
  have bk := Lib.hid ((Blk.new w _ _).below_ hb1)
  have HB1 := Lib.hid (on ((Below.refl w.heap.size w).alloc (Nat.le_refl _) _) hb1)
  clear hb1
  have k0 : w1.cell? ⟨w.heap.size, 0, none⟩ = some (.int .i64 x) := bk.out.cell 0
  have k1 : w1.cell? ⟨w.heap.size, 1, none⟩ = some (.int .i64 y) := bk.out.cell 1
  go_wp2_with fail
  refine (Diff_any _ x y HX.out HY.out du df dk HD.out).mono ?_; rintro e w2 ⟨rfl, hb2⟩
  have bk2 := Lib.hid (bk.out.below_ hb2)
  have HB2 := Lib.hid (on HB1.out hb2)
  have k0' : w2.cell? ⟨w.heap.size, 0, none⟩ = some (.int .i64 x) := bk2.out.cell 0
  have k1' : w2.cell? ⟨w.heap.size, 1, none⟩ = some (.int .i64 y) := bk2.out.cell 1
  have k2' : w2.cell? ⟨w.heap.size, 2, none⟩ = some (.int .i64 z) := bk2.out.cell 2
  clear hb2 k0 k1
  go_wp2_with fail
  refine (refDiff_any _ x y HX.out HY.out du df dk HD.out).mono ?_; rintro e w' ⟨rfl, rfl⟩
  go_wp2_with fail
  refine (Step_any _ z u f HZ.out HU.out sx sk HS.out).mono ?_; rintro e w' ⟨rfl, rfl⟩
  go_wp2_with fail
  refine (refStep_any _ z u f HZ.out HU.out sx sk HS.out).mono ?_; rintro e w' ⟨rfl, rfl⟩
  have q1 : (df == df) = true := by simp
  have q2 : (dk == dk) = true := by simp
  have q3 : (sk == sk) = true := by simp
  go_wp2_with fail
  go_ret
  exact ⟨rfl, HB2.out⟩

set_option maxRecDepth 100000 in
set_option maxHeartbeats 1000000 in
theorem DeltaSteps_walk (w : World) (a : Int) (ha : -9223372036854775808 ≤ a ∧ a < 9223372036854775808) (b : Int) (hb : -9223372036854775808 ≤ b ∧ b < 9223372036854775808) :
    Calls Try.prog 5 #[.int .i64 a, .int .i64 b] w fun e w' => e = .returned (.bool true) ∧ Below w.heap.size w w' := by
  have HA := Lib.hid ha; have HB := Lib.hid hb
  by_cases hbig : (if b < a then a - b else b - a) ≥ 9223372036854775808
  · have h1 : diffR a b = (0, false, false) := by unfold diffR; rw [if_pos hbig]
    have h2 : diffR b a = (0, false, false) := by
      unfold diffR; rw [if_pos]
      revert hbig; split <;> split <;> omega
    have H1 := Lib.hid h1; have H2 := Lib.hid h2
    clear h1 h2 hbig ha hb
    go_enter Try.func5, Try.ntmps5
    go_wp2_with fail
    refine (shown09_any _).mono ?_; rintro e w1 ⟨rfl, hb1⟩
    go_wp2_with fail
    refine (Diff_any _ a b HA.out HB.out _ _ _ H1.out).mono ?_; rintro e w2 ⟨rfl, hb2⟩
    go_wp2_with fail
    refine (Diff_any _ b a HB.out HA.out _ _ _ H2.out).mono ?_; rintro e w3 ⟨rfl, hb3⟩
    go_wp2_with fail
    go_ret
    exact ⟨rfl, on (on hb1 hb2) hb3⟩
  · obtain ⟨D, hD⟩ : ∃ D, D = (if b < a then a - b else b - a) := ⟨_, rfl⟩
    have h1 : diffR a b = (D, decide (b < a), true) := by unfold diffR; rw [if_neg hbig, hD]
    have h2 : diffR b a = (D, decide (a < b), true) := by
      unfold diffR; rw [if_neg (by revert hbig; split <;> split <;> omega), hD]
      congr 1
      split <;> split <;> omega
    have h3 : stepR a D (decide (b < a)) = (b, true) := by
      unfold stepR
      rw [if_neg (by omega), hD]
      by_cases h : b < a
      · rw [if_pos h, if_pos (by simpa using h), if_neg (by omega), show a - (a - b) = b from by omega]
      · rw [if_neg h, if_neg (by simpa using h), if_neg (by omega), show a + (b - a) = b from by omega]
    have h4 : stepR b D (decide (a < b)) = (a, true) := by
      unfold stepR
      rw [if_neg (by omega), hD]
      by_cases h : a < b
      · rw [if_neg (by omega : ¬ b < a), if_pos (by simpa using h), if_neg (by omega), show b - (b - a) = a from by omega]
      · rw [if_neg (by simpa using h)]
        split <;> (rw [if_neg (by omega)]; congr 1; omega)
    have hDr : 0 ≤ D ∧ D < 18446744073709551616 := by revert hbig; rw [hD]; split <;> omega
    have hDz : (D == 0) = (a == b) := by
      rw [Bool.eq_iff_iff]; simp only [beq_iff_eq]; rw [hD]; split <;> omega
    have H1 := Lib.hid h1; have H2 := Lib.hid h2; have H3 := Lib.hid h3; have H4 := Lib.hid h4; have HDR := Lib.hid hDr
    clear h1 h2 h3 h4 hbig ha hb hDr hD
    go_enter Try.func5, Try.ntmps5
    go_wp2_with fail
    refine (shown09_any _).mono ?_; rintro e w1 ⟨rfl, hb1⟩
    go_wp2_with fail
    refine (Diff_any _ a b HA.out HB.out _ _ _ H1.out).mono ?_; rintro e w2 ⟨rfl, hb2⟩
    go_wp2_with fail
    refine (Diff_any _ b a HB.out HA.out _ _ _ H2.out).mono ?_; rintro e w3 ⟨rfl, hb3⟩
    go_wp2_with fail
    refine (Step_any _ a D _ HA.out HDR.out _ _ H3.out).mono ?_; rintro e w' ⟨rfl, rfl⟩
    go_wp2_with fail
    refine (Step_any _ b D _ HB.out HDR.out _ _ H4.out).mono ?_; rintro e w' ⟨rfl, rfl⟩
    go_wp2_with fail
    go_ret
    exact ⟨rfl, on (on hb1 hb2) hb3⟩
end Go.Proofs.Ytpgkbcgjjmdfiaa

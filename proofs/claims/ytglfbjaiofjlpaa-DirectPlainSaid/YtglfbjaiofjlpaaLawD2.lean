/- The walks through DirectPlain and DirectHeads. -/
import Derived.Test.YtglfbjaiofjlpaaLawD1
namespace Go.Proofs.Ytglfbjaiofjlpaa
open Go.RowKit

theorem madeL_cases (l : List Int) (s : Bool) : ∃ u e, madeL l s = (u, e) ∧ ((e = 0 ∧ u.length = l.length ∧ (U64 l → I64 u)) ∨ (e = 2 ∧ u = [])) := by
  unfold madeL
  cases s
  · rw [if_neg (by simp)]
    unfold mapOk
    split
    · rename_i h
      refine ⟨_, _, rfl, .inl ⟨rfl, by simp, fun hi x hx => ?_⟩⟩
      rw [List.map_id] at hx
      have h1 := hi x hx
      have h2 := List.all_eq_true.1 h x hx
      simp at h2
      omega
    · exact ⟨_, _, rfl, .inr ⟨rfl, rfl⟩⟩
  · rw [if_pos rfl]
    unfold mapOk
    rw [if_pos (by simp)]
    refine ⟨_, _, rfl, .inl ⟨rfl, by simp, fun hi x hx => ?_⟩⟩
    obtain ⟨y, hy, rfl⟩ := List.mem_map.1 hx
    exact zag_range y (hi y hy).1 (hi y hy).2
theorem plain_good {l u : List Int} {s : Bool} {e : Int} (h : plainL l s = (u, e)) (hl : I64 l) (hn : l.length ≤ 1000) : U64 u ∧ u.length ≤ 1000 := by
  obtain ⟨u', e', h1, h2⟩ := plainL_cases l s
  rw [h] at h1
  injection h1 with h3 h4
  subst h3 h4
  rcases h2 with ⟨_, h2, h5⟩ | ⟨_, rfl⟩
  · exact ⟨h5 hl, by omega⟩
  · exact ⟨fun x hx => by (cases hx), by simp⟩
theorem made_good {l u : List Int} {s : Bool} {e : Int} (h : madeL l s = (u, e)) (hl : U64 l) (hn : l.length ≤ 1000) : I64 u ∧ u.length ≤ 1000 := by
  obtain ⟨u', e', h1, h2⟩ := madeL_cases l s
  rw [h] at h1
  injection h1 with h3 h4
  subst h3 h4
  rcases h2 with ⟨_, h2, h5⟩ | ⟨_, rfl⟩
  · exact ⟨h5 hl, by omega⟩
  · exact ⟨fun x hx => by (cases hx), by simp⟩

set_option maxRecDepth 100000 in
set_option maxHeartbeats 1000000 in
theorem DirectPlain_walk (w : World) (A : Option Addr) (n cap : Nat) (l : List Int) (hr : Ri w .i64 A n l) (hu : I64 l) (hc : n ≤ cap) (hm : cap ≤ maxLen)
    (B : Option Addr) (n2 cap2 : Nat) (l2 : List Int) (hr2 : Ri w .u64 B n2 l2) (hu2 : U64 l2) (hc2 : n2 ≤ cap2) (hm2 : cap2 ≤ maxLen) (s : Bool) :
    Calls Try.prog 4 #[.slice A n cap, .slice B n2 cap2, .bool s] w fun e w' => e = .returned (.bool true) ∧ Below w.heap.size w w' := by
  unfold maxLen at hm hm2
  have HU := Lib.hid (hu.take 600); have HR := Lib.hid hr; clear hr hu
  have H62 := Lib.hid (show Ri w .u64 B (min n2 600) (l2.take 600) from by
    rcases Nat.lt_or_ge 600 n2 with h | h
    · rw [Nat.min_eq_right (by omega)]; exact hr2.first (by omega)
    · rw [Nat.min_eq_left h, List.take_of_length_le (by rw [hr2.len]; exact h)]; exact hr2)
  have HU2 := Lib.hid (show U64 (l2.take 600) from fun x hx => hu2 x (List.mem_of_mem_take hx))
  have hnil : 600 < n2 → ∃ b o, B = some ⟨b, o, none⟩ := fun h => by
    obtain ⟨b, o, e, _⟩ := hr2.all (by omega)
    exact ⟨b, o, e⟩
  clear hr2 hu2
  obtain ⟨r, er, hl⟩ : ∃ r er, plainL (l.take 600) s = (r, er) := ⟨_, _, rfl⟩
  obtain ⟨p, ep, hl2⟩ : ∃ p ep, madeL (l2.take 600) s = (p, ep) := ⟨_, _, rfl⟩
  have G1 := Lib.hid (plain_good hl HU.out (by rw [List.length_take]; omega))
  have G2 := Lib.hid (made_good hl2 HU2.out (by rw [List.length_take]; omega))
  have HLL := Lib.hid hl; have HL2 := Lib.hid hl2; clear hl hl2
  rcases Nat.lt_or_ge 600 n2 with h6 | h6
  · obtain ⟨b2, o2, rfl⟩ := hnil h6
    rw [Nat.min_eq_right (by omega)] at H62
    go_enter Try.func4, Try.ntmps4
    go_wp2_with fail
    refine (shown08_any _).mono ?_; rintro e w1 ⟨rfl, hb1⟩
    go_wp2_with fail
    refine (few8_any _ _ _ _ l (HR.out.below hb1) hc hm).mono ?_; rintro e w1' ⟨m, c2, rfl, rfl, hmc, hcm2, hm42, hmn, hr2⟩
    have H2 := Lib.hid hr2; clear hr2
    go_wp2_with fail
    refine (Plain_any _ _ _ _ _ H2.out HU.out (by omega) s r er HLL.out).mono ?_; rintro e w4 ⟨G4, n4, c4, rfl, hr4, hb4⟩
    go_wp2_with fail
    refine (refPlain8_any _ _ _ _ _ (H2.out.below hb4) HU.out (by omega) s r er HLL.out).mono ?_; rintro e w5 ⟨G5, n5, c5, rfl, hr5, hb5⟩
    go_wp2_with fail
    refine (Made_any _ _ _ _ _ (((H62.out.below hb1).below hb4).below hb5) HU2.out (by omega) s p ep HL2.out).mono ?_; rintro e w6 ⟨G6, n6, c6, rfl, hr6, hb6⟩
    go_wp2_with fail
    refine (refMade8_any _ _ _ _ _ ((((H62.out.below hb1).below hb4).below hb5).below hb6) HU2.out (by omega) s p ep HL2.out).mono ?_; rintro e w7 ⟨G7, n7, c7, rfl, hr7, hb7⟩
    have q4 := hr4.1.len; have q5 := hr5.1.len; have q6 := hr6.1.len; have q7 := hr7.1.len
    obtain ⟨g1, g2⟩ := G1.out
    obtain ⟨g3, g4⟩ := G2.out
    have HR4 := Lib.hid (((hr4.1.below hb5).below hb6).below hb7); have HR5 := Lib.hid ((hr5.1.below hb6).below hb7)
    have HR6 := Lib.hid (hr6.1.below hb7); have HR7 := Lib.hid hr7.1
    have HB := Lib.hid (on (on (on (on hb1 hb4) hb5) hb6) hb7)
    have b4 : n4 ≤ 1000000 := by omega
    have b5 : n5 ≤ 1000000 := by omega
    have b6 : n6 ≤ 1000000 := by omega
    have b7 : n7 ≤ 1000000 := by omega
    clear hr4 hr5 hr6 hr7 hb1 hb4 hb5 hb6 hb7 q4 q5 q6 q7 g2 g4
    have g1 := Lib.hid g1; have g3 := Lib.hid g3
    go_wp2_with fail
    refine (Same3_any _ _ _ _ _ _ _ r r HR4.out HR5.out b4 b5 g1.out g1.out).mono ?_; rintro e w8 ⟨rfl, hb8⟩
    rw [decide_eq_true rfl]
    have HB8 := Lib.hid hb8; clear hb8
    go_wp2_with fail
    refine (Same8_any _ _ _ _ _ _ _ p p (HR6.out.below HB8.out) (HR7.out.below HB8.out) b6 b7 g3.out g3.out).mono ?_; rintro e w9 ⟨rfl, hb9⟩
    rw [decide_eq_true rfl]
    have HB9 := Lib.hid hb9; clear hb9
    go_wp2_with fail
    go_ret
    exact ⟨rfl, on (on HB.out HB8.out) HB9.out⟩
  · rw [Nat.min_eq_left h6] at H62
    clear hnil
    go_enter Try.func4, Try.ntmps4
    go_wp2_with fail
    refine (shown08_any _).mono ?_; rintro e w1 ⟨rfl, hb1⟩
    go_wp2_with fail
    refine (few8_any _ _ _ _ l (HR.out.below hb1) hc hm).mono ?_; rintro e w1' ⟨m, c2, rfl, rfl, hmc, hcm2, hm42, hmn, hr2⟩
    have H2 := Lib.hid hr2; clear hr2
    go_wp2_with fail
    refine (Plain_any _ _ _ _ _ H2.out HU.out (by omega) s r er HLL.out).mono ?_; rintro e w4 ⟨G4, n4, c4, rfl, hr4, hb4⟩
    go_wp2_with fail
    refine (refPlain8_any _ _ _ _ _ (H2.out.below hb4) HU.out (by omega) s r er HLL.out).mono ?_; rintro e w5 ⟨G5, n5, c5, rfl, hr5, hb5⟩
    go_wp2_with fail
    refine (Made_any _ _ _ _ _ (((H62.out.below hb1).below hb4).below hb5) HU2.out (by omega) s p ep HL2.out).mono ?_; rintro e w6 ⟨G6, n6, c6, rfl, hr6, hb6⟩
    go_wp2_with fail
    refine (refMade8_any _ _ _ _ _ ((((H62.out.below hb1).below hb4).below hb5).below hb6) HU2.out (by omega) s p ep HL2.out).mono ?_; rintro e w7 ⟨G7, n7, c7, rfl, hr7, hb7⟩
    have q4 := hr4.1.len; have q5 := hr5.1.len; have q6 := hr6.1.len; have q7 := hr7.1.len
    obtain ⟨g1, g2⟩ := G1.out
    obtain ⟨g3, g4⟩ := G2.out
    have HR4 := Lib.hid (((hr4.1.below hb5).below hb6).below hb7); have HR5 := Lib.hid ((hr5.1.below hb6).below hb7)
    have HR6 := Lib.hid (hr6.1.below hb7); have HR7 := Lib.hid hr7.1
    have HB := Lib.hid (on (on (on (on hb1 hb4) hb5) hb6) hb7)
    have b4 : n4 ≤ 1000000 := by omega
    have b5 : n5 ≤ 1000000 := by omega
    have b6 : n6 ≤ 1000000 := by omega
    have b7 : n7 ≤ 1000000 := by omega
    clear hr4 hr5 hr6 hr7 hb1 hb4 hb5 hb6 hb7 q4 q5 q6 q7 g2 g4
    have g1 := Lib.hid g1; have g3 := Lib.hid g3
    go_wp2_with fail
    refine (Same3_any _ _ _ _ _ _ _ r r HR4.out HR5.out b4 b5 g1.out g1.out).mono ?_; rintro e w8 ⟨rfl, hb8⟩
    rw [decide_eq_true rfl]
    have HB8 := Lib.hid hb8; clear hb8
    go_wp2_with fail
    refine (Same8_any _ _ _ _ _ _ _ p p (HR6.out.below HB8.out) (HR7.out.below HB8.out) b6 b7 g3.out g3.out).mono ?_; rintro e w9 ⟨rfl, hb9⟩
    rw [decide_eq_true rfl]
    have HB9 := Lib.hid hb9; clear hb9
    go_wp2_with fail
    go_ret
    exact ⟨rfl, on (on HB.out HB8.out) HB9.out⟩
end Go.Proofs.Ytglfbjaiofjlpaa

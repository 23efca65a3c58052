/- Joined texts: LawN2. Each has its own head line. No condition beyond those that its theorems state. -/
import Derived.Test.YtlmfdmaoakckgaaJ45
import Derived.Test.YtlmfdmaoakckgaaJ40
import Derived.Test.YtlmfdmaoakckgaaJ46
import Derived.Test.YtlmfdmaoakckgaaJ42
set_option linter.unusedVariables false

/- The walk through NullsSplits. -/
namespace Go.Proofs.Ytlmfdmaoakckgaa
open Go.RowKit

theorem joinV_len (p : List Bool) (s : List Val) : (joinV p s).1.length ≤ p.length := by
  unfold joinV
  split
  · simp
  · dsimp only; rw [fillV_len]; exact Nat.le_refl _
set_option maxRecDepth 100000 in
set_option maxHeartbeats 2000000 in
theorem NullsSplits_walk (w : World) (A : Option Addr) (n cap : Nat) (l : List Val) (hr : Rv w A n l) (hc : n ≤ cap) (hm : cap ≤ maxLen)
    (B : Option Addr) (n2 cap2 : Nat) (p : List Bool) (hp : Rb w B n2 p) (hc2 : n2 ≤ cap2) (hm2 : cap2 ≤ maxLen) :
    Calls Try.prog 4 #[.slice A n cap, .slice B n2 cap2] w fun e w' => e = .returned (.bool true) ∧ Below w.heap.size w w' := by
  unfold maxLen at hm hm2
  have HR := Lib.hid hr; clear hr
  obtain ⟨r, er, hl⟩ : ∃ r er, joinV (p.take 4200) (l.take 4200) = (r, er) := ⟨_, _, rfl⟩
  have hrl := joinV_len (p.take 4200) (l.take 4200)
  rw [hl, List.length_take] at hrl
  have hr4 : r.length ≤ 4200 := by dsimp only at hrl; omega
  have hp4 : (presB (l.take 4200)).length ≤ 4200 := by rw [presB_len, List.length_take]; omega
  have hs4 : (someV (l.take 4200)).length ≤ 4200 := by have h1 := someV_le (l.take 4200); rw [List.length_take] at h1; omega
  have HL := Lib.hid hl
  clear hl hrl
  rcases cut_rb hp 4200 with ⟨h1, ⟨bb, oo, rfl⟩, h2⟩ | ⟨h1, h2⟩
  all_goals
    have HP := Lib.hid h2
    clear hp h2
    go_enter Try.func4, Try.ntmps4
    go_wp2_with fail
    refine (shown13_any _).mono ?_; rintro e w1 ⟨rfl, hb1⟩
    go_wp2_with fail
    refine (few13_any _ _ _ _ l (HR.out.below hb1) hc hm).mono ?_; rintro e w1' ⟨m, c2, rfl, rfl, hmc, hcm2, hm42, hmn, hr2⟩
    have H2 := Lib.hid hr2; have HP1 := Lib.hid (HP.out.below hb1); have HB1 := Lib.hid hb1
    clear hr2 hb1
    go_wp2_with fail
    refine (Split_any _ _ _ _ (l.take 4200) H2.out (by omega)).mono ?_; rintro e w3 ⟨G1, n3, c3, G4, n4, c4, rfl, hs3, hs4', hb3⟩
    have H3 := Lib.hid (H2.out.below hb3); have HP3 := Lib.hid (HP1.out.below hb3); have HB3 := Lib.hid (on HB1.out hb3)
    go_wp2_with fail
    refine (refSplit_any _ _ _ _ (l.take 4200) H3.out (by omega)).mono ?_; rintro e w5 ⟨G5, n5, c5, G6, n6, c6, rfl, hs5, hs6, hb5⟩
    have H5 := Lib.hid (H3.out.below hb5); have HP5 := Lib.hid (HP3.out.below hb5); have HB5 := Lib.hid (on HB3.out hb5)
    have HS3 := Lib.hid (hs3.below hb5); have HS4 := Lib.hid (hs4'.below hb5); have HS5 := Lib.hid hs5; have HS6 := Lib.hid hs6
    have k3 : n3 ≤ 4200 := by have := hs3.1.len; omega
    have k4 : n4 ≤ 4200 := by have := hs4'.1.len; omega
    have k5 : n5 ≤ 4200 := by have := hs5.1.len; omega
    have k46 : n4 = n6 := by rw [← hs4'.1.len, ← hs6.1.len]
    subst k46
    clear hb3 hb5 hs3 hs4' hs5 hs6
    go_wp2_with fail
    refine (Join_any _ _ _ _ _ _ _ (p.take 4200) (l.take 4200) HP5.out H5.out (by omega) (by omega) r er HL.out).mono ?_; rintro e w7 ⟨G7, n7, c7, rfl, hs7, hb7⟩
    have H7 := Lib.hid (H5.out.below hb7); have HP7 := Lib.hid (HP5.out.below hb7); have HB7 := Lib.hid (on HB5.out hb7)
    go_wp2_with fail
    refine (refJoin_any _ _ _ _ _ _ _ (p.take 4200) (l.take 4200) HP7.out H7.out (by omega) (by omega) r er HL.out).mono ?_; rintro e w8 ⟨G8, n8, c8, rfl, hs8, hb8⟩
    have HB8 := Lib.hid (on HB7.out hb8); have hb78 := on hb7 hb8
    have k7 : n7 ≤ 4200 := by have := hs7.1.len; omega
    have k78 : n7 = n8 := by rw [← hs7.1.len, ← hs8.1.len]
    subst k78
    go_wp2_with fail
    refine (SameB_any _ _ _ _ _ _ _ _ _ (HS3.out.1.below hb78) (HS5.out.1.below hb78) (by omega) (by omega)).mono ?_; rintro e w9 ⟨rfl, hb9⟩
    rw [decide_eq_true rfl]
    go_wp2_with fail
    refine (SameV_any _ _ _ _ _ _ _ ((HS4.out.1.below hb78).below hb9) ((HS6.out.1.below hb78).below hb9) (by omega)).mono ?_; rintro e w10 ⟨rfl, hb10⟩
    have hb11 := on (on hb8 hb9) hb10; have hb12 := on hb9 hb10
    go_wp2_with fail
    refine (SameV_any _ _ _ _ _ _ r (hs7.1.below hb11) (hs8.1.below hb12) (by omega)).mono ?_; rintro e w11 ⟨rfl, hb13⟩
    have HB := Lib.hid (on (on HB8.out hb12) hb13)
    clear hs7 hs8 hb7 hb8 hb78 hb9 hb10 hb11 hb12 hb13
    go_wp2_with fail
    go_ret
    exact ⟨rfl, HB.out⟩
end Go.Proofs.Ytlmfdmaoakckgaa

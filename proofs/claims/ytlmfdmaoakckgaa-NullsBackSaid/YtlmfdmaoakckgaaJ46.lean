/- Joined texts: SameV, LawN1. Each has its own head line. No condition beyond those that its theorems state. -/
import Derived.BigQuiet
import Derived.Deep.QuietTactic
import Derived.Laws.StructEq
import Derived.Test.YtlmfdmaoakckgaaJ11
import Derived.Test.YtlmfdmaoakckgaaJ45
set_option linter.unusedVariables false

/- pilasterref12.SameRow of two rows that read the same. -/
namespace Go.Proofs.Ytlmfdmaoakckgaa
open Go.RowKit

set_option maxRecDepth 100000 in
set_option maxHeartbeats 1000000 in
theorem SameV_any (w : World) (A B : Option Addr) (n c d : Nat) (l : List Val) (ha : Rv w A n l) (hb : Rv w B n l) (hn : n ≤ 1000000) :
    Calls Try.prog 14 #[.slice A n c, .slice B n d] w fun e w' => e = .returned (.bool true) ∧ Below w.heap.size w w' := by
  have HA := Lib.hid ha; have HB := Lib.hid hb; clear ha hb
  go_enter Try.func14, Try.ntmps14
  go_wp2_with fail
  go_loopw [5] (fun i wr => ∃ j : Nat, j ≤ n ∧ i = .int .i64 j ∧ Below w.heap.size w wr) (fun i _ => n - (intOf i).toNat)
  case atStart => exact ⟨0, by omega, rfl, Below.refl _ _⟩
  case round =>
    obtain ⟨j, hj, rfl, hbw⟩ := hrel
    by_cases hlt : j < n
    · obtain ⟨b1, o1, v, hA, hbl1, hv1, a1, a2, a3⟩ := HA.out.at_ hlt
      obtain ⟨b2, o2, v2, hB, hbl2, hv2, c1, c2, c3⟩ := HB.out.at_ hlt
      obtain rfl : v = v2 := by rw [hv1] at hv2; injection hv2
      subst hA hB
      have g1 := (hbw.cell (p := ⟨b1, o1 + j * 3, none⟩) hbl1).trans a1
      have g2 := (hbw.cell (p := ⟨b1, o1 + j * 3 + 1, none⟩) hbl1).trans a2
      have g3 := (hbw.cell (p := ⟨b1, o1 + j * 3 + 2, none⟩) hbl1).trans a3
      have k1 := (hbw.cell (p := ⟨b2, o2 + j * 3, none⟩) hbl2).trans c1
      have k2 := (hbw.cell (p := ⟨b2, o2 + j * 3 + 1, none⟩) hbl2).trans c2
      have k3 := (hbw.cell (p := ⟨b2, o2 + j * 3 + 2, none⟩) hbl2).trans c3
      clear hv1 hv2 a1 a2 a3 c1 c2 c3
      go_wp2_with fail
      go_quiet (fail)
      go_wp2_with fail
      go_roundw
      case rel => exact ⟨j + 1, by omega, by go_num, below_drewN hbw _⟩
      case measure => simp [intOf] <;> omega
    · go_wp2_with fail
      go_ret
      exact ⟨rfl, by first | exact hbw | exact below_drewN hbw _⟩
end Go.Proofs.Ytlmfdmaoakckgaa

/- The walk through NullsPuts. -/
namespace Go.Proofs.Ytlmfdmaoakckgaa
open Go.RowKit

set_option maxRecDepth 100000 in
set_option maxHeartbeats 1000000 in
theorem NullsPuts_walk (w : World) (A : Option Addr) (n cap : Nat) (l : List Val) (hr : Rv w A n l) (hc : n ≤ cap) (hm : cap ≤ maxLen) :
    Calls Try.prog 3 #[.slice A n cap] w fun e w' => e = .returned (.bool true) ∧ Below w.heap.size w w' := by
  unfold maxLen at hm
  have HR := Lib.hid hr; clear hr
  obtain ⟨b, s, er, hl⟩ : ∃ b s er, putN (l.take 4200) = (b, s, er) := ⟨_, _, _, rfl⟩
  have hs4 : s.length ≤ 4200 := by
    have h1 := someV_le (l.take 4200)
    rw [List.length_take] at h1
    unfold putN at hl
    split at hl
    · obtain ⟨_, h2⟩ := Prod.mk.inj hl; obtain ⟨h2, _⟩ := Prod.mk.inj h2; rw [← h2]; simp
    · split at hl
      · obtain ⟨_, h2⟩ := Prod.mk.inj hl; obtain ⟨h2, _⟩ := Prod.mk.inj h2; rw [← h2]; omega
      · obtain ⟨_, h2⟩ := Prod.mk.inj hl; obtain ⟨h2, _⟩ := Prod.mk.inj h2; rw [← h2]; omega
  have HLL := Lib.hid hl; clear hl
  go_enter Try.func3, Try.ntmps3
  go_wp2_with fail
  refine (shown13_any _).mono ?_; rintro e w1 ⟨rfl, hb1⟩
  go_wp2_with fail
  refine (few13_any _ _ _ _ l (HR.out.below hb1) hc hm).mono ?_; rintro e w1' ⟨m, c2, rfl, rfl, hmc, hcm2, hm42, hmn, hr2⟩
  have H2 := Lib.hid hr2; clear hr2
  go_wp2_with (at_builtin; refine wpList_val _ rfl _ _ rfl w1'.heap.size _ 0 [] rfl (own_empty w1' _ 3) _ _ _ (l.take 4200) rfl (H2.out.alloc _) (by omega) (by simp) ?_; intro G3 c3 w3 hown hgr hcc)
  have hb3 := push0 ((Below.refl w1'.heap.size w1').alloc (Nat.le_refl _) _) (Nat.le_refl _) (own_empty w1' _ 3) hgr
  rw [Nat.zero_add, List.nil_append] at hown
  have hc3 := own_cap hown
  have HO := Lib.hid (Rv.of_own hown); have HB3 := Lib.hid hb3
  clear hown hgr hcc hb3
  refine (PutN_any _ _ _ _ (l.take 4200) HO.out (by omega) b s er HLL.out).mono ?_; rintro e w4 ⟨G4, n4, c4, G5, n5, c5, rfl, hr4, hr5, hb4⟩
  have H24 := Lib.hid ((H2.out.below HB3.out).below hb4); have HO4 := Lib.hid (HO.out.below hb4)
  go_wp2_with fail
  refine (refPutN_any _ _ _ _ (l.take 4200) H24.out (by omega) b s er HLL.out).mono ?_; rintro e w5 ⟨G6, n6, c6, G7, n7, c7, rfl, hr6, hr7, hb5⟩
  have e57 : n5 = n7 := by rw [← hr5.1.len, ← hr7.1.len]
  have e5 : n5 ≤ 4200 := by rw [← hr5.1.len]; exact hs4
  subst e57
  go_wp2_with fail
  refine (SameV_any _ _ _ _ _ _ s (hr5.1.below hb5) hr7.1 (by omega)).mono ?_; rintro e w6 ⟨rfl, hb6⟩
  go_wp2_with fail
  refine (SameV_any _ _ _ _ _ _ (l.take 4200) ((HO4.out.below hb5).below hb6) ((H24.out.below hb5).below hb6) (by omega)).mono ?_; rintro e w7 ⟨rfl, hb7⟩
  have cv1 := conv_any (c := c4) (((hr4.1.below hb5).below hb6).below hb7)
  have cv2 := conv_any (c := c6) ((hr6.1.below hb6).below hb7)
  have st := strOf_same b
  generalize strOf b = S at *
  have HB := Lib.hid (on (on (on (on (on hb1 HB3.out) hb4) hb5) hb6) hb7)
  clear hr4 hr5 hr6 hr7 hb1 hb4 hb5 hb6 hb7
  go_wp2_with fail
  go_ret
  exact ⟨rfl, HB.out⟩
end Go.Proofs.Ytlmfdmaoakckgaa

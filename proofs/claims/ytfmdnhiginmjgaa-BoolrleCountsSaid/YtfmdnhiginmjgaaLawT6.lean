/- The walks through BoolrlePuts and BoolrleTakes. -/
import Derived.Test.YtfmdnhiginmjgaaSameB
namespace Go.Proofs.Ytfmdnhiginmjgaa
open Go.RowKit

theorem cut_riB {w : World} {kd : IntKind} {A : Option Addr} {n : Nat} {l : List Int} (h : Ri w kd A n l) (K : Nat) :
    (K < n ∧ (∃ b o, A = some ⟨b, o, none⟩) ∧ Ri w kd A K (l.take K)) ∨ (n ≤ K ∧ Ri w kd A n (l.take K)) := by
  rcases Nat.lt_or_ge K n with h1 | h1
  · obtain ⟨b, o, e, _⟩ := h.all (by omega)
    exact .inl ⟨h1, ⟨b, o, e⟩, h.first (by omega)⟩
  · exact .inr ⟨h1, by rw [List.take_of_length_le (by rw [h.len]; exact h1)]; exact h⟩

set_option maxRecDepth 100000 in
set_option maxHeartbeats 1000000 in
theorem BoolrlePuts_walk (w : World) (A : Option Addr) (n cap : Nat) (l : List Bool) (hr : Rb w A n l) (hc : n ≤ cap) (hm : cap ≤ maxLen) :
    Calls Try.prog 3 #[.slice A n cap] w fun e w' => e = .returned (.bool true) ∧ Below w.heap.size w w' := by
  unfold maxLen at hm
  have HR := Lib.hid hr; clear hr
  obtain ⟨l2, hl2⟩ : ∃ l2, l2 = l.take 4200 := ⟨_, rfl⟩
  obtain ⟨r, er, hl⟩ : ∃ r er, putB l2 = (r, er) := ⟨_, _, rfl⟩
  have HLL := Lib.hid hl; have HL2 := Lib.hid hl2; clear hl hl2
  go_enter Try.func3, Try.ntmps3
  go_wp2_with fail
  refine (shown06_any _).mono ?_; rintro e w1 ⟨rfl, hb1⟩
  go_wp2_with fail
  refine (few6_any _ _ _ _ l (HR.out.below hb1) hc hm).mono ?_; rintro e w1' ⟨m, c2, rfl, rfl, hmc, hcm2, hm42, hmn, hr2⟩
  rw [← HL2.out] at hr2
  have H2 := Lib.hid hr2; clear hr2
  go_wp2_with fail
  refine (BPut_any _ _ _ _ l2 H2.out (by omega) r er HLL.out).mono ?_; rintro e w4 ⟨G4, n4, c4, rfl, hr4, hb4⟩
  go_wp2_with fail
  refine (refBPut_any _ _ _ _ l2 (H2.out.below hb4) (by omega) r er HLL.out).mono ?_; rintro e w5 ⟨G5, n5, c5, rfl, hr5, hb5⟩
  have cv1 := conv_any (c := c4) (hr4.1.below hb5)
  have cv2 := conv_any (c := c5) hr5.1
  have st := strOf_same r
  generalize strOf r = S at *
  have H5 := Lib.hid ((H2.out.below hb4).below hb5)
  have HB := Lib.hid (on (on hb1 hb4) hb5)
  clear hr4 hr5 hb1 hb4 hb5
  go_wp2_with fail
  refine (Count_any _ _ _ _ l2 H5.out (by omega)).mono ?_; rintro e w6 ⟨rfl, rfl⟩
  go_wp2_with fail
  refine (refCount_any _ _ _ _ l2 H5.out (by omega)).mono ?_; rintro e w6 ⟨rfl, rfl⟩
  go_wp2_with fail
  go_ret
  exact ⟨rfl, HB.out⟩

set_option maxRecDepth 100000 in
set_option maxHeartbeats 2000000 in
theorem BoolrleTakes_walk (w : World) (A : Option Addr) (n cap : Nat) (b : List Int) (hr : Ri w .u8 A n b) (hu : U8 b) (hc : n ≤ cap) (hm : cap ≤ maxLen) (x : Int) (hx : -9223372036854775808 ≤ x ∧ x < 9223372036854775808) :
    Calls Try.prog 4 #[.slice A n cap, .int .i64 x] w fun e w' => e = .returned (.bool true) ∧ Below w.heap.size w w' := by
  unfold maxLen at hm
  obtain ⟨x1, x2⟩ := hx
  have HU := Lib.hid (hu.take 600)
  obtain ⟨l, r, er, hl⟩ : ∃ l r er, takeB (b.take 600) x = (l, r, er) := ⟨_, _, _, rfl⟩
  have hll := takeB_len (b.take 600) x
  rw [hl] at hll
  have HL := Lib.hid hl; have HLL := Lib.hid hll
  clear hl hll hu
  rcases cut_riB hr 600 with ⟨h1, ⟨bb, oo, rfl⟩, h2⟩ | ⟨h1, h2⟩
  all_goals
    have H2 := Lib.hid h2
    clear hr h2
    go_enter Try.func4, Try.ntmps4
    go_wp2_with fail
    refine (shown06_any _).mono ?_; rintro e w1 ⟨rfl, hb1⟩
    have HB1 := Lib.hid hb1; clear hb1
    go_wp2_with (at_builtin; refine wpList_u8 _ rfl _ _ rfl w1.heap.size _ 0 [] rfl (own_empty w1 _ 1) _ _ _ (b.take 600) rfl ((H2.out.below HB1.out).alloc _) (by omega) (by simp) ?_; intro G3 c3 w3 hown hgr hcc)
    have hb3 := push0 ((Below.refl w1.heap.size w1).alloc (Nat.le_refl _) _) (Nat.le_refl _) (own_empty w1 _ 1) hgr
    rw [Nat.zero_add, List.nil_append] at hown
    have hs3 := Sl.of_own hown
    have HO := Lib.hid hs3
    have HB3 := Lib.hid hb3
    clear hown hgr hcc hs3 hb3
    refine (BTake_any _ _ _ _ (b.take 600) HO.out.1 HU.out HO.out.2.1 HO.out.2.2 (by omega) x l r er HL.out).mono ?_; rintro e w4 ⟨G4, n4, c4, G5, n5, c5, rfl, hs4, hs5, hb4⟩
    go_wp2_with fail
    refine (refBTake_any _ _ _ _ (b.take 600) (((H2.out.below HB1.out).below HB3.out).below hb4) HU.out (by omega) (by omega) (by omega) x l r er HL.out).mono ?_; rintro e w5 ⟨G6, n6, c6, G7, n7, c7, rfl, hs6, hs7, hb5⟩
    have q4 := hs4.1.len; have q6 := hs6.1.len; have q8 := HLL.out
    go_wp2_with fail
    refine (SameB_any _ _ _ _ _ _ _ l l (hs4.1.below hb5) hs6.1 (by omega) (by omega)).mono ?_; rintro e w6 ⟨rfl, hb6⟩
    rw [decide_eq_true rfl]
    have cv1 := conv_any (c := c5) ((hs5.1.below hb5).below hb6)
    have cv2 := conv_any (c := c7) (hs7.1.below hb6)
    have st := strOf_same r
    generalize strOf r = S at *
    have HB := Lib.hid (on (on (on (on HB1.out HB3.out) hb4) hb5) hb6)
    clear hs4 hs5 hs6 hs7 hb4 hb5 hb6 q4 q6 q8
    go_wp2_with fail
    go_ret
    exact ⟨rfl, HB.out⟩
end Go.Proofs.Ytfmdnhiginmjgaa

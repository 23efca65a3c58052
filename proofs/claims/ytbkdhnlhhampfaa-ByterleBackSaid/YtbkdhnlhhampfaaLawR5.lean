/- The walks through the laws of byterle. -/
import Derived.Test.YtbkdhnlhhampfaaByP
import Derived.Test.YtbkdhnlhhampfaaPlainP
namespace Go.Proofs.Ytbkdhnlhhampfaa
open Go.RowKit

theorem Ri_lit5 (w : World) (k : IntKind) (l : List Int) (t : TypeId) (cs : Array Value) (hcs : cs = (l.map (Value.int k)).toArray) (n : Nat) (hn : l.length = n) :
    Ri (w.alloc (.cells cs t)) k (some ⟨w.heap.size, 0, none⟩) n l := by
  subst hcs
  refine ⟨by simpa using hn, fun _ => ⟨w.heap.size, 0, rfl, by simp, fun j u hu => ?_⟩⟩
  rw [(Blk.new w t _).cell]; simpa using hu
def FewOut (w : World) (A : Option Addr) (n k : Nat) (l : List Int) (e : Ending) (w' : World) : Prop :=
  ∃ m c, e = .returned (.slice A m c) ∧ w' = w ∧ m ≤ c ∧ c ≤ 9223372036854775807 ∧ m ≤ k ∧ m ≤ n ∧ Ri w .u8 A m (l.take k)
set_option maxHeartbeats 400000 in
theorem few5_any (w : World) (A : Option Addr) (n c : Nat) (l : List Int) (hr : Ri w .u8 A n l) (hc : n ≤ c) (hcm : c ≤ 9223372036854775807) (k : Nat) (hk : k ≤ 1000000) :
    Calls Try.prog 44 #[.slice A n c, .int .i64 k] w (FewOut w A n k l) := by
  have HR := Lib.hid hr; clear hr
  rcases Nat.lt_or_ge k n with h | h
  · go_enter Try.func44, Try.ntmps44
    have hk0 : (0 : Int) ≤ (k : Int) := by omega
    have hk1 : (k : Int) ≤ (c : Int) := by omega
    go_wp2_with fail
    go_ret
    exact ⟨k, c, rfl, rfl, by omega, hcm, Nat.le_refl _, by omega, HR.out.first (by omega)⟩
  · go_enter Try.func44, Try.ntmps44
    go_wp2_with fail
    go_ret
    exact ⟨n, c, rfl, rfl, hc, hcm, h, Nat.le_refl _, by rw [List.take_of_length_le (by rw [HR.out.len]; exact h)]; exact HR.out⟩
theorem BytesOf_u8 {l r : List Int} {er : Int} (h : encR l = (r, er)) (hu : U8 l) : U8 r := by
  unfold encR at h
  split at h
  · injection h with h _; subst h; intro x hx; cases hx
  · injection h with h _; subst h; exact enc_u8 l 0 [] hu (fun x hx => by cases hx)

set_option maxRecDepth 100000 in
set_option maxHeartbeats 1000000 in
theorem shown05_any (w : World) :
    Calls Try.prog 43 #[] w fun e w' => e = .returned (.bool true) ∧ Below w.heap.size w w' := by
  go_enter Try.func43, Try.ntmps43
  go_wp2_with fail
  refine (Put5_any _ _ 6 6 [7, 7, 7, 7, 1, 2] (Ri_lit5 _ _ _ _ _ rfl _ rfl) (by unfold U8; decide) (by omega) (by omega) [1, 7, 254, 1, 2] 0 (by decide)).mono ?_; rintro e w1 ⟨G1, n1, c1, rfl, hr1, hb1⟩
  have hb1' := on ((Below.refl w.heap.size w).alloc (Nat.le_refl _) _) hb1
  have hn1 := hr1.1.len
  obtain rfl : n1 = 5 := hn1.symm
  have H1 := Lib.hid hr1
  clear hb1 hr1 hn1
  go_wp2_with fail
  refine (Take5_any _ _ 5 c1 [1, 7, 254, 1, 2] H1.out.1 (by unfold U8; decide) H1.out.2.1 H1.out.2.2 (by omega) 6 [7, 7, 7, 7, 1, 2] [] 0 (by decide)).mono ?_; rintro e w2 ⟨G2, n2, c2, G3, n3, c3, rfl, hr2, hr3, hb2⟩
  have hn3 := hr3.1.len
  obtain rfl : n3 = 0 := hn3.symm
  have H2 := Lib.hid hr2
  clear hr2 hr3 hn3
  go_wp2_with fail
  refine (Take5_any _ _ 5 c1 [1, 7, 254, 1, 2] (H1.out.1.below hb2) (by unfold U8; decide) H1.out.2.1 H1.out.2.2 (by omega) 5 [] [] 2 (by decide)).mono ?_; rintro e w3 ⟨G4, n4, c4, G5, n5, c5, rfl, hr4, hr5, hb3⟩
  clear hr4 hr5
  have cv1 := conv_any (c := c1) ((H1.out.1.below hb2).below hb3)
  have cv2 := conv_any (c := c2) (H2.out.1.below hb3)
  have s1 : (strOf [1, 7, 254, 1, 2]).toList = [1, 7, 254, 1, 2] := strOf_toList _
  have s2 : (strOf [7, 7, 7, 7, 1, 2]).toList = [7, 7, 7, 7, 1, 2] := strOf_toList _
  go_wp2_with fail
  go_ret
  exact ⟨rfl, on (on hb1' hb2) hb3⟩

set_option maxRecDepth 100000 in
set_option maxHeartbeats 1000000 in
theorem ByterlePuts_walk (w : World) (A : Option Addr) (n cap : Nat) (l : List Int) (hr : Ri w .u8 A n l) (hu : U8 l) (hc : n ≤ cap) (hm : cap ≤ maxLen) :
    Calls Try.prog 15 #[.slice A n cap] w fun e w' => e = .returned (.bool true) ∧ Below w.heap.size w w' := by
  unfold maxLen at hm
  have HU := Lib.hid (hu.take 4200); have HR := Lib.hid hr; clear hr hu
  obtain ⟨l2, hl2⟩ : ∃ l2, l2 = l.take 4200 := ⟨_, rfl⟩
  rw [← hl2] at HU
  obtain ⟨r, er, hl⟩ : ∃ r er, encR l2 = (r, er) := ⟨_, _, rfl⟩
  have HLL := Lib.hid hl; have HL2 := Lib.hid hl2; clear hl hl2
  go_enter Try.func15, Try.ntmps15
  go_wp2_with fail
  refine (shown05_any _).mono ?_; rintro e w1 ⟨rfl, hb1⟩
  go_wp2_with fail
  refine (few5_any _ _ _ _ l (HR.out.below hb1) hc hm 4200 (by omega)).mono ?_; rintro e w1' ⟨m, c2, rfl, rfl, hmc, hcm2, hm42, hmn, hr2⟩
  rw [← HL2.out] at hr2
  have H2 := Lib.hid hr2; clear hr2
  go_wp2_with (at_builtin; refine wpList_u8 _ rfl _ _ rfl w1'.heap.size _ 0 [] rfl (own_empty w1' _ 1) _ _ _ l2 rfl (H2.out.alloc _) (by omega) (by simp) ?_; intro G3 c3 w3 hown hgr hcc)
  have hb3 := push0 ((Below.refl w1'.heap.size w1').alloc (Nat.le_refl _) _) (Nat.le_refl _) (own_empty w1' _ 1) hgr
  rw [Nat.zero_add, List.nil_append] at hown
  have hc3 := own_cap hown
  have HO := Lib.hid (Ri.of_own hown); clear hown hgr hcc
  refine (Put5_any _ _ _ _ l2 HO.out HU.out hc3.1 hc3.2 r er HLL.out).mono ?_; rintro e w4 ⟨G4, n4, c4, rfl, hr4, hb4⟩
  go_wp2_with fail
  refine (refPut5_any _ _ _ _ l2 ((H2.out.below hb3).below hb4) HU.out hmc (by omega) r er HLL.out).mono ?_; rintro e w5 ⟨G5, n5, c5, rfl, hr5, hb5⟩
  have cv1 := conv_any (c := c4) (hr4.1.below hb5)
  have cv2 := conv_any (c := c5) hr5.1
  have cv3 := conv_any (c := c3) ((HO.out.below hb4).below hb5)
  have cv4 := conv_any (c := c2) (((H2.out.below hb3).below hb4).below hb5)
  have st := strOf_same r
  have st2 := strOf_same l2
  generalize strOf r = S at *
  generalize strOf l2 = S2 at *
  have HB := Lib.hid (on (on (on hb1 hb3) hb4) hb5)
  clear hr4 hr5 hb1 hb3 hb4 hb5
  go_wp2_with fail
  go_ret
  exact ⟨rfl, HB.out⟩

set_option maxRecDepth 100000 in
set_option maxHeartbeats 1000000 in
theorem ByterleTakes_walk (w : World) (A : Option Addr) (n cap : Nat) (l : List Int) (hr : Ri w .u8 A n l) (hu : U8 l) (hc : n ≤ cap) (hm : cap ≤ maxLen) (x : Int) (hx : -9223372036854775808 ≤ x ∧ x < 9223372036854775808) :
    Calls Try.prog 16 #[.slice A n cap, .int .i64 x] w fun e w' => e = .returned (.bool true) ∧ Below w.heap.size w w' := by
  unfold maxLen at hm
  obtain ⟨x1, x2⟩ := hx
  have HU := Lib.hid (hu.take 1000); have HR := Lib.hid hr; clear hr hu
  obtain ⟨l2, hl2⟩ : ∃ l2, l2 = l.take 1000 := ⟨_, rfl⟩
  rw [← hl2] at HU
  obtain ⟨r1, r2, er, hl⟩ : ∃ r1 r2 er, decR l2 x = (r1, r2, er) := ⟨_, _, _, rfl⟩
  have HLL := Lib.hid hl; have HL2 := Lib.hid hl2; clear hl hl2
  go_enter Try.func16, Try.ntmps16
  go_wp2_with fail
  refine (shown05_any _).mono ?_; rintro e w1 ⟨rfl, hb1⟩
  go_wp2_with fail
  refine (few5_any _ _ _ _ l (HR.out.below hb1) hc hm 1000 (by omega)).mono ?_; rintro e w1' ⟨m, c2, rfl, rfl, hmc, hcm2, hm42, hmn, hr2⟩
  rw [← HL2.out] at hr2
  have H2 := Lib.hid hr2; clear hr2
  go_wp2_with (at_builtin; refine wpList_u8 _ rfl _ _ rfl w1'.heap.size _ 0 [] rfl (own_empty w1' _ 1) _ _ _ l2 rfl (H2.out.alloc _) (by omega) (by simp) ?_; intro G3 c3 w3 hown hgr hcc)
  have hb3 := push0 ((Below.refl w1'.heap.size w1').alloc (Nat.le_refl _) _) (Nat.le_refl _) (own_empty w1' _ 1) hgr
  rw [Nat.zero_add, List.nil_append] at hown
  have hc3 := own_cap hown
  have HO := Lib.hid (Ri.of_own hown); clear hown hgr hcc
  refine (Take5_any _ _ _ _ l2 HO.out HU.out hc3.1 hc3.2 (by omega) x r1 r2 er HLL.out).mono ?_; rintro e w4 ⟨G4, n4, c4, G5, n5, c5, rfl, hr4, hr5, hb4⟩
  go_wp2_with fail
  refine (refTake5_any _ _ _ _ l2 ((H2.out.below hb3).below hb4) HU.out hmc hcm2 (by omega) x r1 r2 er HLL.out).mono ?_; rintro e w5 ⟨G6, n6, c6, G7, n7, c7, rfl, hr6, hr7, hb5⟩
  have cv1 := conv_any (c := c4) (hr4.1.below hb5)
  have cv2 := conv_any (c := c5) (hr5.1.below hb5)
  have cv3 := conv_any (c := c6) hr6.1
  have cv4 := conv_any (c := c7) hr7.1
  have st := strOf_same r1
  have st2 := strOf_same r2
  generalize strOf r1 = S at *
  generalize strOf r2 = S2 at *
  have HB := Lib.hid (on (on (on hb1 hb3) hb4) hb5)
  clear hr4 hr5 hr6 hr7 hb1 hb3 hb4 hb5
  go_wp2_with fail
  go_ret
  exact ⟨rfl, HB.out⟩
end Go.Proofs.Ytbkdhnlhhampfaa

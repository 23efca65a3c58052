/- The walk through PatchedBack. -/
import Derived.Test.YtpngbljfboceeaaShown10
import Derived.Test.YtpngbljfboceeaaPlainPd
import Derived.Test.YtpngbljfboceeaaPTake
import Derived.Test.YtpngbljfboceeaaRefW
import Derived.Test.YtpngbljfboceeaaPPut
import Derived.Test.YtpngbljfboceeaaSame8
namespace Go.Proofs.Ytpngbljfboceeaa
open Go.RowKit

theorem cut_ri11 {w : World} {kd : IntKind} {A : Option Addr} {n : Nat} {l : List Int} (h : Ri w kd A n l) (K : Nat) :
    (K < n ∧ (∃ b o, A = some ⟨b, o, none⟩) ∧ Ri w kd A K (l.take K)) ∨ (n ≤ K ∧ Ri w kd A n (l.take K)) := by
  rcases Nat.lt_or_ge K n with h1 | h1
  · obtain ⟨b, o, e, _⟩ := h.all (by omega)
    exact .inl ⟨h1, ⟨b, o, e⟩, h.first (by omega)⟩
  · exact .inr ⟨h1, by rw [List.take_of_length_le (by rw [h.len]; exact h1)]; exact h⟩
theorem tmod31 (x : Int) : -30 ≤ x.tmod 31 ∧ x.tmod 31 ≤ 30 := by
  have h1 := Int.tmod_lt_of_pos x (show (0 : Int) < 31 by decide)
  have h2 := Int.lt_tmod_of_pos x (show (0 : Int) < 31 by decide)
  omega

set_option maxRecDepth 100000 in
set_option maxHeartbeats 4000000 in
theorem PatchedBack_walk (w : World) (A : Option Addr) (n cap : Nat) (l : List Int) (hr : Ri w .i64 A n l) (hu : I64 l) (hc : n ≤ cap) (hm : cap ≤ maxLen) (x : Int) (_hx : -9223372036854775808 ≤ x ∧ x < 9223372036854775808)
    (B : Option Addr) (n2 cap2 : Nat) (l2 : List Int) (hr2 : Ri w .u8 B n2 l2) (hu2 : U8 l2) (hc2 : n2 ≤ cap2) (hm2 : cap2 ≤ maxLen) :
    Calls Try.prog 5 #[.slice A n cap, .int .i64 x, .slice B n2 cap2] w fun e w' => e = .returned (.bool true) ∧ Below w.heap.size w w' := by
  unfold maxLen at hm hm2
  have HU : Hid (I64 (l.take 512)) := Lib.hid fun x hx => hu x (List.mem_of_mem_take hx)
  have HU2 := Lib.hid (hu2.take 50)
  have HL := Lib.hid (show (l.take 512).length ≤ 512 by rw [List.length_take]; omega)
  have HL2 := Lib.hid (show (l2.take 50).length ≤ 50 by rw [List.length_take]; omega)
  obtain ⟨L, hL⟩ : ∃ L, L = l.take 512 := ⟨_, rfl⟩
  obtain ⟨L2, hL2⟩ : ∃ L, L = l2.take 50 := ⟨_, rfl⟩
  have HR := Lib.hid (cut_ri11 hr 512); have HR2 := Lib.hid (cut_ri11 hr2 50)
  rw [← hL] at HU HL HR
  rw [← hL2] at HU2 HL2 HR2
  clear hr hu hr2 hu2 hL hL2
  go_enter Try.func5, Try.ntmps5
  go_wp2_with fail
  refine (shown10_any _).mono ?_; rintro e w1 ⟨rfl, hb1⟩
  have HB1 := Lib.hid hb1; clear hb1
  go_upto_if 18 with fail
  go_cut [0] (fun v0 wx => ∃ m c : Nat, v0 = .slice A m c ∧ Hid (Ri w .i64 A m L) ∧ m ≤ 512 ∧ m ≤ c ∧ c ≤ 9223372036854775807 ∧ wx = w1)
  case first =>
    rcases HR.out with ⟨h1, ⟨b, o, rfl⟩, h3⟩ | ⟨h1, h3⟩
    all_goals
      have H3 := Lib.hid h3; clear h3 HR HR2
      go_wp2_with fail
      go_meet
      exact ⟨_, _, rfl, H3, by omega, by omega, by omega, rfl⟩
  case rest =>
    obtain ⟨m, c, rfl, hr, hm5, hmc, hcm, hw⟩ := hcut
    subst hw
    go_upto_if 23 with fail
    go_cut [2] (fun v2 wx => ∃ m2 c2 : Nat, v2 = .slice B m2 c2 ∧ Hid (Ri w .u8 B m2 L2) ∧ m2 ≤ 50 ∧ m2 ≤ c2 ∧ c2 ≤ 9223372036854775807 ∧ wx = wc)
    case first =>
      rcases HR2.out with ⟨h1, ⟨b, o, rfl⟩, h3⟩ | ⟨h1, h3⟩
      all_goals
        have H3 := Lib.hid h3; clear h3 HR HR2
        go_wp2_with fail
        go_meet
        exact ⟨_, _, rfl, H3, by omega, by omega, by omega, rfl⟩
    case rest =>
    obtain ⟨m2, c2, rfl, hr2, hm50, hmc2, hcm2, hw⟩ := hcut
    subst hw
    obtain ⟨t, ht⟩ : ∃ t, x.tmod 31 = t := ⟨_, rfl⟩
    have htb := tmod31 x
    rw [ht] at htb
    go_upto_if 29 with fail
    go_cut [8] (fun v8 wx => ∃ k : Int, v8 = .int .i64 k ∧ 0 ≤ k ∧ k ≤ 30 ∧ wx = wc)
    case first =>
      by_cases ht0 : t < 0
      all_goals
        go_wp2_with fail
        go_meet
        exact ⟨_, rfl, by omega, by omega, rfl⟩
    case rest =>
    obtain ⟨k, rfl, hk0, hk1, hw⟩ := hcut
    subst hw
    clear ht htb
    clear HR HR2
    have hwr := wOf_range k
    have HRA := Lib.hid (hr.out.below HB1.out)
    rcases pa_put L (wOf k) true with hp | ⟨hpre, hok⟩
    · have HP := Lib.hid hp; clear hp
      go_wp2_with fail
      refine (refOf_any k _ (by omega) (by omega)).mono ?_; rintro e w2 ⟨rfl, rfl⟩
      go_wp2_with fail
      refine (PPut_any _ _ _ _ L HRA.out HU.out hmc hcm (by omega) (wOf k) (by unfold I64x; omega) true [] 1 HP.out).mono ?_; rintro e w4 ⟨G4, n4, c4, rfl, hs4, hb4⟩
      have hn4 := hs4.1.len
      obtain rfl : n4 = 0 := hn4.symm
      have HB4 := Lib.hid (on HB1.out hb4)
      clear hn4 hs4 hb4
      go_wp2_with fail
      go_ret
      exact ⟨rfl, HB4.out⟩
    · obtain ⟨p, hp, hp8, hpl, hpb⟩ := pa_back L HU.out (wOf k) true hpre hok
      have HP := Lib.hid hp; have HP8 := Lib.hid hp8; have HPB := Lib.hid (hpb L2)
      clear hp hp8 hpb hpre hok
      go_wp2_with fail
      refine (refOf_any k _ (by omega) (by omega)).mono ?_; rintro e w2 ⟨rfl, rfl⟩
      go_wp2_with fail
      refine (PPut_any _ _ _ _ L HRA.out HU.out hmc hcm (by omega) (wOf k) (by unfold I64x; omega) true p 0 HP.out).mono ?_; rintro e w4 ⟨G4, n4, c4, rfl, hs4, hb4⟩
      have hn4 := hs4.1.len
      obtain rfl : n4 = p.length := hn4.symm
      have HR4 := Lib.hid hs4.1; have HO4 := Lib.hid (HRA.out.below hb4); have HL4 := Lib.hid ((hr2.out.below HB1.out).below hb4); have HB4 := Lib.hid (on HB1.out hb4)
      clear hs4 hb4 hn4
      go_wp2_with (first | (at_builtin; refine wpList_u8 _ rfl (.tmp 52) (.tmp 53) rfl w4.heap.size _ 0 [] rfl (own_empty w4 _ 1) _ _ _ p rfl (HR4.out.alloc _) (by omega) (by simp) ?_; intro G6 c6 w6 hown hgr _; have hb6 := push0 ((Below.refl w4.heap.size w4).alloc (Nat.le_refl _) _) (Nat.le_refl _) (own_empty w4 _ 1) hgr; rw [Nat.zero_add, List.nil_append] at hown; have hz6 := hb6.size; have HO6 := Lib.hid hown; clear hown hgr) | (at_builtin; refine wpList_u8 _ rfl (.tmp 54) (.tmp 55) rfl w4.heap.size _ _ p rfl HO6.out _ _ _ L2 rfl (HL4.out.below hb6) (by omega) (by omega) ?_; intro G7 c7 w7 hown hgr _; have hb7 := push0 hb6 (Nat.le_refl _) HO6.out hgr))
      have hs7 := Sl.of_own hown
      have HU7 : Hid (U8 (p ++ L2)) := by
        intro z hz
        rcases List.mem_append.1 hz with h | h
        · exact HP8.out z h
        · exact HU2.out z h
      have HS7 := Lib.hid hs7
      clear hown hgr hs7
      refine (PTake_any _ _ _ _ (p ++ L2) HS7.out.1 HU7.out HS7.out.2.1 HS7.out.2.2 (by omega) true L L2 0 HPB.out).mono ?_; rintro e w8 ⟨G8, n8, c8, G9, n9, c9, rfl, hs8, hs9, hb8⟩
      have b8 : n8 ≤ 1000000 := by have := hs8.1.len; have := HL.out; omega
      go_wp2_with fail
      refine (Same8_any _ _ _ _ _ _ _ L L hs8.1 ((HO4.out.below hb7).below hb8) b8 (by omega) HU.out HU.out).mono ?_; rintro e w9 ⟨rfl, hb9⟩
      rw [decide_eq_true rfl]
      have cv1 := conv_any (c := c9) (hs9.1.below hb9)
      have cv2 := conv_any (c := c2) (((HL4.out.below hb7).below hb8).below hb9)
      have st := strOf_same L2
      generalize strOf L2 = S at *
      have HBB := Lib.hid (on (on (on HB4.out hb7) hb8) hb9)
      clear hs8 hs9 b8 hb6 hb7 hb8 hb9 hz6
      go_wp2_with fail
      go_ret
      exact ⟨rfl, HBB.out⟩
end Go.Proofs.Ytpngbljfboceeaa

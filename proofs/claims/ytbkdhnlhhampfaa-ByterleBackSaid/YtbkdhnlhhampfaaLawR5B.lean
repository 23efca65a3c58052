/- The walk through ByterleBack. -/
import Derived.Test.YtbkdhnlhhampfaaLawR5
namespace Go.Proofs.Ytbkdhnlhhampfaa
open Go.RowKit

theorem enc_len (n : Nat) : ∀ b pend : List Int, b.length ≤ n → (enc 0 pend b).length ≤ 2 * (pend.length + b.length) := by
  induction n with
  | zero =>
    intro b pend hb
    obtain rfl : b = [] := List.eq_nil_of_length_eq_zero (by omega)
    rw [enc_nil]; simpa using chunks_len pend
  | succ n ih =>
    intro b pend hb
    rcases Nat.eq_zero_or_pos b.length with h0 | h0
    · obtain rfl : b = [] := List.eq_nil_of_length_eq_zero h0
      rw [enc_nil]; simpa using chunks_len pend
    · have hr1 := runN_pos h0
      have hrl := runN_le b
      have hld : (b.drop (runN b)).length = b.length - runN b := List.length_drop
      have hlt : (b.take (runN b)).length = runN b := by rw [List.length_take]; omega
      rcases Nat.lt_or_ge (runN b) 3 with h3 | h3
      · have := ih (b.drop (runN b)) (pend ++ b.take (runN b)) (by omega)
        rw [enc_short b pend h0 h3]
        rw [List.length_append] at this
        omega
      · have h1 := ih (b.drop (runN b)) [] (by omega)
        have h2 := chunks_len pend
        rw [enc_long b pend h3, List.length_append, List.length_cons, List.length_cons]
        simp only [List.length_nil] at h1
        omega

set_option maxRecDepth 100000 in
set_option maxHeartbeats 2000000 in
theorem ByterleBack_walk (w : World) (A : Option Addr) (n cap : Nat) (l : List Int) (hr : Ri w .u8 A n l) (hu : U8 l) (hc : n ≤ cap) (hm : cap ≤ maxLen)
    (B : Option Addr) (n2 cap2 : Nat) (l2 : List Int) (hr2 : Ri w .u8 B n2 l2) (hu2 : U8 l2) (hc2 : n2 ≤ cap2) (hm2 : cap2 ≤ maxLen) :
    Calls Try.prog 17 #[.slice A n cap, .slice B n2 cap2] w fun e w' => e = .returned (.bool true) ∧ Below w.heap.size w w' := by
  unfold maxLen at hm hm2
  have HU := Lib.hid (hu.take 4096); have HR := Lib.hid hr
  have HU2 := Lib.hid (hu2.take 100); have HR2 := Lib.hid hr2
  clear hr hu hr2 hu2
  obtain ⟨p, hp⟩ : ∃ p, p = l.take 4096 := ⟨_, rfl⟩
  obtain ⟨q, hq⟩ : ∃ q, q = l2.take 100 := ⟨_, rfl⟩
  rw [← hp] at HU
  rw [← hq] at HU2
  have hpl : p.length ≤ 4096 := by rw [hp, List.length_take]; omega
  obtain ⟨r, hrr⟩ : ∃ r, r = enc 0 [] p := ⟨_, rfl⟩
  have hen : Hid (encR p = (r, 0)) := by show encR p = (r, 0); unfold encR; rw [if_neg (by omega), hrr]
  have hru : Hid (U8 r) := by rw [hrr]; exact Lib.hid (enc_u8 p 0 [] HU.out (fun x hx => by cases hx))
  have hrl : r.length ≤ 8192 := by rw [hrr]; have := enc_len p.length p [] (Nat.le_refl _); simp only [List.length_nil] at this; omega
  have hdb : Hid (decR (r ++ q) p.length = (p, q, 0)) := by rw [hrr]; exact Lib.hid (dec_back p q hpl)
  have hdm : Hid (decR r ((p.length : Int) + 1) = ([], [], if p.length = 4096 then 1 else 2)) := by rw [hrr]; exact Lib.hid (dec_more p hpl)
  have HP := Lib.hid hp; have HQ := Lib.hid hq
  clear hp hq hrr
  go_enter Try.func17, Try.ntmps17
  go_wp2_with fail
  refine (shown05_any _).mono ?_; rintro e w1 ⟨rfl, hb1⟩
  go_wp2_with fail
  refine (few5_any _ _ _ _ l (HR.out.below hb1) hc hm 4096 (by omega)).mono ?_; rintro e w1' ⟨m, c, rfl, rfl, hmc, hcm, hm4, hmn, h2⟩
  rw [← HP.out] at h2
  have hml := h2.len
  subst hml
  have H2 := Lib.hid h2; clear h2
  go_wp2_with fail
  refine (few5_any _ _ _ _ l2 (HR2.out.below hb1) hc2 hm2 100 (by omega)).mono ?_; rintro e w1'' ⟨m2, c2, rfl, rfl, hmc2, hcm2, hm42, hmn2, h3⟩
  rw [← HQ.out] at h3
  have hml := h3.len
  subst hml
  have H3 := Lib.hid h3; clear h3
  go_wp2_with fail
  refine (Put5_any _ _ _ _ p H2.out HU.out hmc hcm r 0 hen.out).mono ?_; rintro e w4 ⟨G4, n4, c4, rfl, hr4, hb4⟩
  have hn4 := hr4.1.len
  subst hn4
  have HR4 := Lib.hid hr4; have HB4 := Lib.hid (on hb1 hb4)
  have H34 := Lib.hid (H3.out.below hb4); have H24 := Lib.hid (H2.out.below hb4)
  clear hb1 hb4 hr4
  go_wp2_with (first | (at_builtin; refine wpList_u8 _ rfl (.tmp 25) (.tmp 26) rfl w4.heap.size _ 0 [] rfl (own_empty w4 _ 1) _ _ _ r rfl (HR4.out.1.alloc _) (by omega) (by simp) ?_; intro G6 c6 w6 hown hgr _; have hb6 := push0 ((Below.refl w4.heap.size w4).alloc (Nat.le_refl _) _) (Nat.le_refl _) (own_empty w4 _ 1) hgr; rw [Nat.zero_add, List.nil_append] at hown; have hz6 := hb6.size; have HO6 := Lib.hid hown; clear hown hgr) | (at_builtin; refine wpList_u8 _ rfl (.tmp 27) (.tmp 28) rfl w4.heap.size _ _ r rfl HO6.out _ _ _ q rfl (H34.out.below hb6) (by omega) (by omega) ?_; intro G7 c7 w7 hown hgr _; have hb7 := push0 hb6 (Nat.le_refl _) HO6.out hgr))
  have hs7 := Sl.of_own hown
  have HU7 : Hid (U8 (r ++ q)) := by
    intro z hz
    rcases List.mem_append.1 hz with h | h
    · exact hru.out z h
    · exact HU2.out z h
  have HS7 := Lib.hid hs7
  clear hown hgr hs7
  refine (Take5_any _ _ _ _ (r ++ q) HS7.out.1 HU7.out HS7.out.2.1 HS7.out.2.2 (by omega) p.length p q 0 hdb.out).mono ?_; rintro e w8 ⟨G8, n8, c8, G9, n9, c9, rfl, hr8, hr9, hb8⟩
  have HB8 := Lib.hid (on hb7 hb8); have HR8 := Lib.hid hr8; have HR9 := Lib.hid hr9
  have HR48 := Lib.hid (HR4.out.1.below (on hb7 hb8)); have hcc4 := HR4.out.2
  clear hb6 hb7 hb8 hr8 hr9
  go_wp2_with fail
  refine (Take5_any _ _ _ _ r HR48.out hru.out hcc4.1 hcc4.2 (by omega) _ [] [] _ hdm.out).mono ?_; rintro e wA ⟨GA, nA, cA, GB, nB, cB, rfl, hrA, hrB, hbA⟩
  have cv1 := conv_any (c := c8) (HR8.out.1.below hbA)
  have cv2 := conv_any (c := c) ((H24.out.below HB8.out).below hbA)
  have cv3 := conv_any (c := c9) (HR9.out.1.below hbA)
  have cv4 := conv_any (c := c2) ((H34.out.below HB8.out).below hbA)
  have st := strOf_same p
  have st2 := strOf_same q
  generalize strOf p = S at *
  generalize strOf q = S2 at *
  have HB := Lib.hid (on (on HB4.out HB8.out) hbA)
  clear hrA hrB hbA
  by_cases h4096 : p.length = 4096
  · rw [if_pos h4096]
    have h5 : ((p.length : Int) == 4096) = true := by rw [h4096]; rfl
    clear h4096
    go_wp2_with fail
    go_ret
    exact ⟨rfl, HB.out⟩
  · rw [if_neg h4096]
    go_wp2_with fail
    go_ret
    exact ⟨rfl, HB.out⟩
end Go.Proofs.Ytbkdhnlhhampfaa

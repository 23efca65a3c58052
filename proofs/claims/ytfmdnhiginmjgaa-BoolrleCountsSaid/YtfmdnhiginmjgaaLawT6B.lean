/- The walks through BoolrleBack and BoolrleCounts. -/
import Derived.Test.YtfmdnhiginmjgaaLawT6
import Derived.Test.YtfmdnhiginmjgaaPlainBB
namespace Go.Proofs.Ytfmdnhiginmjgaa
open Go.RowKit

theorem enc_len6 (n : Nat) : ∀ b pend : List Int, b.length ≤ n → (enc 0 pend b).length ≤ 2 * (pend.length + b.length) := by
  induction n with
  | zero =>
    intro b pend hb
    obtain rfl : b = [] := List.eq_nil_of_length_eq_zero (by omega)
    rw [enc_nil]; simpa using chunks_len pend
  | succ n ih =>
    intro b pend hb
    rcases Nat.eq_zero_or_pos b.length with h0 | h0
    · obtain rfl : b = [] := List.eq_nil_of_length_eq_zero h0
      rw [enc_nil]; simpa using chunks_len pend
    · have hr1 := runN_pos h0
      have hrl := runN_le b
      have hld : (b.drop (runN b)).length = b.length - runN b := List.length_drop
      have hlt : (b.take (runN b)).length = runN b := by rw [List.length_take]; omega
      rcases Nat.lt_or_ge (runN b) 3 with h3 | h3
      · have := ih (b.drop (runN b)) (pend ++ b.take (runN b)) (by omega)
        rw [enc_short b pend h0 h3]
        rw [List.length_append] at this
        omega
      · have h1 := ih (b.drop (runN b)) [] (by omega)
        have h2 := chunks_len pend
        rw [enc_long b pend h3, List.length_append, List.length_cons, List.length_cons]
        simp only [List.length_nil] at h1
        omega
theorem put_len (l : List Bool) (h : l.length ≤ 4096) : (enc 0 [] (bytesB l)).length ≤ 2000 := by
  have := enc_len6 (bytesB l).length (bytesB l) [] (Nat.le_refl _)
  rw [bytesB_len] at this
  simp only [List.length_nil] at this
  omega

set_option maxRecDepth 100000 in
set_option maxHeartbeats 2000000 in
theorem BoolrleBack_walk (w : World) (A : Option Addr) (n cap : Nat) (l : List Bool) (hr : Rb w A n l) (hc : n ≤ cap) (hm : cap ≤ maxLen)
    (B : Option Addr) (n2 cap2 : Nat) (l2 : List Int) (hr2 : Ri w .u8 B n2 l2) (hu2 : U8 l2) (hc2 : n2 ≤ cap2) (hm2 : cap2 ≤ maxLen) :
    Calls Try.prog 5 #[.slice A n cap, .slice B n2 cap2] w fun e w' => e = .returned (.bool true) ∧ Below w.heap.size w w' := by
  unfold maxLen at hm hm2
  have HU2 := Lib.hid (hu2.take 100)
  obtain ⟨p, hp⟩ : ∃ p, p = l.take 4096 := ⟨_, rfl⟩
  obtain ⟨q, hq⟩ : ∃ q, q = l2.take 100 := ⟨_, rfl⟩
  rw [← hq] at HU2
  have hpl : p.length ≤ 4096 := by rw [hp, List.length_take]; omega
  have hput := put_takes p hpl
  have hback := take_back p q hpl
  have hrl := put_len p hpl
  have hru := enc_u8 (bytesB p) 0 [] (bytesB_u8 p) (fun x hx => by cases hx)
  generalize enc 0 [] (bytesB p) = r at *
  have HPUT := Lib.hid hput; have HBACK := Lib.hid hback; have HRU := Lib.hid hru
  clear hput hback hru hu2
  rcases cut_rb hr 4096 with ⟨h1, ⟨bb, oo, rfl⟩, h2⟩ | ⟨h1, h2⟩ <;> rcases cut_riB hr2 100 with ⟨h3, ⟨bb2, oo2, rfl⟩, h4⟩ | ⟨h3, h4⟩
  all_goals
    rw [← hp] at h2
    rw [← hq] at h4
    have H2 := Lib.hid h2; have H4 := Lib.hid h4
    have hq2 := h4.len
    have hp2 := h2.len
    clear hr hr2 h2 h4 hp hq
    have hq2' : q.length ≤ 100 := by omega
    clear hq2
    generalize p.length = pn at hpl hp2 HBACK
    subst hp2
    go_enter Try.func5, Try.ntmps5
    go_wp2_with fail
    refine (shown06_any _).mono ?_; rintro e w1 ⟨rfl, hb1⟩
    have H2b := Lib.hid (H2.out.below hb1); have H4b := Lib.hid (H4.out.below hb1); have HB1 := Lib.hid hb1
    clear H2 H4 hb1
    go_wp2_with fail
    refine (BPut_any _ _ _ _ p H2b.out (by omega) r 0 HPUT.out).mono ?_; rintro e w4 ⟨G4, n4, c4, rfl, hr4, hb4⟩
    have hn4 := hr4.1.len
    subst hn4
    have HR4 := Lib.hid hr4; have HB4 := Lib.hid (on HB1.out hb4)
    have H24 := Lib.hid (H2b.out.below hb4); have H44 := Lib.hid (H4b.out.below hb4)
    clear hb4 hr4 H2b H4b HB1
    go_wp2_with (first | (at_builtin; refine wpList_u8 _ rfl (.tmp 29) (.tmp 30) rfl w4.heap.size _ 0 [] rfl (own_empty w4 _ 1) _ _ _ r rfl (HR4.out.1.alloc _) (by omega) (by simp) ?_; intro G6 c6 w6 hown hgr _; have hb6 := push0 ((Below.refl w4.heap.size w4).alloc (Nat.le_refl _) _) (Nat.le_refl _) (own_empty w4 _ 1) hgr; rw [Nat.zero_add, List.nil_append] at hown; have hz6 := hb6.size; have HO6 := Lib.hid hown; clear hown hgr) | (at_builtin; refine wpList_u8 _ rfl (.tmp 31) (.tmp 32) rfl w4.heap.size _ _ r rfl HO6.out _ _ _ q rfl (H44.out.below hb6) (by omega) (by omega) ?_; intro G7 c7 w7 hown hgr _; have hb7 := push0 hb6 (Nat.le_refl _) HO6.out hgr))
    have hs7 := Sl.of_own hown
    have HU7 : Hid (U8 (r ++ q)) := by
      intro z hz
      rcases List.mem_append.1 hz with h | h
      · exact HRU.out z h
      · exact HU2.out z h
    have HS7 := Lib.hid hs7
    clear hown hgr hs7
    refine (BTake_any _ _ _ _ (r ++ q) HS7.out.1 HU7.out HS7.out.2.1 HS7.out.2.2 (by omega) _ p q 0 HBACK.out).mono ?_; rintro e w8 ⟨G8, n8, c8, G9, n9, c9, rfl, hr8, hr9, hb8⟩
    have HB8 := Lib.hid (on hb7 hb8); have HR8 := Lib.hid hr8; have HR9 := Lib.hid hr9
    clear hb6 hb7 hb8 hr8 hr9
    have hn8 : n8 ≤ 4096 := by have := HR8.out.1.len; have := (H24.out).len; omega
    go_wp2_with fail
    refine (SameB_any _ _ _ _ _ _ _ p p (H24.out.below HB8.out) HR8.out.1 (by omega) (by omega)).mono ?_; rintro e w9 ⟨rfl, hb9⟩
    rw [decide_eq_true rfl]
    have cv3 := conv_any (c := c9) (HR9.out.1.below hb9)
    have cv4 := conv_any (c := cap2) ((H44.out.below HB8.out).below hb9)
    have st2 := strOf_same q
    generalize strOf q = S2 at *
    have HB := Lib.hid (on (on HB4.out HB8.out) hb9)
    clear hb9
    go_wp2_with fail
    go_ret
    exact ⟨rfl, HB.out⟩

set_option maxRecDepth 100000 in
set_option maxHeartbeats 2000000 in
theorem BoolrleCounts_walk (w : World) (A : Option Addr) (n cap : Nat) (l : List Bool) (hr : Rb w A n l) (hc : n ≤ cap) (hm : cap ≤ maxLen)
    (B : Option Addr) (n2 cap2 : Nat) (l2 : List Bool) (hr2 : Rb w B n2 l2) (hc2 : n2 ≤ cap2) (hm2 : cap2 ≤ maxLen) :
    Calls Try.prog 6 #[.slice A n cap, .slice B n2 cap2] w fun e w' => e = .returned (.bool true) ∧ Below w.heap.size w w' := by
  unfold maxLen at hm hm2
  have HR := Lib.hid hr; have HR2 := Lib.hid hr2; clear hr hr2
  obtain ⟨p, hp⟩ : ∃ p, p = l.take 4200 := ⟨_, rfl⟩
  obtain ⟨q, hq⟩ : ∃ q, q = l2.take 4200 := ⟨_, rfl⟩
  have HP := Lib.hid hp; have HQ := Lib.hid hq; clear hp hq
  have hca := countB_append p q
  have hct := countB_turned p
  have hcp := countB_le p
  have hcq := countB_le q
  go_enter Try.func6, Try.ntmps6
  go_wp2_with fail
  refine (shown06_any _).mono ?_; rintro e w1 ⟨rfl, hb1⟩
  go_wp2_with fail
  refine (few6_any _ _ _ _ l (HR.out.below hb1) hc hm).mono ?_; rintro e w1' ⟨m, c2, rfl, rfl, hmc, hcm2, hm42, hmn, hr2⟩
  rw [← HP.out] at hr2
  have H2 := Lib.hid hr2; have hpm := hr2.len; clear hr2
  go_wp2_with fail
  refine (few6_any _ _ _ _ l2 (HR2.out.below hb1) hc2 hm2).mono ?_; rintro e w1'' ⟨m3, c3, rfl, rfl, hmc3, hcm3, hm43, hmn3, hr3⟩
  rw [← HQ.out] at hr3
  have H3 := Lib.hid hr3; have hqm := hr3.len; clear hr3
  have HB1 := Lib.hid hb1; clear hb1
  have hcp' : countB p ≤ 4200 := by omega
  have hcq' : countB q ≤ 4200 := by omega
  have HCA := Lib.hid hca; have HCT := Lib.hid hct; have HPM := Lib.hid hpm; have HQM := Lib.hid hqm
  clear hca hct hcp hcq hpm hqm
  go_wp2_with fail
  have H0 := Lib.hid (own_empty w1'' 4 1)
  go_loopw [6, 7] (fun v i wr => ∃ j : Nat, j ≤ m ∧ i = .int .i64 j ∧ Hid (wr.ownsRow w1''.heap.size 4 1 v j (((p.take j).map not).map Value.bool)) ∧ Hid (Below w1''.heap.size w1'' wr)) (fun _ i _ => m - (intOf i).toNat)
  case atStart => exact ⟨0, by omega, rfl, H0, (Below.refl w1''.heap.size w1'').alloc (Nat.le_refl _) _⟩
  case round =>
    obtain ⟨j, hj, rfl, ho, hb⟩ := hrel
    by_cases hlt : j < m
    · obtain ⟨bb, oo, hA, hbl, hcell⟩ := H2.out.at_ hlt
      subst hA
      have hc3 := (hb.out.cell (p := ⟨bb, oo + j, none⟩) hbl).trans hcell
      have ht := Lib.hid (takeB_snoc p j (by rw [HPM.out]; exact hlt))
      have hz8 := hb.out.size
      clear hcell
      generalize p.getD j false = x at *
      go_wp2_with (at_builtin; refine wpList_bool _ rfl _ _ rfl w1''.heap.size _ j _ rfl (ho.out.alloc _) _ 1 1 [_] rfl (Rd.one _ _ _) (by omega) (by simp; omega) ?_; intro G c w2 hown hgr hcc)
      have HOWN := Lib.hid hown; clear hown
      go_wp2_with fail
      go_roundw
      case rel =>
        refine ⟨j + 1, by omega, by go_num, ?_, push_ hb.out (Nat.le_refl _) ho.out hgr⟩
        rw [ht.out, List.map_append]
        exact HOWN
      case measure => simp [intOf] <;> omega
    · obtain rfl : j = m := by omega
      have hown := ho.out
      rw [List.take_of_length_le (by rw [HPM.out]; omega)] at hown
      obtain ⟨G5, c5, rfl⟩ := own_form hown
      have HS5 := Lib.hid (Sb.of_own hown)
      have HBr := Lib.hid (on HB1.out hb.out)
      have H2r := Lib.hid (H2.out.below hb.out); have H3r := Lib.hid (H3.out.below hb.out)
      clear hown ho hb H2 H3
      go_wp2_with (first | (at_builtin; refine wpList_bool _ rfl (.tmp 29) (.tmp 30) rfl wr.heap.size _ 0 [] rfl (own_empty wr _ 1) _ _ _ p rfl (H2r.out.alloc _) (by omega) (by simp) ?_; intro G6 c6 w6 hown hgr _; have hb6 := push0 ((Below.refl wr.heap.size wr).alloc (Nat.le_refl _) _) (Nat.le_refl _) (own_empty wr _ 1) hgr; rw [Nat.zero_add, List.nil_append] at hown; have hz6 := hb6.size; have HO6 := Lib.hid hown; clear hown hgr) | (at_builtin; refine wpList_bool _ rfl (.tmp 31) (.tmp 32) rfl wr.heap.size _ _ p rfl HO6.out _ _ _ q rfl (H3r.out.below hb6) (by omega) (by omega) ?_; intro G7 c7 w7 hown hgr _; have hb7 := push0 hb6 (Nat.le_refl _) HO6.out hgr))
      have HS7 := Lib.hid (Sb.of_own hown)
      have HB7 := Lib.hid (on HBr.out hb7)
      have H27 := Lib.hid (H2r.out.below hb7); have H37 := Lib.hid (H3r.out.below hb7); have H57 := Lib.hid (HS5.out.1.below hb7)
      clear hown hgr hb6 hb7
      have hca := HCA.out
      have hct := HCT.out
      rw [HPM.out] at hct
      refine (Count_any _ _ _ _ (p ++ q) HS7.out.1 (by omega)).mono ?_; rintro e w8 ⟨rfl, rfl⟩
      have hs1 : (countB (p ++ q) : Int) = (countB p : Int) + (countB q : Int) := by rw [countB_append]; omega
      have hs2 : (j : Int) - (countB p : Int) = (countB (p.map not) : Int) := by have := countB_turned p; rw [HPM.out] at this; omega
      have hc3' : countB (p.map not) ≤ 4200 := by omega
      rw [hs1]
      clear hca hct hs1
      go_wp2_with fail
      refine (Count_any _ _ _ _ p H27.out (by omega)).mono ?_; rintro e w8 ⟨rfl, rfl⟩
      go_wp2_with fail
      refine (Count_any _ _ _ _ q H37.out (by omega)).mono ?_; rintro e w8 ⟨rfl, rfl⟩
      go_wp2_with fail
      refine (Count_any _ _ _ _ (p.map not) H57.out (by omega)).mono ?_; rintro e w8 ⟨rfl, rfl⟩
      generalize countB (p.map not) = ct at *
      generalize hcpx : countB p = cp at *
      generalize countB q = cq at *
      have HCPX := Lib.hid hcpx; clear hcpx HCT HCA
      go_wp2_with fail
      refine (Count_any _ _ _ _ p H27.out (by omega)).mono ?_; rintro e w8 ⟨rfl, rfl⟩
      rw [HCPX.out]
      have hbb : (((ct : Int) == (ct : Int)) = true) := by simp
      go_wp2_with fail
      go_ret
      exact ⟨rfl, HB7.out⟩
end Go.Proofs.Ytfmdnhiginmjgaa

/- The walk through DirectBack, unsigned. -/
import Derived.Test.YtglfbjaiofjlpaaLawD4
namespace Go.Proofs.Ytglfbjaiofjlpaa
open Go.RowKit

theorem keep_snoc (s : Bool) (l : List Int) (j : Nat) (hj : j < l.length) : (l.take (j + 1)).filter (keepB s) = (l.take j).filter (keepB s) ++ (if keepB s (l.getD j 0) then [l.getD j 0] else []) := by
  rw [take_snoc l j hj, List.filter_append]
  congr 1
  generalize l.getD j 0 = x
  by_cases h : keepB s x = true
  · rw [if_pos h, List.filter_cons_of_pos h, List.filter_nil]
  · rw [if_neg h, List.filter_cons_of_neg h, List.filter_nil]

set_option maxRecDepth 100000 in
set_option maxHeartbeats 40000000 in
theorem DirectBack_false (w : World) (A : Option Addr) (n cap : Nat) (l : List Int) (hr : Ri w .i64 A n l) (hu : I64 l) (hc : n ≤ cap) (hm : cap ≤ maxLen)
    (B : Option Addr) (n2 cap2 : Nat) (l2 : List Int) (hr2 : Ri w .u8 B n2 l2) (hu2 : U8 l2) (hc2 : n2 ≤ cap2) (hm2 : cap2 ≤ maxLen) :
    Calls Try.prog 7 #[.slice A n cap, .slice B n2 cap2, .bool false] w fun e w' => e = .returned (.bool true) ∧ Below w.heap.size w w' := by
  unfold maxLen at hm hm2
  have HU := Lib.hid hu; have HR := Lib.hid hr; have HN := Lib.hid hr.len
  have HU2 := Lib.hid (hu2.take 50); have HCUT := Lib.hid (cut_ri hr2 50); have HU2L := Lib.hid hr2.len
  clear hr hu hr2 hu2
  go_enter Try.func7, Try.ntmps7
  go_wp2_with fail
  refine (shown08_any _).mono ?_; rintro e w1 ⟨rfl, hb1⟩
  have HB1 := Lib.hid hb1; clear hb1
  go_wp2_with fail
  have HB2 := Lib.hid (own_empty w1 3 1)
  go_loopw [8, 9] (fun v i wr => ∃ j : Nat, j ≤ n ∧ j ≤ 512 ∧ i = .int .i64 j ∧ Hid (wr.ownsRow w1.heap.size 3 1 v ((l.take j).filter (keepB false)).length (((l.take j).filter (keepB false)).map (Value.int .i64))) ∧ Hid (Below w1.heap.size w1 wr)) (fun _ i _ => n - (intOf i).toNat)
  case atStart => exact ⟨0, by omega, by omega, rfl, HB2, (Below.refl w1.heap.size w1).alloc (Nat.le_refl _) _⟩
  case round =>
    obtain ⟨j, hj1, hj2, rfl, ho, hb⟩ := hrel
    by_cases hlt : j < n ∧ j < 512
    · obtain ⟨hlt1, hlt2⟩ := hlt
      obtain ⟨b, o, hA, hbl, hcell⟩ := HR.out.at_ hlt1
      subst hA
      have hc3 := ((on HB1.out hb.out).cell (p := ⟨b, o + j, none⟩) hbl).trans hcell
      have hs := Lib.hid (keep_snoc false l j (by rw [HN.out]; exact hlt1))
      have hfl : ((l.take j).filter (keepB false)).length ≤ 512 := by
        have h1 := List.length_filter_le (keepB false) (l.take j)
        rw [List.length_take] at h1; omega
      have hz := hb.out.size
      clear hcell
      generalize hx : l.getD j 0 = x at hs hc3
      clear hx
      obtain ⟨L, hL⟩ : ∃ L, L = (l.take j).filter (keepB false) := ⟨_, rfl⟩
      rw [← hL] at ho hs hfl
      clear hL
      by_cases hneg : x < 0
      · rw [show keepB false x = false from by unfold keepB; rw [Bool.false_or]; exact decide_eq_false (by omega)] at hs
        go_wp2_with fail
        go_roundw
        case rel =>
          refine ⟨j + 1, by omega, by omega, by go_num, ?_, hb⟩
          rw [hs.out, if_neg Bool.false_ne_true, List.append_nil]
          exact ho
        case measure => simp [intOf] <;> omega
      · rw [show keepB false x = true from by unfold keepB; rw [Bool.false_or]; exact decide_eq_true (by omega)] at hs
        go_wp2_with (at_builtin; refine wpList_i64 _ rfl _ _ rfl w1.heap.size _ L.length L rfl (ho.out.alloc _) _ 1 1 [_] rfl (Rd.one _ _ _) (by omega) (by simp; omega) ?_; intro G c w2 hown hgr hcc)
        have HOWN := Lib.hid hown; clear hown
        go_wp2_with fail
        go_roundw
        case rel =>
          refine ⟨j + 1, by omega, by omega, by go_num, ?_, push_ hb.out (Nat.le_refl _) ho.out hgr⟩
          have h := HOWN.out
          rw [hs.out, if_pos rfl, List.length_append, List.length_singleton]
          exact h
        case measure => simp [intOf] <;> omega
    · obtain ⟨L, hL⟩ : ∃ L, L = (l.take j).filter (keepB false) := ⟨_, rfl⟩
      have hLi : Hid (I64 L) := by rw [hL]; exact fun x hx => HU.out x (List.mem_of_mem_take (List.mem_filter.1 hx).1)
      have hLk : Hid (L.all (keepB false) = true) := by rw [hL]; exact List.all_eq_true.2 fun x hx => (List.mem_filter.1 hx).2
      have hLl : L.length ≤ 512 := by
        have h1 := List.length_filter_le (keepB false) (l.take j)
        rw [hL]; rw [List.length_take] at h1; omega
      rw [← hL] at ho
      obtain ⟨G, c, rfl⟩ := own_form ho.out
      have HO := Lib.hid (Ri.of_own ho.out)
      have hocap := own_cap ho.out
      have HB := Lib.hid (on HB1.out hb.out)
      clear ho hb hL
      have hjj : j = n ∨ (j < n ∧ 512 ≤ j) := by omega
      clear hlt
      rcases hjj with rfl | ⟨hjn, hj512⟩
      all_goals
        rcases HCUT.out with ⟨h1, ⟨bb, oo, rfl⟩, h2⟩ | ⟨h1, h2⟩
        all_goals
          have H4 := Lib.hid (h2.below HB.out); clear h2
          rcases Nat.eq_zero_or_pos L.length with h0 | h0
          · obtain rfl : L = [] := List.eq_nil_of_length_eq_zero h0
            clear h0
            go_wp2_with fail
            refine (DPut_any _ _ _ _ [] HO.out hLi.out (by simp) false [] 1 (by unfold putD; rw [if_pos (.inr (.inl (by simp)))])).mono ?_; rintro e w4 ⟨G4, n4, c4, rfl, hs4, hb4⟩
            have hn4 := hs4.1.len
            obtain rfl : n4 = 0 := hn4.symm
            clear hn4 hs4
            have HB4 := Lib.hid (on HB.out hb4)
            clear hb4
            go_wp2_with fail
            go_ret
            exact ⟨rfl, HB4.out⟩
          · obtain ⟨p, hp, hp8, hpl, hpb⟩ := putD_back L false hLi.out hLk.out h0 hLl
            have HP := Lib.hid hp; have HP8 := Lib.hid hp8; have HPB := Lib.hid (hpb (l2.take 50))
            clear hp hp8 hpb
            go_wp2_with fail
            refine (DPut_any _ _ _ _ L HO.out hLi.out (by omega) false p 0 HP.out).mono ?_; rintro e w4 ⟨G4, n4, c4, rfl, hs4, hb4⟩
            have hn4 := hs4.1.len
            obtain rfl : n4 = p.length := hn4.symm
            have HR4 := Lib.hid hs4.1; have HO4 := Lib.hid (HO.out.below hb4); have HL4 := Lib.hid (H4.out.below hb4); have HB4 := Lib.hid (on HB.out hb4)
            clear hs4 hb4 hn4
            go_wp2_with (first | (at_builtin; refine wpList_u8 _ rfl (.tmp 68) (.tmp 69) rfl w4.heap.size _ 0 [] rfl (own_empty w4 _ 1) _ _ _ p rfl (HR4.out.alloc _) (by omega) (by simp) ?_; intro G6 c6 w6 hown hgr _; have hb6 := push0 ((Below.refl w4.heap.size w4).alloc (Nat.le_refl _) _) (Nat.le_refl _) (own_empty w4 _ 1) hgr; rw [Nat.zero_add, List.nil_append] at hown; have hz6 := hb6.size; have HO6 := Lib.hid hown; clear hown hgr) | (at_builtin; refine wpList_u8 _ rfl (.tmp 70) (.tmp 71) rfl w4.heap.size _ _ p rfl HO6.out _ _ _ (l2.take 50) rfl (HL4.out.below hb6) (by omega) (by omega) ?_; intro G7 c7 w7 hown hgr _; have hb7 := push0 hb6 (Nat.le_refl _) HO6.out hgr))
            have hs7 := Sl.of_own hown
            have HU7 : Hid (U8 (p ++ l2.take 50)) := by
              intro z hz
              rcases List.mem_append.1 hz with h | h
              · exact HP8.out z h
              · exact HU2.out z h
            have HS7 := Lib.hid hs7
            clear hown hgr hs7
            refine (DTake_any _ _ _ _ (p ++ l2.take 50) HS7.out.1 HU7.out HS7.out.2.1 HS7.out.2.2 (by omega) false L (l2.take 50) 0 HPB.out).mono ?_; rintro e w8 ⟨G8, n8, c8, G9, n9, c9, rfl, hs8, hs9, hb8⟩
            have b8 : n8 ≤ 1000000 := by have := hs8.1.len; omega
            go_wp2_with fail
            refine (Same8_any _ _ _ _ _ _ _ L L hs8.1 ((HO4.out.below hb7).below hb8) b8 (by omega) hLi.out hLi.out).mono ?_; rintro e w9 ⟨rfl, hb9⟩
            rw [decide_eq_true rfl]
            have cv1 := conv_any (c := c9) (hs9.1.below hb9)
            have cv2 := conv_any (c := cap2) (((HL4.out.below hb7).below hb8).below hb9)
            have st := strOf_same (l2.take 50)
            generalize strOf (l2.take 50) = S at *
            have HBB := Lib.hid (on (on (on HB4.out hb7) hb8) hb9)
            clear hs8 hs9 b8 hb6 hb7 hb8 hb9 hz6
            go_wp2_with fail
            go_ret
            exact ⟨rfl, HBB.out⟩
end Go.Proofs.Ytglfbjaiofjlpaa

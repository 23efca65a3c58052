/- The walk through BitsBack. -/
import Derived.Test.YtbkdhnlhhampfaaLawB2
import Derived.Test.YtbkdhnlhhampfaaPlainV
namespace Go.Proofs.Ytbkdhnlhhampfaa
open Go.RowKit

theorem mask_wrap (k : Nat) (h : k < 64) : IntKind.u64.wrap (IntKind.u64.wrap (2 ^ k) - 1) = (2 : Int) ^ k - 1 := by
  have h1 : (2 : Int) ^ k = ((2 ^ k : Nat) : Int) := by rw [Int.natCast_pow]; rfl
  have h2 : 2 ^ k ≤ 2 ^ 63 := Nat.pow_le_pow_right (by omega) (by omega)
  have h3 := Nat.two_pow_pos k
  have e1 : IntKind.u64.wrap ((2 ^ k : Nat) : Int) = ((2 ^ k : Nat) : Int) := IntWalk.u64_in _ (by omega)
  rw [h1, e1, IntWalk.u64_in _ (by omega)]
/-- Numbers that are laid down again. -/
theorem packR_good (l : List Int) (k : Nat) (hk : k ≤ 64) (hl : l.length ≤ 4096) (hr : l.all (roomB k) = true) : ∃ p, packR l k = (p, 0) := by
  unfold packR
  rw [if_neg (by omega), if_neg (by omega), Int.toNat_natCast, if_pos hr]
  exact ⟨_, rfl⟩

set_option maxRecDepth 100000 in
set_option maxHeartbeats 2000000 in
theorem BitsBack_main (w : World) (A : Option Addr) (n cap : Nat) (l : List Int) (hr : Ri w .u64 A n l) (hu : U64 l) (x : Int) (k : Nat) (hk : k ≤ 64) (hx : x.tmod 65 = k ∨ (x.tmod 65 = -k ∧ 0 < k)) (hx1 : -9223372036854775808 ≤ x ∧ x < 9223372036854775808)
    (B : Option Addr) (m cap2 : Nat) (l2 : List Int) (hr2 : Ri w .u8 B m l2) (hu2 : U8 l2) (hcm : m ≤ cap2 ∧ cap2 ≤ 9223372036854775807) (hn : n ≤ cap ∧ cap ≤ 9223372036854775807) :
    Calls Try.prog 13 #[.slice A n cap, .int .i64 x, .slice B m cap2] w fun e w' => e = .returned (.bool true) ∧ Below w.heap.size w w' := by
  have HR := Lib.hid hr; have HU := Lib.hid hu; have HR2 := Lib.hid hr2; have HU2 := Lib.hid hu2
  clear hr hu hr2 hu2
  obtain ⟨x1, x2⟩ := hx1
  obtain ⟨hc1, hc2⟩ := hcm
  obtain ⟨hn1, hn2⟩ := hn
  go_enter Try.func13, Try.ntmps13
  go_wp2_with fail
  refine (shown03_any _).mono ?_; rintro e w1 ⟨rfl, hb1⟩
  have HB1 := Lib.hid hb1; clear hb1
  rcases hx with hx | ⟨hx, hk0⟩
  all_goals
    go_wp2_with fail
    clear hx
    have HB2 := Lib.hid (own_empty w1 31 1)
    go_loopw [9, 10] (fun v i wr => ∃ j : Nat, j ≤ n ∧ j ≤ 300 ∧ i = .int .i64 j ∧ Hid (wr.ownsRow w1.heap.size 31 1 v j (((l.take j).map (maskN k)).map (Value.int .u64))) ∧ Hid (Below w1.heap.size w1 wr)) (fun _ i _ => n - (intOf i).toNat)
    case atStart => exact ⟨0, by omega, by omega, rfl, HB2, (Below.refl w1.heap.size w1).alloc (Nat.le_refl _) _⟩
    case round =>
      obtain ⟨j, hj1, hj2, rfl, ho, hb⟩ := hrel
      by_cases hlt : j < n ∧ j < 300
      · obtain ⟨hlt1, hlt2⟩ := hlt
        obtain ⟨b, o, hA, hbl, hcell⟩ := HR.out.at_ hlt1
        subst hA
        have hy := HU.out _ (getD_mem l j (by rw [HR.out.len]; exact hlt1))
        obtain ⟨y, hyy⟩ : ∃ y : Nat, (y : Int) = l.getD j 0 := ⟨(l.getD j 0).toNat, by omega⟩
        rw [← hyy] at hcell hy
        have hc3 := ((on HB1.out hb.out).cell (p := ⟨b, o + j, none⟩) hbl).trans hcell
        have HY := Lib.hid hyy
        clear hcell hyy
        by_cases hk64 : k < 64
        · go_wp2_with (at_builtin; refine wpList_u64 _ rfl _ _ rfl w1.heap.size _ j _ rfl (ho.out.alloc _) _ 1 1 [_] rfl (Rd.one _ _ _) (by omega) (by have := hb.out.size; simp; omega) ?_; intro G c w2 hown hgr hcc)
          have HOWN := Lib.hid hown; clear hown
          go_wp2_with fail
          go_roundw
          case rel =>
            refine ⟨j + 1, by omega, by omega, by go_num, ?_, push_ hb.out (Nat.le_refl _) ho.out hgr⟩
            have h := HOWN.out
            rw [mask_wrap k hk64, mask_bits k hk64 y (by omega), HY.out] at h
            rw [take_snoc l j (by rw [HR.out.len]; exact hlt1), List.map_append]
            exact h
          case measure => simp [intOf] <;> omega
        · go_wp2_with (at_builtin; refine wpList_u64 _ rfl _ _ rfl w1.heap.size _ j _ rfl (ho.out.alloc _) _ 1 1 [_] rfl (Rd.one _ _ _) (by omega) (by have := hb.out.size; simp; omega) ?_; intro G c w2 hown hgr hcc)
          have HOWN := Lib.hid hown; clear hown
          go_wp2_with fail
          go_roundw
          case rel =>
            refine ⟨j + 1, by omega, by omega, by go_num, ?_, push_ hb.out (Nat.le_refl _) ho.out hgr⟩
            have h := HOWN.out
            rw [HY.out] at h
            rw [take_snoc l j (by rw [HR.out.len]; exact hlt1), List.map_append, List.map_singleton, show maskN k (l.getD j 0) = l.getD j 0 from by unfold maskN; rw [if_neg hk64]]
            exact h
          case measure => simp [intOf] <;> omega
      · obtain ⟨L, hL⟩ : ∃ L, L = (l.take j).map (maskN k) := ⟨_, rfl⟩
        have hLl : L.length = j := by rw [hL, List.length_map, List.length_take, HR.out.len]; omega
        obtain ⟨hroom, hLu⟩ := mask_room k hk (l.take j) (HU.out.take j)
        rw [← hL] at hroom hLu
        rw [← hL] at ho
        obtain ⟨G, c, rfl⟩ := own_form ho.out
        have hoc := own_cap ho.out
        have HO := Lib.hid (Ri.of_own ho.out)
        obtain ⟨l3, hl3⟩ : ∃ l3, l3 = l2.take (min m 100) := ⟨_, rfl⟩
        have H3 := Lib.hid (HR2.out.first (m := min m 100) (by omega)); have HU3 := Lib.hid (HU2.out.take (min m 100))
        rw [← hl3] at H3 HU3
        obtain ⟨p, hp, hpu, hpl, hpb⟩ := pack_back L l3 k hk (by omega) hLu hroom
        have hsz : Hid (sizeN j k = (p.length : Int)) := by
          show sizeN j k = _
          unfold sizeN
          rw [show fitsB j k = true from decide_eq_true (by omega), if_pos rfl, hpl, hLl, ← Int.natCast_mul]; omega
        have hpl2 : p.length ≤ 4000 := by
          have : j * k ≤ 300 * 64 := Nat.mul_le_mul hj2 hk
          rw [hpl, hLl]; omega
        rw [hLl] at hpb
        have hLle : L.length ≤ 300 := by omega
        have HP := Lib.hid hp; have HPU := Lib.hid hpu; have HPB := Lib.hid hpb; have HLU := Lib.hid hLu
        have HB := Lib.hid (on HB1.out hb.out)
        clear hp hpu hpb hpl hroom hLu hL hLl hl3 ho hb
        have hjj : j = n ∨ (j < n ∧ 300 ≤ j) := by omega
        clear hlt
        rcases hjj with rfl | ⟨hjn, hj300⟩
        all_goals
          have hcut : (100 < m ∧ Hid (Ri w .u8 B 100 l3) ∧ ∃ b2 o2, B = some ⟨b2, o2, none⟩) ∨ (m ≤ 100 ∧ Hid (Ri w .u8 B m l3)) := by
            rcases Nat.lt_or_ge 100 m with hm100 | hm100
            · obtain ⟨b2, o2, e, _⟩ := HR2.out.all (by omega)
              rw [Nat.min_eq_right (by omega)] at H3
              exact .inl ⟨hm100, H3, b2, o2, e⟩
            · rw [Nat.min_eq_left (by omega)] at H3
              exact .inr ⟨hm100, H3⟩
          rcases hcut with ⟨hm100, H4, b2, o2, rfl⟩ | ⟨hm100, H4⟩
          all_goals
            clear H3
            go_wp2_with fail
            refine (Pack_any _ _ _ _ L k HO.out HLU.out (by omega) p 0 HP.out).mono ?_; rintro e w4 ⟨G4, n4, c4, rfl, hr4, hb4⟩
            have hn4 := hr4.1.len
            obtain rfl : n4 = p.length := hn4.symm
            clear hn4
            go_wp2_with fail
            refine (Size_any _ _ _).mono ?_; rintro e w5 ⟨rfl, rfl⟩
            rw [hsz.out]
            have HB4 := Lib.hid (on HB.out hb4)
            have HR4 := Lib.hid hr4.1
            have HL4 := Lib.hid (((H4.out.below HB.out).below hb4))
            have HO4 := Lib.hid (HO.out.below hb4)
            clear hr4 hb4
            go_wp2_with (first | (at_builtin; refine wpList_u8 _ rfl (.tmp 74) (.tmp 75) rfl w4.heap.size _ 0 [] rfl (own_empty w4 _ 1) _ _ _ p rfl (HR4.out.alloc _) (by omega) (by simp) ?_; intro G6 c6 w6 hown hgr _; have hb6 := push0 ((Below.refl w4.heap.size w4).alloc (Nat.le_refl _) _) (Nat.le_refl _) (own_empty w4 _ 1) hgr; rw [Nat.zero_add, List.nil_append] at hown; have hz6 := hb6.size; have HO6 := Lib.hid hown; clear hown hgr) | (at_builtin; refine wpList_u8 _ rfl (.tmp 76) (.tmp 77) rfl w4.heap.size _ _ p rfl HO6.out _ _ _ l3 rfl (HL4.out.below hb6) (by omega) (by omega) ?_; intro G7 c7 w7 hown hgr _; have hb7 := push0 hb6 (Nat.le_refl _) HO6.out hgr))
            have hs7 := Sl.of_own hown
            have HU7 : Hid (U8 (p ++ l3)) := by
              intro z hz
              rcases List.mem_append.1 hz with h | h
              · exact HPU.out z h
              · exact HU3.out z h
            have HS7 := Lib.hid hs7
            clear hown hgr hs7
            refine (Unpack_any _ _ _ _ (p ++ l3) j k HS7.out.1 HU7.out HS7.out.2.1 (by omega) L l3 0 HPB.out).mono ?_; rintro e w8 ⟨G8, n8, c8, G9, n9, c9, rfl, hr8, hr9, hb8⟩
            have hn8 := hr8.1.len
            go_wp2_with fail
            refine (Same3_any _ _ _ _ _ _ _ L L hr8.1 ((HO4.out.below hb7).below hb8) (by omega) (by omega) HLU.out HLU.out).mono ?_; rintro e w9 ⟨rfl, hb9⟩
            rw [decide_eq_true rfl]
            have cv1 := conv_any (c := c9) (hr9.1.below hb9)
            have cv2 := conv_any (c := cap2) (((HL4.out.below hb7).below hb8).below hb9)
            have st := strOf_same l3
            generalize strOf l3 = S at *
            have HBB := Lib.hid (on (on (on HB4.out hb7) hb8) hb9)
            clear hr8 hr9 hn8 hb6 hb7 hb8 hb9 hz6
            go_wp2_with fail
            go_ret
            exact ⟨rfl, HBB.out⟩
theorem tmod65 (x : Int) : ∃ k : Nat, k ≤ 64 ∧ (x.tmod 65 = k ∨ (x.tmod 65 = -k ∧ 0 < k)) := by
  have h : x.tmod 65 = if 0 ≤ x then x % 65 else -((-x) % 65) := by
    split
    · exact Int.tmod_eq_emod_of_nonneg ‹_›
    · have := Int.neg_tmod (a := -x) (b := 65)
      rw [Int.neg_neg] at this
      rw [this, Int.tmod_eq_emod_of_nonneg (by omega)]
  rw [h]
  refine ⟨(if 0 ≤ x then x % 65 else (-x) % 65).toNat, ?_, ?_⟩ <;> split <;> omega
theorem BitsBack_walk (w : World) (A : Option Addr) (n cap : Nat) (l : List Int) (hr : Ri w .u64 A n l) (hu : U64 l) (hc : n ≤ cap) (hm : cap ≤ maxLen) (x : Int) (hx : -9223372036854775808 ≤ x ∧ x < 9223372036854775808)
    (B : Option Addr) (m cap2 : Nat) (l2 : List Int) (hr2 : Ri w .u8 B m l2) (hu2 : U8 l2) (hc2 : m ≤ cap2) (hm2 : cap2 ≤ maxLen) :
    Calls Try.prog 13 #[.slice A n cap, .int .i64 x, .slice B m cap2] w fun e w' => e = .returned (.bool true) ∧ Below w.heap.size w w' := by
  obtain ⟨k, hk, h⟩ := tmod65 x
  unfold maxLen at hm hm2
  exact BitsBack_main w A n cap l hr hu x k hk h hx B m cap2 l2 hr2 hu2 ⟨hc2, hm2⟩ ⟨hc, hm⟩
end Go.Proofs.Ytbkdhnlhhampfaa

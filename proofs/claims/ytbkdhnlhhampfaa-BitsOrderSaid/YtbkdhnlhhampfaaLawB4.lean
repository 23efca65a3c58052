/- The walk through BitsOrder. -/
import Derived.Test.YtbkdhnlhhampfaaLawB3
import Derived.Test.YtbkdhnlhhampfaaPlainO
import Derived.Test.YtbkdhnlhhampfaaRows2
namespace Go.Proofs.Ytbkdhnlhhampfaa
open Go.RowKit

def shr3 (l : List Int) : List Int := l.map fun y => y / 8
theorem shr3_good (l : List Int) (h : U8 l) : U64 (shr3 l) ∧ (shr3 l).all (roomB 5) = true ∧ (∀ y ∈ shr3 l, y.toNat < 2 ^ 5) := by
  have h1 : ∀ y ∈ shr3 l, 0 ≤ y ∧ y < 32 := by
    intro y hy
    obtain ⟨z, hz, rfl⟩ := List.mem_map.1 hy
    have := h z hz
    omega
  refine ⟨fun y hy => by have := h1 y hy; omega, ?_, fun y hy => by have := h1 y hy; omega⟩
  rw [List.all_eq_true]
  intro y hy
  have := h1 y hy
  exact decide_eq_true (.inr (by omega))

theorem drop_getD (l : List Int) (k : Nat) (h : k < l.length) : l.drop k = l.getD k 0 :: l.drop (k + 1) := by
  rw [List.drop_eq_getElem_cons h]; simp [List.getD, List.getElem?_eq_getElem h]

set_option maxRecDepth 100000 in
set_option maxHeartbeats 2000000 in
theorem BitsOrder_main (w : World) (A : Option Addr) (n cap : Nat) (la : List Int) (hr : Ri w .u8 A n la) (hu : U8 la)
    (B : Option Addr) (m cap2 : Nat) (lb : List Int) (hr2 : Ri w .u8 B m lb) (hu2 : U8 lb) (hn : n ≤ 9223372036854775807 ∧ m ≤ 9223372036854775807) (N : Nat) (hN : N = min n (min m 300)) :
    Calls Try.prog 14 #[.slice A n cap, .slice B m cap2] w fun e w' => e = .returned (.bool true) ∧ Below w.heap.size w w' := by
  have h3 : (300 < n ∧ 300 < m) ∨ (m < n ∧ m ≤ 300) ∨ (n ≤ m ∧ n ≤ 300) := by omega
  have HR := Lib.hid hr; have HU := Lib.hid hu; have HR2 := Lib.hid hr2; have HU2 := Lib.hid hu2
  have hNn : N ≤ n ∧ N ≤ m ∧ N ≤ 300 := by omega
  obtain ⟨hN1, hN2, hN3⟩ := hNn
  obtain ⟨hn1, hn2⟩ := hn
  have HN := Lib.hid hN
  clear hr hu hr2 hu2 hN
  rcases h3 with ⟨q1, q2⟩ | ⟨q1, q2⟩ | ⟨q1, q2⟩
  all_goals
    first | have he : Hid ((300 : Int) = (N : Int)) := (by have := HN.out; show _ = _; omega) | have he : Hid ((m : Int) = (N : Int)) := (by have := HN.out; show _ = _; omega) | have he : Hid ((n : Int) = (N : Int)) := (by have := HN.out; show _ = _; omega)
    go_enter Try.func14, Try.ntmps14
    go_wp2_with fail
    refine (shown03_any _).mono ?_; rintro e w1 ⟨rfl, hb1⟩
    have HB1 := Lib.hid hb1; clear hb1
    go_wp2_with fail
    rw [he.out]
    go_loopw [7, 8, 9] (fun v1 v2 i wr => ∃ j : Nat, j ≤ N ∧ i = .int .i64 j ∧ Hid (wr.ownsRow w1.heap.size 31 1 v1 j ((shr3 (la.take j)).map (Value.int .u64))) ∧ Hid (wr.ownsRow w1.heap.size 31 1 v2 j ((shr3 (lb.take j)).map (Value.int .u64))) ∧ Hid (Apart v1 v2) ∧ Hid (Below w1.heap.size w1 wr)) (fun _ _ i _ => N - (intOf i).toNat)
    case atStart =>
      refine ⟨0, by omega, rfl, (own_empty w1 31 1).alloc _, ?_, ?_, ((Below.refl w1.heap.size w1).alloc (Nat.le_refl _) _).alloc (by simp) _⟩
      · have h := World.ownsRow_lit (w1.alloc (.cells #[] 31)) (base := w1.heap.size) (e := 31) (size := 1) #[] 0 (by simp) (Nat.zero_le _) (by simp)
        apply hide
        simpa [shr3] using h
      · intro g h1 h2
        simp [Value.ownBlock] at h1 h2
        omega
    case round =>
      obtain ⟨j, hj, rfl, ho1, ho2, hap, hb⟩ := hrel
      by_cases hlt : j < N
      · obtain ⟨b1, o1, hA, hbl1, hc1⟩ := HR.out.at_ (show j < n by omega)
        obtain ⟨b2, o2, hB, hbl2, hc2⟩ := HR2.out.at_ (show j < m by omega)
        subst hA hB
        have hy := HU.out _ (getD_mem la j (by rw [HR.out.len]; omega))
        have hz := HU2.out _ (getD_mem lb j (by rw [HR2.out.len]; omega))
        have g1 := ((on HB1.out hb.out).cell (p := ⟨b1, o1 + j, none⟩) hbl1).trans hc1
        have g2 := ((on HB1.out hb.out).cell (p := ⟨b2, o2 + j, none⟩) hbl2).trans hc2
        obtain ⟨y, hyy⟩ : ∃ y : Nat, (y : Int) = la.getD j 0 := ⟨(la.getD j 0).toNat, by omega⟩
        obtain ⟨z, hzz⟩ : ∃ z : Nat, (z : Int) = lb.getD j 0 := ⟨(lb.getD j 0).toNat, by omega⟩
        rw [← hyy] at g1 hy
        rw [← hzz] at g2 hz
        have HY := Lib.hid hyy; have HZ := Lib.hid hzz
        clear hc1 hyy hzz
        go_wp2_with (first | (at_builtin; refine wpList_u64x _ rfl (.tmp 29) (.tmp 36) rfl w1.heap.size _ j _ rfl (ho1.out.alloc _) _ 1 1 [_] rfl (Rd.one _ _ _) (by omega) (by have := hb.out.size; simp; omega) ?_; intro G c w2 hown hgr _ hG; have hb2 := push_ hb.out (Nat.le_refl _) ho1.out hgr; have HOWN := Lib.hid hown; have HO2 := Lib.hid (hap.out.kept (ho2.out.alloc _) hgr); have HAP := Lib.hid (hap.out.grown (ho2.out.alloc _) (Nat.le_refl _) hG); have g2 := ((on HB1.out hb2).cell (p := ⟨b2, o2 + j, none⟩) hbl2).trans hc2; rw [← HZ.out] at g2; have HB2 := Lib.hid hb2; clear hown hgr hG hb2) | (at_builtin; refine wpList_u64x _ rfl (.tmp 38) (.tmp 45) rfl w1.heap.size _ j _ rfl (HO2.out.alloc _) _ 1 1 [_] rfl (Rd.one _ _ _) (by omega) (by have := HB2.out.size; simp; omega) ?_; intro G3 c3 w3 hown hgr _ hG; have HB3 := Lib.hid (push_ HB2.out (Nat.le_refl _) HO2.out hgr); have HOWN3 := Lib.hid hown; have HO3 := Lib.hid (HAP.out.symm.kept (HOWN.out.alloc _) hgr); have HAP3 := Lib.hid (HAP.out.symm.grown (HOWN.out.alloc _) (Nat.le_refl _) hG).symm; clear hown hgr hG))
        go_roundw
        case rel =>
          refine ⟨j + 1, by omega, by go_num, ?_, ?_, HAP3, HB3⟩
          · have h := HO3.out
            rw [HY.out] at h
            rw [take_snoc la j (by rw [HR.out.len]; omega)]
            unfold shr3 at h ⊢
            rw [List.map_append]
            exact h
          · have h := HOWN3.out
            rw [HZ.out] at h
            rw [take_snoc lb j (by rw [HR2.out.len]; omega)]
            unfold shr3 at h ⊢
            rw [List.map_append]
            exact h
        case measure => simp [intOf] <;> omega
      · obtain rfl : j = N := by omega
        obtain ⟨L, hL⟩ : ∃ L, L = shr3 (la.take j) := ⟨_, rfl⟩
        obtain ⟨M, hM⟩ : ∃ M, M = shr3 (lb.take j) := ⟨_, rfl⟩
        have gL := shr3_good (la.take j) (HU.out.take j)
        have gM := shr3_good (lb.take j) (HU2.out.take j)
        rw [← hL] at gL ho1
        rw [← hM] at gM ho2
        obtain ⟨G1, c1, rfl⟩ := own_form ho1.out
        obtain ⟨G2, c2, rfl⟩ := own_form ho2.out
        have R1 := Lib.hid (Ri.of_own ho1.out); have R2 := Lib.hid (Ri.of_own ho2.out)
        have hl1 := R1.out.len
        have hl2 := R2.out.len
        obtain ⟨p, q, hp, hq, hpu, hqu, hpq, hlt2⟩ := pack_order L M 5 (by omega) (by omega) (by omega) gL.1 gM.1 gL.2.1 gM.2.1
        have HP := Lib.hid hp; have HQ := Lib.hid hq; have HPU := Lib.hid hpu; have HQU := Lib.hid hqu; have HPQ := Lib.hid hpq; have HLT := Lib.hid hlt2
        have HL1 := Lib.hid hl1; have HL2 := Lib.hid hl2; have GL := Lib.hid gL; have GM := Lib.hid gM
        have HB := Lib.hid (on HB1.out hb.out)
        clear hp hq hpu hqu hpq hlt2 hl1 hl2 gL gM hL hM ho1 ho2 hb hap
        go_wp2_with fail
        refine (Pack_any _ _ _ _ L 5 R1.out GL.out.1 (by omega) p 0 HP.out).mono ?_; rintro e w4 ⟨G4, n4, c4, rfl, hr4, hb4⟩
        go_wp2_with fail
        refine (Pack_any _ _ _ _ M 5 (R2.out.below hb4) GM.out.1 (by omega) q 0 HQ.out).mono ?_; rintro e w5 ⟨G5, n5, c5, rfl, hr5, hb5⟩
        have RL := Lib.hid ((R1.out.below hb4).below hb5); have RM := Lib.hid ((R2.out.below hb4).below hb5)
        have R4 := Lib.hid (hr4.1.below hb5); have R5 := Lib.hid hr5.1
        have HB5 := Lib.hid (on (on HB.out hb4) hb5)
        clear hr4 hr5 hb4 hb5
        go_wp2_with fail
        go_loopw [14, 15] (fun v i wr => ∃ z : Int, -1 ≤ z ∧ z < j ∧ i = .int .i64 z ∧ v = .bool (ltV 5 (L.drop (z + 1).toNat) (M.drop (z + 1).toNat)) ∧ Hid (∃ nq, wr = w5.drewN nq)) (fun _ i _ => (intOf i + 1).toNat)
        case atStart =>
          refine ⟨(j : Int) - 1, by omega, by omega, rfl, ?_, 0, rfl⟩
          rw [show ((j : Int) - 1 + 1).toNat = j from by omega, List.drop_of_length_le (by rw [HL1.out]; exact Nat.le_refl _), List.drop_of_length_le (by rw [HL2.out]; exact Nat.le_refl _)]
          rfl
        case round =>
          obtain ⟨z, hz1, hz2, rfl, rfl, hnq⟩ := hrel
          obtain ⟨nq, rfl⟩ := hnq.out
          by_cases hz : z < 0
          · obtain rfl : z = -1 := by omega
            have hbl : Op.bytesLess (strOf p).toList (strOf q).toList = ltV 5 L M := (bytesLess_packV p q HPU.out HQU.out HPQ.out).trans HLT.out
            have cv1 := conv_any (c := c4) (R4.out.drewN nq)
            have cv2 := conv_any (c := c5) (R5.out.drewN nq)
            rw [show ((-1 : Int) + 1).toNat = 0 from rfl, List.drop_zero, List.drop_zero]
            generalize ltV 5 L M = t at *
            generalize strOf p = S1 at *
            generalize strOf q = S2 at *
            go_wp2_with fail
            go_ret
            exact ⟨by simp, below_drewN HB5.out _⟩
          · obtain ⟨k, rfl⟩ := Int.eq_ofNat_of_zero_le (show 0 ≤ z by omega)
            have hk : k < j := by omega
            obtain ⟨b1, o1, hA, _, gc1⟩ := RL.out.at_ hk
            obtain ⟨b2, o2, hB, _, gc2⟩ := RM.out.at_ hk
            subst hA hB
            have hx := GL.out.1 _ (getD_mem L k (by rw [HL1.out]; exact hk))
            have hy := GM.out.1 _ (getD_mem M k (by rw [HL2.out]; exact hk))
            have hcons := ltV_cons 5 (L.getD k 0) (M.getD k 0) (L.drop (k + 1)) (M.drop (k + 1)) (by rw [List.length_drop, List.length_drop, HL1.out, HL2.out]) hx.1 hy.1 (fun y hy => GL.out.2.2 y (List.mem_of_mem_drop hy)) (fun y hy => GM.out.2.2 y (List.mem_of_mem_drop hy))
            rw [← drop_getD L k (by rw [HL1.out]; exact hk), ← drop_getD M k (by rw [HL2.out]; exact hk)] at hcons
            rw [show (((k : Nat) : Int) + 1).toNat = k + 1 from by omega]
            have HC := Lib.hid hcons; clear hcons
            generalize ltV 5 (L.drop (k + 1)) (M.drop (k + 1)) = t at *
            generalize L.getD k 0 = x at *
            generalize M.getD k 0 = y at *
            rcases Int.lt_trichotomy x y with hxy | hxy | hxy
            · go_wp2_with fail
              go_quiet (fail)
              go_wp2_with fail
              go_roundw
              case rel =>
                refine ⟨(k : Int) - 1, by omega, by omega, rfl, ?_, _, rfl⟩
                rw [show ((k : Int) - 1 + 1).toNat = k from by omega, HC.out, decide_eq_true hxy]; rfl
              case measure => simp [intOf] <;> omega
            · subst hxy
              have hxx : (x == x) = true := by simp
              have hx0 : decide (x < x) = false := by simp
              go_wp2_with fail
              go_quiet (fail)
              go_wp2_with fail
              go_roundw
              case rel =>
                refine ⟨(k : Int) - 1, by omega, by omega, rfl, ?_, _, rfl⟩
                rw [show ((k : Int) - 1 + 1).toNat = k from by omega, HC.out]; simp
              case measure => simp [intOf] <;> omega
            · have hxx : (x == y) = false := by rw [beq_eq_false_iff_ne]; omega
              have hx0 : decide (x < y) = false := decide_eq_false (by omega)
              go_wp2_with fail
              go_quiet (fail)
              go_wp2_with fail
              go_roundw
              case rel =>
                refine ⟨(k : Int) - 1, by omega, by omega, rfl, ?_, _, rfl⟩
                rw [show ((k : Int) - 1 + 1).toNat = k from by omega, HC.out, decide_eq_false (by omega), decide_eq_false (by omega)]; rfl
              case measure => simp [intOf] <;> omega
theorem BitsOrder_walk (w : World) (A : Option Addr) (n cap : Nat) (la : List Int) (hr : Ri w .u8 A n la) (hu : U8 la) (hc : n ≤ cap) (hm : cap ≤ maxLen)
    (B : Option Addr) (m cap2 : Nat) (lb : List Int) (hr2 : Ri w .u8 B m lb) (hu2 : U8 lb) (hc2 : m ≤ cap2) (hm2 : cap2 ≤ maxLen) :
    Calls Try.prog 14 #[.slice A n cap, .slice B m cap2] w fun e w' => e = .returned (.bool true) ∧ Below w.heap.size w w' := by
  unfold maxLen at hm hm2
  exact BitsOrder_main w A n cap la hr hu B m cap2 lb hr2 hu2 ⟨by omega, by omega⟩ _ rfl
end Go.Proofs.Ytbkdhnlhhampfaa

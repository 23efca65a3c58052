/- The walk through RepeatBack. -/
import Derived.Test.YtbkdhnlhhampfaaRepPl
namespace Go.Proofs.Ytbkdhnlhhampfaa
open Go.RowKit

set_option maxRecDepth 100000 in
set_option maxHeartbeats 2000000 in
theorem RepeatBack_walk (w : World) (x : Int) (hx : -9223372036854775808 ≤ x ∧ x < 9223372036854775808) (t : Int) (_ht : -9223372036854775808 ≤ t ∧ t < 9223372036854775808) (A : Option Addr) (n cap : Nat) (l : List Int) (hr : Ri w .u8 A n l) (hu : U8 l) (hc : n ≤ cap) (hm : cap ≤ maxLen) :
    Calls Try.prog 10 #[.int .i64 x, .int .i64 t, .slice A n cap] w fun e w' => e = .returned (.bool true) ∧ Below w.heap.size w w' := by
  unfold maxLen at hm
  obtain ⟨x1, x2⟩ := hx
  have HU := Lib.hid hu; clear hu
  have HR := Lib.hid hr; clear hr
  have h7 := and7 t
  have hpair : (n ≤ 50 ∧ Hid (∃ l2, Ri w .u8 A n l2 ∧ U8 l2)) ∨ (50 < n ∧ Hid (∃ l2, Ri w .u8 A 50 l2 ∧ U8 l2) ∧ ∃ b o, A = some ⟨b, o, none⟩) := by
    rcases Nat.lt_or_ge 50 n with h | h
    · obtain ⟨b, o, e, _⟩ := HR.out.all (by omega)
      exact .inr ⟨h, ⟨_, HR.out.first (by omega), HU.out.take _⟩, b, o, e⟩
    · exact .inl ⟨h, ⟨_, HR.out, HU.out⟩⟩
  rcases hpair with ⟨h200, h2⟩ | ⟨h200, h2, b, o, rfl⟩
  all_goals
    go_enter Try.func10, Try.ntmps10
    go_wp2_with fail
    refine (shown07_any _).mono ?_; rintro e w1 ⟨rfl, hb1⟩
    obtain ⟨l2, hr2, hu2⟩ := h2.out
    have HR2 := Lib.hid hr2; have HU2 := Lib.hid hu2
    clear hr2 hu2
    go_wp2_with fail
    generalize hyy : bits BinOp.and IntKind.i64 t 7 = y at *
    clear hyy
    obtain ⟨p, hp, hpu, hpl1, hpl2, hpt, hpc⟩ := put_take x (3 + y) true (by omega) (by omega) ⟨x1, x2⟩ (by simp)
    have HP := Lib.hid hp; have HPU := Lib.hid hpu; have HPT := Lib.hid hpt; have HPC := Lib.hid hpc
    clear hp hpu hpt hpc
    refine (Put_any x (3 + y) true _ x1 x2 p 0 HP.out).mono ?_; rintro e w2 ⟨G2, n2, c2, rfl, hr2, hb2⟩
    have hn2 := hr2.1.len
    rw [hn2] at hpl1 hpl2
    have HN2 := Lib.hid hn2
    have hcap2 := hr2.2; have HRP := Lib.hid hr2.1; clear hr2 hn2
    have hl3 := ((HR2.out.below hb1).below hb2)
    have HL3 := Lib.hid hl3; clear hl3
    go_wp2_with (first | (at_builtin; refine wpList_u8 _ rfl (.tmp 42) (.tmp 43) rfl w2.heap.size _ 0 [] rfl (own_empty w2 _ 1) _ _ _ p rfl (HRP.out.alloc _) (by omega) (by simp) ?_; intro G3 c3 w3 hown hgr _; have hb3 := push0 ((Below.refl w2.heap.size w2).alloc (Nat.le_refl _) _) (Nat.le_refl _) (own_empty w2 _ 1) hgr; rw [Nat.zero_add, List.nil_append] at hown; have hz3 := hb3.size; have HO := Lib.hid hown; clear hown hgr) | (at_builtin; refine wpList_u8 _ rfl (.tmp 44) (.tmp 45) rfl w2.heap.size _ _ p rfl HO.out _ _ _ l2 rfl (HL3.out.below hb3) (by omega) (by omega) ?_; intro G4 c4 w4 hown hgr _; have hb4 := push0 hb3 (Nat.le_refl _) HO.out hgr))
    have hs4 := Sl.of_own hown
    have hbb4 := on (on hb1 hb2) hb4
    have hu4 : U8 (p ++ l2) := by
      intro z hz
      rcases List.mem_append.1 hz with h | h
      · exact HPU.out z h
      · exact HU2.out z h
    have HS4 := Lib.hid hs4; have HU4 := Lib.hid hu4
    clear hown hgr hs4 hu4 hb1 hb2
    refine (Take_any _ _ _ (p ++ l2) true _ HS4.out.1 HU4.out HS4.out.2.1 HS4.out.2.2 (by omega) x (3 + y) l2 0 (HPT.out l2)).mono ?_; rintro e w5 ⟨G5, n5, c5, rfl, hr5, hb5⟩
    have hb5' := on hbb4 hb5
    have cv1 := conv_any (c := c5) hr5.1
    have cv2 := conv_any (c := cap) ((HL3.out.below hb4).below hb5)
    have hrp5 := (HRP.out.below hb4).below hb5
    obtain ⟨b2, o2, hG2, _, _⟩ := hrp5.all (by omega)
    subst hG2
    have HRP5 := Lib.hid hrp5
    have st := strOf_same l2
    generalize strOf l2 = S at *
    clear hr5 hbb4 HS4 HU4 HL3 hb4 hb3 hb5 hz3 HO HRP hrp5
    go_wp2_with fail
    go_loopw [15, 16, 17, 18, 19, 91, 95, 96, 97, 98, 99] (fun i _ _ _ _ _ _ _ _ _ _ wr => ∃ k : Nat, k ≤ n2 ∧ i = .int .i64 k ∧ Hid (Below w5.heap.size w5 wr)) (fun i _ _ _ _ _ _ _ _ _ _ _ => n2 - (intOf i).toNat)
    case atStart => exact ⟨0, by omega, rfl, Below.refl _ _⟩
    case round =>
      obtain ⟨k, hk, rfl, hbw⟩ := hrel
      clear cv1 cv2
      by_cases hlt : k < n2
      · go_wp2_with fail
        refine (Take_any _ _ _ (p.take k) true _ ((HRP5.out.below hbw.out).first (m := k) (by omega)) (HPU.out.take _) (by omega) hcap2.2 (by omega) 0 0 [] 2 (HPC.out k (by rw [HN2.out]; exact hlt))).mono ?_; rintro e w6 ⟨G6, n6, c6, rfl, hr6, hb6⟩
        have hbw6 := Lib.hid (on hbw.out hb6)
        clear hr6 hb6
        go_wp2_with fail
        go_roundw
        case rel => exact ⟨k + 1, by omega, by go_num, hbw6⟩
        case measure => simp [intOf]; omega
      · by_cases hneg : x < 0
        · go_wp2_with fail
          refine (Put_any x (3 + y) false _ x1 x2 [] 1 (by unfold putR; rw [if_pos (.inr (.inr ⟨rfl, hneg⟩))])).mono ?_; rintro e w6 ⟨G6, n6, c6, rfl, hr6, hb6⟩
          have hl6 := hr6.1.len
          have hc6 := hr6.2
          obtain rfl : n6 = 0 := by simpa using hl6.symm
          clear hl6
          have HR6 := Lib.hid hr6.1; clear hr6
          go_wp2_with fail
          refine (Take_any _ _ _ [] false _ HR6.out (fun x hx => by cases hx) (by omega) hc6.2 (by omega) 0 0 [] 2 rfl).mono ?_; rintro e w7 ⟨G7, n7, c7, rfl, hr7, hb7⟩
          clear hr7
          go_wp2_with fail
          go_ret
          exact ⟨rfl, on (on (on hb5' hbw.out) hb6) hb7⟩
        · obtain ⟨p2, hp, hpu, hql1, hql2, hpt, _⟩ := put_take x (3 + y) false (by omega) (by omega) ⟨x1, x2⟩ (fun _ => by omega)
          have HP2 := Lib.hid hp; have HPU2 := Lib.hid hpu; have HPT2 := Lib.hid (hpt [])
          clear hp hpu hpt
          go_wp2_with fail
          refine (Put_any x (3 + y) false _ x1 x2 p2 0 HP2.out).mono ?_; rintro e w6 ⟨G6, n6, c6, rfl, hr6, hb6⟩
          have hl6 := hr6.1.len
          have hc6 := hr6.2
          have hn6 : n6 ≤ 9 := by omega
          clear hl6 hql1 hql2
          have HR6 := Lib.hid hr6.1; clear hr6
          go_wp2_with fail
          refine (Take_any _ _ _ (p2 ++ []) false _ (by rw [List.append_nil]; exact HR6.out) (by rw [List.append_nil]; exact HPU2.out) hc6.1 hc6.2 (by omega) x (3 + y) [] 0 HPT2.out).mono ?_; rintro e w7 ⟨G7, n7, c7, rfl, hr7, hb7⟩
          clear hr7
          go_wp2_with fail
          go_ret
          exact ⟨rfl, on (on (on hb5' hbw.out) hb6) hb7⟩
end Go.Proofs.Ytbkdhnlhhampfaa

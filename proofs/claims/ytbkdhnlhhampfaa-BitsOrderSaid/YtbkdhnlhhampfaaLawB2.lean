/- The walk through BitsPacks. -/
import Derived.Test.YtbkdhnlhhampfaaLawB1
import Derived.Test.YtbkdhnlhhampfaaOpenArr
namespace Go.Proofs.Ytbkdhnlhhampfaa
open Go.RowKit

theorem packR_er (l : List Int) (x : Int) : 0 ≤ (packR l x).2 ∧ (packR l x).2 ≤ 3 := by
  unfold packR; repeat' split
  all_goals simp

theorem Calls.turn_ {P : Program} {f : FuncId} {args : Array Value} {w : World} {v : Value} (h : Calls P f args w fun e w' => e = .returned v ∧ w = w') : Calls P f args w fun e w' => e = .returned v ∧ w' = w :=
  h.mono fun _ _ ⟨he, hm⟩ => ⟨he, hm.symm⟩

set_option maxRecDepth 100000 in
set_option maxHeartbeats 1000000 in
theorem BitsPacks_walk (w : World) (A : Option Addr) (n cap : Nat) (l : List Int) (hr : Ri w .u64 A n l) (hu : U64 l) (hc : n ≤ cap) (hm : cap ≤ maxLen) (x : Int) (hx : -9223372036854775808 ≤ x ∧ x < 9223372036854775808)
    (y z : Int) (hy : -9223372036854775808 ≤ y ∧ y < 9223372036854775808) (hz : -9223372036854775808 ≤ z ∧ z < 9223372036854775808) :
    Calls Try.prog 11 #[.slice A n cap, .int .i64 x, .agg #[.int .i64 y, .int .i64 z]] w fun e w' => e = .returned (.bool true) ∧ Below w.heap.size w w' := by
  unfold maxLen at hm
  obtain ⟨x1, x2⟩ := hx
  obtain ⟨y1, y2⟩ := hy
  obtain ⟨z1, z2⟩ := hz
  have HU := Lib.hid hu; clear hu
  have HR := Lib.hid hr; clear hr
  have H2 := Lib.hid (HR.out.first (m := min n 300) (by omega)); have HU2 := Lib.hid (HU.out.take (min n 300))
  obtain ⟨l2, hl2⟩ : ∃ l2, l2 = l.take (min n 300) := ⟨_, rfl⟩
  rw [← hl2] at H2 HU2
  obtain ⟨n2, hn2⟩ : ∃ n2, n2 = min n 300 := ⟨_, rfl⟩
  have hn2le : n2 ≤ 300 := by omega
  have H3 : Hid (Ri w .u64 A n2 l2) := by rw [hn2]; exact H2
  have HN2 := Lib.hid hn2
  obtain ⟨r, er, hl⟩ : ∃ r er, packR l2 x = (r, er) := ⟨_, _, rfl⟩
  have HL := Lib.hid hl
  clear hl2 hn2 hl H2
  go_enter Try.func11, Try.ntmps11
  go_wp2_with fail
  refine (shown03_any _).mono ?_; rintro e w1 ⟨rfl, hb0⟩
  have bk := (Blk.new w _ _).below_ hb0
  have hb1 := on ((Below.refl w.heap.size w).alloc (Nat.le_refl _) _) hb0
  have HBK := Lib.hid bk
  clear hb0 bk
  go_wp2_with fail
  refine (few3_any _ _ _ _ l (HR.out.below hb1) hc hm).mono ?_; rintro e w1' ⟨c2, rfl, rfl, hc2, hcm2⟩
  rw [← HN2.out] at hc2 ⊢
  have H4 := Lib.hid (H3.out.below hb1)
  go_wp2_with (at_builtin; refine wpList_u64 _ rfl _ _ rfl w1'.heap.size _ 0 [] rfl (own_empty w1' _ 1) _ _ _ l2 rfl (H4.out.alloc _) (by omega) (by simp) ?_; intro G3 c3 w3 hown hgr hcc)
  have hb3 := push0 ((Below.refl w1'.heap.size w1').alloc (Nat.le_refl _) _) (Nat.le_refl _) (own_empty w1' _ 1) hgr
  rw [Nat.zero_add, List.nil_append] at hown
  have hro := Ri.of_own hown
  have HO := Lib.hid hro; clear hro hown hgr hcc
  refine (Pack_any _ _ _ _ l2 x HO.out HU2.out (by omega) r er HL.out).mono ?_; rintro e w4 ⟨G4, n4, c4, rfl, hr4, hb4⟩
  go_wp2_with fail
  refine (refPack_any _ _ _ _ l2 x ((H4.out.below hb3).below hb4) HU2.out (by omega) r er HL.out).mono ?_; rintro e w5 ⟨G5, n5, c5, rfl, hr5, hb5⟩
  go_wp2_with fail
  refine (Same3_any _ _ _ _ _ _ _ l2 l2 ((HO.out.below hb4).below hb5) (((H4.out.below hb3).below hb4).below hb5) (by omega) (by omega) HU2.out HU2.out).mono ?_; rintro e w6 ⟨rfl, hb6⟩
  rw [decide_eq_true rfl]
  have cv1 := fun k => conv_any (c := c4) (((hr4.1.below hb5).below hb6).drewN k)
  have cv2 := fun k => conv_any (c := c5) ((hr5.1.below hb6).drewN k)
  have st := strOf_same r
  generalize strOf r = S at *
  have HBK2 := Lib.hid ((((HBK.out.below_ hb3).below_ hb4).below_ hb5).below_ hb6)
  have k0 : w6.cell? ⟨w.heap.size, 0, none⟩ = some (.int .i64 y) := HBK2.out.cell 0
  have k1 : w6.cell? ⟨w.heap.size, 1, none⟩ = some (.int .i64 z) := HBK2.out.cell 1
  have HB := Lib.hid (on (on (on (on hb1 hb3) hb4) hb5) hb6)
  clear hr4 hr5 hb1 hb3 hb4 hb5 hb6
  go_wp2_with fail
  go_quiet ((first | (go_at_call 39; exact Calls.quiet_of_same (Calls.turn_ (Size_any _ _ _))) | (go_at_call 40; exact Calls.quiet_of_same (Calls.turn_ (refSize_any _ _ _)))))
  go_wp2_with fail
  go_ret
  exact ⟨rfl, below_drewN HB.out _⟩
end Go.Proofs.Ytbkdhnlhhampfaa

/- The walks through the laws of bits, first part. -/
import Derived.Test.YtbkdhnlhhampfaaUnp
import Derived.Test.YtbkdhnlhhampfaaSame3
import Derived.Test.YtbkdhnlhhampfaaLawRP
import Derived.Test.YtbkdhnlhhampfaaLawW
namespace Go.Proofs.Ytbkdhnlhhampfaa
open Go.RowKit

theorem Ri_lit (w : World) (k : IntKind) (l : List Int) (t : TypeId) (cs : Array Value) (hcs : cs = (l.map (Value.int k)).toArray) (n : Nat) (hn : l.length = n) :
    Ri (w.alloc (.cells cs t)) k (some ⟨w.heap.size, 0, none⟩) n l := by
  subst hcs
  refine ⟨by simpa using hn, fun _ => ⟨w.heap.size, 0, rfl, by simp, fun j u hu => ?_⟩⟩
  rw [(Blk.new w t _).cell]; simpa using hu
set_option maxRecDepth 100000 in
set_option maxHeartbeats 1000000 in
theorem shown03_any (w : World) :
    Calls Try.prog 34 #[] w fun e w' => e = .returned (.bool true) ∧ Below w.heap.size w w' := by
  go_enter Try.func34, Try.ntmps34
  go_wp2_with fail
  refine (Pack_any _ _ 3 3 [1, 2, 3] 3 (Ri_lit _ _ _ _ _ rfl _ rfl) (by unfold U64; decide) (by omega) [41, 128] 0 (by decide)).mono ?_; rintro e w1 ⟨G1, n1, c1, rfl, hr1, hb1⟩
  have hb1' := on ((Below.refl w.heap.size w).alloc (Nat.le_refl _) _) hb1
  clear hb1
  go_wp2_with fail
  refine (Pack_any _ _ 1 1 [8] 3 (Ri_lit _ _ _ _ _ rfl _ rfl) (by unfold U64; decide) (by omega) [] 1 (by decide)).mono ?_; rintro e w2 ⟨G2, n2, c2, rfl, hr2, hb2⟩
  have hb2' := on ((Below.refl w1.heap.size w1).alloc (Nat.le_refl _) _) hb2
  clear hb2 hr2
  go_wp2_with fail
  refine (Unpack_any _ _ 2 2 [41, 128] 3 3 (Ri_lit _ _ _ _ _ rfl _ rfl) (by unfold U8; decide) (by omega) (by omega) [1, 2, 3] [] 0 (by decide)).mono ?_; rintro e w3 ⟨G3, n3, c3, G4, n4, c4, rfl, hr3, hr4, hb3⟩
  have hb3' := on ((Below.refl w2.heap.size w2).alloc (Nat.le_refl _) _) hb3
  clear hb3 hr4
  go_wp2_with fail
  refine (Unpack_any _ _ 2 2 [41, 129] 3 3 (Ri_lit _ _ _ _ _ rfl _ rfl) (by unfold U8; decide) (by omega) (by omega) [] [] 2 (by decide)).mono ?_; rintro e w4 ⟨G5, n5, c5, G6, n6, c6, rfl, hr5, hr6, hb4⟩
  have hb4' := on ((Below.refl w3.heap.size w3).alloc (Nat.le_refl _) _) hb4
  clear hb4 hr5 hr6
  have cv1 := conv_any (c := c1) (((hr1.1.below hb2').below hb3').below hb4')
  have s1 : (strOf [41, 128]).toList = [41, 128] := strOf_toList _
  have hl := hr3.1.below hb4'
  obtain rfl : n3 = 3 := hl.len.symm
  obtain ⟨b, o, hA, _, hcell⟩ := hl.all (by omega)
  subst hA
  have g0 : w4.cell? ⟨b, o + 0, none⟩ = some (.int .u64 1) := hcell 0 (by omega)
  have g1 : w4.cell? ⟨b, o + 1, none⟩ = some (.int .u64 2) := hcell 1 (by omega)
  have g2 : w4.cell? ⟨b, o + 2, none⟩ = some (.int .u64 3) := hcell 2 (by omega)
  rw [Nat.add_zero] at g0
  clear hr1 hr3 hl hcell
  go_wp2_with fail
  go_ret
  exact ⟨rfl, on (on (on hb1' hb2') hb3') hb4'⟩
theorem unpackR_u64 (l : List Int) (m x : Int) : U64 (unpackR l m x).1 := by
  unfold unpackR
  cases hf : fitsB m x
  · intro y hy; simp at hy
  · rw [if_neg (by simp)]
    have hx := of_decide_eq_true hf
    split
    · intro y hy; cases hy
    · simp only
      split
      · exact bits_u64 _ _ _ _ (by omega)
      · intro y hy; cases hy
theorem unpackR_len (l : List Int) (m x : Int) : (unpackR l m x).1.length ≤ 4096 := by
  unfold unpackR
  cases hf : fitsB m x
  · simp
  · rw [if_neg (by simp)]
    have hx := of_decide_eq_true hf
    split
    · simp
    · simp only
      split
      · simp only [bitsL_len]; omega
      · simp

set_option maxRecDepth 100000 in
set_option maxHeartbeats 1000000 in
theorem BitsUnpacks_walk (w : World) (A : Option Addr) (n cap : Nat) (l : List Int) (hr : Ri w .u8 A n l) (hu : U8 l) (hc : n ≤ cap) (hm : cap ≤ maxLen) (m : Int) (_hm : -9223372036854775808 ≤ m ∧ m < 9223372036854775808) (x : Int) (_hx : -9223372036854775808 ≤ x ∧ x < 9223372036854775808) :
    Calls Try.prog 12 #[.slice A n cap, .int .i64 m, .int .i64 x] w fun e w' => e = .returned (.bool true) ∧ Below w.heap.size w w' := by
  unfold maxLen at hm
  have HU := Lib.hid hu; clear hu
  have HR := Lib.hid hr; clear hr
  have hpair : (n ≤ 600 ∧ Hid (∃ l2, Ri w .u8 A n l2 ∧ U8 l2)) ∨ (600 < n ∧ Hid (∃ l2, Ri w .u8 A 600 l2 ∧ U8 l2) ∧ ∃ b o, A = some ⟨b, o, none⟩) := by
    rcases Nat.lt_or_ge 600 n with h | h
    · obtain ⟨b, o, e, _⟩ := HR.out.all (by omega)
      exact .inr ⟨h, ⟨_, HR.out.first (by omega), HU.out.take _⟩, b, o, e⟩
    · exact .inl ⟨h, ⟨_, HR.out, HU.out⟩⟩
  rcases hpair with ⟨h200, h2⟩ | ⟨h200, h2, b, o, rfl⟩
  all_goals
    go_enter Try.func12, Try.ntmps12
    go_wp2_with fail
    refine (shown03_any _).mono ?_; rintro e w1 ⟨rfl, hb1⟩
    obtain ⟨l2, hr2, hu2⟩ := h2.out
    have hr3 := hr2.below hb1
    have HR2 := Lib.hid hr2; have HR3 := Lib.hid hr3; have HU2 := Lib.hid hu2
    clear hr2 hr3 hu2
    obtain ⟨r1, r2, er, hl⟩ : ∃ r1 r2 er, unpackR l2 m x = (r1, r2, er) := ⟨_, _, _, rfl⟩
    have hr1u := unpackR_u64 l2 m x
    have hr1l := unpackR_len l2 m x
    rw [hl] at hr1u hr1l
    have HL := Lib.hid hl; have HR1U := Lib.hid hr1u; clear hl hr1u
    go_wp2_with (at_builtin; refine wpList_u8 _ rfl _ _ rfl w1.heap.size _ 0 [] rfl (own_empty w1 _ 1) _ _ _ l2 rfl (HR3.out.alloc _) (by omega) (by simp) ?_; intro G2 c2 w2 hown hgr hcc)
    have hb2 := push0 ((Below.refl w1.heap.size w1).alloc (Nat.le_refl _) _) (Nat.le_refl _) (own_empty w1 _ 1) hgr
    rw [Nat.zero_add, List.nil_append] at hown
    have hc2 := own_cap hown
    have hro := Ri.of_own hown
    have HO := Lib.hid hro; clear hro hown hgr hcc
    refine (Unpack_any _ _ _ _ l2 m x HO.out HU2.out hc2.1 (by omega) r1 r2 er HL.out).mono ?_; rintro e w3 ⟨G3, n3, c3, G4, n4, c4, rfl, hr3, hr4, hb3⟩
    go_wp2_with fail
    refine (refUnpack_any _ _ _ _ l2 m x ((HR3.out.below hb2).below hb3) HU2.out (by omega) (by omega) r1 r2 er HL.out).mono ?_; rintro e w4 ⟨G5, n5, c5, G6, n6, c6, rfl, hr5, hr6, hb4⟩
    go_wp2_with fail
    have hn3 := hr3.1.len
    have hn5 := hr5.1.len
    refine (Same3_any _ _ _ _ _ _ _ r1 r1 (hr3.1.below hb4) hr5.1 (by omega) (by omega) HR1U.out HR1U.out).mono ?_; rintro e w5 ⟨rfl, hb5⟩
    rw [decide_eq_true rfl]
    have cv1 := conv_any (c := c4) ((hr4.1.below hb4).below hb5)
    have cv2 := conv_any (c := c6) (hr6.1.below hb5)
    have st := strOf_same r2
    generalize strOf r2 = S at *
    have HB := Lib.hid (on (on (on (on hb1 hb2) hb3) hb4) hb5)
    clear hr3 hr4 hr5 hr6 hn3 hn5 hb1 hb2 hb3 hb4 hb5
    go_wp2_with fail
    go_ret
    exact ⟨rfl, HB.out⟩
end Go.Proofs.Ytbkdhnlhhampfaa

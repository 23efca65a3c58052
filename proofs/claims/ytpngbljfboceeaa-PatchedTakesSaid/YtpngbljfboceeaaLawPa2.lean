/- The walk through PatchedTakes. -/
import Derived.Test.YtpngbljfboceeaaShown10
import Derived.Test.YtpngbljfboceeaaRefPTake
import Derived.Test.YtpngbljfboceeaaSame8
namespace Go.Proofs.Ytpngbljfboceeaa
open Go.RowKit

theorem takePa_good (b : List Int) (s : Bool) : I64 (takePa b s).1 ∧ (takePa b s).1.length ≤ 4096 := by
  have hnil : I64 [] := fun y hy => by cases hy
  have hbad : I64 badT.1 ∧ badT.1.length ≤ 4096 := ⟨hnil, by simp [badT]⟩
  unfold takePa
  split
  · exact hbad
  · unfold takeP2
    split
    · exact hbad
    · generalize hB : numR _ = B
      have hBr : I64x B := by rw [← hB]; exact stepR_range 0 _ _ (by unfold I64x; omega) (by omega)
      unfold takeP2b
      split
      · exact hbad
      · unfold takeP3
        split
        · exact hbad
        · have h1 := unpackR_u64 ((b.drop 4).drop (b.getD 2 0 / 32 + 1).toNat) (lookR b).2.2.1 ((wOf (lookR b).2.1).toNat : Int)
          have h2 := unpackR_len ((b.drop 4).drop (b.getD 2 0 / 32 + 1).toNat) (lookR b).2.2.1 ((wOf (lookR b).2.1).toNat : Int)
          generalize (unpackR ((b.drop 4).drop (b.getD 2 0 / 32 + 1).toNat) (lookR b).2.2.1 ((wOf (lookR b).2.1).toNat : Int)).1 = L at *
          have h3 := patchN_u64 (wOf (b.getD 2 0 % 32)).toNat (b.getD 3 0 / 32 + 1).toNat (wOf (lookR b).2.1).toNat L
          unfold takeP4
          split
          · exact hbad
          · rename_i q hq
            obtain ⟨h4, h5⟩ := h3 _ h1 _ q hq
            split
            · refine ⟨fun y hy => ?_, by simp only [sumL, List.length_map]; omega⟩
              obtain ⟨u, hu, rfl⟩ := List.mem_map.1 hy
              exact stepR_range B u false hBr (h4 u hu).1
            · exact hbad
theorem cut_ri10 {w : World} {kd : IntKind} {A : Option Addr} {n : Nat} {l : List Int} (h : Ri w kd A n l) (K : Nat) :
    (K < n ∧ (∃ b o, A = some ⟨b, o, none⟩) ∧ Ri w kd A K (l.take K)) ∨ (n ≤ K ∧ Ri w kd A n (l.take K)) := by
  rcases Nat.lt_or_ge K n with h1 | h1
  · obtain ⟨b, o, e, _⟩ := h.all (by omega)
    exact .inl ⟨h1, ⟨b, o, e⟩, h.first (by omega)⟩
  · exact .inr ⟨h1, by rw [List.take_of_length_le (by rw [h.len]; exact h1)]; exact h⟩

set_option maxRecDepth 100000 in
set_option maxHeartbeats 2000000 in
theorem PatchedTakes_walk (w : World) (A : Option Addr) (n cap : Nat) (b : List Int) (hr : Ri w .u8 A n b) (hu : U8 b) (hc : n ≤ cap) (hm : cap ≤ maxLen) (s : Bool) :
    Calls Try.prog 4 #[.slice A n cap, .bool s] w fun e w' => e = .returned (.bool true) ∧ Below w.heap.size w w' := by
  unfold maxLen at hm
  have HU := Lib.hid (hu.take 1000)
  obtain ⟨l, r, er, hl⟩ : ∃ l r er, takePa (b.take 1000) s = (l, r, er) := ⟨_, _, _, rfl⟩
  have hg := takePa_good (b.take 1000) s
  rw [hl] at hg
  obtain ⟨hg1, hg2⟩ := hg
  dsimp only at hg2
  have HG := Lib.hid hg1; have HL := Lib.hid hl
  clear hg1 hl hu
  rcases cut_ri10 hr 1000 with ⟨h1, ⟨bb, oo, rfl⟩, h2⟩ | ⟨h1, h2⟩
  all_goals
    have H2 := Lib.hid h2
    clear hr h2
    go_enter Try.func4, Try.ntmps4
    go_wp2_with fail
    refine (shown10_any _).mono ?_; rintro e w1 ⟨rfl, hb1⟩
    have HB1 := Lib.hid hb1; clear hb1
    go_wp2_with (at_builtin; refine wpList_u8 _ rfl _ _ rfl w1.heap.size _ 0 [] rfl (own_empty w1 _ 1) _ _ _ (b.take 1000) rfl ((H2.out.below HB1.out).alloc _) (by omega) (by simp) ?_; intro G3 c3 w3 hown hgr hcc)
    have hb3 := push0 ((Below.refl w1.heap.size w1).alloc (Nat.le_refl _) _) (Nat.le_refl _) (own_empty w1 _ 1) hgr
    rw [Nat.zero_add, List.nil_append] at hown
    have hs3 := Sl.of_own hown
    have HO := Lib.hid hs3
    have HB3 := Lib.hid hb3
    clear hown hgr hcc hs3 hb3
    refine (PTake_any _ _ _ _ (b.take 1000) HO.out.1 HU.out HO.out.2.1 HO.out.2.2 (by omega) s l r er HL.out).mono ?_; rintro e w4 ⟨G4, n4, c4, G5, n5, c5, rfl, hs4, hs5, hb4⟩
    go_wp2_with fail
    refine (refPTake_any _ _ _ _ (b.take 1000) (((H2.out.below HB1.out).below HB3.out).below hb4) HU.out (by omega) (by omega) (by omega) s l r er HL.out).mono ?_; rintro e w5 ⟨G6, n6, c6, G7, n7, c7, rfl, hs6, hs7, hb5⟩
    have q4 := hs4.1.len; have q6 := hs6.1.len
    go_wp2_with fail
    refine (Same8_any _ _ _ _ _ _ _ l l (hs4.1.below hb5) hs6.1 (by omega) (by omega) HG.out HG.out).mono ?_; rintro e w6 ⟨rfl, hb6⟩
    rw [decide_eq_true rfl]
    have cv1 := conv_any (c := c5) ((hs5.1.below hb5).below hb6)
    have cv2 := conv_any (c := c7) (hs7.1.below hb6)
    have st := strOf_same r
    generalize strOf r = S at *
    have HB := Lib.hid (on (on (on (on HB1.out HB3.out) hb4) hb5) hb6)
    clear hs4 hs5 hs6 hs7 hb4 hb5 hb6 q4 q6
    go_wp2_with fail
    go_ret
    exact ⟨rfl, HB.out⟩
end Go.Proofs.Ytpngbljfboceeaa

/- pilasterref10: above, pairs. -/
import Derived.Test.YtpngbljfboceeaaPlainPb
namespace Go.Proofs.Ytpngbljfboceeaa
open Go.RowKit

def AboveOut (w : World) (l : List Int) (e : Ending) (w' : World) : Prop :=
  ∃ b G n c, e = .returned (.tuple #[.int .i64 b, .slice G n c, .bool (nearL l l.length && decide (minL l ≠ -9223372036854775808))]) ∧ Below w.heap.size w w' ∧ (nearL l l.length = true → b = minL l ∧ Sl w' .u64 G n c (upL l))

set_option maxRecDepth 100000 in
set_option maxHeartbeats 2000000 in
theorem above10_any (w : World) (A : Option Addr) (n cap : Nat) (l : List Int) (hr : Ri w .i64 A n l) (hu : I64 l) (hn : n ≤ 512) (h1 : 1 ≤ n) :
    Calls Try.prog 54 #[.slice A n cap] w (AboveOut w l) := by
  have HR := Lib.hid hr; have HN := Lib.hid hr.len; have HU := Lib.hid hu
  clear hr hu
  obtain ⟨bb, oo, rfl, hbl, hcells⟩ := HR.out.all (by omega)
  have HC := Lib.hid hcells; clear hcells
  have h0 := HC.out 0 (by omega)
  rw [Nat.add_zero] at h0
  obtain ⟨a, ha⟩ : ∃ a, a = l.getD 0 0 := ⟨_, rfl⟩
  rw [← ha] at h0
  have HA := Lib.hid ha; clear ha
  go_enter Try.func54, Try.ntmps54
  go_wp2_with fail
  go_loopw [5, 6] (fun m i wr => ∃ (j : Nat) (z : Int), j ≤ n ∧ i = .int .i64 j ∧ Hid (wr = w) ∧ m = .int .i64 z ∧ Hid (z = (l.take j).foldl min a)) (fun _ i _ => n - (intOf i).toNat)
  case atStart => exact ⟨0, a, by omega, rfl, Lib.hid rfl, rfl, Lib.hid rfl⟩
  case round =>
    obtain ⟨j, z, hj, rfl, hw, rfl, hz⟩ := hrel
    obtain rfl := hw.out
    by_cases hlt : j < n
    · have hc := HC.out j hlt
      have hs := Lib.hid (minL_snoc l j (by rw [HN.out]; exact hlt) a)
      generalize l.getD j 0 = x at hc hs
      clear h0
      go_wp2_with fail
      all_goals
        go_roundw
        case rel =>
          refine ⟨j + 1, _, by omega, by go_num, Lib.hid trivial, rfl, Lib.hid ?_⟩
          rw [hs.out, ← hz.out]
          omega
        case measure => simp [intOf] <;> omega
    · obtain rfl : j = n := by omega
      obtain ⟨w0, hw0⟩ : ∃ w0, w0 = wr := ⟨_, rfl⟩
      subst hw0
      have hzz := hz.out
      rw [List.take_of_length_le (by rw [HN.out]; exact Nat.le_refl _), HA.out] at hzz
      have hzm : z = minL l := hzz
      have HZ := Lib.hid hzm
      have hmx := minL_i64x HU.out (by rw [HN.out]; omega)
      rw [← hzm] at hmx
      clear hzz hzm hz
      go_wp2_with fail
      go_loopw [7, 8] (fun v i wr2 => ∃ k : Nat, k ≤ j ∧ i = .int .i64 k ∧ Hid (wr2.ownsRow w0.heap.size 50 1 v k (((upL l).take k).map (Value.int .u64))) ∧ Hid (Below w0.heap.size w0 wr2) ∧ Hid (nearL l k = true)) (fun _ i _ => j - (intOf i).toNat)
      case atStart => exact ⟨0, by omega, rfl, own_empty w0 _ 1, (Below.refl _ _).alloc (Nat.le_refl _) _, rfl⟩
      case round =>
        obtain ⟨k, hk, rfl, hown, hbw, hok⟩ := hrel
        by_cases hlt2 : k < j
        · have hck := (hbw.out.cell (p := ⟨bb, oo + k, none⟩) hbl).trans (HC.out k hlt2)
          have hy := getD_i64x HU.out k
          have hmy := minL_at l k (by rw [HN.out]; exact hlt2)
          have hup := upL_at l k (by rw [HN.out]; exact hlt2)
          have hts := take_snoc (upL l) k (by rw [upL_len, HN.out]; exact hlt2)
          have hns := nearL_snoc l k (by rw [HN.out]; exact hlt2)
          have hdr := diffR_up (minL l) (l.getD k 0) hmy
          have hbad := nearL_bad l l.length k (by rw [HN.out]; exact hlt2) (Nat.le_refl _)
          rw [hup] at hts
          rw [hok.out, Bool.true_and] at hns
          rw [← HZ.out] at hup hmy hdr hns hts hbad
          obtain ⟨y, hY⟩ : ∃ y, y = l.getD k 0 := ⟨_, rfl⟩
          rw [← hY] at hck hy hmy hup hdr hns hts hbad
          obtain ⟨u, hU⟩ : ∃ u, u = y - z := ⟨_, rfl⟩
          rw [← hU] at hup hdr hns hts hbad
          have HNS := Lib.hid hns; have HTS := Lib.hid hts; have HDR := Lib.hid hdr; have HBAD := Lib.hid hbad
          have hsz := hbw.out.size
          have hu0 : 0 ≤ u := by omega
          clear hns hts hup hU hY hbad h0
          by_cases hbig : u ≥ 9223372036854775808
          · rw [if_pos hbig] at hdr
            have HD := Lib.hid hdr
            have hbd := HBAD.out (by omega)
            have HB := Lib.hid hbd
            clear hdr hbd
            go_wp2_with fail
            refine (refDiff_any _ z y hmx hy 0 false false HD.out).mono ?_; rintro e w2 ⟨rfl, rfl⟩
            go_wp2_with fail
            go_returns
            exact ⟨0, none, 0, 0, by rw [HB.out]; rfl, hbw.out, fun h => by rw [HB.out] at h; cases h⟩
          · rw [if_neg hbig] at hdr
            have HD := Lib.hid hdr
            clear hdr
            go_wp2_with fail
            refine (refDiff_any _ z y hmx hy u false true HD.out).mono ?_; rintro e w2 ⟨rfl, rfl⟩
            go_wp2_with (at_builtin; refine wpList_u64 _ rfl _ _ rfl w0.heap.size _ k _ rfl (hown.out.alloc _) _ 1 1 [_] rfl (ri_one_at rfl) (by omega) (by simp <;> omega) ?_; intro G c w3 hown3 hgr hcc)
            have hb3 := push_ hbw.out (Nat.le_refl _) hown.out hgr
            rw [← HTS.out] at hown3
            have HO3 := Lib.hid hown3
            clear hown3 hgr
            go_wp2_with fail
            go_roundw
            case rel => exact ⟨k + 1, by omega, by go_num, HO3, hb3, by rw [HNS.out]; exact decide_eq_true (by omega)⟩
            case measure => simp [intOf] <;> omega
        · obtain rfl : k = j := by omega
          have ho := hown.out
          rw [List.take_of_length_le (by rw [upL_len, HN.out]; exact Nat.le_refl _)] at ho
          obtain ⟨G, c, rfl⟩ := own_form ho
          have HO := Lib.hid (Sl.of_own ho)
          have hnear : nearL l l.length = true := by rw [HN.out]; exact hok.out
          have HNE := Lib.hid hnear
          clear ho hown hnear hok
          by_cases hz0 : z = -9223372036854775808
          · have hzb : (z != -9223372036854775808) = false := by simp [hz0]
            have HZ0 := Lib.hid hz0
            clear hz0
            go_wp2_with fail
            go_returns
            exact ⟨z, G, k, c, by rw [HNE.out, ← HZ.out, HZ0.out]; rfl, hbw.out, fun _ => ⟨HZ.out, HO.out⟩⟩
          · have hzb : (z != -9223372036854775808) = true := by simp [hz0]
            have HZ0 := Lib.hid hz0
            clear hz0
            go_wp2_with fail
            go_returns
            exact ⟨z, G, k, c, by rw [HNE.out, ← HZ.out, decide_eq_true HZ0.out]; rfl, hbw.out, fun _ => ⟨HZ.out, HO.out⟩⟩
end Go.Proofs.Ytpngbljfboceeaa

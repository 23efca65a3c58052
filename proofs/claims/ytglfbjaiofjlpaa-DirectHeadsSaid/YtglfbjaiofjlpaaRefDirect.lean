/- The reference of direct.Put. -/
import Derived.Test.YtglfbjaiofjlpaaRefMost
import Derived.Test.YtglfbjaiofjlpaaDirect
namespace Go.Proofs.Ytglfbjaiofjlpaa
open Go.RowKit

set_option maxRecDepth 100000 in
set_option maxHeartbeats 1000000 in
theorem refDPut_any (w : World) (A : Option Addr) (n cap : Nat) (l : List Int) (hr : Ri w .i64 A n l) (hu : I64 l) (hn : n ≤ 1000000) (s : Bool) (r : List Int) (er : Int) (hl : putD l s = (r, er)) :
    Calls Try.prog 11 #[.slice A n cap, .bool s] w (BytesErr w r er) := by
  obtain ⟨u, e, hpl, hcase⟩ := plainL_cases l s
  have HR := Lib.hid hr; have HU := Lib.hid hu; have HP := Lib.hid hpl
  have hlen := hr.len
  unfold putD at hl
  rw [hpl] at hl
  dsimp only at hl
  clear hr hu hpl
  rcases hcase with ⟨rfl, hul, hu6⟩ | ⟨rfl, rfl⟩
  · have hU6 := Lib.hid (hu6 HU.out)
    clear hu6
    by_cases hb : n < 1 ∨ 512 < n
    · rw [if_pos (by omega)] at hl
      injection hl with e1 e2
      subst e1 e2
      go_enter Try.func11, Try.ntmps11
      go_wp2_with fail
      refine (refPlain8_any _ _ _ _ l HR.out HU.out hn s u 0 HP.out).mono ?_; rintro e w1 ⟨G, n1, c1, rfl, hs1, hb1⟩
      clear hlen hul
      rcases hb with hb | hb
      all_goals
        go_wp2_with fail
        go_ret2
        exact ⟨none, 0, 0, rfl, Sl.nil _ _, hb1⟩
    · rw [if_neg (by omega)] at hl
      obtain ⟨k, hk, hk1, hk2, hroom⟩ := most_room u hU6.out
      obtain ⟨p, hp, hplen⟩ := packR_ok u k hk2 (by omega) hroom
      rw [hk, hp] at hl
      injection hl with e1 e2
      have HE := Lib.hid (And.intro e1 e2)
      have HK := Lib.hid hk; have HPP := Lib.hid hp
      have hpb : p.length ≤ 4096 := by
        have : u.length * k ≤ 512 * 64 := Nat.mul_le_mul (by omega) hk2
        omega
      clear hk hp hroom e1 e2 hplen
      subst hlen
      go_enter Try.func11, Try.ntmps11
      go_wp2_with fail
      refine (refPlain8_any _ _ _ _ l HR.out HU.out hn s u 0 HP.out).mono ?_; rintro e w1 ⟨G, n1, c1, rfl, hs1, hb1⟩
      have h1 := hs1.1.len
      obtain rfl : n1 = l.length := by omega
      clear h1 hul
      have HS1 := Lib.hid hs1; clear hs1
      go_wp2_with fail
      refine (refMost_any u _ _ _ _ HS1.out.1 hU6.out (by omega)).mono ?_; rintro e w' ⟨rfl, rfl⟩
      go_wp2_with fail
      refine (refClosest_any _ _).mono ?_; rintro e w' ⟨rfl, rfl⟩
      rw [HK.out]
      go_wp2_with fail
      refine (refPack_any _ _ _ _ u k HS1.out.1 hU6.out (by omega) p 0 HPP.out).mono ?_; rintro e w3 ⟨G3, n3, c3, rfl, hs3, hb3⟩
      go_wp2_with fail
      refine (refCode_any _ _).mono ?_; rintro e w' ⟨rfl, rfl⟩
      go_wp2_with fail
      refine (refHead_any _ _ _ _).mono ?_; rintro e w5 ⟨G5, n5, c5, rfl, hs5, hb5⟩
      have hn5 := (Ri.of_own hs5.out).len
      have hn3 := hs3.1.len
      have hl5 : (headR 1 (wCode (k : Int)) (l.length : Int)).length ≤ 2 := by unfold headR; split <;> simp
      have hz5 := hb5.size
      go_wp2_with (at_builtin; refine wpList_u8 _ rfl _ _ rfl w3.heap.size _ _ _ rfl hs5.out _ _ _ p rfl (hs3.1.below hb5) (by omega) (by omega) ?_; intro G6 c6 w6 hown hgr _)
      have hb6 := push0 hb5 (Nat.le_refl _) hs5.out hgr
      have HS6 := Lib.hid (Sl.of_own hown)
      clear hown hgr
      go_wp2_with fail
      go_ret2
      obtain ⟨e1, e2⟩ := HE.out
      subst e1 e2
      exact ⟨_, _, _, rfl, HS6.out, on (on hb1 hb3) hb6⟩
  · rw [if_pos (.inl (by decide))] at hl
    injection hl with e1 e2
    subst e1 e2
    go_enter Try.func11, Try.ntmps11
    go_wp2_with fail
    refine (refPlain8_any _ _ _ _ l HR.out HU.out hn s [] 1 HP.out).mono ?_; rintro e w1 ⟨G, n1, c1, rfl, hs1, hb1⟩
    go_wp2_with fail
    go_ret2
    exact ⟨none, 0, 0, rfl, Sl.nil _ _, hb1⟩
end Go.Proofs.Ytglfbjaiofjlpaa

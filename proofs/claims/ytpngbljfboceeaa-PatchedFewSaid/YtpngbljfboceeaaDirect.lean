/- direct.Put and its reference. -/
import Derived.Test.YtpngbljfboceeaaHead
import Derived.Test.YtpngbljfboceeaaMap8
import Derived.Test.YtpngbljfboceeaaConcat
import Derived.Test.YtpngbljfboceeaaRefW
namespace Go.Proofs.Ytpngbljfboceeaa
open Go.RowKit

theorem plainL_cases (l : List Int) (s : Bool) : ∃ u e, plainL l s = (u, e) ∧ ((e = 0 ∧ u.length = l.length ∧ (I64 l → U64 u)) ∨ (e = 1 ∧ u = [])) := by
  unfold plainL
  cases s
  · rw [if_neg (by simp)]
    unfold mapOk
    split
    · rename_i h
      refine ⟨_, _, rfl, .inl ⟨rfl, by simp, fun hi x hx => ?_⟩⟩
      rw [List.map_id] at hx
      have h1 := hi x hx
      have h2 := List.all_eq_true.1 h x hx
      simp at h2
      omega
    · exact ⟨_, _, rfl, .inr ⟨rfl, rfl⟩⟩
  · rw [if_pos rfl]
    unfold mapOk
    rw [if_pos (by simp)]
    refine ⟨_, _, rfl, .inl ⟨rfl, by simp, fun hi x hx => ?_⟩⟩
    obtain ⟨y, hy, rfl⟩ := List.mem_map.1 hx
    exact zig_range y (hi y hy).1 (hi y hy).2
theorem mostBits_mem (l : List Int) : ∀ y ∈ l, blen y.toNat ≤ mostBits l := by
  have key : ∀ (l : List Int) (m : Nat), m ≤ l.foldl (fun m x => max m (blen x.toNat)) m ∧ ∀ y ∈ l, blen y.toNat ≤ l.foldl (fun m x => max m (blen x.toNat)) m := by
    intro l
    induction l with
    | nil => intro m; exact ⟨Nat.le_refl _, fun y hy => by cases hy⟩
    | cons a t ih =>
      intro m
      obtain ⟨h1, h2⟩ := ih (max m (blen a.toNat))
      rw [List.foldl_cons]
      refine ⟨by omega, fun y hy => ?_⟩
      rcases List.mem_cons.1 hy with rfl | hy
      · omega
      · exact h2 y hy
  exact (key l 0).2
/-- The closest width of the most bits has room for all. -/
theorem most_room (u : List Int) (h : U64 u) : ∃ k : Nat, wClosest (mostBits u) = (k : Int) ∧ 1 ≤ k ∧ k ≤ 64 ∧ u.all (roomB k) = true := by
  have h1 := wClosest_room (mostBits u) (by omega) (by have := mostBits_le u h; omega)
  refine ⟨(wClosest (mostBits u)).toNat, by omega, by omega, by omega, List.all_eq_true.2 fun y hy => ?_⟩
  unfold roomB
  refine decide_eq_true (.inr ?_)
  have h2 := mostBits_mem u y hy
  exact Nat.lt_of_lt_of_le (blen_lt _) (Nat.pow_le_pow_right (by omega) (by omega))
theorem packR_ok (l : List Int) (k : Nat) (hk : k ≤ 64) (hl : l.length ≤ 4096) (hr : l.all (roomB k) = true) : ∃ p, packR l k = (p, 0) ∧ p.length = (l.length * k + 7) / 8 := by
  unfold packR
  rw [if_neg (by omega), if_neg (by omega), Int.toNat_natCast, if_pos hr]
  exact ⟨_, rfl, bytesOf_len _ _⟩
def putD (l : List Int) (s : Bool) : List Int × Int :=
  if (plainL l s).2 ≠ 0 ∨ l.length < 1 ∨ 512 < l.length then ([], 1)
  else (headR 1 (wCode (wClosest (mostBits (plainL l s).1))) l.length ++ (packR (plainL l s).1 (wClosest (mostBits (plainL l s).1))).1, 0)

set_option maxRecDepth 100000 in
set_option maxHeartbeats 1000000 in
theorem DPut_any (w : World) (A : Option Addr) (n cap : Nat) (l : List Int) (hr : Ri w .i64 A n l) (hu : I64 l) (hn : n ≤ 1000000) (s : Bool) (r : List Int) (er : Int) (hl : putD l s = (r, er)) :
    Calls Try.prog 66 #[.slice A n cap, .bool s] w (BytesErr w r er) := by
  obtain ⟨u, e, hpl, hcase⟩ := plainL_cases l s
  have HR := Lib.hid hr; have HU := Lib.hid hu; have HP := Lib.hid hpl
  have hlen := hr.len
  unfold putD at hl
  rw [hpl] at hl
  dsimp only at hl
  clear hr hu hpl
  rcases hcase with ⟨rfl, hul, hu6⟩ | ⟨rfl, rfl⟩
  · have hU6 := Lib.hid (hu6 HU.out)
    clear hu6
    by_cases hb : n < 1 ∨ 512 < n
    · rw [if_pos (by omega)] at hl
      injection hl with e1 e2
      subst e1 e2
      go_enter Try.func66, Try.ntmps66
      go_wp2_with fail
      refine (Plain_any _ _ _ _ l HR.out HU.out hn s u 0 HP.out).mono ?_; rintro e w1 ⟨G, n1, c1, rfl, hs1, hb1⟩
      clear hlen hul
      rcases hb with hb | hb
      all_goals
        go_wp2_with fail
        go_ret2
        exact ⟨none, 0, 0, rfl, Sl.nil _ _, hb1⟩
    · rw [if_neg (by omega)] at hl
      obtain ⟨k, hk, hk1, hk2, hroom⟩ := most_room u hU6.out
      obtain ⟨p, hp, hplen⟩ := packR_ok u k hk2 (by omega) hroom
      rw [hk, hp] at hl
      injection hl with e1 e2
      have HE := Lib.hid (And.intro e1 e2)
      have HK := Lib.hid hk; have HPP := Lib.hid hp
      have hpb : p.length ≤ 4096 := by
        have : u.length * k ≤ 512 * 64 := Nat.mul_le_mul (by omega) hk2
        omega
      clear hk hp hroom e1 e2 hplen
      subst hlen
      go_enter Try.func66, Try.ntmps66
      go_wp2_with fail
      refine (Plain_any _ _ _ _ l HR.out HU.out hn s u 0 HP.out).mono ?_; rintro e w1 ⟨G, n1, c1, rfl, hs1, hb1⟩
      have h1 := hs1.1.len
      obtain rfl : n1 = l.length := by omega
      clear h1 hul
      have HS1 := Lib.hid hs1; clear hs1
      go_wp2_with fail
      refine (Most_any u _ _ _ _ HS1.out.1 hU6.out (by omega)).mono ?_; rintro e w' ⟨rfl, rfl⟩
      go_wp2_with fail
      refine (Closest_any _ _).mono ?_; rintro e w2 ⟨rfl, hb2⟩
      rw [HK.out]
      go_wp2_with fail
      refine (Pack_any _ _ _ _ u k (HS1.out.1.below hb2) hU6.out (by omega) p 0 HPP.out).mono ?_; rintro e w3 ⟨G3, n3, c3, rfl, hs3, hb3⟩
      go_wp2_with fail
      refine (Code_any _ _).mono ?_; rintro e w4 ⟨rfl, hb4⟩
      go_wp2_with fail
      refine (Head_any _ _ _ _).mono ?_; rintro e w5 ⟨G5, n5, c5, rfl, hs5, hb5⟩
      have hn5 := hs5.1.len
      have hn3 := hs3.1.len
      have hl5 : (headR 1 (wCode (k : Int)) (l.length : Int)).length ≤ 2 := by unfold headR; split <;> simp
      go_wp2_with fail
      refine (Concat_any _ _ _ _ _ _ _ _ _ _ (Blk.new w5 _ _) (hs5.1.alloc _) (((hs3.1.below hb4).below hb5).alloc _) (by omega) (by omega)).mono ?_; rintro e w6 ⟨G6, n6, c6, rfl, hs6, hb6⟩
      go_wp2_with fail
      go_ret2
      obtain ⟨e1, e2⟩ := HE.out
      subst e1 e2
      exact ⟨_, _, _, rfl, hs6, on (on (on (on (on hb1 hb2) hb3) hb4) hb5) (on ((Below.refl w5.heap.size w5).alloc (Nat.le_refl _) _) hb6)⟩
  · rw [if_pos (.inl (by decide))] at hl
    injection hl with e1 e2
    subst e1 e2
    go_enter Try.func66, Try.ntmps66
    go_wp2_with fail
    refine (Plain_any _ _ _ _ l HR.out HU.out hn s [] 1 HP.out).mono ?_; rintro e w1 ⟨G, n1, c1, rfl, hs1, hb1⟩
    go_wp2_with fail
    go_ret2
    exact ⟨none, 0, 0, rfl, Sl.nil _ _, hb1⟩
end Go.Proofs.Ytpngbljfboceeaa

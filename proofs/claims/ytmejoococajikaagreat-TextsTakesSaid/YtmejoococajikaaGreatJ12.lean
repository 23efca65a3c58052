/- Joined texts: RepP, Direct, RefMost, RefDirect, RepR, PlainP. Each has its own head line. No condition beyond those that its theorems state. -/
import Derived.Test.YtmejoococajikaaGreatJ02
import Derived.Test.YtmejoococajikaaGreatJ08
import Derived.Test.YtmejoococajikaaGreatJ04
import Derived.Test.YtmejoococajikaaGreatJ11
import Derived.Test.YtmejoococajikaaGreatJ07
set_option linter.unusedVariables false

/- A number a few times: the walks of package repeat and of its reference. -/
namespace Go.Proofs.YtmejoococajikaaGreat
open Go.RowKit

/-- The lowest k bytes of a number, the highest first. -/
def hiB (u : Nat) : Nat → List Int
  | 0 => []
  | k + 1 => ((u : Int) / 2 ^ (8 * k) % 256) :: hiB u k
theorem hiB_len (u k : Nat) : (hiB u k).length = k := by
  induction k with
  | zero => rfl
  | succ k ih => simp [hiB, ih]

def OwnRes (B : Nat) (w : World) (n : Nat) (l : List Int) (e : Ending) (w' : World) : Prop :=
  ∃ G c, e = .returned (.slice G n c) ∧ w'.ownsRow B 5 1 (.slice G n c) n (l.map (Value.int .u8)) ∧ Below B w w'

set_option maxRecDepth 100000 in
set_option maxHeartbeats 400000 in
theorem high_any (u n : Nat) (B : Nat) (v : Value) (m : Nat) (l : List Int) (w : World) (hown : w.ownsRow B 5 1 v m (l.map (Value.int .u8))) (hB : B ≤ w.heap.size) (_hu : u < 18446744073709551616) (hn : n ≤ 8) (hm : m ≤ 1000) :
    Calls Tryz.prog 147 #[.int .u64 u, .int .i64 n, v] w (OwnRes B w (m + n) (l ++ hiB u n)) := by
  obtain ⟨i0, hi, hz0, hz1, hz2⟩ := info_parts info_u8
  have HO := Lib.hid hown; clear hown
  go_enter Tryz.func147, Tryz.ntmps147
  go_wp2_with fail
  go_loopw [2, 7] (fun v i wr => ∃ (k t : Nat) (acc : List Int), k + t = n ∧ i = .int .i64 ((t : Int) - 1) ∧ Hid (acc ++ hiB u t = l ++ hiB u n) ∧ Hid (wr.ownsRow B 5 1 v (m + k) (acc.map (Value.int .u8))) ∧ Below B w wr) (fun _ i _ => (intOf i + 1).toNat)
  case atStart => exact ⟨0, n, l, by omega, rfl, rfl, HO.out, Below.refl _ _⟩
  case round =>
    obtain ⟨k, t, acc, hk, rfl, hacc, ho, hbl⟩ := hrel
    have hsz := hbl.size
    by_cases ht : 0 < t
    · obtain ⟨s, rfl⟩ : ∃ s, t = s + 1 := ⟨t - 1, by omega⟩
      go_wp2_with (at_builtin; refine wpList_append_any _ rfl _ _ 38 rfl B 5 i0 (.int .u8 0) 1 1 Tryz.underlying38 hi hz0 hz1 hz2 rfl (by decide) _ _ _ rfl (ho.out.alloc _) _ 1 _ [.int .u8 (↑u / 2 ^ (8 * s) % 256)] rfl (Rd.one _ _ _) ?c1 ?c2 ?c3 ?c4 ?_)
      case c1 => intro u hu; simp at hu; subst hu; rfl
      case c2 => unfold maxLen; omega
      case c3 => omega
      case c4 => simp; omega
      intro G cap w1 hown1 hgr _ _
      go_wp2_with fail
      go_roundw
      case rel =>
        refine ⟨k + 1, s, acc ++ [(u : Int) / 2 ^ (8 * s) % 256], by omega, rfl, Lib.hid ?_, Lib.hid ?_, ?_⟩
        · rw [← hacc.out, List.append_assoc]; rfl
        · rw [List.map_append]; exact hown1
        · exact push_ hbl hB ho.out hgr
      case measure => simp [intOf]
    · obtain rfl : t = 0 := by omega
      have ha : acc = l ++ hiB u n := by have := hacc.out; simpa [hiB] using this
      have hk' : k = n := by omega
      have ho' := ho.out
      rw [ha, hk'] at ho'
      have HO' := Lib.hid ho'
      clear ha hk' ho'
      go_wp2_with fail
      go_ret
      obtain ⟨G, c, rfl⟩ := own_form HO'.out
      exact ⟨G, c, rfl, HO'.out, hbl⟩

def longN (u : Nat) : Nat := max 1 ((blen u + 7) / 8)
theorem longN_range (u : Nat) (h : u < 18446744073709551616) : 1 ≤ longN u ∧ longN u ≤ 8 := by
  have := blen_64 u h
  unfold longN; omega
def plainU (x : Int) (s : Bool) : Int := if s then zig x else x
def putR (x times : Int) (s : Bool) : List Int × Int :=
  if times < 3 ∨ 10 < times ∨ (s = false ∧ x < 0) then ([], 1)
  else ((8 * ((longN (plainU x s).toNat : Int) - 1) + times - 3) :: hiB (plainU x s).toNat (longN (plainU x s).toNat), 0)

set_option maxRecDepth 100000 in
set_option maxHeartbeats 400000 in
theorem long_any (u : Nat) (w : World) (hu : u < 18446744073709551616) :
    Calls Tryz.prog 146 #[.int .u64 u] w fun e w' => e = .returned (.int .i64 (longN u)) ∧ w = w' := by
  have hb := blen_64 u hu
  have H : Hid (longN u = max 1 ((blen u + 7) / 8)) := rfl
  go_enter Tryz.func146, Tryz.ntmps146
  go_wp2_with fail
  refine (Bits_any _ _ (by omega) (by omega)).mono ?_; rintro e w' ⟨rfl, rfl⟩
  rw [Int.toNat_natCast]
  generalize blen u = b at *
  go_wp2_with fail
  all_goals
    go_ret
    exact ⟨ret_int (by rw [H.out]; omega), rfl⟩

set_option maxRecDepth 100000 in
set_option maxHeartbeats 400000 in
theorem plain_any (x : Int) (s : Bool) (w : World) (h0 : -9223372036854775808 ≤ x) (h1 : x < 9223372036854775808) :
    Calls Tryz.prog 145 #[.int .i64 x, .bool s] w fun e w' => e = .returned (.tuple #[.int .u64 (if s then zig x else IntKind.u64.wrap x), .bool (s || decide (0 ≤ x))]) ∧ w = w' := by
  cases s
  · go_enter Tryz.func145, Tryz.ntmps145
    go_wp2_with fail
    go_ret2
    exact ⟨rfl, rfl⟩
  · go_enter Tryz.func145, Tryz.ntmps145
    go_wp2_with fail
    refine (Zig_any _ _ h0 h1).mono ?_; rintro e w' ⟨rfl, rfl⟩
    go_wp2_with fail
    go_ret2
    exact ⟨rfl, rfl⟩
theorem or_low (a b : Nat) (ha : a < 8) (hb : b < 8) : bits .or .i64 ((a : Int) * 8) (b : Int) % 256 = 8 * (a : Int) + b := by
  have ofm : ∀ m : Nat, m < 2 ^ 63 → (BitVec.ofInt 64 (m : Int)).toNat = m := fun m hm => by
    rw [BitVec.ofInt_natCast, BitVec.toNat_ofNat]; exact Nat.mod_eq_of_lt (by omega)
  have e : ((a : Int) * 8) = ((8 * a : Nat) : Int) := by omega
  rw [e]
  show IntKind.i64.wrap ((BitVec.ofInt 64 ((8 * a : Nat) : Int) ||| BitVec.ofInt 64 (b : Int)).toNat : Int) % 256 = _
  rw [BitVec.toNat_or, ofm _ (by omega), ofm _ (by omega), show 8 * a ||| b = 8 * a + b from (Nat.two_pow_add_eq_or_of_lt (i := 3) hb a).symm, IntKind.wrap_i64]
  omega

set_option maxRecDepth 100000 in
set_option maxHeartbeats 1000000 in
theorem Put_any (x t : Int) (s : Bool) (w : World) (h0 : -9223372036854775808 ≤ x) (h1 : x < 9223372036854775808) (l : List Int) (er : Int) (hl : putR x t s = (l, er)) :
    Calls Tryz.prog 116 #[.int .i64 x, .int .i64 t, .bool s] w (BytesErr w l er) := by
  by_cases hbad : t < 3 ∨ 10 < t ∨ (s = false ∧ x < 0)
  · unfold putR at hl
    rw [if_pos hbad] at hl
    injection hl with hl1 hl2
    subst hl1 hl2
    have hd : (s || decide (0 ≤ x)) = false ∨ ((s || decide (0 ≤ x)) = true ∧ t < 3) ∨ ((s || decide (0 ≤ x)) = true ∧ 10 < t) := by
      cases s
      · simp at hbad ⊢; omega
      · simp at hbad ⊢; omega
    clear hbad
    go_enter Tryz.func116, Tryz.ntmps116
    go_wp2_with fail
    refine (plain_any _ _ _ h0 h1).mono ?_; rintro e w' ⟨rfl, rfl⟩
    generalize (s || decide (0 ≤ x)) = ok at *
    generalize (if s = true then zig x else IntKind.u64.wrap x) = u at *
    rcases hd with rfl | ⟨rfl, ht⟩ | ⟨rfl, ht⟩
    all_goals
      go_wp2_with fail
      go_ret2
      exact ⟨none, 0, 0, rfl, Sl.nil _ _, Below.refl _ _⟩
  · have hok : (s || decide (0 ≤ x)) = true := by
      cases s
      · simp at hbad ⊢; omega
      · rfl
    have hu : (if s then zig x else IntKind.u64.wrap x) = plainU x s := by
      unfold plainU
      cases s
      · simp only [Bool.false_eq_true, if_false]
        exact IntWalk.u64_in _ (by simp at hok; omega)
      · rfl
    have hur : 0 ≤ plainU x s ∧ plainU x s < 18446744073709551616 := by
      have := zig_range x h0 h1
      unfold plainU
      cases s <;> simp at hok ⊢ <;> omega
    obtain ⟨u, huu⟩ : ∃ u : Nat, (u : Int) = plainU x s := ⟨(plainU x s).toNat, by omega⟩
    unfold putR at hl
    rw [if_neg hbad, ← huu, Int.toNat_natCast] at hl
    injection hl with hl1 hl2
    subst hl2
    have ht1 : 3 ≤ t := by omega
    have ht2 : t ≤ 10 := by omega
    have hul : u < 18446744073709551616 := by omega
    clear hbad hur
    have hln := longN_range u hul
    obtain ⟨n, hn⟩ : ∃ n, n = longN u := ⟨_, rfl⟩
    rw [← hn] at hln hl1
    have HL1 := Lib.hid hl1; clear hl1
    have hor := or_low (n - 1) (t - 3).toNat (by omega) (by omega)
    have e1 : (((n - 1 : Nat)) : Int) = (n : Int) - 1 := by omega
    have e2 : (((t - 3).toNat : Nat) : Int) = t - 3 := by omega
    rw [e1, e2] at hor
    have HOR := Lib.hid hor
    clear hor e1 e2
    go_enter Tryz.func116, Tryz.ntmps116
    go_wp2_with fail
    refine (plain_any _ _ _ h0 h1).mono ?_; rintro e w' ⟨rfl, rfl⟩
    rw [hu, ← huu, hok]
    clear hu hok huu
    go_wp2_with fail
    refine (long_any _ _ hul).mono ?_; rintro e w' ⟨rfl, rfl⟩
    rw [← hn]
    have HN := Lib.hid hn; clear hn
    go_wp2_with fail
    rw [HOR.out, show 8 * ((n : Int) - 1) + (t - 3) = 8 * ((n : Int) - 1) + t - 3 from by omega]
    refine (high_any u n w.heap.size _ 1 [8 * ((n : Int) - 1) + t - 3] _ (World.ownsRow_lit w _ 1 (Nat.le_refl _) (by unfold maxLen; omega) rfl) (by simp) hul (by omega) (by omega)).mono ?_
    rintro e w' ⟨G, c, rfl, hown, hb⟩
    have hb2 := ((Below.refl w.heap.size w).alloc (Nat.le_refl _) (.cells #[.int .u8 (8 * ((n : Int) - 1) + t - 3)] 5)).trans hb
    have HOWN := Lib.hid hown; clear hown hb
    go_wp2_with fail
    go_ret2
    refine ⟨G, 1 + n, c, rfl, ?_, hb2⟩
    rw [← HL1.out]
    exact Sl.of_own HOWN.out
end Go.Proofs.YtmejoococajikaaGreat

/- direct.Put and its reference. -/
namespace Go.Proofs.YtmejoococajikaaGreat
open Go.RowKit

theorem plainL_cases (l : List Int) (s : Bool) : ∃ u e, plainL l s = (u, e) ∧ ((e = 0 ∧ u.length = l.length ∧ (I64 l → U64 u)) ∨ (e = 1 ∧ u = [])) := by
  unfold plainL
  cases s
  · rw [if_neg (by simp)]
    unfold mapOk
    split
    · rename_i h
      refine ⟨_, _, rfl, .inl ⟨rfl, by simp, fun hi x hx => ?_⟩⟩
      rw [List.map_id] at hx
      have h1 := hi x hx
      have h2 := List.all_eq_true.1 h x hx
      simp at h2
      omega
    · exact ⟨_, _, rfl, .inr ⟨rfl, rfl⟩⟩
  · rw [if_pos rfl]
    unfold mapOk
    rw [if_pos (by simp)]
    refine ⟨_, _, rfl, .inl ⟨rfl, by simp, fun hi x hx => ?_⟩⟩
    obtain ⟨y, hy, rfl⟩ := List.mem_map.1 hx
    exact zig_range y (hi y hy).1 (hi y hy).2
theorem mostBits_mem (l : List Int) : ∀ y ∈ l, blen y.toNat ≤ mostBits l := by
  have key : ∀ (l : List Int) (m : Nat), m ≤ l.foldl (fun m x => max m (blen x.toNat)) m ∧ ∀ y ∈ l, blen y.toNat ≤ l.foldl (fun m x => max m (blen x.toNat)) m := by
    intro l
    induction l with
    | nil => intro m; exact ⟨Nat.le_refl _, fun y hy => by cases hy⟩
    | cons a t ih =>
      intro m
      obtain ⟨h1, h2⟩ := ih (max m (blen a.toNat))
      rw [List.foldl_cons]
      refine ⟨by omega, fun y hy => ?_⟩
      rcases List.mem_cons.1 hy with rfl | hy
      · omega
      · exact h2 y hy
  exact (key l 0).2
/-- The closest width of the most bits has room for all. -/
theorem most_room (u : List Int) (h : U64 u) : ∃ k : Nat, wClosest (mostBits u) = (k : Int) ∧ 1 ≤ k ∧ k ≤ 64 ∧ u.all (roomB k) = true := by
  have h1 := wClosest_room (mostBits u) (by omega) (by have := mostBits_le u h; omega)
  refine ⟨(wClosest (mostBits u)).toNat, by omega, by omega, by omega, List.all_eq_true.2 fun y hy => ?_⟩
  unfold roomB
  refine decide_eq_true (.inr ?_)
  have h2 := mostBits_mem u y hy
  exact Nat.lt_of_lt_of_le (blen_lt _) (Nat.pow_le_pow_right (by omega) (by omega))
theorem packR_ok (l : List Int) (k : Nat) (hk : k ≤ 64) (hl : l.length ≤ 4096) (hr : l.all (roomB k) = true) : ∃ p, packR l k = (p, 0) ∧ p.length = (l.length * k + 7) / 8 := by
  unfold packR
  rw [if_neg (by omega), if_neg (by omega), Int.toNat_natCast, if_pos hr]
  exact ⟨_, rfl, bytesOf_len _ _⟩
def putD (l : List Int) (s : Bool) : List Int × Int :=
  if (plainL l s).2 ≠ 0 ∨ l.length < 1 ∨ 512 < l.length then ([], 1)
  else (headR 1 (wCode (wClosest (mostBits (plainL l s).1))) l.length ++ (packR (plainL l s).1 (wClosest (mostBits (plainL l s).1))).1, 0)

set_option maxRecDepth 100000 in
set_option maxHeartbeats 1000000 in
theorem DPut_any (w : World) (A : Option Addr) (n cap : Nat) (l : List Int) (hr : Ri w .i64 A n l) (hu : I64 l) (hn : n ≤ 1000000) (s : Bool) (r : List Int) (er : Int) (hl : putD l s = (r, er)) :
    Calls Tryz.prog 80 #[.slice A n cap, .bool s] w (BytesErr w r er) := by
  obtain ⟨u, e, hpl, hcase⟩ := plainL_cases l s
  have HR := Lib.hid hr; have HU := Lib.hid hu; have HP := Lib.hid hpl
  have hlen := hr.len
  unfold putD at hl
  rw [hpl] at hl
  dsimp only at hl
  clear hr hu hpl
  rcases hcase with ⟨rfl, hul, hu6⟩ | ⟨rfl, rfl⟩
  · have hU6 := Lib.hid (hu6 HU.out)
    clear hu6
    by_cases hb : n < 1 ∨ 512 < n
    · rw [if_pos (by omega)] at hl
      injection hl with e1 e2
      subst e1 e2
      go_enter Tryz.func80, Tryz.ntmps80
      go_wp2_with fail
      refine (Plain_any _ _ _ _ l HR.out HU.out hn s u 0 HP.out).mono ?_; rintro e w1 ⟨G, n1, c1, rfl, hs1, hb1⟩
      clear hlen hul
      rcases hb with hb | hb
      all_goals
        go_wp2_with fail
        go_ret2
        exact ⟨none, 0, 0, rfl, Sl.nil _ _, hb1⟩
    · rw [if_neg (by omega)] at hl
      obtain ⟨k, hk, hk1, hk2, hroom⟩ := most_room u hU6.out
      obtain ⟨p, hp, hplen⟩ := packR_ok u k hk2 (by omega) hroom
      rw [hk, hp] at hl
      injection hl with e1 e2
      have HE := Lib.hid (And.intro e1 e2)
      have HK := Lib.hid hk; have HPP := Lib.hid hp
      have hpb : p.length ≤ 4096 := by
        have : u.length * k ≤ 512 * 64 := Nat.mul_le_mul (by omega) hk2
        omega
      clear hk hp hroom e1 e2 hplen
      subst hlen
      go_enter Tryz.func80, Tryz.ntmps80
      go_wp2_with fail
      refine (Plain_any _ _ _ _ l HR.out HU.out hn s u 0 HP.out).mono ?_; rintro e w1 ⟨G, n1, c1, rfl, hs1, hb1⟩
      have h1 := hs1.1.len
      obtain rfl : n1 = l.length := by omega
      clear h1 hul
      have HS1 := Lib.hid hs1; clear hs1
      go_wp2_with fail
      refine (Most_any u _ _ _ _ HS1.out.1 hU6.out (by omega)).mono ?_; rintro e w' ⟨rfl, rfl⟩
      go_wp2_with fail
      refine (Closest_any _ _).mono ?_; rintro e w2 ⟨rfl, hb2⟩
      rw [HK.out]
      go_wp2_with fail
      refine (Pack_any _ _ _ _ u k (HS1.out.1.below hb2) hU6.out (by omega) p 0 HPP.out).mono ?_; rintro e w3 ⟨G3, n3, c3, rfl, hs3, hb3⟩
      go_wp2_with fail
      refine (Code_any _ _).mono ?_; rintro e w4 ⟨rfl, hb4⟩
      go_wp2_with fail
      refine (Head_any _ _ _ _).mono ?_; rintro e w5 ⟨G5, n5, c5, rfl, hs5, hb5⟩
      have hn5 := hs5.1.len
      have hn3 := hs3.1.len
      have hl5 : (headR 1 (wCode (k : Int)) (l.length : Int)).length ≤ 2 := by unfold headR; split <;> simp
      go_wp2_with fail
      refine (Concat_any _ _ _ _ _ _ _ _ _ _ (Blk.new w5 _ _) (hs5.1.alloc _) (((hs3.1.below hb4).below hb5).alloc _) (by omega) (by omega)).mono ?_; rintro e w6 ⟨G6, n6, c6, rfl, hs6, hb6⟩
      go_wp2_with fail
      go_ret2
      obtain ⟨e1, e2⟩ := HE.out
      subst e1 e2
      exact ⟨_, _, _, rfl, hs6, on (on (on (on (on hb1 hb2) hb3) hb4) hb5) (on ((Below.refl w5.heap.size w5).alloc (Nat.le_refl _) _) hb6)⟩
  · rw [if_pos (.inl (by decide))] at hl
    injection hl with e1 e2
    subst e1 e2
    go_enter Tryz.func80, Tryz.ntmps80
    go_wp2_with fail
    refine (Plain_any _ _ _ _ l HR.out HU.out hn s [] 1 HP.out).mono ?_; rintro e w1 ⟨G, n1, c1, rfl, hs1, hb1⟩
    go_wp2_with fail
    go_ret2
    exact ⟨none, 0, 0, rfl, Sl.nil _ _, hb1⟩
end Go.Proofs.YtmejoococajikaaGreat

/- The reference of widths.Bits and widths.Most. -/
namespace Go.Proofs.YtmejoococajikaaGreat
open Go.RowKit

set_option maxRecDepth 100000 in
set_option maxHeartbeats 400000 in
theorem refBits_any (x : Nat) (w : World) (h1 : x < 18446744073709551616) :
    Calls Tryz.prog 86 #[.int .u64 x] w fun e w' => e = .returned (.int .i64 (blen x)) ∧ w = w' := by
  go_enter Tryz.func86, Tryz.ntmps86
  go_wp2_with fail
  go_loop [0, 3] (fun y n => ∃ k m : Nat, k ≤ 64 ∧ n = .int .i64 k ∧ y = .int .u64 m ∧ m ≤ x ∧ Hid (m = x / 2 ^ k) ∧ Hid (k = 0 ∨ 2 ^ (k - 1) ≤ x)) (fun y _ => (intOf y).toNat)
  case atStart => exact ⟨0, x, Nat.zero_le _, rfl, rfl, by omega, Lib.hid (by simp), .inl rfl⟩
  case round =>
    obtain ⟨k, m, hk, rfl, rfl, hm, hmo, hlo⟩ := hrel
    by_cases hz : 0 < m
    · have hk64 : k < 64 := by
        by_cases e : k = 64
        · subst e
          have : m = 0 := by rw [hmo.out]; exact Nat.div_eq_of_lt (by omega)
          omega
        · omega
      go_wp2
      go_round
      case rel =>
        refine ⟨k + 1, m / 2, by omega, by go_num, rfl, by omega, Lib.hid (by rw [hmo.out, div2_pow]), .inr ?_⟩
        have : 1 ≤ x / 2 ^ k := by rw [← hmo.out]; exact hz
        have := (Nat.le_div_iff_mul_le (Nat.two_pow_pos k)).1 this
        simpa using this
      case measure => simp [intOf]; omega
    · go_wp2
      go_ret
      refine ⟨ret_int ?_, rfl⟩
      have h0 : x / 2 ^ k = 0 := by rw [← hmo.out]; omega
      have h2 : x < 2 ^ k := by
        rcases (Nat.div_eq_zero_iff).1 h0 with h | h
        · have := Nat.two_pow_pos k; omega
        · exact h
      rw [blen_of x k h2 hlo.out]

set_option maxRecDepth 100000 in
set_option maxHeartbeats 400000 in
theorem refMost_any (l : List Int) (A : Option Addr) (n cap : Nat) (w : World) (hr : Ri w .u64 A n l) (hu : U64 l) (hc : n ≤ 9223372036854775807) :
    Calls Tryz.prog 88 #[.slice A n cap] w fun e w' => e = .returned (.int .i64 (mostBits l)) ∧ w = w' := by
  have HN := Lib.hid hr.len
  have HR := Lib.hid hr; clear hr
  have HU := Lib.hid hu; clear hu
  go_enter Tryz.func88, Tryz.ntmps88
  go_wp2_with fail
  go_loop [3, 4] (fun a i => ∃ k m : Nat, k ≤ n ∧ i = .int .i64 k ∧ a = .int .i64 m ∧ m ≤ 64 ∧ Hid (m = mostBits (l.take k))) (fun _ i => n - (intOf i).toNat)
  case atStart => exact ⟨0, 0, Nat.zero_le _, rfl, rfl, by omega, Lib.hid (by simp [mostBits])⟩
  case round =>
    obtain ⟨k, m, hk, rfl, rfl, hm, hmo⟩ := hrel
    by_cases hlt : k < n
    · have hkl : k < l.length := by rw [HN.out]; exact hlt
      obtain ⟨b, o, hA, _, hcell⟩ := HR.out.at_ hlt
      subst hA
      have hy := HU.out _ (getD_mem l k hkl)
      obtain ⟨y, hyy⟩ : ∃ y : Nat, (y : Int) = l.getD k 0 := ⟨(l.getD k 0).toNat, by omega⟩
      rw [← hyy] at hcell hy
      obtain ⟨_, hy1⟩ := hy
      have HY := Lib.hid hyy; clear hyy hkl
      have hb := blen_64 y (by omega)
      go_wp2_with fail
      refine (refBits_any _ _ (by omega)).mono ?_
      rintro e w' ⟨rfl, rfl⟩
      obtain ⟨t, ht⟩ : ∃ t, t = blen y := ⟨_, rfl⟩
      rw [← ht] at hb ⊢
      have HT := Lib.hid ht; clear ht
      by_cases hmt : m ≤ t
      · go_wp2_with fail
        go_round
        case rel =>
          refine ⟨k + 1, max m t, by omega, by go_num, by go_num, by omega, Lib.hid ?_⟩
          rw [take_snoc l k (by rw [HN.out]; exact hlt), mostBits_snoc, ← hmo.out, ← HY.out, Int.toNat_natCast, ← HT.out]
        case measure => simp [intOf]; omega
      · go_wp2_with fail
        go_round
        case rel =>
          refine ⟨k + 1, max m t, by omega, by go_num, by go_num, by omega, Lib.hid ?_⟩
          rw [take_snoc l k (by rw [HN.out]; exact hlt), mostBits_snoc, ← hmo.out, ← HY.out, Int.toNat_natCast, ← HT.out]
        case measure => simp [intOf]; omega
    · go_wp2_with fail
      go_ret
      refine ⟨ret_int ?_, rfl⟩
      rw [hmo.out, List.take_of_length_le (by rw [HN.out]; omega)]
end Go.Proofs.YtmejoococajikaaGreat

/- The reference of direct.Put. -/
namespace Go.Proofs.YtmejoococajikaaGreat
open Go.RowKit

set_option maxRecDepth 100000 in
set_option maxHeartbeats 1000000 in
theorem refDPut_any (w : World) (A : Option Addr) (n cap : Nat) (l : List Int) (hr : Ri w .i64 A n l) (hu : I64 l) (hn : n ≤ 1000000) (s : Bool) (r : List Int) (er : Int) (hl : putD l s = (r, er)) :
    Calls Tryz.prog 60 #[.slice A n cap, .bool s] w (BytesErr w r er) := by
  obtain ⟨u, e, hpl, hcase⟩ := plainL_cases l s
  have HR := Lib.hid hr; have HU := Lib.hid hu; have HP := Lib.hid hpl
  have hlen := hr.len
  unfold putD at hl
  rw [hpl] at hl
  dsimp only at hl
  clear hr hu hpl
  rcases hcase with ⟨rfl, hul, hu6⟩ | ⟨rfl, rfl⟩
  · have hU6 := Lib.hid (hu6 HU.out)
    clear hu6
    by_cases hb : n < 1 ∨ 512 < n
    · rw [if_pos (by omega)] at hl
      injection hl with e1 e2
      subst e1 e2
      go_enter Tryz.func60, Tryz.ntmps60
      go_wp2_with fail
      refine (refPlain8_any _ _ _ _ l HR.out HU.out hn s u 0 HP.out).mono ?_; rintro e w1 ⟨G, n1, c1, rfl, hs1, hb1⟩
      clear hlen hul
      rcases hb with hb | hb
      all_goals
        go_wp2_with fail
        go_ret2
        exact ⟨none, 0, 0, rfl, Sl.nil _ _, hb1⟩
    · rw [if_neg (by omega)] at hl
      obtain ⟨k, hk, hk1, hk2, hroom⟩ := most_room u hU6.out
      obtain ⟨p, hp, hplen⟩ := packR_ok u k hk2 (by omega) hroom
      rw [hk, hp] at hl
      injection hl with e1 e2
      have HE := Lib.hid (And.intro e1 e2)
      have HK := Lib.hid hk; have HPP := Lib.hid hp
      have hpb : p.length ≤ 4096 := by
        have : u.length * k ≤ 512 * 64 := Nat.mul_le_mul (by omega) hk2
        omega
      clear hk hp hroom e1 e2 hplen
      subst hlen
      go_enter Tryz.func60, Tryz.ntmps60
      go_wp2_with fail
      refine (refPlain8_any _ _ _ _ l HR.out HU.out hn s u 0 HP.out).mono ?_; rintro e w1 ⟨G, n1, c1, rfl, hs1, hb1⟩
      have h1 := hs1.1.len
      obtain rfl : n1 = l.length := by omega
      clear h1 hul
      have HS1 := Lib.hid hs1; clear hs1
      go_wp2_with fail
      refine (refMost_any u _ _ _ _ HS1.out.1 hU6.out (by omega)).mono ?_; rintro e w' ⟨rfl, rfl⟩
      go_wp2_with fail
      refine (refClosest_any _ _).mono ?_; rintro e w' ⟨rfl, rfl⟩
      rw [HK.out]
      go_wp2_with fail
      refine (refPack_any _ _ _ _ u k HS1.out.1 hU6.out (by omega) p 0 HPP.out).mono ?_; rintro e w3 ⟨G3, n3, c3, rfl, hs3, hb3⟩
      go_wp2_with fail
      refine (refCode_any _ _).mono ?_; rintro e w' ⟨rfl, rfl⟩
      go_wp2_with fail
      refine (refHead_any _ _ _ _).mono ?_; rintro e w5 ⟨G5, n5, c5, rfl, hs5, hb5⟩
      have hn5 := (Ri.of_own hs5.out).len
      have hn3 := hs3.1.len
      have hl5 : (headR 1 (wCode (k : Int)) (l.length : Int)).length ≤ 2 := by unfold headR; split <;> simp
      have hz5 := hb5.size
      go_wp2_with (at_builtin; refine wpList_u8 _ rfl _ _ rfl w3.heap.size _ _ _ rfl hs5.out _ _ _ p rfl (hs3.1.below hb5) (by omega) (by omega) ?_; intro G6 c6 w6 hown hgr _)
      have hb6 := push0 hb5 (Nat.le_refl _) hs5.out hgr
      have HS6 := Lib.hid (Sl.of_own hown)
      clear hown hgr
      go_wp2_with fail
      go_ret2
      obtain ⟨e1, e2⟩ := HE.out
      subst e1 e2
      exact ⟨_, _, _, rfl, HS6.out, on (on hb1 hb3) hb6⟩
  · rw [if_pos (.inl (by decide))] at hl
    injection hl with e1 e2
    subst e1 e2
    go_enter Tryz.func60, Tryz.ntmps60
    go_wp2_with fail
    refine (refPlain8_any _ _ _ _ l HR.out HU.out hn s [] 1 HP.out).mono ?_; rintro e w1 ⟨G, n1, c1, rfl, hs1, hb1⟩
    go_wp2_with fail
    go_ret2
    exact ⟨none, 0, 0, rfl, Sl.nil _ _, hb1⟩
end Go.Proofs.YtmejoococajikaaGreat

/- The reference of a number a few times: Made and Put. -/
namespace Go.Proofs.YtmejoococajikaaGreat
open Go.RowKit

set_option maxRecDepth 100000 in
set_option maxHeartbeats 1000000 in
theorem refPut_any (x t : Int) (s : Bool) (w : World) (h0 : -9223372036854775808 ≤ x) (h1 : x < 9223372036854775808) (l : List Int) (er : Int) (hl : putR x t s = (l, er)) :
    Calls Tryz.prog 58 #[.int .i64 x, .int .i64 t, .bool s] w (BytesErr w l er) := by
  by_cases hbad : t < 3 ∨ 10 < t ∨ (s = false ∧ x < 0)
  · unfold putR at hl
    rw [if_pos hbad] at hl
    injection hl with hl1 hl2
    subst hl1 hl2
    have hd : (3 ≤ t ∧ t ≤ 10 ∧ (s || decide (0 ≤ x)) = false) ∨ t < 3 ∨ 10 < t := by
      cases s
      · simp at hbad ⊢; omega
      · simp at hbad ⊢; omega
    clear hbad
    go_enter Tryz.func58, Tryz.ntmps58
    go_wp2_with fail
    refine (refPlain_any _ _ _ h0 h1).mono ?_; rintro e w' ⟨rfl, rfl⟩
    generalize (s || decide (0 ≤ x)) = ok at *
    generalize (if s = true then zig x else max x 0) = u at *
    rcases hd with ⟨ht1, ht2, rfl⟩ | ht | ht
    all_goals
      go_wp2_with fail
      go_ret2
      exact ⟨none, 0, 0, rfl, Sl.nil _ _, Below.refl _ _⟩
  · have hok : (s || decide (0 ≤ x)) = true := by
      cases s
      · simp at hbad ⊢; omega
      · rfl
    have hu : (if s then zig x else max x 0) = plainU x s := by
      unfold plainU
      cases s
      · simp only [Bool.false_eq_true, if_false]
        simp at hok; omega
      · rfl
    have hur : 0 ≤ plainU x s ∧ plainU x s < 18446744073709551616 := by
      have := zig_range x h0 h1
      unfold plainU
      cases s <;> simp at hok ⊢ <;> omega
    obtain ⟨u, huu⟩ : ∃ u : Nat, (u : Int) = plainU x s := ⟨(plainU x s).toNat, by omega⟩
    unfold putR at hl
    rw [if_neg hbad, ← huu, Int.toNat_natCast] at hl
    injection hl with hl1 hl2
    subst hl2
    have ht1 : 3 ≤ t := by omega
    have ht2 : t ≤ 10 := by omega
    have hul : u < 18446744073709551616 := by omega
    clear hbad hur
    have hln := longN_range u hul
    obtain ⟨n, hn⟩ : ∃ n, n = longN u := ⟨_, rfl⟩
    rw [← hn] at hln hl1
    unfold longN at hn
    have HL1 := Lib.hid hl1; clear hl1
    obtain ⟨i0, hi, hz0, hz1, hz2⟩ := info_parts info_u8
    go_enter Tryz.func58, Tryz.ntmps58
    go_wp2_with fail
    refine (refPlain_any _ _ _ h0 h1).mono ?_; rintro e w' ⟨rfl, rfl⟩
    rw [hu, ← huu, hok]
    clear hu hok huu
    go_wp2_with fail
    refine (refBits_any _ _ hul).mono ?_; rintro e w' ⟨rfl, rfl⟩
    have hbl := blen_64 u hul
    generalize blen u = b at *
    have hcase : ((1 : Int) < ((b : Int) + 7) / 8 ∧ Hid ((n : Int) = ((b : Int) + 7) / 8)) ∨ (((b : Int) + 7) / 8 ≤ 1 ∧ Hid ((n : Int) = 1)) := by
      rcases Nat.lt_or_ge 8 b with h | h
      · refine .inl ⟨by omega, ?_⟩
        show (n : Int) = _; omega
      · refine .inr ⟨by omega, ?_⟩
        show (n : Int) = 1; omega
    clear hn
    rcases hcase with ⟨hc, HN⟩ | ⟨hc, HN⟩
    all_goals
      go_wp2_with fail
      go_loopw [11, 12] (fun v i wr => ∃ (k p : Nat) (acc : List Int), k + p = n ∧ i = .int .i64 ((p : Int) - 1) ∧ Hid (acc ++ hiB u p = l) ∧ Hid (wr.ownsRow w.heap.size 5 1 v (1 + k) (acc.map (Value.int .u8))) ∧ Below w.heap.size w wr) (fun _ i _ => (intOf i + 1).toNat)
      case atStart =>
        refine ⟨0, n, [8 * ((n : Int) - 1) + t - 3], by omega, (by rw [HN.out] <;> rfl), Lib.hid (by rw [← HL1.out]; rfl), Lib.hid ?_, (Below.refl _ _).alloc (Nat.le_refl _) _⟩
        have h := World.ownsRow_lit (base := w.heap.size) (e := 5) (size := 1) w #[.int .u8 (8 * ((n : Int) - 1) + t - 3)] 1 (Nat.le_refl _) (by unfold maxLen; omega) rfl
        rw [HN.out] at h ⊢
        first | exact h | (simpa using h)
      case round =>
        obtain ⟨k, p, acc, hk, rfl, hacc, ho, hbw⟩ := hrel
        have hsz := hbw.size
        by_cases hp : 0 < p
        · obtain ⟨q, rfl⟩ : ∃ q, p = q + 1 := ⟨p - 1, by omega⟩
          go_wp2_with (at_builtin; refine wpList_append_any _ rfl _ _ 38 rfl w.heap.size 5 i0 (.int .u8 0) 1 1 Tryz.underlying38 hi hz0 hz1 hz2 rfl (by decide) _ _ _ rfl (ho.out.alloc _) _ 1 _ [.int .u8 (↑u / 2 ^ (8 * q) % 256)] rfl (Rd.one _ _ _) (by intro u hu; simp at hu; subst hu; rfl) (by unfold maxLen; omega) (by omega) (by simp; omega) ?_; intro G cap w1 hown1 hgr _ _)
          have HOWN := Lib.hid hown1; clear hown1
          go_wp2_with fail
          go_roundw
          case rel =>
            refine ⟨k + 1, q, acc ++ [(u : Int) / 2 ^ (8 * q) % 256], by omega, rfl, Lib.hid ?_, Lib.hid ?_, push_ hbw (Nat.le_refl _) ho.out hgr⟩
            · rw [← hacc.out, List.append_assoc]; rfl
            · rw [List.map_append]; exact HOWN.out
          case measure => simp [intOf]
        · obtain rfl : p = 0 := by omega
          have ha : acc = l := by have := hacc.out; simpa [hiB] using this
          have ho' := ho.out
          rw [ha] at ho'
          have HO' := Lib.hid ho'
          clear ha ho' ho hacc
          go_wp2_with fail
          go_ret2
          obtain ⟨G, c, rfl⟩ := own_form HO'.out
          exact ⟨G, 1 + k, c, rfl, Sl.of_own HO'.out, hbw⟩
end Go.Proofs.YtmejoococajikaaGreat

/- Plain laws on what repeat lays down. -/
namespace Go.Proofs.YtmejoococajikaaGreat
open Go.RowKit

theorem hiB_u8 (u k : Nat) : U8 (hiB u k) := by
  induction k with
  | zero => intro x hx; cases hx
  | succ k ih =>
    intro x hx
    rcases List.mem_cons.1 hx with rfl | h
    · exact ⟨Int.emod_nonneg _ (by omega), Int.emod_lt_of_pos _ (by omega)⟩
    · exact ih x h
theorem putR_u8 (x t : Int) (s : Bool) (hx0 : -9223372036854775808 ≤ x) (hx1 : x < 9223372036854775808) : U8 (putR x t s).1 := by
  unfold putR
  split
  · intro x hx; cases hx
  · rename_i h
    have hz := zig_range x hx0 hx1
    have hu : plainU x s < 18446744073709551616 := by unfold plainU; split <;> omega
    have := longN_range (plainU x s).toNat (by omega)
    intro y hy
    rcases List.mem_cons.1 hy with rfl | h'
    · omega
    · exact hiB_u8 _ _ y h'
theorem putR_er (x t : Int) (s : Bool) : 0 ≤ (putR x t s).2 ∧ (putR x t s).2 ≤ 1 := by
  unfold putR; split <;> simp
end Go.Proofs.YtmejoococajikaaGreat

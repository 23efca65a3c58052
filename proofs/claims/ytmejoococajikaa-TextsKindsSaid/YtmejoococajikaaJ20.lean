/- Joined texts: Head, Direct. Each has its own head line. No condition beyond those that its theorems state. -/
import Derived.Handy
import Derived.Test.YtmejoococajikaaJ07
import Derived.Test.YtmejoococajikaaJ17
import Derived.Test.YtmejoococajikaaJ19
import Derived.Test.YtmejoococajikaaJ11
set_option linter.unusedVariables false

/- direct.Head and direct.Look, and their references. -/
namespace Go.Proofs.Ytmejoococajikaa
open Go.RowKit

theorem i64_of (m : Nat) (h : m < 2 ^ 63) : (BitVec.ofInt 64 (m : Int)).toNat = m := by
  rw [BitVec.ofInt_natCast, BitVec.toNat_ofNat]; exact Nat.mod_eq_of_lt (by omega)
theorem i64_or_at (a b k : Nat) (hb : b < 2 ^ k) (h : a * 2 ^ k + b < 2 ^ 63) : bits .or .i64 ((a * 2 ^ k : Nat) : Int) (b : Int) = ((a * 2 ^ k + b : Nat) : Int) := by
  show IntKind.i64.wrap ((BitVec.ofInt 64 ((a * 2 ^ k : Nat) : Int) ||| BitVec.ofInt 64 (b : Int)).toNat : Int) = _
  rw [BitVec.toNat_or, i64_of _ (by omega), i64_of _ (by omega), Nat.mul_comm a, ← Nat.two_pow_add_eq_or_of_lt hb a, IntKind.wrap_i64]
  rw [Nat.mul_comm (2 ^ k) a]
  omega
theorem i64_and_low (a k : Nat) (ha : a < 2 ^ 63) (hk : k < 63) : bits .and .i64 (a : Int) ((2 ^ k - 1 : Nat) : Int) = ((a % 2 ^ k : Nat) : Int) := by
  show IntKind.i64.wrap ((BitVec.ofInt 64 (a : Int) &&& BitVec.ofInt 64 ((2 ^ k - 1 : Nat) : Int)).toNat : Int) = _
  have h1 : 2 ^ k < 2 ^ 63 := Nat.pow_lt_pow_right (by omega) hk
  have h2 : a % 2 ^ k ≤ a := Nat.mod_le _ _
  rw [BitVec.toNat_and, i64_of _ ha, i64_of _ (by omega), Nat.and_two_pow_sub_one_eq_mod, IntKind.wrap_i64]
  omega
theorem Sl_lit (w : World) (k : IntKind) (l : List Int) (t : TypeId) (cs : Array Value) (hcs : cs = (l.map (Value.int k)).toArray) (n : Nat) (hn : l.length = n) (hs : n ≤ 1000000) :
    Sl (w.alloc (.cells cs t)) k (some ⟨w.heap.size, 0, none⟩) n n l := by
  subst hcs
  refine ⟨⟨by simpa using hn, fun _ => ⟨w.heap.size, 0, rfl, by simp, fun j u hu => ?_⟩⟩, Nat.le_refl _, by omega⟩
  rw [(Blk.new w t _).cell]; simpa using hu

/-- A head: two bytes, or none. -/
def headR (kind code many : Int) : List Int :=
  if 0 ≤ kind ∧ kind ≤ 3 ∧ 0 ≤ code ∧ code < 32 ∧ 1 ≤ many ∧ many ≤ 512 then [(16384 * kind + 512 * code + many - 1) / 256, (16384 * kind + 512 * code + many - 1) % 256] else []
theorem head_bits (k c m : Int) (h1 : 0 ≤ k) (h2 : k ≤ 3) (h3 : 0 ≤ c) (h4 : c < 32) (h5 : 1 ≤ m) (h6 : m ≤ 512) :
    bits BinOp.or IntKind.i64 (bits BinOp.or IntKind.i64 (k * 16384) (c * 512)) (m - 1) = 16384 * k + 512 * c + m - 1 := by
  have e1 := i64_or_at k.toNat (c.toNat * 512) 14 (by omega) (by omega)
  rw [show ((k.toNat * 2 ^ 14 : Nat) : Int) = k * 16384 from by omega, show ((c.toNat * 512 : Nat) : Int) = c * 512 from by omega] at e1
  have e2 := i64_or_at (k.toNat * 32 + c.toNat) (m - 1).toNat 9 (by omega) (by omega)
  rw [e1, show (((k.toNat * 2 ^ 14 + c.toNat * 512 : Nat)) : Int) = (((k.toNat * 32 + c.toNat) * 2 ^ 9 : Nat) : Int) from by omega, show m - 1 = ((m - 1).toNat : Int) from by omega, e2]
  omega

set_option maxRecDepth 100000 in
set_option maxHeartbeats 1000000 in
theorem Head_any (w : World) (k c m : Int) :
    Calls Try.prog 51 #[.int .i64 k, .int .i64 c, .int .i64 m] w (BytesOut w (headR k c m)) := by
  by_cases hall : 0 ≤ k ∧ k ≤ 3 ∧ 0 ≤ c ∧ c < 32 ∧ 1 ≤ m ∧ m ≤ 512
  · have hE := Lib.hid (show headR k c m = _ from if_pos hall)
    obtain ⟨h1, h2, h3, h4, h5, h6⟩ := hall
    have hb := Lib.hid (head_bits k c m h1 h2 h3 h4 h5 h6)
    go_enter Try.func51, Try.ntmps51
    go_wp2_with fail
    go_ret
    rw [hE.out, hb.out]
    exact ⟨_, 2, 2, rfl, Sl_lit w .u8 _ _ _ (by simp; omega) 2 rfl (by omega), (Below.refl w.heap.size w).alloc (Nat.le_refl _) _⟩
  · have hE := Lib.hid (show headR k c m = _ from if_neg hall)
    go_enter Try.func51, Try.ntmps51
    go_wp2_with fail
    all_goals
      go_ret
      rw [hE.out]
      exact ⟨none, 0, 0, rfl, Sl.nil _ _, Below.refl _ _⟩
/-- Bytes of the call's own are handed back. -/
def OwnOut (w : World) (l : List Int) (e : Ending) (w' : World) : Prop :=
  ∃ G n c, e = .returned (.slice G n c) ∧ Hid (w'.ownsRow w.heap.size 5 1 (.slice G n c) n (l.map (Value.int .u8))) ∧ Below w.heap.size w w'
def lookR (b : List Int) : Int × Int × Int × List Int × Int :=
  if b.length < 2 then (0, 0, 0, [], 2)
  else ((256 * b.getD 0 0 + b.getD 1 0) / 16384, (256 * b.getD 0 0 + b.getD 1 0) / 512 % 32, (256 * b.getD 0 0 + b.getD 1 0) % 512 + 1, b.drop 2, 0)
/-- Three numbers, bytes and an error's number are handed back. -/
def LookOut (w : World) (x y z : Int) (l : List Int) (er : Int) (e : Ending) (w' : World) : Prop :=
  ∃ G n c, e = .returned (.tuple #[.int .i64 x, .int .i64 y, .int .i64 z, .slice G n c, .int .i64 er]) ∧ Sl w' .u8 G n c l ∧ Below w.heap.size w w'
theorem look_bits (x y : Int) (hx : 0 ≤ x ∧ x < 256) (hy : 0 ≤ y ∧ y < 256) : bits BinOp.or IntKind.i64 (x * 256) y = 256 * x + y ∧ bits BinOp.and IntKind.i64 ((256 * x + y) / 512) 31 = (256 * x + y) / 512 % 32 ∧ bits BinOp.and IntKind.i64 (256 * x + y) 511 = (256 * x + y) % 512 := by
  refine ⟨?_, ?_, ?_⟩
  · have e := i64_or_at x.toNat y.toNat 8 (by omega) (by omega)
    rw [show ((x.toNat * 2 ^ 8 : Nat) : Int) = x * 256 from by omega, show (y.toNat : Int) = y from by omega] at e
    rw [e]; omega
  · have e := i64_and_low ((256 * x + y) / 512).toNat 5 (by omega) (by omega)
    rw [show ((((256 * x + y) / 512).toNat : Nat) : Int) = (256 * x + y) / 512 from by omega] at e
    rw [show (31 : Int) = ((2 ^ 5 - 1 : Nat) : Int) from rfl, e]; omega
  · have e := i64_and_low (256 * x + y).toNat 9 (by omega) (by omega)
    rw [show (((256 * x + y).toNat : Nat) : Int) = 256 * x + y from by omega] at e
    rw [show (511 : Int) = ((2 ^ 9 - 1 : Nat) : Int) from rfl, e]; omega
theorem getD_byte {l : List Int} (h : U8 l) (i : Nat) : 0 ≤ l.getD i 0 ∧ l.getD i 0 < 256 := by
  rcases Nat.lt_or_ge i l.length with h1 | h1
  · exact h _ (by simp [List.getD, List.getElem?_eq_getElem h1])
  · simp [List.getD, List.getElem?_eq_none h1]

end Go.Proofs.Ytmejoococajikaa

/- direct.Put and its reference. -/
namespace Go.Proofs.Ytmejoococajikaa
open Go.RowKit

theorem plainL_cases (l : List Int) (s : Bool) : ∃ u e, plainL l s = (u, e) ∧ ((e = 0 ∧ u.length = l.length ∧ (I64 l → U64 u)) ∨ (e = 1 ∧ u = [])) := by
  unfold plainL
  cases s
  · rw [if_neg (by simp)]
    unfold mapOk
    split
    · rename_i h
      refine ⟨_, _, rfl, .inl ⟨rfl, by simp, fun hi x hx => ?_⟩⟩
      rw [List.map_id] at hx
      have h1 := hi x hx
      have h2 := List.all_eq_true.1 h x hx
      simp at h2
      omega
    · exact ⟨_, _, rfl, .inr ⟨rfl, rfl⟩⟩
  · rw [if_pos rfl]
    unfold mapOk
    rw [if_pos (by simp)]
    refine ⟨_, _, rfl, .inl ⟨rfl, by simp, fun hi x hx => ?_⟩⟩
    obtain ⟨y, hy, rfl⟩ := List.mem_map.1 hx
    exact zig_range y (hi y hy).1 (hi y hy).2
theorem mostBits_mem (l : List Int) : ∀ y ∈ l, blen y.toNat ≤ mostBits l := by
  have key : ∀ (l : List Int) (m : Nat), m ≤ l.foldl (fun m x => max m (blen x.toNat)) m ∧ ∀ y ∈ l, blen y.toNat ≤ l.foldl (fun m x => max m (blen x.toNat)) m := by
    intro l
    induction l with
    | nil => intro m; exact ⟨Nat.le_refl _, fun y hy => by cases hy⟩
    | cons a t ih =>
      intro m
      obtain ⟨h1, h2⟩ := ih (max m (blen a.toNat))
      rw [List.foldl_cons]
      refine ⟨by omega, fun y hy => ?_⟩
      rcases List.mem_cons.1 hy with rfl | hy
      · omega
      · exact h2 y hy
  exact (key l 0).2
/-- The closest width of the most bits has room for all. -/
theorem most_room (u : List Int) (h : U64 u) : ∃ k : Nat, wClosest (mostBits u) = (k : Int) ∧ 1 ≤ k ∧ k ≤ 64 ∧ u.all (roomB k) = true := by
  have h1 := wClosest_room (mostBits u) (by omega) (by have := mostBits_le u h; omega)
  refine ⟨(wClosest (mostBits u)).toNat, by omega, by omega, by omega, List.all_eq_true.2 fun y hy => ?_⟩
  unfold roomB
  refine decide_eq_true (.inr ?_)
  have h2 := mostBits_mem u y hy
  exact Nat.lt_of_lt_of_le (blen_lt _) (Nat.pow_le_pow_right (by omega) (by omega))
theorem packR_ok (l : List Int) (k : Nat) (hk : k ≤ 64) (hl : l.length ≤ 4096) (hr : l.all (roomB k) = true) : ∃ p, packR l k = (p, 0) ∧ p.length = (l.length * k + 7) / 8 := by
  unfold packR
  rw [if_neg (by omega), if_neg (by omega), Int.toNat_natCast, if_pos hr]
  exact ⟨_, rfl, bytesOf_len _ _⟩
def putD (l : List Int) (s : Bool) : List Int × Int :=
  if (plainL l s).2 ≠ 0 ∨ l.length < 1 ∨ 512 < l.length then ([], 1)
  else (headR 1 (wCode (wClosest (mostBits (plainL l s).1))) l.length ++ (packR (plainL l s).1 (wClosest (mostBits (plainL l s).1))).1, 0)

set_option maxRecDepth 100000 in
set_option maxHeartbeats 1000000 in
theorem DPut_any (w : World) (A : Option Addr) (n cap : Nat) (l : List Int) (hr : Ri w .i64 A n l) (hu : I64 l) (hn : n ≤ 1000000) (s : Bool) (r : List Int) (er : Int) (hl : putD l s = (r, er)) :
    Calls Try.prog 32 #[.slice A n cap, .bool s] w (BytesErr w r er) := by
  obtain ⟨u, e, hpl, hcase⟩ := plainL_cases l s
  have HR := Lib.hid hr; have HU := Lib.hid hu; have HP := Lib.hid hpl
  have hlen := hr.len
  unfold putD at hl
  rw [hpl] at hl
  dsimp only at hl
  clear hr hu hpl
  rcases hcase with ⟨rfl, hul, hu6⟩ | ⟨rfl, rfl⟩
  · have hU6 := Lib.hid (hu6 HU.out)
    clear hu6
    by_cases hb : n < 1 ∨ 512 < n
    · rw [if_pos (by omega)] at hl
      injection hl with e1 e2
      subst e1 e2
      go_enter Try.func32, Try.ntmps32
      go_wp2_with fail
      refine (Plain_any _ _ _ _ l HR.out HU.out hn s u 0 HP.out).mono ?_; rintro e w1 ⟨G, n1, c1, rfl, hs1, hb1⟩
      clear hlen hul
      rcases hb with hb | hb
      all_goals
        go_wp2_with fail
        go_ret2
        exact ⟨none, 0, 0, rfl, Sl.nil _ _, hb1⟩
    · rw [if_neg (by omega)] at hl
      obtain ⟨k, hk, hk1, hk2, hroom⟩ := most_room u hU6.out
      obtain ⟨p, hp, hplen⟩ := packR_ok u k hk2 (by omega) hroom
      rw [hk, hp] at hl
      injection hl with e1 e2
      have HE := Lib.hid (And.intro e1 e2)
      have HK := Lib.hid hk; have HPP := Lib.hid hp
      have hpb : p.length ≤ 4096 := by
        have : u.length * k ≤ 512 * 64 := Nat.mul_le_mul (by omega) hk2
        omega
      clear hk hp hroom e1 e2 hplen
      subst hlen
      go_enter Try.func32, Try.ntmps32
      go_wp2_with fail
      refine (Plain_any _ _ _ _ l HR.out HU.out hn s u 0 HP.out).mono ?_; rintro e w1 ⟨G, n1, c1, rfl, hs1, hb1⟩
      have h1 := hs1.1.len
      obtain rfl : n1 = l.length := by omega
      clear h1 hul
      have HS1 := Lib.hid hs1; clear hs1
      go_wp2_with fail
      refine (Most_any u _ _ _ _ HS1.out.1 hU6.out (by omega)).mono ?_; rintro e w' ⟨rfl, rfl⟩
      go_wp2_with fail
      refine (Closest_any _ _).mono ?_; rintro e w2 ⟨rfl, hb2⟩
      rw [HK.out]
      go_wp2_with fail
      refine (Pack_any _ _ _ _ u k (HS1.out.1.below hb2) hU6.out (by omega) p 0 HPP.out).mono ?_; rintro e w3 ⟨G3, n3, c3, rfl, hs3, hb3⟩
      go_wp2_with fail
      refine (Code_any _ _).mono ?_; rintro e w4 ⟨rfl, hb4⟩
      go_wp2_with fail
      refine (Head_any _ _ _ _).mono ?_; rintro e w5 ⟨G5, n5, c5, rfl, hs5, hb5⟩
      have hn5 := hs5.1.len
      have hn3 := hs3.1.len
      have hl5 : (headR 1 (wCode (k : Int)) (l.length : Int)).length ≤ 2 := by unfold headR; split <;> simp
      go_wp2_with fail
      refine (Concat_any _ _ _ _ _ _ _ _ _ _ (Blk.new w5 _ _) (hs5.1.alloc _) (((hs3.1.below hb4).below hb5).alloc _) (by omega) (by omega)).mono ?_; rintro e w6 ⟨G6, n6, c6, rfl, hs6, hb6⟩
      go_wp2_with fail
      go_ret2
      obtain ⟨e1, e2⟩ := HE.out
      subst e1 e2
      exact ⟨_, _, _, rfl, hs6, on (on (on (on (on hb1 hb2) hb3) hb4) hb5) (on ((Below.refl w5.heap.size w5).alloc (Nat.le_refl _) _) hb6)⟩
  · rw [if_pos (.inl (by decide))] at hl
    injection hl with e1 e2
    subst e1 e2
    go_enter Try.func32, Try.ntmps32
    go_wp2_with fail
    refine (Plain_any _ _ _ _ l HR.out HU.out hn s [] 1 HP.out).mono ?_; rintro e w1 ⟨G, n1, c1, rfl, hs1, hb1⟩
    go_wp2_with fail
    go_ret2
    exact ⟨none, 0, 0, rfl, Sl.nil _ _, hb1⟩
end Go.Proofs.Ytmejoococajikaa

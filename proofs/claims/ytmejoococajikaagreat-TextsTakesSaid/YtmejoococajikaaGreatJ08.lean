/- Joined texts: Zig, Ref7, Head, VarPut. Each has its own head line. No condition beyond those that its theorems state. -/
import Derived.PlainAid
import Derived.Handy
import Derived.Test.YtmejoococajikaaGreatProg
import Derived.Test.YtmejoococajikaaGreatJ01
import Derived.Test.YtmejoococajikaaGreatJ04
import Derived.Test.YtmejoococajikaaGreatJ07
import Derived.Test.YtmejoococajikaaGreatJ06
import Derived.Test.YtmejoococajikaaGreatJ03
set_option linter.unusedVariables false

/- Numbers with a sign, as numbers without: varint.Zig, Zag and their references. -/
namespace Go.Proofs.YtmejoococajikaaGreat
open Go.RowKit

def zig (x : Int) : Int := if x < 0 then -2 * x - 1 else 2 * x
def zag (u : Int) : Int := if u % 2 = 1 then -(u / 2) - 1 else u / 2
theorem zig_range (x : Int) (h0 : -9223372036854775808 ≤ x) (h1 : x < 9223372036854775808) : 0 ≤ zig x ∧ zig x < 18446744073709551616 := by unfold zig; omega
theorem zag_range (u : Int) (h0 : 0 ≤ u) (h1 : u < 18446744073709551616) : -9223372036854775808 ≤ zag u ∧ zag u < 9223372036854775808 := by unfold zag; omega
theorem zag_zig (x : Int) : zag (zig x) = x := by unfold zag zig; omega
theorem zig_zag (u : Int) (h : 0 ≤ u) : zig (zag u) = u := by unfold zag zig; omega

theorem xor_ones (b : Nat) (hb : b < 2 ^ 64) : b ^^^ (2 ^ 64 - 1) = 2 ^ 64 - 1 - b := by
  apply Nat.eq_of_testBit_eq
  intro i
  rw [Nat.testBit_xor, Nat.testBit_two_pow_sub_one, show 2 ^ 64 - 1 - b = 2 ^ 64 - (b + 1) from by omega, Nat.testBit_two_pow_sub_succ hb]
  by_cases h : i < 64
  · simp [h]
  · have : b.testBit i = false := Nat.testBit_lt_two_pow (Nat.lt_of_lt_of_le hb (Nat.pow_le_pow_right (by omega) (by omega)))
    simp [h, this]

theorem xor_neg (x : Int) (h0 : -9223372036854775808 ≤ x) (h1 : x < 0) :
    bits .xor .u64 (IntKind.u64.wrap (IntKind.u64.wrap x * 2)) (IntKind.u64.wrap (-1)) = zig x := by
  have e1 : IntKind.u64.wrap (-1) = ((2 ^ 64 - 1 : Nat) : Int) := by rw [IntKind.wrap_u64]; decide
  obtain ⟨m, hm⟩ : ∃ m : Nat, IntKind.u64.wrap (IntKind.u64.wrap x * 2) = (m : Int) ∧ (m : Int) = 18446744073709551616 + 2 * x := by
    rw [IntKind.wrap_u64, IntKind.wrap_u64]
    exact ⟨(18446744073709551616 + 2 * x).toNat, by omega, by omega⟩
  rw [e1, hm.1, u64_xor_nat _ _ (by omega) (by omega), xor_ones m (by omega)]
  unfold zig
  rw [if_pos h1]
  have := hm.2
  omega
theorem xor_nonneg (x : Int) (h0 : 0 ≤ x) (h1 : x < 9223372036854775808) : bits .xor .u64 (x * 2) 0 = zig x := by
  obtain ⟨m, rfl⟩ := Int.eq_ofNat_of_zero_le h0
  have := u64_xor_nat (m * 2) 0 (by omega) (by omega)
  rw [Nat.xor_zero] at this
  rw [show ((m : Int) * 2) = ((m * 2 : Nat) : Int) from by omega, show (0 : Int) = ((0 : Nat) : Int) from rfl, this]
  unfold zig
  rw [if_neg (by omega)]
  omega

set_option maxRecDepth 100000 in
set_option maxHeartbeats 400000 in
theorem Zig_any (x : Int) (w : World) (h0 : -9223372036854775808 ≤ x) (h1 : x < 9223372036854775808) :
    Calls Tryz.prog 148 #[.int .i64 x] w fun e w' => e = .returned (.int .u64 (zig x)) ∧ w = w' := by
  by_cases hx : x < 0
  · have e1 : x / 9223372036854775808 = -1 := by omega
    go_enter Tryz.func148, Tryz.ntmps148
    go_wp2
    go_ret
    exact ⟨ret_int (xor_neg x h0 hx), rfl⟩
  · have e1 : x / 9223372036854775808 = 0 := by omega
    go_enter Tryz.func148, Tryz.ntmps148
    go_wp2
    go_ret
    exact ⟨ret_int (xor_nonneg x (by omega) h1), rfl⟩

theorem xor_zag (x : Int) (h0 : 0 ≤ x) (h1 : x < 18446744073709551616) : bits BinOp.xor IntKind.i64 (x / 2) (wrap64 (-wrap64 (bits BinOp.and IntKind.u64 x 1))) = zag x := by
  rw [and_one_u64 x h0 (by omega), IntWalk.wrap64_in (x % 2) (by omega), IntWalk.wrap64_in _ (by omega)]
  obtain ⟨m, hm⟩ : ∃ m : Nat, (m : Int) = x / 2 := ⟨(x / 2).toNat, by omega⟩
  have hm2 : m < 2 ^ 63 := by omega
  unfold zag
  rw [← hm]
  have ofm : (BitVec.ofInt 64 (m : Int)).toNat = m := by
    rw [BitVec.ofInt_natCast, BitVec.toNat_ofNat]; exact Nat.mod_eq_of_lt (by omega)
  by_cases h : x % 2 = 1
  · rw [if_pos h, h]
    show IntKind.i64.wrap ((BitVec.ofInt 64 (m : Int) ^^^ BitVec.ofInt 64 (-1)).toNat : Int) = _
    rw [BitVec.toNat_xor, ofm, show (BitVec.ofInt 64 (-1)).toNat = 2 ^ 64 - 1 from by decide, xor_ones m (by omega), IntKind.wrap_i64]
    omega
  · rw [if_neg h, show x % 2 = 0 from by omega]
    show IntKind.i64.wrap ((BitVec.ofInt 64 (m : Int) ^^^ BitVec.ofInt 64 0).toNat : Int) = _
    rw [BitVec.toNat_xor, ofm, show (BitVec.ofInt 64 0).toNat = 0 from by decide, Nat.xor_zero, IntKind.wrap_i64]
    omega

set_option maxRecDepth 100000 in
set_option maxHeartbeats 400000 in
theorem Zag_any (x : Int) (w : World) (h0 : 0 ≤ x) (h1 : x < 18446744073709551616) :
    Calls Tryz.prog 159 #[.int .u64 x] w fun e w' => e = .returned (.int .i64 (zag x)) ∧ w = w' := by
  go_enter Tryz.func159, Tryz.ntmps159
  go_wp2
  go_ret
  exact ⟨ret_int (xor_zag x h0 h1), rfl⟩
set_option maxRecDepth 100000 in
set_option maxHeartbeats 400000 in
theorem refZig_any (x : Int) (w : World) (h0 : -9223372036854775808 ≤ x) (h1 : x < 9223372036854775808) :
    Calls Tryz.prog 130 #[.int .i64 x] w fun e w' => e = .returned (.int .u64 (zig x)) ∧ w = w' := by
  by_cases hx : x < 0
  · go_enter Tryz.func130, Tryz.ntmps130
    go_wp2
    go_ret
    exact ⟨ret_int (by unfold zig; omega), rfl⟩
  · go_enter Tryz.func130, Tryz.ntmps130
    go_wp2
    go_ret
    exact ⟨ret_int (by unfold zig; omega), rfl⟩
set_option maxRecDepth 100000 in
set_option maxHeartbeats 400000 in
theorem refZag_any (x : Int) (w : World) (h0 : 0 ≤ x) (h1 : x < 18446744073709551616) :
    Calls Tryz.prog 144 #[.int .u64 x] w fun e w' => e = .returned (.int .i64 (zag x)) ∧ w = w' := by
  by_cases h : x % 2 = 1
  · have hb : (x % 2 == 1) = true := by simpa using h
    go_enter Tryz.func144, Tryz.ntmps144
    go_wp2
    go_ret
    exact ⟨ret_int (by unfold zag; omega), rfl⟩
  · have hb : (x % 2 == 1) = false := by simpa using h
    go_enter Tryz.func144, Tryz.ntmps144
    go_wp2
    go_ret
    exact ⟨ret_int (by unfold zag; omega), rfl⟩
end Go.Proofs.YtmejoococajikaaGreat

/- The reference of a number as it stands, and made back. -/
namespace Go.Proofs.YtmejoococajikaaGreat
open Go.RowKit

set_option maxRecDepth 100000 in
set_option maxHeartbeats 400000 in
theorem refPlain_any (x : Int) (s : Bool) (w : World) (h0 : -9223372036854775808 ≤ x) (h1 : x < 9223372036854775808) :
    Calls Tryz.prog 85 #[.int .i64 x, .bool s] w fun e w' => e = .returned (.tuple #[.int .u64 (if s then zig x else max x 0), .bool (s || decide (0 ≤ x))]) ∧ w = w' := by
  cases s
  · by_cases hx : x < 0
    · have e : (0 : Int) = max x 0 := by omega
      have HE := Lib.hid e; clear e
      go_enter Tryz.func85, Tryz.ntmps85
      go_wp2_with fail
      go_ret2
      exact ⟨by rw [← HE.out]; rfl, rfl⟩
    · have e : x = max x 0 := by omega
      have HE := Lib.hid e; clear e
      go_enter Tryz.func85, Tryz.ntmps85
      go_wp2_with fail
      go_ret2
      exact ⟨by rw [← HE.out]; rfl, rfl⟩
  · go_enter Tryz.func85, Tryz.ntmps85
    go_wp2_with fail
    refine (refZig_any _ _ h0 h1).mono ?_; rintro e w' ⟨rfl, rfl⟩
    go_wp2_with fail
    go_ret2
    exact ⟨rfl, rfl⟩
def madeR (u : Int) (s : Bool) : Int × Bool := if s then (zag u, true) else if 9223372036854775808 ≤ u then (0, false) else (u, true)
set_option maxRecDepth 100000 in
theorem refMade_any (u : Int) (s : Bool) (w : World) (h0 : 0 ≤ u) (hu : u < 18446744073709551616) (x : Int) (ok : Bool) (hx : madeR u s = (x, ok)) :
    Calls Tryz.prog 115 #[.int .u64 u, .bool s] w fun e w' => e = .returned (.tuple #[.int .i64 x, .bool ok]) ∧ w = w' := by
  unfold madeR at hx
  cases s
  · by_cases h : 9223372036854775808 ≤ u
    · simp only [Bool.false_eq_true, if_false, if_pos h] at hx
      injection hx with e1 e2
      subst e1 e2
      go_enter Tryz.func115, Tryz.ntmps115
      go_wp2_with fail
      go_ret2
      exact ⟨rfl, rfl⟩
    · simp only [Bool.false_eq_true, if_false, if_neg h] at hx
      injection hx with e1 e2
      subst e1 e2
      go_enter Tryz.func115, Tryz.ntmps115
      go_wp2_with fail
      go_ret2
      exact ⟨rfl, rfl⟩
  · simp only [if_true] at hx
    injection hx with e1 e2
    subst e2
    have HE := Lib.hid e1; clear e1
    go_enter Tryz.func115, Tryz.ntmps115
    go_wp2_with fail
    refine (refZag_any _ _ (by omega) (by omega)).mono ?_; rintro e w' ⟨rfl, rfl⟩
    rw [HE.out]
    go_wp2_with fail
    go_ret2
    exact ⟨rfl, rfl⟩
end Go.Proofs.YtmejoococajikaaGreat

/- direct.Head and direct.Look, and their references. -/
namespace Go.Proofs.YtmejoococajikaaGreat
open Go.RowKit

theorem i64_of (m : Nat) (h : m < 2 ^ 63) : (BitVec.ofInt 64 (m : Int)).toNat = m := by
  rw [BitVec.ofInt_natCast, BitVec.toNat_ofNat]; exact Nat.mod_eq_of_lt (by omega)
theorem i64_or_at (a b k : Nat) (hb : b < 2 ^ k) (h : a * 2 ^ k + b < 2 ^ 63) : bits .or .i64 ((a * 2 ^ k : Nat) : Int) (b : Int) = ((a * 2 ^ k + b : Nat) : Int) := by
  show IntKind.i64.wrap ((BitVec.ofInt 64 ((a * 2 ^ k : Nat) : Int) ||| BitVec.ofInt 64 (b : Int)).toNat : Int) = _
  rw [BitVec.toNat_or, i64_of _ (by omega), i64_of _ (by omega), Nat.mul_comm a, ← Nat.two_pow_add_eq_or_of_lt hb a, IntKind.wrap_i64]
  rw [Nat.mul_comm (2 ^ k) a]
  omega
theorem i64_and_low (a k : Nat) (ha : a < 2 ^ 63) (hk : k < 63) : bits .and .i64 (a : Int) ((2 ^ k - 1 : Nat) : Int) = ((a % 2 ^ k : Nat) : Int) := by
  show IntKind.i64.wrap ((BitVec.ofInt 64 (a : Int) &&& BitVec.ofInt 64 ((2 ^ k - 1 : Nat) : Int)).toNat : Int) = _
  have h1 : 2 ^ k < 2 ^ 63 := Nat.pow_lt_pow_right (by omega) hk
  have h2 : a % 2 ^ k ≤ a := Nat.mod_le _ _
  rw [BitVec.toNat_and, i64_of _ ha, i64_of _ (by omega), Nat.and_two_pow_sub_one_eq_mod, IntKind.wrap_i64]
  omega
theorem Sl_lit (w : World) (k : IntKind) (l : List Int) (t : TypeId) (cs : Array Value) (hcs : cs = (l.map (Value.int k)).toArray) (n : Nat) (hn : l.length = n) (hs : n ≤ 1000000) :
    Sl (w.alloc (.cells cs t)) k (some ⟨w.heap.size, 0, none⟩) n n l := by
  subst hcs
  refine ⟨⟨by simpa using hn, fun _ => ⟨w.heap.size, 0, rfl, by simp, fun j u hu => ?_⟩⟩, Nat.le_refl _, by omega⟩
  rw [(Blk.new w t _).cell]; simpa using hu

/-- A head: two bytes, or none. -/
def headR (kind code many : Int) : List Int :=
  if 0 ≤ kind ∧ kind ≤ 3 ∧ 0 ≤ code ∧ code < 32 ∧ 1 ≤ many ∧ many ≤ 512 then [(16384 * kind + 512 * code + many - 1) / 256, (16384 * kind + 512 * code + many - 1) % 256] else []
theorem head_bits (k c m : Int) (h1 : 0 ≤ k) (h2 : k ≤ 3) (h3 : 0 ≤ c) (h4 : c < 32) (h5 : 1 ≤ m) (h6 : m ≤ 512) :
    bits BinOp.or IntKind.i64 (bits BinOp.or IntKind.i64 (k * 16384) (c * 512)) (m - 1) = 16384 * k + 512 * c + m - 1 := by
  have e1 := i64_or_at k.toNat (c.toNat * 512) 14 (by omega) (by omega)
  rw [show ((k.toNat * 2 ^ 14 : Nat) : Int) = k * 16384 from by omega, show ((c.toNat * 512 : Nat) : Int) = c * 512 from by omega] at e1
  have e2 := i64_or_at (k.toNat * 32 + c.toNat) (m - 1).toNat 9 (by omega) (by omega)
  rw [e1, show (((k.toNat * 2 ^ 14 + c.toNat * 512 : Nat)) : Int) = (((k.toNat * 32 + c.toNat) * 2 ^ 9 : Nat) : Int) from by omega, show m - 1 = ((m - 1).toNat : Int) from by omega, e2]
  omega

set_option maxRecDepth 100000 in
set_option maxHeartbeats 1000000 in
theorem Head_any (w : World) (k c m : Int) :
    Calls Tryz.prog 122 #[.int .i64 k, .int .i64 c, .int .i64 m] w (BytesOut w (headR k c m)) := by
  by_cases hall : 0 ≤ k ∧ k ≤ 3 ∧ 0 ≤ c ∧ c < 32 ∧ 1 ≤ m ∧ m ≤ 512
  · have hE := Lib.hid (show headR k c m = _ from if_pos hall)
    obtain ⟨h1, h2, h3, h4, h5, h6⟩ := hall
    have hb := Lib.hid (head_bits k c m h1 h2 h3 h4 h5 h6)
    go_enter Tryz.func122, Tryz.ntmps122
    go_wp2_with fail
    go_ret
    rw [hE.out, hb.out]
    exact ⟨_, 2, 2, rfl, Sl_lit w .u8 _ _ _ (by simp; omega) 2 rfl (by omega), (Below.refl w.heap.size w).alloc (Nat.le_refl _) _⟩
  · have hE := Lib.hid (show headR k c m = _ from if_neg hall)
    go_enter Tryz.func122, Tryz.ntmps122
    go_wp2_with fail
    all_goals
      go_ret
      rw [hE.out]
      exact ⟨none, 0, 0, rfl, Sl.nil _ _, Below.refl _ _⟩
/-- Bytes of the call's own are handed back. -/
def OwnOut (w : World) (l : List Int) (e : Ending) (w' : World) : Prop :=
  ∃ G n c, e = .returned (.slice G n c) ∧ Hid (w'.ownsRow w.heap.size 5 1 (.slice G n c) n (l.map (Value.int .u8))) ∧ Below w.heap.size w w'
set_option maxRecDepth 100000 in
set_option maxHeartbeats 1000000 in
theorem refHead_any (w : World) (k c m : Int) :
    Calls Tryz.prog 90 #[.int .i64 k, .int .i64 c, .int .i64 m] w (OwnOut w (headR k c m)) := by
  by_cases hall : 0 ≤ k ∧ k ≤ 3 ∧ 0 ≤ c ∧ c < 32 ∧ 1 ≤ m ∧ m ≤ 512
  · have hE := Lib.hid (show headR k c m = _ from if_pos hall)
    obtain ⟨h1, h2, h3, h4, h5, h6⟩ := hall
    go_enter Tryz.func90, Tryz.ntmps90
    go_wp2_with fail
    go_ret
    rw [hE.out]
    exact ⟨_, 2, 2, rfl, ⟨by simp, .inr ⟨w.heap.size, 2, _, rfl, Nat.le_refl _, Blk.new w _ _, Nat.le_refl _, by unfold maxLen; omega, rfl, by simp⟩⟩, (Below.refl w.heap.size w).alloc (Nat.le_refl _) _⟩
  · have hE := Lib.hid (show headR k c m = _ from if_neg hall)
    go_enter Tryz.func90, Tryz.ntmps90
    go_wp2_with fail
    all_goals
      go_ret
      rw [hE.out]
      exact ⟨none, 0, 0, rfl, ⟨rfl, .inl ⟨rfl, rfl⟩⟩, Below.refl _ _⟩

def lookR (b : List Int) : Int × Int × Int × List Int × Int :=
  if b.length < 2 then (0, 0, 0, [], 2)
  else ((256 * b.getD 0 0 + b.getD 1 0) / 16384, (256 * b.getD 0 0 + b.getD 1 0) / 512 % 32, (256 * b.getD 0 0 + b.getD 1 0) % 512 + 1, b.drop 2, 0)
/-- Three numbers, bytes and an error's number are handed back. -/
def LookOut (w : World) (x y z : Int) (l : List Int) (er : Int) (e : Ending) (w' : World) : Prop :=
  ∃ G n c, e = .returned (.tuple #[.int .i64 x, .int .i64 y, .int .i64 z, .slice G n c, .int .i64 er]) ∧ Sl w' .u8 G n c l ∧ Below w.heap.size w w'
theorem look_bits (x y : Int) (hx : 0 ≤ x ∧ x < 256) (hy : 0 ≤ y ∧ y < 256) : bits BinOp.or IntKind.i64 (x * 256) y = 256 * x + y ∧ bits BinOp.and IntKind.i64 ((256 * x + y) / 512) 31 = (256 * x + y) / 512 % 32 ∧ bits BinOp.and IntKind.i64 (256 * x + y) 511 = (256 * x + y) % 512 := by
  refine ⟨?_, ?_, ?_⟩
  · have e := i64_or_at x.toNat y.toNat 8 (by omega) (by omega)
    rw [show ((x.toNat * 2 ^ 8 : Nat) : Int) = x * 256 from by omega, show (y.toNat : Int) = y from by omega] at e
    rw [e]; omega
  · have e := i64_and_low ((256 * x + y) / 512).toNat 5 (by omega) (by omega)
    rw [show ((((256 * x + y) / 512).toNat : Nat) : Int) = (256 * x + y) / 512 from by omega] at e
    rw [show (31 : Int) = ((2 ^ 5 - 1 : Nat) : Int) from rfl, e]; omega
  · have e := i64_and_low (256 * x + y).toNat 9 (by omega) (by omega)
    rw [show (((256 * x + y).toNat : Nat) : Int) = 256 * x + y from by omega] at e
    rw [show (511 : Int) = ((2 ^ 9 - 1 : Nat) : Int) from rfl, e]; omega
theorem getD_byte {l : List Int} (h : U8 l) (i : Nat) : 0 ≤ l.getD i 0 ∧ l.getD i 0 < 256 := by
  rcases Nat.lt_or_ge i l.length with h1 | h1
  · exact h _ (by simp [List.getD, List.getElem?_eq_getElem h1])
  · simp [List.getD, List.getElem?_eq_none h1]

set_option maxRecDepth 100000 in
set_option maxHeartbeats 1000000 in
theorem Look_any (w : World) (A : Option Addr) (n cap : Nat) (b : List Int) (hr : Ri w .u8 A n b) (hu : U8 b) (hc : n ≤ cap) (hm : cap ≤ 9223372036854775807) (hn : n ≤ 1000000) (k c m : Int) (r : List Int) (er : Int) (hl : lookR b = (k, c, m, r, er)) :
    Calls Tryz.prog 161 #[.slice A n cap] w (LookOut w k c m r er) := by
  have HR := Lib.hid hr
  unfold lookR at hl
  by_cases h2 : n < 2
  · rw [if_pos (by rw [hr.len]; omega)] at hl
    injection hl with e1 hl; injection hl with e2 hl; injection hl with e3 hl; injection hl with e4 e5
    subst e1 e2 e3 e4 e5
    clear hr hu
    go_enter Tryz.func161, Tryz.ntmps161
    go_wp2_with fail
    go_returns
    exact ⟨none, 0, 0, rfl, Sl.nil _ _, Below.refl _ _⟩
  · rw [if_neg (by rw [hr.len]; omega)] at hl
    injection hl with e1 hl; injection hl with e2 hl; injection hl with e3 hl; injection hl with e4 e5
    obtain ⟨bl, o, hA, hbl, hcell⟩ := hr.all (by omega)
    subst hA
    have g0 := hcell 0 (by omega)
    have g1 := hcell 1 (by omega)
    have b0 := getD_byte hu 0
    have b1 := getD_byte hu 1
    have HL := Lib.hid (look_bits _ _ b0 b1)
    have HE := Lib.hid (And.intro e1 (And.intro e2 (And.intro e3 (And.intro e4 e5))))
    rw [Nat.add_zero] at g0
    have HT := Lib.hid (hr.restIf (i := 2) (by omega) hc)
    clear hr hu hcell e1 e2 e3 e4 e5
    generalize b.getD 0 0 = x at *
    generalize b.getD 1 0 = y at *
    go_enter Tryz.func161, Tryz.ntmps161
    go_wp2_with fail
    go_quiet (fail)
    go_wp2_with fail
    all_goals first | rw [if_pos ‹cap = 2›] at HT | rw [if_neg ‹¬ cap = 2›] at HT
    all_goals
      refine (Clone_any _ _ _ _ _ (HT.out.drewN _) (by omega)).mono ?_; rintro e w' ⟨G, n', c', rfl, hs, hb⟩
      go_wp2_with fail
      go_returns
      rw [HL.out.1, HL.out.2.1, HL.out.2.2, show wrap64 ((256 * x + y) % 512 + 1) = (256 * x + y) % 512 + 1 from by unfold wrap64; omega, HE.out.1, HE.out.2.1, HE.out.2.2.1]
      obtain ⟨_, _, _, e4, e5⟩ := HE.out
      subst e4 e5
      exact ⟨_, _, _, rfl, hs, on (below_drewN (Below.refl w.heap.size w) _) hb⟩
set_option maxRecDepth 100000 in
set_option maxHeartbeats 1000000 in
theorem refLook_any (w : World) (A : Option Addr) (n cap : Nat) (b : List Int) (hr : Ri w .u8 A n b) (hu : U8 b) (hc : n ≤ cap) (hm : cap ≤ 9223372036854775807) (hn : n ≤ 1000000) (k c m : Int) (r : List Int) (er : Int) (hl : lookR b = (k, c, m, r, er)) :
    Calls Tryz.prog 110 #[.slice A n cap] w (LookOut w k c m r er) := by
  have HR := Lib.hid hr
  unfold lookR at hl
  by_cases h2 : n < 2
  · rw [if_pos (by rw [hr.len]; omega)] at hl
    injection hl with e1 hl; injection hl with e2 hl; injection hl with e3 hl; injection hl with e4 e5
    subst e1 e2 e3 e4 e5
    clear hr hu
    go_enter Tryz.func110, Tryz.ntmps110
    go_wp2_with fail
    go_returns
    exact ⟨none, 0, 0, rfl, Sl.nil _ _, Below.refl _ _⟩
  · rw [if_neg (by rw [hr.len]; omega)] at hl
    injection hl with e1 hl; injection hl with e2 hl; injection hl with e3 hl; injection hl with e4 e5
    obtain ⟨bl, o, hA, hbl, hcell⟩ := hr.all (by omega)
    subst hA
    have g0 := hcell 0 (by omega)
    have g1 := hcell 1 (by omega)
    have b0 := getD_byte hu 0
    have b1 := getD_byte hu 1
    have HE := Lib.hid (And.intro e1 (And.intro e2 (And.intro e3 (And.intro e4 e5))))
    rw [Nat.add_zero] at g0
    have HT := Lib.hid (hr.restIf (i := 2) (by omega) hc)
    clear hr hu hcell e1 e2 e3 e4 e5
    generalize b.getD 0 0 = x at *
    generalize b.getD 1 0 = y at *
    by_cases hcap : cap = 2
    all_goals
      first | rw [if_pos hcap] at HT | rw [if_neg hcap] at HT
      go_enter Tryz.func110, Tryz.ntmps110
      go_wp2_with fail
      go_quiet (fail)
      go_wp2_with (at_builtin; refine wpList_u8 _ rfl (.tmp 29) (.tmp 31) rfl w.heap.size _ 0 [] rfl (own_empty (w.drewN nq) _ 1) _ _ _ (b.drop 2) rfl ((HT.out.drewN nq).alloc _) (by omega) (by simp [World.alloc, World.drewN]) ?_; intro G3 c3 w3 hown hgr _)
      have hb3 := push0 ((below_drewN (Below.refl w.heap.size w) nq).alloc (Nat.le_refl _) _) (Nat.le_refl _) (own_empty (w.drewN nq) _ 1) hgr
      rw [Nat.zero_add, List.nil_append] at hown
      have hs3 := Lib.hid (Sl.of_own hown)
      clear hown hgr
      go_wp2_with fail
      go_returns
      obtain ⟨e1, e2, e3, e4, e5⟩ := HE.out
      subst e1 e2 e3 e4 e5
      exact ⟨_, _, _, rfl, hs3.out, hb3⟩
end Go.Proofs.YtmejoococajikaaGreat

/- varint.Put and its reference; PutInt. -/
namespace Go.Proofs.YtmejoococajikaaGreat
open Go.RowKit

theorem or_128 : ∀ c : Nat, c < 256 → bits .or .u8 (c : Int) 128 = ((c % 128 + 128 : Nat) : Int) := by decide +kernel
theorem vput_step (f y : Nat) (h : 128 ≤ y) (hy : y < 2 ^ (7 * f + 1)) : ∃ g, f = g + 1 ∧ vputF f y = ((y % 128 + 128 : Nat) : Int) :: vputF g (y / 128) ∧ y / 128 < 2 ^ (7 * g + 1) := by
  cases f with
  | zero => simp at hy; omega
  | succ g =>
    refine ⟨g, rfl, ?_, ?_⟩
    · simp only [vputF]; rw [if_neg (by omega)]
    · rw [Nat.div_lt_iff_lt_mul (by omega), show (128 : Nat) = 2 ^ 7 from rfl, ← Nat.pow_add]
      rwa [show 7 * g + 1 + 7 = 7 * (g + 1) + 1 from by omega]
theorem vput_end (f y : Nat) (h : y < 128) : vputF f y = [(y : Int)] := by
  cases f with
  | zero => rfl
  | succ g => simp only [vputF]; rw [if_pos h]
theorem Ri_lit1 (w : World) (x : Int) (t : TypeId) : Ri (w.alloc (.cells #[.int .u8 x] t)) .u8 (some ⟨w.heap.size, 0, none⟩) 1 [x] := Rd.one _ _ _
theorem blk_at {w : World} {t : TypeId} {cs : Array Value} {g : Nat} (h : g = w.heap.size) : Blk (w.alloc (.cells cs t)) g t cs := by subst h; exact Blk.new _ _ _
/-- Between two rounds. -/
def VPutW (w wr : World) (f y k X : Nat) (pre : List Int) (v : Value) : Prop :=
  ∃ acc : List Int, acc.length = k ∧ pre ++ vput X = acc ++ vputF f y ∧ wr.ownsRow w.heap.size 5 1 v k (acc.map (Value.int .u8)) ∧ Below w.heap.size w wr

set_option maxRecDepth 100000 in
set_option maxHeartbeats 1000000 in
theorem VPut_any (w : World) (A : Option Addr) (n cap : Nat) (b : List Int) (hr : Ri w .u8 A n b) (hn : n ≤ 100000) (X : Nat) (hX : X < 18446744073709551616) :
    Calls Tryz.prog 156 #[.slice A n cap, .int .u64 X] w (BytesOut w (b ++ vput X)) := by
  have HR := Lib.hid hr; clear hr
  have H0 : Hid (VPutW w w 9 X 0 X [] (.slice none 0 0)) := ⟨[], rfl, rfl, ⟨by simp, .inl ⟨rfl, rfl⟩⟩, Below.refl _ _⟩
  go_enter Tryz.func156, Tryz.ntmps156
  go_wp2_with fail
  go_loopw [1, 5] (fun a v wr => ∃ f y k : Nat, a = .int .u64 y ∧ y < 18446744073709551616 ∧ f + k = 9 ∧ y < 2 ^ (7 * f + 1) ∧ Hid (VPutW w wr f y k X [] v)) (fun a _ _ => (intOf a).toNat)
  case atStart => exact ⟨9, X, 0, rfl, hX, rfl, hX, H0⟩
  case round =>
    obtain ⟨f, y, k, rfl, hy, hfk, hyf, hin⟩ := hrel
    by_cases hlt : 128 ≤ y
    · obtain ⟨g, rfl, hv, hyg⟩ := vput_step f y hlt hyf
      have hor := Lib.hid (or_128 (y % 256) (by omega))
      have HV := Lib.hid hv
      obtain ⟨acc, ha1, ha2, ho, hb⟩ := hin.out
      have HO := Lib.hid ho; have HB := Lib.hid hb; have HA := Lib.hid ha2; have HA1 := Lib.hid ha1
      have hz := hb.size
      clear hv ho hb ha2 ha1 hin hyf
      go_wp2_with (at_builtin; refine wpList_u8 _ rfl _ _ rfl w.heap.size _ k _ rfl (own_below HO.out ((Below.refl _ _).alloc (Nat.le_refl _) _)) _ 1 1 [_] rfl (Rd.one _ _ _) (by omega) (by simp; omega) ?_; intro G c w2 hown hgr hcc)
      have HOWN := Lib.hid hown; clear hown
      go_wp2_with fail
      go_roundw
      case rel =>
        refine ⟨g, y / 128, k + 1, congrArg _ (by omega), by omega, by omega, hyg, acc ++ [((y % 128 + 128 : Nat) : Int)], by rw [List.length_append, HA1.out]; rfl, ?_, ?_, push_ HB.out (Nat.le_refl _) HO.out hgr⟩
        · rw [HA.out, HV.out]; simp
        · have h := HOWN.out
          have h2 := hor.out
          rw [show (((y % 256 : Nat)) : Int) = (y : Int) % 256 from by omega, show y % 256 % 128 + 128 = y % 128 + 128 from by omega] at h2
          rw [h2] at h
          exact h
      case measure => simp [intOf] <;> omega
    · obtain ⟨acc, ha1, ha2, ho, hb⟩ := hin.out
      rw [vput_end f y (by omega)] at ha2
      obtain ⟨G, c, rfl⟩ := own_form ho
      have HS := Lib.hid (Sl.of_own ho); have HB := Lib.hid hb; have HA := Lib.hid ha2
      clear ho hb ha2 hin hyf ha1
      go_wp2_with fail
      refine (Concat3_any _ _ _ _ _ _ _ _ _ _ _ _ _ _ (blk_at (by simp)) (((HR.out.below HB.out).alloc _).alloc _) ((HS.out.1.alloc _).alloc _) ((Ri_lit1 _ _ _).alloc _) (by omega) (by omega) (by omega)).mono ?_; rintro e w6 ⟨G6, n6, c6, rfl, hs6, hb6⟩
      go_wp2_with fail
      go_ret
      have h := HA.out
      rw [List.nil_append] at h
      rw [h, ← List.append_assoc]
      exact ⟨_, _, _, rfl, hs6, on (on HB.out (((Below.refl _ _).alloc (Nat.le_refl _) _).alloc (by simp) _)) hb6⟩

set_option maxRecDepth 100000 in
set_option maxHeartbeats 1000000 in
theorem refVPut_any (w : World) (A : Option Addr) (n cap : Nat) (b : List Int) (hr : Ri w .u8 A n b) (hn : n ≤ 100000) (X : Nat) (hX : X < 18446744073709551616) :
    Calls Tryz.prog 132 #[.slice A n cap, .int .u64 X] w (OwnOut w (b ++ vput X)) := by
  have HR := Lib.hid hr; clear hr
  go_enter Tryz.func132, Tryz.ntmps132
  go_wp2_with (at_builtin; refine wpList_u8 _ rfl _ _ rfl w.heap.size _ 0 [] rfl (own_empty w _ 1) _ _ _ b rfl (HR.out.alloc _) (by omega) (by simp) ?_; intro G3 c3 w3 hown hgr hcc)
  have hb3 := push0 ((Below.refl w.heap.size w).alloc (Nat.le_refl _) _) (Nat.le_refl _) (own_empty w _ 1) hgr
  rw [Nat.zero_add, List.nil_append] at hown
  have H0 : Hid (VPutW w w3 9 X n X b (.slice G3 n c3)) := ⟨b, HR.out.len, rfl, hown, hb3⟩
  clear hown hgr hb3 hcc
  go_wp2_with fail
  go_loopw [1, 5] (fun a v wr => ∃ f y k : Nat, a = .int .u64 y ∧ y < 18446744073709551616 ∧ f + k = 9 + n ∧ k ≤ n + 9 ∧ y < 2 ^ (7 * f + 1) ∧ Hid (VPutW w wr f y k X b v)) (fun a _ _ => (intOf a).toNat)
  case atStart => exact ⟨9, X, n, rfl, hX, by omega, by omega, hX, H0⟩
  case round =>
    obtain ⟨f, y, k, rfl, hy, hfk, hk9, hyf, hin⟩ := hrel
    obtain ⟨acc, ha1, ha2, ho, hb⟩ := hin.out
    have HO := Lib.hid ho; have HB := Lib.hid hb; have HA1 := Lib.hid ha1
    have hz := hb.size
    by_cases hlt : 128 ≤ y
    · obtain ⟨g, rfl, hv, hyg⟩ := vput_step f y hlt hyf
      have HV := Lib.hid hv
      have HA := Lib.hid ha2
      clear hv ho hb ha2 ha1 hin hyf
      go_wp2_with (at_builtin; refine wpList_u8 _ rfl _ _ rfl w.heap.size _ k _ rfl (own_below HO.out ((Below.refl _ _).alloc (Nat.le_refl _) _)) _ 1 1 [_] rfl (Rd.one _ _ _) (by omega) (by simp; omega) ?_; intro G c w2 hown hgr hcc)
      have HOWN := Lib.hid hown; clear hown
      go_wp2_with fail
      go_roundw
      case rel =>
        refine ⟨g, y / 128, k + 1, congrArg _ (by omega), by omega, by omega, by omega, hyg, acc ++ [((y % 128 + 128 : Nat) : Int)], by rw [List.length_append, HA1.out]; rfl, ?_, ?_, push_ HB.out (Nat.le_refl _) HO.out hgr⟩
        · rw [HA.out, HV.out]; simp
        · have h := HOWN.out
          rw [show ((y : Int) % 128 + 128) = ((y % 128 + 128 : Nat) : Int) from by omega] at h
          exact h
      case measure => simp [intOf] <;> omega
    · rw [vput_end f y (by omega)] at ha2
      have HA := Lib.hid ha2
      clear ho hb ha2 hin hyf ha1
      go_wp2_with (at_builtin; refine wpList_u8 _ rfl _ _ rfl w.heap.size _ k _ rfl (own_below HO.out ((Below.refl _ _).alloc (Nat.le_refl _) _)) _ 1 1 [_] rfl (Rd.one _ _ _) (by omega) (by simp; omega) ?_; intro G c w2 hown hgr hcc)
      have HOWN := Lib.hid hown; clear hown
      go_wp2_with fail
      go_ret
      rw [HA.out]
      exact ⟨_, _, _, rfl, HOWN, push_ HB.out (Nat.le_refl _) HO.out hgr⟩
end Go.Proofs.YtmejoococajikaaGreat

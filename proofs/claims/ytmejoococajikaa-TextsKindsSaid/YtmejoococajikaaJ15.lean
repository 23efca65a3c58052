/- Joined texts: BitsA. Each has its own head line. No condition beyond those that its theorems state. -/
import Derived.Deep.OwnRows
import Derived.Test.YtmejoococajikaaJ09
import Derived.Test.YtmejoococajikaaJ14
import Derived.Test.YtmejoococajikaaJ11
set_option linter.unusedVariables false

/- Package bits: fits, Size, the closure, Pack. -/
namespace Go.Proofs.Ytmejoococajikaa
open Go.RowKit

def bytesArr (X N : Nat) : Array Value := ((bytesOf X N).map (Value.int .u8)).toArray
theorem bytesArr_get (X N j : Nat) (h : j < N) : (bytesArr X N)[j]? = some (.int .u8 (byteAt X N j : Int)) := by
  simp [bytesArr, bytesOf_get X N j h]
theorem bytesArr_add (X N j d : Nat) (hj : j < N) (hd : byteAt X N j + d < 256) :
    (bytesArr X N).setIfInBounds j (.int .u8 ((byteAt X N j + d : Nat) : Int)) = bytesArr (X + d * 256 ^ (N - 1 - j)) N := by
  unfold bytesArr
  rw [bytesOf_add X N j d hj hd]
  simp [List.map_set]
theorem cast_shl (c k : Nat) : (c : Int) * 2 ^ k % 256 = ((c * 2 ^ k % 256 : Nat) : Int) := by
  rw [Int.natCast_emod, Int.natCast_mul, Int.natCast_pow]; rfl
theorem cast_shr (c k : Nat) : (c : Int) / 2 ^ k = ((c / 2 ^ k : Nat) : Int) := by
  rw [Int.natCast_ediv, Int.natCast_pow]; rfl

theorem bytesOf_u8 (X N : Nat) : U8 (bytesOf X N) := by
  intro y hy
  obtain ⟨j, _, rfl⟩ := List.mem_map.1 hy
  have := byteAt_lt X N j
  omega
/-- The closure of Pack: n bits of value c are laid down behind. -/
theorem put_any (w : World) (B g bo ba N at_ n c X : Nat) (hat : Blk w ba 3 #[.int .i64 at_]) (hout : Blk w bo 49 #[.slice (some ⟨g, 0, none⟩) N N]) (hg : Blk w g 5 (bytesArr X N))
    (hB : B ≤ g ∧ B ≤ ba ∧ B ≤ bo) (hd : g ≠ ba ∧ g ≠ bo ∧ ba ≠ bo) (hX : X % 2 ^ (8 * N - at_) = 0) (hn0 : 1 ≤ n) (hn : n ≤ 8) (hc : c < 2 ^ n) (hN : at_ + n ≤ 8 * N) (hNb : N ≤ 1000000) :
    Calls Try.prog 70 #[.int .u8 c, .int .i64 n, .pointer (some ⟨ba, 0, none⟩), .pointer (some ⟨bo, 0, none⟩)] w
      (PutOut w B g bo ba N (at_ + n) (bytesArr (X + c * 2 ^ (8 * N - at_ - n)) N)) := by
  have hc256 : c < 256 := Nat.lt_of_lt_of_le hc (Nat.pow_le_pow_right (n := 2) (j := 8) (by omega) hn)
  by_cases h : n ≤ 8 - at_ % 8
  · obtain ⟨e1, e2, e3⟩ := put_fits X N at_ n c hN hn0 hX hc h
    have hj : at_ / 8 < N := by omega
    have hb := byteAt_lt X N (at_ / 8)
    have := put1_any w B g bo ba N at_ n c (byteAt X N (at_ / 8) : Nat) hat hout _ hg hB hd (bytesArr_get X N _ hj) h hn hj hNb (by omega) (by omega)
    rw [cast_shl, u8_or_nat _ _ hb (by omega), e1, bytesArr_add X N _ _ hj e2, ← e3] at this
    exact this
  · obtain ⟨e1, e2, e3, e4, e5⟩ := put_two X N at_ n c hN hX hc (by omega) hn
    have hj : at_ / 8 < N := by omega
    have hb := byteAt_lt X N (at_ / 8)
    have := put2_any w B g bo ba N at_ n c (byteAt X N (at_ / 8) : Nat) (byteAt X N (at_ / 8 + 1) : Nat) hat hout _ hg hB hd (bytesArr_get X N _ hj) (bytesArr_get X N _ e4) (by omega) hn e4 hNb (by omega) (by omega) (by rw [e3]; omega)
    have hlt : c / 2 ^ (n - (8 - at_ % 8)) < 256 := Nat.lt_of_le_of_lt (Nat.div_le_self _ _) hc256
    rw [cast_shl, cast_shr, u8_or_nat _ _ hb hlt, e1, u8_or_nat _ _ (byteAt_lt _ _ _) (by omega), e3, Nat.zero_or, bytesArr_add X N _ _ hj e2] at this
    have hz : byteAt (X + c / 2 ^ (n - (8 - at_ % 8)) * 256 ^ (N - 1 - at_ / 8)) N (at_ / 8 + 1) = 0 := by
      rw [byteAt_add X N _ _ _ hj e4 e2, if_neg (by omega), e3]
    have h2 := bytesArr_add (X + c / 2 ^ (n - (8 - at_ % 8)) * 256 ^ (N - 1 - at_ / 8)) N (at_ / 8 + 1) (c * 2 ^ (8 - n + (8 - at_ % 8)) % 256) e4 (by rw [hz]; omega)
    rw [hz, Nat.zero_add] at h2
    rw [h2, ← e5] at this
    exact this

def fitsB (m x : Int) : Bool := decide (0 ≤ m ∧ m ≤ 4096 ∧ 0 ≤ x ∧ x ≤ 64)
set_option maxRecDepth 100000 in
set_option maxHeartbeats 400000 in
theorem fits_any (m x : Int) (w : World) :
    Calls Try.prog 68 #[.int .i64 m, .int .i64 x] w fun e w' => e = .returned (.bool (fitsB m x)) ∧ w = w' := by
  rcases (show m < 0 ∨ (0 ≤ m ∧ 4096 < m) ∨ (0 ≤ m ∧ m ≤ 4096 ∧ x < 0) ∨ (0 ≤ m ∧ m ≤ 4096 ∧ 0 ≤ x ∧ 64 < x) ∨ (0 ≤ m ∧ m ≤ 4096 ∧ 0 ≤ x ∧ x ≤ 64) by omega) with h | ⟨h1, h2⟩ | ⟨h1, h2, h3⟩ | ⟨h1, h2, h3, h4⟩ | ⟨h1, h2, h3, h4⟩
  all_goals
    first | have HF : Hid (fitsB m x = false) := decide_eq_false (by omega) | have HF : Hid (fitsB m x = true) := decide_eq_true (by omega)
    go_enter Try.func68, Try.ntmps68
    go_wp2_with fail
    go_ret
    exact ⟨ret_bool (by rw [HF.out] <;> first | rfl | exact decide_eq_false (by omega) | exact decide_eq_true (by omega)), rfl⟩

def sizeN (m x : Int) : Int := if fitsB m x then (m * x + 7) / 8 else 0
set_option maxRecDepth 100000 in
set_option maxHeartbeats 400000 in
theorem Size_any (m x : Int) (w : World) :
    Calls Try.prog 69 #[.int .i64 m, .int .i64 x] w fun e w' => e = .returned (.int .i64 (sizeN m x)) ∧ w = w' := by
  cases hf : fitsB m x
  · have HS : Hid (sizeN m x = 0) := by show sizeN m x = 0; unfold sizeN; rw [hf]; rfl
    have HF := Lib.hid hf; clear hf
    go_enter Try.func69, Try.ntmps69
    go_wp2_with fail
    refine (fits_any _ _ _).mono ?_; rintro e w' ⟨rfl, rfl⟩
    rw [HF.out]
    go_wp2_with fail
    go_ret
    exact ⟨ret_int HS.out.symm, rfl⟩
  · have HS : Hid (sizeN m x = (m * x + 7) / 8) := by show sizeN m x = _; unfold sizeN; rw [hf]; rfl
    have hb : 0 ≤ m ∧ m ≤ 4096 ∧ 0 ≤ x ∧ x ≤ 64 := by simpa [fitsB] using hf
    have h1 : 0 ≤ m * x := Int.mul_nonneg hb.1 hb.2.2.1
    have h2 : m * x ≤ 4096 * 64 := Int.mul_le_mul hb.2.1 hb.2.2.2 hb.2.2.1 (by omega)
    have HF := Lib.hid hf; clear hf
    go_enter Try.func69, Try.ntmps69
    go_wp2_with fail
    refine (fits_any _ _ _).mono ?_; rintro e w' ⟨rfl, rfl⟩
    rw [HF.out]
    go_wp2_with fail
    go_ret
    exact ⟨ret_int HS.out.symm, rfl⟩

end Go.Proofs.Ytmejoococajikaa

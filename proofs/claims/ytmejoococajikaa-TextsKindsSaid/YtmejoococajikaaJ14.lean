/- Joined texts: PlainB. Each has its own head line. No condition beyond those that its theorems state. -/
import Derived.Laws.BitsAllLaws
import Derived.Laws.BitsLemmas
set_option linter.unusedVariables false

/- Plain laws on bytes of a number, the highest first. -/
namespace Go.Proofs.Ytmejoococajikaa

/-- Byte j of N, the highest first. -/
def byteAt (X N j : Nat) : Nat := X / 256 ^ (N - 1 - j) % 256
theorem byteAt_lt (X N j : Nat) : byteAt X N j < 256 := Nat.mod_lt _ (by omega)
/-- The bytes of a number. -/
def bytesOf (X N : Nat) : List Int := (List.range N).map fun j => (byteAt X N j : Int)
theorem bytesOf_len (X N : Nat) : (bytesOf X N).length = N := by simp [bytesOf]
theorem bytesOf_get (X N j : Nat) (h : j < N) : (bytesOf X N)[j]? = some (byteAt X N j : Int) := by simp [bytesOf, h]
theorem p256 (a b : Nat) : 256 ^ (a + b) = 256 ^ a * 256 ^ b := Nat.pow_add 256 a b
theorem pow8 (k : Nat) : (256 : Nat) ^ k = 2 ^ (8 * k) := by rw [show (256 : Nat) = 2 ^ 8 from rfl, ← Nat.pow_mul]

theorem byteAt_add (X N j d i : Nat) (hj : j < N) (hi : i < N) (hd : byteAt X N j + d < 256) :
    byteAt (X + d * 256 ^ (N - 1 - j)) N i = if i = j then byteAt X N j + d else byteAt X N i := by
  unfold byteAt at *
  have hP : 0 < 256 ^ (N - 1 - j) := Nat.pow_pos (by omega)
  rcases Nat.lt_trichotomy i j with h | h | h
  · rw [if_neg (by omega)]
    have e : N - 1 - i = (N - 1 - j) + ((j - i - 1) + 1) := by omega
    rw [e, p256, p256, Nat.pow_one, Nat.mul_comm (256 ^ (j - i - 1)) 256, ← Nat.div_div_eq_div_mul, ← Nat.div_div_eq_div_mul, ← Nat.div_div_eq_div_mul, ← Nat.div_div_eq_div_mul, Nat.add_mul_div_right _ _ hP]
    generalize X / 256 ^ (N - 1 - j) = q at *
    rw [show (q + d) / 256 = q / 256 from by omega]
  · subst h
    rw [if_pos rfl, Nat.add_mul_div_right _ _ hP]
    generalize X / 256 ^ (N - 1 - i) = q at *
    omega
  · rw [if_neg (by omega)]
    have e : d * 256 ^ (N - 1 - j) = (d * 256 ^ (i - j - 1) * 256) * 256 ^ (N - 1 - i) := by
      rw [show N - 1 - j = (N - 1 - i) + ((i - j - 1) + 1) from by omega, p256, p256, Nat.pow_one, Nat.mul_comm (256 ^ (N - 1 - i)), ← Nat.mul_assoc, ← Nat.mul_assoc]
    have hQ : 0 < 256 ^ (N - 1 - i) := Nat.pow_pos (by omega)
    rw [e, Nat.add_mul_div_right _ _ hQ]
    omega

/-- One byte grows. -/
theorem bytesOf_add (X N j d : Nat) (hj : j < N) (hd : byteAt X N j + d < 256) :
    bytesOf (X + d * 256 ^ (N - 1 - j)) N = (bytesOf X N).set j ((byteAt X N j + d : Nat) : Int) := by
  apply List.ext_getElem?
  intro i
  rw [List.getElem?_set]
  rcases Nat.lt_or_ge i N with h | h
  · rw [bytesOf_get _ _ _ h, byteAt_add X N j d i hj h hd]
    by_cases e : i = j
    · subst e; rw [if_pos rfl, if_pos rfl, bytesOf_len, if_pos h]
    · rw [if_neg e, if_neg (Ne.symm e), bytesOf_get _ _ _ h]
  · rw [List.getElem?_eq_none (by rw [bytesOf_len]; exact h), if_neg (by omega), List.getElem?_eq_none (by rw [bytesOf_len]; exact h)]

/-- A byte of a number that is a multiple of a power. -/
theorem byteAt_dvd (X N j r : Nat) (hX : X % 2 ^ (8 * (N - 1 - j) + r) = 0) (hr : r ≤ 8) : byteAt X N j % 2 ^ r = 0 := by
  unfold byteAt
  obtain ⟨k, rfl⟩ := Nat.dvd_of_mod_eq_zero hX
  rw [pow8, Nat.pow_add, Nat.mul_assoc, Nat.mul_div_cancel_left _ (Nat.two_pow_pos _)]
  have e : (256 : Nat) = 2 ^ r * 2 ^ (8 - r) := by rw [← Nat.pow_add, show r + (8 - r) = 8 from by omega]
  rw [e, Nat.mul_mod_mul_left, Nat.mul_mod_right]
theorem byteAt_zero (X N j m : Nat) (hX : X % 2 ^ m = 0) (hm : 8 * (N - 1 - j) + 8 ≤ m) : byteAt X N j = 0 := by
  have h := byteAt_dvd X N j 8 (by
    obtain ⟨k, rfl⟩ := Nat.dvd_of_mod_eq_zero hX
    rw [show m = (8 * (N - 1 - j) + 8) + (m - (8 * (N - 1 - j) + 8)) from by omega, Nat.pow_add, Nat.mul_assoc, Nat.mul_mod_right]) (Nat.le_refl _)
  have := byteAt_lt X N j
  omega
theorem or_add (y d r : Nat) (hy : y % 2 ^ r = 0) (hd : d < 2 ^ r) : y ||| d = y + d := by
  obtain ⟨k, rfl⟩ := Nat.dvd_of_mod_eq_zero hy
  exact (Nat.two_pow_add_eq_or_of_lt hd k).symm

/-- Bits that fit into the byte that is begun: what the byte becomes, and the number. -/
theorem put_fits (X N at_ n c : Nat) (hN : at_ + n ≤ 8 * N) (hn0 : 1 ≤ n) (hX : X % 2 ^ (8 * N - at_) = 0) (hc : c < 2 ^ n) (hn : n ≤ 8 - at_ % 8) :
    byteAt X N (at_ / 8) ||| (c * 2 ^ (8 - at_ % 8 - n) % 256) = byteAt X N (at_ / 8) + c * 2 ^ (8 - at_ % 8 - n) ∧
    byteAt X N (at_ / 8) + c * 2 ^ (8 - at_ % 8 - n) < 256 ∧
    X + c * 2 ^ (8 * N - at_ - n) = X + (c * 2 ^ (8 - at_ % 8 - n)) * 256 ^ (N - 1 - at_ / 8) := by
  have hj : at_ / 8 < N := by omega
  have hd : c * 2 ^ (8 - at_ % 8 - n) < 2 ^ (8 - at_ % 8) := by
    have h := (Nat.mul_lt_mul_right (Nat.two_pow_pos (8 - at_ % 8 - n))).2 hc
    rwa [← Nat.pow_add, show n + (8 - at_ % 8 - n) = 8 - at_ % 8 from by omega] at h
  have hy := byteAt_dvd X N (at_ / 8) (8 - at_ % 8) (by rw [show 8 * (N - 1 - at_ / 8) + (8 - at_ % 8) = 8 * N - at_ from by omega]; exact hX) (by omega)
  have hlt := byteAt_lt X N (at_ / 8)
  have hsum : byteAt X N (at_ / 8) + c * 2 ^ (8 - at_ % 8 - n) < 256 := by
    obtain ⟨k, hk⟩ := Nat.dvd_of_mod_eq_zero hy
    have e : (256 : Nat) = 2 ^ (8 - at_ % 8) * 2 ^ (at_ % 8) := by rw [← Nat.pow_add, show 8 - at_ % 8 + at_ % 8 = 8 from by omega]
    rw [hk] at hlt ⊢
    rw [e] at hlt ⊢
    have h1 : k < 2 ^ (at_ % 8) := Nat.lt_of_mul_lt_mul_left hlt
    have h2 : 2 ^ (8 - at_ % 8) * (k + 1) ≤ 2 ^ (8 - at_ % 8) * 2 ^ (at_ % 8) := Nat.mul_le_mul_left _ h1
    rw [Nat.mul_add, Nat.mul_one] at h2
    omega
  have hd2 : c * 2 ^ (8 - at_ % 8 - n) % 256 = c * 2 ^ (8 - at_ % 8 - n) := Nat.mod_eq_of_lt (by omega)
  refine ⟨by rw [hd2]; exact or_add _ _ _ hy hd, hsum, ?_⟩
  rw [pow8, Nat.mul_assoc, ← Nat.pow_add, show 8 - at_ % 8 - n + 8 * (N - 1 - at_ / 8) = 8 * N - at_ - n from by omega]

/-- Bits that go into two bytes. -/
theorem put_two (X N at_ n c : Nat) (hN : at_ + n ≤ 8 * N) (hX : X % 2 ^ (8 * N - at_) = 0) (hc : c < 2 ^ n) (hn : 8 - at_ % 8 < n) (hn8 : n ≤ 8) :
    byteAt X N (at_ / 8) ||| (c / 2 ^ (n - (8 - at_ % 8))) = byteAt X N (at_ / 8) + c / 2 ^ (n - (8 - at_ % 8)) ∧
    byteAt X N (at_ / 8) + c / 2 ^ (n - (8 - at_ % 8)) < 256 ∧
    byteAt X N (at_ / 8 + 1) = 0 ∧ at_ / 8 + 1 < N ∧
    X + c * 2 ^ (8 * N - at_ - n) = X + (c / 2 ^ (n - (8 - at_ % 8))) * 256 ^ (N - 1 - at_ / 8) + (c * 2 ^ (8 - n + (8 - at_ % 8)) % 256) * 256 ^ (N - 1 - (at_ / 8 + 1)) := by
  obtain ⟨m, hm⟩ : ∃ m, m = n - (8 - at_ % 8) := ⟨_, rfl⟩
  rw [← hm, show 8 - n + (8 - at_ % 8) = 8 - m from by omega]
  have hj1 : at_ / 8 + 1 < N := by omega
  have hch : c / 2 ^ m < 2 ^ (8 - at_ % 8) := by
    rw [Nat.div_lt_iff_lt_mul (Nat.two_pow_pos _), ← Nat.pow_add, show 8 - at_ % 8 + m = n from by omega]
    exact hc
  have hy := byteAt_dvd X N (at_ / 8) (8 - at_ % 8) (by rw [show 8 * (N - 1 - at_ / 8) + (8 - at_ % 8) = 8 * N - at_ from by omega]; exact hX) (by omega)
  have hlt := byteAt_lt X N (at_ / 8)
  refine ⟨or_add _ _ _ hy hch, ?_, byteAt_zero X N _ _ hX (by omega), hj1, ?_⟩
  · obtain ⟨k, hk⟩ := Nat.dvd_of_mod_eq_zero hy
    have e : (256 : Nat) = 2 ^ (8 - at_ % 8) * 2 ^ (at_ % 8) := by rw [← Nat.pow_add, show 8 - at_ % 8 + at_ % 8 = 8 from by omega]
    rw [hk] at hlt ⊢
    rw [e] at hlt ⊢
    have h1 : k < 2 ^ (at_ % 8) := Nat.lt_of_mul_lt_mul_left hlt
    have h2 : 2 ^ (8 - at_ % 8) * (k + 1) ≤ 2 ^ (8 - at_ % 8) * 2 ^ (at_ % 8) := Nat.mul_le_mul_left _ h1
    rw [Nat.mul_add, Nat.mul_one] at h2
    omega
  · have hcl : c % 2 ^ m < 2 ^ m := Nat.mod_lt _ (Nat.two_pow_pos _)
    have e256 : 2 ^ m * 2 ^ (8 - m) = 256 := by rw [← Nat.pow_add, show m + (8 - m) = 8 from by omega]
    have hmod : c * 2 ^ (8 - m) % 256 = c % 2 ^ m * 2 ^ (8 - m) := by
      rw [← e256, Nat.mul_mod_mul_right]
    have hsplit : c = 2 ^ m * (c / 2 ^ m) + c % 2 ^ m := (Nat.div_add_mod _ _).symm
    rw [hmod, pow8, pow8, Nat.add_assoc]
    congr 1
    have e1 : 2 ^ (8 * (N - 1 - at_ / 8)) = 2 ^ m * 2 ^ (8 * N - at_ - n) := by rw [← Nat.pow_add]; congr 1; omega
    have e2 : 2 ^ (8 - m) * 2 ^ (8 * (N - 1 - (at_ / 8 + 1))) = 2 ^ (8 * N - at_ - n) := by rw [← Nat.pow_add]; congr 1; omega
    rw [e1, Nat.mul_assoc (c % 2 ^ m), e2, ← Nat.mul_assoc, ← Nat.add_mul, Nat.mul_comm (c / 2 ^ m), ← hsplit]
end Go.Proofs.Ytmejoococajikaa

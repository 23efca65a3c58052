/- Joined texts: PlainA. Each has its own head line. No condition beyond those that its theorems state. -/
import Derived.Laws.BitsLemmas
import Derived.Laws.Bits64
set_option linter.unusedVariables false

/- Plain laws on numbers: widths and how many bits a number needs (no program in sight). -/
namespace Go.Proofs.Ytmejoococajikaa

/-- The width of a code. -/
def wOf (c : Int) : Int := if c < 0 ∨ 31 < c then 0 else if c < 24 then c + 1 else if c < 28 then 24 + 2 * (c - 23) else 32 + 8 * (c - 27)
/-- The code of a width. -/
def wCode (w : Int) : Int := if 1 ≤ w ∧ w ≤ 24 then w - 1 else if w = 26 then 24 else if w = 28 then 25 else if w = 30 then 26 else if w = 32 then 27 else if w = 40 then 28 else if w = 48 then 29 else if w = 56 then 30 else if w = 64 then 31 else -1
/-- The closest width that has room for so many bits. -/
def wClosest (b : Int) : Int := if b ≤ 1 then 1 else if b ≤ 24 then b else if b ≤ 26 then 26 else if b ≤ 28 then 28 else if b ≤ 30 then 30 else if b ≤ 32 then 32 else if b ≤ 40 then 40 else if b ≤ 48 then 48 else if b ≤ 56 then 56 else if b ≤ 64 then 64 else 0

theorem wOf_range (c : Int) : 0 ≤ wOf c ∧ wOf c ≤ 64 := by unfold wOf; omega
theorem wCode_range (c : Int) : -1 ≤ wCode c ∧ wCode c ≤ 31 := by unfold wCode; omega
theorem wClosest_range (c : Int) : 0 ≤ wClosest c ∧ wClosest c ≤ 64 := by unfold wClosest; omega
/-- A code whose width it is, is the width's code. -/
theorem wCode_of (c w : Int) (h0 : 0 ≤ c) (h1 : c ≤ 31) (h : wOf c = w) : wCode w = c := by unfold wOf at h; unfold wCode; omega
/-- Of no code. -/
theorem wCode_none (w : Int) (h : ∀ c : Nat, c < 32 → wOf c ≠ w) : wCode w = -1 := by
  by_cases hw : 1 ≤ w ∧ w ≤ 24
  · refine absurd ?_ (h (w - 1).toNat (by omega))
    unfold wOf; omega
  · have a24 := h 24 (by omega); have a25 := h 25 (by omega); have a26 := h 26 (by omega); have a27 := h 27 (by omega)
    have a28 := h 28 (by omega); have a29 := h 29 (by omega); have a30 := h 30 (by omega); have a31 := h 31 (by omega)
    clear h
    unfold wOf at *; unfold wCode; omega
theorem wClosest_of (b : Int) (c : Nat) (hc : c < 32) (h : b ≤ wOf c) (hl : ∀ d : Nat, d < c → ¬ b ≤ wOf d) : wOf c = wClosest b := by
  by_cases h0 : c = 0
  · subst h0; unfold wOf at *; unfold wClosest; omega
  · have hp := hl (c - 1) (by omega)
    clear hl
    unfold wOf at *; unfold wClosest; omega
theorem wClosest_none (b : Int) (h : ∀ d : Nat, d < 32 → ¬ b ≤ wOf d) : wClosest b = 0 := by
  have h31 := h 31 (by omega)
  clear h
  unfold wOf at h31; unfold wClosest; omega
theorem wOf_lt_iff (a b : Int) (ha : 0 ≤ a ∧ a ≤ 31) (hb : 0 ≤ b ∧ b ≤ 31) : wOf a < wOf b ↔ a < b := by
  unfold wOf; omega
theorem wOf_in (a : Int) (ha : 0 ≤ a ∧ a ≤ 31) : 1 ≤ wOf a ∧ wOf a ≤ 64 ∧ wCode (wOf a) = a ∧ wClosest (wOf a) = wOf a := by
  refine ⟨?_, (wOf_range a).2, wCode_of a _ ha.1 ha.2 rfl, ?_⟩
  · unfold wOf; omega
  · unfold wClosest wOf; omega
theorem wClosest_mono (a b : Int) (h : a ≤ b) (hb : b ≤ 64) : wClosest a ≤ wClosest b := by
  unfold wClosest; omega
theorem wClosest_room (b : Int) (h0 : 0 ≤ b) (h : b ≤ 64) : b ≤ wClosest b ∧ 1 ≤ wClosest b ∧ wClosest b ≤ 64 ∧ 0 ≤ wCode (wClosest b) ∧
    (0 < wCode (wClosest b) → 1 ≤ wOf (wCode (wClosest b) - 1) ∧ wOf (wCode (wClosest b) - 1) < b ∧ wOf (wCode (wClosest b) - 1) < wClosest b) := by
  obtain ⟨w, hw⟩ : ∃ w, w = wClosest b := ⟨_, rfl⟩
  obtain ⟨c, hc⟩ : ∃ c, c = wCode w := ⟨_, rfl⟩
  obtain ⟨v, hv⟩ : ∃ v, v = wOf (c - 1) := ⟨_, rfl⟩
  rw [← hw, ← hc, ← hv]
  unfold wClosest at hw
  have r : b ≤ w ∧ 1 ≤ w ∧ w ≤ 64 := by omega
  unfold wCode at hc
  have r2 : 0 ≤ c := by omega
  refine ⟨r.1, r.2.1, r.2.2, r2, fun hp => ?_⟩
  unfold wOf at hv
  omega

/-- How many bits a number needs. -/
def blen (n : Nat) : Nat := if n = 0 then 0 else n.log2 + 1
theorem blen_zero : blen 0 = 0 := rfl
theorem blen_lt (n : Nat) : n < 2 ^ blen n := by
  unfold blen
  split
  · subst n; simp
  · exact Nat.lt_log2_self
theorem blen_ge (n : Nat) (h : n ≠ 0) : 1 ≤ blen n ∧ 2 ^ (blen n - 1) ≤ n := by
  unfold blen
  rw [if_neg h]
  exact ⟨by omega, by simpa using Nat.log2_self_le h⟩
theorem blen_le (n k : Nat) (h : n < 2 ^ k) : blen n ≤ k := by
  unfold blen
  split
  · omega
  · rename_i h0
    have := (Nat.log2_lt h0).2 h
    omega
theorem blen_of (n k : Nat) (h : n < 2 ^ k) (h1 : k = 0 ∨ 2 ^ (k - 1) ≤ n) : blen n = k := by
  have a := blen_le n k h
  rcases h1 with rfl | h1
  · omega
  · have h0 : n ≠ 0 := by have := Nat.two_pow_pos (k - 1); omega
    have := (blen_ge n h0).1
    by_cases hk : blen n < k
    · have l := blen_lt n
      have := Nat.pow_le_pow_right (n := 2) (by omega) (show blen n ≤ k - 1 by omega)
      omega
    · omega
theorem blen_mono {a b : Nat} (h : a ≤ b) : blen a ≤ blen b := blen_le _ _ (Nat.lt_of_le_of_lt h (blen_lt b))
theorem blen_64 (n : Nat) (h : n < 18446744073709551616) : blen n ≤ 64 := blen_le n 64 h
theorem blen_eq_zero (n : Nat) : blen n = 0 ↔ n = 0 := by
  constructor
  · intro h
    have := blen_lt n
    rw [h] at this; simp at this; exact this
  · rintro rfl; rfl
theorem blen_div (n k : Nat) (h : 2 ^ k ≤ n) : blen n = blen (n / 2 ^ k) + k := by
  have hp := Nat.two_pow_pos k
  have hq : 1 ≤ n / 2 ^ k := (Nat.le_div_iff_mul_le hp).2 (by omega)
  obtain ⟨g1, g2⟩ := blen_ge (n / 2 ^ k) (by omega)
  have l := blen_lt (n / 2 ^ k)
  refine blen_of _ _ ?_ (.inr ?_)
  · rw [Nat.pow_add]
    exact (Nat.div_lt_iff_lt_mul hp).1 l
  · have e : blen (n / 2 ^ k) + k - 1 = (blen (n / 2 ^ k) - 1) + k := by omega
    rw [e, Nat.pow_add]
    exact (Nat.le_div_iff_mul_le hp).1 g2
theorem blen_or (a b : Nat) : blen (a ||| b) = max (blen a) (blen b) := by
  have ha := blen_lt a
  have hb := blen_lt b
  have up : a ||| b < 2 ^ max (blen a) (blen b) := Nat.or_lt_two_pow (Nat.lt_of_lt_of_le ha (Nat.pow_le_pow_right (by omega) (by omega))) (Nat.lt_of_lt_of_le hb (Nat.pow_le_pow_right (by omega) (by omega)))
  have l1 : a ≤ a ||| b := Nat.left_le_or
  have l2 : b ≤ a ||| b := Nat.right_le_or
  have m1 := blen_mono l1
  have m2 := blen_mono l2
  have := blen_le _ _ up
  omega
theorem blen_max (a b : Nat) : blen (max a b) = max (blen a) (blen b) := by
  rcases Nat.le_total a b with h | h
  · rw [Nat.max_eq_right h, Nat.max_eq_right (blen_mono h)]
  · rw [Nat.max_eq_left h, Nat.max_eq_left (blen_mono h)]
end Go.Proofs.Ytmejoococajikaa

/- Joined texts: PlainA, Widths, LenA, Most, RefW. Each has its own head line. No condition beyond those that its theorems state. -/
import Derived.Laws.BitsLemmas
import Derived.Laws.Bits64
import Derived.Test.YtmejoococajikaaGreatProg
import Derived.Test.YtmejoococajikaaGreatJ01
set_option linter.unusedVariables false

/- Plain laws on numbers: widths and how many bits a number needs (no program in sight). -/
namespace Go.Proofs.YtmejoococajikaaGreat

/-- The width of a code. -/
def wOf (c : Int) : Int := if c < 0 ∨ 31 < c then 0 else if c < 24 then c + 1 else if c < 28 then 24 + 2 * (c - 23) else 32 + 8 * (c - 27)
/-- The code of a width. -/
def wCode (w : Int) : Int := if 1 ≤ w ∧ w ≤ 24 then w - 1 else if w = 26 then 24 else if w = 28 then 25 else if w = 30 then 26 else if w = 32 then 27 else if w = 40 then 28 else if w = 48 then 29 else if w = 56 then 30 else if w = 64 then 31 else -1
/-- The closest width that has room for so many bits. -/
def wClosest (b : Int) : Int := if b ≤ 1 then 1 else if b ≤ 24 then b else if b ≤ 26 then 26 else if b ≤ 28 then 28 else if b ≤ 30 then 30 else if b ≤ 32 then 32 else if b ≤ 40 then 40 else if b ≤ 48 then 48 else if b ≤ 56 then 56 else if b ≤ 64 then 64 else 0

theorem wOf_range (c : Int) : 0 ≤ wOf c ∧ wOf c ≤ 64 := by unfold wOf; omega
theorem wCode_range (c : Int) : -1 ≤ wCode c ∧ wCode c ≤ 31 := by unfold wCode; omega
theorem wClosest_range (c : Int) : 0 ≤ wClosest c ∧ wClosest c ≤ 64 := by unfold wClosest; omega
/-- A code whose width it is, is the width's code. -/
theorem wCode_of (c w : Int) (h0 : 0 ≤ c) (h1 : c ≤ 31) (h : wOf c = w) : wCode w = c := by unfold wOf at h; unfold wCode; omega
/-- Of no code. -/
theorem wCode_none (w : Int) (h : ∀ c : Nat, c < 32 → wOf c ≠ w) : wCode w = -1 := by
  by_cases hw : 1 ≤ w ∧ w ≤ 24
  · refine absurd ?_ (h (w - 1).toNat (by omega))
    unfold wOf; omega
  · have a24 := h 24 (by omega); have a25 := h 25 (by omega); have a26 := h 26 (by omega); have a27 := h 27 (by omega)
    have a28 := h 28 (by omega); have a29 := h 29 (by omega); have a30 := h 30 (by omega); have a31 := h 31 (by omega)
    clear h
    unfold wOf at *; unfold wCode; omega
theorem wClosest_of (b : Int) (c : Nat) (hc : c < 32) (h : b ≤ wOf c) (hl : ∀ d : Nat, d < c → ¬ b ≤ wOf d) : wOf c = wClosest b := by
  by_cases h0 : c = 0
  · subst h0; unfold wOf at *; unfold wClosest; omega
  · have hp := hl (c - 1) (by omega)
    clear hl
    unfold wOf at *; unfold wClosest; omega
theorem wClosest_none (b : Int) (h : ∀ d : Nat, d < 32 → ¬ b ≤ wOf d) : wClosest b = 0 := by
  have h31 := h 31 (by omega)
  clear h
  unfold wOf at h31; unfold wClosest; omega
theorem wOf_lt_iff (a b : Int) (ha : 0 ≤ a ∧ a ≤ 31) (hb : 0 ≤ b ∧ b ≤ 31) : wOf a < wOf b ↔ a < b := by
  unfold wOf; omega
theorem wOf_in (a : Int) (ha : 0 ≤ a ∧ a ≤ 31) : 1 ≤ wOf a ∧ wOf a ≤ 64 ∧ wCode (wOf a) = a ∧ wClosest (wOf a) = wOf a := by
  refine ⟨?_, (wOf_range a).2, wCode_of a _ ha.1 ha.2 rfl, ?_⟩
  · unfold wOf; omega
  · unfold wClosest wOf; omega
theorem wClosest_mono (a b : Int) (h : a ≤ b) (hb : b ≤ 64) : wClosest a ≤ wClosest b := by
  unfold wClosest; omega
theorem wClosest_room (b : Int) (h0 : 0 ≤ b) (h : b ≤ 64) : b ≤ wClosest b ∧ 1 ≤ wClosest b ∧ wClosest b ≤ 64 ∧ 0 ≤ wCode (wClosest b) ∧
    (0 < wCode (wClosest b) → 1 ≤ wOf (wCode (wClosest b) - 1) ∧ wOf (wCode (wClosest b) - 1) < b ∧ wOf (wCode (wClosest b) - 1) < wClosest b) := by
  obtain ⟨w, hw⟩ : ∃ w, w = wClosest b := ⟨_, rfl⟩
  obtain ⟨c, hc⟩ : ∃ c, c = wCode w := ⟨_, rfl⟩
  obtain ⟨v, hv⟩ : ∃ v, v = wOf (c - 1) := ⟨_, rfl⟩
  rw [← hw, ← hc, ← hv]
  unfold wClosest at hw
  have r : b ≤ w ∧ 1 ≤ w ∧ w ≤ 64 := by omega
  unfold wCode at hc
  have r2 : 0 ≤ c := by omega
  refine ⟨r.1, r.2.1, r.2.2, r2, fun hp => ?_⟩
  unfold wOf at hv
  omega

/-- How many bits a number needs. -/
def blen (n : Nat) : Nat := if n = 0 then 0 else n.log2 + 1
theorem blen_zero : blen 0 = 0 := rfl
theorem blen_lt (n : Nat) : n < 2 ^ blen n := by
  unfold blen
  split
  · subst n; simp
  · exact Nat.lt_log2_self
theorem blen_ge (n : Nat) (h : n ≠ 0) : 1 ≤ blen n ∧ 2 ^ (blen n - 1) ≤ n := by
  unfold blen
  rw [if_neg h]
  exact ⟨by omega, by simpa using Nat.log2_self_le h⟩
theorem blen_le (n k : Nat) (h : n < 2 ^ k) : blen n ≤ k := by
  unfold blen
  split
  · omega
  · rename_i h0
    have := (Nat.log2_lt h0).2 h
    omega
theorem blen_of (n k : Nat) (h : n < 2 ^ k) (h1 : k = 0 ∨ 2 ^ (k - 1) ≤ n) : blen n = k := by
  have a := blen_le n k h
  rcases h1 with rfl | h1
  · omega
  · have h0 : n ≠ 0 := by have := Nat.two_pow_pos (k - 1); omega
    have := (blen_ge n h0).1
    by_cases hk : blen n < k
    · have l := blen_lt n
      have := Nat.pow_le_pow_right (n := 2) (by omega) (show blen n ≤ k - 1 by omega)
      omega
    · omega
theorem blen_mono {a b : Nat} (h : a ≤ b) : blen a ≤ blen b := blen_le _ _ (Nat.lt_of_le_of_lt h (blen_lt b))
theorem blen_64 (n : Nat) (h : n < 18446744073709551616) : blen n ≤ 64 := blen_le n 64 h
theorem blen_eq_zero (n : Nat) : blen n = 0 ↔ n = 0 := by
  constructor
  · intro h
    have := blen_lt n
    rw [h] at this; simp at this; exact this
  · rintro rfl; rfl
theorem blen_div (n k : Nat) (h : 2 ^ k ≤ n) : blen n = blen (n / 2 ^ k) + k := by
  have hp := Nat.two_pow_pos k
  have hq : 1 ≤ n / 2 ^ k := (Nat.le_div_iff_mul_le hp).2 (by omega)
  obtain ⟨g1, g2⟩ := blen_ge (n / 2 ^ k) (by omega)
  have l := blen_lt (n / 2 ^ k)
  refine blen_of _ _ ?_ (.inr ?_)
  · rw [Nat.pow_add]
    exact (Nat.div_lt_iff_lt_mul hp).1 l
  · have e : blen (n / 2 ^ k) + k - 1 = (blen (n / 2 ^ k) - 1) + k := by omega
    rw [e, Nat.pow_add]
    exact (Nat.le_div_iff_mul_le hp).1 g2
theorem blen_or (a b : Nat) : blen (a ||| b) = max (blen a) (blen b) := by
  have ha := blen_lt a
  have hb := blen_lt b
  have up : a ||| b < 2 ^ max (blen a) (blen b) := Nat.or_lt_two_pow (Nat.lt_of_lt_of_le ha (Nat.pow_le_pow_right (by omega) (by omega))) (Nat.lt_of_lt_of_le hb (Nat.pow_le_pow_right (by omega) (by omega)))
  have l1 : a ≤ a ||| b := Nat.left_le_or
  have l2 : b ≤ a ||| b := Nat.right_le_or
  have m1 := blen_mono l1
  have m2 := blen_mono l2
  have := blen_le _ _ up
  omega
theorem blen_max (a b : Nat) : blen (max a b) = max (blen a) (blen b) := by
  rcases Nat.le_total a b with h | h
  · rw [Nat.max_eq_right h, Nat.max_eq_right (blen_mono h)]
  · rw [Nat.max_eq_left h, Nat.max_eq_left (blen_mono h)]
end Go.Proofs.YtmejoococajikaaGreat

/- The walks of package widths (layer 2) and of its reference. -/
namespace Go.Proofs.YtmejoococajikaaGreat
open Go.RowKit


set_option maxRecDepth 100000 in
set_option maxHeartbeats 400000 in
theorem above_any (w : World) :
    Calls Tryz.prog 129 #[] w fun e w' => e = .returned (.agg #[.int .i64 26, .int .i64 28, .int .i64 30, .int .i64 32, .int .i64 40, .int .i64 48, .int .i64 56, .int .i64 64]) ∧ Below w.heap.size w w' := by
  go_enter Tryz.func129, Tryz.ntmps129
  go_wp2
  go_returns
  exact ⟨rfl, by go_grown⟩

theorem wOf_lo (c : Int) (h0 : 0 ≤ c) (h1 : c < 24) : wOf c = c + 1 := by unfold wOf; omega
theorem wOf_out (c : Int) (h0 : c < 0 ∨ 31 < c) : wOf c = 0 := by unfold wOf; omega

set_option maxRecDepth 100000 in
set_option maxHeartbeats 1000000 in
theorem Of_any (c : Int) (w : World) :
    Calls Tryz.prog 84 #[.int .i64 c] w fun e w' => e = .returned (.int .i64 (wOf c)) ∧ Below w.heap.size w w' := by
  by_cases h0 : c < 0
  · have H := Lib.hid (wOf_out c (.inl h0))
    go_enter Tryz.func84, Tryz.ntmps84
    go_wp2_with (go_at_call 129; refine (above_any _).mono ?_; rintro e w1 ⟨rfl, hb⟩; obtain hz := hb.size)
    go_returns
    exact ⟨ret_int H.out.symm, by go_grown⟩
  · by_cases h1 : c < 24
    · have H := Lib.hid (wOf_lo c (by omega) h1)
      go_enter Tryz.func84, Tryz.ntmps84
      go_wp2_with (go_at_call 129; refine (above_any _).mono ?_; rintro e w1 ⟨rfl, hb⟩; obtain hz := hb.size)
      go_returns
      exact ⟨ret_int H.out.symm, by go_grown⟩
    · by_cases h2 : 31 < c
      · have H := Lib.hid (wOf_out c (.inr h2))
        go_enter Tryz.func84, Tryz.ntmps84
        go_wp2_with (go_at_call 129; refine (above_any _).mono ?_; rintro e w1 ⟨rfl, hb⟩; obtain hz := hb.size)
        go_returns
        exact ⟨ret_int H.out.symm, by go_grown⟩
      · have : c = 24 ∨ c = 25 ∨ c = 26 ∨ c = 27 ∨ c = 28 ∨ c = 29 ∨ c = 30 ∨ c = 31 := by omega
        rcases this with rfl | rfl | rfl | rfl | rfl | rfl | rfl | rfl <;> (
          go_enter Tryz.func84, Tryz.ntmps84
          go_wp2_with (go_at_call 129; refine (above_any _).mono ?_; rintro e w1 ⟨rfl, hb⟩; obtain hz := hb.size)
          go_returns
          exact ⟨rfl, by go_grown⟩)

set_option maxRecDepth 100000 in
set_option maxHeartbeats 400000 in
theorem refOf_any (c : Int) (w : World) (hlo : -9223372036854775808 ≤ c) (hhi : c ≤ 9223372036854775807) :
    Calls Tryz.prog 63 #[.int .i64 c] w fun e w' => e = .returned (.int .i64 (wOf c)) ∧ w = w' := by
  have H : Hid (wOf c = if c < 0 ∨ 31 < c then 0 else if c < 24 then c + 1 else if c < 28 then 24 + 2 * (c - 23) else 32 + 8 * (c - 27)) := rfl
  by_cases h0 : c < 0
  · go_enter Tryz.func63, Tryz.ntmps63
    go_wp2
    go_returns
    exact ⟨ret_int (by rw [H.out]; omega), rfl⟩
  · by_cases h2 : 31 < c
    · go_enter Tryz.func63, Tryz.ntmps63
      go_wp2
      go_returns
      exact ⟨ret_int (by rw [H.out]; omega), rfl⟩
    · go_enter Tryz.func63, Tryz.ntmps63
      go_wp2
      all_goals
        go_returns
        exact ⟨ret_int (by rw [H.out]; omega), rfl⟩

/-- The first place of a number in a list. -/
def firstIdx (l : List Int) (x : Int) : Int := match l.findIdx? (· == x) with | some i => i | none => -1
theorem firstIdx_of (l : List Int) (x : Int) (k : Nat) (hk : k < l.length) (hx : l.getD k 0 = x) (hl : ∀ j, j < k → l.getD j 0 ≠ x) : firstIdx l x = k := by
  have : l.findIdx? (· == x) = some k := by
    rw [List.findIdx?_eq_some_iff_getElem]
    refine ⟨hk, by simp [List.getD, List.getElem?_eq_getElem hk] at hx; simp [hx], fun j hj => ?_⟩
    have hj' : j < l.length := by omega
    have := hl j hj
    simp [List.getD, List.getElem?_eq_getElem hj'] at this
    simpa using this
  unfold firstIdx; rw [this]
theorem firstIdx_none (l : List Int) (x : Int) (hl : ∀ j, j < l.length → l.getD j 0 ≠ x) : firstIdx l x = -1 := by
  have : l.findIdx? (· == x) = none := by
    rw [List.findIdx?_eq_none_iff]
    intro y hy
    obtain ⟨j, hj, rfl⟩ := List.getElem_of_mem hy
    have := hl j hj
    simp [List.getD, List.getElem?_eq_getElem hj] at this
    simpa using this
  unfold firstIdx; rw [this]

set_option maxRecDepth 100000 in
set_option maxHeartbeats 400000 in
theorem Index_any (l : List Int) (x : Int) (A : Option Addr) (n cap : Nat) (w : World) (hr : Ri w .i64 A n l) (hc : n ≤ 9223372036854775807) :
    Calls Tryz.prog 154 #[.slice A n cap, .int .i64 x] w fun e w' => e = .returned (.int .i64 (firstIdx l x)) ∧ w = w' := by
  have HN := Lib.hid hr.len
  have HR := Lib.hid hr; clear hr
  go_enter Tryz.func154, Tryz.ntmps154
  go_wp2
  go_loop [5, 8] (fun _ i => ∃ k : Nat, k ≤ n ∧ i = .int .i64 k ∧ Hid (∀ j, j < k → l.getD j 0 ≠ x)) (fun _ i => n - (intOf i).toNat)
  case atStart => exact ⟨0, Nat.zero_le _, rfl, fun j hj => absurd hj (by omega)⟩
  case round =>
    obtain ⟨k, hk, rfl, hno⟩ := hrel
    by_cases hlt : k < n
    · obtain ⟨b, o, hA, _, hcell⟩ := HR.out.at_ (j := k) hlt
      subst hA
      obtain ⟨y, hy⟩ : ∃ y, y = l.getD k 0 := ⟨_, rfl⟩
      rw [← hy] at hcell
      have HY := Lib.hid hy; clear hy
      by_cases hxy : x = y
      · subst hxy
        go_wp2
        go_ret
        exact ⟨ret_int (firstIdx_of l _ k (by rw [HN.out]; exact hlt) HY.out.symm hno.out).symm, rfl⟩
      · have hne : (x == y) = false := by simpa using hxy
        go_wp2
        go_round
        case rel =>
          refine ⟨k + 1, by omega, by go_num, fun j hj => ?_⟩
          by_cases e : j = k
          · subst e; rw [← HY.out]; exact fun h => hxy h.symm
          · exact hno.out j (by omega)
        case measure => simp [intOf]; omega
    · go_wp2
      go_ret
      refine ⟨ret_int (firstIdx_none l x fun j hj => hno.out j ?_).symm, rfl⟩
      rw [HN.out] at hj; omega

theorem wCode_lo (c : Int) (h0 : 1 ≤ c) (h1 : c ≤ 24) : wCode c = c - 1 := by unfold wCode; omega
def wideNums : List Int := [26, 28, 30, 32, 40, 48, 56, 64]
theorem wCode_hi (c : Int) (h0 : ¬ (1 ≤ c ∧ c ≤ 24)) : wCode c = if firstIdx wideNums c < 0 then -1 else 24 + firstIdx wideNums c := by
  unfold wCode
  rw [if_neg h0]
  have hf : firstIdx wideNums c = if c = 26 then 0 else if c = 28 then 1 else if c = 30 then 2 else if c = 32 then 3 else if c = 40 then 4 else if c = 48 then 5 else if c = 56 then 6 else if c = 64 then 7 else -1 := by
    simp only [firstIdx, wideNums, List.findIdx?_cons, List.findIdx?_nil]
    by_cases h1 : c = 26
    · subst h1; rfl
    by_cases h2 : c = 28
    · subst h2; rfl
    by_cases h3 : c = 30
    · subst h3; rfl
    by_cases h4 : c = 32
    · subst h4; rfl
    by_cases h5 : c = 40
    · subst h5; rfl
    by_cases h6 : c = 48
    · subst h6; rfl
    by_cases h7 : c = 56
    · subst h7; rfl
    by_cases h8 : c = 64
    · subst h8; rfl
    have e : ∀ k : Int, c ≠ k → (k == c) = false := fun k hk => by simpa using fun h => hk h.symm
    simp [h1, h2, h3, h4, h5, h6, h7, h8, e _ h1, e _ h2, e _ h3, e _ h4, e _ h5, e _ h6, e _ h7, e _ h8]
  rw [hf]; omega
theorem firstIdx_range (l : List Int) (c : Int) : -1 ≤ firstIdx l c ∧ firstIdx l c < l.length := by
  unfold firstIdx
  cases h : l.findIdx? (· == c) with
  | none => simp; omega
  | some i =>
    have := (List.findIdx?_eq_some_iff_getElem.1 h).1
    simp; omega

theorem wide_in (w : World) : Ri (w.alloc (.cells #[.int .i64 26, .int .i64 28, .int .i64 30, .int .i64 32, .int .i64 40, .int .i64 48, .int .i64 56, .int .i64 64] 157)) .i64 (some ⟨w.heap.size, 0, none⟩) 8 wideNums := by
  refine Ri.mk_ rfl (by simp) fun j hj => ?_
  have : j = 0 ∨ j = 1 ∨ j = 2 ∨ j = 3 ∨ j = 4 ∨ j = 5 ∨ j = 6 ∨ j = 7 := by omega
  rcases this with rfl | rfl | rfl | rfl | rfl | rfl | rfl | rfl <;> simp [wideNums, go_sem]
set_option maxRecDepth 100000 in
set_option maxHeartbeats 1000000 in
theorem Code_any (c : Int) (w : World) :
    Calls Tryz.prog 123 #[.int .i64 c] w fun e w' => e = .returned (.int .i64 (wCode c)) ∧ Below w.heap.size w w' := by
  by_cases hin : 1 ≤ c ∧ c ≤ 24
  · obtain ⟨h1, h2⟩ := hin
    have HC := Lib.hid (wCode_lo c h1 h2)
    go_enter Tryz.func123, Tryz.ntmps123
    go_wp2_with fail
    go_returns
    exact ⟨ret_int HC.out.symm, by go_grown⟩
  · have HC := Lib.hid (wCode_hi c hin)
    have hfr := firstIdx_range wideNums c
    have hl : wideNums.length = 8 := rfl
    rw [hl] at hfr
    rcases (show c < 1 ∨ 24 < c by omega) with h0 | h0
    all_goals
      go_enter Tryz.func123, Tryz.ntmps123
      go_wp2_with fail
      refine (above_any _).mono ?_
      rintro e w1 ⟨rfl, hb⟩
      have hz := hb.size
      go_wp2_with fail
      refine (Index_any wideNums c (some ⟨w1.heap.size, 0, none⟩) 8 8 _ (wide_in w1) (by omega)).mono ?_
      rintro e w' ⟨rfl, rfl⟩
      obtain ⟨r, hr⟩ : ∃ r, r = firstIdx wideNums c := ⟨_, rfl⟩
      rw [← hr] at hfr HC ⊢
      clear hr
      by_cases hn : r < 0
      · go_wp2_with fail
        go_returns
        exact ⟨ret_int (by rw [HC.out, if_pos hn]), by go_grown⟩
      · go_wp2_with fail
        go_returns
        exact ⟨ret_int (by rw [HC.out, if_neg (by omega)]), by go_grown⟩

theorem wClosest_lo (c : Int) (h1 : c ≤ 24) : wClosest c = if (1 : Int) ≤ c then c else 1 := by unfold wClosest; omega
set_option maxRecDepth 100000 in
set_option maxHeartbeats 1000000 in
theorem Closest_any (c : Int) (w : World) :
    Calls Tryz.prog 118 #[.int .i64 c] w fun e w' => e = .returned (.int .i64 (wClosest c)) ∧ Below w.heap.size w w' := by
  by_cases h24 : c ≤ 24
  · have HC := Lib.hid (wClosest_lo c h24)
    go_enter Tryz.func118, Tryz.ntmps118
    go_wp2_with fail
    all_goals
      go_returns
      exact ⟨ret_int (by rw [HC.out]; omega), by go_grown⟩
  · have HC : Hid (wClosest c = if c ≤ 26 then 26 else if c ≤ 28 then 28 else if c ≤ 30 then 30 else if c ≤ 32 then 32 else if c ≤ 40 then 40 else if c ≤ 48 then 48 else if c ≤ 56 then 56 else if c ≤ 64 then 64 else 0) := by
      show wClosest c = _
      unfold wClosest; omega
    have i0 : ∀ w, (Instr.index 157 (.agg #[.int .i64 26, .int .i64 28, .int .i64 30, .int .i64 32, .int .i64 40, .int .i64 48, .int .i64 56, .int .i64 64]) (.int .i64 0)).run Tryz.prog w = .ok (.int .i64 26) w := fun _ => by kernel_rfl
    have i1 : ∀ w, (Instr.index 157 (.agg #[.int .i64 26, .int .i64 28, .int .i64 30, .int .i64 32, .int .i64 40, .int .i64 48, .int .i64 56, .int .i64 64]) (.int .i64 1)).run Tryz.prog w = .ok (.int .i64 28) w := fun _ => by kernel_rfl
    have i2 : ∀ w, (Instr.index 157 (.agg #[.int .i64 26, .int .i64 28, .int .i64 30, .int .i64 32, .int .i64 40, .int .i64 48, .int .i64 56, .int .i64 64]) (.int .i64 2)).run Tryz.prog w = .ok (.int .i64 30) w := fun _ => by kernel_rfl
    have i3 : ∀ w, (Instr.index 157 (.agg #[.int .i64 26, .int .i64 28, .int .i64 30, .int .i64 32, .int .i64 40, .int .i64 48, .int .i64 56, .int .i64 64]) (.int .i64 3)).run Tryz.prog w = .ok (.int .i64 32) w := fun _ => by kernel_rfl
    have i4 : ∀ w, (Instr.index 157 (.agg #[.int .i64 26, .int .i64 28, .int .i64 30, .int .i64 32, .int .i64 40, .int .i64 48, .int .i64 56, .int .i64 64]) (.int .i64 4)).run Tryz.prog w = .ok (.int .i64 40) w := fun _ => by kernel_rfl
    have i5 : ∀ w, (Instr.index 157 (.agg #[.int .i64 26, .int .i64 28, .int .i64 30, .int .i64 32, .int .i64 40, .int .i64 48, .int .i64 56, .int .i64 64]) (.int .i64 5)).run Tryz.prog w = .ok (.int .i64 48) w := fun _ => by kernel_rfl
    have i6 : ∀ w, (Instr.index 157 (.agg #[.int .i64 26, .int .i64 28, .int .i64 30, .int .i64 32, .int .i64 40, .int .i64 48, .int .i64 56, .int .i64 64]) (.int .i64 6)).run Tryz.prog w = .ok (.int .i64 56) w := fun _ => by kernel_rfl
    have i7 : ∀ w, (Instr.index 157 (.agg #[.int .i64 26, .int .i64 28, .int .i64 30, .int .i64 32, .int .i64 40, .int .i64 48, .int .i64 56, .int .i64 64]) (.int .i64 7)).run Tryz.prog w = .ok (.int .i64 64) w := fun _ => by kernel_rfl
    go_enter Tryz.func118, Tryz.ntmps118
    go_wp2_with fail
    refine (above_any _).mono ?_
    rintro e w1 ⟨rfl, hb⟩
    have hz := hb.size
    go_wp2_with fail
    go_rounds 9
    all_goals
      go_returns
      exact ⟨ret_int (by rw [HC.out]; omega), by go_grown⟩

end Go.Proofs.YtmejoococajikaaGreat

/- math/bits.Len64 and widths.Bits: how many bits a number needs. -/
namespace Go.Proofs.YtmejoococajikaaGreat
open Go.RowKit
theorem tab_law (T : ByteArray) (hT : ∀ i : Fin 256, T.data.toList[i.val]?.map UInt8.toNat = some (blen i.val)) (n : Nat) (h1 : n < 256) (h : n < T.size) : (T[n]'h).toNat = blen n := by
  have h2 := hT ⟨n, h1⟩
  have h' : n < T.data.toList.length := by simpa using h
  simp only [List.getElem?_eq_getElem h', Option.map_some, Option.some.injEq] at h2
  rw [← h2]
  rfl
theorem blen_256 (n : Nat) (h : n < 256) : blen n ≤ 8 := blen_le n 8 h
theorem tab0 (T : ByteArray) (hT : ∀ i : Fin 256, T.data.toList[i.val]?.map UInt8.toNat = some (blen i.val)) (x : Int) (h0 : 0 ≤ x) (h1 : x < 256) (h : x.toNat < T.size) :
    wrap64 (wrap64 ((T[x.toNat]'h).toNat : Int)) = (blen x.toNat : Int) := by
  rw [tab_law T hT _ (by omega) h]
  have := blen_256 x.toNat (by omega)
  have e : wrap64 (blen x.toNat : Int) = (blen x.toNat : Int) := IntWalk.wrap64_in _ (by omega)
  rw [e, e]
theorem tabK (T : ByteArray) (hT : ∀ i : Fin 256, T.data.toList[i.val]?.map UInt8.toNat = some (blen i.val)) (x : Int) (h0 : 0 ≤ x) (h1 : x < 256) (h : x.toNat < T.size) (k : Int) (hk0 : 0 ≤ k) (hk : k < 64) :
    wrap64 (k + wrap64 ((T[x.toNat]'h).toNat : Int)) = k + (blen x.toNat : Int) := by
  rw [tab_law T hT _ (by omega) h]
  have := blen_256 x.toNat (by omega)
  have e : wrap64 (blen x.toNat : Int) = (blen x.toNat : Int) := IntWalk.wrap64_in _ (by omega)
  rw [e]
  exact IntWalk.wrap64_in _ (by omega)
theorem blen_shift (x : Int) (k : Nat) (m : Int) (hm : m = ((2 ^ k : Nat) : Int)) (h : m ≤ x) : (blen x.toNat : Int) = k + (blen (x / m).toNat : Int) := by
  subst hm
  have hp : (0 : Int) ≤ ((2 ^ k : Nat) : Int) := Int.natCast_nonneg _
  obtain ⟨n, rfl⟩ := Int.eq_ofNat_of_zero_le (show 0 ≤ x by omega)
  rw [← Int.natCast_ediv, Int.toNat_natCast, Int.toNat_natCast, blen_div n k (by omega)]
  omega

set_option maxRecDepth 100000 in
set_option maxHeartbeats 400000 in
theorem Len64_0 (x : Int) (w : World) (h0 : 0 ≤ x) (h1 : x < 256) :
    Calls Tryz.prog 106 #[.int .u64 x] w fun e w' => e = .returned (.int .i64 (blen x.toNat)) ∧ w = w' := by
  go_enter Tryz.func106, Tryz.ntmps106
  go_wp2
  go_ret
  exact ⟨ret_int (tab0 _ (by decide +kernel) x h0 h1 _), rfl⟩
set_option maxRecDepth 100000 in
set_option maxHeartbeats 400000 in
theorem Len64_1 (x : Int) (w : World) (h0 : 256 ≤ x) (h1 : x < 65536) :
    Calls Tryz.prog 106 #[.int .u64 x] w fun e w' => e = .returned (.int .i64 (blen x.toNat)) ∧ w = w' := by
  go_enter Tryz.func106, Tryz.ntmps106
  go_wp2
  go_ret
  refine ⟨ret_int ?_, rfl⟩
  show wrap64 _ = _
  refine (tabK _ (by decide +kernel) _ (by omega) (by omega) _ _ (by omega) (by omega)).trans ?_
  rw [blen_shift x 8 256 rfl (by omega)]
  omega
set_option maxRecDepth 100000 in
set_option maxHeartbeats 400000 in
theorem Len64_2 (x : Int) (w : World) (h0 : 65536 ≤ x) (h1 : x < 16777216) :
    Calls Tryz.prog 106 #[.int .u64 x] w fun e w' => e = .returned (.int .i64 (blen x.toNat)) ∧ w = w' := by
  go_enter Tryz.func106, Tryz.ntmps106
  go_wp2
  go_ret
  refine ⟨ret_int ?_, rfl⟩
  show wrap64 _ = _
  refine (tabK _ (by decide +kernel) _ (by omega) (by omega) _ _ (by omega) (by omega)).trans ?_
  rw [blen_shift x 16 65536 rfl (by omega)]
  omega
set_option maxRecDepth 100000 in
set_option maxHeartbeats 400000 in
theorem Len64_3 (x : Int) (w : World) (h0 : 16777216 ≤ x) (h1 : x < 4294967296) :
    Calls Tryz.prog 106 #[.int .u64 x] w fun e w' => e = .returned (.int .i64 (blen x.toNat)) ∧ w = w' := by
  go_enter Tryz.func106, Tryz.ntmps106
  go_wp2
  go_ret
  refine ⟨ret_int ?_, rfl⟩
  show wrap64 _ = _
  refine (tabK _ (by decide +kernel) _ (by omega) (by omega) _ _ (by omega) (by omega)).trans ?_
  rw [blen_shift x 16 65536 rfl (by omega), blen_shift (x / 65536) 8 256 rfl (by omega)]
  omega
set_option maxRecDepth 100000 in
set_option maxHeartbeats 400000 in
theorem Len64_4 (x : Int) (w : World) (h0 : 4294967296 ≤ x) (h1 : x < 1099511627776) :
    Calls Tryz.prog 106 #[.int .u64 x] w fun e w' => e = .returned (.int .i64 (blen x.toNat)) ∧ w = w' := by
  go_enter Tryz.func106, Tryz.ntmps106
  go_wp2
  go_ret
  refine ⟨ret_int ?_, rfl⟩
  show wrap64 _ = _
  refine (tabK _ (by decide +kernel) _ (by omega) (by omega) _ _ (by omega) (by omega)).trans ?_
  rw [blen_shift x 32 4294967296 rfl (by omega)]
  omega
set_option maxRecDepth 100000 in
set_option maxHeartbeats 400000 in
theorem Len64_5 (x : Int) (w : World) (h0 : 1099511627776 ≤ x) (h1 : x < 281474976710656) :
    Calls Tryz.prog 106 #[.int .u64 x] w fun e w' => e = .returned (.int .i64 (blen x.toNat)) ∧ w = w' := by
  go_enter Tryz.func106, Tryz.ntmps106
  go_wp2
  go_ret
  refine ⟨ret_int ?_, rfl⟩
  show wrap64 _ = _
  refine (tabK _ (by decide +kernel) _ (by omega) (by omega) _ _ (by omega) (by omega)).trans ?_
  rw [blen_shift x 32 4294967296 rfl (by omega), blen_shift (x / 4294967296) 8 256 rfl (by omega)]
  omega
set_option maxRecDepth 100000 in
set_option maxHeartbeats 400000 in
theorem Len64_6 (x : Int) (w : World) (h0 : 281474976710656 ≤ x) (h1 : x < 72057594037927936) :
    Calls Tryz.prog 106 #[.int .u64 x] w fun e w' => e = .returned (.int .i64 (blen x.toNat)) ∧ w = w' := by
  go_enter Tryz.func106, Tryz.ntmps106
  go_wp2
  go_ret
  refine ⟨ret_int ?_, rfl⟩
  show wrap64 _ = _
  refine (tabK _ (by decide +kernel) _ (by omega) (by omega) _ _ (by omega) (by omega)).trans ?_
  rw [blen_shift x 32 4294967296 rfl (by omega), blen_shift (x / 4294967296) 16 65536 rfl (by omega)]
  omega
set_option maxRecDepth 100000 in
set_option maxHeartbeats 400000 in
theorem Len64_7 (x : Int) (w : World) (h0 : 72057594037927936 ≤ x) (h1 : x < 18446744073709551616) :
    Calls Tryz.prog 106 #[.int .u64 x] w fun e w' => e = .returned (.int .i64 (blen x.toNat)) ∧ w = w' := by
  go_enter Tryz.func106, Tryz.ntmps106
  go_wp2
  go_ret
  refine ⟨ret_int ?_, rfl⟩
  show wrap64 _ = _
  refine (tabK _ (by decide +kernel) _ (by omega) (by omega) _ _ (by omega) (by omega)).trans ?_
  rw [blen_shift x 32 4294967296 rfl (by omega), blen_shift (x / 4294967296) 16 65536 rfl (by omega), blen_shift (x / 4294967296 / 65536) 8 256 rfl (by omega)]
  omega
theorem Len64_any (x : Int) (w : World) (h0 : 0 ≤ x) (h1 : x < 18446744073709551616) :
    Calls Tryz.prog 106 #[.int .u64 x] w fun e w' => e = .returned (.int .i64 (blen x.toNat)) ∧ w = w' := by
  by_cases a1 : x < 256
  · exact Len64_0 x w h0 a1
  by_cases a2 : x < 65536
  · exact Len64_1 x w (by omega) a2
  by_cases a3 : x < 16777216
  · exact Len64_2 x w (by omega) a3
  by_cases a4 : x < 4294967296
  · exact Len64_3 x w (by omega) a4
  by_cases a5 : x < 1099511627776
  · exact Len64_4 x w (by omega) a5
  by_cases a6 : x < 281474976710656
  · exact Len64_5 x w (by omega) a6
  by_cases a7 : x < 72057594037927936
  · exact Len64_6 x w (by omega) a7
  · exact Len64_7 x w (by omega) h1

theorem Bits_any (x : Int) (w : World) (h0 : 0 ≤ x) (h1 : x < 18446744073709551616) :
    Calls Tryz.prog 149 #[.int .u64 x] w fun e w' => e = .returned (.int .i64 (blen x.toNat)) ∧ w = w' := by
  go_enter Tryz.func149, Tryz.ntmps149
  go_wp2_with (go_at_call 106; refine (Len64_any _ _ (by omega) (by omega)).mono ?_; rintro e w' ⟨rfl, rfl⟩)
  go_ret
  exact ⟨rfl, rfl⟩
end Go.Proofs.YtmejoococajikaaGreat

/- How many bits several numbers need: widths.Most and its reference. -/
namespace Go.Proofs.YtmejoococajikaaGreat
open Go.RowKit

theorem take_snoc (l : List Int) (k : Nat) (h : k < l.length) : l.take (k + 1) = l.take k ++ [l.getD k 0] := by
  rw [List.take_succ_eq_append_getElem h]; simp [List.getD, List.getElem?_eq_getElem h]
theorem getD_mem (l : List Int) (k : Nat) (h : k < l.length) : l.getD k 0 ∈ l := by
  simp [List.getD, List.getElem?_eq_getElem h]

def orAll (l : List Int) : Nat := l.foldl (fun m x => m ||| x.toNat) 0
def mostBits (l : List Int) : Nat := l.foldl (fun m x => max m (blen x.toNat)) 0
theorem orAll_snoc (l : List Int) (x : Int) : orAll (l ++ [x]) = orAll l ||| x.toNat := by simp [orAll]
theorem mostBits_snoc (l : List Int) (x : Int) : mostBits (l ++ [x]) = max (mostBits l) (blen x.toNat) := by simp [mostBits]
theorem blen_orAll (l : List Int) : blen (orAll l) = mostBits l := by
  have : ∀ (l : List Int) (m : Nat), blen (l.foldl (fun m x => m ||| x.toNat) m) = l.foldl (fun m x => max m (blen x.toNat)) (blen m) := by
    intro l
    induction l with
    | nil => intro m; rfl
    | cons a l ih => intro m; rw [List.foldl_cons, List.foldl_cons, ih, blen_or]
  exact this l 0
theorem orAll_lt (l : List Int) (h : U64 l) : orAll l < 18446744073709551616 := by
  have : ∀ (l : List Int) (m : Nat), U64 l → m < 2 ^ 64 → l.foldl (fun m x => m ||| x.toNat) m < 2 ^ 64 := by
    intro l
    induction l with
    | nil => intro m _ h; exact h
    | cons a l ih =>
      intro m hl hm
      rw [List.foldl_cons]
      have := hl a List.mem_cons_self
      exact ih _ (fun x hx => hl x (List.mem_cons_of_mem _ hx)) (Nat.or_lt_two_pow hm (by omega))
  exact this l 0 h (by omega)
theorem U64.take {l : List Int} (h : U64 l) (k : Nat) : U64 (l.take k) := fun x hx => h x (List.mem_of_mem_take hx)
theorem U8.take {l : List Int} (h : U8 l) (k : Nat) : U8 (l.take k) := fun x hx => h x (List.mem_of_mem_take hx)
theorem U8.drop {l : List Int} (h : U8 l) (k : Nat) : U8 (l.drop k) := fun x hx => h x (List.mem_of_mem_drop hx)
theorem mostBits_le (l : List Int) (h : U64 l) : mostBits l ≤ 64 := by rw [← blen_orAll]; exact blen_64 _ (orAll_lt l h)

set_option maxRecDepth 100000 in
set_option maxHeartbeats 400000 in
theorem Most_any (l : List Int) (A : Option Addr) (n cap : Nat) (w : World) (hr : Ri w .u64 A n l) (hu : U64 l) (hc : n ≤ 9223372036854775807) :
    Calls Tryz.prog 119 #[.slice A n cap] w fun e w' => e = .returned (.int .i64 (mostBits l)) ∧ w = w' := by
  have HN := Lib.hid hr.len
  have HR := Lib.hid hr; clear hr
  have HU := Lib.hid hu; clear hu
  go_enter Tryz.func119, Tryz.ntmps119
  go_wp2_with fail
  go_loop [3, 5, 8] (fun a _ i => ∃ k m : Nat, k ≤ n ∧ i = .int .i64 k ∧ a = .int .u64 m ∧ m < 18446744073709551616 ∧ Hid (m = orAll (l.take k))) (fun _ _ i => n - (intOf i).toNat)
  case atStart => exact ⟨0, 0, Nat.zero_le _, rfl, rfl, by omega, Lib.hid (by simp [orAll])⟩
  case round =>
    obtain ⟨k, m, hk, rfl, rfl, hm, hmo⟩ := hrel
    by_cases hlt : k < n
    · have hkl : k < l.length := by rw [HN.out]; exact hlt
      obtain ⟨b, o, hA, _, hcell⟩ := HR.out.at_ hlt
      subst hA
      have hy := HU.out _ (getD_mem l k hkl)
      obtain ⟨y, hyy⟩ : ∃ y : Nat, (y : Int) = l.getD k 0 := ⟨(l.getD k 0).toNat, by omega⟩
      rw [← hyy] at hcell hy
      obtain ⟨_, hy1⟩ := hy
      have HY := Lib.hid hyy; clear hyy hkl
      go_wp2
      go_round
      case rel =>
        refine ⟨k + 1, m ||| y, by omega, by go_num, by rw [u64_or_nat _ _ (by omega) (by omega)], Nat.or_lt_two_pow (n := 64) (by omega) (by omega), Lib.hid ?_⟩
        rw [take_snoc l k (by rw [HN.out]; exact hlt), orAll_snoc, ← hmo.out, ← HY.out]; rfl
      case measure => simp [intOf]; omega
    · go_wp2_with (go_at_call 149; refine (Bits_any _ _ (by omega) (by omega)).mono ?_; rintro e w' ⟨rfl, rfl⟩)
      go_ret
      refine ⟨ret_int ?_, rfl⟩
      rw [hmo.out, blen_orAll, List.take_of_length_le (by rw [HN.out]; omega)]

theorem div2_pow (x k : Nat) : x / 2 ^ k / 2 = x / 2 ^ (k + 1) := by rw [Nat.div_div_eq_div_mul, Nat.pow_succ]
end Go.Proofs.YtmejoococajikaaGreat

/- The reference's codes and closest widths; the document's examples. -/
namespace Go.Proofs.YtmejoococajikaaGreat
open Go.RowKit

set_option maxRecDepth 100000 in
set_option maxHeartbeats 400000 in
theorem refCode_any (x : Int) (w : World) :
    Calls Tryz.prog 91 #[.int .i64 x] w fun e w' => e = .returned (.int .i64 (wCode x)) ∧ w = w' := by
  go_enter Tryz.func91, Tryz.ntmps91
  go_wp2_with fail
  go_loop [3] (fun i => ∃ k : Nat, k ≤ 32 ∧ i = .int .i64 k ∧ Hid (∀ d : Nat, d < k → wOf d ≠ x)) (fun i => 32 - (intOf i).toNat)
  case atStart => exact ⟨0, Nat.zero_le _, rfl, Lib.hid (fun d hd => absurd hd (by omega))⟩
  case round =>
    obtain ⟨k, hk, rfl, hno⟩ := hrel
    by_cases hlt : k < 32
    · have hr := wOf_range k
      go_wp2_with fail
      refine (refOf_any _ _ (by omega) (by omega)).mono ?_
      rintro e w' ⟨rfl, rfl⟩
      obtain ⟨t, ht⟩ : ∃ t, t = wOf k := ⟨_, rfl⟩
      rw [← ht] at hr ⊢
      have HT := Lib.hid ht; clear ht
      by_cases hx : t = x
      · subst hx
        go_wp2_with fail
        go_ret
        exact ⟨ret_int (wCode_of k _ (by omega) (by omega) HT.out.symm).symm, rfl⟩
      · have hne : (t == x) = false := by simpa using hx
        go_wp2_with fail
        go_round
        case rel =>
          refine ⟨k + 1, by omega, by go_num, Lib.hid fun d hd => ?_⟩
          by_cases e : d = k
          · subst e; rw [← HT.out]; exact hx
          · exact hno.out d (by omega)
        case measure => simp [intOf]; omega
    · go_wp2_with fail
      go_ret
      exact ⟨ret_int (wCode_none x fun c hc => hno.out c (by omega)).symm, rfl⟩

set_option maxRecDepth 100000 in
set_option maxHeartbeats 400000 in
theorem refClosest_any (x : Int) (w : World) :
    Calls Tryz.prog 87 #[.int .i64 x] w fun e w' => e = .returned (.int .i64 (wClosest x)) ∧ w = w' := by
  go_enter Tryz.func87, Tryz.ntmps87
  go_wp2_with fail
  go_loop [3] (fun i => ∃ k : Nat, k ≤ 32 ∧ i = .int .i64 k ∧ Hid (∀ d : Nat, d < k → wOf d < x)) (fun i => 32 - (intOf i).toNat)
  case atStart => exact ⟨0, Nat.zero_le _, rfl, Lib.hid (fun d hd => absurd hd (by omega))⟩
  case round =>
    obtain ⟨k, hk, rfl, hno⟩ := hrel
    by_cases hlt : k < 32
    · have hr := wOf_range k
      go_wp2_with fail
      refine (refOf_any _ _ (by omega) (by omega)).mono ?_
      rintro e w' ⟨rfl, rfl⟩
      obtain ⟨t, ht⟩ : ∃ t, t = wOf k := ⟨_, rfl⟩
      rw [← ht] at hr ⊢
      have HT := Lib.hid ht; clear ht
      by_cases hx : x ≤ t
      · go_wp2_with fail
        refine (refOf_any _ _ (by omega) (by omega)).mono ?_
        rintro e w' ⟨rfl, rfl⟩
        go_wp2_with fail
        go_ret
        exact ⟨ret_int (wClosest_of x k hlt (by rw [← HT.out]; exact hx) fun d hd => by have := hno.out d hd; omega), rfl⟩
      · go_wp2_with fail
        go_round
        case rel =>
          refine ⟨k + 1, by omega, by go_num, Lib.hid fun d hd => ?_⟩
          by_cases e : d = k
          · subst e; rw [← HT.out]; omega
          · exact hno.out d (by omega)
        case measure => simp [intOf]; omega
    · go_wp2_with fail
      go_ret
      exact ⟨ret_int (wClosest_none x fun c hc => by have := hno.out c (by omega); omega).symm, rfl⟩
end Go.Proofs.YtmejoococajikaaGreat

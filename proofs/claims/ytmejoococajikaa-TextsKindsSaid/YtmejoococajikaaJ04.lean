/- Joined texts: Widths. Each has its own head line. No condition beyond those that its theorems state. -/
import Derived.Test.YtmejoococajikaaProg
import Derived.Test.YtmejoococajikaaJ03
import Derived.Test.YtmejoococajikaaJ01
set_option linter.unusedVariables false

/- The walks of package widths (layer 2) and of its reference. -/
namespace Go.Proofs.Ytmejoococajikaa
open Go.RowKit


set_option maxRecDepth 100000 in
set_option maxHeartbeats 400000 in
theorem above_any (w : World) :
    Calls Try.prog 66 #[] w fun e w' => e = .returned (.agg #[.int .i64 26, .int .i64 28, .int .i64 30, .int .i64 32, .int .i64 40, .int .i64 48, .int .i64 56, .int .i64 64]) ∧ Below w.heap.size w w' := by
  go_enter Try.func66, Try.ntmps66
  go_wp2
  go_returns
  exact ⟨rfl, by go_grown⟩

theorem wOf_lo (c : Int) (h0 : 0 ≤ c) (h1 : c < 24) : wOf c = c + 1 := by unfold wOf; omega
theorem wOf_out (c : Int) (h0 : c < 0 ∨ 31 < c) : wOf c = 0 := by unfold wOf; omega

set_option maxRecDepth 100000 in
set_option maxHeartbeats 1000000 in
theorem Of_any (c : Int) (w : World) :
    Calls Try.prog 92 #[.int .i64 c] w fun e w' => e = .returned (.int .i64 (wOf c)) ∧ Below w.heap.size w w' := by
  by_cases h0 : c < 0
  · have H := Lib.hid (wOf_out c (.inl h0))
    go_enter Try.func92, Try.ntmps92
    go_wp2_with (go_at_call 66; refine (above_any _).mono ?_; rintro e w1 ⟨rfl, hb⟩; obtain hz := hb.size)
    go_returns
    exact ⟨ret_int H.out.symm, by go_grown⟩
  · by_cases h1 : c < 24
    · have H := Lib.hid (wOf_lo c (by omega) h1)
      go_enter Try.func92, Try.ntmps92
      go_wp2_with (go_at_call 66; refine (above_any _).mono ?_; rintro e w1 ⟨rfl, hb⟩; obtain hz := hb.size)
      go_returns
      exact ⟨ret_int H.out.symm, by go_grown⟩
    · by_cases h2 : 31 < c
      · have H := Lib.hid (wOf_out c (.inr h2))
        go_enter Try.func92, Try.ntmps92
        go_wp2_with (go_at_call 66; refine (above_any _).mono ?_; rintro e w1 ⟨rfl, hb⟩; obtain hz := hb.size)
        go_returns
        exact ⟨ret_int H.out.symm, by go_grown⟩
      · have : c = 24 ∨ c = 25 ∨ c = 26 ∨ c = 27 ∨ c = 28 ∨ c = 29 ∨ c = 30 ∨ c = 31 := by omega
        rcases this with rfl | rfl | rfl | rfl | rfl | rfl | rfl | rfl <;> (
          go_enter Try.func92, Try.ntmps92
          go_wp2_with (go_at_call 66; refine (above_any _).mono ?_; rintro e w1 ⟨rfl, hb⟩; obtain hz := hb.size)
          go_returns
          exact ⟨rfl, by go_grown⟩)

/-- The first place of a number in a list. -/
def firstIdx (l : List Int) (x : Int) : Int := match l.findIdx? (· == x) with | some i => i | none => -1
theorem firstIdx_of (l : List Int) (x : Int) (k : Nat) (hk : k < l.length) (hx : l.getD k 0 = x) (hl : ∀ j, j < k → l.getD j 0 ≠ x) : firstIdx l x = k := by
  have : l.findIdx? (· == x) = some k := by
    rw [List.findIdx?_eq_some_iff_getElem]
    refine ⟨hk, by simp [List.getD, List.getElem?_eq_getElem hk] at hx; simp [hx], fun j hj => ?_⟩
    have hj' : j < l.length := by omega
    have := hl j hj
    simp [List.getD, List.getElem?_eq_getElem hj'] at this
    simpa using this
  unfold firstIdx; rw [this]
theorem firstIdx_none (l : List Int) (x : Int) (hl : ∀ j, j < l.length → l.getD j 0 ≠ x) : firstIdx l x = -1 := by
  have : l.findIdx? (· == x) = none := by
    rw [List.findIdx?_eq_none_iff]
    intro y hy
    obtain ⟨j, hj, rfl⟩ := List.getElem_of_mem hy
    have := hl j hj
    simp [List.getD, List.getElem?_eq_getElem hj] at this
    simpa using this
  unfold firstIdx; rw [this]

set_option maxRecDepth 100000 in
set_option maxHeartbeats 400000 in
theorem Index_any (l : List Int) (x : Int) (A : Option Addr) (n cap : Nat) (w : World) (hr : Ri w .i64 A n l) (hc : n ≤ 9223372036854775807) :
    Calls Try.prog 72 #[.slice A n cap, .int .i64 x] w fun e w' => e = .returned (.int .i64 (firstIdx l x)) ∧ w = w' := by
  have HN := Lib.hid hr.len
  have HR := Lib.hid hr; clear hr
  go_enter Try.func72, Try.ntmps72
  go_wp2
  go_loop [5, 8] (fun _ i => ∃ k : Nat, k ≤ n ∧ i = .int .i64 k ∧ Hid (∀ j, j < k → l.getD j 0 ≠ x)) (fun _ i => n - (intOf i).toNat)
  case atStart => exact ⟨0, Nat.zero_le _, rfl, fun j hj => absurd hj (by omega)⟩
  case round =>
    obtain ⟨k, hk, rfl, hno⟩ := hrel
    by_cases hlt : k < n
    · obtain ⟨b, o, hA, _, hcell⟩ := HR.out.at_ (j := k) hlt
      subst hA
      obtain ⟨y, hy⟩ : ∃ y, y = l.getD k 0 := ⟨_, rfl⟩
      rw [← hy] at hcell
      have HY := Lib.hid hy; clear hy
      by_cases hxy : x = y
      · subst hxy
        go_wp2
        go_ret
        exact ⟨ret_int (firstIdx_of l _ k (by rw [HN.out]; exact hlt) HY.out.symm hno.out).symm, rfl⟩
      · have hne : (x == y) = false := by simpa using hxy
        go_wp2
        go_round
        case rel =>
          refine ⟨k + 1, by omega, by go_num, fun j hj => ?_⟩
          by_cases e : j = k
          · subst e; rw [← HY.out]; exact fun h => hxy h.symm
          · exact hno.out j (by omega)
        case measure => simp [intOf]; omega
    · go_wp2
      go_ret
      refine ⟨ret_int (firstIdx_none l x fun j hj => hno.out j ?_).symm, rfl⟩
      rw [HN.out] at hj; omega

theorem wCode_lo (c : Int) (h0 : 1 ≤ c) (h1 : c ≤ 24) : wCode c = c - 1 := by unfold wCode; omega
def wideNums : List Int := [26, 28, 30, 32, 40, 48, 56, 64]
theorem wCode_hi (c : Int) (h0 : ¬ (1 ≤ c ∧ c ≤ 24)) : wCode c = if firstIdx wideNums c < 0 then -1 else 24 + firstIdx wideNums c := by
  unfold wCode
  rw [if_neg h0]
  have hf : firstIdx wideNums c = if c = 26 then 0 else if c = 28 then 1 else if c = 30 then 2 else if c = 32 then 3 else if c = 40 then 4 else if c = 48 then 5 else if c = 56 then 6 else if c = 64 then 7 else -1 := by
    simp only [firstIdx, wideNums, List.findIdx?_cons, List.findIdx?_nil]
    by_cases h1 : c = 26
    · subst h1; rfl
    by_cases h2 : c = 28
    · subst h2; rfl
    by_cases h3 : c = 30
    · subst h3; rfl
    by_cases h4 : c = 32
    · subst h4; rfl
    by_cases h5 : c = 40
    · subst h5; rfl
    by_cases h6 : c = 48
    · subst h6; rfl
    by_cases h7 : c = 56
    · subst h7; rfl
    by_cases h8 : c = 64
    · subst h8; rfl
    have e : ∀ k : Int, c ≠ k → (k == c) = false := fun k hk => by simpa using fun h => hk h.symm
    simp [h1, h2, h3, h4, h5, h6, h7, h8, e _ h1, e _ h2, e _ h3, e _ h4, e _ h5, e _ h6, e _ h7, e _ h8]
  rw [hf]; omega
theorem firstIdx_range (l : List Int) (c : Int) : -1 ≤ firstIdx l c ∧ firstIdx l c < l.length := by
  unfold firstIdx
  cases h : l.findIdx? (· == c) with
  | none => simp; omega
  | some i =>
    have := (List.findIdx?_eq_some_iff_getElem.1 h).1
    simp; omega

theorem wide_in (w : World) : Ri (w.alloc (.cells #[.int .i64 26, .int .i64 28, .int .i64 30, .int .i64 32, .int .i64 40, .int .i64 48, .int .i64 56, .int .i64 64] 101)) .i64 (some ⟨w.heap.size, 0, none⟩) 8 wideNums := by
  refine Ri.mk_ rfl (by simp) fun j hj => ?_
  have : j = 0 ∨ j = 1 ∨ j = 2 ∨ j = 3 ∨ j = 4 ∨ j = 5 ∨ j = 6 ∨ j = 7 := by omega
  rcases this with rfl | rfl | rfl | rfl | rfl | rfl | rfl | rfl <;> simp [wideNums, go_sem]
set_option maxRecDepth 100000 in
set_option maxHeartbeats 1000000 in
theorem Code_any (c : Int) (w : World) :
    Calls Try.prog 52 #[.int .i64 c] w fun e w' => e = .returned (.int .i64 (wCode c)) ∧ Below w.heap.size w w' := by
  by_cases hin : 1 ≤ c ∧ c ≤ 24
  · obtain ⟨h1, h2⟩ := hin
    have HC := Lib.hid (wCode_lo c h1 h2)
    go_enter Try.func52, Try.ntmps52
    go_wp2_with fail
    go_returns
    exact ⟨ret_int HC.out.symm, by go_grown⟩
  · have HC := Lib.hid (wCode_hi c hin)
    have hfr := firstIdx_range wideNums c
    have hl : wideNums.length = 8 := rfl
    rw [hl] at hfr
    rcases (show c < 1 ∨ 24 < c by omega) with h0 | h0
    all_goals
      go_enter Try.func52, Try.ntmps52
      go_wp2_with fail
      refine (above_any _).mono ?_
      rintro e w1 ⟨rfl, hb⟩
      have hz := hb.size
      go_wp2_with fail
      refine (Index_any wideNums c (some ⟨w1.heap.size, 0, none⟩) 8 8 _ (wide_in w1) (by omega)).mono ?_
      rintro e w' ⟨rfl, rfl⟩
      obtain ⟨r, hr⟩ : ∃ r, r = firstIdx wideNums c := ⟨_, rfl⟩
      rw [← hr] at hfr HC ⊢
      clear hr
      by_cases hn : r < 0
      · go_wp2_with fail
        go_returns
        exact ⟨ret_int (by rw [HC.out, if_pos hn]), by go_grown⟩
      · go_wp2_with fail
        go_returns
        exact ⟨ret_int (by rw [HC.out, if_neg (by omega)]), by go_grown⟩

theorem wClosest_lo (c : Int) (h1 : c ≤ 24) : wClosest c = if (1 : Int) ≤ c then c else 1 := by unfold wClosest; omega
set_option maxRecDepth 100000 in
set_option maxHeartbeats 1000000 in
theorem Closest_any (c : Int) (w : World) :
    Calls Try.prog 47 #[.int .i64 c] w fun e w' => e = .returned (.int .i64 (wClosest c)) ∧ Below w.heap.size w w' := by
  by_cases h24 : c ≤ 24
  · have HC := Lib.hid (wClosest_lo c h24)
    go_enter Try.func47, Try.ntmps47
    go_wp2_with fail
    all_goals
      go_returns
      exact ⟨ret_int (by rw [HC.out]; omega), by go_grown⟩
  · have HC : Hid (wClosest c = if c ≤ 26 then 26 else if c ≤ 28 then 28 else if c ≤ 30 then 30 else if c ≤ 32 then 32 else if c ≤ 40 then 40 else if c ≤ 48 then 48 else if c ≤ 56 then 56 else if c ≤ 64 then 64 else 0) := by
      show wClosest c = _
      unfold wClosest; omega
    have i0 : ∀ w, (Instr.index 101 (.agg #[.int .i64 26, .int .i64 28, .int .i64 30, .int .i64 32, .int .i64 40, .int .i64 48, .int .i64 56, .int .i64 64]) (.int .i64 0)).run Try.prog w = .ok (.int .i64 26) w := fun _ => by kernel_rfl
    have i1 : ∀ w, (Instr.index 101 (.agg #[.int .i64 26, .int .i64 28, .int .i64 30, .int .i64 32, .int .i64 40, .int .i64 48, .int .i64 56, .int .i64 64]) (.int .i64 1)).run Try.prog w = .ok (.int .i64 28) w := fun _ => by kernel_rfl
    have i2 : ∀ w, (Instr.index 101 (.agg #[.int .i64 26, .int .i64 28, .int .i64 30, .int .i64 32, .int .i64 40, .int .i64 48, .int .i64 56, .int .i64 64]) (.int .i64 2)).run Try.prog w = .ok (.int .i64 30) w := fun _ => by kernel_rfl
    have i3 : ∀ w, (Instr.index 101 (.agg #[.int .i64 26, .int .i64 28, .int .i64 30, .int .i64 32, .int .i64 40, .int .i64 48, .int .i64 56, .int .i64 64]) (.int .i64 3)).run Try.prog w = .ok (.int .i64 32) w := fun _ => by kernel_rfl
    have i4 : ∀ w, (Instr.index 101 (.agg #[.int .i64 26, .int .i64 28, .int .i64 30, .int .i64 32, .int .i64 40, .int .i64 48, .int .i64 56, .int .i64 64]) (.int .i64 4)).run Try.prog w = .ok (.int .i64 40) w := fun _ => by kernel_rfl
    have i5 : ∀ w, (Instr.index 101 (.agg #[.int .i64 26, .int .i64 28, .int .i64 30, .int .i64 32, .int .i64 40, .int .i64 48, .int .i64 56, .int .i64 64]) (.int .i64 5)).run Try.prog w = .ok (.int .i64 48) w := fun _ => by kernel_rfl
    have i6 : ∀ w, (Instr.index 101 (.agg #[.int .i64 26, .int .i64 28, .int .i64 30, .int .i64 32, .int .i64 40, .int .i64 48, .int .i64 56, .int .i64 64]) (.int .i64 6)).run Try.prog w = .ok (.int .i64 56) w := fun _ => by kernel_rfl
    have i7 : ∀ w, (Instr.index 101 (.agg #[.int .i64 26, .int .i64 28, .int .i64 30, .int .i64 32, .int .i64 40, .int .i64 48, .int .i64 56, .int .i64 64]) (.int .i64 7)).run Try.prog w = .ok (.int .i64 64) w := fun _ => by kernel_rfl
    go_enter Try.func47, Try.ntmps47
    go_wp2_with fail
    refine (above_any _).mono ?_
    rintro e w1 ⟨rfl, hb⟩
    have hz := hb.size
    go_wp2_with fail
    go_rounds 9
    all_goals
      go_returns
      exact ⟨ret_int (by rw [HC.out]; omega), by go_grown⟩

end Go.Proofs.Ytmejoococajikaa

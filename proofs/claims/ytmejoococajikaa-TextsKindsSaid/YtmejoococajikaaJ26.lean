/- Joined texts: PlainPa. Each has its own head line. No condition beyond those that its theorems state. -/
import Derived.Test.YtmejoococajikaaJ11
import Derived.Test.YtmejoococajikaaJ25
set_option linter.unusedVariables false

/- Patched: plain words and laws. -/
namespace Go.Proofs.Ytmejoococajikaa
open Go.RowKit

/-- Pairs, and one more for a number that stands at i; what is farther than 255 takes pairs of nothing ahead. -/
def gapsAt (P : List (Int × Int)) (last i : Nat) (p : Int) : List (Int × Int) :=
  P ++ List.replicate ((i - last - 1) / 255) (255, 0) ++ [(((i - last - 255 * ((i - last - 1) / 255) : Nat) : Int), p)]
theorem gapsAt_far (P : List (Int × Int)) (last i : Nat) (p : Int) (h : 255 < i - last) : gapsAt (P ++ [(255, 0)]) (last + 255) i p = gapsAt P last i p := by
  unfold gapsAt
  have e : (i - last - 1) / 255 = (i - (last + 255) - 1) / 255 + 1 := by omega
  rw [e, List.replicate_succ, List.append_assoc P [(255, 0)]]
  rw [show i - (last + 255) - 255 * ((i - (last + 255) - 1) / 255) = i - last - 255 * ((i - (last + 255) - 1) / 255 + 1) from by omega]
  simp
theorem gapsAt_near (P : List (Int × Int)) (last i : Nat) (p : Int) (h : i - last ≤ 255) : gapsAt P last i p = P ++ [(((i - last : Nat) : Int), p)] := by
  unfold gapsAt
  have e : (i - last - 1) / 255 = 0 := by omega
  rw [e]; simp
theorem gapsAt_len (P : List (Int × Int)) (last i : Nat) (p : Int) : (gapsAt P last i p).length = P.length + (i - last - 1) / 255 + 1 := by
  unfold gapsAt; simp; omega
/-- The pairs of the first j numbers, and where the last one stands. -/
def pairsN (u : List Int) (x : Nat) : Nat → List (Int × Int) × Nat
  | 0 => ([], 0)
  | j + 1 => if u.getD j 0 / 2 ^ x = 0 then pairsN u x j else (gapsAt (pairsN u x j).1 (pairsN u x j).2 j (u.getD j 0 / 2 ^ x), j)
theorem pairsN_last (u : List Int) (x j : Nat) : (pairsN u x j).2 ≤ j := by
  induction j with
  | zero => exact Nat.le_refl _
  | succ j ih =>
    rw [pairsN]; split
    · omega
    · exact Nat.le_succ _
theorem pairsN_len (u : List Int) (x j : Nat) (h : j ≤ 512) : (pairsN u x j).1.length ≤ 3 * j := by
  induction j with
  | zero => exact Nat.le_refl _
  | succ j ih =>
    have := ih (by omega)
    rw [pairsN]
    split
    · omega
    · rw [gapsAt_len]; omega
theorem pairsN_zero (u : List Int) (x j : Nat) (h : u.getD j 0 / 2 ^ x = 0) : pairsN u x (j + 1) = pairsN u x j := by rw [pairsN, if_pos h]
theorem pairsN_some (u : List Int) (x j : Nat) (h : ¬ u.getD j 0 / 2 ^ x = 0) : pairsN u x (j + 1) = (gapsAt (pairsN u x j).1 (pairsN u x j).2 j (u.getD j 0 / 2 ^ x), j) := by rw [pairsN, if_neg h]
def upL (l : List Int) : List Int := l.map fun y => y - minL l
def lowL (u : List Int) (x : Nat) : List Int := u.map fun y => y % 2 ^ x
theorem upL_len (l : List Int) : (upL l).length = l.length := by simp [upL]
theorem upL_at (l : List Int) (j : Nat) (h : j < l.length) : (upL l).getD j 0 = l.getD j 0 - minL l := by
  simp [upL, List.getD, List.getElem?_map, List.getElem?_eq_getElem h]
theorem minL_at (l : List Int) (j : Nat) (h : j < l.length) : minL l ≤ l.getD j 0 := (minL_le l _).2 _ (getD_mem l j h)
theorem minL_in (l : List Int) (h : 0 < l.length) : minL l ∈ l := by
  unfold minL
  rcases minL_mem l (l.getD 0 0) with e | e
  · rw [e]; exact getD_mem l 0 h
  · exact e
theorem minL_i64x {l : List Int} (hu : I64 l) (h : 0 < l.length) : I64x (minL l) := hu _ (minL_in l h)
theorem lowL_snoc (u : List Int) (x j : Nat) (h : j < u.length) : lowL (u.take (j + 1)) x = lowL (u.take j) x ++ [u.getD j 0 % 2 ^ x] := by
  unfold lowL; rw [take_snoc u j h, List.map_append]; rfl
/-- How many bits the gaps and the patches need. -/
def gN (P : List (Int × Int)) : Nat := max 1 (mostBits (P.map Prod.fst))
def pN (P : List (Int × Int)) : Nat := max 1 (mostBits (P.map Prod.snd))
theorem gN_snoc (P : List (Int × Int)) (a b : Int) : gN (P ++ [(a, b)]) = max (gN P) (blen a.toNat) := by
  unfold gN; rw [List.map_append, List.map_singleton, mostBits_snoc]; simp only; omega
theorem pN_snoc (P : List (Int × Int)) (a b : Int) : pN (P ++ [(a, b)]) = max (pN P) (blen b.toNat) := by
  unfold pN; rw [List.map_append, List.map_singleton, mostBits_snoc]; simp only; omega
theorem diffR_up (a b : Int) (h : a ≤ b) : diffR a b = if b - a ≥ 9223372036854775808 then (0, false, false) else (b - a, false, true) := by
  unfold diffR; rw [if_neg (show ¬ b < a by omega), decide_eq_false (show ¬ b < a by omega)]
def nearL (l : List Int) (j : Nat) : Bool := (l.take j).all fun y => decide (y - minL l < 9223372036854775808)
theorem nearL_snoc (l : List Int) (j : Nat) (h : j < l.length) : nearL l (j + 1) = (nearL l j && decide (l.getD j 0 - minL l < 9223372036854775808)) := by
  unfold nearL; rw [take_snoc l j h, List.all_append]; simp
theorem nearL_bad (l : List Int) (n j : Nat) (hj : j < n) (hn : n ≤ l.length) (h : ¬ l.getD j 0 - minL l < 9223372036854775808) : nearL l n = false := by
  unfold nearL
  rw [List.all_eq_false]
  refine ⟨l.getD j 0, ?_, by simpa using h⟩
  rw [List.mem_take_iff_getElem]
  refine ⟨j, by omega, ?_⟩
  simp [List.getD, List.getElem?_eq_getElem (show j < l.length by omega)]
theorem nearL_at (l : List Int) (n j : Nat) (hj : j < n) (hn : n ≤ l.length) (h : nearL l n = true) : l.getD j 0 - minL l < 9223372036854775808 := by
  by_cases hb : l.getD j 0 - minL l < 9223372036854775808
  · exact hb
  · rw [nearL_bad l n j hj hn hb] at h; cases h
/-- All pairs. -/
def prL (l : List Int) (x : Nat) : List (Int × Int) := (pairsN (upL l) x l.length).1
def fitsPa (l : List Int) (x : Nat) : Bool :=
  decide ((prL l x).length ≤ 31) && decide ((gN (prL l x) : Int) + wClosest (pN (prL l x)) ≤ 64) && decide ((x : Int) + wClosest (pN (prL l x)) ≤ 64)
/-- Each pair's numbers are in their ranges. -/
def PairsR (P : List (Int × Int)) : Prop := ∀ q ∈ P, 0 ≤ q.1 ∧ q.1 ≤ 600 ∧ 0 ≤ q.2 ∧ q.2 < 18446744073709551616
theorem PairsR.snoc {P : List (Int × Int)} (h : PairsR P) {a b : Int} (ha : 0 ≤ a ∧ a ≤ 600) (hb : 0 ≤ b ∧ b < 18446744073709551616) : PairsR (P ++ [(a, b)]) := by
  intro q hq
  rcases List.mem_append.1 hq with h1 | h1
  · exact h q h1
  · rw [List.mem_singleton] at h1; subst h1; exact ⟨ha.1, ha.2, hb.1, hb.2⟩
theorem PairsR.gaps {P : List (Int × Int)} (h : PairsR P) {last i : Nat} {p : Int} (_hi : i - last ≤ 512) (hp : 0 ≤ p ∧ p < 18446744073709551616) : PairsR (gapsAt P last i p) := by
  unfold gapsAt
  intro q hq
  rcases List.mem_append.1 hq with h1 | h1
  · rcases List.mem_append.1 h1 with h2 | h2
    · exact h q h2
    · rw [List.mem_replicate] at h2; rw [h2.2]; decide
  · rw [List.mem_singleton] at h1; subst h1; simp only; omega
theorem div_range (a : Int) (x : Nat) (h : 0 ≤ a ∧ a < 18446744073709551616) : 0 ≤ a / 2 ^ x ∧ a / 2 ^ x < 18446744073709551616 := by
  have h1 : (0 : Int) < 2 ^ x := Int.pow_pos (by decide)
  refine ⟨Int.ediv_nonneg h.1 (by omega), ?_⟩
  have := Int.ediv_le_self (a := a) (b := 2 ^ x) h.1
  omega
theorem pairsN_range (u : List Int) (hu : U64 u) (x j : Nat) (h : j ≤ 512) (hj : j ≤ u.length) : PairsR (pairsN u x j).1 := by
  induction j with
  | zero => intro q hq; simp [pairsN] at hq
  | succ j ih =>
    have h1 := ih (by omega) (by omega)
    rw [pairsN]
    split
    · exact h1
    · exact h1.gaps (by omega) (div_range _ x (hu _ (getD_mem u j (by omega))))
theorem upL_u64 {l : List Int} (hu : I64 l) : U64 (upL l) := by
  intro z hz
  obtain ⟨y, hy, rfl⟩ := List.mem_map.1 hz
  have h1 := (minL_le l (l.getD 0 0)).2 y hy
  have h2 := hu y hy
  have h3 : 0 < l.length := List.length_pos_of_mem hy
  have h4 := minL_i64x hu h3
  unfold I64x at h4
  unfold minL at h4 ⊢
  omega
theorem prL_range {l : List Int} (hu : I64 l) (x : Nat) (h : l.length ≤ 512) : PairsR (prL l x) := pairsN_range (upL l) (upL_u64 hu) x l.length h (by rw [upL_len]; exact Nat.le_refl _)
theorem PairsR.gaps64 {P : List (Int × Int)} (h : PairsR P) : U64 (P.map Prod.fst) := by
  intro z hz
  obtain ⟨q, hq, rfl⟩ := List.mem_map.1 hz
  have := h q hq; omega
theorem PairsR.patch64 {P : List (Int × Int)} (h : PairsR P) : U64 (P.map Prod.snd) := by
  intro z hz
  obtain ⟨q, hq, rfl⟩ := List.mem_map.1 hz
  have := h q hq; omega
theorem PairsR.gN_le {P : List (Int × Int)} (h : PairsR P) : gN P ≤ 64 ∧ pN P ≤ 64 := by
  have h1 := mostBits_le _ h.gaps64
  have h2 := mostBits_le _ h.patch64
  unfold gN pN; omega
theorem wClosest_le (b : Int) : 0 ≤ wClosest b ∧ wClosest b ≤ 64 := by unfold wClosest; omega
theorem and_low64 (u : Int) (x : Nat) (hu : 0 ≤ u ∧ u < 18446744073709551616) (hx : x < 64) : bits BinOp.and IntKind.u64 u (IntKind.u64.wrap (IntKind.u64.wrap (2 ^ x) - 1)) = u % 2 ^ x := by
  have h1 : 1 ≤ 2 ^ x := Nat.one_le_two_pow
  have h2 : 2 ^ x ≤ 2 ^ 63 := Nat.pow_le_pow_right (by omega) (by omega)
  have e1 : IntKind.u64.wrap (2 ^ x) = ((2 ^ x : Nat) : Int) := by rw [show (2 : Int) ^ x = ((2 ^ x : Nat) : Int) from by simp, IntKind.wrap_u64]; omega
  have e2 : IntKind.u64.wrap (((2 ^ x : Nat) : Int) - 1) = ((2 ^ x - 1 : Nat) : Int) := by rw [IntKind.wrap_u64]; omega
  obtain ⟨n, rfl⟩ := Int.eq_ofNat_of_zero_le hu.1
  rw [e1, e2, u64_and_nat _ _ (by omega) (by omega), Nat.and_two_pow_sub_one_eq_mod]
  simp
end Go.Proofs.Ytmejoococajikaa

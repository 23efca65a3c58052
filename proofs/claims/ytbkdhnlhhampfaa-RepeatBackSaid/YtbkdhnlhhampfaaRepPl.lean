/- Plain laws on a number a few times. -/
import Derived.Test.YtbkdhnlhhampfaaLawRT
namespace Go.Proofs.Ytbkdhnlhhampfaa
open Go.RowKit

theorem foldU_hiB (u k : Nat) : foldU (hiB u k) = u % 256 ^ k := by
  induction k with
  | zero => simp [hiB, foldU, Nat.mod_one]
  | succ k ih =>
    unfold hiB
    rw [foldU_cons _ _ (hiB_u8 u k), ih, hiB_len, Nat.pow_succ, Nat.mod_mul]
    have e : (2 : Int) ^ (8 * k) = ((256 ^ k : Nat) : Int) := by
      rw [show (256 : Nat) = 2 ^ 8 from rfl, ← Nat.pow_mul, Int.natCast_pow]; rfl
    rw [e, ← Int.natCast_ediv, show ((u / 256 ^ k : Nat) : Int) % 256 = ((u / 256 ^ k % 256 : Nat) : Int) from rfl, Int.toNat_natCast]
    omega
theorem longN_pow (u : Nat) : u < 256 ^ longN u := by
  have h := blen_lt u
  have e : (256 : Nat) ^ longN u = 2 ^ (8 * longN u) := by rw [show (256 : Nat) = 2 ^ 8 from rfl, ← Nat.pow_mul]
  rw [e]
  exact Nat.lt_of_lt_of_le h (Nat.pow_le_pow_right (by omega) (by unfold longN; omega))
theorem takeR_put (u : Nat) (t : Int) (s : Bool) (behind : List Int) (ht1 : 3 ≤ t) (ht2 : t ≤ 10) (hu : u < 18446744073709551616) (hs : s = false → u < 9223372036854775808) :
    takeR (((8 * ((longN u : Int) - 1) + t - 3) :: hiB u (longN u)) ++ behind) s = (if s then zag u else u, t, behind, 0) := by
  have hl := longN_range u hu
  unfold takeR
  simp only [List.cons_append]
  have h1 : ((8 * ((longN u : Int) - 1) + t - 3) / 8 + 1).toNat = longN u := by omega
  have h2 : (8 * ((longN u : Int) - 1) + t - 3) % 8 + 3 = t := by omega
  have h3 : (hiB u (longN u) ++ behind).take (longN u) = hiB u (longN u) := by
    rw [List.take_append_of_le_length (by rw [hiB_len]; exact Nat.le_refl _), List.take_of_length_le (by rw [hiB_len]; exact Nat.le_refl _)]
  have h4 : (hiB u (longN u) ++ behind).drop (longN u) = behind := by
    rw [List.drop_append_of_le_length (by rw [hiB_len]; exact Nat.le_refl _), List.drop_of_length_le (by rw [hiB_len]; exact Nat.le_refl _), List.nil_append]
  rw [if_neg (by omega), h1, h3, h4, foldU_hiB, Nat.mod_eq_of_lt (longN_pow u), h2, if_neg (by rw [List.length_append, hiB_len]; omega), if_neg]
  rintro (h | ⟨h, h'⟩)
  · exact h rfl
  · have := hs h; omega
theorem takeR_cut (u : Nat) (t : Int) (s : Bool) (i : Nat) (ht1 : 3 ≤ t) (ht2 : t ≤ 10) (hu : u < 18446744073709551616) (hi : i < longN u + 1) :
    takeR (((8 * ((longN u : Int) - 1) + t - 3) :: hiB u (longN u)).take i) s = (0, 0, [], 2) := by
  have hl := longN_range u hu
  cases i with
  | zero => rfl
  | succ j =>
    rw [List.take_succ_cons]
    unfold takeR
    have h1 : ((8 * ((longN u : Int) - 1) + t - 3) / 8 + 1).toNat = longN u := by omega
    simp only
    rw [if_neg (by omega), h1, if_pos (by rw [List.length_take, hiB_len]; omega)]
theorem and7 (a : Int) : 0 ≤ bits BinOp.and IntKind.i64 a 7 ∧ bits BinOp.and IntKind.i64 a 7 ≤ 7 := by
  have h : (BitVec.ofInt 64 a &&& BitVec.ofInt 64 7).toNat ≤ 7 := by
    rw [BitVec.toNat_and]
    exact Nat.and_le_right
  show 0 ≤ IntKind.i64.wrap ((BitVec.ofInt 64 a &&& BitVec.ofInt 64 7).toNat : Int) ∧ IntKind.i64.wrap ((BitVec.ofInt 64 a &&& BitVec.ofInt 64 7).toNat : Int) ≤ 7
  rw [IntWalk.i64_in _ (by omega)]
  omega

theorem put_take (x t : Int) (s : Bool) (ht1 : 3 ≤ t) (ht2 : t ≤ 10) (hx : -9223372036854775808 ≤ x ∧ x < 9223372036854775808) (hs : s = false → 0 ≤ x) :
    ∃ (p : List Int), putR x t s = (p, 0) ∧ U8 p ∧ 2 ≤ p.length ∧ p.length ≤ 9 ∧ (∀ behind, takeR (p ++ behind) s = (x, t, behind, 0)) ∧ ∀ i, i < p.length → takeR (p.take i) s = (0, 0, [], 2) := by
  have hz := zig_range x hx.1 hx.2
  have hp : 0 ≤ plainU x s ∧ plainU x s < 18446744073709551616 ∧ (s = false → plainU x s < 9223372036854775808) := by
    unfold plainU
    cases s
    · have := hs rfl; simp; omega
    · simp; omega
  obtain ⟨u, hu⟩ : ∃ u : Nat, (u : Int) = plainU x s := ⟨(plainU x s).toNat, by omega⟩
  have hl := longN_range u (by omega)
  have e : putR x t s = ((8 * ((longN u : Int) - 1) + t - 3) :: hiB u (longN u), 0) := by
    unfold putR
    rw [if_neg (by rintro (h | h | ⟨h, h'⟩); omega; omega; have := hs h; omega), ← hu, Int.toNat_natCast]
  refine ⟨_, e, ?_, by rw [List.length_cons, hiB_len]; omega, by rw [List.length_cons, hiB_len]; omega, ?_, ?_⟩
  · have := putR_u8 x t s hx.1 hx.2
    rwa [e] at this
  · intro behind
    rw [takeR_put u t s behind ht1 ht2 (by omega) (fun h => by have := hp.2.2 h; omega)]
    have : (if s = true then zag (u : Int) else (u : Int)) = x := by
      rw [hu]
      unfold plainU
      cases s
      · simp
      · simp [zag_zig]
    rw [this]
  · intro i hi
    rw [List.length_cons, hiB_len] at hi
    exact takeR_cut u t s i ht1 ht2 (by omega) hi
end Go.Proofs.Ytbkdhnlhhampfaa

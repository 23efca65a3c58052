/- Patched: few great numbers fit. -/
import Derived.Test.YtpngbljfboceeaaPlainPd
namespace Go.Proofs.Ytpngbljfboceeaa
open Go.RowKit

/-- Numbers of which at most c are great. -/
def FewP (W c : Nat) (l : List Int) : Prop :=
  1 ≤ l.length ∧ l.length ≤ 251 ∧ l.getD 0 0 = 0 ∧ (∀ y ∈ l, 0 ≤ y ∧ y < (5 * c + 1) * 2 ^ W) ∧ l.countP (fun y => decide (y / 2 ^ W ≠ 0)) ≤ c
theorem pow24 {W : Nat} (h : W ≤ 24) : (1 : Int) ≤ 2 ^ W ∧ (2 : Int) ^ W ≤ 16777216 := by
  have h1 : 2 ^ W ≤ 2 ^ 24 := Nat.pow_le_pow_right (by omega) h
  have h2 : 1 ≤ 2 ^ W := Nat.one_le_two_pow
  have e : ((2 ^ W : Nat) : Int) = 2 ^ W := by simp
  rw [← e]; omega
theorem few_one (W : Nat) : FewP W 0 [0] := by
  have hk : (0 : Int) < 2 ^ W := Int.pow_pos (by decide)
  refine ⟨by simp, by simp, rfl, fun y hy => ?_, by simp⟩
  rw [List.mem_singleton] at hy; subst hy
  simp; exact hk
theorem few_snoc {W : Nat} {l : List Int} (h : FewP W 0 l) (hl : l.length ≤ 250) (y : Int) : FewP W 0 (l ++ [y % 2 ^ W]) := by
  have hk : (0 : Int) < 2 ^ W := Int.pow_pos (by decide)
  obtain ⟨h1, h2, h3, h4, h5⟩ := h
  have h6 := Int.emod_nonneg y (show (2 : Int) ^ W ≠ 0 by omega)
  have h7 := Int.emod_lt_of_pos y hk
  refine ⟨by simp, by simp; omega, ?_, fun z hz => ?_, ?_⟩
  · simp only [List.getD] at h3 ⊢
    rw [List.getElem?_append_left (by omega)]; exact h3
  · rcases List.mem_append.1 hz with hz | hz
    · exact h4 z hz
    · rw [List.mem_singleton] at hz; subst hz
      simp; exact ⟨h6, h7⟩
  · rw [List.countP_append]
    have : List.countP (fun y => decide (y / 2 ^ W ≠ 0)) [y % 2 ^ W] = 0 := by
      simp [Int.ediv_eq_zero_of_lt h6 h7]
    omega
theorem few_set {W c : Nat} {l : List Int} (h : FewP W c l) (k : Nat) (hk0 : 0 < k) (hk : k < l.length) : FewP W (c + 1) (l.set k (l.getD k 0 + 5 * 2 ^ W)) := by
  have hp : (0 : Int) < 2 ^ W := Int.pow_pos (by decide)
  obtain ⟨h1, h2, h3, h4, h5⟩ := h
  refine ⟨by rw [List.length_set]; exact h1, by rw [List.length_set]; exact h2, ?_, fun z hz => ?_, ?_⟩
  · simp only [List.getD] at h3 ⊢
    rw [List.getElem?_set_ne (by omega)]; exact h3
  · have e : ((5 * ((c + 1 : Nat) : Int) + 1) * 2 ^ W : Int) = (5 * (c : Int) + 1) * 2 ^ W + 5 * 2 ^ W := by
      rw [← Int.add_mul]; congr 1
    rw [e]
    rcases List.mem_or_eq_of_mem_set hz with hz | hz
    · have := h4 z hz; omega
    · have := h4 _ (getD_mem l k hk); omega
  · rw [List.countP_set hk]
    split <;> split <;> omega
theorem few_more {W c d : Nat} {l : List Int} (h : FewP W c l) (hcd : c ≤ d) : FewP W d l := by
  have hp : (0 : Int) < 2 ^ W := Int.pow_pos (by decide)
  obtain ⟨h1, h2, h3, h4, h5⟩ := h
  refine ⟨h1, h2, h3, fun y hy => ?_, by omega⟩
  have h6 : (5 * (c : Int) + 1) * 2 ^ W ≤ (5 * (d : Int) + 1) * 2 ^ W := Int.mul_le_mul_of_nonneg_right (by omega) (by omega)
  have := h4 y hy
  omega
theorem pairs_count (u : List Int) (x j : Nat) (h : j ≤ u.length) (hj : j ≤ 251) : (pairsN u x j).1.length = (u.take j).countP (fun y => decide (y / 2 ^ x ≠ 0)) := by
  induction j with
  | zero => simp [pairsN]
  | succ j ih =>
    have ih := ih (by omega) (by omega)
    rw [take_snoc u j (by omega), List.countP_append]
    by_cases h0 : u.getD j 0 / 2 ^ x = 0
    · rw [pairsN_zero u x j h0, ih]
      generalize u.getD j 0 = y at *
      simp [h0]
    · rw [pairsN_some u x j h0]
      dsimp only
      rw [gapsAt_len, show (j - (pairsN u x j).2 - 1) / 255 = 0 from by omega, ih]
      generalize u.getD j 0 = y at *
      simp [h0]
theorem pairs_patch (u : List Int) (x j : Nat) (m : Int) (h : j ≤ u.length) (hm : 0 ≤ m) (hu : ∀ y ∈ u, y / 2 ^ x ≤ m) : ∀ q ∈ (pairsN u x j).1, q.2 ≤ m := by
  induction j with
  | zero => intro q hq; simp [pairsN] at hq
  | succ j ih =>
    intro q hq
    rw [pairsN] at hq
    split at hq
    · exact ih (by omega) q hq
    · unfold gapsAt at hq
      rcases List.mem_append.1 hq with h1 | h1
      · rcases List.mem_append.1 h1 with h2 | h2
        · exact ih (by omega) q h2
        · rw [List.mem_replicate] at h2; rw [h2.2]; exact hm
      · rw [List.mem_singleton] at h1; subst h1
        exact hu _ (getD_mem u j (by omega))
/-- Few great numbers may be laid down. -/
theorem few_put (W c : Nat) (l : List Int) (h : FewP W c l) (hW1 : 1 ≤ W) (hW : W ≤ 24) (hc : c ≤ 31) : I64 l ∧ prePa l W false = false ∧ okPa l W = true := by
  obtain ⟨h1, h2, h3, h4, h5⟩ := h
  obtain ⟨hp0, hp1⟩ := pow24 hW
  have h4' : ∀ y ∈ l, 0 ≤ y ∧ y < 2617245696 := by
    intro y hy
    have h6 := h4 y hy
    have h7 : (5 * (c : Int) + 1) * 2 ^ W ≤ 156 * 16777216 := Int.mul_le_mul (by omega) hp1 (by omega) (by decide)
    omega
  have hI : I64 l := fun y hy => by have := h4' y hy; omega
  have hmin : minL l = 0 := by
    have h6 := minL_at l 0 h1
    rw [h3] at h6
    have h7 := (h4' _ (minL_in l h1)).1
    omega
  have hup : upL l = l := by
    unfold upL; rw [hmin]
    conv => rhs; rw [← List.map_id l]
    exact List.map_congr_left fun y _ => by simp
  refine ⟨hI, ?_, ?_⟩
  · unfold prePa
    have h6 : (l.any fun y => decide (y < 0)) = false := by
      rw [List.any_eq_false]
      intro y hy
      have := h4' y hy
      simp; omega
    have h7 : 0 ≤ wCode (W : Int) := by unfold wCode; omega
    rw [h6, decide_eq_false (by omega), decide_eq_false (by omega), decide_eq_false (by omega), decide_eq_false (by omega)]
    rfl
  · unfold okPa
    have hnear : nearL l l.length = true := by
      unfold nearL
      rw [List.take_of_length_le (Nat.le_refl _), hmin]
      exact List.all_eq_true.2 fun y hy => by have := h4' y hy; simp; omega
    have hcnt : (prL l W).length ≤ 31 := by
      unfold prL
      rw [hup, pairs_count l W l.length (Nat.le_refl _) h2, List.take_of_length_le (Nat.le_refl _)]
      omega
    have hpat : pN (prL l W) ≤ 8 := by
      have h8 := mostBits_small ((prL l W).map Prod.snd) 8 (by
        intro y hy
        obtain ⟨q, hq, rfl⟩ := List.mem_map.1 hy
        unfold prL at hq
        rw [hup] at hq
        have h9 := pairs_patch l W l.length 155 (Nat.le_refl _) (by decide) (fun y hy => by
          have h10 := h4 y hy
          have h11 : y < (156 : Int) * 2 ^ W := by
            have : (5 * (c : Int) + 1) * 2 ^ W ≤ 156 * 2 ^ W := Int.mul_le_mul_of_nonneg_right (by omega) (by omega)
            omega
          have := Int.ediv_lt_of_lt_mul (by omega : (0 : Int) < 2 ^ W) h11
          omega) q hq
        exact blen_le _ 8 (by omega))
      unfold pN; omega
    have hp1 : 1 ≤ pN (prL l W) := by unfold pN; omega
    have hwc : wClosest (pN (prL l W)) ≤ 8 := by unfold wClosest; omega
    have hg := gN8 l W
    have hfit : fitsPa l W = true := by
      unfold fitsPa
      rw [decide_eq_true hcnt, decide_eq_true (by omega), decide_eq_true (by omega)]; rfl
    rw [hnear, hfit, hmin]; rfl
theorem and_maskF (y : Int) (W : Nat) (hW : W ≤ 24) : bits .and .i64 y (2 ^ W - 1) = y % 2 ^ W := by
  obtain ⟨hp0, hp1⟩ := pow24 hW
  have e : ((2 ^ W : Nat) : Int) = 2 ^ W := by simp
  have hN : (1 : Nat) ≤ 2 ^ W ∧ 2 ^ W ≤ 16777216 := by rw [← e] at hp0 hp1; omega
  have hd : (2 : Int) ^ W ∣ 18446744073709551616 := by
    have : (2 : Nat) ^ W ∣ 2 ^ 64 := Nat.pow_dvd_pow 2 (by omega)
    rw [← e]
    exact Int.ofNat_dvd.2 this
  show IntKind.i64.wrap ((BitVec.ofInt 64 y &&& BitVec.ofInt 64 (2 ^ W - 1)).toNat : Int) = _
  have h1 : (BitVec.ofInt 64 (2 ^ W - 1)).toNat = 2 ^ W - 1 := by
    rw [BitVec.toNat_ofInt, ← e]
    omega
  rw [BitVec.toNat_and, h1, Nat.and_two_pow_sub_one_eq_mod, BitVec.toNat_ofInt]
  have h2 : 0 ≤ y % ((2 ^ 64 : Nat) : Int) := Int.emod_nonneg _ (by decide)
  have h3 : (((y % ((2 ^ 64 : Nat) : Int)).toNat % 2 ^ W : Nat) : Int) = y % 2 ^ W := by
    rw [Int.natCast_emod, Int.toNat_of_nonneg h2, e]
    exact Int.emod_emod_of_dvd y hd
  rw [h3, IntKind.wrap_i64]
  have h4 := Int.emod_nonneg y (show (2 : Int) ^ W ≠ 0 by omega)
  have h5 := Int.emod_lt_of_pos y (show (0 : Int) < 2 ^ W by omega)
  omega
end Go.Proofs.Ytpngbljfboceeaa

/- Joined texts: PlainBB, EncLen. Each has its own head line. No condition beyond those that its theorems state. -/
import Derived.Test.YtlmfdmaoakckgaaJ34
import Derived.Test.YtlmfdmaoakckgaaJ35
set_option linter.unusedVariables false

/- Plain law: truths that were laid down are taken as they were. -/
namespace Go.Proofs.Ytlmfdmaoakckgaa
open Go.RowKit

theorem bitAt_bytesOf (X N i : Nat) (hi : i < 8 * N) : bitAt (bytesOf X N) i = decide (X / 2 ^ (8 * N - 1 - i) % 2 = 1) := by
  unfold bitAt
  have hj : i / 8 < N := by omega
  rw [show (bytesOf X N).getD (i / 8) 0 = (byteAt X N (i / 8) : Int) from by simp [List.getD, bytesOf_get X N _ hj], Int.toNat_natCast]
  unfold byteAt
  rw [pow8, show (256 : Nat) = 2 ^ (7 - i % 8) * 2 ^ (8 - (7 - i % 8)) from by rw [← Nat.pow_add, show 7 - i % 8 + (8 - (7 - i % 8)) = 8 from by omega],
    Nat.mod_mul_right_div_self, Nat.div_div_eq_div_mul, ← Nat.pow_add, show 8 * (N - 1 - i / 8) + (7 - i % 8) = 8 * N - 1 - i from by omega,
    Nat.mod_mod_of_dvd _ (show 2 ∣ 2 ^ (8 - (7 - i % 8)) from ⟨2 ^ (i % 8), by rw [← Nat.pow_succ', show (i % 8).succ = 8 - (7 - i % 8) from by omega]⟩)]
theorem bit01_room (l : List Bool) : ∀ y ∈ bit01 l, y.toNat < 2 ^ 1 := by
  intro y hy
  obtain ⟨b, _, rfl⟩ := List.mem_map.1 hy
  cases b <;> decide
theorem bytesB_bit (l : List Bool) (i : Nat) (hi : i < 8 * ((l.length + 7) / 8)) : bitAt (bytesB l) i = l.getD i false := by
  unfold bytesB
  rw [bitAt_bytesOf _ _ _ hi]
  generalize hN : (l.length + 7) / 8 = N at *
  rcases Nat.lt_or_ge i l.length with h | h
  · rw [show 8 * N - 1 - i = 8 * N - l.length + (l.length - 1 - i) from by omega, Nat.pow_add, ← Nat.div_div_eq_div_mul, Nat.mul_div_cancel _ (Nat.two_pow_pos _)]
    have h1 := packV_get (bit01 l) 1 (bit01_room l) i (by rw [bit01_len]; exact h)
    rw [bit01_len, Nat.mul_one, Nat.pow_one] at h1
    rw [h1]
    simp only [bit01, List.getD, List.getElem?_map, List.getElem?_eq_getElem h, Option.map_some, Option.getD_some]
    cases l[i] <;> rfl
  · rw [show 8 * N - l.length = i + 1 - l.length + (8 * N - 1 - i) from by omega, Nat.pow_add, ← Nat.mul_assoc, Nat.mul_div_cancel _ (Nat.two_pow_pos _),
      show i + 1 - l.length = (i - l.length) + 1 from by omega, Nat.pow_succ, ← Nat.mul_assoc, Nat.mul_mod_left]
    simp [List.getD, List.getElem?_eq_none h]
theorem bytesB_len (l : List Bool) : (bytesB l).length = (l.length + 7) / 8 := by unfold bytesB; rw [bytesOf_len]
theorem bytesB_u8 (l : List Bool) : U8 (bytesB l) := by unfold bytesB; exact bytesOf_u8 _ _
theorem bitsB_bytesB (l : List Bool) : bitsB (bytesB l) l.length = l := by
  apply List.ext_getElem?
  intro i
  rcases Nat.lt_or_ge i l.length with h | h
  · simp only [bitsB, List.getElem?_map, List.getElem?_range h, Option.map_some]
    rw [bytesB_bit l i (by omega)]
    simp [List.getD, List.getElem?_eq_getElem h]
  · rw [List.getElem?_eq_none (by rw [bitsB_len]; exact h), List.getElem?_eq_none h]
theorem take_back (l : List Bool) (q : List Int) (h : l.length ≤ 4096) : takeB (enc 0 [] (bytesB l) ++ q) l.length = (l, q, 0) := by
  have hN : (bytesB l).length ≤ 4096 := by rw [bytesB_len]; omega
  have hd := dec_back (bytesB l) q hN
  rw [bytesB_len] at hd
  unfold takeB
  rw [if_neg (by omega), show ((l.length : Int) + 7) / 8 = (((l.length + 7) / 8 : Nat) : Int) from by omega, hd]
  rw [if_neg (by simp), Int.toNat_natCast]
  dsimp only
  rw [if_neg, bitsB_bytesB]
  rw [countB_zero]
  · omega
  · intro b hb
    obtain ⟨i, h1, h2, rfl⟩ := (mem_drop_bits _ _ _ _).1 hb
    rw [bytesB_len] at h2
    rw [bytesB_bit l i h2]
    simp [List.getD, List.getElem?_eq_none h1]
theorem put_takes (l : List Bool) (h : l.length ≤ 4096) : putB l = (enc 0 [] (bytesB l), 0) := by
  unfold putB encR
  rw [if_neg (by omega), if_neg (by rw [bytesB_len]; omega)]
end Go.Proofs.Ytlmfdmaoakckgaa

/- How long bytes are that truths come to. -/
namespace Go.Proofs.Ytlmfdmaoakckgaa
open Go.RowKit

theorem enc_lenN (n : Nat) : ∀ b pend : List Int, b.length ≤ n → (enc 0 pend b).length ≤ 2 * (pend.length + b.length) := by
  induction n with
  | zero =>
    intro b pend hb
    obtain rfl : b = [] := List.eq_nil_of_length_eq_zero (by omega)
    rw [enc_nil]; simpa using chunks_len pend
  | succ n ih =>
    intro b pend hb
    rcases Nat.eq_zero_or_pos b.length with h0 | h0
    · obtain rfl : b = [] := List.eq_nil_of_length_eq_zero h0
      rw [enc_nil]; simpa using chunks_len pend
    · have hr1 := runN_pos h0
      have hrl := runN_le b
      have hld : (b.drop (runN b)).length = b.length - runN b := List.length_drop
      have hlt : (b.take (runN b)).length = runN b := by rw [List.length_take]; omega
      rcases Nat.lt_or_ge (runN b) 3 with h3 | h3
      · have := ih (b.drop (runN b)) (pend ++ b.take (runN b)) (by omega)
        rw [enc_short b pend h0 h3]
        rw [List.length_append] at this
        omega
      · have h1 := ih (b.drop (runN b)) [] (by omega)
        have h2 := chunks_len pend
        rw [enc_long b pend h3, List.length_append, List.length_cons, List.length_cons]
        simp only [List.length_nil] at h1
        omega
theorem put_lenN (l : List Bool) (h : l.length ≤ 4096) : (enc 0 [] (bytesB l)).length ≤ 2000 := by
  have := enc_lenN (bytesB l).length (bytesB l) [] (Nat.le_refl _)
  rw [bytesB_len] at this
  simp only [List.length_nil] at this
  omega

end Go.Proofs.Ytlmfdmaoakckgaa

/- The reference of package bits: Size, Pack. -/
import Derived.Test.YtekdcnlbdgikoaaDoorPack
namespace Go.Proofs.YtekdcnlbdgikoaaDoor
open Go.RowKit

/-- The world while the reference packs. -/
def RefW (w0 wr : World) (N at_ X : Nat) : Prop :=
  Blk wr w0.heap.size 5 (bytesArr X N) ∧ Below w0.heap.size w0 wr ∧ X % 2 ^ (8 * N - at_) = 0

theorem and_bit (a : Nat) (h : a < 18446744073709551616) : bits BinOp.and IntKind.u64 (a : Int) 1 = ((a % 2 : Nat) : Int) := by
  rw [and_one_u64 _ (by omega) (by omega)]; rfl

theorem RefW.drew {w wi : World} {N p X : Nat} (h : Hid (RefW w wi N p X)) : Hid (RefW w wi.drew N p X) := ⟨h.out.1.drew, h.out.2.1.drew, h.out.2.2⟩
theorem shr128 (p : Nat) : (128 : Int) / 2 ^ (p % 8) = ((2 ^ (7 - p % 8) : Nat) : Int) := by
  have : p % 8 = 0 ∨ p % 8 = 1 ∨ p % 8 = 2 ∨ p % 8 = 3 ∨ p % 8 = 4 ∨ p % 8 = 5 ∨ p % 8 = 6 ∨ p % 8 = 7 := by omega
  rcases this with h | h | h | h | h | h | h | h <;> rw [h] <;> decide
theorem RefW_bit {w wi : World} {N a0 k V y s p : Nat} (hs : s + 1 ≤ k) (hak : a0 + k ≤ 8 * N) (hp : p = a0 + (k - (s + 1))) (hb : y / 2 ^ s % 2 = 1)
    (hin : RefW w wi N p ((V * 2 ^ (k - (s + 1)) + y / 2 ^ (s + 1)) * 2 ^ (8 * N - p))) :
    ∃ d : Nat, d < 256 ∧ wi.cell? ⟨w.heap.size, p / 8, none⟩ = some (.int .u8 d) ∧ wi.frozen? ⟨w.heap.size, p / 8, none⟩ = false ∧ (d : Int) + 128 / 2 ^ (p % 8) < 256 ∧ 0 < (128 : Int) / 2 ^ (p % 8) ∧
      RefW w (wi.setCell ⟨w.heap.size, p / 8, none⟩ (.int .u8 ((d : Int) + 128 / 2 ^ (p % 8)))) N (a0 + (k - s)) ((V * 2 ^ (k - s) + y / 2 ^ s) * 2 ^ (8 * N - (a0 + (k - s)))) := by
  obtain ⟨h1, h2, h3⟩ := hin
  obtain ⟨_, e2, e3⟩ := put_fits _ N p 1 1 (by omega) (by omega) h3 (by omega) (by omega)
  simp only [Nat.one_mul] at e2 e3
  have hj : p / 8 < N := by omega
  refine ⟨_, byteAt_lt _ N (p / 8), (h1.cell _).trans (bytesArr_get _ N _ hj), h1.frozen _, ?_, ?_, ?_, ?_, ?_⟩
  · rw [shr128]
    rw [show 8 - p % 8 - 1 = 7 - p % 8 from by omega] at e2
    omega
  · rw [shr128]
    have := Nat.two_pow_pos (7 - p % 8)
    omega
  · rw [shr128]
    have h := h1.set_ (p / 8) (.int .u8 ((byteAt ((V * 2 ^ (k - (s + 1)) + y / 2 ^ (s + 1)) * 2 ^ (8 * N - p)) N (p / 8) + 2 ^ (8 - p % 8 - 1) : Nat) : Int))
    rw [bytesArr_add _ N _ _ hj e2, ← e3] at h
    have hn := pack_num V y k s 1 (8 * N - p - 1) hs
    rw [hb, Nat.one_mul, show 8 * N - p - 1 + 1 = 8 * N - p from by omega] at hn
    rw [hn, show 8 - p % 8 - 1 = 7 - p % 8 from by omega, show 8 * N - p - 1 = 8 * N - (a0 + (k - s)) from by omega] at h
    exact h
  · exact h2.setCell (Nat.le_refl _) _
  · exact Nat.mul_mod_left _ _
theorem RefW_zero {w wi : World} {N a0 k V y s p : Nat} (hs : s + 1 ≤ k) (hak : a0 + k ≤ 8 * N) (hp : p = a0 + (k - (s + 1))) (hb : y / 2 ^ s % 2 = 0)
    (hin : RefW w wi N p ((V * 2 ^ (k - (s + 1)) + y / 2 ^ (s + 1)) * 2 ^ (8 * N - p))) :
      RefW w wi N (a0 + (k - s)) ((V * 2 ^ (k - s) + y / 2 ^ s) * 2 ^ (8 * N - (a0 + (k - s)))) := by
  obtain ⟨h1, h2, h3⟩ := hin
  have hn := pack_num V y k s 1 (8 * N - p - 1) hs
  rw [hb, Nat.zero_mul, Nat.add_zero, show 8 * N - p - 1 + 1 = 8 * N - p from by omega, show 8 * N - p - 1 = 8 * N - (a0 + (k - s)) from by omega] at hn
  rw [hn] at h1
  exact ⟨h1, h2, Nat.mul_mod_left _ _⟩

end Go.Proofs.YtekdcnlbdgikoaaDoor

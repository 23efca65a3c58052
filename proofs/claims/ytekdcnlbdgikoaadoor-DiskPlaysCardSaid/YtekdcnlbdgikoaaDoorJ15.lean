/- Joined texts: Pack, RefPack. Each has its own head line. No condition beyond those that its theorems state. -/
import Derived.StillTailTactics
import Derived.Test.YtekdcnlbdgikoaaDoorJ14
set_option linter.unusedVariables false

/- bits.Pack. -/
namespace Go.Proofs.YtekdcnlbdgikoaaDoor
open Go.RowKit

/-- All numbers as one, each of x bits. -/
def packV (l : List Int) (x : Nat) : Nat := l.foldl (fun v y => v * 2 ^ x + y.toNat) 0
theorem packV_snoc (l : List Int) (x : Nat) (y : Int) : packV (l ++ [y]) x = packV l x * 2 ^ x + y.toNat := by simp [packV]
/-- A number has room in x bits. -/
def roomB (x : Nat) (y : Int) : Bool := decide (x = 64 ∨ y.toNat < 2 ^ x)
def packR (l : List Int) (x : Int) : List Int × Int :=
  if x < 0 ∨ 64 < x then ([], 1)
  else if 4096 < l.length then ([], 3)
  else if l.all (roomB x.toNat) then (bytesOf (packV l x.toNat * 2 ^ (8 * ((l.length * x.toNat + 7) / 8) - l.length * x.toNat)) ((l.length * x.toNat + 7) / 8), 0)
  else ([], 1)

/-- The world while numbers are packed: the bytes, the variable that holds them, the place; what was there is as it was. -/
def PackW (w0 wr : World) (N at_ X : Nat) : Prop :=
  Blk wr w0.heap.size 5 (bytesArr X N) ∧ Blk wr (w0.heap.size + 1) 22 #[.slice (some ⟨w0.heap.size, 0, none⟩) N N] ∧ Blk wr (w0.heap.size + 1 + 1) 3 #[.int .i64 at_] ∧ Below w0.heap.size w0 wr ∧ X % 2 ^ (8 * N - at_) = 0

theorem Sl_of_blk {w : World} {g N : Nat} {l : List Int} (h : Blk w g 5 ((l.map (Value.int .u8)).toArray)) (hl : l.length = N) (hN : N ≤ 9223372036854775807) : Sl w .u8 (some ⟨g, 0, none⟩) N N l :=
  ⟨⟨by simpa using hl, fun _ => ⟨g, 0, rfl, h.lt, fun j u hu => by rw [h.cell]; simpa using hu⟩⟩, Nat.le_refl _, hN⟩
theorem madeCells_bytes (N : Nat) : madeCells #[.int .u8 0] N = bytesArr 0 N := by
  apply Array.ext'
  rw [toList_madeCells_one]
  unfold bytesArr
  apply List.ext_getElem?
  intro i
  simp only [List.getElem?_map]
  rcases Nat.lt_or_ge i N with h | h
  · rw [bytesOf_get _ _ _ h]
    simp [byteAt, h]
  · rw [List.getElem?_eq_none (by simpa using h), List.getElem?_eq_none (by rw [bytesOf_len]; exact h)]
    rfl
theorem Blk.new_ {w : World} {t : TypeId} {cs : Array Value} {g : Nat} (h : g = w.heap.size) : Blk (w.alloc (.cells cs t)) g t cs := by subst h; exact Blk.new _ _ _
theorem hide {p : Prop} (h : p) : Hid p := h
theorem unhide {p : Prop} (h : Hid p) : p := h
theorem and_mask (a m : Nat) (hm1 : 1 ≤ m) (hm : m ≤ 8) : bits BinOp.and IntKind.u8 ((a : Int) % 256) ((2 ^ m % 256 - 1) % 256) = ((a % 2 ^ m : Nat) : Int) := by
  have e1 : ((2 : Int) ^ m % 256 - 1) % 256 = ((2 ^ m - 1 : Nat) : Int) := by
    have : m = 1 ∨ m = 2 ∨ m = 3 ∨ m = 4 ∨ m = 5 ∨ m = 6 ∨ m = 7 ∨ m = 8 := by omega
    rcases this with rfl | rfl | rfl | rfl | rfl | rfl | rfl | rfl <;> decide
  have hp : 2 ^ m ≤ 256 := Nat.pow_le_pow_right (n := 2) (j := 8) (by omega) hm
  have hp1 := Nat.two_pow_pos m
  rw [e1, show ((a : Int) % 256) = ((a % 256 : Nat) : Int) from rfl, u8_and_nat _ _ (by omega) (by omega), Nat.and_two_pow_sub_one_eq_mod]
  congr 1
  rw [show (256 : Nat) = 2 ^ m * 2 ^ (8 - m) from by rw [← Nat.pow_add, show m + (8 - m) = 8 from by omega], Nat.mod_mul_right_mod]
theorem pack_num (V y k s m e : Nat) (h : s + m ≤ k) :
    (V * 2 ^ (k - (s + m)) + y / 2 ^ (s + m)) * 2 ^ (e + m) + (y / 2 ^ s % 2 ^ m) * 2 ^ e = (V * 2 ^ (k - s) + y / 2 ^ s) * 2 ^ e := by
  have e1 : V * 2 ^ (k - s) = V * 2 ^ (k - (s + m)) * 2 ^ m := by rw [Nat.mul_assoc, ← Nat.pow_add]; congr 2; omega
  have e2 : y / 2 ^ s = (y / 2 ^ (s + m)) * 2 ^ m + y / 2 ^ s % 2 ^ m := by
    rw [Nat.pow_add, ← Nat.div_div_eq_div_mul, Nat.mul_comm]
    exact (Nat.div_add_mod _ _).symm
  rw [e1]
  generalize y / 2 ^ (s + m) = q at *
  generalize y / 2 ^ s % 2 ^ m = c at *
  rw [e2, Nat.pow_add 2 e m]
  generalize V * 2 ^ (k - (s + m)) = A at *
  rw [Nat.mul_comm (2 ^ e) (2 ^ m), ← Nat.mul_assoc, ← Nat.add_mul, Nat.add_mul A q (2 ^ m), Nat.add_assoc]
theorem PackW_step {w wi w' : World} {N a0 k V y s m : Nat} {e : Ending} (hsm : s + m ≤ k) (hak : a0 + k ≤ 8 * N)
    (hin : PackW w wi N (a0 + (k - (s + m))) ((V * 2 ^ (k - (s + m)) + y / 2 ^ (s + m)) * 2 ^ (8 * N - (a0 + (k - (s + m))))))
    (hp : PutOut wi.drew w.heap.size w.heap.size (w.heap.size + 1) (w.heap.size + 1 + 1) N (a0 + (k - (s + m)) + m) (bytesArr ((V * 2 ^ (k - (s + m)) + y / 2 ^ (s + m)) * 2 ^ (8 * N - (a0 + (k - (s + m)))) + (y / 2 ^ s % 2 ^ m) * 2 ^ (8 * N - (a0 + (k - (s + m))) - m)) N) e w') :
    PackW w w' N (a0 + (k - s)) ((V * 2 ^ (k - s) + y / 2 ^ s) * 2 ^ (8 * N - (a0 + (k - s)))) := by
  obtain ⟨_, h1, h2, h3, h4, _⟩ := hp
  have e1 : 8 * N - (a0 + (k - (s + m))) = (8 * N - (a0 + (k - s))) + m := by omega
  have e2 : a0 + (k - (s + m)) + m = a0 + (k - s) := by omega
  rw [e1, Nat.add_sub_cancel, pack_num V y k s m _ hsm] at h1
  rw [e2] at h2
  exact ⟨h1, h3, h2, (hin.2.2.2.1.drew).trans h4, Nat.mul_mod_left _ _⟩
end Go.Proofs.YtekdcnlbdgikoaaDoor

/- The reference of package bits: Size, Pack. -/
namespace Go.Proofs.YtekdcnlbdgikoaaDoor
open Go.RowKit

/-- The world while the reference packs. -/
def RefW (w0 wr : World) (N at_ X : Nat) : Prop :=
  Blk wr w0.heap.size 5 (bytesArr X N) ∧ Below w0.heap.size w0 wr ∧ X % 2 ^ (8 * N - at_) = 0

theorem and_bit (a : Nat) (h : a < 18446744073709551616) : bits BinOp.and IntKind.u64 (a : Int) 1 = ((a % 2 : Nat) : Int) := by
  rw [and_one_u64 _ (by omega) (by omega)]; rfl

theorem RefW.drew {w wi : World} {N p X : Nat} (h : Hid (RefW w wi N p X)) : Hid (RefW w wi.drew N p X) := ⟨h.out.1.drew, h.out.2.1.drew, h.out.2.2⟩
theorem shr128 (p : Nat) : (128 : Int) / 2 ^ (p % 8) = ((2 ^ (7 - p % 8) : Nat) : Int) := by
  have : p % 8 = 0 ∨ p % 8 = 1 ∨ p % 8 = 2 ∨ p % 8 = 3 ∨ p % 8 = 4 ∨ p % 8 = 5 ∨ p % 8 = 6 ∨ p % 8 = 7 := by omega
  rcases this with h | h | h | h | h | h | h | h <;> rw [h] <;> decide
theorem RefW_bit {w wi : World} {N a0 k V y s p : Nat} (hs : s + 1 ≤ k) (hak : a0 + k ≤ 8 * N) (hp : p = a0 + (k - (s + 1))) (hb : y / 2 ^ s % 2 = 1)
    (hin : RefW w wi N p ((V * 2 ^ (k - (s + 1)) + y / 2 ^ (s + 1)) * 2 ^ (8 * N - p))) :
    ∃ d : Nat, d < 256 ∧ wi.cell? ⟨w.heap.size, p / 8, none⟩ = some (.int .u8 d) ∧ wi.frozen? ⟨w.heap.size, p / 8, none⟩ = false ∧ (d : Int) + 128 / 2 ^ (p % 8) < 256 ∧ 0 < (128 : Int) / 2 ^ (p % 8) ∧
      RefW w (wi.setCell ⟨w.heap.size, p / 8, none⟩ (.int .u8 ((d : Int) + 128 / 2 ^ (p % 8)))) N (a0 + (k - s)) ((V * 2 ^ (k - s) + y / 2 ^ s) * 2 ^ (8 * N - (a0 + (k - s)))) := by
  obtain ⟨h1, h2, h3⟩ := hin
  obtain ⟨_, e2, e3⟩ := put_fits _ N p 1 1 (by omega) (by omega) h3 (by omega) (by omega)
  simp only [Nat.one_mul] at e2 e3
  have hj : p / 8 < N := by omega
  refine ⟨_, byteAt_lt _ N (p / 8), (h1.cell _).trans (bytesArr_get _ N _ hj), h1.frozen _, ?_, ?_, ?_, ?_, ?_⟩
  · rw [shr128]
    rw [show 8 - p % 8 - 1 = 7 - p % 8 from by omega] at e2
    omega
  · rw [shr128]
    have := Nat.two_pow_pos (7 - p % 8)
    omega
  · rw [shr128]
    have h := h1.set_ (p / 8) (.int .u8 ((byteAt ((V * 2 ^ (k - (s + 1)) + y / 2 ^ (s + 1)) * 2 ^ (8 * N - p)) N (p / 8) + 2 ^ (8 - p % 8 - 1) : Nat) : Int))
    rw [bytesArr_add _ N _ _ hj e2, ← e3] at h
    have hn := pack_num V y k s 1 (8 * N - p - 1) hs
    rw [hb, Nat.one_mul, show 8 * N - p - 1 + 1 = 8 * N - p from by omega] at hn
    rw [hn, show 8 - p % 8 - 1 = 7 - p % 8 from by omega, show 8 * N - p - 1 = 8 * N - (a0 + (k - s)) from by omega] at h
    exact h
  · exact h2.setCell (Nat.le_refl _) _
  · exact Nat.mul_mod_left _ _
theorem RefW_zero {w wi : World} {N a0 k V y s p : Nat} (hs : s + 1 ≤ k) (hak : a0 + k ≤ 8 * N) (hp : p = a0 + (k - (s + 1))) (hb : y / 2 ^ s % 2 = 0)
    (hin : RefW w wi N p ((V * 2 ^ (k - (s + 1)) + y / 2 ^ (s + 1)) * 2 ^ (8 * N - p))) :
      RefW w wi N (a0 + (k - s)) ((V * 2 ^ (k - s) + y / 2 ^ s) * 2 ^ (8 * N - (a0 + (k - s)))) := by
  obtain ⟨h1, h2, h3⟩ := hin
  have hn := pack_num V y k s 1 (8 * N - p - 1) hs
  rw [hb, Nat.zero_mul, Nat.add_zero, show 8 * N - p - 1 + 1 = 8 * N - p from by omega, show 8 * N - p - 1 = 8 * N - (a0 + (k - s)) from by omega] at hn
  rw [hn] at h1
  exact ⟨h1, h2, Nat.mul_mod_left _ _⟩

end Go.Proofs.YtekdcnlbdgikoaaDoor

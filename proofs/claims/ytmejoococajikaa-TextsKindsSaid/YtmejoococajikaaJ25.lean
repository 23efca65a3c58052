/- Joined texts: PlainW, PlainV, RefMost, RefDirect, DTake. Each has its own head line. No condition beyond those that its theorems state. -/
import Derived.Test.YtmejoococajikaaJ24
import Derived.Test.YtmejoococajikaaJ11
import Derived.Test.YtmejoococajikaaJ20
set_option linter.unusedVariables false

/- Plain words: a literal slice; what is unpacked. -/
namespace Go.Proofs.Ytmejoococajikaa
open Go.RowKit

theorem Calls.turn_ {P : Program} {f : FuncId} {args : Array Value} {w : World} {v : Value} (h : Calls P f args w fun e w' => e = .returned v ∧ w = w') : Calls P f args w fun e w' => e = .returned v ∧ w' = w :=
  h.mono fun _ _ ⟨he, hm⟩ => ⟨he, hm.symm⟩

theorem Ri_lit (w : World) (k : IntKind) (l : List Int) (t : TypeId) (cs : Array Value) (hcs : cs = (l.map (Value.int k)).toArray) (n : Nat) (hn : l.length = n) :
    Ri (w.alloc (.cells cs t)) k (some ⟨w.heap.size, 0, none⟩) n l := by
  subst hcs
  refine ⟨by simpa using hn, fun _ => ⟨w.heap.size, 0, rfl, by simp, fun j u hu => ?_⟩⟩
  rw [(Blk.new w t _).cell]; simpa using hu
theorem unpackR_u64 (l : List Int) (m x : Int) : U64 (unpackR l m x).1 := by
  unfold unpackR
  cases hf : fitsB m x
  · intro y hy; simp at hy
  · rw [if_neg (by simp)]
    have hx := of_decide_eq_true hf
    split
    · intro y hy; cases hy
    · simp only
      split
      · exact bits_u64 _ _ _ _ (by omega)
      · intro y hy; cases hy
theorem unpackR_len (l : List Int) (m x : Int) : (unpackR l m x).1.length ≤ 4096 := by
  unfold unpackR
  cases hf : fitsB m x
  · simp
  · rw [if_neg (by simp)]
    have hx := of_decide_eq_true hf
    split
    · simp
    · simp only
      split
      · simp only [bitsL_len]; omega
      · simp

end Go.Proofs.Ytmejoococajikaa

/- Plain laws: what was packed is unpacked; the order of packed numbers. -/
namespace Go.Proofs.Ytmejoococajikaa
open Go.RowKit

theorem packV_bytesOf (X N : Nat) (h : X < 256 ^ N) : packV (bytesOf X N) 8 = X := by
  have h1 := bytesOf_packV (bytesOf X N) (bytesOf_u8 X N)
  rw [bytesOf_len] at h1
  have h2 := packV_lt (bytesOf X N) 8 (fun y hy => by have := bytesOf_u8 X N y hy; omega)
  rw [bytesOf_len] at h2
  exact bytesOf_inj _ _ N (by rw [pow8, Nat.mul_comm]; exact h2) h h1
theorem room_lt (l : List Int) (k : Nat) (hu : U64 l) (h : l.all (roomB k) = true) (y : Int) (hy : y ∈ l) : y.toNat < 2 ^ k := by
  have h1 := List.all_eq_true.1 h y hy
  rcases of_decide_eq_true h1 with h2 | h2
  · subst h2
    have := hu y hy
    omega
  · exact h2
/-- What was packed is unpacked as it was, whatever stands behind. -/
theorem pack_back (l behind : List Int) (k : Nat) (hk : k ≤ 64) (hl : l.length ≤ 4096) (hu : U64 l) (hr : l.all (roomB k) = true) :
    ∃ p, packR l k = (p, 0) ∧ U8 p ∧ p.length = (l.length * k + 7) / 8 ∧ unpackR (p ++ behind) l.length k = (l, behind, 0) := by
  obtain ⟨N, hN⟩ : ∃ N, N = (l.length * k + 7) / 8 := ⟨_, rfl⟩
  obtain ⟨X, hX⟩ : ∃ X, X = packV l k * 2 ^ (8 * N - l.length * k) := ⟨_, rfl⟩
  have hlk : l.length * k ≤ 8 * N := by omega
  have hV := packV_lt l k (room_lt l k hu hr)
  have hXl : X < 256 ^ N := by
    rw [pow8, hX, show 8 * N = l.length * k + (8 * N - l.length * k) from by omega, Nat.pow_add, show l.length * k + (8 * N - l.length * k) - l.length * k = 8 * N - l.length * k from by omega]
    exact (Nat.mul_lt_mul_right (Nat.two_pow_pos _)).2 hV
  refine ⟨bytesOf X N, ?_, bytesOf_u8 _ _, by rw [bytesOf_len, hN], ?_⟩
  · unfold packR
    rw [if_neg (by omega), if_neg (by omega), Int.toNat_natCast, if_pos hr, ← hN, ← hX]
  · have hf : fitsB (l.length : Int) (k : Int) = true := decide_eq_true (by omega)
    have hs : (sizeN (l.length : Int) (k : Int)).toNat = N := by
      unfold sizeN
      rw [hf, if_pos rfl, hN, ← Int.natCast_mul]; omega
    have ht : (bytesOf X N ++ behind).take N = bytesOf X N := by
      rw [List.take_append_of_le_length (by rw [bytesOf_len]; exact Nat.le_refl _), List.take_of_length_le (by rw [bytesOf_len]; exact Nat.le_refl _)]
    have hd : (bytesOf X N ++ behind).drop N = behind := by
      rw [List.drop_append_of_le_length (by rw [bytesOf_len]; exact Nat.le_refl _), List.drop_of_length_le (by rw [bytesOf_len]; exact Nat.le_refl _), List.nil_append]
    unfold unpackR
    rw [if_neg (by rw [hf]; simp), hs, if_neg (by rw [List.length_append, bytesOf_len]; omega)]
    simp only [ht, hd, packV_bytesOf X N hXl, Int.toNat_natCast]
    rw [if_pos (by rw [hX]; exact Nat.mul_mod_left _ _)]
    have e : bitsL X (8 * N) k l.length = l := by
      apply List.ext_getElem?
      intro i
      rcases Nat.lt_or_ge i l.length with h | h
      · have h1 : (i + 1) * k ≤ l.length * k := Nat.mul_le_mul_right _ h
        rw [Nat.add_mul, Nat.one_mul] at h1
        have h2 : (l.length - 1 - i) * k = l.length * k - (i * k + k) := by
          rw [show l.length - 1 - i = l.length - (i + 1) from by omega, Nat.sub_mul, Nat.add_mul, Nat.one_mul]
        have h3 := packV_get l k (room_lt l k hu hr) i h
        have h4 := hu _ (getD_mem l i h)
        simp only [bitsL, List.getElem?_map, List.getElem?_range h, Option.map_some]
        rw [List.getElem?_eq_getElem h, Option.some.injEq]
        unfold bitsV
        rw [hX, show 8 * N - (i * k + k) = (8 * N - l.length * k) + (l.length * k - (i * k + k)) from by omega, Nat.pow_add, ← Nat.div_div_eq_div_mul, Nat.mul_div_cancel _ (Nat.two_pow_pos _), ← h2, h3]
        rw [show l.getD i 0 = l[i] from by simp [List.getD, h]] at h4 ⊢
        omega
      · rw [List.getElem?_eq_none (by rw [bitsL_len]; exact h), List.getElem?_eq_none h]
    rw [e]
/-- The lowest bits of numbers. -/
def maskN (k : Nat) (y : Int) : Int := if k < 64 then ((y.toNat % 2 ^ k : Nat) : Int) else y
theorem mask_room (k : Nat) (hk : k ≤ 64) (l : List Int) (hu : U64 l) : (l.map (maskN k)).all (roomB k) = true ∧ U64 (l.map (maskN k)) := by
  constructor
  · rw [List.all_eq_true]
    intro y hy
    obtain ⟨z, hz, rfl⟩ := List.mem_map.1 hy
    refine decide_eq_true ?_
    unfold maskN
    rcases Nat.lt_or_ge k 64 with h | h
    · rw [if_pos h, Int.toNat_natCast]; exact .inr (Nat.mod_lt _ (Nat.two_pow_pos _))
    · exact .inl (by omega)
  · intro y hy
    obtain ⟨z, hz, rfl⟩ := List.mem_map.1 hy
    have := hu z hz
    unfold maskN
    split
    · have h2 := Nat.mod_le z.toNat (2 ^ k)
      omega
    · exact this
theorem mask_bits (k : Nat) (hk : k < 64) (y : Nat) (hy : y < 18446744073709551616) : bits BinOp.and IntKind.u64 (y : Int) ((2 : Int) ^ k - 1) = maskN k y := by
  unfold maskN
  have h1 := Nat.two_pow_pos k
  have h2 : 2 ^ k ≤ 2 ^ 63 := Nat.pow_le_pow_right (by omega) (by omega)
  rw [if_pos hk, Int.toNat_natCast, show ((2 : Int) ^ k - 1) = ((2 ^ k - 1 : Nat) : Int) from by rw [Int.natCast_sub h1, Int.natCast_pow]; rfl, u64_and_nat _ _ hy (by omega), Nat.and_two_pow_sub_one_eq_mod]
end Go.Proofs.Ytmejoococajikaa

/- The reference of widths.Bits and widths.Most. -/
namespace Go.Proofs.Ytmejoococajikaa
open Go.RowKit

end Go.Proofs.Ytmejoococajikaa

/- The reference of direct.Put. -/
namespace Go.Proofs.Ytmejoococajikaa
open Go.RowKit

end Go.Proofs.Ytmejoococajikaa

/- direct.Take and its reference. -/
namespace Go.Proofs.Ytmejoococajikaa
open Go.RowKit

def takeD (b : List Int) (s : Bool) : List Int × List Int × Int :=
  if (lookR b).2.2.2.2 ≠ 0 ∨ (lookR b).1 ≠ 1 then ([], [], 2)
  else if (unpackR (lookR b).2.2.2.1 (lookR b).2.2.1 (wOf (lookR b).2.1)).2.2 ≠ 0 then ([], [], 2)
  else if (madeL (unpackR (lookR b).2.2.2.1 (lookR b).2.2.1 (wOf (lookR b).2.1)).1 s).2 ≠ 0 then ([], [], 2)
  else ((madeL (unpackR (lookR b).2.2.2.1 (lookR b).2.2.1 (wOf (lookR b).2.1)).1 s).1, (unpackR (lookR b).2.2.2.1 (lookR b).2.2.1 (wOf (lookR b).2.1)).2.1, 0)
/-- Numbers, bytes and an error's number are handed back. -/
def TakeOutD (w : World) (l1 l2 : List Int) (er : Int) (e : Ending) (w' : World) : Prop :=
  ∃ G n c G2 n2 c2, e = .returned (.tuple #[.slice G n c, .slice G2 n2 c2, .int .i64 er]) ∧ Sl w' .i64 G n c l1 ∧ Sl w' .u8 G2 n2 c2 l2 ∧ Below w.heap.size w w'
theorem lookR_good (b : List Int) (hu : U8 b) : U8 (lookR b).2.2.2.1 ∧ ((lookR b).2.2.2.2 = 0 ∨ (lookR b).2.2.2.2 = 2) ∧ (0 ≤ (lookR b).2.1 ∧ (lookR b).2.1 < 32) ∧ (lookR b).2.2.2.1.length ≤ b.length := by
  unfold lookR
  split
  · exact ⟨fun x hx => by (cases hx), .inr rfl, by simp, by simp⟩
  · exact ⟨fun x hx => hu x (List.mem_of_mem_drop hx), .inl rfl, ⟨by dsimp only; omega, by dsimp only; omega⟩, by simp⟩

end Go.Proofs.Ytmejoococajikaa

/- Joined texts: TakeB. Each has its own head line. No condition beyond those that its theorems state. -/
import Derived.Test.YtlmfdmaoakckgaaJ32
set_option linter.unusedVariables false

/- boolrle.Take and its reference. -/
namespace Go.Proofs.Ytlmfdmaoakckgaa
open Go.RowKit

/-- The i-th bit of bytes. -/
def bitAt (x : List Int) (i : Nat) : Bool := decide ((x.getD (i / 8) 0).toNat / 2 ^ (7 - i % 8) % 2 = 1)
def bitsB (x : List Int) (n : Nat) : List Bool := (List.range n).map (bitAt x)
theorem bitsB_len (x : List Int) (n : Nat) : (bitsB x n).length = n := by simp [bitsB]
theorem bitsB_succ (x : List Int) (n : Nat) : bitsB x (n + 1) = bitsB x n ++ [bitAt x n] := by simp [bitsB, List.range_succ]
theorem bitsB_take (x : List Int) (n m : Nat) (h : m ≤ n) : (bitsB x n).take m = bitsB x m := by
  unfold bitsB
  rw [← List.map_take, List.take_range, Nat.min_eq_left h]
def takeB (b : List Int) (many : Int) : List Bool × List Int × Int :=
  if many < 0 ∨ 4096 < many then ([], [], 1)
  else if (decR b ((many + 7) / 8)).2.2 ≠ 0 then ([], [], 2)
  else if countB ((bitsB (decR b ((many + 7) / 8)).1 (8 * (decR b ((many + 7) / 8)).1.length)).drop many.toNat) > 0 then ([], [], 2)
  else (bitsB (decR b ((many + 7) / 8)).1 many.toNat, (decR b ((many + 7) / 8)).2.1, 0)
theorem decF_len (f : Nat) : ∀ (many : Nat) (out b : List Int), (decF f many out b).2.2 = 0 → (decF f many out b).1.length = many := by
  induction f with
  | zero => intro many out b h; simp [decF] at h
  | succ f ih =>
    intro many out b h
    simp only [decF] at h ⊢
    split
    · split
      · rename_i h1 h2; simp [h1, h2] at h
      · dsimp only; omega
    · rename_i h1
      rw [if_neg h1] at h
      split
      · rename_i h2; rw [if_pos h2] at h; simp at h
      · rename_i h2
        rw [if_neg h2] at h
        split
        · rename_i h3; rw [if_pos h3] at h; exact ih _ _ _ h
        · rename_i h3
          rw [if_neg h3] at h
          split
          · rename_i h4; rw [if_pos h4] at h; simp at h
          · rename_i h4; rw [if_neg h4] at h; exact ih _ _ _ h
theorem decR_len (b : List Int) (m : Int) (h : (decR b m).2.2 = 0) : 0 ≤ m ∧ m ≤ 4096 ∧ ((decR b m).1.length : Int) = m := by
  unfold decR at h ⊢
  split
  · rename_i h1; rw [if_pos h1] at h; simp at h
  · rename_i h1
    rw [if_neg h1] at h
    have := decF_len _ _ _ _ h
    omega
theorem decF_u8 (f : Nat) : ∀ (many : Nat) (out b : List Int), U8 out → U8 b → U8 (decF f many out b).1 ∧ U8 (decF f many out b).2.1 := by
  induction f with
  | zero => intro many out b _ _; exact ⟨fun x hx => by simp [decF] at hx, fun x hx => by simp [decF] at hx⟩
  | succ f ih =>
    intro many out b ho hb
    simp only [decF]
    split
    · split
      · exact ⟨fun x hx => by (cases hx), fun x hx => by (cases hx)⟩
      · exact ⟨ho, hb⟩
    · split
      · exact ⟨fun x hx => by (cases hx), fun x hx => by (cases hx)⟩
      · split
        · refine ih _ _ _ (fun x hx => ?_) (fun x hx => hb x (List.mem_of_mem_drop hx))
          rcases List.mem_append.1 hx with h | h
          · exact ho x h
          · rw [List.eq_of_mem_replicate h]; exact getD_u8 hb 1
        · split
          · exact ⟨fun x hx => by (cases hx), fun x hx => by (cases hx)⟩
          · refine ih _ _ _ (fun x hx => ?_) (fun x hx => hb x (List.mem_of_mem_drop hx))
            rcases List.mem_append.1 hx with h | h
            · exact ho x h
            · exact hb x (List.mem_of_mem_drop (List.mem_of_mem_take h))
theorem decR_u8 (b : List Int) (m : Int) (hb : U8 b) : U8 (decR b m).1 ∧ U8 (decR b m).2.1 := by
  unfold decR
  split
  · exact ⟨fun x hx => by (cases hx), fun x hx => by (cases hx)⟩
  · exact decF_u8 _ _ _ _ (fun x hx => by cases hx) hb
theorem bit_test : ∀ c : Nat, c < 256 → ∀ m : Nat, m < 8 → (bits .and .u8 (c : Int) (128 / 2 ^ m) != 0) = decide (c / 2 ^ (7 - m) % 2 = 1) := by decide +kernel
theorem bit_test_ref : ∀ c : Nat, c < 256 → ∀ m : Nat, m < 8 → (bits .and .u8 ((c : Int) / 2 ^ (7 - m)) 1 == 1) = decide (c / 2 ^ (7 - m) % 2 = 1) := by decide +kernel
/-- Truths, bytes and an error's number are handed back. -/
def TakeOutB (w : World) (l1 : List Bool) (l2 : List Int) (er : Int) (e : Ending) (w' : World) : Prop :=
  ∃ G n c G2 n2 c2, e = .returned (.tuple #[.slice G n c, .slice G2 n2 c2, .int .i64 er]) ∧ Sb w' G n c l1 ∧ Sl w' .u8 G2 n2 c2 l2 ∧ Below w.heap.size w w'
end Go.Proofs.Ytlmfdmaoakckgaa

/- Patched: what Take answers. -/
import Derived.Test.YtpngbljfboceeaaPlainPa
import Derived.Test.YtpngbljfboceeaaPlainU
import Derived.Test.YtpngbljfboceeaaHead
namespace Go.Proofs.Ytpngbljfboceeaa
open Go.RowKit

def topB (b : List Int) : List Int := (b.getD 0 0 % 128) :: b.drop 1
/-- A base of bytes. -/
def numR (b : List Int) : Int := (stepR 0 (packV (topB b) 8) (decide (128 ≤ b.getD 0 0))).1
def patchStep (K g W : Nat) (low : List Int) (a : Nat) (x : Int) : Option (List Int × Nat) :=
  if ¬ x / 2 ^ K < 2 ^ g ∨ low.length ≤ a + (x / 2 ^ K).toNat ∨ (x % 2 ^ K ≠ 0 ∧ 64 ≤ blen (x % 2 ^ K).toNat + W) then none
  else some (low.set (a + (x / 2 ^ K).toNat) (bits BinOp.xor IntKind.u64 (low.getD (a + (x / 2 ^ K).toNat) 0) (IntKind.u64.wrap (x % 2 ^ K * 2 ^ W))), a + (x / 2 ^ K).toNat)
def patchN (K g W : Nat) (low both : List Int) : Nat → Option (List Int × Nat)
  | 0 => some (low, 0)
  | j + 1 => (patchN K g W low both j).bind fun s => patchStep K g W s.1 s.2 (both.getD j 0)
theorem patchN_none (K g W : Nat) (low both : List Int) (j m : Nat) (h : patchN K g W low both j = none) (hm : j ≤ m) : patchN K g W low both m = none := by
  induction m with
  | zero => obtain rfl : j = 0 := by omega
            exact h
  | succ m ih =>
    rcases Nat.lt_or_ge j (m + 1) with h1 | h1
    · rw [patchN, ih (by omega)]; rfl
    · obtain rfl : j = m + 1 := by omega
      exact h
theorem patchN_succ (K g W : Nat) (low both : List Int) (j : Nat) (l : List Int) (a : Nat) (h : patchN K g W low both j = some (l, a)) : patchN K g W low both (j + 1) = patchStep K g W l a (both.getD j 0) := by rw [patchN, h]; rfl
theorem patchStep_bad {K g W : Nat} {low : List Int} {a : Nat} {x : Int} (h : ¬ x / 2 ^ K < 2 ^ g ∨ low.length ≤ a + (x / 2 ^ K).toNat ∨ (x % 2 ^ K ≠ 0 ∧ 64 ≤ blen (x % 2 ^ K).toNat + W)) : patchStep K g W low a x = none := if_pos h
theorem patchStep_ok {K g W : Nat} {low : List Int} {a : Nat} {x : Int} (h1 : x / 2 ^ K < 2 ^ g) (h2 : a + (x / 2 ^ K).toNat < low.length) (h3 : x % 2 ^ K = 0 ∨ blen (x % 2 ^ K).toNat + W < 64) :
    patchStep K g W low a x = some (low.set (a + (x / 2 ^ K).toNat) (bits BinOp.xor IntKind.u64 (low.getD (a + (x / 2 ^ K).toNat) 0) (IntKind.u64.wrap (x % 2 ^ K * 2 ^ W))), a + (x / 2 ^ K).toNat) := if_neg (by
  rintro (h | h | ⟨h, h'⟩)
  · exact h h1
  · omega
  · rcases h3 with h4 | h4
    · exact h h4
    · omega)
theorem patchN_bad {K g W : Nat} {low both : List Int} {j m : Nat} {l : List Int} {a : Nat} (h : patchN K g W low both j = some (l, a)) (hj : j < m) (hb : patchStep K g W l a (both.getD j 0) = none) : patchN K g W low both m = none :=
  patchN_none K g W low both (j + 1) m (by rw [patchN_succ K g W low both j l a h]; exact hb) hj
/-- Numbers above a base; false: one is none, or is below 0 and may not be. -/
def sumOk (B : Int) (s : Bool) (u : Int) : Bool := (stepR B u false).2 && (s || decide (0 ≤ (stepR B u false).1))
def sumL (B : Int) (low : List Int) : List Int := low.map fun u => (stepR B u false).1
theorem bits_u64_range (a b : Int) : 0 ≤ bits BinOp.xor IntKind.u64 a b ∧ bits BinOp.xor IntKind.u64 a b < 18446744073709551616 := by
  show 0 ≤ IntKind.u64.wrap _ ∧ IntKind.u64.wrap _ < 18446744073709551616
  rw [IntKind.wrap_u64]; omega
theorem patchN_u64 (K g W : Nat) (low both : List Int) (h : U64 low) (j : Nat) : ∀ s, patchN K g W low both j = some s → U64 s.1 ∧ s.1.length = low.length := by
  induction j with
  | zero => intro s hs; rw [patchN] at hs; injection hs with hs; subst hs; exact ⟨h, rfl⟩
  | succ j ih =>
    intro s hs
    rw [patchN] at hs
    cases hp : patchN K g W low both j with
    | none => rw [hp] at hs; cases hs
    | some q =>
      rw [hp] at hs
      obtain ⟨h1, h2⟩ := ih q hp
      have hs : patchStep K g W q.1 q.2 (both.getD j 0) = some s := hs
      unfold patchStep at hs
      split at hs
      · cases hs
      · injection hs with hs
        subst hs
        refine ⟨fun y hy => ?_, by rw [List.length_set]; exact h2⟩
        rcases List.mem_or_eq_of_mem_set hy with h3 | h3
        · exact h1 y h3
        · rw [h3]; exact bits_u64_range _ _
def badT : List Int × List Int × Int := ([], [], 2)
def takeP4 (B : Int) (s : Bool) (o : Option (List Int × Nat)) (r : List Int) : List Int × List Int × Int :=
  match o with
  | none => badT
  | some q => if q.1.all (sumOk B s) then (sumL B q.1, r, 0) else badT
def takeP3 (B : Int) (s : Bool) (K g W : Nat) (sm : Int) (low : List Int) (u2 : List Int × List Int × Int) : List Int × List Int × Int :=
  if u2.2.2 ≠ 0 then badT else takeP4 B s (patchN K g W low u2.1 sm.toNat) u2.2.1
def takeP2b (B : Int) (s : Bool) (K g W : Nat) (sm : Int) (u1 : List Int × List Int × Int) : List Int × List Int × Int :=
  if u1.2.2 ≠ 0 then badT else takeP3 B s K g W sm u1.1 (unpackR u1.2.1 sm (wClosest ((g : Int) + K)))
def takeP2 (r : List Int) (s : Bool) (nn K g W : Nat) (many sm : Int) : List Int × List Int × Int :=
  if 64 < g + K ∨ r.length < nn then badT else takeP2b (numR (r.take nn)) s K g W sm (unpackR (r.drop nn) many W)
/-- What Take answers. -/
def takePa (b : List Int) (s : Bool) : List Int × List Int × Int :=
  if b.length < 2 ∨ (lookR b).1 ≠ 2 ∨ b.length < 4 then badT
  else takeP2 (b.drop 4) s (b.getD 2 0 / 32 + 1).toNat (wOf (b.getD 2 0 % 32)).toNat (b.getD 3 0 / 32 + 1).toNat (wOf (lookR b).2.1).toNat (lookR b).2.2.1 (b.getD 3 0 % 32)
end Go.Proofs.Ytpngbljfboceeaa

/- Joined texts: VarTake, VarRT, VarInt. Each has its own head line. No condition beyond those that its theorems state. -/
import Derived.Deep.RegionWith
import Derived.Test.YtmejoococajikaaJ21
set_option linter.unusedVariables false

/- varint.Take and its reference. -/
namespace Go.Proofs.Ytmejoococajikaa
open Go.RowKit

def VTakeOut (w : World) (x : Nat) (l : List Int) (er : Int) (e : Ending) (w' : World) : Prop :=
  ∃ G n c, e = .returned (.tuple #[.int .u64 x, .slice G n c, .int .i64 er]) ∧ Sl w' .u8 G n c l ∧ Below w.heap.size w w'
theorem vval_snoc (b : List Int) (j : Nat) (h : j < b.length) : vval (b.take (j + 1)) = vval (b.take j) + 128 ^ j * ((b.getD j 0).toNat % 128) := by
  rw [take_snoc b j h, vval_append, List.length_take, Nat.min_eq_left (by omega)]
  simp [vval]
theorem andNot_128 : ∀ c : Nat, c < 256 → bits .andNot .u8 (c : Int) 128 = ((c % 128 : Nat) : Int) := by decide +kernel
theorem and_128 : ∀ c : Nat, c < 256 → (bits .and .u8 (c : Int) 128 != 0) = decide (128 ≤ c) := by decide +kernel
theorem pow7 (j : Nat) : 2 ^ (7 * j) = 128 ^ j := by rw [Nat.pow_mul]
/-- One byte more. -/
theorem vor_step (b : List Int) (j : Nat) (hj : j < b.length) (h9 : j < 9 ∨ j = 9 ∧ b.getD j 0 ≤ 1) :
    bits .or .u64 (vval (b.take j) : Int) (IntKind.u64.wrap ((((b.getD j 0).toNat % 128 : Nat) : Int) * 2 ^ (7 * j))) = (vval (b.take (j + 1)) : Int) ∧ vval (b.take (j + 1)) < 18446744073709551616 := by
  have h1 := vval_lt (b.take j)
  rw [List.length_take, Nat.min_eq_left (by omega)] at h1
  rw [vval_snoc b j hj]
  generalize vval (b.take j) = V at *
  generalize hc : (b.getD j 0).toNat % 128 = c at *
  have h7 : (128 : Nat) ^ 9 = 9223372036854775808 := by decide
  have hlt : 128 ^ j * c + V < 18446744073709551616 := by
    rcases h9 with h9 | ⟨rfl, h9⟩
    · have h5 : 128 ^ (j + 1) ≤ 128 ^ 9 := Nat.pow_le_pow_right (by omega) (by omega)
      have h6 : 128 ^ j * c ≤ 128 ^ j * 127 := Nat.mul_le_mul_left _ (by omega)
      rw [Nat.pow_succ] at h5
      omega
    · rw [h7] at h1 ⊢
      have : c ≤ 1 := by omega
      omega
  have e1 : ((c : Int) * 2 ^ (7 * j)) = ((c * 2 ^ (7 * j) : Nat) : Int) := by rw [Int.natCast_mul, Int.natCast_pow]; rfl
  rw [← pow7] at h1 hlt ⊢
  have hlt2 : c * 2 ^ (7 * j) + V < 18446744073709551616 := by rw [Nat.mul_comm]; exact hlt
  rw [e1, IntWalk.u64_in _ (by omega), u64_or_nat _ _ (by omega) (by omega)]
  constructor
  · rw [Nat.or_comm, Nat.mul_comm c, ← Nat.two_pow_add_eq_or_of_lt h1 c, Nat.add_comm]
  · omega

theorem vtake_bad (b : List Int) (hu : U8 b) (h : b.length ≤ lead 9 b ∨ 128 ≤ b.getD (lead 9 b) 0 ∨ (b.getD (lead 9 b) 0 = 0 ∧ 0 < lead 9 b) ∨ (lead 9 b = 9 ∧ 1 < b.getD (lead 9 b) 0)) : vtakeR b = (0, [], 2) := by
  unfold vtakeR
  by_cases h1 : b.length ≤ lead 9 b
  · rw [if_pos h1]
  · rw [if_neg h1, if_neg]
    rw [vtake_good b hu (by omega)]
    omega
theorem vtake_ok (b : List Int) (hu : U8 b) (h1 : lead 9 b < b.length) (h2 : b.getD (lead 9 b) 0 < 128) (h3 : ¬ (b.getD (lead 9 b) 0 = 0 ∧ 0 < lead 9 b)) (h4 : ¬ (lead 9 b = 9 ∧ 1 < b.getD (lead 9 b) 0)) :
    vtakeR b = (vval (b.take (lead 9 b + 1)), b.drop (lead 9 b + 1), 0) := by
  have h5 := (vtake_good b hu h1).2 ⟨h2, h3, h4⟩
  have h6 := (vor_step b (lead 9 b) h1 (by have := (lead_le 9 b).1; omega)).2
  unfold vtakeR
  rw [if_neg (by omega), if_pos h5, Nat.mod_eq_of_lt h6]
theorem VTakeOut.bad {w : World} : VTakeOut w 0 [] 2 (.returned (.tuple #[.int .u64 0, .slice none 0 0, .int .i64 2])) w := ⟨none, 0, 0, rfl, Sl.nil _ _, Below.refl _ _⟩

end Go.Proofs.Ytmejoococajikaa

/- The reference of varint.Take. -/
namespace Go.Proofs.Ytmejoococajikaa
open Go.RowKit

theorem vval_cons_drop (l : List Int) (j : Nat) (h : j < l.length) : vval (l.drop j) = (l.getD j 0).toNat % 128 + 128 * vval (l.drop (j + 1)) := by
  rw [List.drop_eq_getElem_cons h]
  simp [vval, List.getD, List.getElem?_eq_getElem h]
theorem lead_at (b : List Int) (j : Nat) (h1 : ∀ i, i < j → 128 ≤ b.getD i 0) (h2 : b.length ≤ j ∨ 9 ≤ j ∨ b.getD j 0 < 128) (h3 : j ≤ b.length) (h4 : j ≤ 9) : lead 9 b = j := by
  have hle := lead_le 9 b
  have hlg := lead_ge 9 b
  have hls := lead_stop 9 b
  rcases Nat.lt_trichotomy (lead 9 b) j with h | h | h
  · have := hls (by omega) (by omega)
    have := h1 _ h
    omega
  · exact h
  · have := hlg j h
    omega

end Go.Proofs.Ytmejoococajikaa

/- varint.PutInt, TakeInt and their references. -/
namespace Go.Proofs.Ytmejoococajikaa
open Go.RowKit

/-- A number as one without a sign. -/
def unsN (x : Int) (s : Bool) : Nat := if s then (zig x).toNat else (x % 18446744073709551616).toNat
theorem unsN_lt (x : Int) (s : Bool) (h : -9223372036854775808 ≤ x ∧ x < 9223372036854775808) : unsN x s < 18446744073709551616 := by
  unfold unsN
  have := zig_range x h.1 h.2
  split <;> omega
def takeI (b : List Int) (s : Bool) : Int × List Int × Int :=
  if (vtakeR b).2.2 ≠ 0 then (0, [], 2)
  else if s then (zag (vtakeR b).1, (vtakeR b).2.1, 0)
  else if 9223372036854775808 ≤ (vtakeR b).1 then (0, [], 2)
  else ((vtakeR b).1, (vtakeR b).2.1, 0)
def ITakeOut (w : World) (x : Int) (l : List Int) (er : Int) (e : Ending) (w' : World) : Prop :=
  ∃ G n c, e = .returned (.tuple #[.int .i64 x, .slice G n c, .int .i64 er]) ∧ Sl w' .u8 G n c l ∧ Below w.heap.size w w'
theorem takeI_put (x : Int) (s : Bool) (h : -9223372036854775808 ≤ x ∧ x < 9223372036854775808) (h0 : s = true ∨ 0 ≤ x) (q : List Int) : takeI (vput (unsN x s) ++ q) s = (x, q, 0) := by
  unfold takeI
  rw [vtake_put _ (unsN_lt x s h) q]
  have hz := zig_range x h.1 h.2
  cases s
  · have : 0 ≤ x := by rcases h0 with h0 | h0; cases h0; exact h0
    have e : unsN x false = x.toNat := by unfold unsN; rw [if_neg (by simp)]; omega
    rw [e, if_neg (by simp), if_neg (by simp), if_neg (by dsimp only; omega)]
    dsimp only
    rw [show (x.toNat : Int) = x from by omega]
  · have e : ((unsN x true : Nat) : Int) = zig x := by unfold unsN; rw [if_pos rfl]; omega
    rw [if_neg (by simp), if_pos rfl]
    dsimp only
    rw [e, zag_zig]
theorem takeI_range (b : List Int) (s : Bool) : -9223372036854775808 ≤ (takeI b s).1 ∧ (takeI b s).1 < 9223372036854775808 := by
  unfold takeI
  split
  · simp
  · split
    · refine zag_range _ (by omega) ?_
      unfold vtakeR
      split
      · simp
      · split
        · have := Nat.mod_lt (vval (b.take (lead 9 b + 1))) (show 18446744073709551616 > 0 by omega)
          dsimp only; omega
        · simp
    · split
      · simp
      · dsimp only; omega
theorem takeI_u8 (b : List Int) (s : Bool) (hu : U8 b) : U8 (takeI b s).2.1 ∧ ((takeI b s).2.2 = 0 ∨ (takeI b s).2.2 = 2) := by
  have hnil : U8 [] := fun y hy => by cases hy
  have h := vtake_u8 b hu
  unfold takeI
  split
  · exact And.intro hnil (Or.inr rfl)
  · split
    · exact And.intro h.2.1 (Or.inl rfl)
    · split
      · exact And.intro hnil (Or.inr rfl)
      · exact And.intro h.2.1 (Or.inl rfl)
theorem u64_of_int (x : Int) : IntKind.u64.wrap x = ((unsN x false : Nat) : Int) := by
  rw [IntKind.wrap_u64]; unfold unsN; rw [if_neg (by simp)]; omega

set_option maxRecDepth 100000 in
set_option maxHeartbeats 1000000 in
theorem PutInt_any (w : World) (A : Option Addr) (n cap : Nat) (b : List Int) (hr : Ri w .u8 A n b) (hn : n ≤ 100000) (x : Int) (hx : -9223372036854775808 ≤ x ∧ x < 9223372036854775808) (s : Bool) :
    Calls Try.prog 57 #[.slice A n cap, .int .i64 x, .bool s] w (BytesOut w (b ++ vput (unsN x s))) := by
  have HR := Lib.hid hr; clear hr
  have hlt := unsN_lt x s hx
  cases s
  · have he := u64_of_int x
    go_enter Try.func57, Try.ntmps57
    go_wp2_with fail
    refine (VPut_any _ _ _ _ b HR.out hn (unsN x false) hlt).mono ?_; rintro e w2 ⟨G2, n2, c2, rfl, hs2, hb2⟩
    go_wp2_with fail
    go_ret
    exact ⟨_, _, _, rfl, hs2, hb2⟩
  · have hz := zig_range x hx.1 hx.2
    have HE := Lib.hid (show zig x = ((unsN x true : Nat) : Int) from by unfold unsN; rw [if_pos rfl]; omega)
    go_enter Try.func57, Try.ntmps57
    go_wp2_with fail
    refine (Zig_any _ _ hx.1 hx.2).mono ?_; rintro e w' ⟨rfl, rfl⟩
    rw [HE.out]
    go_wp2_with fail
    refine (VPut_any _ _ _ _ b HR.out hn (unsN x true) hlt).mono ?_; rintro e w2 ⟨G2, n2, c2, rfl, hs2, hb2⟩
    go_wp2_with fail
    go_ret
    exact ⟨_, _, _, rfl, hs2, hb2⟩
end Go.Proofs.Ytmejoococajikaa

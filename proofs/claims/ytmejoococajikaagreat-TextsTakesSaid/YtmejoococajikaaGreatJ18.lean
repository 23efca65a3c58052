/- Joined texts: PlainW, PlainV, PlainPa, DeTake. Each has its own head line. No condition beyond those that its theorems state. -/
import Derived.Test.YtmejoococajikaaGreatJ17
import Derived.Test.YtmejoococajikaaGreatJ14
import Derived.Test.YtmejoococajikaaGreatJ15
import Derived.Test.YtmejoococajikaaGreatJ10
import Derived.Test.YtmejoococajikaaGreatJ07
import Derived.Test.YtmejoococajikaaGreatJ11
set_option linter.unusedVariables false

/- Plain words: a literal slice; what is unpacked. -/
namespace Go.Proofs.YtmejoococajikaaGreat
open Go.RowKit

theorem Calls.turn_ {P : Program} {f : FuncId} {args : Array Value} {w : World} {v : Value} (h : Calls P f args w fun e w' => e = .returned v ∧ w = w') : Calls P f args w fun e w' => e = .returned v ∧ w' = w :=
  h.mono fun _ _ ⟨he, hm⟩ => ⟨he, hm.symm⟩

theorem Ri_lit (w : World) (k : IntKind) (l : List Int) (t : TypeId) (cs : Array Value) (hcs : cs = (l.map (Value.int k)).toArray) (n : Nat) (hn : l.length = n) :
    Ri (w.alloc (.cells cs t)) k (some ⟨w.heap.size, 0, none⟩) n l := by
  subst hcs
  refine ⟨by simpa using hn, fun _ => ⟨w.heap.size, 0, rfl, by simp, fun j u hu => ?_⟩⟩
  rw [(Blk.new w t _).cell]; simpa using hu
theorem unpackR_u64 (l : List Int) (m x : Int) : U64 (unpackR l m x).1 := by
  unfold unpackR
  cases hf : fitsB m x
  · intro y hy; simp at hy
  · rw [if_neg (by simp)]
    have hx := of_decide_eq_true hf
    split
    · intro y hy; cases hy
    · simp only
      split
      · exact bits_u64 _ _ _ _ (by omega)
      · intro y hy; cases hy
theorem unpackR_len (l : List Int) (m x : Int) : (unpackR l m x).1.length ≤ 4096 := by
  unfold unpackR
  cases hf : fitsB m x
  · simp
  · rw [if_neg (by simp)]
    have hx := of_decide_eq_true hf
    split
    · simp
    · simp only
      split
      · simp only [bitsL_len]; omega
      · simp

end Go.Proofs.YtmejoococajikaaGreat

/- Plain laws: what was packed is unpacked; the order of packed numbers. -/
namespace Go.Proofs.YtmejoococajikaaGreat
open Go.RowKit

theorem packV_bytesOf (X N : Nat) (h : X < 256 ^ N) : packV (bytesOf X N) 8 = X := by
  have h1 := bytesOf_packV (bytesOf X N) (bytesOf_u8 X N)
  rw [bytesOf_len] at h1
  have h2 := packV_lt (bytesOf X N) 8 (fun y hy => by have := bytesOf_u8 X N y hy; omega)
  rw [bytesOf_len] at h2
  exact bytesOf_inj _ _ N (by rw [pow8, Nat.mul_comm]; exact h2) h h1
theorem room_lt (l : List Int) (k : Nat) (hu : U64 l) (h : l.all (roomB k) = true) (y : Int) (hy : y ∈ l) : y.toNat < 2 ^ k := by
  have h1 := List.all_eq_true.1 h y hy
  rcases of_decide_eq_true h1 with h2 | h2
  · subst h2
    have := hu y hy
    omega
  · exact h2
/-- What was packed is unpacked as it was, whatever stands behind. -/
theorem pack_back (l behind : List Int) (k : Nat) (hk : k ≤ 64) (hl : l.length ≤ 4096) (hu : U64 l) (hr : l.all (roomB k) = true) :
    ∃ p, packR l k = (p, 0) ∧ U8 p ∧ p.length = (l.length * k + 7) / 8 ∧ unpackR (p ++ behind) l.length k = (l, behind, 0) := by
  obtain ⟨N, hN⟩ : ∃ N, N = (l.length * k + 7) / 8 := ⟨_, rfl⟩
  obtain ⟨X, hX⟩ : ∃ X, X = packV l k * 2 ^ (8 * N - l.length * k) := ⟨_, rfl⟩
  have hlk : l.length * k ≤ 8 * N := by omega
  have hV := packV_lt l k (room_lt l k hu hr)
  have hXl : X < 256 ^ N := by
    rw [pow8, hX, show 8 * N = l.length * k + (8 * N - l.length * k) from by omega, Nat.pow_add, show l.length * k + (8 * N - l.length * k) - l.length * k = 8 * N - l.length * k from by omega]
    exact (Nat.mul_lt_mul_right (Nat.two_pow_pos _)).2 hV
  refine ⟨bytesOf X N, ?_, bytesOf_u8 _ _, by rw [bytesOf_len, hN], ?_⟩
  · unfold packR
    rw [if_neg (by omega), if_neg (by omega), Int.toNat_natCast, if_pos hr, ← hN, ← hX]
  · have hf : fitsB (l.length : Int) (k : Int) = true := decide_eq_true (by omega)
    have hs : (sizeN (l.length : Int) (k : Int)).toNat = N := by
      unfold sizeN
      rw [hf, if_pos rfl, hN, ← Int.natCast_mul]; omega
    have ht : (bytesOf X N ++ behind).take N = bytesOf X N := by
      rw [List.take_append_of_le_length (by rw [bytesOf_len]; exact Nat.le_refl _), List.take_of_length_le (by rw [bytesOf_len]; exact Nat.le_refl _)]
    have hd : (bytesOf X N ++ behind).drop N = behind := by
      rw [List.drop_append_of_le_length (by rw [bytesOf_len]; exact Nat.le_refl _), List.drop_of_length_le (by rw [bytesOf_len]; exact Nat.le_refl _), List.nil_append]
    unfold unpackR
    rw [if_neg (by rw [hf]; simp), hs, if_neg (by rw [List.length_append, bytesOf_len]; omega)]
    simp only [ht, hd, packV_bytesOf X N hXl, Int.toNat_natCast]
    rw [if_pos (by rw [hX]; exact Nat.mul_mod_left _ _)]
    have e : bitsL X (8 * N) k l.length = l := by
      apply List.ext_getElem?
      intro i
      rcases Nat.lt_or_ge i l.length with h | h
      · have h1 : (i + 1) * k ≤ l.length * k := Nat.mul_le_mul_right _ h
        rw [Nat.add_mul, Nat.one_mul] at h1
        have h2 : (l.length - 1 - i) * k = l.length * k - (i * k + k) := by
          rw [show l.length - 1 - i = l.length - (i + 1) from by omega, Nat.sub_mul, Nat.add_mul, Nat.one_mul]
        have h3 := packV_get l k (room_lt l k hu hr) i h
        have h4 := hu _ (getD_mem l i h)
        simp only [bitsL, List.getElem?_map, List.getElem?_range h, Option.map_some]
        rw [List.getElem?_eq_getElem h, Option.some.injEq]
        unfold bitsV
        rw [hX, show 8 * N - (i * k + k) = (8 * N - l.length * k) + (l.length * k - (i * k + k)) from by omega, Nat.pow_add, ← Nat.div_div_eq_div_mul, Nat.mul_div_cancel _ (Nat.two_pow_pos _), ← h2, h3]
        rw [show l.getD i 0 = l[i] from by simp [List.getD, h]] at h4 ⊢
        omega
      · rw [List.getElem?_eq_none (by rw [bitsL_len]; exact h), List.getElem?_eq_none h]
    rw [e]
/-- The lowest bits of numbers. -/
def maskN (k : Nat) (y : Int) : Int := if k < 64 then ((y.toNat % 2 ^ k : Nat) : Int) else y
theorem mask_room (k : Nat) (hk : k ≤ 64) (l : List Int) (hu : U64 l) : (l.map (maskN k)).all (roomB k) = true ∧ U64 (l.map (maskN k)) := by
  constructor
  · rw [List.all_eq_true]
    intro y hy
    obtain ⟨z, hz, rfl⟩ := List.mem_map.1 hy
    refine decide_eq_true ?_
    unfold maskN
    rcases Nat.lt_or_ge k 64 with h | h
    · rw [if_pos h, Int.toNat_natCast]; exact .inr (Nat.mod_lt _ (Nat.two_pow_pos _))
    · exact .inl (by omega)
  · intro y hy
    obtain ⟨z, hz, rfl⟩ := List.mem_map.1 hy
    have := hu z hz
    unfold maskN
    split
    · have h2 := Nat.mod_le z.toNat (2 ^ k)
      omega
    · exact this
theorem mask_bits (k : Nat) (hk : k < 64) (y : Nat) (hy : y < 18446744073709551616) : bits BinOp.and IntKind.u64 (y : Int) ((2 : Int) ^ k - 1) = maskN k y := by
  unfold maskN
  have h1 := Nat.two_pow_pos k
  have h2 : 2 ^ k ≤ 2 ^ 63 := Nat.pow_le_pow_right (by omega) (by omega)
  rw [if_pos hk, Int.toNat_natCast, show ((2 : Int) ^ k - 1) = ((2 ^ k - 1 : Nat) : Int) from by rw [Int.natCast_sub h1, Int.natCast_pow]; rfl, u64_and_nat _ _ hy (by omega), Nat.and_two_pow_sub_one_eq_mod]
end Go.Proofs.YtmejoococajikaaGreat

/- Patched: plain words and laws. -/
namespace Go.Proofs.YtmejoococajikaaGreat
open Go.RowKit

/-- Pairs, and one more for a number that stands at i; what is farther than 255 takes pairs of nothing ahead. -/
def gapsAt (P : List (Int × Int)) (last i : Nat) (p : Int) : List (Int × Int) :=
  P ++ List.replicate ((i - last - 1) / 255) (255, 0) ++ [(((i - last - 255 * ((i - last - 1) / 255) : Nat) : Int), p)]
theorem gapsAt_far (P : List (Int × Int)) (last i : Nat) (p : Int) (h : 255 < i - last) : gapsAt (P ++ [(255, 0)]) (last + 255) i p = gapsAt P last i p := by
  unfold gapsAt
  have e : (i - last - 1) / 255 = (i - (last + 255) - 1) / 255 + 1 := by omega
  rw [e, List.replicate_succ, List.append_assoc P [(255, 0)]]
  rw [show i - (last + 255) - 255 * ((i - (last + 255) - 1) / 255) = i - last - 255 * ((i - (last + 255) - 1) / 255 + 1) from by omega]
  simp
theorem gapsAt_near (P : List (Int × Int)) (last i : Nat) (p : Int) (h : i - last ≤ 255) : gapsAt P last i p = P ++ [(((i - last : Nat) : Int), p)] := by
  unfold gapsAt
  have e : (i - last - 1) / 255 = 0 := by omega
  rw [e]; simp
theorem gapsAt_len (P : List (Int × Int)) (last i : Nat) (p : Int) : (gapsAt P last i p).length = P.length + (i - last - 1) / 255 + 1 := by
  unfold gapsAt; simp; omega
/-- The pairs of the first j numbers, and where the last one stands. -/
def pairsN (u : List Int) (x : Nat) : Nat → List (Int × Int) × Nat
  | 0 => ([], 0)
  | j + 1 => if u.getD j 0 / 2 ^ x = 0 then pairsN u x j else (gapsAt (pairsN u x j).1 (pairsN u x j).2 j (u.getD j 0 / 2 ^ x), j)
theorem pairsN_last (u : List Int) (x j : Nat) : (pairsN u x j).2 ≤ j := by
  induction j with
  | zero => exact Nat.le_refl _
  | succ j ih =>
    rw [pairsN]; split
    · omega
    · exact Nat.le_succ _
theorem pairsN_len (u : List Int) (x j : Nat) (h : j ≤ 512) : (pairsN u x j).1.length ≤ 3 * j := by
  induction j with
  | zero => exact Nat.le_refl _
  | succ j ih =>
    have := ih (by omega)
    rw [pairsN]
    split
    · omega
    · rw [gapsAt_len]; omega
theorem pairsN_zero (u : List Int) (x j : Nat) (h : u.getD j 0 / 2 ^ x = 0) : pairsN u x (j + 1) = pairsN u x j := by rw [pairsN, if_pos h]
theorem pairsN_some (u : List Int) (x j : Nat) (h : ¬ u.getD j 0 / 2 ^ x = 0) : pairsN u x (j + 1) = (gapsAt (pairsN u x j).1 (pairsN u x j).2 j (u.getD j 0 / 2 ^ x), j) := by rw [pairsN, if_neg h]
def upL (l : List Int) : List Int := l.map fun y => y - minL l
def lowL (u : List Int) (x : Nat) : List Int := u.map fun y => y % 2 ^ x
theorem upL_len (l : List Int) : (upL l).length = l.length := by simp [upL]
theorem upL_at (l : List Int) (j : Nat) (h : j < l.length) : (upL l).getD j 0 = l.getD j 0 - minL l := by
  simp [upL, List.getD, List.getElem?_map, List.getElem?_eq_getElem h]
theorem minL_at (l : List Int) (j : Nat) (h : j < l.length) : minL l ≤ l.getD j 0 := (minL_le l _).2 _ (getD_mem l j h)
theorem minL_in (l : List Int) (h : 0 < l.length) : minL l ∈ l := by
  unfold minL
  rcases minL_mem l (l.getD 0 0) with e | e
  · rw [e]; exact getD_mem l 0 h
  · exact e
theorem minL_i64x {l : List Int} (hu : I64 l) (h : 0 < l.length) : I64x (minL l) := hu _ (minL_in l h)
theorem lowL_snoc (u : List Int) (x j : Nat) (h : j < u.length) : lowL (u.take (j + 1)) x = lowL (u.take j) x ++ [u.getD j 0 % 2 ^ x] := by
  unfold lowL; rw [take_snoc u j h, List.map_append]; rfl
/-- How many bits the gaps and the patches need. -/
def gN (P : List (Int × Int)) : Nat := max 1 (mostBits (P.map Prod.fst))
def pN (P : List (Int × Int)) : Nat := max 1 (mostBits (P.map Prod.snd))
theorem gN_snoc (P : List (Int × Int)) (a b : Int) : gN (P ++ [(a, b)]) = max (gN P) (blen a.toNat) := by
  unfold gN; rw [List.map_append, List.map_singleton, mostBits_snoc]; simp only; omega
theorem pN_snoc (P : List (Int × Int)) (a b : Int) : pN (P ++ [(a, b)]) = max (pN P) (blen b.toNat) := by
  unfold pN; rw [List.map_append, List.map_singleton, mostBits_snoc]; simp only; omega
theorem diffR_up (a b : Int) (h : a ≤ b) : diffR a b = if b - a ≥ 9223372036854775808 then (0, false, false) else (b - a, false, true) := by
  unfold diffR; rw [if_neg (show ¬ b < a by omega), decide_eq_false (show ¬ b < a by omega)]
def nearL (l : List Int) (j : Nat) : Bool := (l.take j).all fun y => decide (y - minL l < 9223372036854775808)
theorem nearL_snoc (l : List Int) (j : Nat) (h : j < l.length) : nearL l (j + 1) = (nearL l j && decide (l.getD j 0 - minL l < 9223372036854775808)) := by
  unfold nearL; rw [take_snoc l j h, List.all_append]; simp
theorem nearL_bad (l : List Int) (n j : Nat) (hj : j < n) (hn : n ≤ l.length) (h : ¬ l.getD j 0 - minL l < 9223372036854775808) : nearL l n = false := by
  unfold nearL
  rw [List.all_eq_false]
  refine ⟨l.getD j 0, ?_, by simpa using h⟩
  rw [List.mem_take_iff_getElem]
  refine ⟨j, by omega, ?_⟩
  simp [List.getD, List.getElem?_eq_getElem (show j < l.length by omega)]
theorem nearL_at (l : List Int) (n j : Nat) (hj : j < n) (hn : n ≤ l.length) (h : nearL l n = true) : l.getD j 0 - minL l < 9223372036854775808 := by
  by_cases hb : l.getD j 0 - minL l < 9223372036854775808
  · exact hb
  · rw [nearL_bad l n j hj hn hb] at h; cases h
/-- All pairs. -/
def prL (l : List Int) (x : Nat) : List (Int × Int) := (pairsN (upL l) x l.length).1
def fitsPa (l : List Int) (x : Nat) : Bool :=
  decide ((prL l x).length ≤ 31) && decide ((gN (prL l x) : Int) + wClosest (pN (prL l x)) ≤ 64) && decide ((x : Int) + wClosest (pN (prL l x)) ≤ 64)
/-- Each pair's numbers are in their ranges. -/
def PairsR (P : List (Int × Int)) : Prop := ∀ q ∈ P, 0 ≤ q.1 ∧ q.1 ≤ 600 ∧ 0 ≤ q.2 ∧ q.2 < 18446744073709551616
theorem PairsR.snoc {P : List (Int × Int)} (h : PairsR P) {a b : Int} (ha : 0 ≤ a ∧ a ≤ 600) (hb : 0 ≤ b ∧ b < 18446744073709551616) : PairsR (P ++ [(a, b)]) := by
  intro q hq
  rcases List.mem_append.1 hq with h1 | h1
  · exact h q h1
  · rw [List.mem_singleton] at h1; subst h1; exact ⟨ha.1, ha.2, hb.1, hb.2⟩
theorem PairsR.gaps {P : List (Int × Int)} (h : PairsR P) {last i : Nat} {p : Int} (_hi : i - last ≤ 512) (hp : 0 ≤ p ∧ p < 18446744073709551616) : PairsR (gapsAt P last i p) := by
  unfold gapsAt
  intro q hq
  rcases List.mem_append.1 hq with h1 | h1
  · rcases List.mem_append.1 h1 with h2 | h2
    · exact h q h2
    · rw [List.mem_replicate] at h2; rw [h2.2]; decide
  · rw [List.mem_singleton] at h1; subst h1; simp only; omega
theorem div_range (a : Int) (x : Nat) (h : 0 ≤ a ∧ a < 18446744073709551616) : 0 ≤ a / 2 ^ x ∧ a / 2 ^ x < 18446744073709551616 := by
  have h1 : (0 : Int) < 2 ^ x := Int.pow_pos (by decide)
  refine ⟨Int.ediv_nonneg h.1 (by omega), ?_⟩
  have := Int.ediv_le_self (a := a) (b := 2 ^ x) h.1
  omega
theorem pairsN_range (u : List Int) (hu : U64 u) (x j : Nat) (h : j ≤ 512) (hj : j ≤ u.length) : PairsR (pairsN u x j).1 := by
  induction j with
  | zero => intro q hq; simp [pairsN] at hq
  | succ j ih =>
    have h1 := ih (by omega) (by omega)
    rw [pairsN]
    split
    · exact h1
    · exact h1.gaps (by omega) (div_range _ x (hu _ (getD_mem u j (by omega))))
theorem upL_u64 {l : List Int} (hu : I64 l) : U64 (upL l) := by
  intro z hz
  obtain ⟨y, hy, rfl⟩ := List.mem_map.1 hz
  have h1 := (minL_le l (l.getD 0 0)).2 y hy
  have h2 := hu y hy
  have h3 : 0 < l.length := List.length_pos_of_mem hy
  have h4 := minL_i64x hu h3
  unfold I64x at h4
  unfold minL at h4 ⊢
  omega
theorem prL_range {l : List Int} (hu : I64 l) (x : Nat) (h : l.length ≤ 512) : PairsR (prL l x) := pairsN_range (upL l) (upL_u64 hu) x l.length h (by rw [upL_len]; exact Nat.le_refl _)
theorem PairsR.gaps64 {P : List (Int × Int)} (h : PairsR P) : U64 (P.map Prod.fst) := by
  intro z hz
  obtain ⟨q, hq, rfl⟩ := List.mem_map.1 hz
  have := h q hq; omega
theorem PairsR.patch64 {P : List (Int × Int)} (h : PairsR P) : U64 (P.map Prod.snd) := by
  intro z hz
  obtain ⟨q, hq, rfl⟩ := List.mem_map.1 hz
  have := h q hq; omega
theorem PairsR.gN_le {P : List (Int × Int)} (h : PairsR P) : gN P ≤ 64 ∧ pN P ≤ 64 := by
  have h1 := mostBits_le _ h.gaps64
  have h2 := mostBits_le _ h.patch64
  unfold gN pN; omega
theorem wClosest_le (b : Int) : 0 ≤ wClosest b ∧ wClosest b ≤ 64 := by unfold wClosest; omega
theorem and_low64 (u : Int) (x : Nat) (hu : 0 ≤ u ∧ u < 18446744073709551616) (hx : x < 64) : bits BinOp.and IntKind.u64 u (IntKind.u64.wrap (IntKind.u64.wrap (2 ^ x) - 1)) = u % 2 ^ x := by
  have h1 : 1 ≤ 2 ^ x := Nat.one_le_two_pow
  have h2 : 2 ^ x ≤ 2 ^ 63 := Nat.pow_le_pow_right (by omega) (by omega)
  have e1 : IntKind.u64.wrap (2 ^ x) = ((2 ^ x : Nat) : Int) := by rw [show (2 : Int) ^ x = ((2 ^ x : Nat) : Int) from by simp, IntKind.wrap_u64]; omega
  have e2 : IntKind.u64.wrap (((2 ^ x : Nat) : Int) - 1) = ((2 ^ x - 1 : Nat) : Int) := by rw [IntKind.wrap_u64]; omega
  obtain ⟨n, rfl⟩ := Int.eq_ofNat_of_zero_le hu.1
  rw [e1, e2, u64_and_nat _ _ (by omega) (by omega), Nat.and_two_pow_sub_one_eq_mod]
  simp
end Go.Proofs.YtmejoococajikaaGreat

/- delta.step, delta.Take. -/
namespace Go.Proofs.YtmejoococajikaaGreat
open Go.RowKit

/-- The numbers that steps lead to. -/
def stepsDe (f s : Bool) : Int → List Int → Option (List Int)
  | _, [] => some []
  | x, u :: t => if (stepR x u f).2 = true ∧ (s = true ∨ 0 ≤ (stepR x u f).1) then (stepsDe f s (stepR x u f).1 t).map ((stepR x u f).1 :: ·) else none
def finDe (x : Int) (rest : List Int) : Option (List Int) → List Int × List Int × Int
  | none => ([], [], 2)
  | some l => (x :: l, rest, 0)
def takeDe (b : List Int) (s : Bool) : List Int × List Int × Int :=
  if (lookR b).2.2.2.2 ≠ 0 ∨ (lookR b).1 ≠ 3 ∨ (lookR b).2.2.1 < 2 then ([], [], 2)
  else if (takeI (lookR b).2.2.2.1 s).2.2 ≠ 0 then ([], [], 2)
  else if (takeI (takeI (lookR b).2.2.2.1 s).2.1 true).2.2 ≠ 0 then ([], [], 2)
  else if (diffR 0 (takeI (takeI (lookR b).2.2.2.1 s).2.1 true).1).2.2 = false then ([], [], 2)
  else if 0 < (lookR b).2.1 ∧ (unpackR (takeI (takeI (lookR b).2.2.2.1 s).2.1 true).2.1 ((lookR b).2.2.1 - 2) (wOf (lookR b).2.1)).2.2 ≠ 0 then ([], [], 2)
  else finDe (takeI (lookR b).2.2.2.1 s).1
      (if 0 < (lookR b).2.1 then (unpackR (takeI (takeI (lookR b).2.2.2.1 s).2.1 true).2.1 ((lookR b).2.2.1 - 2) (wOf (lookR b).2.1)).2.1 else (takeI (takeI (lookR b).2.2.2.1 s).2.1 true).2.1)
      (stepsDe (diffR 0 (takeI (takeI (lookR b).2.2.2.1 s).2.1 true).1).2.1 s (takeI (lookR b).2.2.2.1 s).1
        (if 0 < (lookR b).2.1 then (diffR 0 (takeI (takeI (lookR b).2.2.2.1 s).2.1 true).1).1 :: (unpackR (takeI (takeI (lookR b).2.2.2.1 s).2.1 true).2.1 ((lookR b).2.2.1 - 2) (wOf (lookR b).2.1)).1
         else List.replicate ((lookR b).2.2.1 - 1).toNat (diffR 0 (takeI (takeI (lookR b).2.2.2.1 s).2.1 true).1).1))
theorem stepsDe_nil (f s : Bool) (x : Int) : stepsDe f s x [] = some [] := by simp [stepsDe]
theorem stepsDe_good (f s : Bool) (x u : Int) (t acc : List Int) (h1 : (stepR x u f).2 = true) (h2 : s = true ∨ 0 ≤ (stepR x u f).1) :
    (stepsDe f s x (u :: t)).map (acc ++ ·) = (stepsDe f s (stepR x u f).1 t).map ((acc ++ [(stepR x u f).1]) ++ ·) := by
  simp only [stepsDe]
  rw [if_pos ⟨h1, h2⟩, Option.map_map]
  congr 1
  funext z
  simp
theorem stepsDe_bad (f s : Bool) (x u : Int) (t : List Int) (h : ¬ ((stepR x u f).2 = true ∧ (s = true ∨ 0 ≤ (stepR x u f).1))) : stepsDe f s x (u :: t) = none := by
  simp only [stepsDe]
  rw [if_neg h]

set_option maxRecDepth 100000 in
set_option maxHeartbeats 1000000 in
theorem step_any (w : World) (x u : Int) (f s ok : Bool) (hx : I64x x) (hu : 0 ≤ u ∧ u < 18446744073709551616) :
    Calls Tryz.prog 169 #[.int .i64 x, .int .u64 u, .bool f, .bool s, .bool ok] w fun e w' => e = .returned (.tuple #[.int .i64 (stepR x u f).1, .bool (ok && (stepR x u f).2 && (s || decide (0 ≤ (stepR x u f).1)))]) ∧ w = w' := by
  obtain ⟨y, k, hs⟩ : ∃ y k, stepR x u f = (y, k) := ⟨_, _, rfl⟩
  have HS := Lib.hid hs
  rw [hs]
  clear hs
  cases ok <;> cases k <;> cases s
  all_goals
    go_enter Tryz.func169, Tryz.ntmps169
    go_wp2_with fail
    refine (Step_any _ x u f hx hu y _ HS.out).mono ?_; rintro e w' ⟨rfl, rfl⟩
    go_wp2_with fail
    all_goals
      go_ret2
      exact ⟨by simp, rfl⟩
theorem unpackR_many (l : List Int) (m x : Int) (h : (unpackR l m x).2.2 = 0) : ((unpackR l m x).1.length : Int) = m := by
  unfold unpackR at h ⊢
  cases hf : fitsB m x
  · rw [hf] at h; simp at h
  · rw [hf] at h
    rw [if_neg (by simp)] at h ⊢
    have hx := of_decide_eq_true hf
    split
    · rename_i h2; rw [if_pos h2] at h; simp at h
    · rename_i h2
      rw [if_neg h2] at h
      simp only at h ⊢
      split
      · simp only [bitsL_len]; omega
      · rename_i h3; rw [if_neg h3] at h; simp at h
theorem takeI_len (b : List Int) (s : Bool) : (takeI b s).2.1.length ≤ b.length := by
  have h : (vtakeR b).2.1.length ≤ b.length := by
    unfold vtakeR
    split
    · simp
    · split
      · simp
      · simp
  unfold takeI
  split
  · simp
  · split
    · exact h
    · split
      · simp
      · exact h
theorem lookR_more (b : List Int) (hu : U8 b) : U8 (lookR b).2.2.2.1 ∧ ((lookR b).2.2.2.2 = 0 ∨ (lookR b).2.2.2.2 = 2) ∧ 0 ≤ (lookR b).2.1 ∧ (lookR b).2.1 < 32 ∧ 0 ≤ (lookR b).2.2.1 ∧ (lookR b).2.2.1 ≤ 512 := by
  unfold lookR
  split
  · exact ⟨fun x hx => by (cases hx), .inr rfl, by simp, by simp, by simp, by simp⟩
  · have h0 := getD_byte hu 0
    have h1 := getD_byte hu 1
    exact ⟨fun x hx => hu x (List.mem_of_mem_drop hx), .inl rfl, by dsimp only; omega, by dsimp only; omega, by dsimp only; omega, by dsimp only; omega⟩
theorem takeDe_eq {b : List Int} {s : Bool} {k c m x fi sz : Int} {r0 r1 r2 L r3 : List Int} {e0 e1 e2 e3 : Int} {fl ok : Bool} (h1 : lookR b = (k, c, m, r0, e0)) (h2 : takeI r0 s = (x, r1, e1)) (h3 : takeI r1 true = (fi, r2, e2)) (h4 : diffR 0 fi = (sz, fl, ok)) (h5 : unpackR r2 (m - 2) (wOf c) = (L, r3, e3)) :
    takeDe b s = if e0 ≠ 0 ∨ k ≠ 3 ∨ m < 2 then ([], [], 2) else if e1 ≠ 0 then ([], [], 2) else if e2 ≠ 0 then ([], [], 2) else if ok = false then ([], [], 2) else if 0 < c ∧ e3 ≠ 0 then ([], [], 2)
      else finDe x (if 0 < c then r3 else r2) (stepsDe fl s x (if 0 < c then sz :: L else List.replicate (m - 1).toNat sz)) := by
  unfold takeDe
  simp only [h1, h2, h3, h4, h5]
/-- Numbers, bytes and an error's number are handed back. -/
def DTakeOutI (w : World) (l1 l2 : List Int) (er : Int) (e : Ending) (w' : World) : Prop :=
  ∃ G n c G2 n2 c2, e = .returned (.tuple #[.slice G n c, .slice G2 n2 c2, .int .i64 er]) ∧ Sl w' .i64 G n c l1 ∧ Sl w' .u8 G2 n2 c2 l2 ∧ Below w.heap.size w w'
theorem DTakeOutI.bad {w w' : World} (h : Below w.heap.size w w') : DTakeOutI w [] [] 2 (.returned (.tuple #[.slice none 0 0, .slice none 0 0, .int .i64 2])) w' :=
  ⟨none, 0, 0, none, 0, 0, rfl, Sl.nil _ _, Sl.nil _ _, h⟩
end Go.Proofs.YtmejoococajikaaGreat

/- Joined texts: RepP. Each has its own head line. No condition beyond those that its theorems state. -/
import Derived.Test.YtmejoococajikaaJ05
import Derived.Test.YtmejoococajikaaJ06
import Derived.Test.YtmejoococajikaaJ07
set_option linter.unusedVariables false

/- A number a few times: the walks of package repeat and of its reference. -/
namespace Go.Proofs.Ytmejoococajikaa
open Go.RowKit

/-- The lowest k bytes of a number, the highest first. -/
def hiB (u : Nat) : Nat → List Int
  | 0 => []
  | k + 1 => ((u : Int) / 2 ^ (8 * k) % 256) :: hiB u k
theorem hiB_len (u k : Nat) : (hiB u k).length = k := by
  induction k with
  | zero => rfl
  | succ k ih => simp [hiB, ih]

def OwnRes (B : Nat) (w : World) (n : Nat) (l : List Int) (e : Ending) (w' : World) : Prop :=
  ∃ G c, e = .returned (.slice G n c) ∧ w'.ownsRow B 5 1 (.slice G n c) n (l.map (Value.int .u8)) ∧ Below B w w'

set_option maxRecDepth 100000 in
set_option maxHeartbeats 400000 in
theorem high_any (u n : Nat) (B : Nat) (v : Value) (m : Nat) (l : List Int) (w : World) (hown : w.ownsRow B 5 1 v m (l.map (Value.int .u8))) (hB : B ≤ w.heap.size) (_hu : u < 18446744073709551616) (hn : n ≤ 8) (hm : m ≤ 1000) :
    Calls Try.prog 105 #[.int .u64 u, .int .i64 n, v] w (OwnRes B w (m + n) (l ++ hiB u n)) := by
  obtain ⟨i0, hi, hz0, hz1, hz2⟩ := info_parts info_u8
  have HO := Lib.hid hown; clear hown
  go_enter Try.func105, Try.ntmps105
  go_wp2_with fail
  go_loopw [2, 7] (fun v i wr => ∃ (k t : Nat) (acc : List Int), k + t = n ∧ i = .int .i64 ((t : Int) - 1) ∧ Hid (acc ++ hiB u t = l ++ hiB u n) ∧ Hid (wr.ownsRow B 5 1 v (m + k) (acc.map (Value.int .u8))) ∧ Below B w wr) (fun _ i _ => (intOf i + 1).toNat)
  case atStart => exact ⟨0, n, l, by omega, rfl, rfl, HO.out, Below.refl _ _⟩
  case round =>
    obtain ⟨k, t, acc, hk, rfl, hacc, ho, hbl⟩ := hrel
    have hsz := hbl.size
    by_cases ht : 0 < t
    · obtain ⟨s, rfl⟩ : ∃ s, t = s + 1 := ⟨t - 1, by omega⟩
      go_wp2_with (at_builtin; refine wpList_append_any _ rfl _ _ 49 rfl B 5 i0 (.int .u8 0) 1 1 Try.underlying49 hi hz0 hz1 hz2 rfl (by decide) _ _ _ rfl (ho.out.alloc _) _ 1 _ [.int .u8 (↑u / 2 ^ (8 * s) % 256)] rfl (Rd.one _ _ _) ?c1 ?c2 ?c3 ?c4 ?_)
      case c1 => intro u hu; simp at hu; subst hu; rfl
      case c2 => unfold maxLen; omega
      case c3 => omega
      case c4 => simp; omega
      intro G cap w1 hown1 hgr _ _
      go_wp2_with fail
      go_roundw
      case rel =>
        refine ⟨k + 1, s, acc ++ [(u : Int) / 2 ^ (8 * s) % 256], by omega, rfl, Lib.hid ?_, Lib.hid ?_, ?_⟩
        · rw [← hacc.out, List.append_assoc]; rfl
        · rw [List.map_append]; exact hown1
        · exact push_ hbl hB ho.out hgr
      case measure => simp [intOf]
    · obtain rfl : t = 0 := by omega
      have ha : acc = l ++ hiB u n := by have := hacc.out; simpa [hiB] using this
      have hk' : k = n := by omega
      have ho' := ho.out
      rw [ha, hk'] at ho'
      have HO' := Lib.hid ho'
      clear ha hk' ho'
      go_wp2_with fail
      go_ret
      obtain ⟨G, c, rfl⟩ := own_form HO'.out
      exact ⟨G, c, rfl, HO'.out, hbl⟩

def longN (u : Nat) : Nat := max 1 ((blen u + 7) / 8)
theorem longN_range (u : Nat) (h : u < 18446744073709551616) : 1 ≤ longN u ∧ longN u ≤ 8 := by
  have := blen_64 u h
  unfold longN; omega
def plainU (x : Int) (s : Bool) : Int := if s then zig x else x
def putR (x times : Int) (s : Bool) : List Int × Int :=
  if times < 3 ∨ 10 < times ∨ (s = false ∧ x < 0) then ([], 1)
  else ((8 * ((longN (plainU x s).toNat : Int) - 1) + times - 3) :: hiB (plainU x s).toNat (longN (plainU x s).toNat), 0)

set_option maxRecDepth 100000 in
set_option maxHeartbeats 400000 in
theorem long_any (u : Nat) (w : World) (hu : u < 18446744073709551616) :
    Calls Try.prog 104 #[.int .u64 u] w fun e w' => e = .returned (.int .i64 (longN u)) ∧ w = w' := by
  have hb := blen_64 u hu
  have H : Hid (longN u = max 1 ((blen u + 7) / 8)) := rfl
  go_enter Try.func104, Try.ntmps104
  go_wp2_with fail
  refine (Bits_any _ _ (by omega) (by omega)).mono ?_; rintro e w' ⟨rfl, rfl⟩
  rw [Int.toNat_natCast]
  generalize blen u = b at *
  go_wp2_with fail
  all_goals
    go_ret
    exact ⟨ret_int (by rw [H.out]; omega), rfl⟩

set_option maxRecDepth 100000 in
set_option maxHeartbeats 400000 in
theorem plain_any (x : Int) (s : Bool) (w : World) (h0 : -9223372036854775808 ≤ x) (h1 : x < 9223372036854775808) :
    Calls Try.prog 103 #[.int .i64 x, .bool s] w fun e w' => e = .returned (.tuple #[.int .u64 (if s then zig x else IntKind.u64.wrap x), .bool (s || decide (0 ≤ x))]) ∧ w = w' := by
  cases s
  · go_enter Try.func103, Try.ntmps103
    go_wp2_with fail
    go_ret2
    exact ⟨rfl, rfl⟩
  · go_enter Try.func103, Try.ntmps103
    go_wp2_with fail
    refine (Zig_any _ _ h0 h1).mono ?_; rintro e w' ⟨rfl, rfl⟩
    go_wp2_with fail
    go_ret2
    exact ⟨rfl, rfl⟩
theorem or_low (a b : Nat) (ha : a < 8) (hb : b < 8) : bits .or .i64 ((a : Int) * 8) (b : Int) % 256 = 8 * (a : Int) + b := by
  have ofm : ∀ m : Nat, m < 2 ^ 63 → (BitVec.ofInt 64 (m : Int)).toNat = m := fun m hm => by
    rw [BitVec.ofInt_natCast, BitVec.toNat_ofNat]; exact Nat.mod_eq_of_lt (by omega)
  have e : ((a : Int) * 8) = ((8 * a : Nat) : Int) := by omega
  rw [e]
  show IntKind.i64.wrap ((BitVec.ofInt 64 ((8 * a : Nat) : Int) ||| BitVec.ofInt 64 (b : Int)).toNat : Int) % 256 = _
  rw [BitVec.toNat_or, ofm _ (by omega), ofm _ (by omega), show 8 * a ||| b = 8 * a + b from (Nat.two_pow_add_eq_or_of_lt (i := 3) hb a).symm, IntKind.wrap_i64]
  omega

set_option maxRecDepth 100000 in
set_option maxHeartbeats 1000000 in
theorem Put_any (x t : Int) (s : Bool) (w : World) (h0 : -9223372036854775808 ≤ x) (h1 : x < 9223372036854775808) (l : List Int) (er : Int) (hl : putR x t s = (l, er)) :
    Calls Try.prog 99 #[.int .i64 x, .int .i64 t, .bool s] w (BytesErr w l er) := by
  by_cases hbad : t < 3 ∨ 10 < t ∨ (s = false ∧ x < 0)
  · unfold putR at hl
    rw [if_pos hbad] at hl
    injection hl with hl1 hl2
    subst hl1 hl2
    have hd : (s || decide (0 ≤ x)) = false ∨ ((s || decide (0 ≤ x)) = true ∧ t < 3) ∨ ((s || decide (0 ≤ x)) = true ∧ 10 < t) := by
      cases s
      · simp at hbad ⊢; omega
      · simp at hbad ⊢; omega
    clear hbad
    go_enter Try.func99, Try.ntmps99
    go_wp2_with fail
    refine (plain_any _ _ _ h0 h1).mono ?_; rintro e w' ⟨rfl, rfl⟩
    generalize (s || decide (0 ≤ x)) = ok at *
    generalize (if s = true then zig x else IntKind.u64.wrap x) = u at *
    rcases hd with rfl | ⟨rfl, ht⟩ | ⟨rfl, ht⟩
    all_goals
      go_wp2_with fail
      go_ret2
      exact ⟨none, 0, 0, rfl, Sl.nil _ _, Below.refl _ _⟩
  · have hok : (s || decide (0 ≤ x)) = true := by
      cases s
      · simp at hbad ⊢; omega
      · rfl
    have hu : (if s then zig x else IntKind.u64.wrap x) = plainU x s := by
      unfold plainU
      cases s
      · simp only [Bool.false_eq_true, if_false]
        exact IntWalk.u64_in _ (by simp at hok; omega)
      · rfl
    have hur : 0 ≤ plainU x s ∧ plainU x s < 18446744073709551616 := by
      have := zig_range x h0 h1
      unfold plainU
      cases s <;> simp at hok ⊢ <;> omega
    obtain ⟨u, huu⟩ : ∃ u : Nat, (u : Int) = plainU x s := ⟨(plainU x s).toNat, by omega⟩
    unfold putR at hl
    rw [if_neg hbad, ← huu, Int.toNat_natCast] at hl
    injection hl with hl1 hl2
    subst hl2
    have ht1 : 3 ≤ t := by omega
    have ht2 : t ≤ 10 := by omega
    have hul : u < 18446744073709551616 := by omega
    clear hbad hur
    have hln := longN_range u hul
    obtain ⟨n, hn⟩ : ∃ n, n = longN u := ⟨_, rfl⟩
    rw [← hn] at hln hl1
    have HL1 := Lib.hid hl1; clear hl1
    have hor := or_low (n - 1) (t - 3).toNat (by omega) (by omega)
    have e1 : (((n - 1 : Nat)) : Int) = (n : Int) - 1 := by omega
    have e2 : (((t - 3).toNat : Nat) : Int) = t - 3 := by omega
    rw [e1, e2] at hor
    have HOR := Lib.hid hor
    clear hor e1 e2
    go_enter Try.func99, Try.ntmps99
    go_wp2_with fail
    refine (plain_any _ _ _ h0 h1).mono ?_; rintro e w' ⟨rfl, rfl⟩
    rw [hu, ← huu, hok]
    clear hu hok huu
    go_wp2_with fail
    refine (long_any _ _ hul).mono ?_; rintro e w' ⟨rfl, rfl⟩
    rw [← hn]
    have HN := Lib.hid hn; clear hn
    go_wp2_with fail
    rw [HOR.out, show 8 * ((n : Int) - 1) + (t - 3) = 8 * ((n : Int) - 1) + t - 3 from by omega]
    refine (high_any u n w.heap.size _ 1 [8 * ((n : Int) - 1) + t - 3] _ (World.ownsRow_lit w _ 1 (Nat.le_refl _) (by unfold maxLen; omega) rfl) (by simp) hul (by omega) (by omega)).mono ?_
    rintro e w' ⟨G, c, rfl, hown, hb⟩
    have hb2 := ((Below.refl w.heap.size w).alloc (Nat.le_refl _) (.cells #[.int .u8 (8 * ((n : Int) - 1) + t - 3)] 5)).trans hb
    have HOWN := Lib.hid hown; clear hown hb
    go_wp2_with fail
    go_ret2
    refine ⟨G, 1 + n, c, rfl, ?_, hb2⟩
    rw [← HL1.out]
    exact Sl.of_own HOWN.out
end Go.Proofs.Ytmejoococajikaa

/- Joined texts: Diff, VarTake. Each has its own head line. No condition beyond those that its theorems state. -/
import Derived.Handy
import Derived.BigQuiet
import Derived.Test.YtmejoococajikaaGreatJ07
import Derived.Test.YtmejoococajikaaGreatJ08
import Derived.Test.YtmejoococajikaaGreatJ04
set_option linter.unusedVariables false

/- delta.Diff, Step and their references. -/
namespace Go.Proofs.YtmejoococajikaaGreat
open Go.RowKit

def diffR (a b : Int) : Int × Bool × Bool :=
  if (if b < a then a - b else b - a) ≥ 9223372036854775808 then (0, false, false) else (if b < a then a - b else b - a, decide (b < a), true)
def stepR (a u : Int) (f : Bool) : Int × Bool :=
  if u ≥ 9223372036854775808 then (0, false)
  else if f then (if a - u < -9223372036854775808 then (0, false) else (a - u, true))
  else (if a + u ≥ 9223372036854775808 then (0, false) else (a + u, true))
def I64x (x : Int) : Prop := -9223372036854775808 ≤ x ∧ x < 9223372036854775808
theorem stepR_range (a u : Int) (f : Bool) (ha : I64x a) (hu : 0 ≤ u) : I64x (stepR a u f).1 := by
  unfold stepR I64x at *
  split
  · simp
  · split
    · split
      · simp
      · dsimp only; omega
    · split
      · simp
      · dsimp only; omega
theorem diffR_range (a b : Int) : 0 ≤ (diffR a b).1 ∧ (diffR a b).1 < 9223372036854775808 := by
  unfold diffR
  by_cases h : b < a
  · rw [if_pos h]
    split
    · simp
    · dsimp only; omega
  · rw [if_neg h]
    split
    · simp
    · dsimp only; omega
/-- Three of a difference are handed back. -/
def DiffOut (w : World) (u : Int) (f ok : Bool) (e : Ending) (w' : World) : Prop :=
  e = .returned (.tuple #[.int .u64 u, .bool f, .bool ok]) ∧ Below w.heap.size w w'

set_option maxRecDepth 100000 in
set_option maxHeartbeats 1000000 in
theorem Diff_any (w : World) (a b : Int) (ha : I64x a) (hb : I64x b) (u : Int) (f ok : Bool) (hl : diffR a b = (u, f, ok)) :
    Calls Tryz.prog 155 #[.int .i64 a, .int .i64 b] w (DiffOut w u f ok) := by
  unfold I64x at ha hb
  have HA := Lib.hid ha; have HB := Lib.hid hb
  obtain ⟨D, hD⟩ : ∃ D, D = (if b < a then b - a + 18446744073709551616 else b - a) := ⟨_, rfl⟩
  have he : IntKind.u64.wrap (IntKind.u64.wrap b - IntKind.u64.wrap a) = D := by
    rw [hD, IntKind.wrap_u64, IntKind.wrap_u64, IntKind.wrap_u64]; split <;> omega
  have hDr : 0 ≤ D ∧ D < 18446744073709551616 := by rw [hD]; split <;> omega
  unfold diffR at hl
  by_cases hlt : b < a
  · rw [if_pos hlt] at hl hD
    have he2 : IntKind.u64.wrap (-D) = a - b := by rw [IntKind.wrap_u64]; omega
    by_cases hbig : a - b ≥ 9223372036854775808
    · rw [if_pos hbig] at hl
      injection hl with h1 hl; injection hl with h2 h3
      subst h1 h2 h3
      have HD := Lib.hid hD
      have hq : (9223372036854775808 : Int) ≤ a - b := hbig
      clear hD ha hb hbig
      go_enter Tryz.func155, Tryz.ntmps155
      go_wp2_with fail
      go_returns
      exact ⟨rfl, by first | go_grown | omega               ⟩
    · rw [if_neg hbig, decide_eq_true hlt] at hl
      injection hl with h1 hl; injection hl with h2 h3
      subst h1 h2 h3
      have HD := Lib.hid hD
      have hq : ¬ (9223372036854775808 : Int) ≤ a - b := hbig
      clear hD ha hb hbig
      go_enter Tryz.func155, Tryz.ntmps155
      go_wp2_with fail
      go_region
      all_goals
        go_wp2_with fail
        go_returns
        exact ⟨rfl, by first | go_grown | omega               ⟩
  · rw [if_neg hlt] at hl hD
    subst hD
    by_cases hbig : b - a ≥ 9223372036854775808
    · rw [if_pos hbig] at hl
      injection hl with h1 hl; injection hl with h2 h3
      subst h1 h2 h3
      have hq : (9223372036854775808 : Int) ≤ b - a := hbig
      clear ha hb hbig
      go_enter Tryz.func155, Tryz.ntmps155
      go_wp2_with fail
      go_returns
      exact ⟨rfl, by first | go_grown | omega               ⟩
    · rw [if_neg hbig, decide_eq_false hlt] at hl
      injection hl with h1 hl; injection hl with h2 h3
      subst h1 h2 h3
      have hq : ¬ (9223372036854775808 : Int) ≤ b - a := hbig
      clear ha hb hbig
      go_enter Tryz.func155, Tryz.ntmps155
      go_wp2_with fail
      go_region
      all_goals
        go_wp2_with fail
        go_returns
        exact ⟨rfl, by first | go_grown | omega               ⟩
set_option maxRecDepth 100000 in
set_option maxHeartbeats 1000000 in
theorem refDiff_any (w : World) (a b : Int) (ha : I64x a) (hb : I64x b) (u : Int) (f ok : Bool) (hl : diffR a b = (u, f, ok)) :
    Calls Tryz.prog 92 #[.int .i64 a, .int .i64 b] w fun e w' => e = .returned (.tuple #[.int .u64 u, .bool f, .bool ok]) ∧ w = w' := by
  unfold I64x at ha hb
  unfold diffR at hl
  by_cases hlt : b < a
  · rw [if_pos hlt] at hl
    have he : IntKind.u64.wrap (IntKind.u64.wrap a - IntKind.u64.wrap b) = a - b := by
      rw [IntKind.wrap_u64, IntKind.wrap_u64, IntKind.wrap_u64]; omega
    by_cases hbig : a - b ≥ 9223372036854775808
    · rw [if_pos hbig] at hl
      injection hl with h1 hl; injection hl with h2 h3
      subst h1 h2 h3
      have hq : (9223372036854775808 : Int) ≤ a - b := hbig
      clear ha hb hbig
      go_enter Tryz.func92, Tryz.ntmps92
      go_wp2_with fail
      go_returns
      exact ⟨rfl, rfl⟩
    · rw [if_neg hbig, decide_eq_true hlt] at hl
      injection hl with h1 hl; injection hl with h2 h3
      subst h1 h2 h3
      have hq : ¬ (9223372036854775808 : Int) ≤ a - b := hbig
      clear ha hb hbig
      go_enter Tryz.func92, Tryz.ntmps92
      go_wp2_with fail
      go_returns
      exact ⟨rfl, rfl⟩
  · rw [if_neg hlt] at hl
    have he : IntKind.u64.wrap (IntKind.u64.wrap b - IntKind.u64.wrap a) = b - a := by
      rw [IntKind.wrap_u64, IntKind.wrap_u64, IntKind.wrap_u64]; omega
    by_cases hbig : b - a ≥ 9223372036854775808
    · rw [if_pos hbig] at hl
      injection hl with h1 hl; injection hl with h2 h3
      subst h1 h2 h3
      have hq : (9223372036854775808 : Int) ≤ b - a := hbig
      clear ha hb hbig
      go_enter Tryz.func92, Tryz.ntmps92
      go_wp2_with fail
      go_returns
      exact ⟨rfl, rfl⟩
    · rw [if_neg hbig, decide_eq_false hlt] at hl
      injection hl with h1 hl; injection hl with h2 h3
      subst h1 h2 h3
      have hq : ¬ (9223372036854775808 : Int) ≤ b - a := hbig
      clear ha hb hbig
      go_enter Tryz.func92, Tryz.ntmps92
      go_wp2_with fail
      go_returns
      exact ⟨rfl, rfl⟩

/-- A number and whether it is one. -/
def StepOut (w : World) (x : Int) (ok : Bool) (e : Ending) (w' : World) : Prop := e = .returned (.tuple #[.int .i64 x, .bool ok]) ∧ w = w'
set_option maxRecDepth 100000 in
set_option maxHeartbeats 1000000 in
theorem Step_any (w : World) (a u : Int) (f : Bool) (ha : I64x a) (hu : 0 ≤ u ∧ u < 18446744073709551616) (x : Int) (ok : Bool) (hl : stepR a u f = (x, ok)) :
    Calls Tryz.prog 166 #[.int .i64 a, .int .u64 u, .bool f] w (StepOut w x ok) := by
  unfold I64x at ha
  unfold stepR at hl
  obtain ⟨hu1, hu2⟩ := hu
  obtain ⟨P, hP⟩ : ∃ P, P = wrap64 (IntKind.u64.wrap (IntKind.u64.wrap a + u)) := ⟨_, rfl⟩
  obtain ⟨M, hM⟩ : ∃ M, M = wrap64 (IntKind.u64.wrap (IntKind.u64.wrap a - u)) := ⟨_, rfl⟩
  have hPv : P = if a + u < 9223372036854775808 then a + u else if a + u < 27670116110564327424 then a + u - 18446744073709551616 else a + u - 36893488147419103232 := by
    rw [hP, IntKind.wrap_u64, IntKind.wrap_u64]; unfold wrap64; split <;> omega
  have hMv : M = if -9223372036854775808 ≤ a - u then a - u else if -27670116110564327424 ≤ a - u then a - u + 18446744073709551616 else a - u + 36893488147419103232 := by
    rw [hM, IntKind.wrap_u64, IntKind.wrap_u64]; unfold wrap64; split <;> omega
  have hP' := hP.symm
  have hM' := hM.symm
  clear hP hM
  by_cases hbig : u ≥ 9223372036854775808
  · rw [if_pos hbig] at hl
    injection hl with h1 h2
    subst h1 h2
    clear hPv hMv
    cases f
    all_goals
      go_enter Tryz.func166, Tryz.ntmps166
      go_wp2_with fail
      go_returns
      exact ⟨rfl, rfl⟩
  · rw [if_neg hbig] at hl
    cases f
    · rw [if_neg (by decide)] at hl
      by_cases h : a + u ≥ 9223372036854775808
      · rw [if_pos h] at hl
        injection hl with h1 h2
        subst h1 h2
        have hlt : P < a := by rw [hPv]; split <;> omega
        clear hPv hMv h hbig ha
        go_enter Tryz.func166, Tryz.ntmps166
        go_wp2_with fail
        all_goals
          go_returns
          exact ⟨rfl, rfl⟩
      · rw [if_neg h] at hl
        injection hl with h1 h2
        subst h1 h2
        have hPe : P = a + u := by rw [hPv, if_pos (by omega)]
        have hlt : ¬ P < a := by omega
        have hE := Lib.hid hPe
        have hbig2 : ¬ (9223372036854775808 : Int) ≤ u := hbig
        clear hPv hMv hPe h ha hbig
        go_enter Tryz.func166, Tryz.ntmps166
        go_wp2_with fail
        all_goals
          go_returns
          exact ⟨by rw [← hE.out]; rfl, rfl⟩
    · rw [if_pos rfl] at hl
      by_cases h : a - u < -9223372036854775808
      · rw [if_pos h] at hl
        injection hl with h1 h2
        subst h1 h2
        have hlt : a < M := by rw [hMv]; split <;> omega
        clear hPv hMv h hbig ha
        go_enter Tryz.func166, Tryz.ntmps166
        go_wp2_with fail
        all_goals
          go_returns
          exact ⟨rfl, rfl⟩
      · rw [if_neg h] at hl
        injection hl with h1 h2
        subst h1 h2
        have hMe : M = a - u := by rw [hMv, if_pos (by omega)]
        have hlt : ¬ a < M := by omega
        have hE := Lib.hid hMe
        have hbig2 : ¬ (9223372036854775808 : Int) ≤ u := hbig
        clear hPv hMv hMe h ha hbig
        go_enter Tryz.func166, Tryz.ntmps166
        go_wp2_with fail
        all_goals
          go_returns
          exact ⟨by rw [← hE.out]; rfl, rfl⟩
set_option maxRecDepth 100000 in
set_option maxHeartbeats 1000000 in
theorem refStep_any (w : World) (a u : Int) (f : Bool) (ha : I64x a) (hu : 0 ≤ u ∧ u < 18446744073709551616) (x : Int) (ok : Bool) (hl : stepR a u f = (x, ok)) :
    Calls Tryz.prog 113 #[.int .i64 a, .int .u64 u, .bool f] w (StepOut w x ok) := by
  unfold I64x at ha
  unfold stepR at hl
  obtain ⟨hu1, hu2⟩ := hu
  by_cases hbig : u ≥ 9223372036854775808
  · rw [if_pos hbig] at hl
    injection hl with h1 h2
    subst h1 h2
    go_enter Tryz.func113, Tryz.ntmps113
    go_wp2_with fail
    go_returns
    exact ⟨rfl, rfl⟩
  · rw [if_neg hbig] at hl
    have hbig2 : u < 9223372036854775808 := by omega
    cases f
    · rw [if_neg (by decide)] at hl
      by_cases h : a + u ≥ 9223372036854775808
      · rw [if_pos h] at hl
        injection hl with h1 h2
        subst h1 h2
        have hlt : 9223372036854775807 - u < a := by omega
        go_enter Tryz.func113, Tryz.ntmps113
        go_wp2_with fail
        go_returns
        exact ⟨rfl, rfl⟩
      · rw [if_neg h] at hl
        injection hl with h1 h2
        subst h1 h2
        have hlt : ¬ 9223372036854775807 - u < a := by omega
        go_enter Tryz.func113, Tryz.ntmps113
        go_wp2_with fail
        go_returns
        exact ⟨rfl, rfl⟩
    · rw [if_pos rfl] at hl
      by_cases h : a - u < -9223372036854775808
      · rw [if_pos h] at hl
        injection hl with h1 h2
        subst h1 h2
        have hlt : a < -9223372036854775808 + u := by omega
        go_enter Tryz.func113, Tryz.ntmps113
        go_wp2_with fail
        go_returns
        exact ⟨rfl, rfl⟩
      · rw [if_neg h] at hl
        injection hl with h1 h2
        subst h1 h2
        have hlt : ¬ a < -9223372036854775808 + u := by omega
        go_enter Tryz.func113, Tryz.ntmps113
        go_wp2_with fail
        go_returns
        exact ⟨rfl, rfl⟩
end Go.Proofs.YtmejoococajikaaGreat

/- varint.Take and its reference. -/
namespace Go.Proofs.YtmejoococajikaaGreat
open Go.RowKit

def VTakeOut (w : World) (x : Nat) (l : List Int) (er : Int) (e : Ending) (w' : World) : Prop :=
  ∃ G n c, e = .returned (.tuple #[.int .u64 x, .slice G n c, .int .i64 er]) ∧ Sl w' .u8 G n c l ∧ Below w.heap.size w w'
theorem vval_snoc (b : List Int) (j : Nat) (h : j < b.length) : vval (b.take (j + 1)) = vval (b.take j) + 128 ^ j * ((b.getD j 0).toNat % 128) := by
  rw [take_snoc b j h, vval_append, List.length_take, Nat.min_eq_left (by omega)]
  simp [vval]
theorem andNot_128 : ∀ c : Nat, c < 256 → bits .andNot .u8 (c : Int) 128 = ((c % 128 : Nat) : Int) := by decide +kernel
theorem and_128 : ∀ c : Nat, c < 256 → (bits .and .u8 (c : Int) 128 != 0) = decide (128 ≤ c) := by decide +kernel
theorem pow7 (j : Nat) : 2 ^ (7 * j) = 128 ^ j := by rw [Nat.pow_mul]
/-- One byte more. -/
theorem vor_step (b : List Int) (j : Nat) (hj : j < b.length) (h9 : j < 9 ∨ j = 9 ∧ b.getD j 0 ≤ 1) :
    bits .or .u64 (vval (b.take j) : Int) (IntKind.u64.wrap ((((b.getD j 0).toNat % 128 : Nat) : Int) * 2 ^ (7 * j))) = (vval (b.take (j + 1)) : Int) ∧ vval (b.take (j + 1)) < 18446744073709551616 := by
  have h1 := vval_lt (b.take j)
  rw [List.length_take, Nat.min_eq_left (by omega)] at h1
  rw [vval_snoc b j hj]
  generalize vval (b.take j) = V at *
  generalize hc : (b.getD j 0).toNat % 128 = c at *
  have h7 : (128 : Nat) ^ 9 = 9223372036854775808 := by decide
  have hlt : 128 ^ j * c + V < 18446744073709551616 := by
    rcases h9 with h9 | ⟨rfl, h9⟩
    · have h5 : 128 ^ (j + 1) ≤ 128 ^ 9 := Nat.pow_le_pow_right (by omega) (by omega)
      have h6 : 128 ^ j * c ≤ 128 ^ j * 127 := Nat.mul_le_mul_left _ (by omega)
      rw [Nat.pow_succ] at h5
      omega
    · rw [h7] at h1 ⊢
      have : c ≤ 1 := by omega
      omega
  have e1 : ((c : Int) * 2 ^ (7 * j)) = ((c * 2 ^ (7 * j) : Nat) : Int) := by rw [Int.natCast_mul, Int.natCast_pow]; rfl
  rw [← pow7] at h1 hlt ⊢
  have hlt2 : c * 2 ^ (7 * j) + V < 18446744073709551616 := by rw [Nat.mul_comm]; exact hlt
  rw [e1, IntWalk.u64_in _ (by omega), u64_or_nat _ _ (by omega) (by omega)]
  constructor
  · rw [Nat.or_comm, Nat.mul_comm c, ← Nat.two_pow_add_eq_or_of_lt h1 c, Nat.add_comm]
  · omega

theorem vtake_bad (b : List Int) (hu : U8 b) (h : b.length ≤ lead 9 b ∨ 128 ≤ b.getD (lead 9 b) 0 ∨ (b.getD (lead 9 b) 0 = 0 ∧ 0 < lead 9 b) ∨ (lead 9 b = 9 ∧ 1 < b.getD (lead 9 b) 0)) : vtakeR b = (0, [], 2) := by
  unfold vtakeR
  by_cases h1 : b.length ≤ lead 9 b
  · rw [if_pos h1]
  · rw [if_neg h1, if_neg]
    rw [vtake_good b hu (by omega)]
    omega
theorem vtake_ok (b : List Int) (hu : U8 b) (h1 : lead 9 b < b.length) (h2 : b.getD (lead 9 b) 0 < 128) (h3 : ¬ (b.getD (lead 9 b) 0 = 0 ∧ 0 < lead 9 b)) (h4 : ¬ (lead 9 b = 9 ∧ 1 < b.getD (lead 9 b) 0)) :
    vtakeR b = (vval (b.take (lead 9 b + 1)), b.drop (lead 9 b + 1), 0) := by
  have h5 := (vtake_good b hu h1).2 ⟨h2, h3, h4⟩
  have h6 := (vor_step b (lead 9 b) h1 (by have := (lead_le 9 b).1; omega)).2
  unfold vtakeR
  rw [if_neg (by omega), if_pos h5, Nat.mod_eq_of_lt h6]
theorem VTakeOut.bad {w : World} : VTakeOut w 0 [] 2 (.returned (.tuple #[.int .u64 0, .slice none 0 0, .int .i64 2])) w := ⟨none, 0, 0, rfl, Sl.nil _ _, Below.refl _ _⟩

set_option maxRecDepth 100000 in
set_option maxHeartbeats 1000000 in
theorem VTake_any (w : World) (A : Option Addr) (n cap : Nat) (b : List Int) (hr : Ri w .u8 A n b) (hu : U8 b) (hc : n ≤ cap) (hm : cap ≤ 9223372036854775807) (hn : n ≤ 100000) (X : Nat) (r : List Int) (er : Int) (hl : vtakeR b = (X, r, er)) :
    Calls Tryz.prog 173 #[.slice A n cap] w (VTakeOut w X r er) := by
  have HR := Lib.hid hr; have HU := Lib.hid hu; have HN := Lib.hid hr.len
  have hle := lead_le 9 b
  have hlg := Lib.hid (lead_ge 9 b)
  have hls := Lib.hid (lead_stop 9 b)
  have hbad := Lib.hid (vtake_bad b hu)
  have hok := Lib.hid (vtake_ok b hu)
  have HL := Lib.hid hl
  generalize lead 9 b = L at hle hlg hls hbad hok
  obtain ⟨hle1, hle2⟩ := hle
  rw [HN.out] at hle2
  clear hr hu hl
  go_enter Tryz.func173, Tryz.ntmps173
  go_wp2_with fail
  all_goals
    go_loopw [5, 11] (fun a i wr => ∃ j : Nat, j ≤ n ∧ j ≤ 10 ∧ i = .int .i64 j ∧ Hid (wr = w) ∧ Hid (j ≤ L ∧ a = .int .u64 (vval (b.take j)) ∨ (j = 10 ∧ L = 9 ∧ 128 ≤ b.getD 9 0 ∧ ∃ z, a = .int .u64 z))) (fun _ i _ => 10 - (intOf i).toNat)
    case atStart => exact ⟨0, by omega, by omega, rfl, Lib.hid rfl, Lib.hid (.inl ⟨by omega, rfl⟩)⟩
    case round =>
      obtain ⟨j, hjn, hj10, rfl, hw, hin⟩ := hrel
      obtain rfl := hw.out
      by_cases hlt : j < n ∧ j < 10
      · obtain ⟨hlt1, hlt2⟩ := hlt
        obtain ⟨bb, oo, hA, hbl, hcell⟩ := HR.out.at_ hlt1
        subst hA
        have hj : j ≤ L ∧ u5 = .int .u64 (vval (b.take j)) := by
          rcases hin.out with h | h
          · exact h
          · omega
        obtain ⟨hjL, rfl⟩ := hj
        have hy := getD_byte HU.out j
        obtain ⟨y, hyy⟩ : ∃ y : Nat, (y : Int) = b.getD j 0 := ⟨(b.getD j 0).toNat, by omega⟩
        have hstep := vor_step b j (by rw [HN.out]; exact hlt1)
        rw [← hyy] at hcell hy hstep
        have hyn : y < 256 := by omega
        have hm := Nat.mod_lt y (show 128 > 0 by omega)
        have e1 := andNot_128 y hyn
        have e2 := and_128 y hyn
        rw [Int.toNat_natCast, show (((y % 128 : Nat)) : Int) = (y : Int) % 128 from by omega] at hstep
        have hj7 : (0 : Int) ≤ 7 * (j : Int) := by omega
        have HYY := Lib.hid hyy; have HSTEP := Lib.hid hstep
        have HR1 := Lib.hid (HR.out.rest (i := j + 1) (b := bb) (o := oo) (by omega) (fun _ => rfl))
        clear hyy hstep hin
        generalize vval (b.take j) = V at *
        by_cases h128 : 128 ≤ y
        · by_cases h9 : j < 9
          · obtain ⟨hx, hx2⟩ := HSTEP.out (.inl h9)
            have hjL' : j < L := by
              rcases Nat.lt_or_ge j L with h | h
              · exact h
              · obtain rfl : j = L := by omega
                have := hls.out h9 (by rw [HN.out]; exact hlt1)
                rw [← HYY.out] at this
                omega
            go_wp2_with fail
            go_roundw
            case rel => exact ⟨j + 1, by omega, by omega, by go_num, Lib.hid trivial, Lib.hid (.inl ⟨by omega, rfl⟩)⟩
            case measure => simp [intOf] <;> omega
          · obtain rfl : j = 9 := by omega
            have h1 := HYY.out
            have HB9 : Hid (128 ≤ b.getD 9 0) := by show 128 ≤ b.getD 9 0; omega
            clear h1 HYY HSTEP HR1
            go_wp2_with fail
            go_roundw
            case rel => exact ⟨10, by omega, by omega, by go_num, Lib.hid trivial, Lib.hid (.inr ⟨rfl, by omega, HB9.out, _, rfl⟩)⟩
            case measure => simp [intOf] <;> omega
        · have hjL' : j = L := by
            rcases Nat.lt_or_ge j L with h | h
            · have := hlg.out j h
              rw [← HYY.out] at this
              omega
            · omega
          subst hjL'
          have HOK := Lib.hid (hok.out (by rw [HN.out]; exact hlt1))
          rw [← HYY.out] at HOK hbad
          rw [HL.out] at HOK hbad
          clear hok HYY hlg hls
          by_cases hb1 : y = 0 ∧ 0 < j
          · obtain ⟨rfl, hj0⟩ := hb1
            have h := hbad.out (.inr (.inr (.inl ⟨rfl, hj0⟩)))
            injection h with h1 h; injection h with h2 h3
            subst h1 h2 h3
            clear h
            go_wp2_with fail
            go_returns
            exact VTakeOut.bad
          · by_cases hb2 : j = 9 ∧ 1 < y
            · obtain ⟨rfl, hj0⟩ := hb2
              have h := hbad.out (.inr (.inr (.inr ⟨rfl, by omega⟩)))
              injection h with h1 h; injection h with h2 h3
              subst h1 h2 h3
              clear h
              have hy0 : ¬ (y : Int) = 0 := by omega
              go_wp2_with fail
              go_returns
              exact VTakeOut.bad
            · have h := HOK.out (by omega) (by omega) (by omega)
              injection h with h1 h; injection h with h2 h3
              subst h1 h2 h3
              obtain ⟨hx, hx2⟩ := HSTEP.out (by omega)
              clear h HOK hbad HSTEP
              have hb1' := Lib.hid hb1; have hb2' := Lib.hid hb2
              clear hb1 hb2
              have hn1 : n - (j + 1) ≤ 100000 := by omega
              rcases Nat.eq_zero_or_pos y with hy0 | hy0
              · obtain rfl : j = 0 := by have := hb1'.out; omega
                subst hy0
                have hx0 : bits BinOp.or IntKind.u64 (V : Int) 0 = (vval (b.take (0 + 1)) : Int) := by
                  rw [show IntKind.u64.wrap (((0 : Nat) : Int) % 128 * 2 ^ (7 * 0)) = 0 from by decide] at hx
                  exact hx
                have hcell' : wr.cell? ⟨bb, oo, none⟩ = some (.int .u8 0) := hcell
                have e1' : bits .andNot .u8 0 128 = 0 := by decide +kernel
                have e2' : bits .and .u8 0 128 = 0 := by decide +kernel
                clear hx hjL e1 e2 hcell
                generalize vval (b.take (0 + 1)) = Z at *
                go_wp2_with fail
                all_goals
                  refine (Clone_any _ _ _ (b.drop (0 + 1)) _ (by first | exact HR1.out | exact HR1.out.zero (by omega) _) (by omega)).mono ?_; rintro e w2 ⟨G2, n2, c2, rfl, hs2, hb2⟩
                  go_wp2_with fail
                  go_returns
                  exact ⟨_, _, _, rfl, hs2, hb2⟩
              · by_cases hj9 : j = 9
                · subst hj9
                  obtain rfl : y = 1 := by have := hb2'.out; omega
                  have hx0 : bits BinOp.or IntKind.u64 (V : Int) 9223372036854775808 = (vval (b.take (9 + 1)) : Int) := by
                    rw [show IntKind.u64.wrap (((1 : Nat) : Int) % 128 * 2 ^ (7 * 9)) = 9223372036854775808 from by decide] at hx
                    exact hx
                  have hcell' : wr.cell? ⟨bb, oo + 9, none⟩ = some (.int .u8 1) := hcell
                  have e1' : bits .andNot .u8 1 128 = 1 := by decide +kernel
                  have e2' : bits .and .u8 1 128 = 0 := by decide +kernel
                  clear hx hjL e1 e2 hcell
                  generalize vval (b.take (9 + 1)) = Z at *
                  go_wp2_with fail
                  all_goals
                    refine (Clone_any _ _ _ (b.drop (9 + 1)) _ (by first | exact HR1.out | exact HR1.out.zero (by omega) _) (by omega)).mono ?_; rintro e w2 ⟨G2, n2, c2, rfl, hs2, hb2⟩
                    go_wp2_with fail
                    go_returns
                    exact ⟨_, _, _, rfl, hs2, hb2⟩
                · have hne : ¬ (j : Int) = 9 := by omega
                  have hyz : ¬ (y : Int) = 0 := by omega
                  clear hjL
                  generalize vval (b.take (j + 1)) = Z at *
                  go_wp2_with fail
                  all_goals
                    refine (Clone_any _ _ _ (b.drop (j + 1)) _ (by first | exact HR1.out | exact HR1.out.zero (by omega) _) (by omega)).mono ?_; rintro e w2 ⟨G2, n2, c2, rfl, hs2, hb2⟩
                    go_wp2_with fail
                    go_returns
                    exact ⟨_, _, _, rfl, hs2, hb2⟩
      · have h := hbad.out (by
          rcases hin.out with ⟨h1, _⟩ | ⟨h1, h2, h3, _⟩
          · left; rw [HN.out]; omega
          · right; left; rw [h2]; exact h3)
        rw [HL.out] at h
        injection h with h1 h; injection h with h2 h3
        subst h1 h2 h3
        clear hin hbad hok hlg hls HL
        rcases (show n ≤ j ∨ j = 10 by omega) with hjj | rfl
        all_goals first
          | (exfalso; omega)
          | (go_wp2_with fail; go_returns; exact VTakeOut.bad)
end Go.Proofs.YtmejoococajikaaGreat

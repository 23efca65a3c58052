/- Joined texts: Diff. Each has its own head line. No condition beyond those that its theorems state. -/
import Derived.Handy
import Derived.BigQuiet
import Derived.Test.YtmejoococajikaaJ07
import Derived.Test.YtmejoococajikaaJ06
import Derived.Test.YtmejoococajikaaJ09
set_option linter.unusedVariables false

/- delta.Diff, Step and their references. -/
namespace Go.Proofs.Ytmejoococajikaa
open Go.RowKit

def diffR (a b : Int) : Int × Bool × Bool :=
  if (if b < a then a - b else b - a) ≥ 9223372036854775808 then (0, false, false) else (if b < a then a - b else b - a, decide (b < a), true)
def stepR (a u : Int) (f : Bool) : Int × Bool :=
  if u ≥ 9223372036854775808 then (0, false)
  else if f then (if a - u < -9223372036854775808 then (0, false) else (a - u, true))
  else (if a + u ≥ 9223372036854775808 then (0, false) else (a + u, true))
def I64x (x : Int) : Prop := -9223372036854775808 ≤ x ∧ x < 9223372036854775808
theorem stepR_range (a u : Int) (f : Bool) (ha : I64x a) (hu : 0 ≤ u) : I64x (stepR a u f).1 := by
  unfold stepR I64x at *
  split
  · simp
  · split
    · split
      · simp
      · dsimp only; omega
    · split
      · simp
      · dsimp only; omega
theorem diffR_range (a b : Int) : 0 ≤ (diffR a b).1 ∧ (diffR a b).1 < 9223372036854775808 := by
  unfold diffR
  by_cases h : b < a
  · rw [if_pos h]
    split
    · simp
    · dsimp only; omega
  · rw [if_neg h]
    split
    · simp
    · dsimp only; omega
/-- Three of a difference are handed back. -/
def DiffOut (w : World) (u : Int) (f ok : Bool) (e : Ending) (w' : World) : Prop :=
  e = .returned (.tuple #[.int .u64 u, .bool f, .bool ok]) ∧ Below w.heap.size w w'

set_option maxRecDepth 100000 in
set_option maxHeartbeats 1000000 in
theorem Diff_any (w : World) (a b : Int) (ha : I64x a) (hb : I64x b) (u : Int) (f ok : Bool) (hl : diffR a b = (u, f, ok)) :
    Calls Try.prog 20 #[.int .i64 a, .int .i64 b] w (DiffOut w u f ok) := by
  unfold I64x at ha hb
  have HA := Lib.hid ha; have HB := Lib.hid hb
  obtain ⟨D, hD⟩ : ∃ D, D = (if b < a then b - a + 18446744073709551616 else b - a) := ⟨_, rfl⟩
  have he : IntKind.u64.wrap (IntKind.u64.wrap b - IntKind.u64.wrap a) = D := by
    rw [hD, IntKind.wrap_u64, IntKind.wrap_u64, IntKind.wrap_u64]; split <;> omega
  have hDr : 0 ≤ D ∧ D < 18446744073709551616 := by rw [hD]; split <;> omega
  unfold diffR at hl
  by_cases hlt : b < a
  · rw [if_pos hlt] at hl hD
    have he2 : IntKind.u64.wrap (-D) = a - b := by rw [IntKind.wrap_u64]; omega
    by_cases hbig : a - b ≥ 9223372036854775808
    · rw [if_pos hbig] at hl
      injection hl with h1 hl; injection hl with h2 h3
      subst h1 h2 h3
      have HD := Lib.hid hD
      have hq : (9223372036854775808 : Int) ≤ a - b := hbig
      clear hD ha hb hbig
      go_enter Try.func20, Try.ntmps20
      go_wp2_with fail
      go_returns
      exact ⟨rfl, by first | go_grown | omega               ⟩
    · rw [if_neg hbig, decide_eq_true hlt] at hl
      injection hl with h1 hl; injection hl with h2 h3
      subst h1 h2 h3
      have HD := Lib.hid hD
      have hq : ¬ (9223372036854775808 : Int) ≤ a - b := hbig
      clear hD ha hb hbig
      go_enter Try.func20, Try.ntmps20
      go_wp2_with fail
      go_region
      all_goals
        go_wp2_with fail
        go_returns
        exact ⟨rfl, by first | go_grown | omega               ⟩
  · rw [if_neg hlt] at hl hD
    subst hD
    by_cases hbig : b - a ≥ 9223372036854775808
    · rw [if_pos hbig] at hl
      injection hl with h1 hl; injection hl with h2 h3
      subst h1 h2 h3
      have hq : (9223372036854775808 : Int) ≤ b - a := hbig
      clear ha hb hbig
      go_enter Try.func20, Try.ntmps20
      go_wp2_with fail
      go_returns
      exact ⟨rfl, by first | go_grown | omega               ⟩
    · rw [if_neg hbig, decide_eq_false hlt] at hl
      injection hl with h1 hl; injection hl with h2 h3
      subst h1 h2 h3
      have hq : ¬ (9223372036854775808 : Int) ≤ b - a := hbig
      clear ha hb hbig
      go_enter Try.func20, Try.ntmps20
      go_wp2_with fail
      go_region
      all_goals
        go_wp2_with fail
        go_returns
        exact ⟨rfl, by first | go_grown | omega               ⟩
set_option maxRecDepth 100000 in
set_option maxHeartbeats 1000000 in
theorem refDiff_any (w : World) (a b : Int) (ha : I64x a) (hb : I64x b) (u : Int) (f ok : Bool) (hl : diffR a b = (u, f, ok)) :
    Calls Try.prog 21 #[.int .i64 a, .int .i64 b] w fun e w' => e = .returned (.tuple #[.int .u64 u, .bool f, .bool ok]) ∧ w = w' := by
  unfold I64x at ha hb
  unfold diffR at hl
  by_cases hlt : b < a
  · rw [if_pos hlt] at hl
    have he : IntKind.u64.wrap (IntKind.u64.wrap a - IntKind.u64.wrap b) = a - b := by
      rw [IntKind.wrap_u64, IntKind.wrap_u64, IntKind.wrap_u64]; omega
    by_cases hbig : a - b ≥ 9223372036854775808
    · rw [if_pos hbig] at hl
      injection hl with h1 hl; injection hl with h2 h3
      subst h1 h2 h3
      have hq : (9223372036854775808 : Int) ≤ a - b := hbig
      clear ha hb hbig
      go_enter Try.func21, Try.ntmps21
      go_wp2_with fail
      go_returns
      exact ⟨rfl, rfl⟩
    · rw [if_neg hbig, decide_eq_true hlt] at hl
      injection hl with h1 hl; injection hl with h2 h3
      subst h1 h2 h3
      have hq : ¬ (9223372036854775808 : Int) ≤ a - b := hbig
      clear ha hb hbig
      go_enter Try.func21, Try.ntmps21
      go_wp2_with fail
      go_returns
      exact ⟨rfl, rfl⟩
  · rw [if_neg hlt] at hl
    have he : IntKind.u64.wrap (IntKind.u64.wrap b - IntKind.u64.wrap a) = b - a := by
      rw [IntKind.wrap_u64, IntKind.wrap_u64, IntKind.wrap_u64]; omega
    by_cases hbig : b - a ≥ 9223372036854775808
    · rw [if_pos hbig] at hl
      injection hl with h1 hl; injection hl with h2 h3
      subst h1 h2 h3
      have hq : (9223372036854775808 : Int) ≤ b - a := hbig
      clear ha hb hbig
      go_enter Try.func21, Try.ntmps21
      go_wp2_with fail
      go_returns
      exact ⟨rfl, rfl⟩
    · rw [if_neg hbig, decide_eq_false hlt] at hl
      injection hl with h1 hl; injection hl with h2 h3
      subst h1 h2 h3
      have hq : ¬ (9223372036854775808 : Int) ≤ b - a := hbig
      clear ha hb hbig
      go_enter Try.func21, Try.ntmps21
      go_wp2_with fail
      go_returns
      exact ⟨rfl, rfl⟩

/-- A number and whether it is one. -/
def StepOut (w : World) (x : Int) (ok : Bool) (e : Ending) (w' : World) : Prop := e = .returned (.tuple #[.int .i64 x, .bool ok]) ∧ w = w'
set_option maxRecDepth 100000 in
set_option maxHeartbeats 1000000 in
theorem Step_any (w : World) (a u : Int) (f : Bool) (ha : I64x a) (hu : 0 ≤ u ∧ u < 18446744073709551616) (x : Int) (ok : Bool) (hl : stepR a u f = (x, ok)) :
    Calls Try.prog 22 #[.int .i64 a, .int .u64 u, .bool f] w (StepOut w x ok) := by
  unfold I64x at ha
  unfold stepR at hl
  obtain ⟨hu1, hu2⟩ := hu
  obtain ⟨P, hP⟩ : ∃ P, P = wrap64 (IntKind.u64.wrap (IntKind.u64.wrap a + u)) := ⟨_, rfl⟩
  obtain ⟨M, hM⟩ : ∃ M, M = wrap64 (IntKind.u64.wrap (IntKind.u64.wrap a - u)) := ⟨_, rfl⟩
  have hPv : P = if a + u < 9223372036854775808 then a + u else if a + u < 27670116110564327424 then a + u - 18446744073709551616 else a + u - 36893488147419103232 := by
    rw [hP, IntKind.wrap_u64, IntKind.wrap_u64]; unfold wrap64; split <;> omega
  have hMv : M = if -9223372036854775808 ≤ a - u then a - u else if -27670116110564327424 ≤ a - u then a - u + 18446744073709551616 else a - u + 36893488147419103232 := by
    rw [hM, IntKind.wrap_u64, IntKind.wrap_u64]; unfold wrap64; split <;> omega
  have hP' := hP.symm
  have hM' := hM.symm
  clear hP hM
  by_cases hbig : u ≥ 9223372036854775808
  · rw [if_pos hbig] at hl
    injection hl with h1 h2
    subst h1 h2
    clear hPv hMv
    cases f
    all_goals
      go_enter Try.func22, Try.ntmps22
      go_wp2_with fail
      go_returns
      exact ⟨rfl, rfl⟩
  · rw [if_neg hbig] at hl
    cases f
    · rw [if_neg (by decide)] at hl
      by_cases h : a + u ≥ 9223372036854775808
      · rw [if_pos h] at hl
        injection hl with h1 h2
        subst h1 h2
        have hlt : P < a := by rw [hPv]; split <;> omega
        clear hPv hMv h hbig ha
        go_enter Try.func22, Try.ntmps22
        go_wp2_with fail
        all_goals
          go_returns
          exact ⟨rfl, rfl⟩
      · rw [if_neg h] at hl
        injection hl with h1 h2
        subst h1 h2
        have hPe : P = a + u := by rw [hPv, if_pos (by omega)]
        have hlt : ¬ P < a := by omega
        have hE := Lib.hid hPe
        have hbig2 : ¬ (9223372036854775808 : Int) ≤ u := hbig
        clear hPv hMv hPe h ha hbig
        go_enter Try.func22, Try.ntmps22
        go_wp2_with fail
        all_goals
          go_returns
          exact ⟨by rw [← hE.out]; rfl, rfl⟩
    · rw [if_pos rfl] at hl
      by_cases h : a - u < -9223372036854775808
      · rw [if_pos h] at hl
        injection hl with h1 h2
        subst h1 h2
        have hlt : a < M := by rw [hMv]; split <;> omega
        clear hPv hMv h hbig ha
        go_enter Try.func22, Try.ntmps22
        go_wp2_with fail
        all_goals
          go_returns
          exact ⟨rfl, rfl⟩
      · rw [if_neg h] at hl
        injection hl with h1 h2
        subst h1 h2
        have hMe : M = a - u := by rw [hMv, if_pos (by omega)]
        have hlt : ¬ a < M := by omega
        have hE := Lib.hid hMe
        have hbig2 : ¬ (9223372036854775808 : Int) ≤ u := hbig
        clear hPv hMv hMe h ha hbig
        go_enter Try.func22, Try.ntmps22
        go_wp2_with fail
        all_goals
          go_returns
          exact ⟨by rw [← hE.out]; rfl, rfl⟩
set_option maxRecDepth 100000 in
set_option maxHeartbeats 1000000 in
theorem refStep_any (w : World) (a u : Int) (f : Bool) (ha : I64x a) (hu : 0 ≤ u ∧ u < 18446744073709551616) (x : Int) (ok : Bool) (hl : stepR a u f = (x, ok)) :
    Calls Try.prog 23 #[.int .i64 a, .int .u64 u, .bool f] w (StepOut w x ok) := by
  unfold I64x at ha
  unfold stepR at hl
  obtain ⟨hu1, hu2⟩ := hu
  by_cases hbig : u ≥ 9223372036854775808
  · rw [if_pos hbig] at hl
    injection hl with h1 h2
    subst h1 h2
    go_enter Try.func23, Try.ntmps23
    go_wp2_with fail
    go_returns
    exact ⟨rfl, rfl⟩
  · rw [if_neg hbig] at hl
    have hbig2 : u < 9223372036854775808 := by omega
    cases f
    · rw [if_neg (by decide)] at hl
      by_cases h : a + u ≥ 9223372036854775808
      · rw [if_pos h] at hl
        injection hl with h1 h2
        subst h1 h2
        have hlt : 9223372036854775807 - u < a := by omega
        go_enter Try.func23, Try.ntmps23
        go_wp2_with fail
        go_returns
        exact ⟨rfl, rfl⟩
      · rw [if_neg h] at hl
        injection hl with h1 h2
        subst h1 h2
        have hlt : ¬ 9223372036854775807 - u < a := by omega
        go_enter Try.func23, Try.ntmps23
        go_wp2_with fail
        go_returns
        exact ⟨rfl, rfl⟩
    · rw [if_pos rfl] at hl
      by_cases h : a - u < -9223372036854775808
      · rw [if_pos h] at hl
        injection hl with h1 h2
        subst h1 h2
        have hlt : a < -9223372036854775808 + u := by omega
        go_enter Try.func23, Try.ntmps23
        go_wp2_with fail
        go_returns
        exact ⟨rfl, rfl⟩
      · rw [if_neg h] at hl
        injection hl with h1 h2
        subst h1 h2
        have hlt : ¬ a < -9223372036854775808 + u := by omega
        go_enter Try.func23, Try.ntmps23
        go_wp2_with fail
        go_returns
        exact ⟨rfl, rfl⟩
end Go.Proofs.Ytmejoococajikaa

/- Joined texts: Diff, Min, GlA, GlCut. Each has its own head line. No condition beyond those that its theorems state. -/
import Derived.Handy
import Derived.BigQuiet
import Derived.Deep.DeepCutAuto
import Derived.Test.YtbmooemlekckbaaDoorJ07
import Derived.Test.YtbmooemlekckbaaDoorJ02
import Derived.Test.YtbmooemlekckbaaDoorJ06
import Derived.Test.YtbmooemlekckbaaDoorJ04
set_option linter.unusedVariables false

/- delta.Diff, Step and their references. -/
namespace Go.Proofs.YtbmooemlekckbaaDoor
open Go.RowKit

def diffR (a b : Int) : Int × Bool × Bool :=
  if (if b < a then a - b else b - a) ≥ 9223372036854775808 then (0, false, false) else (if b < a then a - b else b - a, decide (b < a), true)
def stepR (a u : Int) (f : Bool) : Int × Bool :=
  if u ≥ 9223372036854775808 then (0, false)
  else if f then (if a - u < -9223372036854775808 then (0, false) else (a - u, true))
  else (if a + u ≥ 9223372036854775808 then (0, false) else (a + u, true))
def I64x (x : Int) : Prop := -9223372036854775808 ≤ x ∧ x < 9223372036854775808
theorem stepR_range (a u : Int) (f : Bool) (ha : I64x a) (hu : 0 ≤ u) : I64x (stepR a u f).1 := by
  unfold stepR I64x at *
  split
  · simp
  · split
    · split
      · simp
      · dsimp only; omega
    · split
      · simp
      · dsimp only; omega
theorem diffR_range (a b : Int) : 0 ≤ (diffR a b).1 ∧ (diffR a b).1 < 9223372036854775808 := by
  unfold diffR
  by_cases h : b < a
  · rw [if_pos h]
    split
    · simp
    · dsimp only; omega
  · rw [if_neg h]
    split
    · simp
    · dsimp only; omega
/-- Three of a difference are handed back. -/
def DiffOut (w : World) (u : Int) (f ok : Bool) (e : Ending) (w' : World) : Prop :=
  e = .returned (.tuple #[.int .u64 u, .bool f, .bool ok]) ∧ Below w.heap.size w w'

set_option maxRecDepth 100000 in
set_option maxHeartbeats 1000000 in
theorem Diff_any (w : World) (a b : Int) (ha : I64x a) (hb : I64x b) (u : Int) (f ok : Bool) (hl : diffR a b = (u, f, ok)) :
    Calls Tryd.prog 84 #[.int .i64 a, .int .i64 b] w (DiffOut w u f ok) := by
  unfold I64x at ha hb
  have HA := Lib.hid ha; have HB := Lib.hid hb
  obtain ⟨D, hD⟩ : ∃ D, D = (if b < a then b - a + 18446744073709551616 else b - a) := ⟨_, rfl⟩
  have he : IntKind.u64.wrap (IntKind.u64.wrap b - IntKind.u64.wrap a) = D := by
    rw [hD, IntKind.wrap_u64, IntKind.wrap_u64, IntKind.wrap_u64]; split <;> omega
  have hDr : 0 ≤ D ∧ D < 18446744073709551616 := by rw [hD]; split <;> omega
  unfold diffR at hl
  by_cases hlt : b < a
  · rw [if_pos hlt] at hl hD
    have he2 : IntKind.u64.wrap (-D) = a - b := by rw [IntKind.wrap_u64]; omega
    by_cases hbig : a - b ≥ 9223372036854775808
    · rw [if_pos hbig] at hl
      injection hl with h1 hl; injection hl with h2 h3
      subst h1 h2 h3
      have HD := Lib.hid hD
      have hq : (9223372036854775808 : Int) ≤ a - b := hbig
      clear hD ha hb hbig
      go_enter Tryd.func84, Tryd.ntmps84
      go_wp2_with fail
      go_returns
      exact ⟨rfl, by first | go_grown | omega               ⟩
    · rw [if_neg hbig, decide_eq_true hlt] at hl
      injection hl with h1 hl; injection hl with h2 h3
      subst h1 h2 h3
      have HD := Lib.hid hD
      have hq : ¬ (9223372036854775808 : Int) ≤ a - b := hbig
      clear hD ha hb hbig
      go_enter Tryd.func84, Tryd.ntmps84
      go_wp2_with fail
      go_region
      all_goals
        go_wp2_with fail
        go_returns
        exact ⟨rfl, by first | go_grown | omega               ⟩
  · rw [if_neg hlt] at hl hD
    subst hD
    by_cases hbig : b - a ≥ 9223372036854775808
    · rw [if_pos hbig] at hl
      injection hl with h1 hl; injection hl with h2 h3
      subst h1 h2 h3
      have hq : (9223372036854775808 : Int) ≤ b - a := hbig
      clear ha hb hbig
      go_enter Tryd.func84, Tryd.ntmps84
      go_wp2_with fail
      go_returns
      exact ⟨rfl, by first | go_grown | omega               ⟩
    · rw [if_neg hbig, decide_eq_false hlt] at hl
      injection hl with h1 hl; injection hl with h2 h3
      subst h1 h2 h3
      have hq : ¬ (9223372036854775808 : Int) ≤ b - a := hbig
      clear ha hb hbig
      go_enter Tryd.func84, Tryd.ntmps84
      go_wp2_with fail
      go_region
      all_goals
        go_wp2_with fail
        go_returns
        exact ⟨rfl, by first | go_grown | omega               ⟩
/-- A number and whether it is one. -/
def StepOut (w : World) (x : Int) (ok : Bool) (e : Ending) (w' : World) : Prop := e = .returned (.tuple #[.int .i64 x, .bool ok]) ∧ w = w'
set_option maxRecDepth 100000 in
set_option maxHeartbeats 1000000 in
theorem Step_any (w : World) (a u : Int) (f : Bool) (ha : I64x a) (hu : 0 ≤ u ∧ u < 18446744073709551616) (x : Int) (ok : Bool) (hl : stepR a u f = (x, ok)) :
    Calls Tryd.prog 82 #[.int .i64 a, .int .u64 u, .bool f] w (StepOut w x ok) := by
  unfold I64x at ha
  unfold stepR at hl
  obtain ⟨hu1, hu2⟩ := hu
  obtain ⟨P, hP⟩ : ∃ P, P = wrap64 (IntKind.u64.wrap (IntKind.u64.wrap a + u)) := ⟨_, rfl⟩
  obtain ⟨M, hM⟩ : ∃ M, M = wrap64 (IntKind.u64.wrap (IntKind.u64.wrap a - u)) := ⟨_, rfl⟩
  have hPv : P = if a + u < 9223372036854775808 then a + u else if a + u < 27670116110564327424 then a + u - 18446744073709551616 else a + u - 36893488147419103232 := by
    rw [hP, IntKind.wrap_u64, IntKind.wrap_u64]; unfold wrap64; split <;> omega
  have hMv : M = if -9223372036854775808 ≤ a - u then a - u else if -27670116110564327424 ≤ a - u then a - u + 18446744073709551616 else a - u + 36893488147419103232 := by
    rw [hM, IntKind.wrap_u64, IntKind.wrap_u64]; unfold wrap64; split <;> omega
  have hP' := hP.symm
  have hM' := hM.symm
  clear hP hM
  by_cases hbig : u ≥ 9223372036854775808
  · rw [if_pos hbig] at hl
    injection hl with h1 h2
    subst h1 h2
    clear hPv hMv
    cases f
    all_goals
      go_enter Tryd.func82, Tryd.ntmps82
      go_wp2_with fail
      go_returns
      exact ⟨rfl, rfl⟩
  · rw [if_neg hbig] at hl
    cases f
    · rw [if_neg (by decide)] at hl
      by_cases h : a + u ≥ 9223372036854775808
      · rw [if_pos h] at hl
        injection hl with h1 h2
        subst h1 h2
        have hlt : P < a := by rw [hPv]; split <;> omega
        clear hPv hMv h hbig ha
        go_enter Tryd.func82, Tryd.ntmps82
        go_wp2_with fail
        all_goals
          go_returns
          exact ⟨rfl, rfl⟩
      · rw [if_neg h] at hl
        injection hl with h1 h2
        subst h1 h2
        have hPe : P = a + u := by rw [hPv, if_pos (by omega)]
        have hlt : ¬ P < a := by omega
        have hE := Lib.hid hPe
        have hbig2 : ¬ (9223372036854775808 : Int) ≤ u := hbig
        clear hPv hMv hPe h ha hbig
        go_enter Tryd.func82, Tryd.ntmps82
        go_wp2_with fail
        all_goals
          go_returns
          exact ⟨by rw [← hE.out]; rfl, rfl⟩
    · rw [if_pos rfl] at hl
      by_cases h : a - u < -9223372036854775808
      · rw [if_pos h] at hl
        injection hl with h1 h2
        subst h1 h2
        have hlt : a < M := by rw [hMv]; split <;> omega
        clear hPv hMv h hbig ha
        go_enter Tryd.func82, Tryd.ntmps82
        go_wp2_with fail
        all_goals
          go_returns
          exact ⟨rfl, rfl⟩
      · rw [if_neg h] at hl
        injection hl with h1 h2
        subst h1 h2
        have hMe : M = a - u := by rw [hMv, if_pos (by omega)]
        have hlt : ¬ a < M := by omega
        have hE := Lib.hid hMe
        have hbig2 : ¬ (9223372036854775808 : Int) ≤ u := hbig
        clear hPv hMv hMe h ha hbig
        go_enter Tryd.func82, Tryd.ntmps82
        go_wp2_with fail
        all_goals
          go_returns
          exact ⟨by rw [← hE.out]; rfl, rfl⟩
end Go.Proofs.YtbmooemlekckbaaDoor

/- slices.Min. -/
namespace Go.Proofs.YtbmooemlekckbaaDoor
open Go.RowKit

def minL (l : List Int) : Int := l.foldl min (l.getD 0 0)
theorem minL_snoc (l : List Int) (j : Nat) (h : j < l.length) (a : Int) : (l.take (j + 1)).foldl min a = min ((l.take j).foldl min a) (l.getD j 0) := by
  rw [take_snoc l j h, List.foldl_append]; rfl
theorem minL_le (l : List Int) (a : Int) : l.foldl min a ≤ a ∧ ∀ y ∈ l, l.foldl min a ≤ y := by
  induction l generalizing a with
  | nil => exact ⟨Int.le_refl _, fun y hy => by cases hy⟩
  | cons b t ih =>
    obtain ⟨h1, h2⟩ := ih (min a b)
    rw [List.foldl_cons]
    refine ⟨by omega, fun y hy => ?_⟩
    rcases List.mem_cons.1 hy with rfl | hy
    · omega
    · exact h2 y hy
theorem minL_mem (l : List Int) (a : Int) : l.foldl min a = a ∨ l.foldl min a ∈ l := by
  induction l generalizing a with
  | nil => exact .inl rfl
  | cons b t ih =>
    rw [List.foldl_cons]
    rcases ih (min a b) with h | h
    · rw [h]
      by_cases hab : a ≤ b
      · left; omega
      · right; rw [show min a b = b from by omega]; exact List.mem_cons_self
    · right; exact List.mem_cons_of_mem _ h
theorem minL_neg (l : List Int) (h : 0 < l.length) : (minL l < 0) ↔ l.any (fun x => decide (x < 0)) = true := by
  unfold minL
  rw [List.any_eq_true]
  constructor
  · intro h1
    rcases minL_mem l (l.getD 0 0) with h2 | h2
    · rw [h2] at h1
      exact ⟨_, getD_mem l 0 h, by simpa using h1⟩
    · exact ⟨_, h2, by simpa using h1⟩
  · rintro ⟨x, hx, h1⟩
    have := (minL_le l (l.getD 0 0)).2 x hx
    simp at h1
    omega
theorem getD_i64x {l : List Int} (h : I64 l) (i : Nat) : I64x (l.getD i 0) := by
  unfold I64x
  rcases Nat.lt_or_ge i l.length with h1 | h1
  · exact h _ (by simp [List.getD, List.getElem?_eq_getElem h1])
  · simp [List.getD, List.getElem?_eq_none h1]

set_option maxRecDepth 100000 in
set_option maxHeartbeats 1000000 in
theorem Min_any (w : World) (A : Option Addr) (n cap : Nat) (l : List Int) (hr : Ri w .i64 A n l) (hn : n ≤ 1000000) (h1 : 1 ≤ n) :
    Calls Tryd.prog 33 #[.slice A n cap] w fun e w' => e = .returned (.int .i64 (minL l)) ∧ w = w' := by
  have HR := Lib.hid hr; have HN := Lib.hid hr.len
  clear hr
  obtain ⟨bb, oo, rfl, hbl, hcells⟩ := HR.out.all (by omega)
  have HC := Lib.hid hcells; clear hcells
  have h0 := HC.out 0 (by omega)
  rw [Nat.add_zero] at h0
  obtain ⟨a, ha⟩ : ∃ a, a = l.getD 0 0 := ⟨_, rfl⟩
  rw [← ha] at h0
  have HA := Lib.hid ha; clear ha
  go_enter Tryd.func33, Tryd.ntmps33
  go_wp2_with fail
  go_loopw [3, 4] (fun m i wr => ∃ (j : Nat) (z : Int), 1 ≤ j ∧ j ≤ n ∧ i = .int .i64 j ∧ Hid (wr = w) ∧ m = .int .i64 z ∧ Hid (z = (l.take j).foldl min a)) (fun _ i _ => n - (intOf i).toNat)
  case atStart => exact ⟨1, a, by omega, h1, rfl, Lib.hid rfl, rfl, Lib.hid (by cases l with | nil => have := HN.out; simp at this; omega | cons x t => have := HA.out; simp at this; subst this; simp)⟩
  case round =>
    obtain ⟨j, z, hj1, hj, rfl, hw, rfl, hz⟩ := hrel
    obtain rfl := hw.out
    by_cases hlt : j < n
    · have hc := HC.out j hlt
      have hs := Lib.hid (minL_snoc l j (by rw [HN.out]; exact hlt) a)
      generalize l.getD j 0 = x at hc hs
      clear h0
      go_wp2_with fail
      all_goals
        go_roundw
        case rel =>
          refine ⟨j + 1, _, by omega, by omega, by go_num, Lib.hid trivial, rfl, Lib.hid ?_⟩
          rw [hs.out, ← hz.out]
          omega
        case measure => simp [intOf] <;> omega
    · obtain rfl : j = n := by omega
      go_wp2_with fail
      go_ret
      have h := hz.out
      rw [List.take_of_length_le (by rw [HN.out]; exact Nat.le_refl _), HA.out] at h
      exact ⟨by rw [h]; rfl, rfl⟩
end Go.Proofs.YtbmooemlekckbaaDoor

/- Rle: how many numbers are as the first one. -/
namespace Go.Proofs.YtbmooemlekckbaaDoor
open Go.RowKit

def sameL (l : List Int) : Nat := l.findIdx fun y => decide (y ≠ l.getD 0 0)
theorem sameL_le (l : List Int) : sameL l ≤ l.length := List.findIdx_le_length
theorem sameL_all (l : List Int) (q : Nat) (h : q < sameL l) : l.getD q 0 = l.getD 0 0 := by
  have h1 := List.not_of_lt_findIdx h
  have h2 : q < l.length := Nat.lt_of_lt_of_le h (sameL_le l)
  have e : l.getD q 0 = l[q] := by simp only [List.getD, List.getElem?_eq_getElem h2, Option.getD_some]
  rw [e]
  exact Decidable.not_not.1 (fun h3 => by rw [decide_eq_true h3] at h1; cases h1)
theorem sameL_end (l : List Int) (h : sameL l < l.length) : l.getD (sameL l) 0 ≠ l.getD 0 0 := by
  have h1 := List.findIdx_getElem (p := fun y => decide (y ≠ l.getD 0 0)) (xs := l) (w := h)
  rw [decide_eq_true_eq] at h1
  have e : l.getD (sameL l) 0 = l[sameL l] := by simp only [List.getD, List.getElem?_eq_getElem h, Option.getD_some]
  rw [e]; exact h1
theorem sameL_eq (l : List Int) (j : Nat) (hj : j ≤ l.length) (ha : ∀ q, q < j → l.getD q 0 = l.getD 0 0) (he : j = l.length ∨ l.getD j 0 ≠ l.getD 0 0) : sameL l = j := by
  have h1 := sameL_le l
  rcases Nat.lt_trichotomy (sameL l) j with h | h | h
  · exact absurd (ha _ h) (sameL_end l (by omega))
  · exact h
  · rcases he with he | he
    · omega
    · exact absurd (sameL_all l j h) he
theorem sameL_pos (l : List Int) (h : 1 ≤ l.length) : 1 ≤ sameL l := by
  rcases Nat.eq_zero_or_pos (sameL l) with h1 | h1
  · have := sameL_end l (by omega)
    rw [h1] at this
    exact absurd rfl this
  · exact h1

set_option maxHeartbeats 400000 in
theorem sameFn_any (w : World) (y x0 : Int) (h b o n cap : Nat) (hn : 1 ≤ n) (hh : w.cell? ⟨h, 0, none⟩ = some (.slice (some ⟨b, o, none⟩) n cap)) (h0 : w.cell? ⟨b, o, none⟩ = some (.int .i64 x0)) :
    Calls Tryd.prog 44 #[.int .i64 y, .pointer (some ⟨h, 0, none⟩)] w fun e w' => e = .returned (.bool (decide (y ≠ x0))) ∧ Below w.heap.size w w' := by
  have hn0 : (0 : Int) < (n : Int) := by omega
  go_enter Tryd.func44, Tryd.ntmps44
  go_wp2_with fail
  go_ret
  refine ⟨?_, Below.refl _ _⟩
  by_cases h1 : y = x0 <;> simp [h1]

def idxL (l : List Int) (n : Nat) : Int := if sameL l < n then (sameL l : Int) else -1
def sameFn (h : Nat) : Value := .func (.func 44) #[] #[.pointer (some ⟨h, 0, none⟩)]
set_option maxRecDepth 100000 in
set_option maxHeartbeats 1000000 in
theorem indexSame_any (w : World) (A : Option Addr) (n cap : Nat) (l : List Int) (hr : Ri w .i64 A n l) (hn : n ≤ 1000000) (h : Nat) (hh : w.cell? ⟨h, 0, none⟩ = some (.slice A n cap)) (hlt : h < w.heap.size) :
    Calls Tryd.prog 43 #[.slice A n cap, sameFn h] w fun e w' => e = .returned (.int .i64 (idxL l n)) ∧ Below w.heap.size w w' := by
  have HR := Lib.hid hr; have HN := Lib.hid hr.len
  have HH := Lib.hid hh
  clear hr hh
  unfold sameFn
  go_enter Tryd.func43, Tryd.ntmps43
  go_wp2_with fail
  go_loopw [8] (fun i wr => ∃ j : Nat, j ≤ n ∧ i = .int .i64 j ∧ Hid (∀ q, q < j → l.getD q 0 = l.getD 0 0) ∧ Hid (Below w.heap.size w wr)) (fun i _ => n - (intOf i).toNat)
  case atStart => exact ⟨0, by omega, rfl, Lib.hid (fun q h => absurd h (by omega)), Below.refl _ _⟩
  case round =>
    obtain ⟨j, hj, rfl, hz, hb⟩ := hrel
    by_cases hlt2 : j < n
    · obtain ⟨b, o, hA, hbl, hc⟩ := HR.out.all (by omega)
      subst hA
      have g1 := (hb.out.cell (p := ⟨b, o + j, none⟩) hbl).trans (hc j hlt2)
      have g0 := (hb.out.cell (p := ⟨b, o + 0, none⟩) hbl).trans (hc 0 (by omega))
      rw [Nat.add_zero] at g0
      have gh := (hb.out.cell (p := ⟨h, 0, none⟩) hlt).trans HH.out
      have G0 := Lib.hid g0; have GH := Lib.hid gh
      obtain ⟨y, hy⟩ : ∃ y, y = l.getD j 0 := ⟨_, rfl⟩
      obtain ⟨x0, hx⟩ : ∃ x, x = l.getD 0 0 := ⟨_, rfl⟩
      rw [← hy] at g1; rw [← hx] at G0
      have HY := Lib.hid hy; have HX := Lib.hid hx
      clear hc g0 gh hy hx
      go_wp2_with fail
      refine (sameFn_any _ y x0 h b o n cap (by omega) GH.out G0.out).mono ?_; rintro e w2 ⟨rfl, hb2⟩
      have HW2 := Lib.hid (on hb.out hb2)
      clear hb2
      by_cases hyx : y = x0
      · have HE := Lib.hid hyx
        rw [decide_eq_false (by simp [hyx])]
        clear hyx
        go_wp2_with fail
        go_roundw
        case rel =>
          refine ⟨j + 1, by omega, by go_num, Lib.hid (fun q h1 => ?_), HW2⟩
          rcases Nat.lt_or_ge q j with h3 | h3
          · exact hz.out q h3
          · obtain rfl : q = j := by omega
            rw [← HY.out, ← HX.out]; exact HE.out
        case measure => simp [intOf] <;> omega
      · have HE := Lib.hid hyx
        rw [decide_eq_true hyx]
        clear hyx
        go_wp2_with fail
        go_ret
        have hs := sameL_eq l j (by rw [HN.out]; omega) hz.out (.inr (by rw [← HY.out, ← HX.out]; exact HE.out))
        have hi : idxL l n = (j : Int) := by unfold idxL; rw [hs, if_pos hlt2]
        rw [hi]
        exact ⟨rfl, HW2.out⟩
    · obtain rfl : j = n := by omega
      go_wp2_with fail
      go_ret
      have hs := sameL_eq l j (by rw [HN.out]; omega) hz.out (.inl HN.out.symm)
      have hi : idxL l j = -1 := by unfold idxL; rw [hs, if_neg (by omega)]
      rw [hi]
      exact ⟨rfl, hb.out⟩

set_option maxRecDepth 100000 in
set_option maxHeartbeats 400000 in
theorem sameN_any (w : World) (A : Option Addr) (n cap : Nat) (l : List Int) (hr : Ri w .i64 A n l) (hn : n ≤ 1000000) :
    Calls Tryd.prog 32 #[.slice A n cap] w fun e w' => e = .returned (.int .i64 (sameL l)) ∧ Below w.heap.size w w' := by
  have HR := Lib.hid hr; have HN := Lib.hid hr.len
  have hle := sameL_le l
  rw [HN.out] at hle
  clear hr
  have hx := fun o => indexSame_any (w.alloc o) A n cap l (HR.out.alloc _) hn w.heap.size
  have HX := Lib.hid hx
  clear hx
  have hi : idxL l n = if sameL l < n then (sameL l : Int) else -1 := rfl
  generalize idxL l n = ix at *
  generalize sameL l = m at *
  go_enter Tryd.func32, Tryd.ntmps32
  go_wp2_with fail
  refine (HX.out _ (by simp) (by simp)).mono ?_; rintro e w2 ⟨rfl, hb2⟩
  have hb := on ((Below.refl w.heap.size w).alloc (Nat.le_refl _) _) hb2
  have c0 : w2.cell? ⟨w.heap.size, 0, none⟩ = some (.slice A n cap) := (hb2.cell (by simp)).trans (by simp)
  have HB := Lib.hid hb
  clear hb2 hb
  by_cases hm : m < n
  · rw [if_pos hm] at hi
    subst hi
    go_wp2_with fail
    go_ret
    exact ⟨rfl, HB.out⟩
  · obtain rfl : m = n := by omega
    rw [if_neg hm] at hi
    subst hi
    go_wp2_with fail
    go_ret
    exact ⟨rfl, HB.out⟩

/-- A number that stands as often as there are numbers. -/
def timesR (l : List Int) (s : Bool) : List Int × Int := if sameL l = l.length then putR (l.getD 0 0) l.length s else ([], 1)
set_option maxRecDepth 100000 in
set_option maxHeartbeats 400000 in
theorem times_any (w : World) (A : Option Addr) (n cap : Nat) (l : List Int) (hr : Ri w .i64 A n l) (hu : I64 l) (hn : n ≤ 1000000) (h1 : 1 ≤ n) (s : Bool) (r : List Int) (er : Int) (hl : timesR l s = (r, er)) :
    Calls Tryd.prog 45 #[.slice A n cap, .bool s] w (BytesErr w r er) := by
  have HR := Lib.hid hr; have HN := Lib.hid hr.len
  have hle := sameL_le l
  have hx0 := getD_i64x hu 0
  unfold timesR at hl
  rw [HN.out] at hl hle
  have HX0 := Lib.hid hx0
  clear hr hx0
  go_enter Tryd.func45, Tryd.ntmps45
  go_wp2_with fail
  refine (sameN_any w A n cap l HR.out hn).mono ?_; rintro e w2 ⟨rfl, hb2⟩
  have HB := Lib.hid hb2
  by_cases hm : sameL l = n
  · rw [if_pos hm] at hl
    have HL := Lib.hid hl
    rw [hm]
    obtain ⟨b, o, hA, hbl, hc⟩ := HR.out.all (by omega)
    subst hA
    have g0 := (hb2.cell (p := ⟨b, o + 0, none⟩) hbl).trans (hc 0 (by omega))
    rw [Nat.add_zero] at g0
    clear hl hm hle hc hb2
    generalize l.getD 0 0 = x at *
    go_wp2_with fail
    refine (Put_any x n s _ HX0.out.1 HX0.out.2 r er HL.out).mono ?_; rintro e w3 ⟨G, n3, c3, rfl, hs3, hb3⟩
    go_wp2_with fail
    go_ret2
    exact ⟨_, _, _, rfl, hs3, on HB.out hb3⟩
  · rw [if_neg hm] at hl
    injection hl with e1 e2
    subst e1 e2
    have hm2 : ¬ ((sameL l : Int) = (n : Int)) := by omega
    have hm3 : ((sameL l : Int) != (n : Int)) = true := by simp [hm2]
    clear hm hb2
    generalize sameL l = m at *
    go_wp2_with fail
    go_ret2
    exact ⟨none, 0, 0, rfl, Sl.nil _ _, HB.out⟩

end Go.Proofs.YtbmooemlekckbaaDoor

/- rle.Cut and its reference. -/
namespace Go.Proofs.YtbmooemlekckbaaDoor
open Go.RowKit

def cutF (l : List Int) (e : Nat) : Nat → Nat → Nat
  | 0, _ => e
  | f + 1, n => if e ≤ n then e else if 5 ≤ sameL (l.drop n) then n else cutF l e f (n + 1)
/-- How many numbers are one run. -/
def cutL (l : List Int) : Nat := if 3 ≤ sameL l then min (sameL l) 512 else cutF l (min l.length 512) 513 1
theorem cutF_end (l : List Int) (e f n : Nat) (h : e ≤ n) : cutF l e f n = e := by
  cases f with
  | zero => rfl
  | succ f => rw [cutF, if_pos h]
theorem cutF_here (l : List Int) (e f n : Nat) (h : ¬ e ≤ n) (h5 : 5 ≤ sameL (l.drop n)) (hf : 1 ≤ f) : cutF l e f n = n := by
  cases f with
  | zero => omega
  | succ f => rw [cutF, if_neg h, if_pos h5]
theorem cutF_on (l : List Int) (e f n : Nat) (h : ¬ e ≤ n) (h5 : ¬ 5 ≤ sameL (l.drop n)) : cutF l e (f + 1) n = cutF l e f (n + 1) := by
  rw [cutF, if_neg h, if_neg h5]
theorem cutF_le (l : List Int) (e : Nat) : ∀ f n, (e ≤ n → e ≤ cutF l e f n) ∧ cutF l e f n ≤ e ∧ (1 ≤ n → 1 ≤ e → 1 ≤ cutF l e f n) := by
  intro f
  induction f with
  | zero => intro n; exact ⟨fun _ => Nat.le_refl _, Nat.le_refl _, fun _ h => h⟩
  | succ f ih =>
    intro n
    rw [cutF]
    split
    · exact ⟨fun _ => Nat.le_refl _, Nat.le_refl _, fun _ h => h⟩
    · split
      · exact ⟨fun h => by omega, by omega, fun h _ => h⟩
      · have := ih (n + 1)
        exact ⟨fun h => by omega, this.2.1, fun _ h => this.2.2 (by omega) h⟩
theorem cutL_range (l : List Int) (h : 1 ≤ l.length) : 1 ≤ cutL l ∧ cutL l ≤ l.length ∧ cutL l ≤ 512 := by
  have h1 := sameL_le l
  have h2 := cutF_le l (min l.length 512) 513 1
  unfold cutL
  split
  · omega
  · have := h2.2.2 (by omega) (by omega)
    omega
theorem getD_take {l : List Int} {k q : Nat} (h : q < k) : (l.take k).getD q 0 = l.getD q 0 := by simp [List.getD, List.getElem?_take_of_lt h]
theorem same_take (l : List Int) (k : Nat) (hk : 1 ≤ k) : sameL (l.take k) = min (sameL l) k := by
  have h1 := sameL_le l
  refine sameL_eq _ _ (by rw [List.length_take]; omega) (fun q hq => ?_) ?_
  · rw [getD_take (by omega), getD_take (by omega)]
    exact sameL_all l q (by omega)
  · rw [List.length_take]
    rcases Nat.lt_or_ge (sameL l) k with h2 | h2
    · rcases Nat.lt_or_ge (sameL l) l.length with h3 | h3
      · right
        rw [Nat.min_eq_left (by omega), getD_take h2, getD_take (by omega)]
        exact sameL_end l h3
      · left; omega
    · left; omega

set_option maxRecDepth 100000 in
set_option maxHeartbeats 1000000 in
theorem Cut_any (w : World) (A : Option Addr) (n cap : Nat) (l : List Int) (hr : Ri w .i64 A n l) (hcap : n ≤ cap) (_hm : cap ≤ 9223372036854775807) (hn : n ≤ 1000000) :
    Calls Tryd.prog 22 #[.slice A n cap] w fun e w' => e = .returned (.int .i64 (cutL l)) ∧ Below w.heap.size w w' := by
  have HR := Lib.hid hr; have HN := Lib.hid hr.len
  have hle := sameL_le l
  rw [HN.out] at hle
  clear hr
  have hcl : cutL l = if 3 ≤ sameL l then min (sameL l) 512 else cutF l (min n 512) 513 1 := by unfold cutL; rw [HN.out]
  have HSM := Lib.hid (sameN_any w A n cap l HR.out hn)
  obtain ⟨m, hme⟩ : ∃ m, m = sameL l := ⟨_, rfl⟩
  rw [← hme] at hle hcl HSM
  clear hme
  go_enter Tryd.func22, Tryd.ntmps22
  go_wp2_with fail
  refine HSM.out.mono ?_; rintro e w1 ⟨rfl, hb1⟩
  have HB1 := Lib.hid hb1; clear hb1
  by_cases h3 : 3 ≤ m
  · rw [if_pos h3] at hcl
    have HCL := Lib.hid hcl
    clear hcl
    by_cases h5 : m ≤ 512
    · have hmin : min m 512 = m := by omega
      go_wp2_with fail
      go_ret
      rw [HCL.out, hmin]
      exact ⟨rfl, HB1.out⟩
    · have hmin : min m 512 = 512 := by omega
      go_wp2_with fail
      go_ret
      rw [HCL.out, hmin]
      exact ⟨rfl, HB1.out⟩
  · rw [if_neg h3] at hcl
    obtain ⟨e, he⟩ : ∃ e, e = min n 512 := ⟨_, rfl⟩
    rw [← he] at hcl
    have HCL := Lib.hid hcl
    clear hcl
    go_upto_region 4 with fail
    go_cut [4] (fun v wx => v = .int .i64 e ∧ wx = w1)
    case first =>
      by_cases h5 : n ≤ 512
      · have hmin : e = n := by omega
        clear he
        subst hmin
        go_wp2_with fail
        go_meet
        exact ⟨rfl, rfl⟩
      · have hmin : e = 512 := by omega
        clear he
        subst hmin
        go_wp2_with fail
        go_meet
        exact ⟨rfl, rfl⟩
    case rest =>
      obtain ⟨rfl, hw⟩ := hcut
      obtain ⟨w1, hw1⟩ : ∃ w1, w1 = wc := ⟨_, rfl⟩
      subst hw
      have hen : e ≤ n ∧ e ≤ 512 := by omega
      clear he hw1
      go_wp2_with fail
      go_loopw [5] (fun i wr => ∃ j : Nat, 1 ≤ j ∧ j ≤ 513 ∧ i = .int .i64 j ∧ Hid (cutL l = cutF l e (514 - j) j) ∧ Hid (Below w.heap.size w wr)) (fun i _ => 513 - (intOf i).toNat)
      case atStart => exact ⟨1, by omega, by omega, rfl, HCL, HB1⟩
      case round =>
        obtain ⟨j, hj1, hj5, rfl, hcf, hb⟩ := hrel
        by_cases hlt : j < e
        · obtain ⟨b, o, hA, hbl, _⟩ := HR.out.all (by omega)
          subst hA
          have hrd := (HR.out.rest (i := j) (by omega) (fun _ => rfl)).below hb.out
          have HRD := Lib.hid hrd
          clear hrd
          obtain ⟨K, hK⟩ : ∃ K, K = min (n - j) 5 := ⟨_, rfl⟩
          have hst := same_take (l.drop j) K (by omega)
          have hsl := sameL_le (l.drop j)
          rw [List.length_drop, HN.out] at hsl
          have hS : sameL ((l.drop j).take K) = min (sameL (l.drop j)) 5 := by omega
          have HST := Lib.hid hS
          have HCF := Lib.hid (fun h5 => hcf.out.trans (cutF_here l e (514 - j) j (by omega) h5 (by omega)))
          have HCN := Lib.hid (fun h5 => hcf.out.trans ((show cutF l e (514 - j) j = cutF l e (513 - j + 1) j from by rw [show 513 - j + 1 = 514 - j from by omega]).trans (cutF_on l e (513 - j) j (by omega) h5)))
          have HCALL := Lib.hid (fun c0 (_ : K ≤ c0) => sameN_any _ _ K c0 ((l.drop j).take K) (HRD.out.first (m := K) (by omega)) (by omega))
          rw [HST.out] at HCALL
          clear hst hS hcf hsl
          generalize sameL (l.drop j) = S at *
          by_cases hE : n ≤ j + 5
          · obtain rfl : K = n - j := by omega
            have hc1 : j < cap := by omega
            clear hK
            go_wp2_with fail
            (try rw [show j + 5 - j = 5 from by omega])
            refine (HCALL.out _ (by omega)).mono ?_; rintro e w2 ⟨rfl, hb2⟩
            have HB2 := Lib.hid (on hb.out hb2)
            clear hb2
            by_cases h5 : 5 ≤ S
            · have hcl := HCF.out h5
              have HCL2 := Lib.hid hcl
              rw [show min S 5 = 5 from by omega]
              clear hcl
              go_wp2_with fail
              go_ret
              rw [HCL2.out]
              exact ⟨rfl, HB2.out⟩
            · have hcl := HCN.out h5
              have HCL2 := Lib.hid hcl
              rw [show min S 5 = S from by omega]
              have hd : ((S : Int) == 5) = false := by simp; omega
              have hd2 : ¬ (S : Int) = 5 := by omega
              clear hcl
              go_wp2_with fail
              go_roundw
              case rel => exact ⟨j + 1, by omega, by omega, by go_num, by rw [show 514 - (j + 1) = 513 - j from by omega]; exact HCL2, HB2⟩
              case measure => simp [intOf] <;> omega
          · obtain rfl : K = 5 := by omega
            have hc1 : j < cap := by omega
            clear hK
            go_wp2_with fail
            (try rw [show j + 5 - j = 5 from by omega])
            refine (HCALL.out _ (by omega)).mono ?_; rintro e w2 ⟨rfl, hb2⟩
            have HB2 := Lib.hid (on hb.out hb2)
            clear hb2
            by_cases h5 : 5 ≤ S
            · have hcl := HCF.out h5
              have HCL2 := Lib.hid hcl
              rw [show min S 5 = 5 from by omega]
              clear hcl
              go_wp2_with fail
              go_ret
              rw [HCL2.out]
              exact ⟨rfl, HB2.out⟩
            · have hcl := HCN.out h5
              have HCL2 := Lib.hid hcl
              rw [show min S 5 = S from by omega]
              have hd : ((S : Int) == 5) = false := by simp; omega
              have hd2 : ¬ (S : Int) = 5 := by omega
              clear hcl
              go_wp2_with fail
              go_roundw
              case rel => exact ⟨j + 1, by omega, by omega, by go_num, by rw [show 514 - (j + 1) = 513 - j from by omega]; exact HCL2, HB2⟩
              case measure => simp [intOf] <;> omega
        · have hcn := hcf.out.trans (cutF_end l e (514 - j) j (by omega))
          have HCN := Lib.hid hcn
          clear hcn
          go_wp2_with fail
          go_ret
          rw [HCN.out]
          exact ⟨rfl, hb.out⟩

end Go.Proofs.YtbmooemlekckbaaDoor

/- Joined texts: Min, GlA, Diffs, Take3, FreshU. Each has its own head line. No condition beyond those that its theorems state. -/
import Derived.BigQuiet
import Derived.Deep.DeepCutAuto
import Derived.Test.YtbmooemlekckbaaGreatDoorJ18
import Derived.Test.YtbmooemlekckbaaGreatDoorJ04
import Derived.Test.YtbmooemlekckbaaGreatDoorJ15
import Derived.Test.YtbmooemlekckbaaGreatDoorJ16
set_option linter.unusedVariables false

/- slices.Min. -/
namespace Go.Proofs.YtbmooemlekckbaaGreatDoor
open Go.RowKit

def minL (l : List Int) : Int := l.foldl min (l.getD 0 0)
theorem minL_snoc (l : List Int) (j : Nat) (h : j < l.length) (a : Int) : (l.take (j + 1)).foldl min a = min ((l.take j).foldl min a) (l.getD j 0) := by
  rw [take_snoc l j h, List.foldl_append]; rfl
theorem minL_le (l : List Int) (a : Int) : l.foldl min a ≤ a ∧ ∀ y ∈ l, l.foldl min a ≤ y := by
  induction l generalizing a with
  | nil => exact ⟨Int.le_refl _, fun y hy => by cases hy⟩
  | cons b t ih =>
    obtain ⟨h1, h2⟩ := ih (min a b)
    rw [List.foldl_cons]
    refine ⟨by omega, fun y hy => ?_⟩
    rcases List.mem_cons.1 hy with rfl | hy
    · omega
    · exact h2 y hy
theorem minL_mem (l : List Int) (a : Int) : l.foldl min a = a ∨ l.foldl min a ∈ l := by
  induction l generalizing a with
  | nil => exact .inl rfl
  | cons b t ih =>
    rw [List.foldl_cons]
    rcases ih (min a b) with h | h
    · rw [h]
      by_cases hab : a ≤ b
      · left; omega
      · right; rw [show min a b = b from by omega]; exact List.mem_cons_self
    · right; exact List.mem_cons_of_mem _ h
theorem minL_neg (l : List Int) (h : 0 < l.length) : (minL l < 0) ↔ l.any (fun x => decide (x < 0)) = true := by
  unfold minL
  rw [List.any_eq_true]
  constructor
  · intro h1
    rcases minL_mem l (l.getD 0 0) with h2 | h2
    · rw [h2] at h1
      exact ⟨_, getD_mem l 0 h, by simpa using h1⟩
    · exact ⟨_, h2, by simpa using h1⟩
  · rintro ⟨x, hx, h1⟩
    have := (minL_le l (l.getD 0 0)).2 x hx
    simp at h1
    omega
theorem getD_i64x {l : List Int} (h : I64 l) (i : Nat) : I64x (l.getD i 0) := by
  unfold I64x
  rcases Nat.lt_or_ge i l.length with h1 | h1
  · exact h _ (by simp [List.getD, List.getElem?_eq_getElem h1])
  · simp [List.getD, List.getElem?_eq_none h1]

set_option maxRecDepth 100000 in
set_option maxHeartbeats 1000000 in
theorem Min_any (w : World) (A : Option Addr) (n cap : Nat) (l : List Int) (hr : Ri w .i64 A n l) (hn : n ≤ 1000000) (h1 : 1 ≤ n) :
    Calls Tryz.prog 51 #[.slice A n cap] w fun e w' => e = .returned (.int .i64 (minL l)) ∧ w = w' := by
  have HR := Lib.hid hr; have HN := Lib.hid hr.len
  clear hr
  obtain ⟨bb, oo, rfl, hbl, hcells⟩ := HR.out.all (by omega)
  have HC := Lib.hid hcells; clear hcells
  have h0 := HC.out 0 (by omega)
  rw [Nat.add_zero] at h0
  obtain ⟨a, ha⟩ : ∃ a, a = l.getD 0 0 := ⟨_, rfl⟩
  rw [← ha] at h0
  have HA := Lib.hid ha; clear ha
  go_enter Tryz.func51, Tryz.ntmps51
  go_wp2_with fail
  go_loopw [3, 4] (fun m i wr => ∃ (j : Nat) (z : Int), 1 ≤ j ∧ j ≤ n ∧ i = .int .i64 j ∧ Hid (wr = w) ∧ m = .int .i64 z ∧ Hid (z = (l.take j).foldl min a)) (fun _ i _ => n - (intOf i).toNat)
  case atStart => exact ⟨1, a, by omega, h1, rfl, Lib.hid rfl, rfl, Lib.hid (by cases l with | nil => have := HN.out; simp at this; omega | cons x t => have := HA.out; simp at this; subst this; simp)⟩
  case round =>
    obtain ⟨j, z, hj1, hj, rfl, hw, rfl, hz⟩ := hrel
    obtain rfl := hw.out
    by_cases hlt : j < n
    · have hc := HC.out j hlt
      have hs := Lib.hid (minL_snoc l j (by rw [HN.out]; exact hlt) a)
      generalize l.getD j 0 = x at hc hs
      clear h0
      go_wp2_with fail
      all_goals
        go_roundw
        case rel =>
          refine ⟨j + 1, _, by omega, by omega, by go_num, Lib.hid trivial, rfl, Lib.hid ?_⟩
          rw [hs.out, ← hz.out]
          omega
        case measure => simp [intOf] <;> omega
    · obtain rfl : j = n := by omega
      go_wp2_with fail
      go_ret
      have h := hz.out
      rw [List.take_of_length_le (by rw [HN.out]; exact Nat.le_refl _), HA.out] at h
      exact ⟨by rw [h]; rfl, rfl⟩
end Go.Proofs.YtbmooemlekckbaaGreatDoor

/- Rle: how many numbers are as the first one. -/
namespace Go.Proofs.YtbmooemlekckbaaGreatDoor
open Go.RowKit

def sameL (l : List Int) : Nat := l.findIdx fun y => decide (y ≠ l.getD 0 0)
theorem sameL_le (l : List Int) : sameL l ≤ l.length := List.findIdx_le_length
theorem sameL_all (l : List Int) (q : Nat) (h : q < sameL l) : l.getD q 0 = l.getD 0 0 := by
  have h1 := List.not_of_lt_findIdx h
  have h2 : q < l.length := Nat.lt_of_lt_of_le h (sameL_le l)
  have e : l.getD q 0 = l[q] := by simp only [List.getD, List.getElem?_eq_getElem h2, Option.getD_some]
  rw [e]
  exact Decidable.not_not.1 (fun h3 => by rw [decide_eq_true h3] at h1; cases h1)
theorem sameL_end (l : List Int) (h : sameL l < l.length) : l.getD (sameL l) 0 ≠ l.getD 0 0 := by
  have h1 := List.findIdx_getElem (p := fun y => decide (y ≠ l.getD 0 0)) (xs := l) (w := h)
  rw [decide_eq_true_eq] at h1
  have e : l.getD (sameL l) 0 = l[sameL l] := by simp only [List.getD, List.getElem?_eq_getElem h, Option.getD_some]
  rw [e]; exact h1
theorem sameL_eq (l : List Int) (j : Nat) (hj : j ≤ l.length) (ha : ∀ q, q < j → l.getD q 0 = l.getD 0 0) (he : j = l.length ∨ l.getD j 0 ≠ l.getD 0 0) : sameL l = j := by
  have h1 := sameL_le l
  rcases Nat.lt_trichotomy (sameL l) j with h | h | h
  · exact absurd (ha _ h) (sameL_end l (by omega))
  · exact h
  · rcases he with he | he
    · omega
    · exact absurd (sameL_all l j h) he
theorem sameL_pos (l : List Int) (h : 1 ≤ l.length) : 1 ≤ sameL l := by
  rcases Nat.eq_zero_or_pos (sameL l) with h1 | h1
  · have := sameL_end l (by omega)
    rw [h1] at this
    exact absurd rfl this
  · exact h1

set_option maxHeartbeats 400000 in
theorem sameFn_any (w : World) (y x0 : Int) (h b o n cap : Nat) (hn : 1 ≤ n) (hh : w.cell? ⟨h, 0, none⟩ = some (.slice (some ⟨b, o, none⟩) n cap)) (h0 : w.cell? ⟨b, o, none⟩ = some (.int .i64 x0)) :
    Calls Tryz.prog 76 #[.int .i64 y, .pointer (some ⟨h, 0, none⟩)] w fun e w' => e = .returned (.bool (decide (y ≠ x0))) ∧ Below w.heap.size w w' := by
  have hn0 : (0 : Int) < (n : Int) := by omega
  go_enter Tryz.func76, Tryz.ntmps76
  go_wp2_with fail
  go_ret
  refine ⟨?_, Below.refl _ _⟩
  by_cases h1 : y = x0 <;> simp [h1]

def idxL (l : List Int) (n : Nat) : Int := if sameL l < n then (sameL l : Int) else -1
def sameFn (h : Nat) : Value := .func (.func 76) #[] #[.pointer (some ⟨h, 0, none⟩)]
set_option maxRecDepth 100000 in
set_option maxHeartbeats 1000000 in
theorem indexSame_any (w : World) (A : Option Addr) (n cap : Nat) (l : List Int) (hr : Ri w .i64 A n l) (hn : n ≤ 1000000) (h : Nat) (hh : w.cell? ⟨h, 0, none⟩ = some (.slice A n cap)) (hlt : h < w.heap.size) :
    Calls Tryz.prog 75 #[.slice A n cap, sameFn h] w fun e w' => e = .returned (.int .i64 (idxL l n)) ∧ Below w.heap.size w w' := by
  have HR := Lib.hid hr; have HN := Lib.hid hr.len
  have HH := Lib.hid hh
  clear hr hh
  unfold sameFn
  go_enter Tryz.func75, Tryz.ntmps75
  go_wp2_with fail
  go_loopw [8] (fun i wr => ∃ j : Nat, j ≤ n ∧ i = .int .i64 j ∧ Hid (∀ q, q < j → l.getD q 0 = l.getD 0 0) ∧ Hid (Below w.heap.size w wr)) (fun i _ => n - (intOf i).toNat)
  case atStart => exact ⟨0, by omega, rfl, Lib.hid (fun q h => absurd h (by omega)), Below.refl _ _⟩
  case round =>
    obtain ⟨j, hj, rfl, hz, hb⟩ := hrel
    by_cases hlt2 : j < n
    · obtain ⟨b, o, hA, hbl, hc⟩ := HR.out.all (by omega)
      subst hA
      have g1 := (hb.out.cell (p := ⟨b, o + j, none⟩) hbl).trans (hc j hlt2)
      have g0 := (hb.out.cell (p := ⟨b, o + 0, none⟩) hbl).trans (hc 0 (by omega))
      rw [Nat.add_zero] at g0
      have gh := (hb.out.cell (p := ⟨h, 0, none⟩) hlt).trans HH.out
      have G0 := Lib.hid g0; have GH := Lib.hid gh
      obtain ⟨y, hy⟩ : ∃ y, y = l.getD j 0 := ⟨_, rfl⟩
      obtain ⟨x0, hx⟩ : ∃ x, x = l.getD 0 0 := ⟨_, rfl⟩
      rw [← hy] at g1; rw [← hx] at G0
      have HY := Lib.hid hy; have HX := Lib.hid hx
      clear hc g0 gh hy hx
      go_wp2_with fail
      refine (sameFn_any _ y x0 h b o n cap (by omega) GH.out G0.out).mono ?_; rintro e w2 ⟨rfl, hb2⟩
      have HW2 := Lib.hid (on hb.out hb2)
      clear hb2
      by_cases hyx : y = x0
      · have HE := Lib.hid hyx
        rw [decide_eq_false (by simp [hyx])]
        clear hyx
        go_wp2_with fail
        go_roundw
        case rel =>
          refine ⟨j + 1, by omega, by go_num, Lib.hid (fun q h1 => ?_), HW2⟩
          rcases Nat.lt_or_ge q j with h3 | h3
          · exact hz.out q h3
          · obtain rfl : q = j := by omega
            rw [← HY.out, ← HX.out]; exact HE.out
        case measure => simp [intOf] <;> omega
      · have HE := Lib.hid hyx
        rw [decide_eq_true hyx]
        clear hyx
        go_wp2_with fail
        go_ret
        have hs := sameL_eq l j (by rw [HN.out]; omega) hz.out (.inr (by rw [← HY.out, ← HX.out]; exact HE.out))
        have hi : idxL l n = (j : Int) := by unfold idxL; rw [hs, if_pos hlt2]
        rw [hi]
        exact ⟨rfl, HW2.out⟩
    · obtain rfl : j = n := by omega
      go_wp2_with fail
      go_ret
      have hs := sameL_eq l j (by rw [HN.out]; omega) hz.out (.inl HN.out.symm)
      have hi : idxL l j = -1 := by unfold idxL; rw [hs, if_neg (by omega)]
      rw [hi]
      exact ⟨rfl, hb.out⟩

set_option maxRecDepth 100000 in
set_option maxHeartbeats 400000 in
theorem sameN_any (w : World) (A : Option Addr) (n cap : Nat) (l : List Int) (hr : Ri w .i64 A n l) (hn : n ≤ 1000000) :
    Calls Tryz.prog 50 #[.slice A n cap] w fun e w' => e = .returned (.int .i64 (sameL l)) ∧ Below w.heap.size w w' := by
  have HR := Lib.hid hr; have HN := Lib.hid hr.len
  have hle := sameL_le l
  rw [HN.out] at hle
  clear hr
  have hx := fun o => indexSame_any (w.alloc o) A n cap l (HR.out.alloc _) hn w.heap.size
  have HX := Lib.hid hx
  clear hx
  have hi : idxL l n = if sameL l < n then (sameL l : Int) else -1 := rfl
  generalize idxL l n = ix at *
  generalize sameL l = m at *
  go_enter Tryz.func50, Tryz.ntmps50
  go_wp2_with fail
  refine (HX.out _ (by simp) (by simp)).mono ?_; rintro e w2 ⟨rfl, hb2⟩
  have hb := on ((Below.refl w.heap.size w).alloc (Nat.le_refl _) _) hb2
  have c0 : w2.cell? ⟨w.heap.size, 0, none⟩ = some (.slice A n cap) := (hb2.cell (by simp)).trans (by simp)
  have HB := Lib.hid hb
  clear hb2 hb
  by_cases hm : m < n
  · rw [if_pos hm] at hi
    subst hi
    go_wp2_with fail
    go_ret
    exact ⟨rfl, HB.out⟩
  · obtain rfl : m = n := by omega
    rw [if_neg hm] at hi
    subst hi
    go_wp2_with fail
    go_ret
    exact ⟨rfl, HB.out⟩

/-- A number that stands as often as there are numbers. -/
def timesR (l : List Int) (s : Bool) : List Int × Int := if sameL l = l.length then putR (l.getD 0 0) l.length s else ([], 1)
set_option maxRecDepth 100000 in
set_option maxHeartbeats 400000 in
theorem times_any (w : World) (A : Option Addr) (n cap : Nat) (l : List Int) (hr : Ri w .i64 A n l) (hu : I64 l) (hn : n ≤ 1000000) (h1 : 1 ≤ n) (s : Bool) (r : List Int) (er : Int) (hl : timesR l s = (r, er)) :
    Calls Tryz.prog 77 #[.slice A n cap, .bool s] w (BytesErr w r er) := by
  have HR := Lib.hid hr; have HN := Lib.hid hr.len
  have hle := sameL_le l
  have hx0 := getD_i64x hu 0
  unfold timesR at hl
  rw [HN.out] at hl hle
  have HX0 := Lib.hid hx0
  clear hr hx0
  go_enter Tryz.func77, Tryz.ntmps77
  go_wp2_with fail
  refine (sameN_any w A n cap l HR.out hn).mono ?_; rintro e w2 ⟨rfl, hb2⟩
  have HB := Lib.hid hb2
  by_cases hm : sameL l = n
  · rw [if_pos hm] at hl
    have HL := Lib.hid hl
    rw [hm]
    obtain ⟨b, o, hA, hbl, hc⟩ := HR.out.all (by omega)
    subst hA
    have g0 := (hb2.cell (p := ⟨b, o + 0, none⟩) hbl).trans (hc 0 (by omega))
    rw [Nat.add_zero] at g0
    clear hl hm hle hc hb2
    generalize l.getD 0 0 = x at *
    go_wp2_with fail
    refine (Put_any x n s _ HX0.out.1 HX0.out.2 r er HL.out).mono ?_; rintro e w3 ⟨G, n3, c3, rfl, hs3, hb3⟩
    go_wp2_with fail
    go_ret2
    exact ⟨_, _, _, rfl, hs3, on HB.out hb3⟩
  · rw [if_neg hm] at hl
    injection hl with e1 e2
    subst e1 e2
    have hm2 : ¬ ((sameL l : Int) = (n : Int)) := by omega
    have hm3 : ((sameL l : Int) != (n : Int)) = true := by simp [hm2]
    clear hm hb2
    generalize sameL l = m at *
    go_wp2_with fail
    go_ret2
    exact ⟨none, 0, 0, rfl, Sl.nil _ _, HB.out⟩

set_option maxRecDepth 100000 in
set_option maxHeartbeats 1000000 in
theorem refSameN_any (w : World) (A : Option Addr) (n cap : Nat) (l : List Int) (hr : Ri w .i64 A n l) (hn : n ≤ 1000000) :
    Calls Tryz.prog 55 #[.slice A n cap] w fun e w' => e = .returned (.int .i64 (sameL l)) ∧ Below w.heap.size w w' := by
  have HR := Lib.hid hr; have HN := Lib.hid hr.len
  clear hr
  go_enter Tryz.func55, Tryz.ntmps55
  go_wp2_with fail
  go_loopw [3] (fun i wr => ∃ j : Nat, j ≤ n ∧ i = .int .i64 j ∧ Hid (∀ q, q < j → l.getD q 0 = l.getD 0 0) ∧ Hid (Below w.heap.size w wr)) (fun i _ => n - (intOf i).toNat)
  case atStart => exact ⟨0, by omega, rfl, Lib.hid (fun q h => absurd h (by omega)), Below.refl _ _⟩
  case round =>
    obtain ⟨j, hj, rfl, hz, hb⟩ := hrel
    by_cases hlt2 : j < n
    · obtain ⟨b, o, hA, hbl, hc⟩ := HR.out.all (by omega)
      subst hA
      have g1 := (hb.out.cell (p := ⟨b, o + j, none⟩) hbl).trans (hc j hlt2)
      have g0 := (hb.out.cell (p := ⟨b, o + 0, none⟩) hbl).trans (hc 0 (by omega))
      rw [Nat.add_zero] at g0
      obtain ⟨y, hy⟩ : ∃ y, y = l.getD j 0 := ⟨_, rfl⟩
      obtain ⟨x0, hx⟩ : ∃ x, x = l.getD 0 0 := ⟨_, rfl⟩
      rw [← hy] at g1; rw [← hx] at g0
      have HY := Lib.hid hy; have HX := Lib.hid hx
      have hl1 : (j : Int) < (n : Int) := by omega
      have hl0 : (0 : Int) < (n : Int) := by omega
      clear hc hy hx
      by_cases hyx : y = x0
      · have HE := Lib.hid hyx
        have hd : (y == x0) = true := by simp [hyx]
        clear hyx
        go_wp2_with fail
        go_quiet (fail)
        go_wp2_with fail
        go_roundw
        case rel =>
          refine ⟨j + 1, by omega, by go_num, Lib.hid (fun q h1 => ?_), Lib.hid ?_⟩
          · rcases Nat.lt_or_ge q j with h3 | h3
            · exact hz.out q h3
            · obtain rfl : q = j := by omega
              rw [← HY.out, ← HX.out]; exact HE.out
          · exact below_drewN hb.out _
        case measure => simp [intOf] <;> omega
      · have HE := Lib.hid hyx
        have hd : (y == x0) = false := by simp [hyx]
        clear hyx
        go_wp2_with fail
        go_quiet (fail)
        go_wp2_with fail
        go_ret
        have hs := sameL_eq l j (by rw [HN.out]; omega) hz.out (.inr (by rw [← HY.out, ← HX.out]; exact HE.out))
        rw [hs]
        exact ⟨rfl, below_drewN hb.out _⟩
    · obtain rfl : j = n := by omega
      have hd : decide ((j : Int) < (j : Int)) = false := by simp
      go_wp2_with fail
      go_quiet (fail)
      go_wp2_with fail
      go_ret
      have hs := sameL_eq l j (by rw [HN.out]; omega) hz.out (.inl HN.out.symm)
      rw [hs]
      exact ⟨rfl, below_drewN hb.out _⟩
end Go.Proofs.YtbmooemlekckbaaGreatDoor

/- delta.diffs, number. -/
namespace Go.Proofs.YtbmooemlekckbaaGreatDoor
open Go.RowKit

def dAt (l : List Int) (j : Nat) : Int := l.getD (j + 1) 0 - l.getD j 0
def absI (x : Int) : Int := if x < 0 then -x else x
/-- By how much the numbers differ, without a sign. -/
def dsz (l : List Int) (m : Nat) : List Int := (List.range m).map fun j => absI (dAt l j)
def okAt (l : List Int) (j : Nat) : Bool := decide (absI (dAt l j) < 9223372036854775808) && (decide (dAt l j = 0) || decide (dAt l j < 0) == decide (dAt l 0 < 0))
def okD (l : List Int) (m : Nat) : Bool := (List.range m).all (okAt l)
def sameD (l : List Int) (m : Nat) : Bool := (List.range m).all fun j => decide (absI (dAt l j) = absI (dAt l 0))
theorem dsz_len (l : List Int) (m : Nat) : (dsz l m).length = m := by simp [dsz]
theorem dsz_snoc (l : List Int) (m : Nat) : dsz l (m + 1) = dsz l m ++ [absI (dAt l m)] := by simp [dsz, List.range_succ]
theorem okD_snoc (l : List Int) (m : Nat) : okD l (m + 1) = (okD l m && okAt l m) := by simp [okD, List.range_succ]
theorem okD_bad (l : List Int) (m j : Nat) (hj : j < m) (h : okAt l j = false) : okD l m = false := by
  rw [okD, List.all_eq_false]
  exact ⟨j, List.mem_range.2 hj, by simp [h]⟩
theorem sameD_snoc (l : List Int) (m : Nat) : sameD l (m + 1) = (sameD l m && decide (absI (dAt l m) = absI (dAt l 0))) := by simp [sameD, List.range_succ]
theorem diffR_eq (a b : Int) : diffR a b = if absI (b - a) ≥ 9223372036854775808 then (0, false, false) else (absI (b - a), decide (b - a < 0), true) := by
  unfold diffR absI
  by_cases h : b < a
  · rw [if_pos h, if_pos (by omega : b - a < 0), show -(b - a) = a - b from by omega, decide_eq_true h, decide_eq_true (by omega : b - a < 0)]
  · rw [if_neg h, if_neg (by omega : ¬ b - a < 0), decide_eq_false h, decide_eq_false (by omega : ¬ b - a < 0)]

def diffsR (l : List Int) : Int × Bool × List Int × Bool × Bool :=
  if okD l (l.length - 1) then (absI (dAt l 0), decide (dAt l 0 < 0), (dsz l (l.length - 1)).drop 1, sameD l (l.length - 1), true) else (0, false, [], false, false)
def DiffsOut (w : World) (u : Int) (f : Bool) (L : List Int) (s ok : Bool) (e : Ending) (w' : World) : Prop :=
  ∃ G n c, e = .returned (.tuple #[.agg #[.int .u64 u, .bool f], .slice G n c, .bool s, .bool ok]) ∧ Sl w' .u64 G n c L ∧ Below w.heap.size w w'
/-- Between two rounds. -/
def DiffsW (w wr : World) (l : List Int) (j : Nat) (v : Value) : Prop :=
  okD l j = true ∧ wr.ownsRow (w.heap.size + 1) 94 1 v j ((dsz l j).map (Value.int .u64)) ∧ Below w.heap.size w wr ∧
    Blk wr w.heap.size 129 (if j = 0 then #[.int .u64 0, .bool false] else #[.int .u64 (absI (dAt l 0)), .bool (decide (dAt l 0 < 0))])

theorem diffs_grown {w W w3 : World} {B : Nat} {t e : TypeId} {cs : Array Value} {v : Value} {m : Nat} {xs : List Value} (hB : B = w.heap.size) (hb : Below B w W) (hk : Blk W B t cs) (ho : W.ownsRow (B + 1) e 1 v m xs) {o : Obj} (hg : (W.alloc o).grownBy w3 v.ownBlock) :
    Below B w w3 ∧ Blk w3 B t cs := by
  subst hB
  have hz := hb.size
  refine ⟨(hb.alloc (by omega) o).grown hg (by simp; omega) (fun g hg => by have := (ho.lt g hg).1; omega), (hk.alloc o).grown hg (fun h => ?_)⟩
  have := (ho.lt _ h.symm).1
  omega
theorem ri_one_at {w : World} {k : IntKind} {x : Int} {t : TypeId} {g : Nat} (h : g = w.heap.size) : Ri (w.alloc (.cells #[.int k x] t)) k (some ⟨g, 0, none⟩) 1 [x] := by subst h; exact Rd.one _ _ _
theorem absI_zero (d : Int) : absI d = 0 ↔ d = 0 := by unfold absI; split <;> omega

set_option maxRecDepth 100000 in
set_option maxHeartbeats 4000000 in
theorem diffs_any (w : World) (A : Option Addr) (n cap : Nat) (l : List Int) (hr : Ri w .i64 A n l) (hu : I64 l) (hc : n ≤ cap) (_hm : cap ≤ 9223372036854775807) (hn : n ≤ 1000000) (h2 : 2 ≤ n) (u : Int) (f : Bool) (L : List Int) (s ok : Bool) (hl : diffsR l = (u, f, L, s, ok)) :
    Calls Tryz.prog 119 #[.slice A n cap] w (DiffsOut w u f L s ok) := by
  have HR := Lib.hid hr; have HN := Lib.hid hr.len; have HU := Lib.hid hu; have HL := Lib.hid hl
  clear hr hu hl
  obtain ⟨bb, oo, rfl, hbl, hcells⟩ := HR.out.all (by omega)
  have HC := Lib.hid hcells; clear hcells
  have hcap1 : ¬ cap = 1 := by omega
  go_enter Tryz.func119, Tryz.ntmps119
  go_wp2_with fail
  go_loopw [3, 4, 15] (fun v sm i wr => ∃ j : Nat, j ≤ n - 1 ∧ i = .int .i64 j ∧ sm = .bool (sameD l j) ∧ Hid (DiffsW w wr l j v)) (fun _ _ i _ => n - (intOf i).toNat)
  case atStart =>
    refine ⟨0, by omega, rfl, rfl, rfl, ⟨by simp [dsz], .inl ⟨rfl, rfl⟩⟩, (Below.refl _ _).alloc (Nat.le_refl _) _, ?_⟩
    exact Blk.new w _ _
  case round =>
    obtain ⟨j, hj, rfl, rfl, hin⟩ := hrel
    by_cases hlt : j < n - 1
    · obtain ⟨hok, ho, hb, hk⟩ := hin.out
      have g1 := (hb.cell (p := ⟨bb, oo + j, none⟩) hbl).trans (HC.out j (by omega))
      have g2 := (hb.cell (p := ⟨bb, oo + (j + 1), none⟩) hbl).trans (HC.out (j + 1) (by omega))
      rw [show oo + (j + 1) = oo + 1 + j from by omega] at g2
      have ha := getD_i64x HU.out j; have hb1 := getD_i64x HU.out (j + 1)
      obtain ⟨d, hd⟩ : ∃ d, d = dAt l j := ⟨_, rfl⟩
      have hdd : l.getD (j + 1) 0 - l.getD j 0 = d := by rw [hd]; rfl
      have hdr := diffR_eq (l.getD j 0) (l.getD (j + 1) 0)
      rw [hdd] at hdr
      generalize l.getD j 0 = a at *
      generalize l.getD (j + 1) 0 = b at *
      have HOK := Lib.hid hok; have HO := Lib.hid ho; have HB := Lib.hid hb; have HK := Lib.hid hk; have HD := Lib.hid hd
      clear hok ho hk hin hd hdd hb
      by_cases hbig : absI d ≥ 9223372036854775808
      · rw [if_pos hbig] at hdr
        have HDR := Lib.hid hdr
        have hbad := okD_bad l (n - 1) j hlt (by unfold okAt; rw [← HD.out, decide_eq_false (by omega)]; rfl)
        have h := HL.out
        unfold diffsR at h
        rw [HN.out, hbad, if_neg (by decide)] at h
        injection h with h1 h; injection h with h2 h; injection h with h3 h; injection h with h4 h5
        subst h1 h2 h3 h4 h5
        clear hbad hdr hbig
        rcases Nat.eq_zero_or_pos j with rfl | hj0
        · rw [Nat.add_zero] at g1 g2
          go_wp2_with fail
          refine (Diff_any _ a b ha hb1 0 false false HDR.out).mono ?_; rintro e w2 ⟨rfl, hb2⟩
          have hk2 : Blk w2 w.heap.size 129 #[.int .u64 0, .bool false] := by have h := (HK.out.below_ hb2); simpa using h
          have hlt2 := hk2.lt
          have c0 : w2.cell? ⟨w.heap.size, 0, none⟩ = some (.int .u64 0) := (hk2.cell 0).trans rfl
          have c1 : w2.cell? ⟨w.heap.size, 1, none⟩ = some (.bool false) := (hk2.cell 1).trans rfl
          have f0' : w2.frozen? ⟨w.heap.size, 0, none⟩ = false := hk2.frozen _
          have f1' : w2.frozen? ⟨w.heap.size, 1, none⟩ = false := hk2.frozen _
          have hne2 : ¬ w2.heap.size = w.heap.size := by omega
          have hne3 : ¬ w.heap.size = w2.heap.size := by omega
          have HB2 := Lib.hid (on HB.out hb2)
          have HO2 := Lib.hid (own_below HO.out hb2)
          have hkF := (((((hk2.set_ 0 (.int .u64 0)).set_ 1 (.bool false)).set_ 0 (.int .u64 0)).set_ 1 (.bool false)).alloc (.cells #[.int .u64 0, .bool false] 129))
          have r0 : _ = some (Value.int .u64 0) := hkF.cell 0
          have r1 : _ = some (Value.bool false) := hkF.cell 1
          go_wp2_with fail
          (try simp only [Exit.inBlock, Exit.then])
          refine bodyPost_ret (by simp [results, Tryz.results119, go_sem, r0, r1]; try rfl) rfl ?_
          exact ⟨none, 0, 0, rfl, Sl.nil _ _, ((((HB2.out.setCell (Nat.le_refl _) _).setCell (Nat.le_refl _) _).setCell (Nat.le_refl _) _).setCell (Nat.le_refl _) _).alloc (by simpa using HB2.out.size) _⟩
        · go_wp2_with fail
          refine (Diff_any _ a b ha hb1 0 false false HDR.out).mono ?_; rintro e w2 ⟨rfl, hb2⟩
          have hk2 : Blk w2 w.heap.size 129 #[.int .u64 (absI (dAt l 0)), .bool (decide (dAt l 0 < 0))] := by have h := (HK.out.below_ hb2); rwa [if_neg (by omega)] at h
          have hlt2 := hk2.lt
          have c0 : w2.cell? ⟨w.heap.size, 0, none⟩ = some (.int .u64 (absI (dAt l 0))) := (hk2.cell 0).trans rfl
          have c1 : w2.cell? ⟨w.heap.size, 1, none⟩ = some (.bool (decide (dAt l 0 < 0))) := (hk2.cell 1).trans rfl
          have f0' : w2.frozen? ⟨w.heap.size, 0, none⟩ = false := hk2.frozen _
          have f1' : w2.frozen? ⟨w.heap.size, 1, none⟩ = false := hk2.frozen _
          have hne2 : ¬ w2.heap.size = w.heap.size := by omega
          have hne3 : ¬ w.heap.size = w2.heap.size := by omega
          have HB2 := Lib.hid (on HB.out hb2)
          have HO2 := Lib.hid (own_below HO.out hb2)
          have hkF := (((hk2.set_ 0 (.int .u64 0)).set_ 1 (.bool false)).alloc (.cells #[.int .u64 0, .bool false] 129))
          have r0 : _ = some (Value.int .u64 0) := hkF.cell 0
          have r1 : _ = some (Value.bool false) := hkF.cell 1
          go_wp2_with fail
          (try simp only [Exit.inBlock, Exit.then])
          refine bodyPost_ret (by simp [results, Tryz.results119, go_sem, r0, r1]; try rfl) rfl ?_
          exact ⟨none, 0, 0, rfl, Sl.nil _ _, ((HB2.out.setCell (Nat.le_refl _) _).setCell (Nat.le_refl _) _).alloc (by simpa using HB2.out.size) _⟩
      · rw [if_neg hbig] at hdr
        have HDR := Lib.hid hdr
        have hs0 : 0 ≤ absI d := by unfold absI; split <;> omega
        have hs1 : absI d < 9223372036854775808 := by omega
        rcases Nat.eq_zero_or_pos j with rfl | hj0
        · rw [Nat.add_zero] at g1 g2
          go_wp2_with fail
          refine (Diff_any _ a b ha hb1 (absI d) (decide (d < 0)) true HDR.out).mono ?_; rintro e w2 ⟨rfl, hb2⟩
          have hk2 : Blk w2 w.heap.size 129 #[.int .u64 0, .bool false] := by have h := (HK.out.below_ hb2); simpa using h
          have hlt2 := hk2.lt
          have c0 : w2.cell? ⟨w.heap.size, 0, none⟩ = some (.int .u64 0) := (hk2.cell 0).trans rfl
          have c1 : w2.cell? ⟨w.heap.size, 1, none⟩ = some (.bool false) := (hk2.cell 1).trans rfl
          have f0' : w2.frozen? ⟨w.heap.size, 0, none⟩ = false := hk2.frozen _
          have f1' : w2.frozen? ⟨w.heap.size, 1, none⟩ = false := hk2.frozen _
          have hne2 : ¬ w2.heap.size = w.heap.size := by omega
          have hne3 : ¬ w.heap.size = w2.heap.size := by omega
          have HB2 := Lib.hid (on HB.out hb2)
          have HO2 := Lib.hid (own_below HO.out hb2)
          clear hbig hdr
          generalize hfl : decide (d < 0) = fl at *
          generalize hsz : absI d = sz at *
          have HSZ := Lib.hid hsz; have HFL := Lib.hid hfl
          have hsd0 : sameD l 0 = true := rfl
          clear hsz hfl
          go_wp2_with (at_builtin; refine wpList_u64 _ rfl _ _ rfl (w.heap.size + 1) _ 0 _ rfl (own_below (ownsRow_setCell_below (ownsRow_setCell_below HO2.out (by simp) _) (by simp) _) (((Below.refl _ _).alloc (Nat.le_refl _) _).alloc (by simp) _)) _ 1 1 [_] rfl (ri_one_at (by simp)) (by omega) (by simp; omega) ?_; intro G c w3 hown hgr hcc)
          all_goals
            have HOWN := Lib.hid hown; clear hown
            have hnew := diffs_grown rfl (((HB2.out.setCell (Nat.le_refl _) _).setCell (Nat.le_refl _) _).alloc (by simpa using HB2.out.size) _) (((hk2.set_ 0 (.int .u64 sz)).set_ 1 (.bool fl)).alloc _) (own_below (ownsRow_setCell_below (ownsRow_setCell_below HO2.out (by simp) _) (by simp) _) ((Below.refl _ _).alloc (Nat.le_refl _) _)) hgr
            have HNEW := Lib.hid hnew; clear hnew
            go_wp2_with fail
            go_roundw
            case rel =>
              refine ⟨1, by omega, by go_num, by rw [sameD_snoc]; simp [sameD], ?_, ?_, HNEW.out.1, ?_⟩
              · rw [okD_snoc]
                unfold okAt
                rw [← HD.out, HSZ.out, decide_eq_true hs1]
                simp [okD]
              · have h := HOWN.out
                rw [← HSZ.out, HD.out, ← dsz_snoc] at h
                exact h
              · have h := HNEW.out.2
                rw [if_neg (by omega), ← HD.out, HSZ.out, HFL.out]
                exact h
            case measure => simp [intOf] <;> omega
        · have hokn := okD_snoc l j
          have hsm := sameD_snoc l j
          have hbad := okD_bad l (n - 1) j hlt
          unfold okAt at hokn hbad
          rw [HOK.out, Bool.true_and] at hokn
          rw [← HD.out] at hokn hsm hbad
          have hT0 : 0 ≤ absI (dAt l 0) := by unfold absI; split <;> omega
          go_wp2_with fail
          refine (Diff_any _ a b ha hb1 (absI d) (decide (d < 0)) true HDR.out).mono ?_; rintro e w2 ⟨rfl, hb2⟩
          have hk2 : Blk w2 w.heap.size 129 #[.int .u64 (absI (dAt l 0)), .bool (decide (dAt l 0 < 0))] := by have h := (HK.out.below_ hb2); rwa [if_neg (by omega)] at h
          have hlt2 := hk2.lt
          have c0 : w2.cell? ⟨w.heap.size, 0, none⟩ = some (.int .u64 (absI (dAt l 0))) := (hk2.cell 0).trans rfl
          have c1 : w2.cell? ⟨w.heap.size, 1, none⟩ = some (.bool (decide (dAt l 0 < 0))) := (hk2.cell 1).trans rfl
          have f0' : w2.frozen? ⟨w.heap.size, 0, none⟩ = false := hk2.frozen _
          have f1' : w2.frozen? ⟨w.heap.size, 1, none⟩ = false := hk2.frozen _
          have hne2 : ¬ w2.heap.size = w.heap.size := by omega
          have hne3 : ¬ w.heap.size = w2.heap.size := by omega
          have HB2 := Lib.hid (on HB.out hb2)
          have HO2 := Lib.hid (own_below HO.out hb2)
          generalize hs0e : absI (dAt l 0) = s0 at *
          generalize hf0e : decide (dAt l 0 < 0) = f0 at *
          generalize hfl : decide (d < 0) = fl at *
          have hz0 := absI_zero d
          have hd0 : d = 0 → fl = false := fun h => by rw [← hfl]; simp; omega
          generalize hsz : absI d = sz at *
          have HSM := Lib.hid hsm; have HOKN := Lib.hid hokn; have HBAD := Lib.hid hbad
          have HDA : Hid (dAt l j = d) := HD.out.symm
          have HSZ := Lib.hid hsz; have HS0 := Lib.hid hs0e; have HF0 := Lib.hid hf0e
          clear hsm hokn hbad hdr hbig hs0e hf0e hfl hsz HK HO HB HU HDR
          by_cases hbd : ¬ sz = 0 ∧ ¬ fl = f0
          · obtain ⟨hb3, hb4⟩ := hbd
            have hbad := HBAD.out (by rw [decide_eq_true hs1, decide_eq_false (fun h => hb3 (hz0.2 h))]; cases fl <;> cases f0 <;> simp at hb4 ⊢)
            have h := HL.out
            unfold diffsR at h
            rw [HN.out, hbad, if_neg (by decide)] at h
            injection h with h1 h; injection h with h2 h; injection h with h3 h; injection h with h4 h5
            subst h1 h2 h3 h4 h5
            have hpos : 0 < sz := by omega
            have hkF := (((hk2.set_ 0 (.int .u64 0)).set_ 1 (.bool false)).alloc (.cells #[.int .u64 sz, .bool fl] 129))
            have r0 : _ = some (Value.int .u64 0) := hkF.cell 0
            have r1 : _ = some (Value.bool false) := hkF.cell 1
            clear hbad HBAD HOKN hz0 hd0 hb3
            cases fl <;> cases f0
            · exact absurd rfl hb4
            · clear hb4
              go_wp2_with fail
              (try simp only [Exit.inBlock, Exit.then])
              refine bodyPost_ret (by simp [results, Tryz.results119, go_sem, r0, r1]; try rfl) rfl ?_
              exact ⟨none, 0, 0, rfl, Sl.nil _ _, ((HB2.out.setCell (Nat.le_refl _) _).setCell (Nat.le_refl _) _).alloc (by simpa using HB2.out.size) _⟩
            · clear hb4
              go_wp2_with fail
              (try simp only [Exit.inBlock, Exit.then])
              refine bodyPost_ret (by simp [results, Tryz.results119, go_sem, r0, r1]; try rfl) rfl ?_
              exact ⟨none, 0, 0, rfl, Sl.nil _ _, ((HB2.out.setCell (Nat.le_refl _) _).setCell (Nat.le_refl _) _).alloc (by simpa using HB2.out.size) _⟩
            · exact absurd rfl hb4
          · have hok1 : Hid (okD l (j + 1) = true) := by
              show okD l (j + 1) = true
              rw [HOKN.out, decide_eq_true hs1]
              by_cases h : sz = 0
              · rw [decide_eq_true (hz0.1 h)]; rfl
              · have : fl = f0 := by
                  cases fl <;> cases f0 <;> first | rfl | (exfalso; exact hbd ⟨h, by decide⟩)
                rw [this]; simp
            have hcase : (sz = 0 ∧ fl = false) ∨ (0 < sz ∧ fl = f0) := by
              by_cases h : sz = 0
              · exact .inl ⟨h, hd0 (hz0.1 h)⟩
              · refine .inr ⟨by omega, ?_⟩
                cases fl <;> cases f0 <;> first | rfl | (exfalso; exact hbd ⟨h, by decide⟩)
            clear HBAD HOKN hz0 hd0 hbd
            have hsj : ∃ sj, sj = sameD l j := ⟨_, rfl⟩
            obtain ⟨sj, hsj⟩ := hsj
            rw [← hsj]
            have HSJ := Lib.hid hsj
            clear hsj
            have hsplit : (sz = 0 ∧ fl = false ∧ s0 = 0) ∨ (sz = 0 ∧ fl = false ∧ 0 < s0 ∧ ¬ s0 = 0) ∨ (0 < sz ∧ fl = f0 ∧ s0 = sz) ∨ (0 < sz ∧ fl = f0 ∧ ¬ s0 = sz ∧ ¬ sz = s0 ∧ ¬ sz = 0) := by
              rcases hcase with ⟨h1, h2⟩ | ⟨h1, h2⟩
              · by_cases h : s0 = 0
                · exact .inl ⟨h1, h2, h⟩
                · exact .inr (.inl ⟨h1, h2, by omega, h⟩)
              · by_cases h : s0 = sz
                · exact .inr (.inr (.inl ⟨h1, h2, h⟩))
                · exact .inr (.inr (.inr ⟨h1, h2, h, fun h' => h h'.symm, by omega⟩))
            clear hcase
            rcases hsplit with ⟨rfl, rfl, rfl⟩ | ⟨rfl, rfl, hp, hne⟩ | ⟨hp, rfl, rfl⟩ | ⟨hp, rfl, hne, hne', hnz⟩
            all_goals
              cases sj
              all_goals
                go_wp2_with (at_builtin; refine wpList_u64 _ rfl _ _ rfl (w.heap.size + 1) _ j _ rfl (own_below HO2.out (((Below.refl _ _).alloc (Nat.le_refl _) _).alloc (by simp) _)) _ 1 1 [_] rfl (ri_one_at (by simp)) (by omega) (by simp; omega) ?_; intro G c w3 hown hgr hcc)
                all_goals
                  have HOWN := Lib.hid hown; clear hown
                  have hnew := diffs_grown rfl (HB2.out.alloc (by simpa using HB2.out.size) _) (hk2.alloc _) (own_below HO2.out ((Below.refl _ _).alloc (Nat.le_refl _) _)) hgr
                  have HNEW := Lib.hid hnew; clear hnew
                  go_wp2_with fail
                  go_roundw
                  case rel =>
                    refine ⟨j + 1, by omega, by go_num, ?_, hok1.out, ?_, HNEW.out.1, ?_⟩
                    · rw [HSM.out, ← HSJ.out]
                      first | rfl | (refine congrArg Value.bool ?_; rw [Bool.eq_iff_iff]; simp; omega) | (simp; omega) | (simp [hne']) | (simp [fun h => hne (Eq.symm h)])
                    · have h := HOWN.out
                      rw [← HSZ.out, ← HDA.out, ← dsz_snoc] at h
                      exact h
                    · have h := HNEW.out.2
                      rw [if_neg (by omega), HS0.out, HF0.out]
                      exact h
                  case measure => simp [intOf] <;> omega
    · obtain rfl : j = n - 1 := by omega
      obtain ⟨hok, ho, hb, hk⟩ := hin.out
      rw [if_neg (by omega)] at hk
      have h := HL.out
      unfold diffsR at h
      rw [HN.out, hok, if_pos rfl] at h
      injection h with h1 h; injection h with h2 h; injection h with h3 h; injection h with h4 h5
      subst h1 h2 h3 h4 h5
      rcases ho.2 with ⟨_, h0⟩ | ⟨g, cg, cur, rfl, hh⟩
      · omega
      · have hcg := own_cap ho
        have hgg := (ho.lt g rfl).1
        have HS := Lib.hid (Sl.of_own ho); have HB := Lib.hid hb
        clear hh ho hin hok
        generalize absI (dAt l 0) = s0 at *
        generalize decide (dAt l 0 < 0) = f0 at *
        have c0 : wr.cell? ⟨w.heap.size, 0, none⟩ = some (.int .u64 s0) := (hk.cell 0).trans rfl
        have c1 : wr.cell? ⟨w.heap.size, 1, none⟩ = some (.bool f0) := (hk.cell 1).trans rfl
        have f0' : wr.frozen? ⟨w.heap.size, 0, none⟩ = false := hk.frozen _
        have f1' : wr.frozen? ⟨w.heap.size, 1, none⟩ = false := hk.frozen _
        have hkF := ((hk.set_ 0 (.int .u64 s0)).set_ 1 (.bool f0)).drew
        have r0 : _ = some (Value.int .u64 s0) := hkF.cell 0
        have r1 : _ = some (Value.bool f0) := hkF.cell 1
        have hcg1 : 1 ≤ cg := by omega
        have HSr := Lib.hid (HS.out.1.restIf (i := 1) (by omega) hcg.1)
        have HKF := Lib.hid hkF
        clear hkF
        by_cases hc1 : cg = 1
        · subst hc1
          rw [if_pos rfl] at HSr
          have HSr' : Hid (Ri wr .u64 (some ⟨g, 0, none⟩) 0 ((dsz l (n - 1)).drop 1)) := by
            have h := HSr.out
            rw [show n - 1 - 1 = 0 from by omega] at h
            exact h
          go_wp2_with fail
          go_region
          all_goals
            go_wp2_with fail
            (try simp only [Exit.inBlock, Exit.then])
            refine bodyPost_ret (by simp [results, Tryz.results119, go_sem, r0, r1]; try rfl) rfl ?_
            exact ⟨_, _, _, rfl, ⟨((HSr'.out).setCell (fun b o h => by injection h with h; injection h with h1 h2; subst h1; show w.heap.size ≠ g; omega) _).setCell (fun b o h => by injection h with h; injection h with h1 h2; subst h1; show w.heap.size ≠ g; omega) _, by omega, by omega⟩, ((HB.out.setCell (Nat.le_refl _) _).setCell (Nat.le_refl _) _).drew⟩
        · rw [if_neg hc1] at HSr
          go_wp2_with fail
          go_region
          all_goals
            go_wp2_with fail
            (try simp only [Exit.inBlock, Exit.then])
            refine bodyPost_ret (by simp [results, Tryz.results119, go_sem, r0, r1]; try rfl) rfl ?_
            exact ⟨_, _, _, rfl, ⟨((HSr.out).setCell (fun b o h => by injection h with h; injection h with h1 h2; subst h1; show w.heap.size ≠ g; omega) _).setCell (fun b o h => by injection h with h; injection h with h1 h2; subst h1; show w.heap.size ≠ g; omega) _, by omega, by omega⟩, ((HB.out.setCell (Nat.le_refl _) _).setCell (Nat.le_refl _) _).drew⟩
end Go.Proofs.YtbmooemlekckbaaGreatDoor

/- The closure that takes bits. -/
namespace Go.Proofs.YtbmooemlekckbaaGreatDoor
open Go.RowKit

set_option maxRecDepth 100000 in
set_option maxHeartbeats 1000000 in
theorem take3_any (w : World) (ba bb N p left F : Nat) (A : Option Addr) (n cap : Nat) (l : List Int) (hat : Blk w ba 3 #[.int .i64 p]) (hbb : Blk w bb 25 #[.slice A n cap]) (hr : Ri w .u8 A n l) (hF : bytesOf F N = l.take N)
    (hp : p < 8 * N) (hN : N ≤ n) (hn : n ≤ 1000000) (hl1 : 1 ≤ left) (hl2 : left ≤ 64) (m : Nat) (hm : m = min left (8 - p % 8)) (hm2 : p + m ≤ 8 * N) :
    Calls Tryz.prog 153 #[.int .i64 left, .pointer (some ⟨ba, 0, none⟩), .pointer (some ⟨bb, 0, none⟩)] w
      fun e w' => e = .returned (.tuple #[.int .u64 (bitsV F (8 * N) p m), .int .i64 m]) ∧ ∃ nq, w' = (w.setCell ⟨ba, 0, none⟩ (.int .i64 (p + m))).drewN nq := by
  have c1 : w.cell? ⟨ba, 0, none⟩ = some (.int .i64 p) := by rw [hat.cell]; rfl
  have c2 : w.cell? ⟨bb, 0, none⟩ = some (.slice A n cap) := by rw [hbb.cell]; rfl
  have f1 := hat.frozen 0
  obtain ⟨b, o, hA, hbl, hcell⟩ := hr.at_ (j := p / 8) (by omega)
  subst hA
  obtain ⟨y, hy, hyF⟩ : ∃ y : Nat, (y : Int) = l.getD (p / 8) 0 ∧ y = byteAt F N (p / 8) := by
    refine ⟨_, ?_, rfl⟩
    have h1 := congrArg (fun q => q[p / 8]?) hF
    rw [bytesOf_get _ _ _ (by omega), List.getElem?_take_of_lt (by omega)] at h1
    simp only [List.getD]
    rw [← h1]; rfl
  rw [← hy] at hcell
  have hy8 : y < 256 := by rw [hyF]; exact byteAt_lt _ _ _
  have hbits := bits_byte F N p m hm2 (by omega) (by omega)
  rw [← hyF] at hbits
  have hres : Hid ((y : Int) * 2 ^ (p % 8) % 256 / 2 ^ (8 - m) = (bitsV F (8 * N) p m : Nat)) := by
    show _ = _
    rw [cast_shl, cast_shr, hbits]
  have hrg : 0 ≤ (y : Int) * 2 ^ (p % 8) % 256 / 2 ^ (8 - m) ∧ (y : Int) * 2 ^ (p % 8) % 256 / 2 ^ (8 - m) < 256 := by
    rw [hres.out]
    have h1 := bitsV_lt F (8 * N) p m
    have h2 : 2 ^ m ≤ 2 ^ 8 := Nat.pow_le_pow_right (by omega) (by omega)
    omega
  clear hyF hbits hF hy hr hbb hat
  rcases Nat.lt_or_ge (8 - p % 8) left with h | h
  · have hmi : (8 : Int) - (p : Int) % 8 = (m : Int) := by omega
    clear hm
    go_enter Tryz.func153, Tryz.ntmps153
    go_wp2_with fail
    go_quiet (fail)
    go_wp2_with fail
    go_ret2
    exact ⟨congrArg (fun v => Ending.returned (.tuple #[.int .u64 v, .int .i64 m])) hres.out, nq, rfl⟩
  · obtain rfl : m = left := by omega
    clear hm
    go_enter Tryz.func153, Tryz.ntmps153
    go_wp2_with fail
    go_quiet (fail)
    go_wp2_with fail
    go_ret2
    exact ⟨congrArg (fun v => Ending.returned (.tuple #[.int .u64 v, .int .i64 m])) hres.out, nq, rfl⟩
end Go.Proofs.YtbmooemlekckbaaGreatDoor

/- Words for rows that a call makes anew. -/
namespace Go.Proofs.YtbmooemlekckbaaGreatDoor
open Go.RowKit

/-- Bytes in a new block are handed back. -/
def BytesFresh (w : World) (l : List Int) (e : Ending) (w' : World) : Prop :=
  ∃ G n c, e = .returned (.slice G n c) ∧ Sl w' .u8 G n c l ∧ Below w.heap.size w w' ∧ ∀ g o, G = some ⟨g, o, none⟩ → w.heap.size ≤ g
theorem own_mono {w : World} {B B' s n : Nat} {e : TypeId} {v : Value} {xs : List Value} (h : w.ownsRow B e s v n xs) (hB : B' ≤ B) : w.ownsRow B' e s v n xs :=
  ⟨h.1, h.2.imp id fun ⟨g, cap, cur, e1, e2, r⟩ => ⟨g, cap, cur, e1, Nat.le_trans hB e2, r⟩⟩
/-- Two rows of the call's own are handed back: numbers, bytes, and the error. -/
def UnpackNew (w : World) (l1 l2 : List Int) (er : Int) (e : Ending) (w' : World) : Prop :=
  ∃ G n c G2 n2 c2, e = .returned (.tuple #[.slice G n c, .slice G2 n2 c2, .int .i64 er]) ∧ Sl w' .u64 G n c l1 ∧ Sl w' .u8 G2 n2 c2 l2 ∧ Below w.heap.size w w' ∧
    w'.ownsRow w.heap.size 94 1 (.slice G n c) n (l1.map (Value.int .u64)) ∧ ∀ g o, G2 = some ⟨g, o, none⟩ → w.heap.size ≤ g
theorem UnpackNew.nil {w w' : World} {er : Int} (h : Below w.heap.size w w') : UnpackNew w [] [] er (.returned (.tuple #[.slice none 0 0, .slice none 0 0, .int .i64 er])) w' :=
  ⟨none, 0, 0, none, 0, 0, rfl, Sl.nil _ _, Sl.nil _ _, h, World.ownsRow_nil _ _ _ _, fun _ _ h => by cases h⟩
end Go.Proofs.YtbmooemlekckbaaGreatDoor

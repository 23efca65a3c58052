/- Joined texts: GlA. Each has its own head line. No condition beyond those that its theorems state. -/
import Derived.BigQuiet
import Derived.Deep.DeepCutAuto
import Derived.Test.YtmejoococajikaaJ08
import Derived.Test.YtmejoococajikaaJ11
set_option linter.unusedVariables false

/- Rle: how many numbers are as the first one. -/
namespace Go.Proofs.Ytmejoococajikaa
open Go.RowKit

def sameL (l : List Int) : Nat := l.findIdx fun y => decide (y ≠ l.getD 0 0)
theorem sameL_le (l : List Int) : sameL l ≤ l.length := List.findIdx_le_length
theorem sameL_all (l : List Int) (q : Nat) (h : q < sameL l) : l.getD q 0 = l.getD 0 0 := by
  have h1 := List.not_of_lt_findIdx h
  have h2 : q < l.length := Nat.lt_of_lt_of_le h (sameL_le l)
  have e : l.getD q 0 = l[q] := by simp only [List.getD, List.getElem?_eq_getElem h2, Option.getD_some]
  rw [e]
  exact Decidable.not_not.1 (fun h3 => by rw [decide_eq_true h3] at h1; cases h1)
theorem sameL_end (l : List Int) (h : sameL l < l.length) : l.getD (sameL l) 0 ≠ l.getD 0 0 := by
  have h1 := List.findIdx_getElem (p := fun y => decide (y ≠ l.getD 0 0)) (xs := l) (w := h)
  rw [decide_eq_true_eq] at h1
  have e : l.getD (sameL l) 0 = l[sameL l] := by simp only [List.getD, List.getElem?_eq_getElem h, Option.getD_some]
  rw [e]; exact h1
theorem sameL_eq (l : List Int) (j : Nat) (hj : j ≤ l.length) (ha : ∀ q, q < j → l.getD q 0 = l.getD 0 0) (he : j = l.length ∨ l.getD j 0 ≠ l.getD 0 0) : sameL l = j := by
  have h1 := sameL_le l
  rcases Nat.lt_trichotomy (sameL l) j with h | h | h
  · exact absurd (ha _ h) (sameL_end l (by omega))
  · exact h
  · rcases he with he | he
    · omega
    · exact absurd (sameL_all l j h) he
theorem sameL_pos (l : List Int) (h : 1 ≤ l.length) : 1 ≤ sameL l := by
  rcases Nat.eq_zero_or_pos (sameL l) with h1 | h1
  · have := sameL_end l (by omega)
    rw [h1] at this
    exact absurd rfl this
  · exact h1

set_option maxHeartbeats 400000 in
theorem sameFn_any (w : World) (y x0 : Int) (h b o n cap : Nat) (hn : 1 ≤ n) (hh : w.cell? ⟨h, 0, none⟩ = some (.slice (some ⟨b, o, none⟩) n cap)) (h0 : w.cell? ⟨b, o, none⟩ = some (.int .i64 x0)) :
    Calls Try.prog 88 #[.int .i64 y, .pointer (some ⟨h, 0, none⟩)] w fun e w' => e = .returned (.bool (decide (y ≠ x0))) ∧ Below w.heap.size w w' := by
  have hn0 : (0 : Int) < (n : Int) := by omega
  go_enter Try.func88, Try.ntmps88
  go_wp2_with fail
  go_ret
  refine ⟨?_, Below.refl _ _⟩
  by_cases h1 : y = x0 <;> simp [h1]

def idxL (l : List Int) (n : Nat) : Int := if sameL l < n then (sameL l : Int) else -1
def sameFn (h : Nat) : Value := .func (.func 88) #[] #[.pointer (some ⟨h, 0, none⟩)]
set_option maxRecDepth 100000 in
set_option maxHeartbeats 1000000 in
theorem indexSame_any (w : World) (A : Option Addr) (n cap : Nat) (l : List Int) (hr : Ri w .i64 A n l) (hn : n ≤ 1000000) (h : Nat) (hh : w.cell? ⟨h, 0, none⟩ = some (.slice A n cap)) (hlt : h < w.heap.size) :
    Calls Try.prog 87 #[.slice A n cap, sameFn h] w fun e w' => e = .returned (.int .i64 (idxL l n)) ∧ Below w.heap.size w w' := by
  have HR := Lib.hid hr; have HN := Lib.hid hr.len
  have HH := Lib.hid hh
  clear hr hh
  unfold sameFn
  go_enter Try.func87, Try.ntmps87
  go_wp2_with fail
  go_loopw [8] (fun i wr => ∃ j : Nat, j ≤ n ∧ i = .int .i64 j ∧ Hid (∀ q, q < j → l.getD q 0 = l.getD 0 0) ∧ Hid (Below w.heap.size w wr)) (fun i _ => n - (intOf i).toNat)
  case atStart => exact ⟨0, by omega, rfl, Lib.hid (fun q h => absurd h (by omega)), Below.refl _ _⟩
  case round =>
    obtain ⟨j, hj, rfl, hz, hb⟩ := hrel
    by_cases hlt2 : j < n
    · obtain ⟨b, o, hA, hbl, hc⟩ := HR.out.all (by omega)
      subst hA
      have g1 := (hb.out.cell (p := ⟨b, o + j, none⟩) hbl).trans (hc j hlt2)
      have g0 := (hb.out.cell (p := ⟨b, o + 0, none⟩) hbl).trans (hc 0 (by omega))
      rw [Nat.add_zero] at g0
      have gh := (hb.out.cell (p := ⟨h, 0, none⟩) hlt).trans HH.out
      have G0 := Lib.hid g0; have GH := Lib.hid gh
      obtain ⟨y, hy⟩ : ∃ y, y = l.getD j 0 := ⟨_, rfl⟩
      obtain ⟨x0, hx⟩ : ∃ x, x = l.getD 0 0 := ⟨_, rfl⟩
      rw [← hy] at g1; rw [← hx] at G0
      have HY := Lib.hid hy; have HX := Lib.hid hx
      clear hc g0 gh hy hx
      go_wp2_with fail
      refine (sameFn_any _ y x0 h b o n cap (by omega) GH.out G0.out).mono ?_; rintro e w2 ⟨rfl, hb2⟩
      have HW2 := Lib.hid (on hb.out hb2)
      clear hb2
      by_cases hyx : y = x0
      · have HE := Lib.hid hyx
        rw [decide_eq_false (by simp [hyx])]
        clear hyx
        go_wp2_with fail
        go_roundw
        case rel =>
          refine ⟨j + 1, by omega, by go_num, Lib.hid (fun q h1 => ?_), HW2⟩
          rcases Nat.lt_or_ge q j with h3 | h3
          · exact hz.out q h3
          · obtain rfl : q = j := by omega
            rw [← HY.out, ← HX.out]; exact HE.out
        case measure => simp [intOf] <;> omega
      · have HE := Lib.hid hyx
        rw [decide_eq_true hyx]
        clear hyx
        go_wp2_with fail
        go_ret
        have hs := sameL_eq l j (by rw [HN.out]; omega) hz.out (.inr (by rw [← HY.out, ← HX.out]; exact HE.out))
        have hi : idxL l n = (j : Int) := by unfold idxL; rw [hs, if_pos hlt2]
        rw [hi]
        exact ⟨rfl, HW2.out⟩
    · obtain rfl : j = n := by omega
      go_wp2_with fail
      go_ret
      have hs := sameL_eq l j (by rw [HN.out]; omega) hz.out (.inl HN.out.symm)
      have hi : idxL l j = -1 := by unfold idxL; rw [hs, if_neg (by omega)]
      rw [hi]
      exact ⟨rfl, hb.out⟩

set_option maxRecDepth 100000 in
set_option maxHeartbeats 400000 in
theorem sameN_any (w : World) (A : Option Addr) (n cap : Nat) (l : List Int) (hr : Ri w .i64 A n l) (hn : n ≤ 1000000) :
    Calls Try.prog 64 #[.slice A n cap] w fun e w' => e = .returned (.int .i64 (sameL l)) ∧ Below w.heap.size w w' := by
  have HR := Lib.hid hr; have HN := Lib.hid hr.len
  have hle := sameL_le l
  rw [HN.out] at hle
  clear hr
  have hx := fun o => indexSame_any (w.alloc o) A n cap l (HR.out.alloc _) hn w.heap.size
  have HX := Lib.hid hx
  clear hx
  have hi : idxL l n = if sameL l < n then (sameL l : Int) else -1 := rfl
  generalize idxL l n = ix at *
  generalize sameL l = m at *
  go_enter Try.func64, Try.ntmps64
  go_wp2_with fail
  refine (HX.out _ (by simp) (by simp)).mono ?_; rintro e w2 ⟨rfl, hb2⟩
  have hb := on ((Below.refl w.heap.size w).alloc (Nat.le_refl _) _) hb2
  have c0 : w2.cell? ⟨w.heap.size, 0, none⟩ = some (.slice A n cap) := (hb2.cell (by simp)).trans (by simp)
  have HB := Lib.hid hb
  clear hb2 hb
  by_cases hm : m < n
  · rw [if_pos hm] at hi
    subst hi
    go_wp2_with fail
    go_ret
    exact ⟨rfl, HB.out⟩
  · obtain rfl : m = n := by omega
    rw [if_neg hm] at hi
    subst hi
    go_wp2_with fail
    go_ret
    exact ⟨rfl, HB.out⟩

/-- A number that stands as often as there are numbers. -/
def timesR (l : List Int) (s : Bool) : List Int × Int := if sameL l = l.length then putR (l.getD 0 0) l.length s else ([], 1)
set_option maxRecDepth 100000 in
set_option maxHeartbeats 400000 in
theorem times_any (w : World) (A : Option Addr) (n cap : Nat) (l : List Int) (hr : Ri w .i64 A n l) (hu : I64 l) (hn : n ≤ 1000000) (h1 : 1 ≤ n) (s : Bool) (r : List Int) (er : Int) (hl : timesR l s = (r, er)) :
    Calls Try.prog 89 #[.slice A n cap, .bool s] w (BytesErr w r er) := by
  have HR := Lib.hid hr; have HN := Lib.hid hr.len
  have hle := sameL_le l
  have hx0 := getD_i64x hu 0
  unfold timesR at hl
  rw [HN.out] at hl hle
  have HX0 := Lib.hid hx0
  clear hr hx0
  go_enter Try.func89, Try.ntmps89
  go_wp2_with fail
  refine (sameN_any w A n cap l HR.out hn).mono ?_; rintro e w2 ⟨rfl, hb2⟩
  have HB := Lib.hid hb2
  by_cases hm : sameL l = n
  · rw [if_pos hm] at hl
    have HL := Lib.hid hl
    rw [hm]
    obtain ⟨b, o, hA, hbl, hc⟩ := HR.out.all (by omega)
    subst hA
    have g0 := (hb2.cell (p := ⟨b, o + 0, none⟩) hbl).trans (hc 0 (by omega))
    rw [Nat.add_zero] at g0
    clear hl hm hle hc hb2
    generalize l.getD 0 0 = x at *
    go_wp2_with fail
    refine (Put_any x n s _ HX0.out.1 HX0.out.2 r er HL.out).mono ?_; rintro e w3 ⟨G, n3, c3, rfl, hs3, hb3⟩
    go_wp2_with fail
    go_ret2
    exact ⟨_, _, _, rfl, hs3, on HB.out hb3⟩
  · rw [if_neg hm] at hl
    injection hl with e1 e2
    subst e1 e2
    have hm2 : ¬ ((sameL l : Int) = (n : Int)) := by omega
    have hm3 : ((sameL l : Int) != (n : Int)) = true := by simp [hm2]
    clear hm hb2
    generalize sameL l = m at *
    go_wp2_with fail
    go_ret2
    exact ⟨none, 0, 0, rfl, Sl.nil _ _, HB.out⟩

end Go.Proofs.Ytmejoococajikaa

/- Joined texts: Min, GlA, Take3, GlCut, FreshU. Each has its own head line. No condition beyond those that its theorems state. -/
import Derived.BigQuiet
import Derived.Deep.DeepCutAuto
import Derived.Test.YtmejoococajikaaGreatJ09
import Derived.Test.YtmejoococajikaaGreatJ02
import Derived.Test.YtmejoococajikaaGreatJ12
import Derived.Test.YtmejoococajikaaGreatJ13
set_option linter.unusedVariables false

/- slices.Min. -/
namespace Go.Proofs.YtmejoococajikaaGreat
open Go.RowKit

def minL (l : List Int) : Int := l.foldl min (l.getD 0 0)
theorem minL_snoc (l : List Int) (j : Nat) (h : j < l.length) (a : Int) : (l.take (j + 1)).foldl min a = min ((l.take j).foldl min a) (l.getD j 0) := by
  rw [take_snoc l j h, List.foldl_append]; rfl
theorem minL_le (l : List Int) (a : Int) : l.foldl min a ≤ a ∧ ∀ y ∈ l, l.foldl min a ≤ y := by
  induction l generalizing a with
  | nil => exact ⟨Int.le_refl _, fun y hy => by cases hy⟩
  | cons b t ih =>
    obtain ⟨h1, h2⟩ := ih (min a b)
    rw [List.foldl_cons]
    refine ⟨by omega, fun y hy => ?_⟩
    rcases List.mem_cons.1 hy with rfl | hy
    · omega
    · exact h2 y hy
theorem minL_mem (l : List Int) (a : Int) : l.foldl min a = a ∨ l.foldl min a ∈ l := by
  induction l generalizing a with
  | nil => exact .inl rfl
  | cons b t ih =>
    rw [List.foldl_cons]
    rcases ih (min a b) with h | h
    · rw [h]
      by_cases hab : a ≤ b
      · left; omega
      · right; rw [show min a b = b from by omega]; exact List.mem_cons_self
    · right; exact List.mem_cons_of_mem _ h
theorem minL_neg (l : List Int) (h : 0 < l.length) : (minL l < 0) ↔ l.any (fun x => decide (x < 0)) = true := by
  unfold minL
  rw [List.any_eq_true]
  constructor
  · intro h1
    rcases minL_mem l (l.getD 0 0) with h2 | h2
    · rw [h2] at h1
      exact ⟨_, getD_mem l 0 h, by simpa using h1⟩
    · exact ⟨_, h2, by simpa using h1⟩
  · rintro ⟨x, hx, h1⟩
    have := (minL_le l (l.getD 0 0)).2 x hx
    simp at h1
    omega
theorem getD_i64x {l : List Int} (h : I64 l) (i : Nat) : I64x (l.getD i 0) := by
  unfold I64x
  rcases Nat.lt_or_ge i l.length with h1 | h1
  · exact h _ (by simp [List.getD, List.getElem?_eq_getElem h1])
  · simp [List.getD, List.getElem?_eq_none h1]

set_option maxRecDepth 100000 in
set_option maxHeartbeats 1000000 in
theorem Min_any (w : World) (A : Option Addr) (n cap : Nat) (l : List Int) (hr : Ri w .i64 A n l) (hn : n ≤ 1000000) (h1 : 1 ≤ n) :
    Calls Tryz.prog 54 #[.slice A n cap] w fun e w' => e = .returned (.int .i64 (minL l)) ∧ w = w' := by
  have HR := Lib.hid hr; have HN := Lib.hid hr.len
  clear hr
  obtain ⟨bb, oo, rfl, hbl, hcells⟩ := HR.out.all (by omega)
  have HC := Lib.hid hcells; clear hcells
  have h0 := HC.out 0 (by omega)
  rw [Nat.add_zero] at h0
  obtain ⟨a, ha⟩ : ∃ a, a = l.getD 0 0 := ⟨_, rfl⟩
  rw [← ha] at h0
  have HA := Lib.hid ha; clear ha
  go_enter Tryz.func54, Tryz.ntmps54
  go_wp2_with fail
  go_loopw [3, 4] (fun m i wr => ∃ (j : Nat) (z : Int), 1 ≤ j ∧ j ≤ n ∧ i = .int .i64 j ∧ Hid (wr = w) ∧ m = .int .i64 z ∧ Hid (z = (l.take j).foldl min a)) (fun _ i _ => n - (intOf i).toNat)
  case atStart => exact ⟨1, a, by omega, h1, rfl, Lib.hid rfl, rfl, Lib.hid (by cases l with | nil => have := HN.out; simp at this; omega | cons x t => have := HA.out; simp at this; subst this; simp)⟩
  case round =>
    obtain ⟨j, z, hj1, hj, rfl, hw, rfl, hz⟩ := hrel
    obtain rfl := hw.out
    by_cases hlt : j < n
    · have hc := HC.out j hlt
      have hs := Lib.hid (minL_snoc l j (by rw [HN.out]; exact hlt) a)
      generalize l.getD j 0 = x at hc hs
      clear h0
      go_wp2_with fail
      all_goals
        go_roundw
        case rel =>
          refine ⟨j + 1, _, by omega, by omega, by go_num, Lib.hid trivial, rfl, Lib.hid ?_⟩
          rw [hs.out, ← hz.out]
          omega
        case measure => simp [intOf] <;> omega
    · obtain rfl : j = n := by omega
      go_wp2_with fail
      go_ret
      have h := hz.out
      rw [List.take_of_length_le (by rw [HN.out]; exact Nat.le_refl _), HA.out] at h
      exact ⟨by rw [h]; rfl, rfl⟩
end Go.Proofs.YtmejoococajikaaGreat

/- Rle: how many numbers are as the first one. -/
namespace Go.Proofs.YtmejoococajikaaGreat
open Go.RowKit

def sameL (l : List Int) : Nat := l.findIdx fun y => decide (y ≠ l.getD 0 0)
theorem sameL_le (l : List Int) : sameL l ≤ l.length := List.findIdx_le_length
theorem sameL_all (l : List Int) (q : Nat) (h : q < sameL l) : l.getD q 0 = l.getD 0 0 := by
  have h1 := List.not_of_lt_findIdx h
  have h2 : q < l.length := Nat.lt_of_lt_of_le h (sameL_le l)
  have e : l.getD q 0 = l[q] := by simp only [List.getD, List.getElem?_eq_getElem h2, Option.getD_some]
  rw [e]
  exact Decidable.not_not.1 (fun h3 => by rw [decide_eq_true h3] at h1; cases h1)
theorem sameL_end (l : List Int) (h : sameL l < l.length) : l.getD (sameL l) 0 ≠ l.getD 0 0 := by
  have h1 := List.findIdx_getElem (p := fun y => decide (y ≠ l.getD 0 0)) (xs := l) (w := h)
  rw [decide_eq_true_eq] at h1
  have e : l.getD (sameL l) 0 = l[sameL l] := by simp only [List.getD, List.getElem?_eq_getElem h, Option.getD_some]
  rw [e]; exact h1
theorem sameL_eq (l : List Int) (j : Nat) (hj : j ≤ l.length) (ha : ∀ q, q < j → l.getD q 0 = l.getD 0 0) (he : j = l.length ∨ l.getD j 0 ≠ l.getD 0 0) : sameL l = j := by
  have h1 := sameL_le l
  rcases Nat.lt_trichotomy (sameL l) j with h | h | h
  · exact absurd (ha _ h) (sameL_end l (by omega))
  · exact h
  · rcases he with he | he
    · omega
    · exact absurd (sameL_all l j h) he
theorem sameL_pos (l : List Int) (h : 1 ≤ l.length) : 1 ≤ sameL l := by
  rcases Nat.eq_zero_or_pos (sameL l) with h1 | h1
  · have := sameL_end l (by omega)
    rw [h1] at this
    exact absurd rfl this
  · exact h1

set_option maxHeartbeats 400000 in
theorem sameFn_any (w : World) (y x0 : Int) (h b o n cap : Nat) (hn : 1 ≤ n) (hh : w.cell? ⟨h, 0, none⟩ = some (.slice (some ⟨b, o, none⟩) n cap)) (h0 : w.cell? ⟨b, o, none⟩ = some (.int .i64 x0)) :
    Calls Tryz.prog 78 #[.int .i64 y, .pointer (some ⟨h, 0, none⟩)] w fun e w' => e = .returned (.bool (decide (y ≠ x0))) ∧ Below w.heap.size w w' := by
  have hn0 : (0 : Int) < (n : Int) := by omega
  go_enter Tryz.func78, Tryz.ntmps78
  go_wp2_with fail
  go_ret
  refine ⟨?_, Below.refl _ _⟩
  by_cases h1 : y = x0 <;> simp [h1]

def idxL (l : List Int) (n : Nat) : Int := if sameL l < n then (sameL l : Int) else -1
def sameFn (h : Nat) : Value := .func (.func 78) #[] #[.pointer (some ⟨h, 0, none⟩)]
set_option maxRecDepth 100000 in
set_option maxHeartbeats 1000000 in
theorem indexSame_any (w : World) (A : Option Addr) (n cap : Nat) (l : List Int) (hr : Ri w .i64 A n l) (hn : n ≤ 1000000) (h : Nat) (hh : w.cell? ⟨h, 0, none⟩ = some (.slice A n cap)) (hlt : h < w.heap.size) :
    Calls Tryz.prog 77 #[.slice A n cap, sameFn h] w fun e w' => e = .returned (.int .i64 (idxL l n)) ∧ Below w.heap.size w w' := by
  have HR := Lib.hid hr; have HN := Lib.hid hr.len
  have HH := Lib.hid hh
  clear hr hh
  unfold sameFn
  go_enter Tryz.func77, Tryz.ntmps77
  go_wp2_with fail
  go_loopw [8] (fun i wr => ∃ j : Nat, j ≤ n ∧ i = .int .i64 j ∧ Hid (∀ q, q < j → l.getD q 0 = l.getD 0 0) ∧ Hid (Below w.heap.size w wr)) (fun i _ => n - (intOf i).toNat)
  case atStart => exact ⟨0, by omega, rfl, Lib.hid (fun q h => absurd h (by omega)), Below.refl _ _⟩
  case round =>
    obtain ⟨j, hj, rfl, hz, hb⟩ := hrel
    by_cases hlt2 : j < n
    · obtain ⟨b, o, hA, hbl, hc⟩ := HR.out.all (by omega)
      subst hA
      have g1 := (hb.out.cell (p := ⟨b, o + j, none⟩) hbl).trans (hc j hlt2)
      have g0 := (hb.out.cell (p := ⟨b, o + 0, none⟩) hbl).trans (hc 0 (by omega))
      rw [Nat.add_zero] at g0
      have gh := (hb.out.cell (p := ⟨h, 0, none⟩) hlt).trans HH.out
      have G0 := Lib.hid g0; have GH := Lib.hid gh
      obtain ⟨y, hy⟩ : ∃ y, y = l.getD j 0 := ⟨_, rfl⟩
      obtain ⟨x0, hx⟩ : ∃ x, x = l.getD 0 0 := ⟨_, rfl⟩
      rw [← hy] at g1; rw [← hx] at G0
      have HY := Lib.hid hy; have HX := Lib.hid hx
      clear hc g0 gh hy hx
      go_wp2_with fail
      refine (sameFn_any _ y x0 h b o n cap (by omega) GH.out G0.out).mono ?_; rintro e w2 ⟨rfl, hb2⟩
      have HW2 := Lib.hid (on hb.out hb2)
      clear hb2
      by_cases hyx : y = x0
      · have HE := Lib.hid hyx
        rw [decide_eq_false (by simp [hyx])]
        clear hyx
        go_wp2_with fail
        go_roundw
        case rel =>
          refine ⟨j + 1, by omega, by go_num, Lib.hid (fun q h1 => ?_), HW2⟩
          rcases Nat.lt_or_ge q j with h3 | h3
          · exact hz.out q h3
          · obtain rfl : q = j := by omega
            rw [← HY.out, ← HX.out]; exact HE.out
        case measure => simp [intOf] <;> omega
      · have HE := Lib.hid hyx
        rw [decide_eq_true hyx]
        clear hyx
        go_wp2_with fail
        go_ret
        have hs := sameL_eq l j (by rw [HN.out]; omega) hz.out (.inr (by rw [← HY.out, ← HX.out]; exact HE.out))
        have hi : idxL l n = (j : Int) := by unfold idxL; rw [hs, if_pos hlt2]
        rw [hi]
        exact ⟨rfl, HW2.out⟩
    · obtain rfl : j = n := by omega
      go_wp2_with fail
      go_ret
      have hs := sameL_eq l j (by rw [HN.out]; omega) hz.out (.inl HN.out.symm)
      have hi : idxL l j = -1 := by unfold idxL; rw [hs, if_neg (by omega)]
      rw [hi]
      exact ⟨rfl, hb.out⟩

set_option maxRecDepth 100000 in
set_option maxHeartbeats 400000 in
theorem sameN_any (w : World) (A : Option Addr) (n cap : Nat) (l : List Int) (hr : Ri w .i64 A n l) (hn : n ≤ 1000000) :
    Calls Tryz.prog 53 #[.slice A n cap] w fun e w' => e = .returned (.int .i64 (sameL l)) ∧ Below w.heap.size w w' := by
  have HR := Lib.hid hr; have HN := Lib.hid hr.len
  have hle := sameL_le l
  rw [HN.out] at hle
  clear hr
  have hx := fun o => indexSame_any (w.alloc o) A n cap l (HR.out.alloc _) hn w.heap.size
  have HX := Lib.hid hx
  clear hx
  have hi : idxL l n = if sameL l < n then (sameL l : Int) else -1 := rfl
  generalize idxL l n = ix at *
  generalize sameL l = m at *
  go_enter Tryz.func53, Tryz.ntmps53
  go_wp2_with fail
  refine (HX.out _ (by simp) (by simp)).mono ?_; rintro e w2 ⟨rfl, hb2⟩
  have hb := on ((Below.refl w.heap.size w).alloc (Nat.le_refl _) _) hb2
  have c0 : w2.cell? ⟨w.heap.size, 0, none⟩ = some (.slice A n cap) := (hb2.cell (by simp)).trans (by simp)
  have HB := Lib.hid hb
  clear hb2 hb
  by_cases hm : m < n
  · rw [if_pos hm] at hi
    subst hi
    go_wp2_with fail
    go_ret
    exact ⟨rfl, HB.out⟩
  · obtain rfl : m = n := by omega
    rw [if_neg hm] at hi
    subst hi
    go_wp2_with fail
    go_ret
    exact ⟨rfl, HB.out⟩

/-- A number that stands as often as there are numbers. -/
def timesR (l : List Int) (s : Bool) : List Int × Int := if sameL l = l.length then putR (l.getD 0 0) l.length s else ([], 1)
set_option maxRecDepth 100000 in
set_option maxHeartbeats 400000 in
theorem times_any (w : World) (A : Option Addr) (n cap : Nat) (l : List Int) (hr : Ri w .i64 A n l) (hu : I64 l) (hn : n ≤ 1000000) (h1 : 1 ≤ n) (s : Bool) (r : List Int) (er : Int) (hl : timesR l s = (r, er)) :
    Calls Tryz.prog 79 #[.slice A n cap, .bool s] w (BytesErr w r er) := by
  have HR := Lib.hid hr; have HN := Lib.hid hr.len
  have hle := sameL_le l
  have hx0 := getD_i64x hu 0
  unfold timesR at hl
  rw [HN.out] at hl hle
  have HX0 := Lib.hid hx0
  clear hr hx0
  go_enter Tryz.func79, Tryz.ntmps79
  go_wp2_with fail
  refine (sameN_any w A n cap l HR.out hn).mono ?_; rintro e w2 ⟨rfl, hb2⟩
  have HB := Lib.hid hb2
  by_cases hm : sameL l = n
  · rw [if_pos hm] at hl
    have HL := Lib.hid hl
    rw [hm]
    obtain ⟨b, o, hA, hbl, hc⟩ := HR.out.all (by omega)
    subst hA
    have g0 := (hb2.cell (p := ⟨b, o + 0, none⟩) hbl).trans (hc 0 (by omega))
    rw [Nat.add_zero] at g0
    clear hl hm hle hc hb2
    generalize l.getD 0 0 = x at *
    go_wp2_with fail
    refine (Put_any x n s _ HX0.out.1 HX0.out.2 r er HL.out).mono ?_; rintro e w3 ⟨G, n3, c3, rfl, hs3, hb3⟩
    go_wp2_with fail
    go_ret2
    exact ⟨_, _, _, rfl, hs3, on HB.out hb3⟩
  · rw [if_neg hm] at hl
    injection hl with e1 e2
    subst e1 e2
    have hm2 : ¬ ((sameL l : Int) = (n : Int)) := by omega
    have hm3 : ((sameL l : Int) != (n : Int)) = true := by simp [hm2]
    clear hm hb2
    generalize sameL l = m at *
    go_wp2_with fail
    go_ret2
    exact ⟨none, 0, 0, rfl, Sl.nil _ _, HB.out⟩

set_option maxRecDepth 100000 in
set_option maxHeartbeats 1000000 in
theorem refSameN_any (w : World) (A : Option Addr) (n cap : Nat) (l : List Int) (hr : Ri w .i64 A n l) (hn : n ≤ 1000000) :
    Calls Tryz.prog 56 #[.slice A n cap] w fun e w' => e = .returned (.int .i64 (sameL l)) ∧ Below w.heap.size w w' := by
  have HR := Lib.hid hr; have HN := Lib.hid hr.len
  clear hr
  go_enter Tryz.func56, Tryz.ntmps56
  go_wp2_with fail
  go_loopw [3] (fun i wr => ∃ j : Nat, j ≤ n ∧ i = .int .i64 j ∧ Hid (∀ q, q < j → l.getD q 0 = l.getD 0 0) ∧ Hid (Below w.heap.size w wr)) (fun i _ => n - (intOf i).toNat)
  case atStart => exact ⟨0, by omega, rfl, Lib.hid (fun q h => absurd h (by omega)), Below.refl _ _⟩
  case round =>
    obtain ⟨j, hj, rfl, hz, hb⟩ := hrel
    by_cases hlt2 : j < n
    · obtain ⟨b, o, hA, hbl, hc⟩ := HR.out.all (by omega)
      subst hA
      have g1 := (hb.out.cell (p := ⟨b, o + j, none⟩) hbl).trans (hc j hlt2)
      have g0 := (hb.out.cell (p := ⟨b, o + 0, none⟩) hbl).trans (hc 0 (by omega))
      rw [Nat.add_zero] at g0
      obtain ⟨y, hy⟩ : ∃ y, y = l.getD j 0 := ⟨_, rfl⟩
      obtain ⟨x0, hx⟩ : ∃ x, x = l.getD 0 0 := ⟨_, rfl⟩
      rw [← hy] at g1; rw [← hx] at g0
      have HY := Lib.hid hy; have HX := Lib.hid hx
      have hl1 : (j : Int) < (n : Int) := by omega
      have hl0 : (0 : Int) < (n : Int) := by omega
      clear hc hy hx
      by_cases hyx : y = x0
      · have HE := Lib.hid hyx
        have hd : (y == x0) = true := by simp [hyx]
        clear hyx
        go_wp2_with fail
        go_quiet (fail)
        go_wp2_with fail
        go_roundw
        case rel =>
          refine ⟨j + 1, by omega, by go_num, Lib.hid (fun q h1 => ?_), Lib.hid ?_⟩
          · rcases Nat.lt_or_ge q j with h3 | h3
            · exact hz.out q h3
            · obtain rfl : q = j := by omega
              rw [← HY.out, ← HX.out]; exact HE.out
          · exact below_drewN hb.out _
        case measure => simp [intOf] <;> omega
      · have HE := Lib.hid hyx
        have hd : (y == x0) = false := by simp [hyx]
        clear hyx
        go_wp2_with fail
        go_quiet (fail)
        go_wp2_with fail
        go_ret
        have hs := sameL_eq l j (by rw [HN.out]; omega) hz.out (.inr (by rw [← HY.out, ← HX.out]; exact HE.out))
        rw [hs]
        exact ⟨rfl, below_drewN hb.out _⟩
    · obtain rfl : j = n := by omega
      have hd : decide ((j : Int) < (j : Int)) = false := by simp
      go_wp2_with fail
      go_quiet (fail)
      go_wp2_with fail
      go_ret
      have hs := sameL_eq l j (by rw [HN.out]; omega) hz.out (.inl HN.out.symm)
      rw [hs]
      exact ⟨rfl, below_drewN hb.out _⟩
end Go.Proofs.YtmejoococajikaaGreat

/- The closure that takes bits. -/
namespace Go.Proofs.YtmejoococajikaaGreat
open Go.RowKit

set_option maxRecDepth 100000 in
set_option maxHeartbeats 1000000 in
theorem take3_any (w : World) (ba bb N p left F : Nat) (A : Option Addr) (n cap : Nat) (l : List Int) (hat : Blk w ba 3 #[.int .i64 p]) (hbb : Blk w bb 38 #[.slice A n cap]) (hr : Ri w .u8 A n l) (hF : bytesOf F N = l.take N)
    (hp : p < 8 * N) (hN : N ≤ n) (hn : n ≤ 1000000) (hl1 : 1 ≤ left) (hl2 : left ≤ 64) (m : Nat) (hm : m = min left (8 - p % 8)) (hm2 : p + m ≤ 8 * N) :
    Calls Tryz.prog 172 #[.int .i64 left, .pointer (some ⟨ba, 0, none⟩), .pointer (some ⟨bb, 0, none⟩)] w
      fun e w' => e = .returned (.tuple #[.int .u64 (bitsV F (8 * N) p m), .int .i64 m]) ∧ ∃ nq, w' = (w.setCell ⟨ba, 0, none⟩ (.int .i64 (p + m))).drewN nq := by
  have c1 : w.cell? ⟨ba, 0, none⟩ = some (.int .i64 p) := by rw [hat.cell]; rfl
  have c2 : w.cell? ⟨bb, 0, none⟩ = some (.slice A n cap) := by rw [hbb.cell]; rfl
  have f1 := hat.frozen 0
  obtain ⟨b, o, hA, hbl, hcell⟩ := hr.at_ (j := p / 8) (by omega)
  subst hA
  obtain ⟨y, hy, hyF⟩ : ∃ y : Nat, (y : Int) = l.getD (p / 8) 0 ∧ y = byteAt F N (p / 8) := by
    refine ⟨_, ?_, rfl⟩
    have h1 := congrArg (fun q => q[p / 8]?) hF
    rw [bytesOf_get _ _ _ (by omega), List.getElem?_take_of_lt (by omega)] at h1
    simp only [List.getD]
    rw [← h1]; rfl
  rw [← hy] at hcell
  have hy8 : y < 256 := by rw [hyF]; exact byteAt_lt _ _ _
  have hbits := bits_byte F N p m hm2 (by omega) (by omega)
  rw [← hyF] at hbits
  have hres : Hid ((y : Int) * 2 ^ (p % 8) % 256 / 2 ^ (8 - m) = (bitsV F (8 * N) p m : Nat)) := by
    show _ = _
    rw [cast_shl, cast_shr, hbits]
  have hrg : 0 ≤ (y : Int) * 2 ^ (p % 8) % 256 / 2 ^ (8 - m) ∧ (y : Int) * 2 ^ (p % 8) % 256 / 2 ^ (8 - m) < 256 := by
    rw [hres.out]
    have h1 := bitsV_lt F (8 * N) p m
    have h2 : 2 ^ m ≤ 2 ^ 8 := Nat.pow_le_pow_right (by omega) (by omega)
    omega
  clear hyF hbits hF hy hr hbb hat
  rcases Nat.lt_or_ge (8 - p % 8) left with h | h
  · have hmi : (8 : Int) - (p : Int) % 8 = (m : Int) := by omega
    clear hm
    go_enter Tryz.func172, Tryz.ntmps172
    go_wp2_with fail
    go_quiet (fail)
    go_wp2_with fail
    go_ret2
    exact ⟨congrArg (fun v => Ending.returned (.tuple #[.int .u64 v, .int .i64 m])) hres.out, nq, rfl⟩
  · obtain rfl : m = left := by omega
    clear hm
    go_enter Tryz.func172, Tryz.ntmps172
    go_wp2_with fail
    go_quiet (fail)
    go_wp2_with fail
    go_ret2
    exact ⟨congrArg (fun v => Ending.returned (.tuple #[.int .u64 v, .int .i64 m])) hres.out, nq, rfl⟩
end Go.Proofs.YtmejoococajikaaGreat

/- rle.Cut and its reference. -/
namespace Go.Proofs.YtmejoococajikaaGreat
open Go.RowKit

def cutF (l : List Int) (e : Nat) : Nat → Nat → Nat
  | 0, _ => e
  | f + 1, n => if e ≤ n then e else if 5 ≤ sameL (l.drop n) then n else cutF l e f (n + 1)
/-- How many numbers are one run. -/
def cutL (l : List Int) : Nat := if 3 ≤ sameL l then min (sameL l) 512 else cutF l (min l.length 512) 513 1
theorem cutF_end (l : List Int) (e f n : Nat) (h : e ≤ n) : cutF l e f n = e := by
  cases f with
  | zero => rfl
  | succ f => rw [cutF, if_pos h]
theorem cutF_here (l : List Int) (e f n : Nat) (h : ¬ e ≤ n) (h5 : 5 ≤ sameL (l.drop n)) (hf : 1 ≤ f) : cutF l e f n = n := by
  cases f with
  | zero => omega
  | succ f => rw [cutF, if_neg h, if_pos h5]
theorem cutF_on (l : List Int) (e f n : Nat) (h : ¬ e ≤ n) (h5 : ¬ 5 ≤ sameL (l.drop n)) : cutF l e (f + 1) n = cutF l e f (n + 1) := by
  rw [cutF, if_neg h, if_neg h5]
theorem cutF_le (l : List Int) (e : Nat) : ∀ f n, (e ≤ n → e ≤ cutF l e f n) ∧ cutF l e f n ≤ e ∧ (1 ≤ n → 1 ≤ e → 1 ≤ cutF l e f n) := by
  intro f
  induction f with
  | zero => intro n; exact ⟨fun _ => Nat.le_refl _, Nat.le_refl _, fun _ h => h⟩
  | succ f ih =>
    intro n
    rw [cutF]
    split
    · exact ⟨fun _ => Nat.le_refl _, Nat.le_refl _, fun _ h => h⟩
    · split
      · exact ⟨fun h => by omega, by omega, fun h _ => h⟩
      · have := ih (n + 1)
        exact ⟨fun h => by omega, this.2.1, fun _ h => this.2.2 (by omega) h⟩
theorem cutL_range (l : List Int) (h : 1 ≤ l.length) : 1 ≤ cutL l ∧ cutL l ≤ l.length ∧ cutL l ≤ 512 := by
  have h1 := sameL_le l
  have h2 := cutF_le l (min l.length 512) 513 1
  unfold cutL
  split
  · omega
  · have := h2.2.2 (by omega) (by omega)
    omega
theorem getD_take {l : List Int} {k q : Nat} (h : q < k) : (l.take k).getD q 0 = l.getD q 0 := by simp [List.getD, List.getElem?_take_of_lt h]
theorem same_take (l : List Int) (k : Nat) (hk : 1 ≤ k) : sameL (l.take k) = min (sameL l) k := by
  have h1 := sameL_le l
  refine sameL_eq _ _ (by rw [List.length_take]; omega) (fun q hq => ?_) ?_
  · rw [getD_take (by omega), getD_take (by omega)]
    exact sameL_all l q (by omega)
  · rw [List.length_take]
    rcases Nat.lt_or_ge (sameL l) k with h2 | h2
    · rcases Nat.lt_or_ge (sameL l) l.length with h3 | h3
      · right
        rw [Nat.min_eq_left (by omega), getD_take h2, getD_take (by omega)]
        exact sameL_end l h3
      · left; omega
    · left; omega

set_option maxRecDepth 100000 in
set_option maxHeartbeats 1000000 in
theorem Cut_any (w : World) (A : Option Addr) (n cap : Nat) (l : List Int) (hr : Ri w .i64 A n l) (hcap : n ≤ cap) (_hm : cap ≤ 9223372036854775807) (hn : n ≤ 1000000) :
    Calls Tryz.prog 38 #[.slice A n cap] w fun e w' => e = .returned (.int .i64 (cutL l)) ∧ Below w.heap.size w w' := by
  have HR := Lib.hid hr; have HN := Lib.hid hr.len
  have hle := sameL_le l
  rw [HN.out] at hle
  clear hr
  have hcl : cutL l = if 3 ≤ sameL l then min (sameL l) 512 else cutF l (min n 512) 513 1 := by unfold cutL; rw [HN.out]
  have HSM := Lib.hid (sameN_any w A n cap l HR.out hn)
  obtain ⟨m, hme⟩ : ∃ m, m = sameL l := ⟨_, rfl⟩
  rw [← hme] at hle hcl HSM
  clear hme
  go_enter Tryz.func38, Tryz.ntmps38
  go_wp2_with fail
  refine HSM.out.mono ?_; rintro e w1 ⟨rfl, hb1⟩
  have HB1 := Lib.hid hb1; clear hb1
  by_cases h3 : 3 ≤ m
  · rw [if_pos h3] at hcl
    have HCL := Lib.hid hcl
    clear hcl
    by_cases h5 : m ≤ 512
    · have hmin : min m 512 = m := by omega
      go_wp2_with fail
      go_ret
      rw [HCL.out, hmin]
      exact ⟨rfl, HB1.out⟩
    · have hmin : min m 512 = 512 := by omega
      go_wp2_with fail
      go_ret
      rw [HCL.out, hmin]
      exact ⟨rfl, HB1.out⟩
  · rw [if_neg h3] at hcl
    obtain ⟨e, he⟩ : ∃ e, e = min n 512 := ⟨_, rfl⟩
    rw [← he] at hcl
    have HCL := Lib.hid hcl
    clear hcl
    go_upto_region 4 with fail
    go_cut [4] (fun v wx => v = .int .i64 e ∧ wx = w1)
    case first =>
      by_cases h5 : n ≤ 512
      · have hmin : e = n := by omega
        clear he
        subst hmin
        go_wp2_with fail
        go_meet
        exact ⟨rfl, rfl⟩
      · have hmin : e = 512 := by omega
        clear he
        subst hmin
        go_wp2_with fail
        go_meet
        exact ⟨rfl, rfl⟩
    case rest =>
      obtain ⟨rfl, hw⟩ := hcut
      obtain ⟨w1, hw1⟩ : ∃ w1, w1 = wc := ⟨_, rfl⟩
      subst hw
      have hen : e ≤ n ∧ e ≤ 512 := by omega
      clear he hw1
      go_wp2_with fail
      go_loopw [5] (fun i wr => ∃ j : Nat, 1 ≤ j ∧ j ≤ 513 ∧ i = .int .i64 j ∧ Hid (cutL l = cutF l e (514 - j) j) ∧ Hid (Below w.heap.size w wr)) (fun i _ => 513 - (intOf i).toNat)
      case atStart => exact ⟨1, by omega, by omega, rfl, HCL, HB1⟩
      case round =>
        obtain ⟨j, hj1, hj5, rfl, hcf, hb⟩ := hrel
        by_cases hlt : j < e
        · obtain ⟨b, o, hA, hbl, _⟩ := HR.out.all (by omega)
          subst hA
          have hrd := (HR.out.rest (i := j) (by omega) (fun _ => rfl)).below hb.out
          have HRD := Lib.hid hrd
          clear hrd
          obtain ⟨K, hK⟩ : ∃ K, K = min (n - j) 5 := ⟨_, rfl⟩
          have hst := same_take (l.drop j) K (by omega)
          have hsl := sameL_le (l.drop j)
          rw [List.length_drop, HN.out] at hsl
          have hS : sameL ((l.drop j).take K) = min (sameL (l.drop j)) 5 := by omega
          have HST := Lib.hid hS
          have HCF := Lib.hid (fun h5 => hcf.out.trans (cutF_here l e (514 - j) j (by omega) h5 (by omega)))
          have HCN := Lib.hid (fun h5 => hcf.out.trans ((show cutF l e (514 - j) j = cutF l e (513 - j + 1) j from by rw [show 513 - j + 1 = 514 - j from by omega]).trans (cutF_on l e (513 - j) j (by omega) h5)))
          have HCALL := Lib.hid (fun c0 (_ : K ≤ c0) => sameN_any _ _ K c0 ((l.drop j).take K) (HRD.out.first (m := K) (by omega)) (by omega))
          rw [HST.out] at HCALL
          clear hst hS hcf hsl
          generalize sameL (l.drop j) = S at *
          by_cases hE : n ≤ j + 5
          · obtain rfl : K = n - j := by omega
            have hc1 : j < cap := by omega
            clear hK
            go_wp2_with fail
            (try rw [show j + 5 - j = 5 from by omega])
            refine (HCALL.out _ (by omega)).mono ?_; rintro e w2 ⟨rfl, hb2⟩
            have HB2 := Lib.hid (on hb.out hb2)
            clear hb2
            by_cases h5 : 5 ≤ S
            · have hcl := HCF.out h5
              have HCL2 := Lib.hid hcl
              rw [show min S 5 = 5 from by omega]
              clear hcl
              go_wp2_with fail
              go_ret
              rw [HCL2.out]
              exact ⟨rfl, HB2.out⟩
            · have hcl := HCN.out h5
              have HCL2 := Lib.hid hcl
              rw [show min S 5 = S from by omega]
              have hd : ((S : Int) == 5) = false := by simp; omega
              have hd2 : ¬ (S : Int) = 5 := by omega
              clear hcl
              go_wp2_with fail
              go_roundw
              case rel => exact ⟨j + 1, by omega, by omega, by go_num, by rw [show 514 - (j + 1) = 513 - j from by omega]; exact HCL2, HB2⟩
              case measure => simp [intOf] <;> omega
          · obtain rfl : K = 5 := by omega
            have hc1 : j < cap := by omega
            clear hK
            go_wp2_with fail
            (try rw [show j + 5 - j = 5 from by omega])
            refine (HCALL.out _ (by omega)).mono ?_; rintro e w2 ⟨rfl, hb2⟩
            have HB2 := Lib.hid (on hb.out hb2)
            clear hb2
            by_cases h5 : 5 ≤ S
            · have hcl := HCF.out h5
              have HCL2 := Lib.hid hcl
              rw [show min S 5 = 5 from by omega]
              clear hcl
              go_wp2_with fail
              go_ret
              rw [HCL2.out]
              exact ⟨rfl, HB2.out⟩
            · have hcl := HCN.out h5
              have HCL2 := Lib.hid hcl
              rw [show min S 5 = S from by omega]
              have hd : ((S : Int) == 5) = false := by simp; omega
              have hd2 : ¬ (S : Int) = 5 := by omega
              clear hcl
              go_wp2_with fail
              go_roundw
              case rel => exact ⟨j + 1, by omega, by omega, by go_num, by rw [show 514 - (j + 1) = 513 - j from by omega]; exact HCL2, HB2⟩
              case measure => simp [intOf] <;> omega
        · have hcn := hcf.out.trans (cutF_end l e (514 - j) j (by omega))
          have HCN := Lib.hid hcn
          clear hcn
          go_wp2_with fail
          go_ret
          rw [HCN.out]
          exact ⟨rfl, hb.out⟩

set_option maxRecDepth 100000 in
set_option maxHeartbeats 1000000 in
theorem refCut_any (w : World) (A : Option Addr) (n cap : Nat) (l : List Int) (hr : Ri w .i64 A n l) (hcap : n ≤ cap) (hn : n ≤ 1000000) :
    Calls Tryz.prog 40 #[.slice A n cap] w fun e w' => e = .returned (.int .i64 (cutL l)) ∧ Below w.heap.size w w' := by
  have HR := Lib.hid hr; have HN := Lib.hid hr.len
  have hle := sameL_le l
  rw [HN.out] at hle
  clear hr
  have hcl : cutL l = if 3 ≤ sameL l then min (sameL l) 512 else cutF l (min n 512) 513 1 := by unfold cutL; rw [HN.out]
  have HSM := Lib.hid (fun w' hb => refSameN_any w' A n cap l (HR.out.below hb) hn)
  obtain ⟨m, hme⟩ : ∃ m, m = sameL l := ⟨_, rfl⟩
  rw [← hme] at hle hcl HSM
  clear hme
  go_enter Tryz.func40, Tryz.ntmps40
  go_upto_region 1 with fail
  go_cut [11] (fun v wx => v = .bool (decide (3 ≤ m)) ∧ Hid (Below w.heap.size w wx))
  case first =>
    by_cases h0 : 0 < n
    · go_wp2_with fail
      refine (HSM.out _ (Below.refl _ _)).mono ?_; rintro e w1 ⟨rfl, hb1⟩
      have HB1 := Lib.hid hb1; clear hb1
      go_wp2_with fail
      go_meet
      exact ⟨by simp; omega, HB1⟩
    · go_wp2_with fail
      go_meet
      exact ⟨by simp; omega, Below.refl _ _⟩
  case rest =>
  obtain ⟨rfl, hb1⟩ := hcut
  by_cases h3 : 3 ≤ m
  · rw [if_pos h3] at hcl
    have HCL := Lib.hid hcl
    clear hcl
    rw [decide_eq_true h3]
    by_cases h5 : m ≤ 512
    · have hmin : min m 512 = m := by omega
      go_wp2_with fail
      refine (HSM.out _ hb1.out).mono ?_; rintro e w2 ⟨rfl, hb2⟩
      have HB2 := Lib.hid (on hb1.out hb2); clear hb2
      go_wp2_with fail
      go_ret
      rw [HCL.out, hmin]
      exact ⟨rfl, HB2.out⟩
    · have hmin : min m 512 = 512 := by omega
      go_wp2_with fail
      refine (HSM.out _ hb1.out).mono ?_; rintro e w2 ⟨rfl, hb2⟩
      have HB2 := Lib.hid (on hb1.out hb2); clear hb2
      go_wp2_with fail
      go_ret
      rw [HCL.out, hmin]
      exact ⟨rfl, HB2.out⟩
  · rw [if_neg h3] at hcl
    rw [decide_eq_false h3]
    obtain ⟨e, he⟩ : ∃ e, e = min n 512 := ⟨_, rfl⟩
    rw [← he] at hcl
    have HCL := Lib.hid hcl
    have HE := Lib.hid he
    have hen : e ≤ n ∧ e ≤ 512 := by omega
    clear hcl he
    go_wp2_with fail
    go_loopw [3] (fun i wr => ∃ j : Nat, 1 ≤ j ∧ j ≤ 513 ∧ i = .int .i64 j ∧ Hid (cutL l = cutF l e (514 - j) j) ∧ Hid (Below w.heap.size w wr)) (fun i _ => 513 - (intOf i).toNat)
    case atStart => exact ⟨1, by omega, by omega, rfl, HCL, hb1⟩
    case round =>
      obtain ⟨j, hj1, hj5, rfl, hcf, hb⟩ := hrel
      by_cases hlt : j < e
      · obtain ⟨b, o, hA, hbl, _⟩ := HR.out.all (by omega)
        subst hA
        have hrd := (HR.out.rest (i := j) (by omega) (fun _ => rfl)).below hb.out
        have HCF := Lib.hid (fun h5 => hcf.out.trans (cutF_here l e (514 - j) j (by omega) h5 (by omega)))
        have HCN := Lib.hid (fun h5 => hcf.out.trans ((show cutF l e (514 - j) j = cutF l e (513 - j + 1) j from by rw [show 513 - j + 1 = 514 - j from by omega]).trans (cutF_on l e (513 - j) j (by omega) h5)))
        have HCALL := Lib.hid (fun c0 (_ : n - j ≤ c0) => refSameN_any _ _ (n - j) c0 (l.drop j) hrd (by omega))
        clear hcf hrd
        have hj2 : j < n ∧ j < 512 := by omega
        obtain ⟨hj3, hj4⟩ := hj2
        have hc1 : j < cap := by omega
        generalize sameL (l.drop j) = S at *
        go_wp2_with fail
        refine (HCALL.out _ (by omega)).mono ?_; rintro e w2 ⟨rfl, hb2⟩
        have HB2 := Lib.hid (on hb.out hb2)
        clear hb2
        by_cases h5 : 5 ≤ S
        · have HCL2 := Lib.hid (HCF.out h5)
          go_wp2_with fail
          go_ret
          rw [HCL2.out]
          exact ⟨rfl, HB2.out⟩
        · have HCL2 := Lib.hid (HCN.out h5)
          go_wp2_with fail
          go_roundw
          case rel => exact ⟨j + 1, by omega, by omega, by go_num, by rw [show 514 - (j + 1) = 513 - j from by omega]; exact HCL2, HB2⟩
          case measure => simp [intOf] <;> omega
      · have hcn := hcf.out.trans (cutF_end l e (514 - j) j (by omega))
        have HCN := Lib.hid hcn
        have he := HE.out
        clear hcn
        by_cases h1 : j < n
        · have h2 : ¬ j < 512 := by omega
          obtain rfl : e = 512 := by omega
          clear he HE
          have h6 : ¬ n ≤ 512 := by omega
          go_wp2_with fail
          go_ret
          rw [HCN.out]
          exact ⟨rfl, hb.out⟩
        · by_cases h6 : n ≤ 512
          · obtain rfl : e = n := by omega
            clear he HE
            go_wp2_with fail
            go_ret
            rw [HCN.out]
            exact ⟨rfl, hb.out⟩
          · obtain rfl : e = 512 := by omega
            clear he HE
            go_wp2_with fail
            go_ret
            rw [HCN.out]
            exact ⟨rfl, hb.out⟩
end Go.Proofs.YtmejoococajikaaGreat

/- Words for rows that a call makes anew. -/
namespace Go.Proofs.YtmejoococajikaaGreat
open Go.RowKit

/-- Bytes in a new block are handed back. -/
def BytesFresh (w : World) (l : List Int) (e : Ending) (w' : World) : Prop :=
  ∃ G n c, e = .returned (.slice G n c) ∧ Sl w' .u8 G n c l ∧ Below w.heap.size w w' ∧ ∀ g o, G = some ⟨g, o, none⟩ → w.heap.size ≤ g
theorem own_mono {w : World} {B B' s n : Nat} {e : TypeId} {v : Value} {xs : List Value} (h : w.ownsRow B e s v n xs) (hB : B' ≤ B) : w.ownsRow B' e s v n xs :=
  ⟨h.1, h.2.imp id fun ⟨g, cap, cur, e1, e2, r⟩ => ⟨g, cap, cur, e1, Nat.le_trans hB e2, r⟩⟩
/-- Two rows of the call's own are handed back: numbers, bytes, and the error. -/
def UnpackNew (w : World) (l1 l2 : List Int) (er : Int) (e : Ending) (w' : World) : Prop :=
  ∃ G n c G2 n2 c2, e = .returned (.tuple #[.slice G n c, .slice G2 n2 c2, .int .i64 er]) ∧ Sl w' .u64 G n c l1 ∧ Sl w' .u8 G2 n2 c2 l2 ∧ Below w.heap.size w w' ∧
    w'.ownsRow w.heap.size 109 1 (.slice G n c) n (l1.map (Value.int .u64)) ∧ ∀ g o, G2 = some ⟨g, o, none⟩ → w.heap.size ≤ g
theorem UnpackNew.nil {w w' : World} {er : Int} (h : Below w.heap.size w w') : UnpackNew w [] [] er (.returned (.tuple #[.slice none 0 0, .slice none 0 0, .int .i64 er])) w' :=
  ⟨none, 0, 0, none, 0, 0, rfl, Sl.nil _ _, Sl.nil _ _, h, World.ownsRow_nil _ _ _ _, fun _ _ h => by cases h⟩
end Go.Proofs.YtmejoococajikaaGreat

/- slices.Min. -/
import Derived.Test.YtpngbljfboceeaaDiff
import Derived.Test.YtpngbljfboceeaaMost
namespace Go.Proofs.Ytpngbljfboceeaa
open Go.RowKit

def minL (l : List Int) : Int := l.foldl min (l.getD 0 0)
theorem minL_snoc (l : List Int) (j : Nat) (h : j < l.length) (a : Int) : (l.take (j + 1)).foldl min a = min ((l.take j).foldl min a) (l.getD j 0) := by
  rw [take_snoc l j h, List.foldl_append]; rfl
theorem minL_le (l : List Int) (a : Int) : l.foldl min a ≤ a ∧ ∀ y ∈ l, l.foldl min a ≤ y := by
  induction l generalizing a with
  | nil => exact ⟨Int.le_refl _, fun y hy => by cases hy⟩
  | cons b t ih =>
    obtain ⟨h1, h2⟩ := ih (min a b)
    rw [List.foldl_cons]
    refine ⟨by omega, fun y hy => ?_⟩
    rcases List.mem_cons.1 hy with rfl | hy
    · omega
    · exact h2 y hy
theorem minL_mem (l : List Int) (a : Int) : l.foldl min a = a ∨ l.foldl min a ∈ l := by
  induction l generalizing a with
  | nil => exact .inl rfl
  | cons b t ih =>
    rw [List.foldl_cons]
    rcases ih (min a b) with h | h
    · rw [h]
      by_cases hab : a ≤ b
      · left; omega
      · right; rw [show min a b = b from by omega]; exact List.mem_cons_self
    · right; exact List.mem_cons_of_mem _ h
theorem minL_neg (l : List Int) (h : 0 < l.length) : (minL l < 0) ↔ l.any (fun x => decide (x < 0)) = true := by
  unfold minL
  rw [List.any_eq_true]
  constructor
  · intro h1
    rcases minL_mem l (l.getD 0 0) with h2 | h2
    · rw [h2] at h1
      exact ⟨_, getD_mem l 0 h, by simpa using h1⟩
    · exact ⟨_, h2, by simpa using h1⟩
  · rintro ⟨x, hx, h1⟩
    have := (minL_le l (l.getD 0 0)).2 x hx
    simp at h1
    omega
theorem getD_i64x {l : List Int} (h : I64 l) (i : Nat) : I64x (l.getD i 0) := by
  unfold I64x
  rcases Nat.lt_or_ge i l.length with h1 | h1
  · exact h _ (by simp [List.getD, List.getElem?_eq_getElem h1])
  · simp [List.getD, List.getElem?_eq_none h1]

set_option maxRecDepth 100000 in
set_option maxHeartbeats 1000000 in
theorem Min_any (w : World) (A : Option Addr) (n cap : Nat) (l : List Int) (hr : Ri w .i64 A n l) (hn : n ≤ 1000000) (h1 : 1 ≤ n) :
    Calls Try.prog 49 #[.slice A n cap] w fun e w' => e = .returned (.int .i64 (minL l)) ∧ w = w' := by
  have HR := Lib.hid hr; have HN := Lib.hid hr.len
  clear hr
  obtain ⟨bb, oo, rfl, hbl, hcells⟩ := HR.out.all (by omega)
  have HC := Lib.hid hcells; clear hcells
  have h0 := HC.out 0 (by omega)
  rw [Nat.add_zero] at h0
  obtain ⟨a, ha⟩ : ∃ a, a = l.getD 0 0 := ⟨_, rfl⟩
  rw [← ha] at h0
  have HA := Lib.hid ha; clear ha
  go_enter Try.func49, Try.ntmps49
  go_wp2_with fail
  go_loopw [3, 4] (fun m i wr => ∃ (j : Nat) (z : Int), 1 ≤ j ∧ j ≤ n ∧ i = .int .i64 j ∧ Hid (wr = w) ∧ m = .int .i64 z ∧ Hid (z = (l.take j).foldl min a)) (fun _ i _ => n - (intOf i).toNat)
  case atStart => exact ⟨1, a, by omega, h1, rfl, Lib.hid rfl, rfl, Lib.hid (by cases l with | nil => have := HN.out; simp at this; omega | cons x t => have := HA.out; simp at this; subst this; simp)⟩
  case round =>
    obtain ⟨j, z, hj1, hj, rfl, hw, rfl, hz⟩ := hrel
    obtain rfl := hw.out
    by_cases hlt : j < n
    · have hc := HC.out j hlt
      have hs := Lib.hid (minL_snoc l j (by rw [HN.out]; exact hlt) a)
      generalize l.getD j 0 = x at hc hs
      clear h0
      go_wp2_with fail
      all_goals
        go_roundw
        case rel =>
          refine ⟨j + 1, _, by omega, by omega, by go_num, Lib.hid trivial, rfl, Lib.hid ?_⟩
          rw [hs.out, ← hz.out]
          omega
        case measure => simp [intOf] <;> omega
    · obtain rfl : j = n := by omega
      go_wp2_with fail
      go_ret
      have h := hz.out
      rw [List.take_of_length_le (by rw [HN.out]; exact Nat.le_refl _), HA.out] at h
      exact ⟨by rw [h]; rfl, rfl⟩
end Go.Proofs.Ytpngbljfboceeaa

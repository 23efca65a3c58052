/- The walks of package widths (layer 2) and of its reference. -/
import Derived.Test.YtekdcnlbdgikoaaDoorProg
import Derived.Test.YtekdcnlbdgikoaaDoorPlainA
import Derived.Test.YtekdcnlbdgikoaaDoorMem
namespace Go.Proofs.YtekdcnlbdgikoaaDoor
open Go.RowKit


theorem wOf_lo (c : Int) (h0 : 0 ≤ c) (h1 : c < 24) : wOf c = c + 1 := by unfold wOf; omega
theorem wOf_out (c : Int) (h0 : c < 0 ∨ 31 < c) : wOf c = 0 := by unfold wOf; omega

/-- The first place of a number in a list. -/
def firstIdx (l : List Int) (x : Int) : Int := match l.findIdx? (· == x) with | some i => i | none => -1
theorem firstIdx_of (l : List Int) (x : Int) (k : Nat) (hk : k < l.length) (hx : l.getD k 0 = x) (hl : ∀ j, j < k → l.getD j 0 ≠ x) : firstIdx l x = k := by
  have : l.findIdx? (· == x) = some k := by
    rw [List.findIdx?_eq_some_iff_getElem]
    refine ⟨hk, by simp [List.getD, List.getElem?_eq_getElem hk] at hx; simp [hx], fun j hj => ?_⟩
    have hj' : j < l.length := by omega
    have := hl j hj
    simp [List.getD, List.getElem?_eq_getElem hj'] at this
    simpa using this
  unfold firstIdx; rw [this]
theorem firstIdx_none (l : List Int) (x : Int) (hl : ∀ j, j < l.length → l.getD j 0 ≠ x) : firstIdx l x = -1 := by
  have : l.findIdx? (· == x) = none := by
    rw [List.findIdx?_eq_none_iff]
    intro y hy
    obtain ⟨j, hj, rfl⟩ := List.getElem_of_mem hy
    have := hl j hj
    simp [List.getD, List.getElem?_eq_getElem hj] at this
    simpa using this
  unfold firstIdx; rw [this]

theorem wCode_lo (c : Int) (h0 : 1 ≤ c) (h1 : c ≤ 24) : wCode c = c - 1 := by unfold wCode; omega
def wideNums : List Int := [26, 28, 30, 32, 40, 48, 56, 64]
theorem wCode_hi (c : Int) (h0 : ¬ (1 ≤ c ∧ c ≤ 24)) : wCode c = if firstIdx wideNums c < 0 then -1 else 24 + firstIdx wideNums c := by
  unfold wCode
  rw [if_neg h0]
  have hf : firstIdx wideNums c = if c = 26 then 0 else if c = 28 then 1 else if c = 30 then 2 else if c = 32 then 3 else if c = 40 then 4 else if c = 48 then 5 else if c = 56 then 6 else if c = 64 then 7 else -1 := by
    simp only [firstIdx, wideNums, List.findIdx?_cons, List.findIdx?_nil]
    by_cases h1 : c = 26
    · subst h1; rfl
    by_cases h2 : c = 28
    · subst h2; rfl
    by_cases h3 : c = 30
    · subst h3; rfl
    by_cases h4 : c = 32
    · subst h4; rfl
    by_cases h5 : c = 40
    · subst h5; rfl
    by_cases h6 : c = 48
    · subst h6; rfl
    by_cases h7 : c = 56
    · subst h7; rfl
    by_cases h8 : c = 64
    · subst h8; rfl
    have e : ∀ k : Int, c ≠ k → (k == c) = false := fun k hk => by simpa using fun h => hk h.symm
    simp [h1, h2, h3, h4, h5, h6, h7, h8, e _ h1, e _ h2, e _ h3, e _ h4, e _ h5, e _ h6, e _ h7, e _ h8]
  rw [hf]; omega
theorem firstIdx_range (l : List Int) (c : Int) : -1 ≤ firstIdx l c ∧ firstIdx l c < l.length := by
  unfold firstIdx
  cases h : l.findIdx? (· == c) with
  | none => simp; omega
  | some i =>
    have := (List.findIdx?_eq_some_iff_getElem.1 h).1
    simp; omega

theorem wClosest_lo (c : Int) (h1 : c ≤ 24) : wClosest c = if (1 : Int) ≤ c then c else 1 := by unfold wClosest; omega
end Go.Proofs.YtekdcnlbdgikoaaDoor

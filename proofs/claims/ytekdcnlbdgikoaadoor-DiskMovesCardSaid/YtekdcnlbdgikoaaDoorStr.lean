/- Rows of strings: what is read of them; what the call itself owns. -/
import Derived.Test.YtekdcnlbdgikoaaDoorMem
import Derived.Sort.KeysCollected
namespace Go.Proofs.YtekdcnlbdgikoaaDoor
open Go.RowKit

/-- A slice of n strings that reads as l. -/
def Rs (w : World) (A : Option Addr) (n : Nat) (l : List ByteArray) : Prop := Rd w 1 A n (l.map Value.string)
section
variable {w w' : World} {A : Option Addr} {n : Nat} {l : List ByteArray}
theorem Rs.len (h : Rs w A n l) : l.length = n := by have := h.1; simpa using this
theorem Rs.nil (w : World) (A : Option Addr) : Rs w A 0 [] := Rd.nil w 1 A
theorem Rs.below (h : Rs w A n l) (hb : Below w.heap.size w w') : Rs w' A n l := Rd.below h hb
theorem Rs.drewN (h : Rs w A n l) (m : Nat) : Rs (w.drewN m) A n l := h
theorem Rs.alloc (h : Rs w A n l) (o : Obj) : Rs (w.alloc o) A n l := Rd.alloc h o
theorem Rs.grown (h : Rs w A n l) {row : Option Nat} (hg : w.grownBy w' row) (hr : ∀ g b o, row = some g → A = some ⟨b, o, none⟩ → g ≠ b) : Rs w' A n l := Rd.grown h hg hr
theorem Rs.of_own {base : Nat} {e : TypeId} {c : Nat} (h : w.ownsRow base e 1 (.slice A n c) n (l.map Value.string)) : Rs w A n l := Rd.of_own h
theorem Rs.all (h : Rs w A n l) (hl : 0 < n) : ∃ b o, A = some ⟨b, o, none⟩ ∧ b < w.heap.size ∧ ∀ j (hj : j < l.length), w.cell? ⟨b, o + j, none⟩ = some (.string l[j]) := by
  obtain ⟨b, o, e, hb, hc⟩ := h.2 hl
  exact ⟨b, o, e, hb, fun j hj => hc j _ (by simp [List.getElem?_map, List.getElem?_eq_getElem hj])⟩
/-- A cut 's[:m]' of a row that is longer. -/
theorem Rs.first (h : Rs w A n l) {m : Nat} (hm : m ≤ n) : Rs w A m (l.take m) :=
  ⟨by have := h.len; simp; omega, fun h0 => by
    obtain ⟨b, o, e, hb, hc⟩ := h.2 (by omega)
    refine ⟨b, o, e, hb, fun j u hu => hc j u ?_⟩
    rw [List.map_take] at hu
    have hj : j < m := by
      rcases Nat.lt_or_ge j m with hlt | hge
      · exact hlt
      · rw [List.getElem?_eq_none (by rw [List.length_take]; omega)] at hu; cases hu
    rwa [List.getElem?_take_of_lt hj] at hu⟩
end

/-- Bytes that stand ahead of one another, as the sort orders them. -/
theorem before_lt : ∀ (a b : List UInt8), bytesBefore a b = true ↔ a < b
  | [], [] => by simp [bytesBefore]
  | [], _ :: _ => by simp [bytesBefore]
  | _ :: _, [] => by simp [bytesBefore]
  | x :: r, y :: s => by
    rw [List.cons_lt_cons_iff, ← before_lt r s]
    simp [bytesBefore]
theorem before_le {a b : List UInt8} (h : bytesBefore a b = true) : a ≤ b := List.le_of_lt ((before_lt a b).1 h)
/-- What rises is what the sort gives of any row with the same members. -/
theorem sort_of_rising {ss l : List (List UInt8)} (hp : ss.Perm l) (hl : l.Pairwise fun a b => bytesBefore a b = true) : ss.mergeSort (fun x y => decide (x ≤ y)) = l := by
  have tr : ∀ a b c : List UInt8, decide (a ≤ b) = true → decide (b ≤ c) = true → decide (a ≤ c) = true := fun a b c h1 h2 => by simp only [decide_eq_true_eq] at *; exact List.le_trans h1 h2
  have to : ∀ a b : List UInt8, (decide (a ≤ b) || decide (b ≤ a)) = true := fun a b => by simp only [Bool.or_eq_true, decide_eq_true_eq]; exact List.le_total a b
  refine List.Perm.eq_of_pairwise (le := fun a b => decide (a ≤ b) = true) (fun a b _ _ h1 h2 => ?_) (List.pairwise_mergeSort tr to ss) (hl.imp fun h => decide_eq_true (before_le h)) ((List.mergeSort_perm ss _).trans hp)
  simp only [decide_eq_true_eq] at h1 h2
  exact List.le_antisymm h1 h2
theorem encStr_map (l : List ByteArray) : (l.map fun s => s.data.toList).map encStr = l.map Value.string := by
  rw [List.map_map]
  refine List.map_congr_left fun s _ => ?_
  show Value.string ⟨s.data.toList.toArray⟩ = Value.string s
  rw [Array.toArray_toList]
end Go.Proofs.YtekdcnlbdgikoaaDoor

/- How many bits several numbers need: widths.Most and its reference. -/
import Derived.Test.YtekdcnlbdgikoaaDoorLenA
namespace Go.Proofs.YtekdcnlbdgikoaaDoor
open Go.RowKit

theorem take_snoc (l : List Int) (k : Nat) (h : k < l.length) : l.take (k + 1) = l.take k ++ [l.getD k 0] := by
  rw [List.take_succ_eq_append_getElem h]; simp [List.getD, List.getElem?_eq_getElem h]
theorem getD_mem (l : List Int) (k : Nat) (h : k < l.length) : l.getD k 0 ∈ l := by
  simp [List.getD, List.getElem?_eq_getElem h]

def orAll (l : List Int) : Nat := l.foldl (fun m x => m ||| x.toNat) 0
def mostBits (l : List Int) : Nat := l.foldl (fun m x => max m (blen x.toNat)) 0
theorem orAll_snoc (l : List Int) (x : Int) : orAll (l ++ [x]) = orAll l ||| x.toNat := by simp [orAll]
theorem mostBits_snoc (l : List Int) (x : Int) : mostBits (l ++ [x]) = max (mostBits l) (blen x.toNat) := by simp [mostBits]
theorem blen_orAll (l : List Int) : blen (orAll l) = mostBits l := by
  have : ∀ (l : List Int) (m : Nat), blen (l.foldl (fun m x => m ||| x.toNat) m) = l.foldl (fun m x => max m (blen x.toNat)) (blen m) := by
    intro l
    induction l with
    | nil => intro m; rfl
    | cons a l ih => intro m; rw [List.foldl_cons, List.foldl_cons, ih, blen_or]
  exact this l 0
theorem orAll_lt (l : List Int) (h : U64 l) : orAll l < 18446744073709551616 := by
  have : ∀ (l : List Int) (m : Nat), U64 l → m < 2 ^ 64 → l.foldl (fun m x => m ||| x.toNat) m < 2 ^ 64 := by
    intro l
    induction l with
    | nil => intro m _ h; exact h
    | cons a l ih =>
      intro m hl hm
      rw [List.foldl_cons]
      have := hl a List.mem_cons_self
      exact ih _ (fun x hx => hl x (List.mem_cons_of_mem _ hx)) (Nat.or_lt_two_pow hm (by omega))
  exact this l 0 h (by omega)
theorem U64.take {l : List Int} (h : U64 l) (k : Nat) : U64 (l.take k) := fun x hx => h x (List.mem_of_mem_take hx)
theorem U8.take {l : List Int} (h : U8 l) (k : Nat) : U8 (l.take k) := fun x hx => h x (List.mem_of_mem_take hx)
theorem U8.drop {l : List Int} (h : U8 l) (k : Nat) : U8 (l.drop k) := fun x hx => h x (List.mem_of_mem_drop hx)
theorem mostBits_le (l : List Int) (h : U64 l) : mostBits l ≤ 64 := by rw [← blen_orAll]; exact blen_64 _ (orAll_lt l h)

theorem div2_pow (x k : Nat) : x / 2 ^ k / 2 = x / 2 ^ (k + 1) := by rw [Nat.div_div_eq_div_mul, Nat.pow_succ]
end Go.Proofs.YtekdcnlbdgikoaaDoor

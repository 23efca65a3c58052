/- Joined texts: PutC, Most, BitsA. Each has its own head line. No condition beyond those that its theorems state. -/
import Derived.RegionTactic
import Derived.BigRegion
import Derived.Deep.QuietTactic
import Derived.BigQuiet
import Derived.Deep.OwnRows
import Derived.Test.YtekdcnlbdgikoaaDoorJ09
import Derived.Test.YtekdcnlbdgikoaaDoorJ13
import Derived.Test.YtekdcnlbdgikoaaDoorJ11
set_option linter.unusedVariables false

/- Blocks that are known whole; the closure that lays bits down. -/
namespace Go.Proofs.YtekdcnlbdgikoaaDoor
open Go.RowKit

/-- Block g is just the cells cs of type t, none of them frozen. -/
def Blk (w : World) (g : Nat) (t : TypeId) (cs : Array Value) : Prop := w.heap[g]? = some (.cells cs t (0, 0))
section
variable {w w' : World} {g : Nat} {t : TypeId} {cs : Array Value}
theorem Blk.lt (h : Blk w g t cs) : g < w.heap.size := by
  rcases Nat.lt_or_ge g w.heap.size with hlt | hge
  · exact hlt
  · unfold Blk at h; rw [Array.getElem?_eq_none hge] at h; cases h
theorem Blk.cell (h : Blk w g t cs) (i : Nat) : w.cell? ⟨g, i, none⟩ = cs[i]? := cell_of_row w g i cs t (0, 0) h
theorem Blk.frozen (h : Blk w g t cs) (i : Nat) : w.frozen? ⟨g, i, none⟩ = false := by
  unfold Blk at h
  simp [World.frozen?, h]
theorem Blk.new (w : World) (t : TypeId) (cs : Array Value) : Blk (w.alloc (.cells cs t)) w.heap.size t cs := heap_alloc_new w _
theorem Blk.drew (h : Blk w g t cs) : Blk w.drew g t cs := h
theorem Blk.drewN (h : Blk w g t cs) (n : Nat) : Blk (w.drewN n) g t cs := h
theorem Blk.alloc (h : Blk w g t cs) (o : Obj) : Blk (w.alloc o) g t cs := (Below.heap_alloc w o g h.lt).trans h
theorem Blk.set_ (h : Blk w g t cs) (i : Nat) (u : Value) : Blk (w.setCell ⟨g, i, none⟩ u) g t (cs.setIfInBounds i u) := by
  unfold Blk at h ⊢
  simp [World.setCell, Array.getElem?_modify, h]
theorem Blk.far (h : Blk w g t cs) {p : Addr} (hp : g ≠ p.block) (u : Value) : Blk (w.setCell p u) g t cs := (Below.heap_setCell w p u g hp).trans h
theorem Blk.below {B : Nat} (h : Blk w g t cs) (hb : Below B w w') (hg : g < B) : Blk w' g t cs := (hb.block g hg).trans h
theorem Blk.below_ (h : Blk w g t cs) (hb : Below w.heap.size w w') : Blk w' g t cs := (hb.block g h.lt).trans h
theorem Blk.grown {row : Option Nat} (h : Blk w g t cs) (hb : w.grownBy w' row) (hg : some g ≠ row) : Blk w' g t cs := (hb.block g h.lt hg).trans h
end

/-- What the closure leaves: the bytes cs', the place moved on, all else as it was. -/
def PutOut (w : World) (B g bo ba N : Nat) (at' : Nat) (cs : Array Value) (e : Ending) (w' : World) : Prop :=
  e = .returned (.tuple #[]) ∧ Blk w' g 5 cs ∧ Blk w' ba 3 #[.int .i64 at'] ∧ Blk w' bo 22 #[.slice (some ⟨g, 0, none⟩) N N] ∧ Below B w w' ∧ w'.heap.size = w.heap.size

end Go.Proofs.YtekdcnlbdgikoaaDoor

/- How many bits several numbers need: widths.Most and its reference. -/
namespace Go.Proofs.YtekdcnlbdgikoaaDoor
open Go.RowKit

theorem take_snoc (l : List Int) (k : Nat) (h : k < l.length) : l.take (k + 1) = l.take k ++ [l.getD k 0] := by
  rw [List.take_succ_eq_append_getElem h]; simp [List.getD, List.getElem?_eq_getElem h]
theorem getD_mem (l : List Int) (k : Nat) (h : k < l.length) : l.getD k 0 ∈ l := by
  simp [List.getD, List.getElem?_eq_getElem h]

def orAll (l : List Int) : Nat := l.foldl (fun m x => m ||| x.toNat) 0
def mostBits (l : List Int) : Nat := l.foldl (fun m x => max m (blen x.toNat)) 0
theorem orAll_snoc (l : List Int) (x : Int) : orAll (l ++ [x]) = orAll l ||| x.toNat := by simp [orAll]
theorem mostBits_snoc (l : List Int) (x : Int) : mostBits (l ++ [x]) = max (mostBits l) (blen x.toNat) := by simp [mostBits]
theorem blen_orAll (l : List Int) : blen (orAll l) = mostBits l := by
  have : ∀ (l : List Int) (m : Nat), blen (l.foldl (fun m x => m ||| x.toNat) m) = l.foldl (fun m x => max m (blen x.toNat)) (blen m) := by
    intro l
    induction l with
    | nil => intro m; rfl
    | cons a l ih => intro m; rw [List.foldl_cons, List.foldl_cons, ih, blen_or]
  exact this l 0
theorem orAll_lt (l : List Int) (h : U64 l) : orAll l < 18446744073709551616 := by
  have : ∀ (l : List Int) (m : Nat), U64 l → m < 2 ^ 64 → l.foldl (fun m x => m ||| x.toNat) m < 2 ^ 64 := by
    intro l
    induction l with
    | nil => intro m _ h; exact h
    | cons a l ih =>
      intro m hl hm
      rw [List.foldl_cons]
      have := hl a List.mem_cons_self
      exact ih _ (fun x hx => hl x (List.mem_cons_of_mem _ hx)) (Nat.or_lt_two_pow hm (by omega))
  exact this l 0 h (by omega)
theorem U64.take {l : List Int} (h : U64 l) (k : Nat) : U64 (l.take k) := fun x hx => h x (List.mem_of_mem_take hx)
theorem U8.take {l : List Int} (h : U8 l) (k : Nat) : U8 (l.take k) := fun x hx => h x (List.mem_of_mem_take hx)
theorem U8.drop {l : List Int} (h : U8 l) (k : Nat) : U8 (l.drop k) := fun x hx => h x (List.mem_of_mem_drop hx)
theorem mostBits_le (l : List Int) (h : U64 l) : mostBits l ≤ 64 := by rw [← blen_orAll]; exact blen_64 _ (orAll_lt l h)

theorem div2_pow (x k : Nat) : x / 2 ^ k / 2 = x / 2 ^ (k + 1) := by rw [Nat.div_div_eq_div_mul, Nat.pow_succ]
end Go.Proofs.YtekdcnlbdgikoaaDoor

/- Package bits: fits, Size, the closure, Pack. -/
namespace Go.Proofs.YtekdcnlbdgikoaaDoor
open Go.RowKit

def bytesArr (X N : Nat) : Array Value := ((bytesOf X N).map (Value.int .u8)).toArray
theorem bytesArr_get (X N j : Nat) (h : j < N) : (bytesArr X N)[j]? = some (.int .u8 (byteAt X N j : Int)) := by
  simp [bytesArr, bytesOf_get X N j h]
theorem bytesArr_add (X N j d : Nat) (hj : j < N) (hd : byteAt X N j + d < 256) :
    (bytesArr X N).setIfInBounds j (.int .u8 ((byteAt X N j + d : Nat) : Int)) = bytesArr (X + d * 256 ^ (N - 1 - j)) N := by
  unfold bytesArr
  rw [bytesOf_add X N j d hj hd]
  simp [List.map_set]
theorem cast_shl (c k : Nat) : (c : Int) * 2 ^ k % 256 = ((c * 2 ^ k % 256 : Nat) : Int) := by
  rw [Int.natCast_emod, Int.natCast_mul, Int.natCast_pow]; rfl
theorem cast_shr (c k : Nat) : (c : Int) / 2 ^ k = ((c / 2 ^ k : Nat) : Int) := by
  rw [Int.natCast_ediv, Int.natCast_pow]; rfl

theorem bytesOf_u8 (X N : Nat) : U8 (bytesOf X N) := by
  intro y hy
  obtain ⟨j, _, rfl⟩ := List.mem_map.1 hy
  have := byteAt_lt X N j
  omega
def fitsB (m x : Int) : Bool := decide (0 ≤ m ∧ m ≤ 4096 ∧ 0 ≤ x ∧ x ≤ 64)
def sizeN (m x : Int) : Int := if fitsB m x then (m * x + 7) / 8 else 0
end Go.Proofs.YtekdcnlbdgikoaaDoor

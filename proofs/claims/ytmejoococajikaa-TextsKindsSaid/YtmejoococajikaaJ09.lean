/- Joined texts: PutC. Each has its own head line. No condition beyond those that its theorems state. -/
import Derived.RegionTactic
import Derived.BigRegion
import Derived.Deep.QuietTactic
import Derived.BigQuiet
import Derived.Test.YtmejoococajikaaJ07
set_option linter.unusedVariables false

/- Blocks that are known whole; the closure that lays bits down. -/
namespace Go.Proofs.Ytmejoococajikaa
open Go.RowKit

/-- Block g is just the cells cs of type t, none of them frozen. -/
def Blk (w : World) (g : Nat) (t : TypeId) (cs : Array Value) : Prop := w.heap[g]? = some (.cells cs t (0, 0))
section
variable {w w' : World} {g : Nat} {t : TypeId} {cs : Array Value}
theorem Blk.lt (h : Blk w g t cs) : g < w.heap.size := by
  rcases Nat.lt_or_ge g w.heap.size with hlt | hge
  · exact hlt
  · unfold Blk at h; rw [Array.getElem?_eq_none hge] at h; cases h
theorem Blk.cell (h : Blk w g t cs) (i : Nat) : w.cell? ⟨g, i, none⟩ = cs[i]? := cell_of_row w g i cs t (0, 0) h
theorem Blk.frozen (h : Blk w g t cs) (i : Nat) : w.frozen? ⟨g, i, none⟩ = false := by
  unfold Blk at h
  simp [World.frozen?, h]
theorem Blk.new (w : World) (t : TypeId) (cs : Array Value) : Blk (w.alloc (.cells cs t)) w.heap.size t cs := heap_alloc_new w _
theorem Blk.drew (h : Blk w g t cs) : Blk w.drew g t cs := h
theorem Blk.drewN (h : Blk w g t cs) (n : Nat) : Blk (w.drewN n) g t cs := h
theorem Blk.alloc (h : Blk w g t cs) (o : Obj) : Blk (w.alloc o) g t cs := (Below.heap_alloc w o g h.lt).trans h
theorem Blk.set_ (h : Blk w g t cs) (i : Nat) (u : Value) : Blk (w.setCell ⟨g, i, none⟩ u) g t (cs.setIfInBounds i u) := by
  unfold Blk at h ⊢
  simp [World.setCell, Array.getElem?_modify, h]
theorem Blk.far (h : Blk w g t cs) {p : Addr} (hp : g ≠ p.block) (u : Value) : Blk (w.setCell p u) g t cs := (Below.heap_setCell w p u g hp).trans h
theorem Blk.below {B : Nat} (h : Blk w g t cs) (hb : Below B w w') (hg : g < B) : Blk w' g t cs := (hb.block g hg).trans h
theorem Blk.below_ (h : Blk w g t cs) (hb : Below w.heap.size w w') : Blk w' g t cs := (hb.block g h.lt).trans h
theorem Blk.grown {row : Option Nat} (h : Blk w g t cs) (hb : w.grownBy w' row) (hg : some g ≠ row) : Blk w' g t cs := (hb.block g h.lt hg).trans h
end

/-- What the closure leaves: the bytes cs', the place moved on, all else as it was. -/
def PutOut (w : World) (B g bo ba N : Nat) (at' : Nat) (cs : Array Value) (e : Ending) (w' : World) : Prop :=
  e = .returned (.tuple #[]) ∧ Blk w' g 5 cs ∧ Blk w' ba 3 #[.int .i64 at'] ∧ Blk w' bo 49 #[.slice (some ⟨g, 0, none⟩) N N] ∧ Below B w w' ∧ w'.heap.size = w.heap.size

set_option maxRecDepth 100000 in
set_option maxHeartbeats 1000000 in
/-- The bits fit into the byte that is begun. -/
theorem put1_any (w : World) (B g bo ba N at_ n : Nat) (c y : Int) (hat : Blk w ba 3 #[.int .i64 at_]) (hout : Blk w bo 49 #[.slice (some ⟨g, 0, none⟩) N N]) (cs : Array Value) (hg : Blk w g 5 cs)
    (hB : B ≤ g ∧ B ≤ ba ∧ B ≤ bo) (hd : g ≠ ba ∧ g ≠ bo ∧ ba ≠ bo)
    (hy : cs[at_ / 8]? = some (.int .u8 y)) (hn1 : n ≤ 8 - at_ % 8) (hn2 : n ≤ 8) (hN : at_ / 8 < N) (hNb : N ≤ 1000000) (_hc : 0 ≤ c ∧ c < 256) (_hy0 : 0 ≤ y ∧ y < 256) :
    Calls Try.prog 70 #[.int .u8 c, .int .i64 n, .pointer (some ⟨ba, 0, none⟩), .pointer (some ⟨bo, 0, none⟩)] w
      (PutOut w B g bo ba N (at_ + n) (cs.setIfInBounds (at_ / 8) (.int .u8 (bits BinOp.or IntKind.u8 y (c * 2 ^ (8 - at_ % 8 - n) % 256))))) := by
  obtain ⟨d1, d2, d3⟩ := hd
  have d1' := d1.symm; have d2' := d2.symm; have d3' := d3.symm
  have c1 : w.cell? ⟨ba, 0, none⟩ = some (.int .i64 at_) := by rw [hat.cell]; rfl
  have c2 : w.cell? ⟨bo, 0, none⟩ = some (.slice (some ⟨g, 0, none⟩) N N) := by rw [hout.cell]; rfl
  have c3 : w.cell? ⟨g, at_ / 8, none⟩ = some (.int .u8 y) := by rw [hg.cell]; exact hy
  have f1 := hat.frozen 0
  have f3 := hg.frozen (at_ / 8)
  have H1 := Lib.hid hat; have H2 := Lib.hid hout; have H3 := Lib.hid hg; have H4 := Lib.hid hy
  clear hat hout hg hy
  go_enter Try.func70, Try.ntmps70
  go_wp2_with fail
  go_region
  all_goals go_wp2_with fail
  go_end0
  refine ⟨rfl, ?_, ?_, ?_, ?_, ?_⟩
  · exact (H3.out.set_ _ _).far d1 _
  · have h := (H1.out.far (p := ⟨g, at_ / 8, none⟩) d1' (.int .u8 (bits BinOp.or IntKind.u8 y (c * 2 ^ (8 - at_ % 8 - n) % 256)))).set_ 0 (.int .i64 (at_ + n))
    exact h
  · exact (H2.out.far d2' _).far d3' _
  · exact (((Below.refl B w).setCell hB.1 _).setCell hB.2.1 _).drew
  · simp [World.setCell]

set_option maxRecDepth 100000 in
set_option maxHeartbeats 2000000 in
/-- The bits go into two bytes. -/
theorem put2_any (w : World) (B g bo ba N at_ n : Nat) (c y z : Int) (hat : Blk w ba 3 #[.int .i64 at_]) (hout : Blk w bo 49 #[.slice (some ⟨g, 0, none⟩) N N]) (cs : Array Value) (hg : Blk w g 5 cs)
    (hB : B ≤ g ∧ B ≤ ba ∧ B ≤ bo) (hd : g ≠ ba ∧ g ≠ bo ∧ ba ≠ bo)
    (hy : cs[at_ / 8]? = some (.int .u8 y)) (hz : cs[at_ / 8 + 1]? = some (.int .u8 z)) (hn1 : 8 - at_ % 8 < n) (hn2 : n ≤ 8) (hN : at_ / 8 + 1 < N) (hNb : N ≤ 1000000) (_hc : 0 ≤ c ∧ c < 256) (_hy0 : 0 ≤ y ∧ y < 256) (_hz0 : 0 ≤ z ∧ z < 256) :
    Calls Try.prog 70 #[.int .u8 c, .int .i64 n, .pointer (some ⟨ba, 0, none⟩), .pointer (some ⟨bo, 0, none⟩)] w
      (PutOut w B g bo ba N (at_ + n) ((cs.setIfInBounds (at_ / 8) (.int .u8 (bits BinOp.or IntKind.u8 y (c / 2 ^ (n - (8 - at_ % 8)))))).setIfInBounds (at_ / 8 + 1) (.int .u8 (bits BinOp.or IntKind.u8 z (c * 2 ^ (8 - n + (8 - at_ % 8)) % 256))))) := by
  obtain ⟨d1, d2, d3⟩ := hd
  have d1' := d1.symm; have d2' := d2.symm; have d3' := d3.symm
  have c1 : w.cell? ⟨ba, 0, none⟩ = some (.int .i64 at_) := by rw [hat.cell]; rfl
  have c2 : w.cell? ⟨bo, 0, none⟩ = some (.slice (some ⟨g, 0, none⟩) N N) := by rw [hout.cell]; rfl
  have c3 : w.cell? ⟨g, at_ / 8, none⟩ = some (.int .u8 y) := by rw [hg.cell]; exact hy
  have c4 : w.cell? ⟨g, at_ / 8 + 1, none⟩ = some (.int .u8 z) := by rw [hg.cell]; exact hz
  have f1 := hat.frozen 0
  have f3 := hg.frozen (at_ / 8)
  have f4 := hg.frozen (at_ / 8 + 1)
  have H1 := Lib.hid hat; have H2 := Lib.hid hout; have H3 := Lib.hid hg; have H4 := Lib.hid hy; have H5 := Lib.hid hz
  clear hat hout hg hy hz
  go_enter Try.func70, Try.ntmps70
  go_wp2_with fail
  go_region
  all_goals go_wp2_with fail
  go_region
  all_goals go_wp2_with fail
  go_end0
  refine ⟨rfl, ?_, ?_, ?_, ?_, ?_⟩
  · exact ((H3.out.set_ _ _).set_ _ _).far d1 _
  · have h := ((H1.out.far (p := ⟨g, at_ / 8, none⟩) d1' (.int .u8 (bits BinOp.or IntKind.u8 y (c / 2 ^ (n - (8 - at_ % 8)))))).far (p := ⟨g, at_ / 8 + 1, none⟩) d1' (.int .u8 (bits BinOp.or IntKind.u8 z (c * 2 ^ (8 - n + (8 - at_ % 8)) % 256)))).set_ 0 (.int .i64 (at_ + n))
    exact h
  · exact ((H2.out.far d2' _).far d2' _).far d3' _
  · exact ((((Below.refl B w).setCell hB.1 _).setCell hB.1 _).setCell hB.2.1 _).drew.drew
  · simp [World.setCell]
end Go.Proofs.Ytmejoococajikaa

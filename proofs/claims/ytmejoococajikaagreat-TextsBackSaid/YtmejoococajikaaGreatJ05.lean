/- Joined texts: LenA, PutC, Most, BitsA, RefW. Each has its own head line. No condition beyond those that its theorems state. -/
import Derived.RegionTactic
import Derived.BigRegion
import Derived.Deep.QuietTactic
import Derived.BigQuiet
import Derived.Deep.OwnRows
import Derived.Test.YtmejoococajikaaGreatJ03
import Derived.Test.YtmejoococajikaaGreatJ02
import Derived.Test.YtmejoococajikaaGreatJ04
set_option linter.unusedVariables false

/- math/bits.Len64 and widths.Bits: how many bits a number needs. -/
namespace Go.Proofs.YtmejoococajikaaGreat
open Go.RowKit
theorem tab_law (T : ByteArray) (hT : ∀ i : Fin 256, T.data.toList[i.val]?.map UInt8.toNat = some (blen i.val)) (n : Nat) (h1 : n < 256) (h : n < T.size) : (T[n]'h).toNat = blen n := by
  have h2 := hT ⟨n, h1⟩
  have h' : n < T.data.toList.length := by simpa using h
  simp only [List.getElem?_eq_getElem h', Option.map_some, Option.some.injEq] at h2
  rw [← h2]
  rfl
theorem blen_256 (n : Nat) (h : n < 256) : blen n ≤ 8 := blen_le n 8 h
theorem tab0 (T : ByteArray) (hT : ∀ i : Fin 256, T.data.toList[i.val]?.map UInt8.toNat = some (blen i.val)) (x : Int) (h0 : 0 ≤ x) (h1 : x < 256) (h : x.toNat < T.size) :
    wrap64 (wrap64 ((T[x.toNat]'h).toNat : Int)) = (blen x.toNat : Int) := by
  rw [tab_law T hT _ (by omega) h]
  have := blen_256 x.toNat (by omega)
  have e : wrap64 (blen x.toNat : Int) = (blen x.toNat : Int) := IntWalk.wrap64_in _ (by omega)
  rw [e, e]
theorem tabK (T : ByteArray) (hT : ∀ i : Fin 256, T.data.toList[i.val]?.map UInt8.toNat = some (blen i.val)) (x : Int) (h0 : 0 ≤ x) (h1 : x < 256) (h : x.toNat < T.size) (k : Int) (hk0 : 0 ≤ k) (hk : k < 64) :
    wrap64 (k + wrap64 ((T[x.toNat]'h).toNat : Int)) = k + (blen x.toNat : Int) := by
  rw [tab_law T hT _ (by omega) h]
  have := blen_256 x.toNat (by omega)
  have e : wrap64 (blen x.toNat : Int) = (blen x.toNat : Int) := IntWalk.wrap64_in _ (by omega)
  rw [e]
  exact IntWalk.wrap64_in _ (by omega)
theorem blen_shift (x : Int) (k : Nat) (m : Int) (hm : m = ((2 ^ k : Nat) : Int)) (h : m ≤ x) : (blen x.toNat : Int) = k + (blen (x / m).toNat : Int) := by
  subst hm
  have hp : (0 : Int) ≤ ((2 ^ k : Nat) : Int) := Int.natCast_nonneg _
  obtain ⟨n, rfl⟩ := Int.eq_ofNat_of_zero_le (show 0 ≤ x by omega)
  rw [← Int.natCast_ediv, Int.toNat_natCast, Int.toNat_natCast, blen_div n k (by omega)]
  omega

set_option maxRecDepth 100000 in
set_option maxHeartbeats 400000 in
theorem Len64_0 (x : Int) (w : World) (h0 : 0 ≤ x) (h1 : x < 256) :
    Calls Tryz.prog 106 #[.int .u64 x] w fun e w' => e = .returned (.int .i64 (blen x.toNat)) ∧ w = w' := by
  go_enter Tryz.func106, Tryz.ntmps106
  go_wp2
  go_ret
  exact ⟨ret_int (tab0 _ (by decide +kernel) x h0 h1 _), rfl⟩
set_option maxRecDepth 100000 in
set_option maxHeartbeats 400000 in
theorem Len64_1 (x : Int) (w : World) (h0 : 256 ≤ x) (h1 : x < 65536) :
    Calls Tryz.prog 106 #[.int .u64 x] w fun e w' => e = .returned (.int .i64 (blen x.toNat)) ∧ w = w' := by
  go_enter Tryz.func106, Tryz.ntmps106
  go_wp2
  go_ret
  refine ⟨ret_int ?_, rfl⟩
  show wrap64 _ = _
  refine (tabK _ (by decide +kernel) _ (by omega) (by omega) _ _ (by omega) (by omega)).trans ?_
  rw [blen_shift x 8 256 rfl (by omega)]
  omega
set_option maxRecDepth 100000 in
set_option maxHeartbeats 400000 in
theorem Len64_2 (x : Int) (w : World) (h0 : 65536 ≤ x) (h1 : x < 16777216) :
    Calls Tryz.prog 106 #[.int .u64 x] w fun e w' => e = .returned (.int .i64 (blen x.toNat)) ∧ w = w' := by
  go_enter Tryz.func106, Tryz.ntmps106
  go_wp2
  go_ret
  refine ⟨ret_int ?_, rfl⟩
  show wrap64 _ = _
  refine (tabK _ (by decide +kernel) _ (by omega) (by omega) _ _ (by omega) (by omega)).trans ?_
  rw [blen_shift x 16 65536 rfl (by omega)]
  omega
set_option maxRecDepth 100000 in
set_option maxHeartbeats 400000 in
theorem Len64_3 (x : Int) (w : World) (h0 : 16777216 ≤ x) (h1 : x < 4294967296) :
    Calls Tryz.prog 106 #[.int .u64 x] w fun e w' => e = .returned (.int .i64 (blen x.toNat)) ∧ w = w' := by
  go_enter Tryz.func106, Tryz.ntmps106
  go_wp2
  go_ret
  refine ⟨ret_int ?_, rfl⟩
  show wrap64 _ = _
  refine (tabK _ (by decide +kernel) _ (by omega) (by omega) _ _ (by omega) (by omega)).trans ?_
  rw [blen_shift x 16 65536 rfl (by omega), blen_shift (x / 65536) 8 256 rfl (by omega)]
  omega
set_option maxRecDepth 100000 in
set_option maxHeartbeats 400000 in
theorem Len64_4 (x : Int) (w : World) (h0 : 4294967296 ≤ x) (h1 : x < 1099511627776) :
    Calls Tryz.prog 106 #[.int .u64 x] w fun e w' => e = .returned (.int .i64 (blen x.toNat)) ∧ w = w' := by
  go_enter Tryz.func106, Tryz.ntmps106
  go_wp2
  go_ret
  refine ⟨ret_int ?_, rfl⟩
  show wrap64 _ = _
  refine (tabK _ (by decide +kernel) _ (by omega) (by omega) _ _ (by omega) (by omega)).trans ?_
  rw [blen_shift x 32 4294967296 rfl (by omega)]
  omega
set_option maxRecDepth 100000 in
set_option maxHeartbeats 400000 in
theorem Len64_5 (x : Int) (w : World) (h0 : 1099511627776 ≤ x) (h1 : x < 281474976710656) :
    Calls Tryz.prog 106 #[.int .u64 x] w fun e w' => e = .returned (.int .i64 (blen x.toNat)) ∧ w = w' := by
  go_enter Tryz.func106, Tryz.ntmps106
  go_wp2
  go_ret
  refine ⟨ret_int ?_, rfl⟩
  show wrap64 _ = _
  refine (tabK _ (by decide +kernel) _ (by omega) (by omega) _ _ (by omega) (by omega)).trans ?_
  rw [blen_shift x 32 4294967296 rfl (by omega), blen_shift (x / 4294967296) 8 256 rfl (by omega)]
  omega
set_option maxRecDepth 100000 in
set_option maxHeartbeats 400000 in
theorem Len64_6 (x : Int) (w : World) (h0 : 281474976710656 ≤ x) (h1 : x < 72057594037927936) :
    Calls Tryz.prog 106 #[.int .u64 x] w fun e w' => e = .returned (.int .i64 (blen x.toNat)) ∧ w = w' := by
  go_enter Tryz.func106, Tryz.ntmps106
  go_wp2
  go_ret
  refine ⟨ret_int ?_, rfl⟩
  show wrap64 _ = _
  refine (tabK _ (by decide +kernel) _ (by omega) (by omega) _ _ (by omega) (by omega)).trans ?_
  rw [blen_shift x 32 4294967296 rfl (by omega), blen_shift (x / 4294967296) 16 65536 rfl (by omega)]
  omega
set_option maxRecDepth 100000 in
set_option maxHeartbeats 400000 in
theorem Len64_7 (x : Int) (w : World) (h0 : 72057594037927936 ≤ x) (h1 : x < 18446744073709551616) :
    Calls Tryz.prog 106 #[.int .u64 x] w fun e w' => e = .returned (.int .i64 (blen x.toNat)) ∧ w = w' := by
  go_enter Tryz.func106, Tryz.ntmps106
  go_wp2
  go_ret
  refine ⟨ret_int ?_, rfl⟩
  show wrap64 _ = _
  refine (tabK _ (by decide +kernel) _ (by omega) (by omega) _ _ (by omega) (by omega)).trans ?_
  rw [blen_shift x 32 4294967296 rfl (by omega), blen_shift (x / 4294967296) 16 65536 rfl (by omega), blen_shift (x / 4294967296 / 65536) 8 256 rfl (by omega)]
  omega
theorem Len64_any (x : Int) (w : World) (h0 : 0 ≤ x) (h1 : x < 18446744073709551616) :
    Calls Tryz.prog 106 #[.int .u64 x] w fun e w' => e = .returned (.int .i64 (blen x.toNat)) ∧ w = w' := by
  by_cases a1 : x < 256
  · exact Len64_0 x w h0 a1
  by_cases a2 : x < 65536
  · exact Len64_1 x w (by omega) a2
  by_cases a3 : x < 16777216
  · exact Len64_2 x w (by omega) a3
  by_cases a4 : x < 4294967296
  · exact Len64_3 x w (by omega) a4
  by_cases a5 : x < 1099511627776
  · exact Len64_4 x w (by omega) a5
  by_cases a6 : x < 281474976710656
  · exact Len64_5 x w (by omega) a6
  by_cases a7 : x < 72057594037927936
  · exact Len64_6 x w (by omega) a7
  · exact Len64_7 x w (by omega) h1

theorem Bits_any (x : Int) (w : World) (h0 : 0 ≤ x) (h1 : x < 18446744073709551616) :
    Calls Tryz.prog 149 #[.int .u64 x] w fun e w' => e = .returned (.int .i64 (blen x.toNat)) ∧ w = w' := by
  go_enter Tryz.func149, Tryz.ntmps149
  go_wp2_with (go_at_call 106; refine (Len64_any _ _ (by omega) (by omega)).mono ?_; rintro e w' ⟨rfl, rfl⟩)
  go_ret
  exact ⟨rfl, rfl⟩
end Go.Proofs.YtmejoococajikaaGreat

/- Blocks that are known whole; the closure that lays bits down. -/
namespace Go.Proofs.YtmejoococajikaaGreat
open Go.RowKit

/-- Block g is just the cells cs of type t, none of them frozen. -/
def Blk (w : World) (g : Nat) (t : TypeId) (cs : Array Value) : Prop := w.heap[g]? = some (.cells cs t (0, 0))
section
variable {w w' : World} {g : Nat} {t : TypeId} {cs : Array Value}
theorem Blk.lt (h : Blk w g t cs) : g < w.heap.size := by
  rcases Nat.lt_or_ge g w.heap.size with hlt | hge
  · exact hlt
  · unfold Blk at h; rw [Array.getElem?_eq_none hge] at h; cases h
theorem Blk.cell (h : Blk w g t cs) (i : Nat) : w.cell? ⟨g, i, none⟩ = cs[i]? := cell_of_row w g i cs t (0, 0) h
theorem Blk.frozen (h : Blk w g t cs) (i : Nat) : w.frozen? ⟨g, i, none⟩ = false := by
  unfold Blk at h
  simp [World.frozen?, h]
theorem Blk.new (w : World) (t : TypeId) (cs : Array Value) : Blk (w.alloc (.cells cs t)) w.heap.size t cs := heap_alloc_new w _
theorem Blk.drew (h : Blk w g t cs) : Blk w.drew g t cs := h
theorem Blk.drewN (h : Blk w g t cs) (n : Nat) : Blk (w.drewN n) g t cs := h
theorem Blk.alloc (h : Blk w g t cs) (o : Obj) : Blk (w.alloc o) g t cs := (Below.heap_alloc w o g h.lt).trans h
theorem Blk.set_ (h : Blk w g t cs) (i : Nat) (u : Value) : Blk (w.setCell ⟨g, i, none⟩ u) g t (cs.setIfInBounds i u) := by
  unfold Blk at h ⊢
  simp [World.setCell, Array.getElem?_modify, h]
theorem Blk.far (h : Blk w g t cs) {p : Addr} (hp : g ≠ p.block) (u : Value) : Blk (w.setCell p u) g t cs := (Below.heap_setCell w p u g hp).trans h
theorem Blk.below {B : Nat} (h : Blk w g t cs) (hb : Below B w w') (hg : g < B) : Blk w' g t cs := (hb.block g hg).trans h
theorem Blk.below_ (h : Blk w g t cs) (hb : Below w.heap.size w w') : Blk w' g t cs := (hb.block g h.lt).trans h
theorem Blk.grown {row : Option Nat} (h : Blk w g t cs) (hb : w.grownBy w' row) (hg : some g ≠ row) : Blk w' g t cs := (hb.block g h.lt hg).trans h
end

/-- What the closure leaves: the bytes cs', the place moved on, all else as it was. -/
def PutOut (w : World) (B g bo ba N : Nat) (at' : Nat) (cs : Array Value) (e : Ending) (w' : World) : Prop :=
  e = .returned (.tuple #[]) ∧ Blk w' g 5 cs ∧ Blk w' ba 3 #[.int .i64 at'] ∧ Blk w' bo 38 #[.slice (some ⟨g, 0, none⟩) N N] ∧ Below B w w' ∧ w'.heap.size = w.heap.size

set_option maxRecDepth 100000 in
set_option maxHeartbeats 1000000 in
/-- The bits fit into the byte that is begun. -/
theorem put1_any (w : World) (B g bo ba N at_ n : Nat) (c y : Int) (hat : Blk w ba 3 #[.int .i64 at_]) (hout : Blk w bo 38 #[.slice (some ⟨g, 0, none⟩) N N]) (cs : Array Value) (hg : Blk w g 5 cs)
    (hB : B ≤ g ∧ B ≤ ba ∧ B ≤ bo) (hd : g ≠ ba ∧ g ≠ bo ∧ ba ≠ bo)
    (hy : cs[at_ / 8]? = some (.int .u8 y)) (hn1 : n ≤ 8 - at_ % 8) (hn2 : n ≤ 8) (hN : at_ / 8 < N) (hNb : N ≤ 1000000) (_hc : 0 ≤ c ∧ c < 256) (_hy0 : 0 ≤ y ∧ y < 256) :
    Calls Tryz.prog 152 #[.int .u8 c, .int .i64 n, .pointer (some ⟨ba, 0, none⟩), .pointer (some ⟨bo, 0, none⟩)] w
      (PutOut w B g bo ba N (at_ + n) (cs.setIfInBounds (at_ / 8) (.int .u8 (bits BinOp.or IntKind.u8 y (c * 2 ^ (8 - at_ % 8 - n) % 256))))) := by
  obtain ⟨d1, d2, d3⟩ := hd
  have d1' := d1.symm; have d2' := d2.symm; have d3' := d3.symm
  have c1 : w.cell? ⟨ba, 0, none⟩ = some (.int .i64 at_) := by rw [hat.cell]; rfl
  have c2 : w.cell? ⟨bo, 0, none⟩ = some (.slice (some ⟨g, 0, none⟩) N N) := by rw [hout.cell]; rfl
  have c3 : w.cell? ⟨g, at_ / 8, none⟩ = some (.int .u8 y) := by rw [hg.cell]; exact hy
  have f1 := hat.frozen 0
  have f3 := hg.frozen (at_ / 8)
  have H1 := Lib.hid hat; have H2 := Lib.hid hout; have H3 := Lib.hid hg; have H4 := Lib.hid hy
  clear hat hout hg hy
  go_enter Tryz.func152, Tryz.ntmps152
  go_wp2_with fail
  go_region
  all_goals go_wp2_with fail
  go_end0
  refine ⟨rfl, ?_, ?_, ?_, ?_, ?_⟩
  · exact (H3.out.set_ _ _).far d1 _
  · have h := (H1.out.far (p := ⟨g, at_ / 8, none⟩) d1' (.int .u8 (bits BinOp.or IntKind.u8 y (c * 2 ^ (8 - at_ % 8 - n) % 256)))).set_ 0 (.int .i64 (at_ + n))
    exact h
  · exact (H2.out.far d2' _).far d3' _
  · exact (((Below.refl B w).setCell hB.1 _).setCell hB.2.1 _).drew
  · simp [World.setCell]

set_option maxRecDepth 100000 in
set_option maxHeartbeats 2000000 in
/-- The bits go into two bytes. -/
theorem put2_any (w : World) (B g bo ba N at_ n : Nat) (c y z : Int) (hat : Blk w ba 3 #[.int .i64 at_]) (hout : Blk w bo 38 #[.slice (some ⟨g, 0, none⟩) N N]) (cs : Array Value) (hg : Blk w g 5 cs)
    (hB : B ≤ g ∧ B ≤ ba ∧ B ≤ bo) (hd : g ≠ ba ∧ g ≠ bo ∧ ba ≠ bo)
    (hy : cs[at_ / 8]? = some (.int .u8 y)) (hz : cs[at_ / 8 + 1]? = some (.int .u8 z)) (hn1 : 8 - at_ % 8 < n) (hn2 : n ≤ 8) (hN : at_ / 8 + 1 < N) (hNb : N ≤ 1000000) (_hc : 0 ≤ c ∧ c < 256) (_hy0 : 0 ≤ y ∧ y < 256) (_hz0 : 0 ≤ z ∧ z < 256) :
    Calls Tryz.prog 152 #[.int .u8 c, .int .i64 n, .pointer (some ⟨ba, 0, none⟩), .pointer (some ⟨bo, 0, none⟩)] w
      (PutOut w B g bo ba N (at_ + n) ((cs.setIfInBounds (at_ / 8) (.int .u8 (bits BinOp.or IntKind.u8 y (c / 2 ^ (n - (8 - at_ % 8)))))).setIfInBounds (at_ / 8 + 1) (.int .u8 (bits BinOp.or IntKind.u8 z (c * 2 ^ (8 - n + (8 - at_ % 8)) % 256))))) := by
  obtain ⟨d1, d2, d3⟩ := hd
  have d1' := d1.symm; have d2' := d2.symm; have d3' := d3.symm
  have c1 : w.cell? ⟨ba, 0, none⟩ = some (.int .i64 at_) := by rw [hat.cell]; rfl
  have c2 : w.cell? ⟨bo, 0, none⟩ = some (.slice (some ⟨g, 0, none⟩) N N) := by rw [hout.cell]; rfl
  have c3 : w.cell? ⟨g, at_ / 8, none⟩ = some (.int .u8 y) := by rw [hg.cell]; exact hy
  have c4 : w.cell? ⟨g, at_ / 8 + 1, none⟩ = some (.int .u8 z) := by rw [hg.cell]; exact hz
  have f1 := hat.frozen 0
  have f3 := hg.frozen (at_ / 8)
  have f4 := hg.frozen (at_ / 8 + 1)
  have H1 := Lib.hid hat; have H2 := Lib.hid hout; have H3 := Lib.hid hg; have H4 := Lib.hid hy; have H5 := Lib.hid hz
  clear hat hout hg hy hz
  go_enter Tryz.func152, Tryz.ntmps152
  go_wp2_with fail
  go_region
  all_goals go_wp2_with fail
  go_region
  all_goals go_wp2_with fail
  go_end0
  refine ⟨rfl, ?_, ?_, ?_, ?_, ?_⟩
  · exact ((H3.out.set_ _ _).set_ _ _).far d1 _
  · have h := ((H1.out.far (p := ⟨g, at_ / 8, none⟩) d1' (.int .u8 (bits BinOp.or IntKind.u8 y (c / 2 ^ (n - (8 - at_ % 8)))))).far (p := ⟨g, at_ / 8 + 1, none⟩) d1' (.int .u8 (bits BinOp.or IntKind.u8 z (c * 2 ^ (8 - n + (8 - at_ % 8)) % 256)))).set_ 0 (.int .i64 (at_ + n))
    exact h
  · exact ((H2.out.far d2' _).far d2' _).far d3' _
  · exact ((((Below.refl B w).setCell hB.1 _).setCell hB.1 _).setCell hB.2.1 _).drew.drew
  · simp [World.setCell]
end Go.Proofs.YtmejoococajikaaGreat

/- How many bits several numbers need: widths.Most and its reference. -/
namespace Go.Proofs.YtmejoococajikaaGreat
open Go.RowKit

theorem take_snoc (l : List Int) (k : Nat) (h : k < l.length) : l.take (k + 1) = l.take k ++ [l.getD k 0] := by
  rw [List.take_succ_eq_append_getElem h]; simp [List.getD, List.getElem?_eq_getElem h]
theorem getD_mem (l : List Int) (k : Nat) (h : k < l.length) : l.getD k 0 ∈ l := by
  simp [List.getD, List.getElem?_eq_getElem h]

def orAll (l : List Int) : Nat := l.foldl (fun m x => m ||| x.toNat) 0
def mostBits (l : List Int) : Nat := l.foldl (fun m x => max m (blen x.toNat)) 0
theorem orAll_snoc (l : List Int) (x : Int) : orAll (l ++ [x]) = orAll l ||| x.toNat := by simp [orAll]
theorem mostBits_snoc (l : List Int) (x : Int) : mostBits (l ++ [x]) = max (mostBits l) (blen x.toNat) := by simp [mostBits]
theorem blen_orAll (l : List Int) : blen (orAll l) = mostBits l := by
  have : ∀ (l : List Int) (m : Nat), blen (l.foldl (fun m x => m ||| x.toNat) m) = l.foldl (fun m x => max m (blen x.toNat)) (blen m) := by
    intro l
    induction l with
    | nil => intro m; rfl
    | cons a l ih => intro m; rw [List.foldl_cons, List.foldl_cons, ih, blen_or]
  exact this l 0
theorem orAll_lt (l : List Int) (h : U64 l) : orAll l < 18446744073709551616 := by
  have : ∀ (l : List Int) (m : Nat), U64 l → m < 2 ^ 64 → l.foldl (fun m x => m ||| x.toNat) m < 2 ^ 64 := by
    intro l
    induction l with
    | nil => intro m _ h; exact h
    | cons a l ih =>
      intro m hl hm
      rw [List.foldl_cons]
      have := hl a List.mem_cons_self
      exact ih _ (fun x hx => hl x (List.mem_cons_of_mem _ hx)) (Nat.or_lt_two_pow hm (by omega))
  exact this l 0 h (by omega)
theorem U64.take {l : List Int} (h : U64 l) (k : Nat) : U64 (l.take k) := fun x hx => h x (List.mem_of_mem_take hx)
theorem U8.take {l : List Int} (h : U8 l) (k : Nat) : U8 (l.take k) := fun x hx => h x (List.mem_of_mem_take hx)
theorem U8.drop {l : List Int} (h : U8 l) (k : Nat) : U8 (l.drop k) := fun x hx => h x (List.mem_of_mem_drop hx)
theorem mostBits_le (l : List Int) (h : U64 l) : mostBits l ≤ 64 := by rw [← blen_orAll]; exact blen_64 _ (orAll_lt l h)

set_option maxRecDepth 100000 in
set_option maxHeartbeats 400000 in
theorem Most_any (l : List Int) (A : Option Addr) (n cap : Nat) (w : World) (hr : Ri w .u64 A n l) (hu : U64 l) (hc : n ≤ 9223372036854775807) :
    Calls Tryz.prog 119 #[.slice A n cap] w fun e w' => e = .returned (.int .i64 (mostBits l)) ∧ w = w' := by
  have HN := Lib.hid hr.len
  have HR := Lib.hid hr; clear hr
  have HU := Lib.hid hu; clear hu
  go_enter Tryz.func119, Tryz.ntmps119
  go_wp2_with fail
  go_loop [3, 5, 8] (fun a _ i => ∃ k m : Nat, k ≤ n ∧ i = .int .i64 k ∧ a = .int .u64 m ∧ m < 18446744073709551616 ∧ Hid (m = orAll (l.take k))) (fun _ _ i => n - (intOf i).toNat)
  case atStart => exact ⟨0, 0, Nat.zero_le _, rfl, rfl, by omega, Lib.hid (by simp [orAll])⟩
  case round =>
    obtain ⟨k, m, hk, rfl, rfl, hm, hmo⟩ := hrel
    by_cases hlt : k < n
    · have hkl : k < l.length := by rw [HN.out]; exact hlt
      obtain ⟨b, o, hA, _, hcell⟩ := HR.out.at_ hlt
      subst hA
      have hy := HU.out _ (getD_mem l k hkl)
      obtain ⟨y, hyy⟩ : ∃ y : Nat, (y : Int) = l.getD k 0 := ⟨(l.getD k 0).toNat, by omega⟩
      rw [← hyy] at hcell hy
      obtain ⟨_, hy1⟩ := hy
      have HY := Lib.hid hyy; clear hyy hkl
      go_wp2
      go_round
      case rel =>
        refine ⟨k + 1, m ||| y, by omega, by go_num, by rw [u64_or_nat _ _ (by omega) (by omega)], Nat.or_lt_two_pow (n := 64) (by omega) (by omega), Lib.hid ?_⟩
        rw [take_snoc l k (by rw [HN.out]; exact hlt), orAll_snoc, ← hmo.out, ← HY.out]; rfl
      case measure => simp [intOf]; omega
    · go_wp2_with (go_at_call 149; refine (Bits_any _ _ (by omega) (by omega)).mono ?_; rintro e w' ⟨rfl, rfl⟩)
      go_ret
      refine ⟨ret_int ?_, rfl⟩
      rw [hmo.out, blen_orAll, List.take_of_length_le (by rw [HN.out]; omega)]

theorem div2_pow (x k : Nat) : x / 2 ^ k / 2 = x / 2 ^ (k + 1) := by rw [Nat.div_div_eq_div_mul, Nat.pow_succ]
end Go.Proofs.YtmejoococajikaaGreat

/- Package bits: fits, Size, the closure, Pack. -/
namespace Go.Proofs.YtmejoococajikaaGreat
open Go.RowKit

def bytesArr (X N : Nat) : Array Value := ((bytesOf X N).map (Value.int .u8)).toArray
theorem bytesArr_get (X N j : Nat) (h : j < N) : (bytesArr X N)[j]? = some (.int .u8 (byteAt X N j : Int)) := by
  simp [bytesArr, bytesOf_get X N j h]
theorem bytesArr_add (X N j d : Nat) (hj : j < N) (hd : byteAt X N j + d < 256) :
    (bytesArr X N).setIfInBounds j (.int .u8 ((byteAt X N j + d : Nat) : Int)) = bytesArr (X + d * 256 ^ (N - 1 - j)) N := by
  unfold bytesArr
  rw [bytesOf_add X N j d hj hd]
  simp [List.map_set]
theorem cast_shl (c k : Nat) : (c : Int) * 2 ^ k % 256 = ((c * 2 ^ k % 256 : Nat) : Int) := by
  rw [Int.natCast_emod, Int.natCast_mul, Int.natCast_pow]; rfl
theorem cast_shr (c k : Nat) : (c : Int) / 2 ^ k = ((c / 2 ^ k : Nat) : Int) := by
  rw [Int.natCast_ediv, Int.natCast_pow]; rfl

theorem bytesOf_u8 (X N : Nat) : U8 (bytesOf X N) := by
  intro y hy
  obtain ⟨j, _, rfl⟩ := List.mem_map.1 hy
  have := byteAt_lt X N j
  omega
/-- The closure of Pack: n bits of value c are laid down behind. -/
theorem put_any (w : World) (B g bo ba N at_ n c X : Nat) (hat : Blk w ba 3 #[.int .i64 at_]) (hout : Blk w bo 38 #[.slice (some ⟨g, 0, none⟩) N N]) (hg : Blk w g 5 (bytesArr X N))
    (hB : B ≤ g ∧ B ≤ ba ∧ B ≤ bo) (hd : g ≠ ba ∧ g ≠ bo ∧ ba ≠ bo) (hX : X % 2 ^ (8 * N - at_) = 0) (hn0 : 1 ≤ n) (hn : n ≤ 8) (hc : c < 2 ^ n) (hN : at_ + n ≤ 8 * N) (hNb : N ≤ 1000000) :
    Calls Tryz.prog 152 #[.int .u8 c, .int .i64 n, .pointer (some ⟨ba, 0, none⟩), .pointer (some ⟨bo, 0, none⟩)] w
      (PutOut w B g bo ba N (at_ + n) (bytesArr (X + c * 2 ^ (8 * N - at_ - n)) N)) := by
  have hc256 : c < 256 := Nat.lt_of_lt_of_le hc (Nat.pow_le_pow_right (n := 2) (j := 8) (by omega) hn)
  by_cases h : n ≤ 8 - at_ % 8
  · obtain ⟨e1, e2, e3⟩ := put_fits X N at_ n c hN hn0 hX hc h
    have hj : at_ / 8 < N := by omega
    have hb := byteAt_lt X N (at_ / 8)
    have := put1_any w B g bo ba N at_ n c (byteAt X N (at_ / 8) : Nat) hat hout _ hg hB hd (bytesArr_get X N _ hj) h hn hj hNb (by omega) (by omega)
    rw [cast_shl, u8_or_nat _ _ hb (by omega), e1, bytesArr_add X N _ _ hj e2, ← e3] at this
    exact this
  · obtain ⟨e1, e2, e3, e4, e5⟩ := put_two X N at_ n c hN hX hc (by omega) hn
    have hj : at_ / 8 < N := by omega
    have hb := byteAt_lt X N (at_ / 8)
    have := put2_any w B g bo ba N at_ n c (byteAt X N (at_ / 8) : Nat) (byteAt X N (at_ / 8 + 1) : Nat) hat hout _ hg hB hd (bytesArr_get X N _ hj) (bytesArr_get X N _ e4) (by omega) hn e4 hNb (by omega) (by omega) (by rw [e3]; omega)
    have hlt : c / 2 ^ (n - (8 - at_ % 8)) < 256 := Nat.lt_of_le_of_lt (Nat.div_le_self _ _) hc256
    rw [cast_shl, cast_shr, u8_or_nat _ _ hb hlt, e1, u8_or_nat _ _ (byteAt_lt _ _ _) (by omega), e3, Nat.zero_or, bytesArr_add X N _ _ hj e2] at this
    have hz : byteAt (X + c / 2 ^ (n - (8 - at_ % 8)) * 256 ^ (N - 1 - at_ / 8)) N (at_ / 8 + 1) = 0 := by
      rw [byteAt_add X N _ _ _ hj e4 e2, if_neg (by omega), e3]
    have h2 := bytesArr_add (X + c / 2 ^ (n - (8 - at_ % 8)) * 256 ^ (N - 1 - at_ / 8)) N (at_ / 8 + 1) (c * 2 ^ (8 - n + (8 - at_ % 8)) % 256) e4 (by rw [hz]; omega)
    rw [hz, Nat.zero_add] at h2
    rw [h2, ← e5] at this
    exact this

def fitsB (m x : Int) : Bool := decide (0 ≤ m ∧ m ≤ 4096 ∧ 0 ≤ x ∧ x ≤ 64)
set_option maxRecDepth 100000 in
set_option maxHeartbeats 400000 in
theorem fits_any (m x : Int) (w : World) :
    Calls Tryz.prog 150 #[.int .i64 m, .int .i64 x] w fun e w' => e = .returned (.bool (fitsB m x)) ∧ w = w' := by
  rcases (show m < 0 ∨ (0 ≤ m ∧ 4096 < m) ∨ (0 ≤ m ∧ m ≤ 4096 ∧ x < 0) ∨ (0 ≤ m ∧ m ≤ 4096 ∧ 0 ≤ x ∧ 64 < x) ∨ (0 ≤ m ∧ m ≤ 4096 ∧ 0 ≤ x ∧ x ≤ 64) by omega) with h | ⟨h1, h2⟩ | ⟨h1, h2, h3⟩ | ⟨h1, h2, h3, h4⟩ | ⟨h1, h2, h3, h4⟩
  all_goals
    first | have HF : Hid (fitsB m x = false) := decide_eq_false (by omega) | have HF : Hid (fitsB m x = true) := decide_eq_true (by omega)
    go_enter Tryz.func150, Tryz.ntmps150
    go_wp2_with fail
    go_ret
    exact ⟨ret_bool (by rw [HF.out] <;> first | rfl | exact decide_eq_false (by omega) | exact decide_eq_true (by omega)), rfl⟩

def sizeN (m x : Int) : Int := if fitsB m x then (m * x + 7) / 8 else 0
set_option maxRecDepth 100000 in
set_option maxHeartbeats 400000 in
theorem Size_any (m x : Int) (w : World) :
    Calls Tryz.prog 151 #[.int .i64 m, .int .i64 x] w fun e w' => e = .returned (.int .i64 (sizeN m x)) ∧ w = w' := by
  cases hf : fitsB m x
  · have HS : Hid (sizeN m x = 0) := by show sizeN m x = 0; unfold sizeN; rw [hf]; rfl
    have HF := Lib.hid hf; clear hf
    go_enter Tryz.func151, Tryz.ntmps151
    go_wp2_with fail
    refine (fits_any _ _ _).mono ?_; rintro e w' ⟨rfl, rfl⟩
    rw [HF.out]
    go_wp2_with fail
    go_ret
    exact ⟨ret_int HS.out.symm, rfl⟩
  · have HS : Hid (sizeN m x = (m * x + 7) / 8) := by show sizeN m x = _; unfold sizeN; rw [hf]; rfl
    have hb : 0 ≤ m ∧ m ≤ 4096 ∧ 0 ≤ x ∧ x ≤ 64 := by simpa [fitsB] using hf
    have h1 : 0 ≤ m * x := Int.mul_nonneg hb.1 hb.2.2.1
    have h2 : m * x ≤ 4096 * 64 := Int.mul_le_mul hb.2.1 hb.2.2.2 hb.2.2.1 (by omega)
    have HF := Lib.hid hf; clear hf
    go_enter Tryz.func151, Tryz.ntmps151
    go_wp2_with fail
    refine (fits_any _ _ _).mono ?_; rintro e w' ⟨rfl, rfl⟩
    rw [HF.out]
    go_wp2_with fail
    go_ret
    exact ⟨ret_int HS.out.symm, rfl⟩

end Go.Proofs.YtmejoococajikaaGreat

/- The reference's codes and closest widths; the document's examples. -/
namespace Go.Proofs.YtmejoococajikaaGreat
open Go.RowKit

set_option maxRecDepth 100000 in
set_option maxHeartbeats 400000 in
theorem refCode_any (x : Int) (w : World) :
    Calls Tryz.prog 91 #[.int .i64 x] w fun e w' => e = .returned (.int .i64 (wCode x)) ∧ w = w' := by
  go_enter Tryz.func91, Tryz.ntmps91
  go_wp2_with fail
  go_loop [3] (fun i => ∃ k : Nat, k ≤ 32 ∧ i = .int .i64 k ∧ Hid (∀ d : Nat, d < k → wOf d ≠ x)) (fun i => 32 - (intOf i).toNat)
  case atStart => exact ⟨0, Nat.zero_le _, rfl, Lib.hid (fun d hd => absurd hd (by omega))⟩
  case round =>
    obtain ⟨k, hk, rfl, hno⟩ := hrel
    by_cases hlt : k < 32
    · have hr := wOf_range k
      go_wp2_with fail
      refine (refOf_any _ _ (by omega) (by omega)).mono ?_
      rintro e w' ⟨rfl, rfl⟩
      obtain ⟨t, ht⟩ : ∃ t, t = wOf k := ⟨_, rfl⟩
      rw [← ht] at hr ⊢
      have HT := Lib.hid ht; clear ht
      by_cases hx : t = x
      · subst hx
        go_wp2_with fail
        go_ret
        exact ⟨ret_int (wCode_of k _ (by omega) (by omega) HT.out.symm).symm, rfl⟩
      · have hne : (t == x) = false := by simpa using hx
        go_wp2_with fail
        go_round
        case rel =>
          refine ⟨k + 1, by omega, by go_num, Lib.hid fun d hd => ?_⟩
          by_cases e : d = k
          · subst e; rw [← HT.out]; exact hx
          · exact hno.out d (by omega)
        case measure => simp [intOf]; omega
    · go_wp2_with fail
      go_ret
      exact ⟨ret_int (wCode_none x fun c hc => hno.out c (by omega)).symm, rfl⟩

set_option maxRecDepth 100000 in
set_option maxHeartbeats 400000 in
theorem refClosest_any (x : Int) (w : World) :
    Calls Tryz.prog 87 #[.int .i64 x] w fun e w' => e = .returned (.int .i64 (wClosest x)) ∧ w = w' := by
  go_enter Tryz.func87, Tryz.ntmps87
  go_wp2_with fail
  go_loop [3] (fun i => ∃ k : Nat, k ≤ 32 ∧ i = .int .i64 k ∧ Hid (∀ d : Nat, d < k → wOf d < x)) (fun i => 32 - (intOf i).toNat)
  case atStart => exact ⟨0, Nat.zero_le _, rfl, Lib.hid (fun d hd => absurd hd (by omega))⟩
  case round =>
    obtain ⟨k, hk, rfl, hno⟩ := hrel
    by_cases hlt : k < 32
    · have hr := wOf_range k
      go_wp2_with fail
      refine (refOf_any _ _ (by omega) (by omega)).mono ?_
      rintro e w' ⟨rfl, rfl⟩
      obtain ⟨t, ht⟩ : ∃ t, t = wOf k := ⟨_, rfl⟩
      rw [← ht] at hr ⊢
      have HT := Lib.hid ht; clear ht
      by_cases hx : x ≤ t
      · go_wp2_with fail
        refine (refOf_any _ _ (by omega) (by omega)).mono ?_
        rintro e w' ⟨rfl, rfl⟩
        go_wp2_with fail
        go_ret
        exact ⟨ret_int (wClosest_of x k hlt (by rw [← HT.out]; exact hx) fun d hd => by have := hno.out d hd; omega), rfl⟩
      · go_wp2_with fail
        go_round
        case rel =>
          refine ⟨k + 1, by omega, by go_num, Lib.hid fun d hd => ?_⟩
          by_cases e : d = k
          · subst e; rw [← HT.out]; omega
          · exact hno.out d (by omega)
        case measure => simp [intOf]; omega
    · go_wp2_with fail
      go_ret
      exact ⟨ret_int (wClosest_none x fun c hc => by have := hno.out c (by omega); omega).symm, rfl⟩
end Go.Proofs.YtmejoococajikaaGreat

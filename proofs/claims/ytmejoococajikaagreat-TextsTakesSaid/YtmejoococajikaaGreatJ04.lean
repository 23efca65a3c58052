/- Joined texts: Str, Base, Str2, PutC, BitsA. Each has its own head line. No condition beyond those that its theorems state. -/
import Derived.Sort.KeysCollected
import Derived.RegionTactic
import Derived.BigRegion
import Derived.Deep.QuietTactic
import Derived.BigQuiet
import Derived.Deep.OwnRows
import Derived.Test.YtmejoococajikaaGreatJ01
import Derived.Test.YtmejoococajikaaGreatProg
import Derived.Test.YtmejoococajikaaGreatJ03
import Derived.Test.YtmejoococajikaaGreatJ02
set_option linter.unusedVariables false

/- Rows of strings: what is read of them; what the call itself owns. -/
namespace Go.Proofs.YtmejoococajikaaGreat
open Go.RowKit

/-- A slice of n strings that reads as l. -/
def Rs (w : World) (A : Option Addr) (n : Nat) (l : List ByteArray) : Prop := Rd w 1 A n (l.map Value.string)
section
variable {w w' : World} {A : Option Addr} {n : Nat} {l : List ByteArray}
theorem Rs.len (h : Rs w A n l) : l.length = n := by have := h.1; simpa using this
theorem Rs.nil (w : World) (A : Option Addr) : Rs w A 0 [] := Rd.nil w 1 A
theorem Rs.below (h : Rs w A n l) (hb : Below w.heap.size w w') : Rs w' A n l := Rd.below h hb
theorem Rs.drewN (h : Rs w A n l) (m : Nat) : Rs (w.drewN m) A n l := h
theorem Rs.alloc (h : Rs w A n l) (o : Obj) : Rs (w.alloc o) A n l := Rd.alloc h o
theorem Rs.grown (h : Rs w A n l) {row : Option Nat} (hg : w.grownBy w' row) (hr : ∀ g b o, row = some g → A = some ⟨b, o, none⟩ → g ≠ b) : Rs w' A n l := Rd.grown h hg hr
theorem Rs.of_own {base : Nat} {e : TypeId} {c : Nat} (h : w.ownsRow base e 1 (.slice A n c) n (l.map Value.string)) : Rs w A n l := Rd.of_own h
theorem Rs.all (h : Rs w A n l) (hl : 0 < n) : ∃ b o, A = some ⟨b, o, none⟩ ∧ b < w.heap.size ∧ ∀ j (hj : j < l.length), w.cell? ⟨b, o + j, none⟩ = some (.string l[j]) := by
  obtain ⟨b, o, e, hb, hc⟩ := h.2 hl
  exact ⟨b, o, e, hb, fun j hj => hc j _ (by simp [List.getElem?_map, List.getElem?_eq_getElem hj])⟩
/-- A cut 's[:m]' of a row that is longer. -/
theorem Rs.first (h : Rs w A n l) {m : Nat} (hm : m ≤ n) : Rs w A m (l.take m) :=
  ⟨by have := h.len; simp; omega, fun h0 => by
    obtain ⟨b, o, e, hb, hc⟩ := h.2 (by omega)
    refine ⟨b, o, e, hb, fun j u hu => hc j u ?_⟩
    rw [List.map_take] at hu
    have hj : j < m := by
      rcases Nat.lt_or_ge j m with hlt | hge
      · exact hlt
      · rw [List.getElem?_eq_none (by rw [List.length_take]; omega)] at hu; cases hu
    rwa [List.getElem?_take_of_lt hj] at hu⟩
end

/-- Bytes that stand ahead of one another, as the sort orders them. -/
theorem before_lt : ∀ (a b : List UInt8), bytesBefore a b = true ↔ a < b
  | [], [] => by simp [bytesBefore]
  | [], _ :: _ => by simp [bytesBefore]
  | _ :: _, [] => by simp [bytesBefore]
  | x :: r, y :: s => by
    rw [List.cons_lt_cons_iff, ← before_lt r s]
    simp [bytesBefore]
theorem before_le {a b : List UInt8} (h : bytesBefore a b = true) : a ≤ b := List.le_of_lt ((before_lt a b).1 h)
/-- What rises is what the sort gives of any row with the same members. -/
theorem sort_of_rising {ss l : List (List UInt8)} (hp : ss.Perm l) (hl : l.Pairwise fun a b => bytesBefore a b = true) : ss.mergeSort (fun x y => decide (x ≤ y)) = l := by
  have tr : ∀ a b c : List UInt8, decide (a ≤ b) = true → decide (b ≤ c) = true → decide (a ≤ c) = true := fun a b c h1 h2 => by simp only [decide_eq_true_eq] at *; exact List.le_trans h1 h2
  have tot : ∀ a b : List UInt8, (decide (a ≤ b) || decide (b ≤ a)) = true := fun a b => by simp only [Bool.or_eq_true, decide_eq_true_eq]; exact List.le_total a b
  refine List.Perm.eq_of_pairwise (le := fun a b => decide (a ≤ b) = true) (fun a b _ _ h1 h2 => ?_) (List.pairwise_mergeSort tr tot ss) (hl.imp fun h => decide_eq_true (before_le h)) ((List.mergeSort_perm ss _).trans hp)
  simp only [decide_eq_true_eq] at h1 h2
  exact List.le_antisymm h1 h2
theorem encStr_map (l : List ByteArray) : (l.map fun s => s.data.toList).map encStr = l.map Value.string := by
  rw [List.map_map]
  refine List.map_congr_left fun s _ => ?_
  show Value.string ⟨s.data.toList.toArray⟩ = Value.string s
  rw [Array.toArray_toList]
end Go.Proofs.YtmejoococajikaaGreat

/- Facts on the program's types; copies of bytes: slices.Clone, bytes.Clone. -/
namespace Go.Proofs.YtmejoococajikaaGreat
open Go.RowKit
theorem info_u8 : (Tryz.prog.info? 5).map (fun i => (i.zero, i.size, i.bytes)) = some (some (.int .u8 0), 1, 1) := by kernel_rfl
theorem info_u64 : (Tryz.prog.info? 109).map (fun i => (i.zero, i.size, i.bytes)) = some (some (.int .u64 0), 1, 8) := by kernel_rfl
theorem info_int : (Tryz.prog.info? 3).map (fun i => (i.zero, i.size, i.bytes)) = some (some (.int .i64 0), 1, 8) := by kernel_rfl
theorem info_bool : (Tryz.prog.info? 4).map (fun i => (i.zero, i.size, i.bytes)) = some (some (.bool false), 1, 1) := by kernel_rfl

theorem Ri.oneCell (k : IntKind) (l : List Int) : ∀ u ∈ l.map (Value.int k), u.oneCell' = true := by
  intro u hu
  obtain ⟨x, _, rfl⟩ := List.mem_map.1 hu
  rfl

/-- A cut 's[i:]' whose address the walk has not yet parted on. -/
theorem Ri.restIf {w : World} {k : IntKind} {n : Nat} {l : List Int} {b o : Nat} (h : Ri w k (some ⟨b, o, none⟩) n l) {i : Nat} (hi : i ≤ n) {cap : Nat} (hc : n ≤ cap) :
    Ri w k (if cap = i then some ⟨b, o, none⟩ else some ⟨b, o + i, none⟩) (n - i) (l.drop i) := by
  have h1 := h.rest (i := i) hi (fun _ => rfl)
  split
  · exact h1.zero (by omega) _
  · exact h1

theorem strOf_toList (l : List Int) : (strOf l).toList = l.map fun n => UInt8.ofNat n.toNat := by rw [ByteArray.toList_eq]; rfl
/-- string(b), for the walk. -/
theorem conv_any {w : World} {G : Option Addr} {n c : Nat} {l : List Int} (h : Ri w .u8 G n l) : (convert 38 9 (.slice G n c)).run Tryz.prog w = .ok (.string (strOf l)) w :=
  run_conv 38 5 9 Tryz.underlying38 Tryz.underlying5 Tryz.underlying9 G n c l h

set_option maxRecDepth 100000 in
set_option maxHeartbeats 400000 in
theorem Clone_any (A : Option Addr) (n cap : Nat) (l : List Int) (w : World) (hr : Ri w .u8 A n l) (hn : n ≤ 1000000000) :
    Calls Tryz.prog 108 #[.slice A n cap] w (BytesOut w l) := by
  obtain ⟨i0, hi, hz0, hz1, hz2⟩ := info_parts info_u8
  have q := fun (w : World) (a : Option Addr) (n c : Nat) => Lib.run_eql_slice_nil (P := Tryz.prog) w 38 5 a n c 0 0 Tryz.underlying38
  have HR := Lib.hid hr; clear hr
  cases A with
  | none =>
    have hn0 : n = 0 := by
      rcases Nat.eq_zero_or_pos n with h | h
      · exact h
      · obtain ⟨b, o, e, _⟩ := HR.out.all h; cases e
    subst hn0
    have hl : l = [] := List.eq_nil_of_length_eq_zero HR.out.len
    subst hl
    go_enter Tryz.func108, Tryz.ntmps108
    go_wp2_with fail
    go_ret
    exact ⟨none, 0, 0, rfl, Sl.nil _ _, Below.refl _ _⟩
  | some a =>
    go_enter Tryz.func108, Tryz.ntmps108
    go_wp2_with (at_builtin; refine wpList_append_any _ rfl _ _ 38 rfl w.heap.size 5 i0 (.int .u8 0) 1 1 Tryz.underlying38 hi hz0 hz1 hz2 rfl (by decide) _ 0 [] rfl (own_empty w _ 1) _ n _ (l.map (Value.int .u8)) rfl (HR.out.alloc _) (Ri.oneCell _ _) ?c2 ?c3 ?c4 ?_)
    case c2 => unfold maxLen; omega
    case c3 => omega
    case c4 => simp
    intro G c w1 hown hgr _ _
    have HO := Lib.hid hown; clear hown
    go_wp2_with fail
    go_ret
    exact ⟨G, n, c, rfl, Sl.of_own HO.out, push0 ((Below.refl _ _).alloc (Nat.le_refl _) _) (Nat.le_refl _) (own_empty w _ 1) hgr⟩
/-- append onto a row of the call's own, elements of kind u8, whatever is appended. -/
theorem wpList_u8 (w : World) {ops : Array Oper} {rest : List Oper} {o : Oper} {a : Act} {Q : Exit → Act → World → Prop} (hgd : o.guard = none) (s x : Operand)
    (ho : o.op = .call { callee := .builtin .append, args := #[s, x], argTypes := #[38, 38] })
    (base : Nat) (v : Value) (n : Nat) (l : List Int) (hs : a.eval s = v) (hown : w.ownsRow base 5 1 v n (l.map (Value.int .u8)))
    (A : Option Addr) (m c : Nat) (l2 : List Int) (hx : a.eval x = .slice A m c) (hr : Ri w .u8 A m l2) (hb : n + m ≤ 2000000000) (hbase : base ≤ w.heap.size)
    (h : ∀ G cap w', w'.ownsRow base 5 1 (.slice G (n + m) cap) (n + m) ((l ++ l2).map (Value.int .u8)) → w.grownBy w' v.ownBlock → n + m ≤ cap → wpList Tryz.prog ops Q rest (a.put o.dst (.slice G (n + m) cap)) w') : wpList Tryz.prog ops Q (o :: rest) a w := by
  obtain ⟨i0, hi, hz0, hz1, hz2⟩ := info_parts info_u8
  refine wpList_append_any w hgd s x 38 ho base 5 i0 (.int .u8 0) 1 1 Tryz.underlying38 hi hz0 hz1 hz2 rfl (by decide) v n _ hs hown A m c _ hx hr (Ri.oneCell _ _) (by unfold maxLen; omega) (by omega) hbase ?_
  intro G cap w' h1 h2 _ h4
  rw [← List.map_append] at h1
  exact h G cap w' h1 h2 h4
/-- append onto a row of the call's own, elements of kind u64, whatever is appended. -/
theorem wpList_u64 (w : World) {ops : Array Oper} {rest : List Oper} {o : Oper} {a : Act} {Q : Exit → Act → World → Prop} (hgd : o.guard = none) (s x : Operand)
    (ho : o.op = .call { callee := .builtin .append, args := #[s, x], argTypes := #[89, 89] })
    (base : Nat) (v : Value) (n : Nat) (l : List Int) (hs : a.eval s = v) (hown : w.ownsRow base 109 1 v n (l.map (Value.int .u64)))
    (A : Option Addr) (m c : Nat) (l2 : List Int) (hx : a.eval x = .slice A m c) (hr : Ri w .u64 A m l2) (hb : n + m ≤ 2000000000) (hbase : base ≤ w.heap.size)
    (h : ∀ G cap w', w'.ownsRow base 109 1 (.slice G (n + m) cap) (n + m) ((l ++ l2).map (Value.int .u64)) → w.grownBy w' v.ownBlock → n + m ≤ cap → wpList Tryz.prog ops Q rest (a.put o.dst (.slice G (n + m) cap)) w') : wpList Tryz.prog ops Q (o :: rest) a w := by
  obtain ⟨i0, hi, hz0, hz1, hz2⟩ := info_parts info_u64
  refine wpList_append_any w hgd s x 89 ho base 109 i0 (.int .u64 0) 1 8 Tryz.underlying89 hi hz0 hz1 hz2 rfl (by decide) v n _ hs hown A m c _ hx hr (Ri.oneCell _ _) (by unfold maxLen; omega) (by omega) hbase ?_
  intro G cap w' h1 h2 _ h4
  rw [← List.map_append] at h1
  exact h G cap w' h1 h2 h4

end Go.Proofs.YtmejoococajikaaGreat

/- Rows of strings: one string appended. -/
namespace Go.Proofs.YtmejoococajikaaGreat
open Go.RowKit

theorem info_str : (Tryz.prog.info? 9).map (fun i => (i.zero, i.size, i.bytes)) = some (some (.string ⟨#[]⟩), 1, 16) := by kernel_rfl
theorem str_one (l : List ByteArray) : ∀ u ∈ l.map Value.string, u.oneCell' = true := fun u h => by
  obtain ⟨s, _, rfl⟩ := List.mem_map.1 h
  rfl
/-- append onto a row of strings of the call's own, whatever is appended. -/
theorem wpList_str (w : World) {ops : Array Oper} {rest : List Oper} {o : Oper} {a : Act} {Q : Exit → Act → World → Prop} (hgd : o.guard = none) (s x : Operand)
    (ho : o.op = .call { callee := .builtin .append, args := #[s, x], argTypes := #[22, 22] })
    (base : Nat) (v : Value) (n : Nat) (l : List ByteArray) (hs : a.eval s = v) (hown : w.ownsRow base 9 1 v n (l.map Value.string))
    (A : Option Addr) (m c : Nat) (l2 : List ByteArray) (hx : a.eval x = .slice A m c) (hr : Rs w A m l2) (hb : n + m ≤ 2000000000) (hbase : base ≤ w.heap.size)
    (h : ∀ G cap w', w'.ownsRow base 9 1 (.slice G (n + m) cap) (n + m) ((l ++ l2).map Value.string) → w.grownBy w' v.ownBlock → n + m ≤ cap → wpList Tryz.prog ops Q rest (a.put o.dst (.slice G (n + m) cap)) w') : wpList Tryz.prog ops Q (o :: rest) a w := by
  obtain ⟨i0, hi, hz0, hz1, hz2⟩ := info_parts info_str
  refine wpList_append_any w hgd s x 22 ho base 9 i0 (.string ⟨#[]⟩) 1 16 Tryz.underlying22 hi hz0 hz1 hz2 rfl (by decide) v n _ hs hown A m c _ hx hr (str_one _) (by unfold maxLen; omega) (by omega) hbase ?_
  intro G cap w' h1 h2 _ h4
  rw [← List.map_append] at h1
  exact h G cap w' h1 h2 h4
theorem Rs.one (w : World) (s : ByteArray) (t : TypeId) : Rs (w.alloc (.cells #[.string s] t)) (some ⟨w.heap.size, 0, none⟩) 1 [s] := Rd.one w (.string s) t
end Go.Proofs.YtmejoococajikaaGreat

/- Blocks that are known whole; the closure that lays bits down. -/
namespace Go.Proofs.YtmejoococajikaaGreat
open Go.RowKit

/-- Block g is just the cells cs of type t, none of them frozen. -/
def Blk (w : World) (g : Nat) (t : TypeId) (cs : Array Value) : Prop := w.heap[g]? = some (.cells cs t (0, 0))
section
variable {w w' : World} {g : Nat} {t : TypeId} {cs : Array Value}
theorem Blk.lt (h : Blk w g t cs) : g < w.heap.size := by
  rcases Nat.lt_or_ge g w.heap.size with hlt | hge
  · exact hlt
  · unfold Blk at h; rw [Array.getElem?_eq_none hge] at h; cases h
theorem Blk.cell (h : Blk w g t cs) (i : Nat) : w.cell? ⟨g, i, none⟩ = cs[i]? := cell_of_row w g i cs t (0, 0) h
theorem Blk.frozen (h : Blk w g t cs) (i : Nat) : w.frozen? ⟨g, i, none⟩ = false := by
  unfold Blk at h
  simp [World.frozen?, h]
theorem Blk.new (w : World) (t : TypeId) (cs : Array Value) : Blk (w.alloc (.cells cs t)) w.heap.size t cs := heap_alloc_new w _
theorem Blk.drew (h : Blk w g t cs) : Blk w.drew g t cs := h
theorem Blk.drewN (h : Blk w g t cs) (n : Nat) : Blk (w.drewN n) g t cs := h
theorem Blk.alloc (h : Blk w g t cs) (o : Obj) : Blk (w.alloc o) g t cs := (Below.heap_alloc w o g h.lt).trans h
theorem Blk.set_ (h : Blk w g t cs) (i : Nat) (u : Value) : Blk (w.setCell ⟨g, i, none⟩ u) g t (cs.setIfInBounds i u) := by
  unfold Blk at h ⊢
  simp [World.setCell, Array.getElem?_modify, h]
theorem Blk.far (h : Blk w g t cs) {p : Addr} (hp : g ≠ p.block) (u : Value) : Blk (w.setCell p u) g t cs := (Below.heap_setCell w p u g hp).trans h
theorem Blk.below {B : Nat} (h : Blk w g t cs) (hb : Below B w w') (hg : g < B) : Blk w' g t cs := (hb.block g hg).trans h
theorem Blk.below_ (h : Blk w g t cs) (hb : Below w.heap.size w w') : Blk w' g t cs := (hb.block g h.lt).trans h
theorem Blk.grown {row : Option Nat} (h : Blk w g t cs) (hb : w.grownBy w' row) (hg : some g ≠ row) : Blk w' g t cs := (hb.block g h.lt hg).trans h
end

/-- What the closure leaves: the bytes cs', the place moved on, all else as it was. -/
def PutOut (w : World) (B g bo ba N : Nat) (at' : Nat) (cs : Array Value) (e : Ending) (w' : World) : Prop :=
  e = .returned (.tuple #[]) ∧ Blk w' g 5 cs ∧ Blk w' ba 3 #[.int .i64 at'] ∧ Blk w' bo 38 #[.slice (some ⟨g, 0, none⟩) N N] ∧ Below B w w' ∧ w'.heap.size = w.heap.size

set_option maxRecDepth 100000 in
set_option maxHeartbeats 1000000 in
/-- The bits fit into the byte that is begun. -/
theorem put1_any (w : World) (B g bo ba N at_ n : Nat) (c y : Int) (hat : Blk w ba 3 #[.int .i64 at_]) (hout : Blk w bo 38 #[.slice (some ⟨g, 0, none⟩) N N]) (cs : Array Value) (hg : Blk w g 5 cs)
    (hB : B ≤ g ∧ B ≤ ba ∧ B ≤ bo) (hd : g ≠ ba ∧ g ≠ bo ∧ ba ≠ bo)
    (hy : cs[at_ / 8]? = some (.int .u8 y)) (hn1 : n ≤ 8 - at_ % 8) (hn2 : n ≤ 8) (hN : at_ / 8 < N) (hNb : N ≤ 1000000) (_hc : 0 ≤ c ∧ c < 256) (_hy0 : 0 ≤ y ∧ y < 256) :
    Calls Tryz.prog 152 #[.int .u8 c, .int .i64 n, .pointer (some ⟨ba, 0, none⟩), .pointer (some ⟨bo, 0, none⟩)] w
      (PutOut w B g bo ba N (at_ + n) (cs.setIfInBounds (at_ / 8) (.int .u8 (bits BinOp.or IntKind.u8 y (c * 2 ^ (8 - at_ % 8 - n) % 256))))) := by
  obtain ⟨d1, d2, d3⟩ := hd
  have d1' := d1.symm; have d2' := d2.symm; have d3' := d3.symm
  have c1 : w.cell? ⟨ba, 0, none⟩ = some (.int .i64 at_) := by rw [hat.cell]; rfl
  have c2 : w.cell? ⟨bo, 0, none⟩ = some (.slice (some ⟨g, 0, none⟩) N N) := by rw [hout.cell]; rfl
  have c3 : w.cell? ⟨g, at_ / 8, none⟩ = some (.int .u8 y) := by rw [hg.cell]; exact hy
  have f1 := hat.frozen 0
  have f3 := hg.frozen (at_ / 8)
  have H1 := Lib.hid hat; have H2 := Lib.hid hout; have H3 := Lib.hid hg; have H4 := Lib.hid hy
  clear hat hout hg hy
  go_enter Tryz.func152, Tryz.ntmps152
  go_wp2_with fail
  go_region
  all_goals go_wp2_with fail
  go_end0
  refine ⟨rfl, ?_, ?_, ?_, ?_, ?_⟩
  · exact (H3.out.set_ _ _).far d1 _
  · have h := (H1.out.far (p := ⟨g, at_ / 8, none⟩) d1' (.int .u8 (bits BinOp.or IntKind.u8 y (c * 2 ^ (8 - at_ % 8 - n) % 256)))).set_ 0 (.int .i64 (at_ + n))
    exact h
  · exact (H2.out.far d2' _).far d3' _
  · exact (((Below.refl B w).setCell hB.1 _).setCell hB.2.1 _).drew
  · simp [World.setCell]

set_option maxRecDepth 100000 in
set_option maxHeartbeats 2000000 in
/-- The bits go into two bytes. -/
theorem put2_any (w : World) (B g bo ba N at_ n : Nat) (c y z : Int) (hat : Blk w ba 3 #[.int .i64 at_]) (hout : Blk w bo 38 #[.slice (some ⟨g, 0, none⟩) N N]) (cs : Array Value) (hg : Blk w g 5 cs)
    (hB : B ≤ g ∧ B ≤ ba ∧ B ≤ bo) (hd : g ≠ ba ∧ g ≠ bo ∧ ba ≠ bo)
    (hy : cs[at_ / 8]? = some (.int .u8 y)) (hz : cs[at_ / 8 + 1]? = some (.int .u8 z)) (hn1 : 8 - at_ % 8 < n) (hn2 : n ≤ 8) (hN : at_ / 8 + 1 < N) (hNb : N ≤ 1000000) (_hc : 0 ≤ c ∧ c < 256) (_hy0 : 0 ≤ y ∧ y < 256) (_hz0 : 0 ≤ z ∧ z < 256) :
    Calls Tryz.prog 152 #[.int .u8 c, .int .i64 n, .pointer (some ⟨ba, 0, none⟩), .pointer (some ⟨bo, 0, none⟩)] w
      (PutOut w B g bo ba N (at_ + n) ((cs.setIfInBounds (at_ / 8) (.int .u8 (bits BinOp.or IntKind.u8 y (c / 2 ^ (n - (8 - at_ % 8)))))).setIfInBounds (at_ / 8 + 1) (.int .u8 (bits BinOp.or IntKind.u8 z (c * 2 ^ (8 - n + (8 - at_ % 8)) % 256))))) := by
  obtain ⟨d1, d2, d3⟩ := hd
  have d1' := d1.symm; have d2' := d2.symm; have d3' := d3.symm
  have c1 : w.cell? ⟨ba, 0, none⟩ = some (.int .i64 at_) := by rw [hat.cell]; rfl
  have c2 : w.cell? ⟨bo, 0, none⟩ = some (.slice (some ⟨g, 0, none⟩) N N) := by rw [hout.cell]; rfl
  have c3 : w.cell? ⟨g, at_ / 8, none⟩ = some (.int .u8 y) := by rw [hg.cell]; exact hy
  have c4 : w.cell? ⟨g, at_ / 8 + 1, none⟩ = some (.int .u8 z) := by rw [hg.cell]; exact hz
  have f1 := hat.frozen 0
  have f3 := hg.frozen (at_ / 8)
  have f4 := hg.frozen (at_ / 8 + 1)
  have H1 := Lib.hid hat; have H2 := Lib.hid hout; have H3 := Lib.hid hg; have H4 := Lib.hid hy; have H5 := Lib.hid hz
  clear hat hout hg hy hz
  go_enter Tryz.func152, Tryz.ntmps152
  go_wp2_with fail
  go_region
  all_goals go_wp2_with fail
  go_region
  all_goals go_wp2_with fail
  go_end0
  refine ⟨rfl, ?_, ?_, ?_, ?_, ?_⟩
  · exact ((H3.out.set_ _ _).set_ _ _).far d1 _
  · have h := ((H1.out.far (p := ⟨g, at_ / 8, none⟩) d1' (.int .u8 (bits BinOp.or IntKind.u8 y (c / 2 ^ (n - (8 - at_ % 8)))))).far (p := ⟨g, at_ / 8 + 1, none⟩) d1' (.int .u8 (bits BinOp.or IntKind.u8 z (c * 2 ^ (8 - n + (8 - at_ % 8)) % 256)))).set_ 0 (.int .i64 (at_ + n))
    exact h
  · exact ((H2.out.far d2' _).far d2' _).far d3' _
  · exact ((((Below.refl B w).setCell hB.1 _).setCell hB.1 _).setCell hB.2.1 _).drew.drew
  · simp [World.setCell]
end Go.Proofs.YtmejoococajikaaGreat

/- Package bits: fits, Size, the closure, Pack. -/
namespace Go.Proofs.YtmejoococajikaaGreat
open Go.RowKit

def bytesArr (X N : Nat) : Array Value := ((bytesOf X N).map (Value.int .u8)).toArray
theorem bytesArr_get (X N j : Nat) (h : j < N) : (bytesArr X N)[j]? = some (.int .u8 (byteAt X N j : Int)) := by
  simp [bytesArr, bytesOf_get X N j h]
theorem bytesArr_add (X N j d : Nat) (hj : j < N) (hd : byteAt X N j + d < 256) :
    (bytesArr X N).setIfInBounds j (.int .u8 ((byteAt X N j + d : Nat) : Int)) = bytesArr (X + d * 256 ^ (N - 1 - j)) N := by
  unfold bytesArr
  rw [bytesOf_add X N j d hj hd]
  simp [List.map_set]
theorem cast_shl (c k : Nat) : (c : Int) * 2 ^ k % 256 = ((c * 2 ^ k % 256 : Nat) : Int) := by
  rw [Int.natCast_emod, Int.natCast_mul, Int.natCast_pow]; rfl
theorem cast_shr (c k : Nat) : (c : Int) / 2 ^ k = ((c / 2 ^ k : Nat) : Int) := by
  rw [Int.natCast_ediv, Int.natCast_pow]; rfl

theorem bytesOf_u8 (X N : Nat) : U8 (bytesOf X N) := by
  intro y hy
  obtain ⟨j, _, rfl⟩ := List.mem_map.1 hy
  have := byteAt_lt X N j
  omega
/-- The closure of Pack: n bits of value c are laid down behind. -/
theorem put_any (w : World) (B g bo ba N at_ n c X : Nat) (hat : Blk w ba 3 #[.int .i64 at_]) (hout : Blk w bo 38 #[.slice (some ⟨g, 0, none⟩) N N]) (hg : Blk w g 5 (bytesArr X N))
    (hB : B ≤ g ∧ B ≤ ba ∧ B ≤ bo) (hd : g ≠ ba ∧ g ≠ bo ∧ ba ≠ bo) (hX : X % 2 ^ (8 * N - at_) = 0) (hn0 : 1 ≤ n) (hn : n ≤ 8) (hc : c < 2 ^ n) (hN : at_ + n ≤ 8 * N) (hNb : N ≤ 1000000) :
    Calls Tryz.prog 152 #[.int .u8 c, .int .i64 n, .pointer (some ⟨ba, 0, none⟩), .pointer (some ⟨bo, 0, none⟩)] w
      (PutOut w B g bo ba N (at_ + n) (bytesArr (X + c * 2 ^ (8 * N - at_ - n)) N)) := by
  have hc256 : c < 256 := Nat.lt_of_lt_of_le hc (Nat.pow_le_pow_right (n := 2) (j := 8) (by omega) hn)
  by_cases h : n ≤ 8 - at_ % 8
  · obtain ⟨e1, e2, e3⟩ := put_fits X N at_ n c hN hn0 hX hc h
    have hj : at_ / 8 < N := by omega
    have hb := byteAt_lt X N (at_ / 8)
    have := put1_any w B g bo ba N at_ n c (byteAt X N (at_ / 8) : Nat) hat hout _ hg hB hd (bytesArr_get X N _ hj) h hn hj hNb (by omega) (by omega)
    rw [cast_shl, u8_or_nat _ _ hb (by omega), e1, bytesArr_add X N _ _ hj e2, ← e3] at this
    exact this
  · obtain ⟨e1, e2, e3, e4, e5⟩ := put_two X N at_ n c hN hX hc (by omega) hn
    have hj : at_ / 8 < N := by omega
    have hb := byteAt_lt X N (at_ / 8)
    have := put2_any w B g bo ba N at_ n c (byteAt X N (at_ / 8) : Nat) (byteAt X N (at_ / 8 + 1) : Nat) hat hout _ hg hB hd (bytesArr_get X N _ hj) (bytesArr_get X N _ e4) (by omega) hn e4 hNb (by omega) (by omega) (by rw [e3]; omega)
    have hlt : c / 2 ^ (n - (8 - at_ % 8)) < 256 := Nat.lt_of_le_of_lt (Nat.div_le_self _ _) hc256
    rw [cast_shl, cast_shr, u8_or_nat _ _ hb hlt, e1, u8_or_nat _ _ (byteAt_lt _ _ _) (by omega), e3, Nat.zero_or, bytesArr_add X N _ _ hj e2] at this
    have hz : byteAt (X + c / 2 ^ (n - (8 - at_ % 8)) * 256 ^ (N - 1 - at_ / 8)) N (at_ / 8 + 1) = 0 := by
      rw [byteAt_add X N _ _ _ hj e4 e2, if_neg (by omega), e3]
    have h2 := bytesArr_add (X + c / 2 ^ (n - (8 - at_ % 8)) * 256 ^ (N - 1 - at_ / 8)) N (at_ / 8 + 1) (c * 2 ^ (8 - n + (8 - at_ % 8)) % 256) e4 (by rw [hz]; omega)
    rw [hz, Nat.zero_add] at h2
    rw [h2, ← e5] at this
    exact this

def fitsB (m x : Int) : Bool := decide (0 ≤ m ∧ m ≤ 4096 ∧ 0 ≤ x ∧ x ≤ 64)
set_option maxRecDepth 100000 in
set_option maxHeartbeats 400000 in
theorem fits_any (m x : Int) (w : World) :
    Calls Tryz.prog 150 #[.int .i64 m, .int .i64 x] w fun e w' => e = .returned (.bool (fitsB m x)) ∧ w = w' := by
  rcases (show m < 0 ∨ (0 ≤ m ∧ 4096 < m) ∨ (0 ≤ m ∧ m ≤ 4096 ∧ x < 0) ∨ (0 ≤ m ∧ m ≤ 4096 ∧ 0 ≤ x ∧ 64 < x) ∨ (0 ≤ m ∧ m ≤ 4096 ∧ 0 ≤ x ∧ x ≤ 64) by omega) with h | ⟨h1, h2⟩ | ⟨h1, h2, h3⟩ | ⟨h1, h2, h3, h4⟩ | ⟨h1, h2, h3, h4⟩
  all_goals
    first | have HF : Hid (fitsB m x = false) := decide_eq_false (by omega) | have HF : Hid (fitsB m x = true) := decide_eq_true (by omega)
    go_enter Tryz.func150, Tryz.ntmps150
    go_wp2_with fail
    go_ret
    exact ⟨ret_bool (by rw [HF.out] <;> first | rfl | exact decide_eq_false (by omega) | exact decide_eq_true (by omega)), rfl⟩

def sizeN (m x : Int) : Int := if fitsB m x then (m * x + 7) / 8 else 0
set_option maxRecDepth 100000 in
set_option maxHeartbeats 400000 in
theorem Size_any (m x : Int) (w : World) :
    Calls Tryz.prog 151 #[.int .i64 m, .int .i64 x] w fun e w' => e = .returned (.int .i64 (sizeN m x)) ∧ w = w' := by
  cases hf : fitsB m x
  · have HS : Hid (sizeN m x = 0) := by show sizeN m x = 0; unfold sizeN; rw [hf]; rfl
    have HF := Lib.hid hf; clear hf
    go_enter Tryz.func151, Tryz.ntmps151
    go_wp2_with fail
    refine (fits_any _ _ _).mono ?_; rintro e w' ⟨rfl, rfl⟩
    rw [HF.out]
    go_wp2_with fail
    go_ret
    exact ⟨ret_int HS.out.symm, rfl⟩
  · have HS : Hid (sizeN m x = (m * x + 7) / 8) := by show sizeN m x = _; unfold sizeN; rw [hf]; rfl
    have hb : 0 ≤ m ∧ m ≤ 4096 ∧ 0 ≤ x ∧ x ≤ 64 := by simpa [fitsB] using hf
    have h1 : 0 ≤ m * x := Int.mul_nonneg hb.1 hb.2.2.1
    have h2 : m * x ≤ 4096 * 64 := Int.mul_le_mul hb.2.1 hb.2.2.2 hb.2.2.1 (by omega)
    have HF := Lib.hid hf; clear hf
    go_enter Tryz.func151, Tryz.ntmps151
    go_wp2_with fail
    refine (fits_any _ _ _).mono ?_; rintro e w' ⟨rfl, rfl⟩
    rw [HF.out]
    go_wp2_with fail
    go_ret
    exact ⟨ret_int HS.out.symm, rfl⟩

end Go.Proofs.YtmejoococajikaaGreat

/- Joined texts: Zig, Base, Ref7, PutC, BitsA. Each has its own head line. No condition beyond those that its theorems state. -/
import Derived.PlainAid
import Derived.RegionTactic
import Derived.BigRegion
import Derived.Deep.QuietTactic
import Derived.BigQuiet
import Derived.Deep.OwnRows
import Derived.Test.YtdhjcdkpbbbicaaProg
import Derived.Test.YtdhjcdkpbbbicaaJ01
import Derived.Test.YtdhjcdkpbbbicaaJ04
import Derived.Test.YtdhjcdkpbbbicaaJ03
set_option linter.unusedVariables false

/- Numbers with a sign, as numbers without: varint.Zig, Zag and their references. -/
namespace Go.Proofs.Ytdhjcdkpbbbicaa
open Go.RowKit

def zig (x : Int) : Int := if x < 0 then -2 * x - 1 else 2 * x
def zag (u : Int) : Int := if u % 2 = 1 then -(u / 2) - 1 else u / 2
theorem zig_range (x : Int) (h0 : -9223372036854775808 ≤ x) (h1 : x < 9223372036854775808) : 0 ≤ zig x ∧ zig x < 18446744073709551616 := by unfold zig; omega
theorem zag_range (u : Int) (h0 : 0 ≤ u) (h1 : u < 18446744073709551616) : -9223372036854775808 ≤ zag u ∧ zag u < 9223372036854775808 := by unfold zag; omega
theorem zag_zig (x : Int) : zag (zig x) = x := by unfold zag zig; omega
theorem zig_zag (u : Int) (h : 0 ≤ u) : zig (zag u) = u := by unfold zag zig; omega

theorem xor_ones (b : Nat) (hb : b < 2 ^ 64) : b ^^^ (2 ^ 64 - 1) = 2 ^ 64 - 1 - b := by
  apply Nat.eq_of_testBit_eq
  intro i
  rw [Nat.testBit_xor, Nat.testBit_two_pow_sub_one, show 2 ^ 64 - 1 - b = 2 ^ 64 - (b + 1) from by omega, Nat.testBit_two_pow_sub_succ hb]
  by_cases h : i < 64
  · simp [h]
  · have : b.testBit i = false := Nat.testBit_lt_two_pow (Nat.lt_of_lt_of_le hb (Nat.pow_le_pow_right (by omega) (by omega)))
    simp [h, this]

theorem xor_neg (x : Int) (h0 : -9223372036854775808 ≤ x) (h1 : x < 0) :
    bits .xor .u64 (IntKind.u64.wrap (IntKind.u64.wrap x * 2)) (IntKind.u64.wrap (-1)) = zig x := by
  have e1 : IntKind.u64.wrap (-1) = ((2 ^ 64 - 1 : Nat) : Int) := by rw [IntKind.wrap_u64]; decide
  obtain ⟨m, hm⟩ : ∃ m : Nat, IntKind.u64.wrap (IntKind.u64.wrap x * 2) = (m : Int) ∧ (m : Int) = 18446744073709551616 + 2 * x := by
    rw [IntKind.wrap_u64, IntKind.wrap_u64]
    exact ⟨(18446744073709551616 + 2 * x).toNat, by omega, by omega⟩
  rw [e1, hm.1, u64_xor_nat _ _ (by omega) (by omega), xor_ones m (by omega)]
  unfold zig
  rw [if_pos h1]
  have := hm.2
  omega
theorem xor_nonneg (x : Int) (h0 : 0 ≤ x) (h1 : x < 9223372036854775808) : bits .xor .u64 (x * 2) 0 = zig x := by
  obtain ⟨m, rfl⟩ := Int.eq_ofNat_of_zero_le h0
  have := u64_xor_nat (m * 2) 0 (by omega) (by omega)
  rw [Nat.xor_zero] at this
  rw [show ((m : Int) * 2) = ((m * 2 : Nat) : Int) from by omega, show (0 : Int) = ((0 : Nat) : Int) from rfl, this]
  unfold zig
  rw [if_neg (by omega)]
  omega

set_option maxRecDepth 100000 in
set_option maxHeartbeats 400000 in
theorem Zig_any (x : Int) (w : World) (h0 : -9223372036854775808 ≤ x) (h1 : x < 9223372036854775808) :
    Calls Try.prog 58 #[.int .i64 x] w fun e w' => e = .returned (.int .u64 (zig x)) ∧ w = w' := by
  by_cases hx : x < 0
  · have e1 : x / 9223372036854775808 = -1 := by omega
    go_enter Try.func58, Try.ntmps58
    go_wp2
    go_ret
    exact ⟨ret_int (xor_neg x h0 hx), rfl⟩
  · have e1 : x / 9223372036854775808 = 0 := by omega
    go_enter Try.func58, Try.ntmps58
    go_wp2
    go_ret
    exact ⟨ret_int (xor_nonneg x (by omega) h1), rfl⟩

theorem xor_zag (x : Int) (h0 : 0 ≤ x) (h1 : x < 18446744073709551616) : bits BinOp.xor IntKind.i64 (x / 2) (wrap64 (-wrap64 (bits BinOp.and IntKind.u64 x 1))) = zag x := by
  rw [and_one_u64 x h0 (by omega), IntWalk.wrap64_in (x % 2) (by omega), IntWalk.wrap64_in _ (by omega)]
  obtain ⟨m, hm⟩ : ∃ m : Nat, (m : Int) = x / 2 := ⟨(x / 2).toNat, by omega⟩
  have hm2 : m < 2 ^ 63 := by omega
  unfold zag
  rw [← hm]
  have ofm : (BitVec.ofInt 64 (m : Int)).toNat = m := by
    rw [BitVec.ofInt_natCast, BitVec.toNat_ofNat]; exact Nat.mod_eq_of_lt (by omega)
  by_cases h : x % 2 = 1
  · rw [if_pos h, h]
    show IntKind.i64.wrap ((BitVec.ofInt 64 (m : Int) ^^^ BitVec.ofInt 64 (-1)).toNat : Int) = _
    rw [BitVec.toNat_xor, ofm, show (BitVec.ofInt 64 (-1)).toNat = 2 ^ 64 - 1 from by decide, xor_ones m (by omega), IntKind.wrap_i64]
    omega
  · rw [if_neg h, show x % 2 = 0 from by omega]
    show IntKind.i64.wrap ((BitVec.ofInt 64 (m : Int) ^^^ BitVec.ofInt 64 0).toNat : Int) = _
    rw [BitVec.toNat_xor, ofm, show (BitVec.ofInt 64 0).toNat = 0 from by decide, Nat.xor_zero, IntKind.wrap_i64]
    omega

set_option maxRecDepth 100000 in
set_option maxHeartbeats 400000 in
theorem Zag_any (x : Int) (w : World) (h0 : 0 ≤ x) (h1 : x < 18446744073709551616) :
    Calls Try.prog 60 #[.int .u64 x] w fun e w' => e = .returned (.int .i64 (zag x)) ∧ w = w' := by
  go_enter Try.func60, Try.ntmps60
  go_wp2
  go_ret
  exact ⟨ret_int (xor_zag x h0 h1), rfl⟩
set_option maxRecDepth 100000 in
set_option maxHeartbeats 400000 in
theorem refZig_any (x : Int) (w : World) (h0 : -9223372036854775808 ≤ x) (h1 : x < 9223372036854775808) :
    Calls Try.prog 95 #[.int .i64 x] w fun e w' => e = .returned (.int .u64 (zig x)) ∧ w = w' := by
  by_cases hx : x < 0
  · go_enter Try.func95, Try.ntmps95
    go_wp2
    go_ret
    exact ⟨ret_int (by unfold zig; omega), rfl⟩
  · go_enter Try.func95, Try.ntmps95
    go_wp2
    go_ret
    exact ⟨ret_int (by unfold zig; omega), rfl⟩
set_option maxRecDepth 100000 in
set_option maxHeartbeats 400000 in
theorem refZag_any (x : Int) (w : World) (h0 : 0 ≤ x) (h1 : x < 18446744073709551616) :
    Calls Try.prog 96 #[.int .u64 x] w fun e w' => e = .returned (.int .i64 (zag x)) ∧ w = w' := by
  by_cases h : x % 2 = 1
  · have hb : (x % 2 == 1) = true := by simpa using h
    go_enter Try.func96, Try.ntmps96
    go_wp2
    go_ret
    exact ⟨ret_int (by unfold zag; omega), rfl⟩
  · have hb : (x % 2 == 1) = false := by simpa using h
    go_enter Try.func96, Try.ntmps96
    go_wp2
    go_ret
    exact ⟨ret_int (by unfold zag; omega), rfl⟩
end Go.Proofs.Ytdhjcdkpbbbicaa

/- Facts on the program's types; copies of bytes: slices.Clone, bytes.Clone. -/
namespace Go.Proofs.Ytdhjcdkpbbbicaa
open Go.RowKit
theorem info_u8 : (Try.prog.info? 5).map (fun i => (i.zero, i.size, i.bytes)) = some (some (.int .u8 0), 1, 1) := by kernel_rfl
theorem info_u64 : (Try.prog.info? 47).map (fun i => (i.zero, i.size, i.bytes)) = some (some (.int .u64 0), 1, 8) := by kernel_rfl
theorem info_int : (Try.prog.info? 3).map (fun i => (i.zero, i.size, i.bytes)) = some (some (.int .i64 0), 1, 8) := by kernel_rfl
theorem info_bool : (Try.prog.info? 4).map (fun i => (i.zero, i.size, i.bytes)) = some (some (.bool false), 1, 1) := by kernel_rfl

theorem Ri.oneCell (k : IntKind) (l : List Int) : ∀ u ∈ l.map (Value.int k), u.oneCell' = true := by
  intro u hu
  obtain ⟨x, _, rfl⟩ := List.mem_map.1 hu
  rfl

/-- A cut 's[i:]' whose address the walk has not yet parted on. -/
theorem Ri.restIf {w : World} {k : IntKind} {n : Nat} {l : List Int} {b o : Nat} (h : Ri w k (some ⟨b, o, none⟩) n l) {i : Nat} (hi : i ≤ n) {cap : Nat} (hc : n ≤ cap) :
    Ri w k (if cap = i then some ⟨b, o, none⟩ else some ⟨b, o + i, none⟩) (n - i) (l.drop i) := by
  have h1 := h.rest (i := i) hi (fun _ => rfl)
  split
  · exact h1.zero (by omega) _
  · exact h1

theorem strOf_toList (l : List Int) : (strOf l).toList = l.map fun n => UInt8.ofNat n.toNat := by rw [ByteArray.toList_eq]; rfl
/-- string(b), for the walk. -/
theorem conv_any {w : World} {G : Option Addr} {n c : Nat} {l : List Int} (h : Ri w .u8 G n l) : (convert 25 9 (.slice G n c)).run Try.prog w = .ok (.string (strOf l)) w :=
  run_conv 25 5 9 Try.underlying25 Try.underlying5 Try.underlying9 G n c l h

set_option maxRecDepth 100000 in
set_option maxHeartbeats 400000 in
theorem Clone_any (A : Option Addr) (n cap : Nat) (l : List Int) (w : World) (hr : Ri w .u8 A n l) (hn : n ≤ 1000000000) :
    Calls Try.prog 56 #[.slice A n cap] w (BytesOut w l) := by
  obtain ⟨i0, hi, hz0, hz1, hz2⟩ := info_parts info_u8
  have q := fun (w : World) (a : Option Addr) (n c : Nat) => Lib.run_eql_slice_nil (P := Try.prog) w 25 5 a n c 0 0 Try.underlying25
  have HR := Lib.hid hr; clear hr
  cases A with
  | none =>
    have hn0 : n = 0 := by
      rcases Nat.eq_zero_or_pos n with h | h
      · exact h
      · obtain ⟨b, o, e, _⟩ := HR.out.all h; cases e
    subst hn0
    have hl : l = [] := List.eq_nil_of_length_eq_zero HR.out.len
    subst hl
    go_enter Try.func56, Try.ntmps56
    go_wp2_with fail
    go_ret
    exact ⟨none, 0, 0, rfl, Sl.nil _ _, Below.refl _ _⟩
  | some a =>
    go_enter Try.func56, Try.ntmps56
    go_wp2_with (at_builtin; refine wpList_append_any _ rfl _ _ 25 rfl w.heap.size 5 i0 (.int .u8 0) 1 1 Try.underlying25 hi hz0 hz1 hz2 rfl (by decide) _ 0 [] rfl (own_empty w _ 1) _ n _ (l.map (Value.int .u8)) rfl (HR.out.alloc _) (Ri.oneCell _ _) ?c2 ?c3 ?c4 ?_)
    case c2 => unfold maxLen; omega
    case c3 => omega
    case c4 => simp
    intro G c w1 hown hgr _ _
    have HO := Lib.hid hown; clear hown
    go_wp2_with fail
    go_ret
    exact ⟨G, n, c, rfl, Sl.of_own HO.out, push0 ((Below.refl _ _).alloc (Nat.le_refl _) _) (Nat.le_refl _) (own_empty w _ 1) hgr⟩
/-- append onto a row of the call's own, elements of kind u8, whatever is appended. -/
theorem wpList_u8 (w : World) {ops : Array Oper} {rest : List Oper} {o : Oper} {a : Act} {Q : Exit → Act → World → Prop} (hgd : o.guard = none) (s x : Operand)
    (ho : o.op = .call { callee := .builtin .append, args := #[s, x], argTypes := #[25, 25] })
    (base : Nat) (v : Value) (n : Nat) (l : List Int) (hs : a.eval s = v) (hown : w.ownsRow base 5 1 v n (l.map (Value.int .u8)))
    (A : Option Addr) (m c : Nat) (l2 : List Int) (hx : a.eval x = .slice A m c) (hr : Ri w .u8 A m l2) (hb : n + m ≤ 2000000000) (hbase : base ≤ w.heap.size)
    (h : ∀ G cap w', w'.ownsRow base 5 1 (.slice G (n + m) cap) (n + m) ((l ++ l2).map (Value.int .u8)) → w.grownBy w' v.ownBlock → n + m ≤ cap → wpList Try.prog ops Q rest (a.put o.dst (.slice G (n + m) cap)) w') : wpList Try.prog ops Q (o :: rest) a w := by
  obtain ⟨i0, hi, hz0, hz1, hz2⟩ := info_parts info_u8
  refine wpList_append_any w hgd s x 25 ho base 5 i0 (.int .u8 0) 1 1 Try.underlying25 hi hz0 hz1 hz2 rfl (by decide) v n _ hs hown A m c _ hx hr (Ri.oneCell _ _) (by unfold maxLen; omega) (by omega) hbase ?_
  intro G cap w' h1 h2 _ h4
  rw [← List.map_append] at h1
  exact h G cap w' h1 h2 h4
/-- append onto a row of the call's own, elements of kind u64, whatever is appended. -/
theorem wpList_u64 (w : World) {ops : Array Oper} {rest : List Oper} {o : Oper} {a : Act} {Q : Exit → Act → World → Prop} (hgd : o.guard = none) (s x : Operand)
    (ho : o.op = .call { callee := .builtin .append, args := #[s, x], argTypes := #[38, 38] })
    (base : Nat) (v : Value) (n : Nat) (l : List Int) (hs : a.eval s = v) (hown : w.ownsRow base 47 1 v n (l.map (Value.int .u64)))
    (A : Option Addr) (m c : Nat) (l2 : List Int) (hx : a.eval x = .slice A m c) (hr : Ri w .u64 A m l2) (hb : n + m ≤ 2000000000) (hbase : base ≤ w.heap.size)
    (h : ∀ G cap w', w'.ownsRow base 47 1 (.slice G (n + m) cap) (n + m) ((l ++ l2).map (Value.int .u64)) → w.grownBy w' v.ownBlock → n + m ≤ cap → wpList Try.prog ops Q rest (a.put o.dst (.slice G (n + m) cap)) w') : wpList Try.prog ops Q (o :: rest) a w := by
  obtain ⟨i0, hi, hz0, hz1, hz2⟩ := info_parts info_u64
  refine wpList_append_any w hgd s x 38 ho base 47 i0 (.int .u64 0) 1 8 Try.underlying38 hi hz0 hz1 hz2 rfl (by decide) v n _ hs hown A m c _ hx hr (Ri.oneCell _ _) (by unfold maxLen; omega) (by omega) hbase ?_
  intro G cap w' h1 h2 _ h4
  rw [← List.map_append] at h1
  exact h G cap w' h1 h2 h4

end Go.Proofs.Ytdhjcdkpbbbicaa

/- The reference of a number as it stands, and made back. -/
namespace Go.Proofs.Ytdhjcdkpbbbicaa
open Go.RowKit

set_option maxRecDepth 100000 in
set_option maxHeartbeats 400000 in
theorem refPlain_any (x : Int) (s : Bool) (w : World) (h0 : -9223372036854775808 ≤ x) (h1 : x < 9223372036854775808) :
    Calls Try.prog 59 #[.int .i64 x, .bool s] w fun e w' => e = .returned (.tuple #[.int .u64 (if s then zig x else max x 0), .bool (s || decide (0 ≤ x))]) ∧ w = w' := by
  cases s
  · by_cases hx : x < 0
    · have e : (0 : Int) = max x 0 := by omega
      have HE := Lib.hid e; clear e
      go_enter Try.func59, Try.ntmps59
      go_wp2_with fail
      go_ret2
      exact ⟨by rw [← HE.out]; rfl, rfl⟩
    · have e : x = max x 0 := by omega
      have HE := Lib.hid e; clear e
      go_enter Try.func59, Try.ntmps59
      go_wp2_with fail
      go_ret2
      exact ⟨by rw [← HE.out]; rfl, rfl⟩
  · go_enter Try.func59, Try.ntmps59
    go_wp2_with fail
    refine (refZig_any _ _ h0 h1).mono ?_; rintro e w' ⟨rfl, rfl⟩
    go_wp2_with fail
    go_ret2
    exact ⟨rfl, rfl⟩
def madeR (u : Int) (s : Bool) : Int × Bool := if s then (zag u, true) else if 9223372036854775808 ≤ u then (0, false) else (u, true)
set_option maxRecDepth 100000 in
theorem refMade_any (u : Int) (s : Bool) (w : World) (h0 : 0 ≤ u) (hu : u < 18446744073709551616) (x : Int) (ok : Bool) (hx : madeR u s = (x, ok)) :
    Calls Try.prog 61 #[.int .u64 u, .bool s] w fun e w' => e = .returned (.tuple #[.int .i64 x, .bool ok]) ∧ w = w' := by
  unfold madeR at hx
  cases s
  · by_cases h : 9223372036854775808 ≤ u
    · simp only [Bool.false_eq_true, if_false, if_pos h] at hx
      injection hx with e1 e2
      subst e1 e2
      go_enter Try.func61, Try.ntmps61
      go_wp2_with fail
      go_ret2
      exact ⟨rfl, rfl⟩
    · simp only [Bool.false_eq_true, if_false, if_neg h] at hx
      injection hx with e1 e2
      subst e1 e2
      go_enter Try.func61, Try.ntmps61
      go_wp2_with fail
      go_ret2
      exact ⟨rfl, rfl⟩
  · simp only [if_true] at hx
    injection hx with e1 e2
    subst e2
    have HE := Lib.hid e1; clear e1
    go_enter Try.func61, Try.ntmps61
    go_wp2_with fail
    refine (refZag_any _ _ (by omega) (by omega)).mono ?_; rintro e w' ⟨rfl, rfl⟩
    rw [HE.out]
    go_wp2_with fail
    go_ret2
    exact ⟨rfl, rfl⟩
end Go.Proofs.Ytdhjcdkpbbbicaa

/- Blocks that are known whole; the closure that lays bits down. -/
namespace Go.Proofs.Ytdhjcdkpbbbicaa
open Go.RowKit

/-- Block g is just the cells cs of type t, none of them frozen. -/
def Blk (w : World) (g : Nat) (t : TypeId) (cs : Array Value) : Prop := w.heap[g]? = some (.cells cs t (0, 0))
section
variable {w w' : World} {g : Nat} {t : TypeId} {cs : Array Value}
theorem Blk.lt (h : Blk w g t cs) : g < w.heap.size := by
  rcases Nat.lt_or_ge g w.heap.size with hlt | hge
  · exact hlt
  · unfold Blk at h; rw [Array.getElem?_eq_none hge] at h; cases h
theorem Blk.cell (h : Blk w g t cs) (i : Nat) : w.cell? ⟨g, i, none⟩ = cs[i]? := cell_of_row w g i cs t (0, 0) h
theorem Blk.frozen (h : Blk w g t cs) (i : Nat) : w.frozen? ⟨g, i, none⟩ = false := by
  unfold Blk at h
  simp [World.frozen?, h]
theorem Blk.new (w : World) (t : TypeId) (cs : Array Value) : Blk (w.alloc (.cells cs t)) w.heap.size t cs := heap_alloc_new w _
theorem Blk.drew (h : Blk w g t cs) : Blk w.drew g t cs := h
theorem Blk.drewN (h : Blk w g t cs) (n : Nat) : Blk (w.drewN n) g t cs := h
theorem Blk.alloc (h : Blk w g t cs) (o : Obj) : Blk (w.alloc o) g t cs := (Below.heap_alloc w o g h.lt).trans h
theorem Blk.set_ (h : Blk w g t cs) (i : Nat) (u : Value) : Blk (w.setCell ⟨g, i, none⟩ u) g t (cs.setIfInBounds i u) := by
  unfold Blk at h ⊢
  simp [World.setCell, Array.getElem?_modify, h]
theorem Blk.far (h : Blk w g t cs) {p : Addr} (hp : g ≠ p.block) (u : Value) : Blk (w.setCell p u) g t cs := (Below.heap_setCell w p u g hp).trans h
theorem Blk.below {B : Nat} (h : Blk w g t cs) (hb : Below B w w') (hg : g < B) : Blk w' g t cs := (hb.block g hg).trans h
theorem Blk.below_ (h : Blk w g t cs) (hb : Below w.heap.size w w') : Blk w' g t cs := (hb.block g h.lt).trans h
theorem Blk.grown {row : Option Nat} (h : Blk w g t cs) (hb : w.grownBy w' row) (hg : some g ≠ row) : Blk w' g t cs := (hb.block g h.lt hg).trans h
end

/-- What the closure leaves: the bytes cs', the place moved on, all else as it was. -/
def PutOut (w : World) (B g bo ba N : Nat) (at' : Nat) (cs : Array Value) (e : Ending) (w' : World) : Prop :=
  e = .returned (.tuple #[]) ∧ Blk w' g 5 cs ∧ Blk w' ba 3 #[.int .i64 at'] ∧ Blk w' bo 25 #[.slice (some ⟨g, 0, none⟩) N N] ∧ Below B w w' ∧ w'.heap.size = w.heap.size

set_option maxRecDepth 100000 in
set_option maxHeartbeats 1000000 in
/-- The bits fit into the byte that is begun. -/
theorem put1_any (w : World) (B g bo ba N at_ n : Nat) (c y : Int) (hat : Blk w ba 3 #[.int .i64 at_]) (hout : Blk w bo 25 #[.slice (some ⟨g, 0, none⟩) N N]) (cs : Array Value) (hg : Blk w g 5 cs)
    (hB : B ≤ g ∧ B ≤ ba ∧ B ≤ bo) (hd : g ≠ ba ∧ g ≠ bo ∧ ba ≠ bo)
    (hy : cs[at_ / 8]? = some (.int .u8 y)) (hn1 : n ≤ 8 - at_ % 8) (hn2 : n ≤ 8) (hN : at_ / 8 < N) (hNb : N ≤ 1000000) (_hc : 0 ≤ c ∧ c < 256) (_hy0 : 0 ≤ y ∧ y < 256) :
    Calls Try.prog 82 #[.int .u8 c, .int .i64 n, .pointer (some ⟨ba, 0, none⟩), .pointer (some ⟨bo, 0, none⟩)] w
      (PutOut w B g bo ba N (at_ + n) (cs.setIfInBounds (at_ / 8) (.int .u8 (bits BinOp.or IntKind.u8 y (c * 2 ^ (8 - at_ % 8 - n) % 256))))) := by
  obtain ⟨d1, d2, d3⟩ := hd
  have d1' := d1.symm; have d2' := d2.symm; have d3' := d3.symm
  have c1 : w.cell? ⟨ba, 0, none⟩ = some (.int .i64 at_) := by rw [hat.cell]; rfl
  have c2 : w.cell? ⟨bo, 0, none⟩ = some (.slice (some ⟨g, 0, none⟩) N N) := by rw [hout.cell]; rfl
  have c3 : w.cell? ⟨g, at_ / 8, none⟩ = some (.int .u8 y) := by rw [hg.cell]; exact hy
  have f1 := hat.frozen 0
  have f3 := hg.frozen (at_ / 8)
  have H1 := Lib.hid hat; have H2 := Lib.hid hout; have H3 := Lib.hid hg; have H4 := Lib.hid hy
  clear hat hout hg hy
  go_enter Try.func82, Try.ntmps82
  go_wp2_with fail
  go_region
  all_goals go_wp2_with fail
  go_end0
  refine ⟨rfl, ?_, ?_, ?_, ?_, ?_⟩
  · exact (H3.out.set_ _ _).far d1 _
  · have h := (H1.out.far (p := ⟨g, at_ / 8, none⟩) d1' (.int .u8 (bits BinOp.or IntKind.u8 y (c * 2 ^ (8 - at_ % 8 - n) % 256)))).set_ 0 (.int .i64 (at_ + n))
    exact h
  · exact (H2.out.far d2' _).far d3' _
  · exact (((Below.refl B w).setCell hB.1 _).setCell hB.2.1 _).drew
  · simp [World.setCell]

set_option maxRecDepth 100000 in
set_option maxHeartbeats 2000000 in
/-- The bits go into two bytes. -/
theorem put2_any (w : World) (B g bo ba N at_ n : Nat) (c y z : Int) (hat : Blk w ba 3 #[.int .i64 at_]) (hout : Blk w bo 25 #[.slice (some ⟨g, 0, none⟩) N N]) (cs : Array Value) (hg : Blk w g 5 cs)
    (hB : B ≤ g ∧ B ≤ ba ∧ B ≤ bo) (hd : g ≠ ba ∧ g ≠ bo ∧ ba ≠ bo)
    (hy : cs[at_ / 8]? = some (.int .u8 y)) (hz : cs[at_ / 8 + 1]? = some (.int .u8 z)) (hn1 : 8 - at_ % 8 < n) (hn2 : n ≤ 8) (hN : at_ / 8 + 1 < N) (hNb : N ≤ 1000000) (_hc : 0 ≤ c ∧ c < 256) (_hy0 : 0 ≤ y ∧ y < 256) (_hz0 : 0 ≤ z ∧ z < 256) :
    Calls Try.prog 82 #[.int .u8 c, .int .i64 n, .pointer (some ⟨ba, 0, none⟩), .pointer (some ⟨bo, 0, none⟩)] w
      (PutOut w B g bo ba N (at_ + n) ((cs.setIfInBounds (at_ / 8) (.int .u8 (bits BinOp.or IntKind.u8 y (c / 2 ^ (n - (8 - at_ % 8)))))).setIfInBounds (at_ / 8 + 1) (.int .u8 (bits BinOp.or IntKind.u8 z (c * 2 ^ (8 - n + (8 - at_ % 8)) % 256))))) := by
  obtain ⟨d1, d2, d3⟩ := hd
  have d1' := d1.symm; have d2' := d2.symm; have d3' := d3.symm
  have c1 : w.cell? ⟨ba, 0, none⟩ = some (.int .i64 at_) := by rw [hat.cell]; rfl
  have c2 : w.cell? ⟨bo, 0, none⟩ = some (.slice (some ⟨g, 0, none⟩) N N) := by rw [hout.cell]; rfl
  have c3 : w.cell? ⟨g, at_ / 8, none⟩ = some (.int .u8 y) := by rw [hg.cell]; exact hy
  have c4 : w.cell? ⟨g, at_ / 8 + 1, none⟩ = some (.int .u8 z) := by rw [hg.cell]; exact hz
  have f1 := hat.frozen 0
  have f3 := hg.frozen (at_ / 8)
  have f4 := hg.frozen (at_ / 8 + 1)
  have H1 := Lib.hid hat; have H2 := Lib.hid hout; have H3 := Lib.hid hg; have H4 := Lib.hid hy; have H5 := Lib.hid hz
  clear hat hout hg hy hz
  go_enter Try.func82, Try.ntmps82
  go_wp2_with fail
  go_region
  all_goals go_wp2_with fail
  go_region
  all_goals go_wp2_with fail
  go_end0
  refine ⟨rfl, ?_, ?_, ?_, ?_, ?_⟩
  · exact ((H3.out.set_ _ _).set_ _ _).far d1 _
  · have h := ((H1.out.far (p := ⟨g, at_ / 8, none⟩) d1' (.int .u8 (bits BinOp.or IntKind.u8 y (c / 2 ^ (n - (8 - at_ % 8)))))).far (p := ⟨g, at_ / 8 + 1, none⟩) d1' (.int .u8 (bits BinOp.or IntKind.u8 z (c * 2 ^ (8 - n + (8 - at_ % 8)) % 256)))).set_ 0 (.int .i64 (at_ + n))
    exact h
  · exact ((H2.out.far d2' _).far d2' _).far d3' _
  · exact ((((Below.refl B w).setCell hB.1 _).setCell hB.1 _).setCell hB.2.1 _).drew.drew
  · simp [World.setCell]
end Go.Proofs.Ytdhjcdkpbbbicaa

/- Package bits: fits, Size, the closure, Pack. -/
namespace Go.Proofs.Ytdhjcdkpbbbicaa
open Go.RowKit

def bytesArr (X N : Nat) : Array Value := ((bytesOf X N).map (Value.int .u8)).toArray
theorem bytesArr_get (X N j : Nat) (h : j < N) : (bytesArr X N)[j]? = some (.int .u8 (byteAt X N j : Int)) := by
  simp [bytesArr, bytesOf_get X N j h]
theorem bytesArr_add (X N j d : Nat) (hj : j < N) (hd : byteAt X N j + d < 256) :
    (bytesArr X N).setIfInBounds j (.int .u8 ((byteAt X N j + d : Nat) : Int)) = bytesArr (X + d * 256 ^ (N - 1 - j)) N := by
  unfold bytesArr
  rw [bytesOf_add X N j d hj hd]
  simp [List.map_set]
theorem cast_shl (c k : Nat) : (c : Int) * 2 ^ k % 256 = ((c * 2 ^ k % 256 : Nat) : Int) := by
  rw [Int.natCast_emod, Int.natCast_mul, Int.natCast_pow]; rfl
theorem cast_shr (c k : Nat) : (c : Int) / 2 ^ k = ((c / 2 ^ k : Nat) : Int) := by
  rw [Int.natCast_ediv, Int.natCast_pow]; rfl

theorem bytesOf_u8 (X N : Nat) : U8 (bytesOf X N) := by
  intro y hy
  obtain ⟨j, _, rfl⟩ := List.mem_map.1 hy
  have := byteAt_lt X N j
  omega
/-- The closure of Pack: n bits of value c are laid down behind. -/
theorem put_any (w : World) (B g bo ba N at_ n c X : Nat) (hat : Blk w ba 3 #[.int .i64 at_]) (hout : Blk w bo 25 #[.slice (some ⟨g, 0, none⟩) N N]) (hg : Blk w g 5 (bytesArr X N))
    (hB : B ≤ g ∧ B ≤ ba ∧ B ≤ bo) (hd : g ≠ ba ∧ g ≠ bo ∧ ba ≠ bo) (hX : X % 2 ^ (8 * N - at_) = 0) (hn0 : 1 ≤ n) (hn : n ≤ 8) (hc : c < 2 ^ n) (hN : at_ + n ≤ 8 * N) (hNb : N ≤ 1000000) :
    Calls Try.prog 82 #[.int .u8 c, .int .i64 n, .pointer (some ⟨ba, 0, none⟩), .pointer (some ⟨bo, 0, none⟩)] w
      (PutOut w B g bo ba N (at_ + n) (bytesArr (X + c * 2 ^ (8 * N - at_ - n)) N)) := by
  have hc256 : c < 256 := Nat.lt_of_lt_of_le hc (Nat.pow_le_pow_right (n := 2) (j := 8) (by omega) hn)
  by_cases h : n ≤ 8 - at_ % 8
  · obtain ⟨e1, e2, e3⟩ := put_fits X N at_ n c hN hn0 hX hc h
    have hj : at_ / 8 < N := by omega
    have hb := byteAt_lt X N (at_ / 8)
    have := put1_any w B g bo ba N at_ n c (byteAt X N (at_ / 8) : Nat) hat hout _ hg hB hd (bytesArr_get X N _ hj) h hn hj hNb (by omega) (by omega)
    rw [cast_shl, u8_or_nat _ _ hb (by omega), e1, bytesArr_add X N _ _ hj e2, ← e3] at this
    exact this
  · obtain ⟨e1, e2, e3, e4, e5⟩ := put_two X N at_ n c hN hX hc (by omega) hn
    have hj : at_ / 8 < N := by omega
    have hb := byteAt_lt X N (at_ / 8)
    have := put2_any w B g bo ba N at_ n c (byteAt X N (at_ / 8) : Nat) (byteAt X N (at_ / 8 + 1) : Nat) hat hout _ hg hB hd (bytesArr_get X N _ hj) (bytesArr_get X N _ e4) (by omega) hn e4 hNb (by omega) (by omega) (by rw [e3]; omega)
    have hlt : c / 2 ^ (n - (8 - at_ % 8)) < 256 := Nat.lt_of_le_of_lt (Nat.div_le_self _ _) hc256
    rw [cast_shl, cast_shr, u8_or_nat _ _ hb hlt, e1, u8_or_nat _ _ (byteAt_lt _ _ _) (by omega), e3, Nat.zero_or, bytesArr_add X N _ _ hj e2] at this
    have hz : byteAt (X + c / 2 ^ (n - (8 - at_ % 8)) * 256 ^ (N - 1 - at_ / 8)) N (at_ / 8 + 1) = 0 := by
      rw [byteAt_add X N _ _ _ hj e4 e2, if_neg (by omega), e3]
    have h2 := bytesArr_add (X + c / 2 ^ (n - (8 - at_ % 8)) * 256 ^ (N - 1 - at_ / 8)) N (at_ / 8 + 1) (c * 2 ^ (8 - n + (8 - at_ % 8)) % 256) e4 (by rw [hz]; omega)
    rw [hz, Nat.zero_add] at h2
    rw [h2, ← e5] at this
    exact this

def fitsB (m x : Int) : Bool := decide (0 ≤ m ∧ m ≤ 4096 ∧ 0 ≤ x ∧ x ≤ 64)
set_option maxRecDepth 100000 in
set_option maxHeartbeats 400000 in
theorem fits_any (m x : Int) (w : World) :
    Calls Try.prog 80 #[.int .i64 m, .int .i64 x] w fun e w' => e = .returned (.bool (fitsB m x)) ∧ w = w' := by
  rcases (show m < 0 ∨ (0 ≤ m ∧ 4096 < m) ∨ (0 ≤ m ∧ m ≤ 4096 ∧ x < 0) ∨ (0 ≤ m ∧ m ≤ 4096 ∧ 0 ≤ x ∧ 64 < x) ∨ (0 ≤ m ∧ m ≤ 4096 ∧ 0 ≤ x ∧ x ≤ 64) by omega) with h | ⟨h1, h2⟩ | ⟨h1, h2, h3⟩ | ⟨h1, h2, h3, h4⟩ | ⟨h1, h2, h3, h4⟩
  all_goals
    first | have HF : Hid (fitsB m x = false) := decide_eq_false (by omega) | have HF : Hid (fitsB m x = true) := decide_eq_true (by omega)
    go_enter Try.func80, Try.ntmps80
    go_wp2_with fail
    go_ret
    exact ⟨ret_bool (by rw [HF.out] <;> first | rfl | exact decide_eq_false (by omega) | exact decide_eq_true (by omega)), rfl⟩

def sizeN (m x : Int) : Int := if fitsB m x then (m * x + 7) / 8 else 0
set_option maxRecDepth 100000 in
set_option maxHeartbeats 400000 in
theorem Size_any (m x : Int) (w : World) :
    Calls Try.prog 81 #[.int .i64 m, .int .i64 x] w fun e w' => e = .returned (.int .i64 (sizeN m x)) ∧ w = w' := by
  cases hf : fitsB m x
  · have HS : Hid (sizeN m x = 0) := by show sizeN m x = 0; unfold sizeN; rw [hf]; rfl
    have HF := Lib.hid hf; clear hf
    go_enter Try.func81, Try.ntmps81
    go_wp2_with fail
    refine (fits_any _ _ _).mono ?_; rintro e w' ⟨rfl, rfl⟩
    rw [HF.out]
    go_wp2_with fail
    go_ret
    exact ⟨ret_int HS.out.symm, rfl⟩
  · have HS : Hid (sizeN m x = (m * x + 7) / 8) := by show sizeN m x = _; unfold sizeN; rw [hf]; rfl
    have hb : 0 ≤ m ∧ m ≤ 4096 ∧ 0 ≤ x ∧ x ≤ 64 := by simpa [fitsB] using hf
    have h1 : 0 ≤ m * x := Int.mul_nonneg hb.1 hb.2.2.1
    have h2 : m * x ≤ 4096 * 64 := Int.mul_le_mul hb.2.1 hb.2.2.2 hb.2.2.1 (by omega)
    have HF := Lib.hid hf; clear hf
    go_enter Try.func81, Try.ntmps81
    go_wp2_with fail
    refine (fits_any _ _ _).mono ?_; rintro e w' ⟨rfl, rfl⟩
    rw [HF.out]
    go_wp2_with fail
    go_ret
    exact ⟨ret_int HS.out.symm, rfl⟩

end Go.Proofs.Ytdhjcdkpbbbicaa

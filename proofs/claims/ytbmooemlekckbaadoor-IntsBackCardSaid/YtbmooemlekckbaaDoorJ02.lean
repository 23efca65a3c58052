/- Joined texts: Base, Zig, Ref7, CloneB, Ints. Each has its own head line. No condition beyond those that its theorems state. -/
import Derived.PlainAid
import Derived.Test.YtbmooemlekckbaaDoorProg
import Derived.Test.YtbmooemlekckbaaDoorJ01
set_option linter.unusedVariables false

/- Facts on the program's types; copies of bytes: slices.Clone, bytes.Clone. -/
namespace Go.Proofs.YtbmooemlekckbaaDoor
open Go.RowKit
theorem info_u8 : (Tryd.prog.info? 5).map (fun i => (i.zero, i.size, i.bytes)) = some (some (.int .u8 0), 1, 1) := by kernel_rfl
theorem info_u64 : (Tryd.prog.info? 89).map (fun i => (i.zero, i.size, i.bytes)) = some (some (.int .u64 0), 1, 8) := by kernel_rfl
theorem info_int : (Tryd.prog.info? 3).map (fun i => (i.zero, i.size, i.bytes)) = some (some (.int .i64 0), 1, 8) := by kernel_rfl
theorem info_bool : (Tryd.prog.info? 4).map (fun i => (i.zero, i.size, i.bytes)) = some (some (.bool false), 1, 1) := by kernel_rfl

theorem Ri.oneCell (k : IntKind) (l : List Int) : ∀ u ∈ l.map (Value.int k), u.oneCell' = true := by
  intro u hu
  obtain ⟨x, _, rfl⟩ := List.mem_map.1 hu
  rfl

/-- A cut 's[i:]' whose address the walk has not yet parted on. -/
theorem Ri.restIf {w : World} {k : IntKind} {n : Nat} {l : List Int} {b o : Nat} (h : Ri w k (some ⟨b, o, none⟩) n l) {i : Nat} (hi : i ≤ n) {cap : Nat} (hc : n ≤ cap) :
    Ri w k (if cap = i then some ⟨b, o, none⟩ else some ⟨b, o + i, none⟩) (n - i) (l.drop i) := by
  have h1 := h.rest (i := i) hi (fun _ => rfl)
  split
  · exact h1.zero (by omega) _
  · exact h1

theorem strOf_toList (l : List Int) : (strOf l).toList = l.map fun n => UInt8.ofNat n.toNat := by rw [ByteArray.toList_eq]; rfl
/-- string(b), for the walk. -/
theorem conv_any {w : World} {G : Option Addr} {n c : Nat} {l : List Int} (h : Ri w .u8 G n l) : (convert 27 9 (.slice G n c)).run Tryd.prog w = .ok (.string (strOf l)) w :=
  run_conv 27 5 9 Tryd.underlying27 Tryd.underlying5 Tryd.underlying9 G n c l h

set_option maxRecDepth 100000 in
set_option maxHeartbeats 400000 in
theorem Clone_any (A : Option Addr) (n cap : Nat) (l : List Int) (w : World) (hr : Ri w .u8 A n l) (hn : n ≤ 1000000000) :
    Calls Tryd.prog 38 #[.slice A n cap] w (BytesOut w l) := by
  obtain ⟨i0, hi, hz0, hz1, hz2⟩ := info_parts info_u8
  have q := fun (w : World) (a : Option Addr) (n c : Nat) => Lib.run_eql_slice_nil (P := Tryd.prog) w 27 5 a n c 0 0 Tryd.underlying27
  have HR := Lib.hid hr; clear hr
  cases A with
  | none =>
    have hn0 : n = 0 := by
      rcases Nat.eq_zero_or_pos n with h | h
      · exact h
      · obtain ⟨b, o, e, _⟩ := HR.out.all h; cases e
    subst hn0
    have hl : l = [] := List.eq_nil_of_length_eq_zero HR.out.len
    subst hl
    go_enter Tryd.func38, Tryd.ntmps38
    go_wp2_with fail
    go_ret
    exact ⟨none, 0, 0, rfl, Sl.nil _ _, Below.refl _ _⟩
  | some a =>
    go_enter Tryd.func38, Tryd.ntmps38
    go_wp2_with (at_builtin; refine wpList_append_any _ rfl _ _ 27 rfl w.heap.size 5 i0 (.int .u8 0) 1 1 Tryd.underlying27 hi hz0 hz1 hz2 rfl (by decide) _ 0 [] rfl (own_empty w _ 1) _ n _ (l.map (Value.int .u8)) rfl (HR.out.alloc _) (Ri.oneCell _ _) ?c2 ?c3 ?c4 ?_)
    case c2 => unfold maxLen; omega
    case c3 => omega
    case c4 => simp
    intro G c w1 hown hgr _ _
    have HO := Lib.hid hown; clear hown
    go_wp2_with fail
    go_ret
    exact ⟨G, n, c, rfl, Sl.of_own HO.out, push0 ((Below.refl _ _).alloc (Nat.le_refl _) _) (Nat.le_refl _) (own_empty w _ 1) hgr⟩
/-- append onto a row of the call's own, elements of kind u8, whatever is appended. -/
theorem wpList_u8 (w : World) {ops : Array Oper} {rest : List Oper} {o : Oper} {a : Act} {Q : Exit → Act → World → Prop} (hgd : o.guard = none) (s x : Operand)
    (ho : o.op = .call { callee := .builtin .append, args := #[s, x], argTypes := #[27, 27] })
    (base : Nat) (v : Value) (n : Nat) (l : List Int) (hs : a.eval s = v) (hown : w.ownsRow base 5 1 v n (l.map (Value.int .u8)))
    (A : Option Addr) (m c : Nat) (l2 : List Int) (hx : a.eval x = .slice A m c) (hr : Ri w .u8 A m l2) (hb : n + m ≤ 2000000000) (hbase : base ≤ w.heap.size)
    (h : ∀ G cap w', w'.ownsRow base 5 1 (.slice G (n + m) cap) (n + m) ((l ++ l2).map (Value.int .u8)) → w.grownBy w' v.ownBlock → n + m ≤ cap → wpList Tryd.prog ops Q rest (a.put o.dst (.slice G (n + m) cap)) w') : wpList Tryd.prog ops Q (o :: rest) a w := by
  obtain ⟨i0, hi, hz0, hz1, hz2⟩ := info_parts info_u8
  refine wpList_append_any w hgd s x 27 ho base 5 i0 (.int .u8 0) 1 1 Tryd.underlying27 hi hz0 hz1 hz2 rfl (by decide) v n _ hs hown A m c _ hx hr (Ri.oneCell _ _) (by unfold maxLen; omega) (by omega) hbase ?_
  intro G cap w' h1 h2 _ h4
  rw [← List.map_append] at h1
  exact h G cap w' h1 h2 h4
/-- append onto a row of the call's own, elements of kind u64, whatever is appended. -/
theorem wpList_u64 (w : World) {ops : Array Oper} {rest : List Oper} {o : Oper} {a : Act} {Q : Exit → Act → World → Prop} (hgd : o.guard = none) (s x : Operand)
    (ho : o.op = .call { callee := .builtin .append, args := #[s, x], argTypes := #[93, 93] })
    (base : Nat) (v : Value) (n : Nat) (l : List Int) (hs : a.eval s = v) (hown : w.ownsRow base 89 1 v n (l.map (Value.int .u64)))
    (A : Option Addr) (m c : Nat) (l2 : List Int) (hx : a.eval x = .slice A m c) (hr : Ri w .u64 A m l2) (hb : n + m ≤ 2000000000) (hbase : base ≤ w.heap.size)
    (h : ∀ G cap w', w'.ownsRow base 89 1 (.slice G (n + m) cap) (n + m) ((l ++ l2).map (Value.int .u64)) → w.grownBy w' v.ownBlock → n + m ≤ cap → wpList Tryd.prog ops Q rest (a.put o.dst (.slice G (n + m) cap)) w') : wpList Tryd.prog ops Q (o :: rest) a w := by
  obtain ⟨i0, hi, hz0, hz1, hz2⟩ := info_parts info_u64
  refine wpList_append_any w hgd s x 93 ho base 89 i0 (.int .u64 0) 1 8 Tryd.underlying93 hi hz0 hz1 hz2 rfl (by decide) v n _ hs hown A m c _ hx hr (Ri.oneCell _ _) (by unfold maxLen; omega) (by omega) hbase ?_
  intro G cap w' h1 h2 _ h4
  rw [← List.map_append] at h1
  exact h G cap w' h1 h2 h4

end Go.Proofs.YtbmooemlekckbaaDoor

/- Numbers with a sign, as numbers without: varint.Zig, Zag and their references. -/
namespace Go.Proofs.YtbmooemlekckbaaDoor
open Go.RowKit

def zig (x : Int) : Int := if x < 0 then -2 * x - 1 else 2 * x
def zag (u : Int) : Int := if u % 2 = 1 then -(u / 2) - 1 else u / 2
theorem zig_range (x : Int) (h0 : -9223372036854775808 ≤ x) (h1 : x < 9223372036854775808) : 0 ≤ zig x ∧ zig x < 18446744073709551616 := by unfold zig; omega
theorem zag_range (u : Int) (h0 : 0 ≤ u) (h1 : u < 18446744073709551616) : -9223372036854775808 ≤ zag u ∧ zag u < 9223372036854775808 := by unfold zag; omega
theorem zag_zig (x : Int) : zag (zig x) = x := by unfold zag zig; omega
theorem zig_zag (u : Int) (h : 0 ≤ u) : zig (zag u) = u := by unfold zag zig; omega

theorem xor_ones (b : Nat) (hb : b < 2 ^ 64) : b ^^^ (2 ^ 64 - 1) = 2 ^ 64 - 1 - b := by
  apply Nat.eq_of_testBit_eq
  intro i
  rw [Nat.testBit_xor, Nat.testBit_two_pow_sub_one, show 2 ^ 64 - 1 - b = 2 ^ 64 - (b + 1) from by omega, Nat.testBit_two_pow_sub_succ hb]
  by_cases h : i < 64
  · simp [h]
  · have : b.testBit i = false := Nat.testBit_lt_two_pow (Nat.lt_of_lt_of_le hb (Nat.pow_le_pow_right (by omega) (by omega)))
    simp [h, this]

theorem xor_neg (x : Int) (h0 : -9223372036854775808 ≤ x) (h1 : x < 0) :
    bits .xor .u64 (IntKind.u64.wrap (IntKind.u64.wrap x * 2)) (IntKind.u64.wrap (-1)) = zig x := by
  have e1 : IntKind.u64.wrap (-1) = ((2 ^ 64 - 1 : Nat) : Int) := by rw [IntKind.wrap_u64]; decide
  obtain ⟨m, hm⟩ : ∃ m : Nat, IntKind.u64.wrap (IntKind.u64.wrap x * 2) = (m : Int) ∧ (m : Int) = 18446744073709551616 + 2 * x := by
    rw [IntKind.wrap_u64, IntKind.wrap_u64]
    exact ⟨(18446744073709551616 + 2 * x).toNat, by omega, by omega⟩
  rw [e1, hm.1, u64_xor_nat _ _ (by omega) (by omega), xor_ones m (by omega)]
  unfold zig
  rw [if_pos h1]
  have := hm.2
  omega
theorem xor_nonneg (x : Int) (h0 : 0 ≤ x) (h1 : x < 9223372036854775808) : bits .xor .u64 (x * 2) 0 = zig x := by
  obtain ⟨m, rfl⟩ := Int.eq_ofNat_of_zero_le h0
  have := u64_xor_nat (m * 2) 0 (by omega) (by omega)
  rw [Nat.xor_zero] at this
  rw [show ((m : Int) * 2) = ((m * 2 : Nat) : Int) from by omega, show (0 : Int) = ((0 : Nat) : Int) from rfl, this]
  unfold zig
  rw [if_neg (by omega)]
  omega

set_option maxRecDepth 100000 in
set_option maxHeartbeats 400000 in
theorem Zig_any (x : Int) (w : World) (h0 : -9223372036854775808 ≤ x) (h1 : x < 9223372036854775808) :
    Calls Tryd.prog 89 #[.int .i64 x] w fun e w' => e = .returned (.int .u64 (zig x)) ∧ w = w' := by
  by_cases hx : x < 0
  · have e1 : x / 9223372036854775808 = -1 := by omega
    go_enter Tryd.func89, Tryd.ntmps89
    go_wp2
    go_ret
    exact ⟨ret_int (xor_neg x h0 hx), rfl⟩
  · have e1 : x / 9223372036854775808 = 0 := by omega
    go_enter Tryd.func89, Tryd.ntmps89
    go_wp2
    go_ret
    exact ⟨ret_int (xor_nonneg x (by omega) h1), rfl⟩

theorem xor_zag (x : Int) (h0 : 0 ≤ x) (h1 : x < 18446744073709551616) : bits BinOp.xor IntKind.i64 (x / 2) (wrap64 (-wrap64 (bits BinOp.and IntKind.u64 x 1))) = zag x := by
  rw [and_one_u64 x h0 (by omega), IntWalk.wrap64_in (x % 2) (by omega), IntWalk.wrap64_in _ (by omega)]
  obtain ⟨m, hm⟩ : ∃ m : Nat, (m : Int) = x / 2 := ⟨(x / 2).toNat, by omega⟩
  have hm2 : m < 2 ^ 63 := by omega
  unfold zag
  rw [← hm]
  have ofm : (BitVec.ofInt 64 (m : Int)).toNat = m := by
    rw [BitVec.ofInt_natCast, BitVec.toNat_ofNat]; exact Nat.mod_eq_of_lt (by omega)
  by_cases h : x % 2 = 1
  · rw [if_pos h, h]
    show IntKind.i64.wrap ((BitVec.ofInt 64 (m : Int) ^^^ BitVec.ofInt 64 (-1)).toNat : Int) = _
    rw [BitVec.toNat_xor, ofm, show (BitVec.ofInt 64 (-1)).toNat = 2 ^ 64 - 1 from by decide, xor_ones m (by omega), IntKind.wrap_i64]
    omega
  · rw [if_neg h, show x % 2 = 0 from by omega]
    show IntKind.i64.wrap ((BitVec.ofInt 64 (m : Int) ^^^ BitVec.ofInt 64 0).toNat : Int) = _
    rw [BitVec.toNat_xor, ofm, show (BitVec.ofInt 64 0).toNat = 0 from by decide, Nat.xor_zero, IntKind.wrap_i64]
    omega

set_option maxRecDepth 100000 in
set_option maxHeartbeats 400000 in
theorem Zag_any (x : Int) (w : World) (h0 : 0 ≤ x) (h1 : x < 18446744073709551616) :
    Calls Tryd.prog 76 #[.int .u64 x] w fun e w' => e = .returned (.int .i64 (zag x)) ∧ w = w' := by
  go_enter Tryd.func76, Tryd.ntmps76
  go_wp2
  go_ret
  exact ⟨ret_int (xor_zag x h0 h1), rfl⟩
end Go.Proofs.YtbmooemlekckbaaDoor

/- The reference of a number as it stands, and made back. -/
namespace Go.Proofs.YtbmooemlekckbaaDoor
open Go.RowKit

def madeR (u : Int) (s : Bool) : Int × Bool := if s then (zag u, true) else if 9223372036854775808 ≤ u then (0, false) else (u, true)
end Go.Proofs.YtbmooemlekckbaaDoor

/- bytes.Clone. -/
namespace Go.Proofs.YtbmooemlekckbaaDoor
open Go.RowKit

set_option maxRecDepth 100000 in
set_option maxHeartbeats 400000 in
theorem bytesClone_any (A : Option Addr) (n cap : Nat) (l : List Int) (w : World) (hr : Ri w .u8 A n l) (hn : n ≤ 1000000000) :
    Calls Tryd.prog 51 #[.slice A n cap] w (BytesOut w l) := by
  obtain ⟨i0, hi, hz0, hz1, hz2⟩ := info_parts info_u8
  have q := fun (w : World) (a : Option Addr) (n c : Nat) => Lib.run_eql_slice_nil (P := Tryd.prog) w 27 5 a n c 0 0 Tryd.underlying27
  have HR := Lib.hid hr; clear hr
  cases A with
  | none =>
    have hn0 : n = 0 := by
      rcases Nat.eq_zero_or_pos n with h | h
      · exact h
      · obtain ⟨b, o, e, _⟩ := HR.out.all h; cases e
    subst hn0
    have hl : l = [] := List.eq_nil_of_length_eq_zero HR.out.len
    subst hl
    go_enter Tryd.func51, Tryd.ntmps51
    go_wp2_with fail
    go_ret
    exact ⟨none, 0, 0, rfl, Sl.nil _ _, Below.refl _ _⟩
  | some a =>
    go_enter Tryd.func51, Tryd.ntmps51
    go_wp2_with (at_builtin; refine wpList_append_any _ rfl _ _ 27 rfl w.heap.size 5 i0 (.int .u8 0) 1 1 Tryd.underlying27 hi hz0 hz1 hz2 rfl (by decide) _ 0 [] rfl (own_empty w _ 1) _ n _ (l.map (Value.int .u8)) rfl (HR.out.alloc _) (Ri.oneCell _ _) ?c2 ?c3 ?c4 ?_)
    case c2 => unfold maxLen; omega
    case c3 => omega
    case c4 => simp
    intro G c w1 hown hgr _ _
    have HO := Lib.hid hown; clear hown
    go_wp2_with fail
    go_ret
    exact ⟨G, n, c, rfl, Sl.of_own HO.out, push0 ((Below.refl _ _).alloc (Nat.le_refl _) _) (Nat.le_refl _) (own_empty w _ 1) hgr⟩
end Go.Proofs.YtbmooemlekckbaaDoor

/- Rows of numbers of the call's own, all cells of which are numbers: bytes lie elsewhere. -/
namespace Go.Proofs.YtbmooemlekckbaaDoor
open Go.RowKit

/-- All cells of the row's block are numbers. -/
def Ints (w : World) (v : Value) : Prop := ∀ g, v.ownBlock = some g → ∃ cur e fz, w.heap[g]? = some (.cells cur e fz) ∧ ∀ u, u ∈ cur → ∃ x, u = .int .i64 x
theorem Ints.nil (w : World) (n c : Nat) : Ints w (.slice none n c) := fun g h => by cases h
theorem Ints.below {w w' : World} {v : Value} (h : Ints w v) (hb : Below w.heap.size w w') : Ints w' v := by
  intro g hg
  obtain ⟨cur, e, fz, h1, h2⟩ := h g hg
  exact ⟨cur, e, fz, (hb.block g (Array.getElem?_eq_some_iff.1 h1).1).trans h1, h2⟩
theorem Ints.drew {w : World} {v : Value} (h : Ints w v) : Ints w.drew v := h
theorem Ints.apart {w : World} {v : Value} (h : Ints w v) {A : Option Addr} {n : Nat} {l : List Int} (hr : Ri w .u8 A n l) (hn : 0 < n) {b o : Nat} (hA : A = some ⟨b, o, none⟩) : v.ownBlock ≠ some b := by
  intro hg
  obtain ⟨cur, e, fz, h1, h2⟩ := h b hg
  obtain ⟨b2, o2, hA2, _, hc⟩ := hr.all hn
  rw [hA] at hA2
  injection hA2 with hA2; injection hA2 with e1 e2
  subst e1 e2
  have h3 := hc 0 hn
  rw [cell_of_row w b _ cur e fz h1] at h3
  obtain ⟨x, hx⟩ := h2 _ (Array.mem_of_getElem? h3)
  cases hx
/-- Bytes stay when numbers are laid behind a row of the call's own. -/
theorem Ints.keep {w w' : World} {v : Value} (h : Ints w v) {A : Option Addr} {n : Nat} {l : List Int} (hr : Ri w .u8 A n l) (hg : w.grownBy w' v.ownBlock) : Ri w' .u8 A n l := by
  rcases Nat.eq_zero_or_pos n with h0 | h0
  · subst h0
    exact ⟨hr.1, fun h => absurd h (by omega)⟩
  · refine hr.grown hg (fun g b o h1 h2 => ?_)
    have := h.apart hr h0 h2
    intro h3
    exact this (by rw [h1, h3])
theorem Ints.alloc {w : World} {v : Value} (h : Ints w v) (o : Obj) : Ints (w.alloc o) v := h.below ((Below.refl _ _).alloc (Nat.le_refl _) _)
section
variable {P : Program} (w : World)
theorem run_append_ints (base : Nat) (t ty e : TypeId) (i : TypeInfo) (ht : P.underlying t = some (.slice e)) (hi : P.info? e = some i) (hz : i.zero = some (.int .i64 0))
    (hsize : i.size = 1) (hby : i.bytes = 8)
    (v : Value) (n : Nat) (l : List Int) (hown : w.ownsRow base e 1 v n (l.map (Value.int .i64))) (hI : Ints w v)
    (A : Option Addr) (m c : Nat) (l2 : List Int) (hr : Ri w .i64 A m l2)
    (hb : n + m ≤ 2000000000) (hbase : base ≤ w.heap.size) :
    ∃ G cap w', (Builtin.append_ #[t, t] ty #[v, .slice A m c]).run P w = .ok (.slice G (n + m) cap) w' ∧ w'.ownsRow base e 1 (.slice G (n + m) cap) (n + m) ((l ++ l2).map (Value.int .i64)) ∧ w.grownBy w' v.ownBlock ∧
      ((Value.slice G (n + m) cap).ownBlock = v.ownBlock ∨ (Value.slice G (n + m) cap).ownBlock = some w.heap.size) ∧ n + m ≤ cap ∧ Ints w' (.slice G (n + m) cap) := by
  obtain ⟨G, cap, w', hrun, h2, h3, h4, h5⟩ := run_append_any (P := P) w base t ty e i (.int .i64 0) 1 8 ht hi hz hsize hby rfl (by decide) v n _ hown A m c _ hr (Ri.oneCell _ _) (by unfold maxLen; omega) (by omega) hbase
  refine ⟨G, cap, w', hrun, by rw [List.map_append]; exact h2, h3, h4, h5, ?_⟩
  have hnum : ∀ q : List Int, ∀ u, u ∈ q.map (Value.int .i64) → ∃ x, u = .int .i64 x := by
    intro q u hu
    obtain ⟨x, _, rfl⟩ := List.mem_map.1 hu
    exact ⟨x, rfl⟩
  have hzero : ∀ k u, u ∈ Builtin.zeroCells (Value.int .i64 0).cells k → ∃ x, u = .int .i64 x := by
    intro k u hu
    simp [Builtin.zeroCells, Value.cells, Nat.mod_one] at hu
    exact ⟨0, hu.2.symm⟩
  rcases A with _ | ad
  · have hm : m = 0 := by
      rcases Nat.eq_zero_or_pos m with h0 | h0
      · exact h0
      · obtain ⟨b, o, h, _⟩ := hr.2 h0
        cases h
    subst hm
    have h6 := run_append_of_nil w base t ty e i 1 ht hi v n _ hown c
    rw [h6] at hrun
    injection hrun with e1 e2
    rw [← e1, ← e2]
    exact hI
  · have hl2 : (l2.map (Value.int .i64)).length = m * i.size := by rw [hsize]; simpa using hr.len
    have hcells : ∀ j u, (l2.map (Value.int .i64))[j]? = some u → w.cell? (ad.add j) = some u := by
      intro j u hu
      rcases Nat.eq_zero_or_pos m with h0 | h0
      · subst h0
        have hn : l2 = [] := List.eq_nil_of_length_eq_zero hr.len
        subst hn
        simp at hu
      · obtain ⟨b, o, h, _, hc⟩ := hr.2 h0
        injection h with h
        subst h
        rw [add_none]
        exact hc j u hu
    rcases hown.2 with ⟨rfl, rfl⟩ | ⟨g, cap0, cur, rfl, hbg, hg, hnc, hcm, hcs, htake⟩
    · by_cases hm : m = 0
      · subst hm
        have hn : l2 = [] := List.eq_nil_of_length_eq_zero hr.len
        subst hn
        have h6 : (Builtin.append_ #[t, t] ty #[.slice none 0 0, .slice (some ad) 0 c]).run P w = .ok (.slice none 0 0) w := by
          simp [Builtin.append_, run_underlying ht, sizeOf, typeInfo, hi, Builtin.lenOf, Builtin.firstCells, loadCells, loadCellsFrom]
        rw [h6] at hrun
        injection hrun with e1 e2
        rw [← e1]
        exact Ints.nil _ _ _
      · have h6 := run_append_nil (P := P) w t ty e i (.int .i64 0) ht hi hz ad m c _ hl2 hcells (by omega) (by omega) (by rw [hby]; omega)
        rw [h6] at hrun
        injection hrun with e1 e2
        rw [← e1, ← e2]
        intro g hg
        injection hg with hg
        dsimp only at hg
        subst hg
        refine ⟨_, _, _, heap_alloc_new w.drew _, fun u hu => ?_⟩
        rcases Array.mem_append.1 hu with hu | hu
        · exact hnum _ _ (by simpa using hu)
        · exact hzero _ _ hu
    · obtain ⟨cur2, e2, fz2, h6, hcur⟩ := hI g rfl
      rw [hg] at h6
      injection h6 with h6
      injection h6 with h6a h6b h6c
      subst h6a
      have hown1 := hown.1
      by_cases hroom : n + m ≤ cap0
      · have hfit : n * i.size + (l2.map (Value.int .i64)).length ≤ cur.size := by rw [hl2, hcs, hsize]; omega
        have h6 := run_append_room (P := P) w t ty e i ht hi g n cap0 cur hg ad m c _ hl2 hcells (Ri.oneCell _ _) hroom hfit
        rw [h6] at hrun
        injection hrun with e1 e2
        rw [← e1, ← e2]
        intro g2 hg2
        injection hg2 with hg2
        dsimp only at hg2
        subst hg2
        refine ⟨_, _, _, setRow_heap w g cur _ e _ hg, fun u hu => ?_⟩
        simp only [List.mem_toArray, List.mem_append] at hu
        rcases hu with (hu | hu) | hu
        · exact hcur u (by simpa using List.mem_of_mem_take hu)
        · exact hnum _ _ hu
        · exact hcur u (by simpa using List.mem_of_mem_drop hu)
      · have holds : ∀ j u, (l.map (Value.int .i64))[j]? = some u → w.cell? ((⟨g, 0, none⟩ : Addr).add j) = some u := hown.cells (g := g) rfl
        have h6 := run_append_grow (P := P) w t ty e i (.int .i64 0) ht hi hz ⟨g, 0, none⟩ n cap0 _ (by rw [hsize]; exact hown1) holds ad m c _ hl2 hcells (by omega) (by omega) (growslice_fits (by omega) (by rw [hby]; omega))
        rw [h6] at hrun
        injection hrun with e1 e2
        rw [← e1, ← e2]
        intro g2 hg2
        injection hg2 with hg2
        dsimp only at hg2
        subst hg2
        refine ⟨_, _, _, heap_alloc_new w.drew _, fun u hu => ?_⟩
        rcases Array.mem_append.1 hu with hu | hu
        · rcases Array.mem_append.1 hu with hu | hu
          · exact hnum _ _ (by simpa using hu)
          · exact hnum _ _ (by simpa using hu)
        · exact hzero _ _ hu
theorem wp_append_ints {o : Oper} {a : Act} {K : Act → World → Prop} {Q : Exit → Act → World → Prop} (s x : Operand) (t : TypeId)
    (ho : o.op = .call { callee := .builtin .append, args := #[s, x], argTypes := #[t, t] })
    (base : Nat) (e : TypeId) (i : TypeInfo) (ht : P.underlying t = some (.slice e)) (hi : P.info? e = some i) (hz : i.zero = some (.int .i64 0))
    (hsize : i.size = 1) (hby : i.bytes = 8)
    (v : Value) (n : Nat) (l : List Int) (hs : a.eval s = v) (hown : w.ownsRow base e 1 v n (l.map (Value.int .i64))) (hI : Ints w v)
    (A : Option Addr) (m c : Nat) (l2 : List Int) (hx : a.eval x = .slice A m c) (hr : Ri w .i64 A m l2)
    (hb : n + m ≤ 2000000000) (hbase : base ≤ w.heap.size)
    (h : ∀ G cap w', w'.ownsRow base e 1 (.slice G (n + m) cap) (n + m) ((l ++ l2).map (Value.int .i64)) → w.grownBy w' v.ownBlock → Ints w' (.slice G (n + m) cap) → K (a.put o.dst (.slice G (n + m) cap)) w') : o.wp P a w K Q := by
  obtain ⟨G, cap, w', hrun, h2, h3, _, _, h5⟩ := run_append_ints (P := P) w base t o.type e i ht hi hz hsize hby v n l hown hI A m c l2 hr hb hbase
  unfold Oper.wp execOp
  simp only [ho, resolve, invoke, builtin, Sem.run_bind, Sem.run_pure, Result.andThen_ok, List.map_toArray, List.map_cons, List.map_nil, hs, hx, hrun]
  exact h G cap w' h2 h3 h5
end
theorem step_ints {w : World} {ops : Array Oper} {o : Oper} {a : Act} {K : Act → World → Prop} {Q : Exit → Act → World → Prop} {E : Prop} (hgd : o.guard = none) (s x : Operand)
    (ho : o.op = .call { callee := .builtin .append, args := #[s, x], argTypes := #[22, 22] })
    (base : Nat) (v : Value) (n : Nat) (l : List Int) (hs : a.eval s = v) (hown : w.ownsRow base 3 1 v n (l.map (Value.int .i64))) (hI : Ints w v)
    (A : Option Addr) (m c : Nat) (l2 : List Int) (hx : a.eval x = .slice A m c) (hr : Ri w .i64 A m l2) (hb : n + m ≤ 2000000000) (hbase : base ≤ w.heap.size)
    (h : ∀ G cap w', w'.ownsRow base 3 1 (.slice G (n + m) cap) (n + m) ((l ++ l2).map (Value.int .i64)) → w.grownBy w' v.ownBlock → Ints w' (.slice G (n + m) cap) → K (a.put o.dst (.slice G (n + m) cap)) w') :
    if Region.wanted o (yielded ops a.tmps) = true then Oper.wp Tryd.prog o a w K Q else E := by
  have hw : Region.wanted o (yielded ops a.tmps) = true := by simp [Region.wanted, hgd]
  rw [if_pos hw]
  obtain ⟨i0, hi, hz0, hz1, hz2⟩ := info_parts info_int
  exact wp_append_ints w s x 22 ho base 3 i0 Tryd.underlying22 hi hz0 hz1 hz2 v n l hs hown hI A m c l2 hx hr hb hbase h
theorem wpList_ints (w : World) {ops : Array Oper} {rest : List Oper} {o : Oper} {a : Act} {Q : Exit → Act → World → Prop} (hgd : o.guard = none) (s x : Operand)
    (ho : o.op = .call { callee := .builtin .append, args := #[s, x], argTypes := #[22, 22] })
    (base : Nat) (v : Value) (n : Nat) (l : List Int) (hs : a.eval s = v) (hown : w.ownsRow base 3 1 v n (l.map (Value.int .i64))) (hI : Ints w v)
    (A : Option Addr) (m c : Nat) (l2 : List Int) (hx : a.eval x = .slice A m c) (hr : Ri w .i64 A m l2) (hb : n + m ≤ 2000000000) (hbase : base ≤ w.heap.size)
    (h : ∀ G cap w', w'.ownsRow base 3 1 (.slice G (n + m) cap) (n + m) ((l ++ l2).map (Value.int .i64)) → w.grownBy w' v.ownBlock → Ints w' (.slice G (n + m) cap) → wpList Tryd.prog ops Q rest (a.put o.dst (.slice G (n + m) cap)) w') : wpList Tryd.prog ops Q (o :: rest) a w := by
  obtain ⟨i0, hi, hz0, hz1, hz2⟩ := info_parts info_int
  exact wpList_plain hgd fun _ hK => wp_append_ints w s x 22 ho base 3 i0 Tryd.underlying22 hi hz0 hz1 hz2 v n l hs hown hI A m c l2 hx hr hb hbase fun G cap w' h2 h3 h5 => hK _ _ (h G cap w' h2 h3 h5)
/-- append onto a row of bytes of the call's own, in a region that draws its order. -/
theorem step_u8o {w : World} {ops : Array Oper} {o : Oper} {a : Act} {K : Act → World → Prop} {Q : Exit → Act → World → Prop} {E : Prop} (hgd : o.guard = none) (s x : Operand)
    (ho : o.op = .call { callee := .builtin .append, args := #[s, x], argTypes := #[27, 27] })
    (base : Nat) (v : Value) (n : Nat) (l : List Int) (hs : a.eval s = v) (hown : w.ownsRow base 5 1 v n (l.map (Value.int .u8)))
    (A : Option Addr) (m c : Nat) (l2 : List Int) (hx : a.eval x = .slice A m c) (hr : Ri w .u8 A m l2) (hb : n + m ≤ 2000000000) (hbase : base ≤ w.heap.size)
    (h : ∀ G cap w', w'.ownsRow base 5 1 (.slice G (n + m) cap) (n + m) ((l ++ l2).map (Value.int .u8)) → w.grownBy w' v.ownBlock → ((Value.slice G (n + m) cap).ownBlock = v.ownBlock ∨ (Value.slice G (n + m) cap).ownBlock = some w.heap.size) → K (a.put o.dst (.slice G (n + m) cap)) w') :
    if Region.wanted o (yielded ops a.tmps) = true then Oper.wp Tryd.prog o a w K Q else E := by
  have hw : Region.wanted o (yielded ops a.tmps) = true := by simp [Region.wanted, hgd]
  rw [if_pos hw]
  obtain ⟨i0, hi, hz0, hz1, hz2⟩ := info_parts info_u8
  refine wp_append_any w s x 27 ho base 5 i0 (.int .u8 0) 1 1 Tryd.underlying27 hi hz0 hz1 hz2 rfl (by decide) v n _ hs hown A m c _ hx hr (Ri.oneCell _ _) (by unfold maxLen; omega) (by omega) hbase ?_
  intro G cap w' h1 h2 h3 _
  rw [← List.map_append] at h1
  exact h G cap w' h1 h2 h3
end Go.Proofs.YtbmooemlekckbaaDoor

/- Joined texts: Base, CloneB. Each has its own head line. No condition beyond those that its theorems state. -/
import Derived.Test.YtlmfdmaoakckgaaProg
import Derived.Test.YtlmfdmaoakckgaaJ01
set_option linter.unusedVariables false

/- Facts on the program's types; copies of bytes: slices.Clone, bytes.Clone. -/
namespace Go.Proofs.Ytlmfdmaoakckgaa
open Go.RowKit
theorem info_u8 : (Try.prog.info? 5).map (fun i => (i.zero, i.size, i.bytes)) = some (some (.int .u8 0), 1, 1) := by kernel_rfl
theorem info_u64 : (Try.prog.info? 45).map (fun i => (i.zero, i.size, i.bytes)) = some (some (.int .u64 0), 1, 8) := by kernel_rfl
theorem info_int : (Try.prog.info? 3).map (fun i => (i.zero, i.size, i.bytes)) = some (some (.int .i64 0), 1, 8) := by kernel_rfl
theorem info_bool : (Try.prog.info? 4).map (fun i => (i.zero, i.size, i.bytes)) = some (some (.bool false), 1, 1) := by kernel_rfl

theorem Ri.oneCell (k : IntKind) (l : List Int) : ∀ u ∈ l.map (Value.int k), u.oneCell' = true := by
  intro u hu
  obtain ⟨x, _, rfl⟩ := List.mem_map.1 hu
  rfl

/-- A cut 's[i:]' whose address the walk has not yet parted on. -/
theorem Ri.restIf {w : World} {k : IntKind} {n : Nat} {l : List Int} {b o : Nat} (h : Ri w k (some ⟨b, o, none⟩) n l) {i : Nat} (hi : i ≤ n) {cap : Nat} (hc : n ≤ cap) :
    Ri w k (if cap = i then some ⟨b, o, none⟩ else some ⟨b, o + i, none⟩) (n - i) (l.drop i) := by
  have h1 := h.rest (i := i) hi (fun _ => rfl)
  split
  · exact h1.zero (by omega) _
  · exact h1

theorem strOf_toList (l : List Int) : (strOf l).toList = l.map fun n => UInt8.ofNat n.toNat := by rw [ByteArray.toList_eq]; rfl
/-- string(b), for the walk. -/
theorem conv_any {w : World} {G : Option Addr} {n c : Nat} {l : List Int} (h : Ri w .u8 G n l) : (convert 25 9 (.slice G n c)).run Try.prog w = .ok (.string (strOf l)) w :=
  run_conv 25 5 9 Try.underlying25 Try.underlying5 Try.underlying9 G n c l h

set_option maxRecDepth 100000 in
set_option maxHeartbeats 400000 in
theorem Clone_any (A : Option Addr) (n cap : Nat) (l : List Int) (w : World) (hr : Ri w .u8 A n l) (hn : n ≤ 1000000000) :
    Calls Try.prog 69 #[.slice A n cap] w (BytesOut w l) := by
  obtain ⟨i0, hi, hz0, hz1, hz2⟩ := info_parts info_u8
  have q := fun (w : World) (a : Option Addr) (n c : Nat) => Lib.run_eql_slice_nil (P := Try.prog) w 25 5 a n c 0 0 Try.underlying25
  have HR := Lib.hid hr; clear hr
  cases A with
  | none =>
    have hn0 : n = 0 := by
      rcases Nat.eq_zero_or_pos n with h | h
      · exact h
      · obtain ⟨b, o, e, _⟩ := HR.out.all h; cases e
    subst hn0
    have hl : l = [] := List.eq_nil_of_length_eq_zero HR.out.len
    subst hl
    go_enter Try.func69, Try.ntmps69
    go_wp2_with fail
    go_ret
    exact ⟨none, 0, 0, rfl, Sl.nil _ _, Below.refl _ _⟩
  | some a =>
    go_enter Try.func69, Try.ntmps69
    go_wp2_with (at_builtin; refine wpList_append_any _ rfl _ _ 25 rfl w.heap.size 5 i0 (.int .u8 0) 1 1 Try.underlying25 hi hz0 hz1 hz2 rfl (by decide) _ 0 [] rfl (own_empty w _ 1) _ n _ (l.map (Value.int .u8)) rfl (HR.out.alloc _) (Ri.oneCell _ _) ?c2 ?c3 ?c4 ?_)
    case c2 => unfold maxLen; omega
    case c3 => omega
    case c4 => simp
    intro G c w1 hown hgr _ _
    have HO := Lib.hid hown; clear hown
    go_wp2_with fail
    go_ret
    exact ⟨G, n, c, rfl, Sl.of_own HO.out, push0 ((Below.refl _ _).alloc (Nat.le_refl _) _) (Nat.le_refl _) (own_empty w _ 1) hgr⟩
/-- append onto a row of the call's own, elements of kind u8, whatever is appended. -/
theorem wpList_u8 (w : World) {ops : Array Oper} {rest : List Oper} {o : Oper} {a : Act} {Q : Exit → Act → World → Prop} (hgd : o.guard = none) (s x : Operand)
    (ho : o.op = .call { callee := .builtin .append, args := #[s, x], argTypes := #[25, 25] })
    (base : Nat) (v : Value) (n : Nat) (l : List Int) (hs : a.eval s = v) (hown : w.ownsRow base 5 1 v n (l.map (Value.int .u8)))
    (A : Option Addr) (m c : Nat) (l2 : List Int) (hx : a.eval x = .slice A m c) (hr : Ri w .u8 A m l2) (hb : n + m ≤ 2000000000) (hbase : base ≤ w.heap.size)
    (h : ∀ G cap w', w'.ownsRow base 5 1 (.slice G (n + m) cap) (n + m) ((l ++ l2).map (Value.int .u8)) → w.grownBy w' v.ownBlock → n + m ≤ cap → wpList Try.prog ops Q rest (a.put o.dst (.slice G (n + m) cap)) w') : wpList Try.prog ops Q (o :: rest) a w := by
  obtain ⟨i0, hi, hz0, hz1, hz2⟩ := info_parts info_u8
  refine wpList_append_any w hgd s x 25 ho base 5 i0 (.int .u8 0) 1 1 Try.underlying25 hi hz0 hz1 hz2 rfl (by decide) v n _ hs hown A m c _ hx hr (Ri.oneCell _ _) (by unfold maxLen; omega) (by omega) hbase ?_
  intro G cap w' h1 h2 _ h4
  rw [← List.map_append] at h1
  exact h G cap w' h1 h2 h4
/-- append onto a row of the call's own, elements of kind u64, whatever is appended. -/
theorem wpList_u64 (w : World) {ops : Array Oper} {rest : List Oper} {o : Oper} {a : Act} {Q : Exit → Act → World → Prop} (hgd : o.guard = none) (s x : Operand)
    (ho : o.op = .call { callee := .builtin .append, args := #[s, x], argTypes := #[46, 46] })
    (base : Nat) (v : Value) (n : Nat) (l : List Int) (hs : a.eval s = v) (hown : w.ownsRow base 45 1 v n (l.map (Value.int .u64)))
    (A : Option Addr) (m c : Nat) (l2 : List Int) (hx : a.eval x = .slice A m c) (hr : Ri w .u64 A m l2) (hb : n + m ≤ 2000000000) (hbase : base ≤ w.heap.size)
    (h : ∀ G cap w', w'.ownsRow base 45 1 (.slice G (n + m) cap) (n + m) ((l ++ l2).map (Value.int .u64)) → w.grownBy w' v.ownBlock → n + m ≤ cap → wpList Try.prog ops Q rest (a.put o.dst (.slice G (n + m) cap)) w') : wpList Try.prog ops Q (o :: rest) a w := by
  obtain ⟨i0, hi, hz0, hz1, hz2⟩ := info_parts info_u64
  refine wpList_append_any w hgd s x 46 ho base 45 i0 (.int .u64 0) 1 8 Try.underlying46 hi hz0 hz1 hz2 rfl (by decide) v n _ hs hown A m c _ hx hr (Ri.oneCell _ _) (by unfold maxLen; omega) (by omega) hbase ?_
  intro G cap w' h1 h2 _ h4
  rw [← List.map_append] at h1
  exact h G cap w' h1 h2 h4

end Go.Proofs.Ytlmfdmaoakckgaa

/- bytes.Clone. -/
namespace Go.Proofs.Ytlmfdmaoakckgaa
open Go.RowKit

set_option maxRecDepth 100000 in
set_option maxHeartbeats 400000 in
theorem bytesClone_any (A : Option Addr) (n cap : Nat) (l : List Int) (w : World) (hr : Ri w .u8 A n l) (hn : n ≤ 1000000000) :
    Calls Try.prog 76 #[.slice A n cap] w (BytesOut w l) := by
  obtain ⟨i0, hi, hz0, hz1, hz2⟩ := info_parts info_u8
  have q := fun (w : World) (a : Option Addr) (n c : Nat) => Lib.run_eql_slice_nil (P := Try.prog) w 25 5 a n c 0 0 Try.underlying25
  have HR := Lib.hid hr; clear hr
  cases A with
  | none =>
    have hn0 : n = 0 := by
      rcases Nat.eq_zero_or_pos n with h | h
      · exact h
      · obtain ⟨b, o, e, _⟩ := HR.out.all h; cases e
    subst hn0
    have hl : l = [] := List.eq_nil_of_length_eq_zero HR.out.len
    subst hl
    go_enter Try.func76, Try.ntmps76
    go_wp2_with fail
    go_ret
    exact ⟨none, 0, 0, rfl, Sl.nil _ _, Below.refl _ _⟩
  | some a =>
    go_enter Try.func76, Try.ntmps76
    go_wp2_with (at_builtin; refine wpList_append_any _ rfl _ _ 25 rfl w.heap.size 5 i0 (.int .u8 0) 1 1 Try.underlying25 hi hz0 hz1 hz2 rfl (by decide) _ 0 [] rfl (own_empty w _ 1) _ n _ (l.map (Value.int .u8)) rfl (HR.out.alloc _) (Ri.oneCell _ _) ?c2 ?c3 ?c4 ?_)
    case c2 => unfold maxLen; omega
    case c3 => omega
    case c4 => simp
    intro G c w1 hown hgr _ _
    have HO := Lib.hid hown; clear hown
    go_wp2_with fail
    go_ret
    exact ⟨G, n, c, rfl, Sl.of_own HO.out, push0 ((Below.refl _ _).alloc (Nat.le_refl _) _) (Nat.le_refl _) (own_empty w _ 1) hgr⟩
end Go.Proofs.Ytlmfdmaoakckgaa

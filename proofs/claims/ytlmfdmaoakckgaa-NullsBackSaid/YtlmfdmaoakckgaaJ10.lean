/- Joined texts: Rows2, MulOne. Each has its own head line. No condition beyond those that its theorems state. -/
import Derived.Laws.CopyOwn
import Derived.Deep.RegionLaw
import Derived.Test.YtlmfdmaoakckgaaJ02
import Derived.Test.YtlmfdmaoakckgaaJ09
set_option linter.unusedVariables false

/- Two rows of the call's own, side by side. -/
namespace Go.Proofs.Ytlmfdmaoakckgaa
open Go.RowKit

/-- Two slices that lie in two blocks. -/
def Apart (u v : Value) : Prop := ∀ g, u.ownBlock = some g → v.ownBlock = some g → False
theorem Apart.symm {u v : Value} (h : Apart u v) : Apart v u := fun g h1 h2 => h g h2 h1
theorem Apart.kept {w w' : World} {B : Nat} {e : TypeId} {s n : Nat} {u v : Value} {xs : List Value} (h : Apart u v) (ho : w.ownsRow B e s v n xs) (hg : w.grownBy w' u.ownBlock) : w'.ownsRow B e s v n xs :=
  ho.kept hg (by
    cases hv : v.ownBlock with
    | none => exact .inl rfl
    | some g => exact .inr (fun e2 => h g e2.symm hv))
theorem Apart.grown {w : World} {B : Nat} {e : TypeId} {s n : Nat} {u u' v : Value} {xs : List Value} (h : Apart u v) (ho : w.ownsRow B e s v n xs) {N : Nat} (hN : w.heap.size ≤ N) (hu : u'.ownBlock = u.ownBlock ∨ u'.ownBlock = some N) : Apart u' v := by
  intro g h1 h2
  rcases hu with hu | hu
  · exact h g (hu.symm.trans h1) h2
  · have := (ho.lt g h2).2
    rw [hu] at h1
    injection h1 with h1
    omega
/-- append onto a row of the call's own, elements of kind u64; where the new slice lies. -/
theorem wpList_u64x (w : World) {ops : Array Oper} {rest : List Oper} {o : Oper} {a : Act} {Q : Exit → Act → World → Prop} (hgd : o.guard = none) (s x : Operand)
    (ho : o.op = .call { callee := .builtin .append, args := #[s, x], argTypes := #[46, 46] })
    (base : Nat) (v : Value) (n : Nat) (l : List Int) (hs : a.eval s = v) (hown : w.ownsRow base 45 1 v n (l.map (Value.int .u64)))
    (A : Option Addr) (m c : Nat) (l2 : List Int) (hx : a.eval x = .slice A m c) (hr : Ri w .u64 A m l2) (hb : n + m ≤ 2000000000) (hbase : base ≤ w.heap.size)
    (h : ∀ G cap w', w'.ownsRow base 45 1 (.slice G (n + m) cap) (n + m) ((l ++ l2).map (Value.int .u64)) → w.grownBy w' v.ownBlock → n + m ≤ cap → ((Value.slice G (n + m) cap).ownBlock = v.ownBlock ∨ (Value.slice G (n + m) cap).ownBlock = some w.heap.size) → wpList Try.prog ops Q rest (a.put o.dst (.slice G (n + m) cap)) w') : wpList Try.prog ops Q (o :: rest) a w := by
  obtain ⟨i0, hi, hz0, hz1, hz2⟩ := info_parts info_u64
  refine wpList_append_any w hgd s x 46 ho base 45 i0 (.int .u64 0) 1 8 Try.underlying46 hi hz0 hz1 hz2 rfl (by decide) v n _ hs hown A m c _ hx hr (Ri.oneCell _ _) (by unfold maxLen; omega) (by omega) hbase ?_
  intro G cap w' h1 h2 h3 h4
  rw [← List.map_append] at h1
  exact h G cap w' h1 h2 h4 h3
/-- append onto a row of the call's own, elements of kind u8; where the new slice lies. -/
theorem wpList_u8x (w : World) {ops : Array Oper} {rest : List Oper} {o : Oper} {a : Act} {Q : Exit → Act → World → Prop} (hgd : o.guard = none) (s x : Operand)
    (ho : o.op = .call { callee := .builtin .append, args := #[s, x], argTypes := #[25, 25] })
    (base : Nat) (v : Value) (n : Nat) (l : List Int) (hs : a.eval s = v) (hown : w.ownsRow base 5 1 v n (l.map (Value.int .u8)))
    (A : Option Addr) (m c : Nat) (l2 : List Int) (hx : a.eval x = .slice A m c) (hr : Ri w .u8 A m l2) (hb : n + m ≤ 2000000000) (hbase : base ≤ w.heap.size)
    (h : ∀ G cap w', w'.ownsRow base 5 1 (.slice G (n + m) cap) (n + m) ((l ++ l2).map (Value.int .u8)) → w.grownBy w' v.ownBlock → n + m ≤ cap → ((Value.slice G (n + m) cap).ownBlock = v.ownBlock ∨ (Value.slice G (n + m) cap).ownBlock = some w.heap.size) → wpList Try.prog ops Q rest (a.put o.dst (.slice G (n + m) cap)) w') : wpList Try.prog ops Q (o :: rest) a w := by
  obtain ⟨i0, hi, hz0, hz1, hz2⟩ := info_parts info_u8
  refine wpList_append_any w hgd s x 25 ho base 5 i0 (.int .u8 0) 1 1 Try.underlying25 hi hz0 hz1 hz2 rfl (by decide) v n _ hs hown A m c _ hx hr (Ri.oneCell _ _) (by unfold maxLen; omega) (by omega) hbase ?_
  intro G cap w' h1 h2 h3 h4
  rw [← List.map_append] at h1
  exact h G cap w' h1 h2 h4 h3
end Go.Proofs.Ytlmfdmaoakckgaa

/- math/bits.Mul by one; a row that is overwritten. -/
namespace Go.Proofs.Ytlmfdmaoakckgaa
open Go.RowKit

theorem and32 (n : Nat) (h : n < 4294967296) : bits BinOp.and IntKind.u64 (n : Int) 4294967295 = n := by
  rw [show (4294967295 : Int) = ((2 ^ 32 - 1 : Nat) : Int) from rfl, u64_and_nat _ _ (by omega) (by decide), Nat.and_two_pow_sub_one_eq_mod, Nat.mod_eq_of_lt h]
set_option maxHeartbeats 400000 in
theorem Mul64_one (n : Nat) (hn : n ≤ 1000000) (w : World) :
    Calls Try.prog 75 #[.int .u64 1, .int .u64 n] w fun e w' => e = .returned (.tuple #[.int .u64 0, .int .u64 n]) ∧ w = w' := by
  have h1 := and32 n (by omega)
  have h2 : (n : Int) / 4294967296 = 0 := by omega
  have h3 : bits BinOp.and IntKind.u64 1 4294967295 = 1 := by decide
  have h4 : bits BinOp.and IntKind.u64 0 4294967295 = 0 := by decide
  go_enter Try.func75, Try.ntmps75
  go_wp2_with fail
  go_ret2
  exact ⟨by simp, rfl⟩
set_option maxHeartbeats 400000 in
theorem Mul_one (n : Nat) (hn : n ≤ 1000000) (w : World) :
    Calls Try.prog 65 #[.int .u64 1, .int .u64 n] w fun e w' => e = .returned (.tuple #[.int .u64 0, .int .u64 n]) ∧ w = w' := by
  go_enter Try.func65, Try.ntmps65
  go_wp2_with fail
  refine (Mul64_one _ hn _).mono ?_; rintro e w' ⟨rfl, rfl⟩
  go_wp2_with fail
  go_ret2
  exact ⟨rfl, rfl⟩
theorem splice_get {cur : List Value} {q m : Nat} {x : Value} (hq : q + m ≤ cur.length) (h : ∀ j, j < q → cur[j]? = some x) (j : Nat) (hj : j < q + m) : (splice cur q (List.replicate m x))[j]? = some x := by
  unfold splice
  rcases Nat.lt_or_ge j q with h1 | h1
  · rw [List.getElem?_append_left (by rw [List.length_take]; omega), List.getElem?_take_of_lt h1]
    exact h j h1
  · rw [List.getElem?_append_right (by rw [List.length_take]; omega), List.getElem?_append_left (by rw [List.length_replicate, List.length_take]; omega), List.getElem?_replicate, if_pos (by rw [List.length_take]; omega)]
end Go.Proofs.Ytlmfdmaoakckgaa

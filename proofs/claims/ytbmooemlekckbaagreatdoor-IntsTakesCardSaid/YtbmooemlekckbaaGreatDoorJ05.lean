/- Joined texts: Rows2, RowV, RowB, MulOne, RowP, PAdd, ApartV. Each has its own head line. No condition beyond those that its theorems state. -/
import Derived.Laws.CopyOwn
import Derived.Deep.RegionLaw
import Derived.Deep.RegionWith
import Derived.Test.YtbmooemlekckbaaGreatDoorJ02
import Derived.Test.YtbmooemlekckbaaGreatDoorJ04
set_option linter.unusedVariables false

/- Two rows of the call's own, side by side. -/
namespace Go.Proofs.YtbmooemlekckbaaGreatDoor
open Go.RowKit

/-- Two slices that lie in two blocks. -/
def Apart (u v : Value) : Prop := ∀ g, u.ownBlock = some g → v.ownBlock = some g → False
theorem Apart.symm {u v : Value} (h : Apart u v) : Apart v u := fun g h1 h2 => h g h2 h1
theorem Apart.kept {w w' : World} {B : Nat} {e : TypeId} {s n : Nat} {u v : Value} {xs : List Value} (h : Apart u v) (ho : w.ownsRow B e s v n xs) (hg : w.grownBy w' u.ownBlock) : w'.ownsRow B e s v n xs :=
  ho.kept hg (by
    cases hv : v.ownBlock with
    | none => exact .inl rfl
    | some g => exact .inr (fun e2 => h g e2.symm hv))
theorem Apart.grown {w : World} {B : Nat} {e : TypeId} {s n : Nat} {u u' v : Value} {xs : List Value} (h : Apart u v) (ho : w.ownsRow B e s v n xs) {N : Nat} (hN : w.heap.size ≤ N) (hu : u'.ownBlock = u.ownBlock ∨ u'.ownBlock = some N) : Apart u' v := by
  intro g h1 h2
  rcases hu with hu | hu
  · exact h g (hu.symm.trans h1) h2
  · have := (ho.lt g h2).2
    rw [hu] at h1
    injection h1 with h1
    omega
/-- append onto a row of the call's own, elements of kind u64; where the new slice lies. -/
theorem wpList_u64x (w : World) {ops : Array Oper} {rest : List Oper} {o : Oper} {a : Act} {Q : Exit → Act → World → Prop} (hgd : o.guard = none) (s x : Operand)
    (ho : o.op = .call { callee := .builtin .append, args := #[s, x], argTypes := #[79, 79] })
    (base : Nat) (v : Value) (n : Nat) (l : List Int) (hs : a.eval s = v) (hown : w.ownsRow base 94 1 v n (l.map (Value.int .u64)))
    (A : Option Addr) (m c : Nat) (l2 : List Int) (hx : a.eval x = .slice A m c) (hr : Ri w .u64 A m l2) (hb : n + m ≤ 2000000000) (hbase : base ≤ w.heap.size)
    (h : ∀ G cap w', w'.ownsRow base 94 1 (.slice G (n + m) cap) (n + m) ((l ++ l2).map (Value.int .u64)) → w.grownBy w' v.ownBlock → n + m ≤ cap → ((Value.slice G (n + m) cap).ownBlock = v.ownBlock ∨ (Value.slice G (n + m) cap).ownBlock = some w.heap.size) → wpList Tryz.prog ops Q rest (a.put o.dst (.slice G (n + m) cap)) w') : wpList Tryz.prog ops Q (o :: rest) a w := by
  obtain ⟨i0, hi, hz0, hz1, hz2⟩ := info_parts info_u64
  refine wpList_append_any w hgd s x 79 ho base 94 i0 (.int .u64 0) 1 8 Tryz.underlying79 hi hz0 hz1 hz2 rfl (by decide) v n _ hs hown A m c _ hx hr (Ri.oneCell _ _) (by unfold maxLen; omega) (by omega) hbase ?_
  intro G cap w' h1 h2 h3 h4
  rw [← List.map_append] at h1
  exact h G cap w' h1 h2 h4 h3
/-- append onto a row of the call's own, elements of kind u8; where the new slice lies. -/
theorem wpList_u8x (w : World) {ops : Array Oper} {rest : List Oper} {o : Oper} {a : Act} {Q : Exit → Act → World → Prop} (hgd : o.guard = none) (s x : Operand)
    (ho : o.op = .call { callee := .builtin .append, args := #[s, x], argTypes := #[25, 25] })
    (base : Nat) (v : Value) (n : Nat) (l : List Int) (hs : a.eval s = v) (hown : w.ownsRow base 5 1 v n (l.map (Value.int .u8)))
    (A : Option Addr) (m c : Nat) (l2 : List Int) (hx : a.eval x = .slice A m c) (hr : Ri w .u8 A m l2) (hb : n + m ≤ 2000000000) (hbase : base ≤ w.heap.size)
    (h : ∀ G cap w', w'.ownsRow base 5 1 (.slice G (n + m) cap) (n + m) ((l ++ l2).map (Value.int .u8)) → w.grownBy w' v.ownBlock → n + m ≤ cap → ((Value.slice G (n + m) cap).ownBlock = v.ownBlock ∨ (Value.slice G (n + m) cap).ownBlock = some w.heap.size) → wpList Tryz.prog ops Q rest (a.put o.dst (.slice G (n + m) cap)) w') : wpList Tryz.prog ops Q (o :: rest) a w := by
  obtain ⟨i0, hi, hz0, hz1, hz2⟩ := info_parts info_u8
  refine wpList_append_any w hgd s x 25 ho base 5 i0 (.int .u8 0) 1 1 Tryz.underlying25 hi hz0 hz1 hz2 rfl (by decide) v n _ hs hown A m c _ hx hr (Ri.oneCell _ _) (by unfold maxLen; omega) (by omega) hbase ?_
  intro G cap w' h1 h2 h3 h4
  rw [← List.map_append] at h1
  exact h G cap w' h1 h2 h4 h3
end Go.Proofs.YtbmooemlekckbaaGreatDoor

/- Words for rows of values (three cells each). -/
namespace Go.Proofs.YtbmooemlekckbaaGreatDoor
open Go.RowKit

/-- A value: nothing, a number, a text. -/
structure Val where
  null : Bool
  n : Int
  s : ByteArray
def Val.zero : Val := ⟨false, 0, ⟨#[]⟩⟩
def Val.cells (v : Val) : List Value := [.bool v.null, .int .i64 v.n, .string v.s]
def Val.agg (v : Val) : Value := .agg #[.bool v.null, .int .i64 v.n, .string v.s]
def cellsV (l : List Val) : List Value := l.flatMap Val.cells
theorem cellsV_len (l : List Val) : (cellsV l).length = l.length * 3 := by
  induction l with
  | nil => rfl
  | cons v t ih => simp only [cellsV, List.flatMap_cons, List.length_append, List.length_cons] at ih ⊢; rw [ih]; simp [Val.cells]; omega
theorem cellsV_append (a b : List Val) : cellsV (a ++ b) = cellsV a ++ cellsV b := by simp [cellsV]
theorem cellsV_get (l : List Val) : ∀ j : Nat, j < l.length → ∃ v, l[j]? = some v ∧ (cellsV l)[j * 3]? = some (.bool v.null) ∧ (cellsV l)[j * 3 + 1]? = some (.int .i64 v.n) ∧ (cellsV l)[j * 3 + 2]? = some (.string v.s) := by
  induction l with
  | nil => intro j h; simp at h
  | cons v t ih =>
    intro j h
    cases j with
    | zero => exact ⟨v, rfl, by simp [cellsV, Val.cells], by simp [cellsV, Val.cells], by simp [cellsV, Val.cells]⟩
    | succ j =>
      obtain ⟨u, h1, h2, h3, h4⟩ := ih j (by simpa using h)
      have e : cellsV (v :: t) = v.cells ++ cellsV t := by simp [cellsV]
      refine ⟨u, by simpa using h1, ?_, ?_, ?_⟩
      · rw [e, List.getElem?_append_right (by simp [Val.cells]; omega), show (j + 1) * 3 - v.cells.length = j * 3 from by simp [Val.cells]; omega]; exact h2
      · rw [e, List.getElem?_append_right (by simp [Val.cells]; omega), show (j + 1) * 3 + 1 - v.cells.length = j * 3 + 1 from by simp [Val.cells]; omega]; exact h3
      · rw [e, List.getElem?_append_right (by simp [Val.cells]; omega), show (j + 1) * 3 + 2 - v.cells.length = j * 3 + 2 from by simp [Val.cells]; omega]; exact h4
/-- A slice of n values that reads as l. -/
def Rv (w : World) (A : Option Addr) (n : Nat) (l : List Val) : Prop := Rd w 3 A n (cellsV l)
section
variable {w w' : World} {A : Option Addr} {n : Nat} {l : List Val}
theorem Rv.len (h : Rv w A n l) : l.length = n := by have := h.1; rw [cellsV_len] at this; omega
theorem Rv.nil (w : World) (A : Option Addr) : Rv w A 0 [] := Rd.nil w 3 A
theorem Rv.below (h : Rv w A n l) (hb : Below w.heap.size w w') : Rv w' A n l := Rd.below h hb
theorem Rv.drewN (h : Rv w A n l) (m : Nat) : Rv (w.drewN m) A n l := h
theorem Rv.alloc (h : Rv w A n l) (o : Obj) : Rv (w.alloc o) A n l := Rd.alloc h o
theorem Rv.of_own {base : Nat} {e : TypeId} {c : Nat} (h : w.ownsRow base e 3 (.slice A n c) n (cellsV l)) : Rv w A n l := Rd.of_own h
theorem Rv.at_ (h : Rv w A n l) {j : Nat} (hj : j < n) : ∃ b o v, A = some ⟨b, o, none⟩ ∧ b < w.heap.size ∧ l[j]? = some v ∧ w.cell? ⟨b, o + j * 3, none⟩ = some (.bool v.null) ∧ w.cell? ⟨b, o + j * 3 + 1, none⟩ = some (.int .i64 v.n) ∧ w.cell? ⟨b, o + j * 3 + 2, none⟩ = some (.string v.s) := by
  obtain ⟨b, o, e, hb, hc⟩ := h.2 (by omega)
  obtain ⟨v, h1, h2, h3, h4⟩ := cellsV_get l j (by rw [h.len]; exact hj)
  exact ⟨b, o, v, e, hb, h1, hc _ _ h2, by rw [Nat.add_assoc]; exact hc _ _ h3, by rw [Nat.add_assoc]; exact hc _ _ h4⟩
theorem cellsV_take (l : List Val) (m : Nat) : (cellsV l).take (m * 3) = cellsV (l.take m) := by
  induction l generalizing m with
  | nil => simp [cellsV]
  | cons v t ih =>
    cases m with
    | zero => simp [cellsV]
    | succ m =>
      have e : cellsV (v :: t) = v.cells ++ cellsV t := by simp [cellsV]
      have e2 : cellsV (v :: t.take m) = v.cells ++ cellsV (t.take m) := by simp [cellsV]
      rw [e, List.take_succ_cons, e2, ← ih m, List.take_append]
      have h3 : v.cells.length = 3 := rfl
      rw [List.take_of_length_le (by omega), h3, show (m + 1) * 3 - 3 = m * 3 from by omega]
theorem Rv.first (h : Rv w A n l) {m : Nat} (hm : m ≤ n) : Rv w A m (l.take m) :=
  ⟨by have := h.len; rw [cellsV_len, List.length_take]; omega, fun h0 => by
    obtain ⟨b, o, e, hb, hc⟩ := h.2 (by omega)
    refine ⟨b, o, e, hb, fun j u hu => hc j u ?_⟩
    rw [← cellsV_take] at hu
    have hj : j < m * 3 := by
      rcases Nat.lt_or_ge j (m * 3) with hlt | hge
      · exact hlt
      · rw [List.getElem?_eq_none (by rw [List.length_take]; omega)] at hu; cases hu
    rwa [List.getElem?_take_of_lt hj] at hu⟩
theorem Rv.zero (h : Rv w A n l) (hn : n = 0) (A' : Option Addr) : Rv w A' n l := ⟨h.1, fun h0 => absurd h0 (by omega)⟩
theorem Rv.oneCell (l : List Val) : ∀ u ∈ cellsV l, u.oneCell' = true := by
  intro u hu
  obtain ⟨v, _, hv⟩ := List.mem_flatMap.1 hu
  simp [Val.cells] at hv
  rcases hv with rfl | rfl | rfl <;> rfl
end
/-- A slice of values with its bounds. -/
def Sv (w : World) (A : Option Addr) (n c : Nat) (l : List Val) : Prop := Rv w A n l ∧ n ≤ c ∧ c ≤ 9223372036854775807
theorem Sv.nil (w : World) : Sv w none 0 0 [] := ⟨Rv.nil _ _, Nat.le_refl _, by omega⟩
theorem Sv.below {w w' : World} {A : Option Addr} {n c : Nat} {l : List Val} (h : Sv w A n c l) (hb : Below w.heap.size w w') : Sv w' A n c l := ⟨h.1.below hb, h.2⟩
theorem info_val : (Tryz.prog.info? 35).map (fun i => (i.zero, i.size, i.bytes)) = some (some (.agg #[.bool false, .int .i64 0, .string ⟨#[]⟩]), 3, 32) := by kernel_rfl
/-- append onto a row of the call's own, values, whatever is appended. -/
theorem wpList_val (w : World) {ops : Array Oper} {rest : List Oper} {o : Oper} {a : Act} {Q : Exit → Act → World → Prop} (hgd : o.guard = none) (s x : Operand)
    (ho : o.op = .call { callee := .builtin .append, args := #[s, x], argTypes := #[22, 22] })
    (base : Nat) (v : Value) (n : Nat) (l : List Val) (hs : a.eval s = v) (hown : w.ownsRow base 35 3 v n (cellsV l))
    (A : Option Addr) (m c : Nat) (l2 : List Val) (hx : a.eval x = .slice A m c) (hr : Rv w A m l2) (hb : n + m ≤ 2000000000) (hbase : base ≤ w.heap.size)
    (h : ∀ G cap w', w'.ownsRow base 35 3 (.slice G (n + m) cap) (n + m) (cellsV (l ++ l2)) → w.grownBy w' v.ownBlock → n + m ≤ cap → wpList Tryz.prog ops Q rest (a.put o.dst (.slice G (n + m) cap)) w') : wpList Tryz.prog ops Q (o :: rest) a w := by
  obtain ⟨i0, hi, hz0, hz1, hz2⟩ := info_parts info_val
  refine wpList_append_any w hgd s x 22 ho base 35 i0 _ 3 32 Tryz.underlying22 hi hz0 hz1 hz2 rfl (by decide) v n _ hs hown A m c _ hx hr (Rv.oneCell _) (by unfold maxLen; omega) (by omega) hbase ?_
  intro G cap w' h1 h2 _ h4
  rw [← cellsV_append] at h1
  exact h G cap w' h1 h2 h4
end Go.Proofs.YtbmooemlekckbaaGreatDoor

/- Words for rows of truths. -/
namespace Go.Proofs.YtbmooemlekckbaaGreatDoor
open Go.RowKit

/-- A slice of n truths that reads as l. -/
def Rb (w : World) (A : Option Addr) (n : Nat) (l : List Bool) : Prop := Rd w 1 A n (l.map Value.bool)
section
variable {w w' : World} {A : Option Addr} {n : Nat} {l : List Bool}
theorem Rb.len (h : Rb w A n l) : l.length = n := by have := h.1; simpa using this
theorem Rb.nil (w : World) (A : Option Addr) : Rb w A 0 [] := Rd.nil w 1 A
theorem Rb.below (h : Rb w A n l) (hb : Below w.heap.size w w') : Rb w' A n l := Rd.below h hb
theorem Rb.drew (h : Rb w A n l) : Rb w.drew A n l := h
theorem Rb.drewN (h : Rb w A n l) (m : Nat) : Rb (w.drewN m) A n l := h
theorem Rb.alloc (h : Rb w A n l) (o : Obj) : Rb (w.alloc o) A n l := Rd.alloc h o
theorem Rb.of_own {base : Nat} {e : TypeId} {c : Nat} (h : w.ownsRow base e 1 (.slice A n c) n (l.map Value.bool)) : Rb w A n l := Rd.of_own h
theorem Rb.at_ (h : Rb w A n l) {j : Nat} (hj : j < n) : ∃ b o, A = some ⟨b, o, none⟩ ∧ b < w.heap.size ∧ w.cell? ⟨b, o + j, none⟩ = some (.bool (l.getD j false)) := by
  obtain ⟨b, o, e, hb, hc⟩ := h.2 (by omega)
  have hj' : j < l.length := by rw [h.len]; exact hj
  exact ⟨b, o, e, hb, hc j _ (by simp [List.getElem?_map, List.getElem?_eq_getElem hj'])⟩
theorem Rb.first (h : Rb w A n l) {m : Nat} (hm : m ≤ n) : Rb w A m (l.take m) :=
  ⟨by have := h.len; simp; omega, fun h0 => by
    obtain ⟨b, o, e, hb, hc⟩ := h.2 (by omega)
    refine ⟨b, o, e, hb, fun j u hu => hc j u ?_⟩
    rw [List.map_take] at hu
    have hj : j < m := by
      rcases Nat.lt_or_ge j m with hlt | hge
      · exact hlt
      · rw [List.getElem?_eq_none (by rw [List.length_take]; omega)] at hu; cases hu
    rwa [List.getElem?_take_of_lt hj] at hu⟩
theorem Rb.rest (h : Rb w A n l) {i : Nat} (hi : i ≤ n) {b o : Nat} (hA : 0 < n → A = some ⟨b, o, none⟩) : Rb w (some ⟨b, o + i, none⟩) (n - i) (l.drop i) :=
  ⟨by have := h.len; simp; omega, fun h0 => by
    obtain ⟨b', o', e, hb, hc⟩ := h.2 (by omega)
    have e2 := hA (by omega)
    rw [e] at e2
    injection e2 with e2
    injection e2 with e3 e4
    subst e3 e4
    refine ⟨_, _, rfl, hb, fun j u hu => ?_⟩
    rw [List.map_drop, List.getElem?_drop] at hu
    rw [Nat.add_assoc]
    exact hc _ u hu⟩
theorem Rb.zero (h : Rb w A n l) (hn : n = 0) (A' : Option Addr) : Rb w A' n l := ⟨h.1, fun h0 => absurd h0 (by omega)⟩
theorem Rb.restIf {b o : Nat} (h : Rb w (some ⟨b, o, none⟩) n l) {i : Nat} (hi : i ≤ n) {cap : Nat} (hc : n ≤ cap) :
    Rb w (if cap = i then some ⟨b, o, none⟩ else some ⟨b, o + i, none⟩) (n - i) (l.drop i) := by
  have h1 := h.rest (i := i) hi (fun _ => rfl)
  split
  · exact h1.zero (by omega) _
  · exact h1
theorem Rb.oneCell (l : List Bool) : ∀ u ∈ l.map Value.bool, u.oneCell' = true := by
  intro u hu
  obtain ⟨x, _, rfl⟩ := List.mem_map.1 hu
  rfl
end
/-- A slice of truths with its bounds. -/
def Sb (w : World) (A : Option Addr) (n c : Nat) (l : List Bool) : Prop := Rb w A n l ∧ n ≤ c ∧ c ≤ 9223372036854775807
theorem Sb.nil (w : World) : Sb w none 0 0 [] := ⟨Rb.nil _ _, Nat.le_refl _, by omega⟩
theorem Sb.below {w w' : World} {A : Option Addr} {n c : Nat} {l : List Bool} (h : Sb w A n c l) (hb : Below w.heap.size w w') : Sb w' A n c l := ⟨h.1.below hb, h.2⟩
theorem Sb.of_own {w : World} {A : Option Addr} {n c : Nat} {l : List Bool} {base : Nat} {e : TypeId} (h : w.ownsRow base e 1 (.slice A n c) n (l.map Value.bool)) : Sb w A n c l := ⟨Rb.of_own h, own_cap h⟩
theorem Rb_lit (w : World) (l : List Bool) (t : TypeId) (cs : Array Value) (hcs : cs = (l.map Value.bool).toArray) (n : Nat) (hn : l.length = n) :
    Rb (w.alloc (.cells cs t)) (some ⟨w.heap.size, 0, none⟩) n l := by
  subst hcs
  refine ⟨by simpa using hn, fun _ => ⟨w.heap.size, 0, rfl, by simp, fun j u hu => ?_⟩⟩
  rw [(Blk.new w t _).cell]; simpa using hu
/-- append onto a row of the call's own, truths, whatever is appended. -/
theorem wpList_bool (w : World) {ops : Array Oper} {rest : List Oper} {o : Oper} {a : Act} {Q : Exit → Act → World → Prop} (hgd : o.guard = none) (s x : Operand)
    (ho : o.op = .call { callee := .builtin .append, args := #[s, x], argTypes := #[39, 39] })
    (base : Nat) (v : Value) (n : Nat) (l : List Bool) (hs : a.eval s = v) (hown : w.ownsRow base 4 1 v n (l.map Value.bool))
    (A : Option Addr) (m c : Nat) (l2 : List Bool) (hx : a.eval x = .slice A m c) (hr : Rb w A m l2) (hb : n + m ≤ 2000000000) (hbase : base ≤ w.heap.size)
    (h : ∀ G cap w', w'.ownsRow base 4 1 (.slice G (n + m) cap) (n + m) ((l ++ l2).map Value.bool) → w.grownBy w' v.ownBlock → n + m ≤ cap → wpList Tryz.prog ops Q rest (a.put o.dst (.slice G (n + m) cap)) w') : wpList Tryz.prog ops Q (o :: rest) a w := by
  obtain ⟨i0, hi, hz0, hz1, hz2⟩ := info_parts info_bool
  refine wpList_append_any w hgd s x 39 ho base 4 i0 (.bool false) 1 1 Tryz.underlying39 hi hz0 hz1 hz2 rfl (by decide) v n _ hs hown A m c _ hx hr (Rb.oneCell _) (by unfold maxLen; omega) (by omega) hbase ?_
  intro G cap w' h1 h2 _ h4
  rw [← List.map_append] at h1
  exact h G cap w' h1 h2 h4
theorem takeB_snoc (l : List Bool) (k : Nat) (h : k < l.length) : l.take (k + 1) = l.take k ++ [l.getD k false] := by
  rw [List.take_succ_eq_append_getElem h]; simp [List.getD, List.getElem?_eq_getElem h]
/-- How many are true. -/
def countB (l : List Bool) : Nat := (l.filter id).length
theorem countB_snoc (l : List Bool) (x : Bool) : countB (l ++ [x]) = countB l + if x then 1 else 0 := by
  unfold countB
  rw [List.filter_append, List.length_append]
  cases x <;> rfl
theorem countB_append (a b : List Bool) : countB (a ++ b) = countB a + countB b := by
  unfold countB; rw [List.filter_append, List.length_append]
theorem countB_le (l : List Bool) : countB l ≤ l.length := List.length_filter_le _ _
theorem countB_turned (l : List Bool) : countB (l.map not) + countB l = l.length := by
  induction l with
  | nil => rfl
  | cons x t ih => cases x <;> simp [countB] at ih ⊢ <;> omega

set_option maxRecDepth 100000 in
set_option maxHeartbeats 1000000 in
theorem Count_any (w : World) (A : Option Addr) (n cap : Nat) (l : List Bool) (hr : Rb w A n l) (hn : n ≤ 1000000) :
    Calls Tryz.prog 64 #[.slice A n cap] w fun e w' => e = .returned (.int .i64 (countB l)) ∧ w = w' := by
  have HR := Lib.hid hr; have HN := Lib.hid hr.len
  clear hr
  go_enter Tryz.func64, Tryz.ntmps64
  go_wp2_with go_in
  go_loopw [5, 10] (fun c i wr => ∃ j : Nat, j ≤ n ∧ i = .int .i64 j ∧ c = .int .i64 (countB (l.take j)) ∧ Hid (wr = w)) (fun _ i _ => n - (intOf i).toNat)
  case atStart => exact ⟨0, by omega, rfl, rfl, rfl⟩
  case round =>
    obtain ⟨j, hj, rfl, rfl, hw⟩ := hrel
    obtain rfl := hw.out
    by_cases hlt : j < n
    · obtain ⟨b, o, hA, hbl, hcell⟩ := HR.out.at_ hlt
      subst hA
      have hs := Lib.hid (countB_snoc (l.take j) (l.getD j false))
      have ht := Lib.hid (takeB_snoc l j (by rw [HN.out]; exact hlt))
      have hcb : countB (l.take j) ≤ j := Nat.le_trans (countB_le _) (by rw [List.length_take]; omega)
      generalize l.getD j false = x at *
      generalize hcc : countB (l.take j) = c at *
      have HCC := Lib.hid hcc; clear hcc
      cases x
      all_goals
        go_wp2_with go_in
        go_roundw
        case rel =>
          refine ⟨j + 1, by omega, by go_num, ?_, Lib.hid trivial⟩
          rw [ht.out, hs.out]
          simp
        case measure => simp [intOf] <;> omega
    · go_wp2_with go_in
      go_ret
      rw [List.take_of_length_le (by rw [HN.out]; omega)]
      exact ⟨rfl, rfl⟩
end Go.Proofs.YtbmooemlekckbaaGreatDoor

/- math/bits.Mul by one; a row that is overwritten. -/
namespace Go.Proofs.YtbmooemlekckbaaGreatDoor
open Go.RowKit

theorem and32 (n : Nat) (h : n < 4294967296) : bits BinOp.and IntKind.u64 (n : Int) 4294967295 = n := by
  rw [show (4294967295 : Int) = ((2 ^ 32 - 1 : Nat) : Int) from rfl, u64_and_nat _ _ (by omega) (by decide), Nat.and_two_pow_sub_one_eq_mod, Nat.mod_eq_of_lt h]
set_option maxHeartbeats 400000 in
theorem Mul64_one (n : Nat) (hn : n ≤ 1000000) (w : World) :
    Calls Tryz.prog 110 #[.int .u64 1, .int .u64 n] w fun e w' => e = .returned (.tuple #[.int .u64 0, .int .u64 n]) ∧ w = w' := by
  have h1 := and32 n (by omega)
  have h2 : (n : Int) / 4294967296 = 0 := by omega
  have h3 : bits BinOp.and IntKind.u64 1 4294967295 = 1 := by decide
  have h4 : bits BinOp.and IntKind.u64 0 4294967295 = 0 := by decide
  go_enter Tryz.func110, Tryz.ntmps110
  go_wp2_with fail
  go_ret2
  exact ⟨by simp, rfl⟩
set_option maxHeartbeats 400000 in
theorem Mul_one (n : Nat) (hn : n ≤ 1000000) (w : World) :
    Calls Tryz.prog 73 #[.int .u64 1, .int .u64 n] w fun e w' => e = .returned (.tuple #[.int .u64 0, .int .u64 n]) ∧ w = w' := by
  go_enter Tryz.func73, Tryz.ntmps73
  go_wp2_with fail
  refine (Mul64_one _ hn _).mono ?_; rintro e w' ⟨rfl, rfl⟩
  go_wp2_with fail
  go_ret2
  exact ⟨rfl, rfl⟩
theorem splice_get {cur : List Value} {q m : Nat} {x : Value} (hq : q + m ≤ cur.length) (h : ∀ j, j < q → cur[j]? = some x) (j : Nat) (hj : j < q + m) : (splice cur q (List.replicate m x))[j]? = some x := by
  unfold splice
  rcases Nat.lt_or_ge j q with h1 | h1
  · rw [List.getElem?_append_left (by rw [List.length_take]; omega), List.getElem?_take_of_lt h1]
    exact h j h1
  · rw [List.getElem?_append_right (by rw [List.length_take]; omega), List.getElem?_append_left (by rw [List.length_replicate, List.length_take]; omega), List.getElem?_replicate, if_pos (by rw [List.length_take]; omega)]
end Go.Proofs.YtbmooemlekckbaaGreatDoor

/- Words for rows of pairs (two cells each). -/
namespace Go.Proofs.YtbmooemlekckbaaGreatDoor
open Go.RowKit

def cellsP (l : List (Int × Int)) : List Value := l.flatMap fun p => [.int .i64 p.1, .int .u64 p.2]
theorem cellsP_len (l : List (Int × Int)) : (cellsP l).length = l.length * 2 := by
  induction l with
  | nil => rfl
  | cons v t ih => simp only [cellsP, List.flatMap_cons, List.length_append, List.length_cons] at ih ⊢; rw [ih]; simp; omega
theorem cellsP_append (a b : List (Int × Int)) : cellsP (a ++ b) = cellsP a ++ cellsP b := by simp [cellsP]
theorem cellsP_get (l : List (Int × Int)) : ∀ j : Nat, j < l.length → (cellsP l)[j * 2]? = some (.int .i64 (l.getD j (0, 0)).1) ∧ (cellsP l)[j * 2 + 1]? = some (.int .u64 (l.getD j (0, 0)).2) := by
  induction l with
  | nil => intro j h; simp at h
  | cons v t ih =>
    intro j h
    cases j with
    | zero => exact ⟨by simp [cellsP], by simp [cellsP]⟩
    | succ j =>
      obtain ⟨h1, h2⟩ := ih j (by simpa using h)
      have e : cellsP (v :: t) = [.int .i64 v.1, .int .u64 v.2] ++ cellsP t := by simp [cellsP]
      rw [e]
      refine ⟨?_, ?_⟩
      · rw [List.getElem?_append_right (by simp; omega), show (j + 1) * 2 - [Value.int .i64 v.1, .int .u64 v.2].length = j * 2 from by simp; omega]; simpa using h1
      · rw [List.getElem?_append_right (by simp; omega), show (j + 1) * 2 + 1 - [Value.int .i64 v.1, .int .u64 v.2].length = j * 2 + 1 from by simp; omega]; simpa using h2
theorem cellsP_one (l : List (Int × Int)) : ∀ u ∈ cellsP l, u.oneCell' = true := by
  intro u hu
  obtain ⟨v, _, hv⟩ := List.mem_flatMap.1 hu
  simp at hv
  rcases hv with rfl | rfl <;> rfl
/-- A slice of n pairs that reads as l. -/
def Rp (w : World) (A : Option Addr) (n : Nat) (l : List (Int × Int)) : Prop := Rd w 2 A n (cellsP l)
theorem Rp.len {w : World} {A : Option Addr} {n : Nat} {l : List (Int × Int)} (h : Rp w A n l) : l.length = n := by have := h.1; rw [cellsP_len] at this; omega
theorem Rp.of_own {w : World} {A : Option Addr} {n : Nat} {l : List (Int × Int)} {base : Nat} {e : TypeId} {c : Nat} (h : w.ownsRow base e 2 (.slice A n c) n (cellsP l)) : Rp w A n l := Rd.of_own h
theorem Rp.at_ {w : World} {A : Option Addr} {n : Nat} {l : List (Int × Int)} (h : Rp w A n l) {j : Nat} (hj : j < n) : ∃ b o, A = some ⟨b, o, none⟩ ∧ b < w.heap.size ∧ w.cell? ⟨b, o + j * 2, none⟩ = some (.int .i64 (l.getD j (0, 0)).1) ∧ w.cell? ⟨b, o + j * 2 + 1, none⟩ = some (.int .u64 (l.getD j (0, 0)).2) := by
  obtain ⟨b, o, e, hb, hc⟩ := h.2 (by omega)
  obtain ⟨h1, h2⟩ := cellsP_get l j (by rw [h.len]; exact hj)
  exact ⟨b, o, e, hb, hc _ _ h1, by rw [Nat.add_assoc]; exact hc _ _ h2⟩
theorem Rp.one_at {w : World} {x y : Int} {t : TypeId} {g : Nat} (h : g = w.heap.size) : Rp (w.alloc (.cells #[.int .i64 x, .int .u64 y] t)) (some ⟨g, 0, none⟩) 1 [(x, y)] := by
  subst h
  refine ⟨rfl, fun _ => ⟨_, 0, rfl, by simp, fun j u hu => ?_⟩⟩
  rw [(Blk.new w t _).cell, Nat.zero_add]
  simpa [cellsP] using hu
theorem info_pair : (Tryz.prog.info? 139).map (fun i => (i.zero, i.size, i.bytes)) = some (some (.agg #[.int .i64 0, .int .u64 0]), 2, 16) := by kernel_rfl
/-- append onto a row of the call's own, pairs; where the new slice lies. -/
theorem wpList_pairx (w : World) {ops : Array Oper} {rest : List Oper} {o : Oper} {a : Act} {Q : Exit → Act → World → Prop} (hgd : o.guard = none) (s x : Operand)
    (ho : o.op = .call { callee := .builtin .append, args := #[s, x], argTypes := #[133, 133] })
    (base : Nat) (v : Value) (n : Nat) (l : List (Int × Int)) (hs : a.eval s = v) (hown : w.ownsRow base 139 2 v n (cellsP l))
    (A : Option Addr) (m c : Nat) (l2 : List (Int × Int)) (hx : a.eval x = .slice A m c) (hr : Rp w A m l2) (hb : n + m ≤ 2000000000) (hbase : base ≤ w.heap.size)
    (h : ∀ G cap w', w'.ownsRow base 139 2 (.slice G (n + m) cap) (n + m) (cellsP (l ++ l2)) → w.grownBy w' v.ownBlock → n + m ≤ cap → ((Value.slice G (n + m) cap).ownBlock = v.ownBlock ∨ (Value.slice G (n + m) cap).ownBlock = some w.heap.size) → wpList Tryz.prog ops Q rest (a.put o.dst (.slice G (n + m) cap)) w') : wpList Tryz.prog ops Q (o :: rest) a w := by
  obtain ⟨i0, hi, hz0, hz1, hz2⟩ := info_parts info_pair
  refine wpList_append_any w hgd s x 133 ho base 139 i0 _ 2 16 Tryz.underlying133 hi hz0 hz1 hz2 rfl (by decide) v n _ hs hown A m c _ hx hr (cellsP_one _) (by unfold maxLen; omega) (by omega) hbase ?_
  intro G cap w' h1 h2 h3 h4
  rw [← cellsP_append] at h1
  exact h G cap w' h1 h2 h4 h3
end Go.Proofs.YtbmooemlekckbaaGreatDoor

/- The closure of patched.cut that adds a pair. -/
namespace Go.Proofs.YtbmooemlekckbaaGreatDoor
open Go.RowKit

/-- The world while numbers are cut: the run, the last place, the two rows. -/
def CutW (S : Nat) (w0 w : World) (base : Int) (lo : List Int) (P : List (Int × Int)) (g p last : Int) : Prop :=
  ∃ lv pv, Blk w S 135 #[.int .i64 base, lv, pv, .int .i64 g, .int .i64 p] ∧ Blk w (S + 1) 3 #[.int .i64 last] ∧
    w.ownsRow (S + 2) 94 1 lv lo.length (lo.map (Value.int .u64)) ∧ w.ownsRow (S + 2) 139 2 pv P.length (cellsP P) ∧ Apart pv lv ∧ Below S w0 w
def bigger (a : Int) (b : Nat) : Int := if a < (b : Int) then (b : Int) else a

theorem cut_push {S : Nat} {w0 w w1 : World} {base g p last : Int} {lo : List Int} {P P2 : List (Int × Int)} {lv pv v : Value} {o : Obj} (_hS : w0.heap.size = S)
    (hr : Blk w S 135 #[.int .i64 base, lv, pv, .int .i64 g, .int .i64 p]) (hla : Blk w (S + 1) 3 #[.int .i64 last])
    (hlo : w.ownsRow (S + 2) 94 1 lv lo.length (lo.map (Value.int .u64))) (hpo : w.ownsRow (S + 2) 139 2 pv P.length (cellsP P)) (hap : Apart pv lv) (hb : Below S w0 w)
    (hown : w1.ownsRow (S + 2) 139 2 v P2.length (cellsP P2)) (hg : (w.alloc o).grownBy w1 pv.ownBlock) (hat : v.ownBlock = pv.ownBlock ∨ v.ownBlock = some (w.alloc o).heap.size) :
    Blk w1 S 135 #[.int .i64 base, lv, pv, .int .i64 g, .int .i64 p] ∧ CutW S w0 (w1.setCell ⟨S, 2, none⟩ v) base lo P2 g p last := by
  have hn : ∀ k, k < S + 2 → some k ≠ pv.ownBlock := fun k hk e => by have := (hpo.lt k e.symm).1; omega
  have h1 := (hr.alloc o).grown hg (hn S (by omega))
  have h2 := (hla.alloc o).grown hg (hn (S + 1) (by omega))
  have hlo1 := hap.kept (own_below hlo ((Below.refl _ _).alloc (Nat.le_refl _) o)) hg
  have hz := hla.lt
  refine ⟨h1, lv, v, h1.set_ 2 v, h2.far (by simp) _, ownsRow_setCell_below hlo1 (by simp) _, ownsRow_setCell_below hown (by simp) _, ?_, ?_⟩
  · exact hap.grown (own_below hlo ((Below.refl _ _).alloc (Nat.le_refl _) o)) (Nat.le_refl _) hat
  · refine Below.setCell ?_ (by simp) _
    exact below_of_grown (hb.alloc (by have := hb.size; omega) o) hg (by simp; omega) (fun k e => by have := (hpo.lt k e).1; omega)

theorem CutW.set_g {S : Nat} {w0 W : World} {base g p last : Int} {lo : List Int} {P : List (Int × Int)} (h : CutW S w0 W base lo P g p last) (x : Int) : CutW S w0 (W.setCell ⟨S, 3, none⟩ (.int .i64 x)).drew base lo P x p last := by
  obtain ⟨lv, pv, hr, hla, hlo, hpo, hap, hb⟩ := h
  exact ⟨lv, pv, (hr.set_ 3 (.int .i64 x)).drew, (hla.far (p := ⟨S, 3, none⟩) (by simp) _).drew, (ownsRow_setCell_below hlo (by simp) _).drew, (ownsRow_setCell_below hpo (by simp) _).drew, hap, (hb.setCell (p := ⟨S, 3, none⟩) (Nat.le_refl _) _).drew⟩
theorem CutW.set_p {S : Nat} {w0 W : World} {base g p last : Int} {lo : List Int} {P : List (Int × Int)} (h : CutW S w0 W base lo P g p last) (x : Int) : CutW S w0 (W.setCell ⟨S, 4, none⟩ (.int .i64 x)).drew base lo P g x last := by
  obtain ⟨lv, pv, hr, hla, hlo, hpo, hap, hb⟩ := h
  exact ⟨lv, pv, (hr.set_ 4 (.int .i64 x)).drew, (hla.far (p := ⟨S, 4, none⟩) (by simp) _).drew, (ownsRow_setCell_below hlo (by simp) _).drew, (ownsRow_setCell_below hpo (by simp) _).drew, hap, (hb.setCell (p := ⟨S, 4, none⟩) (Nat.le_refl _) _).drew⟩
theorem CutW.set_l {S : Nat} {w0 W : World} {base g p last : Int} {lo : List Int} {P : List (Int × Int)} (h : CutW S w0 W base lo P g p last) (x : Int) : CutW S w0 (W.setCell ⟨S + 1, 0, none⟩ (.int .i64 x)) base lo P g p x := by
  obtain ⟨lv, pv, hr, hla, hlo, hpo, hap, hb⟩ := h
  exact ⟨lv, pv, hr.far (p := ⟨S + 1, 0, none⟩) (by simp) _, hla.set_ 0 (.int .i64 x), ownsRow_setCell_below hlo (by simp) _, ownsRow_setCell_below hpo (by simp) _, hap, hb.setCell (p := ⟨S + 1, 0, none⟩) (by simp) _⟩

set_option maxRecDepth 100000 in
set_option maxHeartbeats 2000000 in
theorem add_any (w0 w : World) (S : Nat) (hS : w0.heap.size = S) (base : Int) (lo : List Int) (P : List (Int × Int)) (g p last : Int) (h : CutW S w0 w base lo P g p last) (gap patch : Int)
    (hg : 0 ≤ gap ∧ gap ≤ 1000) (hp : 0 ≤ patch ∧ patch < 18446744073709551616) (hP : P.length ≤ 100000) (hl : 0 ≤ last ∧ last ≤ 1000000) :
    Calls Tryz.prog 152 #[.int .i64 gap, .int .u64 patch, .pointer (some ⟨S, 0, none⟩), .pointer (some ⟨S + 1, 0, none⟩)] w
      fun e w' => e = .returned (.tuple #[]) ∧ CutW S w0 w' base lo (P ++ [(gap, patch)]) (bigger g (blen gap.toNat)) (bigger p (blen patch.toNat)) (last + gap) := by
  obtain ⟨lv, pv, hr, hla, hlo, hpo, hap, hb⟩ := h
  have c2 : w.cell? ⟨S, 2, none⟩ = some pv := (hr.cell 2).trans rfl
  have HR := Lib.hid hr; have HLA := Lib.hid hla; have HLO := Lib.hid hlo; have HPO := Lib.hid hpo; have HAP := Lib.hid hap; have HB := Lib.hid hb
  have hlt := hr.lt; have hlt2 := hla.lt
  clear hr hla hlo hpo hap hb
  have hwr : IntKind.u64.wrap gap = gap := by rw [IntKind.wrap_u64]; omega
  obtain ⟨hg1, hg2⟩ := hg
  obtain ⟨hp1, hp2⟩ := hp
  go_enter Tryz.func152, Tryz.ntmps152
  go_wp2_with (at_builtin; refine wpList_pairx _ rfl _ _ rfl (S + 2) pv P.length P rfl (own_below HPO.out ((Below.refl _ _).alloc (Nat.le_refl _) _)) _ 1 1 [_] rfl (Rp.one_at rfl) (by omega) (by simp; omega) ?_; intro G c w1 hown hgrow hcap hat; have hm := cut_push hS HR.out HLA.out HLO.out HPO.out HAP.out HB.out (P2 := P ++ [(gap, patch)]) (by rw [List.length_append]; exact hown) hgrow hat; obtain ⟨hk1, hm⟩ := hm; have f2 := hk1.frozen 2; have d2 : w1.cell? ⟨S, 2, none⟩ = some pv := (hk1.cell 2).trans rfl; have HM := Lib.hid hm; clear hm hk1 hown hgrow hat)
  generalize w1.setCell ⟨S, 2, none⟩ (.slice G (P.length + 1) c) = W at *
  obtain ⟨lv, pv, hr, hla, hlo, hpo, hap, hb⟩ := HM.out
  have c3 : W.cell? ⟨S, 3, none⟩ = some (.int .i64 g) := (hr.cell 3).trans rfl
  have g3 := hr.frozen 3
  have HR := Lib.hid hr; have HLA := Lib.hid hla; have HLO := Lib.hid hlo; have HPO := Lib.hid hpo; have HAP := Lib.hid hap; have HB := Lib.hid hb
  clear hr hla hlo hpo hap hb HM f2 d2 c2
  have HM := Lib.hid (show CutW S w0 W base lo (P ++ [(gap, patch)]) g p last from ⟨lv, pv, HR.out, HLA.out, HLO.out, HPO.out, HAP.out, HB.out⟩)
  clear HR HLA HLO HPO HB HAP
  have hG1 : (if g < ↑(blen gap.toNat) then ↑(blen gap.toNat) else g) = bigger g (blen gap.toNat) := rfl
  have hG2 : (if p < ↑(blen patch.toNat) then ↑(blen patch.toNat) else p) = bigger p (blen patch.toNat) := rfl
  have HG1 := Lib.hid hG1; have HG2 := Lib.hid hG2; clear hG1 hG2
  go_region_with (go_at_call 145; refine (Bits_any _ _ (by omega) (by omega)).mono ?_; rintro e w' ⟨rfl, rfl⟩)
  all_goals
    rw [HG1.out]
    have hm := CutW.set_g HM.out (bigger g (blen gap.toNat))
    obtain ⟨gb, hgb⟩ : ∃ gb, bigger g (blen gap.toNat) = gb := ⟨_, rfl⟩
    rw [hgb] at hm ⊢
    have HGB := Lib.hid hgb; clear hgb
    have HM2 := Lib.hid hm
    generalize (W.setCell ⟨S, 3, none⟩ (.int .i64 gb)).drew = W2 at *
    clear HM hm c3 g3 HG1
    obtain ⟨lv2, pv2, hr, _, _, _, _, _⟩ := HM2.out
    have c4 : W2.cell? ⟨S, 4, none⟩ = some (.int .i64 p) := (hr.cell 4).trans rfl
    have g4 := hr.frozen 4
    clear hr
    go_wp2_with fail
    go_region_with (go_at_call 145; refine (Bits_any _ _ (by omega) (by omega)).mono ?_; rintro e w' ⟨rfl, rfl⟩)
    all_goals
      rw [HG2.out]
      have hm := CutW.set_p HM2.out (bigger p (blen patch.toNat))
      obtain ⟨pb, hpb⟩ : ∃ gb, bigger p (blen patch.toNat) = gb := ⟨_, rfl⟩
      rw [hpb] at hm ⊢
      have HPB := Lib.hid hpb; clear hpb
      have HM3 := Lib.hid hm
      generalize (W2.setCell ⟨S, 4, none⟩ (.int .i64 pb)).drew = W3 at *
      clear HM2 hm c4 g4 HG2
      obtain ⟨lv3, pv3, _, hla, _, _, _, _⟩ := HM3.out
      have c5 : W3.cell? ⟨S + 1, 0, none⟩ = some (.int .i64 last) := (hla.cell 0).trans rfl
      have g5 := hla.frozen 0
      clear hla
      go_wp2_with fail
      go_end0
      rw [HGB.out, HPB.out]
      exact ⟨rfl, CutW.set_l HM3.out _⟩
end Go.Proofs.YtbmooemlekckbaaGreatDoor

/- Rows of the call's own of other element types; one value in a block of its own. -/
namespace Go.Proofs.YtbmooemlekckbaaGreatDoor
open Go.RowKit

theorem Sv.of_own {w : World} {A : Option Addr} {n c : Nat} {l : List Val} {base : Nat} {e : TypeId} (h : w.ownsRow base e 3 (.slice A n c) n (cellsV l)) : Sv w A n c l := ⟨Rv.of_own h, own_cap h⟩
/-- Rows of other element types do not lie in one block. -/
theorem own_apartV {w : World} {B B2 n m s1 s2 : Nat} {e t : TypeId} {v u : Value} {xs ys : List Value} (h : w.ownsRow B e s1 v n xs) (h2 : w.ownsRow B2 t s2 u m ys) (hne : e ≠ t) : Apart v u := by
  have key : ∀ {B n s : Nat} {e : TypeId} {v : Value} {xs : List Value}, w.ownsRow B e s v n xs → ∀ g, v.ownBlock = some g → ∃ cur, Blk w g e cur := by
    intro B n s e v xs h g hg
    rcases h.2 with ⟨rfl, _⟩ | ⟨g', cap, cur, rfl, _, h2, _⟩
    · simp [Value.ownBlock] at hg
    · simp [Value.ownBlock] at hg
      subst hg
      exact ⟨cur, h2⟩
  intro g h3 h4
  obtain ⟨c1, k1⟩ := key h g h3
  obtain ⟨c2, k2⟩ := key h2 g h4
  unfold Blk at k1 k2
  rw [k1] at k2
  injection k2 with k2
  injection k2 with _ k2
  exact hne k2
theorem blk_atV {w : World} {t : TypeId} {cs : Array Value} {g : Nat} (h : g = w.heap.size) : Blk (w.alloc (.cells cs t)) g t cs := by subst h; exact Blk.new _ _ _
theorem rb_one_at {w : World} {x : Bool} {t : TypeId} {g : Nat} (h : g = w.heap.size) : Rb (w.alloc (.cells #[.bool x] t)) (some ⟨g, 0, none⟩) 1 [x] := by subst h; exact Rd.one _ _ _
theorem rv_one_at {w : World} {x : Val} {t : TypeId} {g : Nat} (h : g = w.heap.size) : Rv (w.alloc (.cells #[.bool x.null, .int .i64 x.n, .string x.s] t)) (some ⟨g, 0, none⟩) 1 [x] := by
  subst h
  refine ⟨by simp [cellsV, Val.cells], fun _ => ⟨w.heap.size, 0, rfl, by simp, fun j u hu => ?_⟩⟩
  rw [Nat.zero_add, (Blk.new w t _).cell]
  simpa [cellsV, Val.cells] using hu
end Go.Proofs.YtbmooemlekckbaaGreatDoor

/- Joined texts: RowV. Each has its own head line. No condition beyond those that its theorems state. -/
import Derived.Test.YtlmfdmaoakckgaaJ10
import Derived.Test.YtlmfdmaoakckgaaJ06
import Derived.Test.YtlmfdmaoakckgaaJ07
set_option linter.unusedVariables false

/- Words for rows of values (three cells each). -/
namespace Go.Proofs.Ytlmfdmaoakckgaa
open Go.RowKit

/-- A value: nothing, a number, a text. -/
structure Val where
  null : Bool
  n : Int
  s : ByteArray
def Val.zero : Val := ⟨false, 0, ⟨#[]⟩⟩
def Val.cells (v : Val) : List Value := [.bool v.null, .int .i64 v.n, .string v.s]
def Val.agg (v : Val) : Value := .agg #[.bool v.null, .int .i64 v.n, .string v.s]
def cellsV (l : List Val) : List Value := l.flatMap Val.cells
theorem cellsV_len (l : List Val) : (cellsV l).length = l.length * 3 := by
  induction l with
  | nil => rfl
  | cons v t ih => simp only [cellsV, List.flatMap_cons, List.length_append, List.length_cons] at ih ⊢; rw [ih]; simp [Val.cells]; omega
theorem cellsV_append (a b : List Val) : cellsV (a ++ b) = cellsV a ++ cellsV b := by simp [cellsV]
theorem cellsV_get (l : List Val) : ∀ j : Nat, j < l.length → ∃ v, l[j]? = some v ∧ (cellsV l)[j * 3]? = some (.bool v.null) ∧ (cellsV l)[j * 3 + 1]? = some (.int .i64 v.n) ∧ (cellsV l)[j * 3 + 2]? = some (.string v.s) := by
  induction l with
  | nil => intro j h; simp at h
  | cons v t ih =>
    intro j h
    cases j with
    | zero => exact ⟨v, rfl, by simp [cellsV, Val.cells], by simp [cellsV, Val.cells], by simp [cellsV, Val.cells]⟩
    | succ j =>
      obtain ⟨u, h1, h2, h3, h4⟩ := ih j (by simpa using h)
      have e : cellsV (v :: t) = v.cells ++ cellsV t := by simp [cellsV]
      refine ⟨u, by simpa using h1, ?_, ?_, ?_⟩
      · rw [e, List.getElem?_append_right (by simp [Val.cells]; omega), show (j + 1) * 3 - v.cells.length = j * 3 from by simp [Val.cells]; omega]; exact h2
      · rw [e, List.getElem?_append_right (by simp [Val.cells]; omega), show (j + 1) * 3 + 1 - v.cells.length = j * 3 + 1 from by simp [Val.cells]; omega]; exact h3
      · rw [e, List.getElem?_append_right (by simp [Val.cells]; omega), show (j + 1) * 3 + 2 - v.cells.length = j * 3 + 2 from by simp [Val.cells]; omega]; exact h4
/-- A slice of n values that reads as l. -/
def Rv (w : World) (A : Option Addr) (n : Nat) (l : List Val) : Prop := Rd w 3 A n (cellsV l)
section
variable {w w' : World} {A : Option Addr} {n : Nat} {l : List Val}
theorem Rv.len (h : Rv w A n l) : l.length = n := by have := h.1; rw [cellsV_len] at this; omega
theorem Rv.nil (w : World) (A : Option Addr) : Rv w A 0 [] := Rd.nil w 3 A
theorem Rv.below (h : Rv w A n l) (hb : Below w.heap.size w w') : Rv w' A n l := Rd.below h hb
theorem Rv.drewN (h : Rv w A n l) (m : Nat) : Rv (w.drewN m) A n l := h
theorem Rv.alloc (h : Rv w A n l) (o : Obj) : Rv (w.alloc o) A n l := Rd.alloc h o
theorem Rv.of_own {base : Nat} {e : TypeId} {c : Nat} (h : w.ownsRow base e 3 (.slice A n c) n (cellsV l)) : Rv w A n l := Rd.of_own h
theorem Rv.at_ (h : Rv w A n l) {j : Nat} (hj : j < n) : ∃ b o v, A = some ⟨b, o, none⟩ ∧ b < w.heap.size ∧ l[j]? = some v ∧ w.cell? ⟨b, o + j * 3, none⟩ = some (.bool v.null) ∧ w.cell? ⟨b, o + j * 3 + 1, none⟩ = some (.int .i64 v.n) ∧ w.cell? ⟨b, o + j * 3 + 2, none⟩ = some (.string v.s) := by
  obtain ⟨b, o, e, hb, hc⟩ := h.2 (by omega)
  obtain ⟨v, h1, h2, h3, h4⟩ := cellsV_get l j (by rw [h.len]; exact hj)
  exact ⟨b, o, v, e, hb, h1, hc _ _ h2, by rw [Nat.add_assoc]; exact hc _ _ h3, by rw [Nat.add_assoc]; exact hc _ _ h4⟩
theorem cellsV_take (l : List Val) (m : Nat) : (cellsV l).take (m * 3) = cellsV (l.take m) := by
  induction l generalizing m with
  | nil => simp [cellsV]
  | cons v t ih =>
    cases m with
    | zero => simp [cellsV]
    | succ m =>
      have e : cellsV (v :: t) = v.cells ++ cellsV t := by simp [cellsV]
      have e2 : cellsV (v :: t.take m) = v.cells ++ cellsV (t.take m) := by simp [cellsV]
      rw [e, List.take_succ_cons, e2, ← ih m, List.take_append]
      have h3 : v.cells.length = 3 := rfl
      rw [List.take_of_length_le (by omega), h3, show (m + 1) * 3 - 3 = m * 3 from by omega]
theorem Rv.first (h : Rv w A n l) {m : Nat} (hm : m ≤ n) : Rv w A m (l.take m) :=
  ⟨by have := h.len; rw [cellsV_len, List.length_take]; omega, fun h0 => by
    obtain ⟨b, o, e, hb, hc⟩ := h.2 (by omega)
    refine ⟨b, o, e, hb, fun j u hu => hc j u ?_⟩
    rw [← cellsV_take] at hu
    have hj : j < m * 3 := by
      rcases Nat.lt_or_ge j (m * 3) with hlt | hge
      · exact hlt
      · rw [List.getElem?_eq_none (by rw [List.length_take]; omega)] at hu; cases hu
    rwa [List.getElem?_take_of_lt hj] at hu⟩
theorem Rv.zero (h : Rv w A n l) (hn : n = 0) (A' : Option Addr) : Rv w A' n l := ⟨h.1, fun h0 => absurd h0 (by omega)⟩
theorem Rv.oneCell (l : List Val) : ∀ u ∈ cellsV l, u.oneCell' = true := by
  intro u hu
  obtain ⟨v, _, hv⟩ := List.mem_flatMap.1 hu
  simp [Val.cells] at hv
  rcases hv with rfl | rfl | rfl <;> rfl
end
/-- A slice of values with its bounds. -/
def Sv (w : World) (A : Option Addr) (n c : Nat) (l : List Val) : Prop := Rv w A n l ∧ n ≤ c ∧ c ≤ 9223372036854775807
theorem Sv.nil (w : World) : Sv w none 0 0 [] := ⟨Rv.nil _ _, Nat.le_refl _, by omega⟩
theorem Sv.below {w w' : World} {A : Option Addr} {n c : Nat} {l : List Val} (h : Sv w A n c l) (hb : Below w.heap.size w w') : Sv w' A n c l := ⟨h.1.below hb, h.2⟩
theorem info_val : (Try.prog.info? 42).map (fun i => (i.zero, i.size, i.bytes)) = some (some (.agg #[.bool false, .int .i64 0, .string ⟨#[]⟩]), 3, 32) := by kernel_rfl
/-- append onto a row of the call's own, values, whatever is appended. -/
theorem wpList_val (w : World) {ops : Array Oper} {rest : List Oper} {o : Oper} {a : Act} {Q : Exit → Act → World → Prop} (hgd : o.guard = none) (s x : Operand)
    (ho : o.op = .call { callee := .builtin .append, args := #[s, x], argTypes := #[22, 22] })
    (base : Nat) (v : Value) (n : Nat) (l : List Val) (hs : a.eval s = v) (hown : w.ownsRow base 42 3 v n (cellsV l))
    (A : Option Addr) (m c : Nat) (l2 : List Val) (hx : a.eval x = .slice A m c) (hr : Rv w A m l2) (hb : n + m ≤ 2000000000) (hbase : base ≤ w.heap.size)
    (h : ∀ G cap w', w'.ownsRow base 42 3 (.slice G (n + m) cap) (n + m) (cellsV (l ++ l2)) → w.grownBy w' v.ownBlock → n + m ≤ cap → wpList Try.prog ops Q rest (a.put o.dst (.slice G (n + m) cap)) w') : wpList Try.prog ops Q (o :: rest) a w := by
  obtain ⟨i0, hi, hz0, hz1, hz2⟩ := info_parts info_val
  refine wpList_append_any w hgd s x 22 ho base 42 i0 _ 3 32 Try.underlying22 hi hz0 hz1 hz2 rfl (by decide) v n _ hs hown A m c _ hx hr (Rv.oneCell _) (by unfold maxLen; omega) (by omega) hbase ?_
  intro G cap w' h1 h2 _ h4
  rw [← cellsV_append] at h1
  exact h G cap w' h1 h2 h4
end Go.Proofs.Ytlmfdmaoakckgaa

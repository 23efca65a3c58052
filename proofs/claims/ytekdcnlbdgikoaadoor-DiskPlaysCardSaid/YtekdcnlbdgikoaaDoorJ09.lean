/- Joined texts: Base, Str, Str2. Each has its own head line. No condition beyond those that its theorems state. -/
import Derived.Sort.KeysCollected
import Derived.Test.YtekdcnlbdgikoaaDoorProg
import Derived.Test.YtekdcnlbdgikoaaDoorJ01
set_option linter.unusedVariables false

/- Facts on the program's types; copies of bytes: slices.Clone, bytes.Clone. -/
namespace Go.Proofs.YtekdcnlbdgikoaaDoor
open Go.RowKit
theorem info_u8 : (Tryd.prog.info? 5).map (fun i => (i.zero, i.size, i.bytes)) = some (some (.int .u8 0), 1, 1) := by kernel_rfl
theorem info_u64 : (Tryd.prog.info? 107).map (fun i => (i.zero, i.size, i.bytes)) = some (some (.int .u64 0), 1, 8) := by kernel_rfl
theorem info_int : (Tryd.prog.info? 3).map (fun i => (i.zero, i.size, i.bytes)) = some (some (.int .i64 0), 1, 8) := by kernel_rfl
theorem info_bool : (Tryd.prog.info? 4).map (fun i => (i.zero, i.size, i.bytes)) = some (some (.bool false), 1, 1) := by kernel_rfl

theorem Ri.oneCell (k : IntKind) (l : List Int) : ∀ u ∈ l.map (Value.int k), u.oneCell' = true := by
  intro u hu
  obtain ⟨x, _, rfl⟩ := List.mem_map.1 hu
  rfl

/-- A cut 's[i:]' whose address the walk has not yet parted on. -/
theorem Ri.restIf {w : World} {k : IntKind} {n : Nat} {l : List Int} {b o : Nat} (h : Ri w k (some ⟨b, o, none⟩) n l) {i : Nat} (hi : i ≤ n) {cap : Nat} (hc : n ≤ cap) :
    Ri w k (if cap = i then some ⟨b, o, none⟩ else some ⟨b, o + i, none⟩) (n - i) (l.drop i) := by
  have h1 := h.rest (i := i) hi (fun _ => rfl)
  split
  · exact h1.zero (by omega) _
  · exact h1

theorem strOf_toList (l : List Int) : (strOf l).toList = l.map fun n => UInt8.ofNat n.toNat := by rw [ByteArray.toList_eq]; rfl
/-- string(b), for the walk. -/
theorem conv_any {w : World} {G : Option Addr} {n c : Nat} {l : List Int} (h : Ri w .u8 G n l) : (convert 22 9 (.slice G n c)).run Tryd.prog w = .ok (.string (strOf l)) w :=
  run_conv 22 5 9 Tryd.underlying22 Tryd.underlying5 Tryd.underlying9 G n c l h

/-- append onto a row of the call's own, elements of kind u8, whatever is appended. -/
theorem wpList_u8 (w : World) {ops : Array Oper} {rest : List Oper} {o : Oper} {a : Act} {Q : Exit → Act → World → Prop} (hgd : o.guard = none) (s x : Operand)
    (ho : o.op = .call { callee := .builtin .append, args := #[s, x], argTypes := #[22, 22] })
    (base : Nat) (v : Value) (n : Nat) (l : List Int) (hs : a.eval s = v) (hown : w.ownsRow base 5 1 v n (l.map (Value.int .u8)))
    (A : Option Addr) (m c : Nat) (l2 : List Int) (hx : a.eval x = .slice A m c) (hr : Ri w .u8 A m l2) (hb : n + m ≤ 2000000000) (hbase : base ≤ w.heap.size)
    (h : ∀ G cap w', w'.ownsRow base 5 1 (.slice G (n + m) cap) (n + m) ((l ++ l2).map (Value.int .u8)) → w.grownBy w' v.ownBlock → n + m ≤ cap → wpList Tryd.prog ops Q rest (a.put o.dst (.slice G (n + m) cap)) w') : wpList Tryd.prog ops Q (o :: rest) a w := by
  obtain ⟨i0, hi, hz0, hz1, hz2⟩ := info_parts info_u8
  refine wpList_append_any w hgd s x 22 ho base 5 i0 (.int .u8 0) 1 1 Tryd.underlying22 hi hz0 hz1 hz2 rfl (by decide) v n _ hs hown A m c _ hx hr (Ri.oneCell _ _) (by unfold maxLen; omega) (by omega) hbase ?_
  intro G cap w' h1 h2 _ h4
  rw [← List.map_append] at h1
  exact h G cap w' h1 h2 h4
end Go.Proofs.YtekdcnlbdgikoaaDoor

/- Rows of strings: what is read of them; what the call itself owns. -/
namespace Go.Proofs.YtekdcnlbdgikoaaDoor
open Go.RowKit

/-- A slice of n strings that reads as l. -/
def Rs (w : World) (A : Option Addr) (n : Nat) (l : List ByteArray) : Prop := Rd w 1 A n (l.map Value.string)
section
variable {w w' : World} {A : Option Addr} {n : Nat} {l : List ByteArray}
theorem Rs.len (h : Rs w A n l) : l.length = n := by have := h.1; simpa using this
theorem Rs.nil (w : World) (A : Option Addr) : Rs w A 0 [] := Rd.nil w 1 A
theorem Rs.below (h : Rs w A n l) (hb : Below w.heap.size w w') : Rs w' A n l := Rd.below h hb
theorem Rs.drewN (h : Rs w A n l) (m : Nat) : Rs (w.drewN m) A n l := h
theorem Rs.alloc (h : Rs w A n l) (o : Obj) : Rs (w.alloc o) A n l := Rd.alloc h o
theorem Rs.grown (h : Rs w A n l) {row : Option Nat} (hg : w.grownBy w' row) (hr : ∀ g b o, row = some g → A = some ⟨b, o, none⟩ → g ≠ b) : Rs w' A n l := Rd.grown h hg hr
theorem Rs.of_own {base : Nat} {e : TypeId} {c : Nat} (h : w.ownsRow base e 1 (.slice A n c) n (l.map Value.string)) : Rs w A n l := Rd.of_own h
theorem Rs.all (h : Rs w A n l) (hl : 0 < n) : ∃ b o, A = some ⟨b, o, none⟩ ∧ b < w.heap.size ∧ ∀ j (hj : j < l.length), w.cell? ⟨b, o + j, none⟩ = some (.string l[j]) := by
  obtain ⟨b, o, e, hb, hc⟩ := h.2 hl
  exact ⟨b, o, e, hb, fun j hj => hc j _ (by simp [List.getElem?_map, List.getElem?_eq_getElem hj])⟩
/-- A cut 's[:m]' of a row that is longer. -/
theorem Rs.first (h : Rs w A n l) {m : Nat} (hm : m ≤ n) : Rs w A m (l.take m) :=
  ⟨by have := h.len; simp; omega, fun h0 => by
    obtain ⟨b, o, e, hb, hc⟩ := h.2 (by omega)
    refine ⟨b, o, e, hb, fun j u hu => hc j u ?_⟩
    rw [List.map_take] at hu
    have hj : j < m := by
      rcases Nat.lt_or_ge j m with hlt | hge
      · exact hlt
      · rw [List.getElem?_eq_none (by rw [List.length_take]; omega)] at hu; cases hu
    rwa [List.getElem?_take_of_lt hj] at hu⟩
end

/-- Bytes that stand ahead of one another, as the sort orders them. -/
theorem before_lt : ∀ (a b : List UInt8), bytesBefore a b = true ↔ a < b
  | [], [] => by simp [bytesBefore]
  | [], _ :: _ => by simp [bytesBefore]
  | _ :: _, [] => by simp [bytesBefore]
  | x :: r, y :: s => by
    rw [List.cons_lt_cons_iff, ← before_lt r s]
    simp [bytesBefore]
theorem before_le {a b : List UInt8} (h : bytesBefore a b = true) : a ≤ b := List.le_of_lt ((before_lt a b).1 h)
/-- What rises is what the sort gives of any row with the same members. -/
theorem sort_of_rising {ss l : List (List UInt8)} (hp : ss.Perm l) (hl : l.Pairwise fun a b => bytesBefore a b = true) : ss.mergeSort (fun x y => decide (x ≤ y)) = l := by
  have tr : ∀ a b c : List UInt8, decide (a ≤ b) = true → decide (b ≤ c) = true → decide (a ≤ c) = true := fun a b c h1 h2 => by simp only [decide_eq_true_eq] at *; exact List.le_trans h1 h2
  have tot : ∀ a b : List UInt8, (decide (a ≤ b) || decide (b ≤ a)) = true := fun a b => by simp only [Bool.or_eq_true, decide_eq_true_eq]; exact List.le_total a b
  refine List.Perm.eq_of_pairwise (le := fun a b => decide (a ≤ b) = true) (fun a b _ _ h1 h2 => ?_) (List.pairwise_mergeSort tr tot ss) (hl.imp fun h => decide_eq_true (before_le h)) ((List.mergeSort_perm ss _).trans hp)
  simp only [decide_eq_true_eq] at h1 h2
  exact List.le_antisymm h1 h2
theorem encStr_map (l : List ByteArray) : (l.map fun s => s.data.toList).map encStr = l.map Value.string := by
  rw [List.map_map]
  refine List.map_congr_left fun s _ => ?_
  show Value.string ⟨s.data.toList.toArray⟩ = Value.string s
  rw [Array.toArray_toList]
end Go.Proofs.YtekdcnlbdgikoaaDoor

/- Rows of strings: one string appended. -/
namespace Go.Proofs.YtekdcnlbdgikoaaDoor
open Go.RowKit

theorem info_str : (Tryd.prog.info? 9).map (fun i => (i.zero, i.size, i.bytes)) = some (some (.string ⟨#[]⟩), 1, 16) := by kernel_rfl
theorem str_one (l : List ByteArray) : ∀ u ∈ l.map Value.string, u.oneCell' = true := fun u h => by
  obtain ⟨s, _, rfl⟩ := List.mem_map.1 h
  rfl
/-- append onto a row of strings of the call's own, whatever is appended. -/
theorem wpList_str (w : World) {ops : Array Oper} {rest : List Oper} {o : Oper} {a : Act} {Q : Exit → Act → World → Prop} (hgd : o.guard = none) (s x : Operand)
    (ho : o.op = .call { callee := .builtin .append, args := #[s, x], argTypes := #[36, 36] })
    (base : Nat) (v : Value) (n : Nat) (l : List ByteArray) (hs : a.eval s = v) (hown : w.ownsRow base 9 1 v n (l.map Value.string))
    (A : Option Addr) (m c : Nat) (l2 : List ByteArray) (hx : a.eval x = .slice A m c) (hr : Rs w A m l2) (hb : n + m ≤ 2000000000) (hbase : base ≤ w.heap.size)
    (h : ∀ G cap w', w'.ownsRow base 9 1 (.slice G (n + m) cap) (n + m) ((l ++ l2).map Value.string) → w.grownBy w' v.ownBlock → n + m ≤ cap → wpList Tryd.prog ops Q rest (a.put o.dst (.slice G (n + m) cap)) w') : wpList Tryd.prog ops Q (o :: rest) a w := by
  obtain ⟨i0, hi, hz0, hz1, hz2⟩ := info_parts info_str
  refine wpList_append_any w hgd s x 36 ho base 9 i0 (.string ⟨#[]⟩) 1 16 Tryd.underlying36 hi hz0 hz1 hz2 rfl (by decide) v n _ hs hown A m c _ hx hr (str_one _) (by unfold maxLen; omega) (by omega) hbase ?_
  intro G cap w' h1 h2 _ h4
  rw [← List.map_append] at h1
  exact h G cap w' h1 h2 h4
theorem Rs.one (w : World) (s : ByteArray) (t : TypeId) : Rs (w.alloc (.cells #[.string s] t)) (some ⟨w.heap.size, 0, none⟩) 1 [s] := Rd.one w (.string s) t
end Go.Proofs.YtekdcnlbdgikoaaDoor

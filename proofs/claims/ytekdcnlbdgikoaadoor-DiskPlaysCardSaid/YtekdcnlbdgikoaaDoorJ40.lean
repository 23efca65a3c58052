/- Joined texts: StepA. Each has its own head line. No condition beyond those that its theorems state. -/
import Derived.Deep.RegionHeld3
import Derived.Test.YtekdcnlbdgikoaaDoorJ39
set_option linter.unusedVariables false

/- append as one step of a region that draws its order: bytes; files. -/
namespace Go.Proofs.YtekdcnlbdgikoaaDoor
open Go.RowKit

section
variable {w : World} {ops : Array Oper} {o : Oper} {a : Act} {K : Act → World → Prop} {Q : Exit → Act → World → Prop} {E : Prop}
theorem step_bytes (hgd : o.guard = none) (s x : Operand)
    (ho : o.op = .call { callee := .builtin .append, args := #[s, x], argTypes := #[22, 22] })
    (base : Nat) (v : Value) (n : Nat) (l : List Int) (hs : a.eval s = v) (hown : w.ownsRow base 5 1 v n (l.map (Value.int .u8)))
    (A : Option Addr) (m c : Nat) (l2 : List Int) (hx : a.eval x = .slice A m c) (hr : Ri w .u8 A m l2) (hb : n + m ≤ 2000000000) (hbase : base ≤ w.heap.size)
    (h : ∀ G cap w', w'.ownsRow base 5 1 (.slice G (n + m) cap) (n + m) ((l ++ l2).map (Value.int .u8)) → w.grownBy w' v.ownBlock → n + m ≤ cap → K (a.put o.dst (.slice G (n + m) cap)) w') :
    if Region.wanted o (yielded ops a.tmps) = true then Oper.wp Tryd.prog o a w K Q else E := by
  have hw : Region.wanted o (yielded ops a.tmps) = true := by simp [Region.wanted, hgd]
  rw [if_pos hw]
  obtain ⟨i0, hi, hz0, hz1, hz2⟩ := info_parts info_u8
  refine wp_append_any w s x 22 ho base 5 i0 (.int .u8 0) 1 1 Tryd.underlying22 hi hz0 hz1 hz2 rfl (by decide) v n _ hs hown A m c _ hx hr (Ri.oneCell _ _) (by unfold maxLen; omega) (by omega) hbase ?_
  intro G cap w' h1 h2 _ h4
  rw [← List.map_append] at h1
  exact h G cap w' h1 h2 h4
theorem info_file : (Tryd.prog.info? 80).map (fun i => (i.zero, i.size, i.bytes)) = some (some (.agg #[.string ⟨#[]⟩, .slice none 0 0, .int .i64 0]), 3, 48) := by kernel_rfl
/-- A row of files, read. -/
def Rf (w : World) (A : Option Addr) (n : Nat) (L : List Fl) : Prop := Rd w 3 A n (cellsF L)
theorem step_files (hgd : o.guard = none) (s x : Operand)
    (ho : o.op = .call { callee := .builtin .append, args := #[s, x], argTypes := #[69, 69] })
    (base : Nat) (v : Value) (n : Nat) (L : List Fl) (hs : a.eval s = v) (hown : w.ownsRow base 80 3 v n (cellsF L))
    (A : Option Addr) (m c : Nat) (L2 : List Fl) (hx : a.eval x = .slice A m c) (hr : Rf w A m L2) (hb : n + m ≤ 2000000000) (hbase : base ≤ w.heap.size)
    (h : ∀ G cap w', w'.ownsRow base 80 3 (.slice G (n + m) cap) (n + m) (cellsF (L ++ L2)) → w.grownBy w' v.ownBlock → n + m ≤ cap → K (a.put o.dst (.slice G (n + m) cap)) w') :
    if Region.wanted o (yielded ops a.tmps) = true then Oper.wp Tryd.prog o a w K Q else E := by
  have hw : Region.wanted o (yielded ops a.tmps) = true := by simp [Region.wanted, hgd]
  rw [if_pos hw]
  obtain ⟨i0, hi, hz0, hz1, hz2⟩ := info_parts info_file
  refine wp_append_any w s x 69 ho base 80 i0 _ 3 48 Tryd.underlying69 hi hz0 hz1 hz2 (by kernel_rfl) (by decide) v n _ hs hown A m c _ hx hr (cellsF_one _) (by unfold maxLen; omega) (by omega) hbase ?_
  intro G cap w' h1 h2 _ h4
  rw [← cellsF_append] at h1
  exact h G cap w' h1 h2 h4
theorem wpList_files {rest : List Oper} (hgd : o.guard = none) (s x : Operand)
    (ho : o.op = .call { callee := .builtin .append, args := #[s, x], argTypes := #[69, 69] })
    (base : Nat) (v : Value) (n : Nat) (L : List Fl) (hs : a.eval s = v) (hown : w.ownsRow base 80 3 v n (cellsF L))
    (A : Option Addr) (m c : Nat) (L2 : List Fl) (hx : a.eval x = .slice A m c) (hr : Rf w A m L2) (hb : n + m ≤ 2000000000) (hbase : base ≤ w.heap.size)
    (h : ∀ G cap w', w'.ownsRow base 80 3 (.slice G (n + m) cap) (n + m) (cellsF (L ++ L2)) → w.grownBy w' v.ownBlock → n + m ≤ cap → wpList Tryd.prog ops Q rest (a.put o.dst (.slice G (n + m) cap)) w') :
    wpList Tryd.prog ops Q (o :: rest) a w := by
  obtain ⟨i0, hi, hz0, hz1, hz2⟩ := info_parts info_file
  refine wpList_append_any w hgd s x 69 ho base 80 i0 _ 3 48 Tryd.underlying69 hi hz0 hz1 hz2 (by kernel_rfl) (by decide) v n _ hs hown A m c _ hx hr (cellsF_one _) (by unfold maxLen; omega) (by omega) hbase ?_
  intro G cap w' h1 h2 _ h4
  rw [← cellsF_append] at h1
  exact h G cap w' h1 h2 h4
end
end Go.Proofs.YtekdcnlbdgikoaaDoor

/- Words for rows of pairs (two cells each). -/
import Derived.Test.YtpngbljfboceeaaRows2
import Derived.Test.YtpngbljfboceeaaMost
import Derived.Test.YtpngbljfboceeaaPutC
namespace Go.Proofs.Ytpngbljfboceeaa
open Go.RowKit

def cellsP (l : List (Int × Int)) : List Value := l.flatMap fun p => [.int .i64 p.1, .int .u64 p.2]
theorem cellsP_len (l : List (Int × Int)) : (cellsP l).length = l.length * 2 := by
  induction l with
  | nil => rfl
  | cons v t ih => simp only [cellsP, List.flatMap_cons, List.length_append, List.length_cons] at ih ⊢; rw [ih]; simp; omega
theorem cellsP_append (a b : List (Int × Int)) : cellsP (a ++ b) = cellsP a ++ cellsP b := by simp [cellsP]
theorem cellsP_get (l : List (Int × Int)) : ∀ j : Nat, j < l.length → (cellsP l)[j * 2]? = some (.int .i64 (l.getD j (0, 0)).1) ∧ (cellsP l)[j * 2 + 1]? = some (.int .u64 (l.getD j (0, 0)).2) := by
  induction l with
  | nil => intro j h; simp at h
  | cons v t ih =>
    intro j h
    cases j with
    | zero => exact ⟨by simp [cellsP], by simp [cellsP]⟩
    | succ j =>
      obtain ⟨h1, h2⟩ := ih j (by simpa using h)
      have e : cellsP (v :: t) = [.int .i64 v.1, .int .u64 v.2] ++ cellsP t := by simp [cellsP]
      rw [e]
      refine ⟨?_, ?_⟩
      · rw [List.getElem?_append_right (by simp; omega), show (j + 1) * 2 - [Value.int .i64 v.1, .int .u64 v.2].length = j * 2 from by simp; omega]; simpa using h1
      · rw [List.getElem?_append_right (by simp; omega), show (j + 1) * 2 + 1 - [Value.int .i64 v.1, .int .u64 v.2].length = j * 2 + 1 from by simp; omega]; simpa using h2
theorem cellsP_one (l : List (Int × Int)) : ∀ u ∈ cellsP l, u.oneCell' = true := by
  intro u hu
  obtain ⟨v, _, hv⟩ := List.mem_flatMap.1 hu
  simp at hv
  rcases hv with rfl | rfl <;> rfl
/-- A slice of n pairs that reads as l. -/
def Rp (w : World) (A : Option Addr) (n : Nat) (l : List (Int × Int)) : Prop := Rd w 2 A n (cellsP l)
theorem Rp.len {w : World} {A : Option Addr} {n : Nat} {l : List (Int × Int)} (h : Rp w A n l) : l.length = n := by have := h.1; rw [cellsP_len] at this; omega
theorem Rp.of_own {w : World} {A : Option Addr} {n : Nat} {l : List (Int × Int)} {base : Nat} {e : TypeId} {c : Nat} (h : w.ownsRow base e 2 (.slice A n c) n (cellsP l)) : Rp w A n l := Rd.of_own h
theorem Rp.at_ {w : World} {A : Option Addr} {n : Nat} {l : List (Int × Int)} (h : Rp w A n l) {j : Nat} (hj : j < n) : ∃ b o, A = some ⟨b, o, none⟩ ∧ b < w.heap.size ∧ w.cell? ⟨b, o + j * 2, none⟩ = some (.int .i64 (l.getD j (0, 0)).1) ∧ w.cell? ⟨b, o + j * 2 + 1, none⟩ = some (.int .u64 (l.getD j (0, 0)).2) := by
  obtain ⟨b, o, e, hb, hc⟩ := h.2 (by omega)
  obtain ⟨h1, h2⟩ := cellsP_get l j (by rw [h.len]; exact hj)
  exact ⟨b, o, e, hb, hc _ _ h1, by rw [Nat.add_assoc]; exact hc _ _ h2⟩
theorem Rp.one_at {w : World} {x y : Int} {t : TypeId} {g : Nat} (h : g = w.heap.size) : Rp (w.alloc (.cells #[.int .i64 x, .int .u64 y] t)) (some ⟨g, 0, none⟩) 1 [(x, y)] := by
  subst h
  refine ⟨rfl, fun _ => ⟨_, 0, rfl, by simp, fun j u hu => ?_⟩⟩
  rw [(Blk.new w t _).cell, Nat.zero_add]
  simpa [cellsP] using hu
theorem info_pair : (Try.prog.info? 68).map (fun i => (i.zero, i.size, i.bytes)) = some (some (.agg #[.int .i64 0, .int .u64 0]), 2, 16) := by kernel_rfl
/-- append onto a row of the call's own, pairs; where the new slice lies. -/
theorem wpList_pairx (w : World) {ops : Array Oper} {rest : List Oper} {o : Oper} {a : Act} {Q : Exit → Act → World → Prop} (hgd : o.guard = none) (s x : Operand)
    (ho : o.op = .call { callee := .builtin .append, args := #[s, x], argTypes := #[61, 61] })
    (base : Nat) (v : Value) (n : Nat) (l : List (Int × Int)) (hs : a.eval s = v) (hown : w.ownsRow base 68 2 v n (cellsP l))
    (A : Option Addr) (m c : Nat) (l2 : List (Int × Int)) (hx : a.eval x = .slice A m c) (hr : Rp w A m l2) (hb : n + m ≤ 2000000000) (hbase : base ≤ w.heap.size)
    (h : ∀ G cap w', w'.ownsRow base 68 2 (.slice G (n + m) cap) (n + m) (cellsP (l ++ l2)) → w.grownBy w' v.ownBlock → n + m ≤ cap → ((Value.slice G (n + m) cap).ownBlock = v.ownBlock ∨ (Value.slice G (n + m) cap).ownBlock = some w.heap.size) → wpList Try.prog ops Q rest (a.put o.dst (.slice G (n + m) cap)) w') : wpList Try.prog ops Q (o :: rest) a w := by
  obtain ⟨i0, hi, hz0, hz1, hz2⟩ := info_parts info_pair
  refine wpList_append_any w hgd s x 61 ho base 68 i0 _ 2 16 Try.underlying61 hi hz0 hz1 hz2 rfl (by decide) v n _ hs hown A m c _ hx hr (cellsP_one _) (by unfold maxLen; omega) (by omega) hbase ?_
  intro G cap w' h1 h2 h3 h4
  rw [← cellsP_append] at h1
  exact h G cap w' h1 h2 h4 h3
end Go.Proofs.Ytpngbljfboceeaa

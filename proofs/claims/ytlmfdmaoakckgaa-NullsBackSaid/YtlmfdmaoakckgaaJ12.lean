/- Joined texts: RowB. Each has its own head line. No condition beyond those that its theorems state. -/
import Derived.Test.YtlmfdmaoakckgaaJ10
import Derived.Test.YtlmfdmaoakckgaaJ06
import Derived.Test.YtlmfdmaoakckgaaJ07
set_option linter.unusedVariables false

/- Words for rows of truths. -/
namespace Go.Proofs.Ytlmfdmaoakckgaa
open Go.RowKit

/-- A slice of n truths that reads as l. -/
def Rb (w : World) (A : Option Addr) (n : Nat) (l : List Bool) : Prop := Rd w 1 A n (l.map Value.bool)
section
variable {w w' : World} {A : Option Addr} {n : Nat} {l : List Bool}
theorem Rb.len (h : Rb w A n l) : l.length = n := by have := h.1; simpa using this
theorem Rb.nil (w : World) (A : Option Addr) : Rb w A 0 [] := Rd.nil w 1 A
theorem Rb.below (h : Rb w A n l) (hb : Below w.heap.size w w') : Rb w' A n l := Rd.below h hb
theorem Rb.drew (h : Rb w A n l) : Rb w.drew A n l := h
theorem Rb.drewN (h : Rb w A n l) (m : Nat) : Rb (w.drewN m) A n l := h
theorem Rb.alloc (h : Rb w A n l) (o : Obj) : Rb (w.alloc o) A n l := Rd.alloc h o
theorem Rb.of_own {base : Nat} {e : TypeId} {c : Nat} (h : w.ownsRow base e 1 (.slice A n c) n (l.map Value.bool)) : Rb w A n l := Rd.of_own h
theorem Rb.at_ (h : Rb w A n l) {j : Nat} (hj : j < n) : ∃ b o, A = some ⟨b, o, none⟩ ∧ b < w.heap.size ∧ w.cell? ⟨b, o + j, none⟩ = some (.bool (l.getD j false)) := by
  obtain ⟨b, o, e, hb, hc⟩ := h.2 (by omega)
  have hj' : j < l.length := by rw [h.len]; exact hj
  exact ⟨b, o, e, hb, hc j _ (by simp [List.getElem?_map, List.getElem?_eq_getElem hj'])⟩
theorem Rb.first (h : Rb w A n l) {m : Nat} (hm : m ≤ n) : Rb w A m (l.take m) :=
  ⟨by have := h.len; simp; omega, fun h0 => by
    obtain ⟨b, o, e, hb, hc⟩ := h.2 (by omega)
    refine ⟨b, o, e, hb, fun j u hu => hc j u ?_⟩
    rw [List.map_take] at hu
    have hj : j < m := by
      rcases Nat.lt_or_ge j m with hlt | hge
      · exact hlt
      · rw [List.getElem?_eq_none (by rw [List.length_take]; omega)] at hu; cases hu
    rwa [List.getElem?_take_of_lt hj] at hu⟩
theorem Rb.rest (h : Rb w A n l) {i : Nat} (hi : i ≤ n) {b o : Nat} (hA : 0 < n → A = some ⟨b, o, none⟩) : Rb w (some ⟨b, o + i, none⟩) (n - i) (l.drop i) :=
  ⟨by have := h.len; simp; omega, fun h0 => by
    obtain ⟨b', o', e, hb, hc⟩ := h.2 (by omega)
    have e2 := hA (by omega)
    rw [e] at e2
    injection e2 with e2
    injection e2 with e3 e4
    subst e3 e4
    refine ⟨_, _, rfl, hb, fun j u hu => ?_⟩
    rw [List.map_drop, List.getElem?_drop] at hu
    rw [Nat.add_assoc]
    exact hc _ u hu⟩
theorem Rb.zero (h : Rb w A n l) (hn : n = 0) (A' : Option Addr) : Rb w A' n l := ⟨h.1, fun h0 => absurd h0 (by omega)⟩
theorem Rb.restIf {b o : Nat} (h : Rb w (some ⟨b, o, none⟩) n l) {i : Nat} (hi : i ≤ n) {cap : Nat} (hc : n ≤ cap) :
    Rb w (if cap = i then some ⟨b, o, none⟩ else some ⟨b, o + i, none⟩) (n - i) (l.drop i) := by
  have h1 := h.rest (i := i) hi (fun _ => rfl)
  split
  · exact h1.zero (by omega) _
  · exact h1
theorem Rb.oneCell (l : List Bool) : ∀ u ∈ l.map Value.bool, u.oneCell' = true := by
  intro u hu
  obtain ⟨x, _, rfl⟩ := List.mem_map.1 hu
  rfl
end
/-- A slice of truths with its bounds. -/
def Sb (w : World) (A : Option Addr) (n c : Nat) (l : List Bool) : Prop := Rb w A n l ∧ n ≤ c ∧ c ≤ 9223372036854775807
theorem Sb.nil (w : World) : Sb w none 0 0 [] := ⟨Rb.nil _ _, Nat.le_refl _, by omega⟩
theorem Sb.below {w w' : World} {A : Option Addr} {n c : Nat} {l : List Bool} (h : Sb w A n c l) (hb : Below w.heap.size w w') : Sb w' A n c l := ⟨h.1.below hb, h.2⟩
theorem Sb.of_own {w : World} {A : Option Addr} {n c : Nat} {l : List Bool} {base : Nat} {e : TypeId} (h : w.ownsRow base e 1 (.slice A n c) n (l.map Value.bool)) : Sb w A n c l := ⟨Rb.of_own h, own_cap h⟩
theorem Rb_lit (w : World) (l : List Bool) (t : TypeId) (cs : Array Value) (hcs : cs = (l.map Value.bool).toArray) (n : Nat) (hn : l.length = n) :
    Rb (w.alloc (.cells cs t)) (some ⟨w.heap.size, 0, none⟩) n l := by
  subst hcs
  refine ⟨by simpa using hn, fun _ => ⟨w.heap.size, 0, rfl, by simp, fun j u hu => ?_⟩⟩
  rw [(Blk.new w t _).cell]; simpa using hu
/-- append onto a row of the call's own, truths, whatever is appended. -/
theorem wpList_bool (w : World) {ops : Array Oper} {rest : List Oper} {o : Oper} {a : Act} {Q : Exit → Act → World → Prop} (hgd : o.guard = none) (s x : Operand)
    (ho : o.op = .call { callee := .builtin .append, args := #[s, x], argTypes := #[31, 31] })
    (base : Nat) (v : Value) (n : Nat) (l : List Bool) (hs : a.eval s = v) (hown : w.ownsRow base 4 1 v n (l.map Value.bool))
    (A : Option Addr) (m c : Nat) (l2 : List Bool) (hx : a.eval x = .slice A m c) (hr : Rb w A m l2) (hb : n + m ≤ 2000000000) (hbase : base ≤ w.heap.size)
    (h : ∀ G cap w', w'.ownsRow base 4 1 (.slice G (n + m) cap) (n + m) ((l ++ l2).map Value.bool) → w.grownBy w' v.ownBlock → n + m ≤ cap → wpList Try.prog ops Q rest (a.put o.dst (.slice G (n + m) cap)) w') : wpList Try.prog ops Q (o :: rest) a w := by
  obtain ⟨i0, hi, hz0, hz1, hz2⟩ := info_parts info_bool
  refine wpList_append_any w hgd s x 31 ho base 4 i0 (.bool false) 1 1 Try.underlying31 hi hz0 hz1 hz2 rfl (by decide) v n _ hs hown A m c _ hx hr (Rb.oneCell _) (by unfold maxLen; omega) (by omega) hbase ?_
  intro G cap w' h1 h2 _ h4
  rw [← List.map_append] at h1
  exact h G cap w' h1 h2 h4
theorem takeB_snoc (l : List Bool) (k : Nat) (h : k < l.length) : l.take (k + 1) = l.take k ++ [l.getD k false] := by
  rw [List.take_succ_eq_append_getElem h]; simp [List.getD, List.getElem?_eq_getElem h]
/-- How many are true. -/
def countB (l : List Bool) : Nat := (l.filter id).length
theorem countB_snoc (l : List Bool) (x : Bool) : countB (l ++ [x]) = countB l + if x then 1 else 0 := by
  unfold countB
  rw [List.filter_append, List.length_append]
  cases x <;> rfl
theorem countB_append (a b : List Bool) : countB (a ++ b) = countB a + countB b := by
  unfold countB; rw [List.filter_append, List.length_append]
theorem countB_le (l : List Bool) : countB l ≤ l.length := List.length_filter_le _ _
theorem countB_turned (l : List Bool) : countB (l.map not) + countB l = l.length := by
  induction l with
  | nil => rfl
  | cons x t ih => cases x <;> simp [countB] at ih ⊢ <;> omega

set_option maxRecDepth 100000 in
set_option maxHeartbeats 1000000 in
theorem refCount_any (w : World) (A : Option Addr) (n cap : Nat) (l : List Bool) (hr : Rb w A n l) (hn : n ≤ 1000000) :
    Calls Try.prog 52 #[.slice A n cap] w fun e w' => e = .returned (.int .i64 (countB l)) ∧ w = w' := by
  have HR := Lib.hid hr; have HN := Lib.hid hr.len
  clear hr
  go_enter Try.func52, Try.ntmps52
  go_wp2_with fail
  go_loopw [3, 4] (fun c i wr => ∃ j : Nat, j ≤ n ∧ i = .int .i64 j ∧ c = .int .i64 (countB (l.take j)) ∧ Hid (wr = w)) (fun _ i _ => n - (intOf i).toNat)
  case atStart => exact ⟨0, by omega, rfl, rfl, rfl⟩
  case round =>
    obtain ⟨j, hj, rfl, rfl, hw⟩ := hrel
    obtain rfl := hw.out
    by_cases hlt : j < n
    · obtain ⟨b, o, hA, hbl, hcell⟩ := HR.out.at_ hlt
      subst hA
      have hs := Lib.hid (countB_snoc (l.take j) (l.getD j false))
      have ht := Lib.hid (takeB_snoc l j (by rw [HN.out]; exact hlt))
      have hcb : countB (l.take j) ≤ j := Nat.le_trans (countB_le _) (by rw [List.length_take]; omega)
      generalize l.getD j false = x at *
      generalize hcc : countB (l.take j) = c at *
      have HCC := Lib.hid hcc; clear hcc
      cases x
      all_goals
        go_wp2_with fail
        go_roundw
        case rel =>
          refine ⟨j + 1, by omega, by go_num, ?_, Lib.hid trivial⟩
          rw [ht.out, hs.out]
          simp
        case measure => simp [intOf] <;> omega
    · go_wp2_with fail
      go_ret
      rw [List.take_of_length_le (by rw [HN.out]; omega)]
      exact ⟨rfl, rfl⟩
set_option maxRecDepth 100000 in
set_option maxHeartbeats 1000000 in
theorem Count_any (w : World) (A : Option Addr) (n cap : Nat) (l : List Bool) (hr : Rb w A n l) (hn : n ≤ 1000000) :
    Calls Try.prog 45 #[.slice A n cap] w fun e w' => e = .returned (.int .i64 (countB l)) ∧ w = w' := by
  have HR := Lib.hid hr; have HN := Lib.hid hr.len
  clear hr
  go_enter Try.func45, Try.ntmps45
  go_wp2_with go_in
  go_loopw [5, 10] (fun c i wr => ∃ j : Nat, j ≤ n ∧ i = .int .i64 j ∧ c = .int .i64 (countB (l.take j)) ∧ Hid (wr = w)) (fun _ i _ => n - (intOf i).toNat)
  case atStart => exact ⟨0, by omega, rfl, rfl, rfl⟩
  case round =>
    obtain ⟨j, hj, rfl, rfl, hw⟩ := hrel
    obtain rfl := hw.out
    by_cases hlt : j < n
    · obtain ⟨b, o, hA, hbl, hcell⟩ := HR.out.at_ hlt
      subst hA
      have hs := Lib.hid (countB_snoc (l.take j) (l.getD j false))
      have ht := Lib.hid (takeB_snoc l j (by rw [HN.out]; exact hlt))
      have hcb : countB (l.take j) ≤ j := Nat.le_trans (countB_le _) (by rw [List.length_take]; omega)
      generalize l.getD j false = x at *
      generalize hcc : countB (l.take j) = c at *
      have HCC := Lib.hid hcc; clear hcc
      cases x
      all_goals
        go_wp2_with go_in
        go_roundw
        case rel =>
          refine ⟨j + 1, by omega, by go_num, ?_, Lib.hid trivial⟩
          rw [ht.out, hs.out]
          simp
        case measure => simp [intOf] <;> omega
    · go_wp2_with go_in
      go_ret
      rw [List.take_of_length_le (by rw [HN.out]; omega)]
      exact ⟨rfl, rfl⟩
end Go.Proofs.Ytlmfdmaoakckgaa

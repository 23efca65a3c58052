/- Joined texts: RowV, RowB, PutB, ApartV, SameV. Each has its own head line. No condition beyond those that its theorems state. -/
import Derived.BigQuiet
import Derived.Deep.QuietTactic
import Derived.Laws.StructEq
import Derived.Test.YtbmooemlekckbaaDoorJ07
import Derived.Test.YtbmooemlekckbaaDoorJ06
import Derived.Test.YtbmooemlekckbaaDoorJ09
import Derived.Test.YtbmooemlekckbaaDoorJ30
set_option linter.unusedVariables false

/- Words for rows of values (three cells each). -/
namespace Go.Proofs.YtbmooemlekckbaaDoor
open Go.RowKit

/-- A value: nothing, a number, a text. -/
structure Val where
  null : Bool
  n : Int
  s : ByteArray
def Val.zero : Val := ⟨false, 0, ⟨#[]⟩⟩
def Val.cells (v : Val) : List Value := [.bool v.null, .int .i64 v.n, .string v.s]
def Val.agg (v : Val) : Value := .agg #[.bool v.null, .int .i64 v.n, .string v.s]
def cellsV (l : List Val) : List Value := l.flatMap Val.cells
theorem cellsV_len (l : List Val) : (cellsV l).length = l.length * 3 := by
  induction l with
  | nil => rfl
  | cons v t ih => simp only [cellsV, List.flatMap_cons, List.length_append, List.length_cons] at ih ⊢; rw [ih]; simp [Val.cells]; omega
theorem cellsV_append (a b : List Val) : cellsV (a ++ b) = cellsV a ++ cellsV b := by simp [cellsV]
theorem cellsV_get (l : List Val) : ∀ j : Nat, j < l.length → ∃ v, l[j]? = some v ∧ (cellsV l)[j * 3]? = some (.bool v.null) ∧ (cellsV l)[j * 3 + 1]? = some (.int .i64 v.n) ∧ (cellsV l)[j * 3 + 2]? = some (.string v.s) := by
  induction l with
  | nil => intro j h; simp at h
  | cons v t ih =>
    intro j h
    cases j with
    | zero => exact ⟨v, rfl, by simp [cellsV, Val.cells], by simp [cellsV, Val.cells], by simp [cellsV, Val.cells]⟩
    | succ j =>
      obtain ⟨u, h1, h2, h3, h4⟩ := ih j (by simpa using h)
      have e : cellsV (v :: t) = v.cells ++ cellsV t := by simp [cellsV]
      refine ⟨u, by simpa using h1, ?_, ?_, ?_⟩
      · rw [e, List.getElem?_append_right (by simp [Val.cells]; omega), show (j + 1) * 3 - v.cells.length = j * 3 from by simp [Val.cells]; omega]; exact h2
      · rw [e, List.getElem?_append_right (by simp [Val.cells]; omega), show (j + 1) * 3 + 1 - v.cells.length = j * 3 + 1 from by simp [Val.cells]; omega]; exact h3
      · rw [e, List.getElem?_append_right (by simp [Val.cells]; omega), show (j + 1) * 3 + 2 - v.cells.length = j * 3 + 2 from by simp [Val.cells]; omega]; exact h4
/-- A slice of n values that reads as l. -/
def Rv (w : World) (A : Option Addr) (n : Nat) (l : List Val) : Prop := Rd w 3 A n (cellsV l)
section
variable {w w' : World} {A : Option Addr} {n : Nat} {l : List Val}
theorem Rv.len (h : Rv w A n l) : l.length = n := by have := h.1; rw [cellsV_len] at this; omega
theorem Rv.nil (w : World) (A : Option Addr) : Rv w A 0 [] := Rd.nil w 3 A
theorem Rv.below (h : Rv w A n l) (hb : Below w.heap.size w w') : Rv w' A n l := Rd.below h hb
theorem Rv.drewN (h : Rv w A n l) (m : Nat) : Rv (w.drewN m) A n l := h
theorem Rv.alloc (h : Rv w A n l) (o : Obj) : Rv (w.alloc o) A n l := Rd.alloc h o
theorem Rv.of_own {base : Nat} {e : TypeId} {c : Nat} (h : w.ownsRow base e 3 (.slice A n c) n (cellsV l)) : Rv w A n l := Rd.of_own h
theorem Rv.at_ (h : Rv w A n l) {j : Nat} (hj : j < n) : ∃ b o v, A = some ⟨b, o, none⟩ ∧ b < w.heap.size ∧ l[j]? = some v ∧ w.cell? ⟨b, o + j * 3, none⟩ = some (.bool v.null) ∧ w.cell? ⟨b, o + j * 3 + 1, none⟩ = some (.int .i64 v.n) ∧ w.cell? ⟨b, o + j * 3 + 2, none⟩ = some (.string v.s) := by
  obtain ⟨b, o, e, hb, hc⟩ := h.2 (by omega)
  obtain ⟨v, h1, h2, h3, h4⟩ := cellsV_get l j (by rw [h.len]; exact hj)
  exact ⟨b, o, v, e, hb, h1, hc _ _ h2, by rw [Nat.add_assoc]; exact hc _ _ h3, by rw [Nat.add_assoc]; exact hc _ _ h4⟩
theorem cellsV_take (l : List Val) (m : Nat) : (cellsV l).take (m * 3) = cellsV (l.take m) := by
  induction l generalizing m with
  | nil => simp [cellsV]
  | cons v t ih =>
    cases m with
    | zero => simp [cellsV]
    | succ m =>
      have e : cellsV (v :: t) = v.cells ++ cellsV t := by simp [cellsV]
      have e2 : cellsV (v :: t.take m) = v.cells ++ cellsV (t.take m) := by simp [cellsV]
      rw [e, List.take_succ_cons, e2, ← ih m, List.take_append]
      have h3 : v.cells.length = 3 := rfl
      rw [List.take_of_length_le (by omega), h3, show (m + 1) * 3 - 3 = m * 3 from by omega]
theorem Rv.first (h : Rv w A n l) {m : Nat} (hm : m ≤ n) : Rv w A m (l.take m) :=
  ⟨by have := h.len; rw [cellsV_len, List.length_take]; omega, fun h0 => by
    obtain ⟨b, o, e, hb, hc⟩ := h.2 (by omega)
    refine ⟨b, o, e, hb, fun j u hu => hc j u ?_⟩
    rw [← cellsV_take] at hu
    have hj : j < m * 3 := by
      rcases Nat.lt_or_ge j (m * 3) with hlt | hge
      · exact hlt
      · rw [List.getElem?_eq_none (by rw [List.length_take]; omega)] at hu; cases hu
    rwa [List.getElem?_take_of_lt hj] at hu⟩
theorem Rv.zero (h : Rv w A n l) (hn : n = 0) (A' : Option Addr) : Rv w A' n l := ⟨h.1, fun h0 => absurd h0 (by omega)⟩
theorem Rv.oneCell (l : List Val) : ∀ u ∈ cellsV l, u.oneCell' = true := by
  intro u hu
  obtain ⟨v, _, hv⟩ := List.mem_flatMap.1 hu
  simp [Val.cells] at hv
  rcases hv with rfl | rfl | rfl <;> rfl
end
/-- A slice of values with its bounds. -/
def Sv (w : World) (A : Option Addr) (n c : Nat) (l : List Val) : Prop := Rv w A n l ∧ n ≤ c ∧ c ≤ 9223372036854775807
theorem Sv.nil (w : World) : Sv w none 0 0 [] := ⟨Rv.nil _ _, Nat.le_refl _, by omega⟩
theorem Sv.below {w w' : World} {A : Option Addr} {n c : Nat} {l : List Val} (h : Sv w A n c l) (hb : Below w.heap.size w w') : Sv w' A n c l := ⟨h.1.below hb, h.2⟩
theorem info_val : (Tryd.prog.info? 26).map (fun i => (i.zero, i.size, i.bytes)) = some (some (.agg #[.bool false, .int .i64 0, .string ⟨#[]⟩]), 3, 32) := by kernel_rfl
/-- append onto a row of the call's own, values, whatever is appended. -/
theorem wpList_val (w : World) {ops : Array Oper} {rest : List Oper} {o : Oper} {a : Act} {Q : Exit → Act → World → Prop} (hgd : o.guard = none) (s x : Operand)
    (ho : o.op = .call { callee := .builtin .append, args := #[s, x], argTypes := #[24, 24] })
    (base : Nat) (v : Value) (n : Nat) (l : List Val) (hs : a.eval s = v) (hown : w.ownsRow base 26 3 v n (cellsV l))
    (A : Option Addr) (m c : Nat) (l2 : List Val) (hx : a.eval x = .slice A m c) (hr : Rv w A m l2) (hb : n + m ≤ 2000000000) (hbase : base ≤ w.heap.size)
    (h : ∀ G cap w', w'.ownsRow base 26 3 (.slice G (n + m) cap) (n + m) (cellsV (l ++ l2)) → w.grownBy w' v.ownBlock → n + m ≤ cap → wpList Tryd.prog ops Q rest (a.put o.dst (.slice G (n + m) cap)) w') : wpList Tryd.prog ops Q (o :: rest) a w := by
  obtain ⟨i0, hi, hz0, hz1, hz2⟩ := info_parts info_val
  refine wpList_append_any w hgd s x 24 ho base 26 i0 _ 3 32 Tryd.underlying24 hi hz0 hz1 hz2 rfl (by decide) v n _ hs hown A m c _ hx hr (Rv.oneCell _) (by unfold maxLen; omega) (by omega) hbase ?_
  intro G cap w' h1 h2 _ h4
  rw [← cellsV_append] at h1
  exact h G cap w' h1 h2 h4
end Go.Proofs.YtbmooemlekckbaaDoor

/- Words for rows of truths. -/
namespace Go.Proofs.YtbmooemlekckbaaDoor
open Go.RowKit

/-- A slice of n truths that reads as l. -/
def Rb (w : World) (A : Option Addr) (n : Nat) (l : List Bool) : Prop := Rd w 1 A n (l.map Value.bool)
section
variable {w w' : World} {A : Option Addr} {n : Nat} {l : List Bool}
theorem Rb.len (h : Rb w A n l) : l.length = n := by have := h.1; simpa using this
theorem Rb.nil (w : World) (A : Option Addr) : Rb w A 0 [] := Rd.nil w 1 A
theorem Rb.below (h : Rb w A n l) (hb : Below w.heap.size w w') : Rb w' A n l := Rd.below h hb
theorem Rb.drew (h : Rb w A n l) : Rb w.drew A n l := h
theorem Rb.drewN (h : Rb w A n l) (m : Nat) : Rb (w.drewN m) A n l := h
theorem Rb.alloc (h : Rb w A n l) (o : Obj) : Rb (w.alloc o) A n l := Rd.alloc h o
theorem Rb.of_own {base : Nat} {e : TypeId} {c : Nat} (h : w.ownsRow base e 1 (.slice A n c) n (l.map Value.bool)) : Rb w A n l := Rd.of_own h
theorem Rb.at_ (h : Rb w A n l) {j : Nat} (hj : j < n) : ∃ b o, A = some ⟨b, o, none⟩ ∧ b < w.heap.size ∧ w.cell? ⟨b, o + j, none⟩ = some (.bool (l.getD j false)) := by
  obtain ⟨b, o, e, hb, hc⟩ := h.2 (by omega)
  have hj' : j < l.length := by rw [h.len]; exact hj
  exact ⟨b, o, e, hb, hc j _ (by simp [List.getElem?_map, List.getElem?_eq_getElem hj'])⟩
theorem Rb.first (h : Rb w A n l) {m : Nat} (hm : m ≤ n) : Rb w A m (l.take m) :=
  ⟨by have := h.len; simp; omega, fun h0 => by
    obtain ⟨b, o, e, hb, hc⟩ := h.2 (by omega)
    refine ⟨b, o, e, hb, fun j u hu => hc j u ?_⟩
    rw [List.map_take] at hu
    have hj : j < m := by
      rcases Nat.lt_or_ge j m with hlt | hge
      · exact hlt
      · rw [List.getElem?_eq_none (by rw [List.length_take]; omega)] at hu; cases hu
    rwa [List.getElem?_take_of_lt hj] at hu⟩
theorem Rb.rest (h : Rb w A n l) {i : Nat} (hi : i ≤ n) {b o : Nat} (hA : 0 < n → A = some ⟨b, o, none⟩) : Rb w (some ⟨b, o + i, none⟩) (n - i) (l.drop i) :=
  ⟨by have := h.len; simp; omega, fun h0 => by
    obtain ⟨b', o', e, hb, hc⟩ := h.2 (by omega)
    have e2 := hA (by omega)
    rw [e] at e2
    injection e2 with e2
    injection e2 with e3 e4
    subst e3 e4
    refine ⟨_, _, rfl, hb, fun j u hu => ?_⟩
    rw [List.map_drop, List.getElem?_drop] at hu
    rw [Nat.add_assoc]
    exact hc _ u hu⟩
theorem Rb.zero (h : Rb w A n l) (hn : n = 0) (A' : Option Addr) : Rb w A' n l := ⟨h.1, fun h0 => absurd h0 (by omega)⟩
theorem Rb.restIf {b o : Nat} (h : Rb w (some ⟨b, o, none⟩) n l) {i : Nat} (hi : i ≤ n) {cap : Nat} (hc : n ≤ cap) :
    Rb w (if cap = i then some ⟨b, o, none⟩ else some ⟨b, o + i, none⟩) (n - i) (l.drop i) := by
  have h1 := h.rest (i := i) hi (fun _ => rfl)
  split
  · exact h1.zero (by omega) _
  · exact h1
theorem Rb.oneCell (l : List Bool) : ∀ u ∈ l.map Value.bool, u.oneCell' = true := by
  intro u hu
  obtain ⟨x, _, rfl⟩ := List.mem_map.1 hu
  rfl
end
/-- A slice of truths with its bounds. -/
def Sb (w : World) (A : Option Addr) (n c : Nat) (l : List Bool) : Prop := Rb w A n l ∧ n ≤ c ∧ c ≤ 9223372036854775807
theorem Sb.nil (w : World) : Sb w none 0 0 [] := ⟨Rb.nil _ _, Nat.le_refl _, by omega⟩
theorem Sb.below {w w' : World} {A : Option Addr} {n c : Nat} {l : List Bool} (h : Sb w A n c l) (hb : Below w.heap.size w w') : Sb w' A n c l := ⟨h.1.below hb, h.2⟩
theorem Sb.of_own {w : World} {A : Option Addr} {n c : Nat} {l : List Bool} {base : Nat} {e : TypeId} (h : w.ownsRow base e 1 (.slice A n c) n (l.map Value.bool)) : Sb w A n c l := ⟨Rb.of_own h, own_cap h⟩
theorem Rb_lit (w : World) (l : List Bool) (t : TypeId) (cs : Array Value) (hcs : cs = (l.map Value.bool).toArray) (n : Nat) (hn : l.length = n) :
    Rb (w.alloc (.cells cs t)) (some ⟨w.heap.size, 0, none⟩) n l := by
  subst hcs
  refine ⟨by simpa using hn, fun _ => ⟨w.heap.size, 0, rfl, by simp, fun j u hu => ?_⟩⟩
  rw [(Blk.new w t _).cell]; simpa using hu
/-- append onto a row of the call's own, truths, whatever is appended. -/
theorem wpList_bool (w : World) {ops : Array Oper} {rest : List Oper} {o : Oper} {a : Act} {Q : Exit → Act → World → Prop} (hgd : o.guard = none) (s x : Operand)
    (ho : o.op = .call { callee := .builtin .append, args := #[s, x], argTypes := #[38, 38] })
    (base : Nat) (v : Value) (n : Nat) (l : List Bool) (hs : a.eval s = v) (hown : w.ownsRow base 4 1 v n (l.map Value.bool))
    (A : Option Addr) (m c : Nat) (l2 : List Bool) (hx : a.eval x = .slice A m c) (hr : Rb w A m l2) (hb : n + m ≤ 2000000000) (hbase : base ≤ w.heap.size)
    (h : ∀ G cap w', w'.ownsRow base 4 1 (.slice G (n + m) cap) (n + m) ((l ++ l2).map Value.bool) → w.grownBy w' v.ownBlock → n + m ≤ cap → wpList Tryd.prog ops Q rest (a.put o.dst (.slice G (n + m) cap)) w') : wpList Tryd.prog ops Q (o :: rest) a w := by
  obtain ⟨i0, hi, hz0, hz1, hz2⟩ := info_parts info_bool
  refine wpList_append_any w hgd s x 38 ho base 4 i0 (.bool false) 1 1 Tryd.underlying38 hi hz0 hz1 hz2 rfl (by decide) v n _ hs hown A m c _ hx hr (Rb.oneCell _) (by unfold maxLen; omega) (by omega) hbase ?_
  intro G cap w' h1 h2 _ h4
  rw [← List.map_append] at h1
  exact h G cap w' h1 h2 h4
theorem takeB_snoc (l : List Bool) (k : Nat) (h : k < l.length) : l.take (k + 1) = l.take k ++ [l.getD k false] := by
  rw [List.take_succ_eq_append_getElem h]; simp [List.getD, List.getElem?_eq_getElem h]
/-- How many are true. -/
def countB (l : List Bool) : Nat := (l.filter id).length
theorem countB_snoc (l : List Bool) (x : Bool) : countB (l ++ [x]) = countB l + if x then 1 else 0 := by
  unfold countB
  rw [List.filter_append, List.length_append]
  cases x <;> rfl
theorem countB_append (a b : List Bool) : countB (a ++ b) = countB a + countB b := by
  unfold countB; rw [List.filter_append, List.length_append]
theorem countB_le (l : List Bool) : countB l ≤ l.length := List.length_filter_le _ _
theorem countB_turned (l : List Bool) : countB (l.map not) + countB l = l.length := by
  induction l with
  | nil => rfl
  | cons x t ih => cases x <;> simp [countB] at ih ⊢ <;> omega

set_option maxRecDepth 100000 in
set_option maxHeartbeats 1000000 in
theorem Count_any (w : World) (A : Option Addr) (n cap : Nat) (l : List Bool) (hr : Rb w A n l) (hn : n ≤ 1000000) :
    Calls Tryd.prog 36 #[.slice A n cap] w fun e w' => e = .returned (.int .i64 (countB l)) ∧ w = w' := by
  have HR := Lib.hid hr; have HN := Lib.hid hr.len
  clear hr
  go_enter Tryd.func36, Tryd.ntmps36
  go_wp2_with go_in
  go_loopw [5, 10] (fun c i wr => ∃ j : Nat, j ≤ n ∧ i = .int .i64 j ∧ c = .int .i64 (countB (l.take j)) ∧ Hid (wr = w)) (fun _ i _ => n - (intOf i).toNat)
  case atStart => exact ⟨0, by omega, rfl, rfl, rfl⟩
  case round =>
    obtain ⟨j, hj, rfl, rfl, hw⟩ := hrel
    obtain rfl := hw.out
    by_cases hlt : j < n
    · obtain ⟨b, o, hA, hbl, hcell⟩ := HR.out.at_ hlt
      subst hA
      have hs := Lib.hid (countB_snoc (l.take j) (l.getD j false))
      have ht := Lib.hid (takeB_snoc l j (by rw [HN.out]; exact hlt))
      have hcb : countB (l.take j) ≤ j := Nat.le_trans (countB_le _) (by rw [List.length_take]; omega)
      generalize l.getD j false = x at *
      generalize hcc : countB (l.take j) = c at *
      have HCC := Lib.hid hcc; clear hcc
      cases x
      all_goals
        go_wp2_with go_in
        go_roundw
        case rel =>
          refine ⟨j + 1, by omega, by go_num, ?_, Lib.hid trivial⟩
          rw [ht.out, hs.out]
          simp
        case measure => simp [intOf] <;> omega
    · go_wp2_with go_in
      go_ret
      rw [List.take_of_length_le (by rw [HN.out]; omega)]
      exact ⟨rfl, rfl⟩
end Go.Proofs.YtbmooemlekckbaaDoor

/- boolrle.Put and its reference. -/
namespace Go.Proofs.YtbmooemlekckbaaDoor
open Go.RowKit

def bit01 (l : List Bool) : List Int := l.map fun b => if b then 1 else 0
theorem bit01_len (l : List Bool) : (bit01 l).length = l.length := by simp [bit01]
def bytesB (l : List Bool) : List Int := bytesOf (packV (bit01 l) 1 * 2 ^ (8 * ((l.length + 7) / 8) - l.length)) ((l.length + 7) / 8)
def putB (l : List Bool) : List Int × Int := if 4096 < l.length then ([], 3) else encR (bytesB l)
theorem bit01_snoc (l : List Bool) (x : Bool) : packV (bit01 (l ++ [x])) 1 = packV (bit01 l) 1 * 2 + (if x then 1 else 0) := by
  unfold bit01
  rw [List.map_append, List.map_singleton, packV_snoc, Nat.pow_one]
  cases x <;> rfl
theorem bit_one {w wi : World} {N j V : Nat} (hj : j + 1 ≤ 8 * N) (hin : RefW w wi N j (V * 2 ^ (8 * N - j))) :
    ∃ d : Nat, d < 256 ∧ wi.cell? ⟨w.heap.size, j / 8, none⟩ = some (.int .u8 d) ∧ wi.frozen? ⟨w.heap.size, j / 8, none⟩ = false ∧ (d : Int) + 128 / 2 ^ (j % 8) < 256 ∧ 0 < (128 : Int) / 2 ^ (j % 8) ∧
      bits .or .u8 (d : Int) (128 / 2 ^ (j % 8)) = (d : Int) + 128 / 2 ^ (j % 8) ∧
      RefW w (wi.setCell ⟨w.heap.size, j / 8, none⟩ (.int .u8 ((d : Int) + 128 / 2 ^ (j % 8)))) N (j + 1) ((V * 2 + 1) * 2 ^ (8 * N - (j + 1))) := by
  obtain ⟨h1, h2, h3⟩ := hin
  obtain ⟨e1, e2, e3⟩ := put_fits _ N j 1 1 (by omega) (by omega) h3 (by omega) (by omega)
  simp only [Nat.one_mul] at e1 e2 e3
  have hj8 : j / 8 < N := by omega
  have h7 : 8 - j % 8 - 1 = 7 - j % 8 := by omega
  rw [h7] at e1 e2 e3
  have hp := Nat.two_pow_pos (7 - j % 8)
  have hb := byteAt_lt (V * 2 ^ (8 * N - j)) N (j / 8)
  refine ⟨_, hb, (h1.cell _).trans (bytesArr_get _ N _ hj8), h1.frozen _, ?_, ?_, ?_, ?_, ?_, ?_⟩
  · rw [shr128]; omega
  · rw [shr128]; omega
  · rw [shr128, u8_or_nat _ _ hb (by omega)]
    rw [Nat.mod_eq_of_lt (show 2 ^ (7 - j % 8) < 256 by omega)] at e1
    rw [e1, Int.natCast_add]
  · rw [shr128]
    have h := h1.set_ (j / 8) (.int .u8 ((byteAt (V * 2 ^ (8 * N - j)) N (j / 8) + 2 ^ (7 - j % 8) : Nat) : Int))
    rw [bytesArr_add _ N _ _ hj8 e2, ← e3] at h
    rw [show V * 2 ^ (8 * N - j) + 2 ^ (8 * N - j - 1) = (V * 2 + 1) * 2 ^ (8 * N - (j + 1)) from by
      rw [Nat.add_mul, Nat.one_mul, Nat.mul_assoc, ← Nat.pow_succ', show Nat.succ (8 * N - (j + 1)) = 8 * N - j from by omega, show 8 * N - j - 1 = 8 * N - (j + 1) from by omega]] at h
    exact h
  · exact h2.setCell (Nat.le_refl _) _
  · exact Nat.mul_mod_left _ _
theorem bit_zero {w wi : World} {N j V : Nat} (hj : j + 1 ≤ 8 * N) (hin : RefW w wi N j (V * 2 ^ (8 * N - j))) : RefW w wi N (j + 1) ((V * 2 + 0) * 2 ^ (8 * N - (j + 1))) := by
  obtain ⟨h1, h2, h3⟩ := hin
  have e : V * 2 ^ (8 * N - j) = (V * 2 + 0) * 2 ^ (8 * N - (j + 1)) := by
    rw [Nat.add_zero, Nat.mul_assoc, ← Nat.pow_succ', show Nat.succ (8 * N - (j + 1)) = 8 * N - j from by omega]
  rw [e] at h1
  exact ⟨h1, h2, Nat.mul_mod_left _ _⟩

set_option maxRecDepth 100000 in
set_option maxHeartbeats 2000000 in
theorem BPut_any (w : World) (A : Option Addr) (n cap : Nat) (l : List Bool) (hr : Rb w A n l) (hn : n ≤ 1000000) (r : List Int) (er : Int) (hl : putB l = (r, er)) :
    Calls Tryd.prog 10 #[.slice A n cap] w (BytesErr w r er) := by
  have HR := Lib.hid hr; have HN := Lib.hid hr.len
  unfold putB at hl
  rw [hr.len] at hl
  clear hr
  by_cases hbig : 4096 < n
  · rw [if_pos hbig] at hl
    injection hl with e1 e2
    subst e1 e2
    go_enter Tryd.func10, Tryd.ntmps10
    go_wp2_with fail
    go_ret2
    exact ⟨none, 0, 0, rfl, Sl.nil _ _, Below.refl _ _⟩
  · rw [if_neg hbig] at hl
    have HL := Lib.hid hl; clear hl
    obtain ⟨N, hN⟩ : ∃ N, N = (n + 7) / 8 := ⟨_, rfl⟩
    have hNi : ((n : Int) + 7) / 8 = (N : Int) := by omega
    have hNi2 : ((n : Int) + 8 - 1) / 8 = (N : Int) := by omega
    have hN8 : n ≤ 8 * N := by omega
    have hNle : N ≤ 512 := by omega
    have HNN := Lib.hid hN; clear hN
    have hmk := fun W => Go.run_make_row' (P := Tryd.prog) 27 5 (.int .u8 0) 1 Tryd.underlying27 info_u8 rfl .i64 .i64 N (by omega) (by omega) W
    go_enter Tryd.func10, Tryd.ntmps10
    go_wp2_with fail
    clear hNi hNi2 hmk
    go_loopw [18] (fun i wr => ∃ j : Nat, j ≤ n ∧ i = .int .i64 j ∧ Hid (RefW w wr N j (packV (bit01 (l.take j)) 1 * 2 ^ (8 * N - j)))) (fun i _ => n - (intOf i).toNat)
    case atStart =>
      refine ⟨0, by omega, rfl, Lib.hid ⟨?_, (Below.refl w.heap.size w).alloc (Nat.le_refl _) _, ?_⟩⟩
      · rw [show packV (bit01 (l.take 0)) 1 = 0 from rfl, Nat.zero_mul, ← madeCells_bytes]
        exact Blk.new w _ _
      · rw [show packV (bit01 (l.take 0)) 1 = 0 from rfl, Nat.zero_mul, Nat.zero_mod]
    case round =>
      obtain ⟨j, hj, rfl, hin⟩ := hrel
      by_cases hlt : j < n
      · obtain ⟨b, o, hA, hbl, hcell⟩ := HR.out.at_ hlt
        subst hA
        have hc3 := (hin.out.2.1.cell (p := ⟨b, o + j, none⟩) hbl).trans hcell
        have hs := Lib.hid (bit01_snoc (l.take j) (l.getD j false))
        have ht := Lib.hid (takeB_snoc l j (by rw [HN.out]; exact hlt))
        clear hcell
        generalize l.getD j false = x at *
        generalize packV (bit01 (l.take j)) 1 = V at *
        cases x
        · have hz := Lib.hid (bit_zero (by omega) hin.out)
          clear hin
          go_wp2_with fail
          go_roundw
          case rel =>
            refine ⟨j + 1, by omega, by go_num, Lib.hid ?_⟩
            rw [ht.out, hs.out]
            exact hz.out
          case measure => simp [intOf] <;> omega
        · obtain ⟨d, hd, hc4, hf4, hd2, hd1, hor, hnew⟩ := bit_one (by omega) hin.out
          have HNW := Lib.hid hnew
          clear hnew hin
          go_wp2_with fail
          go_region
          all_goals go_wp2_with fail
          go_roundw
          case rel =>
            refine ⟨j + 1, by omega, by go_num, Lib.hid ?_⟩
            rw [ht.out, hs.out]
            first | exact RefW.drew HNW | omega               
          case measure => simp [intOf] <;> omega
      · obtain rfl : j = n := by omega
        have hfin := hin.out
        rw [List.take_of_length_le (by rw [HN.out]; exact Nat.le_refl _)] at hfin
        obtain ⟨f1, f2, f3⟩ := hfin
        have e : bytesB l = bytesOf (packV (bit01 l) 1 * 2 ^ (8 * N - j)) N := by
          unfold bytesB; rw [HN.out, ← HNN.out]
        have hsl := Sl_of_blk (l := bytesB l) (N := N) (by rw [e]; exact f1) (by rw [e, bytesOf_len]) (by omega)
        have hu : U8 (bytesB l) := by rw [e]; exact bytesOf_u8 _ _
        have HS := Lib.hid hsl; have HU := Lib.hid hu; have HB := Lib.hid f2
        clear hsl hu f1 f2 f3 e hin
        go_wp2_with fail
        refine (Put5_any _ _ _ _ (bytesB l) HS.out.1 HU.out HS.out.2.1 HS.out.2.2 r er HL.out).mono ?_; rintro e w4 ⟨G4, n4, c4, rfl, hs4, hb4⟩
        go_wp2_with fail
        go_ret2
        exact ⟨_, _, _, rfl, hs4, on HB.out hb4⟩

end Go.Proofs.YtbmooemlekckbaaDoor

/- Rows of the call's own of other element types; one value in a block of its own. -/
namespace Go.Proofs.YtbmooemlekckbaaDoor
open Go.RowKit

theorem Sv.of_own {w : World} {A : Option Addr} {n c : Nat} {l : List Val} {base : Nat} {e : TypeId} (h : w.ownsRow base e 3 (.slice A n c) n (cellsV l)) : Sv w A n c l := ⟨Rv.of_own h, own_cap h⟩
/-- Rows of other element types do not lie in one block. -/
theorem own_apartV {w : World} {B B2 n m s1 s2 : Nat} {e t : TypeId} {v u : Value} {xs ys : List Value} (h : w.ownsRow B e s1 v n xs) (h2 : w.ownsRow B2 t s2 u m ys) (hne : e ≠ t) : Apart v u := by
  have key : ∀ {B n s : Nat} {e : TypeId} {v : Value} {xs : List Value}, w.ownsRow B e s v n xs → ∀ g, v.ownBlock = some g → ∃ cur, Blk w g e cur := by
    intro B n s e v xs h g hg
    rcases h.2 with ⟨rfl, _⟩ | ⟨g', cap, cur, rfl, _, h2, _⟩
    · simp [Value.ownBlock] at hg
    · simp [Value.ownBlock] at hg
      subst hg
      exact ⟨cur, h2⟩
  intro g h3 h4
  obtain ⟨c1, k1⟩ := key h g h3
  obtain ⟨c2, k2⟩ := key h2 g h4
  unfold Blk at k1 k2
  rw [k1] at k2
  injection k2 with k2
  injection k2 with _ k2
  exact hne k2
theorem blk_atV {w : World} {t : TypeId} {cs : Array Value} {g : Nat} (h : g = w.heap.size) : Blk (w.alloc (.cells cs t)) g t cs := by subst h; exact Blk.new _ _ _
theorem rb_one_at {w : World} {x : Bool} {t : TypeId} {g : Nat} (h : g = w.heap.size) : Rb (w.alloc (.cells #[.bool x] t)) (some ⟨g, 0, none⟩) 1 [x] := by subst h; exact Rd.one _ _ _
theorem rv_one_at {w : World} {x : Val} {t : TypeId} {g : Nat} (h : g = w.heap.size) : Rv (w.alloc (.cells #[.bool x.null, .int .i64 x.n, .string x.s] t)) (some ⟨g, 0, none⟩) 1 [x] := by
  subst h
  refine ⟨by simp [cellsV, Val.cells], fun _ => ⟨w.heap.size, 0, rfl, by simp, fun j u hu => ?_⟩⟩
  rw [Nat.zero_add, (Blk.new w t _).cell]
  simpa [cellsV, Val.cells] using hu
end Go.Proofs.YtbmooemlekckbaaDoor

/- pilasterref12.SameRow of two rows that read the same. -/
namespace Go.Proofs.YtbmooemlekckbaaDoor
open Go.RowKit

set_option maxRecDepth 100000 in
set_option maxHeartbeats 1000000 in
theorem SameV_any (w : World) (A B : Option Addr) (n c d : Nat) (l : List Val) (ha : Rv w A n l) (hb : Rv w B n l) (hn : n ≤ 1000000) :
    Calls Tryd.prog 7 #[.slice A n c, .slice B n d] w fun e w' => e = .returned (.bool true) ∧ Below w.heap.size w w' := by
  have HA := Lib.hid ha; have HB := Lib.hid hb; clear ha hb
  go_enter Tryd.func7, Tryd.ntmps7
  go_wp2_with fail
  go_loopw [5] (fun i wr => ∃ j : Nat, j ≤ n ∧ i = .int .i64 j ∧ Below w.heap.size w wr) (fun i _ => n - (intOf i).toNat)
  case atStart => exact ⟨0, by omega, rfl, Below.refl _ _⟩
  case round =>
    obtain ⟨j, hj, rfl, hbw⟩ := hrel
    by_cases hlt : j < n
    · obtain ⟨b1, o1, v, hA, hbl1, hv1, a1, a2, a3⟩ := HA.out.at_ hlt
      obtain ⟨b2, o2, v2, hB, hbl2, hv2, c1, c2, c3⟩ := HB.out.at_ hlt
      obtain rfl : v = v2 := by rw [hv1] at hv2; injection hv2
      subst hA hB
      have g1 := (hbw.cell (p := ⟨b1, o1 + j * 3, none⟩) hbl1).trans a1
      have g2 := (hbw.cell (p := ⟨b1, o1 + j * 3 + 1, none⟩) hbl1).trans a2
      have g3 := (hbw.cell (p := ⟨b1, o1 + j * 3 + 2, none⟩) hbl1).trans a3
      have k1 := (hbw.cell (p := ⟨b2, o2 + j * 3, none⟩) hbl2).trans c1
      have k2 := (hbw.cell (p := ⟨b2, o2 + j * 3 + 1, none⟩) hbl2).trans c2
      have k3 := (hbw.cell (p := ⟨b2, o2 + j * 3 + 2, none⟩) hbl2).trans c3
      clear hv1 hv2 a1 a2 a3 c1 c2 c3
      go_wp2_with fail
      go_quiet (fail)
      go_wp2_with fail
      go_roundw
      case rel => exact ⟨j + 1, by omega, by go_num, below_drewN hbw _⟩
      case measure => simp [intOf] <;> omega
    · go_wp2_with fail
      go_ret
      exact ⟨rfl, by first | exact hbw | exact below_drewN hbw _⟩
end Go.Proofs.YtbmooemlekckbaaDoor

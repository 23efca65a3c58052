/- Joined texts: PRefA, PRefB, RefPPut. Each has its own head line. No condition beyond those that its theorems state. -/
import Derived.Deep.RegionLaw
import Derived.Deep.DeepCutAuto
import Derived.Test.YtmejoococajikaaJ28
import Derived.Test.YtmejoococajikaaJ17
set_option linter.unusedVariables false

/- pilasterref10: above, pairs. -/
namespace Go.Proofs.Ytmejoococajikaa
open Go.RowKit

def AboveOut (w : World) (l : List Int) (e : Ending) (w' : World) : Prop :=
  ∃ b G n c, e = .returned (.tuple #[.int .i64 b, .slice G n c, .bool (nearL l l.length && decide (minL l ≠ -9223372036854775808))]) ∧ Below w.heap.size w w' ∧ (nearL l l.length = true → b = minL l ∧ Sl w' .u64 G n c (upL l))

end Go.Proofs.Ytmejoococajikaa

/- pilasterref10: pairs. -/
namespace Go.Proofs.Ytmejoococajikaa
open Go.RowKit

theorem own_apart {w : World} {B B2 n m : Nat} {e t : TypeId} {v u : Value} {xs ys : List Value} (h : w.ownsRow B e 1 v n xs) (h2 : w.ownsRow B2 t 1 u m ys) (hne : e ≠ t) : Apart v u := by
  have key : ∀ {B n : Nat} {e : TypeId} {v : Value} {xs : List Value}, w.ownsRow B e 1 v n xs → ∀ g, v.ownBlock = some g → ∃ cur, Blk w g e cur := by
    intro B n e v xs h g hg
    rcases h.2 with ⟨rfl, _⟩ | ⟨g', cap, cur, rfl, _, h2, _⟩
    · simp [Value.ownBlock] at hg
    · simp [Value.ownBlock] at hg
      subst hg
      exact ⟨cur, h2⟩
  intro g h3 h4
  obtain ⟨c1, k1⟩ := key h g h3
  obtain ⟨c2, k2⟩ := key h2 g h4
  unfold Blk at k1 k2
  rw [k1] at k2
  injection k2 with k2
  injection k2 with _ k2
  exact hne k2
/-- The two rows while pairs are sought. -/
def PairW (w0 w : World) (v1 v2 : Value) (P : List (Int × Int)) : Prop :=
  w.ownsRow w0.heap.size 3 1 v1 P.length ((P.map Prod.fst).map (Value.int .i64)) ∧ w.ownsRow w0.heap.size 43 1 v2 P.length ((P.map Prod.snd).map (Value.int .u64)) ∧ Below w0.heap.size w0 w
/-- A pair is laid down: first the gap, then the patch. -/
theorem pair_push {w0 w w3 w4 : World} {v1 v2 : Value} {P : List (Int × Int)} {a b : Int} {G1 G2 : Option Addr} {c1 c2 : Nat} {o1 o2 : Obj} (h : PairW w0 w v1 v2 P)
    (h1 : w3.ownsRow w0.heap.size 3 1 (.slice G1 (P.length + 1) c1) (P.length + 1) ((P.map Prod.fst ++ [a]).map (Value.int .i64))) (hg1 : (w.alloc o1).grownBy w3 v1.ownBlock)
    (h2 : w4.ownsRow w0.heap.size 43 1 (.slice G2 (P.length + 1) c2) (P.length + 1) ((P.map Prod.snd ++ [b]).map (Value.int .u64))) (hg2 : (w3.alloc o2).grownBy w4 v2.ownBlock) :
    PairW w0 w4 (.slice G1 (P.length + 1) c1) (.slice G2 (P.length + 1) c2) (P ++ [(a, b)]) := by
  obtain ⟨k1, k2, hb⟩ := h
  have hb3 := push_ hb (Nat.le_refl _) k1 hg1
  have k2' := (own_apart (k1.alloc o1) (k2.alloc o1) (by decide)).kept (k2.alloc o1) hg1
  have hb4 := push_ hb3 (Nat.le_refl _) k2' hg2
  have h1' := (own_apart (k2'.alloc o2) (h1.alloc o2) (by decide)).kept (h1.alloc o2) hg2
  refine ⟨?_, ?_, hb4⟩
  · rw [List.length_append, List.map_append]; exact h1'
  · rw [List.length_append, List.map_append]; exact h2
theorem pair_mid {w0 w w3 : World} {v1 v2 : Value} {P : List (Int × Int)} {o1 : Obj} (h : PairW w0 w v1 v2 P) (hg1 : (w.alloc o1).grownBy w3 v1.ownBlock) :
    w3.ownsRow w0.heap.size 43 1 v2 P.length ((P.map Prod.snd).map (Value.int .u64)) ∧ Below w0.heap.size w0 w3 :=
  ⟨(own_apart (h.1.alloc o1) (h.2.1.alloc o1) (by decide)).kept (h.2.1.alloc o1) hg1, push_ h.2.2 (Nat.le_refl _) h.1 hg1⟩
def PairsOut (w : World) (P : List (Int × Int)) (e : Ending) (w' : World) : Prop :=
  ∃ G n c G2 n2 c2, e = .returned (.tuple #[.slice G n c, .slice G2 n2 c2]) ∧ Sl w' .i64 G n c (P.map Prod.fst) ∧ Sl w' .u64 G2 n2 c2 (P.map Prod.snd) ∧ Below w.heap.size w w'

end Go.Proofs.Ytmejoococajikaa

/- pilasterref10.Put. -/
namespace Go.Proofs.Ytmejoococajikaa
open Go.RowKit

/-- append onto a row of u64 of the call's own, in a region that draws its order. -/
theorem step64 {w : World} {ops : Array Oper} {o : Oper} {a : Act} {K : Act → World → Prop} {Q : Exit → Act → World → Prop} {E : Prop} (hgd : o.guard = none) (s x : Operand)
    (ho : o.op = .call { callee := .builtin .append, args := #[s, x], argTypes := #[33, 33] })
    (base : Nat) (v : Value) (n : Nat) (l : List Int) (hs : a.eval s = v) (hown : w.ownsRow base 43 1 v n (l.map (Value.int .u64)))
    (A : Option Addr) (m c : Nat) (l2 : List Int) (hx : a.eval x = .slice A m c) (hr : Ri w .u64 A m l2) (hb : n + m ≤ 2000000000) (hbase : base ≤ w.heap.size)
    (h : ∀ G cap w', w'.ownsRow base 43 1 (.slice G (n + m) cap) (n + m) ((l ++ l2).map (Value.int .u64)) → w.grownBy w' v.ownBlock → ((Value.slice G (n + m) cap).ownBlock = v.ownBlock ∨ (Value.slice G (n + m) cap).ownBlock = some w.heap.size) → K (a.put o.dst (.slice G (n + m) cap)) w') :
    if Region.wanted o (yielded ops a.tmps) = true then Oper.wp Try.prog o a w K Q else E := by
  have hw : Region.wanted o (yielded ops a.tmps) = true := by simp [Region.wanted, hgd]
  rw [if_pos hw]
  obtain ⟨i0, hi, hz0, hz1, hz2⟩ := info_parts info_u64
  refine wp_append_any w s x 33 ho base 43 i0 (.int .u64 0) 1 8 Try.underlying33 hi hz0 hz1 hz2 rfl (by decide) v n _ hs hown A m c _ hx hr (Ri.oneCell _ _) (by unfold maxLen; omega) (by omega) hbase ?_
  intro G cap w' h1 h2 h3 _
  rw [← List.map_append] at h1
  exact h G cap w' h1 h2 h3
theorem all_nonneg (l : List Int) : (l.all fun x => decide (0 ≤ x)) = !(l.any fun y => decide (y < 0)) := by
  induction l with
  | nil => rfl
  | cons a t ih =>
    rw [List.all_cons, List.any_cons, ih]
    by_cases h : a < 0
    · rw [decide_eq_true h, decide_eq_false (by omega : ¬ 0 ≤ a)]; rfl
    · rw [decide_eq_false h, decide_eq_true (by omega : 0 ≤ a)]; simp
theorem fst_getD (P : List (Int × Int)) (j : Nat) (h : j < P.length) : (P.map Prod.fst).getD j 0 = (P.getD j (0, 0)).1 := by simp [List.getD, List.getElem?_map, List.getElem?_eq_getElem h]
theorem snd_getD (P : List (Int × Int)) (j : Nat) (h : j < P.length) : (P.map Prod.snd).getD j 0 = (P.getD j (0, 0)).2 := by simp [List.getD, List.getElem?_map, List.getElem?_eq_getElem h]
theorem sl_grown {w w0 w' : World} {A : Option Addr} {n c m B : Nat} {l : List Int} {e : TypeId} {v : Value} {xs : List Value} (h : Sl w .u8 A n c l) (hg : w.grownBy w' v.ownBlock) (ho : w0.ownsRow B e 1 v m xs) (hnew : ∀ g o, A = some ⟨g, o, none⟩ → w0.heap.size ≤ g) : Sl w' .u8 A n c l :=
  ⟨h.1.grown hg (fun g b o h1 h2 => by have := (ho.lt g h1).2; have := hnew b o h2; omega), h.2⟩
theorem plain_err (l : List Int) (s : Bool) : ∃ u e, plainL l s = (u, e) ∧ ((e = 0 ∧ (!s && l.any fun y => decide (y < 0)) = false) ∨ (e = 1 ∧ (!s && l.any fun y => decide (y < 0)) = true)) := by
  unfold plainL mapOk
  cases s
  · rw [if_neg (by simp)]
    have e := all_nonneg l
    rw [e]
    cases h : (l.any fun y => decide (y < 0))
    · exact ⟨_, _, if_pos rfl, .inl ⟨rfl, rfl⟩⟩
    · exact ⟨_, _, if_neg (by simp), .inr ⟨rfl, rfl⟩⟩
  · rw [if_pos rfl, if_pos (by simp)]
    exact ⟨_, _, rfl, .inl ⟨rfl, rfl⟩⟩
theorem putPa_bad' {l : List Int} {x : Int} {s : Bool} {r : List Int} {er : Int} (hl : putPa l x s = (r, er)) (h : prePa l x s = true ∨ okPa l x.toNat = false) : r = [] ∧ er = 1 := by
  unfold putPa at hl
  rw [if_pos (by rcases h with h | h <;> simp [h])] at hl
  injection hl with h1 h2
  exact ⟨h1.symm, h2.symm⟩
theorem gN_take (P : List (Int × Int)) (j : Nat) (h : j < P.length) : gN (P.take (j + 1)) = max (gN (P.take j)) (blen ((P.map Prod.fst).getD j 0).toNat) := by
  rw [List.take_succ_eq_append_getElem h, show (P.map Prod.fst).getD j 0 = P[j].1 from by simp [List.getD, List.getElem?_map, List.getElem?_eq_getElem h]]
  exact gN_snoc _ _ P[j].2

end Go.Proofs.Ytmejoococajikaa

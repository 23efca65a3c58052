/- Joined texts: PRefA, PRefB, RefPPut, PlainGp. Each has its own head line. No condition beyond those that its theorems state. -/
import Derived.Deep.RegionLaw
import Derived.Deep.DeepCutAuto
import Derived.Test.YtbmooemlekckbaaDoorJ19
import Derived.Test.YtbmooemlekckbaaDoorJ09
import Derived.Test.YtbmooemlekckbaaDoorJ20
import Derived.Test.YtbmooemlekckbaaDoorJ10
set_option linter.unusedVariables false

/- pilasterref10: above, pairs. -/
namespace Go.Proofs.YtbmooemlekckbaaDoor
open Go.RowKit

def AboveOut (w : World) (l : List Int) (e : Ending) (w' : World) : Prop :=
  ∃ b G n c, e = .returned (.tuple #[.int .i64 b, .slice G n c, .bool (nearL l l.length && decide (minL l ≠ -9223372036854775808))]) ∧ Below w.heap.size w w' ∧ (nearL l l.length = true → b = minL l ∧ Sl w' .u64 G n c (upL l))

end Go.Proofs.YtbmooemlekckbaaDoor

/- pilasterref10: pairs. -/
namespace Go.Proofs.YtbmooemlekckbaaDoor
open Go.RowKit

theorem own_apart {w : World} {B B2 n m : Nat} {e t : TypeId} {v u : Value} {xs ys : List Value} (h : w.ownsRow B e 1 v n xs) (h2 : w.ownsRow B2 t 1 u m ys) (hne : e ≠ t) : Apart v u := by
  have key : ∀ {B n : Nat} {e : TypeId} {v : Value} {xs : List Value}, w.ownsRow B e 1 v n xs → ∀ g, v.ownBlock = some g → ∃ cur, Blk w g e cur := by
    intro B n e v xs h g hg
    rcases h.2 with ⟨rfl, _⟩ | ⟨g', cap, cur, rfl, _, h2, _⟩
    · simp [Value.ownBlock] at hg
    · simp [Value.ownBlock] at hg
      subst hg
      exact ⟨cur, h2⟩
  intro g h3 h4
  obtain ⟨c1, k1⟩ := key h g h3
  obtain ⟨c2, k2⟩ := key h2 g h4
  unfold Blk at k1 k2
  rw [k1] at k2
  injection k2 with k2
  injection k2 with _ k2
  exact hne k2
/-- The two rows while pairs are sought. -/
def PairW (w0 w : World) (v1 v2 : Value) (P : List (Int × Int)) : Prop :=
  w.ownsRow w0.heap.size 3 1 v1 P.length ((P.map Prod.fst).map (Value.int .i64)) ∧ w.ownsRow w0.heap.size 89 1 v2 P.length ((P.map Prod.snd).map (Value.int .u64)) ∧ Below w0.heap.size w0 w
/-- A pair is laid down: first the gap, then the patch. -/
theorem pair_push {w0 w w3 w4 : World} {v1 v2 : Value} {P : List (Int × Int)} {a b : Int} {G1 G2 : Option Addr} {c1 c2 : Nat} {o1 o2 : Obj} (h : PairW w0 w v1 v2 P)
    (h1 : w3.ownsRow w0.heap.size 3 1 (.slice G1 (P.length + 1) c1) (P.length + 1) ((P.map Prod.fst ++ [a]).map (Value.int .i64))) (hg1 : (w.alloc o1).grownBy w3 v1.ownBlock)
    (h2 : w4.ownsRow w0.heap.size 89 1 (.slice G2 (P.length + 1) c2) (P.length + 1) ((P.map Prod.snd ++ [b]).map (Value.int .u64))) (hg2 : (w3.alloc o2).grownBy w4 v2.ownBlock) :
    PairW w0 w4 (.slice G1 (P.length + 1) c1) (.slice G2 (P.length + 1) c2) (P ++ [(a, b)]) := by
  obtain ⟨k1, k2, hb⟩ := h
  have hb3 := push_ hb (Nat.le_refl _) k1 hg1
  have k2' := (own_apart (k1.alloc o1) (k2.alloc o1) (by decide)).kept (k2.alloc o1) hg1
  have hb4 := push_ hb3 (Nat.le_refl _) k2' hg2
  have h1' := (own_apart (k2'.alloc o2) (h1.alloc o2) (by decide)).kept (h1.alloc o2) hg2
  refine ⟨?_, ?_, hb4⟩
  · rw [List.length_append, List.map_append]; exact h1'
  · rw [List.length_append, List.map_append]; exact h2
theorem pair_mid {w0 w w3 : World} {v1 v2 : Value} {P : List (Int × Int)} {o1 : Obj} (h : PairW w0 w v1 v2 P) (hg1 : (w.alloc o1).grownBy w3 v1.ownBlock) :
    w3.ownsRow w0.heap.size 89 1 v2 P.length ((P.map Prod.snd).map (Value.int .u64)) ∧ Below w0.heap.size w0 w3 :=
  ⟨(own_apart (h.1.alloc o1) (h.2.1.alloc o1) (by decide)).kept (h.2.1.alloc o1) hg1, push_ h.2.2 (Nat.le_refl _) h.1 hg1⟩
def PairsOut (w : World) (P : List (Int × Int)) (e : Ending) (w' : World) : Prop :=
  ∃ G n c G2 n2 c2, e = .returned (.tuple #[.slice G n c, .slice G2 n2 c2]) ∧ Sl w' .i64 G n c (P.map Prod.fst) ∧ Sl w' .u64 G2 n2 c2 (P.map Prod.snd) ∧ Below w.heap.size w w'

end Go.Proofs.YtbmooemlekckbaaDoor

/- pilasterref10.Put. -/
namespace Go.Proofs.YtbmooemlekckbaaDoor
open Go.RowKit

/-- append onto a row of u64 of the call's own, in a region that draws its order. -/
theorem step64 {w : World} {ops : Array Oper} {o : Oper} {a : Act} {K : Act → World → Prop} {Q : Exit → Act → World → Prop} {E : Prop} (hgd : o.guard = none) (s x : Operand)
    (ho : o.op = .call { callee := .builtin .append, args := #[s, x], argTypes := #[93, 93] })
    (base : Nat) (v : Value) (n : Nat) (l : List Int) (hs : a.eval s = v) (hown : w.ownsRow base 89 1 v n (l.map (Value.int .u64)))
    (A : Option Addr) (m c : Nat) (l2 : List Int) (hx : a.eval x = .slice A m c) (hr : Ri w .u64 A m l2) (hb : n + m ≤ 2000000000) (hbase : base ≤ w.heap.size)
    (h : ∀ G cap w', w'.ownsRow base 89 1 (.slice G (n + m) cap) (n + m) ((l ++ l2).map (Value.int .u64)) → w.grownBy w' v.ownBlock → ((Value.slice G (n + m) cap).ownBlock = v.ownBlock ∨ (Value.slice G (n + m) cap).ownBlock = some w.heap.size) → K (a.put o.dst (.slice G (n + m) cap)) w') :
    if Region.wanted o (yielded ops a.tmps) = true then Oper.wp Tryd.prog o a w K Q else E := by
  have hw : Region.wanted o (yielded ops a.tmps) = true := by simp [Region.wanted, hgd]
  rw [if_pos hw]
  obtain ⟨i0, hi, hz0, hz1, hz2⟩ := info_parts info_u64
  refine wp_append_any w s x 93 ho base 89 i0 (.int .u64 0) 1 8 Tryd.underlying93 hi hz0 hz1 hz2 rfl (by decide) v n _ hs hown A m c _ hx hr (Ri.oneCell _ _) (by unfold maxLen; omega) (by omega) hbase ?_
  intro G cap w' h1 h2 h3 _
  rw [← List.map_append] at h1
  exact h G cap w' h1 h2 h3
theorem all_nonneg (l : List Int) : (l.all fun x => decide (0 ≤ x)) = !(l.any fun y => decide (y < 0)) := by
  induction l with
  | nil => rfl
  | cons a t ih =>
    rw [List.all_cons, List.any_cons, ih]
    by_cases h : a < 0
    · rw [decide_eq_true h, decide_eq_false (by omega : ¬ 0 ≤ a)]; rfl
    · rw [decide_eq_false h, decide_eq_true (by omega : 0 ≤ a)]; simp
theorem fst_getD (P : List (Int × Int)) (j : Nat) (h : j < P.length) : (P.map Prod.fst).getD j 0 = (P.getD j (0, 0)).1 := by simp [List.getD, List.getElem?_map, List.getElem?_eq_getElem h]
theorem snd_getD (P : List (Int × Int)) (j : Nat) (h : j < P.length) : (P.map Prod.snd).getD j 0 = (P.getD j (0, 0)).2 := by simp [List.getD, List.getElem?_map, List.getElem?_eq_getElem h]
theorem sl_grown {w w0 w' : World} {A : Option Addr} {n c m B : Nat} {l : List Int} {e : TypeId} {v : Value} {xs : List Value} (h : Sl w .u8 A n c l) (hg : w.grownBy w' v.ownBlock) (ho : w0.ownsRow B e 1 v m xs) (hnew : ∀ g o, A = some ⟨g, o, none⟩ → w0.heap.size ≤ g) : Sl w' .u8 A n c l :=
  ⟨h.1.grown hg (fun g b o h1 h2 => by have := (ho.lt g h1).2; have := hnew b o h2; omega), h.2⟩
theorem plain_err (l : List Int) (s : Bool) : ∃ u e, plainL l s = (u, e) ∧ ((e = 0 ∧ (!s && l.any fun y => decide (y < 0)) = false) ∨ (e = 1 ∧ (!s && l.any fun y => decide (y < 0)) = true)) := by
  unfold plainL mapOk
  cases s
  · rw [if_neg (by simp)]
    have e := all_nonneg l
    rw [e]
    cases h : (l.any fun y => decide (y < 0))
    · exact ⟨_, _, if_pos rfl, .inl ⟨rfl, rfl⟩⟩
    · exact ⟨_, _, if_neg (by simp), .inr ⟨rfl, rfl⟩⟩
  · rw [if_pos rfl, if_pos (by simp)]
    exact ⟨_, _, rfl, .inl ⟨rfl, rfl⟩⟩
theorem putPa_bad' {l : List Int} {x : Int} {s : Bool} {r : List Int} {er : Int} (hl : putPa l x s = (r, er)) (h : prePa l x s = true ∨ okPa l x.toNat = false) : r = [] ∧ er = 1 := by
  unfold putPa at hl
  rw [if_pos (by rcases h with h | h <;> simp [h])] at hl
  injection hl with h1 h2
  exact ⟨h1.symm, h2.symm⟩
theorem gN_take (P : List (Int × Int)) (j : Nat) (h : j < P.length) : gN (P.take (j + 1)) = max (gN (P.take j)) (blen ((P.map Prod.fst).getD j 0).toNat) := by
  rw [List.take_succ_eq_append_getElem h, show (P.map Prod.fst).getD j 0 = P[j].1 from by simp [List.getD, List.getElem?_map, List.getElem?_eq_getElem h]]
  exact gN_snoc _ _ P[j].2

end Go.Proofs.YtbmooemlekckbaaDoor

/- Rle: plain: how long a run is; all runs. -/
namespace Go.Proofs.YtbmooemlekckbaaDoor
open Go.RowKit

theorem putD_len (l : List Int) (s : Bool) (hu : I64 l) (p : List Int) (h : putD l s = (p, 0)) : 2 ≤ p.length ∧ p.length ≤ 2 + 8 * l.length := by
  unfold putD at h
  split at h
  · injection h with _ h; cases h
  · rename_i hb
    injection h with h _
    subst h
    obtain ⟨u, e, hpl, hcase⟩ := plainL_cases l s
    rw [hpl] at hb ⊢
    rcases hcase with ⟨rfl, hul, hu6⟩ | ⟨rfl, rfl⟩
    · obtain ⟨k, hk, hk1, hk2, hroom⟩ := most_room u (hu6 hu)
      have hb2 : ¬ l.length < 1 ∧ ¬ 512 < l.length := by
        refine ⟨fun h => hb (.inr (.inl h)), fun h => hb (.inr (.inr h))⟩
      obtain ⟨p, hp, hpl2⟩ := packR_ok u k (by omega) (by omega) hroom
      have h64 := mostBits_le u (hu6 hu)
      have hw := wOf_code (mostBits u) (by omega) (by omega)
      have hh : (headR 1 (wCode (wClosest (mostBits u))) l.length).length = 2 := by
        unfold headR
        rw [if_pos (by omega)]
        rfl
      rw [List.length_append]
      dsimp only
      rw [hh, hk, hp]
      dsimp only
      rw [hpl2, hul]
      have : l.length * k ≤ l.length * 64 := Nat.mul_le_mul_left _ hk2
      omega
    · exact absurd (.inl (by decide)) hb
theorem putD_ok (l : List Int) (s : Bool) (h : badRun l s = false) : ∃ p, putD l s = (p, 0) := by
  unfold badRun at h
  simp only [Bool.or_eq_false_iff, decide_eq_false_iff_not] at h
  obtain ⟨pu, pe, hpl, hpc⟩ := plain_err l s
  unfold putD
  rw [hpl]
  rcases hpc with ⟨rfl, _⟩ | ⟨rfl, hneg⟩
  · rw [if_neg (by rintro (h1 | h1 | h1); exact absurd rfl h1; exact h.1.1 h1; exact h.1.2 h1)]
    exact ⟨_, rfl⟩
  · rw [hneg] at h
    cases h.2
theorem putD_no (l : List Int) (s : Bool) (h : badRun l s = true) : putD l s = ([], 1) := by
  obtain ⟨pu, pe, hpl, hpc⟩ := plain_err l s
  unfold putD
  rw [hpl]
  rw [if_pos]
  unfold badRun at h
  rcases hpc with ⟨rfl, hn⟩ | ⟨rfl, hneg⟩
  · rw [hn, Bool.or_false] at h
    simp only [Bool.or_eq_true, decide_eq_true_eq] at h
    exact .inr h
  · exact .inl (show (1 : Int) ≠ 0 by decide)
theorem putDe_no (l : List Int) (s : Bool) (h : badRun l s = true) : putDe l s = ([], 1) := by
  unfold putDe
  rw [if_pos]
  unfold badRun at h
  unfold badDe
  simp only [Bool.or_eq_true, decide_eq_true_eq, Bool.and_eq_true, Bool.not_eq_true'] at h
  rcases h with (h | h) | h
  · exact .inl (by omega)
  · exact .inr (.inl h)
  · exact .inr (.inr (.inl h))
theorem cand_two (l : List Int) (s : Bool) (hu : I64 l) (c : Nat) (p : List Int) (h : candR l s c = (p, 0)) : 2 ≤ p.length := by
  unfold candR at h
  split at h
  · unfold timesR at h
    split at h
    · unfold putR at h
      split at h
      · injection h with _ h; cases h
      · injection h with h _; subst h
        rw [List.length_cons, hiB_len]
        unfold longN
        omega
    · injection h with _ h; cases h
  · split at h
    · exact (putD_len l s hu p h).1
    · split at h
      · unfold putDe at h
        split at h
        · injection h with _ h; cases h
        · injection h with h _; subst h
          simp only [List.length_append]
          have h1 := (vput_len 9 (unsN (dAt l 0) true)).1
          have h2 := (vput_len 9 (unsN (l.getD 0 0) s)).1
          unfold vput
          omega
      · unfold putPa at h
        split at h
        · injection h with _ h; cases h
        · injection h with h _; subst h
          simp only [List.length_append, twoPa, List.length_cons]
          omega
theorem shortR_ne (o : List Int) (q : List Int × Int) (hq : q.2 = 0 → 1 ≤ q.1.length) (h : o ≠ []) : shortR o q ≠ [] ∧ (shortR o q).length ≤ o.length := by
  unfold shortR
  split
  · rename_i h1
    have := hq h1.1
    refine ⟨fun h2 => by rw [h2] at this; simp at this, ?_⟩
    rcases h1.2 with h2 | h2
    · exact absurd h2 h
    · omega
  · exact ⟨h, Nat.le_refl _⟩
theorem shortR_to (o p : List Int) (hq : 1 ≤ p.length) : shortR o (p, 0) ≠ [] ∧ (shortR o (p, 0)).length ≤ p.length := by
  unfold shortR
  split
  · refine ⟨fun h2 => ?_, Nat.le_refl _⟩
    dsimp only at h2
    rw [h2] at hq
    simp at hq
  · rename_i h
    dsimp only at h
    exact ⟨fun h1 => h ⟨rfl, .inl h1⟩, Nat.le_of_not_lt fun h1 => h ⟨rfl, .inr h1⟩⟩
theorem runK_le (l : List Int) (s : Bool) (hu : I64 l) (j : Nat) (p : List Int) (h : candR l s j = (p, 0)) : ∀ d, runK l s (j + 1 + d) ≠ [] ∧ (runK l s (j + 1 + d)).length ≤ p.length := by
  intro d
  induction d with
  | zero =>
    show shortR (runK l s j) (candR l s j) ≠ [] ∧ (shortR (runK l s j) (candR l s j)).length ≤ p.length
    rw [h]
    exact shortR_to _ _ (cand_ne l s hu j p h)
  | succ d ih =>
    have h1 := shortR_ne (runK l s (j + 1 + d)) (candR l s (j + 1 + d)) (fun he => cand_ne l s hu (j + 1 + d) _ (by rw [← he])) ih.1
    exact ⟨h1.1, Nat.le_trans h1.2 ih.2⟩
theorem runK_is (l : List Int) (s : Bool) : ∀ c, runK l s c = [] ∨ ∃ j, j < c ∧ candR l s j = (runK l s c, 0) := by
  intro c
  induction c with
  | zero => exact .inl rfl
  | succ c ih =>
    have h : runK l s (c + 1) = shortR (runK l s c) (candR l s c) := rfl
    unfold shortR at h
    split at h
    · rename_i h1
      right
      refine ⟨c, Nat.lt_succ_self c, ?_⟩
      rw [h, ← h1.1]
    · rw [h]
      rcases ih with h2 | ⟨j, hj, h2⟩
      · exact .inl h2
      · exact .inr ⟨j, by omega, h2⟩
/-- A run is what one of the kinds is. -/
theorem run_ok (l : List Int) (s : Bool) (hu : I64 l) (h : badRun l s = false) : ∃ q, runR l s = (q, 0) ∧ 2 ≤ q.length ∧ q.length ≤ 2 + 8 * l.length ∧ (∃ j, j < 34 ∧ candR l s j = (q, 0)) ∧ ∀ j p, j < 34 → candR l s j = (p, 0) → q.length ≤ p.length := by
  have h0 : runR l s = (runK l s 34, 0) := by unfold runR; rw [h]; rfl
  obtain ⟨p, hp⟩ := putD_ok l s h
  have hc : candR l s 1 = (p, 0) := by unfold candR; rw [if_neg (by omega), if_pos rfl]; exact hp
  have h1 := runK_le l s hu 1 p hc 32
  have h2 := putD_len l s hu p hp
  rcases runK_is l s 34 with h3 | ⟨j, hj, h3⟩
  · exact absurd h3 h1.1
  · refine ⟨_, h0, cand_two l s hu j _ h3, Nat.le_trans h1.2 h2.2, ⟨j, hj, h3⟩, fun j p hj hp => ?_⟩
    have h4 := (runK_le l s hu j p hp (33 - j)).2
    rwa [show j + 1 + (33 - j) = 34 from by omega] at h4
theorem run_cases (l : List Int) (s : Bool) (hu : I64 l) : runR l s = ([], 1) ∨ ∃ q, runR l s = (q, 0) ∧ q.length ≤ 2 + 8 * l.length := by
  cases h : badRun l s
  · obtain ⟨q, h1, _, h2, _⟩ := run_ok l s hu h
    exact .inr ⟨q, h1, h2⟩
  · left
    unfold runR
    rw [h]
    rfl
/-- All runs. -/
def putF (s : Bool) : Nat → List Int → List Int → List Int × Int
  | 0, out, _ => (out, 0)
  | f + 1, out, l => if l.length = 0 then (out, 0)
    else if (runR (l.take (cutL l)) s).2 ≠ 0 then ([], (runR (l.take (cutL l)) s).2)
    else putF s f (out ++ (runR (l.take (cutL l)) s).1) (l.drop (cutL l))
def putGl (l : List Int) (s : Bool) : List Int × Int := if 4096 < l.length then ([], 3) else putF s (l.length + 1) [] l
end Go.Proofs.YtbmooemlekckbaaDoor

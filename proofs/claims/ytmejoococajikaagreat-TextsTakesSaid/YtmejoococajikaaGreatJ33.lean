/- Joined texts: TxV. Each has its own head line. No condition beyond those that its theorems state. -/
import Derived.RangeFuncBox
import Derived.RangeFuncLeaves
import Derived.RangeFuncBound
import Derived.Shelf.Abstract
import Derived.OwnWalkIn
import Derived.TacticsInMore
import Derived.LoopNIn
import Derived.LoopIn
import Derived.Sort.OwnSorted
import Derived.Test.YtmejoococajikaaGreatJ28
import Derived.Test.YtmejoococajikaaGreatIter
import Derived.Test.YtmejoococajikaaGreatShelf
set_option linter.unusedVariables false

/- texts.Words: the library's iterator over a slice of texts, collected, sorted, compacted. -/
namespace Go.Proofs.YtmejoococajikaaGreat
open Go.RowKit Go.Maps Go.Sort Go.Shelf

/-- A text, as the sort holds it. -/
def keyT (l : List ByteArray) : List (List UInt8) := l.map fun s => s.data.toList
theorem keyT_enc (l : List ByteArray) : (keyT l).map encStr = l.map Value.string := encStr_map l
theorem keyT_len (l : List ByteArray) : (keyT l).length = l.length := by simp [keyT]
/-- The cells of a row of texts. -/
theorem Rs.keys {w : World} {A : Option Addr} {n : Nat} {l : List ByteArray} (h : Rs w A n l) (h0 : 0 < n) : ∃ b o, A = some ⟨b, o, none⟩ ∧ b < w.heap.size ∧ ∀ j (hj : j < (keyT l).length), w.cell? ⟨b, o + j, none⟩ = some (encStr (keyT l)[j]) := by
  obtain ⟨b, o, e, hb, hc⟩ := h.all h0
  refine ⟨b, o, e, hb, fun j hj => ?_⟩
  have hj' : j < l.length := by rwa [keyT_len] at hj
  rw [hc j hj']
  simp [keyT, encStr]

set_option maxRecDepth 100000 in
set_option maxHeartbeats 2000000 in
/-- The iterator of slices.Values, whatever the round keeps. -/
theorem values1_in (n : Nat) (hn : 1 ≤ n) (l Bs n₀ b off cap : Nat) (zs : List (List UInt8)) (hreach : zs.length ≤ 1000000) (hb : b < n₀) (J : List (List UInt8) → World → Prop)
    (hY : ∀ pre x W, J pre W → pre.length < zs.length → YieldAt Fence.wide (n - 1) Tryz.prog l #[encStr x] W fun e W' => e = .returned (.bool true) ∧ J (pre ++ [x]) W' ∧ Below n₀ W W')
    (W : World) (hBs : W.cell? ⟨Bs, 0, none⟩ = some (.slice (some ⟨b, off, none⟩) zs.length cap)) (hc : ∀ j (hj : j < zs.length), W.cell? ⟨b, off + j, none⟩ = some (encStr zs[j])) (h0 : J [] W) :
    CallsIn Fence.wide n Tryz.prog 44 #[.func (.yield l) #[] #[], .pointer (some ⟨Bs, 0, none⟩)] W fun e W' => (∃ v, e = .returned v) ∧ J zs W' := by
  refine callsIn_of_wp Tryz.func44 rfl trivial ?_ rfl
  simp only [Tryz.ntmps44, List.size_toArray, List.length_cons, List.length_nil, Nat.reduceAdd, Nat.reduceSub, Array.replicate_succ, Array.replicate_zero, List.push_toArray, List.append_toArray, List.nil_append, List.cons_append]
  gi_wp2
  gi_loopw [7] (fun i wr => ∃ k : Nat, k ≤ zs.length ∧ i = .int .i64 k ∧ J (zs.take k) wr ∧ Below n₀ W wr)
    (fun i _ => zs.length - (intOf i).toNat)
  case atStart => exact ⟨0, Nat.zero_le _, rfl, h0, Below.refl _ _⟩
  case round =>
    obtain ⟨k, hk, rfl, hJs, hnx⟩ := hrel
    by_cases hlt : k < zs.length
    · have hcx := (hnx.cell (p := ⟨b, off + k, none⟩) hb).trans (hc k hlt)
      have htk : zs.take (k + 1) = zs.take k ++ [zs[k]] := List.take_succ_eq_append_getElem hlt
      generalize zs[k] = x at hcx htk
      obtain ⟨fn, tmps, assign, body, hy, hR⟩ := hY _ x wr hJs (by rw [List.length_take]; omega)
      gi_wp2
      refine hR.mono ?_
      rintro e W3 ⟨rfl, hJ3, hk3⟩
      gi_wp2
      go_roundw
      case rel => exact ⟨k + 1, by omega, by simp, by rw [htk]; exact hJ3, hnx.trans hk3⟩
      case measure => simp [intOf]; omega
    · obtain rfl : k = zs.length := by omega
      rw [List.take_length] at hJs
      gi_wp2
      go_end0
      exact ⟨⟨_, rfl⟩, hJs⟩
set_option maxRecDepth 100000 in
set_option maxHeartbeats 1000000 in
theorem values1_nil_in (n : Nat) (l Bs : Nat) (a : Option Addr) (cap : Nat) (J : List (List UInt8) → World → Prop) (W : World) (hBs : W.cell? ⟨Bs, 0, none⟩ = some (.slice a 0 cap)) (h0 : J [] W) :
    CallsIn Fence.wide n Tryz.prog 44 #[.func (.yield l) #[] #[], .pointer (some ⟨Bs, 0, none⟩)] W fun e W' => (∃ v, e = .returned v) ∧ J [] W' := by
  refine callsIn_of_wp Tryz.func44 rfl trivial ?_ rfl
  simp only [Tryz.ntmps44, List.size_toArray, List.length_cons, List.length_nil, Nat.reduceAdd, Nat.reduceSub, Array.replicate_succ, Array.replicate_zero, List.push_toArray, List.append_toArray, List.nil_append, List.cons_append]
  gi_wp2
  gi_loopw [7] (fun i wr => i = .int .i64 0 ∧ J [] wr) (fun _ _ => 0)
  case atStart => exact ⟨rfl, h0⟩
  case round =>
    obtain ⟨rfl, hJs⟩ := hrel
    gi_wp2
    go_end0
    exact ⟨⟨_, rfl⟩, hJs⟩
/-- The iterator's rounds at slices.AppendSeq: all of the texts come, one by one. -/
theorem values_all (n : Nat) (hn : 1 ≤ n) (l Bs n₀ : Nat) (A : Option Addr) (m cap : Nat) (zs : List ByteArray) (hz : m ≤ 1000000) (J : List (List UInt8) → World → Prop)
    (hY : ∀ pre x W, J pre W → pre.length < m → YieldAt Fence.wide (n - 1) Tryz.prog l #[encStr x] W fun e W' => e = .returned (.bool true) ∧ J (pre ++ [x]) W' ∧ Below n₀ W W')
    (W : World) (hBs : W.cell? ⟨Bs, 0, none⟩ = some (.slice A m cap)) (hr : Rs W A m zs) (hlow : ∀ b o, 0 < m → A = some ⟨b, o, none⟩ → b < n₀) (h0 : J [] W) :
    CallsIn Fence.wide n Tryz.prog 44 #[.func (.yield l) #[] #[], .pointer (some ⟨Bs, 0, none⟩)] W fun e W' => (∃ v, e = .returned v) ∧ J (keyT zs) W' := by
  have hlen := hr.len
  rcases Nat.eq_zero_or_pos m with rfl | hm
  · have hzs : keyT zs = [] := List.eq_nil_of_length_eq_zero (by rw [keyT_len]; exact hlen)
    rw [hzs]
    exact values1_nil_in n l Bs A cap J W hBs h0
  · obtain ⟨b, o, rfl, hb, hc⟩ := hr.keys hm
    have hkl : (keyT zs).length = m := by rw [keyT_len]; exact hlen
    have := values1_in n hn l Bs n₀ b o cap (keyT zs) (by omega) (hlow b o hm rfl) J (by rw [hkl]; exact hY) W (by rw [hkl]; exact hBs) hc h0
    exact this

set_option maxRecDepth 100000 in
set_option maxHeartbeats 2000000 in
theorem appendSeq_in (n : Nat) (hn : 2 ≤ n) (Bv : Nat) (A : Option Addr) (m cap : Nat) (zs : List ByteArray) (hm : m ≤ 1000000) (w : World) (hBv : w.cell? ⟨Bv, 0, none⟩ = some (.slice A m cap)) (hr : Rs w A m zs) :
    CallsIn Fence.wide n Tryz.prog 64 #[.slice none 0 0, .func (.func 44) #[] #[.pointer (some ⟨Bv, 0, none⟩)]] w fun e w' => ∃ v, e = .returned v ∧ w'.ownsRow w.heap.size 9 1 v zs.length ((keyT zs).map encStr) ∧ (v = .slice none 0 0 ↔ keyT zs = []) ∧ Below w.heap.size w w' := by
  have hml := hr.len
  have hBvl := World.block_lt_of_cell? w _ hBv
  have hne : 22 ≠ 9 := by decide
  refine callsIn_of_wp_marks Tryz.func64 rfl trivial ?_ rfl
  simp only [Tryz.ntmps64, List.size_toArray, List.length_cons, List.length_nil, Nat.reduceAdd, Nat.reduceSub, Array.replicate_succ, Array.replicate_zero, List.push_toArray, List.append_toArray, List.nil_append, List.cons_append]
  gi_wp2
  refine wpIn_rangeFunc ?_
  intro fn hfn
  obtain ⟨sv, hsv⟩ : ∃ sv, sv = Value.func (.func 44) #[] #[.pointer (some ⟨Bv, 0, none⟩)] := ⟨_, rfl⟩
  obtain ⟨W0, hW0⟩ : ∃ W0, w.alloc (.cells #[.slice none 0 0] 22) = W0 := ⟨_, rfl⟩
  have hs0 : W0.heap.size = w.heap.size + 1 := by rw [← hW0]; simp
  have hv0 : W0.heap[w.heap.size]? = some (.cells #[.slice none 0 0] 22 (0, 0)) := by rw [← hW0]; exact World.alloc_heap_new w _
  have hb0 : Below w.heap.size w W0 := by rw [← hW0]; exact (Below.refl _ w).alloc (Nat.le_refl _) _
  rw [hW0]
  obtain ⟨W1, hW1⟩ : ∃ W1, (W0.alloc (.deferred (some []))).alloc (.loop (AnyZ.apRec Tryz.txApp_ren fn sv w.heap.size W0.heap.size .ready none)) = W1 := ⟨_, rfl⟩
  have hold : ∀ k, k < W0.heap.size → W1.heap[k]? = W0.heap[k]? := fun k hk => by
    rw [← hW1]; exact (Below.heap_alloc _ _ k (by simp; omega)).trans (Below.heap_alloc _ _ k hk)
  have hb1 : Below w.heap.size w W1 := by rw [← hW1]; exact (hb0.alloc hb0.size _).alloc (by have := hb0.size; simp; omega) _
  have hs1 : W1.heap.size = W0.heap.size + 2 := by rw [← hW1]; simp
  have hM : AnyZ.ApAt Tryz.txApp_ren w fn sv w.heap.size (W0.heap.size + 1) W0.heap.size [] W1 :=
    ⟨⟨_, (hold w.heap.size (by omega)).trans hv0, ⟨rfl, .inl ⟨rfl, rfl⟩⟩, by simp⟩,
     by rw [← hW1]; have := World.alloc_heap_new (W0.alloc (.deferred (some []))) (.loop (AnyZ.apRec Tryz.txApp_ren fn sv w.heap.size W0.heap.size .ready none)); rwa [World.size_alloc] at this,
     by rw [← hW1]; exact (Below.heap_alloc _ _ _ (by simp)).trans (World.alloc_heap_new W0 _), hb1⟩
  refine ⟨W0.heap.size + 1, [{ target := .collected W0.heap.size, args := #[] }], W1, { target := .fn (.func 44) #[.pointer (some ⟨Bv, 0, none⟩)], args := #[.func (.yield (W0.heap.size + 1)) #[] #[]] }, W1, 44,
    #[.func (.yield (W0.heap.size + 1)) #[] #[]] ++ #[.pointer (some ⟨Bv, 0, none⟩)], W1, ?_, ?_, ?_, ?_, fun _ => (by omega), ?_⟩
  · rw [← hW1, hsv]; exact run_enterLoop_outer _ _ _ _ _
  · simp [resolve, go_sem]
  · intro f' hf'; trivial
  · simp [invoke, go_sem]
  · refine (values_all (n - 1) (by omega) (W0.heap.size + 1) Bv w.heap.size A m cap zs hm (AnyZ.ApAt Tryz.txApp_ren w fn sv w.heap.size (W0.heap.size + 1) W0.heap.size)
      (fun pre x W hJ hl => ?_) W1 ((hb1.cell (p := ⟨Bv, 0, none⟩) hBvl).trans hBv) (hr.below hb1) (fun b o h0 e => by
        obtain ⟨b', o', e', hb', _⟩ := hr.all h0
        rw [e] at e'; injection e' with e'; injection e' with e1 _; omega) hM).mono ?_
    · have := AnyZ.apYield { Tryz.txApp with } Fence.wide (n - 1 - 1) w fn hfn sv w.heap.size (W0.heap.size + 1) W0.heap.size (by omega) (by omega) (by omega) (Nat.le_refl _) (by omega) m (by unfold maxLen; omega) (by omega) pre x W hJ hl
      obtain ⟨fn', tmps', assign', body', hy, hR⟩ := this
      refine ⟨fn', tmps', assign', body', hy, hR.mono ?_⟩
      rintro e W' ⟨he, hJ', hk⟩
      have h1 := hJ.below
      have h2 := hJ'.below
      exact ⟨he, hJ', ⟨h2.os.trans h1.os.symm, h2.tape.trans h1.tape.symm, h2.output.trans h1.output.symm, hk.size, fun k hk2 => (h2.block k hk2).trans (h1.block k hk2).symm⟩⟩
    rintro e W2 ⟨⟨v0, rfl⟩, h2⟩
    obtain ⟨v, hv, hrow, hnil⟩ := h2.box
    have hend := run_endLoop (P := Tryz.prog) h2.L (by simp [AnyZ.apRec])
    obtain ⟨W3, hW3⟩ : ∃ W3, W2.putObj (W0.heap.size + 1) (.loop { AnyZ.apRec Tryz.txApp_ren fn sv w.heap.size W0.heap.size .ready none with state := .exhausted }) = W3 := ⟨_, rfl⟩
    rw [hW3] at hend
    have hg3 : W2.grownBy W3 (some (W0.heap.size + 1)) := by rw [← hW3]; exact grownBy_putObj_a _ _ _
    have hv3 : W3.heap[w.heap.size]? = some (.cells #[v] 22 (0, 0)) := by rw [← hW3]; exact (World.putObj_heap_other (by omega)).trans hv
    have hK3 : W3.heap[W0.heap.size]? = some (.deferred (some [])) := by rw [← hW3]; exact (World.putObj_heap_other (by omega)).trans h2.K
    have hrow3 := hrow.kept hg3 (ownsRow_ne_a hrow h2.L (fun cur e => by cases e))
    have hb3 : Below w.heap.size w W3 := h2.below.grown hg3 h2.below.size (fun k e => by cases e; omega)
    obtain ⟨hc3, hf3⟩ := cell_of_box_a hv3
    clear hW3
    refine ⟨none, W3, hend, ?_⟩
    gi_wp2
    rw [← hs0]
    refine ⟨by simp, .inl ⟨_, _, rfl, run_takeDeferred hK3, ?_⟩⟩
    have hfin := hrow3.kept (grownBy_putObj_a W3 W0.heap.size (.deferred none)) (ownsRow_ne_a hrow3 hK3 (fun cur e => by cases e))
    rw [keyT_len] at hfin
    exact ⟨_, results_tmp rfl _ _ _, v, rfl, hfin, hnil, hb3.grown (grownBy_putObj_a _ _ _) hb3.size (fun k e => by cases e; omega)⟩
set_option maxHeartbeats 1000000 in
theorem collect_in (n : Nat) (hn : 3 ≤ n) (Bv : Nat) (A : Option Addr) (m cap : Nat) (zs : List ByteArray) (hm : m ≤ 1000000) (w : World) (hBv : w.cell? ⟨Bv, 0, none⟩ = some (.slice A m cap)) (hr : Rs w A m zs) :
    CallsIn Fence.wide n Tryz.prog 42 #[.func (.func 44) #[] #[.pointer (some ⟨Bv, 0, none⟩)]] w fun e w' => ∃ v, e = .returned v ∧ w'.ownsRow w.heap.size 9 1 v zs.length ((keyT zs).map encStr) ∧ (v = .slice none 0 0 ↔ keyT zs = []) ∧ Below w.heap.size w w' := by
  have h1 : 1 ≤ n := by omega
  have hfA : Fence.wide.fn 64 := trivial
  refine callsIn_of_wp Tryz.func42 rfl trivial ?_ rfl
  simp only [Tryz.ntmps42, List.size_toArray, List.length_cons, List.length_nil, Nat.reduceAdd, Nat.reduceSub, Array.replicate_succ, Array.replicate_zero, List.push_toArray, List.append_toArray, List.nil_append, List.cons_append]
  gi_wp2_with (gi_at_call 64; refine (appendSeq_in (n - 1) (by omega) Bv A m cap zs hm w hBv hr).mono ?_; rintro e w' ⟨v, rfl, hrow, hnil, hb⟩)
  go_ret
  exact ⟨v, rfl, hrow, hnil, hb⟩
set_option maxHeartbeats 1000000 in
theorem sorted_in (n : Nat) (hn : 4 ≤ n) (Bv : Nat) (A : Option Addr) (m cap : Nat) (zs : List ByteArray) (hm : m ≤ 1000000) (w : World) (hBv : w.cell? ⟨Bv, 0, none⟩ = some (.slice A m cap)) (hr : Rs w A m zs) :
    CallsIn Fence.wide n Tryz.prog 26 #[.func (.func 44) #[] #[.pointer (some ⟨Bv, 0, none⟩)]] w fun e w' => ∃ v, e = .returned v ∧ w'.ownsRow w.heap.size 9 1 v zs.length (((keyT zs).mergeSort (fun x y => decide (x ≤ y))).map encStr) ∧ Below w.heap.size w w' := by
  have h1 : 1 ≤ n := by omega
  have hml := hr.len
  subst hml
  have hfC : Fence.wide.fn 42 := trivial
  have hfS : Fence.wide.fn 43 := trivial
  refine callsIn_of_wp Tryz.func26 rfl trivial ?_ rfl
  simp only [Tryz.ntmps26, List.size_toArray, List.length_cons, List.length_nil, Nat.reduceAdd, Nat.reduceSub, Array.replicate_succ, Array.replicate_zero, List.push_toArray, List.append_toArray, List.nil_append, List.cons_append]
  gi_wp2_with (gi_at_call 42; refine (collect_in (n - 1) (by omega) Bv A _ cap zs hm w hBv hr).mono ?_; rintro e W ⟨v, rfl, hrow, hnil, hb⟩)
  have hkl := keyT_len zs
  rcases hrow.2 with ⟨rfl, hz⟩ | ⟨gb, cap, cur, rfl, hbase, hgb, r1, r2, r3, r4⟩
  · have hss : keyT zs = [] := List.eq_nil_of_length_eq_zero (by rw [keyT_len]; exact hz)
    gi_wp2_with (gi_at_call 43; refine (callsIn_wide.2 (Tryz.slices_Sort_string_none none 0 W)).mono ?_; rintro e w' ⟨rfl, rfl⟩)
    go_ret
    exact ⟨.slice none 0 0, rfl, by rw [hss] at hrow ⊢; simpa using hrow, hb⟩
  · have hH : Holds encStr W gb 0 (keyT zs).toArray := holds_of_block hgb (by rw [← hkl] at r4; simpa using r4)
    have hgl : gb < W.heap.size := (Array.getElem?_eq_some_iff.1 hgb).1
    have cS := (callsIn_wide (n := n - 1)).2 (Tryz.slices_Sort_string gb 0 cap (keyT zs) W hH hgl (by omega))
    rw [hkl] at cS
    gi_wp2_with (gi_at_call 43; refine cS.mono ?_; rintro e w' ⟨rfl, nn, os, rfl⟩)
    go_ret
    have ho := ownsRow_sorted (n := nn) (os := os) (ss := keyT zs) (ts := (keyT zs).mergeSort fun x y => decide (x ≤ y)) (by simp) hbase hgb (by rw [hkl]; exact r1) r2 r3
    rw [hkl] at ho
    exact ⟨_, rfl, ho, hb.grown (grownBy_sorted _) hb.size (fun j hj => by cases hj; exact hbase)⟩
theorem below_putR {α : Type} [Inhabited α] {enc : α → Value} {B blk : Nat} {a w : World} (h : Below B a w) (hb : B ≤ blk) (q off : Nat) (d : Array α) : Below B a (putRow enc (Sort.ahead w q) blk off d) :=
  ⟨h.os, h.tape, h.output, by rw [size_putRow]; exact h.size, fun k hk => by
    have e : (putRow enc (Sort.ahead w q) blk off d).heap[k]? = w.heap[k]? := by
      simp only [putRow, mapBlock, Array.getElem?_modify]
      rw [if_neg (by omega)]
      rfl
    exact e.trans (h.block k hk)⟩
set_option maxHeartbeats 1000000 in
theorem compact_any (w : World) (base n : Nat) (v : Value) (z : List (List UInt8)) (hz : z.length = n) (hown : w.ownsRow base 9 1 v n (z.map encStr)) (hn : n ≤ 1000000) :
    Calls Tryz.prog 25 #[v] w fun e w' => ∃ G m c', e = .returned (.slice G m c') ∧ Rs w' G m ((Lib.compact z).map fun a => ⟨a.toArray⟩) ∧ m ≤ c' ∧ c' ≤ maxLen ∧ ∀ B a, Below B a w → B ≤ base → Below B a w' := by
  rcases hown.2 with ⟨rfl, h0⟩ | ⟨g, cap, cur, rfl, hbase, hgb, r1, r2, r3, r4⟩
  · subst h0
    have hz0 : z = [] := List.eq_nil_of_length_eq_zero hz
    subst hz0
    refine (Tryz.slices_Compact_string_empty none 0 w).mono ?_
    rintro e w' ⟨rfl, rfl⟩
    exact ⟨_, _, _, rfl, Rs.nil _ _, Nat.le_refl _, Nat.zero_le _, fun _ _ h _ => h⟩
  · subst hz
    have hH : Holds encStr w g 0 z.toArray := holds_of_block hgb (by simpa using r4)
    have hgl : g < w.heap.size := (Array.getElem?_eq_some_iff.1 hgb).1
    have hle : (Lib.compact z).length ≤ z.length := by
      unfold Lib.compact Lib.compactUpTo
      rw [List.length_map]
      exact Nat.le_trans (List.length_filter_le _ _) (by simp)
    refine (Tryz.slices_Compact_string g 0 cap z w hH (by omega) r1).mono ?_
    rintro e w' ⟨rfl, q, rfl⟩
    refine ⟨_, _, _, rfl, ?_, by omega, r2, fun B a hb hB => below_putR hb (Nat.le_trans hB hbase) _ _ _⟩
    obtain ⟨K, hK⟩ : ∃ K : List (List UInt8), K = Lib.compact z := ⟨_, rfl⟩
    rw [← hK] at hle ⊢
    have hsz : ((K ++ List.replicate (z.length - K.length) []).toArray).size = z.toArray.size := by simp; omega
    have hh := holds_putRow encStr (Sort.ahead w q) g 0 z.toArray ((K ++ List.replicate (z.length - K.length) []).toArray) (holds_ahead encStr w q g 0 _ hH) hsz
    refine ⟨by simp, fun _ => ⟨g, 0, rfl, by rw [size_putRow]; exact hgl, fun j u hu => ?_⟩⟩
    have hj : j < K.length := by
      rcases Nat.lt_or_ge j K.length with h | h
      · exact h
      · rw [List.getElem?_eq_none (by simpa using h)] at hu; cases hu
    rw [(hh j (by simp; omega)).1]
    rw [List.map_map, List.getElem?_map, List.getElem?_eq_getElem hj] at hu
    injection hu with hu
    rw [← hu, getElem!_pos _ j (by simp; omega)]
    simp [List.getElem_append_left hj, encStr]
set_option maxHeartbeats 1000000 in
theorem Values_any (w : World) (A : Option Addr) (n c : Nat) :
    Calls Tryz.prog 27 #[.slice A n c] w fun e w' => e = .returned (.func (.func 44) #[] #[.pointer (some ⟨w.heap.size, 0, none⟩)]) ∧ w' = w.alloc (.cells #[.slice A n c] 22) := by
  go_enter Tryz.func27, Tryz.ntmps27
  go_wp2_with fail
  go_ret
  exact ⟨rfl, rfl⟩
set_option maxRecDepth 100000 in
set_option maxHeartbeats 1000000 in
theorem Words_any (w : World) (A : Option Addr) (n c : Nat) (l : List ByteArray) (hr : Rs w A n l) (hn : n ≤ 1000000) :
    Calls Tryz.prog 12 #[.slice A n c] w fun e w' => ∃ G m c' W, e = .returned (.slice G m c') ∧ Rs w' G m W ∧ IsWords W l ∧ m ≤ n ∧ m ≤ c' ∧ c' ≤ maxLen ∧ Below w.heap.size w w' := by
  have HR := Lib.hid hr
  have hlen := hr.len
  clear hr
  go_enter Tryz.func12, Tryz.ntmps12
  go_wp2_with fail
  refine (Values_any w A n c).mono ?_; rintro e w1 ⟨rfl, hw1⟩
  have hb1 : Below w.heap.size w w1 := hw1 ▸ (Below.refl w.heap.size w).alloc (Nat.le_refl _) _
  have hc1 : w1.cell? ⟨w.heap.size, 0, none⟩ = some (.slice A n c) := by rw [hw1]; exact cell_one_new w (.slice A n c) 22 0 _ rfl
  have HB1 := Lib.hid hb1
  have HS := Lib.hid (callsIn_wide.1 (sorted_in 6 (by omega) w.heap.size A n c l hn w1 hc1 (HR.out.below hb1)))
  clear hw1 hb1 hc1
  go_wp2_with fail
  refine HS.out.mono ?_; rintro e w2 ⟨v, rfl, hown, hb2⟩
  have HB2 := Lib.hid (on HB1.out hb2)
  rw [hlen] at hown
  have HC := Lib.hid (compact_any w2 _ n v _ (by rw [List.length_mergeSort, keyT_len, hlen]) hown hn)
  clear hown hb2
  go_wp2_with fail
  refine HC.out.mono ?_; rintro e w3 ⟨G, m, c', rfl, hrs, hmc, hcm, hbw⟩
  have HRS := Lib.hid hrs
  have HB3 := Lib.hid (hbw _ _ HB2.out HB1.out.size)
  clear hrs hbw
  have HW : Hid (IsWords ((Lib.compact ((keyT l).mergeSort (fun x y => decide (x ≤ y)))).map fun a => ⟨a.toArray⟩) l) := Lib.hid (words_of_sorted l)
  go_wp2_with fail
  go_ret
  exact ⟨_, _, _, _, rfl, HRS.out, HW.out, by have h1 := HW.out.len; have h2 := HRS.out.len; omega, hmc, hcm, HB3.out⟩
end Go.Proofs.YtmejoococajikaaGreat

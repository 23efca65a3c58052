/- Joined texts: TxPut. Each has its own head line. No condition beyond those that its theorems state. -/
import Derived.Laws.ResultCell
import Derived.Test.YtmejoococajikaaGreatJ32
import Derived.Test.YtmejoococajikaaGreatJ29
import Derived.Test.YtmejoococajikaaGreatJ33
import Derived.Test.YtmejoococajikaaGreatJ30
import Derived.Test.YtmejoococajikaaGreatJ28
set_option linter.unusedVariables false

/- texts.Put. -/
namespace Go.Proofs.YtmejoococajikaaGreat
open Go.RowKit

/-- A column of texts. -/
structure ColT where
  many : Int
  enc : Int
  texts : Int
  st : List (Int × List Int)
def bigT (l : List ByteArray) : Bool := l.any fun s => decide (300 < s.size)
/-- What texts are laid down as (W: their words). -/
def putT (l W : List ByteArray) : ColT × Int :=
  if bigT l = true then (⟨0, 0, 0, []⟩, 3)
  else if l.length < 2 * W.length then (⟨l.length, 1, 0, [(2, catT l), (3, (putGl (lensT l) false).1)]⟩, 0)
  else (⟨l.length, 2, W.length, [(2, (putGl (placesT W l) false).1), (3, (putGl (lensT W) false).1), (4, catT W)]⟩, 0)
/-- A column is handed back. -/
def ColOut (w : World) (c : ColT) (er : Int) (e : Ending) (w' : World) : Prop :=
  ∃ A n k, e = .returned (.tuple #[.agg #[.int .i64 c.many, .int .i64 c.enc, .int .i64 c.texts, .slice A n k], .int .i64 er]) ∧ StAt w' A n c.st ∧ n ≤ k ∧ k ≤ maxLen ∧ Below w.heap.size w w'

theorem big_any (W : World) (x : ByteArray) : FnGives Tryz.prog 18 #[] #[.string x] (.bool (decide (300 < x.size))) W := by
  show Calls Tryz.prog 18 #[.string x] W _
  obtain ⟨b, hb⟩ : ∃ b, decide (300 < x.size) = b := ⟨_, rfl⟩
  have t1 : decide ((300 : Int) < x.size) = b := by rw [← hb]; by_cases h : 300 < x.size <;> simp [h] <;> omega
  rw [hb]
  clear hb
  go_enter Tryz.func18, Tryz.ntmps18
  go_wp2_with fail
  go_ret
  exact ⟨rfl, 0, rfl⟩
theorem contains_any (w : World) (A : Option Addr) (n c : Nat) (l : List ByteArray) (hr : Rs w A n l) (hn : n ≤ 1000000) :
    Calls Tryz.prog 17 #[.slice A n c, .func (.func 18) #[] #[]] w fun e w' => e = .returned (.bool (bigT l)) ∧ ∃ q, w' = w.drewN q := by
  have hl := hr.len
  rcases Nat.eq_zero_or_pos n with rfl | h0
  · obtain rfl : l = [] := List.eq_nil_of_length_eq_zero hl
    refine (Tryz.slices_ContainsFunc_empty (α := ByteArray) A c _ w).mono ?_
    rintro e w' ⟨rfl, rfl⟩
    exact ⟨rfl, 0, rfl⟩
  · obtain ⟨b, o, rfl, hb, hc⟩ := hr.all h0
    refine (Tryz.slices_ContainsFunc Value.string (fun s => decide (300 < s.size)) 18 #[] (enters_of Tryz.func18 (by kernel_rfl) rfl) b o n c l w (fun W x _ => big_any W x) (by omega) (by omega) (fun j hj => by rw [hc j hj, getElem!_pos l j hj])).mono ?_
    rintro e w' ⟨rfl, q, rfl⟩
    refine ⟨?_, q, rfl⟩
    rw [List.take_of_length_le (by omega)]
    rfl
theorem heap_set {w : World} {B : Nat} {cs : Array Value} {t : TypeId} {z : Nat × Nat} (h : w.heap[B]? = some (.cells cs t z)) (j : Nat) (v : Value) : (w.setCell ⟨B, j, none⟩ v).heap[B]? = some (.cells (cs.setIfInBounds j v) t z) := by
  simp only [World.setCell, Array.getElem?_modify, if_pos, h]
  rfl
theorem froz_blk {w : World} {B : Nat} {cs : Array Value} {t : TypeId} (h : w.heap[B]? = some (.cells cs t (0, 0))) (j : Nat) : w.frozen? ⟨B, j, none⟩ = false := by simp [World.frozen?, h]
/-- The world behind a store of a column. -/
def colSet (w : World) (B : Nat) (v0 v1 v2 v3 : Value) : World := (((w.setCell ⟨B, 0, none⟩ v0).setCell ⟨B, 1, none⟩ v1).setCell ⟨B, 2, none⟩ v2).setCell ⟨B, 3, none⟩ v3
theorem colSet_heap {w : World} {B : Nat} {z0 z1 z2 z3 : Value} {t : TypeId} (h : w.heap[B]? = some (.cells #[z0, z1, z2, z3] t (0, 0))) (v0 v1 v2 v3 : Value) :
    (colSet w B v0 v1 v2 v3).heap[B]? = some (.cells #[v0, v1, v2, v3] t (0, 0)) := heap_set (heap_set (heap_set (heap_set h 0 v0) 1 v1) 2 v2) 3 v3
theorem colSet_below {w0 w : World} {B base : Nat} (h : Below base w0 w) (hB : base ≤ B) (v0 v1 v2 v3 : Value) : Below base w0 (colSet w B v0 v1 v2 v3) :=
  (((h.setCell (p := ⟨B, 0, none⟩) hB v0).setCell (p := ⟨B, 1, none⟩) hB v1).setCell (p := ⟨B, 2, none⟩) hB v2).setCell (p := ⟨B, 3, none⟩) hB v3
theorem colSet_facts {w : World} {B : Nat} {z0 z1 z2 z3 : Value} {t : TypeId} (h : w.heap[B]? = some (.cells #[z0, z1, z2, z3] t (0, 0))) (v0 v1 v2 : Value) :
    (w.cell? ⟨B, 0, none⟩ = some z0 ∧ w.frozen? ⟨B, 0, none⟩ = false) ∧ ((w.setCell ⟨B, 0, none⟩ v0).cell? ⟨B, 1, none⟩ = some z1 ∧ (w.setCell ⟨B, 0, none⟩ v0).frozen? ⟨B, 1, none⟩ = false) ∧
    (((w.setCell ⟨B, 0, none⟩ v0).setCell ⟨B, 1, none⟩ v1).cell? ⟨B, 2, none⟩ = some z2 ∧ ((w.setCell ⟨B, 0, none⟩ v0).setCell ⟨B, 1, none⟩ v1).frozen? ⟨B, 2, none⟩ = false) ∧
    ((((w.setCell ⟨B, 0, none⟩ v0).setCell ⟨B, 1, none⟩ v1).setCell ⟨B, 2, none⟩ v2).cell? ⟨B, 3, none⟩ = some z3 ∧ (((w.setCell ⟨B, 0, none⟩ v0).setCell ⟨B, 1, none⟩ v1).setCell ⟨B, 2, none⟩ v2).frozen? ⟨B, 3, none⟩ = false) := by
  have h1 := heap_set h 0 v0
  have h2 := heap_set h1 1 v1
  have h3 := heap_set h2 2 v2
  exact ⟨⟨cell_blkT h 0, froz_blk h 0⟩, ⟨cell_blkT h1 1, froz_blk h1 1⟩, ⟨cell_blkT h2 2, froz_blk h2 2⟩, ⟨cell_blkT h3 3, froz_blk h3 3⟩⟩
theorem wf_natT {j : Nat} (h : j ≤ 1000000) : (Lit.int .i64 (j : Int)).wf = true := by
  show (decide (IntKind.i64.min ≤ (j : Int)) && decide ((j : Int) ≤ IntKind.i64.max)) = true
  rw [show IntKind.i64.min = -9223372036854775808 from by decide, show IntKind.i64.max = 9223372036854775807 from by decide, decide_eq_true (by omega), decide_eq_true (by omega)]
  rfl
theorem colSet_other {w : World} {B g : Nat} (v0 v1 v2 v3 : Value) (h : g ≠ B) : (colSet w B v0 v1 v2 v3).heap[g]? = w.heap[g]? := by
  unfold colSet
  rw [Below.heap_setCell _ _ _ _ h, Below.heap_setCell _ _ _ _ h, Below.heap_setCell _ _ _ _ h, Below.heap_setCell _ _ _ _ h]
theorem colSet_size (w : World) (B : Nat) (v0 v1 v2 v3 : Value) : (colSet w B v0 v1 v2 v3).heap.size = w.heap.size := by simp [colSet, World.setCell]
theorem Sl.col {w : World} {A : Option Addr} {n c : Nat} {l : List Int} (h : Sl w .u8 A n c l) {B : Nat} {a b d : Int} {x : Option Addr} {y z : Nat} {t : TypeId} {f : Nat × Nat}
    (hB : w.heap[B]? = some (.cells #[.int .i64 a, .int .i64 b, .int .i64 d, .slice x y z] t f)) (v0 v1 v2 v3 : Value) : Sl (colSet w B v0 v1 v2 v3) .u8 A n c l :=
  ⟨h.1.of_heap (by rw [colSet_size]; exact Nat.le_refl _) fun g o h0 e => colSet_other _ _ _ _ (h.1.not_col hB g o h0 e), h.2⟩
theorem map_far {w : World} {b : Nat} {es : Array MapEntry} {k : Nat} (hm : w.heap[b]? = some (.map es k)) {A : Option Addr} {n : Nat} {l : List ByteArray} (h : Rs w A n l) : ∀ g o, 0 < n → A = some ⟨g, o, none⟩ → g ≠ b := fun g o h0 e => by
  obtain ⟨g', o', e', _, hc⟩ := h.all h0
  rw [e] at e'
  injection e' with e'
  injection e' with e1 e2
  subst e1 e2
  rintro rfl
  have := hc 0 (by rw [h.len]; exact h0)
  simp [World.cell?, hm] at this
set_option maxRecDepth 100000 in
set_option maxHeartbeats 4000000 in
theorem PutT_any (w : World) (A : Option Addr) (n c : Nat) (l W : List ByteArray) (hr : Rs w A n l) (hc : n ≤ c) (hn : n ≤ 300) (hs : ∀ s ∈ l, s.size ≤ 310) (hW : IsWords W l) (hz : (putGl (placesT W l) false).2 = 0) :
    Calls Tryz.prog 8 #[.slice A n c] w (ColOut w (putT l W).1 (putT l W).2) := by
  have HR := Lib.hid hr
  have HL := Lib.hid hr.len
  obtain ⟨bg, hbg⟩ : ∃ bg, bigT l = bg := ⟨_, rfl⟩
  have HG := Lib.hid hbg
  obtain ⟨wa, hwa⟩ : ∃ wa, wa = w.alloc (.cells #[.int .i64 0, .int .i64 0, .int .i64 0, .slice none 0 0] 27) := ⟨_, rfl⟩
  have HBA : Hid (Below w.heap.size w wa) := Lib.hid (hwa ▸ (Below.refl w.heap.size w).alloc (Nat.le_refl _) _)
  have HBK : Hid (wa.heap[w.heap.size]? = some (.cells #[.int .i64 0, .int .i64 0, .int .i64 0, .slice none 0 0] 27 (0, 0))) := Lib.hid (hwa ▸ newBlkT w _)
  have hwz : w.heap.size < wa.heap.size := by rw [hwa]; simp
  have hmm := @run_makeMap Tryz.prog
  clear hr hbg
  go_enter Tryz.func8, Tryz.ntmps8
  go_wp2_with fail
  rw [← hwa]
  clear hwa
  refine (contains_any wa A n c l (HR.out.below HBA.out) (by omega)).mono ?_; rintro e w1 ⟨rfl, q1, hq1⟩
  rw [HG.out]
  have HB1 : Hid (Below w.heap.size w w1) := Lib.hid (hq1 ▸ bdN HBA.out q1)
  have HK1 : Hid (w1.heap[w.heap.size]? = some (.cells #[.int .i64 0, .int .i64 0, .int .i64 0, .slice none 0 0] 27 (0, 0))) := Lib.hid (hq1 ▸ HBK.out)
  have hz1 : w.heap.size < w1.heap.size := by rw [hq1]; exact hwz
  clear hq1 HBA HBK hwz
  cases bg
  · have t1 : decide (4096 < n) = false := decide_eq_false (by omega)
    have hlW := hW.len
    have HSW : Hid (∀ s ∈ W, s.size ≤ 310) := Lib.hid fun s h => hs s ((hW.mem s).1 h)
    have HW := Lib.hid hW
    have HOM : Hid ((w1.alloc (.map #[] 0)).ownsMap Tryz.prog 9 (plainElem Tryz.prog 3) w1.heap.size 0 (datW (zipW W 0))) := Lib.hid (World.ownsMap_made w1 _ _ _)
    have HB2 := Lib.hid (HB1.out.alloc (by omega) (.map #[] 0))
    have HK2 : Hid ((w1.alloc (.map #[] 0)).heap[w.heap.size]? = some (.cells #[.int .i64 0, .int .i64 0, .int .i64 0, .slice none 0 0] 27 (0, 0))) := Lib.hid ((Below.heap_alloc _ _ _ hz1).trans HK1.out)
    obtain ⟨mb, hmb⟩ : ∃ mb, mb = w1.heap.size := ⟨_, rfl⟩
    obtain ⟨w2, hw2⟩ : ∃ w2, w2 = w1.alloc (.map #[] 0) := ⟨_, rfl⟩
    have hz2 : w2.heap.size = mb + 1 := by rw [hw2, hmb]; simp
    go_wp2_with fail
    rw [← hw2] at HOM HB2 HK2 ⊢
    rw [← hmb] at HOM hz1 ⊢
    clear hw2 hmb hW
    refine (Words_any w2 A n c l (HR.out.below HB2.out) (by omega)).mono ?_; rintro e w3 ⟨G, m, c', W', rfl, hrs, hW', hmn, hmc, hcm, hb3⟩
    obtain rfl : W' = W := hW'.unique HW.out
    have HRW := Lib.hid hrs
    have HB3 := Lib.hid (on HB2.out hb3)
    have HK3 : Hid (w3.heap[w.heap.size]? = some (.cells #[.int .i64 0, .int .i64 0, .int .i64 0, .slice none 0 0] 27 (0, 0))) := Lib.hid ((hb3.block _ (by omega)).trans HK2.out)
    have HOM3 : Hid (w3.ownsMap Tryz.prog 9 (plainElem Tryz.prog 3) mb 0 (datW (zipW W' 0))) := Lib.hid (HOM.out.kept (row := none) ⟨hb3.os, hb3.tape, hb3.output, hb3.size, fun k hk _ => hb3.block k hk⟩ (by simp))
    have hWm := hrs.len
    have hz3 := hb3.size
    have HFAR : Hid (∀ g o, 0 < m → G = some ⟨g, o, none⟩ → g ≠ mb) := Lib.hid (by
      obtain ⟨es, clock, h, _⟩ := HOM3.out
      exact map_far h hrs)
    have HALLW := Lib.hid (fun h0 => hrs.all h0)
    clear hrs hW' hb3 HOM HB2 HK2 HK1 HB1
    go_wp2_with fail
    go_loopg [28] m (fun gg v wr => ∃ j : Nat, v = .int .i64 j ∧ j ≤ m ∧ m - j ≤ gg ∧ Hid (wr.ownsMap Tryz.prog 9 (plainElem Tryz.prog 3) mb j (datW (zipW W' j))) ∧ Hid (w3.grownBy wr (some mb)))
    case atStart => exact ⟨0, rfl, by omega, by omega, HOM3, Lib.hid ⟨rfl, rfl, rfl, Nat.le_refl _, fun _ _ _ => rfl⟩⟩
    case round =>
    obtain ⟨j, rfl, hjm, hgg, hom, hgr⟩ := hrel
    by_cases hlt : j < m
    · have t2 : decide (j < m) = true := decide_eq_true hlt
      obtain ⟨b, o, rfl, hbb, hcw⟩ := HALLW.out (by omega)
      have hj : j < W'.length := by omega
      have hfar := HFAR.out b o (by omega) rfl
      have k1 := (World.cell?_of_block (hgr.out.block b hbb (fun e => hfar (by injection e)))).trans (hcw j hj)
      have hxs := HSW.out _ (List.getElem_mem hj)
      have HLOW := Lib.hid (zipW_low HW.out.up hj)
      have HSTEP := Lib.hid (zipW_step hj)
      have hwf : (Lit.int .i64 (j : Int)).wf = true := wf_natT (by omega)
      have HWF := Lib.hid (plainElem_int (H := Value) Tryz.underlying3 hwf)
      clear hcw hwf
      generalize W'[j] = x at k1 hxs HLOW HSTEP
      go_wp2_with (at_mapUpdate; refine wpList_mapUpdate_in _ rfl _ _ _ _ rfl 9 3 keyed_t Tryz.underlying43 (plainElem Tryz.prog 3) mb j (datW (zipW W' j)) rfl hom.out (by unfold maxLen; omega) _ _ _ rfl rfl (key_ofT (by unfold maxLen; omega)) (.lit (.int .i64 (j : Int))) [] HWF.out ?_; intro w5 ho5 ht5)
      rw [datW_put _ _ _ HLOW.out, ← HSTEP.out] at ho5
      have HO5 := Lib.hid ho5
      have HG5 := Lib.hid (hgr.out.trans ht5.grown)
      clear ho5 ht5
      go_wp2_with fail
      go_roundg (m - (j + 1))
      case measure => omega
      case rel => exact ⟨j + 1, by go_num, by omega, by omega, HO5, HG5⟩
    have t2 : decide (j < m) = false := decide_eq_false hlt
    obtain rfl : j = m := by omega
    have HB5 : Hid (Below w.heap.size w wr) := Lib.hid (HB3.out.grown hgr.out (by omega) (fun k e => by injection e with e; omega))
    have HK5 : Hid (wr.heap[w.heap.size]? = some (.cells #[.int .i64 0, .int .i64 0, .int .i64 0, .slice none 0 0] 27 (0, 0))) := Lib.hid ((hgr.out.block _ (by omega) (fun e => by injection e with e; omega)).trans HK3.out)
    have HRW5 : Hid (Rs wr G j W') := Lib.hid (by
      rcases Nat.eq_zero_or_pos j with h | h
      · have h0 : W' = [] := List.eq_nil_of_length_eq_zero (by omega)
        rw [h, h0]; exact Rs.nil _ _
      · exact HRW.out.grown hgr.out (fun g b o e1 e2 => by injection e1 with e1; rw [← e1]; exact (HFAR.out b o h e2).symm))
    have HR5 := Lib.hid (HR.out.below HB5.out)
    have hz5 : w.heap.size < wr.heap.size := by have := hgr.out.size; omega
    have hle : j ≤ W'.length := by omega
    clear HALLW HFAR HRW HK3 HB3 HOM3 hgr hlt
    by_cases hsh : n < 2 * j
    · have t3 : decide ((n : Int) < 2 * (j : Int)) = true := decide_eq_true (by omega)
      go_wp2_with (at_len; refine wpList_len_own _ rfl _ _ rfl 9 3 Tryz.underlying43 (plainElem Tryz.prog 3) mb j (datW (zipW W' j)) rfl hom.out ?_; rw [datW_size, zipW_len _ _ hle])
      obtain ⟨r, er, hrl⟩ : ∃ r er, putGl (lensT l) false = (r, er) := ⟨_, _, rfl⟩
      have HP : Hid (putT l W' = (⟨n, 1, 0, [(2, catT l), (3, r)]⟩, 0)) := Lib.hid (by unfold putT; rw [HG.out, if_neg (by simp), HL.out, if_pos (by omega), hrl])
      have HRL := Lib.hid hrl
      have HSZ : Hid (∀ s ∈ l, s.size ≤ 1000) := Lib.hid fun s h => Nat.le_trans (hs s h) (by omega)
      clear hrl
      refine (join_any wr A n c l HR5.out hc (by omega) HSZ.out).mono ?_; rintro e w6 ⟨s, rfl, hbs, hss, hb6⟩
      have kc := conv_bytes w6 s
      have hb6' := hb6.trans ((toB_below w6 s).mono hb6.size)
      have HB6 := Lib.hid (on HB5.out hb6')
      have HK6 : Hid ((toB w6 s).heap[w.heap.size]? = some (.cells #[.int .i64 0, .int .i64 0, .int .i64 0, .slice none 0 0] 27 (0, 0))) := Lib.hid ((hb6'.block _ hz5).trans HK5.out)
      have HR6 := Lib.hid (HR5.out.below hb6')
      have HS6 : Hid (Sl (toB w6 s) .u8 (some ⟨w6.heap.size, 0, none⟩) s.size (capB w6 s) (catT l)) := Lib.hid (hbs ▸ toB_sl w6 s (by unfold maxLen; omega))
      have hz6 : w.heap.size < (toB w6 s).heap.size := Nat.lt_of_lt_of_le hz5 hb6'.size
      clear hb6 hb6' hbs
      go_wp2_with fail
      refine (lengths_any (toB w6 s) A n c l HR6.out (by omega) (fun s h => Nat.le_trans (HSZ.out s h) (by omega)) r er HRL.out).mono ?_; rintro e w7 ⟨G7, n7, c7, rfl, hs7, hb7⟩
      obtain ⟨ob, hob⟩ : ∃ ob, ob = Obj.cells #[.int .i64 2, .slice (some ⟨w6.heap.size, 0, none⟩) s.size (capB w6 s), .int .i64 3, .slice G7 n7 c7] 40 := ⟨_, rfl⟩
      have HB7 := Lib.hid (on HB6.out hb7)
      have hz7 : w.heap.size < w7.heap.size := Nat.lt_of_lt_of_le hz6 hb7.size
      have hal := (Below.refl w7.heap.size w7).alloc (Nat.le_refl _) ob
      have HB8 := Lib.hid (on HB7.out hal)
      have hk8 : (w7.alloc ob).heap[w.heap.size]? = some (.cells #[.int .i64 0, .int .i64 0, .int .i64 0, .slice none 0 0] 27 (0, 0)) := (hal.block _ hz7).trans ((hb7.block _ hz6).trans HK6.out)
      have HK8 := Lib.hid hk8
      have HS1 := Lib.hid ((HS6.out.below hb7).below hal)
      have HS2 := Lib.hid (hs7.below hal)
      have HSB : Hid ((w7.alloc ob).heap[w7.heap.size]? = some ob) := Lib.hid (newBlkT w7 ob)
      obtain ⟨⟨c0, f0⟩, ⟨c1, f1⟩, ⟨c2, f2⟩, ⟨c3, f3⟩⟩ := colSet_facts hk8 (.int .i64 n) (.int .i64 1) (.int .i64 0)
      have HF := Lib.hid (colSet_heap hk8 (.int .i64 n) (.int .i64 1) (.int .i64 0) (.slice (some ⟨w7.heap.size, 0, none⟩) 2 2))
      rw [hob] at c0 f0 c1 f1 c2 f2 c3 f3
      have HZ7 := Lib.hid hz7
      clear hal hb7 hs7 hk8 kc hz7 hz6 hz5
      go_wp2_with fail
      subst hob
      refine bodyPost_ret (v := .tuple #[.agg #[.int .i64 n, .int .i64 1, .int .i64 0, .slice (some ⟨w7.heap.size, 0, none⟩) 2 2], .int .i64 0]) ?_ rfl ?_
      · rw [results_cell_tmp rfl]
        have d0 := cell_blkT HF.out 0
        have d1 := cell_blkT HF.out 1
        have d2 := cell_blkT HF.out 2
        have d3 := cell_blkT HF.out 3
        unfold colSet at d0 d1 d2 d3
        go_simp
      · rw [HP.out]
        refine ⟨_, _, _, rfl, ?_, Nat.le_refl _, by unfold maxLen; omega, colSet_below HB8.out (Nat.le_refl _) _ _ _ _⟩
        have hsb := (colSet_other (B := w.heap.size) (.int .i64 n) (.int .i64 1) (.int .i64 0) (.slice (some ⟨w7.heap.size, 0, none⟩) 2 2) (show w7.heap.size ≠ w.heap.size from by have := HZ7.out; omega)).trans HSB.out
        exact stAt_of (S := [(2, catT l), (3, r)]) hsb (fun i hi => by
          have hi2 : i = 0 ∨ i = 1 := by simp at hi; omega
          rcases hi2 with rfl | rfl
          · exact ⟨rfl, _, _, _, rfl, HS1.out.col HK8.out _ _ _ _⟩
          · exact ⟨rfl, _, _, _, rfl, HS2.out.col HK8.out _ _ _ _⟩)
    · have t3 : decide ((n : Int) < 2 * (j : Int)) = false := decide_eq_false (by omega)
      go_wp2_with (at_len; refine wpList_len_own _ rfl _ _ rfl 9 3 Tryz.underlying43 (plainElem Tryz.prog 3) mb j (datW (zipW W' j)) rfl hom.out ?_; rw [datW_size, zipW_len _ _ hle])
      obtain ⟨wm, rfl⟩ : ∃ wm, wm = wr := ⟨_, rfl⟩
      have HHZ5 := Lib.hid hz5
      have HMEM : Hid (∀ s ∈ l, s ∈ W') := Lib.hid fun s h => (HW.out.mem s).2 h
      have HPI := Lib.hid (placesT_i64 HMEM.out (by omega : W'.length ≤ 1000000))
      have HPL := Lib.hid (placesT_len W' l)
      have HALLL := Lib.hid (fun h0 => HR5.out.all h0)
      have HOA : Hid (wm.ownsRow wm.heap.size 3 1 (.slice none 0 0) 0 (((placesT W' l).take 0).map (Value.int .i64))) := Lib.hid ⟨by simp, .inl ⟨rfl, rfl⟩⟩
      have HZI : Hid (∀ v : World, (zeroValue 3).run Tryz.prog v = .ok (.int .i64 0) v) := Lib.hid (fun v => Tryz.zeroValue3 v)
      go_loopg [9, 56] n (fun gg v9 v wr => ∃ i : Nat, v = .int .i64 i ∧ i ≤ n ∧ n - i ≤ gg ∧ Hid (wr.ownsRow wm.heap.size 3 1 v9 i (((placesT W' l).take i).map (Value.int .i64))) ∧ Hid (Below wm.heap.size wm wr))
      case atStart => exact ⟨0, rfl, by omega, by omega, HOA, Lib.hid (Below.refl _ _)⟩
      case round =>
      obtain ⟨i, rfl, hin, hgi, hoa, hbv⟩ := hrel
      obtain ⟨GA, cA, hGA⟩ := own_form hoa.out
      subst hGA
      have hzv := hbv.out.size
      have hom5 : wr.ownsMap Tryz.prog 9 (plainElem Tryz.prog 3) mb j (datW (zipW W' j)) := hom.out.kept (row := none) ⟨hbv.out.os, hbv.out.tape, hbv.out.output, hbv.out.size, fun k hk _ => hbv.out.block k hk⟩ (by simp)
      have HOM5 := Lib.hid hom5
      clear hom5
      by_cases hlt : i < n
      · have t4 : decide (i < n) = true := decide_eq_true hlt
        obtain ⟨b, o, rfl, hbb, hcl⟩ := HALLL.out (by omega)
        have hi : i < l.length := by have := HL.out; omega
        have k1 := (hbv.out.cell (p := ⟨b, o + i, none⟩) hbb).trans (hcl i hi)
        have hxs := hs _ (List.getElem_mem hi)
        have HXM := Lib.hid (HMEM.out _ (List.getElem_mem hi))
        have HPS : Hid ((placesT W' l).take (i + 1) = (placesT W' l).take i ++ [(idxT W' l[i] : Int)]) := Lib.hid (by
          rw [List.take_succ_eq_append_getElem (by rw [HPL.out]; exact hi)]
          simp [placesT])
        generalize l[i] = x at k1 hxs HXM HPS
        have HAT : Hid ((datW (zipW W' j)).atKey (keyL x) (.lit (.int .i64 0)) = .lit (.int .i64 (idxT W' x : Int))) := Lib.hid (by
          rw [datW_at, show j = W'.length from by omega, zipW_find HW.out.up HXM.out])
        clear hcl
        go_wp2_with (first
          | (at_lookup; refine wpList_lookup_own_int _ rfl _ _ _ rfl 9 3 .i64 keyed_t Tryz.underlying43 Tryz.underlying3 (HZI.out _) mb j (datW (zipW W' j)) rfl HOM5.out _ _ rfl (key_ofT (by unfold maxLen; omega)) ?_; intro cc hcc _
             have hcc2 := hcc.symm.trans HAT.out
             injection hcc2 with hcc2
             injection hcc2 with _ hcc2
             subst hcc2
             have HOB := Lib.hid (Rd.one wr (.int .i64 (idxT W' x : Int)) 3)
             have HO24 := Lib.hid (own_below hoa.out ((Below.refl wr.heap.size wr).alloc (Nat.le_refl _) (.cells #[.int .i64 (idxT W' x : Int)] 3))))
          | (at_builtin; refine wpList_i64 _ rfl (.tmp 60) (.tmp 64) rfl wm.heap.size _ i _ rfl HO24.out _ 1 1 [(idxT W' x : Int)] rfl HOB.out (by omega) (by simp; omega) ?_; intro G4 c4 w4 ho4 hg4 _))
        have HB4 := Lib.hid (push_ hbv.out (Nat.le_refl _) hoa.out hg4)
        rw [← HPS.out] at ho4
        have HO4 := Lib.hid ho4
        clear hcc ho4 hg4
        go_wp2_with fail
        go_roundg (n - (i + 1))
        case measure => omega
        case rel => exact ⟨i + 1, by go_num, by omega, by omega, HO4, HB4⟩
      have t4 : decide (i < n) = false := decide_eq_false hlt
      obtain rfl : i = n := by omega
      have hcapA := own_cap hoa.out
      have hri := Ri.of_own hoa.out
      rw [show (placesT W' l).take i = placesT W' l from List.take_of_length_le (by have := HL.out; have := HPL.out; omega)] at hri
      have HRI := Lib.hid hri
      obtain ⟨r1, hr1⟩ : ∃ r1, putGl (placesT W' l) false = (r1, 0) := ⟨_, Prod.ext rfl hz⟩
      have HR1 := Lib.hid hr1
      obtain ⟨r2, er2, hr2⟩ : ∃ r2 er2, putGl (lensT W') false = (r2, er2) := ⟨_, _, rfl⟩
      have HR2 := Lib.hid hr2
      have HP : Hid (putT l W' = (⟨i, 2, j, [(2, r1), (3, r2), (4, catT W')]⟩, 0)) := Lib.hid (by unfold putT; rw [HG.out, if_neg (by simp), HL.out, if_neg (by omega), hr1, hr2, hWm])
      have HSZ : Hid (∀ s ∈ W', s.size ≤ 1000) := Lib.hid fun s h => Nat.le_trans (HSW.out s h) (by omega)
      have HB9 := Lib.hid (on HB5.out hbv.out)
      have HK9 : Hid (wr.heap[w.heap.size]? = some (.cells #[.int .i64 0, .int .i64 0, .int .i64 0, .slice none 0 0] 27 (0, 0))) := Lib.hid ((hbv.out.block _ HHZ5.out).trans HK5.out)
      have HRW9 := Lib.hid (HRW5.out.below hbv.out)
      have HZ9 : Hid (w.heap.size < wr.heap.size) := Lib.hid (by have := HHZ5.out; omega)
      clear hri hr1 hr2 HALLL HOA HZI HOM5 hlt hz5 hzv
      go_wp2_with fail
      refine (PutGl_any wr GA i cA (placesT W' l) HRI.out HPI.out hcapA.1 hcapA.2 (by omega) false r1 0 HR1.out).mono ?_; rintro e w10 ⟨G10, n10, c10, rfl, hs10, hb10⟩
      have HS10 := Lib.hid hs10
      have HB10 := Lib.hid (on HB9.out hb10)
      have HK10 := Lib.hid ((hb10.block _ HZ9.out).trans HK9.out)
      have HRW10 := Lib.hid (HRW9.out.below hb10)
      have HZ10 : Hid (w.heap.size < w10.heap.size) := Lib.hid (Nat.lt_of_lt_of_le HZ9.out hb10.size)
      clear hs10 hb10
      go_wp2_with fail
      refine (lengths_any w10 G j c' W' HRW10.out (by omega) (fun s h => Nat.le_trans (HSZ.out s h) (by omega)) r2 er2 HR2.out).mono ?_; rintro e w11 ⟨G11, n11, c11, rfl, hs11, hb11⟩
      have HS11 := Lib.hid hs11
      have HT10 := Lib.hid (HS10.out.below hb11)
      have HB11 := Lib.hid (on HB10.out hb11)
      have HK11 := Lib.hid ((hb11.block _ HZ10.out).trans HK10.out)
      have HRW11 := Lib.hid (HRW10.out.below hb11)
      have HZ11 : Hid (w.heap.size < w11.heap.size) := Lib.hid (Nat.lt_of_lt_of_le HZ10.out hb11.size)
      clear hs11 hb11
      go_wp2_with fail
      refine (join_any w11 G j c' W' HRW11.out hmc (by omega) HSZ.out).mono ?_; rintro e w12 ⟨s, rfl, hbs, hss, hb12⟩
      have kc := conv_bytes w12 s
      have hbx := hb12.trans ((toB_below w12 s).mono hb12.size)
      obtain ⟨ob, hob⟩ : ∃ ob, ob = Obj.cells #[.int .i64 2, .slice G10 n10 c10, .int .i64 3, .slice G11 n11 c11, .int .i64 4, .slice (some ⟨w12.heap.size, 0, none⟩) s.size (capB w12 s)] 40 := ⟨_, rfl⟩
      have HB12 := Lib.hid (on HB11.out hbx)
      have hal := (Below.refl (toB w12 s).heap.size (toB w12 s)).alloc (Nat.le_refl _) ob
      have HB13 := Lib.hid (on HB12.out hal)
      have HZ12 : Hid (w.heap.size < (toB w12 s).heap.size) := Lib.hid (Nat.lt_of_lt_of_le HZ11.out hbx.size)
      have hk13 : ((toB w12 s).alloc ob).heap[w.heap.size]? = some (.cells #[.int .i64 0, .int .i64 0, .int .i64 0, .slice none 0 0] 27 (0, 0)) := (hal.block _ HZ12.out).trans ((hbx.block _ HZ11.out).trans HK11.out)
      have HK13 := Lib.hid hk13
      have HS1 := Lib.hid ((HT10.out.below hbx).below hal)
      have HS2 := Lib.hid ((HS11.out.below hbx).below hal)
      have HS3 : Hid (Sl ((toB w12 s).alloc ob) .u8 (some ⟨w12.heap.size, 0, none⟩) s.size (capB w12 s) (catT W')) := Lib.hid (hbs ▸ (toB_sl w12 s (by unfold maxLen; omega)).below hal)
      have HSB : Hid (((toB w12 s).alloc ob).heap[(toB w12 s).heap.size]? = some ob) := Lib.hid (newBlkT _ ob)
      obtain ⟨⟨c0, f0⟩, ⟨c1, f1⟩, ⟨c2, f2⟩, ⟨c3, f3⟩⟩ := colSet_facts hk13 (.int .i64 i) (.int .i64 2) (.int .i64 j)
      have HF := Lib.hid (colSet_heap hk13 (.int .i64 i) (.int .i64 2) (.int .i64 j) (.slice (some ⟨(toB w12 s).heap.size, 0, none⟩) 3 3))
      rw [hob] at c0 f0 c1 f1 c2 f2 c3 f3
      clear hal hb12 hbx hk13 hbs
      go_wp2_with fail
      subst hob
      refine bodyPost_ret (v := .tuple #[.agg #[.int .i64 i, .int .i64 2, .int .i64 j, .slice (some ⟨(toB w12 s).heap.size, 0, none⟩) 3 3], .int .i64 0]) ?_ rfl ?_
      · rw [results_cell_tmp rfl]
        have d0 := cell_blkT HF.out 0
        have d1 := cell_blkT HF.out 1
        have d2 := cell_blkT HF.out 2
        have d3 := cell_blkT HF.out 3
        unfold colSet at d0 d1 d2 d3
        go_simp
      · rw [HP.out]
        refine ⟨_, _, _, rfl, ?_, Nat.le_refl _, by unfold maxLen; omega, colSet_below HB13.out (Nat.le_refl _) _ _ _ _⟩
        have hsb := (colSet_other (B := w.heap.size) (.int .i64 i) (.int .i64 2) (.int .i64 j) (.slice (some ⟨(toB w12 s).heap.size, 0, none⟩) 3 3) (show (toB w12 s).heap.size ≠ w.heap.size from by have := HZ12.out; omega)).trans HSB.out
        exact stAt_of (S := [(2, r1), (3, r2), (4, catT W')]) hsb (fun y hy => by
          have hy2 : y = 0 ∨ y = 1 ∨ y = 2 := by simp at hy; omega
          rcases hy2 with rfl | rfl | rfl
          · exact ⟨rfl, _, _, _, rfl, HS1.out.col HK13.out _ _ _ _⟩
          · exact ⟨rfl, _, _, _, rfl, HS2.out.col HK13.out _ _ _ _⟩
          · exact ⟨rfl, _, _, _, rfl, HS3.out.col HK13.out _ _ _ _⟩)
  · have HE : Hid (putT l W = (⟨0, 0, 0, []⟩, 3)) := Lib.hid (by unfold putT; rw [if_pos HG.out])
    obtain ⟨⟨c0, f0⟩, ⟨c1, f1⟩, ⟨c2, f2⟩, ⟨c3, f3⟩⟩ := colSet_facts HK1.out (.int .i64 0) (.int .i64 0) (.int .i64 0)
    have HF := Lib.hid (colSet_heap HK1.out (.int .i64 0) (.int .i64 0) (.int .i64 0) (.slice none 0 0))
    have HBF := Lib.hid (colSet_below HB1.out (Nat.le_refl _) (.int .i64 0) (.int .i64 0) (.int .i64 0) (.slice none 0 0))
    go_wp2_with fail
    refine bodyPost_ret (v := .tuple #[.agg #[.int .i64 0, .int .i64 0, .int .i64 0, .slice none 0 0], .int .i64 3]) ?_ rfl ?_
    · rw [results_cell_tmp rfl]
      have d0 := cell_blkT HF.out 0
      have d1 := cell_blkT HF.out 1
      have d2 := cell_blkT HF.out 2
      have d3 := cell_blkT HF.out 3
      unfold colSet at d0 d1 d2 d3
      go_simp
    · rw [HE.out]
      exact ⟨_, _, _, rfl, StAt.nil _ _, Nat.le_refl _, Nat.zero_le _, HBF.out⟩
end Go.Proofs.YtmejoococajikaaGreat

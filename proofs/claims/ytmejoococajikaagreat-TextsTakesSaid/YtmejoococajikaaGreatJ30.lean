/- Joined texts: Open, TxS, OpenSt, TxJ. Each has its own head line. No condition beyond those that its theorems state. -/
import Derived.ProofKit
import Derived.OpenShut
import Derived.ShutString
import Derived.ChangeOld
import Derived.Below
import Derived.Deep.Slices
import Derived.Lib.SmallJoins
import Derived.Laws.IdiomStrings
import Derived.Test.YtmejoococajikaaGreatJ01
import Derived.Test.YtmejoococajikaaGreatJ29
import Derived.Test.YtmejoococajikaaGreatJ04
import Derived.Test.YtmejoococajikaaGreatShelf
set_option linter.unusedVariables false

/- From the data that a row speaks of to what a walk is told. -/
namespace Go.Proofs.YtmejoococajikaaGreat
open Go.ChangeShapes Go.WideShapes Go.ChangeAt Go.RowKit
open Go.ChangeMaps (open_string shut_string)

theorem wf_i64 {n : Int} (h : (Lit.int .i64 n).wf = true) : -9223372036854775808 ≤ n ∧ n < 9223372036854775808 := by
  have := bounds_i64 h; omega
theorem wf_u64 {n : Int} (h : (Lit.int .u64 n).wf = true) : 0 ≤ n ∧ n < 18446744073709551616 := by
  have := bounds_u64 h; omega
theorem wf_u8 {n : Int} (h : (Lit.int .u8 n).wf = true) : 0 ≤ n ∧ n < 256 := by
  have := bounds_u8 h; omega

/-- What is read of a slice of numbers that came in. -/
def IsRow (k : IntKind) (w : World) (a : Option Addr) (len cap : Nat) : Prop :=
  ∃ l : List Int, Ri w k a len l ∧ (∀ n ∈ l, (Lit.int k n).wf = true) ∧ len ≤ cap ∧ cap ≤ maxLen

theorem open_row {H : Type} {enc : TypeId × Value → H} {P : Program} {t e : TypeId} {k : IntKind} (ht : P.underlying t = some (.slice e)) (he : P.underlying e = some (.int k)) (hc : P.cellsOf e = 1)
    {W : World} {a : Option Addr} {len cap : Nat} {d : DataW H} {p : List MemPlace} {b : Nat} {sp : Nat → Bool} {hd : Bool}
    (h : DataW.Trod enc P W b sp hd t (.slice a len cap) d p) : IsRow k W a len cap := by
  obtain ⟨fuel, hf⟩ := h
  rcases open_ints ht he hc hf with ⟨hcs, _⟩ | ⟨x, l, c, zs, hcs, _, hl, hm, hz, _, hcell, hwz⟩
  · simp [Value.cells] at hcs
    obtain ⟨rfl, rfl, rfl⟩ := hcs
    exact ⟨[], Ri.nil _ _ _, by simp, Nat.le_refl _, Nat.zero_le _⟩
  · simp [Value.cells] at hcs
    obtain ⟨rfl, rfl, rfl⟩ := hcs
    have hz' : len ≤ zs.length := by rw [hz]; split <;> omega
    have hll : (zs.take len).length = len := by rw [List.length_take]; omega
    refine ⟨zs.take len, ⟨by simpa using hll, fun h0 => ?_⟩, fun n hn => hwz n (List.mem_of_mem_take hn), hl, hm⟩
    obtain ⟨bl, off, spot⟩ := x
    have hc0 := hcell 0 (by omega)
    have hspot : spot = none := by simpa [Addr.add] using World.cell?_spot hc0
    subst hspot
    refine ⟨bl, off, rfl, ?_, fun j u hj => ?_⟩
    · rw [add_none] at hc0
      exact World.block_lt_of_cell? _ _ hc0
    · have hjl : j < len := by
        rcases Nat.lt_or_ge j len with h | h
        · exact h
        · rw [List.getElem?_eq_none (by rw [List.length_map, hll]; exact h)] at hj; cases hj
      have hcj := hcell j (by omega)
      rw [add_none] at hcj
      rw [hcj]
      simp [List.getElem?_take_of_lt hjl, List.getElem?_eq_getElem (show j < zs.length by omega)] at hj
      simp [List.getD, List.getElem?_eq_getElem (show j < zs.length by omega), hj]

theorem row_u8 {w : World} {a : Option Addr} {len cap : Nat} (h : IsRow .u8 w a len cap) : ∃ l : List Int, Ri w .u8 a len l ∧ U8 l ∧ len ≤ cap ∧ cap ≤ maxLen := by
  obtain ⟨l, h1, h2, h3, h4⟩ := h
  exact ⟨l, h1, fun x hx => wf_u8 (h2 x hx), h3, h4⟩
theorem row_u64 {w : World} {a : Option Addr} {len cap : Nat} (h : IsRow .u64 w a len cap) : ∃ l : List Int, Ri w .u64 a len l ∧ U64 l ∧ len ≤ cap ∧ cap ≤ maxLen := by
  obtain ⟨l, h1, h2, h3, h4⟩ := h
  exact ⟨l, h1, fun x hx => wf_u64 (h2 x hx), h3, h4⟩
theorem row_i64 {w : World} {a : Option Addr} {len cap : Nat} (h : IsRow .i64 w a len cap) : ∃ l : List Int, Ri w .i64 a len l ∧ I64 l ∧ len ≤ cap ∧ cap ≤ maxLen := by
  obtain ⟨l, h1, h2, h3, h4⟩ := h
  exact ⟨l, h1, fun x hx => wf_i64 (h2 x hx), h3, h4⟩
end Go.Proofs.YtmejoococajikaaGreat

/- Texts: Same, SameColumn. -/
namespace Go.Proofs.YtmejoococajikaaGreat
open Go.RowKit

/-- A row of n streams that reads as S: their kinds, their bytes. -/
def StAt (w : World) (A : Option Addr) (n : Nat) (S : List (Int × List Int)) : Prop :=
  S.length = n ∧ (0 < n → ∃ b o, A = some ⟨b, o, none⟩ ∧ b < w.heap.size ∧ ∀ j (hj : j < S.length), w.cell? ⟨b, o + j * 2, none⟩ = some (.int .i64 S[j].1) ∧ ∃ G m c, w.cell? ⟨b, o + j * 2 + 1, none⟩ = some (.slice G m c) ∧ Sl w .u8 G m c S[j].2)
theorem StAt.below {w w' : World} {A : Option Addr} {n : Nat} {S : List (Int × List Int)} (h : StAt w A n S) (hb : Below w.heap.size w w') : StAt w' A n S :=
  ⟨h.1, fun h0 => by
    obtain ⟨b, o, e, hlt, hc⟩ := h.2 h0
    refine ⟨b, o, e, Nat.lt_of_lt_of_le hlt hb.size, fun j hj => ?_⟩
    obtain ⟨k1, G, m, c, k2, k3⟩ := hc j hj
    exact ⟨(hb.cell (p := ⟨b, _, none⟩) hlt).trans k1, G, m, c, (hb.cell (p := ⟨b, _, none⟩) hlt).trans k2, k3.below hb⟩⟩
theorem newBlkT (w : World) (o : Obj) : (w.alloc o).heap[w.heap.size]? = some o := by
  show (w.heap.push o)[w.heap.size]? = some o
  exact Array.getElem?_push_size
theorem cell_blkT {w : World} {b : Nat} {cs : Array Value} {t : TypeId} {z : Nat × Nat} (h : w.heap[b]? = some (.cells cs t z)) (j : Nat) : w.cell? ⟨b, j, none⟩ = cs[j]? := by
  simp [World.cell?, h]
theorem StAt.nil (w : World) (A : Option Addr) : StAt w A 0 [] := ⟨rfl, fun h => absurd h (by omega)⟩
set_option maxRecDepth 100000 in
set_option maxHeartbeats 4000000 in
/-- Two rows of texts are the same. -/
theorem rSame15_any (w : World) (A B : Option Addr) (n m c c' : Nat) (l k : List ByteArray) (hl : Rs w A n l) (hk : Rs w B m k) (hn : n < 1000000) (hm : m < 1000000) :
    Calls Tryz.prog 11 #[.slice A n c, .slice B m c'] w fun e w' => e = .returned (.bool (decide (l = k))) ∧ ∃ q, w' = w.drewN q := by
  by_cases hnm : n = m
  · subst hnm
    have hA : n = 0 ∨ (0 < n ∧ (∃ b o, A = some ⟨b, o, none⟩ ∧ b < w.heap.size ∧ ∀ j (hj : j < l.length), w.cell? ⟨b, o + j, none⟩ = some (.string l[j])) ∧ (∃ b o, B = some ⟨b, o, none⟩ ∧ b < w.heap.size ∧ ∀ j (hj : j < k.length), w.cell? ⟨b, o + j, none⟩ = some (.string k[j]))) := by
      rcases Nat.eq_zero_or_pos n with h | h
      · exact .inl h
      · exact .inr ⟨h, hl.all h, hk.all h⟩
    have HLL := Lib.hid hl.len
    have HKL := Lib.hid hk.len
    clear hl hk
    rcases hA with rfl | ⟨h0, ⟨b1, o1, rfl, _, hc1⟩, ⟨b2, o2, rfl, _, hc2⟩⟩
    · have hlk : l = k := by rw [List.eq_nil_of_length_eq_zero HLL.out, List.eq_nil_of_length_eq_zero HKL.out]
      have HD := Lib.hid (decide_eq_true hlk)
      clear hlk
      go_enter Tryz.func11, Tryz.ntmps11
      go_wp2_with fail
      refine wp_loop_rounds 1 ?_
      rw [rounds_succ]
      go_wp2_with fail
      go_ret
      exact ⟨ret_bool HD.out.symm, 0, rfl⟩
    · have HC1 := Lib.hid hc1
      have HC2 := Lib.hid hc2
      clear hc1 hc2
      go_enter Tryz.func11, Tryz.ntmps11
      go_wp2_with fail
      go_loopg [5] n (fun gg v wr => ∃ j : Nat, v = .int .i64 j ∧ j ≤ n ∧ n - j ≤ gg ∧ Hid (l.take j = k.take j) ∧ ∃ q, wr = w.drewN q)
      case atStart => exact ⟨0, rfl, by omega, by omega, Lib.hid rfl, 0, rfl⟩
      case round =>
        obtain ⟨j, rfl, hjN, hgg, hs, q, rfl⟩ := hrel
        by_cases hlt : j < n
        · have t1 : decide (j < n) = true := decide_eq_true hlt
          have hj1 : j < l.length := by rw [HLL.out]; exact hlt
          have hj2 : j < k.length := by rw [HKL.out]; exact hlt
          have k1 := HC1.out j hj1
          have k2 := HC2.out j hj2
          obtain ⟨x, hx⟩ : ∃ x, x = l[j] := ⟨_, rfl⟩
          obtain ⟨z, hz⟩ : ∃ z, z = k[j] := ⟨_, rfl⟩
          rw [← hx] at k1
          rw [← hz] at k2
          have HX := Lib.hid hx; have HZ := Lib.hid hz
          clear hx hz
          by_cases he : x = z
          · have HS : Hid (l.take (j + 1) = k.take (j + 1)) := Lib.hid (by
              rw [List.take_add_one, List.take_add_one, List.getElem?_eq_getElem hj1, List.getElem?_eq_getElem hj2, hs.out, ← HX.out, ← HZ.out, he])
            subst he
            have e1 : (x.toList != x.toList) = false := by simp
            go_wp2_with fail
            go_quiet (fail)
            go_wp2_with fail
            go_roundg (n - (j + 1))
            case measure => omega
            case rel => exact ⟨j + 1, by go_num, by omega, by omega, HS, _, rfl⟩
          · have e0 : (x.toList == z.toList) = false := by rw [str_beqT]; exact decide_eq_false he
            have e1 : (x.toList != z.toList) = true := by rw [bne, e0]; rfl
            have hlk : l ≠ k := fun e => he (by rw [HX.out, HZ.out]; simp only [e])
            have HD := Lib.hid (decide_eq_false hlk)
            clear hlk he
            go_wp2_with fail
            go_quiet (fail)
            go_wp2_with fail
            go_ret
            exact ⟨ret_bool HD.out.symm, q + nq, by simp⟩
        · have t1 : decide (j < n) = false := decide_eq_false hlt
          have hlk : l = k := by
            have := hs.out
            rwa [List.take_of_length_le (by rw [HLL.out]; omega), List.take_of_length_le (by rw [HKL.out]; omega)] at this
          have HD := Lib.hid (decide_eq_true hlk)
          clear hlk
          go_wp2_with fail
          go_ret
          exact ⟨ret_bool HD.out.symm, _, rfl⟩
  · have hlk : l ≠ k := fun e => hnm (by rw [← hl.len, ← hk.len, e])
    have HD := Lib.hid (decide_eq_false hlk)
    have t1 : ((n : Int) != m) = true := by simp; omega
    clear hlk hl hk
    go_enter Tryz.func11, Tryz.ntmps11
    go_wp2_with fail
    go_ret
    exact ⟨ret_bool HD.out.symm, 0, rfl⟩
set_option maxRecDepth 100000 in
set_option maxHeartbeats 4000000 in
theorem SameColumn_any (w : World) (q e t : Int) (A B : Option Addr) (n c c' : Nat) (S : List (Int × List Int)) (h1 : StAt w A n S) (h2 : StAt w B n S) (hn : n ≤ 1000000) :
    Calls Tryz.prog 10 #[.agg #[.int .i64 q, .int .i64 e, .int .i64 t, .slice A n c], .agg #[.int .i64 q, .int .i64 e, .int .i64 t, .slice B n c']] w fun e w' => e = .returned (.bool true) ∧ Below w.heap.size w w' := by
  have HL := Lib.hid h1.1
  have H1 := Lib.hid (fun h0 => h1.2 h0)
  have H2 := Lib.hid (fun h0 => h2.2 h0)
  clear h1 h2
  go_enter Tryz.func10, Tryz.ntmps10
  go_wp2_with fail
  obtain ⟨wa, hwa⟩ : ∃ wa, wa = ((w.alloc (.cells #[.int .i64 q, .int .i64 e, .int .i64 t, .slice A n c] 27)).alloc (.cells #[.int .i64 q, .int .i64 e, .int .i64 t, .slice B n c'] 27)) := ⟨_, rfl⟩
  rw [← hwa]
  have hA2 : wa.heap[w.heap.size]? = some (.cells #[.int .i64 q, .int .i64 e, .int .i64 t, .slice A n c] 27) := by
    rw [hwa]; exact (Below.heap_alloc _ _ _ (by rw [World.size_alloc]; omega)).trans (newBlkT w _)
  have hB2 : wa.heap[w.heap.size + 1]? = some (.cells #[.int .i64 q, .int .i64 e, .int .i64 t, .slice B n c'] 27) := by
    have h := newBlkT (w.alloc (.cells #[.int .i64 q, .int .i64 e, .int .i64 t, .slice A n c] 27)) (.cells #[.int .i64 q, .int .i64 e, .int .i64 t, .slice B n c'] 27)
    rw [World.size_alloc] at h
    rw [hwa]; exact h
  have cA : wa.cell? ⟨w.heap.size, 3, none⟩ = some (.slice A n c) := by rw [cell_blkT hA2]; rfl
  have cB : wa.cell? ⟨w.heap.size + 1, 3, none⟩ = some (.slice B n c') := by rw [cell_blkT hB2]; rfl
  clear hA2 hB2
  have HBA : Hid (Below w.heap.size w wa) := Lib.hid (hwa ▸ ((Below.refl w.heap.size w).alloc (Nat.le_refl _) _).alloc (by simp) _)
  clear hwa
  have hst : n = 0 ∨ (0 < n ∧ ∃ b1 o1 b2 o2, A = some ⟨b1, o1, none⟩ ∧ B = some ⟨b2, o2, none⟩) := by
    rcases Nat.eq_zero_or_pos n with h | h
    · exact .inl h
    · obtain ⟨b1, o1, e1, _⟩ := H1.out h
      obtain ⟨b2, o2, e2, _⟩ := H2.out h
      exact .inr ⟨h, b1, o1, b2, o2, e1, e2⟩
  go_loopg [5] n (fun gg v wr => ∃ j : Nat, v = .int .i64 j ∧ j ≤ n ∧ n - j ≤ gg ∧ ∃ q', wr = wa.drewN q')
  case atStart => exact ⟨0, rfl, by omega, by omega, 0, rfl⟩
  case round =>
    obtain ⟨j, rfl, hjn, hgg, q', rfl⟩ := hrel
    by_cases hlt : j < n
    · have t1 : decide (j < n) = true := decide_eq_true hlt
      have hj : j < S.length := by rw [HL.out]; exact hlt
      obtain ⟨b1, o1, rfl, hl1, hc1⟩ := H1.out (by omega)
      obtain ⟨b2, o2, rfl, hl2, hc2⟩ := H2.out (by omega)
      obtain ⟨k1, G1, m1, d1, k2, k3⟩ := hc1 j hj
      obtain ⟨z1, G2, m2, d2, z2, z3⟩ := hc2 j hj
      generalize S[j] = x at k1 k3 z1 z3
      have hbw : Below w.heap.size w wa := HBA.out
      have k1 := (hbw.cell (p := ⟨b1, _, none⟩) hl1).trans k1
      have k2 := (hbw.cell (p := ⟨b1, _, none⟩) hl1).trans k2
      have z1 := (hbw.cell (p := ⟨b2, _, none⟩) hl2).trans z1
      have z2 := (hbw.cell (p := ⟨b2, _, none⟩) hl2).trans z2
      have va := fun nn : Nat => conv_any (w := wa.drewN nn) (c := d1) (k3.below hbw).1
      have vb := fun nn : Nat => conv_any (w := wa.drewN nn) (c := d2) (z3.below hbw).1
      have st := strOf_same x.2
      have st2 : ((strOf x.2).toList != (strOf x.2).toList) = false := by simp
      clear hc1 hc2 k3 z3 hbw
      go_wp2_with fail
      go_quiet (fail)
      go_wp2_with fail
      go_roundg (n - (j + 1))
      case measure => omega
      case rel => exact ⟨j + 1, by go_num, by omega, by omega, _, rfl⟩
    · have t1 : decide (j < n) = false := decide_eq_false hlt
      go_wp2_with fail
      go_ret
      exact ⟨rfl, bdN HBA.out _⟩
end Go.Proofs.YtmejoococajikaaGreat

/- A column that came in: its three numbers, its streams. -/
namespace Go.Proofs.YtmejoococajikaaGreat
open Go.ChangeShapes Go.WideShapes Go.ChangeAt Go.RowKit Go.Joins

theorem open_stream {H : Type} {enc : TypeId × Value → H} {P : Program} {e i t u : TypeId} {f0 f1 : Field} (he : P.underlying e = some (.struct #[f0, f1]))
    (h0 : f0.offset = 0 ∧ P.cellsOf f0.type = 1 ∧ f0.type = i) (h1 : f1.offset = 1 ∧ P.cellsOf f1.type = 1 ∧ f1.type = t)
    (hi : P.underlying i = some (.int .i64)) (ht : P.underlying t = some (.slice u)) (hu : P.underlying u = some (.int .u8)) (hcu : P.cellsOf u = 1)
    {W : World} {base : Nat} {held : Bool} {fuel : Nat} {cs : List Value} {x : DataW H × List MemPlace} (hl : cs.length = 2) (h : DataW.trod enc P W base (fun _ => true) held fuel e cs = some x) :
    ∃ (k : Int) (G : Option Addr) (m c : Nat) (b : List Int), cs = [.int .i64 k, .slice G m c] ∧ (-9223372036854775808 ≤ k ∧ k < 9223372036854775808) ∧ Sl W .u8 G m c b ∧ U8 b := by
  obtain ⟨xs, n, _, hx, _, hlen, hf⟩ := DataW.trod_struct he h
  obtain ⟨c0, c1, rfl⟩ : ∃ c0 c1, cs = [c0, c1] := by
    match cs, hl with
    | [c0, c1], _ => exact ⟨c0, c1, rfl⟩
  have g0 := hf 0 f0 rfl
  have g1 := hf 1 f1 rfl
  rw [h0.1, h0.2.1, h0.2.2] at g0
  rw [h1.1, h1.2.1, h1.2.2] at g1
  simp only [List.drop_zero, List.drop_succ_cons, List.take_succ_cons, List.take_zero] at g0 g1
  match xs, hlen with
  | [y0, y1], _ =>
    simp only [List.getElem?_cons_zero, List.getElem?_cons_succ] at g0 g1
    obtain ⟨n0, e0, _, w0⟩ := DataW.trod_int hi g0
    obtain ⟨a1, l1, k1, e1⟩ := Go.Joins.slice_form ht g1
    injection e0 with e0 _
    injection e1 with e1 _
    subst e0 e1
    obtain ⟨b, hb, hb8, hb1, hb2⟩ := row_u8 (open_row (d := y1.1) (p := y1.2) ht hu hcu ⟨n, g1⟩)
    exact ⟨n0, a1, l1, k1, b, rfl, wf_i64 w0, ⟨hb, hb1, by unfold maxLen at hb2; omega⟩, hb8⟩
theorem open_streams {H : Type} {enc : TypeId × Value → H} {P : Program} {r e i t u : TypeId} {f0 f1 : Field} (hr : P.underlying r = some (.slice e)) (he : P.underlying e = some (.struct #[f0, f1]))
    (h0 : f0.offset = 0 ∧ P.cellsOf f0.type = 1 ∧ f0.type = i) (h1 : f1.offset = 1 ∧ P.cellsOf f1.type = 1 ∧ f1.type = t)
    (hi : P.underlying i = some (.int .i64)) (ht : P.underlying t = some (.slice u)) (hu : P.underlying u = some (.int .u8)) (hcu : P.cellsOf u = 1) (hc : P.cellsOf e = 2)
    {W : World} {a : Option Addr} {len cap : Nat} {d : DataW H} {p : List MemPlace} {base : Nat} {hd : Bool}
    (h : DataW.Trod enc P W base (fun _ => true) hd r (.slice a len cap) d p) : ∃ S : List (Int × List Int), StAt W a len S ∧ I64 (S.map Prod.fst) ∧ (∀ s ∈ S, U8 s.2) ∧ len ≤ cap ∧ cap ≤ maxLen := by
  obtain ⟨fuel, hf⟩ := h
  rcases Go.Deep.open_slice hr hf with ⟨hcs, _⟩ | ⟨x, l, c, m, n, D, Pl, hcs, _, hl, hm, hmm, hx, hel⟩
  · simp [Value.cells] at hcs
    obtain ⟨rfl, rfl, rfl⟩ := hcs
    exact ⟨[], StAt.nil _ _, (fun x h => by simp at h), (fun x h => by simp at h), Nat.le_refl _, Nat.zero_le _⟩
  · simp [Value.cells] at hcs
    obtain ⟨rfl, rfl, rfl⟩ := hcs
    rw [if_pos rfl] at hmm
    subst hmm
    have key : ∀ k, k < len → ∃ v : Int × Option Addr × Nat × Nat × List Int, (-9223372036854775808 ≤ v.1 ∧ v.1 < 9223372036854775808) ∧ (Sl W .u8 v.2.1 v.2.2.1 v.2.2.2.1 v.2.2.2.2 ∧ U8 v.2.2.2.2) ∧ W.cell? ((x.add (k * 2)).add 0) = some (.int .i64 v.1) ∧ W.cell? ((x.add (k * 2)).add 1) = some (.slice v.2.1 v.2.2.1 v.2.2.2.1) := by
      intro k hk
      obtain ⟨cs', g1, g2⟩ := hel k (by omega)
      rw [hc] at g1
      obtain ⟨_, g3, g4⟩ := World.cells?_some g1
      obtain ⟨q, G, m, c, b, rfl, h1, h2, h3⟩ := open_stream he h0 h1 hi ht hu hcu g3 g2
      exact ⟨(q, G, m, c, b), h1, ⟨h2, h3⟩, g4 0 (by omega), g4 1 (by omega)⟩
    obtain ⟨f, hf2⟩ := Go.Deep.choose_lt key
    refine ⟨(List.range len).map fun k => ((f k).1, (f k).2.2.2.2), ⟨by simp, fun hl0 => ?_⟩, fun x hx => ?_, fun s hs => ?_, hl, hm⟩
    · obtain ⟨bl, off, spot⟩ := x
      have hc0 := (hf2 0 (by omega)).2.2.1
      have hspot : spot = none := by simpa [Addr.add] using World.cell?_spot hc0
      subst hspot
      simp only [add_none] at hf2 hc0
      refine ⟨bl, off, rfl, World.block_lt_of_cell? _ _ hc0, fun j hj => ?_⟩
      have hjl : j < len := by simpa using hj
      rw [List.getElem_map, List.getElem_range]
      obtain ⟨_, ⟨s1, _⟩, c0, c1⟩ := hf2 j hjl
      exact ⟨c0, _, _, _, c1, s1⟩
    · obtain ⟨s, hs, rfl⟩ := List.mem_map.1 hx
      obtain ⟨k, hk, rfl⟩ := List.mem_map.1 hs
      exact (hf2 k (List.mem_range.1 hk)).1
    · obtain ⟨k, hk, rfl⟩ := List.mem_map.1 hs
      exact (hf2 k (List.mem_range.1 hk)).2.1.2
theorem open_col {H : Type} {enc : TypeId × Value → H} {P : Program} {q r e i t u : TypeId} {g0 g1 g2 g3 f0 f1 : Field} (hq : P.underlying q = some (.struct #[g0, g1, g2, g3])) (hone : Go.Deep.oneCellFields P #[g0, g1, g2, g3] = true) (hC : P.cellsOf q = 4)
    (t0 : g0.type = i) (t1 : g1.type = i) (t2 : g2.type = i) (t3 : g3.type = r)
    (hr : P.underlying r = some (.slice e)) (he : P.underlying e = some (.struct #[f0, f1]))
    (h0 : f0.offset = 0 ∧ P.cellsOf f0.type = 1 ∧ f0.type = i) (h1 : f1.offset = 1 ∧ P.cellsOf f1.type = 1 ∧ f1.type = t)
    (hi : P.underlying i = some (.int .i64)) (ht : P.underlying t = some (.slice u)) (hu : P.underlying u = some (.int .u8)) (hcu : P.cellsOf u = 1) (hc : P.cellsOf e = 2)
    {W : World} {v : Value} {d : DataW H} {p : List MemPlace} {base b0 : Nat} {hd : Bool} {re : Reach} (hv : Value.okWide P W re b0 q v)
    (h : DataW.Trod enc P W base (fun _ => true) hd q v d p) : ∃ (x y z : Int) (a : Option Addr) (len cap : Nat) (S : List (Int × List Int)), v = .agg #[.int .i64 x, .int .i64 y, .int .i64 z, .slice a len cap] ∧ StAt W a len S ∧ I64 (S.map Prod.fst) ∧ (∀ s ∈ S, U8 s.2) ∧ len ≤ maxLen := by
  obtain ⟨c0, c1, c2, c3, y0, y1, y2, y3, m, rfl, _, _, k0, k1, k2, k3⟩ := Go.Joins.open_agg4 hq hone hC hv h
  rw [t0] at k0; rw [t1] at k1; rw [t2] at k2; rw [t3] at k3
  obtain ⟨n0, e0, _, _⟩ := DataW.trod_int hi k0
  obtain ⟨n1, e1, _, _⟩ := DataW.trod_int hi k1
  obtain ⟨n2, e2, _, _⟩ := DataW.trod_int hi k2
  obtain ⟨a, l, c, e3⟩ := Go.Joins.slice_form hr k3
  injection e0 with e0 _
  injection e1 with e1 _
  injection e2 with e2 _
  injection e3 with e3 _
  subst e0 e1 e2 e3
  obtain ⟨S, s1, s2, s3, s4, s5⟩ := open_streams (d := y3.1) (p := y3.2) hr he h0 h1 hi ht hu hcu hc ⟨m, k3⟩
  exact ⟨n0, n1, n2, a, l, c, S, rfl, s1, s2, s3, Nat.le_trans s4 s5⟩
end Go.Proofs.YtmejoococajikaaGreat

/- Texts: a text's bytes as a slice; texts joined; rows behind a store. -/
namespace Go.Proofs.YtmejoococajikaaGreat
open Go.RowKit

/-- '[]byte(s)': its capacity, the world behind it. -/
def capB (w : World) (s : ByteArray) : Nat := grownCap w s.size 0 5
def toB (w : World) (s : ByteArray) : World :=
  w.drew.alloc (.cells (bytesRow s (capB w s)) 5 ((bytesRow s (capB w s)).size, (bytesRow s (capB w s)).size + 1))
theorem conv_bytes (w : World) (s : ByteArray) : (convert 9 38 (.string s)).run Tryz.prog w = .ok (.slice (some ⟨w.heap.size, 0, none⟩) s.size (capB w s)) (toB w s) :=
  run_bytes_of_string w _ _ _ s Tryz.underlying9 Tryz.underlying38 Tryz.underlying5
theorem toB_below (w : World) (s : ByteArray) : Below w.heap.size w (toB w s) :=
  Below.alloc (bdN (Below.refl _ w) 1) (Nat.le_refl _) _
theorem toB_sl (w : World) (s : ByteArray) (hs : s.size ≤ maxLen) : Sl (toB w s) .u8 (some ⟨w.heap.size, 0, none⟩) s.size (capB w s) (bytesT s) := by
  refine ⟨⟨by rw [List.length_map, bytesT_len, Nat.mul_one], fun _ => ⟨w.heap.size, 0, rfl, ?_, fun j u hu => ?_⟩⟩, grownCap_ge _ _ _ _, grownCap_le_maxLen _ _ _ _ hs⟩
  · show w.heap.size < (w.drew.alloc _).heap.size
    rw [World.size_alloc]
    exact Nat.lt_succ_self _
  · have hb : (toB w s).heap[w.heap.size]? = some (.cells (bytesRow s (capB w s)) 5 ((bytesRow s (capB w s)).size, (bytesRow s (capB w s)).size + 1)) := newBlkT w.drew _
    rw [Nat.zero_add, cell_blkT hb]
    have hj : j < s.data.size := by
      rcases Nat.lt_or_ge j s.data.size with h | h
      · exact h
      · rw [List.getElem?_eq_none (by rw [List.length_map, bytesT_len]; exact h)] at hu; cases hu
    rw [bytesRow_at s _ j hj]
    unfold bytesT at hu
    rw [List.map_map, List.getElem?_map, List.getElem?_eq_getElem (by simpa using hj)] at hu
    rw [← hu]
    simp
theorem catT_join (l : List ByteArray) : bytesT ⟨(Lib.join (l.map (·.data.toList)) []).toArray⟩ = catT l := by
  unfold bytesT catT Lib.join
  have h : (([] : List UInt8).intercalate (l.map (·.data.toList))) = (l.map (·.data.toList)).flatten := by
    induction l with
    | nil => rfl
    | cons s r ih =>
      have h2 := Lib.join_cons s.data.toList (r.map (·.data.toList)) []
      unfold Lib.join Lib.joinTail at h2
      rw [List.map_cons, h2, List.flatten_cons]
      congr 1
      rw [show ((fun x : List UInt8 => [] ++ x) = id) from rfl, List.map_id]
  rw [h, List.flatMap_def]
  show List.map (fun u : UInt8 => (u.toNat : Int)) (l.map (·.data.toList)).flatten = _
  rw [List.map_flatten, List.map_map]
  rfl
set_option maxHeartbeats 1000000 in
theorem join_any (w : World) (A : Option Addr) (n c : Nat) (l : List ByteArray) (hr : Rs w A n l) (hc : n ≤ c) (hn : n ≤ 1000) (hs : ∀ s ∈ l, s.size ≤ 1000) :
    Calls Tryz.prog 19 #[.slice A n c, .string ⟨#[]⟩] w fun e w' => ∃ s : ByteArray, e = .returned (.string s) ∧ bytesT s = catT l ∧ s.size ≤ 1000000 ∧ Below w.heap.size w w' := by
  have hl := hr.len
  have hsz : (⟨(Lib.join (l.map (·.data.toList)) []).toArray⟩ : ByteArray).size ≤ 1000000 := by
    rw [← bytesT_len, catT_join]
    have := catT_len hs
    have : l.length * 1000 ≤ 1000 * 1000 := Nat.mul_le_mul_right _ (by omega)
    omega
  rcases Nat.eq_zero_or_pos n with rfl | h0
  · obtain rfl : l = [] := List.eq_nil_of_length_eq_zero hl
    refine (Tryz.strings_Join_none A c ⟨#[]⟩ w).mono ?_
    rintro e w' ⟨rfl, rfl⟩
    exact ⟨_, rfl, rfl, by decide, Below.refl _ _⟩
  · obtain ⟨b, o, rfl, hb, hcell⟩ := hr.all h0
    subst hl
    have hlen : (Lib.join (l.map (·.data.toList)) (⟨#[]⟩ : ByteArray).data.toList).length ≤ 140737488355328 := by
      have : (Lib.join (l.map (·.data.toList)) []).length ≤ 1000000 := by simpa [ByteArray.size] using hsz
      exact Nat.le_trans this (by omega)
    refine (Tryz.strings_Join b o c l ⟨#[]⟩ w (fun j x hx => ?_) hb (by omega) hc hlen).mono ?_
    · obtain ⟨hj, rfl⟩ := List.getElem?_eq_some_iff.1 hx
      exact hcell j hj
    · rintro e w' ⟨rfl, hb'⟩
      exact ⟨_, rfl, catT_join l, hsz, hb'⟩

/-- A row of bytes stays, where its block stays. -/
theorem Ri.of_heap {w w' : World} {k : IntKind} {A : Option Addr} {n : Nat} {l : List Int} (h : Ri w k A n l) (hz : w.heap.size ≤ w'.heap.size) (hb : ∀ b o, 0 < n → A = some ⟨b, o, none⟩ → w'.heap[b]? = w.heap[b]?) : Ri w' k A n l :=
  ⟨h.1, fun h0 => by
    obtain ⟨b, o, e, hlt, hc⟩ := h.2 h0
    exact ⟨b, o, e, Nat.lt_of_lt_of_le hlt hz, fun j u hu => (World.cell?_of_block (hb b o h0 e)).trans (hc j u hu)⟩⟩
/-- Bytes don't lie where a column lies. -/
theorem Ri.not_col {w : World} {A : Option Addr} {n : Nat} {l : List Int} (h : Ri w .u8 A n l) {B : Nat} {a b c : Int} {x : Option Addr} {y z : Nat} {t : TypeId} {f : Nat × Nat}
    (hB : w.heap[B]? = some (.cells #[.int .i64 a, .int .i64 b, .int .i64 c, .slice x y z] t f)) : ∀ g o, 0 < n → A = some ⟨g, o, none⟩ → g ≠ B := fun g o h0 e => by
  obtain ⟨g', o', e', hlt, hc⟩ := h.2 h0
  rw [e] at e'
  injection e' with e'
  injection e' with e1 e2
  subst e1 e2
  rintro rfl
  have hl : 0 < (l.map (Value.int .u8)).length := by have := h.1; omega
  have h1 := hc 0 _ (List.getElem?_eq_getElem hl)
  rw [cell_blkT hB, List.getElem_map] at h1
  have ho : o = 0 ∨ o = 1 ∨ o = 2 ∨ o = 3 ∨ 4 ≤ o := by omega
  rcases ho with rfl | rfl | rfl | rfl | ho
  · cases h1
  · cases h1
  · cases h1
  · cases h1
  · rw [Array.getElem?_eq_none (by simpa using ho)] at h1; cases h1
/-- Streams out of one block. -/
theorem stAt_of {w : World} {sb : Nat} {cs : Array Value} {t : TypeId} {z : Nat × Nat} {S : List (Int × List Int)} (hb : w.heap[sb]? = some (.cells cs t z))
    (h : ∀ j (hj : j < S.length), cs[j * 2]? = some (.int .i64 S[j].1) ∧ ∃ G m c, cs[j * 2 + 1]? = some (.slice G m c) ∧ Sl w .u8 G m c S[j].2) : StAt w (some ⟨sb, 0, none⟩) S.length S :=
  ⟨rfl, fun _ => ⟨sb, 0, rfl, (Array.getElem?_eq_some_iff.1 hb).1, fun j hj => by
    obtain ⟨k1, G, m, c, k2, k3⟩ := h j hj
    refine ⟨?_, G, m, c, ?_, k3⟩
    · rw [Nat.zero_add, cell_blkT hb]; exact k1
    · rw [Nat.zero_add, cell_blkT hb]; exact k2⟩⟩
end Go.Proofs.YtmejoococajikaaGreat

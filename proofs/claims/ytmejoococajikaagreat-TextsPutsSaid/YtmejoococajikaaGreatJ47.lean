/- Joined texts: TxRPut. Each has its own head line. No condition beyond those that its theorems state. -/
import Derived.Test.YtmejoococajikaaGreatJ44
import Derived.Test.YtmejoococajikaaGreatJ46
set_option linter.unusedVariables false

/- The reference of texts: Put. -/
namespace Go.Proofs.YtmejoococajikaaGreat
open Go.RowKit

theorem bigT_upto {l : List ByteArray} (h : ∀ s ∈ l, s.size ≤ 300) : bigT l = false := by
  unfold bigT
  rw [List.any_eq_false]
  intro s hs
  have := h s hs
  simp; omega
theorem bigT_at {l : List ByteArray} {j : Nat} {s : ByteArray} (h : l[j]? = some s) (hs : 300 < s.size) : bigT l = true := by
  unfold bigT
  rw [List.any_eq_true]
  exact ⟨s, List.mem_of_getElem? h, decide_eq_true hs⟩
theorem place_idx {W : List ByteArray} (hW : Rising W) {s : ByteArray} (hs : s ∈ W) {r : Int} (h : PlaceAt W s r) : r = (idxT W s : Int) := h.unique hW.nodup (placeAt_idx hs)
set_option maxRecDepth 100000 in
set_option maxHeartbeats 4000000 in
theorem rPutT_any (w : World) (A : Option Addr) (n c : Nat) (l W : List ByteArray) (hr : Rs w A n l) (hc : n ≤ c) (hn : n ≤ 300) (hs : ∀ s ∈ l, s.size ≤ 310) (hW : IsWords W l) :
    Calls Tryz.prog 9 #[.slice A n c] w (ColOut w (putT l W).1 (putT l W).2) := by
  have HR := Lib.hid hr
  have HL := Lib.hid hr.len
  have HALL := Lib.hid (fun h0 => hr.all h0)
  obtain ⟨wa, hwa⟩ : ∃ wa, wa = w.alloc (.cells #[.int .i64 0, .int .i64 0, .int .i64 0, .slice none 0 0] 27) := ⟨_, rfl⟩
  have HBA : Hid (Below w.heap.size w wa) := Lib.hid (hwa ▸ (Below.refl w.heap.size w).alloc (Nat.le_refl _) _)
  have HKA : Hid (wa.heap[w.heap.size]? = some (.cells #[.int .i64 0, .int .i64 0, .int .i64 0, .slice none 0 0] 27 (0, 0))) := Lib.hid (hwa ▸ newBlkT w _)
  have hwz : w.heap.size < wa.heap.size := by rw [hwa]; simp
  clear hr
  go_enter Tryz.func9, Tryz.ntmps9
  go_wp2_with fail
  rw [← hwa]
  clear hwa
  go_loopg [4] n (fun gg v wr => ∃ j : Nat, v = .int .i64 j ∧ j ≤ n ∧ n - j ≤ gg ∧ Hid (∀ s ∈ l.take j, s.size ≤ 300) ∧ wr = wa)
  case atStart => exact ⟨0, rfl, by omega, by omega, Lib.hid (by simp), rfl⟩
  case round =>
  obtain ⟨j, rfl, hjn, hgg, hsm, rfl⟩ := hrel
  by_cases hlt : j < n
  · have t1 : decide (j < n) = true := decide_eq_true hlt
    obtain ⟨b, o, rfl, hbb, hcl⟩ := HALL.out (by omega)
    have hj : j < l.length := by have := HL.out; omega
    have k1 := (HBA.out.cell (p := ⟨b, o + j, none⟩) hbb).trans (hcl j hj)
    have HGT := Lib.hid (List.getElem?_eq_getElem hj)
    have HTK := Lib.hid (show l.take (j + 1) = l.take j ++ [l[j]] from List.take_succ_eq_append_getElem hj)
    generalize l[j] = x at k1 HGT HTK
    clear hcl
    by_cases hx : 300 < x.size
    · have t2 : decide ((300 : Int) < x.size) = true := decide_eq_true (by omega)
      have HE : Hid (putT l W = (⟨0, 0, 0, []⟩, 3)) := Lib.hid (by unfold putT; rw [if_pos (bigT_at HGT.out hx)])
      obtain ⟨⟨c0, f0⟩, ⟨c1, f1⟩, ⟨c2, f2⟩, ⟨c3, f3⟩⟩ := colSet_facts HKA.out (.int .i64 0) (.int .i64 0) (.int .i64 0)
      have HF := Lib.hid (colSet_heap HKA.out (.int .i64 0) (.int .i64 0) (.int .i64 0) (.slice none 0 0))
      have HBF := Lib.hid (colSet_below HBA.out (Nat.le_refl _) (.int .i64 0) (.int .i64 0) (.int .i64 0) (.slice none 0 0))
      go_wp2_with fail
      refine bodyPost_ret (v := .tuple #[.agg #[.int .i64 0, .int .i64 0, .int .i64 0, .slice none 0 0], .int .i64 3]) ?_ rfl ?_
      · rw [results_cell_tmp rfl]
        have d0 := cell_blkT HF.out 0
        have d1 := cell_blkT HF.out 1
        have d2 := cell_blkT HF.out 2
        have d3 := cell_blkT HF.out 3
        unfold colSet at d0 d1 d2 d3
        go_simp
      · rw [HE.out]
        exact ⟨_, _, _, rfl, StAt.nil _ _, Nat.le_refl _, Nat.zero_le _, HBF.out⟩
    · have t2 : decide ((300 : Int) < x.size) = false := decide_eq_false (by omega)
      have HS2 : Hid (∀ s ∈ l.take (j + 1), s.size ≤ 300) := Lib.hid fun s h => by
        rw [HTK.out] at h
        rcases List.mem_append.1 h with h | h
        · exact hsm.out s h
        · rw [List.mem_singleton.1 h]; omega
      go_wp2_with fail
      go_roundg (n - (j + 1))
      case measure => omega
      case rel => exact ⟨j + 1, by go_num, by omega, by omega, HS2, rfl⟩
  have t1 : decide (j < n) = false := decide_eq_false hlt
  have t2 : decide (4096 < n) = false := decide_eq_false (by omega)
  have HG : Hid (bigT l = false) := Lib.hid (bigT_upto (by have h := hsm.out; rwa [List.take_of_length_le (by have := HL.out; omega)] at h))
  go_wp2_with fail
  refine (rWords_own wr A n c l (HR.out.below HBA.out) (by omega)).mono ?_; rintro e w3 ⟨G, m, c', W', rfl, hown, hW', hmn, hb3⟩
  obtain rfl : W' = W := hW'.unique hW
  have hlW := hW.len
  have hwcap := own_cap hown
  have HRW := Lib.hid (Rs.of_own hown)
  have hWm := HRW.out.len
  have HSW : Hid (∀ s ∈ W', s.size ≤ 310) := Lib.hid fun s h => hs s ((hW.mem s).1 h)
  have HW := Lib.hid hW
  have HB3 := Lib.hid (on HBA.out hb3)
  have HK3 : Hid (w3.heap[w.heap.size]? = some (.cells #[.int .i64 0, .int .i64 0, .int .i64 0, .slice none 0 0] 27 (0, 0))) := Lib.hid ((hb3.block _ hwz).trans HKA.out)
  have HZ3 : Hid (w.heap.size < w3.heap.size) := Lib.hid (Nat.lt_of_lt_of_le hwz hb3.size)
  have HR3 := Lib.hid (HR.out.below HB3.out)
  clear hown hW' hW hb3 hwz HBA HKA hsm
  by_cases hsh : n < 2 * m
  · have t3 : decide ((n : Int) < 2 * (m : Int)) = true := decide_eq_true (by omega)
    obtain ⟨r, er, hrl⟩ : ∃ r er, putGl (lensT l) false = (r, er) := ⟨_, _, rfl⟩
    have HP : Hid (putT l W' = (⟨n, 1, 0, [(2, catT l), (3, r)]⟩, 0)) := Lib.hid (by unfold putT; rw [HG.out, if_neg (by simp), HL.out, if_pos (by omega), hrl])
    have HRL := Lib.hid hrl
    have HSZ : Hid (∀ s ∈ l, s.size ≤ 1000) := Lib.hid fun s h => Nat.le_trans (hs s h) (by omega)
    clear hrl
    go_wp2_with fail
    refine (all_any w3 A n c l HR3.out (by omega) HSZ.out r er HRL.out).mono ?_; rintro e w6 ⟨G1, n1, c1, G2, n2, c2, rfl, hs1, hs2, hb6⟩
    obtain ⟨ob, hob⟩ : ∃ ob, ob = Obj.cells #[.int .i64 2, .slice G1 n1 c1, .int .i64 3, .slice G2 n2 c2] 40 := ⟨_, rfl⟩
    have hal := (Below.refl w6.heap.size w6).alloc (Nat.le_refl _) ob
    have HB8 := Lib.hid (on (on HB3.out hb6) hal)
    have HZ6 : Hid (w.heap.size < w6.heap.size) := Lib.hid (Nat.lt_of_lt_of_le HZ3.out hb6.size)
    have hk8 : (w6.alloc ob).heap[w.heap.size]? = some (.cells #[.int .i64 0, .int .i64 0, .int .i64 0, .slice none 0 0] 27 (0, 0)) := (hal.block _ HZ6.out).trans ((hb6.block _ HZ3.out).trans HK3.out)
    have HK8 := Lib.hid hk8
    have HS1 := Lib.hid (hs1.below hal)
    have HS2 := Lib.hid (hs2.below hal)
    have HSB : Hid ((w6.alloc ob).heap[w6.heap.size]? = some ob) := Lib.hid (newBlkT w6 ob)
    obtain ⟨⟨c0, f0⟩, ⟨c1', f1⟩, ⟨c2', f2⟩, ⟨c3, f3⟩⟩ := colSet_facts hk8 (.int .i64 n) (.int .i64 1) (.int .i64 0)
    have HF := Lib.hid (colSet_heap hk8 (.int .i64 n) (.int .i64 1) (.int .i64 0) (.slice (some ⟨w6.heap.size, 0, none⟩) 2 2))
    rw [hob] at c0 f0 c1' f1 c2' f2 c3 f3
    clear hal hb6 hs1 hs2 hk8
    go_wp2_with fail
    subst hob
    refine bodyPost_ret (v := .tuple #[.agg #[.int .i64 n, .int .i64 1, .int .i64 0, .slice (some ⟨w6.heap.size, 0, none⟩) 2 2], .int .i64 0]) ?_ rfl ?_
    · rw [results_cell_tmp rfl]
      have d0 := cell_blkT HF.out 0
      have d1 := cell_blkT HF.out 1
      have d2 := cell_blkT HF.out 2
      have d3 := cell_blkT HF.out 3
      unfold colSet at d0 d1 d2 d3
      go_simp
    · rw [HP.out]
      refine ⟨_, _, _, rfl, ?_, Nat.le_refl _, by unfold maxLen; omega, colSet_below HB8.out (Nat.le_refl _) _ _ _ _⟩
      have hsb := (colSet_other (B := w.heap.size) (.int .i64 n) (.int .i64 1) (.int .i64 0) (.slice (some ⟨w6.heap.size, 0, none⟩) 2 2) (show w6.heap.size ≠ w.heap.size from by have := HZ6.out; omega)).trans HSB.out
      exact stAt_of (S := [(2, catT l), (3, r)]) hsb (fun i hi => by
        have hi2 : i = 0 ∨ i = 1 := by simp at hi; omega
        rcases hi2 with rfl | rfl
        · exact ⟨rfl, _, _, _, rfl, HS1.out.col HK8.out _ _ _ _⟩
        · exact ⟨rfl, _, _, _, rfl, HS2.out.col HK8.out _ _ _ _⟩)
  have t3 : decide ((n : Int) < 2 * (m : Int)) = false := decide_eq_false (by omega)
  have HMEM : Hid (∀ s ∈ l, s ∈ W') := Lib.hid fun s h => (HW.out.mem s).2 h
  have HPI := Lib.hid (placesT_i64 HMEM.out (by omega : W'.length ≤ 1000000))
  have HPL := Lib.hid (placesT_len W' l)
  have HALLL := Lib.hid (fun h0 => HR3.out.all h0)
  obtain ⟨w4, hw4⟩ : ∃ w4, w4 = w3.alloc (.cells #[] 3) := ⟨_, rfl⟩
  have hb4 : Below w3.heap.size w3 w4 := hw4 ▸ (Below.refl w3.heap.size w3).alloc (Nat.le_refl _) _
  have HOA : Hid (w4.ownsRow w3.heap.size 3 1 (.slice (some ⟨w3.heap.size, 0, none⟩) 0 0) 0 (((placesT W' l).take 0).map (Value.int .i64))) := Lib.hid (hw4 ▸ own_empty w3 3 1)
  have HB34 := Lib.hid hb4
  clear hb4 HALL hlt
  go_wp2_with fail
  rw [← hw4]
  clear hw4
  go_loopg [8, 9] n (fun gg v9 v wr => ∃ i : Nat, v = .int .i64 i ∧ i ≤ n ∧ n - i ≤ gg ∧ Hid (wr.ownsRow w3.heap.size 3 1 v9 i (((placesT W' l).take i).map (Value.int .i64))) ∧ Hid (Below w3.heap.size w3 wr))
  case atStart => exact ⟨0, rfl, by omega, by omega, HOA, HB34⟩
  case round =>
  obtain ⟨i, rfl, hin, hgi, hoa, hbv⟩ := hrel
  obtain ⟨GA, cA, hGA⟩ := own_form hoa.out
  subst hGA
  have hzv := hbv.out.size
  by_cases hlt : i < n
  · have t4 : decide (i < n) = true := decide_eq_true hlt
    obtain ⟨b, o, rfl, hbb, hcl⟩ := HALLL.out (by omega)
    have hi : i < l.length := by have := HL.out; omega
    have k1 := (hbv.out.cell (p := ⟨b, o + i, none⟩) hbb).trans (hcl i hi)
    have HXM := Lib.hid (HMEM.out _ (List.getElem_mem hi))
    have HPS : Hid ((placesT W' l).take (i + 1) = (placesT W' l).take i ++ [(idxT W' l[i] : Int)]) := Lib.hid (by
      rw [List.take_succ_eq_append_getElem (by rw [HPL.out]; exact hi)]
      simp [placesT])
    generalize l[i] = x at k1 HXM HPS
    have HOB := Lib.hid (Rd.one wr (.int .i64 (idxT W' x : Int)) 3)
    have HO24 := Lib.hid (own_below hoa.out ((Below.refl wr.heap.size wr).alloc (Nat.le_refl _) (.cells #[.int .i64 (idxT W' x : Int)] 3)))
    have HRWv := Lib.hid (HRW.out.below hbv.out)
    clear hcl
    go_wp2_with fail
    refine (place_any wr G m c' W' HRWv.out (by omega) x).mono ?_; rintro e wz ⟨⟨r, rfl, hp⟩, rfl⟩
    obtain rfl := place_idx HW.out.up HXM.out hp
    clear hp
    go_wp2_with (at_builtin; refine wpList_i64 _ rfl (.tmp 59) (.tmp 66) rfl w3.heap.size _ i _ rfl HO24.out _ 1 1 [(idxT W' x : Int)] rfl HOB.out (by omega) (by simp; omega) ?_; intro G4 c4 w4 ho4 hg4 _)
    have HB4 := Lib.hid (push_ hbv.out (Nat.le_refl _) hoa.out hg4)
    rw [← HPS.out] at ho4
    have HO4 := Lib.hid ho4
    clear ho4 hg4
    go_wp2_with fail
    go_roundg (n - (i + 1))
    case measure => omega
    case rel => exact ⟨i + 1, by go_num, by omega, by omega, HO4, HB4⟩
  have t4 : decide (i < n) = false := decide_eq_false hlt
  obtain rfl : i = n := by omega
  have hcapA := own_cap hoa.out
  have hri := Ri.of_own hoa.out
  rw [show (placesT W' l).take i = placesT W' l from List.take_of_length_le (by have := HL.out; have := HPL.out; omega)] at hri
  have HRI := Lib.hid hri
  obtain ⟨r1, er1, hr1⟩ : ∃ r1 er1, putGl (placesT W' l) false = (r1, er1) := ⟨_, _, rfl⟩
  have HR1 := Lib.hid hr1
  obtain ⟨r2, er2, hr2⟩ : ∃ r2 er2, putGl (lensT W') false = (r2, er2) := ⟨_, _, rfl⟩
  have HR2 := Lib.hid hr2
  have HP : Hid (putT l W' = (⟨i, 2, m, [(2, r1), (3, r2), (4, catT W')]⟩, 0)) := Lib.hid (by unfold putT; rw [HG.out, if_neg (by simp), HL.out, if_neg (by omega), hr1, hr2, hWm])
  have HSZ : Hid (∀ s ∈ W', s.size ≤ 1000) := Lib.hid fun s h => Nat.le_trans (HSW.out s h) (by omega)
  have HB9 := Lib.hid (on HB3.out hbv.out)
  have HK9 : Hid (wr.heap[w.heap.size]? = some (.cells #[.int .i64 0, .int .i64 0, .int .i64 0, .slice none 0 0] 27 (0, 0))) := Lib.hid ((hbv.out.block _ HZ3.out).trans HK3.out)
  have HRW9 := Lib.hid (HRW.out.below hbv.out)
  have HZ9 : Hid (w.heap.size < wr.heap.size) := Lib.hid (by have := HZ3.out; omega)
  clear hri hr1 hr2 HALLL HOA hlt hzv
  go_wp2_with fail
  refine (refPutGl_any wr GA i cA (placesT W' l) HRI.out HPI.out hcapA.1 hcapA.2 (by omega) false r1 er1 HR1.out).mono ?_; rintro e w10 ⟨G10, n10, c10, rfl, hs10, hb10⟩
  have HS10 := Lib.hid hs10
  have HB10 := Lib.hid (on HB9.out hb10)
  have HK10 := Lib.hid ((hb10.block _ HZ9.out).trans HK9.out)
  have HRW10 := Lib.hid (HRW9.out.below hb10)
  have HZ10 : Hid (w.heap.size < w10.heap.size) := Lib.hid (Nat.lt_of_lt_of_le HZ9.out hb10.size)
  clear hs10 hb10
  go_wp2_with fail
  refine (all_any w10 G m c' W' HRW10.out (by omega) HSZ.out r2 er2 HR2.out).mono ?_; rintro e w11 ⟨G12, n12, c12, G11, n11, c11, rfl, hs12, hs11, hb11⟩
  obtain ⟨ob, hob⟩ : ∃ ob, ob = Obj.cells #[.int .i64 2, .slice G10 n10 c10, .int .i64 3, .slice G11 n11 c11, .int .i64 4, .slice G12 n12 c12] 40 := ⟨_, rfl⟩
  have hal := (Below.refl w11.heap.size w11).alloc (Nat.le_refl _) ob
  have HB13 := Lib.hid (on (on HB10.out hb11) hal)
  have HZ12 : Hid (w.heap.size < w11.heap.size) := Lib.hid (Nat.lt_of_lt_of_le HZ10.out hb11.size)
  have hk13 : (w11.alloc ob).heap[w.heap.size]? = some (.cells #[.int .i64 0, .int .i64 0, .int .i64 0, .slice none 0 0] 27 (0, 0)) := (hal.block _ HZ12.out).trans ((hb11.block _ HZ10.out).trans HK10.out)
  have HK13 := Lib.hid hk13
  have HS1 := Lib.hid ((HS10.out.below hb11).below hal)
  have HS2 := Lib.hid (hs11.below hal)
  have HS3 := Lib.hid (hs12.below hal)
  have HSB : Hid ((w11.alloc ob).heap[w11.heap.size]? = some ob) := Lib.hid (newBlkT _ ob)
  obtain ⟨⟨c0, f0⟩, ⟨c1, f1⟩, ⟨c2, f2⟩, ⟨c3, f3⟩⟩ := colSet_facts hk13 (.int .i64 i) (.int .i64 2) (.int .i64 m)
  have HF := Lib.hid (colSet_heap hk13 (.int .i64 i) (.int .i64 2) (.int .i64 m) (.slice (some ⟨w11.heap.size, 0, none⟩) 3 3))
  rw [hob] at c0 f0 c1 f1 c2 f2 c3 f3
  clear hal hb11 hs11 hs12 hk13
  go_wp2_with fail
  subst hob
  refine bodyPost_ret (v := .tuple #[.agg #[.int .i64 i, .int .i64 2, .int .i64 m, .slice (some ⟨w11.heap.size, 0, none⟩) 3 3], .int .i64 0]) ?_ rfl ?_
  · rw [results_cell_tmp rfl]
    have d0 := cell_blkT HF.out 0
    have d1 := cell_blkT HF.out 1
    have d2 := cell_blkT HF.out 2
    have d3 := cell_blkT HF.out 3
    unfold colSet at d0 d1 d2 d3
    go_simp
  · rw [HP.out]
    refine ⟨_, _, _, rfl, ?_, Nat.le_refl _, by unfold maxLen; omega, colSet_below HB13.out (Nat.le_refl _) _ _ _ _⟩
    have hsb := (colSet_other (B := w.heap.size) (.int .i64 i) (.int .i64 2) (.int .i64 m) (.slice (some ⟨w11.heap.size, 0, none⟩) 3 3) (show w11.heap.size ≠ w.heap.size from by have := HZ12.out; omega)).trans HSB.out
    exact stAt_of (S := [(2, r1), (3, r2), (4, catT W')]) hsb (fun y hy => by
      have hy2 : y = 0 ∨ y = 1 ∨ y = 2 := by simp at hy; omega
      rcases hy2 with rfl | rfl | rfl
      · exact ⟨rfl, _, _, _, rfl, HS1.out.col HK13.out _ _ _ _⟩
      · exact ⟨rfl, _, _, _, rfl, HS2.out.col HK13.out _ _ _ _⟩
      · exact ⟨rfl, _, _, _, rfl, HS3.out.col HK13.out _ _ _ _⟩)
end Go.Proofs.YtmejoococajikaaGreat

/- Joined texts: Shown15, TxA, LawTx1. Each has its own head line. No condition beyond those that its theorems state. -/
import Derived.Test.YtmejoococajikaaGreatJ44
import Derived.Test.YtmejoococajikaaGreatJ39
import Derived.Test.YtmejoococajikaaGreatJ47
set_option linter.unusedVariables false

/- The document's examples of layer 15. -/
namespace Go.Proofs.YtmejoococajikaaGreat
open Go.RowKit

def exA : List ByteArray := [⟨#[97, 98]⟩, ⟨#[99]⟩]
def exB : List ByteArray := [⟨#[98]⟩, ⟨#[97]⟩, ⟨#[98]⟩, ⟨#[98]⟩]
def exW : List ByteArray := [⟨#[97]⟩, ⟨#[98]⟩]
theorem words_exA : IsWords exA exA := ⟨by unfold Rising exA; decide, fun _ => Iff.rfl⟩
theorem words_exB : IsWords exW exB := ⟨by unfold Rising exW; decide, fun x => by
  simp only [exW, exB, List.mem_cons, List.not_mem_nil, or_false]
  constructor
  · rintro (h | h)
    · exact .inr (.inl h)
    · exact .inl h
  · rintro (h | h | h | h)
    · exact .inr h
    · exact .inl h
    · exact .inr h
    · exact .inr h⟩
theorem put_exA : putT exA exA = (⟨2, 1, 0, [(2, [97, 98, 99]), (3, [66, 1, 144])]⟩, 0) := by kernel_rfl
theorem put_exB : putT exB exW = (⟨4, 2, 2, [(2, [64, 3, 176]), (3, [64, 1, 192]), (4, [97, 98])]⟩, 0) := by kernel_rfl
theorem zA : (putGl (placesT exA exA) false).2 = 0 := by kernel_rfl
theorem zB : (putGl (placesT exW exB) false).2 = 0 := by kernel_rfl
/-- A literal row of texts. -/
theorem rs_lit (w : World) (l : List ByteArray) (t : TypeId) : Rs (w.alloc (.cells (l.map Value.string).toArray t)) (some ⟨w.heap.size, 0, none⟩) l.length l :=
  ⟨by simp, fun _ => ⟨w.heap.size, 0, rfl, by simp, fun j u hu => by
    rw [Nat.zero_add, cell_blkT (newBlkT w _), List.getElem?_toArray]
    exact hu⟩⟩
set_option maxRecDepth 100000 in
set_option maxHeartbeats 1000000 in
theorem shown15_any (w : World) :
    Calls Tryz.prog 6 #[] w fun e w' => e = .returned (.bool true) ∧ Below w.heap.size w w' := by
  have HA := Lib.hid (rs_lit w exA 9)
  have HBA := Lib.hid ((Below.refl w.heap.size w).alloc (Nat.le_refl _) (.cells (exA.map Value.string).toArray 9))
  go_enter Tryz.func6, Tryz.ntmps6
  go_wp2_with fail
  refine (PutT_any (w.alloc (.cells (exA.map Value.string).toArray 9)) _ 2 2 exA exA HA.out (by omega) (by omega) (by decide) words_exA zA).mono ?_; rintro e w1 ⟨A1, n1, k1, rfl, hs1, hn1, hk1, hb1⟩
  rw [put_exA] at hs1 ⊢
  have HB1 := Lib.hid (on HBA.out hb1)
  have HS1 := Lib.hid hs1
  clear hb1 hs1
  go_wp2_with fail
  obtain ⟨wa, hwa⟩ : ∃ wa, wa = w1.alloc (.cells #[.int .i64 2, .int .i64 1, .int .i64 0, .slice A1 n1 k1] 27) := ⟨_, rfl⟩
  have hza : wa.heap.size = w1.heap.size + 1 := by rw [hwa]; simp
  have hal : Below w1.heap.size w1 wa := hwa ▸ (Below.refl w1.heap.size w1).alloc (Nat.le_refl _) _
  have HKA : Hid (wa.heap[w1.heap.size]? = some (.cells #[.int .i64 2, .int .i64 1, .int .i64 0, .slice A1 n1 k1] 27 (0, 0))) := Lib.hid (hwa ▸ newBlkT w1 _)
  rw [← hwa, ← hza]
  have HB2 := Lib.hid (on HB1.out hal)
  have HS2 := Lib.hid (HS1.out.below hal)
  clear hwa hal
  refine (PutT_any (wa.alloc (.cells (exB.map Value.string).toArray 9)) _ 4 4 exB exW (rs_lit wa exB 9) (by omega) (by omega) (by decide) words_exB zB).mono ?_; rintro e w2 ⟨A2, n2, k2, rfl, hs2, hn2, hk2, hb2⟩
  rw [put_exB] at hs2 ⊢
  have hbq := ((Below.refl wa.heap.size wa).alloc (Nat.le_refl _) (.cells (exB.map Value.string).toArray 9)).trans (hb2.mono (by simp))
  have hl1 : w1.heap.size < wa.heap.size := by omega
  obtain ⟨wb, hwb⟩ : ∃ wb, wb = w2.alloc (.cells #[.int .i64 4, .int .i64 2, .int .i64 2, .slice A2 n2 k2] 27) := ⟨_, rfl⟩
  have hal2 : Below w2.heap.size w2 wb := hwb ▸ (Below.refl w2.heap.size w2).alloc (Nat.le_refl _) _
  have hka := (hal2.block _ (Nat.lt_of_lt_of_le hl1 hbq.size)).trans ((hbq.block _ hl1).trans HKA.out)
  have hkb : wb.heap[w2.heap.size]? = some (.cells #[.int .i64 4, .int .i64 2, .int .i64 2, .slice A2 n2 k2] 27 (0, 0)) := hwb ▸ newBlkT w2 _
  have ca0 := cell_blkT hka 0
  have ca1 := cell_blkT hka 1
  have ca2 := cell_blkT hka 2
  have ca3 := cell_blkT hka 3
  have cb0 := cell_blkT hkb 0
  have cb1 := cell_blkT hkb 1
  have cb2 := cell_blkT hkb 2
  have cb3 := cell_blkT hkb 3
  have HBF := Lib.hid (on (on HB2.out hbq) hal2)
  have hsa := (HS2.out.below hbq).below hal2
  have hsb := hs2.below hal2
  obtain rfl : n1 = 2 := hsa.1.symm
  obtain rfl : n2 = 3 := hsb.1.symm
  obtain ⟨p, o, rfl, _, ha⟩ := hsa.2 (by omega)
  obtain ⟨g, d, rfl, _, hb⟩ := hsb.2 (by omega)
  obtain ⟨x0, G0, m0, q0, y0, s0⟩ := ha 0 (by decide)
  obtain ⟨x1, G1, m1, q1, y1, s1⟩ := ha 1 (by decide)
  obtain ⟨x2, G2, m2, q2, y2, s2⟩ := hb 0 (by decide)
  obtain ⟨x3, G3, m3, q3, y3, s3⟩ := hb 1 (by decide)
  obtain ⟨x4, G4, m4, q4, y4, s4⟩ := hb 2 (by decide)
  have v0 := conv_any (c := q0) s0.1
  have v1 := conv_any (c := q1) s1.1
  have v2 := conv_any (c := q2) s2.1
  have v3 := conv_any (c := q3) s3.1
  have v4 := conv_any (c := q4) s4.1
  have e0 : (strOf [97, 98, 99]).toList = [97, 98, 99] := strOf_toList _
  have e1 : (strOf [66, 1, 144]).toList = [66, 1, 144] := strOf_toList _
  have e2 : (strOf [64, 3, 176]).toList = [64, 3, 176] := strOf_toList _
  have e3 : (strOf [64, 1, 192]).toList = [64, 1, 192] := strOf_toList _
  have e4 : (strOf [97, 98]).toList = [97, 98] := strOf_toList _
  simp only [Nat.zero_mul, Nat.add_zero, Nat.one_mul, Nat.reduceMul] at x0 y0 x1 y1 x2 y2 x3 y3 x4 y4
  clear hs2 hn2 hk2 hb2 hbq hal2 hka hkb hsa hsb ha hb s0 s1 s2 s3 s4 HS1 HS2 HKA
  rw [hwb] at ca0 ca1 ca2 ca3 cb0 cb1 cb2 cb3 x0 y0 x1 y1 x2 y2 x3 y3 x4 y4 v0 v1 v2 v3 v4
  go_wp2_with fail
  go_ret
  exact ⟨rfl, hwb ▸ HBF.out⟩
end Go.Proofs.YtmejoococajikaaGreat

/- Texts: few, lengths, all. -/
namespace Go.Proofs.YtmejoococajikaaGreat
open Go.RowKit

set_option maxRecDepth 100000 in
set_option maxHeartbeats 2000000 in
theorem few15_any (w : World) (A : Option Addr) (n c : Nat) (l : List ByteArray) (hr : Rs w A n l) (hn : n ≤ maxLen) :
    Calls Tryz.prog 7 #[.slice A n c] w fun e w' => ∃ G m c' L, e = .returned (.slice G m c') ∧ Rs w' G m L ∧ (∀ s ∈ L, s.size ≤ 310) ∧ m ≤ 300 ∧ m ≤ c' ∧ c' ≤ maxLen ∧ Below w.heap.size w w' := by
  unfold maxLen at hn
  have HL := Lib.hid hr.len
  have HALL := Lib.hid (fun h0 => hr.all h0)
  clear hr
  have HO := Lib.hid (own_empty w 9 1)
  have HB := Lib.hid ((Below.refl w.heap.size w).alloc (Nat.le_refl _) (.cells #[] 9))
  go_enter Tryz.func7, Tryz.ntmps7
  go_wp2_with fail
  go_loopg [3, 4] 300 (fun gg v3 v wr => ∃ (j : Nat) (O : List ByteArray), v = .int .i64 j ∧ j ≤ n ∧ j ≤ 300 ∧ 300 - j ≤ gg ∧ Hid (wr.ownsRow w.heap.size 9 1 v3 j (O.map Value.string)) ∧ Hid (∀ s ∈ O, s.size ≤ 310) ∧ Hid (Below w.heap.size w wr))
  case atStart => exact ⟨0, [], rfl, by omega, by omega, by omega, HO, Lib.hid (by simp), HB⟩
  case round =>
    obtain ⟨j, O, rfl, hjN, hj3, hgg, ho, hs, hb⟩ := hrel
    obtain ⟨G, cG, hG⟩ := own_form ho.out
    subst hG
    have hz := hb.out.size
    have hcap := own_cap ho.out
    have HCAP := Lib.hid hcap
    clear hcap
    by_cases hlt : j < n
    · have t1 : decide (j < n) = true := decide_eq_true hlt
      by_cases hl3 : j < 300
      · have t2 : decide (j < 300) = true := decide_eq_true hl3
        obtain ⟨b, o, rfl, hbb, hc⟩ := HALL.out (by omega)
        have hj : j < l.length := by rw [HL.out]; exact hlt
        have k1 := (hb.out.cell (p := ⟨b, o + j, none⟩) hbb).trans (hc j hj)
        generalize l[j] = x at k1
        clear hc
        by_cases hx : 310 < x.size
        · have t3 : decide ((310 : Int) < x.size) = true := decide_eq_true (by omega)
          have HOB := Lib.hid (Rs.one wr (x.extract 0 310) 9)
          have HO2 := Lib.hid (ho.out.alloc (.cells #[.string (x.extract 0 310)] 9))
          go_wp2_with (at_builtin; refine wpList_str _ rfl (.tmp 26) (.tmp 28) rfl w.heap.size _ j _ rfl HO2.out _ _ _ [x.extract 0 310] rfl HOB.out (by omega) (by simp; omega) ?_; intro G2 c3 w3 ho3 hg3 _)
          have HB3 := Lib.hid (push_ hb.out (Nat.le_refl _) ho.out hg3)
          have HO3 := Lib.hid ho3
          have HS3 : Hid (∀ s ∈ O ++ [x.extract 0 310], s.size ≤ 310) := Lib.hid fun s h => by
            rcases List.mem_append.1 h with h | h
            · exact hs.out s h
            · rw [List.mem_singleton.1 h, ByteArray.size_extract]; omega
          clear ho3 hg3
          go_wp2_with fail
          go_roundg (300 - (j + 1))
          case measure => omega
          case rel => exact ⟨j + 1, _, by go_num, by omega, by omega, by omega, HO3, HS3, HB3⟩
        · have t3 : decide ((310 : Int) < x.size) = false := decide_eq_false (by omega)
          have HOB := Lib.hid (Rs.one wr x 9)
          have HO2 := Lib.hid (ho.out.alloc (.cells #[.string x] 9))
          go_wp2_with (at_builtin; refine wpList_str _ rfl (.tmp 26) (.tmp 28) rfl w.heap.size _ j _ rfl HO2.out _ _ _ [x] rfl HOB.out (by omega) (by simp; omega) ?_; intro G2 c3 w3 ho3 hg3 _)
          have HB3 := Lib.hid (push_ hb.out (Nat.le_refl _) ho.out hg3)
          have HO3 := Lib.hid ho3
          have HS3 : Hid (∀ s ∈ O ++ [x], s.size ≤ 310) := Lib.hid fun s h => by
            rcases List.mem_append.1 h with h | h
            · exact hs.out s h
            · rw [List.mem_singleton.1 h]; omega
          clear ho3 hg3
          go_wp2_with fail
          go_roundg (300 - (j + 1))
          case measure => omega
          case rel => exact ⟨j + 1, _, by go_num, by omega, by omega, by omega, HO3, HS3, HB3⟩
      · have t2 : decide (j < 300) = false := decide_eq_false hl3
        go_wp2_with fail
        go_ret
        exact ⟨_, _, _, O, rfl, Rs.of_own ho.out, hs.out, hj3, HCAP.out.1, by unfold maxLen; exact HCAP.out.2, hb.out⟩
    · have t1 : decide (j < n) = false := decide_eq_false hlt
      go_wp2_with fail
      go_ret
      exact ⟨_, _, _, O, rfl, Rs.of_own ho.out, hs.out, hj3, HCAP.out.1, by unfold maxLen; exact HCAP.out.2, hb.out⟩
end Go.Proofs.YtmejoococajikaaGreat

/- The walk through TextsPuts. -/
namespace Go.Proofs.YtmejoococajikaaGreat
open Go.RowKit

set_option maxRecDepth 100000 in
set_option maxHeartbeats 4000000 in
theorem TextsPuts_walk (w : World) (A : Option Addr) (n cap : Nat) (l : List ByteArray) (hl : Rs w A n l) (_hs : ∀ s ∈ l, s.size ≤ maxLen) (hc : n ≤ cap) (hm : cap ≤ maxLen) :
    Calls Tryz.prog 3 #[.slice A n cap] w fun e w' => e = .returned (.bool true) ∧ Below w.heap.size w w' := by
  have HL := Lib.hid hl
  clear hl
  go_enter Tryz.func3, Tryz.ntmps3
  go_wp2_with fail
  refine (shown15_any w).mono ?_; rintro e w1 ⟨rfl, hb1⟩
  have HL1 := Lib.hid (HL.out.below hb1)
  have HB1 := Lib.hid hb1
  clear hb1
  go_wp2_with fail
  refine (few15_any w1 A n cap l HL1.out (Nat.le_trans hc hm)).mono ?_; rintro e w2 ⟨G, m, c, L, rfl, hr2, hs2, hm3, hmc, hcm, hb2⟩
  have HR2 := Lib.hid hr2
  have HB2 := Lib.hid (on HB1.out hb2)
  have HS2 := Lib.hid hs2
  have HW : Hid (∃ W, IsWords W L) := Lib.hid ⟨_, words_of_sorted L⟩
  clear hr2 hb2 hs2
  obtain ⟨W, hW⟩ := HW.out
  have HIW := Lib.hid hW
  have hlen := hW.len
  have hL3 := HR2.out.len
  have HZ := Lib.hid (putGl_nn (placesT W L) (placesT_i64 (fun s h => (hW.mem s).2 h) (by omega)) (placesT_nn W L) (by rw [placesT_len]; omega))
  obtain ⟨cc, er, hput⟩ : ∃ cc er, putT L W = (cc, er) := ⟨_, _, rfl⟩
  have HC1 := Lib.hid (show ∀ v : World, Rs v G m L → Calls Tryz.prog 8 #[.slice G m c] v (ColOut v cc er) from fun v hv => by
    have h := PutT_any v G m c L W hv hmc hm3 HS2.out HIW.out HZ.out
    rwa [hput] at h)
  have HC2 := Lib.hid (show ∀ v : World, Rs v G m L → Calls Tryz.prog 9 #[.slice G m c] v (ColOut v cc er) from fun v hv => by
    have h := rPutT_any v G m c L W hv hmc hm3 HS2.out HIW.out
    rwa [hput] at h)
  have HPUT := Lib.hid hput
  clear hW hput HW
  go_wp2_with fail
  refine (HC1.out w2 HR2.out).mono ?_; rintro e w3 ⟨A3, n3, k3, rfl, hst3, hnk3, hkm3, hb3⟩
  obtain ⟨wa, hwa⟩ : ∃ wa, wa = w3.alloc (.cells #[.int .i64 cc.many, .int .i64 cc.enc, .int .i64 cc.texts, .slice A3 n3 k3] 27) := ⟨_, rfl⟩
  have hza : wa.heap.size = w3.heap.size + 1 := by rw [hwa]; simp
  have hal : Below w3.heap.size w3 wa := hwa ▸ (Below.refl w3.heap.size w3).alloc (Nat.le_refl _) _
  have HKA : Hid (wa.heap[w3.heap.size]? = some (.cells #[.int .i64 cc.many, .int .i64 cc.enc, .int .i64 cc.texts, .slice A3 n3 k3] 27 (0, 0))) := Lib.hid (hwa ▸ newBlkT w3 _)
  have hb3a := hb3.trans (hal.mono hb3.size)
  have HBA := Lib.hid (on HB2.out hb3a)
  have HRA := Lib.hid (HR2.out.below hb3a)
  have HSA := Lib.hid (hst3.below hal)
  clear hb3 hb3a hal hst3 hnk3 hkm3
  go_wp2_with fail
  rw [← hwa]
  clear hwa
  refine (HC2.out wa HRA.out).mono ?_; rintro e w4 ⟨A4, n4, k4, rfl, hst4, _, _, hb4⟩
  obtain ⟨wb, hwb⟩ : ∃ wb, wb = w4.alloc (.cells #[.int .i64 cc.many, .int .i64 cc.enc, .int .i64 cc.texts, .slice A4 n4 k4] 27) := ⟨_, rfl⟩
  have hal2 : Below w4.heap.size w4 wb := hwb ▸ (Below.refl w4.heap.size w4).alloc (Nat.le_refl _) _
  have hb4b := hb4.trans (hal2.mono hb4.size)
  have hka := (hb4b.block _ (by omega)).trans HKA.out
  have hkb : wb.heap[w4.heap.size]? = some (.cells #[.int .i64 cc.many, .int .i64 cc.enc, .int .i64 cc.texts, .slice A4 n4 k4] 27 (0, 0)) := hwb ▸ newBlkT w4 _
  have ca0 := cell_blkT hka 0
  have ca1 := cell_blkT hka 1
  have ca2 := cell_blkT hka 2
  have ca3 := cell_blkT hka 3
  have cb0 := cell_blkT hkb 0
  have cb1 := cell_blkT hkb 1
  have cb2 := cell_blkT hkb 2
  have cb3 := cell_blkT hkb 3
  have HBB := Lib.hid (on HBA.out hb4b)
  have HRB := Lib.hid (HRA.out.below hb4b)
  have HS3 := Lib.hid (HSA.out.below hb4b)
  have HS4 := Lib.hid (hst4.below hal2)
  have e3 := HS3.out.1
  have e4 := HS4.out.1
  have e5 : n4 = n3 := by omega
  have HN3 : Hid (n3 ≤ 1000000) := Lib.hid (by
    have : cc.st.length ≤ 3 := by
      have h : cc = (putT L W).1 := by rw [HPUT.out]
      rw [h]
      unfold putT
      split
      · simp
      · split <;> simp
    omega)
  subst e5
  rw [hwb] at ca0 ca1 ca2 ca3 cb0 cb1 cb2 cb3
  clear hb4 hb4b hal2 hka hkb hst4 e3 e4
  go_wp2_with fail
  rw [← hwb]
  clear ca0 ca1 ca2 ca3 cb0 cb1 cb2 cb3 hwb
  refine (SameColumn_any wb cc.many cc.enc cc.texts A3 A4 n4 k3 k4 cc.st HS3.out HS4.out HN3.out).mono ?_; rintro e w5 ⟨rfl, hb5⟩
  have HB5 := Lib.hid (on HBB.out hb5)
  have HR5 := Lib.hid (HRB.out.below hb5)
  clear hb5
  go_wp2_with fail
  refine (Words_any w5 G m c L HR5.out (by omega)).mono ?_; rintro e w6 ⟨G6, m6, c6, W6, rfl, hr6, hw6, hm6, _, _, hb6⟩
  have e6 := hw6.unique HIW.out
  subst e6
  have HR6 := Lib.hid (HR5.out.below hb6)
  have HW6 := Lib.hid hr6
  have HB6 := Lib.hid (on HB5.out hb6)
  clear hr6 hw6 hb6
  go_wp2_with fail
  refine (rWords_own w6 G m c L HR6.out (by omega)).mono ?_; rintro e w7 ⟨G7, m7, c7, W7, rfl, hr7, hw7, hm7, hb7⟩
  have e7 := hw7.unique HIW.out
  subst e7
  have HW7 := Lib.hid (HW6.out.below hb7)
  have HV7 := Lib.hid (Rs.of_own hr7)
  have HB7 := Lib.hid (on HB6.out hb7)
  clear hr7 hw7 hb7
  go_wp2_with fail
  refine (rSame15_any w7 G6 G7 m6 m7 c6 c7 _ _ HW7.out HV7.out (by omega) (by omega)).mono ?_; rintro e w8 ⟨rfl, q8, rfl⟩
  rw [decide_eq_true rfl]
  go_wp2_with fail
  go_ret
  exact ⟨rfl, bdN HB7.out q8⟩
end Go.Proofs.YtmejoococajikaaGreat

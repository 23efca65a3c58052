/- Joined texts: Shown15, TxA, LawTx3. Each has its own head line. No condition beyond those that its theorems state. -/
import Derived.Test.YtmejoococajikaaJ46
import Derived.Test.YtmejoococajikaaJ42
set_option linter.unusedVariables false

/- The document's examples of layer 15. -/
namespace Go.Proofs.Ytmejoococajikaa
open Go.RowKit

def exA : List ByteArray := [⟨#[97, 98]⟩, ⟨#[99]⟩]
def exB : List ByteArray := [⟨#[98]⟩, ⟨#[97]⟩, ⟨#[98]⟩, ⟨#[98]⟩]
def exW : List ByteArray := [⟨#[97]⟩, ⟨#[98]⟩]
theorem words_exA : IsWords exA exA := ⟨by unfold Rising exA; decide, fun _ => Iff.rfl⟩
theorem words_exB : IsWords exW exB := ⟨by unfold Rising exW; decide, fun x => by
  simp only [exW, exB, List.mem_cons, List.not_mem_nil, or_false]
  constructor
  · rintro (h | h)
    · exact .inr (.inl h)
    · exact .inl h
  · rintro (h | h | h | h)
    · exact .inr h
    · exact .inl h
    · exact .inr h
    · exact .inr h⟩
theorem put_exA : putT exA exA = (⟨2, 1, 0, [(2, [97, 98, 99]), (3, [66, 1, 144])]⟩, 0) := by kernel_rfl
theorem put_exB : putT exB exW = (⟨4, 2, 2, [(2, [64, 3, 176]), (3, [64, 1, 192]), (4, [97, 98])]⟩, 0) := by kernel_rfl
theorem zA : (putGl (placesT exA exA) false).2 = 0 := by kernel_rfl
theorem zB : (putGl (placesT exW exB) false).2 = 0 := by kernel_rfl
/-- A literal row of texts. -/
theorem rs_lit (w : World) (l : List ByteArray) (t : TypeId) : Rs (w.alloc (.cells (l.map Value.string).toArray t)) (some ⟨w.heap.size, 0, none⟩) l.length l :=
  ⟨by simp, fun _ => ⟨w.heap.size, 0, rfl, by simp, fun j u hu => by
    rw [Nat.zero_add, cell_blkT (newBlkT w _), List.getElem?_toArray]
    exact hu⟩⟩
set_option maxRecDepth 100000 in
set_option maxHeartbeats 1000000 in
theorem shown15_any (w : World) :
    Calls Try.prog 7 #[] w fun e w' => e = .returned (.bool true) ∧ Below w.heap.size w w' := by
  have HA := Lib.hid (rs_lit w exA 9)
  have HBA := Lib.hid ((Below.refl w.heap.size w).alloc (Nat.le_refl _) (.cells (exA.map Value.string).toArray 9))
  go_enter Try.func7, Try.ntmps7
  go_wp2_with fail
  refine (PutT_any (w.alloc (.cells (exA.map Value.string).toArray 9)) _ 2 2 exA exA HA.out (by omega) (by omega) (by decide) words_exA zA).mono ?_; rintro e w1 ⟨A1, n1, k1, rfl, hs1, hn1, hk1, hb1⟩
  rw [put_exA] at hs1 ⊢
  have HB1 := Lib.hid (on HBA.out hb1)
  have HS1 := Lib.hid hs1
  clear hb1 hs1
  go_wp2_with fail
  obtain ⟨wa, hwa⟩ : ∃ wa, wa = w1.alloc (.cells #[.int .i64 2, .int .i64 1, .int .i64 0, .slice A1 n1 k1] 28) := ⟨_, rfl⟩
  have hza : wa.heap.size = w1.heap.size + 1 := by rw [hwa]; simp
  have hal : Below w1.heap.size w1 wa := hwa ▸ (Below.refl w1.heap.size w1).alloc (Nat.le_refl _) _
  have HKA : Hid (wa.heap[w1.heap.size]? = some (.cells #[.int .i64 2, .int .i64 1, .int .i64 0, .slice A1 n1 k1] 28 (0, 0))) := Lib.hid (hwa ▸ newBlkT w1 _)
  rw [← hwa, ← hza]
  have HB2 := Lib.hid (on HB1.out hal)
  have HS2 := Lib.hid (HS1.out.below hal)
  clear hwa hal
  refine (PutT_any (wa.alloc (.cells (exB.map Value.string).toArray 9)) _ 4 4 exB exW (rs_lit wa exB 9) (by omega) (by omega) (by decide) words_exB zB).mono ?_; rintro e w2 ⟨A2, n2, k2, rfl, hs2, hn2, hk2, hb2⟩
  rw [put_exB] at hs2 ⊢
  have hbq := ((Below.refl wa.heap.size wa).alloc (Nat.le_refl _) (.cells (exB.map Value.string).toArray 9)).trans (hb2.mono (by simp))
  have hl1 : w1.heap.size < wa.heap.size := by omega
  obtain ⟨wb, hwb⟩ : ∃ wb, wb = w2.alloc (.cells #[.int .i64 4, .int .i64 2, .int .i64 2, .slice A2 n2 k2] 28) := ⟨_, rfl⟩
  have hal2 : Below w2.heap.size w2 wb := hwb ▸ (Below.refl w2.heap.size w2).alloc (Nat.le_refl _) _
  have hka := (hal2.block _ (Nat.lt_of_lt_of_le hl1 hbq.size)).trans ((hbq.block _ hl1).trans HKA.out)
  have hkb : wb.heap[w2.heap.size]? = some (.cells #[.int .i64 4, .int .i64 2, .int .i64 2, .slice A2 n2 k2] 28 (0, 0)) := hwb ▸ newBlkT w2 _
  have ca0 := cell_blkT hka 0
  have ca1 := cell_blkT hka 1
  have ca2 := cell_blkT hka 2
  have ca3 := cell_blkT hka 3
  have cb0 := cell_blkT hkb 0
  have cb1 := cell_blkT hkb 1
  have cb2 := cell_blkT hkb 2
  have cb3 := cell_blkT hkb 3
  have HBF := Lib.hid (on (on HB2.out hbq) hal2)
  have hsa := (HS2.out.below hbq).below hal2
  have hsb := hs2.below hal2
  obtain rfl : n1 = 2 := hsa.1.symm
  obtain rfl : n2 = 3 := hsb.1.symm
  obtain ⟨p, o, rfl, _, ha⟩ := hsa.2 (by omega)
  obtain ⟨g, d, rfl, _, hb⟩ := hsb.2 (by omega)
  obtain ⟨x0, G0, m0, q0, y0, s0⟩ := ha 0 (by decide)
  obtain ⟨x1, G1, m1, q1, y1, s1⟩ := ha 1 (by decide)
  obtain ⟨x2, G2, m2, q2, y2, s2⟩ := hb 0 (by decide)
  obtain ⟨x3, G3, m3, q3, y3, s3⟩ := hb 1 (by decide)
  obtain ⟨x4, G4, m4, q4, y4, s4⟩ := hb 2 (by decide)
  have v0 := conv_any (c := q0) s0.1
  have v1 := conv_any (c := q1) s1.1
  have v2 := conv_any (c := q2) s2.1
  have v3 := conv_any (c := q3) s3.1
  have v4 := conv_any (c := q4) s4.1
  have e0 : (strOf [97, 98, 99]).toList = [97, 98, 99] := strOf_toList _
  have e1 : (strOf [66, 1, 144]).toList = [66, 1, 144] := strOf_toList _
  have e2 : (strOf [64, 3, 176]).toList = [64, 3, 176] := strOf_toList _
  have e3 : (strOf [64, 1, 192]).toList = [64, 1, 192] := strOf_toList _
  have e4 : (strOf [97, 98]).toList = [97, 98] := strOf_toList _
  simp only [Nat.zero_mul, Nat.add_zero, Nat.one_mul, Nat.reduceMul] at x0 y0 x1 y1 x2 y2 x3 y3 x4 y4
  clear hs2 hn2 hk2 hb2 hbq hal2 hka hkb hsa hsb ha hb s0 s1 s2 s3 s4 HS1 HS2 HKA
  rw [hwb] at ca0 ca1 ca2 ca3 cb0 cb1 cb2 cb3 x0 y0 x1 y1 x2 y2 x3 y3 x4 y4 v0 v1 v2 v3 v4
  go_wp2_with fail
  go_ret
  exact ⟨rfl, hwb ▸ HBF.out⟩
end Go.Proofs.Ytmejoococajikaa

/- Texts: few, lengths, all. -/
namespace Go.Proofs.Ytmejoococajikaa
open Go.RowKit

set_option maxRecDepth 100000 in
set_option maxHeartbeats 2000000 in
theorem few15_any (w : World) (A : Option Addr) (n c : Nat) (l : List ByteArray) (hr : Rs w A n l) (hn : n ≤ maxLen) :
    Calls Try.prog 9 #[.slice A n c] w fun e w' => ∃ G m c' L, e = .returned (.slice G m c') ∧ Rs w' G m L ∧ (∀ s ∈ L, s.size ≤ 310) ∧ m ≤ 300 ∧ m ≤ c' ∧ c' ≤ maxLen ∧ Below w.heap.size w w' := by
  unfold maxLen at hn
  have HL := Lib.hid hr.len
  have HALL := Lib.hid (fun h0 => hr.all h0)
  clear hr
  have HO := Lib.hid (own_empty w 9 1)
  have HB := Lib.hid ((Below.refl w.heap.size w).alloc (Nat.le_refl _) (.cells #[] 9))
  go_enter Try.func9, Try.ntmps9
  go_wp2_with fail
  go_loopg [3, 4] 300 (fun gg v3 v wr => ∃ (j : Nat) (O : List ByteArray), v = .int .i64 j ∧ j ≤ n ∧ j ≤ 300 ∧ 300 - j ≤ gg ∧ Hid (wr.ownsRow w.heap.size 9 1 v3 j (O.map Value.string)) ∧ Hid (∀ s ∈ O, s.size ≤ 310) ∧ Hid (Below w.heap.size w wr))
  case atStart => exact ⟨0, [], rfl, by omega, by omega, by omega, HO, Lib.hid (by simp), HB⟩
  case round =>
    obtain ⟨j, O, rfl, hjN, hj3, hgg, ho, hs, hb⟩ := hrel
    obtain ⟨G, cG, hG⟩ := own_form ho.out
    subst hG
    have hz := hb.out.size
    have hcap := own_cap ho.out
    have HCAP := Lib.hid hcap
    clear hcap
    by_cases hlt : j < n
    · have t1 : decide (j < n) = true := decide_eq_true hlt
      by_cases hl3 : j < 300
      · have t2 : decide (j < 300) = true := decide_eq_true hl3
        obtain ⟨b, o, rfl, hbb, hc⟩ := HALL.out (by omega)
        have hj : j < l.length := by rw [HL.out]; exact hlt
        have k1 := (hb.out.cell (p := ⟨b, o + j, none⟩) hbb).trans (hc j hj)
        generalize l[j] = x at k1
        clear hc
        by_cases hx : 310 < x.size
        · have t3 : decide ((310 : Int) < x.size) = true := decide_eq_true (by omega)
          have HOB := Lib.hid (Rs.one wr (x.extract 0 310) 9)
          have HO2 := Lib.hid (ho.out.alloc (.cells #[.string (x.extract 0 310)] 9))
          go_wp2_with (at_builtin; refine wpList_str _ rfl (.tmp 26) (.tmp 28) rfl w.heap.size _ j _ rfl HO2.out _ _ _ [x.extract 0 310] rfl HOB.out (by omega) (by simp; omega) ?_; intro G2 c3 w3 ho3 hg3 _)
          have HB3 := Lib.hid (push_ hb.out (Nat.le_refl _) ho.out hg3)
          have HO3 := Lib.hid ho3
          have HS3 : Hid (∀ s ∈ O ++ [x.extract 0 310], s.size ≤ 310) := Lib.hid fun s h => by
            rcases List.mem_append.1 h with h | h
            · exact hs.out s h
            · rw [List.mem_singleton.1 h, ByteArray.size_extract]; omega
          clear ho3 hg3
          go_wp2_with fail
          go_roundg (300 - (j + 1))
          case measure => omega
          case rel => exact ⟨j + 1, _, by go_num, by omega, by omega, by omega, HO3, HS3, HB3⟩
        · have t3 : decide ((310 : Int) < x.size) = false := decide_eq_false (by omega)
          have HOB := Lib.hid (Rs.one wr x 9)
          have HO2 := Lib.hid (ho.out.alloc (.cells #[.string x] 9))
          go_wp2_with (at_builtin; refine wpList_str _ rfl (.tmp 26) (.tmp 28) rfl w.heap.size _ j _ rfl HO2.out _ _ _ [x] rfl HOB.out (by omega) (by simp; omega) ?_; intro G2 c3 w3 ho3 hg3 _)
          have HB3 := Lib.hid (push_ hb.out (Nat.le_refl _) ho.out hg3)
          have HO3 := Lib.hid ho3
          have HS3 : Hid (∀ s ∈ O ++ [x], s.size ≤ 310) := Lib.hid fun s h => by
            rcases List.mem_append.1 h with h | h
            · exact hs.out s h
            · rw [List.mem_singleton.1 h]; omega
          clear ho3 hg3
          go_wp2_with fail
          go_roundg (300 - (j + 1))
          case measure => omega
          case rel => exact ⟨j + 1, _, by go_num, by omega, by omega, by omega, HO3, HS3, HB3⟩
      · have t2 : decide (j < 300) = false := decide_eq_false hl3
        go_wp2_with fail
        go_ret
        exact ⟨_, _, _, O, rfl, Rs.of_own ho.out, hs.out, hj3, HCAP.out.1, by unfold maxLen; exact HCAP.out.2, hb.out⟩
    · have t1 : decide (j < n) = false := decide_eq_false hlt
      go_wp2_with fail
      go_ret
      exact ⟨_, _, _, O, rfl, Rs.of_own ho.out, hs.out, hj3, HCAP.out.1, by unfold maxLen; exact HCAP.out.2, hb.out⟩
end Go.Proofs.Ytmejoococajikaa

/- The walk through TextsKinds. -/
namespace Go.Proofs.Ytmejoococajikaa
open Go.RowKit

theorem putT_cases (l W : List ByteArray) : putT l W = (⟨0, 0, 0, []⟩, 3) ∨ (l.length < 2 * W.length ∧ putT l W = (⟨l.length, 1, 0, [(2, catT l), (3, (putGl (lensT l) false).1)]⟩, 0)) ∨
    (¬ l.length < 2 * W.length ∧ putT l W = (⟨l.length, 2, W.length, [(2, (putGl (placesT W l) false).1), (3, (putGl (lensT W) false).1), (4, catT W)]⟩, 0)) := by
  unfold putT
  by_cases h1 : bigT l = true
  · exact .inl (by rw [if_pos h1])
  · rw [if_neg h1]
    by_cases h2 : l.length < 2 * W.length
    · exact .inr (.inl ⟨h2, by rw [if_pos h2]⟩)
    · exact .inr (.inr ⟨h2, by rw [if_neg h2]⟩)
set_option maxRecDepth 100000 in
set_option maxHeartbeats 4000000 in
theorem TextsKinds_walk (w : World) (A : Option Addr) (n cap : Nat) (l : List ByteArray) (hl : Rs w A n l) (_hs : ∀ s ∈ l, s.size ≤ maxLen) (hc : n ≤ cap) (hm : cap ≤ maxLen) :
    Calls Try.prog 4 #[.slice A n cap] w fun e w' => e = .returned (.bool true) ∧ Below w.heap.size w w' := by
  have HL := Lib.hid hl
  clear hl
  go_enter Try.func4, Try.ntmps4
  go_wp2_with fail
  refine (shown15_any w).mono ?_; rintro e w1 ⟨rfl, hb1⟩
  have HL1 := Lib.hid (HL.out.below hb1)
  have HB1 := Lib.hid hb1
  clear hb1
  go_wp2_with fail
  refine (few15_any w1 A n cap l HL1.out (Nat.le_trans hc hm)).mono ?_; rintro e w2 ⟨G, m, c, L, rfl, hr2, hs2, hm3, hmc, hcm, hb2⟩
  have HR2 := Lib.hid hr2
  have HB2 := Lib.hid (on HB1.out hb2)
  have HS2 := Lib.hid hs2
  have hL3 := hr2.len
  clear hr2 hb2 hs2
  go_wp2_with fail
  refine (Words_any w2 G m c L HR2.out (by omega)).mono ?_; rintro e w3 ⟨G6, m6, c6, W, rfl, hr6, hw6, hm6, _, _, hb6⟩
  have HR3 := Lib.hid (HR2.out.below hb6)
  have HB3 := Lib.hid (on HB2.out hb6)
  have HIW := Lib.hid hw6
  have hW6 := hr6.len
  have HZ := Lib.hid (putGl_nn (placesT W L) (placesT_i64 (fun s h => (hw6.mem s).2 h) (by omega)) (placesT_nn W L) (by rw [placesT_len]; omega))
  clear hr6 hw6 hb6
  go_wp2_with fail
  refine (PutT_any w3 G m c L W HR3.out hmc hm3 HS2.out HIW.out HZ.out).mono ?_; rintro e w4 ⟨A4, n4, k4, rfl, hst4, _, _, hb4⟩
  have HB4 := Lib.hid (on HB3.out hb4)
  have hal := (Below.refl w4.heap.size w4)
  rcases putT_cases L W with hP | ⟨hlt, hP⟩ | ⟨hlt, hP⟩
  · rw [hP] at hst4 ⊢
    obtain rfl : n4 = 0 := hst4.1.symm
    have HF := Lib.hid (on HB4.out ((Below.refl w4.heap.size w4).alloc (Nat.le_refl _) (.cells #[.int .i64 0, .int .i64 0, .int .i64 0, .slice A4 0 k4] 28)))
    clear hst4 hb4 hP
    go_wp2_with fail
    go_ret
    exact ⟨rfl, HF.out⟩
  · rw [hP] at hst4 ⊢
    obtain rfl : n4 = 2 := hst4.1.symm
    rw [hL3]
    have t1 : decide (2 * (m6 : Int) ≤ (m : Int)) = false := decide_eq_false (by omega)
    have HF := Lib.hid (on HB4.out ((Below.refl w4.heap.size w4).alloc (Nat.le_refl _) (.cells #[.int .i64 m, .int .i64 1, .int .i64 0, .slice A4 2 k4] 28)))
    clear hst4 hb4 hP
    go_wp2_with fail
    go_ret
    exact ⟨rfl, HF.out⟩
  · rw [hP] at hst4 ⊢
    obtain rfl : n4 = 3 := hst4.1.symm
    rw [hL3, hW6]
    have t1 : decide (2 * (m6 : Int) ≤ (m : Int)) = true := decide_eq_true (by omega)
    have HF := Lib.hid (on HB4.out ((Below.refl w4.heap.size w4).alloc (Nat.le_refl _) (.cells #[.int .i64 m, .int .i64 2, .int .i64 m6, .slice A4 3 k4] 28)))
    clear hst4 hb4 hP
    go_wp2_with fail
    go_ret
    exact ⟨rfl, HF.out⟩
end Go.Proofs.Ytmejoococajikaa

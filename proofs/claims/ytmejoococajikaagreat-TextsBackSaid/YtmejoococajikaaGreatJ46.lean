/- Joined texts: Shown15, TxTk, LawTx5. Each has its own head line. No condition beyond those that its theorems state. -/
import Derived.Test.YtmejoococajikaaGreatJ36
import Derived.Test.YtmejoococajikaaGreatJ45
import Derived.Test.YtmejoococajikaaGreatJ32
set_option linter.unusedVariables false

/- The document's examples of layer 15. -/
namespace Go.Proofs.YtmejoococajikaaGreat
open Go.RowKit

def exA : List ByteArray := [⟨#[97, 98]⟩, ⟨#[99]⟩]
def exB : List ByteArray := [⟨#[98]⟩, ⟨#[97]⟩, ⟨#[98]⟩, ⟨#[98]⟩]
def exW : List ByteArray := [⟨#[97]⟩, ⟨#[98]⟩]
theorem words_exA : IsWords exA exA := ⟨by unfold Rising exA; decide, fun _ => Iff.rfl⟩
theorem words_exB : IsWords exW exB := ⟨by unfold Rising exW; decide, fun x => by
  simp only [exW, exB, List.mem_cons, List.not_mem_nil, or_false]
  constructor
  · rintro (h | h)
    · exact .inr (.inl h)
    · exact .inl h
  · rintro (h | h | h | h)
    · exact .inr h
    · exact .inl h
    · exact .inr h
    · exact .inr h⟩
theorem put_exA : putT exA exA = (⟨2, 1, 0, [(2, [97, 98, 99]), (3, [66, 1, 144])]⟩, 0) := by kernel_rfl
theorem put_exB : putT exB exW = (⟨4, 2, 2, [(2, [64, 3, 176]), (3, [64, 1, 192]), (4, [97, 98])]⟩, 0) := by kernel_rfl
theorem zA : (putGl (placesT exA exA) false).2 = 0 := by kernel_rfl
theorem zB : (putGl (placesT exW exB) false).2 = 0 := by kernel_rfl
/-- A literal row of texts. -/
theorem rs_lit (w : World) (l : List ByteArray) (t : TypeId) : Rs (w.alloc (.cells (l.map Value.string).toArray t)) (some ⟨w.heap.size, 0, none⟩) l.length l :=
  ⟨by simp, fun _ => ⟨w.heap.size, 0, rfl, by simp, fun j u hu => by
    rw [Nat.zero_add, cell_blkT (newBlkT w _), List.getElem?_toArray]
    exact hu⟩⟩
set_option maxRecDepth 100000 in
set_option maxHeartbeats 1000000 in
theorem shown15_any (w : World) :
    Calls Tryz.prog 6 #[] w fun e w' => e = .returned (.bool true) ∧ Below w.heap.size w w' := by
  have HA := Lib.hid (rs_lit w exA 9)
  have HBA := Lib.hid ((Below.refl w.heap.size w).alloc (Nat.le_refl _) (.cells (exA.map Value.string).toArray 9))
  go_enter Tryz.func6, Tryz.ntmps6
  go_wp2_with fail
  refine (PutT_any (w.alloc (.cells (exA.map Value.string).toArray 9)) _ 2 2 exA exA HA.out (by omega) (by omega) (by decide) words_exA zA).mono ?_; rintro e w1 ⟨A1, n1, k1, rfl, hs1, hn1, hk1, hb1⟩
  rw [put_exA] at hs1 ⊢
  have HB1 := Lib.hid (on HBA.out hb1)
  have HS1 := Lib.hid hs1
  clear hb1 hs1
  go_wp2_with fail
  obtain ⟨wa, hwa⟩ : ∃ wa, wa = w1.alloc (.cells #[.int .i64 2, .int .i64 1, .int .i64 0, .slice A1 n1 k1] 27) := ⟨_, rfl⟩
  have hza : wa.heap.size = w1.heap.size + 1 := by rw [hwa]; simp
  have hal : Below w1.heap.size w1 wa := hwa ▸ (Below.refl w1.heap.size w1).alloc (Nat.le_refl _) _
  have HKA : Hid (wa.heap[w1.heap.size]? = some (.cells #[.int .i64 2, .int .i64 1, .int .i64 0, .slice A1 n1 k1] 27 (0, 0))) := Lib.hid (hwa ▸ newBlkT w1 _)
  rw [← hwa, ← hza]
  have HB2 := Lib.hid (on HB1.out hal)
  have HS2 := Lib.hid (HS1.out.below hal)
  clear hwa hal
  refine (PutT_any (wa.alloc (.cells (exB.map Value.string).toArray 9)) _ 4 4 exB exW (rs_lit wa exB 9) (by omega) (by omega) (by decide) words_exB zB).mono ?_; rintro e w2 ⟨A2, n2, k2, rfl, hs2, hn2, hk2, hb2⟩
  rw [put_exB] at hs2 ⊢
  have hbq := ((Below.refl wa.heap.size wa).alloc (Nat.le_refl _) (.cells (exB.map Value.string).toArray 9)).trans (hb2.mono (by simp))
  have hl1 : w1.heap.size < wa.heap.size := by omega
  obtain ⟨wb, hwb⟩ : ∃ wb, wb = w2.alloc (.cells #[.int .i64 4, .int .i64 2, .int .i64 2, .slice A2 n2 k2] 27) := ⟨_, rfl⟩
  have hal2 : Below w2.heap.size w2 wb := hwb ▸ (Below.refl w2.heap.size w2).alloc (Nat.le_refl _) _
  have hka := (hal2.block _ (Nat.lt_of_lt_of_le hl1 hbq.size)).trans ((hbq.block _ hl1).trans HKA.out)
  have hkb : wb.heap[w2.heap.size]? = some (.cells #[.int .i64 4, .int .i64 2, .int .i64 2, .slice A2 n2 k2] 27 (0, 0)) := hwb ▸ newBlkT w2 _
  have ca0 := cell_blkT hka 0
  have ca1 := cell_blkT hka 1
  have ca2 := cell_blkT hka 2
  have ca3 := cell_blkT hka 3
  have cb0 := cell_blkT hkb 0
  have cb1 := cell_blkT hkb 1
  have cb2 := cell_blkT hkb 2
  have cb3 := cell_blkT hkb 3
  have HBF := Lib.hid (on (on HB2.out hbq) hal2)
  have hsa := (HS2.out.below hbq).below hal2
  have hsb := hs2.below hal2
  obtain rfl : n1 = 2 := hsa.1.symm
  obtain rfl : n2 = 3 := hsb.1.symm
  obtain ⟨p, o, rfl, _, ha⟩ := hsa.2 (by omega)
  obtain ⟨g, d, rfl, _, hb⟩ := hsb.2 (by omega)
  obtain ⟨x0, G0, m0, q0, y0, s0⟩ := ha 0 (by decide)
  obtain ⟨x1, G1, m1, q1, y1, s1⟩ := ha 1 (by decide)
  obtain ⟨x2, G2, m2, q2, y2, s2⟩ := hb 0 (by decide)
  obtain ⟨x3, G3, m3, q3, y3, s3⟩ := hb 1 (by decide)
  obtain ⟨x4, G4, m4, q4, y4, s4⟩ := hb 2 (by decide)
  have v0 := conv_any (c := q0) s0.1
  have v1 := conv_any (c := q1) s1.1
  have v2 := conv_any (c := q2) s2.1
  have v3 := conv_any (c := q3) s3.1
  have v4 := conv_any (c := q4) s4.1
  have e0 : (strOf [97, 98, 99]).toList = [97, 98, 99] := strOf_toList _
  have e1 : (strOf [66, 1, 144]).toList = [66, 1, 144] := strOf_toList _
  have e2 : (strOf [64, 3, 176]).toList = [64, 3, 176] := strOf_toList _
  have e3 : (strOf [64, 1, 192]).toList = [64, 1, 192] := strOf_toList _
  have e4 : (strOf [97, 98]).toList = [97, 98] := strOf_toList _
  simp only [Nat.zero_mul, Nat.add_zero, Nat.one_mul, Nat.reduceMul] at x0 y0 x1 y1 x2 y2 x3 y3 x4 y4
  clear hs2 hn2 hk2 hb2 hbq hal2 hka hkb hsa hsb ha hb s0 s1 s2 s3 s4 HS1 HS2 HKA
  rw [hwb] at ca0 ca1 ca2 ca3 cb0 cb1 cb2 cb3 x0 y0 x1 y1 x2 y2 x3 y3 x4 y4 v0 v1 v2 v3 v4
  go_wp2_with fail
  go_ret
  exact ⟨rfl, hwb ▸ HBF.out⟩
end Go.Proofs.YtmejoococajikaaGreat

/- Texts: Take (real). -/
namespace Go.Proofs.YtmejoococajikaaGreat
open Go.RowKit

theorem two_of {α : Type} {S : List (Int × α)} (h : S.map Prod.fst = [2, 3]) : ∃ a b, S = [(2, a), (3, b)] := by
  match S, h with
  | [(_, a), (_, b)], h =>
    simp at h
    obtain ⟨rfl, rfl⟩ := h
    exact ⟨a, b, rfl⟩
theorem three_of {α : Type} {S : List (Int × α)} (h : S.map Prod.fst = [2, 3, 4]) : ∃ a b c, S = [(2, a), (3, b), (4, c)] := by
  match S, h with
  | [(_, a), (_, b), (_, c)], h =>
    simp at h
    obtain ⟨rfl, rfl, rfl⟩ := h
    exact ⟨a, b, c, rfl⟩
theorem ri_lits (w : World) (l : List Int) (t : TypeId) : Ri (w.alloc (.cells (l.map (Value.int .i64)).toArray t)) .i64 (some ⟨w.heap.size, 0, none⟩) l.length l :=
  ⟨by simp, fun _ => ⟨_, 0, rfl, by simp, fun j u hu => by
    rw [cell_blkT (newBlkT w _), ← hu]
    simp⟩⟩
theorem kv2 (v0 v1 : Value) : Maps.size (kvS [(2, v0), (3, v1)]) = 2 := rfl
theorem kv3 (v0 v1 v2 : Value) : Maps.size (kvS [(2, v0), (3, v1), (4, v2)]) = 3 := rfl
set_option maxRecDepth 100000 in
set_option maxHeartbeats 8000000 in
theorem TakeT_any (w : World) (c : ColT) (A : Option Addr) (n k : Nat) (hS : StAt w A n c.st) (hn : n ≤ 1000) (hI : I64 (c.st.map Prod.fst)) (hU : ∀ s ∈ c.st, U8 s.2 ∧ s.2.length ≤ 100000) :
    Calls Tryz.prog 15 #[.agg #[.int .i64 c.many, .int .i64 c.enc, .int .i64 c.texts, .slice A n k]] w (StrErr w (takeT c).1 (takeT c).2) := by
  obtain ⟨many, enc, texts, S⟩ := c
  dsimp only at hS hI hU ⊢
  obtain ⟨ob, hob⟩ : ∃ ob, ob = Obj.cells #[.int .i64 many, .int .i64 enc, .int .i64 texts, .slice A n k] 27 := ⟨_, rfl⟩
  obtain ⟨w1, hw1⟩ : ∃ w1, w1 = w.alloc ob := ⟨_, rfl⟩
  have hk1 : w1.heap[w.heap.size]? = some (.cells #[.int .i64 many, .int .i64 enc, .int .i64 texts, .slice A n k] 27 (0, 0)) := by rw [hw1, hob]; exact newBlkT w _
  have HK1 := Lib.hid hk1
  have HB1 : Hid (Below w.heap.size w w1) := Lib.hid (hw1 ▸ (Below.refl w.heap.size w).alloc (Nat.le_refl _) _)
  have hl1 : w1.heap.size = w.heap.size + 1 := by rw [hw1]; simp
  have HS := Lib.hid hS; have HI := Lib.hid hI; have HU := Lib.hid hU
  rw [hob] at hw1
  clear hS hI hU hk1 hob
  by_cases hm1 : many < 0
  · have HE : Hid (takeT ⟨many, enc, texts, S⟩ = ([], 1)) := Lib.hid (by unfold takeT; rw [if_pos (.inl hm1)])
    have t1 : decide (many < 0) = true := decide_eq_true hm1
    go_enter Tryz.func15, Tryz.ntmps15
    go_wp2_with fail
    go_ret2
    rw [HE.out, ← hw1]
    exact ⟨_, _, _, rfl, Rs.nil _ _, Nat.le_refl _, by omega, HB1.out⟩
  have t1 : decide (many < 0) = false := decide_eq_false hm1
  by_cases hm2 : 4096 < many
  · have HE : Hid (takeT ⟨many, enc, texts, S⟩ = ([], 1)) := Lib.hid (by unfold takeT; rw [if_pos (.inr hm2)])
    have t2 : decide (4096 < many) = true := decide_eq_true hm2
    go_enter Tryz.func15, Tryz.ntmps15
    go_wp2_with fail
    go_ret2
    rw [HE.out, ← hw1]
    exact ⟨_, _, _, rfl, Rs.nil _ _, Nat.le_refl _, by omega, HB1.out⟩
  have t2 : decide (4096 < many) = false := decide_eq_false hm2
  have HMM : Hid (¬ (many < 0 ∨ 4096 < many)) := Lib.hid (by omega)
  clear hm1 hm2
  by_cases he1 : enc = 1
  · subst he1
    go_enter Tryz.func15, Tryz.ntmps15
    go_wp2_with fail
    obtain ⟨w2, hw2⟩ : ∃ w2, w2 = w1.alloc (.cells #[.int .i64 2, .int .i64 3] 3) := ⟨_, rfl⟩
    have HKR : Hid (Ri w2 .i64 (some ⟨w.heap.size + 1, 0, none⟩) 2 [2, 3]) := Lib.hid (by
      have := ri_lits w1 [2, 3] 3
      rw [hl1] at this
      rw [hw2]; exact this)
    have hb2 : Below w1.heap.size w1 w2 := hw2 ▸ (Below.refl w1.heap.size w1).alloc (Nat.le_refl _) _
    have HB2 := Lib.hid (on HB1.out hb2)
    have HK2 := Lib.hid ((hb2.block w.heap.size (by omega)).trans HK1.out)
    have hz2 := hb2.size
    rw [← hw1, ← hw2]
    clear hw1 hw2 hb2
    refine (streams_any w2 many 1 texts A n k S (HS.out.below HB2.out) hn HI.out (some ⟨w.heap.size + 1, 0, none⟩) 2 2 [2, 3] HKR.out (by omega)).mono ?_; rintro e w3 ⟨mb, L, rfl, hom, hLS, hLv, hmb, hb⟩
    have HB3 := Lib.hid (on HB2.out hb)
    have HK3 := Lib.hid ((hb.block w.heap.size (by omega)).trans HK2.out)
    by_cases hk : S.map Prod.fst = [2, 3]
    · obtain ⟨b0, b1, rfl⟩ := two_of hk
      obtain ⟨v0, v1, rfl⟩ := two_of (hLS.trans hk)
      obtain ⟨G0, m0, c0, e0, s0⟩ := hLv 0 (by simp) (by simp)
      obtain ⟨G1, m1, c1, e1, s1⟩ := hLv 1 (by simp) (by simp)
      have e0 : v0 = .slice G0 m0 c0 := e0
      have e1 : v1 = .slice G1 m1 c1 := e1
      subst e0; subst e1
      have HS0 := Lib.hid ((show Sl w2 .u8 G0 m0 c0 b0 from s0).below hb)
      have HS1 := Lib.hid ((show Sl w2 .u8 G1 m1 c1 b1 from s1).below hb)
      obtain ⟨u0, l0⟩ := HU.out (2, b0) (by simp)
      obtain ⟨u1, l1⟩ := HU.out (3, b1) (by simp)
      have HU0 := Lib.hid u0; have HU1 := Lib.hid u1
      have hlen0 := HS0.out.1.len
      have hlen1 := HS1.out.1.len
      dsimp only at l0 l1
      have hB : (decide (List.map Prod.fst [((2 : Int), b0), (3, b1)] = [2, 3]) && decide (Maps.size (kvS [(2, Value.slice G0 m0 c0), (3, .slice G1 m1 c1)]) = [(2 : Int), 3].length)) = true := by
        rw [kv2, decide_eq_true hk]; rfl
      have HE : Hid (takeT ⟨many, 1, texts, [(2, b0), (3, b1)]⟩ = cutT b0 b1 many) := Lib.hid (by unfold takeT; rw [if_neg HMM.out, if_pos ⟨rfl, hk⟩]; rfl)
      have HM3 := Lib.hid hom
      have kk0 := cell_blkT HK3.out 0
      rw [hB]
      clear hom hLS hLv hk s0 s1 u0 u1 hB hb
      go_wp2_with (first
        | (at_lookup; refine wpList_look_row _ rfl _ _ rfl mb n _ rfl HM3.out 2 rfl wf2 _ rfl ?_)
        | (at_lookup; refine wpList_look_row _ rfl _ _ rfl mb n _ rfl HM3.out 3 rfl wf3 _ rfl ?_))
      refine (cutS_any w3 G0 G1 m0 c0 m1 c1 b0 b1 HS0.out.1 HU0.out HS0.out.2.1 HS0.out.2.2 (by omega) HS1.out.1 HU1.out HS1.out.2.1 HS1.out.2.2 (by omega) many).mono ?_; rintro e w4 ⟨GW, nW, cW, rfl, hs, hcw, hcm, hb⟩
      go_wp2_with fail
      go_ret2
      rw [HE.out]
      exact ⟨_, _, _, rfl, hs, hcw, hcm, on HB3.out hb⟩
    · have hB : (decide (List.map Prod.fst S = [2, 3]) && decide (Maps.size (kvS L) = [(2 : Int), 3].length)) = false := by
        rw [decide_eq_false hk]; rfl
      have HE : Hid (takeT ⟨many, 1, texts, S⟩ = ([], 2)) := Lib.hid (by unfold takeT; rw [if_neg HMM.out, if_neg (fun h => hk h.2), if_neg (fun h => absurd h.1 (by show ¬ ((1 : Int) = 2); decide))])
      rw [hB]
      clear hom hLS hLv hk hB hb
      go_wp2_with fail
      go_ret2
      rw [HE.out]
      exact ⟨_, _, _, rfl, Rs.nil _ _, Nat.le_refl _, by omega, HB3.out⟩
  · by_cases he2 : enc = 2
    · subst he2
      go_enter Tryz.func15, Tryz.ntmps15
      go_wp2_with fail
      obtain ⟨w2, hw2⟩ : ∃ w2, w2 = w1.alloc (.cells #[.int .i64 2, .int .i64 3, .int .i64 4] 3) := ⟨_, rfl⟩
      have HKR : Hid (Ri w2 .i64 (some ⟨w.heap.size + 1, 0, none⟩) 3 [2, 3, 4]) := Lib.hid (by
        have := ri_lits w1 [2, 3, 4] 3
        rw [hl1] at this
        rw [hw2]; exact this)
      have hb2 : Below w1.heap.size w1 w2 := hw2 ▸ (Below.refl w1.heap.size w1).alloc (Nat.le_refl _) _
      have HB2 := Lib.hid (on HB1.out hb2)
      have HK2 := Lib.hid ((hb2.block w.heap.size (by omega)).trans HK1.out)
      have hz2 := hb2.size
      rw [← hw1, ← hw2]
      clear hw1 hw2 hb2
      refine (streams_any w2 many 2 texts A n k S (HS.out.below HB2.out) hn HI.out (some ⟨w.heap.size + 1, 0, none⟩) 3 3 [2, 3, 4] HKR.out (by omega)).mono ?_; rintro e w3 ⟨mb, L, rfl, hom, hLS, hLv, hmb, hb⟩
      have HB3 := Lib.hid (on HB2.out hb)
      have HK3 := Lib.hid ((hb.block w.heap.size (by omega)).trans HK2.out)
      by_cases hk : S.map Prod.fst = [2, 3, 4]
      · obtain ⟨b0, b1, b2, rfl⟩ := three_of hk
        obtain ⟨v0, v1, v2, rfl⟩ := three_of (hLS.trans hk)
        obtain ⟨G0, m0, c0, e0, s0⟩ := hLv 0 (by simp) (by simp)
        obtain ⟨G1, m1, c1, e1, s1⟩ := hLv 1 (by simp) (by simp)
        obtain ⟨G2, m2, c2, e2, s2⟩ := hLv 2 (by simp) (by simp)
        have e0 : v0 = .slice G0 m0 c0 := e0
        have e1 : v1 = .slice G1 m1 c1 := e1
        have e2 : v2 = .slice G2 m2 c2 := e2
        subst e0; subst e1; subst e2
        have s0' := (show Sl w2 .u8 G0 m0 c0 b0 from s0).below hb
        have s1' := (show Sl w2 .u8 G1 m1 c1 b1 from s1).below hb
        have s2' := (show Sl w2 .u8 G2 m2 c2 b2 from s2).below hb
        have HS0 := Lib.hid s0'; have HS1 := Lib.hid s1'; have HS2 := Lib.hid s2'
        obtain ⟨u0, l0⟩ := HU.out (2, b0) (by simp)
        obtain ⟨u1, l1⟩ := HU.out (3, b1) (by simp)
        obtain ⟨u2, l2⟩ := HU.out (4, b2) (by simp)
        have HU0 := Lib.hid u0; have HU1 := Lib.hid u1; have HU2 := Lib.hid u2
        have hlen0 := HS0.out.1.len
        have hlen1 := HS1.out.1.len
        have hlen2 := HS2.out.1.len
        dsimp only at l0 l1 l2
        have hB : (decide (List.map Prod.fst [((2 : Int), b0), (3, b1), (4, b2)] = [2, 3, 4]) && decide (Maps.size (kvS [(2, Value.slice G0 m0 c0), (3, .slice G1 m1 c1), (4, .slice G2 m2 c2)]) = [(2 : Int), 3, 4].length)) = true := by
          rw [kv3, decide_eq_true hk]; rfl
        have HK := Lib.hid hk
        have HM3 := Lib.hid hom
        have kk0 := cell_blkT HK3.out 0
        have kk1 := cell_blkT HK3.out 1
        have kk2 := cell_blkT HK3.out 2
        have kk3 := cell_blkT HK3.out 3
        rw [hB]
        clear hom hLS hLv hk s0 s1 s2 s0' s1' s2' u0 u1 u2 hB hb
        by_cases ht0 : 0 ≤ texts
        · have t5 : decide (0 ≤ texts) = true := decide_eq_true ht0
          by_cases ht1 : texts ≤ 4096
          · have t6 : decide (texts ≤ 4096) = true := decide_eq_true ht1
            have HE : Hid (takeT ⟨many, 2, texts, [(2, b0), (3, b1), (4, b2)]⟩ = idxC b0 b1 b2 many texts) := Lib.hid (by
              unfold takeT
              rw [if_neg HMM.out, if_neg (fun h => absurd h.1 (by show ¬ ((2 : Int) = 1); decide)), if_pos ⟨rfl, HK.out, ht0, ht1⟩]
              rfl)
            go_wp2_with fail
            refine (indexed_any w3 many 2 texts (.slice A n k) mb n _ HM3.out G0 G1 G2 m0 m1 m2 c0 c1 c2 b0 b1 b2 rfl rfl rfl HS0.out HS1.out HS2.out HU0.out HU1.out HU2.out (by omega) (by omega) (by omega)).mono ?_; rintro e w4 ⟨GW, nW, cW, rfl, hs, hcw, hcm, hb⟩
            go_wp2_with fail
            go_ret2
            rw [HE.out]
            exact ⟨_, _, _, rfl, hs, hcw, hcm, on HB3.out hb⟩
          · have t6 : decide (texts ≤ 4096) = false := decide_eq_false ht1
            have HE : Hid (takeT ⟨many, 2, texts, [(2, b0), (3, b1), (4, b2)]⟩ = ([], 2)) := Lib.hid (by
              unfold takeT
              rw [if_neg HMM.out, if_neg (fun h => absurd h.1 (by show ¬ ((2 : Int) = 1); decide)), if_neg (fun h => ht1 h.2.2.2)])
            go_wp2_with fail
            go_ret2
            rw [HE.out]
            exact ⟨_, _, _, rfl, Rs.nil _ _, Nat.le_refl _, by omega, HB3.out⟩
        · have t5 : decide (0 ≤ texts) = false := decide_eq_false ht0
          have HE : Hid (takeT ⟨many, 2, texts, [(2, b0), (3, b1), (4, b2)]⟩ = ([], 2)) := Lib.hid (by
            unfold takeT
            rw [if_neg HMM.out, if_neg (fun h => absurd h.1 (by show ¬ ((2 : Int) = 1); decide)), if_neg (fun h => ht0 h.2.2.1)])
          go_wp2_with fail
          go_ret2
          rw [HE.out]
          exact ⟨_, _, _, rfl, Rs.nil _ _, Nat.le_refl _, by omega, HB3.out⟩
      · have hB : (decide (List.map Prod.fst S = [2, 3, 4]) && decide (Maps.size (kvS L) = [(2 : Int), 3, 4].length)) = false := by
          rw [decide_eq_false hk]; rfl
        have HE : Hid (takeT ⟨many, 2, texts, S⟩ = ([], 2)) := Lib.hid (by unfold takeT; rw [if_neg HMM.out, if_neg (fun h => absurd h.1 (by show ¬ ((2 : Int) = 1); decide)), if_neg (fun h => hk h.2.1)])
        rw [hB]
        clear hom hLS hLv hk hB hb
        go_wp2_with fail
        go_ret2
        rw [HE.out]
        exact ⟨_, _, _, rfl, Rs.nil _ _, Nat.le_refl _, by omega, HB3.out⟩
    · have HE : Hid (takeT ⟨many, enc, texts, S⟩ = ([], 2)) := Lib.hid (by unfold takeT; rw [if_neg HMM.out, if_neg (fun h => he1 h.1), if_neg (fun h => he2 h.1)])
      have t3 : (enc == 1) = false := by simp [he1]
      have t4 : (enc == 2) = false := by simp [he2]
      go_enter Tryz.func15, Tryz.ntmps15
      go_wp2_with fail
      go_ret2
      rw [HE.out, ← hw1]
      exact ⟨_, _, _, rfl, Rs.nil _ _, Nat.le_refl _, by omega, HB1.out⟩
end Go.Proofs.YtmejoococajikaaGreat

/- The walk through TextsBack. -/
namespace Go.Proofs.YtmejoococajikaaGreat
open Go.RowKit

set_option maxRecDepth 100000 in
set_option maxHeartbeats 8000000 in
theorem TextsBack_walk (w : World) (A : Option Addr) (n cap : Nat) (l : List ByteArray) (hl : Rs w A n l) (_hs : ∀ s ∈ l, s.size ≤ maxLen) (hc : n ≤ cap) (hm : cap ≤ maxLen) :
    Calls Tryz.prog 5 #[.slice A n cap] w fun e w' => e = .returned (.bool true) ∧ Below w.heap.size w w' := by
  have HL := Lib.hid hl
  have hll := hl.len
  clear hl
  have hnm : n ≤ 9223372036854775807 := by unfold maxLen at hm; omega
  go_enter Tryz.func5, Tryz.ntmps5
  go_wp2_with fail
  refine (shown15_any w).mono ?_; rintro e w1 ⟨rfl, hb1⟩
  have HL1 := Lib.hid (HL.out.below hb1)
  have HB1 := Lib.hid hb1
  have HALL := Lib.hid (fun h0 => HL1.out.all h0)
  clear hb1
  have HO := Lib.hid (own_empty w1 9 1)
  have HBE := Lib.hid ((Below.refl w1.heap.size w1).alloc (Nat.le_refl _) (.cells #[] 9))
  go_wp2_with fail
  go_loopg [4, 5] 300 (fun gg v4 v wr => ∃ (j m : Nat) (O : List ByteArray), v = .int .i64 j ∧ j ≤ n ∧ j ≤ 300 ∧ 300 - j ≤ gg ∧ m ≤ j ∧ Hid (wr.ownsRow w1.heap.size 9 1 v4 m (O.map Value.string)) ∧ Hid (∀ s ∈ O, s.size ≤ 300) ∧ Hid (Below w1.heap.size w1 wr))
  case atStart => exact ⟨0, 0, [], rfl, by omega, by omega, by omega, by omega, HO, Lib.hid (by simp), HBE⟩
  case round =>
  obtain ⟨j, m, O, rfl, hjN, hj3, hgg, hmj, ho, hs, hb⟩ := hrel
  obtain ⟨G, cG, hG⟩ := own_form ho.out
  subst hG
  have hz := hb.out.size
  by_cases hgo : j < n ∧ j < 300
  · have t1 : decide (j < n) = true := decide_eq_true hgo.1
    have t2 : decide (j < 300) = true := decide_eq_true hgo.2
    obtain ⟨b, o, rfl, hbb, hcl⟩ := HALL.out (by omega)
    have hj : j < l.length := by omega
    have k1 := (hb.out.cell (p := ⟨b, o + j, none⟩) hbb).trans (hcl j hj)
    generalize l[j] = x at k1
    clear hcl
    by_cases hx : x.size ≤ 300
    · have t3 : decide ((x.size : Int) ≤ 300) = true := decide_eq_true (by omega)
      have HOB := Lib.hid (Rs.one wr x 9)
      have HO2 := Lib.hid (ho.out.alloc (.cells #[.string x] 9))
      go_wp2_with (at_builtin; refine wpList_str _ rfl (.tmp 29) (.tmp 34) rfl w1.heap.size _ m _ rfl HO2.out _ _ _ [x] rfl HOB.out (by omega) (by simp; omega) ?_; intro G2 c3 w3 ho3 hg3 _)
      have HB3 := Lib.hid (push_ hb.out (Nat.le_refl _) ho.out hg3)
      have HO3 := Lib.hid ho3
      have HS3 : Hid (∀ s ∈ O ++ [x], s.size ≤ 300) := Lib.hid fun s h => by
        rcases List.mem_append.1 h with h | h
        · exact hs.out s h
        · rw [List.mem_singleton.1 h]; exact hx
      clear ho3 hg3
      go_wp2_with fail
      go_roundg (300 - (j + 1))
      case measure => omega
      case rel => exact ⟨j + 1, m + 1, _, by go_num, by omega, by omega, by omega, by omega, HO3, HS3, HB3⟩
    · have t3 : decide ((x.size : Int) ≤ 300) = false := decide_eq_false (by omega)
      go_wp2_with fail
      go_roundg (300 - (j + 1))
      case measure => omega
      case rel => exact ⟨j + 1, m, _, by go_num, by omega, by omega, by omega, by omega, ho, hs, hb⟩
  have hcap := own_cap ho.out
  have hcm : cG ≤ maxLen := by unfold maxLen; exact hcap.2
  have hr := Rs.of_own ho.out
  have hOl := hr.len
  have HR2 := Lib.hid hr
  have HB2 := Lib.hid (on HB1.out hb.out)
  have HW : Hid (∃ W, IsWords W O) := Lib.hid ⟨_, words_of_sorted O⟩
  obtain ⟨W, hW⟩ := HW.out
  have hlen := hW.len
  have HZ := Lib.hid (putGl_nn (placesT W O) (placesT_i64 (fun s h => (hW.mem s).2 h) (by omega)) (placesT_nn W O) (by rw [placesT_len]; omega))
  have hpb := put_back hW hs.out (by omega)
  have hPut := PutT_any wr G m cG O W HR2.out hcap.1 (by omega) (fun s h => Nat.le_trans (hs.out s h) (by omega)) hW HZ.out
  obtain ⟨cc, er, hput⟩ : ∃ cc er, putT O W = (cc, er) := ⟨_, _, rfl⟩
  rw [hput] at hPut hpb
  obtain ⟨p1, p2, p3, p4, p5, p6⟩ := hpb
  dsimp only at p1 p2 p3 p4 p5 p6
  subst p1
  have HPUT := Lib.hid hPut
  have HP2 := Lib.hid p2; have HP3 := Lib.hid p3; have HP4 := Lib.hid p4; have HP5 := Lib.hid p5
  have hX : decide (j < n) = false ∨ (decide (j < n) = true ∧ ¬ j < 300 ∧ decide (j < 300) = false) := by
    by_cases h : j < n
    · exact .inr ⟨decide_eq_true h, fun h2 => hgo ⟨h, h2⟩, decide_eq_false fun h2 => hgo ⟨h, h2⟩⟩
    · exact .inl (decide_eq_false h)
  clear hr hW HW hput hPut p2 p3 p4 p5 hgo HZ
  rcases hX with t1 | ⟨t1, h300, t2⟩
  all_goals
    go_wp2_with fail
    refine HPUT.out.mono ?_; rintro e w3 ⟨A3, n3, k3, rfl, hst3, hnk3, hkm3, hb3⟩
    obtain ⟨wa, hwa⟩ : ∃ wa, wa = w3.alloc (.cells #[.int .i64 cc.many, .int .i64 cc.enc, .int .i64 cc.texts, .slice A3 n3 k3] 27) := ⟨_, rfl⟩
    have hza : wa.heap.size = w3.heap.size + 1 := by rw [hwa]; simp
    have hal : Below w3.heap.size w3 wa := hwa ▸ (Below.refl w3.heap.size w3).alloc (Nat.le_refl _) _
    have HKA : Hid (wa.heap[w3.heap.size]? = some (.cells #[.int .i64 cc.many, .int .i64 cc.enc, .int .i64 cc.texts, .slice A3 n3 k3] 27 (0, 0))) := Lib.hid (hwa ▸ newBlkT w3 _)
    have hb3a := hb3.trans (hal.mono hb3.size)
    have HBA := Lib.hid (on HB2.out hb3a)
    have HRA := Lib.hid (HR2.out.below hb3a)
    have HSA := Lib.hid (hst3.below hal)
    have hn3 := hst3.1
    clear hb3 hb3a hal hst3 hnk3 hkm3
    go_wp2_with fail
    rw [← hwa]
    clear hwa
    refine (TakeT_any wa cc A3 n3 k3 HSA.out (by omega) HP4.out HP5.out).mono ?_; rintro e w4 ⟨G4, n4, k4, rfl, hs4, hn4, hk4, hb4⟩
    rw [HP3.out] at hs4 ⊢
    have h4l := hs4.len
    have hka := (hb4.block w3.heap.size (by omega)).trans HKA.out
    have ca0 := cell_blkT hka 0
    rw [HP2.out] at ca0
    have HB4 := Lib.hid (on HBA.out hb4)
    have HR4 := Lib.hid (HRA.out.below hb4)
    have HS4 := Lib.hid hs4
    clear hb4 hka hs4
    go_wp2_with fail
    refine (rSame15_any w4 G4 G n4 m k4 cG _ _ HS4.out HR4.out (by omega) (by omega)).mono ?_; rintro e w5 ⟨rfl, q5, hq5⟩
    rw [decide_eq_true rfl]
    have k5 : w5.cell? ⟨w3.heap.size, 0, none⟩ = some (.int .i64 O.length) := by rw [hq5]; exact ca0
    rw [hOl] at k5
    have HB5 : Hid (Below w.heap.size w w5) := Lib.hid (hq5 ▸ bdN HB4.out q5)
    clear hq5 ca0
    go_wp2_with fail
    go_ret
    exact ⟨rfl, HB5.out⟩
end Go.Proofs.YtmejoococajikaaGreat

/- Joined texts: TxO, TxW, TxI, TxB. Each has its own head line. No condition beyond those that its theorems state. -/
import Derived.Shelf.SlSorted.IsSorted
import Derived.Test.YtmejoococajikaaGreatJ43
import Derived.Test.YtmejoococajikaaGreatJ44
import Derived.Test.YtmejoococajikaaGreatJ30
import Derived.Test.YtmejoococajikaaGreatJ41
set_option linter.unusedVariables false

/- slices.IsSorted of texts: its contract, laid here. -/
namespace Go.Proofs.YtmejoococajikaaGreat
open Go.RowKit Go.Shelf

def isSorted_ren : Go.Shelf.Ren := ⟨fun | 11 => 49 | 19 => 70 | 25 => 109 | n => n, fun | 25 => 22 | 27 => 9 | 0 => 0 | 3 => 3 | 4 => 4 | n => n, fun | n => n⟩
theorem isSorted_lays : Go.Proofs.SlLaysO.n11 Tryz.prog isSorted_ren := {
  mixed := by kernel_rfl
  f11 := ⟨Tryz.f49.name, by decide, Tryz.func49.trans (congrArg some (by kernel_rfl))⟩
  f19 := ⟨Tryz.f70.name, by decide, Tryz.func70.trans (congrArg some (by kernel_rfl))⟩
  f25 := ⟨Tryz.f109.name, by decide, Tryz.func109.trans (congrArg some (by kernel_rfl))⟩
  t0 := Tryz.underlying0
  a0 := Tryz.isAgg0
  z0 := Tryz.sizeOf0
  v0 := Tryz.zeroValue0
  t3 := Tryz.underlying3
  a3 := Tryz.isAgg3
  z3 := Tryz.sizeOf3
  v3 := Tryz.zeroValue3
  t4 := Tryz.underlying4
  a4 := Tryz.isAgg4
  z4 := Tryz.sizeOf4
  v4 := Tryz.zeroValue4
  t25 := Tryz.underlying22
  a25 := Tryz.isAgg22
  z25 := Tryz.sizeOf22
  v25 := Tryz.zeroValue22
  t27 := Tryz.underlying9
  a27 := Tryz.isAgg9
  z27 := Tryz.sizeOf9
  v27 := Tryz.zeroValue9 }
/-- Texts that don't fall. -/
def upB (W : List ByteArray) : Bool := Lib.downOK (fun x y : ByteArray => decide (x.data.toList < y.data.toList)) W.toArray (W.length - 1)
theorem isSorted_any (w : World) (A : Option Addr) (n c : Nat) (l : List ByteArray) (hr : Rs w A n l) (hn : n ≤ 1000000) :
    Calls Tryz.prog 49 #[.slice A n c] w fun e w' => e = .returned (.bool (upB l)) ∧ ∃ q, w' = w.drewN q := by
  have hl := hr.len
  rcases Nat.eq_zero_or_pos n with rfl | h0
  · obtain rfl : l = [] := List.eq_nil_of_length_eq_zero hl
    refine (AnyO.slices_IsSorted_string_none isSorted_lays A c w).mono ?_
    rintro e w' ⟨rfl, rfl⟩
    exact ⟨rfl, 0, rfl⟩
  · obtain ⟨b, o, rfl, hb, hc⟩ := hr.all h0
    have h := AnyO.slices_IsSorted_string isSorted_lays b o c l.toArray w (fun i hi => by
      have hi' : i < l.length := by simpa using hi
      rw [hc i hi', getElem!_pos l.toArray i hi]
      simp) (by simp; omega)
    have he : l.toArray.size = n := by simp; exact hl
    rw [he] at h
    refine Calls.mono h ?_
    rintro e w' ⟨rfl, q, rfl⟩
    exact ⟨by unfold upB; rw [hl], q, rfl⟩
end Go.Proofs.YtmejoococajikaaGreat

/- Texts, plain: words that rise; how many texts are cut; texts by their places. -/
namespace Go.Proofs.YtmejoococajikaaGreat
open Go.RowKit

theorem cutX_len {b l : List Int} {O : List ByteArray} (h : cutX b l = some O) : O.length = l.length := by
  induction l generalizing b O with
  | nil =>
    unfold cutX at h
    split at h
    · injection h with h; subst h; rfl
    · cases h
  | cons k r ih =>
    unfold cutX at h
    split at h
    · cases h
    · cases hc : cutX (b.drop k.toNat) r with
      | none => rw [hc] at h; cases h
      | some O2 =>
        rw [hc] at h
        injection h with h
        subst h
        rw [List.length_cons, List.length_cons, ih hc]
theorem cutT_len (b lens : List Int) (many : Int) (hu : U8 lens) : (cutT b lens many).1.length ≤ 4096 := by
  unfold cutT
  split
  · exact Nat.zero_le _
  · cases hc : cutX b (numsT lens many).1 with
    | none => exact Nat.zero_le _
    | some O =>
      show O.length ≤ 4096
      rw [cutX_len hc]
      exact (numsT_good lens many hu).2
theorem adj_rising {W : List ByteArray} (h : ∀ i, i + 1 < W.length → (W.getD i ⟨#[]⟩).data.toList < (W.getD (i + 1) ⟨#[]⟩).data.toList) : Rising W := by
  unfold Rising
  rw [List.pairwise_iff_getElem]
  have key : ∀ d i, (hi : i + d + 1 < W.length) → (W[i]'(by omega)).data.toList < (W[i + d + 1]'hi).data.toList := by
    intro d
    induction d with
    | zero =>
      intro i hi
      have := h i hi
      rwa [List.getD_eq_getElem?_getD, List.getD_eq_getElem?_getD, List.getElem?_eq_getElem (by omega), List.getElem?_eq_getElem hi] at this
    | succ d ih =>
      intro i hi
      have h1 := ih i (by omega)
      have h2 := h (i + d + 1) hi
      rw [List.getD_eq_getElem?_getD, List.getD_eq_getElem?_getD, List.getElem?_eq_getElem (by omega), List.getElem?_eq_getElem (show i + d + 1 + 1 < W.length by omega)] at h2
      exact List.lt_trans h1 h2
  intro i j hi hj hij
  have := key (j - i - 1) i (by omega)
  have e : i + (j - i - 1) + 1 = j := by omega
  simpa only [e] using this
theorem risingB_iff (W : List ByteArray) : risingB W = true ↔ Rising W := by
  unfold risingB
  rw [List.all_eq_true]
  constructor
  · intro h
    refine adj_rising fun i hi => ?_
    have := h i (List.mem_range.2 (by omega))
    simpa using this
  · intro h i hi
    have hi := List.mem_range.1 hi
    have := List.pairwise_iff_getElem.1 h i (i + 1) (by omega) (by omega) (by omega)
    rw [decide_eq_true_eq, List.getD_eq_getElem?_getD, List.getD_eq_getElem?_getD, List.getElem?_eq_getElem (by omega), List.getElem?_eq_getElem (by omega)]
    exact this
theorem nodup_of_len {α : Type} [DecidableEq α] {W l : List α} (hW : W.Nodup) (hs : ∀ x, x ∈ W ↔ x ∈ l) (hl : l.length ≤ W.length) : l.Nodup := by
  rw [List.nodup_iff_count]
  intro a
  refine Nat.le_of_not_lt fun h => ?_
  have ha : a ∈ l := List.count_pos_iff.1 (by omega)
  have h2 : W.length ≤ (l.erase a).length := nodup_len hW fun x hx => by
    by_cases e : x = a
    · subst e
      exact List.count_pos_iff.1 (by rw [List.count_erase_self]; omega)
    · exact (List.mem_erase_of_ne e).2 ((hs x).1 hx)
  rw [List.length_erase_of_mem ha] at h2
  have := List.length_pos_of_mem ha
  omega
theorem upB_iff (W : List ByteArray) : upB W = true ↔ ∀ i (hi : i + 1 < W.length), ¬ W[i + 1].data.toList < (W[i]'(by omega)).data.toList := by
  unfold upB
  rw [Lib.downOK_iff]
  constructor
  · intro h i hi
    have := h i (by omega)
    rw [getElem!_pos W.toArray (i + 1) (by simpa using hi), getElem!_pos W.toArray i (by simp; omega)] at this
    simpa using this
  · intro h i hi
    have := h i (by omega)
    rw [getElem!_pos W.toArray (i + 1) (by simp; omega), getElem!_pos W.toArray i (by simp; omega)]
    simpa using this
/-- What the program asks of words: that none stands twice, and that none falls: that they rise. -/
theorem words_up {W l : List ByteArray} (hW : IsWords W l) : (decide (W.length < l.length) || !upB l) = !risingB l := by
  by_cases hr : Rising l
  · have e : W = l := hW.unique ⟨hr, fun _ => Iff.rfl⟩
    subst e
    rw [(risingB_iff W).2 hr, decide_eq_false (by omega)]
    have : upB W = true := (upB_iff W).2 fun i hi h => by
      have := List.pairwise_iff_getElem.1 hr i (i + 1) (by omega) hi (by omega)
      exact List.lt_irrefl _ (List.lt_trans h this)
    rw [this]; rfl
  · have h0 : risingB l = false := by
      cases h : risingB l with
      | false => rfl
      | true => exact absurd ((risingB_iff l).1 h) hr
    rw [h0]
    by_cases hl : W.length < l.length
    · rw [decide_eq_true hl]; rfl
    · rw [decide_eq_false hl]
      cases hu : upB l with
      | false => rfl
      | true =>
        refine absurd (adj_rising fun i hi => ?_) hr
        have h1 := (upB_iff l).1 hu i hi
        have hn := nodup_of_len hW.up.nodup hW.mem (by omega)
        rw [List.getD_eq_getElem?_getD, List.getD_eq_getElem?_getD, List.getElem?_eq_getElem (by omega), List.getElem?_eq_getElem hi]
        show (l[i]'(by omega)).data.toList < l[i + 1].data.toList
        rcases List.le_iff_lt_or_eq.1 (List.not_lt.1 h1) with h | h
        · exact h
        · exact absurd ((List.getElem_inj hn).1 (key_inj h)) (by omega)
theorem indexT_step {W : List ByteArray} {k : Nat} {r : List Int} (h : k < W.length) : indexT W ((k : Int) :: r) = (indexT W r).map (W[k] :: ·) := by
  rw [indexT, Int.toNat_natCast, List.getElem?_eq_getElem h]
theorem indexT_bad {W : List ByteArray} {k : Nat} {r : List Int} (h : W.length ≤ k) : indexT W ((k : Int) :: r) = none := by
  rw [indexT, Int.toNat_natCast, List.getElem?_eq_none h]
end Go.Proofs.YtmejoococajikaaGreat

/- Texts: indexed (real): texts by their places among words. -/
namespace Go.Proofs.YtmejoococajikaaGreat
open Go.RowKit

theorem wpList_look_row (w : World) {ops : Array Oper} {rest : List Oper} {o : Oper} {a : Act} {Q : Exit → Act → World → Prop} (hg : o.guard = none) (m x : Operand) (hop : o.op = Op.lookup 56 m x false) (b n : Nat) (D : DataW Value)
    (hm : a.eval m = .map (some b)) (hown : w.ownsMap Tryz.prog 3 rawE b n D) (k : Int) (hx : a.eval x = .int .i64 k) (hk : (Lit.int .i64 k).wf = true) (V : Value) (hV : D.atKey (.int .i64 k) (.held (.slice none 0 0)) = .held V)
    (hK : wpList Tryz.prog ops Q rest (a.put o.dst V) w) :
    wpList Tryz.prog ops Q (o :: rest) a w := by
  refine wpList_plain hg fun K' hK' => ?_
  obtain ⟨v, ps, hrun, hv⟩ := hown.lookup keyed_i Tryz.underlying56 (Tryz.zeroValue38 w) (zd := .held (.slice none 0 0)) (zp := []) rfl (key_ofI hk)
  unfold rawE at hv
  injection hv with hv
  injection hv with hv _
  rw [hV] at hv
  injection hv with hv
  subst hv
  unfold Oper.wp
  simp [execOp, hop, hm, hx, hrun, Result.andThen]
  exact hK' _ _ hK
theorem wf2 : (Lit.int .i64 2).wf = true := wf_natT (j := 2) (by omega)
theorem wf3 : (Lit.int .i64 3).wf = true := wf_natT (j := 3) (by omega)
theorem wf4 : (Lit.int .i64 4).wf = true := wf_natT (j := 4) (by omega)
/-- What texts stand at places among words, if all is well. -/
def idxC (b2 b3 b4 : List Int) (many texts : Int) : List ByteArray × Int :=
  if (numsT b2 many).2 ≠ 0 ∨ (cutT b4 b3 texts).2 ≠ 0 ∨ risingB (cutT b4 b3 texts).1 = false then ([], 2)
  else optT (indexT (cutT b4 b3 texts).1 (numsT b2 many).1)
set_option maxRecDepth 100000 in
set_option maxHeartbeats 8000000 in
theorem indexed_any (w : World) (many enc texts : Int) (Z : Value) (mb nn : Nat) (D : DataW Value) (hown : w.ownsMap Tryz.prog 3 rawE mb nn D)
    (A2 A3 A4 : Option Addr) (n2 n3 n4 c2 c3 c4 : Nat) (b2 b3 b4 : List Int)
    (h2 : D.atKey (.int .i64 2) (.held (.slice none 0 0)) = .held (.slice A2 n2 c2)) (h3 : D.atKey (.int .i64 3) (.held (.slice none 0 0)) = .held (.slice A3 n3 c3)) (h4 : D.atKey (.int .i64 4) (.held (.slice none 0 0)) = .held (.slice A4 n4 c4))
    (s2 : Sl w .u8 A2 n2 c2 b2) (s3 : Sl w .u8 A3 n3 c3 b3) (s4 : Sl w .u8 A4 n4 c4 b4) (u2 : U8 b2) (u3 : U8 b3) (u4 : U8 b4) (l2 : n2 ≤ 100000) (l3 : n3 ≤ 100000) (l4 : n4 ≤ 100000) :
    Calls Tryz.prog 30 #[.agg #[.int .i64 many, .int .i64 enc, .int .i64 texts, Z], .map (some mb)] w (StrErr w (idxC b2 b3 b4 many texts).1 (idxC b2 b3 b4 many texts).2) := by
  obtain ⟨ob, hob⟩ : ∃ ob, ob = Obj.cells #[.int .i64 many, .int .i64 enc, .int .i64 texts, Z] 27 := ⟨_, rfl⟩
  obtain ⟨w1, hw1⟩ : ∃ w1, w1 = w.alloc ob := ⟨_, rfl⟩
  have hk1 : w1.heap[w.heap.size]? = some (.cells #[.int .i64 many, .int .i64 enc, .int .i64 texts, Z] 27 (0, 0)) := by rw [hw1, hob]; exact newBlkT w _
  have kk0 := cell_blkT hk1 0
  have HK1 := Lib.hid hk1
  have hb1 : Below w.heap.size w w1 := hw1 ▸ (Below.refl w.heap.size w).alloc (Nat.le_refl _) _
  have hl1 : w.heap.size < w1.heap.size := by rw [hw1]; simp
  have HB1 := Lib.hid hb1
  have HM1 := Lib.hid (show w1.ownsMap Tryz.prog 3 rawE mb nn D from hw1 ▸ hown.alloc _)
  have HS2 := Lib.hid (s2.below hb1); have HS3 := Lib.hid (s3.below hb1); have HS4 := Lib.hid (s4.below hb1)
  have H2 := Lib.hid h2; have H3 := Lib.hid h3; have H4 := Lib.hid h4
  have HU2 := Lib.hid u2; have HU3 := Lib.hid u3; have HU4 := Lib.hid u4
  obtain ⟨N, en, hN⟩ : ∃ N en, numsT b2 many = (N, en) := ⟨_, _, rfl⟩
  obtain ⟨W, ew, hW⟩ : ∃ W ew, cutT b4 b3 texts = (W, ew) := ⟨_, _, rfl⟩
  have HN := Lib.hid hN; have HW := Lib.hid hW
  have HNN : Hid (∀ y ∈ N, 0 ≤ y) := Lib.hid (by have := numsT_nn b2 many; rwa [hN] at this)
  have HNG : Hid (I64 N ∧ N.length ≤ 4096) := Lib.hid (by have := numsT_good b2 many u2; rwa [hN] at this)
  have HWL : Hid (W.length ≤ 4096) := Lib.hid (by have := cutT_len b4 b3 texts u3; rwa [hW] at this)
  have HV : Hid (idxC b2 b3 b4 many texts = if en ≠ 0 ∨ ew ≠ 0 ∨ risingB W = false then (([], 2) : List ByteArray × Int) else optT (indexT W N)) := Lib.hid (by unfold idxC; rw [hN, hW])
  have HM0 : Hid ((w.alloc (.cells #[.int .i64 many, .int .i64 enc, .int .i64 texts, Z] 27)).ownsMap Tryz.prog 3 rawE mb nn D) := Lib.hid (hown.alloc _)
  rw [hob] at hw1
  clear hown s2 s3 s4 h2 h3 h4 u2 u3 u4 hN hW hb1 hk1 hob
  go_enter Tryz.func30, Tryz.ntmps30
  go_wp2_with (at_lookup; refine wpList_look_row _ rfl _ _ rfl mb nn D rfl HM0.out 2 rfl wf2 _ H2.out ?_)
  rw [← hw1]
  clear hw1
  refine (numbers_any w1 A2 n2 c2 b2 HS2.out.1 HU2.out HS2.out.2.1 HS2.out.2.2 l2 many).mono ?_; rintro e w2 ⟨GN, nN, cN, rfl, hs, hb⟩
  rw [HN.out] at hs ⊢
  have hnl := hs.1.len
  have HSN := Lib.hid hs; have HB2 := Lib.hid (on HB1.out hb)
  have hk2 := (hb.block w.heap.size hl1).trans HK1.out
  have ka0 := cell_blkT hk2 2
  have HK2 := Lib.hid hk2
  have hl2 : w.heap.size < w2.heap.size := Nat.lt_of_lt_of_le hl1 hb.size
  have HM2 := Lib.hid (HM1.out.kept (row := none) ⟨hb.os, hb.tape, hb.output, hb.size, fun k hk _ => hb.block k hk⟩ (by simp))
  have HS3b := Lib.hid (HS3.out.below hb); have HS4b := Lib.hid (HS4.out.below hb)
  clear hs hb hk2 HM0
  go_wp2_with (first
    | (at_lookup; refine wpList_look_row _ rfl _ _ rfl mb nn D rfl HM2.out 4 rfl wf4 _ H4.out ?_)
    | (at_lookup; refine wpList_look_row _ rfl _ _ rfl mb nn D rfl HM2.out 3 rfl wf3 _ H3.out ?_))
  refine (cutS_any w2 A4 A3 n4 c4 n3 c3 b4 b3 HS4b.out.1 HU4.out HS4b.out.2.1 HS4b.out.2.2 l4 HS3b.out.1 HU3.out HS3b.out.2.1 HS3b.out.2.2 l3 texts).mono ?_; rintro e w3 ⟨GW, nW, cW, rfl, hs, hcw, hcm, hb⟩
  rw [HW.out] at hs ⊢
  have hwl := hs.len
  have HRW := Lib.hid hs; have HB3 := Lib.hid (on HB2.out hb)
  have HSN3 := Lib.hid (HSN.out.below hb)
  clear hs hb
  by_cases he : en = 0
  · subst he
    by_cases hf : ew = 0
    · subst hf
      have hnw := HWL.out
      go_wp2_with fail
      refine (Words_any w3 GW nW cW W HRW.out (by omega)).mono ?_; rintro e w4 ⟨GX, nX, cX, X, rfl, hrx, hWX, hxn, _, _, hb⟩
      have hxl := hrx.len
      have HRX := Lib.hid hrx; have HB4 := Lib.hid (on HB3.out hb)
      have HSN4 := Lib.hid (HSN3.out.below hb)
      have HRW4 := Lib.hid (HRW.out.below hb)
      have HUP := Lib.hid (words_up hWX)
      clear hrx hb hWX
      by_cases hxw : nX < nW
      · have t1 : decide (nX < nW) = true := decide_eq_true hxw
        have HE : Hid (idxC b2 b3 b4 many texts = ([], 2)) := Lib.hid (by
          have h := HUP.out
          rw [decide_eq_true (by omega)] at h
          rw [HV.out, if_pos (.inr (.inr (by simpa using h.symm)))])
        go_wp2_with fail
        go_ret2
        rw [HE.out]
        exact ⟨_, _, _, rfl, Rs.nil _ _, Nat.le_refl _, by omega, HB4.out⟩
      · have t1 : decide (nX < nW) = false := decide_eq_false hxw
        obtain ⟨up, hup⟩ : ∃ up, upB W = up := ⟨_, rfl⟩
        have HUq := Lib.hid hup
        clear hup
        go_wp2_with fail
        refine (isSorted_any w4 GW nW cW W HRW4.out (by omega)).mono ?_; rintro e w5 ⟨rfl, q5, hq5⟩
        rw [HUq.out]
        have HB5 : Hid (Below w.heap.size w w5) := Lib.hid (hq5 ▸ bdN HB4.out q5)
        have HSN5 : Hid (Sl w5 .i64 GN nN cN N) := Lib.hid (hq5 ▸ HSN4.out)
        have HRW5 : Hid (Rs w5 GW nW W) := Lib.hid (hq5 ▸ HRW4.out)
        clear hq5
        cases up
        · have HE : Hid (idxC b2 b3 b4 many texts = ([], 2)) := Lib.hid (by
            have h := HUP.out
            rw [HUq.out, Bool.not_false, Bool.or_true] at h
            rw [HV.out, if_pos (.inr (.inr (by simpa using h.symm)))])
          go_wp2_with fail
          go_ret2
          rw [HE.out]
          exact ⟨_, _, _, rfl, Rs.nil _ _, Nat.le_refl _, by omega, HB5.out⟩
        · have HE : Hid (idxC b2 b3 b4 many texts = optT (indexT W N)) := Lib.hid (by
            have h := HUP.out
            rw [HUq.out, decide_eq_false (by omega)] at h
            have h : risingB W = true := by simpa using h.symm
            rw [HV.out, if_neg (by simp [h])])
          have HO : Hid (w5.ownsRow w5.heap.size 9 1 (.slice none 0 0) 0 (([] : List ByteArray).map Value.string)) := Lib.hid ⟨by simp, .inl ⟨rfl, rfl⟩⟩
          have HALL := Lib.hid (fun h0 => HSN5.out.1.2 h0)
          have HALLW := Lib.hid (fun h0 => HRW5.out.all h0)
          have hlim := HNG.out.2
          go_wp2_with fail
          go_loopg [10, 52] nN (fun gg v10 v wr => ∃ (j : Nat) (O : List ByteArray), v = .int .i64 j ∧ j ≤ nN ∧ nN - j ≤ gg ∧ Hid (wr.ownsRow w5.heap.size 9 1 v10 j (O.map Value.string)) ∧ Hid (indexT W N = (indexT W (N.drop j)).map (O ++ ·)) ∧ Hid (Below w5.heap.size w5 wr))
          case atStart => exact ⟨0, [], rfl, by omega, by omega, HO, Lib.hid (by rw [List.drop_zero]; cases indexT W N <;> rfl), Lib.hid (Below.refl _ _)⟩
          case round =>
          obtain ⟨j, O, rfl, hjn, hgg, ho, hcx, hb⟩ := hrel
          obtain ⟨GO, cO, hGO⟩ := own_form ho.out
          subst hGO
          have hz := hb.out.size
          by_cases hlt : j < nN
          · have t3 : decide (j < nN) = true := decide_eq_true hlt
            obtain ⟨gb, go, hG, hgb, hcells⟩ := HALL.out (by omega)
            have hj : j < N.length := by omega
            have cj := (hb.out.cell (p := ⟨gb, go + j, none⟩) hgb).trans (hcells j _ (by rw [List.getElem?_map, List.getElem?_eq_getElem hj]; rfl))
            have HDR := Lib.hid (List.drop_eq_getElem_cons hj)
            have h0 := HNN.out _ (List.getElem_mem hj)
            have h64 := HNG.out.1 _ (List.getElem_mem hj)
            obtain ⟨k, hk⟩ : ∃ k : Nat, N[j] = (k : Int) := ⟨N[j].toNat, by omega⟩
            rw [hk] at cj HDR h64
            subst hG
            clear hcells hk h0
            by_cases hbad : nW ≤ k
            · have t4 : decide ((nW : Int) ≤ (k : Int)) = true := decide_eq_true (by omega)
              have HVV : Hid (idxC b2 b3 b4 many texts = ([], 2)) := Lib.hid (by rw [HE.out, hcx.out, HDR.out, indexT_bad (by omega)]; rfl)
              go_wp2_with fail
              go_ret2
              rw [HVV.out]
              exact ⟨_, _, _, rfl, Rs.nil _ _, Nat.le_refl _, by omega, on HB5.out hb.out⟩
            · have t4 : decide ((nW : Int) ≤ (k : Int)) = false := decide_eq_false (by omega)
              obtain ⟨wb, wo, hGW, hwb, hwc⟩ := HALLW.out (by omega)
              subst hGW
              have hkl : k < W.length := by omega
              have ck := (hb.out.cell (p := ⟨wb, wo + k, none⟩) hwb).trans (hwc k hkl)
              have HST := Lib.hid (indexT_step (r := N.drop (j + 1)) hkl)
              generalize W[k] = x at ck HST
              have HO2 := Lib.hid (own_below ho.out ((Below.refl wr.heap.size wr).alloc (Nat.le_refl _) (.cells #[.string x] 9)))
              have HOB := Lib.hid (Rs.one wr x 9)
              clear hwc
              go_wp2_with (at_builtin; refine wpList_str _ rfl (.tmp 60) (.tmp 65) rfl w5.heap.size _ j _ rfl HO2.out _ _ _ [x] rfl HOB.out (by omega) (by simp; omega) ?_; intro G2 c3 w6 ho6 hg6 _)
              have HB6 := Lib.hid (push_ hb.out (Nat.le_refl _) ho.out hg6)
              have HO6 := Lib.hid ho6
              have HX6 : Hid (indexT W N = (indexT W (N.drop (j + 1))).map ((O ++ [x]) ++ ·)) := Lib.hid (by
                rw [hcx.out, HDR.out, HST.out, Option.map_map]
                congr 1
                funext y
                simp)
              clear ho6 hg6
              go_wp2_with fail
              go_roundg (nN - (j + 1))
              case measure => omega
              case rel => exact ⟨j + 1, _, by go_num, by omega, by omega, HO6, HX6, HB6⟩
          · have t3 : decide (j < nN) = false := decide_eq_false hlt
            obtain rfl : j = nN := by omega
            have hnd : N.drop j = [] := List.drop_of_length_le (by omega)
            have hcap := own_cap ho.out
            have HVV : Hid (idxC b2 b3 b4 many texts = (O, 0)) := Lib.hid (by rw [HE.out, hcx.out, hnd]; simp [optT, indexT])
            go_wp2_with fail
            go_ret2
            rw [HVV.out]
            exact ⟨_, _, _, rfl, Rs.of_own ho.out, hcap.1, hcap.2, on HB5.out hb.out⟩
    · have HE : Hid (idxC b2 b3 b4 many texts = ([], 2)) := Lib.hid (by rw [HV.out, if_pos (.inr (.inl hf))])
      have t1 : (ew != 0) = true := by simp [hf]
      go_wp2_with fail
      go_ret2
      rw [HE.out]
      exact ⟨_, _, _, rfl, Rs.nil _ _, Nat.le_refl _, by omega, HB3.out⟩
  · have HE : Hid (idxC b2 b3 b4 many texts = ([], 2)) := Lib.hid (by rw [HV.out, if_pos (.inl he)])
    have t1 : (en != 0) = true := by simp [he]
    go_wp2_with fail
    go_ret2
    rw [HE.out]
    exact ⟨_, _, _, rfl, Rs.nil _ _, Nat.le_refl _, by omega, HB3.out⟩
end Go.Proofs.YtmejoococajikaaGreat

/- Texts, plain: what was laid down is taken as it was. -/
namespace Go.Proofs.YtmejoococajikaaGreat
open Go.RowKit

theorem strOf_bytesT (s : ByteArray) : strOf (bytesT s) = s := by
  refine key_inj ?_
  show (strOfNums (bytesT s)).data.toList = s.data.toList
  rw [strOfNums_data]
  simp [bytesT, List.map_map, Function.comp_def]
theorem cutX_back (l : List ByteArray) (h : ∀ s ∈ l, s.size ≤ 300) : cutX (catT l) (lensT l) = some l := by
  induction l with
  | nil => rfl
  | cons s r ih =>
    have hs := h s List.mem_cons_self
    have hl := bytesT_len s
    have e : catT (s :: r) = bytesT s ++ catT r := by simp [catT]
    have e2 : lensT (s :: r) = (s.size : Int) :: lensT r := rfl
    rw [e, e2, cutX, if_neg (by rw [List.length_append, hl]; omega), Int.toNat_natCast, List.drop_left' hl, List.take_left' hl, ih fun x hx => h x (List.mem_cons_of_mem _ hx), strOf_bytesT]
    rfl
theorem lensT_nn (l : List ByteArray) : (lensT l).all (keepB false) = true := by
  rw [List.all_eq_true]
  intro y hy
  obtain ⟨s, _, rfl⟩ := List.mem_map.1 hy
  unfold keepB
  simp
theorem lensT_64 {l : List ByteArray} (h : ∀ s ∈ l, s.size ≤ 300) : I64 (lensT l) := fun y hy => by
  obtain ⟨s, hs, rfl⟩ := List.mem_map.1 hy
  have := h s hs
  omega
theorem indexT_back {W : List ByteArray} (l : List ByteArray) (h : ∀ s ∈ l, s ∈ W) : indexT W (placesT W l) = some l := by
  induction l with
  | nil => rfl
  | cons s r ih =>
    have e : placesT W (s :: r) = (idxT W s : Int) :: placesT W r := rfl
    rw [e, indexT, Int.toNat_natCast, idxT_get (h s List.mem_cons_self)]
    dsimp only
    rw [ih fun x hx => h x (List.mem_cons_of_mem _ hx)]
    rfl
theorem numsT_back {l p : List Int} (h : ∀ r, takeGl (p ++ r) l.length false = (l, r, 0)) : numsT p l.length = (l, 0) := by
  have := h []
  rw [List.append_nil] at this
  unfold numsT
  rw [this, if_neg (by simp)]
theorem put_back {l W : List ByteArray} (hW : IsWords W l) (hs : ∀ s ∈ l, s.size ≤ 300) (hn : l.length ≤ 300) :
    (putT l W).2 = 0 ∧ (putT l W).1.many = l.length ∧ takeT (putT l W).1 = (l, 0) ∧ I64 ((putT l W).1.st.map Prod.fst) ∧ (∀ s ∈ (putT l W).1.st, U8 s.2 ∧ s.2.length ≤ 100000) ∧ (putT l W).1.st.length ≤ 3 := by
  have hb : bigT l = false := by
    unfold bigT
    rw [List.any_eq_false]
    intro s h
    have := hs s h
    simp; omega
  have hsW : ∀ s ∈ W, s.size ≤ 300 := fun s h => hs s ((hW.mem s).1 h)
  have hlW := hW.len
  have hll : (lensT l).length = l.length := by unfold lensT; rw [List.length_map]
  have hlw : (lensT W).length = W.length := by unfold lensT; rw [List.length_map]
  have hc1 := catT_len (l := l) (m := 300) hs
  have hc2 := catT_len (l := W) (m := 300) hsW
  unfold putT
  rw [if_neg (by rw [hb]; simp)]
  split
  · obtain ⟨p, hp, hp8, hpl, hpb⟩ := gl_back (lensT l) false (lensT_64 hs) (lensT_nn l) (by omega)
    rw [hp]
    rw [hll] at hpb
    have hN : numsT p l.length = (lensT l, 0) := by have := numsT_back (l := lensT l) (p := p) (by rw [hll]; exact hpb); rwa [hll] at this
    refine ⟨rfl, rfl, ?_, ?_, ?_, by simp⟩
    · unfold takeT
      dsimp only
      rw [if_neg (by omega), if_pos ⟨rfl, rfl⟩]
      show cutT (catT l) p l.length = _
      unfold cutT
      rw [hN, if_neg (by simp), cutX_back l hs]
      rfl
    · intro x hx
      have : x = 2 ∨ x = 3 := by simpa using hx
      omega
    · intro s hx
      have : s = (2, catT l) ∨ s = (3, p) := by simpa using hx
      rcases this with rfl | rfl
      · exact ⟨catT_u8 l, by show (catT l).length ≤ 100000; omega⟩
      · exact ⟨hp8, by show p.length ≤ 100000; omega⟩
  · have hmem : ∀ s ∈ l, s ∈ W := fun s h => (hW.mem s).2 h
    have hpn : (placesT W l).all (keepB false) = true := by
      rw [List.all_eq_true]
      intro y hy
      have := placesT_nn W l y hy
      unfold keepB
      simpa using this
    have hpl0 := placesT_len W l
    obtain ⟨p, hp, hp8, hpl, hpb⟩ := gl_back (placesT W l) false (placesT_i64 hmem (by omega)) hpn (by omega)
    obtain ⟨p2, hp2, hp82, hpl2, hpb2⟩ := gl_back (lensT W) false (lensT_64 hsW) (lensT_nn W) (by omega)
    rw [hp, hp2]
    have hN : numsT p l.length = (placesT W l, 0) := by have := numsT_back hpb; rwa [hpl0] at this
    have hN2 : numsT p2 W.length = (lensT W, 0) := by have := numsT_back hpb2; rwa [hlw] at this
    have hC : cutT (catT W) p2 W.length = (W, 0) := by
      unfold cutT
      rw [hN2, if_neg (by simp), cutX_back W hsW]
      rfl
    refine ⟨rfl, rfl, ?_, ?_, ?_, by simp⟩
    · unfold takeT
      dsimp only
      rw [if_neg (by omega), if_neg (fun h => absurd h.1 (by decide)), if_pos ⟨rfl, rfl, by omega, by omega⟩]
      show (if (numsT p l.length).2 ≠ 0 ∨ (cutT (catT W) p2 W.length).2 ≠ 0 ∨ risingB (cutT (catT W) p2 W.length).1 = false then (([], 2) : List ByteArray × Int) else optT (indexT (cutT (catT W) p2 W.length).1 (numsT p l.length).1)) = _
      rw [hN, hC, if_neg (by rw [(risingB_iff W).2 hW.up]; simp), indexT_back l hmem]
      rfl
    · intro x hx
      have : x = 2 ∨ x = 3 ∨ x = 4 := by simpa using hx
      omega
    · intro s hx
      have : s = (2, p) ∨ s = (3, p2) ∨ s = (4, catT W) := by simpa using hx
      rcases this with rfl | rfl | rfl
      · exact ⟨hp8, by show p.length ≤ 100000; omega⟩
      · exact ⟨hp82, by show p2.length ≤ 100000; omega⟩
      · exact ⟨catT_u8 W, by show (catT W).length ≤ 100000; omega⟩
end Go.Proofs.YtmejoococajikaaGreat

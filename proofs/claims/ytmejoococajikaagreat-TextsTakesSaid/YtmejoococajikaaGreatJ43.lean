/- Joined texts: TxC, TxI. Each has its own head line. No condition beyond those that its theorems state. -/
import Derived.Deep.LoopGhost
import Derived.Deep.RegionLaw
import Derived.Test.YtmejoococajikaaGreatJ41
import Derived.Test.YtmejoococajikaaGreatJ04
import Derived.Test.YtmejoococajikaaGreatJ42
set_option linter.unusedVariables false

/- texts.cut. -/
namespace Go.Proofs.YtmejoococajikaaGreat
open Go.RowKit

theorem step_strT {w : World} {ops : Array Oper} {o : Oper} {a : Act} {K : Act → World → Prop} {Q : Exit → Act → World → Prop} {E : Prop} (hgd : o.guard = none) (s x : Operand)
    (ho : o.op = .call { callee := .builtin .append, args := #[s, x], argTypes := #[22, 22] })
    (base : Nat) (v : Value) (n : Nat) (l : List ByteArray) (hs : a.eval s = v) (hown : w.ownsRow base 9 1 v n (l.map Value.string))
    (A : Option Addr) (m c : Nat) (l2 : List ByteArray) (hx : a.eval x = .slice A m c) (hr : Rs w A m l2) (hb : n + m ≤ 2000000000) (hbase : base ≤ w.heap.size)
    (h : ∀ G cap w', w'.ownsRow base 9 1 (.slice G (n + m) cap) (n + m) ((l ++ l2).map Value.string) → w.grownBy w' v.ownBlock → n + m ≤ cap → K (a.put o.dst (.slice G (n + m) cap)) w') :
    if Region.wanted o (yielded ops a.tmps) = true then Oper.wp Tryz.prog o a w K Q else E := by
  have hw : Region.wanted o (yielded ops a.tmps) = true := by simp [Region.wanted, hgd]
  rw [if_pos hw]
  obtain ⟨i0, hi, hz0, hz1, hz2⟩ := info_parts info_str
  refine wp_append_any w s x 22 ho base 9 i0 (.string ⟨#[]⟩) 1 16 Tryz.underlying22 hi hz0 hz1 hz2 rfl (by decide) v n _ hs hown A m c _ hx hr (str_one _) (by unfold maxLen; omega) (by omega) hbase ?_
  intro G cap w' h1 h2 _ h4
  rw [← List.map_append] at h1
  exact h G cap w' h1 h2 h4
theorem cutS_step {b : List Int} {k : Nat} {r : List Int} (h : ¬ (300 < (k : Int) ∨ (b.length : Int) < k)) : cutX b ((k : Int) :: r) = (cutX (b.drop k) r).map (strOf (b.take k) :: ·) := by
  rw [cutX, if_neg h, Int.toNat_natCast]
set_option maxRecDepth 100000 in
set_option maxHeartbeats 4000000 in
theorem cutS_any (w : World) (A B : Option Addr) (n cap m cap2 : Nat) (b lens : List Int) (hr : Ri w .u8 A n b) (hu : U8 b) (hc : n ≤ cap) (hm : cap ≤ 9223372036854775807) (hn : n ≤ 100000) (hr2 : Ri w .u8 B m lens) (hu2 : U8 lens) (hc2 : m ≤ cap2) (hm2 : cap2 ≤ 9223372036854775807) (hn2 : m ≤ 100000) (many : Int) :
    Calls Tryz.prog 29 #[.slice A n cap, .slice B m cap2, .int .i64 many] w (StrErr w (cutT b lens many).1 (cutT b lens many).2) := by
  have HR := Lib.hid hr; have HU := Lib.hid hu; have HR2 := Lib.hid hr2; have HU2 := Lib.hid hu2
  have hbl := hr.len
  clear hr hu hr2 hu2
  obtain ⟨N, er, hN⟩ : ∃ N er, numsT lens many = (N, er) := ⟨_, _, rfl⟩
  have HN := Lib.hid hN
  have HC : Hid (cutT b lens many = if er ≠ 0 then (([], 2) : List ByteArray × Int) else optT (cutX b N)) := Lib.hid (by unfold cutT; rw [hN])
  have HNN : Hid (∀ y ∈ N, 0 ≤ y) := Lib.hid (by have := numsT_nn lens many; rwa [hN] at this)
  have HNG : Hid (I64 N ∧ N.length ≤ 4096) := Lib.hid (by have := numsT_good lens many HU2.out; rwa [hN] at this)
  have her : er = 0 ∨ (er = 2 ∧ N = []) := by
    rcases numsT_er lens many with h | h <;> rw [hN] at h
    · exact .inl h
    · injection h with h1 h2; exact .inr ⟨h2, h1⟩
  clear hN
  go_enter Tryz.func29, Tryz.ntmps29
  go_wp2_with fail
  refine (numbers_any w B m cap2 lens HR2.out HU2.out hc2 hm2 hn2 many).mono ?_; rintro e w1 ⟨G, n1, c1, rfl, hs1, hb1⟩
  rw [HN.out] at hs1 ⊢
  have HS1 := Lib.hid hs1; have HB1 := Lib.hid hb1
  have HR1 := Lib.hid (HR.out.below hb1)
  have hnl := hs1.1.len
  clear hs1 hb1
  rcases her with rfl | ⟨rfl, rfl⟩
  · have va := conv_any (c := cap) HR1.out
    have HO : Hid (w1.ownsRow w1.heap.size 9 1 (.slice none 0 0) 0 (([] : List ByteArray).map Value.string)) := Lib.hid ⟨by simp, .inl ⟨rfl, rfl⟩⟩
    have HCX : Hid (cutT b lens many = optT (cutX b N)) := Lib.hid (by rw [HC.out, if_neg (by simp)])
    have HALL := Lib.hid (fun h0 => HS1.out.1.2 h0)
    have hlim := HNG.out.2
    go_wp2_with fail
    go_loopg [10, 11, 27] n1 (fun gg v10 v11 v wr => ∃ (j : Nat) (O : List ByteArray) (bb : List Int), v = .int .i64 j ∧ v11 = .string (strOf bb) ∧ j ≤ n1 ∧ n1 - j ≤ gg ∧ Hid (wr.ownsRow w1.heap.size 9 1 v10 j (O.map Value.string)) ∧ bb.length ≤ b.length ∧ Hid (cutX b N = (cutX bb (N.drop j)).map (O ++ ·)) ∧ Hid (Below w1.heap.size w1 wr))
    case atStart => exact ⟨0, [], b, rfl, rfl, by omega, by omega, HO, Nat.le_refl _, Lib.hid (by rw [List.drop_zero]; cases cutX b N <;> rfl), Lib.hid (Below.refl _ _)⟩
    case round =>
    obtain ⟨j, O, bb, rfl, rfl, hjn, hgg, ho, hbb, hcx, hb⟩ := hrel
    obtain ⟨GO, cO, hGO⟩ := own_form ho.out
    subst hGO
    have hsz := strOf_size bb
    have hz := hb.out.size
    by_cases hlt : j < n1
    · have t1 : decide (j < n1) = true := decide_eq_true hlt
      obtain ⟨gb, go, hG, hgb, hcells⟩ := HALL.out (by omega)
      have hj : j < N.length := by omega
      have cj := (hb.out.cell (p := ⟨gb, go + j, none⟩) hgb).trans (hcells j _ (by rw [List.getElem?_map, List.getElem?_eq_getElem hj]; rfl))
      have HDR := Lib.hid (List.drop_eq_getElem_cons hj)
      have h0 := HNN.out _ (List.getElem_mem hj)
      have h64 := HNG.out.1 _ (List.getElem_mem hj)
      obtain ⟨k, hk⟩ : ∃ k : Nat, N[j] = (k : Int) := ⟨N[j].toNat, by omega⟩
      rw [hk] at cj HDR h64
      subst hG
      clear hcells hk h0
      by_cases hbad : 300 < (k : Int) ∨ (bb.length : Int) < k
      · have hmin : decide (min (300 : Int) ((strOf bb).size : Int) < (k : Int)) = true := decide_eq_true (by omega)
        have HV : Hid (cutT b lens many = ([], 2)) := Lib.hid (by rw [HCX.out, hcx.out, HDR.out, cutX, if_pos hbad]; rfl)
        go_wp2_with fail
        go_ret2
        rw [HV.out]
        exact ⟨_, _, _, rfl, Rs.nil _ _, Nat.le_refl _, by omega, on HB1.out hb.out⟩
      · have hmin : decide (min (300 : Int) ((strOf bb).size : Int) < (k : Int)) = false := decide_eq_false (by omega)
        have hk1 : k ≤ bb.length := by omega
        have hex1 := strOf_extract bb k
        have hex2 := strOf_rest bb k
        go_wp2_with fail
        go_region_law (first
          | (refine step_strT rfl (.tmp 36) (.tmp 40) rfl w1.heap.size (.slice GO j cO) j O (by kernel_rfl) (by first | exact (ho.out.alloc _).drew | exact ho.out.drew.alloc _ | exact ho.out.alloc _) _ 1 1 [strOf (bb.take k)] (by kernel_rfl) (by first | exact Rs.one _ _ _ | exact (Rs.one _ _ _).drewN 1) (by omega) (by simp; omega) ?_; intro G2 c2 w2 ho2 hg2 _))
        have HB2 : Hid (Below w1.heap.size w1 w2) := Lib.hid (((bdN hb.out 1).alloc (by show w1.heap.size ≤ wr.heap.size; omega) _).grown hg2 (by rw [World.size_alloc]; show w1.heap.size ≤ wr.heap.size + 1; omega) (fun g e => (ho.out.lt g e).1))
        rw [show O ++ [strOf (bb.take k)] = O ++ [strOf (bb.take k)] from rfl] at ho2
        have HO2 := Lib.hid ho2
        have HX2 : Hid (cutX b N = (cutX (bb.drop k) (N.drop (j + 1))).map ((O ++ [strOf (bb.take k)]) ++ ·)) := Lib.hid (by
          rw [hcx.out, HDR.out, cutS_step hbad, Option.map_map]
          congr 1
          funext x
          simp)
        clear ho2 hg2
        go_wp2_with fail
        go_roundg (n1 - (j + 1))
        case measure => omega
        case rel => exact ⟨j + 1, _, bb.drop k, by go_num, rfl, by omega, by omega, HO2, by rw [List.length_drop]; omega, HX2, HB2⟩
    · have t1 : decide (j < n1) = false := decide_eq_false hlt
      obtain rfl : j = n1 := by omega
      have hnd : N.drop j = [] := List.drop_of_length_le (by omega)
      have hcap := own_cap ho.out
      by_cases hb0 : bb = []
      · have HV : Hid (cutT b lens many = (O, 0)) := Lib.hid (by rw [HCX.out, hcx.out, hnd, cutX, if_pos hb0]; simp [optT])
        have e1 : (strOf bb).toList.isEmpty = true := by rw [hb0, strOf_toList]; rfl
        clear hb0
        go_wp2_with fail
        go_ret2
        rw [HV.out]
        exact ⟨_, _, _, rfl, Rs.of_own ho.out, hcap.1, hcap.2, on HB1.out hb.out⟩
      · have HV : Hid (cutT b lens many = ([], 2)) := Lib.hid (by rw [HCX.out, hcx.out, hnd, cutX, if_neg hb0]; rfl)
        have e1 : (strOf bb).toList.isEmpty = false := by
          rw [strOf_toList]
          cases bb with
          | nil => exact absurd rfl hb0
          | cons x r => rfl
        clear hb0
        go_wp2_with fail
        go_ret2
        rw [HV.out]
        exact ⟨_, _, _, rfl, Rs.nil _ _, Nat.le_refl _, by omega, on HB1.out hb.out⟩
  · have HV : Hid (cutT b lens many = ([], 2)) := Lib.hid (by rw [HC.out, if_pos (by decide)])
    go_wp2_with fail
    go_ret2
    rw [HV.out]
    exact ⟨_, _, _, rfl, Rs.nil _ _, Nat.le_refl _, by omega, HB1.out⟩
end Go.Proofs.YtmejoococajikaaGreat

/- Texts: indexed (real): texts by their places among words. -/
namespace Go.Proofs.YtmejoococajikaaGreat
open Go.RowKit

theorem wpList_look_row (w : World) {ops : Array Oper} {rest : List Oper} {o : Oper} {a : Act} {Q : Exit → Act → World → Prop} (hg : o.guard = none) (m x : Operand) (hop : o.op = Op.lookup 56 m x false) (b n : Nat) (D : DataW Value)
    (hm : a.eval m = .map (some b)) (hown : w.ownsMap Tryz.prog 3 rawE b n D) (k : Int) (hx : a.eval x = .int .i64 k) (hk : (Lit.int .i64 k).wf = true) (V : Value) (hV : D.atKey (.int .i64 k) (.held (.slice none 0 0)) = .held V)
    (hK : wpList Tryz.prog ops Q rest (a.put o.dst V) w) :
    wpList Tryz.prog ops Q (o :: rest) a w := by
  refine wpList_plain hg fun K' hK' => ?_
  obtain ⟨v, ps, hrun, hv⟩ := hown.lookup keyed_i Tryz.underlying56 (Tryz.zeroValue38 w) (zd := .held (.slice none 0 0)) (zp := []) rfl (key_ofI hk)
  unfold rawE at hv
  injection hv with hv
  injection hv with hv _
  rw [hV] at hv
  injection hv with hv
  subst hv
  unfold Oper.wp
  simp [execOp, hop, hm, hx, hrun, Result.andThen]
  exact hK' _ _ hK
theorem wf2 : (Lit.int .i64 2).wf = true := wf_natT (j := 2) (by omega)
theorem wf3 : (Lit.int .i64 3).wf = true := wf_natT (j := 3) (by omega)
theorem wf4 : (Lit.int .i64 4).wf = true := wf_natT (j := 4) (by omega)
/-- What texts stand at places among words, if all is well. -/
def idxC (b2 b3 b4 : List Int) (many texts : Int) : List ByteArray × Int :=
  if (numsT b2 many).2 ≠ 0 ∨ (cutT b4 b3 texts).2 ≠ 0 ∨ risingB (cutT b4 b3 texts).1 = false then ([], 2)
  else optT (indexT (cutT b4 b3 texts).1 (numsT b2 many).1)
set_option maxRecDepth 100000 in
set_option maxHeartbeats 8000000 in
theorem indexed_any (w : World) (many enc texts : Int) (Z : Value) (mb nn : Nat) (D : DataW Value) (hown : w.ownsMap Tryz.prog 3 rawE mb nn D)
    (A2 A3 A4 : Option Addr) (n2 n3 n4 c2 c3 c4 : Nat) (b2 b3 b4 : List Int)
    (h2 : D.atKey (.int .i64 2) (.held (.slice none 0 0)) = .held (.slice A2 n2 c2)) (h3 : D.atKey (.int .i64 3) (.held (.slice none 0 0)) = .held (.slice A3 n3 c3)) (h4 : D.atKey (.int .i64 4) (.held (.slice none 0 0)) = .held (.slice A4 n4 c4))
    (s2 : Sl w .u8 A2 n2 c2 b2) (s3 : Sl w .u8 A3 n3 c3 b3) (s4 : Sl w .u8 A4 n4 c4 b4) (u2 : U8 b2) (u3 : U8 b3) (u4 : U8 b4) (l2 : n2 ≤ 100000) (l3 : n3 ≤ 100000) (l4 : n4 ≤ 100000) :
    Calls Tryz.prog 30 #[.agg #[.int .i64 many, .int .i64 enc, .int .i64 texts, Z], .map (some mb)] w (StrErr w (idxC b2 b3 b4 many texts).1 (idxC b2 b3 b4 many texts).2) := by
  obtain ⟨ob, hob⟩ : ∃ ob, ob = Obj.cells #[.int .i64 many, .int .i64 enc, .int .i64 texts, Z] 27 := ⟨_, rfl⟩
  obtain ⟨w1, hw1⟩ : ∃ w1, w1 = w.alloc ob := ⟨_, rfl⟩
  have hk1 : w1.heap[w.heap.size]? = some (.cells #[.int .i64 many, .int .i64 enc, .int .i64 texts, Z] 27 (0, 0)) := by rw [hw1, hob]; exact newBlkT w _
  have kk0 := cell_blkT hk1 0
  have HK1 := Lib.hid hk1
  have hb1 : Below w.heap.size w w1 := hw1 ▸ (Below.refl w.heap.size w).alloc (Nat.le_refl _) _
  have hl1 : w.heap.size < w1.heap.size := by rw [hw1]; simp
  have HB1 := Lib.hid hb1
  have HM1 := Lib.hid (show w1.ownsMap Tryz.prog 3 rawE mb nn D from hw1 ▸ hown.alloc _)
  have HS2 := Lib.hid (s2.below hb1); have HS3 := Lib.hid (s3.below hb1); have HS4 := Lib.hid (s4.below hb1)
  have H2 := Lib.hid h2; have H3 := Lib.hid h3; have H4 := Lib.hid h4
  have HU2 := Lib.hid u2; have HU3 := Lib.hid u3; have HU4 := Lib.hid u4
  obtain ⟨N, en, hN⟩ : ∃ N en, numsT b2 many = (N, en) := ⟨_, _, rfl⟩
  obtain ⟨W, ew, hW⟩ : ∃ W ew, cutT b4 b3 texts = (W, ew) := ⟨_, _, rfl⟩
  have HN := Lib.hid hN; have HW := Lib.hid hW
  have HNN : Hid (∀ y ∈ N, 0 ≤ y) := Lib.hid (by have := numsT_nn b2 many; rwa [hN] at this)
  have HNG : Hid (I64 N ∧ N.length ≤ 4096) := Lib.hid (by have := numsT_good b2 many u2; rwa [hN] at this)
  have HWL : Hid (W.length ≤ 4096) := Lib.hid (by have := cutT_len b4 b3 texts u3; rwa [hW] at this)
  have HV : Hid (idxC b2 b3 b4 many texts = if en ≠ 0 ∨ ew ≠ 0 ∨ risingB W = false then (([], 2) : List ByteArray × Int) else optT (indexT W N)) := Lib.hid (by unfold idxC; rw [hN, hW])
  have HM0 : Hid ((w.alloc (.cells #[.int .i64 many, .int .i64 enc, .int .i64 texts, Z] 27)).ownsMap Tryz.prog 3 rawE mb nn D) := Lib.hid (hown.alloc _)
  rw [hob] at hw1
  clear hown s2 s3 s4 h2 h3 h4 u2 u3 u4 hN hW hb1 hk1 hob
  go_enter Tryz.func30, Tryz.ntmps30
  go_wp2_with (at_lookup; refine wpList_look_row _ rfl _ _ rfl mb nn D rfl HM0.out 2 rfl wf2 _ H2.out ?_)
  rw [← hw1]
  clear hw1
  refine (numbers_any w1 A2 n2 c2 b2 HS2.out.1 HU2.out HS2.out.2.1 HS2.out.2.2 l2 many).mono ?_; rintro e w2 ⟨GN, nN, cN, rfl, hs, hb⟩
  rw [HN.out] at hs ⊢
  have hnl := hs.1.len
  have HSN := Lib.hid hs; have HB2 := Lib.hid (on HB1.out hb)
  have hk2 := (hb.block w.heap.size hl1).trans HK1.out
  have ka0 := cell_blkT hk2 2
  have HK2 := Lib.hid hk2
  have hl2 : w.heap.size < w2.heap.size := Nat.lt_of_lt_of_le hl1 hb.size
  have HM2 := Lib.hid (HM1.out.kept (row := none) ⟨hb.os, hb.tape, hb.output, hb.size, fun k hk _ => hb.block k hk⟩ (by simp))
  have HS3b := Lib.hid (HS3.out.below hb); have HS4b := Lib.hid (HS4.out.below hb)
  clear hs hb hk2 HM0
  go_wp2_with (first
    | (at_lookup; refine wpList_look_row _ rfl _ _ rfl mb nn D rfl HM2.out 4 rfl wf4 _ H4.out ?_)
    | (at_lookup; refine wpList_look_row _ rfl _ _ rfl mb nn D rfl HM2.out 3 rfl wf3 _ H3.out ?_))
  refine (cutS_any w2 A4 A3 n4 c4 n3 c3 b4 b3 HS4b.out.1 HU4.out HS4b.out.2.1 HS4b.out.2.2 l4 HS3b.out.1 HU3.out HS3b.out.2.1 HS3b.out.2.2 l3 texts).mono ?_; rintro e w3 ⟨GW, nW, cW, rfl, hs, hcw, hcm, hb⟩
  rw [HW.out] at hs ⊢
  have hwl := hs.len
  have HRW := Lib.hid hs; have HB3 := Lib.hid (on HB2.out hb)
  have HSN3 := Lib.hid (HSN.out.below hb)
  clear hs hb
  by_cases he : en = 0
  · subst he
    by_cases hf : ew = 0
    · subst hf
      have hnw := HWL.out
      go_wp2_with fail
      refine (Words_any w3 GW nW cW W HRW.out (by omega)).mono ?_; rintro e w4 ⟨GX, nX, cX, X, rfl, hrx, hWX, hxn, _, _, hb⟩
      have hxl := hrx.len
      have HRX := Lib.hid hrx; have HB4 := Lib.hid (on HB3.out hb)
      have HSN4 := Lib.hid (HSN3.out.below hb)
      have HRW4 := Lib.hid (HRW.out.below hb)
      have HUP := Lib.hid (words_up hWX)
      clear hrx hb hWX
      by_cases hxw : nX < nW
      · have t1 : decide (nX < nW) = true := decide_eq_true hxw
        have HE : Hid (idxC b2 b3 b4 many texts = ([], 2)) := Lib.hid (by
          have h := HUP.out
          rw [decide_eq_true (by omega)] at h
          rw [HV.out, if_pos (.inr (.inr (by simpa using h.symm)))])
        go_wp2_with fail
        go_ret2
        rw [HE.out]
        exact ⟨_, _, _, rfl, Rs.nil _ _, Nat.le_refl _, by omega, HB4.out⟩
      · have t1 : decide (nX < nW) = false := decide_eq_false hxw
        obtain ⟨up, hup⟩ : ∃ up, upB W = up := ⟨_, rfl⟩
        have HUq := Lib.hid hup
        clear hup
        go_wp2_with fail
        refine (isSorted_any w4 GW nW cW W HRW4.out (by omega)).mono ?_; rintro e w5 ⟨rfl, q5, hq5⟩
        rw [HUq.out]
        have HB5 : Hid (Below w.heap.size w w5) := Lib.hid (hq5 ▸ bdN HB4.out q5)
        have HSN5 : Hid (Sl w5 .i64 GN nN cN N) := Lib.hid (hq5 ▸ HSN4.out)
        have HRW5 : Hid (Rs w5 GW nW W) := Lib.hid (hq5 ▸ HRW4.out)
        clear hq5
        cases up
        · have HE : Hid (idxC b2 b3 b4 many texts = ([], 2)) := Lib.hid (by
            have h := HUP.out
            rw [HUq.out, Bool.not_false, Bool.or_true] at h
            rw [HV.out, if_pos (.inr (.inr (by simpa using h.symm)))])
          go_wp2_with fail
          go_ret2
          rw [HE.out]
          exact ⟨_, _, _, rfl, Rs.nil _ _, Nat.le_refl _, by omega, HB5.out⟩
        · have HE : Hid (idxC b2 b3 b4 many texts = optT (indexT W N)) := Lib.hid (by
            have h := HUP.out
            rw [HUq.out, decide_eq_false (by omega)] at h
            have h : risingB W = true := by simpa using h.symm
            rw [HV.out, if_neg (by simp [h])])
          have HO : Hid (w5.ownsRow w5.heap.size 9 1 (.slice none 0 0) 0 (([] : List ByteArray).map Value.string)) := Lib.hid ⟨by simp, .inl ⟨rfl, rfl⟩⟩
          have HALL := Lib.hid (fun h0 => HSN5.out.1.2 h0)
          have HALLW := Lib.hid (fun h0 => HRW5.out.all h0)
          have hlim := HNG.out.2
          go_wp2_with fail
          go_loopg [10, 52] nN (fun gg v10 v wr => ∃ (j : Nat) (O : List ByteArray), v = .int .i64 j ∧ j ≤ nN ∧ nN - j ≤ gg ∧ Hid (wr.ownsRow w5.heap.size 9 1 v10 j (O.map Value.string)) ∧ Hid (indexT W N = (indexT W (N.drop j)).map (O ++ ·)) ∧ Hid (Below w5.heap.size w5 wr))
          case atStart => exact ⟨0, [], rfl, by omega, by omega, HO, Lib.hid (by rw [List.drop_zero]; cases indexT W N <;> rfl), Lib.hid (Below.refl _ _)⟩
          case round =>
          obtain ⟨j, O, rfl, hjn, hgg, ho, hcx, hb⟩ := hrel
          obtain ⟨GO, cO, hGO⟩ := own_form ho.out
          subst hGO
          have hz := hb.out.size
          by_cases hlt : j < nN
          · have t3 : decide (j < nN) = true := decide_eq_true hlt
            obtain ⟨gb, go, hG, hgb, hcells⟩ := HALL.out (by omega)
            have hj : j < N.length := by omega
            have cj := (hb.out.cell (p := ⟨gb, go + j, none⟩) hgb).trans (hcells j _ (by rw [List.getElem?_map, List.getElem?_eq_getElem hj]; rfl))
            have HDR := Lib.hid (List.drop_eq_getElem_cons hj)
            have h0 := HNN.out _ (List.getElem_mem hj)
            have h64 := HNG.out.1 _ (List.getElem_mem hj)
            obtain ⟨k, hk⟩ : ∃ k : Nat, N[j] = (k : Int) := ⟨N[j].toNat, by omega⟩
            rw [hk] at cj HDR h64
            subst hG
            clear hcells hk h0
            by_cases hbad : nW ≤ k
            · have t4 : decide ((nW : Int) ≤ (k : Int)) = true := decide_eq_true (by omega)
              have HVV : Hid (idxC b2 b3 b4 many texts = ([], 2)) := Lib.hid (by rw [HE.out, hcx.out, HDR.out, indexT_bad (by omega)]; rfl)
              go_wp2_with fail
              go_ret2
              rw [HVV.out]
              exact ⟨_, _, _, rfl, Rs.nil _ _, Nat.le_refl _, by omega, on HB5.out hb.out⟩
            · have t4 : decide ((nW : Int) ≤ (k : Int)) = false := decide_eq_false (by omega)
              obtain ⟨wb, wo, hGW, hwb, hwc⟩ := HALLW.out (by omega)
              subst hGW
              have hkl : k < W.length := by omega
              have ck := (hb.out.cell (p := ⟨wb, wo + k, none⟩) hwb).trans (hwc k hkl)
              have HST := Lib.hid (indexT_step (r := N.drop (j + 1)) hkl)
              generalize W[k] = x at ck HST
              have HO2 := Lib.hid (own_below ho.out ((Below.refl wr.heap.size wr).alloc (Nat.le_refl _) (.cells #[.string x] 9)))
              have HOB := Lib.hid (Rs.one wr x 9)
              clear hwc
              go_wp2_with (at_builtin; refine wpList_str _ rfl (.tmp 60) (.tmp 65) rfl w5.heap.size _ j _ rfl HO2.out _ _ _ [x] rfl HOB.out (by omega) (by simp; omega) ?_; intro G2 c3 w6 ho6 hg6 _)
              have HB6 := Lib.hid (push_ hb.out (Nat.le_refl _) ho.out hg6)
              have HO6 := Lib.hid ho6
              have HX6 : Hid (indexT W N = (indexT W (N.drop (j + 1))).map ((O ++ [x]) ++ ·)) := Lib.hid (by
                rw [hcx.out, HDR.out, HST.out, Option.map_map]
                congr 1
                funext y
                simp)
              clear ho6 hg6
              go_wp2_with fail
              go_roundg (nN - (j + 1))
              case measure => omega
              case rel => exact ⟨j + 1, _, by go_num, by omega, by omega, HO6, HX6, HB6⟩
          · have t3 : decide (j < nN) = false := decide_eq_false hlt
            obtain rfl : j = nN := by omega
            have hnd : N.drop j = [] := List.drop_of_length_le (by omega)
            have hcap := own_cap ho.out
            have HVV : Hid (idxC b2 b3 b4 many texts = (O, 0)) := Lib.hid (by rw [HE.out, hcx.out, hnd]; simp [optT, indexT])
            go_wp2_with fail
            go_ret2
            rw [HVV.out]
            exact ⟨_, _, _, rfl, Rs.of_own ho.out, hcap.1, hcap.2, on HB5.out hb.out⟩
    · have HE : Hid (idxC b2 b3 b4 many texts = ([], 2)) := Lib.hid (by rw [HV.out, if_pos (.inr (.inl hf))])
      have t1 : (ew != 0) = true := by simp [hf]
      go_wp2_with fail
      go_ret2
      rw [HE.out]
      exact ⟨_, _, _, rfl, Rs.nil _ _, Nat.le_refl _, by omega, HB3.out⟩
  · have HE : Hid (idxC b2 b3 b4 many texts = ([], 2)) := Lib.hid (by rw [HV.out, if_pos (.inl he)])
    have t1 : (en != 0) = true := by simp [he]
    go_wp2_with fail
    go_ret2
    rw [HE.out]
    exact ⟨_, _, _, rfl, Rs.nil _ _, Nat.le_refl _, by omega, HB3.out⟩
end Go.Proofs.YtmejoococajikaaGreat

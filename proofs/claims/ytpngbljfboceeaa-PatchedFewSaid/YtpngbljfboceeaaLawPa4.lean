/- The walk through PatchedFew. -/
import Derived.Test.YtpngbljfboceeaaShown10
import Derived.Test.YtpngbljfboceeaaPlainPf
import Derived.Test.YtpngbljfboceeaaPTake
import Derived.Test.YtpngbljfboceeaaPPut
import Derived.Test.YtpngbljfboceeaaSame8
import Derived.Test.YtpngbljfboceeaaLowI
import Derived.Deep.DeepCutAuto
import Derived.Deep.CutBlock
import Derived.Deep.RegionLaw
namespace Go.Proofs.Ytpngbljfboceeaa
open Go.RowKit

theorem tmod24 (x : Int) : -23 ≤ x.tmod 24 ∧ x.tmod 24 ≤ 23 := by
  have h1 := Int.tmod_lt_of_pos x (show (0 : Int) < 24 by decide)
  have h2 := Int.lt_tmod_of_pos x (show (0 : Int) < 24 by decide)
  omega
theorem own_litF (w : World) (k : IntKind) (x : Int) (t : TypeId) : (w.alloc (.cells #[.int k x] t)).ownsRow w.heap.size t 1 (.slice (some ⟨w.heap.size, 0, none⟩) 1 1) 1 ([x].map (Value.int k)) :=
  ⟨by simp, .inr ⟨w.heap.size, 1, _, rfl, Nat.le_refl _, Blk.new w _ _, Nat.le_refl _, by unfold maxLen; omega, rfl, by simp⟩⟩
theorem step_i64 {w : World} {ops : Array Oper} {o : Oper} {a : Act} {K : Act → World → Prop} {Q : Exit → Act → World → Prop} {E : Prop} (hgd : o.guard = none) (s x : Operand)
    (ho : o.op = .call { callee := .builtin .append, args := #[s, x], argTypes := #[22, 22] })
    (base : Nat) (v : Value) (n : Nat) (l : List Int) (hs : a.eval s = v) (hown : w.ownsRow base 3 1 v n (l.map (Value.int .i64)))
    (A : Option Addr) (m c : Nat) (l2 : List Int) (hx : a.eval x = .slice A m c) (hr : Ri w .i64 A m l2) (hb : n + m ≤ 2000000000) (hbase : base ≤ w.heap.size)
    (h : ∀ G cap w', w'.ownsRow base 3 1 (.slice G (n + m) cap) (n + m) ((l ++ l2).map (Value.int .i64)) → w.grownBy w' v.ownBlock → ((Value.slice G (n + m) cap).ownBlock = v.ownBlock ∨ (Value.slice G (n + m) cap).ownBlock = some w.heap.size) → K (a.put o.dst (.slice G (n + m) cap)) w') :
    if Region.wanted o (yielded ops a.tmps) = true then Oper.wp Try.prog o a w K Q else E := by
  have hw : Region.wanted o (yielded ops a.tmps) = true := by simp [Region.wanted, hgd]
  rw [if_pos hw]
  obtain ⟨i0, hi, hz0, hz1, hz2⟩ := info_parts info_int
  refine wp_append_any w s x 22 ho base 3 i0 (.int .i64 0) 1 8 Try.underlying22 hi hz0 hz1 hz2 rfl (by decide) v n _ hs hown A m c _ hx hr (Ri.oneCell _ _) (by unfold maxLen; omega) (by omega) hbase ?_
  intro G cap w' h1 h2 h3 _
  rw [← List.map_append] at h1
  exact h G cap w' h1 h2 h3

set_option maxRecDepth 100000 in
set_option maxHeartbeats 4000000 in
theorem PatchedFew_walk (w : World) (A : Option Addr) (n cap : Nat) (l : List Int) (hr : Ri w .i64 A n l) (hu : I64 l) (_hc : n ≤ cap) (_hm : cap ≤ maxLen) (x : Int) (_hx : -9223372036854775808 ≤ x ∧ x < 9223372036854775808)
    (B : Option Addr) (n2 cap2 : Nat) (l2 : List Int) (hr2 : Ri w .i64 B n2 l2) (hu2 : I64 l2) (_hc2 : n2 ≤ cap2) (_hm2 : cap2 ≤ maxLen) :
    Calls Try.prog 6 #[.slice A n cap, .int .i64 x, .slice B n2 cap2] w fun e w' => e = .returned (.bool true) ∧ Below w.heap.size w w' := by
  have HR := Lib.hid hr; have HU := Lib.hid hu; have HR2 := Lib.hid hr2; have HU2 := Lib.hid hu2
  clear hr hu hr2 hu2
  go_enter Try.func6, Try.ntmps6
  go_wp2_with fail
  refine (shown10_any _).mono ?_; rintro e w1 ⟨rfl, hb1⟩
  have HB1 := Lib.hid hb1; clear hb1
  obtain ⟨t, ht⟩ : ∃ t, x.tmod 24 = t := ⟨_, rfl⟩
  have htb := tmod24 x
  rw [ht] at htb
  go_upto_if 24 with fail
  go_cut [8] (fun v8 wx => ∃ W : Nat, v8 = .int .i64 W ∧ 1 ≤ W ∧ W ≤ 24 ∧ wx = w1)
  case first =>
    by_cases ht0 : 1 + t < 1
    all_goals
      go_wp2_with fail
      go_meet
    · exact ⟨(1 - t).toNat, by go_num, by omega, by omega, rfl⟩
    · exact ⟨(1 + t).toNat, by go_num, by omega, by omega, rfl⟩
  case rest =>
  obtain ⟨W, rfl, hW1, hW, hw⟩ := hcut
  subst hw
  clear ht htb
  obtain ⟨w1, hw1⟩ : ∃ w1, w1 = wc := ⟨_, rfl⟩
  subst hw1
  have hp := pow24 hW
  have e1 : IntKind.i64.wrap (2 ^ W) = 2 ^ W := by rw [IntKind.wrap_i64]; omega
  have e2 : IntKind.i64.wrap (2 ^ W - 1) = 2 ^ W - 1 := by rw [IntKind.wrap_i64]; omega
  have e5 : IntKind.i64.wrap (5 * 2 ^ W) = 5 * 2 ^ W := by rw [IntKind.wrap_i64]; omega
  have E5 := Lib.hid e5
  clear e5
  go_upto_block 0 with fail
  go_cut [9] (fun v9 wx => ∃ (j : Nat) (L : List Int), j ≤ 250 ∧ Hid (FewP W 0 L) ∧ L.length = j + 1 ∧ Hid (wx.ownsRow w1.heap.size 3 1 v9 (j + 1) (L.map (Value.int .i64))) ∧ Hid (Below w1.heap.size w1 wx))
  case first =>
    go_wp2_with fail
    go_loopw [9, 10] (fun v i wr => ∃ (j : Nat) (L : List Int), j ≤ n ∧ j ≤ 250 ∧ i = .int .i64 j ∧ Hid (FewP W 0 L) ∧ L.length = j + 1 ∧ Hid (wr.ownsRow w1.heap.size 3 1 v (j + 1) (L.map (Value.int .i64))) ∧ Hid (Below w1.heap.size w1 wr)) (fun _ i _ => 251 - (intOf i).toNat)
    case atStart => exact ⟨0, [0], by omega, by omega, rfl, Lib.hid (few_one W), rfl, own_litF w1 .i64 0 _, (Below.refl _ _).alloc (Nat.le_refl _) _⟩
    case round =>
      obtain ⟨j, L, hj, hj5, rfl, hfw, hLl, ho, hb⟩ := hrel
      by_cases hlt : j < n ∧ j < 250
      · obtain ⟨hlt1, hlt2⟩ := hlt
        obtain ⟨G, c, rfl⟩ := own_form ho.out
        obtain ⟨bb, oo, hA, hbl, hcell⟩ := HR.out.at_ hlt1
        subst hA
        have hc3 := ((on HB1.out hb.out).cell (p := ⟨bb, oo + j, none⟩) hbl).trans hcell
        have e3 := and_maskF (l.getD j 0) W hW
        have hsn := few_snoc hfw.out (by omega) (l.getD j 0)
        have h6 := Int.emod_nonneg (l.getD j 0) (show (2 : Int) ^ W ≠ 0 by omega)
        have h7 := Int.emod_lt_of_pos (l.getD j 0) (show (0 : Int) < 2 ^ W by omega)
        have HSN := Lib.hid hsn
        have hz := hb.out.size
        clear hcell hsn
        generalize l.getD j 0 % 2 ^ W = D at *
        generalize l.getD j 0 = y at *
        go_wp2_with fail
        go_region_law (first
          | (refine step_i64 rfl (.tmp 39) (.tmp 48) rfl w1.heap.size _ (j + 1) L (by kernel_rfl) (by first | exact (own_below ho.out ((Below.refl _ _).alloc (Nat.le_refl _) _)).drew | exact (own_below ho.out ((Below.refl _ _).alloc (Nat.le_refl _) _))) _ 1 1 [_] (by kernel_rfl) (by first | exact Rd.one _ _ _ | exact (Rd.one _ _ _).drew) (by omega) (by simp; omega) ?_; intro G2 c2 w7 hown hgr hat; have HOWN := Lib.hid hown; have HNB := Lib.hid (below_of_grown (by first | exact ((hb.out.alloc (by omega) _).drew) | exact (hb.out.alloc (by omega) _)) hgr (by simp; omega) (fun k hk => (ho.out.lt k hk).1)); clear hown hgr hat))
        all_goals
          go_wp2_with fail
          go_roundw
          case rel => exact ⟨j + 1, _, by omega, by omega, by go_num, HSN, by simp [hLl], HOWN, HNB⟩
          case measure => simp [intOf] <;> omega
      · obtain ⟨G, c, rfl⟩ := own_form ho.out
        have hs : (¬ (j : Int) < (n : Int)) ∨ ((j : Int) < (n : Int) ∧ ¬ (j : Int) < 250) := by omega
        clear hlt
        rcases hs with hs | ⟨hs, hs'⟩
        all_goals
          go_wp2_with fail
          go_meet
          exact ⟨j, L, hj5, hfw, hLl, ho, hb⟩
  case rest =>
  obtain ⟨j, L, hj, hfw, hLl, ho, hb⟩ := hcut
  obtain ⟨w2, hw2⟩ : ∃ w2, w2 = wc := ⟨_, rfl⟩
  subst hw2
  obtain ⟨G, c, rfl⟩ := own_form ho.out
  have hcap := own_cap ho.out
  obtain ⟨g, rfl, hgB, hlw0⟩ := LowI.start ho.out (by omega)
  have HLW0 := Lib.hid hlw0
  have HB2 := Lib.hid (on HB1.out hb.out)
  have hz1 := HB1.out.size
  clear ho hb hlw0 e1 e2
  go_upto_block 2 with fail
  go_cut [9] (fun v9 wx => ∃ (L2 : List Int), v9 = .slice (some ⟨g, 0, none⟩) (j + 1) c ∧ Hid (FewP W 31 L2) ∧ L2.length = j + 1 ∧ Hid (LowI w2 wx g (j + 1) L2))
  case first =>
    go_wp2_with fail
    go_loopw [11] (fun i wr => ∃ (q : Nat) (L2 : List Int), q ≤ n2 ∧ q ≤ 31 ∧ i = .int .i64 q ∧ Hid (FewP W q L2) ∧ L2.length = j + 1 ∧ Hid (LowI w2 wr g (j + 1) L2)) (fun i _ => 32 - (intOf i).toNat)
    case atStart => exact ⟨0, L, by omega, by omega, rfl, hfw, hLl, HLW0⟩
    case round =>
      obtain ⟨q, L2, hq, hq5, rfl, hfw2, hLl2, hlw⟩ := hrel
      by_cases hlt : q < n2 ∧ q < 31
      · obtain ⟨hlt1, hlt2⟩ := hlt
        have hri := hlw.out.far (HR2.out.below HB2.out) (fun b o e => by obtain ⟨b', o', e', hb', _⟩ := HR2.out.at_ hlt1; rw [e'] at e; injection e with e; injection e with e1 e2; omega)
        obtain ⟨bb, oo, hA, hbl, hcell⟩ := hri.at_ hlt1
        subst hA
        have htm1 := Int.tmod_lt_of_pos (l2.getD q 0) (show (0 : Int) < (j : Int) + 1 by omega)
        have HFW2 := Lib.hid (fun k h1 h2 => few_set hfw2.out k h1 h2)
        clear hri
        generalize l2.getD q 0 = y at *
        obtain ⟨t, ht⟩ : ∃ t, y.tmod ((j : Int) + 1) = t := ⟨_, rfl⟩
        rw [ht] at htm1
        by_cases ht0 : 0 < t
        · obtain ⟨k, rfl⟩ := Int.eq_ofNat_of_zero_le (show 0 ≤ t by omega)
          have hcl := hlw.out.cell (j := k) (by omega)
          have hfz := hlw.out.frozen k
          have hns := HFW2.out k (by omega) (by omega)
          have hvr := hfw2.out.2.2.2.1 _ (getD_mem L2 k (by omega))
          obtain ⟨v, hv⟩ : ∃ v, L2.getD k 0 = v := ⟨_, rfl⟩
          rw [hv] at hcl hns hvr
          have HNS := Lib.hid hns
          have HV := Lib.hid hv
          have hv31 : (5 * (q : Int) + 1) * 2 ^ W ≤ 156 * 16777216 := Int.mul_le_mul (by omega) hp.2 (by omega) (by decide)
          have e5 := E5.out
          have e6 : IntKind.i64.wrap (v + 5 * 2 ^ W) = v + 5 * 2 ^ W := by rw [IntKind.wrap_i64]; omega
          clear hns hvr hv31 hv
          go_wp2_with fail
          go_region
          all_goals
            go_wp2_with fail
            go_roundw
            case rel => exact ⟨q + 1, _, by omega, by omega, by go_num, HNS, by rw [List.length_set]; exact hLl2, by first | exact (hlw.out.set_ (i := k) (by omega) _).drew | exact hlw.out.drew.set_ (i := k) (by omega) _ | exact hlw.out.set_ (i := k) (by omega) _⟩
            case measure => simp [intOf] <;> omega
        · go_wp2_with fail
          go_roundw
          case rel => exact ⟨q + 1, L2, by omega, by omega, by go_num, Lib.hid (few_more hfw2.out (by omega)), hLl2, hlw⟩
          case measure => simp [intOf] <;> omega
      · have hs : (¬ (q : Int) < (n2 : Int)) ∨ ((q : Int) < (n2 : Int) ∧ ¬ (q : Int) < 31) := by omega
        clear hlt
        rcases hs with hs | ⟨hs, hs'⟩
        all_goals
          go_wp2_with fail
          go_meet
          exact ⟨L2, rfl, Lib.hid (few_more hfw2.out hq5), hLl2, hlw⟩
  case rest =>
  obtain ⟨L2, rfl, hfw2, hLl2, hlw⟩ := hcut
  obtain ⟨w3, hw3⟩ : ∃ w3, w3 = wc := ⟨_, rfl⟩
  subst hw3
  have hri := hlw.out.ri
  have hb3 := below_of_grown HB2.out hlw.out.grown HB2.out.size (fun k e => by injection e with e; omega)
  obtain ⟨hI, hpre, hok⟩ := few_put W 31 L2 hfw2.out hW1 hW (by omega)
  obtain ⟨p, hp1, hp8, hpl, hpb⟩ := pa_back L2 hI (W : Int) false hpre (by rw [Int.toNat_natCast]; exact hok)
  have hpb2 := hpb []
  rw [List.append_nil] at hpb2
  have HI := Lib.hid hI; have HP := Lib.hid hp1; have HP8 := Lib.hid hp8; have HPB := Lib.hid hpb2; have HRI := Lib.hid hri; have HB3 := Lib.hid hb3
  clear hri hb3 hI hpre hok hp1 hp8 hpb hpb2 hfw2 hlw HLW0 hfw hp
  go_wp2_with fail
  refine (PPut_any _ _ _ _ L2 HRI.out HI.out (by omega) (by omega) (by omega) (W : Int) (by unfold I64x; omega) false p 0 HP.out).mono ?_; rintro e w4 ⟨G4, n4, c4, rfl, hs4, hb4⟩
  have hn4 := hs4.1.len
  obtain rfl : n4 = p.length := hn4.symm
  have HS4 := Lib.hid hs4; have HO4 := Lib.hid (HRI.out.below hb4); have HB4 := Lib.hid (on HB3.out hb4)
  clear hs4 hb4 hn4
  go_wp2_with fail
  refine (PTake_any _ _ _ _ p HS4.out.1 HP8.out HS4.out.2.1 HS4.out.2.2 (by omega) false L2 [] 0 HPB.out).mono ?_; rintro e w8 ⟨G8, n8, c8, G9, n9, c9, rfl, hs8, hs9, hb8⟩
  have b8 : n8 ≤ 1000000 := by have := hs8.1.len; omega
  have hn9 := hs9.1.len
  obtain rfl : n9 = 0 := hn9.symm
  go_wp2_with fail
  refine (Same8_any _ _ _ _ _ _ _ L2 L2 hs8.1 (HO4.out.below hb8) b8 (by omega) HI.out HI.out).mono ?_; rintro e w9 ⟨rfl, hb9⟩
  rw [decide_eq_true rfl]
  have HBB := Lib.hid (on (on HB4.out hb8) hb9)
  clear hs8 hs9 b8 hb8 hb9 hn9
  go_wp2_with fail
  go_ret
  exact ⟨rfl, HBB.out⟩
end Go.Proofs.Ytpngbljfboceeaa

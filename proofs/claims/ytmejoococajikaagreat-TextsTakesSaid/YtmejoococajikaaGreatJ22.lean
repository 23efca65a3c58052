/- Joined texts: RefPPut. Each has its own head line. No condition beyond those that its theorems state. -/
import Derived.Deep.RegionLaw
import Derived.Deep.DeepCutAuto
import Derived.Test.YtmejoococajikaaGreatJ19
import Derived.Test.YtmejoococajikaaGreatJ21
import Derived.Test.YtmejoococajikaaGreatJ06
set_option linter.unusedVariables false

/- pilasterref10.Put. -/
namespace Go.Proofs.YtmejoococajikaaGreat
open Go.RowKit

/-- append onto a row of u64 of the call's own, in a region that draws its order. -/
theorem step64 {w : World} {ops : Array Oper} {o : Oper} {a : Act} {K : Act → World → Prop} {Q : Exit → Act → World → Prop} {E : Prop} (hgd : o.guard = none) (s x : Operand)
    (ho : o.op = .call { callee := .builtin .append, args := #[s, x], argTypes := #[89, 89] })
    (base : Nat) (v : Value) (n : Nat) (l : List Int) (hs : a.eval s = v) (hown : w.ownsRow base 109 1 v n (l.map (Value.int .u64)))
    (A : Option Addr) (m c : Nat) (l2 : List Int) (hx : a.eval x = .slice A m c) (hr : Ri w .u64 A m l2) (hb : n + m ≤ 2000000000) (hbase : base ≤ w.heap.size)
    (h : ∀ G cap w', w'.ownsRow base 109 1 (.slice G (n + m) cap) (n + m) ((l ++ l2).map (Value.int .u64)) → w.grownBy w' v.ownBlock → ((Value.slice G (n + m) cap).ownBlock = v.ownBlock ∨ (Value.slice G (n + m) cap).ownBlock = some w.heap.size) → K (a.put o.dst (.slice G (n + m) cap)) w') :
    if Region.wanted o (yielded ops a.tmps) = true then Oper.wp Tryz.prog o a w K Q else E := by
  have hw : Region.wanted o (yielded ops a.tmps) = true := by simp [Region.wanted, hgd]
  rw [if_pos hw]
  obtain ⟨i0, hi, hz0, hz1, hz2⟩ := info_parts info_u64
  refine wp_append_any w s x 89 ho base 109 i0 (.int .u64 0) 1 8 Tryz.underlying89 hi hz0 hz1 hz2 rfl (by decide) v n _ hs hown A m c _ hx hr (Ri.oneCell _ _) (by unfold maxLen; omega) (by omega) hbase ?_
  intro G cap w' h1 h2 h3 _
  rw [← List.map_append] at h1
  exact h G cap w' h1 h2 h3
theorem all_nonneg (l : List Int) : (l.all fun x => decide (0 ≤ x)) = !(l.any fun y => decide (y < 0)) := by
  induction l with
  | nil => rfl
  | cons a t ih =>
    rw [List.all_cons, List.any_cons, ih]
    by_cases h : a < 0
    · rw [decide_eq_true h, decide_eq_false (by omega : ¬ 0 ≤ a)]; rfl
    · rw [decide_eq_false h, decide_eq_true (by omega : 0 ≤ a)]; simp
theorem fst_getD (P : List (Int × Int)) (j : Nat) (h : j < P.length) : (P.map Prod.fst).getD j 0 = (P.getD j (0, 0)).1 := by simp [List.getD, List.getElem?_map, List.getElem?_eq_getElem h]
theorem snd_getD (P : List (Int × Int)) (j : Nat) (h : j < P.length) : (P.map Prod.snd).getD j 0 = (P.getD j (0, 0)).2 := by simp [List.getD, List.getElem?_map, List.getElem?_eq_getElem h]
theorem sl_grown {w w0 w' : World} {A : Option Addr} {n c m B : Nat} {l : List Int} {e : TypeId} {v : Value} {xs : List Value} (h : Sl w .u8 A n c l) (hg : w.grownBy w' v.ownBlock) (ho : w0.ownsRow B e 1 v m xs) (hnew : ∀ g o, A = some ⟨g, o, none⟩ → w0.heap.size ≤ g) : Sl w' .u8 A n c l :=
  ⟨h.1.grown hg (fun g b o h1 h2 => by have := (ho.lt g h1).2; have := hnew b o h2; omega), h.2⟩
theorem plain_err (l : List Int) (s : Bool) : ∃ u e, plainL l s = (u, e) ∧ ((e = 0 ∧ (!s && l.any fun y => decide (y < 0)) = false) ∨ (e = 1 ∧ (!s && l.any fun y => decide (y < 0)) = true)) := by
  unfold plainL mapOk
  cases s
  · rw [if_neg (by simp)]
    have e := all_nonneg l
    rw [e]
    cases h : (l.any fun y => decide (y < 0))
    · exact ⟨_, _, if_pos rfl, .inl ⟨rfl, rfl⟩⟩
    · exact ⟨_, _, if_neg (by simp), .inr ⟨rfl, rfl⟩⟩
  · rw [if_pos rfl, if_pos (by simp)]
    exact ⟨_, _, rfl, .inl ⟨rfl, rfl⟩⟩
theorem putPa_bad' {l : List Int} {x : Int} {s : Bool} {r : List Int} {er : Int} (hl : putPa l x s = (r, er)) (h : prePa l x s = true ∨ okPa l x.toNat = false) : r = [] ∧ er = 1 := by
  unfold putPa at hl
  rw [if_pos (by rcases h with h | h <;> simp [h])] at hl
  injection hl with h1 h2
  exact ⟨h1.symm, h2.symm⟩
theorem gN_take (P : List (Int × Int)) (j : Nat) (h : j < P.length) : gN (P.take (j + 1)) = max (gN (P.take j)) (blen ((P.map Prod.fst).getD j 0).toNat) := by
  rw [List.take_succ_eq_append_getElem h, show (P.map Prod.fst).getD j 0 = P[j].1 from by simp [List.getD, List.getElem?_map, List.getElem?_eq_getElem h]]
  exact gN_snoc _ _ P[j].2

set_option maxRecDepth 100000 in
set_option maxHeartbeats 4000000 in
theorem refPPut_any (w : World) (A : Option Addr) (n cap : Nat) (l : List Int) (hr : Ri w .i64 A n l) (hu : I64 l) (hn : n ≤ 100000) (x : Int) (hx : I64x x) (s : Bool) (r : List Int) (er : Int) (hl : putPa l x s = (r, er)) :
    Calls Tryz.prog 62 #[.slice A n cap, .int .i64 x, .bool s] w (BytesErr w r er) := by
  have HR := Lib.hid hr; have HU := Lib.hid hu; have HN := Lib.hid hr.len; have HL := Lib.hid hl
  obtain ⟨u8, e8, hpl, hcase⟩ := plain_err l s
  have HP8 := Lib.hid hpl
  clear hr hu hl hpl
  unfold I64x at hx
  go_enter Tryz.func62, Tryz.ntmps62
  go_upto_region 2 with fail
  refine (refPlain8_any _ _ _ _ l HR.out HU.out (by omega) s u8 e8 HP8.out).mono ?_; rintro e w0 ⟨G8, n8, c8, rfl, hs8, hb8⟩
  have HB8 := Lib.hid hb8
  clear hs8 hb8
  go_upto_region 2 with fail
  go_cut [54] (fun v wx => v = .bool (prePa l x s) ∧ wx = w0)
  case first =>
    have hpre : prePa l x s = (decide (n < 1) || decide (512 < n) || (!s && l.any fun y => decide (y < 0)) || decide (wCode x < 0) || decide (64 ≤ x)) := by unfold prePa; rw [HN.out]
    rcases hcase with ⟨rfl, hany⟩ | ⟨rfl, hany⟩
    · rw [hany, Bool.or_false] at hpre
      clear hany
      by_cases h1 : n < 1
      · have HP : Hid (prePa l x s = true) := Lib.hid (by rw [hpre, decide_eq_true h1]; rfl)
        clear hpre
        go_wp2_with fail
        go_meet
        exact ⟨by rw [HP.out], rfl⟩
      · by_cases h2 : 512 < n
        · have HP : Hid (prePa l x s = true) := Lib.hid (by rw [hpre, decide_eq_true h2]; simp)
          clear hpre
          go_wp2_with fail
          go_meet
          exact ⟨by rw [HP.out], rfl⟩
        · rw [decide_eq_false h1, decide_eq_false h2, Bool.or_false, Bool.false_or] at hpre
          by_cases h5 : wCode x < 0
          · rw [decide_eq_true h5, Bool.true_or] at hpre
            have HP := Lib.hid hpre
            clear hpre
            go_wp2_with fail
            refine (refCode_any _ _).mono ?_; rintro e w2 ⟨rfl, rfl⟩
            go_wp2_with fail
            go_meet
            exact ⟨by rw [HP.out], rfl⟩
          · rw [decide_eq_false h5, Bool.false_or] at hpre
            by_cases h6 : 64 ≤ x
            · rw [decide_eq_true h6] at hpre
              have HP := Lib.hid hpre
              clear hpre
              go_wp2_with fail
              refine (refCode_any _ _).mono ?_; rintro e w2 ⟨rfl, rfl⟩
              go_wp2_with fail
              go_meet
              exact ⟨by rw [HP.out], rfl⟩
            · rw [decide_eq_false h6] at hpre
              have HP := Lib.hid hpre
              clear hpre
              go_wp2_with fail
              refine (refCode_any _ _).mono ?_; rintro e w2 ⟨rfl, rfl⟩
              go_wp2_with fail
              go_meet
              exact ⟨by rw [HP.out]; first | rfl | (simp; omega), rfl⟩
    · have HP : Hid (prePa l x s = true) := Lib.hid (by rw [hpre, hany]; simp)
      clear hpre hany
      go_wp2_with fail
      go_meet
      exact ⟨by rw [HP.out], rfl⟩
  case rest =>
    obtain ⟨rfl, rfl⟩ := hcut
    clear hcase
    cases hpre : prePa l x s
    · have hfa : ¬ l.length < 1 ∧ ¬ 512 < l.length ∧ ¬ wCode x < 0 ∧ ¬ 64 ≤ x := by
        unfold prePa at hpre
        simp only [Bool.or_eq_false_iff, decide_eq_false_iff_not] at hpre
        exact ⟨hpre.1.1.1.1, hpre.1.1.1.2, hpre.1.2, hpre.2⟩
      rw [HN.out] at hfa
      obtain ⟨hf1, hf2, hf3, hf4⟩ := hfa
      have HPRE := Lib.hid hpre
      have hx1 : 1 ≤ x := by unfold wCode at hf3; omega
      obtain ⟨X, rfl⟩ := Int.eq_ofNat_of_zero_le (show 0 ≤ x by omega)
      have hX1 : 1 ≤ X := by omega
      have hX2 : X < 64 := by omega
      clear hpre hf4 hx1 hx
      have HRc := Lib.hid (HR.out.below HB8.out)
      go_wp2_with fail
      refine (above10_any _ _ _ _ l HRc.out HU.out (by omega) (by omega)).mono ?_; rintro e w1 ⟨b, G1, n1, c1, rfl, hb1, hgood⟩
      have HB1 := Lib.hid (on HB8.out hb1)
      have HG := Lib.hid hgood
      clear hb1 hgood
      cases hok : (nearL l l.length && decide (minL l ≠ -9223372036854775808))
      · obtain ⟨rfl, rfl⟩ := putPa_bad' HL.out (.inr (by
          unfold okPa
          rw [Int.toNat_natCast]
          rcases Bool.and_eq_false_iff.1 hok with h | h
          · rw [h]; rfl
          · rw [h, Bool.and_false]))
        clear hok
        go_wp2_with fail
        go_ret2
        exact ⟨none, 0, 0, rfl, Sl.nil _ _, HB1.out⟩
      · obtain ⟨hnear, hmin⟩ := Bool.and_eq_true_iff.1 hok
        have hmin := of_decide_eq_true hmin
        obtain ⟨rfl, hup⟩ := HG.out hnear
        have hnup := hup.1.len
        rw [upL_len, HN.out] at hnup
        subst hnup
        have HUP := Lib.hid hup; have HNEAR := Lib.hid hnear; have HMIN := Lib.hid hmin
        have huu := upL_u64 HU.out
        have HUU := Lib.hid huu
        have hrng := prL_range HU.out X (by rw [HN.out]; omega)
        have HRNG := Lib.hid hrng
        have hPe : prL l X = (pairsN (upL l) X n).1 := by unfold prL; rw [HN.out]
        have hgn := hrng.gN_le
        have hplen := pairsN_len (upL l) X n (by omega)
        rw [← hPe] at hplen
        have HPE := Lib.hid hPe
        obtain ⟨M, hMe⟩ : ∃ M, M = minL l := ⟨_, rfl⟩
        have HM := Lib.hid hMe
        rw [← hMe]
        clear hok HG hup hnear hmin huu hrng hPe hMe
        obtain ⟨P, hPP⟩ : ∃ P, P = prL l X := ⟨_, rfl⟩
        rw [← hPP] at hgn hplen
        have HP := Lib.hid hPP
        clear hPP
        go_wp2_with fail
        refine (pairs10_any _ _ _ _ (upL l) HUP.out.1 HUU.out (by omega) X hX2).mono ?_; rintro e w2 ⟨G2, n2, c2, G3, n3, c3, rfl, hs2, hs3, hb2⟩
        rw [← HPE.out, ← HP.out] at hs2 hs3
        have hl2 := hs2.1.len; have hl3 := hs3.1.len
        rw [List.length_map] at hl2 hl3
        have HL2 := Lib.hid hl2; have HS2 := Lib.hid hs2; have HS3 := Lib.hid hs3
        have hn2 : n2 ≤ 1536 := by omega
        have hn3 : n3 ≤ 1536 := by omega
        obtain rfl : n3 = n2 := by omega
        have HB2 := Lib.hid (on HB1.out hb2)
        have HUP2 := Lib.hid (HUP.out.below hb2)
        clear hl2 hl3 hs2 hs3 hb2 hplen
        go_wp2_with fail
        go_loopw [15, 16] (fun v i wr => ∃ k : Nat, k ≤ n3 ∧ i = .int .i64 k ∧ v = .int .i64 (gN (P.take k)) ∧ Hid (wr = w2)) (fun _ i _ => n3 - (intOf i).toNat)
        case atStart => exact ⟨0, by omega, rfl, rfl, Lib.hid rfl⟩
        case round =>
          obtain ⟨k, hk, rfl, rfl, hw⟩ := hrel
          obtain rfl := hw.out
          by_cases hlt : k < n3
          · obtain ⟨b4, o4, rfl, hb4, hcell⟩ := HS2.out.1.at_ hlt
            have hgt := gN_take P k (by rw [HL2.out]; exact hlt)
            have hya : (P.map Prod.fst).getD k 0 ∈ P.map Prod.fst := getD_mem _ k (by rw [List.length_map, HL2.out]; exact hlt)
            obtain ⟨qq, hq1, hq2⟩ := List.mem_map.1 hya
            have hrg := HRNG.out qq (by rw [← HP.out]; exact hq1)
            rw [hq2] at hrg
            clear hya hq1 hq2
            obtain ⟨a, ha⟩ : ∃ a : Nat, (a : Int) = (P.map Prod.fst).getD k 0 := ⟨((P.map Prod.fst).getD k 0).toNat, by omega⟩
            rw [← ha] at hcell hgt hrg
            rw [Int.toNat_natCast] at hgt
            have hwr : IntKind.u64.wrap (a : Int) = a := by rw [IntKind.wrap_u64]; omega
            have HGT := Lib.hid hgt
            obtain ⟨g0, hg0⟩ : ∃ g0, gN (P.take k) = g0 := ⟨_, rfl⟩
            rw [hg0] at hgt ⊢
            have HG0 := Lib.hid hg0
            obtain ⟨ba, hba⟩ : ∃ ba, blen a = ba := ⟨_, rfl⟩
            have HBA := Lib.hid hba
            clear hgt ha hg0 hba
            go_wp2_with fail
            refine (refBits_any a _ (by omega)).mono ?_; rintro e w' ⟨rfl, rfl⟩
            rw [HBA.out]
            go_wp2_with fail
            all_goals
              go_roundw
              case rel =>
                refine ⟨k + 1, by omega, by go_num, ?_, Lib.hid trivial⟩
                rw [HGT.out, HG0.out, HBA.out]
                refine congrArg (Value.int .i64) ?_
                omega
              case measure => simp [intOf] <;> omega
          · obtain rfl : k = n3 := by omega
            rw [List.take_of_length_le (by rw [HL2.out]; exact Nat.le_refl _)]
            obtain ⟨w2, hw2⟩ : ∃ w2, w2 = wr := ⟨_, rfl⟩
            subst hw2
            clear hw
            go_upto_region 13 with fail
            go_cut [17] (fun v wx => v = .int .i64 (wClosest (pN P)) ∧ wx = w2)
            case first =>
              have hpn : (1 < (mostBits (P.map Prod.snd) : Int) ∧ (pN P : Int) = mostBits (P.map Prod.snd)) ∨ (¬ 1 < (mostBits (P.map Prod.snd) : Int) ∧ (pN P : Int) = 1) := by unfold pN; omega
              obtain ⟨mB, hmB⟩ : ∃ mB, mostBits (P.map Prod.snd) = mB := ⟨_, rfl⟩
              rw [hmB] at hpn
              have HMB := Lib.hid hmB
              have HP64 := Lib.hid (PairsR.patch64 (P := P) (by rw [HP.out]; exact HRNG.out))
              clear hmB
              rcases hpn with ⟨hp1, hp2⟩ | ⟨hp1, hp2⟩
              all_goals
                have HP2 := Lib.hid hp2
                clear hp2
                go_wp2_with fail
                refine (refMost_any (P.map Prod.snd) _ _ _ _ HS3.out.1 HP64.out (by omega)).mono ?_; rintro e w' ⟨rfl, rfl⟩
                rw [HMB.out]
                go_wp2_with fail
                all_goals
                  refine (refClosest_any _ _).mono ?_; rintro e w' ⟨rfl, rfl⟩
                  go_wp2_with fail
                  go_meet
                  refine ⟨congrArg (fun z => Value.int .i64 (wClosest z)) ?_, rfl⟩
                  first | (rw [HP2.out]; done) | (rw [HP2.out]; omega)
            case rest =>
              obtain ⟨rfl, rfl⟩ := hcut
              cases hfits : fitsPa l X
              · have hcond : ¬ k ≤ 31 ∨ (k ≤ 31 ∧ ¬ (gN P : Int) + wClosest (pN P) ≤ 64) ∨ (k ≤ 31 ∧ (gN P : Int) + wClosest (pN P) ≤ 64 ∧ ¬ (X : Int) + wClosest (pN P) ≤ 64) := by
                  unfold fitsPa at hfits
                  rw [← HP.out, HL2.out] at hfits
                  by_cases h1 : k ≤ 31 <;> by_cases h2 : (gN P : Int) + wClosest (pN P) ≤ 64 <;> by_cases h3 : (X : Int) + wClosest (pN P) ≤ 64 <;> simp [h1, h2, h3] at hfits ⊢
                obtain ⟨rfl, rfl⟩ := putPa_bad' HL.out (.inr (by unfold okPa; rw [Int.toNat_natCast, hfits, Bool.and_false]; rfl))
                have hwl := wClosest_le (pN P)
                clear hfits
                generalize wClosest (pN P) = K at *
                generalize gN P = gg at *
                rcases hcond with hc1 | ⟨hc1, hc2⟩ | ⟨hc1, hc2, hc3⟩
                all_goals
                  go_wp2_with fail
                  go_ret2
                  exact ⟨none, 0, 0, rfl, Sl.nil _ _, HB2.out⟩
              · obtain ⟨rfl, K, gg, C, Pl, Pb, hk0, hg, hwk, hwc, hg1, hk1, hkc, hgk, hxk, hC1, hC2, hp31, hpk, hulo, hpl, hpll, hubo, hpb, hpbl, hres⟩ := putPa_good HU.out (by rw [HN.out]; omega) (by rw [HN.out]; omega) hX2 HPRE.out HNEAR.out hfits HMIN.out HL.out
                rw [← HP.out] at hg hwk hp31 hpk hubo hpb hres
                rw [HL2.out] at hp31
                rw [hg, hwk]
                have hxi := minL_i64x HU.out (by rw [HN.out]; omega)
                have hbb := fun w => refBased_any w (minL l) hxi HMIN.out
                have hbl := baseR_len (minL l) HMIN.out
                have hbn := baseN_le (minL l) hxi
                rw [← HM.out] at hbb hbl hbn hxi hres
                have HBB := Lib.hid hbb; have HWC := Lib.hid hwc; have HPK := Lib.hid hpk; have HULO := Lib.hid hulo; have HPL := Lib.hid hpl; have HUBO := Lib.hid hubo; have HPB := Lib.hid hpb; have HRES := Lib.hid hres; have HBL := Lib.hid hbl
                clear hk0 hg hwk hwc hpk hulo hpl hubo hpb hres hbb hbl hfits hgn
                go_wp2_with fail
                refine (HBB.out _).mono ?_; rintro e w3 ⟨G4, n4, c4, rfl, hs4, hb3⟩
                have hn4 := hs4.1.len
                rw [HBL.out] at hn4
                have hn4b : 1 ≤ n4 ∧ n4 ≤ 9 := by rw [← hn4]; exact hbn
                have HN4 := Lib.hid hn4; have HS4 := Lib.hid hs4
                have HB3 := Lib.hid (on HB2.out hb3)
                have HUP3 := Lib.hid (HUP2.out.below hb3); have HS23 := Lib.hid (HS2.out.below hb3); have HS33 := Lib.hid (HS3.out.below hb3)
                clear hn4 hbn hs4 hb3
                go_wp2_with fail
                refine (refCode_any _ _).mono ?_; rintro e w' ⟨rfl, rfl⟩
                go_wp2_with fail
                refine (refHead_any _ _ _ _).mono ?_; rintro e w5 ⟨G5, n5, c5, rfl, hs5, hb5⟩
                have hn5 := (Ri.of_own hs5.out).len
                have hl5 : (headR 2 (wCode (X : Int)) (n : Int)).length ≤ 2 := by unfold headR; split <;> simp
                rw [hn5] at hl5
                have HN5 := Lib.hid hn5
                have hz5 := hb5.size
                have HB5 := Lib.hid hb5
                clear hn5 hb5
                go_wp2_with fail
                refine (refCode_any _ _).mono ?_; rintro e w' ⟨rfl, rfl⟩
                go_wp2_with (first
                  | (at_builtin; refine wpList_u8 _ rfl _ _ rfl w3.heap.size _ n5 _ rfl (hs5.out.alloc _) _ 2 2 [_, _] rfl (Sl_lit _ .u8 [_, _] _ _ rfl 2 rfl (by omega)).1 (by omega) (by simp <;> omega) ?_; intro G6 c6 w6 hown6 hgr6 hcc6; have hb6 := push_ HB5.out (Nat.le_refl _) hs5.out hgr6; have HB6 := Lib.hid hb6; have hz6 := hb6.size; have HO6 := Lib.hid hown6; clear hown6 hgr6 hb6)
                  | (at_builtin; refine wpList_u8 _ rfl _ _ rfl w3.heap.size _ (n5 + 2) _ rfl HO6.out _ n4 _ (baseR M) rfl (HS4.out.1.below HB6.out) (by omega) (by omega) ?_; intro G7 c7 w7 hown7 hgr7 hcc7; have hb7 := push0 HB6.out (Nat.le_refl _) HO6.out hgr7; have HB7 := Lib.hid hb7; have hz7 := hb7.size; have HO7 := Lib.hid hown7; clear hown7 hgr7 hb7))
                have HUP7 := Lib.hid (HUP3.out.below HB7.out); have HS27 := Lib.hid (HS23.out.below HB7.out); have HS37 := Lib.hid (HS33.out.below HB7.out)
                have hkc2 := (wCode_range (K : Int)).2
                have HW := Lib.hid (show wrap64 (32 * ((n4 : Int) - 1) + wCode (K : Int)) = 32 * ((n4 : Int) - 1) + wCode (K : Int) from IntWalk.wrap64_in _ (by omega))
                go_loopw [20, 21] (fun v i wr => ∃ j : Nat, j ≤ n ∧ i = .int .i64 j ∧ Hid (wr.ownsRow w7.heap.size 109 1 v j ((lowL ((upL l).take j) X).map (Value.int .u64))) ∧ Hid (Below w7.heap.size w7 wr)) (fun _ i _ => n - (intOf i).toNat)
                case atStart => exact ⟨0, by omega, rfl, own_empty w7 _ 1, (Below.refl _ _).alloc (Nat.le_refl _) _⟩
                case round =>
                  obtain ⟨j, hj, rfl, hown, hbw⟩ := hrel
                  by_cases hltj : j < n
                  · obtain ⟨b7, o7, rfl, hb7, hcell⟩ := HUP7.out.1.at_ hltj
                    have g1 := (hbw.out.cell (p := ⟨b7, o7 + j, none⟩) hb7).trans hcell
                    have hyr := HUU.out _ (getD_mem (upL l) j (by rw [upL_len, HN.out]; exact hltj))
                    have hls := lowL_snoc (upL l) X j (by rw [upL_len, HN.out]; exact hltj)
                    obtain ⟨y, hy⟩ : ∃ y, y = (upL l).getD j 0 := ⟨_, rfl⟩
                    rw [← hy] at g1 hyr hls
                    have HAND := Lib.hid (and_low64 y X hyr hX2)
                    have HLS := Lib.hid hls
                    have hzw := hbw.out.size
                    obtain ⟨hy1, hy2⟩ := hyr
                    clear hcell hls hy
                    go_wp2_with fail
                    go_region_law (first
                      | (refine step64 rfl (.tmp 136) (.tmp 145) rfl w7.heap.size _ j _ (by kernel_rfl) (by first | exact (hown.out.drew).alloc _ | exact (hown.out.alloc _).drew | exact (hown.out.alloc _)) (some ⟨wr.heap.size, 0, none⟩) 1 1 [_] (by kernel_rfl) (by first | exact ri_one_atp rfl | exact Ri.drew (ri_one_atp rfl)) (by omega) (by simp <;> omega) ?_; intro Gq gq wq hownq hgrowq hatq; have hbq := below_of_grown (by first | exact ((hbw.out.drew).alloc hzw _) | exact ((hbw.out.alloc hzw _).drew) | exact (hbw.out.alloc hzw _)) hgrowq (by simp <;> omega) (fun k hk => (hown.out.lt k hk).1); have HOQ := Lib.hid hownq; have HBQ := Lib.hid hbq; clear hownq hgrowq hatq hbq))
                    all_goals
                      have ho := HOQ.out
                      rw [HAND.out, ← HLS.out] at ho
                      have HOR := Lib.hid ho
                      clear ho HOQ
                      go_wp2_with fail
                      go_roundw
                      case rel => exact ⟨j + 1, by omega, by go_num, HOR, HBQ⟩
                      case measure => simp [intOf] <;> omega
                  · obtain rfl : n = j := by omega
                    have ho := hown.out
                    rw [List.take_of_length_le (by rw [upL_len, HN.out]; exact Nat.le_refl _)] at ho
                    obtain ⟨GL, cL, rfl⟩ := own_form ho
                    have HSL := Lib.hid (Sl.of_own ho)
                    have HO8 := Lib.hid (own_below HO7.out hbw.out)
                    have HB8' := Lib.hid (on HB7.out hbw.out)
                    have HS28 := Lib.hid (HS27.out.below hbw.out); have HS38 := Lib.hid (HS37.out.below hbw.out)
                    obtain ⟨w8, hw8⟩ : ∃ w8, w8 = wr := ⟨_, rfl⟩
                    subst hw8
                    clear ho hown hbw HO7 HB7
                    go_wp2_with fail
                    refine (refPack_any _ _ _ _ (lowL (upL l) X) X HSL.out.1 HULO.out (by omega) Pl 0 HPL.out).mono ?_; rintro e w9 ⟨G9, n9, c9, rfl, hs9, hb9⟩
                    have HO9 := Lib.hid (own_below HO8.out hb9)
                    have HB9 := Lib.hid (on HB8'.out hb9)
                    have HS29 := Lib.hid (HS28.out.below hb9); have HS39 := Lib.hid (HS38.out.below hb9)
                    have HS9 := Lib.hid hs9
                    have hn9 := hs9.1.len
                    have hn9b : n9 ≤ 5000 := by omega
                    clear hs9 hb9 hn9 HO8 HB8' HSL
                    go_wp2_with fail
                    go_loopw [24, 25] (fun v i wr => ∃ j : Nat, j ≤ k ∧ i = .int .i64 j ∧ Hid (wr.ownsRow w9.heap.size 109 1 v j ((boP (P.take j) K).map (Value.int .u64))) ∧ Hid (Below w9.heap.size w9 wr)) (fun _ i _ => k - (intOf i).toNat)
                    case atStart => exact ⟨0, by omega, rfl, own_empty w9 _ 1, (Below.refl _ _).alloc (Nat.le_refl _) _⟩
                    case round =>
                      obtain ⟨j, hj, rfl, hown, hbw⟩ := hrel
                      by_cases hltj : j < k
                      · have hjl : j < P.length := by rw [HL2.out]; exact hltj
                        obtain ⟨b7, o7, rfl, hb7, hcell⟩ := HS29.out.1.at_ hltj
                        obtain ⟨b8, o8, rfl, hb8, hcell8⟩ := HS39.out.1.at_ hltj
                        have g1 := (hbw.out.cell (p := ⟨b7, o7 + j, none⟩) hb7).trans hcell
                        have g2 := (hbw.out.cell (p := ⟨b8, o8 + j, none⟩) hb8).trans hcell8
                        rw [fst_getD P j hjl] at g1
                        rw [snd_getD P j hjl] at g2
                        have hq := HPK.out _ (show P.getD j (0, 0) ∈ P by simp [List.getD, List.getElem?_eq_getElem hjl])
                        have HBS := Lib.hid (boP_snoc P K j hjl)
                        have hor := both_or hq hgk
                        obtain ⟨a, ha⟩ : ∃ a, a = (P.getD j (0, 0)).1 := ⟨_, rfl⟩
                        obtain ⟨p, hp⟩ : ∃ p, p = (P.getD j (0, 0)).2 := ⟨_, rfl⟩
                        rw [← ha] at g1 hq hor
                        rw [← hp] at g2 hq hor
                        have hgp : (2 : Int) ^ gg ≤ 18446744073709551616 := pow_le64 (by omega)
                        have hwa : IntKind.u64.wrap a = a := by rw [IntKind.wrap_u64]; omega
                        have HWA := Lib.hid hwa; have HOR := Lib.hid hor; have HA := Lib.hid ha; have HPq := Lib.hid hp
                        obtain ⟨hq1, _, hq3, _⟩ := hq
                        have hzw := hbw.out.size
                        clear hcell hcell8 hor ha hp hwa hgp hjl
                        go_wp2_with fail
                        go_region_law (first
                          | (refine step64 rfl (.tmp 160) (.tmp 173) rfl w9.heap.size _ j _ (by kernel_rfl) (by first | exact (hown.out.drew).alloc _ | exact (hown.out.alloc _).drew | exact (hown.out.alloc _)) (some ⟨wr.heap.size, 0, none⟩) 1 1 [_] (by kernel_rfl) (by first | exact ri_one_atp rfl | exact Ri.drew (ri_one_atp rfl)) (by omega) (by simp <;> omega) ?_; intro Gq gq wq hownq hgrowq hatq; have hbq := below_of_grown (by first | exact ((hbw.out.drew).alloc hzw _) | exact ((hbw.out.alloc hzw _).drew) | exact (hbw.out.alloc hzw _)) hgrowq (by simp <;> omega) (fun k hk => (hown.out.lt k hk).1); have HOQ := Lib.hid hownq; have HBQ := Lib.hid hbq; clear hownq hgrowq hatq hbq))
                        all_goals
                          have ho := HOQ.out
                          rw [HWA.out, HOR.out.1, HOR.out.2.2, HA.out, HPq.out, ← HBS.out] at ho
                          have HORR := Lib.hid ho
                          clear ho HOQ
                          go_wp2_with fail
                          go_roundw
                          case rel => exact ⟨j + 1, by omega, by go_num, HORR, HBQ⟩
                          case measure => simp [intOf] <;> omega
                      · obtain rfl : k = j := by omega
                        have ho := hown.out
                        rw [List.take_of_length_le (by rw [HL2.out]; exact Nat.le_refl _)] at ho
                        obtain ⟨GL2, cL2, rfl⟩ := own_form ho
                        have HSL := Lib.hid (Sl.of_own ho)
                        have HOA := Lib.hid (own_below HO9.out hbw.out)
                        have HBA := Lib.hid (on HB9.out hbw.out)
                        have HS9A := Lib.hid (HS9.out.below hbw.out)
                        obtain ⟨wA, hwA⟩ : ∃ wA, wA = wr := ⟨_, rfl⟩
                        subst hwA
                        clear ho hown hbw HO9 HB9
                        go_wp2_with fail
                        refine (refClosest_any _ _).mono ?_; rintro e w' ⟨rfl, rfl⟩
                        rw [HWC.out]
                        go_wp2_with fail
                        refine (refPackF_any _ _ _ _ (boP P K) C HSL.out.1 HUBO.out (by omega) Pb 0 HPB.out).mono ?_; rintro e wB ⟨GB, nB, cB, rfl, hsB, hbB, hnew⟩
                        have HOB := Lib.hid (own_below HOA.out hbB)
                        have HBB' := Lib.hid (on HBA.out hbB)
                        have HS9B := Lib.hid (HS9A.out.below hbB)
                        have HSB := Lib.hid hsB
                        have hnB := hsB.1.len
                        have hnBb : nB ≤ 5000 := by omega
                        have hzB := HBB'.out.size
                        have HNEW := Lib.hid hnew
                        clear hsB hbB hnB HBA hnew
                        go_wp2_with (first
                          | (at_builtin; refine wpList_u8 _ rfl _ _ rfl w3.heap.size _ (n5 + 2 + n4) _ rfl HOB.out _ n9 _ Pl rfl HS9B.out.1 (by omega) (by omega) ?_; intro GC cC wC hownC hgrC hccC; have hbC := push0 HBB'.out (Nat.le_refl _) HOB.out hgrC; have HBC := Lib.hid hbC; have hzC := hbC.size; have HOC := Lib.hid hownC; have HSBC := Lib.hid (sl_grown HSB.out hgrC HOA.out HNEW.out); clear hownC hgrC hbC)
                          | (at_builtin; refine wpList_u8 _ rfl _ _ rfl w3.heap.size _ (n5 + 2 + n4 + n9) _ rfl HOC.out _ nB _ Pb rfl HSBC.out.1 (by omega) (by omega) ?_; intro GD cD wD hownD hgrD hccD; have hbD := push0 HBC.out (Nat.le_refl _) HOC.out hgrD; have HBD := Lib.hid hbD; have HOD := Lib.hid (Sl.of_own hownD); clear hownD hgrD hbD))
                        go_ret2
                        have e := HRES.out
                        rw [HN.out, HN4.out, HL2.out] at e
                        rw [← e]
                        have ho := HOD.out
                        rw [HW.out] at ho
                        exact ⟨_, _, _, rfl, ho, on HB3.out HBD.out⟩
    · obtain ⟨rfl, rfl⟩ := putPa_bad' HL.out (.inl hpre)
      clear hpre
      go_wp2_with fail
      go_ret2
      exact ⟨none, 0, 0, rfl, Sl.nil _ _, HB8.out⟩
end Go.Proofs.YtmejoococajikaaGreat

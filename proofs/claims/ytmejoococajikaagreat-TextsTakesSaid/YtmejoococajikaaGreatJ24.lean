/- Joined texts: PPut. Each has its own head line. No condition beyond those that its theorems state. -/
import Derived.Deep.DeepCutAuto
import Derived.Deep.RegionHeld3
import Derived.Test.YtmejoococajikaaGreatJ23
import Derived.Test.YtmejoococajikaaGreatJ19
import Derived.Test.YtmejoococajikaaGreatJ07
set_option linter.unusedVariables false

/- patched.Put. -/
namespace Go.Proofs.YtmejoococajikaaGreat
open Go.RowKit

theorem based_some (w : World) (b : Int) (hb : I64x b) : Calls Tryz.prog 128 #[.int .i64 b] w fun e w' => ∃ G n c, e = .returned (.slice G n c) ∧ Below w.heap.size w w' := by
  by_cases h : b = -9223372036854775808
  · subst h
    exact (based_bad w).mono fun e w' h => ⟨none, 0, 0, h.1, h.2⟩
  · exact (based_any w b hb h).mono fun e w' ⟨G, n, c, h1, _, h3⟩ => ⟨G, n, c, h1, h3⟩
theorem Rp.below {w w' : World} {A : Option Addr} {n : Nat} {l : List (Int × Int)} (h : Rp w A n l) (hb : Below w.heap.size w w') : Rp w' A n l := Rd.below h hb
theorem Rp.alloc {w : World} {A : Option Addr} {n : Nat} {l : List (Int × Int)} (h : Rp w A n l) (o : Obj) : Rp (w.alloc o) A n l := Rd.alloc h o
theorem head_len2 (k c m : Int) : (headR k c m).length ≤ 2 := by unfold headR; split <;> simp
theorem putPa_bad {l : List Int} {x : Int} {s : Bool} {r : List Int} {er : Int} (hl : putPa l x s = (r, er)) (h : prePa l x s = true ∨ okPa l x.toNat = false) : r = [] ∧ er = 1 := by
  unfold putPa at hl
  rw [if_pos (by rcases h with h | h <;> simp [h])] at hl
  injection hl with h1 h2
  exact ⟨h1.symm, h2.symm⟩

set_option maxRecDepth 100000 in
set_option maxHeartbeats 4000000 in
theorem PPut_any (w : World) (A : Option Addr) (n cap : Nat) (l : List Int) (hr : Ri w .i64 A n l) (hu : I64 l) (_hc : n ≤ cap) (_hm : cap ≤ 9223372036854775807) (hn : n ≤ 100000) (x : Int) (hx : I64x x) (s : Bool) (r : List Int) (er : Int) (hl : putPa l x s = (r, er)) :
    Calls Tryz.prog 83 #[.slice A n cap, .int .i64 x, .bool s] w (BytesErr w r er) := by
  have HR := Lib.hid hr; have HU := Lib.hid hu; have HN := Lib.hid hr.len; have HL := Lib.hid hl
  clear hr hu hl
  unfold I64x at hx
  go_enter Tryz.func83, Tryz.ntmps83
  go_upto_region 1 with fail
  go_cut [44] (fun v wx => v = .bool (prePa l x s) ∧ Below w.heap.size w wx)
  case first =>
    have hpre : prePa l x s = (decide (n < 1) || decide (512 < n) || (!s && l.any fun y => decide (y < 0)) || decide (wCode x < 0) || decide (64 ≤ x)) := by unfold prePa; rw [HN.out]
    by_cases h1 : n < 1
    · have HP : Hid (prePa l x s = true) := Lib.hid (by rw [hpre, decide_eq_true h1]; rfl)
      clear hpre
      go_wp2_with fail
      go_meet
      exact ⟨by rw [HP.out], Below.refl _ _⟩
    · by_cases h2 : 512 < n
      · have HP : Hid (prePa l x s = true) := Lib.hid (by rw [hpre, decide_eq_true h2]; simp)
        clear hpre
        go_wp2_with fail
        go_meet
        exact ⟨by rw [HP.out], Below.refl _ _⟩
      · have hmin := minL_neg l (by rw [HN.out]; omega)
        have hmr : I64x (minL l) := minL_i64x HU.out (by rw [HN.out]; omega)
        obtain ⟨M, hM⟩ : ∃ M, M = minL l := ⟨_, rfl⟩
        rw [← hM] at hmin hmr
        have HM := Lib.hid hM
        clear hM
        have hneg : s = false ∧ M < 0 ∨ (s = false ∧ ¬ M < 0) ∨ s = true := by cases s <;> simp <;> omega
        have hpre3 : ¬ (s = false ∧ M < 0) → prePa l x s = (decide (wCode x < 0) || decide (64 ≤ x)) := by
          intro h
          rw [hpre, decide_eq_false h1, decide_eq_false h2]
          cases s
          · have h3 : (l.any fun y => decide (y < 0)) = false := by
              cases h4 : (l.any fun y => decide (y < 0))
              · rfl
              · exact absurd ⟨rfl, hmin.2 h4⟩ h
            rw [h3]; rfl
          · rfl
        rcases hneg with ⟨rfl, hneg⟩ | ⟨rfl, hneg⟩ | rfl
        · have HP : Hid (prePa l x false = true) := Lib.hid (by rw [hpre, hmin.1 hneg]; simp)
          clear hpre hmin hpre3
          go_wp2_with fail
          refine (Min_any _ _ _ _ l HR.out (by omega) (by omega)).mono ?_; rintro e w' ⟨rfl, rfl⟩
          rw [← HM.out]
          go_wp2_with fail
          go_meet
          exact ⟨by rw [HP.out], Below.refl _ _⟩
        all_goals
          have hpre2 := hpre3 (by first | exact fun h => hneg h.2 | exact fun h => by cases h.1)
          clear hpre hmin hpre3
          by_cases h5 : wCode x < 0
          · rw [decide_eq_true h5, Bool.true_or] at hpre2
            have HP := Lib.hid hpre2
            clear hpre2
            go_wp2_with fail
            (try (refine (Min_any _ _ _ _ l HR.out (by omega) (by omega)).mono ?_; rintro e w' ⟨rfl, rfl⟩; rw [← HM.out]; go_wp2_with fail))
            refine (Code_any _ _).mono ?_; rintro e w2 ⟨rfl, hb2⟩
            go_wp2_with fail
            go_meet
            exact ⟨by rw [HP.out], hb2⟩
          · rw [decide_eq_false h5, Bool.false_or] at hpre2
            by_cases h6 : 64 ≤ x
            · rw [decide_eq_true h6] at hpre2
              have HP := Lib.hid hpre2
              clear hpre2
              go_wp2_with fail
              (try (refine (Min_any _ _ _ _ l HR.out (by omega) (by omega)).mono ?_; rintro e w' ⟨rfl, rfl⟩; rw [← HM.out]; go_wp2_with fail))
              refine (Code_any _ _).mono ?_; rintro e w2 ⟨rfl, hb2⟩
              go_wp2_with fail
              go_meet
              exact ⟨by rw [HP.out], hb2⟩
            · rw [decide_eq_false h6] at hpre2
              have HP := Lib.hid hpre2
              clear hpre2
              go_wp2_with fail
              (try (refine (Min_any _ _ _ _ l HR.out (by omega) (by omega)).mono ?_; rintro e w' ⟨rfl, rfl⟩; rw [← HM.out]; go_wp2_with fail))
              refine (Code_any _ _).mono ?_; rintro e w2 ⟨rfl, hb2⟩
              go_wp2_with fail
              go_meet
              exact ⟨by rw [HP.out]; first | rfl | (simp; omega), hb2⟩
  case rest =>
    obtain ⟨rfl, hb0⟩ := hcut
    cases hpre : prePa l x s
    · have hfa : ¬ l.length < 1 ∧ ¬ 512 < l.length ∧ ¬ wCode x < 0 ∧ ¬ 64 ≤ x := by
        unfold prePa at hpre
        simp only [Bool.or_eq_false_iff, decide_eq_false_iff_not] at hpre
        exact ⟨hpre.1.1.1.1, hpre.1.1.1.2, hpre.1.2, hpre.2⟩
      rw [HN.out] at hfa
      obtain ⟨hf1, hf2, hf3, hf4⟩ := hfa
      have HPRE := Lib.hid hpre
      have hx1 : 1 ≤ x := by unfold wCode at hf3; omega
      obtain ⟨X, rfl⟩ := Int.eq_ofNat_of_zero_le (show 0 ≤ x by omega)
      have hX1 : 1 ≤ X := by omega
      have hX2 : X < 64 := by omega
      clear hpre hf4 hx1 hx
      have HB0 := Lib.hid hb0; clear hb0
      have HRc := Lib.hid (HR.out.below HB0.out)
      go_wp2_with fail
      refine (cut_any _ _ _ _ l HRc.out HU.out (by omega) (by omega) X hX2).mono ?_; rintro e w1 ⟨b, A1, n1, c1, A2, n2, c2, g, p, rfl, hbx, hb1, hn2, hgood⟩
      have HB1 := Lib.hid (on HB0.out hb1)
      have HG := Lib.hid hgood
      clear hb1 hgood
      cases hok : (nearL l l.length && fitsPa l X)
      · obtain ⟨rfl, rfl⟩ := putPa_bad HL.out (.inr (by unfold okPa; rw [Int.toNat_natCast, hok]; rfl))
        clear hok
        go_wp2_with fail
        refine (based_some _ b hbx).mono ?_; rintro e w2 ⟨G3, n3, c3, rfl, hb2⟩
        go_wp2_with fail
        go_ret2
        exact ⟨none, 0, 0, rfl, Sl.nil _ _, on (HB1.out.alloc HB1.out.size _) hb2⟩
      · obtain ⟨hnear, hfits⟩ := Bool.and_eq_true_iff.1 hok
        obtain ⟨rfl, rfl, rfl, hlow, hpairs⟩ := HG.out hnear
        clear hok HG
        by_cases hmin : minL l = -9223372036854775808
        · obtain ⟨rfl, rfl⟩ := putPa_bad HL.out (.inr (by unfold okPa; rw [Int.toNat_natCast, hmin]; simp))
          have hbb : ∀ w, Calls Tryz.prog 128 #[.int .i64 (minL l)] w fun e w' => e = .returned (.slice none 0 0) ∧ Below w.heap.size w w' := fun w => by rw [hmin]; exact based_bad w
          clear hmin
          have q := fun (w : World) (a : Option Addr) (n c : Nat) => Lib.run_eql_slice_nil (P := Tryz.prog) w 38 5 a n c 0 0 Tryz.underlying38
          go_wp2_with fail
          refine (hbb _).mono ?_; rintro e w2 ⟨rfl, hb2⟩
          go_wp2_with fail
          go_ret2
          exact ⟨none, 0, 0, rfl, Sl.nil _ _, on (HB1.out.alloc HB1.out.size _) hb2⟩
        · obtain ⟨rfl, K, gg, C, Pl, Pb, hk, hg, hwk, hwc, hg1, hk1, hkc, hgk, hxk, hC1, hC2, hp31, hpk, hulo, hpl, hpll, hubo, hpb, hpbl, hres⟩ := putPa_good HU.out (by rw [HN.out]; omega) (by rw [HN.out]; omega) hX2 HPRE.out hnear hfits hmin HL.out
          rw [hg, hwk]
          have hbb := fun w => based_any w (minL l) hbx hmin
          have hbl := baseR_len (minL l) hmin
          have hbn := baseN_le (minL l) hbx
          have hplen := hpairs.len
          have HBB := Lib.hid hbb; have HWC := Lib.hid hwc; have HPK := Lib.hid hpk; have HULO := Lib.hid hulo; have HPL := Lib.hid hpl; have HUBO := Lib.hid hubo; have HPB := Lib.hid hpb; have HRES := Lib.hid hres; have HBL := Lib.hid hbl
          have HLOW := Lib.hid hlow; have HPAIRS := Lib.hid hpairs
          rw [hplen] at hp31
          have HPN := Lib.hid hplen
          clear hk hg hwk hwc hpk hulo hpl hubo hpb hres hbb hbl hnear hfits hmin hlow hpairs hplen
          have hnlo := HLOW.out.1.len
          rw [show (lowL (upL l) X).length = n from by simp [lowL, upL_len, HN.out]] at hnlo
          subst hnlo
          obtain ⟨M, hMe⟩ : ∃ M, M = minL l := ⟨_, rfl⟩
          rw [← hMe]
          rw [← hMe] at hbn hbx
          have HM := Lib.hid hMe
          clear hMe
          obtain ⟨P, hPe⟩ : ∃ P, P = prL l X := ⟨_, rfl⟩
          have HPP := Lib.hid hPe
          clear hPe
          have HK1 := Lib.hid (Blk.new w1 151 #[.int .i64 M, .slice A1 n c1, .slice A2 n2 c2, .int .i64 gg, .int .i64 K])
          have hBB : ∀ w, Calls Tryz.prog 128 #[.int .i64 M] w (BytesOut w (baseR M)) := by rw [HM.out]; exact HBB.out
          have HBM := Lib.hid hBB
          have q := fun (w : World) (a : Option Addr) (n c : Nat) => Lib.run_eql_slice_nil (P := Tryz.prog) w 38 5 a n c 0 0 Tryz.underlying38
          clear hBB
          go_wp2_with fail
          refine (HBM.out _).mono ?_; rintro e w2 ⟨A3, n3, c3, rfl, hs3, hb2⟩
          have hn3 := hs3.1.len
          rw [HM.out, HBL.out, ← HM.out] at hn3
          obtain ⟨b3, o3, rfl, _, _⟩ := hs3.1.all (by omega)
          have HK2 := Lib.hid (HK1.out.below_ hb2)
          have HS3 := Lib.hid hs3
          have HB2 := Lib.hid (on (HB1.out.alloc HB1.out.size (.cells #[.int .i64 M, .slice A1 n c1, .slice A2 n2 c2, .int .i64 gg, .int .i64 K] 151)) hb2)
          have HLOW2 := Lib.hid ((HLOW.out.1.alloc (.cells #[.int .i64 M, .slice A1 n c1, .slice A2 n2 c2, .int .i64 gg, .int .i64 K] 151)).below hb2)
          have HPAIRS2 := Lib.hid (Rp.below (Rp.alloc HPAIRS.out (.cells #[.int .i64 M, .slice A1 n c1, .slice A2 n2 c2, .int .i64 gg, .int .i64 K] 151)) hb2)
          have hz2 := hb2.size
          rw [World.size_alloc] at hz2
          clear hs3 hb2
          have d2 : w2.cell? ⟨w1.heap.size, 2, none⟩ = some (.slice A2 n2 c2) := (HK2.out.cell 2).trans rfl
          go_wp2_with fail
          clear q
          have HN3 := Lib.hid hn3
          have hn3b : 1 ≤ n3 ∧ n3 ≤ 9 := by rw [← hn3]; exact hbn
          clear hn3 hbn
          go_loopw [11, 63] (fun v i wr => ∃ j : Nat, j ≤ n2 ∧ i = .int .i64 j ∧ Hid (wr.ownsRow w2.heap.size 109 1 v j ((boP ((prL l X).take j) K).map (Value.int .u64))) ∧ Hid (Below w2.heap.size w2 wr)) (fun _ i _ => n2 - (intOf i).toNat)
          case atStart => exact ⟨0, by omega, rfl, World.ownsRow_nil _ _ _ _, Below.refl _ _⟩
          case round =>
            obtain ⟨j, hj, rfl, hown, hbw⟩ := hrel
            by_cases hlt : j < n2
            · have hjl : j < (prL l X).length := by rw [HPN.out]; exact hlt
              obtain ⟨b4, o4, rfl, hb4, hc4, hc5⟩ := HPAIRS2.out.at_ hlt
              have g1 := (hbw.out.cell (p := ⟨b4, o4 + j * 2, none⟩) hb4).trans hc4
              have g2 := (hbw.out.cell (p := ⟨b4, o4 + j * 2 + 1, none⟩) hb4).trans hc5
              have hq := HPK.out _ (show (prL l X).getD j (0, 0) ∈ prL l X by simp [List.getD, List.getElem?_eq_getElem hjl])
              have hbs := boP_snoc (prL l X) K j hjl
              have HBS := Lib.hid hbs
              have hor := both_or hq hgk
              obtain ⟨a, ha⟩ : ∃ a, a = ((prL l X).getD j (0, 0)).1 := ⟨_, rfl⟩
              obtain ⟨p, hp⟩ : ∃ p, p = ((prL l X).getD j (0, 0)).2 := ⟨_, rfl⟩
              rw [← ha] at g1 hq hor
              rw [← hp] at g2 hq hor
              have hgp : (2 : Int) ^ gg ≤ 18446744073709551616 := pow_le64 (by omega)
              have hwa : IntKind.u64.wrap a = a := by rw [IntKind.wrap_u64]; omega
              have HWA := Lib.hid hwa; have HOR := Lib.hid hor; have HA := Lib.hid ha; have HPq := Lib.hid hp
              obtain ⟨hq1, _, hq3, _⟩ := hq
              have hkr := HK2.out.below_ hbw.out
              have d4 : wr.cell? ⟨w1.heap.size, 4, none⟩ = some (.int .i64 K) := (hkr.cell 4).trans rfl
              have hlt1 := hkr.lt
              have hz3 := hbw.out.size
              clear hkr hc4 hc5 hbs hor ha hp hwa hgp hjl d2
              go_wp2_with fail
              go_region_law (first
                | (refine step_u64 rfl (.tmp 67) (.tmp 77) rfl w2.heap.size _ j _ (by kernel_rfl) (by first | exact ((hown.out.alloc _).drew).alloc _ | exact ((hown.out.alloc _).alloc _).drew | exact (hown.out.alloc _).alloc _) (some ⟨wr.heap.size + 1, 0, none⟩) 1 1 [_] (by kernel_rfl) (by first | exact ri_one_atp (by simp) | exact Ri.drew (ri_one_atp (by simp))) (by omega) (by simp; omega) ?_; intro G1 g1' w3 hown3 hgrow hat; have hb3 := below_of_grown (by first | exact (((hbw.out.alloc hz3 _).drew).alloc (by simp; omega) _) | exact (((hbw.out.alloc hz3 _).alloc (by simp; omega) _).drew) | exact ((hbw.out.alloc hz3 _).alloc (by simp; omega) _)) hgrow (by simp; omega) (fun k hk => (hown.out.lt k hk).1); have HO3 := Lib.hid hown3; have HB3 := Lib.hid hb3; clear hown3 hgrow hat hb3))
              all_goals
                have ho3 := HO3.out
                rw [HWA.out, HOR.out.1, HOR.out.2.1, HA.out, HPq.out, ← HBS.out] at ho3
                have HO4 := Lib.hid ho3
                clear ho3 HO3
                go_wp2_with fail
                go_roundw
                case rel => exact ⟨j + 1, by omega, by go_num, HO4, HB3⟩
                case measure => simp [intOf] <;> omega
            · obtain rfl : j = n2 := by omega
              have ho := hown.out
              rw [List.take_of_length_le (by rw [HPN.out]; exact Nat.le_refl _)] at ho
              obtain ⟨G4, q4, rfl⟩ := own_form ho
              have HO := Lib.hid (Sl.of_own ho)
              have hk3 := HK2.out.below_ hbw.out
              have HK3 := Lib.hid hk3
              have HB3 := Lib.hid (on HB2.out hbw.out)
              have HS33 := Lib.hid (HS3.out.below hbw.out)
              have HLOW3 := Lib.hid (HLOW2.out.below hbw.out)
              have d1 : wr.cell? ⟨w1.heap.size, 1, none⟩ = some (.slice A1 n c1) := (hk3.cell 1).trans rfl
              clear ho hown hk3 d2 hbw
              go_wp2_with fail
              refine (Pack_any _ _ _ _ (lowL (upL l) X) X HLOW3.out HULO.out (by omega) Pl 0 HPL.out).mono ?_; rintro e w4 ⟨G5, n5, c5, rfl, hs5, hb4⟩
              have hk4 := HK3.out.below_ hb4
              have HB4 := Lib.hid (on HB3.out hb4)
              have HS34 := Lib.hid (HS33.out.below hb4)
              have HO4 := Lib.hid (HO.out.below hb4)
              have HS5 := Lib.hid hs5
              have HK4 := Lib.hid hk4
              have d3 : w4.cell? ⟨w1.heap.size, 3, none⟩ = some (.int .i64 gg) := (hk4.cell 3).trans rfl
              have d4 : w4.cell? ⟨w1.heap.size, 4, none⟩ = some (.int .i64 K) := (hk4.cell 4).trans rfl
              clear hs5 hb4 hk4 d1
              go_wp2_with fail
              refine (Closest_any _ _).mono ?_; rintro e w5 ⟨rfl, hb5⟩
              rw [HWC.out]
              go_wp2_with fail
              refine (Pack_any _ _ _ _ (boP (prL l X) K) C (HO4.out.1.below hb5) HUBO.out (by omega) Pb 0 HPB.out).mono ?_; rintro e w6 ⟨G6, n6, c6, rfl, hs6, hb6⟩
              have hk6 := (HK4.out.below_ hb5).below_ hb6
              have HB6 := Lib.hid (on (on HB4.out hb5) hb6)
              have HS36 := Lib.hid ((HS34.out.below hb5).below hb6)
              have HS56 := Lib.hid ((HS5.out.below hb5).below hb6)
              have HS6 := Lib.hid hs6
              have HK6 := Lib.hid hk6
              have d2 : w6.cell? ⟨w1.heap.size, 2, none⟩ = some (.slice A2 j c2) := (hk6.cell 2).trans rfl
              have d3' : w6.cell? ⟨w1.heap.size, 3, none⟩ = some (.int .i64 gg) := (hk6.cell 3).trans rfl
              have d4' : w6.cell? ⟨w1.heap.size, 4, none⟩ = some (.int .i64 K) := (hk6.cell 4).trans rfl
              clear hs6 hb5 hb6 hk6 d3 d4
              go_upto_region 17 with fail
              go_cut [18] (fun v wx => ∃ G : Option Addr, v = .slice G 2 2 ∧ Hid (Sl wx .u8 G 2 2 [(32 * ((n3 : Int) - 1) + wCode K) % 256, (32 * ((gg : Int) - 1) + j) % 256]) ∧ Hid (Below w6.heap.size w6 wx))
              case first =>
                have hkc2 := (wCode_range (K : Int)).2
                have ho1 := i64_or_at (n3 - 1) (wCode (K : Int)).toNat 5 (by omega) (by omega)
                have ho2 := i64_or_at (gg - 1) j 5 (by omega) (by omega)
                rw [show (((n3 - 1) * 2 ^ 5 : Nat) : Int) = ((n3 : Int) - 1) * 32 from by omega, show (((wCode (K : Int)).toNat : Nat) : Int) = wCode K from by omega, show (((n3 - 1) * 2 ^ 5 + (wCode (K : Int)).toNat : Nat) : Int) = 32 * ((n3 : Int) - 1) + wCode K from by omega] at ho1
                rw [show (((gg - 1) * 2 ^ 5 : Nat) : Int) = ((gg : Int) - 1) * 32 from by omega, show (((gg - 1) * 2 ^ 5 + j : Nat) : Int) = 32 * ((gg : Int) - 1) + j from by omega] at ho2
                have HO1 := Lib.hid ho1; have HO2 := Lib.hid ho2
                have e2 : w6.drew.cell? ⟨w1.heap.size, 2, none⟩ = some (.slice A2 j c2) := d2
                have e3 : w6.drew.cell? ⟨w1.heap.size, 3, none⟩ = some (.int .i64 gg) := d3'
                have e4 : w6.drew.cell? ⟨w1.heap.size, 4, none⟩ = some (.int .i64 K) := d4'
                clear ho1 ho2
                have hw1 : IntKind.i64.wrap ((n3 : Int) - 1) = (n3 : Int) - 1 := IntWalk.i64_in _ (by omega)
                have hw2 : IntKind.i64.wrap (((n3 : Int) - 1) * 32) = ((n3 : Int) - 1) * 32 := IntWalk.i64_in _ (by omega)
                have hw3 : IntKind.i64.wrap ((gg : Int) - 1) = (gg : Int) - 1 := IntWalk.i64_in _ (by omega)
                have hw4 : IntKind.i64.wrap (((gg : Int) - 1) * 32) = ((gg : Int) - 1) * 32 := IntWalk.i64_in _ (by omega)
                have HW1 := Lib.hid hw1; have HW2 := Lib.hid hw2; have HW3 := Lib.hid hw3; have HW4 := Lib.hid hw4
                clear hw1 hw2 hw3 hw4
                go_region_held3 (fun w' => w'.cell? ⟨w1.heap.size, 2, none⟩ = some (.slice A2 j c2) ∧ w'.cell? ⟨w1.heap.size, 3, none⟩ = some (.int .i64 gg) ∧ w'.cell? ⟨w1.heap.size, 4, none⟩ = some (.int .i64 K)) (first | exact ⟨e2, e3, e4⟩ | exact ⟨i2, i3, i4⟩ | go_keep)
                  (first
                    | (go_at_call 123; refine (Code_any _ _).mono ?_; rintro e w7 ⟨rfl, hb7⟩; have k7 := HK6.out.drew.below_ hb7; have i2 : w7.cell? ⟨w1.heap.size, 2, none⟩ = some (.slice A2 j c2) := (k7.cell 2).trans rfl; have i3 : w7.cell? ⟨w1.heap.size, 3, none⟩ = some (.int .i64 gg) := (k7.cell 3).trans rfl; have i4 : w7.cell? ⟨w1.heap.size, 4, none⟩ = some (.int .i64 K) := (k7.cell 4).trans rfl; clear k7))
                all_goals
                  go_wp2_with fail
                  go_meet
                  refine ⟨_, rfl, Lib.hid (Sl_lit _ _ _ _ _ ?_ 2 rfl (by omega)), Lib.hid ?_⟩
                  · rw [HW1.out, HW2.out, HO1.out, HW3.out, HW4.out, HO2.out, IntKind.wrap_u8, IntKind.wrap_u8]; rfl
                  · first | exact (on (Below.refl w6.heap.size w6).drew hb7).alloc (on (Below.refl w6.heap.size w6).drew hb7).size _ | exact ((on (Below.refl w6.heap.size w6).drew hb7).alloc (on (Below.refl w6.heap.size w6).drew hb7).size _).drew
              case rest =>
                obtain ⟨G7, rfl, hs7, hb7⟩ := hcut
                go_wp2_with fail
                refine (Code_any _ _).mono ?_; rintro e w8 ⟨rfl, hb8⟩
                go_wp2_with fail
                refine (Head_any _ _ _ _).mono ?_; rintro e w9 ⟨G9, n9, c9, rfl, hs9, hb9⟩
                have hl9 := hs9.1.len
                have hh2 := head_len2 2 (wCode (X : Int)) (n : Int)
                have hl5 := HS5.out.1.len
                have hl6 := HS6.out.1.len
                have HS9 := Lib.hid hs9
                have HB9 := Lib.hid (on (on (on HB6.out hb7.out) hb8) hb9)
                have HS79 := Lib.hid ((hs7.out.1.below hb8).below hb9)
                have HS39 := Lib.hid (((HS36.out.1.below hb7.out).below hb8).below hb9)
                have HS59 := Lib.hid (((HS56.out.1.below hb7.out).below hb8).below hb9)
                have HS69 := Lib.hid (((HS6.out.1.below hb7.out).below hb8).below hb9)
                clear hs9 hb8 hb9 d2 d3' d4'
                go_wp2_with fail
                refine (Concat5_any _ _ _ _ _ _ _ _ _ _ _ _ _ _ _ _ _ _ _ _ _ _ (Blk.new w9 _ _) (HS9.out.1.alloc _) (HS79.out.alloc _) (HS39.out.alloc _) (HS59.out.alloc _) (HS69.out.alloc _) (by omega) (by omega) (by omega) (by omega) (by omega)).mono ?_; rintro e wA ⟨GA, nA, cA, rfl, hsA, hbA⟩
                go_wp2_with fail
                go_ret2
                refine ⟨_, _, _, rfl, ?_, on HB9.out (on ((Below.refl w9.heap.size w9).alloc (Nat.le_refl _) _) hbA)⟩
                have e := HRES.out
                rw [HPN.out, ← HM.out, HN.out, HN3.out] at e
                rw [← e]
                exact hsA
    · have hbad := putPa_bad HL.out (.inl hpre)
      obtain ⟨rfl, rfl⟩ := hbad
      clear hpre
      go_wp2_with fail
      go_ret2
      exact ⟨none, 0, 0, rfl, Sl.nil _ _, hb0⟩
end Go.Proofs.YtmejoococajikaaGreat

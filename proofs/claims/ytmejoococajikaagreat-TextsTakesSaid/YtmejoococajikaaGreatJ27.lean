/- Joined texts: DTakeA. Each has its own head line. No condition beyond those that its theorems state. -/
import Derived.Test.YtmejoococajikaaGreatJ18
import Derived.Test.YtmejoococajikaaGreatJ20
set_option linter.unusedVariables false

/- delta.Take. -/
namespace Go.Proofs.YtmejoococajikaaGreat
open Go.RowKit

theorem own_lit1 (w : World) (k : IntKind) (x : Int) (t : TypeId) : (w.alloc (.cells #[.int k x] t)).ownsRow w.heap.size t 1 (.slice (some ⟨w.heap.size, 0, none⟩) 1 1) 1 ([x].map (Value.int k)) :=
  ⟨by simp, .inr ⟨w.heap.size, 1, _, rfl, Nat.le_refl _, Blk.new w _ _, Nat.le_refl _, by unfold maxLen; omega, rfl, by simp⟩⟩
/-- Between two rounds. -/
def DeW (w wr : World) (f s : Bool) (x0 cur : Int) (Z : List Int) (j : Nat) (v : Value) : Prop :=
  I64x cur ∧ Below w.heap.size w wr ∧ ∃ acc : List Int, stepsDe f s x0 Z = (stepsDe f s cur (Z.drop j)).map (acc ++ ·) ∧ wr.ownsRow w.heap.size 3 1 v (j + 1) ((x0 :: acc).map (Value.int .i64))
theorem drop_cons (Z : List Int) (j : Nat) (h : j < Z.length) : Z.drop j = Z.getD j 0 :: Z.drop (j + 1) := by
  rw [List.drop_eq_getElem_cons h]; simp [List.getD, List.getElem?_eq_getElem h]
theorem map_id_nil (o : Option (List Int)) : o = o.map (([] : List Int) ++ ·) := by cases o <;> simp

set_option maxRecDepth 100000 in
set_option maxHeartbeats 4000000 in
theorem DeTake_any (w : World) (A : Option Addr) (n cap : Nat) (b : List Int) (hr : Ri w .u8 A n b) (hu : U8 b) (hc : n ≤ cap) (hm : cap ≤ 9223372036854775807) (hn : n ≤ 100000) (s : Bool) (l r : List Int) (er : Int) (hl : takeDe b s = (l, r, er)) :
    Calls Tryz.prog 142 #[.slice A n cap, .bool s] w (DTakeOutI w l r er) := by
  have HR := Lib.hid hr; have HU := Lib.hid hu
  have hlk := lookR_more b hu
  obtain ⟨k, c, m, r0, e0, h1⟩ : ∃ k c m r0 e0, lookR b = (k, c, m, r0, e0) := ⟨_, _, _, _, _, rfl⟩
  rw [h1] at hlk
  obtain ⟨hu0, he0, hc0, hc1, hm0, hm1⟩ := hlk
  dsimp only at hu0 he0 hc0 hc1 hm0 hm1
  have ht1 := takeI_u8 r0 s hu0; have ht1r := takeI_range r0 s
  obtain ⟨x, r1, e1, h2⟩ : ∃ x r1 e1, takeI r0 s = (x, r1, e1) := ⟨_, _, _, rfl⟩
  rw [h2] at ht1 ht1r
  obtain ⟨hu1, he1⟩ := ht1
  dsimp only at hu1 he1 ht1r
  have ht2 := takeI_u8 r1 true hu1; have ht2r := takeI_range r1 true
  obtain ⟨fi, r2, e2, h3⟩ : ∃ fi r2 e2, takeI r1 true = (fi, r2, e2) := ⟨_, _, _, rfl⟩
  rw [h3] at ht2 ht2r
  obtain ⟨hu2, he2⟩ := ht2
  dsimp only at hu2 he2 ht2r
  have hdr := diffR_range 0 fi
  obtain ⟨sz, fl, ok, h4⟩ : ∃ sz fl ok, diffR 0 fi = (sz, fl, ok) := ⟨_, _, _, rfl⟩
  rw [h4] at hdr
  dsimp only at hdr
  have hul := unpackR_u64 r2 (m - 2) (wOf c); have hum := unpackR_many r2 (m - 2) (wOf c)
  obtain ⟨L, r3, e3, h5⟩ : ∃ L r3 e3, unpackR r2 (m - 2) (wOf c) = (L, r3, e3) := ⟨_, _, _, rfl⟩
  rw [h5] at hul hum
  dsimp only at hul hum
  rw [takeDe_eq h1 h2 h3 h4 h5] at hl
  have H1 := Lib.hid h1; have H2 := Lib.hid h2; have H3 := Lib.hid h3; have H4 := Lib.hid h4; have H5 := Lib.hid h5
  have HU0 := Lib.hid hu0; have HU1 := Lib.hid hu1; have HU2 := Lib.hid hu2; have HUL := Lib.hid hul; have HUM := Lib.hid hum
  have HX := Lib.hid ht1r; have HFI := Lib.hid ht2r
  clear hr hu h1 h2 h3 h4 h5 hu0 hu1 hu2 hul hum ht1r ht2r
  by_cases hbad : e0 ≠ 0 ∨ k ≠ 3 ∨ m < 2
  · rw [if_pos hbad] at hl
    injection hl with q1 hl; injection hl with q2 q3
    subst q1 q2 q3
    have hb3 : e0 = 2 ∨ (e0 = 0 ∧ ¬ k = 3) ∨ (e0 = 0 ∧ k = 3 ∧ m < 2) := by omega
    clear hbad he0 he1 he2
    rcases hb3 with rfl | ⟨rfl, hk⟩ | ⟨rfl, rfl, hm2⟩
    all_goals
      go_enter Tryz.func142, Tryz.ntmps142
      go_wp2_with fail
      refine (Look_any _ _ _ _ b HR.out HU.out hc hm (by omega) _ c m r0 _ H1.out).mono ?_; rintro e w1 ⟨G1, n1, c1, rfl, hs1, hb1⟩
      go_wp2_with fail
      go_returns
      exact DTakeOutI.bad hb1
  · rw [if_neg hbad] at hl
    obtain ⟨rfl, rfl, hm2⟩ : e0 = 0 ∧ k = 3 ∧ 2 ≤ m := by omega
    clear hbad he0
    obtain ⟨M, rfl⟩ := Int.eq_ofNat_of_zero_le hm0
    rcases he1 with rfl | rfl
    · rw [if_neg (by decide)] at hl
      rcases he2 with rfl | rfl
      · rw [if_neg (by decide)] at hl
        have HL := Lib.hid hl
        clear hl
        go_enter Tryz.func142, Tryz.ntmps142
        go_wp2_with fail
        refine (Look_any _ _ _ _ b HR.out HU.out hc hm (by omega) _ c _ r0 _ H1.out).mono ?_; rintro e w1 ⟨G1, n1, c1, rfl, hs1, hb1⟩
        have hn1 : n1 ≤ 100000 := by
          have h1 := H1.out
          unfold lookR at h1
          split at h1
          · simp at h1
          · simp only [Prod.mk.injEq] at h1
            have := hs1.1.len
            rw [← h1.2.2.2.1, List.length_drop, HR.out.len] at this
            omega
        go_wp2_with fail
        refine (TakeInt_any _ _ _ _ r0 hs1.1 HU0.out hs1.2.1 hs1.2.2 hn1 s x r1 0 H2.out).mono ?_; rintro e w2 ⟨G2, n2, c2, rfl, hs2, hb2⟩
        have hn2 : n2 ≤ 100000 := by
          have h2 := takeI_len r0 s
          rw [H2.out] at h2
          have h3 := hs2.1.len; have h4 := hs1.1.len
          dsimp only at h2
          omega
        go_wp2_with fail
        refine (TakeInt_any _ _ _ _ r1 hs2.1 HU1.out hs2.2.1 hs2.2.2 hn2 true fi r2 0 H3.out).mono ?_; rintro e w3 ⟨G3, n3, c3, rfl, hs3, hb3⟩
        have hn3 : n3 ≤ 100000 := by
          have h2 := takeI_len r1 true
          rw [H3.out] at h2
          have h3 := hs3.1.len; have h4 := hs2.1.len
          dsimp only at h2
          omega
        have HS3 := Lib.hid hs3; have HB3 := Lib.hid (on (on hb1 hb2) hb3)
        clear hs1 hs2 hs3 hb1 hb2 hb3
        go_wp2_with fail
        refine (Diff_any _ 0 fi (by unfold I64x; omega) HFI.out sz fl ok H4.out).mono ?_; rintro e w4 ⟨rfl, hb4⟩
        have HS4 := Lib.hid (HS3.out.below hb4); have HB4 := Lib.hid (on HB3.out hb4)
        clear hb4
        have hmM : ((M : Int) - 1) = ((M - 1 : Nat) : Int) := by omega
        go_wp2_with fail
        refine (RepeatU_any _ _ 1 sz (ri_one_at rfl) (M - 1) (by omega) (by omega)).mono ?_; rintro e w5 ⟨G5, n5, c5, rfl, hs5, hb5⟩
        have hn5 : n5 = M - 1 := by have := hs5.1.len; rw [List.length_replicate] at this; exact this.symm
        subst hn5
        have HB5 := Lib.hid (on HB4.out (on ((Below.refl w4.heap.size w4).alloc (Nat.le_refl _) _) hb5))
        have HS35 := Lib.hid (HS4.out.below (on ((Below.refl w4.heap.size w4).alloc (Nat.le_refl _) _) hb5))
        have HS5 := Lib.hid hs5
        clear hs5 hb5 hmM
        by_cases hcz : 0 < c
        · have hOr := wOf_range c
          rw [if_pos hcz, if_pos hcz] at HL
          go_wp2_with fail
          refine (Of_any c _).mono ?_; rintro e w6 ⟨rfl, hb6⟩
          go_wp2_with fail
          refine (Unpack_any _ _ _ _ r2 _ (wOf c) (HS35.out.1.below hb6) HU2.out HS35.out.2.1 (by omega) L r3 e3 H5.out).mono ?_; rintro e w7 ⟨G7, n7, c7, G8, n8, c8, rfl, hs7, hs8, hb7⟩
          have HB7 := Lib.hid (on (on HB5.out hb6) hb7)
          by_cases he3 : e3 = 0
          · subst he3
            rw [show (if ok = false then (([], [], 2) : List Int × List Int × Int) else if 0 < c ∧ (0 : Int) ≠ 0 then ([], [], 2) else finDe x r3 (stepsDe fl s x (sz :: L))) = (if ok = false then ([], [], 2) else finDe x r3 (stepsDe fl s x (sz :: L))) from by rw [if_neg (by simp : ¬ (0 < c ∧ (0 : Int) ≠ 0))]] at HL
            have hLl := HUM.out rfl
            have hn7 := hs7.1.len
            have hl7 : n7 = M - 2 := by omega
            subst hl7
            have HS8 := Lib.hid hs8; have HS7 := Lib.hid hs7
            clear hs8 hs7 hb6 hb7 hLl
            go_wp2_with (at_builtin; refine wpList_u64 _ rfl _ _ rfl w7.heap.size _ 1 [sz] rfl (own_lit1 w7 .u64 sz 109) _ _ _ L rfl (HS7.out.1.alloc _) (by omega) (by simp) ?_; intro G9 c9 w9 hown hgr hcc)
            have hb9 := push0 ((Below.refl w7.heap.size w7).alloc (Nat.le_refl _) _) (Nat.le_refl _) (own_lit1 w7 .u64 sz 109) hgr
            have HB9 := Lib.hid (on HB7.out hb9)
            have HZ := Lib.hid (Ri.of_own hown)
            have HS89 := Lib.hid (HS8.out.below hb9)
            clear hown hgr hb9
            rw [show 1 + (M - 2) = M - 1 from by omega] at HZ
            have hZU : Hid (U64 (sz :: L)) := by
              intro y hy
              rcases List.mem_cons.1 hy with rfl | hy
              · omega
              · exact HUL.out y hy
            have hZl : (sz :: L).length = M - 1 := by simp only [List.length_cons]; omega
            rw [show [sz] ++ L = sz :: L from rfl] at HZ
            generalize sz :: L = Z at HZ HL hZU hZl
            have HZU : Hid (U64 Z) := hZU
            have H0 := Lib.hid (own_lit1 w9 .i64 x 3)
            cases ok
            · rw [if_pos rfl] at HL
              have h := HL.out
              injection h with q1 h; injection h with q2 q3
              subst q1 q2 q3
              clear HL
              go_wp2_with fail
              go_loopw [12, 16, 19, 92] (fun xv okv v i wr => i = .int .i64 0 ∧ xv = .int .i64 x ∧ okv = .bool false ∧ Hid (Below w9.heap.size w9 wr)) (fun _ _ _ i _ => 1 - (intOf i).toNat)
              case atStart => exact ⟨rfl, rfl, rfl, (Below.refl _ _).alloc (Nat.le_refl _) _⟩
              case round =>
                obtain ⟨rfl, rfl, rfl, hb⟩ := hrel
                obtain ⟨bz, oz, hAz, hblz, hcz⟩ := HZ.out.at_ (j := 0) (by omega)
                subst hAz
                have hz := (hb.out.cell (p := ⟨bz, oz + 0, none⟩) hblz).trans hcz
                rw [Nat.add_zero] at hz
                have hzr := getD_u64' HZU.out 0
                clear hcz
                generalize Z.getD 0 0 = u at hz hzr
                go_wp2_with fail
                refine (step_any _ x u fl s false HX.out hzr).mono ?_; rintro e w' ⟨rfl, rfl⟩
                rw [Bool.false_and, Bool.false_and]
                go_wp2_with fail
                go_returns
                exact DTakeOutI.bad (on HB9.out hb.out)
            · rw [if_neg (by decide)] at HL
              go_wp2_with fail
              go_loopw [12, 16, 19, 92] (fun xv okv v i wr => ∃ (j : Nat) (cur : Int), j ≤ M - 1 ∧ i = .int .i64 j ∧ xv = .int .i64 cur ∧ okv = .bool true ∧ Hid (DeW w9 wr fl s x cur Z j v)) (fun _ _ _ i _ => M - (intOf i).toNat)
              case atStart => exact ⟨0, x, by omega, rfl, rfl, rfl, HX.out, (Below.refl _ _).alloc (Nat.le_refl _) _, [], map_id_nil _, H0.out⟩
              case round =>
                obtain ⟨j, cur, hj, rfl, rfl, rfl, hin⟩ := hrel
                obtain ⟨hcur, hb, acc, hst, ho⟩ := hin.out
                have HO := Lib.hid ho; have HB := Lib.hid hb; have HST := Lib.hid hst; have HCUR := Lib.hid hcur
                have hzb := hb.size
                clear hin ho hb hst hcur
                by_cases hlt : j < M - 1
                · obtain ⟨bz, oz, hAz, hblz, hcz⟩ := HZ.out.at_ hlt
                  subst hAz
                  have hz := (HB.out.cell (p := ⟨bz, oz + j, none⟩) hblz).trans hcz
                  have hzr := getD_u64' HZU.out j
                  have hdc := drop_cons Z j (by omega)
                  clear hcz
                  generalize Z.getD j 0 = u at hz hzr hdc
                  have hst := HST.out
                  rw [hdc] at hst
                  have hyr := stepR_range cur u fl HCUR.out hzr.1
                  by_cases hg : (stepR cur u fl).2 = true ∧ (s = true ∨ 0 ≤ (stepR cur u fl).1)
                  · rw [stepsDe_good fl s cur u _ acc hg.1 hg.2] at hst
                    have hgb : (true && (stepR cur u fl).2 && (s || decide (0 ≤ (stepR cur u fl).1))) = true := by rw [hg.1]; rcases hg.2 with h | h <;> simp [h]
                    have HST2 := Lib.hid hst; have HYR := Lib.hid hyr; have HGB := Lib.hid hgb
                    clear hst hyr hgb hg hdc
                    go_wp2_with fail
                    refine (step_any _ cur u fl s true HCUR.out hzr).mono ?_; rintro e w' ⟨rfl, rfl⟩
                    rw [HGB.out]
                    generalize (stepR cur u fl).1 = y at *
                    go_wp2_with (at_builtin; refine wpList_i64 _ rfl _ _ rfl w9.heap.size _ (j + 1) (x :: acc) rfl (own_below HO.out ((Below.refl _ _).alloc (Nat.le_refl _) _)) _ 1 1 [_] rfl (ri_one_at rfl) (by omega) (by simp; omega) ?_; intro G c' w7 hown hgr hcc)
                    have HOWN := Lib.hid hown; have HNB := Lib.hid (push_ HB.out (Nat.le_refl _) HO.out hgr)
                    clear hown hgr
                    go_wp2_with fail
                    go_roundw
                    case rel => exact ⟨j + 1, y, by omega, by go_num, rfl, rfl, HYR.out, HNB.out, acc ++ [y], HST2.out, HOWN.out⟩
                    case measure => simp [intOf] <;> omega
                  · rw [stepsDe_bad fl s cur u _ hg] at hst
                    have hgb : (true && (stepR cur u fl).2 && (s || decide (0 ≤ (stepR cur u fl).1))) = false := by
                      rw [Bool.eq_false_iff]
                      intro h
                      simp only [Bool.true_and, Bool.and_eq_true, Bool.or_eq_true, decide_eq_true_eq] at h
                      exact hg h
                    have h := HL.out
                    rw [hst] at h
                    simp only [Option.map_none, finDe] at h
                    injection h with q1 h; injection h with q2 q3
                    subst q1 q2 q3
                    have HGB := Lib.hid hgb
                    clear hst hyr hgb hg hdc HL HST
                    go_wp2_with fail
                    refine (step_any _ cur u fl s true HCUR.out hzr).mono ?_; rintro e w' ⟨rfl, rfl⟩
                    rw [HGB.out]
                    generalize (stepR cur u fl).1 = y at *
                    go_wp2_with fail
                    go_returns
                    exact DTakeOutI.bad (on HB9.out HB.out)
                · obtain rfl : j = M - 1 := by omega
                  have h := HL.out
                  rw [HST.out, List.drop_eq_nil_of_le (by omega), stepsDe_nil] at h
                  simp only [Option.map_some, finDe, List.append_nil] at h
                  injection h with q1 h; injection h with q2 q3
                  subst q1 q2 q3
                  obtain ⟨G7, c7, rfl⟩ := own_form HO.out
                  have HS7 := Lib.hid (Sl.of_own HO.out)
                  have HRS7 := Lib.hid (HS89.out.below HB.out)
                  clear HL HST
                  go_wp2_with fail
                  go_returns
                  exact ⟨_, _, _, _, _, _, rfl, HS7.out, HRS7.out, on HB9.out HB.out⟩
          · rw [show (if ok = false then (([], [], 2) : List Int × List Int × Int) else if 0 < c ∧ e3 ≠ 0 then ([], [], 2) else finDe x r3 (stepsDe fl s x (sz :: L))) = ([], [], 2) from (Classical.em (ok = false)).elim (fun hok => by rw [if_pos hok]) (fun hok => by rw [if_neg hok, if_pos ⟨hcz, he3⟩])] at HL
            have h := HL.out
            injection h with q1 h; injection h with q2 q3
            subst q1 q2 q3
            clear HL hs7 hs8
            go_wp2_with fail
            go_returns
            exact DTakeOutI.bad HB7.out
        · rw [if_neg hcz, if_neg hcz, show ((M : Int) - 1).toNat = M - 1 from by omega] at HL
          rw [show (if ok = false then (([], [], 2) : List Int × List Int × Int) else if 0 < c ∧ e3 ≠ 0 then ([], [], 2) else finDe x r2 (stepsDe fl s x (List.replicate (M - 1) sz))) = (if ok = false then ([], [], 2) else finDe x r2 (stepsDe fl s x (List.replicate (M - 1) sz))) from by rw [if_neg (fun h => hcz h.1 : ¬ (0 < c ∧ e3 ≠ 0))]] at HL
          have hZU : Hid (U64 (List.replicate (M - 1) sz)) := by
            intro y hy
            rw [List.eq_of_mem_replicate hy]; omega
          have hZl : (List.replicate (M - 1) sz).length = M - 1 := List.length_replicate
          have HZ := Lib.hid HS5.out.1
          generalize List.replicate (M - 1) sz = Z at HZ HL hZU hZl HS5
          have hc00 : c = 0 := by omega
          have HC00 := Lib.hid hc00
          clear hc00
          have HZU : Hid (U64 Z) := hZU
          have H0 := Lib.hid (own_lit1 w5 .i64 x 3)
          cases ok
          · rw [if_pos rfl] at HL
            have h := HL.out
            injection h with q1 h; injection h with q2 q3
            subst q1 q2 q3
            clear HL
            go_wp2_with fail
            go_loopw [12, 16, 19, 92] (fun xv okv v i wr => i = .int .i64 0 ∧ xv = .int .i64 x ∧ okv = .bool false ∧ Hid (Below w5.heap.size w5 wr)) (fun _ _ _ i _ => 1 - (intOf i).toNat)
            case atStart => exact ⟨rfl, rfl, rfl, (Below.refl _ _).alloc (Nat.le_refl _) _⟩
            case round =>
              obtain ⟨rfl, rfl, rfl, hb⟩ := hrel
              obtain ⟨bz, oz, hAz, hblz, hcz⟩ := HZ.out.at_ (j := 0) (by omega)
              subst hAz
              have hz := (hb.out.cell (p := ⟨bz, oz + 0, none⟩) hblz).trans hcz
              rw [Nat.add_zero] at hz
              have hzr := getD_u64' HZU.out 0
              clear hcz
              generalize Z.getD 0 0 = u at hz hzr
              go_wp2_with fail
              refine (step_any _ x u fl s false HX.out hzr).mono ?_; rintro e w' ⟨rfl, rfl⟩
              rw [Bool.false_and, Bool.false_and]
              go_wp2_with fail
              go_returns
              exact DTakeOutI.bad (on HB5.out hb.out)
          · rw [if_neg (by decide)] at HL
            go_wp2_with fail
            go_loopw [12, 16, 19, 92] (fun xv okv v i wr => ∃ (j : Nat) (cur : Int), j ≤ M - 1 ∧ i = .int .i64 j ∧ xv = .int .i64 cur ∧ okv = .bool true ∧ Hid (DeW w5 wr fl s x cur Z j v)) (fun _ _ _ i _ => M - (intOf i).toNat)
            case atStart => exact ⟨0, x, by omega, rfl, rfl, rfl, HX.out, (Below.refl _ _).alloc (Nat.le_refl _) _, [], map_id_nil _, H0.out⟩
            case round =>
              obtain ⟨j, cur, hj, rfl, rfl, rfl, hin⟩ := hrel
              obtain ⟨hcur, hb, acc, hst, ho⟩ := hin.out
              have HO := Lib.hid ho; have HB := Lib.hid hb; have HST := Lib.hid hst; have HCUR := Lib.hid hcur
              have hzb := hb.size
              clear hin ho hb hst hcur
              by_cases hlt : j < M - 1
              · obtain ⟨bz, oz, hAz, hblz, hcz⟩ := HZ.out.at_ hlt
                subst hAz
                have hz := (HB.out.cell (p := ⟨bz, oz + j, none⟩) hblz).trans hcz
                have hzr := getD_u64' HZU.out j
                have hdc := drop_cons Z j (by omega)
                clear hcz
                generalize Z.getD j 0 = u at hz hzr hdc
                have hst := HST.out
                rw [hdc] at hst
                have hyr := stepR_range cur u fl HCUR.out hzr.1
                by_cases hg : (stepR cur u fl).2 = true ∧ (s = true ∨ 0 ≤ (stepR cur u fl).1)
                · rw [stepsDe_good fl s cur u _ acc hg.1 hg.2] at hst
                  have hgb : (true && (stepR cur u fl).2 && (s || decide (0 ≤ (stepR cur u fl).1))) = true := by rw [hg.1]; rcases hg.2 with h | h <;> simp [h]
                  have HST2 := Lib.hid hst; have HYR := Lib.hid hyr; have HGB := Lib.hid hgb
                  clear hst hyr hgb hg hdc
                  go_wp2_with fail
                  refine (step_any _ cur u fl s true HCUR.out hzr).mono ?_; rintro e w' ⟨rfl, rfl⟩
                  rw [HGB.out]
                  generalize (stepR cur u fl).1 = y at *
                  go_wp2_with (at_builtin; refine wpList_i64 _ rfl _ _ rfl w5.heap.size _ (j + 1) (x :: acc) rfl (own_below HO.out ((Below.refl _ _).alloc (Nat.le_refl _) _)) _ 1 1 [_] rfl (ri_one_at rfl) (by omega) (by simp; omega) ?_; intro G c' w7 hown hgr hcc)
                  have HOWN := Lib.hid hown; have HNB := Lib.hid (push_ HB.out (Nat.le_refl _) HO.out hgr)
                  clear hown hgr
                  go_wp2_with fail
                  go_roundw
                  case rel => exact ⟨j + 1, y, by omega, by go_num, rfl, rfl, HYR.out, HNB.out, acc ++ [y], HST2.out, HOWN.out⟩
                  case measure => simp [intOf] <;> omega
                · rw [stepsDe_bad fl s cur u _ hg] at hst
                  have hgb : (true && (stepR cur u fl).2 && (s || decide (0 ≤ (stepR cur u fl).1))) = false := by
                    rw [Bool.eq_false_iff]
                    intro h
                    simp only [Bool.true_and, Bool.and_eq_true, Bool.or_eq_true, decide_eq_true_eq] at h
                    exact hg h
                  have h := HL.out
                  rw [hst] at h
                  simp only [Option.map_none, finDe] at h
                  injection h with q1 h; injection h with q2 q3
                  subst q1 q2 q3
                  have HGB := Lib.hid hgb
                  clear hst hyr hgb hg hdc HL HST
                  go_wp2_with fail
                  refine (step_any _ cur u fl s true HCUR.out hzr).mono ?_; rintro e w' ⟨rfl, rfl⟩
                  rw [HGB.out]
                  generalize (stepR cur u fl).1 = y at *
                  go_wp2_with fail
                  go_returns
                  exact DTakeOutI.bad (on HB5.out HB.out)
              · obtain rfl : j = M - 1 := by omega
                have h := HL.out
                rw [HST.out, List.drop_eq_nil_of_le (by omega), stepsDe_nil] at h
                simp only [Option.map_some, finDe, List.append_nil] at h
                injection h with q1 h; injection h with q2 q3
                subst q1 q2 q3
                obtain ⟨G7, c7, rfl⟩ := own_form HO.out
                have HS7 := Lib.hid (Sl.of_own HO.out)
                have HRS7 := Lib.hid (HS35.out.below HB.out)
                clear HL HST
                go_wp2_with fail
                go_returns
                exact ⟨_, _, _, _, _, _, rfl, HS7.out, HRS7.out, on HB5.out HB.out⟩
      · rw [if_pos (by decide)] at hl
        injection hl with q1 hl; injection hl with q2 q3
        subst q1 q2 q3
        go_enter Tryz.func142, Tryz.ntmps142
        go_wp2_with fail
        refine (Look_any _ _ _ _ b HR.out HU.out hc hm (by omega) _ c _ r0 _ H1.out).mono ?_; rintro e w1 ⟨G1, n1, c1, rfl, hs1, hb1⟩
        have hn1 : n1 ≤ 100000 := by
          have h1 := H1.out
          unfold lookR at h1
          split at h1
          · simp at h1
          · simp only [Prod.mk.injEq] at h1
            have := hs1.1.len
            rw [← h1.2.2.2.1, List.length_drop, HR.out.len] at this
            omega
        go_wp2_with fail
        refine (TakeInt_any _ _ _ _ r0 hs1.1 HU0.out hs1.2.1 hs1.2.2 hn1 s x r1 0 H2.out).mono ?_; rintro e w2 ⟨G2, n2, c2, rfl, hs2, hb2⟩
        have hn2 : n2 ≤ 100000 := by
          have h2 := takeI_len r0 s
          rw [H2.out] at h2
          have h3 := hs2.1.len; have h4 := hs1.1.len
          dsimp only at h2
          omega
        go_wp2_with fail
        refine (TakeInt_any _ _ _ _ r1 hs2.1 HU1.out hs2.2.1 hs2.2.2 hn2 true fi r2 2 H3.out).mono ?_; rintro e w3 ⟨G3, n3, c3, rfl, hs3, hb3⟩
        go_wp2_with fail
        go_returns
        exact DTakeOutI.bad (on (on hb1 hb2) hb3)
    · rw [if_pos (by decide)] at hl
      injection hl with q1 hl; injection hl with q2 q3
      subst q1 q2 q3
      go_enter Tryz.func142, Tryz.ntmps142
      go_wp2_with fail
      refine (Look_any _ _ _ _ b HR.out HU.out hc hm (by omega) _ c _ r0 _ H1.out).mono ?_; rintro e w1 ⟨G1, n1, c1, rfl, hs1, hb1⟩
      have hn1 : n1 ≤ 100000 := by
        have h1 := H1.out
        unfold lookR at h1
        split at h1
        · simp at h1
        · simp only [Prod.mk.injEq] at h1
          have := hs1.1.len
          rw [← h1.2.2.2.1, List.length_drop, HR.out.len] at this
          omega
      go_wp2_with fail
      refine (TakeInt_any _ _ _ _ r0 hs1.1 HU0.out hs1.2.1 hs1.2.2 hn1 s x r1 2 H2.out).mono ?_; rintro e w2 ⟨G2, n2, c2, rfl, hs2, hb2⟩
      go_wp2_with fail
      go_returns
      exact DTakeOutI.bad (on hb1 hb2)
end Go.Proofs.YtmejoococajikaaGreat

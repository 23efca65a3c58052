/- Joined texts: RefDPut. Each has its own head line. No condition beyond those that its theorems state. -/
import Derived.Test.YtmejoococajikaaGreatJ22
import Derived.Test.YtmejoococajikaaGreatJ14
import Derived.Test.YtmejoococajikaaGreatJ24
set_option linter.unusedVariables false

/- The reference of delta.Put. -/
namespace Go.Proofs.YtmejoococajikaaGreat
open Go.RowKit

theorem own_first {w : World} {base : Nat} {e : TypeId} {G : Option Addr} {m c : Nat} {k : IntKind} {l : List Int} (h : w.ownsRow base e 1 (.slice G m c) m (l.map (Value.int k))) (hm : 0 < m) :
    ∃ g, G = some ⟨g, 0, none⟩ ∧ base ≤ g ∧ w.cell? ⟨g, 0, none⟩ = some (.int k (l.getD 0 0)) := by
  rcases h.2 with ⟨_, h0⟩ | ⟨g, cg, cur, hv, hg, _⟩
  · omega
  · injection hv with h1 h2 h3
    obtain ⟨b, o, e1, _, hc⟩ := (Ri.of_own h).all hm
    have h4 := hc 0 hm
    rw [h1] at e1
    injection e1 with e1; injection e1 with e2 e3
    subst e2 e3
    exact ⟨g, h1, hg, h4⟩
theorem dsz_first (l : List Int) (m : Nat) (h : 0 < m) : (dsz l m).getD 0 0 = absI (dAt l 0) := by
  simp [dsz, List.getD, List.getElem?_map, List.getElem?_range h]
theorem plainL_err (l : List Int) (s : Bool) : ∃ u e, plainL l s = (u, e) ∧ ((e = 0 ∧ ¬ (s = false ∧ l.any (fun x => decide (x < 0)) = true)) ∨ (e = 1 ∧ s = false ∧ l.any (fun x => decide (x < 0)) = true)) := by
  unfold plainL
  cases s
  · rw [if_neg (by simp)]
    unfold mapOk
    split
    · rename_i h
      refine ⟨_, _, rfl, .inl ⟨rfl, fun ⟨_, h2⟩ => ?_⟩⟩
      obtain ⟨x, hx, h3⟩ := List.any_eq_true.1 h2
      have := List.all_eq_true.1 h x hx
      simp at this h3
      omega
    · rename_i h
      refine ⟨_, _, rfl, .inr ⟨rfl, rfl, ?_⟩⟩
      rw [Bool.not_eq_true, List.all_eq_false] at h
      obtain ⟨x, hx, h3⟩ := h
      exact List.any_eq_true.2 ⟨x, hx, by simp at h3 ⊢; exact h3⟩
  · rw [if_pos rfl]
    unfold mapOk
    rw [if_pos (by simp)]
    exact ⟨_, _, rfl, .inl ⟨rfl, fun ⟨h, _⟩ => by cases h⟩⟩
def RefDW (w wr : World) (l : List Int) (j : Nat) (v : Value) : Prop :=
  okD l j = true ∧ wr.ownsRow w.heap.size 109 1 v j ((dsz l j).map (Value.int .u64)) ∧ Below w.heap.size w wr

set_option maxRecDepth 100000 in
set_option maxHeartbeats 4000000 in
theorem refDePut_any (w : World) (A : Option Addr) (n cap : Nat) (l : List Int) (hr : Ri w .i64 A n l) (hu : I64 l) (hc : n ≤ cap) (hn : n ≤ 100000) (s : Bool) (r : List Int) (er : Int) (hl : putDe l s = (r, er)) :
    Calls Tryz.prog 61 #[.slice A n cap, .bool s] w (BytesErr w r er) := by
  have HR := Lib.hid hr; have HU := Lib.hid hu; have HN := Lib.hid hr.len
  clear hr hu
  obtain ⟨pu, pe, hpl, hpc⟩ := plainL_err l s
  have HP := Lib.hid hpl
  clear hpl
  rcases hpc with ⟨rfl, hpos⟩ | ⟨rfl, hs, hneg⟩
  · by_cases hlen : n < 2 ∨ 512 < n
    · obtain ⟨rfl, rfl⟩ := putDe_bad hl (by rw [badDe, HN.out]; omega)
      clear hl hpos
      rcases hlen with hlen | hlen
      all_goals
        go_enter Tryz.func61, Tryz.ntmps61
        go_wp2_with fail
        refine (refPlain8_any _ _ _ _ l HR.out HU.out (by omega) s pu 0 HP.out).mono ?_; rintro e w1 ⟨G, n1, c1, rfl, hs1, hb1⟩
        go_wp2_with fail
        go_ret2
        exact ⟨none, 0, 0, rfl, Sl.nil _ _, hb1⟩
    · obtain ⟨hn2, hn5⟩ : 2 ≤ n ∧ n ≤ 512 := by omega
      clear hlen
      have HPOS := Lib.hid hpos
      obtain ⟨bb, oo, hA, hbl, hcells⟩ := HR.out.all (by omega)
      subst hA
      have HC := Lib.hid hcells
      have HL := Lib.hid hl
      clear hcells hpos hl
      go_enter Tryz.func61, Tryz.ntmps61
      go_wp2_with fail
      refine (refPlain8_any _ _ _ _ l HR.out HU.out (by omega) s pu 0 HP.out).mono ?_; rintro e w1 ⟨G, n1, c1, rfl, hs1, hb1⟩
      have g0 := (hb1.cell (p := ⟨bb, oo, none⟩) hbl).trans (HC.out 0 (by omega))
      have g1 := (hb1.cell (p := ⟨bb, oo + 1, none⟩) hbl).trans (HC.out 1 (by omega))
      have HB1 := Lib.hid hb1
      have hbl1 : bb < w1.heap.size := Nat.lt_of_lt_of_le hbl hb1.size
      clear hs1 hb1
      have hf0 : (decide (l.getD 1 0 < l.getD 0 0)) = decide (dAt l 0 < 0) := by
        unfold dAt
        by_cases h : l.getD 1 0 < l.getD 0 0
        · rw [decide_eq_true h, decide_eq_true (by show l.getD 1 0 - l.getD 0 0 < 0; omega)]
        · rw [decide_eq_false h, decide_eq_false (by show ¬ l.getD 1 0 - l.getD 0 0 < 0; omega)]
      generalize l.getD 0 0 = x0 at g0 hf0
      generalize l.getD 1 0 = x1 at g1 hf0
      have g0a := (World.cell?_alloc_lt w1 (.cells #[] 109) ⟨bb, oo, none⟩ hbl1).trans g0
      have g1a := (World.cell?_alloc_lt w1 (.cells #[] 109) ⟨bb, oo + 1, none⟩ hbl1).trans g1
      generalize hff : decide (dAt l 0 < 0) = f at hf0
      have HFF := Lib.hid hff
      clear hff
      go_wp2_with fail
      go_quiet (fail)
      go_wp2_with fail
      clear g0 g1 g0a g1a hf0
      go_loopw [8, 10, 11] (fun v sm i wr => ∃ j : Nat, 1 ≤ j ∧ j ≤ n ∧ i = .int .i64 j ∧ sm = .bool (sameD l (j - 1)) ∧ Hid (RefDW w1 wr l (j - 1) v)) (fun _ _ i _ => n - (intOf i).toNat)
      case atStart =>
        exact ⟨1, by omega, by omega, rfl, rfl, rfl, own_empty w1 _ 1, below_drewN ((Below.refl w1.heap.size w1).alloc (Nat.le_refl _) _) _⟩
      case round =>
        obtain ⟨j, hj1, hj, rfl, rfl, hin⟩ := hrel
        by_cases hlt : j < n
        · obtain ⟨hok, ho, hb⟩ := hin.out
          have g1 := (hb.cell (p := ⟨bb, oo + (j - 1), none⟩) (Nat.lt_of_lt_of_le hbl HB1.out.size)).trans ((HB1.out.cell (p := ⟨bb, oo + (j - 1), none⟩) hbl).trans (HC.out (j - 1) (by omega)))
          have g2 := (hb.cell (p := ⟨bb, oo + j, none⟩) (Nat.lt_of_lt_of_le hbl HB1.out.size)).trans ((HB1.out.cell (p := ⟨bb, oo + j, none⟩) hbl).trans (HC.out j hlt))
          have ha := getD_i64x HU.out (j - 1); have hb1 := getD_i64x HU.out j
          obtain ⟨d, hd⟩ : ∃ d, d = dAt l (j - 1) := ⟨_, rfl⟩
          have hdd : l.getD j 0 - l.getD (j - 1) 0 = d := by rw [hd]; unfold dAt; rw [show j - 1 + 1 = j from by omega]
          have hdr := diffR_eq (l.getD (j - 1) 0) (l.getD j 0)
          rw [hdd] at hdr
          generalize l.getD (j - 1) 0 = a at *
          generalize l.getD j 0 = b at *
          have hi1 : (0 : Int) ≤ (j : Int) - 1 := by omega
          have hi2 : (j : Int) - 1 < (n : Int) := by omega
          have hi3 : (j : Int) < (n : Int) := by omega
          have hi4 : (0 : Int) ≤ (j : Int) := by omega
          have hnat : ((j : Int) - 1).toNat = j - 1 := by omega
          have hw1 := IntWalk.wrap64_in ((j : Int) - 1) (by omega)
          have hw2 : IntKind.i64.wrap ((j : Int) - 1) = (j : Int) - 1 := by rw [IntKind.wrap_i64]; omega
          have HOK := Lib.hid hok; have HO := Lib.hid ho; have HB := Lib.hid hb; have HD := Lib.hid hd
          have hzB := hb.size
          clear hok ho hin hd hdd hb
          by_cases hbig : absI d ≥ 9223372036854775808
          · rw [if_pos hbig] at hdr
            have HDR := Lib.hid hdr
            have hbad := okD_bad l (n - 1) (j - 1) (by omega) (by unfold okAt; rw [← HD.out, decide_eq_false (by omega)]; rfl)
            obtain ⟨rfl, rfl⟩ := putDe_bad HL.out (by rw [badDe, HN.out]; exact .inr (.inr (.inr hbad)))
            clear hbad hdr hbig
            go_wp2_with fail
            go_quiet ((go_at_call 92; exact Calls.quiet_of_same (Calls.turn_ (refDiff_any _ a b ha hb1 0 false false HDR.out))))
            go_wp2_with fail
            go_ret2
            exact ⟨none, 0, 0, rfl, Sl.nil _ _, below_drewN (on HB1.out HB.out) _⟩
          · rw [if_neg hbig] at hdr
            have HDR := Lib.hid hdr
            have hs0 : 0 ≤ absI d := by unfold absI; split <;> omega
            have hs1 : absI d < 9223372036854775808 := by omega
            have hokn := okD_snoc l (j - 1)
            have hsm := sameD_snoc l (j - 1)
            have hbad := okD_bad l (n - 1) (j - 1) (by omega)
            have hdn := dsz_snoc l (j - 1)
            have hdf := dsz_first l (j - 1 + 1) (by omega)
            unfold okAt at hokn hbad
            rw [HOK.out, Bool.true_and] at hokn
            rw [← HD.out] at hokn hsm hbad hdn
            rw [show j - 1 + 1 = j from by omega] at hokn hsm hdn hdf
            rw [HFF.out] at hokn hbad
            have hT0 : 0 ≤ absI (dAt l 0) := by unfold absI; split <;> omega
            have hd0 : d = 0 → decide (d < 0) = false := fun h => by simp; omega
            have hz0 := absI_zero d
            generalize absI (dAt l 0) = s0 at *
            generalize decide (d < 0) = fl at *
            generalize hsz : absI d = sz at *
            have HSM := Lib.hid hsm; have HOKN := Lib.hid hokn; have HBAD := Lib.hid hbad; have HDN := Lib.hid hdn; have HDF := Lib.hid hdf
            clear hsm hokn hbad hdr hbig hsz hdn hdf
            obtain ⟨nn, hnn⟩ : ∃ nn, nn = j - 1 := ⟨_, rfl⟩
            by_cases hbd : ¬ sz = 0 ∧ ¬ fl = f
            · obtain ⟨hb3, hb4⟩ := hbd
              have hbad := HBAD.out (by rw [decide_eq_true hs1, decide_eq_false (fun h => hb3 (hz0.2 h))]; cases fl <;> cases f <;> simp at hb4 ⊢)
              obtain ⟨rfl, rfl⟩ := putDe_bad HL.out (by rw [badDe, HN.out]; exact .inr (.inr (.inr hbad)))
              have hpos : 0 < sz := by omega
              clear hbad HBAD HOKN hz0 hd0 hb3 hnn
              go_wp2_with fail
              go_quiet ((go_at_call 92; exact Calls.quiet_of_same (Calls.turn_ (refDiff_any _ a b ha hb1 sz fl true HDR.out))))
              cases fl <;> cases f
              · exact absurd rfl hb4
              · clear hb4
                go_wp2_with fail
                go_ret2
                exact ⟨none, 0, 0, rfl, Sl.nil _ _, below_drewN (on HB1.out HB.out) _⟩
              · clear hb4
                go_wp2_with fail
                go_ret2
                exact ⟨none, 0, 0, rfl, Sl.nil _ _, below_drewN (on HB1.out HB.out) _⟩
              · exact absurd rfl hb4
            · have hok1 : Hid (okD l j = true) := by
                show okD l j = true
                rw [HOKN.out, decide_eq_true hs1]
                by_cases h : sz = 0
                · rw [decide_eq_true (hz0.1 h)]; rfl
                · have : fl = f := by
                    cases fl <;> cases f <;> first | rfl | (exfalso; exact hbd ⟨h, by decide⟩)
                  rw [this]; simp
              have hcase : (sz = 0 ∧ fl = false) ∨ (0 < sz ∧ fl = f) := by
                by_cases h : sz = 0
                · exact .inl ⟨h, hd0 (hz0.1 h)⟩
                · refine .inr ⟨by omega, ?_⟩
                  cases fl <;> cases f <;> first | rfl | (exfalso; exact hbd ⟨h, by decide⟩)
              clear HBAD HOKN hz0 hd0 hbd hnn
              obtain ⟨sj, hsj⟩ : ∃ sj, sj = sameD l (j - 1) := ⟨_, rfl⟩
              rw [← hsj]
              have HSJ := Lib.hid hsj
              clear hsj
              obtain ⟨st, hst⟩ : ∃ st, st = (sz == s0) := ⟨_, rfl⟩
              have hst' := hst.symm
              have HST := Lib.hid hst
              clear hst
              go_wp2_with fail
              go_quiet ((go_at_call 92; exact Calls.quiet_of_same (Calls.turn_ (refDiff_any _ a b ha hb1 sz fl true HDR.out))))
              clear nn
              have hstep : Hid ((sj && st) = sameD l j) := by
                show (sj && st) = sameD l j
                rw [HSM.out, ← HSJ.out, HST.out]
                cases sj
                · rfl
                · rw [Bool.true_and, Bool.true_and, Bool.eq_iff_iff]; simp
              rcases hcase with ⟨rfl, rfl⟩ | ⟨hp, rfl⟩
              all_goals
                cases sj
                all_goals
                  go_wp2_with (at_builtin; refine wpList_u64 _ rfl _ _ rfl w1.heap.size _ (j - 1) _ rfl (own_below HO.out ((below_drewN (Below.refl _ _) nq).alloc (by simp) _)) _ 1 1 [_] rfl (ri_one_at (by simp)) (by omega) (by simp; omega) ?_; intro G2 c2 w3 hown hgr hcc; rw [← HDN.out] at hown; obtain ⟨g2, rfl, hg2, hc2⟩ := own_first hown (by omega); rw [HDF.out] at hc2; have HOWN := Lib.hid hown; have HNB := Lib.hid (push_ (below_drewN HB.out nq) (Nat.le_refl _) (own_below HO.out (below_drewN (Below.refl _ _) nq)) hgr); clear hown hgr)
                  go_wp2_with fail
                  all_goals
                    go_roundw
                    case rel =>
                      refine ⟨j + 1, by omega, by omega, by go_num, ?_, ?_⟩
                      · rw [show j + 1 - 1 = j from by omega, ← hstep.out]
                        first | rfl | (cases st <;> rfl)
                      · rw [show j + 1 - 1 = j from by omega]
                        refine ⟨hok1.out, ?_, HNB.out⟩
                        have h := HOWN.out
                        rw [show j - 1 + 1 = j from by omega] at h
                        exact h
                    case measure => simp [intOf] <;> omega
        · obtain rfl : j = n := by omega
          obtain ⟨hok, ho, hb⟩ := hin.out
          obtain ⟨GG, c2, rfl⟩ := own_form ho
          obtain ⟨g2, rfl, hg2, hc2⟩ := own_first ho (by omega)
          rw [dsz_first l (j - 1) (by omega)] at hc2
          have hcg := own_cap ho
          have hput := HL.out
          unfold putDe at hput
          rw [if_neg (fun hbd => by rw [badDe, HN.out, hok] at hbd; rcases hbd with h | h | ⟨h, h'⟩ | h <;> first | omega | exact HPOS.out ⟨h, h'⟩ | cases h)] at hput
          injection hput with e1 e2
          subst e2
          have HE := Lib.hid e1
          have hd0 := dAt0_range l (j - 1) (by omega) hok
          have hx0 := getD_i64x HU.out 0
          have hnum := numb_eq l
          rw [HFF.out] at hnum
          have hut := Lib.hid (tail_u64 l (j - 1) hok)
          have htl : Hid (((dsz l (j - 1)).drop 1).length = j - 2) := Lib.hid (by rw [List.length_drop, dsz_len]; omega)
          have hblr : bb < wr.heap.size := Nat.lt_of_lt_of_le hbl (on HB1.out hb).size
          have hc4d : wr.drew.cell? ⟨bb, oo, none⟩ = some (.int .i64 (l.getD 0 0)) := ((on HB1.out hb).cell (p := ⟨bb, oo, none⟩) hbl).trans (HC.out 0 (by omega))
          have hh2 := head_len 3 (codeDe l) (j : Int)
          unfold I64x at hx0
          have hab : 0 ≤ absI (dAt l 0) := by unfold absI; split <;> omega
          obtain ⟨hd01, hd02⟩ := hd0
          have HD01 := Lib.hid hd01; have HX0 := Lib.hid hx0; have HBr := Lib.hid hb
          have HSr := Lib.hid ((Ri.of_own ho).restIf (i := 1) (by omega) hcg.1)
          have hc4 := hc4d
          clear hin hok hb ho e1 hd01 hx0 hc4
          generalize absI (dAt l 0) = u at *
          generalize dAt l 0 = d0 at *
          generalize l.getD 0 0 = x at *
          cases hsm : sameD l (j - 1)
          · rw [show tailDe l = (dsz l (j - 1)).drop 1 from by unfold tailDe; rw [HN.out, hsm]; rfl, show codeDe l = wCode (widthDe l) from by unfold codeDe; rw [HN.out, hsm]; rfl, show widthDe l = wClosest (max 2 (mostBits ((dsz l (j - 1)).drop 1) : Int)) from by unfold widthDe; rw [HN.out, hsm]; rfl, HN.out] at HE
            rw [show codeDe l = wCode (widthDe l) from by unfold codeDe; rw [HN.out, hsm]; rfl, show widthDe l = wClosest (max 2 (mostBits ((dsz l (j - 1)).drop 1) : Int)) from by unfold widthDe; rw [HN.out, hsm]; rfl] at hh2
            have hj3 : 3 ≤ j := by
              rcases Nat.lt_or_ge j 3 with h | h
              · obtain rfl : j = 2 := by omega
                have : sameD l 1 = true := by simp [sameD]
                rw [this] at hsm
                cases hsm
              · exact h
            have hc1 : ¬ c2 = 1 := by omega
            rw [if_neg (by omega)] at HSr
            obtain ⟨K, hkw, hk2, hk64, hroom⟩ := most2_room _ hut.out
            obtain ⟨P, hpp, hpl0⟩ := packR_ok _ K hk64 (by rw [htl.out]; omega) hroom
            rw [hkw, hpp] at HE
            rw [hkw] at hh2
            have hpl : P.length ≤ 4096 := by
              rw [htl.out] at hpl0
              have : (j - 2) * K ≤ 510 * 64 := Nat.mul_le_mul (by omega) hk64
              omega
            have HPP := Lib.hid hpp; have HKW := Lib.hid hkw
            have hmm := mostBits_le _ hut.out
            obtain ⟨MB, hmb⟩ : ∃ MB, MB = mostBits ((dsz l (j - 1)).drop 1) := ⟨_, rfl⟩
            rw [← hmb] at HKW hmm
            have HMM : Hid (mostBits ((dsz l (j - 1)).drop 1) = MB) := Lib.hid hmb.symm
            clear hpp hkw hroom hpl0 hmb
            cases f
            · obtain rfl : u = d0 := by simpa using hnum
              clear hnum
              go_wp2_with fail
              refine (refMost_any _ _ _ _ _ HSr.out hut.out (by omega)).mono ?_; rintro e w' ⟨rfl, rfl⟩
              rw [HMM.out]
              go_wp2_with fail
              all_goals
                refine (refClosest_any _ _).mono ?_; rintro e w' ⟨rfl, rfl⟩
                rw [show wClosest _ = (K : Int) from by first | exact HKW.out | (have h := HKW.out; rw [Int.max_eq_left (by omega)] at h; exact h) | (have h := HKW.out; rw [Int.max_eq_right (by omega)] at h; exact h)]
                go_wp2_with fail
                refine (refCode_any _ _).mono ?_; rintro e w' ⟨rfl, rfl⟩
                go_wp2_with fail
                go_region_with (
                  first
                  | (go_at_call 90; refine (refHead_any _ _ _ _).mono ?_; rintro e w6 ⟨G6, n6, c6, rfl, hs6, hb6⟩; have hc6 := (hb6.cell (p := ⟨bb, oo, none⟩) (show bb < wr.drew.heap.size from hblr)).trans hc4d; have hn6 := (Ri.of_own hs6.out).len)
                  | (go_at_call 93; refine (refPutInt_any _ _ _ _ _ (Ri.of_own hs6.out) (by omega) _ HX0.out _).mono ?_; rintro e w7 ⟨G7, n7, c7, rfl, hs7, hb7⟩))
                all_goals
                  have HB7 := Lib.hid (on (on (Below.refl wr.heap.size wr).drew hb6) hb7)
                  have HS7 := Lib.hid hs7.out
                  have hn7 := (Ri.of_own hs7.out).len
                  rw [List.length_append] at hn7
                  have hv1 := (vput_len 9 (unsN x s)).2
                  have hv2 := (vput_len 9 (unsN u true)).2
                  clear hs7 hs6 hb6 hb7 hc6 hc4d
                  unfold vput at hn7
                  go_wp2_with fail
                  refine (refPutInt_any _ _ _ _ _ (Ri.of_own HS7.out) (by omega) _ HD01.out true).mono ?_; rintro e w9 ⟨G9, n9, c9, rfl, hs9, hb9⟩
                  have hn9 := (Ri.of_own hs9.out).len
                  rw [List.length_append, List.length_append] at hn9
                  unfold vput at hn9
                  have hs9' := Lib.hid hs9.out; have HB9 := Lib.hid (on HB7.out hb9)
                  have HSr9 := Lib.hid (HSr.out.below HB9.out)
                  have hz79 := hb9.size
                  clear hs9
                  go_wp2_with fail
                  refine (refPack_any _ _ _ _ _ K HSr9.out hut.out (by omega) P 0 HPP.out).mono ?_; rintro e wA ⟨GA, nA, cA, rfl, hsA, hbA⟩
                  have hnA := hsA.1.len
                  have hzA := hbA.size
                  go_wp2_with (at_builtin; refine wpList_u8 _ rfl _ _ rfl w7.heap.size _ _ _ rfl (own_below hs9'.out hbA) _ _ _ P rfl hsA.1 (by omega) (by omega) ?_; intro GB cB wB hown hgr _)
                  have hbB := push0 (on hb9 hbA) (Nat.le_refl _) (own_below hs9'.out hbA) hgr
                  have HSB := Lib.hid (Sl.of_own hown)
                  clear hown hgr
                  go_wp2_with fail
                  go_ret2
                  rw [← HE.out]
                  exact ⟨_, _, _, rfl, HSB.out, on (on (on HB1.out HBr.out) HB7.out) hbB⟩
            · obtain rfl : -u = d0 := by simpa using hnum
              clear hnum
              go_wp2_with fail
              refine (refMost_any _ _ _ _ _ HSr.out hut.out (by omega)).mono ?_; rintro e w' ⟨rfl, rfl⟩
              rw [HMM.out]
              go_wp2_with fail
              all_goals
                refine (refClosest_any _ _).mono ?_; rintro e w' ⟨rfl, rfl⟩
                rw [show wClosest _ = (K : Int) from by first | exact HKW.out | (have h := HKW.out; rw [Int.max_eq_left (by omega)] at h; exact h) | (have h := HKW.out; rw [Int.max_eq_right (by omega)] at h; exact h)]
                go_wp2_with fail
                refine (refCode_any _ _).mono ?_; rintro e w' ⟨rfl, rfl⟩
                go_wp2_with fail
                go_region_with (
                  first
                  | (go_at_call 90; refine (refHead_any _ _ _ _).mono ?_; rintro e w6 ⟨G6, n6, c6, rfl, hs6, hb6⟩; have hc6 := (hb6.cell (p := ⟨bb, oo, none⟩) (show bb < wr.drew.heap.size from hblr)).trans hc4d; have hn6 := (Ri.of_own hs6.out).len)
                  | (go_at_call 93; refine (refPutInt_any _ _ _ _ _ (Ri.of_own hs6.out) (by omega) _ HX0.out _).mono ?_; rintro e w7 ⟨G7, n7, c7, rfl, hs7, hb7⟩))
                all_goals
                  have HB7 := Lib.hid (on (on (Below.refl wr.heap.size wr).drew hb6) hb7)
                  have HS7 := Lib.hid hs7.out
                  have hn7 := (Ri.of_own hs7.out).len
                  rw [List.length_append] at hn7
                  have hv1 := (vput_len 9 (unsN x s)).2
                  have hv2 := (vput_len 9 (unsN (-u) true)).2
                  clear hs7 hs6 hb6 hb7 hc6 hc4d
                  unfold vput at hn7
                  go_wp2_with fail
                  refine (refPutInt_any _ _ _ _ _ (Ri.of_own HS7.out) (by omega) _ HD01.out true).mono ?_; rintro e w9 ⟨G9, n9, c9, rfl, hs9, hb9⟩
                  have hn9 := (Ri.of_own hs9.out).len
                  rw [List.length_append, List.length_append] at hn9
                  unfold vput at hn9
                  have hs9' := Lib.hid hs9.out; have HB9 := Lib.hid (on HB7.out hb9)
                  have HSr9 := Lib.hid (HSr.out.below HB9.out)
                  have hz79 := hb9.size
                  clear hs9
                  go_wp2_with fail
                  refine (refPack_any _ _ _ _ _ K HSr9.out hut.out (by omega) P 0 HPP.out).mono ?_; rintro e wA ⟨GA, nA, cA, rfl, hsA, hbA⟩
                  have hnA := hsA.1.len
                  have hzA := hbA.size
                  go_wp2_with (at_builtin; refine wpList_u8 _ rfl _ _ rfl w7.heap.size _ _ _ rfl (own_below hs9'.out hbA) _ _ _ P rfl hsA.1 (by omega) (by omega) ?_; intro GB cB wB hown hgr _)
                  have hbB := push0 (on hb9 hbA) (Nat.le_refl _) (own_below hs9'.out hbA) hgr
                  have HSB := Lib.hid (Sl.of_own hown)
                  clear hown hgr
                  go_wp2_with fail
                  go_ret2
                  rw [← HE.out]
                  exact ⟨_, _, _, rfl, HSB.out, on (on (on HB1.out HBr.out) HB7.out) hbB⟩
          · rw [show tailDe l = [] from by unfold tailDe; rw [HN.out, hsm]; rfl, show widthDe l = 0 from by unfold widthDe; rw [HN.out, hsm]; rfl, show codeDe l = 0 from by unfold codeDe; rw [HN.out, hsm]; rfl, HN.out] at HE
            rw [show codeDe l = 0 from by unfold codeDe; rw [HN.out, hsm]; rfl] at hh2
            rw [show (packR [] 0).1 = [] from rfl] at HE
            cases f
            · obtain rfl : u = d0 := by simpa using hnum
              clear hnum
              go_wp2_with fail
              go_region_with (
                first
                | (go_at_call 90; refine (refHead_any _ _ _ _).mono ?_; rintro e w6 ⟨G6, n6, c6, rfl, hs6, hb6⟩; have hc6 := (hb6.cell (p := ⟨bb, oo, none⟩) (show bb < wr.drew.heap.size from hblr)).trans hc4d; have hn6 := (Ri.of_own hs6.out).len)
                | (go_at_call 93; refine (refPutInt_any _ _ _ _ _ (Ri.of_own hs6.out) (by omega) _ HX0.out _).mono ?_; rintro e w7 ⟨G7, n7, c7, rfl, hs7, hb7⟩))
              all_goals
                have HB7 := Lib.hid (on (on (Below.refl wr.heap.size wr).drew hb6) hb7)
                have HS7 := Lib.hid hs7.out
                have hn7 := (Ri.of_own hs7.out).len
                rw [List.length_append] at hn7
                have hv1 := (vput_len 9 (unsN x s)).2
                have hv2 := (vput_len 9 (unsN u true)).2
                clear hs7 hs6 hb6 hb7 hc6 hc4d
                unfold vput at hn7
                go_wp2_with fail
                refine (refPutInt_any _ _ _ _ _ (Ri.of_own HS7.out) (by omega) _ HD01.out true).mono ?_; rintro e w9 ⟨G9, n9, c9, rfl, hs9, hb9⟩
                have hn9 := (Ri.of_own hs9.out).len
                rw [List.length_append, List.length_append] at hn9
                unfold vput at hn9
                go_wp2_with fail
                go_ret2
                rw [← HE.out]
                exact ⟨_, _, _, rfl, (by rw [List.append_nil]; exact Sl.of_own hs9.out), on (on (on HB1.out HBr.out) HB7.out) hb9⟩
            · obtain rfl : -u = d0 := by simpa using hnum
              clear hnum
              go_wp2_with fail
              go_region_with (
                first
                | (go_at_call 90; refine (refHead_any _ _ _ _).mono ?_; rintro e w6 ⟨G6, n6, c6, rfl, hs6, hb6⟩; have hc6 := (hb6.cell (p := ⟨bb, oo, none⟩) (show bb < wr.drew.heap.size from hblr)).trans hc4d; have hn6 := (Ri.of_own hs6.out).len)
                | (go_at_call 93; refine (refPutInt_any _ _ _ _ _ (Ri.of_own hs6.out) (by omega) _ HX0.out _).mono ?_; rintro e w7 ⟨G7, n7, c7, rfl, hs7, hb7⟩))
              all_goals
                have HB7 := Lib.hid (on (on (Below.refl wr.heap.size wr).drew hb6) hb7)
                have HS7 := Lib.hid hs7.out
                have hn7 := (Ri.of_own hs7.out).len
                rw [List.length_append] at hn7
                have hv1 := (vput_len 9 (unsN x s)).2
                have hv2 := (vput_len 9 (unsN (-u) true)).2
                clear hs7 hs6 hb6 hb7 hc6 hc4d
                unfold vput at hn7
                go_wp2_with fail
                refine (refPutInt_any _ _ _ _ _ (Ri.of_own HS7.out) (by omega) _ HD01.out true).mono ?_; rintro e w9 ⟨G9, n9, c9, rfl, hs9, hb9⟩
                have hn9 := (Ri.of_own hs9.out).len
                rw [List.length_append, List.length_append] at hn9
                unfold vput at hn9
                go_wp2_with fail
                go_ret2
                rw [← HE.out]
                exact ⟨_, _, _, rfl, (by rw [List.append_nil]; exact Sl.of_own hs9.out), on (on (on HB1.out HBr.out) HB7.out) hb9⟩
  · obtain ⟨rfl, rfl⟩ := putDe_bad hl (by rw [badDe]; exact .inr (.inr (.inl ⟨hs, hneg⟩)))
    subst hs
    clear hl hneg
    go_enter Tryz.func61, Tryz.ntmps61
    go_wp2_with fail
    refine (refPlain8_any _ _ _ _ l HR.out HU.out (by omega) false pu 1 HP.out).mono ?_; rintro e w1 ⟨G, n1, c1, rfl, hs1, hb1⟩
    go_wp2_with fail
    go_ret2
    exact ⟨none, 0, 0, rfl, Sl.nil _ _, hb1⟩
end Go.Proofs.YtmejoococajikaaGreat

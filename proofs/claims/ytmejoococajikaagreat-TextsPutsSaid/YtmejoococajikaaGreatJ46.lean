/- Joined texts: GlRefRun, GlRefPut, TxLr. Each has its own head line. No condition beyond those that its theorems state. -/
import Derived.Test.YtmejoococajikaaGreatJ37
import Derived.Test.YtmejoococajikaaGreatJ14
import Derived.Test.YtmejoococajikaaGreatJ45
import Derived.Test.YtmejoococajikaaGreatJ31
import Derived.Test.YtmejoococajikaaGreatJ41
set_option linter.unusedVariables false

/- pilasterref11.Run. -/
namespace Go.Proofs.YtmejoococajikaaGreat
open Go.RowKit

set_option maxRecDepth 100000 in
set_option maxHeartbeats 400000 in
theorem shorter_any (w : World) (A : Option Addr) (n c : Nat) (a : List Int) (ha : Sl w .u8 A n c a) (B : Option Addr) (m d : Nat) (b : List Int) (hb : Sl w .u8 B m d b) (e : Int) :
    Calls Tryz.prog 59 #[.slice A n c, .slice B m d, .int .i64 e] w fun en w' => (∃ G k g, en = .returned (.slice G k g) ∧ Hid (Sl w .u8 G k g (shortR a (b, e)))) ∧ w = w' := by
  have hn := ha.1.len; have hm := hb.1.len
  have HA := Lib.hid ha; have HB := Lib.hid hb
  clear ha hb
  by_cases he : e = 0
  · subst he
    by_cases h0 : n = 0
    · subst h0
      have h : shortR a (b, 0) = b := by unfold shortR; rw [if_pos ⟨rfl, .inl (List.eq_nil_of_length_eq_zero hn)⟩]
      rw [h]
      clear h hn hm
      go_enter Tryz.func59, Tryz.ntmps59
      go_wp2_with fail
      go_ret
      exact ⟨⟨_, _, _, rfl, HB⟩, rfl⟩
    · by_cases h1 : m < n
      · have h : shortR a (b, 0) = b := by unfold shortR; rw [if_pos ⟨rfl, .inr (by dsimp only; omega)⟩]
        rw [h]
        clear h hn hm
        go_enter Tryz.func59, Tryz.ntmps59
        go_wp2_with fail
        go_ret
        exact ⟨⟨_, _, _, rfl, HB⟩, rfl⟩
      · have h : shortR a (b, 0) = a := by
          unfold shortR
          rw [if_neg]
          rintro ⟨_, h | h⟩
          · rw [h] at hn; simp at hn; omega
          · dsimp only at h; omega
        rw [h]
        clear h hn hm
        go_enter Tryz.func59, Tryz.ntmps59
        go_wp2_with fail
        go_ret
        exact ⟨⟨_, _, _, rfl, HA⟩, rfl⟩
  · have h : shortR a (b, e) = a := by unfold shortR; rw [if_neg (fun h => he h.1)]
    rw [h]
    have heb : (e == 0) = false := by simp [he]
    clear h hn hm
    go_enter Tryz.func59, Tryz.ntmps59
    go_wp2_with fail
    go_ret
    exact ⟨⟨_, _, _, rfl, HA⟩, rfl⟩

set_option maxRecDepth 100000 in
set_option maxHeartbeats 1000000 in
theorem refRun_any (w : World) (A : Option Addr) (n cap : Nat) (l : List Int) (hr : Ri w .i64 A n l) (hu : I64 l) (hcap : n ≤ cap) (hn : n ≤ 100000) (s : Bool) (r : List Int) (er : Int) (hl : runR l s = (r, er)) :
    Calls Tryz.prog 41 #[.slice A n cap, .bool s] w (BytesErr w r er) := by
  have HR := Lib.hid hr; have HU := Lib.hid hu; have HN := Lib.hid hr.len; have HL := Lib.hid hl
  obtain ⟨u8, e8, hpl, hcase⟩ := plain_err l s
  have HP8 := Lib.hid hpl
  have hle := sameL_le l
  rw [HN.out] at hle
  clear hr hu hl hpl
  go_enter Tryz.func41, Tryz.ntmps41
  go_upto_region 2 with fail
  refine (refPlain8_any _ _ _ _ l HR.out HU.out (by omega) s u8 e8 HP8.out).mono ?_; rintro e w0 ⟨G8, n8, c8, rfl, hs8, hb8⟩
  have HB8 := Lib.hid hb8
  clear hs8 hb8
  go_upto_region 2 with fail
  go_cut [30] (fun v wx => v = .bool (badRun l s) ∧ wx = w0)
  case first =>
    have hpre : badRun l s = (decide (n < 1) || decide (512 < n) || (!s && l.any fun y => decide (y < 0))) := by unfold badRun; rw [HN.out]
    rcases hcase with ⟨rfl, hany⟩ | ⟨rfl, hany⟩
    · rw [hany, Bool.or_false] at hpre
      clear hany
      by_cases h1 : n < 1
      · have HP : Hid (badRun l s = true) := Lib.hid (by rw [hpre, decide_eq_true h1]; rfl)
        clear hpre
        go_wp2_with fail
        go_meet
        exact ⟨by rw [HP.out], rfl⟩
      · by_cases h2 : 512 < n
        · have HP : Hid (badRun l s = true) := Lib.hid (by rw [hpre, decide_eq_true h2]; simp)
          clear hpre
          go_wp2_with fail
          go_meet
          exact ⟨by rw [HP.out, decide_eq_false (show ¬ (n : Int) < 1 by omega), decide_eq_true (show 512 < (n : Int) by omega)]; rfl, rfl⟩
        · have HP : Hid (badRun l s = false) := Lib.hid (by rw [hpre, decide_eq_false h1, decide_eq_false h2]; rfl)
          clear hpre
          go_wp2_with fail
          go_meet
          exact ⟨by rw [HP.out, decide_eq_false (show ¬ (n : Int) < 1 by omega), decide_eq_false (show ¬ 512 < (n : Int) by omega)]; rfl, rfl⟩
    · have HP : Hid (badRun l s = true) := Lib.hid (by rw [hpre, hany]; simp)
      clear hpre hany
      go_wp2_with fail
      go_meet
      exact ⟨by rw [HP.out], rfl⟩
  case rest =>
    obtain ⟨rfl, hw⟩ := hcut
    obtain ⟨w0, hw0⟩ : ∃ w0, w0 = wc := ⟨_, rfl⟩
    subst hw0
    subst hw
    clear hcase
    cases hpre : badRun l s
    · have hfa : 1 ≤ n ∧ n ≤ 512 := by
        unfold badRun at hpre
        simp only [Bool.or_eq_false_iff, decide_eq_false_iff_not, HN.out] at hpre
        omega
      have hL : Hid (runK l s 34 = r ∧ (0 : Int) = er) := by
        have h := HL.out
        unfold runR at h
        rw [hpre, if_neg (by simp)] at h
        injection h with h1 h2
        exact ⟨h1, h2⟩
      clear HL hpre
      go_upto_if 36 with fail
      have hba := (Below.refl w0.heap.size w0).alloc (Nat.le_refl _) (.cells #[] 5)
      refine (refSameN_any _ _ _ _ l ((HR.out.below HB8.out).below hba) (by omega)).mono ?_; rintro e w1 ⟨rfl, hb1⟩
      have HB1 := Lib.hid (on hba hb1)
      clear hba hb1
      go_upto_if 36 with fail
      have hT : runK l s 1 = shortR [] (timesR l s) := rfl
      unfold timesR at hT
      rw [HN.out] at hT
      obtain ⟨m, hm⟩ : ∃ m, m = sameL l := ⟨_, rfl⟩
      rw [← hm] at hle hT ⊢
      have hemp : Sl w1 .u8 (some ⟨w0.heap.size, 0, none⟩) 0 0 [] := ⟨⟨rfl, fun h => absurd h (by omega)⟩, Nat.le_refl _, by omega⟩
      have HEMP := Lib.hid hemp
      clear hm hemp
      have hz0 := HB1.out.size
      obtain ⟨w1, hw1⟩ : ∃ w1', w1' = w1 := ⟨_, rfl⟩
      subst hw1
      go_cut [8] (fun v wx => ∃ (G : Option Addr) (k c : Nat), v = .slice G k c ∧ Hid (Sl wx .u8 G k c (runK l s 1)) ∧ Hid (Below w0.heap.size w0 wx))
      case first =>
        by_cases hmn : m = n
        · subst hmn
          rw [if_pos rfl] at hT
          obtain ⟨bb, oo, hA, hbl, hcells⟩ := HR.out.all (by omega)
          subst hA
          have hbl0 := Nat.lt_of_lt_of_le hbl HB8.out.size
          have g0 := (HB1.out.cell (p := ⟨bb, oo, none⟩) hbl0).trans ((HB8.out.cell (p := ⟨bb, oo, none⟩) hbl).trans (hcells 0 (by omega)))
          have hx := getD_i64x HU.out 0
          generalize l.getD 0 0 = x at g0 hT hx
          obtain ⟨p, e, hp⟩ : ∃ p e, putR x m s = (p, e) := ⟨_, _, rfl⟩
          have HPE := Lib.hid hp
          rw [hp] at hT
          have HTT := Lib.hid hT
          clear hcells hp hT
          unfold I64x at hx
          go_wp2_with fail
          refine (refPut_any x m s _ hx.1 hx.2 p e HPE.out).mono ?_; rintro e2 w2 ⟨G2, n2, c2, rfl, hs2, hb2⟩
          have HB2 := Lib.hid (on HB1.out hb2); have HS2 := Lib.hid hs2; have HE2 := Lib.hid (HEMP.out.below hb2)
          clear hs2 hb2
          go_wp2_with fail
          refine (shorter_any _ _ _ _ _ HE2.out _ _ _ _ HS2.out e).mono ?_; rintro e2 w3 ⟨⟨G3, n3, c3, rfl, hs3⟩, rfl⟩
          rw [← HTT.out] at hs3
          go_wp2_with fail
          go_meet
          exact ⟨_, _, _, rfl, hs3, HB2⟩
        · rw [if_neg hmn] at hT
          have hT2 : runK l s 1 = [] := by rw [hT]; rfl
          have HTT := Lib.hid hT2
          have hmb : ((m : Int) == (n : Int)) = false := by simp; omega
          clear hT hT2
          go_wp2_with fail
          go_meet
          refine ⟨_, _, _, rfl, ?_, HB1⟩
          rw [HTT.out]
          exact HEMP
      case rest =>
        obtain ⟨G1, n1, c1, rfl, hs1, hb1⟩ := hcut
        obtain ⟨w2, hw2⟩ : ∃ w2, w2 = wc := ⟨_, rfl⟩
        subst hw2
        clear HEMP hT hle HB1
        obtain ⟨p, e, hp⟩ : ∃ p e, putD l s = (p, e) := ⟨_, _, rfl⟩
        have h2 : runK l s 2 = shortR (runK l s 1) (p, e) := by rw [← hp]; rfl
        have HPE := Lib.hid hp; have H2 := Lib.hid h2
        obtain ⟨p9, e9, hp9⟩ : ∃ p e, putDe l s = (p, e) := ⟨_, _, rfl⟩
        have h3 : runK l s 3 = shortR (runK l s 2) (p9, e9) := by rw [← hp9]; rfl
        have HPE9 := Lib.hid hp9; have H3 := Lib.hid h3
        clear hp h2 hp9 h3
        have HR2 := Lib.hid ((HR.out.below HB8.out).below hb1.out)
        go_wp2_with fail
        refine (refDPut_any _ _ _ _ l HR2.out HU.out (by omega) s p e HPE.out).mono ?_; rintro e2 w3 ⟨G2, n2, c2, rfl, hs2, hb2⟩
        have HB3 := Lib.hid (on hb1.out hb2); have HS2 := Lib.hid hs2; have HE2 := Lib.hid (hs1.out.below hb2); have HR3 := Lib.hid (HR2.out.below hb2)
        clear hs2 hb2
        go_wp2_with fail
        refine (shorter_any _ _ _ _ _ HE2.out _ _ _ _ HS2.out e).mono ?_; rintro e2 w4 ⟨⟨G3, n3, c3, rfl, hs3⟩, rfl⟩
        rw [← H2.out] at hs3
        clear HE2 HS2
        go_wp2_with fail
        refine (refDePut_any _ _ _ _ l HR3.out HU.out hcap (by omega) s p9 e9 HPE9.out).mono ?_; rintro e2 w4 ⟨G4, n4, c4, rfl, hs4, hb4⟩
        have HB4 := Lib.hid (on HB3.out hb4); have HS4 := Lib.hid hs4; have HE4 := Lib.hid (hs3.out.below hb4); have HR4 := Lib.hid (HR3.out.below hb4)
        clear hs4 hb4 hs3
        go_wp2_with fail
        refine (shorter_any _ _ _ _ _ HE4.out _ _ _ _ HS4.out e9).mono ?_; rintro e2 w5 ⟨⟨G5, n5, c5, rfl, hs5⟩, rfl⟩
        rw [← H3.out] at hs5
        clear HE4 HS4
        go_wp2_with fail
        go_loopw [8, 12] (fun v i wr => ∃ j : Nat, j ≤ 31 ∧ i = .int .i64 j ∧ (∃ (G : Option Addr) (k c : Nat), v = .slice G k c ∧ Hid (Sl wr .u8 G k c (runK l s (3 + j)))) ∧ Hid (Below w4.heap.size w4 wr)) (fun _ i _ => 31 - (intOf i).toNat)
        case atStart => exact ⟨0, by omega, rfl, ⟨_, _, _, rfl, hs5⟩, Below.refl _ _⟩
        case round =>
          obtain ⟨j, hj, rfl, ⟨G, k, c, rfl, hs⟩, hb⟩ := hrel
          by_cases hlt : j < 31
          · obtain ⟨W, hW⟩ : ∃ W, W = wOf (j : Int) := ⟨_, rfl⟩
            have hWr : I64x W := by
              rw [hW]
              unfold wOf I64x
              repeat' split
              all_goals omega
            obtain ⟨q, eq, hq⟩ : ∃ q e, putPa l W s = (q, e) := ⟨_, _, rfl⟩
            have hk : runK l s (3 + (j + 1)) = shortR (runK l s (3 + j)) (q, eq) := by
              show shortR (runK l s (3 + j)) (candR l s (3 + j)) = _
              unfold candR
              rw [if_neg (by omega), if_neg (by omega), if_neg (by omega), show 3 + j - 3 = j from by omega, ← hW, hq]
            have HQ := Lib.hid hq; have HK := Lib.hid hk
            have HOF := Lib.hid (refOf_any (j : Int) wr (by omega) (by omega))
            rw [← hW] at HOF
            clear hq hk hW
            go_wp2_with fail
            refine HOF.out.mono ?_; rintro e2 w6 ⟨rfl, rfl⟩
            go_wp2_with fail
            refine (refPPut_any _ _ _ _ l (HR4.out.below hb.out) HU.out (by omega) W hWr s q eq HQ.out).mono ?_; rintro e2 w7 ⟨G7, n7, c7, rfl, hs7, hb7⟩
            have HB7 := Lib.hid (on hb.out hb7); have HS7 := Lib.hid hs7; have HE7 := Lib.hid (hs.out.below hb7)
            clear hs7 hb7
            go_wp2_with fail
            refine (shorter_any _ _ _ _ _ HE7.out _ _ _ _ HS7.out eq).mono ?_; rintro e2 w8 ⟨⟨G8, n8, c8, rfl, hs8⟩, rfl⟩
            rw [← HK.out] at hs8
            go_wp2_with fail
            go_roundw
            case rel => exact ⟨j + 1, by omega, by go_num, ⟨_, _, _, rfl, hs8⟩, HB7⟩
            case measure => simp [intOf] <;> omega
          · obtain rfl : j = 31 := by omega
            obtain ⟨rfl, rfl⟩ := hL.out
            go_wp2_with fail
            go_ret2
            exact ⟨_, _, _, rfl, hs.out, on (on HB8.out HB4.out) hb.out⟩
    · have hL : Hid ([] = r ∧ (1 : Int) = er) := by
        have h := HL.out
        unfold runR at h
        rw [hpre, if_pos rfl] at h
        injection h with h1 h2
        exact ⟨h1, h2⟩
      obtain ⟨rfl, rfl⟩ := hL.out
      go_wp2_with fail
      go_ret2
      exact ⟨none, 0, 0, rfl, Sl.nil _ _, HB8.out⟩
end Go.Proofs.YtmejoococajikaaGreat

/- pilasterref11.Put. -/
namespace Go.Proofs.YtmejoococajikaaGreat
open Go.RowKit

set_option maxRecDepth 100000 in
set_option maxHeartbeats 2000000 in
theorem refPutGl_own (w : World) (A : Option Addr) (n cap : Nat) (l : List Int) (hr : Ri w .i64 A n l) (hu : I64 l) (hc : n ≤ cap) (hm : cap ≤ 9223372036854775807) (hn : n ≤ 1000000) (s : Bool) (r : List Int) (er : Int) (hp : putGl l s = (r, er)) :
    Calls Tryz.prog 24 #[.slice A n cap, .bool s] w (BytesOwn w r er) := by
  have HR := Lib.hid hr; have HU := Lib.hid hu; have HN := Lib.hid hr.len
  clear hr hu
  unfold putGl at hp
  rw [HN.out] at hp
  by_cases hbig : 4096 < n
  · rw [if_pos hbig] at hp
    injection hp with e1 e2
    subst e1 e2
    go_enter Tryz.func24, Tryz.ntmps24
    go_wp2_with fail
    go_ret2
    exact ⟨none, 0, 0, rfl, own_nilB _ _ _ _, Below.refl _ _⟩
  · rw [if_neg hbig] at hp
    have HP := Lib.hid hp
    clear hp
    go_enter Tryz.func24, Tryz.ntmps24
    go_wp2_with fail
    go_loopw [0, 6] (fun b v wr => Hid (PutGW w wr n s (r, er) b v)) (fun b _ _ => lenS b)
    case atStart => exact ⟨A, n, cap, l, [], n + 1, rfl, HR.out, HU.out, hc, hm, Nat.le_refl _, own_empty w _ 1, (Below.refl _ _).alloc (Nat.le_refl _) _, HP.out, Nat.lt_succ_self _, by simp⟩
    case round =>
      obtain ⟨A1, n1, c1, l1, o, f, rfl, hr1, hu1, hc1, hcm1, hn1, ho, hb, hd, hf, hol⟩ := hrel.out
      obtain ⟨G, gc, rfl⟩ := own_form ho
      have hgc := own_cap ho
      have HR1 := Lib.hid hr1; have HU1 := Lib.hid hu1; have HO := Lib.hid ho; have HB := Lib.hid hb; have HL1 := Lib.hid hr1.len
      obtain ⟨f, rfl⟩ : ∃ g, f = g + 1 := ⟨f - 1, by omega⟩
      simp only [putF] at hd
      rw [HL1.out] at hd
      clear hrel hr1 hu1 ho hb
      by_cases h0 : n1 = 0
      · subst h0
        rw [if_pos rfl] at hd
        injection hd with e1 e2
        subst e1 e2
        go_wp2_with fail
        go_ret2
        exact ⟨_, _, _, rfl, HO.out, HB.out⟩
      · rw [if_neg h0] at hd
        obtain ⟨b, of, hA, hbl, _⟩ := HR1.out.all (by omega)
        subst hA
        have HCALL := Lib.hid (refCut_any wr _ n1 c1 l1 (HR1.out.below HB.out) hc1 (by omega))
        have hcr := cutL_range l1 (by rw [HL1.out]; omega)
        rw [HL1.out] at hcr
        obtain ⟨K, hK⟩ : ∃ K, K = cutL l1 := ⟨_, rfl⟩
        rw [← hK] at hd HCALL hcr
        have hrc := run_cases (l1.take K) s (HU1.out.take K)
        rw [List.length_take, HL1.out, Nat.min_eq_left (by omega)] at hrc
        obtain ⟨q, e, hq⟩ : ∃ q e, runR (l1.take K) s = (q, e) := ⟨_, _, rfl⟩
        have HQ := Lib.hid hq
        rw [hq] at hd hrc
        clear hq hK
        go_wp2_with fail
        refine HCALL.out.mono ?_; rintro e1 w1 ⟨rfl, hb1⟩
        have HB1 := Lib.hid (on HB.out hb1)
        have HO1 := Lib.hid (own_below HO.out hb1)
        clear hb1
        go_wp2_with fail
        refine (refRun_any _ _ K c1 (l1.take K) ((HR1.out.first (by omega)).below HB1.out) (HU1.out.take K) (by omega) (by omega) s q e HQ.out).mono ?_; rintro e1 w2 ⟨G2, n2, c2, rfl, hs2, hb2⟩
        have HB2 := Lib.hid (on HB1.out hb2)
        have HO2 := Lib.hid (own_below HO1.out hb2)
        have HS2 := Lib.hid hs2
        have hn2 := hs2.1.len
        have hz2 := HB2.out.size
        clear hb2 hs2
        rcases hrc with h | ⟨q', h, hql⟩
        · injection h with h1 h2
          subst h1 h2
          rw [if_pos (by decide)] at hd
          injection hd with e1 e2
          subst e1 e2
          go_wp2_with fail
          go_ret2
          exact ⟨none, 0, 0, rfl, own_nilB _ _ _ _, HB2.out⟩
        · injection h with h1 h2
          subst h1 h2
          rw [if_neg (by simp)] at hd
          have HD := Lib.hid hd
          clear hd
          go_wp2_with (at_builtin; refine wpList_u8 _ rfl _ _ rfl w.heap.size _ o.length o rfl HO2.out _ n2 c2 q rfl HS2.out.1 (by omega) hz2 ?_; intro G3 c3 w3 hown hgr hcc)
          have HOWN := Lib.hid hown; have HB3 := Lib.hid (push0 HB2.out (Nat.le_refl _) HO2.out hgr)
          clear hown hgr
          all_goals
            go_wp2_with fail
          all_goals
            refine ⟨⟨_, _, _, l1.drop K, o ++ q, f, rfl, ?_, HU1.out.drop K, by omega, by omega, by omega, ?_, HB3.out, HD.out, by omega, ?_⟩, ?_⟩
            · first
                | exact HR1.out.rest (by omega) (fun _ => rfl)
                | exact HR1.out.restIf (by omega) hc1
            · rw [List.length_append, hn2]
              exact HOWN.out
            · rw [List.length_append, hn2]
              omega
            · show n1 - K < n1
              omega
theorem refPutGl_any (w : World) (A : Option Addr) (n cap : Nat) (l : List Int) (hr : Ri w .i64 A n l) (hu : I64 l) (hc : n ≤ cap) (hm : cap ≤ 9223372036854775807) (hn : n ≤ 1000000) (s : Bool) (r : List Int) (er : Int) (hp : putGl l s = (r, er)) :
    Calls Tryz.prog 24 #[.slice A n cap, .bool s] w (BytesErr w r er) :=
  (refPutGl_own w A n cap l hr hu hc hm hn s r er hp).mono fun _ _ h => h.err
end Go.Proofs.YtmejoococajikaaGreat

/- Texts one behind the other (the reference's all). -/
namespace Go.Proofs.YtmejoococajikaaGreat
open Go.RowKit

set_option maxRecDepth 100000 in
set_option maxHeartbeats 4000000 in
theorem all_any (w : World) (A : Option Addr) (n c : Nat) (l : List ByteArray) (hr : Rs w A n l) (hn : n ≤ 1000) (hs : ∀ s ∈ l, s.size ≤ 1000) (r : List Int) (er : Int) (hp : putGl (lensT l) false = (r, er)) :
    Calls Tryz.prog 22 #[.slice A n c] w fun e w' => ∃ G m c' G2 m2 c2, e = .returned (.tuple #[.slice G m c', .slice G2 m2 c2]) ∧ Sl w' .u8 G m c' (catT l) ∧ Sl w' .u8 G2 m2 c2 r ∧ Below w.heap.size w w' := by
  obtain ⟨i0, hi, hz0, hz1, hz2⟩ := info_parts info_u8
  have HL := Lib.hid hr.len
  have HALL := Lib.hid (fun h0 => hr.all h0)
  have HP := Lib.hid hp
  have HI := Lib.hid (lensT_i64 fun s h => Nat.le_trans (hs s h) (by omega))
  have HS := Lib.hid hs
  obtain ⟨wa, hwa⟩ : ∃ wa, wa = (w.alloc (.cells #[] 5)).alloc (.cells #[] 3) := ⟨_, rfl⟩
  have HB1 : Hid (Below w.heap.size w wa) := Lib.hid (hwa ▸ ((Below.refl w.heap.size w).alloc (Nat.le_refl _) _).alloc (by simp) _)
  have HO1 : Hid (wa.ownsRow w.heap.size 5 1 (.slice (some ⟨w.heap.size, 0, none⟩) 0 0) 0 []) := Lib.hid (hwa ▸ (own_empty w 5 1).alloc _)
  have HO2 : Hid (wa.ownsRow w.heap.size 3 1 (.slice (some ⟨w.heap.size + 1, 0, none⟩) 0 0) 0 []) := Lib.hid (hwa ▸ (by have h := own_empty (w.alloc (.cells #[] 5)) 3 1; rw [World.size_alloc] at h; exact own_lowerT h (by omega)))
  clear hr hp hs
  go_enter Tryz.func22, Tryz.ntmps22
  go_wp2_with fail
  rw [← hwa]
  clear hwa
  go_loopg [4, 5, 6] n (fun gg v4 v5 v wr => ∃ (j k : Nat), v = .int .i64 j ∧ j ≤ n ∧ n - j ≤ gg ∧ k ≤ j * 1000 ∧ Hid (wr.ownsRow w.heap.size 5 1 v4 k ((catT (l.take j)).map (Value.int .u8))) ∧ Hid (wr.ownsRow w.heap.size 3 1 v5 j (((lensT l).take j).map (Value.int .i64))) ∧ Hid (Below w.heap.size w wr))
  case atStart => exact ⟨0, 0, rfl, by omega, by omega, by omega, HO1, by rw [List.take_zero]; exact HO2, HB1⟩
  case round =>
    obtain ⟨j, k, rfl, hjN, hgg, hkj, ho1, ho2, hb⟩ := hrel
    obtain ⟨G1, cG1, hG1⟩ := own_form ho1.out
    obtain ⟨G2, cG2, hG2⟩ := own_form ho2.out
    subst hG1 hG2
    have hz := hb.out.size
    by_cases hlt : j < n
    · have t1 : decide (j < n) = true := decide_eq_true hlt
      obtain ⟨b, o, rfl, hbb, hc⟩ := HALL.out (by omega)
      have hj : j < l.length := by rw [HL.out]; exact hlt
      have hcj := hc j hj
      have HKC : Hid (∀ v : World, Below w.heap.size w v → v.cell? ⟨b, o + j, none⟩ = some (.string l[j])) := Lib.hid fun v hv => (hv.cell (p := ⟨b, o + j, none⟩) hbb).trans hcj
      have k1 := HKC.out wr hb.out
      have HST := Lib.hid (lensT_step hj)
      have HCT := Lib.hid (catT_step hj)
      have hxs := HS.out _ (List.getElem_mem hj)
      clear hcj hc
      generalize l[j] = x at k1 HST HCT hxs HKC
      go_wp2_with (first
        | (at_builtin; refine Lib.wpList_append_own_string _ rfl (.tmp 17) (.tmp 21) 38 9 rfl w.heap.size 5 i0 Tryz.underlying38 Tryz.underlying9 hi hz0 hz1 hz2 _ k _ rfl ho1.out x rfl (by unfold maxLen; omega) (by omega) (by omega) ?_; intro v6 w3 ho3 hg3 _
           have HB3 := Lib.hid (push0 hb.out (Nat.le_refl _) ho1.out hg3)
           have k3 := HKC.out w3 HB3.out
           have HO23 := Lib.hid (own_twoZ ho2.out ho1.out (by decide) hg3)
           have HO3 := Lib.hid ho3
           have hz3 := HB3.out.size
           have HOB := Lib.hid (Rd.one w3 (.int .i64 (x.size : Int)) 3)
           have HO24 := Lib.hid (own_below HO23.out ((Below.refl w3.heap.size w3).alloc (Nat.le_refl _) (.cells #[.int .i64 (x.size : Int)] 3))))
        | (at_builtin; refine wpList_i64 _ rfl (.tmp 23) (.tmp 29) rfl w.heap.size _ j _ rfl HO24.out _ 1 1 [(x.size : Int)] rfl HOB.out (by omega) (by simp; omega) ?_; intro G4 c4 w4 ho4 hg4 _
           have HB4 := Lib.hid (push_ HB3.out (Nat.le_refl _) HO23.out hg4)
           have HO34 := Lib.hid (own_twoT HO3.out HO23.out (by decide) hg4)))
      have hx1 := ho4
      rw [← HST.out] at hx1
      have HX1 := Lib.hid hx1
      have hx2 := HO34.out
      rw [strCells_bytes, ← List.map_append, ← HCT.out] at hx2
      have HX2 := Lib.hid hx2
      clear ho3 hg3 ho4 hg4 hx1 hx2
      go_wp2_with fail
      go_roundg (n - (j + 1))
      case measure => omega
      case rel => exact ⟨j + 1, k + x.size, by go_num, by omega, by omega, by omega, HX2, HX1, HB4⟩
    · have t1 : decide (j < n) = false := decide_eq_false hlt
      obtain rfl : j = n := by omega
      have hc1 := own_cap ho1.out
      have hc2 := own_cap ho2.out
      have hT : (lensT l).take j = lensT l := List.take_of_length_le (by rw [lensT_len, HL.out]; omega)
      have hTl : l.take j = l := List.take_of_length_le (by rw [HL.out]; omega)
      have hri := Ri.of_own ho2.out
      rw [hT] at hri
      have hrc := Ri.of_own ho1.out
      rw [hTl] at hrc
      have HRI := Lib.hid hri
      have HRC : Hid (Sl wr .u8 G1 k cG1 (catT l)) := Lib.hid ⟨hrc, hc1⟩
      clear hT hTl hri hrc
      go_wp2_with fail
      refine (refPutGl_any wr G2 j cG2 (lensT l) HRI.out HI.out hc2.1 hc2.2 (by omega) false r er HP.out).mono ?_; rintro e w4 ⟨G4, n4, c4, rfl, hr4, hb4⟩
      have HR4 := Lib.hid hr4
      have HR5 := Lib.hid (HRC.out.below hb4)
      have HB4 := Lib.hid (on hb.out hb4)
      clear hr4 hb4
      go_wp2_with fail
      go_ret2
      exact ⟨_, _, _, _, _, _, rfl, HR5.out, HR4.out, HB4.out⟩
end Go.Proofs.YtmejoococajikaaGreat

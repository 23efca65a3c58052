/- Joined texts: RefDTakeA. Each has its own head line. No condition beyond those that its theorems state. -/
import Derived.Test.YtmejoococajikaaGreatJ27
set_option linter.unusedVariables false

/- The reference of delta.Take. -/
namespace Go.Proofs.YtmejoococajikaaGreat
open Go.RowKit

theorem sl_past_own {w w' : World} {A : Option Addr} {n c : Nat} {l : List Int} {B : Nat} {e : TypeId} {g : Nat} {x : Int} (h : Sl w .u8 A n c l) (ho : w.ownsRow B e 1 (.slice (some ⟨g, 0, none⟩) 1 1) 1 ([x].map (Value.int .u64)))
    (hg : w.grownBy w' (Value.slice (some ⟨g, 0, none⟩) 1 1).ownBlock) : Sl w' .u8 A n c l := by
  refine ⟨?_, h.2⟩
  rcases Nat.eq_zero_or_pos n with h0 | h0
  · exact ⟨by simpa using h.1.len, fun h1 => absurd h1 (by omega)⟩
  · refine h.1.grown hg (fun g' b o h1 h2 h3 => ?_)
    have h4 : g = g' := by simpa [Value.ownBlock] using h1
    subst h4 h3
    obtain ⟨b', o', e1, _, hc⟩ := h.1.all h0
    rw [h2] at e1
    injection e1 with e1; injection e1 with e2 e3
    subst e2 e3
    have h5 := hc 0 h0
    rcases ho.2 with ⟨h6, _⟩ | ⟨g2, cap, cur, hv, _, hh, _, _, hs, hp⟩
    · cases h6
    · injection hv with hv1 hv2 hv3
      injection hv1 with hv1; injection hv1 with hv4
      subst hv3 hv4
      rw [cell_of_row w g (o + 0) cur e (0, 0) hh, Nat.add_zero] at h5
      have ho0 : o = 0 := by
        have := (Array.getElem?_eq_some_iff.1 h5).1
        omega
      subst ho0
      have h7 := Ri.of_own ho
      have h8 := (h7.all (by omega))
      obtain ⟨b2, o2, e4, _, hc2⟩ := h8
      injection e4 with e4; injection e4 with e5 e6
      subst e5 e6
      have h9 := hc2 0 (by omega)
      rw [cell_of_row w g (0 + 0) cur e (0, 0) hh, Nat.add_zero, h5] at h9
      cases h9
theorem own_lit1_at {w : World} {k : IntKind} {x : Int} {t : TypeId} {g : Nat} (h : g = w.heap.size) : (w.alloc (.cells #[.int k x] t)).ownsRow w.heap.size t 1 (.slice (some ⟨g, 0, none⟩) 1 1) 1 ([x].map (Value.int k)) := by subst h; exact own_lit1 _ _ _ _

set_option maxRecDepth 100000 in
set_option maxHeartbeats 4000000 in
theorem refDeTake_any (w : World) (A : Option Addr) (n cap : Nat) (b : List Int) (hr : Ri w .u8 A n b) (hu : U8 b) (hc : n ≤ cap) (hm : cap ≤ 9223372036854775807) (hn : n ≤ 100000) (s : Bool) (l r : List Int) (er : Int) (hl : takeDe b s = (l, r, er)) :
    Calls Tryz.prog 73 #[.slice A n cap, .bool s] w (DTakeOutI w l r er) := by
  have HR := Lib.hid hr; have HU := Lib.hid hu
  have hlk := lookR_more b hu
  obtain ⟨k, c, m, r0, e0, h1⟩ : ∃ k c m r0 e0, lookR b = (k, c, m, r0, e0) := ⟨_, _, _, _, _, rfl⟩
  rw [h1] at hlk
  obtain ⟨hu0, he0, hc0, hc1, hm0, hm1⟩ := hlk
  dsimp only at hu0 he0 hc0 hc1 hm0 hm1
  have ht1 := takeI_u8 r0 s hu0; have ht1r := takeI_range r0 s
  obtain ⟨x, r1, e1, h2⟩ : ∃ x r1 e1, takeI r0 s = (x, r1, e1) := ⟨_, _, _, rfl⟩
  rw [h2] at ht1 ht1r
  obtain ⟨hu1, he1⟩ := ht1
  dsimp only at hu1 he1 ht1r
  have ht2 := takeI_u8 r1 true hu1; have ht2r := takeI_range r1 true
  obtain ⟨fi, r2, e2, h3⟩ : ∃ fi r2 e2, takeI r1 true = (fi, r2, e2) := ⟨_, _, _, rfl⟩
  rw [h3] at ht2 ht2r
  obtain ⟨hu2, he2⟩ := ht2
  dsimp only at hu2 he2 ht2r
  have hdr := diffR_range 0 fi
  obtain ⟨sz, fl, ok, h4⟩ : ∃ sz fl ok, diffR 0 fi = (sz, fl, ok) := ⟨_, _, _, rfl⟩
  rw [h4] at hdr
  dsimp only at hdr
  have hul := unpackR_u64 r2 (m - 2) (wOf c); have hum := unpackR_many r2 (m - 2) (wOf c)
  obtain ⟨L, r3, e3, h5⟩ : ∃ L r3 e3, unpackR r2 (m - 2) (wOf c) = (L, r3, e3) := ⟨_, _, _, rfl⟩
  rw [h5] at hul hum
  dsimp only at hul hum
  rw [takeDe_eq h1 h2 h3 h4 h5] at hl
  have H1 := Lib.hid h1; have H2 := Lib.hid h2; have H3 := Lib.hid h3; have H4 := Lib.hid h4; have H5 := Lib.hid h5
  have HU0 := Lib.hid hu0; have HU1 := Lib.hid hu1; have HU2 := Lib.hid hu2; have HUL := Lib.hid hul; have HUM := Lib.hid hum
  have HX := Lib.hid ht1r; have HFI := Lib.hid ht2r
  clear hr hu h1 h2 h3 h4 h5 hu0 hu1 hu2 hul hum ht1r ht2r
  by_cases hbad : e0 ≠ 0 ∨ k ≠ 3 ∨ m < 2
  · rw [if_pos hbad] at hl
    injection hl with q1 hl; injection hl with q2 q3
    subst q1 q2 q3
    have hb3 : e0 = 2 ∨ (e0 = 0 ∧ ¬ k = 3) ∨ (e0 = 0 ∧ k = 3 ∧ m < 2) := by omega
    clear hbad he0 he1 he2
    rcases hb3 with rfl | ⟨rfl, hk⟩ | ⟨rfl, rfl, hm2⟩
    all_goals
      go_enter Tryz.func73, Tryz.ntmps73
      go_wp2_with fail
      refine (refLook_any _ _ _ _ b HR.out HU.out hc hm (by omega) _ c m r0 _ H1.out).mono ?_; rintro e w1 ⟨G1, n1, c1, rfl, hs1, hb1⟩
      go_wp2_with fail
      go_returns
      exact DTakeOutI.bad hb1
  · rw [if_neg hbad] at hl
    obtain ⟨rfl, rfl, hm2⟩ : e0 = 0 ∧ k = 3 ∧ 2 ≤ m := by omega
    clear hbad he0
    obtain ⟨M, rfl⟩ := Int.eq_ofNat_of_zero_le hm0
    rcases he1 with rfl | rfl
    · rw [if_neg (by decide)] at hl
      rcases he2 with rfl | rfl
      · rw [if_neg (by decide)] at hl
        have HL := Lib.hid hl
        clear hl
        go_enter Tryz.func73, Tryz.ntmps73
        go_wp2_with fail
        refine (refLook_any _ _ _ _ b HR.out HU.out hc hm (by omega) _ c _ r0 _ H1.out).mono ?_; rintro e w1 ⟨G1, n1, c1, rfl, hs1, hb1⟩
        have hn1 : n1 ≤ 100000 := by
          have h1 := H1.out
          unfold lookR at h1
          split at h1
          · simp at h1
          · simp only [Prod.mk.injEq] at h1
            have := hs1.1.len
            rw [← h1.2.2.2.1, List.length_drop, HR.out.len] at this
            omega
        go_wp2_with fail
        refine (refTakeInt_any _ _ _ _ r0 hs1.1 HU0.out hs1.2.1 hs1.2.2 hn1 s x r1 0 H2.out).mono ?_; rintro e w2 ⟨G2, n2, c2, rfl, hs2, hb2⟩
        have hn2 : n2 ≤ 100000 := by
          have h2 := takeI_len r0 s
          rw [H2.out] at h2
          have h3 := hs2.1.len; have h4 := hs1.1.len
          dsimp only at h2
          omega
        go_wp2_with fail
        refine (refTakeInt_any _ _ _ _ r1 hs2.1 HU1.out hs2.2.1 hs2.2.2 hn2 true fi r2 0 H3.out).mono ?_; rintro e w3 ⟨G3, n3, c3, rfl, hs3, hb3⟩
        have hn3 : n3 ≤ 100000 := by
          have h2 := takeI_len r1 true
          rw [H3.out] at h2
          have h3 := hs3.1.len; have h4 := hs2.1.len
          dsimp only at h2
          omega
        have HS3 := Lib.hid hs3; have HB3 := Lib.hid (on (on hb1 hb2) hb3)
        clear hs1 hs2 hs3 hb1 hb2 hb3
        go_wp2_with fail
        refine (refDiff_any _ 0 fi (by unfold I64x; omega) HFI.out sz fl ok H4.out).mono ?_; rintro e w' ⟨rfl, rfl⟩
        have hmM : ((M : Int) - 1) = ((M - 1 : Nat) : Int) := by omega
        cases ok
        · rw [if_pos rfl] at HL
          have h := HL.out
          injection h with q1 h; injection h with q2 q3
          subst q1 q2 q3
          clear HL
          go_wp2_with fail
          go_returns
          exact DTakeOutI.bad HB3.out
        · rw [if_neg (by decide)] at HL
          have HOZ := Lib.hid (own_lit1 w3 .u64 sz 109)
          have HBZ := Lib.hid (on HB3.out ((Below.refl w3.heap.size w3).alloc (Nat.le_refl _) (.cells #[.int .u64 sz] 109)))
          have HS3a := Lib.hid (HS3.out.1.alloc (.cells #[.int .u64 sz] 109))
          have hs32 := HS3.out.2
          by_cases hcz : 0 < c
          · rw [if_pos hcz, if_pos hcz] at HL
            go_wp2_with fail
            refine (refOf_any c _ (by omega) (by omega)).mono ?_; rintro e w' ⟨rfl, rfl⟩
            go_wp2_with fail
            refine (refUnpack_any _ _ _ _ r2 _ (wOf c) HS3a.out HU2.out hs32.1 (by omega) L r3 e3 H5.out).mono ?_; rintro e w7 ⟨G7, n7, c7, G8, n8, c8, rfl, hs7, hs8, hb7⟩
            have HB7 := Lib.hid (on HBZ.out hb7)
            have HOZ7 := Lib.hid (own_below HOZ.out hb7)
            by_cases he3 : e3 = 0
            · subst he3
              rw [if_neg (by simp : ¬ (0 < c ∧ (0 : Int) ≠ 0))] at HL
              have hLl := HUM.out rfl
              have hn7 := hs7.1.len
              have hl7 : n7 = M - 2 := by omega
              subst hl7
              have HS8 := Lib.hid hs8; have HS7 := Lib.hid hs7
              have hz7 := (on ((Below.refl w3.heap.size w3).alloc (Nat.le_refl _) (.cells #[.int .u64 sz] 109)) hb7).size
              clear hs8 hs7 hb7 hLl
              go_wp2_with (at_builtin; refine wpList_u64 _ rfl _ _ rfl w3.heap.size _ 1 [sz] rfl HOZ7.out _ _ _ L rfl HS7.out.1 (by omega) (by omega) ?_; intro G9 c9 w9 hown hgr hcc)
              have HB9 := Lib.hid (below_of_grown HB7.out hgr HB7.out.size (fun k hk => by have := (HOZ7.out.lt k hk).1; have := HB3.out.size; omega))
              have HZ := Lib.hid (Ri.of_own hown)
              have HS89 := Lib.hid (sl_past_own HS8.out HOZ7.out (show w7.grownBy w9 (Value.slice (some ⟨w3.heap.size, 0, none⟩) 1 1).ownBlock from hgr))
              rw [show 1 + (M - 2) = M - 1 from by omega] at HZ
              have hZU : Hid (U64 (sz :: L)) := by
                intro y hy
                rcases List.mem_cons.1 hy with rfl | hy
                · omega
                · exact HUL.out y hy
              have hZl : (sz :: L).length = M - 1 := by simp only [List.length_cons]; omega
              rw [show [sz] ++ L = sz :: L from rfl] at HZ
              generalize sz :: L = Z at HZ HL hZU hZl
              go_wp2_with fail
              go_loopw [12, 21, 22] (fun xv v i wr => ∃ (j : Nat) (cur : Int), j ≤ M - 1 ∧ i = .int .i64 j ∧ xv = .int .i64 cur ∧ Hid (DeW w9 wr fl s x cur Z j v)) (fun _ _ i _ => M - (intOf i).toNat)
              case atStart => exact ⟨0, x, by omega, rfl, rfl, HX.out, (Below.refl _ _).alloc (Nat.le_refl _) _, [], map_id_nil _, own_lit1_at (by simp)⟩
              case round =>
                obtain ⟨j, cur, hj, rfl, rfl, hin⟩ := hrel
                obtain ⟨hcur, hb, acc, hst, ho⟩ := hin.out
                have HO := Lib.hid ho; have HB := Lib.hid hb; have HST := Lib.hid hst; have HCUR := Lib.hid hcur
                have hzb := hb.size
                try simp at hzb
                clear hin ho hb hst hcur
                by_cases hlt : j < M - 1
                · obtain ⟨bz, oz, hAz, hblz, hcz'⟩ := HZ.out.at_ hlt
                  subst hAz
                  have hz := (HB.out.cell (p := ⟨bz, oz + j, none⟩) hblz).trans hcz'
                  have hzr := getD_u64' hZU.out j
                  have hdc := drop_cons Z j (by omega)
                  clear hcz'
                  generalize Z.getD j 0 = u at hz hzr hdc
                  have hst := HST.out
                  rw [hdc] at hst
                  have hyr := stepR_range cur u fl HCUR.out hzr.1
                  obtain ⟨y, kk, hsr⟩ : ∃ y kk, stepR cur u fl = (y, kk) := ⟨_, _, rfl⟩
                  have HSR := Lib.hid hsr
                  by_cases hg : kk = true ∧ (s = true ∨ 0 ≤ y)
                  · rw [stepsDe_good fl s cur u _ acc (by rw [hsr]; exact hg.1) (by rw [hsr]; exact hg.2), hsr] at hst
                    rw [hsr] at hyr
                    obtain ⟨rfl, hg2⟩ := hg
                    have HST2 := Lib.hid hst; have HYR := Lib.hid hyr
                    clear hst hyr hdc hsr
                    have hg3 : s = true ∨ (s = false ∧ 0 ≤ y) := by rcases hg2 with h | h; exact .inl h; cases s; exact .inr ⟨rfl, h⟩; exact .inl rfl
                    clear hg2
                    have HGG : Hid (s = s) := rfl
                    rcases hg3 with rfl | ⟨rfl, hy0⟩
                    all_goals
                      go_wp2_with fail
                      refine (refStep_any _ cur u fl HCUR.out hzr y true HSR.out).mono ?_; rintro e w' ⟨rfl, rfl⟩
                      go_wp2_with (at_builtin; refine wpList_i64 _ rfl _ _ rfl w9.heap.size _ (j + 1) (x :: acc) rfl (own_below HO.out ((Below.refl _ _).alloc (Nat.le_refl _) _)) _ 1 1 [_] rfl (ri_one_at rfl) (by omega) (by simp; omega) ?_; intro G c' w7 hown hgr hcc)
                      all_goals
                        have HOWN := Lib.hid hown; have HNB := Lib.hid (push_ HB.out (Nat.le_refl _) HO.out hgr)
                        clear hown hgr
                        go_wp2_with fail
                        go_roundw
                        case rel => exact ⟨j + 1, y, by omega, by go_num, rfl, HYR.out, HNB.out, acc ++ [y], HST2.out, HOWN.out⟩
                        case measure => simp [intOf] <;> omega
                  · rw [stepsDe_bad fl s cur u _ (by rw [hsr]; exact hg)] at hst
                    have h := HL.out
                    rw [hst] at h
                    simp only [Option.map_none, finDe] at h
                    injection h with q1 h; injection h with q2 q3
                    subst q1 q2 q3
                    have hg3 : kk = false ∨ (kk = true ∧ s = false ∧ y < 0) := by
                      cases kk
                      · exact .inl rfl
                      · refine .inr ⟨rfl, ?_, ?_⟩
                        · cases s; rfl; exact absurd ⟨rfl, .inl rfl⟩ hg
                        · rcases Int.lt_or_le y 0 with h | h; exact h; exact absurd ⟨rfl, .inr h⟩ hg
                    clear hst hyr hdc hsr hg HL HST
                    rcases hg3 with rfl | ⟨rfl, rfl, hy0⟩
                    all_goals
                      go_wp2_with fail
                      refine (refStep_any _ cur u fl HCUR.out hzr y _ HSR.out).mono ?_; rintro e w' ⟨rfl, rfl⟩
                      go_wp2_with fail
                      go_returns
                      exact DTakeOutI.bad (on HB9.out HB.out)
                · obtain rfl : j = M - 1 := by omega
                  have h := HL.out
                  rw [HST.out, List.drop_eq_nil_of_le (by omega), stepsDe_nil] at h
                  simp only [Option.map_some, finDe, List.append_nil] at h
                  injection h with q1 h; injection h with q2 q3
                  subst q1 q2 q3
                  obtain ⟨G7, c7, rfl⟩ := own_form HO.out
                  have HS7 := Lib.hid (Sl.of_own HO.out)
                  have HRS7 := Lib.hid (HS89.out.below HB.out)
                  clear HL HST
                  go_wp2_with fail
                  go_returns
                  exact ⟨_, _, _, _, _, _, rfl, HS7.out, HRS7.out, on HB9.out HB.out⟩
            · rw [if_pos ⟨hcz, he3⟩] at HL
              have h := HL.out
              injection h with q1 h; injection h with q2 q3
              subst q1 q2 q3
              clear HL hs7 hs8
              go_wp2_with fail
              go_returns
              exact DTakeOutI.bad HB7.out
          · rw [if_neg hcz, if_neg hcz, show ((M : Int) - 1).toNat = M - 1 from by omega, if_neg (fun h => hcz h.1 : ¬ (0 < c ∧ e3 ≠ 0))] at HL
            have hZl : (List.replicate (M - 1) sz).length = M - 1 := List.length_replicate
            have HZE : Hid (∀ j, j < M - 1 → (List.replicate (M - 1) sz).getD j 0 = sz) := Lib.hid (fun j hj => by simp [List.getD, hj])
            generalize List.replicate (M - 1) sz = Z at HL hZl HZE
            obtain rfl : c = 0 := by omega
            have HS35 : Hid (Sl (w3.alloc (.cells #[.int .u64 sz] 109)) .u8 G3 n3 c3 r2) := ⟨HS3a.out, hs32⟩

            go_wp2_with fail
            go_loopw [12, 21, 22] (fun xv v i wr => ∃ (j : Nat) (cur : Int), j ≤ M - 1 ∧ i = .int .i64 j ∧ xv = .int .i64 cur ∧ Hid (DeW (w3.alloc (.cells #[.int .u64 sz] 109)) wr fl s x cur Z j v)) (fun _ _ i _ => M - (intOf i).toNat)
            case atStart => exact ⟨0, x, by omega, rfl, rfl, HX.out, (Below.refl _ _).alloc (Nat.le_refl _) _, [], map_id_nil _, own_lit1_at (by simp)⟩
            case round =>
              obtain ⟨j, cur, hj, rfl, rfl, hin⟩ := hrel
              obtain ⟨hcur, hb, acc, hst, ho⟩ := hin.out
              have HO := Lib.hid ho; have HB := Lib.hid hb; have HST := Lib.hid hst; have HCUR := Lib.hid hcur
              have hzb := hb.size
              try simp at hzb
              clear hin ho hb hst hcur
              by_cases hlt : j < M - 1
              · have hdc := drop_cons Z j (by omega)
                rw [HZE.out j hlt] at hdc
                have hzr : 0 ≤ sz ∧ sz < 18446744073709551616 := by omega
                have hst := HST.out
                rw [hdc] at hst
                have hyr := stepR_range cur sz fl HCUR.out hzr.1
                obtain ⟨y, kk, hsr⟩ : ∃ y kk, stepR cur sz fl = (y, kk) := ⟨_, _, rfl⟩
                have HSR := Lib.hid hsr
                by_cases hg : kk = true ∧ (s = true ∨ 0 ≤ y)
                · rw [stepsDe_good fl s cur sz _ acc (by rw [hsr]; exact hg.1) (by rw [hsr]; exact hg.2), hsr] at hst
                  rw [hsr] at hyr
                  obtain ⟨rfl, hg2⟩ := hg
                  have HST2 := Lib.hid hst; have HYR := Lib.hid hyr
                  clear hst hyr hdc hsr
                  have hg3 : s = true ∨ (s = false ∧ 0 ≤ y) := by rcases hg2 with h | h; exact .inl h; cases s; exact .inr ⟨rfl, h⟩; exact .inl rfl
                  clear hg2
                  have HGG : Hid (s = s) := rfl
                  rcases hg3 with rfl | ⟨rfl, hy0⟩
                  all_goals
                    go_wp2_with fail
                    refine (refStep_any _ cur sz fl HCUR.out hzr y true HSR.out).mono ?_; rintro e w' ⟨rfl, rfl⟩
                    go_wp2_with (at_builtin; refine wpList_i64 _ rfl _ _ rfl (w3.alloc (.cells #[.int .u64 sz] 109)).heap.size _ (j + 1) (x :: acc) rfl (own_below HO.out ((Below.refl _ _).alloc (Nat.le_refl _) _)) _ 1 1 [_] rfl (ri_one_at rfl) (by omega) (by simp; omega) ?_; intro G c' w7 hown hgr hcc)
                    all_goals
                      have HOWN := Lib.hid hown; have HNB := Lib.hid (push_ HB.out (Nat.le_refl _) HO.out hgr)
                      clear hown hgr
                      go_wp2_with fail
                      go_roundw
                      case rel => exact ⟨j + 1, y, by omega, by go_num, rfl, HYR.out, HNB.out, acc ++ [y], HST2.out, HOWN.out⟩
                      case measure => simp [intOf] <;> omega
                · rw [stepsDe_bad fl s cur sz _ (by rw [hsr]; exact hg)] at hst
                  have h := HL.out
                  rw [hst] at h
                  simp only [Option.map_none, finDe] at h
                  injection h with q1 h; injection h with q2 q3
                  subst q1 q2 q3
                  have hg3 : kk = false ∨ (kk = true ∧ s = false ∧ y < 0) := by
                    cases kk
                    · exact .inl rfl
                    · refine .inr ⟨rfl, ?_, ?_⟩
                      · cases s; rfl; exact absurd ⟨rfl, .inl rfl⟩ hg
                      · rcases Int.lt_or_le y 0 with h | h; exact h; exact absurd ⟨rfl, .inr h⟩ hg
                  clear hst hyr hdc hsr hg HL HST
                  rcases hg3 with rfl | ⟨rfl, rfl, hy0⟩
                  all_goals
                    go_wp2_with fail
                    refine (refStep_any _ cur sz fl HCUR.out hzr y _ HSR.out).mono ?_; rintro e w' ⟨rfl, rfl⟩
                    go_wp2_with fail
                    go_returns
                    exact DTakeOutI.bad (on HBZ.out HB.out)
              · obtain rfl : j = M - 1 := by omega
                have h := HL.out
                rw [HST.out, List.drop_eq_nil_of_le (by omega), stepsDe_nil] at h
                simp only [Option.map_some, finDe, List.append_nil] at h
                injection h with q1 h; injection h with q2 q3
                subst q1 q2 q3
                obtain ⟨G7, c7, rfl⟩ := own_form HO.out
                have HS7 := Lib.hid (Sl.of_own HO.out)
                have HRS7 := Lib.hid (HS35.out.below HB.out)
                clear HL HST
                go_wp2_with fail
                go_returns
                exact ⟨_, _, _, _, _, _, rfl, HS7.out, HRS7.out, on HBZ.out HB.out⟩
      · rw [if_pos (by decide)] at hl
        injection hl with q1 hl; injection hl with q2 q3
        subst q1 q2 q3
        go_enter Tryz.func73, Tryz.ntmps73
        go_wp2_with fail
        refine (refLook_any _ _ _ _ b HR.out HU.out hc hm (by omega) _ c _ r0 _ H1.out).mono ?_; rintro e w1 ⟨G1, n1, c1, rfl, hs1, hb1⟩
        have hn1 : n1 ≤ 100000 := by
          have h1 := H1.out
          unfold lookR at h1
          split at h1
          · simp at h1
          · simp only [Prod.mk.injEq] at h1
            have := hs1.1.len
            rw [← h1.2.2.2.1, List.length_drop, HR.out.len] at this
            omega
        go_wp2_with fail
        refine (refTakeInt_any _ _ _ _ r0 hs1.1 HU0.out hs1.2.1 hs1.2.2 hn1 s x r1 0 H2.out).mono ?_; rintro e w2 ⟨G2, n2, c2, rfl, hs2, hb2⟩
        have hn2 : n2 ≤ 100000 := by
          have h2 := takeI_len r0 s
          rw [H2.out] at h2
          have h3 := hs2.1.len; have h4 := hs1.1.len
          dsimp only at h2
          omega
        go_wp2_with fail
        refine (refTakeInt_any _ _ _ _ r1 hs2.1 HU1.out hs2.2.1 hs2.2.2 hn2 true fi r2 2 H3.out).mono ?_; rintro e w3 ⟨G3, n3, c3, rfl, hs3, hb3⟩
        go_wp2_with fail
        go_returns
        exact DTakeOutI.bad (on (on hb1 hb2) hb3)
    · rw [if_pos (by decide)] at hl
      injection hl with q1 hl; injection hl with q2 q3
      subst q1 q2 q3
      go_enter Tryz.func73, Tryz.ntmps73
      go_wp2_with fail
      refine (refLook_any _ _ _ _ b HR.out HU.out hc hm (by omega) _ c _ r0 _ H1.out).mono ?_; rintro e w1 ⟨G1, n1, c1, rfl, hs1, hb1⟩
      have hn1 : n1 ≤ 100000 := by
        have h1 := H1.out
        unfold lookR at h1
        split at h1
        · simp at h1
        · simp only [Prod.mk.injEq] at h1
          have := hs1.1.len
          rw [← h1.2.2.2.1, List.length_drop, HR.out.len] at this
          omega
      go_wp2_with fail
      refine (refTakeInt_any _ _ _ _ r0 hs1.1 HU0.out hs1.2.1 hs1.2.2 hn1 s x r1 2 H2.out).mono ?_; rintro e w2 ⟨G2, n2, c2, rfl, hs2, hb2⟩
      go_wp2_with fail
      go_returns
      exact DTakeOutI.bad (on hb1 hb2)
end Go.Proofs.YtmejoococajikaaGreat

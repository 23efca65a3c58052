/- Joined texts: RefPTake. Each has its own head line. No condition beyond those that its theorems state. -/
import Derived.Test.YtmejoococajikaaGreatJ36
import Derived.Test.YtmejoococajikaaGreatJ20
import Derived.Test.YtmejoococajikaaGreatJ12
import Derived.Test.YtmejoococajikaaGreatJ02
set_option linter.unusedVariables false

/- pilasterref10.Take. -/
namespace Go.Proofs.YtmejoococajikaaGreat
open Go.RowKit

set_option maxRecDepth 100000 in
set_option maxHeartbeats 4000000 in
theorem refPTake_any (w : World) (A : Option Addr) (n cap : Nat) (b : List Int) (hr : Ri w .u8 A n b) (hu : U8 b) (hc : n ≤ cap) (hm : cap ≤ 9223372036854775807) (hn : n ≤ 1000000) (s : Bool) (l r : List Int) (er : Int) (hl : takePa b s = (l, r, er)) :
    Calls Tryz.prog 72 #[.slice A n cap, .bool s] w (PTOut w l r er) := by
  have HR := Lib.hid hr; have HU := Lib.hid hu; have HN := Lib.hid hr.len
  obtain ⟨k, code, many, rest, e0, hlk⟩ : ∃ k c m r e, lookR b = (k, c, m, r, e) := ⟨_, _, _, _, _, rfl⟩
  have HLK := Lib.hid hlk
  unfold takePa at hl
  rw [hlk] at hl
  simp only [] at hl
  have hlk2 := hlk
  unfold lookR at hlk2
  rw [hr.len] at hl hlk2
  clear hr hu hlk
  by_cases h2 : n < 2
  · rw [if_pos h2] at hlk2
    injection hlk2 with e1 hlk2; injection hlk2 with e2 hlk2; injection hlk2 with e3 hlk2; injection hlk2 with e4 e5
    subst e1 e2 e3 e4 e5
    rw [if_pos (.inl h2)] at hl
    obtain ⟨rfl, rfl, rfl⟩ := badT_eq hl
    clear hl
    go_enter Tryz.func72, Tryz.ntmps72
    go_wp2_with fail
    refine (refLook_any _ _ _ _ b HR.out HU.out hc hm hn 0 0 0 [] 2 HLK.out).mono ?_; rintro e w1 ⟨G1, n1, c1, rfl, hs1, hb1⟩
    go_wp2_with fail
    refine bodyPost_ret (results_tmp3 rfl _ _ _) rfl ?_
    exact PTOut.nil hb1
  · rw [if_neg h2] at hlk2
    injection hlk2 with e1 hlk2; injection hlk2 with e2 hlk2; injection hlk2 with e3 hlk2; injection hlk2 with e4 e5
    subst e4 e5
    have hb0 := getD_byte HU.out 0; have hb1' := getD_byte HU.out 1
    have hmany : 1 ≤ many ∧ many ≤ 512 := by omega
    have hcode : 0 ≤ code ∧ code ≤ 31 := by omega
    have hW := wOf_in code hcode
    clear e1 e2 e3 hb0 hb1'
    have hk2 : (k ≠ 2 ∨ n < 4) ∨ (k = 2 ∧ ¬ n < 4) := by by_cases h : k = 2 <;> by_cases h' : n < 4 <;> simp [h, h']
    rcases hk2 with hk2 | ⟨rfl, hn4⟩
    · rw [if_pos (.inr hk2)] at hl
      obtain ⟨rfl, rfl, rfl⟩ := badT_eq hl
      clear hl
      by_cases hkk : k = 2
      · subst hkk
        have hn4 : n < 4 := by rcases hk2 with h | h; exact absurd rfl h; exact h
        clear hk2
        go_enter Tryz.func72, Tryz.ntmps72
        go_wp2_with fail
        refine (refLook_any _ _ _ _ b HR.out HU.out hc hm hn 2 code many _ 0 HLK.out).mono ?_; rintro e w1 ⟨G1, n1, c1, rfl, hs1, hb1⟩
        have hl1 := hs1.1.len
        rw [List.length_drop, HN.out] at hl1
        have hn1 : n1 < 2 := by omega
        clear hl1
        go_wp2_with fail
        refine bodyPost_ret (results_tmp3 rfl _ _ _) rfl ?_
        exact PTOut.nil hb1
      · clear hk2
        have hkb : (k != 2) = true := by simp [hkk]
        go_enter Tryz.func72, Tryz.ntmps72
        go_wp2_with fail
        refine (refLook_any _ _ _ _ b HR.out HU.out hc hm hn k code many _ 0 HLK.out).mono ?_; rintro e w1 ⟨G1, n1, c1, rfl, hs1, hb1⟩
        go_wp2_with fail
        refine bodyPost_ret (results_tmp3 rfl _ _ _) rfl ?_
        exact PTOut.nil hb1
    · rw [if_neg (by omega)] at hl
      have hc0 := getD_byte HU.out 2; have hc1 := getD_byte HU.out 3
      have hg0 : (b.drop 2).getD 0 0 = b.getD 2 0 := by simp [List.getD]
      have hg1 : (b.drop 2).getD 1 0 = b.getD 3 0 := by simp [List.getD]
      obtain ⟨c0, hce0⟩ : ∃ c, c = b.getD 2 0 := ⟨_, rfl⟩
      obtain ⟨d0, hde0⟩ : ∃ c, c = b.getD 3 0 := ⟨_, rfl⟩
      rw [← hce0] at hc0 hg0 hl
      rw [← hde0] at hc1 hg1 hl
      obtain ⟨nn, hnn⟩ : ∃ nn : Nat, (nn : Int) = c0 / 32 + 1 := ⟨(c0 / 32 + 1).toNat, by omega⟩
      obtain ⟨g, hg⟩ : ∃ g : Nat, (g : Int) = d0 / 32 + 1 := ⟨(d0 / 32 + 1).toNat, by omega⟩
      obtain ⟨sm, hsm⟩ : ∃ sm : Nat, (sm : Int) = d0 % 32 := ⟨(d0 % 32).toNat, by omega⟩
      have hKw := wOf_in (c0 % 32) (by omega)
      obtain ⟨K, hK⟩ : ∃ K : Nat, (K : Int) = wOf (c0 % 32) := ⟨(wOf (c0 % 32)).toNat, by omega⟩
      obtain ⟨W, hWe⟩ : ∃ W : Nat, (W : Int) = wOf code := ⟨(wOf code).toNat, by omega⟩
      rw [← hnn, ← hg, ← hsm, ← hK, ← hWe, Int.toNat_natCast, Int.toNat_natCast, Int.toNat_natCast, Int.toNat_natCast] at hl
      have hnnb : 1 ≤ nn ∧ nn ≤ 8 := by omega
      have hgb : 1 ≤ g ∧ g ≤ 8 := by omega
      have hsmb : sm ≤ 31 := by omega
      have hKb : 1 ≤ K ∧ K ≤ 64 := by omega
      have hWb : 1 ≤ W ∧ W ≤ 64 := by omega
      have HNN := Lib.hid hnn; have HG := Lib.hid hg; have HSM := Lib.hid hsm; have HK := Lib.hid hK; have HWE := Lib.hid hWe; have HL := Lib.hid hl
      have HG0 := Lib.hid hg0; have HG1 := Lib.hid hg1
      obtain ⟨hc01, hc02⟩ := hc0; obtain ⟨hc11, hc12⟩ := hc1
      clear hl hnn hg hsm hK hWe hKw hW hg0 hg1 hce0 hde0
      go_enter Tryz.func72, Tryz.ntmps72
      go_wp2_with fail
      refine (refLook_any _ _ _ _ b HR.out HU.out hc hm hn 2 code many _ 0 HLK.out).mono ?_; rintro e w1 ⟨G1, n1, c1, rfl, hs1, hb1⟩
      have hl1 := hs1.1.len
      rw [List.length_drop, HN.out] at hl1
      have hn1 : 2 ≤ n1 := by omega
      have hn1n : n = n1 + 2 := by omega
      subst hn1n
      obtain ⟨b1, o1, rfl, hbl1, hcells⟩ := hs1.1.all (by omega)
      have q0 := hcells 0 (by omega); have q1 := hcells 1 (by omega)
      rw [Nat.add_zero, HG0.out] at q0
      rw [HG1.out] at q1
      have HS1 := Lib.hid hs1; have HB1 := Lib.hid hb1
      obtain ⟨hcc1, hcc2⟩ := hs1.2
      clear hl1 hcells hs1 hb1
      go_wp2_with fail
      have he1 : c0 / 32 + 1 = (nn : Int) := HNN.out.symm
      have he2 : d0 / 32 + 1 = (g : Int) := HG.out.symm
      have he3 : d0 % 32 = (sm : Int) := HSM.out.symm
      go_wp2_with fail
      refine (refOf_any _ _ (by omega) (by omega)).mono ?_; rintro e w' ⟨rfl, rfl⟩
      rw [← HK.out]
      have hrest4 : (b.drop 2).drop 2 = b.drop 4 := by rw [List.drop_drop]
      have HR4 := Lib.hid hrest4
      have hlen4 : (b.drop 4).length = n1 - 2 := by rw [List.length_drop, HN.out]; omega
      have HLEN4 := Lib.hid hlen4
      clear hrest4 hlen4
      by_cases hn12 : n1 = 2
      · have hl := HL.out
        unfold takeP2 at hl
        rw [if_pos (.inr (by rw [HLEN4.out]; omega))] at hl
        obtain ⟨rfl, rfl, rfl⟩ := badT_eq hl
        subst hn12
        clear hl
        by_cases hgk : (64 : Int) < (g : Int) + K
        · go_wp2_with fail
          all_goals
            refine bodyPost_ret (results_tmp3 rfl _ _ _) rfl ?_
            exact PTOut.nil HB1.out
        · go_wp2_with fail
          all_goals
            refine bodyPost_ret (results_tmp3 rfl _ _ _) rfl ?_
            exact PTOut.nil HB1.out
      · have hc12 : ¬ c1 = 2 := by omega
        have hcase : (64 < g + K) ∨ (¬ 64 < g + K ∧ n1 - 2 < nn) ∨ (¬ 64 < g + K ∧ ¬ n1 - 2 < nn) := by omega
        rcases hcase with hgk | ⟨hgk, hln⟩ | ⟨hgk, hln⟩
        · have hl := HL.out
          unfold takeP2 at hl
          rw [if_pos (.inl hgk)] at hl
          obtain ⟨rfl, rfl, rfl⟩ := badT_eq hl
          clear hl
          go_wp2_with fail
          refine bodyPost_ret (results_tmp3 rfl _ _ _) rfl ?_
          exact PTOut.nil HB1.out
        · have hl := HL.out
          unfold takeP2 at hl
          rw [if_pos (.inr (by rw [HLEN4.out]; exact hln))] at hl
          obtain ⟨rfl, rfl, rfl⟩ := badT_eq hl
          clear hl
          go_wp2_with fail
          refine bodyPost_ret (results_tmp3 rfl _ _ _) rfl ?_
          exact PTOut.nil HB1.out
        · have hl := HL.out
          unfold takeP2 at hl
          rw [if_neg (by rw [HLEN4.out]; omega)] at hl
          have hrr := HS1.out.1.rest (i := 2) (by omega) (fun _ => rfl)
          rw [HR4.out] at hrr
          have HRR := Lib.hid hrr
          have hU4 : U8 (b.drop 4) := U8.drop HU.out 4
          have HU4 := Lib.hid hU4
          obtain ⟨u1, u2, e1, hun⟩ : ∃ u1 u2 e1, unpackR ((b.drop 4).drop nn) many W = (u1, u2, e1) := ⟨_, _, _, rfl⟩
          have HUN := Lib.hid hun
          rw [hun] at hl
          obtain ⟨bb, hbb⟩ : ∃ bb, bb = (b.drop 4).take nn := ⟨_, rfl⟩
          rw [← hbb] at hl
          obtain ⟨Bv, hBv⟩ : ∃ Bv, Bv = numR bb := ⟨_, rfl⟩
          have hbv : I64x Bv := by rw [hBv]; exact stepR_range 0 _ _ (by unfold I64x; omega) (by omega)
          rw [← hBv] at hl
          have HBV := Lib.hid hBv; have HL3 := Lib.hid hl
          have HU8n := Lib.hid (U8.drop HU4.out nn)
          have hrn := HRR.out.first (m := nn) (by omega)
          have hub := U8.take HU4.out nn
          rw [← hbb] at hrn hub
          have HUB := Lib.hid hub; have HBN := Lib.hid hrn.len
          obtain ⟨_, _, e, hblx, hcb⟩ := hrn.all (by omega)
          injection e with e; injection e with e1' e2'; subst e1' e2'
          have HCB := Lib.hid hcb
          have q2 := hcb 0 (by omega)
          rw [Nat.add_zero] at q2
          have hy := getD_byte hub 0
          have HTL := Lib.hid (top_lt hub)
          have htk : packV ((topB bb).take 1) 8 = (bb.getD 0 0 % 128).toNat := by
            have e : (topB bb).take 1 = [bb.getD 0 0 % 128] := by simp [topB]
            rw [e]; simp [packV]
          have hnum : numR bb = (stepR 0 (packV (topB bb) 8) (decide (128 ≤ bb.getD 0 0))).1 := rfl
          have HNUM := Lib.hid hnum
          obtain ⟨y0, hy0⟩ : ∃ y, y = bb.getD 0 0 := ⟨_, rfl⟩
          rw [← hy0] at q2 hy htk
          have HY0 := Lib.hid hy0; have HTK := Lib.hid htk
          obtain ⟨hy1, hy2⟩ := hy
          clear hrr hl hU4 hun hbb hBv hrn hub hcb hnum hy0 htk HL
          go_wp2_with fail
          go_loopw [16, 17] (fun v i wr => ∃ (j : Nat) (z : Nat), 1 ≤ j ∧ j ≤ nn ∧ i = .int .i64 j ∧ v = .int .u64 z ∧ z < 2 ^ 63 ∧ Hid (z = packV ((topB bb).take j) 8) ∧ Hid (wr = w1)) (fun _ i _ => nn - (intOf i).toNat)
          case atStart => exact ⟨1, (y0 % 128).toNat, by omega, hnnb.1, rfl, by congr 1; omega, by omega, Lib.hid HTK.out.symm, Lib.hid rfl⟩
          case round =>
            obtain ⟨j, z, hj1, hj, rfl, rfl, hz63, hz, hw⟩ := hrel
            obtain rfl := hw.out
            by_cases hlt : j < nn
            · have g1 := HCB.out j hlt
              have hyr := HUB.out _ (getD_mem bb j (by rw [HBN.out]; exact hlt))
              obtain ⟨j', rfl⟩ : ∃ j', j = j' + 1 := ⟨j - 1, by omega⟩
              have hsn := take_snoc (topB bb) (j' + 1) (by rw [topB_len (by rw [HBN.out]; omega), HBN.out]; exact hlt)
              rw [topB_at (by rw [HBN.out]; exact hlt)] at hsn
              have hpv := packV_snoc ((topB bb).take (j' + 1)) 8 (bb.getD (j' + 1) 0)
              rw [← hsn, ← hz.out] at hpv
              have hzz := HTL.out j'
              rw [← hz.out] at hzz
              have hz55 : z < 2 ^ 55 := Nat.lt_of_lt_of_le hzz (Nat.pow_le_pow_right (by omega) (by omega))
              obtain ⟨y, hye⟩ : ∃ y, y = bb.getD (j' + 1) 0 := ⟨_, rfl⟩
              rw [← hye] at g1 hyr hpv
              have HPV := Lib.hid hpv
              obtain ⟨hyr1, hyr2⟩ := hyr
              clear hsn hpv hzz hye q2 q0 q1 he1 he2 he3
              go_wp2_with fail
              go_roundw
              case rel => exact ⟨j' + 1 + 1, z * 256 + y.toNat, by omega, by omega, by go_num, by congr 1; omega, by omega, Lib.hid (by rw [HPV.out]), Lib.hid trivial⟩
              case measure => simp [intOf] <;> omega
            · obtain rfl : nn = j := by omega
              have hfull := hz.out
              rw [List.take_of_length_le (by rw [topB_len (by rw [HBN.out]; omega), HBN.out]; exact Nat.le_refl _)] at hfull
              obtain ⟨f, hf⟩ : ∃ f, f = decide (128 ≤ y0) := ⟨_, rfl⟩
              obtain ⟨xx, ok, hst⟩ : ∃ xx ok, stepR 0 (z : Int) f = (xx, ok) := ⟨_, _, rfl⟩
              have hres : Bv = xx := by rw [HBV.out, HNUM.out, ← hfull, ← HY0.out, ← hf, hst]
              subst hres
              have HST := Lib.hid hst
              obtain ⟨w2, hw2⟩ : ∃ w2, w2 = wr := ⟨_, rfl⟩
              subst hw2
              have hfd : (decide (128 ≤ y0)) = f := hf.symm
              clear hfull hf hst hw
              go_wp2_with fail
              refine (refStep_any _ 0 (z : Int) f (by unfold I64x; omega) (by omega) Bv ok HST.out).mono ?_; rintro e w' ⟨rfl, rfl⟩
              clear hfd
              go_wp2_with fail
              refine (refOf_any _ _ (by omega) (by omega)).mono ?_; rintro e w' ⟨rfl, rfl⟩
              rw [← HWE.out]
              go_upto_region 18 with fail
              go_cut [21, 10, 11] (fun v0 v1 v2 wx => ∃ (G : Option Addr) (m c : Nat) (G2 : Option Addr) (m2 c2 : Nat), v0 = .slice G m c ∧ v1 = .slice G2 m2 c2 ∧ v2 = .int .i64 e1 ∧ Hid (wx.ownsRow w2.heap.size 109 1 (.slice G m c) m (u1.map (Value.int .u64))) ∧ Hid (Sl wx .u8 G2 m2 c2 u2) ∧ Hid (∀ g' o', G2 = some ⟨g', o', none⟩ → w2.heap.size ≤ g') ∧ Hid (Below w.heap.size w wx) ∧ w2.heap.size ≤ wx.heap.size)
              case first =>
                have HQ := Lib.hid (HRR.out.restIf (i := nn) (by omega) (cap := c1 - 2) (by omega))
                go_wp2_with fail
                all_goals
                  have HQ2 := HQ.out
                  first | rw [if_pos (by assumption)] at HQ2 | rw [if_neg (by assumption)] at HQ2
                  refine (refUnpackF_any _ _ _ _ ((b.drop 4).drop nn) many W HQ2 HU8n.out (by omega) (by omega) u1 u2 e1 HUN.out).mono ?_; rintro e w6 ⟨G6, n6, c6, G7, n7, c7, rfl, hs6, hs7, hb6, ho6, hf6⟩
                  have HO6 := Lib.hid ho6; have HS7 := Lib.hid hs7; have HB6 := Lib.hid hb6; have HF6 := Lib.hid hf6
                  clear ho6 hs6 hs7 hb6 hf6 HQ2
                  go_wp2_with fail
                  go_meet
                  exact ⟨G6, n6, c6, G7, n7, c7, rfl, rfl, rfl, HO6, HS7, HF6, Lib.hid (on HB1.out HB6.out), HB6.out.size⟩
              case rest =>
                obtain ⟨GL, m, cL, GR, mr, cr, rfl, rfl, rfl, ho6, hs6, hf6, hb6, hz6⟩ := hcut
                obtain ⟨w6, hw6⟩ : ∃ w6, w6 = wc := ⟨_, rfl⟩
                subst hw6
                by_cases he1x : e1 = 0
                · subst he1x
                  have hl := HL3.out
                  unfold takeP2b at hl
                  rw [if_neg (by simp)] at hl
                  have hun := HUN.out
                  have hu1 : u1.length = many.toNat ∧ U64 u1 := by
                    unfold unpackR at hun
                    split at hun
                    · injection hun with h1 h2; injection h2 with h2 h3; cases h3
                    · split at hun
                      · injection hun with h1 h2; injection h2 with h2 h3; cases h3
                      · dsimp only at hun
                        split at hun
                        · injection hun with h1 h2
                          rw [← h1]
                          exact ⟨bitsL_len _ _ _ _, bits_u64 _ _ _ _ (by omega)⟩
                        · injection hun with h1 h2; injection h2 with h2 h3; cases h3
                  have hu2 : U8 u2 := by
                    unfold unpackR at hun
                    split at hun
                    · injection hun with h1 h2; injection h2 with h2 h3; cases h3
                    · split at hun
                      · injection hun with h1 h2; injection h2 with h2 h3; cases h3
                      · dsimp only at hun
                        split at hun
                        · injection hun with h1 h2; injection h2 with h2 h3
                          rw [← h2]
                          exact U8.drop HU8n.out _
                        · injection hun with h1 h2; injection h2 with h2 h3; cases h3
                  have hml := (Ri.of_own ho6.out).len
                  obtain ⟨hu1l, hu1u⟩ := hu1
                  have HU1 := Lib.hid hu1u
                  have hm1 : 1 ≤ m ∧ m ≤ 512 := by omega
                  obtain ⟨M, hM⟩ : ∃ M : Nat, many = (M : Int) := ⟨many.toNat, by omega⟩
                  subst hM
                  obtain rfl : m = M := by omega
                  have hmr : mr ≤ 1000000 := by
                    have h := hs6.out.1.len
                    unfold unpackR at hun
                    split at hun
                    · injection hun with h1 h2; injection h2 with h2 h3; cases h3
                    · split at hun
                      · injection hun with h1 h2; injection h2 with h2 h3; cases h3
                      · dsimp only at hun
                        split at hun
                        · injection hun with h1 h2; injection h2 with h2 h3
                          rw [← h2, List.length_drop, List.length_drop, HLEN4.out] at h
                          omega
                        · injection hun with h1 h2; injection h2 with h2 h3; cases h3
                  obtain ⟨v1, v2, e2, hun2⟩ : ∃ x y z, unpackR u2 sm (wClosest ((g : Int) + K)) = (x, y, z) := ⟨_, _, _, rfl⟩
                  rw [hun2] at hl
                  have HUN2 := Lib.hid hun2; have HL4 := Lib.hid hl; have HU2 := Lib.hid hu2; have HU1L := Lib.hid hu1l; have HML := Lib.hid hml
                  have hcrr := hs6.out.2
                  clear hl hun hun2 hu2 hu1l hml HUN HL3 hu1u
                  go_wp2_with fail
                  refine (refClosest_any _ _).mono ?_; rintro e w' ⟨rfl, rfl⟩
                  go_wp2_with fail
                  refine (refUnpackF_any _ _ _ _ u2 sm (wClosest ((g : Int) + K)) hs6.out.1 HU2.out (by omega) hmr v1 v2 e2 HUN2.out).mono ?_; rintro e w8 ⟨G8, n8, c8, G9, n9, c9, rfl, hs8, hs9, hb8, ho8, hf8⟩
                  have HB8 := Lib.hid (on hb6.out hb8)
                  have HOL := Lib.hid (own_below ho6.out hb8)
                  have HO8 := Lib.hid ho8; have HS9 := Lib.hid hs9; have HF8 := Lib.hid hf8
                  have hz8 := hb8.size
                  clear hs8 hs9 hb8 ho8 hf8
                  by_cases he2x : e2 = 0
                  · subst he2x
                    have hl := HL4.out
                    unfold takeP3 at hl
                    rw [if_neg (by simp), Int.toNat_natCast] at hl
                    have hun2 := HUN2.out
                    have hv1 : v1.length = sm ∧ U64 v1 := by
                      have hc64 := wClosest_le ((g : Int) + K)
                      unfold unpackR at hun2
                      split at hun2
                      · injection hun2 with h1 h2; injection h2 with h2 h3; cases h3
                      · split at hun2
                        · injection hun2 with h1 h2; injection h2 with h2 h3; cases h3
                        · dsimp only at hun2
                          split at hun2
                          · injection hun2 with h1 h2
                            rw [← h1]
                            exact ⟨by rw [bitsL_len]; simp, bits_u64 _ _ _ _ (by omega)⟩
                          · injection hun2 with h1 h2; injection h2 with h2 h3; cases h3
                    have hn8 := (Ri.of_own HO8.out).len
                    rw [hv1.1] at hn8
                    subst hn8
                    obtain ⟨g', rfl, hgl, hlow⟩ := LowW.start HOL.out hm1.1
                    have hg6 := (ho6.out.lt g' rfl).2
                    have hA2 : ∀ b o, G8 = some ⟨b, o, none⟩ → b ≠ g' := fun b o h => by
                      subst h
                      have := (HO8.out.lt b rfl).1
                      omega
                    have HA2 := Lib.hid hA2
                    have HRB := Lib.hid (Ri.of_own HO8.out)
                    have hpu := patchN_u64 K g W u1 v1 HU1.out sm
                    have HPU := Lib.hid hpu
                    have HLOW := Lib.hid hlow; have HUV := Lib.hid hv1.2; have HVL := Lib.hid hv1.1; have HL5 := Lib.hid hl
                    have hwg : w.heap.size ≤ g' := Nat.le_trans HB1.out.size hgl
                    clear hun2 hv1 hA2 hlow hpu hl
                    go_wp2_with fail
                    go_loopw [23, 24] (fun at_ i wr => ∃ (j a : Nat) (l : List Int), j ≤ sm ∧ i = .int .i64 j ∧ at_ = .int .i64 a ∧ a ≤ m ∧ Hid (patchN K g W u1 v1 j = some (l, a)) ∧ Hid (LowW w8 wr g' m l)) (fun _ i _ => sm - (intOf i).toNat)
                    case atStart => exact ⟨0, 0, u1, by omega, rfl, rfl, by omega, rfl, HLOW.out⟩
                    case round =>
                      obtain ⟨j, a, l1, hj, rfl, rfl, ha, hpn, hlw⟩ := hrel
                      by_cases hlt : j < sm
                      · have g1 := LowW.far hlw.out HRB.out HA2.out
                        obtain ⟨b2, o2, rfl, _, hc2⟩ := g1.all (by omega)
                        have hx := HUV.out _ (getD_mem v1 j (by rw [HVL.out]; exact hlt))
                        have g1 := hc2 j hlt
                        have hstep := patchN_succ K g W u1 v1 j l1 a hpn.out
                        have hbadn := @patchN_bad K g W u1 v1 j sm l1 a hpn.out hlt
                        obtain ⟨x, hxe⟩ : ∃ x, x = v1.getD j 0 := ⟨_, rfl⟩
                        rw [← hxe] at g1 hx hstep hbadn
                        have HSTEP := Lib.hid hstep; have HBADN := Lib.hid hbadn
                        obtain ⟨hm1', hm2', hm3⟩ := mask64 x K hx (by omega)
                        have hmg := (mask64 x g hx (by omega)).1
                        have hdv := div_range x K hx
                        have hpr : 0 ≤ x % 2 ^ K ∧ x % 2 ^ K ≤ x := by
                          have hk : (0 : Int) < 2 ^ K := Int.pow_pos (by decide)
                          refine ⟨Int.emod_nonneg _ (by omega), ?_⟩
                          have h1 := Int.ediv_mul_add_emod x (2 ^ K)
                          have h2 : 0 ≤ x / 2 ^ K * 2 ^ K := Int.mul_nonneg hdv.1 (by omega)
                          omega
                        have hll := hlw.out.len
                        have hsb := @patchStep_bad K g W l1 a x
                        have hso := @patchStep_ok K g W l1 a x
                        rw [hll] at hsb hso
                        obtain ⟨p, hp⟩ := Int.eq_ofNat_of_zero_le hpr.1
                        rw [hp] at hm3 hpr hsb hso
                        rw [Int.toNat_natCast] at hsb hso
                        obtain ⟨q, hq⟩ : ∃ q, q = x / 2 ^ K := ⟨_, rfl⟩
                        rw [← hq] at hdv hsb hso
                        have HSB := Lib.hid hsb; have HSO := Lib.hid hso
                        obtain ⟨Q, hQe⟩ := Int.eq_ofNat_of_zero_le hdv.1
                        subst hQe
                        have hq2 := hq.symm
                        rw [Int.toNat_natCast] at HSB HSO
                        have hpu2 : p < 18446744073709551616 := by omega
                        have hpw : (2 : Int) ^ g ≤ 256 := by
                          have h1 : 2 ^ g ≤ 2 ^ 8 := Nat.pow_le_pow_right (by omega) (by omega)
                          have e : ((2 ^ g : Nat) : Int) = 2 ^ g := by simp
                          rw [← e]; omega
                        have HPW := Lib.hid hpw
                        clear hc2 hstep hbadn hxe hll hsb hso hp hq hdv hpw hpr
                        go_upto_region 29 with fail
                        go_cut [26] (fun v wx => v = .int .u64 p ∧ Hid (LowW w8 wx g' m l1))
                        case first =>
                          go_region
                          all_goals
                            go_wp2_with fail
                            go_meet
                            exact ⟨rfl, Lib.hid (by first | exact hlw.out | exact hlw.out.drew)⟩
                        case rest =>
                          obtain ⟨rfl, hlw⟩ := hcut
                          obtain ⟨w9, hw9⟩ : ∃ w9, w9 = wc := ⟨_, rfl⟩
                          subst hw9
                          clear hm1' hm2' hm3 hq2 g1 hx
                          have HBE := Lib.hid (HB8.out.grown hlw.out.grown HB8.out.size (fun k e => by injection e with e; subst e; exact hwg))
                          by_cases c1' : (Q : Int) < 2 ^ g
                          · have hQ : Q < 256 := by have := HPW.out; omega
                            have HC1 := Lib.hid c1'
                            have hnc1 : ¬ (2 : Int) ^ g ≤ (Q : Int) := by omega
                            clear c1'
                            by_cases c2' : m ≤ a + Q
                            · have hnone := HBADN.out (HSB.out (.inr (.inl c2')))
                              have hl := HL5.out
                              rw [hnone] at hl
                              obtain ⟨rfl, rfl, rfl⟩ := badT_eq hl
                              clear hnone hl
                              go_wp2_with fail
                              refine bodyPost_ret (results_tmp3 rfl _ _ _) rfl ?_
                              exact PTOut.nil HBE.out
                            · have hcl := hlw.out.cell (j := a + Q) (by omega)
                              have hfz := hlw.out.frozen (a + Q)
                              obtain ⟨bl, hbl⟩ : ∃ bl, blen p = bl := ⟨_, rfl⟩
                              have hblb : bl ≤ 64 := by rw [← hbl]; exact blen_64 _ hpu2
                              have hbad : (p ≠ 0 ∧ 64 ≤ bl + W) ∨ (¬ (p ≠ 0 ∧ 64 ≤ bl + W) ∧ ((p = 0 ∧ 63 < bl + W) ∨ ¬ 63 < bl + W)) := by omega
                              rcases hbad with ⟨hp0, hbw⟩ | ⟨hnb, hcs⟩
                              · have hnone := HBADN.out (HSB.out (.inr (.inr ⟨by omega, by rw [hbl]; exact hbw⟩)))
                                have hl := HL5.out
                                rw [hnone] at hl
                                obtain ⟨rfl, rfl, rfl⟩ := badT_eq hl
                                have HBL := Lib.hid hbl
                                have hpb : ((p : Int) != 0) = true := by simp [hp0]
                                clear hnone hl hbl
                                go_wp2_with fail
                                refine (refBits_any p _ hpu2).mono ?_; rintro e w' ⟨rfl, rfl⟩
                                rw [HBL.out]
                                go_wp2_with fail
                                refine bodyPost_ret (results_tmp3 rfl _ _ _) rfl ?_
                                exact PTOut.nil HBE.out
                              · have hok := HSTEP.out.trans (HSO.out HC1.out (by omega) (by rw [hbl]; omega))
                                have HOK := Lib.hid hok; have HBL := Lib.hid hbl
                                clear hok hnb hbl
                                rcases hcs with ⟨hp0, hbw⟩ | hbw
                                · have hpb : ((p : Int) != 0) = false := by simp [hp0]
                                  clear hp0
                                  go_wp2_with fail
                                  refine (refBits_any p _ hpu2).mono ?_; rintro e w' ⟨rfl, rfl⟩
                                  rw [HBL.out]
                                  go_wp2_with fail
                                  go_region
                                  all_goals
                                    go_wp2_with fail
                                    go_roundw
                                    case rel => exact ⟨j + 1, a + Q, _, by omega, by go_num, by go_num, by omega, HOK, Lib.hid (by first | exact (hlw.out.set_ (by omega) _).drew | exact hlw.out.drew.set_ (by omega) _ | exact hlw.out.set_ (by omega) _)⟩
                                    case measure => simp [intOf] <;> omega
                                · go_wp2_with fail
                                  refine (refBits_any p _ hpu2).mono ?_; rintro e w' ⟨rfl, rfl⟩
                                  rw [HBL.out]
                                  go_wp2_with fail
                                  go_region
                                  all_goals
                                    go_wp2_with fail
                                    go_roundw
                                    case rel => exact ⟨j + 1, a + Q, _, by omega, by go_num, by go_num, by omega, HOK, Lib.hid (by first | exact (hlw.out.set_ (by omega) _).drew | exact hlw.out.drew.set_ (by omega) _ | exact hlw.out.set_ (by omega) _)⟩
                                    case measure => simp [intOf] <;> omega
                          · have hnone := HBADN.out (HSB.out (.inl c1'))
                            have hc1 : (2 : Int) ^ g ≤ (Q : Int) := by omega
                            have hl := HL5.out
                            rw [hnone] at hl
                            obtain ⟨rfl, rfl, rfl⟩ := badT_eq hl
                            clear hnone hl c1'
                            go_wp2_with fail
                            refine bodyPost_ret (results_tmp3 rfl _ _ _) rfl ?_
                            exact PTOut.nil HBE.out
                      · obtain rfl : sm = j := by omega
                        obtain ⟨w9, hw9⟩ : ∃ w9, w9 = wr := ⟨_, rfl⟩
                        subst hw9
                        have hl := HL5.out
                        rw [hpn.out] at hl
                        have HLW := Lib.hid hlw.out
                        obtain ⟨hqu, _⟩ := HPU.out _ hpn.out
                        have HB9 := Lib.hid (HB8.out.grown hlw.out.grown HB8.out.size (fun k e => by injection e with e; subst e; exact hwg))
                        have HS99 := Lib.hid (show Sl w9 .u8 G9 n9 c9 v2 from ⟨hlw.out.far HS9.out.1 (fun b o h => by have := HF8.out b o h; omega), HS9.out.2⟩)
                        obtain ⟨q, hqe⟩ : ∃ q, q = (l1, a) := ⟨_, rfl⟩
                        rw [← hqe] at hl hqu
                        have hq1 : l1 = q.1 := by rw [hqe]
                        subst hq1
                        have HQL := Lib.hid hlw.out.len
                        have HL6 := Lib.hid hl; have HQU := Lib.hid hqu
                        clear hl hqu hlw hqe
                        go_wp2_with fail
                        go_loopw [27, 28] (fun v i wr => ∃ j : Nat, j ≤ m ∧ i = .int .i64 j ∧ Hid (wr.ownsRow w9.heap.size 3 1 v j ((sumL Bv (q.1.take j)).map (Value.int .i64))) ∧ Hid (Below w9.heap.size w9 wr) ∧ Hid ((q.1.take j).all (sumOk Bv s) = true)) (fun _ i _ => m - (intOf i).toNat)
                        case atStart => exact ⟨0, by omega, rfl, own_empty w9 _ 1, (Below.refl _ _).alloc (Nat.le_refl _) _, rfl⟩
                        case round =>
                          obtain ⟨j, hj, rfl, hown, hbw, hok⟩ := hrel
                          by_cases hlt : j < m
                          · have hjl : j < q.1.length := by rw [HQL.out]; exact hlt
                            have hcu := (hbw.out.cell (p := ⟨g', j, none⟩) HLW.out.lt).trans (HLW.out.cell hlt)
                            have hur := HQU.out _ (getD_mem q.1 j hjl)
                            have hts := take_snoc q.1 j hjl
                            have hall : q.1.all (sumOk Bv s) = true → sumOk Bv s (q.1.getD j 0) = true := fun h => List.all_eq_true.1 h _ (getD_mem q.1 j hjl)
                            have hsn : sumL Bv (q.1.take (j + 1)) = sumL Bv (q.1.take j) ++ [(stepR Bv (q.1.getD j 0) false).1] := by unfold sumL; rw [hts, List.map_append]; rfl
                            have hal : (q.1.take (j + 1)).all (sumOk Bv s) = sumOk Bv s (q.1.getD j 0) := by rw [hts, List.all_append, hok.out]; simp
                            obtain ⟨u, hue⟩ : ∃ u, u = q.1.getD j 0 := ⟨_, rfl⟩
                            rw [← hue] at hcu hur hall hsn hal
                            obtain ⟨x, ok, hst⟩ : ∃ x ok, stepR Bv u false = (x, ok) := ⟨_, _, rfl⟩
                            have hxr := stepR_range Bv u false hbv hur.1
                            have hsok : sumOk Bv s u = (ok && (s || decide (0 ≤ x))) := by unfold sumOk; rw [hst]
                            rw [hst] at hsn hxr
                            rw [hsok] at hall hal
                            have HST := Lib.hid hst; have HALL := Lib.hid hall; have HSN := Lib.hid hsn; have HAL := Lib.hid hal
                            have hzw := hbw.out.size
                            clear hts hall hsn hal hue hst hsok
                            have hcs : ((ok && (s || decide (0 ≤ x))) = false ∧ (ok = false ∨ (ok = true ∧ s = false ∧ x < 0))) ∨ ((ok && (s || decide (0 ≤ x))) = true ∧ ok = true ∧ (s = true ∨ (s = false ∧ ¬ x < 0))) := by
                              cases ok <;> cases s <;> by_cases hx0 : 0 ≤ x <;> simp [hx0] <;> omega
                            rcases hcs with ⟨hf, hcs⟩ | ⟨hf, rfl, hcs⟩
                            · have hl := HL6.out
                              unfold takeP4 at hl
                              simp only [] at hl
                              rw [if_neg (fun h => by rw [HALL.out h] at hf; cases hf)] at hl
                              obtain ⟨rfl, rfl, rfl⟩ := badT_eq hl
                              clear hl hf
                              rcases hcs with rfl | ⟨rfl, rfl, hx0⟩
                              all_goals
                                go_wp2_with fail
                                refine (refStep_any _ Bv u false hbv hur x _ HST.out).mono ?_; rintro e w' ⟨rfl, rfl⟩
                                go_wp2_with fail
                                refine bodyPost_ret (results_tmp3 rfl _ _ _) rfl ?_
                                exact PTOut.nil (on HB9.out hbw.out)
                            · rw [hf] at HAL
                              clear hf
                              rcases hcs with rfl | ⟨rfl, hx0⟩
                              all_goals
                                go_wp2_with fail
                                refine (refStep_any _ Bv u false hbv hur x true HST.out).mono ?_; rintro e w' ⟨rfl, rfl⟩
                                go_wp2_with (at_builtin; refine wpList_i64 _ rfl _ _ rfl w9.heap.size _ j _ rfl (hown.out.alloc _) _ 1 1 [_] rfl (ri_one_atp rfl) (by omega) (by simp <;> omega) ?_; intro G c w3' hown3 hgr hcc)
                                all_goals
                                  have hb3 := push_ hbw.out (Nat.le_refl _) hown.out hgr
                                  rw [← HSN.out] at hown3
                                  have HO3 := Lib.hid hown3
                                  clear hown3 hgr
                                  go_wp2_with fail
                                  go_roundw
                                  case rel => exact ⟨j + 1, by omega, by go_num, HO3, hb3, HAL⟩
                                  case measure => simp [intOf] <;> omega
                          · obtain rfl : m = j := by omega
                            have ho := hown.out
                            have hoka := hok.out
                            rw [List.take_of_length_le (by rw [HQL.out]; exact Nat.le_refl _)] at ho hoka
                            obtain ⟨GF, cF, rfl⟩ := own_form ho
                            have HOF := Lib.hid (Sl.of_own ho)
                            have hl := HL6.out
                            unfold takeP4 at hl
                            simp only [] at hl
                            rw [if_pos hoka] at hl
                            injection hl with h1 h2; injection h2 with h2 h3
                            subst h1 h2 h3
                            clear ho hown hoka hok
                            go_wp2_with fail
                            refine bodyPost_ret (results_tmp3 rfl _ _ _) rfl ?_
                            exact ⟨_, _, _, _, _, _, rfl, HOF.out, HS99.out.below hbw.out, on HB9.out hbw.out⟩
                  · have hl := HL4.out
                    unfold takeP3 at hl
                    rw [if_pos he2x] at hl
                    obtain ⟨rfl, rfl, rfl⟩ := badT_eq hl
                    have heb : (e2 != 0) = true := by simp [he2x]
                    clear hl
                    go_wp2_with fail
                    refine bodyPost_ret (results_tmp3 rfl _ _ _) rfl ?_
                    exact PTOut.nil HB8.out
                · have hl := HL3.out
                  unfold takeP2b at hl
                  rw [if_pos he1x] at hl
                  obtain ⟨rfl, rfl, rfl⟩ := badT_eq hl
                  have heb : (e1 != 0) = true := by simp [he1x]
                  clear hl
                  go_wp2_with fail
                  refine bodyPost_ret (results_tmp3 rfl _ _ _) rfl ?_
                  exact PTOut.nil hb6.out
end Go.Proofs.YtmejoococajikaaGreat

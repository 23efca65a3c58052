/- Joined texts: TakeB2. Each has its own head line. No condition beyond those that its theorems state. -/
import Derived.Test.YtlmfdmaoakckgaaJ34
set_option linter.unusedVariables false

/- boolrle.Take. -/
namespace Go.Proofs.Ytlmfdmaoakckgaa
open Go.RowKit

theorem decF_len0 (b : List Int) (m : Int) (h : (decR b m).2.2 = 0) : ((decR b m).1.length : Int) = m := (decR_len b m h).2.2
theorem bitAt_eq (x : List Int) (j t : Nat) (ht : t < 8) : bitAt x (8 * j + t) = decide ((x.getD j 0).toNat / 2 ^ (7 - t) % 2 = 1) := by
  unfold bitAt
  rw [show (8 * j + t) / 8 = j from by omega, show (8 * j + t) % 8 = t from by omega]

set_option maxRecDepth 100000 in
set_option maxHeartbeats 2000000 in
theorem BTake_any (w : World) (A : Option Addr) (n cap : Nat) (b : List Int) (hr : Ri w .u8 A n b) (hu : U8 b) (hc : n ≤ cap) (hm : cap ≤ 9223372036854775807) (hn : n ≤ 1000000) (many : Int) (l : List Bool) (r : List Int) (er : Int) (hl : takeB b many = (l, r, er)) :
    Calls Try.prog 50 #[.slice A n cap, .int .i64 many] w (TakeOutB w l r er) := by
  have HR := Lib.hid hr; have HU := Lib.hid hu
  clear hr hu
  unfold takeB at hl
  by_cases hbad : many < 0 ∨ 4096 < many
  · rw [if_pos hbad] at hl
    injection hl with e1 hl; injection hl with e2 e3
    subst e1 e2 e3
    rcases hbad with hbad | hbad
    all_goals
      go_enter Try.func50, Try.ntmps50
      go_wp2_with fail
      go_returns
      exact ⟨none, 0, 0, none, 0, 0, rfl, Sb.nil _, Sl.nil _ _, Below.refl _ _⟩
  · rw [if_neg hbad] at hl
    obtain ⟨m, rfl⟩ := Int.eq_ofNat_of_zero_le (show 0 ≤ many by omega)
    rw [Int.toNat_natCast] at hl
    have hlen := decR_len b ((m + 7) / 8)
    have hu8 := decR_u8 b ((m + 7) / 8) HU.out
    obtain ⟨x, t, e, hd⟩ : ∃ x t e, decR b (((m : Int) + 7) / 8) = (x, t, e) := ⟨_, _, _, rfl⟩
    rw [hd] at hl hlen hu8
    dsimp only at hl hlen hu8
    have HD := Lib.hid hd; have HX := Lib.hid hu8.1
    clear hd hu8
    have hm8 : ((m : Int) + 8 - 1) / 8 = ((m : Int) + 7) / 8 := by omega
    by_cases he : e ≠ 0
    · rw [if_pos he] at hl
      injection hl with e1 hl; injection hl with e2 e3
      subst e1 e2 e3
      have he' : ¬ e = 0 := he
      clear he hlen
      go_enter Try.func50, Try.ntmps50
      go_wp2_with fail
      refine (Take5_any _ _ _ _ b HR.out HU.out hc hm hn _ x t e HD.out).mono ?_; rintro e' w1 ⟨G1, n1, c1, G2, n2, c2, rfl, hs1, hs2, hb1⟩
      go_wp2_with fail
      go_returns
      exact ⟨none, 0, 0, none, 0, 0, rfl, Sb.nil _, Sl.nil _ _, hb1⟩
    · obtain rfl : e = 0 := by omega
      rw [if_neg he] at hl
      have HL := Lib.hid hl
      obtain ⟨_, _, hxl⟩ := hlen rfl
      clear hl he hlen
      go_enter Try.func50, Try.ntmps50
      go_wp2_with fail
      refine (Take5_any _ _ _ _ b HR.out HU.out hc hm hn _ x t 0 HD.out).mono ?_; rintro e' w1 ⟨G1, n1, c1, G2, n2, c2, rfl, hs1, hs2, hb1⟩
      have hn1 := hs1.1.len
      have H1 := Lib.hid hs1.1; have H2 := Lib.hid hs2; have HB1 := Lib.hid hb1
      clear hs1 hs2 hb1
      clear hm8
      go_wp2_with fail
      have hL8 : x.length ≤ 1000 := by omega
      have hLm : m ≤ 8 * x.length ∧ 8 * x.length < m + 8 := by omega
      subst hn1
      clear hxl
      generalize hLL : x.length = L at *
      have HLL := Lib.hid hLL; clear hLL
      go_loopw [10, 34] (fun v i wr => ∃ j : Nat, j ≤ L ∧ i = .int .i64 j ∧ Hid (wr.ownsRow w1.heap.size 4 1 v (8 * j) ((bitsB x (8 * j)).map Value.bool)) ∧ Hid (Below w1.heap.size w1 wr)) (fun _ i _ => L - (intOf i).toNat)
      case atStart => exact ⟨0, by omega, rfl, Lib.hid (World.ownsRow_nil _ _ _ _), Below.refl _ _⟩
      case round =>
        obtain ⟨j, hj, rfl, ho, hb⟩ := hrel
        obtain ⟨wo, rfl⟩ : ∃ wo : World, wo = wr := ⟨_, rfl⟩
        by_cases hlt : j < L
        · obtain ⟨bb, oo, hA, hbl, hcell⟩ := H1.out.at_ (j := j) (by omega)
          subst hA
          have hc3 := (hb.out.cell (p := ⟨bb, oo + j, none⟩) hbl).trans hcell
          have hy := getD_u8 HX.out j
          obtain ⟨y, hyy⟩ : ∃ y : Nat, (y : Int) = x.getD j 0 := ⟨(x.getD j 0).toNat, by omega⟩
          have hbit : Hid (∀ t, t < 8 → bitAt x (8 * j + t) = decide (y / 2 ^ (7 - t) % 2 = 1)) := Lib.hid (fun t ht => by rw [bitAt_eq x j t ht, ← hyy, Int.toNat_natCast])
          rw [← hyy] at hc3 hy
          clear hcell hyy
          go_wp2_with fail
          go_loopw [10, 38] (fun v i wi => ∃ q : Nat, q ≤ 8 ∧ i = .int .i64 q ∧ Hid (wi.ownsRow w1.heap.size 4 1 v (8 * j + q) ((bitsB x (8 * j + q)).map Value.bool)) ∧ Hid (Below w1.heap.size w1 wi)) (fun _ i _ => 8 - (intOf i).toNat)
          case atStart => exact ⟨0, by omega, rfl, ho, hb⟩
          case round =>
            obtain ⟨q, hq, rfl, hoi, hbi⟩ := hrel
            by_cases hqt : q < 8
            · have htest := bit_test y (by omega) q hqt
              rw [← hbit.out q hqt] at htest
              have HT := Lib.hid htest
              have hz8 := hbi.out.size
              clear htest
              go_wp2_with (at_builtin; refine wpList_bool _ rfl _ _ rfl w1.heap.size _ (8 * j + q) _ rfl (hoi.out.alloc _) _ 1 1 [_] rfl (Rd.one _ _ _) (by omega) (by simp; omega) ?_; intro G c w2 hown hgr hcc)
              have HOWN := Lib.hid hown; clear hown
              go_wp2_with fail
              go_roundw
              case rel =>
                refine ⟨q + 1, by omega, by go_num, ?_, push_ hbi.out (Nat.le_refl _) hoi.out hgr⟩
                have h := HOWN.out
                rw [HT.out, ← bitsB_succ] at h
                exact Lib.hid h
              case measure => simp [intOf] <;> omega
            · obtain rfl : q = 8 := by omega
              go_wp2_with fail
              go_roundw
              case rel => exact ⟨j + 1, by omega, by go_num, hoi, hbi⟩
              case measure => simp [intOf] <;> omega
        · obtain rfl : j = L := by omega
          have H3 := Lib.hid (H2.out.below hb.out)
          have HBB := Lib.hid (on HB1.out hb.out)
          rcases ho.out.2 with ⟨rfl, h0⟩ | ⟨g, cg, cur, rfl, hh⟩
          · obtain rfl : j = 0 := by omega
            obtain rfl : m = 0 := by omega
            have h := HL.out
            rw [if_neg (show ¬ countB ((bitsB x (8 * 0)).drop 0) > 0 by simp [bitsB, countB])] at h
            injection h with e1 h; injection h with e2 e3
            subst e1 e2 e3
            clear h0
            go_wp2_with fail
            refine (Count_any _ _ _ _ [] (Rb.nil _ _) (by omega)).mono ?_
            rintro e' w3 ⟨rfl, rfl⟩
            rw [show countB [] = 0 from rfl]
            go_wp2_with fail
            go_returns
            exact ⟨_, _, _, _, _, _, rfl, Sb.nil _, H3.out, HBB.out⟩
          · have HO := Lib.hid ho.out
            have hcg := own_cap ho.out
            clear hh ho
            have HRB := Lib.hid (Rb.of_own HO.out)
            have HR1 := Lib.hid (HRB.out.rest (i := m) (b := g) (o := 0) (by omega) (fun _ => rfl))
            rw [Nat.zero_add] at HR1
            have HF := Lib.hid (HRB.out.first (m := m) (by omega))
            rw [bitsB_take x (8 * j) m (by omega)] at HF
            have hlo : cg = m → 8 * j - m = 0 := fun h => by omega
            have HLO := Lib.hid hlo
            clear hlo
            have hcnt : countB ((bitsB x (8 * j)).drop m) ≤ 8000 := Nat.le_trans (countB_le _) (by rw [List.length_drop, bitsB_len]; omega)
            have h := HL.out
            generalize hcc : countB ((bitsB x (8 * j)).drop m) = C at *
            have HCC := Lib.hid hcc; clear hcc
            rcases Nat.eq_zero_or_pos C with hC | hC
            · rw [if_neg (by omega)] at h
              injection h with e1 h; injection h with e2 e3
              subst e1 e2 e3
              subst hC
              clear hcnt
              go_wp2_with fail
              all_goals
                refine (Count_any _ _ _ _ ((bitsB x (8 * j)).drop m) (by first | exact HR1.out | exact HR1.out.zero (by omega) _) (by omega)).mono ?_
                rintro e' w3 ⟨rfl, rfl⟩
                rw [HCC.out]
                go_wp2_with fail
                go_returns
                exact ⟨_, _, _, _, _, _, rfl, ⟨HF.out, by omega, by omega⟩, H3.out, HBB.out⟩
            · rw [if_pos hC] at h
              injection h with e1 h; injection h with e2 e3
              subst e1 e2 e3
              go_wp2_with fail
              all_goals
                refine (Count_any _ _ _ _ ((bitsB x (8 * j)).drop m) (by first | exact HR1.out | exact HR1.out.zero (by omega) _) (by omega)).mono ?_
                rintro e' w3 ⟨rfl, rfl⟩
                rw [HCC.out]
                go_wp2_with fail
                go_returns
                exact ⟨none, 0, 0, none, 0, 0, rfl, Sb.nil _, Sl.nil _ _, HBB.out⟩
end Go.Proofs.Ytlmfdmaoakckgaa

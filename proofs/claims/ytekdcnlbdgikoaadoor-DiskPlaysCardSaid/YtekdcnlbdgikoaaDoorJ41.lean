/- Joined texts: RfA. Each has its own head line. No condition beyond those that its theorems state. -/
import Derived.Deep.RegionLaw
import Derived.Test.YtekdcnlbdgikoaaDoorJ40
set_option linter.unusedVariables false

/- The reference's disk: Append. -/
namespace Go.Proofs.YtekdcnlbdgikoaaDoor
open Go.RowKit

set_option maxRecDepth 100000 in
set_option maxHeartbeats 4000000 in
theorem rAppend_any (w : World) (base y : Nat) (q lf : Int) (A : Option Addr) (c : Nat) (L : List Fl) (h : Rk w base y q lf A c L) (hl : -9223372036854775808 ≤ lf ∧ lf < 9223372036854775808) (hq : -9223372036854775808 ≤ q ∧ q < 9223372036854775808) (hlen : L.length < 1000000) (hu : usedF L ≤ 1000000) (p : ByteArray)
    (A2 : Option Addr) (n cap : Nat) (bl : List Int) (hr : Ri w .u8 A2 n bl) (h8 : U8 bl) (hn : n ≤ 1000000) (er : Int) (M' : List Mf) (hc : appendM q lf (absF L) p bl = (er, M')) :
    Calls Tryd.prog 36 #[.pointer (some ⟨y, 0, none⟩), .string p, .slice A2 n cap] w fun e w' => ∃ L', absF L' = M' ∧ RkOut w base y q A c L (burnL lf) L' (.int .i64 er) e w' := by
  have HD := Lib.hid h; have HR0 := Lib.hid hr; have HBL := Lib.hid hr.len; have H8 := Lib.hid h8
  have hus := abs_used h.row
  unfold appendM at hc
  rw [← hus] at hc
  clear hr h8 hus
  by_cases h0 : lf = 0
  · rw [if_pos h0] at hc
    injection hc with h1 h2
    have HR := Lib.hid (And.intro h1 h2)
    have HL := Lib.hid (show decide (lf = 0) = true from decide_eq_true h0)
    clear h0 h1 h2 h
    go_enter Tryd.func36, Tryd.ntmps36
    go_wp2_with fail
    refine (rburnt_any _ _ _ _ _ _ _ _ HD.out hl).mono ?_; rintro e w1 ⟨rfl, hd1, ht1, hsz1⟩
    clear hsz1
    rw [HL.out]
    have HD1 := Lib.hid hd1; have HT1 := Lib.hid ht1
    clear hd1 ht1
    go_wp2_with fail
    go_ret
    obtain ⟨rfl, rfl⟩ := HR.out
    exact ⟨L, rfl, rfl, ⟨A, c, HD1.out⟩, HT1.out⟩
  · rw [if_neg h0, abs_find] at hc
    have HL := Lib.hid (show decide (lf = 0) = false from decide_eq_false h0)
    clear h0
    cases hf : findF L p with
    | none =>
      rw [hf] at hc
      injection hc with h1 h2
      have HR := Lib.hid (And.intro h1 h2)
      have HN := Lib.hid (at_none hf)
      clear h1 h2 hf h
      go_enter Tryd.func36, Tryd.ntmps36
      go_wp2_with fail
      refine (rburnt_any _ _ _ _ _ _ _ _ HD.out hl).mono ?_; rintro e w1 ⟨rfl, hd1, ht1, hsz1⟩
      clear hsz1
      rw [HL.out]
      have HD1 := Lib.hid hd1; have HT1 := Lib.hid ht1
      clear hd1 ht1
      go_wp2_with fail
      refine (at_any w1 base y q _ A c L HD1.out p hlen).mono ?_; rintro e w' ⟨rfl, hw'⟩
      rw [hw', HN.out]
      clear hw' w'
      go_wp2_with fail
      go_ret
      obtain ⟨rfl, rfl⟩ := HR.out
      exact ⟨L, rfl, rfl, ⟨A, c, HD1.out⟩, HT1.out⟩
    | some f =>
      rw [hf] at hc
      dsimp only [Option.map_some] at hc
      have hrow0 := h.row f (findF_some hf).1
      have hfn : f.n ≤ usedF L := by
        have := (findF_some hf).1
        unfold usedF
        exact mem_le_sum _ _ (List.mem_map_of_mem this)
      have hfl : f.abs.b.length = f.n := hrow0.1.len
      rw [hfl, HBL.out] at hc
      obtain ⟨k, hk, hkf, hfp, hat⟩ := at_some h.sort hf
      rcases h.addr with rfl | ⟨h0, g, rfl, hgl, hcells⟩
      · exact absurd hk (Nat.not_lt_zero _)
      have HN := Lib.hid hat
      have HKF := Lib.hid hkf
      have HK := Lib.hid hk
      have k0 : decide ((k : Int) < 0) = false := decide_eq_false (by omega)
      obtain ⟨N, hN⟩ : ∃ N, N = L.length := ⟨_, rfl⟩
      have HNL := Lib.hid hN
      have hkN : k < N := by omega
      clear hf h hcells hat hkf hN hrow0 hfl
      have HC := Lib.hid hc
      clear hc
      go_enter Tryd.func36, Tryd.ntmps36
      go_wp2_with fail
      refine (rburnt_any _ _ _ _ _ _ _ _ HD.out hl).mono ?_; rintro e w1 ⟨rfl, hd1, ht1, hsz1⟩
      clear hsz1
      rw [HL.out]
      have HD1 := Lib.hid hd1; have HT1 := Lib.hid ht1
      rcases hd1.addr with rfl | ⟨_, g1, hg1, hgl1, hcells1⟩
      · exact absurd HK.out (Nat.not_lt_zero _)
      obtain rfl : g = g1 := by injection hg1 with hg1; injection hg1
      obtain ⟨_, c1, _⟩ := hcells1 k HK.out
      rw [HKF.out] at c1
      have y2 := hd1.c2
      have y0 := hd1.c0
      rw [← HNL.out] at y2
      have fr := hd1.own.frozenAt (k * 3 + 1)
      clear hd1 ht1 hg1 hcells1
      go_wp2_with fail
      refine (at_any w1 base y q _ _ c L HD1.out p hlen).mono ?_; rintro e w' ⟨rfl, hw'⟩
      rw [hw', HN.out]
      clear hw' w'
      by_cases hbig : 1048576 < f.n + n
      · have hc := HC.out
        rw [if_pos hbig] at hc
        injection hc with h1 h2
        have HR := Lib.hid (And.intro h1 h2)
        have t1 : decide ((1048576 : Int) < (f.n : Int) + n) = true := decide_eq_true (by omega)
        clear h1 h2 HC
        go_wp2_with fail
        go_ret
        obtain ⟨rfl, rfl⟩ := HR.out
        exact ⟨L, rfl, rfl, ⟨_, c, HD1.out⟩, HT1.out⟩
      · have hc := HC.out
        rw [if_neg hbig] at hc
        have t1 : decide ((1048576 : Int) < (f.n : Int) + n) = false := decide_eq_false (by omega)
        have y0' : w1.drew.cell? ⟨y, 0, none⟩ = some (.int .i64 q) := y0
        clear HC
        by_cases hqq : q < (usedF L : Int) + n
        · have tq : decide (q < IntKind.i64.wrap ((usedF L : Int) + n)) = true := by rw [IntWalk.i64_in _ (by omega)]; exact decide_eq_true hqq
          rw [if_pos hqq] at hc
          injection hc with h1 h2
          have HR := Lib.hid (And.intro h1 h2)
          clear h1 h2 hqq
          go_wp2_with fail
          go_region_held3 (fun w' => w'.cell? ⟨y, 0, none⟩ = some (.int .i64 q)) (first | exact y0' | exact i0 | go_keep)
            (first | (go_at_call 47; refine (rUsed_any _ base y q (burnL lf) _ c L (HD1.out.below (Below.refl _ _).drew) hlen (by omega)).mono ?_; rintro e w3 ⟨rfl, hw3⟩; have i0 : w3.cell? ⟨y, 0, none⟩ = some (.int .i64 q) := (by rw [hw3]; exact y0')))
          go_wp2_with fail
          go_ret
          obtain ⟨rfl, rfl⟩ := HR.out
          exact ⟨L, rfl, rfl, ⟨_, c, HD1.out.below (Below.refl _ _).drew⟩, HT1.out.trans (TurnR.of_below (Below.refl _ _).drew)⟩
        · have tq : decide (q < IntKind.i64.wrap ((usedF L : Int) + n)) = false := by rw [IntWalk.i64_in _ (by omega)]; exact decide_eq_false hqq
          rw [if_neg hqq] at hc
          injection hc with h1 h2
          have HR := Lib.hid (And.intro h1 h2)
          clear h1 h2 hqq
          go_wp2_with fail
          go_region_held3 (fun w' => w'.cell? ⟨y, 0, none⟩ = some (.int .i64 q)) (first | exact y0' | exact i0 | go_keep)
            (first | (go_at_call 47; refine (rUsed_any _ base y q (burnL lf) _ c L (HD1.out.below (Below.refl _ _).drew) hlen (by omega)).mono ?_; rintro e w3 ⟨rfl, hw3⟩; have i0 : w3.cell? ⟨y, 0, none⟩ = some (.int .i64 q) := (by rw [hw3]; exact y0')))
          go_wp2_with fail
          have hbd : Below w1.heap.size w1 w1.drew.drew := (Below.refl _ _).drew.drew
          have HD2 := Lib.hid (HD1.out.below hbd)
          have HO := Lib.hid (own_empty w1.drew.drew 5 1)
          have hrow1 := HD1.out.row f (by rw [← HKF.out]; exact List.getElem_mem HK.out)
          have HRB := Lib.hid (Ri.alloc (w := w1.drew.drew) hrow1.1 (.cells #[] 5))
          have HRW := Lib.hid hrow1
          have hgw : g < w1.heap.size := hgl1
          have hgy : y ≠ g := fun e => HD1.out.ne g rfl e.symm
          have hyw : y < w1.heap.size := HD1.out.lt
          have HRA := Lib.hid (HR0.out.turnR HD.out HT1.out)
          have a2 : w1.drew.drew.cell? ⟨y, 2, none⟩ = some (.slice (some ⟨g, 0, none⟩) N c) := y2
          have a1 : w1.drew.drew.cell? ⟨g, k * 3 + 1, none⟩ = some (.slice f.A f.n f.c) := c1
          have hba := (Below.refl w1.heap.size w1).drew.drew.alloc (Nat.le_refl _) (.cells #[] 5)
          have b2 : (w1.drew.drew.alloc (.cells #[] 5)).cell? ⟨y, 2, none⟩ = some (.slice (some ⟨g, 0, none⟩) N c) := (hba.cell (p := ⟨y, 2, none⟩) hyw).trans y2
          have b1 : (w1.drew.drew.alloc (.cells #[] 5)).cell? ⟨g, k * 3 + 1, none⟩ = some (.slice f.A f.n f.c) := (hba.cell (p := ⟨g, k * 3 + 1, none⟩) hgw).trans c1
          have z2 : (w1.alloc (.cells #[] 5)).cell? ⟨y, 2, none⟩ = some (.slice (some ⟨g, 0, none⟩) N c) := b2
          have z1 : (w1.alloc (.cells #[] 5)).cell? ⟨g, k * 3 + 1, none⟩ = some (.slice f.A f.n f.c) := b1
          have hfnn : f.n + n ≤ 2000000000 := by omega
          have hfn0 : 0 + f.n ≤ 2000000000 := by omega
          have HBAL := Lib.hid hba
          clear hrow1 hba hbd y0 y0' tq t1
          go_region_law
            (first
              | (refine step_bytes rfl (.tmp 45) (.tmp 53) rfl w1.heap.size (.slice (some ⟨w1.heap.size, 0, none⟩) 0 0) 0 [] (by kernel_rfl) HO.out f.A f.n f.c f.b (by kernel_rfl) HRB.out hfn0 (by simp) ?_
                 intro G3 c3 w3 ho3 hg3 _
                 rw [Nat.zero_add, List.nil_append] at ho3
                 have HB3 := Lib.hid (push0 HBAL.out (Nat.le_refl _) HO.out hg3)
                 have d2 : w3.cell? ⟨y, 2, none⟩ = some (.slice (some ⟨g, 0, none⟩) N c) := (HB3.out.cell (p := ⟨y, 2, none⟩) hyw).trans y2
                 have d1 : w3.cell? ⟨g, k * 3 + 1, none⟩ = some (.slice f.A f.n f.c) := (HB3.out.cell (p := ⟨g, k * 3 + 1, none⟩) hgw).trans c1
                 have HO3 := Lib.hid ho3
                 have HRA3 := Lib.hid (HRA.out.below HB3.out)
                 have hz3 := HB3.out.size
                 clear ho3 hg3)
              | (refine step_bytes rfl (.tmp 54) (.tmp 55) rfl w1.heap.size (.slice G3 f.n c3) f.n f.b (by kernel_rfl) HO3.out A2 n cap bl (by kernel_rfl) HRA3.out hfnn hz3 ?_
                 intro G4 c4 w4 ho4 hg4 _
                 have HB4 := Lib.hid (push0 HB3.out (Nat.le_refl _) HO3.out hg4)
                 have e2 : w4.cell? ⟨y, 2, none⟩ = some (.slice (some ⟨g, 0, none⟩) N c) := (HB4.out.cell (p := ⟨y, 2, none⟩) hyw).trans y2
                 have e1 : w4.cell? ⟨g, k * 3 + 1, none⟩ = some (.slice f.A f.n f.c) := (HB4.out.cell (p := ⟨g, k * 3 + 1, none⟩) hgw).trans c1
                 have HO4 := Lib.hid ho4
                 have HD4 := Lib.hid (HD1.out.below HB4.out)
                 have fr4 := HD4.out.own.frozenAt (k * 3 + 1)
                 clear ho4 hg4))
          all_goals
            go_wp2_with fail
            go_ret
            obtain ⟨rfl, rfl⟩ := HR.out
            have hrow4 := HD4.out.row f (by rw [← HKF.out]; exact List.getElem_mem HK.out)
            have hO4 := HO4.out
            have hcap4 := own_cap hO4
            have hri4 := Ri.of_own hO4
            have hg : FlOk w4 ⟨f.p, G4, f.n + n, c4, f.b ++ bl, f.safe⟩ := ⟨hri4, (fun x hx => by
              rcases List.mem_append.1 hx with k | k
              · exact HRW.out.2.1 x k
              · exact H8.out x k), hcap4.1, hcap4.2, by have := hrow4.2.2.2.2.1; show f.safe ≤ f.n + n; omega, hrow4.2.2.2.2.2⟩
            have hput := HD4.out.put HK.out (j := k * 3 + 1) (by have := HK.out; omega) (.slice G4 (f.n + n) c4) (f := ⟨f.p, G4, f.n + n, c4, f.b ++ bl, f.safe⟩) (by rw [HKF.out]) (cellsF_setB L k HK.out _ (by rw [HKF.out]) (by rw [HKF.out])) hg
            refine ⟨_, ?_, rfl, ⟨_, _, hput.1⟩, (HT1.out.trans (TurnR.of_below HB4.out)).trans hput.2⟩
            rw [abs_set_at HD4.out.sort HK.out (by rw [HKF.out]), hfp]
            rfl
end Go.Proofs.YtekdcnlbdgikoaaDoor

/- Joined texts: RfO. Each has its own head line. No condition beyond those that its theorems state. -/
import Derived.Test.YtekdcnlbdgikoaaDoorJ37
import Derived.Test.YtekdcnlbdgikoaaDoorJ43
set_option linter.unusedVariables false

/- The reference's disk: Corrupt. -/
namespace Go.Proofs.YtekdcnlbdgikoaaDoor
open Go.RowKit

set_option maxRecDepth 100000 in
set_option maxHeartbeats 4000000 in
theorem rCorrupt_any (w : World) (base y : Nat) (q lf : Int) (A : Option Addr) (c : Nat) (L : List Fl) (h : Rk w base y q lf A c L) (hlen : L.length < 1000000) (hu : usedF L ≤ 1000000000) (p : ByteArray) (i m : Int) (hi : is64r i) (_hm : is64r m) :
    Calls Tryd.prog 42 #[.pointer (some ⟨y, 0, none⟩), .string p, .int .i64 i, .int .i64 m] w fun e w' => ∃ L', absF L' = corruptM (absF L) p i m ∧ RkOut w base y q A c L lf L' (.tuple #[]) e w' := by
  have HD := Lib.hid h
  have HAT := Lib.hid (at_any w base y q lf A c L h p hlen)
  unfold corruptM
  rw [abs_find]
  cases hf : findF L p with
  | none =>
    have HN := Lib.hid (at_none hf)
    clear hf h
    go_enter Tryd.func42, Tryd.ntmps42
    go_wp2_with fail
    refine HAT.out.mono ?_; rintro e w' ⟨rfl, rfl⟩
    rw [HN.out]
    go_wp2_with fail
    go_returns
    exact ⟨L, rfl, rfl, ⟨A, c, HD.out⟩, TurnR.refl _⟩
  | some f =>
    obtain ⟨k, hk, hkf, hfp, hat⟩ := at_some h.sort hf
    have y2 := h.c2
    have hyl := h.lt
    rcases h.addr with rfl | ⟨h0, g, rfl, hgl, hcells⟩
    · exact absurd hk (Nat.not_lt_zero _)
    obtain ⟨_, k1, _⟩ := hcells k hk
    rw [hkf] at k1
    have fr := h.own.frozenAt (k * 3 + 1)
    have hrow := h.row f (findF_some hf).1
    have hfn : f.n ≤ usedF L := by
      have := (findF_some hf).1
      unfold usedF
      exact mem_le_sum _ _ (List.mem_map_of_mem this)
    have HROW := Lib.hid hrow
    have HN := Lib.hid hat
    have HKF := Lib.hid hkf
    have HK := Lib.hid hk
    have HO := Lib.hid (own_empty w 5 1)
    have HRB := Lib.hid (hrow.1.alloc (.cells #[] 5))
    have k0 : decide ((k : Int) < 0) = false := decide_eq_false (by omega)
    dsimp only [Option.map_some]
    rw [show f.abs.b.length = f.n from hrow.1.len]
    obtain ⟨N, hN⟩ : ∃ N, N = L.length := ⟨_, rfl⟩
    have HNL := Lib.hid hN
    rw [← hN] at y2 hlen
    have hkN : k < N := by omega
    unfold is64r at hi
    clear hf h hat hrow hcells hN h0 hkf
    by_cases hbad : i < 0 ∨ (f.n : Int) ≤ i
    · rw [if_pos hbad]
      by_cases h1 : i < 0
      · have t1 : decide (i < 0) = true := decide_eq_true h1
        clear hbad
        go_enter Tryd.func42, Tryd.ntmps42
        go_wp2_with fail
        refine HAT.out.mono ?_; rintro e w' ⟨rfl, rfl⟩
        rw [HN.out]
        go_wp2_with fail
        go_returns
        exact ⟨L, rfl, rfl, ⟨_, c, HD.out⟩, TurnR.refl _⟩
      · have t1 : decide (i < 0) = false := decide_eq_false h1
        have t2 : decide ((f.n : Int) ≤ i) = true := decide_eq_true (by omega)
        clear hbad
        go_enter Tryd.func42, Tryd.ntmps42
        go_wp2_with fail
        refine HAT.out.mono ?_; rintro e w' ⟨rfl, rfl⟩
        rw [HN.out]
        go_wp2_with fail
        go_returns
        exact ⟨L, rfl, rfl, ⟨_, c, HD.out⟩, TurnR.refl _⟩
    · rw [if_neg hbad]
      obtain ⟨j, rfl⟩ : ∃ j : Nat, i = j := ⟨i.toNat, by omega⟩
      have hj : j < f.n := by omega
      have t1 : decide ((j : Int) < 0) = false := decide_eq_false (by omega)
      have t2 : decide (f.n ≤ j) = false := decide_eq_false (by omega)
      clear hbad
      go_enter Tryd.func42, Tryd.ntmps42
      go_wp2_with fail
      refine HAT.out.mono ?_; rintro e w' ⟨rfl, rfl⟩
      rw [HN.out]
      go_wp2_with (at_builtin; refine wpList_u8 _ rfl (.tmp 32) (.tmp 40) rfl w'.heap.size _ 0 [] rfl HO.out _ _ _ f.b rfl HRB.out (by omega) (by simp) ?_; intro G2 c3 w3 ho3 hg3 _)
      have HB3 := Lib.hid (push0 ((Below.refl w'.heap.size w').alloc (Nat.le_refl _) (.cells #[] 5)) (Nat.le_refl _) HO.out hg3)
      rw [Nat.zero_add, List.nil_append] at ho3
      have HO3 := Lib.hid ho3
      obtain ⟨gg, cc, hv, hgb, hgl3⟩ := ho3.form (by omega)
      injection hv with hv _ hv3
      subst hv hv3
      have hcj := (ho3.cellAt j (by omega)).trans (show (f.b.map (Value.int .u8))[j]? = some (.int .u8 (f.b.getD j 0)) from by rw [List.getElem?_map, List.getElem?_eq_getElem (by rw [HROW.out.1.len]; exact hj), List.getD_eq_getElem?_getD, List.getElem?_eq_getElem (by rw [HROW.out.1.len]; exact hj)]; rfl)
      have hfj := ho3.frozenAt j
      have hst := ho3.stored j (.int .u8 (bits .xor .u8 (f.b[j]?.getD 0) (m % 256)))
      obtain ⟨w4, hw4⟩ : ∃ w4, w4 = w3.setCell ⟨gg, j, none⟩ (.int .u8 (bits .xor .u8 (f.b[j]?.getD 0) (m % 256))) := ⟨_, rfl⟩
      rw [← hw4, ← List.map_set] at hst
      have HB4 : Hid (Below w'.heap.size w' w4) := Lib.hid (by rw [hw4]; exact HB3.out.setCell (p := ⟨gg, j, none⟩) hgb _)
      have HO4 := Lib.hid hst.1
      have HD4 := Lib.hid (HD.out.below HB4.out)
      have y4 : w4.cell? ⟨y, 2, none⟩ = some (.slice (some ⟨g, 0, none⟩) N c) := (HB4.out.cell (p := ⟨y, 2, none⟩) hyl).trans y2
      have k4 : w4.cell? ⟨g, k * 3 + 1, none⟩ = some (.slice f.A f.n f.c) := (HB4.out.cell (p := ⟨g, k * 3 + 1, none⟩) hgl).trans k1
      have f4 := HD4.out.own.frozenAt (k * 3 + 1)
      clear ho3 hg3 hst
      go_upto_region 4 with fail
      rw [← hw4]
      clear hw4
      go_wp2_with fail
      go_returns
      have hri := Ri.of_own HO4.out
      have hcap := own_cap HO4.out
      have hrow4 := HD4.out.row f (by rw [← HKF.out]; exact List.getElem_mem HK.out)
      have hg : FlOk w4 ⟨f.p, some ⟨gg, 0, none⟩, f.n, c3, f.b.set j (bits .xor .u8 (f.b[j]?.getD 0) (m % 256)), f.safe⟩ := ⟨hri, turned_u8 hrow4.2.1 j m, hcap.1, hcap.2, hrow4.2.2.2.2.1, hrow4.2.2.2.2.2⟩
      have hput := HD4.out.put HK.out (j := k * 3 + 1) (by have := HK.out; omega) (.slice (some ⟨gg, 0, none⟩) f.n c3) (f := ⟨f.p, some ⟨gg, 0, none⟩, f.n, c3, f.b.set j (bits .xor .u8 (f.b[j]?.getD 0) (m % 256)), f.safe⟩) (by rw [HKF.out]) (cellsF_setB L k HK.out _ (by rw [HKF.out]) (by rw [HKF.out])) hg
      refine ⟨_, ?_, rfl, ⟨_, _, hput.1⟩, (TurnR.of_below HB4.out).trans hput.2⟩
      rw [abs_set_at HD4.out.sort HK.out (by rw [HKF.out]), hfp]
      rfl
end Go.Proofs.YtekdcnlbdgikoaaDoor

/- The comparison of rows of numbers. -/
import Derived.Test.YtpngbljfboceeaaSame3
namespace Go.Proofs.Ytpngbljfboceeaa
open Go.RowKit

set_option maxRecDepth 100000 in
set_option maxHeartbeats 1000000 in
theorem Same8_any (w : World) (A B : Option Addr) (n m c d : Nat) (la lb : List Int) (ha : Ri w .i64 A n la) (hb : Ri w .i64 B m lb) (hn : n ≤ 1000000) (hm : m ≤ 1000000) (hua : I64 la) (hub : I64 lb) :
    Calls Try.prog 17 #[.slice A n c, .slice B m d] w fun e w' => e = .returned (.bool (decide (la = lb))) ∧ Below w.heap.size w w' := by
  have HA := Lib.hid ha; have HB := Lib.hid hb; clear ha hb
  have HUA := Lib.hid hua; have HUB := Lib.hid hub; clear hua hub
  by_cases hnm : n = m
  · subst hnm
    go_enter Try.func17, Try.ntmps17
    go_wp2_with fail
    go_loopw [5] (fun i wr => ∃ j : Nat, j ≤ n ∧ i = .int .i64 j ∧ Below w.heap.size w wr ∧ Hid (∀ k, k < j → la.getD k 0 = lb.getD k 0)) (fun i _ => n - (intOf i).toNat)
    case atStart => exact ⟨0, by omega, rfl, Below.refl _ _, Lib.hid fun k hk => absurd hk (by omega)⟩
    case round =>
      obtain ⟨j, hj, rfl, hbw, hsame⟩ := hrel
      by_cases hlt : j < n
      · obtain ⟨b1, o1, hA, hbl1, hc1⟩ := HA.out.at_ hlt
        obtain ⟨b2, o2, hB, hbl2, hc2⟩ := HB.out.at_ hlt
        subst hA hB
        have g1 := (hbw.cell (p := ⟨b1, o1 + j, none⟩) hbl1).trans hc1
        have g2 := (hbw.cell (p := ⟨b2, o2 + j, none⟩) hbl2).trans hc2
        have hx := HUA.out _ (getD_mem la j (by rw [HA.out.len]; exact hlt))
        have hy := HUB.out _ (getD_mem lb j (by rw [HB.out.len]; exact hlt))
        clear hc1 hc2
        by_cases heq : la.getD j 0 = lb.getD j 0
        · have hnew : Hid (∀ k, k < j + 1 → la.getD k 0 = lb.getD k 0) := by
            intro k hk
            rcases Nat.lt_or_ge k j with h | h
            · exact hsame.out k h
            · obtain rfl : k = j := by omega
              exact heq
          rw [← heq] at g2
          clear heq hsame hy
          generalize la.getD j 0 = x at *
          go_wp2_with fail
          go_quiet (fail)
          go_wp2_with fail
          go_roundw
          case rel => exact ⟨j + 1, by omega, by go_num, below_drewN hbw _, hnew⟩
          case measure => simp [intOf] <;> omega
        · have hne : la ≠ lb := fun h => heq (by rw [h])
          have hres := Lib.hid (decide_eq_false hne)
          generalize la.getD j 0 = x at *
          generalize lb.getD j 0 = y at *
          clear hne
          go_wp2_with fail
          go_quiet (fail)
          go_wp2_with fail
          go_ret
          exact ⟨ret_bool hres.out.symm, by first | exact hbw | exact below_drewN hbw _⟩
      · obtain rfl : j = n := by omega
        have hres := Lib.hid (decide_eq_true (take_eq_len la lb j HA.out.len HB.out.len hsame.out))
        go_wp2_with fail
        go_ret
        exact ⟨ret_bool hres.out.symm, by first | exact hbw | exact below_drewN hbw _⟩
  · have hne : la ≠ lb := fun h => hnm (by rw [← HA.out.len, ← HB.out.len, h])
    have hres := Lib.hid (decide_eq_false hne)
    clear hne
    go_enter Try.func17, Try.ntmps17
    go_wp2_with fail
    go_ret
    exact ⟨ret_bool hres.out.symm, Below.refl _ _⟩
end Go.Proofs.Ytpngbljfboceeaa

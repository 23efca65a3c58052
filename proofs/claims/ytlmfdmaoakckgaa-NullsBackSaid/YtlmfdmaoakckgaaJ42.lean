/- Joined texts: SameB0. Each has its own head line. No condition beyond those that its theorems state. -/
import Derived.Test.YtlmfdmaoakckgaaJ41
import Derived.Test.YtlmfdmaoakckgaaJ13
set_option linter.unusedVariables false

/- boolrle's laws: what they share. -/
namespace Go.Proofs.Ytlmfdmaoakckgaa
open Go.RowKit

theorem Rb.all {w : World} {A : Option Addr} {n : Nat} {l : List Bool} (h : Rb w A n l) (hl : 0 < n) : ∃ b o, A = some ⟨b, o, none⟩ ∧ b < w.heap.size ∧ ∀ j, j < n → w.cell? ⟨b, o + j, none⟩ = some (.bool (l.getD j false)) := by
  obtain ⟨b, o, e, hb, hc⟩ := h.2 hl
  exact ⟨b, o, e, hb, fun j hj => hc j _ (by simp [List.getElem?_map, List.getElem?_eq_getElem (show j < l.length by rw [h.len]; exact hj)])⟩
theorem takeB_eq_len (a b : List Bool) (n : Nat) (ha : a.length = n) (hb : b.length = n) (h : ∀ j, j < n → a.getD j false = b.getD j false) : a = b := by
  apply List.ext_getElem?
  intro j
  rcases Nat.lt_or_ge j n with hlt | hge
  · have := h j hlt
    simp only [List.getD] at this
    rw [List.getElem?_eq_getElem (by omega), List.getElem?_eq_getElem (by omega)] at this ⊢
    simpa using this
  · rw [List.getElem?_eq_none (by omega), List.getElem?_eq_none (by omega)]
theorem cut_rb {w : World} {A : Option Addr} {n : Nat} {l : List Bool} (h : Rb w A n l) (K : Nat) :
    (K < n ∧ (∃ b o, A = some ⟨b, o, none⟩) ∧ Rb w A K (l.take K)) ∨ (n ≤ K ∧ Rb w A n (l.take K)) := by
  rcases Nat.lt_or_ge K n with h1 | h1
  · obtain ⟨b, o, e, _⟩ := h.all (by omega)
    exact .inl ⟨h1, ⟨b, o, e⟩, h.first (by omega)⟩
  · exact .inr ⟨h1, by rw [List.take_of_length_le (by rw [h.len]; exact h1)]; exact h⟩
theorem Ri_litB (w : World) (k : IntKind) (l : List Int) (t : TypeId) (cs : Array Value) (hcs : cs = (l.map (Value.int k)).toArray) (n : Nat) (hn : l.length = n) :
    Ri (w.alloc (.cells cs t)) k (some ⟨w.heap.size, 0, none⟩) n l := by
  subst hcs
  refine ⟨by simpa using hn, fun _ => ⟨w.heap.size, 0, rfl, by simp, fun j u hu => ?_⟩⟩
  rw [(Blk.new w t _).cell]; simpa using hu
theorem takeB_len (b : List Int) (m : Int) : (takeB b m).1.length ≤ 4096 := by
  unfold takeB
  split
  · simp
  · split
    · simp
    · split
      · simp
      · rw [bitsB_len]; omega
set_option maxRecDepth 100000 in
set_option maxHeartbeats 1000000 in
theorem SameB_any (w : World) (A B : Option Addr) (n m c d : Nat) (la lb : List Bool) (ha : Rb w A n la) (hb : Rb w B m lb) (hn : n ≤ 1000000) (hm : m ≤ 1000000) :
    Calls Try.prog 19 #[.slice A n c, .slice B m d] w fun e w' => e = .returned (.bool (decide (la = lb))) ∧ Below w.heap.size w w' := by
  have HA := Lib.hid ha; have HB := Lib.hid hb; clear ha hb
  by_cases hnm : n = m
  · subst hnm
    go_enter Try.func19, Try.ntmps19
    go_wp2_with fail
    go_loopw [5] (fun i wr => ∃ j : Nat, j ≤ n ∧ i = .int .i64 j ∧ Below w.heap.size w wr ∧ Hid (∀ k, k < j → la.getD k false = lb.getD k false)) (fun i _ => n - (intOf i).toNat)
    case atStart => exact ⟨0, by omega, rfl, Below.refl _ _, Lib.hid fun k hk => absurd hk (by omega)⟩
    case round =>
      obtain ⟨j, hj, rfl, hbw, hsame⟩ := hrel
      by_cases hlt : j < n
      · obtain ⟨b1, o1, hA, hbl1, hc1⟩ := HA.out.at_ hlt
        obtain ⟨b2, o2, hB, hbl2, hc2⟩ := HB.out.at_ hlt
        subst hA hB
        have g1 := (hbw.cell (p := ⟨b1, o1 + j, none⟩) hbl1).trans hc1
        have g2 := (hbw.cell (p := ⟨b2, o2 + j, none⟩) hbl2).trans hc2
        clear hc1 hc2
        by_cases heq : la.getD j false = lb.getD j false
        · have hnew : Hid (∀ k, k < j + 1 → la.getD k false = lb.getD k false) := by
            intro k hk
            rcases Nat.lt_or_ge k j with h | h
            · exact hsame.out k h
            · obtain rfl : k = j := by omega
              exact heq
          rw [← heq] at g2
          clear heq hsame
          generalize la.getD j false = x at *
          cases x
          all_goals
            go_wp2_with fail
            go_quiet (fail)
            go_wp2_with fail
            go_roundw
            case rel => exact ⟨j + 1, by omega, by go_num, below_drewN hbw _, hnew⟩
            case measure => simp [intOf] <;> omega
        · have hne : la ≠ lb := fun h => heq (by rw [h])
          have hres := Lib.hid (decide_eq_false hne)
          generalize la.getD j false = x at *
          generalize lb.getD j false = y at *
          clear hne
          cases x <;> cases y
          · exact absurd rfl heq
          · go_wp2_with fail
            go_quiet (fail)
            go_wp2_with fail
            go_ret
            exact ⟨ret_bool hres.out.symm, by first | exact hbw | exact below_drewN hbw _⟩
          · go_wp2_with fail
            go_quiet (fail)
            go_wp2_with fail
            go_ret
            exact ⟨ret_bool hres.out.symm, by first | exact hbw | exact below_drewN hbw _⟩
          · exact absurd rfl heq
      · obtain rfl : j = n := by omega
        have hres := Lib.hid (decide_eq_true (takeB_eq_len la lb j HA.out.len HB.out.len hsame.out))
        go_wp2_with fail
        go_ret
        exact ⟨ret_bool hres.out.symm, by first | exact hbw | exact below_drewN hbw _⟩
  · have hne : la ≠ lb := fun h => hnm (by rw [← HA.out.len, ← HB.out.len, h])
    have hres := Lib.hid (decide_eq_false hne)
    clear hne
    go_enter Try.func19, Try.ntmps19
    go_wp2_with fail
    go_ret
    exact ⟨ret_bool hres.out.symm, Below.refl _ _⟩

end Go.Proofs.Ytlmfdmaoakckgaa

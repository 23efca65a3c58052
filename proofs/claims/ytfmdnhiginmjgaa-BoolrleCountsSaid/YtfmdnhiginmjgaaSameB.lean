/- boolrle's laws: what they share. -/
import Derived.Test.YtfmdnhiginmjgaaTakeB2
import Derived.Test.YtfmdnhiginmjgaaOpenB
namespace Go.Proofs.Ytfmdnhiginmjgaa
open Go.RowKit

theorem Rb.all {w : World} {A : Option Addr} {n : Nat} {l : List Bool} (h : Rb w A n l) (hl : 0 < n) : ∃ b o, A = some ⟨b, o, none⟩ ∧ b < w.heap.size ∧ ∀ j, j < n → w.cell? ⟨b, o + j, none⟩ = some (.bool (l.getD j false)) := by
  obtain ⟨b, o, e, hb, hc⟩ := h.2 hl
  exact ⟨b, o, e, hb, fun j hj => hc j _ (by simp [List.getElem?_map, List.getElem?_eq_getElem (show j < l.length by rw [h.len]; exact hj)])⟩
theorem takeB_eq_len (a b : List Bool) (n : Nat) (ha : a.length = n) (hb : b.length = n) (h : ∀ j, j < n → a.getD j false = b.getD j false) : a = b := by
  apply List.ext_getElem?
  intro j
  rcases Nat.lt_or_ge j n with hlt | hge
  · have := h j hlt
    simp only [List.getD] at this
    rw [List.getElem?_eq_getElem (by omega), List.getElem?_eq_getElem (by omega)] at this ⊢
    simpa using this
  · rw [List.getElem?_eq_none (by omega), List.getElem?_eq_none (by omega)]
theorem cut_rb {w : World} {A : Option Addr} {n : Nat} {l : List Bool} (h : Rb w A n l) (K : Nat) :
    (K < n ∧ (∃ b o, A = some ⟨b, o, none⟩) ∧ Rb w A K (l.take K)) ∨ (n ≤ K ∧ Rb w A n (l.take K)) := by
  rcases Nat.lt_or_ge K n with h1 | h1
  · obtain ⟨b, o, e, _⟩ := h.all (by omega)
    exact .inl ⟨h1, ⟨b, o, e⟩, h.first (by omega)⟩
  · exact .inr ⟨h1, by rw [List.take_of_length_le (by rw [h.len]; exact h1)]; exact h⟩
theorem Ri_litB (w : World) (k : IntKind) (l : List Int) (t : TypeId) (cs : Array Value) (hcs : cs = (l.map (Value.int k)).toArray) (n : Nat) (hn : l.length = n) :
    Ri (w.alloc (.cells cs t)) k (some ⟨w.heap.size, 0, none⟩) n l := by
  subst hcs
  refine ⟨by simpa using hn, fun _ => ⟨w.heap.size, 0, rfl, by simp, fun j u hu => ?_⟩⟩
  rw [(Blk.new w t _).cell]; simpa using hu
theorem takeB_len (b : List Int) (m : Int) : (takeB b m).1.length ≤ 4096 := by
  unfold takeB
  split
  · simp
  · split
    · simp
    · split
      · simp
      · rw [bitsB_len]; omega
def FewOutB (w : World) (A : Option Addr) (n k : Nat) (l : List Bool) (e : Ending) (w' : World) : Prop :=
  ∃ m c, e = .returned (.slice A m c) ∧ w' = w ∧ m ≤ c ∧ c ≤ 9223372036854775807 ∧ m ≤ k ∧ m ≤ n ∧ Rb w A m (l.take k)
set_option maxHeartbeats 400000 in
theorem few6_any (w : World) (A : Option Addr) (n c : Nat) (l : List Bool) (hr : Rb w A n l) (hc : n ≤ c) (hcm : c ≤ 9223372036854775807) :
    Calls Try.prog 11 #[.slice A n c] w (FewOutB w A n 4200 l) := by
  have HR := Lib.hid hr; clear hr
  rcases Nat.lt_or_ge 4200 n with h | h
  · go_enter Try.func11, Try.ntmps11
    go_wp2_with fail
    go_ret
    exact ⟨4200, c, rfl, rfl, by omega, hcm, Nat.le_refl _, by omega, HR.out.first (by omega)⟩
  · go_enter Try.func11, Try.ntmps11
    go_wp2_with fail
    go_ret
    exact ⟨n, c, rfl, rfl, hc, hcm, h, Nat.le_refl _, by rw [List.take_of_length_le (by rw [HR.out.len]; exact h)]; exact HR.out⟩

set_option maxRecDepth 100000 in
set_option maxHeartbeats 1000000 in
theorem SameB_any (w : World) (A B : Option Addr) (n m c d : Nat) (la lb : List Bool) (ha : Rb w A n la) (hb : Rb w B m lb) (hn : n ≤ 1000000) (hm : m ≤ 1000000) :
    Calls Try.prog 18 #[.slice A n c, .slice B m d] w fun e w' => e = .returned (.bool (decide (la = lb))) ∧ Below w.heap.size w w' := by
  have HA := Lib.hid ha; have HB := Lib.hid hb; clear ha hb
  by_cases hnm : n = m
  · subst hnm
    go_enter Try.func18, Try.ntmps18
    go_wp2_with fail
    go_loopw [5] (fun i wr => ∃ j : Nat, j ≤ n ∧ i = .int .i64 j ∧ Below w.heap.size w wr ∧ Hid (∀ k, k < j → la.getD k false = lb.getD k false)) (fun i _ => n - (intOf i).toNat)
    case atStart => exact ⟨0, by omega, rfl, Below.refl _ _, Lib.hid fun k hk => absurd hk (by omega)⟩
    case round =>
      obtain ⟨j, hj, rfl, hbw, hsame⟩ := hrel
      by_cases hlt : j < n
      · obtain ⟨b1, o1, hA, hbl1, hc1⟩ := HA.out.at_ hlt
        obtain ⟨b2, o2, hB, hbl2, hc2⟩ := HB.out.at_ hlt
        subst hA hB
        have g1 := (hbw.cell (p := ⟨b1, o1 + j, none⟩) hbl1).trans hc1
        have g2 := (hbw.cell (p := ⟨b2, o2 + j, none⟩) hbl2).trans hc2
        clear hc1 hc2
        by_cases heq : la.getD j false = lb.getD j false
        · have hnew : Hid (∀ k, k < j + 1 → la.getD k false = lb.getD k false) := by
            intro k hk
            rcases Nat.lt_or_ge k j with h | h
            · exact hsame.out k h
            · obtain rfl : k = j := by omega
              exact heq
          rw [← heq] at g2
          clear heq hsame
          generalize la.getD j false = x at *
          cases x
          all_goals
            go_wp2_with fail
            go_quiet (fail)
            go_wp2_with fail
            go_roundw
            case rel => exact ⟨j + 1, by omega, by go_num, below_drewN hbw _, hnew⟩
            case measure => simp [intOf] <;> omega
        · have hne : la ≠ lb := fun h => heq (by rw [h])
          have hres := Lib.hid (decide_eq_false hne)
          generalize la.getD j false = x at *
          generalize lb.getD j false = y at *
          clear hne
          cases x <;> cases y
          · exact absurd rfl heq
          · go_wp2_with fail
            go_quiet (fail)
            go_wp2_with fail
            go_ret
            exact ⟨ret_bool hres.out.symm, by first | exact hbw | exact below_drewN hbw _⟩
          · go_wp2_with fail
            go_quiet (fail)
            go_wp2_with fail
            go_ret
            exact ⟨ret_bool hres.out.symm, by first | exact hbw | exact below_drewN hbw _⟩
          · exact absurd rfl heq
      · obtain rfl : j = n := by omega
        have hres := Lib.hid (decide_eq_true (takeB_eq_len la lb j HA.out.len HB.out.len hsame.out))
        go_wp2_with fail
        go_ret
        exact ⟨ret_bool hres.out.symm, by first | exact hbw | exact below_drewN hbw _⟩
  · have hne : la ≠ lb := fun h => hnm (by rw [← HA.out.len, ← HB.out.len, h])
    have hres := Lib.hid (decide_eq_false hne)
    clear hne
    go_enter Try.func18, Try.ntmps18
    go_wp2_with fail
    go_ret
    exact ⟨ret_bool hres.out.symm, Below.refl _ _⟩

set_option maxRecDepth 100000 in
set_option maxHeartbeats 1000000 in
theorem shown06_any (w : World) :
    Calls Try.prog 10 #[] w fun e w' => e = .returned (.bool true) ∧ Below w.heap.size w w' := by
  go_enter Try.func10, Try.ntmps10
  go_wp2_with fail
  refine (BPut_any _ _ 3 3 [true, false, true] (Rb_lit _ _ _ _ rfl _ rfl) (by omega) [255, 160] 0 (by decide +kernel)).mono ?_; rintro e w1 ⟨G1, n1, c1, rfl, hr1, hb1⟩
  have hb1' := on ((Below.refl w.heap.size w).alloc (Nat.le_refl _) _) hb1
  have H1 := Lib.hid hr1.1
  clear hb1 hr1
  go_wp2_with fail
  refine (BTake_any _ _ 2 2 [255, 160] (Ri_litB _ _ _ _ _ rfl _ rfl) (by unfold U8; decide) (by omega) (by omega) (by omega) 3 [true, false, true] [] 0 (by decide +kernel)).mono ?_; rintro e w2 ⟨G2, n2, c2, G3, n3, c3, rfl, hr2, hr3, hb2⟩
  have hb2' := on ((Below.refl w1.heap.size w1).alloc (Nat.le_refl _) _) hb2
  have H2 := Lib.hid hr2.1
  have hn2 : n2 = 3 := by have := hr2.1.len; simpa using this.symm
  subst hn2
  clear hr2 hr3 hb2
  go_wp2_with fail
  refine (BTake_any _ _ 2 2 [255, 161] (Ri_litB _ _ _ _ _ rfl _ rfl) (by unfold U8; decide) (by omega) (by omega) (by omega) 3 [] [] 2 (by decide +kernel)).mono ?_; rintro e w3 ⟨G4, n4, c4, G5, n5, c5, rfl, hr4, hr5, hb3⟩
  have hb3' := on ((Below.refl w2.heap.size w2).alloc (Nat.le_refl _) _) hb3
  clear hr4 hr5 hb3
  have cv1 := conv_any (c := c1) ((H1.out.below hb2').below hb3')
  have s1 : (strOf [255, 160]).toList = [255, 160] := strOf_toList _
  obtain ⟨b, o, hA, hbl, hcell⟩ := (H2.out.below hb3').all (by omega)
  subst hA
  have g0 := hcell 0 (by omega)
  have g1 := hcell 1 (by omega)
  have g2 := hcell 2 (by omega)
  rw [Nat.add_zero] at g0
  change _ = some (Value.bool true) at g0
  change _ = some (Value.bool false) at g1
  change _ = some (Value.bool true) at g2
  clear hcell
  have HB := Lib.hid (on (on hb1' hb2') hb3')
  clear hb1' hb2' hb3'
  go_wp2_with fail
  go_ret
  exact ⟨rfl, HB.out⟩
end Go.Proofs.Ytfmdnhiginmjgaa

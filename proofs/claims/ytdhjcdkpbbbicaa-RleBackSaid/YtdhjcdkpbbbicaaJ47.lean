/- Joined texts: Same3, Same8, LawG2, LawG6. Each has its own head line. No condition beyond those that its theorems state. -/
import Derived.Test.YtdhjcdkpbbbicaaJ18
import Derived.Test.YtdhjcdkpbbbicaaJ38
import Derived.Test.YtdhjcdkpbbbicaaJ37
import Derived.Test.YtdhjcdkpbbbicaaJ44
import Derived.Test.YtdhjcdkpbbbicaaJ46
set_option linter.unusedVariables false

/- The laws' own comparison of numbers, and the cut of numbers. -/
namespace Go.Proofs.Ytdhjcdkpbbbicaa
open Go.RowKit

theorem ret_slice {A : Option Addr} {n m c : Nat} (h : n = m) : Ending.returned (.slice A n c) = .returned (.slice A m c) := by rw [h]
theorem take_eq_len (a b : List Int) (n : Nat) (ha : a.length = n) (hb : b.length = n) (h : ∀ j, j < n → a.getD j 0 = b.getD j 0) : a = b := by
  apply List.ext_getElem?
  intro j
  rcases Nat.lt_or_ge j n with hlt | hge
  · have := h j hlt
    simp only [List.getD] at this
    rw [List.getElem?_eq_getElem (by omega), List.getElem?_eq_getElem (by omega)] at this ⊢
    simpa using this
  · rw [List.getElem?_eq_none (by omega), List.getElem?_eq_none (by omega)]
set_option maxRecDepth 100000 in
set_option maxHeartbeats 1000000 in
theorem Same3_any (w : World) (A B : Option Addr) (n m c d : Nat) (la lb : List Int) (ha : Ri w .u64 A n la) (hb : Ri w .u64 B m lb) (hn : n ≤ 1000000) (hm : m ≤ 1000000) (hua : U64 la) (hub : U64 lb) :
    Calls Try.prog 30 #[.slice A n c, .slice B m d] w fun e w' => e = .returned (.bool (decide (la = lb))) ∧ Below w.heap.size w w' := by
  have HA := Lib.hid ha; have HB := Lib.hid hb; clear ha hb
  have HUA := Lib.hid hua; have HUB := Lib.hid hub; clear hua hub
  by_cases hnm : n = m
  · subst hnm
    go_enter Try.func30, Try.ntmps30
    go_wp2_with fail
    go_loopw [5] (fun i wr => ∃ j : Nat, j ≤ n ∧ i = .int .i64 j ∧ Below w.heap.size w wr ∧ Hid (∀ k, k < j → la.getD k 0 = lb.getD k 0)) (fun i _ => n - (intOf i).toNat)
    case atStart => exact ⟨0, by omega, rfl, Below.refl _ _, Lib.hid fun k hk => absurd hk (by omega)⟩
    case round =>
      obtain ⟨j, hj, rfl, hbw, hsame⟩ := hrel
      by_cases hlt : j < n
      · obtain ⟨b1, o1, hA, hbl1, hc1⟩ := HA.out.at_ hlt
        obtain ⟨b2, o2, hB, hbl2, hc2⟩ := HB.out.at_ hlt
        subst hA hB
        have g1 := (hbw.cell (p := ⟨b1, o1 + j, none⟩) hbl1).trans hc1
        have g2 := (hbw.cell (p := ⟨b2, o2 + j, none⟩) hbl2).trans hc2
        have hx := HUA.out _ (getD_mem la j (by rw [HA.out.len]; exact hlt))
        have hy := HUB.out _ (getD_mem lb j (by rw [HB.out.len]; exact hlt))
        clear hc1 hc2
        by_cases heq : la.getD j 0 = lb.getD j 0
        · have hnew : Hid (∀ k, k < j + 1 → la.getD k 0 = lb.getD k 0) := by
            intro k hk
            rcases Nat.lt_or_ge k j with h | h
            · exact hsame.out k h
            · obtain rfl : k = j := by omega
              exact heq
          rw [← heq] at g2
          clear heq hsame hy
          generalize la.getD j 0 = x at *
          go_wp2_with fail
          go_quiet (fail)
          go_wp2_with fail
          go_roundw
          case rel => exact ⟨j + 1, by omega, by go_num, below_drewN hbw _, hnew⟩
          case measure => simp [intOf] <;> omega
        · have hne : la ≠ lb := fun h => heq (by rw [h])
          have hres := Lib.hid (decide_eq_false hne)
          generalize la.getD j 0 = x at *
          generalize lb.getD j 0 = y at *
          clear hne
          go_wp2_with fail
          go_quiet (fail)
          go_wp2_with fail
          go_ret
          exact ⟨ret_bool hres.out.symm, by first | exact hbw | exact below_drewN hbw _⟩
      · obtain rfl : j = n := by omega
        have hres := Lib.hid (decide_eq_true (take_eq_len la lb j HA.out.len HB.out.len hsame.out))
        go_wp2_with fail
        go_ret
        exact ⟨ret_bool hres.out.symm, by first | exact hbw | exact below_drewN hbw _⟩
  · have hne : la ≠ lb := fun h => hnm (by rw [← HA.out.len, ← HB.out.len, h])
    have hres := Lib.hid (decide_eq_false hne)
    clear hne
    go_enter Try.func30, Try.ntmps30
    go_wp2_with fail
    go_ret
    exact ⟨ret_bool hres.out.symm, Below.refl _ _⟩
end Go.Proofs.Ytdhjcdkpbbbicaa

/- The comparison of rows of numbers. -/
namespace Go.Proofs.Ytdhjcdkpbbbicaa
open Go.RowKit

set_option maxRecDepth 100000 in
set_option maxHeartbeats 1000000 in
theorem Same8_any (w : World) (A B : Option Addr) (n m c d : Nat) (la lb : List Int) (ha : Ri w .i64 A n la) (hb : Ri w .i64 B m lb) (hn : n ≤ 1000000) (hm : m ≤ 1000000) (hua : I64 la) (hub : I64 lb) :
    Calls Try.prog 19 #[.slice A n c, .slice B m d] w fun e w' => e = .returned (.bool (decide (la = lb))) ∧ Below w.heap.size w w' := by
  have HA := Lib.hid ha; have HB := Lib.hid hb; clear ha hb
  have HUA := Lib.hid hua; have HUB := Lib.hid hub; clear hua hub
  by_cases hnm : n = m
  · subst hnm
    go_enter Try.func19, Try.ntmps19
    go_wp2_with fail
    go_loopw [5] (fun i wr => ∃ j : Nat, j ≤ n ∧ i = .int .i64 j ∧ Below w.heap.size w wr ∧ Hid (∀ k, k < j → la.getD k 0 = lb.getD k 0)) (fun i _ => n - (intOf i).toNat)
    case atStart => exact ⟨0, by omega, rfl, Below.refl _ _, Lib.hid fun k hk => absurd hk (by omega)⟩
    case round =>
      obtain ⟨j, hj, rfl, hbw, hsame⟩ := hrel
      by_cases hlt : j < n
      · obtain ⟨b1, o1, hA, hbl1, hc1⟩ := HA.out.at_ hlt
        obtain ⟨b2, o2, hB, hbl2, hc2⟩ := HB.out.at_ hlt
        subst hA hB
        have g1 := (hbw.cell (p := ⟨b1, o1 + j, none⟩) hbl1).trans hc1
        have g2 := (hbw.cell (p := ⟨b2, o2 + j, none⟩) hbl2).trans hc2
        have hx := HUA.out _ (getD_mem la j (by rw [HA.out.len]; exact hlt))
        have hy := HUB.out _ (getD_mem lb j (by rw [HB.out.len]; exact hlt))
        clear hc1 hc2
        by_cases heq : la.getD j 0 = lb.getD j 0
        · have hnew : Hid (∀ k, k < j + 1 → la.getD k 0 = lb.getD k 0) := by
            intro k hk
            rcases Nat.lt_or_ge k j with h | h
            · exact hsame.out k h
            · obtain rfl : k = j := by omega
              exact heq
          rw [← heq] at g2
          clear heq hsame hy
          generalize la.getD j 0 = x at *
          go_wp2_with fail
          go_quiet (fail)
          go_wp2_with fail
          go_roundw
          case rel => exact ⟨j + 1, by omega, by go_num, below_drewN hbw _, hnew⟩
          case measure => simp [intOf] <;> omega
        · have hne : la ≠ lb := fun h => heq (by rw [h])
          have hres := Lib.hid (decide_eq_false hne)
          generalize la.getD j 0 = x at *
          generalize lb.getD j 0 = y at *
          clear hne
          go_wp2_with fail
          go_quiet (fail)
          go_wp2_with fail
          go_ret
          exact ⟨ret_bool hres.out.symm, by first | exact hbw | exact below_drewN hbw _⟩
      · obtain rfl : j = n := by omega
        have hres := Lib.hid (decide_eq_true (take_eq_len la lb j HA.out.len HB.out.len hsame.out))
        go_wp2_with fail
        go_ret
        exact ⟨ret_bool hres.out.symm, by first | exact hbw | exact below_drewN hbw _⟩
  · have hne : la ≠ lb := fun h => hnm (by rw [← HA.out.len, ← HB.out.len, h])
    have hres := Lib.hid (decide_eq_false hne)
    clear hne
    go_enter Try.func19, Try.ntmps19
    go_wp2_with fail
    go_ret
    exact ⟨ret_bool hres.out.symm, Below.refl _ _⟩
end Go.Proofs.Ytdhjcdkpbbbicaa

/- The walk through RlePuts. -/
namespace Go.Proofs.Ytdhjcdkpbbbicaa
open Go.RowKit

set_option maxRecDepth 100000 in
set_option maxHeartbeats 1000000 in
theorem RlePuts_walk (w : World) (A : Option Addr) (n cap : Nat) (l : List Int) (hr : Ri w .i64 A n l) (hu : I64 l) (hc : n ≤ cap) (hm : cap ≤ maxLen) (s : Bool) :
    Calls Try.prog 4 #[.slice A n cap, .bool s] w fun e w' => e = .returned (.bool true) ∧ Below w.heap.size w w' := by
  unfold maxLen at hm
  have HU : Hid (I64 (l.take 1500)) := Lib.hid fun x hx => hu x (List.mem_of_mem_take hx)
  have HR := Lib.hid hr; clear hr hu
  obtain ⟨r, er, hl⟩ : ∃ r er, putGl (l.take 1500) s = (r, er) := ⟨_, _, rfl⟩
  have HLL := Lib.hid hl; clear hl
  go_enter Try.func4, Try.ntmps4
  go_wp2_with fail
  refine (shown11_any _).mono ?_; rintro e w1 ⟨rfl, hb1⟩
  go_wp2_with fail
  refine (few11_any _ _ _ _ 1500 l (HR.out.below hb1) hc hm).mono ?_; rintro e w1' ⟨m, c2, rfl, rfl, hmc, hcm2, hm42, hmn, hr2⟩
  have H2 := Lib.hid hr2; clear hr2
  go_wp2_with (at_builtin; refine wpList_i64 _ rfl _ _ rfl w1'.heap.size _ 0 [] rfl (own_empty w1' _ 1) _ _ _ (l.take 1500) rfl (H2.out.alloc _) (by omega) (by simp) ?_; intro G3 c3 w3 hown hgr hcc)
  have hb3 := push0 ((Below.refl w1'.heap.size w1').alloc (Nat.le_refl _) _) (Nat.le_refl _) (own_empty w1' _ 1) hgr
  rw [Nat.zero_add, List.nil_append] at hown
  have hc3 := own_cap hown
  have HO := Lib.hid (Ri.of_own hown); have HB3 := Lib.hid hb3
  clear hown hgr hcc hb3
  go_wp2_with fail
  refine (PutGl_any _ _ _ _ (l.take 1500) HO.out HU.out hc3.1 hc3.2 (by omega) s r er HLL.out).mono ?_; rintro e w4 ⟨G4, n4, c4, rfl, hr4, hb4⟩
  have H24 := Lib.hid ((H2.out.below HB3.out).below hb4); have HO4 := Lib.hid (HO.out.below hb4)
  go_wp2_with fail
  refine (refPutGl_any _ _ _ _ (l.take 1500) H24.out HU.out hmc hcm2 (by omega) s r er HLL.out).mono ?_; rintro e w5 ⟨G5, n5, c5, rfl, hr5, hb5⟩
  go_wp2_with fail
  refine (Same8_any _ _ _ _ _ _ _ (l.take 1500) (l.take 1500) (HO4.out.below hb5) (H24.out.below hb5) (by omega) (by omega) HU.out HU.out).mono ?_; rintro e w6 ⟨rfl, hb6⟩
  rw [decide_eq_true rfl]
  have cv1 := conv_any (c := c4) ((hr4.1.below hb5).below hb6)
  have cv2 := conv_any (c := c5) (hr5.1.below hb6)
  have st := strOf_same r
  generalize strOf r = S at *
  have HB := Lib.hid (on (on (on (on hb1 HB3.out) hb4) hb5) hb6)
  clear hr4 hr5 hb1 hb4 hb5 hb6
  go_wp2_with fail
  go_ret
  exact ⟨rfl, HB.out⟩
end Go.Proofs.Ytdhjcdkpbbbicaa

/- The walk through RleBack. -/
namespace Go.Proofs.Ytdhjcdkpbbbicaa
open Go.RowKit

theorem cut_ri13 {w : World} {kd : IntKind} {A : Option Addr} {n : Nat} {l : List Int} (h : Ri w kd A n l) (K : Nat) :
    (K < n ∧ (∃ b o, A = some ⟨b, o, none⟩) ∧ Ri w kd A K (l.take K)) ∨ (n ≤ K ∧ Ri w kd A n (l.take K)) := by
  rcases Nat.lt_or_ge K n with h1 | h1
  · obtain ⟨b, o, e, _⟩ := h.all (by omega)
    exact .inl ⟨h1, ⟨b, o, e⟩, h.first (by omega)⟩
  · exact .inr ⟨h1, by rw [List.take_of_length_le (by rw [h.len]; exact h1)]; exact h⟩
theorem keep_snocG (s : Bool) (l : List Int) (j : Nat) (h : j < l.length) : (l.take (j + 1)).filter (keepB s) = if keepB s (l.getD j 0) = true then (l.take j).filter (keepB s) ++ [l.getD j 0] else (l.take j).filter (keepB s) := by
  rw [take_snoc l j h, List.filter_append]
  split
  · rename_i h1; rw [List.filter_cons, if_pos h1]; rfl
  · rename_i h1; rw [List.filter_cons, if_neg h1]; simp

set_option maxRecDepth 100000 in
set_option maxHeartbeats 40000000 in
theorem RleBack_walk (w : World) (A : Option Addr) (n cap : Nat) (l : List Int) (hr : Ri w .i64 A n l) (hu : I64 l) (hc : n ≤ cap) (hm : cap ≤ maxLen)
    (B : Option Addr) (n2 cap2 : Nat) (l2 : List Int) (hr2 : Ri w .u8 B n2 l2) (hu2 : U8 l2) (hc2 : n2 ≤ cap2) (hm2 : cap2 ≤ maxLen) (s : Bool) :
    Calls Try.prog 8 #[.slice A n cap, .slice B n2 cap2, .bool s] w fun e w' => e = .returned (.bool true) ∧ Below w.heap.size w w' := by
  unfold maxLen at hm hm2
  have HU := Lib.hid hu; have HR := Lib.hid hr; have HN := Lib.hid hr.len
  have HU2 := Lib.hid (hu2.take 50); have HCUT := Lib.hid (cut_ri13 hr2 50)
  clear hr hu hr2 hu2
  go_enter Try.func8, Try.ntmps8
  go_wp2_with fail
  refine (shown11_any _).mono ?_; rintro e w1 ⟨rfl, hb1⟩
  have HB1 := Lib.hid hb1; clear hb1
  go_wp2_with fail
  have HB2 := Lib.hid (own_empty w1 3 1)
  go_loopw [8, 9] (fun v i wr => ∃ j : Nat, j ≤ n ∧ j ≤ 4096 ∧ i = .int .i64 j ∧ Hid (wr.ownsRow w1.heap.size 3 1 v ((l.take j).filter (keepB s)).length (((l.take j).filter (keepB s)).map (Value.int .i64))) ∧ Hid (Below w1.heap.size w1 wr)) (fun _ i _ => n - (intOf i).toNat)
  case atStart => exact ⟨0, by omega, by omega, rfl, HB2, (Below.refl w1.heap.size w1).alloc (Nat.le_refl _) _⟩
  case round =>
    obtain ⟨j, hj1, hj2, rfl, ho, hb⟩ := hrel
    by_cases hlt : j < n ∧ j < 4096
    · obtain ⟨hlt1, hlt2⟩ := hlt
      obtain ⟨b, o, hA, hbl, hcell⟩ := HR.out.at_ hlt1
      subst hA
      have hc3 := ((on HB1.out hb.out).cell (p := ⟨b, o + j, none⟩) hbl).trans hcell
      have hs := Lib.hid (keep_snocG s l j (by rw [HN.out]; exact hlt1))
      have hfl : ((l.take j).filter (keepB s)).length ≤ 4096 := by
        have h1 := List.length_filter_le (keepB s) (l.take j)
        rw [List.length_take] at h1; omega
      have hz := hb.out.size
      clear hcell
      generalize hx : l.getD j 0 = x at hs hc3
      clear hx
      obtain ⟨L, hL⟩ : ∃ L, L = (l.take j).filter (keepB s) := ⟨_, rfl⟩
      rw [← hL] at ho hs hfl
      clear hL
      have hway : (keepB s x = true ∧ (s = true ∨ (s = false ∧ 0 ≤ x))) ∨ (keepB s x = false ∧ s = false ∧ x < 0) := by
        unfold keepB
        cases s
        · by_cases h : 0 ≤ x
          · exact .inl ⟨by simpa using h, .inr ⟨rfl, h⟩⟩
          · exact .inr ⟨by simpa using h, rfl, by omega⟩
        · exact .inl ⟨by simp, .inl rfl⟩
      rcases hway with ⟨hk, hway⟩ | ⟨hk, rfl, hneg⟩
      · rw [hk, if_pos rfl] at hs
        clear hk
        rcases hway with rfl | ⟨rfl, hpos⟩
        all_goals
          go_wp2_with (at_builtin; refine wpList_i64 _ rfl _ _ rfl w1.heap.size _ L.length L rfl (ho.out.alloc _) _ 1 1 [_] rfl (Rd.one _ _ _) (by omega) (by simp; omega) ?_; intro G c w2 hown hgr hcc)
          have HOWN := Lib.hid hown; clear hown
          go_wp2_with fail
          go_roundw
          case rel =>
            refine ⟨j + 1, by omega, by omega, by go_num, ?_, push_ hb.out (Nat.le_refl _) ho.out hgr⟩
            have h := HOWN.out
            rw [hs.out, List.length_append, List.length_singleton]
            exact h
          case measure => simp [intOf] <;> omega
      · rw [hk, if_neg (by simp)] at hs
        clear hk
        go_wp2_with fail
        go_roundw
        case rel =>
          refine ⟨j + 1, by omega, by omega, by go_num, ?_, hb⟩
          rw [hs.out]
          exact ho
        case measure => simp [intOf] <;> omega
    · obtain ⟨L, hL⟩ : ∃ L, L = (l.take j).filter (keepB s) := ⟨_, rfl⟩
      have hLi : Hid (I64 L) := by rw [hL]; exact fun x hx => HU.out x (List.mem_of_mem_take (List.mem_filter.1 hx).1)
      have hLk : Hid (L.all (keepB s) = true) := by rw [hL]; exact List.all_eq_true.2 fun x hx => (List.mem_filter.1 hx).2
      have hLl : L.length ≤ 4096 := by
        have h1 := List.length_filter_le (keepB s) (l.take j)
        rw [hL]; rw [List.length_take] at h1; omega
      rw [← hL] at ho
      obtain ⟨G, c, rfl⟩ := own_form ho.out
      have HO := Lib.hid (Ri.of_own ho.out)
      have hocap := own_cap ho.out
      obtain ⟨oc1, oc2⟩ := hocap
      have HB := Lib.hid (on HB1.out hb.out)
      clear ho hb hL
      obtain ⟨p, hp, hp8, hpl, hpb⟩ := gl_back L s hLi.out hLk.out hLl
      have HP := Lib.hid hp; have HP8 := Lib.hid hp8; have HPB := Lib.hid (hpb (l2.take 50))
      clear hp hp8 hpb
      have hjj : j = n ∨ (j < n ∧ 4096 ≤ j) := by omega
      clear hlt
      rcases hjj with rfl | ⟨hjn, hj512⟩
      all_goals
        rcases HCUT.out with ⟨h1, ⟨bb, oo, rfl⟩, h2⟩ | ⟨h1, h2⟩
        all_goals
          have H4 := Lib.hid (h2.below HB.out); clear h2
          go_wp2_with fail
          refine (PutGl_any _ _ _ _ L HO.out hLi.out oc1 oc2 (by omega) s p 0 HP.out).mono ?_; rintro e w4 ⟨G4, n4, c4, rfl, hs4, hb4⟩
          have hn4 := hs4.1.len
          obtain rfl : n4 = p.length := hn4.symm
          have HR4 := Lib.hid hs4.1; have HO4 := Lib.hid (HO.out.below hb4); have HL4 := Lib.hid (H4.out.below hb4); have HB4 := Lib.hid (on HB.out hb4)
          clear hs4 hb4 hn4
          go_wp2_with (first | (at_builtin; refine wpList_u8 _ rfl (.tmp 55) (.tmp 56) rfl w4.heap.size _ 0 [] rfl (own_empty w4 _ 1) _ _ _ p rfl (HR4.out.alloc _) (by omega) (by simp) ?_; intro G6 c6 w6 hown hgr _; have hb6 := push0 ((Below.refl w4.heap.size w4).alloc (Nat.le_refl _) _) (Nat.le_refl _) (own_empty w4 _ 1) hgr; rw [Nat.zero_add, List.nil_append] at hown; have hz6 := hb6.size; have HO6 := Lib.hid hown; clear hown hgr) | (at_builtin; refine wpList_u8 _ rfl (.tmp 57) (.tmp 58) rfl w4.heap.size _ _ p rfl HO6.out _ _ _ (l2.take 50) rfl (HL4.out.below hb6) (by omega) (by omega) ?_; intro G7 c7 w7 hown hgr _; have hb7 := push0 hb6 (Nat.le_refl _) HO6.out hgr))
          have hs7 := Sl.of_own hown
          have HU7 : Hid (U8 (p ++ l2.take 50)) := by
            intro z hz
            rcases List.mem_append.1 hz with h | h
            · exact HP8.out z h
            · exact HU2.out z h
          have HS7 := Lib.hid hs7
          clear hown hgr hs7
          refine (TakeGl_any _ _ _ _ (p ++ l2.take 50) HS7.out.1 HU7.out HS7.out.2.1 HS7.out.2.2 (by omega) L.length s L (l2.take 50) 0 HPB.out).mono ?_; rintro e w8 ⟨G8, n8, c8, G9, n9, c9, rfl, hs8, hs9, hb8⟩
          have b8 : n8 ≤ 1000000 := by have := hs8.1.len; omega
          go_wp2_with fail
          refine (Same8_any _ _ _ _ _ _ _ L L hs8.1 ((HO4.out.below hb7).below hb8) b8 (by omega) hLi.out hLi.out).mono ?_; rintro e w9 ⟨rfl, hb9⟩
          rw [decide_eq_true rfl]
          have cv1 := conv_any (c := c9) (hs9.1.below hb9)
          have cv2 := conv_any (c := cap2) (((HL4.out.below hb7).below hb8).below hb9)
          have st := strOf_same (l2.take 50)
          generalize strOf (l2.take 50) = S at *
          have HBB := Lib.hid (on (on (on HB4.out hb7) hb8) hb9)
          clear hs8 hs9 b8 hb6 hb7 hb8 hb9 hz6
          go_wp2_with fail
          go_ret
          exact ⟨rfl, HBB.out⟩
end Go.Proofs.Ytdhjcdkpbbbicaa

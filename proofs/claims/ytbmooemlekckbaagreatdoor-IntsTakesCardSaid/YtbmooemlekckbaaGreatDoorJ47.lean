/- Joined texts: IntRT. Each has its own head line. No condition beyond those that its theorems state. -/
import Derived.Test.YtbmooemlekckbaaGreatDoorJ46
import Derived.Test.YtbmooemlekckbaaGreatDoorJ40
import Derived.Test.YtbmooemlekckbaaGreatDoorJ45
import Derived.Test.YtbmooemlekckbaaGreatDoorJ31
set_option linter.unusedVariables false

/- The reference of ints.Take. -/
namespace Go.Proofs.YtbmooemlekckbaaGreatDoor
open Go.RowKit

theorem takeB_manyI (b : List Int) (m : Int) (h : (takeB b m).2.2 = 0) : ((takeB b m).1.length : Int) = m := by
  unfold takeB at h ⊢
  split at h
  · cases h
  · rename_i h1
    rw [if_neg h1]
    split at h
    · cases h
    · rename_i h2
      rw [if_neg h2]
      split at h
      · cases h
      · rename_i h3
        rw [if_neg h3]
        dsimp only
        rw [bitsB_len]; omega
/-- append onto a row of the call's own, values; where the new slice lies. -/
theorem wpList_valx (w : World) {ops : Array Oper} {rest : List Oper} {o : Oper} {a : Act} {Q : Exit → Act → World → Prop} (hgd : o.guard = none) (s x : Operand)
    (ho : o.op = .call { callee := .builtin .append, args := #[s, x], argTypes := #[22, 22] })
    (base : Nat) (v : Value) (n : Nat) (l : List Val) (hs : a.eval s = v) (hown : w.ownsRow base 35 3 v n (cellsV l))
    (A : Option Addr) (m c : Nat) (l2 : List Val) (hx : a.eval x = .slice A m c) (hr : Rv w A m l2) (hb : n + m ≤ 2000000000) (hbase : base ≤ w.heap.size)
    (h : ∀ G cap w', w'.ownsRow base 35 3 (.slice G (n + m) cap) (n + m) (cellsV (l ++ l2)) → w.grownBy w' v.ownBlock → n + m ≤ cap → ((Value.slice G (n + m) cap).ownBlock = v.ownBlock ∨ (Value.slice G (n + m) cap).ownBlock = some w.heap.size) → wpList Tryz.prog ops Q rest (a.put o.dst (.slice G (n + m) cap)) w') : wpList Tryz.prog ops Q (o :: rest) a w := by
  obtain ⟨i0, hi, hz0, hz1, hz2⟩ := info_parts info_val
  refine wpList_append_any w hgd s x 22 ho base 35 i0 _ 3 32 Tryz.underlying22 hi hz0 hz1 hz2 rfl (by decide) v n _ hs hown A m c _ hx hr (Rv.oneCell _) (by unfold maxLen; omega) (by omega) hbase ?_
  intro G cap w' h1 h2 h3 h4
  rw [← cellsV_append] at h1
  exact h G cap w' h1 h2 h4 h3
/-- A row of the call's own lies in another block than what is read. -/
def Off (v : Value) (G : Option Addr) (n : Nat) : Prop := ∀ g b o, v.ownBlock = some g → G = some ⟨b, o, none⟩ → 0 < n → g ≠ b
theorem off_own {w : World} {B s sz g n : Nat} {T : TypeId} {G : Option Addr} {xs : List Value} (h : w.ownsRow B T s (.slice (some ⟨g, 0, none⟩) 0 0) 0 []) (hr : Rd w sz G n xs) (hs : 0 < sz) : Off (.slice (some ⟨g, 0, none⟩) 0 0) G n := by
  intro g' b o h1 h2 h3 h4
  have e : g' = g := by simpa [Value.ownBlock] using h1.symm
  subst e h4
  obtain ⟨b', o', hA, hb, hc⟩ := hr.2 h3
  rw [h2] at hA
  injection hA with hA
  injection hA with e1 e2 _
  subst e1 e2
  have hl : 0 < xs.length := by rw [hr.1]; exact Nat.mul_pos h3 hs
  have hc0 := hc 0 xs[0] (List.getElem?_eq_getElem hl)
  rcases h.2 with ⟨h5, _⟩ | ⟨g2, cap, cur, h5, _, h6, _, _, h7, _⟩
  · cases h5
  · injection h5 with h5 _ h8
    injection h5 with h5
    injection h5 with h5 _ _
    subst h5 h8
    have hz : cur = #[] := by
      apply Array.eq_empty_of_size_eq_zero
      rw [h7]; simp
    subst hz
    rw [cell_of_row w _ _ #[] _ _ h6] at hc0
    simp at hc0
theorem Off.far {w : World} {v V : Value} {G : Option Addr} {n sz N : Nat} {xs : List Value} (h : Off v G n) (hr : Rd w sz G n xs) (hat : V.ownBlock = v.ownBlock ∨ V.ownBlock = some N) (hN : w.heap.size ≤ N) : Off V G n := by
  intro g b o h1 h2 h3
  rcases hat with h4 | h4
  · exact h g b o (h4.symm.trans h1) h2 h3
  · obtain ⟨b', o', hA, hb, _⟩ := hr.2 h3
    rw [h2] at hA
    injection hA with hA
    injection hA with e1 _ _
    rw [h4] at h1
    injection h1 with h1
    omega
theorem rd_off {w w' : World} {v : Value} {G : Option Addr} {n sz : Nat} {xs : List Value} {o : Obj} (h : Off v G n) (hr : Rd w sz G n xs) (hg : (w.alloc o).grownBy w' v.ownBlock) : Rd w' sz G n xs := by
  rcases Nat.eq_zero_or_pos n with h0 | h0
  · subst h0
    exact ⟨hr.1, fun h => absurd h (by omega)⟩
  · exact (hr.alloc o).grown hg (fun g b o h1 h2 => h g b o h1 h2 h0)
set_option maxRecDepth 100000 in
set_option maxHeartbeats 8000000 in
theorem refTakeIn_any (w : World) (k many : Int) (A : Option Addr) (n cap : Nat) (b : List Int) (hr : Ri w .u8 A n b) (hu : U8 b) (hc : n ≤ cap) (hm : cap ≤ 9223372036854775807) (hn : n ≤ 100000) (l : List Val) (er : Int) (hp : takeIn k b many = (l, er)) :
    Calls Tryz.prog 10 #[.int .i64 k, .slice A n cap, .int .i64 many] w (ValsErrI w l er) := by
  have HR := Lib.hid hr; have HU := Lib.hid hu; have HP := Lib.hid hp
  have hbl : b.length ≤ 100000 := by rw [hr.len]; exact hn
  clear hr hu hp
  cases hk : isNum k
  · have HBAD := Lib.hid (take_bad HP.out (.inl hk))
    have HK := Lib.hid hk
    clear hk
    go_enter Tryz.func10, Tryz.ntmps10
    go_wp2_with fail
    refine (refNumber_any _ _).mono ?_; rintro e w' ⟨rfl, rfl⟩
    rw [HK.out]
    go_wp2_with fail
    go_ret2
    obtain ⟨rfl, rfl⟩ := HBAD.out
    exact ⟨_, _, _, rfl, Sv.nil _, Below.refl _ _⟩
  · have HK := Lib.hid hk
    clear hk
    by_cases hbad : many < 0 ∨ 4096 < many
    · have HBAD := Lib.hid (take_bad HP.out (.inr hbad))
      rcases hbad with h | h
      · go_enter Tryz.func10, Tryz.ntmps10
        go_wp2_with fail
        refine (refNumber_any _ _).mono ?_; rintro e w' ⟨rfl, rfl⟩
        rw [HK.out]
        go_wp2_with fail
        go_ret2
        obtain ⟨rfl, rfl⟩ := HBAD.out
        exact ⟨_, _, _, rfl, Sv.nil _, Below.refl _ _⟩
      · have h0 : ¬ many < 0 := by omega
        go_enter Tryz.func10, Tryz.ntmps10
        go_wp2_with fail
        refine (refNumber_any _ _).mono ?_; rintro e w' ⟨rfl, rfl⟩
        rw [HK.out]
        go_wp2_with fail
        go_ret2
        obtain ⟨rfl, rfl⟩ := HBAD.out
        exact ⟨_, _, _, rfl, Sv.nil _, Below.refl _ _⟩
    · have h0 : 0 ≤ many := by omega
      have h4 : many ≤ 4096 := by omega
      obtain ⟨m, rfl⟩ := Int.eq_ofNat_of_zero_le h0
      have hq := HP.out
      unfold takeIn at hq
      rw [if_neg (by rw [HK.out]; rintro (h | h | h); cases h; omega; omega)] at hq
      have HE := Lib.hid (own_empty w 35 3)
      have HBE := Lib.hid ((Below.refl w.heap.size w).alloc (Nat.le_refl _) (.cells #[] 35))
      have HRE := Lib.hid (HR.out.alloc (.cells #[] 35))
      clear hbad
      by_cases h1 : k = 1
      · rw [if_pos h1] at hq
        have t1 : (k == 1) = true := by simp [h1]
        clear h1
        have hmn := takeB_manyI b m
        obtain ⟨t, r, e0, ht⟩ : ∃ t r e0, takeB b (m : Int) = (t, r, e0) := ⟨_, _, _, rfl⟩
        unfold truthsR at hq
        rw [ht] at hq hmn
        have HT := Lib.hid ht; have HQ := Lib.hid hq; have HMN := Lib.hid hmn
        clear ht hq hmn
        go_enter Tryz.func10, Tryz.ntmps10
        go_wp2_with fail
        refine (refNumber_any _ _).mono ?_; rintro e w' ⟨rfl, rfl⟩
        rw [HK.out]
        go_wp2_with fail
        refine (refBTake_any _ _ _ _ b HRE.out HU.out hc hm (by omega) m t r e0 HT.out).mono ?_; rintro e w1 ⟨G1, n1, c1, G2, n2, c2, rfl, hs1, hs2, hb⟩
        have HS1 := Lib.hid hs1.1; have HB := Lib.hid (on HBE.out hb); have HN2 := Lib.hid hs2.1.len; have HN1 := Lib.hid hs1.1.len; have HO := Lib.hid (own_below HE.out hb)
        clear hs1 hs2 hb
        by_cases he : e0 = 0
        · subst he
          by_cases hr2 : 0 < n2
          · have h2 : (0 : Int) < (n2 : Int) := by omega
            have HBAD := Lib.hid (fin_bad HQ.out (.inr (by rw [HN2.out]; exact hr2)))
            go_wp2_with fail
            go_ret2
            obtain ⟨rfl, rfl⟩ := HBAD.out
            exact ⟨_, _, _, rfl, Sv.nil _, HB.out⟩
          · have h2 : ¬ (0 : Int) < (n2 : Int) := by omega
            have HGOOD := Lib.hid (fin_good HQ.out rfl (by rw [HN2.out]; omega))
            have hn1 : n1 = m := by have := HMN.out rfl; have := HN1.out; omega
            subst hn1
            go_wp2_with fail
            have HF := Lib.hid (off_own HO.out HS1.out (by decide))
            go_loopw [9, 13, 14] (fun v i _ wr => ∃ j : Nat, j ≤ n1 ∧ i = .int .i64 j ∧ Hid (wr.ownsRow w.heap.size 35 3 v j (cellsV ((t.take j).map bitV))) ∧ Hid (Off v G1 n1) ∧ Hid (Below w.heap.size w wr) ∧ Hid (Rb wr G1 n1 t)) (fun _ i _ _ => n1 - (intOf i).toNat)
            case atStart => exact ⟨0, by omega, rfl, HO, HF, HB, HS1⟩
            case round =>
              obtain ⟨j, hj, rfl, ho, hoff, hb1, hrb⟩ := hrel
              have hz := hb1.out.size
              by_cases hlt : j < n1
              · obtain ⟨b1, o1, hA, hbl, hc1⟩ := hrb.out.at_ hlt
                have ht := Lib.hid (takeB_snoc t j (by rw [HN1.out]; exact hlt))
                have hoff2 := hoff; have hrb2 := hrb
                subst hA
                generalize t.getD j false = x at *
                have hway : ∃ z : Int, bitV x = numV z ∧ ((x = true ∧ z = 1) ∨ (x = false ∧ z = 0)) := by
                  cases x
                  · exact ⟨0, rfl, .inr ⟨rfl, rfl⟩⟩
                  · exact ⟨1, rfl, .inl ⟨rfl, rfl⟩⟩
                obtain ⟨z, hz1, hz2⟩ := hway
                have HZ := Lib.hid hz1
                clear hz1
                rcases hz2 with ⟨rfl, rfl⟩ | ⟨rfl, rfl⟩
                all_goals
                  go_wp2_with (at_builtin; refine wpList_valx _ rfl _ _ rfl w.heap.size _ j _ rfl (own_below ho.out ((Below.refl _ _).alloc (Nat.le_refl _) _)) _ 1 1 [numV _] rfl (rv_one_at (by simp)) (by omega) (by simp; omega) ?_; intro G c w3 hown hgr hcc hat)
                  have HOWN := Lib.hid hown; have HNB := Lib.hid (push_ hb1.out (Nat.le_refl _) ho.out hgr)
                  have HF3 := Lib.hid (hoff.out.far hrb.out hat (by simp)); have HR3 := Lib.hid (rd_off hoff.out hrb.out hgr)
                  clear hown hgr hat hc1
                  go_wp2_with fail
                  go_roundw
                  case rel =>
                    refine ⟨j + 1, by omega, by go_num, ?_, HF3, HNB, HR3⟩
                    rw [ht.out, List.map_append, List.map_singleton, HZ.out]
                    exact HOWN
                  case measure => simp [intOf] <;> omega
              · obtain rfl : j = n1 := by omega
                have hfull : t.take j = t := List.take_of_length_le (by rw [HN1.out]; omega)
                rw [hfull] at ho
                obtain ⟨G, c, rfl⟩ := own_form ho.out
                have HO := Lib.hid (Sv.of_own ho.out)
                clear ho hoff
                go_wp2_with fail
                go_ret2
                obtain ⟨rfl, rfl⟩ := HGOOD.out
                exact ⟨_, _, _, rfl, HO.out, hb1.out⟩
        · have h3 : (e0 != 0) = true := by simp [he]
          have HBAD := Lib.hid (fin_bad HQ.out (.inl he))
          clear he
          go_wp2_with fail
          go_ret2
          obtain ⟨rfl, rfl⟩ := HBAD.out
          exact ⟨_, _, _, rfl, Sv.nil _, HB.out⟩
      · rw [if_neg h1] at hq
        have t1 : (k == 1) = false := by simp [h1]
        clear h1
        have hmk := fun W => Go.run_make_row' (P := Tryz.prog) 42 3 (.int .i64 0) 8 Tryz.underlying42 info_int rfl .i64 .i64 m (by omega) (by omega) W
        have HMK := Lib.hid hmk
        obtain ⟨L, R, e1, hL⟩ : ∃ L R e1, takeGl b m true = (L, R, e1) := ⟨_, _, _, rfl⟩
        have hmany := takeGl_many b m true
        have hrest := takeGl_rest b m true HU.out
        unfold plainR at hq
        rw [hL] at hq hmany hrest
        dsimp only at hq hmany hrest
        have H1 := Lib.hid hL; have HRU := Lib.hid hrest.1
        have hRl : R.length ≤ 100000 := by have := hrest.2; omega
        clear hmk hL hrest
        by_cases he : e1 = 0
        · rw [if_neg (by rw [he]; simp)] at hq
          have hLl : L.length = m := by have := hmany he; omega
          have HLl := Lib.hid hLl
          subst he
          clear hmany hLl
          by_cases h5 : k = 5
          · rw [decide_eq_true h5, if_pos rfl] at hq
            have t5 : (k == 5) = true := by simp [h5]
            clear h5
            obtain ⟨M, R2, e2, h2⟩ : ∃ M R2 e2, takeGl R m false = (M, R2, e2) := ⟨_, _, _, rfl⟩
            have hmany2 := takeGl_many R m false
            have hpos := takeGl_pos R m
            rw [h2] at hq hmany2 hpos
            dsimp only at hq hmany2 hpos
            have H2 := Lib.hid h2; have HPOS := Lib.hid hpos
            clear h2 hpos
            by_cases he2 : e2 = 0
            · rw [if_neg (by rw [he2]; simp)] at hq
              have hMl : M.length = m := by have := hmany2 he2; omega
              have HMl := Lib.hid hMl; have HQ := Lib.hid hq
              subst he2
              clear hmany2 hMl hq
              go_enter Tryz.func10, Tryz.ntmps10
              go_wp2_with fail
              refine (refNumber_any _ _).mono ?_; rintro e w' ⟨rfl, rfl⟩
              rw [HK.out]
              go_wp2_with fail
              refine (refTakeGl_any _ _ _ _ b HRE.out HU.out hc hm hn m true L R 0 H1.out).mono ?_; rintro e w0 ⟨G1, n1, c1, G2, n2, c2, rfl, hs1, hs2, hb⟩
              have hn1 : n1 ≤ 4096 := by have := hs1.1.len; have := HLl.out; omega
              have HN1 := Lib.hid hs1.1.len
              have hn2 : n2 ≤ 100000 := by have := hs2.1.len; omega
              have hma := (Below.refl w0.heap.size w0).alloc (Nat.le_refl _) (.cells (madeCells #[.int .i64 0] m) 3)
              have HS1 := Lib.hid (hs1.1.below hma); have HS2 := Lib.hid (hs2.below hma)
              have HB := Lib.hid (on (on HBE.out hb) hma); have HO := Lib.hid (own_below (own_below HE.out hb) hma)
              have hmk1 := HMK.out w0
              obtain ⟨k1, k2⟩ := hs2.2
              clear hs1 hs2 hb hma
              go_wp2_with fail
              clear hmk1
              generalize w0.alloc (.cells (madeCells #[.int .i64 0] m) 3) = Wm at *
              refine (refTakeGl_any _ _ _ _ R HS2.out.1 HRU.out k1 k2 hn2 m false M R2 0 H2.out).mono ?_; rintro e W1 ⟨G3, n3, c3, G4, n4, c4, rfl, hs3, hs4, hb3⟩
              have hn3 : n3 = n1 := by have := hs3.1.len; have := HMl.out; have := HN1.out; have := HLl.out; omega
              have hnm : n1 = m := by have := HN1.out; have := HLl.out; omega
              subst hn3 hnm
              have HS3 := Lib.hid hs3.1; have HS13 := Lib.hid (HS1.out.below hb3); have HB3 := Lib.hid (on HB.out hb3); have HO3 := Lib.hid (own_below HO.out hb3)
              have HN3 := Lib.hid hs3.1.len; have HN4 := Lib.hid hs4.1.len
              clear hs3 hs4 hb3
              by_cases hr2 : 0 < n4
              · have h2 : (0 : Int) < (n4 : Int) := by omega
                have HBAD : Hid (l = [] ∧ er = 2) := by
                  refine Lib.hid (fin_bad HQ.out ?_)
                  split
                  · exact .inr (by rw [HN4.out]; exact hr2)
                  · exact .inl (by simp)
                go_wp2_with fail
                go_ret2
                obtain ⟨rfl, rfl⟩ := HBAD.out
                exact ⟨_, _, _, rfl, Sv.nil _, HB3.out⟩
              · have h2 : ¬ (0 : Int) < (n4 : Int) := by omega
                have HF1 := Lib.hid (off_own HO3.out HS13.out (by decide)); have HF3 := Lib.hid (off_own HO3.out HS3.out (by decide))
                have l1 : (-9223372036854775808 : Int) / 1000 = -9223372036854776 ∧ (-9223372036854775808 : Int) % 1000 = 192 := by decide
                have l2 : (9223372036854775807 : Int) / 1000 = 9223372036854775 ∧ (9223372036854775807 : Int) % 1000 = 807 := by decide
                have L1 := Lib.hid l1; have L2 := Lib.hid l2
                clear l1 l2
                go_wp2_with fail
                go_loopw [9, 22, 23, 24, 25, 26, 27, 28, 29] (fun v i _ _ _ _ _ _ _ wr => ∃ j : Nat, j ≤ n3 ∧ i = .int .i64 j ∧ Hid (wr.ownsRow w.heap.size 35 3 v j (cellsV (((L.zip M).take j).map fun q => numV (1000 * q.1 + q.2)))) ∧ Hid (((L.zip M).take j).all (fun q => mayT q.1 q.2) = true) ∧ Hid (Off v G1 n3 ∧ Off v G3 n3) ∧ Hid (Below w.heap.size w wr) ∧ Hid (Ri wr .i64 G1 n3 L ∧ Ri wr .i64 G3 n3 M)) (fun _ i _ _ _ _ _ _ _ _ => n3 - (intOf i).toNat)
                case atStart => exact ⟨0, by omega, rfl, HO3, Lib.hid (by simp), Lib.hid ⟨HF1.out, HF3.out⟩, HB3, Lib.hid ⟨HS13.out, HS3.out⟩⟩
                case round =>
                  obtain ⟨j, hj, rfl, ho, hall, hoff, hb1, hrr⟩ := hrel
                  have hz := hb1.out.size
                  by_cases hlt : j < n3
                  · obtain ⟨b1, o1, hA, hbl1, g1⟩ := hrr.out.1.at_ hlt
                    obtain ⟨b2, o2, hB, hbl2, g2⟩ := hrr.out.2.at_ hlt
                    subst hA hB
                    have hjM : j < M.length := by rw [HN3.out]; exact hlt
                    have ht := Lib.hid (zip_snoc L M j (by rw [HN1.out]; exact hlt) hjM)
                    have hy0 : 0 ≤ M.getD j 0 := by rw [List.getD, List.getElem?_eq_getElem hjM, Option.getD_some]; exact HPOS.out _ (List.getElem_mem _)
                    clear hjM
                    generalize L.getD j 0 = x at *
                    generalize M.getD j 0 = y at *
                    have hway : ((x == -9223372036854776) = true ∧ (x == 9223372036854775) = false ∧ x = -9223372036854776) ∨ ((x == -9223372036854776) = false ∧ (x == 9223372036854775) = true ∧ x = 9223372036854775) ∨ ((x == -9223372036854776) = false ∧ (x == 9223372036854775) = false ∧ x ≠ -9223372036854776 ∧ x ≠ 9223372036854775) := by
                      simp only [beq_iff_eq, beq_eq_false_iff_ne]; omega
                    cases hmay : mayT x y
                    · have HBAD : Hid (l = [] ∧ er = 2) := by
                        refine Lib.hid (fin_bad HQ.out ?_)
                        have hf : ((L.zip M).all fun q => mayT q.1 q.2) = false := by
                          rw [List.all_eq_false]
                          refine ⟨(x, y), List.mem_of_mem_take (i := j + 1) (by rw [ht.out]; simp), by dsimp only; rw [hmay]; simp⟩
                        rw [hf, if_neg (by simp)]
                        exact .inl (by simp)
                      have hno : 999 < y ∨ (x < -9223372036854776 ∨ (x = -9223372036854776 ∧ y < 192)) ∨ (9223372036854775 < x ∨ (x = 9223372036854775 ∧ 807 < y)) := by
                        unfold mayT at hmay
                        simp only [Bool.and_eq_false_iff, decide_eq_false_iff_not] at hmay
                        omega
                      clear hmay
                      go_wp2_with fail
                      refine (Parts_any _ _ (by omega)).mono ?_; rintro e w' ⟨rfl, rfl⟩
                      rw [L1.out.1, L1.out.2]
                      go_wp2_with fail
                      refine (Parts_any _ _ (by omega)).mono ?_; rintro e w' ⟨rfl, rfl⟩
                      rw [L2.out.1, L2.out.2]
                      rcases hway with ⟨w1, w2, w3⟩ | ⟨w1, w2, w3⟩ | ⟨w1, w2, w3, w4⟩
                      · have W3 := Lib.hid w3
                        have p1 : ¬ x < -9223372036854776 := by omega
                        have p2 : ¬ 9223372036854775 < x := by omega
                        by_cases p4 : y < 192
                        · have p3 : ¬ 999 < y := by omega
                          clear w3 hno
                          go_wp2_with fail
                          all_goals
                            go_ret2
                            obtain ⟨rfl, rfl⟩ := HBAD.out
                            exact ⟨_, _, _, rfl, Sv.nil _, hb1.out⟩
                        · have p3 : 999 < y := by omega
                          clear w3 hno
                          go_wp2_with fail
                          all_goals
                            go_ret2
                            obtain ⟨rfl, rfl⟩ := HBAD.out
                            exact ⟨_, _, _, rfl, Sv.nil _, hb1.out⟩
                      · have p1 : ¬ x < -9223372036854776 := by omega
                        have p2 : ¬ 9223372036854775 < x := by omega
                        have p4 : 807 < y := by omega
                        clear w3 hno
                        go_wp2_with fail
                        all_goals
                          go_ret2
                          obtain ⟨rfl, rfl⟩ := HBAD.out
                          exact ⟨_, _, _, rfl, Sv.nil _, hb1.out⟩
                      · by_cases p1 : x < -9223372036854776
                        · have p2 : ¬ 9223372036854775 < x := by omega
                          clear w3 w4 hno
                          go_wp2_with fail
                          all_goals
                            go_ret2
                            obtain ⟨rfl, rfl⟩ := HBAD.out
                            exact ⟨_, _, _, rfl, Sv.nil _, hb1.out⟩
                        · by_cases p2 : 9223372036854775 < x
                          · clear w3 w4 hno
                            go_wp2_with fail
                            all_goals
                              go_ret2
                              obtain ⟨rfl, rfl⟩ := HBAD.out
                              exact ⟨_, _, _, rfl, Sv.nil _, hb1.out⟩
                          · have p3 : 999 < y := by omega
                            clear w3 w4 hno
                            go_wp2_with fail
                            all_goals
                              go_ret2
                              obtain ⟨rfl, rfl⟩ := HBAD.out
                              exact ⟨_, _, _, rfl, Sv.nil _, hb1.out⟩
                    · obtain ⟨m1, m2, m3⟩ := may_parts hmay
                      have HMY := Lib.hid hmay
                      clear hmay
                      go_wp2_with fail
                      refine (Parts_any _ _ (by omega)).mono ?_; rintro e w' ⟨rfl, rfl⟩
                      rw [L1.out.1, L1.out.2]
                      go_wp2_with fail
                      refine (Parts_any _ _ (by omega)).mono ?_; rintro e w' ⟨rfl, rfl⟩
                      rw [L2.out.1, L2.out.2]
                      have p1 : ¬ x < -9223372036854776 := by omega
                      have p2 : ¬ 9223372036854775 < x := by omega
                      have p3 : ¬ 999 < y := by omega
                      rcases hway with ⟨w1, w2, w3⟩ | ⟨w1, w2, w3⟩ | ⟨w1, w2, w3, w4⟩
                      · have p4 : ¬ y < 192 := by omega
                        clear w3
                        go_wp2_with fail
                        refine (Whole_any _ x y hy0 HMY.out).mono ?_; rintro e w' ⟨rfl, rfl⟩
                        go_wp2_with (at_builtin; refine wpList_valx _ rfl _ _ rfl w.heap.size _ j _ rfl (own_below ho.out ((Below.refl _ _).alloc (Nat.le_refl _) _)) _ 1 1 [numV (1000 * x + y)] rfl (rv_one_at (by simp)) (by omega) (by simp; omega) ?_; intro G c w3 hown hgr hcc hat)
                        have HOWN := Lib.hid hown; have HNB := Lib.hid (push_ hb1.out (Nat.le_refl _) ho.out hgr)
                        have HF4 := Lib.hid (And.intro (hoff.out.1.far hrr.out.1 hat (by simp)) (hoff.out.2.far hrr.out.2 hat (by simp))); have HR4 := Lib.hid (show Ri w3 .i64 _ _ L ∧ Ri w3 .i64 _ _ M from And.intro (rd_off hoff.out.1 hrr.out.1 hgr) (rd_off hoff.out.2 hrr.out.2 hgr))
                        clear hown hgr hat
                        go_wp2_with fail
                        go_roundw
                        case rel =>
                          refine ⟨j + 1, by omega, by go_num, ?_, ?_, HF4, HNB, HR4⟩
                          · rw [ht.out, List.map_append]
                            exact HOWN
                          · rw [ht.out, List.all_append, hall.out]
                            refine Lib.hid ?_
                            simp [HMY.out]
                        case measure => simp [intOf] <;> omega
                      · have p4 : ¬ 807 < y := by omega
                        clear w3
                        go_wp2_with fail
                        refine (Whole_any _ x y hy0 HMY.out).mono ?_; rintro e w' ⟨rfl, rfl⟩
                        go_wp2_with (at_builtin; refine wpList_valx _ rfl _ _ rfl w.heap.size _ j _ rfl (own_below ho.out ((Below.refl _ _).alloc (Nat.le_refl _) _)) _ 1 1 [numV (1000 * x + y)] rfl (rv_one_at (by simp)) (by omega) (by simp; omega) ?_; intro G c w3 hown hgr hcc hat)
                        have HOWN := Lib.hid hown; have HNB := Lib.hid (push_ hb1.out (Nat.le_refl _) ho.out hgr)
                        have HF4 := Lib.hid (And.intro (hoff.out.1.far hrr.out.1 hat (by simp)) (hoff.out.2.far hrr.out.2 hat (by simp))); have HR4 := Lib.hid (show Ri w3 .i64 _ _ L ∧ Ri w3 .i64 _ _ M from And.intro (rd_off hoff.out.1 hrr.out.1 hgr) (rd_off hoff.out.2 hrr.out.2 hgr))
                        clear hown hgr hat
                        go_wp2_with fail
                        go_roundw
                        case rel =>
                          refine ⟨j + 1, by omega, by go_num, ?_, ?_, HF4, HNB, HR4⟩
                          · rw [ht.out, List.map_append]
                            exact HOWN
                          · rw [ht.out, List.all_append, hall.out]
                            refine Lib.hid ?_
                            simp [HMY.out]
                        case measure => simp [intOf] <;> omega
                      · clear w3 w4
                        go_wp2_with fail
                        refine (Whole_any _ x y hy0 HMY.out).mono ?_; rintro e w' ⟨rfl, rfl⟩
                        go_wp2_with (at_builtin; refine wpList_valx _ rfl _ _ rfl w.heap.size _ j _ rfl (own_below ho.out ((Below.refl _ _).alloc (Nat.le_refl _) _)) _ 1 1 [numV (1000 * x + y)] rfl (rv_one_at (by simp)) (by omega) (by simp; omega) ?_; intro G c w3 hown hgr hcc hat)
                        have HOWN := Lib.hid hown; have HNB := Lib.hid (push_ hb1.out (Nat.le_refl _) ho.out hgr)
                        have HF4 := Lib.hid (And.intro (hoff.out.1.far hrr.out.1 hat (by simp)) (hoff.out.2.far hrr.out.2 hat (by simp))); have HR4 := Lib.hid (show Ri w3 .i64 _ _ L ∧ Ri w3 .i64 _ _ M from And.intro (rd_off hoff.out.1 hrr.out.1 hgr) (rd_off hoff.out.2 hrr.out.2 hgr))
                        clear hown hgr hat
                        go_wp2_with fail
                        go_roundw
                        case rel =>
                          refine ⟨j + 1, by omega, by go_num, ?_, ?_, HF4, HNB, HR4⟩
                          · rw [ht.out, List.map_append]
                            exact HOWN
                          · rw [ht.out, List.all_append, hall.out]
                            refine Lib.hid ?_
                            simp [HMY.out]
                        case measure => simp [intOf] <;> omega
                  · obtain rfl : j = n3 := by omega
                    have hfull : (L.zip M).take j = L.zip M := List.take_of_length_le (by rw [List.length_zip, HN1.out]; omega)
                    rw [hfull] at ho hall
                    obtain ⟨G, c, rfl⟩ := own_form ho.out
                    have HOS := Lib.hid (Sv.of_own ho.out)
                    have HGOOD : Hid (l = ((L.zip M).map fun q => numV (1000 * q.1 + q.2)) ∧ er = 0) := by
                      have h := HQ.out
                      rw [hall.out, if_pos rfl] at h
                      exact Lib.hid (fin_good h rfl (show R2.length = 0 by rw [HN4.out]; omega))
                    clear ho hoff hrr
                    go_wp2_with fail
                    go_ret2
                    obtain ⟨rfl, rfl⟩ := HGOOD.out
                    exact ⟨_, _, _, rfl, HOS.out, hb1.out⟩
            · rw [if_pos he2] at hq
              have HQ := Lib.hid (fin_bad hq (.inl he2))
              have t3 : (e2 != 0) = true := by simp [he2]
              clear hq hmany2 he2
              go_enter Tryz.func10, Tryz.ntmps10
              go_wp2_with fail
              refine (refNumber_any _ _).mono ?_; rintro e w' ⟨rfl, rfl⟩
              rw [HK.out]
              go_wp2_with fail
              refine (refTakeGl_any _ _ _ _ b HRE.out HU.out hc hm hn m true L R 0 H1.out).mono ?_; rintro e w0 ⟨G1, n1, c1, G2, n2, c2, rfl, hs1, hs2, hb⟩
              have hn2 : n2 ≤ 100000 := by have := hs2.1.len; omega
              have hma := (Below.refl w0.heap.size w0).alloc (Nat.le_refl _) (.cells (madeCells #[.int .i64 0] m) 3)
              have HS2 := Lib.hid (hs2.below hma)
              have HB := Lib.hid (on (on HBE.out hb) hma)
              have hmk1 := HMK.out w0
              obtain ⟨k1, k2⟩ := hs2.2
              clear hs1 hs2 hb hma
              go_wp2_with fail
              clear hmk1
              generalize w0.alloc (.cells (madeCells #[.int .i64 0] m) 3) = Wm at *
              refine (refTakeGl_any _ _ _ _ R HS2.out.1 HRU.out k1 k2 hn2 m false M R2 e2 H2.out).mono ?_; rintro e W1 ⟨G3, n3, c3, G4, n4, c4, rfl, hs3, hs4, hb3⟩
              have HB3 := Lib.hid (on HB.out hb3)
              clear hs3 hs4 hb3
              go_wp2_with fail
              go_ret2
              obtain ⟨rfl, rfl⟩ := HQ.out
              exact ⟨_, _, _, rfl, Sv.nil _, HB3.out⟩
          · rw [decide_eq_false h5, if_neg (by simp)] at hq
            have t5 : (k == 5) = false := by simp [h5]
            have HQ := Lib.hid hq
            clear h5 hq
            go_enter Tryz.func10, Tryz.ntmps10
            go_wp2_with fail
            refine (refNumber_any _ _).mono ?_; rintro e w' ⟨rfl, rfl⟩
            rw [HK.out]
            go_wp2_with fail
            refine (refTakeGl_any _ _ _ _ b HRE.out HU.out hc hm hn m true L R 0 H1.out).mono ?_; rintro e w0 ⟨G1, n1, c1, G2, n2, c2, rfl, hs1, hs2, hb⟩
            have hn1 : n1 ≤ 4096 := by have := hs1.1.len; have := HLl.out; omega
            have HN1 := Lib.hid hs1.1.len; have HN2 := Lib.hid hs2.1.len
            have hma := (Below.refl w0.heap.size w0).alloc (Nat.le_refl _) (.cells (madeCells #[.int .i64 0] m) 3)
            have HS1 := Lib.hid (hs1.1.below hma)
            have HB := Lib.hid (on (on HBE.out hb) hma); have HO := Lib.hid (own_below (own_below HE.out hb) hma)
            have hmk1 := HMK.out w0
            have hnm : n1 = m := by have := HN1.out; have := HLl.out; omega
            subst hnm
            clear hs1 hs2 hb hma
            by_cases hr2 : 0 < n2
            · have h2 : (0 : Int) < (n2 : Int) := by omega
              have HBAD := Lib.hid (fin_bad HQ.out (.inr (by rw [HN2.out]; exact hr2)))
              go_wp2_with fail
              go_ret2
              obtain ⟨rfl, rfl⟩ := HBAD.out
              exact ⟨_, _, _, rfl, Sv.nil _, HB.out⟩
            · have h2 : ¬ (0 : Int) < (n2 : Int) := by omega
              have HGOOD := Lib.hid (fin_good HQ.out rfl (by rw [HN2.out]; omega))
              go_wp2_with fail
              clear hmk1
              generalize w0.alloc (.cells (madeCells #[.int .i64 0] n1) 3) = W1 at *
              have HF1 := Lib.hid (off_own HO.out HS1.out (by decide))
              go_loopw [9, 22, 23] (fun v i _ wr => ∃ j : Nat, j ≤ n1 ∧ i = .int .i64 j ∧ Hid (wr.ownsRow w.heap.size 35 3 v j (cellsV ((L.take j).map numV))) ∧ Hid (Off v G1 n1) ∧ Hid (Below w.heap.size w wr) ∧ Hid (Ri wr .i64 G1 n1 L)) (fun _ i _ _ => n1 - (intOf i).toNat)
              case atStart => exact ⟨0, by omega, rfl, HO, HF1, HB, HS1⟩
              case round =>
                obtain ⟨j, hj, rfl, ho, hoff, hb1, hrr⟩ := hrel
                have hz := hb1.out.size
                by_cases hlt : j < n1
                · obtain ⟨b1, o1, hA, hbl1, g1⟩ := hrr.out.at_ hlt
                  subst hA
                  have ht := Lib.hid (take_snoc L j (by rw [HN1.out]; exact hlt))
                  generalize L.getD j 0 = x at *
                  go_wp2_with (at_builtin; refine wpList_valx _ rfl _ _ rfl w.heap.size _ j _ rfl (own_below ho.out ((Below.refl _ _).alloc (Nat.le_refl _) _)) _ 1 1 [numV x] rfl (rv_one_at (by simp)) (by omega) (by simp; omega) ?_; intro G c w3 hown hgr hcc hat)
                  have HOWN := Lib.hid hown; have HNB := Lib.hid (push_ hb1.out (Nat.le_refl _) ho.out hgr)
                  have HF3 := Lib.hid (hoff.out.far hrr.out hat (by simp)); have HR3 := Lib.hid (show Ri w3 .i64 _ _ L from rd_off hoff.out hrr.out hgr)
                  clear hown hgr hat
                  go_wp2_with fail
                  go_roundw
                  case rel =>
                    refine ⟨j + 1, by omega, by go_num, ?_, HF3, HNB, HR3⟩
                    rw [ht.out, List.map_append]
                    exact HOWN
                  case measure => simp [intOf] <;> omega
                · obtain rfl : j = n1 := by omega
                  have hfull : L.take j = L := List.take_of_length_le (by rw [HN1.out]; omega)
                  rw [hfull] at ho
                  obtain ⟨G, c, rfl⟩ := own_form ho.out
                  have HOS := Lib.hid (Sv.of_own ho.out)
                  clear ho hoff hrr
                  go_wp2_with fail
                  go_ret2
                  obtain ⟨rfl, rfl⟩ := HGOOD.out
                  exact ⟨_, _, _, rfl, HOS.out, hb1.out⟩
        · rw [if_pos he] at hq
          have HQ := Lib.hid (fin_bad hq (.inl he))
          have t3 : (e1 != 0) = true := by simp [he]
          clear hq hmany he
          go_enter Tryz.func10, Tryz.ntmps10
          go_wp2_with fail
          refine (refNumber_any _ _).mono ?_; rintro e w' ⟨rfl, rfl⟩
          rw [HK.out]
          go_wp2_with fail
          refine (refTakeGl_any _ _ _ _ b HRE.out HU.out hc hm hn m true L R e1 H1.out).mono ?_; rintro e w0 ⟨G1, n1, c1, G2, n2, c2, rfl, hs1, hs2, hb⟩
          have HB := Lib.hid (on HBE.out hb)
          clear hs1 hs2 hb
          go_wp2_with fail
          go_ret2
          obtain ⟨rfl, rfl⟩ := HQ.out
          exact ⟨_, _, _, rfl, Sv.nil _, HB.out⟩
end Go.Proofs.YtbmooemlekckbaaGreatDoor

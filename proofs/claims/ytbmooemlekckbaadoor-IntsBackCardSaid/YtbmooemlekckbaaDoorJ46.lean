/- Joined texts: IntT, IntTk. Each has its own head line. No condition beyond those that its theorems state. -/
import Derived.Test.YtbmooemlekckbaaDoorJ45
import Derived.Test.YtbmooemlekckbaaDoorJ41
import Derived.Test.YtbmooemlekckbaaDoorJ32
import Derived.Test.YtbmooemlekckbaaDoorJ31
import Derived.Test.YtbmooemlekckbaaDoorJ33
set_option linter.unusedVariables false

/- ints.Take. -/
namespace Go.Proofs.YtbmooemlekckbaaDoor
open Go.RowKit

theorem takeB_lenI (b : List Int) (m : Int) : (takeB b m).1.length ≤ 4096 := by
  unfold takeB
  split
  · simp
  · split
    · simp
    · split
      · simp
      · rw [bitsB_len]; omega
def TakeOutI (w : World) (l : List Val) (r : List Int) (er : Int) (e : Ending) (w' : World) : Prop :=
  ∃ G n c G2 n2 c2, e = .returned (.tuple #[.slice G n c, .slice G2 n2 c2, .int .i64 er]) ∧ Sv w' G n c l ∧ Sl w' .u8 G2 n2 c2 r ∧ Below w.heap.size w w'
def bitV (x : Bool) : Val := numV (if x then 1 else 0)
theorem val_end {l r : List Val} (h : l = r) {w : World} {A : Option Addr} {n c : Nat} (hs : Sv w A n c l) : Sv w A n c r := h ▸ hs

set_option maxRecDepth 100000 in
set_option maxHeartbeats 2000000 in
theorem truths_any (w : World) (A : Option Addr) (n cap : Nat) (b : List Int) (hr : Ri w .u8 A n b) (hu : U8 b) (hc : n ≤ cap) (hm : cap ≤ 9223372036854775807) (hn : n ≤ 100000) (many : Int) (t : List Bool) (r : List Int) (er : Int) (hl : takeB b many = (t, r, er)) :
    Calls Tryd.prog 18 #[.slice A n cap, .int .i64 many] w (TakeOutI w (t.map bitV) r er) := by
  have htl : t.length ≤ 4096 := by have := takeB_lenI b many; rw [hl] at this; exact this
  have HR := Lib.hid hr; have HU := Lib.hid hu; have HL := Lib.hid hl
  clear hr hu hl
  go_enter Tryd.func18, Tryd.ntmps18
  go_wp2_with fail
  refine (BTake_any _ _ _ _ b HR.out HU.out hc hm (by omega) many t r er HL.out).mono ?_; rintro e w1 ⟨G1, n1, c1, G2, n2, c2, rfl, hs1, hs2, hb⟩
  have HS1 := Lib.hid hs1.1; have HS2 := Lib.hid hs2; have HB := Lib.hid hb; have HN1 := Lib.hid hs1.1.len
  have hn1 : n1 ≤ 4096 := by have := hs1.1.len; omega
  clear hs1 hs2 hb
  go_wp2_with fail
  go_loopw [10, 12, 13, 23] (fun v _ _ i wr => ∃ j : Nat, j ≤ n1 ∧ i = .int .i64 j ∧ Hid (wr.ownsRow w1.heap.size 26 3 v j (cellsV ((t.take j).map bitV))) ∧ Hid (Below w1.heap.size w1 wr)) (fun _ _ _ i _ => n1 - (intOf i).toNat)
  case atStart => exact ⟨0, by omega, rfl, Lib.hid (World.ownsRow_nil _ _ _ _), Below.refl _ _⟩
  case round =>
    obtain ⟨j, hj, rfl, ho, hb1⟩ := hrel
    have hz := hb1.out.size
    by_cases hlt : j < n1
    · obtain ⟨b1, o1, hA, hbl, hc1⟩ := HS1.out.at_ hlt
      subst hA
      have g1 := (hb1.out.cell (p := ⟨b1, o1 + j, none⟩) hbl).trans hc1
      have ht := Lib.hid (takeB_snoc t j (by rw [HN1.out]; exact hlt))
      clear hc1
      generalize t.getD j false = x at *
      cases x
      · have HW2 := Lib.hid (hb1.out.alloc hz (.cells #[.bool false, .int .i64 0, .string ⟨#[]⟩] 26))
        have HO2 := Lib.hid (own_below ho.out ((Below.refl _ _).alloc (Nat.le_refl _) (.cells #[.bool false, .int .i64 0, .string ⟨#[]⟩] 26)))
        go_wp2_with (at_builtin; refine wpList_val _ rfl _ _ rfl w1.heap.size _ j _ rfl (own_below HO2.out ((Below.refl _ _).alloc (Nat.le_refl _) _)) _ 1 1 [numV 0] rfl (rv_one_at (by simp)) (by omega) (by simp; omega) ?_; intro G c w3 hown hgr hcc)
        have HOWN := Lib.hid hown; have HNB := Lib.hid (push_ HW2.out (Nat.le_refl _) HO2.out hgr)
        clear hown hgr
        go_wp2_with fail
        go_roundw
        case rel =>
          refine ⟨j + 1, by omega, by go_num, ?_, HNB⟩
          rw [ht.out, List.map_append]
          exact HOWN
        case measure => simp [intOf] <;> omega
      · have HW2 := Lib.hid (hb1.out.alloc hz (.cells #[.bool false, .int .i64 1, .string ⟨#[]⟩] 26))
        have HO2 := Lib.hid (own_below ho.out ((Below.refl _ _).alloc (Nat.le_refl _) (.cells #[.bool false, .int .i64 1, .string ⟨#[]⟩] 26)))
        go_wp2_with (at_builtin; refine wpList_val _ rfl _ _ rfl w1.heap.size _ j _ rfl (own_below HO2.out ((Below.refl _ _).alloc (Nat.le_refl _) _)) _ 1 1 [numV 1] rfl (rv_one_at (by simp)) (by omega) (by simp; omega) ?_; intro G c w3 hown hgr hcc)
        have HOWN := Lib.hid hown; have HNB := Lib.hid (push_ HW2.out (Nat.le_refl _) HO2.out hgr)
        clear hown hgr
        go_wp2_with fail
        go_roundw
        case rel =>
          refine ⟨j + 1, by omega, by go_num, ?_, HNB⟩
          rw [ht.out, List.map_append]
          exact HOWN
        case measure => simp [intOf] <;> omega
    · obtain rfl : j = n1 := by omega
      have hfull : t.take j = t := List.take_of_length_le (by rw [HN1.out]; omega)
      rw [hfull] at ho
      obtain ⟨G, c, rfl⟩ := own_form ho.out
      have HO := Lib.hid (Sv.of_own ho.out)
      have HS22 := Lib.hid (HS2.out.below hb1.out)
      clear ho
      go_wp2_with fail
      go_ret3
      exact ⟨_, _, _, _, _, _, rfl, HO.out, HS22.out, on HB.out hb1.out⟩

set_option maxRecDepth 100000 in
set_option maxHeartbeats 4000000 in
theorem plainI_any (w : World) (A : Option Addr) (n cap : Nat) (b : List Int) (hr : Ri w .u8 A n b) (hu : U8 b) (hc : n ≤ cap) (hm : cap ≤ 9223372036854775807) (hn : n ≤ 100000) (m : Nat) (hm4 : m ≤ 4096) (t : Bool) (l : List Val) (r : List Int) (er : Int) (hp : plainR b m t = (l, r, er)) :
    Calls Tryd.prog 19 #[.slice A n cap, .int .i64 m, .bool t] w (TakeOutI w l r er) := by
  have HR := Lib.hid hr; have HU := Lib.hid hu
  have hmk := fun W => Go.run_make_row' (P := Tryd.prog) 22 3 (.int .i64 0) 8 Tryd.underlying22 info_int rfl .i64 .i64 m (by omega) (by omega) W
  have HMK := Lib.hid hmk
  have hbl : b.length ≤ 100000 := by rw [hr.len]; exact hn
  obtain ⟨L, R, e1, h1⟩ : ∃ L R e1, takeGl b m true = (L, R, e1) := ⟨_, _, _, rfl⟩
  have hmany := takeGl_many b m true
  have hgood := takeGl_good b m true hu
  have hrest := takeGl_rest b m true hu
  unfold plainR at hp
  rw [h1] at hp hmany hgood hrest
  dsimp only at hp hmany hgood hrest
  have H1 := Lib.hid h1; have HRU := Lib.hid hrest.1
  have hRl : R.length ≤ 100000 := by have := hrest.2; omega
  clear hr hu hmk h1 hgood hrest
  by_cases he : e1 = 0
  · rw [if_neg (by rw [he]; simp)] at hp
    have hLl : L.length = m := by have := hmany he; omega
    have HLl := Lib.hid hLl
    subst he
    clear hmany hLl
    cases t
    · rw [if_neg (by simp)] at hp
      have HP := Lib.hid hp
      clear hp
      go_enter Tryd.func19, Tryd.ntmps19
      go_wp2_with fail
      refine (TakeGl_any _ _ _ _ b HR.out HU.out hc hm hn m true L R 0 H1.out).mono ?_; rintro e w1 ⟨G1, n1, c1, G2, n2, c2, rfl, hs1, hs2, hb⟩
      have hn1 : n1 ≤ 4096 := by have := hs1.1.len; have := HLl.out; omega
      have HN1 := Lib.hid hs1.1.len
      have HS1 := Lib.hid (hs1.1.below ((Below.refl w1.heap.size w1).alloc (Nat.le_refl _) (.cells (madeCells #[.int .i64 0] m) 3))); have HS2 := Lib.hid (hs2.below ((Below.refl w1.heap.size w1).alloc (Nat.le_refl _) (.cells (madeCells #[.int .i64 0] m) 3)))
      have HB := Lib.hid (on hb ((Below.refl w1.heap.size w1).alloc (Nat.le_refl _) (.cells (madeCells #[.int .i64 0] m) 3)))
      have hmk1 := HMK.out w1
      clear hs1 hs2 hb
      go_wp2_with fail
      clear hmk1
      generalize w1.alloc (.cells (madeCells #[.int .i64 0] m) 3) = W1 at *
      go_loopw [13, 14, 15, 41] (fun v _ _ i wr => ∃ j : Nat, j ≤ n1 ∧ i = .int .i64 j ∧ Hid (wr.ownsRow W1.heap.size 26 3 v j (cellsV ((L.take j).map numV))) ∧ Hid (Below W1.heap.size W1 wr)) (fun _ _ _ i _ => n1 - (intOf i).toNat)
      case atStart => exact ⟨0, by omega, rfl, Lib.hid (World.ownsRow_nil _ _ _ _), Below.refl _ _⟩
      case round =>
        obtain ⟨j, hj, rfl, ho, hb1⟩ := hrel
        have hz := hb1.out.size
        by_cases hlt : j < n1
        · obtain ⟨b1, o1, hA, hbl1, hc1⟩ := HS1.out.at_ hlt
          subst hA
          have g1 := (hb1.out.cell (p := ⟨b1, o1 + j, none⟩) hbl1).trans hc1
          have ht := Lib.hid (take_snoc L j (by rw [HN1.out]; exact hlt))
          clear hc1
          generalize L.getD j 0 = x at *
          go_wp2_with (at_builtin; refine wpList_val _ rfl _ _ rfl W1.heap.size _ j _ rfl (own_below ho.out ((Below.refl _ _).alloc (Nat.le_refl _) _)) _ 1 1 [numV x] rfl (rv_one_at (by simp)) (by omega) (by simp; omega) ?_; intro G c w3 hown hgr hcc)
          have HOWN := Lib.hid hown; have HNB := Lib.hid (push_ hb1.out (Nat.le_refl _) ho.out hgr)
          clear hown hgr
          go_wp2_with fail
          go_roundw
          case rel =>
            refine ⟨j + 1, by omega, by go_num, ?_, HNB⟩
            rw [ht.out, List.map_append]
            exact HOWN
          case measure => simp [intOf] <;> omega
        · obtain rfl : j = n1 := by omega
          have hfull : L.take j = L := List.take_of_length_le (by rw [HN1.out]; omega)
          rw [hfull] at ho
          obtain ⟨G, c, rfl⟩ := own_form ho.out
          have HO := Lib.hid (Sv.of_own ho.out)
          have HS22 := Lib.hid (HS2.out.below hb1.out)
          clear ho
          go_wp2_with fail
          go_ret3
          obtain ⟨rfl, h2⟩ := Prod.mk.inj HP.out
          obtain ⟨rfl, rfl⟩ := Prod.mk.inj h2
          exact ⟨_, _, _, _, _, _, rfl, HO.out, HS22.out, on HB.out hb1.out⟩
    · rw [if_pos rfl] at hp
      obtain ⟨M, R2, e2, h2⟩ : ∃ M R2 e2, takeGl R m false = (M, R2, e2) := ⟨_, _, _, rfl⟩
      have hmany2 := takeGl_many R m false
      have hpos := takeGl_pos R m
      rw [h2] at hp hmany2 hpos
      dsimp only at hp hmany2 hpos
      have H2 := Lib.hid h2; have HPOS := Lib.hid hpos
      clear h2 hpos
      by_cases he2 : e2 = 0
      · rw [if_neg (by rw [he2]; simp)] at hp
        have hMl : M.length = m := by have := hmany2 he2; omega
        have HMl := Lib.hid hMl; have HP := Lib.hid hp
        subst he2
        clear hmany2 hMl hp
        go_enter Tryd.func19, Tryd.ntmps19
        go_wp2_with fail
        refine (TakeGl_any _ _ _ _ b HR.out HU.out hc hm hn m true L R 0 H1.out).mono ?_; rintro e w0 ⟨G1, n1, c1, G2, n2, c2, rfl, hs1, hs2, hb⟩
        have hn1 : n1 ≤ 4096 := by have := hs1.1.len; have := HLl.out; omega
        have HN1 := Lib.hid hs1.1.len
        have hn2 : n2 ≤ 100000 := by have := hs2.1.len; omega
        have HS1 := Lib.hid (hs1.1.below ((Below.refl w0.heap.size w0).alloc (Nat.le_refl _) (.cells (madeCells #[.int .i64 0] m) 3))); have HS2 := Lib.hid (hs2.below ((Below.refl w0.heap.size w0).alloc (Nat.le_refl _) (.cells (madeCells #[.int .i64 0] m) 3)))
        have HB := Lib.hid (on hb ((Below.refl w0.heap.size w0).alloc (Nat.le_refl _) (.cells (madeCells #[.int .i64 0] m) 3)))
        have hmk1 := HMK.out w0
        obtain ⟨k1, k2⟩ := hs2.2
        clear hs1 hs2 hb
        go_wp2_with fail
        clear hmk1
        generalize w0.alloc (.cells (madeCells #[.int .i64 0] m) 3) = Wm at *
        refine (TakeGl_any _ _ _ _ R HS2.out.1 HRU.out k1 k2 hn2 m false M R2 0 H2.out).mono ?_; rintro e W1 ⟨G3, n3, c3, G4, n4, c4, rfl, hs3, hs4, hb3⟩
        have hn3 : n3 = n1 := by have := hs3.1.len; have := HMl.out; have := HN1.out; have := HLl.out; omega
        subst hn3
        have HS3 := Lib.hid hs3.1; have HS4 := Lib.hid hs4; have HS13 := Lib.hid (HS1.out.below hb3); have HB3 := Lib.hid (on HB.out hb3)
        have HN3 := Lib.hid hs3.1.len
        clear hs3 hs4 hb3
        go_wp2_with fail
        go_loopw [13, 14, 15, 41] (fun v _ _ i wr => ∃ j : Nat, j ≤ n3 ∧ i = .int .i64 j ∧ Hid (wr.ownsRow W1.heap.size 26 3 v j (cellsV (((L.zip M).take j).map fun q => numV (1000 * q.1 + q.2)))) ∧ Hid (((L.zip M).take j).all (fun q => mayT q.1 q.2) = true) ∧ Hid (Below W1.heap.size W1 wr)) (fun _ _ _ i _ => n3 - (intOf i).toNat)
        case atStart => exact ⟨0, by omega, rfl, Lib.hid (World.ownsRow_nil _ _ _ _), Lib.hid (by simp), Below.refl _ _⟩
        case round =>
          obtain ⟨j, hj, rfl, ho, hall, hb1⟩ := hrel
          have hz := hb1.out.size
          by_cases hlt : j < n3
          · obtain ⟨b1, o1, hA, hbl1, hc1⟩ := HS13.out.at_ hlt
            obtain ⟨b2, o2, hB, hbl2, hc2⟩ := HS3.out.at_ hlt
            subst hA hB
            have g1 := (hb1.out.cell (p := ⟨b1, o1 + j, none⟩) hbl1).trans hc1
            have g2 := (hb1.out.cell (p := ⟨b2, o2 + j, none⟩) hbl2).trans hc2
            have hjM : j < M.length := by rw [HN3.out]; exact hlt
            have ht := Lib.hid (zip_snoc L M j (by rw [HN1.out]; exact hlt) hjM)
            have hy0 : 0 ≤ M.getD j 0 := by rw [List.getD, List.getElem?_eq_getElem hjM, Option.getD_some]; exact HPOS.out _ (List.getElem_mem _)
            clear hc1 hc2 hjM
            generalize L.getD j 0 = x at *
            generalize M.getD j 0 = y at *
            cases hmay : mayT x y
            · have HBAD : Hid (l = [] ∧ r = [] ∧ er = 2) := by
                have h := HP.out
                have hf : ((L.zip M).all fun q => mayT q.1 q.2) = false := by
                  rw [List.all_eq_false]
                  refine ⟨(x, y), List.mem_of_mem_take (i := j + 1) (by rw [ht.out]; simp), by dsimp only; rw [hmay]; simp⟩
                rw [hf, if_neg (by simp)] at h
                obtain ⟨h3, h4⟩ := Prod.mk.inj h
                obtain ⟨h5, h6⟩ := Prod.mk.inj h4
                exact ⟨h3.symm, h5.symm, h6.symm⟩
              have HMY := Lib.hid hmay
              clear hmay
              go_wp2_with fail
              refine (may_any _ x y hy0).mono ?_; rintro e w' ⟨rfl, rfl⟩
              rw [HMY.out]
              go_wp2_with fail
              go_ret3
              obtain ⟨rfl, rfl, rfl⟩ := HBAD.out
              exact ⟨_, _, _, _, _, _, rfl, Sv.nil _, Sl.nil _ _, on HB3.out hb1.out⟩
            · have HMY := Lib.hid hmay
              clear hmay
              go_wp2_with fail
              refine (may_any _ x y hy0).mono ?_; rintro e w' ⟨rfl, rfl⟩
              rw [HMY.out]
              go_wp2_with fail
              refine (made_any _ x y hy0 HMY.out).mono ?_; rintro e w' ⟨rfl, rfl⟩
              go_wp2_with (at_builtin; refine wpList_val _ rfl _ _ rfl W1.heap.size _ j _ rfl (own_below ho.out ((Below.refl _ _).alloc (Nat.le_refl _) _)) _ 1 1 [numV (1000 * x + y)] rfl (rv_one_at (by simp)) (by omega) (by simp; omega) ?_; intro G c w3 hown hgr hcc)
              have HOWN := Lib.hid hown; have HNB := Lib.hid (push_ hb1.out (Nat.le_refl _) ho.out hgr)
              clear hown hgr
              go_wp2_with fail
              go_roundw
              case rel =>
                refine ⟨j + 1, by omega, by go_num, ?_, ?_, HNB⟩
                · rw [ht.out, List.map_append]
                  exact HOWN
                · rw [ht.out, List.all_append, hall.out]
                  refine Lib.hid ?_
                  simp [HMY.out]
              case measure => simp [intOf] <;> omega
          · obtain rfl : j = n3 := by omega
            have hfull : (L.zip M).take j = L.zip M := List.take_of_length_le (by rw [List.length_zip, HN1.out]; omega)
            rw [hfull] at ho hall
            obtain ⟨G, c, rfl⟩ := own_form ho.out
            have HO := Lib.hid (Sv.of_own ho.out)
            have HS44 := Lib.hid (HS4.out.below hb1.out)
            clear ho
            go_wp2_with fail
            go_ret3
            have h := HP.out
            rw [hall.out, if_pos rfl] at h
            obtain ⟨rfl, h2⟩ := Prod.mk.inj h
            obtain ⟨rfl, rfl⟩ := Prod.mk.inj h2
            exact ⟨_, _, _, _, _, _, rfl, HO.out, HS44.out, on HB3.out hb1.out⟩
      · rw [if_pos he2] at hp
        have HP := Lib.hid hp
        have t3 : (e2 != 0) = true := by simp [he2]
        clear hp hmany2 he2
        go_enter Tryd.func19, Tryd.ntmps19
        go_wp2_with fail
        refine (TakeGl_any _ _ _ _ b HR.out HU.out hc hm hn m true L R 0 H1.out).mono ?_; rintro e w0 ⟨G1, n1, c1, G2, n2, c2, rfl, hs1, hs2, hb⟩
        have hn2 : n2 ≤ 100000 := by have := hs2.1.len; omega
        have HS2 := Lib.hid (hs2.below ((Below.refl w0.heap.size w0).alloc (Nat.le_refl _) (.cells (madeCells #[.int .i64 0] m) 3)))
        have HB := Lib.hid (on hb ((Below.refl w0.heap.size w0).alloc (Nat.le_refl _) (.cells (madeCells #[.int .i64 0] m) 3)))
        have hmk1 := HMK.out w0
        obtain ⟨k1, k2⟩ := hs2.2
        clear hs1 hs2 hb
        go_wp2_with fail
        clear hmk1
        generalize w0.alloc (.cells (madeCells #[.int .i64 0] m) 3) = Wm at *
        refine (TakeGl_any _ _ _ _ R HS2.out.1 HRU.out k1 k2 hn2 m false M R2 e2 H2.out).mono ?_; rintro e W1 ⟨G3, n3, c3, G4, n4, c4, rfl, hs3, hs4, hb3⟩
        have HB3 := Lib.hid (on HB.out hb3)
        clear hs3 hs4 hb3
        go_wp2_with fail
        go_ret3
        obtain ⟨rfl, h2⟩ := Prod.mk.inj HP.out
        obtain ⟨rfl, rfl⟩ := Prod.mk.inj h2
        exact ⟨_, _, _, _, _, _, rfl, Sv.nil _, Sl.nil _ _, HB3.out⟩
  · rw [if_pos he] at hp
    have HP := Lib.hid hp
    have t3 : (e1 != 0) = true := by simp [he]
    clear hp hmany he
    go_enter Tryd.func19, Tryd.ntmps19
    go_wp2_with fail
    refine (TakeGl_any _ _ _ _ b HR.out HU.out hc hm hn m true L R e1 H1.out).mono ?_; rintro e w0 ⟨G1, n1, c1, G2, n2, c2, rfl, hs1, hs2, hb⟩
    have HB := Lib.hid hb
    clear hs1 hs2 hb
    go_wp2_with fail
    go_ret3
    obtain ⟨rfl, h2⟩ := Prod.mk.inj HP.out
    obtain ⟨rfl, rfl⟩ := Prod.mk.inj h2
    exact ⟨_, _, _, _, _, _, rfl, Sv.nil _, Sl.nil _ _, HB.out⟩
end Go.Proofs.YtbmooemlekckbaaDoor

/- ints.Take, joined. -/
namespace Go.Proofs.YtbmooemlekckbaaDoor
open Go.RowKit

def ValsErrI (w : World) (l : List Val) (er : Int) (e : Ending) (w' : World) : Prop :=
  ∃ G n c, e = .returned (.tuple #[.slice G n c, .int .i64 er]) ∧ Sv w' G n c l ∧ Below w.heap.size w w'
theorem take_bad {k many : Int} {b : List Int} {l : List Val} {er : Int} (hp : takeIn k b many = (l, er)) (h : isNum k = false ∨ many < 0 ∨ 4096 < many) : l = [] ∧ er = 1 := by
  unfold takeIn at hp
  rw [if_pos h] at hp
  injection hp with h1 h2
  exact ⟨h1.symm, h2.symm⟩
theorem fin_bad {q : List Val × List Int × Int} {l : List Val} {er : Int} (hp : finI q = (l, er)) (h : q.2.2 ≠ 0 ∨ 0 < q.2.1.length) : l = [] ∧ er = 2 := by
  unfold finI at hp
  rw [if_pos h] at hp
  injection hp with h1 h2
  exact ⟨h1.symm, h2.symm⟩
theorem fin_good {q : List Val × List Int × Int} {l : List Val} {er : Int} (hp : finI q = (l, er)) (h : q.2.2 = 0) (h2 : q.2.1.length = 0) : l = q.1 ∧ er = 0 := by
  unfold finI at hp
  rw [if_neg (by omega)] at hp
  injection hp with h1 h2
  exact ⟨h1.symm, h2.symm⟩

set_option maxRecDepth 100000 in
set_option maxHeartbeats 4000000 in
theorem TakeIn_any (w : World) (k many : Int) (A : Option Addr) (n cap : Nat) (b : List Int) (hr : Ri w .u8 A n b) (hu : U8 b) (hc : n ≤ cap) (hm : cap ≤ 9223372036854775807) (hn : n ≤ 100000) (l : List Val) (er : Int) (hp : takeIn k b many = (l, er)) :
    Calls Tryd.prog 6 #[.int .i64 k, .slice A n cap, .int .i64 many] w (ValsErrI w l er) := by
  have HR := Lib.hid hr; have HU := Lib.hid hu; have HP := Lib.hid hp
  clear hr hu hp
  cases hk : isNum k
  · have HBAD := Lib.hid (take_bad HP.out (.inl hk))
    have HK := Lib.hid hk
    clear hk
    go_enter Tryd.func6, Tryd.ntmps6
    go_wp2_with fail
    refine (Number_any _ _).mono ?_; rintro e w' ⟨rfl, rfl⟩
    rw [HK.out]
    go_wp2_with fail
    go_ret2
    obtain ⟨rfl, rfl⟩ := HBAD.out
    exact ⟨_, _, _, rfl, Sv.nil _, Below.refl _ _⟩
  · have HK := Lib.hid hk
    clear hk
    by_cases hbad : many < 0 ∨ 4096 < many
    · have HBAD := Lib.hid (take_bad HP.out (.inr hbad))
      rcases hbad with h | h
      · go_enter Tryd.func6, Tryd.ntmps6
        go_wp2_with fail
        refine (Number_any _ _).mono ?_; rintro e w' ⟨rfl, rfl⟩
        rw [HK.out]
        go_wp2_with fail
        go_ret2
        obtain ⟨rfl, rfl⟩ := HBAD.out
        exact ⟨_, _, _, rfl, Sv.nil _, Below.refl _ _⟩
      · have h0 : ¬ many < 0 := by omega
        go_enter Tryd.func6, Tryd.ntmps6
        go_wp2_with fail
        refine (Number_any _ _).mono ?_; rintro e w' ⟨rfl, rfl⟩
        rw [HK.out]
        go_wp2_with fail
        go_ret2
        obtain ⟨rfl, rfl⟩ := HBAD.out
        exact ⟨_, _, _, rfl, Sv.nil _, Below.refl _ _⟩
    · have h0 : 0 ≤ many := by omega
      have h4 : many ≤ 4096 := by omega
      obtain ⟨m, rfl⟩ := Int.eq_ofNat_of_zero_le h0
      have hq := HP.out
      unfold takeIn at hq
      rw [if_neg (by rw [HK.out]; rintro (h | h | h); cases h; omega; omega)] at hq
      clear hbad
      by_cases h1 : k = 1
      · rw [if_pos h1] at hq
        have t1 : (k == 1) = true := by simp [h1]
        clear h1
        obtain ⟨t, r, e0, ht⟩ : ∃ t r e0, takeB b (m : Int) = (t, r, e0) := ⟨_, _, _, rfl⟩
        unfold truthsR at hq
        rw [ht] at hq
        have HT := Lib.hid ht; have HQ := Lib.hid hq
        clear ht hq
        go_enter Tryd.func6, Tryd.ntmps6
        go_wp2_with fail
        refine (Number_any _ _).mono ?_; rintro e w' ⟨rfl, rfl⟩
        rw [HK.out]
        go_wp2_with fail
        refine (truths_any _ _ _ _ b HR.out HU.out hc hm hn m t r e0 HT.out).mono ?_; rintro e w1 ⟨G1, n1, c1, G2, n2, c2, rfl, hs1, hs2, hb⟩
        have HS1 := Lib.hid hs1; have HB := Lib.hid hb; have HN2 := Lib.hid hs2.1.len
        clear hs1 hs2 hb
        by_cases he : e0 = 0
        · subst he
          by_cases hr2 : 0 < n2
          · have h2 : (0 : Int) < (n2 : Int) := by omega
            have HBAD := Lib.hid (fin_bad HQ.out (.inr (by rw [HN2.out]; exact hr2)))
            go_wp2_with fail
            go_ret2
            obtain ⟨rfl, rfl⟩ := HBAD.out
            exact ⟨_, _, _, rfl, Sv.nil _, HB.out⟩
          · have h2 : ¬ (0 : Int) < (n2 : Int) := by omega
            have HGOOD := Lib.hid (fin_good HQ.out rfl (by rw [HN2.out]; omega))
            go_wp2_with fail
            go_ret2
            obtain ⟨rfl, rfl⟩ := HGOOD.out
            exact ⟨_, _, _, rfl, HS1.out, HB.out⟩
        · have h3 : (e0 != 0) = true := by simp [he]
          have HBAD := Lib.hid (fin_bad HQ.out (.inl he))
          clear he
          go_wp2_with fail
          go_ret2
          obtain ⟨rfl, rfl⟩ := HBAD.out
          exact ⟨_, _, _, rfl, Sv.nil _, HB.out⟩
      · rw [if_neg h1] at hq
        have t1 : (k == 1) = false := by simp [h1]
        clear h1
        have hway : ∃ ub, (k == 5) = ub ∧ decide (k = 5) = ub := by
          by_cases h : k = 5
          · exact ⟨true, by simp [h], decide_eq_true h⟩
          · exact ⟨false, by simp [h], decide_eq_false h⟩
        obtain ⟨ub, hub, hud⟩ := hway
        rw [hud] at hq
        obtain ⟨t, r, e0, ht⟩ : ∃ t r e0, plainR b (m : Int) ub = (t, r, e0) := ⟨_, _, _, rfl⟩
        rw [ht] at hq
        have HT := Lib.hid ht; have HQ := Lib.hid hq
        clear ht hq hud
        go_enter Tryd.func6, Tryd.ntmps6
        go_wp2_with fail
        refine (Number_any _ _).mono ?_; rintro e w' ⟨rfl, rfl⟩
        rw [HK.out]
        go_wp2_with fail
        refine (plainI_any _ _ _ _ b HR.out HU.out hc hm hn m (by omega) ub t r e0 HT.out).mono ?_; rintro e w1 ⟨G1, n1, c1, G2, n2, c2, rfl, hs1, hs2, hb⟩
        have HS1 := Lib.hid hs1; have HB := Lib.hid hb; have HN2 := Lib.hid hs2.1.len
        clear hs1 hs2 hb
        by_cases he : e0 = 0
        · subst he
          by_cases hr2 : 0 < n2
          · have h2 : (0 : Int) < (n2 : Int) := by omega
            have HBAD := Lib.hid (fin_bad HQ.out (.inr (by rw [HN2.out]; exact hr2)))
            go_wp2_with fail
            go_ret2
            obtain ⟨rfl, rfl⟩ := HBAD.out
            exact ⟨_, _, _, rfl, Sv.nil _, HB.out⟩
          · have h2 : ¬ (0 : Int) < (n2 : Int) := by omega
            have HGOOD := Lib.hid (fin_good HQ.out rfl (by rw [HN2.out]; omega))
            go_wp2_with fail
            go_ret2
            obtain ⟨rfl, rfl⟩ := HGOOD.out
            exact ⟨_, _, _, rfl, HS1.out, HB.out⟩
        · have h3 : (e0 != 0) = true := by simp [he]
          have HBAD := Lib.hid (fin_bad HQ.out (.inl he))
          clear he
          go_wp2_with fail
          go_ret2
          obtain ⟨rfl, rfl⟩ := HBAD.out
          exact ⟨_, _, _, rfl, Sv.nil _, HB.out⟩
end Go.Proofs.YtbmooemlekckbaaDoor

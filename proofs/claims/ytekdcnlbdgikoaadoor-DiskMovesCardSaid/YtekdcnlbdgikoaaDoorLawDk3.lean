/- The walk through DiskMoves. -/
import Derived.Test.YtekdcnlbdgikoaaDoorLawDk1
import Derived.Test.YtekdcnlbdgikoaaDoorDkMo
import Derived.Test.YtekdcnlbdgikoaaDoorOpenBB
import Derived.Deep.CutBlock
import Derived.Deep.DeepCutAuto
import Derived.Deep.LoopGhost
import Derived.LoopN
namespace Go.Proofs.YtekdcnlbdgikoaaDoor
open Go.RowKit

def namesV : Array Value := #[.string ⟨#[97]⟩, .string ⟨#[98]⟩, .string ⟨#[99]⟩, .string ⟨#[100, 47, 97]⟩, .string ⟨#[100, 47, 98]⟩, .string ⟨#[100, 47, 100, 47, 97]⟩, .string ⟨#[101]⟩, .string ⟨#[102]⟩]
theorem names_at {w : World} {b : Nat} {t : TypeId} {z : Nat × Nat} (h : w.heap[b]? = some (.cells namesV t z)) : ∀ j, j < 8 → w.cell? ⟨b, j, none⟩ = some (.string (nm j)) := fun j hj => by
  rw [cell_of_blk h]
  rcases (show j = 0 ∨ j = 1 ∨ j = 2 ∨ j = 3 ∨ j = 4 ∨ j = 5 ∨ j = 6 ∨ j = 7 from by omega) with rfl | rfl | rfl | rfl | rfl | rfl | rfl | rfl <;> rfl
def contN (l : List Bv) (i : Nat) : List Int := ((l.getD i ⟨none, 0, 0, []⟩).b).take 300
theorem cont_len (l : List Bv) (i : Nat) : (contN l i).length ≤ 300 := by unfold contN; rw [List.length_take]; omega
theorem nm_size : ∀ j, j < 8 → (nm j).size ≤ 60 := by decide +kernel

set_option maxRecDepth 100000 in
set_option maxHeartbeats 4000000 in
theorem DiskMoves_walk (w : World) (m : Int) (hm0 : w.cell? ⟨0, 0, none⟩ = some (.int .i64 m)) (A : Option Addr) (n cap : Nat) (l : List Bv) (hl : Rbb w A n l) (hcap : n ≤ cap) (hcm : cap ≤ maxLen) :
    Calls Tryd.prog 4 #[.slice A n cap] w fun e w' => e = .returned (.bool true) ∧ Below w.heap.size w w' := by
  unfold maxLen at hcm
  have hlt := World.block_lt_of_cell? w _ hm0
  have HM0 := Lib.hid hm0; have HL := Lib.hid hl
  clear hm0 hl
  have hA : n = 0 ∨ (0 < n ∧ ∃ bb oo, A = some ⟨bb, oo, none⟩ ∧ bb < w.heap.size ∧ ∀ j (hj : j < l.length), w.cell? ⟨bb, oo + j, none⟩ = some (.slice l[j].A l[j].len l[j].cap)) := by
    rcases Nat.eq_zero_or_pos n with h | h
    · exact .inl h
    · exact .inr ⟨h, HL.out.2.2 h⟩
  have hszf : fromage.size ≤ maxLen := by decide +kernel
  rcases hA with rfl | ⟨hn0, bb, oo, rfl, hbb, hcells⟩
  all_goals
    go_enter Tryd.func4, Tryd.ntmps4
    go_wp2_with fail
    refine (shown23_any _ m HM0.out).mono ?_; rintro e w1 ⟨rfl, hb1⟩
    have HB1 := Lib.hid hb1
    clear hb1
    go_wp2_with fail
    refine (New_any _ _).mono ?_; rintro e w2 ⟨d, D, rfl, hd0, hD0, hd2, hb2⟩
    have HB2 := Lib.hid (on HB1.out hb2)
    have HD2 := Lib.hid hd2
    have hdne : d ≠ 0 := by have h : (⟨0, 0, none⟩ : Addr).block < w.heap.size := hlt; have := HB1.out.size; show d ≠ (⟨0, 0, none⟩ : Addr).block; omega
    have hDne : D ≠ 0 := by have h : (⟨0, 0, none⟩ : Addr).block < w.heap.size := hlt; have := HB1.out.size; show D ≠ (⟨0, 0, none⟩ : Addr).block; omega
    have hd0' : w.heap.size ≤ d := Nat.le_trans HB1.out.size hd0
    have hD0' : w.heap.size ≤ D := Nat.le_trans HB1.out.size hD0
    have hdlt := hd2.lt
    have hDlt := hd2.ltB
    clear hd2 hb2
    go_wp2_with fail
    obtain ⟨ob, hob⟩ : ∃ ob, ob = Obj.cells namesV 9 := ⟨_, rfl⟩
    obtain ⟨wa, hwa⟩ : ∃ wa, wa = w2.alloc ob := ⟨_, rfl⟩
    have hz2 := HB2.out.size
    have HDA := Lib.hid (show Dk wa d D 5000 (-1) [] from hwa ▸ HD2.out.alloc ob)
    have HBA := Lib.hid (show Below w.heap.size w wa from hwa ▸ HB2.out.alloc hz2 ob)
    have HNEW : Hid (wa.heap[w2.heap.size]? = some (.cells namesV 9)) := Lib.hid (by rw [← hob, hwa]; exact IdiomRange_new w2 ob)
    have HCC := Lib.hid (cont_len l)
  · rw [show w2.alloc (Obj.cells #[.string ⟨#[97]⟩, .string ⟨#[98]⟩, .string ⟨#[99]⟩, .string ⟨#[100, 47, 97]⟩, .string ⟨#[100, 47, 98]⟩, .string ⟨#[100, 47, 100, 47, 97]⟩, .string ⟨#[101]⟩, .string ⟨#[102]⟩] 9) = wa from by rw [hwa, hob]; rfl]
    clear hwa hob
    refine wp_loop_rounds 1 ?_
    rw [rounds_succ]
    go_wp2_with fail
    refine (CreateM_any _ d D 5000 (-1) _ ⟨[], rfl, HDA.out⟩ (by omega) hdne hDne fromage hszf m ((HBA.out.cell (p := ⟨0, 0, none⟩) hlt).trans HM0.out) 0 _ (moves_beside (n := 0) (by omega) (contN l))).mono ?_; rintro e w3 ⟨rfl, hd3, ht3⟩
    have HD3 := Lib.hid hd3
    have HB3 := Lib.hid (Turn.below HBA.out ht3 hd0' hD0' HBA.out.size)
    clear hd3 ht3
    go_wp2_with fail
    refine (Move_any _ d D 5000 (-1) _ HD3.out (by omega) hdne hDne dFrom dThere (by unfold allN; rw [List.length_append, moves_len]; simp) (moves_paths (n := 0) (by omega) _).2.1 m ((HB3.out.cell (p := ⟨0, 0, none⟩) hlt).trans HM0.out) 11 _ (moves_none (contN l))).mono ?_; rintro e w4 ⟨rfl, hd4, ht4⟩
    have HB4 := Lib.hid (Turn.below HB3.out ht4 hd0' hD0' HB3.out.size)
    clear hd4 ht4
    go_wp2_with fail
    go_ret
    exact ⟨rfl, HB4.out⟩
  · have HCELLS := Lib.hid hcells
    clear hcells
    rw [show w2.alloc (Obj.cells #[.string ⟨#[97]⟩, .string ⟨#[98]⟩, .string ⟨#[99]⟩, .string ⟨#[100, 47, 97]⟩, .string ⟨#[100, 47, 98]⟩, .string ⟨#[100, 47, 100, 47, 97]⟩, .string ⟨#[101]⟩, .string ⟨#[102]⟩] 9) = wa from by rw [hwa, hob]; rfl]
    clear hwa hob
    have HLEN := Lib.hid HL.out.1
    go_loopg [6, 7] 8 (fun gg v6 v7 wr => ∃ (j : Nat), v6 = .int .i64 j ∧ v7 = .int .i64 j ∧ j ≤ n ∧ j ≤ 8 ∧ 8 - j ≤ gg ∧ Hid (Da wr d D 5000 (-1) (filesN preFrom j (contN l))) ∧ Hid (wr.heap[w2.heap.size]? = some (.cells namesV 9)) ∧ Hid (Below w.heap.size w wr))
    case atStart => exact ⟨0, rfl, rfl, by omega, by omega, by omega, Lib.hid ⟨[], rfl, HDA.out⟩, HNEW, HBA⟩
    case round =>
      obtain ⟨j, rfl, rfl, hjn, hj8, hgg, hda, hnw, hb⟩ := hrel
      by_cases hlt2 : j < n ∧ j < 8
      · have t1 : decide ((j : Int) < n) = true := decide_eq_true (by omega)
        have t2 : decide ((j : Int) < 8) = true := decide_eq_true (by omega)
        have hj : j < l.length := by rw [HLEN.out]; exact hlt2.1
        have hx := HL.out.2.1 _ (List.getElem_mem hj)
        have c0 := (hb.out.cell (p := ⟨bb, oo + j, none⟩) hbb).trans (HCELLS.out j hj)
        have hcj : Hid (l[j].b.take 300 = contN l j) := Lib.hid (by unfold contN; rw [List.getD_eq_getElem?_getD, List.getElem?_eq_getElem hj]; rfl)
        generalize l[j] = x at hx c0 hcj
        have HX := Lib.hid hx
        have hbi := HX.out.2.2.1
        have n0 := names_at hnw.out j hlt2.2
        have hns := nm_size j hlt2.2
        have happ : preFrom.size + (nm j).size ≤ maxLen := by have : preFrom.size = 5 := rfl; unfold maxLen; omega
        have hps : (preFrom ++ nm j).size ≤ maxLen := by rw [ByteArray.size_append]; exact happ
        clear hx
        go_upto_if 41 with fail
        go_cut [8] (fun v wx => ∃ (A1 : Option Addr) (m1 c1 : Nat), v = .slice A1 m1 c1 ∧ m1 ≤ 300 ∧ Hid (Ri w .u8 A1 m1 (contN l j)) ∧ wx = wr)
        case first =>
          rcases cut_ri3 HX.out.1 300 with ⟨h1, ⟨b2, o2, hA2⟩, h2⟩ | ⟨h1, h2⟩
          · rw [hcj.out] at h2
            have H2 := Lib.hid h2
            have hA3 := Lib.hid hA2
            have t3 : decide ((300 : Int) < x.len) = true := decide_eq_true (by omega)
            have hc3 : 300 ≤ x.cap := by omega
            rw [hA2]
            clear h2 hA2
            go_wp2_with fail
            go_meet
            exact ⟨_, _, _, rfl, by omega, Lib.hid (hA3.out ▸ H2.out), rfl⟩
          · rw [hcj.out] at h2
            have H2 := Lib.hid h2
            have t3 : decide ((300 : Int) < x.len) = false := decide_eq_false (by omega)
            clear h2
            go_wp2_with fail
            go_meet
            exact ⟨_, _, _, rfl, h1, H2, rfl⟩
        case rest =>
        obtain ⟨A1, n1, ca1, rfl, hn1, hA1, hw⟩ := hcut
        subst hw
        have hul : U8 (contN l j) := by rw [← hcj.out]; exact HX.out.2.1.take 300
        have HUL := Lib.hid hul
        clear hul
        go_wp2_with fail
        refine (CreateM_any _ d D 5000 (-1) _ hda.out (by omega) hdne hDne (preFrom ++ nm j) hps m ((hb.out.cell (p := ⟨0, 0, none⟩) hlt).trans HM0.out) 0 _ (moves_create hlt2.2 (contN l))).mono ?_; rintro e w4 ⟨rfl, hd4, ht4⟩
        have HD4 := Lib.hid hd4
        have HB4 := Lib.hid (Turn.below hb.out ht4 hd0' hD0' hb.out.size)
        have hlw : w2.heap.size < wc.heap.size := World.block_lt_of_cell? _ _ n0
        have HNW4 := Lib.hid ((ht4.block w2.heap.size hlw (by omega) (by omega)).trans hnw.out)
        have n4 := names_at HNW4.out j hlt2.2
        have hlw4 : w2.heap.size < w4.heap.size := World.block_lt_of_cell? _ _ n4
        clear hd4 ht4
        go_wp2_with fail
        refine (Append_any _ d D 5000 (-1) _ HD4.out (by omega) (preFrom ++ nm j) hps (by rw [List.length_append, moves_len]; simp; omega) (by rw [used_app]; have := used_files preFrom j (contN l) HCC.out; have e : usedM [⟨preFrom ++ nm j, [], 0⟩] = 0 := rfl; omega) A1 n1 ca1 (contN l j) (hA1.out.below HB4.out) HUL.out (by omega) 0 _ (moves_append hlt2.2 (contN l) HCC.out)).mono ?_; rintro e w5 ⟨rfl, hd5, ht5⟩
        have HD5 := Lib.hid hd5
        have HB5 := Lib.hid (Turn.below HB4.out ht5 hd0' hD0' HB4.out.size)
        have HNW5 := Lib.hid ((ht5.block w2.heap.size hlw4 (by omega) (by omega)).trans HNW4.out)
        clear hd5 ht5
        go_wp2_with fail
        go_roundg (8 - (j + 1))
        case measure => omega
        case rel => exact ⟨j + 1, by go_num, by go_num, by omega, by omega, by omega, HD5, HNW5, HB5⟩
      · have hj0 : 0 < j := by omega
        have hMV := moves_there hj0 hj8 (contN l)
        have hMB := moves_back hj0 hj8 (contN l)
        have hLS := moves_lists hj8 (contN l)
        have hUS := moves_used hj8 (contN l) HCC.out
        have HMV := Lib.hid hMV; have HMB := Lib.hid hMB; have HLS := Lib.hid hLS; have HUS := Lib.hid hUS
        have hj0i : ((j : Int) == 0) = false := by simp; omega
        have hall : (allN j (contN l)).length < 1000000 := by unfold allN; rw [List.length_append, moves_len]; simp; omega
        have hthl : (thereN j (contN l)).length < 1000000 := by unfold thereN; rw [List.length_cons, moves_len]; omega
        have hbal : (backN j (contN l)).length < 1000000 := by unfold backN; rw [List.length_append, moves_len]; simp; omega
        have HALL := Lib.hid hall; have HTHL := Lib.hid hthl; have HBAL := Lib.hid hbal
        have hlw : w2.heap.size < wr.heap.size := by
          rcases Nat.lt_or_ge w2.heap.size wr.heap.size with k | k
          · exact k
          · have := hnw.out; rw [Array.getElem?_eq_none k] at this; cases this
        clear hMV hMB hLS hUS hall hthl hbal
        have htest : (8 ≤ j ∧ decide ((j : Int) < 8) = false) ∨ (decide ((j : Int) < 8) = true ∧ decide (j < n) = false) := by
          by_cases h : j < 8
          · exact .inr ⟨decide_eq_true (by omega), decide_eq_false (by omega)⟩
          · exact .inl ⟨by omega, decide_eq_false (by omega)⟩
        rcases htest with ⟨_, t8⟩ | ⟨t8, tn⟩
        all_goals
          go_wp2_with fail
          refine (CreateM_any _ d D 5000 (-1) _ hda.out (by omega) hdne hDne fromage hszf m ((hb.out.cell (p := ⟨0, 0, none⟩) hlt).trans HM0.out) 0 _ (moves_beside hj8 (contN l))).mono ?_; rintro e w3 ⟨rfl, hd3, ht3⟩
          have HD3 := Lib.hid hd3
          have HB3 := Lib.hid (Turn.below hb.out ht3 hd0' hD0' hb.out.size)
          have HNW3 := Lib.hid ((ht3.block w2.heap.size hlw (by omega) (by omega)).trans hnw.out)
          have hlw3 : w2.heap.size < w3.heap.size := Nat.lt_of_lt_of_le hlw ht3.size
          clear hd3 ht3
          go_wp2_with fail
          refine (Move_any _ d D 5000 (-1) _ HD3.out (by omega) hdne hDne dFrom dThere HALL.out (moves_paths hj8 _).2.1 m ((HB3.out.cell (p := ⟨0, 0, none⟩) hlt).trans HM0.out) 0 _ HMV.out).mono ?_; rintro e w4 ⟨rfl, hd4, ht4⟩
          have HD4 := Lib.hid hd4
          have HB4 := Lib.hid (Turn.below HB3.out ht4 hd0' hD0' HB3.out.size)
          have HNW4 := Lib.hid ((ht4.block w2.heap.size hlw3 (by omega) (by omega)).trans HNW3.out)
          have hlw4 : w2.heap.size < w4.heap.size := Nat.lt_of_lt_of_le hlw3 ht4.size
          clear hd4 ht4
          go_wp2_with fail
          refine (List_any _ d D 5000 (-1) _ HD4.out dFrom HTHL.out).mono ?_; rintro e w5 ⟨G5, n5, c5, rfl, hr5, _, _, hb5⟩
          have hn5 : n5 = 0 := hr5.len.symm.trans HLS.out.1
          have HD5 := Lib.hid (HD4.out.below hb5)
          have HB5 := Lib.hid (HB4.out.trans (hb5.mono HB4.out.size))
          have HNW5 := Lib.hid ((hb5.block w2.heap.size hlw4).trans HNW4.out)
          have hlw5 : w2.heap.size < w5.heap.size := Nat.lt_of_lt_of_le hlw4 hb5.size
          clear hb5 hr5
          subst hn5
          go_wp2_with fail
          refine (List_any _ d D 5000 (-1) _ HD5.out dThere HTHL.out).mono ?_; rintro e w6 ⟨G6, n6, c6, rfl, hr6, _, _, hb6⟩
          have hn6 : j = n6 := (hr6.len.symm.trans HLS.out.2.1).symm
          have HD6 := Lib.hid (HD5.out.below hb6)
          have HB6 := Lib.hid (HB5.out.trans (hb6.mono HB5.out.size))
          have HNW6 := Lib.hid ((hb6.block w2.heap.size hlw5).trans HNW5.out)
          have hlw6 : w2.heap.size < w6.heap.size := Nat.lt_of_lt_of_le hlw5 hb6.size
          clear hb6 hr6
          subst hn6
          go_wp2_with fail
          refine (List_any _ d D 5000 (-1) _ HD6.out ⟨#[]⟩ HTHL.out).mono ?_; rintro e w7 ⟨G7, n7, c7, rfl, hr7, _, _, hb7⟩
          have hn7 : j + 1 = n7 := (hr7.len.symm.trans HLS.out.2.2.1).symm
          have HD7 := Lib.hid (HD6.out.below hb7)
          have HB7 := Lib.hid (HB6.out.trans (hb7.mono HB6.out.size))
          have HNW7 := Lib.hid ((hb7.block w2.heap.size hlw6).trans HNW6.out)
          clear hb7 hr7
          subst hn7
          go_wp2_with fail
          go_loopg [10] 8 (fun gg v wr => ∃ (i : Nat), v = .int .i64 i ∧ i ≤ j ∧ 8 - i ≤ gg ∧ Hid (Da wr d D 5000 (-1) (thereN j (contN l))) ∧ Hid (wr.heap[w2.heap.size]? = some (.cells namesV 9)) ∧ Hid (Below w.heap.size w wr))
          case atStart => exact ⟨0, rfl, by omega, by omega, HD7, HNW7, HB7⟩
          case round =>
            obtain ⟨i, rfl, hij, hgi, hdi, hni, hbi⟩ := hrel
            by_cases hlti : i < j
            · have ti : decide (i < j) = true := decide_eq_true hlti
              have hj : i < l.length := by rw [HLEN.out]; omega
              have hx := HL.out.2.1 _ (List.getElem_mem hj)
              have c0 := (hbi.out.cell (p := ⟨bb, oo + i, none⟩) hbb).trans (HCELLS.out i hj)
              have hcj : Hid (l[i].b.take 300 = contN l i) := Lib.hid (by unfold contN; rw [List.getD_eq_getElem?_getD, List.getElem?_eq_getElem hj]; rfl)
              generalize l[i] = x at hx c0 hcj
              have HX := Lib.hid hx
              have hbi2 := HX.out.2.2.1
              have n0 := names_at hni.out i (by omega)
              have hns := nm_size i (by omega)
              have happ : preThere.size + (nm i).size ≤ maxLen := by have : preThere.size = 9 := rfl; unfold maxLen; omega
              have hps : (preThere ++ nm i).size ≤ maxLen := by rw [ByteArray.size_append]; exact happ
              clear hx
              go_upto_if 107 with fail
              go_cut [11] (fun v wx => ∃ (A1 : Option Addr) (m1 c1 : Nat), v = .slice A1 m1 c1 ∧ m1 ≤ 300 ∧ Hid (Ri w .u8 A1 m1 (contN l i)) ∧ wx = wr)
              case first =>
                rcases cut_ri3 HX.out.1 300 with ⟨h1, ⟨b2, o2, hA2⟩, h2⟩ | ⟨h1, h2⟩
                · rw [hcj.out] at h2
                  have H2 := Lib.hid h2
                  have hA3 := Lib.hid hA2
                  have t3 : decide ((300 : Int) < x.len) = true := decide_eq_true (by omega)
                  have hc3 : 300 ≤ x.cap := by omega
                  rw [hA2]
                  clear h2 hA2
                  go_wp2_with fail
                  go_meet
                  exact ⟨_, _, _, rfl, by omega, Lib.hid (hA3.out ▸ H2.out), rfl⟩
                · rw [hcj.out] at h2
                  have H2 := Lib.hid h2
                  have t3 : decide ((300 : Int) < x.len) = false := decide_eq_false (by omega)
                  clear h2
                  go_wp2_with fail
                  go_meet
                  exact ⟨_, _, _, rfl, h1, H2, rfl⟩
              case rest =>
              obtain ⟨A1, n1, ca1, rfl, hn1, hA1, hw⟩ := hcut
              subst hw
              go_wp2_with fail
              refine (Read_any _ d D 5000 (-1) _ hdi.out (preThere ++ nm i) hps (by have := HUS.out.2.1; omega) _ 0 (moves_read hj8 hlti (contN l))).mono ?_; rintro e w8 ⟨G8, n8, c8, rfl, hs8, hb8⟩
              have HD8 := Lib.hid (hdi.out.below hb8)
              have HB8 := Lib.hid (hbi.out.trans (hb8.mono hbi.out.size))
              have hlw8 : w2.heap.size < wc.heap.size := World.block_lt_of_cell? _ _ n0
              have HNW8 := Lib.hid ((hb8.block w2.heap.size hlw8).trans hni.out)
              have v1 := conv_any (c := c8) hs8.1
              have v2 := conv_any (c := ca1) (hA1.out.below HB8.out)
              clear hs8 hb8
              go_wp2_with fail
              go_roundg (8 - (i + 1))
              case measure => omega
              case rel => exact ⟨i + 1, by go_num, by omega, by omega, HD8, HNW8, HB8⟩
            · have ti : decide (i < j) = false := decide_eq_false hlti
              go_wp2_with fail
              refine (Move_any _ d D 5000 (-1) _ hdi.out (by omega) hdne hDne dTo dFrom HTHL.out (moves_paths hj8 _).2.2 m ((hbi.out.cell (p := ⟨0, 0, none⟩) hlt).trans HM0.out) 0 _ HMB.out).mono ?_; rintro e w8 ⟨rfl, hd8, ht8⟩
              have HD8 := Lib.hid hd8
              have HB8 := Lib.hid (Turn.below hbi.out ht8 hd0' hD0' hbi.out.size)
              clear hd8 ht8
              go_wp2_with fail
              refine (List_any _ d D 5000 (-1) _ HD8.out dBack HBAL.out).mono ?_; rintro e w9 ⟨G9, n9, c9, rfl, hr9, _, _, hb9⟩
              have hn9 : j = n9 := (hr9.len.symm.trans HLS.out.2.2.2).symm
              have HB9 := Lib.hid (HB8.out.trans (hb9.mono HB8.out.size))
              clear hb9 hr9
              subst hn9
              go_wp2_with fail
              go_ret
              exact ⟨rfl, HB9.out⟩
end Go.Proofs.YtekdcnlbdgikoaaDoor

/- Joined texts: LawDk2. Each has its own head line. No condition beyond those that its theorems state. -/
import Derived.Deep.CutBlock
import Derived.Deep.DeepCutAuto
import Derived.Deep.LoopGhost
import Derived.LoopN
import Derived.Test.YtekdcnlbdgikoaaDoorJ20
import Derived.Test.YtekdcnlbdgikoaaDoorJ26
import Derived.Test.YtekdcnlbdgikoaaDoorJ27
set_option linter.unusedVariables false

/- The walk through DiskQuota. -/
namespace Go.Proofs.YtekdcnlbdgikoaaDoor
open Go.RowKit

/-- Which of n kinds. -/
def kindN (c n : Int) : Int := (if c < 0 then -(c + 1) else c).tmod n
theorem kindN_bound (c : Int) {n : Int} (hn : 0 < n) : 0 ≤ kindN c n ∧ kindN c n < n := by
  unfold kindN
  have h0 : 0 ≤ (if c < 0 then -(c + 1) else c) := by split <;> omega
  rw [Int.tmod_eq_emod_of_nonneg h0]
  exact ⟨Int.emod_nonneg _ (by omega), Int.emod_lt_of_pos _ hn⟩
set_option maxHeartbeats 1000000 in
theorem kind_any (w : World) (c n : Int) (hc : is64 c) (hn : 0 < n ∧ n < 9223372036854775808) : Calls Tryd.prog 17 #[.int .i64 c, .int .i64 n] w fun e w' => e = .returned (.int .i64 (kindN c n)) ∧ w' = w := by
  unfold is64 at hc
  by_cases h0 : c < 0
  · have t1 : decide (c < 0) = true := decide_eq_true h0
    have t2 : (n == 0) = false := by simp; omega
    have hk : kindN c n = (-(c + 1)).tmod n := by unfold kindN; rw [if_pos h0]
    have hb := kindN_bound c hn.1
    go_enter Tryd.func17, Tryd.ntmps17
    go_wp2_with fail
    go_ret
    refine ⟨ret_int ?_, rfl⟩
    rw [hk, Int.neg_tmod]
  · have t1 : decide (c < 0) = false := decide_eq_false h0
    have t2 : (n == 0) = false := by simp; omega
    have hk : kindN c n = c.tmod n := by unfold kindN; rw [if_neg h0]
    have hb := kindN_bound c hn.1
    go_enter Tryd.func17, Tryd.ntmps17
    go_wp2_with fail
    go_ret
    refine ⟨ret_int ?_, rfl⟩
    first
      | rw [Int.tmod_eq_emod_of_nonneg h0]
      | rw [hk, Int.tmod_eq_emod_of_nonneg (by omega)]
theorem UsedM_any (w : World) (d B : Nat) (q lf : Int) (M : List Mf) (h : Da w d B q lf M) (hu : usedM M ≤ 9223372036854775807) :
    Calls Tryd.prog 18 #[.pointer (some ⟨d, 0, none⟩)] w fun e w' => e = .returned (.int .i64 (usedM M)) ∧ Below w.heap.size w w' := by
  obtain ⟨L, rfl, hk⟩ := h
  rw [← abs_used hk.row] at hu ⊢
  exact Used_any w d B q lf L hk hu

set_option maxRecDepth 100000 in
set_option maxHeartbeats 4000000 in
theorem DiskQuota_walk (w : World) (m : Int) (hm0 : w.cell? ⟨0, 0, none⟩ = some (.int .i64 m)) (qv : Int) (hq : is64 qv) (A : Option Addr) (n cap : Nat) (l : List Opv) (hl : Ro w A n l) (hcap : n ≤ cap) (hcm : cap ≤ maxLen) :
    Calls Tryd.prog 5 #[.int .i64 qv, .slice A n cap] w fun e w' => e = .returned (.bool true) ∧ Below w.heap.size w w' := by
  unfold maxLen at hcm
  have hlt := World.block_lt_of_cell? w _ hm0
  have HM0 := Lib.hid hm0; have HL := Lib.hid hl
  have HK := Lib.hid (kind_any w qv 1000 hq (by omega))
  have hkb := kindN_bound qv (n := 1000) (by omega)
  obtain ⟨k, hk⟩ : ∃ k, k = kindN qv 1000 := ⟨_, rfl⟩
  rw [← hk] at hkb
  have HKK := Lib.hid hk
  clear hm0 hl hk
  have hA : n = 0 ∨ (0 < n ∧ ∃ bb oo, A = some ⟨bb, oo, none⟩ ∧ bb < w.heap.size ∧ ∀ j (hj : j < l.length), OpAt w bb (oo + j * 6) l[j]) := by
    rcases Nat.eq_zero_or_pos n with h | h
    · exact .inl h
    · exact .inr ⟨h, HL.out.2.2 h⟩
  rcases hA with rfl | ⟨hn0, bb, oo, rfl, hbb, hcells⟩
  all_goals
    go_enter Tryd.func5, Tryd.ntmps5
    go_wp2_with fail
    refine (shown23_any _ m HM0.out).mono ?_; rintro e w1 ⟨rfl, hb1⟩
    have HB1 := Lib.hid hb1
    clear hb1
    go_wp2_with fail
    refine (kind_any _ qv 1000 hq (by omega)).mono ?_; rintro e w1 ⟨rfl, rfl⟩
    rw [← HKK.out]
    go_wp2_with fail
    refine (New_any _ _).mono ?_; rintro e w2 ⟨d, D, rfl, hd0, hD0, hd2, hb2⟩
    have HB2 := Lib.hid (on HB1.out hb2)
    have HD2 := Lib.hid hd2
    clear hd2 hb2
    go_wp2_with fail
  · refine wp_loop_rounds 1 ?_
    rw [rounds_succ]
    go_wp2_with fail
    go_ret
    exact ⟨rfl, HB2.out⟩
  · have HCELLS := Lib.hid hcells
    clear hcells
    have hdne : d ≠ 0 := by have h : (⟨0, 0, none⟩ : Addr).block < w.heap.size := hlt; have := HB1.out.size; show d ≠ (⟨0, 0, none⟩ : Addr).block; omega
    have hDne : D ≠ 0 := by have h : (⟨0, 0, none⟩ : Addr).block < w.heap.size := hlt; have := HB1.out.size; show D ≠ (⟨0, 0, none⟩ : Addr).block; omega
    have hd0' : w.heap.size ≤ d := Nat.le_trans HB1.out.size hd0
    have hD0' : w.heap.size ≤ D := Nat.le_trans HB1.out.size hD0
    have HLEN := Lib.hid HL.out.1
    go_loopg [8] 60 (fun gg i wr => ∃ (j : Nat) (M : List Mf), i = .int .i64 j ∧ j ≤ n ∧ j ≤ 60 ∧ 60 - j ≤ gg ∧ Hid (Da wr d D k (-1) M) ∧ Hid (SmallM M) ∧ Hid ((usedM M : Int) ≤ k) ∧ Hid (Below w.heap.size w wr))
    case atStart => exact ⟨0, [], rfl, by omega, by omega, by omega, Lib.hid ⟨[], rfl, HD2.out⟩, Lib.hid ⟨by simp, fun f hf => absurd hf List.not_mem_nil⟩, Lib.hid (by show (0 : Int) ≤ k; omega), HB2⟩
    case round =>
      obtain ⟨j, M, rfl, hjn, hj60, hgg, hda, hsm, hus, hb⟩ := hrel
      by_cases hlt2 : j < n ∧ j < 60
      · have t1 : decide ((j : Int) < n) = true := decide_eq_true (by omega)
        have t2 : decide ((j : Int) < 60) = true := decide_eq_true (by omega)
        have hj : j < l.length := by rw [HLEN.out]; exact hlt2.1
        have hx := HL.out.2.1 _ (List.getElem_mem hj)
        obtain ⟨c0, c1, c2, c3, c4, c5⟩ := HCELLS.out j hj
        have kk := fun i => hb.out.cell (p := ⟨bb, i, none⟩) hbb
        generalize l[j] = x at hx c0 c1 c2 c3 c4 c5
        have g0 := (kk _).trans c0
        have g1 := (kk _).trans c1
        have g2 := (kk _).trans c2
        have g3 := (kk _).trans c3
        have g4 := (kk _).trans c4
        have g5 := (kk _).trans c5
        have HX := Lib.hid hx
        have hbi := HX.out.2.2.2.2.1
        clear c0 c1 c2 c3 c4 c5 kk hx
        go_upto_if 41 with fail
        obtain ⟨ob, hob⟩ : ∃ ob, ob = Obj.cells #[.int .i64 x.k, .int .i64 x.n, .int .i64 x.m, .string x.p, .string x.q, .slice x.A x.len x.cap] 43 := ⟨_, rfl⟩
        obtain ⟨wa, hwa⟩ : ∃ wa, wa = wr.alloc ob := ⟨_, rfl⟩
        have hzr := hb.out.size
        have HDA := Lib.hid (show Da wa d D k (-1) M from hwa ▸ hda.out.below ((Below.refl _ _).alloc (Nat.le_refl _) ob))
        have HBA := Lib.hid (show Below w.heap.size w wa from hwa ▸ hb.out.alloc hzr ob)
        have HNEW : Hid (wa.heap[wr.heap.size]? = some ob) := Lib.hid (hwa ▸ IdiomRange_new wr ob)
        have HRB := Lib.hid HX.out.2.2.1
        have HNL : wr.heap.size < wa.heap.size := by rw [hwa]; simp
        rw [← hob, ← hwa]
        clear hwa g0 g1 g2 g3 g4 g5
        go_cut [10] (fun v wx => ∃ (A1 : Option Addr) (m1 c1 : Nat), v = .slice A1 m1 c1 ∧ m1 ≤ 300 ∧ Hid (Ri w .u8 A1 m1 (x.b.take 300)) ∧ wx = wa)
        case first =>
          rcases cut_ri3 HRB.out 300 with ⟨h1, ⟨b2, o2, hA2⟩, h2⟩ | ⟨h1, h2⟩
          · have H2 := Lib.hid h2
            have hA3 := Lib.hid hA2
            have t3 : decide ((300 : Int) < x.len) = true := decide_eq_true (by omega)
            have hc3 : 300 ≤ x.cap := by omega
            rw [hA2]
            clear h2 hA2
            go_wp2_with fail
            go_meet
            exact ⟨_, _, _, rfl, by omega, Lib.hid (hA3.out ▸ H2.out), rfl⟩
          · have H2 := Lib.hid h2
            have t3 : decide ((300 : Int) < x.len) = false := decide_eq_false (by omega)
            clear h2
            go_wp2_with fail
            go_meet
            exact ⟨_, _, _, rfl, h1, H2, rfl⟩
        case rest =>
        obtain ⟨A1, n1, ca1, rfl, hn1, hA1, hw⟩ := hcut
        subst hw
        have hul : U8 (x.b.take 300) := HX.out.2.2.2.1.take 300
        have hll := hA1.out.len
        obtain ⟨lb, hlb⟩ : ∃ lb, lb = x.b.take 300 := ⟨_, rfl⟩
        rw [← hlb] at hul hll hA1
        have HUL := Lib.hid hul
        have HLL := Lib.hid hll
        have husk := hus.out
        have hdlt : d < wr.heap.size ∧ D < wr.heap.size := by
          obtain ⟨L0, _, h0⟩ := hda.out
          exact ⟨h0.lt, h0.ltB⟩
        have hpq := HX.out.2.1
        have hr1 : x.p.size ≤ maxLen := by have := hpq.1; have := reachBytes_lt; unfold maxLen; omega
        have hr2 : x.q.size ≤ maxLen := by have := hpq.2; have := reachBytes_lt; unfold maxLen; omega
        have HSORT := Lib.hid hda.out.sort
        have hml := hsm.out.1
        have h60 := Lib.hid hsm.out.2
        obtain ⟨K, hK⟩ : ∃ K, K = kindN x.k 6 := ⟨_, rfl⟩
        have hKb := kindN_bound x.k (n := 6) (by omega)
        rw [← hK] at hKb
        have HKX := Lib.hid hK
        clear hul hll hlb hpq hK
        go_wp2_with fail
        refine (UsedM_any _ d D k (-1) M HDA.out (by omega)).mono ?_; rintro e w3 ⟨rfl, hb3⟩
        have HD3 := Lib.hid (HDA.out.below hb3)
        have HB3 := Lib.hid (HBA.out.trans (hb3.mono HBA.out.size))
        have hnw3 := (hb3.block _ HNL).trans HNEW.out
        rw [hob] at hnw3
        have g0 : w3.cell? ⟨wr.heap.size, 0, none⟩ = some (.int .i64 x.k) := by rw [cell_of_blk hnw3]; rfl
        have g1 : w3.cell? ⟨wr.heap.size, 1, none⟩ = some (.int .i64 x.n) := by rw [cell_of_blk hnw3]; rfl
        have g3 : w3.cell? ⟨wr.heap.size, 3, none⟩ = some (.string x.p) := by rw [cell_of_blk hnw3]; rfl
        have g4 : w3.cell? ⟨wr.heap.size, 4, none⟩ = some (.string x.q) := by rw [cell_of_blk hnw3]; rfl
        have HG0 := Lib.hid g0
        have hbl3 := World.block_lt_of_cell? w3 _ g0
        have HM3 := Lib.hid ((HB3.out.cell (p := ⟨0, 0, none⟩) hlt).trans HM0.out)
        clear hnw3 hb3
        go_wp2_with fail
        refine (kind_any _ x.k 6 HX.out.1.1 (by omega)).mono ?_; rintro e w4 ⟨rfl, hw4⟩
        rw [hw4]
        clear hw4 w4
        rw [← HKX.out]
        have hK6 : K = 0 ∨ K = 1 ∨ K = 2 ∨ K = 3 ∨ K = 4 ∨ K = 5 := by omega
        have g30 := HG0.out
        have HKIND := Lib.hid (fun w => kind_any w x.k 6 HX.out.1.1 (by omega))
        rw [← HKX.out] at HKIND
        clear hKb
        rcases hK6 with rfl | rfl | rfl | rfl | rfl | rfl
        · obtain ⟨er, M2, hc⟩ : ∃ er M2, createM (-1) M x.p = (er, M2) := ⟨_, _, rfl⟩
          have hs2 := create_small hsm.out hc
          go_wp2_with fail
          refine (CreateM_any _ d D k (-1) M HD3.out (by omega) hdne hDne x.p hr1 m HM3.out er M2 hc).mono ?_; rintro e w4 ⟨rfl, hd4, ht4⟩
          have HOP : Hid (Da w4 d D k (-1) M2 ∧ SmallM M2 ∧ (usedM M2 : Int) ≤ k ∧ usedM M2 ≤ usedM M + n1 ∧ ((0 : Int) = 5 → usedM M2 ≤ usedM M) ∧ Turn d D w3 w4) := Lib.hid ⟨hd4, hs2.1, by rw [hs2.2]; exact hus.out, by rw [hs2.2]; omega, fun _ => by rw [hs2.2]; exact Nat.le_refl _, ht4⟩
          clear hd4 ht4
          have HD4 := Lib.hid HOP.out.1
          have HS4 := Lib.hid HOP.out.2.1
          have HU4 := Lib.hid HOP.out.2.2.1
          have hv4 := HOP.out.2.2.2.1
          have hu4 := HU4.out
          have hT := HOP.out.2.2.2.2.2
          have HB4 := Lib.hid (Turn.below HB3.out hT hd0' hD0' HB3.out.size)
          have HG4 := Lib.hid (hT.cell HG0.out (by show wr.heap.size ≠ d; omega) (by show wr.heap.size ≠ D; omega))
          have hl4 := HS4.out.1
          have s1 : decide (k < (usedM M2 : Int)) = false := decide_eq_false (by omega)
          have s2 : decide ((usedM M : Int) + n1 < usedM M2) = false := decide_eq_false (by omega)
          clear hT
          go_wp2_with fail
          refine (UsedM_any _ d D k (-1) M2 HD4.out (by omega)).mono ?_; rintro e w5 ⟨rfl, hb5⟩
          have HD5 := Lib.hid (HD4.out.below hb5)
          have HB5 := Lib.hid (HB4.out.trans (hb5.mono HB4.out.size))
          have HG5 := Lib.hid ((hb5.cell (p := ⟨wr.heap.size, 0, none⟩) (World.block_lt_of_cell? w4 _ HG4.out)).trans HG4.out)
          clear hb5
          go_wp2_with fail
          refine (UsedM_any _ d D k (-1) M2 HD5.out (by omega)).mono ?_; rintro e w6 ⟨rfl, hb6⟩
          have HD6 := Lib.hid (HD5.out.below hb6)
          have HB6 := Lib.hid (HB5.out.trans (hb6.mono HB5.out.size))
          have HG6 := Lib.hid ((hb6.cell (p := ⟨wr.heap.size, 0, none⟩) (World.block_lt_of_cell? w5 _ HG5.out)).trans HG5.out)
          clear hb6
          go_wp2_with fail
          refine (List_any _ d D k (-1) M2 HD6.out ⟨#[]⟩ (by omega)).mono ?_; rintro e w7 ⟨G7, n7, c7, rfl, hr7, _, _, hb7⟩
          have hn7 := hr7.len
          rw [list_all] at hn7
          have s3 : decide ((400 : Int) < n7) = false := decide_eq_false (by omega)
          have HD7 := Lib.hid (HD6.out.below hb7)
          have HB7 := Lib.hid (HB6.out.trans (hb7.mono HB6.out.size))
          have HG7 := Lib.hid ((hb7.cell (p := ⟨wr.heap.size, 0, none⟩) (World.block_lt_of_cell? w6 _ HG6.out)).trans HG6.out)
          have g7 := HG7.out
          clear hb7 hr7
          go_wp2_with fail
          refine (HKIND.out _).mono ?_; rintro e w8 ⟨rfl, rfl⟩
          go_wp2_with fail
          go_roundg (60 - (j + 1))
          case measure => omega
          case rel => exact ⟨j + 1, M2, by go_num, by omega, by omega, by omega, HD7, HS4, HU4, HB7⟩
        · obtain ⟨er, M2, hc⟩ : ∃ er M2, createM (-1) M x.p = (er, M2) := ⟨_, _, rfl⟩
          have hs2 := create_small hsm.out hc
          go_wp2_with fail
          refine (CreateM_any _ d D k (-1) M HD3.out (by omega) hdne hDne x.p hr1 m HM3.out er M2 hc).mono ?_; rintro e w4 ⟨rfl, hd4, ht4⟩
          have HOP : Hid (Da w4 d D k (-1) M2 ∧ SmallM M2 ∧ (usedM M2 : Int) ≤ k ∧ usedM M2 ≤ usedM M + n1 ∧ ((1 : Int) = 5 → usedM M2 ≤ usedM M) ∧ Turn d D w3 w4) := Lib.hid ⟨hd4, hs2.1, by rw [hs2.2]; exact hus.out, by rw [hs2.2]; omega, fun _ => by rw [hs2.2]; exact Nat.le_refl _, ht4⟩
          clear hd4 ht4
          have HD4 := Lib.hid HOP.out.1
          have HS4 := Lib.hid HOP.out.2.1
          have HU4 := Lib.hid HOP.out.2.2.1
          have hv4 := HOP.out.2.2.2.1
          have hu4 := HU4.out
          have hT := HOP.out.2.2.2.2.2
          have HB4 := Lib.hid (Turn.below HB3.out hT hd0' hD0' HB3.out.size)
          have HG4 := Lib.hid (hT.cell HG0.out (by show wr.heap.size ≠ d; omega) (by show wr.heap.size ≠ D; omega))
          have hl4 := HS4.out.1
          have s1 : decide (k < (usedM M2 : Int)) = false := decide_eq_false (by omega)
          have s2 : decide ((usedM M : Int) + n1 < usedM M2) = false := decide_eq_false (by omega)
          clear hT
          go_wp2_with fail
          refine (UsedM_any _ d D k (-1) M2 HD4.out (by omega)).mono ?_; rintro e w5 ⟨rfl, hb5⟩
          have HD5 := Lib.hid (HD4.out.below hb5)
          have HB5 := Lib.hid (HB4.out.trans (hb5.mono HB4.out.size))
          have HG5 := Lib.hid ((hb5.cell (p := ⟨wr.heap.size, 0, none⟩) (World.block_lt_of_cell? w4 _ HG4.out)).trans HG4.out)
          clear hb5
          go_wp2_with fail
          refine (UsedM_any _ d D k (-1) M2 HD5.out (by omega)).mono ?_; rintro e w6 ⟨rfl, hb6⟩
          have HD6 := Lib.hid (HD5.out.below hb6)
          have HB6 := Lib.hid (HB5.out.trans (hb6.mono HB5.out.size))
          have HG6 := Lib.hid ((hb6.cell (p := ⟨wr.heap.size, 0, none⟩) (World.block_lt_of_cell? w5 _ HG5.out)).trans HG5.out)
          clear hb6
          go_wp2_with fail
          refine (List_any _ d D k (-1) M2 HD6.out ⟨#[]⟩ (by omega)).mono ?_; rintro e w7 ⟨G7, n7, c7, rfl, hr7, _, _, hb7⟩
          have hn7 := hr7.len
          rw [list_all] at hn7
          have s3 : decide ((400 : Int) < n7) = false := decide_eq_false (by omega)
          have HD7 := Lib.hid (HD6.out.below hb7)
          have HB7 := Lib.hid (HB6.out.trans (hb7.mono HB6.out.size))
          have HG7 := Lib.hid ((hb7.cell (p := ⟨wr.heap.size, 0, none⟩) (World.block_lt_of_cell? w6 _ HG6.out)).trans HG6.out)
          have g7 := HG7.out
          clear hb7 hr7
          go_wp2_with fail
          refine (HKIND.out _).mono ?_; rintro e w8 ⟨rfl, rfl⟩
          go_wp2_with fail
          go_roundg (60 - (j + 1))
          case measure => omega
          case rel => exact ⟨j + 1, M2, by go_num, by omega, by omega, by omega, HD7, HS4, HU4, HB7⟩
        · obtain ⟨er, M2, hc⟩ : ∃ er M2, appendM k (-1) M x.p lb = (er, M2) := ⟨_, _, rfl⟩
          have hs2 := append_small hsm.out HSORT.out hus.out hc
          rw [HLL.out] at hs2
          go_wp2_with fail
          refine (Append_any _ d D k (-1) M HD3.out (by omega) x.p hr1 (by omega) (by omega) A1 n1 ca1 lb (hA1.out.below HB3.out) HUL.out (by omega) er M2 hc).mono ?_; rintro e w4 ⟨rfl, hd4, ht4⟩
          have HOP : Hid (Da w4 d D k (-1) M2 ∧ SmallM M2 ∧ (usedM M2 : Int) ≤ k ∧ usedM M2 ≤ usedM M + n1 ∧ ((2 : Int) = 5 → usedM M2 ≤ usedM M) ∧ Turn d D w3 w4) := Lib.hid ⟨hd4, hs2.1, hs2.2.1, hs2.2.2, fun h => by omega, ht4⟩
          clear hd4 ht4
          have HD4 := Lib.hid HOP.out.1
          have HS4 := Lib.hid HOP.out.2.1
          have HU4 := Lib.hid HOP.out.2.2.1
          have hv4 := HOP.out.2.2.2.1
          have hu4 := HU4.out
          have hT := HOP.out.2.2.2.2.2
          have HB4 := Lib.hid (Turn.below HB3.out hT hd0' hD0' HB3.out.size)
          have HG4 := Lib.hid (hT.cell HG0.out (by show wr.heap.size ≠ d; omega) (by show wr.heap.size ≠ D; omega))
          have hl4 := HS4.out.1
          have s1 : decide (k < (usedM M2 : Int)) = false := decide_eq_false (by omega)
          have s2 : decide ((usedM M : Int) + n1 < usedM M2) = false := decide_eq_false (by omega)
          clear hT
          go_wp2_with fail
          refine (UsedM_any _ d D k (-1) M2 HD4.out (by omega)).mono ?_; rintro e w5 ⟨rfl, hb5⟩
          have HD5 := Lib.hid (HD4.out.below hb5)
          have HB5 := Lib.hid (HB4.out.trans (hb5.mono HB4.out.size))
          have HG5 := Lib.hid ((hb5.cell (p := ⟨wr.heap.size, 0, none⟩) (World.block_lt_of_cell? w4 _ HG4.out)).trans HG4.out)
          clear hb5
          go_wp2_with fail
          refine (UsedM_any _ d D k (-1) M2 HD5.out (by omega)).mono ?_; rintro e w6 ⟨rfl, hb6⟩
          have HD6 := Lib.hid (HD5.out.below hb6)
          have HB6 := Lib.hid (HB5.out.trans (hb6.mono HB5.out.size))
          have HG6 := Lib.hid ((hb6.cell (p := ⟨wr.heap.size, 0, none⟩) (World.block_lt_of_cell? w5 _ HG5.out)).trans HG5.out)
          clear hb6
          go_wp2_with fail
          refine (List_any _ d D k (-1) M2 HD6.out ⟨#[]⟩ (by omega)).mono ?_; rintro e w7 ⟨G7, n7, c7, rfl, hr7, _, _, hb7⟩
          have hn7 := hr7.len
          rw [list_all] at hn7
          have s3 : decide ((400 : Int) < n7) = false := decide_eq_false (by omega)
          have HD7 := Lib.hid (HD6.out.below hb7)
          have HB7 := Lib.hid (HB6.out.trans (hb7.mono HB6.out.size))
          have HG7 := Lib.hid ((hb7.cell (p := ⟨wr.heap.size, 0, none⟩) (World.block_lt_of_cell? w6 _ HG6.out)).trans HG6.out)
          have g7 := HG7.out
          clear hb7 hr7
          go_wp2_with fail
          refine (HKIND.out _).mono ?_; rintro e w8 ⟨rfl, rfl⟩
          go_wp2_with fail
          go_roundg (60 - (j + 1))
          case measure => omega
          case rel => exact ⟨j + 1, M2, by go_num, by omega, by omega, by omega, HD7, HS4, HU4, HB7⟩
        · obtain ⟨er, M2, hc⟩ : ∃ er M2, appendM k (-1) M x.p lb = (er, M2) := ⟨_, _, rfl⟩
          have hs2 := append_small hsm.out HSORT.out hus.out hc
          rw [HLL.out] at hs2
          go_wp2_with fail
          refine (Append_any _ d D k (-1) M HD3.out (by omega) x.p hr1 (by omega) (by omega) A1 n1 ca1 lb (hA1.out.below HB3.out) HUL.out (by omega) er M2 hc).mono ?_; rintro e w4 ⟨rfl, hd4, ht4⟩
          have HOP : Hid (Da w4 d D k (-1) M2 ∧ SmallM M2 ∧ (usedM M2 : Int) ≤ k ∧ usedM M2 ≤ usedM M + n1 ∧ ((3 : Int) = 5 → usedM M2 ≤ usedM M) ∧ Turn d D w3 w4) := Lib.hid ⟨hd4, hs2.1, hs2.2.1, hs2.2.2, fun h => by omega, ht4⟩
          clear hd4 ht4
          have HD4 := Lib.hid HOP.out.1
          have HS4 := Lib.hid HOP.out.2.1
          have HU4 := Lib.hid HOP.out.2.2.1
          have hv4 := HOP.out.2.2.2.1
          have hu4 := HU4.out
          have hT := HOP.out.2.2.2.2.2
          have HB4 := Lib.hid (Turn.below HB3.out hT hd0' hD0' HB3.out.size)
          have HG4 := Lib.hid (hT.cell HG0.out (by show wr.heap.size ≠ d; omega) (by show wr.heap.size ≠ D; omega))
          have hl4 := HS4.out.1
          have s1 : decide (k < (usedM M2 : Int)) = false := decide_eq_false (by omega)
          have s2 : decide ((usedM M : Int) + n1 < usedM M2) = false := decide_eq_false (by omega)
          clear hT
          go_wp2_with fail
          refine (UsedM_any _ d D k (-1) M2 HD4.out (by omega)).mono ?_; rintro e w5 ⟨rfl, hb5⟩
          have HD5 := Lib.hid (HD4.out.below hb5)
          have HB5 := Lib.hid (HB4.out.trans (hb5.mono HB4.out.size))
          have HG5 := Lib.hid ((hb5.cell (p := ⟨wr.heap.size, 0, none⟩) (World.block_lt_of_cell? w4 _ HG4.out)).trans HG4.out)
          clear hb5
          go_wp2_with fail
          refine (UsedM_any _ d D k (-1) M2 HD5.out (by omega)).mono ?_; rintro e w6 ⟨rfl, hb6⟩
          have HD6 := Lib.hid (HD5.out.below hb6)
          have HB6 := Lib.hid (HB5.out.trans (hb6.mono HB5.out.size))
          have HG6 := Lib.hid ((hb6.cell (p := ⟨wr.heap.size, 0, none⟩) (World.block_lt_of_cell? w5 _ HG5.out)).trans HG5.out)
          clear hb6
          go_wp2_with fail
          refine (List_any _ d D k (-1) M2 HD6.out ⟨#[]⟩ (by omega)).mono ?_; rintro e w7 ⟨G7, n7, c7, rfl, hr7, _, _, hb7⟩
          have hn7 := hr7.len
          rw [list_all] at hn7
          have s3 : decide ((400 : Int) < n7) = false := decide_eq_false (by omega)
          have HD7 := Lib.hid (HD6.out.below hb7)
          have HB7 := Lib.hid (HB6.out.trans (hb7.mono HB6.out.size))
          have HG7 := Lib.hid ((hb7.cell (p := ⟨wr.heap.size, 0, none⟩) (World.block_lt_of_cell? w6 _ HG6.out)).trans HG6.out)
          have g7 := HG7.out
          clear hb7 hr7
          go_wp2_with fail
          refine (HKIND.out _).mono ?_; rintro e w8 ⟨rfl, rfl⟩
          go_wp2_with fail
          go_roundg (60 - (j + 1))
          case measure => omega
          case rel => exact ⟨j + 1, M2, by go_num, by omega, by omega, by omega, HD7, HS4, HU4, HB7⟩
        · obtain ⟨er, M2, hc⟩ : ∃ er M2, moveM (-1) M x.p x.q = (er, M2) := ⟨_, _, rfl⟩
          have hs2 := move_small hsm.out hc
          go_wp2_with fail
          refine (Move_any _ d D k (-1) M HD3.out (by omega) hdne hDne x.p x.q (by omega) h60.out m HM3.out er M2 hc).mono ?_; rintro e w4 ⟨rfl, hd4, ht4⟩
          have HOP : Hid (Da w4 d D k (-1) M2 ∧ SmallM M2 ∧ (usedM M2 : Int) ≤ k ∧ usedM M2 ≤ usedM M + n1 ∧ ((4 : Int) = 5 → usedM M2 ≤ usedM M) ∧ Turn d D w3 w4) := Lib.hid ⟨hd4, hs2.1, by rw [hs2.2]; exact hus.out, by rw [hs2.2]; omega, fun _ => by rw [hs2.2]; exact Nat.le_refl _, ht4⟩
          clear hd4 ht4
          have HD4 := Lib.hid HOP.out.1
          have HS4 := Lib.hid HOP.out.2.1
          have HU4 := Lib.hid HOP.out.2.2.1
          have hv4 := HOP.out.2.2.2.1
          have hu4 := HU4.out
          have hT := HOP.out.2.2.2.2.2
          have HB4 := Lib.hid (Turn.below HB3.out hT hd0' hD0' HB3.out.size)
          have HG4 := Lib.hid (hT.cell HG0.out (by show wr.heap.size ≠ d; omega) (by show wr.heap.size ≠ D; omega))
          have hl4 := HS4.out.1
          have s1 : decide (k < (usedM M2 : Int)) = false := decide_eq_false (by omega)
          have s2 : decide ((usedM M : Int) + n1 < usedM M2) = false := decide_eq_false (by omega)
          clear hT
          go_wp2_with fail
          refine (UsedM_any _ d D k (-1) M2 HD4.out (by omega)).mono ?_; rintro e w5 ⟨rfl, hb5⟩
          have HD5 := Lib.hid (HD4.out.below hb5)
          have HB5 := Lib.hid (HB4.out.trans (hb5.mono HB4.out.size))
          have HG5 := Lib.hid ((hb5.cell (p := ⟨wr.heap.size, 0, none⟩) (World.block_lt_of_cell? w4 _ HG4.out)).trans HG4.out)
          clear hb5
          go_wp2_with fail
          refine (UsedM_any _ d D k (-1) M2 HD5.out (by omega)).mono ?_; rintro e w6 ⟨rfl, hb6⟩
          have HD6 := Lib.hid (HD5.out.below hb6)
          have HB6 := Lib.hid (HB5.out.trans (hb6.mono HB5.out.size))
          have HG6 := Lib.hid ((hb6.cell (p := ⟨wr.heap.size, 0, none⟩) (World.block_lt_of_cell? w5 _ HG5.out)).trans HG5.out)
          clear hb6
          go_wp2_with fail
          refine (List_any _ d D k (-1) M2 HD6.out ⟨#[]⟩ (by omega)).mono ?_; rintro e w7 ⟨G7, n7, c7, rfl, hr7, _, _, hb7⟩
          have hn7 := hr7.len
          rw [list_all] at hn7
          have s3 : decide ((400 : Int) < n7) = false := decide_eq_false (by omega)
          have HD7 := Lib.hid (HD6.out.below hb7)
          have HB7 := Lib.hid (HB6.out.trans (hb7.mono HB6.out.size))
          have HG7 := Lib.hid ((hb7.cell (p := ⟨wr.heap.size, 0, none⟩) (World.block_lt_of_cell? w6 _ HG6.out)).trans HG6.out)
          have g7 := HG7.out
          clear hb7 hr7
          go_wp2_with fail
          refine (HKIND.out _).mono ?_; rintro e w8 ⟨rfl, rfl⟩
          go_wp2_with fail
          go_roundg (60 - (j + 1))
          case measure => omega
          case rel => exact ⟨j + 1, M2, by go_num, by omega, by omega, by omega, HD7, HS4, HU4, HB7⟩
        · have hs2 := crash_small (keep := x.n) hsm.out
          obtain ⟨M2, hM2⟩ : ∃ M2, M2 = crashM x.n M := ⟨_, rfl⟩
          rw [← hM2] at hs2
          go_wp2_with fail
          refine (Crash_any _ d D k (-1) M HD3.out (by omega) (by omega) x.n HX.out.1.2.1).mono ?_; rintro e w4 ⟨rfl, hd4, ht4⟩
          rw [← hM2] at hd4
          clear hM2
          have HOP : Hid (Da w4 d D k (-1) M2 ∧ SmallM M2 ∧ (usedM M2 : Int) ≤ k ∧ usedM M2 ≤ usedM M + n1 ∧ ((5 : Int) = 5 → usedM M2 ≤ usedM M) ∧ Turn d D w3 w4) := Lib.hid ⟨hd4, hs2.1, by have := hs2.2; have := hus.out; omega, by have := hs2.2; omega, fun _ => hs2.2, ht4⟩
          clear hd4 ht4
          have HD4 := Lib.hid HOP.out.1
          have HS4 := Lib.hid HOP.out.2.1
          have HU4 := Lib.hid HOP.out.2.2.1
          have hv4 := HOP.out.2.2.2.1
          have hu4 := HU4.out
          have hT := HOP.out.2.2.2.2.2
          have HB4 := Lib.hid (Turn.below HB3.out hT hd0' hD0' HB3.out.size)
          have HG4 := Lib.hid (hT.cell HG0.out (by show wr.heap.size ≠ d; omega) (by show wr.heap.size ≠ D; omega))
          have hl4 := HS4.out.1
          have s1 : decide (k < (usedM M2 : Int)) = false := decide_eq_false (by omega)
          have s2 : decide ((usedM M : Int) + n1 < usedM M2) = false := decide_eq_false (by omega)
          clear hT
          go_wp2_with fail
          refine (UsedM_any _ d D k (-1) M2 HD4.out (by omega)).mono ?_; rintro e w5 ⟨rfl, hb5⟩
          have HD5 := Lib.hid (HD4.out.below hb5)
          have HB5 := Lib.hid (HB4.out.trans (hb5.mono HB4.out.size))
          have HG5 := Lib.hid ((hb5.cell (p := ⟨wr.heap.size, 0, none⟩) (World.block_lt_of_cell? w4 _ HG4.out)).trans HG4.out)
          clear hb5
          go_wp2_with fail
          refine (UsedM_any _ d D k (-1) M2 HD5.out (by omega)).mono ?_; rintro e w6 ⟨rfl, hb6⟩
          have HD6 := Lib.hid (HD5.out.below hb6)
          have HB6 := Lib.hid (HB5.out.trans (hb6.mono HB5.out.size))
          have HG6 := Lib.hid ((hb6.cell (p := ⟨wr.heap.size, 0, none⟩) (World.block_lt_of_cell? w5 _ HG5.out)).trans HG5.out)
          clear hb6
          go_wp2_with fail
          refine (List_any _ d D k (-1) M2 HD6.out ⟨#[]⟩ (by omega)).mono ?_; rintro e w7 ⟨G7, n7, c7, rfl, hr7, _, _, hb7⟩
          have hn7 := hr7.len
          rw [list_all] at hn7
          have s3 : decide ((400 : Int) < n7) = false := decide_eq_false (by omega)
          have HD7 := Lib.hid (HD6.out.below hb7)
          have HB7 := Lib.hid (HB6.out.trans (hb7.mono HB6.out.size))
          have HG7 := Lib.hid ((hb7.cell (p := ⟨wr.heap.size, 0, none⟩) (World.block_lt_of_cell? w6 _ HG6.out)).trans HG6.out)
          have g7 := HG7.out
          clear hb7 hr7
          go_wp2_with fail
          refine (HKIND.out _).mono ?_; rintro e w8 ⟨rfl, rfl⟩
          have hv5 := HOP.out.2.2.2.2.1 (by trivial)
          have s4 : decide (usedM M < usedM M2) = false := decide_eq_false (by omega)
          go_wp2_with fail
          refine (UsedM_any _ d D k (-1) M2 HD7.out (by omega)).mono ?_; rintro e w9 ⟨rfl, hb9⟩
          have HD9 := Lib.hid (HD7.out.below hb9)
          have HB9 := Lib.hid (HB7.out.trans (hb9.mono HB7.out.size))
          clear hb9
          go_wp2_with fail
          go_roundg (60 - (j + 1))
          case measure => omega
          case rel => exact ⟨j + 1, M2, by go_num, by omega, by omega, by omega, HD9, HS4, HU4, HB9⟩
      · have t1 : (decide ((j : Int) < n) && decide ((j : Int) < 60)) = false := by simp; omega
        by_cases hjn2 : j < n
        · have t2 : decide ((j : Int) < n) = true := decide_eq_true (by omega)
          have t3 : decide ((j : Int) < 60) = false := decide_eq_false (by omega)
          go_wp2_with fail
          go_ret
          exact ⟨rfl, hb.out⟩
        · have t2 : decide ((j : Int) < n) = false := decide_eq_false (by omega)
          go_wp2_with fail
          go_ret
          exact ⟨rfl, hb.out⟩
end Go.Proofs.YtekdcnlbdgikoaaDoor

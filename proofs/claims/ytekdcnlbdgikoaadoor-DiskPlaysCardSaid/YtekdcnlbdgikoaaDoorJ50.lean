/- Joined texts: LawDk9. Each has its own head line. No condition beyond those that its theorems state. -/
import Derived.Test.YtekdcnlbdgikoaaDoorJ49
set_option linter.unusedVariables false

/- The walk through DiskSteps. -/
namespace Go.Proofs.YtekdcnlbdgikoaaDoor
open Go.RowKit

theorem Rk.lower {w : World} {base b0 y c : Nat} {q lf : Int} {A : Option Addr} {L : List Fl} (h : Rk w base y q lf A c L) (hb : b0 ≤ base) : Rk w b0 y q lf A c L :=
  ⟨h.blk, World.ownsRow.mono h.own hb, h.row, h.sort, Nat.le_trans hb h.hy, Nat.le_trans hb h.hs⟩
set_option maxRecDepth 100000 in
set_option maxHeartbeats 4000000 in
theorem DiskSteps_walk (w : World) (m : Int) (hm0 : w.cell? ⟨0, 0, none⟩ = some (.int .i64 m)) (q : Int) (hq : is64 q) (A : Option Addr) (n cap : Nat) (l : List Opv) (hl : Ro w A n l) (hcap : n ≤ cap) (hcm : cap ≤ maxLen) (dir : ByteArray) (hdir : dir.size ≤ reachBytes) :
    Calls Tryd.prog 6 #[.int .i64 q, .slice A n cap, .string dir] w fun e w' => e = .returned (.bool true) ∧ Below w.heap.size w w' := by
  unfold maxLen at hcm
  have hlt := World.block_lt_of_cell? w _ hm0
  have HM0 := Lib.hid hm0; have HL := Lib.hid hl
  clear hm0 hl
  have hA : n = 0 ∨ (0 < n ∧ ∃ bb oo, A = some ⟨bb, oo, none⟩ ∧ bb < w.heap.size ∧ ∀ j (hj : j < l.length), OpAt w bb (oo + j * 6) l[j]) := by
    rcases Nat.eq_zero_or_pos n with h | h
    · exact .inl h
    · exact .inr ⟨h, HL.out.2.2 h⟩
  rcases hA with rfl | ⟨hn0, bb, oo, rfl, hbb, hcells⟩
  all_goals
    go_enter Tryd.func6, Tryd.ntmps6
    go_wp2_with fail
    refine (shown23_any _ m HM0.out).mono ?_; rintro e w1 ⟨rfl, hb1⟩
    have HB1 := Lib.hid hb1
    clear hb1
    go_wp2_with fail
    refine (New_any _ _).mono ?_; rintro e w2 ⟨d, D, rfl, hd0, hD0, hd2, hb2⟩
    have HB2 := Lib.hid (on HB1.out hb2)
    have HD2 := Lib.hid hd2
    clear hd2 hb2
    go_wp2_with fail
    refine (rNew_any _ _).mono ?_; rintro e w3 ⟨y, rfl, hr3, hb3⟩
    have HB3 := Lib.hid (on HB2.out hb3)
    have H3 : Hid (Two w3 w.heap.size d D y q (-1) (-1) none 0 [] [] [] []) := Lib.hid ⟨HD2.out.below hb3, hr3.lower HB2.out.size, rfl, rfl, Nat.le_trans HB1.out.size hd0, Nat.le_trans HB1.out.size hD0⟩
    clear hr3 hb3
    go_wp2_with fail
  · refine wp_loop_rounds 1 ?_
    rw [rounds_succ]
    go_wp2_with fail
    go_ret
    exact ⟨rfl, HB3.out⟩
  · have HCELLS := Lib.hid hcells
    clear hcells
    have HLEN := Lib.hid HL.out.1
    go_loopg [10] 20 (fun gg i wr => ∃ (j : Nat) (M : List Mf) (lf : Int), i = .int .i64 j ∧ j ≤ n ∧ j ≤ 20 ∧ 20 - j ≤ gg ∧ Hid (∃ A1 c1 L1 K1, Two wr w.heap.size d D y q lf lf A1 c1 L1 K1 M M) ∧ Hid (SmallM M) ∧ usedM M ≤ 300 * j ∧ (-1 ≤ lf ∧ lf ≤ 1000) ∧ Hid (Below w.heap.size w wr))
    case atStart => exact ⟨0, [], -1, rfl, by omega, by omega, by omega, Lib.hid ⟨_, _, _, _, H3.out⟩, Lib.hid ⟨by simp, fun f hf => absurd hf List.not_mem_nil⟩, by show (0 : Nat) ≤ _; omega, by omega, HB3⟩
    case round =>
      obtain ⟨j, M, lf, rfl, hjn, hj20, hgg, h2, hsm, hus, hlf, hb⟩ := hrel
      by_cases hlt2 : j < n ∧ j < 20
      · have t1 : decide ((j : Int) < n) = true := decide_eq_true (by omega)
        have t2 : decide ((j : Int) < 20) = true := decide_eq_true (by omega)
        have hj : j < l.length := by rw [HLEN.out]; exact hlt2.1
        have hx := HL.out.2.1 _ (List.getElem_mem hj)
        obtain ⟨c0, c1, c2, c3, c4, c5⟩ := HCELLS.out j hj
        have kk := fun i => hb.out.cell (p := ⟨bb, i, none⟩) hbb
        generalize l[j] = x at hx c0 c1 c2 c3 c4 c5
        have g0 := (kk _).trans c0
        have g1 := (kk _).trans c1
        have g2 := (kk _).trans c2
        have g3 := (kk _).trans c3
        have g4 := (kk _).trans c4
        have g5 := (kk _).trans c5
        have HX := Lib.hid (hx.below hb.out)
        obtain ⟨A1, c9, L1, K1, ht⟩ := h2.out
        have HSO := Lib.hid ht.da.sort
        have HT := Lib.hid ht
        clear c0 c1 c2 c3 c4 c5 kk hx ht
        have hds := does_small (q := q) (lf := lf) (o := x) hsm.out HSO.out
        have HDS := Lib.hid hds.1
        have hdu := hds.2
        have hdl := does_left (o := x) hlf
        have HMR := Lib.hid ((hb.out.cell (p := ⟨0, 0, none⟩) hlt).trans HM0.out)
        have hw0 : 0 < w.heap.size := by have h : (⟨0, 0, none⟩ : Addr).block < w.heap.size := hlt; omega
        clear hds
        go_wp2_with fail
        refine (does_any wr w.heap.size d D y q lf A1 c9 L1 K1 M HT.out hw0 m HMR.out hq ⟨by omega, by omega⟩ hsm.out (by omega) x HX.out).mono ?_; rintro e wd ⟨rfl, hex, hbd⟩
        have HEX := Lib.hid hex
        have HBD := Lib.hid (hb.out.trans hbd)
        clear hex hbd g0 g1 g2 g3 g4 g5
        go_wp2_with fail
        obtain ⟨A2, c2, L2, K2, h3⟩ := HEX.out
        have H4 := Lib.hid h3
        clear h3
        refine (alike_any wd w.heap.size d D y q (doesLf lf x) A2 c2 L2 K2 (doesM q lf M x) H4.out HDS.out (by omega) dir hdir).mono ?_; rintro e we ⟨rfl, hbe⟩
        have H5 := Lib.hid (H4.out.below hbe)
        have HBE := Lib.hid (on HBD.out hbe)
        clear hbe
        go_wp2_with fail
        go_roundg (20 - (j + 1))
        case measure => omega
        case rel => exact ⟨j + 1, doesM q lf M x, doesLf lf x, by go_num, hlt2.1, hlt2.2, Nat.le_refl _, Lib.hid ⟨_, _, _, _, H5.out⟩, HDS, by omega, hdl, HBE⟩
      · by_cases hjn2 : j < n
        · have t1 : decide ((j : Int) < n) = true := decide_eq_true (by omega)
          have t2 : decide ((j : Int) < 20) = false := decide_eq_false (by omega)
          go_wp2_with fail
          go_ret
          exact ⟨rfl, hb.out⟩
        · have t1 : decide ((j : Int) < n) = false := decide_eq_false (by omega)
          go_wp2_with fail
          go_ret
          exact ⟨rfl, hb.out⟩
end Go.Proofs.YtekdcnlbdgikoaaDoor

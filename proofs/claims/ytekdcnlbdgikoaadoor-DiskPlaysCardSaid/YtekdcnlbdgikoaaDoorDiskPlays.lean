/- The statement DiskPlays (its card): the Go function returns true for every input, and the input reads as it did; the listed tables of unicode/utf8 lie as the program's text lays them. The walk through its text is DiskPlays_walk. No condition. -/
import Derived.Test.YtekdcnlbdgikoaaDoorRows
import Derived.Test.YtekdcnlbdgikoaaDoorCards
import Derived.Test.YtekdcnlbdgikoaaDoorTie
import Derived.Test.YtekdcnlbdgikoaaDoorJ02
import Derived.Test.YtekdcnlbdgikoaaDoorJ50
import Derived.Deep.DeepHandedRow
import Derived.Shelf.Vars
namespace Go.Proofs.YtekdcnlbdgikoaaDoor
open Go.RowKit

def noneS : ByteArray := ⟨#[110, 111, 110, 101, 47, 111, 102, 95, 116, 104, 101, 115, 101, 95, 97, 116, 95, 97, 108, 108]⟩
section
variable {w w' : World} {base d B d2 B2 y c : Nat} {q lf lf2 q' lf' : Int} {A : Option Addr} {L K L' : List Fl} {M M2 M' : List Mf}
/-- A disk stays in a call of another one, whose blocks are others (their files' bytes may be the same). -/
theorem Dk.turn2 (h : Dk w d2 B2 q lf L) (ho : Dk w d B q' lf' L') (hn : d < d2 ∧ d < B2 ∧ B < d2 ∧ B < B2) (ht : Turn d B w w') : Dk w' d2 B2 q lf L := by
  refine ⟨(ht.block d2 h.lt (by omega) (by omega)).trans h.blk, ?_, fun f hf => (h.row f hf).turn (ho.far (h.row f hf).1) ht⟩
  obtain ⟨es, clock, hb, hF⟩ := h.own
  exact ⟨es, clock, (ht.block B2 h.ltB (by omega) (by omega)).trans hb, hF⟩
theorem Two.turn2 (h : Two w base d2 B2 y q lf lf2 A c L K M M2) (ho : Dk w d B q' lf' L') (hn : d < d2 ∧ d < B2 ∧ B < d2 ∧ B < B2) (ht : Turn d B w w') : Two w' base d2 B2 y q lf lf2 A c L K M M2 :=
  ⟨h.dk.turn2 ho hn ht, h.rk.turn ho ht, h.hL, h.hK, h.hd, h.hB⟩
theorem Two.clone (h : Two w base d B y q lf lf2 A c L K M M2) (hk : Dk w' d2 B2 q lf L) (h1 : w.heap.size ≤ d2) (h2 : w.heap.size ≤ B2) (hb : Below w.heap.size w w') : Two w' base d2 B2 y q lf lf2 A c L K M M2 ∧ (d < d2 ∧ d < B2 ∧ B < d2 ∧ B < B2) := by
  have e1 := h.dk.lt
  have e2 := h.dk.ltB
  have e3 := h.hd
  have e4 := h.hB
  exact ⟨⟨hk, h.rk.below hb, h.hL, h.hK, by omega, by omega⟩, by omega⟩
end

set_option maxRecDepth 100000 in
set_option maxHeartbeats 4000000 in
theorem DiskPlays_walk (w : World) (m : Int) (hm0 : w.cell? ⟨0, 0, none⟩ = some (.int .i64 m)) (q : Int) (hq : is64 q) (A : Option Addr) (n cap : Nat) (l : List Opv) (hl : Ro w A n l) (_hcap : n ≤ cap) (_hcm : cap ≤ maxLen) (dir : ByteArray) (hdir : dir.size ≤ reachBytes) :
    Calls Tryd.prog 7 #[.int .i64 q, .slice A n cap, .string dir] w fun e w' => e = .returned (.bool true) ∧ Below w.heap.size w w' := by
  have hrb := reachBytes_lt
  have hdm : dir.size ≤ maxLen := by unfold maxLen; omega
  have hlt := World.block_lt_of_cell? w _ hm0
  have HM0 := Lib.hid hm0; have HL := Lib.hid hl
  clear hm0 hl
  have hA : n = 0 ∨ (0 < n ∧ ∃ bb oo, A = some ⟨bb, oo, none⟩ ∧ bb < w.heap.size ∧ ∀ j (hj : j < l.length), OpAt w bb (oo + j * 6) l[j]) := by
    rcases Nat.eq_zero_or_pos n with h | h
    · exact .inl h
    · exact .inr ⟨h, HL.out.2.2 h⟩
  go_enter Tryd.func7, Tryd.ntmps7
  go_wp2_with fail
  refine (shown23_any _ m HM0.out).mono ?_; rintro e w1 ⟨rfl, hb1⟩
  have HB1 := Lib.hid hb1
  clear hb1
  go_wp2_with fail
  refine (New_any _ _).mono ?_; rintro e w2 ⟨d, D, rfl, hd0, hD0, hd2, hb2⟩
  have HB2 := Lib.hid (on HB1.out hb2)
  have HD2 := Lib.hid hd2
  clear hd2 hb2
  go_wp2_with fail
  refine (rNew_any _ _).mono ?_; rintro e w3 ⟨y, rfl, hr3, hb3⟩
  have HB3 := Lib.hid (on HB2.out hb3)
  have H3 : Hid (Two w3 w.heap.size d D y q (-1) (-1) none 0 [] [] [] []) := Lib.hid ⟨HD2.out.below hb3, hr3.lower HB2.out.size, rfl, rfl, Nat.le_trans HB1.out.size hd0, Nat.le_trans HB1.out.size hD0⟩
  clear hr3 hb3
  go_wp2_with fail
  refine (Path_any _ dir m ((HB3.out.cell (p := ⟨0, 0, none⟩) hlt).trans HM0.out)).mono ?_; rintro e w4 ⟨rfl, hb4⟩
  have HB4 := Lib.hid (on HB3.out hb4)
  have H4 := Lib.hid (H3.out.below hb4)
  clear hb4
  go_wp2_with fail
  refine (rPath_any _ dir hdm).mono ?_; rintro e w5 ⟨rfl, rfl⟩
  have tp : (pathD dir == pathD dir) = true := by simp
  go_wp2_with fail
  go_loopg [8, 10] 60 (fun gg dv i wr => ∃ (d B j : Nat) (M : List Mf) (lf : Int), dv = .pointer (some ⟨d, 0, none⟩) ∧ i = .int .i64 j ∧ j ≤ n ∧ j ≤ 60 ∧ 60 - j ≤ gg ∧ Hid (∃ A1 c1 L1 K1, Two wr w.heap.size d B y q lf lf A1 c1 L1 K1 M M) ∧ Hid (SmallM M) ∧ usedM M ≤ 300 * j ∧ (-1 ≤ lf ∧ lf ≤ 1000) ∧ Hid (Below w.heap.size w wr))
  case atStart => exact ⟨d, D, 0, [], -1, rfl, rfl, by omega, by omega, by omega, Lib.hid ⟨_, _, _, _, H4.out⟩, Lib.hid ⟨by simp, fun f hf => absurd hf List.not_mem_nil⟩, by show (0 : Nat) ≤ _; omega, by omega, HB4⟩
  case round =>
    obtain ⟨d, B, j, M, lf, rfl, rfl, hjn, hj20, hgg, h2, hsm, hus, hlf, hb⟩ := hrel
    obtain ⟨A1, c9, L1, K1, ht⟩ := h2.out
    have HT := Lib.hid ht
    have HSO := Lib.hid ht.da.sort
    clear ht h2
    have hw0 : 0 < w.heap.size := by have h : (⟨0, 0, none⟩ : Addr).block < w.heap.size := hlt; omega
    have hu9 : usedM M ≤ 900000 := by omega
    have hl64 : is64 lf := ⟨by omega, by omega⟩
    by_cases hlt2 : j < n ∧ j < 60
    · have hme : 60 - (j + 1) < gk := by omega
      have t1 : decide ((j : Int) < n) = true := decide_eq_true (by omega)
      have t2 : decide ((j : Int) < 60) = true := decide_eq_true (by omega)
      obtain ⟨bb, oo, rfl, hbb, hcells⟩ := HL.out.2.2 (by omega)
      have hlen := HL.out.1
      have hj : j < l.length := by omega
      have hx := HL.out.2.1 _ (List.getElem_mem hj)
      have hcj := hcells j hj
      have hx0 := HL.out.2.1 _ (List.getElem_mem (show 0 < l.length by omega))
      have hc0 := hcells 0 (by omega)
      clear hcells
      generalize l[j] = x at hx hcj
      generalize l[0] = x0 at hx0 hc0
      have HOA : Hid (∀ v : World, Below w.heap.size w v → OpAt v bb (oo + j * 6) x ∧ v.cell? ⟨bb, oo + 3, none⟩ = some (.string x0.p)) := Lib.hid fun v hv => by
        obtain ⟨c0, c1, c2, c3, c4, c5⟩ := hcj
        have kk := fun i => hv.cell (p := ⟨bb, i, none⟩) hbb
        refine ⟨⟨(kk _).trans c0, (kk _).trans c1, (kk _).trans c2, (kk _).trans c3, (kk _).trans c4, (kk _).trans c5⟩, (kk _).trans ?_⟩
        have := hc0.2.2.2.1
        rwa [show oo + 0 * 6 + 3 = oo + 3 from by omega] at this
      have hp0 : x0.p.size ≤ maxLen := by have := hx0.2.1.1; unfold maxLen; omega
      have HXX := Lib.hid hx
      clear hx hcj hx0 hc0
      by_cases h9 : j % 9 = 8
      · have t9 : ((j : Int).tmod 9 == 8) = true := by rw [Int.tmod_eq_emod_of_nonneg (by omega)]; simp; omega
        go_wp2_with fail
        refine (Clone_any wr d B q lf L1 HT.out.dk).mono ?_; rintro e wc ⟨d2, B2, rfl, hk2, hd2, hB2, hbc⟩
        have hcl := HT.out.clone hk2 hd2 hB2 hbc
        have HN := Lib.hid hcl.2
        have HTC := Lib.hid hcl.1
        have HOC := Lib.hid (HT.out.dk.below hbc)
        have HBC := Lib.hid (on hb.out hbc)
        have k3 := (HOA.out wc HBC.out).2
        have hd2n : d2 ≠ d := by have := HN.out; omega
        clear hk2 hd2 hB2 hbc hcl
        obtain ⟨er, M1, hdel⟩ : ∃ er M1, deleteM lf M x0.p = (er, M1) := ⟨_, _, rfl⟩
        have HDEL := Lib.hid hdel
        have HS1 := Lib.hid (del_small hsm.out hdel)
        clear hdel
        go_wp2_with fail
        refine (Delete_any wc d B q lf M ⟨L1, HT.out.hL, HOC.out⟩ ⟨by omega, by omega⟩ x0.p hp0 er M1 HDEL.out).mono ?_; rintro e we ⟨rfl, ⟨L2, hL2, hk2⟩, ht2⟩
        have HTE := Lib.hid (HTC.out.turn2 HOC.out HN.out ht2)
        have HBE := Lib.hid (Turn.below HBC.out ht2 HT.out.hd HT.out.hB HTC.out.rk.hs)
        have HOE := Lib.hid hk2
        have hM1 := HS1.out.1.1
        have hM2 := HS1.out.2
        clear ht2 hk2
        go_wp2_with fail
        refine (Crash_any we d B q (burnL lf) M1 ⟨L2, hL2, HOE.out⟩ (by omega) (by omega) 0 ⟨by omega, by omega⟩).mono ?_; rintro e wf ⟨rfl, _, ht3⟩
        have HTF := Lib.hid (HTE.out.turn2 HOE.out HN.out ht3)
        have HBF := Lib.hid (Turn.below HBE.out ht3 HT.out.hd HT.out.hB HTE.out.rk.hs)
        clear ht3
        obtain ⟨⟨g0, g1, g2, g3, g4, g5⟩, _⟩ := HOA.out wf HBF.out
        have HX := Lib.hid (OpOk.below (w := w) HXX.out HBF.out)
        have HMR := Lib.hid ((HBF.out.cell (p := ⟨0, 0, none⟩) hlt).trans HM0.out)
        have hds := does_small (q := q) (lf := lf) (o := x) hsm.out HSO.out
        have HDS := Lib.hid hds.1
        have hdu := hds.2
        have hdl := does_left (o := x) hlf
        have hdv : usedM (doesM q lf M x) ≤ 300 * (j + 1) := by omega
        clear hds
        go_wp2_with fail
        refine (does_any wf w.heap.size d2 B2 y q lf A1 c9 L1 K1 M HTF.out hw0 m HMR.out hq hl64 hsm.out hu9 x HX.out).mono ?_; rintro e wd ⟨rfl, hex, hbd⟩
        have HEX := Lib.hid hex
        have HBD := Lib.hid (HBF.out.trans hbd)
        clear hex hbd g0 g1 g2 g3 g4 g5
        go_wp2_with fail
        go_roundg (60 - (j + 1))
        case measure => exact hme
        case rel => exact ⟨d2, B2, j + 1, doesM q lf M x, doesLf lf x, rfl, by go_num, hlt2.1, hlt2.2, Nat.le_refl _, HEX, HDS, hdv, hdl, HBD⟩
      · have t9 : ((j : Int).tmod 9 == 8) = false := by rw [Int.tmod_eq_emod_of_nonneg (by omega)]; simp; omega
        obtain ⟨⟨g0, g1, g2, g3, g4, g5⟩, _⟩ := HOA.out wr hb.out
        have HX := Lib.hid (OpOk.below (w := w) HXX.out hb.out)
        have HMR := Lib.hid ((hb.out.cell (p := ⟨0, 0, none⟩) hlt).trans HM0.out)
        have hds := does_small (q := q) (lf := lf) (o := x) hsm.out HSO.out
        have HDS := Lib.hid hds.1
        have hdu := hds.2
        have hdl := does_left (o := x) hlf
        have hdv : usedM (doesM q lf M x) ≤ 300 * (j + 1) := by omega
        clear hds
        go_wp2_with fail
        refine (does_any wr w.heap.size d B y q lf A1 c9 L1 K1 M HT.out hw0 m HMR.out hq hl64 hsm.out hu9 x HX.out).mono ?_; rintro e wd ⟨rfl, hex, hbd⟩
        have HEX := Lib.hid hex
        have HBD := Lib.hid (hb.out.trans hbd)
        clear hex hbd g0 g1 g2 g3 g4 g5
        go_wp2_with fail
        go_roundg (60 - (j + 1))
        case measure => exact hme
        case rel => exact ⟨d, B, j + 1, doesM q lf M x, doesLf lf x, rfl, by go_num, hlt2.1, hlt2.2, Nat.le_refl _, HEX, HDS, hdv, hdl, HBD⟩
    · have hcase : (decide (j < n) = false ∧ ¬ j < n) ∨ (decide ((j : Int) < n) = true ∧ decide ((j : Int) < 60) = false) := by
        by_cases h : j < n
        · exact .inr ⟨decide_eq_true (by omega), decide_eq_false (by omega)⟩
        · exact .inl ⟨decide_eq_false h, h⟩
      obtain ⟨b, er, hrd⟩ : ∃ b er, readM M noneS = (b, er) := ⟨_, _, rfl⟩
      have HRD := Lib.hid hrd
      have hns : noneS.size ≤ maxLen := by decide +kernel
      have hlm := hsm.out.1
      have hKl : K1.length = M.length := by rw [← HT.out.hK, abs_len]
      have hKu : usedF K1 = usedM M := by rw [← HT.out.hK]; exact abs_used HT.out.rk.row
      clear hrd
      rcases hcase with ⟨t1, h1⟩ | ⟨t1, t2⟩
      · go_wp2_with fail
        refine (alike_any wr w.heap.size d B y q lf A1 c9 L1 K1 M HT.out hsm.out hu9 dir hdir).mono ?_; rintro e wa ⟨rfl, hba⟩
        have HTA := Lib.hid (HT.out.below hba)
        have HBA := Lib.hid (on hb.out hba)
        clear hba
        go_wp2_with fail
        refine (Read_any wa d B q lf M HTA.out.da noneS hns (by omega) b er HRD.out).mono ?_; rintro e w6 ⟨Ga, na, ca, rfl, hsa, hb6⟩
        have HT6 := Lib.hid (HTA.out.below hb6)
        have HB6 := Lib.hid (on HBA.out hb6)
        clear hsa hb6
        go_wp2_with fail
        refine (rRead_any w6 w.heap.size y q lf A1 c9 K1 HT6.out.rk (by omega) noneS (by omega) b er (by rw [HT6.out.hK]; exact HRD.out)).mono ?_; rintro e w7 ⟨Gb, nb, cb, rfl, hsb, hb7⟩
        have HB7 := Lib.hid (on HB6.out hb7)
        clear hsb hb7
        go_wp2_with fail
        go_ret
        exact ⟨ret_bool (by simp), HB7.out⟩
      · go_wp2_with fail
        all_goals
          refine (alike_any wr w.heap.size d B y q lf A1 c9 L1 K1 M HT.out hsm.out hu9 dir hdir).mono ?_; rintro e wa ⟨rfl, hba⟩
          have HTA := Lib.hid (HT.out.below hba)
          have HBA := Lib.hid (on hb.out hba)
          clear hba
          go_wp2_with fail
          refine (Read_any wa d B q lf M HTA.out.da noneS hns (by omega) b er HRD.out).mono ?_; rintro e w6 ⟨Ga, na, ca, rfl, hsa, hb6⟩
          have HT6 := Lib.hid (HTA.out.below hb6)
          have HB6 := Lib.hid (on HBA.out hb6)
          clear hsa hb6
          go_wp2_with fail
          refine (rRead_any w6 w.heap.size y q lf A1 c9 K1 HT6.out.rk (by omega) noneS (by omega) b er (by rw [HT6.out.hK]; exact HRD.out)).mono ?_; rintro e w7 ⟨Gb, nb, cb, rfl, hsb, hb7⟩
          have HB7 := Lib.hid (on HB6.out hb7)
          clear hsb hb7
          go_wp2_with fail
          go_ret
          exact ⟨ret_bool (by simp), HB7.out⟩
end Go.Proofs.YtekdcnlbdgikoaaDoor
namespace Go.Proofs.YtekdcnlbdgikoaaDoor.diskPlays
open Go.ChangeShapes Go.WideShapes Go.ChangeAt Go.RowKit
open Go.ChangeMaps (open_string shut_string)
set_option linter.unusedVariables false

theorem own : ownKnob Tryd.prog.godebug = none := by kernel_rfl
theorem laidOut : laidOutB Tryd.prog = true := by kernel_rfl

set_option maxRecDepth 100000 in
theorem contract (H : Type) (enc : TypeId × Value → H) (W : World) (base : Nat) (args : Array Value) (ds gs : List (DataW H)) (before : List MemPlace)
    (hval0 : ∀ (j : Nat) t v, Tryd.f7.params[j]? = some t → args[j]? = some v → Value.okWide Tryd.prog W .any base t v)
    (hW : DataW.Whole enc Tryd.prog Tryd.f7.params.toList Rows.diskPlaysSpec.vars false W args.toList ds gs before) (hS : W.ShapedOpen Tryd.prog) (hZ : (DataW.weightsEach Tryd.prog (Tryd.f7.params.toList ++ (OpenSpec.ofChange Rows.diskPlaysSpec).bare.plain.varTypes Tryd.prog) (ds ++ gs)).all (· ≤ reachBytes) = true) :
    Calls Tryd.prog 7 args W fun e W' => ∃ v, e = .returned v ∧ Rows.diskPlaysSpec.post enc Tryd.prog Tryd.f7 false true false false W args v W' := by
  have hval : ∀ (j : Nat) t v, Tryd.f7.params[j]? = some t → args[j]? = some v → Value.okWide Tryd.prog W .any base t v := hval0
  have hW' := hW
  obtain ⟨p, q, hA0, hV, rfl, hfz, hnd⟩ := hW
  have hA : DataW.TrodAll enc Tryd.prog W 0 (fun _ => true) true Tryd.f7.params.toList args.toList ds p := hA0
  rw [Tryd.params7] at hA hval
  obtain ⟨v0, vs0, d0, ds0, p0, q0, hargs, rfl, rfl, h0, r0⟩ := trodAll_cons hA
  obtain ⟨v1, vs1, d1, ds1, p1, q1, rfl, rfl, rfl, h1, r1⟩ := trodAll_cons r0
  obtain ⟨v2, vs2, d2, ds2, p2, q2, rfl, rfl, rfl, h2, r2⟩ := trodAll_cons r1
  obtain ⟨rfl, rfl, rfl⟩ := trodAll_nil r2
  obtain rfl : args = #[v0, v1, v2] := by cases args; simp_all
  obtain ⟨rfl, rfl⟩ := trodVars_none hV
  obtain ⟨a0, rfl, rfl, rfl, w0⟩ := open_int Tryd.underlying3 (hval 0 3 v0 rfl rfl) h0
  obtain ⟨a1, len1, cap1, rfl⟩ := okWide_slice Tryd.underlying40 (hval 1 40 v1 rfl rfl)
  have k1 := h1
  have lt1 : ∀ x ∈ p1, x.block < W.heap.size := by obtain ⟨m, hm⟩ := k1; exact DataW.trod_lt m _ _ _ hm
  have hz1 : ∀ n ∈ d1.weights Tryd.prog 40, n ≤ reachBytes := fun n hn => by simpa using List.all_eq_true.1 hZ n (DataW.weights_mem_each (j := 1) (t := 40) (d := d1) (by rw [Tryd.params7]; rfl) rfl n hn)
  obtain ⟨l1, hr1, hl1, hm1⟩ := open_ops Tryd.underlying40 Tryd.underlying43 ⟨rfl, by kernel_rfl, rfl⟩ ⟨rfl, by kernel_rfl, rfl⟩ ⟨rfl, by kernel_rfl, rfl⟩ ⟨rfl, by kernel_rfl, rfl⟩ ⟨rfl, by kernel_rfl, rfl⟩ ⟨rfl, by kernel_rfl, rfl⟩ Tryd.underlying3 Tryd.underlying9 Tryd.underlying22 Tryd.underlying5 (by kernel_rfl) (by kernel_rfl) h1 hz1
  obtain ⟨a2, rfl, rfl, rfl, w2⟩ := open_string Tryd.underlying9 (hval 2 9 v2 rfl rfl) h2
  have z2 : a2.size ≤ reachBytes := by have h := sized_string hZ (j := 2) (t := 9) (by rw [Tryd.params7]; rfl) rfl; rw [size_list]; simpa [ByteArray.toList_eq] using h
  clear hA0 hval0
  obtain ⟨mlen, hmlen⟩ := cell_of_shapedOpen_int hS (g := 0) (zero := #[.int .i64 0]) (of_decide_eq_true (by kernel_rfl)) (by kernel_rfl) rfl (by kernel_rfl) (by kernel_rfl) Tryd.underlying3
  refine (DiskPlays_walk W mlen hmlen a0 (wf_i64 w0) a1 len1 cap1 l1 hr1 hl1 hm1 a2 z2).mono fun e W' ⟨he, bel⟩ => ?_
  subst he
  exact ⟨_, rfl, _, _, _, [], _, [], hW', trodAll_mk1 (shut_bool Tryd.underlying4 _), (trodAll_cons_mk (shut_int Tryd.underlying3 w0) (trodAll_cons_mk (Below.trod laidOut (by kernel_rfl) (of_decide_eq_true (by kernel_rfl)) k1 bel lt1) (trodAll_cons_mk (shut_string Tryd.underlying9 w2) trodAll_mk0))), rfl, bel.frame _, fun h => by cases h⟩

/-- What the tables hold. -/
def firstCells : Array Value := (Pinned.utf8FirstZ.map fun (n : Nat) => Value.int .u8 (n : Int)).toArray
def rangeCells : Array Value := #[.int .u8 128, .int .u8 191, .int .u8 160, .int .u8 191, .int .u8 128, .int .u8 159, .int .u8 144, .int .u8 191, .int .u8 128, .int .u8 143] ++ (List.replicate 22 (Value.int .u8 0)).toArray
/-- A world for the witness: the settled one, with the two tables laid. -/
def lay (c : Array Value) : Obj → Obj
  | .cells _ t frozen => .cells c t frozen
  | o => o
noncomputable def laidWorld (os : Os) : World :=
  { World.holding Tryd.prog os ⟨#[], #[], []⟩ with heap := ((World.holding Tryd.prog os ⟨#[], #[], []⟩).heap.modify 1 (lay firstCells)).modify 2 (lay rangeCells) }
theorem laid_met (os : Os) : laidMet Tryd.prog Rows.diskPlaysRow.laid ((laidWorld os).forCall (fun _ _ => 0) ⟨#[], #[.int .i64 0, .slice none 0 0, .string ⟨#[]⟩], []⟩).memory :=
  laidMet_of_run' 8 (by kernel_rfl) (by kernel_rfl)
theorem reads (os : Os) {H : Type} (enc : TypeId × Value → H) : ∃ places, DataW.whole enc Tryd.prog ((laidWorld os).forCall (fun _ _ => 0) ⟨#[], #[.int .i64 0, .slice none 0 0, .string ⟨#[]⟩], []⟩).memory Tryd.f7.params.toList Rows.diskPlaysSpec.vars false #[.int .i64 0, .slice none 0 0, .string ⟨#[]⟩].toList 8 = some ([.lit (.int .i64 0), .nil, .lit (.string [])], [], places) :=
  ⟨[], by kernel_rfl⟩

set_option maxRecDepth 100000 in
theorem lifted (os : Os) (started : os.Started) (H : Type) (enc : TypeId × Value → H) (F : Stop.Interp) :
    ReturnsInHanded {} Tryd.checked os 7 .any ((OpenSpec.ofChange Rows.diskPlaysSpec).preRow enc Tryd.prog Tryd.f7 Rows.diskPlaysRow.domain false Rows.diskPlaysRow.laid) (((OpenSpec.ofChange Rows.diskPlaysSpec).at F).post enc Tryd.prog Tryd.f7 false true false false) := by
  obtain ⟨places, hx⟩ := reads os enc
  refine returnsInHanded_of_row (C := Tryd.checked) (s := OpenSpec.ofChange Rows.diskPlaysSpec) own started (by kernel_rfl) Tryd.func7
    (witness_row_at (enc := enc) (C := Tryd.checked) false (laidWorld os) #[.int .i64 0, .slice none 0 0, .string ⟨#[]⟩] rfl (by kernel_rfl) (by kernel_rfl) (by kernel_rfl)
      (OpenSpec.preRow_of_cond 8 hx (by kernel_rfl) (fun k hk => by cases hk) (by kernel_rfl) (laid_met os))) ?_
  intro W base args ds gs before hval hW _ _ hZ hL hS _
  exact contract H enc W base args ds gs before hval hW hS hZ

theorem said : Rows.DiskPlaysSaid :=
  OpenClaim.holds_of_cond 7 Tryd.f7 rfl rfl rfl rfl rfl rfl rfl ⟨rfl, rfl, rfl, rfl, rfl⟩ rfl rfl rfl rfl rfl (by kernel_rfl) Tryd.func7 (by kernel_rfl)
    (of_decide_eq_true (by kernel_rfl)) (by unfold Func.isWrapper; first | (rw [if_pos (by decide +kernel)]; kernel_rfl) | (rw [if_neg (by decide +kernel)]; exact ⟨rfl, rfl⟩))
    (fun os started H enc _ F => by rw [OpenClaim.pre_eq_preRow]; exact lifted os started H enc F)

/-- No parameter wants a stand-in; the program's own looks are off: what the card asks. -/
theorem plain (f : FuncId) (fn : Func) (hf : Tryd.pinned.checked.prog.funcNamed Rows.diskPlaysRow.func = some f) (hfn : Tryd.pinned.checked.prog.funcs[f]? = some fn) :
    true = Tryd.pinned.checked.prog.looks [] ∧ ∀ (j : Nat) t, fn.params[j]? = some t → Tryd.pinned.checked.prog.wantsStandIn t = false := by
  obtain rfl : f = 7 := Option.some.inj ((show Tryd.prog.funcNamed Rows.diskPlaysRow.func = some 7 by kernel_rfl).symm.trans hf) |>.symm
  obtain rfl : fn = Tryd.f7 := (Option.some.inj (Tryd.func7.symm.trans hfn)).symm
  refine ⟨by kernel_rfl, fun j t ht => ?_⟩
  rw [Tryd.params7] at ht
  have hm := Array.mem_of_getElem? ht
  simp only [List.mem_toArray, List.mem_cons, List.not_mem_nil, or_false] at hm
  rcases hm with rfl | rfl | rfl <;> exact (show Tryd.prog.wantsStandIn _ = false by kernel_rfl)

/-- The statement: the card. -/
theorem proved : Rows.DiskPlaysCardSaid :=
  Claim7.holds_tied_plain_at .later [] _ _ _ _ said (fun _ h => by cases h) (by kernel_rfl) (fun _ h => by cases h) diskPlays_row_tie rfl ⟨rfl, rfl⟩ (by kernel_rfl) rfl plain (by kernel_rfl)
end Go.Proofs.YtekdcnlbdgikoaaDoor.diskPlays

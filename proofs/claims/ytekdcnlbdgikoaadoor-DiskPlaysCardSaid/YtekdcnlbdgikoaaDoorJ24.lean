/- Joined texts: DkMw. Each has its own head line. No condition beyond those that its theorems state. -/
import Derived.Test.YtekdcnlbdgikoaaDoorJ23
set_option linter.unusedVariables false

/- disk.Move: the walk. -/
namespace Go.Proofs.YtekdcnlbdgikoaaDoor
open Go.RowKit

theorem grow_of {w w' : World} (hb : Below w.heap.size w w') : w.grownBy w' none := ⟨hb.os, hb.tape, hb.output, hb.size, fun k hk _ => hb.block k hk⟩
section
variable {H : Type} {P : Program} {k : TypeId} {R : Value → Option (DataW H × List MemPlace)} {w w' : World} {b r n cnt : Nat} {D : DataW H} {left : Lit → Bool}
theorem rgB (h : w.ranges P k R b r n D left cnt) (hb : Below w.heap.size w w') : w'.ranges P k R b r n D left cnt := h.kept (grow_of hb) (by simp) (by simp)
theorem owB (h : w.ownsMap P k R b n D) (hb : Below w.heap.size w w') : w'.ownsMap P k R b n D := h.kept (grow_of hb) (by simp)
theorem drB (w : World) (q : Nat) : Below w.heap.size w (w.drewN q) := below_drewN' (Below.refl _ _) q
end
theorem all_any (L : List Fl) (P Q : ByteArray → Bool) : (!(L.any fun f => P f.p && !Q f.p)) = L.all fun f => !P f.p || Q f.p := by
  induction L with
  | nil => rfl
  | cons x r ih => rw [List.any_cons, List.all_cons, ← ih]; cases P x.p <;> cases Q x.p <;> simp
theorem any_abs (L : List Fl) (P : ByteArray → Bool) : ((absF L).any fun f => P f.p) = L.any fun f => P f.p := by
  unfold absF; rw [List.any_map]; rfl
theorem all_abs (L : List Fl) (P : ByteArray → Bool) : ((absF L).all fun f => P f.p) = L.all fun f => P f.p := by
  unfold absF; rw [List.all_map]; rfl
theorem path_le {s : ByteArray} (h : pathD s = true) : s.size ≤ 60 := by
  unfold pathD at h
  rw [Bool.and_eq_true] at h
  exact of_decide_eq_true h.1

theorem st_ok {w : World} {frm dest : ByteArray} {left : Lit → Bool} {f : Fl} (h : FlOk w f) (hp : (newp f.p frm dest).size ≤ maxLen) : FlOk w (stF frm dest left f) := by
  unfold stF
  split
  · exact ⟨h.1, h.2.1, h.2.2.1, h.2.2.2.1, h.2.2.2.2.1, hp⟩
  · exact h
theorem new_size (p frm dest : ByteArray) : (newp p frm dest).size ≤ dest.size + p.size := by
  unfold newp
  rw [ByteArray.size_append]
  have := rest_le p frm
  omega
theorem own_files {P : Program} {k : TypeId} {w : World} {b n : Nat} {frm dest : ByteArray} {left : Lit → Bool} {L : List Fl} (h : w.ownsMap P k rawE b n (dat (filesAt frm dest left L))) : w.ownsMap P k rawE b L.length (dat (filesAt frm dest left L)) := by
  have := own_tight h
  rwa [dat_size, files_len] at this

set_option maxRecDepth 100000 in
set_option maxHeartbeats 4000000 in
theorem Move_any (w : World) (d B : Nat) (q lf : Int) (M : List Mf) (h : Da w d B q lf M) (hl : -9223372036854775808 ≤ lf ∧ lf < 9223372036854775808) (hd0 : d ≠ 0) (hB0 : B ≠ 0) (frm dest : ByteArray) (hlen : M.length < 1000000) (hps : ∀ f ∈ M, f.p.size ≤ 60)
    (m : Int) (hm : w.cell? ⟨0, 0, none⟩ = some (.int .i64 m)) (er : Int) (M' : List Mf) (hc : moveM lf M frm dest = (er, M')) :
    Calls Tryd.prog 15 #[.pointer (some ⟨d, 0, none⟩), .string frm, .string dest] w (DaOut w d B q (burnL lf) M' (.int .i64 er)) := by
  obtain ⟨L, rfl, hk⟩ := h
  rw [abs_len] at hlen
  have HD := Lib.hid hk; have HM := Lib.hid hm
  have HPS : Hid (∀ f ∈ L, f.p.size ≤ 60) := Lib.hid fun f hf => hps f.abs (List.mem_map_of_mem hf)
  unfold moveM at hc
  clear hk hm hps
  by_cases h0 : lf = 0
  · rw [if_pos h0] at hc
    injection hc with h1 h2
    have HR := Lib.hid (And.intro h1 h2)
    have HL := Lib.hid (show decide (lf = 0) = true from decide_eq_true h0)
    clear h0 h1 h2
    go_enter Tryd.func15, Tryd.ntmps15
    go_wp2_with fail
    refine (burnt_any _ _ _ _ _ _ HD.out hl).mono ?_; rintro e w1 ⟨rfl, hd1, ht1, _⟩
    rw [HL.out]
    have HD1 := Lib.hid hd1; have HT1 := Lib.hid ht1
    clear hd1 ht1
    go_wp2_with fail
    go_ret
    obtain ⟨rfl, rfl⟩ := HR.out
    exact ⟨rfl, ⟨L, rfl, HD1.out⟩, HT1.out⟩
  · rw [if_neg h0] at hc
    have HL := Lib.hid (show decide (lf = 0) = false from decide_eq_false h0)
    clear h0
    obtain ⟨bp, hbp⟩ : ∃ bp, pathD dest = bp := ⟨_, rfl⟩
    rw [hbp] at hc
    cases bp
    · rw [if_pos rfl] at hc
      injection hc with h1 h2
      have HR := Lib.hid (And.intro h1 h2)
      have HBP := Lib.hid hbp
      clear h1 h2 hbp
      go_enter Tryd.func15, Tryd.ntmps15
      go_wp2_with fail
      refine (burnt_any _ _ _ _ _ _ HD.out hl).mono ?_; rintro e w1 ⟨rfl, hd1, ht1, _⟩
      rw [HL.out]
      have HD1 := Lib.hid hd1; have HT1 := Lib.hid ht1
      have HM1 := Lib.hid (ht1.cell HM.out (fun e => hd0 e.symm) (fun e => hB0 e.symm))
      clear hd1 ht1
      go_wp2_with fail
      refine (Path_any _ dest m HM1.out).mono ?_; rintro e w2 ⟨rfl, hb2⟩
      rw [HBP.out]
      have HB2 := Lib.hid hb2
      clear hb2
      go_wp2_with fail
      go_ret
      obtain ⟨rfl, rfl⟩ := HR.out
      exact ⟨rfl, ⟨L, rfl, HD1.out.below HB2.out⟩, HT1.out.trans (Turn.of_below HB2.out)⟩
    · rw [if_neg (by simp)] at hc
      have hto := path_le hbp
      have HBP := Lib.hid hbp
      rw [any_abs L (fun p => underB p frm), any_abs L (fun p => underB p dest), all_abs L (fun p => !underB p frm || pathD (newp p frm dest))] at hc
      have HC := Lib.hid hc
      clear hc hbp
      have hmm := @run_makeMap Tryd.prog
      go_enter Tryd.func15, Tryd.ntmps15
      go_wp2_with fail
      refine (burnt_any _ _ _ _ _ _ HD.out hl).mono ?_; rintro e w1 ⟨rfl, hd1, ht1, _⟩
      rw [HL.out]
      have HD1 := Lib.hid hd1; have HT1 := Lib.hid ht1
      have HM1 := Lib.hid (ht1.cell HM.out (fun e => hd0 e.symm) (fun e => hB0 e.symm))
      clear hd1 ht1
      go_wp2_with fail
      refine (Path_any _ dest m HM1.out).mono ?_; rintro e w2 ⟨rfl, hb2⟩
      rw [HBP.out]
      have HD2 := Lib.hid (HD1.out.below hb2)
      have hd3 := (HD1.out.below hb2).alloc (.map #[] 0)
      have c2 := hd3.c2
      have HD3 := Lib.hid hd3
      have HT2 := Lib.hid (HT1.out.trans (Turn.of_below hb2))
      have HM2 := Lib.hid ((hb2.cell (p := ⟨0, 0, none⟩) (World.block_lt_of_cell? w1 _ HM1.out)).trans HM1.out)
      have HMV0 : Hid ((w2.alloc (.map #[] 0)).ownsMap Tryd.prog 9 rawE w2.heap.size 0 (.map [])) := Lib.hid (World.ownsMap_made w2 _ _ _)
      have hBlt : B < w2.heap.size := by have := HD1.out.ltB; have := hb2.size; omega
      have hdlt : d < w2.heap.size := by have := HD1.out.lt; have := hb2.size; omega
      clear hd3 hb2
      have hr : (w2.alloc (.map #[] 0)).heap.size = w2.heap.size + 1 := by simp
      go_wp2_with (at_range; refine wpList_range_own _ rfl _ _ rfl 9 57 keyed_s Tryd.underlying53 rawE B L.length _ rfl HD3.out.own ?_; intro w0 hrg0 hg0 hs0; rw [hr])
      go_frame
      rw [hr] at hrg0
      have HRG := Lib.hid hrg0
      have HMV := Lib.hid (HMV0.out.kept hg0 (by simp))
      have HB := Lib.hid (((Below.refl w2.heap.size w2).alloc (Nat.le_refl _) (.map #[] 0)).grown hg0 (by simp) (fun k e => by cases e))
      have hz0 := HB.out.size
      clear hrg0 hg0 c2
      go_loopw [8, 9] (fun v8 v9 wr => ∃ (left : Lit → Bool) (cnt nn : Nat) (bt bg : Bool) (D : DataW Value), v8 = .bool bt ∧ v9 = .bool bg ∧ Hid (wr.ranges Tryd.prog 9 rawE B (w2.heap.size + 1) L.length (dat L) left cnt) ∧ Hid (wr.ownsMap Tryd.prog 9 rawE w2.heap.size nn D) ∧ Hid (MvD frm dest L left D) ∧ nn + cnt ≤ L.length ∧
          Hid (bt = gone left L (fun p => underB p dest)) ∧ Hid (bg = !gone left L (fun p => underB p frm && !pathD (newp p frm dest))) ∧ Hid (Below w2.heap.size w2 wr)) (fun _ _ wr => wr.rangeLeft B (w2.heap.size + 1))
      case atStart => exact ⟨_, _, 0, false, true, _, rfl, rfl, HRG, HMV, Lib.hid (MvD.start _ _ _), by rw [dat_size]; omega, Lib.hid (by rw [gone_start]), Lib.hid (by rw [gone_start]; rfl), HB⟩
      case round =>
        obtain ⟨left, cnt, nn, bt, bg, D, rfl, rfl, hrg, how, hmd, hnn, hbt, hbg, hb⟩ := hrel
        have hz := hb.out.size
        go_wp2_with (at_next; refine wpList_next_ranges _ rfl _ rfl 9 keyed_s rawE Value.string id inv_s inv_v B (w2.heap.size + 1) L.length _ _ _ rfl hrg.out ?_ ?_)
        · intro _ hl0
          have HSZ := Lib.hid (hmd.out.size how.out hl0)
          have HBT := Lib.hid (hbt.out.trans (gone_end L (fun p => underB p dest) hl0))
          have HBG := Lib.hid ((hbg.out.trans (congrArg (!·) (gone_end L (fun p => underB p frm && !pathD (newp p frm dest)) hl0))).trans (all_any L (fun p => underB p frm) (fun p => pathD (newp p frm dest))))
          have hc := HC.out
          rw [← HBT.out, ← HBG.out] at hc
          have HNO : Hid (bt = false → ∀ f ∈ L, underB f.p dest = false) := Lib.hid fun h => any_mem (P := fun p => underB p dest) (by rw [← HBT.out]; exact h)
          obtain ⟨a1, ha1⟩ : ∃ a1, (L.any fun f => underB f.p frm) = a1 := ⟨_, rfl⟩
          obtain ⟨ub, hub⟩ : ∃ ub, underB dest frm = ub := ⟨_, rfl⟩
          obtain ⟨re, hre⟩ : ∃ re, (restB dest frm).toList.isEmpty = re := ⟨_, rfl⟩
          have hsz0 := HSZ.out
          rw [ha1] at hc hsz0
          rw [hub, hre] at hc
          have HUB := Lib.hid hub
          have HRE := Lib.hid hre
          have HD4 := Lib.hid ((HD2.out.below hb.out).below (Below.refl _ _))
          have HT4 := Lib.hid (HT2.out.trans (Turn.of_below hb.out))
          have HC2 := Lib.hid hc
          clear HC HSZ HBT HBG ha1 hub hc hbt hbg hre
          go_wp2_with fail
          refine (under_any _ _ _).mono ?_; rintro e w4 ⟨rfl, q1, rfl⟩
          rw [HUB.out]
          have HD5 := Lib.hid (HD4.out.below (drB wr q1))
          have HT5 := Lib.hid (HT4.out.trans (Turn.of_below (drB wr q1)))
          have HOW5 := Lib.hid (owB how.out (drB wr q1))
          clear HD4 HT4
          generalize wr.drewN q1 = w4 at HD5 HT5 HOW5 ⊢
          cases a1
          · have hc := HC2.out
            rw [if_pos rfl] at hc
            injection hc with h1 h2
            have HR := Lib.hid (And.intro h1 h2)
            clear h1 h2 HC2
            go_wp2_with (at_len; refine wpList_len_own _ rfl _ _ rfl 9 9 Tryd.underlying61 rawE w2.heap.size nn D rfl HOW5.out ?_)
            go_ret
            obtain ⟨rfl, rfl⟩ := HR.out
            exact ⟨rfl, ⟨L, rfl, HD5.out⟩, HT5.out⟩
          · have hc := HC2.out
            rw [if_neg (by simp)] at hc
            cases bt
            · rw [if_neg (by simp)] at hc
              obtain ⟨no, hno⟩ : ∃ no, (ub && !re || !bg) = no := ⟨_, rfl⟩
              rw [hno] at hc
              cases no
              · rw [if_neg (by simp)] at hc
                injection hc with h1 h2
                have HR := Lib.hid (And.intro h1 h2)
                have hno1 := HNO.out rfl
                have HNO1 := Lib.hid hno1
                clear h1 h2 HC2 hno1
                have HLS := Lib.hid HD5.out.sort
                have HST : Hid (filesAt frm dest (Maps.has D) L = L) := Lib.hid (files_start HD5.out.sort fun f hf hu => by
                  have hf2 : (findF L f.p).isSome = true := by unfold findF; rw [List.isSome_find?, List.any_eq_true]; exact ⟨f, hf, by simp⟩
                  exact Maps.has_true_of_atKey (y := .held (.string (newp f.p frm dest))) fun z => by rw [hmd.out.2 f.p z, hf2, hu, hl0]; simp)
                have hB24 : w2.heap.size < w4.heap.size := HOW5.out.lt
                have hre := HRE.out
                have hor : bg = true ∧ (ub = false ∨ (ub = true ∧ re = true)) := by cases bg <;> cases ub <;> cases re <;> simp at hno ⊢
                obtain ⟨rfl, hor⟩ := hor
                clear hno
                rcases hor with rfl | ⟨rfl, rfl⟩
                all_goals
                  go_wp2_with (first
                    | (at_len; refine wpList_len_own _ rfl _ _ rfl 9 9 Tryd.underlying61 rawE w2.heap.size nn D rfl HOW5.out ?_)
                    | (at_range; refine wpList_range_own _ rfl _ _ rfl 9 9 keyed_s Tryd.underlying61 rawE w2.heap.size nn _ rfl HOW5.out ?_; intro w6 hrg6 hg6 hs6))
                  go_frame
                  have HRG6 := Lib.hid hrg6
                  have hb6 := (Below.refl w4.heap.size w4).grown hg6 (Nat.le_refl _) (fun k e => by cases e)
                  have HT6 := Lib.hid (Turn.of_below (d := d) (B := B) hb6)
                  have HBK6 := Lib.hid ((hb6.block d HD5.out.lt).trans HD5.out.blk)
                  have HOB6 : Hid (w6.ownsMap Tryd.prog 9 rawE B L.length (dat (filesAt frm dest (Maps.has D) L))) := by rw [HST.out]; exact Lib.hid (owB HD5.out.own hb6)
                  clear hrg6 hg6 hb6
                  go_loopw [17] (fun _ wr => ∃ (left : Lit → Bool) (cnt : Nat), Hid (wr.ranges Tryd.prog 9 rawE w2.heap.size w4.heap.size nn D left cnt) ∧ Hid (wr.ownsMap Tryd.prog 9 rawE B L.length (dat (filesAt frm dest left L))) ∧ Hid (wr.heap[d]? = some (.cells #[.int .i64 q, .int .i64 (burnL lf), .map (some B)] 55)) ∧ Hid (Turn d B w4 wr)) (fun _ wr => wr.rangeLeft w2.heap.size w4.heap.size)
                  case atStart => exact ⟨_, _, HRG6, HOB6, HBK6, HT6⟩
                  case round =>
                    obtain ⟨left2, cnt2, hrg2, hob2, hbk2, htu2⟩ := hrel
                    have hz2 := htu2.out.size
                    have cw2 : wr.cell? ⟨d, 2, none⟩ = some (.map (some B)) := by rw [cell_of_blk hbk2.out]; rfl
                    go_wp2_with (at_next; refine wpList_next_ranges _ rfl _ rfl 9 keyed_s rawE Value.string id inv_s inv_v w2.heap.size w4.heap.size nn _ _ _ rfl hrg2.out ?_ ?_)
                    · intro _ hl2
                      have hend := files_end (frm := frm) (dest := dest) (L := L) hl2
                      have hok : Dk wr d B q (burnL lf) (filesAt frm dest left2 L) := ⟨hbk2.out, by rw [files_len]; exact hob2.out, fun g hg => by
                        obtain ⟨k, hk, rfl⟩ := files_mem.1 hg
                        refine st_ok ((HD5.out.row k hk).turn (HD5.out.far (HD5.out.row k hk).1) htu2.out) ?_
                        have h1 := new_size k.p frm dest
                        have h2 := HPS.out k hk
                        unfold maxLen; omega⟩
                      have HOK := Lib.hid hok
                      have HEND := Lib.hid hend
                      clear hok hend
                      go_wp2_with fail
                      go_ret
                      obtain ⟨rfl, rfl⟩ := HR.out
                      exact ⟨rfl, ⟨_, HEND.out, HOK.out⟩, HT5.out.trans htu2.out⟩
                    · intro x c kl y ps w5 cnt3 hkey hlk hv hat hrg1 hlt hgr hsz hen
                      obtain ⟨rfl, hxs, rfl, f, hf, rfl, hu⟩ := next_moved hmd.out hkey hv hat
                      have hd4 := HD5.out.lt
                      have hB4 := HD5.out.ltB
                      have hBne : w2.heap.size ≠ B := by omega
                      have hrne : w4.heap.size ≠ B := by omega
                      have hdne : d ≠ w4.heap.size := by omega
                      have hdB := HD5.out.ne
                      have hns : (newp f.p frm dest).size ≤ maxLen := by
                        have h1 := new_size f.p frm dest
                        have h2 := HPS.out f hf
                        unfold maxLen; omega
                      have hd5 : d < w5.heap.size := by omega
                      have hB5 : B < w5.heap.size := by omega
                      have hbk5 : w5.heap[d]? = some (.cells #[.int .i64 q, .int .i64 (burnL lf), .map (some B)] 55) := (hgr.block d (by omega) (fun e => by injection e with e; exact hdne e)).trans hbk2.out
                      have hob5 := hob2.out.kept hgr (by simp; omega)
                      have htu5 := htu2.out.grown hgr (fun k e => by injection e with e; omega)
                      have c52 : w5.cell? ⟨d, 2, none⟩ = some (.map (some B)) := by rw [cell_of_blk hbk5]; rfl
                      have hfind := files_find (frm := frm) (dest := dest) HLS.out HNO1.out hf hlk
                      have hstep := files_step (frm := frm) (dest := dest) (left := left2) HLS.out HNO1.out hf hu hlk
                      obtain ⟨ob, hob⟩ : ∃ ob, ob = Obj.cells #[.slice f.A f.n f.c, .int .i64 f.safe] 57 := ⟨_, rfl⟩
                      have hba := (Below.refl w5.heap.size w5).alloc (Nat.le_refl _) ob
                      have hbk6 := (hba.block d (by omega)).trans hbk5
                      have c62 : (w5.alloc ob).cell? ⟨d, 2, none⟩ = some (.map (some B)) := by rw [cell_of_blk hbk6]; rfl
                      have HOB6 := Lib.hid (hob5.alloc ob)
                      have HOB5 := Lib.hid hob5
                      have HFIND := Lib.hid hfind; have HSTEP := Lib.hid hstep
                      have HRG1 := Lib.hid hrg1; have HTU5 := Lib.hid htu5; have HBK6 := Lib.hid hbk6
                      have HNEW : Hid ((w5.alloc ob).heap[w5.heap.size]? = some (.cells #[.slice f.A f.n f.c, .int .i64 f.safe] 57)) := by rw [← hob]; exact Lib.hid (IdiomRange_new w5 ob)
                      have HBA := Lib.hid hba
                      subst hob
                      clear hat hv hkey hlk hrg1 hob5 htu5 hfind hstep hbk5 hbk6 hba hgr hsz
                      go_wp2_with (first
                        | (at_lookup; refine wpList_look1_file _ rfl _ _ rfl B L.length _ rfl HOB5.out f.p rfl hxs f HFIND.out ?_)
                        | (at_delete; refine wpList_del_file _ rfl _ _ rfl B L.length _ rfl HOB6.out f.p rfl hxs ?_; intro w6 ho6 ht6))
                      go_frame
                      have hlt6 : w5.heap.size < w6.heap.size := by have := ht6.grown.size; simp at this; omega
                      have hbk7 : w6.heap[d]? = some (.cells #[.int .i64 q, .int .i64 (burnL lf), .map (some B)] 55) := (ht6.grown.block d (by simp; omega) (fun e => by injection e with e; exact hdB e)).trans HBK6.out
                      have hnw7 : w6.heap[w5.heap.size]? = some (.cells #[.slice f.A f.n f.c, .int .i64 f.safe] 57) := (ht6.grown.block w5.heap.size (by simp) (fun e => by injection e with e; omega)).trans HNEW.out
                      have c72 : w6.drew.cell? ⟨d, 2, none⟩ = some (.map (some B)) := by show w6.cell? _ = _; rw [cell_of_blk hbk7]; rfl
                      have c70 : w6.drew.cell? ⟨w5.heap.size, 0, none⟩ = some (.slice f.A f.n f.c) := by show w6.cell? _ = _; rw [cell_of_blk hnw7]; rfl
                      have c71 : w6.drew.cell? ⟨w5.heap.size, 1, none⟩ = some (.int .i64 f.safe) := by show w6.cell? _ = _; rw [cell_of_blk hnw7]; rfl
                      have ho7 : w6.drew.ownsMap Tryd.prog 9 rawE B L.length (dat (delF (filesAt frm dest left2 L) f.p)) := owB ho6 (Below.refl _ _).drew
                      obtain ⟨W, hrun, hown, hturn⟩ := ho7.store keyed_s Tryd.underlying53 (by unfold maxLen; omega) (key_of hns) (val := .agg #[.slice f.A f.n f.c, .int .i64 f.safe]) (show rawE _ = _ from rfl)
                      have HTU6 := Lib.hid ((((HTU5.out.alloc _).map ht6).trans (Turn.of_below (Below.refl _ _).drew)).map hturn)
                      have HRG6 := Lib.hid ((rgB ((HRG1.out.alloc _).kept ht6.grown (by simpa using hBne) (by simpa using hrne)) (Below.refl _ _).drew).kept hturn.grown (by simpa using hBne) (by simpa using hrne))
                      have HBK8 : Hid (W.heap[d]? = some (.cells #[.int .i64 q, .int .i64 (burnL lf), .map (some B)] 55)) := Lib.hid ((hturn.grown.block d (by show d < w6.heap.size; omega) (fun e => by injection e with e; exact hdB e)).trans hbk7)
                      have hown8 : W.ownsMap Tryd.prog 9 rawE B L.length (dat (filesAt frm dest (fun z => left2 z && !z.sameKey (keyL f.p)) L)) := by
                        have e := dat_put (delF (filesAt frm dest left2 L) f.p) (movF frm dest f)
                        rw [HSTEP.out] at e
                        refine own_files (n := L.length + 1) ?_
                        rw [← e]
                        exact hown
                      have HOWN8 := Lib.hid hown8
                      clear ho6 ht6 ho7 hown hturn hown8 hbk7 hnw7
                      go_region
                      go_wp2_with fail
                      go_roundw
                      case rel => exact ⟨_, cnt3, HRG6, HOWN8, HBK8, HTU6⟩
                      case measure => rw [hrg2.out.left_eq, HRG6.out.left_eq]; exact hlt
              · rw [if_pos rfl] at hc
                injection hc with h1 h2
                have HR := Lib.hid (And.intro h1 h2)
                clear h1 h2 HC2
                have hre := HRE.out
                cases ub <;> cases re <;> cases bg <;> simp at hno
                all_goals
                  go_wp2_with (at_len; refine wpList_len_own _ rfl _ _ rfl 9 9 Tryd.underlying61 rawE w2.heap.size nn D rfl HOW5.out ?_)
                  go_ret
                  obtain ⟨rfl, rfl⟩ := HR.out
                  exact ⟨rfl, ⟨L, rfl, HD5.out⟩, HT5.out⟩
            · rw [if_pos rfl] at hc
              injection hc with h1 h2
              have HR := Lib.hid (And.intro h1 h2)
              clear h1 h2 HC2
              go_wp2_with (at_len; refine wpList_len_own _ rfl _ _ rfl 9 9 Tryd.underlying61 rawE w2.heap.size nn D rfl HOW5.out ?_)
              go_ret
              obtain ⟨rfl, rfl⟩ := HR.out
              exact ⟨rfl, ⟨L, rfl, HD5.out⟩, HT5.out⟩
        · intro x c kl y ps w3 cnt1 hkey hlk hv hat hrg1 hlt hgr hsz hen
          obtain ⟨rfl, f, hf, rfl, rfl⟩ := next_file hkey hv hat
          unfold Fl.val at hen
          have hp60 := HPS.out f hf
          have hpm : f.p.size ≤ maxLen := by unfold maxLen; omega
          have hrl := rest_le f.p frm
          have HRG1 := Lib.hid hrg1
          have HOW1 := Lib.hid (how.out.kept hgr (by simp))
          have HB1 := Lib.hid (hb.out.grown hgr (by omega) (fun k e => by injection e with e; omega))
          have HGT := Lib.hid (gone_step (left := left) (P := fun p => underB p dest) hf)
          have HGG := Lib.hid (gone_step (left := left) (P := fun p => underB p frm && !pathD (newp p frm dest)) hf)
          have HF := Lib.hid hf
          have HM3 := Lib.hid ((HB1.out.cell (p := ⟨0, 0, none⟩) (World.block_lt_of_cell? w2 _ HM2.out)).trans HM2.out)
          obtain ⟨pth, hpth⟩ : ∃ pth, pth = f.p := ⟨_, rfl⟩
          obtain ⟨u1, hu1⟩ : ∃ u1, underB f.p frm = u1 := ⟨_, rfl⟩
          obtain ⟨u2, hu2⟩ : ∃ u2, underB f.p dest = u2 := ⟨_, rfl⟩
          have HU1 := Lib.hid hu1; have HU2 := Lib.hid hu2
          clear hrg1 hgr hat hv hkey hlk hf hu1 hu2
          cases u1
          · have HG1 : Hid (gone (fun z => left z && !z.sameKey (keyL f.p)) L (fun p => underB p frm && !pathD (newp p frm dest)) = gone left L (fun p => underB p frm && !pathD (newp p frm dest))) := by
              rw [HGG.out, HU1.out]; exact Lib.hid (by simp)
            go_wp2_with fail
            refine (under_any _ _ _).mono ?_; rintro e w4 ⟨rfl, q1, rfl⟩
            rw [HU1.out]
            go_wp2_with fail
            refine (under_any _ _ _).mono ?_; rintro e w4 ⟨rfl, q2, rfl⟩
            rw [HU2.out]
            have HRG5 := Lib.hid (rgB HRG1.out (drB w3 (q1 + q2)))
            have HOW5 := Lib.hid (owB HOW1.out (drB w3 (q1 + q2)))
            have HB5 := Lib.hid (below_drewN' HB1.out (q1 + q2))
            cases u2
            · go_wp2_with fail
              go_roundw
              case rel => exact ⟨_, cnt1, nn, bt, bg, D, rfl, rfl, HRG5, HOW5, Lib.hid (hmd.out.pass HU1.out), by omega, Lib.hid (by rw [hbt.out, HGT.out, HU2.out, Bool.or_false]), Lib.hid (by rw [hbg.out, HG1.out]), HB5⟩
              case measure => rw [hrg.out.left_eq, HRG5.out.left_eq]; exact hlt
            · go_wp2_with fail
              go_roundw
              case rel => exact ⟨_, cnt1, nn, true, bg, D, rfl, rfl, HRG5, HOW5, Lib.hid (hmd.out.pass HU1.out), by omega, Lib.hid (by rw [HGT.out, HU2.out, Bool.or_true]), Lib.hid (by rw [hbg.out, HG1.out]), HB5⟩
              case measure => rw [hrg.out.left_eq, HRG5.out.left_eq]; exact hlt
          · have HMD1 := Lib.hid (hmd.out.put HF.out HU1.out)
            have happ : dest.size + (restB f.p frm).size ≤ maxLen := by unfold maxLen; omega
            go_wp2_with fail
            refine (under_any _ _ _).mono ?_; rintro e w4 ⟨rfl, q1, rfl⟩
            rw [HU1.out]
            have HOW2 : Hid ((w3.drewN q1).ownsMap Tryd.prog 9 rawE w2.heap.size nn D) := Lib.hid HOW1.out
            have HRG2 := Lib.hid (rgB HRG1.out (drB w3 q1))
            have HB2 := Lib.hid (below_drewN' HB1.out q1)
            have HGB := Lib.hid hbg.out
            cases bg
            · go_wp2_with (at_mapUpdate; refine wpList_put_str _ rfl _ _ _ rfl w2.heap.size nn D rfl HOW2.out (by unfold maxLen; omega) f.p (newp f.p frm dest) rfl rfl hpm ?_; intro w5 ho5 ht5)
              refine (under_any _ _ _).mono ?_; rintro e w6 ⟨rfl, q2, rfl⟩
              rw [HU2.out]
              have hk5 := HRG2.out.kept ht5.grown (by simp; omega) (by simp)
              have HRG5 := Lib.hid (rgB hk5 (drB w5 q2))
              have HOW5 := Lib.hid (owB ho5 (drB w5 q2))
              have HB5 := Lib.hid (below_drewN' (HB2.out.grown ht5.grown (by simp; omega) (fun k e => by injection e with e; omega)) q2)
              clear hk5 ho5 ht5
              have HG1 : Hid (false = !gone (fun z => left z && !z.sameKey (keyL f.p)) L (fun p => underB p frm && !pathD (newp p frm dest))) := by
                rw [HGG.out, Bool.not_or, ← HGB.out]; exact Lib.hid (by simp)
              cases u2
              · go_wp2_with fail
                go_roundw
                case rel => exact ⟨_, cnt1, nn + 1, bt, false, _, rfl, rfl, HRG5, HOW5, HMD1, by omega, Lib.hid (by rw [hbt.out, HGT.out, HU2.out, Bool.or_false]), HG1, HB5⟩
                case measure => rw [hrg.out.left_eq, HRG5.out.left_eq]; exact hlt
              · go_wp2_with fail
                go_roundw
                case rel => exact ⟨_, cnt1, nn + 1, true, false, _, rfl, rfl, HRG5, HOW5, HMD1, by omega, Lib.hid (by rw [HGT.out, HU2.out, Bool.or_true]), HG1, HB5⟩
                case measure => rw [hrg.out.left_eq, HRG5.out.left_eq]; exact hlt
            · go_wp2_with (at_mapUpdate; refine wpList_put_str _ rfl _ _ _ rfl w2.heap.size nn D rfl HOW2.out (by unfold maxLen; omega) f.p (newp f.p frm dest) rfl rfl hpm ?_; intro w5 ho5 ht5)
              have hB5 := HB2.out.grown ht5.grown (by simp; omega) (fun k e => by injection e with e; omega)
              have hM5 := (hB5.cell (p := ⟨0, 0, none⟩) (World.block_lt_of_cell? w2 _ HM2.out)).trans HM2.out
              obtain ⟨bp, hbp⟩ : ∃ bp, pathD (dest ++ restB f.p frm) = bp := ⟨_, rfl⟩
              refine (Path_any _ _ m hM5).mono ?_; rintro e w6 ⟨rfl, hb6⟩
              rw [hbp]
              have HBP2 := Lib.hid hbp
              have HRG6 := Lib.hid (rgB (HRG2.out.kept ht5.grown (by simp; omega) (by simp)) hb6)
              have HOW6 := Lib.hid (owB ho5 hb6)
              have HB6 := Lib.hid (hB5.trans (hb6.mono hB5.size))
              clear hbp hB5 hM5 ho5 ht5 hb6
              have HG1 : Hid (bp = !gone (fun z => left z && !z.sameKey (keyL f.p)) L (fun p => underB p frm && !pathD (newp p frm dest))) := by
                rw [HGG.out, Bool.not_or, ← HGB.out, HU1.out, show newp f.p frm dest = dest ++ restB f.p frm from rfl, HBP2.out]; exact Lib.hid (by simp)
              go_wp2_with fail
              refine (under_any _ _ _).mono ?_; rintro e w7 ⟨rfl, q2, rfl⟩
              rw [HU2.out]
              have HRG5 := Lib.hid (rgB HRG6.out (drB w6 q2))
              have HOW5 := Lib.hid (owB HOW6.out (drB w6 q2))
              have HB5 := Lib.hid (below_drewN' HB6.out q2)
              cases u2
              · go_wp2_with fail
                go_roundw
                case rel => exact ⟨_, cnt1, nn + 1, bt, bp, _, rfl, rfl, HRG5, HOW5, HMD1, by omega, Lib.hid (by rw [hbt.out, HGT.out, HU2.out, Bool.or_false]), HG1, HB5⟩
                case measure => rw [hrg.out.left_eq, HRG5.out.left_eq]; exact hlt
              · go_wp2_with fail
                go_roundw
                case rel => exact ⟨_, cnt1, nn + 1, true, bp, _, rfl, rfl, HRG5, HOW5, HMD1, by omega, Lib.hid (by rw [HGT.out, HU2.out, Bool.or_true]), HG1, HB5⟩
                case measure => rw [hrg.out.left_eq, HRG5.out.left_eq]; exact hlt
end Go.Proofs.YtekdcnlbdgikoaaDoor

/- Joined texts: RfC. Each has its own head line. No condition beyond those that its theorems state. -/
import Derived.Test.YtekdcnlbdgikoaaDoorJ36
set_option linter.unusedVariables false

/- The reference's disk: Crash. -/
namespace Go.Proofs.YtekdcnlbdgikoaaDoor
open Go.RowKit

def cutR (keep : Int) (f : Fl) : Fl := ⟨f.p, f.A, keptN keep f.n f.safe, f.c, f.b.take (keptN keep f.n f.safe), keptN keep f.n f.safe⟩
theorem kept_le (keep : Int) {n s : Nat} (h : s ≤ n) : keptN keep n s ≤ n := by unfold keptN; omega
theorem cutR_ok {w : World} {keep : Int} {f : Fl} (h : FlOk w f) : FlOk w (cutR keep f) := by
  have hk := kept_le keep h.2.2.2.2.1
  have h2 := h.2.2.1
  exact ⟨h.1.first hk, (fun x hx => h.2.1 x (List.mem_of_mem_take hx)), by show keptN _ _ _ ≤ f.c; omega, h.2.2.2.1, Nat.le_refl _, h.2.2.2.2.2⟩
theorem crashR_abs {w : World} {keep : Int} {L : List Fl} (h : ∀ f ∈ L, FlOk w f) : absF (L.map (cutR keep)) = crashM keep (absF L) := by
  unfold absF crashM
  rw [List.map_map, List.map_map]
  refine List.map_congr_left fun f hf => ?_
  have := (h f hf).1.len
  show Mf.mk f.p (f.b.take (keptN keep f.n f.safe)) (keptN keep f.n f.safe) = Mf.mk f.p (f.b.take (keptN keep f.b.length f.safe)) (keptN keep f.b.length f.safe)
  rw [this]
/-- The files while the first j have been cut. -/
def Cutting (keep : Int) (L K : List Fl) (j : Nat) : Prop := ∃ h : K.length = L.length, ∀ i (hi : i < L.length), K[i] = if i < j then cutR keep L[i] else L[i]
theorem Cutting.start (keep : Int) (L : List Fl) : Cutting keep L L 0 := ⟨rfl, fun i hi => by rw [if_neg (by omega)]⟩
theorem Cutting.done {keep : Int} {L K : List Fl} {j : Nat} (h : Cutting keep L K j) (hj : L.length ≤ j) : K = L.map (cutR keep) := by
  obtain ⟨hl, hk⟩ := h
  apply List.ext_getElem
  · simpa using hl
  · intro i h1 h2
    rw [hk i (by omega), if_pos (by omega), List.getElem_map]
theorem Cutting.step {keep : Int} {L K : List Fl} {j : Nat} (h : Cutting keep L K j) (hj : j < L.length) : Cutting keep L (K.set j (cutR keep L[j])) (j + 1) := by
  obtain ⟨hl, hk⟩ := h
  refine ⟨by rw [List.length_set]; exact hl, fun i hi => ?_⟩
  rw [List.getElem_set]
  by_cases e : j = i
  · subst e; rw [if_pos rfl, if_pos (by omega)]
  · rw [if_neg e, hk i hi]
    by_cases h1 : i < j
    · rw [if_pos h1, if_pos (by omega)]
    · rw [if_neg h1, if_neg (by omega)]

set_option maxRecDepth 100000 in
set_option maxHeartbeats 4000000 in
theorem rCrash_any (w : World) (base y : Nat) (q lf : Int) (A : Option Addr) (c : Nat) (L : List Fl) (h : Rk w base y q lf A c L) (hlen : L.length < 1000000) (hu : usedF L ≤ 1000000000) (keep : Int) (hk : -9223372036854775808 ≤ keep ∧ keep < 9223372036854775808) :
    Calls Tryd.prog 40 #[.pointer (some ⟨y, 0, none⟩), .int .i64 keep] w (RkOut w base y q A c L (-1) (L.map (cutR keep)) (.tuple #[])) := by
  have HD := Lib.hid h
  have c2 := h.c2
  have f1 := h.fr 1
  have c1 := h.c1
  rcases h.addr with rfl | ⟨h0, g, rfl, hgl, _⟩
  · clear h
    go_enter Tryd.func40, Tryd.ntmps40
    go_wp2_with fail
    refine wp_loop_rounds 1 ?_
    rw [rounds_succ]
    go_wp2_with fail
    go_returns
    exact ⟨rfl, ⟨A, c, HD.out.left _⟩, (TurnR.refl w).setCell (p := ⟨y, 1, none⟩) (.inl rfl) _⟩
  · obtain ⟨N, hN⟩ : ∃ N, N = L.length := ⟨_, rfl⟩
    have HL := Lib.hid hN
    rw [← hN] at hlen c2 h0
    have hgy := h.ne g rfl
    have HNB : Hid (∀ f ∈ L, f.n ≤ 1000000000) := Lib.hid fun f hf => by
      have : f.n ≤ usedF L := by unfold usedF; exact mem_le_sum _ _ (List.mem_map_of_mem hf)
      omega
    clear h hN f1 c1
    go_enter Tryd.func40, Tryd.ntmps40
    go_wp2_with fail
    go_loopg [4] N (fun gg v wr => ∃ (j : Nat) (K : List Fl), v = .int .i64 j ∧ j ≤ N ∧ N - j ≤ gg ∧ Hid (Rk wr base y q lf (some ⟨g, 0, none⟩) c K) ∧ Hid (Cutting keep L K j) ∧ Hid (TurnR y (Value.slice (some ⟨g, 0, none⟩) L.length c).ownBlock (L.length * 3) w wr))
    case atStart => exact ⟨0, L, rfl, by omega, by omega, HD, Lib.hid (Cutting.start _ _), Lib.hid (TurnR.refl _)⟩
    case round =>
      obtain ⟨j, K, rfl, hjN, hgg, hrk, hcut, htr⟩ := hrel
      have hKl : K.length = N := by rw [HL.out]; exact hcut.out.1
      have y2 := hrk.out.c2
      rw [hKl] at y2
      by_cases hlt : j < N
      · have t1 : decide (j < N) = true := decide_eq_true hlt
        have hjL : j < L.length := by rw [← HL.out]; exact hlt
        have hjK : j < K.length := by omega
        rcases hrk.out.addr with hnil | ⟨_, g1, hg1, hgl1, hcells1⟩
        · rw [hnil] at hjK; exact absurd hjK (Nat.not_lt_zero _)
        obtain rfl : g = g1 := by injection hg1 with hg1; injection hg1
        obtain ⟨k0, k1, k2⟩ := hcells1 j hjK
        have hKj : K[j] = L[j] := by rw [hcut.out.2 j hjL, if_neg (by omega)]
        have hrow := hrk.out.row _ (List.getElem_mem hjK)
        have hnb := HNB.out _ (List.getElem_mem hjL)
        have HKJ := Lib.hid hKj
        have HSTEP := Lib.hid (hcut.out.step hjL)
        rw [hKj] at k0 k1 k2 hrow
        obtain ⟨f, hf⟩ : ∃ f, f = L[j] := ⟨_, rfl⟩
        have HF := Lib.hid hf
        rw [← hf] at k0 k1 k2 hrow hnb
        have hsn := hrow.2.2.2.2.1
        have hnc := hrow.2.2.1
        obtain ⟨T, hT, hTn⟩ : ∃ T : Nat, T = keptN keep f.n f.safe ∧ T ≤ f.n := ⟨_, rfl, kept_le keep hsn⟩
        have hKe : (f.safe : Int) + min (max keep 0) ((f.n : Int) - f.safe) = (T : Int) := by
          rw [hT]
          unfold keptN
          omega
        have HKE := Lib.hid hKe
        have HT := Lib.hid hT
        have hTs : f.safe ≤ T := by rw [hT]; unfold keptN; omega
        obtain ⟨ob, hob⟩ : ∃ ob, ob = Obj.cells #[.string f.p, .slice f.A f.n f.c, .int .i64 f.safe] 80 := ⟨_, rfl⟩
        have hba := (Below.refl wr.heap.size wr).alloc (Nat.le_refl _) ob
        have hrk1 := hrk.out.below hba.drew
        have y2' := hrk1.c2
        rw [hKl] at y2'
        have hcell := hrk1.addr
        rcases hcell with hnil | ⟨_, g2, hg2, hgl2, hcells2⟩
        · rw [hnil] at hjK; exact absurd hjK (Nat.not_lt_zero _)
        obtain rfl : g = g2 := by injection hg2 with hg2; injection hg2
        obtain ⟨_, m1, _⟩ := hcells2 j hjK
        rw [hKj, ← hf] at m1
        have fr1 := hrk1.own.frozenAt (j * 3 + 1)
        have hok1 : FlOk (wr.alloc ob).drew ⟨f.p, f.A, T, f.c, f.b.take T, f.safe⟩ := by
          have hr2 := hrk1.row _ (List.getElem_mem hjK)
          rw [hKj, ← hf] at hr2
          exact ⟨hr2.1.first hTn, (fun x hx => hr2.2.1 x (List.mem_of_mem_take hx)), by show T ≤ f.c; omega, hr2.2.2.2.1, hTs, hr2.2.2.2.2.2⟩
        have hput1 := hrk1.put hjK (j := j * 3 + 1) (by omega) (.slice f.A T f.c) (f := ⟨f.p, f.A, T, f.c, f.b.take T, f.safe⟩) (by rw [hKj, ← hf]) (cellsF_setB K j hjK _ (by rw [hKj, ← hf]) (by rw [hKj, ← hf])) hok1
        obtain ⟨wb, hwb⟩ : ∃ wb, wb = (wr.alloc ob).drew.setCell ⟨g, j * 3 + 1, none⟩ (.slice f.A T f.c) := ⟨_, rfl⟩
        rw [← hwb] at hput1
        have hjK2 : j < (K.set j ⟨f.p, f.A, T, f.c, f.b.take T, f.safe⟩).length := by rw [List.length_set]; exact hjK
        have hget2 : (K.set j ⟨f.p, f.A, T, f.c, f.b.take T, f.safe⟩)[j] = ⟨f.p, f.A, T, f.c, f.b.take T, f.safe⟩ := by rw [List.getElem_set]; simp
        have y2b := hput1.1.c2
        rw [List.length_set, hKl] at y2b
        rcases hput1.1.addr with hnil | ⟨_, g3, hg3, hgl3, hcells3⟩
        · rw [hnil] at hjK2; exact absurd hjK2 (Nat.not_lt_zero _)
        obtain rfl : g = g3 := by injection hg3 with hg3; injection hg3
        obtain ⟨_, _, p2⟩ := hcells3 j hjK2
        rw [hget2] at p2
        have fr2 := hput1.1.own.frozenAt (j * 3 + 2)
        have hok2 : FlOk wb (cutR keep f) := by
          have hr3 := hput1.1.row _ (List.getElem_mem hjK2)
          rw [hget2] at hr3
          have e : cutR keep f = ⟨f.p, f.A, T, f.c, f.b.take T, T⟩ := by unfold cutR; rw [← hT]
          rw [e]
          exact ⟨hr3.1, hr3.2.1, hr3.2.2.1, hr3.2.2.2.1, Nat.le_refl _, hr3.2.2.2.2.2⟩
        have hput2 := hput1.1.put hjK2 (j := j * 3 + 2) (by rw [List.length_set]; omega) (.int .i64 T) (f := cutR keep f) (by rw [hget2]; rfl)
          (by
            have e : cutR keep f = ⟨f.p, f.A, T, f.c, f.b.take T, T⟩ := by unfold cutR; rw [← hT]
            rw [e]
            exact cellsF_setS _ j hjK2 ⟨f.p, f.A, T, f.c, f.b.take T, T⟩ (by rw [hget2]) (by rw [hget2]) (by rw [hget2]) (by rw [hget2])) hok2
        rw [List.set_set] at hput2
        have hgb : some g = (Value.slice (some ⟨g, 0, none⟩) L.length c).ownBlock := rfl
        have HP2 := Lib.hid hput2.1
        have HTR : Hid (TurnR y (Value.slice (some ⟨g, 0, none⟩) L.length c).ownBlock (L.length * 3) w (wb.setCell ⟨g, j * 3 + 2, none⟩ (.int .i64 T))) := Lib.hid (by
          have t2 := ((htr.out.trans (TurnR.of_below hba.drew)).setCell (p := ⟨g, j * 3 + 1, none⟩) (.inr (.inr ⟨rfl, by show j * 3 + 1 < L.length * 3; omega⟩)) (.slice f.A T f.c))
          rw [← hwb] at t2
          exact t2.setCell (p := ⟨g, j * 3 + 2, none⟩) (.inr (.inr ⟨rfl, by show j * 3 + 2 < L.length * 3; omega⟩)) _)
        have hg1n : g ≠ wr.heap.size := by omega
        have q0 : (wr.alloc ob).cell? ⟨wr.heap.size, 0, none⟩ = some (.string f.p) := by rw [cell_of_blk (IdiomRange_new wr ob |>.trans (by rw [hob]))]; rfl
        have q1 : (wr.alloc ob).cell? ⟨wr.heap.size, 1, none⟩ = some (.slice f.A f.n f.c) := by rw [cell_of_blk (IdiomRange_new wr ob |>.trans (by rw [hob]))]; rfl
        have q2 : (wr.alloc ob).cell? ⟨wr.heap.size, 2, none⟩ = some (.int .i64 f.safe) := by rw [cell_of_blk (IdiomRange_new wr ob |>.trans (by rw [hob]))]; rfl
        have q1' : (wr.alloc ob).drew.cell? ⟨wr.heap.size, 1, none⟩ = some (.slice f.A f.n f.c) := q1
        have HWB : Hid (wb = ((wr.setCell ⟨g, j * 3 + 1, none⟩ (.slice f.A T f.c)).alloc ob).drew) := Lib.hid (hwb.trans (congrArg World.drew (World.setCell_alloc_past (w := wr) ob g (j * 3 + 1) (.slice f.A T f.c) hgl1)))
        subst hob
        clear hKe hT hput1 hput2 hok1 hok2 hcells1 hcells2 hcells3 hrk1 hba hwb hf hKj hrow hgb hget2
        go_wp2_with fail
        rw [HKE.out]
        go_region
        rw [← HWB.out]
        go_wp2_with fail
        go_roundg (N - (j + 1))
        case measure => omega
        case rel => exact ⟨j + 1, _, by go_num, by omega, by omega, HP2, by rw [HF.out]; exact HSTEP, HTR⟩
      · have t1 : decide (j < N) = false := decide_eq_false hlt
        have f1 := hrk.out.fr 1
        have c1 := hrk.out.c1
        have HE := Lib.hid (hcut.out.done (by have := HL.out; omega))
        go_wp2_with fail
        go_returns
        have hl := hrk.out.left (-1)
        rw [HE.out] at hl
        exact ⟨rfl, ⟨_, _, hl⟩, htr.out.setCell (p := ⟨y, 1, none⟩) (.inl rfl) _⟩
end Go.Proofs.YtekdcnlbdgikoaaDoor

/- Joined texts: RfS. Each has its own head line. No condition beyond those that its theorems state. -/
import Derived.Test.YtekdcnlbdgikoaaDoorJ35
set_option linter.unusedVariables false

/- The reference's disk: what is stored in place: Sync, Fuse, Crash. -/
namespace Go.Proofs.YtekdcnlbdgikoaaDoor
open Go.RowKit

theorem cellsF_setB : ∀ (L : List Fl) (k : Nat) (hk : k < L.length) (g : Fl), g.p = L[k].p → g.safe = L[k].safe → cellsF (L.set k g) = (cellsF L).set (k * 3 + 1) (.slice g.A g.n g.c)
  | [], k, hk, _, _, _ => absurd hk (Nat.not_lt_zero _)
  | f :: r, 0, _, g, hp, hs => by
    rw [List.set_cons_zero, cellsF_cons, cellsF_cons]
    have hp : g.p = f.p := hp
    have hs : g.safe = f.safe := hs
    unfold Fl.cells
    rw [hp, hs]
    rfl
  | f :: r, k + 1, hk, g, hp, hs => by
    have ih := cellsF_setB r k (by simpa using hk) g hp hs
    rw [List.set_cons_succ, cellsF_cons, cellsF_cons, ih, show (k + 1) * 3 + 1 = (k * 3 + 1) + 3 from by omega]
    rfl
theorem cellsF_setS : ∀ (L : List Fl) (k : Nat) (hk : k < L.length) (g : Fl), g.p = L[k].p → g.A = L[k].A → g.n = L[k].n → g.c = L[k].c → cellsF (L.set k g) = (cellsF L).set (k * 3 + 2) (.int .i64 g.safe)
  | [], k, hk, _, _, _, _, _ => absurd hk (Nat.not_lt_zero _)
  | f :: r, 0, _, g, hp, h1, h2, h3 => by
    rw [List.set_cons_zero, cellsF_cons, cellsF_cons]
    have hp : g.p = f.p := hp
    have h1 : g.A = f.A := h1
    have h2 : g.n = f.n := h2
    have h3 : g.c = f.c := h3
    unfold Fl.cells
    rw [hp, h1, h2, h3]
    rfl
  | f :: r, k + 1, hk, g, hp, h1, h2, h3 => by
    have ih := cellsF_setS r k (by simpa using hk) g hp h1 h2 h3
    rw [List.set_cons_succ, cellsF_cons, cellsF_cons, ih, show (k + 1) * 3 + 2 = (k * 3 + 2) + 3 from by omega]
    rfl
theorem set_paths {L : List Fl} {k : Nat} (hk : k < L.length) {g : Fl} (hp : g.p = L[k].p) : (L.set k g).map Fl.p = L.map Fl.p := by
  rw [List.map_set, hp]
  apply List.ext_getElem?
  intro i
  rw [List.getElem?_set]
  split
  · rename_i h
    subst h
    rw [if_pos (by simpa using hk), List.getElem?_map, List.getElem?_eq_getElem hk]
    rfl
  · rfl
theorem sort_paths {L K : List Fl} (h : L.map Fl.p = K.map Fl.p) (hs : SortF L) : SortF K := by
  have h1 : (L.map Fl.p).Pairwise fun a b => befF a b = true := List.pairwise_map.2 hs
  rw [h] at h1
  exact List.pairwise_map.1 h1
theorem set_map {L : List Fl} (hs : SortF L) {k : Nat} (hk : k < L.length) {g : Fl} (hp : g.p = L[k].p) : L.set k g = L.map fun x => if x.p = g.p then g else x := by
  apply List.ext_getElem
  · simp
  · intro i h1 h2
    rw [List.getElem_set, List.getElem_map]
    have hi : i < L.length := by simpa using h1
    by_cases e : k = i
    · subst e
      rw [if_pos rfl, if_pos hp.symm]
    · rw [if_neg e, if_neg]
      intro h
      rcases Nat.lt_trichotomy k i with h3 | h3 | h3
      · exact befF_ne (List.pairwise_iff_getElem.1 hs k i hk hi h3) (hp.symm.trans h.symm)
      · exact e h3
      · exact befF_ne (List.pairwise_iff_getElem.1 hs i k hi hk h3) (h.trans hp)
theorem abs_set_at {L : List Fl} (hs : SortF L) {k : Nat} (hk : k < L.length) {g : Fl} (hp : g.p = L[k].p) : absF (L.set k g) = setM (absF L) g.abs := by
  rw [set_map hs hk hp, abs_set]
section
variable {w : World} {base y g c : Nat} {q lf : Int} {L : List Fl}
/-- One cell of the row of files is stored. -/
theorem Rk.put (h : Rk w base y q lf (some ⟨g, 0, none⟩) c L) {k j : Nat} (hk : k < L.length) (hj : j < L.length * 3) (u : Value) {f : Fl} (hp : f.p = L[k].p) (hc : cellsF (L.set k f) = (cellsF L).set j u) (hf : FlOk w f) :
    Rk (w.setCell ⟨g, j, none⟩ u) base y q lf (some ⟨g, 0, none⟩) c (L.set k f) ∧ TurnR y (Value.slice (some ⟨g, 0, none⟩) L.length c).ownBlock (L.length * 3) w (w.setCell ⟨g, j, none⟩ u) := by
  have hne : g ≠ y := h.ne g rfl
  have ht : TurnR y (Value.slice (some ⟨g, 0, none⟩) L.length c).ownBlock (L.length * 3) w (w.setCell ⟨g, j, none⟩ u) := (TurnR.refl w).setCell (p := ⟨g, j, none⟩) (.inr (.inr ⟨rfl, hj⟩)) _
  have hlen : (L.set k f).length = L.length := List.length_set
  refine ⟨⟨?_, ?_, fun x hx => ?_, sort_paths (set_paths hk hp).symm h.sort, h.hy, by simpa [World.setCell] using h.hs⟩, ht⟩
  · rw [hlen]
    exact (Below.heap_setCell _ _ _ _ (fun e => hne e.symm)).trans h.blk
  · rw [hlen, hc]
    exact (h.own.stored j u).1
  · refine FlOk.turnR ?_ h ht
    rcases List.mem_or_eq_of_mem_set hx with hx | rfl
    · exact h.row x hx
    · exact hf
end

set_option maxHeartbeats 1000000 in
theorem rFuse_any (w : World) (base y : Nat) (q lf : Int) (A : Option Addr) (c : Nat) (L : List Fl) (h : Rk w base y q lf A c L) (cl : Int) :
    Calls Tryd.prog 44 #[.pointer (some ⟨y, 0, none⟩), .int .i64 cl] w (RkOut w base y q A c L (fuseN cl) L (.tuple #[])) := by
  have f1 := h.fr 1
  have c1 := h.c1
  have HD := Lib.hid h
  clear h
  go_enter Tryd.func44, Tryd.ntmps44
  go_wp2_with fail
  go_returns
  exact ⟨rfl, ⟨A, c, HD.out.left _⟩, (TurnR.refl w).setCell (p := ⟨y, 1, none⟩) (.inl rfl) _⟩

set_option maxRecDepth 100000 in
set_option maxHeartbeats 2000000 in
theorem rSync_any (w : World) (base y : Nat) (q lf : Int) (A : Option Addr) (c : Nat) (L : List Fl) (h : Rk w base y q lf A c L) (hl : -9223372036854775808 ≤ lf ∧ lf < 9223372036854775808) (hlen : L.length < 1000000) (p : ByteArray) (er : Int) (M' : List Mf) (hc : syncM lf (absF L) p = (er, M')) :
    Calls Tryd.prog 37 #[.pointer (some ⟨y, 0, none⟩), .string p] w fun e w' => ∃ L', absF L' = M' ∧ RkOut w base y q A c L (burnL lf) L' (.int .i64 er) e w' := by
  have HD := Lib.hid h
  unfold syncM at hc
  by_cases h0 : lf = 0
  · rw [if_pos h0] at hc
    injection hc with h1 h2
    have HR := Lib.hid (And.intro h1 h2)
    have HL := Lib.hid (show decide (lf = 0) = true from decide_eq_true h0)
    clear h0 h1 h2 h
    go_enter Tryd.func37, Tryd.ntmps37
    go_wp2_with fail
    refine (rburnt_any _ _ _ _ _ _ _ _ HD.out hl).mono ?_; rintro e w1 ⟨rfl, hd1, ht1, _⟩
    rw [HL.out]
    have HD1 := Lib.hid hd1; have HT1 := Lib.hid ht1
    clear hd1 ht1
    go_wp2_with fail
    go_ret
    obtain ⟨rfl, rfl⟩ := HR.out
    exact ⟨L, rfl, rfl, ⟨A, c, HD1.out⟩, HT1.out⟩
  · rw [if_neg h0, abs_find] at hc
    have HL := Lib.hid (show decide (lf = 0) = false from decide_eq_false h0)
    clear h0
    cases hf : findF L p with
    | none =>
      rw [hf] at hc
      injection hc with h1 h2
      have HR := Lib.hid (And.intro h1 h2)
      have HN := Lib.hid (at_none hf)
      clear h1 h2 hf h
      go_enter Tryd.func37, Tryd.ntmps37
      go_wp2_with fail
      refine (rburnt_any _ _ _ _ _ _ _ _ HD.out hl).mono ?_; rintro e w1 ⟨rfl, hd1, ht1, _⟩
      rw [HL.out]
      have HD1 := Lib.hid hd1; have HT1 := Lib.hid ht1
      clear hd1 ht1
      go_wp2_with fail
      refine (at_any w1 base y q _ A c L HD1.out p hlen).mono ?_; rintro e w' ⟨rfl, hw'⟩
      rw [hw', HN.out]
      clear hw' w'
      go_wp2_with fail
      go_ret
      obtain ⟨rfl, rfl⟩ := HR.out
      exact ⟨L, rfl, rfl, ⟨A, c, HD1.out⟩, HT1.out⟩
    | some f =>
      rw [hf] at hc
      injection hc with h1 h2
      have HR := Lib.hid (And.intro h1 h2)
      obtain ⟨k, hk, hkf, hfp, hat⟩ := at_some h.sort hf
      rcases h.addr with rfl | ⟨h0, g, rfl, hgl, hcells⟩
      · exact absurd hk (Nat.not_lt_zero _)
      have HN := Lib.hid hat
      have HKF := Lib.hid hkf
      have HK := Lib.hid hk
      have k0 : decide ((k : Int) < 0) = false := decide_eq_false (by omega)
      obtain ⟨N, hN⟩ : ∃ N, N = L.length := ⟨_, rfl⟩
      have HNL := Lib.hid hN
      have hkN : k < N := by omega
      clear h1 h2 hf h hcells hat hkf hN
      go_enter Tryd.func37, Tryd.ntmps37
      go_wp2_with fail
      refine (rburnt_any _ _ _ _ _ _ _ _ HD.out hl).mono ?_; rintro e w1 ⟨rfl, hd1, ht1, _⟩
      rw [HL.out]
      have HD1 := Lib.hid hd1; have HT1 := Lib.hid ht1
      rcases hd1.addr with rfl | ⟨_, g1, hg1, hgl1, hcells1⟩
      · exact absurd HK.out (Nat.not_lt_zero _)
      obtain rfl : g = g1 := by injection hg1 with hg1; injection hg1
      obtain ⟨c0, c1, c2⟩ := hcells1 k HK.out
      rw [HKF.out] at c0 c1 c2
      have y2 := hd1.c2
      rw [← HNL.out] at y2
      have fr := hd1.own.frozenAt (k * 3 + 2)
      clear hd1 ht1 hg1 hcells1
      go_wp2_with fail
      refine (at_any w1 base y q _ _ c L HD1.out p hlen).mono ?_; rintro e w' ⟨rfl, hw'⟩
      rw [hw', HN.out]
      clear hw' w'
      have c1' : w1.drew.cell? ⟨g, k * 3 + 1, none⟩ = some (.slice f.A f.n f.c) := c1
      have c2' : w1.drew.cell? ⟨g, k * 3 + 2, none⟩ = some (.int .i64 f.safe) := c2
      have y2' : w1.drew.cell? ⟨y, 2, none⟩ = some (.slice (some ⟨g, 0, none⟩) N c) := y2
      have fr' : w1.drew.frozen? ⟨g, k * 3 + 2, none⟩ = false := fr
      go_wp2_with fail
      go_region
      go_wp2_with fail
      go_ret
      obtain ⟨rfl, rfl⟩ := HR.out
      have hb := Below.refl w1.heap.size w1
      have hd2 := HD1.out.below hb.drew
      have hrow := hd2.row f (by rw [← HKF.out]; exact List.getElem_mem HK.out)
      have hput := hd2.put HK.out (j := k * 3 + 2) (by have := HK.out; omega) (.int .i64 f.n) (f := ⟨f.p, f.A, f.n, f.c, f.b, f.n⟩) (by rw [HKF.out]) (by
        refine cellsF_setS L k HK.out ⟨f.p, f.A, f.n, f.c, f.b, f.n⟩ ?_ ?_ ?_ ?_ <;> rw [HKF.out]) ⟨hrow.1, hrow.2.1, hrow.2.2.1, hrow.2.2.2.1, Nat.le_refl _, hrow.2.2.2.2.2⟩
      refine ⟨_, ?_, rfl, ⟨_, _, hput.1⟩, (HT1.out.trans (TurnR.of_below hb.drew)).trans hput.2⟩
      rw [abs_set_at hd2.sort HK.out (by rw [HKF.out]), hfp]
      show setM (absF L) (Mf.mk p f.b f.n) = setM (absF L) (Mf.mk p f.b f.b.length)
      rw [hrow.1.len]
end Go.Proofs.YtekdcnlbdgikoaaDoor

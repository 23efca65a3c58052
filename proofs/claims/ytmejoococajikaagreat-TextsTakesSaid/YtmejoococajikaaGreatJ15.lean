/- Joined texts: Diffs. Each has its own head line. No condition beyond those that its theorems state. -/
import Derived.Test.YtmejoococajikaaGreatJ14
set_option linter.unusedVariables false

/- delta.diffs, number. -/
namespace Go.Proofs.YtmejoococajikaaGreat
open Go.RowKit

def dAt (l : List Int) (j : Nat) : Int := l.getD (j + 1) 0 - l.getD j 0
def absI (x : Int) : Int := if x < 0 then -x else x
/-- By how much the numbers differ, without a sign. -/
def dsz (l : List Int) (m : Nat) : List Int := (List.range m).map fun j => absI (dAt l j)
def okAt (l : List Int) (j : Nat) : Bool := decide (absI (dAt l j) < 9223372036854775808) && (decide (dAt l j = 0) || decide (dAt l j < 0) == decide (dAt l 0 < 0))
def okD (l : List Int) (m : Nat) : Bool := (List.range m).all (okAt l)
def sameD (l : List Int) (m : Nat) : Bool := (List.range m).all fun j => decide (absI (dAt l j) = absI (dAt l 0))
theorem dsz_len (l : List Int) (m : Nat) : (dsz l m).length = m := by simp [dsz]
theorem dsz_snoc (l : List Int) (m : Nat) : dsz l (m + 1) = dsz l m ++ [absI (dAt l m)] := by simp [dsz, List.range_succ]
theorem okD_snoc (l : List Int) (m : Nat) : okD l (m + 1) = (okD l m && okAt l m) := by simp [okD, List.range_succ]
theorem okD_bad (l : List Int) (m j : Nat) (hj : j < m) (h : okAt l j = false) : okD l m = false := by
  rw [okD, List.all_eq_false]
  exact ⟨j, List.mem_range.2 hj, by simp [h]⟩
theorem sameD_snoc (l : List Int) (m : Nat) : sameD l (m + 1) = (sameD l m && decide (absI (dAt l m) = absI (dAt l 0))) := by simp [sameD, List.range_succ]
theorem diffR_eq (a b : Int) : diffR a b = if absI (b - a) ≥ 9223372036854775808 then (0, false, false) else (absI (b - a), decide (b - a < 0), true) := by
  unfold diffR absI
  by_cases h : b < a
  · rw [if_pos h, if_pos (by omega : b - a < 0), show -(b - a) = a - b from by omega, decide_eq_true h, decide_eq_true (by omega : b - a < 0)]
  · rw [if_neg h, if_neg (by omega : ¬ b - a < 0), decide_eq_false h, decide_eq_false (by omega : ¬ b - a < 0)]

def diffsR (l : List Int) : Int × Bool × List Int × Bool × Bool :=
  if okD l (l.length - 1) then (absI (dAt l 0), decide (dAt l 0 < 0), (dsz l (l.length - 1)).drop 1, sameD l (l.length - 1), true) else (0, false, [], false, false)
def DiffsOut (w : World) (u : Int) (f : Bool) (L : List Int) (s ok : Bool) (e : Ending) (w' : World) : Prop :=
  ∃ G n c, e = .returned (.tuple #[.agg #[.int .u64 u, .bool f], .slice G n c, .bool s, .bool ok]) ∧ Sl w' .u64 G n c L ∧ Below w.heap.size w w'
/-- Between two rounds. -/
def DiffsW (w wr : World) (l : List Int) (j : Nat) (v : Value) : Prop :=
  okD l j = true ∧ wr.ownsRow (w.heap.size + 1) 109 1 v j ((dsz l j).map (Value.int .u64)) ∧ Below w.heap.size w wr ∧
    Blk wr w.heap.size 145 (if j = 0 then #[.int .u64 0, .bool false] else #[.int .u64 (absI (dAt l 0)), .bool (decide (dAt l 0 < 0))])

theorem diffs_grown {w W w3 : World} {B : Nat} {t e : TypeId} {cs : Array Value} {v : Value} {m : Nat} {xs : List Value} (hB : B = w.heap.size) (hb : Below B w W) (hk : Blk W B t cs) (ho : W.ownsRow (B + 1) e 1 v m xs) {o : Obj} (hg : (W.alloc o).grownBy w3 v.ownBlock) :
    Below B w w3 ∧ Blk w3 B t cs := by
  subst hB
  have hz := hb.size
  refine ⟨(hb.alloc (by omega) o).grown hg (by simp; omega) (fun g hg => by have := (ho.lt g hg).1; omega), (hk.alloc o).grown hg (fun h => ?_)⟩
  have := (ho.lt _ h.symm).1
  omega
theorem ri_one_at {w : World} {k : IntKind} {x : Int} {t : TypeId} {g : Nat} (h : g = w.heap.size) : Ri (w.alloc (.cells #[.int k x] t)) k (some ⟨g, 0, none⟩) 1 [x] := by subst h; exact Rd.one _ _ _
theorem absI_zero (d : Int) : absI d = 0 ↔ d = 0 := by unfold absI; split <;> omega

set_option maxRecDepth 100000 in
set_option maxHeartbeats 4000000 in
theorem diffs_any (w : World) (A : Option Addr) (n cap : Nat) (l : List Int) (hr : Ri w .i64 A n l) (hu : I64 l) (hc : n ≤ cap) (_hm : cap ≤ 9223372036854775807) (hn : n ≤ 1000000) (h2 : 2 ≤ n) (u : Int) (f : Bool) (L : List Int) (s ok : Bool) (hl : diffsR l = (u, f, L, s, ok)) :
    Calls Tryz.prog 124 #[.slice A n cap] w (DiffsOut w u f L s ok) := by
  have HR := Lib.hid hr; have HN := Lib.hid hr.len; have HU := Lib.hid hu; have HL := Lib.hid hl
  clear hr hu hl
  obtain ⟨bb, oo, rfl, hbl, hcells⟩ := HR.out.all (by omega)
  have HC := Lib.hid hcells; clear hcells
  have hcap1 : ¬ cap = 1 := by omega
  go_enter Tryz.func124, Tryz.ntmps124
  go_wp2_with fail
  go_loopw [3, 4, 15] (fun v sm i wr => ∃ j : Nat, j ≤ n - 1 ∧ i = .int .i64 j ∧ sm = .bool (sameD l j) ∧ Hid (DiffsW w wr l j v)) (fun _ _ i _ => n - (intOf i).toNat)
  case atStart =>
    refine ⟨0, by omega, rfl, rfl, rfl, ⟨by simp [dsz], .inl ⟨rfl, rfl⟩⟩, (Below.refl _ _).alloc (Nat.le_refl _) _, ?_⟩
    exact Blk.new w _ _
  case round =>
    obtain ⟨j, hj, rfl, rfl, hin⟩ := hrel
    by_cases hlt : j < n - 1
    · obtain ⟨hok, ho, hb, hk⟩ := hin.out
      have g1 := (hb.cell (p := ⟨bb, oo + j, none⟩) hbl).trans (HC.out j (by omega))
      have g2 := (hb.cell (p := ⟨bb, oo + (j + 1), none⟩) hbl).trans (HC.out (j + 1) (by omega))
      rw [show oo + (j + 1) = oo + 1 + j from by omega] at g2
      have ha := getD_i64x HU.out j; have hb1 := getD_i64x HU.out (j + 1)
      obtain ⟨d, hd⟩ : ∃ d, d = dAt l j := ⟨_, rfl⟩
      have hdd : l.getD (j + 1) 0 - l.getD j 0 = d := by rw [hd]; rfl
      have hdr := diffR_eq (l.getD j 0) (l.getD (j + 1) 0)
      rw [hdd] at hdr
      generalize l.getD j 0 = a at *
      generalize l.getD (j + 1) 0 = b at *
      have HOK := Lib.hid hok; have HO := Lib.hid ho; have HB := Lib.hid hb; have HK := Lib.hid hk; have HD := Lib.hid hd
      clear hok ho hk hin hd hdd hb
      by_cases hbig : absI d ≥ 9223372036854775808
      · rw [if_pos hbig] at hdr
        have HDR := Lib.hid hdr
        have hbad := okD_bad l (n - 1) j hlt (by unfold okAt; rw [← HD.out, decide_eq_false (by omega)]; rfl)
        have h := HL.out
        unfold diffsR at h
        rw [HN.out, hbad, if_neg (by decide)] at h
        injection h with h1 h; injection h with h2 h; injection h with h3 h; injection h with h4 h5
        subst h1 h2 h3 h4 h5
        clear hbad hdr hbig
        rcases Nat.eq_zero_or_pos j with rfl | hj0
        · rw [Nat.add_zero] at g1 g2
          go_wp2_with fail
          refine (Diff_any _ a b ha hb1 0 false false HDR.out).mono ?_; rintro e w2 ⟨rfl, hb2⟩
          have hk2 : Blk w2 w.heap.size 145 #[.int .u64 0, .bool false] := by have h := (HK.out.below_ hb2); simpa using h
          have hlt2 := hk2.lt
          have c0 : w2.cell? ⟨w.heap.size, 0, none⟩ = some (.int .u64 0) := (hk2.cell 0).trans rfl
          have c1 : w2.cell? ⟨w.heap.size, 1, none⟩ = some (.bool false) := (hk2.cell 1).trans rfl
          have f0' : w2.frozen? ⟨w.heap.size, 0, none⟩ = false := hk2.frozen _
          have f1' : w2.frozen? ⟨w.heap.size, 1, none⟩ = false := hk2.frozen _
          have hne2 : ¬ w2.heap.size = w.heap.size := by omega
          have hne3 : ¬ w.heap.size = w2.heap.size := by omega
          have HB2 := Lib.hid (on HB.out hb2)
          have HO2 := Lib.hid (own_below HO.out hb2)
          have hkF := (((((hk2.set_ 0 (.int .u64 0)).set_ 1 (.bool false)).set_ 0 (.int .u64 0)).set_ 1 (.bool false)).alloc (.cells #[.int .u64 0, .bool false] 145))
          have r0 : _ = some (Value.int .u64 0) := hkF.cell 0
          have r1 : _ = some (Value.bool false) := hkF.cell 1
          go_wp2_with fail
          (try simp only [Exit.inBlock, Exit.then])
          refine bodyPost_ret (by simp [results, Tryz.results124, go_sem, r0, r1]; try rfl) rfl ?_
          exact ⟨none, 0, 0, rfl, Sl.nil _ _, ((((HB2.out.setCell (Nat.le_refl _) _).setCell (Nat.le_refl _) _).setCell (Nat.le_refl _) _).setCell (Nat.le_refl _) _).alloc (by simpa using HB2.out.size) _⟩
        · go_wp2_with fail
          refine (Diff_any _ a b ha hb1 0 false false HDR.out).mono ?_; rintro e w2 ⟨rfl, hb2⟩
          have hk2 : Blk w2 w.heap.size 145 #[.int .u64 (absI (dAt l 0)), .bool (decide (dAt l 0 < 0))] := by have h := (HK.out.below_ hb2); rwa [if_neg (by omega)] at h
          have hlt2 := hk2.lt
          have c0 : w2.cell? ⟨w.heap.size, 0, none⟩ = some (.int .u64 (absI (dAt l 0))) := (hk2.cell 0).trans rfl
          have c1 : w2.cell? ⟨w.heap.size, 1, none⟩ = some (.bool (decide (dAt l 0 < 0))) := (hk2.cell 1).trans rfl
          have f0' : w2.frozen? ⟨w.heap.size, 0, none⟩ = false := hk2.frozen _
          have f1' : w2.frozen? ⟨w.heap.size, 1, none⟩ = false := hk2.frozen _
          have hne2 : ¬ w2.heap.size = w.heap.size := by omega
          have hne3 : ¬ w.heap.size = w2.heap.size := by omega
          have HB2 := Lib.hid (on HB.out hb2)
          have HO2 := Lib.hid (own_below HO.out hb2)
          have hkF := (((hk2.set_ 0 (.int .u64 0)).set_ 1 (.bool false)).alloc (.cells #[.int .u64 0, .bool false] 145))
          have r0 : _ = some (Value.int .u64 0) := hkF.cell 0
          have r1 : _ = some (Value.bool false) := hkF.cell 1
          go_wp2_with fail
          (try simp only [Exit.inBlock, Exit.then])
          refine bodyPost_ret (by simp [results, Tryz.results124, go_sem, r0, r1]; try rfl) rfl ?_
          exact ⟨none, 0, 0, rfl, Sl.nil _ _, ((HB2.out.setCell (Nat.le_refl _) _).setCell (Nat.le_refl _) _).alloc (by simpa using HB2.out.size) _⟩
      · rw [if_neg hbig] at hdr
        have HDR := Lib.hid hdr
        have hs0 : 0 ≤ absI d := by unfold absI; split <;> omega
        have hs1 : absI d < 9223372036854775808 := by omega
        rcases Nat.eq_zero_or_pos j with rfl | hj0
        · rw [Nat.add_zero] at g1 g2
          go_wp2_with fail
          refine (Diff_any _ a b ha hb1 (absI d) (decide (d < 0)) true HDR.out).mono ?_; rintro e w2 ⟨rfl, hb2⟩
          have hk2 : Blk w2 w.heap.size 145 #[.int .u64 0, .bool false] := by have h := (HK.out.below_ hb2); simpa using h
          have hlt2 := hk2.lt
          have c0 : w2.cell? ⟨w.heap.size, 0, none⟩ = some (.int .u64 0) := (hk2.cell 0).trans rfl
          have c1 : w2.cell? ⟨w.heap.size, 1, none⟩ = some (.bool false) := (hk2.cell 1).trans rfl
          have f0' : w2.frozen? ⟨w.heap.size, 0, none⟩ = false := hk2.frozen _
          have f1' : w2.frozen? ⟨w.heap.size, 1, none⟩ = false := hk2.frozen _
          have hne2 : ¬ w2.heap.size = w.heap.size := by omega
          have hne3 : ¬ w.heap.size = w2.heap.size := by omega
          have HB2 := Lib.hid (on HB.out hb2)
          have HO2 := Lib.hid (own_below HO.out hb2)
          clear hbig hdr
          generalize hfl : decide (d < 0) = fl at *
          generalize hsz : absI d = sz at *
          have HSZ := Lib.hid hsz; have HFL := Lib.hid hfl
          have hsd0 : sameD l 0 = true := rfl
          clear hsz hfl
          go_wp2_with (at_builtin; refine wpList_u64 _ rfl _ _ rfl (w.heap.size + 1) _ 0 _ rfl (own_below (ownsRow_setCell_below (ownsRow_setCell_below HO2.out (by simp) _) (by simp) _) (((Below.refl _ _).alloc (Nat.le_refl _) _).alloc (by simp) _)) _ 1 1 [_] rfl (ri_one_at (by simp)) (by omega) (by simp; omega) ?_; intro G c w3 hown hgr hcc)
          all_goals
            have HOWN := Lib.hid hown; clear hown
            have hnew := diffs_grown rfl (((HB2.out.setCell (Nat.le_refl _) _).setCell (Nat.le_refl _) _).alloc (by simpa using HB2.out.size) _) (((hk2.set_ 0 (.int .u64 sz)).set_ 1 (.bool fl)).alloc _) (own_below (ownsRow_setCell_below (ownsRow_setCell_below HO2.out (by simp) _) (by simp) _) ((Below.refl _ _).alloc (Nat.le_refl _) _)) hgr
            have HNEW := Lib.hid hnew; clear hnew
            go_wp2_with fail
            go_roundw
            case rel =>
              refine ⟨1, by omega, by go_num, by rw [sameD_snoc]; simp [sameD], ?_, ?_, HNEW.out.1, ?_⟩
              · rw [okD_snoc]
                unfold okAt
                rw [← HD.out, HSZ.out, decide_eq_true hs1]
                simp [okD]
              · have h := HOWN.out
                rw [← HSZ.out, HD.out, ← dsz_snoc] at h
                exact h
              · have h := HNEW.out.2
                rw [if_neg (by omega), ← HD.out, HSZ.out, HFL.out]
                exact h
            case measure => simp [intOf] <;> omega
        · have hokn := okD_snoc l j
          have hsm := sameD_snoc l j
          have hbad := okD_bad l (n - 1) j hlt
          unfold okAt at hokn hbad
          rw [HOK.out, Bool.true_and] at hokn
          rw [← HD.out] at hokn hsm hbad
          have hT0 : 0 ≤ absI (dAt l 0) := by unfold absI; split <;> omega
          go_wp2_with fail
          refine (Diff_any _ a b ha hb1 (absI d) (decide (d < 0)) true HDR.out).mono ?_; rintro e w2 ⟨rfl, hb2⟩
          have hk2 : Blk w2 w.heap.size 145 #[.int .u64 (absI (dAt l 0)), .bool (decide (dAt l 0 < 0))] := by have h := (HK.out.below_ hb2); rwa [if_neg (by omega)] at h
          have hlt2 := hk2.lt
          have c0 : w2.cell? ⟨w.heap.size, 0, none⟩ = some (.int .u64 (absI (dAt l 0))) := (hk2.cell 0).trans rfl
          have c1 : w2.cell? ⟨w.heap.size, 1, none⟩ = some (.bool (decide (dAt l 0 < 0))) := (hk2.cell 1).trans rfl
          have f0' : w2.frozen? ⟨w.heap.size, 0, none⟩ = false := hk2.frozen _
          have f1' : w2.frozen? ⟨w.heap.size, 1, none⟩ = false := hk2.frozen _
          have hne2 : ¬ w2.heap.size = w.heap.size := by omega
          have hne3 : ¬ w.heap.size = w2.heap.size := by omega
          have HB2 := Lib.hid (on HB.out hb2)
          have HO2 := Lib.hid (own_below HO.out hb2)
          generalize hs0e : absI (dAt l 0) = s0 at *
          generalize hf0e : decide (dAt l 0 < 0) = f0 at *
          generalize hfl : decide (d < 0) = fl at *
          have hz0 := absI_zero d
          have hd0 : d = 0 → fl = false := fun h => by rw [← hfl]; simp; omega
          generalize hsz : absI d = sz at *
          have HSM := Lib.hid hsm; have HOKN := Lib.hid hokn; have HBAD := Lib.hid hbad
          have HDA : Hid (dAt l j = d) := HD.out.symm
          have HSZ := Lib.hid hsz; have HS0 := Lib.hid hs0e; have HF0 := Lib.hid hf0e
          clear hsm hokn hbad hdr hbig hs0e hf0e hfl hsz HK HO HB HU HDR
          by_cases hbd : ¬ sz = 0 ∧ ¬ fl = f0
          · obtain ⟨hb3, hb4⟩ := hbd
            have hbad := HBAD.out (by rw [decide_eq_true hs1, decide_eq_false (fun h => hb3 (hz0.2 h))]; cases fl <;> cases f0 <;> simp at hb4 ⊢)
            have h := HL.out
            unfold diffsR at h
            rw [HN.out, hbad, if_neg (by decide)] at h
            injection h with h1 h; injection h with h2 h; injection h with h3 h; injection h with h4 h5
            subst h1 h2 h3 h4 h5
            have hpos : 0 < sz := by omega
            have hkF := (((hk2.set_ 0 (.int .u64 0)).set_ 1 (.bool false)).alloc (.cells #[.int .u64 sz, .bool fl] 145))
            have r0 : _ = some (Value.int .u64 0) := hkF.cell 0
            have r1 : _ = some (Value.bool false) := hkF.cell 1
            clear hbad HBAD HOKN hz0 hd0 hb3
            cases fl <;> cases f0
            · exact absurd rfl hb4
            · clear hb4
              go_wp2_with fail
              (try simp only [Exit.inBlock, Exit.then])
              refine bodyPost_ret (by simp [results, Tryz.results124, go_sem, r0, r1]; try rfl) rfl ?_
              exact ⟨none, 0, 0, rfl, Sl.nil _ _, ((HB2.out.setCell (Nat.le_refl _) _).setCell (Nat.le_refl _) _).alloc (by simpa using HB2.out.size) _⟩
            · clear hb4
              go_wp2_with fail
              (try simp only [Exit.inBlock, Exit.then])
              refine bodyPost_ret (by simp [results, Tryz.results124, go_sem, r0, r1]; try rfl) rfl ?_
              exact ⟨none, 0, 0, rfl, Sl.nil _ _, ((HB2.out.setCell (Nat.le_refl _) _).setCell (Nat.le_refl _) _).alloc (by simpa using HB2.out.size) _⟩
            · exact absurd rfl hb4
          · have hok1 : Hid (okD l (j + 1) = true) := by
              show okD l (j + 1) = true
              rw [HOKN.out, decide_eq_true hs1]
              by_cases h : sz = 0
              · rw [decide_eq_true (hz0.1 h)]; rfl
              · have : fl = f0 := by
                  cases fl <;> cases f0 <;> first | rfl | (exfalso; exact hbd ⟨h, by decide⟩)
                rw [this]; simp
            have hcase : (sz = 0 ∧ fl = false) ∨ (0 < sz ∧ fl = f0) := by
              by_cases h : sz = 0
              · exact .inl ⟨h, hd0 (hz0.1 h)⟩
              · refine .inr ⟨by omega, ?_⟩
                cases fl <;> cases f0 <;> first | rfl | (exfalso; exact hbd ⟨h, by decide⟩)
            clear HBAD HOKN hz0 hd0 hbd
            have hsj : ∃ sj, sj = sameD l j := ⟨_, rfl⟩
            obtain ⟨sj, hsj⟩ := hsj
            rw [← hsj]
            have HSJ := Lib.hid hsj
            clear hsj
            have hsplit : (sz = 0 ∧ fl = false ∧ s0 = 0) ∨ (sz = 0 ∧ fl = false ∧ 0 < s0 ∧ ¬ s0 = 0) ∨ (0 < sz ∧ fl = f0 ∧ s0 = sz) ∨ (0 < sz ∧ fl = f0 ∧ ¬ s0 = sz ∧ ¬ sz = s0 ∧ ¬ sz = 0) := by
              rcases hcase with ⟨h1, h2⟩ | ⟨h1, h2⟩
              · by_cases h : s0 = 0
                · exact .inl ⟨h1, h2, h⟩
                · exact .inr (.inl ⟨h1, h2, by omega, h⟩)
              · by_cases h : s0 = sz
                · exact .inr (.inr (.inl ⟨h1, h2, h⟩))
                · exact .inr (.inr (.inr ⟨h1, h2, h, fun h' => h h'.symm, by omega⟩))
            clear hcase
            rcases hsplit with ⟨rfl, rfl, rfl⟩ | ⟨rfl, rfl, hp, hne⟩ | ⟨hp, rfl, rfl⟩ | ⟨hp, rfl, hne, hne', hnz⟩
            all_goals
              cases sj
              all_goals
                go_wp2_with (at_builtin; refine wpList_u64 _ rfl _ _ rfl (w.heap.size + 1) _ j _ rfl (own_below HO2.out (((Below.refl _ _).alloc (Nat.le_refl _) _).alloc (by simp) _)) _ 1 1 [_] rfl (ri_one_at (by simp)) (by omega) (by simp; omega) ?_; intro G c w3 hown hgr hcc)
                all_goals
                  have HOWN := Lib.hid hown; clear hown
                  have hnew := diffs_grown rfl (HB2.out.alloc (by simpa using HB2.out.size) _) (hk2.alloc _) (own_below HO2.out ((Below.refl _ _).alloc (Nat.le_refl _) _)) hgr
                  have HNEW := Lib.hid hnew; clear hnew
                  go_wp2_with fail
                  go_roundw
                  case rel =>
                    refine ⟨j + 1, by omega, by go_num, ?_, hok1.out, ?_, HNEW.out.1, ?_⟩
                    · rw [HSM.out, ← HSJ.out]
                      first | rfl | (refine congrArg Value.bool ?_; rw [Bool.eq_iff_iff]; simp; omega) | (simp; omega) | (simp [hne']) | (simp [fun h => hne (Eq.symm h)])
                    · have h := HOWN.out
                      rw [← HSZ.out, ← HDA.out, ← dsz_snoc] at h
                      exact h
                    · have h := HNEW.out.2
                      rw [if_neg (by omega), HS0.out, HF0.out]
                      exact h
                  case measure => simp [intOf] <;> omega
    · obtain rfl : j = n - 1 := by omega
      obtain ⟨hok, ho, hb, hk⟩ := hin.out
      rw [if_neg (by omega)] at hk
      have h := HL.out
      unfold diffsR at h
      rw [HN.out, hok, if_pos rfl] at h
      injection h with h1 h; injection h with h2 h; injection h with h3 h; injection h with h4 h5
      subst h1 h2 h3 h4 h5
      rcases ho.2 with ⟨_, h0⟩ | ⟨g, cg, cur, rfl, hh⟩
      · omega
      · have hcg := own_cap ho
        have hgg := (ho.lt g rfl).1
        have HS := Lib.hid (Sl.of_own ho); have HB := Lib.hid hb
        clear hh ho hin hok
        generalize absI (dAt l 0) = s0 at *
        generalize decide (dAt l 0 < 0) = f0 at *
        have c0 : wr.cell? ⟨w.heap.size, 0, none⟩ = some (.int .u64 s0) := (hk.cell 0).trans rfl
        have c1 : wr.cell? ⟨w.heap.size, 1, none⟩ = some (.bool f0) := (hk.cell 1).trans rfl
        have f0' : wr.frozen? ⟨w.heap.size, 0, none⟩ = false := hk.frozen _
        have f1' : wr.frozen? ⟨w.heap.size, 1, none⟩ = false := hk.frozen _
        have hkF := ((hk.set_ 0 (.int .u64 s0)).set_ 1 (.bool f0)).drew
        have r0 : _ = some (Value.int .u64 s0) := hkF.cell 0
        have r1 : _ = some (Value.bool f0) := hkF.cell 1
        have hcg1 : 1 ≤ cg := by omega
        have HSr := Lib.hid (HS.out.1.restIf (i := 1) (by omega) hcg.1)
        have HKF := Lib.hid hkF
        clear hkF
        by_cases hc1 : cg = 1
        · subst hc1
          rw [if_pos rfl] at HSr
          have HSr' : Hid (Ri wr .u64 (some ⟨g, 0, none⟩) 0 ((dsz l (n - 1)).drop 1)) := by
            have h := HSr.out
            rw [show n - 1 - 1 = 0 from by omega] at h
            exact h
          go_wp2_with fail
          go_region
          all_goals
            go_wp2_with fail
            (try simp only [Exit.inBlock, Exit.then])
            refine bodyPost_ret (by simp [results, Tryz.results124, go_sem, r0, r1]; try rfl) rfl ?_
            exact ⟨_, _, _, rfl, ⟨((HSr'.out).setCell (fun b o h => by injection h with h; injection h with h1 h2; subst h1; show w.heap.size ≠ g; omega) _).setCell (fun b o h => by injection h with h; injection h with h1 h2; subst h1; show w.heap.size ≠ g; omega) _, by omega, by omega⟩, ((HB.out.setCell (Nat.le_refl _) _).setCell (Nat.le_refl _) _).drew⟩
        · rw [if_neg hc1] at HSr
          go_wp2_with fail
          go_region
          all_goals
            go_wp2_with fail
            (try simp only [Exit.inBlock, Exit.then])
            refine bodyPost_ret (by simp [results, Tryz.results124, go_sem, r0, r1]; try rfl) rfl ?_
            exact ⟨_, _, _, rfl, ⟨((HSr.out).setCell (fun b o h => by injection h with h; injection h with h1 h2; subst h1; show w.heap.size ≠ g; omega) _).setCell (fun b o h => by injection h with h; injection h with h1 h2; subst h1; show w.heap.size ≠ g; omega) _, by omega, by omega⟩, ((HB.out.setCell (Nat.le_refl _) _).setCell (Nat.le_refl _) _).drew⟩
end Go.Proofs.YtmejoococajikaaGreat

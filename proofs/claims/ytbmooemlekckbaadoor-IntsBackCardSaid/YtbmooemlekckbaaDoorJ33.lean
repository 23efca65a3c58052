/- Joined texts: PAdd, RepeatI. Each has its own head line. No condition beyond those that its theorems state. -/
import Derived.Deep.RegionWith
import Derived.Test.YtbmooemlekckbaaDoorJ07
set_option linter.unusedVariables false

/- The closure of patched.cut that adds a pair. -/
namespace Go.Proofs.YtbmooemlekckbaaDoor
open Go.RowKit

/-- The world while numbers are cut: the run, the last place, the two rows. -/
def CutW (S : Nat) (w0 w : World) (base : Int) (lo : List Int) (P : List (Int × Int)) (g p last : Int) : Prop :=
  ∃ lv pv, Blk w S 108 #[.int .i64 base, lv, pv, .int .i64 g, .int .i64 p] ∧ Blk w (S + 1) 3 #[.int .i64 last] ∧
    w.ownsRow (S + 2) 89 1 lv lo.length (lo.map (Value.int .u64)) ∧ w.ownsRow (S + 2) 112 2 pv P.length (cellsP P) ∧ Apart pv lv ∧ Below S w0 w
def bigger (a : Int) (b : Nat) : Int := if a < (b : Int) then (b : Int) else a

theorem cut_push {S : Nat} {w0 w w1 : World} {base g p last : Int} {lo : List Int} {P P2 : List (Int × Int)} {lv pv v : Value} {o : Obj} (_hS : w0.heap.size = S)
    (hr : Blk w S 108 #[.int .i64 base, lv, pv, .int .i64 g, .int .i64 p]) (hla : Blk w (S + 1) 3 #[.int .i64 last])
    (hlo : w.ownsRow (S + 2) 89 1 lv lo.length (lo.map (Value.int .u64))) (hpo : w.ownsRow (S + 2) 112 2 pv P.length (cellsP P)) (hap : Apart pv lv) (hb : Below S w0 w)
    (hown : w1.ownsRow (S + 2) 112 2 v P2.length (cellsP P2)) (hg : (w.alloc o).grownBy w1 pv.ownBlock) (hat : v.ownBlock = pv.ownBlock ∨ v.ownBlock = some (w.alloc o).heap.size) :
    Blk w1 S 108 #[.int .i64 base, lv, pv, .int .i64 g, .int .i64 p] ∧ CutW S w0 (w1.setCell ⟨S, 2, none⟩ v) base lo P2 g p last := by
  have hn : ∀ k, k < S + 2 → some k ≠ pv.ownBlock := fun k hk e => by have := (hpo.lt k e.symm).1; omega
  have h1 := (hr.alloc o).grown hg (hn S (by omega))
  have h2 := (hla.alloc o).grown hg (hn (S + 1) (by omega))
  have hlo1 := hap.kept (own_below hlo ((Below.refl _ _).alloc (Nat.le_refl _) o)) hg
  have hz := hla.lt
  refine ⟨h1, lv, v, h1.set_ 2 v, h2.far (by simp) _, ownsRow_setCell_below hlo1 (by simp) _, ownsRow_setCell_below hown (by simp) _, ?_, ?_⟩
  · exact hap.grown (own_below hlo ((Below.refl _ _).alloc (Nat.le_refl _) o)) (Nat.le_refl _) hat
  · refine Below.setCell ?_ (by simp) _
    exact below_of_grown (hb.alloc (by have := hb.size; omega) o) hg (by simp; omega) (fun k e => by have := (hpo.lt k e).1; omega)

theorem CutW.set_g {S : Nat} {w0 W : World} {base g p last : Int} {lo : List Int} {P : List (Int × Int)} (h : CutW S w0 W base lo P g p last) (x : Int) : CutW S w0 (W.setCell ⟨S, 3, none⟩ (.int .i64 x)).drew base lo P x p last := by
  obtain ⟨lv, pv, hr, hla, hlo, hpo, hap, hb⟩ := h
  exact ⟨lv, pv, (hr.set_ 3 (.int .i64 x)).drew, (hla.far (p := ⟨S, 3, none⟩) (by simp) _).drew, (ownsRow_setCell_below hlo (by simp) _).drew, (ownsRow_setCell_below hpo (by simp) _).drew, hap, (hb.setCell (p := ⟨S, 3, none⟩) (Nat.le_refl _) _).drew⟩
theorem CutW.set_p {S : Nat} {w0 W : World} {base g p last : Int} {lo : List Int} {P : List (Int × Int)} (h : CutW S w0 W base lo P g p last) (x : Int) : CutW S w0 (W.setCell ⟨S, 4, none⟩ (.int .i64 x)).drew base lo P g x last := by
  obtain ⟨lv, pv, hr, hla, hlo, hpo, hap, hb⟩ := h
  exact ⟨lv, pv, (hr.set_ 4 (.int .i64 x)).drew, (hla.far (p := ⟨S, 4, none⟩) (by simp) _).drew, (ownsRow_setCell_below hlo (by simp) _).drew, (ownsRow_setCell_below hpo (by simp) _).drew, hap, (hb.setCell (p := ⟨S, 4, none⟩) (Nat.le_refl _) _).drew⟩
theorem CutW.set_l {S : Nat} {w0 W : World} {base g p last : Int} {lo : List Int} {P : List (Int × Int)} (h : CutW S w0 W base lo P g p last) (x : Int) : CutW S w0 (W.setCell ⟨S + 1, 0, none⟩ (.int .i64 x)) base lo P g p x := by
  obtain ⟨lv, pv, hr, hla, hlo, hpo, hap, hb⟩ := h
  exact ⟨lv, pv, hr.far (p := ⟨S + 1, 0, none⟩) (by simp) _, hla.set_ 0 (.int .i64 x), ownsRow_setCell_below hlo (by simp) _, ownsRow_setCell_below hpo (by simp) _, hap, hb.setCell (p := ⟨S + 1, 0, none⟩) (by simp) _⟩

set_option maxRecDepth 100000 in
set_option maxHeartbeats 2000000 in
theorem add_any (w0 w : World) (S : Nat) (hS : w0.heap.size = S) (base : Int) (lo : List Int) (P : List (Int × Int)) (g p last : Int) (h : CutW S w0 w base lo P g p last) (gap patch : Int)
    (hg : 0 ≤ gap ∧ gap ≤ 1000) (hp : 0 ≤ patch ∧ patch < 18446744073709551616) (hP : P.length ≤ 100000) (hl : 0 ≤ last ∧ last ≤ 1000000) :
    Calls Tryd.prog 97 #[.int .i64 gap, .int .u64 patch, .pointer (some ⟨S, 0, none⟩), .pointer (some ⟨S + 1, 0, none⟩)] w
      fun e w' => e = .returned (.tuple #[]) ∧ CutW S w0 w' base lo (P ++ [(gap, patch)]) (bigger g (blen gap.toNat)) (bigger p (blen patch.toNat)) (last + gap) := by
  obtain ⟨lv, pv, hr, hla, hlo, hpo, hap, hb⟩ := h
  have c2 : w.cell? ⟨S, 2, none⟩ = some pv := (hr.cell 2).trans rfl
  have HR := Lib.hid hr; have HLA := Lib.hid hla; have HLO := Lib.hid hlo; have HPO := Lib.hid hpo; have HAP := Lib.hid hap; have HB := Lib.hid hb
  have hlt := hr.lt; have hlt2 := hla.lt
  clear hr hla hlo hpo hap hb
  have hwr : IntKind.u64.wrap gap = gap := by rw [IntKind.wrap_u64]; omega
  obtain ⟨hg1, hg2⟩ := hg
  obtain ⟨hp1, hp2⟩ := hp
  go_enter Tryd.func97, Tryd.ntmps97
  go_wp2_with (at_builtin; refine wpList_pairx _ rfl _ _ rfl (S + 2) pv P.length P rfl (own_below HPO.out ((Below.refl _ _).alloc (Nat.le_refl _) _)) _ 1 1 [_] rfl (Rp.one_at rfl) (by omega) (by simp; omega) ?_; intro G c w1 hown hgrow hcap hat; have hm := cut_push hS HR.out HLA.out HLO.out HPO.out HAP.out HB.out (P2 := P ++ [(gap, patch)]) (by rw [List.length_append]; exact hown) hgrow hat; obtain ⟨hk1, hm⟩ := hm; have f2 := hk1.frozen 2; have d2 : w1.cell? ⟨S, 2, none⟩ = some pv := (hk1.cell 2).trans rfl; have HM := Lib.hid hm; clear hm hk1 hown hgrow hat)
  generalize w1.setCell ⟨S, 2, none⟩ (.slice G (P.length + 1) c) = W at *
  obtain ⟨lv, pv, hr, hla, hlo, hpo, hap, hb⟩ := HM.out
  have c3 : W.cell? ⟨S, 3, none⟩ = some (.int .i64 g) := (hr.cell 3).trans rfl
  have g3 := hr.frozen 3
  have HR := Lib.hid hr; have HLA := Lib.hid hla; have HLO := Lib.hid hlo; have HPO := Lib.hid hpo; have HAP := Lib.hid hap; have HB := Lib.hid hb
  clear hr hla hlo hpo hap hb HM f2 d2 c2
  have HM := Lib.hid (show CutW S w0 W base lo (P ++ [(gap, patch)]) g p last from ⟨lv, pv, HR.out, HLA.out, HLO.out, HPO.out, HAP.out, HB.out⟩)
  clear HR HLA HLO HPO HB HAP
  have hG1 : (if g < ↑(blen gap.toNat) then ↑(blen gap.toNat) else g) = bigger g (blen gap.toNat) := rfl
  have hG2 : (if p < ↑(blen patch.toNat) then ↑(blen patch.toNat) else p) = bigger p (blen patch.toNat) := rfl
  have HG1 := Lib.hid hG1; have HG2 := Lib.hid hG2; clear hG1 hG2
  go_region_with (go_at_call 90; refine (Bits_any _ _ (by omega) (by omega)).mono ?_; rintro e w' ⟨rfl, rfl⟩)
  all_goals
    rw [HG1.out]
    have hm := CutW.set_g HM.out (bigger g (blen gap.toNat))
    obtain ⟨gb, hgb⟩ : ∃ gb, bigger g (blen gap.toNat) = gb := ⟨_, rfl⟩
    rw [hgb] at hm ⊢
    have HGB := Lib.hid hgb; clear hgb
    have HM2 := Lib.hid hm
    generalize (W.setCell ⟨S, 3, none⟩ (.int .i64 gb)).drew = W2 at *
    clear HM hm c3 g3 HG1
    obtain ⟨lv2, pv2, hr, _, _, _, _, _⟩ := HM2.out
    have c4 : W2.cell? ⟨S, 4, none⟩ = some (.int .i64 p) := (hr.cell 4).trans rfl
    have g4 := hr.frozen 4
    clear hr
    go_wp2_with fail
    go_region_with (go_at_call 90; refine (Bits_any _ _ (by omega) (by omega)).mono ?_; rintro e w' ⟨rfl, rfl⟩)
    all_goals
      rw [HG2.out]
      have hm := CutW.set_p HM2.out (bigger p (blen patch.toNat))
      obtain ⟨pb, hpb⟩ : ∃ gb, bigger p (blen patch.toNat) = gb := ⟨_, rfl⟩
      rw [hpb] at hm ⊢
      have HPB := Lib.hid hpb; clear hpb
      have HM3 := Lib.hid hm
      generalize (W2.setCell ⟨S, 4, none⟩ (.int .i64 pb)).drew = W3 at *
      clear HM2 hm c4 g4 HG2
      obtain ⟨lv3, pv3, _, hla, _, _, _, _⟩ := HM3.out
      have c5 : W3.cell? ⟨S + 1, 0, none⟩ = some (.int .i64 last) := (hla.cell 0).trans rfl
      have g5 := hla.frozen 0
      clear hla
      go_wp2_with fail
      go_end0
      rw [HGB.out, HPB.out]
      exact ⟨rfl, CutW.set_l HM3.out _⟩
end Go.Proofs.YtbmooemlekckbaaDoor

/- slices.Repeat of one element of type int. -/
namespace Go.Proofs.YtbmooemlekckbaaDoor
open Go.RowKit

def RepWI (w0 wr : World) (M q : Nat) (c : Int) : Prop :=
  ∃ cur : List Value, wr.heap[w0.heap.size]? = some (.cells cur.toArray 3 (0, 0)) ∧ cur.length = M ∧ (∀ j, j < q → cur[j]? = some (.int .i64 c)) ∧ Below w0.heap.size w0 wr
theorem RepWI.ri {w0 wr : World} {M n : Nat} {c : Int} (h : RepWI w0 wr M n c) (cap : Nat) (hn : n ≤ cap ∧ cap ≤ 9223372036854775807) : Sl wr .i64 (some ⟨w0.heap.size, 0, none⟩) n cap (List.replicate n c) := by
  obtain ⟨cur, h1, h2, h3, h4⟩ := h
  refine ⟨⟨by simp, fun _ => ⟨_, 0, rfl, (Array.getElem?_eq_some_iff.1 h1).1, fun j u hu => ?_⟩⟩, hn⟩
  rw [List.map_replicate, List.getElem?_replicate] at hu
  split at hu
  · have h5 := h3 j (by omega)
    have h6 := cell_of_row wr w0.heap.size j cur.toArray _ _ h1
    rw [Nat.zero_add, h6]
    simpa [h5] using hu
  · cases hu
theorem RepWI_src {wr : World} {g q m : Nat} {t : TypeId} {cur : List Value} {c : Int} (h1 : wr.heap[g]? = some (.cells cur.toArray t (0, 0))) (h3 : ∀ j, j < q → cur[j]? = some (.int .i64 c)) (hm : m ≤ q) :
    ∀ j v, (List.replicate m (Value.int .i64 c))[j]? = some v → wr.drew.cell? ((⟨g, 0, none⟩ : Addr).add j) = some v := by
  intro j v hv
  rw [List.getElem?_replicate] at hv
  split at hv
  · rw [add_none, Nat.zero_add]
    have h6 := cell_of_row wr g j cur.toArray _ _ h1
    have h5 := h3 j (by omega)
    show wr.cell? _ = _
    rw [h6]
    simpa [h5] using hv
  · cases hv
theorem one_repI (m : Nat) (c : Int) : ∀ v ∈ List.replicate m (Value.int .i64 c), v.oneCell' = true := by
  intro v hv
  rw [List.eq_of_mem_replicate hv]; rfl
def RepOutI (w : World) (l : List Int) (e : Ending) (w' : World) : Prop :=
  ∃ G n c, e = .returned (.slice G n c) ∧ Sl w' .i64 G n c l ∧ Below w.heap.size w w'

set_option maxRecDepth 100000 in
set_option maxHeartbeats 1000000 in
theorem RepeatI_any (w : World) (A : Option Addr) (cap : Nat) (c : Int) (hr : Ri w .i64 A 1 [c]) (n : Nat) (h1 : 1 ≤ n) (hn : n ≤ 100000) :
    Calls Tryd.prog 55 #[.slice A 1 cap, .int .i64 n] w (RepOutI w (List.replicate n c)) := by
  have HR := Lib.hid hr; clear hr
  have hmk := fun W => Go.run_make_row' (P := Tryd.prog) 22 3 (.int .i64 0) 8 Tryd.underlying22 info_int rfl .i64 .i64 n (by omega) (by omega) W
  go_enter Tryd.func55, Tryd.ntmps55
  go_wp2_with fail
  refine (Mul_one _ (by omega) _).mono ?_; rintro e w' ⟨rfl, rfl⟩
  obtain ⟨b, o, hA, hb, hcell⟩ := HR.out.all (by omega)
  subst hA
  have hcell0 := hcell 0 (by omega)
  rw [Nat.add_zero] at hcell0
  have hbe : b ≠ w.heap.size := by omega
  go_wp2_with (with_reducible refine wpList_copy_splice rfl (.tmp 31) (.tmp 32) 22 22 rfl 3 Tryd.underlying22 (by kernel_rfl) (some ⟨w.heap.size, 0, none⟩) (some ⟨b, o, none⟩) n n 1 cap rfl rfl w.heap.size 0 (madeCells #[.int .i64 0] n).toList 3 ?c1 [(.int .i64 c)] ?c2 ?c3 ?c4 ?c5 w.heap.size w ?c6 (Nat.le_refl _) ?_)
  case c1 => rw [heap_alloc_new]
  case c2 => exact (Nat.min_eq_left h1).symm
  case c3 =>
    intro j v hv
    have hj : j = 0 := by
      rcases Nat.eq_zero_or_pos j with h | h
      · exact h
      · rw [List.getElem?_eq_none (by simp; omega)] at hv; cases hv
    subst hj
    simp at hv
    subst hv
    exact hcell0
  case c4 => simp [size_madeCells]; omega
  case c5 => simp [Value.oneCell']
  case c6 => exact (Below.refl _ _).alloc (Nat.le_refl _) _
  intro w1 hg1 hb1
  have hrw : Hid (RepWI w w1 n 1 c) := by
    refine ⟨_, hg1, by rw [length_splice _ _ _ (by simp [size_madeCells]; omega)]; simp [size_madeCells], fun j hj => ?_, hb1⟩
    exact splice_get (q := 0) (m := 1) (by simp [size_madeCells]; omega) (fun j hj => absurd hj (by omega)) j (by omega)
  clear hcell hcell0 hg1 hb1 hmk
  go_wp2_with fail
  go_loopw [8] (fun bp wr => ∃ q : Nat, 1 ≤ q ∧ q ≤ n ∧ bp = .int .i64 q ∧ Hid (RepWI w wr n q c)) (fun bp _ => n - (intOf bp).toNat)
  case atStart => exact ⟨1, by omega, h1, rfl, hrw⟩
  case round =>
    obtain ⟨q, hq1, hq2, rfl, hrq⟩ := hrel
    by_cases hlt : q < n
    · obtain ⟨cur, k1, k2, k3, k4⟩ := hrq.out
      have K1 := Lib.hid k1; have K3 := Lib.hid k3; have K4 := Lib.hid k4
      obtain ⟨m, hm⟩ : ∃ m, m = Nat.min q (n - q) := ⟨_, rfl⟩
      have hm1 : 1 ≤ m := by rw [hm]; exact Nat.le_min.2 ⟨hq1, by omega⟩
      have hm2 : m ≤ n - q := by rw [hm]; exact Nat.min_le_right _ _
      have hm3 : m ≤ q := by rw [hm]; exact Nat.min_le_left _ _
      have HM := Lib.hid hm
      clear k1 k3 k4 hm
      have hnq : ¬ n = q := by omega
      have K1d : Hid (wr.drew.heap[w.heap.size]? = some (.cells cur.toArray 3 (0, 0))) := K1
      have K4d : Hid (Below w.heap.size w wr.drew) := K4.out.drew
      have hsz1 : (Tryd.prog.info? 3).map (·.size) = some 1 := by kernel_rfl
      have HSZ := Lib.hid hsz1; clear hsz1
      have hfit : q + (List.replicate m (Value.int .i64 c)).length ≤ cur.length := by rw [List.length_replicate]; omega
      have HSUM : Hid (IntKind.i64.wrap ((q : Int) + m) = ((q + m : Nat) : Int)) := (IntWalk.i64_in _ (by omega)).trans (by omega)
      have hq0 : (0 : Int) ≤ (q : Int) := by omega
      have hqn : (q : Int) ≤ (n : Int) := by omega
      go_wp2_with fail
      have hsum := HSUM.out
      go_region_law (with_reducible refine step_copy_splice rfl (.tmp 41) (.tmp 44) 22 22 rfl 3 Tryd.underlying22 HSZ.out (some ⟨w.heap.size, q, none⟩) (some ⟨w.heap.size, 0, none⟩) (n - q) (n - q) q n (by kernel_rfl) (by kernel_rfl) w.heap.size q cur 3 K1d.out (List.replicate m (.int .i64 c)) (by rw [List.length_replicate]; exact HM.out) (fun _ => ⟨rfl, _, rfl, RepWI_src K1.out K3.out hm3⟩) hfit (one_repI m c) w.heap.size w K4d.out (Nat.le_refl _) ?_; intro w4 hg4 hb4; have HG4 := Lib.hid hg4.out; have HB4 := Lib.hid hb4; clear hg4 hb4; rw [List.length_replicate])
      clear hsum
      simp only [List.getElem_toArray, List.getElem_cons_succ, List.getElem_cons_zero, Act.put, List.setIfInBounds_toArray, List.set_cons_succ, List.set_cons_zero]
      go_wp2_with fail
      go_roundw
      case rel => 
        refine ⟨q + m, by omega, by omega, by go_num, ?_⟩
        exact ⟨_, HG4.out, by rw [length_splice _ _ _ (by rw [List.length_replicate]; omega)]; exact k2, fun j hj => splice_get (by omega) K3.out j hj, HB4.out⟩
      case measure => simp [intOf] <;> omega
    · obtain rfl : q = n := by omega
      go_wp2_with fail
      go_ret
      obtain ⟨h1', h2'⟩ := hrq.out.ri q ⟨Nat.le_refl _, by omega⟩
      exact ⟨_, _, _, rfl, ⟨h1', h2'⟩, hrq.out.choose_spec.2.2.2⟩

set_option maxRecDepth 100000 in
set_option maxHeartbeats 400000 in
theorem RepeatI_none (w : World) (A : Option Addr) (cap : Nat) (c : Int) (hr : Ri w .i64 A 1 [c]) :
    Calls Tryd.prog 55 #[.slice A 1 cap, .int .i64 0] w (RepOutI w []) := by
  have HR := Lib.hid hr; clear hr
  have hmk := Go.run_make_row' (P := Tryd.prog) 22 3 (.int .i64 0) 8 Tryd.underlying22 info_int rfl .i64 .i64 0 (by omega) (by omega) w
  rw [show ((0 : Nat) : Int) = 0 from rfl] at hmk
  go_enter Tryd.func55, Tryd.ntmps55
  go_wp2_with fail
  refine (Mul_one 0 (by omega) _).mono ?_; rintro e w' ⟨rfl, rfl⟩
  obtain ⟨b, o, hA, hb, hcell⟩ := HR.out.all (by omega)
  subst hA
  go_wp2_with (with_reducible refine wpList_copy_splice rfl (.tmp 31) (.tmp 32) 22 22 rfl 3 Tryd.underlying22 (by kernel_rfl) (some ⟨w.heap.size, 0, none⟩) (some ⟨b, o, none⟩) 0 0 1 cap rfl rfl w.heap.size 0 (madeCells #[.int .i64 0] 0).toList 3 ?c1 [] ?c2 ?c3 ?c4 ?c5 w.heap.size w ?c6 (Nat.le_refl _) ?_)
  case c1 => rw [heap_alloc_new]
  case c2 => rfl
  case c4 => simp [size_madeCells]
  case c5 => simp
  case c6 => exact (Below.refl _ _).alloc (Nat.le_refl _) _
  intro w1 hg1 hb1
  clear hcell hmk
  go_wp2_with fail
  go_loopw [8] (fun bp wr => bp = .int .i64 0 ∧ wr = w1) (fun bp _ => 0)
  case atStart => exact ⟨rfl, rfl⟩
  case round =>
    obtain ⟨rfl, rfl⟩ := hrel
    go_wp2_with fail
    go_ret
    exact ⟨_, _, _, rfl, ⟨⟨rfl, fun h => absurd h (by omega)⟩, Nat.le_refl _, by omega⟩, hb1⟩
end Go.Proofs.YtbmooemlekckbaaDoor

/- Joined texts: DkX. Each has its own head line. No condition beyond those that its theorems state. -/
import Derived.Test.YtekdcnlbdgikoaaDoorJ17
set_option linter.unusedVariables false

/- disk.Crash. -/
namespace Go.Proofs.YtekdcnlbdgikoaaDoor
open Go.RowKit

/-- How many bytes are kept. -/
def keptN (keep : Int) (n safe : Nat) : Nat := safe + min (max keep 0).toNat (n - safe)
def cutF (keep : Int) (f : Fl) : Fl := ⟨f.p, f.A, keptN keep f.n f.safe, keptN keep f.n f.safe, f.b.take (keptN keep f.n f.safe), keptN keep f.n f.safe⟩
def crashM (keep : Int) (M : List Mf) : List Mf := M.map fun f => ⟨f.p, f.b.take (keptN keep f.b.length f.safe), keptN keep f.b.length f.safe⟩
/-- The files while some are still to come. -/
def stepF (keep : Int) (left : Lit → Bool) (L : List Fl) : List Fl := L.map fun f => if left (keyL f.p) then f else cutF keep f
theorem stepF_path (keep : Int) (left : Lit → Bool) (f : Fl) : (if left (keyL f.p) then f else cutF keep f).p = f.p := by split <;> rfl
theorem stepF_len (keep : Int) (left : Lit → Bool) (L : List Fl) : (stepF keep left L).length = L.length := List.length_map _
theorem stepF_sort {keep : Int} {left : Lit → Bool} {L : List Fl} (h : SortF L) : SortF (stepF keep left L) := by
  refine List.pairwise_map.2 (h.imp fun {a b} hab => ?_)
  rw [stepF_path, stepF_path]; exact hab
theorem stepF_start (keep : Int) (L : List Fl) : stepF keep (Maps.has (dat L)) L = L := by
  unfold stepF
  have : (L.map fun f => if Maps.has (dat L) (keyL f.p) then f else cutF keep f) = L.map id := List.map_congr_left fun f hf => by
    rw [if_pos]; · rfl
    rw [dat_has]
    unfold findF
    rw [List.isSome_find?, List.any_eq_true]
    exact ⟨f, hf, by simp⟩
  rw [this, List.map_id]
theorem stepF_end {keep : Int} {left : Lit → Bool} (L : List Fl) (h : ∀ kl, left kl = false) : stepF keep left L = L.map (cutF keep) :=
  List.map_congr_left fun f _ => by rw [h, if_neg (by simp)]
theorem sort_uniq {L : List Fl} (hs : SortF L) {f g : Fl} (hf : f ∈ L) (hg : g ∈ L) (h : f.p = g.p) : f = g := by
  induction L with
  | nil => cases hf
  | cons x r ih =>
    obtain ⟨hx, hr⟩ := List.pairwise_cons.1 hs
    rcases List.mem_cons.1 hf with rfl | hf
    · rcases List.mem_cons.1 hg with rfl | hg
      · rfl
      · exact absurd h (befF_ne (hx g hg))
    · rcases List.mem_cons.1 hg with e | hg
      · rw [e] at h
        exact absurd h.symm (befF_ne (hx f hf))
      · exact ih hr hf hg
/-- What comes out of the range is a file as it was. -/
theorem stepF_come {keep : Int} {left : Lit → Bool} {L : List Fl} {g : Fl} (hg : g ∈ stepF keep left L) (hl : left (keyL g.p) = true) : g ∈ L := by
  obtain ⟨f, hf, rfl⟩ := List.mem_map.1 hg
  rw [stepF_path] at hl
  rw [if_pos hl]; exact hf
theorem stepF_put {keep : Int} {left : Lit → Bool} {L : List Fl} {f : Fl} (hs : SortF L) (hf : f ∈ L) :
    (dat (stepF keep left L)).put (keyL f.p) (.held (cutF keep f).val) = dat (stepF keep (fun z => left z && !z.sameKey (keyL f.p)) L) := by
  have e1 := dat_put (stepF keep left L) (cutF keep f)
  have e0 : (cutF keep f).p = f.p := rfl
  rw [e0] at e1
  rw [e1]
  have e2 := put_there (g := cutF keep f) (stepF_sort (keep := keep) (left := left) hs) ⟨_, List.mem_map_of_mem hf, stepF_path keep left f⟩
  rw [e0] at e2
  rw [e2]
  congr 1
  unfold stepF
  rw [List.map_map]
  refine List.map_congr_left fun x hx => ?_
  show (if (if left (keyL x.p) then x else cutF keep x).p = f.p then cutF keep f else if left (keyL x.p) then x else cutF keep x) = _
  rw [stepF_path]
  by_cases h : x.p = f.p
  · obtain rfl := sort_uniq hs hx hf h
    simp [same_keyL]
  · rw [if_neg h]; simp [same_keyL, h]
theorem cut_ok {w : World} {keep : Int} {f : Fl} (h : FlOk w f) : FlOk w (cutF keep f) := by
  have h1 := h.2.2.2.2.1
  have hk : keptN keep f.n f.safe ≤ f.n := by unfold keptN; omega
  have h2 := h.2.2.1
  have h3 := h.2.2.2.1
  exact ⟨h.1.first hk, (fun x hx => h.2.1 x (List.mem_of_mem_take hx)), Nat.le_refl _, by show keptN keep f.n f.safe ≤ _; omega, Nat.le_refl _, h.2.2.2.2.2⟩
theorem crash_abs {w : World} {keep : Int} {L : List Fl} (h : ∀ f ∈ L, FlOk w f) : absF (L.map (cutF keep)) = crashM keep (absF L) := by
  unfold absF crashM
  rw [List.map_map, List.map_map]
  refine List.map_congr_left fun f hf => ?_
  have := (h f hf).1.len
  show Mf.mk f.p (f.b.take (keptN keep f.n f.safe)) (keptN keep f.n f.safe) = Mf.mk f.p (f.b.take (keptN keep f.b.length f.safe)) (keptN keep f.b.length f.safe)
  rw [this]

set_option maxRecDepth 100000 in
set_option maxHeartbeats 2000000 in
theorem Crash_any (w : World) (d B : Nat) (q lf : Int) (M : List Mf) (h : Da w d B q lf M) (hlen : M.length < 1000000) (hu : usedM M ≤ 1000000000) (keep : Int) (hk : -9223372036854775808 ≤ keep ∧ keep < 9223372036854775808) :
    Calls Tryd.prog 13 #[.pointer (some ⟨d, 0, none⟩), .int .i64 keep] w (DaOut w d B q (-1) (crashM keep M) (.tuple #[])) := by
  obtain ⟨L, rfl, hd⟩ := h
  rw [abs_len] at hlen
  rw [← abs_used hd.row] at hu
  have c2 := hd.c2
  have HD := Lib.hid hd
  have HS := Lib.hid hd.sort
  have HNE := Lib.hid hd.ne
  clear hd
  go_enter Tryd.func13, Tryd.ntmps13
  go_wp2_with (at_range; refine wpList_range_own _ rfl _ _ rfl 9 57 keyed_s Tryd.underlying53 rawE B L.length _ rfl HD.out.own ?_; intro w0 hrg0 hg0 hs0)
  go_frame
  have HRG := Lib.hid hrg0
  have HB := Lib.hid ((Below.refl w.heap.size w).grown hg0 (Nat.le_refl _) (fun k e => by cases e))
  clear hrg0 hg0
  go_loopw [4] (fun _ wr => ∃ (left : Lit → Bool) (cnt : Nat), Hid (wr.ranges Tryd.prog 9 rawE B w.heap.size L.length (dat (stepF keep left L)) left cnt) ∧ Hid (Turn d B w wr) ∧ Hid (wr.heap[d]? = some (.cells #[.int .i64 q, .int .i64 lf, .map (some B)] 55))) (fun _ wr => wr.rangeLeft B w.heap.size)
  case atStart => exact ⟨_, _, by rw [stepF_start]; exact HRG, Turn.of_below HB.out, (HB.out.block d HD.out.lt).trans HD.out.blk⟩
  case round =>
    obtain ⟨left, cnt, hrg, htu, hbk⟩ := hrel
    have hz := htu.out.size
    have cw2 : wr.cell? ⟨d, 2, none⟩ = some (.map (some B)) := by rw [cell_of_blk hbk.out]; rfl
    go_wp2_with (at_next; refine wpList_next_ranges _ rfl _ rfl 9 keyed_s rawE Value.string id inv_s inv_v B w.heap.size L.length _ _ _ rfl hrg.out ?_ ?_)
    · intro _ hl0
      have HL0 := Lib.hid (stepF_end (keep := keep) L hl0)
      have cf1 : wr.frozen? ⟨d, 1, none⟩ = false := by simp [World.frozen?, hbk.out]
      have cw1 : wr.cell? ⟨d, 1, none⟩ = some (.int .i64 lf) := by rw [cell_of_blk hbk.out]; rfl
      go_wp2_with fail
      go_returns
      have hd1 : Dk wr d B q lf (L.map (cutF keep)) := ⟨hbk.out, by have := hrg.out.owns; rw [HL0.out] at this; rw [List.length_map]; exact this, fun g hg => by
        obtain ⟨f, hf, rfl⟩ := List.mem_map.1 hg
        exact cut_ok ((HD.out.row f hf).turn (HD.out.far (HD.out.row f hf).1) htu.out)⟩
      exact ⟨rfl, ⟨_, crash_abs HD.out.row, hd1.left (-1)⟩, Turn.setCell (d := d) (B := B) (p := ⟨d, 1, none⟩) htu.out (.inl rfl) _⟩
    · intro x c kl y ps w1 cnt1 hkey hlk hv hat hrg1 hlt hgr hsz hen
      obtain ⟨rfl, f, hf, rfl, rfl⟩ := next_file hkey hv hat
      have hfL := stepF_come hf hlk
      have hrow := (HD.out.row f hfL).turn (HD.out.far (HD.out.row f hfL).1) htu.out
      unfold Fl.val at hen
      have hfn : f.n ≤ usedF L := by
        unfold usedF
        exact mem_le_sum _ _ (List.mem_map_of_mem hfL)
      have hsn := hrow.2.2.2.2.1
      have hnc := hrow.2.2.1
      obtain ⟨K, hK, hKn⟩ : ∃ K : Nat, K = keptN keep f.n f.safe ∧ K ≤ f.n := ⟨_, rfl, by unfold keptN; omega⟩
      have hKe : (f.safe : Int) + min (max keep 0) ((f.n : Int) - f.safe) = (K : Int) := by
        rw [hK]
        unfold keptN
        omega
      have hB1 : Turn d B w w1 := htu.out.grown hgr (fun k e => by injection e with e; omega)
      obtain ⟨ob, hob⟩ : ∃ ob, ob = Obj.cells #[.slice f.A f.n f.c, .int .i64 f.safe] 57 := ⟨_, rfl⟩
      have hnr : d ≠ w.heap.size := by have := HD.out.lt; omega
      have hbk1 : w1.heap[d]? = some (.cells #[.int .i64 q, .int .i64 lf, .map (some B)] 55) := (hgr.block d (by have := HD.out.lt; omega) (fun e => by injection e with e; exact hnr e)).trans hbk.out
      have hba := (Below.refl w1.heap.size w1).alloc (Nat.le_refl _) ob
      have hrg2 := hrg1.alloc ob
      have hrg3 : (w1.alloc ob).drew.ranges Tryd.prog 9 rawE B w.heap.size L.length (dat (stepF keep left L)) (fun z => left z && !z.sameKey (keyL f.p)) cnt1 := hrg2
      have hbk2 := (hba.block d (by have := HD.out.lt; omega)).trans hbk1
      have k2 : (w1.alloc ob).cell? ⟨d, 2, none⟩ = some (.map (some B)) := by rw [cell_of_blk hbk2]; rfl
      have hhas : Maps.has (dat (stepF keep left L)) (keyL f.p) = true := by
        rw [dat_has]
        unfold findF
        rw [List.isSome_find?, List.any_eq_true]
        exact ⟨f, hf, by simp⟩
      obtain ⟨W, hrun, hown, hturn⟩ := ranges_store hrg3 keyed_s Tryd.underlying53 (by unfold maxLen; omega) (key_of (HD.out.row f hfL).2.2.2.2.2) (val := .agg #[.slice f.A K K, .int .i64 K]) (show rawE _ = _ from rfl) hhas
      have HKE := Lib.hid hKe
      have HRG2 := Lib.hid hown
      have HTN := Lib.hid hturn
      have HK := Lib.hid hK
      have HFL := Lib.hid hfL
      have HT1 := Lib.hid hB1
      have HBK2 := Lib.hid hbk2
      have HRG1 := Lib.hid hrg1
      have HGR := Lib.hid hgr
      subst hob
      clear hKe hown hturn hK hrg1 hrg2 hrg3 hat hv hkey hlk hhas hB1 hbk1 hbk2 hba hgr
      go_wp2_with fail
      rw [HKE.out]
      go_region
      go_wp2_with fail
      go_roundw
      case rel =>
        refine ⟨fun z => left z && !z.sameKey (keyL f.p), cnt1, Lib.hid ?_, Lib.hid (((HT1.out.alloc _).trans (Turn.of_below (Below.refl _ _).drew)).map HTN.out), Lib.hid ?_⟩
        · have h := HRG2.out
          rw [show Value.agg #[.slice f.A K K, .int .i64 K] = (cutF keep f).val from by rw [HK.out]; rfl, stepF_put HS.out HFL.out] at h
          exact h
        · refine (HTN.out.grown.block d ?_ (fun e => by injection e with e; exact HNE.out e)).trans HBK2.out
          have h1 := HD.out.lt
          show d < (w1.alloc _).heap.size
          simp; omega
      case measure => rw [HRG2.out.left_eq, hrg.out.left_eq]; exact hlt
end Go.Proofs.YtekdcnlbdgikoaaDoor

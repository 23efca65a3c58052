/- Joined texts: RepeatI, GlOne, GlTake, GlRefTake. Each has its own head line. No condition beyond those that its theorems state. -/
import Derived.Test.YtbmooemlekckbaaGreatDoorJ05
import Derived.Test.YtbmooemlekckbaaGreatDoorJ38
import Derived.Test.YtbmooemlekckbaaGreatDoorJ17
import Derived.Test.YtbmooemlekckbaaGreatDoorJ26
import Derived.Test.YtbmooemlekckbaaGreatDoorJ29
import Derived.Test.YtbmooemlekckbaaGreatDoorJ30
import Derived.Test.YtbmooemlekckbaaGreatDoorJ43
import Derived.Test.YtbmooemlekckbaaGreatDoorJ44
import Derived.Test.YtbmooemlekckbaaGreatDoorJ02
import Derived.Test.YtbmooemlekckbaaGreatDoorJ36
set_option linter.unusedVariables false

/- slices.Repeat of one element of type int. -/
namespace Go.Proofs.YtbmooemlekckbaaGreatDoor
open Go.RowKit

def RepWI (w0 wr : World) (M q : Nat) (c : Int) : Prop :=
  ∃ cur : List Value, wr.heap[w0.heap.size]? = some (.cells cur.toArray 3 (0, 0)) ∧ cur.length = M ∧ (∀ j, j < q → cur[j]? = some (.int .i64 c)) ∧ Below w0.heap.size w0 wr
theorem RepWI.ri {w0 wr : World} {M n : Nat} {c : Int} (h : RepWI w0 wr M n c) (cap : Nat) (hn : n ≤ cap ∧ cap ≤ 9223372036854775807) : Sl wr .i64 (some ⟨w0.heap.size, 0, none⟩) n cap (List.replicate n c) := by
  obtain ⟨cur, h1, h2, h3, h4⟩ := h
  refine ⟨⟨by simp, fun _ => ⟨_, 0, rfl, (Array.getElem?_eq_some_iff.1 h1).1, fun j u hu => ?_⟩⟩, hn⟩
  rw [List.map_replicate, List.getElem?_replicate] at hu
  split at hu
  · have h5 := h3 j (by omega)
    have h6 := cell_of_row wr w0.heap.size j cur.toArray _ _ h1
    rw [Nat.zero_add, h6]
    simpa [h5] using hu
  · cases hu
theorem RepWI_src {wr : World} {g q m : Nat} {t : TypeId} {cur : List Value} {c : Int} (h1 : wr.heap[g]? = some (.cells cur.toArray t (0, 0))) (h3 : ∀ j, j < q → cur[j]? = some (.int .i64 c)) (hm : m ≤ q) :
    ∀ j v, (List.replicate m (Value.int .i64 c))[j]? = some v → wr.drew.cell? ((⟨g, 0, none⟩ : Addr).add j) = some v := by
  intro j v hv
  rw [List.getElem?_replicate] at hv
  split at hv
  · rw [add_none, Nat.zero_add]
    have h6 := cell_of_row wr g j cur.toArray _ _ h1
    have h5 := h3 j (by omega)
    show wr.cell? _ = _
    rw [h6]
    simpa [h5] using hv
  · cases hv
theorem one_repI (m : Nat) (c : Int) : ∀ v ∈ List.replicate m (Value.int .i64 c), v.oneCell' = true := by
  intro v hv
  rw [List.eq_of_mem_replicate hv]; rfl
def RepOutI (w : World) (l : List Int) (e : Ending) (w' : World) : Prop :=
  ∃ G n c, e = .returned (.slice G n c) ∧ Sl w' .i64 G n c l ∧ Below w.heap.size w w'

set_option maxRecDepth 100000 in
set_option maxHeartbeats 1000000 in
theorem RepeatI_any (w : World) (A : Option Addr) (cap : Nat) (c : Int) (hr : Ri w .i64 A 1 [c]) (n : Nat) (h1 : 1 ≤ n) (hn : n ≤ 100000) :
    Calls Tryz.prog 99 #[.slice A 1 cap, .int .i64 n] w (RepOutI w (List.replicate n c)) := by
  have HR := Lib.hid hr; clear hr
  have hmk := fun W => Go.run_make_row' (P := Tryz.prog) 42 3 (.int .i64 0) 8 Tryz.underlying42 info_int rfl .i64 .i64 n (by omega) (by omega) W
  go_enter Tryz.func99, Tryz.ntmps99
  go_wp2_with fail
  refine (Mul_one _ (by omega) _).mono ?_; rintro e w' ⟨rfl, rfl⟩
  obtain ⟨b, o, hA, hb, hcell⟩ := HR.out.all (by omega)
  subst hA
  have hcell0 := hcell 0 (by omega)
  rw [Nat.add_zero] at hcell0
  have hbe : b ≠ w.heap.size := by omega
  go_wp2_with (with_reducible refine wpList_copy_splice rfl (.tmp 31) (.tmp 32) 42 42 rfl 3 Tryz.underlying42 (by kernel_rfl) (some ⟨w.heap.size, 0, none⟩) (some ⟨b, o, none⟩) n n 1 cap rfl rfl w.heap.size 0 (madeCells #[.int .i64 0] n).toList 3 ?c1 [(.int .i64 c)] ?c2 ?c3 ?c4 ?c5 w.heap.size w ?c6 (Nat.le_refl _) ?_)
  case c1 => rw [heap_alloc_new]
  case c2 => exact (Nat.min_eq_left h1).symm
  case c3 =>
    intro j v hv
    have hj : j = 0 := by
      rcases Nat.eq_zero_or_pos j with h | h
      · exact h
      · rw [List.getElem?_eq_none (by simp; omega)] at hv; cases hv
    subst hj
    simp at hv
    subst hv
    exact hcell0
  case c4 => simp [size_madeCells]; omega
  case c5 => simp [Value.oneCell']
  case c6 => exact (Below.refl _ _).alloc (Nat.le_refl _) _
  intro w1 hg1 hb1
  have hrw : Hid (RepWI w w1 n 1 c) := by
    refine ⟨_, hg1, by rw [length_splice _ _ _ (by simp [size_madeCells]; omega)]; simp [size_madeCells], fun j hj => ?_, hb1⟩
    exact splice_get (q := 0) (m := 1) (by simp [size_madeCells]; omega) (fun j hj => absurd hj (by omega)) j (by omega)
  clear hcell hcell0 hg1 hb1 hmk
  go_wp2_with fail
  go_loopw [8] (fun bp wr => ∃ q : Nat, 1 ≤ q ∧ q ≤ n ∧ bp = .int .i64 q ∧ Hid (RepWI w wr n q c)) (fun bp _ => n - (intOf bp).toNat)
  case atStart => exact ⟨1, by omega, h1, rfl, hrw⟩
  case round =>
    obtain ⟨q, hq1, hq2, rfl, hrq⟩ := hrel
    by_cases hlt : q < n
    · obtain ⟨cur, k1, k2, k3, k4⟩ := hrq.out
      have K1 := Lib.hid k1; have K3 := Lib.hid k3; have K4 := Lib.hid k4
      obtain ⟨m, hm⟩ : ∃ m, m = Nat.min q (n - q) := ⟨_, rfl⟩
      have hm1 : 1 ≤ m := by rw [hm]; exact Nat.le_min.2 ⟨hq1, by omega⟩
      have hm2 : m ≤ n - q := by rw [hm]; exact Nat.min_le_right _ _
      have hm3 : m ≤ q := by rw [hm]; exact Nat.min_le_left _ _
      have HM := Lib.hid hm
      clear k1 k3 k4 hm
      have hnq : ¬ n = q := by omega
      have K1d : Hid (wr.drew.heap[w.heap.size]? = some (.cells cur.toArray 3 (0, 0))) := K1
      have K4d : Hid (Below w.heap.size w wr.drew) := K4.out.drew
      have hsz1 : (Tryz.prog.info? 3).map (·.size) = some 1 := by kernel_rfl
      have HSZ := Lib.hid hsz1; clear hsz1
      have hfit : q + (List.replicate m (Value.int .i64 c)).length ≤ cur.length := by rw [List.length_replicate]; omega
      have HSUM : Hid (IntKind.i64.wrap ((q : Int) + m) = ((q + m : Nat) : Int)) := (IntWalk.i64_in _ (by omega)).trans (by omega)
      have hq0 : (0 : Int) ≤ (q : Int) := by omega
      have hqn : (q : Int) ≤ (n : Int) := by omega
      go_wp2_with fail
      have hsum := HSUM.out
      go_region_law (with_reducible refine step_copy_splice rfl (.tmp 41) (.tmp 44) 42 42 rfl 3 Tryz.underlying42 HSZ.out (some ⟨w.heap.size, q, none⟩) (some ⟨w.heap.size, 0, none⟩) (n - q) (n - q) q n (by kernel_rfl) (by kernel_rfl) w.heap.size q cur 3 K1d.out (List.replicate m (.int .i64 c)) (by rw [List.length_replicate]; exact HM.out) (fun _ => ⟨rfl, _, rfl, RepWI_src K1.out K3.out hm3⟩) hfit (one_repI m c) w.heap.size w K4d.out (Nat.le_refl _) ?_; intro w4 hg4 hb4; have HG4 := Lib.hid hg4.out; have HB4 := Lib.hid hb4; clear hg4 hb4; rw [List.length_replicate])
      clear hsum
      simp only [List.getElem_toArray, List.getElem_cons_succ, List.getElem_cons_zero, Act.put, List.setIfInBounds_toArray, List.set_cons_succ, List.set_cons_zero]
      go_wp2_with fail
      go_roundw
      case rel => 
        refine ⟨q + m, by omega, by omega, by go_num, ?_⟩
        exact ⟨_, HG4.out, by rw [length_splice _ _ _ (by rw [List.length_replicate]; omega)]; exact k2, fun j hj => splice_get (by omega) K3.out j hj, HB4.out⟩
      case measure => simp [intOf] <;> omega
    · obtain rfl : q = n := by omega
      go_wp2_with fail
      go_ret
      obtain ⟨h1', h2'⟩ := hrq.out.ri q ⟨Nat.le_refl _, by omega⟩
      exact ⟨_, _, _, rfl, ⟨h1', h2'⟩, hrq.out.choose_spec.2.2.2⟩

set_option maxRecDepth 100000 in
set_option maxHeartbeats 400000 in
theorem RepeatI_none (w : World) (A : Option Addr) (cap : Nat) (c : Int) (hr : Ri w .i64 A 1 [c]) :
    Calls Tryz.prog 99 #[.slice A 1 cap, .int .i64 0] w (RepOutI w []) := by
  have HR := Lib.hid hr; clear hr
  have hmk := Go.run_make_row' (P := Tryz.prog) 42 3 (.int .i64 0) 8 Tryz.underlying42 info_int rfl .i64 .i64 0 (by omega) (by omega) w
  rw [show ((0 : Nat) : Int) = 0 from rfl] at hmk
  go_enter Tryz.func99, Tryz.ntmps99
  go_wp2_with fail
  refine (Mul_one 0 (by omega) _).mono ?_; rintro e w' ⟨rfl, rfl⟩
  obtain ⟨b, o, hA, hb, hcell⟩ := HR.out.all (by omega)
  subst hA
  go_wp2_with (with_reducible refine wpList_copy_splice rfl (.tmp 31) (.tmp 32) 42 42 rfl 3 Tryz.underlying42 (by kernel_rfl) (some ⟨w.heap.size, 0, none⟩) (some ⟨b, o, none⟩) 0 0 1 cap rfl rfl w.heap.size 0 (madeCells #[.int .i64 0] 0).toList 3 ?c1 [] ?c2 ?c3 ?c4 ?c5 w.heap.size w ?c6 (Nat.le_refl _) ?_)
  case c1 => rw [heap_alloc_new]
  case c2 => rfl
  case c4 => simp [size_madeCells]
  case c5 => simp
  case c6 => exact (Below.refl _ _).alloc (Nat.le_refl _) _
  intro w1 hg1 hb1
  clear hcell hmk
  go_wp2_with fail
  go_loopw [8] (fun bp wr => bp = .int .i64 0 ∧ wr = w1) (fun bp _ => 0)
  case atStart => exact ⟨rfl, rfl⟩
  case round =>
    obtain ⟨rfl, rfl⟩ := hrel
    go_wp2_with fail
    go_ret
    exact ⟨_, _, _, rfl, ⟨⟨rfl, fun h => absurd h (by omega)⟩, Nat.le_refl _, by omega⟩, hb1⟩
end Go.Proofs.YtbmooemlekckbaaGreatDoor

/- rle.one and its reference. -/
namespace Go.Proofs.YtbmooemlekckbaaGreatDoor
open Go.RowKit

theorem getD_u8o {l : List Int} (h : U8 l) (i : Nat) : 0 ≤ l.getD i 0 ∧ l.getD i 0 < 256 := by
  rcases Nat.lt_or_ge i l.length with h1 | h1
  · exact h _ (by simp [List.getD, List.getElem?_eq_getElem h1])
  · rw [show l.getD i 0 = 0 from by simp [List.getD, List.getElem?_eq_none h1]]; omega

set_option maxRecDepth 100000 in
set_option maxHeartbeats 1000000 in
theorem one_any (w : World) (A : Option Addr) (n cap : Nat) (b : List Int) (hr : Ri w .u8 A n b) (hu : U8 b) (hc : n ≤ cap) (hm : cap ≤ 9223372036854775807) (hn : n ≤ 100000) (s : Bool) (l r : List Int) (er : Int) (hl : oneR b s = (l, r, er)) :
    Calls Tryz.prog 65 #[.slice A n cap, .bool s] w (TakeOutD w l r er) := by
  have HR := Lib.hid hr; have HU := Lib.hid hu; have HN := Lib.hid hr.len
  clear hr hu
  unfold oneR at hl
  rw [HN.out] at hl
  by_cases h0 : n = 0
  · rw [if_pos h0] at hl
    injection hl with e1 e2; injection e2 with e2 e3
    subst e1 e2 e3 h0
    go_enter Tryz.func65, Tryz.ntmps65
    go_wp2_with fail
    refine bodyPost_ret (results_tmp3 rfl _ _ _) rfl ?_
    exact ⟨none, 0, 0, none, 0, 0, rfl, Sl.nil _ _, Sl.nil _ _, Below.refl _ _⟩
  · rw [if_neg h0] at hl
    obtain ⟨bb, oo, hA, hbl, hcells⟩ := HR.out.all (by omega)
    subst hA
    have g0 := hcells 0 (by omega)
    rw [Nat.add_zero] at g0
    have hx0 := getD_u8o HU.out 0
    obtain ⟨x, hx⟩ : ∃ x : Nat, (x : Int) = b.getD 0 0 := ⟨(b.getD 0 0).toNat, by omega⟩
    rw [← hx] at g0 hx0 hl
    clear hcells hx
    by_cases c0 : x < 64
    · rw [if_pos (by omega)] at hl
      obtain ⟨y, t, r1, e1, hT⟩ : ∃ y t r1 e1, takeR b s = (y, t, r1, e1) := ⟨_, _, _, _, rfl⟩
      have hrest := takeR_rest b s HU.out
      rw [hT] at hl hrest
      injection hl with e2 e3; injection e3 with e3 e4
      subst e2 e3 e4
      obtain ⟨T, rfl⟩ := Int.eq_ofNat_of_zero_le hrest.2.2.1
      have hT1 := hrest.2.2.2
      dsimp only at hT1 ⊢
      rw [Int.toNat_natCast]
      have HT := Lib.hid hT
      clear hT hrest
      go_enter Tryz.func65, Tryz.ntmps65
      go_wp2_with fail
      refine (Take_any _ _ _ b s _ HR.out HU.out hc hm (by omega) y T r1 e1 HT.out).mono ?_; rintro e2 w1 ⟨G1, n1, c1, rfl, hs1, hb1⟩
      have HS1 := Lib.hid hs1; have HB1 := Lib.hid hb1
      clear hs1 hb1
      go_wp2_with fail
      by_cases hT0 : T = 0
      · subst hT0
        refine (RepeatI_none _ _ _ y (Rd.one _ _ _)).mono ?_; rintro e2 w2 ⟨G2, n2, c2, rfl, hs2, hb2⟩
        go_wp2_with fail
        refine bodyPost_ret (results_tmp3 rfl _ _ _) rfl ?_
        exact ⟨_, _, _, _, _, _, rfl, hs2, (HS1.out.below ((Below.refl _ _).alloc (Nat.le_refl _) _)).below hb2, on (HB1.out.alloc HB1.out.size _) hb2⟩
      · refine (RepeatI_any _ _ _ y (Rd.one _ _ _) T (by omega) (by omega)).mono ?_; rintro e2 w2 ⟨G2, n2, c2, rfl, hs2, hb2⟩
        go_wp2_with fail
        refine bodyPost_ret (results_tmp3 rfl _ _ _) rfl ?_
        exact ⟨_, _, _, _, _, _, rfl, hs2, (HS1.out.below ((Below.refl _ _).alloc (Nat.le_refl _) _)).below hb2, on (HB1.out.alloc HB1.out.size _) hb2⟩
    · rw [if_neg (by omega)] at hl
      by_cases c1 : x < 128
      · rw [if_pos (by omega)] at hl
        have HL := Lib.hid hl
        clear hl
        go_enter Tryz.func65, Tryz.ntmps65
        go_wp2_with fail
        refine (DTake_any _ _ _ _ b HR.out HU.out hc hm (by omega) s l r er HL.out).mono ?_; rintro e2 w1 ⟨G1, n1, c1, G2, n2, c2, rfl, h1, h2, hb1⟩
        go_wp2_with fail
        refine bodyPost_ret (results_tmp3 rfl _ _ _) rfl ?_
        exact ⟨_, _, _, _, _, _, rfl, h1, h2, hb1⟩
      · rw [if_neg (by omega)] at hl
        by_cases c2 : x < 192
        · rw [if_pos (by omega)] at hl
          have HL := Lib.hid hl
          clear hl
          go_enter Tryz.func65, Tryz.ntmps65
          go_wp2_with fail
          refine (PTake_any _ _ _ _ b HR.out HU.out hc hm (by omega) s l r er HL.out).mono ?_; rintro e2 w1 ⟨G1, n1, c1, G2, n2, c2, rfl, h1, h2, hb1⟩
          go_wp2_with fail
          refine bodyPost_ret (results_tmp3 rfl _ _ _) rfl ?_
          exact ⟨_, _, _, _, _, _, rfl, h1, h2, hb1⟩
        · rw [if_neg (by omega)] at hl
          have HL := Lib.hid hl
          clear hl
          go_enter Tryz.func65, Tryz.ntmps65
          go_wp2_with fail
          refine (DeTake_any _ _ _ _ b HR.out HU.out hc hm (by omega) s l r er HL.out).mono ?_; rintro e2 w1 ⟨G1, n1, c1, G2, n2, c2, rfl, h1, h2, hb1⟩
          go_wp2_with fail
          refine bodyPost_ret (results_tmp3 rfl _ _ _) rfl ?_
          exact ⟨_, _, _, _, _, _, rfl, h1, h2, hb1⟩

set_option maxRecDepth 100000 in
set_option maxHeartbeats 1000000 in
theorem refOne_any (w : World) (A : Option Addr) (n cap : Nat) (b : List Int) (hr : Ri w .u8 A n b) (hu : U8 b) (hc : n ≤ cap) (hm : cap ≤ 9223372036854775807) (hn : n ≤ 100000) (s : Bool) (l r : List Int) (er : Int) (hl : oneR b s = (l, r, er)) :
    Calls Tryz.prog 45 #[.slice A n cap, .bool s] w (TakeOutD w l r er) := by
  have HR := Lib.hid hr; have HU := Lib.hid hu; have HN := Lib.hid hr.len
  clear hr hu
  unfold oneR at hl
  rw [HN.out] at hl
  by_cases h0 : n = 0
  · rw [if_pos h0] at hl
    injection hl with e1 e2; injection e2 with e2 e3
    subst e1 e2 e3 h0
    go_enter Tryz.func45, Tryz.ntmps45
    go_wp2_with fail
    refine bodyPost_ret (results_tmp3 rfl _ _ _) rfl ?_
    exact ⟨none, 0, 0, none, 0, 0, rfl, Sl.nil _ _, Sl.nil _ _, Below.refl _ _⟩
  · rw [if_neg h0] at hl
    obtain ⟨bb, oo, hA, hbl, hcells⟩ := HR.out.all (by omega)
    subst hA
    have g0 := hcells 0 (by omega)
    rw [Nat.add_zero] at g0
    have hx0 := getD_u8o HU.out 0
    obtain ⟨x, hx⟩ : ∃ x : Nat, (x : Int) = b.getD 0 0 := ⟨(b.getD 0 0).toNat, by omega⟩
    rw [← hx] at g0 hx0 hl
    clear hcells hx
    by_cases c0 : x < 64
    · rw [if_pos (by omega)] at hl
      obtain ⟨y, t, r1, e1, hT⟩ : ∃ y t r1 e1, takeR b s = (y, t, r1, e1) := ⟨_, _, _, _, rfl⟩
      have hrest := takeR_rest b s HU.out
      rw [hT] at hl hrest
      injection hl with e2 e3; injection e3 with e3 e4
      subst e2 e3 e4
      obtain ⟨T, rfl⟩ := Int.eq_ofNat_of_zero_le hrest.2.2.1
      have hT1 := hrest.2.2.2
      dsimp only at hT1 ⊢
      rw [Int.toNat_natCast]
      have HT := Lib.hid hT
      clear hT hrest
      go_enter Tryz.func45, Tryz.ntmps45
      go_wp2_with fail
      refine (refTake_any _ _ _ b s _ HR.out HU.out hc hm (by omega) y T r1 e1 HT.out).mono ?_; rintro e2 w1 ⟨G1, n1, c1, rfl, hs1, hb1⟩
      have HS1 := Lib.hid hs1; have HB1 := Lib.hid hb1
      clear hs1 hb1
      go_wp2_with fail
      go_loopw [11, 12] (fun v i wr => ∃ j : Nat, j ≤ T ∧ i = .int .i64 j ∧ Hid (wr.ownsRow w1.heap.size 3 1 v j ((List.replicate j y).map (Value.int .i64))) ∧ Hid (Below w1.heap.size w1 wr)) (fun _ i _ => T - (intOf i).toNat)
      case atStart => exact ⟨0, by omega, rfl, own_empty w1 _ 1, (Below.refl _ _).alloc (Nat.le_refl _) _⟩
      case round =>
        obtain ⟨j, hj, rfl, ho, hb⟩ := hrel
        obtain ⟨G, c, rfl⟩ := own_form ho.out
        have hz := hb.out.size
        by_cases hlt : j < T
        · have HO1 := Lib.hid (own_below ho.out ((Below.refl wr.heap.size wr).alloc (Nat.le_refl _) (.cells #[.int .i64 y] 3)))
          go_wp2_with (at_builtin; refine wpList_i64 _ rfl _ _ rfl w1.heap.size _ j (List.replicate j y) rfl HO1.out _ 1 1 [y] rfl (Rd.one _ _ _) (by omega) (by simp; omega) ?_; intro G3 c3 w3 hown hgr hcc)
          have hnb := below_of_grown (hb.out.alloc hz _) hgr (by simp; omega) (fun k hk => (HO1.out.lt k hk).1)
          rw [← List.replicate_succ'] at hown
          have HOWN := Lib.hid hown; have HNB := Lib.hid hnb
          clear hown hgr hnb
          go_wp2_with fail
          go_roundw
          case rel => exact ⟨j + 1, by omega, by go_num, HOWN, HNB⟩
          case measure => simp [intOf] <;> omega
        · obtain rfl : j = T := by omega
          go_wp2_with fail
          refine bodyPost_ret (results_tmp3 rfl _ _ _) rfl ?_
          exact ⟨_, _, _, _, _, _, rfl, Sl.of_own ho.out, HS1.out.below hb.out, on HB1.out hb.out⟩
    · rw [if_neg (by omega)] at hl
      by_cases c1 : x < 128
      · rw [if_pos (by omega)] at hl
        have HL := Lib.hid hl
        clear hl
        go_enter Tryz.func45, Tryz.ntmps45
        go_wp2_with fail
        refine (refDTake_any _ _ _ _ b HR.out HU.out hc hm (by omega) s l r er HL.out).mono ?_; rintro e2 w1 ⟨G1, n1, c1, G2, n2, c2, rfl, h1, h2, hb1⟩
        go_wp2_with fail
        refine bodyPost_ret (results_tmp3 rfl _ _ _) rfl ?_
        exact ⟨_, _, _, _, _, _, rfl, h1, h2, hb1⟩
      · rw [if_neg (by omega)] at hl
        by_cases c2 : x < 192
        · rw [if_pos (by omega)] at hl
          have HL := Lib.hid hl
          clear hl
          go_enter Tryz.func45, Tryz.ntmps45
          go_wp2_with fail
          refine (refPTake_any _ _ _ _ b HR.out HU.out hc hm (by omega) s l r er HL.out).mono ?_; rintro e2 w1 ⟨G1, n1, c1, G2, n2, c2, rfl, h1, h2, hb1⟩
          go_wp2_with fail
          refine bodyPost_ret (results_tmp3 rfl _ _ _) rfl ?_
          exact ⟨_, _, _, _, _, _, rfl, h1, h2, hb1⟩
        · rw [if_neg (by omega)] at hl
          have HL := Lib.hid hl
          clear hl
          go_enter Tryz.func45, Tryz.ntmps45
          go_wp2_with fail
          refine (refDeTake_any _ _ _ _ b HR.out HU.out hc hm (by omega) s l r er HL.out).mono ?_; rintro e2 w1 ⟨G1, n1, c1, G2, n2, c2, rfl, h1, h2, hb1⟩
          go_wp2_with fail
          refine bodyPost_ret (results_tmp3 rfl _ _ _) rfl ?_
          exact ⟨_, _, _, _, _, _, rfl, h1, h2, hb1⟩
end Go.Proofs.YtbmooemlekckbaaGreatDoor

/- rle.Take. -/
namespace Go.Proofs.YtbmooemlekckbaaGreatDoor
open Go.RowKit

/-- The state while runs are taken. -/
def TakeGW (w wr : World) (N M : Nat) (s : Bool) (res : List Int × List Int × Int) (bv v : Value) : Prop :=
  ∃ A m c l o f, bv = .slice A m c ∧ Ri wr .u8 A m l ∧ U8 l ∧ m ≤ c ∧ c ≤ 9223372036854775807 ∧ m ≤ N ∧ wr.ownsRow w.heap.size 3 1 v o.length (o.map (Value.int .i64)) ∧ Ints wr v ∧ Below w.heap.size w wr ∧ takeF s M f o l = res ∧ m < f ∧ o.length ≤ M

set_option maxRecDepth 100000 in
set_option maxHeartbeats 2000000 in
theorem TakeGl_any (w : World) (A : Option Addr) (n cap : Nat) (b : List Int) (hr : Ri w .u8 A n b) (hu : U8 b) (hc : n ≤ cap) (hm : cap ≤ 9223372036854775807) (hn : n ≤ 100000) (many : Int) (s : Bool) (l r : List Int) (er : Int) (hp : takeGl b many s = (l, r, er)) :
    Calls Tryz.prog 41 #[.slice A n cap, .int .i64 many, .bool s] w (TakeOutD w l r er) := by
  have HR := Lib.hid hr; have HU := Lib.hid hu; have HN := Lib.hid hr.len
  clear hr hu
  unfold takeGl at hp
  by_cases hbad : many < 0 ∨ 4096 < many
  · rw [if_pos hbad] at hp
    injection hp with e1 e2; injection e2 with e2 e3
    subst e1 e2 e3
    rcases hbad with hbad | hbad
    all_goals
      go_enter Tryz.func41, Tryz.ntmps41
      go_wp2_with fail
      refine bodyPost_ret (results_tmp3 rfl _ _ _) rfl ?_
      exact ⟨none, 0, 0, none, 0, 0, rfl, Sl.nil _ _, Sl.nil _ _, Below.refl _ _⟩
  · rw [if_neg hbad] at hp
    obtain ⟨M, rfl⟩ := Int.eq_ofNat_of_zero_le (show 0 ≤ many by omega)
    have hM : M ≤ 4096 := by omega
    rw [Int.toNat_natCast, HN.out] at hp
    have HP := Lib.hid hp
    clear hp hbad
    go_enter Tryz.func41, Tryz.ntmps41
    go_wp2_with fail
    go_loopw [0, 9] (fun bv v wr => Hid (TakeGW w wr n M s (l, r, er) bv v)) (fun bv _ _ => lenS bv)
    case atStart => exact ⟨A, n, cap, b, [], n + 1, rfl, HR.out, HU.out, hc, hm, Nat.le_refl _, World.ownsRow_nil _ _ _ _, Ints.nil _ _ _, Below.refl _ _, HP.out, Nat.lt_succ_self _, by simp⟩
    case round =>
      obtain ⟨A1, n1, c1, b1, o, f, rfl, hr1, hu1, hc1, hcm1, hn1, ho, hi, hb, hd, hf, hol⟩ := hrel.out
      obtain ⟨G, gc, rfl⟩ := own_form ho
      have hgc := own_cap ho
      have HR1 := Lib.hid hr1; have HU1 := Lib.hid hu1; have HO := Lib.hid ho; have HI := Lib.hid hi; have HB := Lib.hid hb; have HL1 := Lib.hid hr1.len
      obtain ⟨f, rfl⟩ : ∃ g, f = g + 1 := ⟨f - 1, by omega⟩
      simp only [takeF] at hd
      clear hrel hr1 hu1 ho hi hb
      by_cases hge : M ≤ o.length
      · obtain rfl : o.length = M := by omega
        rw [if_pos hge] at hd
        injection hd with e1 e2; injection e2 with e2 e3
        subst e1 e2 e3
        go_wp2_with fail
        refine (Clone_any _ _ _ _ _ HR1.out (by omega)).mono ?_; rintro e w2 ⟨G2, n2, c2, rfl, hr2, hb2⟩
        go_wp2_with fail
        refine bodyPost_ret (results_tmp3 rfl _ _ _) rfl ?_
        exact ⟨_, _, _, G2, n2, c2, rfl, (Sl.of_own HO.out).below hb2, hr2, on HB.out hb2⟩
      · rw [if_neg hge] at hd
        have hres := one_rest b1 s HU1.out
        have hgood := (one_good b1 s HU1.out).2
        obtain ⟨l2, r2, e2, hone⟩ : ∃ l r e, oneR b1 s = (l, r, e) := ⟨_, _, _, rfl⟩
        rw [hone] at hd hres hgood
        dsimp only at hd hres hgood
        have HONE := Lib.hid hone
        have HU2 := Lib.hid hres.1
        have hres2 := hres.2
        rw [HL1.out] at hres2
        clear hone hres
        go_wp2_with fail
        refine (one_any _ _ _ _ b1 HR1.out HU1.out hc1 hcm1 (by omega) s l2 r2 e2 HONE.out).mono ?_; rintro e w2 ⟨G2, n2, c2, G3, n3, c3, rfl, hs2, hs3, hb2⟩
        have HB2 := Lib.hid (on HB.out hb2); have HO2 := Lib.hid (own_below HO.out hb2); have HI2 := Lib.hid (HI.out.below hb2)
        have HS2 := Lib.hid hs2; have HS3 := Lib.hid hs3.1
        have hn2 := hs2.1.len; have hn3 := hs3.1.len; have hc3 := hs3.2
        have hz2 := HB2.out.size
        clear hs2 hs3 hb2
        by_cases he : e2 = 0
        · subst he
          have hlt3 := hres2 rfl
          by_cases hov : M < o.length + l2.length
          · rw [if_pos (.inr hov)] at hd
            injection hd with e1 e2; injection e2 with e2 e3
            subst e1 e2 e3
            rw [hn2] at hov
            go_wp2_with fail
            refine bodyPost_ret (results_tmp3 rfl _ _ _) rfl ?_
            exact ⟨none, 0, 0, none, 0, 0, rfl, Sl.nil _ _, Sl.nil _ _, HB2.out⟩
          · rw [if_neg (by rintro (h | h); exact h rfl; exact hov h)] at hd
            rw [hn2] at hov hgood
            have HD := Lib.hid hd
            clear hd hres2
            go_wp2_with (at_builtin; refine wpList_ints _ rfl _ _ rfl w.heap.size _ o.length o rfl HO2.out HI2.out _ n2 c2 l2 rfl HS2.out.1 (by omega) hz2 ?_; intro G4 c4 w4 hown hgr hint)
            have HOWN := Lib.hid hown; have HINT := Lib.hid hint; have HR4 := Lib.hid (HI2.out.keep HS3.out hgr); have HB4 := Lib.hid (push0 HB2.out (Nat.le_refl _) HO2.out hgr)
            clear hown hgr hint
            all_goals
              go_wp2_with fail
            all_goals
              refine ⟨⟨_, _, _, r2, o ++ l2, f, rfl, HR4.out, HU2.out, hc3.1, hc3.2, by omega, ?_, HINT.out, HB4.out, HD.out, by omega, ?_⟩, ?_⟩
              · rw [List.length_append, hn2]
                exact HOWN.out
              · rw [List.length_append, hn2]
                omega
              · show n3 < n1
                omega
        · rw [if_pos (.inl he)] at hd
          injection hd with e1 e2; injection e2 with e2 e3
          subst e1 e2 e3
          have heb : (e2 == 0) = false := by simp [he]
          go_wp2_with fail
          refine bodyPost_ret (results_tmp3 rfl _ _ _) rfl ?_
          exact ⟨none, 0, 0, none, 0, 0, rfl, Sl.nil _ _, Sl.nil _ _, HB2.out⟩
end Go.Proofs.YtbmooemlekckbaaGreatDoor

/- pilasterref11.Take. -/
namespace Go.Proofs.YtbmooemlekckbaaGreatDoor
open Go.RowKit

/-- The state while the reference takes runs: it may have taken more than it should. -/
def TakeGR (w wr : World) (N M : Nat) (s : Bool) (res : List Int × List Int × Int) (bv v : Value) : Prop :=
  ∃ A m c l o f, bv = .slice A m c ∧ Ri wr .u8 A m l ∧ U8 l ∧ m ≤ c ∧ c ≤ 9223372036854775807 ∧ m ≤ N ∧ wr.ownsRow w.heap.size 3 1 v o.length (o.map (Value.int .i64)) ∧ Ints wr v ∧ Below w.heap.size w wr ∧ m < f ∧
    ((o.length ≤ M ∧ takeF s M f o l = res) ∨ (M < o.length ∧ o.length ≤ M + 4096 ∧ res = ([], [], 2)))

set_option maxRecDepth 100000 in
set_option maxHeartbeats 2000000 in
theorem refTakeGl_any (w : World) (A : Option Addr) (n cap : Nat) (b : List Int) (hr : Ri w .u8 A n b) (hu : U8 b) (_hc : n ≤ cap) (_hm : cap ≤ 9223372036854775807) (hn : n ≤ 100000) (many : Int) (s : Bool) (l r : List Int) (er : Int) (hp : takeGl b many s = (l, r, er)) :
    Calls Tryz.prog 30 #[.slice A n cap, .int .i64 many, .bool s] w (TakeOutD w l r er) := by
  have HR := Lib.hid hr; have HU := Lib.hid hu; have HN := Lib.hid hr.len
  clear hr hu
  unfold takeGl at hp
  by_cases hbad : many < 0 ∨ 4096 < many
  · rw [if_pos hbad] at hp
    injection hp with e1 e2; injection e2 with e2 e3
    subst e1 e2 e3
    rcases hbad with hbad | hbad
    all_goals
      go_enter Tryz.func30, Tryz.ntmps30
      go_wp2_with fail
      refine bodyPost_ret (results_tmp3 rfl _ _ _) rfl ?_
      exact ⟨none, 0, 0, none, 0, 0, rfl, Sl.nil _ _, Sl.nil _ _, Below.refl _ _⟩
  · rw [if_neg hbad] at hp
    obtain ⟨M, rfl⟩ := Int.eq_ofNat_of_zero_le (show 0 ≤ many by omega)
    have hM : M ≤ 4096 := by omega
    rw [Int.toNat_natCast, HN.out] at hp
    have HP := Lib.hid hp
    clear hp hbad
    have hba := ((Below.refl w.heap.size w).alloc (Nat.le_refl _) (.cells #[] 3))
    have HRA := Lib.hid ((HR.out.below hba).below ((Below.refl _ _).alloc (Nat.le_refl _) (.cells #[] 5)))
    clear hba
    have hown0 : ((w.alloc (.cells #[] 3)).alloc (.cells #[] 5)).ownsRow (w.heap.size + 1) 5 1 (.slice (some ⟨w.heap.size + 1, 0, none⟩) 0 0) 0 (([] : List Int).map (Value.int .u8)) := by
      have h := own_empty (w.alloc (.cells #[] 3)) 5 1
      rwa [World.size_alloc] at h
    have HO0 := Lib.hid hown0
    clear hown0
    go_enter Tryz.func30, Tryz.ntmps30
    go_wp2_with (at_builtin; refine wpList_u8 _ rfl _ _ rfl (w.heap.size + 1) _ 0 [] rfl HO0.out _ n _ b rfl HRA.out (by omega) (by simp) ?_; intro G0 c0 w0 hown hgr hcc)
    have hb0 : Below (w.alloc (.cells #[] 3)).heap.size (w.alloc (.cells #[] 3)) w0 := below_of_grown ((Below.refl _ _).alloc (Nat.le_refl _) _) hgr (by simp) (fun k hk => by injection hk with hk; subst hk; simp)
    have HOU := Lib.hid (own_below (own_empty w 3 1) hb0)
    have hint : Ints (w.alloc (.cells #[] 3)) (.slice (some ⟨w.heap.size, 0, none⟩) 0 0) := fun g hg => by
      injection hg with hg
      dsimp only at hg
      subst hg
      exact ⟨_, _, _, heap_alloc_new w _, fun u hu => by simp at hu⟩
    have HIN := Lib.hid (hint.below hb0)
    have HB0 := Lib.hid (on ((Below.refl w.heap.size w).alloc (Nat.le_refl _) _) hb0)
    have hs0 := Sl.of_own hown
    rw [Nat.zero_add, List.nil_append] at hs0
    have hcap0 := hs0.2
    have HS0 := Lib.hid hs0.1
    clear hown hgr hcc hb0 hint hs0
    go_wp2_with fail
    go_loopw [9, 10] (fun v bv wr => Hid (TakeGR w wr n M s (l, r, er) bv v)) (fun _ bv _ => lenS bv)
    case atStart => exact ⟨_, n, c0, b, [], n + 1, rfl, HS0.out, HU.out, hcap0.1, hcap0.2, Nat.le_refl _, HOU.out, HIN.out, HB0.out, Nat.lt_succ_self _, .inl ⟨by simp, HP.out⟩⟩
    case round =>
      obtain ⟨A1, n1, c1, b1, o, f, rfl, hr1, hu1, hc1, hcm1, hn1, ho, hi, hb, hf, hd⟩ := hrel.out
      obtain ⟨G, gc, rfl⟩ := own_form ho
      have hgc := own_cap ho
      have HR1 := Lib.hid hr1; have HU1 := Lib.hid hu1; have HO := Lib.hid ho; have HI := Lib.hid hi; have HB := Lib.hid hb; have HL1 := Lib.hid hr1.len
      obtain ⟨f, rfl⟩ : ∃ g, f = g + 1 := ⟨f - 1, by omega⟩
      clear hrel hr1 hu1 ho hi hb
      rcases hd with ⟨hol, hd⟩ | ⟨hol, hol2, hd⟩
      · simp only [takeF] at hd
        by_cases hge : M ≤ o.length
        · obtain rfl : o.length = M := by omega
          rw [if_pos hge] at hd
          injection hd with e1 e2; injection e2 with e2 e3
          subst e1 e2 e3
          go_wp2_with fail
          refine bodyPost_ret (results_tmp3 rfl _ _ _) rfl ?_
          exact ⟨_, _, _, _, _, _, rfl, Sl.of_own HO.out, ⟨HR1.out, hc1, hcm1⟩, HB.out⟩
        · rw [if_neg hge] at hd
          have hres := one_rest b1 s HU1.out
          have hgood := (one_good b1 s HU1.out).2
          obtain ⟨l2, r2, e2, hone⟩ : ∃ l r e, oneR b1 s = (l, r, e) := ⟨_, _, _, rfl⟩
          rw [hone] at hd hres hgood
          dsimp only at hd hres hgood
          have HONE := Lib.hid hone
          have HU2 := Lib.hid hres.1
          have hres2 := hres.2
          rw [HL1.out] at hres2
          clear hone hres
          go_wp2_with fail
          refine (refOne_any _ _ _ _ b1 HR1.out HU1.out hc1 hcm1 (by omega) s l2 r2 e2 HONE.out).mono ?_; rintro e w2 ⟨G2, n2, c2, G3, n3, c3, rfl, hs2, hs3, hb2⟩
          have HB2 := Lib.hid (on HB.out hb2); have HO2 := Lib.hid (own_below HO.out hb2); have HI2 := Lib.hid (HI.out.below hb2)
          have HS2 := Lib.hid hs2; have HS3 := Lib.hid hs3.1
          have hn2 := hs2.1.len; have hn3 := hs3.1.len; have hc3 := hs3.2
          have hz2 := HB2.out.size
          clear hs2 hs3 hb2
          by_cases he : e2 = 0
          · subst he
            have hlt3 := hres2 rfl
            have hnew : (o.length + n2 ≤ M ∧ takeF s M f (o ++ l2) r2 = (l, r, er)) ∨ (M < o.length + n2 ∧ o.length + n2 ≤ M + 4096 ∧ (l, r, er) = ([], [], 2)) := by
              by_cases hov : M < o.length + l2.length
              · rw [if_pos (.inr hov)] at hd
                exact .inr ⟨by omega, by omega, hd.symm⟩
              · rw [if_neg (by rintro (h | h); exact h rfl; exact hov h)] at hd
                exact .inl ⟨by omega, hd⟩
            rw [hn2] at hgood
            have HNEW := Lib.hid hnew
            clear hd hres2 hnew
            go_wp2_with (at_builtin; refine wpList_ints _ rfl _ _ rfl w.heap.size _ o.length o rfl HO2.out HI2.out _ n2 c2 l2 rfl HS2.out.1 (by omega) hz2 ?_; intro G4 c4 w4 hown hgr hint)
            have HOWN := Lib.hid hown; have HINT := Lib.hid hint; have HR4 := Lib.hid (HI2.out.keep HS3.out hgr); have HB4 := Lib.hid (push0 HB2.out (Nat.le_refl _) HO2.out hgr)
            clear hown hgr hint
            go_wp2_with fail
            have hlo : (o ++ l2).length = o.length + n2 := by rw [List.length_append, hn2]
            refine ⟨⟨_, _, _, r2, o ++ l2, f, rfl, HR4.out, HU2.out, hc3.1, hc3.2, by omega, ?_, HINT.out, HB4.out, by omega, ?_⟩, ?_⟩
            · rw [hlo]
              exact HOWN.out
            · rw [hlo]
              exact HNEW.out
            · show n3 < n1
              omega
          · rw [if_pos (.inl he)] at hd
            injection hd with e1 e2; injection e2 with e2 e3
            subst e1 e2 e3
            have heb : (e2 == 0) = false := by simp [he]
            go_wp2_with fail
            refine bodyPost_ret (results_tmp3 rfl _ _ _) rfl ?_
            exact ⟨none, 0, 0, none, 0, 0, rfl, Sl.nil _ _, Sl.nil _ _, HB2.out⟩
      · injection hd with e1 e2; injection e2 with e2 e3
        subst e1 e2 e3
        go_wp2_with fail
        refine bodyPost_ret (results_tmp3 rfl _ _ _) rfl ?_
        exact ⟨none, 0, 0, none, 0, 0, rfl, Sl.nil _ _, Sl.nil _ _, HB.out⟩
end Go.Proofs.YtbmooemlekckbaaGreatDoor

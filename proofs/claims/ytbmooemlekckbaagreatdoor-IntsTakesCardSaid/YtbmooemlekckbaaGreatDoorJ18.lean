/- Joined texts: Diff, RepeatU, RepPl. Each has its own head line. No condition beyond those that its theorems state. -/
import Derived.Handy
import Derived.BigQuiet
import Derived.Test.YtbmooemlekckbaaGreatDoorJ05
import Derived.Test.YtbmooemlekckbaaGreatDoorJ13
import Derived.Test.YtbmooemlekckbaaGreatDoorJ04
import Derived.Test.YtbmooemlekckbaaGreatDoorJ17
set_option linter.unusedVariables false

/- delta.Diff, Step and their references. -/
namespace Go.Proofs.YtbmooemlekckbaaGreatDoor
open Go.RowKit

def diffR (a b : Int) : Int × Bool × Bool :=
  if (if b < a then a - b else b - a) ≥ 9223372036854775808 then (0, false, false) else (if b < a then a - b else b - a, decide (b < a), true)
def stepR (a u : Int) (f : Bool) : Int × Bool :=
  if u ≥ 9223372036854775808 then (0, false)
  else if f then (if a - u < -9223372036854775808 then (0, false) else (a - u, true))
  else (if a + u ≥ 9223372036854775808 then (0, false) else (a + u, true))
def I64x (x : Int) : Prop := -9223372036854775808 ≤ x ∧ x < 9223372036854775808
theorem stepR_range (a u : Int) (f : Bool) (ha : I64x a) (hu : 0 ≤ u) : I64x (stepR a u f).1 := by
  unfold stepR I64x at *
  split
  · simp
  · split
    · split
      · simp
      · dsimp only; omega
    · split
      · simp
      · dsimp only; omega
theorem diffR_range (a b : Int) : 0 ≤ (diffR a b).1 ∧ (diffR a b).1 < 9223372036854775808 := by
  unfold diffR
  by_cases h : b < a
  · rw [if_pos h]
    split
    · simp
    · dsimp only; omega
  · rw [if_neg h]
    split
    · simp
    · dsimp only; omega
/-- Three of a difference are handed back. -/
def DiffOut (w : World) (u : Int) (f ok : Bool) (e : Ending) (w' : World) : Prop :=
  e = .returned (.tuple #[.int .u64 u, .bool f, .bool ok]) ∧ Below w.heap.size w w'

set_option maxRecDepth 100000 in
set_option maxHeartbeats 1000000 in
theorem Diff_any (w : World) (a b : Int) (ha : I64x a) (hb : I64x b) (u : Int) (f ok : Bool) (hl : diffR a b = (u, f, ok)) :
    Calls Tryz.prog 137 #[.int .i64 a, .int .i64 b] w (DiffOut w u f ok) := by
  unfold I64x at ha hb
  have HA := Lib.hid ha; have HB := Lib.hid hb
  obtain ⟨D, hD⟩ : ∃ D, D = (if b < a then b - a + 18446744073709551616 else b - a) := ⟨_, rfl⟩
  have he : IntKind.u64.wrap (IntKind.u64.wrap b - IntKind.u64.wrap a) = D := by
    rw [hD, IntKind.wrap_u64, IntKind.wrap_u64, IntKind.wrap_u64]; split <;> omega
  have hDr : 0 ≤ D ∧ D < 18446744073709551616 := by rw [hD]; split <;> omega
  unfold diffR at hl
  by_cases hlt : b < a
  · rw [if_pos hlt] at hl hD
    have he2 : IntKind.u64.wrap (-D) = a - b := by rw [IntKind.wrap_u64]; omega
    by_cases hbig : a - b ≥ 9223372036854775808
    · rw [if_pos hbig] at hl
      injection hl with h1 hl; injection hl with h2 h3
      subst h1 h2 h3
      have HD := Lib.hid hD
      have hq : (9223372036854775808 : Int) ≤ a - b := hbig
      clear hD ha hb hbig
      go_enter Tryz.func137, Tryz.ntmps137
      go_wp2_with fail
      go_returns
      exact ⟨rfl, by first | go_grown | omega               ⟩
    · rw [if_neg hbig, decide_eq_true hlt] at hl
      injection hl with h1 hl; injection hl with h2 h3
      subst h1 h2 h3
      have HD := Lib.hid hD
      have hq : ¬ (9223372036854775808 : Int) ≤ a - b := hbig
      clear hD ha hb hbig
      go_enter Tryz.func137, Tryz.ntmps137
      go_wp2_with fail
      go_region
      all_goals
        go_wp2_with fail
        go_returns
        exact ⟨rfl, by first | go_grown | omega               ⟩
  · rw [if_neg hlt] at hl hD
    subst hD
    by_cases hbig : b - a ≥ 9223372036854775808
    · rw [if_pos hbig] at hl
      injection hl with h1 hl; injection hl with h2 h3
      subst h1 h2 h3
      have hq : (9223372036854775808 : Int) ≤ b - a := hbig
      clear ha hb hbig
      go_enter Tryz.func137, Tryz.ntmps137
      go_wp2_with fail
      go_returns
      exact ⟨rfl, by first | go_grown | omega               ⟩
    · rw [if_neg hbig, decide_eq_false hlt] at hl
      injection hl with h1 hl; injection hl with h2 h3
      subst h1 h2 h3
      have hq : ¬ (9223372036854775808 : Int) ≤ b - a := hbig
      clear ha hb hbig
      go_enter Tryz.func137, Tryz.ntmps137
      go_wp2_with fail
      go_region
      all_goals
        go_wp2_with fail
        go_returns
        exact ⟨rfl, by first | go_grown | omega               ⟩
set_option maxRecDepth 100000 in
set_option maxHeartbeats 1000000 in
theorem refDiff_any (w : World) (a b : Int) (ha : I64x a) (hb : I64x b) (u : Int) (f ok : Bool) (hl : diffR a b = (u, f, ok)) :
    Calls Tryz.prog 90 #[.int .i64 a, .int .i64 b] w fun e w' => e = .returned (.tuple #[.int .u64 u, .bool f, .bool ok]) ∧ w = w' := by
  unfold I64x at ha hb
  unfold diffR at hl
  by_cases hlt : b < a
  · rw [if_pos hlt] at hl
    have he : IntKind.u64.wrap (IntKind.u64.wrap a - IntKind.u64.wrap b) = a - b := by
      rw [IntKind.wrap_u64, IntKind.wrap_u64, IntKind.wrap_u64]; omega
    by_cases hbig : a - b ≥ 9223372036854775808
    · rw [if_pos hbig] at hl
      injection hl with h1 hl; injection hl with h2 h3
      subst h1 h2 h3
      have hq : (9223372036854775808 : Int) ≤ a - b := hbig
      clear ha hb hbig
      go_enter Tryz.func90, Tryz.ntmps90
      go_wp2_with fail
      go_returns
      exact ⟨rfl, rfl⟩
    · rw [if_neg hbig, decide_eq_true hlt] at hl
      injection hl with h1 hl; injection hl with h2 h3
      subst h1 h2 h3
      have hq : ¬ (9223372036854775808 : Int) ≤ a - b := hbig
      clear ha hb hbig
      go_enter Tryz.func90, Tryz.ntmps90
      go_wp2_with fail
      go_returns
      exact ⟨rfl, rfl⟩
  · rw [if_neg hlt] at hl
    have he : IntKind.u64.wrap (IntKind.u64.wrap b - IntKind.u64.wrap a) = b - a := by
      rw [IntKind.wrap_u64, IntKind.wrap_u64, IntKind.wrap_u64]; omega
    by_cases hbig : b - a ≥ 9223372036854775808
    · rw [if_pos hbig] at hl
      injection hl with h1 hl; injection hl with h2 h3
      subst h1 h2 h3
      have hq : (9223372036854775808 : Int) ≤ b - a := hbig
      clear ha hb hbig
      go_enter Tryz.func90, Tryz.ntmps90
      go_wp2_with fail
      go_returns
      exact ⟨rfl, rfl⟩
    · rw [if_neg hbig, decide_eq_false hlt] at hl
      injection hl with h1 hl; injection hl with h2 h3
      subst h1 h2 h3
      have hq : ¬ (9223372036854775808 : Int) ≤ b - a := hbig
      clear ha hb hbig
      go_enter Tryz.func90, Tryz.ntmps90
      go_wp2_with fail
      go_returns
      exact ⟨rfl, rfl⟩

/-- A number and whether it is one. -/
def StepOut (w : World) (x : Int) (ok : Bool) (e : Ending) (w' : World) : Prop := e = .returned (.tuple #[.int .i64 x, .bool ok]) ∧ w = w'
set_option maxRecDepth 100000 in
set_option maxHeartbeats 1000000 in
theorem Step_any (w : World) (a u : Int) (f : Bool) (ha : I64x a) (hu : 0 ≤ u ∧ u < 18446744073709551616) (x : Int) (ok : Bool) (hl : stepR a u f = (x, ok)) :
    Calls Tryz.prog 135 #[.int .i64 a, .int .u64 u, .bool f] w (StepOut w x ok) := by
  unfold I64x at ha
  unfold stepR at hl
  obtain ⟨hu1, hu2⟩ := hu
  obtain ⟨P, hP⟩ : ∃ P, P = wrap64 (IntKind.u64.wrap (IntKind.u64.wrap a + u)) := ⟨_, rfl⟩
  obtain ⟨M, hM⟩ : ∃ M, M = wrap64 (IntKind.u64.wrap (IntKind.u64.wrap a - u)) := ⟨_, rfl⟩
  have hPv : P = if a + u < 9223372036854775808 then a + u else if a + u < 27670116110564327424 then a + u - 18446744073709551616 else a + u - 36893488147419103232 := by
    rw [hP, IntKind.wrap_u64, IntKind.wrap_u64]; unfold wrap64; split <;> omega
  have hMv : M = if -9223372036854775808 ≤ a - u then a - u else if -27670116110564327424 ≤ a - u then a - u + 18446744073709551616 else a - u + 36893488147419103232 := by
    rw [hM, IntKind.wrap_u64, IntKind.wrap_u64]; unfold wrap64; split <;> omega
  have hP' := hP.symm
  have hM' := hM.symm
  clear hP hM
  by_cases hbig : u ≥ 9223372036854775808
  · rw [if_pos hbig] at hl
    injection hl with h1 h2
    subst h1 h2
    clear hPv hMv
    cases f
    all_goals
      go_enter Tryz.func135, Tryz.ntmps135
      go_wp2_with fail
      go_returns
      exact ⟨rfl, rfl⟩
  · rw [if_neg hbig] at hl
    cases f
    · rw [if_neg (by decide)] at hl
      by_cases h : a + u ≥ 9223372036854775808
      · rw [if_pos h] at hl
        injection hl with h1 h2
        subst h1 h2
        have hlt : P < a := by rw [hPv]; split <;> omega
        clear hPv hMv h hbig ha
        go_enter Tryz.func135, Tryz.ntmps135
        go_wp2_with fail
        all_goals
          go_returns
          exact ⟨rfl, rfl⟩
      · rw [if_neg h] at hl
        injection hl with h1 h2
        subst h1 h2
        have hPe : P = a + u := by rw [hPv, if_pos (by omega)]
        have hlt : ¬ P < a := by omega
        have hE := Lib.hid hPe
        have hbig2 : ¬ (9223372036854775808 : Int) ≤ u := hbig
        clear hPv hMv hPe h ha hbig
        go_enter Tryz.func135, Tryz.ntmps135
        go_wp2_with fail
        all_goals
          go_returns
          exact ⟨by rw [← hE.out]; rfl, rfl⟩
    · rw [if_pos rfl] at hl
      by_cases h : a - u < -9223372036854775808
      · rw [if_pos h] at hl
        injection hl with h1 h2
        subst h1 h2
        have hlt : a < M := by rw [hMv]; split <;> omega
        clear hPv hMv h hbig ha
        go_enter Tryz.func135, Tryz.ntmps135
        go_wp2_with fail
        all_goals
          go_returns
          exact ⟨rfl, rfl⟩
      · rw [if_neg h] at hl
        injection hl with h1 h2
        subst h1 h2
        have hMe : M = a - u := by rw [hMv, if_pos (by omega)]
        have hlt : ¬ a < M := by omega
        have hE := Lib.hid hMe
        have hbig2 : ¬ (9223372036854775808 : Int) ≤ u := hbig
        clear hPv hMv hMe h ha hbig
        go_enter Tryz.func135, Tryz.ntmps135
        go_wp2_with fail
        all_goals
          go_returns
          exact ⟨by rw [← hE.out]; rfl, rfl⟩
set_option maxRecDepth 100000 in
set_option maxHeartbeats 1000000 in
theorem refStep_any (w : World) (a u : Int) (f : Bool) (ha : I64x a) (hu : 0 ≤ u ∧ u < 18446744073709551616) (x : Int) (ok : Bool) (hl : stepR a u f = (x, ok)) :
    Calls Tryz.prog 106 #[.int .i64 a, .int .u64 u, .bool f] w (StepOut w x ok) := by
  unfold I64x at ha
  unfold stepR at hl
  obtain ⟨hu1, hu2⟩ := hu
  by_cases hbig : u ≥ 9223372036854775808
  · rw [if_pos hbig] at hl
    injection hl with h1 h2
    subst h1 h2
    go_enter Tryz.func106, Tryz.ntmps106
    go_wp2_with fail
    go_returns
    exact ⟨rfl, rfl⟩
  · rw [if_neg hbig] at hl
    have hbig2 : u < 9223372036854775808 := by omega
    cases f
    · rw [if_neg (by decide)] at hl
      by_cases h : a + u ≥ 9223372036854775808
      · rw [if_pos h] at hl
        injection hl with h1 h2
        subst h1 h2
        have hlt : 9223372036854775807 - u < a := by omega
        go_enter Tryz.func106, Tryz.ntmps106
        go_wp2_with fail
        go_returns
        exact ⟨rfl, rfl⟩
      · rw [if_neg h] at hl
        injection hl with h1 h2
        subst h1 h2
        have hlt : ¬ 9223372036854775807 - u < a := by omega
        go_enter Tryz.func106, Tryz.ntmps106
        go_wp2_with fail
        go_returns
        exact ⟨rfl, rfl⟩
    · rw [if_pos rfl] at hl
      by_cases h : a - u < -9223372036854775808
      · rw [if_pos h] at hl
        injection hl with h1 h2
        subst h1 h2
        have hlt : a < -9223372036854775808 + u := by omega
        go_enter Tryz.func106, Tryz.ntmps106
        go_wp2_with fail
        go_returns
        exact ⟨rfl, rfl⟩
      · rw [if_neg h] at hl
        injection hl with h1 h2
        subst h1 h2
        have hlt : ¬ a < -9223372036854775808 + u := by omega
        go_enter Tryz.func106, Tryz.ntmps106
        go_wp2_with fail
        go_returns
        exact ⟨rfl, rfl⟩
end Go.Proofs.YtbmooemlekckbaaGreatDoor

/- slices.Repeat of one element of type uint64. -/
namespace Go.Proofs.YtbmooemlekckbaaGreatDoor
open Go.RowKit

def RepWU (w0 wr : World) (M q : Nat) (c : Int) : Prop :=
  ∃ cur : List Value, wr.heap[w0.heap.size]? = some (.cells cur.toArray 94 (0, 0)) ∧ cur.length = M ∧ (∀ j, j < q → cur[j]? = some (.int .u64 c)) ∧ Below w0.heap.size w0 wr
theorem RepWU.ri {w0 wr : World} {M n : Nat} {c : Int} (h : RepWU w0 wr M n c) (cap : Nat) (hn : n ≤ cap ∧ cap ≤ 9223372036854775807) : Sl wr .u64 (some ⟨w0.heap.size, 0, none⟩) n cap (List.replicate n c) := by
  obtain ⟨cur, h1, h2, h3, h4⟩ := h
  refine ⟨⟨by simp, fun _ => ⟨_, 0, rfl, (Array.getElem?_eq_some_iff.1 h1).1, fun j u hu => ?_⟩⟩, hn⟩
  rw [List.map_replicate, List.getElem?_replicate] at hu
  split at hu
  · have h5 := h3 j (by omega)
    have h6 := cell_of_row wr w0.heap.size j cur.toArray _ _ h1
    rw [Nat.zero_add, h6]
    simpa [h5] using hu
  · cases hu
theorem RepWU_src {wr : World} {g q m : Nat} {t : TypeId} {cur : List Value} {c : Int} (h1 : wr.heap[g]? = some (.cells cur.toArray t (0, 0))) (h3 : ∀ j, j < q → cur[j]? = some (.int .u64 c)) (hm : m ≤ q) :
    ∀ j v, (List.replicate m (Value.int .u64 c))[j]? = some v → wr.drew.cell? ((⟨g, 0, none⟩ : Addr).add j) = some v := by
  intro j v hv
  rw [List.getElem?_replicate] at hv
  split at hv
  · rw [add_none, Nat.zero_add]
    have h6 := cell_of_row wr g j cur.toArray _ _ h1
    have h5 := h3 j (by omega)
    show wr.cell? _ = _
    rw [h6]
    simpa [h5] using hv
  · cases hv
theorem one_repU (m : Nat) (c : Int) : ∀ v ∈ List.replicate m (Value.int .u64 c), v.oneCell' = true := by
  intro v hv
  rw [List.eq_of_mem_replicate hv]; rfl
def RepOutU (w : World) (l : List Int) (e : Ending) (w' : World) : Prop :=
  ∃ G n c, e = .returned (.slice G n c) ∧ Sl w' .u64 G n c l ∧ Below w.heap.size w w'

set_option maxRecDepth 100000 in
set_option maxHeartbeats 1000000 in
theorem RepeatU_any (w : World) (A : Option Addr) (cap : Nat) (c : Int) (hr : Ri w .u64 A 1 [c]) (n : Nat) (h1 : 1 ≤ n) (hn : n ≤ 100000) :
    Calls Tryz.prog 138 #[.slice A 1 cap, .int .i64 n] w (RepOutU w (List.replicate n c)) := by
  have HR := Lib.hid hr; clear hr
  have hmk := fun W => Go.run_make_row' (P := Tryz.prog) 79 94 (.int .u64 0) 8 Tryz.underlying79 info_u64 rfl .i64 .i64 n (by omega) (by omega) W
  go_enter Tryz.func138, Tryz.ntmps138
  go_wp2_with fail
  refine (Mul_one _ (by omega) _).mono ?_; rintro e w' ⟨rfl, rfl⟩
  obtain ⟨b, o, hA, hb, hcell⟩ := HR.out.all (by omega)
  subst hA
  have hcell0 := hcell 0 (by omega)
  rw [Nat.add_zero] at hcell0
  have hbe : b ≠ w.heap.size := by omega
  go_wp2_with (with_reducible refine wpList_copy_splice rfl (.tmp 31) (.tmp 32) 79 79 rfl 94 Tryz.underlying79 (by kernel_rfl) (some ⟨w.heap.size, 0, none⟩) (some ⟨b, o, none⟩) n n 1 cap rfl rfl w.heap.size 0 (madeCells #[.int .u64 0] n).toList 94 ?c1 [(.int .u64 c)] ?c2 ?c3 ?c4 ?c5 w.heap.size w ?c6 (Nat.le_refl _) ?_)
  case c1 => rw [heap_alloc_new]
  case c2 => exact (Nat.min_eq_left h1).symm
  case c3 =>
    intro j v hv
    have hj : j = 0 := by
      rcases Nat.eq_zero_or_pos j with h | h
      · exact h
      · rw [List.getElem?_eq_none (by simp; omega)] at hv; cases hv
    subst hj
    simp at hv
    subst hv
    exact hcell0
  case c4 => simp [size_madeCells]; omega
  case c5 => simp [Value.oneCell']
  case c6 => exact (Below.refl _ _).alloc (Nat.le_refl _) _
  intro w1 hg1 hb1
  have hrw : Hid (RepWU w w1 n 1 c) := by
    refine ⟨_, hg1, by rw [length_splice _ _ _ (by simp [size_madeCells]; omega)]; simp [size_madeCells], fun j hj => ?_, hb1⟩
    exact splice_get (q := 0) (m := 1) (by simp [size_madeCells]; omega) (fun j hj => absurd hj (by omega)) j (by omega)
  clear hcell hcell0 hg1 hb1 hmk
  go_wp2_with fail
  go_loopw [8] (fun bp wr => ∃ q : Nat, 1 ≤ q ∧ q ≤ n ∧ bp = .int .i64 q ∧ Hid (RepWU w wr n q c)) (fun bp _ => n - (intOf bp).toNat)
  case atStart => exact ⟨1, by omega, h1, rfl, hrw⟩
  case round =>
    obtain ⟨q, hq1, hq2, rfl, hrq⟩ := hrel
    by_cases hlt : q < n
    · obtain ⟨cur, k1, k2, k3, k4⟩ := hrq.out
      have K1 := Lib.hid k1; have K3 := Lib.hid k3; have K4 := Lib.hid k4
      obtain ⟨m, hm⟩ : ∃ m, m = Nat.min q (n - q) := ⟨_, rfl⟩
      have hm1 : 1 ≤ m := by rw [hm]; exact Nat.le_min.2 ⟨hq1, by omega⟩
      have hm2 : m ≤ n - q := by rw [hm]; exact Nat.min_le_right _ _
      have hm3 : m ≤ q := by rw [hm]; exact Nat.min_le_left _ _
      have HM := Lib.hid hm
      clear k1 k3 k4 hm
      have hnq : ¬ n = q := by omega
      have K1d : Hid (wr.drew.heap[w.heap.size]? = some (.cells cur.toArray 94 (0, 0))) := K1
      have K4d : Hid (Below w.heap.size w wr.drew) := K4.out.drew
      have hsz1 : (Tryz.prog.info? 94).map (·.size) = some 1 := by kernel_rfl
      have HSZ := Lib.hid hsz1; clear hsz1
      have hfit : q + (List.replicate m (Value.int .u64 c)).length ≤ cur.length := by rw [List.length_replicate]; omega
      have HSUM : Hid (IntKind.i64.wrap ((q : Int) + m) = ((q + m : Nat) : Int)) := (IntWalk.i64_in _ (by omega)).trans (by omega)
      have hq0 : (0 : Int) ≤ (q : Int) := by omega
      have hqn : (q : Int) ≤ (n : Int) := by omega
      go_wp2_with fail
      have hsum := HSUM.out
      go_region_law (with_reducible refine step_copy_splice rfl (.tmp 41) (.tmp 44) 79 79 rfl 94 Tryz.underlying79 HSZ.out (some ⟨w.heap.size, q, none⟩) (some ⟨w.heap.size, 0, none⟩) (n - q) (n - q) q n (by kernel_rfl) (by kernel_rfl) w.heap.size q cur 94 K1d.out (List.replicate m (.int .u64 c)) (by rw [List.length_replicate]; exact HM.out) (fun _ => ⟨rfl, _, rfl, RepWU_src K1.out K3.out hm3⟩) hfit (one_repU m c) w.heap.size w K4d.out (Nat.le_refl _) ?_; intro w4 hg4 hb4; have HG4 := Lib.hid hg4.out; have HB4 := Lib.hid hb4; clear hg4 hb4; rw [List.length_replicate])
      clear hsum
      simp only [List.getElem_toArray, List.getElem_cons_succ, List.getElem_cons_zero, Act.put, List.setIfInBounds_toArray, List.set_cons_succ, List.set_cons_zero]
      go_wp2_with fail
      go_roundw
      case rel => 
        refine ⟨q + m, by omega, by omega, by go_num, ?_⟩
        exact ⟨_, HG4.out, by rw [length_splice _ _ _ (by rw [List.length_replicate]; omega)]; exact k2, fun j hj => splice_get (by omega) K3.out j hj, HB4.out⟩
      case measure => simp [intOf] <;> omega
    · obtain rfl : q = n := by omega
      go_wp2_with fail
      go_ret
      obtain ⟨h1', h2'⟩ := hrq.out.ri q ⟨Nat.le_refl _, by omega⟩
      exact ⟨_, _, _, rfl, ⟨h1', h2'⟩, hrq.out.choose_spec.2.2.2⟩
end Go.Proofs.YtbmooemlekckbaaGreatDoor

/- Plain laws on a number a few times. -/
namespace Go.Proofs.YtbmooemlekckbaaGreatDoor
open Go.RowKit

theorem foldU_hiB (u k : Nat) : foldU (hiB u k) = u % 256 ^ k := by
  induction k with
  | zero => simp [hiB, foldU, Nat.mod_one]
  | succ k ih =>
    unfold hiB
    rw [foldU_cons _ _ (hiB_u8 u k), ih, hiB_len, Nat.pow_succ, Nat.mod_mul]
    have e : (2 : Int) ^ (8 * k) = ((256 ^ k : Nat) : Int) := by
      rw [show (256 : Nat) = 2 ^ 8 from rfl, ← Nat.pow_mul, Int.natCast_pow]; rfl
    rw [e, ← Int.natCast_ediv, show ((u / 256 ^ k : Nat) : Int) % 256 = ((u / 256 ^ k % 256 : Nat) : Int) from rfl, Int.toNat_natCast]
    omega
theorem longN_pow (u : Nat) : u < 256 ^ longN u := by
  have h := blen_lt u
  have e : (256 : Nat) ^ longN u = 2 ^ (8 * longN u) := by rw [show (256 : Nat) = 2 ^ 8 from rfl, ← Nat.pow_mul]
  rw [e]
  exact Nat.lt_of_lt_of_le h (Nat.pow_le_pow_right (by omega) (by unfold longN; omega))
theorem takeR_put (u : Nat) (t : Int) (s : Bool) (behind : List Int) (ht1 : 3 ≤ t) (ht2 : t ≤ 10) (hu : u < 18446744073709551616) (hs : s = false → u < 9223372036854775808) :
    takeR (((8 * ((longN u : Int) - 1) + t - 3) :: hiB u (longN u)) ++ behind) s = (if s then zag u else u, t, behind, 0) := by
  have hl := longN_range u hu
  unfold takeR
  simp only [List.cons_append]
  have h1 : ((8 * ((longN u : Int) - 1) + t - 3) / 8 + 1).toNat = longN u := by omega
  have h2 : (8 * ((longN u : Int) - 1) + t - 3) % 8 + 3 = t := by omega
  have h3 : (hiB u (longN u) ++ behind).take (longN u) = hiB u (longN u) := by
    rw [List.take_append_of_le_length (by rw [hiB_len]; exact Nat.le_refl _), List.take_of_length_le (by rw [hiB_len]; exact Nat.le_refl _)]
  have h4 : (hiB u (longN u) ++ behind).drop (longN u) = behind := by
    rw [List.drop_append_of_le_length (by rw [hiB_len]; exact Nat.le_refl _), List.drop_of_length_le (by rw [hiB_len]; exact Nat.le_refl _), List.nil_append]
  rw [if_neg (by omega), h1, h3, h4, foldU_hiB, Nat.mod_eq_of_lt (longN_pow u), h2, if_neg (by rw [List.length_append, hiB_len]; omega), if_neg]
  rintro (h | ⟨h, h'⟩)
  · exact h rfl
  · have := hs h; omega
theorem takeR_cut (u : Nat) (t : Int) (s : Bool) (i : Nat) (ht1 : 3 ≤ t) (ht2 : t ≤ 10) (hu : u < 18446744073709551616) (hi : i < longN u + 1) :
    takeR (((8 * ((longN u : Int) - 1) + t - 3) :: hiB u (longN u)).take i) s = (0, 0, [], 2) := by
  have hl := longN_range u hu
  cases i with
  | zero => rfl
  | succ j =>
    rw [List.take_succ_cons]
    unfold takeR
    have h1 : ((8 * ((longN u : Int) - 1) + t - 3) / 8 + 1).toNat = longN u := by omega
    simp only
    rw [if_neg (by omega), h1, if_pos (by rw [List.length_take, hiB_len]; omega)]
theorem and7 (a : Int) : 0 ≤ bits BinOp.and IntKind.i64 a 7 ∧ bits BinOp.and IntKind.i64 a 7 ≤ 7 := by
  have h : (BitVec.ofInt 64 a &&& BitVec.ofInt 64 7).toNat ≤ 7 := by
    rw [BitVec.toNat_and]
    exact Nat.and_le_right
  show 0 ≤ IntKind.i64.wrap ((BitVec.ofInt 64 a &&& BitVec.ofInt 64 7).toNat : Int) ∧ IntKind.i64.wrap ((BitVec.ofInt 64 a &&& BitVec.ofInt 64 7).toNat : Int) ≤ 7
  rw [IntWalk.i64_in _ (by omega)]
  omega

theorem put_take (x t : Int) (s : Bool) (ht1 : 3 ≤ t) (ht2 : t ≤ 10) (hx : -9223372036854775808 ≤ x ∧ x < 9223372036854775808) (hs : s = false → 0 ≤ x) :
    ∃ (p : List Int), putR x t s = (p, 0) ∧ U8 p ∧ 2 ≤ p.length ∧ p.length ≤ 9 ∧ (∀ behind, takeR (p ++ behind) s = (x, t, behind, 0)) ∧ ∀ i, i < p.length → takeR (p.take i) s = (0, 0, [], 2) := by
  have hz := zig_range x hx.1 hx.2
  have hp : 0 ≤ plainU x s ∧ plainU x s < 18446744073709551616 ∧ (s = false → plainU x s < 9223372036854775808) := by
    unfold plainU
    cases s
    · have := hs rfl; simp; omega
    · simp; omega
  obtain ⟨u, hu⟩ : ∃ u : Nat, (u : Int) = plainU x s := ⟨(plainU x s).toNat, by omega⟩
  have hl := longN_range u (by omega)
  have e : putR x t s = ((8 * ((longN u : Int) - 1) + t - 3) :: hiB u (longN u), 0) := by
    unfold putR
    rw [if_neg (by rintro (h | h | ⟨h, h'⟩); omega; omega; have := hs h; omega), ← hu, Int.toNat_natCast]
  refine ⟨_, e, ?_, by rw [List.length_cons, hiB_len]; omega, by rw [List.length_cons, hiB_len]; omega, ?_, ?_⟩
  · have := putR_u8 x t s hx.1 hx.2
    rwa [e] at this
  · intro behind
    rw [takeR_put u t s behind ht1 ht2 (by omega) (fun h => by have := hp.2.2 h; omega)]
    have : (if s = true then zag (u : Int) else (u : Int)) = x := by
      rw [hu]
      unfold plainU
      cases s
      · simp
      · simp [zag_zig]
    rw [this]
  · intro i hi
    rw [List.length_cons, hiB_len] at hi
    exact takeR_cut u t s i ht1 ht2 (by omega) hi
end Go.Proofs.YtbmooemlekckbaaGreatDoor

/- Joined texts: DkU. Each has its own head line. No condition beyond those that its theorems state. -/
import Derived.Test.YtekdcnlbdgikoaaDoorJ04
set_option linter.unusedVariables false

/- disk.New, Used: a range over the map of files. -/
namespace Go.Proofs.YtekdcnlbdgikoaaDoor
open Go.RowKit

theorem keyOf_str_inv {P : Program} {k : TypeId} (hk : P.underlying k = some .string) {key : Value} {kl : Lit} (h : keyOf P k key = some kl) : ∃ s, key = .string s ∧ s.size ≤ maxLen ∧ kl = keyL s := by
  rw [keyOf_string hk] at h
  unfold mapKey at h
  rw [hk] at h
  cases key <;> simp at h
  rename_i s
  exact ⟨s, rfl, h.1, h.2.symm⟩
theorem inv_s (key : Value) (kl : Lit) (h : keyOf Tryd.prog 9 key = some kl) : ∃ x, key = .string x := by
  obtain ⟨s, rfl, _⟩ := keyOf_str_inv Tryd.underlying9 h
  exact ⟨s, rfl⟩
theorem inv_v (v : Value) (y : DataW Value × List MemPlace) (_h : rawE v = some y) : ∃ c : Value, v = id c := ⟨v, rfl⟩
/-- What has come out of the range is a file. -/
theorem next_file {L : List Fl} {x : ByteArray} {c : Value} {kl : Lit} {y : DataW Value × List MemPlace} (hk : keyOf Tryd.prog 9 (.string x) = some kl) (hv : rawE (id c) = some y) (hat : ∀ zd, (dat L).atKey kl zd = y.1) :
    kl = keyL x ∧ ∃ f ∈ L, f.p = x ∧ c = f.val := by
  obtain ⟨s, e, _, rfl⟩ := keyOf_str_inv Tryd.underlying9 hk
  injection e with e
  subst e
  refine ⟨rfl, ?_⟩
  unfold rawE at hv
  injection hv with hv
  subst hv
  have h1 := hat .nil
  rw [dat_atKey] at h1
  cases hf : findF L x with
  | none => rw [hf] at h1; cases h1
  | some f =>
    rw [hf] at h1
    have h2 := findF_some hf
    injection h1 with h1
    exact ⟨f, h2.1, h2.2, h1.symm⟩
theorem key_of {s : ByteArray} (h : s.size ≤ maxLen) : keyOf Tryd.prog 9 (.string s) = some (keyL s) := WideMaps.keyOf_string_mk Tryd.underlying9 h

/-- How many bytes there are. -/
def usedF (L : List Fl) : Nat := (L.map Fl.n).sum
/-- .. in those that are still to come. -/
def restF (left : Lit → Bool) (L : List Fl) : Nat := usedF (L.filter fun f => left (keyL f.p))
theorem usedF_cons (f : Fl) (L : List Fl) : usedF (f :: L) = f.n + usedF L := by unfold usedF; rw [List.map_cons, List.sum_cons]
theorem restF_start (L : List Fl) : restF (Maps.has (dat L)) L = usedF L := by
  unfold restF
  rw [List.filter_eq_self.2]
  intro f hf
  rw [dat_has]
  unfold findF
  rw [List.isSome_find?, List.any_eq_true]
  exact ⟨f, hf, by simp⟩
theorem restF_end {left : Lit → Bool} (L : List Fl) (h : ∀ kl, left kl = false) : restF left L = 0 := by
  unfold restF
  rw [List.filter_eq_nil_iff.2]
  · rfl
  · intro f _; rw [h]; simp
theorem restF_step {left : Lit → Bool} {L : List Fl} {f : Fl} (hs : SortF L) (hf : f ∈ L) (hl : left (keyL f.p) = true) :
    restF left L = f.n + restF (fun z => left z && !z.sameKey (keyL f.p)) L := by
  induction L with
  | nil => cases hf
  | cons x r ih =>
    obtain ⟨hx, hr⟩ := List.pairwise_cons.1 hs
    unfold restF
    rcases List.mem_cons.1 hf with rfl | hf'
    · have e1 : (r.filter fun g => left (keyL g.p) && !(keyL g.p).sameKey (keyL f.p)) = r.filter fun g => left (keyL g.p) := by
        refine List.filter_congr fun g hg => ?_
        rw [same_keyL, decide_eq_false (fun e => befF_ne (hx g hg) e.symm)]
        simp
      rw [List.filter_cons_of_pos (by exact hl), List.filter_cons_of_neg (by simp [same_keyL]), e1, usedF_cons]
    · have hne : x.p ≠ f.p := befF_ne (hx f hf')
      have e2 : (left (keyL x.p) && !(keyL x.p).sameKey (keyL f.p)) = left (keyL x.p) := by
        rw [same_keyL, decide_eq_false hne]; simp
      have := ih hr hf'
      unfold restF at this
      rw [List.filter_cons, List.filter_cons]
      simp only [e2]
      split
      · rw [usedF_cons, usedF_cons]; dsimp only at *; omega
      · exact this

theorem IdiomRange_new (w : World) (o : Obj) : (w.alloc o).heap[w.heap.size]? = some o := by
  show (w.heap.push o)[w.heap.size]? = _
  simp
set_option maxHeartbeats 400000 in
theorem New_any (w : World) (q : Int) :
    Calls Tryd.prog 9 #[.int .i64 q] w fun e w' => ∃ d B, e = .returned (.pointer (some ⟨d, 0, none⟩)) ∧ w.heap.size ≤ d ∧ w.heap.size ≤ B ∧ Dk w' d B q (-1) [] ∧ Below w.heap.size w w' := by
  have hmm := @run_makeMap Tryd.prog
  go_enter Tryd.func9, Tryd.ntmps9
  go_wp2_with fail
  go_ret
  refine ⟨w.heap.size + 1, w.heap.size, rfl, by omega, Nat.le_refl _, ⟨?_, ?_, fun f hf => by cases hf⟩, ((Below.refl _ _).alloc (Nat.le_refl _) _).alloc (by simp) _⟩
  · have := IdiomRange_new (w.alloc (Obj.map #[] 0)) (.cells #[.int .i64 q, .int .i64 (-1), .map (some w.heap.size)] 55)
    simpa using this
  · exact (World.ownsMap_made w _ _ _).alloc _

set_option maxRecDepth 100000 in
set_option maxHeartbeats 1000000 in
theorem Used_any (w : World) (d B : Nat) (q lf : Int) (L : List Fl) (h : Dk w d B q lf L) (hu : usedF L ≤ 9223372036854775807) :
    Calls Tryd.prog 18 #[.pointer (some ⟨d, 0, none⟩)] w fun e w' => e = .returned (.int .i64 (usedF L)) ∧ Below w.heap.size w w' := by
  have c2 := h.c2
  have HO := Lib.hid h.own
  have HS := Lib.hid h.sort
  have HR := Lib.hid h.row
  clear h
  go_enter Tryd.func18, Tryd.ntmps18
  go_wp2_with (at_range; refine wpList_range_own _ rfl _ _ rfl 9 57 keyed_s Tryd.underlying53 rawE B L.length _ rfl HO.out ?_; intro w0 hrg0 hg0 hs0)
  go_frame
  have HRG := Lib.hid hrg0
  have HB := Lib.hid ((Below.refl w.heap.size w).grown hg0 (Nat.le_refl _) (fun k e => by cases e))
  clear hrg0 hg0
  go_loopw [3] (fun v wr => ∃ (left : Lit → Bool) (cnt s : Nat), v = .int .i64 s ∧ Hid (wr.ranges Tryd.prog 9 rawE B w.heap.size L.length (dat L) left cnt) ∧ s + restF left L = usedF L ∧ Hid (Below w.heap.size w wr)) (fun _ wr => wr.rangeLeft B w.heap.size)
  case atStart => exact ⟨_, _, 0, rfl, HRG, by rw [restF_start]; omega, HB⟩
  case round =>
    obtain ⟨left, cnt, s, rfl, hrg, hsum, hb⟩ := hrel
    have hz := hb.out.size
    go_wp2_with (at_next; refine wpList_next_ranges _ rfl _ rfl 9 keyed_s rawE Value.string id inv_s inv_v B w.heap.size L.length _ _ _ rfl hrg.out ?_ ?_)
    · intro _ hl0
      have e0 := restF_end L hl0
      rw [e0] at hsum
      go_wp2_with fail
      go_ret
      exact ⟨ret_int (by omega), hb.out⟩
    · intro x c kl y ps w1 cnt1 hkey hlk hv hat hrg1 hlt hgr hsz hen
      obtain ⟨rfl, f, hf, rfl, rfl⟩ := next_file hkey hv hat
      have hst := restF_step HS.out hf hlk
      have HB1 := Lib.hid (hb.out.grown hgr (by omega) (fun k e => by injection e with e; omega))
      unfold Fl.val at hen
      have HRG1 := Lib.hid hrg1
      clear hkey hlk hv hat hrg1 hgr
      go_wp2_with fail
      go_roundw
      case rel => exact ⟨_, cnt1, s + f.n, by go_num, Lib.hid (HRG1.out.alloc _), by omega, Lib.hid (HB1.out.alloc (by omega) _)⟩
      case measure => rw [(HRG1.out.alloc _).left_eq, hrg.out.left_eq]; exact hlt
end Go.Proofs.YtekdcnlbdgikoaaDoor

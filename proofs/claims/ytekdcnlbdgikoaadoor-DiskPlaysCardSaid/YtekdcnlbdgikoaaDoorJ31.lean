/- Joined texts: RfR. Each has its own head line. No condition beyond those that its theorems state. -/
import Derived.Deep.LoopGhost
import Derived.LoopN
import Derived.Test.YtekdcnlbdgikoaaDoorJ30
set_option linter.unusedVariables false

/- The reference's disk: what only reads: New, at, in, Used, Read. -/
namespace Go.Proofs.YtekdcnlbdgikoaaDoor
open Go.RowKit

theorem str_beq (s t : ByteArray) : (s.toList == t.toList) = decide (s = t) := by
  rw [Bool.eq_iff_iff]
  simp only [beq_iff_eq, decide_eq_true_eq, ByteArray.toList_eq]
  exact ⟨bytes_ext, fun h => by rw [h]⟩
theorem Rk.addr {w : World} {base y : Nat} {q lf : Int} {A : Option Addr} {c : Nat} {L : List Fl} (h : Rk w base y q lf A c L) : L = [] ∨ (0 < L.length ∧ ∃ g, A = some ⟨g, 0, none⟩ ∧ g < w.heap.size ∧ ∀ j (hj : j < L.length), w.cell? ⟨g, j * 3, none⟩ = some (.string L[j].p) ∧ w.cell? ⟨g, j * 3 + 1, none⟩ = some (.slice L[j].A L[j].n L[j].c) ∧ w.cell? ⟨g, j * 3 + 2, none⟩ = some (.int .i64 L[j].safe)) := by
  rcases Nat.eq_zero_or_pos L.length with h0 | h0
  · exact .inl (List.eq_nil_of_length_eq_zero h0)
  · obtain ⟨g, cap, hv, _, hlt⟩ := h.own.form h0
    injection hv with hv
    subst hv
    refine .inr ⟨h0, g, rfl, hlt, fun j hj => ?_⟩
    have ho := h.own
    obtain ⟨h1, h2, h3⟩ := cellsF_get L j hj
    exact ⟨(ho.cellAt _ (by omega)).trans h1, (ho.cellAt _ (by omega)).trans h2, (ho.cellAt _ (by omega)).trans h3⟩
/-- Where a path is among the files. -/
def atN (L : List Fl) (p : ByteArray) : Int := if L.findIdx (fun f => decide (f.p = p)) < L.length then (L.findIdx fun f => decide (f.p = p) : Nat) else -1
theorem at_here {L : List Fl} {p : ByteArray} {j : Nat} (hj : j < L.length) (h : L[j].p = p) (hb : ∀ i (hi : i < j), (L[i]'(by omega)).p ≠ p) : atN L p = j := by
  have e : L.findIdx (fun f => decide (f.p = p)) = j := by
    rw [List.findIdx_eq hj]
    exact ⟨by simpa using h, fun i hi => by simpa using hb i hi⟩
  unfold atN
  rw [e, if_pos hj]
theorem at_no {L : List Fl} {p : ByteArray} (h : ∀ i (hi : i < L.length), L[i].p ≠ p) : atN L p = -1 := by
  unfold atN
  rw [if_neg]
  rw [List.findIdx_lt_length]
  rintro ⟨f, hf, hp⟩
  obtain ⟨i, hi, rfl⟩ := List.getElem_of_mem hf
  exact h i hi (by simpa using hp)
theorem at_some {L : List Fl} {p : ByteArray} {f : Fl} (hs : SortF L) (hf : findF L p = some f) : ∃ k, ∃ hk : k < L.length, L[k] = f ∧ f.p = p ∧ atN L p = k := by
  have h1 := findF_some hf
  obtain ⟨k, hk, rfl⟩ := List.getElem_of_mem h1.1
  refine ⟨k, hk, rfl, h1.2, at_here hk h1.2 fun i hi e => ?_⟩
  exact befF_ne (List.pairwise_iff_getElem.1 hs i k (by omega) hk hi) (e.trans h1.2.symm)
theorem at_none {L : List Fl} {p : ByteArray} (hf : findF L p = none) : atN L p = -1 := at_no fun i hi => findF_none hf _ (List.getElem_mem hi)

set_option maxHeartbeats 1000000 in
theorem rNew_any (w : World) (q : Int) :
    Calls Tryd.prog 19 #[.int .i64 q] w fun e w' => ∃ y, e = .returned (.pointer (some ⟨y, 0, none⟩)) ∧ Rk w' w.heap.size y q (-1) none 0 [] ∧ Below w.heap.size w w' := by
  go_enter Tryd.func19, Tryd.ntmps19
  go_wp2_with fail
  go_ret
  refine ⟨w.heap.size, rfl, ⟨?_, World.ownsRow_nil _ _ _ _, fun f hf => absurd hf List.not_mem_nil, List.Pairwise.nil, Nat.le_refl _, by simp⟩, (Below.refl _ _).alloc (Nat.le_refl _) _⟩
  exact IdiomRange_new w _

set_option maxRecDepth 100000 in
set_option maxHeartbeats 1000000 in
theorem at_any (w : World) (base y : Nat) (q lf : Int) (A : Option Addr) (c : Nat) (L : List Fl) (h : Rk w base y q lf A c L) (p : ByteArray) (hlen : L.length < 1000000) :
    Calls Tryd.prog 52 #[.pointer (some ⟨y, 0, none⟩), .string p] w fun e w' => e = .returned (.int .i64 (atN L p)) ∧ w' = w := by
  have c2 := h.c2
  have hrow := h.addr
  clear h
  rcases hrow with rfl | ⟨h0, g, rfl, hgl, hcells⟩
  · have HN := Lib.hid (at_no (L := []) (p := p) (fun i hi => absurd hi (Nat.not_lt_zero _)))
    go_enter Tryd.func52, Tryd.ntmps52
    go_wp2_with fail
    refine wp_loop_rounds 1 ?_
    rw [rounds_succ]
    go_wp2_with fail
    go_ret
    exact ⟨ret_int HN.out.symm, rfl⟩
  · obtain ⟨N, hN⟩ : ∃ N, N = L.length := ⟨_, rfl⟩
    have HL := Lib.hid hN
    rw [← hN] at hlen c2 h0
    have HC := Lib.hid hcells
    clear hcells hN
    go_enter Tryd.func52, Tryd.ntmps52
    go_wp2_with fail
    go_loopg [5] N (fun gg v wr => ∃ j : Nat, v = .int .i64 j ∧ j ≤ N ∧ N - j ≤ gg ∧ Hid (∀ i (hi : i < L.length), i < j → L[i].p ≠ p) ∧ wr = w)
    case atStart => exact ⟨0, rfl, by omega, by omega, Lib.hid fun i _ h => absurd h (Nat.not_lt_zero _), rfl⟩
    case round =>
      obtain ⟨j, rfl, hjN, hgg, hno, rfl⟩ := hrel
      by_cases hlt : j < N
      · have t1 : decide (j < N) = true := decide_eq_true hlt
        have hj : j < L.length := by rw [← HL.out]; exact hlt
        obtain ⟨k0, _, _⟩ := HC.out j hj
        have HX := Lib.hid (str_beq L[j].p p)
        obtain ⟨x, hx⟩ : ∃ x, x = L[j].p := ⟨_, rfl⟩
        have HXE := Lib.hid hx
        rw [← hx] at k0
        clear hx
        by_cases he : x = p
        · have e1 : (x.toList == p.toList) = true := by rw [str_beq]; exact decide_eq_true he
          have HR := Lib.hid (at_here hj (HXE.out.symm.trans he) fun i hi => hno.out i (by omega) hi)
          clear he
          go_wp2_with fail
          go_ret
          exact ⟨ret_int HR.out.symm, rfl⟩
        · have e1 : (x.toList == p.toList) = false := by rw [str_beq]; exact decide_eq_false he
          have HR : Hid (∀ i (hi : i < L.length), i < j + 1 → L[i].p ≠ p) := Lib.hid fun i hi hij e => by
            rcases Nat.lt_or_ge i j with k | k
            · exact hno.out i hi k e
            · obtain rfl : i = j := by omega
              exact he (HXE.out.trans e)
          clear he
          go_wp2_with fail
          go_roundg (N - (j + 1))
          case measure => omega
          case rel => exact ⟨j + 1, by go_num, by omega, by omega, HR, rfl⟩
      · have t1 : decide (j < N) = false := decide_eq_false hlt
        have HR := Lib.hid (at_no (L := L) (p := p) fun i hi => hno.out i hi (by have := HL.out; omega))
        go_wp2_with fail
        go_ret
        exact ⟨ret_int HR.out.symm, rfl⟩
end Go.Proofs.YtekdcnlbdgikoaaDoor

/- Joined texts: DkP. Each has its own head line. No condition beyond those that its theorems state. -/
import Derived.Shelf.GgClosure.StringsIndexFuncTop
import Derived.Test.YtekdcnlbdgikoaaDoorJ05
import Derived.Test.YtekdcnlbdgikoaaDoorShelf
set_option linter.unusedVariables false

/- disk.bad, Path. -/
namespace Go.Proofs.YtekdcnlbdgikoaaDoor
open Go.RowKit

/-- A letter that may not be in a path. -/
def badR (x : Nat) : Bool := (x != 95 && (decide (x < 48) || decide (57 < x))) && (decide (x < 97) || decide (122 < x))
set_option maxHeartbeats 1000000 in
theorem bad_any (w : World) (x : Nat) :
    Calls Tryd.prog 50 #[.int .i32 x] w fun e w' => e = .returned (.bool (badR x)) ∧ ∃ q, w' = w.drewN q := by
  by_cases h1 : x = 95
  · subst h1
    go_enter Tryd.func50, Tryd.ntmps50
    go_wp2_with fail
    go_ret
    exact ⟨rfl, 0, rfl⟩
  · have t0 : ((x : Int) != 95) = true := bne_iff_ne.2 (by omega)
    rcases Nat.lt_or_ge x 48 with h2 | h2 <;> rcases Nat.lt_or_ge 57 x with h3 | h3 <;> rcases Nat.lt_or_ge x 97 with h4 | h4 <;> rcases Nat.lt_or_ge 122 x with h5 | h5
    all_goals first
      | omega
      | (go_enter Tryd.func50, Tryd.ntmps50
         go_wp2_with fail
         go_ret
         refine ⟨ret_bool (Bool.eq_iff_iff.2 ?_), 0, rfl⟩
         simp [badR] <;> omega)

def slashB : ByteArray := ⟨#[47]⟩
def partsD (s : ByteArray) : List ByteArray := Lib.splitB slashB 0 (Lib.countB s slashB) s
def partOk (p : ByteArray) : Bool := !p.toList.isEmpty && !(decide (0 ≤ Lib.idxFunc badR true p))
/-- Whether a text may be a path. -/
def pathD (s : ByteArray) : Bool := decide (s.size ≤ 60) && (partsD s).all partOk
theorem parts_len (s : ByteArray) : (partsD s).length = Lib.countB s slashB + 1 := Lib.splitB_all slashB (by decide) 0 _ s rfl
theorem parts_snoc (l : List ByteArray) (j : Nat) (h : j < l.length) : (l.take (j + 1)).all partOk = ((l.take j).all partOk && partOk l[j]) := by
  rw [List.take_add_one, List.getElem?_eq_getElem h, List.all_append]; simp
theorem badf_any (w : World) : PredAt Tryd.prog 50 #[] encR badR w := fun W x _ => by
  have h := bad_any W x
  exact h

set_option maxRecDepth 100000 in
set_option maxHeartbeats 1000000 in
theorem Path_any (w : World) (s : ByteArray) (m : Int) (hm : w.cell? ⟨0, 0, none⟩ = some (.int .i64 m)) :
    Calls Tryd.prog 22 #[.string s] w fun e w' => e = .returned (.bool (pathD s)) ∧ Below w.heap.size w w' := by
  have HM := Lib.hid hm
  clear hm
  by_cases hl : s.size ≤ 60
  · have t1 : decide ((60 : Int) < s.size) = false := decide_eq_false (by omega)
    obtain ⟨L, hL⟩ : ∃ L, L = partsD s := ⟨_, rfl⟩
    have hLl := parts_len s
    have HP : Hid (pathD s = L.all partOk) := by unfold pathD; rw [decide_eq_true hl, hL]; exact Lib.hid rfl
    have hc := Lib.countB_le slashB (by decide) s.size s (Nat.le_refl _)
    obtain ⟨N, hN⟩ : ∃ N, N = Lib.countB s slashB + 1 := ⟨_, rfl⟩
    rw [← hN, ← hL] at hLl
    have HSP : Hid (Calls Tryd.prog 48 #[.string s, .string ⟨#[47]⟩] w fun e w' => e = .returned (.slice (some ⟨w.heap.size, 0, none⟩) N N) ∧ w' = w.alloc (.cells (L.map Value.string).toArray 9)) := by
      rw [hN, hL]
      exact Lib.hid (Tryd.strings_Split s ⟨#[47]⟩ m w (by omega) HM.out (by decide))
    have hNs : N ≤ 61 := by omega
    clear hN hL hc hl
    go_enter Tryd.func22, Tryd.ntmps22
    go_wp2_with fail
    refine HSP.out.mono ?_; rintro e w' ⟨rfl, rfl⟩
    go_wp2_with fail
    have HLl := Lib.hid hLl
    have hcell : ∀ j (h : j < L.length), (w.alloc (.cells (L.map Value.string).toArray 9)).cell? ⟨w.heap.size, j, none⟩ = some (.string L[j]) := fun j h => by
      rw [cell_of_blk (IdiomRange_new w _)]
      simp [h]
    have HC := Lib.hid hcell
    have HB := Lib.hid ((Below.refl w.heap.size w).alloc (Nat.le_refl _) (.cells (L.map Value.string).toArray 9))
    clear hcell hLl
    obtain ⟨w1, hw1⟩ : ∃ w1, w1 = w.alloc (.cells (L.map Value.string).toArray 9) := ⟨_, rfl⟩
    have hsz : w1.heap.size = w.heap.size + 1 := by rw [hw1]; simp
    rw [← hw1] at HC HB ⊢
    clear hw1
    go_loopw [11] (fun i wr => ∃ j : Nat, j ≤ N ∧ i = .int .i64 j ∧ Hid ((L.take j).all partOk = true) ∧ Hid (Below w1.heap.size w1 wr)) (fun i _ => N - (intOf i).toNat)
    case atStart => exact ⟨0, by omega, rfl, Lib.hid rfl, Below.refl _ _⟩
    case round =>
      obtain ⟨j, hj, rfl, hall, hb⟩ := hrel
      by_cases hlt : j < N
      · have hjl : j < L.length := by rw [HLl.out]; exact hlt
        have g1 := (hb.out.cell (p := ⟨w.heap.size, j, none⟩) (by show w.heap.size < w1.heap.size; omega)).trans (HC.out j hjl)
        have hsn := Lib.hid (parts_snoc L j hjl)
        generalize L[j] = x at *
        have hbad : partOk x = false → pathD s = false := fun h => by
          rw [HP.out, List.all_eq_false]
          rw [h, Bool.and_false] at hsn
          obtain ⟨y, hy, hy2⟩ := List.all_eq_false.1 hsn.out
          exact ⟨y, List.mem_of_mem_take hy, hy2⟩
        have HBAD := Lib.hid hbad
        clear hbad
        obtain ⟨bE, hE⟩ : ∃ bE, x.toList.isEmpty = bE := ⟨_, rfl⟩
        cases bE
        · have HE := Lib.hid hE
          go_wp2_with fail
          refine (Tryd.strings_ContainsFunc 50 #[] (enters_of Tryd.func50 (by kernel_rfl) rfl) badR x wr (badf_any wr)).mono ?_; rintro e w2 ⟨rfl, hb2⟩
          have HB2 := Lib.hid (on hb.out hb2)
          clear hb2
          obtain ⟨bI, hI⟩ : ∃ bI, decide (0 ≤ Lib.idxFunc badR true x) = bI := ⟨_, rfl⟩
          rw [hI]
          have HOK : Hid (partOk x = !bI) := by unfold partOk; rw [HE.out, hI]; exact Lib.hid rfl
          clear hI hE
          cases bI
          · go_wp2_with fail
            go_roundw
            case rel =>
              refine ⟨j + 1, by omega, by go_num, Lib.hid ?_, HB2⟩
              rw [hsn.out, hall.out, HOK.out]; rfl
            case measure => simp [intOf] <;> omega
          · go_wp2_with fail
            go_ret
            exact ⟨ret_bool (HBAD.out HOK.out).symm, on HB.out HB2.out⟩
        · have HE : Hid (partOk x = false) := by unfold partOk; rw [hE]; exact Lib.hid rfl
          go_wp2_with fail
          go_ret
          exact ⟨ret_bool (HBAD.out HE.out).symm, on HB.out hb.out⟩
      · obtain rfl : j = N := by omega
        have hfin : pathD s = true := by
          have h := hall.out
          rw [List.take_of_length_le (by rw [HLl.out]; omega)] at h
          rw [HP.out]; exact h
        have HF := Lib.hid hfin
        clear hfin
        go_wp2_with fail
        go_ret
        exact ⟨ret_bool HF.out.symm, on HB.out hb.out⟩
  · have t1 : decide ((60 : Int) < s.size) = true := decide_eq_true (by omega)
    have HP : Hid (pathD s = false) := by unfold pathD; rw [decide_eq_false hl]; exact Lib.hid rfl
    clear hl
    go_enter Tryd.func22, Tryd.ntmps22
    go_wp2_with fail
    go_ret
    exact ⟨ret_bool HP.out.symm, Below.refl _ _⟩
end Go.Proofs.YtekdcnlbdgikoaaDoor

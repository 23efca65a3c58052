/- Joined texts: RfQ. Each has its own head line. No condition beyond those that its theorems state. -/
import Derived.Test.YtekdcnlbdgikoaaDoorJ33
set_option linter.unusedVariables false

/- The reference's Path: the walk. -/
namespace Go.Proofs.YtekdcnlbdgikoaaDoor
open Go.RowKit

def letter (s : ByteArray) (i : Nat) : Nat := (s.data.toList.getD i 0).toNat
theorem letter_lt (s : ByteArray) (i : Nat) : letter s i < 256 := UInt8.toNat_lt _
theorem index_at (w : World) (s : ByteArray) (i : Nat) (hi : i < s.size) : (Instr.index 9 (.string s) (.int .i64 i)).run Tryd.prog w = .ok (.int .u8 (letter s i)) w := by
  rw [run_index_string w 9 s .i64 i Tryd.underlying9, dif_pos ⟨by omega, by omega⟩]
  have hl : i < s.data.toList.length := by rw [Array.length_toList]; exact hi
  have e : letter s i = (s[i]'hi).toNat := by
    unfold letter
    rw [List.getD_eq_getElem?_getD, List.getElem?_eq_getElem hl]
    rfl
  rw [e]
  simp only [Int.toNat_natCast]
def stepOk (s : ByteArray) (i : Nat) : Prop := (badR (letter s i) = false ∨ letter s i = 47) ∧ ¬(letter s i = 47 ∧ i + 1 < s.size ∧ letter s (i + 1) = 47)
theorem u8_47 (c : UInt8) : c.toNat = 47 ↔ c = 47 := by
  constructor
  · intro h; exact UInt8.toNat_inj.1 (by rw [h]; rfl)
  · rintro rfl; rfl
theorem path_iff (s : ByteArray) : pathD s = true ↔ 0 < s.size ∧ s.size ≤ 60 ∧ letter s 0 ≠ 47 ∧ letter s (s.size - 1) ≠ 47 ∧ ∀ i, i < s.size → stepOk s i := by
  have hn : s.size = s.data.toList.length := size_list s
  rw [path_eq, Bool.and_eq_true, decide_eq_true_eq, part_true goodB (by decide)]
  unfold letter stepOk letter
  rw [hn]
  generalize s.data.toList = L
  cases L with
  | nil => simp
  | cons c r =>
    dsimp only
    rw [Bool.and_eq_true, Bool.and_eq_true, pairs_at, last_at (c :: r) (by simp)]
    have e0 : (c :: r).getD 0 0 = c := rfl
    rw [e0, ne_eq, u8_47, ne_eq, u8_47]
    simp only [Bool.not_eq_true', decide_eq_false_iff_not, u8_47]
    constructor
    · rintro ⟨h1, ⟨h2, h3⟩, h4⟩
      refine ⟨by simp, h1, h2, h4, fun i hi => ?_⟩
      obtain ⟨k1, k2⟩ := h3 i hi
      rw [List.getD_eq_getElem?_getD, List.getElem?_eq_getElem hi]
      refine ⟨?_, ?_⟩
      · unfold okc goodB at k1
        simpa using k1
      · rintro ⟨a, b, e⟩
        rw [List.getD_eq_getElem?_getD, List.getElem?_eq_getElem b] at e
        exact k2 ⟨a, by rw [List.getElem?_eq_getElem b]; exact congrArg _ e⟩
    · rintro ⟨_, h1, h2, h4, h3⟩
      refine ⟨h1, ⟨h2, fun i hi => ?_⟩, h4⟩
      obtain ⟨k1, k2⟩ := h3 i hi
      rw [List.getD_eq_getElem?_getD, List.getElem?_eq_getElem hi] at k1 k2
      refine ⟨?_, ?_⟩
      · unfold okc goodB
        simpa using k1
      · rintro ⟨a, b⟩
        have hb : i + 1 < (c :: r).length := by
          rcases Nat.lt_or_ge (i + 1) (c :: r).length with k | k
          · exact k
          · rw [List.getElem?_eq_none k] at b; cases b
        refine k2 ⟨a, hb, ?_⟩
        rw [List.getD_eq_getElem?_getD, b]; rfl
theorem path_not {s : ByteArray} (h : ¬(0 < s.size ∧ s.size ≤ 60 ∧ letter s 0 ≠ 47 ∧ letter s (s.size - 1) ≠ 47 ∧ ∀ i, i < s.size → stepOk s i)) : pathD s = false := by
  cases hp : pathD s with
  | false => rfl
  | true => exact absurd ((path_iff s).1 hp) h

set_option maxRecDepth 100000 in
set_option maxHeartbeats 2000000 in
theorem rPath_any (w : World) (s : ByteArray) (hs : s.size ≤ maxLen) :
    Calls Tryd.prog 23 #[.string s] w fun e w' => e = .returned (.bool (pathD s)) ∧ w' = w := by
  unfold maxLen at hs
  have hI := fun (w : World) i hi => index_at w s i hi
  by_cases h1 : s.size < 1
  · have HP := Lib.hid (path_not (s := s) (fun h => by omega))
    have t1 : decide ((s.size : Int) < 1) = true := decide_eq_true (by omega)
    clear hI
    go_enter Tryd.func23, Tryd.ntmps23
    go_wp2_with fail
    go_ret
    exact ⟨ret_bool HP.out.symm, rfl⟩
  have t1 : decide ((s.size : Int) < 1) = false := decide_eq_false (by omega)
  by_cases h2 : 60 < s.size
  · have HP := Lib.hid (path_not (s := s) (fun h => by omega))
    have t2 : decide ((60 : Int) < s.size) = true := decide_eq_true (by omega)
    clear hI
    go_enter Tryd.func23, Tryd.ntmps23
    go_wp2_with fail
    go_ret
    exact ⟨ret_bool HP.out.symm, rfl⟩
  have t2 : decide ((60 : Int) < s.size) = false := decide_eq_false (by omega)
  have i0 := fun w => hI w 0 (by omega)
  have i1 := fun w => hI w (s.size - 1) (by omega)
  have hc1 : ((s.size - 1 : Nat) : Int) = (s.size : Int) - 1 := by omega
  rw [hc1] at i1
  rw [show ((0 : Nat) : Int) = 0 from rfl] at i0
  obtain ⟨x0, hx0⟩ : ∃ x0, x0 = letter s 0 := ⟨_, rfl⟩
  obtain ⟨x1, hx1⟩ : ∃ x1, x1 = letter s (s.size - 1) := ⟨_, rfl⟩
  rw [← hx0] at i0
  rw [← hx1] at i1
  by_cases h3 : x0 = 47
  · have HP := Lib.hid (path_not (s := s) (fun h => h.2.2.1 (hx0.symm.trans h3)))
    subst h3
    clear hI i1 hx0 hx1 hc1
    go_enter Tryd.func23, Tryd.ntmps23
    go_wp2_with fail
    go_ret
    exact ⟨ret_bool HP.out.symm, rfl⟩
  have t3 : ((x0 : Int) == 47) = false := by simp; omega
  by_cases h4 : x1 = 47
  · have HP := Lib.hid (path_not (s := s) (fun h => h.2.2.2.1 (hx1.symm.trans h4)))
    subst h4
    clear hI hx0 hx1 hc1
    go_enter Tryd.func23, Tryd.ntmps23
    go_wp2_with fail
    go_ret
    exact ⟨ret_bool HP.out.symm, rfl⟩
  have t4 : ((x1 : Int) == 47) = false := by simp; omega
  have H3 := Lib.hid (fun e => h3 (hx0.trans e)); have H4 := Lib.hid (fun e => h4 (hx1.trans e))
  have HI := Lib.hid hI
  clear hI hx0 hx1 hc1
  go_enter Tryd.func23, Tryd.ntmps23
  go_wp2_with fail
  clear i0 i1 t3 t4 h3 h4
  go_loopg [3] 60 (fun gg v wr => ∃ j : Nat, v = .int .i64 j ∧ j ≤ s.size ∧ 60 - j ≤ gg ∧ Hid (∀ i, i < j → stepOk s i) ∧ wr = w)
  case atStart => exact ⟨0, rfl, by omega, by omega, Lib.hid fun i h => absurd h (Nat.not_lt_zero _), rfl⟩
  case round =>
    obtain ⟨j, rfl, hjn, hgg, hok, rfl⟩ := hrel
    by_cases hlt : j < s.size
    · have tj : decide (j < s.size) = true := decide_eq_true hlt
      have i0 := HI.out wr j hlt
      have hx256 := letter_lt s j
      obtain ⟨x, hx⟩ : ∃ x, x = letter s j := ⟨_, rfl⟩
      have HX := Lib.hid hx
      rw [← hx] at i0 hx256
      clear hx
      by_cases h47 : x = 47
      · subst h47
        have hj1 : j + 1 < s.size := by
          rcases Nat.lt_or_ge (j + 1) s.size with k | k
          · exact k
          · exact absurd (by rw [show s.size - 1 = j from by omega]; exact HX.out.symm) H4.out
        have i1 := HI.out wr (j + 1) hj1
        rw [show ((j + 1 : Nat) : Int) = (j : Int) + 1 from by omega] at i1
        obtain ⟨z, hz⟩ : ∃ z, z = letter s (j + 1) := ⟨_, rfl⟩
        have HZ := Lib.hid hz
        rw [← hz] at i1
        clear hz
        by_cases hz47 : z = 47
        · subst hz47
          have HP := Lib.hid (path_not (s := s) (fun h => (h.2.2.2.2 j hlt).2 ⟨HX.out.symm, hj1, HZ.out.symm⟩))
          go_wp2_with fail
          go_ret
          exact ⟨ret_bool HP.out.symm, rfl⟩
        · have tz : ((z : Int) == 47) = false := by simp; omega
          have HS : Hid (∀ i, i < j + 1 → stepOk s i) := Lib.hid fun i hi => by
            rcases Nat.lt_or_ge i j with k | k
            · exact hok.out i k
            · obtain rfl : i = j := by omega
              exact ⟨.inr HX.out.symm, fun e => hz47 (HZ.out.trans e.2.2)⟩
          clear hz47
          go_wp2_with fail
          go_roundg (60 - (j + 1))
          case measure => omega
          case rel => exact ⟨j + 1, by go_num, by omega, by omega, HS, rfl⟩
      · have tx : ((x : Int) == 47) = false := by simp; omega
        have tx2 : ((x : Int) != 47) = true := by simp; omega
        obtain ⟨bb, hb⟩ : ∃ bb, badR x = bb := ⟨_, rfl⟩
        cases bb
        · have HS : Hid (∀ i, i < j + 1 → stepOk s i) := Lib.hid fun i hi => by
            rcases Nat.lt_or_ge i j with k | k
            · exact hok.out i k
            · obtain rfl : i = j := by omega
              exact ⟨.inl (HX.out ▸ hb), fun e => h47 (HX.out.trans e.1)⟩
          have hr : x = 95 ∨ (48 ≤ x ∧ x ≤ 57) ∨ (97 ≤ x ∧ x ≤ 122) := by
            unfold badR at hb
            by_cases e : x = 95
            · exact .inl e
            · have e2 : (x != 95) = true := by simpa using e
              rw [e2] at hb
              simp at hb
              omega
          clear hb h47
          rcases hr with rfl | hr | hr
          all_goals
            go_wp2_with fail
            go_roundg (60 - (j + 1))
            case measure => omega
            case rel => exact ⟨j + 1, by go_num, by omega, by omega, HS, rfl⟩
        · have HP := Lib.hid (path_not (s := s) (fun h => by
            rcases (h.2.2.2.2 j hlt).1 with k | k
            · rw [← HX.out, hb] at k; cases k
            · exact h47 (HX.out.trans k)))
          have hr : (x < 48) ∨ (57 < x ∧ x < 97 ∧ x ≠ 95) ∨ 122 < x := by
            unfold badR at hb
            simp at hb
            omega
          clear hb
          rcases hr with hr | hr | hr
          · go_wp2_with fail
            go_ret
            exact ⟨ret_bool HP.out.symm, rfl⟩
          · have t95 : ((x : Int) != 95) = true := by simp; omega
            go_wp2_with fail
            go_ret
            exact ⟨ret_bool HP.out.symm, rfl⟩
          · have t95 : ((x : Int) != 95) = true := by simp; omega
            go_wp2_with fail
            go_ret
            exact ⟨ret_bool HP.out.symm, rfl⟩
    · have tj : decide (j < s.size) = false := decide_eq_false hlt
      have HP := Lib.hid ((path_iff s).2 ⟨by omega, by omega, H3.out, H4.out, fun i hi => hok.out i (by omega)⟩)
      go_wp2_with fail
      go_ret
      exact ⟨ret_bool HP.out.symm, rfl⟩
end Go.Proofs.YtekdcnlbdgikoaaDoor

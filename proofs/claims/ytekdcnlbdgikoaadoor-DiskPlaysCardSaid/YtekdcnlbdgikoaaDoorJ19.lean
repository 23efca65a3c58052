/- Joined texts: Shown23. Each has its own head line. No condition beyond those that its theorems state. -/
import Derived.Lib.SlBytesConst
import Derived.Test.YtekdcnlbdgikoaaDoorJ18
set_option linter.unusedVariables false

/- disk's laws: the head. -/
namespace Go.Proofs.YtekdcnlbdgikoaaDoor
open Go.RowKit

def abS : ByteArray := ⟨#[97, 47, 98]⟩
theorem path_ab : pathD abS = true := by decide +kernel
theorem Ri_lit3 (w : World) (x y z : Int) (t : TypeId) (fr : Nat × Nat) : Ri (w.alloc (.cells #[.int .u8 x, .int .u8 y, .int .u8 z] t fr)) .u8 (some ⟨w.heap.size, 0, none⟩) 3 [x, y, z] := by
  refine ⟨rfl, fun _ => ⟨w.heap.size, 0, rfl, by simp, fun j u hu => ?_⟩⟩
  rw [cell_of_blk (IdiomRange_new w _), Nat.zero_add]
  simpa using hu
theorem shown_steps : createM (-1) [] abS = (0, [⟨abS, [], 0⟩]) ∧ appendM 9 (-1) [⟨abS, [], 0⟩] abS [49, 50, 51] = (0, [⟨abS, [49, 50, 51], 0⟩]) ∧ syncM (-1) [⟨abS, [49, 50, 51], 0⟩] abS = (0, [⟨abS, [49, 50, 51], 3⟩]) ∧
    appendM 9 (-1) [⟨abS, [49, 50, 51], 3⟩] abS [52, 53, 54] = (0, [⟨abS, [49, 50, 51, 52, 53, 54], 3⟩]) ∧ crashM 1 [⟨abS, [49, 50, 51, 52, 53, 54], 3⟩] = [⟨abS, [49, 50, 51, 52], 4⟩] ∧ readM [⟨abS, [49, 50, 51, 52], 4⟩] abS = ([49, 50, 51, 52], 0) := by
  refine ⟨?_, by rfl, by rfl, by rfl, by rfl, by rfl⟩
  unfold createM
  rw [if_neg (by decide), path_ab]
  rfl

set_option maxRecDepth 100000 in
set_option maxHeartbeats 2000000 in
theorem shown23_any (w : World) (m : Int) (hm : w.cell? ⟨0, 0, none⟩ = some (.int .i64 m)) :
    Calls Tryd.prog 8 #[] w fun e w' => e = .returned (.bool true) ∧ Below w.heap.size w w' := by
  have hlt := World.block_lt_of_cell? w _ hm
  have HM := Lib.hid hm
  have hsz : abS.size ≤ maxLen := by decide +kernel
  have HST := Lib.hid shown_steps
  have kc := fun (w : World) (C : Array Value) (n c : Nat) => Lib.run_convert_bytes_const (P := Tryd.prog) w 22 5 C n c Tryd.underlying22 Tryd.underlying5
  clear hm
  go_enter Tryd.func8, Tryd.ntmps8
  go_wp2_with fail
  refine (New_any _ _).mono ?_; rintro e w1 ⟨d, B, rfl, hd0, hB0, hd1, hb1⟩
  have HB1 := Lib.hid hb1
  have hne : d ≠ 0 := by show d ≠ (⟨0, 0, none⟩ : Addr).block; have h : (⟨0, 0, none⟩ : Addr).block < w.heap.size := hlt; omega
  have hneB : B ≠ 0 := by have h : (⟨0, 0, none⟩ : Addr).block < w.heap.size := hlt; show B ≠ (⟨0, 0, none⟩ : Addr).block; omega
  have HM1 := Lib.hid ((hb1.cell (p := ⟨0, 0, none⟩) hlt).trans HM.out)
  go_wp2_with fail
  refine (CreateM_any _ d B 9 (-1) [] ⟨[], rfl, hd1⟩ (by omega) hne hneB abS hsz m HM1.out 0 _ HST.out.1).mono ?_; rintro e w2 ⟨rfl, hd2, ht2⟩
  have HD2 := Lib.hid hd2
  have HB2 := Lib.hid (Turn.below HB1.out ht2 hd0 hB0 hb1.size)
  clear hd1 hd2 ht2 hb1
  go_wp2_with fail
  refine (Append_any _ d B 9 (-1) _ (HD2.out.below (Below.refl _ _ |>.alloc (Nat.le_refl _) _)) (by omega) abS hsz (by simp) (by simp [usedM]) _ 3 3 [49, 50, 51] (Ri_lit3 w2 49 50 51 _ _) (by intro x hx; simp at hx; omega) (by omega) 0 _ HST.out.2.1).mono ?_; rintro e w3 ⟨rfl, hd3, ht3⟩
  have HD3 := Lib.hid hd3
  have HB3 := Lib.hid (Turn.below (HB2.out.alloc HB2.out.size _) ht3 hd0 hB0 (by have := HB2.out.size; simp; omega))
  clear hd3 ht3
  go_wp2_with fail
  refine (Sync_any _ d B 9 (-1) _ HD3.out (by omega) abS hsz (by simp) 0 _ HST.out.2.2.1).mono ?_; rintro e w4 ⟨rfl, hd4, ht4⟩
  have HD4 := Lib.hid hd4
  have HB4 := Lib.hid (Turn.below HB3.out ht4 hd0 hB0 HB3.out.size)
  clear hd4 ht4
  go_wp2_with fail
  refine (Append_any _ d B 9 (-1) _ (HD4.out.below (Below.refl _ _ |>.alloc (Nat.le_refl _) _)) (by omega) abS hsz (by simp) (by simp [usedM]) _ 3 3 [52, 53, 54] (Ri_lit3 w4 52 53 54 _ _) (by intro x hx; simp at hx; omega) (by omega) 0 _ HST.out.2.2.2.1).mono ?_; rintro e w5 ⟨rfl, hd5, ht5⟩
  have HD5 := Lib.hid hd5
  have HB5 := Lib.hid (Turn.below (HB4.out.alloc HB4.out.size _) ht5 hd0 hB0 (by have := HB4.out.size; simp; omega))
  clear hd5 ht5
  go_wp2_with fail
  refine (Crash_any _ d B 9 (-1) _ HD5.out (by simp) (by simp [usedM]) 1 (by omega)).mono ?_; rintro e w6 ⟨rfl, hd6, ht6⟩
  rw [HST.out.2.2.2.2.1] at hd6
  have HD6 := Lib.hid hd6
  have HB6 := Lib.hid (Turn.below HB5.out ht6 hd0 hB0 HB5.out.size)
  clear hd6 ht6
  go_wp2_with fail
  refine (Read_any _ d B 9 (-1) _ HD6.out abS hsz (by simp [usedM]) _ 0 HST.out.2.2.2.2.2).mono ?_; rintro e w7 ⟨G, n7, c7, rfl, hs7, hb7⟩
  have HB7 := Lib.hid (on HB6.out hb7)
  have cv := conv_any (c := c7) hs7.1
  have s1 : (strOf [49, 50, 51, 52]).toList = [49, 50, 51, 52] := strOf_toList _
  clear hs7 hb7
  go_wp2_with fail
  go_ret
  exact ⟨rfl, HB7.out⟩
end Go.Proofs.YtekdcnlbdgikoaaDoor

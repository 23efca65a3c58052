/- The plain law of DiskMoves: files in a directory that is moved there and back. -/
import Derived.Test.YtekdcnlbdgikoaaDoorDkQ
namespace Go.Proofs.YtekdcnlbdgikoaaDoor
open Go.RowKit

def preFrom : ByteArray := ⟨#[102, 114, 111, 109, 47]⟩
def preThere : ByteArray := ⟨#[116, 111, 47, 116, 104, 101, 114, 101, 47]⟩
def preBack : ByteArray := ⟨#[102, 114, 111, 109, 47, 116, 104, 101, 114, 101, 47]⟩
def dFrom : ByteArray := ⟨#[102, 114, 111, 109]⟩
def dThere : ByteArray := ⟨#[116, 111, 47, 116, 104, 101, 114, 101]⟩
def dTo : ByteArray := ⟨#[116, 111]⟩
def dBack : ByteArray := ⟨#[102, 114, 111, 109, 47, 116, 104, 101, 114, 101]⟩
def fromage : ByteArray := ⟨#[102, 114, 111, 109, 97, 103, 101]⟩
def nmL : List ByteArray := [⟨#[97]⟩, ⟨#[98]⟩, ⟨#[99]⟩, ⟨#[100, 47, 97]⟩, ⟨#[100, 47, 98]⟩, ⟨#[100, 47, 100, 47, 97]⟩, ⟨#[101]⟩, ⟨#[102]⟩]
def nm (j : Nat) : ByteArray := nmL.getD j ⟨#[]⟩
/-- The first n files, by their names behind a directory's. -/
def filesN (pre : ByteArray) (n : Nat) (c : Nat → List Int) : List Mf := (List.range n).map fun i => ⟨pre ++ nm i, c i, 0⟩
theorem files_snoc (pre : ByteArray) (n : Nat) (c : Nat → List Int) : filesN pre (n + 1) c = filesN pre n c ++ [⟨pre ++ nm n, c n, 0⟩] := by
  unfold filesN; rw [List.range_succ, List.map_append]; rfl
theorem insM_end {M : List Mf} {g : Mf} (h : ∀ f ∈ M, befF g.p f.p = false) : insM g M = M ++ [g] := by
  induction M with
  | nil => rfl
  | cons x r ih => rw [insM, if_neg (by rw [h x List.mem_cons_self]; simp), ih fun f hf => h f (List.mem_cons_of_mem _ hf)]; rfl
theorem find_none {M : List Mf} {s : ByteArray} (h : ∀ f ∈ M, f.p ≠ s) : findM M s = none := by
  unfold findM
  rw [List.find?_eq_none]
  intro f hf
  simpa using h f hf
theorem find_end {M : List Mf} {g : Mf} (h : ∀ f ∈ M, f.p ≠ g.p) : findM (M ++ [g]) g.p = some g := by
  have := find_none h
  unfold findM at this ⊢
  rw [List.find?_append, this]
  simp
theorem set_end {M : List Mf} {g k : Mf} (h : ∀ f ∈ M, f.p ≠ g.p) (hk : k.p = g.p) : setM (M ++ [g]) k = M ++ [k] := by
  have h1 := setM_none (M := M) (g := k) (fun f hf => by rw [hk]; exact h f hf)
  unfold setM at h1 ⊢
  rw [List.map_append, h1]
  simp [hk]
theorem used_app (M K : List Mf) : usedM (M ++ K) = usedM M + usedM K := by
  unfold usedM; rw [List.map_append, List.sum_append]
theorem used_files (pre : ByteArray) (n : Nat) (c : Nat → List Int) (hc : ∀ i, (c i).length ≤ 300) : usedM (filesN pre n c) ≤ n * 300 := by
  induction n with
  | zero => exact Nat.le_refl _
  | succ n ih =>
    rw [files_snoc, used_app]
    have : usedM [⟨pre ++ nm n, c n, 0⟩] = (c n).length := by simp [usedM]
    rw [this]
    have := hc n
    omega
theorem from_rise : ∀ j, j < 8 → ∀ i, i < j → befF (preFrom ++ nm i) (preFrom ++ nm j) = true := by decide +kernel
theorem from_path : ∀ j, j < 8 → pathD (preFrom ++ nm j) = true := by decide +kernel
theorem files_ne {n : Nat} (hn : n < 8) (c : Nat → List Int) : ∀ f ∈ filesN preFrom n c, f.p ≠ preFrom ++ nm n := fun f hf => by
  unfold filesN at hf
  obtain ⟨i, hi, rfl⟩ := List.mem_map.1 hf
  exact befF_ne (from_rise n hn i (List.mem_range.1 hi))
theorem moves_create {n : Nat} (hn : n < 8) (c : Nat → List Int) : createM (-1) (filesN preFrom n c) (preFrom ++ nm n) = (0, filesN preFrom n c ++ [⟨preFrom ++ nm n, [], 0⟩]) := by
  unfold createM
  rw [if_neg (by decide), if_neg (by rw [from_path n hn]; simp), find_none (files_ne hn c), if_neg (by simp), if_neg (by unfold filesN; rw [List.length_map, List.length_range]; omega), insM_end]
  intro f hf
  unfold filesN at hf
  obtain ⟨i, hi, rfl⟩ := List.mem_map.1 hf
  exact befF_asymm (from_rise n hn i (List.mem_range.1 hi))
theorem moves_append {n : Nat} (hn : n < 8) (c : Nat → List Int) (hc : ∀ i, (c i).length ≤ 300) : appendM 5000 (-1) (filesN preFrom n c ++ [⟨preFrom ++ nm n, [], 0⟩]) (preFrom ++ nm n) (c n) = (0, filesN preFrom (n + 1) c) := by
  have hu := used_files preFrom n c hc
  have h1 := find_end (g := ⟨preFrom ++ nm n, [], 0⟩) (files_ne hn c)
  have h2 : usedM (filesN preFrom n c ++ [⟨preFrom ++ nm n, [], 0⟩]) = usedM (filesN preFrom n c) := by rw [used_app]; simp [usedM]
  have h3 := hc n
  unfold appendM
  rw [if_neg (by decide)]
  dsimp only at h1
  rw [h1]
  dsimp only
  rw [if_neg (by simp; omega), h2, if_neg (by omega), files_snoc, set_end (g := ⟨preFrom ++ nm n, [], 0⟩) (k := ⟨preFrom ++ nm n, [] ++ c n, 0⟩) (files_ne hn c) rfl]
  simp
/-- All files, with the one beside. -/
def allN (n : Nat) (c : Nat → List Int) : List Mf := filesN preFrom n c ++ [⟨fromage, [], 0⟩]
theorem moves_beside {n : Nat} (hn : n ≤ 8) (c : Nat → List Int) : createM (-1) (filesN preFrom n c) fromage = (0, allN n c) := by
  have hr : ∀ j, j < 8 → befF (preFrom ++ nm j) fromage = true := by decide +kernel
  unfold createM
  rw [if_neg (by decide), if_neg (by rw [show pathD fromage = true from by decide +kernel]; simp), find_none, if_neg (by simp), if_neg (by unfold filesN; rw [List.length_map, List.length_range]; omega), insM_end]
  · rfl
  all_goals
    intro f hf
    unfold filesN at hf
    obtain ⟨i, hi, rfl⟩ := List.mem_map.1 hf
    have := hr i (by have := List.mem_range.1 hi; omega)
    first
      | exact befF_asymm this
      | exact befF_ne this
def thereN (n : Nat) (c : Nat → List Int) : List Mf := ⟨fromage, [], 0⟩ :: filesN preThere n c
def backN (n : Nat) (c : Nat → List Int) : List Mf := filesN preBack n c ++ [⟨fromage, [], 0⟩]
theorem moves_none (c : Nat → List Int) : moveM (-1) (allN 0 c) dFrom dThere = (11, allN 0 c) := by kernel_rfl
theorem moves_there {n : Nat} (h0 : 0 < n) (hn : n ≤ 8) (c : Nat → List Int) : moveM (-1) (allN n c) dFrom dThere = (0, thereN n c) := by
  rcases (show n = 1 ∨ n = 2 ∨ n = 3 ∨ n = 4 ∨ n = 5 ∨ n = 6 ∨ n = 7 ∨ n = 8 from by omega) with rfl | rfl | rfl | rfl | rfl | rfl | rfl | rfl <;> kernel_rfl
theorem moves_back {n : Nat} (h0 : 0 < n) (hn : n ≤ 8) (c : Nat → List Int) : moveM (-1) (thereN n c) dTo dFrom = (0, backN n c) := by
  rcases (show n = 1 ∨ n = 2 ∨ n = 3 ∨ n = 4 ∨ n = 5 ∨ n = 6 ∨ n = 7 ∨ n = 8 from by omega) with rfl | rfl | rfl | rfl | rfl | rfl | rfl | rfl <;> kernel_rfl
theorem moves_lists {n : Nat} (hn : n ≤ 8) (c : Nat → List Int) : (listM (thereN n c) dFrom).length = 0 ∧ (listM (thereN n c) dThere).length = n ∧ (listM (thereN n c) ⟨#[]⟩).length = n + 1 ∧ (listM (backN n c) dBack).length = n := by
  rcases (show n = 0 ∨ n = 1 ∨ n = 2 ∨ n = 3 ∨ n = 4 ∨ n = 5 ∨ n = 6 ∨ n = 7 ∨ n = 8 from by omega) with rfl | rfl | rfl | rfl | rfl | rfl | rfl | rfl | rfl <;> exact ⟨by kernel_rfl, by kernel_rfl, by kernel_rfl, by kernel_rfl⟩
theorem there_rise : ∀ j, j < 8 → ∀ i, i < 8 → i ≠ j → preThere ++ nm i ≠ preThere ++ nm j := by decide +kernel
theorem moves_read {n j : Nat} (hn : n ≤ 8) (hj : j < n) (c : Nat → List Int) : readM (thereN n c) (preThere ++ nm j) = (c j, 0) := by
  have h0 : ∀ j, j < 8 → fromage ≠ preThere ++ nm j := by decide +kernel
  have h : findM (thereN n c) (preThere ++ nm j) = some ⟨preThere ++ nm j, c j, 0⟩ := by
    unfold thereN findM
    rw [List.find?_cons_of_neg (by simpa using h0 j (by omega))]
    unfold filesN
    rw [List.find?_map]
    have e : (List.range n).find? ((fun f : Mf => decide (f.p = preThere ++ nm j)) ∘ fun i => ⟨preThere ++ nm i, c i, 0⟩) = some j := by
      rw [List.find?_eq_some_iff_getElem]
      refine ⟨by simp, j, by simpa using hj, by simp, fun i hi => ?_⟩
      have := there_rise j (by omega) i (by omega) (by omega)
      simpa using this
    rw [e]; rfl
  unfold readM
  rw [h]
theorem moves_used {n : Nat} (hn : n ≤ 8) (c : Nat → List Int) (hc : ∀ i, (c i).length ≤ 300) : usedM (allN n c) ≤ 2400 ∧ usedM (thereN n c) ≤ 2400 ∧ usedM (backN n c) ≤ 2400 := by
  have h1 := used_files preFrom n c hc
  have h2 := used_files preThere n c hc
  have h3 := used_files preBack n c hc
  have e : usedM [⟨fromage, [], 0⟩] = 0 := rfl
  refine ⟨?_, ?_, ?_⟩
  · unfold allN; rw [used_app, e]; omega
  · unfold thereN; rw [used_cons]; dsimp only [List.length_nil]; omega
  · unfold backN; rw [used_app, e]; omega
theorem moves_paths {n : Nat} (hn : n ≤ 8) (c : Nat → List Int) : (∀ f ∈ filesN preFrom n c, f.p.size ≤ 60) ∧ (∀ f ∈ allN n c, f.p.size ≤ 60) ∧ (∀ f ∈ thereN n c, f.p.size ≤ 60) := by
  have k1 : ∀ j, j < 8 → (preFrom ++ nm j).size ≤ 60 := by decide +kernel
  have k2 : ∀ j, j < 8 → (preThere ++ nm j).size ≤ 60 := by decide +kernel
  have k0 : fromage.size ≤ 60 := by decide +kernel
  have a1 : ∀ f ∈ filesN preFrom n c, f.p.size ≤ 60 := fun f hf => by
    unfold filesN at hf
    obtain ⟨i, hi, rfl⟩ := List.mem_map.1 hf
    exact k1 i (by have := List.mem_range.1 hi; omega)
  have a2 : ∀ f ∈ filesN preThere n c, f.p.size ≤ 60 := fun f hf => by
    unfold filesN at hf
    obtain ⟨i, hi, rfl⟩ := List.mem_map.1 hf
    exact k2 i (by have := List.mem_range.1 hi; omega)
  refine ⟨a1, fun f hf => ?_, fun f hf => ?_⟩
  · unfold allN at hf
    rcases List.mem_append.1 hf with h | h
    · exact a1 f h
    · rw [List.mem_singleton.1 h]; exact k0
  · unfold thereN at hf
    rcases List.mem_cons.1 hf with rfl | h
    · exact k0
    · exact a2 f h
theorem moves_len (pre : ByteArray) (n : Nat) (c : Nat → List Int) : (filesN pre n c).length = n := by unfold filesN; simp
end Go.Proofs.YtekdcnlbdgikoaaDoor

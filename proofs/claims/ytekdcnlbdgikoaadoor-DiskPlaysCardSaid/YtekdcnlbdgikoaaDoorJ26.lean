/- Joined texts: DkQ. Each has its own head line. No condition beyond those that its theorems state. -/
import Derived.Test.YtekdcnlbdgikoaaDoorJ24
import Derived.Test.YtekdcnlbdgikoaaDoorJ25
set_option linter.unusedVariables false

/- How many files and bytes there are behind each call: the plain law. -/
namespace Go.Proofs.YtekdcnlbdgikoaaDoor
open Go.RowKit

/-- What stays true of the files: at most 400, short paths. -/
def SmallM (M : List Mf) : Prop := M.length ≤ 400 ∧ ∀ f ∈ M, f.p.size ≤ 60
theorem used_cons (f : Mf) (M : List Mf) : usedM (f :: M) = f.b.length + usedM M := by unfold usedM; rw [List.map_cons, List.sum_cons]
theorem used_insM (f : Mf) (M : List Mf) : usedM (insM f M) = f.b.length + usedM M := by
  induction M with
  | nil => rfl
  | cons x r ih =>
    rw [insM]
    split
    · rw [used_cons]
    · rw [used_cons, used_cons, ih]; omega
theorem len_insM (f : Mf) (M : List Mf) : (insM f M).length = M.length + 1 := by
  induction M with
  | nil => rfl
  | cons x r ih => rw [insM]; split <;> simp [ih]
theorem mem_insM {f g : Mf} {M : List Mf} : g ∈ insM f M ↔ g = f ∨ g ∈ M := by
  induction M with
  | nil => simp [insM]
  | cons x r ih =>
    rw [insM]
    split
    · simp
    · rw [List.mem_cons, ih, List.mem_cons]
      constructor
      · (rintro (h | h | h) <;> simp [h])
      · (rintro (h | h | h) <;> simp [h])
theorem used_build (M : List Mf) : usedM (buildM M) = usedM M := by
  induction M with
  | nil => rfl
  | cons x r ih => show usedM (insM x (buildM r)) = _; rw [used_insM, ih, used_cons]
theorem len_build (M : List Mf) : (buildM M).length = M.length := by
  induction M with
  | nil => rfl
  | cons x r ih => show (insM x (buildM r)).length = _; rw [len_insM, ih, List.length_cons]
theorem mem_buildM {M : List Mf} {f : Mf} : f ∈ buildM M ↔ f ∈ M := by
  induction M with
  | nil => rfl
  | cons x r ih => show f ∈ insM x (buildM r) ↔ _; rw [mem_insM, ih, List.mem_cons]
theorem findM_some {M : List Mf} {s : ByteArray} {f : Mf} (h : findM M s = some f) : f ∈ M ∧ f.p = s := by
  unfold findM at h
  have h2 := List.find?_some h
  exact ⟨List.mem_of_find?_eq_some h, by simpa using h2⟩
theorem setM_none {M : List Mf} {g : Mf} (h : ∀ f ∈ M, f.p ≠ g.p) : setM M g = M := by
  have : (M.map fun x => if x.p = g.p then g else x) = M.map id := List.map_congr_left fun f hf => by rw [if_neg (h f hf)]; rfl
  unfold setM
  rw [this, List.map_id]
theorem used_set {M : List Mf} {g f : Mf} (hs : SortM M) (hf : findM M g.p = some f) : usedM (setM M g) + f.b.length = usedM M + g.b.length := by
  induction M with
  | nil => cases hf
  | cons x r ih =>
    obtain ⟨hx, hr⟩ := List.pairwise_cons.1 hs
    by_cases e : x.p = g.p
    · have hfx : x = f := by
        unfold findM at hf
        rw [List.find?_cons_of_pos (by simpa using e)] at hf
        injection hf
      subst hfx
      have hn : setM r g = r := setM_none fun y hy k => befF_ne (hx y hy) (e.trans k.symm)
      have e2 : setM (x :: r) g = g :: setM r g := by unfold setM; rw [List.map_cons, if_pos e]
      rw [e2, hn, used_cons, used_cons]
      omega
    · have hf2 : findM r g.p = some f := by
        unfold findM at hf ⊢
        rwa [List.find?_cons_of_neg (by simpa using e)] at hf
      have e2 : setM (x :: r) g = x :: setM r g := by unfold setM; rw [List.map_cons, if_neg e]
      have := ih hr hf2
      rw [e2, used_cons, used_cons]
      omega
theorem set_small {M : List Mf} {g : Mf} (h : SmallM M) (hp : ∃ f ∈ M, f.p = g.p) : SmallM (setM M g) := by
  refine ⟨by unfold setM; rw [List.length_map]; exact h.1, fun f hf => ?_⟩
  unfold setM at hf
  obtain ⟨x, hx, rfl⟩ := List.mem_map.1 hf
  split
  · obtain ⟨y, hy, e⟩ := hp
    rw [← e]; exact h.2 y hy
  · exact h.2 x hx

theorem create_small {lf : Int} {M M' : List Mf} {p : ByteArray} {er : Int} (h : SmallM M) (hc : createM lf M p = (er, M')) : SmallM M' ∧ usedM M' = usedM M := by
  unfold createM at hc
  split at hc
  · injection hc with _ hc; subst hc; exact ⟨h, rfl⟩
  split at hc
  · injection hc with _ hc; subst hc; exact ⟨h, rfl⟩
  rename_i hp
  split at hc
  · injection hc with _ hc; subst hc; exact ⟨h, rfl⟩
  split at hc
  · injection hc with _ hc; subst hc; exact ⟨h, rfl⟩
  · injection hc with _ hc; subst hc
    refine ⟨⟨by rw [len_insM]; omega, fun f hf => ?_⟩, by rw [used_insM]; simp⟩
    rcases mem_insM.1 hf with rfl | hf
    · exact path_le (by simpa using hp)
    · exact h.2 f hf
theorem append_small {q lf : Int} {M M' : List Mf} {p : ByteArray} {bl : List Int} {er : Int} (h : SmallM M) (hs : SortM M) (hq : (usedM M : Int) ≤ q) (hc : appendM q lf M p bl = (er, M')) : SmallM M' ∧ (usedM M' : Int) ≤ q ∧ usedM M' ≤ usedM M + bl.length := by
  unfold appendM at hc
  split at hc
  · injection hc with _ hc; subst hc; exact ⟨h, hq, by omega⟩
  cases hf : findM M p with
  | none => rw [hf] at hc; injection hc with _ hc; subst hc; exact ⟨h, hq, by omega⟩
  | some f =>
    rw [hf] at hc
    dsimp only at hc
    split at hc
    · injection hc with _ hc; subst hc; exact ⟨h, hq, by omega⟩
    split at hc
    · injection hc with _ hc; subst hc; exact ⟨h, hq, by omega⟩
    · injection hc with _ hc; subst hc
      have h2 := findM_some hf
      have hu := used_set (g := ⟨p, f.b ++ bl, f.safe⟩) hs hf
      dsimp only at hu
      rw [List.length_append] at hu
      exact ⟨set_small h ⟨f, h2.1, h2.2⟩, by omega, by omega⟩
theorem ren_used (frm dest : ByteArray) (M : List Mf) : usedM (M.map (renM frm dest)) = usedM M := by
  unfold usedM
  rw [List.map_map]
  congr 1
  refine List.map_congr_left fun f _ => ?_
  show (renM frm dest f).b.length = f.b.length
  unfold renM
  split <;> rfl
theorem move_small {lf : Int} {M M' : List Mf} {frm dest : ByteArray} {er : Int} (h : SmallM M) (hc : moveM lf M frm dest = (er, M')) : SmallM M' ∧ usedM M' = usedM M := by
  unfold moveM at hc
  split at hc
  · injection hc with _ hc; subst hc; exact ⟨h, rfl⟩
  split at hc
  · injection hc with _ hc; subst hc; exact ⟨h, rfl⟩
  split at hc
  · injection hc with _ hc; subst hc; exact ⟨h, rfl⟩
  split at hc
  · injection hc with _ hc; subst hc; exact ⟨h, rfl⟩
  split at hc
  · injection hc with _ hc; subst hc; exact ⟨h, rfl⟩
  · rename_i hb
    injection hc with _ hc; subst hc
    refine ⟨⟨by rw [len_build, List.length_map]; exact h.1, fun f hf => ?_⟩, by rw [used_build, ren_used]⟩
    obtain ⟨x, hx, rfl⟩ := List.mem_map.1 (mem_buildM.1 hf)
    unfold renM
    split
    · rename_i hu
      simp only [Bool.or_eq_true, not_or, Bool.not_eq_true', Bool.not_eq_false] at hb
      have := List.all_eq_true.1 hb.2 x hx
      rw [hu] at this
      exact path_le (by simpa using this)
    · exact h.2 x hx
theorem crash_small {keep : Int} {M : List Mf} (h : SmallM M) : SmallM (crashM keep M) ∧ usedM (crashM keep M) ≤ usedM M := by
  refine ⟨⟨by unfold crashM; rw [List.length_map]; exact h.1, fun f hf => ?_⟩, ?_⟩
  · unfold crashM at hf
    obtain ⟨x, hx, rfl⟩ := List.mem_map.1 hf
    exact h.2 x hx
  · clear h
    induction M with
    | nil => exact Nat.le_refl _
    | cons x r ih =>
      have e : crashM keep (x :: r) = ⟨x.p, x.b.take (keptN keep x.b.length x.safe), keptN keep x.b.length x.safe⟩ :: crashM keep r := rfl
      rw [e, used_cons, used_cons]
      dsimp only
      rw [List.length_take]
      omega
theorem list_all (M : List Mf) : (listM M (ByteArray.mk #[])).length = M.length := by
  unfold listM
  rw [if_pos (by rw [ByteArray.toList_eq]; rfl), List.length_map]
end Go.Proofs.YtekdcnlbdgikoaaDoor

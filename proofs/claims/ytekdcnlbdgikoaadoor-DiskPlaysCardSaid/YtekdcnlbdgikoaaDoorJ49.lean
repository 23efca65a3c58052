/- Joined texts: LawDk8. Each has its own head line. No condition beyond those that its theorems state. -/
import Derived.Test.YtekdcnlbdgikoaaDoorJ48
set_option linter.unusedVariables false

/- What a call keeps: how many files, how many bytes. -/
namespace Go.Proofs.YtekdcnlbdgikoaaDoor
open Go.RowKit

theorem append_few {q lf : Int} {M M' : List Mf} {p : ByteArray} {bl : List Int} {er : Int} (h : SmallM M) (hs : SortM M) (hc : appendM q lf M p bl = (er, M')) : SmallM M' ∧ usedM M' ≤ usedM M + bl.length := by
  unfold appendM at hc
  split at hc
  · injection hc with _ hc; subst hc; exact ⟨h, by omega⟩
  cases hf : findM M p with
  | none => rw [hf] at hc; injection hc with _ hc; subst hc; exact ⟨h, by omega⟩
  | some f =>
    rw [hf] at hc
    dsimp only at hc
    split at hc
    · injection hc with _ hc; subst hc; exact ⟨h, by omega⟩
    split at hc
    · injection hc with _ hc; subst hc; exact ⟨h, by omega⟩
    · injection hc with _ hc; subst hc
      have h2 := findM_some hf
      have hu := used_set (g := ⟨p, f.b ++ bl, f.safe⟩) hs hf
      dsimp only at hu
      rw [List.length_append] at hu
      exact ⟨set_small h ⟨f, h2.1, h2.2⟩, by omega⟩
theorem sync_small {lf : Int} {M M' : List Mf} {p : ByteArray} {er : Int} (h : SmallM M) (hs : SortM M) (hc : syncM lf M p = (er, M')) : SmallM M' ∧ usedM M' ≤ usedM M := by
  unfold syncM at hc
  split at hc
  · injection hc with _ hc; subst hc; exact ⟨h, Nat.le_refl _⟩
  cases hf : findM M p with
  | none => rw [hf] at hc; injection hc with _ hc; subst hc; exact ⟨h, Nat.le_refl _⟩
  | some f =>
    rw [hf] at hc
    injection hc with _ hc; subst hc
    have h2 := findM_some hf
    have hu := used_set (g := ⟨p, f.b, f.b.length⟩) hs hf
    dsimp only at hu
    exact ⟨set_small h ⟨f, h2.1, h2.2⟩, by omega⟩
theorem sum_sub {a b : List Nat} (h : a.Sublist b) : a.sum ≤ b.sum := by
  induction h with
  | slnil => exact Nat.le_refl _
  | cons x _ ih => rw [List.sum_cons]; omega
  | cons_cons x _ ih => rw [List.sum_cons, List.sum_cons]; omega
theorem del_small {lf : Int} {M M' : List Mf} {p : ByteArray} {er : Int} (h : SmallM M) (hc : deleteM lf M p = (er, M')) : SmallM M' ∧ usedM M' ≤ usedM M := by
  unfold deleteM at hc
  split at hc
  · injection hc with _ hc; subst hc; exact ⟨h, Nat.le_refl _⟩
  split at hc
  · injection hc with _ hc; subst hc; exact ⟨h, Nat.le_refl _⟩
  · injection hc with _ hc; subst hc
    refine ⟨⟨Nat.le_trans (List.length_filter_le _ _) h.1, fun f hf => h.2 f (List.mem_filter.1 hf).1⟩, ?_⟩
    unfold usedM delM
    exact sum_sub ((List.filter_sublist (l := M)).map _)
theorem corrupt_small {M : List Mf} {p : ByteArray} {i m : Int} (h : SmallM M) (hs : SortM M) : SmallM (corruptM M p i m) ∧ usedM (corruptM M p i m) ≤ usedM M := by
  unfold corruptM
  cases hf : findM M p with
  | none => exact ⟨h, Nat.le_refl _⟩
  | some f =>
    dsimp only
    split
    · exact ⟨h, Nat.le_refl _⟩
    · have h2 := findM_some hf
      have hu := used_set (g := ⟨p, f.b.set i.toNat (turned (f.b[i.toNat]?.getD 0) m), f.safe⟩) hs hf
      dsimp only at hu
      rw [List.length_set] at hu
      exact ⟨set_small h ⟨f, h2.1, h2.2⟩, by omega⟩
theorem does_small {q lf : Int} {M : List Mf} {o : Opv} (h : SmallM M) (hs : SortM M) : SmallM (doesM q lf M o) ∧ usedM (doesM q lf M o) ≤ usedM M + 300 := by
  unfold doesM
  repeat' split
  · have := create_small h (er := (createM lf M o.p).1) (M' := (createM lf M o.p).2) rfl; exact ⟨this.1, by omega⟩
  · have := append_few h hs (er := (appendM q lf M o.p (o.b.take 300)).1) (M' := (appendM q lf M o.p (o.b.take 300)).2) rfl
    have h3 : (o.b.take 300).length ≤ 300 := by rw [List.length_take]; omega
    exact ⟨this.1, by omega⟩
  · have := sync_small h hs (er := (syncM lf M o.p).1) (M' := (syncM lf M o.p).2) rfl; exact ⟨this.1, by omega⟩
  · have := move_small h (er := (moveM lf M o.p o.q).1) (M' := (moveM lf M o.p o.q).2) rfl; exact ⟨this.1, by omega⟩
  · have := del_small h (er := (deleteM lf M o.p).1) (M' := (deleteM lf M o.p).2) rfl; exact ⟨this.1, by omega⟩
  · have := crash_small (keep := o.n) h; exact ⟨this.1, by omega⟩
  · have := corrupt_small (p := o.p) (i := o.n) (m := o.m) h hs; exact ⟨this.1, by omega⟩
  · exact ⟨h, by omega⟩
theorem does_left {lf : Int} {o : Opv} (h : -1 ≤ lf ∧ lf ≤ 1000) : -1 ≤ doesLf lf o ∧ doesLf lf o ≤ 1000 := by
  have h1 := Int.tmod_lt_of_pos o.n (show (0 : Int) < 20 by omega)
  unfold doesLf fuseN burnL
  repeat' split
  all_goals omega
end Go.Proofs.YtekdcnlbdgikoaaDoor

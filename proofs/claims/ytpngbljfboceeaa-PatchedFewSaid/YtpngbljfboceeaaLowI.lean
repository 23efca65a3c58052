/- A row of numbers of the call's own that is written to. -/
import Derived.Test.YtpngbljfboceeaaFreshU
namespace Go.Proofs.Ytpngbljfboceeaa
open Go.RowKit

/-- A row that may be written: block g, from its first cell on; all else is as it was. -/
def LowI (w0 w : World) (g n : Nat) (l : List Int) : Prop :=
  ∃ cur, Blk w g 3 cur ∧ l.length = n ∧ (∀ j, j < n → cur[j]? = some (.int .i64 (l.getD j 0))) ∧ w0.grownBy w (some g)
theorem LowI.cell {w0 w : World} {g n : Nat} {l : List Int} (h : LowI w0 w g n l) {j : Nat} (hj : j < n) : w.cell? ⟨g, j, none⟩ = some (.int .i64 (l.getD j 0)) := by
  obtain ⟨cur, hb, _, hc, _⟩ := h
  rw [hb.cell]; exact hc j hj
theorem LowI.frozen {w0 w : World} {g n : Nat} {l : List Int} (h : LowI w0 w g n l) (j : Nat) : w.frozen? ⟨g, j, none⟩ = false := by
  obtain ⟨cur, hb, _⟩ := h
  exact hb.frozen j
theorem LowI.len {w0 w : World} {g n : Nat} {l : List Int} (h : LowI w0 w g n l) : l.length = n := by obtain ⟨_, _, h, _⟩ := h; exact h
theorem LowI.lt {w0 w : World} {g n : Nat} {l : List Int} (h : LowI w0 w g n l) : g < w.heap.size := by obtain ⟨_, h, _⟩ := h; exact h.lt
theorem LowI.grown {w0 w : World} {g n : Nat} {l : List Int} (h : LowI w0 w g n l) : w0.grownBy w (some g) := by obtain ⟨_, _, _, _, h⟩ := h; exact h
theorem LowI.alloc {w0 w : World} {g n : Nat} {l : List Int} (h : LowI w0 w g n l) (o : Obj) : LowI w0 (w.alloc o) g n l := by
  obtain ⟨cur, hb, hl, hc, hg⟩ := h
  exact ⟨cur, hb.alloc o, hl, hc, hg.trans (World.grownBy_alloc w o _)⟩
theorem LowI.drew {w0 w : World} {g n : Nat} {l : List Int} (h : LowI w0 w g n l) : LowI w0 w.drew g n l := by
  obtain ⟨cur, hb, hl, hc, hg⟩ := h
  exact ⟨cur, hb, hl, hc, ⟨hg.os, hg.tape, hg.output, hg.size, hg.block⟩⟩
theorem LowI.set_ {w0 w : World} {g n : Nat} {l : List Int} (h : LowI w0 w g n l) {i : Nat} (hi : i < n) (x : Int) : LowI w0 (w.setCell ⟨g, i, none⟩ (.int .i64 x)) g n (l.set i x) := by
  obtain ⟨cur, hb, hl, hc, hg⟩ := h
  refine ⟨_, hb.set_ i _, by rw [List.length_set]; exact hl, fun j hj => ?_, hg.trans ⟨rfl, rfl, rfl, by simp [World.setCell], fun k _ hk => Below.heap_setCell w _ _ k (fun e => hk (by rw [e]))⟩⟩
  have hsz : i < cur.size := by
    have := hc i hi
    exact (Array.getElem?_eq_some_iff.1 this).1
  by_cases hij : i = j
  · subst hij
    rw [Array.getElem?_setIfInBounds_self_of_lt hsz, List.getD, List.getElem?_set_self (by rw [hl]; exact hi)]; rfl
  · rw [Array.getElem?_setIfInBounds_ne hij, hc j hj, List.getD, List.getD, List.getElem?_set_ne hij]
theorem LowI.start {w : World} {B n c : Nat} {G : Option Addr} {l : List Int} (h : w.ownsRow B 3 1 (.slice G n c) n (l.map (Value.int .i64))) (hn : 1 ≤ n) : ∃ g, G = some ⟨g, 0, none⟩ ∧ B ≤ g ∧ LowI w w g n l := by
  have hr := Ri.of_own h
  rcases h.2 with ⟨_, h0⟩ | ⟨g, cap, cur, e, hB, hb, _⟩
  · omega
  · injection e with e1 e2 e3
    subst e1
    obtain ⟨b, o, e, _, hc⟩ := hr.all (by omega)
    injection e with e; injection e with e1 e2
    subst e1 e2
    refine ⟨_, rfl, hB, cur, hb, hr.len, fun j hj => ?_, World.grownBy.refl _ _⟩
    have h1 := hc j hj
    rw [Nat.zero_add, (show Blk w _ _ cur from hb).cell] at h1
    exact h1
theorem LowI.ri {w0 w : World} {g n : Nat} {l : List Int} (h : LowI w0 w g n l) : Ri w .i64 (some ⟨g, 0, none⟩) n l :=
  Ri.mk_ h.len h.lt fun j hj => by rw [Nat.zero_add]; exact h.cell hj
/-- What is not in the row's block reads as it did. -/
theorem LowI.far {w0 w : World} {g n m : Nat} {l r : List Int} {k : IntKind} {A : Option Addr} (h : LowI w0 w g n l) (hr : Ri w0 k A m r) (hA : ∀ b o, A = some ⟨b, o, none⟩ → b ≠ g) : Ri w k A m r :=
  hr.grown h.grown (fun g' b o h1 h2 => by injection h1 with h1; subst h1; exact (hA b o h2).symm)
theorem LowI.trans {w0 w1 w : World} {g n m : Nat} {l l2 : List Int} (h : LowI w0 w1 g n l) (k : LowI w1 w g m l2) : LowI w0 w g m l2 := by
  obtain ⟨cur, hb, hl, hc, hg⟩ := k
  exact ⟨cur, hb, hl, hc, h.grown.trans hg⟩
theorem LowI.self {w0 w : World} {g n : Nat} {l : List Int} (h : LowI w0 w g n l) : LowI w w g n l := by
  obtain ⟨cur, hb, hl, hc, hg⟩ := h
  exact ⟨cur, hb, hl, hc, World.grownBy.refl _ _⟩
end Go.Proofs.Ytpngbljfboceeaa

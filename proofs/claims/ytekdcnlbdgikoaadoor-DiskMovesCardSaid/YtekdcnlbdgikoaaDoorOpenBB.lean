/- Rows of rows of bytes that came in. -/
import Derived.Test.YtekdcnlbdgikoaaDoorOpen
import Derived.Deep.Slices
import Derived.Lib.SmallJoins
namespace Go.Proofs.YtekdcnlbdgikoaaDoor
open Go.ChangeShapes Go.WideShapes Go.ChangeAt Go.RowKit

/-- A row of bytes: where it lies, what it reads as. -/
structure Bv where
  A : Option Addr
  len : Nat
  cap : Nat
  b : List Int
def BvOk (w : World) (x : Bv) : Prop := Ri w .u8 x.A x.len x.b ∧ U8 x.b ∧ x.len ≤ x.cap ∧ x.cap ≤ maxLen
/-- A slice of n rows of bytes that reads as l. -/
def Rbb (w : World) (A : Option Addr) (n : Nat) (l : List Bv) : Prop :=
  l.length = n ∧ (∀ x ∈ l, BvOk w x) ∧ (0 < n → ∃ b o, A = some ⟨b, o, none⟩ ∧ b < w.heap.size ∧ ∀ j (hj : j < l.length), w.cell? ⟨b, o + j, none⟩ = some (.slice l[j].A l[j].len l[j].cap))
theorem Rbb.nil (w : World) (A : Option Addr) : Rbb w A 0 [] := ⟨rfl, fun x hx => absurd hx List.not_mem_nil, fun h => absurd h (by omega)⟩
theorem open_bbs {H : Type} {enc : TypeId × Value → H} {P : Program} {r t u : TypeId} (hr : P.underlying r = some (.slice t)) (ht : P.underlying t = some (.slice u)) (hu : P.underlying u = some (.int .u8)) (hcu : P.cellsOf u = 1) (hc : P.cellsOf t = 1)
    {W : World} {a : Option Addr} {len cap : Nat} {d : DataW H} {p : List MemPlace} {base : Nat} {hd : Bool}
    (h : DataW.Trod enc P W base (fun _ => true) hd r (.slice a len cap) d p) : ∃ l : List Bv, Rbb W a len l ∧ len ≤ cap ∧ cap ≤ maxLen := by
  obtain ⟨fuel, hf⟩ := h
  rcases Go.Deep.open_slice1 hr hc hf with ⟨hcs, _⟩ | ⟨x, l, c, m, n, V, D, Pl, hcs, _, hl, hm, hmm, _, hel⟩
  · simp [Value.cells] at hcs
    obtain ⟨rfl, rfl, rfl⟩ := hcs
    exact ⟨[], Rbb.nil _ _, Nat.le_refl _, Nat.zero_le _⟩
  · simp [Value.cells] at hcs
    obtain ⟨rfl, rfl, rfl⟩ := hcs
    rw [if_pos rfl] at hmm
    subst hmm
    have key : ∀ k, k < len → ∃ v : Bv, BvOk W v ∧ W.cell? (x.add k) = some (.slice v.A v.len v.cap) := by
      intro k hk
      obtain ⟨g1, g2⟩ := hel k (by omega)
      obtain ⟨a5, l5, k5, e5⟩ := Go.Joins.slice_form ht g2
      injection e5 with e5 _
      rw [e5] at g1 g2
      obtain ⟨b, hb, hb8, hb1, hb2⟩ := row_u8 (open_row (d := D k) (p := Pl k) ht hu hcu ⟨n, g2⟩)
      exact ⟨⟨a5, l5, k5, b⟩, ⟨hb, hb8, hb1, hb2⟩, g1⟩
    have : Inhabited Bv := ⟨⟨none, 0, 0, []⟩⟩
    obtain ⟨f, hf2⟩ := Go.Deep.choose_lt key
    refine ⟨(List.range len).map f, ⟨by simp, fun v hv => ?_, fun h0 => ?_⟩, hl, hm⟩
    · obtain ⟨k, hk, rfl⟩ := List.mem_map.1 hv
      exact (hf2 k (List.mem_range.1 hk)).1
    · obtain ⟨bl, off, spot⟩ := x
      have hc0 := (hf2 0 (by omega)).2
      have hspot : spot = none := by simpa [Addr.add] using World.cell?_spot hc0
      subst hspot
      simp only [add_none] at hf2 hc0
      refine ⟨bl, off, rfl, World.block_lt_of_cell? _ _ hc0, fun j hj => ?_⟩
      have hjl : j < len := by simpa using hj
      rw [List.getElem_map, List.getElem_range]
      exact (hf2 j hjl).2
end Go.Proofs.YtekdcnlbdgikoaaDoor

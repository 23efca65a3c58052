/- Rows of truths that came in. -/
import Derived.Test.YtfmdnhiginmjgaaOpen
import Derived.Test.YtfmdnhiginmjgaaRowB
import Derived.Deep.Grids
namespace Go.Proofs.Ytfmdnhiginmjgaa
open Go.ChangeShapes Go.WideShapes Go.ChangeAt Go.RowKit

theorem open_bools {H : Type} {enc : TypeId × Value → H} {P : Program} {t e : TypeId} (ht : P.underlying t = some (.slice e)) (he : P.underlying e = some .bool) (hc : P.cellsOf e = 1)
    {W : World} {a : Option Addr} {len cap : Nat} {d : DataW H} {p : List MemPlace} {b : Nat} {hd : Bool}
    (h : DataW.Trod enc P W b (fun _ => true) hd t (.slice a len cap) d p) : ∃ l : List Bool, Rb W a len l ∧ len ≤ cap ∧ cap ≤ maxLen := by
  obtain ⟨fuel, hf⟩ := h
  rcases Go.Deep.open_bools ht he hc hf with ⟨hcs, _⟩ | ⟨x, l, c, B, hcs, _, hl, hm, _, hcell⟩
  · simp [Value.cells] at hcs
    obtain ⟨rfl, rfl, rfl⟩ := hcs
    exact ⟨[], Rb.nil _ _, Nat.le_refl _, Nat.zero_le _⟩
  · simp [Value.cells] at hcs
    obtain ⟨rfl, rfl, rfl⟩ := hcs
    refine ⟨(List.range len).map B, ⟨by simp, fun h0 => ?_⟩, hl, hm⟩
    obtain ⟨bl, off, spot⟩ := x
    have hc0 := hcell 0 (by omega)
    have hspot : spot = none := by simpa [Addr.add] using World.cell?_spot hc0
    subst hspot
    refine ⟨bl, off, rfl, ?_, fun j u hj => ?_⟩
    · rw [add_none] at hc0
      exact World.block_lt_of_cell? _ _ hc0
    · have hjl : j < len := by
        rcases Nat.lt_or_ge j len with h | h
        · exact h
        · rw [List.getElem?_eq_none (by simpa using h)] at hj; cases hj
      have hcj := hcell j (by omega)
      rw [add_none] at hcj
      rw [hcj]
      simp [hjl] at hj
      rw [hj]
end Go.Proofs.Ytfmdnhiginmjgaa

/- Joined texts: Open. Each has its own head line. No condition beyond those that its theorems state. -/
import Derived.ProofKit
import Derived.OpenShut
import Derived.ShutString
import Derived.ChangeOld
import Derived.Below
import Derived.Test.YtekdcnlbdgikoaaDoorJ01
set_option linter.unusedVariables false

/- From the data that a row speaks of to what a walk is told. -/
namespace Go.Proofs.YtekdcnlbdgikoaaDoor
open Go.ChangeShapes Go.WideShapes Go.ChangeAt Go.RowKit
open Go.ChangeMaps (open_string shut_string)

theorem wf_i64 {n : Int} (h : (Lit.int .i64 n).wf = true) : -9223372036854775808 ≤ n ∧ n < 9223372036854775808 := by
  have := bounds_i64 h; omega
theorem wf_u64 {n : Int} (h : (Lit.int .u64 n).wf = true) : 0 ≤ n ∧ n < 18446744073709551616 := by
  have := bounds_u64 h; omega
theorem wf_u8 {n : Int} (h : (Lit.int .u8 n).wf = true) : 0 ≤ n ∧ n < 256 := by
  have := bounds_u8 h; omega

/-- What is read of a slice of numbers that came in. -/
def IsRow (k : IntKind) (w : World) (a : Option Addr) (len cap : Nat) : Prop :=
  ∃ l : List Int, Ri w k a len l ∧ (∀ n ∈ l, (Lit.int k n).wf = true) ∧ len ≤ cap ∧ cap ≤ maxLen

theorem open_row {H : Type} {enc : TypeId × Value → H} {P : Program} {t e : TypeId} {k : IntKind} (ht : P.underlying t = some (.slice e)) (he : P.underlying e = some (.int k)) (hc : P.cellsOf e = 1)
    {W : World} {a : Option Addr} {len cap : Nat} {d : DataW H} {p : List MemPlace} {b : Nat} {sp : Nat → Bool} {hd : Bool}
    (h : DataW.Trod enc P W b sp hd t (.slice a len cap) d p) : IsRow k W a len cap := by
  obtain ⟨fuel, hf⟩ := h
  rcases open_ints ht he hc hf with ⟨hcs, _⟩ | ⟨x, l, c, zs, hcs, _, hl, hm, hz, _, hcell, hwz⟩
  · simp [Value.cells] at hcs
    obtain ⟨rfl, rfl, rfl⟩ := hcs
    exact ⟨[], Ri.nil _ _ _, by simp, Nat.le_refl _, Nat.zero_le _⟩
  · simp [Value.cells] at hcs
    obtain ⟨rfl, rfl, rfl⟩ := hcs
    have hz' : len ≤ zs.length := by rw [hz]; split <;> omega
    have hll : (zs.take len).length = len := by rw [List.length_take]; omega
    refine ⟨zs.take len, ⟨by simpa using hll, fun h0 => ?_⟩, fun n hn => hwz n (List.mem_of_mem_take hn), hl, hm⟩
    obtain ⟨bl, off, spot⟩ := x
    have hc0 := hcell 0 (by omega)
    have hspot : spot = none := by simpa [Addr.add] using World.cell?_spot hc0
    subst hspot
    refine ⟨bl, off, rfl, ?_, fun j u hj => ?_⟩
    · rw [add_none] at hc0
      exact World.block_lt_of_cell? _ _ hc0
    · have hjl : j < len := by
        rcases Nat.lt_or_ge j len with h | h
        · exact h
        · rw [List.getElem?_eq_none (by rw [List.length_map, hll]; exact h)] at hj; cases hj
      have hcj := hcell j (by omega)
      rw [add_none] at hcj
      rw [hcj]
      simp [List.getElem?_take_of_lt hjl, List.getElem?_eq_getElem (show j < zs.length by omega)] at hj
      simp [List.getD, List.getElem?_eq_getElem (show j < zs.length by omega), hj]

theorem row_u8 {w : World} {a : Option Addr} {len cap : Nat} (h : IsRow .u8 w a len cap) : ∃ l : List Int, Ri w .u8 a len l ∧ U8 l ∧ len ≤ cap ∧ cap ≤ maxLen := by
  obtain ⟨l, h1, h2, h3, h4⟩ := h
  exact ⟨l, h1, fun x hx => wf_u8 (h2 x hx), h3, h4⟩
theorem row_u64 {w : World} {a : Option Addr} {len cap : Nat} (h : IsRow .u64 w a len cap) : ∃ l : List Int, Ri w .u64 a len l ∧ U64 l ∧ len ≤ cap ∧ cap ≤ maxLen := by
  obtain ⟨l, h1, h2, h3, h4⟩ := h
  exact ⟨l, h1, fun x hx => wf_u64 (h2 x hx), h3, h4⟩
theorem row_i64 {w : World} {a : Option Addr} {len cap : Nat} (h : IsRow .i64 w a len cap) : ∃ l : List Int, Ri w .i64 a len l ∧ I64 l ∧ len ≤ cap ∧ cap ≤ maxLen := by
  obtain ⟨l, h1, h2, h3, h4⟩ := h
  exact ⟨l, h1, fun x hx => wf_i64 (h2 x hx), h3, h4⟩
end Go.Proofs.YtekdcnlbdgikoaaDoor

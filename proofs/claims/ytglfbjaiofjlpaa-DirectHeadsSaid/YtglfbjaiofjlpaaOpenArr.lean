/- Arrays of two or three numbers that came in. -/
import Derived.Test.YtglfbjaiofjlpaaOpen
namespace Go.Proofs.Ytglfbjaiofjlpaa
open Go.ChangeShapes Go.WideShapes Go.ChangeAt Go.RowKit

theorem arr_cells {H : Type} {enc : TypeId × Value → H} {P : Program} {t e : TypeId} {n : Nat} {W : World} {base : Nat} {sp : Nat → Bool} {held : Bool} (ht : P.underlying t = some (.array n e)) (he : P.underlying e = some (.int .i64)) (hce : P.cellsOf e = 1) (hct : P.cellsOf t = n)
    {r : Reach} {b0 : Nat} {v : Value} {d : DataW H} {ps : List MemPlace} (hv : Value.okWide P W r b0 t v) (hd : DataW.Trod enc P W base sp held t v d ps) :
    ∃ cs : Array Value, v = .agg cs ∧ cs.size = n ∧ ∀ i, i < n → ∃ a, cs[i]? = some (.int .i64 a) ∧ -9223372036854775808 ≤ a ∧ a < 9223372036854775808 := by
  simp only [Value.okWide, ht] at hv
  obtain ⟨cs, rfl, h2, _⟩ := hv
  rw [hct] at h2
  refine ⟨cs, rfl, h2, ?_⟩
  obtain ⟨fuel, hf⟩ := hd
  cases fuel with
  | zero => simp [DataW.trod] at hf
  | succ m =>
    rw [DataW.trod_step] at hf
    unfold DataW.trodStep at hf
    simp only [ht, Value.cells] at hf
    rw [if_pos (by rw [hct]; simpa using h2)] at hf
    simp only [Option.map_eq_some_iff] at hf
    obtain ⟨ys, hy, _⟩ := hf
    have key : ∀ (L : List Nat) (xs : List (DataW H × List MemPlace)), L.mapM (fun i => DataW.trod enc P W base sp held m e ((cs.toList.drop (i * P.cellsOf e)).take (P.cellsOf e))) = some xs → ∀ i ∈ L, ∃ a, cs[i]? = some (.int .i64 a) ∧ -9223372036854775808 ≤ a ∧ a < 9223372036854775808 := by
      intro L
      induction L with
      | nil => intro xs _ i hi; cases hi
      | cons j L ih =>
        intro xs h i hi
        rw [List.mapM_cons] at h
        simp only [bind, Option.bind_eq_some_iff, pure, Option.some.injEq] at h
        obtain ⟨y, hy, ys, hys, rfl⟩ := h
        rcases List.mem_cons.1 hi with rfl | hi
        · obtain ⟨a, ea, rfl, wa⟩ := DataW.trod_int he hy
          refine ⟨a, ?_, wf_i64 wa⟩
          rw [hce, Nat.mul_one] at ea
          have h3 : (cs.toList.drop i)[0]? = some (.int .i64 a) := by
            have := congrArg (fun q => q[0]?) ea
            simpa [List.getElem?_take] using this
          simpa using h3
        · exact ih _ hys i hi
    intro i hi
    exact key _ _ hy i (List.mem_range.2 hi)
theorem open_arr2 {H : Type} {enc : TypeId × Value → H} {P : Program} {t e : TypeId} {W : World} {base : Nat} {sp : Nat → Bool} {held : Bool} (ht : P.underlying t = some (.array 2 e)) (he : P.underlying e = some (.int .i64)) (hce : P.cellsOf e = 1) (hct : P.cellsOf t = 2)
    {r : Reach} {b0 : Nat} {v : Value} {d : DataW H} {ps : List MemPlace} (hv : Value.okWide P W r b0 t v) (hd : DataW.Trod enc P W base sp held t v d ps) :
    ∃ a b, v = .agg #[.int .i64 a, .int .i64 b] ∧ (-9223372036854775808 ≤ a ∧ a < 9223372036854775808) ∧ (-9223372036854775808 ≤ b ∧ b < 9223372036854775808) := by
  obtain ⟨cs, rfl, h1, h2⟩ := arr_cells ht he hce hct hv hd
  obtain ⟨a, e0, ha⟩ := h2 0 (by omega)
  obtain ⟨b, e1, hb⟩ := h2 1 (by omega)
  refine ⟨a, b, ?_, ha, hb⟩
  congr 1
  apply Array.ext_getElem?
  intro i
  rcases Nat.lt_or_ge i 2 with h | h
  · have : i = 0 ∨ i = 1 := by omega
    rcases this with rfl | rfl
    · rw [e0]; rfl
    · rw [e1]; rfl
  · rw [Array.getElem?_eq_none (by omega), Array.getElem?_eq_none (by simp; omega)]
theorem open_arr3 {H : Type} {enc : TypeId × Value → H} {P : Program} {t e : TypeId} {W : World} {base : Nat} {sp : Nat → Bool} {held : Bool} (ht : P.underlying t = some (.array 3 e)) (he : P.underlying e = some (.int .i64)) (hce : P.cellsOf e = 1) (hct : P.cellsOf t = 3)
    {r : Reach} {b0 : Nat} {v : Value} {d : DataW H} {ps : List MemPlace} (hv : Value.okWide P W r b0 t v) (hd : DataW.Trod enc P W base sp held t v d ps) :
    ∃ a b c, v = .agg #[.int .i64 a, .int .i64 b, .int .i64 c] ∧ (-9223372036854775808 ≤ a ∧ a < 9223372036854775808) ∧ (-9223372036854775808 ≤ b ∧ b < 9223372036854775808) ∧ (-9223372036854775808 ≤ c ∧ c < 9223372036854775808) := by
  obtain ⟨cs, rfl, h1, h2⟩ := arr_cells ht he hce hct hv hd
  obtain ⟨a, e0, ha⟩ := h2 0 (by omega)
  obtain ⟨b, e1, hb⟩ := h2 1 (by omega)
  obtain ⟨c, e2, hc⟩ := h2 2 (by omega)
  refine ⟨a, b, c, ?_, ha, hb, hc⟩
  congr 1
  apply Array.ext_getElem?
  intro i
  rcases Nat.lt_or_ge i 3 with h | h
  · have : i = 0 ∨ i = 1 ∨ i = 2 := by omega
    rcases this with rfl | rfl | rfl
    · rw [e0]; rfl
    · rw [e1]; rfl
    · rw [e2]; rfl
  · rw [Array.getElem?_eq_none (by omega), Array.getElem?_eq_none (by simp; omega)]
end Go.Proofs.Ytglfbjaiofjlpaa

/- Joined texts: OpenV. Each has its own head line. No condition beyond those that its theorems state. -/
import Derived.Deep.Slices
import Derived.Test.YtlmfdmaoakckgaaJ13
import Derived.Test.YtlmfdmaoakckgaaJ11
set_option linter.unusedVariables false

/- Rows of values that came in. -/
namespace Go.Proofs.Ytlmfdmaoakckgaa
open Go.ChangeShapes Go.WideShapes Go.ChangeAt Go.RowKit

/-- A value's number and text are some of the language's. -/
def Val.fits (v : Val) : Prop := (-9223372036854775808 ≤ v.n ∧ v.n < 9223372036854775808) ∧ v.s.size ≤ maxLen
theorem open_val {H : Type} {enc : TypeId × Value → H} {P : Program} {e b i s : TypeId} {f0 f1 f2 : Field} (he : P.underlying e = some (.struct #[f0, f1, f2]))
    (h0 : f0.offset = 0 ∧ P.cellsOf f0.type = 1 ∧ f0.type = b) (h1 : f1.offset = 1 ∧ P.cellsOf f1.type = 1 ∧ f1.type = i) (h2 : f2.offset = 2 ∧ P.cellsOf f2.type = 1 ∧ f2.type = s)
    (hb : P.underlying b = some .bool) (hi : P.underlying i = some (.int .i64)) (hs : P.underlying s = some .string)
    {W : World} {base : Nat} {spare : Nat → Bool} {held : Bool} {fuel : Nat} {cs : List Value} {x : DataW H × List MemPlace} (hl : cs.length = 3) (h : DataW.trod enc P W base spare held fuel e cs = some x) :
    ∃ v : Val, cs = v.cells ∧ v.fits := by
  obtain ⟨xs, n, _, _, _, hlen, hf⟩ := DataW.trod_struct he h
  obtain ⟨c0, c1, c2, rfl⟩ : ∃ c0 c1 c2, cs = [c0, c1, c2] := by
    match cs, hl with
    | [c0, c1, c2], _ => exact ⟨c0, c1, c2, rfl⟩
  have g0 := hf 0 f0 rfl
  have g1 := hf 1 f1 rfl
  have g2 := hf 2 f2 rfl
  rw [h0.1, h0.2.1, h0.2.2] at g0
  rw [h1.1, h1.2.1, h1.2.2] at g1
  rw [h2.1, h2.2.1, h2.2.2] at g2
  simp only [List.drop_zero, List.drop_succ_cons, List.take_succ_cons, List.take_zero] at g0 g1 g2
  match xs, hlen with
  | [y0, y1, y2], _ =>
    simp only [List.getElem?_cons_zero, List.getElem?_cons_succ] at g0 g1 g2
    obtain ⟨b0, e0, _⟩ := DataW.trod_bool hb g0
    obtain ⟨n0, e1, _, w1⟩ := DataW.trod_int hi g1
    obtain ⟨s0, e2, _, w2⟩ := DataW.trod_string hs g2
    refine ⟨⟨b0, n0, s0⟩, ?_, wf_i64 w1, w2⟩
    injection e0 with e0 _
    injection e1 with e1 _
    injection e2 with e2 _
    rw [e0, e1, e2]; rfl
instance : Inhabited Val := ⟨Val.zero⟩
theorem flat_get (len : Nat) (f : Nat → Val) : ∀ (j : Nat) (u : Value), (cellsV ((List.range len).map f))[j]? = some u → j / 3 < len ∧ (j % 3 = 0 → u = .bool (f (j / 3)).null) ∧ (j % 3 = 1 → u = .int .i64 (f (j / 3)).n) ∧ (j % 3 = 2 → u = .string (f (j / 3)).s) := by
  intro j u hu
  have hj : j < (cellsV ((List.range len).map f)).length := (List.getElem?_eq_some_iff.1 hu).1
  rw [cellsV_len, List.length_map, List.length_range] at hj
  have hq : j / 3 < len := by omega
  obtain ⟨v, h1, h2, h3, h4⟩ := cellsV_get ((List.range len).map f) (j / 3) (by simpa using hq)
  have hv : v = f (j / 3) := by
    rw [List.getElem?_map, List.getElem?_range hq] at h1
    simpa using h1.symm
  subst hv
  refine ⟨hq, fun h => ?_, fun h => ?_, fun h => ?_⟩
  · rw [show j / 3 * 3 = j from by omega, hu] at h2; injection h2
  · rw [show j / 3 * 3 + 1 = j from by omega, hu] at h3; injection h3
  · rw [show j / 3 * 3 + 2 = j from by omega, hu] at h4; injection h4
theorem open_vals {H : Type} {enc : TypeId × Value → H} {P : Program} {t e b i s : TypeId} {f0 f1 f2 : Field} (ht : P.underlying t = some (.slice e)) (he : P.underlying e = some (.struct #[f0, f1, f2]))
    (h0 : f0.offset = 0 ∧ P.cellsOf f0.type = 1 ∧ f0.type = b) (h1 : f1.offset = 1 ∧ P.cellsOf f1.type = 1 ∧ f1.type = i) (h2 : f2.offset = 2 ∧ P.cellsOf f2.type = 1 ∧ f2.type = s)
    (hb : P.underlying b = some .bool) (hi : P.underlying i = some (.int .i64)) (hs : P.underlying s = some .string) (hc : P.cellsOf e = 3)
    {W : World} {a : Option Addr} {len cap : Nat} {d : DataW H} {p : List MemPlace} {base : Nat} {hd : Bool}
    (h : DataW.Trod enc P W base (fun _ => true) hd t (.slice a len cap) d p) : ∃ l : List Val, Rv W a len l ∧ (∀ v ∈ l, v.fits) ∧ len ≤ cap ∧ cap ≤ maxLen := by
  obtain ⟨fuel, hf⟩ := h
  rcases Go.Deep.open_slice ht hf with ⟨hcs, _⟩ | ⟨x, l, c, m, n, D, Pl, hcs, _, hl, hm, hmm, _, hel⟩
  · simp [Value.cells] at hcs
    obtain ⟨rfl, rfl, rfl⟩ := hcs
    exact ⟨[], Rv.nil _ _, fun v hv => (by cases hv), Nat.le_refl _, Nat.zero_le _⟩
  · simp [Value.cells] at hcs
    obtain ⟨rfl, rfl, rfl⟩ := hcs
    rw [if_pos rfl] at hmm
    subst hmm
    have key : ∀ k, k < len → ∃ v : Val, v.fits ∧ W.cell? ((x.add (k * 3)).add 0) = some (.bool v.null) ∧ W.cell? ((x.add (k * 3)).add 1) = some (.int .i64 v.n) ∧ W.cell? ((x.add (k * 3)).add 2) = some (.string v.s) := by
      intro k hk
      obtain ⟨cs', g1, g2⟩ := hel k (by omega)
      rw [hc] at g1
      obtain ⟨_, g3, g4⟩ := World.cells?_some g1
      obtain ⟨v, rfl, hv⟩ := open_val he h0 h1 h2 hb hi hs g3 g2
      exact ⟨v, hv, g4 0 (by omega), g4 1 (by omega), g4 2 (by omega)⟩
    obtain ⟨f, hf2⟩ := Go.Deep.choose_lt key
    refine ⟨(List.range len).map f, ⟨by rw [cellsV_len]; simp, fun h0 => ?_⟩, fun v hv => ?_, hl, hm⟩
    · obtain ⟨bl, off, spot⟩ := x
      have hc0 := (hf2 0 (by omega)).2.1
      have hspot : spot = none := by simpa [Addr.add] using World.cell?_spot hc0
      subst hspot
      simp only [add_none] at hf2 hc0
      refine ⟨bl, off, rfl, World.block_lt_of_cell? _ _ hc0, fun j u hu => ?_⟩
      obtain ⟨hq, k0, k1, k2⟩ := flat_get len f j u hu
      obtain ⟨_, c0, c1, c2⟩ := hf2 (j / 3) hq
      have h3 : j % 3 = 0 ∨ j % 3 = 1 ∨ j % 3 = 2 := by omega
      rcases h3 with h | h | h
      · rw [k0 h, ← c0, show off + j / 3 * 3 + 0 = off + j from by omega]
      · rw [k1 h, ← c1, show off + j / 3 * 3 + 1 = off + j from by omega]
      · rw [k2 h, ← c2, show off + j / 3 * 3 + 2 = off + j from by omega]
    · obtain ⟨k, hk, rfl⟩ := List.mem_map.1 hv
      exact (hf2 k (List.mem_range.1 hk)).1
end Go.Proofs.Ytlmfdmaoakckgaa

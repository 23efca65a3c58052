/- Joined texts: OpenOp. Each has its own head line. No condition beyond those that its theorems state. -/
import Derived.Deep.Slices
import Derived.Lib.SmallJoins
import Derived.SizedLaws
import Derived.Test.YtekdcnlbdgikoaaDoorJ02
set_option linter.unusedVariables false

/- Rows of calls that came in: what is read of them. -/
namespace Go.Proofs.YtekdcnlbdgikoaaDoor
open Go.ChangeShapes Go.WideShapes Go.ChangeAt Go.RowKit

/-- A call: its kind, two numbers, two paths, bytes. -/
structure Opv where
  k : Int
  n : Int
  m : Int
  p : ByteArray
  q : ByteArray
  A : Option Addr
  len : Nat
  cap : Nat
  b : List Int
def is64 (x : Int) : Prop := -9223372036854775808 ≤ x ∧ x < 9223372036854775808
def OpOk (w : World) (x : Opv) : Prop := (is64 x.k ∧ is64 x.n ∧ is64 x.m) ∧ (x.p.size ≤ reachBytes ∧ x.q.size ≤ reachBytes) ∧ Ri w .u8 x.A x.len x.b ∧ U8 x.b ∧ x.len ≤ x.cap ∧ x.cap ≤ maxLen
/-- A call's six cells. -/
def OpAt (w : World) (b o : Nat) (x : Opv) : Prop :=
  w.cell? ⟨b, o, none⟩ = some (.int .i64 x.k) ∧ w.cell? ⟨b, o + 1, none⟩ = some (.int .i64 x.n) ∧ w.cell? ⟨b, o + 2, none⟩ = some (.int .i64 x.m) ∧ w.cell? ⟨b, o + 3, none⟩ = some (.string x.p) ∧ w.cell? ⟨b, o + 4, none⟩ = some (.string x.q) ∧ w.cell? ⟨b, o + 5, none⟩ = some (.slice x.A x.len x.cap)
/-- A slice of n calls that reads as l. -/
def Ro (w : World) (A : Option Addr) (n : Nat) (l : List Opv) : Prop :=
  l.length = n ∧ (∀ x ∈ l, OpOk w x) ∧ (0 < n → ∃ b o, A = some ⟨b, o, none⟩ ∧ b < w.heap.size ∧ ∀ j (hj : j < l.length), OpAt w b (o + j * 6) l[j])
section
variable {w w' : World} {A : Option Addr} {n : Nat} {l : List Opv}
theorem OpOk.below {x : Opv} (h : OpOk w x) (hb : Below w.heap.size w w') : OpOk w' x := ⟨h.1, h.2.1, h.2.2.1.below hb, h.2.2.2⟩
theorem Ro.below (h : Ro w A n l) (hb : Below w.heap.size w w') : Ro w' A n l :=
  ⟨h.1, fun x hx => (h.2.1 x hx).below hb, fun hn => by
    obtain ⟨b, o, e, hlt, hc⟩ := h.2.2 hn
    refine ⟨b, o, e, Nat.lt_of_lt_of_le hlt hb.size, fun j hj => ?_⟩
    have k := fun i => hb.cell (p := ⟨b, i, none⟩) hlt
    obtain ⟨h0, h1, h2, h3, h4, h5⟩ := hc j hj
    exact ⟨(k _).trans h0, (k _).trans h1, (k _).trans h2, (k _).trans h3, (k _).trans h4, (k _).trans h5⟩⟩
theorem Ro.nil (w : World) (A : Option Addr) : Ro w A 0 [] := ⟨rfl, fun x hx => absurd hx List.not_mem_nil, fun h => absurd h (by omega)⟩
end

theorem open_op {H : Type} {enc : TypeId × Value → H} {P : Program} {e i s t u : TypeId} {f0 f1 f2 f3 f4 f5 : Field} (he : P.underlying e = some (.struct #[f0, f1, f2, f3, f4, f5]))
    (h0 : f0.offset = 0 ∧ P.cellsOf f0.type = 1 ∧ f0.type = i) (h1 : f1.offset = 1 ∧ P.cellsOf f1.type = 1 ∧ f1.type = i) (h2 : f2.offset = 2 ∧ P.cellsOf f2.type = 1 ∧ f2.type = i)
    (h3 : f3.offset = 3 ∧ P.cellsOf f3.type = 1 ∧ f3.type = s) (h4 : f4.offset = 4 ∧ P.cellsOf f4.type = 1 ∧ f4.type = s) (h5 : f5.offset = 5 ∧ P.cellsOf f5.type = 1 ∧ f5.type = t)
    (hi : P.underlying i = some (.int .i64)) (hs : P.underlying s = some .string) (ht : P.underlying t = some (.slice u)) (hu : P.underlying u = some (.int .u8)) (hcu : P.cellsOf u = 1)
    {W : World} {base : Nat} {held : Bool} {fuel : Nat} {cs : List Value} {x : DataW H × List MemPlace} (hl : cs.length = 6) (h : DataW.trod enc P W base (fun _ => true) held fuel e cs = some x)
    (hw : ∀ n ∈ x.1.weights P e, n ≤ reachBytes) :
    ∃ v : Opv, cs = [.int .i64 v.k, .int .i64 v.n, .int .i64 v.m, .string v.p, .string v.q, .slice v.A v.len v.cap] ∧ OpOk W v := by
  obtain ⟨xs, n, _, hx, _, hlen, hf⟩ := DataW.trod_struct he h
  obtain ⟨c0, c1, c2, c3, c4, c5, rfl⟩ : ∃ c0 c1 c2 c3 c4 c5, cs = [c0, c1, c2, c3, c4, c5] := by
    match cs, hl with
    | [c0, c1, c2, c3, c4, c5], _ => exact ⟨c0, c1, c2, c3, c4, c5, rfl⟩
  have g0 := hf 0 f0 rfl
  have g1 := hf 1 f1 rfl
  have g2 := hf 2 f2 rfl
  have g3 := hf 3 f3 rfl
  have g4 := hf 4 f4 rfl
  have g5 := hf 5 f5 rfl
  rw [h0.1, h0.2.1, h0.2.2] at g0
  rw [h1.1, h1.2.1, h1.2.2] at g1
  rw [h2.1, h2.2.1, h2.2.2] at g2
  rw [h3.1, h3.2.1, h3.2.2] at g3
  rw [h4.1, h4.2.1, h4.2.2] at g4
  rw [h5.1, h5.2.1, h5.2.2] at g5
  simp only [List.drop_zero, List.drop_succ_cons, List.take_succ_cons, List.take_zero] at g0 g1 g2 g3 g4 g5
  match xs, hlen with
  | [y0, y1, y2, y3, y4, y5], _ =>
    simp only [List.getElem?_cons_zero, List.getElem?_cons_succ] at g0 g1 g2 g3 g4 g5
    obtain ⟨n0, e0, _, w0⟩ := DataW.trod_int hi g0
    obtain ⟨n1, e1, _, w1⟩ := DataW.trod_int hi g1
    obtain ⟨n2, e2, _, w2⟩ := DataW.trod_int hi g2
    obtain ⟨s3, e3, z3, _⟩ := DataW.trod_string hs g3
    obtain ⟨s4, e4, z4, _⟩ := DataW.trod_string hs g4
    obtain ⟨a5, l5, k5, e5⟩ := Go.Joins.slice_form ht g5
    injection e0 with e0 _
    injection e1 with e1 _
    injection e2 with e2 _
    injection e3 with e3 _
    injection e4 with e4 _
    injection e5 with e5 _
    subst e0 e1 e2 e3 e4 e5
    obtain ⟨b, hb, hb8, hb1, hb2⟩ := row_u8 (open_row (d := y5.1) (p := y5.2) ht hu hcu ⟨n, g5⟩)
    have hw3 : ∀ (j : Nat) (tt : TypeId) (d : DataW H), [f0.type, f1.type, f2.type, f3.type, f4.type, f5.type][j]? = some tt → [y0.1, y1.1, y2.1, y3.1, y4.1, y5.1][j]? = some d → ∀ n ∈ d.weights P tt, n ≤ reachBytes := by
      intro j tt d htt hd n hn
      refine hw n ?_
      rw [hx]
      simp only [DataW.weights, he]
      exact DataW.weights_mem_each htt hd n hn
    have b3 := hw3 3 f3.type y3.1 rfl rfl s3.size (by rw [z3]; simp [DataW.weights])
    have b4 := hw3 4 f4.type y4.1 rfl rfl s4.size (by rw [z4]; simp [DataW.weights])
    exact ⟨⟨n0, n1, n2, s3, s4, a5, l5, k5, b⟩, rfl, ⟨wf_i64 w0, wf_i64 w1, wf_i64 w2⟩, ⟨b3, b4⟩, hb, hb8, hb1, hb2⟩
theorem weights_all {H : Type} {P : Program} {e : TypeId} : ∀ {ds : List (DataW H)} {d : DataW H}, d ∈ ds → ∀ n ∈ d.weights P e, n ∈ DataW.weightsAll P e ds
  | x :: r, d, hd, n, hn => by
    simp only [DataW.weightsAll, List.mem_append]
    rcases List.mem_cons.1 hd with rfl | hd
    · exact .inl hn
    · exact .inr (weights_all hd n hn)
theorem open_ops {H : Type} {enc : TypeId × Value → H} {P : Program} {r e i s t u : TypeId} {f0 f1 f2 f3 f4 f5 : Field} (hr : P.underlying r = some (.slice e)) (he : P.underlying e = some (.struct #[f0, f1, f2, f3, f4, f5]))
    (h0 : f0.offset = 0 ∧ P.cellsOf f0.type = 1 ∧ f0.type = i) (h1 : f1.offset = 1 ∧ P.cellsOf f1.type = 1 ∧ f1.type = i) (h2 : f2.offset = 2 ∧ P.cellsOf f2.type = 1 ∧ f2.type = i)
    (h3 : f3.offset = 3 ∧ P.cellsOf f3.type = 1 ∧ f3.type = s) (h4 : f4.offset = 4 ∧ P.cellsOf f4.type = 1 ∧ f4.type = s) (h5 : f5.offset = 5 ∧ P.cellsOf f5.type = 1 ∧ f5.type = t)
    (hi : P.underlying i = some (.int .i64)) (hs : P.underlying s = some .string) (ht : P.underlying t = some (.slice u)) (hu : P.underlying u = some (.int .u8)) (hcu : P.cellsOf u = 1) (hc : P.cellsOf e = 6)
    {W : World} {a : Option Addr} {len cap : Nat} {d : DataW H} {p : List MemPlace} {base : Nat} {hd : Bool}
    (h : DataW.Trod enc P W base (fun _ => true) hd r (.slice a len cap) d p) (hw : ∀ n ∈ d.weights P r, n ≤ reachBytes) : ∃ l : List Opv, Ro W a len l ∧ len ≤ cap ∧ cap ≤ maxLen := by
  obtain ⟨fuel, hf⟩ := h
  rcases Go.Deep.open_slice hr hf with ⟨hcs, _⟩ | ⟨x, l, c, m, n, D, Pl, hcs, _, hl, hm, hmm, hx, hel⟩
  · simp [Value.cells] at hcs
    obtain ⟨rfl, rfl, rfl⟩ := hcs
    exact ⟨[], Ro.nil _ _, Nat.le_refl _, Nat.zero_le _⟩
  · simp [Value.cells] at hcs
    obtain ⟨rfl, rfl, rfl⟩ := hcs
    rw [if_pos rfl] at hmm
    subst hmm
    injection hx with hx _
    have key : ∀ k, k < len → ∃ v : Opv, OpOk W v ∧ W.cell? ((x.add (k * 6)).add 0) = some (.int .i64 v.k) ∧ W.cell? ((x.add (k * 6)).add 1) = some (.int .i64 v.n) ∧ W.cell? ((x.add (k * 6)).add 2) = some (.int .i64 v.m) ∧ W.cell? ((x.add (k * 6)).add 3) = some (.string v.p) ∧ W.cell? ((x.add (k * 6)).add 4) = some (.string v.q) ∧ W.cell? ((x.add (k * 6)).add 5) = some (.slice v.A v.len v.cap) := by
      intro k hk
      obtain ⟨cs', g1, g2⟩ := hel k (by omega)
      rw [hc] at g1
      obtain ⟨_, g3, g4⟩ := World.cells?_some g1
      obtain ⟨v, rfl, hv⟩ := open_op he h0 h1 h2 h3 h4 h5 hi hs ht hu hcu g3 g2 (fun n hn => hw n (by
        rw [hx]
        simp only [DataW.weights, hr, List.mem_cons, List.mem_append]
        exact .inr (.inl (weights_all (List.mem_map.2 ⟨k, List.mem_range.2 hk, rfl⟩) n hn))))
      exact ⟨v, hv, g4 0 (by omega), g4 1 (by omega), g4 2 (by omega), g4 3 (by omega), g4 4 (by omega), g4 5 (by omega)⟩
    have : Inhabited Opv := ⟨⟨0, 0, 0, ⟨#[]⟩, ⟨#[]⟩, none, 0, 0, []⟩⟩
    obtain ⟨f, hf2⟩ := Go.Deep.choose_lt key
    refine ⟨(List.range len).map f, ⟨by simp, fun v hv => ?_, fun h0 => ?_⟩, hl, hm⟩
    · obtain ⟨k, hk, rfl⟩ := List.mem_map.1 hv
      exact (hf2 k (List.mem_range.1 hk)).1
    · obtain ⟨bl, off, spot⟩ := x
      have hc0 := (hf2 0 (by omega)).2.1
      have hspot : spot = none := by simpa [Addr.add] using World.cell?_spot hc0
      subst hspot
      simp only [add_none] at hf2 hc0
      refine ⟨bl, off, rfl, World.block_lt_of_cell? _ _ hc0, fun j hj => ?_⟩
      have hjl : j < len := by simpa using hj
      rw [List.getElem_map, List.getElem_range]
      obtain ⟨_, c0, c1, c2, c3, c4, c5⟩ := hf2 j hjl
      exact ⟨c0, c1, c2, c3, c4, c5⟩
end Go.Proofs.YtekdcnlbdgikoaaDoor

/- Joined texts: Shown15, TxLs, TxLt, LawTx4. Each has its own head line. No condition beyond those that its theorems state. -/
import Derived.Test.YtmejoococajikaaGreatJ34
import Derived.Test.YtmejoococajikaaGreatJ44
import Derived.Test.YtmejoococajikaaGreatJ45
import Derived.Test.YtmejoococajikaaGreatJ30
set_option linter.unusedVariables false

/- The document's examples of layer 15. -/
namespace Go.Proofs.YtmejoococajikaaGreat
open Go.RowKit

def exA : List ByteArray := [⟨#[97, 98]⟩, ⟨#[99]⟩]
def exB : List ByteArray := [⟨#[98]⟩, ⟨#[97]⟩, ⟨#[98]⟩, ⟨#[98]⟩]
def exW : List ByteArray := [⟨#[97]⟩, ⟨#[98]⟩]
theorem words_exA : IsWords exA exA := ⟨by unfold Rising exA; decide, fun _ => Iff.rfl⟩
theorem words_exB : IsWords exW exB := ⟨by unfold Rising exW; decide, fun x => by
  simp only [exW, exB, List.mem_cons, List.not_mem_nil, or_false]
  constructor
  · rintro (h | h)
    · exact .inr (.inl h)
    · exact .inl h
  · rintro (h | h | h | h)
    · exact .inr h
    · exact .inl h
    · exact .inr h
    · exact .inr h⟩
theorem put_exA : putT exA exA = (⟨2, 1, 0, [(2, [97, 98, 99]), (3, [66, 1, 144])]⟩, 0) := by kernel_rfl
theorem put_exB : putT exB exW = (⟨4, 2, 2, [(2, [64, 3, 176]), (3, [64, 1, 192]), (4, [97, 98])]⟩, 0) := by kernel_rfl
theorem zA : (putGl (placesT exA exA) false).2 = 0 := by kernel_rfl
theorem zB : (putGl (placesT exW exB) false).2 = 0 := by kernel_rfl
/-- A literal row of texts. -/
theorem rs_lit (w : World) (l : List ByteArray) (t : TypeId) : Rs (w.alloc (.cells (l.map Value.string).toArray t)) (some ⟨w.heap.size, 0, none⟩) l.length l :=
  ⟨by simp, fun _ => ⟨w.heap.size, 0, rfl, by simp, fun j u hu => by
    rw [Nat.zero_add, cell_blkT (newBlkT w _), List.getElem?_toArray]
    exact hu⟩⟩
set_option maxRecDepth 100000 in
set_option maxHeartbeats 1000000 in
theorem shown15_any (w : World) :
    Calls Tryz.prog 6 #[] w fun e w' => e = .returned (.bool true) ∧ Below w.heap.size w w' := by
  have HA := Lib.hid (rs_lit w exA 9)
  have HBA := Lib.hid ((Below.refl w.heap.size w).alloc (Nat.le_refl _) (.cells (exA.map Value.string).toArray 9))
  go_enter Tryz.func6, Tryz.ntmps6
  go_wp2_with fail
  refine (PutT_any (w.alloc (.cells (exA.map Value.string).toArray 9)) _ 2 2 exA exA HA.out (by omega) (by omega) (by decide) words_exA zA).mono ?_; rintro e w1 ⟨A1, n1, k1, rfl, hs1, hn1, hk1, hb1⟩
  rw [put_exA] at hs1 ⊢
  have HB1 := Lib.hid (on HBA.out hb1)
  have HS1 := Lib.hid hs1
  clear hb1 hs1
  go_wp2_with fail
  obtain ⟨wa, hwa⟩ : ∃ wa, wa = w1.alloc (.cells #[.int .i64 2, .int .i64 1, .int .i64 0, .slice A1 n1 k1] 27) := ⟨_, rfl⟩
  have hza : wa.heap.size = w1.heap.size + 1 := by rw [hwa]; simp
  have hal : Below w1.heap.size w1 wa := hwa ▸ (Below.refl w1.heap.size w1).alloc (Nat.le_refl _) _
  have HKA : Hid (wa.heap[w1.heap.size]? = some (.cells #[.int .i64 2, .int .i64 1, .int .i64 0, .slice A1 n1 k1] 27 (0, 0))) := Lib.hid (hwa ▸ newBlkT w1 _)
  rw [← hwa, ← hza]
  have HB2 := Lib.hid (on HB1.out hal)
  have HS2 := Lib.hid (HS1.out.below hal)
  clear hwa hal
  refine (PutT_any (wa.alloc (.cells (exB.map Value.string).toArray 9)) _ 4 4 exB exW (rs_lit wa exB 9) (by omega) (by omega) (by decide) words_exB zB).mono ?_; rintro e w2 ⟨A2, n2, k2, rfl, hs2, hn2, hk2, hb2⟩
  rw [put_exB] at hs2 ⊢
  have hbq := ((Below.refl wa.heap.size wa).alloc (Nat.le_refl _) (.cells (exB.map Value.string).toArray 9)).trans (hb2.mono (by simp))
  have hl1 : w1.heap.size < wa.heap.size := by omega
  obtain ⟨wb, hwb⟩ : ∃ wb, wb = w2.alloc (.cells #[.int .i64 4, .int .i64 2, .int .i64 2, .slice A2 n2 k2] 27) := ⟨_, rfl⟩
  have hal2 : Below w2.heap.size w2 wb := hwb ▸ (Below.refl w2.heap.size w2).alloc (Nat.le_refl _) _
  have hka := (hal2.block _ (Nat.lt_of_lt_of_le hl1 hbq.size)).trans ((hbq.block _ hl1).trans HKA.out)
  have hkb : wb.heap[w2.heap.size]? = some (.cells #[.int .i64 4, .int .i64 2, .int .i64 2, .slice A2 n2 k2] 27 (0, 0)) := hwb ▸ newBlkT w2 _
  have ca0 := cell_blkT hka 0
  have ca1 := cell_blkT hka 1
  have ca2 := cell_blkT hka 2
  have ca3 := cell_blkT hka 3
  have cb0 := cell_blkT hkb 0
  have cb1 := cell_blkT hkb 1
  have cb2 := cell_blkT hkb 2
  have cb3 := cell_blkT hkb 3
  have HBF := Lib.hid (on (on HB2.out hbq) hal2)
  have hsa := (HS2.out.below hbq).below hal2
  have hsb := hs2.below hal2
  obtain rfl : n1 = 2 := hsa.1.symm
  obtain rfl : n2 = 3 := hsb.1.symm
  obtain ⟨p, o, rfl, _, ha⟩ := hsa.2 (by omega)
  obtain ⟨g, d, rfl, _, hb⟩ := hsb.2 (by omega)
  obtain ⟨x0, G0, m0, q0, y0, s0⟩ := ha 0 (by decide)
  obtain ⟨x1, G1, m1, q1, y1, s1⟩ := ha 1 (by decide)
  obtain ⟨x2, G2, m2, q2, y2, s2⟩ := hb 0 (by decide)
  obtain ⟨x3, G3, m3, q3, y3, s3⟩ := hb 1 (by decide)
  obtain ⟨x4, G4, m4, q4, y4, s4⟩ := hb 2 (by decide)
  have v0 := conv_any (c := q0) s0.1
  have v1 := conv_any (c := q1) s1.1
  have v2 := conv_any (c := q2) s2.1
  have v3 := conv_any (c := q3) s3.1
  have v4 := conv_any (c := q4) s4.1
  have e0 : (strOf [97, 98, 99]).toList = [97, 98, 99] := strOf_toList _
  have e1 : (strOf [66, 1, 144]).toList = [66, 1, 144] := strOf_toList _
  have e2 : (strOf [64, 3, 176]).toList = [64, 3, 176] := strOf_toList _
  have e3 : (strOf [64, 1, 192]).toList = [64, 1, 192] := strOf_toList _
  have e4 : (strOf [97, 98]).toList = [97, 98] := strOf_toList _
  simp only [Nat.zero_mul, Nat.add_zero, Nat.one_mul, Nat.reduceMul] at x0 y0 x1 y1 x2 y2 x3 y3 x4 y4
  clear hs2 hn2 hk2 hb2 hbq hal2 hka hkb hsa hsb ha hb s0 s1 s2 s3 s4 HS1 HS2 HKA
  rw [hwb] at ca0 ca1 ca2 ca3 cb0 cb1 cb2 cb3 x0 y0 x1 y1 x2 y2 x3 y3 x4 y4 v0 v1 v2 v3 v4
  go_wp2_with fail
  go_ret
  exact ⟨rfl, hwb ▸ HBF.out⟩
end Go.Proofs.YtmejoococajikaaGreat

/- Texts: less: a column with few streams, of few bytes each. -/
namespace Go.Proofs.YtmejoococajikaaGreat
open Go.RowKit

/-- A stream as it lies: its kind, its slice. -/
abbrev SV := Int × Option Addr × Nat × Nat
def cellsS (l : List SV) : List Value := l.flatMap fun p => [.int .i64 p.1, .slice p.2.1 p.2.2.1 p.2.2.2]
theorem cellsS_len (l : List SV) : (cellsS l).length = l.length * 2 := by
  induction l with
  | nil => rfl
  | cons v t ih => simp only [cellsS, List.flatMap_cons, List.length_append, List.length_cons] at ih ⊢; rw [ih]; simp; omega
theorem cellsS_append (a b : List SV) : cellsS (a ++ b) = cellsS a ++ cellsS b := by simp [cellsS]
theorem cellsS_get (l : List SV) : ∀ (j : Nat) (h : j < l.length), (cellsS l)[j * 2]? = some (.int .i64 l[j].1) ∧ (cellsS l)[j * 2 + 1]? = some (.slice l[j].2.1 l[j].2.2.1 l[j].2.2.2) := by
  induction l with
  | nil => intro j h; simp at h
  | cons v t ih =>
    intro j h
    cases j with
    | zero => exact ⟨by simp [cellsS], by simp [cellsS]⟩
    | succ j =>
      obtain ⟨h1, h2⟩ := ih j (by simpa using h)
      have e : cellsS (v :: t) = [.int .i64 v.1, .slice v.2.1 v.2.2.1 v.2.2.2] ++ cellsS t := by simp [cellsS]
      rw [e, List.getElem_cons_succ]
      refine ⟨?_, ?_⟩
      · rw [List.getElem?_append_right (by simp; omega), show (j + 1) * 2 - [Value.int .i64 v.1, .slice v.2.1 v.2.2.1 v.2.2.2].length = j * 2 from by simp; omega]; exact h1
      · rw [List.getElem?_append_right (by simp; omega), show (j + 1) * 2 + 1 - [Value.int .i64 v.1, .slice v.2.1 v.2.2.1 v.2.2.2].length = j * 2 + 1 from by simp; omega]; exact h2
theorem cellsS_one (l : List SV) : ∀ u ∈ cellsS l, u.oneCell' = true := by
  intro u hu
  obtain ⟨v, _, hv⟩ := List.mem_flatMap.1 hu
  simp at hv
  rcases hv with rfl | rfl <;> rfl
theorem info_stream : (Tryz.prog.info? 40).map (fun i => (i.zero, i.size, i.bytes)) = some (some (.agg #[.int .i64 0, .slice none 0 0]), 2, 32) := by kernel_rfl
theorem wpList_stream (w : World) {ops : Array Oper} {rest : List Oper} {o : Oper} {a : Act} {Q : Exit → Act → World → Prop} (hgd : o.guard = none) (s x : Operand)
    (ho : o.op = .call { callee := .builtin .append, args := #[s, x], argTypes := #[25, 25] })
    (base : Nat) (v : Value) (n : Nat) (l : List SV) (hs : a.eval s = v) (hown : w.ownsRow base 40 2 v n (cellsS l))
    (A : Option Addr) (m c : Nat) (l2 : List SV) (hx : a.eval x = .slice A m c) (hr : Rd w 2 A m (cellsS l2)) (hb : n + m ≤ 1000000) (hbase : base ≤ w.heap.size)
    (h : ∀ G cap w', w'.ownsRow base 40 2 (.slice G (n + m) cap) (n + m) (cellsS (l ++ l2)) → w.grownBy w' v.ownBlock → n + m ≤ cap → wpList Tryz.prog ops Q rest (a.put o.dst (.slice G (n + m) cap)) w') : wpList Tryz.prog ops Q (o :: rest) a w := by
  obtain ⟨i0, hi, hz0, hz1, hz2⟩ := info_parts info_stream
  refine wpList_append_any w hgd s x 25 ho base 40 i0 _ 2 32 Tryz.underlying25 hi hz0 hz1 hz2 rfl (by decide) v n _ hs hown A m c _ hx hr (cellsS_one _) (by unfold maxLen; omega) (by omega) hbase ?_
  intro G cap w' h1 h2 h3 h4
  rw [← cellsS_append] at h1
  exact h G cap w' h1 h2 h4
theorem one_stream (w : World) (p : SV) (t : TypeId) : Rd (w.alloc (.cells #[.int .i64 p.1, .slice p.2.1 p.2.2.1 p.2.2.2] t)) 2 (some ⟨w.heap.size, 0, none⟩) 1 (cellsS [p]) := by
  refine ⟨rfl, fun _ => ⟨_, 0, rfl, by simp, fun j u hu => ?_⟩⟩
  rw [cell_blkT (newBlkT w _), Nat.zero_add]
  simpa [cellsS] using hu
/-- The streams' slices read as S. -/
def SRow (w : World) (L : List SV) (S : List (Int × List Int)) : Prop := L.length = S.length ∧ ∀ i (h1 : i < L.length) (h2 : i < S.length), L[i].1 = S[i].1 ∧ Sl w .u8 L[i].2.1 L[i].2.2.1 L[i].2.2.2 S[i].2
theorem SRow.push {w : World} {L : List SV} {S : List (Int × List Int)} (h : SRow w L S) {p : SV} {b : List Int} (hp : Sl w .u8 p.2.1 p.2.2.1 p.2.2.2 b) : SRow w (L ++ [p]) (S ++ [(p.1, b)]) := by
  obtain ⟨h1, h2⟩ := h
  refine ⟨by simp [h1], fun i hi hi' => ?_⟩
  rw [List.length_append, List.length_singleton] at hi hi'
  by_cases hl : i < L.length
  · rw [List.getElem_append_left hl, List.getElem_append_left (by omega)]
    exact h2 i hl (by omega)
  · have e : i = L.length := by omega
    subst e
    rw [List.getElem_append_right (Nat.le_refl _), List.getElem_append_right (by omega)]
    simp only [Nat.sub_self, h1]
    exact ⟨rfl, hp⟩
theorem stAt_own {w w' : World} {base : Nat} {G : Option Addr} {n c : Nat} {L : List SV} {S : List (Int × List Int)} (h : w'.ownsRow base 40 2 (.slice G n c) n (cellsS L)) (hS : SRow w L S) (hb : Below w.heap.size w w') : StAt w' G n S := by
  have hr : Rd w' 2 G n (cellsS L) := Rd.of_own h
  obtain ⟨h1, h2⟩ := hS
  have hl := hr.1
  rw [cellsS_len] at hl
  refine ⟨by omega, fun h0 => ?_⟩
  obtain ⟨b, o, e, hlt, hc⟩ := hr.2 h0
  refine ⟨b, o, e, hlt, fun j hj => ?_⟩
  have hj' : j < L.length := by omega
  obtain ⟨g1, g2⟩ := cellsS_get L j hj'
  obtain ⟨k1, k2⟩ := h2 j hj' hj
  refine ⟨?_, L[j].2.1, L[j].2.2.1, L[j].2.2.2, ?_, k2.below hb⟩
  · rw [← k1]; exact hc _ _ g1
  · rw [Nat.add_assoc]; exact hc _ _ g2
theorem Sl.first {w : World} {k : IntKind} {A : Option Addr} {n c m : Nat} {l : List Int} (h : Sl w k A n c l) (hm : m ≤ n) : Sl w k A m c (l.take m) := by
  obtain ⟨h1, h2, h3⟩ := h
  have hl := h1.len
  refine ⟨⟨by rw [List.length_map, List.length_take]; omega, fun h0 => ?_⟩, by omega, h3⟩
  obtain ⟨b, o, e, hb, hc⟩ := h1.2 (by omega)
  refine ⟨b, o, e, hb, fun j u hu => hc j u ?_⟩
  rw [List.getElem?_map] at hu ⊢
  rw [List.getElem?_take] at hu
  split at hu
  · exact hu
  · cases hu
end Go.Proofs.YtmejoococajikaaGreat

/- Texts: less walked. -/
namespace Go.Proofs.YtmejoococajikaaGreat
open Go.RowKit

theorem own_set {w : World} {base g : Nat} {e : TypeId} {size n : Nat} {V : Value} {xs : List Value} (h : w.ownsRow base e size V n xs) (hg : g < base) (j : Nat) (v : Value) : (w.setCell ⟨g, j, none⟩ v).ownsRow base e size V n xs :=
  h.kept (row := some g) ⟨rfl, rfl, rfl, by simp [World.setCell], fun k hk hne => by
    simp only [World.setCell]
    rw [Array.getElem?_modify, if_neg (fun e => hne (by rw [e]))]⟩ (by
    rcases h.2 with ⟨rfl, _⟩ | ⟨g', cap, cur, rfl, hb, _⟩
    · exact .inl rfl
    · right
      intro e
      simp [Value.ownBlock] at e
      omega)
set_option maxRecDepth 100000 in
set_option maxHeartbeats 8000000 in
theorem less_any (w : World) (many enc texts : Int) (A : Option Addr) (n k : Nat) (S : List (Int × List Int)) (hS : StAt w A n S) (hn : n ≤ maxLen) (hI : I64 (S.map Prod.fst)) (hU : ∀ s ∈ S, U8 s.2) :
    Calls Tryz.prog 14 #[.agg #[.int .i64 many, .int .i64 enc, .int .i64 texts, .slice A n k]] w fun e w' => ∃ A' n' k' S', e = .returned (.agg #[.int .i64 many, .int .i64 enc, .int .i64 texts, .slice A' n' k']) ∧ StAt w' A' n' S' ∧ (∀ b o, 0 < n' → A' = some ⟨b, o, none⟩ → w.heap.size ≤ b) ∧ n' ≤ 6 ∧ I64 (S'.map Prod.fst) ∧ (∀ s ∈ S', U8 s.2 ∧ s.2.length ≤ 1500) ∧ Below w.heap.size w w' := by
  have hSl := hS.1
  unfold maxLen at hn
  have HALL := Lib.hid (fun h0 => hS.2 h0)
  have HI := Lib.hid hI; have HU := Lib.hid hU
  obtain ⟨w1, hw1⟩ : ∃ w1, w1 = w.alloc (.cells #[.int .i64 many, .int .i64 enc, .int .i64 texts, .slice A n k] 27) := ⟨_, rfl⟩
  obtain ⟨w2, hw2⟩ : ∃ w2, w2 = w1.alloc (.cells #[.int .i64 0, .int .i64 0, .int .i64 0, .slice none 0 0] 27) := ⟨_, rfl⟩
  obtain ⟨w3, hw3⟩ : ∃ w3, w3 = w2.alloc (.cells #[] 40) := ⟨_, rfl⟩
  have hk1 : w1.heap[w.heap.size]? = some (.cells #[.int .i64 many, .int .i64 enc, .int .i64 texts, .slice A n k] 27 (0, 0)) := by rw [hw1]; exact newBlkT w _
  have hz1 : w1.heap.size = w.heap.size + 1 := by rw [hw1]; simp
  have hz2 : w2.heap.size = w.heap.size + 2 := by rw [hw2]; simp; omega
  have hz3 : w3.heap.size = w.heap.size + 3 := by rw [hw3]; simp; omega
  have hb12 : Below w1.heap.size w1 w2 := hw2 ▸ (Below.refl w1.heap.size w1).alloc (Nat.le_refl _) _
  have hb23 : Below w2.heap.size w2 w3 := hw3 ▸ (Below.refl w2.heap.size w2).alloc (Nat.le_refl _) _
  have hk2 : w2.heap[w1.heap.size]? = some (.cells #[.int .i64 0, .int .i64 0, .int .i64 0, .slice none 0 0] 27 (0, 0)) := by rw [hw2]; exact newBlkT w1 _
  rw [hz1] at hk2
  have HK3 : Hid (w3.heap[w.heap.size]? = some (.cells #[.int .i64 many, .int .i64 enc, .int .i64 texts, .slice A n k] 27 (0, 0))) := Lib.hid ((hb23.block _ (by omega)).trans ((hb12.block _ (by omega)).trans hk1))
  have HR3 : Hid (w3.heap[w.heap.size + 1]? = some (.cells #[.int .i64 0, .int .i64 0, .int .i64 0, .slice none 0 0] 27 (0, 0))) := Lib.hid ((hb23.block _ (by omega)).trans hk2)
  have HB3 : Hid (Below w.heap.size w w3) := Lib.hid (((hw1 ▸ (Below.refl w.heap.size w).alloc (Nat.le_refl _) _ : Below w.heap.size w w1).trans (hb12.mono (by omega))).trans (hb23.mono (by omega)))
  have HO3 : Hid (w3.ownsRow (w.heap.size + 2) 40 2 (.slice (some ⟨w.heap.size + 2, 0, none⟩) 0 0) 0 (cellsS [])) := Lib.hid (by
    have := own_empty w2 40 2
    rw [hz2] at this
    rw [hw3]; exact this)
  clear hS hI hU hk1 hk2 hb12 hb23
  go_enter Tryz.func14, Tryz.ntmps14
  go_wp2_with fail
  rw [← hw1, ← hw2, ← hw3]
  clear hw1 hw2 hw3
  go_loopg [3, 4] 6 (fun gg v3 v wr => ∃ (j : Nat) (L : List SV) (S' : List (Int × List Int)), v = .int .i64 j ∧ j ≤ n ∧ j ≤ 6 ∧ 6 - j ≤ gg ∧ Hid (wr.ownsRow (w.heap.size + 2) 40 2 v3 j (cellsS L)) ∧ Hid (SRow w L S') ∧ Hid (I64 (S'.map Prod.fst)) ∧ Hid (∀ s ∈ S', U8 s.2 ∧ s.2.length ≤ 1500) ∧ Hid (Below (w.heap.size + 2) w3 wr))
  case atStart => exact ⟨0, [], [], rfl, by omega, by omega, by omega, HO3, Lib.hid ⟨rfl, fun i h => by simp at h⟩, Lib.hid (fun x h => by simp at h), Lib.hid (fun x h => by simp at h), Lib.hid (Below.refl _ _)⟩
  case round =>
  obtain ⟨j, L, S', rfl, hjn, hj6, hgg, ho, hsr, hi', hu', hb⟩ := hrel
  obtain ⟨GO, cO, hGO⟩ := own_form ho.out
  subst hGO
  have hz := hb.out.size
  have hkb := (hb.out.block w.heap.size (by omega)).trans HK3.out
  have HKB := Lib.hid hkb
  have k3 := cell_blkT hkb 3
  clear hkb
  by_cases hgo : j < n ∧ j < 6
  · have t1 : decide (j < n) = true := decide_eq_true hgo.1
    have t2 : decide (j < 6) = true := decide_eq_true hgo.2
    obtain ⟨b, o, rfl, hbl, hc⟩ := HALL.out (by omega)
    have hj : j < S.length := by omega
    obtain ⟨c1, G, m, cc, c2, s2⟩ := hc j hj
    have hbw : Below w.heap.size w wr := HB3.out.trans (hb.out.mono (by omega))
    have c1 := (hbw.cell (p := ⟨b, o + j * 2, none⟩) hbl).trans c1
    have c2 := (hbw.cell (p := ⟨b, o + j * 2 + 1, none⟩) hbl).trans c2
    have HIX := Lib.hid (HI.out S[j].1 (List.mem_map_of_mem (List.getElem_mem hj)))
    have HUX := Lib.hid (HU.out S[j] (List.getElem_mem hj))
    have HSX := Lib.hid s2
    generalize S[j] = p at c1 HIX HUX HSX
    have hcap := HSX.out.2
    clear hc s2 hbw
    by_cases hx : 1500 < m
    · have t3 : decide (1500 < m) = true := decide_eq_true hx
      have HRD := Lib.hid (one_stream (wr.alloc (.cells #[.int .i64 p.1, .slice G 1500 cc] 40)) (p.1, G, 1500, cc) 40)
      rw [World.size_alloc] at HRD
      have HOW := Lib.hid ((own_below ho.out ((Below.refl wr.heap.size wr).alloc (Nat.le_refl _) (.cells #[.int .i64 p.1, .slice G 1500 cc] 40))))
      have HOW2 := Lib.hid (own_below HOW.out ((Below.refl _ _).alloc (Nat.le_refl _) (.cells #[.int .i64 p.1, .slice G 1500 cc] 40)))
      have HBX := Lib.hid (hb.out.alloc (by omega) (.cells #[.int .i64 p.1, .slice G 1500 cc] 40))
      go_wp2_with (at_builtin; refine wpList_stream _ rfl (.tmp 31) (.tmp 33) rfl (w.heap.size + 2) _ j _ rfl HOW2.out _ 1 1 [(p.1, G, 1500, cc)] rfl HRD.out (by omega) (by simp; omega) ?_; intro G7 c7 w7 ho7 hg7 _)
      have HB7 := Lib.hid (push_ HBX.out (by omega) HOW.out hg7)
      have HO7 := Lib.hid ho7
      have HSR := Lib.hid (hsr.out.push (p := (p.1, G, 1500, cc)) (b := p.2.take 1500) (HSX.out.first (Nat.le_of_lt hx)))
      have HI7 : Hid (I64 ((S' ++ [(p.1, p.2.take 1500)]).map Prod.fst)) := Lib.hid (fun x h => by
        rw [List.map_append] at h
        rcases List.mem_append.1 h with h | h
        · exact hi'.out x h
        · rw [List.mem_singleton.1 h]; exact HIX.out)
      have HU7 : Hid (∀ s ∈ S' ++ [(p.1, p.2.take 1500)], U8 s.2 ∧ s.2.length ≤ 1500) := Lib.hid (fun x h => by
        rcases List.mem_append.1 h with h | h
        · exact hu'.out x h
        · rw [List.mem_singleton.1 h]
          exact ⟨fun y hy => HUX.out y (List.mem_of_mem_take hy), by show (p.2.take 1500).length ≤ 1500; rw [List.length_take]; omega⟩)
      clear ho7 hg7
      go_wp2_with fail
      go_roundg (6 - (j + 1))
      case measure => omega
      case rel => exact ⟨j + 1, _, _, by go_num, by omega, by omega, by omega, HO7, HSR, HI7, HU7, HB7⟩
    · have t3 : decide (1500 < m) = false := decide_eq_false hx
      have HRD := Lib.hid (one_stream (wr.alloc (.cells #[.int .i64 p.1, .slice G m cc] 40)) (p.1, G, m, cc) 40)
      rw [World.size_alloc] at HRD
      have HOW := Lib.hid ((own_below ho.out ((Below.refl wr.heap.size wr).alloc (Nat.le_refl _) (.cells #[.int .i64 p.1, .slice G m cc] 40))))
      have HOW2 := Lib.hid (own_below HOW.out ((Below.refl _ _).alloc (Nat.le_refl _) (.cells #[.int .i64 p.1, .slice G m cc] 40)))
      have HBX := Lib.hid (hb.out.alloc (by omega) (.cells #[.int .i64 p.1, .slice G m cc] 40))
      go_wp2_with (at_builtin; refine wpList_stream _ rfl (.tmp 31) (.tmp 33) rfl (w.heap.size + 2) _ j _ rfl HOW2.out _ 1 1 [(p.1, G, m, cc)] rfl HRD.out (by omega) (by simp; omega) ?_; intro G7 c7 w7 ho7 hg7 _)
      have HB7 := Lib.hid (push_ HBX.out (by omega) HOW.out hg7)
      have HO7 := Lib.hid ho7
      have HSR := Lib.hid (hsr.out.push (p := (p.1, G, m, cc)) (b := p.2) HSX.out)
      have HI7 : Hid (I64 ((S' ++ [(p.1, p.2)]).map Prod.fst)) := Lib.hid (fun x h => by
        rw [List.map_append] at h
        rcases List.mem_append.1 h with h | h
        · exact hi'.out x h
        · rw [List.mem_singleton.1 h]; exact HIX.out)
      have HU7 : Hid (∀ s ∈ S' ++ [(p.1, p.2)], U8 s.2 ∧ s.2.length ≤ 1500) := Lib.hid (fun x h => by
        rcases List.mem_append.1 h with h | h
        · exact hu'.out x h
        · rw [List.mem_singleton.1 h]
          exact ⟨HUX.out, by have := HSX.out.1.len; show p.2.length ≤ 1500; omega⟩)
      clear ho7 hg7
      go_wp2_with fail
      go_roundg (6 - (j + 1))
      case measure => omega
      case rel => exact ⟨j + 1, _, _, by go_num, by omega, by omega, by omega, HO7, HSR, HI7, HU7, HB7⟩
  have HBW : Hid (Below w.heap.size w wr) := Lib.hid (HB3.out.trans (hb.out.mono (by omega)))
  have HRB := Lib.hid ((hb.out.block (w.heap.size + 1) (by omega)).trans HR3.out)
  have f3 := froz_blk HKB.out 3
  have hS := heap_set HKB.out 3 (.slice GO j cO)
  have hR2 : (wr.setCell ⟨w.heap.size, 3, none⟩ (.slice GO j cO)).heap[w.heap.size + 1]? = some (.cells #[.int .i64 0, .int .i64 0, .int .i64 0, .slice none 0 0] 27 (0, 0)) := by
    have := HRB.out
    simp only [World.setCell]
    rw [Array.getElem?_modify, if_neg (by omega)]
    exact this
  have b0 := cell_blkT hS 0
  have b1 := cell_blkT hS 1
  have b2 := cell_blkT hS 2
  have b3 := cell_blkT hS 3
  obtain ⟨⟨r0, g0⟩, ⟨r1, g1⟩, ⟨r2, g2⟩, ⟨r3, g3⟩⟩ := colSet_facts hR2 (.int .i64 many) (.int .i64 enc) (.int .i64 texts)
  have HF := Lib.hid (colSet_heap hR2 (.int .i64 many) (.int .i64 enc) (.int .i64 texts) (.slice GO j cO))
  have HBF : Hid (Below w.heap.size w (colSet (wr.setCell ⟨w.heap.size, 3, none⟩ (.slice GO j cO)) (w.heap.size + 1) (.int .i64 many) (.int .i64 enc) (.int .i64 texts) (.slice GO j cO))) :=
    Lib.hid (colSet_below (HBW.out.setCell (p := ⟨w.heap.size, 3, none⟩) (Nat.le_refl _) _) (by omega) _ _ _ _)
  have HST : Hid (StAt (colSet (wr.setCell ⟨w.heap.size, 3, none⟩ (.slice GO j cO)) (w.heap.size + 1) (.int .i64 many) (.int .i64 enc) (.int .i64 texts) (.slice GO j cO)) GO j S') :=
    Lib.hid (stAt_own (own_set (own_set (own_set (own_set (own_set ho.out (by omega) 3 _) (by omega) 0 _) (by omega) 1 _) (by omega) 2 _) (by omega) 3 _) hsr.out HBF.out)
  have HNEW : Hid (∀ b o, 0 < j → GO = some ⟨b, o, none⟩ → w.heap.size ≤ b) := Lib.hid (fun b o h0 e => by
    rcases ho.out.2 with ⟨h1, _⟩ | ⟨g, cap, cur, h1, hbase, _⟩
    · injection h1 with _ h1; omega
    · injection h1 with h1
      rw [h1] at e
      injection e with e
      injection e with e
      omega)
  have hX : decide (j < n) = false ∨ (decide (j < n) = true ∧ ¬ j < 6 ∧ decide (j < 6) = false) := by
    by_cases h : j < n
    · exact .inr ⟨decide_eq_true h, fun h2 => hgo ⟨h, h2⟩, decide_eq_false fun h2 => hgo ⟨h, h2⟩⟩
    · exact .inl (decide_eq_false h)
  have hcap := own_cap ho.out
  clear hgo hS hR2 ho hsr hb
  rcases hX with t1 | ⟨t1, h6, t2⟩
  all_goals
    go_wp2_with fail
    refine bodyPost_ret (v := .agg #[.int .i64 many, .int .i64 enc, .int .i64 texts, .slice GO j cO]) ?_ rfl ?_
    · exact results_cell_row (P := Tryz.prog) rfl _ _ (w.heap.size + 1) 27 #[.int .i64 many, .int .i64 enc, .int .i64 texts, .slice GO j cO] (0, 0) _ rfl HF.out Tryz.underlying27 rfl (by kernel_rfl)
    · exact ⟨GO, j, cO, S', rfl, HST.out, HNEW.out, hj6, hi'.out, hu'.out, HBF.out⟩
end Go.Proofs.YtmejoococajikaaGreat

/- The walk through TextsTakes. -/
namespace Go.Proofs.YtmejoococajikaaGreat
open Go.RowKit

theorem indexT_len {W O : List ByteArray} {N : List Int} (h : indexT W N = some O) : O.length = N.length := by
  induction N generalizing O with
  | nil => injection h with h; subst h; rfl
  | cons i r ih =>
    unfold indexT at h
    cases hg : W[i.toNat]? with
    | none => rw [hg] at h; cases h
    | some s =>
      rw [hg] at h
      dsimp only at h
      cases hr : indexT W r with
      | none => rw [hr] at h; cases h
      | some O2 =>
        rw [hr] at h
        injection h with h
        subst h
        rw [List.length_cons, List.length_cons, ih hr]
theorem streamT_u8 {S : List (Int × List Int)} (h : ∀ s ∈ S, U8 s.2) (i : Nat) : U8 (streamT S i) := by
  unfold streamT
  rw [List.getD_eq_getElem?_getD]
  cases hs : S[i]? with
  | none => exact fun x hx => by cases hx
  | some s => exact h s (List.mem_of_getElem? hs)
theorem takeT_len (c : ColT) (h : ∀ s ∈ c.st, U8 s.2) : (takeT c).1.length ≤ 4096 := by
  unfold takeT
  split
  · exact Nat.zero_le _
  · split
    · exact cutT_len _ _ _ (streamT_u8 h 1)
    · split
      · split
        · exact Nat.zero_le _
        · cases hi : indexT (cutT (streamT c.st 2) (streamT c.st 1) c.texts).1 (numsT (streamT c.st 0) c.many).1 with
          | none => exact Nat.zero_le _
          | some O =>
            show O.length ≤ 4096
            rw [indexT_len hi]
            exact (numsT_good _ _ (streamT_u8 h 0)).2
      · exact Nat.zero_le _
theorem StAt.col {w : World} {A : Option Addr} {n : Nat} {S : List (Int × List Int)} (h : StAt w A n S) {B : Nat} {a b d : Int} {x : Option Addr} {y z : Nat} {t : TypeId} {f : Nat × Nat} (hk : w.heap[B]? = some (.cells #[.int .i64 a, .int .i64 b, .int .i64 d, .slice x y z] t f))
    (hne : ∀ g o, 0 < n → A = some ⟨g, o, none⟩ → g ≠ B) (v0 v1 v2 v3 : Value) : StAt (colSet w B v0 v1 v2 v3) A n S :=
  ⟨h.1, fun h0 => by
    obtain ⟨g, o, e, hg, hc⟩ := h.2 h0
    have hgB := hne g o h0 e
    refine ⟨g, o, e, by rw [colSet_size]; exact hg, fun j hj => ?_⟩
    obtain ⟨k1, G, m, c, k2, k3⟩ := hc j hj
    exact ⟨(World.cell?_of_block (colSet_other v0 v1 v2 v3 hgB)).trans k1, G, m, c, (World.cell?_of_block (colSet_other v0 v1 v2 v3 hgB)).trans k2, k3.col hk v0 v1 v2 v3⟩⟩
set_option maxRecDepth 100000 in
set_option maxHeartbeats 8000000 in
theorem TextsTakes_walk (w : World) (many enc texts : Int) (A : Option Addr) (n k : Nat) (S : List (Int × List Int)) (hS : StAt w A n S) (hn : n ≤ maxLen) (hI : I64 (S.map Prod.fst)) (hU : ∀ s ∈ S, U8 s.2) :
    Calls Tryz.prog 4 #[.agg #[.int .i64 many, .int .i64 enc, .int .i64 texts, .slice A n k]] w fun e w' => e = .returned (.bool true) ∧ Below w.heap.size w w' := by
  have HS := Lib.hid hS; have HI := Lib.hid hI; have HU := Lib.hid hU
  obtain ⟨w1, hw1⟩ : ∃ w1, w1 = w.alloc (.cells #[.int .i64 many, .int .i64 enc, .int .i64 texts, .slice A n k] 27) := ⟨_, rfl⟩
  have hk1 : w1.heap[w.heap.size]? = some (.cells #[.int .i64 many, .int .i64 enc, .int .i64 texts, .slice A n k] 27 (0, 0)) := by rw [hw1]; exact newBlkT w _
  have HB1 : Hid (Below w.heap.size w w1) := Lib.hid (hw1 ▸ (Below.refl w.heap.size w).alloc (Nat.le_refl _) _)
  have hl1 : w.heap.size < w1.heap.size := by rw [hw1]; simp
  have HK1 := Lib.hid hk1
  clear hS hI hU hk1
  go_enter Tryz.func4, Tryz.ntmps4
  go_wp2_with fail
  rw [← hw1]
  clear hw1
  refine (shown15_any w1).mono ?_; rintro e w2 ⟨rfl, hb2⟩
  have HB2 := Lib.hid (on HB1.out hb2)
  have hk2 := (hb2.block _ hl1).trans HK1.out
  have HK2 := Lib.hid hk2
  have kk0 := cell_blkT hk2 0
  have kk1 := cell_blkT hk2 1
  have kk2 := cell_blkT hk2 2
  have kk3 := cell_blkT hk2 3
  have HS2 := Lib.hid (HS.out.below HB2.out)
  have HL2 : Hid (w.heap.size < w2.heap.size) := Lib.hid (Nat.lt_of_lt_of_le hl1 hb2.size)
  clear hb2 hk2 hl1
  go_wp2_with fail
  refine (less_any w2 many enc texts A n k S HS2.out hn HI.out HU.out).mono ?_; rintro e w3 ⟨A', n', k', S', rfl, hst, hnew, hn6, hi', hu', hb3⟩
  have HB3 := Lib.hid (on HB2.out hb3)
  have hk3 := (hb3.block _ HL2.out).trans HK2.out
  have HL3 : Hid (w.heap.size < w3.heap.size) := Lib.hid (Nat.lt_of_lt_of_le HL2.out hb3.size)
  obtain ⟨⟨c0, f0⟩, ⟨c1, f1⟩, ⟨c2, f2⟩, ⟨c3, f3⟩⟩ := colSet_facts hk3 (.int .i64 many) (.int .i64 enc) (.int .i64 texts)
  have hF := colSet_heap hk3 (.int .i64 many) (.int .i64 enc) (.int .i64 texts) (.slice A' n' k')
  obtain ⟨w4, hw4⟩ : ∃ w4, w4 = colSet w3 w.heap.size (.int .i64 many) (.int .i64 enc) (.int .i64 texts) (.slice A' n' k') := ⟨_, rfl⟩
  have HB4 : Hid (Below w.heap.size w w4) := Lib.hid (hw4 ▸ colSet_below HB3.out (Nat.le_refl _) _ _ _ _)
  have HS4 : Hid (StAt w4 A' n' S') := Lib.hid (hw4 ▸ hst.col hk3 (fun g o h0 e => by have h1 := hnew g o h0 e; have h2 := HL2.out; omega) _ _ _ _)
  have HI3 := Lib.hid hi'
  have HU3 : Hid (∀ s ∈ S', U8 s.2 ∧ s.2.length ≤ 100000) := Lib.hid (fun s h => ⟨(hu' s h).1, Nat.le_trans (hu' s h).2 (by omega)⟩)
  have HK4 : Hid (w4.heap[w.heap.size]? = some (.cells #[.int .i64 many, .int .i64 enc, .int .i64 texts, .slice A' n' k'] 27 (0, 0))) := Lib.hid (hw4 ▸ hF)
  have HL4 : Hid (w.heap.size < w4.heap.size) := Lib.hid (by have := HL3.out; rw [hw4, colSet_size]; exact this)
  unfold colSet at hw4
  clear hb3 hk3 kk0 kk1 kk2 kk3 hst hi' hu' hnew hF
  obtain ⟨T, er, hT⟩ : ∃ T er, takeT ⟨many, enc, texts, S'⟩ = (T, er) := ⟨_, _, rfl⟩
  have HT := Lib.hid hT
  have htl := takeT_len ⟨many, enc, texts, S'⟩ (fun s h => (HU3.out s h).1)
  rw [hT] at htl
  dsimp only at htl
  clear hT
  go_wp2_with fail
  rw [← hw4]
  clear hw4 c0 f0 c1 f1 c2 f2 c3 f3
  refine (TakeT_any w4 ⟨many, enc, texts, S'⟩ A' n' k' HS4.out (by omega) HI3.out HU3.out).mono ?_; rintro e w5 ⟨G5, n5, k5, rfl, hs5, hn5, hk5, hb5⟩
  rw [HT.out] at hs5 ⊢
  have hl5 := hs5.len
  have hk5b := (hb5.block _ HL4.out).trans HK4.out
  have kk0 := cell_blkT hk5b 0
  have kk1 := cell_blkT hk5b 1
  have kk2 := cell_blkT hk5b 2
  have kk3 := cell_blkT hk5b 3
  have HB5 := Lib.hid (on HB4.out hb5)
  have HS5 := Lib.hid (HS4.out.below hb5)
  have HR5 := Lib.hid hs5
  clear hb5 hk5b hs5
  go_wp2_with fail
  clear kk0 kk1 kk2 kk3
  refine (rTakeT_any w5 ⟨many, enc, texts, S'⟩ A' n' k' HS5.out (by omega) HU3.out).mono ?_; rintro e w6 ⟨G6, n6, k6, rfl, hs6, hn6', hk6, hb6⟩
  rw [HT.out] at hs6 ⊢
  have hl6 := hs6.len
  have HB6 := Lib.hid (on HB5.out hb6)
  have HR6 := Lib.hid (HR5.out.below hb6)
  have HQ6 := Lib.hid hs6
  clear hb6 hs6
  go_wp2_with fail
  refine (rSame15_any w6 G5 G6 n5 n6 k5 k6 _ _ HR6.out HQ6.out (by omega) (by omega)).mono ?_; rintro e w7 ⟨rfl, q7, hq7⟩
  rw [decide_eq_true rfl]
  have HB7 : Hid (Below w.heap.size w w7) := Lib.hid (hq7 ▸ bdN HB6.out q7)
  clear hq7
  go_wp2_with fail
  go_ret
  exact ⟨rfl, HB7.out⟩
end Go.Proofs.YtmejoococajikaaGreat

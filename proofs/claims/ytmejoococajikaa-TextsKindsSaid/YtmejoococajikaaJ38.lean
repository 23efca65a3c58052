/- Joined texts: Ints. Each has its own head line. No condition beyond those that its theorems state. -/
import Derived.Test.YtmejoococajikaaJ01
import Derived.Test.YtmejoococajikaaJ07
set_option linter.unusedVariables false

/- Rows of numbers of the call's own, all cells of which are numbers: bytes lie elsewhere. -/
namespace Go.Proofs.Ytmejoococajikaa
open Go.RowKit

/-- All cells of the row's block are numbers. -/
def Ints (w : World) (v : Value) : Prop := ∀ g, v.ownBlock = some g → ∃ cur e fz, w.heap[g]? = some (.cells cur e fz) ∧ ∀ u, u ∈ cur → ∃ x, u = .int .i64 x
theorem Ints.nil (w : World) (n c : Nat) : Ints w (.slice none n c) := fun g h => by cases h
theorem Ints.below {w w' : World} {v : Value} (h : Ints w v) (hb : Below w.heap.size w w') : Ints w' v := by
  intro g hg
  obtain ⟨cur, e, fz, h1, h2⟩ := h g hg
  exact ⟨cur, e, fz, (hb.block g (Array.getElem?_eq_some_iff.1 h1).1).trans h1, h2⟩
theorem Ints.drew {w : World} {v : Value} (h : Ints w v) : Ints w.drew v := h
theorem Ints.apart {w : World} {v : Value} (h : Ints w v) {A : Option Addr} {n : Nat} {l : List Int} (hr : Ri w .u8 A n l) (hn : 0 < n) {b o : Nat} (hA : A = some ⟨b, o, none⟩) : v.ownBlock ≠ some b := by
  intro hg
  obtain ⟨cur, e, fz, h1, h2⟩ := h b hg
  obtain ⟨b2, o2, hA2, _, hc⟩ := hr.all hn
  rw [hA] at hA2
  injection hA2 with hA2; injection hA2 with e1 e2
  subst e1 e2
  have h3 := hc 0 hn
  rw [cell_of_row w b _ cur e fz h1] at h3
  obtain ⟨x, hx⟩ := h2 _ (Array.mem_of_getElem? h3)
  cases hx
/-- Bytes stay when numbers are laid behind a row of the call's own. -/
theorem Ints.keep {w w' : World} {v : Value} (h : Ints w v) {A : Option Addr} {n : Nat} {l : List Int} (hr : Ri w .u8 A n l) (hg : w.grownBy w' v.ownBlock) : Ri w' .u8 A n l := by
  rcases Nat.eq_zero_or_pos n with h0 | h0
  · subst h0
    exact ⟨hr.1, fun h => absurd h (by omega)⟩
  · refine hr.grown hg (fun g b o h1 h2 => ?_)
    have := h.apart hr h0 h2
    intro h3
    exact this (by rw [h1, h3])
theorem Ints.alloc {w : World} {v : Value} (h : Ints w v) (o : Obj) : Ints (w.alloc o) v := h.below ((Below.refl _ _).alloc (Nat.le_refl _) _)
section
variable {P : Program} (w : World)
theorem run_append_ints (base : Nat) (t ty e : TypeId) (i : TypeInfo) (ht : P.underlying t = some (.slice e)) (hi : P.info? e = some i) (hz : i.zero = some (.int .i64 0))
    (hsize : i.size = 1) (hby : i.bytes = 8)
    (v : Value) (n : Nat) (l : List Int) (hown : w.ownsRow base e 1 v n (l.map (Value.int .i64))) (hI : Ints w v)
    (A : Option Addr) (m c : Nat) (l2 : List Int) (hr : Ri w .i64 A m l2)
    (hb : n + m ≤ 2000000000) (hbase : base ≤ w.heap.size) :
    ∃ G cap w', (Builtin.append_ #[t, t] ty #[v, .slice A m c]).run P w = .ok (.slice G (n + m) cap) w' ∧ w'.ownsRow base e 1 (.slice G (n + m) cap) (n + m) ((l ++ l2).map (Value.int .i64)) ∧ w.grownBy w' v.ownBlock ∧
      ((Value.slice G (n + m) cap).ownBlock = v.ownBlock ∨ (Value.slice G (n + m) cap).ownBlock = some w.heap.size) ∧ n + m ≤ cap ∧ Ints w' (.slice G (n + m) cap) := by
  obtain ⟨G, cap, w', hrun, h2, h3, h4, h5⟩ := run_append_any (P := P) w base t ty e i (.int .i64 0) 1 8 ht hi hz hsize hby rfl (by decide) v n _ hown A m c _ hr (Ri.oneCell _ _) (by unfold maxLen; omega) (by omega) hbase
  refine ⟨G, cap, w', hrun, by rw [List.map_append]; exact h2, h3, h4, h5, ?_⟩
  have hnum : ∀ q : List Int, ∀ u, u ∈ q.map (Value.int .i64) → ∃ x, u = .int .i64 x := by
    intro q u hu
    obtain ⟨x, _, rfl⟩ := List.mem_map.1 hu
    exact ⟨x, rfl⟩
  have hzero : ∀ k u, u ∈ Builtin.zeroCells (Value.int .i64 0).cells k → ∃ x, u = .int .i64 x := by
    intro k u hu
    simp [Builtin.zeroCells, Value.cells, Nat.mod_one] at hu
    exact ⟨0, hu.2.symm⟩
  rcases A with _ | ad
  · have hm : m = 0 := by
      rcases Nat.eq_zero_or_pos m with h0 | h0
      · exact h0
      · obtain ⟨b, o, h, _⟩ := hr.2 h0
        cases h
    subst hm
    have h6 := run_append_of_nil w base t ty e i 1 ht hi v n _ hown c
    rw [h6] at hrun
    injection hrun with e1 e2
    rw [← e1, ← e2]
    exact hI
  · have hl2 : (l2.map (Value.int .i64)).length = m * i.size := by rw [hsize]; simpa using hr.len
    have hcells : ∀ j u, (l2.map (Value.int .i64))[j]? = some u → w.cell? (ad.add j) = some u := by
      intro j u hu
      rcases Nat.eq_zero_or_pos m with h0 | h0
      · subst h0
        have hn : l2 = [] := List.eq_nil_of_length_eq_zero hr.len
        subst hn
        simp at hu
      · obtain ⟨b, o, h, _, hc⟩ := hr.2 h0
        injection h with h
        subst h
        rw [add_none]
        exact hc j u hu
    rcases hown.2 with ⟨rfl, rfl⟩ | ⟨g, cap0, cur, rfl, hbg, hg, hnc, hcm, hcs, htake⟩
    · by_cases hm : m = 0
      · subst hm
        have hn : l2 = [] := List.eq_nil_of_length_eq_zero hr.len
        subst hn
        have h6 : (Builtin.append_ #[t, t] ty #[.slice none 0 0, .slice (some ad) 0 c]).run P w = .ok (.slice none 0 0) w := by
          simp [Builtin.append_, run_underlying ht, sizeOf, typeInfo, hi, Builtin.lenOf, Builtin.firstCells, loadCells, loadCellsFrom]
        rw [h6] at hrun
        injection hrun with e1 e2
        rw [← e1]
        exact Ints.nil _ _ _
      · have h6 := run_append_nil (P := P) w t ty e i (.int .i64 0) ht hi hz ad m c _ hl2 hcells (by omega) (by omega) (by rw [hby]; omega)
        rw [h6] at hrun
        injection hrun with e1 e2
        rw [← e1, ← e2]
        intro g hg
        injection hg with hg
        dsimp only at hg
        subst hg
        refine ⟨_, _, _, heap_alloc_new w.drew _, fun u hu => ?_⟩
        rcases Array.mem_append.1 hu with hu | hu
        · exact hnum _ _ (by simpa using hu)
        · exact hzero _ _ hu
    · obtain ⟨cur2, e2, fz2, h6, hcur⟩ := hI g rfl
      rw [hg] at h6
      injection h6 with h6
      injection h6 with h6a h6b h6c
      subst h6a
      have hown1 := hown.1
      by_cases hroom : n + m ≤ cap0
      · have hfit : n * i.size + (l2.map (Value.int .i64)).length ≤ cur.size := by rw [hl2, hcs, hsize]; omega
        have h6 := run_append_room (P := P) w t ty e i ht hi g n cap0 cur hg ad m c _ hl2 hcells (Ri.oneCell _ _) hroom hfit
        rw [h6] at hrun
        injection hrun with e1 e2
        rw [← e1, ← e2]
        intro g2 hg2
        injection hg2 with hg2
        dsimp only at hg2
        subst hg2
        refine ⟨_, _, _, setRow_heap w g cur _ e _ hg, fun u hu => ?_⟩
        simp only [List.mem_toArray, List.mem_append] at hu
        rcases hu with (hu | hu) | hu
        · exact hcur u (by simpa using List.mem_of_mem_take hu)
        · exact hnum _ _ hu
        · exact hcur u (by simpa using List.mem_of_mem_drop hu)
      · have holds : ∀ j u, (l.map (Value.int .i64))[j]? = some u → w.cell? ((⟨g, 0, none⟩ : Addr).add j) = some u := hown.cells (g := g) rfl
        have h6 := run_append_grow (P := P) w t ty e i (.int .i64 0) ht hi hz ⟨g, 0, none⟩ n cap0 _ (by rw [hsize]; exact hown1) holds ad m c _ hl2 hcells (by omega) (by omega) (growslice_fits (by omega) (by rw [hby]; omega))
        rw [h6] at hrun
        injection hrun with e1 e2
        rw [← e1, ← e2]
        intro g2 hg2
        injection hg2 with hg2
        dsimp only at hg2
        subst hg2
        refine ⟨_, _, _, heap_alloc_new w.drew _, fun u hu => ?_⟩
        rcases Array.mem_append.1 hu with hu | hu
        · rcases Array.mem_append.1 hu with hu | hu
          · exact hnum _ _ (by simpa using hu)
          · exact hnum _ _ (by simpa using hu)
        · exact hzero _ _ hu
theorem wp_append_ints {o : Oper} {a : Act} {K : Act → World → Prop} {Q : Exit → Act → World → Prop} (s x : Operand) (t : TypeId)
    (ho : o.op = .call { callee := .builtin .append, args := #[s, x], argTypes := #[t, t] })
    (base : Nat) (e : TypeId) (i : TypeInfo) (ht : P.underlying t = some (.slice e)) (hi : P.info? e = some i) (hz : i.zero = some (.int .i64 0))
    (hsize : i.size = 1) (hby : i.bytes = 8)
    (v : Value) (n : Nat) (l : List Int) (hs : a.eval s = v) (hown : w.ownsRow base e 1 v n (l.map (Value.int .i64))) (hI : Ints w v)
    (A : Option Addr) (m c : Nat) (l2 : List Int) (hx : a.eval x = .slice A m c) (hr : Ri w .i64 A m l2)
    (hb : n + m ≤ 2000000000) (hbase : base ≤ w.heap.size)
    (h : ∀ G cap w', w'.ownsRow base e 1 (.slice G (n + m) cap) (n + m) ((l ++ l2).map (Value.int .i64)) → w.grownBy w' v.ownBlock → Ints w' (.slice G (n + m) cap) → K (a.put o.dst (.slice G (n + m) cap)) w') : o.wp P a w K Q := by
  obtain ⟨G, cap, w', hrun, h2, h3, _, _, h5⟩ := run_append_ints (P := P) w base t o.type e i ht hi hz hsize hby v n l hown hI A m c l2 hr hb hbase
  unfold Oper.wp execOp
  simp only [ho, resolve, invoke, builtin, Sem.run_bind, Sem.run_pure, Result.andThen_ok, List.map_toArray, List.map_cons, List.map_nil, hs, hx, hrun]
  exact h G cap w' h2 h3 h5
end
theorem step_ints {w : World} {ops : Array Oper} {o : Oper} {a : Act} {K : Act → World → Prop} {Q : Exit → Act → World → Prop} {E : Prop} (hgd : o.guard = none) (s x : Operand)
    (ho : o.op = .call { callee := .builtin .append, args := #[s, x], argTypes := #[32, 32] })
    (base : Nat) (v : Value) (n : Nat) (l : List Int) (hs : a.eval s = v) (hown : w.ownsRow base 3 1 v n (l.map (Value.int .i64))) (hI : Ints w v)
    (A : Option Addr) (m c : Nat) (l2 : List Int) (hx : a.eval x = .slice A m c) (hr : Ri w .i64 A m l2) (hb : n + m ≤ 2000000000) (hbase : base ≤ w.heap.size)
    (h : ∀ G cap w', w'.ownsRow base 3 1 (.slice G (n + m) cap) (n + m) ((l ++ l2).map (Value.int .i64)) → w.grownBy w' v.ownBlock → Ints w' (.slice G (n + m) cap) → K (a.put o.dst (.slice G (n + m) cap)) w') :
    if Region.wanted o (yielded ops a.tmps) = true then Oper.wp Try.prog o a w K Q else E := by
  have hw : Region.wanted o (yielded ops a.tmps) = true := by simp [Region.wanted, hgd]
  rw [if_pos hw]
  obtain ⟨i0, hi, hz0, hz1, hz2⟩ := info_parts info_int
  exact wp_append_ints w s x 32 ho base 3 i0 Try.underlying32 hi hz0 hz1 hz2 v n l hs hown hI A m c l2 hx hr hb hbase h
theorem wpList_ints (w : World) {ops : Array Oper} {rest : List Oper} {o : Oper} {a : Act} {Q : Exit → Act → World → Prop} (hgd : o.guard = none) (s x : Operand)
    (ho : o.op = .call { callee := .builtin .append, args := #[s, x], argTypes := #[32, 32] })
    (base : Nat) (v : Value) (n : Nat) (l : List Int) (hs : a.eval s = v) (hown : w.ownsRow base 3 1 v n (l.map (Value.int .i64))) (hI : Ints w v)
    (A : Option Addr) (m c : Nat) (l2 : List Int) (hx : a.eval x = .slice A m c) (hr : Ri w .i64 A m l2) (hb : n + m ≤ 2000000000) (hbase : base ≤ w.heap.size)
    (h : ∀ G cap w', w'.ownsRow base 3 1 (.slice G (n + m) cap) (n + m) ((l ++ l2).map (Value.int .i64)) → w.grownBy w' v.ownBlock → Ints w' (.slice G (n + m) cap) → wpList Try.prog ops Q rest (a.put o.dst (.slice G (n + m) cap)) w') : wpList Try.prog ops Q (o :: rest) a w := by
  obtain ⟨i0, hi, hz0, hz1, hz2⟩ := info_parts info_int
  exact wpList_plain hgd fun _ hK => wp_append_ints w s x 32 ho base 3 i0 Try.underlying32 hi hz0 hz1 hz2 v n l hs hown hI A m c l2 hx hr hb hbase fun G cap w' h2 h3 h5 => hK _ _ (h G cap w' h2 h3 h5)
/-- append onto a row of bytes of the call's own, in a region that draws its order. -/
theorem step_u8o {w : World} {ops : Array Oper} {o : Oper} {a : Act} {K : Act → World → Prop} {Q : Exit → Act → World → Prop} {E : Prop} (hgd : o.guard = none) (s x : Operand)
    (ho : o.op = .call { callee := .builtin .append, args := #[s, x], argTypes := #[49, 49] })
    (base : Nat) (v : Value) (n : Nat) (l : List Int) (hs : a.eval s = v) (hown : w.ownsRow base 5 1 v n (l.map (Value.int .u8)))
    (A : Option Addr) (m c : Nat) (l2 : List Int) (hx : a.eval x = .slice A m c) (hr : Ri w .u8 A m l2) (hb : n + m ≤ 2000000000) (hbase : base ≤ w.heap.size)
    (h : ∀ G cap w', w'.ownsRow base 5 1 (.slice G (n + m) cap) (n + m) ((l ++ l2).map (Value.int .u8)) → w.grownBy w' v.ownBlock → ((Value.slice G (n + m) cap).ownBlock = v.ownBlock ∨ (Value.slice G (n + m) cap).ownBlock = some w.heap.size) → K (a.put o.dst (.slice G (n + m) cap)) w') :
    if Region.wanted o (yielded ops a.tmps) = true then Oper.wp Try.prog o a w K Q else E := by
  have hw : Region.wanted o (yielded ops a.tmps) = true := by simp [Region.wanted, hgd]
  rw [if_pos hw]
  obtain ⟨i0, hi, hz0, hz1, hz2⟩ := info_parts info_u8
  refine wp_append_any w s x 49 ho base 5 i0 (.int .u8 0) 1 1 Try.underlying49 hi hz0 hz1 hz2 rfl (by decide) v n _ hs hown A m c _ hx hr (Ri.oneCell _ _) (by unfold maxLen; omega) (by omega) hbase ?_
  intro G cap w' h1 h2 h3 _
  rw [← List.map_append] at h1
  exact h G cap w' h1 h2 h3
end Go.Proofs.Ytmejoococajikaa

/- Joined texts: Cut. Each has its own head line. No condition beyond those that its theorems state. -/
import Derived.ArgAppend
import Derived.Test.YtbmooemlekckbaaDoorJ26
set_option linter.unusedVariables false

/- A slice of the call's own that was cut at its head, and is appended to again. -/
namespace Go.Proofs.YtbmooemlekckbaaDoor
open Go.RowKit

/-- v has n elements of one cell each, xs; it is nil, or it lies in a block of the call's own, from base on, with its whole capacity. -/
def OwnCut (w : World) (base : Nat) (e : TypeId) (v : Value) (n : Nat) (xs : List Value) : Prop :=
  xs.length = n ∧ ((v = .slice none 0 0 ∧ n = 0) ∨ ∃ g off cap cur, v = .slice (some ⟨g, off, none⟩) n cap ∧ base ≤ g ∧ Blk w g e cur ∧ off + cap ≤ cur.size ∧ n ≤ cap ∧ cap ≤ maxLen ∧ ∀ j u, xs[j]? = some u → cur[off + j]? = some u)
section
variable {w w' : World} {base n : Nat} {e : TypeId} {v : Value} {xs : List Value}
theorem OwnCut.nil (w : World) (base : Nat) (e : TypeId) : OwnCut w base e (.slice none 0 0) 0 [] := ⟨rfl, .inl ⟨rfl, rfl⟩⟩
theorem OwnCut.of_own (h : w.ownsRow base e 1 v n xs) : OwnCut w base e v n xs := by
  refine ⟨by simpa using h.1, ?_⟩
  rcases h.2 with h2 | ⟨g, cap, cur, h1, h2, h3, h4, h5, h6, h7⟩
  · exact .inl h2
  · refine .inr ⟨g, 0, cap, cur, h1, h2, h3, by omega, h4, h5, fun j u hu => ?_⟩
    rw [Nat.mul_one] at h7
    rw [← h7] at hu
    have hj : j < n := by
      rcases Nat.lt_or_ge j n with h8 | h8
      · exact h8
      · rw [List.getElem?_eq_none (by rw [List.length_take]; omega)] at hu; cases hu
    rw [List.getElem?_take_of_lt hj] at hu
    rw [Nat.zero_add]; simpa using hu
theorem OwnCut.kept {row : Option Nat} (h : OwnCut w base e v n xs) (hg : w.grownBy w' row) (hne : v.ownBlock = none ∨ v.ownBlock ≠ row) : OwnCut w' base e v n xs := by
  refine ⟨h.1, ?_⟩
  rcases h.2 with h2 | ⟨g, off, cap, cur, rfl, h2, h3, h4⟩
  · exact .inl h2
  · refine .inr ⟨g, off, cap, cur, rfl, h2, ?_, h4⟩
    exact h3.grown hg (by simpa [Value.ownBlock] using hne)
theorem OwnCut.alloc (h : OwnCut w base e v n xs) (o : Obj) : OwnCut (w.alloc o) base e v n xs :=
  h.kept (World.grownBy_alloc w o none) (by cases hv : v.ownBlock <;> simp)
theorem OwnCut.drewN (h : OwnCut w base e v n xs) (m : Nat) : OwnCut (w.drewN m) base e v n xs := h
theorem OwnCut.drew (h : OwnCut w base e v n xs) : OwnCut w.drew base e v n xs := h
theorem OwnCut.below (h : OwnCut w base e v n xs) (hb : Below w.heap.size w w') : OwnCut w' base e v n xs :=
  h.kept (row := none) ⟨hb.os, hb.tape, hb.output, hb.size, fun k hk _ => hb.block k hk⟩ (by cases hv : v.ownBlock <;> simp)
theorem OwnCut.form (h : OwnCut w base e v n xs) : ∃ G c, v = .slice G n c ∧ n ≤ c ∧ c ≤ 9223372036854775807 := by
  rcases h.2 with ⟨rfl, rfl⟩ | ⟨g, off, cap, cur, rfl, _, _, _, h1, h2, _⟩
  · exact ⟨none, 0, rfl, Nat.le_refl _, by omega⟩
  · unfold maxLen at h2; exact ⟨_, cap, rfl, h1, h2⟩
theorem OwnCut.lt (h : OwnCut w base e v n xs) (g : Nat) (hg : v.ownBlock = some g) : base ≤ g ∧ g < w.heap.size ∧ ∃ cur, Blk w g e cur := by
  rcases h.2 with ⟨rfl, _⟩ | ⟨g', off, cap, cur, rfl, h1, h2, _⟩
  · simp [Value.ownBlock] at hg
  · simp [Value.ownBlock] at hg
    subst hg
    exact ⟨h1, h2.lt, cur, h2⟩
theorem OwnCut.rd {G : Option Addr} {c : Nat} (h : OwnCut w base e (.slice G n c) n xs) : Rd w 1 G n xs := by
  refine ⟨by rw [h.1, Nat.mul_one], fun hn => ?_⟩
  rcases h.2 with ⟨_, h0⟩ | ⟨g, off, cap, cur, h1, _, h3, _, _, _, h5⟩
  · omega
  · injection h1 with h1
    subst h1
    exact ⟨g, off, rfl, h3.lt, fun j u hu => by rw [h3.cell]; exact h5 j u hu⟩
/-- What is left behind a cut. -/
theorem OwnCut.cut {G : Option Addr} {c k : Nat} (h : OwnCut w base e (.slice G n c) n xs) (hk : k ≤ n) (hk0 : 0 < k) : ∃ g off, G = some ⟨g, off, none⟩ ∧ OwnCut w base e (.slice (if c = k then some ⟨g, off, none⟩ else some ⟨g, off + k, none⟩) (n - k) (c - k)) (n - k) (xs.drop k) := by
  rcases h.2 with ⟨_, h0⟩ | ⟨g, off, cap, cur, h1, h2, h3, h4, h5, h6, h7⟩
  · omega
  · injection h1 with h1 _ h1'
    subst h1 h1'
    refine ⟨g, off, rfl, by rw [List.length_drop, h.1], .inr ?_⟩
    by_cases hck : c = k
    · rw [if_pos hck]
      refine ⟨g, off, c - k, cur, rfl, h2, h3, by omega, by omega, by omega, fun j u hu => ?_⟩
      rw [List.getElem?_eq_none (by rw [List.length_drop, h.1]; omega)] at hu; cases hu
    · rw [if_neg hck]
      refine ⟨g, off + k, c - k, cur, rfl, h2, h3, by omega, by omega, by omega, fun j u hu => ?_⟩
      rw [List.getElem?_drop] at hu
      rw [Nat.add_assoc]; exact h7 _ u hu
end
theorem setCells_grown (b : Nat) : ∀ (vs : List Value) (o : Nat) (w : World), w.grownBy (w.setCells b o vs) (some b)
  | [], _, w => World.grownBy.refl w _
  | v :: r, o, w => by
    have h := setCells_grown b r (o + 1) (w.setCell ⟨b, o, none⟩ v)
    have hs : (w.setCell ⟨b, o, none⟩ v).heap.size = w.heap.size := by simp [World.setCell]
    refine ⟨h.os, h.tape, h.output, by have := h.size; rw [hs] at this; exact this, fun k hk hne => ?_⟩
    exact (h.block k (by rw [hs]; exact hk) hne).trans (Below.heap_setCell w _ v k (fun e => hne (by rw [e])))
theorem setCells_blk (b : Nat) (e : TypeId) : ∀ (vs : List Value) (o : Nat) (w : World) (cur : Array Value), Blk w b e cur → o + vs.length ≤ cur.size →
    ∃ cur', Blk (w.setCells b o vs) b e cur' ∧ cur'.size = cur.size ∧ (∀ j, j < o ∨ o + vs.length ≤ j → cur'[j]? = cur[j]?) ∧ (∀ j u, vs[j]? = some u → cur'[o + j]? = some u)
  | [], o, w, cur, h, _ => ⟨cur, h, rfl, fun _ _ => rfl, fun j u hu => by simp at hu⟩
  | v :: r, o, w, cur, h, hs => by
    rw [List.length_cons] at hs
    obtain ⟨cur', h1, h2, h3, h4⟩ := setCells_blk b e r (o + 1) (w.setCell ⟨b, o, none⟩ v) _ (h.set_ o v) (by simp; omega)
    refine ⟨cur', h1, by rw [h2]; simp, fun j hj => ?_, fun j u hu => ?_⟩
    · rw [List.length_cons] at hj
      rw [h3 j (by omega), Array.getElem?_setIfInBounds]
      rw [if_neg (by omega)]
    · cases j with
      | zero =>
        simp at hu
        subst hu
        rw [Nat.add_zero, h3 o (by omega), Array.getElem?_setIfInBounds, if_pos rfl, if_pos (by omega)]
      | succ j =>
        have := h4 j u (by simpa using hu)
        rw [show o + (j + 1) = o + 1 + j from by omega]; exact this

section
variable {P : Program} (w : World)
theorem run_append_cut (base : Nat) (t ty e : TypeId) (i : TypeInfo) (z : Value) (bytes : Nat) (ht : P.underlying t = some (.slice e)) (hi : P.info? e = some i) (hz : i.zero = some z)
    (hsize : i.size = 1) (hby : i.bytes = bytes) (hzs : z.cells.size = 1)
    (v : Value) (n : Nat) (xs : List Value) (hown : OwnCut w base e v n xs)
    (A : Option Addr) (m c : Nat) (news : List Value) (hr : Rd w 1 A m news) (h1 : ∀ u ∈ news, u.oneCell' = true)
    (h63 : n + m ≤ maxLen) (hbytes : (n + m) * bytes ≤ 140737488355328) (hbase : base ≤ w.heap.size) :
    ∃ G cap w', (Builtin.append_ #[t, t] ty #[v, .slice A m c]).run P w = .ok (.slice G (n + m) cap) w' ∧ OwnCut w' base e (.slice G (n + m) cap) (n + m) (xs ++ news) ∧ w.grownBy w' v.ownBlock ∧
      ((Value.slice G (n + m) cap).ownBlock = v.ownBlock ∨ ∀ g, (Value.slice G (n + m) cap).ownBlock = some g → w.heap.size ≤ g) := by
  rcases A with _ | ad
  · have hm : m = 0 := by
      rcases Nat.eq_zero_or_pos m with h0 | h0
      · exact h0
      · obtain ⟨b, o, h, _⟩ := hr.2 h0
        cases h
    subst hm
    have hn : news = [] := List.eq_nil_of_length_eq_zero (by simpa using hr.1)
    subst hn
    obtain ⟨G, cap, rfl, hle, _⟩ := hown.form
    refine ⟨G, cap, w, ?_, by simpa using hown, World.grownBy.refl w _, .inl rfl⟩
    rcases hown.2 with ⟨h2, h3⟩ | ⟨g, off, cap', cur, h2, _⟩
    · injection h2 with h2 h4 h5
      subst h2 h3 h5
      simp [Builtin.append_, run_underlying ht, sizeOf, typeInfo, hi, Builtin.lenOf, Builtin.firstCells]
    · injection h2 with h2 _ h5
      subst h2
      simp [Builtin.append_, run_underlying ht, sizeOf, typeInfo, hi, Builtin.lenOf, Builtin.firstCells, hle, storeCells]
  · have hl : news.length = m * 1 := hr.1
    have hcells : ∀ j u, news[j]? = some u → w.cell? (ad.add j) = some u := by
      intro j u hu
      rcases Nat.eq_zero_or_pos m with h0 | h0
      · subst h0
        have hn : news = [] := List.eq_nil_of_length_eq_zero (by simpa using hr.1)
        subst hn
        simp at hu
      · obtain ⟨b, o, h, _, hc⟩ := hr.2 h0
        injection h with h
        subst h
        rw [add_none]
        exact hc j u hu
    rcases hown.2 with ⟨rfl, rfl⟩ | ⟨g, off, cap, cur, rfl, hb, hblk, hoc, hnc, hcm, hx⟩
    · obtain rfl : xs = [] := List.eq_nil_of_length_eq_zero hown.1
      obtain ⟨v', w', hrun, r1, r2, _⟩ := run_append_own_at (P := P) w base t ty e i z 1 bytes ht hi hz hsize hby hzs (by decide) (.slice none 0 0) 0 [] (World.ownsRow_nil w _ e 1) ad m c news hl hcells h1 (by simpa using h63) (by simpa using hbytes) hbase
      have h5 : v'.ownBlock = none ∨ ∀ g, v'.ownBlock = some g → w.heap.size ≤ g := by
        obtain ⟨v2, w2, hrun2, q1, q2, q3, q4⟩ := run_append_own_at (P := P) w base t ty e i z 1 bytes ht hi hz hsize hby hzs (by decide) (.slice none 0 0) 0 [] (World.ownsRow_nil w _ e 1) ad m c news hl hcells h1 (by simpa using h63) (by simpa using hbytes) hbase
        rw [hrun] at hrun2
        injection hrun2 with e1 e2
        subst e1
        rcases q4 with q4 | q4
        · exact .inl (by rw [q4]; rfl)
        · exact .inr (fun g hg => by rw [q4] at hg; injection hg with hg; omega)
      obtain ⟨G, cap, rfl⟩ := own_form r1
      exact ⟨G, cap, w', by simpa using hrun, by simpa using OwnCut.of_own r1, r2, by simpa [Value.ownBlock] using h5⟩
    · by_cases hroom : n + m ≤ cap
      · have hm1 : off + n + news.length ≤ cur.size := by rw [hl]; omega
        have hrun := run_append_room_cells (P := P) w t ty e i ht hi g off n cap ad m c news (by rw [hsize]; exact hl) hcells h1 hroom
          (fun j hj => by
            rw [hsize, Nat.mul_one, hblk.cell]
            rw [hl, Nat.mul_one] at hj
            rw [Array.getElem?_eq_getElem (show off + n + j < cur.size by omega)]; rfl)
          (fun j _ => hblk.frozen _)
        rw [hsize, Nat.mul_one] at hrun
        obtain ⟨cur', k1, k2, k3, k4⟩ := setCells_blk g e news (off + n) w cur hblk hm1
        refine ⟨_, _, _, hrun, ⟨by rw [List.length_append, hown.1, hl]; omega, .inr ⟨g, off, cap, cur', rfl, hb, k1, by omega, hroom, hcm, fun j u hu => ?_⟩⟩, setCells_grown g news (off + n) w, .inl rfl⟩
        rcases Nat.lt_or_ge j xs.length with h6 | h6
        · rw [List.getElem?_append_left h6] at hu
          rw [k3 (off + j) (by have := hown.1; omega)]
          exact hx j u hu
        · rw [List.getElem?_append_right h6] at hu
          have := k4 _ u hu
          rw [show off + j = off + n + (j - xs.length) from by have := hown.1; omega]
          exact this
      · obtain ⟨v', w', hrun, r1, r2⟩ := run_append_arg_grows (P := P) w t ty e i z 1 bytes ht hi hz hsize hby hzs (by decide) ⟨g, off, none⟩ n cap xs (by rw [hown.1, Nat.mul_one]) (fun j u hu => by rw [add_none, hblk.cell]; exact hx j u hu) ad m c news hl hcells (by omega) h63 hbytes
        obtain ⟨G, cap', rfl⟩ := own_form r1
        have r3 := OwnCut.of_own r1
        refine ⟨G, cap', w', hrun, ⟨r3.1, r3.2.imp id fun ⟨g', off', c', cur', q1, q2, q3⟩ => ⟨g', off', c', cur', q1, by omega, q3⟩⟩, ⟨r2.os, r2.tape, r2.output, r2.size, fun k hk _ => r2.block k hk (by simp)⟩, .inr fun g' hg' => (r1.lt g' hg').1⟩

theorem wp_append_cut {o : Oper} {a : Act} {K : Act → World → Prop} {Q : Exit → Act → World → Prop} (s x : Operand) (t : TypeId)
    (ho : o.op = .call { callee := .builtin .append, args := #[s, x], argTypes := #[t, t] })
    (base : Nat) (e : TypeId) (i : TypeInfo) (z : Value) (bytes : Nat) (ht : P.underlying t = some (.slice e)) (hi : P.info? e = some i) (hz : i.zero = some z)
    (hsize : i.size = 1) (hby : i.bytes = bytes) (hzs : z.cells.size = 1)
    (v : Value) (n : Nat) (xs : List Value) (hs : a.eval s = v) (hown : OwnCut w base e v n xs)
    (A : Option Addr) (m c : Nat) (news : List Value) (hx : a.eval x = .slice A m c) (hr : Rd w 1 A m news) (h1 : ∀ u ∈ news, u.oneCell' = true)
    (h63 : n + m ≤ maxLen) (hbytes : (n + m) * bytes ≤ 140737488355328) (hbase : base ≤ w.heap.size)
    (h : ∀ G cap w', OwnCut w' base e (.slice G (n + m) cap) (n + m) (xs ++ news) → w.grownBy w' v.ownBlock → ((Value.slice G (n + m) cap).ownBlock = v.ownBlock ∨ ∀ g, (Value.slice G (n + m) cap).ownBlock = some g → w.heap.size ≤ g) → K (a.put o.dst (.slice G (n + m) cap)) w') : o.wp P a w K Q := by
  obtain ⟨G, cap, w', hrun, h2, h3, h4⟩ := run_append_cut (P := P) w base t o.type e i z bytes ht hi hz hsize hby hzs v n xs hown A m c news hr h1 h63 hbytes hbase
  unfold Oper.wp execOp
  simp only [ho, resolve, invoke, builtin, Sem.run_bind, Sem.run_pure, Result.andThen_ok, List.map_toArray, List.map_cons, List.map_nil, hs, hx, hrun]
  exact h G cap w' h2 h3 h4
end

/-- append onto bytes of the call's own that were cut. -/
theorem step_cut8 {w : World} {ops : Array Oper} {o : Oper} {a : Act} {K : Act → World → Prop} {Q : Exit → Act → World → Prop} {E : Prop} (hgd : o.guard = none) (s x : Operand)
    (ho : o.op = .call { callee := .builtin .append, args := #[s, x], argTypes := #[27, 27] })
    (base : Nat) (v : Value) (n : Nat) (l : List Int) (hs : a.eval s = v) (hown : OwnCut w base 5 v n (l.map (Value.int .u8)))
    (A : Option Addr) (m c : Nat) (l2 : List Int) (hx : a.eval x = .slice A m c) (hr : Ri w .u8 A m l2) (hb : n + m ≤ 2000000000) (hbase : base ≤ w.heap.size)
    (h : ∀ G cap w', OwnCut w' base 5 (.slice G (n + m) cap) (n + m) ((l ++ l2).map (Value.int .u8)) → w.grownBy w' v.ownBlock → ((Value.slice G (n + m) cap).ownBlock = v.ownBlock ∨ ∀ g, (Value.slice G (n + m) cap).ownBlock = some g → w.heap.size ≤ g) → K (a.put o.dst (.slice G (n + m) cap)) w') :
    if Region.wanted o (yielded ops a.tmps) = true then Oper.wp Tryd.prog o a w K Q else E := by
  have hw : Region.wanted o (yielded ops a.tmps) = true := by simp [Region.wanted, hgd]
  rw [if_pos hw]
  obtain ⟨i0, hi, hz0, hz1, hz2⟩ := info_parts info_u8
  refine wp_append_cut w s x 27 ho base 5 i0 (.int .u8 0) 1 Tryd.underlying27 hi hz0 hz1 hz2 rfl v n _ hs hown A m c _ hx hr (Ri.oneCell _ _) (by unfold maxLen; omega) (by omega) hbase ?_
  intro G cap w' h1 h2 h3
  rw [← List.map_append] at h1
  exact h G cap w' h1 h2 h3
/-- append onto a row of bytes of the call's own, in a region that draws its order. -/
theorem step_u8 {w : World} {ops : Array Oper} {o : Oper} {a : Act} {K : Act → World → Prop} {Q : Exit → Act → World → Prop} {E : Prop} (hgd : o.guard = none) (s x : Operand)
    (ho : o.op = .call { callee := .builtin .append, args := #[s, x], argTypes := #[27, 27] })
    (base : Nat) (v : Value) (n : Nat) (l : List Int) (hs : a.eval s = v) (hown : w.ownsRow base 5 1 v n (l.map (Value.int .u8)))
    (A : Option Addr) (m c : Nat) (l2 : List Int) (hx : a.eval x = .slice A m c) (hr : Ri w .u8 A m l2) (hb : n + m ≤ 2000000000) (hbase : base ≤ w.heap.size)
    (h : ∀ G cap w', w'.ownsRow base 5 1 (.slice G (n + m) cap) (n + m) ((l ++ l2).map (Value.int .u8)) → w.grownBy w' v.ownBlock → ((Value.slice G (n + m) cap).ownBlock = v.ownBlock ∨ (Value.slice G (n + m) cap).ownBlock = some w.heap.size) → K (a.put o.dst (.slice G (n + m) cap)) w') :
    if Region.wanted o (yielded ops a.tmps) = true then Oper.wp Tryd.prog o a w K Q else E := by
  have hw : Region.wanted o (yielded ops a.tmps) = true := by simp [Region.wanted, hgd]
  rw [if_pos hw]
  obtain ⟨i0, hi, hz0, hz1, hz2⟩ := info_parts info_u8
  refine wp_append_any w s x 27 ho base 5 i0 (.int .u8 0) 1 1 Tryd.underlying27 hi hz0 hz1 hz2 rfl (by decide) v n _ hs hown A m c _ hx hr (Ri.oneCell _ _) (by unfold maxLen; omega) (by omega) hbase ?_
  intro G cap w' h1 h2 h3 _
  rw [← List.map_append] at h1
  exact h G cap w' h1 h2 h3
end Go.Proofs.YtbmooemlekckbaaDoor

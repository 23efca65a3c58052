/- Joined texts: Cut, Flush. Each has its own head line. No condition beyond those that its theorems state. -/
import Derived.ArgAppend
import Derived.Deep.RegionLaw
import Derived.Test.YtbmooemlekckbaaGreatDoorJ08
set_option linter.unusedVariables false

/- A slice of the call's own that was cut at its head, and is appended to again. -/
namespace Go.Proofs.YtbmooemlekckbaaGreatDoor
open Go.RowKit

/-- v has n elements of one cell each, xs; it is nil, or it lies in a block of the call's own, from base on, with its whole capacity. -/
def OwnCut (w : World) (base : Nat) (e : TypeId) (v : Value) (n : Nat) (xs : List Value) : Prop :=
  xs.length = n ∧ ((v = .slice none 0 0 ∧ n = 0) ∨ ∃ g off cap cur, v = .slice (some ⟨g, off, none⟩) n cap ∧ base ≤ g ∧ Blk w g e cur ∧ off + cap ≤ cur.size ∧ n ≤ cap ∧ cap ≤ maxLen ∧ ∀ j u, xs[j]? = some u → cur[off + j]? = some u)
section
variable {w w' : World} {base n : Nat} {e : TypeId} {v : Value} {xs : List Value}
theorem OwnCut.nil (w : World) (base : Nat) (e : TypeId) : OwnCut w base e (.slice none 0 0) 0 [] := ⟨rfl, .inl ⟨rfl, rfl⟩⟩
theorem OwnCut.of_own (h : w.ownsRow base e 1 v n xs) : OwnCut w base e v n xs := by
  refine ⟨by simpa using h.1, ?_⟩
  rcases h.2 with h2 | ⟨g, cap, cur, h1, h2, h3, h4, h5, h6, h7⟩
  · exact .inl h2
  · refine .inr ⟨g, 0, cap, cur, h1, h2, h3, by omega, h4, h5, fun j u hu => ?_⟩
    rw [Nat.mul_one] at h7
    rw [← h7] at hu
    have hj : j < n := by
      rcases Nat.lt_or_ge j n with h8 | h8
      · exact h8
      · rw [List.getElem?_eq_none (by rw [List.length_take]; omega)] at hu; cases hu
    rw [List.getElem?_take_of_lt hj] at hu
    rw [Nat.zero_add]; simpa using hu
theorem OwnCut.kept {row : Option Nat} (h : OwnCut w base e v n xs) (hg : w.grownBy w' row) (hne : v.ownBlock = none ∨ v.ownBlock ≠ row) : OwnCut w' base e v n xs := by
  refine ⟨h.1, ?_⟩
  rcases h.2 with h2 | ⟨g, off, cap, cur, rfl, h2, h3, h4⟩
  · exact .inl h2
  · refine .inr ⟨g, off, cap, cur, rfl, h2, ?_, h4⟩
    exact h3.grown hg (by simpa [Value.ownBlock] using hne)
theorem OwnCut.alloc (h : OwnCut w base e v n xs) (o : Obj) : OwnCut (w.alloc o) base e v n xs :=
  h.kept (World.grownBy_alloc w o none) (by cases hv : v.ownBlock <;> simp)
theorem OwnCut.drewN (h : OwnCut w base e v n xs) (m : Nat) : OwnCut (w.drewN m) base e v n xs := h
theorem OwnCut.drew (h : OwnCut w base e v n xs) : OwnCut w.drew base e v n xs := h
theorem OwnCut.below (h : OwnCut w base e v n xs) (hb : Below w.heap.size w w') : OwnCut w' base e v n xs :=
  h.kept (row := none) ⟨hb.os, hb.tape, hb.output, hb.size, fun k hk _ => hb.block k hk⟩ (by cases hv : v.ownBlock <;> simp)
theorem OwnCut.form (h : OwnCut w base e v n xs) : ∃ G c, v = .slice G n c ∧ n ≤ c ∧ c ≤ 9223372036854775807 := by
  rcases h.2 with ⟨rfl, rfl⟩ | ⟨g, off, cap, cur, rfl, _, _, _, h1, h2, _⟩
  · exact ⟨none, 0, rfl, Nat.le_refl _, by omega⟩
  · unfold maxLen at h2; exact ⟨_, cap, rfl, h1, h2⟩
theorem OwnCut.lt (h : OwnCut w base e v n xs) (g : Nat) (hg : v.ownBlock = some g) : base ≤ g ∧ g < w.heap.size ∧ ∃ cur, Blk w g e cur := by
  rcases h.2 with ⟨rfl, _⟩ | ⟨g', off, cap, cur, rfl, h1, h2, _⟩
  · simp [Value.ownBlock] at hg
  · simp [Value.ownBlock] at hg
    subst hg
    exact ⟨h1, h2.lt, cur, h2⟩
theorem OwnCut.rd {G : Option Addr} {c : Nat} (h : OwnCut w base e (.slice G n c) n xs) : Rd w 1 G n xs := by
  refine ⟨by rw [h.1, Nat.mul_one], fun hn => ?_⟩
  rcases h.2 with ⟨_, h0⟩ | ⟨g, off, cap, cur, h1, _, h3, _, _, _, h5⟩
  · omega
  · injection h1 with h1
    subst h1
    exact ⟨g, off, rfl, h3.lt, fun j u hu => by rw [h3.cell]; exact h5 j u hu⟩
/-- What is left behind a cut. -/
theorem OwnCut.cut {G : Option Addr} {c k : Nat} (h : OwnCut w base e (.slice G n c) n xs) (hk : k ≤ n) (hk0 : 0 < k) : ∃ g off, G = some ⟨g, off, none⟩ ∧ OwnCut w base e (.slice (if c = k then some ⟨g, off, none⟩ else some ⟨g, off + k, none⟩) (n - k) (c - k)) (n - k) (xs.drop k) := by
  rcases h.2 with ⟨_, h0⟩ | ⟨g, off, cap, cur, h1, h2, h3, h4, h5, h6, h7⟩
  · omega
  · injection h1 with h1 _ h1'
    subst h1 h1'
    refine ⟨g, off, rfl, by rw [List.length_drop, h.1], .inr ?_⟩
    by_cases hck : c = k
    · rw [if_pos hck]
      refine ⟨g, off, c - k, cur, rfl, h2, h3, by omega, by omega, by omega, fun j u hu => ?_⟩
      rw [List.getElem?_eq_none (by rw [List.length_drop, h.1]; omega)] at hu; cases hu
    · rw [if_neg hck]
      refine ⟨g, off + k, c - k, cur, rfl, h2, h3, by omega, by omega, by omega, fun j u hu => ?_⟩
      rw [List.getElem?_drop] at hu
      rw [Nat.add_assoc]; exact h7 _ u hu
end
theorem setCells_grown (b : Nat) : ∀ (vs : List Value) (o : Nat) (w : World), w.grownBy (w.setCells b o vs) (some b)
  | [], _, w => World.grownBy.refl w _
  | v :: r, o, w => by
    have h := setCells_grown b r (o + 1) (w.setCell ⟨b, o, none⟩ v)
    have hs : (w.setCell ⟨b, o, none⟩ v).heap.size = w.heap.size := by simp [World.setCell]
    refine ⟨h.os, h.tape, h.output, by have := h.size; rw [hs] at this; exact this, fun k hk hne => ?_⟩
    exact (h.block k (by rw [hs]; exact hk) hne).trans (Below.heap_setCell w _ v k (fun e => hne (by rw [e])))
theorem setCells_blk (b : Nat) (e : TypeId) : ∀ (vs : List Value) (o : Nat) (w : World) (cur : Array Value), Blk w b e cur → o + vs.length ≤ cur.size →
    ∃ cur', Blk (w.setCells b o vs) b e cur' ∧ cur'.size = cur.size ∧ (∀ j, j < o ∨ o + vs.length ≤ j → cur'[j]? = cur[j]?) ∧ (∀ j u, vs[j]? = some u → cur'[o + j]? = some u)
  | [], o, w, cur, h, _ => ⟨cur, h, rfl, fun _ _ => rfl, fun j u hu => by simp at hu⟩
  | v :: r, o, w, cur, h, hs => by
    rw [List.length_cons] at hs
    obtain ⟨cur', h1, h2, h3, h4⟩ := setCells_blk b e r (o + 1) (w.setCell ⟨b, o, none⟩ v) _ (h.set_ o v) (by simp; omega)
    refine ⟨cur', h1, by rw [h2]; simp, fun j hj => ?_, fun j u hu => ?_⟩
    · rw [List.length_cons] at hj
      rw [h3 j (by omega), Array.getElem?_setIfInBounds]
      rw [if_neg (by omega)]
    · cases j with
      | zero =>
        simp at hu
        subst hu
        rw [Nat.add_zero, h3 o (by omega), Array.getElem?_setIfInBounds, if_pos rfl, if_pos (by omega)]
      | succ j =>
        have := h4 j u (by simpa using hu)
        rw [show o + (j + 1) = o + 1 + j from by omega]; exact this

section
variable {P : Program} (w : World)
theorem run_append_cut (base : Nat) (t ty e : TypeId) (i : TypeInfo) (z : Value) (bytes : Nat) (ht : P.underlying t = some (.slice e)) (hi : P.info? e = some i) (hz : i.zero = some z)
    (hsize : i.size = 1) (hby : i.bytes = bytes) (hzs : z.cells.size = 1)
    (v : Value) (n : Nat) (xs : List Value) (hown : OwnCut w base e v n xs)
    (A : Option Addr) (m c : Nat) (news : List Value) (hr : Rd w 1 A m news) (h1 : ∀ u ∈ news, u.oneCell' = true)
    (h63 : n + m ≤ maxLen) (hbytes : (n + m) * bytes ≤ 140737488355328) (hbase : base ≤ w.heap.size) :
    ∃ G cap w', (Builtin.append_ #[t, t] ty #[v, .slice A m c]).run P w = .ok (.slice G (n + m) cap) w' ∧ OwnCut w' base e (.slice G (n + m) cap) (n + m) (xs ++ news) ∧ w.grownBy w' v.ownBlock ∧
      ((Value.slice G (n + m) cap).ownBlock = v.ownBlock ∨ ∀ g, (Value.slice G (n + m) cap).ownBlock = some g → w.heap.size ≤ g) := by
  rcases A with _ | ad
  · have hm : m = 0 := by
      rcases Nat.eq_zero_or_pos m with h0 | h0
      · exact h0
      · obtain ⟨b, o, h, _⟩ := hr.2 h0
        cases h
    subst hm
    have hn : news = [] := List.eq_nil_of_length_eq_zero (by simpa using hr.1)
    subst hn
    obtain ⟨G, cap, rfl, hle, _⟩ := hown.form
    refine ⟨G, cap, w, ?_, by simpa using hown, World.grownBy.refl w _, .inl rfl⟩
    rcases hown.2 with ⟨h2, h3⟩ | ⟨g, off, cap', cur, h2, _⟩
    · injection h2 with h2 h4 h5
      subst h2 h3 h5
      simp [Builtin.append_, run_underlying ht, sizeOf, typeInfo, hi, Builtin.lenOf, Builtin.firstCells]
    · injection h2 with h2 _ h5
      subst h2
      simp [Builtin.append_, run_underlying ht, sizeOf, typeInfo, hi, Builtin.lenOf, Builtin.firstCells, hle, storeCells]
  · have hl : news.length = m * 1 := hr.1
    have hcells : ∀ j u, news[j]? = some u → w.cell? (ad.add j) = some u := by
      intro j u hu
      rcases Nat.eq_zero_or_pos m with h0 | h0
      · subst h0
        have hn : news = [] := List.eq_nil_of_length_eq_zero (by simpa using hr.1)
        subst hn
        simp at hu
      · obtain ⟨b, o, h, _, hc⟩ := hr.2 h0
        injection h with h
        subst h
        rw [add_none]
        exact hc j u hu
    rcases hown.2 with ⟨rfl, rfl⟩ | ⟨g, off, cap, cur, rfl, hb, hblk, hoc, hnc, hcm, hx⟩
    · obtain rfl : xs = [] := List.eq_nil_of_length_eq_zero hown.1
      obtain ⟨v', w', hrun, r1, r2, _⟩ := run_append_own_at (P := P) w base t ty e i z 1 bytes ht hi hz hsize hby hzs (by decide) (.slice none 0 0) 0 [] (World.ownsRow_nil w _ e 1) ad m c news hl hcells h1 (by simpa using h63) (by simpa using hbytes) hbase
      have h5 : v'.ownBlock = none ∨ ∀ g, v'.ownBlock = some g → w.heap.size ≤ g := by
        obtain ⟨v2, w2, hrun2, q1, q2, q3, q4⟩ := run_append_own_at (P := P) w base t ty e i z 1 bytes ht hi hz hsize hby hzs (by decide) (.slice none 0 0) 0 [] (World.ownsRow_nil w _ e 1) ad m c news hl hcells h1 (by simpa using h63) (by simpa using hbytes) hbase
        rw [hrun] at hrun2
        injection hrun2 with e1 e2
        subst e1
        rcases q4 with q4 | q4
        · exact .inl (by rw [q4]; rfl)
        · exact .inr (fun g hg => by rw [q4] at hg; injection hg with hg; omega)
      obtain ⟨G, cap, rfl⟩ := own_form r1
      exact ⟨G, cap, w', by simpa using hrun, by simpa using OwnCut.of_own r1, r2, by simpa [Value.ownBlock] using h5⟩
    · by_cases hroom : n + m ≤ cap
      · have hm1 : off + n + news.length ≤ cur.size := by rw [hl]; omega
        have hrun := run_append_room_cells (P := P) w t ty e i ht hi g off n cap ad m c news (by rw [hsize]; exact hl) hcells h1 hroom
          (fun j hj => by
            rw [hsize, Nat.mul_one, hblk.cell]
            rw [hl, Nat.mul_one] at hj
            rw [Array.getElem?_eq_getElem (show off + n + j < cur.size by omega)]; rfl)
          (fun j _ => hblk.frozen _)
        rw [hsize, Nat.mul_one] at hrun
        obtain ⟨cur', k1, k2, k3, k4⟩ := setCells_blk g e news (off + n) w cur hblk hm1
        refine ⟨_, _, _, hrun, ⟨by rw [List.length_append, hown.1, hl]; omega, .inr ⟨g, off, cap, cur', rfl, hb, k1, by omega, hroom, hcm, fun j u hu => ?_⟩⟩, setCells_grown g news (off + n) w, .inl rfl⟩
        rcases Nat.lt_or_ge j xs.length with h6 | h6
        · rw [List.getElem?_append_left h6] at hu
          rw [k3 (off + j) (by have := hown.1; omega)]
          exact hx j u hu
        · rw [List.getElem?_append_right h6] at hu
          have := k4 _ u hu
          rw [show off + j = off + n + (j - xs.length) from by have := hown.1; omega]
          exact this
      · obtain ⟨v', w', hrun, r1, r2⟩ := run_append_arg_grows (P := P) w t ty e i z 1 bytes ht hi hz hsize hby hzs (by decide) ⟨g, off, none⟩ n cap xs (by rw [hown.1, Nat.mul_one]) (fun j u hu => by rw [add_none, hblk.cell]; exact hx j u hu) ad m c news hl hcells (by omega) h63 hbytes
        obtain ⟨G, cap', rfl⟩ := own_form r1
        have r3 := OwnCut.of_own r1
        refine ⟨G, cap', w', hrun, ⟨r3.1, r3.2.imp id fun ⟨g', off', c', cur', q1, q2, q3⟩ => ⟨g', off', c', cur', q1, by omega, q3⟩⟩, ⟨r2.os, r2.tape, r2.output, r2.size, fun k hk _ => r2.block k hk (by simp)⟩, .inr fun g' hg' => (r1.lt g' hg').1⟩

theorem wp_append_cut {o : Oper} {a : Act} {K : Act → World → Prop} {Q : Exit → Act → World → Prop} (s x : Operand) (t : TypeId)
    (ho : o.op = .call { callee := .builtin .append, args := #[s, x], argTypes := #[t, t] })
    (base : Nat) (e : TypeId) (i : TypeInfo) (z : Value) (bytes : Nat) (ht : P.underlying t = some (.slice e)) (hi : P.info? e = some i) (hz : i.zero = some z)
    (hsize : i.size = 1) (hby : i.bytes = bytes) (hzs : z.cells.size = 1)
    (v : Value) (n : Nat) (xs : List Value) (hs : a.eval s = v) (hown : OwnCut w base e v n xs)
    (A : Option Addr) (m c : Nat) (news : List Value) (hx : a.eval x = .slice A m c) (hr : Rd w 1 A m news) (h1 : ∀ u ∈ news, u.oneCell' = true)
    (h63 : n + m ≤ maxLen) (hbytes : (n + m) * bytes ≤ 140737488355328) (hbase : base ≤ w.heap.size)
    (h : ∀ G cap w', OwnCut w' base e (.slice G (n + m) cap) (n + m) (xs ++ news) → w.grownBy w' v.ownBlock → ((Value.slice G (n + m) cap).ownBlock = v.ownBlock ∨ ∀ g, (Value.slice G (n + m) cap).ownBlock = some g → w.heap.size ≤ g) → K (a.put o.dst (.slice G (n + m) cap)) w') : o.wp P a w K Q := by
  obtain ⟨G, cap, w', hrun, h2, h3, h4⟩ := run_append_cut (P := P) w base t o.type e i z bytes ht hi hz hsize hby hzs v n xs hown A m c news hr h1 h63 hbytes hbase
  unfold Oper.wp execOp
  simp only [ho, resolve, invoke, builtin, Sem.run_bind, Sem.run_pure, Result.andThen_ok, List.map_toArray, List.map_cons, List.map_nil, hs, hx, hrun]
  exact h G cap w' h2 h3 h4
end

/-- append onto bytes of the call's own that were cut. -/
theorem step_cut8 {w : World} {ops : Array Oper} {o : Oper} {a : Act} {K : Act → World → Prop} {Q : Exit → Act → World → Prop} {E : Prop} (hgd : o.guard = none) (s x : Operand)
    (ho : o.op = .call { callee := .builtin .append, args := #[s, x], argTypes := #[25, 25] })
    (base : Nat) (v : Value) (n : Nat) (l : List Int) (hs : a.eval s = v) (hown : OwnCut w base 5 v n (l.map (Value.int .u8)))
    (A : Option Addr) (m c : Nat) (l2 : List Int) (hx : a.eval x = .slice A m c) (hr : Ri w .u8 A m l2) (hb : n + m ≤ 2000000000) (hbase : base ≤ w.heap.size)
    (h : ∀ G cap w', OwnCut w' base 5 (.slice G (n + m) cap) (n + m) ((l ++ l2).map (Value.int .u8)) → w.grownBy w' v.ownBlock → ((Value.slice G (n + m) cap).ownBlock = v.ownBlock ∨ ∀ g, (Value.slice G (n + m) cap).ownBlock = some g → w.heap.size ≤ g) → K (a.put o.dst (.slice G (n + m) cap)) w') :
    if Region.wanted o (yielded ops a.tmps) = true then Oper.wp Tryz.prog o a w K Q else E := by
  have hw : Region.wanted o (yielded ops a.tmps) = true := by simp [Region.wanted, hgd]
  rw [if_pos hw]
  obtain ⟨i0, hi, hz0, hz1, hz2⟩ := info_parts info_u8
  refine wp_append_cut w s x 25 ho base 5 i0 (.int .u8 0) 1 Tryz.underlying25 hi hz0 hz1 hz2 rfl v n _ hs hown A m c _ hx hr (Ri.oneCell _ _) (by unfold maxLen; omega) (by omega) hbase ?_
  intro G cap w' h1 h2 h3
  rw [← List.map_append] at h1
  exact h G cap w' h1 h2 h3
/-- append onto a row of bytes of the call's own, in a region that draws its order. -/
theorem step_u8 {w : World} {ops : Array Oper} {o : Oper} {a : Act} {K : Act → World → Prop} {Q : Exit → Act → World → Prop} {E : Prop} (hgd : o.guard = none) (s x : Operand)
    (ho : o.op = .call { callee := .builtin .append, args := #[s, x], argTypes := #[25, 25] })
    (base : Nat) (v : Value) (n : Nat) (l : List Int) (hs : a.eval s = v) (hown : w.ownsRow base 5 1 v n (l.map (Value.int .u8)))
    (A : Option Addr) (m c : Nat) (l2 : List Int) (hx : a.eval x = .slice A m c) (hr : Ri w .u8 A m l2) (hb : n + m ≤ 2000000000) (hbase : base ≤ w.heap.size)
    (h : ∀ G cap w', w'.ownsRow base 5 1 (.slice G (n + m) cap) (n + m) ((l ++ l2).map (Value.int .u8)) → w.grownBy w' v.ownBlock → ((Value.slice G (n + m) cap).ownBlock = v.ownBlock ∨ (Value.slice G (n + m) cap).ownBlock = some w.heap.size) → K (a.put o.dst (.slice G (n + m) cap)) w') :
    if Region.wanted o (yielded ops a.tmps) = true then Oper.wp Tryz.prog o a w K Q else E := by
  have hw : Region.wanted o (yielded ops a.tmps) = true := by simp [Region.wanted, hgd]
  rw [if_pos hw]
  obtain ⟨i0, hi, hz0, hz1, hz2⟩ := info_parts info_u8
  refine wp_append_any w s x 25 ho base 5 i0 (.int .u8 0) 1 1 Tryz.underlying25 hi hz0 hz1 hz2 rfl (by decide) v n _ hs hown A m c _ hx hr (Ri.oneCell _ _) (by unfold maxLen; omega) (by omega) hbase ?_
  intro G cap w' h1 h2 h3 _
  rw [← List.map_append] at h1
  exact h G cap w' h1 h2 h3
end Go.Proofs.YtbmooemlekckbaaGreatDoor

/- byterle.Put's closure that lays lists down. -/
namespace Go.Proofs.YtbmooemlekckbaaGreatDoor
open Go.RowKit

/-- Whatever holds no bytes, and is neither of two blocks, is as it was. -/
def Keeps8 (bl bo : Nat) (w w' : World) : Prop :=
  w.heap.size ≤ w'.heap.size ∧ ∀ k o, w.heap[k]? = some o → (∀ cs f, o ≠ .cells cs 5 f) → k ≠ bl → k ≠ bo → w'.heap[k]? = some o
theorem Keeps8.refl (bl bo : Nat) (w : World) : Keeps8 bl bo w w := ⟨Nat.le_refl _, fun _ _ h _ _ _ => h⟩
theorem Keeps8.trans {bl bo : Nat} {a b c : World} (h : Keeps8 bl bo a b) (k : Keeps8 bl bo b c) : Keeps8 bl bo a c :=
  ⟨Nat.le_trans h.1 k.1, fun i o hi ho h1 h2 => k.2 i o (h.2 i o hi ho h1 h2) ho h1 h2⟩
theorem Keeps8.alloc (bl bo : Nat) (w : World) (o : Obj) : Keeps8 bl bo w (w.alloc o) :=
  ⟨by simp, fun k o' hk _ _ _ => (Below.heap_alloc w o k (Array.getElem?_eq_some_iff.1 hk).1).trans hk⟩
theorem Keeps8.drew (bl bo : Nat) (w : World) : Keeps8 bl bo w w.drew := ⟨Nat.le_refl _, fun _ _ h _ _ _ => h⟩
theorem Keeps8.drewN (bl bo : Nat) (w : World) (n : Nat) : Keeps8 bl bo w (w.drewN n) := ⟨Nat.le_refl _, fun _ _ h _ _ _ => h⟩
theorem Keeps8.set_ (bl bo : Nat) (w : World) (p : Addr) (v : Value) (hp : p.block = bl ∨ p.block = bo) : Keeps8 bl bo w (w.setCell p v) :=
  ⟨by simp [World.setCell], fun k o hk _ h1 h2 => (Below.heap_setCell w p v k (by rcases hp with e | e <;> rw [e] <;> assumption)).trans hk⟩
theorem Keeps8.grown {bl bo : Nat} {w w' : World} {v : Value} (hg : w.grownBy w' v.ownBlock) (hv : ∀ g, v.ownBlock = some g → ∃ cur, Blk w g 5 cur) : Keeps8 bl bo w w' :=
  ⟨hg.size, fun k o hk ho _ _ => by
    refine (hg.block k (Array.getElem?_eq_some_iff.1 hk).1 ?_).trans hk
    intro e
    obtain ⟨cur, h⟩ := hv k e.symm
    unfold Blk at h
    rw [hk] at h
    injection h with h
    exact ho _ _ h⟩
theorem Keeps8.below {bl bo : Nat} {w w' : World} (hb : Below w.heap.size w w') : Keeps8 bl bo w w' := ⟨hb.size, fun k _ hk _ _ _ => (hb.block k (Array.getElem?_eq_some_iff.1 hk).1).trans hk⟩
theorem own_blk {w : World} {B n : Nat} {e : TypeId} {v : Value} {xs : List Value} (h : w.ownsRow B e 1 v n xs) : ∀ g, v.ownBlock = some g → ∃ cur, Blk w g e cur := by
  intro g hg
  rcases h.2 with ⟨rfl, _⟩ | ⟨g', cap, cur, rfl, _, h2, _⟩
  · simp [Value.ownBlock] at hg
  · simp [Value.ownBlock] at hg
    subst hg
    exact ⟨cur, h2⟩
theorem cut_blk {w : World} {B n : Nat} {e : TypeId} {v : Value} {xs : List Value} (h : OwnCut w B e v n xs) : ∀ g, v.ownBlock = some g → ∃ cur, Blk w g e cur := fun g hg => (h.lt g hg).2.2
theorem blk_ne {w : World} {g g' : Nat} {t t' : TypeId} {c c' : Array Value} (h : Blk w g t c) (h' : Blk w g' t' c') (hne : t ≠ t') : g ≠ g' := by
  rintro rfl
  unfold Blk at h h'
  rw [h] at h'
  injection h' with h'
  injection h' with _ h'
  exact hne h'

theorem apart_cut {w w' : World} {B n : Nat} {e : TypeId} {u v : Value} {xs : List Value} (h : Apart u v) (ho : OwnCut w B e v n xs) (hg : w.grownBy w' u.ownBlock) : OwnCut w' B e v n xs :=
  ho.kept hg (by
    cases hv : v.ownBlock with
    | none => exact .inl rfl
    | some g => exact .inr (fun e2 => h g e2.symm hv))
theorem own_far {w : World} {B n g : Nat} {e t : TypeId} {v : Value} {xs : List Value} {c : Array Value} (h : w.ownsRow B e 1 v n xs) (hb : Blk w g t c) (hne : e ≠ t) : v.ownBlock ≠ some g := by
  intro e2
  obtain ⟨cur, h2⟩ := own_blk h _ e2
  exact blk_ne h2 hb hne rfl
/-- The two boxes, of the list that waits and of what is laid down. -/
def PutB (w0 w : World) (B bl bo : Nat) (p o : List Int) : Prop :=
  ∃ lv ov, Blk w bl 25 #[lv] ∧ Blk w bo 25 #[ov] ∧ OwnCut w B 5 lv p.length (p.map (Value.int .u8)) ∧ w.ownsRow B 5 1 ov o.length (o.map (Value.int .u8)) ∧ Apart ov lv ∧ Below B w0 w ∧ Keeps8 bl bo w0 w
def lenAt (w : World) (b : Nat) : Nat := match w.cell? ⟨b, 0, none⟩ with | some (.slice _ n _) => n | _ => 0
theorem lenAt_of {w : World} {b : Nat} {t : TypeId} {A : Option Addr} {n c : Nat} (h : Blk w b t #[.slice A n c]) : lenAt w b = n := by
  unfold lenAt
  rw [h.cell]; simp
def FlushOut (w : World) (B bl bo : Nat) (o : List Int) (e : Ending) (w' : World) : Prop := e = .returned (.tuple #[]) ∧ PutB w w' B bl bo [] o
theorem u8_neg (m : Nat) (h1 : 1 ≤ m) (h2 : m ≤ 128) : IntKind.u8.wrap (-(m : Int)) = 256 - (m : Int) := by rw [IntKind.wrap_u8]; omega

theorem Apart.grown_cut {w : World} {B n : Nat} {e : TypeId} {u u' v : Value} {xs : List Value} (h : Apart u v) (ho : OwnCut w B e v n xs) {N : Nat} (hN : w.heap.size ≤ N) (hu : u'.ownBlock = u.ownBlock ∨ u'.ownBlock = some N) : Apart u' v := by
  intro g h1 h2
  rcases hu with hu | hu
  · exact h g (hu.symm.trans h1) h2
  · have := (ho.lt g h2).2.1
    rw [hu] at h1
    injection h1 with h1
    omega
theorem Keeps8.grown1 {bl bo : Nat} {w x w' : World} {v : Value} (h : Keeps8 bl bo w x) (hg : x.grownBy w' v.ownBlock) (hv : ∀ g, v.ownBlock = some g → ∃ cur, Blk x g 5 cur) : Keeps8 bl bo w w' := h.trans (Keeps8.grown hg hv)
theorem setCell_grown (w : World) (b o : Nat) (v : Value) : w.grownBy (w.setCell ⟨b, o, none⟩ v) (some b) := setCells_grown b [v] o w
theorem flush_end {w w2 : World} {B bl bo : Nat} {p' o' : List Int} {m lc g2 lg lo : Nat} {G2 : Option Addr} {ov : Value} (hne : bl ≠ bo) (hB1 : B ≤ bl) (hB2 : B ≤ bo) (hm1 : 1 ≤ m) (hm3 : m ≤ p'.length)
    (hl : Blk w2 bl 25 #[.slice (some ⟨lg, lo, none⟩) p'.length lc]) (hob : Blk w2 bo 25 #[ov]) (hlo : OwnCut w2 B 5 (.slice (some ⟨lg, lo, none⟩) p'.length lc) p'.length (p'.map (Value.int .u8)))
    (ho : w2.ownsRow B 5 1 (.slice G2 (o'.length + 1 + m) g2) (o'.length + 1 + m) ((o' ++ [256 - (m : Int)] ++ p'.take m).map (Value.int .u8))) (hap : Apart (.slice G2 (o'.length + 1 + m) g2) (.slice (some ⟨lg, lo, none⟩) p'.length lc))
    (hb : Below B w w2) (hk : Keeps8 bl bo w w2) :
    PutB w ((w2.setCell ⟨bo, 0, none⟩ (.slice G2 (o'.length + 1 + m) g2)).setCell ⟨bl, 0, none⟩ (.slice (if lc = m then some ⟨lg, lo, none⟩ else some ⟨lg, lo + m, none⟩) (p'.length - m) (lc - m))) B bl bo (p'.drop m) (o' ++ [256 - (m : Int)] ++ p'.take m) := by
  have hlen : (o' ++ [256 - (m : Int)] ++ p'.take m).length = o'.length + 1 + m := by rw [List.length_append, List.length_append, List.length_singleton, List.length_take]; omega
  have k1 : (Value.slice G2 (o'.length + 1 + m) g2).ownBlock ≠ some bo := own_far ho hob (by decide)
  have k2 : (Value.slice G2 (o'.length + 1 + m) g2).ownBlock ≠ some bl := own_far ho hl (by decide)
  have k3 : ∀ g c, Blk w2 g 25 c → (Value.slice (some ⟨lg, lo, none⟩) p'.length lc).ownBlock ≠ some g := by
    intro g c hg e2
    obtain ⟨_, _, cur, h2⟩ := hlo.lt _ e2
    exact blk_ne h2 hg (by decide) rfl
  obtain ⟨lg', lo', hG, hcut⟩ := ((hlo.kept (setCell_grown w2 bo 0 (.slice G2 (o'.length + 1 + m) g2)) (.inr (k3 bo _ hob))).kept (setCell_grown _ bl 0 (.slice (if lc = m then some ⟨lg, lo, none⟩ else some ⟨lg, lo + m, none⟩) (p'.length - m) (lc - m))) (.inr (k3 bl _ hl))).cut hm3 hm1
  injection hG with hG
  injection hG with hG1 hG2
  subst hG1 hG2
  rw [← List.map_drop] at hcut
  refine ⟨.slice (if lc = m then some ⟨lg, lo, none⟩ else some ⟨lg, lo + m, none⟩) (p'.length - m) (lc - m), .slice G2 (o'.length + 1 + m) g2, ?_, ?_, ?_, ?_, ?_, ?_, ?_⟩
  · exact (hl.far (p := ⟨bo, 0, none⟩) hne _).set_ 0 _
  · exact (hob.set_ 0 (.slice G2 (o'.length + 1 + m) g2)).far (p := ⟨bl, 0, none⟩) (Ne.symm hne) _
  · rw [List.length_drop]; exact hcut
  · rw [hlen]
    exact (ho.kept (setCell_grown w2 bo 0 _) (.inr k1)).kept (setCell_grown _ bl 0 _) (.inr k2)
  · intro g h1 h2
    refine hap g h1 ?_
    by_cases hck : lc = m
    · rw [if_pos hck] at h2; exact h2
    · rw [if_neg hck] at h2; exact h2
  · exact (hb.setCell hB2 _).setCell hB1 _
  · exact (hk.trans (Keeps8.set_ bl bo w2 ⟨bo, 0, none⟩ _ (.inr rfl))).trans (Keeps8.set_ bl bo _ ⟨bl, 0, none⟩ _ (.inl rfl))

theorem flush_rel {w w2 : World} {B bl bo : Nat} {p' o' res : List Int} {m lc g2 lg lo : Nat} {G2 : Option Addr} {ov : Value} (hne : bl ≠ bo) (hB1 : B ≤ bl) (hB2 : B ≤ bo) (hm1 : 1 ≤ m) (hm3 : m ≤ p'.length) (hm : m = min p'.length 128)
    (hl : Blk w2 bl 25 #[.slice (some ⟨lg, lo, none⟩) p'.length lc]) (hob : Blk w2 bo 25 #[ov]) (hlo : OwnCut w2 B 5 (.slice (some ⟨lg, lo, none⟩) p'.length lc) p'.length (p'.map (Value.int .u8)))
    (ho : w2.ownsRow B 5 1 (.slice G2 (o'.length + 1 + m) g2) (o'.length + 1 + m) ((o' ++ [256 - (m : Int)] ++ p'.take m).map (Value.int .u8))) (hap : Apart (.slice G2 (o'.length + 1 + m) g2) (.slice (some ⟨lg, lo, none⟩) p'.length lc))
    (hb : Below B w w2) (hk : Keeps8 bl bo w w2) (hch : o' ++ chunks p' = res) (hpl : p'.length ≤ 5000) (hol : o'.length + 2 * p'.length ≤ 20000) :
    ∃ p2 o2 : List Int, Hid (PutB w ((w2.setCell ⟨bo, 0, none⟩ (.slice G2 (o'.length + 1 + m) g2)).setCell ⟨bl, 0, none⟩ (.slice (if lc = m then some ⟨lg, lo, none⟩ else some ⟨lg, lo + m, none⟩) (p'.length - m) (lc - m))) B bl bo p2 o2) ∧ Hid (o2 ++ chunks p2 = res) ∧ p2.length ≤ 5000 ∧ o2.length + 2 * p2.length ≤ 20000 := by
  rw [chunks_eq p' (by omega), ← hm] at hch
  have ht : p'.take 128 = p'.take m ∧ p'.drop 128 = p'.drop m := by
    rcases Nat.le_total p'.length 128 with h | h
    · rw [show m = p'.length from by omega]
      exact ⟨by rw [List.take_of_length_le h, List.take_of_length_le (Nat.le_refl _)], by rw [List.drop_of_length_le h, List.drop_of_length_le (Nat.le_refl _)]⟩
    · rw [show m = 128 from by omega]; exact ⟨rfl, rfl⟩
  rw [ht.1, ht.2] at hch
  refine ⟨p'.drop m, o' ++ [256 - (m : Int)] ++ p'.take m, flush_end hne hB1 hB2 hm1 hm3 hl hob hlo ho hap hb hk, Lib.hid ?_, ?_, ?_⟩
  · rw [← hch]; simp
  · rw [List.length_drop]; omega
  · rw [List.length_drop, List.length_append, List.length_append, List.length_singleton, List.length_take]; omega

set_option maxRecDepth 100000 in
set_option maxHeartbeats 2000000 in
theorem flush_any (w : World) (B bl bo : Nat) (p o : List Int) (h : PutB w w B bl bo p o) (hB : B ≤ bl ∧ B ≤ bo) (hne : bl ≠ bo) (hp : p.length ≤ 5000) (ho : o.length ≤ 10000) (res : List Int) (hres : o ++ chunks p = res) :
    Calls Tryz.prog 47 #[.pointer (some ⟨bl, 0, none⟩), .pointer (some ⟨bo, 0, none⟩)] w (FlushOut w B bl bo res) := by
  have H := Lib.hid h; have HRES := Lib.hid hres
  obtain ⟨hB1, hB2⟩ := hB
  have hne' := hne.symm
  clear h hres
  go_enter Tryz.func47, Tryz.ntmps47
  go_wp2_with fail
  go_loopw [2] (fun _ wr => ∃ p' o' : List Int, Hid (PutB w wr B bl bo p' o') ∧ Hid (o' ++ chunks p' = res) ∧ p'.length ≤ 5000 ∧ o'.length + 2 * p'.length ≤ 20000) (fun _ wr => lenAt wr bl)
  case atStart => exact ⟨p, o, H, HRES, hp, by omega⟩
  case round =>
    obtain ⟨p', o', hpb, hch, hpl, hol⟩ := hrel
    obtain ⟨lv, ov, hl, hob, hlo, hoo, hap, hbe, hk8⟩ := hpb.out
    obtain ⟨LA, lc, rfl, hlc1, hlc2⟩ := hlo.form
    have c1 : wr.cell? ⟨bl, 0, none⟩ = some (.slice LA p'.length lc) := hl.cell 0
    have c2 : wr.cell? ⟨bo, 0, none⟩ = some ov := hob.cell 0
    have f1 := hl.frozen 0
    have f2 := hob.frozen 0
    have HL := Lib.hid hl; have HOB := Lib.hid hob; have HLO := Lib.hid hlo; have HOO := Lib.hid hoo; have HAP := Lib.hid hap; have HBE := Lib.hid hbe; have HK8 := Lib.hid hk8
    clear hl hob hlo hoo hap hbe hk8
    rcases Nat.eq_zero_or_pos p'.length with h0 | h0
    · obtain rfl : p' = [] := List.eq_nil_of_length_eq_zero h0
      have hch' := hch.out
      rw [chunks_nil, List.append_nil] at hch'
      subst hch'
      go_wp2_with fail
      go_end0
      exact ⟨rfl, hpb.out⟩
    · obtain ⟨m, hm⟩ : ∃ m, m = min p'.length 128 := ⟨_, rfl⟩
      have hm1 : 1 ≤ m ∧ m ≤ 128 ∧ m ≤ p'.length := by omega
      obtain ⟨hm1, hm2, hm3⟩ := hm1
      have hmi : (if (128 : Int) < p'.length then (128 : Int) else (p'.length : Int)) = m := by split <;> omega
      have HM := Lib.hid hm; clear hm
      have hneg := u8_neg m hm1 hm2
      have hneg0 : IntKind.i64.wrap (-(m : Int)) = -(m : Int) := IntWalk.i64_in _ (by omega)
      have HN1 := Lib.hid hneg; have HN0 := Lib.hid hneg0; clear hneg hneg0
      have ab1 : ov.ownBlock ≠ some bl := fun e => by obtain ⟨cur, h⟩ := own_blk HOO.out _ e; exact blk_ne h HL.out (by decide) rfl
      have ab2 : ov.ownBlock ≠ some bo := fun e => by obtain ⟨cur, h⟩ := own_blk HOO.out _ e; exact blk_ne h HOB.out (by decide) rfl
      obtain ⟨lg, lo, hLA, _, hcl⟩ := HLO.out.rd.2 h0
      subst hLA
      have hcl0 := Lib.hid hcl; clear hcl
      have hm4 : (0 : Int) ≤ (m : Int) := by omega
      have hm5 : (m : Int) ≤ (lc : Int) := by omega
      have lb1 := HL.out.lt
      have lb2 := HOB.out.lt
      have hBw : B ≤ wr.heap.size := by omega
      go_wp2_with fail
      go_region_law (first
          | (refine step_u8 rfl (.tmp 9) (.tmp 13) rfl B ov o'.length o' (by kernel_rfl) (by first | exact (HOO.out.alloc _).drew | exact HOO.out.drew.alloc _ | exact HOO.out.alloc _) _ 1 1 [_] (by kernel_rfl) (by first | exact Rd.one _ _ _ | exact (Rd.one _ _ _).drew) (by omega) (by simp; omega) ?_; intro G1 g1 w1 hown1 hgrow hat1; have HL1 := Lib.hid (Blk.grown (by first | exact (HL.out.alloc _).drew | exact HL.out.drew.alloc _ | exact HL.out.alloc _) hgrow (Ne.symm ab1)); have HOB1 := Lib.hid (Blk.grown (by first | exact (HOB.out.alloc _).drew | exact HOB.out.drew.alloc _ | exact HOB.out.alloc _) hgrow (Ne.symm ab2)); have HLO1 := Lib.hid (apart_cut HAP.out (by first | exact (HLO.out.alloc _).drew | exact HLO.out.drew.alloc _ | exact HLO.out.alloc _) hgrow); have ab3 := own_far hown1 HL1.out (by decide); have ab4 := own_far hown1 HOB1.out (by decide); have hz1 := hgrow.size; have HAP1 := Lib.hid (Apart.grown_cut HAP.out HLO.out (by simp) hat1); have HBE1 := Lib.hid (below_of_grown (by first | exact (HBE.out.alloc hBw _).drew | exact HBE.out.drew.alloc hBw _ | exact HBE.out.alloc hBw _) hgrow (by simp; omega) (fun g hg => (HOO.out.lt g hg).1)); have HK1 := Lib.hid (HK8.out.trans (Keeps8.grown1 (by first | exact (Keeps8.alloc _ _ _ _).trans (Keeps8.drew _ _ _) | exact (Keeps8.drew _ _ _).trans (Keeps8.alloc _ _ _ _) | exact Keeps8.alloc _ _ _ _) hgrow (by first | exact own_blk (HOO.out.alloc _).drew | exact own_blk (HOO.out.drew.alloc _) | exact own_blk (HOO.out.alloc _)))); have c3 : w1.cell? ⟨bl, 0, none⟩ = some (.slice (some ⟨lg, lo, none⟩) p'.length lc) := HL1.out.cell 0)
          | (refine step_u8 rfl (.tmp 14) (.tmp 17) rfl B _ (o'.length + 1) _ (by kernel_rfl) hown1 (some ⟨lg, lo, none⟩) m lc (p'.take m) (by kernel_rfl) (Ri.first (OwnCut.rd HLO1.out) hm3) (by omega) (by simp at hz1; omega) ?_; intro G2 g2 w2 hown2 hgrow2 hat2; have HL2 := Lib.hid (HL1.out.grown hgrow2 (Ne.symm ab3)); have HOB2 := Lib.hid (HOB1.out.grown hgrow2 (Ne.symm ab4)); have f4 := HOB2.out.frozen 0; have f5 := HL2.out.frozen 0; have HLO2 := Lib.hid (apart_cut HAP1.out HLO1.out hgrow2); have HAP2 := Lib.hid (Apart.grown_cut HAP1.out HLO1.out (Nat.le_refl _) hat2); have HBE2 := Lib.hid (below_of_grown HBE1.out hgrow2 (by simp at hz1; omega) (fun g hg => (hown1.lt g hg).1)); have HK2 := Lib.hid (HK1.out.trans (Keeps8.grown hgrow2 (own_blk hown1))); have c4 : w2.cell? ⟨bo, 0, none⟩ = some ov := HOB2.out.cell 0; have c5 : w2.cell? ⟨bl, 0, none⟩ = some (.slice (some ⟨lg, lo, none⟩) p'.length lc) := HL2.out.cell 0))
      all_goals
        rw [HN0.out, HN1.out] at hown2
        have HOWN2 := Lib.hid hown2
        clear hown1 hown2 hgrow hgrow2 hat1 hat2 hz1 c1 c2 f1 f2 c3 ab1 ab2 ab3 ab4
        go_wp2_with fail
        go_roundw
        case rel => exact flush_rel hne hB1 hB2 hm1 hm3 HM.out HL2.out HOB2.out HLO2.out HOWN2.out HAP2.out HBE2.out HK2.out hch.out hpl hol
        case measure =>
          rw [lenAt_of HL.out, lenAt_of ((HL2.out.far (p := ⟨bo, 0, none⟩) hne _).set_ 0 _)]
          omega
end Go.Proofs.YtbmooemlekckbaaGreatDoor

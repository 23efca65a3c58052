/- Joined texts: RfW. Each has its own head line. No condition beyond those that its theorems state. -/
import Derived.Test.YtekdcnlbdgikoaaDoorJ26
set_option linter.unusedVariables false

/- The reference's disk: its words for the world. -/
namespace Go.Proofs.YtekdcnlbdgikoaaDoor
open Go.RowKit

def Fl.cells (f : Fl) : List Value := [.string f.p, .slice f.A f.n f.c, .int .i64 f.safe]
def cellsF (L : List Fl) : List Value := L.flatMap Fl.cells
theorem cellsF_cons (f : Fl) (L : List Fl) : cellsF (f :: L) = f.cells ++ cellsF L := by simp [cellsF]
theorem cellsF_append (L K : List Fl) : cellsF (L ++ K) = cellsF L ++ cellsF K := by simp [cellsF]
theorem cellsF_len (L : List Fl) : (cellsF L).length = L.length * 3 := by
  induction L with
  | nil => rfl
  | cons f r ih => rw [cellsF_cons, List.length_append, ih, List.length_cons]; show 3 + _ = _; omega
theorem cellsF_get (L : List Fl) : ∀ j (h : j < L.length), (cellsF L)[j * 3]? = some (.string L[j].p) ∧ (cellsF L)[j * 3 + 1]? = some (.slice L[j].A L[j].n L[j].c) ∧ (cellsF L)[j * 3 + 2]? = some (.int .i64 L[j].safe) := by
  induction L with
  | nil => intro j h; simp at h
  | cons f r ih =>
    intro j h
    rw [cellsF_cons]
    cases j with
    | zero => exact ⟨rfl, rfl, rfl⟩
    | succ j =>
      obtain ⟨h1, h2, h3⟩ := ih j (by simpa using h)
      have e : f.cells.length = 3 := rfl
      refine ⟨?_, ?_, ?_⟩
      · rw [List.getElem?_append_right (by rw [e]; omega), e, show (j + 1) * 3 - 3 = j * 3 from by omega]; exact h1
      · rw [List.getElem?_append_right (by rw [e]; omega), e, show (j + 1) * 3 + 1 - 3 = j * 3 + 1 from by omega]; exact h2
      · rw [List.getElem?_append_right (by rw [e]; omega), e, show (j + 1) * 3 + 2 - 3 = j * 3 + 2 from by omega]; exact h3
theorem cellsF_take (L : List Fl) (m : Nat) : (cellsF L).take (m * 3) = cellsF (L.take m) := by
  induction L generalizing m with
  | nil => simp [cellsF]
  | cons f r ih =>
    cases m with
    | zero => simp [cellsF]
    | succ m =>
      have e : f.cells.length = 3 := rfl
      rw [cellsF_cons, List.take_succ_cons, cellsF_cons, ← ih m, List.take_append, e, List.take_of_length_le (by rw [e]; omega), show (m + 1) * 3 - 3 = m * 3 from by omega]
theorem cellsF_drop (L : List Fl) (m : Nat) : (cellsF L).drop (m * 3) = cellsF (L.drop m) := by
  induction L generalizing m with
  | nil => simp [cellsF]
  | cons f r ih =>
    cases m with
    | zero => simp
    | succ m =>
      have e : f.cells.length = 3 := rfl
      rw [cellsF_cons, List.drop_succ_cons, ← ih m, List.drop_append, e, List.drop_of_length_le (by rw [e]; omega), show (m + 1) * 3 - 3 = m * 3 from by omega]
      rfl
/-- No cell of a file is a byte. -/
theorem cellsF_kind (L : List Fl) (u : Value) (h : u ∈ cellsF L) (x : Int) : u ≠ .int .u8 x := by
  unfold cellsF at h
  obtain ⟨f, _, hu⟩ := List.mem_flatMap.1 h
  simp only [Fl.cells, List.mem_cons, List.not_mem_nil, or_false] at hu
  rcases hu with rfl | rfl | rfl <;> intro e <;> cases e
theorem cellsF_one (L : List Fl) : ∀ u ∈ cellsF L, u.oneCell' = true := fun u h => by
  unfold cellsF at h
  obtain ⟨f, _, hu⟩ := List.mem_flatMap.1 h
  simp only [Fl.cells, List.mem_cons, List.not_mem_nil, or_false] at hu
  rcases hu with rfl | rfl | rfl <;> rfl

/-- What may turn in a call of the reference: its own block; the cells of its row of files. -/
structure TurnR (y : Nat) (g : Option Nat) (N : Nat) (w w' : World) : Prop where
  os : w'.os = w.os
  tape : w'.tape = w.tape
  output : w'.output = w.output
  size : w.heap.size ≤ w'.heap.size
  block : ∀ k, k < w.heap.size → k ≠ y → some k ≠ g → w'.heap[k]? = w.heap[k]?
  cell : ∀ b, g = some b → b < w.heap.size → b ≠ y → ∀ j, N ≤ j → w'.cell? ⟨b, j, none⟩ = w.cell? ⟨b, j, none⟩
section
variable {y N : Nat} {g : Option Nat} {w0 w w' : World}
theorem TurnR.refl (w : World) : TurnR y g N w w := ⟨rfl, rfl, rfl, Nat.le_refl _, fun _ _ _ _ => rfl, fun _ _ _ _ _ _ => rfl⟩
theorem TurnR.trans {a b c : World} (h : TurnR y g N a b) (k : TurnR y g N b c) : TurnR y g N a c :=
  ⟨k.os.trans h.os, k.tape.trans h.tape, k.output.trans h.output, Nat.le_trans h.size k.size, fun i hi h1 h2 => (k.block i (Nat.lt_of_lt_of_le hi h.size) h1 h2).trans (h.block i hi h1 h2),
    fun b hb hl hy j hj => (k.cell b hb (Nat.lt_of_lt_of_le hl h.size) hy j hj).trans (h.cell b hb hl hy j hj)⟩
theorem TurnR.of_below (h : Below w.heap.size w w') : TurnR y g N w w' :=
  ⟨h.os, h.tape, h.output, h.size, fun k hk _ _ => h.block k hk, fun b _ hl _ j _ => h.cell (p := ⟨b, j, none⟩) hl⟩
theorem TurnR.alloc (h : TurnR y g N w0 w) (o : Obj) : TurnR y g N w0 (w.alloc o) := h.trans (TurnR.of_below ((Below.refl _ _).alloc (Nat.le_refl _) o))
theorem TurnR.setCell (h : TurnR y g N w0 w) {p : Addr} (hp : p.block = y ∨ w0.heap.size ≤ p.block ∨ (some p.block = g ∧ p.off < N)) (u : Value) : TurnR y g N w0 (w.setCell p u) := by
  refine ⟨h.os, h.tape, h.output, by simpa [World.setCell] using h.size, fun k hk h1 h2 => ?_, fun b hb hl hy j hj => ?_⟩
  · refine (Below.heap_setCell _ _ _ _ ?_).trans (h.block k hk h1 h2)
    rcases hp with hp | hp | hp
    · rw [hp]; exact h1
    · omega
    · intro e; exact h2 (by rw [e]; exact hp.1)
  · refine (World.cell?_setCell_other _ _ _ _ ?_).trans (h.cell b hb hl hy j hj)
    rintro rfl
    rcases hp with hp | hp | hp
    · exact hy hp
    · dsimp only at hp; omega
    · dsimp only at hp; omega
theorem TurnR.below {base : Nat} {a : World} (hb : Below base a w) (h : TurnR y g N w w') (hy : base ≤ y) (hg : ∀ k, g = some k → base ≤ k) (hs : base ≤ w.heap.size) : Below base a w' :=
  hb.trans ⟨h.os, h.tape, h.output, h.size, fun k hk => h.block k (by omega) (by omega) (fun e => by have := hg k e.symm; omega)⟩

/-- The reference's disk: its cells; its row of files; their bytes. -/
structure Rk (w : World) (base y : Nat) (q lf : Int) (A : Option Addr) (c : Nat) (L : List Fl) : Prop where
  blk : w.heap[y]? = some (.cells #[.int .i64 q, .int .i64 lf, .slice A L.length c] 71)
  own : w.ownsRow base 80 3 (.slice A L.length c) L.length (cellsF L)
  row : ∀ f ∈ L, FlOk w f
  sort : SortF L
  hy : base ≤ y
  hs : base ≤ w.heap.size
variable {base : Nat} {q lf : Int} {A : Option Addr} {c : Nat} {L : List Fl}
theorem Rk.lt (h : Rk w base y q lf A c L) : y < w.heap.size := by
  rcases Nat.lt_or_ge y w.heap.size with k | k
  · exact k
  · have := h.blk; rw [Array.getElem?_eq_none k] at this; cases this
theorem Rk.c0 (h : Rk w base y q lf A c L) : w.cell? ⟨y, 0, none⟩ = some (.int .i64 q) := by rw [cell_of_blk h.blk]; rfl
theorem Rk.c1 (h : Rk w base y q lf A c L) : w.cell? ⟨y, 1, none⟩ = some (.int .i64 lf) := by rw [cell_of_blk h.blk]; rfl
theorem Rk.c2 (h : Rk w base y q lf A c L) : w.cell? ⟨y, 2, none⟩ = some (.slice A L.length c) := by rw [cell_of_blk h.blk]; rfl
theorem Rk.fr (h : Rk w base y q lf A c L) (j : Nat) : w.frozen? ⟨y, j, none⟩ = false := by simp [World.frozen?, h.blk]
theorem own_tag {e : TypeId} {size n : Nat} {v : Value} {xs : List Value} (h : w.ownsRow base e size v n xs) {k : Nat} (hk : v.ownBlock = some k) : ∃ cur, w.heap[k]? = some (.cells cur e (0, 0)) := by
  rcases h.2 with ⟨rfl, _⟩ | ⟨g, cap, cur, rfl, _, hg, _⟩
  · cases hk
  · injection hk with hk; subst hk; exact ⟨cur, hg⟩
theorem Rk.ne (h : Rk w base y q lf A c L) : ∀ k, (Value.slice A L.length c).ownBlock = some k → k ≠ y := fun k hk e => by
  obtain ⟨cur, hc⟩ := own_tag h.own hk
  rw [e, h.blk] at hc
  injection hc with hc
  injection hc with _ hc
  revert hc
  decide
/-- Bytes lie away from what may turn. -/
theorem Ri.turnR {A' : Option Addr} {n : Nat} {l : List Int} (hr : Ri w .u8 A' n l) (h : Rk w base y q lf A c L) (ht : TurnR y (Value.slice A L.length c).ownBlock (L.length * 3) w w') : Ri w' .u8 A' n l := by
  refine ⟨hr.1, fun hn => ?_⟩
  obtain ⟨b, o, e, hb, hc⟩ := hr.2 hn
  refine ⟨b, o, e, Nat.lt_of_lt_of_le hb ht.size, fun j u hj => ?_⟩
  have hcj := hc j u hj
  have hu : ∃ x, u = .int .u8 x := by
    rw [List.getElem?_map] at hj
    cases hx : l[j]? with
    | none => rw [hx] at hj; cases hj
    | some x => rw [hx] at hj; injection hj with hj; exact ⟨x, hj.symm⟩
  obtain ⟨x, rfl⟩ := hu
  have hby : b ≠ y := by
    rintro rfl
    rw [cell_of_blk h.blk] at hcj
    have h3 : o + j = 0 ∨ o + j = 1 ∨ o + j = 2 ∨ 3 ≤ o + j := by omega
    rcases h3 with k | k | k | k
    · rw [k] at hcj; cases hcj
    · rw [k] at hcj; cases hcj
    · rw [k] at hcj; cases hcj
    · rw [Array.getElem?_eq_none (by simpa using k)] at hcj; cases hcj
  by_cases hg : some b = (Value.slice A L.length c).ownBlock
  · rcases Nat.lt_or_ge (o + j) (L.length * 3) with k | k
    · rcases h.own.2 with ⟨hv, _⟩ | ⟨g, cap, cur, hv, _⟩
      · rw [hv] at hg; cases hg
      · have ho := h.own
        rw [hv] at ho hg
        injection hg with hg
        have h1 := ho.cellAt (o + j) k
        have hg : b = g := hg
        rw [← hg, hcj] at h1
        exact absurd rfl (cellsF_kind L _ (List.mem_of_getElem? h1.symm) x)
    · rw [ht.cell b hg.symm hb hby _ k]; exact hcj
  · exact (World.cell?_of_block (ht.block b hb hby hg)).trans hcj
theorem FlOk.turnR {f : Fl} (hf : FlOk w f) (h : Rk w base y q lf A c L) (ht : TurnR y (Value.slice A L.length c).ownBlock (L.length * 3) w w') : FlOk w' f := ⟨hf.1.turnR h ht, hf.2⟩
/-- The disk stays in a call of the reference. -/
theorem Dk.turnR {d B : Nat} {q2 lf2 : Int} {K : List Fl} (hd : Dk w d B q2 lf2 K) (h : Rk w base y q lf A c L) (ht : TurnR y (Value.slice A L.length c).ownBlock (L.length * 3) w w') : Dk w' d B q2 lf2 K := by
  have hdy : d ≠ y := by
    rintro rfl
    have := hd.blk
    rw [h.blk] at this
    injection this with this
    injection this with this
    have := congrArg (fun a : Array Value => a[2]?) this
    simp at this
  have hBy : B ≠ y := by
    rintro rfl
    obtain ⟨es, clock, hb, _⟩ := hd.own
    rw [h.blk] at hb
    cases hb
  have hdg : some d ≠ (Value.slice A L.length c).ownBlock := fun e => by
    obtain ⟨cur, hc⟩ := own_tag h.own e.symm
    rw [hd.blk] at hc
    injection hc with hc
    injection hc with _ hc
    revert hc
    decide
  have hBg : some B ≠ (Value.slice A L.length c).ownBlock := fun e => by
    obtain ⟨cur, hc⟩ := own_tag h.own e.symm
    obtain ⟨es, clock, hb, _⟩ := hd.own
    rw [hb] at hc
    cases hc
  refine ⟨(ht.block d hd.lt hdy hdg).trans hd.blk, ?_, fun f hf => (hd.row f hf).turnR h ht⟩
  obtain ⟨es, clock, hb, hF⟩ := hd.own
  exact ⟨es, clock, (ht.block B hd.ltB hBy hBg).trans hb, hF⟩
/-- The reference stays in a call of the disk. -/
theorem Rk.turn {d B : Nat} {q2 lf2 : Int} {K : List Fl} (h : Rk w base y q lf A c L) (hd : Dk w d B q2 lf2 K) (ht : Turn d B w w') : Rk w' base y q lf A c L := by
  have hdy : y ≠ d := by
    rintro rfl
    have := hd.blk
    rw [h.blk] at this
    injection this with this
    injection this with this
    have := congrArg (fun a : Array Value => a[2]?) this
    simp at this
  have hBy : y ≠ B := by
    rintro rfl
    obtain ⟨es, clock, hb, _⟩ := hd.own
    rw [h.blk] at hb
    cases hb
  refine ⟨(ht.block y h.lt hdy hBy).trans h.blk, ?_, fun f hf => (h.row f hf).turn (hd.far (h.row f hf).1) ht, h.sort, h.hy, Nat.le_trans h.hs ht.size⟩
  refine ⟨h.own.1, ?_⟩
  rcases h.own.2 with hn | ⟨g, cap, cur, hv, hb, hg, hr⟩
  · exact .inl hn
  · refine .inr ⟨g, cap, cur, hv, hb, (ht.block g ?_ ?_ ?_).trans hg, hr⟩
    · rcases Nat.lt_or_ge g w.heap.size with k | k
      · exact k
      · rw [Array.getElem?_eq_none k] at hg; cases hg
    · rintro rfl
      rw [hd.blk] at hg
      injection hg with hg
      injection hg with _ hg
      revert hg
      decide
    · rintro rfl
      obtain ⟨es, clock, hm, _⟩ := hd.own
      rw [hm] at hg
      cases hg
theorem Rk.below (h : Rk w base y q lf A c L) (hb : Below w.heap.size w w') : Rk w' base y q lf A c L :=
  ⟨(hb.block y h.lt).trans h.blk, own_below h.own hb, fun f hf => (h.row f hf).below hb, h.sort, h.hy, Nat.le_trans h.hs hb.size⟩
theorem Rk.left (h : Rk w base y q lf A c L) (x : Int) : Rk (w.setCell ⟨y, 1, none⟩ (.int .i64 x)) base y q x A c L := by
  have ht : TurnR y (Value.slice A L.length c).ownBlock (L.length * 3) w (w.setCell ⟨y, 1, none⟩ (.int .i64 x)) := (TurnR.refl w).setCell (p := ⟨y, 1, none⟩) (.inl rfl) _
  refine ⟨?_, ?_, fun f hf => (h.row f hf).turnR h ht, h.sort, h.hy, by simpa [World.setCell] using h.hs⟩
  · simp only [World.setCell, Array.getElem?_modify, if_pos, h.blk]
    rfl
  · refine h.own.kept (row := some y) ⟨rfl, rfl, rfl, by simp [World.setCell], fun k _ hk => Below.heap_setCell _ _ _ _ (fun e => hk (by rw [e]))⟩ ?_
    cases hg : (Value.slice A L.length c).ownBlock with
    | none => exact .inl rfl
    | some k => exact .inr fun e => h.ne k hg (by injection e)
/-- What a call of the reference answers. -/
def RkOut (w : World) (base y : Nat) (q : Int) (A : Option Addr) (c : Nat) (L : List Fl) (lf' : Int) (L' : List Fl) (v : Value) (e : Ending) (w' : World) : Prop :=
  e = .returned v ∧ (∃ A' c', Rk w' base y q lf' A' c' L') ∧ TurnR y (Value.slice A L.length c).ownBlock (L.length * 3) w w'
end

set_option maxHeartbeats 400000 in
theorem rburnt_any (w : World) (base y : Nat) (q lf : Int) (A : Option Addr) (c : Nat) (L : List Fl) (h : Rk w base y q lf A c L) (hl : -9223372036854775808 ≤ lf ∧ lf < 9223372036854775808) :
    Calls Tryd.prog 59 #[.pointer (some ⟨y, 0, none⟩)] w fun e w' => e = .returned (.bool (decide (lf = 0))) ∧ Rk w' base y q (burnL lf) A c L ∧ TurnR y (Value.slice A L.length c).ownBlock (L.length * 3) w w' ∧ w'.heap.size = w.heap.size := by
  have c1 := h.c1
  have f1 := h.fr 1
  have HD := Lib.hid h
  clear h
  rcases Int.lt_trichotomy lf 0 with hl0 | hl0 | hl0
  · have t1 : (lf == 0) = false := by simp; omega
    have t2 : decide (0 < lf) = false := decide_eq_false (by omega)
    go_enter Tryd.func59, Tryd.ntmps59
    go_wp2_with fail
    go_ret
    refine ⟨ret_bool (decide_eq_false (by omega)).symm, by unfold burnL; rw [if_neg (by omega)]; exact HD.out, TurnR.refl _, rfl⟩
  · subst hl0
    go_enter Tryd.func59, Tryd.ntmps59
    go_wp2_with fail
    go_ret
    exact ⟨rfl, HD.out, TurnR.refl _, rfl⟩
  · have t1 : (lf == 0) = false := by simp; omega
    have t2 : decide (0 < lf) = true := decide_eq_true (by omega)
    go_enter Tryd.func59, Tryd.ntmps59
    go_wp2_with fail
    go_ret
    refine ⟨ret_bool (decide_eq_false (by omega)).symm, by unfold burnL; rw [if_pos (by omega)]; exact HD.out.left _, (TurnR.refl w).setCell (p := ⟨y, 1, none⟩) (.inl rfl) _, by simp [World.setCell]⟩
end Go.Proofs.YtekdcnlbdgikoaaDoor

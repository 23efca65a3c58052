/- Joined texts: DkW. Each has its own head line. No condition beyond those that its theorems state. -/
import Derived.Test.YtekdcnlbdgikoaaDoorProg
import Derived.Test.YtekdcnlbdgikoaaDoorJ03
set_option linter.unusedVariables false

/- The disk's words for the world: what may turn; a disk; its files. -/
namespace Go.Proofs.YtekdcnlbdgikoaaDoor
open Go.RowKit

/-- The disk's own blocks may turn; all else that was there stays. -/
structure Turn (d B : Nat) (w w' : World) : Prop where
  os : w'.os = w.os
  tape : w'.tape = w.tape
  output : w'.output = w.output
  size : w.heap.size ≤ w'.heap.size
  block : ∀ k, k < w.heap.size → k ≠ d → k ≠ B → w'.heap[k]? = w.heap[k]?
section
variable {d B : Nat} {w0 w w' : World}
theorem Turn.refl (w : World) : Turn d B w w := ⟨rfl, rfl, rfl, Nat.le_refl _, fun _ _ _ _ => rfl⟩
theorem Turn.trans {a b c : World} (h : Turn d B a b) (k : Turn d B b c) : Turn d B a c :=
  ⟨k.os.trans h.os, k.tape.trans h.tape, k.output.trans h.output, Nat.le_trans h.size k.size, fun i hi h1 h2 => (k.block i (Nat.lt_of_lt_of_le hi h.size) h1 h2).trans (h.block i hi h1 h2)⟩
theorem Turn.of_below (h : Below w.heap.size w w') : Turn d B w w' := ⟨h.os, h.tape, h.output, h.size, fun k hk _ _ => h.block k hk⟩
theorem Turn.alloc (h : Turn d B w0 w) (o : Obj) : Turn d B w0 (w.alloc o) := h.trans (Turn.of_below ((Below.refl _ _).alloc (Nat.le_refl _) o))
theorem Turn.setCell (h : Turn d B w0 w) {p : Addr} (hp : p.block = d ∨ w0.heap.size ≤ p.block) (u : Value) : Turn d B w0 (w.setCell p u) :=
  ⟨h.os, h.tape, h.output, by simpa [World.setCell] using h.size, fun k hk h1 h2 => (Below.heap_setCell _ _ _ _ (by rcases hp with hp | hp <;> omega)).trans (h.block k hk h1 h2)⟩
theorem Turn.grown (h : Turn d B w0 w) {row : Option Nat} (hg : w.grownBy w' row) (hr : ∀ k, row = some k → k = d ∨ k = B ∨ w0.heap.size ≤ k) : Turn d B w0 w' :=
  ⟨hg.os.trans h.os, hg.tape.trans h.tape, hg.output.trans h.output, Nat.le_trans h.size hg.size, fun k hk h1 h2 => (hg.block k (Nat.lt_of_lt_of_le hk h.size) (fun e => by have := hr k e.symm; omega)).trans (h.block k hk h1 h2)⟩
theorem Turn.map (h : Turn d B w0 w) (hm : w.mapTurned w' B) : Turn d B w0 w' := h.grown hm.grown (fun k e => by injection e with e; exact .inr (.inl e.symm))
/-- Where the disk is the call's own, the world below the call's base stays. -/
theorem Turn.below {base : Nat} (hb : Below base w0 w) (h : Turn d B w w') (hd : base ≤ d) (hB : base ≤ B) (hs : base ≤ w.heap.size) : Below base w0 w' :=
  hb.trans ⟨h.os, h.tape, h.output, h.size, fun k hk => h.block k (by omega) (by omega) (by omega)⟩
theorem Turn.cell (h : Turn d B w w') {p : Addr} {v : Value} (hc : w.cell? p = some v) (h1 : p.block ≠ d) (h2 : p.block ≠ B) : w'.cell? p = some v :=
  (World.cell?_of_block (h.block p.block (World.block_lt_of_cell? w p hc) h1 h2)).trans hc

/-- A row lies away from the disk's own blocks. -/
def Far (d B : Nat) (A : Option Addr) (n : Nat) : Prop := 0 < n → ∀ b o, A = some ⟨b, o, none⟩ → b ≠ d ∧ b ≠ B
theorem Ri.turn {k : IntKind} {A : Option Addr} {n : Nat} {l : List Int} (h : Ri w k A n l) (hf : Far d B A n) (ht : Turn d B w w') : Ri w' k A n l :=
  ⟨h.1, fun hn => by
    obtain ⟨b, o, e, hb, hc⟩ := h.2 hn
    have := hf hn b o e
    exact ⟨b, o, e, Nat.lt_of_lt_of_le hb ht.size, fun j u hj => (World.cell?_of_block (ht.block b hb this.1 this.2)).trans (hc j u hj)⟩⟩

/-- A disk: its cells; its map of files; its files' rows. -/
def FlOk (w : World) (f : Fl) : Prop := Ri w .u8 f.A f.n f.b ∧ U8 f.b ∧ f.n ≤ f.c ∧ f.c ≤ 9223372036854775807 ∧ f.safe ≤ f.n ∧ f.p.size ≤ maxLen
structure Dk (w : World) (d B : Nat) (q lf : Int) (L : List Fl) : Prop where
  blk : w.heap[d]? = some (.cells #[.int .i64 q, .int .i64 lf, .map (some B)] 55)
  own : w.ownsMap Tryd.prog 9 rawE B L.length (dat L)
  row : ∀ f ∈ L, FlOk w f
variable {q lf : Int} {L : List Fl}
theorem keyed_s : Maps.Keyed Tryd.prog 9 := Maps.string_keyed Tryd.underlying9
theorem Dk.sort (h : Dk w d B q lf L) : SortF L := own_sort keyed_s h.own
theorem Dk.lt (h : Dk w d B q lf L) : d < w.heap.size := by
  rcases Nat.lt_or_ge d w.heap.size with k | k
  · exact k
  · have := h.blk; rw [Array.getElem?_eq_none k] at this; cases this
theorem Dk.ltB (h : Dk w d B q lf L) : B < w.heap.size := h.own.lt
theorem Dk.ne (h : Dk w d B q lf L) : d ≠ B := by
  rintro rfl
  obtain ⟨es, clock, hb, _⟩ := h.own
  have := h.blk
  rw [hb] at this
  cases this
theorem cell_of_blk {w : World} {b : Nat} {cs : Array Value} {t : TypeId} {z : Nat × Nat} (h : w.heap[b]? = some (.cells cs t z)) (j : Nat) : w.cell? ⟨b, j, none⟩ = cs[j]? := by
  simp [World.cell?, h]
theorem Dk.c0 (h : Dk w d B q lf L) : w.cell? ⟨d, 0, none⟩ = some (.int .i64 q) := by rw [cell_of_blk h.blk]; rfl
theorem Dk.c1 (h : Dk w d B q lf L) : w.cell? ⟨d, 1, none⟩ = some (.int .i64 lf) := by rw [cell_of_blk h.blk]; rfl
theorem Dk.c2 (h : Dk w d B q lf L) : w.cell? ⟨d, 2, none⟩ = some (.map (some B)) := by rw [cell_of_blk h.blk]; rfl
theorem Dk.fr (h : Dk w d B q lf L) (j : Nat) : w.frozen? ⟨d, j, none⟩ = false := by simp [World.frozen?, h.blk]
/-- Bytes lie away from the disk's own blocks. -/
theorem Dk.far (h : Dk w d B q lf L) {A : Option Addr} {n : Nat} {l : List Int} (hr : Ri w .u8 A n l) : Far d B A n := by
  intro hn b o e
  obtain ⟨b', o', e', hb', hc⟩ := hr.at_ (j := 0) hn
  rw [e] at e'
  injection e' with e'
  injection e' with e1 e2
  subst e1 e2
  refine ⟨?_, ?_⟩
  · rintro rfl
    rw [cell_of_blk h.blk] at hc
    have ho : o + 0 < 3 ∨ 3 ≤ o + 0 := Nat.lt_or_ge _ _
    rcases ho with ho | ho
    · have : o + 0 = 0 ∨ o + 0 = 1 ∨ o + 0 = 2 := by omega
      rcases this with k | k | k <;> rw [k] at hc <;> cases hc
    · rw [Array.getElem?_eq_none (by simpa using ho)] at hc; cases hc
  · rintro rfl
    obtain ⟨es, clock, hm, _⟩ := h.own
    simp [World.cell?, hm] at hc
theorem FlOk.turn {f : Fl} (h : FlOk w f) (hf : Far d B f.A f.n) (ht : Turn d B w w') : FlOk w' f := ⟨h.1.turn hf ht, h.2⟩
theorem FlOk.below {f : Fl} (h : FlOk w f) (hb : Below w.heap.size w w') : FlOk w' f := ⟨h.1.below hb, h.2⟩
theorem Dk.below (h : Dk w d B q lf L) (hb : Below w.heap.size w w') : Dk w' d B q lf L :=
  ⟨(hb.block d h.lt).trans h.blk, h.own.kept (row := none) ⟨hb.os, hb.tape, hb.output, hb.size, fun k hk _ => hb.block k hk⟩ (by simp), fun f hf => (h.row f hf).below hb⟩
theorem Dk.alloc (h : Dk w d B q lf L) (o : Obj) : Dk (w.alloc o) d B q lf L := h.below ((Below.refl _ _).alloc (Nat.le_refl _) o)
theorem Dk.left (h : Dk w d B q lf L) (x : Int) : Dk (w.setCell ⟨d, 1, none⟩ (.int .i64 x)) d B q x L := by
  have ht : Turn d B w (w.setCell ⟨d, 1, none⟩ (.int .i64 x)) := Turn.setCell (d := d) (B := B) (p := ⟨d, 1, none⟩) (Turn.refl w) (.inl rfl) _
  refine ⟨?_, h.own.setCell (a := ⟨d, 1, none⟩) (fun e => h.ne e.symm) _, fun f hf => (h.row f hf).turn (h.far (h.row f hf).1) ht⟩
  simp only [World.setCell, Array.getElem?_modify, if_pos, h.blk]
  rfl
/-- The map has turned. -/
theorem Dk.map {L' : List Fl} {m : Nat} (h : Dk w d B q lf L) (ht : w.mapTurned w' B) (ho : w'.ownsMap Tryd.prog 9 rawE B m (dat L')) (hr : ∀ f ∈ L', FlOk w f) : Dk w' d B q lf L' := by
  have h1 : Turn d B w w' := (Turn.refl _).map ht
  refine ⟨?_, by have := own_tight ho; rwa [dat_size] at this, fun f hf => (hr f hf).turn (h.far (hr f hf).1) h1⟩
  exact (ht.grown.block d h.lt (fun e => by injection e with e; exact h.ne e)).trans h.blk
end

theorem zero_file (w : World) : (zeroValue 57).run Tryd.prog w = .ok (.agg #[.slice none 0 0, .int .i64 0]) w := by kernel_rfl

/-- What a call leaves of the fuse. -/
def burnL (lf : Int) : Int := if 0 < lf then lf - 1 else lf
set_option maxHeartbeats 400000 in
theorem burnt_any (w : World) (d B : Nat) (q lf : Int) (L : List Fl) (h : Dk w d B q lf L) (hl : -9223372036854775808 ≤ lf ∧ lf < 9223372036854775808) :
    Calls Tryd.prog 27 #[.pointer (some ⟨d, 0, none⟩)] w fun e w' => e = .returned (.bool (decide (lf = 0))) ∧ Dk w' d B q (burnL lf) L ∧ Turn d B w w' ∧ w'.heap.size = w.heap.size := by
  have c1 := h.c1
  have f1 := h.fr 1
  have HD := Lib.hid h
  clear h
  rcases Int.lt_trichotomy lf 0 with hl0 | hl0 | hl0
  · have t1 : (lf == 0) = false := by simp; omega
    have t2 : decide (0 < lf) = false := decide_eq_false (by omega)
    go_enter Tryd.func27, Tryd.ntmps27
    go_wp2_with fail
    go_ret
    refine ⟨ret_bool (decide_eq_false (by omega)).symm, by unfold burnL; rw [if_neg (by omega)]; exact HD.out, Turn.refl _, rfl⟩
  · subst hl0
    go_enter Tryd.func27, Tryd.ntmps27
    go_wp2_with fail
    go_ret
    exact ⟨rfl, HD.out, Turn.refl _, rfl⟩
  · have t1 : (lf == 0) = false := by simp; omega
    have t2 : decide (0 < lf) = true := decide_eq_true (by omega)
    go_enter Tryd.func27, Tryd.ntmps27
    go_wp2_with fail
    go_ret
    refine ⟨ret_bool (decide_eq_false (by omega)).symm, by unfold burnL; rw [if_pos (by omega)]; exact HD.out.left _, Turn.setCell (d := d) (B := B) (p := ⟨d, 1, none⟩) (Turn.refl w) (.inl rfl) _, by simp [World.setCell]⟩
end Go.Proofs.YtekdcnlbdgikoaaDoor

/- Joined texts: Rows2, Concat, Concat3, RowP, Concat5, MulOne, RepeatU. Each has its own head line. No condition beyond those that its theorems state. -/
import Derived.Lib.AppendZerosOnto
import Derived.LoopN
import Derived.Laws.CopyOwn
import Derived.Deep.RegionLaw
import Derived.Test.YtmejoococajikaaGreatJ04
import Derived.Test.YtmejoococajikaaGreatJ06
import Derived.Test.YtmejoococajikaaGreatJ02
set_option linter.unusedVariables false

/- Two rows of the call's own, side by side. -/
namespace Go.Proofs.YtmejoococajikaaGreat
open Go.RowKit

/-- Two slices that lie in two blocks. -/
def Apart (u v : Value) : Prop := ∀ g, u.ownBlock = some g → v.ownBlock = some g → False
theorem Apart.symm {u v : Value} (h : Apart u v) : Apart v u := fun g h1 h2 => h g h2 h1
theorem Apart.kept {w w' : World} {B : Nat} {e : TypeId} {s n : Nat} {u v : Value} {xs : List Value} (h : Apart u v) (ho : w.ownsRow B e s v n xs) (hg : w.grownBy w' u.ownBlock) : w'.ownsRow B e s v n xs :=
  ho.kept hg (by
    cases hv : v.ownBlock with
    | none => exact .inl rfl
    | some g => exact .inr (fun e2 => h g e2.symm hv))
theorem Apart.grown {w : World} {B : Nat} {e : TypeId} {s n : Nat} {u u' v : Value} {xs : List Value} (h : Apart u v) (ho : w.ownsRow B e s v n xs) {N : Nat} (hN : w.heap.size ≤ N) (hu : u'.ownBlock = u.ownBlock ∨ u'.ownBlock = some N) : Apart u' v := by
  intro g h1 h2
  rcases hu with hu | hu
  · exact h g (hu.symm.trans h1) h2
  · have := (ho.lt g h2).2
    rw [hu] at h1
    injection h1 with h1
    omega
/-- append onto a row of the call's own, elements of kind u64; where the new slice lies. -/
theorem wpList_u64x (w : World) {ops : Array Oper} {rest : List Oper} {o : Oper} {a : Act} {Q : Exit → Act → World → Prop} (hgd : o.guard = none) (s x : Operand)
    (ho : o.op = .call { callee := .builtin .append, args := #[s, x], argTypes := #[89, 89] })
    (base : Nat) (v : Value) (n : Nat) (l : List Int) (hs : a.eval s = v) (hown : w.ownsRow base 109 1 v n (l.map (Value.int .u64)))
    (A : Option Addr) (m c : Nat) (l2 : List Int) (hx : a.eval x = .slice A m c) (hr : Ri w .u64 A m l2) (hb : n + m ≤ 2000000000) (hbase : base ≤ w.heap.size)
    (h : ∀ G cap w', w'.ownsRow base 109 1 (.slice G (n + m) cap) (n + m) ((l ++ l2).map (Value.int .u64)) → w.grownBy w' v.ownBlock → n + m ≤ cap → ((Value.slice G (n + m) cap).ownBlock = v.ownBlock ∨ (Value.slice G (n + m) cap).ownBlock = some w.heap.size) → wpList Tryz.prog ops Q rest (a.put o.dst (.slice G (n + m) cap)) w') : wpList Tryz.prog ops Q (o :: rest) a w := by
  obtain ⟨i0, hi, hz0, hz1, hz2⟩ := info_parts info_u64
  refine wpList_append_any w hgd s x 89 ho base 109 i0 (.int .u64 0) 1 8 Tryz.underlying89 hi hz0 hz1 hz2 rfl (by decide) v n _ hs hown A m c _ hx hr (Ri.oneCell _ _) (by unfold maxLen; omega) (by omega) hbase ?_
  intro G cap w' h1 h2 h3 h4
  rw [← List.map_append] at h1
  exact h G cap w' h1 h2 h4 h3
/-- append onto a row of the call's own, elements of kind u8; where the new slice lies. -/
theorem wpList_u8x (w : World) {ops : Array Oper} {rest : List Oper} {o : Oper} {a : Act} {Q : Exit → Act → World → Prop} (hgd : o.guard = none) (s x : Operand)
    (ho : o.op = .call { callee := .builtin .append, args := #[s, x], argTypes := #[38, 38] })
    (base : Nat) (v : Value) (n : Nat) (l : List Int) (hs : a.eval s = v) (hown : w.ownsRow base 5 1 v n (l.map (Value.int .u8)))
    (A : Option Addr) (m c : Nat) (l2 : List Int) (hx : a.eval x = .slice A m c) (hr : Ri w .u8 A m l2) (hb : n + m ≤ 2000000000) (hbase : base ≤ w.heap.size)
    (h : ∀ G cap w', w'.ownsRow base 5 1 (.slice G (n + m) cap) (n + m) ((l ++ l2).map (Value.int .u8)) → w.grownBy w' v.ownBlock → n + m ≤ cap → ((Value.slice G (n + m) cap).ownBlock = v.ownBlock ∨ (Value.slice G (n + m) cap).ownBlock = some w.heap.size) → wpList Tryz.prog ops Q rest (a.put o.dst (.slice G (n + m) cap)) w') : wpList Tryz.prog ops Q (o :: rest) a w := by
  obtain ⟨i0, hi, hz0, hz1, hz2⟩ := info_parts info_u8
  refine wpList_append_any w hgd s x 38 ho base 5 i0 (.int .u8 0) 1 1 Tryz.underlying38 hi hz0 hz1 hz2 rfl (by decide) v n _ hs hown A m c _ hx hr (Ri.oneCell _ _) (by unfold maxLen; omega) (by omega) hbase ?_
  intro G cap w' h1 h2 h3 h4
  rw [← List.map_append] at h1
  exact h G cap w' h1 h2 h4 h3
end Go.Proofs.YtmejoococajikaaGreat

/- slices.Grow on the nil slice of bytes, and slices.Concat of two slices of bytes. -/
namespace Go.Proofs.YtmejoococajikaaGreat
open Go.RowKit

def EmptyOut (w : World) (e : Ending) (w' : World) : Prop :=
  ∃ G c, e = .returned (.slice G 0 c) ∧ c ≤ 9223372036854775807 ∧ Hid (w'.ownsRow w.heap.size 5 1 (.slice G 0 c) 0 []) ∧ Below w.heap.size w w'

set_option maxRecDepth 100000 in
set_option maxHeartbeats 1000000 in
theorem Grow_any (w : World) (n : Nat) (hn : n ≤ 10000000) :
    Calls Tryz.prog 153 #[.slice none 0 0, .int .i64 n] w (EmptyOut w) := by
  rcases Nat.eq_zero_or_pos n with rfl | h0
  · go_enter Tryz.func153, Tryz.ntmps153
    go_wp2_with fail
    go_ret
    exact ⟨none, 0, rfl, by omega, ⟨rfl, .inl ⟨rfl, rfl⟩⟩, Below.refl _ _⟩
  · have hB : (Tryz.t5).bytes = 1 := by kernel_rfl
    have h1 : ¬ (281474976710656 < (n : Int) * ((Tryz.t5).bytes : Int)) := by rw [hB]; omega
    have h2 : ¬ (281474976710656 < Builtin.nextslicecap n 0 * (Tryz.t5).bytes) := by
      have := growslice_fits (need := n) (old := 0) (bytes := (Tryz.t5).bytes) h0 (by rw [hB]; omega)
      omega
    have h3 := grownCap_ge w n 0 5
    have h4 := grownCap_le_maxLen w n 0 5 (by unfold maxLen; omega)
    unfold grownCap at h3 h4
    unfold maxLen at h4
    clear hB
    go_enter Tryz.func153, Tryz.ntmps153
    go_wp2_with fail
    go_ret
    refine ⟨_, _, rfl, by omega, ⟨rfl, .inr ⟨w.heap.size, _, _, rfl, Nat.le_refl _, Blk.new w _ _, Nat.zero_le _, by unfold maxLen; omega, ?_, by simp⟩⟩, ?_⟩
    · simp [Builtin.zeroCells]; omega
    · exact ((Below.refl w.heap.size w).alloc (Nat.le_refl _) _).drew

set_option maxRecDepth 100000 in
set_option maxHeartbeats 1000000 in
theorem Concat_any (w : World) (b : Nat) (A : Option Addr) (n cA : Nat) (la : List Int) (B : Option Addr) (m cB : Nat) (lb : List Int)
    (hb : Blk w b 38 #[.slice A n cA, .slice B m cB]) (ha : Ri w .u8 A n la) (hr : Ri w .u8 B m lb) (hn : n ≤ 1000000) (hm : m ≤ 1000000) :
    Calls Tryz.prog 121 #[.slice (some ⟨b, 0, none⟩) 2 2] w (BytesOut w (la ++ lb)) := by
  have HA := Lib.hid ha; have HB := Lib.hid hr
  have hlt := hb.lt
  have g0 : w.cell? ⟨b, 0, none⟩ = some (.slice A n cA) := (hb.cell 0).trans rfl
  have g1 : w.cell? ⟨b, 1, none⟩ = some (.slice B m cB) := (hb.cell 1).trans rfl
  clear ha hr
  go_enter Tryz.func121, Tryz.ntmps121
  go_wp2_with fail
  refine wp_loop_rounds 3 ?_
  rw [rounds_succ]
  go_wp2_with fail
  rw [rounds_succ]
  go_wp2_with fail
  rw [rounds_succ]
  go_wp2_with fail
  have hG := Grow_any w (n + m) (by omega)
  rw [Int.natCast_add] at hG
  refine hG.mono ?_; rintro e w1 ⟨G, c, rfl, hc, hown, hb1⟩
  clear hG g0 g1
  have h0 := (Blk.below_ hb hb1)
  have g0 : w1.cell? ⟨b, 0, none⟩ = some (.slice A n cA) := (h0.cell 0).trans rfl
  have g1 : w1.cell? ⟨b, 1, none⟩ = some (.slice B m cB) := (h0.cell 1).trans rfl
  go_wp2_with fail
  refine wp_loop_rounds 3 ?_
  rw [rounds_succ]
  go_wp2_with (at_builtin; refine wpList_u8 _ rfl (.tmp 31) (.tmp 32) rfl w.heap.size _ 0 [] rfl hown.out _ _ _ la rfl (HA.out.below hb1) (by omega) hb1.size ?_; intro G2 c2 w2 hown2 hgr _)
  rw [Nat.zero_add, List.nil_append] at hown2
  have hb2 := push0 hb1 (Nat.le_refl _) hown.out hgr
  have HO2 := Lib.hid hown2
  have h0 := (Blk.below_ hb hb2)
  have g0 : w2.cell? ⟨b, 0, none⟩ = some (.slice A n cA) := (h0.cell 0).trans rfl
  have g1 : w2.cell? ⟨b, 1, none⟩ = some (.slice B m cB) := (h0.cell 1).trans rfl
  clear hown2 hgr
  go_wp2_with fail
  rw [rounds_succ]
  go_wp2_with (at_builtin; refine wpList_u8 _ rfl (.tmp 31) (.tmp 32) rfl w.heap.size _ n la rfl HO2.out _ _ _ lb rfl (HB.out.below hb2) (by omega) hb2.size ?_; intro G3 c3 w3 hown3 hgr _)
  have hb3 := push0 hb2 (Nat.le_refl _) HO2.out hgr
  have HO3 := Lib.hid hown3
  clear hown3 hgr
  go_wp2_with fail
  rw [rounds_succ]
  go_wp2_with fail
  go_ret
  exact ⟨_, _, _, rfl, Sl.of_own HO3.out, hb3⟩
end Go.Proofs.YtmejoococajikaaGreat

/- slices.Concat of 3 slices of bytes. -/
namespace Go.Proofs.YtmejoococajikaaGreat
open Go.RowKit

set_option maxRecDepth 100000 in
set_option maxHeartbeats 2000000 in
theorem Concat3_any (w : World) (b : Nat) (A0 : Option Addr) (n0 c0 : Nat) (l0 : List Int) (A1 : Option Addr) (n1 c1 : Nat) (l1 : List Int) (A2 : Option Addr) (n2 c2 : Nat) (l2 : List Int)
    (hb : Blk w b 38 #[.slice A0 n0 c0, .slice A1 n1 c1, .slice A2 n2 c2]) (h0 : Ri w .u8 A0 n0 l0) (h1 : Ri w .u8 A1 n1 l1) (h2 : Ri w .u8 A2 n2 l2) (m0 : n0 ≤ 1000000) (m1 : n1 ≤ 1000000) (m2 : n2 ≤ 1000000) :
    Calls Tryz.prog 121 #[.slice (some ⟨b, 0, none⟩) 3 3] w (BytesOut w (l0 ++ l1 ++ l2)) := by
  have H0 := Lib.hid h0
  have H1 := Lib.hid h1
  have H2 := Lib.hid h2
  have hlt := hb.lt
  have g0 : w.cell? ⟨b, 0, none⟩ = some (.slice A0 n0 c0) := (hb.cell 0).trans rfl
  have g1 : w.cell? ⟨b, 1, none⟩ = some (.slice A1 n1 c1) := (hb.cell 1).trans rfl
  have g2 : w.cell? ⟨b, 2, none⟩ = some (.slice A2 n2 c2) := (hb.cell 2).trans rfl
  clear h0 h1 h2
  go_enter Tryz.func121, Tryz.ntmps121
  go_wp2_with fail
  refine wp_loop_rounds 4 ?_
  rw [rounds_succ]
  go_wp2_with fail
  rw [rounds_succ]
  go_wp2_with fail
  rw [rounds_succ]
  go_wp2_with fail
  rw [rounds_succ]
  go_wp2_with fail
  have hG := Grow_any w (n0 + n1 + n2) (by omega)
  simp only [Int.natCast_add] at hG
  refine hG.mono ?_; rintro e w1 ⟨G, c, rfl, hc, hown, hb1⟩
  clear hG g0 g1 g2
  have hq0 := (Blk.below_ hb hb1)
  have g0 : w1.cell? ⟨b, 0, none⟩ = some (.slice A0 n0 c0) := (hq0.cell 0).trans rfl
  have g1 : w1.cell? ⟨b, 1, none⟩ = some (.slice A1 n1 c1) := (hq0.cell 1).trans rfl
  have g2 : w1.cell? ⟨b, 2, none⟩ = some (.slice A2 n2 c2) := (hq0.cell 2).trans rfl
  go_wp2_with fail
  refine wp_loop_rounds 4 ?_
  rw [rounds_succ]
  go_wp2_with (at_builtin; refine wpList_u8 _ rfl (.tmp 31) (.tmp 32) rfl w.heap.size _ (0) ([]) rfl hown.out _ _ _ l0 rfl (H0.out.below hb1) (by omega) hb1.size ?_; intro G2 e2 w2 hown2 hgr2 _)
  rw [Nat.zero_add, List.nil_append] at hown2
  have hb2 := push0 hb1 (Nat.le_refl _) hown.out hgr2
  have HO2 := Lib.hid hown2
  clear g0 g1 g2
  have hq2 := (Blk.below_ hb hb2)
  have g0 : w2.cell? ⟨b, 0, none⟩ = some (.slice A0 n0 c0) := (hq2.cell 0).trans rfl
  have g1 : w2.cell? ⟨b, 1, none⟩ = some (.slice A1 n1 c1) := (hq2.cell 1).trans rfl
  have g2 : w2.cell? ⟨b, 2, none⟩ = some (.slice A2 n2 c2) := (hq2.cell 2).trans rfl
  clear hown2 hgr2
  go_wp2_with fail
  rw [rounds_succ]
  go_wp2_with (at_builtin; refine wpList_u8 _ rfl (.tmp 31) (.tmp 32) rfl w.heap.size _ (n0) (l0) rfl HO2.out _ _ _ l1 rfl (H1.out.below hb2) (by omega) hb2.size ?_; intro G3 e3 w3 hown3 hgr3 _)
  have hb3 := push0 hb2 (Nat.le_refl _) HO2.out hgr3
  have HO3 := Lib.hid hown3
  clear g0 g1 g2
  have hq3 := (Blk.below_ hb hb3)
  have g0 : w3.cell? ⟨b, 0, none⟩ = some (.slice A0 n0 c0) := (hq3.cell 0).trans rfl
  have g1 : w3.cell? ⟨b, 1, none⟩ = some (.slice A1 n1 c1) := (hq3.cell 1).trans rfl
  have g2 : w3.cell? ⟨b, 2, none⟩ = some (.slice A2 n2 c2) := (hq3.cell 2).trans rfl
  clear hown3 hgr3
  go_wp2_with fail
  rw [rounds_succ]
  go_wp2_with (at_builtin; refine wpList_u8 _ rfl (.tmp 31) (.tmp 32) rfl w.heap.size _ (n0 + n1) (l0 ++ l1) rfl HO3.out _ _ _ l2 rfl (H2.out.below hb3) (by omega) hb3.size ?_; intro G4 e4 w4 hown4 hgr4 _)
  have hb4 := push0 hb3 (Nat.le_refl _) HO3.out hgr4
  have HO4 := Lib.hid hown4
  clear g0 g1 g2
  have hq4 := (Blk.below_ hb hb4)
  have g0 : w4.cell? ⟨b, 0, none⟩ = some (.slice A0 n0 c0) := (hq4.cell 0).trans rfl
  have g1 : w4.cell? ⟨b, 1, none⟩ = some (.slice A1 n1 c1) := (hq4.cell 1).trans rfl
  have g2 : w4.cell? ⟨b, 2, none⟩ = some (.slice A2 n2 c2) := (hq4.cell 2).trans rfl
  clear hown4 hgr4
  go_wp2_with fail
  rw [rounds_succ]
  go_wp2_with fail
  go_ret
  exact ⟨_, _, _, rfl, Sl.of_own HO4.out, hb4⟩
end Go.Proofs.YtmejoococajikaaGreat

/- Words for rows of pairs (two cells each). -/
namespace Go.Proofs.YtmejoococajikaaGreat
open Go.RowKit

def cellsP (l : List (Int × Int)) : List Value := l.flatMap fun p => [.int .i64 p.1, .int .u64 p.2]
theorem cellsP_len (l : List (Int × Int)) : (cellsP l).length = l.length * 2 := by
  induction l with
  | nil => rfl
  | cons v t ih => simp only [cellsP, List.flatMap_cons, List.length_append, List.length_cons] at ih ⊢; rw [ih]; simp; omega
theorem cellsP_append (a b : List (Int × Int)) : cellsP (a ++ b) = cellsP a ++ cellsP b := by simp [cellsP]
theorem cellsP_get (l : List (Int × Int)) : ∀ j : Nat, j < l.length → (cellsP l)[j * 2]? = some (.int .i64 (l.getD j (0, 0)).1) ∧ (cellsP l)[j * 2 + 1]? = some (.int .u64 (l.getD j (0, 0)).2) := by
  induction l with
  | nil => intro j h; simp at h
  | cons v t ih =>
    intro j h
    cases j with
    | zero => exact ⟨by simp [cellsP], by simp [cellsP]⟩
    | succ j =>
      obtain ⟨h1, h2⟩ := ih j (by simpa using h)
      have e : cellsP (v :: t) = [.int .i64 v.1, .int .u64 v.2] ++ cellsP t := by simp [cellsP]
      rw [e]
      refine ⟨?_, ?_⟩
      · rw [List.getElem?_append_right (by simp; omega), show (j + 1) * 2 - [Value.int .i64 v.1, .int .u64 v.2].length = j * 2 from by simp; omega]; simpa using h1
      · rw [List.getElem?_append_right (by simp; omega), show (j + 1) * 2 + 1 - [Value.int .i64 v.1, .int .u64 v.2].length = j * 2 + 1 from by simp; omega]; simpa using h2
theorem cellsP_one (l : List (Int × Int)) : ∀ u ∈ cellsP l, u.oneCell' = true := by
  intro u hu
  obtain ⟨v, _, hv⟩ := List.mem_flatMap.1 hu
  simp at hv
  rcases hv with rfl | rfl <;> rfl
/-- A slice of n pairs that reads as l. -/
def Rp (w : World) (A : Option Addr) (n : Nat) (l : List (Int × Int)) : Prop := Rd w 2 A n (cellsP l)
theorem Rp.len {w : World} {A : Option Addr} {n : Nat} {l : List (Int × Int)} (h : Rp w A n l) : l.length = n := by have := h.1; rw [cellsP_len] at this; omega
theorem Rp.of_own {w : World} {A : Option Addr} {n : Nat} {l : List (Int × Int)} {base : Nat} {e : TypeId} {c : Nat} (h : w.ownsRow base e 2 (.slice A n c) n (cellsP l)) : Rp w A n l := Rd.of_own h
theorem Rp.at_ {w : World} {A : Option Addr} {n : Nat} {l : List (Int × Int)} (h : Rp w A n l) {j : Nat} (hj : j < n) : ∃ b o, A = some ⟨b, o, none⟩ ∧ b < w.heap.size ∧ w.cell? ⟨b, o + j * 2, none⟩ = some (.int .i64 (l.getD j (0, 0)).1) ∧ w.cell? ⟨b, o + j * 2 + 1, none⟩ = some (.int .u64 (l.getD j (0, 0)).2) := by
  obtain ⟨b, o, e, hb, hc⟩ := h.2 (by omega)
  obtain ⟨h1, h2⟩ := cellsP_get l j (by rw [h.len]; exact hj)
  exact ⟨b, o, e, hb, hc _ _ h1, by rw [Nat.add_assoc]; exact hc _ _ h2⟩
theorem Rp.one_at {w : World} {x y : Int} {t : TypeId} {g : Nat} (h : g = w.heap.size) : Rp (w.alloc (.cells #[.int .i64 x, .int .u64 y] t)) (some ⟨g, 0, none⟩) 1 [(x, y)] := by
  subst h
  refine ⟨rfl, fun _ => ⟨_, 0, rfl, by simp, fun j u hu => ?_⟩⟩
  rw [(Blk.new w t _).cell, Nat.zero_add]
  simpa [cellsP] using hu
theorem info_pair : (Tryz.prog.info? 155).map (fun i => (i.zero, i.size, i.bytes)) = some (some (.agg #[.int .i64 0, .int .u64 0]), 2, 16) := by kernel_rfl
/-- append onto a row of the call's own, pairs; where the new slice lies. -/
theorem wpList_pairx (w : World) {ops : Array Oper} {rest : List Oper} {o : Oper} {a : Act} {Q : Exit → Act → World → Prop} (hgd : o.guard = none) (s x : Operand)
    (ho : o.op = .call { callee := .builtin .append, args := #[s, x], argTypes := #[149, 149] })
    (base : Nat) (v : Value) (n : Nat) (l : List (Int × Int)) (hs : a.eval s = v) (hown : w.ownsRow base 155 2 v n (cellsP l))
    (A : Option Addr) (m c : Nat) (l2 : List (Int × Int)) (hx : a.eval x = .slice A m c) (hr : Rp w A m l2) (hb : n + m ≤ 2000000000) (hbase : base ≤ w.heap.size)
    (h : ∀ G cap w', w'.ownsRow base 155 2 (.slice G (n + m) cap) (n + m) (cellsP (l ++ l2)) → w.grownBy w' v.ownBlock → n + m ≤ cap → ((Value.slice G (n + m) cap).ownBlock = v.ownBlock ∨ (Value.slice G (n + m) cap).ownBlock = some w.heap.size) → wpList Tryz.prog ops Q rest (a.put o.dst (.slice G (n + m) cap)) w') : wpList Tryz.prog ops Q (o :: rest) a w := by
  obtain ⟨i0, hi, hz0, hz1, hz2⟩ := info_parts info_pair
  refine wpList_append_any w hgd s x 149 ho base 155 i0 _ 2 16 Tryz.underlying149 hi hz0 hz1 hz2 rfl (by decide) v n _ hs hown A m c _ hx hr (cellsP_one _) (by unfold maxLen; omega) (by omega) hbase ?_
  intro G cap w' h1 h2 h3 h4
  rw [← cellsP_append] at h1
  exact h G cap w' h1 h2 h4 h3
end Go.Proofs.YtmejoococajikaaGreat

/- slices.Concat of 5 slices of bytes. -/
namespace Go.Proofs.YtmejoococajikaaGreat
open Go.RowKit

set_option maxRecDepth 100000 in
set_option maxHeartbeats 2000000 in
theorem Concat5_any (w : World) (b : Nat) (A0 : Option Addr) (n0 c0 : Nat) (l0 : List Int) (A1 : Option Addr) (n1 c1 : Nat) (l1 : List Int) (A2 : Option Addr) (n2 c2 : Nat) (l2 : List Int) (A3 : Option Addr) (n3 c3 : Nat) (l3 : List Int) (A4 : Option Addr) (n4 c4 : Nat) (l4 : List Int)
    (hb : Blk w b 38 #[.slice A0 n0 c0, .slice A1 n1 c1, .slice A2 n2 c2, .slice A3 n3 c3, .slice A4 n4 c4]) (h0 : Ri w .u8 A0 n0 l0) (h1 : Ri w .u8 A1 n1 l1) (h2 : Ri w .u8 A2 n2 l2) (h3 : Ri w .u8 A3 n3 l3) (h4 : Ri w .u8 A4 n4 l4) (m0 : n0 ≤ 1000000) (m1 : n1 ≤ 1000000) (m2 : n2 ≤ 1000000) (m3 : n3 ≤ 1000000) (m4 : n4 ≤ 1000000) :
    Calls Tryz.prog 121 #[.slice (some ⟨b, 0, none⟩) 5 5] w (BytesOut w (l0 ++ l1 ++ l2 ++ l3 ++ l4)) := by
  have H0 := Lib.hid h0
  have H1 := Lib.hid h1
  have H2 := Lib.hid h2
  have H3 := Lib.hid h3
  have H4 := Lib.hid h4
  have hlt := hb.lt
  have g0 : w.cell? ⟨b, 0, none⟩ = some (.slice A0 n0 c0) := (hb.cell 0).trans rfl
  have g1 : w.cell? ⟨b, 1, none⟩ = some (.slice A1 n1 c1) := (hb.cell 1).trans rfl
  have g2 : w.cell? ⟨b, 2, none⟩ = some (.slice A2 n2 c2) := (hb.cell 2).trans rfl
  have g3 : w.cell? ⟨b, 3, none⟩ = some (.slice A3 n3 c3) := (hb.cell 3).trans rfl
  have g4 : w.cell? ⟨b, 4, none⟩ = some (.slice A4 n4 c4) := (hb.cell 4).trans rfl
  clear h0 h1 h2 h3 h4
  go_enter Tryz.func121, Tryz.ntmps121
  go_wp2_with fail
  refine wp_loop_rounds 6 ?_
  rw [rounds_succ]
  go_wp2_with fail
  rw [rounds_succ]
  go_wp2_with fail
  rw [rounds_succ]
  go_wp2_with fail
  rw [rounds_succ]
  go_wp2_with fail
  rw [rounds_succ]
  go_wp2_with fail
  rw [rounds_succ]
  go_wp2_with fail
  have hG := Grow_any w (n0 + n1 + n2 + n3 + n4) (by omega)
  simp only [Int.natCast_add] at hG
  refine hG.mono ?_; rintro e w1 ⟨G, c, rfl, hc, hown, hb1⟩
  clear hG g0 g1 g2 g3 g4
  have hq0 := (Blk.below_ hb hb1)
  have g0 : w1.cell? ⟨b, 0, none⟩ = some (.slice A0 n0 c0) := (hq0.cell 0).trans rfl
  have g1 : w1.cell? ⟨b, 1, none⟩ = some (.slice A1 n1 c1) := (hq0.cell 1).trans rfl
  have g2 : w1.cell? ⟨b, 2, none⟩ = some (.slice A2 n2 c2) := (hq0.cell 2).trans rfl
  have g3 : w1.cell? ⟨b, 3, none⟩ = some (.slice A3 n3 c3) := (hq0.cell 3).trans rfl
  have g4 : w1.cell? ⟨b, 4, none⟩ = some (.slice A4 n4 c4) := (hq0.cell 4).trans rfl
  go_wp2_with fail
  refine wp_loop_rounds 6 ?_
  rw [rounds_succ]
  go_wp2_with (at_builtin; refine wpList_u8 _ rfl (.tmp 31) (.tmp 32) rfl w.heap.size _ (0) ([]) rfl hown.out _ _ _ l0 rfl (H0.out.below hb1) (by omega) hb1.size ?_; intro G2 e2 w2 hown2 hgr2 _)
  rw [Nat.zero_add, List.nil_append] at hown2
  have hb2 := push0 hb1 (Nat.le_refl _) hown.out hgr2
  have HO2 := Lib.hid hown2
  clear g0 g1 g2 g3 g4
  have hq2 := (Blk.below_ hb hb2)
  have g0 : w2.cell? ⟨b, 0, none⟩ = some (.slice A0 n0 c0) := (hq2.cell 0).trans rfl
  have g1 : w2.cell? ⟨b, 1, none⟩ = some (.slice A1 n1 c1) := (hq2.cell 1).trans rfl
  have g2 : w2.cell? ⟨b, 2, none⟩ = some (.slice A2 n2 c2) := (hq2.cell 2).trans rfl
  have g3 : w2.cell? ⟨b, 3, none⟩ = some (.slice A3 n3 c3) := (hq2.cell 3).trans rfl
  have g4 : w2.cell? ⟨b, 4, none⟩ = some (.slice A4 n4 c4) := (hq2.cell 4).trans rfl
  clear hown2 hgr2
  go_wp2_with fail
  rw [rounds_succ]
  go_wp2_with (at_builtin; refine wpList_u8 _ rfl (.tmp 31) (.tmp 32) rfl w.heap.size _ (n0) (l0) rfl HO2.out _ _ _ l1 rfl (H1.out.below hb2) (by omega) hb2.size ?_; intro G3 e3 w3 hown3 hgr3 _)
  have hb3 := push0 hb2 (Nat.le_refl _) HO2.out hgr3
  have HO3 := Lib.hid hown3
  clear g0 g1 g2 g3 g4
  have hq3 := (Blk.below_ hb hb3)
  have g0 : w3.cell? ⟨b, 0, none⟩ = some (.slice A0 n0 c0) := (hq3.cell 0).trans rfl
  have g1 : w3.cell? ⟨b, 1, none⟩ = some (.slice A1 n1 c1) := (hq3.cell 1).trans rfl
  have g2 : w3.cell? ⟨b, 2, none⟩ = some (.slice A2 n2 c2) := (hq3.cell 2).trans rfl
  have g3 : w3.cell? ⟨b, 3, none⟩ = some (.slice A3 n3 c3) := (hq3.cell 3).trans rfl
  have g4 : w3.cell? ⟨b, 4, none⟩ = some (.slice A4 n4 c4) := (hq3.cell 4).trans rfl
  clear hown3 hgr3
  go_wp2_with fail
  rw [rounds_succ]
  go_wp2_with (at_builtin; refine wpList_u8 _ rfl (.tmp 31) (.tmp 32) rfl w.heap.size _ (n0 + n1) (l0 ++ l1) rfl HO3.out _ _ _ l2 rfl (H2.out.below hb3) (by omega) hb3.size ?_; intro G4 e4 w4 hown4 hgr4 _)
  have hb4 := push0 hb3 (Nat.le_refl _) HO3.out hgr4
  have HO4 := Lib.hid hown4
  clear g0 g1 g2 g3 g4
  have hq4 := (Blk.below_ hb hb4)
  have g0 : w4.cell? ⟨b, 0, none⟩ = some (.slice A0 n0 c0) := (hq4.cell 0).trans rfl
  have g1 : w4.cell? ⟨b, 1, none⟩ = some (.slice A1 n1 c1) := (hq4.cell 1).trans rfl
  have g2 : w4.cell? ⟨b, 2, none⟩ = some (.slice A2 n2 c2) := (hq4.cell 2).trans rfl
  have g3 : w4.cell? ⟨b, 3, none⟩ = some (.slice A3 n3 c3) := (hq4.cell 3).trans rfl
  have g4 : w4.cell? ⟨b, 4, none⟩ = some (.slice A4 n4 c4) := (hq4.cell 4).trans rfl
  clear hown4 hgr4
  go_wp2_with fail
  rw [rounds_succ]
  go_wp2_with (at_builtin; refine wpList_u8 _ rfl (.tmp 31) (.tmp 32) rfl w.heap.size _ (n0 + n1 + n2) (l0 ++ l1 ++ l2) rfl HO4.out _ _ _ l3 rfl (H3.out.below hb4) (by omega) hb4.size ?_; intro G5 e5 w5 hown5 hgr5 _)
  have hb5 := push0 hb4 (Nat.le_refl _) HO4.out hgr5
  have HO5 := Lib.hid hown5
  clear g0 g1 g2 g3 g4
  have hq5 := (Blk.below_ hb hb5)
  have g0 : w5.cell? ⟨b, 0, none⟩ = some (.slice A0 n0 c0) := (hq5.cell 0).trans rfl
  have g1 : w5.cell? ⟨b, 1, none⟩ = some (.slice A1 n1 c1) := (hq5.cell 1).trans rfl
  have g2 : w5.cell? ⟨b, 2, none⟩ = some (.slice A2 n2 c2) := (hq5.cell 2).trans rfl
  have g3 : w5.cell? ⟨b, 3, none⟩ = some (.slice A3 n3 c3) := (hq5.cell 3).trans rfl
  have g4 : w5.cell? ⟨b, 4, none⟩ = some (.slice A4 n4 c4) := (hq5.cell 4).trans rfl
  clear hown5 hgr5
  go_wp2_with fail
  rw [rounds_succ]
  go_wp2_with (at_builtin; refine wpList_u8 _ rfl (.tmp 31) (.tmp 32) rfl w.heap.size _ (n0 + n1 + n2 + n3) (l0 ++ l1 ++ l2 ++ l3) rfl HO5.out _ _ _ l4 rfl (H4.out.below hb5) (by omega) hb5.size ?_; intro G6 e6 w6 hown6 hgr6 _)
  have hb6 := push0 hb5 (Nat.le_refl _) HO5.out hgr6
  have HO6 := Lib.hid hown6
  clear g0 g1 g2 g3 g4
  have hq6 := (Blk.below_ hb hb6)
  have g0 : w6.cell? ⟨b, 0, none⟩ = some (.slice A0 n0 c0) := (hq6.cell 0).trans rfl
  have g1 : w6.cell? ⟨b, 1, none⟩ = some (.slice A1 n1 c1) := (hq6.cell 1).trans rfl
  have g2 : w6.cell? ⟨b, 2, none⟩ = some (.slice A2 n2 c2) := (hq6.cell 2).trans rfl
  have g3 : w6.cell? ⟨b, 3, none⟩ = some (.slice A3 n3 c3) := (hq6.cell 3).trans rfl
  have g4 : w6.cell? ⟨b, 4, none⟩ = some (.slice A4 n4 c4) := (hq6.cell 4).trans rfl
  clear hown6 hgr6
  go_wp2_with fail
  rw [rounds_succ]
  go_wp2_with fail
  go_ret
  exact ⟨_, _, _, rfl, Sl.of_own HO6.out, hb6⟩
end Go.Proofs.YtmejoococajikaaGreat

/- math/bits.Mul by one; a row that is overwritten. -/
namespace Go.Proofs.YtmejoococajikaaGreat
open Go.RowKit

theorem and32 (n : Nat) (h : n < 4294967296) : bits BinOp.and IntKind.u64 (n : Int) 4294967295 = n := by
  rw [show (4294967295 : Int) = ((2 ^ 32 - 1 : Nat) : Int) from rfl, u64_and_nat _ _ (by omega) (by decide), Nat.and_two_pow_sub_one_eq_mod, Nat.mod_eq_of_lt h]
set_option maxHeartbeats 400000 in
theorem Mul64_one (n : Nat) (hn : n ≤ 1000000) (w : World) :
    Calls Tryz.prog 171 #[.int .u64 1, .int .u64 n] w fun e w' => e = .returned (.tuple #[.int .u64 0, .int .u64 n]) ∧ w = w' := by
  have h1 := and32 n (by omega)
  have h2 : (n : Int) / 4294967296 = 0 := by omega
  have h3 : bits BinOp.and IntKind.u64 1 4294967295 = 1 := by decide
  have h4 : bits BinOp.and IntKind.u64 0 4294967295 = 0 := by decide
  go_enter Tryz.func171, Tryz.ntmps171
  go_wp2_with fail
  go_ret2
  exact ⟨by simp, rfl⟩
set_option maxHeartbeats 400000 in
theorem Mul_one (n : Nat) (hn : n ≤ 1000000) (w : World) :
    Calls Tryz.prog 160 #[.int .u64 1, .int .u64 n] w fun e w' => e = .returned (.tuple #[.int .u64 0, .int .u64 n]) ∧ w = w' := by
  go_enter Tryz.func160, Tryz.ntmps160
  go_wp2_with fail
  refine (Mul64_one _ hn _).mono ?_; rintro e w' ⟨rfl, rfl⟩
  go_wp2_with fail
  go_ret2
  exact ⟨rfl, rfl⟩
theorem splice_get {cur : List Value} {q m : Nat} {x : Value} (hq : q + m ≤ cur.length) (h : ∀ j, j < q → cur[j]? = some x) (j : Nat) (hj : j < q + m) : (splice cur q (List.replicate m x))[j]? = some x := by
  unfold splice
  rcases Nat.lt_or_ge j q with h1 | h1
  · rw [List.getElem?_append_left (by rw [List.length_take]; omega), List.getElem?_take_of_lt h1]
    exact h j h1
  · rw [List.getElem?_append_right (by rw [List.length_take]; omega), List.getElem?_append_left (by rw [List.length_replicate, List.length_take]; omega), List.getElem?_replicate, if_pos (by rw [List.length_take]; omega)]
end Go.Proofs.YtmejoococajikaaGreat

/- slices.Repeat of one element of type uint64. -/
namespace Go.Proofs.YtmejoococajikaaGreat
open Go.RowKit

def RepWU (w0 wr : World) (M q : Nat) (c : Int) : Prop :=
  ∃ cur : List Value, wr.heap[w0.heap.size]? = some (.cells cur.toArray 109 (0, 0)) ∧ cur.length = M ∧ (∀ j, j < q → cur[j]? = some (.int .u64 c)) ∧ Below w0.heap.size w0 wr
theorem RepWU.ri {w0 wr : World} {M n : Nat} {c : Int} (h : RepWU w0 wr M n c) (cap : Nat) (hn : n ≤ cap ∧ cap ≤ 9223372036854775807) : Sl wr .u64 (some ⟨w0.heap.size, 0, none⟩) n cap (List.replicate n c) := by
  obtain ⟨cur, h1, h2, h3, h4⟩ := h
  refine ⟨⟨by simp, fun _ => ⟨_, 0, rfl, (Array.getElem?_eq_some_iff.1 h1).1, fun j u hu => ?_⟩⟩, hn⟩
  rw [List.map_replicate, List.getElem?_replicate] at hu
  split at hu
  · have h5 := h3 j (by omega)
    have h6 := cell_of_row wr w0.heap.size j cur.toArray _ _ h1
    rw [Nat.zero_add, h6]
    simpa [h5] using hu
  · cases hu
theorem RepWU_src {wr : World} {g q m : Nat} {t : TypeId} {cur : List Value} {c : Int} (h1 : wr.heap[g]? = some (.cells cur.toArray t (0, 0))) (h3 : ∀ j, j < q → cur[j]? = some (.int .u64 c)) (hm : m ≤ q) :
    ∀ j v, (List.replicate m (Value.int .u64 c))[j]? = some v → wr.drew.cell? ((⟨g, 0, none⟩ : Addr).add j) = some v := by
  intro j v hv
  rw [List.getElem?_replicate] at hv
  split at hv
  · rw [add_none, Nat.zero_add]
    have h6 := cell_of_row wr g j cur.toArray _ _ h1
    have h5 := h3 j (by omega)
    show wr.cell? _ = _
    rw [h6]
    simpa [h5] using hv
  · cases hv
theorem one_repU (m : Nat) (c : Int) : ∀ v ∈ List.replicate m (Value.int .u64 c), v.oneCell' = true := by
  intro v hv
  rw [List.eq_of_mem_replicate hv]; rfl
def RepOutU (w : World) (l : List Int) (e : Ending) (w' : World) : Prop :=
  ∃ G n c, e = .returned (.slice G n c) ∧ Sl w' .u64 G n c l ∧ Below w.heap.size w w'

set_option maxRecDepth 100000 in
set_option maxHeartbeats 1000000 in
theorem RepeatU_any (w : World) (A : Option Addr) (cap : Nat) (c : Int) (hr : Ri w .u64 A 1 [c]) (n : Nat) (h1 : 1 ≤ n) (hn : n ≤ 100000) :
    Calls Tryz.prog 168 #[.slice A 1 cap, .int .i64 n] w (RepOutU w (List.replicate n c)) := by
  have HR := Lib.hid hr; clear hr
  have hmk := fun W => Go.run_make_row' (P := Tryz.prog) 89 109 (.int .u64 0) 8 Tryz.underlying89 info_u64 rfl .i64 .i64 n (by omega) (by omega) W
  go_enter Tryz.func168, Tryz.ntmps168
  go_wp2_with fail
  refine (Mul_one _ (by omega) _).mono ?_; rintro e w' ⟨rfl, rfl⟩
  obtain ⟨b, o, hA, hb, hcell⟩ := HR.out.all (by omega)
  subst hA
  have hcell0 := hcell 0 (by omega)
  rw [Nat.add_zero] at hcell0
  have hbe : b ≠ w.heap.size := by omega
  go_wp2_with (with_reducible refine wpList_copy_splice rfl (.tmp 31) (.tmp 32) 89 89 rfl 109 Tryz.underlying89 (by kernel_rfl) (some ⟨w.heap.size, 0, none⟩) (some ⟨b, o, none⟩) n n 1 cap rfl rfl w.heap.size 0 (madeCells #[.int .u64 0] n).toList 109 ?c1 [(.int .u64 c)] ?c2 ?c3 ?c4 ?c5 w.heap.size w ?c6 (Nat.le_refl _) ?_)
  case c1 => rw [heap_alloc_new]
  case c2 => exact (Nat.min_eq_left h1).symm
  case c3 =>
    intro j v hv
    have hj : j = 0 := by
      rcases Nat.eq_zero_or_pos j with h | h
      · exact h
      · rw [List.getElem?_eq_none (by simp; omega)] at hv; cases hv
    subst hj
    simp at hv
    subst hv
    exact hcell0
  case c4 => simp [size_madeCells]; omega
  case c5 => simp [Value.oneCell']
  case c6 => exact (Below.refl _ _).alloc (Nat.le_refl _) _
  intro w1 hg1 hb1
  have hrw : Hid (RepWU w w1 n 1 c) := by
    refine ⟨_, hg1, by rw [length_splice _ _ _ (by simp [size_madeCells]; omega)]; simp [size_madeCells], fun j hj => ?_, hb1⟩
    exact splice_get (q := 0) (m := 1) (by simp [size_madeCells]; omega) (fun j hj => absurd hj (by omega)) j (by omega)
  clear hcell hcell0 hg1 hb1 hmk
  go_wp2_with fail
  go_loopw [8] (fun bp wr => ∃ q : Nat, 1 ≤ q ∧ q ≤ n ∧ bp = .int .i64 q ∧ Hid (RepWU w wr n q c)) (fun bp _ => n - (intOf bp).toNat)
  case atStart => exact ⟨1, by omega, h1, rfl, hrw⟩
  case round =>
    obtain ⟨q, hq1, hq2, rfl, hrq⟩ := hrel
    by_cases hlt : q < n
    · obtain ⟨cur, k1, k2, k3, k4⟩ := hrq.out
      have K1 := Lib.hid k1; have K3 := Lib.hid k3; have K4 := Lib.hid k4
      obtain ⟨m, hm⟩ : ∃ m, m = Nat.min q (n - q) := ⟨_, rfl⟩
      have hm1 : 1 ≤ m := by rw [hm]; exact Nat.le_min.2 ⟨hq1, by omega⟩
      have hm2 : m ≤ n - q := by rw [hm]; exact Nat.min_le_right _ _
      have hm3 : m ≤ q := by rw [hm]; exact Nat.min_le_left _ _
      have HM := Lib.hid hm
      clear k1 k3 k4 hm
      have hnq : ¬ n = q := by omega
      have K1d : Hid (wr.drew.heap[w.heap.size]? = some (.cells cur.toArray 109 (0, 0))) := K1
      have K4d : Hid (Below w.heap.size w wr.drew) := K4.out.drew
      have hsz1 : (Tryz.prog.info? 109).map (·.size) = some 1 := by kernel_rfl
      have HSZ := Lib.hid hsz1; clear hsz1
      have hfit : q + (List.replicate m (Value.int .u64 c)).length ≤ cur.length := by rw [List.length_replicate]; omega
      have HSUM : Hid (IntKind.i64.wrap ((q : Int) + m) = ((q + m : Nat) : Int)) := (IntWalk.i64_in _ (by omega)).trans (by omega)
      have hq0 : (0 : Int) ≤ (q : Int) := by omega
      have hqn : (q : Int) ≤ (n : Int) := by omega
      go_wp2_with fail
      have hsum := HSUM.out
      go_region_law (with_reducible refine step_copy_splice rfl (.tmp 41) (.tmp 44) 89 89 rfl 109 Tryz.underlying89 HSZ.out (some ⟨w.heap.size, q, none⟩) (some ⟨w.heap.size, 0, none⟩) (n - q) (n - q) q n (by kernel_rfl) (by kernel_rfl) w.heap.size q cur 109 K1d.out (List.replicate m (.int .u64 c)) (by rw [List.length_replicate]; exact HM.out) (fun _ => ⟨rfl, _, rfl, RepWU_src K1.out K3.out hm3⟩) hfit (one_repU m c) w.heap.size w K4d.out (Nat.le_refl _) ?_; intro w4 hg4 hb4; have HG4 := Lib.hid hg4.out; have HB4 := Lib.hid hb4; clear hg4 hb4; rw [List.length_replicate])
      clear hsum
      simp only [List.getElem_toArray, List.getElem_cons_succ, List.getElem_cons_zero, Act.put, List.setIfInBounds_toArray, List.set_cons_succ, List.set_cons_zero]
      go_wp2_with fail
      go_roundw
      case rel => 
        refine ⟨q + m, by omega, by omega, by go_num, ?_⟩
        exact ⟨_, HG4.out, by rw [length_splice _ _ _ (by rw [List.length_replicate]; omega)]; exact k2, fun j hj => splice_get (by omega) K3.out j hj, HB4.out⟩
      case measure => simp [intOf] <;> omega
    · obtain rfl : q = n := by omega
      go_wp2_with fail
      go_ret
      obtain ⟨h1', h2'⟩ := hrq.out.ri q ⟨Nat.le_refl _, by omega⟩
      exact ⟨_, _, _, rfl, ⟨h1', h2'⟩, hrq.out.choose_spec.2.2.2⟩
end Go.Proofs.YtmejoococajikaaGreat

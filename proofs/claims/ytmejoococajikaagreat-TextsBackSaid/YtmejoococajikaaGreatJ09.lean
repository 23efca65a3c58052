/- Joined texts: Concat, Concat3, Concat5. Each has its own head line. No condition beyond those that its theorems state. -/
import Derived.Lib.AppendZerosOnto
import Derived.LoopN
import Derived.Test.YtmejoococajikaaGreatJ06
import Derived.Test.YtmejoococajikaaGreatJ08
set_option linter.unusedVariables false

/- slices.Grow on the nil slice of bytes, and slices.Concat of two slices of bytes. -/
namespace Go.Proofs.YtmejoococajikaaGreat
open Go.RowKit

def EmptyOut (w : World) (e : Ending) (w' : World) : Prop :=
  ∃ G c, e = .returned (.slice G 0 c) ∧ c ≤ 9223372036854775807 ∧ Hid (w'.ownsRow w.heap.size 5 1 (.slice G 0 c) 0 []) ∧ Below w.heap.size w w'

set_option maxRecDepth 100000 in
set_option maxHeartbeats 1000000 in
theorem Grow_any (w : World) (n : Nat) (hn : n ≤ 10000000) :
    Calls Tryz.prog 153 #[.slice none 0 0, .int .i64 n] w (EmptyOut w) := by
  rcases Nat.eq_zero_or_pos n with rfl | h0
  · go_enter Tryz.func153, Tryz.ntmps153
    go_wp2_with fail
    go_ret
    exact ⟨none, 0, rfl, by omega, ⟨rfl, .inl ⟨rfl, rfl⟩⟩, Below.refl _ _⟩
  · have hB : (Tryz.t5).bytes = 1 := by kernel_rfl
    have h1 : ¬ (281474976710656 < (n : Int) * ((Tryz.t5).bytes : Int)) := by rw [hB]; omega
    have h2 : ¬ (281474976710656 < Builtin.nextslicecap n 0 * (Tryz.t5).bytes) := by
      have := growslice_fits (need := n) (old := 0) (bytes := (Tryz.t5).bytes) h0 (by rw [hB]; omega)
      omega
    have h3 := grownCap_ge w n 0 5
    have h4 := grownCap_le_maxLen w n 0 5 (by unfold maxLen; omega)
    unfold grownCap at h3 h4
    unfold maxLen at h4
    clear hB
    go_enter Tryz.func153, Tryz.ntmps153
    go_wp2_with fail
    go_ret
    refine ⟨_, _, rfl, by omega, ⟨rfl, .inr ⟨w.heap.size, _, _, rfl, Nat.le_refl _, Blk.new w _ _, Nat.zero_le _, by unfold maxLen; omega, ?_, by simp⟩⟩, ?_⟩
    · simp [Builtin.zeroCells]; omega
    · exact ((Below.refl w.heap.size w).alloc (Nat.le_refl _) _).drew

set_option maxRecDepth 100000 in
set_option maxHeartbeats 1000000 in
theorem Concat_any (w : World) (b : Nat) (A : Option Addr) (n cA : Nat) (la : List Int) (B : Option Addr) (m cB : Nat) (lb : List Int)
    (hb : Blk w b 38 #[.slice A n cA, .slice B m cB]) (ha : Ri w .u8 A n la) (hr : Ri w .u8 B m lb) (hn : n ≤ 1000000) (hm : m ≤ 1000000) :
    Calls Tryz.prog 121 #[.slice (some ⟨b, 0, none⟩) 2 2] w (BytesOut w (la ++ lb)) := by
  have HA := Lib.hid ha; have HB := Lib.hid hr
  have hlt := hb.lt
  have g0 : w.cell? ⟨b, 0, none⟩ = some (.slice A n cA) := (hb.cell 0).trans rfl
  have g1 : w.cell? ⟨b, 1, none⟩ = some (.slice B m cB) := (hb.cell 1).trans rfl
  clear ha hr
  go_enter Tryz.func121, Tryz.ntmps121
  go_wp2_with fail
  refine wp_loop_rounds 3 ?_
  rw [rounds_succ]
  go_wp2_with fail
  rw [rounds_succ]
  go_wp2_with fail
  rw [rounds_succ]
  go_wp2_with fail
  have hG := Grow_any w (n + m) (by omega)
  rw [Int.natCast_add] at hG
  refine hG.mono ?_; rintro e w1 ⟨G, c, rfl, hc, hown, hb1⟩
  clear hG g0 g1
  have h0 := (Blk.below_ hb hb1)
  have g0 : w1.cell? ⟨b, 0, none⟩ = some (.slice A n cA) := (h0.cell 0).trans rfl
  have g1 : w1.cell? ⟨b, 1, none⟩ = some (.slice B m cB) := (h0.cell 1).trans rfl
  go_wp2_with fail
  refine wp_loop_rounds 3 ?_
  rw [rounds_succ]
  go_wp2_with (at_builtin; refine wpList_u8 _ rfl (.tmp 31) (.tmp 32) rfl w.heap.size _ 0 [] rfl hown.out _ _ _ la rfl (HA.out.below hb1) (by omega) hb1.size ?_; intro G2 c2 w2 hown2 hgr _)
  rw [Nat.zero_add, List.nil_append] at hown2
  have hb2 := push0 hb1 (Nat.le_refl _) hown.out hgr
  have HO2 := Lib.hid hown2
  have h0 := (Blk.below_ hb hb2)
  have g0 : w2.cell? ⟨b, 0, none⟩ = some (.slice A n cA) := (h0.cell 0).trans rfl
  have g1 : w2.cell? ⟨b, 1, none⟩ = some (.slice B m cB) := (h0.cell 1).trans rfl
  clear hown2 hgr
  go_wp2_with fail
  rw [rounds_succ]
  go_wp2_with (at_builtin; refine wpList_u8 _ rfl (.tmp 31) (.tmp 32) rfl w.heap.size _ n la rfl HO2.out _ _ _ lb rfl (HB.out.below hb2) (by omega) hb2.size ?_; intro G3 c3 w3 hown3 hgr _)
  have hb3 := push0 hb2 (Nat.le_refl _) HO2.out hgr
  have HO3 := Lib.hid hown3
  clear hown3 hgr
  go_wp2_with fail
  rw [rounds_succ]
  go_wp2_with fail
  go_ret
  exact ⟨_, _, _, rfl, Sl.of_own HO3.out, hb3⟩
end Go.Proofs.YtmejoococajikaaGreat

/- slices.Concat of 3 slices of bytes. -/
namespace Go.Proofs.YtmejoococajikaaGreat
open Go.RowKit

set_option maxRecDepth 100000 in
set_option maxHeartbeats 2000000 in
theorem Concat3_any (w : World) (b : Nat) (A0 : Option Addr) (n0 c0 : Nat) (l0 : List Int) (A1 : Option Addr) (n1 c1 : Nat) (l1 : List Int) (A2 : Option Addr) (n2 c2 : Nat) (l2 : List Int)
    (hb : Blk w b 38 #[.slice A0 n0 c0, .slice A1 n1 c1, .slice A2 n2 c2]) (h0 : Ri w .u8 A0 n0 l0) (h1 : Ri w .u8 A1 n1 l1) (h2 : Ri w .u8 A2 n2 l2) (m0 : n0 ≤ 1000000) (m1 : n1 ≤ 1000000) (m2 : n2 ≤ 1000000) :
    Calls Tryz.prog 121 #[.slice (some ⟨b, 0, none⟩) 3 3] w (BytesOut w (l0 ++ l1 ++ l2)) := by
  have H0 := Lib.hid h0
  have H1 := Lib.hid h1
  have H2 := Lib.hid h2
  have hlt := hb.lt
  have g0 : w.cell? ⟨b, 0, none⟩ = some (.slice A0 n0 c0) := (hb.cell 0).trans rfl
  have g1 : w.cell? ⟨b, 1, none⟩ = some (.slice A1 n1 c1) := (hb.cell 1).trans rfl
  have g2 : w.cell? ⟨b, 2, none⟩ = some (.slice A2 n2 c2) := (hb.cell 2).trans rfl
  clear h0 h1 h2
  go_enter Tryz.func121, Tryz.ntmps121
  go_wp2_with fail
  refine wp_loop_rounds 4 ?_
  rw [rounds_succ]
  go_wp2_with fail
  rw [rounds_succ]
  go_wp2_with fail
  rw [rounds_succ]
  go_wp2_with fail
  rw [rounds_succ]
  go_wp2_with fail
  have hG := Grow_any w (n0 + n1 + n2) (by omega)
  simp only [Int.natCast_add] at hG
  refine hG.mono ?_; rintro e w1 ⟨G, c, rfl, hc, hown, hb1⟩
  clear hG g0 g1 g2
  have hq0 := (Blk.below_ hb hb1)
  have g0 : w1.cell? ⟨b, 0, none⟩ = some (.slice A0 n0 c0) := (hq0.cell 0).trans rfl
  have g1 : w1.cell? ⟨b, 1, none⟩ = some (.slice A1 n1 c1) := (hq0.cell 1).trans rfl
  have g2 : w1.cell? ⟨b, 2, none⟩ = some (.slice A2 n2 c2) := (hq0.cell 2).trans rfl
  go_wp2_with fail
  refine wp_loop_rounds 4 ?_
  rw [rounds_succ]
  go_wp2_with (at_builtin; refine wpList_u8 _ rfl (.tmp 31) (.tmp 32) rfl w.heap.size _ (0) ([]) rfl hown.out _ _ _ l0 rfl (H0.out.below hb1) (by omega) hb1.size ?_; intro G2 e2 w2 hown2 hgr2 _)
  rw [Nat.zero_add, List.nil_append] at hown2
  have hb2 := push0 hb1 (Nat.le_refl _) hown.out hgr2
  have HO2 := Lib.hid hown2
  clear g0 g1 g2
  have hq2 := (Blk.below_ hb hb2)
  have g0 : w2.cell? ⟨b, 0, none⟩ = some (.slice A0 n0 c0) := (hq2.cell 0).trans rfl
  have g1 : w2.cell? ⟨b, 1, none⟩ = some (.slice A1 n1 c1) := (hq2.cell 1).trans rfl
  have g2 : w2.cell? ⟨b, 2, none⟩ = some (.slice A2 n2 c2) := (hq2.cell 2).trans rfl
  clear hown2 hgr2
  go_wp2_with fail
  rw [rounds_succ]
  go_wp2_with (at_builtin; refine wpList_u8 _ rfl (.tmp 31) (.tmp 32) rfl w.heap.size _ (n0) (l0) rfl HO2.out _ _ _ l1 rfl (H1.out.below hb2) (by omega) hb2.size ?_; intro G3 e3 w3 hown3 hgr3 _)
  have hb3 := push0 hb2 (Nat.le_refl _) HO2.out hgr3
  have HO3 := Lib.hid hown3
  clear g0 g1 g2
  have hq3 := (Blk.below_ hb hb3)
  have g0 : w3.cell? ⟨b, 0, none⟩ = some (.slice A0 n0 c0) := (hq3.cell 0).trans rfl
  have g1 : w3.cell? ⟨b, 1, none⟩ = some (.slice A1 n1 c1) := (hq3.cell 1).trans rfl
  have g2 : w3.cell? ⟨b, 2, none⟩ = some (.slice A2 n2 c2) := (hq3.cell 2).trans rfl
  clear hown3 hgr3
  go_wp2_with fail
  rw [rounds_succ]
  go_wp2_with (at_builtin; refine wpList_u8 _ rfl (.tmp 31) (.tmp 32) rfl w.heap.size _ (n0 + n1) (l0 ++ l1) rfl HO3.out _ _ _ l2 rfl (H2.out.below hb3) (by omega) hb3.size ?_; intro G4 e4 w4 hown4 hgr4 _)
  have hb4 := push0 hb3 (Nat.le_refl _) HO3.out hgr4
  have HO4 := Lib.hid hown4
  clear g0 g1 g2
  have hq4 := (Blk.below_ hb hb4)
  have g0 : w4.cell? ⟨b, 0, none⟩ = some (.slice A0 n0 c0) := (hq4.cell 0).trans rfl
  have g1 : w4.cell? ⟨b, 1, none⟩ = some (.slice A1 n1 c1) := (hq4.cell 1).trans rfl
  have g2 : w4.cell? ⟨b, 2, none⟩ = some (.slice A2 n2 c2) := (hq4.cell 2).trans rfl
  clear hown4 hgr4
  go_wp2_with fail
  rw [rounds_succ]
  go_wp2_with fail
  go_ret
  exact ⟨_, _, _, rfl, Sl.of_own HO4.out, hb4⟩
end Go.Proofs.YtmejoococajikaaGreat

/- slices.Concat of 5 slices of bytes. -/
namespace Go.Proofs.YtmejoococajikaaGreat
open Go.RowKit

set_option maxRecDepth 100000 in
set_option maxHeartbeats 2000000 in
theorem Concat5_any (w : World) (b : Nat) (A0 : Option Addr) (n0 c0 : Nat) (l0 : List Int) (A1 : Option Addr) (n1 c1 : Nat) (l1 : List Int) (A2 : Option Addr) (n2 c2 : Nat) (l2 : List Int) (A3 : Option Addr) (n3 c3 : Nat) (l3 : List Int) (A4 : Option Addr) (n4 c4 : Nat) (l4 : List Int)
    (hb : Blk w b 38 #[.slice A0 n0 c0, .slice A1 n1 c1, .slice A2 n2 c2, .slice A3 n3 c3, .slice A4 n4 c4]) (h0 : Ri w .u8 A0 n0 l0) (h1 : Ri w .u8 A1 n1 l1) (h2 : Ri w .u8 A2 n2 l2) (h3 : Ri w .u8 A3 n3 l3) (h4 : Ri w .u8 A4 n4 l4) (m0 : n0 ≤ 1000000) (m1 : n1 ≤ 1000000) (m2 : n2 ≤ 1000000) (m3 : n3 ≤ 1000000) (m4 : n4 ≤ 1000000) :
    Calls Tryz.prog 121 #[.slice (some ⟨b, 0, none⟩) 5 5] w (BytesOut w (l0 ++ l1 ++ l2 ++ l3 ++ l4)) := by
  have H0 := Lib.hid h0
  have H1 := Lib.hid h1
  have H2 := Lib.hid h2
  have H3 := Lib.hid h3
  have H4 := Lib.hid h4
  have hlt := hb.lt
  have g0 : w.cell? ⟨b, 0, none⟩ = some (.slice A0 n0 c0) := (hb.cell 0).trans rfl
  have g1 : w.cell? ⟨b, 1, none⟩ = some (.slice A1 n1 c1) := (hb.cell 1).trans rfl
  have g2 : w.cell? ⟨b, 2, none⟩ = some (.slice A2 n2 c2) := (hb.cell 2).trans rfl
  have g3 : w.cell? ⟨b, 3, none⟩ = some (.slice A3 n3 c3) := (hb.cell 3).trans rfl
  have g4 : w.cell? ⟨b, 4, none⟩ = some (.slice A4 n4 c4) := (hb.cell 4).trans rfl
  clear h0 h1 h2 h3 h4
  go_enter Tryz.func121, Tryz.ntmps121
  go_wp2_with fail
  refine wp_loop_rounds 6 ?_
  rw [rounds_succ]
  go_wp2_with fail
  rw [rounds_succ]
  go_wp2_with fail
  rw [rounds_succ]
  go_wp2_with fail
  rw [rounds_succ]
  go_wp2_with fail
  rw [rounds_succ]
  go_wp2_with fail
  rw [rounds_succ]
  go_wp2_with fail
  have hG := Grow_any w (n0 + n1 + n2 + n3 + n4) (by omega)
  simp only [Int.natCast_add] at hG
  refine hG.mono ?_; rintro e w1 ⟨G, c, rfl, hc, hown, hb1⟩
  clear hG g0 g1 g2 g3 g4
  have hq0 := (Blk.below_ hb hb1)
  have g0 : w1.cell? ⟨b, 0, none⟩ = some (.slice A0 n0 c0) := (hq0.cell 0).trans rfl
  have g1 : w1.cell? ⟨b, 1, none⟩ = some (.slice A1 n1 c1) := (hq0.cell 1).trans rfl
  have g2 : w1.cell? ⟨b, 2, none⟩ = some (.slice A2 n2 c2) := (hq0.cell 2).trans rfl
  have g3 : w1.cell? ⟨b, 3, none⟩ = some (.slice A3 n3 c3) := (hq0.cell 3).trans rfl
  have g4 : w1.cell? ⟨b, 4, none⟩ = some (.slice A4 n4 c4) := (hq0.cell 4).trans rfl
  go_wp2_with fail
  refine wp_loop_rounds 6 ?_
  rw [rounds_succ]
  go_wp2_with (at_builtin; refine wpList_u8 _ rfl (.tmp 31) (.tmp 32) rfl w.heap.size _ (0) ([]) rfl hown.out _ _ _ l0 rfl (H0.out.below hb1) (by omega) hb1.size ?_; intro G2 e2 w2 hown2 hgr2 _)
  rw [Nat.zero_add, List.nil_append] at hown2
  have hb2 := push0 hb1 (Nat.le_refl _) hown.out hgr2
  have HO2 := Lib.hid hown2
  clear g0 g1 g2 g3 g4
  have hq2 := (Blk.below_ hb hb2)
  have g0 : w2.cell? ⟨b, 0, none⟩ = some (.slice A0 n0 c0) := (hq2.cell 0).trans rfl
  have g1 : w2.cell? ⟨b, 1, none⟩ = some (.slice A1 n1 c1) := (hq2.cell 1).trans rfl
  have g2 : w2.cell? ⟨b, 2, none⟩ = some (.slice A2 n2 c2) := (hq2.cell 2).trans rfl
  have g3 : w2.cell? ⟨b, 3, none⟩ = some (.slice A3 n3 c3) := (hq2.cell 3).trans rfl
  have g4 : w2.cell? ⟨b, 4, none⟩ = some (.slice A4 n4 c4) := (hq2.cell 4).trans rfl
  clear hown2 hgr2
  go_wp2_with fail
  rw [rounds_succ]
  go_wp2_with (at_builtin; refine wpList_u8 _ rfl (.tmp 31) (.tmp 32) rfl w.heap.size _ (n0) (l0) rfl HO2.out _ _ _ l1 rfl (H1.out.below hb2) (by omega) hb2.size ?_; intro G3 e3 w3 hown3 hgr3 _)
  have hb3 := push0 hb2 (Nat.le_refl _) HO2.out hgr3
  have HO3 := Lib.hid hown3
  clear g0 g1 g2 g3 g4
  have hq3 := (Blk.below_ hb hb3)
  have g0 : w3.cell? ⟨b, 0, none⟩ = some (.slice A0 n0 c0) := (hq3.cell 0).trans rfl
  have g1 : w3.cell? ⟨b, 1, none⟩ = some (.slice A1 n1 c1) := (hq3.cell 1).trans rfl
  have g2 : w3.cell? ⟨b, 2, none⟩ = some (.slice A2 n2 c2) := (hq3.cell 2).trans rfl
  have g3 : w3.cell? ⟨b, 3, none⟩ = some (.slice A3 n3 c3) := (hq3.cell 3).trans rfl
  have g4 : w3.cell? ⟨b, 4, none⟩ = some (.slice A4 n4 c4) := (hq3.cell 4).trans rfl
  clear hown3 hgr3
  go_wp2_with fail
  rw [rounds_succ]
  go_wp2_with (at_builtin; refine wpList_u8 _ rfl (.tmp 31) (.tmp 32) rfl w.heap.size _ (n0 + n1) (l0 ++ l1) rfl HO3.out _ _ _ l2 rfl (H2.out.below hb3) (by omega) hb3.size ?_; intro G4 e4 w4 hown4 hgr4 _)
  have hb4 := push0 hb3 (Nat.le_refl _) HO3.out hgr4
  have HO4 := Lib.hid hown4
  clear g0 g1 g2 g3 g4
  have hq4 := (Blk.below_ hb hb4)
  have g0 : w4.cell? ⟨b, 0, none⟩ = some (.slice A0 n0 c0) := (hq4.cell 0).trans rfl
  have g1 : w4.cell? ⟨b, 1, none⟩ = some (.slice A1 n1 c1) := (hq4.cell 1).trans rfl
  have g2 : w4.cell? ⟨b, 2, none⟩ = some (.slice A2 n2 c2) := (hq4.cell 2).trans rfl
  have g3 : w4.cell? ⟨b, 3, none⟩ = some (.slice A3 n3 c3) := (hq4.cell 3).trans rfl
  have g4 : w4.cell? ⟨b, 4, none⟩ = some (.slice A4 n4 c4) := (hq4.cell 4).trans rfl
  clear hown4 hgr4
  go_wp2_with fail
  rw [rounds_succ]
  go_wp2_with (at_builtin; refine wpList_u8 _ rfl (.tmp 31) (.tmp 32) rfl w.heap.size _ (n0 + n1 + n2) (l0 ++ l1 ++ l2) rfl HO4.out _ _ _ l3 rfl (H3.out.below hb4) (by omega) hb4.size ?_; intro G5 e5 w5 hown5 hgr5 _)
  have hb5 := push0 hb4 (Nat.le_refl _) HO4.out hgr5
  have HO5 := Lib.hid hown5
  clear g0 g1 g2 g3 g4
  have hq5 := (Blk.below_ hb hb5)
  have g0 : w5.cell? ⟨b, 0, none⟩ = some (.slice A0 n0 c0) := (hq5.cell 0).trans rfl
  have g1 : w5.cell? ⟨b, 1, none⟩ = some (.slice A1 n1 c1) := (hq5.cell 1).trans rfl
  have g2 : w5.cell? ⟨b, 2, none⟩ = some (.slice A2 n2 c2) := (hq5.cell 2).trans rfl
  have g3 : w5.cell? ⟨b, 3, none⟩ = some (.slice A3 n3 c3) := (hq5.cell 3).trans rfl
  have g4 : w5.cell? ⟨b, 4, none⟩ = some (.slice A4 n4 c4) := (hq5.cell 4).trans rfl
  clear hown5 hgr5
  go_wp2_with fail
  rw [rounds_succ]
  go_wp2_with (at_builtin; refine wpList_u8 _ rfl (.tmp 31) (.tmp 32) rfl w.heap.size _ (n0 + n1 + n2 + n3) (l0 ++ l1 ++ l2 ++ l3) rfl HO5.out _ _ _ l4 rfl (H4.out.below hb5) (by omega) hb5.size ?_; intro G6 e6 w6 hown6 hgr6 _)
  have hb6 := push0 hb5 (Nat.le_refl _) HO5.out hgr6
  have HO6 := Lib.hid hown6
  clear g0 g1 g2 g3 g4
  have hq6 := (Blk.below_ hb hb6)
  have g0 : w6.cell? ⟨b, 0, none⟩ = some (.slice A0 n0 c0) := (hq6.cell 0).trans rfl
  have g1 : w6.cell? ⟨b, 1, none⟩ = some (.slice A1 n1 c1) := (hq6.cell 1).trans rfl
  have g2 : w6.cell? ⟨b, 2, none⟩ = some (.slice A2 n2 c2) := (hq6.cell 2).trans rfl
  have g3 : w6.cell? ⟨b, 3, none⟩ = some (.slice A3 n3 c3) := (hq6.cell 3).trans rfl
  have g4 : w6.cell? ⟨b, 4, none⟩ = some (.slice A4 n4 c4) := (hq6.cell 4).trans rfl
  clear hown6 hgr6
  go_wp2_with fail
  rw [rounds_succ]
  go_wp2_with fail
  go_ret
  exact ⟨_, _, _, rfl, Sl.of_own HO6.out, hb6⟩
end Go.Proofs.YtmejoococajikaaGreat

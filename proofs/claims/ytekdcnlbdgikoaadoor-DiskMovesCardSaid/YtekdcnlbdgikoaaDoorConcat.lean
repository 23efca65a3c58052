/- slices.Grow on the nil slice of bytes, and slices.Concat of two slices of bytes. -/
import Derived.Test.YtekdcnlbdgikoaaDoorRows2
import Derived.Test.YtekdcnlbdgikoaaDoorRefPack
import Derived.Lib.AppendZerosOnto
import Derived.LoopN
namespace Go.Proofs.YtekdcnlbdgikoaaDoor
open Go.RowKit

def EmptyOut (w : World) (e : Ending) (w' : World) : Prop :=
  ∃ G c, e = .returned (.slice G 0 c) ∧ c ≤ 9223372036854775807 ∧ Hid (w'.ownsRow w.heap.size 5 1 (.slice G 0 c) 0 []) ∧ Below w.heap.size w w'

set_option maxRecDepth 100000 in
set_option maxHeartbeats 1000000 in
theorem Grow_any (w : World) (n : Nat) (hn : n ≤ 10000000) :
    Calls Tryd.prog 53 #[.slice none 0 0, .int .i64 n] w (EmptyOut w) := by
  rcases Nat.eq_zero_or_pos n with rfl | h0
  · go_enter Tryd.func53, Tryd.ntmps53
    go_wp2_with fail
    go_ret
    exact ⟨none, 0, rfl, by omega, ⟨rfl, .inl ⟨rfl, rfl⟩⟩, Below.refl _ _⟩
  · have hB : (Tryd.t5).bytes = 1 := by kernel_rfl
    have h1 : ¬ (281474976710656 < (n : Int) * ((Tryd.t5).bytes : Int)) := by rw [hB]; omega
    have h2 : ¬ (281474976710656 < Builtin.nextslicecap n 0 * (Tryd.t5).bytes) := by
      have := growslice_fits (need := n) (old := 0) (bytes := (Tryd.t5).bytes) h0 (by rw [hB]; omega)
      omega
    have h3 := grownCap_ge w n 0 5
    have h4 := grownCap_le_maxLen w n 0 5 (by unfold maxLen; omega)
    unfold grownCap at h3 h4
    unfold maxLen at h4
    clear hB
    go_enter Tryd.func53, Tryd.ntmps53
    go_wp2_with fail
    go_ret
    refine ⟨_, _, rfl, by omega, ⟨rfl, .inr ⟨w.heap.size, _, _, rfl, Nat.le_refl _, Blk.new w _ _, Nat.zero_le _, by unfold maxLen; omega, ?_, by simp⟩⟩, ?_⟩
    · simp [Builtin.zeroCells]; omega
    · exact ((Below.refl w.heap.size w).alloc (Nat.le_refl _) _).drew

set_option maxRecDepth 100000 in
set_option maxHeartbeats 1000000 in
theorem Concat_any (w : World) (b : Nat) (A : Option Addr) (n cA : Nat) (la : List Int) (B : Option Addr) (m cB : Nat) (lb : List Int)
    (hb : Blk w b 22 #[.slice A n cA, .slice B m cB]) (ha : Ri w .u8 A n la) (hr : Ri w .u8 B m lb) (hn : n ≤ 1000000) (hm : m ≤ 1000000) :
    Calls Tryd.prog 28 #[.slice (some ⟨b, 0, none⟩) 2 2] w (BytesOut w (la ++ lb)) := by
  have HA := Lib.hid ha; have HB := Lib.hid hr
  have hlt := hb.lt
  have g0 : w.cell? ⟨b, 0, none⟩ = some (.slice A n cA) := (hb.cell 0).trans rfl
  have g1 : w.cell? ⟨b, 1, none⟩ = some (.slice B m cB) := (hb.cell 1).trans rfl
  clear ha hr
  go_enter Tryd.func28, Tryd.ntmps28
  go_wp2_with fail
  refine wp_loop_rounds 3 ?_
  rw [rounds_succ]
  go_wp2_with fail
  rw [rounds_succ]
  go_wp2_with fail
  rw [rounds_succ]
  go_wp2_with fail
  have hG := Grow_any w (n + m) (by omega)
  rw [Int.natCast_add] at hG
  refine hG.mono ?_; rintro e w1 ⟨G, c, rfl, hc, hown, hb1⟩
  clear hG g0 g1
  have h0 := (Blk.below_ hb hb1)
  have g0 : w1.cell? ⟨b, 0, none⟩ = some (.slice A n cA) := (h0.cell 0).trans rfl
  have g1 : w1.cell? ⟨b, 1, none⟩ = some (.slice B m cB) := (h0.cell 1).trans rfl
  go_wp2_with fail
  refine wp_loop_rounds 3 ?_
  rw [rounds_succ]
  go_wp2_with (at_builtin; refine wpList_u8 _ rfl (.tmp 31) (.tmp 32) rfl w.heap.size _ 0 [] rfl hown.out _ _ _ la rfl (HA.out.below hb1) (by omega) hb1.size ?_; intro G2 c2 w2 hown2 hgr _)
  rw [Nat.zero_add, List.nil_append] at hown2
  have hb2 := push0 hb1 (Nat.le_refl _) hown.out hgr
  have HO2 := Lib.hid hown2
  have h0 := (Blk.below_ hb hb2)
  have g0 : w2.cell? ⟨b, 0, none⟩ = some (.slice A n cA) := (h0.cell 0).trans rfl
  have g1 : w2.cell? ⟨b, 1, none⟩ = some (.slice B m cB) := (h0.cell 1).trans rfl
  clear hown2 hgr
  go_wp2_with fail
  rw [rounds_succ]
  go_wp2_with (at_builtin; refine wpList_u8 _ rfl (.tmp 31) (.tmp 32) rfl w.heap.size _ n la rfl HO2.out _ _ _ lb rfl (HB.out.below hb2) (by omega) hb2.size ?_; intro G3 c3 w3 hown3 hgr _)
  have hb3 := push0 hb2 (Nat.le_refl _) HO2.out hgr
  have HO3 := Lib.hid hown3
  clear hown3 hgr
  go_wp2_with fail
  rw [rounds_succ]
  go_wp2_with fail
  go_ret
  exact ⟨_, _, _, rfl, Sl.of_own HO3.out, hb3⟩
end Go.Proofs.YtekdcnlbdgikoaaDoor

/- Joined texts: RefPack, Concat, RefPackF. Each has its own head line. No condition beyond those that its theorems state. -/
import Derived.Lib.AppendZerosOnto
import Derived.LoopN
import Derived.Test.YtmejoococajikaaJ16
import Derived.Test.YtmejoococajikaaJ07
set_option linter.unusedVariables false

/- The reference of package bits: Size, Pack. -/
namespace Go.Proofs.Ytmejoococajikaa
open Go.RowKit

/-- The world while the reference packs. -/
def RefW (w0 wr : World) (N at_ X : Nat) : Prop :=
  Blk wr w0.heap.size 5 (bytesArr X N) ∧ Below w0.heap.size w0 wr ∧ X % 2 ^ (8 * N - at_) = 0

theorem and_bit (a : Nat) (h : a < 18446744073709551616) : bits BinOp.and IntKind.u64 (a : Int) 1 = ((a % 2 : Nat) : Int) := by
  rw [and_one_u64 _ (by omega) (by omega)]; rfl

theorem RefW.drew {w wi : World} {N p X : Nat} (h : Hid (RefW w wi N p X)) : Hid (RefW w wi.drew N p X) := ⟨h.out.1.drew, h.out.2.1.drew, h.out.2.2⟩
theorem shr128 (p : Nat) : (128 : Int) / 2 ^ (p % 8) = ((2 ^ (7 - p % 8) : Nat) : Int) := by
  have : p % 8 = 0 ∨ p % 8 = 1 ∨ p % 8 = 2 ∨ p % 8 = 3 ∨ p % 8 = 4 ∨ p % 8 = 5 ∨ p % 8 = 6 ∨ p % 8 = 7 := by omega
  rcases this with h | h | h | h | h | h | h | h <;> rw [h] <;> decide
theorem RefW_bit {w wi : World} {N a0 k V y s p : Nat} (hs : s + 1 ≤ k) (hak : a0 + k ≤ 8 * N) (hp : p = a0 + (k - (s + 1))) (hb : y / 2 ^ s % 2 = 1)
    (hin : RefW w wi N p ((V * 2 ^ (k - (s + 1)) + y / 2 ^ (s + 1)) * 2 ^ (8 * N - p))) :
    ∃ d : Nat, d < 256 ∧ wi.cell? ⟨w.heap.size, p / 8, none⟩ = some (.int .u8 d) ∧ wi.frozen? ⟨w.heap.size, p / 8, none⟩ = false ∧ (d : Int) + 128 / 2 ^ (p % 8) < 256 ∧ 0 < (128 : Int) / 2 ^ (p % 8) ∧
      RefW w (wi.setCell ⟨w.heap.size, p / 8, none⟩ (.int .u8 ((d : Int) + 128 / 2 ^ (p % 8)))) N (a0 + (k - s)) ((V * 2 ^ (k - s) + y / 2 ^ s) * 2 ^ (8 * N - (a0 + (k - s)))) := by
  obtain ⟨h1, h2, h3⟩ := hin
  obtain ⟨_, e2, e3⟩ := put_fits _ N p 1 1 (by omega) (by omega) h3 (by omega) (by omega)
  simp only [Nat.one_mul] at e2 e3
  have hj : p / 8 < N := by omega
  refine ⟨_, byteAt_lt _ N (p / 8), (h1.cell _).trans (bytesArr_get _ N _ hj), h1.frozen _, ?_, ?_, ?_, ?_, ?_⟩
  · rw [shr128]
    rw [show 8 - p % 8 - 1 = 7 - p % 8 from by omega] at e2
    omega
  · rw [shr128]
    have := Nat.two_pow_pos (7 - p % 8)
    omega
  · rw [shr128]
    have h := h1.set_ (p / 8) (.int .u8 ((byteAt ((V * 2 ^ (k - (s + 1)) + y / 2 ^ (s + 1)) * 2 ^ (8 * N - p)) N (p / 8) + 2 ^ (8 - p % 8 - 1) : Nat) : Int))
    rw [bytesArr_add _ N _ _ hj e2, ← e3] at h
    have hn := pack_num V y k s 1 (8 * N - p - 1) hs
    rw [hb, Nat.one_mul, show 8 * N - p - 1 + 1 = 8 * N - p from by omega] at hn
    rw [hn, show 8 - p % 8 - 1 = 7 - p % 8 from by omega, show 8 * N - p - 1 = 8 * N - (a0 + (k - s)) from by omega] at h
    exact h
  · exact h2.setCell (Nat.le_refl _) _
  · exact Nat.mul_mod_left _ _
theorem RefW_zero {w wi : World} {N a0 k V y s p : Nat} (hs : s + 1 ≤ k) (hak : a0 + k ≤ 8 * N) (hp : p = a0 + (k - (s + 1))) (hb : y / 2 ^ s % 2 = 0)
    (hin : RefW w wi N p ((V * 2 ^ (k - (s + 1)) + y / 2 ^ (s + 1)) * 2 ^ (8 * N - p))) :
      RefW w wi N (a0 + (k - s)) ((V * 2 ^ (k - s) + y / 2 ^ s) * 2 ^ (8 * N - (a0 + (k - s)))) := by
  obtain ⟨h1, h2, h3⟩ := hin
  have hn := pack_num V y k s 1 (8 * N - p - 1) hs
  rw [hb, Nat.zero_mul, Nat.add_zero, show 8 * N - p - 1 + 1 = 8 * N - p from by omega, show 8 * N - p - 1 = 8 * N - (a0 + (k - s)) from by omega] at hn
  rw [hn] at h1
  exact ⟨h1, h2, Nat.mul_mod_left _ _⟩

end Go.Proofs.Ytmejoococajikaa

/- slices.Grow on the nil slice of bytes, and slices.Concat of two slices of bytes. -/
namespace Go.Proofs.Ytmejoococajikaa
open Go.RowKit

def EmptyOut (w : World) (e : Ending) (w' : World) : Prop :=
  ∃ G c, e = .returned (.slice G 0 c) ∧ c ≤ 9223372036854775807 ∧ Hid (w'.ownsRow w.heap.size 5 1 (.slice G 0 c) 0 []) ∧ Below w.heap.size w w'

set_option maxRecDepth 100000 in
set_option maxHeartbeats 1000000 in
theorem Grow_any (w : World) (n : Nat) (hn : n ≤ 10000000) :
    Calls Try.prog 71 #[.slice none 0 0, .int .i64 n] w (EmptyOut w) := by
  rcases Nat.eq_zero_or_pos n with rfl | h0
  · go_enter Try.func71, Try.ntmps71
    go_wp2_with fail
    go_ret
    exact ⟨none, 0, rfl, by omega, ⟨rfl, .inl ⟨rfl, rfl⟩⟩, Below.refl _ _⟩
  · have hB : (Try.t5).bytes = 1 := by kernel_rfl
    have h1 : ¬ (281474976710656 < (n : Int) * ((Try.t5).bytes : Int)) := by rw [hB]; omega
    have h2 : ¬ (281474976710656 < Builtin.nextslicecap n 0 * (Try.t5).bytes) := by
      have := growslice_fits (need := n) (old := 0) (bytes := (Try.t5).bytes) h0 (by rw [hB]; omega)
      omega
    have h3 := grownCap_ge w n 0 5
    have h4 := grownCap_le_maxLen w n 0 5 (by unfold maxLen; omega)
    unfold grownCap at h3 h4
    unfold maxLen at h4
    clear hB
    go_enter Try.func71, Try.ntmps71
    go_wp2_with fail
    go_ret
    refine ⟨_, _, rfl, by omega, ⟨rfl, .inr ⟨w.heap.size, _, _, rfl, Nat.le_refl _, Blk.new w _ _, Nat.zero_le _, by unfold maxLen; omega, ?_, by simp⟩⟩, ?_⟩
    · simp [Builtin.zeroCells]; omega
    · exact ((Below.refl w.heap.size w).alloc (Nat.le_refl _) _).drew

set_option maxRecDepth 100000 in
set_option maxHeartbeats 1000000 in
theorem Concat_any (w : World) (b : Nat) (A : Option Addr) (n cA : Nat) (la : List Int) (B : Option Addr) (m cB : Nat) (lb : List Int)
    (hb : Blk w b 49 #[.slice A n cA, .slice B m cB]) (ha : Ri w .u8 A n la) (hr : Ri w .u8 B m lb) (hn : n ≤ 1000000) (hm : m ≤ 1000000) :
    Calls Try.prog 50 #[.slice (some ⟨b, 0, none⟩) 2 2] w (BytesOut w (la ++ lb)) := by
  have HA := Lib.hid ha; have HB := Lib.hid hr
  have hlt := hb.lt
  have g0 : w.cell? ⟨b, 0, none⟩ = some (.slice A n cA) := (hb.cell 0).trans rfl
  have g1 : w.cell? ⟨b, 1, none⟩ = some (.slice B m cB) := (hb.cell 1).trans rfl
  clear ha hr
  go_enter Try.func50, Try.ntmps50
  go_wp2_with fail
  refine wp_loop_rounds 3 ?_
  rw [rounds_succ]
  go_wp2_with fail
  rw [rounds_succ]
  go_wp2_with fail
  rw [rounds_succ]
  go_wp2_with fail
  have hG := Grow_any w (n + m) (by omega)
  rw [Int.natCast_add] at hG
  refine hG.mono ?_; rintro e w1 ⟨G, c, rfl, hc, hown, hb1⟩
  clear hG g0 g1
  have h0 := (Blk.below_ hb hb1)
  have g0 : w1.cell? ⟨b, 0, none⟩ = some (.slice A n cA) := (h0.cell 0).trans rfl
  have g1 : w1.cell? ⟨b, 1, none⟩ = some (.slice B m cB) := (h0.cell 1).trans rfl
  go_wp2_with fail
  refine wp_loop_rounds 3 ?_
  rw [rounds_succ]
  go_wp2_with (at_builtin; refine wpList_u8 _ rfl (.tmp 31) (.tmp 32) rfl w.heap.size _ 0 [] rfl hown.out _ _ _ la rfl (HA.out.below hb1) (by omega) hb1.size ?_; intro G2 c2 w2 hown2 hgr _)
  rw [Nat.zero_add, List.nil_append] at hown2
  have hb2 := push0 hb1 (Nat.le_refl _) hown.out hgr
  have HO2 := Lib.hid hown2
  have h0 := (Blk.below_ hb hb2)
  have g0 : w2.cell? ⟨b, 0, none⟩ = some (.slice A n cA) := (h0.cell 0).trans rfl
  have g1 : w2.cell? ⟨b, 1, none⟩ = some (.slice B m cB) := (h0.cell 1).trans rfl
  clear hown2 hgr
  go_wp2_with fail
  rw [rounds_succ]
  go_wp2_with (at_builtin; refine wpList_u8 _ rfl (.tmp 31) (.tmp 32) rfl w.heap.size _ n la rfl HO2.out _ _ _ lb rfl (HB.out.below hb2) (by omega) hb2.size ?_; intro G3 c3 w3 hown3 hgr _)
  have hb3 := push0 hb2 (Nat.le_refl _) HO2.out hgr
  have HO3 := Lib.hid hown3
  clear hown3 hgr
  go_wp2_with fail
  rw [rounds_succ]
  go_wp2_with fail
  go_ret
  exact ⟨_, _, _, rfl, Sl.of_own HO3.out, hb3⟩
end Go.Proofs.Ytmejoococajikaa

/- The reference of bits.Pack: what it answers lies in a block of its own (printed by wip/refpackf.py out of XRefPack). -/
namespace Go.Proofs.Ytmejoococajikaa
open Go.RowKit

/-- Bytes in a new block, and an error's number, are handed back. -/
def BytesNew (w : World) (l : List Int) (er : Int) (e : Ending) (w' : World) : Prop :=
  ∃ G n c, e = .returned (.tuple #[.slice G n c, .int .i64 er]) ∧ Sl w' .u8 G n c l ∧ Below w.heap.size w w' ∧ ∀ g o, G = some ⟨g, o, none⟩ → w.heap.size ≤ g
end Go.Proofs.Ytmejoococajikaa

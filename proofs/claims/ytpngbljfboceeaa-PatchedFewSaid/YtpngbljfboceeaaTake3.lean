/- The closure that takes bits. -/
import Derived.Test.YtpngbljfboceeaaRefU
namespace Go.Proofs.Ytpngbljfboceeaa
open Go.RowKit

set_option maxRecDepth 100000 in
set_option maxHeartbeats 1000000 in
theorem take3_any (w : World) (ba bb N p left F : Nat) (A : Option Addr) (n cap : Nat) (l : List Int) (hat : Blk w ba 3 #[.int .i64 p]) (hbb : Blk w bb 25 #[.slice A n cap]) (hr : Ri w .u8 A n l) (hF : bytesOf F N = l.take N)
    (hp : p < 8 * N) (hN : N ≤ n) (hn : n ≤ 1000000) (hl1 : 1 ≤ left) (hl2 : left ≤ 64) (m : Nat) (hm : m = min left (8 - p % 8)) (hm2 : p + m ≤ 8 * N) :
    Calls Try.prog 80 #[.int .i64 left, .pointer (some ⟨ba, 0, none⟩), .pointer (some ⟨bb, 0, none⟩)] w
      fun e w' => e = .returned (.tuple #[.int .u64 (bitsV F (8 * N) p m), .int .i64 m]) ∧ ∃ nq, w' = (w.setCell ⟨ba, 0, none⟩ (.int .i64 (p + m))).drewN nq := by
  have c1 : w.cell? ⟨ba, 0, none⟩ = some (.int .i64 p) := by rw [hat.cell]; rfl
  have c2 : w.cell? ⟨bb, 0, none⟩ = some (.slice A n cap) := by rw [hbb.cell]; rfl
  have f1 := hat.frozen 0
  obtain ⟨b, o, hA, hbl, hcell⟩ := hr.at_ (j := p / 8) (by omega)
  subst hA
  obtain ⟨y, hy, hyF⟩ : ∃ y : Nat, (y : Int) = l.getD (p / 8) 0 ∧ y = byteAt F N (p / 8) := by
    refine ⟨_, ?_, rfl⟩
    have h1 := congrArg (fun q => q[p / 8]?) hF
    rw [bytesOf_get _ _ _ (by omega), List.getElem?_take_of_lt (by omega)] at h1
    simp only [List.getD]
    rw [← h1]; rfl
  rw [← hy] at hcell
  have hy8 : y < 256 := by rw [hyF]; exact byteAt_lt _ _ _
  have hbits := bits_byte F N p m hm2 (by omega) (by omega)
  rw [← hyF] at hbits
  have hres : Hid ((y : Int) * 2 ^ (p % 8) % 256 / 2 ^ (8 - m) = (bitsV F (8 * N) p m : Nat)) := by
    show _ = _
    rw [cast_shl, cast_shr, hbits]
  have hrg : 0 ≤ (y : Int) * 2 ^ (p % 8) % 256 / 2 ^ (8 - m) ∧ (y : Int) * 2 ^ (p % 8) % 256 / 2 ^ (8 - m) < 256 := by
    rw [hres.out]
    have h1 := bitsV_lt F (8 * N) p m
    have h2 : 2 ^ m ≤ 2 ^ 8 := Nat.pow_le_pow_right (by omega) (by omega)
    omega
  clear hyF hbits hF hy hr hbb hat
  rcases Nat.lt_or_ge (8 - p % 8) left with h | h
  · have hmi : (8 : Int) - (p : Int) % 8 = (m : Int) := by omega
    clear hm
    go_enter Try.func80, Try.ntmps80
    go_wp2_with fail
    go_quiet (fail)
    go_wp2_with fail
    go_ret2
    exact ⟨congrArg (fun v => Ending.returned (.tuple #[.int .u64 v, .int .i64 m])) hres.out, nq, rfl⟩
  · obtain rfl : m = left := by omega
    clear hm
    go_enter Try.func80, Try.ntmps80
    go_wp2_with fail
    go_quiet (fail)
    go_wp2_with fail
    go_ret2
    exact ⟨congrArg (fun v => Ending.returned (.tuple #[.int .u64 v, .int .i64 m])) hres.out, nq, rfl⟩
end Go.Proofs.Ytpngbljfboceeaa

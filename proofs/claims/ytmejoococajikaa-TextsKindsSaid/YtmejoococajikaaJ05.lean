/- Joined texts: LenA. Each has its own head line. No condition beyond those that its theorems state. -/
import Derived.Test.YtmejoococajikaaJ04
set_option linter.unusedVariables false

/- math/bits.Len64 and widths.Bits: how many bits a number needs. -/
namespace Go.Proofs.Ytmejoococajikaa
open Go.RowKit
theorem tab_law (T : ByteArray) (hT : ∀ i : Fin 256, T.data.toList[i.val]?.map UInt8.toNat = some (blen i.val)) (n : Nat) (h1 : n < 256) (h : n < T.size) : (T[n]'h).toNat = blen n := by
  have h2 := hT ⟨n, h1⟩
  have h' : n < T.data.toList.length := by simpa using h
  simp only [List.getElem?_eq_getElem h', Option.map_some, Option.some.injEq] at h2
  rw [← h2]
  rfl
theorem blen_256 (n : Nat) (h : n < 256) : blen n ≤ 8 := blen_le n 8 h
theorem tab0 (T : ByteArray) (hT : ∀ i : Fin 256, T.data.toList[i.val]?.map UInt8.toNat = some (blen i.val)) (x : Int) (h0 : 0 ≤ x) (h1 : x < 256) (h : x.toNat < T.size) :
    wrap64 (wrap64 ((T[x.toNat]'h).toNat : Int)) = (blen x.toNat : Int) := by
  rw [tab_law T hT _ (by omega) h]
  have := blen_256 x.toNat (by omega)
  have e : wrap64 (blen x.toNat : Int) = (blen x.toNat : Int) := IntWalk.wrap64_in _ (by omega)
  rw [e, e]
theorem tabK (T : ByteArray) (hT : ∀ i : Fin 256, T.data.toList[i.val]?.map UInt8.toNat = some (blen i.val)) (x : Int) (h0 : 0 ≤ x) (h1 : x < 256) (h : x.toNat < T.size) (k : Int) (hk0 : 0 ≤ k) (hk : k < 64) :
    wrap64 (k + wrap64 ((T[x.toNat]'h).toNat : Int)) = k + (blen x.toNat : Int) := by
  rw [tab_law T hT _ (by omega) h]
  have := blen_256 x.toNat (by omega)
  have e : wrap64 (blen x.toNat : Int) = (blen x.toNat : Int) := IntWalk.wrap64_in _ (by omega)
  rw [e]
  exact IntWalk.wrap64_in _ (by omega)
theorem blen_shift (x : Int) (k : Nat) (m : Int) (hm : m = ((2 ^ k : Nat) : Int)) (h : m ≤ x) : (blen x.toNat : Int) = k + (blen (x / m).toNat : Int) := by
  subst hm
  have hp : (0 : Int) ≤ ((2 ^ k : Nat) : Int) := Int.natCast_nonneg _
  obtain ⟨n, rfl⟩ := Int.eq_ofNat_of_zero_le (show 0 ≤ x by omega)
  rw [← Int.natCast_ediv, Int.toNat_natCast, Int.toNat_natCast, blen_div n k (by omega)]
  omega

set_option maxRecDepth 100000 in
set_option maxHeartbeats 400000 in
theorem Len64_0 (x : Int) (w : World) (h0 : 0 ≤ x) (h1 : x < 256) :
    Calls Try.prog 84 #[.int .u64 x] w fun e w' => e = .returned (.int .i64 (blen x.toNat)) ∧ w = w' := by
  go_enter Try.func84, Try.ntmps84
  go_wp2
  go_ret
  exact ⟨ret_int (tab0 _ (by decide +kernel) x h0 h1 _), rfl⟩
set_option maxRecDepth 100000 in
set_option maxHeartbeats 400000 in
theorem Len64_1 (x : Int) (w : World) (h0 : 256 ≤ x) (h1 : x < 65536) :
    Calls Try.prog 84 #[.int .u64 x] w fun e w' => e = .returned (.int .i64 (blen x.toNat)) ∧ w = w' := by
  go_enter Try.func84, Try.ntmps84
  go_wp2
  go_ret
  refine ⟨ret_int ?_, rfl⟩
  show wrap64 _ = _
  refine (tabK _ (by decide +kernel) _ (by omega) (by omega) _ _ (by omega) (by omega)).trans ?_
  rw [blen_shift x 8 256 rfl (by omega)]
  omega
set_option maxRecDepth 100000 in
set_option maxHeartbeats 400000 in
theorem Len64_2 (x : Int) (w : World) (h0 : 65536 ≤ x) (h1 : x < 16777216) :
    Calls Try.prog 84 #[.int .u64 x] w fun e w' => e = .returned (.int .i64 (blen x.toNat)) ∧ w = w' := by
  go_enter Try.func84, Try.ntmps84
  go_wp2
  go_ret
  refine ⟨ret_int ?_, rfl⟩
  show wrap64 _ = _
  refine (tabK _ (by decide +kernel) _ (by omega) (by omega) _ _ (by omega) (by omega)).trans ?_
  rw [blen_shift x 16 65536 rfl (by omega)]
  omega
set_option maxRecDepth 100000 in
set_option maxHeartbeats 400000 in
theorem Len64_3 (x : Int) (w : World) (h0 : 16777216 ≤ x) (h1 : x < 4294967296) :
    Calls Try.prog 84 #[.int .u64 x] w fun e w' => e = .returned (.int .i64 (blen x.toNat)) ∧ w = w' := by
  go_enter Try.func84, Try.ntmps84
  go_wp2
  go_ret
  refine ⟨ret_int ?_, rfl⟩
  show wrap64 _ = _
  refine (tabK _ (by decide +kernel) _ (by omega) (by omega) _ _ (by omega) (by omega)).trans ?_
  rw [blen_shift x 16 65536 rfl (by omega), blen_shift (x / 65536) 8 256 rfl (by omega)]
  omega
set_option maxRecDepth 100000 in
set_option maxHeartbeats 400000 in
theorem Len64_4 (x : Int) (w : World) (h0 : 4294967296 ≤ x) (h1 : x < 1099511627776) :
    Calls Try.prog 84 #[.int .u64 x] w fun e w' => e = .returned (.int .i64 (blen x.toNat)) ∧ w = w' := by
  go_enter Try.func84, Try.ntmps84
  go_wp2
  go_ret
  refine ⟨ret_int ?_, rfl⟩
  show wrap64 _ = _
  refine (tabK _ (by decide +kernel) _ (by omega) (by omega) _ _ (by omega) (by omega)).trans ?_
  rw [blen_shift x 32 4294967296 rfl (by omega)]
  omega
set_option maxRecDepth 100000 in
set_option maxHeartbeats 400000 in
theorem Len64_5 (x : Int) (w : World) (h0 : 1099511627776 ≤ x) (h1 : x < 281474976710656) :
    Calls Try.prog 84 #[.int .u64 x] w fun e w' => e = .returned (.int .i64 (blen x.toNat)) ∧ w = w' := by
  go_enter Try.func84, Try.ntmps84
  go_wp2
  go_ret
  refine ⟨ret_int ?_, rfl⟩
  show wrap64 _ = _
  refine (tabK _ (by decide +kernel) _ (by omega) (by omega) _ _ (by omega) (by omega)).trans ?_
  rw [blen_shift x 32 4294967296 rfl (by omega), blen_shift (x / 4294967296) 8 256 rfl (by omega)]
  omega
set_option maxRecDepth 100000 in
set_option maxHeartbeats 400000 in
theorem Len64_6 (x : Int) (w : World) (h0 : 281474976710656 ≤ x) (h1 : x < 72057594037927936) :
    Calls Try.prog 84 #[.int .u64 x] w fun e w' => e = .returned (.int .i64 (blen x.toNat)) ∧ w = w' := by
  go_enter Try.func84, Try.ntmps84
  go_wp2
  go_ret
  refine ⟨ret_int ?_, rfl⟩
  show wrap64 _ = _
  refine (tabK _ (by decide +kernel) _ (by omega) (by omega) _ _ (by omega) (by omega)).trans ?_
  rw [blen_shift x 32 4294967296 rfl (by omega), blen_shift (x / 4294967296) 16 65536 rfl (by omega)]
  omega
set_option maxRecDepth 100000 in
set_option maxHeartbeats 400000 in
theorem Len64_7 (x : Int) (w : World) (h0 : 72057594037927936 ≤ x) (h1 : x < 18446744073709551616) :
    Calls Try.prog 84 #[.int .u64 x] w fun e w' => e = .returned (.int .i64 (blen x.toNat)) ∧ w = w' := by
  go_enter Try.func84, Try.ntmps84
  go_wp2
  go_ret
  refine ⟨ret_int ?_, rfl⟩
  show wrap64 _ = _
  refine (tabK _ (by decide +kernel) _ (by omega) (by omega) _ _ (by omega) (by omega)).trans ?_
  rw [blen_shift x 32 4294967296 rfl (by omega), blen_shift (x / 4294967296) 16 65536 rfl (by omega), blen_shift (x / 4294967296 / 65536) 8 256 rfl (by omega)]
  omega
theorem Len64_any (x : Int) (w : World) (h0 : 0 ≤ x) (h1 : x < 18446744073709551616) :
    Calls Try.prog 84 #[.int .u64 x] w fun e w' => e = .returned (.int .i64 (blen x.toNat)) ∧ w = w' := by
  by_cases a1 : x < 256
  · exact Len64_0 x w h0 a1
  by_cases a2 : x < 65536
  · exact Len64_1 x w (by omega) a2
  by_cases a3 : x < 16777216
  · exact Len64_2 x w (by omega) a3
  by_cases a4 : x < 4294967296
  · exact Len64_3 x w (by omega) a4
  by_cases a5 : x < 1099511627776
  · exact Len64_4 x w (by omega) a5
  by_cases a6 : x < 281474976710656
  · exact Len64_5 x w (by omega) a6
  by_cases a7 : x < 72057594037927936
  · exact Len64_6 x w (by omega) a7
  · exact Len64_7 x w (by omega) h1

theorem Bits_any (x : Int) (w : World) (h0 : 0 ≤ x) (h1 : x < 18446744073709551616) :
    Calls Try.prog 67 #[.int .u64 x] w fun e w' => e = .returned (.int .i64 (blen x.toNat)) ∧ w = w' := by
  go_enter Try.func67, Try.ntmps67
  go_wp2_with (go_at_call 84; refine (Len64_any _ _ (by omega) (by omega)).mono ?_; rintro e w' ⟨rfl, rfl⟩)
  go_ret
  exact ⟨rfl, rfl⟩
end Go.Proofs.Ytmejoococajikaa

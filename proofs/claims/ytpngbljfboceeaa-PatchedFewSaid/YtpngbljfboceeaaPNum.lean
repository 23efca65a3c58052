/- patched.number. -/
import Derived.Test.YtpngbljfboceeaaPlainPt
import Derived.Test.YtpngbljfboceeaaPlainPb
namespace Go.Proofs.Ytpngbljfboceeaa
open Go.RowKit

theorem byte_hi (y : Int) (h0 : 0 ≤ y) (h : y < 256) : bits BinOp.andNot IntKind.u8 y 128 = y % 128 ∧ (bits BinOp.and IntKind.u8 y 128 != 0) = decide (128 ≤ y) := by
  have : ∀ i : Fin 256, bits BinOp.andNot IntKind.u8 ((i.val : Nat) : Int) 128 = ((i.val : Nat) : Int) % 128 ∧ (bits BinOp.and IntKind.u8 ((i.val : Nat) : Int) 128 != 0) = decide (128 ≤ ((i.val : Nat) : Int)) := by decide +kernel
  have h := this ⟨y.toNat, by omega⟩
  rwa [show (((⟨y.toNat, by omega⟩ : Fin 256).val : Nat) : Int) = y from by simp; omega] at h
theorem topB_u8 {b : List Int} (h : U8 b) : U8 (topB b) := by
  intro y hy
  rcases List.mem_cons.1 hy with rfl | hy
  · have := getD_byte h 0; omega
  · exact h y (List.mem_of_mem_drop hy)
theorem topB_len {b : List Int} (h : 1 ≤ b.length) : (topB b).length = b.length := by
  unfold topB; rw [List.length_cons, List.length_drop]; omega
theorem topB_at {b : List Int} {j : Nat} (_h : j + 1 < b.length) : (topB b).getD (j + 1) 0 = b.getD (j + 1) 0 := by
  unfold topB; simp [List.getD]
/-- How great the first bytes are: the highest bit is 0. -/
theorem top_lt {b : List Int} (hu : U8 b) (j : Nat) : packV ((topB b).take (j + 1)) 8 < 2 ^ (8 * j + 7) := by
  induction j with
  | zero =>
    have h := getD_byte hu 0
    have e : (topB b).take (0 + 1) = [b.getD 0 0 % 128] := by simp [topB]
    rw [e]
    simp only [packV, List.foldl_cons, List.foldl_nil]
    omega
  | succ j ih =>
    rcases Nat.lt_or_ge (j + 1) (topB b).length with h1 | h1
    · rw [take_snoc _ _ h1, packV_snoc]
      have h2 := topB_u8 hu _ (getD_mem _ _ h1)
      have e : 2 ^ (8 * (j + 1) + 7) = 2 ^ (8 * j + 7) * 2 ^ 8 := by rw [← Nat.pow_add, show 8 * (j + 1) + 7 = 8 * j + 7 + 8 from by omega]
      rw [e]
      omega
    · rw [List.take_of_length_le (by omega)]
      rw [List.take_of_length_le (by omega)] at ih
      exact Nat.lt_of_lt_of_le ih (Nat.pow_le_pow_right (by omega) (by omega))

set_option maxRecDepth 100000 in
set_option maxHeartbeats 2000000 in
theorem number10_any (w : World) (A : Option Addr) (n cap : Nat) (b : List Int) (hr : Ri w .u8 A n b) (hu : U8 b) (hc : n ≤ cap) (hm : cap ≤ 9223372036854775807) (h1 : 1 ≤ n) (h8 : n ≤ 8) :
    Calls Try.prog 61 #[.slice A n cap] w fun e w' => e = .returned (.int .i64 (numR b)) ∧ w = w' := by
  have HN := Lib.hid hr.len
  obtain ⟨bb, oo, rfl, hbl, hcells⟩ := hr.all (by omega)
  have HC := Lib.hid hcells
  have c0 := hcells 0 (by omega)
  rw [Nat.add_zero] at c0
  have hy := getD_byte hu 0
  have hb := byte_hi _ hy.1 hy.2
  have htl := top_lt hu
  have HTL := Lib.hid htl
  have HU := Lib.hid hu
  have htk : packV ((topB b).take 1) 8 = (b.getD 0 0 % 128).toNat := by
    have e : (topB b).take 1 = [b.getD 0 0 % 128] := by simp [topB]
    rw [e]; simp [packV]
  have hnum : numR b = (stepR 0 (packV (topB b) 8) (decide (128 ≤ b.getD 0 0))).1 := rfl
  have HNUM := Lib.hid hnum
  obtain ⟨y0, hy0⟩ : ∃ y, y = b.getD 0 0 := ⟨_, rfl⟩
  rw [← hy0] at c0 hy hb htk
  have HY0 := Lib.hid hy0; have HTK := Lib.hid htk
  obtain ⟨hb1, hb2⟩ := hb
  obtain ⟨hy1, hy2⟩ := hy
  clear hr hcells htl hu hnum hy0 htk
  have hcap1 : 1 ≤ cap := by omega
  go_enter Try.func61, Try.ntmps61
  go_wp2_with fail
  all_goals
    go_loopw [3, 16] (fun v i wr => ∃ (j : Nat) (z : Nat), j + 1 ≤ n ∧ i = .int .i64 j ∧ v = .int .u64 z ∧ z < 2 ^ 63 ∧ Hid (z = packV ((topB b).take (j + 1)) 8) ∧ Hid (wr = w)) (fun _ i _ => n - (intOf i).toNat)
    case atStart =>
      refine ⟨0, (y0 % 128).toNat, h1, rfl, by congr 1; omega, by omega, Lib.hid HTK.out.symm, Lib.hid rfl⟩
    case round =>
      obtain ⟨j, z, hj, rfl, rfl, hz63, hz, hw⟩ := hrel
      obtain rfl := hw.out
      by_cases hlt : j + 1 < n
      · have g1 := HC.out (j + 1) hlt
        rw [show oo + (j + 1) = oo + 1 + j from by omega] at g1
        have hyr := HU.out _ (getD_mem b (j + 1) (by rw [HN.out]; exact hlt))
        have hsn := take_snoc (topB b) (j + 1) (by rw [topB_len (by rw [HN.out]; omega), HN.out]; exact hlt)
        rw [topB_at (by rw [HN.out]; exact hlt)] at hsn
        have hpv := packV_snoc ((topB b).take (j + 1)) 8 (b.getD (j + 1) 0)
        rw [← hsn, ← hz.out] at hpv
        have hnext := HTL.out (j + 1)
        rw [hpv] at hnext
        have hzz := HTL.out j
        rw [← hz.out] at hzz
        have hor := both_or (a := (z : Int)) (b := b.getD (j + 1) 0) (g := 8 * j + 7) (K := 8) ⟨by omega, by
          have e : ((2 ^ (8 * j + 7) : Nat) : Int) = 2 ^ (8 * j + 7) := by simp
          rw [← e]; omega, hyr.1, by simpa using hyr.2⟩ (by omega)
        have hz55 : z < 2 ^ 55 := Nat.lt_of_lt_of_le hzz (Nat.pow_le_pow_right (by omega) (by omega))
        obtain ⟨y, hy⟩ : ∃ y, y = b.getD (j + 1) 0 := ⟨_, rfl⟩
        rw [← hy] at g1 hyr hor hpv
        rw [show (2 : Int) ^ 8 = 256 from by decide] at hor
        have HPV := Lib.hid hpv
        obtain ⟨hyr1, hyr2⟩ := hyr
        have hor2 := hor.2.1
        clear hsn hpv hnext hzz hor hy c0 hb1 hb2
        go_wp2_with fail
        all_goals
          go_roundw
          case rel => exact ⟨j + 1, z * 256 + y.toNat, by omega, by go_num, by congr 1; omega, by omega, Lib.hid (by rw [HPV.out]), Lib.hid trivial⟩
          case measure => simp [intOf] <;> omega
      · obtain rfl : n = j + 1 := by omega
        have hfull := hz.out
        rw [List.take_of_length_le (by rw [topB_len (by rw [HN.out]; omega), HN.out]; exact Nat.le_refl _)] at hfull
        obtain ⟨f, hf⟩ : ∃ f, f = decide (128 ≤ y0) := ⟨_, rfl⟩
        rw [← hf] at hb2
        obtain ⟨xx, ok, hst⟩ : ∃ xx ok, stepR 0 (z : Int) f = (xx, ok) := ⟨_, _, rfl⟩
        have hres : numR b = xx := by rw [HNUM.out, ← hfull, ← HY0.out, ← hf, hst]
        have HRES := Lib.hid hres; have HST := Lib.hid hst
        clear hfull hf hst hres hb1
        go_wp2_with fail
        refine (Step_any _ 0 (z : Int) f (by unfold I64x; omega) (by omega) xx ok HST.out).mono ?_; rintro e w' ⟨rfl, rfl⟩
        go_wp2_with fail
        go_ret
        exact ⟨by rw [HRES.out]; rfl, rfl⟩
end Go.Proofs.Ytpngbljfboceeaa

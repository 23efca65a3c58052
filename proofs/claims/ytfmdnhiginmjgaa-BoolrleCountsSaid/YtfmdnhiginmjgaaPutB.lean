/- boolrle.Put and its reference. -/
import Derived.Test.YtfmdnhiginmjgaaRowB
import Derived.Test.YtfmdnhiginmjgaaRefPack
import Derived.Test.YtfmdnhiginmjgaaByP
namespace Go.Proofs.Ytfmdnhiginmjgaa
open Go.RowKit

def bit01 (l : List Bool) : List Int := l.map fun b => if b then 1 else 0
theorem bit01_len (l : List Bool) : (bit01 l).length = l.length := by simp [bit01]
def bytesB (l : List Bool) : List Int := bytesOf (packV (bit01 l) 1 * 2 ^ (8 * ((l.length + 7) / 8) - l.length)) ((l.length + 7) / 8)
def putB (l : List Bool) : List Int × Int := if 4096 < l.length then ([], 3) else encR (bytesB l)
theorem bit01_snoc (l : List Bool) (x : Bool) : packV (bit01 (l ++ [x])) 1 = packV (bit01 l) 1 * 2 + (if x then 1 else 0) := by
  unfold bit01
  rw [List.map_append, List.map_singleton, packV_snoc, Nat.pow_one]
  cases x <;> rfl
theorem bit_one {w wi : World} {N j V : Nat} (hj : j + 1 ≤ 8 * N) (hin : RefW w wi N j (V * 2 ^ (8 * N - j))) :
    ∃ d : Nat, d < 256 ∧ wi.cell? ⟨w.heap.size, j / 8, none⟩ = some (.int .u8 d) ∧ wi.frozen? ⟨w.heap.size, j / 8, none⟩ = false ∧ (d : Int) + 128 / 2 ^ (j % 8) < 256 ∧ 0 < (128 : Int) / 2 ^ (j % 8) ∧
      bits .or .u8 (d : Int) (128 / 2 ^ (j % 8)) = (d : Int) + 128 / 2 ^ (j % 8) ∧
      RefW w (wi.setCell ⟨w.heap.size, j / 8, none⟩ (.int .u8 ((d : Int) + 128 / 2 ^ (j % 8)))) N (j + 1) ((V * 2 + 1) * 2 ^ (8 * N - (j + 1))) := by
  obtain ⟨h1, h2, h3⟩ := hin
  obtain ⟨e1, e2, e3⟩ := put_fits _ N j 1 1 (by omega) (by omega) h3 (by omega) (by omega)
  simp only [Nat.one_mul] at e1 e2 e3
  have hj8 : j / 8 < N := by omega
  have h7 : 8 - j % 8 - 1 = 7 - j % 8 := by omega
  rw [h7] at e1 e2 e3
  have hp := Nat.two_pow_pos (7 - j % 8)
  have hb := byteAt_lt (V * 2 ^ (8 * N - j)) N (j / 8)
  refine ⟨_, hb, (h1.cell _).trans (bytesArr_get _ N _ hj8), h1.frozen _, ?_, ?_, ?_, ?_, ?_, ?_⟩
  · rw [shr128]; omega
  · rw [shr128]; omega
  · rw [shr128, u8_or_nat _ _ hb (by omega)]
    rw [Nat.mod_eq_of_lt (show 2 ^ (7 - j % 8) < 256 by omega)] at e1
    rw [e1, Int.natCast_add]
  · rw [shr128]
    have h := h1.set_ (j / 8) (.int .u8 ((byteAt (V * 2 ^ (8 * N - j)) N (j / 8) + 2 ^ (7 - j % 8) : Nat) : Int))
    rw [bytesArr_add _ N _ _ hj8 e2, ← e3] at h
    rw [show V * 2 ^ (8 * N - j) + 2 ^ (8 * N - j - 1) = (V * 2 + 1) * 2 ^ (8 * N - (j + 1)) from by
      rw [Nat.add_mul, Nat.one_mul, Nat.mul_assoc, ← Nat.pow_succ', show Nat.succ (8 * N - (j + 1)) = 8 * N - j from by omega, show 8 * N - j - 1 = 8 * N - (j + 1) from by omega]] at h
    exact h
  · exact h2.setCell (Nat.le_refl _) _
  · exact Nat.mul_mod_left _ _
theorem bit_zero {w wi : World} {N j V : Nat} (hj : j + 1 ≤ 8 * N) (hin : RefW w wi N j (V * 2 ^ (8 * N - j))) : RefW w wi N (j + 1) ((V * 2 + 0) * 2 ^ (8 * N - (j + 1))) := by
  obtain ⟨h1, h2, h3⟩ := hin
  have e : V * 2 ^ (8 * N - j) = (V * 2 + 0) * 2 ^ (8 * N - (j + 1)) := by
    rw [Nat.add_zero, Nat.mul_assoc, ← Nat.pow_succ', show Nat.succ (8 * N - (j + 1)) = 8 * N - j from by omega]
  rw [e] at h1
  exact ⟨h1, h2, Nat.mul_mod_left _ _⟩

set_option maxRecDepth 100000 in
set_option maxHeartbeats 2000000 in
theorem BPut_any (w : World) (A : Option Addr) (n cap : Nat) (l : List Bool) (hr : Rb w A n l) (hn : n ≤ 1000000) (r : List Int) (er : Int) (hl : putB l = (r, er)) :
    Calls Try.prog 12 #[.slice A n cap] w (BytesErr w r er) := by
  have HR := Lib.hid hr; have HN := Lib.hid hr.len
  unfold putB at hl
  rw [hr.len] at hl
  clear hr
  by_cases hbig : 4096 < n
  · rw [if_pos hbig] at hl
    injection hl with e1 e2
    subst e1 e2
    go_enter Try.func12, Try.ntmps12
    go_wp2_with fail
    go_ret2
    exact ⟨none, 0, 0, rfl, Sl.nil _ _, Below.refl _ _⟩
  · rw [if_neg hbig] at hl
    have HL := Lib.hid hl; clear hl
    obtain ⟨N, hN⟩ : ∃ N, N = (n + 7) / 8 := ⟨_, rfl⟩
    have hNi : ((n : Int) + 7) / 8 = (N : Int) := by omega
    have hNi2 : ((n : Int) + 8 - 1) / 8 = (N : Int) := by omega
    have hN8 : n ≤ 8 * N := by omega
    have hNle : N ≤ 512 := by omega
    have HNN := Lib.hid hN; clear hN
    have hmk := fun W => Go.run_make_row' (P := Try.prog) 25 5 (.int .u8 0) 1 Try.underlying25 info_u8 rfl .i64 .i64 N (by omega) (by omega) W
    go_enter Try.func12, Try.ntmps12
    go_wp2_with fail
    clear hNi hNi2 hmk
    go_loopw [18] (fun i wr => ∃ j : Nat, j ≤ n ∧ i = .int .i64 j ∧ Hid (RefW w wr N j (packV (bit01 (l.take j)) 1 * 2 ^ (8 * N - j)))) (fun i _ => n - (intOf i).toNat)
    case atStart =>
      refine ⟨0, by omega, rfl, Lib.hid ⟨?_, (Below.refl w.heap.size w).alloc (Nat.le_refl _) _, ?_⟩⟩
      · rw [show packV (bit01 (l.take 0)) 1 = 0 from rfl, Nat.zero_mul, ← madeCells_bytes]
        exact Blk.new w _ _
      · rw [show packV (bit01 (l.take 0)) 1 = 0 from rfl, Nat.zero_mul, Nat.zero_mod]
    case round =>
      obtain ⟨j, hj, rfl, hin⟩ := hrel
      by_cases hlt : j < n
      · obtain ⟨b, o, hA, hbl, hcell⟩ := HR.out.at_ hlt
        subst hA
        have hc3 := (hin.out.2.1.cell (p := ⟨b, o + j, none⟩) hbl).trans hcell
        have hs := Lib.hid (bit01_snoc (l.take j) (l.getD j false))
        have ht := Lib.hid (takeB_snoc l j (by rw [HN.out]; exact hlt))
        clear hcell
        generalize l.getD j false = x at *
        generalize packV (bit01 (l.take j)) 1 = V at *
        cases x
        · have hz := Lib.hid (bit_zero (by omega) hin.out)
          clear hin
          go_wp2_with fail
          go_roundw
          case rel =>
            refine ⟨j + 1, by omega, by go_num, Lib.hid ?_⟩
            rw [ht.out, hs.out]
            exact hz.out
          case measure => simp [intOf] <;> omega
        · obtain ⟨d, hd, hc4, hf4, hd2, hd1, hor, hnew⟩ := bit_one (by omega) hin.out
          have HNW := Lib.hid hnew
          clear hnew hin
          go_wp2_with fail
          go_region
          all_goals go_wp2_with fail
          go_roundw
          case rel =>
            refine ⟨j + 1, by omega, by go_num, Lib.hid ?_⟩
            rw [ht.out, hs.out]
            first | exact RefW.drew HNW | omega               
          case measure => simp [intOf] <;> omega
      · obtain rfl : j = n := by omega
        have hfin := hin.out
        rw [List.take_of_length_le (by rw [HN.out]; exact Nat.le_refl _)] at hfin
        obtain ⟨f1, f2, f3⟩ := hfin
        have e : bytesB l = bytesOf (packV (bit01 l) 1 * 2 ^ (8 * N - j)) N := by
          unfold bytesB; rw [HN.out, ← HNN.out]
        have hsl := Sl_of_blk (l := bytesB l) (N := N) (by rw [e]; exact f1) (by rw [e, bytesOf_len]) (by omega)
        have hu : U8 (bytesB l) := by rw [e]; exact bytesOf_u8 _ _
        have HS := Lib.hid hsl; have HU := Lib.hid hu; have HB := Lib.hid f2
        clear hsl hu f1 f2 f3 e hin
        go_wp2_with fail
        refine (Put5_any _ _ _ _ (bytesB l) HS.out.1 HU.out HS.out.2.1 HS.out.2.2 r er HL.out).mono ?_; rintro e w4 ⟨G4, n4, c4, rfl, hs4, hb4⟩
        go_wp2_with fail
        go_ret2
        exact ⟨_, _, _, rfl, hs4, on HB.out hb4⟩

set_option maxRecDepth 100000 in
set_option maxHeartbeats 2000000 in
theorem refBPut_any (w : World) (A : Option Addr) (n cap : Nat) (l : List Bool) (hr : Rb w A n l) (hn : n ≤ 1000000) (r : List Int) (er : Int) (hl : putB l = (r, er)) :
    Calls Try.prog 13 #[.slice A n cap] w (BytesErr w r er) := by
  have HR := Lib.hid hr; have HN := Lib.hid hr.len
  unfold putB at hl
  rw [hr.len] at hl
  clear hr
  by_cases hbig : 4096 < n
  · rw [if_pos hbig] at hl
    injection hl with e1 e2
    subst e1 e2
    go_enter Try.func13, Try.ntmps13
    go_wp2_with fail
    go_ret2
    exact ⟨none, 0, 0, rfl, Sl.nil _ _, Below.refl _ _⟩
  · rw [if_neg hbig] at hl
    have HL := Lib.hid hl; clear hl
    obtain ⟨N, hN⟩ : ∃ N, N = (n + 7) / 8 := ⟨_, rfl⟩
    have hNi : ((n : Int) + 7) / 8 = (N : Int) := by omega
    have hNi2 : ((n : Int) + 8 - 1) / 8 = (N : Int) := by omega
    have hN8 : n ≤ 8 * N := by omega
    have hNle : N ≤ 512 := by omega
    have HNN := Lib.hid hN; clear hN
    have hmk := fun W => Go.run_make_row' (P := Try.prog) 25 5 (.int .u8 0) 1 Try.underlying25 info_u8 rfl .i64 .i64 N (by omega) (by omega) W
    go_enter Try.func13, Try.ntmps13
    go_wp2_with fail
    clear hNi hNi2 hmk
    go_loopw [5] (fun i wr => ∃ j : Nat, j ≤ n ∧ i = .int .i64 j ∧ Hid (RefW w wr N j (packV (bit01 (l.take j)) 1 * 2 ^ (8 * N - j)))) (fun i _ => n - (intOf i).toNat)
    case atStart =>
      refine ⟨0, by omega, rfl, Lib.hid ⟨?_, (Below.refl w.heap.size w).alloc (Nat.le_refl _) _, ?_⟩⟩
      · rw [show packV (bit01 (l.take 0)) 1 = 0 from rfl, Nat.zero_mul, ← madeCells_bytes]
        exact Blk.new w _ _
      · rw [show packV (bit01 (l.take 0)) 1 = 0 from rfl, Nat.zero_mul, Nat.zero_mod]
    case round =>
      obtain ⟨j, hj, rfl, hin⟩ := hrel
      by_cases hlt : j < n
      · obtain ⟨b, o, hA, hbl, hcell⟩ := HR.out.at_ hlt
        subst hA
        have hc3 := (hin.out.2.1.cell (p := ⟨b, o + j, none⟩) hbl).trans hcell
        have hs := Lib.hid (bit01_snoc (l.take j) (l.getD j false))
        have ht := Lib.hid (takeB_snoc l j (by rw [HN.out]; exact hlt))
        clear hcell
        generalize l.getD j false = x at *
        generalize packV (bit01 (l.take j)) 1 = V at *
        cases x
        · have hz := Lib.hid (bit_zero (by omega) hin.out)
          clear hin
          go_wp2_with fail
          go_roundw
          case rel =>
            refine ⟨j + 1, by omega, by go_num, Lib.hid ?_⟩
            rw [ht.out, hs.out]
            exact hz.out
          case measure => simp [intOf] <;> omega
        · obtain ⟨d, hd, hc4, hf4, hd2, hd1, hor, hnew⟩ := bit_one (by omega) hin.out
          have HNW := Lib.hid hnew
          clear hnew hin
          go_wp2_with fail
          go_region
          all_goals go_wp2_with fail
          go_roundw
          case rel =>
            refine ⟨j + 1, by omega, by go_num, Lib.hid ?_⟩
            rw [ht.out, hs.out]
            first | exact RefW.drew HNW | omega               
          case measure => simp [intOf] <;> omega
      · obtain rfl : j = n := by omega
        have hfin := hin.out
        rw [List.take_of_length_le (by rw [HN.out]; exact Nat.le_refl _)] at hfin
        obtain ⟨f1, f2, f3⟩ := hfin
        have e : bytesB l = bytesOf (packV (bit01 l) 1 * 2 ^ (8 * N - j)) N := by
          unfold bytesB; rw [HN.out, ← HNN.out]
        have hsl := Sl_of_blk (l := bytesB l) (N := N) (by rw [e]; exact f1) (by rw [e, bytesOf_len]) (by omega)
        have hu : U8 (bytesB l) := by rw [e]; exact bytesOf_u8 _ _
        have HS := Lib.hid hsl; have HU := Lib.hid hu; have HB := Lib.hid f2
        clear hsl hu f1 f2 f3 e hin
        go_wp2_with fail
        refine (refPut5_any _ _ _ _ (bytesB l) HS.out.1 HU.out HS.out.2.1 (by omega) r er HL.out).mono ?_; rintro e w4 ⟨G4, n4, c4, rfl, hs4, hb4⟩
        go_wp2_with fail
        go_ret2
        exact ⟨_, _, _, rfl, hs4, on HB.out hb4⟩
end Go.Proofs.Ytfmdnhiginmjgaa

/- Joined texts: RefPack, Concat, Concat3, PutB, Concat5. Each has its own head line. No condition beyond those that its theorems state. -/
import Derived.Lib.AppendZerosOnto
import Derived.LoopN
import Derived.Test.YtbmooemlekckbaaGreatDoorJ06
import Derived.Test.YtbmooemlekckbaaGreatDoorJ05
import Derived.Test.YtbmooemlekckbaaGreatDoorJ11
set_option linter.unusedVariables false

/- The reference of package bits: Size, Pack. -/
namespace Go.Proofs.YtbmooemlekckbaaGreatDoor
open Go.RowKit

set_option maxHeartbeats 400000 in
theorem refSize_any (m x : Int) (w : World) :
    Calls Tryz.prog 126 #[.int .i64 m, .int .i64 x] w fun e w' => e = .returned (.int .i64 (sizeN m x)) ∧ w = w' := by
  rcases (show m < 0 ∨ (0 ≤ m ∧ 4096 < m) ∨ (0 ≤ m ∧ m ≤ 4096 ∧ x < 0) ∨ (0 ≤ m ∧ m ≤ 4096 ∧ 0 ≤ x ∧ 64 < x) ∨ (0 ≤ m ∧ m ≤ 4096 ∧ 0 ≤ x ∧ x ≤ 64) by omega) with h | ⟨h1, h2⟩ | ⟨h1, h2, h3⟩ | ⟨h1, h2, h3, h4⟩ | ⟨h1, h2, h3, h4⟩
  case inr.inr.inr.inr =>
    have HS : Hid (sizeN m x = (m * x + 7) / 8) := by
      show sizeN m x = _
      unfold sizeN
      rw [show fitsB m x = true from decide_eq_true (by omega)]; rfl
    have q1 : 0 ≤ m * x := Int.mul_nonneg h1 h3
    have q2 : m * x ≤ 4096 * 64 := Int.mul_le_mul h2 h4 h3 (by omega)
    go_enter Tryz.func126, Tryz.ntmps126
    go_wp2_with fail
    go_ret
    exact ⟨ret_int HS.out.symm, rfl⟩
  all_goals
    have HS : Hid (sizeN m x = 0) := by
      show sizeN m x = _
      unfold sizeN
      rw [show fitsB m x = false from decide_eq_false (by omega)]; rfl
    go_enter Tryz.func126, Tryz.ntmps126
    go_wp2_with fail
    go_ret
    exact ⟨ret_int HS.out.symm, rfl⟩

/-- The world while the reference packs. -/
def RefW (w0 wr : World) (N at_ X : Nat) : Prop :=
  Blk wr w0.heap.size 5 (bytesArr X N) ∧ Below w0.heap.size w0 wr ∧ X % 2 ^ (8 * N - at_) = 0

theorem and_bit (a : Nat) (h : a < 18446744073709551616) : bits BinOp.and IntKind.u64 (a : Int) 1 = ((a % 2 : Nat) : Int) := by
  rw [and_one_u64 _ (by omega) (by omega)]; rfl

theorem RefW.drew {w wi : World} {N p X : Nat} (h : Hid (RefW w wi N p X)) : Hid (RefW w wi.drew N p X) := ⟨h.out.1.drew, h.out.2.1.drew, h.out.2.2⟩
theorem shr128 (p : Nat) : (128 : Int) / 2 ^ (p % 8) = ((2 ^ (7 - p % 8) : Nat) : Int) := by
  have : p % 8 = 0 ∨ p % 8 = 1 ∨ p % 8 = 2 ∨ p % 8 = 3 ∨ p % 8 = 4 ∨ p % 8 = 5 ∨ p % 8 = 6 ∨ p % 8 = 7 := by omega
  rcases this with h | h | h | h | h | h | h | h <;> rw [h] <;> decide
theorem RefW_bit {w wi : World} {N a0 k V y s p : Nat} (hs : s + 1 ≤ k) (hak : a0 + k ≤ 8 * N) (hp : p = a0 + (k - (s + 1))) (hb : y / 2 ^ s % 2 = 1)
    (hin : RefW w wi N p ((V * 2 ^ (k - (s + 1)) + y / 2 ^ (s + 1)) * 2 ^ (8 * N - p))) :
    ∃ d : Nat, d < 256 ∧ wi.cell? ⟨w.heap.size, p / 8, none⟩ = some (.int .u8 d) ∧ wi.frozen? ⟨w.heap.size, p / 8, none⟩ = false ∧ (d : Int) + 128 / 2 ^ (p % 8) < 256 ∧ 0 < (128 : Int) / 2 ^ (p % 8) ∧
      RefW w (wi.setCell ⟨w.heap.size, p / 8, none⟩ (.int .u8 ((d : Int) + 128 / 2 ^ (p % 8)))) N (a0 + (k - s)) ((V * 2 ^ (k - s) + y / 2 ^ s) * 2 ^ (8 * N - (a0 + (k - s)))) := by
  obtain ⟨h1, h2, h3⟩ := hin
  obtain ⟨_, e2, e3⟩ := put_fits _ N p 1 1 (by omega) (by omega) h3 (by omega) (by omega)
  simp only [Nat.one_mul] at e2 e3
  have hj : p / 8 < N := by omega
  refine ⟨_, byteAt_lt _ N (p / 8), (h1.cell _).trans (bytesArr_get _ N _ hj), h1.frozen _, ?_, ?_, ?_, ?_, ?_⟩
  · rw [shr128]
    rw [show 8 - p % 8 - 1 = 7 - p % 8 from by omega] at e2
    omega
  · rw [shr128]
    have := Nat.two_pow_pos (7 - p % 8)
    omega
  · rw [shr128]
    have h := h1.set_ (p / 8) (.int .u8 ((byteAt ((V * 2 ^ (k - (s + 1)) + y / 2 ^ (s + 1)) * 2 ^ (8 * N - p)) N (p / 8) + 2 ^ (8 - p % 8 - 1) : Nat) : Int))
    rw [bytesArr_add _ N _ _ hj e2, ← e3] at h
    have hn := pack_num V y k s 1 (8 * N - p - 1) hs
    rw [hb, Nat.one_mul, show 8 * N - p - 1 + 1 = 8 * N - p from by omega] at hn
    rw [hn, show 8 - p % 8 - 1 = 7 - p % 8 from by omega, show 8 * N - p - 1 = 8 * N - (a0 + (k - s)) from by omega] at h
    exact h
  · exact h2.setCell (Nat.le_refl _) _
  · exact Nat.mul_mod_left _ _
theorem RefW_zero {w wi : World} {N a0 k V y s p : Nat} (hs : s + 1 ≤ k) (hak : a0 + k ≤ 8 * N) (hp : p = a0 + (k - (s + 1))) (hb : y / 2 ^ s % 2 = 0)
    (hin : RefW w wi N p ((V * 2 ^ (k - (s + 1)) + y / 2 ^ (s + 1)) * 2 ^ (8 * N - p))) :
      RefW w wi N (a0 + (k - s)) ((V * 2 ^ (k - s) + y / 2 ^ s) * 2 ^ (8 * N - (a0 + (k - s)))) := by
  obtain ⟨h1, h2, h3⟩ := hin
  have hn := pack_num V y k s 1 (8 * N - p - 1) hs
  rw [hb, Nat.zero_mul, Nat.add_zero, show 8 * N - p - 1 + 1 = 8 * N - p from by omega, show 8 * N - p - 1 = 8 * N - (a0 + (k - s)) from by omega] at hn
  rw [hn] at h1
  exact ⟨h1, h2, Nat.mul_mod_left _ _⟩

set_option maxRecDepth 100000 in
set_option maxHeartbeats 2000000 in
theorem refPack_any (w : World) (A : Option Addr) (n cap : Nat) (l : List Int) (x : Int) (hr : Ri w .u64 A n l) (hu : U64 l) (hn : n ≤ 1000000) (r : List Int) (er : Int) (hp : packR l x = (r, er)) :
    Calls Tryz.prog 87 #[.slice A n cap, .int .i64 x] w (BytesErr w r er) := by
  have HL := Lib.hid hr.len
  have HR := Lib.hid hr; clear hr
  have HU := Lib.hid hu; clear hu
  by_cases hx : x < 0 ∨ 64 < x
  · unfold packR at hp
    rw [if_pos hx] at hp
    injection hp with e1 e2
    subst e1 e2
    rcases hx with hx | hx
    all_goals
      go_enter Tryz.func87, Tryz.ntmps87
      go_wp2_with fail
      go_ret2
      exact ⟨none, 0, 0, rfl, Sl.nil _ _, Below.refl _ _⟩
  · unfold packR at hp
    rw [if_neg hx] at hp
    obtain ⟨k, rfl⟩ := Int.eq_ofNat_of_zero_le (show 0 ≤ x by omega)
    have hk : k ≤ 64 := by omega
    clear hx
    rw [Int.toNat_natCast, HL.out] at hp
    by_cases hbig : 4096 < n
    · rw [if_pos hbig] at hp
      injection hp with e1 e2
      subst e1 e2
      go_enter Tryz.func87, Tryz.ntmps87
      go_wp2_with fail
      go_ret2
      exact ⟨none, 0, 0, rfl, Sl.nil _ _, Below.refl _ _⟩
    · rw [if_neg hbig] at hp
      have HP := Lib.hid hp; clear hp
      obtain ⟨N, hN⟩ : ∃ N, N = (n * k + 7) / 8 := ⟨_, rfl⟩
      have hNle : N ≤ 32768 := by
        have : n * k ≤ 4096 * 64 := Nat.mul_le_mul (by omega) hk
        omega
      have hsz : Hid (sizeN n k = (N : Int)) := by
        show sizeN n k = _
        unfold sizeN
        rw [show fitsB n k = true from decide_eq_true (by omega), if_pos rfl, hN]
        rw [← Int.natCast_mul]; omega
      have HN := Lib.hid hN; clear hN
      have hmk := fun W => Go.run_make_row' (P := Tryz.prog) 25 5 (.int .u8 0) 1 Tryz.underlying25 info_u8 rfl .i64 .i64 N (by omega) (by omega) W
      go_enter Tryz.func87, Tryz.ntmps87
      go_wp2_with fail
      refine (refSize_any _ _ _).mono ?_; rintro e w' ⟨rfl, rfl⟩
      rw [hsz.out]
      go_wp2_with fail
      go_loopw [7, 8] (fun a i wr => ∃ j : Nat, j ≤ n ∧ i = .int .i64 j ∧ Hid (a = .int .i64 ((j * k : Nat) : Int)) ∧ Hid (RefW w wr N (j * k) (packV (l.take j) k * 2 ^ (8 * N - j * k)) ∧ (l.take j).all (roomB k) = true)) (fun _ i _ => n - (intOf i).toNat)
      case atStart =>
        refine ⟨0, by omega, rfl, by show Value.int .i64 0 = _; rw [Nat.zero_mul]; rfl, Lib.hid ⟨?_, by simp⟩⟩
        rw [show packV (l.take 0) k = 0 from rfl]
        simp only [Nat.zero_mul, Nat.sub_zero]
        refine ⟨?_, ?_, Nat.zero_mod _⟩
        · rw [← madeCells_bytes]
          exact Blk.new w _ _
        · exact (Below.refl _ _).alloc (Nat.le_refl _) _
      case round =>
        obtain ⟨j, hj, rfl, haa, hpw⟩ := hrel
        obtain ⟨a0, ha0⟩ : ∃ a0, a0 = j * k := ⟨_, rfl⟩
        have haa2 := haa.out
        rw [← ha0] at haa2
        subst haa2
        clear haa
        have HA0 := Lib.hid ha0
        have hpw2 := hpw.out
        rw [← ha0] at hpw2
        have HPW := Lib.hid hpw2
        clear hpw hpw2 ha0
        by_cases hlt : j < n
        · obtain ⟨b, o, hA, hbl, hcell⟩ := HR.out.at_ hlt
          subst hA
          have hy := HU.out _ (getD_mem l j (by rw [HL.out]; exact hlt))
          obtain ⟨y, hyy⟩ : ∃ y : Nat, (y : Int) = l.getD j 0 := ⟨(l.getD j 0).toNat, by omega⟩
          rw [← hyy] at hcell hy
          have HY1 := Lib.hid hy; clear hy
          have HY := Lib.hid hyy; clear hyy
          have HCW := Lib.hid hcell
          have hc2 := (HPW.out.1.2.1.cell (p := ⟨b, o + j, none⟩) hbl).trans hcell
          clear hcell
          have hak : a0 + k ≤ 8 * N := by
            have h1 : (j + 1) * k ≤ n * k := Nat.mul_le_mul_right _ hlt
            rw [Nat.add_mul, Nat.one_mul, ← HA0.out] at h1
            have := HN.out
            omega
          by_cases hroom : roomB k (l.getD j 0) = true
          · have hgood : k = 64 ∨ y < 2 ^ k := by
              have := of_decide_eq_true hroom
              rw [← HY.out, Int.toNat_natCast] at this
              exact this
            have hq : (k < 64 ∧ Hid (((y : Int) / 2 ^ k != 0) = false)) ∨ 64 ≤ k := by
              rcases hgood with h | h
              · exact .inr (by omega)
              · rcases Nat.lt_or_ge k 64 with h2 | h2
                · refine .inl ⟨h2, ?_⟩
                  show ((y : Int) / 2 ^ k != 0) = false
                  rw [cast_shr, Nat.div_eq_of_lt h]; rfl
                · exact .inr (by omega)
            have hylt : Hid (y < 2 ^ k) := by
              show y < 2 ^ k
              rcases hgood with h | h
              · subst h; have := HY1.out; omega
              · exact h
            obtain ⟨V, hV⟩ : ∃ V, V = packV (l.take j) k := ⟨_, rfl⟩
            have hpw2 := HPW.out
            rw [← hV] at hpw2
            have HPV := Lib.hid hpw2
            have HV := Lib.hid hV
            clear hpw2 hV HPW hgood
            have hq0 : k < 64 → ((y : Int) / 2 ^ k != 0) = false := fun h => hq.elim (fun q => q.2.out) (fun q => absurd h (by omega))
            have hk64 := Nat.lt_or_ge k 64
            clear hq
            rcases hk64 with hk64 | hk64
            all_goals
              first | have hq2 := hq0 hk64 | skip
              clear hq0
              go_wp2_with fail
              try clear hq2
              clear hc2
              go_loopw [7, 9] (fun a q wi => ∃ t p : Nat, t ≤ k ∧ a = .int .i64 p ∧ q = .int .i64 ((t : Int) - 1) ∧ p + t = a0 + k ∧ Hid (RefW w wi N p ((V * 2 ^ (k - t) + y / 2 ^ t) * 2 ^ (8 * N - p)))) (fun _ q _ => (intOf q + 1).toNat)
              case atStart =>
                refine ⟨k, a0, Nat.le_refl _, rfl, rfl, by omega, Lib.hid ?_⟩
                rw [Nat.sub_self, Nat.div_eq_of_lt hylt.out, Nat.pow_zero, Nat.mul_one]
                exact HPV.out.1
              case round =>
                obtain ⟨t, p, ht, rfl, hq1, hp, hin⟩ := hrel
                rcases Nat.eq_zero_or_pos t with ht0 | ht0
                · subst ht0
                  subst hq1
                  go_wp2_with fail
                  go_roundw
                  case rel =>
                    have hpk : p = (j + 1) * k := by rw [Nat.add_mul, Nat.one_mul, ← HA0.out]; omega
                    subst hpk
                    refine ⟨j + 1, by omega, by go_num, Lib.hid rfl, Lib.hid ⟨?_, ?_⟩⟩
                    · have h := hin.out
                      rw [Nat.sub_zero, Nat.pow_zero, Nat.div_one] at h
                      rw [take_snoc l j (by rw [HL.out]; exact hlt), packV_snoc, ← HV.out, ← HY.out, Int.toNat_natCast]
                      exact h
                    · rw [take_snoc l j (by rw [HL.out]; exact hlt), List.all_append, HPV.out.2, List.all_cons, hroom, List.all_nil]; rfl
                  case measure => simp [intOf] <;> omega
                · obtain ⟨s, rfl⟩ : ∃ s, t = s + 1 := ⟨t - 1, by omega⟩
                  rw [show ((s + 1 : Nat) : Int) - 1 = (s : Int) from by omega] at hq1
                  subst hq1
                  have hc2 := (hin.out.2.1.cell (p := ⟨b, o + j, none⟩) hbl).trans HCW.out
                  have hys : Hid (y / 2 ^ s < 18446744073709551616) := by
                    show y / 2 ^ s < _
                    exact Nat.lt_of_le_of_lt (Nat.div_le_self _ _) (by have := HY1.out; omega)
                  rcases Nat.mod_two_eq_zero_or_one (y / 2 ^ s) with hb | hb
                  · have hbit : (bits BinOp.and IntKind.u64 ((y : Int) / 2 ^ s) 1 == 1) = false := by
                      rw [cast_shr, and_bit _ hys.out, hb]; rfl
                    have HB := Lib.hid (RefW_zero ht hak (by omega) hb hin.out)
                    clear hb hin
                    go_wp2_with fail
                    go_roundw
                    case rel => exact ⟨s, p + 1, by omega, by go_num, by go_num, by omega, by rw [show p + 1 = a0 + (k - s) from by omega]; exact HB⟩
                    case measure => simp [intOf] <;> omega
                  · have hbit : (bits BinOp.and IntKind.u64 ((y : Int) / 2 ^ s) 1 == 1) = true := by
                      rw [cast_shr, and_bit _ hys.out, hb]; rfl
                    obtain ⟨d, hd, hc3, hf3, hd2, hd1, hnew⟩ := RefW_bit ht hak (by omega) hb hin.out
                    have HNW := Lib.hid hnew
                    clear hnew hb hin
                    go_wp2_with fail
                    go_region
                    all_goals go_wp2_with fail
                    go_roundw
                    case rel =>
                      rw [← show p + 1 = a0 + (k - s) from by omega] at HNW
                      exact ⟨s, p + 1, by omega, by go_num, by go_num, by omega, RefW.drew HNW⟩
                    case measure => simp [intOf] <;> omega
          · have hbad : k < 64 ∧ Hid (((y : Int) / 2 ^ k != 0) = true) := by
              have h1 : ¬ (k = 64 ∨ (l.getD j 0).toNat < 2 ^ k) := fun h => hroom (decide_eq_true h)
              rw [← HY.out, Int.toNat_natCast] at h1
              refine ⟨by omega, ?_⟩
              show ((y : Int) / 2 ^ k != 0) = true
              have h2 : 2 ^ k ≤ y := by omega
              have h3 : 1 ≤ y / 2 ^ k := (Nat.le_div_iff_mul_le (Nat.two_pow_pos _)).2 (by omega)
              rw [cast_shr]
              exact bne_iff_ne.2 (by omega)
            have hp := HP.out
            rw [if_neg (by
              intro h
              exact hroom (List.all_eq_true.1 h _ (getD_mem l j (by rw [HL.out]; exact hlt))))] at hp
            injection hp with e1 e2
            subst e1 e2
            obtain ⟨hk64, hq⟩ := hbad
            have hq2 := hq.out
            go_wp2_with fail
            go_ret2
            exact ⟨none, 0, 0, rfl, Sl.nil _ _, HPW.out.1.2.1⟩
        · obtain rfl : j = n := by omega
          have hp := HP.out
          have hall := HPW.out.2
          rw [List.take_of_length_le (by rw [HL.out]; exact Nat.le_refl _)] at hall
          rw [if_pos hall] at hp
          injection hp with e1 e2
          subst e2
          have hpw1 := HPW.out.1
          rw [List.take_of_length_le (by rw [HL.out]; exact Nat.le_refl _)] at hpw1
          have HW := Lib.hid hpw1
          have HE := Lib.hid e1
          clear hall hpw1 e1
          go_wp2_with fail
          go_ret2
          refine ⟨_, _, _, rfl, ?_, HW.out.2.1⟩
          rw [← HE.out, ← HN.out, ← HA0.out]
          exact Sl_of_blk HW.out.1 (bytesOf_len _ _) (by omega)
end Go.Proofs.YtbmooemlekckbaaGreatDoor

/- slices.Grow on the nil slice of bytes, and slices.Concat of two slices of bytes. -/
namespace Go.Proofs.YtbmooemlekckbaaGreatDoor
open Go.RowKit

def EmptyOut (w : World) (e : Ending) (w' : World) : Prop :=
  ∃ G c, e = .returned (.slice G 0 c) ∧ c ≤ 9223372036854775807 ∧ Hid (w'.ownsRow w.heap.size 5 1 (.slice G 0 c) 0 []) ∧ Below w.heap.size w w'

set_option maxRecDepth 100000 in
set_option maxHeartbeats 1000000 in
theorem Grow_any (w : World) (n : Nat) (hn : n ≤ 10000000) :
    Calls Tryz.prog 149 #[.slice none 0 0, .int .i64 n] w (EmptyOut w) := by
  rcases Nat.eq_zero_or_pos n with rfl | h0
  · go_enter Tryz.func149, Tryz.ntmps149
    go_wp2_with fail
    go_ret
    exact ⟨none, 0, rfl, by omega, ⟨rfl, .inl ⟨rfl, rfl⟩⟩, Below.refl _ _⟩
  · have hB : (Tryz.t5).bytes = 1 := by kernel_rfl
    have h1 : ¬ (281474976710656 < (n : Int) * ((Tryz.t5).bytes : Int)) := by rw [hB]; omega
    have h2 : ¬ (281474976710656 < Builtin.nextslicecap n 0 * (Tryz.t5).bytes) := by
      have := growslice_fits (need := n) (old := 0) (bytes := (Tryz.t5).bytes) h0 (by rw [hB]; omega)
      omega
    have h3 := grownCap_ge w n 0 5
    have h4 := grownCap_le_maxLen w n 0 5 (by unfold maxLen; omega)
    unfold grownCap at h3 h4
    unfold maxLen at h4
    clear hB
    go_enter Tryz.func149, Tryz.ntmps149
    go_wp2_with fail
    go_ret
    refine ⟨_, _, rfl, by omega, ⟨rfl, .inr ⟨w.heap.size, _, _, rfl, Nat.le_refl _, Blk.new w _ _, Nat.zero_le _, by unfold maxLen; omega, ?_, by simp⟩⟩, ?_⟩
    · simp [Builtin.zeroCells]; omega
    · exact ((Below.refl w.heap.size w).alloc (Nat.le_refl _) _).drew

set_option maxRecDepth 100000 in
set_option maxHeartbeats 1000000 in
theorem Concat_any (w : World) (b : Nat) (A : Option Addr) (n cA : Nat) (la : List Int) (B : Option Addr) (m cB : Nat) (lb : List Int)
    (hb : Blk w b 25 #[.slice A n cA, .slice B m cB]) (ha : Ri w .u8 A n la) (hr : Ri w .u8 B m lb) (hn : n ≤ 1000000) (hm : m ≤ 1000000) :
    Calls Tryz.prog 116 #[.slice (some ⟨b, 0, none⟩) 2 2] w (BytesOut w (la ++ lb)) := by
  have HA := Lib.hid ha; have HB := Lib.hid hr
  have hlt := hb.lt
  have g0 : w.cell? ⟨b, 0, none⟩ = some (.slice A n cA) := (hb.cell 0).trans rfl
  have g1 : w.cell? ⟨b, 1, none⟩ = some (.slice B m cB) := (hb.cell 1).trans rfl
  clear ha hr
  go_enter Tryz.func116, Tryz.ntmps116
  go_wp2_with fail
  refine wp_loop_rounds 3 ?_
  rw [rounds_succ]
  go_wp2_with fail
  rw [rounds_succ]
  go_wp2_with fail
  rw [rounds_succ]
  go_wp2_with fail
  have hG := Grow_any w (n + m) (by omega)
  rw [Int.natCast_add] at hG
  refine hG.mono ?_; rintro e w1 ⟨G, c, rfl, hc, hown, hb1⟩
  clear hG g0 g1
  have h0 := (Blk.below_ hb hb1)
  have g0 : w1.cell? ⟨b, 0, none⟩ = some (.slice A n cA) := (h0.cell 0).trans rfl
  have g1 : w1.cell? ⟨b, 1, none⟩ = some (.slice B m cB) := (h0.cell 1).trans rfl
  go_wp2_with fail
  refine wp_loop_rounds 3 ?_
  rw [rounds_succ]
  go_wp2_with (at_builtin; refine wpList_u8 _ rfl (.tmp 31) (.tmp 32) rfl w.heap.size _ 0 [] rfl hown.out _ _ _ la rfl (HA.out.below hb1) (by omega) hb1.size ?_; intro G2 c2 w2 hown2 hgr _)
  rw [Nat.zero_add, List.nil_append] at hown2
  have hb2 := push0 hb1 (Nat.le_refl _) hown.out hgr
  have HO2 := Lib.hid hown2
  have h0 := (Blk.below_ hb hb2)
  have g0 : w2.cell? ⟨b, 0, none⟩ = some (.slice A n cA) := (h0.cell 0).trans rfl
  have g1 : w2.cell? ⟨b, 1, none⟩ = some (.slice B m cB) := (h0.cell 1).trans rfl
  clear hown2 hgr
  go_wp2_with fail
  rw [rounds_succ]
  go_wp2_with (at_builtin; refine wpList_u8 _ rfl (.tmp 31) (.tmp 32) rfl w.heap.size _ n la rfl HO2.out _ _ _ lb rfl (HB.out.below hb2) (by omega) hb2.size ?_; intro G3 c3 w3 hown3 hgr _)
  have hb3 := push0 hb2 (Nat.le_refl _) HO2.out hgr
  have HO3 := Lib.hid hown3
  clear hown3 hgr
  go_wp2_with fail
  rw [rounds_succ]
  go_wp2_with fail
  go_ret
  exact ⟨_, _, _, rfl, Sl.of_own HO3.out, hb3⟩
end Go.Proofs.YtbmooemlekckbaaGreatDoor

/- slices.Concat of 3 slices of bytes. -/
namespace Go.Proofs.YtbmooemlekckbaaGreatDoor
open Go.RowKit

set_option maxRecDepth 100000 in
set_option maxHeartbeats 2000000 in
theorem Concat3_any (w : World) (b : Nat) (A0 : Option Addr) (n0 c0 : Nat) (l0 : List Int) (A1 : Option Addr) (n1 c1 : Nat) (l1 : List Int) (A2 : Option Addr) (n2 c2 : Nat) (l2 : List Int)
    (hb : Blk w b 25 #[.slice A0 n0 c0, .slice A1 n1 c1, .slice A2 n2 c2]) (h0 : Ri w .u8 A0 n0 l0) (h1 : Ri w .u8 A1 n1 l1) (h2 : Ri w .u8 A2 n2 l2) (m0 : n0 ≤ 1000000) (m1 : n1 ≤ 1000000) (m2 : n2 ≤ 1000000) :
    Calls Tryz.prog 116 #[.slice (some ⟨b, 0, none⟩) 3 3] w (BytesOut w (l0 ++ l1 ++ l2)) := by
  have H0 := Lib.hid h0
  have H1 := Lib.hid h1
  have H2 := Lib.hid h2
  have hlt := hb.lt
  have g0 : w.cell? ⟨b, 0, none⟩ = some (.slice A0 n0 c0) := (hb.cell 0).trans rfl
  have g1 : w.cell? ⟨b, 1, none⟩ = some (.slice A1 n1 c1) := (hb.cell 1).trans rfl
  have g2 : w.cell? ⟨b, 2, none⟩ = some (.slice A2 n2 c2) := (hb.cell 2).trans rfl
  clear h0 h1 h2
  go_enter Tryz.func116, Tryz.ntmps116
  go_wp2_with fail
  refine wp_loop_rounds 4 ?_
  rw [rounds_succ]
  go_wp2_with fail
  rw [rounds_succ]
  go_wp2_with fail
  rw [rounds_succ]
  go_wp2_with fail
  rw [rounds_succ]
  go_wp2_with fail
  have hG := Grow_any w (n0 + n1 + n2) (by omega)
  simp only [Int.natCast_add] at hG
  refine hG.mono ?_; rintro e w1 ⟨G, c, rfl, hc, hown, hb1⟩
  clear hG g0 g1 g2
  have hq0 := (Blk.below_ hb hb1)
  have g0 : w1.cell? ⟨b, 0, none⟩ = some (.slice A0 n0 c0) := (hq0.cell 0).trans rfl
  have g1 : w1.cell? ⟨b, 1, none⟩ = some (.slice A1 n1 c1) := (hq0.cell 1).trans rfl
  have g2 : w1.cell? ⟨b, 2, none⟩ = some (.slice A2 n2 c2) := (hq0.cell 2).trans rfl
  go_wp2_with fail
  refine wp_loop_rounds 4 ?_
  rw [rounds_succ]
  go_wp2_with (at_builtin; refine wpList_u8 _ rfl (.tmp 31) (.tmp 32) rfl w.heap.size _ (0) ([]) rfl hown.out _ _ _ l0 rfl (H0.out.below hb1) (by omega) hb1.size ?_; intro G2 e2 w2 hown2 hgr2 _)
  rw [Nat.zero_add, List.nil_append] at hown2
  have hb2 := push0 hb1 (Nat.le_refl _) hown.out hgr2
  have HO2 := Lib.hid hown2
  clear g0 g1 g2
  have hq2 := (Blk.below_ hb hb2)
  have g0 : w2.cell? ⟨b, 0, none⟩ = some (.slice A0 n0 c0) := (hq2.cell 0).trans rfl
  have g1 : w2.cell? ⟨b, 1, none⟩ = some (.slice A1 n1 c1) := (hq2.cell 1).trans rfl
  have g2 : w2.cell? ⟨b, 2, none⟩ = some (.slice A2 n2 c2) := (hq2.cell 2).trans rfl
  clear hown2 hgr2
  go_wp2_with fail
  rw [rounds_succ]
  go_wp2_with (at_builtin; refine wpList_u8 _ rfl (.tmp 31) (.tmp 32) rfl w.heap.size _ (n0) (l0) rfl HO2.out _ _ _ l1 rfl (H1.out.below hb2) (by omega) hb2.size ?_; intro G3 e3 w3 hown3 hgr3 _)
  have hb3 := push0 hb2 (Nat.le_refl _) HO2.out hgr3
  have HO3 := Lib.hid hown3
  clear g0 g1 g2
  have hq3 := (Blk.below_ hb hb3)
  have g0 : w3.cell? ⟨b, 0, none⟩ = some (.slice A0 n0 c0) := (hq3.cell 0).trans rfl
  have g1 : w3.cell? ⟨b, 1, none⟩ = some (.slice A1 n1 c1) := (hq3.cell 1).trans rfl
  have g2 : w3.cell? ⟨b, 2, none⟩ = some (.slice A2 n2 c2) := (hq3.cell 2).trans rfl
  clear hown3 hgr3
  go_wp2_with fail
  rw [rounds_succ]
  go_wp2_with (at_builtin; refine wpList_u8 _ rfl (.tmp 31) (.tmp 32) rfl w.heap.size _ (n0 + n1) (l0 ++ l1) rfl HO3.out _ _ _ l2 rfl (H2.out.below hb3) (by omega) hb3.size ?_; intro G4 e4 w4 hown4 hgr4 _)
  have hb4 := push0 hb3 (Nat.le_refl _) HO3.out hgr4
  have HO4 := Lib.hid hown4
  clear g0 g1 g2
  have hq4 := (Blk.below_ hb hb4)
  have g0 : w4.cell? ⟨b, 0, none⟩ = some (.slice A0 n0 c0) := (hq4.cell 0).trans rfl
  have g1 : w4.cell? ⟨b, 1, none⟩ = some (.slice A1 n1 c1) := (hq4.cell 1).trans rfl
  have g2 : w4.cell? ⟨b, 2, none⟩ = some (.slice A2 n2 c2) := (hq4.cell 2).trans rfl
  clear hown4 hgr4
  go_wp2_with fail
  rw [rounds_succ]
  go_wp2_with fail
  go_ret
  exact ⟨_, _, _, rfl, Sl.of_own HO4.out, hb4⟩
end Go.Proofs.YtbmooemlekckbaaGreatDoor

/- boolrle.Put and its reference. -/
namespace Go.Proofs.YtbmooemlekckbaaGreatDoor
open Go.RowKit

def bit01 (l : List Bool) : List Int := l.map fun b => if b then 1 else 0
theorem bit01_len (l : List Bool) : (bit01 l).length = l.length := by simp [bit01]
def bytesB (l : List Bool) : List Int := bytesOf (packV (bit01 l) 1 * 2 ^ (8 * ((l.length + 7) / 8) - l.length)) ((l.length + 7) / 8)
def putB (l : List Bool) : List Int × Int := if 4096 < l.length then ([], 3) else encR (bytesB l)
theorem bit01_snoc (l : List Bool) (x : Bool) : packV (bit01 (l ++ [x])) 1 = packV (bit01 l) 1 * 2 + (if x then 1 else 0) := by
  unfold bit01
  rw [List.map_append, List.map_singleton, packV_snoc, Nat.pow_one]
  cases x <;> rfl
theorem bit_one {w wi : World} {N j V : Nat} (hj : j + 1 ≤ 8 * N) (hin : RefW w wi N j (V * 2 ^ (8 * N - j))) :
    ∃ d : Nat, d < 256 ∧ wi.cell? ⟨w.heap.size, j / 8, none⟩ = some (.int .u8 d) ∧ wi.frozen? ⟨w.heap.size, j / 8, none⟩ = false ∧ (d : Int) + 128 / 2 ^ (j % 8) < 256 ∧ 0 < (128 : Int) / 2 ^ (j % 8) ∧
      bits .or .u8 (d : Int) (128 / 2 ^ (j % 8)) = (d : Int) + 128 / 2 ^ (j % 8) ∧
      RefW w (wi.setCell ⟨w.heap.size, j / 8, none⟩ (.int .u8 ((d : Int) + 128 / 2 ^ (j % 8)))) N (j + 1) ((V * 2 + 1) * 2 ^ (8 * N - (j + 1))) := by
  obtain ⟨h1, h2, h3⟩ := hin
  obtain ⟨e1, e2, e3⟩ := put_fits _ N j 1 1 (by omega) (by omega) h3 (by omega) (by omega)
  simp only [Nat.one_mul] at e1 e2 e3
  have hj8 : j / 8 < N := by omega
  have h7 : 8 - j % 8 - 1 = 7 - j % 8 := by omega
  rw [h7] at e1 e2 e3
  have hp := Nat.two_pow_pos (7 - j % 8)
  have hb := byteAt_lt (V * 2 ^ (8 * N - j)) N (j / 8)
  refine ⟨_, hb, (h1.cell _).trans (bytesArr_get _ N _ hj8), h1.frozen _, ?_, ?_, ?_, ?_, ?_, ?_⟩
  · rw [shr128]; omega
  · rw [shr128]; omega
  · rw [shr128, u8_or_nat _ _ hb (by omega)]
    rw [Nat.mod_eq_of_lt (show 2 ^ (7 - j % 8) < 256 by omega)] at e1
    rw [e1, Int.natCast_add]
  · rw [shr128]
    have h := h1.set_ (j / 8) (.int .u8 ((byteAt (V * 2 ^ (8 * N - j)) N (j / 8) + 2 ^ (7 - j % 8) : Nat) : Int))
    rw [bytesArr_add _ N _ _ hj8 e2, ← e3] at h
    rw [show V * 2 ^ (8 * N - j) + 2 ^ (8 * N - j - 1) = (V * 2 + 1) * 2 ^ (8 * N - (j + 1)) from by
      rw [Nat.add_mul, Nat.one_mul, Nat.mul_assoc, ← Nat.pow_succ', show Nat.succ (8 * N - (j + 1)) = 8 * N - j from by omega, show 8 * N - j - 1 = 8 * N - (j + 1) from by omega]] at h
    exact h
  · exact h2.setCell (Nat.le_refl _) _
  · exact Nat.mul_mod_left _ _
theorem bit_zero {w wi : World} {N j V : Nat} (hj : j + 1 ≤ 8 * N) (hin : RefW w wi N j (V * 2 ^ (8 * N - j))) : RefW w wi N (j + 1) ((V * 2 + 0) * 2 ^ (8 * N - (j + 1))) := by
  obtain ⟨h1, h2, h3⟩ := hin
  have e : V * 2 ^ (8 * N - j) = (V * 2 + 0) * 2 ^ (8 * N - (j + 1)) := by
    rw [Nat.add_zero, Nat.mul_assoc, ← Nat.pow_succ', show Nat.succ (8 * N - (j + 1)) = 8 * N - j from by omega]
  rw [e] at h1
  exact ⟨h1, h2, Nat.mul_mod_left _ _⟩

set_option maxRecDepth 100000 in
set_option maxHeartbeats 2000000 in
theorem BPut_any (w : World) (A : Option Addr) (n cap : Nat) (l : List Bool) (hr : Rb w A n l) (hn : n ≤ 1000000) (r : List Int) (er : Int) (hl : putB l = (r, er)) :
    Calls Tryz.prog 14 #[.slice A n cap] w (BytesErr w r er) := by
  have HR := Lib.hid hr; have HN := Lib.hid hr.len
  unfold putB at hl
  rw [hr.len] at hl
  clear hr
  by_cases hbig : 4096 < n
  · rw [if_pos hbig] at hl
    injection hl with e1 e2
    subst e1 e2
    go_enter Tryz.func14, Tryz.ntmps14
    go_wp2_with fail
    go_ret2
    exact ⟨none, 0, 0, rfl, Sl.nil _ _, Below.refl _ _⟩
  · rw [if_neg hbig] at hl
    have HL := Lib.hid hl; clear hl
    obtain ⟨N, hN⟩ : ∃ N, N = (n + 7) / 8 := ⟨_, rfl⟩
    have hNi : ((n : Int) + 7) / 8 = (N : Int) := by omega
    have hNi2 : ((n : Int) + 8 - 1) / 8 = (N : Int) := by omega
    have hN8 : n ≤ 8 * N := by omega
    have hNle : N ≤ 512 := by omega
    have HNN := Lib.hid hN; clear hN
    have hmk := fun W => Go.run_make_row' (P := Tryz.prog) 25 5 (.int .u8 0) 1 Tryz.underlying25 info_u8 rfl .i64 .i64 N (by omega) (by omega) W
    go_enter Tryz.func14, Tryz.ntmps14
    go_wp2_with fail
    clear hNi hNi2 hmk
    go_loopw [18] (fun i wr => ∃ j : Nat, j ≤ n ∧ i = .int .i64 j ∧ Hid (RefW w wr N j (packV (bit01 (l.take j)) 1 * 2 ^ (8 * N - j)))) (fun i _ => n - (intOf i).toNat)
    case atStart =>
      refine ⟨0, by omega, rfl, Lib.hid ⟨?_, (Below.refl w.heap.size w).alloc (Nat.le_refl _) _, ?_⟩⟩
      · rw [show packV (bit01 (l.take 0)) 1 = 0 from rfl, Nat.zero_mul, ← madeCells_bytes]
        exact Blk.new w _ _
      · rw [show packV (bit01 (l.take 0)) 1 = 0 from rfl, Nat.zero_mul, Nat.zero_mod]
    case round =>
      obtain ⟨j, hj, rfl, hin⟩ := hrel
      by_cases hlt : j < n
      · obtain ⟨b, o, hA, hbl, hcell⟩ := HR.out.at_ hlt
        subst hA
        have hc3 := (hin.out.2.1.cell (p := ⟨b, o + j, none⟩) hbl).trans hcell
        have hs := Lib.hid (bit01_snoc (l.take j) (l.getD j false))
        have ht := Lib.hid (takeB_snoc l j (by rw [HN.out]; exact hlt))
        clear hcell
        generalize l.getD j false = x at *
        generalize packV (bit01 (l.take j)) 1 = V at *
        cases x
        · have hz := Lib.hid (bit_zero (by omega) hin.out)
          clear hin
          go_wp2_with fail
          go_roundw
          case rel =>
            refine ⟨j + 1, by omega, by go_num, Lib.hid ?_⟩
            rw [ht.out, hs.out]
            exact hz.out
          case measure => simp [intOf] <;> omega
        · obtain ⟨d, hd, hc4, hf4, hd2, hd1, hor, hnew⟩ := bit_one (by omega) hin.out
          have HNW := Lib.hid hnew
          clear hnew hin
          go_wp2_with fail
          go_region
          all_goals go_wp2_with fail
          go_roundw
          case rel =>
            refine ⟨j + 1, by omega, by go_num, Lib.hid ?_⟩
            rw [ht.out, hs.out]
            first | exact RefW.drew HNW | omega               
          case measure => simp [intOf] <;> omega
      · obtain rfl : j = n := by omega
        have hfin := hin.out
        rw [List.take_of_length_le (by rw [HN.out]; exact Nat.le_refl _)] at hfin
        obtain ⟨f1, f2, f3⟩ := hfin
        have e : bytesB l = bytesOf (packV (bit01 l) 1 * 2 ^ (8 * N - j)) N := by
          unfold bytesB; rw [HN.out, ← HNN.out]
        have hsl := Sl_of_blk (l := bytesB l) (N := N) (by rw [e]; exact f1) (by rw [e, bytesOf_len]) (by omega)
        have hu : U8 (bytesB l) := by rw [e]; exact bytesOf_u8 _ _
        have HS := Lib.hid hsl; have HU := Lib.hid hu; have HB := Lib.hid f2
        clear hsl hu f1 f2 f3 e hin
        go_wp2_with fail
        refine (Put5_any _ _ _ _ (bytesB l) HS.out.1 HU.out HS.out.2.1 HS.out.2.2 r er HL.out).mono ?_; rintro e w4 ⟨G4, n4, c4, rfl, hs4, hb4⟩
        go_wp2_with fail
        go_ret2
        exact ⟨_, _, _, rfl, hs4, on HB.out hb4⟩

set_option maxRecDepth 100000 in
set_option maxHeartbeats 2000000 in
theorem refBPut_any (w : World) (A : Option Addr) (n cap : Nat) (l : List Bool) (hr : Rb w A n l) (hn : n ≤ 1000000) (r : List Int) (er : Int) (hl : putB l = (r, er)) :
    Calls Tryz.prog 25 #[.slice A n cap] w (BytesErr w r er) := by
  have HR := Lib.hid hr; have HN := Lib.hid hr.len
  unfold putB at hl
  rw [hr.len] at hl
  clear hr
  by_cases hbig : 4096 < n
  · rw [if_pos hbig] at hl
    injection hl with e1 e2
    subst e1 e2
    go_enter Tryz.func25, Tryz.ntmps25
    go_wp2_with fail
    go_ret2
    exact ⟨none, 0, 0, rfl, Sl.nil _ _, Below.refl _ _⟩
  · rw [if_neg hbig] at hl
    have HL := Lib.hid hl; clear hl
    obtain ⟨N, hN⟩ : ∃ N, N = (n + 7) / 8 := ⟨_, rfl⟩
    have hNi : ((n : Int) + 7) / 8 = (N : Int) := by omega
    have hNi2 : ((n : Int) + 8 - 1) / 8 = (N : Int) := by omega
    have hN8 : n ≤ 8 * N := by omega
    have hNle : N ≤ 512 := by omega
    have HNN := Lib.hid hN; clear hN
    have hmk := fun W => Go.run_make_row' (P := Tryz.prog) 25 5 (.int .u8 0) 1 Tryz.underlying25 info_u8 rfl .i64 .i64 N (by omega) (by omega) W
    go_enter Tryz.func25, Tryz.ntmps25
    go_wp2_with fail
    clear hNi hNi2 hmk
    go_loopw [5] (fun i wr => ∃ j : Nat, j ≤ n ∧ i = .int .i64 j ∧ Hid (RefW w wr N j (packV (bit01 (l.take j)) 1 * 2 ^ (8 * N - j)))) (fun i _ => n - (intOf i).toNat)
    case atStart =>
      refine ⟨0, by omega, rfl, Lib.hid ⟨?_, (Below.refl w.heap.size w).alloc (Nat.le_refl _) _, ?_⟩⟩
      · rw [show packV (bit01 (l.take 0)) 1 = 0 from rfl, Nat.zero_mul, ← madeCells_bytes]
        exact Blk.new w _ _
      · rw [show packV (bit01 (l.take 0)) 1 = 0 from rfl, Nat.zero_mul, Nat.zero_mod]
    case round =>
      obtain ⟨j, hj, rfl, hin⟩ := hrel
      by_cases hlt : j < n
      · obtain ⟨b, o, hA, hbl, hcell⟩ := HR.out.at_ hlt
        subst hA
        have hc3 := (hin.out.2.1.cell (p := ⟨b, o + j, none⟩) hbl).trans hcell
        have hs := Lib.hid (bit01_snoc (l.take j) (l.getD j false))
        have ht := Lib.hid (takeB_snoc l j (by rw [HN.out]; exact hlt))
        clear hcell
        generalize l.getD j false = x at *
        generalize packV (bit01 (l.take j)) 1 = V at *
        cases x
        · have hz := Lib.hid (bit_zero (by omega) hin.out)
          clear hin
          go_wp2_with fail
          go_roundw
          case rel =>
            refine ⟨j + 1, by omega, by go_num, Lib.hid ?_⟩
            rw [ht.out, hs.out]
            exact hz.out
          case measure => simp [intOf] <;> omega
        · obtain ⟨d, hd, hc4, hf4, hd2, hd1, hor, hnew⟩ := bit_one (by omega) hin.out
          have HNW := Lib.hid hnew
          clear hnew hin
          go_wp2_with fail
          go_region
          all_goals go_wp2_with fail
          go_roundw
          case rel =>
            refine ⟨j + 1, by omega, by go_num, Lib.hid ?_⟩
            rw [ht.out, hs.out]
            first | exact RefW.drew HNW | omega               
          case measure => simp [intOf] <;> omega
      · obtain rfl : j = n := by omega
        have hfin := hin.out
        rw [List.take_of_length_le (by rw [HN.out]; exact Nat.le_refl _)] at hfin
        obtain ⟨f1, f2, f3⟩ := hfin
        have e : bytesB l = bytesOf (packV (bit01 l) 1 * 2 ^ (8 * N - j)) N := by
          unfold bytesB; rw [HN.out, ← HNN.out]
        have hsl := Sl_of_blk (l := bytesB l) (N := N) (by rw [e]; exact f1) (by rw [e, bytesOf_len]) (by omega)
        have hu : U8 (bytesB l) := by rw [e]; exact bytesOf_u8 _ _
        have HS := Lib.hid hsl; have HU := Lib.hid hu; have HB := Lib.hid f2
        clear hsl hu f1 f2 f3 e hin
        go_wp2_with fail
        refine (refPut5_any _ _ _ _ (bytesB l) HS.out.1 HU.out HS.out.2.1 (by omega) r er HL.out).mono ?_; rintro e w4 ⟨G4, n4, c4, rfl, hs4, hb4⟩
        go_wp2_with fail
        go_ret2
        exact ⟨_, _, _, rfl, hs4, on HB.out hb4⟩
end Go.Proofs.YtbmooemlekckbaaGreatDoor

/- slices.Concat of 5 slices of bytes. -/
namespace Go.Proofs.YtbmooemlekckbaaGreatDoor
open Go.RowKit

set_option maxRecDepth 100000 in
set_option maxHeartbeats 2000000 in
theorem Concat5_any (w : World) (b : Nat) (A0 : Option Addr) (n0 c0 : Nat) (l0 : List Int) (A1 : Option Addr) (n1 c1 : Nat) (l1 : List Int) (A2 : Option Addr) (n2 c2 : Nat) (l2 : List Int) (A3 : Option Addr) (n3 c3 : Nat) (l3 : List Int) (A4 : Option Addr) (n4 c4 : Nat) (l4 : List Int)
    (hb : Blk w b 25 #[.slice A0 n0 c0, .slice A1 n1 c1, .slice A2 n2 c2, .slice A3 n3 c3, .slice A4 n4 c4]) (h0 : Ri w .u8 A0 n0 l0) (h1 : Ri w .u8 A1 n1 l1) (h2 : Ri w .u8 A2 n2 l2) (h3 : Ri w .u8 A3 n3 l3) (h4 : Ri w .u8 A4 n4 l4) (m0 : n0 ≤ 1000000) (m1 : n1 ≤ 1000000) (m2 : n2 ≤ 1000000) (m3 : n3 ≤ 1000000) (m4 : n4 ≤ 1000000) :
    Calls Tryz.prog 116 #[.slice (some ⟨b, 0, none⟩) 5 5] w (BytesOut w (l0 ++ l1 ++ l2 ++ l3 ++ l4)) := by
  have H0 := Lib.hid h0
  have H1 := Lib.hid h1
  have H2 := Lib.hid h2
  have H3 := Lib.hid h3
  have H4 := Lib.hid h4
  have hlt := hb.lt
  have g0 : w.cell? ⟨b, 0, none⟩ = some (.slice A0 n0 c0) := (hb.cell 0).trans rfl
  have g1 : w.cell? ⟨b, 1, none⟩ = some (.slice A1 n1 c1) := (hb.cell 1).trans rfl
  have g2 : w.cell? ⟨b, 2, none⟩ = some (.slice A2 n2 c2) := (hb.cell 2).trans rfl
  have g3 : w.cell? ⟨b, 3, none⟩ = some (.slice A3 n3 c3) := (hb.cell 3).trans rfl
  have g4 : w.cell? ⟨b, 4, none⟩ = some (.slice A4 n4 c4) := (hb.cell 4).trans rfl
  clear h0 h1 h2 h3 h4
  go_enter Tryz.func116, Tryz.ntmps116
  go_wp2_with fail
  refine wp_loop_rounds 6 ?_
  rw [rounds_succ]
  go_wp2_with fail
  rw [rounds_succ]
  go_wp2_with fail
  rw [rounds_succ]
  go_wp2_with fail
  rw [rounds_succ]
  go_wp2_with fail
  rw [rounds_succ]
  go_wp2_with fail
  rw [rounds_succ]
  go_wp2_with fail
  have hG := Grow_any w (n0 + n1 + n2 + n3 + n4) (by omega)
  simp only [Int.natCast_add] at hG
  refine hG.mono ?_; rintro e w1 ⟨G, c, rfl, hc, hown, hb1⟩
  clear hG g0 g1 g2 g3 g4
  have hq0 := (Blk.below_ hb hb1)
  have g0 : w1.cell? ⟨b, 0, none⟩ = some (.slice A0 n0 c0) := (hq0.cell 0).trans rfl
  have g1 : w1.cell? ⟨b, 1, none⟩ = some (.slice A1 n1 c1) := (hq0.cell 1).trans rfl
  have g2 : w1.cell? ⟨b, 2, none⟩ = some (.slice A2 n2 c2) := (hq0.cell 2).trans rfl
  have g3 : w1.cell? ⟨b, 3, none⟩ = some (.slice A3 n3 c3) := (hq0.cell 3).trans rfl
  have g4 : w1.cell? ⟨b, 4, none⟩ = some (.slice A4 n4 c4) := (hq0.cell 4).trans rfl
  go_wp2_with fail
  refine wp_loop_rounds 6 ?_
  rw [rounds_succ]
  go_wp2_with (at_builtin; refine wpList_u8 _ rfl (.tmp 31) (.tmp 32) rfl w.heap.size _ (0) ([]) rfl hown.out _ _ _ l0 rfl (H0.out.below hb1) (by omega) hb1.size ?_; intro G2 e2 w2 hown2 hgr2 _)
  rw [Nat.zero_add, List.nil_append] at hown2
  have hb2 := push0 hb1 (Nat.le_refl _) hown.out hgr2
  have HO2 := Lib.hid hown2
  clear g0 g1 g2 g3 g4
  have hq2 := (Blk.below_ hb hb2)
  have g0 : w2.cell? ⟨b, 0, none⟩ = some (.slice A0 n0 c0) := (hq2.cell 0).trans rfl
  have g1 : w2.cell? ⟨b, 1, none⟩ = some (.slice A1 n1 c1) := (hq2.cell 1).trans rfl
  have g2 : w2.cell? ⟨b, 2, none⟩ = some (.slice A2 n2 c2) := (hq2.cell 2).trans rfl
  have g3 : w2.cell? ⟨b, 3, none⟩ = some (.slice A3 n3 c3) := (hq2.cell 3).trans rfl
  have g4 : w2.cell? ⟨b, 4, none⟩ = some (.slice A4 n4 c4) := (hq2.cell 4).trans rfl
  clear hown2 hgr2
  go_wp2_with fail
  rw [rounds_succ]
  go_wp2_with (at_builtin; refine wpList_u8 _ rfl (.tmp 31) (.tmp 32) rfl w.heap.size _ (n0) (l0) rfl HO2.out _ _ _ l1 rfl (H1.out.below hb2) (by omega) hb2.size ?_; intro G3 e3 w3 hown3 hgr3 _)
  have hb3 := push0 hb2 (Nat.le_refl _) HO2.out hgr3
  have HO3 := Lib.hid hown3
  clear g0 g1 g2 g3 g4
  have hq3 := (Blk.below_ hb hb3)
  have g0 : w3.cell? ⟨b, 0, none⟩ = some (.slice A0 n0 c0) := (hq3.cell 0).trans rfl
  have g1 : w3.cell? ⟨b, 1, none⟩ = some (.slice A1 n1 c1) := (hq3.cell 1).trans rfl
  have g2 : w3.cell? ⟨b, 2, none⟩ = some (.slice A2 n2 c2) := (hq3.cell 2).trans rfl
  have g3 : w3.cell? ⟨b, 3, none⟩ = some (.slice A3 n3 c3) := (hq3.cell 3).trans rfl
  have g4 : w3.cell? ⟨b, 4, none⟩ = some (.slice A4 n4 c4) := (hq3.cell 4).trans rfl
  clear hown3 hgr3
  go_wp2_with fail
  rw [rounds_succ]
  go_wp2_with (at_builtin; refine wpList_u8 _ rfl (.tmp 31) (.tmp 32) rfl w.heap.size _ (n0 + n1) (l0 ++ l1) rfl HO3.out _ _ _ l2 rfl (H2.out.below hb3) (by omega) hb3.size ?_; intro G4 e4 w4 hown4 hgr4 _)
  have hb4 := push0 hb3 (Nat.le_refl _) HO3.out hgr4
  have HO4 := Lib.hid hown4
  clear g0 g1 g2 g3 g4
  have hq4 := (Blk.below_ hb hb4)
  have g0 : w4.cell? ⟨b, 0, none⟩ = some (.slice A0 n0 c0) := (hq4.cell 0).trans rfl
  have g1 : w4.cell? ⟨b, 1, none⟩ = some (.slice A1 n1 c1) := (hq4.cell 1).trans rfl
  have g2 : w4.cell? ⟨b, 2, none⟩ = some (.slice A2 n2 c2) := (hq4.cell 2).trans rfl
  have g3 : w4.cell? ⟨b, 3, none⟩ = some (.slice A3 n3 c3) := (hq4.cell 3).trans rfl
  have g4 : w4.cell? ⟨b, 4, none⟩ = some (.slice A4 n4 c4) := (hq4.cell 4).trans rfl
  clear hown4 hgr4
  go_wp2_with fail
  rw [rounds_succ]
  go_wp2_with (at_builtin; refine wpList_u8 _ rfl (.tmp 31) (.tmp 32) rfl w.heap.size _ (n0 + n1 + n2) (l0 ++ l1 ++ l2) rfl HO4.out _ _ _ l3 rfl (H3.out.below hb4) (by omega) hb4.size ?_; intro G5 e5 w5 hown5 hgr5 _)
  have hb5 := push0 hb4 (Nat.le_refl _) HO4.out hgr5
  have HO5 := Lib.hid hown5
  clear g0 g1 g2 g3 g4
  have hq5 := (Blk.below_ hb hb5)
  have g0 : w5.cell? ⟨b, 0, none⟩ = some (.slice A0 n0 c0) := (hq5.cell 0).trans rfl
  have g1 : w5.cell? ⟨b, 1, none⟩ = some (.slice A1 n1 c1) := (hq5.cell 1).trans rfl
  have g2 : w5.cell? ⟨b, 2, none⟩ = some (.slice A2 n2 c2) := (hq5.cell 2).trans rfl
  have g3 : w5.cell? ⟨b, 3, none⟩ = some (.slice A3 n3 c3) := (hq5.cell 3).trans rfl
  have g4 : w5.cell? ⟨b, 4, none⟩ = some (.slice A4 n4 c4) := (hq5.cell 4).trans rfl
  clear hown5 hgr5
  go_wp2_with fail
  rw [rounds_succ]
  go_wp2_with (at_builtin; refine wpList_u8 _ rfl (.tmp 31) (.tmp 32) rfl w.heap.size _ (n0 + n1 + n2 + n3) (l0 ++ l1 ++ l2 ++ l3) rfl HO5.out _ _ _ l4 rfl (H4.out.below hb5) (by omega) hb5.size ?_; intro G6 e6 w6 hown6 hgr6 _)
  have hb6 := push0 hb5 (Nat.le_refl _) HO5.out hgr6
  have HO6 := Lib.hid hown6
  clear g0 g1 g2 g3 g4
  have hq6 := (Blk.below_ hb hb6)
  have g0 : w6.cell? ⟨b, 0, none⟩ = some (.slice A0 n0 c0) := (hq6.cell 0).trans rfl
  have g1 : w6.cell? ⟨b, 1, none⟩ = some (.slice A1 n1 c1) := (hq6.cell 1).trans rfl
  have g2 : w6.cell? ⟨b, 2, none⟩ = some (.slice A2 n2 c2) := (hq6.cell 2).trans rfl
  have g3 : w6.cell? ⟨b, 3, none⟩ = some (.slice A3 n3 c3) := (hq6.cell 3).trans rfl
  have g4 : w6.cell? ⟨b, 4, none⟩ = some (.slice A4 n4 c4) := (hq6.cell 4).trans rfl
  clear hown6 hgr6
  go_wp2_with fail
  rw [rounds_succ]
  go_wp2_with fail
  go_ret
  exact ⟨_, _, _, rfl, Sl.of_own HO6.out, hb6⟩
end Go.Proofs.YtbmooemlekckbaaGreatDoor

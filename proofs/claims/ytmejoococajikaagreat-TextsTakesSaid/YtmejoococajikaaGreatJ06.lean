/- Joined texts: RefPack, RefPackF. Each has its own head line. No condition beyond those that its theorems state. -/
import Derived.Test.YtmejoococajikaaGreatJ05
set_option linter.unusedVariables false

/- The reference of package bits: Size, Pack. -/
namespace Go.Proofs.YtmejoococajikaaGreat
open Go.RowKit

set_option maxHeartbeats 400000 in
theorem refSize_any (m x : Int) (w : World) :
    Calls Tryz.prog 131 #[.int .i64 m, .int .i64 x] w fun e w' => e = .returned (.int .i64 (sizeN m x)) ∧ w = w' := by
  rcases (show m < 0 ∨ (0 ≤ m ∧ 4096 < m) ∨ (0 ≤ m ∧ m ≤ 4096 ∧ x < 0) ∨ (0 ≤ m ∧ m ≤ 4096 ∧ 0 ≤ x ∧ 64 < x) ∨ (0 ≤ m ∧ m ≤ 4096 ∧ 0 ≤ x ∧ x ≤ 64) by omega) with h | ⟨h1, h2⟩ | ⟨h1, h2, h3⟩ | ⟨h1, h2, h3, h4⟩ | ⟨h1, h2, h3, h4⟩
  case inr.inr.inr.inr =>
    have HS : Hid (sizeN m x = (m * x + 7) / 8) := by
      show sizeN m x = _
      unfold sizeN
      rw [show fitsB m x = true from decide_eq_true (by omega)]; rfl
    have q1 : 0 ≤ m * x := Int.mul_nonneg h1 h3
    have q2 : m * x ≤ 4096 * 64 := Int.mul_le_mul h2 h4 h3 (by omega)
    go_enter Tryz.func131, Tryz.ntmps131
    go_wp2_with fail
    go_ret
    exact ⟨ret_int HS.out.symm, rfl⟩
  all_goals
    have HS : Hid (sizeN m x = 0) := by
      show sizeN m x = _
      unfold sizeN
      rw [show fitsB m x = false from decide_eq_false (by omega)]; rfl
    go_enter Tryz.func131, Tryz.ntmps131
    go_wp2_with fail
    go_ret
    exact ⟨ret_int HS.out.symm, rfl⟩

/-- The world while the reference packs. -/
def RefW (w0 wr : World) (N at_ X : Nat) : Prop :=
  Blk wr w0.heap.size 5 (bytesArr X N) ∧ Below w0.heap.size w0 wr ∧ X % 2 ^ (8 * N - at_) = 0

theorem and_bit (a : Nat) (h : a < 18446744073709551616) : bits BinOp.and IntKind.u64 (a : Int) 1 = ((a % 2 : Nat) : Int) := by
  rw [and_one_u64 _ (by omega) (by omega)]; rfl

theorem RefW.drew {w wi : World} {N p X : Nat} (h : Hid (RefW w wi N p X)) : Hid (RefW w wi.drew N p X) := ⟨h.out.1.drew, h.out.2.1.drew, h.out.2.2⟩
theorem shr128 (p : Nat) : (128 : Int) / 2 ^ (p % 8) = ((2 ^ (7 - p % 8) : Nat) : Int) := by
  have : p % 8 = 0 ∨ p % 8 = 1 ∨ p % 8 = 2 ∨ p % 8 = 3 ∨ p % 8 = 4 ∨ p % 8 = 5 ∨ p % 8 = 6 ∨ p % 8 = 7 := by omega
  rcases this with h | h | h | h | h | h | h | h <;> rw [h] <;> decide
theorem RefW_bit {w wi : World} {N a0 k V y s p : Nat} (hs : s + 1 ≤ k) (hak : a0 + k ≤ 8 * N) (hp : p = a0 + (k - (s + 1))) (hb : y / 2 ^ s % 2 = 1)
    (hin : RefW w wi N p ((V * 2 ^ (k - (s + 1)) + y / 2 ^ (s + 1)) * 2 ^ (8 * N - p))) :
    ∃ d : Nat, d < 256 ∧ wi.cell? ⟨w.heap.size, p / 8, none⟩ = some (.int .u8 d) ∧ wi.frozen? ⟨w.heap.size, p / 8, none⟩ = false ∧ (d : Int) + 128 / 2 ^ (p % 8) < 256 ∧ 0 < (128 : Int) / 2 ^ (p % 8) ∧
      RefW w (wi.setCell ⟨w.heap.size, p / 8, none⟩ (.int .u8 ((d : Int) + 128 / 2 ^ (p % 8)))) N (a0 + (k - s)) ((V * 2 ^ (k - s) + y / 2 ^ s) * 2 ^ (8 * N - (a0 + (k - s)))) := by
  obtain ⟨h1, h2, h3⟩ := hin
  obtain ⟨_, e2, e3⟩ := put_fits _ N p 1 1 (by omega) (by omega) h3 (by omega) (by omega)
  simp only [Nat.one_mul] at e2 e3
  have hj : p / 8 < N := by omega
  refine ⟨_, byteAt_lt _ N (p / 8), (h1.cell _).trans (bytesArr_get _ N _ hj), h1.frozen _, ?_, ?_, ?_, ?_, ?_⟩
  · rw [shr128]
    rw [show 8 - p % 8 - 1 = 7 - p % 8 from by omega] at e2
    omega
  · rw [shr128]
    have := Nat.two_pow_pos (7 - p % 8)
    omega
  · rw [shr128]
    have h := h1.set_ (p / 8) (.int .u8 ((byteAt ((V * 2 ^ (k - (s + 1)) + y / 2 ^ (s + 1)) * 2 ^ (8 * N - p)) N (p / 8) + 2 ^ (8 - p % 8 - 1) : Nat) : Int))
    rw [bytesArr_add _ N _ _ hj e2, ← e3] at h
    have hn := pack_num V y k s 1 (8 * N - p - 1) hs
    rw [hb, Nat.one_mul, show 8 * N - p - 1 + 1 = 8 * N - p from by omega] at hn
    rw [hn, show 8 - p % 8 - 1 = 7 - p % 8 from by omega, show 8 * N - p - 1 = 8 * N - (a0 + (k - s)) from by omega] at h
    exact h
  · exact h2.setCell (Nat.le_refl _) _
  · exact Nat.mul_mod_left _ _
theorem RefW_zero {w wi : World} {N a0 k V y s p : Nat} (hs : s + 1 ≤ k) (hak : a0 + k ≤ 8 * N) (hp : p = a0 + (k - (s + 1))) (hb : y / 2 ^ s % 2 = 0)
    (hin : RefW w wi N p ((V * 2 ^ (k - (s + 1)) + y / 2 ^ (s + 1)) * 2 ^ (8 * N - p))) :
      RefW w wi N (a0 + (k - s)) ((V * 2 ^ (k - s) + y / 2 ^ s) * 2 ^ (8 * N - (a0 + (k - s)))) := by
  obtain ⟨h1, h2, h3⟩ := hin
  have hn := pack_num V y k s 1 (8 * N - p - 1) hs
  rw [hb, Nat.zero_mul, Nat.add_zero, show 8 * N - p - 1 + 1 = 8 * N - p from by omega, show 8 * N - p - 1 = 8 * N - (a0 + (k - s)) from by omega] at hn
  rw [hn] at h1
  exact ⟨h1, h2, Nat.mul_mod_left _ _⟩

set_option maxRecDepth 100000 in
set_option maxHeartbeats 2000000 in
theorem refPack_any (w : World) (A : Option Addr) (n cap : Nat) (l : List Int) (x : Int) (hr : Ri w .u64 A n l) (hu : U64 l) (hn : n ≤ 1000000) (r : List Int) (er : Int) (hp : packR l x = (r, er)) :
    Calls Tryz.prog 89 #[.slice A n cap, .int .i64 x] w (BytesErr w r er) := by
  have HL := Lib.hid hr.len
  have HR := Lib.hid hr; clear hr
  have HU := Lib.hid hu; clear hu
  by_cases hx : x < 0 ∨ 64 < x
  · unfold packR at hp
    rw [if_pos hx] at hp
    injection hp with e1 e2
    subst e1 e2
    rcases hx with hx | hx
    all_goals
      go_enter Tryz.func89, Tryz.ntmps89
      go_wp2_with fail
      go_ret2
      exact ⟨none, 0, 0, rfl, Sl.nil _ _, Below.refl _ _⟩
  · unfold packR at hp
    rw [if_neg hx] at hp
    obtain ⟨k, rfl⟩ := Int.eq_ofNat_of_zero_le (show 0 ≤ x by omega)
    have hk : k ≤ 64 := by omega
    clear hx
    rw [Int.toNat_natCast, HL.out] at hp
    by_cases hbig : 4096 < n
    · rw [if_pos hbig] at hp
      injection hp with e1 e2
      subst e1 e2
      go_enter Tryz.func89, Tryz.ntmps89
      go_wp2_with fail
      go_ret2
      exact ⟨none, 0, 0, rfl, Sl.nil _ _, Below.refl _ _⟩
    · rw [if_neg hbig] at hp
      have HP := Lib.hid hp; clear hp
      obtain ⟨N, hN⟩ : ∃ N, N = (n * k + 7) / 8 := ⟨_, rfl⟩
      have hNle : N ≤ 32768 := by
        have : n * k ≤ 4096 * 64 := Nat.mul_le_mul (by omega) hk
        omega
      have hsz : Hid (sizeN n k = (N : Int)) := by
        show sizeN n k = _
        unfold sizeN
        rw [show fitsB n k = true from decide_eq_true (by omega), if_pos rfl, hN]
        rw [← Int.natCast_mul]; omega
      have HN := Lib.hid hN; clear hN
      have hmk := fun W => Go.run_make_row' (P := Tryz.prog) 38 5 (.int .u8 0) 1 Tryz.underlying38 info_u8 rfl .i64 .i64 N (by omega) (by omega) W
      go_enter Tryz.func89, Tryz.ntmps89
      go_wp2_with fail
      refine (refSize_any _ _ _).mono ?_; rintro e w' ⟨rfl, rfl⟩
      rw [hsz.out]
      go_wp2_with fail
      go_loopw [7, 8] (fun a i wr => ∃ j : Nat, j ≤ n ∧ i = .int .i64 j ∧ Hid (a = .int .i64 ((j * k : Nat) : Int)) ∧ Hid (RefW w wr N (j * k) (packV (l.take j) k * 2 ^ (8 * N - j * k)) ∧ (l.take j).all (roomB k) = true)) (fun _ i _ => n - (intOf i).toNat)
      case atStart =>
        refine ⟨0, by omega, rfl, by show Value.int .i64 0 = _; rw [Nat.zero_mul]; rfl, Lib.hid ⟨?_, by simp⟩⟩
        rw [show packV (l.take 0) k = 0 from rfl]
        simp only [Nat.zero_mul, Nat.sub_zero]
        refine ⟨?_, ?_, Nat.zero_mod _⟩
        · rw [← madeCells_bytes]
          exact Blk.new w _ _
        · exact (Below.refl _ _).alloc (Nat.le_refl _) _
      case round =>
        obtain ⟨j, hj, rfl, haa, hpw⟩ := hrel
        obtain ⟨a0, ha0⟩ : ∃ a0, a0 = j * k := ⟨_, rfl⟩
        have haa2 := haa.out
        rw [← ha0] at haa2
        subst haa2
        clear haa
        have HA0 := Lib.hid ha0
        have hpw2 := hpw.out
        rw [← ha0] at hpw2
        have HPW := Lib.hid hpw2
        clear hpw hpw2 ha0
        by_cases hlt : j < n
        · obtain ⟨b, o, hA, hbl, hcell⟩ := HR.out.at_ hlt
          subst hA
          have hy := HU.out _ (getD_mem l j (by rw [HL.out]; exact hlt))
          obtain ⟨y, hyy⟩ : ∃ y : Nat, (y : Int) = l.getD j 0 := ⟨(l.getD j 0).toNat, by omega⟩
          rw [← hyy] at hcell hy
          have HY1 := Lib.hid hy; clear hy
          have HY := Lib.hid hyy; clear hyy
          have HCW := Lib.hid hcell
          have hc2 := (HPW.out.1.2.1.cell (p := ⟨b, o + j, none⟩) hbl).trans hcell
          clear hcell
          have hak : a0 + k ≤ 8 * N := by
            have h1 : (j + 1) * k ≤ n * k := Nat.mul_le_mul_right _ hlt
            rw [Nat.add_mul, Nat.one_mul, ← HA0.out] at h1
            have := HN.out
            omega
          by_cases hroom : roomB k (l.getD j 0) = true
          · have hgood : k = 64 ∨ y < 2 ^ k := by
              have := of_decide_eq_true hroom
              rw [← HY.out, Int.toNat_natCast] at this
              exact this
            have hq : (k < 64 ∧ Hid (((y : Int) / 2 ^ k != 0) = false)) ∨ 64 ≤ k := by
              rcases hgood with h | h
              · exact .inr (by omega)
              · rcases Nat.lt_or_ge k 64 with h2 | h2
                · refine .inl ⟨h2, ?_⟩
                  show ((y : Int) / 2 ^ k != 0) = false
                  rw [cast_shr, Nat.div_eq_of_lt h]; rfl
                · exact .inr (by omega)
            have hylt : Hid (y < 2 ^ k) := by
              show y < 2 ^ k
              rcases hgood with h | h
              · subst h; have := HY1.out; omega
              · exact h
            obtain ⟨V, hV⟩ : ∃ V, V = packV (l.take j) k := ⟨_, rfl⟩
            have hpw2 := HPW.out
            rw [← hV] at hpw2
            have HPV := Lib.hid hpw2
            have HV := Lib.hid hV
            clear hpw2 hV HPW hgood
            have hq0 : k < 64 → ((y : Int) / 2 ^ k != 0) = false := fun h => hq.elim (fun q => q.2.out) (fun q => absurd h (by omega))
            have hk64 := Nat.lt_or_ge k 64
            clear hq
            rcases hk64 with hk64 | hk64
            all_goals
              first | have hq2 := hq0 hk64 | skip
              clear hq0
              go_wp2_with fail
              try clear hq2
              clear hc2
              go_loopw [7, 9] (fun a q wi => ∃ t p : Nat, t ≤ k ∧ a = .int .i64 p ∧ q = .int .i64 ((t : Int) - 1) ∧ p + t = a0 + k ∧ Hid (RefW w wi N p ((V * 2 ^ (k - t) + y / 2 ^ t) * 2 ^ (8 * N - p)))) (fun _ q _ => (intOf q + 1).toNat)
              case atStart =>
                refine ⟨k, a0, Nat.le_refl _, rfl, rfl, by omega, Lib.hid ?_⟩
                rw [Nat.sub_self, Nat.div_eq_of_lt hylt.out, Nat.pow_zero, Nat.mul_one]
                exact HPV.out.1
              case round =>
                obtain ⟨t, p, ht, rfl, hq1, hp, hin⟩ := hrel
                rcases Nat.eq_zero_or_pos t with ht0 | ht0
                · subst ht0
                  subst hq1
                  go_wp2_with fail
                  go_roundw
                  case rel =>
                    have hpk : p = (j + 1) * k := by rw [Nat.add_mul, Nat.one_mul, ← HA0.out]; omega
                    subst hpk
                    refine ⟨j + 1, by omega, by go_num, Lib.hid rfl, Lib.hid ⟨?_, ?_⟩⟩
                    · have h := hin.out
                      rw [Nat.sub_zero, Nat.pow_zero, Nat.div_one] at h
                      rw [take_snoc l j (by rw [HL.out]; exact hlt), packV_snoc, ← HV.out, ← HY.out, Int.toNat_natCast]
                      exact h
                    · rw [take_snoc l j (by rw [HL.out]; exact hlt), List.all_append, HPV.out.2, List.all_cons, hroom, List.all_nil]; rfl
                  case measure => simp [intOf] <;> omega
                · obtain ⟨s, rfl⟩ : ∃ s, t = s + 1 := ⟨t - 1, by omega⟩
                  rw [show ((s + 1 : Nat) : Int) - 1 = (s : Int) from by omega] at hq1
                  subst hq1
                  have hc2 := (hin.out.2.1.cell (p := ⟨b, o + j, none⟩) hbl).trans HCW.out
                  have hys : Hid (y / 2 ^ s < 18446744073709551616) := by
                    show y / 2 ^ s < _
                    exact Nat.lt_of_le_of_lt (Nat.div_le_self _ _) (by have := HY1.out; omega)
                  rcases Nat.mod_two_eq_zero_or_one (y / 2 ^ s) with hb | hb
                  · have hbit : (bits BinOp.and IntKind.u64 ((y : Int) / 2 ^ s) 1 == 1) = false := by
                      rw [cast_shr, and_bit _ hys.out, hb]; rfl
                    have HB := Lib.hid (RefW_zero ht hak (by omega) hb hin.out)
                    clear hb hin
                    go_wp2_with fail
                    go_roundw
                    case rel => exact ⟨s, p + 1, by omega, by go_num, by go_num, by omega, by rw [show p + 1 = a0 + (k - s) from by omega]; exact HB⟩
                    case measure => simp [intOf] <;> omega
                  · have hbit : (bits BinOp.and IntKind.u64 ((y : Int) / 2 ^ s) 1 == 1) = true := by
                      rw [cast_shr, and_bit _ hys.out, hb]; rfl
                    obtain ⟨d, hd, hc3, hf3, hd2, hd1, hnew⟩ := RefW_bit ht hak (by omega) hb hin.out
                    have HNW := Lib.hid hnew
                    clear hnew hb hin
                    go_wp2_with fail
                    go_region
                    all_goals go_wp2_with fail
                    go_roundw
                    case rel =>
                      rw [← show p + 1 = a0 + (k - s) from by omega] at HNW
                      exact ⟨s, p + 1, by omega, by go_num, by go_num, by omega, RefW.drew HNW⟩
                    case measure => simp [intOf] <;> omega
          · have hbad : k < 64 ∧ Hid (((y : Int) / 2 ^ k != 0) = true) := by
              have h1 : ¬ (k = 64 ∨ (l.getD j 0).toNat < 2 ^ k) := fun h => hroom (decide_eq_true h)
              rw [← HY.out, Int.toNat_natCast] at h1
              refine ⟨by omega, ?_⟩
              show ((y : Int) / 2 ^ k != 0) = true
              have h2 : 2 ^ k ≤ y := by omega
              have h3 : 1 ≤ y / 2 ^ k := (Nat.le_div_iff_mul_le (Nat.two_pow_pos _)).2 (by omega)
              rw [cast_shr]
              exact bne_iff_ne.2 (by omega)
            have hp := HP.out
            rw [if_neg (by
              intro h
              exact hroom (List.all_eq_true.1 h _ (getD_mem l j (by rw [HL.out]; exact hlt))))] at hp
            injection hp with e1 e2
            subst e1 e2
            obtain ⟨hk64, hq⟩ := hbad
            have hq2 := hq.out
            go_wp2_with fail
            go_ret2
            exact ⟨none, 0, 0, rfl, Sl.nil _ _, HPW.out.1.2.1⟩
        · obtain rfl : j = n := by omega
          have hp := HP.out
          have hall := HPW.out.2
          rw [List.take_of_length_le (by rw [HL.out]; exact Nat.le_refl _)] at hall
          rw [if_pos hall] at hp
          injection hp with e1 e2
          subst e2
          have hpw1 := HPW.out.1
          rw [List.take_of_length_le (by rw [HL.out]; exact Nat.le_refl _)] at hpw1
          have HW := Lib.hid hpw1
          have HE := Lib.hid e1
          clear hall hpw1 e1
          go_wp2_with fail
          go_ret2
          refine ⟨_, _, _, rfl, ?_, HW.out.2.1⟩
          rw [← HE.out, ← HN.out, ← HA0.out]
          exact Sl_of_blk HW.out.1 (bytesOf_len _ _) (by omega)
end Go.Proofs.YtmejoococajikaaGreat

/- The reference of bits.Pack: what it answers lies in a block of its own (printed by wip/refpackf.py out of XRefPack). -/
namespace Go.Proofs.YtmejoococajikaaGreat
open Go.RowKit

/-- Bytes in a new block, and an error's number, are handed back. -/
def BytesNew (w : World) (l : List Int) (er : Int) (e : Ending) (w' : World) : Prop :=
  ∃ G n c, e = .returned (.tuple #[.slice G n c, .int .i64 er]) ∧ Sl w' .u8 G n c l ∧ Below w.heap.size w w' ∧ ∀ g o, G = some ⟨g, o, none⟩ → w.heap.size ≤ g
set_option maxRecDepth 100000 in
set_option maxHeartbeats 2000000 in
theorem refPackF_any (w : World) (A : Option Addr) (n cap : Nat) (l : List Int) (x : Int) (hr : Ri w .u64 A n l) (hu : U64 l) (hn : n ≤ 1000000) (r : List Int) (er : Int) (hp : packR l x = (r, er)) :
    Calls Tryz.prog 89 #[.slice A n cap, .int .i64 x] w (BytesNew w r er) := by
  have HL := Lib.hid hr.len
  have HR := Lib.hid hr; clear hr
  have HU := Lib.hid hu; clear hu
  by_cases hx : x < 0 ∨ 64 < x
  · unfold packR at hp
    rw [if_pos hx] at hp
    injection hp with e1 e2
    subst e1 e2
    rcases hx with hx | hx
    all_goals
      go_enter Tryz.func89, Tryz.ntmps89
      go_wp2_with fail
      go_ret2
      exact ⟨none, 0, 0, rfl, Sl.nil _ _, Below.refl _ _, fun _ _ h => by cases h⟩
  · unfold packR at hp
    rw [if_neg hx] at hp
    obtain ⟨k, rfl⟩ := Int.eq_ofNat_of_zero_le (show 0 ≤ x by omega)
    have hk : k ≤ 64 := by omega
    clear hx
    rw [Int.toNat_natCast, HL.out] at hp
    by_cases hbig : 4096 < n
    · rw [if_pos hbig] at hp
      injection hp with e1 e2
      subst e1 e2
      go_enter Tryz.func89, Tryz.ntmps89
      go_wp2_with fail
      go_ret2
      exact ⟨none, 0, 0, rfl, Sl.nil _ _, Below.refl _ _, fun _ _ h => by cases h⟩
    · rw [if_neg hbig] at hp
      have HP := Lib.hid hp; clear hp
      obtain ⟨N, hN⟩ : ∃ N, N = (n * k + 7) / 8 := ⟨_, rfl⟩
      have hNle : N ≤ 32768 := by
        have : n * k ≤ 4096 * 64 := Nat.mul_le_mul (by omega) hk
        omega
      have hsz : Hid (sizeN n k = (N : Int)) := by
        show sizeN n k = _
        unfold sizeN
        rw [show fitsB n k = true from decide_eq_true (by omega), if_pos rfl, hN]
        rw [← Int.natCast_mul]; omega
      have HN := Lib.hid hN; clear hN
      have hmk := fun W => Go.run_make_row' (P := Tryz.prog) 38 5 (.int .u8 0) 1 Tryz.underlying38 info_u8 rfl .i64 .i64 N (by omega) (by omega) W
      go_enter Tryz.func89, Tryz.ntmps89
      go_wp2_with fail
      refine (refSize_any _ _ _).mono ?_; rintro e w' ⟨rfl, rfl⟩
      rw [hsz.out]
      go_wp2_with fail
      go_loopw [7, 8] (fun a i wr => ∃ j : Nat, j ≤ n ∧ i = .int .i64 j ∧ Hid (a = .int .i64 ((j * k : Nat) : Int)) ∧ Hid (RefW w wr N (j * k) (packV (l.take j) k * 2 ^ (8 * N - j * k)) ∧ (l.take j).all (roomB k) = true)) (fun _ i _ => n - (intOf i).toNat)
      case atStart =>
        refine ⟨0, by omega, rfl, by show Value.int .i64 0 = _; rw [Nat.zero_mul]; rfl, Lib.hid ⟨?_, by simp⟩⟩
        rw [show packV (l.take 0) k = 0 from rfl]
        simp only [Nat.zero_mul, Nat.sub_zero]
        refine ⟨?_, ?_, Nat.zero_mod _⟩
        · rw [← madeCells_bytes]
          exact Blk.new w _ _
        · exact (Below.refl _ _).alloc (Nat.le_refl _) _
      case round =>
        obtain ⟨j, hj, rfl, haa, hpw⟩ := hrel
        obtain ⟨a0, ha0⟩ : ∃ a0, a0 = j * k := ⟨_, rfl⟩
        have haa2 := haa.out
        rw [← ha0] at haa2
        subst haa2
        clear haa
        have HA0 := Lib.hid ha0
        have hpw2 := hpw.out
        rw [← ha0] at hpw2
        have HPW := Lib.hid hpw2
        clear hpw hpw2 ha0
        by_cases hlt : j < n
        · obtain ⟨b, o, hA, hbl, hcell⟩ := HR.out.at_ hlt
          subst hA
          have hy := HU.out _ (getD_mem l j (by rw [HL.out]; exact hlt))
          obtain ⟨y, hyy⟩ : ∃ y : Nat, (y : Int) = l.getD j 0 := ⟨(l.getD j 0).toNat, by omega⟩
          rw [← hyy] at hcell hy
          have HY1 := Lib.hid hy; clear hy
          have HY := Lib.hid hyy; clear hyy
          have HCW := Lib.hid hcell
          have hc2 := (HPW.out.1.2.1.cell (p := ⟨b, o + j, none⟩) hbl).trans hcell
          clear hcell
          have hak : a0 + k ≤ 8 * N := by
            have h1 : (j + 1) * k ≤ n * k := Nat.mul_le_mul_right _ hlt
            rw [Nat.add_mul, Nat.one_mul, ← HA0.out] at h1
            have := HN.out
            omega
          by_cases hroom : roomB k (l.getD j 0) = true
          · have hgood : k = 64 ∨ y < 2 ^ k := by
              have := of_decide_eq_true hroom
              rw [← HY.out, Int.toNat_natCast] at this
              exact this
            have hq : (k < 64 ∧ Hid (((y : Int) / 2 ^ k != 0) = false)) ∨ 64 ≤ k := by
              rcases hgood with h | h
              · exact .inr (by omega)
              · rcases Nat.lt_or_ge k 64 with h2 | h2
                · refine .inl ⟨h2, ?_⟩
                  show ((y : Int) / 2 ^ k != 0) = false
                  rw [cast_shr, Nat.div_eq_of_lt h]; rfl
                · exact .inr (by omega)
            have hylt : Hid (y < 2 ^ k) := by
              show y < 2 ^ k
              rcases hgood with h | h
              · subst h; have := HY1.out; omega
              · exact h
            obtain ⟨V, hV⟩ : ∃ V, V = packV (l.take j) k := ⟨_, rfl⟩
            have hpw2 := HPW.out
            rw [← hV] at hpw2
            have HPV := Lib.hid hpw2
            have HV := Lib.hid hV
            clear hpw2 hV HPW hgood
            have hq0 : k < 64 → ((y : Int) / 2 ^ k != 0) = false := fun h => hq.elim (fun q => q.2.out) (fun q => absurd h (by omega))
            have hk64 := Nat.lt_or_ge k 64
            clear hq
            rcases hk64 with hk64 | hk64
            all_goals
              first | have hq2 := hq0 hk64 | skip
              clear hq0
              go_wp2_with fail
              try clear hq2
              clear hc2
              go_loopw [7, 9] (fun a q wi => ∃ t p : Nat, t ≤ k ∧ a = .int .i64 p ∧ q = .int .i64 ((t : Int) - 1) ∧ p + t = a0 + k ∧ Hid (RefW w wi N p ((V * 2 ^ (k - t) + y / 2 ^ t) * 2 ^ (8 * N - p)))) (fun _ q _ => (intOf q + 1).toNat)
              case atStart =>
                refine ⟨k, a0, Nat.le_refl _, rfl, rfl, by omega, Lib.hid ?_⟩
                rw [Nat.sub_self, Nat.div_eq_of_lt hylt.out, Nat.pow_zero, Nat.mul_one]
                exact HPV.out.1
              case round =>
                obtain ⟨t, p, ht, rfl, hq1, hp, hin⟩ := hrel
                rcases Nat.eq_zero_or_pos t with ht0 | ht0
                · subst ht0
                  subst hq1
                  go_wp2_with fail
                  go_roundw
                  case rel =>
                    have hpk : p = (j + 1) * k := by rw [Nat.add_mul, Nat.one_mul, ← HA0.out]; omega
                    subst hpk
                    refine ⟨j + 1, by omega, by go_num, Lib.hid rfl, Lib.hid ⟨?_, ?_⟩⟩
                    · have h := hin.out
                      rw [Nat.sub_zero, Nat.pow_zero, Nat.div_one] at h
                      rw [take_snoc l j (by rw [HL.out]; exact hlt), packV_snoc, ← HV.out, ← HY.out, Int.toNat_natCast]
                      exact h
                    · rw [take_snoc l j (by rw [HL.out]; exact hlt), List.all_append, HPV.out.2, List.all_cons, hroom, List.all_nil]; rfl
                  case measure => simp [intOf] <;> omega
                · obtain ⟨s, rfl⟩ : ∃ s, t = s + 1 := ⟨t - 1, by omega⟩
                  rw [show ((s + 1 : Nat) : Int) - 1 = (s : Int) from by omega] at hq1
                  subst hq1
                  have hc2 := (hin.out.2.1.cell (p := ⟨b, o + j, none⟩) hbl).trans HCW.out
                  have hys : Hid (y / 2 ^ s < 18446744073709551616) := by
                    show y / 2 ^ s < _
                    exact Nat.lt_of_le_of_lt (Nat.div_le_self _ _) (by have := HY1.out; omega)
                  rcases Nat.mod_two_eq_zero_or_one (y / 2 ^ s) with hb | hb
                  · have hbit : (bits BinOp.and IntKind.u64 ((y : Int) / 2 ^ s) 1 == 1) = false := by
                      rw [cast_shr, and_bit _ hys.out, hb]; rfl
                    have HB := Lib.hid (RefW_zero ht hak (by omega) hb hin.out)
                    clear hb hin
                    go_wp2_with fail
                    go_roundw
                    case rel => exact ⟨s, p + 1, by omega, by go_num, by go_num, by omega, by rw [show p + 1 = a0 + (k - s) from by omega]; exact HB⟩
                    case measure => simp [intOf] <;> omega
                  · have hbit : (bits BinOp.and IntKind.u64 ((y : Int) / 2 ^ s) 1 == 1) = true := by
                      rw [cast_shr, and_bit _ hys.out, hb]; rfl
                    obtain ⟨d, hd, hc3, hf3, hd2, hd1, hnew⟩ := RefW_bit ht hak (by omega) hb hin.out
                    have HNW := Lib.hid hnew
                    clear hnew hb hin
                    go_wp2_with fail
                    go_region
                    all_goals go_wp2_with fail
                    go_roundw
                    case rel =>
                      rw [← show p + 1 = a0 + (k - s) from by omega] at HNW
                      exact ⟨s, p + 1, by omega, by go_num, by go_num, by omega, RefW.drew HNW⟩
                    case measure => simp [intOf] <;> omega
          · have hbad : k < 64 ∧ Hid (((y : Int) / 2 ^ k != 0) = true) := by
              have h1 : ¬ (k = 64 ∨ (l.getD j 0).toNat < 2 ^ k) := fun h => hroom (decide_eq_true h)
              rw [← HY.out, Int.toNat_natCast] at h1
              refine ⟨by omega, ?_⟩
              show ((y : Int) / 2 ^ k != 0) = true
              have h2 : 2 ^ k ≤ y := by omega
              have h3 : 1 ≤ y / 2 ^ k := (Nat.le_div_iff_mul_le (Nat.two_pow_pos _)).2 (by omega)
              rw [cast_shr]
              exact bne_iff_ne.2 (by omega)
            have hp := HP.out
            rw [if_neg (by
              intro h
              exact hroom (List.all_eq_true.1 h _ (getD_mem l j (by rw [HL.out]; exact hlt))))] at hp
            injection hp with e1 e2
            subst e1 e2
            obtain ⟨hk64, hq⟩ := hbad
            have hq2 := hq.out
            go_wp2_with fail
            go_ret2
            exact ⟨none, 0, 0, rfl, Sl.nil _ _, HPW.out.1.2.1, fun _ _ h => by cases h⟩
        · obtain rfl : j = n := by omega
          have hp := HP.out
          have hall := HPW.out.2
          rw [List.take_of_length_le (by rw [HL.out]; exact Nat.le_refl _)] at hall
          rw [if_pos hall] at hp
          injection hp with e1 e2
          subst e2
          have hpw1 := HPW.out.1
          rw [List.take_of_length_le (by rw [HL.out]; exact Nat.le_refl _)] at hpw1
          have HW := Lib.hid hpw1
          have HE := Lib.hid e1
          clear hall hpw1 e1
          go_wp2_with fail
          go_ret2
          refine ⟨_, _, _, rfl, ?_, HW.out.2.1, fun g o h => by injection h with h; injection h with h; omega⟩
          rw [← HE.out, ← HN.out, ← HA0.out]
          exact Sl_of_blk HW.out.1 (bytesOf_len _ _) (by omega)
end Go.Proofs.YtmejoococajikaaGreat

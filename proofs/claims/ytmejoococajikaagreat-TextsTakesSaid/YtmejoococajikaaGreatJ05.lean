/- Joined texts: Pack. Each has its own head line. No condition beyond those that its theorems state. -/
import Derived.StillTailTactics
import Derived.Test.YtmejoococajikaaGreatJ04
set_option linter.unusedVariables false

/- bits.Pack. -/
namespace Go.Proofs.YtmejoococajikaaGreat
open Go.RowKit

/-- All numbers as one, each of x bits. -/
def packV (l : List Int) (x : Nat) : Nat := l.foldl (fun v y => v * 2 ^ x + y.toNat) 0
theorem packV_snoc (l : List Int) (x : Nat) (y : Int) : packV (l ++ [y]) x = packV l x * 2 ^ x + y.toNat := by simp [packV]
/-- A number has room in x bits. -/
def roomB (x : Nat) (y : Int) : Bool := decide (x = 64 ∨ y.toNat < 2 ^ x)
def packR (l : List Int) (x : Int) : List Int × Int :=
  if x < 0 ∨ 64 < x then ([], 1)
  else if 4096 < l.length then ([], 3)
  else if l.all (roomB x.toNat) then (bytesOf (packV l x.toNat * 2 ^ (8 * ((l.length * x.toNat + 7) / 8) - l.length * x.toNat)) ((l.length * x.toNat + 7) / 8), 0)
  else ([], 1)

/-- The world while numbers are packed: the bytes, the variable that holds them, the place; what was there is as it was. -/
def PackW (w0 wr : World) (N at_ X : Nat) : Prop :=
  Blk wr w0.heap.size 5 (bytesArr X N) ∧ Blk wr (w0.heap.size + 1) 38 #[.slice (some ⟨w0.heap.size, 0, none⟩) N N] ∧ Blk wr (w0.heap.size + 1 + 1) 3 #[.int .i64 at_] ∧ Below w0.heap.size w0 wr ∧ X % 2 ^ (8 * N - at_) = 0

theorem Sl_of_blk {w : World} {g N : Nat} {l : List Int} (h : Blk w g 5 ((l.map (Value.int .u8)).toArray)) (hl : l.length = N) (hN : N ≤ 9223372036854775807) : Sl w .u8 (some ⟨g, 0, none⟩) N N l :=
  ⟨⟨by simpa using hl, fun _ => ⟨g, 0, rfl, h.lt, fun j u hu => by rw [h.cell]; simpa using hu⟩⟩, Nat.le_refl _, hN⟩
theorem madeCells_bytes (N : Nat) : madeCells #[.int .u8 0] N = bytesArr 0 N := by
  apply Array.ext'
  rw [toList_madeCells_one]
  unfold bytesArr
  apply List.ext_getElem?
  intro i
  simp only [List.getElem?_map]
  rcases Nat.lt_or_ge i N with h | h
  · rw [bytesOf_get _ _ _ h]
    simp [byteAt, h]
  · rw [List.getElem?_eq_none (by simpa using h), List.getElem?_eq_none (by rw [bytesOf_len]; exact h)]
    rfl
theorem Blk.new_ {w : World} {t : TypeId} {cs : Array Value} {g : Nat} (h : g = w.heap.size) : Blk (w.alloc (.cells cs t)) g t cs := by subst h; exact Blk.new _ _ _
theorem hide {p : Prop} (h : p) : Hid p := h
theorem unhide {p : Prop} (h : Hid p) : p := h
theorem and_mask (a m : Nat) (hm1 : 1 ≤ m) (hm : m ≤ 8) : bits BinOp.and IntKind.u8 ((a : Int) % 256) ((2 ^ m % 256 - 1) % 256) = ((a % 2 ^ m : Nat) : Int) := by
  have e1 : ((2 : Int) ^ m % 256 - 1) % 256 = ((2 ^ m - 1 : Nat) : Int) := by
    have : m = 1 ∨ m = 2 ∨ m = 3 ∨ m = 4 ∨ m = 5 ∨ m = 6 ∨ m = 7 ∨ m = 8 := by omega
    rcases this with rfl | rfl | rfl | rfl | rfl | rfl | rfl | rfl <;> decide
  have hp : 2 ^ m ≤ 256 := Nat.pow_le_pow_right (n := 2) (j := 8) (by omega) hm
  have hp1 := Nat.two_pow_pos m
  rw [e1, show ((a : Int) % 256) = ((a % 256 : Nat) : Int) from rfl, u8_and_nat _ _ (by omega) (by omega), Nat.and_two_pow_sub_one_eq_mod]
  congr 1
  rw [show (256 : Nat) = 2 ^ m * 2 ^ (8 - m) from by rw [← Nat.pow_add, show m + (8 - m) = 8 from by omega], Nat.mod_mul_right_mod]
theorem pack_num (V y k s m e : Nat) (h : s + m ≤ k) :
    (V * 2 ^ (k - (s + m)) + y / 2 ^ (s + m)) * 2 ^ (e + m) + (y / 2 ^ s % 2 ^ m) * 2 ^ e = (V * 2 ^ (k - s) + y / 2 ^ s) * 2 ^ e := by
  have e1 : V * 2 ^ (k - s) = V * 2 ^ (k - (s + m)) * 2 ^ m := by rw [Nat.mul_assoc, ← Nat.pow_add]; congr 2; omega
  have e2 : y / 2 ^ s = (y / 2 ^ (s + m)) * 2 ^ m + y / 2 ^ s % 2 ^ m := by
    rw [Nat.pow_add, ← Nat.div_div_eq_div_mul, Nat.mul_comm]
    exact (Nat.div_add_mod _ _).symm
  rw [e1]
  generalize y / 2 ^ (s + m) = q at *
  generalize y / 2 ^ s % 2 ^ m = c at *
  rw [e2, Nat.pow_add 2 e m]
  generalize V * 2 ^ (k - (s + m)) = A at *
  rw [Nat.mul_comm (2 ^ e) (2 ^ m), ← Nat.mul_assoc, ← Nat.add_mul, Nat.add_mul A q (2 ^ m), Nat.add_assoc]
theorem PackW_step {w wi w' : World} {N a0 k V y s m : Nat} {e : Ending} (hsm : s + m ≤ k) (hak : a0 + k ≤ 8 * N)
    (hin : PackW w wi N (a0 + (k - (s + m))) ((V * 2 ^ (k - (s + m)) + y / 2 ^ (s + m)) * 2 ^ (8 * N - (a0 + (k - (s + m))))))
    (hp : PutOut wi.drew w.heap.size w.heap.size (w.heap.size + 1) (w.heap.size + 1 + 1) N (a0 + (k - (s + m)) + m) (bytesArr ((V * 2 ^ (k - (s + m)) + y / 2 ^ (s + m)) * 2 ^ (8 * N - (a0 + (k - (s + m)))) + (y / 2 ^ s % 2 ^ m) * 2 ^ (8 * N - (a0 + (k - (s + m))) - m)) N) e w') :
    PackW w w' N (a0 + (k - s)) ((V * 2 ^ (k - s) + y / 2 ^ s) * 2 ^ (8 * N - (a0 + (k - s)))) := by
  obtain ⟨_, h1, h2, h3, h4, _⟩ := hp
  have e1 : 8 * N - (a0 + (k - (s + m))) = (8 * N - (a0 + (k - s))) + m := by omega
  have e2 : a0 + (k - (s + m)) + m = a0 + (k - s) := by omega
  rw [e1, Nat.add_sub_cancel, pack_num V y k s m _ hsm] at h1
  rw [e2] at h2
  exact ⟨h1, h3, h2, (hin.2.2.2.1.drew).trans h4, Nat.mul_mod_left _ _⟩
theorem PackW_put {w wi : World} {N a0 k V y s m : Nat} (hsm : s + m ≤ k) (hak : a0 + k ≤ 8 * N) (hm1 : 1 ≤ m) (hm8 : m ≤ 8) (hN : N ≤ 1000000)
    (hin : PackW w wi N (a0 + (k - (s + m))) ((V * 2 ^ (k - (s + m)) + y / 2 ^ (s + m)) * 2 ^ (8 * N - (a0 + (k - (s + m)))))) :
    Calls Tryz.prog 152 #[.int .u8 (bits BinOp.and IntKind.u8 ((y : Int) / 2 ^ s % 256) ((2 ^ m % 256 - 1) % 256)), .int .i64 m, .pointer (some ⟨w.heap.size + 1 + 1, 0, none⟩), .pointer (some ⟨w.heap.size + 1, 0, none⟩)] wi.drew
      fun e w' => e = .returned (.tuple #[]) ∧ Hid (PackW w w' N (a0 + (k - s)) ((V * 2 ^ (k - s) + y / 2 ^ s) * 2 ^ (8 * N - (a0 + (k - s))))) := by
  rw [cast_shr, and_mask _ _ hm1 hm8]
  obtain ⟨g1, g2, g3, g4, g5⟩ := hin
  refine (put_any wi.drew w.heap.size w.heap.size (w.heap.size + 1) (w.heap.size + 1 + 1) N (a0 + (k - (s + m))) m (y / 2 ^ s % 2 ^ m) _ g3.drew g2.drew g1.drew ⟨Nat.le_refl _, by omega, by omega⟩ ⟨by omega, by omega, by omega⟩ g5 hm1 hm8 (Nat.mod_lt _ (Nat.two_pow_pos _)) (by omega) hN).mono ?_
  intro e w' hp
  exact ⟨hp.1, PackW_step hsm hak ⟨g1, g2, g3, g4, g5⟩ hp⟩

set_option maxRecDepth 100000 in
set_option maxHeartbeats 2000000 in
theorem Pack_any (w : World) (A : Option Addr) (n cap : Nat) (l : List Int) (x : Int) (hr : Ri w .u64 A n l) (hu : U64 l) (hn : n ≤ 1000000) (r : List Int) (er : Int) (hp : packR l x = (r, er)) :
    Calls Tryz.prog 120 #[.slice A n cap, .int .i64 x] w (BytesErr w r er) := by
  have HL := Lib.hid hr.len
  have HR := Lib.hid hr; clear hr
  have HU := Lib.hid hu; clear hu
  by_cases hx : x < 0 ∨ 64 < x
  · unfold packR at hp
    rw [if_pos hx] at hp
    injection hp with e1 e2
    subst e1 e2
    have hf : Hid (fitsB 0 x = false) := decide_eq_false (by omega)
    clear hx
    go_enter Tryz.func120, Tryz.ntmps120
    go_wp2_with fail
    refine (fits_any _ _ _).mono ?_; rintro e w' ⟨rfl, rfl⟩
    rw [hf.out]
    go_wp2_with fail
    go_ret2
    exact ⟨none, 0, 0, rfl, Sl.nil _ _, Below.refl _ _⟩
  · have hf : Hid (fitsB 0 x = true) := decide_eq_true (by omega)
    unfold packR at hp
    rw [if_neg hx] at hp
    obtain ⟨k, rfl⟩ := Int.eq_ofNat_of_zero_le (show 0 ≤ x by omega)
    have hk : k ≤ 64 := by omega
    clear hx
    rw [Int.toNat_natCast, HL.out] at hp
    by_cases hbig : 4096 < n
    · rw [if_pos hbig] at hp
      injection hp with e1 e2
      subst e1 e2
      have hf2 : Hid (fitsB n k = false) := decide_eq_false (by omega)
      go_enter Tryz.func120, Tryz.ntmps120
      go_wp2_with fail
      refine (fits_any _ _ _).mono ?_; rintro e w' ⟨rfl, rfl⟩
      rw [hf.out]
      go_wp2_with fail
      refine (fits_any _ _ _).mono ?_; rintro e w' ⟨rfl, rfl⟩
      rw [hf2.out]
      go_wp2_with fail
      go_ret2
      exact ⟨none, 0, 0, rfl, Sl.nil _ _, Below.refl _ _⟩
    · rw [if_neg hbig] at hp
      have hf2 : Hid (fitsB n k = true) := decide_eq_true (by omega)
      have HP := Lib.hid hp; clear hp
      obtain ⟨N, hN⟩ : ∃ N, N = (n * k + 7) / 8 := ⟨_, rfl⟩
      have hNle : N ≤ 32768 := by
        have : n * k ≤ 4096 * 64 := Nat.mul_le_mul (by omega) hk
        omega
      have hsz : Hid (sizeN n k = (N : Int)) := by
        show sizeN n k = _
        unfold sizeN
        rw [hf2.out, if_pos rfl, hN]
        rw [← Int.natCast_mul]; omega
      have HN := Lib.hid hN; clear hN
      obtain ⟨i0, hi, hz0, hz1, hz2⟩ := info_parts info_u8
      have hmk := fun W => Go.run_make_row' (P := Tryz.prog) 38 5 (.int .u8 0) 1 Tryz.underlying38 info_u8 rfl .i64 .i64 N (by omega) (by omega) W
      go_enter Tryz.func120, Tryz.ntmps120
      go_wp2_with fail
      refine (fits_any _ _ _).mono ?_; rintro e w' ⟨rfl, rfl⟩
      rw [hf.out]
      go_wp2_with fail
      refine (fits_any _ _ _).mono ?_; rintro e w' ⟨rfl, rfl⟩
      rw [hf2.out]
      go_wp2_with fail
      refine (Size_any _ _ _).mono ?_; rintro e w' ⟨rfl, rfl⟩
      rw [hsz.out]
      go_wp2_with fail
      go_loopw [31] (fun i wr => ∃ j : Nat, j ≤ n ∧ i = .int .i64 j ∧ Hid (PackW w wr N (j * k) (packV (l.take j) k * 2 ^ (8 * N - j * k)) ∧ (l.take j).all (roomB k) = true)) (fun i _ => n - (intOf i).toNat)
      case atStart =>
        refine ⟨0, by omega, rfl, Lib.hid ⟨?_, by simp⟩⟩
        rw [show packV (l.take 0) k = 0 from rfl]
        simp only [Nat.zero_mul, Nat.sub_zero]
        refine ⟨?_, ?_, ?_, ?_, Nat.zero_mod _⟩
        · rw [← madeCells_bytes]
          exact ((Blk.new w _ _).alloc _).alloc _
        · exact (Blk.new_ (w := w.alloc _) (by simp)).alloc _
        · exact Blk.new_ (by simp)
        · exact (((Below.refl _ _).alloc (Nat.le_refl _) _).alloc (by simp) _).alloc (by simp; omega) _
      case round =>
        obtain ⟨j, hj, rfl, hpw⟩ := hrel
        by_cases hlt : j < n
        · obtain ⟨b, o, hA, hbl, hcell⟩ := HR.out.at_ hlt
          subst hA
          have hy := HU.out _ (getD_mem l j (by rw [HL.out]; exact hlt))
          obtain ⟨y, hyy⟩ : ∃ y : Nat, (y : Int) = l.getD j 0 := ⟨(l.getD j 0).toNat, by omega⟩
          rw [← hyy] at hcell hy
          have HY1 := Lib.hid hy; clear hy
          have HY := Lib.hid hyy; clear hyy
          have hc2 := (hpw.out.1.2.2.2.1.cell (p := ⟨b, o + j, none⟩) hbl).trans hcell
          clear hcell
          by_cases hroom : roomB k (l.getD j 0) = true
          · have hgood : k = 64 ∨ y < 2 ^ k := by
              have := of_decide_eq_true hroom
              rw [← HY.out, Int.toNat_natCast] at this
              exact this
            have hq : (k < 64 ∧ Hid (((y : Int) / 2 ^ k != 0) = false)) ∨ k = 64 := by
              rcases hgood with h | h
              · exact .inr h
              · rcases Nat.lt_or_ge k 64 with h2 | h2
                · refine .inl ⟨h2, ?_⟩
                  show ((y : Int) / 2 ^ k != 0) = false
                  rw [cast_shr, Nat.div_eq_of_lt h]; rfl
                · exact .inr (by omega)
            have hylt : Hid (y < 2 ^ k) := by
              show y < 2 ^ k
              rcases hgood with h | h
              · subst h; have := HY1.out; omega
              · exact h
            obtain ⟨a0, ha0⟩ : ∃ a0, a0 = j * k := ⟨_, rfl⟩
            have hak : a0 + k ≤ 8 * N := by
              have h1 : (j + 1) * k ≤ n * k := Nat.mul_le_mul_right _ hlt
              rw [Nat.add_mul, Nat.one_mul] at h1
              have := HN.out
              omega
            obtain ⟨V, hV⟩ : ∃ V, V = packV (l.take j) k := ⟨_, rfl⟩
            have hpw2 := hpw.out
            rw [← ha0, ← hV] at hpw2
            have HPW := Lib.hid hpw2
            have HA0 := Lib.hid ha0
            have HV := Lib.hid hV
            clear hpw2 ha0 hV hpw hgood
            rcases hq with ⟨hk64, hq⟩ | hk64
            · have hq2 := hq.out
              go_wp2_with fail
              clear hq2
              go_loopw [11, 12] (fun q _ wi => ∃ t : Nat, t ≤ k ∧ q = .int .i64 t ∧ Hid (PackW w wi N (a0 + (k - t)) ((V * 2 ^ (k - t) + y / 2 ^ t) * 2 ^ (8 * N - (a0 + (k - t)))))) (fun q _ _ => (intOf q).toNat)
              case atStart =>
                refine ⟨k, Nat.le_refl _, rfl, Lib.hid ?_⟩
                rw [Nat.sub_self, Nat.div_eq_of_lt hylt.out, Nat.pow_zero, Nat.mul_one]
                exact HPW.out.1
              case round =>
                obtain ⟨t, ht, rfl, hin⟩ := hrel
                by_cases ht0 : 0 < t
                · obtain ⟨s, m, hts, hm1, hm8, hs8⟩ : ∃ s m : Nat, t = s + m ∧ 1 ≤ m ∧ m ≤ 8 ∧ s % 8 = 0 := ⟨t - ((t - 1) % 8 + 1), (t - 1) % 8 + 1, by omega, by omega, by omega, by omega⟩
                  subst hts
                  have hmm : ((s : Int) + m - 1) % 8 = (m : Int) - 1 := by omega
                  rcases Nat.eq_zero_or_pos s with hs0 | hs0
                  · subst hs0
                    have hput := PackW_put (s := 0) (m := m) ht hak hm1 hm8 (by omega) hin.out
                    rw [Int.pow_zero, Int.ediv_one] at hput
                    have HPUT := hide hput; clear hput
                    go_wp2_with fail
                    go_still_tail 10, (by kernel_rfl)
                    go_wp2_with fail
                    refine (unhide HPUT).mono ?_; rintro e w2 ⟨rfl, hpw3⟩
                    clear HPUT
                    go_wp2_with fail
                    go_roundw
                    case rel => exact ⟨0, by omega, rfl, hpw3⟩
                    case measure => simp [intOf] <;> omega
                  · go_wp2_with fail
                    go_still_tail 10, (by kernel_rfl)
                    go_wp2_with fail
                    refine (PackW_put (s := s) (m := m) ht hak hm1 hm8 (by omega) hin.out).mono ?_; rintro e w2 ⟨rfl, hpw3⟩
                    go_wp2_with fail
                    go_roundw
                    case rel => exact ⟨s, by omega, rfl, hpw3⟩
                    case measure => simp [intOf] <;> omega
                · obtain rfl : t = 0 := by omega
                  go_wp2_with fail
                  go_roundw
                  case rel =>
                    refine ⟨j + 1, by omega, by go_num, Lib.hid ⟨?_, ?_⟩⟩
                    · have h := hin.out
                      rw [Nat.sub_zero, Nat.pow_zero, Nat.div_one] at h
                      rw [take_snoc l j (by rw [HL.out]; exact hlt), packV_snoc, ← HV.out, ← HY.out, Int.toNat_natCast, Nat.add_mul, Nat.one_mul, ← HA0.out]
                      exact h
                    · rw [take_snoc l j (by rw [HL.out]; exact hlt), List.all_append, HPW.out.2, List.all_cons, hroom, List.all_nil]; rfl
                  case measure => simp [intOf] <;> omega
            · have hk64' : 64 ≤ k := by omega
              clear hk64
              go_wp2_with fail
              go_loopw [11, 12] (fun q _ wi => ∃ t : Nat, t ≤ k ∧ q = .int .i64 t ∧ Hid (PackW w wi N (a0 + (k - t)) ((V * 2 ^ (k - t) + y / 2 ^ t) * 2 ^ (8 * N - (a0 + (k - t)))))) (fun q _ _ => (intOf q).toNat)
              case atStart =>
                refine ⟨k, Nat.le_refl _, rfl, Lib.hid ?_⟩
                rw [Nat.sub_self, Nat.div_eq_of_lt hylt.out, Nat.pow_zero, Nat.mul_one]
                exact HPW.out.1
              case round =>
                obtain ⟨t, ht, rfl, hin⟩ := hrel
                by_cases ht0 : 0 < t
                · obtain ⟨s, m, hts, hm1, hm8, hs8⟩ : ∃ s m : Nat, t = s + m ∧ 1 ≤ m ∧ m ≤ 8 ∧ s % 8 = 0 := ⟨t - ((t - 1) % 8 + 1), (t - 1) % 8 + 1, by omega, by omega, by omega, by omega⟩
                  subst hts
                  have hmm : ((s : Int) + m - 1) % 8 = (m : Int) - 1 := by omega
                  rcases Nat.eq_zero_or_pos s with hs0 | hs0
                  · subst hs0
                    have hput := PackW_put (s := 0) (m := m) ht hak hm1 hm8 (by omega) hin.out
                    rw [Int.pow_zero, Int.ediv_one] at hput
                    have HPUT := hide hput; clear hput
                    go_wp2_with fail
                    go_still_tail 10, (by kernel_rfl)
                    go_wp2_with fail
                    refine (unhide HPUT).mono ?_; rintro e w2 ⟨rfl, hpw3⟩
                    clear HPUT
                    go_wp2_with fail
                    go_roundw
                    case rel => exact ⟨0, by omega, rfl, hpw3⟩
                    case measure => simp [intOf] <;> omega
                  · go_wp2_with fail
                    go_still_tail 10, (by kernel_rfl)
                    go_wp2_with fail
                    refine (PackW_put (s := s) (m := m) ht hak hm1 hm8 (by omega) hin.out).mono ?_; rintro e w2 ⟨rfl, hpw3⟩
                    go_wp2_with fail
                    go_roundw
                    case rel => exact ⟨s, by omega, rfl, hpw3⟩
                    case measure => simp [intOf] <;> omega
                · obtain rfl : t = 0 := by omega
                  go_wp2_with fail
                  go_roundw
                  case rel =>
                    refine ⟨j + 1, by omega, by go_num, Lib.hid ⟨?_, ?_⟩⟩
                    · have h := hin.out
                      rw [Nat.sub_zero, Nat.pow_zero, Nat.div_one] at h
                      rw [take_snoc l j (by rw [HL.out]; exact hlt), packV_snoc, ← HV.out, ← HY.out, Int.toNat_natCast, Nat.add_mul, Nat.one_mul, ← HA0.out]
                      exact h
                    · rw [take_snoc l j (by rw [HL.out]; exact hlt), List.all_append, HPW.out.2, List.all_cons, hroom, List.all_nil]; rfl
                  case measure => simp [intOf] <;> omega
          · have hbad : k < 64 ∧ Hid (((y : Int) / 2 ^ k != 0) = true) := by
              have h1 : ¬ (k = 64 ∨ (l.getD j 0).toNat < 2 ^ k) := fun h => hroom (decide_eq_true h)
              rw [← HY.out, Int.toNat_natCast] at h1
              refine ⟨by omega, ?_⟩
              show ((y : Int) / 2 ^ k != 0) = true
              have h2 : 2 ^ k ≤ y := by omega
              have h3 : 1 ≤ y / 2 ^ k := (Nat.le_div_iff_mul_le (Nat.two_pow_pos _)).2 (by omega)
              rw [cast_shr]
              exact bne_iff_ne.2 (by omega)
            have hp := HP.out
            rw [if_neg (by
              intro h
              exact hroom (List.all_eq_true.1 h _ (getD_mem l j (by rw [HL.out]; exact hlt))))] at hp
            injection hp with e1 e2
            subst e1 e2
            obtain ⟨hk64, hq⟩ := hbad
            have hq2 := hq.out
            go_wp2_with fail
            go_ret2
            exact ⟨none, 0, 0, rfl, Sl.nil _ _, hpw.out.1.2.2.2.1⟩
        · obtain rfl : j = n := by omega
          have hp := HP.out
          have hall := hpw.out.2
          rw [List.take_of_length_le (by rw [HL.out]; exact Nat.le_refl _)] at hall
          rw [if_pos hall] at hp
          injection hp with e1 e2
          subst e2
          have hpw1 := hpw.out.1
          rw [List.take_of_length_le (by rw [HL.out]; exact Nat.le_refl _)] at hpw1
          have c2 := hpw1.2.1.cell 0
          have c2' : wr.cell? ⟨w.heap.size + 1, 0, none⟩ = some (.slice (some ⟨w.heap.size, 0, none⟩) N N) := c2
          clear c2
          have HW := Lib.hid hpw1
          have HE := Lib.hid e1
          clear hall hpw1 hpw e1
          go_wp2_with fail
          go_ret2
          refine ⟨_, _, _, rfl, ?_, HW.out.2.2.2.1⟩
          rw [← HE.out, ← HN.out]
          exact Sl_of_blk HW.out.1 (bytesOf_len _ _) (by omega)
end Go.Proofs.YtmejoococajikaaGreat

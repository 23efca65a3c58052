/- A number a few times is taken: repeat.Take. -/
import Derived.Test.YtbkdhnlhhampfaaRepP
import Derived.Test.YtbkdhnlhhampfaaMost
namespace Go.Proofs.Ytbkdhnlhhampfaa
open Go.RowKit

def foldU (l : List Int) : Nat := l.foldl (fun u c => 256 * u + c.toNat) 0
theorem foldU_snoc (l : List Int) (c : Int) : foldU (l ++ [c]) = 256 * foldU l + c.toNat := by simp [foldU]
theorem foldU_lt (l : List Int) (h : U8 l) : foldU l < 256 ^ l.length := by
  have key : ∀ (l : List Int) (u : Nat), U8 l → l.foldl (fun u c => 256 * u + c.toNat) u < 256 ^ l.length * (u + 1) := by
    intro l
    induction l with
    | nil => intro u _; simp
    | cons c l ih =>
      intro u hl
      have h1 := ih (256 * u + c.toNat) (fun x hx => hl x (List.mem_cons_of_mem _ hx))
      have h2 := hl c List.mem_cons_self
      rw [List.foldl_cons, List.length_cons, Nat.pow_succ]
      refine Nat.lt_of_lt_of_le h1 ?_
      rw [Nat.mul_assoc]
      exact Nat.mul_le_mul_left _ (by omega)
  have := key l 0 h
  rw [Nat.zero_add, Nat.mul_one] at this
  exact this
def takeR (b : List Int) (s : Bool) : Int × Int × List Int × Int :=
  match b with
  | [] => (0, 0, [], 2)
  | c :: r =>
    if 64 ≤ c then (0, 0, [], 2)
    else if r.length < (c / 8 + 1).toNat then (0, 0, [], 2)
    else if longN (foldU (r.take (c / 8 + 1).toNat)) ≠ (c / 8 + 1).toNat ∨ (s = false ∧ 9223372036854775808 ≤ foldU (r.take (c / 8 + 1).toNat)) then (0, 0, [], 2)
    else (if s then zag (foldU (r.take (c / 8 + 1).toNat)) else foldU (r.take (c / 8 + 1).toNat), c % 8 + 3, r.drop (c / 8 + 1).toNat, 0)

/-- Two numbers, bytes and an error's number are handed back. -/
def TakeOut (w : World) (x t : Int) (l : List Int) (er : Int) (e : Ending) (w' : World) : Prop :=
  ∃ G n c, e = .returned (.tuple #[.int .i64 x, .int .i64 t, .slice G n c, .int .i64 er]) ∧ Sl w' .u8 G n c l ∧ Below w.heap.size w w'

theorem or_shift (u c : Nat) (hu : u < 72057594037927936) (hc : c < 256) : bits .or .u64 ((u : Int) * 256) (c : Int) = ((256 * u + c : Nat) : Int) := by
  have := u64_or_nat (256 * u) c (by omega) (by omega)
  rw [show ((u : Int) * 256) = ((256 * u : Nat) : Int) from by omega, this, (Nat.two_pow_add_eq_or_of_lt (i := 8) hc u).symm]
set_option maxRecDepth 100000 in
set_option maxHeartbeats 1000000 in
theorem Take_any (A : Option Addr) (n cap : Nat) (b : List Int) (s : Bool) (w : World) (hr : Ri w .u8 A n b) (hu : U8 b) (hc : n ≤ cap) (hm : cap ≤ 9223372036854775807) (hnb : n ≤ 1000000000) (x t : Int) (l : List Int) (er : Int) (hl : takeR b s = (x, t, l, er)) :
    Calls Try.prog 32 #[.slice A n cap, .bool s] w (TakeOut w x t l er) := by
  have HN := Lib.hid hr.len
  have HR := Lib.hid hr; clear hr
  by_cases h0 : n = 0
  · have : b = [] := List.eq_nil_of_length_eq_zero (by rw [HN.out]; exact h0)
    subst this h0
    injection hl with e1 hl; injection hl with e2 hl; injection hl with e3 e4
    subst e1 e2 e3 e4
    go_enter Try.func32, Try.ntmps32
    go_wp2_with fail
    refine bodyPost_ret (results_tmp4 rfl _ _ _) rfl ?_
    exact ⟨none, 0, 0, rfl, Sl.nil _ _, Below.refl _ _⟩
  · obtain ⟨bl, o, hA, hbl, hcell⟩ := HR.out.all (by omega)
    subst hA
    have hc0 := hcell 0 (by omega)
    have HC := Lib.hid hcell; clear hcell
    obtain ⟨c, r, rfl⟩ : ∃ c r, b = c :: r := by
      cases b with
      | nil => exact absurd HN.out (by simp; omega)
      | cons c r => exact ⟨c, r, rfl⟩
    have hlen : r.length + 1 = n := by have := HN.out; simpa using this
    have hcr := hu c List.mem_cons_self
    rw [show (c :: r).getD 0 0 = c from rfl, Nat.add_zero] at hc0
    have hn0 : ((n : Int) == 0) = false := by simpa using h0
    have HL : Hid (takeR (c :: r) s = (x, t, l, er)) := hl
    have HR8 : Hid (U8 r) := fun x hx => hu x (List.mem_cons_of_mem _ hx)
    clear hl hu h0
    obtain ⟨cn, rfl⟩ := Int.eq_ofNat_of_zero_le hcr.1
    have hcn : cn < 256 := by omega
    clear hcr
    by_cases h64 : 64 ≤ cn
    · go_enter Try.func32, Try.ntmps32
      go_wp2_with fail
      refine bodyPost_ret (results_tmp4 rfl _ _ _) rfl ?_
      have hl := HL.out
      unfold takeR at hl
      simp only [if_pos (show (64 : Int) ≤ (cn : Int) by omega)] at hl
      injection hl with e1 hl; injection hl with e2 hl; injection hl with e3 e4
      subst e1 e2 e3 e4
      exact ⟨none, 0, 0, rfl, Sl.nil _ _, Below.refl _ _⟩
    · have hk1 : ((cn : Int) / 8 + 1).toNat = cn / 8 + 1 := by omega
      have hl := HL.out
      unfold takeR at hl
      simp only [if_neg (show ¬ (64 : Int) ≤ (cn : Int) by omega), hk1] at hl
      clear HL
      have HL := Lib.hid hl; clear hl
      have hk8 : cn / 8 + 1 ≤ 8 := by omega
      clear hk1
      by_cases hshort : n < cn / 8 + 1 + 1
      · have hl := HL.out
        rw [if_pos (by omega)] at hl
        injection hl with e1 hl; injection hl with e2 hl; injection hl with e3 e4
        subst e1 e2 e3 e4
        clear HL
        by_cases hcap : cap = 1
        · obtain rfl : n = 1 := by omega
          subst hcap
          go_enter Try.func32, Try.ntmps32
          go_wp2_with fail
          refine bodyPost_ret (results_tmp4 rfl _ _ _) rfl ?_
          exact ⟨none, 0, 0, rfl, Sl.nil _ _, Below.refl _ _⟩
        · go_enter Try.func32, Try.ntmps32
          go_wp2_with fail
          refine bodyPost_ret (results_tmp4 rfl _ _ _) rfl ?_
          exact ⟨none, 0, 0, rfl, Sl.nil _ _, Below.refl _ _⟩
      · have hl := HL.out
        rw [if_neg (by omega)] at hl
        clear HL
        have HL := Lib.hid hl; clear hl
        have hkl : (r.take (cn / 8 + 1)).length = cn / 8 + 1 := by rw [List.length_take]; omega
        have HKL := Lib.hid hkl; clear hkl
        go_enter Try.func32, Try.ntmps32
        go_wp2_with fail
        go_loop [9, 11, 43] (fun uu _ i => ∃ j u : Nat, j ≤ cn / 8 + 1 ∧ i = .int .i64 j ∧ uu = .int .u64 u ∧ u < 18446744073709551616 ∧ Hid (u = foldU (r.take j))) (fun _ _ i => cn / 8 + 1 - (intOf i).toNat)
        case atStart => exact ⟨0, 0, by omega, rfl, rfl, by omega, rfl⟩
        case round =>
          obtain ⟨j, u, hj, rfl, rfl, hu64, hu⟩ := hrel
          by_cases hlt : j < cn / 8 + 1
          · have hc1 := HC.out (j + 1) (by omega)
            rw [show o + (j + 1) = o + 1 + j from by omega, show ((cn : Int) :: r).getD (j + 1) 0 = r.getD j 0 from rfl] at hc1
            have hz := HR8.out _ (getD_mem r j (by omega))
            obtain ⟨z, hzz⟩ : ∃ z : Nat, (z : Int) = r.getD j 0 := ⟨(r.getD j 0).toNat, by omega⟩
            rw [← hzz] at hc1 hz
            obtain ⟨_, hz1⟩ := hz
            have HZ := Lib.hid hzz; clear hzz
            have hub : u < 72057594037927936 := by
              have h1 := foldU_lt (r.take j) (HR8.out.take j)
              rw [← hu.out, List.length_take] at h1
              exact Nat.lt_of_lt_of_le h1 (Nat.pow_le_pow_right (n := 256) (j := 7) (by omega) (by omega))
            go_wp2_with fail
            go_round
            case rel =>
              refine ⟨j + 1, 256 * u + z, by omega, by go_num, by rw [or_shift u z hub (by omega)], by omega, ?_⟩
              rw [take_snoc r j (by omega), foldU_snoc, ← hu.out, ← HZ.out]; rfl
            case measure => simp [intOf]; omega
          · obtain rfl : j = cn / 8 + 1 := by omega
            clear hj hlt
            have hl := HL.out
            rw [← hu.out] at hl
            clear HL hu
            have hln := longN_range u hu64
            go_wp2_with fail
            refine (long_any _ _ (by omega)).mono ?_; rintro e w' ⟨rfl, rfl⟩
            obtain ⟨m, hm⟩ : ∃ m, m = longN u := ⟨_, rfl⟩
            rw [← hm] at hl hln ⊢
            clear hm
            by_cases hmk : m = cn / 8 + 1
            · by_cases hbad : s = false ∧ 9223372036854775808 ≤ u
              · obtain ⟨rfl, hu63⟩ := hbad
                rw [if_pos (.inr ⟨rfl, hu63⟩)] at hl
                injection hl with e1 hl; injection hl with e2 hl; injection hl with e3 e4
                subst e1 e2 e3 e4
                have hq : ((m : Int) != (cn : Int) / 8 + 1) = false := by simp; omega
                have hq2 : ((u : Int) / 9223372036854775808 != 0) = true := by simp; omega
                clear hmk
                go_wp2_with fail
                refine bodyPost_ret (results_tmp4 rfl _ _ _) rfl ?_
                exact ⟨none, 0, 0, rfl, Sl.nil _ _, Below.refl _ _⟩
              · rw [if_neg (by rintro (h | h); exact h hmk; exact hbad h)] at hl
                injection hl with e1 hl; injection hl with e2 hl; injection hl with e3 e4
                subst e2 e4
                have hq3 := HR.out.rest (i := 1) (by omega) (fun _ => rfl)
                have hq4 := hq3.rest (i := cn / 8 + 1) (by omega) (fun _ => rfl)
                rw [show ((cn : Int) :: r).drop 1 = r from rfl, e3] at hq4
                have HQ := Lib.hid hq4
                clear hq3 hq4 e3
                have hq : ((m : Int) != (cn : Int) / 8 + 1) = false := by simp; omega
                clear hmk
                cases s
                · have hu63 : u < 9223372036854775808 := by
                    rcases Nat.lt_or_ge u 9223372036854775808 with h | h
                    · exact h
                    · exact absurd ⟨rfl, h⟩ hbad
                  have hq2 : ((u : Int) / 9223372036854775808 != 0) = false := by simp; omega
                  clear hbad
                  obtain rfl : x = (u : Int) := by simpa using e1.symm
                  clear e1
                  go_wp2_with fail
                  all_goals
                    refine (Clone_any _ _ _ l _ (by first | exact HQ.out | exact HQ.out.zero (by omega) _) (by omega)).mono ?_; rintro e w2 ⟨G, q, c, rfl, hr2, hb2⟩
                    have HR2 := Lib.hid hr2; clear hr2
                    go_wp2_with fail
                    refine bodyPost_ret (results_tmp4 rfl _ _ _) rfl ?_
                    exact ⟨G, q, c, rfl, HR2.out, hb2⟩
                · obtain rfl : x = zag u := by simpa using e1.symm
                  clear e1 hbad
                  go_wp2_with fail
                  refine (Zag_any _ _ (by omega) (by omega)).mono ?_; rintro e w' ⟨rfl, rfl⟩
                  generalize zag u = x at *
                  go_wp2_with fail
                  all_goals
                    refine (Clone_any _ _ _ l _ (by first | exact HQ.out | exact HQ.out.zero (by omega) _) (by omega)).mono ?_; rintro e w2 ⟨G, q, c, rfl, hr2, hb2⟩
                    have HR2 := Lib.hid hr2; clear hr2
                    go_wp2_with fail
                    refine bodyPost_ret (results_tmp4 rfl _ _ _) rfl ?_
                    exact ⟨G, q, c, rfl, HR2.out, hb2⟩
            · rw [if_pos (.inl hmk)] at hl
              injection hl with e1 hl; injection hl with e2 hl; injection hl with e3 e4
              subst e1 e2 e3 e4
              have hq : ((m : Int) != (cn : Int) / 8 + 1) = true := by simp; omega
              clear hmk
              go_wp2_with fail
              refine bodyPost_ret (results_tmp4 rfl _ _ _) rfl ?_
              exact ⟨none, 0, 0, rfl, Sl.nil _ _, Below.refl _ _⟩
end Go.Proofs.Ytbkdhnlhhampfaa

/- Joined texts: RepT, RepRT. Each has its own head line. No condition beyond those that its theorems state. -/
import Derived.Deep.QuietTactic
import Derived.BigQuiet
import Derived.Test.YtmejoococajikaaGreatJ12
import Derived.Test.YtmejoococajikaaGreatJ02
set_option linter.unusedVariables false

/- A number a few times is taken: repeat.Take. -/
namespace Go.Proofs.YtmejoococajikaaGreat
open Go.RowKit

def foldU (l : List Int) : Nat := l.foldl (fun u c => 256 * u + c.toNat) 0
theorem foldU_snoc (l : List Int) (c : Int) : foldU (l ++ [c]) = 256 * foldU l + c.toNat := by simp [foldU]
theorem foldU_lt (l : List Int) (h : U8 l) : foldU l < 256 ^ l.length := by
  have key : ∀ (l : List Int) (u : Nat), U8 l → l.foldl (fun u c => 256 * u + c.toNat) u < 256 ^ l.length * (u + 1) := by
    intro l
    induction l with
    | nil => intro u _; simp
    | cons c l ih =>
      intro u hl
      have h1 := ih (256 * u + c.toNat) (fun x hx => hl x (List.mem_cons_of_mem _ hx))
      have h2 := hl c List.mem_cons_self
      rw [List.foldl_cons, List.length_cons, Nat.pow_succ]
      refine Nat.lt_of_lt_of_le h1 ?_
      rw [Nat.mul_assoc]
      exact Nat.mul_le_mul_left _ (by omega)
  have := key l 0 h
  rw [Nat.zero_add, Nat.mul_one] at this
  exact this
def takeR (b : List Int) (s : Bool) : Int × Int × List Int × Int :=
  match b with
  | [] => (0, 0, [], 2)
  | c :: r =>
    if 64 ≤ c then (0, 0, [], 2)
    else if r.length < (c / 8 + 1).toNat then (0, 0, [], 2)
    else if longN (foldU (r.take (c / 8 + 1).toNat)) ≠ (c / 8 + 1).toNat ∨ (s = false ∧ 9223372036854775808 ≤ foldU (r.take (c / 8 + 1).toNat)) then (0, 0, [], 2)
    else (if s then zag (foldU (r.take (c / 8 + 1).toNat)) else foldU (r.take (c / 8 + 1).toNat), c % 8 + 3, r.drop (c / 8 + 1).toNat, 0)

/-- Two numbers, bytes and an error's number are handed back. -/
def TakeOut (w : World) (x t : Int) (l : List Int) (er : Int) (e : Ending) (w' : World) : Prop :=
  ∃ G n c, e = .returned (.tuple #[.int .i64 x, .int .i64 t, .slice G n c, .int .i64 er]) ∧ Sl w' .u8 G n c l ∧ Below w.heap.size w w'

theorem or_shift (u c : Nat) (hu : u < 72057594037927936) (hc : c < 256) : bits .or .u64 ((u : Int) * 256) (c : Int) = ((256 * u + c : Nat) : Int) := by
  have := u64_or_nat (256 * u) c (by omega) (by omega)
  rw [show ((u : Int) * 256) = ((256 * u : Nat) : Int) from by omega, this, (Nat.two_pow_add_eq_or_of_lt (i := 8) hc u).symm]
set_option maxRecDepth 100000 in
set_option maxHeartbeats 1000000 in
theorem Take_any (A : Option Addr) (n cap : Nat) (b : List Int) (s : Bool) (w : World) (hr : Ri w .u8 A n b) (hu : U8 b) (hc : n ≤ cap) (hm : cap ≤ 9223372036854775807) (hnb : n ≤ 1000000000) (x t : Int) (l : List Int) (er : Int) (hl : takeR b s = (x, t, l, er)) :
    Calls Tryz.prog 138 #[.slice A n cap, .bool s] w (TakeOut w x t l er) := by
  have HN := Lib.hid hr.len
  have HR := Lib.hid hr; clear hr
  by_cases h0 : n = 0
  · have : b = [] := List.eq_nil_of_length_eq_zero (by rw [HN.out]; exact h0)
    subst this h0
    injection hl with e1 hl; injection hl with e2 hl; injection hl with e3 e4
    subst e1 e2 e3 e4
    go_enter Tryz.func138, Tryz.ntmps138
    go_wp2_with fail
    refine bodyPost_ret (results_tmp4 rfl _ _ _) rfl ?_
    exact ⟨none, 0, 0, rfl, Sl.nil _ _, Below.refl _ _⟩
  · obtain ⟨bl, o, hA, hbl, hcell⟩ := HR.out.all (by omega)
    subst hA
    have hc0 := hcell 0 (by omega)
    have HC := Lib.hid hcell; clear hcell
    obtain ⟨c, r, rfl⟩ : ∃ c r, b = c :: r := by
      cases b with
      | nil => exact absurd HN.out (by simp; omega)
      | cons c r => exact ⟨c, r, rfl⟩
    have hlen : r.length + 1 = n := by have := HN.out; simpa using this
    have hcr := hu c List.mem_cons_self
    rw [show (c :: r).getD 0 0 = c from rfl, Nat.add_zero] at hc0
    have hn0 : ((n : Int) == 0) = false := by simpa using h0
    have HL : Hid (takeR (c :: r) s = (x, t, l, er)) := hl
    have HR8 : Hid (U8 r) := fun x hx => hu x (List.mem_cons_of_mem _ hx)
    clear hl hu h0
    obtain ⟨cn, rfl⟩ := Int.eq_ofNat_of_zero_le hcr.1
    have hcn : cn < 256 := by omega
    clear hcr
    by_cases h64 : 64 ≤ cn
    · go_enter Tryz.func138, Tryz.ntmps138
      go_wp2_with fail
      refine bodyPost_ret (results_tmp4 rfl _ _ _) rfl ?_
      have hl := HL.out
      unfold takeR at hl
      simp only [if_pos (show (64 : Int) ≤ (cn : Int) by omega)] at hl
      injection hl with e1 hl; injection hl with e2 hl; injection hl with e3 e4
      subst e1 e2 e3 e4
      exact ⟨none, 0, 0, rfl, Sl.nil _ _, Below.refl _ _⟩
    · have hk1 : ((cn : Int) / 8 + 1).toNat = cn / 8 + 1 := by omega
      have hl := HL.out
      unfold takeR at hl
      simp only [if_neg (show ¬ (64 : Int) ≤ (cn : Int) by omega), hk1] at hl
      clear HL
      have HL := Lib.hid hl; clear hl
      have hk8 : cn / 8 + 1 ≤ 8 := by omega
      clear hk1
      by_cases hshort : n < cn / 8 + 1 + 1
      · have hl := HL.out
        rw [if_pos (by omega)] at hl
        injection hl with e1 hl; injection hl with e2 hl; injection hl with e3 e4
        subst e1 e2 e3 e4
        clear HL
        by_cases hcap : cap = 1
        · obtain rfl : n = 1 := by omega
          subst hcap
          go_enter Tryz.func138, Tryz.ntmps138
          go_wp2_with fail
          refine bodyPost_ret (results_tmp4 rfl _ _ _) rfl ?_
          exact ⟨none, 0, 0, rfl, Sl.nil _ _, Below.refl _ _⟩
        · go_enter Tryz.func138, Tryz.ntmps138
          go_wp2_with fail
          refine bodyPost_ret (results_tmp4 rfl _ _ _) rfl ?_
          exact ⟨none, 0, 0, rfl, Sl.nil _ _, Below.refl _ _⟩
      · have hl := HL.out
        rw [if_neg (by omega)] at hl
        clear HL
        have HL := Lib.hid hl; clear hl
        have hkl : (r.take (cn / 8 + 1)).length = cn / 8 + 1 := by rw [List.length_take]; omega
        have HKL := Lib.hid hkl; clear hkl
        go_enter Tryz.func138, Tryz.ntmps138
        go_wp2_with fail
        go_loop [9, 11, 43] (fun uu _ i => ∃ j u : Nat, j ≤ cn / 8 + 1 ∧ i = .int .i64 j ∧ uu = .int .u64 u ∧ u < 18446744073709551616 ∧ Hid (u = foldU (r.take j))) (fun _ _ i => cn / 8 + 1 - (intOf i).toNat)
        case atStart => exact ⟨0, 0, by omega, rfl, rfl, by omega, rfl⟩
        case round =>
          obtain ⟨j, u, hj, rfl, rfl, hu64, hu⟩ := hrel
          by_cases hlt : j < cn / 8 + 1
          · have hc1 := HC.out (j + 1) (by omega)
            rw [show o + (j + 1) = o + 1 + j from by omega, show ((cn : Int) :: r).getD (j + 1) 0 = r.getD j 0 from rfl] at hc1
            have hz := HR8.out _ (getD_mem r j (by omega))
            obtain ⟨z, hzz⟩ : ∃ z : Nat, (z : Int) = r.getD j 0 := ⟨(r.getD j 0).toNat, by omega⟩
            rw [← hzz] at hc1 hz
            obtain ⟨_, hz1⟩ := hz
            have HZ := Lib.hid hzz; clear hzz
            have hub : u < 72057594037927936 := by
              have h1 := foldU_lt (r.take j) (HR8.out.take j)
              rw [← hu.out, List.length_take] at h1
              exact Nat.lt_of_lt_of_le h1 (Nat.pow_le_pow_right (n := 256) (j := 7) (by omega) (by omega))
            go_wp2_with fail
            go_round
            case rel =>
              refine ⟨j + 1, 256 * u + z, by omega, by go_num, by rw [or_shift u z hub (by omega)], by omega, ?_⟩
              rw [take_snoc r j (by omega), foldU_snoc, ← hu.out, ← HZ.out]; rfl
            case measure => simp [intOf]; omega
          · obtain rfl : j = cn / 8 + 1 := by omega
            clear hj hlt
            have hl := HL.out
            rw [← hu.out] at hl
            clear HL hu
            have hln := longN_range u hu64
            go_wp2_with fail
            refine (long_any _ _ (by omega)).mono ?_; rintro e w' ⟨rfl, rfl⟩
            obtain ⟨m, hm⟩ : ∃ m, m = longN u := ⟨_, rfl⟩
            rw [← hm] at hl hln ⊢
            clear hm
            by_cases hmk : m = cn / 8 + 1
            · by_cases hbad : s = false ∧ 9223372036854775808 ≤ u
              · obtain ⟨rfl, hu63⟩ := hbad
                rw [if_pos (.inr ⟨rfl, hu63⟩)] at hl
                injection hl with e1 hl; injection hl with e2 hl; injection hl with e3 e4
                subst e1 e2 e3 e4
                have hq : ((m : Int) != (cn : Int) / 8 + 1) = false := by simp; omega
                have hq2 : ((u : Int) / 9223372036854775808 != 0) = true := by simp; omega
                clear hmk
                go_wp2_with fail
                refine bodyPost_ret (results_tmp4 rfl _ _ _) rfl ?_
                exact ⟨none, 0, 0, rfl, Sl.nil _ _, Below.refl _ _⟩
              · rw [if_neg (by rintro (h | h); exact h hmk; exact hbad h)] at hl
                injection hl with e1 hl; injection hl with e2 hl; injection hl with e3 e4
                subst e2 e4
                have hq3 := HR.out.rest (i := 1) (by omega) (fun _ => rfl)
                have hq4 := hq3.rest (i := cn / 8 + 1) (by omega) (fun _ => rfl)
                rw [show ((cn : Int) :: r).drop 1 = r from rfl, e3] at hq4
                have HQ := Lib.hid hq4
                clear hq3 hq4 e3
                have hq : ((m : Int) != (cn : Int) / 8 + 1) = false := by simp; omega
                clear hmk
                cases s
                · have hu63 : u < 9223372036854775808 := by
                    rcases Nat.lt_or_ge u 9223372036854775808 with h | h
                    · exact h
                    · exact absurd ⟨rfl, h⟩ hbad
                  have hq2 : ((u : Int) / 9223372036854775808 != 0) = false := by simp; omega
                  clear hbad
                  obtain rfl : x = (u : Int) := by simpa using e1.symm
                  clear e1
                  go_wp2_with fail
                  all_goals
                    refine (Clone_any _ _ _ l _ (by first | exact HQ.out | exact HQ.out.zero (by omega) _) (by omega)).mono ?_; rintro e w2 ⟨G, q, c, rfl, hr2, hb2⟩
                    have HR2 := Lib.hid hr2; clear hr2
                    go_wp2_with fail
                    refine bodyPost_ret (results_tmp4 rfl _ _ _) rfl ?_
                    exact ⟨G, q, c, rfl, HR2.out, hb2⟩
                · obtain rfl : x = zag u := by simpa using e1.symm
                  clear e1 hbad
                  go_wp2_with fail
                  refine (Zag_any _ _ (by omega) (by omega)).mono ?_; rintro e w' ⟨rfl, rfl⟩
                  generalize zag u = x at *
                  go_wp2_with fail
                  all_goals
                    refine (Clone_any _ _ _ l _ (by first | exact HQ.out | exact HQ.out.zero (by omega) _) (by omega)).mono ?_; rintro e w2 ⟨G, q, c, rfl, hr2, hb2⟩
                    have HR2 := Lib.hid hr2; clear hr2
                    go_wp2_with fail
                    refine bodyPost_ret (results_tmp4 rfl _ _ _) rfl ?_
                    exact ⟨G, q, c, rfl, HR2.out, hb2⟩
            · rw [if_pos (.inl hmk)] at hl
              injection hl with e1 hl; injection hl with e2 hl; injection hl with e3 e4
              subst e1 e2 e3 e4
              have hq : ((m : Int) != (cn : Int) / 8 + 1) = true := by simp; omega
              clear hmk
              go_wp2_with fail
              refine bodyPost_ret (results_tmp4 rfl _ _ _) rfl ?_
              exact ⟨none, 0, 0, rfl, Sl.nil _ _, Below.refl _ _⟩
end Go.Proofs.YtmejoococajikaaGreat

/- The reference takes a number a few times. -/
namespace Go.Proofs.YtmejoococajikaaGreat
open Go.RowKit

theorem div_foldl (l : List Int) (h : U8 l) (u : Nat) : l.foldl (fun u c => 256 * u + c.toNat) u = 256 ^ l.length * u + foldU l := by
  induction l generalizing u with
  | nil => simp [foldU]
  | cons c l ih =>
    have h2 := fun x hx => h x (List.mem_cons_of_mem c hx)
    unfold foldU
    rw [List.foldl_cons, List.foldl_cons, ih h2, ih h2 (256 * 0 + c.toNat), List.length_cons, Nat.pow_succ]
    generalize 256 ^ l.length = p
    rw [Nat.mul_zero, Nat.zero_add, Nat.mul_add, ← Nat.mul_assoc, Nat.add_assoc]
theorem foldU_cons (c : Int) (l : List Int) (h : U8 l) : foldU (c :: l) = 256 ^ l.length * c.toNat + foldU l := by
  have := div_foldl l h c.toNat
  unfold foldU at this ⊢
  rw [List.foldl_cons, Nat.mul_zero, Nat.zero_add]
  exact this
theorem hiB_add (u v k : Nat) : hiB (256 ^ k * u + v) k = hiB v k := by
  have key : ∀ j, j ≤ k → hiB (256 ^ k * u + v) j = hiB v j := by
    intro j
    induction j with
    | zero => intro _; rfl
    | succ j ih =>
      intro hj
      unfold hiB
      rw [ih (by omega)]
      have e : 256 ^ k = 2 ^ (8 * j) * 256 * 256 ^ (k - j - 1) := by
        rw [show (256 : Nat) = 2 ^ 8 from rfl, ← Nat.pow_mul, ← Nat.pow_mul, ← Nat.pow_add, ← Nat.pow_add]
        congr 1; omega
      have h1 : (256 ^ k * u + v) / 2 ^ (8 * j) % 256 = v / 2 ^ (8 * j) % 256 := by
        rw [e, Nat.mul_assoc, Nat.mul_assoc, Nat.mul_add_div (Nat.two_pow_pos _)]
        omega
      have h2 : ∀ m : Nat, ((m : Int) / 2 ^ (8 * j) % 256) = ((m / 2 ^ (8 * j) % 256 : Nat) : Int) := by
        intro m
        rw [show ((2 : Int) ^ (8 * j)) = ((2 ^ (8 * j) : Nat) : Int) from by rw [Int.natCast_pow]; rfl]
        rfl
      rw [h2, h2, h1]
  exact key k (Nat.le_refl _)
theorem hiB_foldU (l : List Int) (h : U8 l) : hiB (foldU l) l.length = l := by
  induction l with
  | nil => rfl
  | cons c l ih =>
    have h2 := fun x hx => h x (List.mem_cons_of_mem c hx)
    have hc := h c List.mem_cons_self
    rw [foldU_cons c l h2, List.length_cons]
    unfold hiB
    rw [hiB_add, ih h2]
    congr 1
    have hlt := foldU_lt l h2
    have e : (256 : Nat) ^ l.length = 2 ^ (8 * l.length) := by rw [show (256 : Nat) = 2 ^ 8 from rfl, ← Nat.pow_mul]
    have h3 : ∀ m : Nat, ((m : Int) / 2 ^ (8 * l.length) % 256) = ((m / 2 ^ (8 * l.length) % 256 : Nat) : Int) := by
      intro m
      rw [show ((2 : Int) ^ (8 * l.length)) = ((2 ^ (8 * l.length) : Nat) : Int) from by rw [Int.natCast_pow]; rfl]
      rfl
    rw [e] at hlt ⊢
    rw [h3, Nat.mul_add_div (Nat.two_pow_pos _), Nat.div_eq_of_lt hlt]
    omega

theorem madeR_plain (u : Nat) (s : Bool) (h : ¬ (s = false ∧ 9223372036854775808 ≤ u)) : ∃ x, madeR u s = (x, true) ∧ plainU x s = u ∧ (s = false → 0 ≤ x) ∧ x = (if s then zag u else u) := by
  unfold madeR plainU
  cases s
  · rw [if_neg (by simp), if_neg (by simp at h; omega)]
    exact ⟨u, rfl, by simp, fun _ => by omega, by simp⟩
  · exact ⟨zag u, rfl, by simp [zig_zag u (by omega)], (fun h => by cases h), by simp⟩

set_option maxRecDepth 100000 in
set_option maxHeartbeats 1000000 in
theorem refTake_any (A : Option Addr) (n cap : Nat) (b : List Int) (s : Bool) (w : World) (hr : Ri w .u8 A n b) (hu : U8 b) (hc : n ≤ cap) (_hm : cap ≤ 9223372036854775807) (hnb : n ≤ 1000000000) (x t : Int) (l : List Int) (er : Int) (hl : takeR b s = (x, t, l, er)) :
    Calls Tryz.prog 74 #[.slice A n cap, .bool s] w (TakeOut w x t l er) := by
  have HN := Lib.hid hr.len
  have HR := Lib.hid hr; clear hr
  by_cases h0 : n = 0
  · have : b = [] := List.eq_nil_of_length_eq_zero (by rw [HN.out]; exact h0)
    subst this h0
    injection hl with e1 hl; injection hl with e2 hl; injection hl with e3 e4
    subst e1 e2 e3 e4
    go_enter Tryz.func74, Tryz.ntmps74
    go_wp2_with fail
    refine bodyPost_ret (results_tmp4 rfl _ _ _) rfl ?_
    exact ⟨none, 0, 0, rfl, Sl.nil _ _, Below.refl _ _⟩
  · obtain ⟨bl, o, hA, hbl, hcell⟩ := HR.out.all (by omega)
    subst hA
    have hc0 := hcell 0 (by omega)
    have HC := Lib.hid hcell; clear hcell
    obtain ⟨c, r, rfl⟩ : ∃ c r, b = c :: r := by
      cases b with
      | nil => exact absurd HN.out (by simp; omega)
      | cons c r => exact ⟨c, r, rfl⟩
    have hlen : r.length + 1 = n := by have := HN.out; simpa using this
    have hcr := hu c List.mem_cons_self
    rw [show (c :: r).getD 0 0 = c from rfl, Nat.add_zero] at hc0
    have hn0 : ((n : Int) == 0) = false := by simpa using h0
    have HL : Hid (takeR (c :: r) s = (x, t, l, er)) := hl
    have HR8 : Hid (U8 r) := fun x hx => hu x (List.mem_cons_of_mem _ hx)
    clear hl hu h0
    obtain ⟨cn, rfl⟩ := Int.eq_ofNat_of_zero_le hcr.1
    have hcn : cn < 256 := by omega
    clear hcr
    by_cases h64 : 64 ≤ cn
    · go_enter Tryz.func74, Tryz.ntmps74
      go_wp2_with fail
      refine bodyPost_ret (results_tmp4 rfl _ _ _) rfl ?_
      have hl := HL.out
      unfold takeR at hl
      simp only [if_pos (show (64 : Int) ≤ (cn : Int) by omega)] at hl
      injection hl with e1 hl; injection hl with e2 hl; injection hl with e3 e4
      subst e1 e2 e3 e4
      exact ⟨none, 0, 0, rfl, Sl.nil _ _, Below.refl _ _⟩
    · have hk1 : ((cn : Int) / 8 + 1).toNat = cn / 8 + 1 := by omega
      have hl := HL.out
      unfold takeR at hl
      simp only [if_neg (show ¬ (64 : Int) ≤ (cn : Int) by omega), hk1] at hl
      clear HL
      have HL := Lib.hid hl; clear hl
      have hk8 : cn / 8 + 1 ≤ 8 := by omega
      clear hk1
      by_cases hshort : n < cn / 8 + 1 + 1
      · have hl := HL.out
        rw [if_pos (by omega)] at hl
        injection hl with e1 hl; injection hl with e2 hl; injection hl with e3 e4
        subst e1 e2 e3 e4
        clear HL
        go_enter Tryz.func74, Tryz.ntmps74
        go_wp2_with fail
        refine bodyPost_ret (results_tmp4 rfl _ _ _) rfl ?_
        exact ⟨none, 0, 0, rfl, Sl.nil _ _, Below.refl _ _⟩
      · have hl := HL.out
        rw [if_neg (by omega)] at hl
        clear HL
        have HL := Lib.hid hl; clear hl
        have hkl : (r.take (cn / 8 + 1)).length = cn / 8 + 1 := by rw [List.length_take]; omega
        have HKL := Lib.hid hkl; clear hkl
        obtain ⟨i0, hi, hz0, hz1, hz2⟩ := info_parts info_u8
        go_enter Tryz.func74, Tryz.ntmps74
        go_wp2_with fail
        go_loop [10, 11] (fun uu i => ∃ j u : Nat, j ≤ cn / 8 + 1 ∧ i = .int .i64 j ∧ uu = .int .u64 u ∧ u < 18446744073709551616 ∧ Hid (u = foldU (r.take j))) (fun _ i => cn / 8 + 1 - (intOf i).toNat)
        case atStart => exact ⟨0, 0, by omega, rfl, rfl, by omega, rfl⟩
        case round =>
          obtain ⟨j, u, hj, rfl, rfl, hu64, hu⟩ := hrel
          by_cases hlt : j < cn / 8 + 1
          · have hc1 := HC.out (j + 1) (by omega)
            rw [show ((cn : Int) :: r).getD (j + 1) 0 = r.getD j 0 from rfl] at hc1
            have hz := HR8.out _ (getD_mem r j (by omega))
            obtain ⟨z, hzz⟩ : ∃ z : Nat, (z : Int) = r.getD j 0 := ⟨(r.getD j 0).toNat, by omega⟩
            rw [← hzz] at hc1 hz
            obtain ⟨_, hz1⟩ := hz
            have HZ := Lib.hid hzz; clear hzz
            have hub : u < 72057594037927936 := by
              have h1 := foldU_lt (r.take j) (HR8.out.take j)
              rw [← hu.out, List.length_take] at h1
              exact Nat.lt_of_lt_of_le h1 (Nat.pow_le_pow_right (n := 256) (j := 7) (by omega) (by omega))
            go_wp2_with fail
            go_round
            case rel =>
              refine ⟨j + 1, 256 * u + z, by omega, by go_num, by go_num, by omega, ?_⟩
              rw [take_snoc r j (by omega), foldU_snoc, ← hu.out, ← HZ.out]; rfl
            case measure => simp [intOf]; omega
          · obtain rfl : j = cn / 8 + 1 := by omega
            clear hj hlt
            have hl := HL.out
            rw [← hu.out] at hl
            clear HL
            have hln := longN_range u hu64
            by_cases hbad : s = false ∧ 9223372036854775808 ≤ u
            · obtain ⟨rfl, hu63⟩ := hbad
              rw [if_pos (.inr ⟨rfl, hu63⟩)] at hl
              injection hl with e1 hl; injection hl with e2 hl; injection hl with e3 e4
              subst e1 e2 e3 e4
              go_wp2_with fail
              refine (refMade_any u false _ (by omega) (by omega) 0 false (by unfold madeR; rw [if_neg (by simp), if_pos (by omega)])).mono ?_; rintro e w' ⟨rfl, rfl⟩
              clear hu63
              go_wp2_with fail
              obtain ⟨l0, e0, h0⟩ : ∃ l0 e0, putR 0 ((cn : Int) % 8 + 3) false = (l0, e0) := ⟨_, _, rfl⟩
              refine (refPut_any 0 _ false _ (by omega) (by omega) l0 e0 h0).mono ?_; rintro e w1 ⟨G1, n1, c1, rfl, hr1, hb1⟩
              clear h0 hr1
              go_wp2_with fail
              go_quiet (fail)
              go_wp2_with fail
              refine bodyPost_ret (results_tmp4 rfl _ _ _) rfl ?_
              exact ⟨none, 0, 0, rfl, Sl.nil _ _, below_drewN hb1 _⟩
            · obtain ⟨x0, hm0, hp0, hx0, hxe⟩ := madeR_plain u s hbad
              have hxr : -9223372036854775808 ≤ x0 ∧ x0 < 9223372036854775808 := by
                have := zag_range u (by omega) (by omega)
                cases s
                · simp at hbad hxe; omega
                · simp at hxe; omega
              obtain ⟨x1, x2⟩ := hxr
              have hput : putR x0 ((cn : Int) % 8 + 3) s = ((8 * ((longN u : Int) - 1) + ((cn : Int) % 8 + 3) - 3) :: hiB u (longN u), 0) := by
                unfold putR
                rw [if_neg (by rintro (h | h | ⟨h, h'⟩); omega; omega; have := hx0 h; omega), hp0, Int.toNat_natCast]
              have HP := Lib.hid hput; clear hput hp0 hx0
              have HX := Lib.hid hxe; clear hxe
              have HM := Lib.hid hm0; clear hm0
              go_wp2_with fail
              refine (refMade_any u s _ (by omega) (by omega) x0 true HM.out).mono ?_; rintro e w' ⟨rfl, rfl⟩
              go_wp2_with fail
              refine (refPut_any x0 _ s _ x1 x2 _ _ HP.out).mono ?_; rintro e w1 ⟨G1, n1, c1, rfl, hr1, hb1⟩
              have hrb := HR.out.below hb1
              have hr2 := hrb.first (m := cn / 8 + 1 + 1) (by omega)
              rw [List.take_succ_cons] at hr2
              have cv1 := fun nq => conv_any (w := w1.drewN nq) (c := c1) (hr1.1.drewN nq)
              have cv2 := fun nq => conv_any (w := w1.drewN nq) (c := cap) (hr2.drewN nq)
              by_cases hln2 : longN u = cn / 8 + 1
              · have hsame : (8 * ((longN u : Int) - 1) + ((cn : Int) % 8 + 3) - 3) :: hiB u (longN u) = (cn : Int) :: r.take (cn / 8 + 1) := by
                  have h1 := hiB_foldU (r.take (cn / 8 + 1)) (HR8.out.take _)
                  rw [← hu.out, HKL.out] at h1
                  rw [hln2, h1]
                  congr 1
                  omega
                rw [hsame] at cv1
                have st := strOf_same ((cn : Int) :: r.take (cn / 8 + 1))
                generalize strOf ((cn : Int) :: r.take (cn / 8 + 1)) = S at *
                rw [if_neg (by rintro (h | h); exact h hln2; exact hbad h)] at hl
                injection hl with e1 hl; injection hl with e2 hl; injection hl with e3 e4
                rw [← HX.out] at e1
                subst e1 e2 e4
                have HE := Lib.hid e3
                have hq := (hrb.restIf (i := cn / 8 + 1 + 1) (by omega) (cap := cap) hc)
                rw [List.drop_succ_cons, e3] at hq
                have HQ := Lib.hid hq
                clear hsame hln2 hbad hln e3 hr1 hr2 hrb hq
                go_wp2_with fail
                go_quiet (fail)
                go_wp2_with (at_builtin; refine wpList_append_any _ rfl _ _ 38 rfl w1.heap.size 5 i0 (.int .u8 0) 1 1 Tryz.underlying38 hi hz0 hz1 hz2 rfl (by decide) _ 0 [] rfl (own_empty (w1.drewN nq) _ 1) _ (n - (cn / 8 + 1 + 1)) _ (l.map (Value.int .u8)) rfl ((HQ.out.drewN nq).alloc _) (Ri.oneCell _ _) (by unfold maxLen; omega) (by omega) (by simp) ?_; intro G2 c2 w2 hown hgr _ _)
                all_goals
                  rw [Nat.zero_add] at hown
                  have HOWN := Lib.hid hown; clear hown
                  go_wp2_with fail
                  refine bodyPost_ret (results_tmp4 rfl _ _ _) rfl ?_
                  refine ⟨G2, n - (cn / 8 + 1 + 1), c2, by first | rfl | (rw [Nat.zero_add]; rfl), Sl.of_own HOWN.out, ?_⟩
                  exact on (below_drewN hb1 nq) (push0 ((Below.refl (w1.drewN nq).heap.size (w1.drewN nq)).alloc (Nat.le_refl _) _) (Nat.le_refl _) (own_empty (w1.drewN nq) _ 1) hgr)
              · rw [if_pos (.inl hln2)] at hl
                injection hl with e1 hl; injection hl with e2 hl; injection hl with e3 e4
                subst e1 e2 e3 e4
                have hlen1 : U8 ((8 * ((longN u : Int) - 1) + ((cn : Int) % 8 + 3) - 3) :: hiB u (longN u)) := by
                  intro y hy
                  rcases List.mem_cons.1 hy with rfl | h'
                  · omega
                  · exact hiB_u8 _ _ y h'
                have hlen2 : U8 ((cn : Int) :: r.take (cn / 8 + 1)) := by
                  intro y hy
                  rcases List.mem_cons.1 hy with rfl | h'
                  · omega
                  · exact HR8.out.take _ y h'
                have st := strOf_beq _ _ hlen1 hlen2
                rw [decide_eq_false (by
                  intro h
                  injection h with _ h
                  have h2 := congrArg List.length h
                  rw [hiB_len, HKL.out] at h2
                  exact hln2 h2)] at st
                generalize strOf ((cn : Int) :: r.take (cn / 8 + 1)) = S at *
                generalize strOf ((8 * ((longN u : Int) - 1) + ((cn : Int) % 8 + 3) - 3) :: hiB u (longN u)) = S2 at *
                clear hlen1 hlen2 hln2 hbad hln hr1 hr2 hrb
                go_wp2_with fail
                go_quiet (fail)
                go_wp2_with fail
                refine bodyPost_ret (results_tmp4 rfl _ _ _) rfl ?_
                exact ⟨none, 0, 0, rfl, Sl.nil _ _, below_drewN hb1 _⟩

end Go.Proofs.YtmejoococajikaaGreat

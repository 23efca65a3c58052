/- Joined texts: RefMost, RefDirect, RepR, RepT, PlainP, RepRT, RepPl. Each has its own head line. No condition beyond those that its theorems state. -/
import Derived.Deep.QuietTactic
import Derived.BigQuiet
import Derived.Test.YtbmooemlekckbaaDoorJ06
import Derived.Test.YtbmooemlekckbaaDoorJ12
import Derived.Test.YtbmooemlekckbaaDoorJ04
set_option linter.unusedVariables false

/- The reference of widths.Bits and widths.Most. -/
namespace Go.Proofs.YtbmooemlekckbaaDoor
open Go.RowKit

end Go.Proofs.YtbmooemlekckbaaDoor

/- The reference of direct.Put. -/
namespace Go.Proofs.YtbmooemlekckbaaDoor
open Go.RowKit

end Go.Proofs.YtbmooemlekckbaaDoor

/- The reference of a number a few times: Made and Put. -/
namespace Go.Proofs.YtbmooemlekckbaaDoor
open Go.RowKit

end Go.Proofs.YtbmooemlekckbaaDoor

/- A number a few times is taken: repeat.Take. -/
namespace Go.Proofs.YtbmooemlekckbaaDoor
open Go.RowKit

def foldU (l : List Int) : Nat := l.foldl (fun u c => 256 * u + c.toNat) 0
theorem foldU_snoc (l : List Int) (c : Int) : foldU (l ++ [c]) = 256 * foldU l + c.toNat := by simp [foldU]
theorem foldU_lt (l : List Int) (h : U8 l) : foldU l < 256 ^ l.length := by
  have key : ∀ (l : List Int) (u : Nat), U8 l → l.foldl (fun u c => 256 * u + c.toNat) u < 256 ^ l.length * (u + 1) := by
    intro l
    induction l with
    | nil => intro u _; simp
    | cons c l ih =>
      intro u hl
      have h1 := ih (256 * u + c.toNat) (fun x hx => hl x (List.mem_cons_of_mem _ hx))
      have h2 := hl c List.mem_cons_self
      rw [List.foldl_cons, List.length_cons, Nat.pow_succ]
      refine Nat.lt_of_lt_of_le h1 ?_
      rw [Nat.mul_assoc]
      exact Nat.mul_le_mul_left _ (by omega)
  have := key l 0 h
  rw [Nat.zero_add, Nat.mul_one] at this
  exact this
def takeR (b : List Int) (s : Bool) : Int × Int × List Int × Int :=
  match b with
  | [] => (0, 0, [], 2)
  | c :: r =>
    if 64 ≤ c then (0, 0, [], 2)
    else if r.length < (c / 8 + 1).toNat then (0, 0, [], 2)
    else if longN (foldU (r.take (c / 8 + 1).toNat)) ≠ (c / 8 + 1).toNat ∨ (s = false ∧ 9223372036854775808 ≤ foldU (r.take (c / 8 + 1).toNat)) then (0, 0, [], 2)
    else (if s then zag (foldU (r.take (c / 8 + 1).toNat)) else foldU (r.take (c / 8 + 1).toNat), c % 8 + 3, r.drop (c / 8 + 1).toNat, 0)

/-- Two numbers, bytes and an error's number are handed back. -/
def TakeOut (w : World) (x t : Int) (l : List Int) (er : Int) (e : Ending) (w' : World) : Prop :=
  ∃ G n c, e = .returned (.tuple #[.int .i64 x, .int .i64 t, .slice G n c, .int .i64 er]) ∧ Sl w' .u8 G n c l ∧ Below w.heap.size w w'

theorem or_shift (u c : Nat) (hu : u < 72057594037927936) (hc : c < 256) : bits .or .u64 ((u : Int) * 256) (c : Int) = ((256 * u + c : Nat) : Int) := by
  have := u64_or_nat (256 * u) c (by omega) (by omega)
  rw [show ((u : Int) * 256) = ((256 * u : Nat) : Int) from by omega, this, (Nat.two_pow_add_eq_or_of_lt (i := 8) hc u).symm]
set_option maxRecDepth 100000 in
set_option maxHeartbeats 1000000 in
theorem Take_any (A : Option Addr) (n cap : Nat) (b : List Int) (s : Bool) (w : World) (hr : Ri w .u8 A n b) (hu : U8 b) (hc : n ≤ cap) (hm : cap ≤ 9223372036854775807) (hnb : n ≤ 1000000000) (x t : Int) (l : List Int) (er : Int) (hl : takeR b s = (x, t, l, er)) :
    Calls Tryd.prog 54 #[.slice A n cap, .bool s] w (TakeOut w x t l er) := by
  have HN := Lib.hid hr.len
  have HR := Lib.hid hr; clear hr
  by_cases h0 : n = 0
  · have : b = [] := List.eq_nil_of_length_eq_zero (by rw [HN.out]; exact h0)
    subst this h0
    injection hl with e1 hl; injection hl with e2 hl; injection hl with e3 e4
    subst e1 e2 e3 e4
    go_enter Tryd.func54, Tryd.ntmps54
    go_wp2_with fail
    refine bodyPost_ret (results_tmp4 rfl _ _ _) rfl ?_
    exact ⟨none, 0, 0, rfl, Sl.nil _ _, Below.refl _ _⟩
  · obtain ⟨bl, o, hA, hbl, hcell⟩ := HR.out.all (by omega)
    subst hA
    have hc0 := hcell 0 (by omega)
    have HC := Lib.hid hcell; clear hcell
    obtain ⟨c, r, rfl⟩ : ∃ c r, b = c :: r := by
      cases b with
      | nil => exact absurd HN.out (by simp; omega)
      | cons c r => exact ⟨c, r, rfl⟩
    have hlen : r.length + 1 = n := by have := HN.out; simpa using this
    have hcr := hu c List.mem_cons_self
    rw [show (c :: r).getD 0 0 = c from rfl, Nat.add_zero] at hc0
    have hn0 : ((n : Int) == 0) = false := by simpa using h0
    have HL : Hid (takeR (c :: r) s = (x, t, l, er)) := hl
    have HR8 : Hid (U8 r) := fun x hx => hu x (List.mem_cons_of_mem _ hx)
    clear hl hu h0
    obtain ⟨cn, rfl⟩ := Int.eq_ofNat_of_zero_le hcr.1
    have hcn : cn < 256 := by omega
    clear hcr
    by_cases h64 : 64 ≤ cn
    · go_enter Tryd.func54, Tryd.ntmps54
      go_wp2_with fail
      refine bodyPost_ret (results_tmp4 rfl _ _ _) rfl ?_
      have hl := HL.out
      unfold takeR at hl
      simp only [if_pos (show (64 : Int) ≤ (cn : Int) by omega)] at hl
      injection hl with e1 hl; injection hl with e2 hl; injection hl with e3 e4
      subst e1 e2 e3 e4
      exact ⟨none, 0, 0, rfl, Sl.nil _ _, Below.refl _ _⟩
    · have hk1 : ((cn : Int) / 8 + 1).toNat = cn / 8 + 1 := by omega
      have hl := HL.out
      unfold takeR at hl
      simp only [if_neg (show ¬ (64 : Int) ≤ (cn : Int) by omega), hk1] at hl
      clear HL
      have HL := Lib.hid hl; clear hl
      have hk8 : cn / 8 + 1 ≤ 8 := by omega
      clear hk1
      by_cases hshort : n < cn / 8 + 1 + 1
      · have hl := HL.out
        rw [if_pos (by omega)] at hl
        injection hl with e1 hl; injection hl with e2 hl; injection hl with e3 e4
        subst e1 e2 e3 e4
        clear HL
        by_cases hcap : cap = 1
        · obtain rfl : n = 1 := by omega
          subst hcap
          go_enter Tryd.func54, Tryd.ntmps54
          go_wp2_with fail
          refine bodyPost_ret (results_tmp4 rfl _ _ _) rfl ?_
          exact ⟨none, 0, 0, rfl, Sl.nil _ _, Below.refl _ _⟩
        · go_enter Tryd.func54, Tryd.ntmps54
          go_wp2_with fail
          refine bodyPost_ret (results_tmp4 rfl _ _ _) rfl ?_
          exact ⟨none, 0, 0, rfl, Sl.nil _ _, Below.refl _ _⟩
      · have hl := HL.out
        rw [if_neg (by omega)] at hl
        clear HL
        have HL := Lib.hid hl; clear hl
        have hkl : (r.take (cn / 8 + 1)).length = cn / 8 + 1 := by rw [List.length_take]; omega
        have HKL := Lib.hid hkl; clear hkl
        go_enter Tryd.func54, Tryd.ntmps54
        go_wp2_with fail
        go_loop [9, 11, 43] (fun uu _ i => ∃ j u : Nat, j ≤ cn / 8 + 1 ∧ i = .int .i64 j ∧ uu = .int .u64 u ∧ u < 18446744073709551616 ∧ Hid (u = foldU (r.take j))) (fun _ _ i => cn / 8 + 1 - (intOf i).toNat)
        case atStart => exact ⟨0, 0, by omega, rfl, rfl, by omega, rfl⟩
        case round =>
          obtain ⟨j, u, hj, rfl, rfl, hu64, hu⟩ := hrel
          by_cases hlt : j < cn / 8 + 1
          · have hc1 := HC.out (j + 1) (by omega)
            rw [show o + (j + 1) = o + 1 + j from by omega, show ((cn : Int) :: r).getD (j + 1) 0 = r.getD j 0 from rfl] at hc1
            have hz := HR8.out _ (getD_mem r j (by omega))
            obtain ⟨z, hzz⟩ : ∃ z : Nat, (z : Int) = r.getD j 0 := ⟨(r.getD j 0).toNat, by omega⟩
            rw [← hzz] at hc1 hz
            obtain ⟨_, hz1⟩ := hz
            have HZ := Lib.hid hzz; clear hzz
            have hub : u < 72057594037927936 := by
              have h1 := foldU_lt (r.take j) (HR8.out.take j)
              rw [← hu.out, List.length_take] at h1
              exact Nat.lt_of_lt_of_le h1 (Nat.pow_le_pow_right (n := 256) (j := 7) (by omega) (by omega))
            go_wp2_with fail
            go_round
            case rel =>
              refine ⟨j + 1, 256 * u + z, by omega, by go_num, by rw [or_shift u z hub (by omega)], by omega, ?_⟩
              rw [take_snoc r j (by omega), foldU_snoc, ← hu.out, ← HZ.out]; rfl
            case measure => simp [intOf]; omega
          · obtain rfl : j = cn / 8 + 1 := by omega
            clear hj hlt
            have hl := HL.out
            rw [← hu.out] at hl
            clear HL hu
            have hln := longN_range u hu64
            go_wp2_with fail
            refine (long_any _ _ (by omega)).mono ?_; rintro e w' ⟨rfl, rfl⟩
            obtain ⟨m, hm⟩ : ∃ m, m = longN u := ⟨_, rfl⟩
            rw [← hm] at hl hln ⊢
            clear hm
            by_cases hmk : m = cn / 8 + 1
            · by_cases hbad : s = false ∧ 9223372036854775808 ≤ u
              · obtain ⟨rfl, hu63⟩ := hbad
                rw [if_pos (.inr ⟨rfl, hu63⟩)] at hl
                injection hl with e1 hl; injection hl with e2 hl; injection hl with e3 e4
                subst e1 e2 e3 e4
                have hq : ((m : Int) != (cn : Int) / 8 + 1) = false := by simp; omega
                have hq2 : ((u : Int) / 9223372036854775808 != 0) = true := by simp; omega
                clear hmk
                go_wp2_with fail
                refine bodyPost_ret (results_tmp4 rfl _ _ _) rfl ?_
                exact ⟨none, 0, 0, rfl, Sl.nil _ _, Below.refl _ _⟩
              · rw [if_neg (by rintro (h | h); exact h hmk; exact hbad h)] at hl
                injection hl with e1 hl; injection hl with e2 hl; injection hl with e3 e4
                subst e2 e4
                have hq3 := HR.out.rest (i := 1) (by omega) (fun _ => rfl)
                have hq4 := hq3.rest (i := cn / 8 + 1) (by omega) (fun _ => rfl)
                rw [show ((cn : Int) :: r).drop 1 = r from rfl, e3] at hq4
                have HQ := Lib.hid hq4
                clear hq3 hq4 e3
                have hq : ((m : Int) != (cn : Int) / 8 + 1) = false := by simp; omega
                clear hmk
                cases s
                · have hu63 : u < 9223372036854775808 := by
                    rcases Nat.lt_or_ge u 9223372036854775808 with h | h
                    · exact h
                    · exact absurd ⟨rfl, h⟩ hbad
                  have hq2 : ((u : Int) / 9223372036854775808 != 0) = false := by simp; omega
                  clear hbad
                  obtain rfl : x = (u : Int) := by simpa using e1.symm
                  clear e1
                  go_wp2_with fail
                  all_goals
                    refine (Clone_any _ _ _ l _ (by first | exact HQ.out | exact HQ.out.zero (by omega) _) (by omega)).mono ?_; rintro e w2 ⟨G, q, c, rfl, hr2, hb2⟩
                    have HR2 := Lib.hid hr2; clear hr2
                    go_wp2_with fail
                    refine bodyPost_ret (results_tmp4 rfl _ _ _) rfl ?_
                    exact ⟨G, q, c, rfl, HR2.out, hb2⟩
                · obtain rfl : x = zag u := by simpa using e1.symm
                  clear e1 hbad
                  go_wp2_with fail
                  refine (Zag_any _ _ (by omega) (by omega)).mono ?_; rintro e w' ⟨rfl, rfl⟩
                  generalize zag u = x at *
                  go_wp2_with fail
                  all_goals
                    refine (Clone_any _ _ _ l _ (by first | exact HQ.out | exact HQ.out.zero (by omega) _) (by omega)).mono ?_; rintro e w2 ⟨G, q, c, rfl, hr2, hb2⟩
                    have HR2 := Lib.hid hr2; clear hr2
                    go_wp2_with fail
                    refine bodyPost_ret (results_tmp4 rfl _ _ _) rfl ?_
                    exact ⟨G, q, c, rfl, HR2.out, hb2⟩
            · rw [if_pos (.inl hmk)] at hl
              injection hl with e1 hl; injection hl with e2 hl; injection hl with e3 e4
              subst e1 e2 e3 e4
              have hq : ((m : Int) != (cn : Int) / 8 + 1) = true := by simp; omega
              clear hmk
              go_wp2_with fail
              refine bodyPost_ret (results_tmp4 rfl _ _ _) rfl ?_
              exact ⟨none, 0, 0, rfl, Sl.nil _ _, Below.refl _ _⟩
end Go.Proofs.YtbmooemlekckbaaDoor

/- Plain laws on what repeat lays down. -/
namespace Go.Proofs.YtbmooemlekckbaaDoor
open Go.RowKit

theorem hiB_u8 (u k : Nat) : U8 (hiB u k) := by
  induction k with
  | zero => intro x hx; cases hx
  | succ k ih =>
    intro x hx
    rcases List.mem_cons.1 hx with rfl | h
    · exact ⟨Int.emod_nonneg _ (by omega), Int.emod_lt_of_pos _ (by omega)⟩
    · exact ih x h
theorem putR_u8 (x t : Int) (s : Bool) (hx0 : -9223372036854775808 ≤ x) (hx1 : x < 9223372036854775808) : U8 (putR x t s).1 := by
  unfold putR
  split
  · intro x hx; cases hx
  · rename_i h
    have hz := zig_range x hx0 hx1
    have hu : plainU x s < 18446744073709551616 := by unfold plainU; split <;> omega
    have := longN_range (plainU x s).toNat (by omega)
    intro y hy
    rcases List.mem_cons.1 hy with rfl | h'
    · omega
    · exact hiB_u8 _ _ y h'
theorem putR_er (x t : Int) (s : Bool) : 0 ≤ (putR x t s).2 ∧ (putR x t s).2 ≤ 1 := by
  unfold putR; split <;> simp
end Go.Proofs.YtbmooemlekckbaaDoor

/- The reference takes a number a few times. -/
namespace Go.Proofs.YtbmooemlekckbaaDoor
open Go.RowKit

theorem div_foldl (l : List Int) (h : U8 l) (u : Nat) : l.foldl (fun u c => 256 * u + c.toNat) u = 256 ^ l.length * u + foldU l := by
  induction l generalizing u with
  | nil => simp [foldU]
  | cons c l ih =>
    have h2 := fun x hx => h x (List.mem_cons_of_mem c hx)
    unfold foldU
    rw [List.foldl_cons, List.foldl_cons, ih h2, ih h2 (256 * 0 + c.toNat), List.length_cons, Nat.pow_succ]
    generalize 256 ^ l.length = p
    rw [Nat.mul_zero, Nat.zero_add, Nat.mul_add, ← Nat.mul_assoc, Nat.add_assoc]
theorem foldU_cons (c : Int) (l : List Int) (h : U8 l) : foldU (c :: l) = 256 ^ l.length * c.toNat + foldU l := by
  have := div_foldl l h c.toNat
  unfold foldU at this ⊢
  rw [List.foldl_cons, Nat.mul_zero, Nat.zero_add]
  exact this
theorem hiB_add (u v k : Nat) : hiB (256 ^ k * u + v) k = hiB v k := by
  have key : ∀ j, j ≤ k → hiB (256 ^ k * u + v) j = hiB v j := by
    intro j
    induction j with
    | zero => intro _; rfl
    | succ j ih =>
      intro hj
      unfold hiB
      rw [ih (by omega)]
      have e : 256 ^ k = 2 ^ (8 * j) * 256 * 256 ^ (k - j - 1) := by
        rw [show (256 : Nat) = 2 ^ 8 from rfl, ← Nat.pow_mul, ← Nat.pow_mul, ← Nat.pow_add, ← Nat.pow_add]
        congr 1; omega
      have h1 : (256 ^ k * u + v) / 2 ^ (8 * j) % 256 = v / 2 ^ (8 * j) % 256 := by
        rw [e, Nat.mul_assoc, Nat.mul_assoc, Nat.mul_add_div (Nat.two_pow_pos _)]
        omega
      have h2 : ∀ m : Nat, ((m : Int) / 2 ^ (8 * j) % 256) = ((m / 2 ^ (8 * j) % 256 : Nat) : Int) := by
        intro m
        rw [show ((2 : Int) ^ (8 * j)) = ((2 ^ (8 * j) : Nat) : Int) from by rw [Int.natCast_pow]; rfl]
        rfl
      rw [h2, h2, h1]
  exact key k (Nat.le_refl _)
theorem hiB_foldU (l : List Int) (h : U8 l) : hiB (foldU l) l.length = l := by
  induction l with
  | nil => rfl
  | cons c l ih =>
    have h2 := fun x hx => h x (List.mem_cons_of_mem c hx)
    have hc := h c List.mem_cons_self
    rw [foldU_cons c l h2, List.length_cons]
    unfold hiB
    rw [hiB_add, ih h2]
    congr 1
    have hlt := foldU_lt l h2
    have e : (256 : Nat) ^ l.length = 2 ^ (8 * l.length) := by rw [show (256 : Nat) = 2 ^ 8 from rfl, ← Nat.pow_mul]
    have h3 : ∀ m : Nat, ((m : Int) / 2 ^ (8 * l.length) % 256) = ((m / 2 ^ (8 * l.length) % 256 : Nat) : Int) := by
      intro m
      rw [show ((2 : Int) ^ (8 * l.length)) = ((2 ^ (8 * l.length) : Nat) : Int) from by rw [Int.natCast_pow]; rfl]
      rfl
    rw [e] at hlt ⊢
    rw [h3, Nat.mul_add_div (Nat.two_pow_pos _), Nat.div_eq_of_lt hlt]
    omega

theorem madeR_plain (u : Nat) (s : Bool) (h : ¬ (s = false ∧ 9223372036854775808 ≤ u)) : ∃ x, madeR u s = (x, true) ∧ plainU x s = u ∧ (s = false → 0 ≤ x) ∧ x = (if s then zag u else u) := by
  unfold madeR plainU
  cases s
  · rw [if_neg (by simp), if_neg (by simp at h; omega)]
    exact ⟨u, rfl, by simp, fun _ => by omega, by simp⟩
  · exact ⟨zag u, rfl, by simp [zig_zag u (by omega)], (fun h => by cases h), by simp⟩

end Go.Proofs.YtbmooemlekckbaaDoor

/- Plain laws on a number a few times. -/
namespace Go.Proofs.YtbmooemlekckbaaDoor
open Go.RowKit

theorem foldU_hiB (u k : Nat) : foldU (hiB u k) = u % 256 ^ k := by
  induction k with
  | zero => simp [hiB, foldU, Nat.mod_one]
  | succ k ih =>
    unfold hiB
    rw [foldU_cons _ _ (hiB_u8 u k), ih, hiB_len, Nat.pow_succ, Nat.mod_mul]
    have e : (2 : Int) ^ (8 * k) = ((256 ^ k : Nat) : Int) := by
      rw [show (256 : Nat) = 2 ^ 8 from rfl, ← Nat.pow_mul, Int.natCast_pow]; rfl
    rw [e, ← Int.natCast_ediv, show ((u / 256 ^ k : Nat) : Int) % 256 = ((u / 256 ^ k % 256 : Nat) : Int) from rfl, Int.toNat_natCast]
    omega
theorem longN_pow (u : Nat) : u < 256 ^ longN u := by
  have h := blen_lt u
  have e : (256 : Nat) ^ longN u = 2 ^ (8 * longN u) := by rw [show (256 : Nat) = 2 ^ 8 from rfl, ← Nat.pow_mul]
  rw [e]
  exact Nat.lt_of_lt_of_le h (Nat.pow_le_pow_right (by omega) (by unfold longN; omega))
theorem takeR_put (u : Nat) (t : Int) (s : Bool) (behind : List Int) (ht1 : 3 ≤ t) (ht2 : t ≤ 10) (hu : u < 18446744073709551616) (hs : s = false → u < 9223372036854775808) :
    takeR (((8 * ((longN u : Int) - 1) + t - 3) :: hiB u (longN u)) ++ behind) s = (if s then zag u else u, t, behind, 0) := by
  have hl := longN_range u hu
  unfold takeR
  simp only [List.cons_append]
  have h1 : ((8 * ((longN u : Int) - 1) + t - 3) / 8 + 1).toNat = longN u := by omega
  have h2 : (8 * ((longN u : Int) - 1) + t - 3) % 8 + 3 = t := by omega
  have h3 : (hiB u (longN u) ++ behind).take (longN u) = hiB u (longN u) := by
    rw [List.take_append_of_le_length (by rw [hiB_len]; exact Nat.le_refl _), List.take_of_length_le (by rw [hiB_len]; exact Nat.le_refl _)]
  have h4 : (hiB u (longN u) ++ behind).drop (longN u) = behind := by
    rw [List.drop_append_of_le_length (by rw [hiB_len]; exact Nat.le_refl _), List.drop_of_length_le (by rw [hiB_len]; exact Nat.le_refl _), List.nil_append]
  rw [if_neg (by omega), h1, h3, h4, foldU_hiB, Nat.mod_eq_of_lt (longN_pow u), h2, if_neg (by rw [List.length_append, hiB_len]; omega), if_neg]
  rintro (h | ⟨h, h'⟩)
  · exact h rfl
  · have := hs h; omega
theorem takeR_cut (u : Nat) (t : Int) (s : Bool) (i : Nat) (ht1 : 3 ≤ t) (ht2 : t ≤ 10) (hu : u < 18446744073709551616) (hi : i < longN u + 1) :
    takeR (((8 * ((longN u : Int) - 1) + t - 3) :: hiB u (longN u)).take i) s = (0, 0, [], 2) := by
  have hl := longN_range u hu
  cases i with
  | zero => rfl
  | succ j =>
    rw [List.take_succ_cons]
    unfold takeR
    have h1 : ((8 * ((longN u : Int) - 1) + t - 3) / 8 + 1).toNat = longN u := by omega
    simp only
    rw [if_neg (by omega), h1, if_pos (by rw [List.length_take, hiB_len]; omega)]
theorem and7 (a : Int) : 0 ≤ bits BinOp.and IntKind.i64 a 7 ∧ bits BinOp.and IntKind.i64 a 7 ≤ 7 := by
  have h : (BitVec.ofInt 64 a &&& BitVec.ofInt 64 7).toNat ≤ 7 := by
    rw [BitVec.toNat_and]
    exact Nat.and_le_right
  show 0 ≤ IntKind.i64.wrap ((BitVec.ofInt 64 a &&& BitVec.ofInt 64 7).toNat : Int) ∧ IntKind.i64.wrap ((BitVec.ofInt 64 a &&& BitVec.ofInt 64 7).toNat : Int) ≤ 7
  rw [IntWalk.i64_in _ (by omega)]
  omega

theorem put_take (x t : Int) (s : Bool) (ht1 : 3 ≤ t) (ht2 : t ≤ 10) (hx : -9223372036854775808 ≤ x ∧ x < 9223372036854775808) (hs : s = false → 0 ≤ x) :
    ∃ (p : List Int), putR x t s = (p, 0) ∧ U8 p ∧ 2 ≤ p.length ∧ p.length ≤ 9 ∧ (∀ behind, takeR (p ++ behind) s = (x, t, behind, 0)) ∧ ∀ i, i < p.length → takeR (p.take i) s = (0, 0, [], 2) := by
  have hz := zig_range x hx.1 hx.2
  have hp : 0 ≤ plainU x s ∧ plainU x s < 18446744073709551616 ∧ (s = false → plainU x s < 9223372036854775808) := by
    unfold plainU
    cases s
    · have := hs rfl; simp; omega
    · simp; omega
  obtain ⟨u, hu⟩ : ∃ u : Nat, (u : Int) = plainU x s := ⟨(plainU x s).toNat, by omega⟩
  have hl := longN_range u (by omega)
  have e : putR x t s = ((8 * ((longN u : Int) - 1) + t - 3) :: hiB u (longN u), 0) := by
    unfold putR
    rw [if_neg (by rintro (h | h | ⟨h, h'⟩); omega; omega; have := hs h; omega), ← hu, Int.toNat_natCast]
  refine ⟨_, e, ?_, by rw [List.length_cons, hiB_len]; omega, by rw [List.length_cons, hiB_len]; omega, ?_, ?_⟩
  · have := putR_u8 x t s hx.1 hx.2
    rwa [e] at this
  · intro behind
    rw [takeR_put u t s behind ht1 ht2 (by omega) (fun h => by have := hp.2.2 h; omega)]
    have : (if s = true then zag (u : Int) else (u : Int)) = x := by
      rw [hu]
      unfold plainU
      cases s
      · simp
      · simp [zag_zig]
    rw [this]
  · intro i hi
    rw [List.length_cons, hiB_len] at hi
    exact takeR_cut u t s i ht1 ht2 (by omega) hi
end Go.Proofs.YtbmooemlekckbaaDoor

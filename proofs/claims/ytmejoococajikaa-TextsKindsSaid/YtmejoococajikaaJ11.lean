/- Joined texts: Most, Min, RefW. Each has its own head line. No condition beyond those that its theorems state. -/
import Derived.Test.YtmejoococajikaaJ05
import Derived.Test.YtmejoococajikaaJ10
set_option linter.unusedVariables false

/- How many bits several numbers need: widths.Most and its reference. -/
namespace Go.Proofs.Ytmejoococajikaa
open Go.RowKit

theorem take_snoc (l : List Int) (k : Nat) (h : k < l.length) : l.take (k + 1) = l.take k ++ [l.getD k 0] := by
  rw [List.take_succ_eq_append_getElem h]; simp [List.getD, List.getElem?_eq_getElem h]
theorem getD_mem (l : List Int) (k : Nat) (h : k < l.length) : l.getD k 0 ∈ l := by
  simp [List.getD, List.getElem?_eq_getElem h]

def orAll (l : List Int) : Nat := l.foldl (fun m x => m ||| x.toNat) 0
def mostBits (l : List Int) : Nat := l.foldl (fun m x => max m (blen x.toNat)) 0
theorem orAll_snoc (l : List Int) (x : Int) : orAll (l ++ [x]) = orAll l ||| x.toNat := by simp [orAll]
theorem mostBits_snoc (l : List Int) (x : Int) : mostBits (l ++ [x]) = max (mostBits l) (blen x.toNat) := by simp [mostBits]
theorem blen_orAll (l : List Int) : blen (orAll l) = mostBits l := by
  have : ∀ (l : List Int) (m : Nat), blen (l.foldl (fun m x => m ||| x.toNat) m) = l.foldl (fun m x => max m (blen x.toNat)) (blen m) := by
    intro l
    induction l with
    | nil => intro m; rfl
    | cons a l ih => intro m; rw [List.foldl_cons, List.foldl_cons, ih, blen_or]
  exact this l 0
theorem orAll_lt (l : List Int) (h : U64 l) : orAll l < 18446744073709551616 := by
  have : ∀ (l : List Int) (m : Nat), U64 l → m < 2 ^ 64 → l.foldl (fun m x => m ||| x.toNat) m < 2 ^ 64 := by
    intro l
    induction l with
    | nil => intro m _ h; exact h
    | cons a l ih =>
      intro m hl hm
      rw [List.foldl_cons]
      have := hl a List.mem_cons_self
      exact ih _ (fun x hx => hl x (List.mem_cons_of_mem _ hx)) (Nat.or_lt_two_pow hm (by omega))
  exact this l 0 h (by omega)
theorem U64.take {l : List Int} (h : U64 l) (k : Nat) : U64 (l.take k) := fun x hx => h x (List.mem_of_mem_take hx)
theorem U8.take {l : List Int} (h : U8 l) (k : Nat) : U8 (l.take k) := fun x hx => h x (List.mem_of_mem_take hx)
theorem U8.drop {l : List Int} (h : U8 l) (k : Nat) : U8 (l.drop k) := fun x hx => h x (List.mem_of_mem_drop hx)
theorem mostBits_le (l : List Int) (h : U64 l) : mostBits l ≤ 64 := by rw [← blen_orAll]; exact blen_64 _ (orAll_lt l h)

set_option maxRecDepth 100000 in
set_option maxHeartbeats 400000 in
theorem Most_any (l : List Int) (A : Option Addr) (n cap : Nat) (w : World) (hr : Ri w .u64 A n l) (hu : U64 l) (hc : n ≤ 9223372036854775807) :
    Calls Try.prog 48 #[.slice A n cap] w fun e w' => e = .returned (.int .i64 (mostBits l)) ∧ w = w' := by
  have HN := Lib.hid hr.len
  have HR := Lib.hid hr; clear hr
  have HU := Lib.hid hu; clear hu
  go_enter Try.func48, Try.ntmps48
  go_wp2_with fail
  go_loop [3, 5, 8] (fun a _ i => ∃ k m : Nat, k ≤ n ∧ i = .int .i64 k ∧ a = .int .u64 m ∧ m < 18446744073709551616 ∧ Hid (m = orAll (l.take k))) (fun _ _ i => n - (intOf i).toNat)
  case atStart => exact ⟨0, 0, Nat.zero_le _, rfl, rfl, by omega, Lib.hid (by simp [orAll])⟩
  case round =>
    obtain ⟨k, m, hk, rfl, rfl, hm, hmo⟩ := hrel
    by_cases hlt : k < n
    · have hkl : k < l.length := by rw [HN.out]; exact hlt
      obtain ⟨b, o, hA, _, hcell⟩ := HR.out.at_ hlt
      subst hA
      have hy := HU.out _ (getD_mem l k hkl)
      obtain ⟨y, hyy⟩ : ∃ y : Nat, (y : Int) = l.getD k 0 := ⟨(l.getD k 0).toNat, by omega⟩
      rw [← hyy] at hcell hy
      obtain ⟨_, hy1⟩ := hy
      have HY := Lib.hid hyy; clear hyy hkl
      go_wp2
      go_round
      case rel =>
        refine ⟨k + 1, m ||| y, by omega, by go_num, by rw [u64_or_nat _ _ (by omega) (by omega)], Nat.or_lt_two_pow (n := 64) (by omega) (by omega), Lib.hid ?_⟩
        rw [take_snoc l k (by rw [HN.out]; exact hlt), orAll_snoc, ← hmo.out, ← HY.out]; rfl
      case measure => simp [intOf]; omega
    · go_wp2_with (go_at_call 67; refine (Bits_any _ _ (by omega) (by omega)).mono ?_; rintro e w' ⟨rfl, rfl⟩)
      go_ret
      refine ⟨ret_int ?_, rfl⟩
      rw [hmo.out, blen_orAll, List.take_of_length_le (by rw [HN.out]; omega)]

theorem div2_pow (x k : Nat) : x / 2 ^ k / 2 = x / 2 ^ (k + 1) := by rw [Nat.div_div_eq_div_mul, Nat.pow_succ]
end Go.Proofs.Ytmejoococajikaa

/- slices.Min. -/
namespace Go.Proofs.Ytmejoococajikaa
open Go.RowKit

def minL (l : List Int) : Int := l.foldl min (l.getD 0 0)
theorem minL_snoc (l : List Int) (j : Nat) (h : j < l.length) (a : Int) : (l.take (j + 1)).foldl min a = min ((l.take j).foldl min a) (l.getD j 0) := by
  rw [take_snoc l j h, List.foldl_append]; rfl
theorem minL_le (l : List Int) (a : Int) : l.foldl min a ≤ a ∧ ∀ y ∈ l, l.foldl min a ≤ y := by
  induction l generalizing a with
  | nil => exact ⟨Int.le_refl _, fun y hy => by cases hy⟩
  | cons b t ih =>
    obtain ⟨h1, h2⟩ := ih (min a b)
    rw [List.foldl_cons]
    refine ⟨by omega, fun y hy => ?_⟩
    rcases List.mem_cons.1 hy with rfl | hy
    · omega
    · exact h2 y hy
theorem minL_mem (l : List Int) (a : Int) : l.foldl min a = a ∨ l.foldl min a ∈ l := by
  induction l generalizing a with
  | nil => exact .inl rfl
  | cons b t ih =>
    rw [List.foldl_cons]
    rcases ih (min a b) with h | h
    · rw [h]
      by_cases hab : a ≤ b
      · left; omega
      · right; rw [show min a b = b from by omega]; exact List.mem_cons_self
    · right; exact List.mem_cons_of_mem _ h
theorem minL_neg (l : List Int) (h : 0 < l.length) : (minL l < 0) ↔ l.any (fun x => decide (x < 0)) = true := by
  unfold minL
  rw [List.any_eq_true]
  constructor
  · intro h1
    rcases minL_mem l (l.getD 0 0) with h2 | h2
    · rw [h2] at h1
      exact ⟨_, getD_mem l 0 h, by simpa using h1⟩
    · exact ⟨_, h2, by simpa using h1⟩
  · rintro ⟨x, hx, h1⟩
    have := (minL_le l (l.getD 0 0)).2 x hx
    simp at h1
    omega
theorem getD_i64x {l : List Int} (h : I64 l) (i : Nat) : I64x (l.getD i 0) := by
  unfold I64x
  rcases Nat.lt_or_ge i l.length with h1 | h1
  · exact h _ (by simp [List.getD, List.getElem?_eq_getElem h1])
  · simp [List.getD, List.getElem?_eq_none h1]

set_option maxRecDepth 100000 in
set_option maxHeartbeats 1000000 in
theorem Min_any (w : World) (A : Option Addr) (n cap : Nat) (l : List Int) (hr : Ri w .i64 A n l) (hn : n ≤ 1000000) (h1 : 1 ≤ n) :
    Calls Try.prog 55 #[.slice A n cap] w fun e w' => e = .returned (.int .i64 (minL l)) ∧ w = w' := by
  have HR := Lib.hid hr; have HN := Lib.hid hr.len
  clear hr
  obtain ⟨bb, oo, rfl, hbl, hcells⟩ := HR.out.all (by omega)
  have HC := Lib.hid hcells; clear hcells
  have h0 := HC.out 0 (by omega)
  rw [Nat.add_zero] at h0
  obtain ⟨a, ha⟩ : ∃ a, a = l.getD 0 0 := ⟨_, rfl⟩
  rw [← ha] at h0
  have HA := Lib.hid ha; clear ha
  go_enter Try.func55, Try.ntmps55
  go_wp2_with fail
  go_loopw [3, 4] (fun m i wr => ∃ (j : Nat) (z : Int), 1 ≤ j ∧ j ≤ n ∧ i = .int .i64 j ∧ Hid (wr = w) ∧ m = .int .i64 z ∧ Hid (z = (l.take j).foldl min a)) (fun _ i _ => n - (intOf i).toNat)
  case atStart => exact ⟨1, a, by omega, h1, rfl, Lib.hid rfl, rfl, Lib.hid (by cases l with | nil => have := HN.out; simp at this; omega | cons x t => have := HA.out; simp at this; subst this; simp)⟩
  case round =>
    obtain ⟨j, z, hj1, hj, rfl, hw, rfl, hz⟩ := hrel
    obtain rfl := hw.out
    by_cases hlt : j < n
    · have hc := HC.out j hlt
      have hs := Lib.hid (minL_snoc l j (by rw [HN.out]; exact hlt) a)
      generalize l.getD j 0 = x at hc hs
      clear h0
      go_wp2_with fail
      all_goals
        go_roundw
        case rel =>
          refine ⟨j + 1, _, by omega, by omega, by go_num, Lib.hid trivial, rfl, Lib.hid ?_⟩
          rw [hs.out, ← hz.out]
          omega
        case measure => simp [intOf] <;> omega
    · obtain rfl : j = n := by omega
      go_wp2_with fail
      go_ret
      have h := hz.out
      rw [List.take_of_length_le (by rw [HN.out]; exact Nat.le_refl _), HA.out] at h
      exact ⟨by rw [h]; rfl, rfl⟩
end Go.Proofs.Ytmejoococajikaa

/- The reference's codes and closest widths; the document's examples. -/
namespace Go.Proofs.Ytmejoococajikaa
open Go.RowKit

end Go.Proofs.Ytmejoococajikaa

/- Joined texts: Most. Each has its own head line. No condition beyond those that its theorems state. -/
import Derived.Test.YtlmfdmaoakckgaaJ05
set_option linter.unusedVariables false

/- How many bits several numbers need: widths.Most and its reference. -/
namespace Go.Proofs.Ytlmfdmaoakckgaa
open Go.RowKit

theorem take_snoc (l : List Int) (k : Nat) (h : k < l.length) : l.take (k + 1) = l.take k ++ [l.getD k 0] := by
  rw [List.take_succ_eq_append_getElem h]; simp [List.getD, List.getElem?_eq_getElem h]
theorem getD_mem (l : List Int) (k : Nat) (h : k < l.length) : l.getD k 0 ∈ l := by
  simp [List.getD, List.getElem?_eq_getElem h]

def orAll (l : List Int) : Nat := l.foldl (fun m x => m ||| x.toNat) 0
def mostBits (l : List Int) : Nat := l.foldl (fun m x => max m (blen x.toNat)) 0
theorem orAll_snoc (l : List Int) (x : Int) : orAll (l ++ [x]) = orAll l ||| x.toNat := by simp [orAll]
theorem mostBits_snoc (l : List Int) (x : Int) : mostBits (l ++ [x]) = max (mostBits l) (blen x.toNat) := by simp [mostBits]
theorem blen_orAll (l : List Int) : blen (orAll l) = mostBits l := by
  have : ∀ (l : List Int) (m : Nat), blen (l.foldl (fun m x => m ||| x.toNat) m) = l.foldl (fun m x => max m (blen x.toNat)) (blen m) := by
    intro l
    induction l with
    | nil => intro m; rfl
    | cons a l ih => intro m; rw [List.foldl_cons, List.foldl_cons, ih, blen_or]
  exact this l 0
theorem orAll_lt (l : List Int) (h : U64 l) : orAll l < 18446744073709551616 := by
  have : ∀ (l : List Int) (m : Nat), U64 l → m < 2 ^ 64 → l.foldl (fun m x => m ||| x.toNat) m < 2 ^ 64 := by
    intro l
    induction l with
    | nil => intro m _ h; exact h
    | cons a l ih =>
      intro m hl hm
      rw [List.foldl_cons]
      have := hl a List.mem_cons_self
      exact ih _ (fun x hx => hl x (List.mem_cons_of_mem _ hx)) (Nat.or_lt_two_pow hm (by omega))
  exact this l 0 h (by omega)
theorem U64.take {l : List Int} (h : U64 l) (k : Nat) : U64 (l.take k) := fun x hx => h x (List.mem_of_mem_take hx)
theorem U8.take {l : List Int} (h : U8 l) (k : Nat) : U8 (l.take k) := fun x hx => h x (List.mem_of_mem_take hx)
theorem U8.drop {l : List Int} (h : U8 l) (k : Nat) : U8 (l.drop k) := fun x hx => h x (List.mem_of_mem_drop hx)
theorem mostBits_le (l : List Int) (h : U64 l) : mostBits l ≤ 64 := by rw [← blen_orAll]; exact blen_64 _ (orAll_lt l h)

set_option maxRecDepth 100000 in
set_option maxHeartbeats 400000 in
theorem Most_any (l : List Int) (A : Option Addr) (n cap : Nat) (w : World) (hr : Ri w .u64 A n l) (hu : U64 l) (hc : n ≤ 9223372036854775807) :
    Calls Try.prog 30 #[.slice A n cap] w fun e w' => e = .returned (.int .i64 (mostBits l)) ∧ w = w' := by
  have HN := Lib.hid hr.len
  have HR := Lib.hid hr; clear hr
  have HU := Lib.hid hu; clear hu
  go_enter Try.func30, Try.ntmps30
  go_wp2_with fail
  go_loop [3, 5, 8] (fun a _ i => ∃ k m : Nat, k ≤ n ∧ i = .int .i64 k ∧ a = .int .u64 m ∧ m < 18446744073709551616 ∧ Hid (m = orAll (l.take k))) (fun _ _ i => n - (intOf i).toNat)
  case atStart => exact ⟨0, 0, Nat.zero_le _, rfl, rfl, by omega, Lib.hid (by simp [orAll])⟩
  case round =>
    obtain ⟨k, m, hk, rfl, rfl, hm, hmo⟩ := hrel
    by_cases hlt : k < n
    · have hkl : k < l.length := by rw [HN.out]; exact hlt
      obtain ⟨b, o, hA, _, hcell⟩ := HR.out.at_ hlt
      subst hA
      have hy := HU.out _ (getD_mem l k hkl)
      obtain ⟨y, hyy⟩ : ∃ y : Nat, (y : Int) = l.getD k 0 := ⟨(l.getD k 0).toNat, by omega⟩
      rw [← hyy] at hcell hy
      obtain ⟨_, hy1⟩ := hy
      have HY := Lib.hid hyy; clear hyy hkl
      go_wp2
      go_round
      case rel =>
        refine ⟨k + 1, m ||| y, by omega, by go_num, by rw [u64_or_nat _ _ (by omega) (by omega)], Nat.or_lt_two_pow (n := 64) (by omega) (by omega), Lib.hid ?_⟩
        rw [take_snoc l k (by rw [HN.out]; exact hlt), orAll_snoc, ← hmo.out, ← HY.out]; rfl
      case measure => simp [intOf]; omega
    · go_wp2_with (go_at_call 29; refine (Bits_any _ _ (by omega) (by omega)).mono ?_; rintro e w' ⟨rfl, rfl⟩)
      go_ret
      refine ⟨ret_int ?_, rfl⟩
      rw [hmo.out, blen_orAll, List.take_of_length_le (by rw [HN.out]; omega)]

theorem div2_pow (x k : Nat) : x / 2 ^ k / 2 = x / 2 ^ (k + 1) := by rw [Nat.div_div_eq_div_mul, Nat.pow_succ]
end Go.Proofs.Ytlmfdmaoakckgaa

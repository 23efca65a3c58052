/- Joined texts: LenA, Most, RefW. Each has its own head line. No condition beyond those that its theorems state. -/
import Derived.Test.YtmejoococajikaaGreatJ02
set_option linter.unusedVariables false

/- math/bits.Len64 and widths.Bits: how many bits a number needs. -/
namespace Go.Proofs.YtmejoococajikaaGreat
open Go.RowKit
theorem tab_law (T : ByteArray) (hT : ∀ i : Fin 256, T.data.toList[i.val]?.map UInt8.toNat = some (blen i.val)) (n : Nat) (h1 : n < 256) (h : n < T.size) : (T[n]'h).toNat = blen n := by
  have h2 := hT ⟨n, h1⟩
  have h' : n < T.data.toList.length := by simpa using h
  simp only [List.getElem?_eq_getElem h', Option.map_some, Option.some.injEq] at h2
  rw [← h2]
  rfl
theorem blen_256 (n : Nat) (h : n < 256) : blen n ≤ 8 := blen_le n 8 h
theorem tab0 (T : ByteArray) (hT : ∀ i : Fin 256, T.data.toList[i.val]?.map UInt8.toNat = some (blen i.val)) (x : Int) (h0 : 0 ≤ x) (h1 : x < 256) (h : x.toNat < T.size) :
    wrap64 (wrap64 ((T[x.toNat]'h).toNat : Int)) = (blen x.toNat : Int) := by
  rw [tab_law T hT _ (by omega) h]
  have := blen_256 x.toNat (by omega)
  have e : wrap64 (blen x.toNat : Int) = (blen x.toNat : Int) := IntWalk.wrap64_in _ (by omega)
  rw [e, e]
theorem tabK (T : ByteArray) (hT : ∀ i : Fin 256, T.data.toList[i.val]?.map UInt8.toNat = some (blen i.val)) (x : Int) (h0 : 0 ≤ x) (h1 : x < 256) (h : x.toNat < T.size) (k : Int) (hk0 : 0 ≤ k) (hk : k < 64) :
    wrap64 (k + wrap64 ((T[x.toNat]'h).toNat : Int)) = k + (blen x.toNat : Int) := by
  rw [tab_law T hT _ (by omega) h]
  have := blen_256 x.toNat (by omega)
  have e : wrap64 (blen x.toNat : Int) = (blen x.toNat : Int) := IntWalk.wrap64_in _ (by omega)
  rw [e]
  exact IntWalk.wrap64_in _ (by omega)
theorem blen_shift (x : Int) (k : Nat) (m : Int) (hm : m = ((2 ^ k : Nat) : Int)) (h : m ≤ x) : (blen x.toNat : Int) = k + (blen (x / m).toNat : Int) := by
  subst hm
  have hp : (0 : Int) ≤ ((2 ^ k : Nat) : Int) := Int.natCast_nonneg _
  obtain ⟨n, rfl⟩ := Int.eq_ofNat_of_zero_le (show 0 ≤ x by omega)
  rw [← Int.natCast_ediv, Int.toNat_natCast, Int.toNat_natCast, blen_div n k (by omega)]
  omega

set_option maxRecDepth 100000 in
set_option maxHeartbeats 400000 in
theorem Len64_0 (x : Int) (w : World) (h0 : 0 ≤ x) (h1 : x < 256) :
    Calls Tryz.prog 106 #[.int .u64 x] w fun e w' => e = .returned (.int .i64 (blen x.toNat)) ∧ w = w' := by
  go_enter Tryz.func106, Tryz.ntmps106
  go_wp2
  go_ret
  exact ⟨ret_int (tab0 _ (by decide +kernel) x h0 h1 _), rfl⟩
set_option maxRecDepth 100000 in
set_option maxHeartbeats 400000 in
theorem Len64_1 (x : Int) (w : World) (h0 : 256 ≤ x) (h1 : x < 65536) :
    Calls Tryz.prog 106 #[.int .u64 x] w fun e w' => e = .returned (.int .i64 (blen x.toNat)) ∧ w = w' := by
  go_enter Tryz.func106, Tryz.ntmps106
  go_wp2
  go_ret
  refine ⟨ret_int ?_, rfl⟩
  show wrap64 _ = _
  refine (tabK _ (by decide +kernel) _ (by omega) (by omega) _ _ (by omega) (by omega)).trans ?_
  rw [blen_shift x 8 256 rfl (by omega)]
  omega
set_option maxRecDepth 100000 in
set_option maxHeartbeats 400000 in
theorem Len64_2 (x : Int) (w : World) (h0 : 65536 ≤ x) (h1 : x < 16777216) :
    Calls Tryz.prog 106 #[.int .u64 x] w fun e w' => e = .returned (.int .i64 (blen x.toNat)) ∧ w = w' := by
  go_enter Tryz.func106, Tryz.ntmps106
  go_wp2
  go_ret
  refine ⟨ret_int ?_, rfl⟩
  show wrap64 _ = _
  refine (tabK _ (by decide +kernel) _ (by omega) (by omega) _ _ (by omega) (by omega)).trans ?_
  rw [blen_shift x 16 65536 rfl (by omega)]
  omega
set_option maxRecDepth 100000 in
set_option maxHeartbeats 400000 in
theorem Len64_3 (x : Int) (w : World) (h0 : 16777216 ≤ x) (h1 : x < 4294967296) :
    Calls Tryz.prog 106 #[.int .u64 x] w fun e w' => e = .returned (.int .i64 (blen x.toNat)) ∧ w = w' := by
  go_enter Tryz.func106, Tryz.ntmps106
  go_wp2
  go_ret
  refine ⟨ret_int ?_, rfl⟩
  show wrap64 _ = _
  refine (tabK _ (by decide +kernel) _ (by omega) (by omega) _ _ (by omega) (by omega)).trans ?_
  rw [blen_shift x 16 65536 rfl (by omega), blen_shift (x / 65536) 8 256 rfl (by omega)]
  omega
set_option maxRecDepth 100000 in
set_option maxHeartbeats 400000 in
theorem Len64_4 (x : Int) (w : World) (h0 : 4294967296 ≤ x) (h1 : x < 1099511627776) :
    Calls Tryz.prog 106 #[.int .u64 x] w fun e w' => e = .returned (.int .i64 (blen x.toNat)) ∧ w = w' := by
  go_enter Tryz.func106, Tryz.ntmps106
  go_wp2
  go_ret
  refine ⟨ret_int ?_, rfl⟩
  show wrap64 _ = _
  refine (tabK _ (by decide +kernel) _ (by omega) (by omega) _ _ (by omega) (by omega)).trans ?_
  rw [blen_shift x 32 4294967296 rfl (by omega)]
  omega
set_option maxRecDepth 100000 in
set_option maxHeartbeats 400000 in
theorem Len64_5 (x : Int) (w : World) (h0 : 1099511627776 ≤ x) (h1 : x < 281474976710656) :
    Calls Tryz.prog 106 #[.int .u64 x] w fun e w' => e = .returned (.int .i64 (blen x.toNat)) ∧ w = w' := by
  go_enter Tryz.func106, Tryz.ntmps106
  go_wp2
  go_ret
  refine ⟨ret_int ?_, rfl⟩
  show wrap64 _ = _
  refine (tabK _ (by decide +kernel) _ (by omega) (by omega) _ _ (by omega) (by omega)).trans ?_
  rw [blen_shift x 32 4294967296 rfl (by omega), blen_shift (x / 4294967296) 8 256 rfl (by omega)]
  omega
set_option maxRecDepth 100000 in
set_option maxHeartbeats 400000 in
theorem Len64_6 (x : Int) (w : World) (h0 : 281474976710656 ≤ x) (h1 : x < 72057594037927936) :
    Calls Tryz.prog 106 #[.int .u64 x] w fun e w' => e = .returned (.int .i64 (blen x.toNat)) ∧ w = w' := by
  go_enter Tryz.func106, Tryz.ntmps106
  go_wp2
  go_ret
  refine ⟨ret_int ?_, rfl⟩
  show wrap64 _ = _
  refine (tabK _ (by decide +kernel) _ (by omega) (by omega) _ _ (by omega) (by omega)).trans ?_
  rw [blen_shift x 32 4294967296 rfl (by omega), blen_shift (x / 4294967296) 16 65536 rfl (by omega)]
  omega
set_option maxRecDepth 100000 in
set_option maxHeartbeats 400000 in
theorem Len64_7 (x : Int) (w : World) (h0 : 72057594037927936 ≤ x) (h1 : x < 18446744073709551616) :
    Calls Tryz.prog 106 #[.int .u64 x] w fun e w' => e = .returned (.int .i64 (blen x.toNat)) ∧ w = w' := by
  go_enter Tryz.func106, Tryz.ntmps106
  go_wp2
  go_ret
  refine ⟨ret_int ?_, rfl⟩
  show wrap64 _ = _
  refine (tabK _ (by decide +kernel) _ (by omega) (by omega) _ _ (by omega) (by omega)).trans ?_
  rw [blen_shift x 32 4294967296 rfl (by omega), blen_shift (x / 4294967296) 16 65536 rfl (by omega), blen_shift (x / 4294967296 / 65536) 8 256 rfl (by omega)]
  omega
theorem Len64_any (x : Int) (w : World) (h0 : 0 ≤ x) (h1 : x < 18446744073709551616) :
    Calls Tryz.prog 106 #[.int .u64 x] w fun e w' => e = .returned (.int .i64 (blen x.toNat)) ∧ w = w' := by
  by_cases a1 : x < 256
  · exact Len64_0 x w h0 a1
  by_cases a2 : x < 65536
  · exact Len64_1 x w (by omega) a2
  by_cases a3 : x < 16777216
  · exact Len64_2 x w (by omega) a3
  by_cases a4 : x < 4294967296
  · exact Len64_3 x w (by omega) a4
  by_cases a5 : x < 1099511627776
  · exact Len64_4 x w (by omega) a5
  by_cases a6 : x < 281474976710656
  · exact Len64_5 x w (by omega) a6
  by_cases a7 : x < 72057594037927936
  · exact Len64_6 x w (by omega) a7
  · exact Len64_7 x w (by omega) h1

theorem Bits_any (x : Int) (w : World) (h0 : 0 ≤ x) (h1 : x < 18446744073709551616) :
    Calls Tryz.prog 149 #[.int .u64 x] w fun e w' => e = .returned (.int .i64 (blen x.toNat)) ∧ w = w' := by
  go_enter Tryz.func149, Tryz.ntmps149
  go_wp2_with (go_at_call 106; refine (Len64_any _ _ (by omega) (by omega)).mono ?_; rintro e w' ⟨rfl, rfl⟩)
  go_ret
  exact ⟨rfl, rfl⟩
end Go.Proofs.YtmejoococajikaaGreat

/- How many bits several numbers need: widths.Most and its reference. -/
namespace Go.Proofs.YtmejoococajikaaGreat
open Go.RowKit

theorem take_snoc (l : List Int) (k : Nat) (h : k < l.length) : l.take (k + 1) = l.take k ++ [l.getD k 0] := by
  rw [List.take_succ_eq_append_getElem h]; simp [List.getD, List.getElem?_eq_getElem h]
theorem getD_mem (l : List Int) (k : Nat) (h : k < l.length) : l.getD k 0 ∈ l := by
  simp [List.getD, List.getElem?_eq_getElem h]

def orAll (l : List Int) : Nat := l.foldl (fun m x => m ||| x.toNat) 0
def mostBits (l : List Int) : Nat := l.foldl (fun m x => max m (blen x.toNat)) 0
theorem orAll_snoc (l : List Int) (x : Int) : orAll (l ++ [x]) = orAll l ||| x.toNat := by simp [orAll]
theorem mostBits_snoc (l : List Int) (x : Int) : mostBits (l ++ [x]) = max (mostBits l) (blen x.toNat) := by simp [mostBits]
theorem blen_orAll (l : List Int) : blen (orAll l) = mostBits l := by
  have : ∀ (l : List Int) (m : Nat), blen (l.foldl (fun m x => m ||| x.toNat) m) = l.foldl (fun m x => max m (blen x.toNat)) (blen m) := by
    intro l
    induction l with
    | nil => intro m; rfl
    | cons a l ih => intro m; rw [List.foldl_cons, List.foldl_cons, ih, blen_or]
  exact this l 0
theorem orAll_lt (l : List Int) (h : U64 l) : orAll l < 18446744073709551616 := by
  have : ∀ (l : List Int) (m : Nat), U64 l → m < 2 ^ 64 → l.foldl (fun m x => m ||| x.toNat) m < 2 ^ 64 := by
    intro l
    induction l with
    | nil => intro m _ h; exact h
    | cons a l ih =>
      intro m hl hm
      rw [List.foldl_cons]
      have := hl a List.mem_cons_self
      exact ih _ (fun x hx => hl x (List.mem_cons_of_mem _ hx)) (Nat.or_lt_two_pow hm (by omega))
  exact this l 0 h (by omega)
theorem U64.take {l : List Int} (h : U64 l) (k : Nat) : U64 (l.take k) := fun x hx => h x (List.mem_of_mem_take hx)
theorem U8.take {l : List Int} (h : U8 l) (k : Nat) : U8 (l.take k) := fun x hx => h x (List.mem_of_mem_take hx)
theorem U8.drop {l : List Int} (h : U8 l) (k : Nat) : U8 (l.drop k) := fun x hx => h x (List.mem_of_mem_drop hx)
theorem mostBits_le (l : List Int) (h : U64 l) : mostBits l ≤ 64 := by rw [← blen_orAll]; exact blen_64 _ (orAll_lt l h)

set_option maxRecDepth 100000 in
set_option maxHeartbeats 400000 in
theorem Most_any (l : List Int) (A : Option Addr) (n cap : Nat) (w : World) (hr : Ri w .u64 A n l) (hu : U64 l) (hc : n ≤ 9223372036854775807) :
    Calls Tryz.prog 119 #[.slice A n cap] w fun e w' => e = .returned (.int .i64 (mostBits l)) ∧ w = w' := by
  have HN := Lib.hid hr.len
  have HR := Lib.hid hr; clear hr
  have HU := Lib.hid hu; clear hu
  go_enter Tryz.func119, Tryz.ntmps119
  go_wp2_with fail
  go_loop [3, 5, 8] (fun a _ i => ∃ k m : Nat, k ≤ n ∧ i = .int .i64 k ∧ a = .int .u64 m ∧ m < 18446744073709551616 ∧ Hid (m = orAll (l.take k))) (fun _ _ i => n - (intOf i).toNat)
  case atStart => exact ⟨0, 0, Nat.zero_le _, rfl, rfl, by omega, Lib.hid (by simp [orAll])⟩
  case round =>
    obtain ⟨k, m, hk, rfl, rfl, hm, hmo⟩ := hrel
    by_cases hlt : k < n
    · have hkl : k < l.length := by rw [HN.out]; exact hlt
      obtain ⟨b, o, hA, _, hcell⟩ := HR.out.at_ hlt
      subst hA
      have hy := HU.out _ (getD_mem l k hkl)
      obtain ⟨y, hyy⟩ : ∃ y : Nat, (y : Int) = l.getD k 0 := ⟨(l.getD k 0).toNat, by omega⟩
      rw [← hyy] at hcell hy
      obtain ⟨_, hy1⟩ := hy
      have HY := Lib.hid hyy; clear hyy hkl
      go_wp2
      go_round
      case rel =>
        refine ⟨k + 1, m ||| y, by omega, by go_num, by rw [u64_or_nat _ _ (by omega) (by omega)], Nat.or_lt_two_pow (n := 64) (by omega) (by omega), Lib.hid ?_⟩
        rw [take_snoc l k (by rw [HN.out]; exact hlt), orAll_snoc, ← hmo.out, ← HY.out]; rfl
      case measure => simp [intOf]; omega
    · go_wp2_with (go_at_call 149; refine (Bits_any _ _ (by omega) (by omega)).mono ?_; rintro e w' ⟨rfl, rfl⟩)
      go_ret
      refine ⟨ret_int ?_, rfl⟩
      rw [hmo.out, blen_orAll, List.take_of_length_le (by rw [HN.out]; omega)]

theorem div2_pow (x k : Nat) : x / 2 ^ k / 2 = x / 2 ^ (k + 1) := by rw [Nat.div_div_eq_div_mul, Nat.pow_succ]
end Go.Proofs.YtmejoococajikaaGreat

/- The reference's codes and closest widths; the document's examples. -/
namespace Go.Proofs.YtmejoococajikaaGreat
open Go.RowKit

set_option maxRecDepth 100000 in
set_option maxHeartbeats 400000 in
theorem refCode_any (x : Int) (w : World) :
    Calls Tryz.prog 91 #[.int .i64 x] w fun e w' => e = .returned (.int .i64 (wCode x)) ∧ w = w' := by
  go_enter Tryz.func91, Tryz.ntmps91
  go_wp2_with fail
  go_loop [3] (fun i => ∃ k : Nat, k ≤ 32 ∧ i = .int .i64 k ∧ Hid (∀ d : Nat, d < k → wOf d ≠ x)) (fun i => 32 - (intOf i).toNat)
  case atStart => exact ⟨0, Nat.zero_le _, rfl, Lib.hid (fun d hd => absurd hd (by omega))⟩
  case round =>
    obtain ⟨k, hk, rfl, hno⟩ := hrel
    by_cases hlt : k < 32
    · have hr := wOf_range k
      go_wp2_with fail
      refine (refOf_any _ _ (by omega) (by omega)).mono ?_
      rintro e w' ⟨rfl, rfl⟩
      obtain ⟨t, ht⟩ : ∃ t, t = wOf k := ⟨_, rfl⟩
      rw [← ht] at hr ⊢
      have HT := Lib.hid ht; clear ht
      by_cases hx : t = x
      · subst hx
        go_wp2_with fail
        go_ret
        exact ⟨ret_int (wCode_of k _ (by omega) (by omega) HT.out.symm).symm, rfl⟩
      · have hne : (t == x) = false := by simpa using hx
        go_wp2_with fail
        go_round
        case rel =>
          refine ⟨k + 1, by omega, by go_num, Lib.hid fun d hd => ?_⟩
          by_cases e : d = k
          · subst e; rw [← HT.out]; exact hx
          · exact hno.out d (by omega)
        case measure => simp [intOf]; omega
    · go_wp2_with fail
      go_ret
      exact ⟨ret_int (wCode_none x fun c hc => hno.out c (by omega)).symm, rfl⟩

set_option maxRecDepth 100000 in
set_option maxHeartbeats 400000 in
theorem refClosest_any (x : Int) (w : World) :
    Calls Tryz.prog 87 #[.int .i64 x] w fun e w' => e = .returned (.int .i64 (wClosest x)) ∧ w = w' := by
  go_enter Tryz.func87, Tryz.ntmps87
  go_wp2_with fail
  go_loop [3] (fun i => ∃ k : Nat, k ≤ 32 ∧ i = .int .i64 k ∧ Hid (∀ d : Nat, d < k → wOf d < x)) (fun i => 32 - (intOf i).toNat)
  case atStart => exact ⟨0, Nat.zero_le _, rfl, Lib.hid (fun d hd => absurd hd (by omega))⟩
  case round =>
    obtain ⟨k, hk, rfl, hno⟩ := hrel
    by_cases hlt : k < 32
    · have hr := wOf_range k
      go_wp2_with fail
      refine (refOf_any _ _ (by omega) (by omega)).mono ?_
      rintro e w' ⟨rfl, rfl⟩
      obtain ⟨t, ht⟩ : ∃ t, t = wOf k := ⟨_, rfl⟩
      rw [← ht] at hr ⊢
      have HT := Lib.hid ht; clear ht
      by_cases hx : x ≤ t
      · go_wp2_with fail
        refine (refOf_any _ _ (by omega) (by omega)).mono ?_
        rintro e w' ⟨rfl, rfl⟩
        go_wp2_with fail
        go_ret
        exact ⟨ret_int (wClosest_of x k hlt (by rw [← HT.out]; exact hx) fun d hd => by have := hno.out d hd; omega), rfl⟩
      · go_wp2_with fail
        go_round
        case rel =>
          refine ⟨k + 1, by omega, by go_num, Lib.hid fun d hd => ?_⟩
          by_cases e : d = k
          · subst e; rw [← HT.out]; omega
          · exact hno.out d (by omega)
        case measure => simp [intOf]; omega
    · go_wp2_with fail
      go_ret
      exact ⟨ret_int (wClosest_none x fun c hc => by have := hno.out c (by omega); omega).symm, rfl⟩
end Go.Proofs.YtmejoococajikaaGreat

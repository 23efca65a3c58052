/- Joined texts: Open, Str, OpenS, Zig, Base, Ref7, Str2. Each has its own head line. No condition beyond those that its theorems state. -/
import Derived.ProofKit
import Derived.OpenShut
import Derived.ShutString
import Derived.ChangeOld
import Derived.Below
import Derived.Sort.KeysCollected
import Derived.SliceStrings
import Derived.PlainAid
import Derived.Test.YtmejoococajikaaGreatJ01
import Derived.Test.YtmejoococajikaaGreatProg
set_option linter.unusedVariables false

/- From the data that a row speaks of to what a walk is told. -/
namespace Go.Proofs.YtmejoococajikaaGreat
open Go.ChangeShapes Go.WideShapes Go.ChangeAt Go.RowKit
open Go.ChangeMaps (open_string shut_string)

theorem wf_i64 {n : Int} (h : (Lit.int .i64 n).wf = true) : -9223372036854775808 ≤ n ∧ n < 9223372036854775808 := by
  have := bounds_i64 h; omega
theorem wf_u64 {n : Int} (h : (Lit.int .u64 n).wf = true) : 0 ≤ n ∧ n < 18446744073709551616 := by
  have := bounds_u64 h; omega
theorem wf_u8 {n : Int} (h : (Lit.int .u8 n).wf = true) : 0 ≤ n ∧ n < 256 := by
  have := bounds_u8 h; omega

/-- What is read of a slice of numbers that came in. -/
def IsRow (k : IntKind) (w : World) (a : Option Addr) (len cap : Nat) : Prop :=
  ∃ l : List Int, Ri w k a len l ∧ (∀ n ∈ l, (Lit.int k n).wf = true) ∧ len ≤ cap ∧ cap ≤ maxLen

theorem open_row {H : Type} {enc : TypeId × Value → H} {P : Program} {t e : TypeId} {k : IntKind} (ht : P.underlying t = some (.slice e)) (he : P.underlying e = some (.int k)) (hc : P.cellsOf e = 1)
    {W : World} {a : Option Addr} {len cap : Nat} {d : DataW H} {p : List MemPlace} {b : Nat} {sp : Nat → Bool} {hd : Bool}
    (h : DataW.Trod enc P W b sp hd t (.slice a len cap) d p) : IsRow k W a len cap := by
  obtain ⟨fuel, hf⟩ := h
  rcases open_ints ht he hc hf with ⟨hcs, _⟩ | ⟨x, l, c, zs, hcs, _, hl, hm, hz, _, hcell, hwz⟩
  · simp [Value.cells] at hcs
    obtain ⟨rfl, rfl, rfl⟩ := hcs
    exact ⟨[], Ri.nil _ _ _, by simp, Nat.le_refl _, Nat.zero_le _⟩
  · simp [Value.cells] at hcs
    obtain ⟨rfl, rfl, rfl⟩ := hcs
    have hz' : len ≤ zs.length := by rw [hz]; split <;> omega
    have hll : (zs.take len).length = len := by rw [List.length_take]; omega
    refine ⟨zs.take len, ⟨by simpa using hll, fun h0 => ?_⟩, fun n hn => hwz n (List.mem_of_mem_take hn), hl, hm⟩
    obtain ⟨bl, off, spot⟩ := x
    have hc0 := hcell 0 (by omega)
    have hspot : spot = none := by simpa [Addr.add] using World.cell?_spot hc0
    subst hspot
    refine ⟨bl, off, rfl, ?_, fun j u hj => ?_⟩
    · rw [add_none] at hc0
      exact World.block_lt_of_cell? _ _ hc0
    · have hjl : j < len := by
        rcases Nat.lt_or_ge j len with h | h
        · exact h
        · rw [List.getElem?_eq_none (by rw [List.length_map, hll]; exact h)] at hj; cases hj
      have hcj := hcell j (by omega)
      rw [add_none] at hcj
      rw [hcj]
      simp [List.getElem?_take_of_lt hjl, List.getElem?_eq_getElem (show j < zs.length by omega)] at hj
      simp [List.getD, List.getElem?_eq_getElem (show j < zs.length by omega), hj]

theorem row_u8 {w : World} {a : Option Addr} {len cap : Nat} (h : IsRow .u8 w a len cap) : ∃ l : List Int, Ri w .u8 a len l ∧ U8 l ∧ len ≤ cap ∧ cap ≤ maxLen := by
  obtain ⟨l, h1, h2, h3, h4⟩ := h
  exact ⟨l, h1, fun x hx => wf_u8 (h2 x hx), h3, h4⟩
theorem row_u64 {w : World} {a : Option Addr} {len cap : Nat} (h : IsRow .u64 w a len cap) : ∃ l : List Int, Ri w .u64 a len l ∧ U64 l ∧ len ≤ cap ∧ cap ≤ maxLen := by
  obtain ⟨l, h1, h2, h3, h4⟩ := h
  exact ⟨l, h1, fun x hx => wf_u64 (h2 x hx), h3, h4⟩
theorem row_i64 {w : World} {a : Option Addr} {len cap : Nat} (h : IsRow .i64 w a len cap) : ∃ l : List Int, Ri w .i64 a len l ∧ I64 l ∧ len ≤ cap ∧ cap ≤ maxLen := by
  obtain ⟨l, h1, h2, h3, h4⟩ := h
  exact ⟨l, h1, fun x hx => wf_i64 (h2 x hx), h3, h4⟩
end Go.Proofs.YtmejoococajikaaGreat

/- Rows of strings: what is read of them; what the call itself owns. -/
namespace Go.Proofs.YtmejoococajikaaGreat
open Go.RowKit

/-- A slice of n strings that reads as l. -/
def Rs (w : World) (A : Option Addr) (n : Nat) (l : List ByteArray) : Prop := Rd w 1 A n (l.map Value.string)
section
variable {w w' : World} {A : Option Addr} {n : Nat} {l : List ByteArray}
theorem Rs.len (h : Rs w A n l) : l.length = n := by have := h.1; simpa using this
theorem Rs.nil (w : World) (A : Option Addr) : Rs w A 0 [] := Rd.nil w 1 A
theorem Rs.below (h : Rs w A n l) (hb : Below w.heap.size w w') : Rs w' A n l := Rd.below h hb
theorem Rs.drewN (h : Rs w A n l) (m : Nat) : Rs (w.drewN m) A n l := h
theorem Rs.alloc (h : Rs w A n l) (o : Obj) : Rs (w.alloc o) A n l := Rd.alloc h o
theorem Rs.grown (h : Rs w A n l) {row : Option Nat} (hg : w.grownBy w' row) (hr : ∀ g b o, row = some g → A = some ⟨b, o, none⟩ → g ≠ b) : Rs w' A n l := Rd.grown h hg hr
theorem Rs.of_own {base : Nat} {e : TypeId} {c : Nat} (h : w.ownsRow base e 1 (.slice A n c) n (l.map Value.string)) : Rs w A n l := Rd.of_own h
theorem Rs.all (h : Rs w A n l) (hl : 0 < n) : ∃ b o, A = some ⟨b, o, none⟩ ∧ b < w.heap.size ∧ ∀ j (hj : j < l.length), w.cell? ⟨b, o + j, none⟩ = some (.string l[j]) := by
  obtain ⟨b, o, e, hb, hc⟩ := h.2 hl
  exact ⟨b, o, e, hb, fun j hj => hc j _ (by simp [List.getElem?_map, List.getElem?_eq_getElem hj])⟩
/-- A cut 's[:m]' of a row that is longer. -/
theorem Rs.first (h : Rs w A n l) {m : Nat} (hm : m ≤ n) : Rs w A m (l.take m) :=
  ⟨by have := h.len; simp; omega, fun h0 => by
    obtain ⟨b, o, e, hb, hc⟩ := h.2 (by omega)
    refine ⟨b, o, e, hb, fun j u hu => hc j u ?_⟩
    rw [List.map_take] at hu
    have hj : j < m := by
      rcases Nat.lt_or_ge j m with hlt | hge
      · exact hlt
      · rw [List.getElem?_eq_none (by rw [List.length_take]; omega)] at hu; cases hu
    rwa [List.getElem?_take_of_lt hj] at hu⟩
end

/-- Bytes that stand ahead of one another, as the sort orders them. -/
theorem before_lt : ∀ (a b : List UInt8), bytesBefore a b = true ↔ a < b
  | [], [] => by simp [bytesBefore]
  | [], _ :: _ => by simp [bytesBefore]
  | _ :: _, [] => by simp [bytesBefore]
  | x :: r, y :: s => by
    rw [List.cons_lt_cons_iff, ← before_lt r s]
    simp [bytesBefore]
theorem before_le {a b : List UInt8} (h : bytesBefore a b = true) : a ≤ b := List.le_of_lt ((before_lt a b).1 h)
/-- What rises is what the sort gives of any row with the same members. -/
theorem sort_of_rising {ss l : List (List UInt8)} (hp : ss.Perm l) (hl : l.Pairwise fun a b => bytesBefore a b = true) : ss.mergeSort (fun x y => decide (x ≤ y)) = l := by
  have tr : ∀ a b c : List UInt8, decide (a ≤ b) = true → decide (b ≤ c) = true → decide (a ≤ c) = true := fun a b c h1 h2 => by simp only [decide_eq_true_eq] at *; exact List.le_trans h1 h2
  have tot : ∀ a b : List UInt8, (decide (a ≤ b) || decide (b ≤ a)) = true := fun a b => by simp only [Bool.or_eq_true, decide_eq_true_eq]; exact List.le_total a b
  refine List.Perm.eq_of_pairwise (le := fun a b => decide (a ≤ b) = true) (fun a b _ _ h1 h2 => ?_) (List.pairwise_mergeSort tr tot ss) (hl.imp fun h => decide_eq_true (before_le h)) ((List.mergeSort_perm ss _).trans hp)
  simp only [decide_eq_true_eq] at h1 h2
  exact List.le_antisymm h1 h2
theorem encStr_map (l : List ByteArray) : (l.map fun s => s.data.toList).map encStr = l.map Value.string := by
  rw [List.map_map]
  refine List.map_congr_left fun s _ => ?_
  show Value.string ⟨s.data.toList.toArray⟩ = Value.string s
  rw [Array.toArray_toList]
end Go.Proofs.YtmejoococajikaaGreat

/- Rows of texts that came in. -/
namespace Go.Proofs.YtmejoococajikaaGreat
open Go.ChangeShapes Go.WideShapes Go.ChangeAt Go.RowKit

theorem open_strs {H : Type} {enc : TypeId × Value → H} {P : Program} {r t : TypeId} (hr : P.underlying r = some (.slice t)) (ht : P.underlying t = some .string) (hc : P.cellsOf t = 1)
    {W : World} {a : Option Addr} {len cap : Nat} {d : DataW H} {p : List MemPlace} {base : Nat} {hd : Bool}
    (h : DataW.Trod enc P W base (fun _ => true) hd r (.slice a len cap) d p) : ∃ l : List ByteArray, Rs W a len l ∧ (∀ s ∈ l, s.size ≤ maxLen) ∧ len ≤ cap ∧ cap ≤ maxLen := by
  obtain ⟨fuel, hf⟩ := h
  rcases open_strings hr ht hc hf with ⟨hcs, _⟩ | ⟨x, l, c, ss, hcs, _, hl, hm, hlen, _, hel, hsz⟩
  · simp [Value.cells] at hcs
    obtain ⟨rfl, rfl, rfl⟩ := hcs
    exact ⟨[], Rs.nil _ _, fun s hs => absurd hs List.not_mem_nil, Nat.le_refl _, Nat.zero_le _⟩
  · simp [Value.cells] at hcs
    obtain ⟨rfl, rfl, rfl⟩ := hcs
    rw [if_pos rfl] at hlen
    refine ⟨ss.take len, ⟨by rw [List.length_map, List.length_take]; omega, fun h0 => ?_⟩, fun s hs => hsz s (List.mem_of_mem_take hs), hl, hm⟩
    obtain ⟨bl, off, spot⟩ := x
    have hc0 := hel 0 (by omega)
    have hspot : spot = none := by simpa [Addr.add] using World.cell?_spot hc0
    subst hspot
    simp only [add_none] at hel hc0
    refine ⟨bl, off, rfl, World.block_lt_of_cell? _ _ hc0, fun j u hu => ?_⟩
    have hj : j < len := by
      rcases Nat.lt_or_ge j len with h | h
      · exact h
      · rw [List.getElem?_eq_none (by rw [List.length_map, List.length_take]; omega)] at hu; cases hu
    rw [hel j (by omega)]
    rw [List.getElem?_map, List.getElem?_take_of_lt hj, List.getElem?_eq_getElem (by omega)] at hu
    injection hu with hu
    rw [← hu, List.getD_eq_getElem?_getD, List.getElem?_eq_getElem (by omega)]
    rfl
end Go.Proofs.YtmejoococajikaaGreat

/- Numbers with a sign, as numbers without: varint.Zig, Zag and their references. -/
namespace Go.Proofs.YtmejoococajikaaGreat
open Go.RowKit

def zig (x : Int) : Int := if x < 0 then -2 * x - 1 else 2 * x
def zag (u : Int) : Int := if u % 2 = 1 then -(u / 2) - 1 else u / 2
theorem zig_range (x : Int) (h0 : -9223372036854775808 ≤ x) (h1 : x < 9223372036854775808) : 0 ≤ zig x ∧ zig x < 18446744073709551616 := by unfold zig; omega
theorem zag_range (u : Int) (h0 : 0 ≤ u) (h1 : u < 18446744073709551616) : -9223372036854775808 ≤ zag u ∧ zag u < 9223372036854775808 := by unfold zag; omega
theorem zag_zig (x : Int) : zag (zig x) = x := by unfold zag zig; omega
theorem zig_zag (u : Int) (h : 0 ≤ u) : zig (zag u) = u := by unfold zag zig; omega

theorem xor_ones (b : Nat) (hb : b < 2 ^ 64) : b ^^^ (2 ^ 64 - 1) = 2 ^ 64 - 1 - b := by
  apply Nat.eq_of_testBit_eq
  intro i
  rw [Nat.testBit_xor, Nat.testBit_two_pow_sub_one, show 2 ^ 64 - 1 - b = 2 ^ 64 - (b + 1) from by omega, Nat.testBit_two_pow_sub_succ hb]
  by_cases h : i < 64
  · simp [h]
  · have : b.testBit i = false := Nat.testBit_lt_two_pow (Nat.lt_of_lt_of_le hb (Nat.pow_le_pow_right (by omega) (by omega)))
    simp [h, this]

theorem xor_neg (x : Int) (h0 : -9223372036854775808 ≤ x) (h1 : x < 0) :
    bits .xor .u64 (IntKind.u64.wrap (IntKind.u64.wrap x * 2)) (IntKind.u64.wrap (-1)) = zig x := by
  have e1 : IntKind.u64.wrap (-1) = ((2 ^ 64 - 1 : Nat) : Int) := by rw [IntKind.wrap_u64]; decide
  obtain ⟨m, hm⟩ : ∃ m : Nat, IntKind.u64.wrap (IntKind.u64.wrap x * 2) = (m : Int) ∧ (m : Int) = 18446744073709551616 + 2 * x := by
    rw [IntKind.wrap_u64, IntKind.wrap_u64]
    exact ⟨(18446744073709551616 + 2 * x).toNat, by omega, by omega⟩
  rw [e1, hm.1, u64_xor_nat _ _ (by omega) (by omega), xor_ones m (by omega)]
  unfold zig
  rw [if_pos h1]
  have := hm.2
  omega
theorem xor_nonneg (x : Int) (h0 : 0 ≤ x) (h1 : x < 9223372036854775808) : bits .xor .u64 (x * 2) 0 = zig x := by
  obtain ⟨m, rfl⟩ := Int.eq_ofNat_of_zero_le h0
  have := u64_xor_nat (m * 2) 0 (by omega) (by omega)
  rw [Nat.xor_zero] at this
  rw [show ((m : Int) * 2) = ((m * 2 : Nat) : Int) from by omega, show (0 : Int) = ((0 : Nat) : Int) from rfl, this]
  unfold zig
  rw [if_neg (by omega)]
  omega

set_option maxRecDepth 100000 in
set_option maxHeartbeats 400000 in
theorem Zig_any (x : Int) (w : World) (h0 : -9223372036854775808 ≤ x) (h1 : x < 9223372036854775808) :
    Calls Tryz.prog 148 #[.int .i64 x] w fun e w' => e = .returned (.int .u64 (zig x)) ∧ w = w' := by
  by_cases hx : x < 0
  · have e1 : x / 9223372036854775808 = -1 := by omega
    go_enter Tryz.func148, Tryz.ntmps148
    go_wp2
    go_ret
    exact ⟨ret_int (xor_neg x h0 hx), rfl⟩
  · have e1 : x / 9223372036854775808 = 0 := by omega
    go_enter Tryz.func148, Tryz.ntmps148
    go_wp2
    go_ret
    exact ⟨ret_int (xor_nonneg x (by omega) h1), rfl⟩

theorem xor_zag (x : Int) (h0 : 0 ≤ x) (h1 : x < 18446744073709551616) : bits BinOp.xor IntKind.i64 (x / 2) (wrap64 (-wrap64 (bits BinOp.and IntKind.u64 x 1))) = zag x := by
  rw [and_one_u64 x h0 (by omega), IntWalk.wrap64_in (x % 2) (by omega), IntWalk.wrap64_in _ (by omega)]
  obtain ⟨m, hm⟩ : ∃ m : Nat, (m : Int) = x / 2 := ⟨(x / 2).toNat, by omega⟩
  have hm2 : m < 2 ^ 63 := by omega
  unfold zag
  rw [← hm]
  have ofm : (BitVec.ofInt 64 (m : Int)).toNat = m := by
    rw [BitVec.ofInt_natCast, BitVec.toNat_ofNat]; exact Nat.mod_eq_of_lt (by omega)
  by_cases h : x % 2 = 1
  · rw [if_pos h, h]
    show IntKind.i64.wrap ((BitVec.ofInt 64 (m : Int) ^^^ BitVec.ofInt 64 (-1)).toNat : Int) = _
    rw [BitVec.toNat_xor, ofm, show (BitVec.ofInt 64 (-1)).toNat = 2 ^ 64 - 1 from by decide, xor_ones m (by omega), IntKind.wrap_i64]
    omega
  · rw [if_neg h, show x % 2 = 0 from by omega]
    show IntKind.i64.wrap ((BitVec.ofInt 64 (m : Int) ^^^ BitVec.ofInt 64 0).toNat : Int) = _
    rw [BitVec.toNat_xor, ofm, show (BitVec.ofInt 64 0).toNat = 0 from by decide, Nat.xor_zero, IntKind.wrap_i64]
    omega

set_option maxRecDepth 100000 in
set_option maxHeartbeats 400000 in
theorem Zag_any (x : Int) (w : World) (h0 : 0 ≤ x) (h1 : x < 18446744073709551616) :
    Calls Tryz.prog 159 #[.int .u64 x] w fun e w' => e = .returned (.int .i64 (zag x)) ∧ w = w' := by
  go_enter Tryz.func159, Tryz.ntmps159
  go_wp2
  go_ret
  exact ⟨ret_int (xor_zag x h0 h1), rfl⟩
set_option maxRecDepth 100000 in
set_option maxHeartbeats 400000 in
theorem refZig_any (x : Int) (w : World) (h0 : -9223372036854775808 ≤ x) (h1 : x < 9223372036854775808) :
    Calls Tryz.prog 130 #[.int .i64 x] w fun e w' => e = .returned (.int .u64 (zig x)) ∧ w = w' := by
  by_cases hx : x < 0
  · go_enter Tryz.func130, Tryz.ntmps130
    go_wp2
    go_ret
    exact ⟨ret_int (by unfold zig; omega), rfl⟩
  · go_enter Tryz.func130, Tryz.ntmps130
    go_wp2
    go_ret
    exact ⟨ret_int (by unfold zig; omega), rfl⟩
set_option maxRecDepth 100000 in
set_option maxHeartbeats 400000 in
theorem refZag_any (x : Int) (w : World) (h0 : 0 ≤ x) (h1 : x < 18446744073709551616) :
    Calls Tryz.prog 144 #[.int .u64 x] w fun e w' => e = .returned (.int .i64 (zag x)) ∧ w = w' := by
  by_cases h : x % 2 = 1
  · have hb : (x % 2 == 1) = true := by simpa using h
    go_enter Tryz.func144, Tryz.ntmps144
    go_wp2
    go_ret
    exact ⟨ret_int (by unfold zag; omega), rfl⟩
  · have hb : (x % 2 == 1) = false := by simpa using h
    go_enter Tryz.func144, Tryz.ntmps144
    go_wp2
    go_ret
    exact ⟨ret_int (by unfold zag; omega), rfl⟩
end Go.Proofs.YtmejoococajikaaGreat

/- Facts on the program's types; copies of bytes: slices.Clone, bytes.Clone. -/
namespace Go.Proofs.YtmejoococajikaaGreat
open Go.RowKit
theorem info_u8 : (Tryz.prog.info? 5).map (fun i => (i.zero, i.size, i.bytes)) = some (some (.int .u8 0), 1, 1) := by kernel_rfl
theorem info_u64 : (Tryz.prog.info? 109).map (fun i => (i.zero, i.size, i.bytes)) = some (some (.int .u64 0), 1, 8) := by kernel_rfl
theorem info_int : (Tryz.prog.info? 3).map (fun i => (i.zero, i.size, i.bytes)) = some (some (.int .i64 0), 1, 8) := by kernel_rfl
theorem info_bool : (Tryz.prog.info? 4).map (fun i => (i.zero, i.size, i.bytes)) = some (some (.bool false), 1, 1) := by kernel_rfl

theorem Ri.oneCell (k : IntKind) (l : List Int) : ∀ u ∈ l.map (Value.int k), u.oneCell' = true := by
  intro u hu
  obtain ⟨x, _, rfl⟩ := List.mem_map.1 hu
  rfl

/-- A cut 's[i:]' whose address the walk has not yet parted on. -/
theorem Ri.restIf {w : World} {k : IntKind} {n : Nat} {l : List Int} {b o : Nat} (h : Ri w k (some ⟨b, o, none⟩) n l) {i : Nat} (hi : i ≤ n) {cap : Nat} (hc : n ≤ cap) :
    Ri w k (if cap = i then some ⟨b, o, none⟩ else some ⟨b, o + i, none⟩) (n - i) (l.drop i) := by
  have h1 := h.rest (i := i) hi (fun _ => rfl)
  split
  · exact h1.zero (by omega) _
  · exact h1

theorem strOf_toList (l : List Int) : (strOf l).toList = l.map fun n => UInt8.ofNat n.toNat := by rw [ByteArray.toList_eq]; rfl
/-- string(b), for the walk. -/
theorem conv_any {w : World} {G : Option Addr} {n c : Nat} {l : List Int} (h : Ri w .u8 G n l) : (convert 38 9 (.slice G n c)).run Tryz.prog w = .ok (.string (strOf l)) w :=
  run_conv 38 5 9 Tryz.underlying38 Tryz.underlying5 Tryz.underlying9 G n c l h

set_option maxRecDepth 100000 in
set_option maxHeartbeats 400000 in
theorem Clone_any (A : Option Addr) (n cap : Nat) (l : List Int) (w : World) (hr : Ri w .u8 A n l) (hn : n ≤ 1000000000) :
    Calls Tryz.prog 108 #[.slice A n cap] w (BytesOut w l) := by
  obtain ⟨i0, hi, hz0, hz1, hz2⟩ := info_parts info_u8
  have q := fun (w : World) (a : Option Addr) (n c : Nat) => Lib.run_eql_slice_nil (P := Tryz.prog) w 38 5 a n c 0 0 Tryz.underlying38
  have HR := Lib.hid hr; clear hr
  cases A with
  | none =>
    have hn0 : n = 0 := by
      rcases Nat.eq_zero_or_pos n with h | h
      · exact h
      · obtain ⟨b, o, e, _⟩ := HR.out.all h; cases e
    subst hn0
    have hl : l = [] := List.eq_nil_of_length_eq_zero HR.out.len
    subst hl
    go_enter Tryz.func108, Tryz.ntmps108
    go_wp2_with fail
    go_ret
    exact ⟨none, 0, 0, rfl, Sl.nil _ _, Below.refl _ _⟩
  | some a =>
    go_enter Tryz.func108, Tryz.ntmps108
    go_wp2_with (at_builtin; refine wpList_append_any _ rfl _ _ 38 rfl w.heap.size 5 i0 (.int .u8 0) 1 1 Tryz.underlying38 hi hz0 hz1 hz2 rfl (by decide) _ 0 [] rfl (own_empty w _ 1) _ n _ (l.map (Value.int .u8)) rfl (HR.out.alloc _) (Ri.oneCell _ _) ?c2 ?c3 ?c4 ?_)
    case c2 => unfold maxLen; omega
    case c3 => omega
    case c4 => simp
    intro G c w1 hown hgr _ _
    have HO := Lib.hid hown; clear hown
    go_wp2_with fail
    go_ret
    exact ⟨G, n, c, rfl, Sl.of_own HO.out, push0 ((Below.refl _ _).alloc (Nat.le_refl _) _) (Nat.le_refl _) (own_empty w _ 1) hgr⟩
/-- append onto a row of the call's own, elements of kind u8, whatever is appended. -/
theorem wpList_u8 (w : World) {ops : Array Oper} {rest : List Oper} {o : Oper} {a : Act} {Q : Exit → Act → World → Prop} (hgd : o.guard = none) (s x : Operand)
    (ho : o.op = .call { callee := .builtin .append, args := #[s, x], argTypes := #[38, 38] })
    (base : Nat) (v : Value) (n : Nat) (l : List Int) (hs : a.eval s = v) (hown : w.ownsRow base 5 1 v n (l.map (Value.int .u8)))
    (A : Option Addr) (m c : Nat) (l2 : List Int) (hx : a.eval x = .slice A m c) (hr : Ri w .u8 A m l2) (hb : n + m ≤ 2000000000) (hbase : base ≤ w.heap.size)
    (h : ∀ G cap w', w'.ownsRow base 5 1 (.slice G (n + m) cap) (n + m) ((l ++ l2).map (Value.int .u8)) → w.grownBy w' v.ownBlock → n + m ≤ cap → wpList Tryz.prog ops Q rest (a.put o.dst (.slice G (n + m) cap)) w') : wpList Tryz.prog ops Q (o :: rest) a w := by
  obtain ⟨i0, hi, hz0, hz1, hz2⟩ := info_parts info_u8
  refine wpList_append_any w hgd s x 38 ho base 5 i0 (.int .u8 0) 1 1 Tryz.underlying38 hi hz0 hz1 hz2 rfl (by decide) v n _ hs hown A m c _ hx hr (Ri.oneCell _ _) (by unfold maxLen; omega) (by omega) hbase ?_
  intro G cap w' h1 h2 _ h4
  rw [← List.map_append] at h1
  exact h G cap w' h1 h2 h4
/-- append onto a row of the call's own, elements of kind u64, whatever is appended. -/
theorem wpList_u64 (w : World) {ops : Array Oper} {rest : List Oper} {o : Oper} {a : Act} {Q : Exit → Act → World → Prop} (hgd : o.guard = none) (s x : Operand)
    (ho : o.op = .call { callee := .builtin .append, args := #[s, x], argTypes := #[89, 89] })
    (base : Nat) (v : Value) (n : Nat) (l : List Int) (hs : a.eval s = v) (hown : w.ownsRow base 109 1 v n (l.map (Value.int .u64)))
    (A : Option Addr) (m c : Nat) (l2 : List Int) (hx : a.eval x = .slice A m c) (hr : Ri w .u64 A m l2) (hb : n + m ≤ 2000000000) (hbase : base ≤ w.heap.size)
    (h : ∀ G cap w', w'.ownsRow base 109 1 (.slice G (n + m) cap) (n + m) ((l ++ l2).map (Value.int .u64)) → w.grownBy w' v.ownBlock → n + m ≤ cap → wpList Tryz.prog ops Q rest (a.put o.dst (.slice G (n + m) cap)) w') : wpList Tryz.prog ops Q (o :: rest) a w := by
  obtain ⟨i0, hi, hz0, hz1, hz2⟩ := info_parts info_u64
  refine wpList_append_any w hgd s x 89 ho base 109 i0 (.int .u64 0) 1 8 Tryz.underlying89 hi hz0 hz1 hz2 rfl (by decide) v n _ hs hown A m c _ hx hr (Ri.oneCell _ _) (by unfold maxLen; omega) (by omega) hbase ?_
  intro G cap w' h1 h2 _ h4
  rw [← List.map_append] at h1
  exact h G cap w' h1 h2 h4

end Go.Proofs.YtmejoococajikaaGreat

/- The reference of a number as it stands, and made back. -/
namespace Go.Proofs.YtmejoococajikaaGreat
open Go.RowKit

set_option maxRecDepth 100000 in
set_option maxHeartbeats 400000 in
theorem refPlain_any (x : Int) (s : Bool) (w : World) (h0 : -9223372036854775808 ≤ x) (h1 : x < 9223372036854775808) :
    Calls Tryz.prog 85 #[.int .i64 x, .bool s] w fun e w' => e = .returned (.tuple #[.int .u64 (if s then zig x else max x 0), .bool (s || decide (0 ≤ x))]) ∧ w = w' := by
  cases s
  · by_cases hx : x < 0
    · have e : (0 : Int) = max x 0 := by omega
      have HE := Lib.hid e; clear e
      go_enter Tryz.func85, Tryz.ntmps85
      go_wp2_with fail
      go_ret2
      exact ⟨by rw [← HE.out]; rfl, rfl⟩
    · have e : x = max x 0 := by omega
      have HE := Lib.hid e; clear e
      go_enter Tryz.func85, Tryz.ntmps85
      go_wp2_with fail
      go_ret2
      exact ⟨by rw [← HE.out]; rfl, rfl⟩
  · go_enter Tryz.func85, Tryz.ntmps85
    go_wp2_with fail
    refine (refZig_any _ _ h0 h1).mono ?_; rintro e w' ⟨rfl, rfl⟩
    go_wp2_with fail
    go_ret2
    exact ⟨rfl, rfl⟩
def madeR (u : Int) (s : Bool) : Int × Bool := if s then (zag u, true) else if 9223372036854775808 ≤ u then (0, false) else (u, true)
set_option maxRecDepth 100000 in
theorem refMade_any (u : Int) (s : Bool) (w : World) (h0 : 0 ≤ u) (hu : u < 18446744073709551616) (x : Int) (ok : Bool) (hx : madeR u s = (x, ok)) :
    Calls Tryz.prog 115 #[.int .u64 u, .bool s] w fun e w' => e = .returned (.tuple #[.int .i64 x, .bool ok]) ∧ w = w' := by
  unfold madeR at hx
  cases s
  · by_cases h : 9223372036854775808 ≤ u
    · simp only [Bool.false_eq_true, if_false, if_pos h] at hx
      injection hx with e1 e2
      subst e1 e2
      go_enter Tryz.func115, Tryz.ntmps115
      go_wp2_with fail
      go_ret2
      exact ⟨rfl, rfl⟩
    · simp only [Bool.false_eq_true, if_false, if_neg h] at hx
      injection hx with e1 e2
      subst e1 e2
      go_enter Tryz.func115, Tryz.ntmps115
      go_wp2_with fail
      go_ret2
      exact ⟨rfl, rfl⟩
  · simp only [if_true] at hx
    injection hx with e1 e2
    subst e2
    have HE := Lib.hid e1; clear e1
    go_enter Tryz.func115, Tryz.ntmps115
    go_wp2_with fail
    refine (refZag_any _ _ (by omega) (by omega)).mono ?_; rintro e w' ⟨rfl, rfl⟩
    rw [HE.out]
    go_wp2_with fail
    go_ret2
    exact ⟨rfl, rfl⟩
end Go.Proofs.YtmejoococajikaaGreat

/- Rows of strings: one string appended. -/
namespace Go.Proofs.YtmejoococajikaaGreat
open Go.RowKit

theorem info_str : (Tryz.prog.info? 9).map (fun i => (i.zero, i.size, i.bytes)) = some (some (.string ⟨#[]⟩), 1, 16) := by kernel_rfl
theorem str_one (l : List ByteArray) : ∀ u ∈ l.map Value.string, u.oneCell' = true := fun u h => by
  obtain ⟨s, _, rfl⟩ := List.mem_map.1 h
  rfl
/-- append onto a row of strings of the call's own, whatever is appended. -/
theorem wpList_str (w : World) {ops : Array Oper} {rest : List Oper} {o : Oper} {a : Act} {Q : Exit → Act → World → Prop} (hgd : o.guard = none) (s x : Operand)
    (ho : o.op = .call { callee := .builtin .append, args := #[s, x], argTypes := #[22, 22] })
    (base : Nat) (v : Value) (n : Nat) (l : List ByteArray) (hs : a.eval s = v) (hown : w.ownsRow base 9 1 v n (l.map Value.string))
    (A : Option Addr) (m c : Nat) (l2 : List ByteArray) (hx : a.eval x = .slice A m c) (hr : Rs w A m l2) (hb : n + m ≤ 2000000000) (hbase : base ≤ w.heap.size)
    (h : ∀ G cap w', w'.ownsRow base 9 1 (.slice G (n + m) cap) (n + m) ((l ++ l2).map Value.string) → w.grownBy w' v.ownBlock → n + m ≤ cap → wpList Tryz.prog ops Q rest (a.put o.dst (.slice G (n + m) cap)) w') : wpList Tryz.prog ops Q (o :: rest) a w := by
  obtain ⟨i0, hi, hz0, hz1, hz2⟩ := info_parts info_str
  refine wpList_append_any w hgd s x 22 ho base 9 i0 (.string ⟨#[]⟩) 1 16 Tryz.underlying22 hi hz0 hz1 hz2 rfl (by decide) v n _ hs hown A m c _ hx hr (str_one _) (by unfold maxLen; omega) (by omega) hbase ?_
  intro G cap w' h1 h2 _ h4
  rw [← List.map_append] at h1
  exact h G cap w' h1 h2 h4
theorem Rs.one (w : World) (s : ByteArray) (t : TypeId) : Rs (w.alloc (.cells #[.string s] t)) (some ⟨w.heap.size, 0, none⟩) 1 [s] := Rd.one w (.string s) t
end Go.Proofs.YtmejoococajikaaGreat

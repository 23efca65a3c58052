/- Joined texts: Open, Str, OpenS. Each has its own head line. No condition beyond those that its theorems state. -/
import Derived.ProofKit
import Derived.OpenShut
import Derived.ShutString
import Derived.ChangeOld
import Derived.Below
import Derived.Sort.KeysCollected
import Derived.SliceStrings
import Derived.Test.YtmejoococajikaaJ01
set_option linter.unusedVariables false

/- From the data that a row speaks of to what a walk is told. -/
namespace Go.Proofs.Ytmejoococajikaa
open Go.ChangeShapes Go.WideShapes Go.ChangeAt Go.RowKit
open Go.ChangeMaps (open_string shut_string)

theorem wf_i64 {n : Int} (h : (Lit.int .i64 n).wf = true) : -9223372036854775808 ≤ n ∧ n < 9223372036854775808 := by
  have := bounds_i64 h; omega
theorem wf_u64 {n : Int} (h : (Lit.int .u64 n).wf = true) : 0 ≤ n ∧ n < 18446744073709551616 := by
  have := bounds_u64 h; omega
theorem wf_u8 {n : Int} (h : (Lit.int .u8 n).wf = true) : 0 ≤ n ∧ n < 256 := by
  have := bounds_u8 h; omega

/-- What is read of a slice of numbers that came in. -/
def IsRow (k : IntKind) (w : World) (a : Option Addr) (len cap : Nat) : Prop :=
  ∃ l : List Int, Ri w k a len l ∧ (∀ n ∈ l, (Lit.int k n).wf = true) ∧ len ≤ cap ∧ cap ≤ maxLen

theorem open_row {H : Type} {enc : TypeId × Value → H} {P : Program} {t e : TypeId} {k : IntKind} (ht : P.underlying t = some (.slice e)) (he : P.underlying e = some (.int k)) (hc : P.cellsOf e = 1)
    {W : World} {a : Option Addr} {len cap : Nat} {d : DataW H} {p : List MemPlace} {b : Nat} {sp : Nat → Bool} {hd : Bool}
    (h : DataW.Trod enc P W b sp hd t (.slice a len cap) d p) : IsRow k W a len cap := by
  obtain ⟨fuel, hf⟩ := h
  rcases open_ints ht he hc hf with ⟨hcs, _⟩ | ⟨x, l, c, zs, hcs, _, hl, hm, hz, _, hcell, hwz⟩
  · simp [Value.cells] at hcs
    obtain ⟨rfl, rfl, rfl⟩ := hcs
    exact ⟨[], Ri.nil _ _ _, by simp, Nat.le_refl _, Nat.zero_le _⟩
  · simp [Value.cells] at hcs
    obtain ⟨rfl, rfl, rfl⟩ := hcs
    have hz' : len ≤ zs.length := by rw [hz]; split <;> omega
    have hll : (zs.take len).length = len := by rw [List.length_take]; omega
    refine ⟨zs.take len, ⟨by simpa using hll, fun h0 => ?_⟩, fun n hn => hwz n (List.mem_of_mem_take hn), hl, hm⟩
    obtain ⟨bl, off, spot⟩ := x
    have hc0 := hcell 0 (by omega)
    have hspot : spot = none := by simpa [Addr.add] using World.cell?_spot hc0
    subst hspot
    refine ⟨bl, off, rfl, ?_, fun j u hj => ?_⟩
    · rw [add_none] at hc0
      exact World.block_lt_of_cell? _ _ hc0
    · have hjl : j < len := by
        rcases Nat.lt_or_ge j len with h | h
        · exact h
        · rw [List.getElem?_eq_none (by rw [List.length_map, hll]; exact h)] at hj; cases hj
      have hcj := hcell j (by omega)
      rw [add_none] at hcj
      rw [hcj]
      simp [List.getElem?_take_of_lt hjl, List.getElem?_eq_getElem (show j < zs.length by omega)] at hj
      simp [List.getD, List.getElem?_eq_getElem (show j < zs.length by omega), hj]

theorem row_u8 {w : World} {a : Option Addr} {len cap : Nat} (h : IsRow .u8 w a len cap) : ∃ l : List Int, Ri w .u8 a len l ∧ U8 l ∧ len ≤ cap ∧ cap ≤ maxLen := by
  obtain ⟨l, h1, h2, h3, h4⟩ := h
  exact ⟨l, h1, fun x hx => wf_u8 (h2 x hx), h3, h4⟩
theorem row_u64 {w : World} {a : Option Addr} {len cap : Nat} (h : IsRow .u64 w a len cap) : ∃ l : List Int, Ri w .u64 a len l ∧ U64 l ∧ len ≤ cap ∧ cap ≤ maxLen := by
  obtain ⟨l, h1, h2, h3, h4⟩ := h
  exact ⟨l, h1, fun x hx => wf_u64 (h2 x hx), h3, h4⟩
theorem row_i64 {w : World} {a : Option Addr} {len cap : Nat} (h : IsRow .i64 w a len cap) : ∃ l : List Int, Ri w .i64 a len l ∧ I64 l ∧ len ≤ cap ∧ cap ≤ maxLen := by
  obtain ⟨l, h1, h2, h3, h4⟩ := h
  exact ⟨l, h1, fun x hx => wf_i64 (h2 x hx), h3, h4⟩
end Go.Proofs.Ytmejoococajikaa

/- Rows of strings: what is read of them; what the call itself owns. -/
namespace Go.Proofs.Ytmejoococajikaa
open Go.RowKit

/-- A slice of n strings that reads as l. -/
def Rs (w : World) (A : Option Addr) (n : Nat) (l : List ByteArray) : Prop := Rd w 1 A n (l.map Value.string)
section
variable {w w' : World} {A : Option Addr} {n : Nat} {l : List ByteArray}
theorem Rs.len (h : Rs w A n l) : l.length = n := by have := h.1; simpa using this
theorem Rs.nil (w : World) (A : Option Addr) : Rs w A 0 [] := Rd.nil w 1 A
theorem Rs.below (h : Rs w A n l) (hb : Below w.heap.size w w') : Rs w' A n l := Rd.below h hb
theorem Rs.drewN (h : Rs w A n l) (m : Nat) : Rs (w.drewN m) A n l := h
theorem Rs.alloc (h : Rs w A n l) (o : Obj) : Rs (w.alloc o) A n l := Rd.alloc h o
theorem Rs.grown (h : Rs w A n l) {row : Option Nat} (hg : w.grownBy w' row) (hr : ∀ g b o, row = some g → A = some ⟨b, o, none⟩ → g ≠ b) : Rs w' A n l := Rd.grown h hg hr
theorem Rs.of_own {base : Nat} {e : TypeId} {c : Nat} (h : w.ownsRow base e 1 (.slice A n c) n (l.map Value.string)) : Rs w A n l := Rd.of_own h
theorem Rs.all (h : Rs w A n l) (hl : 0 < n) : ∃ b o, A = some ⟨b, o, none⟩ ∧ b < w.heap.size ∧ ∀ j (hj : j < l.length), w.cell? ⟨b, o + j, none⟩ = some (.string l[j]) := by
  obtain ⟨b, o, e, hb, hc⟩ := h.2 hl
  exact ⟨b, o, e, hb, fun j hj => hc j _ (by simp [List.getElem?_map, List.getElem?_eq_getElem hj])⟩
/-- A cut 's[:m]' of a row that is longer. -/
theorem Rs.first (h : Rs w A n l) {m : Nat} (hm : m ≤ n) : Rs w A m (l.take m) :=
  ⟨by have := h.len; simp; omega, fun h0 => by
    obtain ⟨b, o, e, hb, hc⟩ := h.2 (by omega)
    refine ⟨b, o, e, hb, fun j u hu => hc j u ?_⟩
    rw [List.map_take] at hu
    have hj : j < m := by
      rcases Nat.lt_or_ge j m with hlt | hge
      · exact hlt
      · rw [List.getElem?_eq_none (by rw [List.length_take]; omega)] at hu; cases hu
    rwa [List.getElem?_take_of_lt hj] at hu⟩
end

/-- Bytes that stand ahead of one another, as the sort orders them. -/
theorem before_lt : ∀ (a b : List UInt8), bytesBefore a b = true ↔ a < b
  | [], [] => by simp [bytesBefore]
  | [], _ :: _ => by simp [bytesBefore]
  | _ :: _, [] => by simp [bytesBefore]
  | x :: r, y :: s => by
    rw [List.cons_lt_cons_iff, ← before_lt r s]
    simp [bytesBefore]
theorem before_le {a b : List UInt8} (h : bytesBefore a b = true) : a ≤ b := List.le_of_lt ((before_lt a b).1 h)
/-- What rises is what the sort gives of any row with the same members. -/
theorem sort_of_rising {ss l : List (List UInt8)} (hp : ss.Perm l) (hl : l.Pairwise fun a b => bytesBefore a b = true) : ss.mergeSort (fun x y => decide (x ≤ y)) = l := by
  have tr : ∀ a b c : List UInt8, decide (a ≤ b) = true → decide (b ≤ c) = true → decide (a ≤ c) = true := fun a b c h1 h2 => by simp only [decide_eq_true_eq] at *; exact List.le_trans h1 h2
  have tot : ∀ a b : List UInt8, (decide (a ≤ b) || decide (b ≤ a)) = true := fun a b => by simp only [Bool.or_eq_true, decide_eq_true_eq]; exact List.le_total a b
  refine List.Perm.eq_of_pairwise (le := fun a b => decide (a ≤ b) = true) (fun a b _ _ h1 h2 => ?_) (List.pairwise_mergeSort tr tot ss) (hl.imp fun h => decide_eq_true (before_le h)) ((List.mergeSort_perm ss _).trans hp)
  simp only [decide_eq_true_eq] at h1 h2
  exact List.le_antisymm h1 h2
theorem encStr_map (l : List ByteArray) : (l.map fun s => s.data.toList).map encStr = l.map Value.string := by
  rw [List.map_map]
  refine List.map_congr_left fun s _ => ?_
  show Value.string ⟨s.data.toList.toArray⟩ = Value.string s
  rw [Array.toArray_toList]
end Go.Proofs.Ytmejoococajikaa

/- Rows of texts that came in. -/
namespace Go.Proofs.Ytmejoococajikaa
open Go.ChangeShapes Go.WideShapes Go.ChangeAt Go.RowKit

theorem open_strs {H : Type} {enc : TypeId × Value → H} {P : Program} {r t : TypeId} (hr : P.underlying r = some (.slice t)) (ht : P.underlying t = some .string) (hc : P.cellsOf t = 1)
    {W : World} {a : Option Addr} {len cap : Nat} {d : DataW H} {p : List MemPlace} {base : Nat} {hd : Bool}
    (h : DataW.Trod enc P W base (fun _ => true) hd r (.slice a len cap) d p) : ∃ l : List ByteArray, Rs W a len l ∧ (∀ s ∈ l, s.size ≤ maxLen) ∧ len ≤ cap ∧ cap ≤ maxLen := by
  obtain ⟨fuel, hf⟩ := h
  rcases open_strings hr ht hc hf with ⟨hcs, _⟩ | ⟨x, l, c, ss, hcs, _, hl, hm, hlen, _, hel, hsz⟩
  · simp [Value.cells] at hcs
    obtain ⟨rfl, rfl, rfl⟩ := hcs
    exact ⟨[], Rs.nil _ _, fun s hs => absurd hs List.not_mem_nil, Nat.le_refl _, Nat.zero_le _⟩
  · simp [Value.cells] at hcs
    obtain ⟨rfl, rfl, rfl⟩ := hcs
    rw [if_pos rfl] at hlen
    refine ⟨ss.take len, ⟨by rw [List.length_map, List.length_take]; omega, fun h0 => ?_⟩, fun s hs => hsz s (List.mem_of_mem_take hs), hl, hm⟩
    obtain ⟨bl, off, spot⟩ := x
    have hc0 := hel 0 (by omega)
    have hspot : spot = none := by simpa [Addr.add] using World.cell?_spot hc0
    subst hspot
    simp only [add_none] at hel hc0
    refine ⟨bl, off, rfl, World.block_lt_of_cell? _ _ hc0, fun j u hu => ?_⟩
    have hj : j < len := by
      rcases Nat.lt_or_ge j len with h | h
      · exact h
      · rw [List.getElem?_eq_none (by rw [List.length_map, List.length_take]; omega)] at hu; cases hu
    rw [hel j (by omega)]
    rw [List.getElem?_map, List.getElem?_take_of_lt hj, List.getElem?_eq_getElem (by omega)] at hu
    injection hu with hu
    rw [← hu, List.getD_eq_getElem?_getD, List.getElem?_eq_getElem (by omega)]
    rfl
end Go.Proofs.Ytmejoococajikaa

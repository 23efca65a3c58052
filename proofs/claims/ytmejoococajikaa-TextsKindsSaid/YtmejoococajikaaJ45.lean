/- Joined texts: TxJ. Each has its own head line. No condition beyond those that its theorems state. -/
import Derived.Laws.IdiomStrings
import Derived.Test.YtmejoococajikaaJ42
import Derived.Test.YtmejoococajikaaShelf
set_option linter.unusedVariables false

/- Texts: a text's bytes as a slice; texts joined; rows behind a store. -/
namespace Go.Proofs.Ytmejoococajikaa
open Go.RowKit

/-- '[]byte(s)': its capacity, the world behind it. -/
def capB (w : World) (s : ByteArray) : Nat := grownCap w s.size 0 5
def toB (w : World) (s : ByteArray) : World :=
  w.drew.alloc (.cells (bytesRow s (capB w s)) 5 ((bytesRow s (capB w s)).size, (bytesRow s (capB w s)).size + 1))
theorem conv_bytes (w : World) (s : ByteArray) : (convert 9 49 (.string s)).run Try.prog w = .ok (.slice (some ⟨w.heap.size, 0, none⟩) s.size (capB w s)) (toB w s) :=
  run_bytes_of_string w _ _ _ s Try.underlying9 Try.underlying49 Try.underlying5
theorem toB_below (w : World) (s : ByteArray) : Below w.heap.size w (toB w s) :=
  Below.alloc (bdN (Below.refl _ w) 1) (Nat.le_refl _) _
theorem toB_sl (w : World) (s : ByteArray) (hs : s.size ≤ maxLen) : Sl (toB w s) .u8 (some ⟨w.heap.size, 0, none⟩) s.size (capB w s) (bytesT s) := by
  refine ⟨⟨by rw [List.length_map, bytesT_len, Nat.mul_one], fun _ => ⟨w.heap.size, 0, rfl, ?_, fun j u hu => ?_⟩⟩, grownCap_ge _ _ _ _, grownCap_le_maxLen _ _ _ _ hs⟩
  · show w.heap.size < (w.drew.alloc _).heap.size
    rw [World.size_alloc]
    exact Nat.lt_succ_self _
  · have hb : (toB w s).heap[w.heap.size]? = some (.cells (bytesRow s (capB w s)) 5 ((bytesRow s (capB w s)).size, (bytesRow s (capB w s)).size + 1)) := newBlkT w.drew _
    rw [Nat.zero_add, cell_blkT hb]
    have hj : j < s.data.size := by
      rcases Nat.lt_or_ge j s.data.size with h | h
      · exact h
      · rw [List.getElem?_eq_none (by rw [List.length_map, bytesT_len]; exact h)] at hu; cases hu
    rw [bytesRow_at s _ j hj]
    unfold bytesT at hu
    rw [List.map_map, List.getElem?_map, List.getElem?_eq_getElem (by simpa using hj)] at hu
    rw [← hu]
    simp
theorem catT_join (l : List ByteArray) : bytesT ⟨(Lib.join (l.map (·.data.toList)) []).toArray⟩ = catT l := by
  unfold bytesT catT Lib.join
  have h : (([] : List UInt8).intercalate (l.map (·.data.toList))) = (l.map (·.data.toList)).flatten := by
    induction l with
    | nil => rfl
    | cons s r ih =>
      have h2 := Lib.join_cons s.data.toList (r.map (·.data.toList)) []
      unfold Lib.join Lib.joinTail at h2
      rw [List.map_cons, h2, List.flatten_cons]
      congr 1
      rw [show ((fun x : List UInt8 => [] ++ x) = id) from rfl, List.map_id]
  rw [h, List.flatMap_def]
  show List.map (fun u : UInt8 => (u.toNat : Int)) (l.map (·.data.toList)).flatten = _
  rw [List.map_flatten, List.map_map]
  rfl
set_option maxHeartbeats 1000000 in
theorem join_any (w : World) (A : Option Addr) (n c : Nat) (l : List ByteArray) (hr : Rs w A n l) (hc : n ≤ c) (hn : n ≤ 1000) (hs : ∀ s ∈ l, s.size ≤ 1000) :
    Calls Try.prog 29 #[.slice A n c, .string ⟨#[]⟩] w fun e w' => ∃ s : ByteArray, e = .returned (.string s) ∧ bytesT s = catT l ∧ s.size ≤ 1000000 ∧ Below w.heap.size w w' := by
  have hl := hr.len
  have hsz : (⟨(Lib.join (l.map (·.data.toList)) []).toArray⟩ : ByteArray).size ≤ 1000000 := by
    rw [← bytesT_len, catT_join]
    have := catT_len hs
    have : l.length * 1000 ≤ 1000 * 1000 := Nat.mul_le_mul_right _ (by omega)
    omega
  rcases Nat.eq_zero_or_pos n with rfl | h0
  · obtain rfl : l = [] := List.eq_nil_of_length_eq_zero hl
    refine (Try.strings_Join_none A c ⟨#[]⟩ w).mono ?_
    rintro e w' ⟨rfl, rfl⟩
    exact ⟨_, rfl, rfl, by decide, Below.refl _ _⟩
  · obtain ⟨b, o, rfl, hb, hcell⟩ := hr.all h0
    subst hl
    have hlen : (Lib.join (l.map (·.data.toList)) (⟨#[]⟩ : ByteArray).data.toList).length ≤ 140737488355328 := by
      have : (Lib.join (l.map (·.data.toList)) []).length ≤ 1000000 := by simpa [ByteArray.size] using hsz
      exact Nat.le_trans this (by omega)
    refine (Try.strings_Join b o c l ⟨#[]⟩ w (fun j x hx => ?_) hb (by omega) hc hlen).mono ?_
    · obtain ⟨hj, rfl⟩ := List.getElem?_eq_some_iff.1 hx
      exact hcell j hj
    · rintro e w' ⟨rfl, hb'⟩
      exact ⟨_, rfl, catT_join l, hsz, hb'⟩

/-- A row of bytes stays, where its block stays. -/
theorem Ri.of_heap {w w' : World} {k : IntKind} {A : Option Addr} {n : Nat} {l : List Int} (h : Ri w k A n l) (hz : w.heap.size ≤ w'.heap.size) (hb : ∀ b o, 0 < n → A = some ⟨b, o, none⟩ → w'.heap[b]? = w.heap[b]?) : Ri w' k A n l :=
  ⟨h.1, fun h0 => by
    obtain ⟨b, o, e, hlt, hc⟩ := h.2 h0
    exact ⟨b, o, e, Nat.lt_of_lt_of_le hlt hz, fun j u hu => (World.cell?_of_block (hb b o h0 e)).trans (hc j u hu)⟩⟩
/-- Bytes don't lie where a column lies. -/
theorem Ri.not_col {w : World} {A : Option Addr} {n : Nat} {l : List Int} (h : Ri w .u8 A n l) {B : Nat} {a b c : Int} {x : Option Addr} {y z : Nat} {t : TypeId} {f : Nat × Nat}
    (hB : w.heap[B]? = some (.cells #[.int .i64 a, .int .i64 b, .int .i64 c, .slice x y z] t f)) : ∀ g o, 0 < n → A = some ⟨g, o, none⟩ → g ≠ B := fun g o h0 e => by
  obtain ⟨g', o', e', hlt, hc⟩ := h.2 h0
  rw [e] at e'
  injection e' with e'
  injection e' with e1 e2
  subst e1 e2
  rintro rfl
  have hl : 0 < (l.map (Value.int .u8)).length := by have := h.1; omega
  have h1 := hc 0 _ (List.getElem?_eq_getElem hl)
  rw [cell_blkT hB, List.getElem_map] at h1
  have ho : o = 0 ∨ o = 1 ∨ o = 2 ∨ o = 3 ∨ 4 ≤ o := by omega
  rcases ho with rfl | rfl | rfl | rfl | ho
  · cases h1
  · cases h1
  · cases h1
  · cases h1
  · rw [Array.getElem?_eq_none (by simpa using ho)] at h1; cases h1
/-- Streams out of one block. -/
theorem stAt_of {w : World} {sb : Nat} {cs : Array Value} {t : TypeId} {z : Nat × Nat} {S : List (Int × List Int)} (hb : w.heap[sb]? = some (.cells cs t z))
    (h : ∀ j (hj : j < S.length), cs[j * 2]? = some (.int .i64 S[j].1) ∧ ∃ G m c, cs[j * 2 + 1]? = some (.slice G m c) ∧ Sl w .u8 G m c S[j].2) : StAt w (some ⟨sb, 0, none⟩) S.length S :=
  ⟨rfl, fun _ => ⟨sb, 0, rfl, (Array.getElem?_eq_some_iff.1 hb).1, fun j hj => by
    obtain ⟨k1, G, m, c, k2, k3⟩ := h j hj
    refine ⟨?_, G, m, c, ?_, k3⟩
    · rw [Nat.zero_add, cell_blkT hb]; exact k1
    · rw [Nat.zero_add, cell_blkT hb]; exact k2⟩⟩
end Go.Proofs.Ytmejoococajikaa

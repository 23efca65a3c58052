/- Joined texts: TxP. Each has its own head line. No condition beyond those that its theorems state. -/
import Derived.Lib.SlicesCompact
import Derived.Test.YtmejoococajikaaJ02
set_option linter.unusedVariables false

/- Texts: the plain laws of words (rising, each once) and of places among them. -/
namespace Go.Proofs.Ytmejoococajikaa
open Go.RowKit

theorem key_back (s : ByteArray) : (⟨s.data.toList.toArray⟩ : ByteArray) = s := by rw [Array.toArray_toList]
theorem key_inj {a b : ByteArray} (h : a.data.toList = b.data.toList) : a = b := by
  rw [← key_back a, ← key_back b, h]
/-- Texts that rise, each once. -/
def Rising (W : List ByteArray) : Prop := W.Pairwise fun a b => a.data.toList < b.data.toList
/-- W are the words of l. -/
structure IsWords (W l : List ByteArray) : Prop where
  up : Rising W
  mem : ∀ x, x ∈ W ↔ x ∈ l
theorem Rising.nodup {W : List ByteArray} (h : Rising W) : W.Nodup :=
  List.Pairwise.imp (fun {a b} hab e => by subst e; exact List.lt_irrefl _ hab) h
theorem rising_unique {a b : List ByteArray} (ha : Rising a) (hb : Rising b) (h : ∀ x, x ∈ a ↔ x ∈ b) : a = b := by
  refine List.Perm.eq_of_pairwise (le := fun a b : ByteArray => a.data.toList < b.data.toList) (fun x y _ _ h1 h2 => ?_) ha hb ((List.perm_ext_iff_of_nodup ha.nodup hb.nodup).2 h)
  exact absurd (List.lt_trans h1 h2) (List.lt_irrefl _)
theorem IsWords.unique {W V l : List ByteArray} (h : IsWords W l) (k : IsWords V l) : W = V :=
  rising_unique h.up k.up fun x => (h.mem x).trans (k.mem x).symm
theorem nodup_len {α : Type} [DecidableEq α] {W l : List α} (h : W.Nodup) (hs : ∀ x ∈ W, x ∈ l) : W.length ≤ l.length := by
  induction W generalizing l with
  | nil => simp
  | cons x r ih =>
    obtain ⟨h1, h2⟩ := List.nodup_cons.1 h
    have hx := hs x List.mem_cons_self
    have := ih (l := l.erase x) h2 fun y hy => (List.mem_erase_of_ne (fun e => h1 (by rw [← e]; exact hy))).2 (hs y (List.mem_cons_of_mem _ hy))
    rw [List.length_erase_of_mem hx] at this
    have := List.length_pos_of_mem hx
    rw [List.length_cons]
    omega
theorem IsWords.len {W l : List ByteArray} (h : IsWords W l) : W.length ≤ l.length := nodup_len h.up.nodup fun x hx => (h.mem x).1 hx
theorem lt_le {a b c : List UInt8} (h1 : a < b) (h2 : b ≤ c) : a < c := by
  rcases List.le_iff_lt_or_eq.1 h2 with h | h
  · exact List.lt_trans h1 h
  · exact h ▸ h1

/-- What slices.Compact leaves of a row that doesn't fall: it rises, and has the same members. -/
theorem compact_upto {d : Array (List UInt8)} (hs : ∀ i, i + 1 < d.size → d[i]! ≤ d[i + 1]!) : ∀ m, m ≤ d.size →
    (Lib.compactUpTo d m).Pairwise (· < ·) ∧ (∀ x, x ∈ Lib.compactUpTo d m ↔ ∃ j, j < m ∧ d[j]! = x) ∧ (0 < m → ∀ x ∈ Lib.compactUpTo d m, x ≤ d[m - 1]!)
  | 0, _ => ⟨by simp [Lib.compactUpTo], fun x => by simp [Lib.compactUpTo], fun h => absurd h (by omega)⟩
  | m + 1, hm => by
    obtain ⟨h1, h2, h3⟩ := compact_upto hs m (by omega)
    rw [Lib.compactUpTo_succ]
    have hup : 0 < m → d[m - 1]! ≤ d[m]! := fun h => by
      have := hs (m - 1) (by omega)
      rwa [show m - 1 + 1 = m from by omega] at this
    have hle : ∀ x ∈ Lib.compactUpTo d m, x ≤ d[m]! := fun x hx => by
      obtain ⟨j, hj, _⟩ := (h2 x).1 hx
      exact List.le_trans (h3 (by omega) x hx) (hup (by omega))
    cases hk : Lib.keeps d m with
    | true =>
      rw [if_pos rfl]
      refine ⟨List.pairwise_append.2 ⟨h1, by simp, fun x hx y hy => ?_⟩, fun x => ?_, fun _ x hx => ?_⟩
      · obtain rfl : y = d[m]! := by simpa using hy
        obtain ⟨j, hj, _⟩ := (h2 x).1 hx
        have hx1 := h3 (by omega) x hx
        have hne : d[m]! ≠ d[m - 1]! := by
          unfold Lib.keeps at hk
          rcases of_decide_eq_true hk with h | h
          · omega
          · exact h
        rcases List.le_iff_lt_or_eq.1 hx1 with h | h
        · exact lt_le h (hup (by omega))
        · rw [h]
          rcases List.le_iff_lt_or_eq.1 (hup (by omega)) with h' | h'
          · exact h'
          · exact absurd h'.symm hne
      · rw [List.mem_append, h2]
        constructor
        · rintro (⟨j, hj, e⟩ | h)
          · exact ⟨j, by omega, e⟩
          · exact ⟨m, by omega, (List.mem_singleton.1 h).symm⟩
        · rintro ⟨j, hj, e⟩
          by_cases hjm : j = m
          · subst hjm; exact .inr (by simpa using e.symm)
          · exact .inl ⟨j, by omega, e⟩
      · rw [Nat.add_sub_cancel]
        rcases List.mem_append.1 hx with h | h
        · exact hle x h
        · obtain rfl : x = d[m]! := by simpa using h
          exact List.le_refl _
    | false =>
      rw [if_neg (by simp), List.append_nil]
      have hm0 : 0 < m ∧ d[m]! = d[m - 1]! := by
        unfold Lib.keeps at hk
        have := of_decide_eq_false hk
        refine ⟨by omega, ?_⟩
        by_cases e : d[m]! = d[m - 1]!
        · exact e
        · exact absurd (.inr e) this
      refine ⟨h1, fun x => ?_, fun _ x hx => by rw [Nat.add_sub_cancel]; exact hle x hx⟩
      rw [h2]
      constructor
      · rintro ⟨j, hj, e⟩; exact ⟨j, by omega, e⟩
      · rintro ⟨j, hj, e⟩
        by_cases hjm : j = m
        · subst hjm; exact ⟨j - 1, by omega, by rw [← hm0.2]; exact e⟩
        · exact ⟨j, by omega, e⟩
/-- What the library makes of texts: sorted, then compacted: their words. -/
theorem words_of_sorted (l : List ByteArray) :
    IsWords ((Lib.compact ((l.map fun s => s.data.toList).mergeSort (fun x y => decide (x ≤ y)))).map fun a => ⟨a.toArray⟩) l := by
  have tr : ∀ a b c : List UInt8, decide (a ≤ b) = true → decide (b ≤ c) = true → decide (a ≤ c) = true := fun a b c h1 h2 => by simp only [decide_eq_true_eq] at *; exact List.le_trans h1 h2
  have tot : ∀ a b : List UInt8, (decide (a ≤ b) || decide (b ≤ a)) = true := fun a b => by simp only [Bool.or_eq_true, decide_eq_true_eq]; exact List.le_total a b
  obtain ⟨z, hz⟩ : ∃ z, z = (l.map fun s => s.data.toList).mergeSort (fun x y => decide (x ≤ y)) := ⟨_, rfl⟩
  rw [← hz]
  have hp : z.Pairwise fun a b => decide (a ≤ b) = true := hz ▸ List.pairwise_mergeSort tr tot _
  have hperm : z.Perm (l.map fun s => s.data.toList) := hz ▸ List.mergeSort_perm _ _
  have hs : ∀ i, i + 1 < z.toArray.size → z.toArray[i]! ≤ z.toArray[i + 1]! := fun i hi => by
    have hi' : i + 1 < z.length := by simpa using hi
    rw [getElem!_pos z.toArray i (by simpa using (by omega : i < z.length)), getElem!_pos z.toArray (i + 1) hi]
    simpa using List.pairwise_iff_getElem.1 hp i (i + 1) (by omega) hi' (by omega)
  obtain ⟨h1, h2, _⟩ := compact_upto hs z.toArray.size (Nat.le_refl _)
  have hmem : ∀ x, x ∈ Lib.compact z ↔ x ∈ z := fun x => by
    unfold Lib.compact
    rw [show z.length = z.toArray.size from by simp, h2]
    constructor
    · rintro ⟨j, hj, e⟩
      rw [getElem!_pos z.toArray j hj] at e
      rw [← e]
      simp
    · intro hx
      obtain ⟨j, hj, e⟩ := List.mem_iff_getElem.1 hx
      exact ⟨j, by simpa using hj, by rw [getElem!_pos z.toArray j (by simpa using hj)]; simpa using e⟩
  refine ⟨?_, fun x => ?_⟩
  · unfold Rising
    rw [List.pairwise_map]
    refine List.Pairwise.imp (fun {a b} hab => ?_) (show (Lib.compact z).Pairwise (· < ·) from by unfold Lib.compact; simpa using h1)
    simpa using hab
  · rw [List.mem_map]
    constructor
    · rintro ⟨a, ha, rfl⟩
      obtain ⟨s, hs1, rfl⟩ := List.mem_map.1 (hperm.mem_iff.1 ((hmem a).1 ha))
      rw [key_back]; exact hs1
    · intro hx
      exact ⟨x.data.toList, (hmem _).2 (hperm.mem_iff.2 (List.mem_map_of_mem hx)), key_back x⟩

/-- A text's place among others; -1: it is not there. -/
def PlaceAt (l : List ByteArray) (s : ByteArray) (r : Int) : Prop := (∃ j : Nat, r = j ∧ l[j]? = some s) ∨ (r = -1 ∧ s ∉ l)
theorem nodup_get {α : Type} {W : List α} (h : W.Nodup) {i j : Nat} {s : α} (hi : W[i]? = some s) (hj : W[j]? = some s) : i = j := by
  obtain ⟨h1, e1⟩ := List.getElem?_eq_some_iff.1 hi
  obtain ⟨h2, e2⟩ := List.getElem?_eq_some_iff.1 hj
  exact (List.getElem_inj h).1 (e1.trans e2.symm)
theorem PlaceAt.unique {W : List ByteArray} (h : W.Nodup) {s : ByteArray} {a b : Int} (ha : PlaceAt W s a) (hb : PlaceAt W s b) : a = b := by
  rcases ha with ⟨i, rfl, hi⟩ | ⟨rfl, hi⟩ <;> rcases hb with ⟨j, rfl, hj⟩ | ⟨rfl, hj⟩
  · rw [nodup_get h hi hj]
  · exact absurd (List.mem_of_getElem? hi) hj
  · exact absurd (List.mem_of_getElem? hj) hi
  · rfl
/-- The places of texts among their words. -/
def idxT {α : Type} [DecidableEq α] (W : List α) (s : α) : Nat := W.idxOf s
theorem idxT_lt {α : Type} [DecidableEq α] {W : List α} {s : α} (h : s ∈ W) : idxT W s < W.length := List.idxOf_lt_length_of_mem h
theorem idxT_get {α : Type} [DecidableEq α] {W : List α} {s : α} (h : s ∈ W) : W[idxT W s]? = some s := by
  have h1 := List.getElem_idxOf (List.idxOf_lt_length_of_mem h)
  rw [List.getElem?_eq_getElem (idxT_lt h)]
  exact congrArg some h1
def placesT (W l : List ByteArray) : List Int := l.map fun s => (idxT W s : Int)
theorem placeAt_idx {W : List ByteArray} {s : ByteArray} (h : s ∈ W) : PlaceAt W s (idxT W s : Nat) := .inl ⟨_, rfl, idxT_get h⟩
/-- A text's bytes, as numbers; texts one behind the other; how many bytes each has. -/
def bytesT (s : ByteArray) : List Int := s.data.toList.map fun u => (u.toNat : Int)
def catT (l : List ByteArray) : List Int := l.flatMap bytesT
def lensT (l : List ByteArray) : List Int := l.map fun s => (s.size : Int)
theorem bytesT_len (s : ByteArray) : (bytesT s).length = s.size := by unfold bytesT; rw [List.length_map, Array.length_toList]; rfl
theorem bytesT_u8 (s : ByteArray) : U8 (bytesT s) := fun x hx => by
  obtain ⟨u, _, rfl⟩ := List.mem_map.1 hx
  have := u.toNat_lt
  omega
theorem catT_u8 (l : List ByteArray) : U8 (catT l) := fun x hx => by
  obtain ⟨s, _, h⟩ := List.mem_flatMap.1 hx
  exact bytesT_u8 s x h
theorem catT_len {l : List ByteArray} {m : Nat} (h : ∀ s ∈ l, s.size ≤ m) : (catT l).length ≤ l.length * m := by
  induction l with
  | nil => simp [catT]
  | cons s r ih =>
    have h1 := ih fun x hx => h x (List.mem_cons_of_mem _ hx)
    have h2 := h s List.mem_cons_self
    have e : catT (s :: r) = bytesT s ++ catT r := by simp [catT]
    rw [e, List.length_append, bytesT_len, List.length_cons, Nat.succ_mul]
    omega
/-- One text more, put where it stands. -/
theorem shift_step {α : Type} (O : List α) (x : α) (k : Nat) (hk : k < O.length) :
    ((O.take (k + 1) ++ x :: O.drop (k + 1)).set (k + 1) O[k]).set k x = O.take k ++ x :: O.drop k := by
  have e1 : O.take (k + 1) = O.take k ++ [O[k]] := by rw [List.take_succ_eq_append_getElem hk]
  have e2 : O.drop k = O[k] :: O.drop (k + 1) := List.drop_eq_getElem_cons hk
  have hl : (O.take k).length = k := by rw [List.length_take]; omega
  rw [e2, e1, List.append_assoc, List.set_append_right _ _ (by omega), hl, show k + 1 - k = 1 from by omega, List.set_append_right _ _ (by omega), hl, Nat.sub_self]
  rfl
theorem rising_insert {O : List ByteArray} {x : ByteArray} {k : Nat} (h : Rising O) (hk : k ≤ O.length) (hx : x ∉ O) (hhi : ∀ y ∈ O.drop k, x.data.toList < y.data.toList)
    (hlo : ∀ (j : Nat) (y : ByteArray), k = j + 1 → O[j]? = some y → ¬ x.data.toList < y.data.toList) : Rising (O.take k ++ x :: O.drop k) := by
  have hO : Rising (O.take k ++ O.drop k) := by rw [List.take_append_drop]; exact h
  obtain ⟨h1, h2, h3⟩ := List.pairwise_append.1 hO
  refine List.pairwise_append.2 ⟨h1, List.pairwise_cons.2 ⟨hhi, h2⟩, fun a ha b hb => ?_⟩
  rcases List.mem_cons.1 hb with rfl | hb
  · cases k with
    | zero => simp at ha
    | succ j =>
      have hj : j < O.length := by omega
      have hy := hlo j O[j] rfl (List.getElem?_eq_getElem hj)
      have hne : O[j].data.toList ≠ b.data.toList := fun e => hx (key_inj e ▸ List.getElem_mem hj)
      have hlt : O[j].data.toList < b.data.toList := by
        rcases List.le_iff_lt_or_eq.1 (List.not_lt.1 hy) with h | h
        · exact h
        · exact absurd h hne
      obtain ⟨i, hi, rfl⟩ := List.mem_iff_getElem.1 ha
      rw [List.length_take] at hi
      rw [List.getElem_take]
      by_cases e : i = j
      · subst e; exact hlt
      · exact List.lt_trans (List.pairwise_iff_getElem.1 h i j (by omega) hj (by omega)) hlt
  · exact h3 a ha b hb
end Go.Proofs.Ytmejoococajikaa

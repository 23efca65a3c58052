/- Joined texts: TxP, PlainH, PlainD, PlainG, PlainGp, TxQ, PlainDe. Each has its own head line. No condition beyond those that its theorems state. -/
import Derived.Lib.SlicesCompact
import Derived.Test.YtmejoococajikaaGreatJ04
import Derived.Test.YtmejoococajikaaGreatJ08
import Derived.Test.YtmejoococajikaaGreatJ18
import Derived.Test.YtmejoococajikaaGreatJ20
import Derived.Test.YtmejoococajikaaGreatJ14
import Derived.Test.YtmejoococajikaaGreatJ16
import Derived.Test.YtmejoococajikaaGreatJ19
import Derived.Test.YtmejoococajikaaGreatJ22
import Derived.Test.YtmejoococajikaaGreatJ27
set_option linter.unusedVariables false

/- Texts: the plain laws of words (rising, each once) and of places among them. -/
namespace Go.Proofs.YtmejoococajikaaGreat
open Go.RowKit

theorem key_back (s : ByteArray) : (⟨s.data.toList.toArray⟩ : ByteArray) = s := by rw [Array.toArray_toList]
theorem key_inj {a b : ByteArray} (h : a.data.toList = b.data.toList) : a = b := by
  rw [← key_back a, ← key_back b, h]
/-- Texts that rise, each once. -/
def Rising (W : List ByteArray) : Prop := W.Pairwise fun a b => a.data.toList < b.data.toList
/-- W are the words of l. -/
structure IsWords (W l : List ByteArray) : Prop where
  up : Rising W
  mem : ∀ x, x ∈ W ↔ x ∈ l
theorem Rising.nodup {W : List ByteArray} (h : Rising W) : W.Nodup :=
  List.Pairwise.imp (fun {a b} hab e => by subst e; exact List.lt_irrefl _ hab) h
theorem rising_unique {a b : List ByteArray} (ha : Rising a) (hb : Rising b) (h : ∀ x, x ∈ a ↔ x ∈ b) : a = b := by
  refine List.Perm.eq_of_pairwise (le := fun a b : ByteArray => a.data.toList < b.data.toList) (fun x y _ _ h1 h2 => ?_) ha hb ((List.perm_ext_iff_of_nodup ha.nodup hb.nodup).2 h)
  exact absurd (List.lt_trans h1 h2) (List.lt_irrefl _)
theorem IsWords.unique {W V l : List ByteArray} (h : IsWords W l) (k : IsWords V l) : W = V :=
  rising_unique h.up k.up fun x => (h.mem x).trans (k.mem x).symm
theorem nodup_len {α : Type} [DecidableEq α] {W l : List α} (h : W.Nodup) (hs : ∀ x ∈ W, x ∈ l) : W.length ≤ l.length := by
  induction W generalizing l with
  | nil => simp
  | cons x r ih =>
    obtain ⟨h1, h2⟩ := List.nodup_cons.1 h
    have hx := hs x List.mem_cons_self
    have := ih (l := l.erase x) h2 fun y hy => (List.mem_erase_of_ne (fun e => h1 (by rw [← e]; exact hy))).2 (hs y (List.mem_cons_of_mem _ hy))
    rw [List.length_erase_of_mem hx] at this
    have := List.length_pos_of_mem hx
    rw [List.length_cons]
    omega
theorem IsWords.len {W l : List ByteArray} (h : IsWords W l) : W.length ≤ l.length := nodup_len h.up.nodup fun x hx => (h.mem x).1 hx
theorem lt_le {a b c : List UInt8} (h1 : a < b) (h2 : b ≤ c) : a < c := by
  rcases List.le_iff_lt_or_eq.1 h2 with h | h
  · exact List.lt_trans h1 h
  · exact h ▸ h1

/-- What slices.Compact leaves of a row that doesn't fall: it rises, and has the same members. -/
theorem compact_upto {d : Array (List UInt8)} (hs : ∀ i, i + 1 < d.size → d[i]! ≤ d[i + 1]!) : ∀ m, m ≤ d.size →
    (Lib.compactUpTo d m).Pairwise (· < ·) ∧ (∀ x, x ∈ Lib.compactUpTo d m ↔ ∃ j, j < m ∧ d[j]! = x) ∧ (0 < m → ∀ x ∈ Lib.compactUpTo d m, x ≤ d[m - 1]!)
  | 0, _ => ⟨by simp [Lib.compactUpTo], fun x => by simp [Lib.compactUpTo], fun h => absurd h (by omega)⟩
  | m + 1, hm => by
    obtain ⟨h1, h2, h3⟩ := compact_upto hs m (by omega)
    rw [Lib.compactUpTo_succ]
    have hup : 0 < m → d[m - 1]! ≤ d[m]! := fun h => by
      have := hs (m - 1) (by omega)
      rwa [show m - 1 + 1 = m from by omega] at this
    have hle : ∀ x ∈ Lib.compactUpTo d m, x ≤ d[m]! := fun x hx => by
      obtain ⟨j, hj, _⟩ := (h2 x).1 hx
      exact List.le_trans (h3 (by omega) x hx) (hup (by omega))
    cases hk : Lib.keeps d m with
    | true =>
      rw [if_pos rfl]
      refine ⟨List.pairwise_append.2 ⟨h1, by simp, fun x hx y hy => ?_⟩, fun x => ?_, fun _ x hx => ?_⟩
      · obtain rfl : y = d[m]! := by simpa using hy
        obtain ⟨j, hj, _⟩ := (h2 x).1 hx
        have hx1 := h3 (by omega) x hx
        have hne : d[m]! ≠ d[m - 1]! := by
          unfold Lib.keeps at hk
          rcases of_decide_eq_true hk with h | h
          · omega
          · exact h
        rcases List.le_iff_lt_or_eq.1 hx1 with h | h
        · exact lt_le h (hup (by omega))
        · rw [h]
          rcases List.le_iff_lt_or_eq.1 (hup (by omega)) with h' | h'
          · exact h'
          · exact absurd h'.symm hne
      · rw [List.mem_append, h2]
        constructor
        · rintro (⟨j, hj, e⟩ | h)
          · exact ⟨j, by omega, e⟩
          · exact ⟨m, by omega, (List.mem_singleton.1 h).symm⟩
        · rintro ⟨j, hj, e⟩
          by_cases hjm : j = m
          · subst hjm; exact .inr (by simpa using e.symm)
          · exact .inl ⟨j, by omega, e⟩
      · rw [Nat.add_sub_cancel]
        rcases List.mem_append.1 hx with h | h
        · exact hle x h
        · obtain rfl : x = d[m]! := by simpa using h
          exact List.le_refl _
    | false =>
      rw [if_neg (by simp), List.append_nil]
      have hm0 : 0 < m ∧ d[m]! = d[m - 1]! := by
        unfold Lib.keeps at hk
        have := of_decide_eq_false hk
        refine ⟨by omega, ?_⟩
        by_cases e : d[m]! = d[m - 1]!
        · exact e
        · exact absurd (.inr e) this
      refine ⟨h1, fun x => ?_, fun _ x hx => by rw [Nat.add_sub_cancel]; exact hle x hx⟩
      rw [h2]
      constructor
      · rintro ⟨j, hj, e⟩; exact ⟨j, by omega, e⟩
      · rintro ⟨j, hj, e⟩
        by_cases hjm : j = m
        · subst hjm; exact ⟨j - 1, by omega, by rw [← hm0.2]; exact e⟩
        · exact ⟨j, by omega, e⟩
/-- What the library makes of texts: sorted, then compacted: their words. -/
theorem words_of_sorted (l : List ByteArray) :
    IsWords ((Lib.compact ((l.map fun s => s.data.toList).mergeSort (fun x y => decide (x ≤ y)))).map fun a => ⟨a.toArray⟩) l := by
  have tr : ∀ a b c : List UInt8, decide (a ≤ b) = true → decide (b ≤ c) = true → decide (a ≤ c) = true := fun a b c h1 h2 => by simp only [decide_eq_true_eq] at *; exact List.le_trans h1 h2
  have tot : ∀ a b : List UInt8, (decide (a ≤ b) || decide (b ≤ a)) = true := fun a b => by simp only [Bool.or_eq_true, decide_eq_true_eq]; exact List.le_total a b
  obtain ⟨z, hz⟩ : ∃ z, z = (l.map fun s => s.data.toList).mergeSort (fun x y => decide (x ≤ y)) := ⟨_, rfl⟩
  rw [← hz]
  have hp : z.Pairwise fun a b => decide (a ≤ b) = true := hz ▸ List.pairwise_mergeSort tr tot _
  have hperm : z.Perm (l.map fun s => s.data.toList) := hz ▸ List.mergeSort_perm _ _
  have hs : ∀ i, i + 1 < z.toArray.size → z.toArray[i]! ≤ z.toArray[i + 1]! := fun i hi => by
    have hi' : i + 1 < z.length := by simpa using hi
    rw [getElem!_pos z.toArray i (by simpa using (by omega : i < z.length)), getElem!_pos z.toArray (i + 1) hi]
    simpa using List.pairwise_iff_getElem.1 hp i (i + 1) (by omega) hi' (by omega)
  obtain ⟨h1, h2, _⟩ := compact_upto hs z.toArray.size (Nat.le_refl _)
  have hmem : ∀ x, x ∈ Lib.compact z ↔ x ∈ z := fun x => by
    unfold Lib.compact
    rw [show z.length = z.toArray.size from by simp, h2]
    constructor
    · rintro ⟨j, hj, e⟩
      rw [getElem!_pos z.toArray j hj] at e
      rw [← e]
      simp
    · intro hx
      obtain ⟨j, hj, e⟩ := List.mem_iff_getElem.1 hx
      exact ⟨j, by simpa using hj, by rw [getElem!_pos z.toArray j (by simpa using hj)]; simpa using e⟩
  refine ⟨?_, fun x => ?_⟩
  · unfold Rising
    rw [List.pairwise_map]
    refine List.Pairwise.imp (fun {a b} hab => ?_) (show (Lib.compact z).Pairwise (· < ·) from by unfold Lib.compact; simpa using h1)
    simpa using hab
  · rw [List.mem_map]
    constructor
    · rintro ⟨a, ha, rfl⟩
      obtain ⟨s, hs1, rfl⟩ := List.mem_map.1 (hperm.mem_iff.1 ((hmem a).1 ha))
      rw [key_back]; exact hs1
    · intro hx
      exact ⟨x.data.toList, (hmem _).2 (hperm.mem_iff.2 (List.mem_map_of_mem hx)), key_back x⟩

/-- A text's place among others; -1: it is not there. -/
def PlaceAt (l : List ByteArray) (s : ByteArray) (r : Int) : Prop := (∃ j : Nat, r = j ∧ l[j]? = some s) ∨ (r = -1 ∧ s ∉ l)
theorem nodup_get {α : Type} {W : List α} (h : W.Nodup) {i j : Nat} {s : α} (hi : W[i]? = some s) (hj : W[j]? = some s) : i = j := by
  obtain ⟨h1, e1⟩ := List.getElem?_eq_some_iff.1 hi
  obtain ⟨h2, e2⟩ := List.getElem?_eq_some_iff.1 hj
  exact (List.getElem_inj h).1 (e1.trans e2.symm)
theorem PlaceAt.unique {W : List ByteArray} (h : W.Nodup) {s : ByteArray} {a b : Int} (ha : PlaceAt W s a) (hb : PlaceAt W s b) : a = b := by
  rcases ha with ⟨i, rfl, hi⟩ | ⟨rfl, hi⟩ <;> rcases hb with ⟨j, rfl, hj⟩ | ⟨rfl, hj⟩
  · rw [nodup_get h hi hj]
  · exact absurd (List.mem_of_getElem? hi) hj
  · exact absurd (List.mem_of_getElem? hj) hi
  · rfl
/-- The places of texts among their words. -/
def idxT {α : Type} [DecidableEq α] (W : List α) (s : α) : Nat := W.idxOf s
theorem idxT_lt {α : Type} [DecidableEq α] {W : List α} {s : α} (h : s ∈ W) : idxT W s < W.length := List.idxOf_lt_length_of_mem h
theorem idxT_get {α : Type} [DecidableEq α] {W : List α} {s : α} (h : s ∈ W) : W[idxT W s]? = some s := by
  have h1 := List.getElem_idxOf (List.idxOf_lt_length_of_mem h)
  rw [List.getElem?_eq_getElem (idxT_lt h)]
  exact congrArg some h1
def placesT (W l : List ByteArray) : List Int := l.map fun s => (idxT W s : Int)
theorem placeAt_idx {W : List ByteArray} {s : ByteArray} (h : s ∈ W) : PlaceAt W s (idxT W s : Nat) := .inl ⟨_, rfl, idxT_get h⟩
/-- A text's bytes, as numbers; texts one behind the other; how many bytes each has. -/
def bytesT (s : ByteArray) : List Int := s.data.toList.map fun u => (u.toNat : Int)
def catT (l : List ByteArray) : List Int := l.flatMap bytesT
def lensT (l : List ByteArray) : List Int := l.map fun s => (s.size : Int)
theorem bytesT_len (s : ByteArray) : (bytesT s).length = s.size := by unfold bytesT; rw [List.length_map, Array.length_toList]; rfl
theorem bytesT_u8 (s : ByteArray) : U8 (bytesT s) := fun x hx => by
  obtain ⟨u, _, rfl⟩ := List.mem_map.1 hx
  have := u.toNat_lt
  omega
theorem catT_u8 (l : List ByteArray) : U8 (catT l) := fun x hx => by
  obtain ⟨s, _, h⟩ := List.mem_flatMap.1 hx
  exact bytesT_u8 s x h
theorem catT_len {l : List ByteArray} {m : Nat} (h : ∀ s ∈ l, s.size ≤ m) : (catT l).length ≤ l.length * m := by
  induction l with
  | nil => simp [catT]
  | cons s r ih =>
    have h1 := ih fun x hx => h x (List.mem_cons_of_mem _ hx)
    have h2 := h s List.mem_cons_self
    have e : catT (s :: r) = bytesT s ++ catT r := by simp [catT]
    rw [e, List.length_append, bytesT_len, List.length_cons, Nat.succ_mul]
    omega
/-- One text more, put where it stands. -/
theorem shift_step {α : Type} (O : List α) (x : α) (k : Nat) (hk : k < O.length) :
    ((O.take (k + 1) ++ x :: O.drop (k + 1)).set (k + 1) O[k]).set k x = O.take k ++ x :: O.drop k := by
  have e1 : O.take (k + 1) = O.take k ++ [O[k]] := by rw [List.take_succ_eq_append_getElem hk]
  have e2 : O.drop k = O[k] :: O.drop (k + 1) := List.drop_eq_getElem_cons hk
  have hl : (O.take k).length = k := by rw [List.length_take]; omega
  rw [e2, e1, List.append_assoc, List.set_append_right _ _ (by omega), hl, show k + 1 - k = 1 from by omega, List.set_append_right _ _ (by omega), hl, Nat.sub_self]
  rfl
theorem rising_insert {O : List ByteArray} {x : ByteArray} {k : Nat} (h : Rising O) (hk : k ≤ O.length) (hx : x ∉ O) (hhi : ∀ y ∈ O.drop k, x.data.toList < y.data.toList)
    (hlo : ∀ (j : Nat) (y : ByteArray), k = j + 1 → O[j]? = some y → ¬ x.data.toList < y.data.toList) : Rising (O.take k ++ x :: O.drop k) := by
  have hO : Rising (O.take k ++ O.drop k) := by rw [List.take_append_drop]; exact h
  obtain ⟨h1, h2, h3⟩ := List.pairwise_append.1 hO
  refine List.pairwise_append.2 ⟨h1, List.pairwise_cons.2 ⟨hhi, h2⟩, fun a ha b hb => ?_⟩
  rcases List.mem_cons.1 hb with rfl | hb
  · cases k with
    | zero => simp at ha
    | succ j =>
      have hj : j < O.length := by omega
      have hy := hlo j O[j] rfl (List.getElem?_eq_getElem hj)
      have hne : O[j].data.toList ≠ b.data.toList := fun e => hx (key_inj e ▸ List.getElem_mem hj)
      have hlt : O[j].data.toList < b.data.toList := by
        rcases List.le_iff_lt_or_eq.1 (List.not_lt.1 hy) with h | h
        · exact h
        · exact absurd h hne
      obtain ⟨i, hi, rfl⟩ := List.mem_iff_getElem.1 ha
      rw [List.length_take] at hi
      rw [List.getElem_take]
      by_cases e : i = j
      · subst e; exact hlt
      · exact List.lt_trans (List.pairwise_iff_getElem.1 h i j (by omega) hj (by omega)) hlt
  · exact h3 a ha b hb
end Go.Proofs.YtmejoococajikaaGreat

/- Plain laws: a head is read as it was laid down. -/
namespace Go.Proofs.YtmejoococajikaaGreat
open Go.RowKit

theorem look_head (c n : Int) (r : List Int) (hc : 0 ≤ c ∧ c ≤ 31) (hn : 1 ≤ n ∧ n ≤ 512) (k : Int) (hk : 0 ≤ k ∧ k ≤ 3) : lookR (headR k c n ++ r) = (k, c, n, r, 0) := by
  unfold headR
  rw [if_pos (by omega)]
  unfold lookR
  rw [if_neg (by simp)]
  simp only [List.cons_append, List.nil_append, List.getD_cons_zero, List.getD_cons_succ, List.drop_succ_cons, List.drop_zero]
  generalize hx : 16384 * k + 512 * c + n - 1 = x
  refine Prod.ext ?_ (Prod.ext ?_ (Prod.ext ?_ rfl)) <;> dsimp only <;> omega
theorem head_u8 (k c n : Int) : U8 (headR k c n) ∧ (headR k c n).length ≤ 2 := by
  unfold headR
  split
  · refine ⟨fun x hx => ?_, by simp⟩
    rcases List.mem_cons.1 hx with rfl | hx
    · omega
    · rw [List.mem_singleton.1 hx]; omega
  · exact ⟨fun x hx => by (cases hx), by simp⟩
end Go.Proofs.YtmejoococajikaaGreat

/- Plain laws: numbers that were laid down as they are are taken back. -/
namespace Go.Proofs.YtmejoococajikaaGreat
open Go.RowKit

theorem madeL_cases (l : List Int) (s : Bool) : ∃ u e, madeL l s = (u, e) ∧ ((e = 0 ∧ u.length = l.length ∧ (U64 l → I64 u)) ∨ (e = 2 ∧ u = [])) := by
  unfold madeL
  cases s
  · rw [if_neg (by simp)]
    unfold mapOk
    split
    · rename_i h
      refine ⟨_, _, rfl, .inl ⟨rfl, by simp, fun hi x hx => ?_⟩⟩
      rw [List.map_id] at hx
      have h1 := hi x hx
      have h2 := List.all_eq_true.1 h x hx
      simp at h2
      omega
    · exact ⟨_, _, rfl, .inr ⟨rfl, rfl⟩⟩
  · rw [if_pos rfl]
    unfold mapOk
    rw [if_pos (by simp)]
    refine ⟨_, _, rfl, .inl ⟨rfl, by simp, fun hi x hx => ?_⟩⟩
    obtain ⟨y, hy, rfl⟩ := List.mem_map.1 hx
    exact zag_range y (hi y hy).1 (hi y hy).2
theorem takeD_good (b : List Int) (s : Bool) : I64 (takeD b s).1 ∧ (takeD b s).1.length ≤ 4096 := by
  unfold takeD
  split
  · exact ⟨fun x hx => by (cases hx), by simp⟩
  · split
    · exact ⟨fun x hx => by (cases hx), by simp⟩
    · split
      · exact ⟨fun x hx => by (cases hx), by simp⟩
      · have h1 := unpackR_u64 (lookR b).2.2.2.1 (lookR b).2.2.1 (wOf (lookR b).2.1)
        have h2 := unpackR_len (lookR b).2.2.2.1 (lookR b).2.2.1 (wOf (lookR b).2.1)
        generalize (unpackR (lookR b).2.2.2.1 (lookR b).2.2.1 (wOf (lookR b).2.1)).1 = u at *
        obtain ⟨p, e, h3, h4⟩ := madeL_cases u s
        rw [h3]
        rcases h4 with ⟨_, h5, h6⟩ | ⟨_, rfl⟩
        · exact ⟨h6 h1, by dsimp only; omega⟩
        · exact ⟨fun x hx => by (cases hx), by simp⟩
theorem wOf_code (b : Int) (h0 : 0 ≤ b) (h : b ≤ 64) : wOf (wCode (wClosest b)) = wClosest b ∧ 0 ≤ wCode (wClosest b) ∧ wCode (wClosest b) ≤ 31 := by
  obtain ⟨w, hw⟩ : ∃ w, w = wClosest b := ⟨_, rfl⟩
  obtain ⟨c, hc⟩ : ∃ c, c = wCode w := ⟨_, rfl⟩
  obtain ⟨v, hv⟩ : ∃ v, v = wOf c := ⟨_, rfl⟩
  rw [← hw, ← hc, ← hv]
  unfold wClosest at hw
  unfold wCode at hc
  have r2 : 0 ≤ c ∧ c ≤ 31 := by omega
  refine ⟨?_, r2⟩
  unfold wOf at hv
  omega
def keepB (s : Bool) (x : Int) : Bool := s || decide (0 ≤ x)
theorem plain_made (l : List Int) (s : Bool) (hi : I64 l) (hk : l.all (keepB s) = true) : ∃ u, plainL l s = (u, 0) ∧ U64 u ∧ u.length = l.length ∧ madeL u s = (l, 0) := by
  cases s
  · have h1 : ∀ x ∈ l, 0 ≤ x := fun x hx => by
      have := List.all_eq_true.1 hk x hx
      simpa [keepB] using this
    refine ⟨l, ?_, fun x hx => by have := hi x hx; have := h1 x hx; omega, rfl, ?_⟩
    · unfold plainL mapOk
      rw [if_neg (by simp), if_pos (List.all_eq_true.2 fun x hx => decide_eq_true (h1 x hx)), List.map_id]
    · unfold madeL mapOk
      rw [if_neg (by simp), if_pos (List.all_eq_true.2 fun x hx => decide_eq_true (hi x hx).2), List.map_id]
  · refine ⟨l.map zig, ?_, fun x hx => ?_, by simp, ?_⟩
    · unfold plainL mapOk
      rw [if_pos rfl, if_pos (by simp)]
    · obtain ⟨y, hy, rfl⟩ := List.mem_map.1 hx
      exact zig_range y (hi y hy).1 (hi y hy).2
    · unfold madeL mapOk
      rw [if_pos rfl, if_pos (by simp), List.map_map]
      congr 1
      conv => rhs; rw [← List.map_id l]
      exact List.map_congr_left fun x _ => zag_zig x
theorem putD_back (l : List Int) (s : Bool) (hi : I64 l) (hk : l.all (keepB s) = true) (h1 : 1 ≤ l.length) (h2 : l.length ≤ 512) :
    ∃ p, putD l s = (p, 0) ∧ U8 p ∧ p.length ≤ 5000 ∧ ∀ behind, takeD (p ++ behind) s = (l, behind, 0) := by
  obtain ⟨u, hp, hu, hl, hm⟩ := plain_made l s hi hk
  obtain ⟨k, hk0, hk1, hk2, hroom⟩ := most_room u hu
  have hm64 := mostBits_le u hu
  have hcode := wOf_code (mostBits u) (by omega) (by omega)
  rw [hk0] at hcode
  have hbits : u.length * k ≤ 512 * 64 := Nat.mul_le_mul (by omega) hk2
  obtain ⟨q, hq, hq8, hql, _⟩ := pack_back u [] k hk2 (by omega) hu hroom
  refine ⟨headR 1 (wCode k) l.length ++ q, ?_, ?_, ?_, fun behind => ?_⟩
  · unfold putD
    rw [hp]
    dsimp only
    rw [if_neg (by omega), hk0, hq]
  · intro x hx
    rcases List.mem_append.1 hx with hx | hx
    · exact (head_u8 _ _ _).1 x hx
    · exact hq8 x hx
  · rw [List.length_append]
    have := (head_u8 1 (wCode k) l.length).2
    omega
  · obtain ⟨q', hq', _, _, hun⟩ := pack_back u behind k hk2 (by omega) hu hroom
    have e : q' = q := by rw [hq] at hq'; injection hq' with h _; exact h.symm
    subst e
    unfold takeD
    rw [List.append_assoc, look_head (wCode k) l.length (q' ++ behind) hcode.2 (by omega) 1 (by omega)]
    dsimp only
    rw [hcode.1, ← hl, hun]
    dsimp only
    rw [hm]
    simp
end Go.Proofs.YtmejoococajikaaGreat

/- Rle: plain: a run is the shortest one; where it is cut; all runs. -/
namespace Go.Proofs.YtmejoococajikaaGreat
open Go.RowKit

/-- The run of kind c. -/
def candR (l : List Int) (s : Bool) (c : Nat) : List Int × Int :=
  if c = 0 then timesR l s else if c = 1 then putD l s else if c = 2 then putDe l s else putPa l (wOf ((c - 3 : Nat) : Int)) s
def shortR (o : List Int) (q : List Int × Int) : List Int := if q.2 = 0 ∧ (o = [] ∨ q.1.length < o.length) then q.1 else o
def runK (l : List Int) (s : Bool) : Nat → List Int
  | 0 => []
  | c + 1 => shortR (runK l s c) (candR l s c)
def badRun (l : List Int) (s : Bool) : Bool := decide (l.length < 1) || decide (512 < l.length) || (!s && l.any fun y => decide (y < 0))
/-- One run. -/
def runR (l : List Int) (s : Bool) : List Int × Int := if badRun l s then ([], 1) else (runK l s 34, 0)
theorem putD_ne (l : List Int) (s : Bool) (hu : I64 l) (p : List Int) (h : putD l s = (p, 0)) : 1 ≤ p.length := by
  unfold putD at h
  split at h
  · injection h with _ h; cases h
  · rename_i hb
    injection h with h _
    subst h
    obtain ⟨u, e, hpl, hcase⟩ := plainL_cases l s
    rw [hpl] at hb ⊢
    rcases hcase with ⟨rfl, hul, hu6⟩ | ⟨rfl, rfl⟩
    · obtain ⟨k, hk, hk1, hk2, hroom⟩ := most_room u (hu6 hu)
      have hb2 : ¬ l.length < 1 ∧ ¬ 512 < l.length := by
        refine ⟨fun h => hb (.inr (.inl h)), fun h => hb (.inr (.inr h))⟩
      rw [List.length_append]
      dsimp only
      have h64 := mostBits_le u (hu6 hu)
      have hw := wOf_code (mostBits u) (by omega) (by omega)
      unfold headR
      rw [if_pos (by omega)]
      simp only [List.length_cons]
      omega
    · exact absurd (.inl (by decide)) hb
theorem cand_ne (l : List Int) (s : Bool) (hu : I64 l) (c : Nat) (p : List Int) (h : candR l s c = (p, 0)) : 1 ≤ p.length := by
  unfold candR at h
  split at h
  · unfold timesR at h
    split at h
    · unfold putR at h
      split at h
      · injection h with _ h; cases h
      · injection h with h _; subst h; simp
    · injection h with _ h; cases h
  · split at h
    · exact putD_ne l s hu p h
    · split at h
      · unfold putDe at h
        split at h
        · injection h with _ h; cases h
        · injection h with h _; subst h
          simp only [List.length_append]
          have := (vput_len 9 (unsN (dAt l 0) true)).1
          unfold vput
          omega
      · unfold putPa at h
        split at h
        · injection h with _ h; cases h
        · injection h with h _; subst h
          simp only [List.length_append, twoPa, List.length_cons]
          omega
end Go.Proofs.YtmejoococajikaaGreat

/- Rle: plain: how long a run is; all runs. -/
namespace Go.Proofs.YtmejoococajikaaGreat
open Go.RowKit

theorem putD_len (l : List Int) (s : Bool) (hu : I64 l) (p : List Int) (h : putD l s = (p, 0)) : 2 ≤ p.length ∧ p.length ≤ 2 + 8 * l.length := by
  unfold putD at h
  split at h
  · injection h with _ h; cases h
  · rename_i hb
    injection h with h _
    subst h
    obtain ⟨u, e, hpl, hcase⟩ := plainL_cases l s
    rw [hpl] at hb ⊢
    rcases hcase with ⟨rfl, hul, hu6⟩ | ⟨rfl, rfl⟩
    · obtain ⟨k, hk, hk1, hk2, hroom⟩ := most_room u (hu6 hu)
      have hb2 : ¬ l.length < 1 ∧ ¬ 512 < l.length := by
        refine ⟨fun h => hb (.inr (.inl h)), fun h => hb (.inr (.inr h))⟩
      obtain ⟨p, hp, hpl2⟩ := packR_ok u k (by omega) (by omega) hroom
      have h64 := mostBits_le u (hu6 hu)
      have hw := wOf_code (mostBits u) (by omega) (by omega)
      have hh : (headR 1 (wCode (wClosest (mostBits u))) l.length).length = 2 := by
        unfold headR
        rw [if_pos (by omega)]
        rfl
      rw [List.length_append]
      dsimp only
      rw [hh, hk, hp]
      dsimp only
      rw [hpl2, hul]
      have : l.length * k ≤ l.length * 64 := Nat.mul_le_mul_left _ hk2
      omega
    · exact absurd (.inl (by decide)) hb
theorem putD_ok (l : List Int) (s : Bool) (h : badRun l s = false) : ∃ p, putD l s = (p, 0) := by
  unfold badRun at h
  simp only [Bool.or_eq_false_iff, decide_eq_false_iff_not] at h
  obtain ⟨pu, pe, hpl, hpc⟩ := plain_err l s
  unfold putD
  rw [hpl]
  rcases hpc with ⟨rfl, _⟩ | ⟨rfl, hneg⟩
  · rw [if_neg (by rintro (h1 | h1 | h1); exact absurd rfl h1; exact h.1.1 h1; exact h.1.2 h1)]
    exact ⟨_, rfl⟩
  · rw [hneg] at h
    cases h.2
theorem putD_no (l : List Int) (s : Bool) (h : badRun l s = true) : putD l s = ([], 1) := by
  obtain ⟨pu, pe, hpl, hpc⟩ := plain_err l s
  unfold putD
  rw [hpl]
  rw [if_pos]
  unfold badRun at h
  rcases hpc with ⟨rfl, hn⟩ | ⟨rfl, hneg⟩
  · rw [hn, Bool.or_false] at h
    simp only [Bool.or_eq_true, decide_eq_true_eq] at h
    exact .inr h
  · exact .inl (show (1 : Int) ≠ 0 by decide)
theorem putDe_no (l : List Int) (s : Bool) (h : badRun l s = true) : putDe l s = ([], 1) := by
  unfold putDe
  rw [if_pos]
  unfold badRun at h
  unfold badDe
  simp only [Bool.or_eq_true, decide_eq_true_eq, Bool.and_eq_true, Bool.not_eq_true'] at h
  rcases h with (h | h) | h
  · exact .inl (by omega)
  · exact .inr (.inl h)
  · exact .inr (.inr (.inl h))
theorem cand_two (l : List Int) (s : Bool) (hu : I64 l) (c : Nat) (p : List Int) (h : candR l s c = (p, 0)) : 2 ≤ p.length := by
  unfold candR at h
  split at h
  · unfold timesR at h
    split at h
    · unfold putR at h
      split at h
      · injection h with _ h; cases h
      · injection h with h _; subst h
        rw [List.length_cons, hiB_len]
        unfold longN
        omega
    · injection h with _ h; cases h
  · split at h
    · exact (putD_len l s hu p h).1
    · split at h
      · unfold putDe at h
        split at h
        · injection h with _ h; cases h
        · injection h with h _; subst h
          simp only [List.length_append]
          have h1 := (vput_len 9 (unsN (dAt l 0) true)).1
          have h2 := (vput_len 9 (unsN (l.getD 0 0) s)).1
          unfold vput
          omega
      · unfold putPa at h
        split at h
        · injection h with _ h; cases h
        · injection h with h _; subst h
          simp only [List.length_append, twoPa, List.length_cons]
          omega
theorem shortR_ne (o : List Int) (q : List Int × Int) (hq : q.2 = 0 → 1 ≤ q.1.length) (h : o ≠ []) : shortR o q ≠ [] ∧ (shortR o q).length ≤ o.length := by
  unfold shortR
  split
  · rename_i h1
    have := hq h1.1
    refine ⟨fun h2 => by rw [h2] at this; simp at this, ?_⟩
    rcases h1.2 with h2 | h2
    · exact absurd h2 h
    · omega
  · exact ⟨h, Nat.le_refl _⟩
theorem shortR_to (o p : List Int) (hq : 1 ≤ p.length) : shortR o (p, 0) ≠ [] ∧ (shortR o (p, 0)).length ≤ p.length := by
  unfold shortR
  split
  · refine ⟨fun h2 => ?_, Nat.le_refl _⟩
    dsimp only at h2
    rw [h2] at hq
    simp at hq
  · rename_i h
    dsimp only at h
    exact ⟨fun h1 => h ⟨rfl, .inl h1⟩, Nat.le_of_not_lt fun h1 => h ⟨rfl, .inr h1⟩⟩
theorem runK_le (l : List Int) (s : Bool) (hu : I64 l) (j : Nat) (p : List Int) (h : candR l s j = (p, 0)) : ∀ d, runK l s (j + 1 + d) ≠ [] ∧ (runK l s (j + 1 + d)).length ≤ p.length := by
  intro d
  induction d with
  | zero =>
    show shortR (runK l s j) (candR l s j) ≠ [] ∧ (shortR (runK l s j) (candR l s j)).length ≤ p.length
    rw [h]
    exact shortR_to _ _ (cand_ne l s hu j p h)
  | succ d ih =>
    have h1 := shortR_ne (runK l s (j + 1 + d)) (candR l s (j + 1 + d)) (fun he => cand_ne l s hu (j + 1 + d) _ (by rw [← he])) ih.1
    exact ⟨h1.1, Nat.le_trans h1.2 ih.2⟩
theorem runK_is (l : List Int) (s : Bool) : ∀ c, runK l s c = [] ∨ ∃ j, j < c ∧ candR l s j = (runK l s c, 0) := by
  intro c
  induction c with
  | zero => exact .inl rfl
  | succ c ih =>
    have h : runK l s (c + 1) = shortR (runK l s c) (candR l s c) := rfl
    unfold shortR at h
    split at h
    · rename_i h1
      right
      refine ⟨c, Nat.lt_succ_self c, ?_⟩
      rw [h, ← h1.1]
    · rw [h]
      rcases ih with h2 | ⟨j, hj, h2⟩
      · exact .inl h2
      · exact .inr ⟨j, by omega, h2⟩
/-- A run is what one of the kinds is. -/
theorem run_ok (l : List Int) (s : Bool) (hu : I64 l) (h : badRun l s = false) : ∃ q, runR l s = (q, 0) ∧ 2 ≤ q.length ∧ q.length ≤ 2 + 8 * l.length ∧ (∃ j, j < 34 ∧ candR l s j = (q, 0)) ∧ ∀ j p, j < 34 → candR l s j = (p, 0) → q.length ≤ p.length := by
  have h0 : runR l s = (runK l s 34, 0) := by unfold runR; rw [h]; rfl
  obtain ⟨p, hp⟩ := putD_ok l s h
  have hc : candR l s 1 = (p, 0) := by unfold candR; rw [if_neg (by omega), if_pos rfl]; exact hp
  have h1 := runK_le l s hu 1 p hc 32
  have h2 := putD_len l s hu p hp
  rcases runK_is l s 34 with h3 | ⟨j, hj, h3⟩
  · exact absurd h3 h1.1
  · refine ⟨_, h0, cand_two l s hu j _ h3, Nat.le_trans h1.2 h2.2, ⟨j, hj, h3⟩, fun j p hj hp => ?_⟩
    have h4 := (runK_le l s hu j p hp (33 - j)).2
    rwa [show j + 1 + (33 - j) = 34 from by omega] at h4
theorem run_cases (l : List Int) (s : Bool) (hu : I64 l) : runR l s = ([], 1) ∨ ∃ q, runR l s = (q, 0) ∧ q.length ≤ 2 + 8 * l.length := by
  cases h : badRun l s
  · obtain ⟨q, h1, _, h2, _⟩ := run_ok l s hu h
    exact .inr ⟨q, h1, h2⟩
  · left
    unfold runR
    rw [h]
    rfl
/-- All runs. -/
def putF (s : Bool) : Nat → List Int → List Int → List Int × Int
  | 0, out, _ => (out, 0)
  | f + 1, out, l => if l.length = 0 then (out, 0)
    else if (runR (l.take (cutL l)) s).2 ≠ 0 then ([], (runR (l.take (cutL l)) s).2)
    else putF s f (out ++ (runR (l.take (cutL l)) s).1) (l.drop (cutL l))
def putGl (l : List Int) (s : Bool) : List Int × Int := if 4096 < l.length then ([], 3) else putF s (l.length + 1) [] l
end Go.Proofs.YtmejoococajikaaGreat

/- Texts: numbers that are not below zero are laid down without a refusal. -/
namespace Go.Proofs.YtmejoococajikaaGreat
open Go.RowKit

theorem badRun_nn (l : List Int) (h : ∀ y ∈ l, 0 ≤ y) (h1 : 1 ≤ l.length) (h2 : l.length ≤ 512) : badRun l false = false := by
  unfold badRun
  rw [decide_eq_false (by omega), decide_eq_false (by omega), Bool.or_self, Bool.false_or]
  have : (l.any fun y => decide (y < 0)) = false := by
    rw [List.any_eq_false]
    intro y hy
    have := h y hy
    simp; omega
  rw [this, Bool.and_false]
theorem putF_nn : ∀ (f : Nat) (l out : List Int), I64 l → (∀ y ∈ l, 0 ≤ y) → (putF false f out l).2 = 0
  | 0, l, out, _, _ => rfl
  | f + 1, l, out, hu, h => by
    rw [putF]
    split
    · rfl
    · have hc := cutL_range l (by omega)
      obtain ⟨q, hq, _⟩ := run_ok (l.take (cutL l)) false (fun y hy => hu y (List.mem_of_mem_take hy)) (badRun_nn _ (fun y hy => h y (List.mem_of_mem_take hy)) (by rw [List.length_take]; omega) (by rw [List.length_take]; omega))
      rw [hq, if_neg (by simp)]
      exact putF_nn f _ _ (fun y hy => hu y (List.mem_of_mem_drop hy)) (fun y hy => h y (List.mem_of_mem_drop hy))
theorem putGl_nn (l : List Int) (hu : I64 l) (h : ∀ y ∈ l, 0 ≤ y) (hn : l.length ≤ 4096) : (putGl l false).2 = 0 := by
  unfold putGl
  rw [if_neg (by omega)]
  exact putF_nn _ _ _ hu h
theorem placesT_nn (W l : List ByteArray) : ∀ y ∈ placesT W l, 0 ≤ y := fun y hy => by
  obtain ⟨s, _, rfl⟩ := List.mem_map.1 hy
  omega
theorem placesT_i64 {W l : List ByteArray} (h : ∀ s ∈ l, s ∈ W) (hW : W.length ≤ 1000000) : I64 (placesT W l) := fun y hy => by
  obtain ⟨s, hs, rfl⟩ := List.mem_map.1 hy
  have := idxT_lt (h s hs)
  omega
theorem placesT_len (W l : List ByteArray) : (placesT W l).length = l.length := by unfold placesT; rw [List.length_map]
end Go.Proofs.YtmejoococajikaaGreat

/- Plain law: numbers laid down by how much they rise or fall are taken as they were. -/
namespace Go.Proofs.YtmejoococajikaaGreat
open Go.RowKit

theorem stepR_back (a d : Int) (fl : Bool) (ha : I64x a) (hb : I64x (a + d)) (hd : absI d < 9223372036854775808) (hf : d = 0 ∨ decide (d < 0) = fl) : stepR a (absI d) fl = (a + d, true) := by
  unfold stepR
  unfold I64x at ha hb
  rw [if_neg (by omega)]
  unfold absI at hd ⊢
  rcases hf with rfl | hf
  · cases fl
    · rw [if_neg (by simp), if_neg (by simp; omega)]; simp
    · rw [if_pos rfl, if_neg (by simp; omega)]; simp
  · by_cases h : d < 0
    · rw [decide_eq_true h] at hf
      subst hf
      rw [if_pos rfl, if_pos h, if_neg (by omega), show a - -d = a + d from by omega]
    · rw [decide_eq_false h] at hf
      subst hf
      rw [if_neg (by simp), if_neg h, if_neg (by omega)]
theorem steps_back (l : List Int) (hu : I64 l) (m : Nat) (hm : m + 1 = l.length) (hok : okD l m = true) : ∀ k j : Nat, j + k = m → stepsDe (decide (dAt l 0 < 0)) true (l.getD j 0) ((dsz l m).drop j) = some (l.drop (j + 1)) := by
  intro k
  induction k with
  | zero =>
    intro j hj
    rw [List.drop_eq_nil_of_le (by rw [dsz_len]; omega), List.drop_eq_nil_of_le (by omega), stepsDe_nil]
  | succ k ih =>
    intro j hj
    have hd : (dsz l m).getD j 0 = absI (dAt l j) := by
      simp [dsz, List.getD, List.getElem?_map, List.getElem?_range (show j < m by omega)]
    have hoj := List.all_eq_true.1 hok j (List.mem_range.2 (by omega))
    unfold okAt at hoj
    simp only [Bool.and_eq_true, decide_eq_true_eq, Bool.or_eq_true, beq_iff_eq] at hoj
    have hs : l.getD j 0 + dAt l j = l.getD (j + 1) 0 := by unfold dAt; omega
    have hst := stepR_back (l.getD j 0) (dAt l j) (decide (dAt l 0 < 0)) (getD_i64x hu j) (by rw [hs]; exact getD_i64x hu (j + 1)) hoj.1 hoj.2
    rw [hs] at hst
    rw [drop_cons _ j (by rw [dsz_len]; omega), hd]
    simp only [stepsDe]
    rw [hst, if_pos (by simp)]
    dsimp only
    rw [ih (j + 1) (by omega), drop_cons l (j + 1) (by omega)]
    rfl
theorem same_rep (l : List Int) (m : Nat) (h : sameD l m = true) : List.replicate m (absI (dAt l 0)) = dsz l m := by
  apply List.ext_getElem?
  intro i
  rcases Nat.lt_or_ge i m with hi | hi
  · have := List.all_eq_true.1 h i (List.mem_range.2 hi)
    simp only [decide_eq_true_eq] at this
    simp [dsz, hi, this]
  · rw [List.getElem?_eq_none (by simpa using hi), List.getElem?_eq_none (by rw [dsz_len]; exact hi)]
theorem wOf_closest (b : Int) (h1 : 2 ≤ b) (h2 : b ≤ 64) : 0 < wCode (wClosest b) ∧ wCode (wClosest b) ≤ 31 ∧ wOf (wCode (wClosest b)) = wClosest b := by
  obtain ⟨h3, h4, h5⟩ := wOf_code b (by omega) h2
  have h6 := wClosest_room b (by omega) h2
  refine ⟨?_, h5, h3⟩
  rcases Int.lt_or_le 0 (wCode (wClosest b)) with h | h
  · exact h
  · have h7 : wCode (wClosest b) = 0 := by omega
    rw [h7] at h3
    have h8 : wOf 0 = 1 := by decide
    omega

theorem de_back (l : List Int) (hu : I64 l) (h2 : 2 ≤ l.length) (h5 : l.length ≤ 512) (hok : okD l (l.length - 1) = true) (q : List Int) : takeDe ((putDe l true).1 ++ q) true = (l, q, 0) := by
  have hbd : ¬ badDe l true := by
    unfold badDe
    rw [hok]
    rintro (h | h | ⟨h, _⟩ | h)
    · omega
    · omega
    · cases h
    · cases h
  unfold putDe
  rw [if_neg hbd]
  dsimp only
  have hd0 := dAt0_range l (l.length - 1) (by omega) hok
  have hx0 := getD_i64x hu 0
  have hsteps := steps_back l hu (l.length - 1) (by omega) hok (l.length - 1) 0 (by omega)
  rw [List.drop_zero] at hsteps
  have hl : l.getD 0 0 :: l.drop (0 + 1) = l := by rw [← drop_cons l 0 (by omega), List.drop_zero]
  have hdiff : diffR 0 (dAt l 0) = (absI (dAt l 0), decide (dAt l 0 < 0), true) := by
    rw [diffR_eq, Int.sub_zero, if_neg (by omega)]
  cases hsm : sameD l (l.length - 1)
  · have htd : tailDe l = (dsz l (l.length - 1)).drop 1 := by unfold tailDe; rw [hsm]; rfl
    have hwd : widthDe l = wClosest (max 2 (mostBits ((dsz l (l.length - 1)).drop 1) : Int)) := by unfold widthDe; rw [hsm]; rfl
    have hcd : codeDe l = wCode (widthDe l) := by unfold codeDe; rw [hsm]; rfl
    have hut := tail_u64 l (l.length - 1) hok
    obtain ⟨K, hkw, hk2, hk64, hroom⟩ := most2_room _ hut
    have hmm := mostBits_le _ hut
    have hcl := wOf_closest (max 2 (mostBits ((dsz l (l.length - 1)).drop 1) : Int)) (by omega) (by omega)
    rw [hkw] at hwd hcl
    have htl : ((dsz l (l.length - 1)).drop 1).length = l.length - 2 := by rw [List.length_drop, dsz_len]; omega
    obtain ⟨p, hp1, hp2, hp3, hp4⟩ := pack_back ((dsz l (l.length - 1)).drop 1) q K hk64 (by omega) hut hroom
    rw [hcd, hwd, htd, hp1]
    dsimp only
    rw [List.append_assoc, List.append_assoc, List.append_assoc]
    rw [takeDe_eq (look_head (wCode K) l.length _ (by omega) (by omega) 3 (by omega)) (takeI_put _ true hx0 (.inl rfl) _) (takeI_put _ true hd0.1 (.inl rfl) _) hdiff
      (show unpackR (p ++ q) ((l.length : Int) - 2) (wOf (wCode K)) = ((dsz l (l.length - 1)).drop 1, q, 0) from by rw [hcl.2.2, show ((l.length : Int) - 2) = (((dsz l (l.length - 1)).drop 1).length : Int) from by rw [htl]; omega]; exact hp4)]
    rw [if_neg (by omega), if_neg (by simp), if_neg (by simp), if_neg (by simp), if_neg (by simp), if_pos hcl.1, if_pos hcl.1]
    have hz : absI (dAt l 0) :: (dsz l (l.length - 1)).drop 1 = dsz l (l.length - 1) := by
      have h := drop_cons (dsz l (l.length - 1)) 0 (by rw [dsz_len]; omega)
      rw [List.drop_zero] at h
      rw [h]
      simp [dsz, List.getD, List.getElem?_map, List.getElem?_range (show 0 < l.length - 1 by omega)]
    rw [hz, hsteps]
    simp only [finDe]
    rw [hl]
  · have htd : tailDe l = [] := by unfold tailDe; rw [hsm]; rfl
    have hwd : widthDe l = 0 := by unfold widthDe; rw [hsm]; rfl
    have hcd : codeDe l = 0 := by unfold codeDe; rw [hsm]; rfl
    rw [hcd, hwd, htd, show (packR [] 0).1 = [] from rfl, List.append_nil, List.append_assoc, List.append_assoc]
    obtain ⟨L, r3, e3, h5'⟩ : ∃ L r3 e3, unpackR q ((l.length : Int) - 2) (wOf 0) = (L, r3, e3) := ⟨_, _, _, rfl⟩
    rw [takeDe_eq (look_head 0 l.length _ (by omega) (by omega) 3 (by omega)) (takeI_put _ true hx0 (.inl rfl) _) (takeI_put _ true hd0.1 (.inl rfl) _) hdiff h5']
    rw [if_neg (by omega), if_neg (by simp), if_neg (by simp), if_neg (by simp), if_neg (by simp), if_neg (by omega), if_neg (by omega), show ((l.length : Int) - 1).toNat = l.length - 1 from by omega, same_rep l _ hsm, hsteps]
    simp only [finDe]
    rw [hl]
theorem de_put (l : List Int) (h2 : 2 ≤ l.length) (h5 : l.length ≤ 512) : (putDe l true).2 = if okD l (l.length - 1) = true then 0 else 1 := by
  unfold putDe
  by_cases hok : okD l (l.length - 1) = true
  · rw [if_pos hok, if_neg]
    intro h
    unfold badDe at h
    rcases h with h | h | ⟨h, _⟩ | h
    · omega
    · omega
    · cases h
    · rw [hok] at h; cases h
  · rw [if_neg hok, if_pos]
    unfold badDe
    exact .inr (.inr (.inr (by simpa using hok)))
end Go.Proofs.YtmejoococajikaaGreat

/- Joined texts: PlainGp, TxP, TxQ. Each has its own head line. No condition beyond those that its theorems state. -/
import Derived.Lib.SlicesCompact
import Derived.Test.YtmejoococajikaaGreatJ29
import Derived.Test.YtmejoococajikaaGreatJ15
import Derived.Test.YtmejoococajikaaGreatJ23
import Derived.Test.YtmejoococajikaaGreatJ02
set_option linter.unusedVariables false

/- Rle: plain: how long a run is; all runs. -/
namespace Go.Proofs.YtmejoococajikaaGreat
open Go.RowKit

theorem putD_len (l : List Int) (s : Bool) (hu : I64 l) (p : List Int) (h : putD l s = (p, 0)) : 2 ≤ p.length ∧ p.length ≤ 2 + 8 * l.length := by
  unfold putD at h
  split at h
  · injection h with _ h; cases h
  · rename_i hb
    injection h with h _
    subst h
    obtain ⟨u, e, hpl, hcase⟩ := plainL_cases l s
    rw [hpl] at hb ⊢
    rcases hcase with ⟨rfl, hul, hu6⟩ | ⟨rfl, rfl⟩
    · obtain ⟨k, hk, hk1, hk2, hroom⟩ := most_room u (hu6 hu)
      have hb2 : ¬ l.length < 1 ∧ ¬ 512 < l.length := by
        refine ⟨fun h => hb (.inr (.inl h)), fun h => hb (.inr (.inr h))⟩
      obtain ⟨p, hp, hpl2⟩ := packR_ok u k (by omega) (by omega) hroom
      have h64 := mostBits_le u (hu6 hu)
      have hw := wOf_code (mostBits u) (by omega) (by omega)
      have hh : (headR 1 (wCode (wClosest (mostBits u))) l.length).length = 2 := by
        unfold headR
        rw [if_pos (by omega)]
        rfl
      rw [List.length_append]
      dsimp only
      rw [hh, hk, hp]
      dsimp only
      rw [hpl2, hul]
      have : l.length * k ≤ l.length * 64 := Nat.mul_le_mul_left _ hk2
      omega
    · exact absurd (.inl (by decide)) hb
theorem putD_ok (l : List Int) (s : Bool) (h : badRun l s = false) : ∃ p, putD l s = (p, 0) := by
  unfold badRun at h
  simp only [Bool.or_eq_false_iff, decide_eq_false_iff_not] at h
  obtain ⟨pu, pe, hpl, hpc⟩ := plain_err l s
  unfold putD
  rw [hpl]
  rcases hpc with ⟨rfl, _⟩ | ⟨rfl, hneg⟩
  · rw [if_neg (by rintro (h1 | h1 | h1); exact absurd rfl h1; exact h.1.1 h1; exact h.1.2 h1)]
    exact ⟨_, rfl⟩
  · rw [hneg] at h
    cases h.2
theorem putD_no (l : List Int) (s : Bool) (h : badRun l s = true) : putD l s = ([], 1) := by
  obtain ⟨pu, pe, hpl, hpc⟩ := plain_err l s
  unfold putD
  rw [hpl]
  rw [if_pos]
  unfold badRun at h
  rcases hpc with ⟨rfl, hn⟩ | ⟨rfl, hneg⟩
  · rw [hn, Bool.or_false] at h
    simp only [Bool.or_eq_true, decide_eq_true_eq] at h
    exact .inr h
  · exact .inl (show (1 : Int) ≠ 0 by decide)
theorem putDe_no (l : List Int) (s : Bool) (h : badRun l s = true) : putDe l s = ([], 1) := by
  unfold putDe
  rw [if_pos]
  unfold badRun at h
  unfold badDe
  simp only [Bool.or_eq_true, decide_eq_true_eq, Bool.and_eq_true, Bool.not_eq_true'] at h
  rcases h with (h | h) | h
  · exact .inl (by omega)
  · exact .inr (.inl h)
  · exact .inr (.inr (.inl h))
theorem cand_two (l : List Int) (s : Bool) (hu : I64 l) (c : Nat) (p : List Int) (h : candR l s c = (p, 0)) : 2 ≤ p.length := by
  unfold candR at h
  split at h
  · unfold timesR at h
    split at h
    · unfold putR at h
      split at h
      · injection h with _ h; cases h
      · injection h with h _; subst h
        rw [List.length_cons, hiB_len]
        unfold longN
        omega
    · injection h with _ h; cases h
  · split at h
    · exact (putD_len l s hu p h).1
    · split at h
      · unfold putDe at h
        split at h
        · injection h with _ h; cases h
        · injection h with h _; subst h
          simp only [List.length_append]
          have h1 := (vput_len 9 (unsN (dAt l 0) true)).1
          have h2 := (vput_len 9 (unsN (l.getD 0 0) s)).1
          unfold vput
          omega
      · unfold putPa at h
        split at h
        · injection h with _ h; cases h
        · injection h with h _; subst h
          simp only [List.length_append, twoPa, List.length_cons]
          omega
theorem shortR_ne (o : List Int) (q : List Int × Int) (hq : q.2 = 0 → 1 ≤ q.1.length) (h : o ≠ []) : shortR o q ≠ [] ∧ (shortR o q).length ≤ o.length := by
  unfold shortR
  split
  · rename_i h1
    have := hq h1.1
    refine ⟨fun h2 => by rw [h2] at this; simp at this, ?_⟩
    rcases h1.2 with h2 | h2
    · exact absurd h2 h
    · omega
  · exact ⟨h, Nat.le_refl _⟩
theorem shortR_to (o p : List Int) (hq : 1 ≤ p.length) : shortR o (p, 0) ≠ [] ∧ (shortR o (p, 0)).length ≤ p.length := by
  unfold shortR
  split
  · refine ⟨fun h2 => ?_, Nat.le_refl _⟩
    dsimp only at h2
    rw [h2] at hq
    simp at hq
  · rename_i h
    dsimp only at h
    exact ⟨fun h1 => h ⟨rfl, .inl h1⟩, Nat.le_of_not_lt fun h1 => h ⟨rfl, .inr h1⟩⟩
theorem runK_le (l : List Int) (s : Bool) (hu : I64 l) (j : Nat) (p : List Int) (h : candR l s j = (p, 0)) : ∀ d, runK l s (j + 1 + d) ≠ [] ∧ (runK l s (j + 1 + d)).length ≤ p.length := by
  intro d
  induction d with
  | zero =>
    show shortR (runK l s j) (candR l s j) ≠ [] ∧ (shortR (runK l s j) (candR l s j)).length ≤ p.length
    rw [h]
    exact shortR_to _ _ (cand_ne l s hu j p h)
  | succ d ih =>
    have h1 := shortR_ne (runK l s (j + 1 + d)) (candR l s (j + 1 + d)) (fun he => cand_ne l s hu (j + 1 + d) _ (by rw [← he])) ih.1
    exact ⟨h1.1, Nat.le_trans h1.2 ih.2⟩
theorem runK_is (l : List Int) (s : Bool) : ∀ c, runK l s c = [] ∨ ∃ j, j < c ∧ candR l s j = (runK l s c, 0) := by
  intro c
  induction c with
  | zero => exact .inl rfl
  | succ c ih =>
    have h : runK l s (c + 1) = shortR (runK l s c) (candR l s c) := rfl
    unfold shortR at h
    split at h
    · rename_i h1
      right
      refine ⟨c, Nat.lt_succ_self c, ?_⟩
      rw [h, ← h1.1]
    · rw [h]
      rcases ih with h2 | ⟨j, hj, h2⟩
      · exact .inl h2
      · exact .inr ⟨j, by omega, h2⟩
/-- A run is what one of the kinds is. -/
theorem run_ok (l : List Int) (s : Bool) (hu : I64 l) (h : badRun l s = false) : ∃ q, runR l s = (q, 0) ∧ 2 ≤ q.length ∧ q.length ≤ 2 + 8 * l.length ∧ (∃ j, j < 34 ∧ candR l s j = (q, 0)) ∧ ∀ j p, j < 34 → candR l s j = (p, 0) → q.length ≤ p.length := by
  have h0 : runR l s = (runK l s 34, 0) := by unfold runR; rw [h]; rfl
  obtain ⟨p, hp⟩ := putD_ok l s h
  have hc : candR l s 1 = (p, 0) := by unfold candR; rw [if_neg (by omega), if_pos rfl]; exact hp
  have h1 := runK_le l s hu 1 p hc 32
  have h2 := putD_len l s hu p hp
  rcases runK_is l s 34 with h3 | ⟨j, hj, h3⟩
  · exact absurd h3 h1.1
  · refine ⟨_, h0, cand_two l s hu j _ h3, Nat.le_trans h1.2 h2.2, ⟨j, hj, h3⟩, fun j p hj hp => ?_⟩
    have h4 := (runK_le l s hu j p hp (33 - j)).2
    rwa [show j + 1 + (33 - j) = 34 from by omega] at h4
theorem run_cases (l : List Int) (s : Bool) (hu : I64 l) : runR l s = ([], 1) ∨ ∃ q, runR l s = (q, 0) ∧ q.length ≤ 2 + 8 * l.length := by
  cases h : badRun l s
  · obtain ⟨q, h1, _, h2, _⟩ := run_ok l s hu h
    exact .inr ⟨q, h1, h2⟩
  · left
    unfold runR
    rw [h]
    rfl
/-- All runs. -/
def putF (s : Bool) : Nat → List Int → List Int → List Int × Int
  | 0, out, _ => (out, 0)
  | f + 1, out, l => if l.length = 0 then (out, 0)
    else if (runR (l.take (cutL l)) s).2 ≠ 0 then ([], (runR (l.take (cutL l)) s).2)
    else putF s f (out ++ (runR (l.take (cutL l)) s).1) (l.drop (cutL l))
def putGl (l : List Int) (s : Bool) : List Int × Int := if 4096 < l.length then ([], 3) else putF s (l.length + 1) [] l
end Go.Proofs.YtmejoococajikaaGreat

/- Texts: the plain laws of words (rising, each once) and of places among them. -/
namespace Go.Proofs.YtmejoococajikaaGreat
open Go.RowKit

theorem key_back (s : ByteArray) : (⟨s.data.toList.toArray⟩ : ByteArray) = s := by rw [Array.toArray_toList]
theorem key_inj {a b : ByteArray} (h : a.data.toList = b.data.toList) : a = b := by
  rw [← key_back a, ← key_back b, h]
/-- Texts that rise, each once. -/
def Rising (W : List ByteArray) : Prop := W.Pairwise fun a b => a.data.toList < b.data.toList
/-- W are the words of l. -/
structure IsWords (W l : List ByteArray) : Prop where
  up : Rising W
  mem : ∀ x, x ∈ W ↔ x ∈ l
theorem Rising.nodup {W : List ByteArray} (h : Rising W) : W.Nodup :=
  List.Pairwise.imp (fun {a b} hab e => by subst e; exact List.lt_irrefl _ hab) h
theorem rising_unique {a b : List ByteArray} (ha : Rising a) (hb : Rising b) (h : ∀ x, x ∈ a ↔ x ∈ b) : a = b := by
  refine List.Perm.eq_of_pairwise (le := fun a b : ByteArray => a.data.toList < b.data.toList) (fun x y _ _ h1 h2 => ?_) ha hb ((List.perm_ext_iff_of_nodup ha.nodup hb.nodup).2 h)
  exact absurd (List.lt_trans h1 h2) (List.lt_irrefl _)
theorem IsWords.unique {W V l : List ByteArray} (h : IsWords W l) (k : IsWords V l) : W = V :=
  rising_unique h.up k.up fun x => (h.mem x).trans (k.mem x).symm
theorem nodup_len {α : Type} [DecidableEq α] {W l : List α} (h : W.Nodup) (hs : ∀ x ∈ W, x ∈ l) : W.length ≤ l.length := by
  induction W generalizing l with
  | nil => simp
  | cons x r ih =>
    obtain ⟨h1, h2⟩ := List.nodup_cons.1 h
    have hx := hs x List.mem_cons_self
    have := ih (l := l.erase x) h2 fun y hy => (List.mem_erase_of_ne (fun e => h1 (by rw [← e]; exact hy))).2 (hs y (List.mem_cons_of_mem _ hy))
    rw [List.length_erase_of_mem hx] at this
    have := List.length_pos_of_mem hx
    rw [List.length_cons]
    omega
theorem IsWords.len {W l : List ByteArray} (h : IsWords W l) : W.length ≤ l.length := nodup_len h.up.nodup fun x hx => (h.mem x).1 hx
theorem lt_le {a b c : List UInt8} (h1 : a < b) (h2 : b ≤ c) : a < c := by
  rcases List.le_iff_lt_or_eq.1 h2 with h | h
  · exact List.lt_trans h1 h
  · exact h ▸ h1

/-- What slices.Compact leaves of a row that doesn't fall: it rises, and has the same members. -/
theorem compact_upto {d : Array (List UInt8)} (hs : ∀ i, i + 1 < d.size → d[i]! ≤ d[i + 1]!) : ∀ m, m ≤ d.size →
    (Lib.compactUpTo d m).Pairwise (· < ·) ∧ (∀ x, x ∈ Lib.compactUpTo d m ↔ ∃ j, j < m ∧ d[j]! = x) ∧ (0 < m → ∀ x ∈ Lib.compactUpTo d m, x ≤ d[m - 1]!)
  | 0, _ => ⟨by simp [Lib.compactUpTo], fun x => by simp [Lib.compactUpTo], fun h => absurd h (by omega)⟩
  | m + 1, hm => by
    obtain ⟨h1, h2, h3⟩ := compact_upto hs m (by omega)
    rw [Lib.compactUpTo_succ]
    have hup : 0 < m → d[m - 1]! ≤ d[m]! := fun h => by
      have := hs (m - 1) (by omega)
      rwa [show m - 1 + 1 = m from by omega] at this
    have hle : ∀ x ∈ Lib.compactUpTo d m, x ≤ d[m]! := fun x hx => by
      obtain ⟨j, hj, _⟩ := (h2 x).1 hx
      exact List.le_trans (h3 (by omega) x hx) (hup (by omega))
    cases hk : Lib.keeps d m with
    | true =>
      rw [if_pos rfl]
      refine ⟨List.pairwise_append.2 ⟨h1, by simp, fun x hx y hy => ?_⟩, fun x => ?_, fun _ x hx => ?_⟩
      · obtain rfl : y = d[m]! := by simpa using hy
        obtain ⟨j, hj, _⟩ := (h2 x).1 hx
        have hx1 := h3 (by omega) x hx
        have hne : d[m]! ≠ d[m - 1]! := by
          unfold Lib.keeps at hk
          rcases of_decide_eq_true hk with h | h
          · omega
          · exact h
        rcases List.le_iff_lt_or_eq.1 hx1 with h | h
        · exact lt_le h (hup (by omega))
        · rw [h]
          rcases List.le_iff_lt_or_eq.1 (hup (by omega)) with h' | h'
          · exact h'
          · exact absurd h'.symm hne
      · rw [List.mem_append, h2]
        constructor
        · rintro (⟨j, hj, e⟩ | h)
          · exact ⟨j, by omega, e⟩
          · exact ⟨m, by omega, (List.mem_singleton.1 h).symm⟩
        · rintro ⟨j, hj, e⟩
          by_cases hjm : j = m
          · subst hjm; exact .inr (by simpa using e.symm)
          · exact .inl ⟨j, by omega, e⟩
      · rw [Nat.add_sub_cancel]
        rcases List.mem_append.1 hx with h | h
        · exact hle x h
        · obtain rfl : x = d[m]! := by simpa using h
          exact List.le_refl _
    | false =>
      rw [if_neg (by simp), List.append_nil]
      have hm0 : 0 < m ∧ d[m]! = d[m - 1]! := by
        unfold Lib.keeps at hk
        have := of_decide_eq_false hk
        refine ⟨by omega, ?_⟩
        by_cases e : d[m]! = d[m - 1]!
        · exact e
        · exact absurd (.inr e) this
      refine ⟨h1, fun x => ?_, fun _ x hx => by rw [Nat.add_sub_cancel]; exact hle x hx⟩
      rw [h2]
      constructor
      · rintro ⟨j, hj, e⟩; exact ⟨j, by omega, e⟩
      · rintro ⟨j, hj, e⟩
        by_cases hjm : j = m
        · subst hjm; exact ⟨j - 1, by omega, by rw [← hm0.2]; exact e⟩
        · exact ⟨j, by omega, e⟩
/-- What the library makes of texts: sorted, then compacted: their words. -/
theorem words_of_sorted (l : List ByteArray) :
    IsWords ((Lib.compact ((l.map fun s => s.data.toList).mergeSort (fun x y => decide (x ≤ y)))).map fun a => ⟨a.toArray⟩) l := by
  have tr : ∀ a b c : List UInt8, decide (a ≤ b) = true → decide (b ≤ c) = true → decide (a ≤ c) = true := fun a b c h1 h2 => by simp only [decide_eq_true_eq] at *; exact List.le_trans h1 h2
  have tot : ∀ a b : List UInt8, (decide (a ≤ b) || decide (b ≤ a)) = true := fun a b => by simp only [Bool.or_eq_true, decide_eq_true_eq]; exact List.le_total a b
  obtain ⟨z, hz⟩ : ∃ z, z = (l.map fun s => s.data.toList).mergeSort (fun x y => decide (x ≤ y)) := ⟨_, rfl⟩
  rw [← hz]
  have hp : z.Pairwise fun a b => decide (a ≤ b) = true := hz ▸ List.pairwise_mergeSort tr tot _
  have hperm : z.Perm (l.map fun s => s.data.toList) := hz ▸ List.mergeSort_perm _ _
  have hs : ∀ i, i + 1 < z.toArray.size → z.toArray[i]! ≤ z.toArray[i + 1]! := fun i hi => by
    have hi' : i + 1 < z.length := by simpa using hi
    rw [getElem!_pos z.toArray i (by simpa using (by omega : i < z.length)), getElem!_pos z.toArray (i + 1) hi]
    simpa using List.pairwise_iff_getElem.1 hp i (i + 1) (by omega) hi' (by omega)
  obtain ⟨h1, h2, _⟩ := compact_upto hs z.toArray.size (Nat.le_refl _)
  have hmem : ∀ x, x ∈ Lib.compact z ↔ x ∈ z := fun x => by
    unfold Lib.compact
    rw [show z.length = z.toArray.size from by simp, h2]
    constructor
    · rintro ⟨j, hj, e⟩
      rw [getElem!_pos z.toArray j hj] at e
      rw [← e]
      simp
    · intro hx
      obtain ⟨j, hj, e⟩ := List.mem_iff_getElem.1 hx
      exact ⟨j, by simpa using hj, by rw [getElem!_pos z.toArray j (by simpa using hj)]; simpa using e⟩
  refine ⟨?_, fun x => ?_⟩
  · unfold Rising
    rw [List.pairwise_map]
    refine List.Pairwise.imp (fun {a b} hab => ?_) (show (Lib.compact z).Pairwise (· < ·) from by unfold Lib.compact; simpa using h1)
    simpa using hab
  · rw [List.mem_map]
    constructor
    · rintro ⟨a, ha, rfl⟩
      obtain ⟨s, hs1, rfl⟩ := List.mem_map.1 (hperm.mem_iff.1 ((hmem a).1 ha))
      rw [key_back]; exact hs1
    · intro hx
      exact ⟨x.data.toList, (hmem _).2 (hperm.mem_iff.2 (List.mem_map_of_mem hx)), key_back x⟩

/-- A text's place among others; -1: it is not there. -/
def PlaceAt (l : List ByteArray) (s : ByteArray) (r : Int) : Prop := (∃ j : Nat, r = j ∧ l[j]? = some s) ∨ (r = -1 ∧ s ∉ l)
theorem nodup_get {α : Type} {W : List α} (h : W.Nodup) {i j : Nat} {s : α} (hi : W[i]? = some s) (hj : W[j]? = some s) : i = j := by
  obtain ⟨h1, e1⟩ := List.getElem?_eq_some_iff.1 hi
  obtain ⟨h2, e2⟩ := List.getElem?_eq_some_iff.1 hj
  exact (List.getElem_inj h).1 (e1.trans e2.symm)
theorem PlaceAt.unique {W : List ByteArray} (h : W.Nodup) {s : ByteArray} {a b : Int} (ha : PlaceAt W s a) (hb : PlaceAt W s b) : a = b := by
  rcases ha with ⟨i, rfl, hi⟩ | ⟨rfl, hi⟩ <;> rcases hb with ⟨j, rfl, hj⟩ | ⟨rfl, hj⟩
  · rw [nodup_get h hi hj]
  · exact absurd (List.mem_of_getElem? hi) hj
  · exact absurd (List.mem_of_getElem? hj) hi
  · rfl
/-- The places of texts among their words. -/
def idxT {α : Type} [DecidableEq α] (W : List α) (s : α) : Nat := W.idxOf s
theorem idxT_lt {α : Type} [DecidableEq α] {W : List α} {s : α} (h : s ∈ W) : idxT W s < W.length := List.idxOf_lt_length_of_mem h
theorem idxT_get {α : Type} [DecidableEq α] {W : List α} {s : α} (h : s ∈ W) : W[idxT W s]? = some s := by
  have h1 := List.getElem_idxOf (List.idxOf_lt_length_of_mem h)
  rw [List.getElem?_eq_getElem (idxT_lt h)]
  exact congrArg some h1
def placesT (W l : List ByteArray) : List Int := l.map fun s => (idxT W s : Int)
theorem placeAt_idx {W : List ByteArray} {s : ByteArray} (h : s ∈ W) : PlaceAt W s (idxT W s : Nat) := .inl ⟨_, rfl, idxT_get h⟩
/-- A text's bytes, as numbers; texts one behind the other; how many bytes each has. -/
def bytesT (s : ByteArray) : List Int := s.data.toList.map fun u => (u.toNat : Int)
def catT (l : List ByteArray) : List Int := l.flatMap bytesT
def lensT (l : List ByteArray) : List Int := l.map fun s => (s.size : Int)
theorem bytesT_len (s : ByteArray) : (bytesT s).length = s.size := by unfold bytesT; rw [List.length_map, Array.length_toList]; rfl
theorem bytesT_u8 (s : ByteArray) : U8 (bytesT s) := fun x hx => by
  obtain ⟨u, _, rfl⟩ := List.mem_map.1 hx
  have := u.toNat_lt
  omega
theorem catT_u8 (l : List ByteArray) : U8 (catT l) := fun x hx => by
  obtain ⟨s, _, h⟩ := List.mem_flatMap.1 hx
  exact bytesT_u8 s x h
theorem catT_len {l : List ByteArray} {m : Nat} (h : ∀ s ∈ l, s.size ≤ m) : (catT l).length ≤ l.length * m := by
  induction l with
  | nil => simp [catT]
  | cons s r ih =>
    have h1 := ih fun x hx => h x (List.mem_cons_of_mem _ hx)
    have h2 := h s List.mem_cons_self
    have e : catT (s :: r) = bytesT s ++ catT r := by simp [catT]
    rw [e, List.length_append, bytesT_len, List.length_cons, Nat.succ_mul]
    omega
/-- One text more, put where it stands. -/
theorem shift_step {α : Type} (O : List α) (x : α) (k : Nat) (hk : k < O.length) :
    ((O.take (k + 1) ++ x :: O.drop (k + 1)).set (k + 1) O[k]).set k x = O.take k ++ x :: O.drop k := by
  have e1 : O.take (k + 1) = O.take k ++ [O[k]] := by rw [List.take_succ_eq_append_getElem hk]
  have e2 : O.drop k = O[k] :: O.drop (k + 1) := List.drop_eq_getElem_cons hk
  have hl : (O.take k).length = k := by rw [List.length_take]; omega
  rw [e2, e1, List.append_assoc, List.set_append_right _ _ (by omega), hl, show k + 1 - k = 1 from by omega, List.set_append_right _ _ (by omega), hl, Nat.sub_self]
  rfl
theorem rising_insert {O : List ByteArray} {x : ByteArray} {k : Nat} (h : Rising O) (hk : k ≤ O.length) (hx : x ∉ O) (hhi : ∀ y ∈ O.drop k, x.data.toList < y.data.toList)
    (hlo : ∀ (j : Nat) (y : ByteArray), k = j + 1 → O[j]? = some y → ¬ x.data.toList < y.data.toList) : Rising (O.take k ++ x :: O.drop k) := by
  have hO : Rising (O.take k ++ O.drop k) := by rw [List.take_append_drop]; exact h
  obtain ⟨h1, h2, h3⟩ := List.pairwise_append.1 hO
  refine List.pairwise_append.2 ⟨h1, List.pairwise_cons.2 ⟨hhi, h2⟩, fun a ha b hb => ?_⟩
  rcases List.mem_cons.1 hb with rfl | hb
  · cases k with
    | zero => simp at ha
    | succ j =>
      have hj : j < O.length := by omega
      have hy := hlo j O[j] rfl (List.getElem?_eq_getElem hj)
      have hne : O[j].data.toList ≠ b.data.toList := fun e => hx (key_inj e ▸ List.getElem_mem hj)
      have hlt : O[j].data.toList < b.data.toList := by
        rcases List.le_iff_lt_or_eq.1 (List.not_lt.1 hy) with h | h
        · exact h
        · exact absurd h hne
      obtain ⟨i, hi, rfl⟩ := List.mem_iff_getElem.1 ha
      rw [List.length_take] at hi
      rw [List.getElem_take]
      by_cases e : i = j
      · subst e; exact hlt
      · exact List.lt_trans (List.pairwise_iff_getElem.1 h i j (by omega) hj (by omega)) hlt
  · exact h3 a ha b hb
end Go.Proofs.YtmejoococajikaaGreat

/- Texts: numbers that are not below zero are laid down without a refusal. -/
namespace Go.Proofs.YtmejoococajikaaGreat
open Go.RowKit

theorem badRun_nn (l : List Int) (h : ∀ y ∈ l, 0 ≤ y) (h1 : 1 ≤ l.length) (h2 : l.length ≤ 512) : badRun l false = false := by
  unfold badRun
  rw [decide_eq_false (by omega), decide_eq_false (by omega), Bool.or_self, Bool.false_or]
  have : (l.any fun y => decide (y < 0)) = false := by
    rw [List.any_eq_false]
    intro y hy
    have := h y hy
    simp; omega
  rw [this, Bool.and_false]
theorem putF_nn : ∀ (f : Nat) (l out : List Int), I64 l → (∀ y ∈ l, 0 ≤ y) → (putF false f out l).2 = 0
  | 0, l, out, _, _ => rfl
  | f + 1, l, out, hu, h => by
    rw [putF]
    split
    · rfl
    · have hc := cutL_range l (by omega)
      obtain ⟨q, hq, _⟩ := run_ok (l.take (cutL l)) false (fun y hy => hu y (List.mem_of_mem_take hy)) (badRun_nn _ (fun y hy => h y (List.mem_of_mem_take hy)) (by rw [List.length_take]; omega) (by rw [List.length_take]; omega))
      rw [hq, if_neg (by simp)]
      exact putF_nn f _ _ (fun y hy => hu y (List.mem_of_mem_drop hy)) (fun y hy => h y (List.mem_of_mem_drop hy))
theorem putGl_nn (l : List Int) (hu : I64 l) (h : ∀ y ∈ l, 0 ≤ y) (hn : l.length ≤ 4096) : (putGl l false).2 = 0 := by
  unfold putGl
  rw [if_neg (by omega)]
  exact putF_nn _ _ _ hu h
theorem placesT_nn (W l : List ByteArray) : ∀ y ∈ placesT W l, 0 ≤ y := fun y hy => by
  obtain ⟨s, _, rfl⟩ := List.mem_map.1 hy
  omega
theorem placesT_i64 {W l : List ByteArray} (h : ∀ s ∈ l, s ∈ W) (hW : W.length ≤ 1000000) : I64 (placesT W l) := fun y hy => by
  obtain ⟨s, hs, rfl⟩ := List.mem_map.1 hy
  have := idxT_lt (h s hs)
  omega
theorem placesT_len (W l : List ByteArray) : (placesT W l).length = l.length := by unfold placesT; rw [List.length_map]
end Go.Proofs.YtmejoococajikaaGreat

/- Joined texts: RfP. Each has its own head line. No condition beyond those that its theorems state. -/
import Derived.Laws.RangeAny
import Derived.Test.YtekdcnlbdgikoaaDoorJ32
set_option linter.unusedVariables false

/- The reference's Path: the plain law and the walk. -/
namespace Go.Proofs.YtekdcnlbdgikoaaDoor
open Go.RowKit

section
variable (good : UInt8 → Bool)
/-- Parts between slashes, letter by letter: 'true': a part begins here. -/
def partF : Bool → List UInt8 → Bool
  | st, [] => !st
  | st, c :: r => if c = 47 then !st && partF true r else good c && partF false r
def okPart (p : List UInt8) : Bool := !p.isEmpty && p.all good
def cutS (l : List UInt8) : List (List UInt8) := Lib.splitK [47] 0 (l.count 47) l
theorem cut_nil : cutS [] = [[]] := rfl
theorem index_one (b : UInt8) (l : List UInt8) : Lib.index (b :: l) [47] = if b = 47 then 0 else if Lib.index l [47] == -1 then -1 else Lib.index l [47] + 1 := by
  rw [Lib.index]
  by_cases h : b = 47
  · subst h; simp [List.isPrefixOf]
  · rw [if_neg h, if_neg]; simp [List.isPrefixOf, Ne.symm h]
theorem cut_slash (l : List UInt8) : cutS (47 :: l) = [] :: cutS l := by
  unfold cutS
  rw [List.count_cons_self, Lib.splitK, index_one, if_pos rfl, if_neg (by decide)]
  simp
theorem count_pos_of_index {l : List UInt8} (h : Lib.index l [47] ≠ -1) : 0 < l.count 47 := by
  induction l with
  | nil => exact absurd rfl h
  | cons b r ih =>
    by_cases hb : b = 47
    · subst hb; rw [List.count_cons_self]; omega
    · rw [index_one, if_neg hb] at h
      by_cases hr : Lib.index r [47] = -1
      · rw [hr] at h; exact absurd rfl h
      · have := ih hr
        rw [List.count_cons_of_ne (by simpa using hb)]; exact this
theorem cut_other {b : UInt8} (hb : b ≠ 47) (l : List UInt8) : ∃ h t, cutS l = h :: t ∧ cutS (b :: l) = (b :: h) :: t := by
  unfold cutS
  rw [List.count_cons_of_ne (by simpa using hb)]
  cases hk : l.count 47 with
  | zero => exact ⟨l, [], rfl, rfl⟩
  | succ k =>
    have hi : Lib.index l [47] ≠ -1 := fun e => by
      have h1 := Lib.count_one 47 l
      rw [Lib.count_miss e, hk] at h1
      cases h1
    have hge := Lib.index_ge l [47]
    obtain ⟨j, hj⟩ : ∃ j : Nat, Lib.index l [47] = j := ⟨(Lib.index l [47]).toNat, by omega⟩
    have hi2 : Lib.index (b :: l) [47] = ((j + 1 : Nat) : Int) := by
      rw [index_one, if_neg hb, if_neg (fun e => hi (beq_iff_eq.1 e)), hj]; omega
    rw [Lib.splitK, if_neg (fun e => hi (beq_iff_eq.1 e)), Lib.splitK, if_neg (by rw [hi2]; simp; omega), hi2, hj]
    refine ⟨_, _, rfl, ?_⟩
    simp only [Int.toNat_natCast, Nat.add_zero, List.take_succ_cons, List.length_cons, List.length_nil, Nat.zero_add]
    rw [show j + 1 + 1 = (j + 1) + 1 from rfl, List.drop_succ_cons]
theorem cut_part (l : List UInt8) : (cutS l).all (okPart good) = partF good true l ∧ ∃ h t, cutS l = h :: t ∧ (h.all good && t.all (okPart good)) = partF good false l := by
  induction l with
  | nil => exact ⟨rfl, [], [], rfl, rfl⟩
  | cons b r ih =>
    obtain ⟨hA, h, t, hc, hB⟩ := ih
    by_cases hb : b = 47
    · subst hb
      rw [cut_slash]
      refine ⟨rfl, [], cutS r, rfl, ?_⟩
      rw [hA, partF, if_pos rfl]; simp
    · obtain ⟨h', t', e1, e2⟩ := cut_other hb r
      rw [hc] at e1
      injection e1 with e1 e3
      subst e1 e3
      rw [e2]
      have e4 : partF good true (b :: r) = (good b && partF good false r) := by rw [partF, if_neg hb]
      have e5 : partF good false (b :: r) = (good b && partF good false r) := by rw [partF, if_neg hb]
      refine ⟨?_, b :: h, t, rfl, ?_⟩
      · rw [e4, ← hB, List.all_cons]; show (!(b :: h).isEmpty && (b :: h).all good && _) = _
        rw [List.all_cons]; simp [Bool.and_assoc]
      · rw [e5, ← hB, List.all_cons, Bool.and_assoc]
/-- A letter that may be in a path, or a slash. -/
def okc (c : UInt8) : Bool := good c || decide (c = 47)
def lastOk : List UInt8 → Bool
  | [] => true
  | [c] => !decide (c = 47)
  | _ :: d :: r => lastOk (d :: r)
def pairs : List UInt8 → Bool
  | [] => true
  | [c] => okc good c
  | c :: d :: r => okc good c && !(decide (c = 47) && decide (d = 47)) && pairs (d :: r)
theorem part_false (hg : good 47 = false) : ∀ l, partF good false l = (pairs good l && lastOk l)
  | [] => rfl
  | [c] => by
    by_cases h : c = 47
    · subst h; simp [partF, pairs, lastOk]
    · simp [partF, pairs, lastOk, okc, h]
  | c :: d :: r => by
    have ih := part_false hg (d :: r)
    by_cases h : c = 47
    · subst h
      have e : partF good false (47 :: d :: r) = partF good true (d :: r) := by simp [partF]
      rw [e]
      by_cases hd : d = 47
      · subst hd; simp [partF, pairs]
      · have e2 : partF good true (d :: r) = partF good false (d :: r) := by rw [partF, if_neg hd, partF, if_neg hd]
        rw [e2, ih]
        simp [pairs, lastOk, okc, hd]
    · have e : partF good false (c :: d :: r) = (good c && partF good false (d :: r)) := by rw [partF, if_neg h]
      rw [e, ih]
      simp [pairs, lastOk, okc, h, Bool.and_assoc]
theorem part_true (hg : good 47 = false) : ∀ l, partF good true l = (match l with | [] => false | c :: _ => !decide (c = 47) && pairs good l && lastOk l)
  | [] => rfl
  | c :: r => by
    by_cases h : c = 47
    · subst h; simp [partF]
    · have e : partF good true (c :: r) = partF good false (c :: r) := by rw [partF, if_neg h, partF, if_neg h]
      rw [e, part_false good hg]
      simp [h]
theorem pairs_at : ∀ l, pairs good l = true ↔ ∀ i (hi : i < l.length), okc good l[i] = true ∧ ¬(l[i] = 47 ∧ l[i + 1]? = some 47)
  | [] => by simp [pairs]
  | [c] => by
    constructor
    · intro h i hi
      have : i = 0 := by simp at hi; omega
      subst this
      exact ⟨h, by simp⟩
    · intro h; exact (h 0 (by simp)).1
  | c :: d :: r => by
    have ih := pairs_at (d :: r)
    rw [pairs, Bool.and_eq_true, Bool.and_eq_true, ih]
    constructor
    · rintro ⟨⟨h1, h2⟩, h3⟩ i hi
      cases i with
      | zero => exact ⟨h1, by
          rintro ⟨a, b⟩
          have a2 : c = 47 := a
          have b2 : d = 47 := by simpa using b
          rw [a2, b2] at h2; simp at h2⟩
      | succ i => exact h3 i (by simpa using hi)
    · intro h
      refine ⟨⟨(h 0 (by simp)).1, by
        by_cases a : c = 47
        · by_cases b : d = 47
          · exact absurd ⟨a, by subst b; rfl⟩ (h 0 (by simp)).2
          · simp [b]
        · simp [a]⟩, fun i hi => ?_⟩
      exact h (i + 1) (by simpa using hi)
theorem last_at : ∀ (l : List UInt8), 0 < l.length → lastOk l = !decide (l.getD (l.length - 1) 0 = 47)
  | [], h => absurd h (Nat.lt_irrefl _)
  | [c], _ => rfl
  | c :: d :: r, _ => by
    rw [lastOk, last_at (d :: r) (by simp)]
    rfl
end

def goodB (c : UInt8) : Bool := !badR c.toNat
theorem idx_bad (s : ByteArray) : ∀ (f pos : Nat), s.size - pos ≤ f → (0 ≤ Lib.idxFuncFrom badR true s f pos ↔ ∃ j, pos ≤ j ∧ ∃ h : j < s.size, badR (s[j]'h).toNat = true)
  | 0, pos, hf => by
    unfold Lib.idxFuncFrom
    constructor
    · intro h; omega
    · rintro ⟨j, h1, h2, _⟩; omega
  | f + 1, pos, hf => by
    unfold Lib.idxFuncFrom
    by_cases hp : pos < s.size
    · rw [if_pos hp]
      rcases Nat.lt_or_ge (s[pos]'hp).toNat 128 with ha | ha
      · rw [decode_ascii s pos hp ha]
        by_cases hb : badR (s[pos]'hp).toNat = true
        · rw [if_pos hb]
          exact ⟨fun _ => ⟨pos, Nat.le_refl _, hp, hb⟩, fun _ => by omega⟩
        · rw [if_neg hb, idx_bad s f (pos + 1) (by omega)]
          constructor
          · rintro ⟨j, h1, h2, h3⟩; exact ⟨j, by omega, h2, h3⟩
          · rintro ⟨j, h1, h2, h3⟩
            rcases Nat.lt_or_ge pos j with k | k
            · exact ⟨j, k, h2, h3⟩
            · obtain rfl : j = pos := by omega
              exact absurd h3 hb
      · have hd := decode_high s pos hp ha
        have hbd : badR (Utf8.decode s pos).1 = true := by
          unfold badR
          have h1 : ((Utf8.decode s pos).1 != 95) = true := by simp; omega
          rw [h1, decide_eq_true (show 57 < (Utf8.decode s pos).1 by omega), decide_eq_true (show 122 < (Utf8.decode s pos).1 by omega)]
          simp
        have hbb : badR (s[pos]'hp).toNat = true := by
          unfold badR
          have h1 : ((s[pos]'hp).toNat != 95) = true := by simp; omega
          rw [h1, decide_eq_true (show 57 < (s[pos]'hp).toNat by omega), decide_eq_true (show 122 < (s[pos]'hp).toNat by omega)]
          simp
        rw [if_pos hbd]
        exact ⟨fun _ => ⟨pos, Nat.le_refl _, hp, hbb⟩, fun _ => by omega⟩
    · rw [if_neg hp]
      constructor
      · intro h; omega
      · rintro ⟨j, h1, h2, _⟩; omega
theorem part_ok (p : ByteArray) : partOk p = okPart goodB p.data.toList := by
  unfold partOk okPart
  have e1 : p.toList.isEmpty = p.data.toList.isEmpty := by rw [ByteArray.toList_eq]
  rw [e1]
  congr 1
  have h := idx_bad p p.size 0 (by omega)
  have e2 : (!decide (0 ≤ Lib.idxFunc badR true p)) = p.data.toList.all goodB := by
    rw [Bool.eq_iff_iff]
    simp only [Bool.not_eq_true', decide_eq_false_iff_not, List.all_eq_true]
    unfold Lib.idxFunc
    rw [h]
    constructor
    · intro hn x hx
      obtain ⟨i, hi, rfl⟩ := List.getElem_of_mem hx
      unfold goodB
      cases hb : badR (p.data.toList[i]).toNat with
      | false => rfl
      | true => exact absurd ⟨i, Nat.zero_le _, by rw [Array.length_toList] at hi; exact hi, hb⟩ hn
    · rintro ha ⟨j, _, hj, hb⟩
      have := ha (p.data.toList[j]'(by rw [Array.length_toList]; exact hj)) (List.getElem_mem _)
      unfold goodB at this
      have hb : badR (p.data.toList[j]'(by rw [Array.length_toList]; exact hj)).toNat = true := hb
      rw [hb] at this
      cases this
  exact e2
/-- What a path is, letter by letter. -/
theorem path_eq (s : ByteArray) : pathD s = (decide (s.size ≤ 60) && partF goodB true s.data.toList) := by
  unfold pathD
  congr 1
  have h := Lib.splitB_data slashB 0 (Lib.countB s slashB) s
  have hc : Lib.countB s slashB = s.data.toList.count 47 := Lib.count_one 47 _
  have e : (partsD s).map (·.data.toList) = cutS s.data.toList := by
    unfold partsD cutS
    rw [h, hc]; rfl
  rw [← (cut_part goodB s.data.toList).1, ← e, List.all_map]
  congr 1
  funext p
  exact part_ok p
end Go.Proofs.YtekdcnlbdgikoaaDoor

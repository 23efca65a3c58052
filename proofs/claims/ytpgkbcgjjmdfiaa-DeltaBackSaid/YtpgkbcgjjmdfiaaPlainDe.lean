/- Plain law: numbers laid down by how much they rise or fall are taken as they were. -/
import Derived.Test.YtpgkbcgjjmdfiaaDPut
import Derived.Test.YtpgkbcgjjmdfiaaDTakeA
import Derived.Test.YtpgkbcgjjmdfiaaPlainD
namespace Go.Proofs.Ytpgkbcgjjmdfiaa
open Go.RowKit

theorem stepR_back (a d : Int) (fl : Bool) (ha : I64x a) (hb : I64x (a + d)) (hd : absI d < 9223372036854775808) (hf : d = 0 ∨ decide (d < 0) = fl) : stepR a (absI d) fl = (a + d, true) := by
  unfold stepR
  unfold I64x at ha hb
  rw [if_neg (by omega)]
  unfold absI at hd ⊢
  rcases hf with rfl | hf
  · cases fl
    · rw [if_neg (by simp), if_neg (by simp; omega)]; simp
    · rw [if_pos rfl, if_neg (by simp; omega)]; simp
  · by_cases h : d < 0
    · rw [decide_eq_true h] at hf
      subst hf
      rw [if_pos rfl, if_pos h, if_neg (by omega), show a - -d = a + d from by omega]
    · rw [decide_eq_false h] at hf
      subst hf
      rw [if_neg (by simp), if_neg h, if_neg (by omega)]
theorem steps_back (l : List Int) (hu : I64 l) (m : Nat) (hm : m + 1 = l.length) (hok : okD l m = true) : ∀ k j : Nat, j + k = m → stepsDe (decide (dAt l 0 < 0)) true (l.getD j 0) ((dsz l m).drop j) = some (l.drop (j + 1)) := by
  intro k
  induction k with
  | zero =>
    intro j hj
    rw [List.drop_eq_nil_of_le (by rw [dsz_len]; omega), List.drop_eq_nil_of_le (by omega), stepsDe_nil]
  | succ k ih =>
    intro j hj
    have hd : (dsz l m).getD j 0 = absI (dAt l j) := by
      simp [dsz, List.getD, List.getElem?_map, List.getElem?_range (show j < m by omega)]
    have hoj := List.all_eq_true.1 hok j (List.mem_range.2 (by omega))
    unfold okAt at hoj
    simp only [Bool.and_eq_true, decide_eq_true_eq, Bool.or_eq_true, beq_iff_eq] at hoj
    have hs : l.getD j 0 + dAt l j = l.getD (j + 1) 0 := by unfold dAt; omega
    have hst := stepR_back (l.getD j 0) (dAt l j) (decide (dAt l 0 < 0)) (getD_i64x hu j) (by rw [hs]; exact getD_i64x hu (j + 1)) hoj.1 hoj.2
    rw [hs] at hst
    rw [drop_cons _ j (by rw [dsz_len]; omega), hd]
    simp only [stepsDe]
    rw [hst, if_pos (by simp)]
    dsimp only
    rw [ih (j + 1) (by omega), drop_cons l (j + 1) (by omega)]
    rfl
theorem same_rep (l : List Int) (m : Nat) (h : sameD l m = true) : List.replicate m (absI (dAt l 0)) = dsz l m := by
  apply List.ext_getElem?
  intro i
  rcases Nat.lt_or_ge i m with hi | hi
  · have := List.all_eq_true.1 h i (List.mem_range.2 hi)
    simp only [decide_eq_true_eq] at this
    simp [dsz, hi, this]
  · rw [List.getElem?_eq_none (by simpa using hi), List.getElem?_eq_none (by rw [dsz_len]; exact hi)]
theorem wOf_closest (b : Int) (h1 : 2 ≤ b) (h2 : b ≤ 64) : 0 < wCode (wClosest b) ∧ wCode (wClosest b) ≤ 31 ∧ wOf (wCode (wClosest b)) = wClosest b := by
  obtain ⟨h3, h4, h5⟩ := wOf_code b (by omega) h2
  have h6 := wClosest_room b (by omega) h2
  refine ⟨?_, h5, h3⟩
  rcases Int.lt_or_le 0 (wCode (wClosest b)) with h | h
  · exact h
  · have h7 : wCode (wClosest b) = 0 := by omega
    rw [h7] at h3
    have h8 : wOf 0 = 1 := by decide
    omega

theorem de_back (l : List Int) (hu : I64 l) (h2 : 2 ≤ l.length) (h5 : l.length ≤ 512) (hok : okD l (l.length - 1) = true) (q : List Int) : takeDe ((putDe l true).1 ++ q) true = (l, q, 0) := by
  have hbd : ¬ badDe l true := by
    unfold badDe
    rw [hok]
    rintro (h | h | ⟨h, _⟩ | h)
    · omega
    · omega
    · cases h
    · cases h
  unfold putDe
  rw [if_neg hbd]
  dsimp only
  have hd0 := dAt0_range l (l.length - 1) (by omega) hok
  have hx0 := getD_i64x hu 0
  have hsteps := steps_back l hu (l.length - 1) (by omega) hok (l.length - 1) 0 (by omega)
  rw [List.drop_zero] at hsteps
  have hl : l.getD 0 0 :: l.drop (0 + 1) = l := by rw [← drop_cons l 0 (by omega), List.drop_zero]
  have hdiff : diffR 0 (dAt l 0) = (absI (dAt l 0), decide (dAt l 0 < 0), true) := by
    rw [diffR_eq, Int.sub_zero, if_neg (by omega)]
  cases hsm : sameD l (l.length - 1)
  · have htd : tailDe l = (dsz l (l.length - 1)).drop 1 := by unfold tailDe; rw [hsm]; rfl
    have hwd : widthDe l = wClosest (max 2 (mostBits ((dsz l (l.length - 1)).drop 1) : Int)) := by unfold widthDe; rw [hsm]; rfl
    have hcd : codeDe l = wCode (widthDe l) := by unfold codeDe; rw [hsm]; rfl
    have hut := tail_u64 l (l.length - 1) hok
    obtain ⟨K, hkw, hk2, hk64, hroom⟩ := most2_room _ hut
    have hmm := mostBits_le _ hut
    have hcl := wOf_closest (max 2 (mostBits ((dsz l (l.length - 1)).drop 1) : Int)) (by omega) (by omega)
    rw [hkw] at hwd hcl
    have htl : ((dsz l (l.length - 1)).drop 1).length = l.length - 2 := by rw [List.length_drop, dsz_len]; omega
    obtain ⟨p, hp1, hp2, hp3, hp4⟩ := pack_back ((dsz l (l.length - 1)).drop 1) q K hk64 (by omega) hut hroom
    rw [hcd, hwd, htd, hp1]
    dsimp only
    rw [List.append_assoc, List.append_assoc, List.append_assoc]
    rw [takeDe_eq (look_head (wCode K) l.length _ (by omega) (by omega) 3 (by omega)) (takeI_put _ true hx0 (.inl rfl) _) (takeI_put _ true hd0.1 (.inl rfl) _) hdiff
      (show unpackR (p ++ q) ((l.length : Int) - 2) (wOf (wCode K)) = ((dsz l (l.length - 1)).drop 1, q, 0) from by rw [hcl.2.2, show ((l.length : Int) - 2) = (((dsz l (l.length - 1)).drop 1).length : Int) from by rw [htl]; omega]; exact hp4)]
    rw [if_neg (by omega), if_neg (by simp), if_neg (by simp), if_neg (by simp), if_neg (by simp), if_pos hcl.1, if_pos hcl.1]
    have hz : absI (dAt l 0) :: (dsz l (l.length - 1)).drop 1 = dsz l (l.length - 1) := by
      have h := drop_cons (dsz l (l.length - 1)) 0 (by rw [dsz_len]; omega)
      rw [List.drop_zero] at h
      rw [h]
      simp [dsz, List.getD, List.getElem?_map, List.getElem?_range (show 0 < l.length - 1 by omega)]
    rw [hz, hsteps]
    simp only [finDe]
    rw [hl]
  · have htd : tailDe l = [] := by unfold tailDe; rw [hsm]; rfl
    have hwd : widthDe l = 0 := by unfold widthDe; rw [hsm]; rfl
    have hcd : codeDe l = 0 := by unfold codeDe; rw [hsm]; rfl
    rw [hcd, hwd, htd, show (packR [] 0).1 = [] from rfl, List.append_nil, List.append_assoc, List.append_assoc]
    obtain ⟨L, r3, e3, h5'⟩ : ∃ L r3 e3, unpackR q ((l.length : Int) - 2) (wOf 0) = (L, r3, e3) := ⟨_, _, _, rfl⟩
    rw [takeDe_eq (look_head 0 l.length _ (by omega) (by omega) 3 (by omega)) (takeI_put _ true hx0 (.inl rfl) _) (takeI_put _ true hd0.1 (.inl rfl) _) hdiff h5']
    rw [if_neg (by omega), if_neg (by simp), if_neg (by simp), if_neg (by simp), if_neg (by simp), if_neg (by omega), if_neg (by omega), show ((l.length : Int) - 1).toNat = l.length - 1 from by omega, same_rep l _ hsm, hsteps]
    simp only [finDe]
    rw [hl]
theorem de_put (l : List Int) (h2 : 2 ≤ l.length) (h5 : l.length ≤ 512) : (putDe l true).2 = if okD l (l.length - 1) = true then 0 else 1 := by
  unfold putDe
  by_cases hok : okD l (l.length - 1) = true
  · rw [if_pos hok, if_neg]
    intro h
    unfold badDe at h
    rcases h with h | h | ⟨h, _⟩ | h
    · omega
    · omega
    · cases h
    · rw [hok] at h; cases h
  · rw [if_neg hok, if_pos]
    unfold badDe
    exact .inr (.inr (.inr (by simpa using hok)))
end Go.Proofs.Ytpgkbcgjjmdfiaa

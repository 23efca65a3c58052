/- Joined texts: PlainH, PlainD, PlainG, PlainDe. Each has its own head line. No condition beyond those that its theorems state. -/
import Derived.Test.YtmejoococajikaaGreatJ10
import Derived.Test.YtmejoococajikaaGreatJ19
import Derived.Test.YtmejoococajikaaGreatJ21
import Derived.Test.YtmejoococajikaaGreatJ15
import Derived.Test.YtmejoococajikaaGreatJ17
import Derived.Test.YtmejoococajikaaGreatJ20
import Derived.Test.YtmejoococajikaaGreatJ28
set_option linter.unusedVariables false

/- Plain laws: a head is read as it was laid down. -/
namespace Go.Proofs.YtmejoococajikaaGreat
open Go.RowKit

theorem look_head (c n : Int) (r : List Int) (hc : 0 ≤ c ∧ c ≤ 31) (hn : 1 ≤ n ∧ n ≤ 512) (k : Int) (hk : 0 ≤ k ∧ k ≤ 3) : lookR (headR k c n ++ r) = (k, c, n, r, 0) := by
  unfold headR
  rw [if_pos (by omega)]
  unfold lookR
  rw [if_neg (by simp)]
  simp only [List.cons_append, List.nil_append, List.getD_cons_zero, List.getD_cons_succ, List.drop_succ_cons, List.drop_zero]
  generalize hx : 16384 * k + 512 * c + n - 1 = x
  refine Prod.ext ?_ (Prod.ext ?_ (Prod.ext ?_ rfl)) <;> dsimp only <;> omega
theorem head_u8 (k c n : Int) : U8 (headR k c n) ∧ (headR k c n).length ≤ 2 := by
  unfold headR
  split
  · refine ⟨fun x hx => ?_, by simp⟩
    rcases List.mem_cons.1 hx with rfl | hx
    · omega
    · rw [List.mem_singleton.1 hx]; omega
  · exact ⟨fun x hx => by (cases hx), by simp⟩
end Go.Proofs.YtmejoococajikaaGreat

/- Plain laws: numbers that were laid down as they are are taken back. -/
namespace Go.Proofs.YtmejoococajikaaGreat
open Go.RowKit

theorem madeL_cases (l : List Int) (s : Bool) : ∃ u e, madeL l s = (u, e) ∧ ((e = 0 ∧ u.length = l.length ∧ (U64 l → I64 u)) ∨ (e = 2 ∧ u = [])) := by
  unfold madeL
  cases s
  · rw [if_neg (by simp)]
    unfold mapOk
    split
    · rename_i h
      refine ⟨_, _, rfl, .inl ⟨rfl, by simp, fun hi x hx => ?_⟩⟩
      rw [List.map_id] at hx
      have h1 := hi x hx
      have h2 := List.all_eq_true.1 h x hx
      simp at h2
      omega
    · exact ⟨_, _, rfl, .inr ⟨rfl, rfl⟩⟩
  · rw [if_pos rfl]
    unfold mapOk
    rw [if_pos (by simp)]
    refine ⟨_, _, rfl, .inl ⟨rfl, by simp, fun hi x hx => ?_⟩⟩
    obtain ⟨y, hy, rfl⟩ := List.mem_map.1 hx
    exact zag_range y (hi y hy).1 (hi y hy).2
theorem takeD_good (b : List Int) (s : Bool) : I64 (takeD b s).1 ∧ (takeD b s).1.length ≤ 4096 := by
  unfold takeD
  split
  · exact ⟨fun x hx => by (cases hx), by simp⟩
  · split
    · exact ⟨fun x hx => by (cases hx), by simp⟩
    · split
      · exact ⟨fun x hx => by (cases hx), by simp⟩
      · have h1 := unpackR_u64 (lookR b).2.2.2.1 (lookR b).2.2.1 (wOf (lookR b).2.1)
        have h2 := unpackR_len (lookR b).2.2.2.1 (lookR b).2.2.1 (wOf (lookR b).2.1)
        generalize (unpackR (lookR b).2.2.2.1 (lookR b).2.2.1 (wOf (lookR b).2.1)).1 = u at *
        obtain ⟨p, e, h3, h4⟩ := madeL_cases u s
        rw [h3]
        rcases h4 with ⟨_, h5, h6⟩ | ⟨_, rfl⟩
        · exact ⟨h6 h1, by dsimp only; omega⟩
        · exact ⟨fun x hx => by (cases hx), by simp⟩
theorem wOf_code (b : Int) (h0 : 0 ≤ b) (h : b ≤ 64) : wOf (wCode (wClosest b)) = wClosest b ∧ 0 ≤ wCode (wClosest b) ∧ wCode (wClosest b) ≤ 31 := by
  obtain ⟨w, hw⟩ : ∃ w, w = wClosest b := ⟨_, rfl⟩
  obtain ⟨c, hc⟩ : ∃ c, c = wCode w := ⟨_, rfl⟩
  obtain ⟨v, hv⟩ : ∃ v, v = wOf c := ⟨_, rfl⟩
  rw [← hw, ← hc, ← hv]
  unfold wClosest at hw
  unfold wCode at hc
  have r2 : 0 ≤ c ∧ c ≤ 31 := by omega
  refine ⟨?_, r2⟩
  unfold wOf at hv
  omega
def keepB (s : Bool) (x : Int) : Bool := s || decide (0 ≤ x)
theorem plain_made (l : List Int) (s : Bool) (hi : I64 l) (hk : l.all (keepB s) = true) : ∃ u, plainL l s = (u, 0) ∧ U64 u ∧ u.length = l.length ∧ madeL u s = (l, 0) := by
  cases s
  · have h1 : ∀ x ∈ l, 0 ≤ x := fun x hx => by
      have := List.all_eq_true.1 hk x hx
      simpa [keepB] using this
    refine ⟨l, ?_, fun x hx => by have := hi x hx; have := h1 x hx; omega, rfl, ?_⟩
    · unfold plainL mapOk
      rw [if_neg (by simp), if_pos (List.all_eq_true.2 fun x hx => decide_eq_true (h1 x hx)), List.map_id]
    · unfold madeL mapOk
      rw [if_neg (by simp), if_pos (List.all_eq_true.2 fun x hx => decide_eq_true (hi x hx).2), List.map_id]
  · refine ⟨l.map zig, ?_, fun x hx => ?_, by simp, ?_⟩
    · unfold plainL mapOk
      rw [if_pos rfl, if_pos (by simp)]
    · obtain ⟨y, hy, rfl⟩ := List.mem_map.1 hx
      exact zig_range y (hi y hy).1 (hi y hy).2
    · unfold madeL mapOk
      rw [if_pos rfl, if_pos (by simp), List.map_map]
      congr 1
      conv => rhs; rw [← List.map_id l]
      exact List.map_congr_left fun x _ => zag_zig x
theorem putD_back (l : List Int) (s : Bool) (hi : I64 l) (hk : l.all (keepB s) = true) (h1 : 1 ≤ l.length) (h2 : l.length ≤ 512) :
    ∃ p, putD l s = (p, 0) ∧ U8 p ∧ p.length ≤ 5000 ∧ ∀ behind, takeD (p ++ behind) s = (l, behind, 0) := by
  obtain ⟨u, hp, hu, hl, hm⟩ := plain_made l s hi hk
  obtain ⟨k, hk0, hk1, hk2, hroom⟩ := most_room u hu
  have hm64 := mostBits_le u hu
  have hcode := wOf_code (mostBits u) (by omega) (by omega)
  rw [hk0] at hcode
  have hbits : u.length * k ≤ 512 * 64 := Nat.mul_le_mul (by omega) hk2
  obtain ⟨q, hq, hq8, hql, _⟩ := pack_back u [] k hk2 (by omega) hu hroom
  refine ⟨headR 1 (wCode k) l.length ++ q, ?_, ?_, ?_, fun behind => ?_⟩
  · unfold putD
    rw [hp]
    dsimp only
    rw [if_neg (by omega), hk0, hq]
  · intro x hx
    rcases List.mem_append.1 hx with hx | hx
    · exact (head_u8 _ _ _).1 x hx
    · exact hq8 x hx
  · rw [List.length_append]
    have := (head_u8 1 (wCode k) l.length).2
    omega
  · obtain ⟨q', hq', _, _, hun⟩ := pack_back u behind k hk2 (by omega) hu hroom
    have e : q' = q := by rw [hq] at hq'; injection hq' with h _; exact h.symm
    subst e
    unfold takeD
    rw [List.append_assoc, look_head (wCode k) l.length (q' ++ behind) hcode.2 (by omega) 1 (by omega)]
    dsimp only
    rw [hcode.1, ← hl, hun]
    dsimp only
    rw [hm]
    simp
end Go.Proofs.YtmejoococajikaaGreat

/- Rle: plain: a run is the shortest one; where it is cut; all runs. -/
namespace Go.Proofs.YtmejoococajikaaGreat
open Go.RowKit

/-- The run of kind c. -/
def candR (l : List Int) (s : Bool) (c : Nat) : List Int × Int :=
  if c = 0 then timesR l s else if c = 1 then putD l s else if c = 2 then putDe l s else putPa l (wOf ((c - 3 : Nat) : Int)) s
def shortR (o : List Int) (q : List Int × Int) : List Int := if q.2 = 0 ∧ (o = [] ∨ q.1.length < o.length) then q.1 else o
def runK (l : List Int) (s : Bool) : Nat → List Int
  | 0 => []
  | c + 1 => shortR (runK l s c) (candR l s c)
def badRun (l : List Int) (s : Bool) : Bool := decide (l.length < 1) || decide (512 < l.length) || (!s && l.any fun y => decide (y < 0))
/-- One run. -/
def runR (l : List Int) (s : Bool) : List Int × Int := if badRun l s then ([], 1) else (runK l s 34, 0)
theorem putD_ne (l : List Int) (s : Bool) (hu : I64 l) (p : List Int) (h : putD l s = (p, 0)) : 1 ≤ p.length := by
  unfold putD at h
  split at h
  · injection h with _ h; cases h
  · rename_i hb
    injection h with h _
    subst h
    obtain ⟨u, e, hpl, hcase⟩ := plainL_cases l s
    rw [hpl] at hb ⊢
    rcases hcase with ⟨rfl, hul, hu6⟩ | ⟨rfl, rfl⟩
    · obtain ⟨k, hk, hk1, hk2, hroom⟩ := most_room u (hu6 hu)
      have hb2 : ¬ l.length < 1 ∧ ¬ 512 < l.length := by
        refine ⟨fun h => hb (.inr (.inl h)), fun h => hb (.inr (.inr h))⟩
      rw [List.length_append]
      dsimp only
      have h64 := mostBits_le u (hu6 hu)
      have hw := wOf_code (mostBits u) (by omega) (by omega)
      unfold headR
      rw [if_pos (by omega)]
      simp only [List.length_cons]
      omega
    · exact absurd (.inl (by decide)) hb
theorem cand_ne (l : List Int) (s : Bool) (hu : I64 l) (c : Nat) (p : List Int) (h : candR l s c = (p, 0)) : 1 ≤ p.length := by
  unfold candR at h
  split at h
  · unfold timesR at h
    split at h
    · unfold putR at h
      split at h
      · injection h with _ h; cases h
      · injection h with h _; subst h; simp
    · injection h with _ h; cases h
  · split at h
    · exact putD_ne l s hu p h
    · split at h
      · unfold putDe at h
        split at h
        · injection h with _ h; cases h
        · injection h with h _; subst h
          simp only [List.length_append]
          have := (vput_len 9 (unsN (dAt l 0) true)).1
          unfold vput
          omega
      · unfold putPa at h
        split at h
        · injection h with _ h; cases h
        · injection h with h _; subst h
          simp only [List.length_append, twoPa, List.length_cons]
          omega
end Go.Proofs.YtmejoococajikaaGreat

/- Plain law: numbers laid down by how much they rise or fall are taken as they were. -/
namespace Go.Proofs.YtmejoococajikaaGreat
open Go.RowKit

theorem stepR_back (a d : Int) (fl : Bool) (ha : I64x a) (hb : I64x (a + d)) (hd : absI d < 9223372036854775808) (hf : d = 0 ∨ decide (d < 0) = fl) : stepR a (absI d) fl = (a + d, true) := by
  unfold stepR
  unfold I64x at ha hb
  rw [if_neg (by omega)]
  unfold absI at hd ⊢
  rcases hf with rfl | hf
  · cases fl
    · rw [if_neg (by simp), if_neg (by simp; omega)]; simp
    · rw [if_pos rfl, if_neg (by simp; omega)]; simp
  · by_cases h : d < 0
    · rw [decide_eq_true h] at hf
      subst hf
      rw [if_pos rfl, if_pos h, if_neg (by omega), show a - -d = a + d from by omega]
    · rw [decide_eq_false h] at hf
      subst hf
      rw [if_neg (by simp), if_neg h, if_neg (by omega)]
theorem steps_back (l : List Int) (hu : I64 l) (m : Nat) (hm : m + 1 = l.length) (hok : okD l m = true) : ∀ k j : Nat, j + k = m → stepsDe (decide (dAt l 0 < 0)) true (l.getD j 0) ((dsz l m).drop j) = some (l.drop (j + 1)) := by
  intro k
  induction k with
  | zero =>
    intro j hj
    rw [List.drop_eq_nil_of_le (by rw [dsz_len]; omega), List.drop_eq_nil_of_le (by omega), stepsDe_nil]
  | succ k ih =>
    intro j hj
    have hd : (dsz l m).getD j 0 = absI (dAt l j) := by
      simp [dsz, List.getD, List.getElem?_map, List.getElem?_range (show j < m by omega)]
    have hoj := List.all_eq_true.1 hok j (List.mem_range.2 (by omega))
    unfold okAt at hoj
    simp only [Bool.and_eq_true, decide_eq_true_eq, Bool.or_eq_true, beq_iff_eq] at hoj
    have hs : l.getD j 0 + dAt l j = l.getD (j + 1) 0 := by unfold dAt; omega
    have hst := stepR_back (l.getD j 0) (dAt l j) (decide (dAt l 0 < 0)) (getD_i64x hu j) (by rw [hs]; exact getD_i64x hu (j + 1)) hoj.1 hoj.2
    rw [hs] at hst
    rw [drop_cons _ j (by rw [dsz_len]; omega), hd]
    simp only [stepsDe]
    rw [hst, if_pos (by simp)]
    dsimp only
    rw [ih (j + 1) (by omega), drop_cons l (j + 1) (by omega)]
    rfl
theorem same_rep (l : List Int) (m : Nat) (h : sameD l m = true) : List.replicate m (absI (dAt l 0)) = dsz l m := by
  apply List.ext_getElem?
  intro i
  rcases Nat.lt_or_ge i m with hi | hi
  · have := List.all_eq_true.1 h i (List.mem_range.2 hi)
    simp only [decide_eq_true_eq] at this
    simp [dsz, hi, this]
  · rw [List.getElem?_eq_none (by simpa using hi), List.getElem?_eq_none (by rw [dsz_len]; exact hi)]
theorem wOf_closest (b : Int) (h1 : 2 ≤ b) (h2 : b ≤ 64) : 0 < wCode (wClosest b) ∧ wCode (wClosest b) ≤ 31 ∧ wOf (wCode (wClosest b)) = wClosest b := by
  obtain ⟨h3, h4, h5⟩ := wOf_code b (by omega) h2
  have h6 := wClosest_room b (by omega) h2
  refine ⟨?_, h5, h3⟩
  rcases Int.lt_or_le 0 (wCode (wClosest b)) with h | h
  · exact h
  · have h7 : wCode (wClosest b) = 0 := by omega
    rw [h7] at h3
    have h8 : wOf 0 = 1 := by decide
    omega

theorem de_back (l : List Int) (hu : I64 l) (h2 : 2 ≤ l.length) (h5 : l.length ≤ 512) (hok : okD l (l.length - 1) = true) (q : List Int) : takeDe ((putDe l true).1 ++ q) true = (l, q, 0) := by
  have hbd : ¬ badDe l true := by
    unfold badDe
    rw [hok]
    rintro (h | h | ⟨h, _⟩ | h)
    · omega
    · omega
    · cases h
    · cases h
  unfold putDe
  rw [if_neg hbd]
  dsimp only
  have hd0 := dAt0_range l (l.length - 1) (by omega) hok
  have hx0 := getD_i64x hu 0
  have hsteps := steps_back l hu (l.length - 1) (by omega) hok (l.length - 1) 0 (by omega)
  rw [List.drop_zero] at hsteps
  have hl : l.getD 0 0 :: l.drop (0 + 1) = l := by rw [← drop_cons l 0 (by omega), List.drop_zero]
  have hdiff : diffR 0 (dAt l 0) = (absI (dAt l 0), decide (dAt l 0 < 0), true) := by
    rw [diffR_eq, Int.sub_zero, if_neg (by omega)]
  cases hsm : sameD l (l.length - 1)
  · have htd : tailDe l = (dsz l (l.length - 1)).drop 1 := by unfold tailDe; rw [hsm]; rfl
    have hwd : widthDe l = wClosest (max 2 (mostBits ((dsz l (l.length - 1)).drop 1) : Int)) := by unfold widthDe; rw [hsm]; rfl
    have hcd : codeDe l = wCode (widthDe l) := by unfold codeDe; rw [hsm]; rfl
    have hut := tail_u64 l (l.length - 1) hok
    obtain ⟨K, hkw, hk2, hk64, hroom⟩ := most2_room _ hut
    have hmm := mostBits_le _ hut
    have hcl := wOf_closest (max 2 (mostBits ((dsz l (l.length - 1)).drop 1) : Int)) (by omega) (by omega)
    rw [hkw] at hwd hcl
    have htl : ((dsz l (l.length - 1)).drop 1).length = l.length - 2 := by rw [List.length_drop, dsz_len]; omega
    obtain ⟨p, hp1, hp2, hp3, hp4⟩ := pack_back ((dsz l (l.length - 1)).drop 1) q K hk64 (by omega) hut hroom
    rw [hcd, hwd, htd, hp1]
    dsimp only
    rw [List.append_assoc, List.append_assoc, List.append_assoc]
    rw [takeDe_eq (look_head (wCode K) l.length _ (by omega) (by omega) 3 (by omega)) (takeI_put _ true hx0 (.inl rfl) _) (takeI_put _ true hd0.1 (.inl rfl) _) hdiff
      (show unpackR (p ++ q) ((l.length : Int) - 2) (wOf (wCode K)) = ((dsz l (l.length - 1)).drop 1, q, 0) from by rw [hcl.2.2, show ((l.length : Int) - 2) = (((dsz l (l.length - 1)).drop 1).length : Int) from by rw [htl]; omega]; exact hp4)]
    rw [if_neg (by omega), if_neg (by simp), if_neg (by simp), if_neg (by simp), if_neg (by simp), if_pos hcl.1, if_pos hcl.1]
    have hz : absI (dAt l 0) :: (dsz l (l.length - 1)).drop 1 = dsz l (l.length - 1) := by
      have h := drop_cons (dsz l (l.length - 1)) 0 (by rw [dsz_len]; omega)
      rw [List.drop_zero] at h
      rw [h]
      simp [dsz, List.getD, List.getElem?_map, List.getElem?_range (show 0 < l.length - 1 by omega)]
    rw [hz, hsteps]
    simp only [finDe]
    rw [hl]
  · have htd : tailDe l = [] := by unfold tailDe; rw [hsm]; rfl
    have hwd : widthDe l = 0 := by unfold widthDe; rw [hsm]; rfl
    have hcd : codeDe l = 0 := by unfold codeDe; rw [hsm]; rfl
    rw [hcd, hwd, htd, show (packR [] 0).1 = [] from rfl, List.append_nil, List.append_assoc, List.append_assoc]
    obtain ⟨L, r3, e3, h5'⟩ : ∃ L r3 e3, unpackR q ((l.length : Int) - 2) (wOf 0) = (L, r3, e3) := ⟨_, _, _, rfl⟩
    rw [takeDe_eq (look_head 0 l.length _ (by omega) (by omega) 3 (by omega)) (takeI_put _ true hx0 (.inl rfl) _) (takeI_put _ true hd0.1 (.inl rfl) _) hdiff h5']
    rw [if_neg (by omega), if_neg (by simp), if_neg (by simp), if_neg (by simp), if_neg (by simp), if_neg (by omega), if_neg (by omega), show ((l.length : Int) - 1).toNat = l.length - 1 from by omega, same_rep l _ hsm, hsteps]
    simp only [finDe]
    rw [hl]
theorem de_put (l : List Int) (h2 : 2 ≤ l.length) (h5 : l.length ≤ 512) : (putDe l true).2 = if okD l (l.length - 1) = true then 0 else 1 := by
  unfold putDe
  by_cases hok : okD l (l.length - 1) = true
  · rw [if_pos hok, if_neg]
    intro h
    unfold badDe at h
    rcases h with h | h | ⟨h, _⟩ | h
    · omega
    · omega
    · cases h
    · rw [hok] at h; cases h
  · rw [if_neg hok, if_pos]
    unfold badDe
    exact .inr (.inr (.inr (by simpa using hok)))
end Go.Proofs.YtmejoococajikaaGreat

/- Joined texts: PlainH, PlainD, PlainG, PlainGp, TxQ. Each has its own head line. No condition beyond those that its theorems state. -/
import Derived.Test.YtmejoococajikaaGreatJ13
import Derived.Test.YtmejoococajikaaGreatJ24
import Derived.Test.YtmejoococajikaaGreatJ27
import Derived.Test.YtmejoococajikaaGreatJ20
import Derived.Test.YtmejoococajikaaGreatJ22
import Derived.Test.YtmejoococajikaaGreatJ26
import Derived.Test.YtmejoococajikaaGreatJ28
import Derived.Test.YtmejoococajikaaGreatJ31
import Derived.Test.YtmejoococajikaaGreatJ36
set_option linter.unusedVariables false

/- Plain laws: a head is read as it was laid down. -/
namespace Go.Proofs.YtmejoococajikaaGreat
open Go.RowKit

theorem look_head (c n : Int) (r : List Int) (hc : 0 ≤ c ∧ c ≤ 31) (hn : 1 ≤ n ∧ n ≤ 512) (k : Int) (hk : 0 ≤ k ∧ k ≤ 3) : lookR (headR k c n ++ r) = (k, c, n, r, 0) := by
  unfold headR
  rw [if_pos (by omega)]
  unfold lookR
  rw [if_neg (by simp)]
  simp only [List.cons_append, List.nil_append, List.getD_cons_zero, List.getD_cons_succ, List.drop_succ_cons, List.drop_zero]
  generalize hx : 16384 * k + 512 * c + n - 1 = x
  refine Prod.ext ?_ (Prod.ext ?_ (Prod.ext ?_ rfl)) <;> dsimp only <;> omega
theorem head_u8 (k c n : Int) : U8 (headR k c n) ∧ (headR k c n).length ≤ 2 := by
  unfold headR
  split
  · refine ⟨fun x hx => ?_, by simp⟩
    rcases List.mem_cons.1 hx with rfl | hx
    · omega
    · rw [List.mem_singleton.1 hx]; omega
  · exact ⟨fun x hx => by (cases hx), by simp⟩
end Go.Proofs.YtmejoococajikaaGreat

/- Plain laws: numbers that were laid down as they are are taken back. -/
namespace Go.Proofs.YtmejoococajikaaGreat
open Go.RowKit

theorem madeL_cases (l : List Int) (s : Bool) : ∃ u e, madeL l s = (u, e) ∧ ((e = 0 ∧ u.length = l.length ∧ (U64 l → I64 u)) ∨ (e = 2 ∧ u = [])) := by
  unfold madeL
  cases s
  · rw [if_neg (by simp)]
    unfold mapOk
    split
    · rename_i h
      refine ⟨_, _, rfl, .inl ⟨rfl, by simp, fun hi x hx => ?_⟩⟩
      rw [List.map_id] at hx
      have h1 := hi x hx
      have h2 := List.all_eq_true.1 h x hx
      simp at h2
      omega
    · exact ⟨_, _, rfl, .inr ⟨rfl, rfl⟩⟩
  · rw [if_pos rfl]
    unfold mapOk
    rw [if_pos (by simp)]
    refine ⟨_, _, rfl, .inl ⟨rfl, by simp, fun hi x hx => ?_⟩⟩
    obtain ⟨y, hy, rfl⟩ := List.mem_map.1 hx
    exact zag_range y (hi y hy).1 (hi y hy).2
theorem takeD_good (b : List Int) (s : Bool) : I64 (takeD b s).1 ∧ (takeD b s).1.length ≤ 4096 := by
  unfold takeD
  split
  · exact ⟨fun x hx => by (cases hx), by simp⟩
  · split
    · exact ⟨fun x hx => by (cases hx), by simp⟩
    · split
      · exact ⟨fun x hx => by (cases hx), by simp⟩
      · have h1 := unpackR_u64 (lookR b).2.2.2.1 (lookR b).2.2.1 (wOf (lookR b).2.1)
        have h2 := unpackR_len (lookR b).2.2.2.1 (lookR b).2.2.1 (wOf (lookR b).2.1)
        generalize (unpackR (lookR b).2.2.2.1 (lookR b).2.2.1 (wOf (lookR b).2.1)).1 = u at *
        obtain ⟨p, e, h3, h4⟩ := madeL_cases u s
        rw [h3]
        rcases h4 with ⟨_, h5, h6⟩ | ⟨_, rfl⟩
        · exact ⟨h6 h1, by dsimp only; omega⟩
        · exact ⟨fun x hx => by (cases hx), by simp⟩
theorem wOf_code (b : Int) (h0 : 0 ≤ b) (h : b ≤ 64) : wOf (wCode (wClosest b)) = wClosest b ∧ 0 ≤ wCode (wClosest b) ∧ wCode (wClosest b) ≤ 31 := by
  obtain ⟨w, hw⟩ : ∃ w, w = wClosest b := ⟨_, rfl⟩
  obtain ⟨c, hc⟩ : ∃ c, c = wCode w := ⟨_, rfl⟩
  obtain ⟨v, hv⟩ : ∃ v, v = wOf c := ⟨_, rfl⟩
  rw [← hw, ← hc, ← hv]
  unfold wClosest at hw
  unfold wCode at hc
  have r2 : 0 ≤ c ∧ c ≤ 31 := by omega
  refine ⟨?_, r2⟩
  unfold wOf at hv
  omega
def keepB (s : Bool) (x : Int) : Bool := s || decide (0 ≤ x)
theorem plain_made (l : List Int) (s : Bool) (hi : I64 l) (hk : l.all (keepB s) = true) : ∃ u, plainL l s = (u, 0) ∧ U64 u ∧ u.length = l.length ∧ madeL u s = (l, 0) := by
  cases s
  · have h1 : ∀ x ∈ l, 0 ≤ x := fun x hx => by
      have := List.all_eq_true.1 hk x hx
      simpa [keepB] using this
    refine ⟨l, ?_, fun x hx => by have := hi x hx; have := h1 x hx; omega, rfl, ?_⟩
    · unfold plainL mapOk
      rw [if_neg (by simp), if_pos (List.all_eq_true.2 fun x hx => decide_eq_true (h1 x hx)), List.map_id]
    · unfold madeL mapOk
      rw [if_neg (by simp), if_pos (List.all_eq_true.2 fun x hx => decide_eq_true (hi x hx).2), List.map_id]
  · refine ⟨l.map zig, ?_, fun x hx => ?_, by simp, ?_⟩
    · unfold plainL mapOk
      rw [if_pos rfl, if_pos (by simp)]
    · obtain ⟨y, hy, rfl⟩ := List.mem_map.1 hx
      exact zig_range y (hi y hy).1 (hi y hy).2
    · unfold madeL mapOk
      rw [if_pos rfl, if_pos (by simp), List.map_map]
      congr 1
      conv => rhs; rw [← List.map_id l]
      exact List.map_congr_left fun x _ => zag_zig x
theorem putD_back (l : List Int) (s : Bool) (hi : I64 l) (hk : l.all (keepB s) = true) (h1 : 1 ≤ l.length) (h2 : l.length ≤ 512) :
    ∃ p, putD l s = (p, 0) ∧ U8 p ∧ p.length ≤ 5000 ∧ ∀ behind, takeD (p ++ behind) s = (l, behind, 0) := by
  obtain ⟨u, hp, hu, hl, hm⟩ := plain_made l s hi hk
  obtain ⟨k, hk0, hk1, hk2, hroom⟩ := most_room u hu
  have hm64 := mostBits_le u hu
  have hcode := wOf_code (mostBits u) (by omega) (by omega)
  rw [hk0] at hcode
  have hbits : u.length * k ≤ 512 * 64 := Nat.mul_le_mul (by omega) hk2
  obtain ⟨q, hq, hq8, hql, _⟩ := pack_back u [] k hk2 (by omega) hu hroom
  refine ⟨headR 1 (wCode k) l.length ++ q, ?_, ?_, ?_, fun behind => ?_⟩
  · unfold putD
    rw [hp]
    dsimp only
    rw [if_neg (by omega), hk0, hq]
  · intro x hx
    rcases List.mem_append.1 hx with hx | hx
    · exact (head_u8 _ _ _).1 x hx
    · exact hq8 x hx
  · rw [List.length_append]
    have := (head_u8 1 (wCode k) l.length).2
    omega
  · obtain ⟨q', hq', _, _, hun⟩ := pack_back u behind k hk2 (by omega) hu hroom
    have e : q' = q := by rw [hq] at hq'; injection hq' with h _; exact h.symm
    subst e
    unfold takeD
    rw [List.append_assoc, look_head (wCode k) l.length (q' ++ behind) hcode.2 (by omega) 1 (by omega)]
    dsimp only
    rw [hcode.1, ← hl, hun]
    dsimp only
    rw [hm]
    simp
end Go.Proofs.YtmejoococajikaaGreat

/- Rle: plain: a run is the shortest one; where it is cut; all runs. -/
namespace Go.Proofs.YtmejoococajikaaGreat
open Go.RowKit

/-- The run of kind c. -/
def candR (l : List Int) (s : Bool) (c : Nat) : List Int × Int :=
  if c = 0 then timesR l s else if c = 1 then putD l s else if c = 2 then putDe l s else putPa l (wOf ((c - 3 : Nat) : Int)) s
def shortR (o : List Int) (q : List Int × Int) : List Int := if q.2 = 0 ∧ (o = [] ∨ q.1.length < o.length) then q.1 else o
def runK (l : List Int) (s : Bool) : Nat → List Int
  | 0 => []
  | c + 1 => shortR (runK l s c) (candR l s c)
def badRun (l : List Int) (s : Bool) : Bool := decide (l.length < 1) || decide (512 < l.length) || (!s && l.any fun y => decide (y < 0))
/-- One run. -/
def runR (l : List Int) (s : Bool) : List Int × Int := if badRun l s then ([], 1) else (runK l s 34, 0)
theorem putD_ne (l : List Int) (s : Bool) (hu : I64 l) (p : List Int) (h : putD l s = (p, 0)) : 1 ≤ p.length := by
  unfold putD at h
  split at h
  · injection h with _ h; cases h
  · rename_i hb
    injection h with h _
    subst h
    obtain ⟨u, e, hpl, hcase⟩ := plainL_cases l s
    rw [hpl] at hb ⊢
    rcases hcase with ⟨rfl, hul, hu6⟩ | ⟨rfl, rfl⟩
    · obtain ⟨k, hk, hk1, hk2, hroom⟩ := most_room u (hu6 hu)
      have hb2 : ¬ l.length < 1 ∧ ¬ 512 < l.length := by
        refine ⟨fun h => hb (.inr (.inl h)), fun h => hb (.inr (.inr h))⟩
      rw [List.length_append]
      dsimp only
      have h64 := mostBits_le u (hu6 hu)
      have hw := wOf_code (mostBits u) (by omega) (by omega)
      unfold headR
      rw [if_pos (by omega)]
      simp only [List.length_cons]
      omega
    · exact absurd (.inl (by decide)) hb
theorem cand_ne (l : List Int) (s : Bool) (hu : I64 l) (c : Nat) (p : List Int) (h : candR l s c = (p, 0)) : 1 ≤ p.length := by
  unfold candR at h
  split at h
  · unfold timesR at h
    split at h
    · unfold putR at h
      split at h
      · injection h with _ h; cases h
      · injection h with h _; subst h; simp
    · injection h with _ h; cases h
  · split at h
    · exact putD_ne l s hu p h
    · split at h
      · unfold putDe at h
        split at h
        · injection h with _ h; cases h
        · injection h with h _; subst h
          simp only [List.length_append]
          have := (vput_len 9 (unsN (dAt l 0) true)).1
          unfold vput
          omega
      · unfold putPa at h
        split at h
        · injection h with _ h; cases h
        · injection h with h _; subst h
          simp only [List.length_append, twoPa, List.length_cons]
          omega
end Go.Proofs.YtmejoococajikaaGreat

/- Rle: plain: how long a run is; all runs. -/
namespace Go.Proofs.YtmejoococajikaaGreat
open Go.RowKit

theorem putD_len (l : List Int) (s : Bool) (hu : I64 l) (p : List Int) (h : putD l s = (p, 0)) : 2 ≤ p.length ∧ p.length ≤ 2 + 8 * l.length := by
  unfold putD at h
  split at h
  · injection h with _ h; cases h
  · rename_i hb
    injection h with h _
    subst h
    obtain ⟨u, e, hpl, hcase⟩ := plainL_cases l s
    rw [hpl] at hb ⊢
    rcases hcase with ⟨rfl, hul, hu6⟩ | ⟨rfl, rfl⟩
    · obtain ⟨k, hk, hk1, hk2, hroom⟩ := most_room u (hu6 hu)
      have hb2 : ¬ l.length < 1 ∧ ¬ 512 < l.length := by
        refine ⟨fun h => hb (.inr (.inl h)), fun h => hb (.inr (.inr h))⟩
      obtain ⟨p, hp, hpl2⟩ := packR_ok u k (by omega) (by omega) hroom
      have h64 := mostBits_le u (hu6 hu)
      have hw := wOf_code (mostBits u) (by omega) (by omega)
      have hh : (headR 1 (wCode (wClosest (mostBits u))) l.length).length = 2 := by
        unfold headR
        rw [if_pos (by omega)]
        rfl
      rw [List.length_append]
      dsimp only
      rw [hh, hk, hp]
      dsimp only
      rw [hpl2, hul]
      have : l.length * k ≤ l.length * 64 := Nat.mul_le_mul_left _ hk2
      omega
    · exact absurd (.inl (by decide)) hb
theorem putD_ok (l : List Int) (s : Bool) (h : badRun l s = false) : ∃ p, putD l s = (p, 0) := by
  unfold badRun at h
  simp only [Bool.or_eq_false_iff, decide_eq_false_iff_not] at h
  obtain ⟨pu, pe, hpl, hpc⟩ := plain_err l s
  unfold putD
  rw [hpl]
  rcases hpc with ⟨rfl, _⟩ | ⟨rfl, hneg⟩
  · rw [if_neg (by rintro (h1 | h1 | h1); exact absurd rfl h1; exact h.1.1 h1; exact h.1.2 h1)]
    exact ⟨_, rfl⟩
  · rw [hneg] at h
    cases h.2
theorem putD_no (l : List Int) (s : Bool) (h : badRun l s = true) : putD l s = ([], 1) := by
  obtain ⟨pu, pe, hpl, hpc⟩ := plain_err l s
  unfold putD
  rw [hpl]
  rw [if_pos]
  unfold badRun at h
  rcases hpc with ⟨rfl, hn⟩ | ⟨rfl, hneg⟩
  · rw [hn, Bool.or_false] at h
    simp only [Bool.or_eq_true, decide_eq_true_eq] at h
    exact .inr h
  · exact .inl (show (1 : Int) ≠ 0 by decide)
theorem putDe_no (l : List Int) (s : Bool) (h : badRun l s = true) : putDe l s = ([], 1) := by
  unfold putDe
  rw [if_pos]
  unfold badRun at h
  unfold badDe
  simp only [Bool.or_eq_true, decide_eq_true_eq, Bool.and_eq_true, Bool.not_eq_true'] at h
  rcases h with (h | h) | h
  · exact .inl (by omega)
  · exact .inr (.inl h)
  · exact .inr (.inr (.inl h))
theorem cand_two (l : List Int) (s : Bool) (hu : I64 l) (c : Nat) (p : List Int) (h : candR l s c = (p, 0)) : 2 ≤ p.length := by
  unfold candR at h
  split at h
  · unfold timesR at h
    split at h
    · unfold putR at h
      split at h
      · injection h with _ h; cases h
      · injection h with h _; subst h
        rw [List.length_cons, hiB_len]
        unfold longN
        omega
    · injection h with _ h; cases h
  · split at h
    · exact (putD_len l s hu p h).1
    · split at h
      · unfold putDe at h
        split at h
        · injection h with _ h; cases h
        · injection h with h _; subst h
          simp only [List.length_append]
          have h1 := (vput_len 9 (unsN (dAt l 0) true)).1
          have h2 := (vput_len 9 (unsN (l.getD 0 0) s)).1
          unfold vput
          omega
      · unfold putPa at h
        split at h
        · injection h with _ h; cases h
        · injection h with h _; subst h
          simp only [List.length_append, twoPa, List.length_cons]
          omega
theorem shortR_ne (o : List Int) (q : List Int × Int) (hq : q.2 = 0 → 1 ≤ q.1.length) (h : o ≠ []) : shortR o q ≠ [] ∧ (shortR o q).length ≤ o.length := by
  unfold shortR
  split
  · rename_i h1
    have := hq h1.1
    refine ⟨fun h2 => by rw [h2] at this; simp at this, ?_⟩
    rcases h1.2 with h2 | h2
    · exact absurd h2 h
    · omega
  · exact ⟨h, Nat.le_refl _⟩
theorem shortR_to (o p : List Int) (hq : 1 ≤ p.length) : shortR o (p, 0) ≠ [] ∧ (shortR o (p, 0)).length ≤ p.length := by
  unfold shortR
  split
  · refine ⟨fun h2 => ?_, Nat.le_refl _⟩
    dsimp only at h2
    rw [h2] at hq
    simp at hq
  · rename_i h
    dsimp only at h
    exact ⟨fun h1 => h ⟨rfl, .inl h1⟩, Nat.le_of_not_lt fun h1 => h ⟨rfl, .inr h1⟩⟩
theorem runK_le (l : List Int) (s : Bool) (hu : I64 l) (j : Nat) (p : List Int) (h : candR l s j = (p, 0)) : ∀ d, runK l s (j + 1 + d) ≠ [] ∧ (runK l s (j + 1 + d)).length ≤ p.length := by
  intro d
  induction d with
  | zero =>
    show shortR (runK l s j) (candR l s j) ≠ [] ∧ (shortR (runK l s j) (candR l s j)).length ≤ p.length
    rw [h]
    exact shortR_to _ _ (cand_ne l s hu j p h)
  | succ d ih =>
    have h1 := shortR_ne (runK l s (j + 1 + d)) (candR l s (j + 1 + d)) (fun he => cand_ne l s hu (j + 1 + d) _ (by rw [← he])) ih.1
    exact ⟨h1.1, Nat.le_trans h1.2 ih.2⟩
theorem runK_is (l : List Int) (s : Bool) : ∀ c, runK l s c = [] ∨ ∃ j, j < c ∧ candR l s j = (runK l s c, 0) := by
  intro c
  induction c with
  | zero => exact .inl rfl
  | succ c ih =>
    have h : runK l s (c + 1) = shortR (runK l s c) (candR l s c) := rfl
    unfold shortR at h
    split at h
    · rename_i h1
      right
      refine ⟨c, Nat.lt_succ_self c, ?_⟩
      rw [h, ← h1.1]
    · rw [h]
      rcases ih with h2 | ⟨j, hj, h2⟩
      · exact .inl h2
      · exact .inr ⟨j, by omega, h2⟩
/-- A run is what one of the kinds is. -/
theorem run_ok (l : List Int) (s : Bool) (hu : I64 l) (h : badRun l s = false) : ∃ q, runR l s = (q, 0) ∧ 2 ≤ q.length ∧ q.length ≤ 2 + 8 * l.length ∧ (∃ j, j < 34 ∧ candR l s j = (q, 0)) ∧ ∀ j p, j < 34 → candR l s j = (p, 0) → q.length ≤ p.length := by
  have h0 : runR l s = (runK l s 34, 0) := by unfold runR; rw [h]; rfl
  obtain ⟨p, hp⟩ := putD_ok l s h
  have hc : candR l s 1 = (p, 0) := by unfold candR; rw [if_neg (by omega), if_pos rfl]; exact hp
  have h1 := runK_le l s hu 1 p hc 32
  have h2 := putD_len l s hu p hp
  rcases runK_is l s 34 with h3 | ⟨j, hj, h3⟩
  · exact absurd h3 h1.1
  · refine ⟨_, h0, cand_two l s hu j _ h3, Nat.le_trans h1.2 h2.2, ⟨j, hj, h3⟩, fun j p hj hp => ?_⟩
    have h4 := (runK_le l s hu j p hp (33 - j)).2
    rwa [show j + 1 + (33 - j) = 34 from by omega] at h4
theorem run_cases (l : List Int) (s : Bool) (hu : I64 l) : runR l s = ([], 1) ∨ ∃ q, runR l s = (q, 0) ∧ q.length ≤ 2 + 8 * l.length := by
  cases h : badRun l s
  · obtain ⟨q, h1, _, h2, _⟩ := run_ok l s hu h
    exact .inr ⟨q, h1, h2⟩
  · left
    unfold runR
    rw [h]
    rfl
/-- All runs. -/
def putF (s : Bool) : Nat → List Int → List Int → List Int × Int
  | 0, out, _ => (out, 0)
  | f + 1, out, l => if l.length = 0 then (out, 0)
    else if (runR (l.take (cutL l)) s).2 ≠ 0 then ([], (runR (l.take (cutL l)) s).2)
    else putF s f (out ++ (runR (l.take (cutL l)) s).1) (l.drop (cutL l))
def putGl (l : List Int) (s : Bool) : List Int × Int := if 4096 < l.length then ([], 3) else putF s (l.length + 1) [] l
end Go.Proofs.YtmejoococajikaaGreat

/- Texts: numbers that are not below zero are laid down without a refusal. -/
namespace Go.Proofs.YtmejoococajikaaGreat
open Go.RowKit

theorem badRun_nn (l : List Int) (h : ∀ y ∈ l, 0 ≤ y) (h1 : 1 ≤ l.length) (h2 : l.length ≤ 512) : badRun l false = false := by
  unfold badRun
  rw [decide_eq_false (by omega), decide_eq_false (by omega), Bool.or_self, Bool.false_or]
  have : (l.any fun y => decide (y < 0)) = false := by
    rw [List.any_eq_false]
    intro y hy
    have := h y hy
    simp; omega
  rw [this, Bool.and_false]
theorem putF_nn : ∀ (f : Nat) (l out : List Int), I64 l → (∀ y ∈ l, 0 ≤ y) → (putF false f out l).2 = 0
  | 0, l, out, _, _ => rfl
  | f + 1, l, out, hu, h => by
    rw [putF]
    split
    · rfl
    · have hc := cutL_range l (by omega)
      obtain ⟨q, hq, _⟩ := run_ok (l.take (cutL l)) false (fun y hy => hu y (List.mem_of_mem_take hy)) (badRun_nn _ (fun y hy => h y (List.mem_of_mem_take hy)) (by rw [List.length_take]; omega) (by rw [List.length_take]; omega))
      rw [hq, if_neg (by simp)]
      exact putF_nn f _ _ (fun y hy => hu y (List.mem_of_mem_drop hy)) (fun y hy => h y (List.mem_of_mem_drop hy))
theorem putGl_nn (l : List Int) (hu : I64 l) (h : ∀ y ∈ l, 0 ≤ y) (hn : l.length ≤ 4096) : (putGl l false).2 = 0 := by
  unfold putGl
  rw [if_neg (by omega)]
  exact putF_nn _ _ _ hu h
theorem placesT_nn (W l : List ByteArray) : ∀ y ∈ placesT W l, 0 ≤ y := fun y hy => by
  obtain ⟨s, _, rfl⟩ := List.mem_map.1 hy
  omega
theorem placesT_i64 {W l : List ByteArray} (h : ∀ s ∈ l, s ∈ W) (hW : W.length ≤ 1000000) : I64 (placesT W l) := fun y hy => by
  obtain ⟨s, hs, rfl⟩ := List.mem_map.1 hy
  have := idxT_lt (h s hs)
  omega
theorem placesT_len (W l : List ByteArray) : (placesT W l).length = l.length := by unfold placesT; rw [List.length_map]
end Go.Proofs.YtmejoococajikaaGreat

/- Joined texts: PlainH, PlainD, PlainG. Each has its own head line. No condition beyond those that its theorems state. -/
import Derived.Test.YtmejoococajikaaJ20
import Derived.Test.YtmejoococajikaaJ25
import Derived.Test.YtmejoococajikaaJ12
import Derived.Test.YtmejoococajikaaJ23
import Derived.Test.YtmejoococajikaaJ28
set_option linter.unusedVariables false

/- Plain laws: a head is read as it was laid down. -/
namespace Go.Proofs.Ytmejoococajikaa
open Go.RowKit

theorem look_head (c n : Int) (r : List Int) (hc : 0 ≤ c ∧ c ≤ 31) (hn : 1 ≤ n ∧ n ≤ 512) (k : Int) (hk : 0 ≤ k ∧ k ≤ 3) : lookR (headR k c n ++ r) = (k, c, n, r, 0) := by
  unfold headR
  rw [if_pos (by omega)]
  unfold lookR
  rw [if_neg (by simp)]
  simp only [List.cons_append, List.nil_append, List.getD_cons_zero, List.getD_cons_succ, List.drop_succ_cons, List.drop_zero]
  generalize hx : 16384 * k + 512 * c + n - 1 = x
  refine Prod.ext ?_ (Prod.ext ?_ (Prod.ext ?_ rfl)) <;> dsimp only <;> omega
theorem head_u8 (k c n : Int) : U8 (headR k c n) ∧ (headR k c n).length ≤ 2 := by
  unfold headR
  split
  · refine ⟨fun x hx => ?_, by simp⟩
    rcases List.mem_cons.1 hx with rfl | hx
    · omega
    · rw [List.mem_singleton.1 hx]; omega
  · exact ⟨fun x hx => by (cases hx), by simp⟩
end Go.Proofs.Ytmejoococajikaa

/- Plain laws: numbers that were laid down as they are are taken back. -/
namespace Go.Proofs.Ytmejoococajikaa
open Go.RowKit

theorem madeL_cases (l : List Int) (s : Bool) : ∃ u e, madeL l s = (u, e) ∧ ((e = 0 ∧ u.length = l.length ∧ (U64 l → I64 u)) ∨ (e = 2 ∧ u = [])) := by
  unfold madeL
  cases s
  · rw [if_neg (by simp)]
    unfold mapOk
    split
    · rename_i h
      refine ⟨_, _, rfl, .inl ⟨rfl, by simp, fun hi x hx => ?_⟩⟩
      rw [List.map_id] at hx
      have h1 := hi x hx
      have h2 := List.all_eq_true.1 h x hx
      simp at h2
      omega
    · exact ⟨_, _, rfl, .inr ⟨rfl, rfl⟩⟩
  · rw [if_pos rfl]
    unfold mapOk
    rw [if_pos (by simp)]
    refine ⟨_, _, rfl, .inl ⟨rfl, by simp, fun hi x hx => ?_⟩⟩
    obtain ⟨y, hy, rfl⟩ := List.mem_map.1 hx
    exact zag_range y (hi y hy).1 (hi y hy).2
theorem takeD_good (b : List Int) (s : Bool) : I64 (takeD b s).1 ∧ (takeD b s).1.length ≤ 4096 := by
  unfold takeD
  split
  · exact ⟨fun x hx => by (cases hx), by simp⟩
  · split
    · exact ⟨fun x hx => by (cases hx), by simp⟩
    · split
      · exact ⟨fun x hx => by (cases hx), by simp⟩
      · have h1 := unpackR_u64 (lookR b).2.2.2.1 (lookR b).2.2.1 (wOf (lookR b).2.1)
        have h2 := unpackR_len (lookR b).2.2.2.1 (lookR b).2.2.1 (wOf (lookR b).2.1)
        generalize (unpackR (lookR b).2.2.2.1 (lookR b).2.2.1 (wOf (lookR b).2.1)).1 = u at *
        obtain ⟨p, e, h3, h4⟩ := madeL_cases u s
        rw [h3]
        rcases h4 with ⟨_, h5, h6⟩ | ⟨_, rfl⟩
        · exact ⟨h6 h1, by dsimp only; omega⟩
        · exact ⟨fun x hx => by (cases hx), by simp⟩
theorem wOf_code (b : Int) (h0 : 0 ≤ b) (h : b ≤ 64) : wOf (wCode (wClosest b)) = wClosest b ∧ 0 ≤ wCode (wClosest b) ∧ wCode (wClosest b) ≤ 31 := by
  obtain ⟨w, hw⟩ : ∃ w, w = wClosest b := ⟨_, rfl⟩
  obtain ⟨c, hc⟩ : ∃ c, c = wCode w := ⟨_, rfl⟩
  obtain ⟨v, hv⟩ : ∃ v, v = wOf c := ⟨_, rfl⟩
  rw [← hw, ← hc, ← hv]
  unfold wClosest at hw
  unfold wCode at hc
  have r2 : 0 ≤ c ∧ c ≤ 31 := by omega
  refine ⟨?_, r2⟩
  unfold wOf at hv
  omega
def keepB (s : Bool) (x : Int) : Bool := s || decide (0 ≤ x)
theorem plain_made (l : List Int) (s : Bool) (hi : I64 l) (hk : l.all (keepB s) = true) : ∃ u, plainL l s = (u, 0) ∧ U64 u ∧ u.length = l.length ∧ madeL u s = (l, 0) := by
  cases s
  · have h1 : ∀ x ∈ l, 0 ≤ x := fun x hx => by
      have := List.all_eq_true.1 hk x hx
      simpa [keepB] using this
    refine ⟨l, ?_, fun x hx => by have := hi x hx; have := h1 x hx; omega, rfl, ?_⟩
    · unfold plainL mapOk
      rw [if_neg (by simp), if_pos (List.all_eq_true.2 fun x hx => decide_eq_true (h1 x hx)), List.map_id]
    · unfold madeL mapOk
      rw [if_neg (by simp), if_pos (List.all_eq_true.2 fun x hx => decide_eq_true (hi x hx).2), List.map_id]
  · refine ⟨l.map zig, ?_, fun x hx => ?_, by simp, ?_⟩
    · unfold plainL mapOk
      rw [if_pos rfl, if_pos (by simp)]
    · obtain ⟨y, hy, rfl⟩ := List.mem_map.1 hx
      exact zig_range y (hi y hy).1 (hi y hy).2
    · unfold madeL mapOk
      rw [if_pos rfl, if_pos (by simp), List.map_map]
      congr 1
      conv => rhs; rw [← List.map_id l]
      exact List.map_congr_left fun x _ => zag_zig x
theorem putD_back (l : List Int) (s : Bool) (hi : I64 l) (hk : l.all (keepB s) = true) (h1 : 1 ≤ l.length) (h2 : l.length ≤ 512) :
    ∃ p, putD l s = (p, 0) ∧ U8 p ∧ p.length ≤ 5000 ∧ ∀ behind, takeD (p ++ behind) s = (l, behind, 0) := by
  obtain ⟨u, hp, hu, hl, hm⟩ := plain_made l s hi hk
  obtain ⟨k, hk0, hk1, hk2, hroom⟩ := most_room u hu
  have hm64 := mostBits_le u hu
  have hcode := wOf_code (mostBits u) (by omega) (by omega)
  rw [hk0] at hcode
  have hbits : u.length * k ≤ 512 * 64 := Nat.mul_le_mul (by omega) hk2
  obtain ⟨q, hq, hq8, hql, _⟩ := pack_back u [] k hk2 (by omega) hu hroom
  refine ⟨headR 1 (wCode k) l.length ++ q, ?_, ?_, ?_, fun behind => ?_⟩
  · unfold putD
    rw [hp]
    dsimp only
    rw [if_neg (by omega), hk0, hq]
  · intro x hx
    rcases List.mem_append.1 hx with hx | hx
    · exact (head_u8 _ _ _).1 x hx
    · exact hq8 x hx
  · rw [List.length_append]
    have := (head_u8 1 (wCode k) l.length).2
    omega
  · obtain ⟨q', hq', _, _, hun⟩ := pack_back u behind k hk2 (by omega) hu hroom
    have e : q' = q := by rw [hq] at hq'; injection hq' with h _; exact h.symm
    subst e
    unfold takeD
    rw [List.append_assoc, look_head (wCode k) l.length (q' ++ behind) hcode.2 (by omega) 1 (by omega)]
    dsimp only
    rw [hcode.1, ← hl, hun]
    dsimp only
    rw [hm]
    simp
end Go.Proofs.Ytmejoococajikaa

/- Rle: plain: a run is the shortest one; where it is cut; all runs. -/
namespace Go.Proofs.Ytmejoococajikaa
open Go.RowKit

/-- The run of kind c. -/
def candR (l : List Int) (s : Bool) (c : Nat) : List Int × Int :=
  if c = 0 then timesR l s else if c = 1 then putD l s else if c = 2 then putDe l s else putPa l (wOf ((c - 3 : Nat) : Int)) s
def shortR (o : List Int) (q : List Int × Int) : List Int := if q.2 = 0 ∧ (o = [] ∨ q.1.length < o.length) then q.1 else o
def runK (l : List Int) (s : Bool) : Nat → List Int
  | 0 => []
  | c + 1 => shortR (runK l s c) (candR l s c)
def badRun (l : List Int) (s : Bool) : Bool := decide (l.length < 1) || decide (512 < l.length) || (!s && l.any fun y => decide (y < 0))
/-- One run. -/
def runR (l : List Int) (s : Bool) : List Int × Int := if badRun l s then ([], 1) else (runK l s 34, 0)
theorem putD_ne (l : List Int) (s : Bool) (hu : I64 l) (p : List Int) (h : putD l s = (p, 0)) : 1 ≤ p.length := by
  unfold putD at h
  split at h
  · injection h with _ h; cases h
  · rename_i hb
    injection h with h _
    subst h
    obtain ⟨u, e, hpl, hcase⟩ := plainL_cases l s
    rw [hpl] at hb ⊢
    rcases hcase with ⟨rfl, hul, hu6⟩ | ⟨rfl, rfl⟩
    · obtain ⟨k, hk, hk1, hk2, hroom⟩ := most_room u (hu6 hu)
      have hb2 : ¬ l.length < 1 ∧ ¬ 512 < l.length := by
        refine ⟨fun h => hb (.inr (.inl h)), fun h => hb (.inr (.inr h))⟩
      rw [List.length_append]
      dsimp only
      have h64 := mostBits_le u (hu6 hu)
      have hw := wOf_code (mostBits u) (by omega) (by omega)
      unfold headR
      rw [if_pos (by omega)]
      simp only [List.length_cons]
      omega
    · exact absurd (.inl (by decide)) hb
theorem cand_ne (l : List Int) (s : Bool) (hu : I64 l) (c : Nat) (p : List Int) (h : candR l s c = (p, 0)) : 1 ≤ p.length := by
  unfold candR at h
  split at h
  · unfold timesR at h
    split at h
    · unfold putR at h
      split at h
      · injection h with _ h; cases h
      · injection h with h _; subst h; simp
    · injection h with _ h; cases h
  · split at h
    · exact putD_ne l s hu p h
    · split at h
      · unfold putDe at h
        split at h
        · injection h with _ h; cases h
        · injection h with h _; subst h
          simp only [List.length_append]
          have := (vput_len 9 (unsN (dAt l 0) true)).1
          unfold vput
          omega
      · unfold putPa at h
        split at h
        · injection h with _ h; cases h
        · injection h with h _; subst h
          simp only [List.length_append, twoPa, List.length_cons]
          omega
end Go.Proofs.Ytmejoococajikaa

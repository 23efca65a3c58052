/- Plain laws: numbers that were laid down as they are are taken back. -/
import Derived.Test.YtpgkbcgjjmdfiaaDTake
import Derived.Test.YtpgkbcgjjmdfiaaPlainV
namespace Go.Proofs.Ytpgkbcgjjmdfiaa
open Go.RowKit

theorem madeL_cases (l : List Int) (s : Bool) : ∃ u e, madeL l s = (u, e) ∧ ((e = 0 ∧ u.length = l.length ∧ (U64 l → I64 u)) ∨ (e = 2 ∧ u = [])) := by
  unfold madeL
  cases s
  · rw [if_neg (by simp)]
    unfold mapOk
    split
    · rename_i h
      refine ⟨_, _, rfl, .inl ⟨rfl, by simp, fun hi x hx => ?_⟩⟩
      rw [List.map_id] at hx
      have h1 := hi x hx
      have h2 := List.all_eq_true.1 h x hx
      simp at h2
      omega
    · exact ⟨_, _, rfl, .inr ⟨rfl, rfl⟩⟩
  · rw [if_pos rfl]
    unfold mapOk
    rw [if_pos (by simp)]
    refine ⟨_, _, rfl, .inl ⟨rfl, by simp, fun hi x hx => ?_⟩⟩
    obtain ⟨y, hy, rfl⟩ := List.mem_map.1 hx
    exact zag_range y (hi y hy).1 (hi y hy).2
theorem takeD_good (b : List Int) (s : Bool) : I64 (takeD b s).1 ∧ (takeD b s).1.length ≤ 4096 := by
  unfold takeD
  split
  · exact ⟨fun x hx => by (cases hx), by simp⟩
  · split
    · exact ⟨fun x hx => by (cases hx), by simp⟩
    · split
      · exact ⟨fun x hx => by (cases hx), by simp⟩
      · have h1 := unpackR_u64 (lookR b).2.2.2.1 (lookR b).2.2.1 (wOf (lookR b).2.1)
        have h2 := unpackR_len (lookR b).2.2.2.1 (lookR b).2.2.1 (wOf (lookR b).2.1)
        generalize (unpackR (lookR b).2.2.2.1 (lookR b).2.2.1 (wOf (lookR b).2.1)).1 = u at *
        obtain ⟨p, e, h3, h4⟩ := madeL_cases u s
        rw [h3]
        rcases h4 with ⟨_, h5, h6⟩ | ⟨_, rfl⟩
        · exact ⟨h6 h1, by dsimp only; omega⟩
        · exact ⟨fun x hx => by (cases hx), by simp⟩
theorem wOf_code (b : Int) (h0 : 0 ≤ b) (h : b ≤ 64) : wOf (wCode (wClosest b)) = wClosest b ∧ 0 ≤ wCode (wClosest b) ∧ wCode (wClosest b) ≤ 31 := by
  obtain ⟨w, hw⟩ : ∃ w, w = wClosest b := ⟨_, rfl⟩
  obtain ⟨c, hc⟩ : ∃ c, c = wCode w := ⟨_, rfl⟩
  obtain ⟨v, hv⟩ : ∃ v, v = wOf c := ⟨_, rfl⟩
  rw [← hw, ← hc, ← hv]
  unfold wClosest at hw
  unfold wCode at hc
  have r2 : 0 ≤ c ∧ c ≤ 31 := by omega
  refine ⟨?_, r2⟩
  unfold wOf at hv
  omega
def keepB (s : Bool) (x : Int) : Bool := s || decide (0 ≤ x)
theorem plain_made (l : List Int) (s : Bool) (hi : I64 l) (hk : l.all (keepB s) = true) : ∃ u, plainL l s = (u, 0) ∧ U64 u ∧ u.length = l.length ∧ madeL u s = (l, 0) := by
  cases s
  · have h1 : ∀ x ∈ l, 0 ≤ x := fun x hx => by
      have := List.all_eq_true.1 hk x hx
      simpa [keepB] using this
    refine ⟨l, ?_, fun x hx => by have := hi x hx; have := h1 x hx; omega, rfl, ?_⟩
    · unfold plainL mapOk
      rw [if_neg (by simp), if_pos (List.all_eq_true.2 fun x hx => decide_eq_true (h1 x hx)), List.map_id]
    · unfold madeL mapOk
      rw [if_neg (by simp), if_pos (List.all_eq_true.2 fun x hx => decide_eq_true (hi x hx).2), List.map_id]
  · refine ⟨l.map zig, ?_, fun x hx => ?_, by simp, ?_⟩
    · unfold plainL mapOk
      rw [if_pos rfl, if_pos (by simp)]
    · obtain ⟨y, hy, rfl⟩ := List.mem_map.1 hx
      exact zig_range y (hi y hy).1 (hi y hy).2
    · unfold madeL mapOk
      rw [if_pos rfl, if_pos (by simp), List.map_map]
      congr 1
      conv => rhs; rw [← List.map_id l]
      exact List.map_congr_left fun x _ => zag_zig x
theorem look_head (c n : Int) (r : List Int) (hc : 0 ≤ c ∧ c ≤ 31) (hn : 1 ≤ n ∧ n ≤ 512) (k : Int) (hk : 0 ≤ k ∧ k ≤ 3) : lookR (headR k c n ++ r) = (k, c, n, r, 0) := by
  unfold headR
  rw [if_pos (by omega)]
  unfold lookR
  rw [if_neg (by simp)]
  simp only [List.cons_append, List.nil_append, List.getD_cons_zero, List.getD_cons_succ, List.drop_succ_cons, List.drop_zero]
  generalize hx : 16384 * k + 512 * c + n - 1 = x
  refine Prod.ext ?_ (Prod.ext ?_ (Prod.ext ?_ rfl)) <;> dsimp only <;> omega
theorem head_u8 (k c n : Int) : U8 (headR k c n) ∧ (headR k c n).length ≤ 2 := by
  unfold headR
  split
  · refine ⟨fun x hx => ?_, by simp⟩
    rcases List.mem_cons.1 hx with rfl | hx
    · omega
    · rw [List.mem_singleton.1 hx]; omega
  · exact ⟨fun x hx => by (cases hx), by simp⟩
theorem putD_back (l : List Int) (s : Bool) (hi : I64 l) (hk : l.all (keepB s) = true) (h1 : 1 ≤ l.length) (h2 : l.length ≤ 512) :
    ∃ p, putD l s = (p, 0) ∧ U8 p ∧ p.length ≤ 5000 ∧ ∀ behind, takeD (p ++ behind) s = (l, behind, 0) := by
  obtain ⟨u, hp, hu, hl, hm⟩ := plain_made l s hi hk
  obtain ⟨k, hk0, hk1, hk2, hroom⟩ := most_room u hu
  have hm64 := mostBits_le u hu
  have hcode := wOf_code (mostBits u) (by omega) (by omega)
  rw [hk0] at hcode
  have hbits : u.length * k ≤ 512 * 64 := Nat.mul_le_mul (by omega) hk2
  obtain ⟨q, hq, hq8, hql, _⟩ := pack_back u [] k hk2 (by omega) hu hroom
  refine ⟨headR 1 (wCode k) l.length ++ q, ?_, ?_, ?_, fun behind => ?_⟩
  · unfold putD
    rw [hp]
    dsimp only
    rw [if_neg (by omega), hk0, hq]
  · intro x hx
    rcases List.mem_append.1 hx with hx | hx
    · exact (head_u8 _ _ _).1 x hx
    · exact hq8 x hx
  · rw [List.length_append]
    have := (head_u8 1 (wCode k) l.length).2
    omega
  · obtain ⟨q', hq', _, _, hun⟩ := pack_back u behind k hk2 (by omega) hu hroom
    have e : q' = q := by rw [hq] at hq'; injection hq' with h _; exact h.symm
    subst e
    unfold takeD
    rw [List.append_assoc, look_head (wCode k) l.length (q' ++ behind) hcode.2 (by omega) 1 (by omega)]
    dsimp only
    rw [hcode.1, ← hl, hun]
    dsimp only
    rw [hm]
    simp
end Go.Proofs.Ytpgkbcgjjmdfiaa

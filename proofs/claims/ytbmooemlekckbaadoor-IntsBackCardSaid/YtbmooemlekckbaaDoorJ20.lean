/- Joined texts: DTake, PlainH, PlainD, PlainG. Each has its own head line. No condition beyond those that its theorems state. -/
import Derived.Test.YtbmooemlekckbaaDoorJ18
import Derived.Test.YtbmooemlekckbaaDoorJ16
import Derived.Test.YtbmooemlekckbaaDoorJ17
import Derived.Test.YtbmooemlekckbaaDoorJ12
import Derived.Test.YtbmooemlekckbaaDoorJ10
import Derived.Test.YtbmooemlekckbaaDoorJ14
import Derived.Test.YtbmooemlekckbaaDoorJ19
set_option linter.unusedVariables false

/- direct.Take and its reference. -/
namespace Go.Proofs.YtbmooemlekckbaaDoor
open Go.RowKit

def takeD (b : List Int) (s : Bool) : List Int × List Int × Int :=
  if (lookR b).2.2.2.2 ≠ 0 ∨ (lookR b).1 ≠ 1 then ([], [], 2)
  else if (unpackR (lookR b).2.2.2.1 (lookR b).2.2.1 (wOf (lookR b).2.1)).2.2 ≠ 0 then ([], [], 2)
  else if (madeL (unpackR (lookR b).2.2.2.1 (lookR b).2.2.1 (wOf (lookR b).2.1)).1 s).2 ≠ 0 then ([], [], 2)
  else ((madeL (unpackR (lookR b).2.2.2.1 (lookR b).2.2.1 (wOf (lookR b).2.1)).1 s).1, (unpackR (lookR b).2.2.2.1 (lookR b).2.2.1 (wOf (lookR b).2.1)).2.1, 0)
/-- Numbers, bytes and an error's number are handed back. -/
def TakeOutD (w : World) (l1 l2 : List Int) (er : Int) (e : Ending) (w' : World) : Prop :=
  ∃ G n c G2 n2 c2, e = .returned (.tuple #[.slice G n c, .slice G2 n2 c2, .int .i64 er]) ∧ Sl w' .i64 G n c l1 ∧ Sl w' .u8 G2 n2 c2 l2 ∧ Below w.heap.size w w'
theorem lookR_good (b : List Int) (hu : U8 b) : U8 (lookR b).2.2.2.1 ∧ ((lookR b).2.2.2.2 = 0 ∨ (lookR b).2.2.2.2 = 2) ∧ (0 ≤ (lookR b).2.1 ∧ (lookR b).2.1 < 32) ∧ (lookR b).2.2.2.1.length ≤ b.length := by
  unfold lookR
  split
  · exact ⟨fun x hx => by (cases hx), .inr rfl, by simp, by simp⟩
  · exact ⟨fun x hx => hu x (List.mem_of_mem_drop hx), .inl rfl, ⟨by dsimp only; omega, by dsimp only; omega⟩, by simp⟩

set_option maxRecDepth 100000 in
set_option maxHeartbeats 1000000 in
theorem DTake_any (w : World) (A : Option Addr) (n cap : Nat) (b : List Int) (hr : Ri w .u8 A n b) (hu : U8 b) (hc : n ≤ cap) (hm : cap ≤ 9223372036854775807) (hn : n ≤ 1000000) (s : Bool) (l r : List Int) (er : Int) (hl : takeD b s = (l, r, er)) :
    Calls Tryd.prog 56 #[.slice A n cap, .bool s] w (TakeOutD w l r er) := by
  have HR := Lib.hid hr; have HU := Lib.hid hu; have HN := Lib.hid hr.len
  obtain ⟨g1, g2, g3, g4⟩ := lookR_good b hu
  rw [hr.len] at g4
  unfold takeD at hl
  clear hr hu
  obtain ⟨k, c, m, q, e1, hlk⟩ : ∃ k c m q e1, lookR b = (k, c, m, q, e1) := ⟨_, _, _, _, _, rfl⟩
  rw [hlk] at hl g1 g2 g3 g4
  dsimp only at hl g1 g2 g3 g4
  have HLK := Lib.hid hlk; have HU1 := Lib.hid g1
  clear hlk g1
  by_cases h1 : e1 ≠ 0 ∨ k ≠ 1
  · rw [if_pos h1] at hl
    injection hl with a1 hl; injection hl with a2 a3
    subst a1 a2 a3
    have hcase : e1 = 2 ∨ (e1 = 0 ∧ ¬ k = 1) := by omega
    clear h1 g2 g3 g4
    rcases hcase with rfl | ⟨rfl, hk⟩
    all_goals
      go_enter Tryd.func56, Tryd.ntmps56
      go_wp2_with fail
      refine (Look_any _ _ _ _ b HR.out HU.out hc hm hn k c m q _ HLK.out).mono ?_; rintro e w1 ⟨G1, n1, c1, rfl, hs1, hb1⟩
      go_wp2_with fail
      go_returns
      exact ⟨none, 0, 0, none, 0, 0, rfl, Sl.nil _ _, Sl.nil _ _, hb1⟩
  · rw [if_neg h1] at hl
    obtain ⟨rfl, rfl⟩ : e1 = 0 ∧ k = 1 := by omega
    obtain ⟨u, t, e2, hup⟩ : ∃ u t e2, unpackR q m (wOf c) = (u, t, e2) := ⟨_, _, _, rfl⟩
    have gu := unpackR_u64 q m (wOf c); have gl := unpackR_len q m (wOf c)
    rw [hup] at hl gu gl
    dsimp only at hl gu gl
    have HUP := Lib.hid hup; have HU2 := Lib.hid gu
    clear hup gu h1 g2
    by_cases h2 : e2 ≠ 0
    · rw [if_pos h2] at hl
      injection hl with a1 hl; injection hl with a2 a3
      subst a1 a2 a3
      have h2' : ¬ e2 = 0 := h2
      clear h2
      go_enter Tryd.func56, Tryd.ntmps56
      go_wp2_with fail
      refine (Look_any _ _ _ _ b HR.out HU.out hc hm hn 1 c m q 0 HLK.out).mono ?_; rintro e w1 ⟨G1, n1, c1, rfl, hs1, hb1⟩
      have hn1 := hs1.1.len
      go_wp2_with fail
      refine (Of_any _ _).mono ?_; rintro e wo ⟨rfl, hbo⟩
      go_wp2_with fail
      refine (Unpack_any _ _ _ _ q m (wOf c) (hs1.1.below hbo) HU1.out hs1.2.1 (by omega) u t e2 HUP.out).mono ?_; rintro e w2 ⟨G2, n2, c2, G3, n3, c3, rfl, hs2, hs3, hb2⟩
      go_wp2_with fail
      go_returns
      exact ⟨none, 0, 0, none, 0, 0, rfl, Sl.nil _ _, Sl.nil _ _, on (on hb1 hbo) hb2⟩
    · rw [if_neg h2] at hl
      obtain rfl : e2 = 0 := by omega
      obtain ⟨p, e3, hmd⟩ : ∃ p e3, madeL u s = (p, e3) := ⟨_, _, rfl⟩
      rw [hmd] at hl
      dsimp only at hl
      have HMD := Lib.hid hmd
      clear hmd h2
      have h3c : Hid (e3 ≠ 0 ∧ e3 = 2 ∧ l = [] ∧ r = [] ∧ er = 2 ∨ e3 = 0 ∧ l = p ∧ r = t ∧ er = 0) := by
        by_cases h3 : e3 ≠ 0
        · rw [if_pos h3] at hl
          injection hl with a1 hl; injection hl with a2 a3
          have h4 : e3 = 2 := by
            have := HMD.out
            unfold madeL mapOk at this
            cases s
            · rw [if_neg (by simp)] at this
              split at this
              · injection this with _ h; omega
              · injection this with _ h; omega
            · rw [if_pos rfl] at this
              split at this
              · injection this with _ h; omega
              · injection this with _ h; omega
          exact .inl ⟨h3, h4, a1.symm, a2.symm, a3.symm⟩
        · rw [if_neg h3] at hl
          injection hl with a1 hl; injection hl with a2 a3
          exact .inr ⟨by omega, a1.symm, a2.symm, a3.symm⟩
      clear hl
      rcases h3c.out with ⟨_, rfl, rfl, rfl, rfl⟩ | ⟨rfl, rfl, rfl, rfl⟩
      all_goals
        clear h3c
        go_enter Tryd.func56, Tryd.ntmps56
        go_wp2_with fail
        refine (Look_any _ _ _ _ b HR.out HU.out hc hm hn 1 c m q 0 HLK.out).mono ?_; rintro e w1 ⟨G1, n1, c1, rfl, hs1, hb1⟩
        have hn1 := hs1.1.len
        go_wp2_with fail
        refine (Of_any _ _).mono ?_; rintro e wo ⟨rfl, hbo⟩
        go_wp2_with fail
        refine (Unpack_any _ _ _ _ q m (wOf c) (hs1.1.below hbo) HU1.out hs1.2.1 (by omega) u _ 0 HUP.out).mono ?_; rintro e w2 ⟨G2, n2, c2, G3, n3, c3, rfl, hs2, hs3, hb2⟩
        have hn2 := hs2.1.len
        go_wp2_with fail
        refine (Made_any _ _ _ _ u hs2.1 HU2.out (by omega) s _ _ HMD.out).mono ?_; rintro e w3 ⟨G4, n4, c4, rfl, hs4, hb4⟩
        go_wp2_with fail
        go_returns
        first
          | exact ⟨none, 0, 0, none, 0, 0, rfl, Sl.nil _ _, Sl.nil _ _, on (on (on hb1 hbo) hb2) hb4⟩
          | exact ⟨_, _, _, _, _, _, rfl, hs4, hs3.below hb4, on (on (on hb1 hbo) hb2) hb4⟩

end Go.Proofs.YtbmooemlekckbaaDoor

/- Plain laws: a head is read as it was laid down. -/
namespace Go.Proofs.YtbmooemlekckbaaDoor
open Go.RowKit

theorem look_head (c n : Int) (r : List Int) (hc : 0 ≤ c ∧ c ≤ 31) (hn : 1 ≤ n ∧ n ≤ 512) (k : Int) (hk : 0 ≤ k ∧ k ≤ 3) : lookR (headR k c n ++ r) = (k, c, n, r, 0) := by
  unfold headR
  rw [if_pos (by omega)]
  unfold lookR
  rw [if_neg (by simp)]
  simp only [List.cons_append, List.nil_append, List.getD_cons_zero, List.getD_cons_succ, List.drop_succ_cons, List.drop_zero]
  generalize hx : 16384 * k + 512 * c + n - 1 = x
  refine Prod.ext ?_ (Prod.ext ?_ (Prod.ext ?_ rfl)) <;> dsimp only <;> omega
theorem head_u8 (k c n : Int) : U8 (headR k c n) ∧ (headR k c n).length ≤ 2 := by
  unfold headR
  split
  · refine ⟨fun x hx => ?_, by simp⟩
    rcases List.mem_cons.1 hx with rfl | hx
    · omega
    · rw [List.mem_singleton.1 hx]; omega
  · exact ⟨fun x hx => by (cases hx), by simp⟩
end Go.Proofs.YtbmooemlekckbaaDoor

/- Plain laws: numbers that were laid down as they are are taken back. -/
namespace Go.Proofs.YtbmooemlekckbaaDoor
open Go.RowKit

theorem madeL_cases (l : List Int) (s : Bool) : ∃ u e, madeL l s = (u, e) ∧ ((e = 0 ∧ u.length = l.length ∧ (U64 l → I64 u)) ∨ (e = 2 ∧ u = [])) := by
  unfold madeL
  cases s
  · rw [if_neg (by simp)]
    unfold mapOk
    split
    · rename_i h
      refine ⟨_, _, rfl, .inl ⟨rfl, by simp, fun hi x hx => ?_⟩⟩
      rw [List.map_id] at hx
      have h1 := hi x hx
      have h2 := List.all_eq_true.1 h x hx
      simp at h2
      omega
    · exact ⟨_, _, rfl, .inr ⟨rfl, rfl⟩⟩
  · rw [if_pos rfl]
    unfold mapOk
    rw [if_pos (by simp)]
    refine ⟨_, _, rfl, .inl ⟨rfl, by simp, fun hi x hx => ?_⟩⟩
    obtain ⟨y, hy, rfl⟩ := List.mem_map.1 hx
    exact zag_range y (hi y hy).1 (hi y hy).2
theorem takeD_good (b : List Int) (s : Bool) : I64 (takeD b s).1 ∧ (takeD b s).1.length ≤ 4096 := by
  unfold takeD
  split
  · exact ⟨fun x hx => by (cases hx), by simp⟩
  · split
    · exact ⟨fun x hx => by (cases hx), by simp⟩
    · split
      · exact ⟨fun x hx => by (cases hx), by simp⟩
      · have h1 := unpackR_u64 (lookR b).2.2.2.1 (lookR b).2.2.1 (wOf (lookR b).2.1)
        have h2 := unpackR_len (lookR b).2.2.2.1 (lookR b).2.2.1 (wOf (lookR b).2.1)
        generalize (unpackR (lookR b).2.2.2.1 (lookR b).2.2.1 (wOf (lookR b).2.1)).1 = u at *
        obtain ⟨p, e, h3, h4⟩ := madeL_cases u s
        rw [h3]
        rcases h4 with ⟨_, h5, h6⟩ | ⟨_, rfl⟩
        · exact ⟨h6 h1, by dsimp only; omega⟩
        · exact ⟨fun x hx => by (cases hx), by simp⟩
theorem wOf_code (b : Int) (h0 : 0 ≤ b) (h : b ≤ 64) : wOf (wCode (wClosest b)) = wClosest b ∧ 0 ≤ wCode (wClosest b) ∧ wCode (wClosest b) ≤ 31 := by
  obtain ⟨w, hw⟩ : ∃ w, w = wClosest b := ⟨_, rfl⟩
  obtain ⟨c, hc⟩ : ∃ c, c = wCode w := ⟨_, rfl⟩
  obtain ⟨v, hv⟩ : ∃ v, v = wOf c := ⟨_, rfl⟩
  rw [← hw, ← hc, ← hv]
  unfold wClosest at hw
  unfold wCode at hc
  have r2 : 0 ≤ c ∧ c ≤ 31 := by omega
  refine ⟨?_, r2⟩
  unfold wOf at hv
  omega
def keepB (s : Bool) (x : Int) : Bool := s || decide (0 ≤ x)
theorem plain_made (l : List Int) (s : Bool) (hi : I64 l) (hk : l.all (keepB s) = true) : ∃ u, plainL l s = (u, 0) ∧ U64 u ∧ u.length = l.length ∧ madeL u s = (l, 0) := by
  cases s
  · have h1 : ∀ x ∈ l, 0 ≤ x := fun x hx => by
      have := List.all_eq_true.1 hk x hx
      simpa [keepB] using this
    refine ⟨l, ?_, fun x hx => by have := hi x hx; have := h1 x hx; omega, rfl, ?_⟩
    · unfold plainL mapOk
      rw [if_neg (by simp), if_pos (List.all_eq_true.2 fun x hx => decide_eq_true (h1 x hx)), List.map_id]
    · unfold madeL mapOk
      rw [if_neg (by simp), if_pos (List.all_eq_true.2 fun x hx => decide_eq_true (hi x hx).2), List.map_id]
  · refine ⟨l.map zig, ?_, fun x hx => ?_, by simp, ?_⟩
    · unfold plainL mapOk
      rw [if_pos rfl, if_pos (by simp)]
    · obtain ⟨y, hy, rfl⟩ := List.mem_map.1 hx
      exact zig_range y (hi y hy).1 (hi y hy).2
    · unfold madeL mapOk
      rw [if_pos rfl, if_pos (by simp), List.map_map]
      congr 1
      conv => rhs; rw [← List.map_id l]
      exact List.map_congr_left fun x _ => zag_zig x
theorem putD_back (l : List Int) (s : Bool) (hi : I64 l) (hk : l.all (keepB s) = true) (h1 : 1 ≤ l.length) (h2 : l.length ≤ 512) :
    ∃ p, putD l s = (p, 0) ∧ U8 p ∧ p.length ≤ 5000 ∧ ∀ behind, takeD (p ++ behind) s = (l, behind, 0) := by
  obtain ⟨u, hp, hu, hl, hm⟩ := plain_made l s hi hk
  obtain ⟨k, hk0, hk1, hk2, hroom⟩ := most_room u hu
  have hm64 := mostBits_le u hu
  have hcode := wOf_code (mostBits u) (by omega) (by omega)
  rw [hk0] at hcode
  have hbits : u.length * k ≤ 512 * 64 := Nat.mul_le_mul (by omega) hk2
  obtain ⟨q, hq, hq8, hql, _⟩ := pack_back u [] k hk2 (by omega) hu hroom
  refine ⟨headR 1 (wCode k) l.length ++ q, ?_, ?_, ?_, fun behind => ?_⟩
  · unfold putD
    rw [hp]
    dsimp only
    rw [if_neg (by omega), hk0, hq]
  · intro x hx
    rcases List.mem_append.1 hx with hx | hx
    · exact (head_u8 _ _ _).1 x hx
    · exact hq8 x hx
  · rw [List.length_append]
    have := (head_u8 1 (wCode k) l.length).2
    omega
  · obtain ⟨q', hq', _, _, hun⟩ := pack_back u behind k hk2 (by omega) hu hroom
    have e : q' = q := by rw [hq] at hq'; injection hq' with h _; exact h.symm
    subst e
    unfold takeD
    rw [List.append_assoc, look_head (wCode k) l.length (q' ++ behind) hcode.2 (by omega) 1 (by omega)]
    dsimp only
    rw [hcode.1, ← hl, hun]
    dsimp only
    rw [hm]
    simp
end Go.Proofs.YtbmooemlekckbaaDoor

/- Rle: plain: a run is the shortest one; where it is cut; all runs. -/
namespace Go.Proofs.YtbmooemlekckbaaDoor
open Go.RowKit

/-- The run of kind c. -/
def candR (l : List Int) (s : Bool) (c : Nat) : List Int × Int :=
  if c = 0 then timesR l s else if c = 1 then putD l s else if c = 2 then putDe l s else putPa l (wOf ((c - 3 : Nat) : Int)) s
def shortR (o : List Int) (q : List Int × Int) : List Int := if q.2 = 0 ∧ (o = [] ∨ q.1.length < o.length) then q.1 else o
def runK (l : List Int) (s : Bool) : Nat → List Int
  | 0 => []
  | c + 1 => shortR (runK l s c) (candR l s c)
def badRun (l : List Int) (s : Bool) : Bool := decide (l.length < 1) || decide (512 < l.length) || (!s && l.any fun y => decide (y < 0))
/-- One run. -/
def runR (l : List Int) (s : Bool) : List Int × Int := if badRun l s then ([], 1) else (runK l s 34, 0)
theorem putD_ne (l : List Int) (s : Bool) (hu : I64 l) (p : List Int) (h : putD l s = (p, 0)) : 1 ≤ p.length := by
  unfold putD at h
  split at h
  · injection h with _ h; cases h
  · rename_i hb
    injection h with h _
    subst h
    obtain ⟨u, e, hpl, hcase⟩ := plainL_cases l s
    rw [hpl] at hb ⊢
    rcases hcase with ⟨rfl, hul, hu6⟩ | ⟨rfl, rfl⟩
    · obtain ⟨k, hk, hk1, hk2, hroom⟩ := most_room u (hu6 hu)
      have hb2 : ¬ l.length < 1 ∧ ¬ 512 < l.length := by
        refine ⟨fun h => hb (.inr (.inl h)), fun h => hb (.inr (.inr h))⟩
      rw [List.length_append]
      dsimp only
      have h64 := mostBits_le u (hu6 hu)
      have hw := wOf_code (mostBits u) (by omega) (by omega)
      unfold headR
      rw [if_pos (by omega)]
      simp only [List.length_cons]
      omega
    · exact absurd (.inl (by decide)) hb
theorem cand_ne (l : List Int) (s : Bool) (hu : I64 l) (c : Nat) (p : List Int) (h : candR l s c = (p, 0)) : 1 ≤ p.length := by
  unfold candR at h
  split at h
  · unfold timesR at h
    split at h
    · unfold putR at h
      split at h
      · injection h with _ h; cases h
      · injection h with h _; subst h; simp
    · injection h with _ h; cases h
  · split at h
    · exact putD_ne l s hu p h
    · split at h
      · unfold putDe at h
        split at h
        · injection h with _ h; cases h
        · injection h with h _; subst h
          simp only [List.length_append]
          have := (vput_len 9 (unsN (dAt l 0) true)).1
          unfold vput
          omega
      · unfold putPa at h
        split at h
        · injection h with _ h; cases h
        · injection h with h _; subst h
          simp only [List.length_append, twoPa, List.length_cons]
          omega
end Go.Proofs.YtbmooemlekckbaaDoor
